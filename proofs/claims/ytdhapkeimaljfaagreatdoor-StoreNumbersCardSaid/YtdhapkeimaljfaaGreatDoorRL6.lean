/- Parts of the proofs about bulletinlaw29: Sto19, Jou21, Sto12, Sto20, Sto29, Sto30, Sto31, Sto32, Sto33, Dsk9, Sto34, Knw1, Knw2, Num5, Num6, Num7. -/
import Derived.Test.YtdhapkeimaljfaaGreatDoorRL1
import Derived.Test.YtdhapkeimaljfaaGreatDoorRL2
import Derived.Test.YtdhapkeimaljfaaGreatDoorRL3
import Derived.Test.YtdhapkeimaljfaaGreatDoorRL4
import Derived.Test.YtdhapkeimaljfaaGreatDoorRL5
set_option maxRecDepth 100000
set_option linter.all false
set_option maxHeartbeats 8000000
namespace Go.Proofs.YtdhapkeimaljfaaGreatDoor
open Go Go.RowKit Go.Proofs Tryz
def br_:=@Array.size_setIfInBounds
def ah_:=@Option.bind_eq_some_iff
def bU_:=@List.length_take_le
section
theorem xDq (a:PArt):∀(c b:List (ByteArray×Nat)) (L:LF),uY a L (c++b)=(uY a L c).bind λM=>uY a M b
 |[],_,_=>rfl
 |x :: c,b,L=>by
  show (if jk (L x.1) x.1 (a.line x.2)=0 then uY a (setL L x.1 (addP (L x.1) (a.line x.2))) (c++b)else none)=(if jk (L x.1) x.1 (a.line x.2)=0 then uY a (setL L x.1 (addP (L x.1) (a.line x.2))) c else none).bind λM=>uY a M b
  split
  ·exact xDq a c b _
  ·rfl
theorem yCs {a:PArt}{L M:LF}{l}(x)(h:uY a L l=some M):uY a L (l++[x])=if jk (M x.1) x.1 (a.line x.2)=0 then some (setL M x.1 (addP (M x.1) (a.line x.2)))else none:=by
 rw[xDq,h];show uY a M [x]=_
 unfold uY;split <;> rfl
theorem yGe {a:PArt}{L M:LF}{l k}(b:k<l.length)(h:uY a L (l.take k)=some M)(c:jk (M l[k].1) l[k].1 (a.line l[k].2)≠0):uY a L l=none:=by
 rw[<-Q0 k l,xDq,h,M3 b];show uY a M (l[k] :: _)=none
 unfold uY;rw[if_neg c]
theorem PrtD.off {b w w' x}(h:PrtD b w x){F}(d:Kept F w w')(e:∀k∈F,k∉x.feet)(f:∀k∈F,∀cs,w.heap[k]?≠some (.cells cs 42 (0,0))):PrtD b w' x:=
 ⟨⟨h.all.h.kept d (λk a c=>e k c (Prt.mem_feet.2 (.inl a))),h.all.s.kept d (λk a c=>e k c (Prt.mem_feet.2 (.inr (.inl a)))),h.all.t.kept d (λk a c=>e k c (Prt.mem_feet.2 (.inr (.inr (.inl a))))),h.all.o.keptF d (λk a c=>e k c (Prt.mem_feet.2 (.inr (.inr (.inr a))))) f⟩,h.hs,h.ht,h.ho,h.st,h.so,h.tq⟩
theorem ub.from {a b nb w c w' r Ap e}(d:Below a w c)(h:ub a b nb r Ap c e w'):ub a b nb r Ap w e w':=⟨d.trans h.1,h.2⟩
theorem xG7 (l:List (ByteArray×Nat)):vy l=k9 (l.map λx=>(x.1,(x.2:Int))):=by
 unfold vy k9;rw[List.flatMap_map]
theorem zm.comp {b nb j i g f d c}(h:zm b nb j f d i)(h2:zm b nb i d c g):zm b nb j f c g:=
 ⟨h2.prt,h2.nbr,h.kept.trans h2.kept (λk a=>h.ft k a),λk a=>(h2.ft k a).elim (h.ft k) (λe=>.inr (R_ h.kept.size e)),h.lo,h.fb⟩
def xJx (B0 ob:Nat)(A:Art)(a:PArt)(c:PC)(W:World):Prop:=xMx c a/\qL W A a/\∃pl,xAk W ob A pl/\W.ownsRow B0 72 2 pl a.groups.length (vy (plOf c.tc a.groups))
attribute [local go_sem ↓] xP xI qG qU qd uC qZ ja vm vo yp y8 ym xMc kU
attribute [local go_sem] zg zj xHw xHh xD7 xCu xGf xFx zC zA yI3 zr zx yA yz xh xg xe xd xx xy xk xj xq xB xw
theorem xIw {b w x}(h:PrtD b w x)(nb)(J:w.heap[nb]?=some (.cells (xR x) 107 (0,0)))(hG:Gl w)(Gz:prog.globals.size<=b)
  (a:PArt) (A:Art) (ob D) (og:ob∉x.feet) (KN:D<=ob) (Xh:D<=b) (Z:qL w A a) (ah:∀k∈x.feet,A.groups.ownBlock≠some k/\A.refs.ownBlock≠some k) (ho:xAk w ob A (.slice none 0 0)) (hf:a.Fits)
  (Mh:x.pc.hes.length<=1000) (Di:x.pc.bytes<=x.pc.budget) (az:x.pc.budget<=1073741824) (cw:x.pc.next<=1000) (dT:∀k c,x.pc.tc k=some c->c.ivs.length<=400000) (bO:total x.gs+22<65536):
  Calls prog 321 #[.pointer (some ⟨ob,0,none⟩),.pointer (some ⟨nb,0,none⟩)] w (ub D b nb (putO x.pc a) (xJx D ob A a x.pc) w):=by
 have fW:=(i_ J).1;have mG:=(i_ ho).1;obtain⟨a0,Dl⟩:∃a0,a0=w.heap.size:=⟨_,rfl⟩;obtain⟨I,aj⟩:∃I,I=w.alloc (.cells (xA A) 46):=⟨_,rfl⟩;have aa:Below w.heap.size w I:=by grind
 have aH:I.heap[a0]?=some (.cells (xA A) 46 (0,0)):=by grind
 obtain⟨e0,Sf⟩:∃e0,e0=I.heap.size:=⟨_,rfl⟩;obtain⟨f,aR⟩:∃f,f=I.alloc (.cells (xr ⟨a.id,a.arr,a.date,0,a.perm⟩) 79):=⟨_,rfl⟩;have aN:Below I.heap.size I f:=by grind
 have aF:f.heap[e0]?=some (.cells (xr ⟨a.id,a.arr,a.date,0,a.perm⟩) 79 (0,0)):=by grind
 have ai:=aa.trans (aN.mono aa.size);have Ac:f.heap[a0]?=some (.cells (xA A) 46 (0,0)):=by grind
 obtain⟨o0,r0⟩:=yGa ho;obtain⟨oi,ri⟩:=xF1 (l:=[]) (w:=I) (b:=a0) (a:=A) (by rw[G5];exact aH);rw[Z.id]at ri;have Qf:=(cell_of_row I a0 34 _ _ _ aH).trans (ar34 A);have Qg:=(cell_of_row I a0 35 _ _ _ aH).trans (ar35 A);have k39:=(cell_of_row I a0 39 _ _ _ aH).trans (ar39 A);rw[Z.date]at Qf;rw[Z.arr]at Qg;rw[Z.perm]at k39;have aU:xt 40 (xA A)=true:=vA Z.ones.1 Z.ones.2;have si:((xA ut).size==40)=true:=by rw[yt];rfl
 have hfh:=xE5 ⟨a.id,a.arr,a.date,0,a.perm⟩;have hzh:((xr qy).size==36)=true:=by rw[xM];rfl
 have hrh:=xF (n:=36) aF (xM _);have aw:zm b nb f x x f:=zm.start (h.below ai) ((ai.block nb fW).trans J);have Qh:Below f.heap.size f f.drew:=by grind
 have td:=h_ (yFa ((aw.below Qh).prt.all.h) ⟨a.id,a.arr,a.date,0,a.perm⟩ rfl (by have:x.pc.hes.length=x.h.es.length:=M5 _;omega));have cU:=h_ aw;have BY:=h_ (And.intro ah og);have N:=h_ (Z.below ai);have bS:=h_ hf;have iw:Hid (xAk f ob A (.slice none 0 0)):=h_ ((ai.block ob mG).trans ho);have pU:=h_ Ac;have HG:Hid (Gl f):=h_ (hG.later ai);have C:=h_ (And.intro Gz (And.intro KN (And.intro Xh (ai.mono (R_ Xh h.lt)))));have ta:=h_ (And.intro Di (And.intro az (And.intro cw (And.intro dT bO))));have W:Hid (a0∉x.feet/\a0<f.heap.size/\ob<f.heap.size):=h_ ⟨λhm=>by have:=(h.all.feet_lt _ hm).2;omega,(i_ Ac).1,b7 mG ai.size⟩;have zh1:∀z:xf f,xp z.1 ⟨e0,0,none⟩ 36=true:=by grind [xf.ok]
 have zh2:∀z:xf f,xo z.1 ⟨e0,0,none⟩ 36=xr ⟨a.id,a.arr,a.date,0,a.perm⟩:=by grind [xf.rd]
 have R:=cell_of_row f nb 0 _ _ _ aw.nbr;simp only[xR,v_]at R;have z0:∀z:xf f,z.1.cell? ⟨nb,0,none⟩=some (.pointer (some ⟨x.h.p,0,none⟩)):=by grind
 clear h J hG Gz og KN Xh Z ah ho hf Mh Di az cw dT bO fW mG aa aH aN aF ai Ac hrh aw Qh R;go_enter func321,ntmps321;go_upto_region 2 with fail
 refine xm aj ?_;rw[<-Dl];clear aj o0 r0 Dl;go_upto_region 3 with fail
 refine xm aR ?_;rw[<-Sf];clear aR oi ri Qf Qg k39 Sf;refine xz [0,1,2,3,4] [5,6] (λw'=>∃z:xf f,w'=z.1) ⟨⟨f.drew,(z_ _ _).drew⟩,rfl⟩ ?_;simp only[o_]
 repeat (go_big_quiet_step (fail))
 refine wpQuiet_nil ?_;clear z0 zh1 zh2;refine yE ?_;simp only[o_];go_wp2_with fail;refine td.mono ?_;intro e' y O;have U:=cU.below (z_ f.heap.size f).drew;obtain⟨er,d⟩:∃er,er=xJ7 x.h.es ⟨a.id,a.arr,a.date,0,a.perm⟩:=⟨_,rfl⟩;rw[<-d]at O;by_cases hz:er=0
 case neg=>
  obtain⟨rfl,ao⟩:=O.2 hz;have Ev:(er==0)=false:=by simpa using hz
  have S:Hid (ub D b nb (putO x.pc a) (xJx D ob A a x.pc) w (.returned (.int .i64 er)) y):=h_ (ub.from (C.2.2.2.trans ((U.below ao).bel.mono C.2.2.1)) ⟨z_ _ _,by
   have:putO x.pc a=none:=by
    unfold putO;rw[if_neg];rintro ⟨h1,h2,_⟩;refine hz (d.trans ?_);unfold xJ7;rw[if_pos h1,jD,if_neg];show ¬ (zn a.id x.pc.hes).isSome=true
    rw[h2];simp
   rw[this];exact⟨er,hz,rfl⟩⟩)
  clear O d hz ao U td;go_wp2;refine T_ ?_;go_wp2;go_ret;exact S.out
 case pos=>
 subst hz;obtain⟨rfl,bz,p9⟩:=O.1 rfl;have oR:=U.setH bz p9 rfl rfl;obtain⟨h3,JK⟩:∃h3,h3=({ x.h with es:=putL a.id (.agg (xr ⟨a.id,a.arr,a.date,0,a.perm⟩)) x.h.mc x.h.es,mc:=putC a.id x.h.mc x.h.es }:Hst):=⟨_,rfl⟩
 have pP:Hid ((minB a.arr&&minB a.date)=true/\zn a.id x.pc.hes=none):=h_ (by
  unfold xJ7 at d;split at d
  ·rename_i h1;refine⟨h1,?_⟩;split at d
   ·cases d
   ·rename_i h2;have h3:getK a.id x.h.es=none:=by simpa using h2
    rw[<-h3];exact(jD _ _).symm
  ·cases d)
 have SQ:Hid (kvs h3.es=vI a.id (.agg (xr a.h)) x.pc.hes/\h3.cut=x.h.cut):=h_ (by rw[JK];exact⟨xQn _ _ _ _,rfl⟩);have oR:zm b nb f x { x with h:=h3 } y:=by rw[JK];exact oR
 have Bj:=xR1 (x:=⟨a.id,a.arr,a.date,0,a.perm⟩) pP.1 rfl;have FH:=h_ (yDi (oR.below (z_ y.heap.size y).drew).prt.all.s a.id a.text a.arr (by have:=bS.text;omega) Bj.1 Bj.2.1 ta.1 ta.2.1 ta.2.2.1);have Jf:=(oR.kept.block a0 W.2.1 W.1).trans pU.out;have Qi:=xF1 (l:=[]) (w:=y) (b:=a0) (a:=A) (by rw[G5];exact Jf);rw[N.id]at Qi;have JL:=(cell_of_row y a0 32 _ _ _ Jf).trans (ar32 A);have Qg:=(cell_of_row y a0 35 _ _ _ Jf).trans (ar35 A);rw[N.text]at JL;rw[N.arr]at Qg;have z1:∀z:xf y,xp z.1 ⟨a0,0,none⟩ 32=true:=by grind [xf.ok]
 have z2:∀z:xf y,xo z.1 ⟨a0,0,none⟩ 32=(xl a.id).toArray:=by grind [xf.rd]
 have z3:∀z:xf y,z.1.cell? ⟨a0,32,none⟩=some (.string a.text):=by grind
 have z4:∀z:xf y,z.1.cell? ⟨a0,35,none⟩=some (.int .i64 a.arr):=by grind
 have R:=cell_of_row y nb 1 _ _ _ oR.nbr;simp only[xR,v_]at R;have z0:∀z:xf y,z.1.cell? ⟨nb,1,none⟩=some (.pointer (some ⟨x.s.p,0,none⟩)):=by grind
 have nP:=h_ oR;clear R O d bz p9 JK U oR Bj Jf Qi JL Qg td;go_wp2;refine T_ ?_;go_upto_region 6 with fail
 refine xz [0,1,2,3,4,5,6,7,8,9] [10,11] (λw'=>∃z:xf y,w'=z.1) ⟨⟨y.drew,(z_ _ _).drew⟩,rfl⟩ ?_;simp only[o_]
 repeat (go_big_quiet_step (fail))
 refine wpQuiet_nil ?_;clear z0 z1 z2 z3 z4;refine yE ?_;simp only[o_];go_wp2_with fail;refine FH.mono ?_;intro e' H mf;have U:=nP.below (z_ y.heap.size y).drew;obtain⟨er,d⟩:∃er,er=xCv x.s a.id a.text:=⟨_,rfl⟩;unfold yA2 at mf;simp only[<-d]at mf;by_cases hz:er=0
 case neg=>
  obtain⟨rfl,aQ⟩:=mf.2 hz;have Ev:(er==0)=false:=by simpa using hz
  have S:Hid (ub D b nb (putO x.pc a) (xJx D ob A a x.pc) w (.returned (.int .i64 er)) H):=h_ (ub.from (C.2.2.2.trans ((U.below aQ).bel.mono C.2.2.1)) ⟨z_ _ _,by
   have:putO x.pc a=none:=by
    unfold putO;rw[if_neg];rintro ⟨_,_,h1,h2,h3⟩;refine hz (d.trans ?_);unfold xCv;rw[if_neg h1,if_neg,if_pos (show x.s.bytes+a.text.size<=x.s.budget from h3)];rw[jD];show ¬ (zn a.id x.pc.ses).isSome=true
    rw[h2];simp
   rw[this];exact⟨er,hz,rfl⟩⟩)
  clear mf d hz aQ U FH;go_wp2;refine T_ ?_;go_wp2;go_ret;exact S.out
 case pos=>
 subst hz;obtain⟨rfl,dd,fF⟩:=mf.1 rfl
 have p_:Hid (xMx x.pc a):=h_ (by
  unfold xCv at d;split at d
  ·cases d
  ·rename_i h1;split at d
   ·cases d
   ·rename_i h2;split at d
    ·rename_i h3;have h4:getK a.id x.s.es=none:=by simpa using h2
     exact⟨pP.1,pP.2,h1,by rw[<-h4];exact(jD _ _).symm,h3⟩
    ·cases d)
 obtain⟨X,EG⟩:∃X,X=({ x.s with es:=putL a.id (.agg (xU ⟨a.text,a.arr,x.s.next⟩)) x.s.mc x.s.es,mc:=putC a.id x.s.mc x.s.es,bytes:=x.s.bytes+a.text.size,next:=x.s.next+1 }:Spo):=⟨_,rfl⟩;have Q:zm b nb f x { x with h:=h3,s:=X } H:=by rw[EG];exact U.setS dd fF rfl rfl
 have GC:Hid (kvs X.es=vI a.id (.agg (xU ⟨a.text,a.arr,x.pc.next⟩)) x.pc.ses/\X.budget=x.s.budget/\X.bytes=x.s.bytes+a.text.size/\X.next=x.s.next+1):=h_ (by rw[EG];exact⟨xQn _ _ _ _,rfl,rfl,rfl⟩);have Dh:=h_ Q;have JM:qL H A a:=N.kept Q.kept BY.1;obtain⟨ga,gc,V,BW⟩:=j0 JM.groups;obtain⟨n,J⟩:∃n,n=a.groups.length:=⟨_,rfl⟩;rw[<-J]at V BW;have Xi:=(Q.kept.block a0 W.2.1 W.1).trans pU.out;have JN:=(cell_of_row H a0 36 _ _ _ Xi).trans (ar36 A);rw[V]at JN;have HN:=h_ J;have Xj:=h_ V;by_cases hnil:n=0
 case pos=>
  subst hnil;have gB:a.groups=[]:=ap_.1 J.symm
  have S:Hid (ub D b nb (putO x.pc a) (xJx D ob A a x.pc) w (.returned (.int .i64 0)) H):=h_ (ub.from (C.2.2.2.trans (Q.bel.mono C.2.2.1)) ⟨z_ _ _,by
   have:putO x.pc a=some (put1 x.pc a):=by
    unfold putO;rw[if_pos p_.out,if_pos gB]
   rw[this];refine⟨rfl,⟨_,Q.prt,?_,Q.nbr⟩,p_.out,JM,.slice none 0 0,(Q.kept.block ob W.2.2 BY.2).trans iw.out,by rw[gB];exact D1 _ _ _ _⟩;unfold Prt.pc put1;simp only[SQ.1,SQ.2,GC.1,GC.2.1,GC.2.2.1,GC.2.2.2];rfl⟩)
  clear mf d dd fF EG Q U JM V BW J Xi gB FH;go_wp2;refine T_ ?_;go_wp2;go_ret;exact S.out
 case neg=>
 have hne:a.groups≠[]:=λe=>hnil (by rw[J,e];rfl)
 have V1:((n:Int)==0)=false:=by simp;omega
 obtain⟨gb,rfl⟩:∃gb,ga=some ⟨gb,0,none⟩:=by
  obtain⟨g,cap,hu,_⟩:=xQ6 JM.groups (k:=0) (by omega);rw[V]at hu;exact⟨g,by grind⟩
 have dI:gb<H.heap.size:=(JM.groups.lt gb (by rw[V];rfl)).2
 have Qj:Hid (∀z:xf H,Calls prog 324 #[.pointer (some ⟨x.t.p,0,none⟩),.slice (some ⟨gb,0,none⟩) n gc] z.1 (xSq b x.t a.groups z.1)):=h_ (λz=>by
  obtain⟨z,bt⟩:=z
  have:=xW8 (Q.prt.all.t.below bt) a.groups gb gc (λj u K=>by
   have iu:=(L7.1 K).1;obtain⟨g,cap,hu,_,_,ak⟩:=xQ6 (JM.below bt).groups iu;rw[V]at hu;have:gb=g:=by grind
   rw[m0,this,ak];rw[<-(L7.1 K).2]) (b7 dI bt.size) (λhm=>(BY.1 gb (Prt.mem_feet.2 (.inr (.inr (.inl hm))))).1 (by rw[V];rfl)) (by rw[<-J];exact BW) hne (by have:=bS.ng;omega) (λk c hk=>R_ (ta.2.2.2.1 k c hk) (by omega))
  rw[<-J]at this;exact this)
 have z3:∀z:xf H,z.1.cell? ⟨a0,36,none⟩=some (.slice (some ⟨gb,0,none⟩) n gc):=by grind
 have R:=cell_of_row H nb 2 _ _ _ Q.nbr;simp only[xR,v_]at R;have z0:∀z:xf H,z.1.cell? ⟨nb,2,none⟩=some (.pointer (some ⟨x.t.p,0,none⟩)):=by grind
 have nX:=h_ hne;have lU:(n:Int)<=22:=by have:=bS.ng;omega
 clear mf d dd fF EG Q U JM V J Xi dI R hne hnil FH;go_wp2;refine T_ ?_;go_upto_region 11 with fail
 clear JN;refine uO ?_;refine xAy [0,1,2,3,4,5] [6,7] 4 (λw'=>∃z:xf H,w'=z.1) ⟨⟨_,(z_ _ _).drew⟩,rfl⟩ ?_;simp only[o_]
 repeat (go_big_quiet_step (fail))
 refine wpQuiet_nil ?_;rintro _ ⟨z,rfl⟩;clear z0 z3;refine xCo ?_;simp only[o_];go_wp2_with fail;refine(Qj.out z).mono ?_;rintro e' w5 ⟨pv,rfl,ia,dp⟩;obtain⟨z,bt⟩:=z;obtain⟨er,d⟩:∃er,er=uL x.t.c a.groups:=⟨_,rfl⟩;rw[<-d]at ia dp;rw[<-d]
 dsimp only at ia dp
 have iC:=h_ ia;have mX:=h_ dp;have Ll:=h_ d;have KP:=h_ bt;clear ia dp d bt Qj;go_wp2;refine T_ ?_;rw[ur];refine xAz [8,9] [10,11] 0 (λw'=>w'=w5) rfl ?_;simp only[o_]
 repeat (go_big_quiet_step (fail))
 refine wpQuiet_nil ?_;refine xB0 true rfl (by kernel_rfl) ?_;go_wp2;refine⟨λ_=>rfl,xCo ?_⟩;simp only[o_];go_wp2;refine T_ ?_;rw[ur];refine kB ?_;by_cases hz:er=0
 case neg=>
  have Ev:(er==0)=false:=by simpa using hz
  have S:Hid (ub D b nb (putO x.pc a) (xJx D ob A a x.pc) w (.returned (.int .i64 er)) w5):=h_ (ub.from (C.2.2.2.trans (((Dh.below KP.out).below (iC.out hz).2).bel.mono C.2.2.1)) ⟨z_ _ _,by
   have:putO x.pc a=none:=by
    unfold putO;rw[if_pos p_.out,if_neg nX.out,if_neg];intro e;exact hz (Ll.trans e)
   rw[this];exact⟨er,hz,rfl⟩⟩)
  clear hz;go_wp2;go_ret;exact S.out
 case pos=>
 subst hz;obtain⟨dC,⟨t5,t6,e51,e52,Xk,e54,pX⟩,iP⟩:=mX.out rfl;rw[X3]at Xk iP;have sd:=(Dh.below KP.out).setT dC t6 e51 pX;obtain⟨v,gg⟩:∃v:Prt,v={ x with h:=h3,s:=X,t:=t5 }:=⟨_,rfl⟩;have sd:zm b nb f x v w5:=by rw[gg];exact sd
 have JG:=h_ sd
 have oO:Hid (v.ib=x.ib/\v.M=x.M/\v.gs=x.gs/\v.mc=x.mc/\∀gs mc,({ v with gs:=gs,mc:=mc }:Prt).pc={ put1 x.pc a with tc:=uK x.pc.tc a.groups,lf:=lfOf gs }):=h_ (by
  rw[gg];refine⟨rfl,rfl,rfl,rfl,λgs mc=>?_⟩;unfold Prt.pc put1;simp only[SQ.1,SQ.2,GC.1,GC.2.1,GC.2.2.1,GC.2.2.2,Xk,e54];rfl)
 obtain⟨L,hL⟩:∃L,L=plOf x.t.c a.groups:=⟨_,rfl⟩;have hLn:L.length=n:=by rw[hL,HN.out];exact M5 _
 rw[<-hL,<-HN.out,xG7]at iP;have CS:∀k∈v.feet,pv.ownBlock≠some k:=λk hk e=>by
  have h1:=(iP.lt k e).1;have h2:H.heap.size<=z.heap.size:=KP.size;rcases Prt.mem_feet.1 hk with h3|h3|h3|h3
  ·have:=(Hst.foot_lt Dh.prt.all.h k (by rw[gg]at h3;exact h3)).2;omega
  ·have:=(Spo.foot_lt Dh.prt.all.s k (by rw[gg]at h3;exact h3)).2;omega
  ·exact t6.not_pl iP e (by rw[gg]at h3;exact h3)
  ·have:=(Dh.prt.all.o.foot_lt k (by rw[gg]at h3;exact h3)).2;omega
 have Xl:=h_ CS;have dR:=h_ iP;have cO:=h_ hL;have l_:=h_ hLn;obtain⟨pa,pc,iK,bC⟩:=j0 iP;have oS:=h_ iK;subst iK;clear dC t6 e51 e52 Xk e54 pX iP sd gg hL hLn CS iC mX;go_wp2;go_loopw [70] (λi wr=>∃k:Nat,i=.int .i64 k/\k<=n/\Hid (∃gs' mc',zm b nb w5 v { v with gs:=gs',mc:=mc' } wr/\uY a (lfOf x.gs) (L.take k)=some (lfOf gs')/\total gs'=total x.gs+k)) (λi _=>n-(intOf i).toNat)
 case atStart=>exact⟨0,rfl,n3 _,h_ ⟨v.gs,v.mc,zm.start JG.prt JG.nbr,by rw[oO.2.2.1];rfl,by rw[oO.2.2.1];rfl⟩⟩
 case round=>
  obtain⟨k,rfl,hk,HT⟩:=hrel;obtain⟨gs',mc',JO,m4,BP⟩:=HT.out;have E:=JG.comp JO;by_cases hlt:k<n
  ·have aM:(k:Int)<(n:Int):=by omega
   have aT:k<L.length:=by rw[l_.out];exact hlt
   have iX:k<(L.map λx=>(x.1,(x.2:Int))).length:=by rw[M5];exact aT
   have FL:(L.map λx=>(x.1,(x.2:Int))).length=n:=by rw[M5];exact l_.out
   have Bk:=yf dR.out JO.kept Xl.out;rw[<-FL]at Bk;obtain⟨g,cap,hu,bE,BI,mY,c8,c9⟩:=xL5 Bk iX;clear c8 c9;rw[FL]at hu bE;have NC:pa=some ⟨g,0,none⟩:=by grind
   have Xm:(n:Int)<=pc:=by omega
   rw[bj_]at mY;have SL:L[k].1∈a.groups:=by
    have:L[k]∈plOf x.t.c a.groups:=by rw[<-cO.out];exact L3 aT
    obtain⟨t,ht,e⟩:=D4.1 this;rw[<-e];exact ht
   have JP:=bS.gs _ SL;have cD:Hid (L.take (k+1)=L.take k++[L[k]]):=h_ (d0 aT);have GD:Hid (∀M,uY a (lfOf x.gs) (L.take k)=some M->jk (M L[k].1) L[k].1 (a.line L[k].2)≠0->uY a (lfOf x.gs) L=none):=h_ (λM h1 h2=>yGe aT h1 h2);obtain⟨q,hq⟩:∃q,q=L[k]:=⟨_,rfl⟩;rw[<-hq]at mY cD JP GD;obtain⟨s,m⟩:=q;simp only at mY JP;have iI:xt 2 #[Value.string s,.int .i64 (m:Int)]=true:=by simp[xt,Value.oneCell']
   have Sz:(#[Value.string ⟨#[]⟩,Value.int .i64 0].size==2)=true:=rfl;obtain⟨p0,Qk⟩:∃p0,p0=wr.heap.size:=⟨_,rfl⟩;obtain⟨B,dS⟩:∃B,B=wr.alloc (.cells #[.string s,.int .i64 (m:Int)] 72):=⟨_,rfl⟩;have bM:Below wr.heap.size wr B:=by grind
   have eE:B.heap[p0]?=some (.cells #[.string s,.int .i64 (m:Int)] 72 (0,0)):=by grind
   have K8:=E.below bM;have wW:=(K8.kept.block a0 W.2.1 W.1).trans pU.out;have Xn:qL B A a:=N.kept K8.kept BY.1;obtain⟨ra,rc,oh,_⟩:=j0 Xn.refs;have q1:=cell_of_row B p0 1 _ _ _ eE;simp only[v_]at q1;obtain⟨oi,ri⟩:=xF1 (l:=[]) (w:=B) (b:=a0) (a:=A) (by rw[G5];exact wW);rw[N.id]at ri;have JL:=(cell_of_row B a0 32 _ _ _ wW).trans (ar32 A);have Ql:=(cell_of_row B a0 33 _ _ _ wW).trans (ar33 A);have Qf:=(cell_of_row B a0 34 _ _ _ wW).trans (ar34 A);have Qm:=(cell_of_row B a0 37 _ _ _ wW).trans (ar37 A);have GE:=(cell_of_row B a0 38 _ _ _ wW).trans (ar38 A);rw[N.text]at JL;rw[N.name]at Ql;rw[N.date]at Qf;rw[N.subj]at Qm;rw[oh]at GE;obtain⟨rn,r_⟩:∃rn,rn=a.refs.length:=⟨_,rfl⟩;rw[<-r_]at GE oh;obtain⟨P,hP⟩:∃P:qx,P=a.line m:=⟨_,rfl⟩;obtain⟨G,hG⟩:∃G:jp,G=ML.g ⟨P,.slice ra rn rc⟩:=⟨_,rfl⟩;have az:∀w,zl prog 70 w #[(0,.int .i64 (m:Int)),(1,.agg (xl a.id).toArray),(2,.string a.name),(3,.int .i64 a.date),(4,.string a.subj),(5,.slice ra rn rc),(6,.int .i64 a.text.size)]=.ok (.value (.agg (x9 G))) w:=λw=>by
    rw[hG,hP];exact yG7 w (ML.g ⟨a.line m,.slice ra rn rc⟩) rfl
   have hfl:xt 38 (x9 G)=true:=zJ (by rw[hG];rfl);have hzl:((x9 xK).size==38)=true:=by rw[xO];rfl
   obtain⟨l0,oB⟩:∃l0,l0=B.heap.size:=⟨_,rfl⟩;obtain⟨r,fK⟩:∃r,r=B.alloc (.cells (x9 G) 70):=⟨_,rfl⟩;have co:Below B.heap.size B r:=by grind
   have oo:r.heap[l0]?=some (.cells (x9 G) 70 (0,0)):=by grind
   have Qo:=(co.block _ (i_ eE).1).trans eE;have EH:Below r.heap.size r r.drew:=by grind
   have BZ:Below wr.heap.size wr r:=bM.trans (co.mono bM.size);have JQ:=(JO.below BZ).below EH;have Xo:=E.below BZ;have Qp:Gl r.drew:=(HG.below Xo.bel C.1).later EH;have hA7:qL r.drew A a:=(Xn.below co).below EH;have Xp:yJ 0 r.drew (.slice ra rn rc) P.ids:=by rw[<-oh,hP];exact hA7.refs
   have GF:total gs' < 65536:=by have:=ta.2.2.2.2;omega
   have JR:=h_ (yI8 b v.ib v.M mc' gs' s P (.slice ra rn rc) r.drew Qp JQ.prt.all.o (by unfold maxLen;omega) ⟨Xp.at,by rw[hP];have:=bS.nr;unfold maxLen;show a.refs.length<=_;omega,by rw[hP];have:=bS.name;unfold maxLen;show a.name.size<=_;omega,by rw[hP];have:=bS.subj;unfold maxLen;show a.subj.size<=_;omega⟩ Xp GF);rw[<-hG]at JR;have Qq:=cell_of_row r p0 0 _ _ _ Qo;simp only[v_]at Qq;have fj:=xF (n:=38) oo (xO G);have z1:∀z:xf r,z.1.cell? ⟨p0,0,none⟩=some (.string s):=by grind
   have z2:∀z:xf r,xp z.1 ⟨l0,0,none⟩ 38=true:=by grind [xf.ok]
   have z3:∀z:xf r,xo z.1 ⟨l0,0,none⟩ 38=x9 G:=by grind [xf.rd]
   have R:=cell_of_row r nb 3 _ _ _ Xo.nbr;simp only[xR,v_]at R;have z0:∀z:xf r,z.1.cell? ⟨nb,3,none⟩=some (.pointer (some ⟨v.ib,0,none⟩)):=by grind
   have Qr:=h_ JQ;have Xq:=h_ (And.intro m4 BP);have HPD:=h_ hP;have Bs:=h_ oh;subst NC;clear R JO m4 BP E aT iX FL Bk hu bE SL JP hq bM eE K8 wW Xn oh r_ hP hG co oo Qo EH BZ JQ Xo Qp hA7 Xp GF Qq fj HT;go_upto_region 17 with fail
   refine xm dS ?_;rw[<-Qk];clear dS BI mY Qk;go_upto_region 18 with fail
   refine xm fK ?_;rw[<-oB];clear fK q1 oi ri JL Ql Qf Qm GE az oB;refine xz [0,1,2,3,4,5,6] [7,8] (λw'=>∃z:xf r,w'=z.1) ⟨⟨r.drew,(z_ _ _).drew⟩,rfl⟩ ?_;simp only[o_]
   repeat (go_big_quiet_step (fail))
   refine wpQuiet_nil ?_;clear z0 z1 z2 z3;refine yE ?_;simp only[o_];go_wp2_with fail;refine JR.mono ?_;rintro e' w8 ⟨rfl,dq⟩;obtain⟨er,d⟩:∃er,er=jl (xC gs' s) s P:=⟨_,rfl⟩;have cV:er=jk (lfOf gs' s) s (a.line m):=by rw[d,yGh,HPD.out];rfl
   rw[<-d]at dq;rw[<-d];have g7:=h_ dq;have rI:=h_ cV;clear dq cV d JR;by_cases hz:er=0
   case neg=>
    have Ev:(er==0)=false:=by simpa using hz
    have S:Hid (ub D b nb (putO x.pc a) (xJx D ob A a x.pc) w (.returned (.int .i64 er)) w8):=h_ (by
     have gM:Below r.drew.heap.size r.drew w8:=by
      rcases g7.out with⟨_,h1⟩|⟨h1,_⟩
      ·exact h1
      ·exact absurd h1 hz
     refine ub.from (C.2.2.2.trans ((JG.comp (Qr.below gM)).bel.mono C.2.2.1)) ⟨z_ _ _,?_⟩;have:putO x.pc a=none:=by
      unfold putO;rw[if_pos p_.out,if_neg nX.out,if_pos (show uL x.pc.tc a.groups=0 from Ll.symm)];have:uY a x.pc.lf (plOf x.pc.tc a.groups)=none:=by
       have h1:=GD.out _ Xq.1 (by rw[<-rI.out];exact hz);rw[cO.out]at h1;exact h1
      rw[this];rfl
     rw[this];exact⟨er,hz,rfl⟩)
    clear hz;go_wp2;refine T_ ?_;go_wp2;go_ret;exact S.out
   case pos=>
    subst hz
    have HT':Hid (∃gs' mc',zm b nb w5 v { v with gs:=gs',mc:=mc' } w8/\uY a (lfOf x.gs) (L.take (k+1))=some (lfOf gs')/\total gs'=total x.gs+(k+1)):=h_ (by
     obtain⟨Xr,Xs,O⟩:∃Xr Xs,xJz b v.ib v.M gs' s P r.drew w8 Xr Xs:=by
      rcases g7.out with⟨h1,_⟩|⟨_,h1⟩
      ·exact absurd rfl h1
      ·exact h1
     refine⟨Xr,Xs,Qr.setO O.kept O.idx O.foot,?_,by rw[O.tot,Xq.2];omega⟩;rw[cD.out,yCs _ Xq.1,if_pos rI.symm,yJi O,HPD.out])
    clear g7;go_wp2;refine T_ ?_;go_wp2;go_roundw
    case rel=>exact⟨k+1,by go_num,hlt,HT'⟩
    case measure=>simp[intOf];omega
  ·obtain rfl:k=n:=by omega
   have hlk:L.take k=L:=by rw[<-l_.out];exact X3
   rw[hlk]at m4;have Y:xAk wr ob A (.slice none 0 0):=(E.kept.block ob W.2.2 BY.2).trans iw.out;have Xt:=cell_of_row wr ob 40 _ _ _ Y;have f40:=frozen_of_row wr ob 40 _ _ Y;have tS:(yP A++[Value.slice none 0 0]).toArray[40]?=some (.slice none 0 0):=by simp[l7,M1,yZ]
   rw[tS]at Xt;obtain⟨w9,gC⟩:∃w9,w9=wr.setCell ⟨ob,40,none⟩ (.slice pa k pc):=⟨_,rfl⟩;have LA:Kept [ob] wr w9:=by rw[gC];exact yW wr ⟨ob,40,none⟩ _
   have ho9:xAk w9 ob A (.slice pa k pc):=by
    unfold xAk;rw[gC,ux Y];simp[U1,V7,yZ]
   have Qs:ob∉({ v with gs:=gs',mc:=mc' }:Prt).feet:=λhm=>by
    rcases E.ft ob hm with h1|h1
    ·exact BY.2 h1
    ·have:=W.2.2;omega
   have S:Hid (ub D b nb (putO x.pc a) (xJx D ob A a x.pc) w (.returned (.int .i64 0)) w9):=h_ (by
    refine ub.from (C.2.2.2.trans ((E.bel.mono C.2.2.1).trans (LA.below (F:=[ob]) (R_ (R_ C.2.2.1 E.lo) E.kept.size) (λj K=>by rw[S_.1 K];exact C.2.1)))) ⟨z_ _ _,?_⟩;have hp:putO x.pc a=some { put1 x.pc a with tc:=uK x.pc.tc a.groups,lf:=lfOf gs' }:=by
     unfold putO;rw[if_pos p_.out,if_neg nX.out,if_pos (show uL x.pc.tc a.groups=0 from Ll.symm)];rw[cO.out]at m4;have:uY a x.pc.lf (plOf x.pc.tc a.groups)=some (lfOf gs'):=m4;rw[this];rfl
    rw[hp];refine⟨rfl,⟨{ v with gs:=gs',mc:=mc' },E.prt.off LA (λj K=>by rw[S_.1 K];exact Qs) (λj K cs e=>by rw[S_.1 K,Y]at e;simp at e),oO.2.2.2.2 gs' mc',?_⟩,p_.out,(N.kept E.kept BY.1).kept LA (λj K=>?_),_,ho9,?_⟩
    ·exact(LA.block nb (i_ E.nbr).1 (λhm=>by have:=E.nbr;rw[S_.1 hm,Y]at this;simp at this)).trans E.nbr
    ·have h1:∀T,T≠93->∀cs,wr.heap[j]?≠some (.cells cs T (0,0)):=λT hT cs e=>by
      rw[S_.1 K,Y]at e;simp at e;exact hT e.2.symm
     have hA8:=N.kept E.kept BY.1;refine⟨λe=>?_,λe=>?_⟩
     ·obtain⟨cur,lC⟩:=xS hA8.groups e;exact h1 _ (by decide) _ lC
     ·obtain⟨cur,lC⟩:=xS hA8.refs e;exact h1 _ (by decide) _ lC
    ·have h2:=yf (yf dR.out JO.kept Xl.out) LA (λj K e=>by
      obtain⟨cur,lC⟩:=xS (yf dR.out JO.kept Xl.out) e;rw[S_.1 K,Y]at lC;simp at lC)
     rw[<-HN.out];have h3:plOf x.pc.tc a.groups=L:=cO.symm;rw[h3,xG7];exact zi h2 (R_ (R_ C.2.2.1 JG.lo) (R_ Dh.kept.size KP.size)))
   have Xu:=gC;clear JO m4 BP E hlk Y tS LA ho9 Qs HT;go_wp2;go_ret;rw[<-Xu];exact S.out
end
def xWd (D b:Nat)(v:Dev)(d:PD)(w:World)(e:Ending)(w':World):Prop:=
 e=.returned (.int .i64 28)/\Kept (b :: v.foot) w w'/\∃v',v'.p=v.p/\v'.M=v.M/\yA5 D w' b v' d/\∀k∈v'.foot,k∈v.foot\/w.heap.size<=k
theorem yBl {D b w v d j es sy}(h:JAt D w b v d j es sy 0)(t:d.flush.2=false):
  Calls prog 47 #[.pointer (some ⟨b,0,none⟩)] w (xWd D b v d.flush.1 w):=by
 obtain⟨ev,vs,y,U,R,Q⟩:=h.ex;have I:=h.blt;obtain⟨g,J⟩:∃g,g=w.alloc (.cells #[.int .i64 0] 55):=⟨_,rfl⟩;have p:Below w.heap.size w g:=by grind
 have A:g.heap[w.heap.size]?=some (.cells #[.int .i64 0] 55 (0,0)):=by grind
 have r:=(p.block b I).trans y;have F5:=h_ (jR r);have M:=h_ (xI0 (h.dev.below p) h.up);have VF:=h_ t;have Bz:=h_ (PD.flush_bad h.up t);clear t;have c0:=cell_of_row g b 0 _ _ _ r;simp only[xX,v_]at c0;have H:=h_ h;have Y:=h_ p;have x:=h_ A;have N:=h_ r;clear h p A r y U R Q;go_enter_defers func47,ntmps47;go_upto_region 1 with fail
 refine xm J ?_;clear J;go_wp2_with fail;refine F5.mono ?_;rintro e c ⟨rfl,rfl⟩;go_wp2_with fail;refine M.mono ?_;rintro e c ⟨rfl,i,v',u,E,G,F⟩;rw[if_neg (by rw[VF.out];simp)];have W:b∉v.foot:=H.bv;have l:=(i.block b (b7 I Y.size) W).trans N.out;have K:w.heap.size∉v.foot:=λm=>W9 _ (H.dev.foot_lt _ m).2
 have L:=(i_ x.out).1;have k:=(i.block w.heap.size L K).trans x.out;have S:b≠w.heap.size:=by omega
 have c2:=cell_of_row c w.heap.size 0 _ _ _ k;have f2:=frozen_of_row c w.heap.size 0 _ _ k;simp only[v_]at c2;have z:∀q∈v'.foot,q∈v.foot\/g.heap.size<=q:=F
 have Z:Hid (∀a,a.heap[w.heap.size]?=some (.cells #[.int .i64 28] 55 (0,0))->a.heap[b]?=c.heap[b]?->Kept [w.heap.size] c a->(a.setCell ⟨b,9,none⟩ (.int .i64 28)).cell? ⟨w.heap.size,0,none⟩=some (.int .i64 28)/\xWd D b v d.flush.1 w (.returned (.int .i64 28)) (a.setCell ⟨b,9,none⟩ (.int .i64 28))):=h_ (λa s o B=>by
  have V:=o.trans l;have OE:Kept [b] a (a.setCell ⟨b,9,none⟩ (.int .i64 28)):=by grind
  have Xv:Kept [w.heap.size,b] c (a.setCell ⟨b,9,none⟩ (.int .i64 28)):=by grind
  have C:Kept v.foot w c:=by grind
  refine⟨?_,rfl,?_,v',u,E,⟨⟨d.n,j.area,j.gen,j.first,ev,(j.secs sha).length,sy,by rw[heap_setCell_same a b 9 _ _ _ V,u];rfl⟩,?_,Bz.1⟩,λq hq=>?_⟩
  ·grind
  ·grind
  ·refine G.kept Xv (λq hq m=>?_);have En:q<g.heap.size->q∈v.foot:=λh1=>by grind
   simp only[g8,ak_,or_false]at m;rcases m with rfl|rfl
   ·exact K (En L)
   grind
  ·rcases z q hq with h2|h2
   ·exact .inl h2
   ·exact .inr (by omega))
 have P:=h_ l;have O:=h_ k;clear l k i u E G F z c0;go_wp2;have k:=O.out;have l:=P.out;have s:(c.setCell ⟨w.heap.size,0,none⟩ (.int .i64 28)).heap[w.heap.size]?=some (.cells #[.int .i64 28] 55 (0,0)):=by grind
 have o:(c.setCell ⟨w.heap.size,0,none⟩ (.int .i64 28)).heap[b]?=c.heap[b]?:=by grind
 obtain⟨T,X⟩:=Z.out _ s o (by grind);refine leaves_cons (f:=84) (args:=#[.pointer (some ⟨b,0,none⟩),.pointer (some ⟨w.heap.size,0,none⟩)]) (by simp) (by simp[go_sem]) ?_;refine(xO8 b w.heap.size _ (o.trans l) (cell_of_row _ w.heap.size 0 _ _ _ s)).mono ?_;rintro e u' w'' ⟨rfl,rfl,rfl⟩;exact⟨_,xOl rfl _ _ _ _ rfl T,X⟩
section
def xIc (D:Nat)(w:World)(sb p n q:Nat)(E:List By)(y:By)(F:List Nat):Prop:=∃(b:Nat) (v:Dev) (d1:PD) (a1 a2 a3 a4:Value),w.heap[sb]?=some (.cells #[.pointer (some ⟨b,0,none⟩),a1,a2,a3,a4] 109 (0,0))/\yA5 D w b v d1/\v.p=p/\d1.n=n/\(∀k∈v.foot,k∈F)/\∀cs,∃j':PJ,(j'.entries=E\/j'.entries=E++[3 :: y])/\JRec sha n (d1.restart cs) j'/\j'.gen<=q/\j'.first<=q
def vC (D sb p n q:Nat)(U:Bool)(R:Nat)(E:List By)(y:By)(w0:World)(c:PC)(r:Option PC)(F:List Nat)(Ap:World->Prop)(w:World)(e:Ending)(w':World):Prop:=Below D w w'/\Kept F w0 w' /\
 ((∃k:Int,k≠0/\e=.returned (.int .i64 k)/\(r=none\/n/2<1+j1 E+y6 (y.length+1))/\StOk D w' sb p n q U R E c F) \/
 (∃c',r=some c'/\e=.returned (.int .i64 28)/\U=false/\∃F',xIc D w' sb p n q E y F'/\∀k∈F',k∈F\/w0.heap.size<=k) \/
 ∃c',r=some c'/\e=.returned (.int .i64 0)/\∃W,Ap W/\w0.heap.size<=W.heap.size/\(∃F',StOk D w' sb p n q U R (E++[3 :: y]) c' F'/\∀k∈F',k∈F\/W.heap.size<=k)/\W.heap.size<=w'.heap.size/\∀k,w0.heap.size<=k->k<W.heap.size->w'.heap[k]?=W.heap[k]?)
theorem yJb {w g z a b c d}{t:TypeId}(h:w.heap[g]?=some (.cells #[z,a,b,c,d] t (0,0))):xp w ⟨g,1,none⟩ 4=true/\xo w ⟨g,1,none⟩ 4=#[a,b,c,d]:=
 yl (w:=w) (a:=⟨g,1,none⟩) (cs:=[a,b,c,d]) (λj u e=>by
  rw[l8,cell_of_row w g (1+j) _ _ _ h,l7,cn_ 1 j,m8];exact e)
theorem yIz (w g z a b c d a' b' c' d')(t:TypeId)(h:w.heap[g]?=some (.cells #[z,a,b,c,d] t (0,0)))(ha:a'.oneCell'=true)(i:b'.oneCell'=true)(f:c'.oneCell'=true)(e:d'.oneCell'=true):
  yi prog 107 w (.pointer (some ⟨g,1,none⟩)) (.agg #[a',b',c',d'])=.ok .skip (w.setRow g #[z,a',b',c',d']):=
 ks sizeOf107 w g 1 [z,a,b,c,d] t h [a',b',c',d'] rfl (by simp) (λv hv=>by
  simp only[g8,ak_,or_false]at hv;rcases hv with rfl|rfl|rfl|rfl <;> assumption)
attribute [local go_sem ↓] qF qe qf xJg xGn
attribute [local go_sem] xFa xF4 yEr yDe zr zx yA yz xh xg xe xd xx xy xk xj xq xB xw
theorem xFw {D w sb b v d j ev sy x B T}(h:StAt D w sb b v d j ev sy x B T):Calls prog 13 #[.pointer (some ⟨sb,0,none⟩)] w λe w'=>e=.returned (.int .i64 0)/\w=w':=by
 have c0:=cell_of_row w sb 0 _ _ _ h.blk;simp only[v_]at c0;obtain⟨g,c,a,_⟩:=h.jat.ex;have f:=h_ (jR a);clear h a;go_enter func13,ntmps13;go_wp2_with fail;refine f.mono ?_;rintro e w' ⟨rfl,rfl⟩;go_wp2;go_ret;exact⟨rfl,rfl⟩
abbrev xAl (fa fe:FuncId)(ty:TypeId):Prop:=∀{D sb p n q:Nat} {U:Bool} {R:Nat} {E:List By} {c:PC} {F:List Nat} {w0 w:World} (_:StOk D w0 sb p n q U R E c F) (_:Below w0.heap.size w0 w) (_:Gl w) (_:prog.globals.size<=D) (_:D<=w0.heap.size) (ob:Nat) (r:Option PC) (y:By) (Ap:World->Prop) (_:1<=y.length) (_:y.length<=50000) (_:E.length<=90000) (_:∀k a,c.tc k=some a->a.ivs.length<=1000000)
  (_:∀(W:World) (b:Nat) (x:Prt) (nb:Nat),Below w.heap.size w W->w.heap.size<=b->PrtD b W x->x.pc=c->W.heap[nb]?=some (.cells (xR x) 107 (0,0))->Calls prog fa #[.pointer (some ⟨ob,0,none⟩),.pointer (some ⟨nb,0,none⟩)] W (ub w0.heap.size b nb r Ap W))
  (_:∀W W':World,Ap W->Below W.heap.size W W'->Calls prog fe #[.pointer (some ⟨ob,0,none⟩)] W' λe w'=>Below W'.heap.size W' w'/\∃v,e=.returned v/\OwnB w' W'.heap.size v y),
  Calls prog 25 #[.pointer (some ⟨sb,0,none⟩),.iface ty (.pointer (some ⟨ob,0,none⟩))] w (vC D sb p n q U R E y w0 c r F Ap w)
theorem xVs {d d1:PD}{j:PJ}{q n:Nat}{E:List By}(c:d.n=n)(h:JInv sha d.n d j)(b:d.pend=[])(y:By)(hy:y.length<=131072)(hl:j.entries.length+1<2147483647)(e:(j.secs sha).length+y6 y.length<=d.n/2)(a:j.entries=E)(hq:j.gen<=q/\j.first<=q)
  {k:Nat} (h1:d1.pend=secW (j.area*(d.n/2)+(j.secs sha).length) ((xJ sha (j.body y)).take k)) (h2:d1.dur=d.dur):∀cs,∃j':PJ,(j'.entries=E\/j'.entries=E++[y])/\JRec sha n (d1.restart cs) j'/\j'.gen<=q/\j'.first<=q:=λcs=>by
 subst c;rcases h.torn sha yR b y hy hl e h1 h2 cs with h3|h3
 ·exact⟨j,.inl a,h3,hq⟩
 ·exact⟨j.add y,.inr (by show j.entries++[y]=_;rw[a]),h3,hq⟩
theorem xA6:xAl 343 344 98/\xAl 346 347 101/\xAl 327 328 95/\xAl 321 322 91:=by
 refine⟨?_,?_,?_,?_⟩
 all_goals
  intro D sb p n q U R E c F i w h bu hG fZ hD ob r y Ap H_ nD NY cZ cV dY;obtain⟨b,v,d,j,ev,sy,x,B,T,mj,hp,hn,aX,hE,bC,SR,rfl,hR,SS⟩:=h;have Z:=h_ SR;have HR:=h_ (And.intro hR SS);have C:=mj.below bu;have F5:=h_ (xFw C);have hxw:=C.prt.at;have dV:=h_ (xT7 hxw (by rw[bC];exact cZ));obtain⟨BI,mY⟩:=yJb C.blk;have iy:=h_ mj;have a_:=h_ C;have ei:=h_ bu;have HG:=h_ hG;have L:=h_ (And.intro fZ hD);have HY:=h_ (And.intro H_ nD);have NJ:Hid (j.entries.length<=90000):=h_ (by rw[hE];exact NY);have BG:=h_ cV;have DA:=h_ dY;have f:=h_ (And.intro hp (And.intro hn (And.intro aX (And.intro hE bC))));have wH:Hid (sb<i.heap.size):=h_ (i_ mj.blk).1;have pQ:Hid (∀k∈yT b v ev,D<=k/\k<i.heap.size):=h_ mj.jlt;have Y:xR x=#[.pointer (some ⟨x.h.p,0,none⟩),.pointer (some ⟨x.s.p,0,none⟩),.pointer (some ⟨x.t.p,0,none⟩),.pointer (some ⟨x.ib,0,none⟩)]:=rfl;rw[Y]at dV;have Ou:(uE.size==4)=true:=rfl;clear mj bu hG fZ hD H_ nD NY cZ cV dY hp hn aX hE bC SR hR SS C hxw Y;go_enter func25,ntmps25;go_wp2_with fail;refine F5.mono ?_;rintro e w' ⟨rfl,rfl⟩;go_wp2_with fail
  refine dV.mono ?_;rintro e P ⟨aa,A,c1,c2,c3,rfl,ep,Qt⟩;have Y:xR A=#[.pointer (some ⟨A.h.p,0,none⟩),.pointer (some ⟨A.s.p,0,none⟩),.pointer (some ⟨A.t.p,0,none⟩),.pointer (some ⟨A.ib,0,none⟩)]:=rfl;have aU:xt 4 #[Value.pointer (some ⟨A.h.p,0,none⟩),.pointer (some ⟨A.s.p,0,none⟩),.pointer (some ⟨A.t.p,0,none⟩),.pointer (some ⟨A.ib,0,none⟩)]=true:=xAb _ _ _ _ rfl rfl rfl rfl;rw[Y];obtain⟨w2,aR⟩:∃w2,w2=P.alloc (.cells #[.pointer (some ⟨A.h.p,0,none⟩),.pointer (some ⟨A.s.p,0,none⟩),.pointer (some ⟨A.t.p,0,none⟩),.pointer (some ⟨A.ib,0,none⟩)] 107):=⟨_,rfl⟩;have aN:Below P.heap.size P w2:=by grind
  have aF:w2.heap[P.heap.size]?=some (.cells (xR A) 107 (0,0)):=by grind
  have dy:=aa.trans (aN.mono aa.size);have ij:=h_ dy;have Me:Hid (w.heap.size<=P.heap.size):=h_ aa.size;have dw:Hid (P.heap.size<w2.heap.size):=h_ (i_ aF).1;have HA:=h_ (BG.out w2 w.heap.size A P.heap.size dy (w_ _) (ep.below aN).dis (Qt.trans f.2.2.2.2) aF);clear aa ep Qt Y aN aF dy dV BI mY;go_upto_region 5 with fail
  refine xm aR ?_;clear aR;go_wp2_with fail;refine HA.mono ?_;rintro e l ⟨ao,fS⟩;have Qu:i.heap.size<=w.heap.size:=ei.size;have m5:Below i.heap.size i l:=by grind
  have mH:StAt D l sb b v d j ev sy x B T:=iy.below m5;have JS:Below D w l:=by grind
  cases r with
  |none=>
   obtain⟨k,a,rfl⟩:=fS;have Dw:(k==0)=false:=by simpa using a
   have HF:Hid (vC D sb p n q U R E y i c none (sb :: yT b v ev) Ap w (.returned (.int .i64 k)) l):=h_ ⟨JS,Kept.of_below m5,.inl ⟨k,a,rfl,.inl rfl,b,v,d,j,ev,sy,x,B,T,mH,f.1,f.2.1,f.2.2.1,f.2.2.2.1,f.2.2.2.2,Z.out,rfl,b7 HR.1 m5.size,HR.2⟩⟩;clear ao Qu m5 mH JS HA a;go_wp2;go_ret;exact HF.out
  |some c'=>
  obtain⟨rfl,⟨m,pZ,Qv,bI⟩,JT⟩:=fS;have pZ:=pZ.all;have M7:=cell_of_row l sb 0 _ _ _ mH.blk;simp only[v_]at M7;have z0:∀z:xf l,z.1.cell? ⟨sb,0,none⟩=some (.pointer (some ⟨b,0,none⟩)):=by grind
  have cG:Below l.heap.size l l.drew:=by grind
  have lB:=h_ (DA.out l l.drew JT cG);have aJ:=h_ m5;have Hc:=h_ (And.intro pZ (And.intro Qv (And.intro bI JT)));have mn:=h_ mH;have Xw:Hid (w2.heap.size<=l.heap.size):=h_ ao.size;have OQ:=h_ ao;clear ao pZ Qv bI JT Qu m5 mH M7 cG HA JS;go_upto_region 8 with fail
  refine xz [0,1,2,3,4] [5,6,7] (λw'=>∃z:xf l,w'=z.1) ⟨⟨l.drew,(z_ _ _).drew⟩,rfl⟩ ?_;simp only[o_]
  repeat (go_big_quiet_step (fail))
  refine wpQuiet_nil ?_;clear z0;refine yo true ?_;simp only[o_];go_wp2_with fail;refine lB.mono ?_;rintro e o ⟨aQ,yv,rfl,ae⟩;obtain⟨yg,yc,I_,hyc,hyg,EI⟩:∃g cap,yv=.slice (some ⟨g,0,none⟩) y.length cap/\y.length<=cap/\g<o.heap.size/\SlB o ⟨g,0,none⟩ y:=by
   rcases ae.at with⟨_,h⟩|⟨g,cap,h1,h2,h3,h4,h5⟩
   ·grind
   ·exact⟨g,cap,h1,h3,(ae.lt (k:=g) (by rw[h1];rfl)).2,h5⟩
  subst I_;have iR:Below l.heap.size l o:=by grind
  have B1:Below i.heap.size i o:=by grind
  have gL:=mn.below iR;have Gx:=gL.jat;have Xx:D<=w.heap.size:=by grind
  have JU:Below D w o:=by grind
  have hyl:=HY.1;have JV:=h_ JU;have HW:=h_ (xIm Gx (xB3 (HG.below JU L.1)) y ⟨yg,0,none⟩ yc EI hyg hyc hyl (by have:=HY.2;omega) (by rw[f.2.2.1];have h1:=HY.2;simp[y6];omega) (by have:=NJ.out;omega) (R_ L.2 B1.size));have HB34:=h_ iR;have M:=h_ B1;have u:=h_ gL;have Qw:Hid (l.heap.size<=o.heap.size):=h_ iR.size;go_wp2;refine⟨λ_=>⟨⟨o,iR⟩,rfl⟩,yE ?_⟩;simp only[o_];clear aQ ae hyc hyg EI iR B1 gL Gx Xx JU hyl lB;go_wp2_with fail;refine HW.mono ?_;rintro e I hall;have JW:(3 :: y).length<=131072:=by rw[x5];have:=HY.2;omega
  have JX:j.entries.length+1<2147483647:=by have:=NJ.out;omega
  have BU:=Qw.out
  have JY:sb∉b :: v.foot:=λN=>u.sbj (by
   rcases g8.1 N with h|h
   ·simp[yT,h]
   ·simp[yT,h])
  have Xy:∀k∈b :: v.foot,D<=k/\k<i.heap.size:=λk a=>pQ.out k (by
   rcases g8.1 a with h|h
   ·simp[yT,h]
   ·simp[yT,h])
  have KX:∀k∈b :: v.foot,k∈sb :: yT b v ev:=λk a=>V0 _ (by
   rcases g8.1 a with h|h
   ·simp[yT,h]
   ·simp[yT,h])
  by_cases hroom:(j.secs sha).length+y6 (y.length+1)<=d.n/2
  case neg=>
   obtain⟨rfl,aO⟩:=hall.2 hroom;have Bt:=u.below aO
   have HF:Hid (vC D sb p n q U R E y i c (some c') (sb :: yT b v ev) Ap w (.returned (.int .i64 9)) I):=h_
    ⟨JV.trans (aO.mono (by have:=L.2;have:=M.size;omega)),Kept.of_below (M.trans (aO.mono M.size)),.inl ⟨9,by decide,rfl,.inr (by rw[<-f.2.2.2.1,<-uv sha,<-f.2.1];omega),b,v,d,j,ev,sy,x,B,T,Bt,f.1,f.2.1,f.2.2.1,f.2.2.2.1,f.2.2.2.2,Z.out,rfl,b7 HR.1 (R_ M.size aO.size),HR.2⟩⟩
   clear hall aO Bt HW hroom;go_wp2;refine T_ ?_;go_wp2;go_ret;exact HF.out
  have Qx:=h_ hroom;cases hgd:(d.puts (j.area*(d.n/2)+(j.secs sha).length) (xJ sha (j.body (3 :: y)))).2 with
  |false=>
   obtain⟨rfl,K,v5,t7,C8,S,pX⟩:=(hall.1 hroom).2 hgd;have V:=(K.block sb (by have:=wH.out;have:=aJ.size;omega) JY).trans u.blk;obtain⟨kk,_,pe,pd,pn,_,_⟩:=PD.puts_any (xJ sha (j.body (3 :: y))) d (j.area*(d.n/2)+(j.secs sha).length) u.jat.up;have hUU:U=false:=by
    cases hu:U with
    |false=>rfl
    |true=>exact absurd ((PD.puts_up (xJ sha (j.body (3 :: y))) d (j.area*(d.n/2)+(j.secs sha).length) ⟨u.jat.up,Z.2 hu⟩).1.symm.trans hgd) (by simp)
   have HF:Hid (vC D sb p n q U R E y i c (some c') (sb :: yT b v ev) Ap w (.returned (.int .i64 28)) I):=h_
    ⟨JV.trans (K.below (by have:=L.2;have:=M.size;omega) λk a=>(Xy k a).1),(Kept.of_below (F:=sb :: yT b v ev) M.out).trans K (λk a=>.inl (KX k a)),.inr (.inl ⟨c',rfl,rfl,hUU,v5.foot,⟨b,v5,_,_,_,_,_,V,S,t7.trans f.1,pn.trans f.2.1,λ_ h=>h,xVs f.2.1 u.jat.inv f.2.2.1 (3 :: y) JW JX hroom f.2.2.2.1 Z.1 (by rw[pe,f.2.2.1];rfl) pd⟩,λk a=>(pX k a).imp (λh=>V0 _ (by simp[yT,h])) (λh=>by have:=M.size;omega)⟩)⟩
   clear hall K t7 C8 S pX V pe pd pn HW hroom hgd;go_wp2;refine T_ ?_;go_wp2;go_ret;exact HF.out
  |true=>
  obtain⟨rfl,K,v5,wg,t7,C8,S,pX,JZ⟩:=(hall.1 hroom).1 hgd;have mX:=h_ hgd;clear hall hroom hgd;obtain⟨H,tb⟩:∃H,H=(d.puts (j.area*(d.n/2)+(j.secs sha).length) (xJ sha (j.body (3 :: y)))).1:=⟨_,rfl⟩;rw[<-tb]at S;have V:=(K.block sb (by have:=wH.out;have:=aJ.size;have:=Qw.out;omega) (λN=>u.sbj N)).trans u.blk;have c5:=cell_of_row I sb 0 _ _ _ V;simp only[v_]at c5;have EJ:(j.add (3 :: y)).entries.length=j.entries.length+1:=by simp[PJ.add]
  have mP:(j.add (3 :: y)).entries.length<=100000:=by rw[EJ];have:=NJ.out;omega
  have LB:Hid (H.down=false/\H.n=d.n/\H.pend=d.pend++secW (j.area*(d.n/2)+(j.secs sha).length) ((xJ sha (j.body (3 :: y))).take (xJ sha (j.body (3 :: y))).length)/\H.dur=d.dur):=h_ (by
   obtain⟨kk,_,pe,pd,pn,pg,_⟩:=PD.puts_any (xJ sha (j.body (3 :: y))) d (j.area*(d.n/2)+(j.secs sha).length) u.jat.up;obtain⟨p1,p2⟩:=pg mX.out;rw[tb];rw[p1]at pe;exact⟨p2,pn,pe,pd⟩)
  cases hfl:H.flush.2 with
  |false=>
   have Xz:=h_ (yBl S hfl);obtain⟨_,pe5,pn5,pd5⟩:=PD.flush_bad LB.1 hfl;have XA:=h_ (xVs (d:=d) (d1:=H.flush.1) (j:=j) (q:=q) (n:=n) (E:=E) f.2.1 u.jat.inv f.2.2.1 (3 :: y) JW JX Qx.out f.2.2.2.1 Z.1 (pe5.trans (by rw[LB.2.2.1,f.2.2.1];rfl)) (pd5.trans LB.2.2.2));have EC:=h_ (pn5.trans LB.2.1)
   have HUU:Hid (U=false):=h_ (by
    cases hu:U with
    |false=>rfl
    |true=>
     have h1:=(PD.puts_up (xJ sha (j.body (3 :: y))) d (j.area*(d.n/2)+(j.secs sha).length) ⟨u.jat.up,Z.2 hu⟩).2.1;rw[<-tb]at h1;rw[PD.flush_eq h1.1,h1.2]at hfl;cases hfl)
   have CL:=h_ K;have wT:=h_ (And.intro t7 pX);have J0:=h_ V;have HFF:=h_ (And.intro Xy KX);have nX:=h_ JY;clear pe5 pn5 pd5 K t7 C8 S pX JZ V tb EJ mP HW hfl JW JX JY Xy KX;go_wp2;refine T_ ?_;go_wp2_with fail;refine Xz.mono ?_;rintro e G ⟨rfl,O,Q,Gy,sL,GG,Eh⟩;have hHD:=L.out;have hHB:=M.size;have XB:o.heap.size<=I.heap.size:=CL.size;have EK:∀k∈b :: v5.foot,k∈b :: v.foot\/o.heap.size<=k:=λk a=>by
    rcases g8.1 a with h|h
    ·exact .inl (g8.2 (.inl h))
    ·exact(wT.2 k h).imp (V0 _) id
   have B2:=(O.block sb (by have:=wH.out;omega) (λN=>by
    rcases EK sb N with h|h
    ·exact nX.out h
    ·have:=wH.out;omega)).trans J0.out
   have a1:Below D o I:=CL.below (by omega) (λk a=>(pQ.out k a).1)
   have a2:Below D I G:=O.below (by omega) (λk a=>by
    rcases EK k a with h|h
    ·exact(HFF.1 k h).1
    ·omega)
   have Qy:Below D w G:=(JV.trans a1).trans a2;have x_:Kept (sb :: yT b v ev) i G:=by
    have b1:Kept (sb :: yT b v ev) i I:=(Kept.of_below (F:=sb :: yT b v ev) M.out).trans CL.out (λk a=>.inl (V0 _ a));refine b1.trans O (λk a=>?_);rcases EK k a with h|h
    ·exact .inl (HFF.2 k h)
    ·exact .inr (by omega)
   have HF:Hid (vC D sb p n q U R E y i c (some c') (sb :: yT b v ev) Ap w (.returned (.int .i64 28)) G):=h_
    ⟨Qy,x_,.inr (.inl ⟨c',rfl,rfl,HUU.out,Q.foot,⟨b,Q,_,_,_,_,_,B2,GG,Gy.trans (wT.1.trans f.1),EC.trans f.2.1,λ_ h=>h,XA.out⟩,λk a=>by
     rcases Eh k a with h|h
     ·rcases wT.2 k h with h2|h2
      ·exact .inl (V0 _ (by simp[yT,h2]))
      ·exact .inr (by omega)
     ·exact .inr (by omega)⟩)⟩
   clear O Gy sL GG Eh hHD hHB XB EK B2 a1 a2 Qy x_;go_wp2;go_ret;exact HF.out
  |true=>
  have c5:=c5;have P_:=h_ (xP0 S mP hfl);have Bz:=h_ (PD.flush_ok LB.1 hfl)
  have Hx:Hid (U=true->H.flush.1.lim=none):=h_ (λhu=>by
   have h1:=(PD.puts_up (xJ sha (j.body (3 :: y))) d (j.area*(d.n/2)+(j.secs sha).length) ⟨u.jat.up,Z.2 hu⟩).2.1;rw[<-tb]at h1;rw[PD.flush_eq h1.1,h1.2];exact h1.2)
  have HD5:=h_ tb;have CL:=h_ K;have wT:=h_ (And.intro t7 (And.intro C8 (And.intro pX JZ)));have J0:=h_ V;have HELE:=h_ EJ;clear K t7 C8 S pX JZ tb V EJ HW mP hfl;go_wp2;refine T_ ?_;go_wp2_with fail;refine P_.mono ?_;rintro e G ⟨rfl,O,Q,sy6,Gy,sL,pV,Eh⟩;obtain⟨cs,Y⟩:∃cs,cs=xR m:=⟨_,rfl⟩;have ST:i.heap.size<=w.heap.size:=ei.size;have hl1:=Me.out;have hl2:=dw.out;have nH:=Xw.out;have XB:o.heap.size<=I.heap.size:=CL.size;have WR:I.heap.size<=G.heap.size:=O.size;have XC:∀k∈v5.foot,k<i.heap.size\/o.heap.size<=k:=λk a=>by grind [yT]
  have az:b<i.heap.size:=(pQ.out b (by simp[yT])).2;have hF5:∀k∈b :: (v.foot++ev),k<i.heap.size:=λk a=>(pQ.out k a).2
  have XD:∀k∈b :: v5.foot,k<i.heap.size\/o.heap.size<=k:=λk a=>by grind
  have lL:∀k,i.heap.size<=k->k<l.heap.size->G.heap[k]?=l.heap[k]?:=λk h1 h2=>by grind
  have eE:G.heap[P.heap.size]?=some (.cells cs 107 (0,0)):=by grind
  have B2:=(O.block sb (by have:=wH.out;omega) (λN=>by
   rcases g8.1 N with h|h
   ·exact u.sbj (by simp[yT,h])
   ·rcases wT.2.2.1 sb h with h|h
    ·exact u.sbj (by simp[yT,h])
    ·have:=wH.out;omega)).trans J0.out
  have Qz:cs=#[.pointer (some ⟨m.h.p,0,none⟩),.pointer (some ⟨m.s.p,0,none⟩),.pointer (some ⟨m.t.p,0,none⟩),.pointer (some ⟨m.ib,0,none⟩)]:=Y;rw[Qz]at eE;obtain⟨o6,r6⟩:=xF (n:=4) eE rfl;have C:=yIz G sb _ _ _ _ _ _ _ _ _ _ B2 (rfl:(Value.pointer (some ⟨m.h.p,0,none⟩)).oneCell'=true) (rfl:(Value.pointer (some ⟨m.s.p,0,none⟩)).oneCell'=true) (rfl:(Value.pointer (some ⟨m.t.p,0,none⟩)).oneCell'=true) (rfl:(Value.pointer (some ⟨m.ib,0,none⟩)).oneCell'=true);obtain⟨J,fK⟩:∃J,J=G.setRow sb #[.pointer (some ⟨b,0,none⟩),.pointer (some ⟨m.h.p,0,none⟩),.pointer (some ⟨m.s.p,0,none⟩),.pointer (some ⟨m.t.p,0,none⟩),.pointer (some ⟨m.ib,0,none⟩)]:=⟨_,rfl⟩;rw[<-fK]at C;have X:Kept [sb] G J:=by grind
  have oo:J.heap[sb]?=some (.cells #[.pointer (some ⟨b,0,none⟩),.pointer (some ⟨m.h.p,0,none⟩),.pointer (some ⟨m.s.p,0,none⟩),.pointer (some ⟨m.t.p,0,none⟩),.pointer (some ⟨m.ib,0,none⟩)] 109 (0,0)):=by grind
  have XE:=wH.out;have JB:∀k∈wg,k<i.heap.size\/o.heap.size<=k:=λk a=>by grind
  have pq:∀k∈yT b Q wg,k≠sb:=λk a e=>by
   subst e;simp only[yT,g8,m3]at a;have bH:∀q∈yT b v ev,q≠k:=λq hq e=>u.sbj (e▸hq)
   rcases a with h|h|h
   ·grind [yT]
   ·grind [yT]
   grind [yT]
  have SK:∀k∈yT b Q wg,k<i.heap.size\/o.heap.size<=k:=λk a=>by grind [yT]
  have Lz:=pV.kept X (λk a=>by
   rw[S_.1 a];exact⟨λe=>pq b (by simp[yT]) e.symm,λh=>pq sb (by simp[yT,h]) rfl,λh=>pq sb (by simp[yT,h]) rfl⟩)
  have sT:kY w.heap.size l.heap.size J m:=by
   refine kY.kept (F:=[sb]) (w:=G) ?_ X (by omega) (λk a=>by rw[S_.1 a];exact .inl (by omega));exact λW hW=>Hc.1.in W (λk h1 h2=>(hW k h1 h2).trans (lL k (by omega) h2))
  have QA:Below D w J:=by
   have a1:Below D o I:=CL.below (by have:=L.2;omega) (λk a=>(pQ.out k a).1)
   have a2:Below D I G:=O.below (by have:=L.2;omega) (λk a=>by
    rcases g8.1 a with rfl|h
    ·grind [yT]
    ·rcases wT.2.2.1 k h with h|h
     ·grind [yT]
     ·have:=L.2;omega)
   have a3:Below D G J:=X.below (by have:=L.2;omega) (λk a=>by rw[S_.1 a];exact u.sbD);grind
  have oI:StAt D J sb b Q H.flush.1 (j.add (3 :: y)) wg sy6 m w.heap.size l.heap.size:=
   ⟨oo,Lz,sT,by have:=X.size;omega,λk a=>(SK k a).imp (λh=>by omega) (λh=>by omega),λh=>pq sb h rfl,.inl (by omega),u.sbD,by have:=L.2;omega⟩
  have mV:H.flush.1.n=n:=Bz.2.2.1.trans (LB.2.1.trans f.2.1);have x_:Kept (sb :: yT b v ev) i J:=by
   have a0:Kept (sb :: yT b v ev) i o:=by grind
   grind [yT,List.mem_cons_of_mem,List.mem_cons.1]
  have GH:∀k∈sb :: yT b Q wg,k∈sb :: yT b v ev\/l.heap.size<=k:=λk a=>by grind [List.mem_cons.1,yT]
  have aC:Hid (vC D sb p n q U R E y i c (some c') (sb :: yT b v ev) Ap w (.returned (.int .i64 0)) J):=h_
   ⟨QA,x_,.inr (.inr ⟨c',rfl,rfl,l,Hc.2.2.2,aJ.size,⟨_,⟨b,Q,H.flush.1,j.add (3 :: y),wg,sy6,m,_,_,oI,Gy.trans (wT.1.trans f.1),mV,Bz.2.1,by show j.entries++[3 :: y]=_;rw[f.2.2.2.1],Hc.2.1,⟨Z.1,Hx.out⟩,rfl,by have:=HR.1;have:=X.size;omega,.inl (by have:=HR.1;omega)⟩,GH⟩,by have:=X.size;omega,λk h1 h2=>(X.block k (by omega) (λN=>by rw[S_.1 N]at h1;omega)).trans (lL k h1 h2)⟩)⟩
  clear O Gy sL pV Eh ST hl1 hl2 nH BU XB WR XC az hF5 XD lL eE Qz Y X oo XE JB pq SK Lz sT QA oI mV x_ GH B2 P_;go_wp2;go_ret;rw[<-fK];exact aC.out
theorem xQq:xAl 343 344 98:=xA6.1
theorem xNe:xAl 346 347 101:=xA6.2.1
theorem xL6:xAl 327 328 95:=xA6.2.2.1
theorem xU5:xAl 321 322 91:=xA6.2.2.2
end
section
def recO:SOp->By
 |.put a=>recP a.clean
 |.rm id=>[3]++id.1
 |.opn k=>[4]++txB k
 |.cls k=>[5]++txB k
def yGn (D sb p n q:Nat)(U:Bool)(R:Nat)(E:List By)(c:PC)(o:SOp)(F:List Nat)(w w':World):Prop:=Below D w w'/\Kept F w w' /\
 (StOk D w' sb p n q U R E c F \/
 (∃c',step c o=some c'/\U=false/\∃F',xIc D w' sb p n q E (recO o) F'/\∀k∈F',k∈F\/w.heap.size<=k) \/
 ∃c',step c o=some c'/\∃F',StOk D w' sb p n q U R (E++[3 :: recO o]) c' F'/\∀k∈F',k∈F\/w.heap.size<=k)
def xSo (D sb p n q:Nat)(U:Bool)(R:Nat)(E:List By)(c:PC)(o:SOp)(F:List Nat)(w:World)(e:Ending)(w':World):Prop:=∃k:Int,e=.returned (.int .i64 k)/\yGn D sb p n q U R E c o F w w'/\(∀c',step c o=some c'->U=true->1+j1 E+y6 ((recO o).length+1)<=n/2->k=0/\∃F',StOk D w' sb p n q U R (E++[3 :: recO o]) c' F'/\∀k∈F',k∈F\/w.heap.size<=k)
theorem vC.op {D sb p n q U R E c o F i w t r Ap e w'}(h:vC D sb p n q U R E (recO o) i c r F Ap t e w')(y:r=step c o)(x:i=w)(j:Below D w t):xSo D sb p n q U R E c o F w e w':=by
 subst x y;obtain⟨h1,h2,h3⟩:=h;rcases h3 with⟨k,u,rfl,g,a⟩|⟨c',f,rfl,l,F',a,m⟩|⟨c',f,rfl,W,_,z,⟨F',a,m⟩,_⟩
 ·refine⟨k,rfl,⟨j.trans h1,h2,.inl a⟩,λc' s l hroom=>?_⟩;rcases g with g|g
  ·rw[g]at s;cases s
  ·omega
 ·exact⟨28,rfl,⟨j.trans h1,h2,.inr (.inl ⟨c',f,l,F',a,m⟩)⟩,λc' s b=>by rw[l]at b;cases b⟩
 ·have d:∀k∈F',k∈F\/i.heap.size<=k:=λk u=>(m k u).imp id (λh=>R_ z h)
  refine⟨0,rfl,⟨j.trans h1,h2,.inr (.inr ⟨c',f,F',a,d⟩)⟩,λc2 v _ _=>⟨rfl,F',?_,d⟩⟩;rw[f]at v;cases v;exact a
theorem ub.up {a b nb r w e w'}(h:ub b b nb r (λ_=>True) w e w')(f:a<=b){Q:World->Prop}(d:Below b w w'->Q w'):ub a b nb r Q w e w':=by
 refine⟨h.1.mono f,?_⟩;have h2:=h.2;cases r with
 |none=>exact h2
 |some c=>exact⟨h2.1,h2.2.1,d h.1⟩
theorem xAl.any {fa fe ty}(i:xAl fa fe ty){D sb p n q U R E c F d w}(h:StOk D d sb p n q U R E c F)(j:Below d.heap.size d w)(l:Gl w)(s:prog.globals.size<=D)(r:D<=d.heap.size)(ob)(o:SOp)(Q:World->Prop)(m:E.length<=90000)(t:∀k a,c.tc k=some a->a.ivs.length<=1000000)
  (hl:∀c',step c o=some c'->1<=(recO o).length/\(recO o).length<=50000)
  (u:∀(W:World) (b:Nat) (x:Prt) (nb:Nat),Below w.heap.size w W->w.heap.size<=b->PrtD b W x->x.pc=c->W.heap[nb]?=some (.cells (xR x) 107 (0,0))->Calls prog fa #[.pointer (some ⟨ob,0,none⟩),.pointer (some ⟨nb,0,none⟩)] W (ub d.heap.size b nb (step c o) Q W))
  (C:∀c',step c o=some c'->∀W W':World,Q W->Below W.heap.size W W'->Calls prog fe #[.pointer (some ⟨ob,0,none⟩)] W' λe w'=>Below W'.heap.size W' w'/\∃v,e=.returned v/\OwnB w' W'.heap.size v (recO o)):
  Calls prog 25 #[.pointer (some ⟨sb,0,none⟩),.iface ty (.pointer (some ⟨ob,0,none⟩))] w (vC D sb p n q U R E (recO o) d c (step c o) F Q w):=by
 cases hs:step c o with
 |some c'=>
  have h1:=i h j l s r ob (step c o) (recO o) Q (hl c' hs).1 (hl c' hs).2 m t u (C c' hs)
  rwa [hs]at h1
 |none=>
  refine(i h j l s r ob none [0] (λ_=>False) (by simp) (by simp) m t (λW b x nb h1 h2 h3 h4 B=>?_) (λW W' A=>A.elim)).mono λe w' z=>?_
  ·have:=u W b x nb h1 h2 h3 h4 B;rw[hs]at this;exact this
  ·obtain⟨h1,h2,h3⟩:=z;rcases h3 with⟨k,y,h4,_,f⟩|⟨c',g,_⟩|⟨c',g,_⟩
   ·exact⟨h1,h2,.inl ⟨k,y,h4,.inl rfl,f⟩⟩
   ·cases g
   ·cases g
theorem xZ7 (s):(recO (.opn s)).length=5+s.size:=by show ([4]++txB s:By).length=_;rw[b6,xDs];show 1+(4+s.size)=_;omega
theorem xZ8 (s):(recO (.cls s)).length=5+s.size:=by show ([5]++txB s:By).length=_;rw[b6,xDs];show 1+(4+s.size)=_;omega
theorem xQk (id:Id32):(recO (.rm id)).length=33:=by show ([3]++id.1:By).length=_;rw[b6,id.2];rfl
theorem xDw {c c':PC}{s}(h:step c (.opn s)=some c'):s.size<=80:=by
 simp only[step,opnO]at h;split at h
 ·rename_i b;unfold xIy at b;by_cases a:zB s=0
  ·exact xDx a
  ·rw[if_pos a]at b;exact absurd b a
 ·cases h
def NmOk (c:PC):Prop:=∀t a,c.tc t=some a->t.size<=80
theorem xFk {c c':PC}{s}(d:NmOk c)(h:step c (.cls s)=some c'):s.size<=80:=by
 simp only[step,clsO]at h;split at h
 ·rename_i b;unfold xI6 at b;split at b
  ·rename_i a ha;exact d s a ha
  ·cases b
 ·cases h
theorem xFv {D sb p n q U R E c F w}(h:StOk D w sb p n q U R E c F)(m:Gl w)(y:prog.globals.size<=D)(o:D<=w.heap.size)(s:ByteArray)(hs:s.size<=maxLen)(u:E.length<=90000)(z:∀k a,c.tc k=some a->a.ivs.length<=1000000)(L:c.tn<=1000000):
  Calls prog 11 #[.pointer (some ⟨sb,0,none⟩),.string s] w (xSo D sb p n q U R E c (.opn s) F w):=by
 obtain⟨f,C⟩:∃f,f=w.alloc (.cells #[.string s] 100):=⟨_,rfl⟩;have d:Below w.heap.size w f:=by grind
 have r:f.heap[w.heap.size]?=some (.cells #[.string s] 100 (0,0)):=by grind
 have i:=(i_ r).1
 have M:=h_ ((xAl.any xQq h d (m.later d) y o w.heap.size (.opn s) (λW=>W.heap[w.heap.size]?=some (.cells #[.string s] 100 (0,0))) u z
  (λc' l=>by have:=xDw l;rw[xZ7];omega)
  (λW b x nb g A hx B J=>by
   have I:=(g.block _ i).trans r;have h1:=xIz hx (by have:x.pc.tn=x.t.gs.length:=rfl;rw[B]at this;omega) nb J ((m.later d).later g) w.heap.size s hs I;rw[B]at h1;exact h1.mono λe w' j=>j.up (R_ d.size A) (λK=>(K.block _ (b7 i A)).trans I))
  (λc' l W W' v g=>xQu w.heap.size (bys s) (by have:=xDw l;rw[zu];omega) ((g.block _ (i_ v).1).trans v))).mono λe w' j=>j.op rfl rfl (d.mono o))
 clear h m y o hs u z L d r i;go_enter func11,ntmps11;go_wp2_with fail;rw[<-C];refine M.mono ?_;rintro e N ⟨k,rfl,hall,G⟩;have H:=h_ (And.intro hall G);clear hall G C;go_wp2;go_ret;exact⟨k,rfl,H.1,H.2⟩
theorem xN4 {D sb p n q U R E c F w}(h:StOk D w sb p n q U R E c F)(t:Gl w)(y:prog.globals.size<=D)(l:D<=w.heap.size)(s:ByteArray)(r:NmOk c)(u:E.length<=90000)(z:∀k a,c.tc k=some a->a.ivs.length<=1000000):
  Calls prog 12 #[.pointer (some ⟨sb,0,none⟩),.string s] w (xSo D sb p n q U R E c (.cls s) F w):=by
 obtain⟨f,B⟩:∃f,f=w.alloc (.cells #[.string s] 102):=⟨_,rfl⟩;have d:Below w.heap.size w f:=by grind
 have o:f.heap[w.heap.size]?=some (.cells #[.string s] 102 (0,0)):=by grind
 have g:=(i_ o).1
 have L:=h_ ((xAl.any xNe h d (t.later d) y l w.heap.size (.cls s) (λW=>W.heap[w.heap.size]?=some (.cells #[.string s] 102 (0,0))) u z
  (λc' j=>by have:=xFk r j;rw[xZ8];omega)
  (λW b x nb m A hx K I=>by
   have H:=(m.block _ g).trans o;have h1:=xJp hx nb I w.heap.size s H;rw[K]at h1;exact h1.mono λe w' i=>i.up (R_ d.size A) (λJ=>(J.block _ (b7 g A)).trans H))
  (λc' j W W' v m=>xS8 w.heap.size (bys s) (by have:=xFk r j;rw[zu];omega) ((m.block _ (i_ v).1).trans v))).mono λe w' i=>i.op rfl rfl (d.mono l))
 clear h t y l r u z d o g;go_enter func12,ntmps12;go_wp2_with fail;rw[<-B];refine L.mono ?_;rintro e M ⟨k,rfl,hall,C⟩;have G:=h_ (And.intro hall C);clear hall C B;go_wp2;go_ret;exact⟨k,rfl,G.1,G.2⟩
attribute [local go_sem ↓] xP xI qd uC xC9 xDm
attribute [local go_sem] zg zj xD7 xCu xYp yG5 zr zx yA yz xh xg xe xd xx xy xk xj xq xB xw
theorem xFu {D sb p n q U R E c F w}(h:StOk D w sb p n q U R E c F)(z:Gl w)(C:prog.globals.size<=D)(r:D<=w.heap.size)(id:Id32)(A:E.length<=90000)(G:xCj c.ses=c.bytes)(H:c.bytes<=1073741824)(t:∀k a,c.tc k=some a->a.ivs.length<=400000):
  Calls prog 10 #[.pointer (some ⟨sb,0,none⟩),.agg (xl id).toArray] w (xSo D sb p n q U R E c (.rm id) F w):=by
 obtain⟨d,I⟩:∃d,d=w.alloc (.cells (xl id).toArray 42):=⟨_,rfl⟩;have v:Below w.heap.size w d:=by grind
 have M:d.heap[w.heap.size]?=some (.cells (xl id).toArray 42 (0,0)):=by grind
 obtain⟨ob,y⟩:∃ob,ob=d.heap.size:=⟨_,rfl⟩;obtain⟨g,K⟩:∃g,g=d.alloc (.cells (xl id).toArray 97):=⟨_,rfl⟩;have L:Below d.heap.size d g:=by grind
 have s:g.heap[ob]?=some (.cells (xl id).toArray 97 (0,0)):=by grind
 have f:=v.trans (L.mono v.size);have m:=(i_ s).1;have j:=z.later f;obtain⟨o1,P⟩:=yx M
 have Y:=h_ ((xAl.any xL6 h f j C r ob (.rm id) (λW=>W.heap[ob]?=some (.cells (xl id).toArray 97 (0,0))) A (λk a T=>R_ (t k a T) (by omega))
  (λc' V=>by rw[xQk];omega)
  (λW b x nb i u hx l Q=>by
   have O:=(i.block _ m).trans s;have h1:=xIs hx nb Q (j.later i) (R_ j.size u) id ob (λS=>by have:=(hx.all.feet_lt ob S).1;omega) O (by rw[l];exact G) (by rw[l];exact H) (by rw[l];exact t);rw[l]at h1;exact h1.mono λe w' o=>o.up (R_ f.size u) (λX=>(X.block _ (b7 m u)).trans O))
  (λc' V W W' B i=>xQg ob id ((i.block _ (i_ B).1).trans B))).mono λe w' o=>o.op rfl rfl (f.mono r))
 clear h z C r A G H t v M L s f m j;go_enter func10,ntmps10;go_upto_region 1 with fail
 refine xm I ?_;clear I;go_wp2_with fail;rw[<-K,<-y];clear y o1 P;refine Y.mono ?_;rintro e' Z ⟨k,rfl,hall,J⟩;have N:=h_ (And.intro hall J);clear hall J K;go_wp2;go_ret;exact⟨k,rfl,N.1,N.2⟩
end
section
def xEe (D sb p n q:Nat)(U:Bool)(R:Nat)(E:List By)(c:PC)(a:PArt)(F:List Nat)(w:World)(e:Ending)(w':World):Prop:=∃pv,∃k:Int,e=.returned (.tuple #[pv,.int .i64 k])/\yGn D sb p n q U R E c (.put a) F w w' /\
 (∀c',step c (.put a)=some c'->U=true->1+j1 E+y6 ((recO (.put a)).length+1)<=n/2->k=0/\(∃F',StOk D w' sb p n q U R (E++[3 :: recO (.put a)]) c' F'/\(∀k∈F',k∈F\/w.heap.size<=k)/\∀k∈F',pv.ownBlock≠some k)/\w'.ownsRow w.heap.size 72 2 pv a.groups.length (vy (plOf c.tc a.groups)))
attribute [local go_sem ↓] xP xI qd uC xC9 xDm
attribute [local go_sem] zg zj xD7 xCu xYp yG5 zr zx yA yz xh xg xe xd xx xy xk xj xq xB xw
theorem Few.total {c:PC}{m}(h:Few c m)(b:m<=18){B w}{x:Prt}(hx:y5 B w x.ib x.M x.gs x.mc)(a:x.pc=c):total x.gs+22<65536:=by
 obtain⟨N,h1,h2⟩:=h.lf;have h3:=yAm hx.names (λG d=>(hx.grps G d).some') (N:=N) (k:=m) (λt ht=>by have:=h2 t ht;rw[<-a]at this;exact this) (λt=>by have:=h.ls t;rw[<-a]at this;exact this);have h4:N.length*m<=(22*18)*18:=Nat.mul_le_mul (by omega) b;omega
theorem Few.iv {c:PC}{m}(h:Few c m)(b:m<=18):∀k a,c.tc k=some a->a.ivs.length<=400000:=λk a d=>by
 have h1:=h.ivs k a d;have h2:2 ^ m<=2 ^ 18:=bh_ (by omega) b;omega
theorem xHd {D sb p n q U R E c F w}(h:StOk D w sb p n q U R E c F)(hG:Gl w)(fZ:prog.globals.size<=D)(O:D<=w.heap.size)(A)(a:PArt)(r:qL w A a)(G:a.Fits)(hE:E.length<=90000){m}(j:Few c m)(z:m<=18):
  Calls prog 9 #[.pointer (some ⟨sb,0,none⟩),.agg (xA A)] w (xEe D sb p n q U R E c a F w):=by
 obtain⟨i,aj⟩:∃i,i=w.alloc (.cells (xA A) 46):=⟨_,rfl⟩;have I:Below w.heap.size w i:=by grind
 have aH:i.heap[w.heap.size]?=some (.cells (xA A) 46 (0,0)):=by grind
 obtain⟨ob,og⟩:∃ob,ob=i.heap.size:=⟨_,rfl⟩;obtain⟨C,aR⟩:∃C,C=i.alloc (.cells (yP A++[Value.slice none 0 0]).toArray 93):=⟨_,rfl⟩;have aN:Below i.heap.size i C:=by grind
 have Q:xAk C ob A (.slice none 0 0):=by grind [xAk]
 have f:=I.trans (aN.mono I.size);have mG:=(i_ Q).1;have Y:w.heap.size<=ob:=by have:=I.size;omega
 have H:=hG.later f;obtain⟨o1,r1⟩:=xF (n:=40) aH (yt A);have S:=j.iv z;have J1:=r.below f
 have J:=h_ (xAl.any xU5 h f H fZ O ob (.put a) (xJx w.heap.size ob A a c) hE (λk a d=>R_ (S k a d) (by omega))
  (λc' hc=>by have:=xTz G.clean;exact⟨this.2,R_ this.1 (by omega)⟩)
  (λW b x nb v bj hx s lU=>by
   have XF:Below w.heap.size w W:=f.trans (v.mono f.size)
   have h1:=xIw hx nb lU (H.later v) (R_ H.size bj) a A ob w.heap.size (λz=>by have:=(hx.all.feet_lt ob z).1;omega) Y (R_ f.size bj) (r.below XF)
    (λk d=>⟨λe=>by have h2:=(hx.all.feet_lt k d).1;have h3:=(r.groups.lt k e).2;have:=f.size;omega,λe=>by have h2:=(hx.all.feet_lt k d).1;have h3:=(yJ.lt r.refs e).2;have:=f.size;omega⟩)
    ((v.block _ mG).trans Q) G (by rw[s];exact R_ j.hes (by omega)) (by rw[s];exact j.bytes) (by rw[s];exact j.bud) (by rw[s];exact R_ j.next (by omega)) (by rw[s];exact S) (j.total z hx.all.o s)
   rw[s]at h1;exact h1)
  (λc' hc W W' cV v=>by
   obtain⟨ay,P,pl,u,_⟩:=cV;have K:=xR1 (x:=⟨a.id,a.arr,a.date,0,a.perm⟩) ay.1 rfl;exact xQo ob A a pl (P.below v) G ⟨K.1,by have:=K.2.1;simp only at this;omega⟩ ⟨K.2.2.1,by have:=K.2.2.2.1;simp only at this;omega⟩ ((v.block _ (i_ u).1).trans u)))
 have sY:=h_ Y;have nL:Hid (∀k∈F,k<w.heap.size):=h_ (λk d=>(h.flt k d).2);have T:=h_ (f.mono O);have aU:xt 40 (xA A)=true:=vA r.ones.1 r.ones.2;clear h hG fZ O r G hE j z I aH aN Q f mG Y H S J1;go_enter func9,ntmps9;go_upto_region 1 with fail
 refine xm aj ?_;clear aj;go_upto_region 2 with fail
 refine xm aR ?_;rw[<-og];clear aR og o1 r1;go_wp2_with fail;refine J.mono ?_;intro e y hp;have Z:=h_ hp;obtain⟨V,L,lk⟩:=hp;rcases lk with⟨k,d,rfl,_,_⟩|⟨c',_,rfl,_⟩|⟨c',DZ,rfl,W,⟨_,_,pl,u,g⟩,SU,⟨F',EM,X⟩,N,M⟩
 ·have Dw:(k==0)=false:=by simpa using d
  obtain⟨k',l,hall,t⟩:=vC.op Z.out rfl rfl T.out;obtain rfl:k'=k:=by simpa using l.symm
  have B:Hid (xEe D sb p n q U R E c a F w (.returned (.tuple #[.slice none 0 0,.int .i64 k'])) y):=h_ ⟨_,_,rfl,hall,λc' h1 h2 h3=>absurd (t c' h1 h2 h3).1 d⟩;clear V L d hall t l J;go_wp2;go_ret2;exact B.out
 ·obtain⟨k',l,hall,t⟩:=vC.op Z.out rfl rfl T.out;obtain rfl:k'=28:=by simpa using l.symm
  have B:Hid (xEe D sb p n q U R E c a F w (.returned (.tuple #[.slice none 0 0,.int .i64 28])) y):=h_ ⟨_,_,rfl,hall,λc' h1 h2 h3=>absurd (t c' h1 h2 h3).1 (by decide)⟩;clear V L hall t l J;go_wp2;go_ret2;exact B.out
 ·obtain⟨k',l,hall,t⟩:=vC.op Z.out rfl rfl T.out;have QB:=(i_ u).1;have QC:xAk y ob A pl:=(M ob sY.out QB).trans u;have Xt:=cell_of_row y ob 40 _ _ _ QC;have tS:(yP A++[pl]).toArray[40]?=some pl:=by simp[M1,yZ]
  rw[tS]at Xt
  have B:Hid (xEe D sb p n q U R E c a F w (.returned (.tuple #[pl,.int .i64 0])) y):=h_ ⟨_,_,rfl,hall,λc2 h1 h2 h3=>by
   rw[DZ]at h1;cases h1;refine⟨rfl,⟨F',EM,λk d=>(X k d).imp id (λh=>R_ SU h),λk d e=>?_⟩,xHo g M⟩;have h4:=g.lt k e;rcases X k d with h5|h5
   ·have:=nL.out k h5;omega
   ·omega⟩
  obtain⟨pa,pn,pc,f_⟩:=zd g;subst f_;clear V L hall t l u g SU EM X N M QB QC tS J DZ;go_wp2;go_ret2;exact B.out
theorem xEm {D sb p n q U R E c F w}(h:StOk D w sb p n q U R E c F):Calls prog 21 #[.pointer (some ⟨sb,0,none⟩)] w λe w'=>Below w.heap.size w w'/\∃v,e=.returned (.pointer (some ⟨v.p,0,none⟩))/\yX w.heap.size w' v/\kvs v.es=c.hes:=by
 obtain⟨b,v,d,j,ev,sy,x,B,T,a,o,r,t,s,k,_⟩:=h;have c1:=cell_of_row w sb 1 _ _ _ a.blk;simp only[v_]at c1;have u:=h_ (xLx a.prt.at.h);have m:=h_ (show kvs x.h.es=c.hes by rw[<-k];rfl);clear a o r t s k;go_enter func21,ntmps21;go_wp2_with fail;refine u.mono ?_;rintro e y ⟨i,v',rfl,l,g,_⟩;have f:=h_ (And.intro i (And.intro l (show kvs v'.es=c.hes by rw[g];exact m.out)));clear i l g c1;go_wp2;go_ret;exact⟨f.1,v',rfl,f.2.1,f.2.2⟩
theorem xWu {D sb p n q U R E c F w}(h:StOk D w sb p n q U R E c F):Calls prog 23 #[.pointer (some ⟨sb,0,none⟩)] w λe w'=>e=.returned (.int .i64 (n/2-(1+j1 E):Nat))/\Below w.heap.size w w':=by
 obtain⟨b,v,d,j,ev,sy,x,B,T,a,o,f,s,i,r,_⟩:=h;have c0:=cell_of_row w sb 0 _ _ _ a.blk;simp only[v_]at c0;obtain⟨y,m,l,_⟩:=a.jat.ex;have k:=h_ (xHy l a.jat.dev.n2 a.jat.inv.fit);rw[f,uv,i]at k;clear a o f s i r l;go_enter func23,ntmps23;go_wp2_with fail;refine k.mono ?_;rintro e u ⟨rfl,g⟩;have t:=h_ g;clear g c0;go_wp2;go_ret;exact⟨rfl,t.out⟩
theorem xT6 {D sb p n q U R E c F w}(h:StOk D w sb p n q U R E c F):Calls prog 13 #[.pointer (some ⟨sb,0,none⟩)] w λe w'=>e=.returned (.int .i64 0)/\w=w':=by
 obtain⟨b,v,d,j,ev,sy,x,B,T,a,_⟩:=h;exact xFw a
theorem xN2 {D sb p n q E y F w}(h:xIc D w sb p n q E y F):Calls prog 13 #[.pointer (some ⟨sb,0,none⟩)] w λe w'=>e=.returned (.int .i64 28)/\w=w':=by
 obtain⟨b,v,d1,i,g,a3,a4,a,⟨⟨f,ar,ge,fi,ev,us,sy,c⟩,_⟩,_⟩:=h;have c0:=cell_of_row w sb 0 _ _ _ a;simp only[v_]at c0;have d:=h_ (jR c);clear a c;go_enter func13,ntmps13;go_wp2_with fail;refine d.mono ?_;rintro e w' ⟨rfl,rfl⟩;go_wp2;go_ret;exact⟨rfl,rfl⟩
def xWb (c:PC)(w:World)(e:Ending)(w':World):Prop:=Below w.heap.size w w'/\∃ib M gs mc,e=.returned (.pointer (some ⟨ib,0,none⟩))/\y5 w.heap.size w' ib M gs mc/\lfOf gs=c.lf
theorem xKj {D sb p n q U R E c F w}(h:StOk D w sb p n q U R E c F):Calls prog 16 #[.pointer (some ⟨sb,0,none⟩)] w (xWb c w):=by
 obtain⟨b,v,d,j,ev,sy,x,B,T,a,r,s,z,t,i,_⟩:=h;have c4:=cell_of_row w sb 4 _ _ _ a.blk;simp only[v_]at c4;have G:=h_ (xH0 B x.ib x.M x.mc x.gs w a.prt.at.o);have m:=h_ (show lfOf x.gs=c.lf by rw[<-i];rfl);clear a r s z t i;go_enter func16,ntmps16;go_wp2_with fail;refine G.mono ?_;rintro e l ⟨g,A,y,u,rfl,ho,k,_,f⟩;have C:Hid (xWb c w (.returned (.pointer (some ⟨g,0,none⟩))) l):=h_ ⟨f,g,A,y,u,rfl,ho,k.trans m.out⟩;clear ho k f c4;go_wp2;go_ret;exact C.out
end
section
theorem Kept.more {F}{w c b:World}(h:Kept F w c)(a:Below w.heap.size c b):Kept F w b:=
 ⟨a.os.trans h.os,a.tape.trans h.tape,a.output.trans h.output,R_ h.size a.size,λk d e=>(a.block k d).trans (h.block k d e)⟩
theorem zv.lo {w w' r a cap l}(h:zv w r a cap l){B}(b:Below B w w')(c:r<B)(ha:a.block<B):zv w' r a cap l:=
 ⟨(b.block r c).trans h.row,⟨λq x hq=>(b.cell (by rw[xY];exact ha)).trans (h.sl.cell q x hq)⟩,h.le,h.mx,h.ne,b7 h.lt b.size⟩
theorem zv.rlt {w r a cap l}(h:zv w r a cap l):r<w.heap.size:=(i_ h.row).1
def yGk (r:Nat)(a:Addr)(l:By)(w w':World):Prop:=Kept [r] w w'/\∃a2 c2,zv w' r a2 c2 l/\a2.block=a.block
attribute [local go_sem ↓] xP xI vQ
attribute [local go_sem] zg zj zr zx yA yz xh xg xe xd xx xy xk xj xq xB xw
theorem xX6 {w r a cap}(id:Id32){l}(h:zv w r a cap (id.1++l)):Calls prog 96 #[.pointer (some ⟨r,0,none⟩)] w λe w'=>
  e=.returned (.agg (xl id).toArray)/\yGk r a l w w':=by
 obtain⟨c,L⟩:∃c,c=(w.alloc (.cells (xl yI).toArray 42)).alloc (.cells (xl yI).toArray 42):=⟨_,rfl⟩;have t:Below w.heap.size w c:=by grind
 have D:c.heap[w.heap.size]?=some (.cells (xl yI).toArray 42 (0,0)):=by grind
 have N:c.heap[w.heap.size+1]?=some (.cells (xl yI).toArray 42 (0,0)):=by grind
 have M:=(h.below t).below (z_ c.heap.size c).drew;have u:=h_ (xFz M 32 id.2.symm);rw[show ((32:Nat):Int)=32 from rfl]at u;have K:=h_ t;have S:=h_ D;have E:=h_ N;have x:=h_ (And.intro h.rlt h.lt);clear h t D N M;go_enter func96,ntmps96;go_upto_region 2 with fail
 refine xm L ?_;clear L
 haveI:Nonempty World:=⟨w⟩
 refine xz [0,1] [2,3] (λw'=>∃z:World,w'=z) ⟨c.drew,rfl⟩ ?_;simp only[o_]
 repeat (go_big_quiet_step (fail))
 refine wpQuiet_nil ?_;refine yo true ?_;simp only[o_];go_wp2_with fail;refine u.mono ?_;rintro e d ⟨rfl,I,Z,Y,n,b,a2,c2,O,A⟩;have hl:=x.out;have aP:=K.size;have be:=b.size;have i:=(i_ E.out).1;have T:=(i_ S.out).1;have H:d.heap[w.heap.size+1]?=some (.cells (xl yI).toArray 42 (0,0)):=(b.block _ i (by simp;omega)).trans E.out;have R:d.heap[w.heap.size]?=some (.cells (xl yI).toArray 42 (0,0)):=(b.block _ T (by simp;omega)).trans S.out;have bF:=h_ H;have U:=h_ R;have V:Hid (Kept [r] w d):=h_ ((Kept.of_below (F:=[r]) K.drew).trans b (λk X=>.inl X));have W:=h_ O;have P:=h_ A
 have HP:Hid (∃ad,some a=some ad/\∀j v,(encB id.1)[j]?=some v->d.cell? (ad.add j)=some v):=h_ (⟨_,rfl,λj v p=>by
  have G:j<id.1.length:=by have:=(L7.1 p).1;rwa [xQ]at this
  rw[vr id.1 j G]at p;cases p;exact I.cell j _ (U_ G)⟩)
 have HN:Hid ((encB id.1).length=Nat.min 32 32):=h_ (by rw[xQ,id.2];rfl);go_wp2;refine⟨λ_=>⟨d,rfl⟩,yE ?_⟩;simp only[o_];clear I Z Y n b O A hl aP be i T H R u;refine wpList_copy_splice (o:=⟨some 7,_,_,_,_,_⟩) rfl (.tmp 4) (.tmp 6) 23 23 rfl 5 underlying23 (by kernel_rfl) (some ⟨w.heap.size+1,0,none⟩) (some a) 32 32 32 cap rfl rfl (w.heap.size+1) 0 (xl yI) _ bF.out (encB id.1) HN.out (λ_=>⟨rfl,HP.out⟩) ?_ (zP _) (w.heap.size+1) d (z_ _ _) (w_ _) ?_
 ·rw[xQ,id.2,xD];exact w_ _
 intro g q s;have B:splice (xl yI) 0 (encB id.1)=xl id:=by
  have h1:=xBq yI.1 id.1 0;have h2:lay yI.1 0 id.1=id.1:=by
   unfold lay;rw[bg_,E8,m0,M0 (by rw[id.2,yI.2];exact w_ _),G5]
  rw[h2]at h1;exact h1
 rw[B]at q;obtain⟨o3,r3⟩:=yx q.out;have f:=(s.block w.heap.size (by omega)).trans U.out;have aY:xN g w.heap.size 32=true:=za f (uG _);have J:=setRow_heap g w.heap.size _ (xl id).toArray _ _ f;have rQ:=j8 id;obtain⟨o4,y⟩:=yx J;have C:Below w.heap.size g (g.setRow w.heap.size (xl id).toArray):=xH (z_ _ _) (w_ _) _;have m:Below w.heap.size d (g.setRow w.heap.size (xl id).toArray):=(s.mono (Nat.le_succ _)).trans C;have HF:Hid (yGk r a l w (g.setRow w.heap.size (xl id).toArray)):=h_ ⟨V.more m,a2,c2,W.lo m x.1 (by rw[P.out];exact x.2),P.out⟩;have Q:=h_ (And.intro o4 y);clear q s B f J o4 y C m;go_wp2;refine T_ ?_;go_wp2;exact bodyPost_ret (v:=.agg (xl id).toArray) (vZ rfl isAgg42 sizeOf42 _ _ ⟨w.heap.size,0,none⟩ _ rfl Q.1 Q.2) rfl ⟨rfl,HF.out⟩
end
section
def xG6 (i:Nat):Option (Nat×Nat):=#[(0,32),(32,1),(33,1),(34,1),(35,1),(36,1),(37,1),(38,1),(39,1)][i]?
theorem yK4 (parts):prog.built 46 parts=Instr.fill xG6 (xA ut) parts:=by kernel_rfl
theorem xAr {cells i off v rest}(a:xG6 i=some (off,1))(hv:v.cells=#[v])(hs:off+1<=cells.size):Instr.fill xG6 cells ((i,v) :: rest)=Instr.fill xG6 (cells.setIfInBounds off v) rest:=by
 rw[xC1 a (by rw[hv];rfl) hs,hv];rfl
theorem xZz (w)(id:Id32)(ar da:Int)(p):zl prog 46 w #[(0,.agg (xl id).toArray),(4,.int .i64 ar),(3,.int .i64 da),(8,.bool p)]=.ok (.value (.agg (xA ⟨id,⟨#[]⟩,⟨#[]⟩,da,ar,.slice none 0 0,⟨#[]⟩,.slice none 0 0,p⟩))) w:=zo (by
 show prog.built 46 [(0,.agg (xl id).toArray),(4,.int .i64 ar),(3,.int .i64 da),(8,.bool p)]=_
 rw[yK4];refine(ze xG6 0 (.agg (xl id).toArray) [] (xl yI) (zZ ut) (xl id) (by rw[xD];rfl) rfl (by rw[xD,xD])).trans ?_;have a:([]++(xl id++zZ ut)).toArray.size=40:=by simp[zZ,xD]
 rw[xAr (off:=35) rfl rfl (by rw[a];omega),xAr (off:=34) rfl rfl (by rw[br_,a];omega),xAr (off:=39) rfl rfl (by rw[br_,br_,a];omega)];show some _=some _
 congr 1;simp[xA,yP,zZ,ut,U1,V7,xD])
theorem xNu (ρ:Operand->Value)(d e c b a)(ty:TypeId)(pos af gd w):
  Sem.run prog (execOp ρ ⟨d,.build 46 #[(0,e),(4,c),(3,b),(8,a)],ty,pos,af,gd⟩) w=zl prog 46 w #[(0,ρ e),(4,ρ c),(3,ρ b),(8,ρ a)]:=by kernel_rfl
theorem yI5 (A:Art)(t n s):(((xA A).setIfInBounds 32 (.string t)).setIfInBounds 33 (.string n)).setIfInBounds 37 (.string s)=xA { A with text:=t,name:=n,subj:=s }:=by
 simp[xA,yP,zZ,U1,V7,xD]
theorem yG9 (A:Art)(v):(xA A).setIfInBounds 36 v=xA { A with groups:=v }:=by
 simp[xA,yP,zZ,U1,V7,xD]
theorem yG8 (A:Art)(v):(xA A).setIfInBounds 38 v=xA { A with refs:=v }:=by
 simp[xA,yP,zZ,U1,V7,xD]
theorem Tryz.info_str:(prog.info? 9).map (λi=>(i.zero,i.size,i.bytes))=some (some (.string ⟨#[]⟩),1,16):=by kernel_rfl
def CeC (b j:Nat)(v:Value):Type:={ z:World // z.cell? ⟨b,j,none⟩=some v }
def recQ (q:PArt):By:=q.id.1++(beB 4 q.arr.toNat++(beB 4 q.date.toNat++([if q.perm then (1:UInt8)else 0]++(beB 4 (bys q.text).length++(bys q.text++(beB 4 (bys q.name).length++(bys q.name++(beB 4 (bys q.subj).length++(bys q.subj++(beB 4 q.groups.length++(q.groups.flatMap txB++(beB 4 q.refs.length++(q.refs.flatMap (·.1)++[])))))))))))))
theorem yB5 (q:PArt):recP q=[2]++recQ q:=by simp[recP,recQ,txB,B8]
def xWc (r:Nat)(q:PArt)(w:World)(e:Ending)(w':World):Prop:=∃op A,e=.returned (.pointer (some ⟨op,0,none⟩))/\Kept [r] w w'/\w.heap.size<=op/\xAk w' op A (.slice none 0 0)/\qL w' A q/\(∀k,A.groups.ownBlock=some k\/A.refs.ownBlock=some k->w.heap.size<=k)/\∃a2 c2,zv w' r a2 c2 []
structure RpSt (w:World)(r a0:Nat)(A:Art)(rest:By)(W:World):Prop where
 kept:Kept [r] w W
 row:W.heap[a0]?=some (.cells (xA A) 46 (0,0))
 rd:∃a c,zv W r a c rest/\a.block<w.heap.size
attribute [local go_sem ↓] xP xI qd uC qZ xNu xC9 xVk
attribute [local go_sem] zg zj xD7 xCu xZz xYp yIo zr zx yA yz xh xg xe xd xx xy xk xj xq xB xw
theorem yH6 {w r a cap}(q:PArt)(hf:q.Fits)(h1:0<=q.arr/\q.arr<=2147483647)(h2:0<=q.date/\q.date<=2147483647)(h:zv w r a cap (recQ q)):
  Calls prog 95 #[.pointer (some ⟨r,0,none⟩)] w (xWc r q w):=by
 have hab:=h.lt;have fj:=h.rlt;have M:=h_ (And.intro hab fj);obtain⟨na,L6⟩:∃na,na=q.arr.toNat:=⟨_,rfl⟩;obtain⟨nd,cj⟩:∃nd,nd=q.date.toNat:=⟨_,rfl⟩;have QD:(na:Int)=q.arr:=by rw[L6];omega
 have Ek:(nd:Int)=q.date:=by rw[cj];omega
 have h0:=h;unfold recQ at h0;rw[<-L6,<-cj]at h0;have S:=h_ hf;have HZ:=h_ (And.intro QD Ek);have SN:Hid (na<4294967296/\nd<4294967296):=h_ ⟨by omega,by omega⟩;obtain⟨bp,DX⟩:∃bp:UInt8,bp=(if q.perm then (1:UInt8)else 0):=⟨_,rfl⟩;rw[<-DX]at h0;have sR:((bp.toNat:Int) != 0)=q.perm:=by rw[DX];cases q.perm <;> rfl
 have It:=h_ (xX6 q.id h0);clear hf h1 h2 h hab fj L6 cj QD Ek h0 DX;go_enter func95,ntmps95;go_wp2_with fail;refine It.mono ?_;rintro e w1 ⟨rfl,hk1,a1,c1,aI,QE⟩;have Bf:=h_ hk1;have XG:=h_ QE;have HN:=h_ (kH _ aI (xu _ _));rw[zM _ SN.1]at HN;clear hk1 aI QE It;go_wp2_with fail;refine HN.mono ?_;rintro e w2 ⟨rfl,hk2,a2,c2,aE,pj⟩;have mA:=h_ (Bf.trans hk2 (λk c=>.inl c));have XH:=h_ (pj.trans XG.out);have dw:=h_ (kH _ aE (xu _ _));rw[zM _ SN.2]at dw;clear hk2 aE pj HN;go_wp2_with fail;refine dw.mono ?_;rintro e w3 ⟨rfl,bz,a3,c3,bW,BS⟩;have nO:=h_ (mA.trans bz (λk c=>.inl c));have XI:=h_ (BS.trans XH.out);have HB:=h_ (xB4 _ bW);clear bz bW BS dw;go_wp2_with fail;refine HB.mono ?_;rintro e w4 ⟨rfl,dd,a4,c4,n_,QF⟩;obtain⟨a0,Dl⟩:∃a0,a0=w4.heap.size:=⟨_,rfl⟩;obtain⟨t,GK⟩:∃t:Art,t=⟨q.id,⟨#[]⟩,⟨#[]⟩,nd,na,.slice none 0 0,⟨#[]⟩,.slice none 0 0,q.perm⟩:=⟨_,rfl⟩;obtain⟨w5,cC⟩:∃w5,w5=w4.alloc (.cells (xA t) 46):=⟨_,rfl⟩;have aO:Below w4.heap.size w4 w5:=by grind
 have ik:w5.heap[a0]?=some (.cells (xA t) 46 (0,0)):=by grind
 have aU:xt 40 (xA t)=true:=vA (by rw[GK];rfl) (by rw[GK];rfl);have si:((xA ut).size==40)=true:=by rw[yt];rfl
 have CL:Hid (Kept [r] w w5):=h_ (((nO.trans dd (λk c=>.inl c)).trans (Kept.of_below (F:=[]) aO) (λ_ h=>by cases h)));have XJ:=h_ (QF.trans XI.out);have D:=h_ (vi _ _ (n_.below aO) (xu _ _) (zM _ (by have:=S.text;rw[zu];omega)));rw[show str (bys q.text)=q.text from rfl]at D;have EC:=h_ ik;have K:Hid (a0<w5.heap.size/\w.heap.size<=a0):=h_ ⟨(i_ ik).1,by rw[Dl];exact(nO.trans dd (λk c=>.inl c)).size⟩;have PH:=h_ GK;have az:∀w,zl prog 46 w #[(0,.agg (xl q.id).toArray),(4,.int .i64 (na:Int)),(3,.int .i64 (nd:Int)),(8,.bool q.perm)]=.ok (.value (.agg (xA t))) w:=λw=>by rw[GK];exact xZz w q.id na nd q.perm
 clear dd n_ QF aO ik GK HB;go_upto_region 2 with fail
 refine xm cC ?_;rw[<-Dl];clear cC Dl az sR;go_wp2_with fail;refine D.mono ?_;rintro e w6 ⟨rfl,cr,a6,c6,eJ,QG⟩;have aI:=(cr.block a0 K.1 (by have:=M.2;have:=K.2;simp;omega)).trans EC.out;have Pa:=h_ aI;have OY:=h_ (CL.trans cr (λk c=>.inl c));have XK:=h_ (QG.trans XJ.out);have s_:=h_ (vi _ _ eJ (xu _ _) (zM _ (by have:=S.name;rw[zu];omega)));rw[show str (bys q.name)=q.name from rfl]at s_;clear cr eJ QG aI D;go_wp2_with fail;refine s_.mono ?_;rintro e w7 ⟨rfl,dO,a7,c7,eX,QH⟩;have p:=K.out;have hl:=M.out;have Px:=h_ ((dO.block a0 (by have:=(i_ Pa.out).1;omega) (by simp;omega)).trans Pa.out);have Gg:=h_ (OY.trans dO (λk c=>.inl c));have QI:=h_ (QH.trans XK.out);have Lw:=h_ (vi _ _ eX (xu _ _) (zM _ (by have:=S.subj;rw[zu];omega)));rw[show str (bys q.subj)=q.subj from rfl]at Lw;clear dO eX QH s_;go_wp2_with fail;refine Lw.mono ?_;rintro e w8 ⟨rfl,wE,a8,c8,om,J2⟩;have iB:=(wE.block a0 (i_ Px.out).1 (by simp;omega)).trans Px.out
 have f32:=frozen_of_row w8 a0 32 _ _ iB;have JL:=(cell_of_row w8 a0 32 _ _ _ iB).trans (ar32 t);have r1:=ux iB 32 (.string q.text);have f33:=frozen_of_row _ a0 33 _ _ r1;have Ql:=cell_of_row _ a0 33 _ _ _ r1;have e33:((xA t).setIfInBounds 32 (.string q.text))[33]?=some (.string t.name):=by rw[X4 (by decide)];exact ar33 t
 rw[e33]at Ql;have r2:=ux r1 33 (.string q.name);have f37:=frozen_of_row _ a0 37 _ _ r2;have Qm:=cell_of_row _ a0 37 _ _ _ r2;have Qe:(((xA t).setIfInBounds 32 (.string q.text)).setIfInBounds 33 (.string q.name))[37]?=some (.string t.subj):=by rw[X4 (by decide),X4 (by decide)];exact ar37 t
 rw[Qe]at Qm;have r3:=ux r2 37 (.string q.subj);rw[yI5]at r3;obtain⟨A1,XL⟩:∃A1:Art,A1={ t with text:=q.text,name:=q.name,subj:=q.subj }:=⟨_,rfl⟩;rw[<-XL]at r3;obtain⟨w9,gC⟩:∃w9,w9=((w8.setCell ⟨a0,32,none⟩ (.string q.text)).setCell ⟨a0,33,none⟩ (.string q.name)).setCell ⟨a0,37,none⟩ (.string q.subj):=⟨_,rfl⟩;rw[<-gC]at r3;have sg:Kept [a0] w8 w9:=by rw[gC];exact((yW w8 ⟨a0,32,none⟩ _).trans (yW _ ⟨a0,33,none⟩ _) (λk c=>.inl c)).trans (yW _ ⟨a0,37,none⟩ _) (λk c=>.inl c)
 have PP:Hid (A1=⟨q.id,q.text,q.name,nd,na,.slice none 0 0,q.subj,.slice none 0 0,q.perm⟩):=h_ (by rw[XL,PH.out]);have SV:=h_ r3;have XM:=Gg.trans wE (λk c=>.inl c);have HK9:Hid (Kept [r] w w9):=h_ (XM.trans sg (λk c=>.inr (by rw[S_.1 c];exact p.2)));have sU:=om.kept sg (by simp;omega) (by have:=J2.trans QI.out;simp;rw[this];omega);have XN:=h_ (J2.trans QI.out);have XO:=h_ (kH _ sU (xu _ _));rw[zM _ (by have:=S.ng;omega)]at XO;clear wE om J2 iB r1 r2 r3 e33 Qe XL sg XM sU Lw p hl;go_upto_region 3 with fail
 refine xm gC ?_;clear gC f32 JL f33 Ql f37 Qm;go_wp2_with fail;refine XO.mono ?_;rintro e wA ⟨rfl,T,aA,cA,J3,B4⟩;have a_:Hid (RpSt w r a0 A1 (q.groups.flatMap txB++(beB 4 q.refs.length++(q.refs.flatMap (·.1)++[]))) wA):=h_ ⟨HK9.trans T (λk c=>.inl c),(T.block a0 (i_ SV.out).1 (by have:=K.out;have:=M.out;simp;omega)).trans SV.out,aA,cA,J3,by rw[B4,XN.out];exact M.1⟩;obtain⟨rest,sK⟩:∃rest,rest=beB 4 q.refs.length++(q.refs.flatMap (·.1)++[]):=⟨_,rfl⟩;rw[<-sK]at a_;have nt:=h_ sK;obtain⟨ng,XP⟩:∃ng,ng=q.groups.length:=⟨_,rfl⟩;rw[<-XP];have J4:=h_ XP;have XQ:(ng:Int)<=22:=by have:=S.ng;omega
 clear T J3 B4 sK XP XO;go_wp2;obtain⟨i0,y,bf,aP,be⟩:=info_parts Tryz.info_str;have HI:=h_ (And.intro y (And.intro bf (And.intro aP be)));clear y bf aP be;go_loopw [4] (λi wr=>∃m k:Nat,i=.int .i64 m/\m+k=ng/\Hid (∃gv,RpSt w r a0 { A1 with groups:=gv } ((q.groups.drop k).flatMap txB++rest) wr/\wr.ownsRow w.heap.size 9 1 gv k ((q.groups.take k).map Value.string))) (λi _=>(intOf i).toNat)
 case atStart=>exact⟨ng,0,rfl,aN_ _,h_ ⟨.slice none 0 0,by have:=a_.out;rw[aS_];rw[PP.out]at this⊢;exact this,D1 _ _ _ _⟩⟩
 case round=>
  obtain⟨m,k,rfl,hm,HS⟩:=hrel;obtain⟨gv,hs,o⟩:=HS.out;obtain⟨ra,rc,l,R⟩:=hs.rd;have H:=l.row;unfold RdAt at H;have cf:=cell_of_row wr r 1 _ _ _ H;simp only[v_]at cf;by_cases hm0:0<m
  ·have n4:(0:Int)<(m:Int):=by omega
   have c:k<q.groups.length:=by rw[<-J4.out];omega
   have hd:q.groups.drop k=q.groups[k] :: q.groups.drop (k+1):=M3 c;have cD:Hid (q.groups.take (k+1)=q.groups.take k++[q.groups[k]]):=h_ (d0 c);have dL:=S.gs _ (L3 c);obtain⟨s,wY⟩:∃s,s=q.groups[k]:=⟨_,rfl⟩;rw[<-wY]at hd cD dL;rw[hd,as_,B8]at l;unfold txB at l;rw[B8]at l;have JN:=(cell_of_row wr a0 36 _ _ _ hs.row).trans (ar36 _);obtain⟨xa,xc,X,J5⟩:=j0 o;simp only[X]at JN;have z0:∀z:CeC a0 36 (.slice xa k xc),z.1.cell? ⟨a0,36,none⟩=some (.slice xa k xc):=λz=>z.2
   haveI:Nonempty (CeC a0 36 (.slice xa k xc)):=⟨⟨wr,JN⟩⟩
   have D:=h_ (vi _ _ (l.below (z_ wr.heap.size wr).drew) (xu _ _) (zM _ (by rw[zu];omega)));rw[show str (bys s)=s from rfl]at D;have v:=h_ (And.intro hs.kept (And.intro hs.row o));have XR:Hid (wr.drew.cell? ⟨a0,36,none⟩=some (.slice xa k xc)):=h_ JN;have G:=h_ X;have J6:=h_ R;have wS:(k:Int)<=xc:=by omega
   have Dw:(k:Int)<=22:=by omega
   have HM:=h_ hm;clear hs o l R H hd wY X dL c HS;go_upto_region 6 with fail
   clear cf JN;refine xz [0,1,2] [3,4,5,6,7] (λw'=>∃z:CeC a0 36 (.slice xa k xc),w'=z.1) ⟨⟨wr.drew,XR.out⟩,rfl⟩ ?_;simp only[o_]
   repeat (go_big_quiet_step (fail))
   refine wpQuiet_nil ?_;clear z0;refine yo true ?_;simp only[o_];go_wp2_with fail;refine D.mono ?_;rintro e wb ⟨rfl,A,ab,cb,B5,B6⟩;have p:=K.out;have hl:=M.out;have iU:=v.1.size;have f:wr.drew.heap[a0]?=wr.heap[a0]?:=rfl;have J:=(A.block a0 (by have:=(i_ v.2.1).1;exact this) (by simp;omega)).trans (f.trans v.2.1);have k36b:=(cell_of_row wb a0 36 _ _ _ J).trans (ar36 _);simp only[G.out]at k36b;have lM:=yf (uo v.2.2 (z_ wr.heap.size wr).drew) A (λj b e=>by have:=(v.2.2.lt j e).1;rw[S_.1 b]at this;omega);rw[G.out]at lM;have Z:=lM.alloc (.cells #[.string s] 9);obtain⟨wc,x⟩:∃wc,wc=wb.alloc (.cells #[.string s] 9):=⟨_,rfl⟩;rw[<-x]at Z;have Ge:Below wb.heap.size wb wc:=by grind
   have Y:=(Ge.block _ (i_ J).1).trans J;have k36c:=(cell_of_row wc a0 36 _ _ _ Y).trans (ar36 _);simp only[G.out]at k36c;have aB:=heap_alloc_new wb (.cells #[.string s] 9);rw[<-x]at aB;have P:=h_ ((v.1.trans (Kept.of_below (F:=[]) (z_ wr.heap.size wr).drew) (λ_ h=>by cases h)).trans A (λj b=>.inl b));have O:=h_ (And.intro B5 (show ab.block<w.heap.size by rw[B6];exact J6.out));have B:=h_ Z;have I:=h_ Y;have E:=h_ Ge;have g7:=h_ aB;have QJ:=h_ k36b;have QK:=h_ k36c;clear A B5 B6 p hl iU f J k36b lM Z Ge Y k36c aB D;go_wp2;refine⟨λ_=>⟨⟨wb,QJ.out⟩,rfl⟩,?_⟩;refine yo true ?_;simp only[o_];go_wp2;rw[<-x];refine⟨λ_=>⟨⟨wc,QK.out⟩,rfl⟩,yE ?_⟩;simp only[o_];go_wp2_with (at_builtin;refine wpList_append_own _ rfl (.tmp 39) (.tmp 42) 43 rfl w.heap.size 9 i0 (.string ⟨#[]⟩) 1 16 underlying43 HI.1 HI.2.1 HI.2.2.1 HI.2.2.2 rfl (by decide) _ _ _ rfl B.out ⟨wb.heap.size,0,none⟩ 1 1 [.string s] rfl rfl ?c1 ?c2 ?c3 ?c4 ?c5 ?_)
   case c1=>
    intro j u b;rw[l8,m0];refine(cell_of_row wc wb.heap.size j _ _ _ g7.out).trans ?_;rw[l7];exact b
   case c2=>intro u hu;simp at hu;subst hu;rfl
   case c3=>unfold maxLen;omega
   case c4=>omega
   case c5=>have:=P.size;have:=E.size;omega
   intro v' wd L C _;rw[<-x]at C;have p:=K.out;have hl:=M.out;have LC:=P.size;have XS:=E.size;have W:Below w.heap.size wc wd:=Below.grown (z_ _ _) C (by omega) (λj b=>(B.lt j b).1);have f:=(C.block a0 (i_ I.out).1 (bX_ (vf B.out I.out (λcs e=>by simp at e)))).trans I.out;have ov:=(cell_of_row wd a0 36 _ _ _ f).trans (ar36 _);have f36:=frozen_of_row wd a0 36 _ _ f;simp only[G.out]at ov;have d:=ux f 36 v';rw[yG9]at d;obtain⟨we,U⟩:∃we,we=wd.setCell ⟨a0,36,none⟩ v':=⟨_,rfl⟩;rw[<-U]at d;have Q:Kept [a0] wd we:=by rw[U];exact yW wd ⟨a0,36,none⟩ _
   have B7:Below w.heap.size wd we:=Q.below (by have:=W.size;omega) (λj b=>by rw[S_.1 b];exact p.2);have V:Below w.heap.size wb we:=((E.mono LC).trans W).trans B7;have pu:we.ownsRow w.heap.size 9 1 v' (k+1) ((q.groups.take (k+1)).map Value.string):=by
    rw[cD.out,L8,aI_];exact yf L Q (λj b=>by rw[S_.1 b];exact vf L f (λcs e=>by simp at e))
   have HN:Hid (∃gv,RpSt w r a0 { A1 with groups:=gv } ((q.groups.drop (k+1)).flatMap txB++rest) we/\we.ownsRow w.heap.size 9 1 gv (k+1) ((q.groups.take (k+1)).map Value.string)):=h_ ⟨v',⟨P.more V,d,ab,cb,O.1.lo V hl.2 O.2,O.2⟩,pu⟩;obtain⟨qa,qn,qc,XT⟩:=zd L;subst XT;clear L C p hl LC XS W f d Q B7 V pu x I B g7 E P O;obtain⟨m',rfl⟩:∃m',m=m'+1:=⟨m-1,by omega⟩;have lY:m'+(k+1)=ng:=by have:=HM.out;omega
   go_wp2;refine T_ ?_;go_wp2;rw[<-U];go_roundw
   case rel=>exact⟨m',k+1,by go_num,lY,HN⟩
   case measure=>simp[intOf]
  ·obtain rfl:m=0:=by omega
   obtain rfl:k=ng:=by omega
   rw[J4.out,List.drop_length,List.flatMap_nil,E8,nt.out]at l;obtain⟨A2,J1⟩:∃A2:Art,A2={ A1 with groups:=gv }:=⟨_,rfl⟩;have eL:=hs.row;rw[<-J1]at eL;have pU:=h_ J1;have QL:Hid (wr.ownsRow w.heap.size 9 1 gv q.groups.length (q.groups.map Value.string)):=h_ (by rw[J4.out,X3]at o;exact o);have th:=h_ eL;have HKW:=h_ hs.kept;have J6:=h_ R;have XU:=h_ (kH _ l (xu _ _));rw[zM _ (by have:=S.nr;omega)]at XU;clear hs o l R H J1 eL HS hm0 XQ;go_wp2_with fail;clear cf;refine XU.mono ?_;rintro e wA2 ⟨rfl,T,aA2,cA2,J3,B4⟩;have p:=K.out;have hl:=M.out;have eG:wA2.ownsRow w.heap.size 9 1 gv q.groups.length (q.groups.map Value.string):=yf QL.out T (λj b e=>by have:=(QL.lt j e).1;rw[S_.1 b]at this;omega);have eN:Hid (RpSt w r a0 A2 (q.refs.flatMap (·.1)++[]) wA2):=h_ ⟨HKW.trans T (λj b=>.inl b),(T.block a0 (i_ th.out).1 (by simp;omega)).trans th.out,aA2,cA2,J3,by rw[B4];exact J6.out⟩;have XV:=h_ eG;obtain⟨nr,Bp⟩:∃nr,nr=q.refs.length:=⟨_,rfl⟩;rw[<-Bp];have J7:=h_ Bp;have hnrz:(nr:Int)<=22:=by have:=S.nr;omega
   obtain⟨i0,y,bf,aP,be⟩:=info_parts Tryz.info_id;have HJ:=h_ (And.intro y (And.intro bf (And.intro aP be)));clear y bf aP be T J3 B4 p hl eG Bp XU;go_wp2;go_loopw [5] (λi wr=>∃m k:Nat,i=.int .i64 m/\m+k=nr/\Hid (∃N,RpSt w r a0 { A2 with refs:=N } ((q.refs.drop k).flatMap (·.1)++[]) wr/\yJ w.heap.size wr N (q.refs.take k))/\Hid (wr.ownsRow w.heap.size 9 1 gv q.groups.length (q.groups.map Value.string))) (λi _=>(intOf i).toNat)
   case atStart=>exact⟨nr,0,rfl,aN_ _,h_ ⟨.slice none 0 0,by have:=eN.out;rw[aS_];rw[pU.out,PP.out]at this⊢;exact this,D1 _ _ _ _⟩,XV⟩
   case round=>
    obtain⟨m,k,rfl,hm,HS,GM⟩:=hrel;obtain⟨N,hs,o⟩:=HS.out;obtain⟨ra,rc,l,R⟩:=hs.rd;have H:=l.row;unfold RdAt at H;have cf:=cell_of_row wr r 1 _ _ _ H;simp only[v_]at cf;by_cases hm0:0<m
    ·have n4:(0:Int)<(m:Int):=by omega
     have c:k<q.refs.length:=by rw[<-J7.out];omega
     have hd:q.refs.drop k=q.refs[k] :: q.refs.drop (k+1):=M3 c;have cD:Hid (q.refs.take (k+1)=q.refs.take k++[q.refs[k]]/\(q.refs.take k).length=k):=h_ ⟨d0 c,List.length_take_of_le (T8 c)⟩;obtain⟨s,wY⟩:∃s,s=q.refs[k]:=⟨_,rfl⟩;rw[<-wY]at hd cD;rw[hd,as_,B8]at l;have GE:=(cell_of_row wr a0 38 _ _ _ hs.row).trans (ar38 _);unfold yJ at o;rw[cD.2]at o;obtain⟨xa,xc,X,J5⟩:=j0 o;simp only[X]at GE;have z0:∀z:CeC a0 38 (.slice xa k xc),z.1.cell? ⟨a0,38,none⟩=some (.slice xa k xc):=λz=>z.2
     haveI:Nonempty (CeC a0 38 (.slice xa k xc)):=⟨⟨wr,GE⟩⟩
     have D:=h_ (xX6 s (l.below (z_ wr.heap.size wr).drew));have v:=h_ (And.intro hs.kept (And.intro hs.row o));have XW:Hid (wr.drew.cell? ⟨a0,38,none⟩=some (.slice xa k xc)):=h_ GE;have G:=h_ X;have QM:=h_ R;have wS:(k:Int)<=xc:=by omega
     have Dw:(k:Int)<=22:=by omega
     have HM:=h_ hm;have rQ:=j8 s;clear hs o l R H hd wY X c HS;go_upto_region 10 with fail
     clear cf GE;refine xz [0,1,2] [3,4,5,6,7] (λw'=>∃z:CeC a0 38 (.slice xa k xc),w'=z.1) ⟨⟨wr.drew,XW.out⟩,rfl⟩ ?_;simp only[o_]
     repeat (go_big_quiet_step (fail))
     refine wpQuiet_nil ?_;clear z0;refine yo true ?_;simp only[o_];go_wp2_with fail;refine D.mono ?_;rintro e wb ⟨rfl,A,ab,cb,B5,B6⟩;have p:=K.out;have hl:=M.out;have iU:=v.1.size;have f:wr.drew.heap[a0]?=wr.heap[a0]?:=rfl;have J:=(A.block a0 (by have:=(i_ v.2.1).1;exact this) (by simp;omega)).trans (f.trans v.2.1);have k38b:=(cell_of_row wb a0 38 _ _ _ J).trans (ar38 _);simp only[G.out]at k38b;have lM:=yf (uo v.2.2 (z_ wr.heap.size wr).drew) A (λj b e=>by have:=(v.2.2.lt j e).1;rw[S_.1 b]at this;omega);rw[G.out]at lM;have Z:=lM.alloc (.cells (xl s).toArray 42);obtain⟨wc,x⟩:∃wc,wc=wb.alloc (.cells (xl s).toArray 42):=⟨_,rfl⟩;rw[<-x]at Z;have Ge:Below wb.heap.size wb wc:=by grind
     have Y:=(Ge.block _ (i_ J).1).trans J;have k38c:=(cell_of_row wc a0 38 _ _ _ Y).trans (ar38 _);simp only[G.out]at k38c;have aB:=heap_alloc_new wb (.cells (xl s).toArray 42);rw[<-x]at aB;have P:=h_ ((v.1.trans (Kept.of_below (F:=[]) (z_ wr.heap.size wr).drew) (λ_ h=>by cases h)).trans A (λj b=>.inl b));have O:=h_ (And.intro B5 (show ab.block<w.heap.size by rw[B6];exact QM.out));have QN:=h_ (yf (uo GM.out (z_ wr.heap.size wr).drew) A (λj b e=>by have:=(GM.lt j e).1;rw[S_.1 b]at this;omega));have B:=h_ Z;have I:=h_ Y;have E:=h_ Ge;have g7:=h_ aB;have QO:=h_ k38b;have QP:=h_ k38c;clear A B5 B6 p hl iU f J k38b lM Z Ge Y k38c aB D;go_wp2;refine⟨λ_=>⟨⟨wb,QO.out⟩,rfl⟩,?_⟩;refine yo true ?_;simp only[o_];go_wp2;rw[<-x];refine⟨λ_=>⟨⟨wc,QP.out⟩,rfl⟩,yE ?_⟩;simp only[o_];go_wp2_with (at_builtin;refine wpList_append_own _ rfl (.tmp 59) (.tmp 62) 44 rfl w.heap.size 42 i0 (.agg (xl yI).toArray) 32 32 underlying44 HJ.1 HJ.2.1 HJ.2.2.1 HJ.2.2.2 rfl (by decide) _ _ _ rfl B.out ⟨wb.heap.size,0,none⟩ 1 1 (xl s) rfl ?c0 ?c1 ?c2 ?c3 ?c4 ?c5 ?_)
     case c0=>rw[xD]
     case c1=>
      intro j u b;rw[l8,m0];refine(cell_of_row wc wb.heap.size j _ _ _ g7.out).trans ?_;rw[l7];exact b
     case c2=>exact zT s
     case c3=>unfold maxLen;omega
     case c4=>omega
     case c5=>have:=P.size;have:=E.size;omega
     intro v' wd L C _;rw[<-x]at C;have p:=K.out;have hl:=M.out;have LC:=P.size;have XS:=E.size;have W:Below w.heap.size wc wd:=Below.grown (z_ _ _) C (by omega) (λj b=>(B.lt j b).1);have f:=(C.block a0 (i_ I.out).1 (bX_ (vf B.out I.out (λcs e=>by simp at e)))).trans I.out;have GB:=(cell_of_row wd a0 38 _ _ _ f).trans (ar38 _);have f38:=frozen_of_row wd a0 38 _ _ f;simp only[G.out]at GB;have d:=ux f 38 v';rw[yG8]at d;obtain⟨we,U⟩:∃we,we=wd.setCell ⟨a0,38,none⟩ v':=⟨_,rfl⟩;rw[<-U]at d;have Q:Kept [a0] wd we:=by rw[U];exact yW wd ⟨a0,38,none⟩ _
     have B7:Below w.heap.size wd we:=Q.below (by have:=W.size;omega) (λj b=>by rw[S_.1 b];exact p.2);have V:Below w.heap.size wb we:=((E.mono LC).trans W).trans B7;have pu:yJ w.heap.size we v' (q.refs.take (k+1)):=by
      unfold yJ;rw[cD.1,b6,cD.2];have h9:zH (q.refs.take k++[s])=zH (q.refs.take k)++xl s:=by simp[zH]
      rw[h9];exact yf L Q (λj b=>by rw[S_.1 b];exact vf L f (λcs e=>by simp at e))
     have Om:we.ownsRow w.heap.size 9 1 gv q.groups.length (q.groups.map Value.string):=by
      have g1:=uo QN.out E.out;have g2:wd.ownsRow w.heap.size 9 1 gv q.groups.length (q.groups.map Value.string):=by
       refine⟨g1.1,?_⟩;rcases g1.2 with h0|⟨g,cap,cur,hv,hg,aw,rr⟩
       ·exact .inl h0
       ·exact .inr ⟨g,cap,cur,hv,hg,(C.block g (i_ aw).1 (bX_ (vf B.out aw (λcs e=>by simp at e)))).trans aw,rr⟩
      exact yf g2 Q (λj b=>by rw[S_.1 b];exact vf g2 f (λcs e=>by simp at e))
     have HN:Hid (∃N,RpSt w r a0 { A2 with refs:=N } ((q.refs.drop (k+1)).flatMap (·.1)++[]) we/\yJ w.heap.size we N (q.refs.take (k+1))):=h_ ⟨v',⟨P.more V,d,ab,cb,O.1.lo V hl.2 O.2,O.2⟩,pu⟩;have XX:=h_ Om;obtain⟨qa,qn,qc,XT⟩:=zd L;subst XT;clear L C p hl LC XS W f d Q B7 V pu Om x I B g7 E P O QN;obtain⟨m',rfl⟩:∃m',m=m'+1:=⟨m-1,by omega⟩;have lY:m'+(k+1)=nr:=by have:=HM.out;omega
     go_wp2;refine T_ ?_;go_wp2;rw[<-U];go_roundw
     case rel=>exact⟨m',k+1,by go_num,lY,HN,XX⟩
     case measure=>simp[intOf]
    ·obtain rfl:m=0:=by omega
     obtain rfl:k=nr:=by omega
     rw[J7.out,List.drop_length,List.flatMap_nil,E8]at l;have lp:yJ w.heap.size wr N q.refs:=by rw[J7.out,X3]at o;exact o
     obtain⟨A3,XY⟩:∃A3:Art,A3={ A2 with refs:=N }:=⟨_,rfl⟩;have J8:A3=⟨q.id,q.text,q.name,nd,na,gv,q.subj,N,q.perm⟩:=by rw[XY,pU.out,PP.out]
     have ah:=hs.row;rw[<-XY]at ah;obtain⟨o3,r3⟩:=xF (n:=40) ah (yt A3);obtain⟨op,ip⟩:∃op,op=wr.heap.size:=⟨_,rfl⟩;obtain⟨wf,XZ⟩:∃wf,wf=wr.alloc (.cells (yP A3++[Value.slice none 0 0]).toArray 93):=⟨_,rfl⟩;have bY:Below wr.heap.size wr wf:=by grind
     have tf:xAk wf op A3 (.slice none 0 0):=by grind [xAk]
     have hbw:Below w.heap.size wr wf:=bY.mono hs.kept.size;have bn:xWc r q w (.returned (.pointer (some ⟨op,0,none⟩))) wf:=by
      refine⟨op,A3,rfl,hs.kept.more hbw,by rw[ip];exact hs.kept.size,tf,?_,?_,ra,rc,l.below bY⟩
      ·rw[J8];exact⟨rfl,rfl,rfl,HZ.2,HZ.1,rfl,rfl,zi (uo GM.out bY) (n3 _),zi (uo lp bY) (n3 _)⟩
      ·rw[J8];intro j b;rcases b with b|b
       ·exact(GM.lt j b).1
       ·exact(lp.lt b).1
     have HF:=h_ bn;clear hs o l R H lp J8 ah bY tf hbw bn HS XY hm0;go_wp2;go_ret;rw[<-XZ,<-ip];exact HF.out
end
section
def OpAt (lo:Nat)(o:SOp)(ty:TypeId)(op:Nat)(w':World):Prop:=lo<=op/\match o with
 |.put a=>ty=91/\∃A,xAk w' op A (.slice none 0 0)/\qL w' A a.clean/\∀k,A.groups.ownBlock=some k\/A.refs.ownBlock=some k->lo<=k
 |.rm id=>ty=95/\w'.heap[op]?=some (.cells (xl id).toArray 97 (0,0))
 |.opn k=>ty=98/\w'.heap[op]?=some (.cells #[.string k] 100 (0,0))
 |.cls k=>ty=101/\w'.heap[op]?=some (.cells #[.string k] 102 (0,0))
def xWj (o:SOp)(w:World)(e:Ending)(w':World):Prop:=∃ty op,e=.returned (.tuple #[.iface ty (.pointer (some ⟨op,0,none⟩)),.bool true])/\Below w.heap.size w w'/\OpAt w.heap.size o ty op w'
theorem OpAt.below {lo o ty op}{w w':World}(h:OpAt lo o ty op w)(b:Below w.heap.size w w'):OpAt lo o ty op w':=by
 obtain⟨h1,h2⟩:=h;refine⟨h1,?_⟩;cases o with
 |put a=>
  obtain⟨h3,A,h4,d,c⟩:=h2;exact⟨h3,A,(b.block _ (i_ h4).1).trans h4,d.below b,c⟩
 |rm id=>exact⟨h2.1,(b.block _ (i_ h2.2).1).trans h2.2⟩
 |opn k=>exact⟨h2.1,(b.block _ (i_ h2.2).1).trans h2.2⟩
 |cls k=>exact⟨h2.1,(b.block _ (i_ h2.2).1).trans h2.2⟩
def SOp.Fits:SOp->Prop
 |.put a=>a.Fits/\(0<=a.arr/\a.arr<=2147483647)/\(0<=a.date/\a.date<=2147483647)
 |.rm _=>True
 |.opn k=>k.size<=1000
 |.cls k=>k.size<=1000
theorem xPf (a:PArt):a.clean.arr=a.arr/\a.clean.date=a.date:=by unfold PArt.clean;split <;> exact⟨rfl,rfl⟩
theorem xZ0 (k:ByteArray)(l:By):txB k++l=beB 4 (bys k).length++(bys k++l):=by unfold txB;rw[B8]
attribute [local go_sem ↓] xDj xC3 xP xI xDm
attribute [local go_sem] xXp xWw zg zj yG5 zr zx yA yz xh xg xe xd xx xy xk xj xq xB xw
theorem xQ8 {w}(o:SOp)(ho:o.Fits)(a cap)(hs:SlB w a (recO o))(ha:a.block<w.heap.size)(U:(recO o).length<=cap)(T:cap<=maxLen):
  Calls prog 58 #[.slice (some a) (recO o).length cap] w (xWj o w):=by
 obtain⟨r,B⟩:∃r,r=w.heap.size:=⟨_,rfl⟩;obtain⟨n,P⟩:∃n,n=(recO o).length:=⟨_,rfl⟩;rw[<-P];obtain⟨z,G⟩:∃z,z=w.alloc (.cells #[.slice (some a) n cap,.bool false] 210):=⟨_,rfl⟩;have N:Below w.heap.size w z:=by grind
 have g:zv z r a cap (recO o):=by
  refine⟨?_,⟨λq x hq=>(N.cell (by rw[xY];exact ha)).trans (hs.cell q x hq)⟩,U,T,by omega,b7 ha N.size⟩;rw[<-P];grind [RdAt]
 have J:=h_ N;have Z:=h_ B;have L:=h_ ho;clear hs ha U T N P ho
 have V:∀(ty:TypeId) (op:Nat) (b:World),Kept [r] z b->OpAt w.heap.size o ty op b->∀k,xWj o w (.returned (.tuple #[.iface ty (.pointer (some ⟨op,0,none⟩)),.bool true])) (b.drewN k):=λty op b Q y k=>
  ⟨ty,op,rfl,y9 (J.trans (Q.below J.size (λj C=>by rw[S_.1 C,Z.out];exact w_ _))) k,y.below (y9 (z_ _ _) k)⟩
 have O:=h_ V;clear V;cases o with
 |put q=>
  have g:zv z r a cap ([2]++recQ q.clean):=by rw[<-yB5];exact g
  have i:=h_ (xB4 2 g);have s:((2:UInt8).toNat:Int)=2:=rfl;rw[s]at i;clear g s;go_enter func58,ntmps58;go_upto_region 2 with fail
  refine xm G ?_;rw[<-B];clear G B;go_wp2_with fail;refine i.mono ?_;rintro e M ⟨rfl,d,R,c2,v,H⟩;have p:=h_ d;have m:=h_ (yH6 q.clean L.1.clean (by rw[(xPf q).1];exact L.2.1) (by rw[(xPf q).2];exact L.2.2) v);clear d v H i;go_wp2_with fail;refine m.mono ?_;rintro e b ⟨op,A,rfl,l,Y,S,W,X,a3,c3,t⟩;have h1:=t.row;unfold RdAt at h1;have c0:=cell_of_row b r 0 _ _ _ h1;have c1:=cell_of_row b r 1 _ _ _ h1;simp only[v_,L1]at c0 c1;have f:w.heap.size<=M.heap.size:=by have:=J.size;have:=p.size;omega
  have I:=h_ (O.out 91 op b (p.trans l (λj C=>.inl C)) ⟨by omega,rfl,A,S,W,λk Q=>R_ f (X k Q)⟩);clear l Y S W X t h1 f m;go_upto_region 17 with fail
  go_quiet (fail);clear c0 c1;go_wp2;go_ret2;exact I.out _
 |rm id=>
  have g:zv z r a cap ([3]++(id.1++[])):=by
   have K:recO (.rm id)=[3]++(id.1++[]):=by rw[G5];rfl
   rw[<-K];exact g
  have i:=h_ (xB4 3 g);have s:((3:UInt8).toNat:Int)=3:=rfl;rw[s]at i;clear g s;go_enter func58,ntmps58;go_upto_region 2 with fail
  refine xm G ?_;rw[<-B];clear G B;go_wp2_with fail;refine i.mono ?_;rintro e M ⟨rfl,d,R,c2,v,H⟩;have p:=h_ d;have m:=h_ (xX6 id v);clear d v H i;go_wp2_with fail;refine m.mono ?_;rintro e b ⟨rfl,l,a3,c3,t,_⟩;obtain⟨op,y⟩:∃op,op=b.heap.size:=⟨_,rfl⟩;obtain⟨c,E⟩:∃c,c=b.alloc (.cells (xl id).toArray 97):=⟨_,rfl⟩;have u:Below b.heap.size b c:=by grind
  have D:c.heap[op]?=some (.cells (xl id).toArray 97 (0,0)):=by grind
  have h1:=(t.below u).row;unfold RdAt at h1;have c0:=cell_of_row c r 0 _ _ _ h1;have c1:=cell_of_row c r 1 _ _ _ h1;simp only[v_,L1]at c0 c1;have f:w.heap.size<=b.heap.size:=by have:=J.size;have:=p.size;have:=l.size;omega
  have I:=h_ (O.out 95 op c ((p.trans l (λj C=>.inl C)).trans (Kept.of_below (F:=[]) u) (λ_ h=>by cases h)) ⟨by omega,rfl,D⟩);clear l t h1 f u D m;go_upto_region 17 with fail
  refine xm E ?_;rw[<-y];clear E y;go_quiet (fail);clear c0 c1;go_wp2;go_ret2;exact I.out _
 |opn k=>
  have g:zv z r a cap ([4]++(beB 4 (bys k).length++(bys k++[]))):=by
   have K:recO (.opn k)=[4]++(beB 4 (bys k).length++(bys k++[])):=by rw[<-xZ0,G5];rfl
   rw[<-K];exact g
  have i:=h_ (xB4 4 g);have s:((4:UInt8).toNat:Int)=4:=rfl;rw[s]at i;clear g s;go_enter func58,ntmps58;go_upto_region 2 with fail
  refine xm G ?_;rw[<-B];clear G B;go_wp2_with fail;refine i.mono ?_;rintro e M ⟨rfl,d,R,c2,v,H⟩;have p:=h_ d;have m:=h_ (vi _ _ v (xu _ _) (zM _ (by have:k.size<=1000:=L.out;rw[zu];omega)));rw[show str (bys k)=k from rfl]at m;clear d v H i;go_wp2_with fail;refine m.mono ?_;rintro e b ⟨rfl,l,a3,c3,t,_⟩;obtain⟨op,y⟩:∃op,op=b.heap.size:=⟨_,rfl⟩;obtain⟨c,E⟩:∃c,c=b.alloc (.cells #[.string k] 100):=⟨_,rfl⟩;have u:Below b.heap.size b c:=by grind
  have D:c.heap[op]?=some (.cells #[.string k] 100 (0,0)):=by grind
  have h1:=(t.below u).row;unfold RdAt at h1;have c0:=cell_of_row c r 0 _ _ _ h1;have c1:=cell_of_row c r 1 _ _ _ h1;simp only[v_,L1]at c0 c1;have f:w.heap.size<=b.heap.size:=by have:=J.size;have:=p.size;have:=l.size;omega
  have I:=h_ (O.out 98 op c ((p.trans l (λj C=>.inl C)).trans (Kept.of_below (F:=[]) u) (λ_ h=>by cases h)) ⟨by omega,rfl,D⟩);clear l t h1 f u D m;go_upto_region 17 with fail
  refine xm E ?_;rw[<-y];clear E y;go_quiet (fail);clear c0 c1;go_wp2;go_ret2;exact I.out _
 |cls k=>
  have g:zv z r a cap ([5]++(beB 4 (bys k).length++(bys k++[]))):=by
   have K:recO (.cls k)=[5]++(beB 4 (bys k).length++(bys k++[])):=by rw[<-xZ0,G5];rfl
   rw[<-K];exact g
  have i:=h_ (xB4 5 g);have s:((5:UInt8).toNat:Int)=5:=rfl;rw[s]at i;clear g s;go_enter func58,ntmps58;go_upto_region 2 with fail
  refine xm G ?_;rw[<-B];clear G B;go_wp2_with fail;refine i.mono ?_;rintro e M ⟨rfl,d,R,c2,v,H⟩;have p:=h_ d;have m:=h_ (vi _ _ v (xu _ _) (zM _ (by have:k.size<=1000:=L.out;rw[zu];omega)));rw[show str (bys k)=k from rfl]at m;clear d v H i;go_wp2_with fail;refine m.mono ?_;rintro e b ⟨rfl,l,a3,c3,t,_⟩;obtain⟨op,y⟩:∃op,op=b.heap.size:=⟨_,rfl⟩;obtain⟨c,E⟩:∃c,c=b.alloc (.cells #[.string k] 102):=⟨_,rfl⟩;have u:Below b.heap.size b c:=by grind
  have D:c.heap[op]?=some (.cells #[.string k] 102 (0,0)):=by grind
  have h1:=(t.below u).row;unfold RdAt at h1;have c0:=cell_of_row c r 0 _ _ _ h1;have c1:=cell_of_row c r 1 _ _ _ h1;simp only[v_,L1]at c0 c1;have f:w.heap.size<=b.heap.size:=by have:=J.size;have:=p.size;have:=l.size;omega
  have I:=h_ (O.out 101 op c ((p.trans l (λj C=>.inl C)).trans (Kept.of_below (F:=[]) u) (λ_ h=>by cases h)) ⟨by omega,rfl,D⟩);clear l t h1 f u D m;go_upto_region 17 with fail
  refine xm E ?_;rw[<-y];clear E y;go_quiet (fail);clear c0 c1;go_wp2;go_ret2;exact I.out _
end
section
noncomputable def runO (c:PC):List SOp->Option PC
 |[]=>some c
 |o :: l=>(step c o).bind λc'=>runO c' l
theorem xCw (c:PC):∀(b a:List SOp),runO c (b++a)=(runO c b).bind λc'=>runO c' a
 |[],_=>rfl
 |o :: b,a=>by
  show (step c o).bind (λc'=>runO c' (b++a))=((step c o).bind λc'=>runO c' b).bind λc'=>runO c' a
  cases step c o with
  |none=>rfl
  |some c'=>exact xCw c' b a
theorem yCg (c:PC)(a:PArt):putO c a.clean=putO c a:=by
 unfold PArt.clean;split
 ·rename_i h;unfold putO xMx put1 PArt.h;simp only[h,↓reduceIte]
 ·rfl
structure xW9 (n:Nat)(ops:List SOp)(c:PC):Prop where
 run:runO (qH n) ops=some c
 fits:∀o∈ops,o.Fits
 few:ops.length<=17
def ve (n:Nat)(ops:List SOp):List By:=(3 :: vW n) :: ops.map λo=>3 :: recO o
theorem xFh {n}(h:n<=1073741824):Few (qH n) 0:=
 ⟨w_ _,w_ _,n3 _,h,rfl,w_ _,λ_ _ h=>(by cases h),⟨[],w_ _,λ_ _=>rfl⟩,λ_=>w_ _⟩
theorem xTt:∀{l:List SOp} {c c':PC} {m},Few c m->(∀o∈l,o.Fits)->runO c l=some c'->Few c' (m+l.length)
 |[],c,c',m,h,_,e=>by cases e;exact h
 |o :: l,c,c',m,h,b,e=>by
  obtain⟨c1,h1,h2⟩:=ah_.1 e;have h3:=h.step h1 (λa ea=>by have:=b o (by simp);rw[ea]at this;exact this.1.ng);have:=xTt h3 (λx hx=>b x (by simp[hx])) h2;rw[x5]
  rwa [show m+(l.length+1)=m+1+l.length by omega]
theorem xW9.cut {n ops c}(h:xW9 n ops c)(k:Nat)(a:k<ops.length):∃c1 c2,runO (qH n) (ops.take k)=some c1/\step c1 ops[k]=some c2/\runO (qH n) (ops.take (k+1))=some c2:=by
 have h1:=h.run;rw[<-Q0 k ops,xCw]at h1;obtain⟨c1,h2,h3⟩:=ah_.1 h1;rw[M3 a]at h3;obtain⟨c2,h4,b⟩:=ah_.1 h3;refine⟨c1,c2,h2,h4,?_⟩;rw[d0 a,xCw,h2];show (step c1 ops[k]).bind _=_
 rw[h4];rfl
theorem yIt (a w):Sem.run prog (Instr.typeAssert (.iface 91 (.pointer a)) 151 141 true) w=.ok (.tuple #[.pointer none,.bool false]) w:=by kernel_rfl
theorem ta_rm (a w):Sem.run prog (Instr.typeAssert (.iface 95 (.pointer a)) 151 141 true) w=.ok (.tuple #[.pointer none,.bool false]) w:=by kernel_rfl
theorem yIu (a w):Sem.run prog (Instr.typeAssert (.iface 98 (.pointer a)) 151 141 true) w=.ok (.tuple #[.pointer none,.bool false]) w:=by kernel_rfl
theorem yIv (a w):Sem.run prog (Instr.typeAssert (.iface 101 (.pointer a)) 151 141 true) w=.ok (.tuple #[.pointer none,.bool false]) w:=by kernel_rfl
attribute [local go_sem ↓] qF qe qf xJj xGq
attribute [local go_sem] xFa xF4 yEu yDh zr zx yA yz xh xg xe xd xx xy xk xj xq xB xw
theorem yB4 {w:World}{B v}{y:By}(ho:OwnB w B v y)(hy:1<=y.length):∃g cap,v=.slice (some ⟨g,0,none⟩) y.length cap/\y.length<=cap/\cap<=maxLen/\g<w.heap.size/\SlB w ⟨g,0,none⟩ y:=by
 rcases ho.at with⟨_,h⟩|⟨g,cap,h1,h2,h3,h4,a⟩
 ·rw[h]at hy;simp at hy
 ·exact⟨g,cap,h1,h3,h4,(ho.lt (k:=g) (by rw[h1];rfl)).2,a⟩
def yA3 (n:Nat)(ops:List SOp)(r0:Nat)(w:World)(k:Nat)(fnd:Bool)(W:World):Prop:=Below w.heap.size w W/\W.heap[r0]?=some (.cells uE 107 (0,0)) /\
 ((k=0/\fnd=false/\W.heap[r0+1]?=some (.cells uE 107 (0,0))) \/
 (∃j x c,k=j+1/\fnd=true/\W.heap[r0+1]?=some (.cells (xR x) 107 (0,0))/\PrtD (r0+2) W x/\x.pc=c/\runO (qH n) (ops.take j)=some c))
def yKh:SOp->FuncId
 |.put _=>321
 |.rm _=>327
 |.opn _=>343
 |.cls _=>346
theorem yCm {b w x}(h:PrtD b w x)(nb)(f:w.heap[nb]?=some (.cells (xR x) 107 (0,0)))(j:Gl w)(q:prog.globals.size<=b)(o:SOp)(ty op lo)(d:OpAt lo o ty op w)(l:∀k∈x.feet,k<lo)(y:b<=lo)(n:o.Fits){m}(c:Few x.pc m)(i:m<=18){c2}(hs:step x.pc o=some c2):
  Calls prog (yKh o) #[.pointer (some ⟨op,0,none⟩),.pointer (some ⟨nb,0,none⟩)] w λe w'=>e=.returned (.int .i64 0)/\Below b w w'/\∃x',PrtD b w' x'/\x'.pc=c2/\w'.heap[nb]?=some (.cells (xR x') 107 (0,0)):=by
 obtain⟨v,d⟩:=d;have p:op∉x.feet:=λg=>by have:=l op g;omega
 have fin:∀{Ap:World->Prop} {e w'},ub b b nb (step x.pc o) Ap w e w'->e=.returned (.int .i64 0)/\Below b w w'/\∃x',PrtD b w' x'/\x'.pc=c2/\w'.heap[nb]?=some (.cells (xR x') 107 (0,0)):=λ{Ap e w'} hh=>by
  rw[hs]at hh;exact⟨hh.2.1,hh.1,hh.2.2.1⟩
 cases o with
 |put a=>
  obtain⟨_,A,s,z,r⟩:=d;have u:=c.iv i;have h1:=xIw h nb f j q a.clean A op b p (R_ y v) (w_ _) z (λk g=>⟨λe=>by have:=r k (.inl e);have:=l k g;omega,λe=>by have:=r k (.inr e);have:=l k g;omega⟩) s n.1.clean (R_ c.hes (by omega)) c.bytes c.bud (R_ c.next (by omega)) u (c.total i h.all.o rfl);rw[yCg]at h1;exact h1.mono λe w' hh=>fin hh
 |rm id=>exact(xIs h nb f j q id op p d.2 c.sum (R_ c.bytes c.bud) (c.iv i)).mono λe w' hh=>fin hh
 |opn k=>exact(xIz h (by have h1:=c.tn;have:x.pc.tn=x.t.gs.length:=rfl;omega) nb f j op k (by have:k.size<=1000:=n;unfold maxLen;omega) d.2).mono λe w' hh=>fin hh
 |cls k=>exact(xJp h nb f op k d.2).mono λe w' hh=>fin hh
theorem xTw {w}(n)(h1:1<=n)(h2:n<=1073741824)(ops:List SOp)(c:PC)(ht:xW9 n ops c)(hG:Gl w)(v l B)(h:JeAt w B v l)(hl:l.map (λx=>x.2.1)=ve n ops)(bO:B<=w.heap.size):
  Calls prog 34 #[v] w (xSm c w):=by
 have cZ:l.length=ops.length+1:=by have:=congrArg List.length hl;simpa[ve]using this
 have bK:∀k (hk:k<l.length),∃y,l[k].2.1=3 :: y/\(k=0->y=vW n)/\(∀j (Q:j<ops.length),k=j+1->y=recO ops[j])/\1<=y.length/\y.length<=50000:=λk hk=>by
  have t:(l.map (λx=>x.2.1))[k]?=some l[k].2.1:=by rw[R1,U_ hk];rfl
  rw[hl]at t;unfold ve at t;cases k with
  |zero=>
   rw[t1]at t;exact⟨vW n,(G0 t).symm,λ_=>rfl,λj _ e=>by omega,by rw[yQ];omega,by rw[yQ];omega⟩
  |succ j=>
   have Q:j<ops.length:=by omega
   rw[m8,R1,U_ Q]at t;have F:=ht.fits _ (L3 Q);refine⟨recO ops[j],(G0 t).symm,λe=>by omega,λj' _ e=>(by cases (show j=j' by omega);rfl),?_⟩;cases ho:ops[j] with
   |put a=>rw[ho]at F;have:=xTz F.1.clean;exact⟨this.2,R_ this.1 (by omega)⟩
   |rm id=>rw[xQk];omega
   |opn k=>rw[ho]at F;have:k.size<=1000:=F;rw[xZ7];omega
   |cls k=>rw[ho]at F;have:k.size<=1000:=F;rw[xZ8];omega
 obtain⟨b,O⟩:∃r,r=w.heap.size:=⟨_,rfl⟩;obtain⟨U,aj⟩:∃U,U=(w.alloc (.cells uE 107)).alloc (.cells uE 107):=⟨_,rfl⟩;have QQ:Below w.heap.size w U:=by grind
 have aH:U.heap[b]?=some (.cells uE 107 (0,0)):=by grind
 have lT:U.heap[b+1]?=some (.cells uE 107 (0,0)):=by grind
 obtain⟨g,cap,_,_,hv,bj,Gw⟩:=h.get 0 (by omega);clear Gw;obtain⟨N,hN⟩:∃N,N=l.length:=⟨_,rfl⟩;rw[<-hN]at hv bj;have HJ:=h_ h;have HGT:=h_ bK;have QR:=h_ hN;have cO:=h_ cZ;have HT:=h_ ht;have HN:=h_ (And.intro h1 h2);have HG:=h_ hG;have HV:=h_ hv;have wJ:=h_ O;have a_:Hid (yA3 n ops b w 0 false U):=h_ ⟨QQ,aH,.inl ⟨rfl,rfl,lT⟩⟩;have HBG:Hid (prog.globals.size<=w.heap.size):=h_ hG.size;have wF:(N:Int)<=cap:=by omega
 have TV:(N:Int)<=18:=by have:=ht.few;omega
 subst hv;clear h1 h2 ht hG h hl bO cZ bK hN bj QQ aH lT;go_enter func34,ntmps34;go_upto_region 2 with fail
 refine xm aj ?_;rw[<-O];clear aj O;go_wp2;go_loopw [17,5,6,7] (λi rv bg fd wr=>∃k:Nat,∃f:Bool,i=.int .i64 k/\k<=N/\fd=.bool f/\bg=.bool false/\(∃pa pn pc,rv=.slice pa pn pc)/\Hid (yA3 n ops b w k f wr)) (λi _ _ _ _=>N-(intOf i).toNat)
 case atStart=>exact⟨0,false,rfl,n3 _,rfl,rfl,⟨_,_,_,rfl⟩,a_⟩
 case round=>
  obtain⟨k,f,rfl,hk,rfl,rfl,⟨pa,pn,pc,rfl⟩,HS⟩:=hrel;by_cases hlt:k<N
  ·have aM:(k:Int)<(N:Int):=by omega
   have aT:k<l.length:=by rw[<-QR.out];exact hlt
   obtain⟨g',cap',gp,qc,eB,_,X,dI,P,oW,cm⟩:=HJ.get k aT;obtain rfl:g=g':=by rw[<-QR.out]at eB;grind
   obtain⟨y,hy,hy0,hyj,H_,nD⟩:=HGT.out k aT;rw[hy]at X P cm;obtain⟨M,hM⟩:∃M,M=y.length+1:=⟨_,rfl⟩;rw[x5,<-hM]at X P;obtain⟨d,K,dq⟩:=HS.out;generalize l[k].1=z at X;have k0:=X 0 _ rfl;have k1:=X 1 _ rfl;simp only[aN_]at k0 k1;have Hh:=block_lt_of_cell k0
   have ri:=yl (w:=wr) (a:=⟨g,k*2,none⟩) (cs:=[.int .i64 z,.slice (some ⟨gp,0,none⟩) M qc]) (λj u h=>by
    rw[l8];refine(d.cell (p:=⟨g,k*2+j,none⟩) Hh).trans ?_
    match j,h with
    |0,h=>rw[aN_,k0];exact h
    |1,h=>rw[k1];exact h)
   obtain⟨o1,d1⟩:=ri;simp only[x5,L1]at o1 d1;obtain⟨A,aR⟩:∃A,A=wr.alloc (.cells #[.int .i64 z,.slice (some ⟨gp,0,none⟩) M qc] 169):=⟨_,rfl⟩;have EQ:Below wr.heap.size wr A:=by grind
   have dy:=d.trans (EQ.mono d.size);have iA:A.heap[wr.heap.size]?=some (.cells #[.int .i64 z,.slice (some ⟨gp,0,none⟩) M qc] 169 (0,0)):=by grind
   have c2:=cell_of_row A wr.heap.size 1 _ _ _ iA;simp only[v_]at c2;have fm:SlB A ⟨gp,0,none⟩ (3 :: y):=⟨λq x hq=>(dy.cell (by rw[xY];exact dI)).trans (cm.cell q x hq)⟩;have b2:=fm.cell 0 3 rfl;rw[show (⟨gp,0,none⟩:Addr).add 0=⟨gp,0,none⟩from rfl]at b2;have iQ:((3:UInt8).toNat:Int)=3:=rfl;rw[iQ]at b2;have X0:=kF ⟨gp,0,none⟩ M qc 1 1 rfl (by omega);rw[show M-1=y.length by omega]at X0;have GN:SlB A (cutA ⟨gp,0,none⟩ qc 1) y:=fm.cut (cap:=qc) (by rw[x5,<-hM];exact P) 1;have oH:=h_ GN;have n5:Hid (([]:By).length+y.length<=1000000000000):=h_ (by simp;omega);have HY:=h_ (And.intro hy0 (And.intro hyj (And.intro H_ nD)));have ij:=h_ dy;have pw:=h_ EQ;have QT:=h_ dq;have HRN:=h_ ((EQ.block _ (i_ K).1).trans K);have hMz:(1:Int)<=(M:Int):=by omega
   have hM0:((M:Int)==0)=false:=by simp;omega
   have E_:(M:Int)<=qc:=by omega
   have gO:(#[Value.int .i64 0,Value.slice none 0 0].size==2)=true:=rfl;have iI:xt 2 #[Value.int .i64 z,Value.slice (some ⟨gp,0,none⟩) M qc]=true:=by simp[xt,Value.oneCell']
   have aa:bits .and .u8 3 1=1:=by decide
   have ai:bits .andNot .u8 3 3=0:=by decide
   have ao:bits .and .u8 3 2=2:=by decide
   obtain⟨yn,pW⟩:∃yn,yn=y.length:=⟨_,rfl⟩;rw[<-pW]at X0;have nM:=h_ pW;have tv:=h_ d.size;clear aT eB X dI P oW cm hy hy0 hyj H_ nD hM d K dq k0 k1 Hh EQ dy iA fm iQ GN pW HS;go_upto_region 7 with fail
   refine xm aR ?_;clear aR o1 d1;go_wp2_with (at_builtin;refine zQ rfl (.tmp 41) (.tmp 44) rfl A.heap.size _ [] rfl (OwnB.nil _ _) (cutA ⟨gp,0,none⟩ qc 1) y (qc-1) (by rw[<-nM.out];rfl) oH.out n5.out (w_ _) ?_);intro v' w3 ho hg _ _;have ho:OwnB w3 A.heap.size v' y:=ho;have ER:Below A.heap.size A w3:=(z_ _ A).grown hg (w_ _) (λk e=>by cases e);obtain⟨rg,rc,eB,dK,EF,fj,Ez⟩:=yB4 ho HY.2.2.1;rw[<-nM.out]at eB;subst eB;have eS:Below w.heap.size w w3:=ij.trans (ER.mono ij.size);have QU:Below wr.heap.size wr w3:=pw.trans (ER.mono pw.size);have J:=h_ eS;have J_:=h_ QU;have ES:=h_ ((ER.block _ (i_ HRN.out).1).trans HRN.out);have H:=h_ (And.intro Ez (And.intro fj (And.intro dK EF)));clear ho hg ER dK EF fj Ez eS QU X0 c2 b2 oH n5;rcases QT.out with⟨rfl,rfl,E⟩|⟨j,x,c1,rfl,rfl,E,I,J5,L⟩
   ·have EI:=HY.1 rfl;have hyl:yn=37:=by rw[nM.out,EI,yQ]
    subst hyl;have HD:=h_ (xN3 n HN.1 HN.2 (HG.later J.out) ⟨rg,0,none⟩ rc (by rw[<-EI];exact H.1) H.2.1 (by have:=H.2.2.1;rw[<-nM.out]at this;exact this) H.2.2.2);have S:=h_ ((J_.block _ (i_ E).1).trans E);have Z:=xTq;clear E EI;go_wp2_with fail;refine HD.mono ?_;rintro e w4 ⟨sp,x,rfl,C,mf,⟨q1,q2,q3,ep⟩,P,dL,bj⟩;have W:=(C.block _ (i_ ES.out).1).trans ES.out;have T:=(C.block _ (i_ S.out).1).trans S.out;have rI:=h_ (xTd sp (b+1) _ _ _ _ rfl rfl rfl rfl uE mf T rfl);obtain⟨G,cC⟩:∃G,G=w4.setRow (b+1) (xR x):=⟨_,rfl⟩;have hm5:G.heap[b+1]?=some (.cells (xR x) 107 (0,0)):=by rw[cC];exact setRow_heap _ _ _ _ _ _ T
    have dC:Kept [b+1] w4 G:=by rw[cC];exact jP _ _ _
    have D:=(i_ S.out).1;have ik:=(dC.block b (i_ W).1 (by simp)).trans W;have I:PrtD (b+2) G x:=by
     have t:=ep.dis;exact⟨(t.all.kept dC (λj h=>by rw[S_.1 h];exact D)).base D,t.hs,t.ht,t.ho,t.st,t.so,t.tq⟩
    have Y:Below w.heap.size w G:=J.trans ((C.mono J.size).trans (dC.below (by have:=J.size;have:=C.size;omega) (λj h=>by rw[S_.1 h,wJ.out];omega)));have cz:Hid (yA3 n ops b w 1 true G):=h_ ⟨Y,ik,.inr ⟨0,x,_,rfl,rfl,hm5,I,P,rfl⟩⟩;rw[cC]at cz;unfold xR at cz;have h1N:1<=N:=by omega
    clear C mf ep P dL bj W T cC hm5 dC D ik I Y HD;go_wp2_with fail;refine rI.mono ?_;rintro e w' ⟨rfl,rfl⟩;clear rI Z;go_wp2;go_roundw
    case rel=>exact⟨1,true,by go_num,h1N,rfl,rfl,⟨_,_,_,rfl⟩,cz⟩
    case measure=>simp[intOf];omega
   ·have Q:j<ops.length:=by have:=QR.out;have:=cO.out;omega
    have EI:=HY.2.1 j Q rfl;obtain⟨c1',c2,RO,X5,h13⟩:=HT.cut j Q;obtain rfl:c1'=c1:=by rw[L]at RO;exact(G0 RO).symm
    have F:=HT.fits _ (L3 Q);obtain⟨o,hoo⟩:∃o,o=ops[j]:=⟨_,rfl⟩;rw[<-hoo]at EI X5 F;have bO:=xTt (xFh HN.2) (λx hx=>HT.fits x (bi_ hx)) L;have hfm:0+(ops.take j).length<=18:=by have:=HT.few;have:=bU_ j ops;omega
    subst EI;have HD:=h_ (xQ8 o F ⟨rg,0,none⟩ rc H.1 H.2.1 H.2.2.1 H.2.2.2);rw[<-nM.out]at HD;have S:=h_ ((J_.block _ (i_ E).1).trans E);have HXD:=h_ (I.below J_.out);have R:=h_ (And.intro F (And.intro bO (And.intro hfm (And.intro X5 (And.intro J5 h13)))));clear E I J5 L RO X5 h13 F bO hfm hoo;go_wp2_with fail;refine HD.mono ?_;rintro e w4 ⟨ty,op,rfl,C,V⟩;have W:=(C.block _ (i_ ES.out).1).trans ES.out;have T:=(C.block _ (i_ S.out).1).trans S.out;have bW:=(i_ S.out).1;have rI:=h_ (yCm (HXD.below C) (b+1) T ((HG.later J.out).later C) (by have:=HBG.out;have:=wJ.out;omega) o ty op w3.heap.size V (λk hk=>(HXD.all.feet_lt k hk).2) bW R.1 (m:=0+(ops.take j).length) (by rw[R.2.2.2.2.1];exact R.2.1) R.2.2.1 (by rw[R.2.2.2.2.1];exact R.2.2.2.1));have dF:=h_ (J.trans (C.mono J.size));have K_:=h_ W;have hkN:j+1+1<=N:=hlt;clear C W T bW HD;cases o
    case' put a=>
     obtain rfl:=V.2.1;have Z:=yIt
    case' rm id=>
     obtain rfl:=V.2.1;have Z:=ta_rm
    case' opn s=>
     obtain rfl:=V.2.1;have Z:=yIu
    case' cls s=>
     obtain rfl:=V.2.1;have Z:=yIv
    all_goals
     clear V;go_wp2_with fail;refine rI.mono ?_;rintro e G ⟨rfl,Y,x',QV,QW,GP⟩;have cz:Hid (yA3 n ops b w (j+1+1) true G):=h_ ⟨dF.trans (Y.mono (by have:=wJ.out;omega)),(Y.block b (by omega)).trans K_.out,.inr ⟨j+1,x',_,rfl,rfl,GP,QV,QW,R.2.2.2.2.2⟩⟩;clear Y QV QW GP Z rI;go_wp2;go_roundw
     case rel=>exact⟨j+1+1,true,by go_num,hkN,rfl,rfl,⟨_,_,_,rfl⟩,cz⟩
     case measure=>simp[intOf];omega
  ·obtain rfl:k=N:=by omega
   obtain⟨d,K,dq⟩:=HS.out;rcases dq with⟨h0,_,_⟩|⟨j,x,c1,rB,rfl,E,I,J5,L⟩
   ·have:=QR.out;have:=cO.out;omega
   have iu:j=ops.length:=by have:=QR.out;have:=cO.out;omega
   have cH:c1=c:=by
    rw[iu,X3,HT.run]at L;exact(G0 L).symm
   obtain⟨cs,aB⟩:∃cs,cs=xR x:=⟨_,rfl⟩;rw[<-aB]at E;have aV:cs.size=4:=by rw[aB];rfl
   have aU:xt 4 cs=true:=by rw[aB];exact xAb _ _ _ _ rfl rfl rfl rfl
   obtain⟨o5,d5⟩:=xF (n:=4) E aV;have aY:xN wr b 4=true:=za K rfl;obtain⟨o6,d6⟩:=xF (n:=4) (setRow_heap wr b _ cs _ _ K) aV;have cr:Kept [b] wr (wr.setRow b cs):=jP _ _ _;have QX:=I.all.kept cr (λj h=>by rw[S_.1 h];omega);have HF:Hid (xSm c w (.returned (.tuple #[.agg cs,.bool true])) (wr.setRow b cs)):=h_ ⟨x,by rw[aB],d.trans (cr.below d.size (λj h=>by rw[S_.1 h,wJ.out];exact w_ _)),QX.base (by rw[wJ.out];omega),J5.trans cH⟩;have fI:=h_ (And.intro o6 d6);clear d K E I J5 L iu cH aB aV o6 d6 cr QX HS rB;go_wp2;exact bodyPost_ret (v:=.tuple #[.agg cs,.bool true]) (uR rfl isAgg107 sizeOf107 _ _ ⟨b,0,none⟩ _ _ rfl rfl fI.1 fI.2) rfl HF.out
end
section
theorem xN6 {B w v d}(h:yj B w v d)(n:Nat)(m:n<=1000):Calls prog 7 #[.pointer (some ⟨v.p,0,none⟩),.int .i64 n] w λe w'=>e=.returned (.tuple #[])/\Kept [v.p] w w'/\yj B w' { v with lim:=n } { d with lim:=some n }:=by
 have c4:=cell_of_row w v.p 4 _ _ _ h.blk;have r:=frozen_of_row w v.p 4 _ _ h.blk;have f:=heap_setCell_same w v.p 4 _ _ (.bool true) h.blk;obtain⟨a,g⟩:∃a,a=w.setCell ⟨v.p,4,none⟩ (.bool true):=⟨_,rfl⟩;have c:Kept [v.p] w a:=by grind
 rw[<-g]at f;have c5:=cell_of_row a v.p 5 _ _ _ f;have o:=frozen_of_row a v.p 5 _ _ f;have j:=heap_setCell_same a v.p 5 _ _ (.int .i64 n) f;have b:=xLq c (qC a v.p 5 (.int .i64 n));have i:=h.fld b v.ops n (some n) d.down (λ_ e=>by cases e;exact⟨rfl,by omega⟩) (by rw[j];rfl);have k:=h_ b;have l:=h_ i;simp only[yB]at c4 c5;rw[g]at c5 o k l;have q:(0:Int)<=(n:Int):=by omega
 have s:decide ((0:Int)<=(n:Int))=true:=by simp
 clear h f j c b i g a m;go_enter func7,ntmps7;go_wp2;go_end0;exact⟨rfl,k.out,l.out⟩
theorem xJe (cs:List Nat)(x:Nat×By):∀(l:List (Nat×By)) (f:Nat->By) (i:Nat),xCk cs f i (l++[x])=if cs.getD (i+l.length) 0%3=1 then λt=>if t=x.1 then x.2 else xCk cs f i l t else xCk cs f i l
 |[],f,i=>by unfold xCk;rfl
 |y :: l,f,i=>by
  show xCk cs _ (i+1) (l++[x])=_
  rw[xJe cs x l _ (i+1),x5,show i+1+l.length=i+(l.length+1) by omega];rfl
def xGm (cs:List Nat)(d:PD)(k:Nat):Nat->By:=xCk cs d.dur 0 (d.pend.take k)
theorem xY9 (cs:List Nat)(d:PD)(k)(a:k<d.pend.length)(s):xGm cs d (k+1) s=if s=d.pend[k].1 then (if cs.getD k 0%3=1 then d.pend[k].2 else xGm cs d k d.pend[k].1)else xGm cs d k s:=by
 unfold xGm;rw[d0 a,xJe,x8,m0,aL_ (by omega)];by_cases h1:cs.getD k 0%3=1
 ·rw[if_pos h1,if_pos h1]
 grind
attribute [local go_sem ↓] vP qV vM qR qX jb xC7 xI3
attribute [local go_sem] xHt xKm xLp xKp xh xg xe xd xx zV xq xB
theorem xBe {b:By}(h:b.length=256):(xE b).size=256:=by unfold xE;rw[T9,xQ,h]
theorem yC0 (b1 b2:By)(h1:b1.length=256)(h2:b2.length=256)(c:Int)(w):Calls prog 27 #[.agg (xE b1),.agg (xE b2),.int .i64 c] w λe w'=>e=.returned (.agg (xE b1))/\Below w.heap.size w w':=by
 obtain⟨a,k⟩:∃a,a=((w.alloc (.cells (xE b1) 111)).alloc (.cells (xE b2) 111)).alloc (.cells (xE zer) 111):=⟨_,rfl⟩;have i:a.heap[w.heap.size]?=some (.cells (xE b1) 111 (0,0)):=by grind
 have b:a.heap[w.heap.size+2]?=some (.cells (xE zer) 111 (0,0)):=by grind
 have h:Below w.heap.size w a:=by grind
 obtain⟨m,l⟩:=xF (n:=256) i (xBe h1);have q:xN a (w.heap.size+2) 256=true:=za b (xBe zerL);have j:=setRow_heap a (w.heap.size+2) _ (xE b1) _ _ b;obtain⟨g,f⟩:=xF (n:=256) j (xBe h1);have o:=kO h1;have p:=kO h2;have d:=h_ (And.intro (xH h (show w.heap.size<=w.heap.size+2 by omega) (xE b1)) (And.intro g f));clear h1 h2 i b h j g f;go_enter func27,ntmps27;go_upto_region 1 with fail
 refine xm k ?_;clear k;go_wp2;exact bodyPost_ret (v:=.agg (xE b1)) (vZ rfl isAgg111 sizeOf111 _ _ ⟨w.heap.size+2,0,none⟩ _ rfl d.2.1 d.2.2) rfl ⟨rfl,d.1⟩
theorem xY8 (b1 b2:By)(h1:b1.length=256)(h2:b2.length=256)(c:Int)(w):Calls prog 28 #[.agg (xE b1),.agg (xE b2),.int .i64 c] w λe w'=>e=.returned (.agg (xE b2))/\Below w.heap.size w w':=by
 obtain⟨a,k⟩:∃a,a=((w.alloc (.cells (xE b1) 111)).alloc (.cells (xE b2) 111)).alloc (.cells (xE zer) 111):=⟨_,rfl⟩;have i:a.heap[w.heap.size+1]?=some (.cells (xE b2) 111 (0,0)):=by grind
 have b:a.heap[w.heap.size+2]?=some (.cells (xE zer) 111 (0,0)):=by grind
 have h:Below w.heap.size w a:=by grind
 obtain⟨m,l⟩:=xF (n:=256) i (xBe h2);have q:xN a (w.heap.size+2) 256=true:=za b (xBe zerL);have j:=setRow_heap a (w.heap.size+2) _ (xE b2) _ _ b;obtain⟨g,f⟩:=xF (n:=256) j (xBe h2);have o:=kO h1;have p:=kO h2;have d:=h_ (And.intro (xH h (show w.heap.size<=w.heap.size+2 by omega) (xE b2)) (And.intro g f));clear h1 h2 i b h j g f;go_enter func28,ntmps28;go_upto_region 1 with fail
 refine xm k ?_;clear k;go_wp2;exact bodyPost_ret (v:=.agg (xE b2)) (vZ rfl isAgg111 sizeOf111 _ _ ⟨w.heap.size+2,0,none⟩ _ rfl d.2.1 d.2.2) rfl ⟨rfl,d.1⟩
def xJw (B:Nat)(v:Dev)(d:PD)(cs:List Nat)(w:World)(e:Ending)(w':World):Prop:=
 e=.returned (.int .i64 0)/\Kept v.foot w w'/\∃v',v'.p=v.p/\v'.M=v.M/\yj B w' v' (d.restart cs)/\∀k∈v'.foot,k∈v.foot
structure RsSt (B:Nat)(w:World)(v:Dev)(d:PD)(cs:List Nat)(k:Nat)(W:World):Prop where
 kept:Kept v.foot w W
 at':∃es mc,yj B W { v with es:=es,mc:=mc } { d with dur:=xGm cs d k }
def xRm:=sx_ 113
def yJ4:=@yk prog 113 3 (by kernel_rfl)
attribute [local go_sem ↓] xRm
attribute [local go_sem] yJ4
theorem xU9 {B C w v d cv l}(h:yj B w v d)(ho:OwnB w C cv l):∀k∈v.foot,cv.ownBlock≠some k:=λk b e=>by
 obtain⟨cur,a⟩:=xS ho e;simp only[Dev.foot,L2,E8,g8,R2]at b;rcases b with rfl|rfl|b
 ·rw[h.blk]at a;simp at a
 ·have c:=h.map;unfold xV at c;rw[c]at a;cases a
 ·obtain⟨c2,h2⟩:=xS h.pend.own b;rw[h2]at a;simp at a
theorem xTx {B w v d}(h:yj B w v d)(hd:d.down=true){C}(cv)(cs:List UInt8)(Q:OwnB w C cv cs)(hw:∀c∈cs,c.toNat%3≠2)(bD:cs.length<=1000):
  Calls prog 14 #[.pointer (some ⟨v.p,0,none⟩),cv] w (xJw B v d (cs.map UInt8.toNat) w):=by
 have c6:=cell_of_row w v.p 6 _ _ _ h.blk;simp only[yB,hd]at c6;have c2:=cell_of_row w v.p 2 _ _ _ h.blk;simp only[yB]at c2;obtain⟨pn,R⟩:∃n,n=d.pend.length:=⟨_,rfl⟩;obtain⟨pa,pc,iK⟩:∃a c,v.pv=.slice a pn c:=by rw[R];exact yK h.pend.own
 have X:w.cell? ⟨v.p,2,none⟩=some (.slice pa pn pc):=by grind
 have hpl:pn<=1000000:=by rw[R];exact h.few
 have UP:(pn:Int)<=1000000:=by omega
 obtain⟨m,hm⟩:∃m,m=cs.length:=⟨_,rfl⟩;obtain⟨ca,cc,iG,Ef⟩:∃x c,cv=.slice x cs.length c/\cs.length<=c:=by
  rcases jt Q with⟨rfl,e⟩|⟨g,cap,_,rfl,_,_,h1,_⟩
  ·grind
  ·exact⟨_,_,rfl,h1⟩
 rw[<-hm]at iG Ef;have n4:(m:Int)<=1000:=by omega
 have RM:(m:Int)<=(cc:Int):=by omega
 obtain⟨fa,H⟩:∃fa,fa=w.heap.size:=⟨_,rfl⟩;obtain⟨l,aj⟩:∃l,l=w.alloc (.cells #[.func (.func 27) #[] #[],.func (.func 28) #[] #[],.func (.func 29) #[] #[]] 113):=⟨_,rfl⟩;have L:Below w.heap.size w l:=by grind
 have aH:l.heap[fa]?=some (.cells #[.func (.func 27) #[] #[],.func (.func 28) #[] #[],.func (.func 29) #[] #[]] 113 (0,0)):=by grind
 have Dj:xt 3 #[.func (.func 27) #[] #[],.func (.func 28) #[] #[],.func (.func 29) #[] #[]]=true:=by simp[xt,Value.oneCell']
 have aY:xN (w.alloc (.cells #[.nilFunc,.nilFunc,.nilFunc] 113)) w.heap.size 3=true:=by grind [za]
 have a_:Hid (RsSt B w v d (cs.map UInt8.toNat) 0 l):=h_ ⟨Kept.of_below L,v.es,v.mc,by show yj B l v { d with dur:=d.dur };exact h.below L⟩;have HH:=h_ h;have HC:=h_ Q;have lX:=h_ (xU9 h Q);have HW:=h_ hw;have FA:=h_ R;have oS:=h_ iK;have HM:=h_ hm;have Ny:=h_ iG;have eu:=h_ aH;have F5:Hid (fa∉v.foot/\w.heap.size<=fa/\fa<l.heap.size):=h_ ⟨λhk=>by have:=(h.foot_lt fa hk).2;omega,by omega,(i_ aH).1⟩;have aq:=h_ L;subst iG;have c2x:=(L.cell (p:=⟨v.p,2,none⟩) (block_lt_of_cell X)).trans X;clear h hd Q hw bD c2 R iK hm L aH Ef hpl;go_enter func14,ntmps14;go_upto_region 6 with fail
 refine xm aj ?_;rw[<-H];clear aj c6 X H;go_wp2;go_loopw [22] (λu wr=>∃k:Nat,u=.int .i64 k/\k<=pn/\Hid (RsSt B w v d (cs.map UInt8.toNat) k wr)/\Hid (l.heap.size<=wr.heap.size/\∀j,w.heap.size<=j->j<l.heap.size->wr.heap[j]?=l.heap[j]?)) (λu _=>pn-(intOf u).toNat)
 case atStart=>exact⟨0,rfl,n3 _,a_,h_ ⟨w_ _,λ_ _ _=>rfl⟩⟩
 case round=>
  obtain⟨k,rfl,hk,HS,HK⟩:=hrel;by_cases hlt:k<pn
  ·have aM:(k:Int)<pn:=by omega
   obtain⟨es,mc,o⟩:=HS.at';have aT:k<d.pend.length:=by grind
   obtain⟨g,NC,dI,ak⟩:∃g,pa=some ⟨g,0,none⟩/\g<wr.heap.size/\∀i u,(zF d.pend[k].1 d.pend[k].2)[i]?=some u->wr.cell? ⟨g,k*257+i,none⟩=some u:=by
    rcases o.pend.at with⟨_,h0⟩|⟨g,cap,h1,_,h2,_,_,h3⟩
    ·grind
    grind
   subst NC;have D:d.pend[k].2.length=256:=HH.pend.len _ (L3 aT);obtain⟨o1,W⟩:=xWk (w:=wr) (g:=g) (off:=k*257) D ak;have J:=xY9 (cs.map UInt8.toNat) d k aT;obtain⟨⟨xs,xb⟩,hx⟩:∃x,x=d.pend[k]:=⟨_,rfl⟩;rw[<-hx]at D W J;simp only at D W J;have UQ:=xM6 xs D;have hz:(xW 0 zer).size=257:=xAw zerL;obtain⟨q,hq⟩:∃q,q=xGm (cs.map UInt8.toNat) d k xs:=⟨_,rfl⟩;have IR:q.length=256:=by rw[hq];exact o.durL xs
   obtain⟨ch,lQ⟩:∃ch:Nat,ch=(cs.map UInt8.toNat).getD k 0:=⟨_,rfl⟩;rw[<-hq,<-lQ]at J;have iX:k<m->∃(hk:k<cs.length),ch=cs[k].toNat:=λt=>by grind
   have V:¬ k<m->ch=0:=λt=>by grind
   have X6:ch%3=0\/ch%3=1:=by grind
   obtain⟨b,fU⟩:∃b,b=wr.alloc (.cells (xW xs xb) 115):=⟨_,rfl⟩;have dJ:b.heap[wr.heap.size]?=some (.cells (xW xs xb) 115 (0,0)):=by grind
   have S:Below wr.heap.size wr b:=by grind
   have P:=o.below S;have z1:∀z:xf b,z.1.cell? ⟨v.p,1,none⟩=some (.map (some v.M)):=λz=>z.cell (cell_of_row b v.p 1 _ _ _ P.blk)
   have z2:∀z:xf b,z.1.cell? ⟨wr.heap.size,0,none⟩=some (.int .i64 xs):=λz=>z.cell (cell_of_row b wr.heap.size 0 _ _ _ dJ)
   have UR:=xFj D dJ;have z3:∀z:xf b,xp z.1 ⟨wr.heap.size,1,none⟩ 256=true:=by grind [xf.ok]
   have z4:∀z:xf b,xo z.1 ⟨wr.heap.size,1,none⟩ 256=xE xb:=by grind [xf.rd]
   have Y:b.heap[fa]?=some (.cells #[.func (.func 27) #[] #[],.func (.func 28) #[] #[],.func (.func 29) #[] #[]] 113 (0,0)):=by grind
   have I:=cell_of_row b fa 0 _ _ _ Y;have iZ:=cell_of_row b fa 1 _ _ _ Y;simp only[v_]at I iZ;have z5:∀z:xf b,z.1.cell? ⟨fa,0,none⟩=some (.func (.func 27) #[] #[]):=by grind
   have z6:∀z:xf b,z.1.cell? ⟨fa,1,none⟩=some (.func (.func 28) #[] #[]):=by grind
   have z7:∀z:xf b,(Instr.lookup 87 (.map (some v.M)) (.int .i64 xs) false).run prog z.1=.ok (.agg (xE q)) z.1:=λz=>by
    have h1:=xGc keyN underlying87 (.agg (xE zer)) xSs z.1 v.M es mc (by have:=P.map;unfold xV at this⊢;exact(z.2.block _ (i_ this).1).trans this) (xs:Int);have h2:((yG (xs:Int) es 0).map (·.2)).getD (.agg (xE zer))=.agg (xE q):=by rw[hq];exact o.dur xs
    grind
   have Z:k<m->∃gc,ca=some ⟨gc,0,none⟩/\b.cell? ⟨gc,k,none⟩=some (.int .u8 ch):=λt=>by
    obtain⟨h1,h2⟩:=iX t;have hko:OwnB b C (.slice ca m cc) cs:=OwnB.below (yf HC.out HS.kept lX.out) S;rcases hko.at with⟨_,e⟩|⟨gc,cap,e1,_,_,_,e2⟩
    ·rw[e]at h1;simp at h1
    ·refine⟨gc,by grind,?_⟩;have:=e2.cell k cs[k] (U_ h1);rw[l8,m0]at this;rw[h2];exact this
   have Ka:k<m->(ch:Int)<=255:=λt=>by
    obtain⟨h1,h2⟩:=iX t;rw[h2];have:=(cs[k]).toNat_lt;omega
   have fh:∀f b',Below b.drew.heap.size b.drew f->b'.length=256->(∀s,xGm (cs.map UInt8.toNat) d (k+1) s=if s=xs then b' else xGm (cs.map UInt8.toNat) d k s) ->
     (Instr.mapUpdate 87 (.map (some v.M)) (.int .i64 xs) (.agg (xE b'))).run prog f=.ok () (f.putObj v.M (.map ((putL (xs:Int) (.agg (xE b')) mc es).map (enE ekN)).toArray (putC (xs:Int) mc es))) /\
     RsSt B w v d (cs.map UInt8.toNat) (k+1) (f.putObj v.M (.map ((putL (xs:Int) (.agg (xE b')) mc es).map (enE ekN)).toArray (putC (xs:Int) mc es))) /\
     (l.heap.size<=(f.putObj v.M (.map ((putL (xs:Int) (.agg (xE b')) mc es).map (enE ekN)).toArray (putC (xs:Int) mc es))).heap.size/\∀j,w.heap.size<=j->j<l.heap.size->(f.putObj v.M (.map ((putL (xs:Int) (.agg (xE b')) mc es).map (enE ekN)).toArray (putC (xs:Int) mc es))).heap[j]?=l.heap[j]?):=λf b' y X7 hf=>by
    have Ey:Below b.heap.size b f:=by grind
    have P0:=P.below Ey;have RZ:v.M<w.heap.size:=(HH.foot_lt _ v.M_foot).2;have F2:Kept v.foot w f:=(HS.kept.trans (Kept.of_below (F:=[]) S) (λ_ h=>by cases h)).trans (Kept.of_below (F:=[]) Ey) (λ_ h=>by cases h);refine⟨xBu keyN underlying87 f v.M es mc P0.map (xs:Int) (.agg (xE b')),⟨F2.trans (xGg f v.M _) (λj r=>.inl (by rw[S_.1 r];exact v.M_foot)),_,_,P0.putM xs b' X7 _ hf⟩,?_,λj h1 h2=>?_⟩
    ·grind
    ·grind
   have O:=h_ fh;have T:=h_ J;have A:=h_ (And.intro IR D);clear ak o J hx aT D IR lQ iX dJ S P UR Y I iZ fh hq HS HK;go_upto_region 9 with fail
   refine xm fU ?_;clear o1 W UQ hz fU;by_cases t:k<m
   case' pos=>
    obtain⟨gc,Fd,X8⟩:=Z t;subst Fd;have SX:(k:Int)<m:=by omega
    have QY:=Ka t;clear Z Ka V;go_upto_region 12 with fail
    clear X8 SX
   case' neg=>
    have X9:=V t;subst X9;have SX:decide ((k:Int)<m)=false:=by simp;omega
    clear Z Ka V;go_upto_region 12 with fail
    clear SX
   all_goals
    rcases X6 with h3|h3
   case' neg.inr=>cases h3
   case' neg.inl=>have U:=h_ (λf (y:Below b.drew.heap.size b.drew f)=>O.out f q y A.1 (λs=>by simp[T.out s]))
   case' pos.inl=>
    have U:=h_ (λf (y:Below b.drew.heap.size b.drew f)=>O.out f q y A.1 (λs=>by simp[T.out s,h3]));have Ai:(ch:Int)%3=0:=by omega
   case' pos.inr=>
    have U:=h_ (λf (y:Below b.drew.heap.size b.drew f)=>O.out f xb y A.2 (λs=>by simp[T.out s,h3]));have Ai:(ch:Int)%3=1:=by omega
   all_goals
    refine xz [0,1,2,3,4,5,6,7,8,9,10,11,12,13,14,15,16,17,18,19] [20,21] (λw'=>∃z:xf b,w'=z.1) ⟨⟨b.drew,(z_ _ _).drew⟩,rfl⟩ ?_;simp only[o_]
    repeat (go_big_quiet_step (fail))
    refine wpQuiet_nil ?_;clear z1 z2 z3 z4 z5 z6 z7;refine yo true ?_;simp only[o_];go_wp2_with fail
    first
     |refine(yC0 q xb A.1 A.2 _ b.drew).mono ?_
     |refine(xY8 q xb A.1 A.2 _ b.drew).mono ?_
    rintro e f⟨rfl,y⟩;obtain⟨ci,Ez,pY⟩:=U.out f y;have nt:=h_ Ez;have Eu:=h_ pY;have aJ:Hid (Below b.heap.size b f):=h_ (by grind);clear Ez pY y O T U;go_wp2;refine⟨λ_=>⟨⟨f,aJ.out⟩,rfl⟩,yE ?_⟩;simp only[o_];generalize f.putObj v.M _=W3 at ci nt Eu;go_wp2;refine T_ ?_;clear ci;have hk1:k+1<=pn:=hlt;go_wp2;go_roundw
    case rel=>exact⟨k+1,by go_num,hk1,nt,Eu⟩
    case measure=>simp[intOf];omega
  ·obtain rfl:k=pn:=by omega
   obtain⟨es,mc,o⟩:=HS.at';have E:=o.noPend;have ND:=cell_of_row wr v.p 2 _ _ _ o.blk;have ZX:=frozen_of_row wr v.p 2 _ _ o.blk;simp only[yB]at ND;obtain⟨wa,G⟩:∃wa,wa=wr.setCell ⟨v.p,2,none⟩ (.slice none 0 0):=⟨_,rfl⟩;rw[<-G]at E;have SY:Kept [v.p] wr wa:=by grind
   have X_:=cell_of_row wa v.p 4 _ _ _ E.blk;have hfa4:=frozen_of_row wa v.p 4 _ _ E.blk;obtain⟨wb,ST⟩:∃wb,wb=wa.setCell ⟨v.p,4,none⟩ (.bool false):=⟨_,rfl⟩;have N:=heap_setCell_same wa v.p 4 _ _ (.bool false) E.blk;rw[<-ST]at N;have Ya:=cell_of_row wb v.p 5 _ _ _ N;have hfb5:=frozen_of_row wb v.p 5 _ _ N;obtain⟨wc,tg⟩:∃wc,wc=wb.setCell ⟨v.p,5,none⟩ (.int .i64 0):=⟨_,rfl⟩;have K:=heap_setCell_same wb v.p 5 _ _ (.int .i64 0) N;rw[<-tg]at K;have Yb:=cell_of_row wc v.p 6 _ _ _ K;have hfc6:=frozen_of_row wc v.p 6 _ _ K;obtain⟨we,y_⟩:∃we,we=wc.setCell ⟨v.p,6,none⟩ (.bool false):=⟨_,rfl⟩;have Da:=heap_setCell_same wc v.p 6 _ _ (.bool false) K;rw[<-y_]at Da;have Kb:Kept [v.p] wa we:=by grind
   have hDe:=E.fld Kb v.ops 0 none false (λ_ e=>by cases e) (by rw[Da];rfl);have bV:xJw B v d (cs.map UInt8.toNat) w (.returned (.int .i64 0)) we:=by
    refine⟨rfl,(HS.kept.trans SY (λj r=>.inl (by rw[S_.1 r];exact v.p_foot))).trans Kb (λj r=>.inl (by rw[S_.1 r];exact v.p_foot)),{ v with es:=es,mc:=mc,pv:=.slice none 0 0,lim:=0 },rfl,rfl,?_,λj r=>?_⟩
    ·grind [xGm,PD.restart,List.take_length]
    ·simp only[Dev.foot,L2,E8,g8,R2]at r;rcases r with rfl|rfl|r
     ·exact v.p_foot
     ·exact v.M_foot
     ·cases r
   have aC:=h_ bV;rw[oS.out]at ND;simp only[yB]at X_ Ya Yb;clear o E SY N K Da Kb hDe bV HS HK;subst y_;subst tg;subst ST;subst G;go_wp2;go_ret;exact aC.out
end
theorem StOk.setLimit {D sb p n q U R E c F w}(h:StOk D w sb p n q U R E c F)(k:Nat)(u:k<=1000):Calls prog 7 #[.pointer (some ⟨p,0,none⟩),.int .i64 k] w λe w'=>e=.returned (.tuple #[])/\Kept F w w'/\Below D w w'/\StOk D w' sb p n q false R E c F:=by
 obtain⟨b,v,d,j,ev,sy,x,B,T,a,rfl,t,K,A,I,M,rfl,z,L⟩:=h;refine(xN6 a.jat.dev k u).mono ?_;rintro e w' ⟨rfl,l,C⟩;have o:v.p∈yT b v ev:=by simp[yT,v.p_foot]
 have m:=a.jlt v.p o;have H:sb≠v.p:=λe=>a.sbj (e▸o)
 have g:=a.jat;have O:b≠v.p:=λe=>g.bv (e▸v.p_foot)
 have hes:∀j∈ev,j≠v.p:=λj s e=>(g.es_ j s).2.2.2 (e▸v.p_foot)
 have J:JAt D w' b { v with lim:=k } { d with lim:=some k } j ev sy 0:=by
  obtain⟨G,vs,r,h2,h3,h4⟩:=g.ex;refine⟨⟨G,vs,(l.block b (i_ r).1 (by simpa using O)).trans r,h2.kept l (λi f=>⟨λe=>hes i (h3 i e) (S_.1 f),λy hy e=>hes i (h4 y hy i e) (S_.1 f)⟩),h3,h4⟩,C,g.inv.congr sha (λ_=>rfl),g.up,g.bB,g.bv,λi f=>⟨(g.es_ i f).1,b7 (g.es_ i f).2.1 l.size,(g.es_ i f).2.2⟩⟩
 have N:StAt D w' sb b { v with lim:=k } { d with lim:=some k } j ev sy x B T:=
  ⟨(l.block sb (i_ a.blk).1 (by simpa using H)).trans a.blk,J,a.prt.kept l a.tl (λi f=>by rw[S_.1 f];exact a.sep v.p o),R_ a.tl l.size,a.sep,a.sbj,a.sbp,a.sbD,a.DB⟩
 exact⟨rfl,l.mono (λi f _=>by rw[S_.1 f];exact V0 _ o),l.below (R_ m.1 (T8 m.2)) (λi f=>by rw[S_.1 f];exact m.1),b,_,_,j,ev,sy,x,B,T,N,rfl,t,K,A,I,⟨M.1,λh=>by cases h⟩,rfl,b7 z l.size,L⟩
def xPq (D:Nat)(w:World)(p n q:Nat)(F:List Nat)(E:List By):Prop:=∃v d j,v.p=p/\yj D w v d/\d.n=n/\(∀k∈v.foot,k∈F)/\d.Up/\d.pend=[]/\JRec sha n d j/\j.entries=E/\j.gen<=q/\j.first<=q
theorem xIc.restart {D sb p n q E y F w}(h:xIc D w sb p n q E y F){C}(cv)(cs:List UInt8)(t:OwnB w C cv cs)(l:∀c∈cs,c.toNat%3≠2)(z:cs.length<=1000):
  Calls prog 14 #[.pointer (some ⟨p,0,none⟩),cv] w λe w'=>e=.returned (.int .i64 0)/\Kept F w w'/\Below D w w'/\∃E',(E'=E\/E'=E++[3 :: y])/\xPq D w' p n q F E':=by
 obtain⟨b,v,d1,H,G,a3,a4,B,⟨_,i,A⟩,rfl,m,g,hall⟩:=h;refine(xTx i A cv cs t l z).mono ?_;rintro e w' ⟨rfl,a,v',x,_,f,j⟩;obtain⟨j',o,u,r,s⟩:=hall (cs.map UInt8.toNat);have d:=i.foot_lt;exact⟨rfl,a.mono (λk a _=>g k a),a.below (R_ (d v.p v.p_foot).1 (T8 (d v.p v.p_foot).2)) (λk a=>(d k a).1),j'.entries,o,v',_,j',x,f,m,λk a=>g k (j k a),⟨rfl,rfl⟩,rfl,u,rfl,r,s⟩
theorem xGw (n)(ops:List SOp):(ve n ops).length=ops.length+1:=by simp[ve]
theorem xPq.open {D p n q F nb ops c w}(h:xPq D w p n q F (ve nb ops))(o:64<=n)(I:1<=nb)(J:nb<=1073741824)(ht:xW9 nb ops c)(hq:q<=2000000000)(g:Gl w)(x:D<=w.heap.size)(z:prog.globals.size<=D):
  Calls prog 15 #[.pointer (some ⟨p,0,none⟩)] w λe w'=>∃sb,e=.returned (.tuple #[.pointer (some ⟨sb,0,none⟩),.int .i64 0])/\Below D w w'/\Kept F w w'/\∃F',(∀R,R<w.heap.size->StOk D w' sb p n (q+2) true R (ve nb ops) c F')/\∀k∈F',k∈F\/w.heap.size<=k:=by
 obtain⟨v,d,j,rfl,G,rfl,i,E,H,C,f,r,s⟩:=h;have ho:=xWt G o ⟨E,H,C,r,s,by rw[f,xGw];have:=ht.few;omega,hq⟩ g c (λW u l B A m hl y=>xTw nb I J ops c ht (g.later A) u l B m (by rw[hl,f]) y) x z;refine ho.mono ?_;rintro e w' ⟨sb,rfl,t,b,F',a,K⟩;rw[f]at a;exact⟨sb,rfl,t,b.mono (λk b _=>i k b),F',a,λk b=>(K k b).imp (i k) id⟩
def cos:By:=[99,111,109,112,46,111,115]
def tex:By:=List.replicate 100 0
def idN (k:UInt8):Id32:=⟨k :: List.replicate 31 0,by simp⟩
def kA (k:UInt8)(gb:Nat):Art:=⟨idN k,str tex,str [],5,6,.slice (some ⟨gb,0,none⟩) 1 1,str [],.slice none 0 0,false⟩
theorem xVv:zB (str cos)=0:=by decide +kernel
theorem yIl (k)(h:k≠0):idN k≠yI:=λe=>by grind [List.head?,idN,yI,List.replicate]
def kP (k:UInt8)(n:Int):qx:=⟨n,idN k,str [],5,str [],[],(str tex).size⟩
theorem yHk:pErr (kP 1 1)=0:=by decide +kernel
theorem yHj:pErr (kP 2 2)=0:=by decide +kernel
def k0:PC:=qH 1000
def kArt:SArt:=⟨str tex,6,0⟩
def kEnt (k:UInt8)(s:Int):HEnt:=⟨idN k,6,5,s,false⟩
theorem xZ2:tex.length=100:=bb_
theorem kE:(str tex).size=100:=by rw[xB2,xZ2]
theorem yJt:(idN 2=idN 1)=False:=by grind [idN]
theorem xRt (ρ:Operand->Value)(d a)(ty:TypeId)(pos af gd w):
  Sem.run prog (execOp ρ ⟨d,.build 42 #[(0,a)],ty,pos,af,gd⟩) w=zl prog 42 w #[(0,ρ a)]:=by kernel_rfl
theorem yKc (w):zl prog 42 w #[(0,.int .u8 1)]=.ok (.value (.agg (xl (idN 1)).toArray)) w:=zo (by kernel_rfl)
theorem yKb (w):zl prog 42 w #[(0,.int .u8 2)]=.ok (.value (.agg (xl (idN 2)).toArray)) w:=zo (by kernel_rfl)
theorem xNt (ρ:Operand->Value)(d f e c b a)(ty:TypeId)(pos af gd w):
  Sem.run prog (execOp ρ ⟨d,.build 46 #[(0,f),(1,e),(3,c),(4,b),(5,a)],ty,pos,af,gd⟩) w=zl prog 46 w #[(0,ρ f),(1,ρ e),(3,ρ c),(4,ρ b),(5,ρ a)]:=by kernel_rfl
def qO (i:Nat):Option (Nat×Nat):=#[(0,32),(32,1),(33,1),(34,1),(35,1),(36,1),(37,1),(38,1),(39,1)][i]?
theorem yG0 (parts):prog.built 46 parts=Instr.fill qO (xA ut) parts:=by kernel_rfl
theorem yI1 (w id t d a ga gn gc):zl prog 46 w #[(0,.agg (xl id).toArray),(1,.string t),(3,.int .i64 d),(4,.int .i64 a),(5,.slice ga gn gc)]=.ok (.value (.agg (xA ⟨id,t,⟨#[]⟩,d,a,.slice ga gn gc,⟨#[]⟩,.slice none 0 0,false⟩))) w:=zo (by
 show prog.built 46 [(0,.agg (xl id).toArray),(1,.string t),(3,.int .i64 d),(4,.int .i64 a),(5,.slice ga gn gc)]=_
 rw[yG0];have c:(xl ut.id).length=32:=xD _;have b:(xl id).length=32:=xD _;refine(ze qO 0 (.agg (xl id).toArray) [] (xl ut.id) [.string ⟨#[]⟩,.string ⟨#[]⟩,.int .i64 0,.int .i64 0,.slice none 0 0,.string ⟨#[]⟩,.slice none 0 0,.bool false] (xl id) (by rw[c];rfl) rfl (by rw[c,b])).trans ?_;refine(ze qO 1 (.string t) (xl id) [.string ⟨#[]⟩] [.string ⟨#[]⟩,.int .i64 0,.int .i64 0,.slice none 0 0,.string ⟨#[]⟩,.slice none 0 0,.bool false] [.string t] (by rw[b];rfl) rfl rfl).trans ?_;rw[show xl id++([Value.string t]++[.string ⟨#[]⟩,.int .i64 0,.int .i64 0,.slice none 0 0,.string ⟨#[]⟩,.slice none 0 0,.bool false])=(xl id++[.string t,.string ⟨#[]⟩])++([.int .i64 0]++[.int .i64 0,.slice none 0 0,.string ⟨#[]⟩,.slice none 0 0,.bool false]) by simp];refine(ze qO 3 (.int .i64 d) (xl id++[.string t,.string ⟨#[]⟩]) [.int .i64 0] [.int .i64 0,.slice none 0 0,.string ⟨#[]⟩,.slice none 0 0,.bool false] [.int .i64 d] (by rw[b6,b];rfl) rfl rfl).trans ?_
 rw[show (xl id++[Value.string t,.string ⟨#[]⟩])++([.int .i64 d]++[.int .i64 0,.slice none 0 0,.string ⟨#[]⟩,.slice none 0 0,.bool false])=(xl id++[.string t,.string ⟨#[]⟩,.int .i64 d])++([.int .i64 0]++[.slice none 0 0,.string ⟨#[]⟩,.slice none 0 0,.bool false]) by simp];refine(ze qO 4 (.int .i64 a) (xl id++[.string t,.string ⟨#[]⟩,.int .i64 d]) [.int .i64 0] [.slice none 0 0,.string ⟨#[]⟩,.slice none 0 0,.bool false] [.int .i64 a] (by rw[b6,b];rfl) rfl rfl).trans ?_;rw[show (xl id++[Value.string t,.string ⟨#[]⟩,.int .i64 d])++([.int .i64 a]++[.slice none 0 0,.string ⟨#[]⟩,.slice none 0 0,.bool false])=(xl id++[.string t,.string ⟨#[]⟩,.int .i64 d,.int .i64 a])++([Value.slice none 0 0]++[.string ⟨#[]⟩,.slice none 0 0,.bool false]) by simp];refine(ze qO 5 (.slice ga gn gc) (xl id++[.string t,.string ⟨#[]⟩,.int .i64 d,.int .i64 a]) [.slice none 0 0] [.string ⟨#[]⟩,.slice none 0 0,.bool false] [.slice ga gn gc] (by rw[b6,b];rfl) rfl rfl).trans ?_;rw[show (xl id++[Value.string t,.string ⟨#[]⟩,.int .i64 d,.int .i64 a])++([.slice ga gn gc]++[.string ⟨#[]⟩,.slice none 0 0,.bool false])=yP ⟨id,t,⟨#[]⟩,d,a,.slice ga gn gc,⟨#[]⟩,.slice none 0 0,false⟩ by simp[yP,zZ]];rfl)
theorem yH0 (w g a x)(h:w.heap[g]?=some (.cells (xA a) 46 (0,0))):
  yi prog 42 w (.pointer (some ⟨g,0,none⟩)) (.agg (xl x).toArray)=.ok .skip (w.setRow g (xA { a with id:=x })):=by
 have:=ks sizeOf42 w g 0 (yP a) _ h (xl x) (xD x) (by rw[yZ];omega) (zT x);rw[this];refine congrArg (Result.ok Next.skip) (congrArg (World.setRow w g) ?_);have b:(xl a.id).length=32:=xD _;show ((yP a).take 0++xl x++(yP a).drop (0+32)).toArray=xA { a with id:=x }
 unfold xA yP;rw[bg_,E8,m0,<-b,List.drop_left];simp only[zZ]
def kQ (k:UInt8):PArt:=⟨idN k,str tex,str [],5,6,[str cos],str [],[],false⟩
theorem xR7 (k):(kQ k).Fits:=⟨by show (str tex).size<=1000;rw[kE];omega,by show (str []).size<=1000;decide,by show (str []).size<=1000;decide,by show 1<=22;omega,(by intro g a;rw[S_.1 a];decide),by show 0<=22;omega⟩
theorem yIk {w:World}{gb}(k)(h:w.heap[gb]?=some (.cells #[.string (str cos)] 9 (0,0))):qL w (kA k gb) (kQ k):=
 ⟨rfl,rfl,rfl,rfl,rfl,rfl,rfl,⟨rfl,.inr ⟨gb,1,_,rfl,n3 _,h,w_ _,by decide,rfl,rfl⟩⟩,D1 _ _ _ _⟩
theorem xZh (k:UInt8)(n:Nat)(h:pErr (kP k n)=0)(L:LF)(a:L (str cos)=[]):uY (kQ k) L [(str cos,n)]=some (setL L (str cos) (addP (L (str cos)) (kP k n))):=by
 unfold uY;rw[if_pos]
 ·rfl
 ·show jk (L (str cos)) (str cos) (kP k n)=0
  rw[a];unfold jk;rw[if_neg (by simp[xVv]),if_neg (by simp[h])];simp[xLd]
theorem xZg {f:TF}{h:Nat}{l}(a:f (str cos)=some ⟨h,false,l⟩)(b:h<2147483646):uL f [str cos]=0/\plOf f [str cos]=[(str cos,h+1)]/\uK f [str cos] (str cos)=some ⟨h+1,false,kC l ((h+1:Nat):Int)⟩:=by
 refine⟨?_,?_,xPo a⟩
 ·unfold uL;rw[if_neg (by simp),if_pos (by simp)];unfold qE;rw[a];simp only[av_,if_false];rw[if_neg (by omega)];rfl
 ·simp[plOf,numF,a]
theorem k_run:∃d a c f:PC,step k0 (.opn (str cos))=some d/\step d (.put (kQ 1))=some a/\step a (.rm (idN 1))=some c/\step c (.put (kQ 2))=some f/\plOf d.tc [str cos]=[(str cos,1)]/\plOf c.tc [str cos]=[(str cos,2)]/\zn (idN 1) f.hes=some (.agg (xr (kEnt 1 1))):=by
 obtain⟨h,i⟩:∃h,h=xEp k0.tc (str cos):=⟨_,rfl⟩;have p:h (str cos)=some ⟨0,false,[]⟩:=by rw[i];unfold xEp putF;rw[if_pos rfl];rfl
 obtain⟨d,b⟩:∃d:PC,d={ k0 with tc:=h,tn:=newN k0.tc k0.tn (str cos) }:=⟨_,rfl⟩;have s1:step k0 (.opn (str cos))=some d:=by
  show opnO k0 (str cos)=some d
  unfold opnO;rw[if_pos (by unfold xIy;rw[if_neg (by simp[xVv])];rfl),b,i]
 obtain⟨q,k,a3⟩:=xZg p (by omega);obtain⟨a,e⟩:∃a:PC,a={ put1 d (kQ 1)with tc:=uK d.tc (kQ 1).groups,lf:=setL d.lf (str cos) (addP (d.lf (str cos)) (kP 1 1)) }:=⟨_,rfl⟩;have s2:step d (.put (kQ 1))=some a:=by
  show putO d (kQ 1)=some a
  unfold putO;rw[if_pos,if_neg (by simp[kQ]),if_pos (by rw[b];exact q),show plOf d.tc (kQ 1).groups=[(str cos,1)] by rw[b];exact k,xZh 1 1 yHk d.lf (by rw[b];rfl),e]
  ·rfl
  ·rw[b];refine⟨by decide,rfl,?_,rfl,?_⟩
   ·show ¬ (idN 1=yI\/(str tex).size=0)
    rw[kE];simp[yIl 1 (by decide)]
   ·show 0+(str tex).size<=1000
    rw[kE];omega
 have e2s:a.ses=[(idN 1,.agg (xU kArt))]:=by rw[e,b];rfl
 have e2h:a.hes=[(idN 1,.agg (xr (kEnt 1 0)))]:=by rw[e,b];rfl
 have e2b:a.bytes=100:=by rw[e,b];show 0+(str tex).size=100;rw[kE]
 have e2u:a.budget=1000:=by rw[e,b];rfl
 have e2t:a.tc (str cos)=some ⟨1,false,[(1,1)]⟩:=by rw[e,b];exact a3
 have e2l:∀t,a.lf t=if t=str cos then [kP 1 1]else []:=λt=>by rw[e,b];rfl
 have en:∀t,xD4 a.lf (idN 1) t=if t=str cos then some 1 else none:=λt=>by
  unfold xD4;rw[e2l];split <;> rfl
 obtain⟨c,g⟩:∃c:PC,c={ a with ses:=xBb (idN 1) a.ses,bytes:=a.bytes-xIj (.agg (xU kArt)),tc:=rmT a.tc a.lf (idN 1),lf:=rmL a.lf (idN 1),hes:=vI (idN 1) (xP6 (.agg (xr (kEnt 1 0)))) a.hes }:=⟨_,rfl⟩;have o:step a (.rm (idN 1))=some c:=by
  show rmO a (idN 1)=some c
  unfold rmO;rw[show zn (idN 1) a.ses=some (.agg (xU kArt)) by rw[e2s];simp[zn]];simp only;rw[if_neg,show zn (idN 1) a.hes=some (.agg (xr (kEnt 1 0))) by rw[e2h];simp[zn]]
  ·simp only;rw[if_neg (by rw[xHi];decide),g]
  ·rintro ⟨t,n,h1,h2⟩;rw[en]at h1;split at h1
   ·rename_i ht;cases h1
    refine h2 ?_;unfold uJ;rw[ht,e2t];decide
   ·cases h1
 have e3h:c.hes=[(idN 1,.agg (xr (kEnt 1 1)))]:=by
  rw[g];show vI (idN 1) (xP6 _) a.hes=_
  rw[xLz,e2h];unfold vI zn xKh;simp;rfl
 have e3s:c.ses=[]:=by
  rw[g];show xBb (idN 1) a.ses=[]
  rw[e2s];simp[xBb]
 have e3t:∃l,c.tc (str cos)=some ⟨1,false,l⟩:=by
  rw[g];show ∃l,rmT a.tc a.lf (idN 1) (str cos)=_
  unfold rmT;rw[en,if_pos rfl];simp only;unfold qN putF;rw[if_pos rfl,e2t];exact⟨_,rfl⟩
 have e3l:c.lf (str cos)=[]:=by
  rw[g];show (a.lf (str cos)).filter _=[]
  rw[e2l,if_pos rfl];simp[kP]
 obtain⟨r,e3t⟩:=e3t;obtain⟨b1,b2,_⟩:=xZg e3t (by omega);obtain⟨f,j⟩:∃f:PC,f={ put1 c (kQ 2)with tc:=uK c.tc (kQ 2).groups,lf:=setL c.lf (str cos) (addP (c.lf (str cos)) (kP 2 2)) }:=⟨_,rfl⟩;have l3h:zn (idN 2) c.hes=none:=by rw[e3h];simp[zn,yJt]
 have m:step c (.put (kQ 2))=some f:=by
  show putO c (kQ 2)=some f
  unfold putO;rw[if_pos,if_neg (by simp[kQ]),if_pos (show uL c.tc (kQ 2).groups=0 from b1),show plOf c.tc (kQ 2).groups=[(str cos,2)]from b2,xZh 2 2 yHj c.lf e3l,j]
  ·rfl
  ·refine⟨by decide,l3h,?_,by rw[e3s];rfl,?_⟩
   ·show ¬ (idN 2=yI\/(str tex).size=0)
    rw[kE];simp[yIl 2 (by decide)]
   ·rw[g];show a.bytes-xIj (.agg (xU kArt))+(str tex).size<=a.budget
    rw[e2b,e2u,kE];omega
 refine⟨d,a,c,f,s1,s2,o,m,by rw[b];exact k,b2,?_⟩;rw[j];show zn (idN 1) (vI (idN 2) _ c.hes)=_
 unfold vI;rw[l3h,e3h];simp[zn]
theorem xQl (k):(recO (.put (kQ k))).length=173:=by
 show (recP (kQ k).clean).length=173
 have a:(kQ k).clean=kQ k:=if_neg (by simp[kQ]);rw[a];simp only[recP,b6,xDs,xu,x5,L1,(kQ k).id.2];show 0+1+32+4+4+(0+1)+(4+(str tex).size)+(4+0)+(4+0)+4+(txB (str cos)++[]).length+4+0=173
 rw[kE,G5,xDs];rfl
theorem yEm:madeCells (Value.int .u8 0).cells 100=(encB tex).toArray:=by kernel_rfl
theorem yEl (w):Sem.run prog (Instr.makeSlice 23 (.int .i64 100) (.int .i64 100)) w=.ok (.slice (some ⟨w.heap.size,0,none⟩) 100 100) (w.alloc (.cells (encB tex).toArray 5)):=by
 obtain⟨a,b,c,e,d⟩:=info_parts Tryz.info_byte;have:=run_makeSlice (P:=prog) w 23 5 a (.int .u8 0) underlying23 b c .i64 .i64 100 100 (by omega) (by omega) (by rw[e];decide) (by rw[d];decide) (by omega);grind [yEm]
section
theorem xGr (ρ:Operand->Value)(d b a)(ty:TypeId)(pos af gd w):
  Sem.run prog (execOp ρ ⟨d,.build 72 #[(0,b),(1,a)],ty,pos,af,gd⟩) w=zl prog 72 w #[(0,ρ b),(1,ρ a)]:=by kernel_rfl
theorem yG6 (w s x):zl prog 72 w #[(0,.string s),(1,.int .i64 x)]=.ok (.value (.agg #[.string s,.int .i64 x])) w:=zo (by kernel_rfl)
theorem yC2 (w):(Op.equalIn 10000 72 (.agg #[.string ⟨#[99,111,109,112,46,111,115]⟩,.int .i64 1]) (.agg #[.string ⟨#[99,111,109,112,46,111,115]⟩,.int .i64 1])).run prog w=.ok true w:=by
 kernel_rfl
theorem kn8 {a W}(h:Below a.heap.size a W):∃W' bA,W.alloc (.cells (xr qy) 79)=W'/\W.heap.size=bA/\Below W.heap.size W W'/\Hid (W'.heap[bA]?=some (.cells (xr qy) 79 (0,0)))/\Hid (a.heap.size<=bA)/\Hid (Below a.heap.size a W'):=
 have b:Below W.heap.size W (W.alloc (.cells (xr qy) 79)):=by grind
 ⟨_,_,rfl,rfl,b,h_ (heap_alloc_new W _),h_ h.size,h_ (h.trans (b.mono h.size))⟩
theorem kn9 {a W bA}(d:W.heap[bA]?=some (.cells (xr qy) 79 (0,0)))(c:a.heap.size<=bA)(h:Below a.heap.size a W):∃W',W.setRow bA (xr (kEnt 1 1))=W'/\Hid (W'.heap[bA]?=some (.cells (xr (kEnt 1 1)) 79 (0,0)))/\Hid (Below a.heap.size a W'):=
 ⟨_,rfl,h_ (setRow_heap _ _ _ _ _ _ d),h_ (h.trans ((jP W bA _).below h.size (λk b=>by rw[S_.1 b];exact c)))⟩
theorem kn4 {B w v}{a:PC}(h:yX B w v)(b:kvs v.es=a.hes)(hl:zn (idN 1) a.hes=some (.agg (xr (kEnt 1 1)))):Calls prog 22 #[.pointer (some ⟨v.p,0,none⟩),.agg (xl (idN 1)).toArray] w λe w'=>Below w.heap.size w w'/\e=.returned (.tuple #[.agg (xr (kEnt 1 1)),.bool true]):=by
 have f:getK (idN 1) v.es=some (.agg (xr (kEnt 1 1))):=by rw[jD,b];exact hl
 obtain⟨x,_,c,d⟩:=yF4 h (idN 1);grind
theorem xBv (E:List By)(y:By):j1 (E++[3 :: y])=j1 E+y6 (y.length+1):=by simp[j1]
theorem xOw:j1 (ve 1000 [])=1:=by
 show ([3 :: vW 1000].map λb=>y6 b.length).sum=1
 simp only[t8,aA_,x5,yQ];rfl
theorem xOs {w:World}{B pv}{n:Nat}(h:w.ownsRow B 72 2 pv 1 (vy [(str cos,n)])):∃pb pc,pv=.slice (some ⟨pb,0,none⟩) 1 pc/\B<=pb/\pb<w.heap.size/\1<=pc/\w.cell? ⟨pb,0,none⟩=some (.string (str cos))/\w.cell? ⟨pb,1,none⟩=some (.int .i64 n):=by
 rcases jt h with⟨_,e⟩|⟨g,cap,_,h1,h2,h3,h4,_,_,_,a⟩
 ·cases e
 ·exact⟨g,cap,h1,h2,h3,h4,a 0 _ rfl,a 1 _ rfl⟩
theorem yAf {P ops}{Q:Exit->Act->World->Prop}{C:World->Prop}{E R n r s t a w}(c:xBt ops R=[r,s,t])
  (h1:wpOp P ops (NoPanic Q) r (λa' w'=>(uH ops E r=true->C w')/\wpF P ops Q C E n (R.erase r) a' w') a w)
  (h2:wpOp P ops (NoPanic Q) s (λa' w'=>(uH ops E s=true->C w')/\wpF P ops Q C E n (R.erase s) a' w') a w)
  (h3:wpOp P ops (NoPanic Q) t (λa' w'=>(uH ops E t=true->C w')/\wpF P ops Q C E n (R.erase t) a' w') a w):wpF P ops Q C E (n+1) R a w:=by
 intro i b;rw[c]at b;rcases g8.1 b with rfl|b
 ·exact h1
 rcases g8.1 b with rfl|b
 ·exact h2
 rw[S_]at b;subst b;exact h3
attribute [local go_sem ↓] xGr xP xI qd uC qZ ja vm vo xRt xNt qG qU
attribute [local go_sem] yG6 yC2 zg xD7 xCu xGf xFx yKc yKb yI1 xHw xHh zr zx yA yz xh xg xe xd xx xy xk xj xq xB xw
theorem xT5 {w}(hG:Gl w):Calls prog 4 #[] w λe w'=>e=.returned (.bool true)/\Below w.heap.size w w':=by
 obtain⟨k1,k2,k3,k4,s1,s2,s3,s4,pl1,pl3,dd⟩:=k_run;have f1:=(xFh (n:=1000) (by omega)).step s1 (λ_ h=>by cases h);have f2:=f1.step s2 (λa h=>by cases h;exact(xR7 1).ng);have f3:=f2.step s3 (λ_ h=>by cases h);have wO:=h_ dd;have HS:=h_ (And.intro s1 (And.intro s2 (And.intro s3 s4)));have dR:=h_ (And.intro pl1 pl3);have Gv:=h_ (And.intro f1 (And.intro f2 f3));clear s1 s2 s3 s4 pl1 pl3 dd f1 f2 f3;have HG:=h_ hG;have Le:Hid (prog.globals.size<=w.heap.size):=h_ hG.size;clear hG;go_enter func4,ntmps4;go_wp2_with fail;refine(xVr 256 w (by omega)).mono ?_;rintro e w1⟨rfl,aa,bZ⟩;obtain⟨D,Y⟩:∃D,D=w.heap.size:=⟨_,rfl⟩;obtain⟨v,hv⟩:∃v,v=xQy w:=⟨_,rfl⟩;have iz:v.p=D+1:=by rw[hv,Y];rfl
 have RR:∀k∈v.foot,D<=k:=λk hk=>by rw[hv]at hk;rw[Y];exact(bZ.foot_lt k hk).1
 rw[<-hv,<-Y]at bZ;rw[<-Y];have ez:Below D w w1:=by grind
 have Kc:D<=w1.heap.size:=by grind
 have I:Hid (prog.globals.size<=D):=h_ (by rw[Y];exact Le.out);have aq:=h_ ez;have HF:=h_ (xIn bZ ⟨rfl,rfl⟩ (HG.below ez I.out) (by decide) rfl (λs _=>xJ9 sha 256 s) 1000 (by omega) (by omega) Kc I.out);rw[iz,show ((1000:Nat):Int)=1000 from rfl]at HF;have HD:=h_ Y;have rY:=h_ iz;have HVF:=h_ RR;have HDW:Hid (D<=w1.heap.size):=h_ Kc;clear aa bZ hv iz RR ez Kc;have hD':D=D:=rfl;clear Y hD';go_wp2_with fail;refine HF.mono ?_;rintro e w2 ⟨rfl,hk2,v2,d2,j2,j_,eW,b9,db,aF,X⟩;have dD:Below D w w2:=by grind
 have Kd:D<=w2.heap.size:=by grind
 have ax:=h_ dD;have Ye:Hid (D<=w2.heap.size):=h_ Kd;have ET:d2.n=256:=aF;have HO:=h_ (xPq.open (w:=w2) (D:=D) (p:=v2.p) (n:=256) (q:=100) (F:=v2.foot) (nb:=1000) (ops:=[]) (c:=k0) ⟨v2,d2,j2,rfl,b9,ET,λ_ h=>h,X.up,X.pend,by have:=X.inv.toRec sha yR;rw[ET]at this;exact this,X.ents,X.gen,X.first⟩ (by omega) (by omega) (by omega) ⟨rfl,λ_ h=>(by cases h),by simp⟩ (by omega) (HG.below dD I.out) Kd I.out);rw[j_.trans rY.out]at HO;have dw:=h_ ET;have HV2:=h_ (j_.trans rY.out);clear hk2 j_ eW b9 db aF X dD Kd ET HF;go_wp2_with fail;refine HO.mono ?_;rintro e w3 ⟨sb,rfl,ao,_,F3,mH,_⟩;replace mH:=mH 0 (b7 (Nat.lt_of_le_of_lt (n3 _) xB8) (R_ I.out Ye.out));have dl:Below D w w3:=by grind
 have Ke:D<=w3.heap.size:=by grind
 have aJ:=h_ dl;have HDW3:Hid (D<=w3.heap.size):=h_ Ke;have GM:=h_ (xFv mH (HG.below dl I.out) I.out Ke (str cos) (by decide) (by simp[ve]) (λ_ _ h=>by cases h) (by show 0<=1000000;omega));rw[show str cos=⟨#[99,111,109,112,46,111,115]⟩from rfl]at GM;clear ao mH dl Ke HO;go_wp2_with fail;refine GM.mono ?_;rintro e E ⟨kk,rfl,hall,M⟩;obtain⟨rfl,F4,gL,_⟩:=M k1 HS.1 rfl (by rw[xOw];decide +kernel);have aQ:=hall.1;have sW:Hid (j1 (ve 1000 []++[3 :: recO (.opn (str cos))])=2):=h_ (by rw[xBv,xOw];decide +kernel);obtain⟨E1,SZ⟩:∃E1,E1=ve 1000 []++[3 :: recO (.opn (str cos))]:=⟨_,rfl⟩;have Q1:E1.length=2:=by rw[SZ];simp[ve]
 rw[<-SZ]at sW;have gL:StOk D E sb (D+1) 256 102 true 0 E1 k1 F4:=by rw[SZ];exact gL
 clear hall M SZ;have K6:=aJ.trans aQ;have Q2:D<=E.heap.size:=by grind
 have hF4:=gL.flt;obtain⟨P,cC⟩:∃P,P=E.alloc (.cells (encB tex).toArray 5):=⟨_,rfl⟩;have nR:Below E.heap.size E P:=by grind
 have sC:=yEl E;have iG:(convert 23 9 (.slice (some ⟨E.heap.size,0,none⟩) 100 100)).run prog (E.alloc (.cells (encB tex).toArray 5))=.ok (.string (str tex)) (E.alloc (.cells (encB tex).toArray 5)):=by grind [xVw,tex,vX,xZ2]
 obtain⟨gb,Fu⟩:∃gb,gb=P.heap.size:=⟨_,rfl⟩;obtain⟨U,dS⟩:∃U,U=P.alloc (.cells #[.string ⟨#[99,111,109,112,46,111,115]⟩] 9):=⟨_,rfl⟩;have Yf:Below P.heap.size P U:=by grind
 have DP:U.heap[gb]?=some (.cells #[.string (str cos)] 9 (0,0)):=by rw[dS,Fu];exact heap_alloc_new P _
 obtain⟨C,Eg⟩:∃C,C=gb+1:=⟨_,rfl⟩;have p8:U.heap.size=C:=by grind
 obtain⟨T,fK⟩:∃T,T=U.alloc (.cells (xA (kA 1 gb)) 46):=⟨_,rfl⟩;have BZ:Below U.heap.size U T:=by grind
 have oo:T.heap[C]?=some (.cells (xA (kA 1 gb)) 46 (0,0)):=by grind
 obtain⟨H,hp7⟩:∃H,H=T.heap.size:=⟨_,rfl⟩;obtain⟨S,Gt⟩:∃S,S=T.alloc (.cells (xA (kA 1 gb)) 46):=⟨_,rfl⟩;have iO:Below T.heap.size T S:=by grind
 have iB:S.heap[H]?=some (.cells (xA (kA 1 gb)) 46 (0,0)):=by grind
 obtain⟨G,gC⟩:∃G,G=S.setRow H (xA (kA 2 gb)):=⟨_,rfl⟩;have GQ:=yH0 S H (kA 1 gb) (idN 2) iB;rw[show ({ kA 1 gb with id:=idN 2 }:Art)=kA 2 gb from rfl,<-gC]at GQ;have sg:Kept [H] S G:=by grind
 have Fv:G.heap[H]?=some (.cells (xA (kA 2 gb)) 46 (0,0)):=by grind
 have z5:E.heap.size<=gb:=by grind
 have z6:gb<C:=by omega
 have z7:C<H:=by grind
 have z8:H<G.heap.size:=by grind
 have Kf:G.heap[C]?=some (.cells (xA (kA 1 gb)) 46 (0,0)):=by grind
 have D_:G.heap[gb]?=some (.cells #[.string (str cos)] 9 (0,0)):=by grind
 have Yg:Below E.heap.size E S:=by grind
 have Kg:Below E.heap.size E G:=by grind
 have Q3:=gL.below Kg;have Fj:Below D w G:=by grind
 have Yh:D<=G.heap.size:=by omega
 have Yi:G.cell? ⟨gb,0,none⟩=some (.string (str cos)):=by grind
 have pP:=h_ (xHd Q3 (HG.below Fj I.out) I.out Yh (kA 1 gb) (kQ 1) (yIk 1 D_) (xR7 1) (by omega) Gv.1 (by omega));have Yj:=h_ Q1;clear Q1;obtain⟨o7,r7⟩:=xF (n:=40) oo (yt _);obtain⟨o9,r9⟩:=xF (n:=40) Kf (yt _);have Yk:xt 40 (xA ⟨idN 1,str tex,⟨#[]⟩,5,6,.slice (some ⟨P.heap.size,0,none⟩) 1 1,⟨#[]⟩,.slice none 0 0,false⟩)=true:=vA rfl rfl;have iI:xt 40 (xA (kA 1 gb))=true:=vA rfl rfl;have si:((xA ut).size==40)=true:=by rw[yt];rfl
 have HW:=h_ (And.intro z5 (And.intro z6 (And.intro z7 z8)));have KV:=h_ hF4;have Ym:=h_ Kf;have SV:=h_ Fv;have HG9:=h_ D_;have gE:=h_ Fj;have HD9:Hid (D<=G.heap.size):=h_ Yh;have Q4:Hid (E.heap.size<=G.heap.size):=h_ Kg.size;clear p8 aQ gL K6 Q2 hF4 nR Yf DP BZ oo iO iB sg Fv z5 z6 z7 z8 Kf D_ Yg Kg Q3 Fj Yh Yi GM;go_upto_region 8 with fail
 refine xm cC ?_;clear cC sC iG;go_upto_region 9 with fail
 rw[<-dS,<-Fu,<-Eg];refine xm fK ?_;clear dS fK Fu Eg Yk;go_upto_region 10 with fail
 refine xm Gt ?_;rw[<-hp7];clear Gt hp7 o7 r7 iI;go_upto_region 11 with fail
 refine xm gC ?_;clear gC GQ;go_wp2_with fail;refine pP.mono ?_;rintro e Z ⟨pv,kk,rfl,hall,M⟩;obtain⟨rfl,⟨Yn,B9,Yo,Q5⟩,Bk⟩:=M k2 HS.2.1 rfl (by rw[sW.out,xQl];decide +kernel);have mp:=hall.1;have B_:=hall.2.1;rw[show plOf k1.tc (kQ 1).groups=[(str cos,1)]from dR.1]at Bk;obtain⟨pb,pc,rfl,Gu,L,bC,rS,lV⟩:=xOs Bk;have hpF:pb∉Yn:=λhm=>Q5 pb hm rfl
 have ly:Hid (j1 (E1++[3 :: recO (.put (kQ 1))])=3):=h_ (by rw[xBv,sW.out,xQl];decide +kernel);obtain⟨E2,Lm⟩:∃E2,E2=E1++[3 :: recO (.put (kQ 1))]:=⟨_,rfl⟩;have Q6:Hid (E2.length=3):=h_ (by rw[Lm,b6,Yj.out];rfl);rw[<-Lm]at ly B9;clear hall M Bk Q5 Lm;have BR:Below D w Z:=by grind
 have Kh:D<=Z.heap.size:=by grind
 have hW:=HW.out;have Ki:=Q4.out;have Q7:=KV.out;have dN:∀k,E.heap.size<=k->k∉F4:=λk h hm=>by have:=(Q7 k hm).2;omega
 have tJ:∀k,E.heap.size<=k->k<G.heap.size->k∉Yn:=λk h1 h2 hm=>by grind
 have dX:=(B_.block gb (by omega) (dN gb hW.1)).trans HG9.out;have Ca:=(B_.block C (by omega) (dN C (by omega))).trans Ym.out;have GR:=(B_.block H (by omega) (dN H (by omega))).trans SV.out;have tU:=h_ (xFu B9 (HG.below BR I.out) I.out Kh (idN 1) (by rw[Q6.out];omega) Gv.2.1.sum (R_ Gv.2.1.bytes Gv.2.1.bud) (Gv.2.1.iv (by omega)));obtain⟨SC,SD⟩:=xF1 (l:=[]) (w:=Z) (b:=C) (a:=kA 1 gb) (by rw[G5];exact Ca);have Kj:=h_ tJ;have Q8:=h_ hpF;have Yp:=h_ dX;have Q9:=h_ Ca;have Q_:=h_ GR;have tC:=h_ BR;have HD10:Hid (D<=Z.heap.size):=h_ Kh;have HPB:=h_ (And.intro Gu (And.intro L (And.intro rS lV)));have Yq:Hid (G.heap.size<=Z.heap.size):=h_ B_.size;have Xm:(1:Int)<=pc:=by omega
 clear mp B_ B9 hpF Yo Gu L bC rS lV BR Kh hW Ki Q7 dN tJ dX Ca GR pP o9 r9;go_wp2_with fail;refine tU.mono ?_;rintro e cI ⟨kk,rfl,hall,M⟩;obtain⟨rfl,F11,Cb,Yr⟩:=M k3 HS.2.2.1 rfl (by rw[ly.out,xQk];decide +kernel);have Hk:=hall.1;have wk:=hall.2.1;have I4:Hid (j1 (E2++[3 :: recO (.rm (idN 1))])=4):=h_ (by rw[xBv,ly.out,xQk];decide +kernel);obtain⟨E3,Ys⟩:∃E3,E3=E2++[3 :: recO (.rm (idN 1))]:=⟨_,rfl⟩;have Yt:Hid (E3.length=4):=h_ (by rw[Ys,b6,Q6.out];rfl);rw[<-Ys]at I4 Cb;clear hall M Ys;have Kk:Below D w cI:=by grind
 have Kl:D<=cI.heap.size:=by grind
 have hW:=HW.out;have Ra:=HPB.out;have Yu:=Yq.out;have Ki:=Q4.out;have EU:∀k,k∉Yn->k<Z.heap.size->k∉F11:=λk h1 h2 hm=>by grind
 have q1:=Kj.out gb (by omega) (by omega);have q2:=Kj.out C (by omega) (by omega);have q3:=Kj.out H (by omega) (by omega);have A6:=(wk.block gb (by omega) q1).trans Yp.out;have GS:=(wk.block C (by omega) q2).trans Q9.out;have GT:=(wk.block H (by omega) q3).trans Q_.out;have Cc:=wk.block pb Ra.2.1 Q8.out;have Cd:=(J9 (a:=⟨pb,0,none⟩) Cc).trans Ra.2.2.1;have Ce:=(J9 (a:=⟨pb,1,none⟩) Cc).trans Ra.2.2.2;have p_:=h_ (xHd Cb (HG.below Kk I.out) I.out Kl (kA 2 gb) (kQ 2) (yIk 2 A6) (xR7 2) (by rw[Yt.out];omega) Gv.2.2 (by omega));obtain⟨o11,r11⟩:=xF (n:=40) GT (yt _);have Rb:=h_ (And.intro (EU gb q1 (by omega)) (And.intro (EU C q2 (by omega)) (EU pb Q8.out Ra.2.1)));have GU:=h_ GS;have GV:=h_ (And.intro Cd Ce);have oC:=h_ Kk;have HZ11:Hid (Z.heap.size<=cI.heap.size):=h_ wk.size;have Yv:Hid (D<=cI.heap.size):=h_ Kl;clear Hk wk Cb Yr Kk Kl hW Ra Yu Ki EU q1 q2 q3 A6 GS GT Cc Cd Ce tU SC SD;go_wp2_with fail;refine p_.mono ?_;rintro e B ⟨qv,kk,rfl,hall,M⟩;obtain⟨rfl,⟨F12,GW,_,_⟩,Yw⟩:=M k4 HS.2.2.2 rfl (by rw[I4.out,xQl];decide +kernel);have aN:=hall.1;have BJ:=hall.2.1;rw[show plOf k3.tc (kQ 2).groups=[(str cos,2)]from dR.2]at Yw
 obtain⟨qb,qc,rfl,hqB,IR,hqc,Gw,rR⟩:=xOs Yw;have F9:Hid (j1 (E3++[3 :: recO (.put (kQ 2))])=5):=h_ (by rw[xBv,I4.out,xQl];decide +kernel);clear hall M Yw;have L:pb<cI.heap.size:=by grind
 have Cf:=BJ.block pb L Rb.2.2;have Cd:=(J9 (a:=⟨pb,0,none⟩) Cf).trans GV.1;have Ce:=(J9 (a:=⟨pb,1,none⟩) Cf).trans GV.2;have GX:=(BJ.block C (i_ GU.out).1 Rb.2.1).trans GU.out;have oD:=h_ (oC.trans aN);have Cg:=h_ GW;have ti:=h_ (And.intro Cd Ce);have GY:=h_ (And.intro Gw rR);have tj:=h_ GX;have Yx:Hid (D<=B.heap.size):=h_ (R_ Yv.out BJ.size);have hqcz:(1:Int)<=qc:=by omega
 clear aN BJ GW hqB IR hqc Gw rR L Cf Cd Ce GX p_ o11 r11;go_upto_region 14 with fail
 go_cut [13,14]from 67 to 75 (λa b wx=>b=.bool true/\∃bA,a=.pointer (some ⟨bA,0,none⟩)/\Hid (wx.heap[bA]?=some (.cells (xr (kEnt 1 1)) 79 (0,0)))/\Hid (Below B.heap.size B wx))
 case first=>
  rename_i J K' hJ hK;have z1:∀z:xf B,xp z.1 ⟨C,0,none⟩ 32=true:=λz=>(xF1 (l:=[]) (w:=z.1) (b:=C) (a:=kA 1 gb) (by rw[G5];exact(z.2.block _ (i_ tj.out).1).trans tj.out)).1
  have z2:∀z:xf B,xo z.1 ⟨C,0,none⟩ 32=(xl (idN 1)).toArray:=λz=>(xF1 (l:=[]) (w:=z.1) (b:=C) (a:=kA 1 gb) (by rw[G5];exact(z.2.block _ (i_ tj.out).1).trans tj.out)).2
  refine zh [0,2,3] [1,4,5,6,7,8,9,10] 8 (λw'=>∃z:xf B,w'=z.1) ⟨⟨_,(z_ _ _).drew⟩,rfl⟩ ?_;simp only[o_]
  repeat (go_big_quiet_step (fail))
  refine wpQuiet_nil ?_;clear z1 z2;generalize GZ:B.drew=W0;have Ch:Hid (Below B.heap.size B W0):=h_ (by rw[<-GZ];exact(z_ _ _).drew);clear GZ;have aU:xt 36 (xr (kEnt 1 1))=true:=by kernel_rfl
  refine uZ 1 8 true true ?_ ?_
  ·simp only[o_];go_wp2_with fail;refine(xEm (Cg.below Ch.out)).mono ?_;rintro e W4 ⟨g,v,rfl,au,JI⟩;have Q:=h_ (au.base Ch.size);have HK:=h_ JI;have O:=h_ (Ch.trans (g.mono Ch.size));clear g au JI;go_wp2_with fail;refine⟨λ_=>⟨⟨_,O.out⟩,rfl⟩,?_⟩;refine uZ 4 8 false true ?_ ?_
   ·simp only[o_];go_wp2_with fail;refine(kn4 Q.out HK.out wO.out).mono ?_;rintro e W5 ⟨g,rfl⟩;have A:=h_ (O.trans (g.mono O.size));clear g Q HK;go_wp2_with fail;refine⟨λ_=>⟨⟨_,A.out⟩,rfl⟩,?_⟩;refine uZ 5 8 false true ?_ ?_
    ·simp only[o_];go_wp2_with fail;refine⟨λ_=>⟨⟨_,A.out⟩,rfl⟩,?_⟩;refine yAf (r:=6) (s:=7) (t:=8) (by kernel_rfl) ?_ ?_ ?_
     ·refine xH9 false rfl ?_;simp only[o_];go_wp2_with fail;refine⟨λ_=>⟨⟨_,A.out⟩,rfl⟩,?_⟩;refine uZ 7 8 false true ?_ ?_
      ·simp only[o_];go_wp2_with fail;refine⟨λ_=>⟨⟨_,A.out⟩,rfl⟩,?_⟩;refine uf 8 true ?_;simp only[o_];go_wp2_with fail;obtain⟨N,bA,d,y,g,f,x,o⟩:=kn8 A.out;rw[d,y];clear g d y;refine⟨λ_=>⟨⟨_,o.out⟩,rfl⟩,?_⟩;refine zW (R:=[9,10]) ?_;simp only[o_];have i:=za f.out (xM _);go_wp2_with fail;obtain⟨LE,d,m,K⟩:=kn9 f.out x.out o.out;rw[d];clear d i f;refine T_ ?_;refine hK _ _ ?_;go_meet;exact⟨rfl,_,rfl,m,K⟩
      ·simp only[o_];go_wp2_with fail;obtain⟨W8,bA,d,y,g,f,x,W⟩:=kn8 A.out;rw[d,y];clear g d y;refine⟨λ_=>⟨⟨_,W.out⟩,rfl⟩,?_⟩;refine uZ 7 9 false false ?_ ?_
       ·simp only[o_];go_wp2_with fail;refine⟨λ_=>⟨⟨_,W.out⟩,rfl⟩,?_⟩;refine zW (R:=[9,10]) ?_;simp only[o_];have i:=za f.out (xM _);go_wp2_with fail;obtain⟨LE,d,m,K⟩:=kn9 f.out x.out W.out;rw[d];clear d i f;refine T_ ?_;refine hK _ _ ?_;go_meet;exact⟨rfl,_,rfl,m,K⟩
       ·simp only[o_];have i:=za f.out (xM _);go_wp2_with fail;obtain⟨N,d,m,o⟩:=kn9 f.out x.out W.out;rw[d];clear d i f;refine⟨λ_=>⟨⟨_,o.out⟩,rfl⟩,?_⟩;refine zW (R:=[7,10]) ?_;simp only[o_];go_wp2_with fail;refine T_ ?_;refine hK _ _ ?_;go_meet;exact⟨rfl,_,rfl,m,o⟩
     ·refine xH9 false rfl ?_;simp only[o_];go_wp2_with fail;refine⟨λ_=>⟨⟨_,A.out⟩,rfl⟩,?_⟩;refine uZ 6 8 false true ?_ ?_
      ·simp only[o_];go_wp2_with fail;refine⟨λ_=>⟨⟨_,A.out⟩,rfl⟩,?_⟩;refine uf 8 true ?_;simp only[o_];go_wp2_with fail;obtain⟨N,bA,d,y,g,f,x,o⟩:=kn8 A.out;rw[d,y];clear g d y;refine⟨λ_=>⟨⟨_,o.out⟩,rfl⟩,?_⟩;refine zW (R:=[9,10]) ?_;simp only[o_];have i:=za f.out (xM _);go_wp2_with fail;obtain⟨LE,d,m,K⟩:=kn9 f.out x.out o.out;rw[d];clear d i f;refine T_ ?_;refine hK _ _ ?_;go_meet;exact⟨rfl,_,rfl,m,K⟩
      ·simp only[o_];go_wp2_with fail;obtain⟨W8,bA,d,y,g,f,x,W⟩:=kn8 A.out;rw[d,y];clear g d y;refine⟨λ_=>⟨⟨_,W.out⟩,rfl⟩,?_⟩;refine zW (R:=[6,9,10]) ?_;simp only[o_];have i:=za f.out (xM _);go_wp2_with fail;obtain⟨N,d,m,o⟩:=kn9 f.out x.out W.out;rw[d];clear d i f;refine T_ ?_;refine hK _ _ ?_;go_meet;exact⟨rfl,_,rfl,m,o⟩
     ·refine xH9 true rfl ?_;simp only[o_];go_wp2_with fail;obtain⟨W7,bA,d,y,g,f,x,V⟩:=kn8 A.out;rw[d,y];clear g d y;refine⟨λ_=>⟨⟨_,V.out⟩,rfl⟩,?_⟩;refine uZ 6 7 false false ?_ ?_
      ·simp only[o_];go_wp2_with fail;refine⟨λ_=>⟨⟨_,V.out⟩,rfl⟩,?_⟩;refine uZ 7 9 false false ?_ ?_
       ·simp only[o_];go_wp2_with fail;refine⟨λ_=>⟨⟨_,V.out⟩,rfl⟩,?_⟩;refine zW (R:=[9,10]) ?_;simp only[o_];have i:=za f.out (xM _);go_wp2_with fail;obtain⟨LE,d,m,K⟩:=kn9 f.out x.out V.out;rw[d];clear d i f;refine T_ ?_;refine hK _ _ ?_;go_meet;exact⟨rfl,_,rfl,m,K⟩
       ·simp only[o_];have i:=za f.out (xM _);go_wp2_with fail;obtain⟨N,d,m,o⟩:=kn9 f.out x.out V.out;rw[d];clear d i f;refine⟨λ_=>⟨⟨_,o.out⟩,rfl⟩,?_⟩;refine zW (R:=[7,10]) ?_;simp only[o_];go_wp2_with fail;refine T_ ?_;refine hK _ _ ?_;go_meet;exact⟨rfl,_,rfl,m,o⟩
      ·simp only[o_];go_wp2_with fail;refine⟨λ_=>⟨⟨_,V.out⟩,rfl⟩,?_⟩;refine zW (R:=[6,9,10]) ?_;simp only[o_];have i:=za f.out (xM _);go_wp2_with fail;obtain⟨N,d,m,o⟩:=kn9 f.out x.out V.out;rw[d];clear d i f;refine T_ ?_;refine hK _ _ ?_;go_meet;exact⟨rfl,_,rfl,m,o⟩
    ·simp only[o_];go_wp2_with fail;obtain⟨W6,bA,d,y,g,f,x,u⟩:=kn8 A.out;rw[d,y];clear g d y;refine⟨λ_=>⟨⟨_,u.out⟩,rfl⟩,?_⟩;refine uf 5 false ?_;simp only[o_];go_wp2_with fail;refine⟨λ_=>⟨⟨_,u.out⟩,rfl⟩,?_⟩;refine uZ 6 7 false false ?_ ?_
     ·simp only[o_];go_wp2_with fail;refine⟨λ_=>⟨⟨_,u.out⟩,rfl⟩,?_⟩;refine uZ 7 9 false false ?_ ?_
      ·simp only[o_];go_wp2_with fail;refine⟨λ_=>⟨⟨_,u.out⟩,rfl⟩,?_⟩;refine zW (R:=[9,10]) ?_;simp only[o_];have i:=za f.out (xM _);go_wp2_with fail;obtain⟨LE,d,m,K⟩:=kn9 f.out x.out u.out;rw[d];clear d i f;refine T_ ?_;refine hK _ _ ?_;go_meet;exact⟨rfl,_,rfl,m,K⟩
      ·simp only[o_];have i:=za f.out (xM _);go_wp2_with fail;obtain⟨N,d,m,o⟩:=kn9 f.out x.out u.out;rw[d];clear d i f;refine⟨λ_=>⟨⟨_,o.out⟩,rfl⟩,?_⟩;refine zW (R:=[7,10]) ?_;simp only[o_];go_wp2_with fail;refine T_ ?_;refine hK _ _ ?_;go_meet;exact⟨rfl,_,rfl,m,o⟩
     ·simp only[o_];go_wp2_with fail;refine⟨λ_=>⟨⟨_,u.out⟩,rfl⟩,?_⟩;refine zW (R:=[6,9,10]) ?_;simp only[o_];have i:=za f.out (xM _);go_wp2_with fail;obtain⟨N,d,m,o⟩:=kn9 f.out x.out u.out;rw[d];clear d i f;refine T_ ?_;refine hK _ _ ?_;go_meet;exact⟨rfl,_,rfl,m,o⟩
   ·simp only[o_];go_wp2_with fail;obtain⟨W5,bA,d,y,g,f,x,A⟩:=kn8 O.out;rw[d,y];have Q:=h_ (Q.below g);clear g d y;refine⟨λ_=>⟨⟨_,A.out⟩,rfl⟩,?_⟩;refine uf 4 false ?_;simp only[o_];go_wp2_with fail;refine(kn4 Q.out HK.out wO.out).mono ?_;rintro e W6 ⟨g,rfl⟩;have u:=h_ (A.trans (g.mono A.size));have f:=h_ ((g.block _ (i_ f.out).1).trans f.out);clear g Q HK;go_wp2_with fail;refine⟨λ_=>⟨⟨_,u.out⟩,rfl⟩,?_⟩;refine uf 5 false ?_;simp only[o_];go_wp2_with fail;refine⟨λ_=>⟨⟨_,u.out⟩,rfl⟩,?_⟩;refine uZ 6 7 false false ?_ ?_
    ·simp only[o_];go_wp2_with fail;refine⟨λ_=>⟨⟨_,u.out⟩,rfl⟩,?_⟩;refine uZ 7 9 false false ?_ ?_
     ·simp only[o_];go_wp2_with fail;refine⟨λ_=>⟨⟨_,u.out⟩,rfl⟩,?_⟩;refine zW (R:=[9,10]) ?_;simp only[o_];have i:=za f.out (xM _);go_wp2_with fail;obtain⟨LE,d,m,K⟩:=kn9 f.out x.out u.out;rw[d];clear d i f;refine T_ ?_;refine hK _ _ ?_;go_meet;exact⟨rfl,_,rfl,m,K⟩
     ·simp only[o_];have i:=za f.out (xM _);go_wp2_with fail;obtain⟨N,d,m,o⟩:=kn9 f.out x.out u.out;rw[d];clear d i f;refine⟨λ_=>⟨⟨_,o.out⟩,rfl⟩,?_⟩;refine zW (R:=[7,10]) ?_;simp only[o_];go_wp2_with fail;refine T_ ?_;refine hK _ _ ?_;go_meet;exact⟨rfl,_,rfl,m,o⟩
    ·simp only[o_];go_wp2_with fail;refine⟨λ_=>⟨⟨_,u.out⟩,rfl⟩,?_⟩;refine zW (R:=[6,9,10]) ?_;simp only[o_];have i:=za f.out (xM _);go_wp2_with fail;obtain⟨N,d,m,o⟩:=kn9 f.out x.out u.out;rw[d];clear d i f;refine T_ ?_;refine hK _ _ ?_;go_meet;exact⟨rfl,_,rfl,m,o⟩
  ·simp only[o_];go_wp2_with fail;obtain⟨W4,bA,d,y,g,f,x,O⟩:=kn8 Ch.out;rw[d,y];clear g d y;refine⟨λ_=>⟨⟨_,O.out⟩,rfl⟩,?_⟩;refine uf 1 true ?_;simp only[o_];go_wp2_with fail;refine(xEm (Cg.below O.out)).mono ?_;rintro e W5 ⟨g,v,rfl,au,JI⟩;have Q:=h_ (au.base O.size);have HK:=h_ JI;have A:=h_ (O.trans (g.mono O.size));have f:=h_ ((g.block _ (i_ f.out).1).trans f.out);clear g au JI;go_wp2_with fail;refine⟨λ_=>⟨⟨_,A.out⟩,rfl⟩,?_⟩;refine uf 4 false ?_;simp only[o_];go_wp2_with fail;refine(kn4 Q.out HK.out wO.out).mono ?_;rintro e W6 ⟨g,rfl⟩;have u:=h_ (A.trans (g.mono A.size));have f:=h_ ((g.block _ (i_ f.out).1).trans f.out);clear g Q HK;go_wp2_with fail;refine⟨λ_=>⟨⟨_,u.out⟩,rfl⟩,?_⟩;refine uf 5 false ?_;simp only[o_];go_wp2_with fail;refine⟨λ_=>⟨⟨_,u.out⟩,rfl⟩,?_⟩;refine uZ 6 7 false false ?_ ?_
   ·simp only[o_];go_wp2_with fail;refine⟨λ_=>⟨⟨_,u.out⟩,rfl⟩,?_⟩;refine uZ 7 9 false false ?_ ?_
    ·simp only[o_];go_wp2_with fail;refine⟨λ_=>⟨⟨_,u.out⟩,rfl⟩,?_⟩;refine zW (R:=[9,10]) ?_;simp only[o_];have i:=za f.out (xM _);go_wp2_with fail;obtain⟨LE,d,m,K⟩:=kn9 f.out x.out u.out;rw[d];clear d i f;refine T_ ?_;refine hK _ _ ?_;go_meet;exact⟨rfl,_,rfl,m,K⟩
    ·simp only[o_];have i:=za f.out (xM _);go_wp2_with fail;obtain⟨N,d,m,o⟩:=kn9 f.out x.out u.out;rw[d];clear d i f;refine⟨λ_=>⟨⟨_,o.out⟩,rfl⟩,?_⟩;refine zW (R:=[7,10]) ?_;simp only[o_];go_wp2_with fail;refine T_ ?_;refine hK _ _ ?_;go_meet;exact⟨rfl,_,rfl,m,o⟩
   ·simp only[o_];go_wp2_with fail;refine⟨λ_=>⟨⟨_,u.out⟩,rfl⟩,?_⟩;refine zW (R:=[6,9,10]) ?_;simp only[o_];have i:=za f.out (xM _);go_wp2_with fail;obtain⟨N,d,m,o⟩:=kn9 f.out x.out u.out;rw[d];clear d i f;refine T_ ?_;refine hK _ _ ?_;go_meet;exact⟨rfl,_,rfl,m,o⟩
 case rest=>
  obtain⟨rfl,bA,rfl,hC,hBc⟩:=hcut;have hb:=hBc.out;have c0:=(J9 (a:=⟨pb,0,none⟩) (hb.block pb (block_lt_of_cell ti.1))).trans ti.1;have c1:=(J9 (a:=⟨pb,1,none⟩) (hb.block pb (block_lt_of_cell ti.1))).trans ti.2;have c2:=(J9 (a:=⟨qb,1,none⟩) (hb.block qb (block_lt_of_cell GY.1))).trans GY.2;have c3:=cell_of_row wc bA 34 _ _ _ hC.out;rw[show (xr (kEnt 1 1))[34]?=some (.int .i64 1) by rfl]at c3;rw[show ((1:Nat):Int)=1 from rfl]at c1;rw[show ((2:Nat):Int)=2 from rfl]at c2;rw[show str cos=⟨#[99,111,109,112,46,111,115]⟩from rfl]at c0
  obtain⟨o1,r1⟩:=yl (w:=wc) (a:=⟨pb,0,none⟩) (cs:=[.string ⟨#[99,111,109,112,46,111,115]⟩,.int .i64 1]) (λj v hj=>by
   match j,hj with
   |0,hj=>cases hj;exact c0
   |1,hj=>cases hj;exact c1)
  have o1:xp wc ⟨pb,0,none⟩ 2=true:=o1;have r1:xo wc ⟨pb,0,none⟩ 2=#[.string ⟨#[99,111,109,112,46,111,115]⟩,.int .i64 1]:=r1;have dx:=h_ (xWu (Cg.below hb));rw[F9.out]at dx;have iC:=h_ (oD.trans (hb.mono Yx.out));rw[HD.out]at iC;clear hb hC hBc c0 c1;go_wp2_with fail;refine dx.mono ?_;rintro e fJ ⟨rfl,oE⟩;have Yy:Below w.heap.size w fJ:=by grind
  rw[show ((256/2-(1+5):Nat):Int)=122 from rfl];go_wp2;go_ret;exact⟨rfl,Yy⟩
end
def xN1 (w:World)(v:Value)(l:By):Prop:=(v=.slice none 0 0/\l=[])\/(∃a c,v=.slice (some a) l.length c/\SlB w a l/\a.block<w.heap.size/\l.length<=c/\c<=maxLen)\/∃(a:Addr) (c:Nat),v=.slice (some a) 0 c/\l=[]
theorem xN1.below {w w':World}{v l}(h:xN1 w v l)(b:Below w.heap.size w w'):xN1 w' v l:=by
 rcases h with h|⟨a,c,h1,h2,h3,h4,d⟩|h
 ·exact .inl h
 rotate_left
 ·exact .inr (.inr h)
 ·exact .inr (.inl ⟨a,c,h1,⟨λq x hq=>(b.cell (by rw[xY];exact h3)).trans (h2.cell q x hq)⟩,b7 h3 b.size,h4,d⟩)
def adjC (c:UInt8):UInt8:=if c.toNat%3=2 then c-1 else c
theorem yI7 (c:UInt8):(adjC c).toNat%3≠2:=by
 unfold adjC;split
 ·have:(c-1).toNat=c.toNat-1:=by
   have h1:=c.toNat_lt;rw[UInt8.toNat_sub_of_le _ _ (by rw[UInt8.le_iff_toNat_le];show 1<=c.toNat;omega)];rfl
  omega
 ·assumption
theorem yAi {w v}(l:By)(h:xN1 w v l):Calls prog 5 #[v,.int .i64 100] w λe w'=>Below w.heap.size w w'/\∃u,e=.returned u/\OwnB w' w.heap.size u ((l.take 100).map adjC):=by
 obtain⟨n,b⟩:∃n,n=l.length:=⟨_,rfl⟩;obtain⟨va,vc,hv,Q⟩:∃va vc,v=.slice va n vc/\(n:Int)<=vc:=by
  rcases h with⟨h1,h2⟩|⟨a,c,h1,_,_,h4,_⟩|⟨a,c,h1,h2⟩
  ·exact⟨none,0,by rw[h1,b,h2];rfl,by rw[b,h2];exact Int.le_refl _⟩
  ·exact⟨some a,c,by rw[h1,b],by omega⟩
  ·exact⟨some a,c,by rw[h1,b,h2];rfl,by rw[b,h2];exact Int.natCast_nonneg _⟩
 have P:(n:Int)<=9223372036854775807:=by
  rcases h with⟨h1,h2⟩|⟨a,c,h1,_,_,h4,U⟩|⟨a,c,h1,h2⟩
  ·rw[b,h2];decide
  ·unfold maxLen at U;omega
  ·rw[b,h2];decide
 have H:=h_ h;have N:=h_ b;have HV:=h_ hv;subst hv;clear h b;go_enter func5,ntmps5;go_wp2;go_loopw [6,5] (λi u wr=>∃k:Nat,i=.int .i64 k/\k<=n/\k<=100/\(∃pa pn pc,u=.slice pa pn pc)/\Hid (Below w.heap.size w wr)/\Hid (OwnB wr w.heap.size u ((l.take k).map adjC))) (λi _ _=>100-(intOf i).toNat)
 case atStart=>exact⟨0,rfl,n3 _,n3 _,⟨_,_,_,rfl⟩,h_ (z_ _ _),h_ (OwnB.nil _ _)⟩
 case round=>
  obtain⟨k,rfl,hk,R,⟨pa,pn,pc,rfl⟩,o,M⟩:=hrel;by_cases hlt:k<n/\k<100
  ·have aM:(k:Int)<n:=by omega
   have Z:(k:Int)<100:=by omega
   have f:k<l.length:=by rw[<-N.out];exact hlt.1
   obtain⟨a,X,G,B⟩:∃a,va=some a/\SlB w a l/\a.block<w.heap.size:=by
    rcases H.out with⟨_,h2⟩|⟨a,c,h1,h2,h3,_⟩|⟨_,_,_,h2⟩
    ·rw[h2]at f;simp at f
    ·exact⟨a,by grind,h2,h3⟩
    ·rw[h2]at f;simp at f
   subst X;have x:=(o.cell (p:=a.add k) (by rw[xY];exact B)).trans (G.cell k _ (U_ f));have J:Hid (l.take (k+1)=l.take k++[l[k]]):=h_ (d0 f);generalize l[k]=c at x J;obtain⟨dn,g⟩:∃dn,dn=(adjC c).toNat:=⟨_,rfl⟩;have q:(dn:Int)<=255:=by rw[g];have:=(adjC c).toNat_lt;omega
   have y:Below wr.heap.size wr (wr.alloc (.cells #[.int .u8 dn] 5)):=by grind
   have K:SlB (wr.alloc (.cells #[.int .u8 dn] 5)) ⟨wr.heap.size,0,none⟩ [adjC c]:=by rw[g];exact vX wr 5 [adjC c]
   have t:=h_ (M.below y);have F:=h_ K;have m:Hid (Below w.heap.size w (wr.alloc (.cells #[.int .u8 dn] 5))):=h_ (o.trans (y.mono o.size));have C:Hid (w.heap.size<=(wr.alloc (.cells #[.int .u8 dn] 5)).heap.size):=h_ m.size;have I:Hid (((l.take k).map adjC).length+[adjC c].length<=1000000000000):=h_ (by rw[M5];have:=bU_ k l;simp;omega);obtain⟨cn,d⟩:∃cn,cn=c.toNat:=⟨_,rfl⟩;rw[<-d]at x;have QY:(cn:Int)<=255:=by rw[d];have:=c.toNat_lt;omega
   have W:(cn%3=2/\cn=dn+1)\/(cn%3≠2/\dn=cn):=by
    rw[g,d];unfold adjC;split
    ·rename_i h3;have:(c-1).toNat=c.toNat-1:=by rw[UInt8.toNat_sub_of_le _ _ (by rw[UInt8.le_iff_toNat_le];show 1<=c.toNat;omega)];rfl
     exact .inl ⟨h3,by omega⟩
    ·rename_i h3;exact .inr ⟨h3,rfl⟩
   have L:k+1<=n/\k+1<=100:=⟨by omega,by omega⟩;clear f G B g y K d hlt;rcases W with⟨h3,h4⟩|⟨h3,h4⟩
   case' inl=>
    have Y:(cn:Int)%3=2:=by omega
    have aV:(cn:Int)-1=(dn:Int):=by omega
    have Yz:(1:Int)<=(cn:Int):=by omega
    clear h3 h4
   case' inr=>
    have Y:((cn:Int)%3==2)=false:=by simp;omega
    subst h4;clear h3
   all_goals
    go_wp2_with (at_builtin;refine zQ rfl (.tmp 28) (.tmp 30) rfl w.heap.size _ ((l.take k).map adjC) rfl t.out ⟨wr.heap.size,0,none⟩ [adjC c] 1 rfl F.out I.out C.out ?_);intro v' w' s D _ _;obtain⟨a',n',c',V⟩:=uT s;have A:Hid (Below w.heap.size w w'):=h_ (m.grown D m.size (λj S=>(t.lt S).1));have z:Hid (OwnB w' w.heap.size v' ((l.take (k+1)).map adjC)):=h_ (by rw[J.out,L8,aI_];exact s);subst V;clear s D t F m C I x;go_wp2;go_roundw
    case rel=>exact⟨k+1,by go_num,L.1,L.2,⟨_,_,_,rfl⟩,A,z⟩
    case measure=>simp[intOf];omega
  ·have E:l.take k=l.take 100:=by
    by_cases h9:k<n
    ·rw[show k=100 by omega]
    ·have h8:=N.out;rw[v6 (by omega),v6 (by omega)]
   have O:Hid (Below w.heap.size w wr/\OwnB wr w.heap.size (.slice pa pn pc) ((l.take 100).map adjC)):=h_ ⟨o.out,by rw[<-E];exact M.out⟩;by_cases h9:k<n
   case' pos=>
    have r:k=100:=by omega
    subst r;have T:((100:Int)<(n:Int)):=by omega
   case' neg=>
    have r:k=n:=by omega
    subst r
   all_goals
    clear hlt E h9;go_wp2;go_ret;exact⟨O.1,_,rfl,O.2⟩
section
def xVd:=lx_ 31
def xRk:=sx_ 31
theorem yJl (w a)(h:xp w a 2=true):yq prog 31 w (.pointer (some a))=.ok (.value (.agg (xo w a 2))) w:=
 yh (by intro w;kernel_rfl) (by intro w;kernel_rfl) w a h
def yJ1:=@yk prog 31 2 (by kernel_rfl)
def xJh:=lx_ 36
def xGo:=sx_ 36
theorem yEs (w a)(h:xp w a 6=true):yq prog 36 w (.pointer (some a))=.ok (.value (.agg (xo w a 6))) w:=
 yh (by intro w;kernel_rfl) (by intro w;kernel_rfl) w a h
def yDf:=@yk prog 36 6 (by kernel_rfl)
def s26 (n:Int):Array Value:=#[.int .i64 n,.slice none 0 0]
def s29 (n:Int):Array Value:=#[.slice none 0 0,.int .i64 0,.int .i64 n,.slice none 0 0,.slice none 0 0,.slice none 0 0]
theorem xRw (ρ:Operand->Value)(d)(ty:TypeId)(pos af g w):
  Sem.run prog (execOp ρ ⟨d,.alloc 31,ty,pos,af,g⟩) w=.ok (.value (.pointer (some ⟨w.heap.size,0,none⟩))) (w.alloc (.cells (s26 0) 31)):=by kernel_rfl
theorem xGs (ρ:Operand->Value)(d)(ty:TypeId)(pos af g w):
  Sem.run prog (execOp ρ ⟨d,.alloc 36,ty,pos,af,g⟩) w=.ok (.value (.pointer (some ⟨w.heap.size,0,none⟩))) (w.alloc (.cells (s29 0) 36)):=by kernel_rfl
theorem xRs (ρ:Operand->Value)(d a)(ty:TypeId)(pos af gd w):
  Sem.run prog (execOp ρ ⟨d,.build 31 #[(0,a)],ty,pos,af,gd⟩) w=zl prog 31 w #[(0,ρ a)]:=by kernel_rfl
theorem yKa (w n):zl prog 31 w #[(0,.int .i64 n)]=.ok (.value (.agg (s26 n))) w:=zo (by kernel_rfl)
theorem xRr (ρ:Operand->Value)(d a)(ty:TypeId)(pos af gd w):
  Sem.run prog (execOp ρ ⟨d,.build 36 #[(2,a)],ty,pos,af,gd⟩) w=zl prog 36 w #[(2,ρ a)]:=by kernel_rfl
theorem yK9 (w n):zl prog 36 w #[(2,.agg (s26 n))]=.ok (.value (.agg (s29 n))) w:=zo (by kernel_rfl)
theorem xV5 (n):xt 2 (s26 n)=true:=by simp[s26,xt,Value.oneCell']
theorem xGk (n):xt 6 (s29 n)=true:=by simp[s29,xt,Value.oneCell']
theorem yE1 {P fn p t0 c t3 ty n}(h:fn.results=#[.tmp t0,.tmp c,.cell p ty,.tmp t3])(f:∀w,Sem.run P (isAgg ty) w=.ok true w)(hs:∀w,Sem.run P (Go.sizeOf ty) w=.ok n w)
  (tmps) (w) (a) (cs) (v0 b v3) (e:tmps.getD p undef=.pointer (some a)) (g:tmps.getD t0 undef=v0) (h1:tmps.getD c undef=b) (h3:tmps.getD t3 undef=v3) (j:xp w a n=true) (i:xo w a n=cs):
  (results fn tmps).run P w=.ok (.tuple #[v0,b,.agg cs,v3]) w:=by
 have d:tmps[p]?.getD undef=.pointer (some a):=by simpa using e
 have l:tmps[t0]?.getD undef=v0:=by simpa using g
 have m:tmps[c]?.getD undef=b:=by simpa using h1
 have k:tmps[t3]?.getD undef=v3:=by simpa using h3
 have hl:(loadVar ty a).run P w=.ok (.agg cs) w:=by
  simp[loadVar,f,hs,yY w a n j,i]
 simp[results,h,d,l,m,k,asAddr,hl]
attribute [local go_sem ↓] xVd xRk xJh xGo xRw xGs xRs xRr
attribute [local go_sem] yJl yJ1 yEs yDf yKa yK9 xV5 xGk zr zx yA yz xh xg xe xd xx xy xk xj xq xB xw
theorem xXf (w):Calls prog 50 #[.int .i64 2000] w λe w'=>Below w.heap.size w w'/\e=.returned (.tuple #[.agg (s26 2000),.int .i64 0]):=by
 obtain⟨a,g⟩:∃a,a=w.alloc (.cells (s26 0) 31):=⟨_,rfl⟩;have b:a.heap[w.heap.size]?=some (.cells (s26 0) 31 (0,0)):=by grind
 have h:Below w.heap.size w a:=by grind
 have i:xN a w.heap.size 2=true:=za b rfl;obtain⟨f,d⟩:=xF (n:=2) (setRow_heap a w.heap.size _ (s26 2000) _ _ b) rfl;have c:=h_ (And.intro (xH h (w_ _) (s26 2000)) (And.intro f d));clear b h f d;go_enter func50,ntmps50;go_upto_region 1 with fail
 refine xm g ?_;clear g;go_wp2;exact bodyPost_ret (v:=.tuple #[.agg (s26 2000),.int .i64 0]) (uR rfl (by intro w;kernel_rfl) (by intro w;kernel_rfl) _ _ ⟨w.heap.size,0,none⟩ _ _ rfl rfl c.2.1 c.2.2) rfl ⟨c.1,rfl⟩
theorem xXe (w):Calls prog 24 #[.int .i64 2000] w λe w'=>Below w.heap.size w w'/\e=.returned (.tuple #[.agg (s29 2000),.int .i64 0]):=by
 obtain⟨b,s⟩:∃b,b=w.alloc (.cells (s29 0) 36):=⟨_,rfl⟩;have u:b.heap[w.heap.size]?=some (.cells (s29 0) 36 (0,0)):=by grind
 have t:Below w.heap.size w b:=by grind
 have o:=h_ u;have f:=h_ t;clear u t;go_enter func24,ntmps24;go_upto_region 1 with fail
 refine xm s ?_;clear s;go_wp2_with fail;refine(xXf b).mono ?_;rintro e d ⟨c,rfl⟩;obtain⟨g,m⟩:∃g,g=d.heap.size:=⟨_,rfl⟩;obtain⟨a,q⟩:∃a,a=d.alloc (.cells (s26 2000) 31):=⟨_,rfl⟩;have h:Below d.heap.size d a:=by grind
 have r:a.heap[g]?=some (.cells (s26 2000) 31 (0,0)):=by grind
 obtain⟨o3,x⟩:=xF (n:=2) r rfl;have hl:=(i_ o.out).1;have i:=(h.block _ (b7 hl c.size)).trans ((c.block _ hl).trans o.out);have A:xN a w.heap.size 6=true:=za i rfl;obtain⟨l,k⟩:=xF (n:=6) (setRow_heap a w.heap.size _ (s29 2000) _ _ i) rfl;have p:Below w.heap.size w a:=f.trans ((c.mono f.size).trans (h.mono (R_ f.size c.size)));have j:=h_ (And.intro (xH p (w_ _) (s29 2000)) (And.intro l k));have z:((s26 0).size==2)=true:=rfl;have y:=xV5 2000;clear c h r hl i l k p;go_upto_region 2 with fail
 refine xm q ?_;rw[<-m];clear q m;go_wp2;exact bodyPost_ret (v:=.tuple #[.agg (s29 2000),.int .i64 0]) (uR rfl (by intro w;kernel_rfl) (by intro w;kernel_rfl) _ _ ⟨w.heap.size,0,none⟩ _ _ rfl rfl j.2.1 j.2.2) rfl ⟨j.1,rfl⟩
theorem StOk.low {D sb p n q U R E c F}{w w':World}(h:StOk D w sb p n q U R E c F){G}(f:Kept G w w')(i:∀k∈G,k<D):StOk D w' sb p n q U R E c F:=by
 obtain⟨b,v,d,j,ev,sy,x,B,T,h1,h2,h3,h4,s,r,o,m,l,a⟩:=h
 exact⟨b,v,d,j,ev,sy,x,B,T,h1.kept f (λk t=>by
  have h3:=i k t;refine⟨λe=>by have:=h1.sbD;omega,λg=>by have:=(h1.jlt k g).1;omega,.inl (by have:=h1.DB;omega)⟩),h2,h3,h4,s,r,o,m,b7 l f.size,a⟩
def RowC (b:Nat)(cs:Array Value)(t:TypeId):Type:={ z:World // z.heap[b]?=some (.cells cs t (0,0)) }
def xPx (D:Nat)(w:World)(e:Ending)(w':World):Prop:=∃D' p sb F,D<=D'/\D'<=w'.heap.size/\e=.returned (.tuple #[.pointer (some ⟨p,0,none⟩),.pointer (some ⟨sb,0,none⟩),.agg (s29 2000),.bool true])/\Below D w w'/\StOk D' w' sb p 640 102 true 0 (ve 2000 []) (qH 2000) F
theorem yBw {w}(X:Gl w):Calls prog 6 #[.int .i64 2000] w (xPx w.heap.size w):=by
 obtain⟨D,K⟩:∃D,D=w.heap.size:=⟨_,rfl⟩;rw[<-K];obtain⟨r,aj⟩:∃r,r=w.alloc (.cells (s29 0) 36):=⟨_,rfl⟩;have aH:r.heap[D]?=some (.cells (s29 0) 36 (0,0)):=by grind
 have aa:Below D w r:=by grind
 have eu:=h_ aH;have aq:=h_ aa;have HG:=h_ X;have J:Hid (prog.globals.size<=D):=h_ (by rw[K];exact X.size);have u:D<r.heap.size:=(i_ aH).1;have be:((s29 0).size==6)=true:=rfl;have db:=xGk 2000;clear aH aa X;go_enter func6,ntmps6;go_upto_region 1 with fail
 refine xm aj ?_;rw[<-K];clear aj K;go_wp2_with fail;refine(xXe r).mono ?_;rintro e G ⟨O,rfl⟩;obtain⟨g,hg⟩:∃g,g=G.heap.size:=⟨_,rfl⟩;obtain⟨d,bQ⟩:∃d,d=G.alloc (.cells (s29 2000) 36):=⟨_,rfl⟩;have ao:Below G.heap.size G d:=by grind
 have Z:d.heap[g]?=some (.cells (s29 2000) 36 (0,0)):=by grind
 have S:=O.trans (ao.mono O.size);have YA:=h_ ((S.block _ u).trans eu.out);have mO:=h_ Z;have aJ:Hid (Below D w d):=h_ (aq.trans (S.mono (T8 u)));have a:Hid (D+1<=g/\g<d.heap.size):=h_ ⟨by have:=O.size;omega,(i_ Z).1⟩;clear O ao Z S;go_upto_region 2 with fail
 refine xm bQ ?_;rw[<-hg];clear bQ hg;go_wp2_with fail;refine(xVr 640 d (by omega)).mono ?_;rintro e Q⟨rfl,m,L⟩;obtain⟨v,hv⟩:∃v,v=xQy d:=⟨_,rfl⟩;obtain⟨p,W⟩:∃p,p=d.heap.size+1:=⟨_,rfl⟩;have U:v.p=p:=by rw[hv,W];rfl
 rw[<-hv]at L;rw[<-W];have Q2:Below D w Q:=aJ.trans (m.mono (by have:=a.out;omega));have T:D<=Q.heap.size:=by have:=m.size;have:=a.out;omega
 have dF:=h_ Q2;have x:∀k∈v.foot,d.heap.size<=k:=λk f=>(L.foot_lt k f).1
 have I:=h_ x;have B:=h_ (xIn L ⟨rfl,rfl⟩ (HG.below Q2 J.out) (by show 64<=640;omega) rfl (λs _=>xJ9 sha 640 s) 2000 (by omega) (by omega) m.size (by have:=J.out;have:=a.out;omega));rw[U,show ((2000:Nat):Int)=2000 from rfl]at B;have He:=h_ ((m.block g a.2).trans mO.out);have tY:=h_ ((m.block D (by have:=a.out;omega)).trans YA.out);have rY:=h_ U;have o:Hid (d.heap.size<=Q.heap.size):=h_ m.size;clear m L hv W U Q2 T x;go_wp2_with fail;refine B.mono ?_;rintro e E ⟨rfl,l,v5,d5,j5,t7,C8,tb,pX,ik,i⟩;have Kn:d5.n=640:=ik;have R:Below D w E:=dF.trans (l.below (by have:=o.out;have:=a.out;omega) (λk f=>by have:=I.out k f;have:=a.out;omega));have T:D<=E.heap.size:=by have:=l.size;have:=o.out;have:=a.out;omega
 have HO:=h_ (xPq.open (w:=E) (D:=d.heap.size) (p:=v5.p) (n:=640) (q:=100) (F:=v5.foot) (nb:=2000) (ops:=[]) (c:=qH 2000) ⟨v5,d5,j5,rfl,tb,Kn,λ_ h=>h,i.up,i.pend,by have:=i.inv.toRec sha yR;rw[Kn]at this;exact this,i.ents,i.gen,i.first⟩ (by omega) (by omega) (by omega) ⟨rfl,λ_ h=>(by cases h),by simp⟩ (by omega) (HG.below R J.out) (R_ o.out l.size) (by have:=J.out;have:=a.out;omega));rw[t7.trans rY.out]at HO;have G1:∀k∈v5.foot,d.heap.size<=k:=λk f=>by
  rcases pX k f with h|h
  ·exact I.out k h
  ·have:=o.out;omega
 have Ju:=h_ G1;have y:g∉v.foot:=λj=>by have:=I.out g j;have:=a.out;omega
 have C:D∉v.foot:=λj=>by have:=I.out D j;have:=a.out;omega
 have HG5:=h_ ((l.block g (by have:=o.out;have:=a.out;omega) y).trans He.out);have q_:=h_ ((l.block D (by have:=o.out;have:=a.out;omega) C).trans tY.out);have bR:=h_ R;have t:Hid (d.heap.size<=E.heap.size):=h_ (R_ o.out l.size);clear l t7 C8 tb pX ik i Kn R T G1 y C B;go_wp2_with fail;refine HO.mono ?_;rintro e b ⟨sb,rfl,bM,N,F6,H,XD⟩;replace H:=H 0 (by have:=t.out;have:=a.out;omega);have y:g∉v5.foot:=λj=>by have:=Ju.out g j;have:=a.out;omega
 have C:D∉v5.foot:=λj=>by have:=Ju.out D j;have:=a.out;omega
 have P:=(N.block g (by have:=t.out;have:=a.out;omega) y).trans HG5.out;have Y:=(N.block D (by have:=t.out;have:=a.out;omega) C).trans q_.out;have aY:xN b.drew D 6=true:=za (w:=b.drew) Y rfl;obtain⟨o7,r7⟩:=xF (n:=6) (setRow_heap b.drew D _ (s29 2000) _ _ Y) rfl;have M:Kept [D] b.drew (b.drew.setRow D (s29 2000)):=jP _ _ _;have V:=N.size;have Re:Below D w b:=bR.trans (bM.mono (by have:=a.out;omega));have rj:D<=b.heap.size:=by have:=t.out;have:=a.out;omega
 have oI:=(H.below (z_ b.heap.size b).drew);have B:Hid (xPx D w (.returned (.tuple #[.pointer (some ⟨p,0,none⟩),.pointer (some ⟨sb,0,none⟩),.agg (s29 2000),.bool true])) (b.drew.setRow D (s29 2000))):=h_ ⟨d.heap.size,p,sb,F6,by have:=a.out;omega,by rw[show (b.drew.setRow D (s29 2000)).heap.size=b.heap.size by simp[World.setRow]];have:=t.out;omega,rfl,Re.drew.trans (M.below rj (λk f=>by rw[S_.1 f];exact w_ _)),oI.low M (λk f=>by rw[S_.1 f];have:=a.out;omega)⟩;have z1:∀z:RowC g (s29 2000) 36,xp z.1 ⟨g,0,none⟩ 6=true:=λz=>(xF (n:=6) z.2 rfl).1
 have z2:∀z:RowC g (s29 2000) 36,xo z.1 ⟨g,0,none⟩ 6=s29 2000:=λz=>(xF (n:=6) z.2 rfl).2
 haveI:Nonempty (RowC g (s29 2000) 36):=⟨⟨b,P⟩⟩
 have YB:=h_ P;have HG7:Hid ((b.drew.setRow D (s29 2000)).heap[g]?=some (.cells (s29 2000) 36 (0,0))):=h_ ((M.block g (by have:=t.out;have:=a.out;show g<b.heap.size;omega) (by simp;have:=a.out;omega)).trans P);have A:=h_ (And.intro o7 r7);clear bM N H XD y C P Y o7 r7 M V Re rj oI HO;go_upto_region 6 with fail
 refine xz [0,1,2,3,4,5,6,7,8] [9,10,11,12] (λw'=>∃z:RowC g (s29 2000) 36,w'=z.1) ⟨⟨b.drew,YB.out⟩,rfl⟩ ?_;simp only[o_]
 repeat (go_big_quiet_step (fail))
 refine wpQuiet_nil ?_;clear z1 z2;refine yo true ?_;simp only[o_];go_wp2;refine⟨λ_=>⟨⟨b.drew,YB.out⟩,rfl⟩,?_⟩;refine yo true ?_;simp only[o_];go_wp2;refine⟨λ_=>⟨⟨b.drew,YB.out⟩,rfl⟩,?_⟩;refine yo true ?_;simp only[o_];go_wp2;refine⟨λ_=>⟨⟨_,HG7.out⟩,rfl⟩,yE ?_⟩;simp only[o_];go_wp2;refine T_ ?_;go_wp2;exact bodyPost_ret (v:=.tuple #[.pointer (some ⟨p,0,none⟩),.pointer (some ⟨sb,0,none⟩),.agg (s29 2000),.bool true]) (yE1 rfl (by intro w;kernel_rfl) (by intro w;kernel_rfl) _ _ ⟨D,0,none⟩ _ _ _ _ rfl rfl rfl rfl A.1 A.2) rfl B.out
end
def cutS (k:Int)(s:ByteArray):ByteArray:=s.extract 0 (min (s.size:Int) k).toNat
theorem xEb (k:Int)(s:ByteArray):(cutS k s).size<=k.toNat:=by
 unfold cutS;rw[ByteArray.size_extract];omega
structure xH7 (w:World)(A:Art)(gs:List ByteArray)(ids:List Id32):Prop where
 groups:∃a c,A.groups=.slice a gs.length c/\gs.length<=c/\(gs≠[]->∃b off,a=some ⟨b,off,none⟩/\b<w.heap.size/\uk w b off gs)
 refs:∃a c,A.refs=.slice a ids.length c/\ids.length<=c/\(ids≠[]->∃b off,a=some ⟨b,off,none⟩/\b<w.heap.size/\xBm w b off ids)
 lg:gs.length<=140737488355328
 lr:ids.length<=140737488355328
def artQ (A:Art)(gs:List ByteArray)(ids:List Id32):PArt:=⟨A.id,cutS 300 A.text,cutS 100 A.name,A.date,A.arr,(gs.take 22).map (cutS 90),cutS 250 A.subj,ids.take 22,A.perm⟩
theorem yCl (A gs ids):(artQ A gs ids).Fits:=by
 refine⟨?_,?_,?_,?_,?_,?_⟩
 ·exact R_ (xEb 300 _) (by decide)
 ·exact R_ (xEb 100 _) (by decide)
 ·exact R_ (xEb 250 _) (by decide)
 ·show ((gs.take 22).map (cutS 90)).length<=22
  rw[M5,x8];omega
 ·intro g a;obtain⟨s,_,rfl⟩:=D4.1 a;exact R_ (xEb 90 s) (by decide)
 ·show (ids.take 22).length<=22
  rw[x8];omega
theorem qj {w w':World}{B t s n v xs row}(h:w.ownsRow B t s v n xs)(c:w.grownBy w' row)(a:∀k,v.ownBlock=some k->row≠some k):w'.ownsRow B t s v n xs:=by
 refine⟨h.1,?_⟩;rcases h.2 with e|⟨g,cap,cur,hv,d,b,rr⟩
 ·exact .inl e
 ·exact .inr ⟨g,cap,cur,hv,d,(c.block g (i_ b).1 (bX_ (a g (by rw[hv];rfl)))).trans b,rr⟩
theorem qp {w:World}{B t s n v xs B' t' s' n' v' xs'}(h:w.ownsRow B t s v n xs)(b:w.ownsRow B' t' s' v' n' xs')(ht:t'≠t){k}(e:v.ownBlock=some k):v'.ownBlock≠some k:=by
 obtain⟨cur,a⟩:=xS h e;exact vf b a (λcs e=>ht (by simp at e;exact e.2.symm))
structure AsS (w5:World)(p3 p4:Nat)(X Y:Art)(g1 g2 r1 r2:Value)(l1 l2:List ByteArray)(m1 m2:List Id32)(W:World):Prop where
 kept:Kept [p3,p4] w5 W
 hx:W.heap[p3]?=some (.cells (xA X) 49 (0,0))
 hy:W.heap[p4]?=some (.cells (xA Y) 46 (0,0))
 o1:W.ownsRow w5.heap.size 9 1 g1 l1.length (l1.map Value.string)
 o2:W.ownsRow w5.heap.size 9 1 g2 l2.length (l2.map Value.string)
 o3:W.ownsRow w5.heap.size 41 32 r1 m1.length (zH m1)
 o4:W.ownsRow w5.heap.size 42 32 r2 m2.length (zH m2)
 dis:∀k,g1.ownBlock=some k->g2.ownBlock≠some k
section
variable {w5 W W':World} {p3 p4:Nat} {X Y X':Art} {g1 g2 r1 r2 v:Value} {l1 l2:List ByteArray} {m1 m2:List Id32}
theorem AsS.below (h:AsS w5 p3 p4 X Y g1 g2 r1 r2 l1 l2 m1 m2 W)(a:Below W.heap.size W W'):AsS w5 p3 p4 X Y g1 g2 r1 r2 l1 l2 m1 m2 W':=
 ⟨h.kept.trans (Kept.of_below (F:=[]) a) (λ_ h=>by cases h),(a.block _ (i_ h.hx).1).trans h.hx,(a.block _ (i_ h.hy).1).trans h.hy,
  uo h.o1 a,uo h.o2 a,uo h.o3 a,uo h.o4 a,h.dis⟩
theorem AsS.alloc (h:AsS w5 p3 p4 X Y g1 g2 r1 r2 l1 l2 m1 m2 W)(o):AsS w5 p3 p4 X Y g1 g2 r1 r2 l1 l2 m1 m2 (W.alloc o):=h.below ((z_ _ _).alloc (w_ _) _)
theorem xBw {c W W':World}{F B t s n u xs}(a:Kept F c W)(ho:W.ownsRow B t s u n xs)(d:c.heap.size<=B)(b:W.grownBy W' u.ownBlock):Kept F c W':=
 ⟨b.os.trans a.os,b.tape.trans a.tape,b.output.trans a.output,R_ a.size b.size,λk h1 h2=>(b.block k (b7 h1 a.size) (λe=>by have:=(ho.lt k e.symm).1;omega)).trans (a.block k h1 h2)⟩
theorem vH {W W':World}{B t s n u xs}{p:Nat}{cs:Array Value}{T:TypeId}(a:W.heap[p]?=some (.cells cs T (0,0)))(ho:W.ownsRow B t s u n xs)(c:T≠t)(b:W.grownBy W' u.ownBlock):W'.heap[p]?=some (.cells cs T (0,0)):=
 (b.block p (i_ a).1 (bX_ (vf ho a (λcs e=>c (by simp at e;exact e.2))))).trans a
theorem AsS.ag1 (h:AsS w5 p3 p4 X Y g1 g2 r1 r2 l1 l2 m1 m2 W){s}(ho:W'.ownsRow w5.heap.size 9 1 v (l1.length+1) (l1.map Value.string++[.string s]))(a:W.grownBy W' g1.ownBlock)(c:v.ownBlock=g1.ownBlock\/v.ownBlock=some W.heap.size):
  AsS w5 p3 p4 X Y v g2 r1 r2 (l1++[s]) l2 m1 m2 W':=
 ⟨xBw h.kept h.o1 (w_ _) a,vH h.hx h.o1 (by decide) a,vH h.hy h.o1 (by decide) a,by rw[b6,L8];exact ho,
  qj h.o2 a (λk e e'=>h.dis k e' e),qj h.o3 a (λk e=>qp h.o3 h.o1 (by decide) e),qj h.o4 a (λk e=>qp h.o4 h.o1 (by decide) e),λk e=>by
   rcases c with h1|h1
   ·exact h.dis k (h1.symm.trans e)
   ·intro b;have:=(h.o2.lt k b).2;rw[h1]at e;cases e;exact W9 _ this⟩
theorem AsS.ag2 (h:AsS w5 p3 p4 X Y g1 g2 r1 r2 l1 l2 m1 m2 W){s}(ho:W'.ownsRow w5.heap.size 9 1 v (l2.length+1) (l2.map Value.string++[.string s]))(a:W.grownBy W' g2.ownBlock)(c:v.ownBlock=g2.ownBlock\/v.ownBlock=some W.heap.size):
  AsS w5 p3 p4 X Y g1 v r1 r2 l1 (l2++[s]) m1 m2 W':=
 ⟨xBw h.kept h.o2 (w_ _) a,vH h.hx h.o2 (by decide) a,vH h.hy h.o2 (by decide) a,qj h.o1 a (λk e=>h.dis k e),by rw[b6,L8];exact ho,
  qj h.o3 a (λk e=>qp h.o3 h.o2 (by decide) e),qj h.o4 a (λk e=>qp h.o4 h.o2 (by decide) e),λk e=>by
   rcases c with h1|h1
   ·rw[h1];exact h.dis k e
   ·rw[h1];intro b;have:=(h.o1.lt k e).2;cases b;exact W9 _ this⟩
theorem AsS.ar1 (h:AsS w5 p3 p4 X Y g1 g2 r1 r2 l1 l2 m1 m2 W){s}(ho:W'.ownsRow w5.heap.size 41 32 v (m1.length+1) (zH m1++xl s))(a:W.grownBy W' r1.ownBlock):AsS w5 p3 p4 X Y g1 g2 v r2 l1 l2 (m1++[s]) m2 W':=
 ⟨xBw h.kept h.o3 (w_ _) a,vH h.hx h.o3 (by decide) a,vH h.hy h.o3 (by decide) a,qj h.o1 a (λk e=>qp h.o1 h.o3 (by decide) e),qj h.o2 a (λk e=>qp h.o2 h.o3 (by decide) e),
  by rw[b6,show zH (m1++[s])=zH m1++xl s by simp[zH]];exact ho,qj h.o4 a (λk e=>qp h.o4 h.o3 (by decide) e),h.dis⟩
theorem AsS.ar2 (h:AsS w5 p3 p4 X Y g1 g2 r1 r2 l1 l2 m1 m2 W){s}(ho:W'.ownsRow w5.heap.size 42 32 v (m2.length+1) (zH m2++xl s))(a:W.grownBy W' r2.ownBlock):AsS w5 p3 p4 X Y g1 g2 r1 v l1 l2 m1 (m2++[s]) W':=
 ⟨xBw h.kept h.o4 (w_ _) a,vH h.hx h.o4 (by decide) a,vH h.hy h.o4 (by decide) a,qj h.o1 a (λk e=>qp h.o1 h.o4 (by decide) e),qj h.o2 a (λk e=>qp h.o2 h.o4 (by decide) e),
  qj h.o3 a (λk e=>qp h.o3 h.o4 (by decide) e),by rw[b6,show zH (m2++[s])=zH m2++xl s by simp[zH]];exact ho,h.dis⟩
theorem AsS.setX (h:AsS w5 p3 p4 X Y g1 g2 r1 r2 l1 l2 m1 m2 W)(d:p3≠p4){j u}(f:(xA X).setIfInBounds j u=xA X'):AsS w5 p3 p4 X' Y g1 g2 r1 r2 l1 l2 m1 m2 (W.setCell ⟨p3,j,none⟩ u):=by
 have a:=yW W ⟨p3,j,none⟩ u;have b:∀{t s n v} {xs:List Value},W.ownsRow w5.heap.size t s v n xs->49≠t->∀k∈[p3],v.ownBlock≠some k:=λho g k c=>by
  rw[S_.1 c];exact vf ho h.hx (λcs e=>g (by simp at e;exact e.2))
 refine⟨h.kept.trans a (λk c=>.inl (by simp at c;simp[c])),by rw[<-f];exact ux h.hx j u,(a.block p4 (i_ h.hy).1 (by simpa using bX_ d)).trans h.hy,
  yf h.o1 a (b h.o1 (by decide)),yf h.o2 a (b h.o2 (by decide)),yf h.o3 a (b h.o3 (by decide)),yf h.o4 a (b h.o4 (by decide)),h.dis⟩
theorem AsS.setY (h:AsS w5 p3 p4 X Y g1 g2 r1 r2 l1 l2 m1 m2 W)(d:p3≠p4){j u}(f:(xA Y).setIfInBounds j u=xA X'):AsS w5 p3 p4 X X' g1 g2 r1 r2 l1 l2 m1 m2 (W.setCell ⟨p4,j,none⟩ u):=by
 have a:=yW W ⟨p4,j,none⟩ u;have b:∀{t s n v} {xs:List Value},W.ownsRow w5.heap.size t s v n xs->46≠t->∀k∈[p4],v.ownBlock≠some k:=λho g k c=>by
  rw[S_.1 c];exact vf ho h.hy (λcs e=>g (by simp at e;exact e.2))
 refine⟨h.kept.trans a (λk c=>.inl (by simp at c;simp[c])),(a.block p3 (i_ h.hx).1 (by simpa using d)).trans h.hx,by rw[<-f];exact ux h.hy j u,
  yf h.o1 a (b h.o1 (by decide)),yf h.o2 a (b h.o2 (by decide)),yf h.o3 a (b h.o3 (by decide)),yf h.o4 a (b h.o4 (by decide)),h.dis⟩
end
theorem AsS.ced36 {c W:World}{b a}{X Y:Art}{g1 k e d j i g f}(h:AsS c b a X Y g1 k e d j i g f W):W.cell? ⟨b,36,none⟩=some X.groups/\W.cell? ⟨a,36,none⟩=some Y.groups:=
 ⟨(cell_of_row W b 36 _ _ _ h.hx).trans (ar36 _),(cell_of_row W a 36 _ _ _ h.hy).trans (ar36 _)⟩
theorem AsS.ced38 {c W:World}{b a}{X Y:Art}{g1 k e d j i g f}(h:AsS c b a X Y g1 k e d j i g f W):W.cell? ⟨b,38,none⟩=some X.refs/\W.cell? ⟨a,38,none⟩=some Y.refs:=
 ⟨(cell_of_row W b 38 _ _ _ h.hx).trans (ar38 _),(cell_of_row W a 38 _ _ _ h.hy).trans (ar38 _)⟩
theorem Tryz.info_b32:(prog.info? 41).map (λi=>(i.zero,i.size,i.bytes))=some (some (.agg (xl yI).toArray),32,32):=by kernel_rfl
structure ElS (W:World)(u1 u2:Value)(e:Nat)(cs:Array Value)(T:TypeId):Prop where
 row:W.heap[e]?=some (.cells cs T (0,0))
 n1:u1.ownBlock≠some e
 n2:u2.ownBlock≠some e
theorem ElS.new {W:World}{B B' t t' s s' n n' u1 u2 xs xs'}(h1:W.ownsRow B t s u1 n xs)(h2:W.ownsRow B' t' s' u2 n' xs')(cs T):ElS (W.alloc (.cells cs T)) u1 u2 W.heap.size cs T:=
 ⟨heap_alloc_new W _,λe=>W9 _ (h1.lt _ e).2,λe=>W9 _ (h2.lt _ e).2⟩
theorem ElS.alloc {W:World}{u1 u2 e cs T}(h:ElS W u1 u2 e cs T)(o):ElS (W.alloc o) u1 u2 e cs T:=
 ⟨(((z_ _ _).alloc (w_ _) _:Below W.heap.size W (W.alloc o)).block e (i_ h.row).1).trans h.row,h.n1,h.n2⟩
theorem ElS.grow1 {W W':World}{u1 u2 e cs T}{v:Value}(h:ElS W u1 u2 e cs T)(a:W.grownBy W' u1.ownBlock)(c:v.ownBlock=u1.ownBlock\/v.ownBlock=some W.heap.size):ElS W' v u2 e cs T:=
 ⟨(a.block e (i_ h.row).1 (bX_ h.n1)).trans h.row,by
  rcases c with h1|h1
  ·rw[h1];exact h.n1
  ·rw[h1];intro b;cases b;exact W9 _ (i_ h.row).1,h.n2⟩
theorem ElS.cells {W:World}{u1 u2 e T}{l:List Value}(h:ElS W u1 u2 e l.toArray T):∀j u,l[j]?=some u->W.cell? ((⟨e,0,none⟩:Addr).add j)=some u:=λj u a=>by
 rw[l8,m0];refine(cell_of_row W e j _ _ _ h.row).trans ?_;rw[l7];exact a
def CeT (a b:Addr)(u v:Value):Type:={ z:World // z.cell? a=some u/\z.cell? b=some v }
def CeU (a b c i:Addr)(u v x:Value)(id:Id32):Type:={ z:World // z.cell? a=some u/\z.cell? b=some v/\z.cell? c=some x/\xp z i 32=true/\xo z i 32=(xl id).toArray }
theorem uW {P}{ops:Array Oper}{rest:List Oper}{o:Oper}{a:Act}{Q:Exit->Act->World->Prop}{W:World}{T e:TypeId}{i:TypeInfo}{z:Value}{size bytes:Nat}(d:P.underlying T=some (.slice e)/\P.info? e=some i/\i.zero=some z/\i.size=size/\i.bytes=bytes/\z.cells.size=size/\0<size/\bytes<=32)
  {B v n xs} (r:W.ownsRow B e size v n xs) (t:n<=22) (j:B<=W.heap.size) {u1 u2 eb} {news:List Value} (g:ElS W u1 u2 eb news.toArray e) (hl:news.length=size/\∀u∈news,u.oneCell'=true) {s x} (b:o.guard=none) (ho:o.op=.call { callee:=.builtin .append,args:=#[s,x],argTypes:=#[T,T] }) (hs:a.eval s=v) (hx:a.eval x=.slice (some ⟨eb,0,none⟩) 1 1)
  (h:∀pa pn pc w',w'.ownsRow B e size (.slice pa pn pc) (n+1) (xs++news)->W.grownBy w' v.ownBlock->((Value.slice pa pn pc).ownBlock=v.ownBlock\/(Value.slice pa pn pc).ownBlock=some W.heap.size)->wpList P ops Q rest (a.put o.dst (.slice pa pn pc)) w'):wpList P ops Q (o :: rest) a W:=by
 obtain⟨h1,h2,h3,h4,p,m,l,k⟩:=d;refine wpList_append_own_at W b s x T ho B e i z size bytes h1 h2 h3 h4 p m l v n xs hs r ⟨eb,0,none⟩ 1 1 news hx (by rw[hl.1,Nat.one_mul]) g.cells hl.2 (by unfold maxLen;omega) (R_ (Nat.mul_le_mul (by omega) k) (by decide:23*32<=140737488355328)) j λv' w' c f _ q=>?_
 obtain⟨pa,pn,pc,rfl⟩:=zd c;exact h pa pn pc w' c f q
end Go.Proofs.YtdhapkeimaljfaaGreatDoor
