/- Parts of the proofs about bulletinlaw29: Tab6, Tab7, Tab8, CloneIdx, Sto1, Sto2, Sto3, Sto4, Sto5, Sto6, Sto7, Sto8, Sto10, Sto11, Sto14, Sto15, Pur1, Sto16, Sto17, Sto18. -/
import Derived.Test.YtdhapkeimaljfaaGreatDoorRL1
import Derived.Test.YtdhapkeimaljfaaGreatDoorRL2
import Derived.Test.YtdhapkeimaljfaaGreatDoorRL3
import Derived.Test.YtdhapkeimaljfaaGreatDoorRL4
import Derived.Lib.AppendStr
import Derived.Lib.ConvBytes
set_option maxRecDepth 100000
set_option linter.all false
set_option maxHeartbeats 8000000
namespace Go.Proofs.YtdhapkeimaljfaaGreatDoor
open Go Go.RowKit Go.Proofs Tryz
def X4:=@Array.getElem?_setIfInBounds_ne
section
attribute [local go_sem ↓] xAe kj km xVe xRl qG qU
attribute [local go_sem] xR6 xQa yJm yJ3 xHw xHh zr zx yA yz xh xg xe xd xx xy xk xj xq xB xw
def inI (n:Int)(x:Int×Int):Bool:=decide (x.1<=n)&&decide (n<=x.2)
theorem yCr (n a b:Int)(bx w)(hx:w.cell? ⟨bx,0,none⟩=some (.int .i64 n)):Calls prog 340 #[.agg #[.int .i64 a,.int .i64 b],.pointer (some ⟨bx,0,none⟩)] w λe w'=>e=.returned (.bool (inI n (a,b)))/\Below w.heap.size w w':=by
 obtain⟨c,d⟩:∃c,c=w.alloc (.cells #[.int .i64 a,.int .i64 b] 268):=⟨_,rfl⟩;have h:Below w.heap.size w c:=by grind
 have f:c.heap[w.heap.size]?=some (.cells #[.int .i64 a,.int .i64 b] 268 (0,0)):=by grind
 have j:=cell_of_row c w.heap.size 0 _ _ _ f;have i:=cell_of_row c w.heap.size 1 _ _ _ f;simp only[v_]at j i;have k:c.cell? ⟨bx,0,none⟩=some (.int .i64 n):=by grind
 have g:=h_ h;clear h f hx;unfold inI;by_cases h1:a<=n
 ·by_cases h2:n<=b
  ·rw[decide_eq_true h1,decide_eq_true h2];go_enter func340,ntmps340;go_upto_region 1 with fail
   refine xm d ?_;clear d;go_wp2;go_ret;exact⟨rfl,g.out⟩
  ·rw[decide_eq_true h1,decide_eq_false h2];go_enter func340,ntmps340;go_upto_region 1 with fail
   refine xm d ?_;clear d;go_wp2;go_ret;exact⟨rfl,g.out⟩
 ·rw[decide_eq_false h1,Bool.false_and];go_enter func340,ntmps340;go_upto_region 1 with fail
  refine xm d ?_;clear d;go_wp2;go_ret;exact⟨rfl,g.out⟩
theorem zU.rd {B w u l}(h:zU B w u l){k}(d:k<l.length):∃g cap,u=.slice (some ⟨g,0,none⟩) l.length cap/\l.length<=cap/\cap<=maxLen/\g<w.heap.size/\xp w ⟨g,k*2,none⟩ 2=true/\xo w ⟨g,k*2,none⟩ 2=#[.int .i64 l[k].1,.int .i64 l[k].2]:=by
 rcases jt h with⟨_,e⟩|⟨g,cap,cur,rfl,_,h1,h2,h3,_,_,c⟩
 ·omega
 ·obtain⟨i,f⟩:=xBx l k _ (U_ d)
  have:=yl (w:=w) (a:=⟨g,k*2,none⟩) (cs:=[.int .i64 l[k].1,.int .i64 l[k].2]) (λj v b=>by
   rw[l8]
   match j,b with
   |0,b=>simp at b;subst b;exact c _ _ i
   |1,b=>simp at b;subst b;exact c _ _ f)
  grind
theorem zU.below {B w w' u l}(h:zU B w u l)(a:Below w.heap.size w w'):zU B w' u l:=yf h (Kept.of_below (F:=[]) a) (λ_ h=>by cases h)
theorem xYt {B w u l}(h:zU B w u l)(hl:l.length<=1000000)(n:Int)(bx)(hx:w.cell? ⟨bx,0,none⟩=some (.int .i64 n)):
  Calls prog 342 #[u,.func (.func 340) #[] #[.pointer (some ⟨bx,0,none⟩)]] w λe w'=>Below w.heap.size w w'/\∃i:Int,e=.returned (.int .i64 i)/\decide (0<=i)=l.any (inI n):=by
 obtain⟨ua,uc,b⟩:=j3 h;obtain⟨m,c⟩:∃m,m=l.length:=⟨_,rfl⟩;rw[<-c]at b hl;have I:(m:Int)<=1000000:=by omega
 have H:=h_ h;have r:=h_ hx;have E:=h_ c;clear h hx c;subst b;go_enter func342,ntmps342;go_wp2;go_loopw [8] (λi wr=>∃k:Nat,i=.int .i64 k/\k<=m/\Hid (Below w.heap.size w wr)/\Hid ((l.take k).any (inI n)=false)) (λi _=>m-(intOf i).toNat)
 case atStart=>exact⟨0,rfl,n3 _,h_ (z_ _ _),h_ (by simp)⟩
 case round=>
  obtain⟨k,rfl,J,a,v⟩:=hrel;by_cases hlt:k<m
  ·have K:(k:Int)<(m:Int):=by omega
   have q:k<l.length:=by grind
   obtain⟨g,cap,b,z,_,y,F,f⟩:=(H.below a.out).rd q;have t:=h_ (yCr n l[k].1 l[k].2 bx wr ((a.cell (p:=⟨bx,0,none⟩) (block_lt_of_cell r.out)).trans r.out));have s:=h_ (d0 q);have A:ua=some ⟨g,0,none⟩:=by grind
   have L:(m:Int)<=uc:=by grind
   subst A;obtain⟨x,hx⟩:∃x,x=l[k]:=⟨_,rfl⟩;rw[<-hx]at f t s;have C:=h_ hx;clear b z y hx;go_wp2_with fail;refine t.mono ?_;rintro e G ⟨rfl,o⟩;have j:=h_ (a.trans (o.mono a.size));clear o F f;cases hin:inI n (x.1,x.2) with
   |true=>
    have d:Hid (decide ((0:Int)<=(k:Int))=l.any (inI n)):=h_ (by
     have:l.any (inI n)=true:=by grind
     rw[this];simp)
    go_wp2;go_ret;exact⟨j.out,k,rfl,d.out⟩
   |false=>
    have D:Hid ((l.take (k+1)).any (inI n)=false):=h_ (by rw[s.out,co_,v.out];simpa using hin);go_wp2;go_roundw
    case rel=>exact⟨k+1,by go_num,hlt,j,D⟩
    case measure=>simp[intOf];omega
  ·obtain rfl:k=m:=by omega
   have d:Hid (decide ((0:Int)<=(-1:Int))=l.any (inI n)):=h_ (by
    have:=v.out;rw[E.out,X3]at this;rw[this];rfl)
   go_wp2;go_ret;exact⟨a.out,-1,rfl,d.out⟩
theorem yGd {B w u l}(h:zU B w u l)(hl:l.length<=1000000)(b:Int)(cl:Bool)(n:Int):
  Calls prog 336 #[.agg (xT b cl u),.int .i64 n] w λe w'=>e=.returned (.bool (l.any (inI n)))/\Below w.heap.size w w':=by
 obtain⟨a,f⟩:∃a,a=(w.alloc (.cells (xT b cl u) 256)).alloc (.cells #[.int .i64 n] 3):=⟨_,rfl⟩;have g:Below w.heap.size w a:=by grind
 have m:a.heap[w.heap.size]?=some (.cells (xT b cl u) 256 (0,0)):=by grind
 have o:a.heap[w.heap.size+1]?=some (.cells #[.int .i64 n] 3 (0,0)):=by grind
 have j:=cell_of_row a w.heap.size 2 _ _ _ m;have d:=cell_of_row a (w.heap.size+1) 0 _ _ _ o;simp only[xT,v_]at j d;have p:=h_ (xYt (h.below g) hl n (w.heap.size+1) d);have q:=h_ g
 have t:Hid (Calls prog 339 #[u,.func (.func 340) #[] #[.pointer (some ⟨w.heap.size+1,0,none⟩)]] a λe w'=>e=.returned (.bool (l.any (inI n)))/\Below a.heap.size a w'):=h_ (by
  clear j d m o g h f;go_enter func339,ntmps339;go_wp2_with fail;refine p.mono ?_;rintro e r ⟨c,i,rfl,b⟩;have k:=h_ c;have s:=h_ b;clear c b;go_wp2;go_ret;exact⟨by rw[<-s.out];rfl,k.out⟩)
 clear g m o h d p;unfold xT at f⊢;go_enter func336,ntmps336;go_upto_region 1 with fail
 refine xm f ?_;clear f;go_wp2_with fail;refine t.mono ?_;rintro e r ⟨rfl,c⟩;have k:=h_ (q.trans (c.mono q.size));clear c j;go_wp2;go_ret;exact⟨rfl,k.out⟩
def jQ (a b:Int):List (Int×Int):=if a<=b then [(a,b)]else []
def cutI (n:Int)(l:List (Int×Int)):List (Int×Int):=l.flatMap λx=>if inI n x then jQ x.1 (n-1)++jQ (n+1) x.2 else jQ x.1 x.2
def xMz (B:Nat)(c:Nat)(u:Value)(l:List (Int×Int))(w:World)(e:Ending)(w':World):Prop:=
 e=.returned (.tuple #[])/\Kept (c :: u.ownBlock.toList) w w'/\∃u',w'.heap[c]?=some (.cells #[u'] 254 (0,0))/\zU B w' u' l
theorem yCq {B w u l}(h:zU B w u l)(hl:l.length<=1000000)(t:B<=w.heap.size)(c)(g:w.heap[c]?=some (.cells #[u] 254 (0,0)))(a b:Int):
  Calls prog 337 #[.int .i64 a,.int .i64 b,.pointer (some ⟨c,0,none⟩)] w (xMz B c u (l++jQ a b) w):=by
 unfold jQ;by_cases hab:a<=b
 ·rw[if_pos hab];obtain⟨F,s,x,C,z⟩:=info_parts Tryz.info_ivl;have n:=h_ (And.intro s (And.intro x (And.intro C z)));have o:Below w.heap.size w (w.alloc (.cells #[.int .i64 a,.int .i64 b] 268)):=by grind
  have D:=heap_alloc_new w (.cells #[.int .i64 a,.int .i64 b] 268);have J:Hid (∀j y,([.int .i64 a,.int .i64 b]:List Value)[j]?=some y->(w.alloc (.cells #[.int .i64 a,.int .i64 b] 268)).cell? ((⟨w.heap.size,0,none⟩:Addr).add j)=some y):=h_ λj y I=>by
   rw[l8,m0,cell_of_row _ w.heap.size j _ _ _ D,l7];exact I
  have p:=h_ (h.below o);have K:=h_ (R_ t o.size);have M:=(i_ g).1;have E:u.ownBlock≠some c:=vf h g (λcs e=>by simp at e);have c0:=cell_of_row w c 0 _ _ _ g;simp only[v_]at c0;obtain⟨ua,uc,r⟩:=j3 h;obtain⟨m,k⟩:∃m,m=l.length:=⟨_,rfl⟩
  have N:Hid (∀u' d,d.ownsRow B 268 2 u' (m+1) (uB l++[.int .i64 a,.int .i64 b])->(w.alloc (.cells #[.int .i64 a,.int .i64 b] 268)).grownBy d u.ownBlock->d.heap[c]?=some (.cells #[u] 254 (0,0))/\xMz B c u (l++[(a,b)]) w (.returned (.tuple #[])) (d.setCell ⟨c,0,none⟩ u')):=h_ (λu' d ho f=>by
   have T:Kept u.ownBlock.toList (w.alloc (.cells #[.int .i64 a,.int .i64 b] 268)) d:=⟨f.os,f.tape,f.output,f.size,λq hq G=>f.block q hq (λe=>G (by rw[<-e];simp))⟩;have H:Kept u.ownBlock.toList w d:=by grind
   have i:=(H.block c M (λk=>E (by simpa using k))).trans g;refine⟨i,rfl,?_,u',by rw[heap_setCell_same d c 0 _ _ _ i];rfl,?_⟩
   ·grind
   ·have v:zU B d u' (l++[(a,b)]):=by
     unfold zU;rw[j4,b6,<-k];exact ho
    exact yf v (xHx d c 0 u') λq hq e=>by
     rw[S_]at hq;subst hq;exact vf v i (λcs e=>by simp at e) e)
  unfold zU at p;rw[<-k]at r hl p;clear h g t s x C z o D k;subst r;go_enter func337,ntmps337;go_wp2_with (at_builtin;refine wpList_append_own_at _ rfl (.tmp 8) (.tmp 12) 254 rfl B 268 F (.agg #[.int .i64 0,.int .i64 0]) 2 16 underlying254 n.1 n.2.1 n.2.2.1 n.2.2.2 rfl (by decide) _ m _ rfl p.out ⟨w.heap.size,0,none⟩ 1 1 [.int .i64 a,.int .i64 b] rfl rfl J.out (by intro y hy;simp at hy;rcases hy with rfl|rfl <;> rfl) (by unfold maxLen;omega) (by omega) K.out ?_);intro u' d ho f _ _;obtain⟨i,A⟩:=N.out u' d ho f;have P:=h_ A;have L:=cell_of_row d c 0 _ _ _ i;have S:=frozen_of_row d c 0 _ _ i;simp only[v_]at L;obtain⟨ua',un',uc',O⟩:=zd ho;subst O;clear ho f A i c0;go_wp2;go_end0;exact P.out
 ·have R:decide (a<=b)=false:=by grind
  rw[if_neg hab,G5];have Q:Hid (xMz B c u l w (.returned (.tuple #[])) w):=h_ ⟨rfl,Kept.of_below (z_ _ _),u,g,h⟩;clear h g;go_enter func337,ntmps337;go_wp2;go_end0;exact Q.out
structure RmSt (w:World)(gb pb lb:Nat)(gc pc:Array Value)(L:List (Int×Int))(W:World):Prop where
 bel:Below w.heap.size w W
 g:W.heap[gb]?=some (.cells gc 256 (0,0))
 p:W.heap[pb]?=some (.cells pc 72 (0,0))
 l:∃lu,W.heap[lb]?=some (.cells #[lu] 254 (0,0))/\zU w.heap.size W lu L
 lo:w.heap.size<=lb
theorem RmSt.below {w W W' gb pb lb gc pc L}(h:RmSt w gb pb lb gc pc L W)(a:Below W.heap.size W W'):RmSt w gb pb lb gc pc L W':=by
 obtain⟨lu,h1,h2⟩:=h.l;exact⟨h.bel.trans (a.mono h.bel.size),(a.block _ (i_ h.g).1).trans h.g,(a.block _ (i_ h.p).1).trans h.p,⟨lu,(a.block _ (i_ h1).1).trans h1,h2.below a⟩,h.lo⟩
theorem RmSt.keep {w W gb pb lb gc pc L}(h:RmSt w gb pb lb gc pc L W)(hl:L.length<=1000000)(a b:Int):
  Calls prog 337 #[.int .i64 a,.int .i64 b,.pointer (some ⟨lb,0,none⟩)] W λe W'=>e=.returned (.tuple #[])/\RmSt w gb pb lb gc pc (L++jQ a b) W'/\∀k,k<W.heap.size->k≠lb->(∀lu:Value,W.heap[lb]?=some (.cells #[lu] 254 (0,0))->lu.ownBlock≠some k)->W'.heap[k]?=W.heap[k]?:=by
 obtain⟨lu,h1,h2⟩:=h.l;refine(yCq h2 hl h.bel.size lb h1 a b).mono ?_;rintro e W' ⟨rfl,f,u',h3,h4⟩;have m:∀k,k<W.heap.size->k≠lb->(∀cs,W.heap[k]?≠some (.cells cs 268 (0,0)))->W'.heap[k]?=W.heap[k]?:=λk c j i=>f.block k c λd=>by
  rcases g8.1 d with e|e
  ·exact j e
  ·obtain⟨cur,n⟩:=xS h2 (R2.1 e);exact i cur n
 have one:∀{k:Nat} {cs:Array Value} {t:TypeId},W.heap[k]?=some (Obj.cells cs t (0,0))->t≠268->t≠254->W'.heap[k]?=W.heap[k]?:=by grind
 refine⟨rfl,⟨h.bel.trans (f.below h.bel.size λk d=>?_),(one h.g (by decide) (by decide)).trans h.g,(one h.p (by decide) (by decide)).trans h.p,⟨u',h3,h4⟩,h.lo⟩,λk c j i=>f.block k c λd=>?_⟩
 ·rcases g8.1 d with e|e
  ·rw[e];exact h.lo
  ·exact(s5 h2 k (R2.1 e)).1
 ·grind
theorem yCb (n l x):cutI n (l++[x])=cutI n l++(if inI n x then jQ x.1 (n-1)++jQ (n+1) x.2 else jQ x.1 x.2):=by simp[cutI]
theorem xE1 (a b):(jQ a b).length<=1:=by unfold jQ;split <;> simp
theorem xMi (n):∀l,(cutI n l).length<=2*l.length
 |[]=>by simp[cutI]
 |x :: l=>by
  have:=xMi n l;have e:cutI n (x :: l)=(if inI n x then jQ x.1 (n-1)++jQ (n+1) x.2 else jQ x.1 x.2)++cutI n l:=by simp[cutI]
  rw[e,b6,x5];have c:=xE1 x.1 (n-1);have b:=xE1 (n+1) x.2;have a:=xE1 x.1 x.2;grind
def uJ (f:TF)(k:ByteArray)(n:Int):Int:=match f k with
 |some c=>if c.ivs.any (inI n)then 0 else 8
 |none=>8
def qN (f:TF)(k:ByteArray)(n:Int):TF:=putF f k { (f k).getD ⟨0,false,[]⟩with ivs:=cutI n ((f k).getD ⟨0,false,[]⟩).ivs }
theorem xW7 {B w v}(h:yC B w v)(k)(n:Int)(hn:0<=n/\n<=2147483647)(cZ:∀c,v.c k=some c->c.ivs.length<=400000):
  Calls prog 331 #[.pointer (some ⟨v.p,0,none⟩),.agg #[.string k,.int .i64 n]] w (xCf B v (uJ v.c k n) (qN v.c k n) (newN v.c v.gs.length k) w):=by
 have aH:=hn.1;have aF:=hn.2;obtain⟨E,aj⟩:∃E,E=w.alloc (.cells #[.string k,.int .i64 n] 72):=⟨_,rfl⟩;have aa:Below w.heap.size w E:=by grind
 have lV:E.heap[w.heap.size]?=some (.cells #[.string k,.int .i64 n] 72 (0,0)):=by grind
 have HF:=h_ (xPm (h.below aa) k);have H:=h_ h;obtain⟨o,cl,u,l,l9,iM,dT,Q,az⟩:=h.cells k;have ir:=qt o cl iM;obtain⟨err,f⟩:∃err,err=uJ v.c k n:=⟨_,rfl⟩;rw[<-f];obtain⟨ok,L⟩:∃ok,ok=(v.c k).isSome:=⟨_,rfl⟩
 have Y:Hid ((ok=true->err=if l.any (inI n)then 0 else 8)/\(ok=false->err=8)/\(ok=true->l.length<=400000)):=h_ (by
  unfold uJ at f;cases hc:v.c k with
  |none=>rw[hc]at L f;subst L;exact⟨λe=>(by cases e),λ_=>f,λe=>(by cases e)⟩
  |some c=>
   have:=cZ c hc;rw[hc]at L f Q;simp only[aw_]at Q;subst L;subst Q;exact⟨λ_=>f,λe=>(by cases e),λ_=>this⟩)
 have O3:Hid (putF v.c k ⟨o,cl,cutI n l⟩=qN v.c k n):=h_ (by unfold qN;rw[Q]);have u_:=h_ (And.intro dT az);have q0:=cell_of_row E w.heap.size 0 _ _ _ lV;simp only[v_]at q0;rw[l9,<-L]at HF;have aq:=h_ aa;have pP:=h_ lV;have Gk:(uj.size==3)=true:=rfl;have fo:xt 3 uj=true:=qt 0 false rfl;have HU1:=h_ iM;clear h hn cZ aa lV l9 iM dT Q az f L;go_enter func331,ntmps331;go_upto_region 1 with fail
 refine xm aj ?_;clear aj;go_wp2_with fail;refine HF.mono ?_;rintro e d ⟨ai,rfl⟩;clear HF q0;obtain⟨D,bQ⟩:∃D,D=d.alloc (.cells (xT o cl u) 256):=⟨_,rfl⟩;have bI:D.heap[d.heap.size]?=some (.cells (xT o cl u) 256 (0,0)):=by grind
 have ao:Below E.heap.size E D:=by grind
 have lk:=(ao.block w.heap.size (i_ pP.out).1).trans pP.out;have eS:Below w.heap.size w D:=by grind
 have Nj:Hid (E.heap.size<=d.heap.size):=h_ ai.size;have R:=h_ eS;have mO:=h_ bI;have wC:=h_ lk;have q1:=cell_of_row D w.heap.size 1 _ _ _ lk;simp only[v_]at q1;obtain⟨o3,r3⟩:=xF (n:=3) bI rfl;have V5:=h_ (u_.1.below eS);clear bI ai ao lk eS;unfold xT at bQ ir r3⊢;go_upto_region 2 with fail
 refine xm bQ ?_;clear bQ;cases ok with
 |false=>
  have f:=Y.2.1 rfl;subst f;go_wp2;go_ret;exact⟨rfl,λ_=>R.out,λe=>by cases e⟩
 |true=>
 have cZ:=Y.2.2 rfl;have HH:=h_ (yGd V5.out (by omega) o cl n);have Jh:=h_ (Y.1 rfl);clear Y;unfold xT at HH;go_wp2_with fail;refine HH.mono ?_;rintro e C ⟨rfl,aQ⟩;clear o3 r3 q1 HH;have f:=Jh.out;clear Jh;cases hany:l.any (inI n) with
 |false=>
  rw[hany]at f;simp only[av_,if_false]at f;subst f;have dF:=h_ (R.trans (aQ.mono R.size));clear aQ;go_wp2;go_ret;exact⟨rfl,λ_=>dF.out,λe=>by cases e⟩
 |true=>
 rw[hany]at f;simp only[if_true]at f;subst f;obtain⟨N,cC⟩:∃N,N=C.alloc (.cells #[.slice none 0 0] 254):=⟨_,rfl⟩;have aO:Below D.heap.size D N:=by grind
 have I:RmSt w d.heap.size w.heap.size C.heap.size (xT o cl u) #[.string k,.int .i64 n] [] N:=by
  refine⟨R.trans (aO.mono R.size),(aO.block _ (i_ mO.out).1).trans mO.out,(aO.block _ (i_ wC.out).1).trans wC.out,⟨.slice none 0 0,by grind,D1 _ _ _ _⟩,?_⟩;grind
 have a_:=h_ I;have c2:=cell_of_row N d.heap.size 2 _ _ _ I.g;simp only[xT,v_]at c2;obtain⟨m,hm⟩:∃m,m=l.length:=⟨_,rfl⟩;obtain⟨ua,uc,hu⟩:=j3 u_.1;rw[<-hm]at hu cZ;have HM:=h_ hm;have HU:=h_ hu;have n4:(m:Int)<=400000:=by omega
 rw[hu]at c2;clear aQ aO I hm;go_upto_region 8 with fail
 refine xm cC ?_;clear cC;go_wp2;clear c2;go_loopw [30] (λi wr=>∃j:Nat,i=.int .i64 j/\j<=m/\Hid (RmSt w d.heap.size w.heap.size C.heap.size (xT o cl u) #[.string k,.int .i64 n] (cutI n (l.take j)) wr)) (λi _=>m-(intOf i).toNat)
 case atStart=>exact⟨0,rfl,n3 _,a_⟩
 case round=>
  obtain⟨j,rfl,hj,T⟩:=hrel;by_cases hlt:j<m
  ·have aM:(j:Int)<(m:Int):=by omega
   have iu:j<l.length:=by grind
   obtain⟨ug,cap,V4,bE,mQ,Ln,BI,mY⟩:=(u_.1.below T.bel).rd iu;have Jj:ua=some ⟨ug,0,none⟩:=by grind
   have hucz:(m:Int)<=uc:=by grind
   subst Jj;have HT:=h_ (d0 iu);obtain⟨x,hx⟩:∃x,x=l[j]:=⟨_,rfl⟩;rw[<-hx]at mY HT;obtain⟨xa,xb⟩:=x;simp only at mY;obtain⟨a,J⟩:∃a,a=wr.alloc (.cells #[.int .i64 xa,.int .i64 xb] 268):=⟨_,rfl⟩;have G:Below wr.heap.size wr a:=by grind
   have y:a.heap[wr.heap.size]?=some (.cells #[.int .i64 xa,.int .i64 xb] 268 (0,0)):=by grind
   have eJ:=T.below G;have tZ:=h_ eJ;have X:=cell_of_row a w.heap.size 1 _ _ _ eJ.p;have W:=cell_of_row a wr.heap.size 0 _ _ _ y;have V:=cell_of_row a wr.heap.size 1 _ _ _ y;simp only[v_]at X W V;have bD:=xMi n (l.take j);have O_:(cutI n (l.take j)).length<=800000:=by grind
   have Z:=h_ O_;have Pa:=h_ y
   have HXL:Hid (∀lu:Value,a.heap[C.heap.size]?=some (.cells #[lu] 254 (0,0))->lu.ownBlock≠some wr.heap.size):=h_ (λlu hl e=>by
    obtain⟨lu0,h1,h2⟩:=T.l;rw[G.block _ (i_ h1).1,h1]at hl;simp at hl;subst hl;exact W9 _ (s5 h2 _ e).2)
   have FP:Hid (wr.heap.size≠C.heap.size):=h_ (λe=>by
    obtain⟨lu0,h1,_⟩:=T.l;rw[e]at y;rw[G.block _ (i_ h1).1,h1]at y;simp at y)
   have rQ:xt 2 #[Value.int .i64 xa,Value.int .i64 xb]=true:=by simp[xt,Value.oneCell']
   have Sz:(#[Value.int .i64 0,Value.int .i64 0].size==2)=true:=rfl;clear G y eJ V4 bE mQ Ln hx bD O_;go_upto_region 11 with fail
   refine xm J ?_;clear J BI mY rQ Sz;have HN:Hid (∀L' t,L'=(if inI n (xa,xb)then jQ xa (n-1)++jQ (n+1) xb else jQ xa xb)->RmSt w d.heap.size w.heap.size C.heap.size (xT o cl u) #[.string k,.int .i64 n] (cutI n (l.take j)++L') t->Hid (RmSt w d.heap.size w.heap.size C.heap.size (xT o cl u) #[.string k,.int .i64 n] (cutI n (l.take (j+1))) t)):=h_ λL' t e h=>h_ (by rw[HT.out,yCb];rw[e]at h;exact h)
   by_cases hin:xa<=n
   ·by_cases hin2:n<=xb
    ·have bZ:¬ n<xa:=by omega
     have b9:¬ xb<n:=by omega
     have S:Hid (inI n (xa,xb)=true):=h_ (by unfold inI;simp[hin,hin2]);clear hin hin2;have hK:=h_ (tZ.keep (by have:=Z.out;omega) xa (n-1));go_wp2_with fail;refine hK.mono ?_;rintro e t ⟨rfl,A,K⟩;have oo:=(K wr.heap.size (i_ Pa.out).1 FP.out HXL.out).trans Pa.out;have p7:=cell_of_row t w.heap.size 1 _ _ _ A.p;have x7:=cell_of_row t wr.heap.size 1 _ _ _ oo;simp only[v_]at p7 x7;have Lb:=h_ (A.keep (by have:=Z.out;have:=xE1 xa (n-1);rw[b6];omega) (n+1) xb);clear hK A K oo X W V;go_wp2_with fail;refine Lb.mono ?_;rintro e w8 ⟨rfl,om,_⟩;have U:=HN.out _ w8 rfl (by rw[S.out,if_pos rfl,<-B8];exact om);clear Lb om p7 x7;go_wp2;go_roundw
     case rel=>exact⟨j+1,by go_num,hlt,U⟩
     case measure=>simp[intOf];omega
    ·have bZ:¬ n<xa:=by omega
     have b9:xb<n:=by omega
     have S:Hid (inI n (xa,xb)=false):=h_ (by unfold inI;simp[hin2]);clear hin hin2;have hK:=h_ (tZ.keep (by have:=Z.out;omega) xa xb);go_wp2_with fail;refine hK.mono ?_;rintro e t ⟨rfl,A,K⟩;have U:=HN.out _ t rfl (by rw[S.out];exact A);clear hK A K X W V;go_wp2;go_roundw
     case rel=>exact⟨j+1,by go_num,hlt,U⟩
     case measure=>simp[intOf];omega
   ·have bZ:n<xa:=by omega
    have S:Hid (inI n (xa,xb)=false):=h_ (by unfold inI;simp[hin]);clear hin;have hK:=h_ (tZ.keep (by have:=Z.out;omega) xa xb);go_wp2_with fail;refine hK.mono ?_;rintro e t ⟨rfl,A,K⟩;have U:=HN.out _ t rfl (by rw[S.out];exact A);clear hK A K X W V;go_wp2;go_roundw
    case rel=>exact⟨j+1,by go_num,hlt,U⟩
    case measure=>simp[intOf];omega
  ·have aM:¬ ((j:Int)<(m:Int)):=by omega
   have r:=T.out;rw[show j=l.length by have:=HM.out;omega,X3]at r;obtain⟨lu,O,s⟩:=r.l;have l0:=cell_of_row wr C.heap.size 0 _ _ _ O;have g2:=cell_of_row wr d.heap.size 2 _ _ _ r.g;have f2:=frozen_of_row wr d.heap.size 2 _ _ r.g;simp only[xT,v_]at l0 g2;obtain⟨la,lc,hlu⟩:=j3 s;obtain⟨a,J⟩:∃a,a=wr.setCell ⟨d.heap.size,2,none⟩ lu:=⟨_,rfl⟩;have y:a.heap[d.heap.size]?=some (.cells (xT o cl lu) 256 (0,0)):=by rw[J,heap_setCell_same wr d.heap.size 2 _ _ _ r.g];rfl
   have cr:Kept [d.heap.size] wr a:=by grind
   have P:d.heap.size≠w.heap.size:=λe=>by grind
   have Eg:=(cr.block w.heap.size (i_ r.p).1 (by simpa using P.symm)).trans r.p;have Pc:w.heap.size<=d.heap.size:=by grind
   have G:Below w.heap.size w a:=r.bel.trans (cr.below r.bel.size λq hq=>by rw[S_.1 hq];exact Pc);have Ah:B<=w.heap.size:=R_ H.pB (T8 H.lt.1);have Pd:zU B a lu (cutI n l):=zi (yf s cr (λq hq e=>vf s r.g (λcs e=>by simp at e) (by rw[S_.1 hq]at e;exact e))) Ah;obtain⟨W',ci,_,_,rM,v',f1,f3,f4,f5,f6,f7⟩:=H.finish (Kept.of_below (F:=[]) G) k (λb hb=>by cases hb) ⟨o,cl,cutI n l⟩ lu Pd (λb hb=>.inr (s5 s b hb).1);rw[O3.out]at f5;have aC:Hid (xCf B v 0 (qN v.c k n) (newN v.c v.gs.length k) w (.returned (.int .i64 0)) W'):=h_ ⟨rfl,λe=>absurd rfl e,λ_=>⟨rM,v',f1,f3,f4,f5,f6,f7⟩⟩;have c6:=cell_of_row a v.p 0 _ _ _ (H.below G).blk;have p6:=cell_of_row a w.heap.size 0 _ _ _ Eg;simp only[v_]at c6 p6;have z0:∀z:xf a,z.1.cell? ⟨v.p,0,none⟩=some (.map (some v.M)):=λz=>z.cell c6
   have z3:∀z:xf a,z.1.cell? ⟨w.heap.size,0,none⟩=some (.string k):=by grind
   have rr:=xF (n:=3) y rfl;have z1:∀z:xf a,xp z.1 ⟨d.heap.size,0,none⟩ 3=true:=by grind [xf.ok]
   have z2:∀z:xf a,xo z.1 ⟨d.heap.size,0,none⟩ 3=xT o cl lu:=by grind [xf.rd]
   clear r O s y cr P Eg Pc G Ah Pd rM f1 f3 f4 f5 f6 f7 c6 p6 rr;subst hlu;unfold xT at z2 ci;simp only at ci;go_upto_region 17 with fail
   refine xm J ?_;clear J l0 g2 f2 aM;refine xz [0,1,2,3,4,5,6] [7] (λw'=>∃z:xf a,w'=z.1) ⟨⟨a.drew,(z_ _ _).drew⟩,rfl⟩ ?_;simp only[o_]
   repeat (go_big_quiet_step (fail))
   refine wpQuiet_nil ?_;clear z0 z1 z2 z3;refine yE ?_;simp only[o_];go_wp2;refine T_ ?_;clear ci;go_wp2;go_ret;exact aC.out
end
end Go.Proofs.YtdhapkeimaljfaaGreatDoor
namespace Go.Proofs.YtdhapkeimaljfaaGreatDoor
open Go Go.RowKit Go.Proofs Tryz
open Go.ChangeMaps (setBlock)
attribute [local go_sem ↓] xAe kj km
attribute [local go_sem] xR6 xQa zr zx yA yz xh xg xe xd xx xy xk xj xq xB xw
def entK {K:Type}(ek:K->Value)(es:List (KE K)):Array MapEntry:=(es.map (enE ek)).toArray
theorem yDx {K:Type}{ek:K->Value}{X:World}{r M mc:Nat}{seen:Array Nat}{es:List (KE K)}(d:X.heap[r]?=some (.mapIter (some M) mc seen mc))(n:xV ek X M es mc)(hy:∀e∈es,e.b<mc)(h:(es.map (·.b)).Nodup)(ty:TypeId):
  ((∀e∈es,seen.contains e.b=true)/\(Instr.next (.pointer (some ⟨r,0,none⟩)) false ty).run prog X=.ok (.tuple #[.bool false]) X) \/
  ∃e∈es,seen.contains e.b=false/\∃X',(Instr.next (.pointer (some ⟨r,0,none⟩)) false ty).run prog X=.ok (.tuple #[.bool true,ek e.k,e.v]) X'/\Kept [r] X X'/\X'.heap.size=X.heap.size/\X'.heap[r]?=some (.mapIter (some M) mc (seen.push e.b) mc) /\
   (Instr.entry (.pointer (some ⟨r,0,none⟩))).run prog X'=.ok (.tuple #[ek e.k,e.v]) X'/\(leftOf (entK ek es) (seen.push e.b)).size<(leftOf (entK ek es) seen).size:=by
 have j:X.heap[M]?=some (.map (entK ek es) mc):=n;have z:r≠M:=λe=>by rw[e,j]at d;cases d
 have l:∀x∈(entK ek es).toList,∃e∈es,x=enE ek e:=λx hx=>by grind [entK]
 have m:∀x∈(entK ek es).toList,x.born<mc:=λx hx=>by
  obtain⟨e,c,rfl⟩:=l x hx;exact hy e c
 have s:(entK ek es).toList.map (·.born)=es.map (·.b):=by
  simp only[entK,T7];rfl
 rcases run_next_at (P:=prog) X ty r M mc mc seen (entK ek es) mc d j m (w_ _) with⟨o,g⟩|⟨x,hx,f,u,g⟩
 ·refine .inl ⟨λe c=>?_,g⟩;have:=all_seen (entK ek es) seen o (enE ek e) (by simp only[entK,D4];exact⟨e,c,rfl⟩);exact this
 ·obtain⟨i,p⟩:=mem_left hx;obtain⟨e,c,rfl⟩:=l x i;have y:=(i_ d).1;have t:f.heap=X.heap:=by grind
  have a:Kept [r] X f:=by grind
  have hit:(setBlock f r (.mapIter (some M) mc (seen.push e.b) mc)).heap[r]?=some (.mapIter (some M) mc (seen.push e.b) mc):=by grind [qq]
  have q:(setBlock f r (.mapIter (some M) mc (seen.push e.b) mc)).heap[M]?=some (.map (entK ek es) mc):=by grind [yu]
  refine .inr ⟨e,c,p,_,g,⟨a.os,a.tape,a.output,by rw[zb];exact a.size,λk w h=>?_⟩,by rw[zb,t],hit,run_entry_at _ r M mc seen (entK ek es) mc (enE ek e) hit q i (by rw[s];exact h),left_shrinks _ _ _ hx⟩;grind [yu]
def yEq (m:Array MapEntry)(r:Nat)(w:World):Nat:=match w.heap[r]? with
 |some (.mapIter _ _ seen _)=>(leftOf m seen).size
 |_=>0
theorem xUo {e r}{w:World}{m s c seen}(h:w.heap[r]?=some (.mapIter m s seen c)):yEq e r w=(leftOf e seen).size:=by
 unfold yEq;rw[h]
theorem xYv {B w u l}(h:zU B w u l)(hl:l.length<=1000000):Calls prog 126 #[u] w λe w'=>Below w.heap.size w w'/\∃u',e=.returned u'/\zU w.heap.size w' u' l:=by
 obtain⟨c,a,f,m,i⟩:=info_parts Tryz.info_ivl;rcases jt h with⟨rfl,q⟩|⟨g,cap,cur,rfl,_,h1,h2,h3,h4,p,o⟩
 ·have:l=[]:=by grind
  subst this;refine(AnyE.slices_Clone_nil Tryz.cloneIvl 0 0 w).mono ?_;rintro e w' ⟨rfl,rfl⟩;exact⟨z_ _ _,_,rfl,D1 _ _ _ _⟩
 ·refine(AnyE.slices_Clone Tryz.cloneIvl c (.agg #[.int .i64 0,.int .i64 0]) 2 16 a f m i rfl (by decide) sizeOf268 g 0 l.length cap (uB l) w (xD9 l) (by unfold maxLen;omega) (by omega) (λj u n=>?_) (λu b=>?_)).mono ?_
  ·grind
  ·unfold uB at b;obtain⟨x,_,hx⟩:=aJ_.1 b;simp at hx;rcases hx with rfl|rfl <;> rfl
  ·rintro e w' ⟨v',rfl,k,_,d⟩;exact⟨d,v',rfl,k⟩
structure CtSt (B:Nat)(w:World)(v:Tbl)(r:Nat)(seen:Array Nat)(W:World):Prop where
 it:W.heap[r]?=some (.mapIter (some v.M) v.mc seen v.mc)
 bel:Below w.heap.size w W
 lo:w.heap.size<=r
 tab:∃v2,yC w.heap.size W v2/\v2.p=w.heap.size+1/\v2.M=w.heap.size/\(∀t,(∃g∈v.gs,g.name=t/\seen.contains g.born=true)->v2.c t=v.c t)/\∀t,(¬ ∃g∈v.gs,g.name=t/\seen.contains g.born=true)->v2.c t=none
theorem xGa {α:Type}:∀{A C:List α},A.Nodup->(∀a∈A,a∈C)->A.length<=C.length
 |[],_,_,_=>n3 _
 |a :: A,C,b,h=>by
  rw[U0]at b;obtain⟨d,c,rfl⟩:=aW_ (h a (by simp));have:=xGa (A:=A) (C:=d++c) b.2 λx hx=>by grind
  grind
theorem xR2 {α β:Type}{f:α->β}:∀{l:List α},(l.map f).Nodup->∀a∈l,∀b∈l,f a=f b->a=b:=by
 intro l hl;induction l with
 |nil=>intro a ha;cases ha
 |cons c l ih=>grind
theorem yD9 {gs:List AG}(b:(gs.map (·.name)).Nodup){g}(a:g∈gs):tOf gs g.name=some g:=by
 cases h:tOf gs g.name with
 |none=>exact absurd rfl (xCt h g a)
 |some g'=>
  obtain⟨h1,h2⟩:=xQ4 h;grind [xR2]
theorem xFt {v:Tbl}{t}:(v.c t).isSome=true↔t∈v.gs.map (·.name):=by
 unfold Tbl.c;simp[tOf,D4.2,xQ4,D4.1,xCt]
theorem yGw {v d:Tbl}(h1:(v.gs.map (·.name)).Nodup)(h2:(d.gs.map (·.name)).Nodup)(e:d.c=v.c):d.gs.length=v.gs.length:=by
 have a:=xGa h2 (C:=v.gs.map (·.name)) λt ht=>xFt.1 (by rw[<-e];exact xFt.2 ht)
 have b:=xGa h1 (C:=d.gs.map (·.name)) λt ht=>xFt.1 (by rw[e];exact xFt.2 ht)
 grind
theorem CtSt.more {B w v r seen W X Y}(hv:yC B w v)(h:CtSt B w v r seen W){g}(z:g∈v.gs)(f:Kept [r] W X)(hit:X.heap[r]?=some (.mapIter (some v.M) v.mc (seen.push g.born) v.mc))(a:Below X.heap.size X Y){u}(s:zU X.heap.size Y u g.c.ivs):
  ∃Z,Y.cell? ⟨w.heap.size+1,0,none⟩=some (.map (some w.heap.size))/\(Instr.mapUpdate 227 (.map (some w.heap.size)) (.string g.name) (.agg (xT g.c.high g.c.closed u))).run prog Y.drew=.ok () Z/\CtSt B w v r (seen.push g.born) Z:=by
 obtain⟨o,i,C,k,J,Q⟩:=h.tab;have P:=(i_ h.it).1;have l:yC w.heap.size X o:=i.kept f λb a y=>by
  rw[S_]at y;subst y;rcases Tbl.mem_foot.1 a with e|e|⟨g',j,e⟩
  ·have:=i.blk;rw[<-e,h.it]at this;cases this
  ·have:=i.map;unfold xV at this;rw[<-e,h.it]at this;cases this
  ·obtain⟨cur,A⟩:=xS (i.ivs g' j) e;rw[h.it]at A;cases A
 have E:w.heap.size<=X.heap.size:=R_ h.bel.size f.size;have H:X.heap.size<=Y.heap.size:=a.size;obtain⟨Z,x,m,hs,N,v3,g1,I,g3,g4,_,O⟩:=l.finish (Kept.of_below (F:=[]) a) g.name (λb a=>by cases a) g.c u (zi s E) (λb G=>.inr (s5 s b G).1);have D:=cell_of_row Y o.p 0 _ _ _ ((a.block _ l.lt.1).trans l.blk);rw[C,k]at D;rw[k]at x m;have K:r≠w.heap.size:=λe=>by
  have:=i.map;unfold xV at this;rw[k,<-e,h.it]at this;cases this
 refine⟨Z,D,x,⟨(m.block r (by have:=f.size;omega) (by simpa using K)).trans ((a.block r (by have:=f.size;omega)).trans hit),h.bel.trans (Below.trans (f.below (by have:=h.bel.size;omega) λq hq=>by rw[S_.1 hq];exact h.lo) ((a.mono E).trans (m.below (by omega) λq hq=>by rw[S_.1 hq];exact w_ _))),h.lo,v3,g1,I.trans C,g3.trans k,λt ht=>?_,λt ht=>?_⟩⟩
 ·rw[g4];unfold putF;by_cases htg:t=g.name
  ·rw[if_pos htg,htg];unfold Tbl.c;rw[yD9 hv.names z];rfl
  ·rw[if_neg htg];obtain⟨g',j,n,d⟩:=ht;rw[bS_,ac_]at d;refine J t ⟨g',j,n,?_⟩;rcases d with d|d
   ·exact d
   ·exfalso;have L:g'.born=g.born:=by grind
    have:g'=g:=xR2 hv.births g' j g z L;exact htg (by rw[<-n,this])
 ·rw[g4];grind [putF,Array.contains_push]
theorem xYw {B w v}(h:yC B w v)(cZ:∀g∈v.gs,g.c.ivs.length<=1000000):Calls prog 90 #[.pointer (some ⟨v.p,0,none⟩)] w λe w'=>Below w.heap.size w w'/\∃v',e=.returned (.pointer (some ⟨v'.p,0,none⟩))/\yC w.heap.size w' v'/\v'.c=v.c/\v'.gs.length=v.gs.length:=by
 have H:=h_ h;have cO:=h_ cZ;clear h cZ;go_enter func90,ntmps90;go_wp2_with fail;refine(xMs w).mono ?_;rintro e d ⟨s,rfl,Pf⟩;have Q:=H.below s;have c0:=cell_of_row d v.p 0 _ _ _ Q.blk;simp only[v_]at c0;have J:=Q.map;unfold xV at J;have sX:=run_range_map (P:=prog) d 227 _ _ v.M _ v.mc underlying227 J;obtain⟨j,aR⟩:∃j,j=d.alloc (.mapIter (some v.M) v.mc #[] v.mc):=⟨_,rfl⟩;have T:Below d.heap.size d j:=by grind
 have hit:j.heap[d.heap.size]?=some (.mapIter (some v.M) v.mc #[] v.mc):=by grind
 rw[<-aR]at sX;have a_:Hid (CtSt B w v d.heap.size #[] j):=h_ ⟨hit,s.trans (T.mono s.size),s.size,_,Pf.below T,rfl,rfl,λt ⟨_,_,_,hs⟩=>by simp at hs,λt _=>rfl⟩;obtain⟨r,hr⟩:∃r,r=d.heap.size:=⟨_,rfl⟩;clear J s Pf Q T hit aR;go_upto_region 5 with fail
 rw[<-hr]at a_⊢;clear sX c0 hr;go_loopw [4] (λ_ wr=>∃seen:Array Nat,Hid (CtSt B w v r seen wr)) (λ_ wr=>yEq (entK ekS (v.gs.map AG.e)) r wr)
 case atStart=>exact⟨#[],a_⟩
 case round=>
  obtain⟨seen,HS⟩:=hrel;have Pg:=h_ (xUo (e:=entK ekS (v.gs.map AG.e)) HS.it)
  rcases yDx HS.it (H.below HS.bel).map (λe y=>by
   obtain⟨g,b,rfl⟩:=D4.1 y;exact H.young g b) (by rw[T7];exact H.births) 0 with⟨hall,I⟩|⟨e,y,gI,X,I,K,G,Ph,dY,l⟩
  ·obtain⟨v2,R,e1,m,e3,e4⟩:=HS.tab;have Ef:v2.c=v.c:=by
    funext t;by_cases ht:∃g∈v.gs,g.name=t/\seen.contains g.born=true
    ·exact e3 t ht
    ·rw[e4 t ht];cases hvc:v.c t with
     |none=>rfl
     |some c=>
      exfalso;have h1:(v.c t).isSome=true:=by grind
      obtain⟨g,b,L⟩:=D4.1 (xFt.1 h1);exact ht ⟨g,b,L,hall g.e (D4.2 ⟨g,b,rfl⟩)⟩
   have x:=h_ (And.intro HS.bel (And.intro R (And.intro Ef (And.intro (yGw H.names R.names Ef) e1))));clear hall R e1 m e3 e4 Ef;go_wp2;go_ret;exact⟨x.1,v2,by rw[x.2.2.2.2];rfl,x.2.1,x.2.2.1,x.2.2.2.1⟩
  ·obtain⟨g,b,rfl⟩:=D4.1 y;have V6:=gI;have W:Below w.heap.size w X:=HS.bel.trans (K.below HS.bel.size λq hq=>by rw[S_.1 hq];exact HS.lo);obtain⟨u,F⟩:∃u,u=X.alloc (.cells g.cells 256):=⟨_,rfl⟩;have S:Below X.heap.size X u:=by grind
   have U:u.heap[X.heap.size]?=some (.cells g.cells 256 (0,0)):=by grind
   have E:=(H.below (W.trans (S.mono W.size))).ivs g b;have N:=h_ (xYv E (cO.out g b));have m:=cell_of_row u X.heap.size 2 _ _ _ U;simp only[AG.cells,xT,v_]at m;obtain⟨ga,gc,f⟩:=j3 E;have ir:xt 3 g.cells=true:=qt _ _ (by rw[f];rfl);rw[f]at N m;clear f;have Gk:(uj.size==3)=true:=rfl;have Y:=h_ Ph;have HK:=h_ K;have ax:=h_ S;have o:=h_ U;have D6:=h_ l;have FG:=h_ b;have k:(Instr.next (.pointer (some ⟨r,0,none⟩)) false 0).run prog wr=.ok (.tuple #[.bool true,.string g.name,.agg g.cells]) X:=I;have Pi:(Instr.entry (.pointer (some ⟨r,0,none⟩))).run prog X=.ok (.tuple #[.string g.name,.agg g.cells]) X:=dY;clear I dY K Ph l S U E gI V6 W y G b;generalize aB:g.cells=cs at F ir k Pi o;go_upto_region 7 with fail
   refine xm F ?_;clear F k Pi;go_wp2_with fail;refine N.mono ?_;rintro e i ⟨ao,u',rfl,Gq⟩;clear N;rw[<-aB]at o;have Ey:Below X.heap.size X i:=by grind
   have A:=(ao.block _ (i_ o.out).1).trans o.out;have f2:=frozen_of_row i X.heap.size 2 _ _ A;have d2:=cell_of_row i X.heap.size 2 _ _ _ A;simp only[AG.cells,xT,v_]at d2;obtain⟨a,C⟩:∃a,a=i.setCell ⟨X.heap.size,2,none⟩ u':=⟨_,rfl⟩;have dN:a.heap[X.heap.size]?=some (.cells (xT g.c.high g.c.closed u') 256 (0,0)):=by rw[C,heap_setCell_same i X.heap.size 2 _ _ _ A];rfl
   have wi:Kept [X.heap.size] i a:=by grind
   have aQ:Below X.heap.size X a:=by grind
   have V:zU X.heap.size a u' g.c.ivs:=zi (yf Gq wi λq hq e=>by
    have:=(s5 Gq q e).1;have:=(i_ o.out).1;rw[S_]at hq;omega) ax.size
   obtain⟨Z,n9,O,hZ⟩:=CtSt.more H.out HS.out FG.out HK.out Y.out aQ V;have HZ:=h_ hZ;have z0:∀z:xf a,z.1.cell? ⟨w.heap.size+1,0,none⟩=some (.map (some w.heap.size)):=by grind
   have rr:=xF (n:=3) dN rfl;have z1:∀z:xf a,xp z.1 ⟨X.heap.size,0,none⟩ 3=true:=by grind [xf.ok]
   have D:∀z:xf a,xo z.1 ⟨X.heap.size,0,none⟩ 3=xT g.c.high g.c.closed u':=by grind [xf.rd]
   obtain⟨ua,uc,V3⟩:=j3 V;clear ao Gq Ey A dN wi aQ V n9 hZ rr;rw[V3]at C D O;obtain⟨ghi,hghi⟩:∃ghi,ghi=g.c.high:=⟨_,rfl⟩;obtain⟨gcl,hgcl⟩:∃gcl,gcl=g.c.closed:=⟨_,rfl⟩;obtain⟨gnm,hgnm⟩:∃gnm,gnm=g.name:=⟨_,rfl⟩;unfold xT at D O;go_upto_region 8 with fail
   refine xm C ?_;clear C f2 d2 m;refine xz [0,1,2,3,4,5] [6] (λw'=>∃z:xf a,w'=z.1) ⟨⟨a.drew,(z_ _ _).drew⟩,rfl⟩ ?_;simp only[o_]
   repeat (go_big_quiet_step (fail))
   refine wpQuiet_nil ?_;clear z0 z1 D;refine yE ?_;simp only[o_];go_wp2;refine T_ ?_;clear O;go_wp2;go_roundw
   case rel=>exact⟨_,HZ⟩
   case measure=>
    rw[Pg.out,xUo HZ.it];exact D6.out
end Go.Proofs.YtdhapkeimaljfaaGreatDoor
namespace Go.Proofs.YtdhapkeimaljfaaGreatDoor
open Go Go.RowKit Go.Proofs Tryz
theorem xAm {P c}{Q:Exit->Act->World->Prop}{a w}
  (h:c.wp P (Exit.then (λa' w'=>c.wp P (Exit.then (λ_ _=>False) Q) a' w') Q) a w):(Code.loop c).wp P Q a w:=by
 classical
 refine wp_loop (λa' w'=>(a'=a/\w'=w)\/c.wp P (Exit.then (λ_ _=>False) Q) a' w') (λa' w'=>if c.wp P (Exit.then (λ_ _=>False) Q) a' w' then 0 else 1) (.inl ⟨rfl,rfl⟩) λa' w' b=>?_
 by_cases hJ:c.wp P (Exit.then (λ_ _=>False) Q) a' w'
 ·grind
 ·rcases b with⟨rfl,rfl⟩|b
  ·refine Code.wp_mono (λe a w q=>?_) h;cases e <;> first|exact q|(have q':c.wp P (Exit.then (λ_ _=>False) Q) a w:=q;exact⟨.inr q',by rw[if_neg hJ,if_pos q'];exact Nat.zero_lt_one⟩)
  ·exact absurd b hJ
theorem xWs (f w):Calls prog 134 #[.slice none 0 0,.int .i64 0,.int .i64 0,f] w λe w'=>e=.returned (.tuple #[])/\w=w':=by
 go_enter func134,ntmps134;go_wp2;refine wp_loop_once ?_;go_wp2;go_end0;exact⟨rfl,rfl⟩
theorem xWr (f w):Calls prog 100 #[.slice none 0 0,.int .i64 0,.int .i64 0,.int .i64 0,f] w λe w'=>e=.returned (.tuple #[])/\w=w':=by
 have a:=h_ (xWs f w);go_enter func100,ntmps100;go_wp2;refine wp_loop_once ?_;go_wp2_with fail;refine a.mono ?_;rintro e w' ⟨rfl,rfl⟩;go_wp2
 first|go_end0|(simp only[Exit.inBlock,Exit.then];refine bodyPost_ret (results_none rfl _ _ _) rfl ?_)|refine bodyPost_ret (results_none rfl _ _ _) rfl ?_
 exact⟨rfl,rfl⟩
theorem xT4 (f w):Calls prog 61 #[.slice none 0 0,f] w λe w'=>e=.returned (.tuple #[])/\w=w':=by
 have b:=h_ (xWr f w);have c:=h_ (Tryz.bits_Len 0 w (by decide) (by decide));go_enter func61,ntmps61;go_wp2_with fail;refine c.mono ?_;rintro e w' ⟨rfl,rfl⟩;have a:Lib.bitLen (0:Int).toNat=0:=by decide
 rw[a];go_wp2_with fail;refine b.mono ?_;rintro e w' ⟨rfl,rfl⟩;go_wp2;go_end0;exact⟨rfl,rfl⟩
theorem xO2 {B w v}(h:yC B w v)(d:v.gs=[]):Calls prog 116 #[.pointer (some ⟨v.p,0,none⟩)] w λe w'=>e=.returned (.slice none 0 0)/\Below w.heap.size w w':=by
 have c3:=cell_of_row w v.p 0 _ _ _ h.blk;simp only[v_]at c3;have a:=h.map;unfold xV at a;rw[d,aA_]at a;have c:=run_range_map (P:=prog) w 227 _ _ v.M _ v.mc underlying227 a;obtain⟨W,f⟩:∃W,W=w.alloc (.mapIter (some v.M) v.mc #[] v.mc):=⟨_,rfl⟩;have b:Below w.heap.size w W:=by grind
 have hit:W.heap[w.heap.size]?=some (.mapIter (some v.M) v.mc #[] v.mc):=by grind
 have i:∀ty,(Instr.next (.pointer (some ⟨w.heap.size,0,none⟩)) false ty).run prog W=.ok (.tuple #[.bool false]) W:=λty=>by
  rcases run_next_at (P:=prog) W ty w.heap.size v.M v.mc v.mc #[] _ v.mc hit ((b.block _ h.lt.2).trans a) (λx hx=>by cases hx) (w_ _) with⟨_,h1⟩|⟨e,g,_⟩
  ·exact h1
  ·exact absurd (mem_left g).1 (by simp)
 have j:=h_ b;rw[<-f]at c;clear a b hit h f d;go_enter func116,ntmps116;go_wp2;refine wp_loop_once ?_;clear c c3;go_wp2_with fail;refine(xT4 _ W).mono ?_;rintro e w' ⟨rfl,rfl⟩;clear i;go_wp2;go_ret;exact⟨rfl,j.out⟩
theorem xW3 {B b bs w w'}(h:Lib.IsBuilderF 253 5 B b bs w)(a:Below w.heap.size w w'):Lib.IsBuilderF 253 5 B b bs w':=by
 have one:∀{p:Value},Lib.BuilderAtF 253 5 B b p bs w->Lib.BuilderAtF 253 5 B b p bs w':=λ{p} h=>by
  have d:=h.lt;obtain⟨f,v,g,i,c⟩:=h;exact⟨f,v,(a.block b d).trans g,i.kept (row:=none) ⟨a.os,a.tape,a.output,a.size,λk e _=>a.block k e⟩ (by cases hv:v.ownBlock <;> simp),c⟩
 exact h.elim (λx=>.inl (one x)) (λx=>.inr (one x))
theorem xW2 (w:World):Lib.IsBuilderF 253 5 w.heap.size w.heap.size [] (w.alloc (.cells #[.pointer none,.slice none 0 0] 253)):=Lib.IsBuilderF.of (Lib.fresh_isBuilder 253 5 w)
theorem xSg {B w v}(h:yC B w v)(f:v.gs=[]):Calls prog 82 #[.pointer (some ⟨v.p,0,none⟩)] w λe w'=>e=.returned (.string ⟨#[]⟩)/\Below w.heap.size w w':=by
 obtain⟨a,d⟩:∃a,a=w.alloc (.cells #[.pointer none,.slice none 0 0] 253):=⟨_,rfl⟩;have b:Below w.heap.size w a:=by grind
 have k:Lib.IsBuilderF 253 5 w.heap.size w.heap.size [] a:=by grind [xW2]
 have o:=h_ (xO2 (h.below b) f);have g:=h_ b;have n:=h_ k;clear h f b k;go_enter func82,ntmps82;go_upto_region 2 with fail
 refine xm d ?_;clear d;go_wp2_with fail;refine o.mono ?_;rintro e l ⟨rfl,c⟩;have i:=h_ (g.trans (c.mono g.size));have HS:=h_ (Tryz.Builder_String_empty_f w.heap.size w.heap.size l (xW3 n.out c) i.size);clear c;go_wp2;refine wp_loop_once ?_;go_wp2_with fail;refine HS.mono ?_;rintro e q ⟨rfl,_,j⟩;have m:=h_ (i.trans j);clear j;go_wp2;go_ret;exact⟨rfl,m.out⟩
theorem xSi (w):Calls prog 132 #[.string ⟨#[]⟩] w λe w'=>Below w.heap.size w w'/\∃v,e=.returned (.tuple #[.pointer (some ⟨v.p,0,none⟩),.int .i64 0,.int .i64 0])/\yC w.heap.size w' v/\v.gs=[]:=by
 have g:(⟨#[]⟩:ByteArray).size=0:=rfl;have d:=h_ (xMs w);go_enter func132,ntmps132;go_wp2_with fail;refine d.mono ?_;rintro e f ⟨b,rfl,a⟩;have c:=h_ (And.intro b a);clear b a;go_wp2;refine wp_loop_once ?_;go_wp2;go_ret3;exact⟨c.1,⟨w.heap.size+1,w.heap.size,[],0⟩,rfl,c.2,rfl⟩
theorem xEq (B ib M mc w)(d:Gl w)(h:y5 B w ib M [] mc):Calls prog 83 #[.pointer (some ⟨ib,0,none⟩)] w λe w'=>e=.returned (.string ⟨#[]⟩)/\Below w.heap.size w w':=by
 obtain⟨a,i⟩:∃a,a=w.alloc (.cells #[.pointer none,.slice none 0 0] 253):=⟨_,rfl⟩;have f:Below w.heap.size w a:=by grind
 have p:Lib.IsBuilderF 253 5 w.heap.size w.heap.size [] a:=by grind [xW2]
 have q:=h_ (xLy B ib M mc [] a (d.later f) (h.below f));have k:=h_ f;have x:=h_ p;clear h d f p;go_enter func83,ntmps83;go_upto_region 2 with fail
 refine xm i ?_;clear i;go_wp2_with fail;refine q.mono ?_;rintro e r ⟨v,ns,rfl,j,_,o,g⟩;have s:ns=[]:=by
  cases ns with
  |nil=>rfl
  |cons t l=>obtain⟨G,d,_⟩:=(o t).1 (by simp);cases d
 subst s;obtain⟨ga,gc,rfl⟩:∃ga gc,v=.slice ga 0 gc:=by
  rcases j with⟨_,rfl⟩|⟨b,c,rfl,_⟩
  ·exact⟨none,0,rfl⟩
  ·exact⟨_,c,rfl⟩
 have m:=h_ (k.trans (g.mono k.size));have HS:=h_ (Tryz.Builder_String_empty_f w.heap.size w.heap.size r (xW3 x.out g) m.size);clear g j o q;go_wp2;refine wp_loop_once ?_;go_wp2_with fail;refine HS.mono ?_;rintro e y ⟨rfl,_,n⟩;have u:=h_ (m.trans n);clear n;go_wp2;go_ret;exact⟨rfl,u.out⟩
theorem xZf (w:World):y5 w.heap.size ((w.alloc (.map #[] 0)).alloc (.cells #[.map (some w.heap.size),.int .i64 0] 129)) (w.heap.size+1) w.heap.size [] 0:=by
 refine⟨?_,?_,by simp,(λG h=>by cases h),by simp[foot],by simp,(λG h=>by cases h),by simp[total],by simp,w_ _⟩
 ·have:=heap_alloc_new (w.alloc (.map #[] 0)) (.cells #[.map (some w.heap.size),.int .i64 0] 129);rw[U7]at this;exact this
 grind [xV]
theorem xL9 (w):Below w.heap.size w ((w.alloc (.map #[] 0)).alloc (.cells #[.map (some w.heap.size),.int .i64 0] 129)):=((z_ _ _).alloc (w_ _) _).alloc (by simp) _
theorem xNf (w)(d:Gl w):Calls prog 133 #[.string ⟨#[]⟩] w λe w'=>Below w.heap.size w w'/\e=.returned (.tuple #[.pointer (some ⟨w.heap.size+1,0,none⟩),.int .i64 0])/\y5 w.heap.size w' (w.heap.size+1) w.heap.size [] 0:=by
 have l:(⟨#[]⟩:ByteArray).size=0:=rfl;have i:=h_ d;have c:=h_ (xZf w);have a:=h_ (xL9 w);clear d;go_enter func133,ntmps133;go_wp2_with fail;refine(xZi w).mono ?_;rintro e h ⟨rfl,f⟩;rw[f]at c a;clear f;have j:=h_ (xEq _ _ _ _ h (i.later a.out) c.out);go_wp2;refine wp_loop_once ?_;go_wp2_with fail;refine j.mono ?_;rintro e k ⟨rfl,b⟩;have g:=h_ (And.intro (a.trans (b.mono a.size)) (c.below b));clear b;go_wp2;go_ret2;exact⟨g.1,rfl,g.2⟩
end Go.Proofs.YtdhapkeimaljfaaGreatDoor
namespace Go.Proofs.YtdhapkeimaljfaaGreatDoor
open Go Go.RowKit Go.Proofs Tryz
open Go.ChangeMaps (setBlock)
attribute [local go_sem ↓] xP xI yp y8 ym yw xFg
attribute [local go_sem] zg zj zC zA yM xh xg xe xd xx xy xk xj xq xB xw xSa
def yCy (gs:List MG)(w:World)(r:Ending)(w':World):Prop:=∃bX M2 cF cM,r=.returned (.pointer (some ⟨bX,0,none⟩))/\y5 w.heap.size w' bX M2 cF cM/\lfOf cF=lfOf gs/\total cF=total gs/\Below w.heap.size w w'
structure CpSt (X:World)(G:MG)(k:Nat)(v:Value)(ms:List ML)(W:World):Prop where
 bl:Below X.heap.size X W
 blk:W.heap[X.heap.size+1]?=some (.cells #[v,.map (some X.heap.size)] 176 (0,0))
 row:vT X.heap.size W v ms
 nums:xV ekI W X.heap.size G.nl G.nc
 ps:ms.map (·.p)=(G.ms.take k).map (·.p)
theorem vT.keep {A w w' v ls}(h:vT A w v ls)(hv:∀k,v.ownBlock=some k->w'.heap[k]?=w.heap[k]?)(a:∀m∈ls,∀k,m.v.ownBlock=some k->w'.heap[k]?=w.heap[k]?):vT A w' v ls:=⟨h.lin.keep hv a,h.apart⟩
def InCp (cb lb:Nat)(v:Value)(g:jp):Type:={ z:World // z.cell? ⟨cb,0,none⟩=some v/\xp z ⟨lb,0,none⟩ 38=true/\xo z ⟨lb,0,none⟩ 38=x9 g }
theorem InCp.same {cb lb v g w w'}(h:w.cell? ⟨cb,0,none⟩=some v/\xp w ⟨lb,0,none⟩ 38=true/\xo w ⟨lb,0,none⟩ 38=x9 g)(h1:w'.heap[cb]?=w.heap[cb]?)(h2:w'.heap[lb]?=w.heap[lb]?):∃z:InCp cb lb v g,w'=z.1:=by
 have b:∀j,w'.cell? ⟨lb,j,none⟩=w.cell? ⟨lb,j,none⟩:=λj=>by unfold World.cell?;rw[h2]
 have h3:=yH8 (w:=w) (w':=w') (a:=⟨lb,0,none⟩) (n:=38) (λj _=>by rw[l8];exact b _);refine⟨⟨w',?_,by rw[h3.1];exact h.2.1,by rw[h3.2];exact h.2.2⟩,rfl⟩;grind
theorem xH0 (B ib M mc gs w)(h:y5 B w ib M gs mc):
  Calls prog 35 #[.pointer (some ⟨ib,0,none⟩)] w λr w'=>yCy gs w r w':=by
 have lY:=@run_makeMap prog;obtain⟨f,E⟩:∃f,f=w.alloc (.map #[] 0):=⟨_,rfl⟩;have aa:Below w.heap.size w f:=by grind
 obtain⟨I,fU⟩:∃I,I=f.alloc (.cells #[.map (some w.heap.size),.int .i64 (total gs)] 129):=⟨_,rfl⟩;have F:Below w.heap.size w I:=by grind
 have c1:=(h.below aa).cell1;have c0:=(h.below F).cell0;have sX:=run_range_map (P:=prog) I 126 _ _ M _ mc underlying126 (h.below F).map;have N:=ClSt.start h (W:=I.alloc (.mapIter (some M) mc #[] mc)) (by rw[fU,E]);have aL:f.heap.size=w.heap.size+1:=by grind
 have dB:I.heap.size=w.heap.size+1+1:=by grind
 have HX:=h_ h;have a_:=h_ N;rw[E]at c1;rw[fU,E]at c0 sX;clear h aa F N;go_enter func35,ntmps35;go_upto_region 5 with fail
 rw[<-E,<-fU];obtain⟨W3,tN⟩:∃W3,W3=I.alloc (.mapIter (some M) mc #[] mc):=⟨_,rfl⟩;rw[<-tN]at a_⊢;have fG:w.heap.size<=w.heap.size:=w_ _;obtain⟨d,fy⟩:∃d,d=w.heap.size:=⟨_,rfl⟩;rw[<-fy]at a_⊢;have BK:=h_ fy;clear tN E fU c1 c0 sX aL dB fG lY fy;go_loopw [4,5,6,8] (λ_ _ _ _ wr=>∃(seen:Array Nat) (H:List MG) (C:Nat),Hid (ClSt B w ib M mc gs (d+1) d (d+1+1) H C seen wr)) (λ_ _ _ _ wr=>yEp gs (d+1+1) wr)
 case atStart=>exact⟨#[],[],0,a_⟩
 case round=>
  obtain⟨seen,H,C,HS⟩:=hrel;have Pg:=h_ (xUn (gs:=gs) HS.rd.iter);rcases HS.rd.next2 0 with⟨hall,hn⟩|⟨G,S,X,hn,s,dY,R,hit,gI⟩
  ·have HD:=h_ (HS.done hall);have gQ:=h_ HS.rd.bl;clear hall HS;go_wp2;go_ret;exact⟨d+1,d,H,C,rfl,HD.1,HD.2.1,HD.2.2,gQ.out⟩
  ·have hn0r:d+1+1<wr.heap.size:=(i_ HS.rd.iter).1;have Sn:=s.size;have Jl:Below w.heap.size w X:=HS.rd.bl.trans (s.below (by rw[<-BK.out];omega) (λk s=>by rw[S_.1 s,<-BK.out];omega));have K:=(HX.below Jl).grps G S;have g1:=cell_of_row X G.gb 1 _ _ _ K.blk;have g0:=cell_of_row X G.gb 0 _ _ _ K.blk;have Sd:=h_ (xNh G.nb _ _ X K.nums);obtain⟨Xa,V8⟩:∃Xa,Xa=X.alloc (.map (G.nl.map (enE ekI)).toArray G.nc):=⟨_,rfl⟩;obtain⟨Xb,U⟩:∃Xb,Xb=Xa.alloc (.cells #[.slice none 0 0,.map (some X.heap.size)] 176):=⟨_,rfl⟩;have hxa:X.heap.size<=Xa.heap.size:=by grind
   have Q:Xa.heap.size=X.heap.size+1:=by grind
   have aK:Below X.heap.size X Xa:=by grind
   have DG:Below X.heap.size X Xb:=by grind
   have Pl:Hid (CpSt X G 0 (.slice none 0 0) [] Xb):=h_ ⟨DG,by rw[U,<-Q];exact heap_alloc_new _ _,vT.nil _ _,by
    unfold xV;rw[U,heap_alloc_old _ _ (by omega),V8];exact heap_alloc_new _ _,rfl⟩
   obtain⟨la,lc,Fr⟩:=K.slice;have Jm:=h_ K;have dI:=vz S;have KZ:=HX.few;have g0b:Xb.cell? ⟨G.gb,0,none⟩=some G.v:=by grind
   rw[Fr]at g0b;have Pm:Hid (∀(cb nb:Nat) (v:Value) (ms:List ML) (t:World),Below X.heap.size X t->ms.map (·.p)=G.ms.map (·.p)->t.heap[cb]?=some (.cells #[v,.map (some nb)] 176 (0,0))->zp X.heap.size t v ms->xV ekI t nb G.nl G.nc->X.heap.size<=cb->X.heap.size<=nb->ClSt B w ib M mc gs (d+1) d (d+1+1) (H++[cpG G C cb nb v ms]) (C+1) (seen.push G.born) (t.putObj d (.map (((H.map MG.e)++[(⟨G.name,.pointer (some ⟨cb,0,none⟩),C⟩:KE ByteArray)]).map (enE ekS)).toArray (C+1)))):=h_ λcb nb v ms t hb hp pN hl hn h1 h2=>HS.put S gI s hit hb hp pN hl hn h1 h2 rfl
   have fA:Hid (∀(cb:Nat) (t:World),Below X.heap.size X t->t.cell? ⟨d+1,0,none⟩=some (.map (some d))/\(Instr.mapUpdate 126 (.map (some d)) (.string G.name) (.pointer (some ⟨cb,0,none⟩))).run prog t=.ok () (t.putObj d (.map (((H.map MG.e)++[(⟨G.name,.pointer (some ⟨cb,0,none⟩),C⟩:KE ByteArray)]).map (enE ekS)).toArray (C+1)))):=h_ λcb t hb=>HS.out.out S gI s hb cb
   have D6:=h_ R;have HHB:=h_ Jl;clear s hit gI R Jl K HS hxa DG aK S g0;have V:=h_ V8;have V9:=h_ U;rw[U]at g0b;clear V8 U;go_wp2_with fail;refine Sd.mono ?_;rintro r o ⟨rfl,aR⟩;rw[<-V.out]at aR;subst aR;clear Sd;go_upto_region 9 with fail
   rw[<-V9.out];have tP:=h_ Fr;have LQ:Hid (X.heap.size+2<=Xb.heap.size):=h_ (by rw[V9.out];simp;omega);have hXn:d+1+1<X.heap.size:=by omega
   clear Fr V V9 g0b g1 hn dY Q;obtain⟨A,hA⟩:∃A,A=X.heap.size:=⟨_,rfl⟩;rw[<-hA]at hXn⊢;have L:=h_ hA;clear hA;obtain⟨i0,hi0,bf,aP,be⟩:=info_parts Tryz.info_line;go_loopw [8,40] (λ_ i wy=>∃(k:Nat) (v:Value) (ms:List ML),k<=G.ms.length/\i=.int .i64 k/\Hid (CpSt X G k v ms wy)) (λ_ i _=>G.ms.length-(intOf i).toNat)
   case atStart=>exact⟨0,_,[],n3 _,rfl,Pl⟩
   case round=>
    obtain⟨k,v,ms,s,rfl,b⟩:=hrel;by_cases hltk:k<G.ms.length
    ·have aM:(k:Int)<(G.ms.length:Int):=by omega
     obtain⟨lg,cap,Pn,hlB,cZ,ak⟩:∃lg cap,G.v=.slice (some ⟨lg,0,none⟩) G.ms.length cap/\B<=lg/\lg<X.heap.size/\∀j (D:j<G.ms.length) i u,(xL G.ms[j].g)[i]?=some u->X.cell? ⟨lg,j*38+i,none⟩=some u:=by
      rcases Jm.lines.head with⟨_,e⟩|⟨lg,cap,h1,h2,h3,_,_,h4⟩
      ·rw[e]at hltk;cases hltk
      grind
     rw[tP.out]at Pn;cases Pn;obtain⟨o1,d1⟩:=jv (w:=wr) (g:=lg) (off:=k*38) (l:=G.ms[k].g) (λi u hu=>(b.bl.cell (p:=⟨lg,k*38+i,none⟩) cZ).trans (ak k hltk i u hu));have aW:G.ms[k]∈G.ms:=by simp
     have fj:=xG1 (Jm.good _ aW);have Bs:=h_ ((Jm.lines.refs _ aW).below b.bl);have cD:Hid ((G.ms.take (k+1)).map (·.p)=(G.ms.take k).map (·.p)++[G.ms[k].p]):=h_ (by rw[d0 hltk,L8];rfl);have Po:ms.length=k:=by
      have:=congrArg List.length b.ps;grind
     generalize G.ms[k]=m at o1 d1 fj Bs cD;obtain⟨va,vn,vc,V_⟩:∃a n c,v=.slice a n c:=zd b.row.lin.row;subst V_;have bG:=Bs.one;have aU:=zJ (g:=m.g) bG;have lS:((x9 xK).size==38)=true:=by rw[xO];rfl
     obtain⟨f,E⟩:∃f,f=wr.alloc (.cells (x9 m.g) 70):=⟨_,rfl⟩;have Jn:Below wr.heap.size wr f:=by grind
     have Ls:y4 f wr.heap.size m.g:=by rw[E];exact heap_alloc_new _ _
     have Gr:f.heap[X.heap.size+1]?=some (.cells #[.slice va vn vc,.map (some X.heap.size)] 176 (0,0)):=(Jn.block _ (i_ b.blk).1).trans b.blk;have Wb:X.heap.size+1<wr.heap.size:=by grind
     have fQ:f.drew.cell? ⟨A+1,0,none⟩=some (.slice va vn vc)/\xp f.drew ⟨wr.heap.size,0,none⟩ 38=true/\xo f.drew ⟨wr.heap.size,0,none⟩ 38=x9 m.g:=by
      rw[L.out];exact⟨cell_of_row f (X.heap.size+1) 0 _ _ _ Gr,Ls.rd.1,Ls.rd.2⟩
     haveI:Nonempty (InCp (A+1) wr.heap.size (.slice va vn vc) m.g):=⟨⟨_,fQ⟩⟩
     have z1:∀z:InCp (A+1) wr.heap.size (.slice va vn vc) m.g,z.1.cell? ⟨A+1,0,none⟩=some (.slice va vn vc):=λz=>z.2.1
     have z2:∀z:InCp (A+1) wr.heap.size (.slice va vn vc) m.g,xp z.1 ⟨wr.heap.size,0,none⟩ 38=true:=by grind
     have z3:∀z:InCp (A+1) wr.heap.size (.slice va vn vc) m.g,xo z.1 ⟨wr.heap.size,0,none⟩ 38=x9 m.g:=by grind
     have CR:=h_ E;have BL:=h_ fQ;have mE:=h_ Jn;clear E Ls Gr fQ ak Jn;go_upto_region 11 with fail
     rw[<-CR.out];refine xz [0,1,2,3,4,5] [6,7,8,9,10,11] (λw'=>∃z:InCp (A+1) wr.heap.size (.slice va vn vc) m.g,w'=z.1) ⟨⟨_,BL.out⟩,rfl⟩ ?_;simp only[o_]
     repeat (go_big_quiet_step (fail))
     refine wpQuiet_nil ?_;clear z1 z2 z3 o1 d1;have cG:Below wr.heap.size wr f.drew:=mE.drew;have hsd:wr.heap.size<f.drew.heap.size:=by grind
     generalize f.drew=Wd at BL cG hsd⊢;have iC:=h_ cG;have cX:A+1<wr.heap.size:=by grind
     have dV:=h_ (xEc B m.g m.p.ids Wd (Bs.below cG) (by omega));clear cG mE CR Bs;refine xWl true ?_;simp only[o_];go_wp2_with fail;refine dV.mono ?_;rintro r o ⟨v',rfl,pR,F⟩;obtain⟨x,hx⟩:∃x:ML,x=⟨m.p,v'⟩:=⟨_,rfl⟩;have Pp:({ m.g with refs:=v' }:jp)=x.g:=by rw[hx];rfl
     have Jo:x.p=m.p:=by rw[hx]
     have Pq:x.v=v':=by rw[hx]
     rw[Pp];have iH:Hid (yJ Wd.heap.size o x.v x.p.ids):=h_ (by rw[Jo,Pq];exact pR);have Wc:=h_ Jo;have o8:∀u∈xL x.g,u.oneCell'=true:=uA (g:=x.g) (by show x.v.oneCell'=true;exact iH.one);have BM:=h_ o8;have ax:Hid (Below wr.heap.size wr o):=h_ (iC.trans (F.mono iC.size));have Jp:Hid (∃z:InCp (A+1) wr.heap.size (.slice va vn vc) m.g,o=z.1):=h_ (InCp.same BL.out (F.block _ (by omega)) (F.block _ (by omega)));have dB:Wd.heap.size<=o.heap.size:=F.size;clear pR F hx Pp Jo Pq o8 dV;go_wp2_with fail;refine⟨λ_=>Jp.out,xWl true ?_⟩;simp only[o_];go_wp2_with fail;have il:Below o.heap.size o (o.alloc (.cells (x9 x.g) 70)):=by grind
     have ao:Below wr.heap.size wr (o.alloc (.cells (x9 x.g) 70)):=by grind
     have oR:∃z:InCp (A+1) wr.heap.size (.slice va vn vc) m.g,o.alloc (.cells (x9 x.g) 70)=z.1:=by
      obtain⟨z,hz⟩:=Jp.out;refine InCp.same (w:=o) ?_ (heap_alloc_old _ _ (by omega)) (heap_alloc_old _ _ (by omega));grind
     have nP:=h_ oR;have J:=h_ ao;have dJ:∀j,(o.alloc (.cells (x9 x.g) 70)).cell? ⟨o.heap.size,j,none⟩=(x9 x.g)[j]?:=by simp
     have BF:=h_ dJ;have Jq:=h_ (iH.below il);have iq:(o.alloc (.cells (x9 x.g) 70)).heap.size=o.heap.size+1:=by simp
     generalize o.alloc (.cells (x9 x.g) 70)=w3 at nP J BF Jq iq⊢;clear il ao oR dJ;refine⟨λ_=>nP.out,xWl true ?_⟩;simp only[o_];have eU:vT X.heap.size w3 (.slice va vn vc) ms:=⟨b.row.lin.below J.out,b.row.apart⟩;have ll:=h_ eU;have ae:=eU.lin.row;rw[Po]at ae;have Ez:X.heap.size<=wr.heap.size:=b.bl.size;refine wpList_append_own _ rfl (.tmp 48) (.tmp 51) 132 rfl X.heap.size 70 i0 (.agg (x9 xK)) 38 112 underlying132 hi0 bf aP be (xO _) (by decide) _ _ _ rfl ae ⟨o.heap.size,0,none⟩ 1 1 (xL x.g) rfl (yr _) ?c1 BM.out ?c3 ?c4 ?c5 ?_
     case c1=>
      intro j u D;rw[l8,m0,BF.out];grind [x9]
     case c3=>unfold maxLen;omega
     case c4=>omega
     case c5=>omega
     intro v2 q mZ Y _;have Z:∀k,(Value.slice va vn vc).ownBlock=some k->∃c,w3.heap[k]?=some (.cells c 70 (0,0)):=by grind [xS]
     have aQ:Below wr.heap.size wr q\/True:=.inr trivial;have aG:∀k,k<w3.heap.size->(Value.slice va vn vc).ownBlock≠some k->q.heap[k]?=w3.heap[k]?:=λk s hne=>Y.block k s (λe=>hne e.symm)
     have We:w3.heap[X.heap.size+1]?=some (.cells #[.slice va vn vc,.map (some X.heap.size)] 176 (0,0)):=(J.block _ Wb).trans b.blk;have Pr:(Value.slice va vn vc).ownBlock≠some (X.heap.size+1):=λe=>by simp_all
     have Ps:(Value.slice va vn vc).ownBlock≠some wr.heap.size:=λe=>by
      have:=(s5 b.row.lin.row _ e).2;omega
     have Pt:(Value.slice va vn vc).ownBlock≠some X.heap.size:=λe=>by
      obtain⟨c,hc⟩:=Z _ e;have hm:=b.nums;grind [xV]
     have T:∃z:InCp (A+1) wr.heap.size (.slice va vn vc) m.g,q=z.1:=by
      obtain⟨z,hz⟩:=nP.out;refine InCp.same (w:=w3) (by rw[hz];exact z.2) (aG _ (by omega) (by rw[L.out];exact Pr)) (aG _ (by omega) Ps)
     have sZ:q.heap[A+1]?=some (.cells #[.slice va vn vc,.map (some X.heap.size)] 176 (0,0)):=by grind
     have s9:vT X.heap.size q v2 (ms++[x]):=by
      have b8:vT X.heap.size Wd (.slice va vn vc) ms:=⟨b.row.lin.below iC.out,b.row.apart⟩;refine b8.snoc (by rw[Po];exact mZ) (λy hy=>xE4 (ll.lin.refs y hy) Y Z) (xE4 (Jq.mono (by omega)) Y Z) (λk s=>(iH.lt s).1)
     have Ee:Below X.heap.size X q:=(b.bl.trans (J.mono Ez)).grown Y (by omega) (λj D=>(s5 b.row.lin.row j D).1);obtain⟨v2a,v2n,v2c,V_⟩:∃a n c,v2=.slice a n c:=zd mZ;subst V_;have rR:=cell_of_row q (A+1) 0 _ _ _ sZ;have wP:=frozen_of_row q (A+1) 0 _ _ sZ
     have dj:Hid (CpSt X G (k+1) (.slice v2a v2n v2c) (ms++[x]) (q.setCell ⟨A+1,0,none⟩ (.slice v2a v2n v2c))):=h_ (by
      have ho:∀j,j≠A+1->(q.setCell ⟨A+1,0,none⟩ (.slice v2a v2n v2c)).heap[j]?=q.heap[j]?:=λj D=>heap_setCell_other q ⟨A+1,0,none⟩ j _ D
      have aB:=heap_setCell_same q (A+1) 0 _ _ (.slice v2a v2n v2c) sZ;refine⟨Ee.setCell (p:=⟨A+1,0,none⟩) (by show _<=A+1;rw[L.out];omega) _,by rw[<-L.out]at aB⊢;exact aB,s9.keep (λj D=>ho j λe=>?_) (λy hy j D=>ho j λe=>?_),?_,?_⟩
      ·obtain⟨c,hc⟩:=xS s9.lin.row D;grind
      ·obtain⟨c,hc⟩:=(s9.lin.refs y hy).typed D;grind
      ·unfold xV;rw[ho _ (by rw[L.out];omega),aG _ (by omega) Pt,J.block _ (by omega)];exact b.nums
      ·rw[cD.out,L8,b.ps];simp[Wc.out])
     have Dh:=h_ T;clear mZ Y Z aG We Pr Ps Pt T sZ s9 Ee ae eU b nP J Jq BF ll iH aQ;go_wp2_with fail;refine⟨λ_=>Dh.out,yE ?_⟩;simp only[o_];go_wp2;refine T_ ?_;go_wp2;go_roundw
     case rel=>exact⟨k+1,_,_,by omega,by go_num,dj⟩
     case measure=>simp[intOf];omega
    ·have aM:¬ (k:Int)<(G.ms.length:Int):=by omega
     have f_:ms.map (·.p)=G.ms.map (·.p):=by
      have:=b.ps;grind
     have Bg:=h_ (Pm.out (X.heap.size+1) X.heap.size v ms wr b.bl f_ b.blk b.row.lin b.nums (by omega) (w_ _));obtain⟨p1,p2⟩:=fA.out (X.heap.size+1) wr b.bl;rw[<-L.out]at p2 Bg;generalize (Obj.map (((H.map MG.e)++[(⟨G.name,.pointer (some ⟨A+1,0,none⟩),C⟩:KE ByteArray)]).map (enE ekS)).toArray (C+1))=O at p2 Bg;clear b f_ Pm fA Pl;go_wp2;go_roundw
     case rel=>exact⟨_,_,_,Bg⟩
     case measure=>
      rw[Pg.out,xUn Bg.rd.iter];exact D6.out
end Go.Proofs.YtdhapkeimaljfaaGreatDoor
namespace Go.Proofs.YtdhapkeimaljfaaGreatDoor
open Go Go.RowKit Go.Proofs Tryz
section
def qF:=lx_ 107
def qe:=sx_ 107
def xFa:=@yh prog 107 4 isAgg107 sizeOf107
def xF4:=@yk prog 107 4 (by kernel_rfl)
theorem yX.base {B B' w v}(h:yX B w v)(a:B'<=B):yX B' w v:=⟨h.blk,h.map,h.ne,R_ a h.pB,R_ a h.MB,h.vals⟩
theorem yN.base {B B' w v}(h:yN B w v)(a:B'<=B):yN B' w v:=⟨h.blk,h.map,h.ne,R_ a h.pB,R_ a h.MB,h.vals⟩
theorem zp.base {B B' w v ms}(h:zp B w v ms)(a:B'<=B):zp B' w v ms:=⟨zi h.row a,λm b=>(h.refs m b).mono a⟩
theorem ui.base {B B' w G}(h:ui B w G)(a:B'<=B):ui B' w G:=⟨h.blk,h.lines.base a,h.nums,h.agree,h.ids,h.sorted,h.good,h.named,h.some',R_ a h.gbB,R_ a h.nbB⟩
theorem y5.base {B B' w ib M mc gs}(h:y5 B w ib M gs mc)(a:B'<=B):y5 B' w ib M gs mc:=⟨h.blk,h.map,h.names,λG b=>(h.grps G b).base a,h.apart,h.born,h.young,h.few,R_ a h.ibB,R_ a h.MB⟩
theorem y5.kept {B w w' ib M mc gs F}(h:y5 B w ib M gs mc)(d:Kept F w w')(f:∀k∈F,k<B):y5 B w' ib M gs mc:=
 h.keep (λk a=>d.block k (h.foot_lt k a).2 (λb=>by have:=f k b;have:=(h.foot_lt k a).1;omega))
  (λG e m c k a=>d.block k (((h.grps G e).lines.refs m c).lt a).2 (λb=>by have:=f k b;have:=(((h.grps G e).lines.refs m c).lt a).1;omega))
structure Prt where
 h:Hst
 s:Spo
 t:Tbl
 ib:Nat
 M:Nat
 gs:List MG
 mc:Nat
def xR (x:Prt):Array Value:=#[.pointer (some ⟨x.h.p,0,none⟩),.pointer (some ⟨x.s.p,0,none⟩),.pointer (some ⟨x.t.p,0,none⟩),.pointer (some ⟨x.ib,0,none⟩)]
structure PC where
 hes:List (Id32×Value)
 cut:Int
 ses:List (Id32×Value)
 budget:Nat
 bytes:Nat
 next:Nat
 tc:TF
 tn:Nat
 lf:LF
def kvs (es:List (KE Id32)):List (Id32×Value):=es.map λe=>(e.k,e.v)
def Prt.pc (x:Prt):PC:=⟨kvs x.h.es,x.h.cut,kvs x.s.es,x.s.budget,x.s.bytes,x.s.next,x.t.c,x.t.gs.length,lfOf x.gs⟩
def qH (b:Nat):PC:=⟨[],0,[],b,0,0,λ_=>none,0,λ_=>[]⟩
structure u9 (B:Nat)(w:World)(x:Prt):Prop where
 h:yX B w x.h
 s:yN B w x.s
 t:yC B w x.t
 o:y5 B w x.ib x.M x.gs x.mc
structure vh (b c1 c2 c3:Nat)(w:World)(x:Prt):Prop where
 h:yX b w x.h
 hl:∀k∈x.h.foot,k<c1
 s:yN c1 w x.s
 sl:∀k∈x.s.foot,k<c2
 t:yC c2 w x.t
 tl:∀k∈x.t.foot,k<c3
 o:y5 c3 w x.ib x.M x.gs x.mc
 b1:b<=c1
 b2:c1<=c2
 b3:c2<=c3
theorem vh.at {b c1 c2 c3 w x}(h:vh b c1 c2 c3 w x):u9 b w x:=
 ⟨h.h,h.s.base h.b1,h.t.base (R_ h.b1 h.b2),h.o.base (R_ (R_ h.b1 h.b2) h.b3)⟩
theorem u9.below {B w w' x}(h:u9 B w x)(a:Below w.heap.size w w'):u9 B w' x:=⟨h.h.below a,h.s.below a,h.t.below a,h.o.below a⟩
theorem u9.base {B B' w x}(h:u9 B w x)(a:B'<=B):u9 B' w x:=⟨h.h.base a,h.s.base a,h.t.base a,h.o.base a⟩
theorem vh.below {b c1 c2 c3 w w' x}(h:vh b c1 c2 c3 w x)(a:Below w.heap.size w w'):vh b c1 c2 c3 w' x:=
 ⟨h.h.below a,h.hl,h.s.below a,h.sl,h.t.below a,h.tl,h.o.below a,h.b1,h.b2,h.b3⟩
theorem u9.kept {B w w' x F}(h:u9 B w x)(c:Kept F w w')(d:∀k∈F,k<B):u9 B w' x:=by
 refine⟨h.h.kept c λk b a=>?_,h.s.kept c λk b a=>?_,h.t.kept c λk b a=>?_,h.o.kept c d⟩
 ·have:=d k a;simp[Hst.foot]at b;have:=h.h.pB;have:=h.h.MB;omega
 ·have:=d k a;simp[Spo.foot]at b;have:=h.s.pB;have:=h.s.MB;omega
 ·have:=d k a;have:=(h.t.foot_lt k b).1;omega
theorem yX.agree {B w w' v}(h:yX B w v)(ha:∀k,B<=k->k<w.heap.size->w'.heap[k]?=w.heap[k]?):yX B w' v:=⟨(ha _ h.pB h.lt.1).trans h.blk,(ha _ h.MB h.lt.2).trans h.map,h.ne,h.pB,h.MB,h.vals⟩
theorem yN.agree {B w w' v}(h:yN B w v)(ha:∀k,B<=k->k<w.heap.size->w'.heap[k]?=w.heap[k]?):yN B w' v:=⟨(ha _ h.pB h.lt.1).trans h.blk,(ha _ h.MB h.lt.2).trans h.map,h.ne,h.pB,h.MB,h.vals⟩
theorem yC.agree {B w w' v}(h:yC B w v)(ha:∀k,B<=k->k<w.heap.size->w'.heap[k]?=w.heap[k]?):yC B w' v:=
 ⟨(ha _ h.pB h.lt.1).trans h.blk,(ha _ h.MB h.lt.2).trans h.map,h.pB,h.MB,λg a=>xHo (h.ivs g a) ha,h.names,h.apart,h.young,h.births⟩
theorem u9.agree {B w w' x}(h:u9 B w x)(ha:∀k,B<=k->k<w.heap.size->w'.heap[k]?=w.heap[k]?):u9 B w' x:=
 ⟨h.h.agree ha,h.s.agree ha,h.t.agree ha,h.o.keep (λk a=>ha k (h.o.foot_lt k a).1 (h.o.foot_lt k a).2) (λG c m b k a=>ha k (((h.o.grps G c).lines.refs m b).lt a).1 (((h.o.grps G c).lines.refs m b).lt a).2)⟩
def kY (B T:Nat)(w:World)(x:Prt):Prop:=∀w':World,(∀k,B<=k->k<T->w'.heap[k]?=w.heap[k]?)->u9 B w' x
theorem u9.in {B w x}(h:u9 B w x):kY B w.heap.size w x:=λ_ ha=>h.agree ha
theorem kY.at {B T w x}(h:kY B T w x):u9 B w x:=h w λ_ _ _=>rfl
theorem kY.kept {B T w w' x F}(h:kY B T w x)(b:Kept F w w')(e:T<=w.heap.size)(d:∀k∈F,k<B\/T<=k):kY B T w' x:=λa ha=>h a λk h1 h2=>(ha k h1 h2).trans (b.block k (by omega) (λc=>by have:=d k c;omega))
theorem kY.below {B T w w' x}(h:kY B T w x)(a:Below w.heap.size w w')(b:T<=w.heap.size):kY B T w' x:=h.kept (Kept.of_below (F:=[]) a) b (by simp)
def uE:Array Value:=#[.pointer none,.pointer none,.pointer none,.pointer none]
theorem qf (ρ:Operand->Value)(d)(ty:TypeId)(pos af g w):
  Sem.run prog (execOp ρ ⟨d,.alloc 107,ty,pos,af,g⟩) w=.ok (.value (.pointer (some ⟨w.heap.size,0,none⟩))) (w.alloc (.cells uE 107)):=by kernel_rfl
theorem xAb (a b c d)(ha:a.oneCell'=true)(g:b.oneCell'=true)(f:c.oneCell'=true)(e:d.oneCell'=true):xt 4 #[a,b,c,d]=true:=by grind [xt]
theorem xNd {P fn p ty n}(h:fn.results=#[.cell p ty])(c:∀w,Sem.run P (isAgg ty) w=.ok true w)(hs:∀w,Sem.run P (Go.sizeOf ty) w=.ok n w)
  (tmps) (w) (a) (cs) (b:tmps.getD p undef=.pointer (some a)) (e:xp w a n=true) (d:xo w a n=cs):
  (results fn tmps).run P w=.ok (.agg cs) w:=vZ h c hs tmps w a cs b e d
attribute [local go_sem ↓] qF qe qf
attribute [local go_sem] xFa xF4 zr zx yA yz xh xg xe xd xx xy xk xj xq xB xw
theorem xQx (n:Nat)(h1:1<=n)(h2:n<=1073741824)(w):Calls prog 43 #[.int .i64 n] w λe w'=>Below w.heap.size w w'/\∃x,e=.returned (.tuple #[.agg (xR x),.int .i64 0])/\u9 w.heap.size w' x/\x.pc=qH n/\x.gs=[]:=by
 obtain⟨a,E⟩:∃a,a=w.alloc (.cells uE 107):=⟨_,rfl⟩;have G:Below w.heap.size w a:=by grind
 have K:a.heap[w.heap.size]?=some (.cells uE 107 (0,0)):=by grind
 have HS:=h_ (yDl n h1 h2 a);have S:=h_ G;have l:=h_ K;clear h1 h2 G K;go_enter func43,ntmps43;go_upto_region 1 with fail
 refine xm E ?_;clear E;go_wp2_with fail;refine HS.mono ?_;rintro e i ⟨F,rfl,z⟩;have R:=h_ F;have y:=h_ z;clear F z HS;go_wp2_with fail;refine(xLv i).mono ?_;rintro e h ⟨D,rfl,s⟩;have J:=h_ D;have Y:=h_ s;clear D s;go_wp2_with fail;refine(xMs h).mono ?_;rintro e c ⟨I,rfl,N⟩;have m:=h_ I;have W:=h_ N;clear I N;go_wp2_with fail;refine(xZi c).mono ?_;rintro e b ⟨rfl,A⟩;have f:=xL9 c;have o:=xZf c;rw[A]at f o;have p:=S.size;have V:=R.size;have X:=J.size;have U:=m.size;have T:=y.lt;obtain⟨x,hx⟩:∃x:Prt,x=⟨⟨i.heap.size+1,i.heap.size,[],0,0⟩,⟨a.heap.size+1,a.heap.size,[],0,n,0,0⟩,⟨h.heap.size+1,h.heap.size,[],0⟩,c.heap.size+1,c.heap.size,[],0⟩:=⟨_,rfl⟩;have C:u9 a.heap.size b x:=by
  rw[hx];exact⟨((Y.below m.out).below f).base (by omega),(((y.below J.out).below m.out).below f).base (by omega),(W.below f).base (by omega),o.base (by omega)⟩
 have M:Below a.heap.size a b:=by grind
 have j:=(M.block _ (i_ l.out).1).trans l.out;have Z:xN b w.heap.size 4=true:=za j rfl;obtain⟨cs,g⟩:∃cs,cs=xR x:=⟨_,rfl⟩;have u:=setRow_heap b w.heap.size _ cs _ _ j;have aU:xt 4 cs=true:=by rw[g];exact xAb _ _ _ _ rfl rfl rfl rfl
 have H:cs.size=4:=by rw[g];rfl
 obtain⟨t,q⟩:=xF (n:=4) u H;have r:Below w.heap.size w b:=by grind
 have O:=(i_ l.out).1;have L:u9 w.heap.size (b.setRow w.heap.size cs) x:=(C.kept (jP b w.heap.size cs) (λk P=>by rw[S_.1 P];exact O)).base p;have B:x.pc=qH n/\x.gs=[]:=by rw[hx];exact⟨rfl,rfl⟩
 have d:=h_ (And.intro (xH r (w_ _) cs) (And.intro L (And.intro B (And.intro t q))));have Wj:#[Value.pointer (some ⟨i.heap.size+1,0,none⟩),.pointer (some ⟨a.heap.size+1,0,none⟩),.pointer (some ⟨h.heap.size+1,0,none⟩),.pointer (some ⟨c.heap.size+1,0,none⟩)]=cs:=by rw[g,hx];rfl
 have Q:=h_ g;clear f o p V X U T C M j u H t q r O L B hx g A;go_wp2;refine bodyPost_ret (v:=.tuple #[.agg cs,.int .i64 0]) (uR rfl isAgg107 sizeOf107 _ _ ⟨w.heap.size,0,none⟩ _ _ rfl rfl d.2.2.2.1 d.2.2.2.2) rfl ⟨d.1,x,by rw[Q.out],d.2.1,d.2.2.1.1,d.2.2.1.2⟩
theorem ux {w:World}{b cs}{t:TypeId}(h:w.heap[b]?=some (.cells cs t (0,0)))(j u):(w.setCell ⟨b,j,none⟩ u).heap[b]?=some (.cells (cs.setIfInBounds j u) t (0,0)):=heap_setCell_same w b j cs t u h
theorem xT7 {B w x}(h:u9 B w x)(cZ:∀k c,x.pc.tc k=some c->c.ivs.length<=1000000):Calls prog 51 #[.agg (xR x)] w λe w'=>Below w.heap.size w w'/\∃x' c1 c2 c3,e=.returned (.agg (xR x'))/\vh w.heap.size c1 c2 c3 w' x'/\x'.pc=x.pc:=by
 have cO:=h_ cZ;clear cZ;obtain⟨b,X⟩:∃b,b=w.heap.size:=⟨_,rfl⟩;obtain⟨S,D⟩:∃p,p=Value.pointer (some ⟨x.h.p,0,none⟩):=⟨_,rfl⟩;obtain⟨E,U⟩:∃p,p=Value.pointer (some ⟨x.s.p,0,none⟩):=⟨_,rfl⟩;obtain⟨y,W⟩:∃p,p=Value.pointer (some ⟨x.t.p,0,none⟩):=⟨_,rfl⟩;obtain⟨u,T⟩:∃p,p=Value.pointer (some ⟨x.ib,0,none⟩):=⟨_,rfl⟩;have Wj:xR x=#[S,E,y,u]:=by rw[D,U,W,T];rfl
 rw[Wj];obtain⟨r,aj⟩:∃r,r=(w.alloc (.cells #[S,E,y,u] 107)).alloc (.cells uE 107):=⟨_,rfl⟩;have aa:Below w.heap.size w r:=by grind
 have aH:r.heap[b]?=some (.cells #[S,E,y,u] 107 (0,0)):=by grind
 have aI:r.heap[b+1]?=some (.cells uE 107 (0,0)):=by grind
 have aP:r.heap.size=b+2:=by grind
 have fM:=h.below aa;have HH:=h_ (xLx fM.h);rw[<-D]at HH;have c1:=cell_of_row r b 0 _ _ _ aH;simp only[v_]at c1;have H:=h_ h;have aq:=h_ aa;have eu:=h_ aH;have mM:=h_ aI;have wK:=h_ aP;have HP:=h_ (And.intro D (And.intro U (And.intro W T)));have iC:=h_ X;have lR:S.oneCell'=true:=by rw[D];rfl
 have hk1:E.oneCell'=true:=by rw[U];rfl
 have hk2:y.oneCell'=true:=by rw[W];rfl
 have bz:u.oneCell'=true:=by rw[T];rfl
 have ny:Hid (b=w.heap.size):=h_ X;clear h aa aH aI aP fM D U W T Wj;go_enter func51,ntmps51;go_upto_region 1 with fail
 refine xm aj ?_;rw[<-X];clear aj X;go_wp2_with fail;refine HH.mono ?_;rintro e Q ⟨Y,d,rfl,Z,iN,iA,De⟩;have aF:=(Y.block _ (i_ eu.out).1).trans eu.out;have aE:=(Y.block _ (i_ mM.out).1).trans mM.out;have f2:=frozen_of_row Q b 0 _ _ aF;have d2:=cell_of_row Q b 0 _ _ _ aF;simp only[v_]at d2;obtain⟨j,bQ⟩:∃j,j=Q.setCell ⟨b,0,none⟩ (Value.pointer (some ⟨d.p,0,none⟩)):=⟨_,rfl⟩;have Jr:Kept [b] Q j:=by grind
 have ao:Below w.heap.size w j:=by grind
 have bI:j.heap[b]?=some (.cells #[(Value.pointer (some ⟨d.p,0,none⟩)),E,y,u] 107 (0,0)):=by grind
 have bW:j.heap[b+1]?=some (.cells uE 107 (0,0)):=by grind
 have p9:yX (b+2) j d:=(Z.kept Jr (λk a=>by have:=Z.pB;have:=Z.MB;have:=wK.out;simp[Hst.foot]at a;simp;omega)).base (by rw[wK.out];exact w_ _);have pZ:=H.below ao;have HS:=h_ (xX5 pZ.s);rw[<-HP.2.1]at HS;have c3:=cell_of_row j b 1 _ _ _ bI;simp only[v_]at c3;have aJ:=h_ ao;have mO:=h_ bI;have F8:=h_ bW;have CK:=h_ p9;have HE:=h_ (And.intro iN (And.intro iA De));have R:Hid (b+2<=j.heap.size):=h_ (by have:=Jr.size;have:=Y.size;have:=wK.out;omega);have KS:(Value.pointer (some ⟨d.p,0,none⟩)).oneCell'=true:=rfl;clear Y Z iN iA De aF aE Jr ao bI bW p9 pZ HH c1;go_upto_region 2 with fail
 refine xm bQ ?_;clear bQ f2 d2;go_wp2_with fail;refine HS.mono ?_;rintro e P ⟨J,s',rfl,V,fP,G,i9,pL,Ag⟩;have dN:=(J.block _ (i_ mO.out).1).trans mO.out;have n_:=(J.block _ (i_ F8.out).1).trans F8.out;have f4:=frozen_of_row P b 1 _ _ dN;have d4:=cell_of_row P b 1 _ _ _ dN;simp only[v_]at d4;obtain⟨i,cC⟩:∃i,i=P.setCell ⟨b,1,none⟩ (Value.pointer (some ⟨s'.p,0,none⟩)):=⟨_,rfl⟩;have EB:Kept [b] P i:=by grind
 have aO:Below w.heap.size w i:=by grind
 have ik:i.heap[b]?=some (.cells #[(Value.pointer (some ⟨d.p,0,none⟩)),(Value.pointer (some ⟨s'.p,0,none⟩)),y,u] 107 (0,0)):=by grind
 have pO:i.heap[b+1]?=some (.cells uE 107 (0,0)):=by grind
 have LZ:yX (b+2) i d:=(CK.below J).kept EB (λk a=>by have:=CK.pB;have:=CK.MB;simp[Hst.foot]at a;simp;omega);have sO:yN j.heap.size i s':=V.kept EB (λk a=>by have:=V.pB;have:=V.MB;have:=R.out;simp[Spo.foot]at a;simp;omega);have HHL:Hid (∀k∈d.foot,k<j.heap.size):=h_ (λk a=>by have:=CK.lt;simp[Hst.foot]at a;omega);have gg:=H.below aO;have HT:=h_ (xYw gg.t (λg hg=>cO.out g.name g.c (by show (tOf x.t.gs g.name).map _=_;rw[yD9 gg.t.names hg];rfl)));rw[<-HP.2.2.1]at HT;have c5:=cell_of_row i b 2 _ _ _ ik;simp only[v_]at c5;have bR:=h_ aO;have EC:=h_ ik;have q_:=h_ pO;have Wk:=h_ LZ;have C9:=h_ sO;have HG:=h_ (And.intro fP (And.intro G (And.intro i9 (And.intro pL Ag))));have ED:Hid (j.heap.size<=i.heap.size):=h_ (R_ J.size EB.size);have rB:(Value.pointer (some ⟨s'.p,0,none⟩)).oneCell'=true:=rfl;clear J V fP G i9 pL Ag dN n_ EB aO ik pO LZ sO gg HS c3;go_upto_region 3 with fail
 refine xm cC ?_;clear cC f4 d4;go_wp2_with fail;refine HT.mono ?_;rintro e O ⟨A,t',rfl,Wl,Pw,SB⟩;have eE:=(A.block _ (i_ EC.out).1).trans EC.out;have eJ:=(A.block _ (i_ q_.out).1).trans q_.out;have f6:=frozen_of_row O b 2 _ _ eE;have d6:=cell_of_row O b 2 _ _ _ eE;simp only[v_]at d6;obtain⟨f,fK⟩:∃f,f=O.setCell ⟨b,2,none⟩ (Value.pointer (some ⟨t'.p,0,none⟩)):=⟨_,rfl⟩;have I:Kept [b] O f:=by grind
 have co:Below w.heap.size w f:=by grind
 have oo:f.heap[b]?=some (.cells #[(Value.pointer (some ⟨d.p,0,none⟩)),(Value.pointer (some ⟨s'.p,0,none⟩)),(Value.pointer (some ⟨t'.p,0,none⟩)),u] 107 (0,0)):=by grind
 have eX:f.heap[b+1]?=some (.cells uE 107 (0,0)):=by grind
 have LY:yX (b+2) f d:=(Wk.below A).kept I (λk a=>by have:=Wk.pB;have:=Wk.MB;simp[Hst.foot]at a;simp;omega);have F:yN j.heap.size f s':=(C9.below A).kept I (λk a=>by have:=C9.pB;have:=C9.MB;have:=R.out;simp[Spo.foot]at a;simp;omega);have Wm:yC i.heap.size f t':=Wl.kept I (λk a=>by have:=(Wl.foot_lt k a).1;have:=R.out;have:=ED.out;simp;omega);have tA:Hid (∀k∈s'.foot,k<i.heap.size):=h_ (λk a=>by have:=C9.lt;simp[Spo.foot]at a;omega);have sT:=H.below co;have HO:=h_ (xH0 B x.ib x.M x.mc x.gs f sT.o);rw[<-HP.2.2.2]at HO;have c7:=cell_of_row f b 3 _ _ _ oo;simp only[v_]at c7;have rf:=h_ co;have Px:=h_ oo;have F_:=h_ eX;have Wn:=h_ LY;have Wo:=h_ F;have L:=h_ Wm;have HTC:=h_ (And.intro Pw SB);have OD:Hid (i.heap.size<=f.heap.size):=h_ (R_ A.size I.size);have HTL:Hid (∀k∈t'.foot,k<f.heap.size):=h_ (λk a=>(Wm.foot_lt k a).2);have eT:(Value.pointer (some ⟨t'.p,0,none⟩)).oneCell'=true:=rfl;clear A Wl Pw SB eE eJ I co oo eX LY F Wm sT HT c5;go_upto_region 4 with fail
 refine xm fK ?_;clear fK f6 d6;go_wp2_with fail;refine HO.mono ?_;rintro e C ⟨l,M2,cF,cM,rfl,nY,DC,BP,z⟩;have iB:=(z.block _ (i_ Px.out).1).trans Px.out;have om:=(z.block _ (i_ F_.out).1).trans F_.out;have f8:=frozen_of_row C b 3 _ _ iB;have d8:=cell_of_row C b 3 _ _ _ iB;simp only[v_]at d8;obtain⟨m,gC⟩:∃m,m=C.setCell ⟨b,3,none⟩ (Value.pointer (some ⟨l,0,none⟩)):=⟨_,rfl⟩;have sg:Kept [b] C m:=by grind
 have gU:Below w.heap.size w m:=by grind
 have Fv:m.heap[b]?=some (.cells #[(Value.pointer (some ⟨d.p,0,none⟩)),(Value.pointer (some ⟨s'.p,0,none⟩)),(Value.pointer (some ⟨t'.p,0,none⟩)),(Value.pointer (some ⟨l,0,none⟩))] 107 (0,0)):=by grind
 have sU:m.heap[b+1]?=some (.cells uE 107 (0,0)):=by grind
 obtain⟨x',tu⟩:∃x':Prt,x'=⟨d,s',t',l,M2,cF,cM⟩:=⟨_,rfl⟩;have K:Kept [b,b+1] C (m.setRow (b+1) #[(Value.pointer (some ⟨d.p,0,none⟩)),(Value.pointer (some ⟨s'.p,0,none⟩)),(Value.pointer (some ⟨t'.p,0,none⟩)),(Value.pointer (some ⟨l,0,none⟩))]):=by grind
 have ep:vh (b+2) j.heap.size i.heap.size f.heap.size (m.setRow (b+1) #[(Value.pointer (some ⟨d.p,0,none⟩)),(Value.pointer (some ⟨s'.p,0,none⟩)),(Value.pointer (some ⟨t'.p,0,none⟩)),(Value.pointer (some ⟨l,0,none⟩))]) x':=by
  have z3:=R.out;have z5:=ED.out;have z7:=OD.out;rw[tu];refine⟨(Wn.below z).kept K (λk a=>?_),HHL.out,(Wo.below z).kept K (λk a=>?_),tA.out,(L.below z).kept K (λk a=>?_),HTL.out,nY.kept K (λk a=>?_),z3,z5,z7⟩
  ·have:=Wn.pB;have:=Wn.MB;simp[Hst.foot]at a;simp;omega
  ·have:=Wo.pB;have:=Wo.MB;simp[Spo.foot]at a;simp;omega
  ·have:=(L.foot_lt k a).1;simp;omega
  ·simp at a;omega
 have bC:x'.pc=x.pc:=by grind [Prt.pc]
 have aB:xR x'=#[(Value.pointer (some ⟨d.p,0,none⟩)),(Value.pointer (some ⟨s'.p,0,none⟩)),(Value.pointer (some ⟨t'.p,0,none⟩)),(Value.pointer (some ⟨l,0,none⟩))]:=by rw[tu];rfl
 have BQ:(Value.pointer (some ⟨l,0,none⟩)).oneCell'=true:=rfl;have aU:xt 4 #[(Value.pointer (some ⟨d.p,0,none⟩)),(Value.pointer (some ⟨s'.p,0,none⟩)),(Value.pointer (some ⟨t'.p,0,none⟩)),(Value.pointer (some ⟨l,0,none⟩))]=true:=by grind [xAb]
 obtain⟨o9,r9⟩:=xF (n:=4) Fv rfl;have aY:xN m (b+1) 4=true:=za sU rfl;obtain⟨SC,SD⟩:=xF (n:=4) (setRow_heap m (b+1) _ #[(Value.pointer (some ⟨d.p,0,none⟩)),(Value.pointer (some ⟨s'.p,0,none⟩)),(Value.pointer (some ⟨t'.p,0,none⟩)),(Value.pointer (some ⟨l,0,none⟩))] _ _ sU) rfl;have N:=h_ (And.intro (xH gU (by rw[ny.out];omega) (g:=b+1) #[(Value.pointer (some ⟨d.p,0,none⟩)),(Value.pointer (some ⟨s'.p,0,none⟩)),(Value.pointer (some ⟨t'.p,0,none⟩)),(Value.pointer (some ⟨l,0,none⟩))]) (And.intro ep (And.intro bC (And.intro SC SD))));have g7:=h_ aB;clear z nY DC BP iB om sg gU Fv sU tu K ep bC aB SC SD HO c7;go_upto_region 5 with fail
 refine xm gC ?_;clear gC f8 d8;go_wp2;refine bodyPost_ret (v:=.agg #[(Value.pointer (some ⟨d.p,0,none⟩)),(Value.pointer (some ⟨s'.p,0,none⟩)),(Value.pointer (some ⟨t'.p,0,none⟩)),(Value.pointer (some ⟨l,0,none⟩))]) (xNd rfl isAgg107 sizeOf107 _ _ ⟨b+1,0,none⟩ _ rfl N.2.2.2.1 N.2.2.2.2) rfl ⟨N.1,x',j.heap.size,i.heap.size,f.heap.size,by rw[g7.out],?_,N.2.2.1⟩;have q:=N.2.1;exact⟨q.h.base (by rw[ny.out];omega),q.hl,q.s,q.sl,q.t,q.tl,q.o,R_ (by rw[ny.out];omega) q.b1,q.b2,q.b3⟩
end
section
def vN:=lx_ 196
def qS:=sx_ 196
def xHu:=@yh prog 196 1 isAgg196 sizeOf196
def xHf:=@yk prog 196 1 (by kernel_rfl)
theorem qY (ρ:Operand->Value)(d)(ty:TypeId)(pos af g w):
  Sem.run prog (execOp ρ ⟨d,.alloc 196,ty,pos,af,g⟩) w=.ok (.value (.pointer (some ⟨w.heap.size,0,none⟩))) (w.alloc (.cells #[.slice none 0 0] 196)):=by kernel_rfl
def WrAt (B:Nat)(w:World)(b:Nat)(l:By):Prop:=B<=b/\∃v,w.heap[b]?=some (.cells #[v] 196 (0,0))/\OwnB w B v l
theorem WrAt.below {B w w' b l}(h:WrAt B w b l)(a:Below w.heap.size w w'):WrAt B w' b l:=by
 obtain⟨h1,v,h2,h3⟩:=h;exact⟨h1,v,(a.block _ (i_ h2).1).trans h2,h3.below a⟩
theorem OwnB.ne {B w v l}(h:OwnB w B v l){b cs}{t:TypeId}{fz}(a:w.heap[b]?=some (.cells cs t fz))(ht:t≠5):v.ownBlock≠some b:=λe=>by
 obtain⟨cur,c⟩:=xS h e;grind
theorem uT {B w v l}(h:OwnB w B v l):∃a n c,v=.slice a n c:=by
 obtain⟨a,c,e⟩:=yK h;exact⟨a,_,c,e⟩
theorem xQ7 (l):Go.Lib.strCells (str l)=encB l:=by
 unfold Go.Lib.strCells str encB;rfl
theorem xB2 (l):(str l).size=l.length:=by
 show l.toArray.size=_
 simp
theorem WrAt.put {B w c a b l l' v v'}(i:B<=b)(d:c.heap[b]?=some (.cells #[v] 196 (0,0)))(ho:OwnB c B v l)(m:Below B w c)(h:c.grownBy a v.ownBlock)(j:OwnB a B v' l'):
  a.heap[b]?=some (.cells #[v] 196 (0,0))/\Below B w (a.setCell ⟨b,0,none⟩ v')/\WrAt B (a.setCell ⟨b,0,none⟩ v') b l':=by
 have n:=(i_ d).1;have f:=ho.ne d (by decide);have g:a.heap[b]?=some (.cells #[v] 196 (0,0)):=(h.block b n (λe=>f e.symm)).trans d;have o:Below B w a:=m.grown h (by omega) (λ_ e=>(ho.lt e).1);have q:=j.ne g (by decide);refine⟨g,o.setCell (p:=⟨b,0,none⟩) i _,i,v',by rw[ux g];rfl,j.grown (grownBy_setCell' a b _) (λk e=>by cases e;exact q)⟩
attribute [local go_sem ↓] vN qS qY xP xI
attribute [local go_sem] xHu xHf zg zj zr zx yA yz xh xg xe xd xx xy xk xj xq xB xw
theorem jr {B w b l}(h:WrAt B w b l)(c)(hl:l.length<=1000000):
  Calls prog 78 #[.pointer (some ⟨b,0,none⟩),.int .u8 c.toNat] w λe w'=>e=.returned (.tuple #[])/\Below B w w'/\WrAt B w' b (l++[c]):=by
 obtain⟨j,v,a,ho⟩:=h;obtain⟨va,vn,vc,hv⟩:=uT ho;have n:=(i_ a).1;have c0:=cell_of_row w b 0 _ _ _ a;simp only[v_]at c0;have d:Below w.heap.size w (w.alloc (.cells #[.int .u8 c.toNat] 5)):=by grind
 have k:=ho.below d;have q:SlB (w.alloc (.cells #[.int .u8 c.toNat] 5)) ⟨w.heap.size,0,none⟩ [c]:=vX w 5 [c];have r:=(d.block _ n).trans a;have m:=h_ k;have y:=h_ q;have t:=h_ r;have A:Hid (Below B w (w.alloc (.cells #[.int .u8 c.toNat] 5))):=h_ (d.mono (by omega));have u:Hid (B<=(w.alloc (.cells #[.int .u8 c.toNat] 5)).heap.size):=h_ (by simp;omega);have z:Hid (l.length+[c].length<=1000000000000):=h_ (by simp;omega);have C:=h_ j;subst hv;clear j a ho n d k q r hl;go_enter func78,ntmps78;go_wp2_with (at_builtin;refine zQ rfl (.tmp 8) (.tmp 10) rfl B _ l rfl m.out ⟨w.heap.size,0,none⟩ [c] 1 rfl y.out z.out u.out ?_);intro v' w' f i _ _;obtain⟨a',n',c',x⟩:=uT f;obtain⟨g,o,p⟩:=WrAt.put C.out t.out m.out A.out i f;subst x;have D:=frozen_of_row w' b 0 _ _ g;have c2:=cell_of_row w' b 0 _ _ _ g;simp only[v_]at c2;have s:=h_ (And.intro o p);clear f i g o p c0;go_wp2;go_end0;exact⟨rfl,s.1,s.2⟩
theorem beB4 (n):beB 4 n=[UInt8.ofNat (n/256 ^ 3),UInt8.ofNat (n/256 ^ 2),UInt8.ofNat (n/256 ^ 1),UInt8.ofNat (n/256 ^ 0)]:=by
 apply bA_;intro j
 match j with
 |0=>rw[U_ (by simp[xu]),jG 4 n 0 (by omega)];rfl
 |1=>rw[U_ (by simp[xu]),jG 4 n 1 (by omega)];rfl
 |2=>rw[U_ (by simp[xu]),jG 4 n 2 (by omega)];rfl
 |3=>rw[U_ (by simp[xu]),jG 4 n 3 (by omega)];rfl
 |j+4=>simp[xu]
theorem jJ {B w b l}(h:WrAt B w b l)(n:Nat)(E:n<=4611686018427387904)(hl:l.length<=1000000):
  Calls prog 110 #[.pointer (some ⟨b,0,none⟩),.int .i64 n] w λe w'=>e=.returned (.tuple #[])/\Below B w w'/\WrAt B w' b (l++beB 4 n):=by
 obtain⟨q,v,d,ho⟩:=h;obtain⟨va,vn,vc,hv⟩:=uT ho;have t:=(i_ d).1;have c0:=cell_of_row w b 0 _ _ _ d;simp only[v_]at c0;rw[beB4];have g:=jj n 3;have i:=jj n 2;have j:=jj n 1;have k:=jj n 0;simp only[Nat.reduceMul,Int.reducePow,Int.pow_zero,Int.ediv_one]at g i j k;generalize UInt8.ofNat (n/256 ^ 3)=b3 at *;generalize UInt8.ofNat (n/256 ^ 2)=b2 at *;generalize UInt8.ofNat (n/256 ^ 1)=b1 at *;generalize UInt8.ofNat (n/256 ^ 0)=b0 at *;obtain⟨a,f⟩:∃a,a=w.alloc (.cells #[.int .u8 b3.toNat,.int .u8 b2.toNat,.int .u8 b1.toNat,.int .u8 b0.toNat] 5):=⟨_,rfl⟩;have c:Below w.heap.size w a:=by grind
 have y:SlB a ⟨w.heap.size,0,none⟩ [b3,b2,b1,b0]:=by rw[f];exact vX w 5 [b3,b2,b1,b0]
 have r:=ho.below c;have z:=(c.block _ t).trans d;have s:=h_ r;have G:=h_ y;have C:=h_ z;have I:Hid (Below B w a):=h_ (c.mono (by omega));have D:Hid (B<=a.heap.size):=h_ (by have:=c.size;omega);have H:Hid (l.length+[b3,b2,b1,b0].length<=1000000000000):=h_ (by simp;omega);have J:=h_ q;rw[g,i,j,k]at f;have L:(n:Int)<=4611686018427387904:=by omega
 have K:=h_ f;subst hv;clear q d ho t c r y z hl g i j k E f;go_enter func110,ntmps110;go_wp2_with (at_builtin;rw[<-K.out];refine zQ rfl (.tmp 8) (.tmp 20) rfl B _ l rfl s.out ⟨w.heap.size,0,none⟩ [b3,b2,b1,b0] 4 rfl G.out H.out D.out ?_);intro v' w' m p _ _;obtain⟨a',n',c',F⟩:=uT m;obtain⟨o,u,x⟩:=WrAt.put J.out C.out s.out I.out p m;subst F;have M:=frozen_of_row w' b 0 _ _ o;have c2:=cell_of_row w' b 0 _ _ _ o;simp only[v_]at c2;have A:=h_ (And.intro u x);clear m p o u x c0;go_wp2;go_end0;exact⟨rfl,A.1,A.2⟩
theorem qo {B w b l}(h:WrAt B w b l)(s)(hs:s.length<=1000000)(hl:l.length<=900000):
  Calls prog 79 #[.pointer (some ⟨b,0,none⟩),.string (str s)] w λe w'=>e=.returned (.tuple #[])/\Below B w w'/\WrAt B w' b (l++beB 4 s.length++s):=by
 have z:=h_ (jJ h s.length (by omega) (by omega));have H:=xB2 s;have J:=h_ hl;have HS:=h_ hs;obtain⟨sb,g⟩:∃sb,sb=str s:=⟨_,rfl⟩;have E:(sb.size:Int)=(s.length:Int):=by grind
 rw[<-g];have C:=h_ g;clear h hs hl H g;go_enter func79,ntmps79;go_wp2_with fail
 try rw[E]
 refine z.mono ?_;rintro e j ⟨rfl,t,n,v,c,ho⟩;obtain⟨va,vn,vc,hv⟩:=uT ho;have c0:=cell_of_row j b 0 _ _ _ c;simp only[v_]at c0;obtain⟨D,k,p,x,q⟩:=info_parts Tryz.info_byte;have d:=h_ (And.intro k (And.intro p (And.intro x q)));have y:=h_ ho;have I:=h_ c;have K:=h_ n;have G:=h_ t;have L:Hid (B<=j.heap.size):=h_ (by have:=(i_ c).1;omega);have a:Hid ((l++beB 4 s.length).length+sb.size<=2000000):=h_ (by have:=J.out;have:=HS.out;simp[xu];omega);subst hv;clear t n c ho k p x q z;go_wp2_with (at_builtin;refine Go.Lib.wpList_append_own_string _ rfl (.tmp 12) (.tmp 13) 23 9 rfl B 5 D underlying23 underlying9 d.1 d.2.1 d.2.2.1 d.2.2.2 _ _ _ rfl y.out sb rfl (by have:=a.out;unfold maxLen;omega) (by have:=a.out;omega) L.out ?_);intro v' w' o m _;have f:OwnB w' B v' (l++beB 4 s.length++s):=by
  rw[C.out,xQ7,xB2]at o;grind [OwnB,List.length_append,encB,beB]
 obtain⟨a',n',c',F⟩:=uT f;obtain⟨i,r,u⟩:=WrAt.put K.out I.out y.out G.out m f;subst F;have M:=frozen_of_row w' b 0 _ _ i;have c2:=cell_of_row w' b 0 _ _ _ i;simp only[v_]at c2;have A:=h_ (And.intro r u);clear o f m i r u c0;go_wp2;go_end0;exact⟨rfl,A.1,A.2⟩
end
section
attribute [local go_sem ↓] vN qS qY
attribute [local go_sem] xHu xHf zr zx yA yz xh xg xe xd xx xy xk xj xq xB xw
theorem xVx {B w v l}(h:OwnB w B v l)(hl:l≠[]):(convert 23 9 v).run prog w=.ok (.string (str l)) w:=by
 rcases h.at with⟨_,b⟩|⟨g,cap,rfl,_,_,_,hs⟩
 ·exact absurd b hl
 ·exact run_convert_bytes_back (P:=prog) w 23 9 5 ⟨g,0,none⟩ cap l underlying23 underlying5 underlying9 (λj a=>hs.cell j _ (U_ a))
def vW (n:Nat):By:=[1]++(beB 4 4++(beB 4 0++(beB 4 16++((beB 8 n++beB 8 0)++(beB 4 0++([]++(beB 4 0++([]++[]))))))))
theorem yQ (n):(vW n).length=37:=by simp[vW,xu]
theorem xK6:(⟨#[]⟩:ByteArray)=str []:=rfl
theorem xKr {B w x}(h:u9 B w x)(hG:Gl w)(n)(f:x.pc=qH n)(dL:x.gs=[])(hn:n<=1073741824)(q)(hq:w.heap[q]?=some (.cells (xR x) 143 (0,0))):
  Calls prog 46 #[.pointer (some ⟨q,0,none⟩)] w λe w'=>Below w.heap.size w w'/\∃u,e=.returned u/\OwnB w' w.heap.size u (vW n):=by
 have wG:x.h.es=[]:=bo_.1 (congrArg PC.hes f);have hcut:x.h.cut=0:=congrArg PC.cut f;have OV:x.s.es=[]:=bo_.1 (congrArg PC.ses f);have d_:x.s.budget=n:=congrArg PC.budget f;have i:x.t.gs=[]:=ap_.1 (congrArg PC.tn f);obtain⟨b,d⟩:∃b,b=w.heap.size:=⟨_,rfl⟩;obtain⟨A,T⟩:∃A,A=w.alloc (.cells #[.slice none 0 0] 196):=⟨_,rfl⟩;have aa:Below b w A:=by grind
 have lI:WrAt b A b []:=⟨w_ _,_,by rw[T,d];exact heap_alloc_new w _,OwnB.nil _ _⟩;have X:=h_ (jr lI 1 (by simp));have aq:=h_ aa;have H:=h_ h;have HG:=h_ hG;have C:=h_ hq;have y:=h_ (And.intro wG hcut);have G:=h_ (And.intro OV d_);have Y:=h_ i;have Le:=h_ dL;have HN:=h_ hn;have K:=h_ d;have z:Hid (q<b):=h_ (by rw[d];exact(i_ hq).1);rw[<-d];clear h hG hq wG hcut OV d_ i dL hn aa lI f;have iQ:((1:UInt8).toNat:Int)=1:=rfl;have aL:(#[Value.slice none 0 0].size==1)=true:=rfl;have iZ:xt 1 #[Value.slice none 0 0]=true:=by simp[xt,Value.oneCell']
 rw[iQ]at X;go_enter func46,ntmps46;go_upto_region 2 with fail
 refine xm T ?_;rw[<-d];clear T d;go_wp2_with fail;refine X.mono ?_;rintro e F ⟨rfl,ai,aR⟩;have R:=h_ (aq.trans ai);have Wq:=h_ aR;have Z:=(R.block q z.out).trans C.out;have c2:=cell_of_row F q 0 _ _ _ Z;simp only[xR,v_]at c2;have L5:u9 B F x:=H.below (by rw[<-K.out];exact R.out);have HH:=h_ (xNn L5.h y.1 0 (by rw[y.2];rfl) (by omega));clear ai aR Z L5 X;go_wp2_with fail;refine HH.mono ?_;rintro e w3 ⟨S,u,rfl,c⟩;obtain⟨ua,un,uc,L⟩:=uT c;have J:=xVx c (by simp[beB]);have a:b<=F.heap.size:=by grind
 have aJ:Hid (Below b w w3):=h_ (R.trans (S.mono a));have Lt:=h_ (qo (Wq.below S) (beB 4 0) (by simp[xu]) (by simp));subst L;clear S c HH c2 a;go_wp2_with fail;refine Lt.mono ?_;rintro e E ⟨rfl,aQ,cY⟩;have P:=h_ (aJ.trans aQ);have A_:=h_ cY;have M:∀W,Below b w W->w.heap.size<=W.heap.size:=by grind
 have l:=(P.block q z.out).trans C.out;have c4:=cell_of_row E q 1 _ _ _ l;simp only[xR,v_]at c4;have r:u9 B E x:=H.below (by rw[<-K.out];exact P.out);have HS:=h_ (xN8 r.s G.1 (by rw[G.2];exact HN.out));rw[G.2]at HS;clear aQ cY l r J Lt M;go_wp2_with fail;refine HS.mono ?_;rintro e w5 ⟨U,u,rfl,c⟩;obtain⟨ua5,un5,uc5,L⟩:=uT c;have J:=xVx c (by simp[beB]);have a:b<=E.heap.size:=by grind
 have bR:Hid (Below b w w5):=h_ (P.trans (U.mono a));have Js:=h_ (qo (A_.below U) (beB 8 n++beB 8 0) (by simp[xu]) (by simp[xu]));subst L;clear U c HS c4 a;go_wp2_with fail;refine Js.mono ?_;rintro e D ⟨rfl,bM,dS⟩;have O:=h_ (bR.trans bM);have Ik:=h_ dS;have k:=(O.block q z.out).trans C.out;have c6:=cell_of_row D q 2 _ _ _ k;simp only[xR,v_]at c6;have p:u9 B D x:=H.below (by rw[<-K.out];exact O.out);have HT:=h_ (xSg p.t Y.out);clear bM dS k p J Js;go_wp2_with fail;refine HT.mono ?_;rintro e w7 ⟨rfl,Q⟩;have a:b<=D.heap.size:=by grind
 have rf:Hid (Below b w w7):=h_ (O.trans (Q.mono a));have IX:=h_ (qo (Ik.below Q) [] (by simp) (by simp[xu]));clear Q HT c6 a;go_wp2_with fail;rw[xK6];refine IX.mono ?_;rintro e g ⟨rfl,gM,Gt⟩;have rh:=h_ (rf.trans gM);have Lu:=h_ Gt;have j:=(rh.block q z.out).trans C.out;have c8:=cell_of_row g q 3 _ _ _ j;simp only[xR,v_]at c8;have V:Below w.heap.size w g:=by grind
 have m:u9 B g x:=H.below V;have I:=m.o;rw[Le.out]at I;have HO:=h_ (xEq _ _ _ _ g (HG.later V) I);clear gM Gt j m V I IX;go_wp2_with fail;refine HO.mono ?_;rintro e w9 ⟨rfl,N⟩;have a:b<=g.heap.size:=by grind
 have gE:Hid (Below b w w9):=h_ (rh.trans (N.mono a));have SE:=h_ (qo (Lu.below N) [] (by simp) (by simp[xu]));clear N HO c8 a;go_wp2_with fail;rw[xK6];refine SE.mono ?_;rintro e cS ⟨rfl,mp,BR,v,hr,ho⟩;have hall:((((((((([]:By)++[1])++beB 4 (beB 4 0).length++beB 4 0)++beB 4 (beB 8 n++beB 8 0).length++(beB 8 n++beB 8 0))++beB 4 ([]:By).length++[])++beB 4 ([]:By).length++[]))))=vW n:=by
  simp[vW,xu,B8]
 have dG:OwnB cS b v (vW n):=by grind
 have Su:=cell_of_row cS b 0 _ _ _ hr;simp only[v_]at Su;have HF:=h_ (And.intro (gE.trans mp) dG);clear mp BR hr ho hall dG SE;go_wp2;go_ret;exact⟨HF.1,v,rfl,HF.2⟩
end
section
def xDj:=lx_ 210
def xC3:=sx_ 210
def xXp:=@yh prog 210 2 isAgg210 sizeOf210
def xWw:=@yk prog 210 2 (by kernel_rfl)
def RdAt (w:World)(r:Nat)(v:Value):Prop:=w.heap[r]?=some (.cells #[v,.bool false] 210 (0,0))
structure zv (w:World)(r:Nat)(a:Addr)(cap:Nat)(l:By):Prop where
 row:RdAt w r (.slice (some a) l.length cap)
 sl:SlB w a l
 le:l.length<=cap
 mx:cap<=maxLen
 ne:a.block≠r
 lt:a.block<w.heap.size
theorem zv.kept {w w' r a cap l}(h:zv w r a cap l){F}(b:Kept F w w')(c:r∉F)(ha:a.block∉F):zv w' r a cap l:=
 ⟨(b.block r (i_ h.row).1 c).trans h.row,⟨λq x hq=>(J9 (by rw[xY];exact b.block _ h.lt ha)).trans (h.sl.cell q x hq)⟩,h.le,h.mx,h.ne,b7 h.lt b.size⟩
theorem zv.below {w w' r a cap l}(h:zv w r a cap l)(b:Below w.heap.size w w'):zv w' r a cap l:=h.kept (Kept.of_below (F:=[]) b) (by simp) (by simp)
theorem SlB.front {w a x l}(h:SlB w a (x++l)):SlB w a x:=by
 have:=h.take x.length;grind
theorem zv.cut {w r a cap x l}(h:zv w r a cap (x++l)):
  zv (w.setCell ⟨r,0,none⟩ (.slice (some (cutA a cap x.length)) l.length (cap-x.length))) r (cutA a cap x.length) (cap-x.length) l /\
  SlB (w.setCell ⟨r,0,none⟩ (.slice (some (cutA a cap x.length)) l.length (cap-x.length))) a x:=by
 have b:=h.le;rw[b6]at b;have c:=h.mx;have hs:SlB (w.setCell ⟨r,0,none⟩ (.slice (some (cutA a cap x.length)) l.length (cap-x.length))) a (x++l):=⟨λq y hq=>(J9 (by rw[xY];exact heap_setCell_other w ⟨r,0,none⟩ a.block _ h.ne)).trans (h.sl.cell q y hq)⟩;refine⟨⟨?_,?_,by omega,by omega,by rw[kV];exact h.ne,by rw[kV];simpa using h.lt⟩,hs.front⟩
 ·have h1:=h.row;grind [RdAt,ux]
 ·have:=hs.cut (cap:=cap) (by rw[b6];exact b) x.length;grind
attribute [local go_sem ↓] xDj xC3
attribute [local go_sem] xXp xWw zr zx yA yz xh xg xe xd xx xy xk xj xq xB xw
def xWa (r:Nat)(x l:By)(w w':World)(a:Addr)(cap:Nat):Prop:=SlB w' a x/\x.length<=cap/\cap<=maxLen/\a.block<w'.heap.size/\Kept [r] w w'/\∃a2 c2,zv w' r a2 c2 l/\a2.block=a.block
theorem xFz {w r a cap x l}(h:zv w r a cap (x++l))(n)(d:n=x.length):Calls prog 129 #[.pointer (some ⟨r,0,none⟩),.int .i64 n] w λe w'=>
  e=.returned (.slice (some a) n cap)/\xWa r x l w w' a cap:=by
 obtain⟨h2,h3⟩:=h.cut;have b:=h.row;unfold RdAt at b;rw[b6]at b;have c:=h.le;rw[b6]at c;have g:=h.mx;have i:Hid (xWa r x l w (w.setCell ⟨r,0,none⟩ (.slice (some (cutA a cap x.length)) l.length (cap-x.length))) a cap):=h_ ⟨h3,by omega,g,by simpa using h.lt,yW w ⟨r,0,none⟩ _,_,_,h2,kV _ _ _⟩;rw[<-d]at i b c;have c0:=cell_of_row w r 0 _ _ _ b;have c1:=cell_of_row w r 1 _ _ _ b;have q:=frozen_of_row w r 0 _ _ b;simp only[v_]at c0 c1;obtain⟨m,f⟩:∃m,m=n+l.length:=⟨_,rfl⟩;rw[<-f]at c0 c;have s:=xTf a m cap n (n:Int) rfl (by omega);have j:=kF a m cap n (n:Int) rfl (by omega);rw[show m-n=l.length by omega]at j;unfold maxLen at g;have o:(n:Int)<=m:=by omega
 have k:(m:Int)<=9223372036854775807:=by omega
 have p:decide ((m:Int)<n)=false:=decide_eq_false (by omega);clear h h2 h3 b d f;go_enter func129,ntmps129;go_wp2;go_ret;exact⟨rfl,i.out⟩
theorem xB4 {w r a cap}(c){l}(h:zv w r a cap ([c]++l)):Calls prog 93 #[.pointer (some ⟨r,0,none⟩)] w λe w'=>
  e=.returned (.int .u8 c.toNat)/\Kept [r] w w'/\∃b c2,zv w' r b c2 l/\b.block=a.block:=by
 have f:=h_ (xFz h 1 rfl);rw[show ((1:Nat):Int)=1 from rfl]at f;clear h;go_enter func93,ntmps93;go_wp2_with fail;refine f.mono ?_;rintro e w' ⟨rfl,hs,j,n,_,i,b,c2,d,k⟩;have m:=hs.cell 0 c rfl;rw[show a.add 0=a from rfl]at m;have h1:=d.row;unfold RdAt at h1;have c1:=cell_of_row w' r 1 _ _ _ h1;simp only[v_]at c1;have g:=h_ (And.intro i (And.intro d k));have o:(1:Int)<=cap:=by simp at j;omega
 clear hs j n i d h1 f k;go_wp2;go_ret;exact⟨rfl,g.1,b,c2,g.2.1,g.2.2⟩
theorem kH {w r a cap}(x){l}(h:zv w r a cap (x++l))(hx:x.length=4):Calls prog 98 #[.pointer (some ⟨r,0,none⟩)] w λe w'=>
  e=.returned (.int .i64 (deB x:Nat))/\Kept [r] w w'/\∃f c2,zv w' r f c2 l/\f.block=a.block:=by
 have o:=h_ (xFz h 4 hx.symm);rw[show ((4:Nat):Int)=4 from rfl]at o;have m:=h_ hx;clear h hx;go_enter func98,ntmps98;go_wp2_with fail;refine o.mono ?_;rintro e z ⟨rfl,hs,v,A,_,j,f,c2,s,y⟩;have HS:=h_ hs;have p:=h_ (And.intro j (And.intro s y));have C:(4:Int)<=cap:=by rw[m.out]at v;omega
 clear hs v A j s o y;go_wp2;go_loopw [3,9] (λnv u wr=>∃k:Nat,u=.int .i64 k/\nv=.int .i64 (deB (x.take k):Nat)/\k<=4/\wr=z) (λ_ u _=>4-(intOf u).toNat)
 case atStart=>exact⟨0,rfl,by simp[deB],by omega,rfl⟩
 case round=>
  obtain⟨k,rfl,rfl,j,rfl⟩:=hrel;by_cases hlt:k<4
  ·have F:(k:Int)<4:=by omega
   have c:k<x.length:=by rw[m.out];exact hlt
   have B:=HS.cell k _ (U_ c);have d:deB (x.take (k+1))=deB (x.take k)*256+(x[k]'c).toNat:=by
    rw[d0 c,xBd]
   have q:=kp (x.take k) (by rw[x8];omega);generalize x[k]'c=b at B d;have D:=b.toNat_lt;obtain⟨n,t⟩:∃n,n=deB (x.take k):=⟨_,rfl⟩;rw[<-t]at d q⊢;have g:=xQt n b.toNat (by omega) (by omega);rw[<-d]at g;have E:(n:Int)<4294967296:=by omega
   have i:k+1<=4:=hlt;clear t d q c;go_wp2;go_roundw
   case rel=>exact⟨k+1,by go_num,rfl,i,trivial⟩
   case measure=>simp[intOf];omega
  ·obtain rfl:k=4:=by omega
   rw[v6 (by rw[m.out];exact w_ _)];go_wp2;go_ret;exact⟨rfl,p.1,f,c2,p.2.1,p.2.2⟩
theorem xVw {w a cap l}(h:SlB w a l):(convert 23 9 (.slice (some a) l.length cap)).run prog w=.ok (.string (str l)) w:=
 run_convert_bytes_back (P:=prog) w 23 9 5 a cap l underlying23 underlying5 underlying9 (λj b=>h.cell j _ (U_ b))
theorem vi {w r a cap}(y x){l}(h:zv w r a cap (y++(x++l)))(hy:y.length=4)(k:deB y=x.length):Calls prog 97 #[.pointer (some ⟨r,0,none⟩)] w λe w'=>
  e=.returned (.string (str x))/\Kept [r] w w'/\∃c c2,zv w' r c c2 l/\c.block=a.block:=by
 have d:=h_ (kH y h hy);rw[k]at d;clear h hy k;go_enter func97,ntmps97;go_wp2_with fail;refine d.mono ?_;rintro e t ⟨rfl,b,c,c2,h2,g⟩;have p:=h_ g;have n:=h_ b;have m:=h_ (xFz h2 x.length rfl);clear b h2 d g;go_wp2_with fail;refine m.mono ?_;rintro e s ⟨rfl,hs,_,_,_,j,a3,c3,i,o⟩;have u:=xVw (cap:=c2) hs;have f:=h_ (And.intro (n.trans j (λq hq=>.inl hq)) (And.intro i (o.trans p.out)));clear hs j i m n o;go_wp2;go_ret;exact⟨rfl,f.1,a3,c3,f.2.1,f.2.2⟩
end
theorem yAw (a len cap k)(b:k<=cap)(w):Sem.run prog (Instr.sliceAt 23 (.slice (some a) len cap) (some (.int .i64 0)) (some (.int .i64 k)) none) w=.ok (.slice (some a) k cap) w:=by
 rw[run_sliceAt_slice w 23 _ _ _ _ (by kernel_rfl),run_slice_lh w 23 (some a) len cap (by kernel_rfl) .i64 .i64 0 k (by omega) (by omega) (by omega),xCa,sizeOf5];simp only[t2,sliced,U6,aa_];have:a.add 0=a:=rfl;split <;> rfl
theorem Tryz.info_bys:(prog.info? 23).map (λi=>(i.zero,i.size,i.bytes))=some (some (.slice none 0 0),1,24):=by kernel_rfl
theorem yEd {w:World}{B}{e:TypeId}{v x}(h:w.ownsRow B e 1 v 1 [x]):∃g cap,v=.slice (some ⟨g,0,none⟩) 1 cap/\B<=g/\1<=cap/\cap<=maxLen/\g<w.heap.size/\w.cell? ⟨g,0,none⟩=some x:=by
 rcases h.2 with⟨_,f⟩|⟨g,cap,cur,hv,b,a,d,c,j,i⟩
 ·omega
 ·refine⟨g,cap,hv,b,d,c,(i_ a).1,?_⟩;rw[cell_of_row w g 0 _ _ _ a];have h1:cur.toList[0]?=some x:=by
   have:(cur.toList.take (1*1))[0]?=some x:=by grind
   grind
  grind
def xPr (y:By)(w:World)(e:Ending)(w':World):Prop:=∃g c pg pc,e=.returned (.slice (some ⟨g,0,none⟩) 1 c)/\Below w.heap.size w w'/\1<=c/\w'.cell? ⟨g,0,none⟩=some (.slice (some ⟨pg,0,none⟩) (y.length+1) pc)/\SlB w' ⟨pg,0,none⟩ (3 :: y)/\y.length+1<=pc/\pc<=maxLen/\w.heap.size<=pg/\pg<w'.heap.size/\w.heap.size<=g
theorem xXi {w}(y a cap)(hs:SlB w a y)(ha:a.block<w.heap.size)(hc:y.length<=cap)(h1:1<=y.length)(h2:y.length<=90000):
  Calls prog 75 #[.slice (some a) y.length cap] w (xPr y w):=by
 obtain⟨n,s⟩:∃n,n=y.length:=⟨_,rfl⟩;have cm:=yAw a n cap n (by omega);obtain⟨d,A⟩:∃d,d=w.alloc (.cells #[.int .u8 3] 5):=⟨_,rfl⟩;have o:Below w.heap.size w d:=by grind
 have O:OwnB d w.heap.size (.slice (some ⟨w.heap.size,0,none⟩) 1 1) [3]:=by rw[A];exact OwnB.new w w.heap.size [3] (w_ _) (by simp[maxLen])
 have U:SlB d a y:=⟨λq x hq=>(o.cell (by rw[xY];exact ha)).trans (hs.cell q x hq)⟩;have cL:=h_ O;have cz:=h_ U;have aq:=h_ o;have B:=h_ s;have H:Hid (w.heap.size<=d.heap.size):=h_ o.size;have cO:Hid ([(3:UInt8)].length+y.length<=1000000000000):=h_ (by simp;omega);have HY:=h_ h2;have aP:(1:Int)<=n:=by omega
 have be:(n:Int)<=90000:=by omega
 have L:bits .or .u8 0 1=1:=by decide
 have aN:bits .or .u8 1 2=3:=by decide
 have ID:min (99903:Int) (n:Int)=(n:Int):=by omega
 obtain⟨i0,K,P,V,X⟩:=info_parts Tryz.info_bys;have p:=h_ (And.intro K (And.intro P (And.intro V X)));rw[<-s];clear hs ha h1 h2 s o O U K P V X;go_enter func75,ntmps75;go_wp2;refine xAm ?_;go_wp2_with (at_builtin;rw[<-A];refine zQ rfl (.tmp 31) (.tmp 35) rfl w.heap.size _ [3] rfl cL.out a y cap (by rw[<-B.out];rfl) cz.out cO.out H.out ?_);intro v' b ho t _ _;rw[<-A]at t;have T:Below w.heap.size w b:=aq.grown t H.out (λk e=>by cases e;exact w_ _);obtain⟨m,J⟩:∃m,m=n+1:=⟨_,rfl⟩;obtain⟨pg,pc,eB,Z,S,E,M⟩:∃g cap,v'=.slice (some ⟨g,0,none⟩) m cap/\w.heap.size<=g/\m<=cap/\cap<=maxLen/\SlB b ⟨g,0,none⟩ (3 :: y):=by
  rcases ho.at with⟨_,h⟩|⟨g,cap,h1,h2,h3,h4,h5⟩
  ·cases h
  grind
 subst eB;have i:=(ho.lt (k:=pg) rfl).2;have Y:=h_ J;obtain⟨c,Q⟩:∃c,c=b.alloc (.cells #[.slice (some ⟨pg,0,none⟩) m pc] 23):=⟨_,rfl⟩;have z:Below b.heap.size b c:=by grind
 have R:c.heap[b.heap.size]?=some (.cells #[.slice (some ⟨pg,0,none⟩) m pc] 23 (0,0)):=by grind
 have g7:Hid (∀j u,([.slice (some ⟨pg,0,none⟩) m pc]:List Value)[j]?=some u->c.cell? ((⟨b.heap.size,0,none⟩:Addr).add j)=some u):=h_ λj u hj=>by
  rw[l8,m0,cell_of_row _ b.heap.size j _ _ _ R,l7];exact hj
 have v:=h_ T;have aJ:=h_ z;have Iz:=h_ M;have f:=h_ (And.intro Z (And.intro S (And.intro E i)));have Lt:=h_ Q;have W:Hid (b.heap.size<=c.heap.size):=h_ z.size;clear ho t T Z S E M i z R Q cm J;go_wp2_with (at_builtin;rw[<-Lt.out];refine wpList_append_own_at _ rfl (.tmp 29) (.tmp 37) 157 rfl b.heap.size 23 i0 (.slice none 0 0) 1 24 underlying157 p.1 p.2.1 p.2.2.1 p.2.2.2 rfl (by decide) _ 0 [] rfl (D1 _ _ _ _) ⟨b.heap.size,0,none⟩ 1 1 [.slice (some ⟨pg,0,none⟩) m pc] rfl rfl g7.out (by intro u I;simp at I;subst I;rfl) (by unfold maxLen;omega) (by omega) W.out ?_);intro v4 r C7 D _ _;obtain⟨g,cap,rfl,C,G,k2,k3,F⟩:=yEd C7;have l:Below b.heap.size b r:=aJ.grown D W.out (λk e=>by cases e);have N:SlB r ⟨pg,0,none⟩ (3 :: y):=⟨λq x hq=>(l.cell (by rw[xY];exact f.2.2.2)).trans (Iz.cell q x hq)⟩;have HF:Hid (xPr y w (.returned (.slice (some ⟨g,0,none⟩) 1 cap)) r):=h_ ⟨g,cap,pg,pc,rfl,v.trans (l.mono v.size),G,by rw[F,Y.out,B.out],N,by rw[<-B.out,<-Y.out];exact f.2.1,f.2.2.1,f.1,b7 f.2.2.2 l.size,R_ v.size C⟩;clear C7 D C G k2 k3 F l N;go_wp2;go_ret;exact HF.out
def yA1 (D b:Nat)(v:Dev)(d:PD)(w:World)(e:Ending)(w':World):Prop:=
 e=.returned (.int .i64 28)/\Kept (b :: v.foot) w w'/\∃v',v'.p=v.p/\v'.M=v.M/\yA5 D w' b v' d/\∀k∈v'.foot,k∈v.foot\/w.heap.size<=k
def xMu (D b:Nat)(v:Dev)(d:PD)(j:PJ)(y:By)(es:List Nat)(sy:Int)(w:World)(e:Ending)(w':World):Prop:=
 e=.returned (.int .i64 0)/\Kept (b :: (v.foot++es)) w w'/\∃v' es',v'.p=v.p/\v'.M=v.M /\
  JAt D w' b v' (d.puts (j.area*(d.n/2)+(j.secs sha).length) (xJ sha (j.body (3 :: y)))).1 (j.add (3 :: y)) es' sy 0/\(∀k∈v'.foot,k∈v.foot\/w.heap.size<=k)/\∀k∈es',k∈es\/w.heap.size<=k
def yIf (D b:Nat)(v:Dev)(d:PD)(j:PJ)(y:By)(es:List Nat)(sy:Int)(w:World)(e:Ending)(w':World):Prop:=
 ((j.secs sha).length+y6 (y.length+1)<=d.n/2->((d.puts (j.area*(d.n/2)+(j.secs sha).length) (xJ sha (j.body (3 :: y)))).2=true->xMu D b v d j y es sy w e w')/\((d.puts (j.area*(d.n/2)+(j.secs sha).length) (xJ sha (j.body (3 :: y)))).2=false->yA1 D b v (d.puts (j.area*(d.n/2)+(j.secs sha).length) (xJ sha (j.body (3 :: y)))).1 w e w')) /\
 (¬ (j.secs sha).length+y6 (y.length+1)<=d.n/2->e=.returned (.int .i64 9)/\Below w.heap.size w w')
theorem xIm {D b w v d j es sy}(h:JAt D w b v d j es sy 0)(hK:qI w)(y a cap)(hs:SlB w a y)(ha:a.block<w.heap.size)(hc:y.length<=cap)(h1:1<=y.length)(h2:y.length<=90000)
  (bO:d.pend.length+y6 (y.length+1)<=1000000) (an:j.entries.length<=100000) (hD:D<=w.heap.size):
  Calls prog 45 #[.pointer (some ⟨b,0,none⟩),.slice (some a) y.length cap] w (yIf D b v d j y es sy w):=by
 have HP:=h_ (xXi y a cap hs ha hc h1 h2);have H:=h_ h;have HK:=h_ hK;have HL:=h_ an;have HD:=h_ hD;have Y:=h_ h.inv.fit;have Gv:=h_ bO;have HY:=h_ h2;obtain⟨nd,R⟩:∃nd,nd=y6 (y.length+1):=⟨_,rfl⟩;obtain⟨fr,me⟩:∃fr,fr=d.n/2-(j.secs sha).length:=⟨_,rfl⟩;have aF:d.n<=4096:=h.dev.n2;have Ek:(nd:Int)<=4096:=by unfold y6 at R;omega
 have fo:(fr:Int)<=4096:=by omega
 have E:=h_ R;have I:=h_ me;have dw:=h_ aF;clear h hK hs ha h1 h2 bO an hD R me aF;go_enter func45,ntmps45;go_wp2_with fail;refine HP.mono ?_;rintro e w1 ⟨g,c,pg,pc,rfl,S,cH,l,f_,bC,oW,Gu,r,V⟩;have J:=H.below S;have My:=h_ J;have aq:=h_ S;have Iz:=h_ f_;have N:=h_ (And.intro bC (And.intro oW (And.intro Gu (And.intro r V))));have L:=h_ (xP3 (y.length+1) w1 (by have:=HY.out;omega));rw[<-E.out]at L;obtain⟨Dg,vs1,PE,_⟩:=J.ex;have Ju:=h_ (xHy PE dw.out (by have:=Y.out;omega));rw[<-I.out]at Ju;have dV:=h_ l;obtain⟨yn,K⟩:∃yn,yn=y.length+1:=⟨_,rfl⟩;rw[<-K]at l L;have C:=h_ K;have wF:(1:Int)<=c:=by omega
 clear J PE S f_ bC oW Gu r V K cH;go_wp2;refine xAm ?_;go_wp2_with fail;refine L.mono ?_;rintro e w' ⟨rfl,rfl⟩;go_wp2_with fail;refine Ju.mono ?_;rintro e X ⟨rfl,m⟩;have z:=aq.trans (m.mono aq.size);have i:=h_ z;by_cases hroom:(j.secs sha).length+y6 (y.length+1)<=d.n/2
 case neg=>
  have G:=h_ hroom;have P:decide (fr<nd)=true:=decide_eq_true (by have:=E.out;have:=I.out;have:=Y.out;omega);clear m z hroom l;go_wp2;go_ret;exact⟨λh=>absurd h G.out,λ_=>⟨rfl,i.out⟩⟩
 have bj:(nd:Int)<=(fr:Int):=by have:=E.out;have:=I.out;omega
 have P:decide (fr<nd)=false:=decide_eq_false (by have:=E.out;have:=I.out;omega);have Wr:=(m.cell (p:=⟨g,0,none⟩) (block_lt_of_cell l)).trans l;have IA:SlB X ⟨pg,0,none⟩ (3 :: y):=⟨λq x hq=>(m.cell (by rw[xY];exact N.2.2.2.1)).trans (Iz.cell q x hq)⟩;have eT:=My.below m;have Z:pg<X.heap.size:=by grind
 have f:(3 :: y).length=yn:=by grind
 have U:=h_ (xUt eT (HK.kept (Kept.of_below (F:=[]) z) (λ_ h=>by cases h)) (3 :: y) ⟨pg,0,none⟩ pc IA Z (λhm=>by have h9:pg<w.heap.size:=(H.dev.foot_lt _ hm).2;have:=N.2.2.1;omega) (by rw[f,C.out];exact N.1) (by rw[f,C.out];have:=HY.out;omega)
  (by rw[f,C.out];exact hroom) (by rw[f,C.out];exact Gv.out) HL.out (R_ HD.out z.size))
 rw[f]at U;have G:=h_ hroom;clear l IA eT z Z f m hroom;go_wp2;refine xAm ?_;go_wp2_with fail;refine U.mono ?_;rintro e W ⟨Q,O⟩;clear U;cases hgd:(d.puts (j.area*(d.n/2)+(j.secs sha).length) (xJ sha (j.body (3 :: y)))).2 with
 |true=>
  obtain⟨rfl,A,v',ev',u,t,B,o,PF⟩:=Q hgd;have T:Hid (xMu D b v d j y es sy w (.returned (.int .i64 0)) W):=h_ ⟨rfl,(Kept.of_below (F:=b :: (v.foot++es)) i.out).trans A (λq hq=>.inl hq),v',ev',u,t,B,λk s=>(o k s).imp_right (λh=>R_ i.size h),λk s=>(PF k s).imp_right (λh=>R_ i.size h)⟩;have M:=h_ hgd;clear A u t B o PF Q O hgd;go_wp2;go_ret;exact⟨λ_=>⟨λ_=>T.out,λe=>absurd (M.symm.trans e) (by simp)⟩,λh=>absurd G.out h⟩
 |false=>
  obtain⟨rfl,A,v',u,t,B,o⟩:=O hgd;have T:Hid (yA1 D b v (d.puts (j.area*(d.n/2)+(j.secs sha).length) (xJ sha (j.body (3 :: y)))).1 w (.returned (.int .i64 28)) W):=h_ ⟨rfl,(Kept.of_below (F:=b :: v.foot) i.out).trans A (λq hq=>.inl hq),v',u,t,B,λk s=>(o k s).imp_right (λh=>R_ i.size h)⟩;have M:=h_ hgd;clear A u t B o Q O hgd;go_wp2;go_ret;exact⟨λ_=>⟨λe=>absurd (M.symm.trans e) (by simp),λ_=>T.out⟩,λh=>absurd G.out h⟩
theorem xT3 {D b w v d j es sy}(h:JAt D w b v d j es sy 0)(c:d.Up)(hK:qI w)(y a cap)(hs:SlB w a y)(ha:a.block<w.heap.size)(g:y.length<=cap)(h1:1<=y.length)(h2:y.length<=90000)
  (k:(j.secs sha).length+y6 (y.length+1)<=d.n/2) (l:d.pend.length+y6 (y.length+1)<=1000000) (m:j.entries.length<=100000) (i:D<=w.heap.size):
  Calls prog 45 #[.pointer (some ⟨b,0,none⟩),.slice (some a) y.length cap] w (xMu D b v d j y es sy w):=
 (xIm h hK y a cap hs ha g h1 h2 l m i).mono λe w' f=>(f.1 k).1 (PD.puts_up _ d _ c).1
section
def xDi:=lx_ 143
def xC2:=sx_ 143
def xXo:=@yh prog 143 4 isAgg143 sizeOf143
def xWv:=@yk prog 143 4 (by kernel_rfl)
def xVf:=lx_ 274
def xRn:=sx_ 274
def yJn:=@yh prog 274 4 isAgg274 sizeOf274
def yJ5:=@yk prog 274 4 (by kernel_rfl)
theorem xZy (w l)(hl:l.length<=maxLen):∃c w',(convert 9 23 (.string (str l))).run prog w=.ok (.slice (some ⟨w.heap.size,0,none⟩) l.length c) w'/\Below w.heap.size w w'/\SlB w' ⟨w.heap.size,0,none⟩ l/\l.length<=c/\c<=maxLen/\w'.heap.size=w.heap.size+1:=by
 have h:=Go.Lib.run_convert_string_bytes (P:=prog) w 9 23 5 (str l) underlying9 underlying23 underlying5;rw[xB2]at h;refine⟨_,_,h,⟨rfl,rfl,rfl,by rw[Go.Lib.bytesWorld_size];omega,λk b=>Go.Lib.bytesWorld_at_old w _ _ k b⟩,⟨λj c d=>?_⟩,grownCap_ge _ _ _ _,grownCap_le_maxLen _ _ _ _ hl,Go.Lib.bytesWorld_size _ _ _⟩;have a:j<l.length:=by grind
 rw[l8,m0,Go.Lib.bytesWorld_cell w 5 (str l) j (by rw[xB2];exact a)];grind [str,List.getD]
theorem yX.keptB {B w w' v F}(h:yX B w v)(a:Kept F w w')(c:∀k∈F,k<B):yX B w' v:=h.kept a λk d b=>by
 have:=c k b;simp[Hst.foot]at d;have:=h.pB;have:=h.MB;omega
theorem yN.keptB {B w w' v F}(h:yN B w v)(a:Kept F w w')(c:∀k∈F,k<B):yN B w' v:=h.kept a λk d b=>by
 have:=c k b;simp[Spo.foot]at d;have:=h.pB;have:=h.MB;omega
theorem yC.keptB {B w w' v F}(h:yC B w v)(a:Kept F w w')(c:∀k∈F,k<B):yC B w' v:=h.kept a λk d b=>by
 have:=c k b;have:=(h.foot_lt k d).1;omega
def er4:Array Value:=#[.int .i64 0,.int .i64 0,.int .i64 0,.int .i64 0]
theorem xRx (ρ:Operand->Value)(d)(ty:TypeId)(pos af g w):
  Sem.run prog (execOp ρ ⟨d,.alloc 274,ty,pos,af,g⟩) w=.ok (.value (.pointer (some ⟨w.heap.size,0,none⟩))) (w.alloc (.cells er4 274)):=by kernel_rfl
theorem xRu (ρ:Operand->Value)(d)(ty:TypeId)(pos af g w):
  Sem.run prog (execOp ρ ⟨d,.build 274 #[],ty,pos,af,g⟩) w=.ok (.value (.agg er4)) w:=by kernel_rfl
theorem xTr (w):Sem.run prog (Op.equalIn 10000 274 (.agg er4) (.agg er4)) w=.ok true w:=by kernel_rfl
theorem xC8 (ρ:Operand->Value)(d a)(ty:TypeId)(pos af gd w):
  Sem.run prog (execOp ρ ⟨d,.build 143 #[(0,a)],ty,pos,af,gd⟩) w=zl prog 143 w #[(0,ρ a)]:=by kernel_rfl
theorem xYo (w a b c d):zl prog 143 w #[(0,.agg #[a,b,c,d])]=.ok (.value (.agg #[a,b,c,d])) w:=zo (by kernel_rfl)
structure SnSt (w:World)(r:Nat)(cs:Array Value)(l:By)(W:World):Prop where
 kept:Kept [r] w W
 srow:W.heap[w.heap.size]?=some (.cells cs 107 (0,0))
 erow:W.heap[w.heap.size+1]?=some (.cells er4 274 (0,0))
 rd:∃a c,zv W r a c l/\a.block<w.heap.size
 rl:r<w.heap.size
theorem SnSt.sz {w r cs l W}(h:SnSt w r cs l W):w.heap.size+2<=W.heap.size:=(i_ h.erow).1
theorem SnSt.text {w r cs l l' W W'}(h:SnSt w r cs l W)(b:Kept [r] W W')(d:∃a c,zv W' r a c l'/\a.block<w.heap.size):SnSt w r cs l' W':=by
 have:=h.sz;have:=h.rl;exact⟨h.kept.trans b (λq hq=>.inl hq),(b.block _ (by omega) (by simp;omega)).trans h.srow,(b.block _ (by omega) (by simp;omega)).trans h.erow,d,h.rl⟩
theorem SnSt.below {w r cs l W W'}(h:SnSt w r cs l W)(b:Below W.heap.size W W'):SnSt w r cs l W':=by
 have:=h.sz;obtain⟨a,c,d,ha⟩:=h.rd;exact⟨h.kept.trans (Kept.of_below (F:=[]) b) (λq hq=>by cases hq),(b.block _ (by omega)).trans h.srow,(b.block _ (by omega)).trans h.erow,⟨a,c,d.below b,ha⟩,h.rl⟩
theorem SnSt.set {w r cs l W}(h:SnSt w r cs l W)(j q)(e:j<4):
  Kept [w.heap.size,w.heap.size+1] W ((W.setCell ⟨w.heap.size,j,none⟩ q).setCell ⟨w.heap.size+1,j,none⟩ (.int .i64 0))/\SnSt w r (cs.setIfInBounds j q) l ((W.setCell ⟨w.heap.size,j,none⟩ q).setCell ⟨w.heap.size+1,j,none⟩ (.int .i64 0)):=by
 have i:=h.sz;have hl:=h.rl;obtain⟨a,c,d,ha⟩:=h.rd;have g:Kept [w.heap.size,w.heap.size+1] W (W.setCell ⟨w.heap.size,j,none⟩ q):=by grind
 have b:Kept [w.heap.size,w.heap.size+1] W ((W.setCell ⟨w.heap.size,j,none⟩ q).setCell ⟨w.heap.size+1,j,none⟩ (.int .i64 0)):=by grind
 have f:(W.setCell ⟨w.heap.size,j,none⟩ q).heap[w.heap.size+1]?=some (.cells er4 274 (0,0)):=(heap_setCell_other W ⟨w.heap.size,j,none⟩ (w.heap.size+1) q (by simp)).trans h.erow;refine⟨b,h.kept.trans b (λq hq=>.inr (by simp at hq;omega)),?_,?_,⟨a,c,d.kept b (by simp;omega) (by simp;omega),ha⟩,h.rl⟩
 ·rw[heap_setCell_other _ ⟨w.heap.size+1,j,none⟩ w.heap.size _ (by simp),ux h.srow]
 ·rw[ux f];congr 2
  match j,e with
  |0,_=>rfl
  |1,_=>rfl
  |2,_=>rfl
  |3,_=>rfl
def yA4 (r n:Nat)(w:World)(e:Ending)(w':World):Prop:=∃sp x,e=.returned (.pointer (some ⟨sp,0,none⟩))/\Kept [r] w w'/\w'.heap[sp]?=some (.cells (xR x) 143 (0,0))/\(∃c1 c2 c3,vh w.heap.size c1 c2 c3 w' x)/\x.pc=qH n/\x.gs=[]/\w.heap.size<=sp/\∃a2 c2,zv w' r a2 c2 []
attribute [local go_sem ↓] xDi xC2 xVf xRn xRx xRu xC8 qF qe qf
attribute [local go_sem] xXo xWv yJn yJ5 xTr xYo xFa xF4 zr zx yA yz xh xg xe xd xx xy xk xj xq xB xw
theorem zM (n)(h:n<4294967296):deB (beB 4 n)=n:=by rw[xAh];exact bH_ (by simpa using h)
theorem xVu (n)(h:n<18446744073709551616):deB (beB 8 n)=n:=by rw[xAh];exact bH_ (by simpa using h)
theorem SnSt.facts {w r cs l W}(h:SnSt w r cs l W)(j q u)(a:cs[j]?=some u)(b:j<4):
  W.cell? ⟨w.heap.size,j,none⟩=some u/\(W.setCell ⟨w.heap.size,j,none⟩ q).cell? ⟨w.heap.size+1,j,none⟩=some (.int .i64 0):=by
 have c:(W.setCell ⟨w.heap.size,j,none⟩ q).heap[w.heap.size+1]?=some (.cells er4 274 (0,0)):=(heap_setCell_other W ⟨w.heap.size,j,none⟩ (w.heap.size+1) q (by simp)).trans h.erow;refine⟨(cell_of_row W _ j _ _ _ h.srow).trans a,(cell_of_row _ _ j _ _ _ c).trans ?_⟩
 match j,b with
 |0,_=>rfl
 |1,_=>rfl
 |2,_=>rfl
 |3,_=>rfl
theorem xQe {w r a cap n}(h:zv w r a cap (beB 4 4++(beB 4 0++(beB 4 16++((beB 8 n++beB 8 0)++(beB 4 0++([]++(beB 4 0++([]++[])))))))))(h1:1<=n)(h2:n<=1073741824)(sh:∀W,Kept [r] w W->Gl W):
  Calls prog 94 #[.pointer (some ⟨r,0,none⟩)] w (yA4 r n w):=by
 obtain⟨s,hs⟩:∃s,s=w.heap.size:=⟨_,rfl⟩;have fj:r<w.heap.size:=(i_ h.row).1;obtain⟨w1,aj⟩:∃w1,w1=(w.alloc (.cells uE 107)).alloc (.cells er4 274):=⟨_,rfl⟩;have aa:Below w.heap.size w w1:=by grind
 have R:SnSt w r uE (beB 4 4++(beB 4 0++(beB 4 16++((beB 8 n++beB 8 0)++(beB 4 0++([]++(beB 4 0++([]++[])))))))) w1:=by
  refine⟨Kept.of_below aa,?_,?_,⟨a,cap,h.below aa,h.lt⟩,fj⟩
  ·grind
  grind
 have iy:=h_ R;have Jc:=h_ sh;have E:=h_ hs;have HN:=h_ (And.intro h1 h2);clear h h1 h2 sh fj aa R;go_enter func94,ntmps94;go_upto_region 3 with fail
 refine xm aj ?_;rw[<-hs];clear aj hs;obtain⟨a0,c0,Q,PG⟩:=iy.rd;have X:=h_ (vi (beB 4 4) (beB 4 0) Q (xu _ _) (by rw[zM _ (by omega)];simp[xu]));have Ws:=h_ PG;clear Q PG;go_wp2_with fail;refine X.mono ?_;rintro e x0 ⟨rfl,lR,a',c',v,D⟩;have Wt:=h_ lR;have PH:=h_ (iy.text lR ⟨a',c',v,D▸Ws.out⟩);clear lR v D X;obtain⟨cc0,y0,PI,M,T,L,SG,S⟩:=xZy x0 (beB 4 0) (by simp[xu,maxLen]);rw[show ((beB 4 0)).length=4 by simp[xu]]at PI L;have V:=h_ (PH.below M);have Wu:=h_ M;have mF:=h_ (xNp ⟨x0.heap.size,0,none⟩ (beB 4 0) cc0 y0 T (by rw[S];exact bJ_ _) (xu _ _) L (by rw[zM _ (by omega)];omega));rw[zM 0 (by omega)]at mF;clear M T L SG S;go_wp2_with fail;clear PI;refine mF.mono ?_;rintro e z0 ⟨j,v0,rfl,o,G,P⟩;have Z:=h_ (And.intro G P);have HWZ0:=h_ ((Wt.trans (Kept.of_below (F:=[]) Wu.out) (λq hq=>by cases hq)).trans (Kept.of_below (F:=[]) j) (λq hq=>by cases hq));have b:SnSt w r #[.pointer none,.pointer none,.pointer none,.pointer none] _ z0:=V.below j;obtain⟨i,g⟩:=b.set 0 (Value.pointer (some ⟨v0.p,0,none⟩)) (by omega);obtain⟨g1,y⟩:=b.facts 0 (Value.pointer (some ⟨v0.p,0,none⟩)) (.pointer none) rfl (by omega)
 have B:=frozen_of_row z0 w.heap.size 0 _ _ b.srow;have z:=frozen_of_row (z0.setCell ⟨w.heap.size,0,none⟩ (Value.pointer (some ⟨v0.p,0,none⟩))) (w.heap.size+1) 0 _ _ ((heap_setCell_other z0 ⟨w.heap.size,0,none⟩ (w.heap.size+1) (Value.pointer (some ⟨v0.p,0,none⟩)) (by simp)).trans b.erow);rw[<-E.out]at i g g1 y B z;obtain⟨W0,my⟩:∃W,W=(z0.setCell ⟨s,0,none⟩ (Value.pointer (some ⟨v0.p,0,none⟩))).setCell ⟨s+1,0,none⟩ (.int .i64 0):=⟨_,rfl⟩;rw[<-my]at i g;have cz:Hid (SnSt w r #[(Value.pointer (some ⟨v0.p,0,none⟩)),.pointer none,.pointer none,.pointer none] _ W0):=h_ g;have Y:Hid (Kept [s,s+1] z0 W0):=h_ i;have PM:=h_ o;have Wv:Hid (s+2<=y0.heap.size):=h_ (by rw[E.out];exact V.sz);have HBZ0:Hid (y0.heap.size<=z0.heap.size):=h_ j.size;clear j o b i g G P;go_upto_region 4 with fail
 refine xm my ?_;have HWW0:=h_ my;clear my g1 y B z;obtain⟨a1,c1,aI,PN⟩:=cz.rd;have Lv:=h_ (vi (beB 4 16) (beB 8 n++beB 8 0) aI (xu _ _) (by rw[zM _ (by omega)];simp[xu]));have Ww:=h_ PN;clear aI PN;go_wp2_with fail;refine Lv.mono ?_;rintro e x1 ⟨rfl,K,a',c',v,D⟩;have PO:=h_ K;have PP:=h_ (cz.text K ⟨a',c',v,D▸Ww.out⟩);clear K v D Lv;obtain⟨cc1,y1,PQ,M,T,L,SG,S⟩:=xZy x1 (beB 8 n++beB 8 0) (by simp[xu,maxLen]);rw[show ((beB 8 n++beB 8 0)).length=16 by simp[xu]]at PQ L;have U:=h_ (PP.below M);have PR:=h_ M;have mU:=h_ (xN9 ⟨x1.heap.size,0,none⟩ (beB 8 n++beB 8 0) cc1 y1 T (by rw[S];exact bJ_ _) (by simp[xu]) L SG n (by rw[List.take_left' (xu _ _)];exact xVu n (by have:=HN.2;omega)) HN.1 HN.2 (by rw[List.drop_left' (xu _ _)];exact xVu 0 (by omega)));clear M T L SG S;go_wp2_with fail;clear PQ;refine mU.mono ?_;rintro e I ⟨j,f,rfl,o,G,P,De,Ej⟩;have sW:=h_ (And.intro G (And.intro P (And.intro De Ej)));have Wx:=h_ ((PO.trans (Kept.of_below (F:=[]) PR.out) (λq hq=>by cases hq)).trans (Kept.of_below (F:=[]) j) (λq hq=>by cases hq))
 have b:SnSt w r #[(Value.pointer (some ⟨v0.p,0,none⟩)),.pointer none,.pointer none,.pointer none] _ I:=U.below j;obtain⟨i,g⟩:=b.set 1 (Value.pointer (some ⟨f.p,0,none⟩)) (by omega);obtain⟨g1,y⟩:=b.facts 1 (Value.pointer (some ⟨f.p,0,none⟩)) (.pointer none) rfl (by omega);have B:=frozen_of_row I w.heap.size 1 _ _ b.srow;have z:=frozen_of_row (I.setCell ⟨w.heap.size,1,none⟩ (Value.pointer (some ⟨f.p,0,none⟩))) (w.heap.size+1) 1 _ _ ((heap_setCell_other I ⟨w.heap.size,1,none⟩ (w.heap.size+1) (Value.pointer (some ⟨f.p,0,none⟩)) (by simp)).trans b.erow);rw[<-E.out]at i g g1 y B z;obtain⟨W1,cJ⟩:∃W,W=(I.setCell ⟨s,1,none⟩ (Value.pointer (some ⟨f.p,0,none⟩))).setCell ⟨s+1,1,none⟩ (.int .i64 0):=⟨_,rfl⟩;rw[<-cJ]at i g;have dU:Hid (SnSt w r #[(Value.pointer (some ⟨v0.p,0,none⟩)),(Value.pointer (some ⟨f.p,0,none⟩)),.pointer none,.pointer none] _ W1):=h_ g;have Bf:Hid (Kept [s,s+1] I W1):=h_ i;have PS:=h_ o;have Wy:Hid (s+2<=y1.heap.size):=h_ (by rw[E.out];exact U.sz);have Wz:Hid (y1.heap.size<=I.heap.size):=h_ j.size;clear j o b i g G P De Ej;go_upto_region 5 with fail
 refine xm cJ ?_;have HWW1:=h_ cJ;clear cJ g1 y B z;obtain⟨a2,c2,aE,PT⟩:=dU.rd;have s_:=h_ (vi (beB 4 0) [] aE (xu _ _) (by rw[zM _ (by omega)];simp[xu]));have WA:=h_ PT;clear aE PT;go_wp2_with fail;refine s_.mono ?_;rintro e x2 ⟨rfl,J,a',c',v,D⟩;have PU:=h_ J;have pU:=h_ (dU.text J ⟨a',c',v,D▸WA.out⟩);clear J v D s_;go_wp2_with fail;rw[<-xK6];refine(xSi x2).mono ?_;rintro e H ⟨j,l,rfl,o,G⟩;have ly:=h_ (G);have WB:=h_ (PU.trans (Kept.of_below (F:=[]) j) (λq hq=>by cases hq));have b:SnSt w r #[(Value.pointer (some ⟨v0.p,0,none⟩)),(Value.pointer (some ⟨f.p,0,none⟩)),.pointer none,.pointer none] _ H:=pU.below j;obtain⟨i,g⟩:=b.set 2 (Value.pointer (some ⟨l.p,0,none⟩)) (by omega);obtain⟨g1,y⟩:=b.facts 2 (Value.pointer (some ⟨l.p,0,none⟩)) (.pointer none) rfl (by omega);have B:=frozen_of_row H w.heap.size 2 _ _ b.srow;have z:=frozen_of_row (H.setCell ⟨w.heap.size,2,none⟩ (Value.pointer (some ⟨l.p,0,none⟩))) (w.heap.size+1) 2 _ _ ((heap_setCell_other H ⟨w.heap.size,2,none⟩ (w.heap.size+1) (Value.pointer (some ⟨l.p,0,none⟩)) (by simp)).trans b.erow)
 rw[<-E.out]at i g g1 y B z;obtain⟨W2,fU⟩:∃W,W=(H.setCell ⟨s,2,none⟩ (Value.pointer (some ⟨l.p,0,none⟩))).setCell ⟨s+1,2,none⟩ (.int .i64 0):=⟨_,rfl⟩;rw[<-fU]at i g;have i7:Hid (SnSt w r #[(Value.pointer (some ⟨v0.p,0,none⟩)),(Value.pointer (some ⟨f.p,0,none⟩)),(Value.pointer (some ⟨l.p,0,none⟩)),.pointer none] _ W2):=h_ g;have mA:Hid (Kept [s,s+1] H W2):=h_ i;have PV:=h_ o;have WC:Hid (s+2<=x2.heap.size):=h_ (by rw[E.out];exact pU.sz);have WD:Hid (x2.heap.size<=H.heap.size):=h_ j.size;clear j o b i g G;go_upto_region 6 with fail
 refine xm fU ?_;have HWW2:=h_ fU;clear fU g1 y B z;obtain⟨a3,c3,bW,PW⟩:=i7.rd;have Lw:=h_ (vi (beB 4 0) [] bW (xu _ _) (by rw[zM _ (by omega)];simp[xu]));have WE:=h_ PW;clear bW PW;go_wp2_with fail;refine Lw.mono ?_;rintro e d ⟨rfl,bz,a',c',v,D⟩;have PX:=h_ bz;have Gh:=h_ (i7.text bz ⟨a',c',v,D▸WE.out⟩);clear bz v D Lw;have i9:=Jc.out d Gh.kept;go_wp2_with fail;rw[<-xK6];refine(xNf d i9).mono ?_;rintro e z3 ⟨j,rfl,o⟩;have I4:=h_ (trivial);have WF:=h_ (PX.trans (Kept.of_below (F:=[]) j) (λq hq=>by cases hq));have b:SnSt w r #[(Value.pointer (some ⟨v0.p,0,none⟩)),(Value.pointer (some ⟨f.p,0,none⟩)),(Value.pointer (some ⟨l.p,0,none⟩)),.pointer none] _ z3:=Gh.below j;obtain⟨i,g⟩:=b.set 3 (Value.pointer (some ⟨d.heap.size+1,0,none⟩)) (by omega);obtain⟨g1,y⟩:=b.facts 3 (Value.pointer (some ⟨d.heap.size+1,0,none⟩)) (.pointer none) rfl (by omega);have B:=frozen_of_row z3 w.heap.size 3 _ _ b.srow;have z:=frozen_of_row (z3.setCell ⟨w.heap.size,3,none⟩ (Value.pointer (some ⟨d.heap.size+1,0,none⟩))) (w.heap.size+1) 3 _ _ ((heap_setCell_other z3 ⟨w.heap.size,3,none⟩ (w.heap.size+1) (Value.pointer (some ⟨d.heap.size+1,0,none⟩)) (by simp)).trans b.erow)
 rw[<-E.out]at i g g1 y B z;obtain⟨u,tN⟩:∃W,W=(z3.setCell ⟨s,3,none⟩ (Value.pointer (some ⟨d.heap.size+1,0,none⟩))).setCell ⟨s+1,3,none⟩ (.int .i64 0):=⟨_,rfl⟩;rw[<-tN]at i g;have N:Hid (SnSt w r #[(Value.pointer (some ⟨v0.p,0,none⟩)),(Value.pointer (some ⟨f.p,0,none⟩)),(Value.pointer (some ⟨l.p,0,none⟩)),(Value.pointer (some ⟨d.heap.size+1,0,none⟩))] _ u):=h_ g;have nO:Hid (Kept [s,s+1] z3 u):=h_ i;have WG:=h_ o;have WH:Hid (s+2<=d.heap.size):=h_ (by rw[E.out];exact Gh.sz);have HBZ3:Hid (d.heap.size<=z3.heap.size):=h_ j.size;clear j o b i g;go_upto_region 7 with fail
 refine xm tN ?_;have HWW3:=h_ tN;clear tN g1 y B z;obtain⟨x,hx⟩:∃x:Prt,x=⟨v0,f,l,d.heap.size+1,d.heap.size,[],0⟩:=⟨_,rfl⟩;have aB:xR x=#[(Value.pointer (some ⟨v0.p,0,none⟩)),(Value.pointer (some ⟨f.p,0,none⟩)),(Value.pointer (some ⟨l.p,0,none⟩)),(Value.pointer (some ⟨d.heap.size+1,0,none⟩))]:=by rw[hx];rfl
 have e4:=N.erow;have s4:=N.srow;rw[<-E.out]at e4 s4;obtain⟨oe,de⟩:=xF (n:=4) e4 rfl;obtain⟨os,ds⟩:=xF (n:=4) s4 rfl;have hfq:xt 4 #[(Value.pointer (some ⟨v0.p,0,none⟩)),(Value.pointer (some ⟨f.p,0,none⟩)),(Value.pointer (some ⟨l.p,0,none⟩)),(Value.pointer (some ⟨d.heap.size+1,0,none⟩))]=true:=xAb _ _ _ _ rfl rfl rfl rfl;have SH:Below u.heap.size u (u.alloc (.cells #[(Value.pointer (some ⟨v0.p,0,none⟩)),(Value.pointer (some ⟨f.p,0,none⟩)),(Value.pointer (some ⟨l.p,0,none⟩)),(Value.pointer (some ⟨d.heap.size+1,0,none⟩))] 143)):=(z_ _ _).alloc (w_ _) _;have m1:∀{A C:World},Kept [r] A C->Kept [r,s,s+1] A C:=λh=>h.mono (λk m _=>by simp at m;simp[m])
 have O:∀{A C:World},Kept [s,s+1] A C->Kept [r,s,s+1] A C:=λh=>h.mono (λk m _=>by simp at m;simp;omega)
 have K3:=O nO.out;have K2:=((O mA.out).trans (m1 WF.out) (λq hq=>.inl hq)).trans K3 (λq hq=>.inl hq);have K1:=((O Bf.out).trans (m1 WB.out) (λq hq=>.inl hq)).trans K2 (λq hq=>.inl hq);have K0:=((O Y.out).trans (m1 Wx.out) (λq hq=>.inl hq)).trans K1 (λq hq=>.inl hq);have Ez:r<s:=by rw[E.out];exact N.rl
 have WI:=Wv.out;have WJ:=Wy.out;have WK:=WC.out;have WL:=WH.out;have q1:=Y.size;have q2:=PO.size;have q3:=PR.size;have q4:=Wz.out;have q5:=Bf.size;have q6:=PU.size;have q7:=WD.out;have q8:=mA.size;have q9:=PX.size;have o:vh s y1.heap.size x2.heap.size d.heap.size (u.alloc (.cells #[(Value.pointer (some ⟨v0.p,0,none⟩)),(Value.pointer (some ⟨f.p,0,none⟩)),(Value.pointer (some ⟨l.p,0,none⟩)),(Value.pointer (some ⟨d.heap.size+1,0,none⟩))] 143)) x:=by
  refine vh.below ?_ SH;rw[hx];exact⟨(PM.keptB K0 (λk m=>by simp at m;omega)).base (by omega),λk m=>by have:=PM.lt;simp[Hst.foot]at m;omega,PS.keptB K1 (λk m=>by simp at m;omega),λk m=>by have:=PS.lt;simp[Spo.foot]at m;omega,PV.keptB K2 (λk m=>by simp at m;omega),λk m=>by have:=(PV.foot_lt k m).2;omega,WG.kept K3 (λk m=>by simp at m;omega),by omega,by omega,by omega⟩
 have Pw:l.c=λ_=>none:=by funext t;unfold Tbl.c;rw[ly.out];rfl
 have bC:x.pc=qH n/\x.gs=[]:=by
  rw[hx];refine⟨?_,rfl⟩;unfold Prt.pc qH;simp only[Z.1,Z.2,sW.1,sW.2.1,sW.2.2.1,sW.2.2.2,Pw,ly.out,L1];rfl
 have x_:Kept [r] w (u.alloc (.cells #[(Value.pointer (some ⟨v0.p,0,none⟩)),(Value.pointer (some ⟨f.p,0,none⟩)),(Value.pointer (some ⟨l.p,0,none⟩)),(Value.pointer (some ⟨d.heap.size+1,0,none⟩))] 143)):=N.kept.trans (Kept.of_below (F:=[]) SH) (λq hq=>by cases hq);have bL:∃a2 c2,zv (u.alloc (.cells #[(Value.pointer (some ⟨v0.p,0,none⟩)),(Value.pointer (some ⟨f.p,0,none⟩)),(Value.pointer (some ⟨l.p,0,none⟩)),(Value.pointer (some ⟨d.heap.size+1,0,none⟩))] 143)) r a2 c2 []:=by
  obtain⟨a9,c9,sU,_⟩:=N.rd;exact⟨a9,c9,sU.below SH⟩
 have mf:=heap_alloc_new u (.cells #[(Value.pointer (some ⟨v0.p,0,none⟩)),(Value.pointer (some ⟨f.p,0,none⟩)),(Value.pointer (some ⟨l.p,0,none⟩)),(Value.pointer (some ⟨d.heap.size+1,0,none⟩))] 143);have HF:Hid (yA4 r n w (.returned (.pointer (some ⟨u.heap.size,0,none⟩))) (u.alloc (.cells #[(Value.pointer (some ⟨v0.p,0,none⟩)),(Value.pointer (some ⟨f.p,0,none⟩)),(Value.pointer (some ⟨l.p,0,none⟩)),(Value.pointer (some ⟨d.heap.size+1,0,none⟩))] 143))):=h_ ⟨u.heap.size,x,rfl,x_,by rw[aB];exact mf,⟨_,_,_,by rw[<-E.out];exact o⟩,bC.1,bC.2,N.kept.size,bL⟩;clear q1 q2 q3 q4 q5 q6 q7 q8 q9 e4 s4 SH m1 O K3 K2 K1 K0 Ez WI WJ WK WL o Pw bC x_ bL mf hx aB;go_wp2;go_ret;exact HF.out
end
section
def xJj:=lx_ 169
def xGq:=sx_ 169
def yEu:=@yh prog 169 2 isAgg169 sizeOf169
def yDh:=@yk prog 169 2 (by kernel_rfl)
attribute [local go_sem ↓] xDj xC3 xDi xC2 xC8 qF qe qf xJj xGq
attribute [local go_sem] xXp xWw xXo xWv xYo xFa xF4 yEu yDh zr zx yA yz xh xg xe xd xx xy xk xj xq xB xw
theorem vh.base {b b' c1 c2 c3 w x}(h:vh b c1 c2 c3 w x)(a:b'<=b):vh b' c1 c2 c3 w x:=⟨h.h.base a,h.hl,h.s,h.sl,h.t,h.tl,h.o,R_ a h.b1,h.b2,h.b3⟩
def xWi (n:Nat)(w:World)(e:Ending)(w':World):Prop:=∃sp x,e=.returned (.tuple #[.iface 141 (.pointer (some ⟨sp,0,none⟩)),.bool true])/\Below w.heap.size w w'/\w'.heap[sp]?=some (.cells (xR x) 143 (0,0))/\(∃c1 c2 c3,vh w.heap.size c1 c2 c3 w' x)/\x.pc=qH n/\x.gs=[]/\w.heap.size<=sp
theorem xN3 {w}(n)(h1:1<=n)(h2:n<=1073741824)(s:Gl w)(a cap)(hs:SlB w a (vW n))(ha:a.block<w.heap.size)(p:37<=cap)(o:cap<=maxLen):
  Calls prog 58 #[.slice (some a) 37 cap] w (xWi n w):=by
 obtain⟨r,h⟩:∃r,r=w.heap.size:=⟨_,rfl⟩;obtain⟨b,D⟩:∃b,b=w.alloc (.cells #[.slice (some a) 37 cap,.bool false] 210):=⟨_,rfl⟩;have f:Below w.heap.size w b:=by grind
 have F:zv b r a cap (vW n):=by
  refine⟨?_,⟨λq x hq=>(f.cell (by rw[xY];exact ha)).trans (hs.cell q x hq)⟩,by rw[yQ];exact p,o,by omega,b7 ha f.size⟩;grind [RdAt,yQ]
 have z:zv b r a cap ([1]++(beB 4 4++(beB 4 0++(beB 4 16++((beB 8 n++beB 8 0)++(beB 4 0++([]++(beB 4 0++([]++[]))))))))):=F;clear F;have g:=h_ (xB4 1 z);have P:=h_ s;have R:=h_ f;have O:=h_ h;have G:=h_ (And.intro h1 h2);have m:((1:UInt8).toNat:Int)=1:=rfl;rw[m]at g;clear h1 h2 s hs ha p o f z m;go_enter func58,ntmps58;go_upto_region 2 with fail
 refine xm D ?_;rw[<-h];clear D h;go_wp2_with fail;refine g.mono ?_;rintro e I ⟨rfl,i,S,c2,E,N⟩;have d:Below w.heap.size w I:=by grind
 have H:=h_ (xQe E G.1 G.2 (λW j=>P.later (d.trans (j.below d.size (λk j=>by rw[S_.1 j,O.out];exact w_ _)))));have B:=h_ d;clear i E N d g;go_wp2_with fail;refine H.mono ?_;rintro e c ⟨sp,x,rfl,M,l,⟨L,K,J,C⟩,A,u,v,a3,c3,y⟩;have t:Below w.heap.size w c:=by grind
 have h1:=y.row;unfold RdAt at h1;have c0:=cell_of_row c r 0 _ _ _ h1;have c1:=cell_of_row c r 1 _ _ _ h1;simp only[v_,L1]at c0 c1;have Q:Hid (∀k,xWi n w (.returned (.tuple #[.iface 141 (.pointer (some ⟨sp,0,none⟩)),.bool true])) (c.drewN k)):=h_ (λk=>⟨sp,x,rfl,y9 t k,l,⟨L,K,J,(C.below (y9 (z_ _ _) k)).base B.size⟩,A,u,R_ B.size v⟩);clear M l C A u v y t h1 H;go_upto_region 17 with fail
 go_quiet (fail);clear c0 c1;go_wp2;go_ret2;exact Q.out _
theorem xTd {w}(sp tp a b c d)(ha:a.oneCell'=true)(k:b.oneCell'=true)(j:c.oneCell'=true)(i:d.oneCell'=true)(cs)(h:w.heap[sp]?=some (.cells #[a,b,c,d] 143 (0,0)))(ht:w.heap[tp]?=some (.cells cs 107 (0,0)))(f:cs.size=4):
  Calls prog 351 #[.pointer (some ⟨sp,0,none⟩),.pointer (some ⟨tp,0,none⟩)] w λe w'=>e=.returned (.int .i64 0)/\w.setRow tp #[a,b,c,d]=w':=by
 obtain⟨o1,g⟩:=xF (n:=4) h rfl;have l:xN w tp 4=true:=za ht f;have m:xt 4 #[a,b,c,d]=true:=by grind [xAb]
 clear h ht f;go_enter func351,ntmps351;go_wp2;go_ret;exact⟨rfl,rfl⟩
theorem xTq (a w):Sem.run prog (Instr.typeAssert (.iface 141 (.pointer a)) 151 141 true) w=.ok (.tuple #[.pointer a,.bool true]) w:=by kernel_rfl
end
section
attribute [local go_sem ↓] xDi xC2 xC8 qF qe qf
attribute [local go_sem] xXo xWv xYo xFa xF4 zr zx yA yz xh xg xe xd xx xy xk xj xq xB xw
structure Fmt (d:PD)(j:PJ)(n:Nat):Prop where
 up:d.Up
 pend:d.pend=[]
 inv:JInv sha d.n d j
 gen:j.gen<=100
 first:j.first<=100
 ents:j.entries=[3 :: vW n]
def yA7 (D:Nat)(v:Dev)(d:PD)(n:Nat)(w:World)(e:Ending)(w':World):Prop:=e=.returned (.int .i64 0)/\Kept v.foot w w'/\∃v' d' j,v'.p=v.p/\v'.M=v.M/\yj D w' v' d'/\(∀k∈v'.foot,k∈v.foot\/w.heap.size<=k)/\d'.n=d.n/\Fmt d' j n
theorem xR0:y6 38=1:=by decide
theorem xIn {D w v d}(h:yj D w v d)(hu:d.Up)(hG:Gl w)(PZ:64<=d.n)(aX:d.pend=[])(hz:∀s,s<d.n->decP sha (d.vis s)=none)(n:Nat)(h1:1<=n)(h2:n<=1073741824)(hD:D<=w.heap.size)(fZ:prog.globals.size<=D):
  Calls prog 20 #[.pointer (some ⟨v.p,0,none⟩),.int .i64 n] w (yA7 D v d n w):=by
 have S:=h.foot_lt;have nL:=h_ S;have H:=h_ h;have HG:=h_ hG;have i:=h_ (And.intro hu (And.intro PZ (And.intro aX hz)));have HN:=h_ (And.intro h1 h2);have I:=h_ (And.intro hD fZ);have h64z:(64:Int)<=(d.n:Int):=by omega
 have mV:(d.n:Int)<=4096:=by have:=h.n2;omega
 have HNS:=h_ (xQx n h1 h2 w);clear h hu hG PZ aX hz h1 h2 hD fZ S;go_enter func20,ntmps20;go_wp2_with fail;refine(qA H.out).mono ?_;rintro e w' ⟨rfl,rfl⟩;go_wp2_with fail;refine HNS.mono ?_;rintro e c ⟨aa,x,rfl,hx,bC,dL⟩;obtain⟨E,Gw⟩:∃q,q=Value.pointer (some ⟨x.h.p,0,none⟩):=⟨_,rfl⟩;obtain⟨C,rR⟩:∃q,q=Value.pointer (some ⟨x.s.p,0,none⟩):=⟨_,rfl⟩;obtain⟨B,wP⟩:∃q,q=Value.pointer (some ⟨x.t.p,0,none⟩):=⟨_,rfl⟩;obtain⟨A,Lx⟩:∃q,q=Value.pointer (some ⟨x.ib,0,none⟩):=⟨_,rfl⟩;have aB:xR x=#[E,C,B,A]:=by rw[Gw,rR,wP,Lx];rfl
 have aU:xt 4 #[E,C,B,A]=true:=xAb _ _ _ _ (by rw[Gw];rfl) (by rw[rR];rfl) (by rw[wP];rfl) (by rw[Lx];rfl);rw[aB];have Ou:(uE.size==4)=true:=rfl;obtain⟨z,aR⟩:∃z,z=c.alloc (.cells #[E,C,B,A] 107):=⟨_,rfl⟩;have aN:Below c.heap.size c z:=by grind
 have aF:z.heap[c.heap.size]?=some (.cells #[E,C,B,A] 107 (0,0)):=by grind
 have X:=aa.trans (aN.mono aa.size);have eo:=hx.in.below aN (w_ _);have o:=H.below X;have g7:=h_ aB;have CY:=h_ eo;have ta:=h_ (And.intro bC dL);have ax:=h_ X;have dw:=h_ aF;have oU:=h_ o;have n5:=h_ aa.size;have Jy:Hid (c.heap.size<=z.heap.size):=h_ aN.size;have HL12':Hid (c.heap.size<z.heap.size):=h_ (i_ aF).1;have R:=HG.later X;have Bz:=h_ (xXv o i.1 (xB3 R) (by have:=i.2.1;omega) i.2.2.1 i.2.2.2 (R_ I.1 X.size) (b7 xB8 I.2));clear aa hx bC dL aB Gw rR wP Lx aN aF X eo o R HNS;go_upto_region 6 with fail
 refine xm aR ?_;clear aR;go_wp2_with fail;refine(qA oU.out).mono ?_;rintro e w' ⟨rfl,rfl⟩;go_wp2_with fail;refine Bz.mono ?_;rintro e j ⟨rfl,bz,v3,Ly,Sa,m,mr⟩;obtain⟨_,_,p3,p4,p5⟩:=JInv.format sha yR (d:=d) i.1 (by have:=i.2.1;omega) i.2.2.2;obtain⟨d1,W⟩:∃d1,d1=(d.puts 0 (zK.secs sha)).1.flushed:=⟨_,rfl⟩;have iM:d1.Up:=by grind [xC0]
 have HU1:=h_ iM;have Z:d1.n=d.n:=by rw[W];exact p4
 have fp:JInv sha d1.n d1 zK:=by rw[Z,W];exact p5.flushed
 have iN:d1.pend=[]:=by rw[W];rfl
 rw[<-W]at m;have P0:D<=j.heap.size:=by grind
 have dl:Below D w j:=by grind
 have aJ:=h_ dl;have Te:Hid (Gl j):=h_ (HG.below dl I.2);have P1:=h_ (xLs m iM (xB3 Te.out) zK (fp.toRec sha yR) (by decide) iN P0 (by decide) (b7 xB8 I.2) (by rw[Z];have:=i.2.1;omega));have Hc:Hid (kY w.heap.size c.heap.size j x):=h_ (CY.kept bz Jy.out (λk G=>.inl (nL.out k G).2));have mO:Hid (j.heap[c.heap.size]?=some (.cells #[E,C,B,A] 107 (0,0))):=h_ ((bz.block _ (i_ dw.out).1 (λhm=>by have:=(nL.out _ hm).2;have:=n5.out;omega)).trans dw.out);have eY:=h_ m;have HV3:=h_ (And.intro Ly (And.intro Sa mr));have L:=h_ (And.intro iM (And.intro Z (And.intro fp iN)));have nO:=h_ bz;have Q:Value.pointer (some ⟨v.p,0,none⟩)=.pointer (some ⟨v3.p,0,none⟩):=by rw[Ly]
 rw[Z]at P1;have im:=h_ Q;clear bz Ly Sa m mr p3 p4 p5 iM Z fp iN P0 dl Q W Bz;go_wp2_with fail;rw[im.out];refine(qA eY.out).mono ?_;rw[L.2.1];rintro e w' ⟨rfl,rfl⟩;go_wp2_with fail;refine P1.mono ?_;rintro e y ⟨b,v4,ev,entv,l,rfl,M,Gx,aQ,P,sQ,CW,P2,_,BU⟩;obtain⟨J,hJ⟩:∃J,J=kK sha d1.n d1 zK:=⟨_,rfl⟩;obtain⟨P3,WM⟩:=xL8 sha (L.2.2.1.toRec sha yR) (by decide);obtain⟨_,_,u3,u4,u5⟩:=JRec.reopen sha yR (L.2.2.1.toRec sha yR) L.1 (by decide);have FZ:1-zK.area=J.area:=by rw[hJ];rfl
 have Db:J.entries=[]:=by rw[hJ];rfl
 have Sq:Hid (J.first<=100):=h_ (by rw[hJ];exact n3 _);rw[FZ,<-hJ]at u3 u4 u5;rw[<-L.2.1,<-hJ]at Gx;rw[<-hJ]at P3 WM;obtain⟨f,o⟩:∃f,f=(d1.puts (J.area*(d1.n/2)) (J.secs sha)).1.flushed:=⟨_,rfl⟩;have P4:Hid f.Up:=h_ (by rw[o];exact xC0 (PD.puts_up _ _ _ HU1.out).2.1);rw[<-o]at Gx;have P5:f.n=d.n:=by rw[o];exact u4.trans L.2.1
 have c_:f.pend=[]:=by rw[o];rfl
 have cm:(J.secs sha).length=1:=by rw[uv,Db];rfl
 have RS:=h_ Gx;have a:=h_ (And.intro P5 (And.intro c_ (And.intro cm (And.intro Db WM))));have Jz:∀k∈v3.foot,k<w.heap.size\/c.heap.size+1<=k:=λk G=>by grind
 have Lk:Hid (kY w.heap.size c.heap.size y x):=h_ (Hc.kept M (R_ Jy.out nO.size) (λk G=>(Jz k G).imp_right (λh=>by omega)));have dN:=(M.block _ (i_ mO.out).1 (λhm=>by have:=Jz _ hm;have:=n5.out;omega)).trans mO.out;obtain⟨o4,r4⟩:=xF (n:=4) dN rfl;obtain⟨r,cC⟩:∃r,r=y.alloc (.cells #[E,C,B,A] 143):=⟨_,rfl⟩;have Y:Below y.heap.size y r:=by grind
 have ik:r.heap[y.heap.size]?=some (.cells #[E,C,B,A] 143 (0,0)):=by grind
 have JA:∀k∈v3.foot,D<=k:=by grind
 have K6:Below D w y:=by grind
 have WN:w.heap.size<=y.heap.size:=K6.size;have sG:Below D w r:=by grind
 have Ag:Gl r:=HG.below sG I.2;have gg:u9 w.heap.size r x:=(Lk.below Y (R_ Jy.out (R_ nO.size M.size))).at;have lB:=h_ (xKr gg Ag n ta.1 ta.2 HN.2 y.heap.size (by rw[g7.out];exact ik));have wT:=h_ (Gx.below Y);have HG5:=h_ Ag;have wO:=h_ (M.trans (Kept.of_below (F:=[]) Y) (λq hq=>by cases hq));have bR:=h_ sG;have HV4:=h_ (And.intro P (And.intro sQ (And.intro CW P2)));have WO:=h_ aQ;have H35:Hid (j.heap.size<=r.heap.size):=h_ (R_ M.size Y.size);clear M Gx aQ P sQ CW P2 BU hJ P3 WM u3 u4 u5 FZ Db o P5 c_ cm Jz dN Y ik JA K6 WN sG Ag gg P1;go_upto_region 14 with fail
 go_wp2_with fail;rw[<-cC];clear cC;refine lB.mono ?_;rintro e K ⟨bM,u,rfl,ae⟩;obtain⟨ug,uc,hu,O9,Ln,iL⟩:∃g cap,u=.slice (some ⟨g,0,none⟩) 37 cap/\37<=cap/\g<K.heap.size/\SlB K ⟨g,0,none⟩ (vW n):=by
  rcases ae.at with⟨_,h⟩|⟨g,cap,h1,h2,h3,h4,h5⟩
  ·grind [List.length,yQ]
  ·have:=(ae.lt (k:=g) (by rw[h1];rfl)).2;grind [yQ]
 subst hu;have SI:Below D w K:=by grind
 have P6:f.n=d.n:=a.1;have P7:f.pend=[]:=a.2.1;have Ja:(J.secs sha).length=1:=a.2.2.1;have pV:=wT.below bM
 have rX:=h_ (xT3 pV P4.out (xB3 (HG.below SI I.2)) (vW n) ⟨ug,0,none⟩ uc iL Ln (by rw[yQ];exact O9) (by rw[yQ];omega) (by rw[yQ];omega)
  (by rw[yQ,xR0,Ja,P6];have:=i.2.1;omega) (by rw[yQ,xR0,P7];decide) (by rw[a.2.2.2.1];decide) (R_ I.1 SI.size))
 rw[yQ]at rX;have fH:=h_ SI;have OY:=h_ (wO.trans (Kept.of_below (F:=[]) bM) (λq hq=>by cases hq));have H36:Hid (j.heap.size<=K.heap.size):=h_ (R_ H35.out bM.size);clear bM ae O9 Ln iL SI P6 P7 Ja pV lB o4 r4;go_wp2_with fail;refine rX.mono ?_;rintro e w7 ⟨rfl,dO,v7,ev7,O,U,Lz,MI,P8⟩;obtain⟨V,m⟩:∃V,V=(f.puts (J.area*(f.n/2)+(J.secs sha).length) (xJ sha (J.body (3 :: vW n)))).1:=⟨_,rfl⟩;have P9:V.n=f.n:=by rw[m];exact(JInv.add sha yR RS.inv P4.out (3 :: vW n) (by rw[x5,yQ];omega) (by rw[a.2.2.2.1];decide) (by rw[x5,yQ,xR0,a.2.2.1,a.1];have:=i.2.1;omega)).2.2.1
 have Gq:V.Up:=by rw[m];exact(PD.puts_up _ _ _ P4.out).2.1
 have HFU:=h_ (xM2 Gq);have HU3:=h_ Gq;rw[<-m]at Lz;have P_:=h_ (xP0 Lz (by show (J.entries++[3 :: vW n]).length<=_;rw[a.2.2.2.1];simp) (by rw[xM2 Gq]));have Gg:=h_ dO;have HV7:=h_ (And.intro O (And.intro U (And.intro MI (And.intro P8 P9))));clear dO O U Lz MI P8 m P9 rX Gq;go_wp2_with fail;refine P_.mono ?_;rintro e w8 ⟨rfl,wE,v8,sy8,N,T,SJ,MM⟩;rw[HFU.out]at SJ;have bV:yA7 D v d n w (.returned (.int .i64 0)) w8:=by
  obtain⟨a1,a2,a3⟩:=HV3.out;obtain⟨a4,a5,a6,a7⟩:=HV4.out;obtain⟨a8,a9,a10,a11,a12⟩:=HV7.out;have z1:w.heap.size<=j.heap.size:=aJ.size;have z2:=H36.out;have z3:w.heap.size<=z.heap.size:=ax.size;have z4:=WO.out;have z7:K.heap.size<=w7.heap.size:=Gg.size;have c3:∀k∈v3.foot,k∈v.foot\/w.heap.size<=k:=by grind
  have c4:∀k∈v4.foot,k∈v.foot\/w.heap.size<=k:=λk G=>by grind
  have c7:∀k∈v7.foot,k∈v.foot\/w.heap.size<=k:=λk G=>by grind
  have c8:∀k∈v8.foot,k∈v.foot\/w.heap.size<=k:=λk G=>by grind
  have kk3:Kept v.foot w j:=by grind
  have kk6:Kept v.foot w K:=by grind
  have kk7:Kept v.foot w w7:=kk6.trans Gg.out (λq hq=>by
   rcases g8.1 hq with rfl|hq
   ·exact .inr (by omega)
   ·rcases m3.1 hq with hq|hq
    ·exact c4 q hq
    ·have:=a7 q (by simpa using hq);exact .inr (by omega))
  have kk8:Kept v.foot w w8:=kk7.trans wE (λq hq=>by
   rcases g8.1 hq with rfl|hq
   ·exact .inr (by omega)
   ·exact c7 q hq)
  refine⟨rfl,kk8,v8,_,_,N.trans (a8.trans (a4.trans a1)),T.trans (a9.trans (a5.trans a2)),SJ.dev,c8,(yBz V).trans (a12.trans a.1),xC0 HU3.out,rfl,SJ.inv,?_,Sq.out,?_⟩
  ·show J.gen<=100
   have:=a.2.2.2.2;have h0:zK.gen=0:=rfl;omega
  ·show J.entries++[3 :: vW n]=_
   rw[a.2.2.2.1];rfl
 have aC:=h_ bV;clear wE N T SJ MM bV P_;go_wp2;go_ret;exact aC.out
end
section
def xJg:=lx_ 109
def xGn:=sx_ 109
def yEr:=@yh prog 109 5 isAgg109 sizeOf109
def yDe:=@yk prog 109 5 (by kernel_rfl)
def yT (b:Nat)(v:Dev)(ev:List Nat):List Nat:=b :: (v.foot++ev)
structure StAt (D:Nat)(w:World)(sb b:Nat)(v:Dev)(d:PD)(j:PJ)(ev:List Nat)(sy:Int)(x:Prt)(B T:Nat):Prop where
 blk:w.heap[sb]?=some (.cells #[.pointer (some ⟨b,0,none⟩),.pointer (some ⟨x.h.p,0,none⟩),.pointer (some ⟨x.s.p,0,none⟩),.pointer (some ⟨x.t.p,0,none⟩),.pointer (some ⟨x.ib,0,none⟩)] 109 (0,0))
 jat:JAt D w b v d j ev sy 0
 prt:kY B T w x
 tl:T<=w.heap.size
 sep:∀k∈yT b v ev,k<B\/T<=k
 sbj:sb∉yT b v ev
 sbp:sb<B\/T<=sb
 sbD:D<=sb
 DB:D<=B
def StOk (D:Nat)(w:World)(sb p n q:Nat)(U:Bool)(R:Nat)(E:List By)(c:PC)(F:List Nat):Prop:=∃b v d j ev sy x B T,StAt D w sb b v d j ev sy x B T/\v.p=p/\d.n=n/\d.pend=[]/\j.entries=E/\x.pc=c/\((j.gen<=q/\j.first<=q)/\(U=true->d.lim=none))/\F=sb :: yT b v ev/\R<w.heap.size/\(R<B\/T<=R)
theorem StAt.kept {D w w' sb b v d j ev sy x B T}(h:StAt D w sb b v d j ev sy x B T){F}(a:Kept F w w')(c:∀k∈F,k≠sb/\k∉yT b v ev/\(k<B\/T<=k)):StAt D w' sb b v d j ev sy x B T:=by
 refine⟨(a.block _ (i_ h.blk).1 (λf=>(c _ f).1 rfl)).trans h.blk,h.jat.kept a (λk e=>?_),h.prt.kept a h.tl (λk e=>(c k e).2.2),R_ h.tl a.size,h.sep,h.sbj,h.sbp,h.sbD,h.DB⟩;grind [yT]
theorem StAt.jlt {D w sb b v d j ev sy x B T}(h:StAt D w sb b v d j ev sy x B T):∀k∈yT b v ev,D<=k/\k<w.heap.size:=by
 intro k a;simp only[yT,g8,m3]at a;rcases a with rfl|a|a
 ·exact⟨h.jat.bB,h.jat.blt⟩
 ·exact h.jat.dev.foot_lt k a
 ·exact⟨(h.jat.es_ k a).1,(h.jat.es_ k a).2.1⟩
theorem StAt.below {D w w' sb b v d j ev sy x B T}(h:StAt D w sb b v d j ev sy x B T)(a:Below w.heap.size w w'):StAt D w' sb b v d j ev sy x B T:=h.kept (Kept.of_below (F:=[]) a) (by simp)
theorem StOk.below {D w w' sb p n q U R E c F}(h:StOk D w sb p n q U R E c F)(e:Below w.heap.size w w'):StOk D w' sb p n q U R E c F:=by
 obtain⟨b,v,d,j,ev,sy,x,B,T,h1,h2,h3,h4,l,k,i,g,f,a⟩:=h;exact⟨b,v,d,j,ev,sy,x,B,T,h1.below e,h2,h3,h4,l,k,i,g,b7 f e.size,a⟩
theorem StOk.kept {D w w' sb p n q U R E c F}(h:StOk D w sb p n q U R E c F)(f:Kept [R] w w')(e:R∉F):StOk D w' sb p n q U R E c F:=by
 obtain⟨b,v,d,j,ev,sy,x,B,T,h1,h2,h3,h4,o,m,l,g,i,a⟩:=h;rw[g,g8,not_or]at e;exact⟨b,v,d,j,ev,sy,x,B,T,h1.kept f (λk r=>by rw[S_.1 r];exact⟨e.1,e.2,a⟩),h2,h3,h4,o,m,l,g,b7 i f.size,a⟩
theorem StOk.at {D w w' sb p n q U R E c F}(h:StOk D w sb p n q U R E c F)(a:Below w.heap.size w w'){M}(e:w.heap.size<=M)(m:M<w'.heap.size):StOk D w' sb p n q U M E c F:=by
 obtain⟨b,v,d,j,ev,sy,x,B,T,h1,h2,h3,h4,k,i,g,f,o,l⟩:=h;exact⟨b,v,d,j,ev,sy,x,B,T,h1.below a,h2,h3,h4,k,i,g,f,m,.inr (R_ h1.tl e)⟩
theorem StOk.flt {D w sb p n q U R E c F}(h:StOk D w sb p n q U R E c F):∀k∈F,D<=k/\k<w.heap.size:=by
 obtain⟨b,v,d,j,ev,sy,x,B,T,h1,_,_,_,_,_,_,rfl,_⟩:=h;intro k a;rcases g8.1 a with rfl|a
 ·exact⟨h1.sbD,(i_ h1.blk).1⟩
 ·exact h1.jlt k a
attribute [local go_sem ↓] qF qe qf xJg xGn
attribute [local go_sem] xFa xF4 yEr yDe zr zx yA yz xh xg xe xd xx xy xk xj xq xB xw
theorem xRq (ρ:Operand->Value)(d b a)(ty:TypeId)(pos af gd w):
  Sem.run prog (execOp ρ ⟨d,.build 109 #[(0,b),(1,a)],ty,pos,af,gd⟩) w=zl prog 109 w #[(0,ρ b),(1,ρ a)]:=by kernel_rfl
theorem yK8 (w p a b c d):zl prog 109 w #[(0,.pointer p),(1,.agg #[a,b,c,d])]=.ok (.value (.agg #[.pointer p,a,b,c,d])) w:=zo (by kernel_rfl)
attribute [local go_sem ↓] xRq
attribute [local go_sem] yK8
structure Rcv (d:PD)(j:PJ)(q:Nat):Prop where
 up:d.Up
 pend:d.pend=[]
 inv:JRec sha d.n d j
 gen:j.gen<=q
 first:j.first<=q
 few:j.entries.length<=1000
 qle:q<=2000000000
def xSm (c:PC)(w:World)(e:Ending)(w':World):Prop:=∃x,e=.returned (.tuple #[.agg (xR x),.bool true])/\Below w.heap.size w w'/\u9 w.heap.size w' x/\x.pc=c
def xMv (D:Nat)(v:Dev)(d:PD)(q:Nat)(E:List By)(c:PC)(w:World)(e:Ending)(w':World):Prop:=∃sb,e=.returned (.tuple #[.pointer (some ⟨sb,0,none⟩),.int .i64 0])/\Below D w w'/\Kept v.foot w w'/\∃F,(∀R,R<w.heap.size->StOk D w' sb v.p d.n (q+2) true R E c F)/\∀k∈F,k∈v.foot\/w.heap.size<=k
theorem xWt {D w v d j q}(h:yj D w v d)(PZ:64<=d.n)(z:Rcv d j q)(hG:Gl w)(c0:PC)(fS:∀W v l B,Below w.heap.size w W->JeAt W B v l->l.map (λx=>x.2.1)=j.entries->B<=W.heap.size->Calls prog 34 #[v] W (xSm c0 W))(hD:D<=w.heap.size)(fZ:prog.globals.size<=D):
  Calls prog 15 #[.pointer (some ⟨v.p,0,none⟩)] w (xMv D v d q j.entries c0 w):=by
 have HS:=h_ (qA h);have D2:=h_ (xVq h);rw[z.up.1]at D2;have HC:=h_ (yFy h z.pend);have hz:(64:Int)<=(d.n:Int):=by omega
 have H:=h_ h;have HG:=h_ hG;have a:=h_ z;have I:=h_ PZ;have HN:=h_ fS;have P:=h_ z.qle;have G:=h_ (And.intro hD fZ);have nL:=h_ h.foot_lt;clear h PZ z hG fS hD fZ;go_enter func15,ntmps15;go_wp2_with fail;refine HS.mono ?_;rintro e w' ⟨rfl,rfl⟩;go_wp2_with fail;refine D2.mono ?_;rintro e w' ⟨rfl,rfl⟩;go_wp2_with fail;refine HC.mono ?_;rintro e w1 ⟨aa,c,rfl,M⟩;have aq:=h_ aa;have tA:=h_ (xN7 M);have HCP:=h_ (And.intro M.pB (M.foot_lt _ c.p_foot).2);clear aa M HC;go_wp2_with fail;refine tA.mono ?_;rintro e w2 ⟨rfl,V,A⟩;have he:({ d with lim:=none }:PD)=d:=by rw[<-a.up.2]
 rw[he]at A;have O:Below w.heap.size w w2:=by grind
 have ax:=h_ O;have dU:=h_ (qA A);have iw:=h_ (xLs A a.up (xB3 (HG.later O)) j a.inv (by have:=a.gen;have:=P.out;omega) a.pend O.size a.few (b7 xB8 HG.size) (by have:=I.out;omega));have HCF:=h_ A.foot_lt;clear V A O he tA;go_wp2_with fail;refine dU.mono ?_;rintro e w' ⟨rfl,rfl⟩;go_wp2_with fail;refine iw.mono ?_;rintro e u ⟨b3,v3,Gn,entv,l,rfl,bz,BQ,ao,_,_,_,_,sa,nH⟩;have Y:Below w.heap.size w u:=by grind
 have aJ:=h_ Y;have HR:=h_ (HN.out u entv l w2.heap.size Y sa nH bz.size);clear bz BQ ao sa nH Y iw;go_wp2_with fail;refine HR.mono ?_;rintro e b ⟨x,rfl,aQ,au,bC⟩;have aB:xR x=#[.pointer (some ⟨x.h.p,0,none⟩),.pointer (some ⟨x.s.p,0,none⟩),.pointer (some ⟨x.t.p,0,none⟩),.pointer (some ⟨x.ib,0,none⟩)]:=rfl;rw[aB];have Ou:(uE.size==4)=true:=rfl;have aU:xt 4 #[Value.pointer (some ⟨x.h.p,0,none⟩),.pointer (some ⟨x.s.p,0,none⟩),.pointer (some ⟨x.t.p,0,none⟩),.pointer (some ⟨x.ib,0,none⟩)]=true:=xAb _ _ _ _ rfl rfl rfl rfl;obtain⟨g,cC⟩:∃g,g=b.alloc (.cells #[.pointer (some ⟨x.h.p,0,none⟩),.pointer (some ⟨x.s.p,0,none⟩),.pointer (some ⟨x.t.p,0,none⟩),.pointer (some ⟨x.ib,0,none⟩)] 107):=⟨_,rfl⟩;have T:Below b.heap.size b g:=by grind
 have U:g.heap[b.heap.size]?=some (.cells #[.pointer (some ⟨x.h.p,0,none⟩),.pointer (some ⟨x.s.p,0,none⟩),.pointer (some ⟨x.t.p,0,none⟩),.pointer (some ⟨x.ib,0,none⟩)] 107 (0,0)):=by grind
 have WP:Below w.heap.size w b:=by grind
 have y:Below w.heap.size w g:=by grind
 have gg:kY u.heap.size b.heap.size g x:=au.in.below T (w_ _);have S:=H.below y;have bR:=h_ y;have oO:=h_ gg;have EC:=h_ U;have ta:=h_ bC;have HL:=h_ (And.intro aQ.size (And.intro T.size aJ.size));have K7:Hid (b.heap.size<g.heap.size):=h_ (i_ U).1;have C9:=h_ (qA S);have UH:=h_ (xLs S a.up (xB3 (HG.later y)) j a.inv (by have:=a.gen;have:=P.out;omega) a.pend (R_ G.1 y.size) a.few (b7 xB8 G.2) (by have:=I.out;omega));clear aQ au bC aB T U WP y gg S HR;go_upto_region 13 with fail
 refine xm cC ?_;clear cC;go_wp2_with fail;refine C9.mono ?_;rintro e w' ⟨rfl,rfl⟩;go_wp2_with fail;refine UH.mono ?_;rintro e f ⟨E,Q,WQ,X,l6,rfl,C,i,bM,Gy,sL,Eh,JB,_,WR⟩;have eE:=(C.block _ (i_ EC.out).1 (λK=>by have h9:=(nL.out _ K).2;have:=HL.1;have:=HL.2.2;omega)).trans EC.out;obtain⟨o6,r6⟩:=xF (n:=4) eE rfl;obtain⟨o,fK⟩:∃o,o=f.alloc (.cells #[.pointer (some ⟨E,0,none⟩),.pointer (some ⟨x.h.p,0,none⟩),.pointer (some ⟨x.s.p,0,none⟩),.pointer (some ⟨x.t.p,0,none⟩),.pointer (some ⟨x.ib,0,none⟩)] 109):=⟨_,rfl⟩;have m:Below f.heap.size f o:=by grind
 have oo:o.heap[f.heap.size]?=some (.cells #[.pointer (some ⟨E,0,none⟩),.pointer (some ⟨x.h.p,0,none⟩),.pointer (some ⟨x.s.p,0,none⟩),.pointer (some ⟨x.t.p,0,none⟩),.pointer (some ⟨x.ib,0,none⟩)] 109 (0,0)):=by grind
 have bV:xMv D v d q j.entries c0 w (.returned (.tuple #[.pointer (some ⟨f.heap.size,0,none⟩),.int .i64 0])) o:=by
  obtain⟨l1,l2,l3⟩:=HL.out;have l5:=K7.out;have l6':g.heap.size<=f.heap.size:=C.size;have Z:Below D w f:=by grind
  have SK:∀k∈yT E Q WQ,k<u.heap.size\/b.heap.size<=k:=by grind [yT]
  obtain⟨_,_,_,u4,_⟩:=JRec.reopen sha yR a.inv a.up (by have:=a.gen;have:=P.out;omega);obtain⟨J,hJ⟩:∃J,J=kK sha d.n d j:=⟨_,rfl⟩;have FZ:1-j.area=J.area:=by rw[hJ];rfl
  have Db:J.entries=j.entries:=by rw[hJ];rfl
  rw[FZ,<-hJ]at u4;rw[<-hJ]at i;obtain⟨r,N⟩:∃r,r=(d.puts (J.area*(d.n/2)) (J.secs sha)).1.flushed:=⟨_,rfl⟩;obtain⟨sy,Jv⟩:∃sy,sy=(J.first:Int)+J.entries.length:=⟨_,rfl⟩;rw[<-N,<-Jv]at i;have aF:r.n=d.n:=by rw[N];exact u4
  have c_:r.pend=[]:=by rw[N];rfl
  have nw:StAt D o f.heap.size E Q r J WQ sy x u.heap.size b.heap.size:=by
   refine⟨oo,i.below m,(oO.kept C (by omega) (λk L=>.inl (by have:=(nL.out k L).2;omega))).below m (by omega),by have:=m.size;omega,SK,λK=>?_,.inr (by omega),by have:=Z.size;have:=G.1;omega,by have:=G.1;omega⟩;simp only[yT,g8,m3]at K;rcases K with h|h|h
   ·have:=i.blt;omega
   ·have:=(i.dev.foot_lt _ h).2;omega
   ·have:=(i.es_ _ h).2.1;omega
  refine⟨_,rfl,Z.trans (m.mono (R_ G.1 Z.size)),((Kept.of_below (F:=v.foot) bR.out).trans C (λk L=>.inl L)).trans (Kept.of_below (F:=[]) m) (λ_ h=>by cases h),_,λR hR=>⟨E,Q,r,J,WQ,sy,x,_,_,nw,Gy,aF,c_,Db,ta.out,⟨⟨?_,?_⟩,λ_=>by rw[N];exact(PD.puts_up (J.secs sha) d (J.area*(d.n/2)) a.up).2.1.2⟩,rfl,by have:=m.size;omega,.inl (by omega)⟩,λk L=>?_⟩
  ·have h9:=(xL8 sha a.inv (by have:=a.gen;have:=P.out;omega)).2;rw[<-hJ]at h9;have:=a.gen;omega
  ·rw[hJ];exact R_ a.first (by omega)
  grind [yT]
 have aC:=h_ bV;clear C i bM Gy sL Eh JB WR eE m oo bV UH;go_upto_region 18 with fail
 go_wp2;rw[<-fK];go_ret2;exact aC.out
end
section
attribute [local go_sem ↓] vN qS qY
attribute [local go_sem] xHu xHf zr zx yA yz xh xg xe xd xx xy xk xj xq xB xw
theorem xQu {w}(ob s)(hs:s.length<=1000)(h:w.heap[ob]?=some (.cells #[.string (str s)] 100 (0,0))):
  Calls prog 344 #[.pointer (some ⟨ob,0,none⟩)] w λe w'=>Below w.heap.size w w'/\∃u,e=.returned u/\OwnB w' w.heap.size u ([4]++(beB 4 s.length++s)):=by
 obtain⟨b,a⟩:∃b,b=w.heap.size:=⟨_,rfl⟩;obtain⟨c,d⟩:∃c,c=w.alloc (.cells #[.slice none 0 0] 196):=⟨_,rfl⟩;have n:Below b w c:=by grind
 have g:WrAt b c b []:=⟨w_ _,_,by rw[d,a];exact heap_alloc_new w _,OwnB.nil _ _⟩;have f:=h_ (jr g 4 (by simp));have z:=h_ n;have B:=h_ h;have HS:=h_ hs;have D:=h_ a;have A:Hid (ob<b):=h_ (by rw[a];exact(i_ h).1);rw[<-a];clear h hs n g;have x:((4:UInt8).toNat:Int)=4:=rfl;have E:(#[Value.slice none 0 0].size==1)=true:=rfl;have C:xt 1 #[Value.slice none 0 0]=true:=by simp[xt,Value.oneCell']
 rw[x]at f;go_enter func344,ntmps344;go_upto_region 2 with fail
 refine xm d ?_;rw[<-a];clear d a;go_wp2_with fail;refine f.mono ?_;rintro e t ⟨rfl,m,o⟩;have k:=h_ (z.trans m);have j:=(k.block ob A.out).trans B.out;have c2:=cell_of_row t ob 0 _ _ _ j;simp only[v_]at c2;have p:=h_ (qo o s (by have:=HS.out;omega) (by simp));clear m o j f;go_wp2_with fail;refine p.mono ?_;rintro e r ⟨rfl,l,y,v,i,ho⟩;have hall:([]:By)++[4]++beB 4 s.length++s=[4]++(beB 4 s.length++s):=by simp
 rw[hall]at ho;have c3:=cell_of_row r b 0 _ _ _ i;simp only[v_]at c3;have q:=h_ (And.intro (k.trans l) ho);clear l y i ho hall p c2;go_wp2;go_ret;exact⟨q.1,v,rfl,q.2⟩
theorem xS8 {w}(ob s)(hs:s.length<=1000)(h:w.heap[ob]?=some (.cells #[.string (str s)] 102 (0,0))):
  Calls prog 347 #[.pointer (some ⟨ob,0,none⟩)] w λe w'=>Below w.heap.size w w'/\∃u,e=.returned u/\OwnB w' w.heap.size u ([5]++(beB 4 s.length++s)):=by
 obtain⟨b,a⟩:∃b,b=w.heap.size:=⟨_,rfl⟩;obtain⟨c,d⟩:∃c,c=w.alloc (.cells #[.slice none 0 0] 196):=⟨_,rfl⟩;have n:Below b w c:=by grind
 have g:WrAt b c b []:=⟨w_ _,_,by rw[d,a];exact heap_alloc_new w _,OwnB.nil _ _⟩;have f:=h_ (jr g 5 (by simp));have z:=h_ n;have B:=h_ h;have HS:=h_ hs;have D:=h_ a;have A:Hid (ob<b):=h_ (by rw[a];exact(i_ h).1);rw[<-a];clear h hs n g;have x:((5:UInt8).toNat:Int)=5:=rfl;have E:(#[Value.slice none 0 0].size==1)=true:=rfl;have C:xt 1 #[Value.slice none 0 0]=true:=by simp[xt,Value.oneCell']
 rw[x]at f;go_enter func347,ntmps347;go_upto_region 2 with fail
 refine xm d ?_;rw[<-a];clear d a;go_wp2_with fail;refine f.mono ?_;rintro e t ⟨rfl,m,o⟩;have k:=h_ (z.trans m);have j:=(k.block ob A.out).trans B.out;have c2:=cell_of_row t ob 0 _ _ _ j;simp only[v_]at c2;have p:=h_ (qo o s (by have:=HS.out;omega) (by simp));clear m o j f;go_wp2_with fail;refine p.mono ?_;rintro e r ⟨rfl,l,y,v,i,ho⟩;have hall:([]:By)++[5]++beB 4 s.length++s=[5]++(beB 4 s.length++s):=by simp
 rw[hall]at ho;have c3:=cell_of_row r b 0 _ _ _ i;simp only[v_]at c3;have q:=h_ (And.intro (k.trans l) ho);clear l y i ho hall p c2;go_wp2;go_ret;exact⟨q.1,v,rfl,q.2⟩
structure PrtD (b:Nat)(w:World)(x:Prt):Prop where
 all:u9 b w x
 hs:∀k∈x.h.foot,k∉x.s.foot
 ht:∀k∈x.h.foot,k∉x.t.foot
 ho:∀k∈x.h.foot,k∉foot x.ib x.M x.gs
 st:∀k∈x.s.foot,k∉x.t.foot
 so:∀k∈x.s.foot,k∉foot x.ib x.M x.gs
 tq:∀k∈x.t.foot,k∉foot x.ib x.M x.gs
theorem Hst.foot_lt {B w}{v:Hst}(h:yX B w v):∀k∈v.foot,B<=k/\k<w.heap.size:=λk a=>by
 have:=h.lt;simp[Hst.foot]at a;rcases a with rfl|rfl
 ·exact⟨h.pB,this.1⟩
 ·exact⟨h.MB,this.2⟩
theorem Spo.foot_lt {B w}{v:Spo}(h:yN B w v):∀k∈v.foot,B<=k/\k<w.heap.size:=λk a=>by
 have:=h.lt;simp[Spo.foot]at a;rcases a with rfl|rfl
 ·exact⟨h.pB,this.1⟩
 ·exact⟨h.MB,this.2⟩
theorem vh.dis {b c1 c2 c3 w x}(h:vh b c1 c2 c3 w x):PrtD b w x:=by
 have i:=h.b2;have g:=h.b3;have f:=h.hl;have hs:=λk d=>(Spo.foot_lt h.s k d).1
 have j:=h.sl;have ht:=λk d=>(h.t.foot_lt k d).1
 have e:=h.tl;have ho:=λk d=>(h.o.foot_lt k d).1
 refine⟨h.at,λk a c=>?_,λk a c=>?_,λk a c=>?_,λk a c=>?_,λk a c=>?_,λk a c=>?_⟩
 ·grind
 ·grind
 ·grind
 ·grind
 ·grind
 grind
theorem PrtD.lt {b w x}(h:PrtD b w x):b<=w.heap.size:=R_ h.all.h.pB (T8 h.all.h.lt.1)
theorem PrtD.below {b w w' x}(h:PrtD b w x)(a:Below w.heap.size w w'):PrtD b w' x:=⟨h.all.below a,h.hs,h.ht,h.ho,h.st,h.so,h.tq⟩
theorem y5.keptF {B w w' ib M mc gs F}(h:y5 B w ib M gs mc)(e:Kept F w w')(l:∀k∈foot ib M gs,k∉F)(f:∀k∈F,∀cs,w.heap[k]?≠some (.cells cs 42 (0,0))):y5 B w' ib M gs mc:=
 h.keep (λk a=>e.block k (h.foot_lt k a).2 (l k a)) (λG j m g k b=>by
  have d:=(h.grps G j).lines.refs m g;obtain⟨c,i⟩:=d.typed b;exact e.block k (d.lt b).2 λa=>f k a c i)
theorem yC.no_id {B w v}(h:yC B w v):∀k∈v.foot,∀cs,w.heap[k]?≠some (.cells cs 42 (0,0)):=λk a cs e=>by
 rcases Tbl.mem_foot.1 a with rfl|rfl|⟨g,b,c⟩
 ·have:=e.symm.trans h.blk;simp at this
 ·have:=h.map;unfold xV at this;rw[this]at e;cases e
 ·obtain⟨c2,h2⟩:=xS (h.ivs g b) c;rw[h2]at e;simp at e
theorem yX.no_id {B w v}(h:yX B w v):∀k∈v.foot,∀cs,w.heap[k]?≠some (.cells cs 42 (0,0)):=λk a cs e=>by
 simp[Hst.foot]at a;rcases a with rfl|rfl
 ·have:=e.symm.trans h.blk;simp at this
 ·have:=h.map;unfold xV at this;rw[this]at e;cases e
theorem yN.no_id {B w v}(h:yN B w v):∀k∈v.foot,∀cs,w.heap[k]?≠some (.cells cs 42 (0,0)):=λk a cs e=>by
 simp[Spo.foot]at a;rcases a with rfl|rfl
 ·have:=e.symm.trans h.blk;simp at this
 ·have:=h.map;unfold xV at this;rw[this]at e;cases e
theorem PrtD.setT {b w w' x t'}(h:PrtD b w x)(d:Kept x.t.foot w w')(g:yC b w' t')(f:∀k∈t'.foot,k∈x.t.foot\/w.heap.size<=k):PrtD b w' { x with t:=t' }:=
 ⟨⟨h.all.h.kept d h.ht,h.all.s.kept d h.st,g,h.all.o.keptF d (λk a c=>h.tq k c a) h.all.t.no_id⟩,h.hs,
  λk a c=>(f k c).elim (h.ht k a) (λe=>by have:=(Hst.foot_lt h.all.h k a).2;omega),h.ho,
  λk a c=>(f k c).elim (h.st k a) (λe=>by have:=(Spo.foot_lt h.all.s k a).2;omega),h.so,
  λk a c=>(f k a).elim (λe=>h.tq k e c) (λe=>by have:=(h.all.o.foot_lt k c).2;omega)⟩
theorem PrtD.setH {b w w' x c}(h:PrtD b w x)(d:Kept [x.h.M] w w')(g:yX b w' c)(i:c.p=x.h.p)(j:c.M=x.h.M):PrtD b w' { x with h:=c }:=by
 have e:c.foot=x.h.foot:=by grind [Hst.foot]
 have f:x.h.M∈x.h.foot:=by simp[Hst.foot]
 have one:∀{G:List Nat},(∀k∈x.h.foot,k∉G)->∀k∈G,k∉[x.h.M]:=by grind
 refine⟨⟨g,h.all.s.kept d (one h.hs),h.all.t.kept d (one h.ht),h.all.o.keptF d (one h.ho) (λk a=>h.all.h.no_id k (by rw[S_.1 a];exact f))⟩,?_,?_,?_,h.st,h.so,h.tq⟩
 ·intro k a;exact h.hs k (e▸a)
 ·intro k a;exact h.ht k (e▸a)
 ·intro k a;exact h.ho k (e▸a)
theorem PrtD.setS {b w w' x s'}(h:PrtD b w x)(d:Kept [x.s.M,x.s.p] w w')(g:yN b w' s')(i:s'.p=x.s.p)(j:s'.M=x.s.M):PrtD b w' { x with s:=s' }:=by
 have f:s'.foot=x.s.foot:=by grind [Spo.foot]
 have e:∀k∈[x.s.M,x.s.p],k∈x.s.foot:=λk d=>by simp[Spo.foot]at d⊢;exact d.symm
 refine⟨⟨h.all.h.kept d (λk a c=>h.hs k a (e k c)),g,h.all.t.kept d (λk a c=>h.st k (e k c) a),h.all.o.keptF d (λk a c=>h.so k (e k c) a) (λk a=>h.all.s.no_id k (e k a))⟩,?_,h.ht,h.ho,?_,?_,h.tq⟩
 ·intro k a c;exact h.hs k a (f▸c)
 ·intro k a;exact h.st k (f▸a)
 ·intro k a;exact h.so k (f▸a)
theorem PrtD.setO {b w w' x gs' mc'}(h:PrtD b w x)(d:Kept (foot x.ib x.M x.gs) w w')(g:y5 b w' x.ib x.M gs' mc')(f:∀k∈foot x.ib x.M gs',k∈foot x.ib x.M x.gs\/w.heap.size<=k):PrtD b w' { x with gs:=gs',mc:=mc' }:=
 ⟨⟨h.all.h.kept d h.ho,h.all.s.kept d h.so,h.all.t.kept d h.tq,g⟩,h.hs,h.ht,
  λk a c=>(f k c).elim (h.ho k a) (λe=>by have:=(Hst.foot_lt h.all.h k a).2;omega),h.st,
  λk a c=>(f k c).elim (h.so k a) (λe=>by have:=(Spo.foot_lt h.all.s k a).2;omega),
  λk a c=>(f k c).elim (h.tq k a) (λe=>by have:=(h.all.t.foot_lt k a).2;omega)⟩
def ub (B0 b nb:Nat)(r:Option PC)(Ap:World->Prop)(w:World)(e:Ending)(w':World):Prop:=Below B0 w w'/\match r with
 |none=>∃k:Int,k≠0/\e=.returned (.int .i64 k)
 |some c=>e=.returned (.int .i64 0)/\(∃x',PrtD b w' x'/\x'.pc=c/\w'.heap[nb]?=some (.cells (xR x') 107 (0,0)))/\Ap w'
theorem yC.no_st {B w v}(h:yC B w v){nb cs}(a:w.heap[nb]?=some (.cells cs 107 (0,0))):nb∉v.foot:=λb=>by
 rcases Tbl.mem_foot.1 b with rfl|rfl|⟨g,c,d⟩
 ·have:=a.symm.trans h.blk;simp at this
 ·have:=h.map;unfold xV at this;rw[this]at a;cases a
 ·obtain⟨c2,h2⟩:=xS (h.ivs g c) d;rw[h2]at a;simp at a
def opnO (c:PC)(k:ByteArray):Option PC:=if xIy c.tc c.tn k=0 then some { c with tc:=xEp c.tc k,tn:=newN c.tc c.tn k }else none
def clsO (c:PC)(k:ByteArray):Option PC:=if xI6 c.tc k=0 then some { c with tc:=xDn c.tc k,tn:=newN c.tc c.tn k }else none
theorem PrtD.tab {b w a x}(h:PrtD b w x){nb}(d:w.heap[nb]?=some (.cells (xR x) 107 (0,0))){err f n e}(i:xCf b x.t err f n w.drew e a)(r:Option PC)(g:r=if err=0 then some { x.pc with tc:=f,tn:=n }else none):∃k:Int,e=.returned (.int .i64 k)/\ub b b nb r (λ_=>True) w (.returned (.int .i64 k)) a:=by
 have m:Below w.heap.size w w.drew:=by grind
 obtain⟨rfl,h1,h2⟩:=i;refine⟨err,rfl,?_⟩;by_cases he:err=0
 ·obtain⟨p,t',o,l,v,u,s,j⟩:=h2 he;have c:Kept x.t.foot w a:=by grind
  rw[g,if_pos he];refine⟨c.below h.lt (λq hq=>(h.all.t.foot_lt q hq).1),by rw[he],⟨{ x with t:=t' },h.setT c o j,?_,?_⟩,trivial⟩
  ·grind [Prt.pc]
  ·have:xR { x with t:=t' }=xR x:=by unfold xR;simp only[l]
   rw[this];exact(c.block _ (i_ d).1 (h.all.t.no_st d)).trans d
 ·rw[g,if_neg he];exact⟨(m.trans (h1 he)).mono h.lt,err,he,rfl⟩
theorem xIz {b w x}(h:PrtD b w x)(hl:x.t.gs.length<=1000000)(nb)(a:w.heap[nb]?=some (.cells (xR x) 107 (0,0)))(i:Gl w)(ob k)(g:k.size<=maxLen)(ho:w.heap[ob]?=some (.cells #[.string k] 100 (0,0))):
  Calls prog 343 #[.pointer (some ⟨ob,0,none⟩),.pointer (some ⟨nb,0,none⟩)] w (ub b b nb (opnO x.pc k) (λ_=>True) w):=by
 have c:Below w.heap.size w w.drew:=by grind
 have l:=h_ (yCp (h.all.t.below c) hl k (i.later c) g);have m:=cell_of_row w nb 2 _ _ _ a;have d:=cell_of_row w ob 0 _ _ _ ho;simp only[xR,v_]at m d;have z0:∀z:xf w,z.1.cell? ⟨nb,2,none⟩=some (.pointer (some ⟨x.t.p,0,none⟩)):=by grind
 have n:∀z:xf w,z.1.cell? ⟨ob,0,none⟩=some (.string k):=by grind
 have H:=h_ h;have o:=h_ a;clear h hl a i g ho c m d;go_enter func343,ntmps343;go_upto_region 1 with fail
 refine xz [0,1,2,3,4,5,6,7] [8,9] (λw'=>∃z:xf w,w'=z.1) ⟨⟨w.drew,(z_ _ _).drew⟩,rfl⟩ ?_;simp only[o_]
 repeat (go_big_quiet_step (fail))
 refine wpQuiet_nil ?_;clear z0 n;refine yE ?_;simp only[o_];go_wp2_with fail;refine l.mono ?_;intro e r f;obtain⟨er,rfl,j⟩:=H.tab o.out f (opnO x.pc k) rfl;have q:=h_ j;clear f j l;go_wp2;refine T_ ?_;go_wp2;go_ret;exact q.out
theorem xJp {b w x}(h:PrtD b w x)(nb)(a:w.heap[nb]?=some (.cells (xR x) 107 (0,0)))(ob k)(ho:w.heap[ob]?=some (.cells #[.string k] 102 (0,0))):
  Calls prog 346 #[.pointer (some ⟨ob,0,none⟩),.pointer (some ⟨nb,0,none⟩)] w (ub b b nb (clsO x.pc k) (λ_=>True) w):=by
 have g:Below w.heap.size w w.drew:=by grind
 have i:=h_ (xYu (h.all.t.below g) k);have j:=cell_of_row w nb 2 _ _ _ a;have c:=cell_of_row w ob 0 _ _ _ ho;simp only[xR,v_]at j c;have z0:∀z:xf w,z.1.cell? ⟨nb,2,none⟩=some (.pointer (some ⟨x.t.p,0,none⟩)):=by grind
 have l:∀z:xf w,z.1.cell? ⟨ob,0,none⟩=some (.string k):=by grind
 have H:=h_ h;have m:=h_ a;clear h a ho g j c;go_enter func346,ntmps346;go_upto_region 1 with fail
 refine xz [0,1,2,3,4,5,6,7] [8,9] (λw'=>∃z:xf w,w'=z.1) ⟨⟨w.drew,(z_ _ _).drew⟩,rfl⟩ ?_;simp only[o_]
 repeat (go_big_quiet_step (fail))
 refine wpQuiet_nil ?_;clear z0 l;refine yE ?_;simp only[o_];go_wp2_with fail;refine i.mono ?_;intro e o d;obtain⟨er,rfl,f⟩:=H.tab m.out d (clsO x.pc k) rfl;have n:=h_ f;clear d f i;go_wp2;refine T_ ?_;go_wp2;go_ret;exact n.out
end
section
attribute [local go_sem ↓] vN qS qY xP xI
attribute [local go_sem] xHu xHf zg zj zr zx yA yz xh xg xe xd xx xy xk xj xq xB xw
def WbC (b:Nat)(v:Value):Type:={ z:World // z.heap[b]?=some (.cells #[v] 196 (0,0)) }
theorem WbC.cell {b v}(z:WbC b v):z.1.cell? ⟨b,0,none⟩=some v:=cell_of_row _ _ 0 _ _ _ z.2
theorem xQ1 {B w b l}(h:WrAt B w b l)(id)(hl:l.length<=1000000):
  Calls prog 325 #[.pointer (some ⟨b,0,none⟩),.agg (xl id).toArray] w λe w'=>e=.returned (.tuple #[])/\Below B w w'/\WrAt B w' b (l++id.1):=by
 obtain⟨m,v,g,ho⟩:=h;obtain⟨va,vn,vc,hv⟩:=uT ho;have p:=(i_ g).1;obtain⟨a,j⟩:∃a,a=w.alloc (.cells (xl id).toArray 42):=⟨_,rfl⟩;have c:Below w.heap.size w a:=by grind
 have t:SlB a ⟨w.heap.size,0,none⟩ id.1:=by rw[j];exact vX w 42 id.1
 have n:=(ho.below c);have d:=(c.block _ p).trans g;have z0:∀z:WbC b v,z.1.cell? ⟨b,0,none⟩=some v:=λz=>z.cell
 haveI:Nonempty (WbC b v):=⟨⟨a,d⟩⟩
 have o:Hid (OwnB a.drew B v l):=h_ (n.below (z_ _ _).drew);have D:Hid (SlB a.drew ⟨w.heap.size,0,none⟩ id.1):=h_ ⟨λq x hq=>t.cell q x hq⟩;have y:Hid (a.drew.heap[b]?=some (.cells #[v] 196 (0,0))):=h_ d;have F:Hid (Below B w a.drew):=h_ ((c.mono (by omega)).drew);have A:Hid (B<=a.drew.heap.size):=h_ (by have:=c.size;show B<=a.heap.size;omega);have E:Hid (l.length+id.1.length<=1000000000000):=h_ (by rw[id.2];omega);have H:=h_ m;have G:=h_ id.2;subst hv;clear m g ho p c t n hl;go_enter func325,ntmps325;go_upto_region 1 with fail
 refine xm j ?_;clear j;refine xz [0,1,2,3,4,5] [6,7,8,9] (λw'=>∃z:WbC b (.slice va vn vc),w'=z.1) ⟨⟨a.drew,d⟩,rfl⟩ ?_;simp only[o_]
 repeat (go_big_quiet_step (fail))
 refine wpQuiet_nil ?_;clear z0;refine yo true ?_;simp only[o_];go_wp2_with (at_builtin;refine zQ rfl (.tmp 8) (.tmp 9) rfl B _ l rfl o.out ⟨w.heap.size,0,none⟩ id.1 32 (by rw[G.out];rfl) D.out E.out A.out ?_);intro v' w' i k _ _;obtain⟨a',n',c',C⟩:=uT i;obtain⟨f,r,s⟩:=WrAt.put H.out y.out o.out F.out k i;subst C;have I:=frozen_of_row w' b 0 _ _ f;have c2:=cell_of_row w' b 0 _ _ _ f;simp only[v_]at c2;have u:=h_ (And.intro r s);go_wp2;refine⟨λ_=>⟨⟨w',f⟩,rfl⟩,yE ?_⟩;clear i k f r s d;simp only[o_];go_wp2;refine T_ ?_;go_wp2;go_end0;exact⟨rfl,u.1,u.2⟩
end
section
attribute [local go_sem ↓] vN qS qY xP xI qG qU xAt kS
attribute [local go_sem] xHu xHf zg zj xHw xHh xLn xKo zr zx yA yz xh xg xe xd xx xy xk xj xq xB xw
theorem xQg {w}(ob id)(h:w.heap[ob]?=some (.cells (xl id).toArray 97 (0,0))):
  Calls prog 328 #[.pointer (some ⟨ob,0,none⟩)] w λe w'=>Below w.heap.size w w'/\∃u,e=.returned u/\OwnB w' w.heap.size u ([3]++id.1):=by
 obtain⟨b,a⟩:∃b,b=w.heap.size:=⟨_,rfl⟩;obtain⟨c,d⟩:∃c,c=w.alloc (.cells #[.slice none 0 0] 196):=⟨_,rfl⟩;have n:Below b w c:=by grind
 have g:WrAt b c b []:=⟨w_ _,_,by rw[d,a];exact heap_alloc_new w _,OwnB.nil _ _⟩;have f:=h_ (jr g 3 (by simp));have y:=h_ n;have A:=h_ h;have D:=h_ a;have z:Hid (ob<b):=h_ (by rw[a];exact(i_ h).1);rw[<-a];clear h n g;have t:((3:UInt8).toNat:Int)=3:=rfl;have E:(#[Value.slice none 0 0].size==1)=true:=rfl;have C:xt 1 #[Value.slice none 0 0]=true:=by simp[xt,Value.oneCell']
 rw[t]at f;go_enter func328,ntmps328;go_upto_region 2 with fail
 refine xm d ?_;rw[<-a];clear d a;go_wp2_with fail;refine f.mono ?_;rintro e B ⟨rfl,m,o⟩;have k:=h_ (y.trans m);have j:=(k.block ob z.out).trans A.out;obtain⟨o2,s⟩:=yx j;have p:=h_ (xQ1 o id (by simp));clear m o j f;go_wp2_with fail;refine p.mono ?_;rintro e r ⟨rfl,l,x,v,i,ho⟩;have hall:([]:By)++[3]++id.1=[3]++id.1:=by simp
 rw[hall]at ho;have c3:=cell_of_row r b 0 _ _ _ i;simp only[v_]at c3;have q:=h_ (And.intro (k.trans l) ho);clear l x i ho hall p o2 s;go_wp2;go_ret;exact⟨q.1,v,rfl,q.2⟩
theorem xL5 {B w}{t:TypeId}{u}{l:List PL}(h:w.ownsRow B t 2 u l.length (k9 l)){k}(d:k<l.length):∃g cap,u=.slice (some ⟨g,0,none⟩) l.length cap/\l.length<=cap/\xp w ⟨g,k*2,none⟩ 2=true/\xo w ⟨g,k*2,none⟩ 2=#[.string l[k].1,.int .i64 l[k].2]/\w.cell? ⟨g,k*2,none⟩=some (.string l[k].1)/\w.cell? ⟨g,k*2+1,none⟩=some (.int .i64 l[k].2):=by
 rcases jt h with⟨_,e⟩|⟨g,cap,cur,rfl,_,h1,h2,h3,_,_,c⟩
 ·omega
 ·obtain⟨i,f⟩:=xI1 l k d
  have:=yl (w:=w) (a:=⟨g,k*2,none⟩) (cs:=[.string l[k].1,.int .i64 l[k].2]) (λj v b=>by
   rw[l8]
   match j,b with
   |0,b=>simp at b;subst b;exact c _ _ i
   |1,b=>simp at b;subst b;exact c _ _ f)
  grind
theorem uo {w w':World}{B t s n v xs}(h:w.ownsRow B t s v n xs)(a:Below w.heap.size w w'):w'.ownsRow B t s v n xs:=yf h (Kept.of_below (F:=[]) a) (λ_ h=>by cases h)
def xMy (gs:List MG)(id:Id32)(w:World)(e:Ending)(w':World):Prop:=∃v ns,e=.returned v/\w'.ownsRow w.heap.size 72 2 v (yF gs ns id).length (k9 (yF gs ns id))/\ordN ns/\(∀t,t∈ns↔∃G∈gs,G.name=t)/\(yF gs ns id).length<=65536/\Below w.heap.size w w'
theorem xXh (B ib M mc gs id w)(V:Gl w)(h:y5 B w ib M gs mc):
  Calls prog 330 #[.pointer (some ⟨ib,0,none⟩),.agg (xl id).toArray] w (xMy gs id w):=by
 obtain⟨f,aj⟩:∃f,f=w.alloc (.cells (xl id).toArray 42):=⟨_,rfl⟩;have y:Below w.heap.size w f:=by grind
 have aH:f.heap[w.heap.size]?=some (.cells (xl id).toArray 42 (0,0)):=by grind
 obtain⟨o1,r1⟩:=yx aH;have FD:=h_ (xO7 B ib M mc gs id f (V.later y) (h.below y));have K:=h_ y;have P:Hid (gs.length<=65536):=h_ h.groups;obtain⟨i0,l,X,aP,Y⟩:=info_parts Tryz.info_pla;have z:=h_ (And.intro l (And.intro X (And.intro aP Y)));clear V h y aH l X aP Y;go_enter func330,ntmps330;go_upto_region 1 with fail
 refine xm aj ?_;clear aj;go_wp2_with fail;refine FD.mono ?_;rintro e c ⟨v,ns,rfl,r,F,aW,ai⟩;have E:(yF gs ns id).length<=65536:=by
  have h1:ns.Nodup:=F.imp λ{a b} hab e=>by rw[e,xBg]at hab;omega
  have h2:ns.length<=(gs.map λG=>G.name).length:=h1.length_le_of_subset λt ht=>by grind
  grind [List.length_map,yF,List.length_filterMap_le]
 have O:=h_ (And.intro F (And.intro aW E));obtain⟨L,D⟩:∃L,L=yF gs ns id:=⟨_,rfl⟩;rw[<-D]at r E;obtain⟨va,vn,vc,N⟩:=zd r;have U:vn=L.length:=by grind [jt]
 obtain⟨n,C⟩:∃n,n=L.length:=⟨_,rfl⟩;rw[U,<-C]at N;have cO:=h_ D;have HN:=h_ C;have sY:=h_ r;have J:=h_ (K.trans (ai.mono K.size));have nZ:(n:Int)<=65536:=by omega
 have HVS:=h_ N;subst N;clear F aW ai E D C r U FD K P o1 r1;go_wp2;go_loopw [12,5] (λi lv wr=>∃k:Nat,i=.int .i64 k/\k<=n/\(∃pa pn pc,lv=.slice pa pn pc)/\Hid (Below c.heap.size c wr)/\Hid (wr.ownsRow c.heap.size 72 2 lv k (k9 (L.take k)))) (λi _ _=>n-(intOf i).toNat)
 case atStart=>exact⟨0,rfl,n3 _,⟨_,_,_,rfl⟩,h_ (z_ _ _),h_ (D1 _ _ _ _)⟩
 case round=>
  obtain⟨k,rfl,hk,⟨pa,pn,pc,rfl⟩,HB,HO⟩:=hrel;by_cases hlt:k<n
  ·have aM:(k:Int)<(n:Int):=by omega
   have aT:k<L.length:=by grind
   obtain⟨g,cap,p,bE,_,_,k0,A⟩:=xL5 (uo sY.out HB.out) aT;have Jj:va=some ⟨g,0,none⟩:=by grind
   have O9:(n:Int)<=vc:=by grind
   subst Jj;have W:Hid (L.take (k+1)=L.take k++[L[k]]):=h_ (d0 aT);obtain⟨x,hx⟩:∃x,x=L[k]:=⟨_,rfl⟩;rw[<-hx]at k0 A W;obtain⟨s,m⟩:=x;simp only at k0 A;have aU:xt 2 #[Value.string s,.int .i64 m]=true:=by simp[xt,Value.oneCell']
   obtain⟨d,Z⟩:∃d,d=wr.alloc (.cells #[.string s,.int .i64 m] 479):=⟨_,rfl⟩;have ao:Below c.heap.size c d:=by grind
   have Qb:Below wr.heap.size wr d:=by grind
   have I:d.heap[wr.heap.size]?=some (.cells #[.string s,.int .i64 m] 479 (0,0)):=by grind
   have c0:=cell_of_row d wr.heap.size 0 _ _ _ I;have c1:=cell_of_row d wr.heap.size 1 _ _ _ I;simp only[v_]at c0 c1;have Q:=uo HO.out Qb;have T:=Q.alloc (.cells #[.string s,.int .i64 m] 72);have D6:=h_ (λj q=>(Q.lt j q).1);have o:=h_ ao;have R:=h_ T;have Sz:(#[Value.string ⟨#[]⟩,Value.int .i64 0].size==2)=true:=rfl;clear p bE hx ao Qb I Q T;go_upto_region 5 with fail
   refine xm Z ?_;clear Z k0 A;go_wp2_with (at_builtin;refine wpList_append_own _ rfl (.tmp 16) (.tmp 22) 54 rfl c.heap.size 72 i0 (.agg #[.string ⟨#[]⟩,.int .i64 0]) 2 24 underlying54 z.1 z.2.1 z.2.2.1 z.2.2.2 rfl (by decide) _ _ _ rfl R.out ⟨d.heap.size,0,none⟩ 1 1 [.string s,.int .i64 m] rfl rfl ?c1 ?c2 ?c3 ?c4 ?c5 ?_)
   case c1=>
    intro j u q;rw[l8,m0,yD];grind
   case c2=>intro u p;simp at p;rcases p with rfl|rfl <;> rfl
   case c3=>unfold maxLen;omega
   case c4=>omega
   case c5=>have:=o.size;simp;omega
   intro v' S H aG _;have aQ:Below c.heap.size c S:=(o.alloc o.size _).grown aG (by have:=o.size;simp;omega) (λj q=>D6.out j q);have dF:=h_ aQ;have Sx:Hid (S.ownsRow c.heap.size 72 2 v' (k+1) (k9 (L.take (k+1)))):=h_ (by rw[W.out,xM5];exact H);obtain⟨qa,qn,qc,hq⟩:=zd H;subst hq;clear H aG aQ R o c0 c1;go_wp2;go_roundw
   case rel=>exact⟨k+1,by go_num,hlt,⟨_,_,_,rfl⟩,dF,Sx⟩
   case measure=>simp[intOf];omega
  ·obtain rfl:k=n:=by omega
   have HF:Hid (xMy gs id w (.returned (.slice pa pn pc)) wr):=h_ (by
    refine⟨_,ns,rfl,?_,O.1,O.2.1,O.2.2,J.trans (HB.mono J.size)⟩;have:=HO.out;rw[HN.out,X3,cO.out]at this;exact zi this J.size)
   go_wp2;go_ret;exact HF.out
end
def zn (k:Id32):List (Id32×Value)->Option Value
 |[]=>none
 |e :: es=>if k=e.1 then some e.2 else zn k es
def xKh (k:Id32)(v:Value):List (Id32×Value)->List (Id32×Value)
 |[]=>[]
 |e :: es=>if k=e.1 then (e.1,v) :: es else e :: xKh k v es
def vI (k:Id32)(v:Value)(l:List (Id32×Value)):List (Id32×Value):=if (zn k l).isSome then xKh k v l else l++[(k,v)]
def xBb (k:Id32):List (Id32×Value)->List (Id32×Value)
 |[]=>[]
 |e :: es=>if k=e.1 then es else e :: xBb k es
theorem xV8 (k):∀(l:List (KE Id32)) (i:Nat),(yG k l i).map (·.2)=zn k (kvs l)
 |[],_=>rfl
 |e :: l,i=>by
  unfold yG kvs;rw[t8];unfold zn;by_cases h:k=e.k
  ·grind
  ·rw[if_neg h,if_neg h];exact xV8 k l (i+1)
theorem jD (k l):getK k l=zn k (kvs l):=xV8 k l 0
theorem xYz (k v):∀(l:List (KE Id32)),kvs (updL k v l)=xKh k v (kvs l)
 |[]=>rfl
 |e :: l=>by
  unfold updL kvs;rw[t8];unfold xKh;by_cases h:k=e.k
  ·grind
  ·rw[if_neg h,if_neg h,t8];congr 1;exact xYz k v l
theorem xQn (k v c l):kvs (putL k v c l)=vI k v (kvs l):=by
 unfold putL vI;grind [jD,xYz,kvs]
theorem yFu {k u}:∀{l:List (KE Id32)} {i j:Nat},yG k l i=some (i+j,u)->kvs (l.eraseIdx j)=xBb k (kvs l)
 |[],_,_,h=>by cases h
 |e :: l,i,j,h=>by
  unfold yG at h;have a:xBb k (kvs (e :: l))=if k=e.k then kvs l else (e.k,e.v) :: xBb k (kvs l):=rfl
  rw[a];by_cases hk:k=e.k
  ·simp_all
  ·rw[if_neg hk]at h⊢;have h1:=(xMa h).1;obtain⟨j',rfl⟩:∃j',j=j'+1:=⟨j-1,by omega⟩;have:=yFu (i:=i+1) (j:=j') (by rw[h];congr 2;omega);rw[aU_];exact congrArg ((e.k,e.v) :: ·) this
def xIj:Value->Nat
 |.agg a=>match (a[0]?:Option Value) with
  |some (Value.string t)=>t.size
  |_=>0
 |_=>0
def stOf:Value->Int
 |.agg a=>match (a[34]?:Option Value) with
  |some (Value.int _ k)=>k
  |_=>0
 |_=>0
def xP6:Value->Value
 |.agg a=>.agg (a.setIfInBounds 34 (.int .i64 1))
 |v=>v
theorem xHc (x):xIj (.agg (xU x))=x.text.size:=rfl
theorem xHi (x):stOf (.agg (xr x))=x.st:=by unfold stOf;simp only;rw[he34]
theorem xLz (x):xP6 (.agg (xr x))=.agg (xr { x with st:=1 }):=congrArg Value.agg (xUy x 1)
def xCj (l:List (Id32×Value)):Nat:=(l.map λe=>xIj e.2).sum
theorem xQ5 {k u}:∀{l},zn k l=some u->xCj (xBb k l)+xIj u=xCj l
 |[],h=>by cases h
 |e :: l,h=>by
  unfold zn at h;unfold xBb;split at h
  ·grind [xCj]
  ·rename_i a;rw[if_neg a];have:=xQ5 h;grind [xCj]
theorem xZ9 (k v l):(vI k v l).length<=l.length+1:=by
 have a:∀l,(xKh k v l).length=l.length:=λl=>by
  induction l with
  |nil=>rfl
  |cons e l ih=>unfold xKh;split <;> simp[ih]
 grind [vI]
structure PArt where
 id:Id32
 text:ByteArray
 name:ByteArray
 date:Int
 arr:Int
 groups:List ByteArray
 subj:ByteArray
 refs:List Id32
 perm:Bool
def PArt.h (a:PArt):HEnt:=⟨a.id,a.arr,a.date,0,a.perm⟩
def PArt.line (a:PArt)(n:Nat):qx:=⟨n,a.id,a.name,a.date,a.subj,a.refs,a.text.size⟩
def uY (a:PArt):LF->List (ByteArray×Nat)->Option LF
 |L,[]=>some L
 |L,x :: l=>if jk (L x.1) x.1 (a.line x.2)=0 then uY a (setL L x.1 (addP (L x.1) (a.line x.2))) l else none
def put1 (c:PC)(a:PArt):PC:={ c with hes:=vI a.id (.agg (xr a.h)) c.hes,ses:=vI a.id (.agg (xU ⟨a.text,a.arr,c.next⟩)) c.ses,bytes:=c.bytes+a.text.size,next:=c.next+1 }
def xMx (c:PC)(a:PArt):Prop:=(minB a.arr&&minB a.date)=true/\zn a.id c.hes=none/\¬ (a.id=yI\/a.text.size=0)/\zn a.id c.ses=none/\c.bytes+a.text.size<=c.budget
open Classical in
noncomputable def putO (c:PC)(a:PArt):Option PC:=if xMx c a then (if a.groups=[]then some (put1 c a)else if uL c.tc a.groups=0 then (uY a c.lf (plOf c.tc a.groups)).map λL=>{ put1 c a with tc:=uK c.tc a.groups,lf:=L }else none)else none
def xD4 (L:LF)(id:Id32)(t:ByteArray):Option Int:=((L t).find? λp=>decide (p.id=id)).map (·.number)
def yDz (f:TF)(L:LF)(id:Id32):Prop:=∃t n,xD4 L id t=some n/\uJ f t n≠0
def rmT (f:TF)(L:LF)(id:Id32):TF:=λt=>match xD4 L id t with
 |none=>f t
 |some n=>qN f t n t
def rmL (L:LF)(id:Id32):LF:=λt=>(L t).filter λp=>decide (p.id≠id)
open Classical in
noncomputable def rmO (c:PC)(id:Id32):Option PC:=match zn id c.ses with
 |none=>none
 |some u=>if yDz c.tc c.lf id then none else match zn id c.hes with
  |none=>none
  |some h=>if stOf h=1 then none else some { c with ses:=xBb id c.ses,bytes:=c.bytes-xIj u,tc:=rmT c.tc c.lf id,lf:=rmL c.lf id,hes:=vI id (xP6 h) c.hes }
inductive SOp where
 |put (a:PArt)
 |rm (id:Id32)
 |opn (k:ByteArray)
 |cls (k:ByteArray)
noncomputable def step (c:PC):SOp->Option PC
 |.put a=>putO c a
 |.rm id=>rmO c id
 |.opn k=>opnO c k
 |.cls k=>clsO c k
structure Few (c:PC)(n:Nat):Prop where
 hes:c.hes.length<=n
 next:c.next<=n
 bytes:c.bytes<=c.budget
 bud:c.budget<=1073741824
 sum:xCj c.ses=c.bytes
 tn:c.tn<=n
 ivs:∀k a,c.tc k=some a->a.ivs.length<=2 ^ n
 lf:∃N:List ByteArray,N.length<=22*n/\∀t,t∉N->c.lf t=[]
 ls:∀t,(c.lf t).length<=n
def xPs (c:PC):Prop:=∀t,∀p∈c.lf t,∃a,c.tc t=some a/\p.number<=a.high
def xH3 (c:PC)(t:ByteArray)(n:Int)(id:Id32):Prop:=∃a,c.tc t=some a/\n<=a.high/\∀p∈c.lf t,p.number=n->p.id=id
theorem yAg (l n):(kC l n).length<=l.length+1:=by grind [kC]
theorem xPo {f:TF}{k c}(h:f k=some c):addF f k k=some ⟨c.high+1,c.closed,kC c.ivs ((c.high+1:Nat):Int)⟩:=by
 unfold addF;rw[h];simp[putF]
theorem xDp:∀{l:List ByteArray} {f:TF} {t c},l.Nodup->t∈l->f t=some c->uK f l t=some ⟨c.high+1,c.closed,kC c.ivs ((c.high+1:Nat):Int)⟩
 |a :: l,f,t,c,b,ht,d=>by
  rw[U0]at b;show uK (addF f a) l t=_
  rcases g8.1 ht with rfl|ht
  ·grind [vu,xPo]
  ·exact xDp b.2 ht ((xFp (k:=a) (t:=t) (λe=>b.1 (e▸ht))).trans d)
theorem yGf {ps:List qx}{p x}:x∈addP ps p↔x=p\/x∈ps:=by
 unfold addP;rw[m3,g8];constructor
 ·grind
 grind [List.take_append_drop,posN,xLd]
theorem yGg (ps:List qx)(p):(addP ps p).length=ps.length+1:=by grind [addP,List.length_append,List.length_cons,List.length_take,List.length_drop]
theorem xEd {a:PArt}:∀{l:List (ByteArray×Nat)} {L L'},(l.map (·.1)).Nodup->uY a L l=some L'->(∀t,t∉l.map (·.1)->L' t=L t)/\∀x∈l,L' x.1=addP (L x.1) (a.line x.2)
 |[],L,L',_,h=>by cases h;exact⟨λ_ _=>rfl,λ_ h=>by cases h⟩
 |x :: l,L,L',b,h=>by
  rw[t8,U0]at b;unfold uY at h;split at h
  ·obtain⟨h1,h2⟩:=xEd b.2 h;grind [setL,List.mem_cons.1,List.mem_map_of_mem]
  ·cases h
theorem xD1 (f:TF)(gs):(plOf f gs).map (·.1)=gs:=by
 unfold plOf;rw[T7];exact List.map_id gs
theorem xI9 {f:TF}{gs}(h:uL f gs=0):gs≠[]/\gs.Nodup/\qE f gs=0:=by grind [uL]
theorem xD0 {c c':PC}{a}(h:putO c a=some c'):xMx c a/\((a.groups=[]/\c'=put1 c a)\/(uL c.tc a.groups=0/\∃L,uY a c.lf (plOf c.tc a.groups)=some L/\c'={ put1 c a with tc:=uK c.tc a.groups,lf:=L })):=by
 unfold putO at h;split at h
 ·rename_i h1;refine⟨h1,?_⟩;split at h
  ·grind
  ·split at h
   ·rename_i h2;obtain⟨L,h3,h4⟩:=al_.1 h;exact .inr ⟨h2,L,h3,h4.symm⟩
   ·cases h
 ·cases h
theorem xK7 {c c':PC}{id}(h:rmO c id=some c'):∃u v,zn id c.ses=some u/\¬ yDz c.tc c.lf id/\zn id c.hes=some v/\stOf v≠1/\c'={ c with ses:=xBb id c.ses,bytes:=c.bytes-xIj u,tc:=rmT c.tc c.lf id,lf:=rmL c.lf id,hes:=vI id (xP6 v) c.hes }:=by grind [rmO,hv]
theorem xTv {f:TF}{L id t c}(h:f t=some c):∃c',rmT f L id t=some c'/\c'.high=c.high/\c'.ivs.length<=2*c.ivs.length:=by
 unfold rmT;split
 ·exact⟨c,h,rfl,by omega⟩
 ·refine⟨_,if_pos rfl,?_,?_⟩
  ·rw[h];rfl
  grind [xMi]
theorem xP5 {c c':PC}{o}(h:step c o=some c'){t a}(ha:c.tc t=some a):∃a',c'.tc t=some a'/\a.high<=a'.high/\∀p∈c'.lf t,p∈c.lf t\/p.number=a.high+1/\a'.high=a.high+1:=by
 cases o with
 |put x=>
  obtain⟨_,⟨_,rfl⟩|⟨f,L,g,rfl⟩⟩:=xD0 h
  ·exact⟨a,ha,w_ _,λp b=>.inl b⟩
  ·obtain⟨_,d,_⟩:=xI9 f;obtain⟨h1,h2⟩:=xEd (by rw[xD1];exact d) g;rw[xD1]at h1;by_cases ht:t∈x.groups
   ·refine⟨_,xDp d ht ha,Nat.le_succ _,λp b=>?_⟩;have h3:=h2 (t,numF c.tc t) (List.mem_map_of_mem ht);simp only at b h3;rw[h3]at b;rcases yGf.1 b with rfl|b
    ·refine .inr ⟨?_,rfl⟩;show ((numF c.tc t:Nat):Int)=_
     unfold numF;rw[ha];simp
    ·exact .inl b
   grind [vu]
 |rm id=>
  obtain⟨u,v,_,_,_,_,rfl⟩:=xK7 h;obtain⟨a',h1,h2,_⟩:=xTv (L:=c.lf) (id:=id) ha;exact⟨a',h1,by omega,λp b=>.inl ((au_.1 b).1)⟩
 |opn k=>
  simp only[step,opnO]at h;split at h
  ·cases h
   by_cases e:t=k
   ·subst e;exact⟨_,if_pos rfl,by rw[ha];exact w_ _,λp b=>.inl b⟩
   ·exact⟨a,(if_neg e).trans ha,w_ _,λp b=>.inl b⟩
  ·cases h
 |cls k=>
  simp only[step,clsO]at h;split at h
  ·cases h
   by_cases e:t=k
   ·subst e;exact⟨_,if_pos rfl,by rw[ha];exact w_ _,λp b=>.inl b⟩
   ·exact⟨a,(if_neg e).trans ha,w_ _,λp b=>.inl b⟩
  ·cases h
theorem yHh {c c':PC}{o}(h:step c o=some c'){t}(ht:c.tc t=none):∀p∈c'.lf t,p∈c.lf t:=by
 cases o with
 |put x=>
  obtain⟨_,⟨_,rfl⟩|⟨b,L,e,rfl⟩⟩:=xD0 h
  ·exact λp a=>a
  ·obtain⟨_,f,d⟩:=xI9 b;grind [xEd,xD1,xAc]
 |rm id=>
  obtain⟨u,v,_,_,_,_,rfl⟩:=xK7 h;exact λp a=>(au_.1 a).1
 |opn k=>
  grind [step,opnO]
 |cls k=>
  grind [step,clsO]
theorem xPs.step {c c':PC}{o}(h:xPs c)(hs:Go.Proofs.YtdhapkeimaljfaaGreatDoor.step c o=some c'):xPs c':=λt p d=>by
 cases ht:c.tc t with
 |none=>
  obtain⟨a,h1,_⟩:=h t p (yHh hs ht p d);rw[ht]at h1;cases h1
 |some a=>
  obtain⟨a',h1,h2,h3⟩:=xP5 hs ht;refine⟨a',h1,?_⟩;rcases h3 p d with h4|⟨h4,g⟩
  ·obtain⟨b,f,e⟩:=h t p h4;grind
  ·omega
theorem xH3.step {c c':PC}{o t n id}(h:xH3 c t n id)(hs:Go.Proofs.YtdhapkeimaljfaaGreatDoor.step c o=some c'):xH3 c' t n id:=by
 obtain⟨a,ha,f,d⟩:=h;obtain⟨a',h1,h2,h3⟩:=xP5 hs ha;refine⟨a',h1,by omega,λp b e=>?_⟩;rcases h3 p b with h4|⟨h4,_⟩
 ·exact d p h4 e
 ·omega
theorem xPs.use {c:PC}(h:xPs c){t p}(b:p∈c.lf t)(d:((c.lf t).map (·.number)).Nodup):xH3 c t p.number p.id:=by
 obtain⟨a,h1,h2⟩:=h t p b;exact⟨a,h1,h2,λq hq e=>by rw[xR2 d q hq p b e]⟩
theorem Few.step {c c':PC}{o n}(h:Few c n)(hs:Go.Proofs.YtdhapkeimaljfaaGreatDoor.step c o=some c')(s:∀a,o=.put a->a.groups.length<=22):Few c' (n+1):=by
 have z:2 ^ (n+1)=2*2 ^ n:=by omega
 have A:1<=2 ^ n:=by grind
 obtain⟨N,G,i⟩:=h.lf;cases o with
 |put x=>
  obtain⟨j,w⟩:=xD0 hs;have B:∀l v,zn x.id l=none->xCj (vI x.id v l)=xCj l+xIj v:=λl v e=>by grind [vI,xCj]
  have m:=B c.ses (.agg (xU ⟨x.text,x.arr,c.next⟩)) j.2.2.2.1;rw[xHc,h.sum]at m;have E:=xZ9 x.id (.agg (xr x.h)) c.hes;have D:=h.hes;have C:=h.next;have a3:=h.tn;rcases w with⟨_,rfl⟩|⟨q,L,y,rfl⟩
  ·exact⟨by show (vI _ _ _).length<=_;omega,by show c.next+1<=_;omega,j.2.2.2.2,h.bud,m,by show c.tn<=_;omega,λk a d=>by have:=h.ivs k a d;omega,⟨N,by omega,i⟩,λt=>by have:=h.ls t;show (c.lf t).length<=_;omega⟩
  ·obtain⟨_,p,g⟩:=xI9 q;obtain⟨h1,h2⟩:=xEd (by rw[xD1];exact p) y;rw[xD1]at h1;refine⟨by show (vI _ _ _).length<=_;omega,by show c.next+1<=_;omega,j.2.2.2.2,h.bud,m,by show c.tn<=_;omega,λk a d=>?_,⟨x.groups++N,by have:=s x rfl;simp;omega,λt ht=>?_⟩,λt=>?_⟩
   ·by_cases hm:k∈x.groups
    ·obtain⟨b,h3,_⟩:=xAc g k hm;have h4:=xDp p hm h3;simp only at d;rw[d]at h4;cases h4;have:=yAg b.ivs ((b.high+1:Nat):Int);have:=h.ivs k b h3;simp only;omega
    ·have h4:=vu (f:=c.tc) hm;simp only at d;rw[d]at h4;have:=h.ivs k a h4.symm;omega
   ·grind
   ·have a4:=h.ls t;by_cases hm:t∈x.groups
    ·have h3:=h2 (t,numF c.tc t) (List.mem_map_of_mem hm);grind [yGg]
    grind
 |rm id=>
  obtain⟨u,v,r,_,_,_,rfl⟩:=xK7 hs;have E:=xZ9 id (xP6 v) c.hes;have F:=xQ5 r;have D:=h.hes;have C:=h.next;have a3:=h.tn;have a4:=h.sum;have a5:=h.bytes;refine⟨by show (vI _ _ _).length<=_;omega,by show c.next<=_;omega,by show c.bytes-_<=_;simp only;omega,h.bud,by show xCj (xBb _ _)=c.bytes-_;omega,by show c.tn<=_;omega,λk a d=>?_,⟨N,by omega,λt ht=>?_⟩,λt=>?_⟩
  ·simp only at d;cases g:c.tc k with
   |none=>
    unfold rmT at d;split at d
    ·rw[g]at d;cases d
    ·unfold qN putF at d;grind [cutI]
   |some b=>
    obtain⟨b',h3,_,h4⟩:=xTv (L:=c.lf) (id:=id) g;rw[d]at h3;cases h3;have:=h.ivs k b g;omega
  ·show (c.lf t).filter _=[]
   rw[i t ht];rfl
  ·have:=h.ls t;exact R_ (List.length_filter_le _ _) (by omega)
 |opn k=>
  simp only[Go.Proofs.YtdhapkeimaljfaaGreatDoor.step,opnO]at hs;split at hs
  ·cases hs
   refine⟨by have:=h.hes;show c.hes.length<=_;omega,by have:=h.next;show c.next<=_;omega,h.bytes,h.bud,h.sum,by have:=h.tn;show newN _ _ _<=_;unfold newN;split <;> omega,λt a ha=>?_,⟨N,by omega,i⟩,λt=>by have:=h.ls t;show (c.lf t).length<=_;omega⟩;simp only at ha;unfold xEp putF at ha;split at ha
   ·cases ha
    cases g:c.tc k with
    |none=>simp
    |some b=>have:=h.ivs k b g;simp only[aw_];omega
   ·have:=h.ivs t a ha;omega
  ·cases hs
 |cls k=>
  simp only[Go.Proofs.YtdhapkeimaljfaaGreatDoor.step,clsO]at hs;split at hs
  ·cases hs
   refine⟨by have:=h.hes;show c.hes.length<=_;omega,by have:=h.next;show c.next<=_;omega,h.bytes,h.bud,h.sum,by have:=h.tn;show newN _ _ _<=_;unfold newN;split <;> omega,λt a ha=>?_,⟨N,by omega,i⟩,λt=>by have:=h.ls t;show (c.lf t).length<=_;omega⟩;simp only at ha;unfold xDn putF at ha;split at ha
   ·cases ha
    cases g:c.tc k with
    |none=>simp
    |some b=>have:=h.ivs k b g;simp only[aw_];omega
   ·have:=h.ivs t a ha;omega
  ·cases hs
theorem yGh (ms s p):jl ms s p=jk (ms.map (·.p)) s p:=by
 unfold jl jk uU xDb nums xLd;simp
theorem yJx (ms:List ML)(id:Id32):((ms.map (·.p)).find? λp=>decide (p.id=id)).map (·.number)=(ms.find? λm=>decide (m.p.id=id)).map (·.p.number):=by
 rw[List.find?_map,Option.map_map];rfl
theorem xUe (gs id t):xD4 (lfOf gs) id t=(ue gs id t).map (·.2):=by
 unfold xD4 lfOf ue;rw[yJx,Option.map_map];rfl
theorem out_p (ms:List ML)(id:Id32):(xEo ms id).map (·.p)=(ms.map (·.p)).filter λp=>decide (p.id≠id):=by
 unfold xEo;rw[List.filter_map];rfl
theorem yAm {gs:List MG}(b:(gs.map λG=>G.name).Nodup)(hs:∀G∈gs,G.ms≠[]){N:List ByteArray}(c:∀t,t∉N->lfOf gs t=[]){k}(d:∀t,(lfOf gs t).length<=k):total gs<=N.length*k:=by
 have h1:∀G∈gs,lfOf gs G.name=G.ms.map (·.p):=λG a=>by grind [lfOf,xC,xFd]
 have h2:gs.length<=N.length:=by
  have:=xGa b (C:=N) (λt ht=>by
   obtain⟨G,a,rfl⟩:=D4.1 ht;by_cases hm:G.name∈N
   ·exact hm
   ·exact absurd (bo_.1 ((h1 G a).symm.trans (c _ hm))) (hs G a))
  simpa using this
 have h3:∀l:List MG,(∀G∈l,G.ms.length<=k)->total l<=l.length*k:=λl=>by
  induction l with
  |nil=>intro _;simp[total]
  |cons G l ih=>
   grind [total,List.length_cons,Nat.add_mul]
 refine R_ (h3 gs λG a=>?_) (bO_ _ h2);grind
section
attribute [local go_sem ↓] xP xI qG qU
attribute [local go_sem] zg zj xHw xHh zr zx yA yz xh xg xe xd xx xy xk xj xq xB xw
def Prt.feet (x:Prt):List Nat:=x.h.foot++x.s.foot++x.t.foot++foot x.ib x.M x.gs
theorem Prt.mem_feet {x:Prt}{k}:k∈x.feet↔k∈x.h.foot\/k∈x.s.foot\/k∈x.t.foot\/k∈foot x.ib x.M x.gs:=by unfold Prt.feet;simp only[m3,or_assoc]
theorem u9.feet_lt {b w x}(h:u9 b w x):∀k∈x.feet,b<=k/\k<w.heap.size:=λk a=>by
 rcases Prt.mem_feet.1 a with h1|h1|h1|h1
 ·exact Hst.foot_lt h.h k h1
 ·exact Spo.foot_lt h.s k h1
 ·exact h.t.foot_lt k h1
 ·exact h.o.foot_lt k h1
structure zm (b nb:Nat)(w0:World)(x0 x:Prt)(w:World):Prop where
 prt:PrtD b w x
 nbr:w.heap[nb]?=some (.cells (xR x) 107 (0,0))
 kept:Kept x0.feet w0 w
 ft:∀k∈x.feet,k∈x0.feet\/w0.heap.size<=k
 lo:b<=w0.heap.size
 fb:∀k∈x0.feet,b<=k
theorem PrtD.no_st {b w x}(h:PrtD b w x){nb cs}(c:w.heap[nb]?=some (.cells cs 107 (0,0))):nb∉x.feet:=by
 intro a;rcases Prt.mem_feet.1 a with a|a|a|a
 rotate_left 2
 ·exact h.all.t.no_st c a
 ·exact h.all.o.not_op (by decide) c a
 ·simp[Hst.foot]at a;rcases a with rfl|rfl
  ·have:=c.symm.trans h.all.h.blk;simp at this
  ·have:=h.all.h.map;unfold xV at this;rw[this]at c;cases c
 ·simp[Spo.foot]at a;rcases a with rfl|rfl
  ·have:=c.symm.trans h.all.s.blk;simp at this
  ·have:=h.all.s.map;unfold xV at this;rw[this]at c;cases c
theorem zm.bel {b nb a w c x}(h:zm b nb a c x w):Below b a w:=h.kept.below h.lo h.fb
theorem zm.start {b nb w x}(h:PrtD b w x)(c:w.heap[nb]?=some (.cells (xR x) 107 (0,0))):zm b nb w x x w:=
 ⟨h,c,Kept.of_below (z_ _ _),λk a=>.inl a,h.lt,λk a=>(h.all.feet_lt k a).1⟩
theorem zm.step {b nb d w w' c x x'}(h:zm b nb d c x w){F}(f:Kept F w w')(g:∀k∈F,k∈x.feet)(i:PrtD b w' x')(l:xR x'=xR x)(j:∀k∈x'.feet,k∈x.feet\/w.heap.size<=k):zm b nb d c x' w':=
 ⟨i,by rw[l];exact(f.block _ (i_ h.nbr).1 (λa=>h.prt.no_st h.nbr (g _ a))).trans h.nbr,h.kept.trans f (λk a=>h.ft k (g k a)),
  λk a=>(j k a).elim (h.ft k) (λe=>.inr (R_ h.kept.size e)),h.lo,h.fb⟩
theorem zm.below {b nb c w w' a x}(h:zm b nb c a x w)(d:Below w.heap.size w w'):zm b nb c a x w':=
 h.step (F:=[]) (Kept.of_below d) (λ_ h=>by cases h) (h.prt.below d) rfl (λ_ h=>.inl h)
theorem zm.setT {b nb e w w' d x}(h:zm b nb e d x w){t'}(c:Kept x.t.foot w w')(j:yC b w' t')(g:t'.p=x.t.p)(f:∀k∈t'.foot,k∈x.t.foot\/w.heap.size<=k):zm b nb e d { x with t:=t' } w':=
 h.step c (λk c=>Prt.mem_feet.2 (.inr (.inr (.inl c)))) (h.prt.setT c j f) (by unfold xR;simp only[g]) (λk i=>by
  rcases Prt.mem_feet.1 i with a|a|a|a
  ·exact .inl (Prt.mem_feet.2 (.inl a))
  ·exact .inl (Prt.mem_feet.2 (.inr (.inl a)))
  ·exact(f k a).imp (λa=>Prt.mem_feet.2 (.inr (.inr (.inl a)))) id
  ·exact .inl (Prt.mem_feet.2 (.inr (.inr (.inr a)))))
theorem zm.setS {b nb d w w' c x}(h:zm b nb d c x w){s'}(a:Kept [x.s.M,x.s.p] w w')(g:yN b w' s')(e:s'.p=x.s.p)(f:s'.M=x.s.M):zm b nb d c { x with s:=s' } w':=by
 have j:s'.foot=x.s.foot:=by grind [Spo.foot]
 refine h.step a (λk a=>Prt.mem_feet.2 (.inr (.inl (by simp[Spo.foot]at a⊢;exact a.symm)))) (h.prt.setS a g e f) (by unfold xR;simp only[e]) (λk i=>.inl ?_);grind [Prt.feet]
theorem zm.setH {b nb e w w' d x}(h:zm b nb e d x w){a}(c:Kept [x.h.M] w w')(i:yX b w' a)(f:a.p=x.h.p)(g:a.M=x.h.M):zm b nb e d { x with h:=a } w':=by
 have l:a.foot=x.h.foot:=by grind [Hst.foot]
 refine h.step c (λk c=>Prt.mem_feet.2 (.inl (by rw[S_.1 c];simp[Hst.foot]))) (h.prt.setH c i f g) (by unfold xR;simp only[f]) (λk j=>.inl ?_);grind [Prt.feet]
theorem zm.setO {b nb e w w' d x}(h:zm b nb e d x w){gs' mc'}(c:Kept (foot x.ib x.M x.gs) w w')(i:y5 b w' x.ib x.M gs' mc')(f:∀k∈foot x.ib x.M gs',k∈foot x.ib x.M x.gs\/w.heap.size<=k):zm b nb e d { x with gs:=gs',mc:=mc' } w':=
 h.step c (λk c=>Prt.mem_feet.2 (.inr (.inr (.inr c)))) (h.prt.setO c i f) rfl (λk g=>by
  rcases Prt.mem_feet.1 g with a|a|a|a
  ·exact .inl (Prt.mem_feet.2 (.inl a))
  ·exact .inl (Prt.mem_feet.2 (.inr (.inl a)))
  ·exact .inl (Prt.mem_feet.2 (.inr (.inr (.inl a))))
  ·exact(f k a).imp (λa=>Prt.mem_feet.2 (.inr (.inr (.inr a)))) id)
theorem zm.gen {b nb a w d x}(h:zm b nb a d x w){c}(f:x.pc=c){r:Option PC}(e:r=some c){Ap:World->Prop}(ha:Ap w):ub b b nb r Ap a (.returned (.int .i64 0)) w:=by
 rw[e];exact⟨h.bel,rfl,⟨x,h.prt,f,h.nbr⟩,ha⟩
theorem zm.bad {b nb a w c x}(h:zm b nb a c x w){k:Int}(e:k≠0){r:Option PC}(d:r=none){Ap:World->Prop}:ub b b nb r Ap a (.returned (.int .i64 k)) w:=by
 rw[d];exact⟨h.bel,k,e,rfl⟩
theorem xDy {gs:List MG}{ns:List ByteArray}{id:Id32}(b:∀t,t∈ns↔∃G∈gs,G.name=t){t:ByteArray}{n:Int}:(t,n)∈yF gs ns id↔xD4 (lfOf gs) id t=some n:=by
 rw[xUe];unfold yF;rw[ax_];constructor
 ·rintro ⟨u,_,h⟩;have:u=t:=by unfold ue at h;obtain⟨m,_,h2⟩:=al_.1 h;exact congrArg Prod.fst h2
  rw[<-this,h];rfl
 ·intro h;obtain⟨q,h1,h2⟩:=al_.1 h;have hq:q=(t,n):=by unfold ue at h1;obtain⟨m,_,h3⟩:=al_.1 h1;rw[<-h3]at h2⊢;simp only at h2;rw[h2]
  refine⟨t,(b t).2 ?_,by rw[h1,hq]⟩;have a:xC gs t≠[]:=λe=>by unfold ue at h1;rw[e]at h1;cases h1
  obtain⟨G,c,_,_⟩:=vD a;exact⟨G,yH c⟩
def rmK (f:TF)(l:List PL):TF:=l.foldl (λg p=>qN g p.1 p.2) f
theorem yDy (f l p):rmK f (l++[p])=qN (rmK f l) p.1 p.2:=by unfold rmK;rw[cc_];rfl
theorem xDu:∀{l:List PL} {f:TF} {t},t∉l.map Prod.fst->rmK f l t=f t
 |[],_,_,_=>rfl
 |p :: l,f,t,h=>by
  rw[t8,g8,not_or]at h;exact(xDu (f:=qN f p.1 p.2) h.2).trans (if_neg h.1)
theorem xZ5:∀{l:List PL} {f:TF} {p},(l.map Prod.fst).Nodup->p∈l->rmK f l p.1=qN f p.1 p.2 p.1
 |q :: l,f,p,a,h=>by
  rw[t8,U0]at a;rcases g8.1 h with rfl|h
  ·exact xDu a.1
  ·have b:p.1≠q.1:=by grind
   have h1:=xZ5 (f:=qN f q.1 q.2) a.2 h;refine h1.trans ?_;unfold qN putF;grind
theorem yH7 {gs:List MG}{ns:List ByteArray}{id:Id32}(ho:ordN ns)(a:∀t,t∈ns↔∃G∈gs,G.name=t)(f:TF):rmK f (yF gs ns id)=rmT f (lfOf gs) id:=by
 funext t;unfold rmT;cases h:xD4 (lfOf gs) id t with
 |none=>
  grind [xDu,List.mem_map.1,xDy]
 |some n=>exact xZ5 (p:=(t,n)) (kZ id ho) ((xDy a).2 h)
theorem yEa {p:qx}(h:pErr p=0):0<=p.number/\p.number<=2147483647:=by grind [pErr,xGd,kJ,uS,ML.g]
theorem lf_rm {gs gs':List MG}{id}(h:∀t,xC gs' t=xEo (xC gs t) id):lfOf gs'=rmL (lfOf gs) id:=by grind [lfOf,rmL,out_p]
theorem yBj {f:TF}{n k}(h:(f k).isSome):newN f n k=n:=if_pos h
theorem xIs {b w x}(h:PrtD b w x)(nb)(O:w.heap[nb]?=some (.cells (xR x) 107 (0,0)))(hG:Gl w)(Gz:prog.globals.size<=b)
  (id) (ob) (og:ob∉x.feet) (ho:w.heap[ob]?=some (.cells (xl id).toArray 97 (0,0))) (fN:xCj x.pc.ses=x.pc.bytes) (az:x.pc.bytes<=1073741824) (dT:∀k a,x.pc.tc k=some a->a.ivs.length<=400000):
  Calls prog 327 #[.pointer (some ⟨ob,0,none⟩),.pointer (some ⟨nb,0,none⟩)] w (ub b b nb (rmO x.pc id) (λ_=>True) w):=by
 have aw:=zm.start h O;have mG:=(i_ ho).1;have R:Below w.heap.size w w.drew:=by grind
 obtain⟨a,ha⟩:∃a:SArt,getK id x.s.es=none\/getK id x.s.es=some (.agg (xU a))/\a.text.size<=x.s.bytes:=by
  cases hg:getK id x.s.es with
  |none=>exact⟨vv,.inl rfl⟩
  |some u=>
   obtain⟨a,rfl⟩:=xV2 h.all.s.vals.2.2 hg;refine⟨a,.inr ⟨rfl,?_⟩⟩;have h1:=xQ5 (k:=id) (l:=kvs x.s.es) (by rw[<-jD];exact hg);have h2:xCj (kvs x.s.es)=x.s.bytes:=fN;grind [xHc]
 have tU:=h_ (xTa (h.all.s.below R) id a ha az);have HA:=h_ ha;have u_:=h_ dT;have cU:=h_ aw;have HO:=h_ ho;have HG:=h_ hG;have J:=h_ (And.intro (And.intro mG og) Gz);have e:=cell_of_row w nb 1 _ _ _ O;simp only[xR,v_]at e;have T:=yx ho;have z0:∀z:xf w,z.1.cell? ⟨nb,1,none⟩=some (.pointer (some ⟨x.s.p,0,none⟩)):=by grind
 have N:∀z:xf w,xp z.1 ⟨ob,0,none⟩ 32=true:=by grind [xf.ok]
 have K:∀z:xf w,xo z.1 ⟨ob,0,none⟩ 32=(xl id).toArray:=by grind [xf.rd]
 clear h O hG Gz og mG ho fN az dT aw R ha e T;go_enter func327,ntmps327;go_upto_region 1 with fail
 refine xz [0,1,2,3,4,5,6,7] [8,9] (λw'=>∃z:xf w,w'=z.1) ⟨⟨w.drew,(z_ _ _).drew⟩,rfl⟩ ?_;simp only[o_]
 repeat (go_big_quiet_step (fail))
 refine wpQuiet_nil ?_;clear z0 N K;refine yE ?_;simp only[o_];go_wp2_with fail;refine tU.mono ?_;intro e1 r EF;have R:Below w.heap.size w w.drew:=by grind
 rcases HA.out with hg|⟨hg,_⟩
 ·obtain⟨rfl,aa⟩:=EF.1 hg
  have Y:Hid (ub b b nb (rmO x.pc id) (λ_=>True) w (.returned (.int .i64 8)) r):=h_ ((cU.below (R.trans aa)).bad (by decide) (by
   unfold rmO;have:zn id x.pc.ses=none:=by rw[<-hg];exact(jD _ _).symm
   rw[this]))
  clear EF aa hg R tU;go_wp2;refine T_ ?_;go_wp2;go_ret;exact Y.out
 obtain⟨ix,C5⟩:∃ix,yG id x.s.es 0=some (ix,.agg (xU a)):=by
  unfold getK at hg;obtain⟨⟨i,u⟩,h1,h2⟩:=al_.1 hg;grind
 obtain⟨rfl,hk1,aL⟩:=EF.2 ix C5;have cX:zm b nb w x x w.drew:=cU.below R;have X:=cX.setS hk1 aL rfl rfl;have Qc:Hid (zn id x.pc.ses=some (.agg (xU a))/\kvs (x.s.es.eraseIdx ix)=xBb id x.pc.ses):=h_ ⟨by rw[<-hg];exact(jD _ _).symm,yFu (i:=0) (by rw[m0];exact C5)⟩;have F:=(X.kept.block ob J.1.1 J.1.2).trans HO.out;have Dk:=h_ X;have cL:=h_ F;have C6:Hid (Gl r):=h_ (HG.below (B:=b) X.bel J.2);have dR:=h_ (xXh b x.ib x.M x.mc x.gs id r.drew (C6.later (z_ _ _).drew) (X.prt.all.o.below (z_ _ _).drew));have e:=cell_of_row r nb 3 _ _ _ X.nbr;simp only[xR,v_]at e;have z0:∀z:xf r,z.1.cell? ⟨nb,3,none⟩=some (.pointer (some ⟨x.ib,0,none⟩)):=by grind
 have T:=yx F;have N:∀z:xf r,xp z.1 ⟨ob,0,none⟩ 32=true:=by grind [xf.ok]
 have K:∀z:xf r,xo z.1 ⟨ob,0,none⟩ 32=(xl id).toArray:=by grind [xf.rd]
 clear EF hg C5 hk1 aL cX X F e T R tU;go_wp2;refine T_ ?_;go_upto_region 4 with fail
 refine xz [0,1,2,3,4,5,6,7,10] [8,9] (λw'=>∃z:xf r,w'=z.1) ⟨⟨r.drew,(z_ _ _).drew⟩,rfl⟩ ?_;simp only[o_]
 repeat (go_big_quiet_step (fail))
 refine wpQuiet_nil ?_;clear z0 N K;refine yo true ?_;simp only[o_];go_wp2_with fail;refine dR.mono ?_;rintro e' C ⟨v,ns,rfl,ae,eQ,aW,an,ai⟩;have aN:Below r.heap.size r C:=by grind
 have Jp:=h_ (Dk.below aN);have cR:Hid (∀f,rmK f (yF x.gs ns id)=rmT f x.pc.lf id):=h_ (yH7 eQ aW)
 have HMW:Hid (∀p∈yF x.gs ns id,xD4 x.pc.lf id p.1=some p.2/\0<=p.2/\p.2<=2147483647):=h_ (λp H=>by
  refine⟨(xDy aW).1 H,?_⟩;obtain⟨m,P,_,fE⟩:=xO6 H;obtain⟨G,hG,eF,_⟩:=vD (List.ne_nil_of_mem P);have SL:=(yH hG).1;have rE:xC x.gs p.1=G.ms:=by omega
  rw[rE]at P;rw[<-fE];exact yEa ((Dk.prt.all.o.grps G SL).good m P))
 have HMI:Hid (∀t m,xD4 x.pc.lf id t=some m->(t,m)∈yF x.gs ns id):=h_ (λt m P=>(xDy aW).2 P);have lX:Hid (((yF x.gs ns id).map Prod.fst).Nodup):=h_ (kZ id eQ);obtain⟨L,hL⟩:∃L,L=yF x.gs ns id:=⟨_,rfl⟩;rw[<-hL]at ae an cR HMW lX HMI;obtain⟨va,vn,vc,JC⟩:=zd ae;have lW:vn=L.length:=by grind [jt]
 obtain⟨n,O⟩:∃n,n=L.length:=⟨_,rfl⟩;rw[lW,<-O]at JC;have HN:=h_ O;have nZ:(n:Int)<=65536:=by omega
 have HVS:=h_ JC;have sY:=h_ ae;have Sl:∀k,v.ownBlock=some k->r.drew.heap.size<=k:=λk W=>(ae.lt k W).1
 have HVO:=h_ Sl;subst JC;have oD:=h_ aN;clear ae eQ aW an ai hL lW O Sl aN dR;go_wp2;refine⟨λ_=>⟨⟨C,oD.out⟩,rfl⟩,?_⟩;refine yo true ?_;simp only[o_];go_wp2;refine⟨λ_=>⟨⟨C,oD.out⟩,rfl⟩,?_⟩;refine T_ ?_;go_wp2;go_loopw [31] (λi wr=>∃k:Nat,i=.int .i64 k/\k<=n/\Hid (∃t',zm b nb w x { x with s:={ x.s with es:=x.s.es.eraseIdx ix,bytes:=x.s.bytes-a.text.size },t:=t' } wr/\t'.p=x.t.p/\t'.c=rmK x.t.c (L.take k)/\t'.gs.length=x.t.gs.length/\∀k∈t'.foot,k∈x.t.foot\/C.heap.size<=k)/\Hid (C.heap.size<=wr.heap.size/\∀k,r.heap.size<=k->k<C.heap.size->wr.heap[k]?=C.heap[k]?)/\Hid (∀p∈L.take k,uJ x.t.c p.1 p.2=0)) (λi _=>n-(intOf i).toNat)
 case atStart=>exact⟨0,rfl,n3 _,h_ ⟨x.t,Jp.out,rfl,rfl,rfl,λk W=>.inl W⟩,h_ ⟨w_ _,λ_ _ _=>rfl⟩,h_ (λp H=>by cases H)⟩
 case round=>
  obtain⟨k,rfl,W,HT,Eu,HE⟩:=hrel;by_cases hlt:k<n
  ·have aM:(k:Int)<(n:Int):=by omega
   have aT:k<L.length:=by grind
   obtain⟨t',E,V,S,Gs,SM⟩:=HT.out;obtain⟨g,cap,hu,bE,BI,mY,_,_⟩:=xL5 (xHo (w':=wr) sY.out (λj h1 h2=>Eu.2 j h1 h2)) aT;have Jj:va=some ⟨g,0,none⟩:=by grind
   have O9:(n:Int)<=vc:=by grind
   subst Jj;have cD:Hid (L.take (k+1)=L.take k++[L[k]]):=h_ (d0 aT);have WU:=h_ (HMW.out L[k] (L3 aT));have NR:L[k].1∉(L.take k).map Prod.fst:=by
    have h1:=lX.out;rw[<-Q0 k L,L8,M6]at h1;grind [List.mem_map_of_mem,List.drop_eq_getElem_cons,List.mem_cons_self]
   have WV:Hid (rmK x.t.c (L.take k) L[k].1=x.t.c L[k].1):=h_ (xDu NR);obtain⟨q,hq⟩:∃q,q=L[k]:=⟨_,rfl⟩;rw[<-hq]at mY cD WU WV;obtain⟨s,m⟩:=q;simp only at mY;have aU:xt 2 #[Value.string s,.int .i64 m]=true:=by simp[xt,Value.oneCell']
   have Sz:(#[Value.string ⟨#[]⟩,Value.int .i64 0].size==2)=true:=rfl;obtain⟨d,bQ⟩:∃d,d=wr.alloc (.cells #[.string s,.int .i64 m] 72):=⟨_,rfl⟩;have ao:Below wr.heap.size wr d:=by grind
   have bI:d.heap[wr.heap.size]?=some (.cells #[.string s,.int .i64 m] 72 (0,0)):=by grind
   have lk:=xF (n:=2) bI rfl;have z3:∀z:xf d,xp z.1 ⟨wr.heap.size,0,none⟩ 2=true:=by grind [xf.ok]
   have z4:∀z:xf d,xo z.1 ⟨wr.heap.size,0,none⟩ 2=#[.string s,.int .i64 m]:=by grind [xf.rd]
   have eH:Below d.heap.size d d.drew:=by grind
   have oR:=E.below ao;have n9:=oR.below eH
   have BV:=h_ (xW7 n9.prt.all.t s m WU.2 (λc e=>by
    show c.ivs.length<=_
    have h1:t'.c s=some c:=e;rw[S,WV.out]at h1;exact u_.out s c h1))
   have I:=h_ (And.intro n9 (And.intro V (And.intro S (And.intro Gs SM))));have e:=cell_of_row d nb 2 _ _ _ oR.nbr;simp only[xR,v_]at e;rw[V]at e;have z0:∀z:xf d,z.1.cell? ⟨nb,2,none⟩=some (.pointer (some ⟨x.t.p,0,none⟩)):=by grind
   have UE:(({ x with s:={ x.s with es:=x.s.es.eraseIdx ix,bytes:=x.s.bytes-a.text.size },t:=t' }:Prt).t).p=x.t.p:=V;rw[UE]at BV;have aJ:=h_ ao;clear E V S Gs SM hu bE NR hq ao bI lk eH oR n9 e UE HT;go_upto_region 7 with fail
   refine xm bQ ?_;clear bQ BI mY;refine xz [0,1,2,3,4] [5,6] (λw'=>∃z:xf d,w'=z.1) ⟨⟨d.drew,(z_ _ _).drew⟩,rfl⟩ ?_;simp only[o_]
   repeat (go_big_quiet_step (fail))
   refine wpQuiet_nil ?_;clear z0 z3 z4;refine yE ?_;simp only[o_];go_wp2_with fail;refine BV.mono ?_;rintro e' Z ⟨rfl,cK,ay⟩;have Da:uJ t'.c s m=uJ x.t.c s m:=by
    unfold uJ;rw[I.2.2.1,WV.out]
   by_cases he:uJ t'.c s m=0
   ·obtain⟨dd,t4,au,e1,e2,e3,e4,hf⟩:=ay he;have fF:=I.1.setT dd au e1 hf;have mL:(t'.c s).isSome:=by grind [uJ]
    have hwz:d.drew.heap.size=d.heap.size:=rfl;have Gk:C.heap.size<=d.heap.size:=by grind
    have Wf:Hid (∃t',zm b nb w x { x with s:={ x.s with es:=x.s.es.eraseIdx ix,bytes:=x.s.bytes-a.text.size },t:=t' } Z/\t'.p=x.t.p/\t'.c=rmK x.t.c (L.take (k+1))/\t'.gs.length=x.t.gs.length/\∀k∈t'.foot,k∈x.t.foot\/C.heap.size<=k):=h_
     ⟨t4,fF,e1.trans I.2.1,by rw[e3,cD.out,yDy,<-I.2.2.1],by rw[e4,yBj mL];exact I.2.2.2.1,λk W=>by
      rcases hf k W with h1|h1
      ·exact I.2.2.2.2 k h1
      ·exact .inr (by omega)⟩
    have WW:Hid (C.heap.size<=Z.heap.size/\∀k,r.heap.size<=k->k<C.heap.size->Z.heap[k]?=C.heap[k]?):=h_
     ⟨by have:=dd.size;omega,λk h1 h2=>by
      have h3:Z.heap[k]?=d.drew.heap[k]?:=dd.block k (by omega) (λP=>by
       rcases I.2.2.2.2 k P with h4|h4
       ·have:=(Dk.prt.all.t.foot_lt k h4).2;omega
       ·omega)
      have h5:d.drew.heap[k]?=wr.heap[k]?:=by grind
      rw[h3,h5,Eu.2 k h1 h2]⟩
    have F9:Hid (∀p∈L.take (k+1),uJ x.t.c p.1 p.2=0):=h_ (λp H=>by
     rw[cD.out,m3,S_]at H;rcases H with H|rfl
     ·exact HE.out p H
     ·exact Da.symm.trans he)
    obtain⟨er,U⟩:∃er,er=uJ t'.c s m:=⟨_,rfl⟩;rw[<-U]at he;have WX:uJ ({ x with s:={ x.s with es:=x.s.es.eraseIdx ix,bytes:=x.s.bytes-a.text.size },t:=t' }:Prt).t.c s m=0:=U.symm.trans he;rw[WX];clear cK ay dd au e1 e2 e3 e4 hf fF mL hwz Gk Da he U WX BV Eu HE;go_wp2;refine T_ ?_;go_wp2;go_roundw
    case rel=>exact⟨k+1,by go_num,hlt,Wf,WW,F9⟩
    case measure=>simp[intOf];omega
   ·have fF:=I.1.below (cK he);obtain⟨er,U⟩:∃er,er=uJ ({ x with s:={ x.s with es:=x.s.es.eraseIdx ix,bytes:=x.s.bytes-a.text.size },t:=t' }:Prt).t.c s m:=⟨_,rfl⟩;have dY:er≠0:=by grind
    have WX:(er==0)=false:=by grind
    have Y:Hid (ub b b nb (rmO x.pc id) (λ_=>True) w (.returned (.int .i64 er)) Z):=h_ (fF.bad dY (by
     unfold rmO;rw[Qc.1];simp only;rw[if_pos ⟨s,m,WU.1,λh0=>he (Da.trans h0)⟩]))
    rw[<-U];clear cK ay fF Da he U dY BV Eu HE;go_wp2;refine T_ ?_;go_wp2;go_ret;exact Y.out
  ·obtain rfl:k=n:=by omega
   have Q:L.take k=L:=by grind
   obtain⟨t',E,V,S,Gs,SM⟩:=HT.out;rw[Q,cR.out]at S;have SN:Hid (¬ yDz x.pc.tc x.pc.lf id):=h_ (λ⟨t,m,h1,h2⟩=>h2 (HE.out (t,m) (by rw[Q];exact HMI.out t m h1)));have F:=(E.kept.block ob J.1.1 J.1.2).trans HO.out;have Dh:=h_ (And.intro E (And.intro S Gs));have pL:Gl wr:=HG.below (B:=b) E.bel J.2;have HRI:=h_ (xQh b x.ib x.M x.mc x.gs id wr.drew (pL.later (z_ _ _).drew) (E.prt.all.o.below (z_ _ _).drew));have e:=cell_of_row wr nb 3 _ _ _ E.nbr;simp only[xR,v_]at e;have z0:∀z:xf wr,z.1.cell? ⟨nb,3,none⟩=some (.pointer (some ⟨x.ib,0,none⟩)):=by grind
   have T:=yx F;have N:∀z:xf wr,xp z.1 ⟨ob,0,none⟩ 32=true:=by grind [xf.ok]
   have K:∀z:xf wr,xo z.1 ⟨ob,0,none⟩ 32=(xl id).toArray:=by grind [xf.rd]
   clear Q E V S Gs SM F pL e T HT Eu HE;go_upto_region 11 with fail
   refine xz [0,1,2,3,4,5,6,7] [8] (λw'=>∃z:xf wr,w'=z.1) ⟨⟨wr.drew,(z_ _ _).drew⟩,rfl⟩ ?_;simp only[o_]
   repeat (go_big_quiet_step (fail))
   refine wpQuiet_nil ?_;clear z0 N K;refine yE ?_;simp only[o_];go_wp2_with fail;refine HRI.mono ?_;rintro e' D ⟨ns',gs',mc5,_,_,rfl,DV,dC,pX,Qd,_⟩;have sd:=(Dh.1.below (z_ wr.heap.size wr).drew).setO dC DV pX;have WY:=h_ (lf_rm Qd);have JG:=h_ sd;have F:=(sd.kept.block ob J.1.1 J.1.2).trans HO.out;obtain⟨y,hy,hsg⟩:=yBq (sd.prt.all.h.below (z_ D.heap.size D).drew) id;have HSG:=h_ hsg;have HY:=h_ hy;have e:=cell_of_row D nb 0 _ _ _ sd.nbr;simp only[xR,v_]at e;have z0:∀z:xf D,z.1.cell? ⟨nb,0,none⟩=some (.pointer (some ⟨x.h.p,0,none⟩)):=by grind
   have T:=yx F;have N:∀z:xf D,xp z.1 ⟨ob,0,none⟩ 32=true:=by grind [xf.ok]
   have K:∀z:xf D,xo z.1 ⟨ob,0,none⟩ 32=(xl id).toArray:=by grind [xf.rd]
   clear DV dC pX Qd sd F hsg hy e T HRI;go_wp2;refine T_ ?_;go_upto_region 12 with fail
   refine xz [0,1,2,3,4,5,6,7] [8,9] (λw'=>∃z:xf D,w'=z.1) ⟨⟨D.drew,(z_ _ _).drew⟩,rfl⟩ ?_;simp only[o_]
   repeat (go_big_quiet_step (fail))
   refine wpQuiet_nil ?_;clear z0 N K;refine yE ?_;simp only[o_];go_wp2_with fail;refine HSG.mono ?_;intro e' w6 hall
   have Y:Hid (∃er:Int,e'=.returned (.int .i64 er)/\ub b b nb (rmO x.pc id) (λ_=>True) w (.returned (.int .i64 er)) w6):=h_ (by
    have JH:=JG.below (z_ D.heap.size D).drew;have JI:getK id x.h.es=zn id x.pc.hes:=jD _ _;cases hg:getK id x.h.es with
    |none=>
     obtain⟨rfl,bM⟩:=hall.1 hg;refine⟨8,rfl,(JH.below bM).bad (by decide) ?_⟩;grind [rmO]
    |some u=>
     obtain⟨rfl,A⟩:=HY.out u hg;rcases A with A|A
     ·obtain⟨rfl,cr,LX⟩:=(hall.2 (by rw[hg];rfl)).1 A;have K8:=JH.setH cr LX rfl rfl;refine⟨0,rfl,K8.gen rfl ?_ trivial⟩;unfold rmO;grind [xHi,xLz,xHc,Prt.pc,xQn]
     ·obtain⟨rfl,bM⟩:=(hall.2 (by rw[hg];rfl)).2 A;refine⟨10,rfl,(JH.below bM).bad (by decide) ?_⟩;unfold rmO;rw[Qc.1];simp only;rw[if_neg SN.out,<-JI,hg];simp only;rw[xHi,A,if_pos rfl])
   obtain⟨er,rfl,cV⟩:=Y.out;have rI:=h_ cV;clear hall cV HSG Y;go_wp2;refine T_ ?_;go_wp2;go_ret;exact rI.out
end
section
def qd:=lx_ 46
def uC:=sx_ 46
def xD7:=@yh prog 46 40 isAgg46 sizeOf46
def xCu:=@yk prog 46 40 (by kernel_rfl)
structure Art where
 id:Id32
 text:ByteArray
 name:ByteArray
 date:Int
 arr:Int
 groups:Value
 subj:ByteArray
 refs:Value
 perm:Bool
def zZ (a:Art):List Value:=[.string a.text,.string a.name,.int .i64 a.date,.int .i64 a.arr,a.groups,.string a.subj,a.refs,.bool a.perm]
def yP (a:Art):List Value:=xl a.id++zZ a
def xA (a:Art):Array Value:=(yP a).toArray
theorem yZ (a):(yP a).length=40:=by simp[yP,zZ,xD]
theorem yt (a):(xA a).size=40:=by simp[xA,yZ]
theorem vS (a j):(yP a)[32+j]?=(zZ a)[j]?:=by simp[yP,M1,xD]
theorem ar32 (a):(xA a)[32]?=some (.string a.text):=by simpa[xA,zZ]using vS a 0
theorem ar33 (a):(xA a)[33]?=some (.string a.name):=by simpa[xA,zZ]using vS a 1
theorem ar34 (a):(xA a)[34]?=some (.int .i64 a.date):=by simpa[xA,zZ]using vS a 2
theorem ar35 (a):(xA a)[35]?=some (.int .i64 a.arr):=by simpa[xA,zZ]using vS a 3
theorem ar36 (a):(xA a)[36]?=some a.groups:=by simpa[xA,zZ]using vS a 4
theorem ar37 (a):(xA a)[37]?=some (.string a.subj):=by simpa[xA,zZ]using vS a 5
theorem ar38 (a):(xA a)[38]?=some a.refs:=by simpa[xA,zZ]using vS a 6
theorem ar39 (a):(xA a)[39]?=some (.bool a.perm):=by simpa[xA,zZ]using vS a 7
theorem yKg {a}(c:a.groups.oneCell'=true)(b:a.refs.oneCell'=true):∀v∈yP a,v.oneCell'=true:=by
 intro v hv;unfold yP at hv;rcases m3.1 hv with h|h
 ·grind [zT]
 ·simp only[zZ,g8,ak_,or_false]at h;rcases h with rfl|rfl|rfl|rfl|rfl|rfl|rfl|rfl <;> first|rfl|assumption
theorem vA {a}(c:a.groups.oneCell'=true)(b:a.refs.oneCell'=true):xt 40 (xA a)=true:=zY (yt a) (by
 rw[B3];intro v hv;exact yKg c b v (by simpa[xA]using hv))
def ut:Art:=⟨yI,⟨#[]⟩,⟨#[]⟩,0,0,.slice none 0 0,⟨#[]⟩,.slice none 0 0,false⟩
theorem qZ (ρ:Operand->Value)(d)(ty:TypeId)(pos af g w):
  Sem.run prog (execOp ρ ⟨d,.alloc 46,ty,pos,af,g⟩) w=.ok (.value (.pointer (some ⟨w.heap.size,0,none⟩))) (w.alloc (.cells (xA ut) 46)):=by kernel_rfl
theorem xF1 {w b a l}{t:TypeId}(h:w.heap[b]?=some (.cells (yP a++l).toArray t (0,0))):xp w ⟨b,0,none⟩ 32=true/\xo w ⟨b,0,none⟩ 32=(xl a.id).toArray:=by
 have:=yl (w:=w) (a:=⟨b,0,none⟩) (cs:=xl a.id) (λj u d=>by
  rw[l8,m0,cell_of_row _ _ _ _ _ _ h,l7];have c:j<(xl a.id).length:=by grind
  unfold yP;rw[B8,I3 c];exact d)
 rwa [xD]at this
theorem yGa {w b a l}{t:TypeId}(h:w.heap[b]?=some (.cells (yP a++l).toArray t (0,0))):xp w ⟨b,0,none⟩ 40=true/\xo w ⟨b,0,none⟩ 40=xA a:=by
 have:=yl (w:=w) (a:=⟨b,0,none⟩) (cs:=yP a) (λj u d=>by
  rw[l8,m0,cell_of_row _ _ _ _ _ _ h,l7];have c:j<(yP a).length:=by grind
  rw[I3 c];exact d)
 rw[yZ]at this;exact this
def xAk (w:World)(ob:Nat)(a:Art)(pl:Value):Prop:=w.heap[ob]?=some (.cells (yP a++[pl]).toArray 93 (0,0))
structure qL (w:World)(A:Art)(a:PArt):Prop where
 id:A.id=a.id
 text:A.text=a.text
 name:A.name=a.name
 date:A.date=a.date
 arr:A.arr=a.arr
 subj:A.subj=a.subj
 perm:A.perm=a.perm
 groups:w.ownsRow 0 9 1 A.groups a.groups.length (a.groups.map Value.string)
 refs:yJ 0 w A.refs a.refs
theorem qL.kept {w w' A a F}(h:qL w A a)(c:Kept F w w')(d:∀k∈F,A.groups.ownBlock≠some k/\A.refs.ownBlock≠some k):qL w' A a:=
 ⟨h.id,h.text,h.name,h.date,h.arr,h.subj,h.perm,yf h.groups c (λk b=>(d k b).1),yf h.refs c (λk b=>(d k b).2)⟩
theorem qL.below {w w' A a}(h:qL w A a)(b:Below w.heap.size w w'):qL w' A a:=h.kept (Kept.of_below (F:=[]) b) (λ_ h=>by cases h)
theorem qL.ones {w A a}(h:qL w A a):A.groups.oneCell'=true/\A.refs.oneCell'=true:=by
 obtain⟨x,n,c,e⟩:=zd h.groups;obtain⟨y,m,d,f⟩:=zd h.refs;rw[e,f];exact⟨rfl,rfl⟩
theorem j0 {w:World}{B t s n v xs}(h:w.ownsRow B t s v n xs):∃x c,v=.slice x n c/\n<=c:=by
 rcases jt h with⟨rfl,rfl⟩|⟨g,cap,_,rfl,_,_,h1,_⟩
 ·exact⟨_,_,rfl,w_ _⟩
 ·exact⟨_,_,rfl,h1⟩
theorem xQ6 {w:World}{B u}{gs:List ByteArray}(h:w.ownsRow B 9 1 u gs.length (gs.map Value.string)){k}(a:k<gs.length):∃g cap,u=.slice (some ⟨g,0,none⟩) gs.length cap/\gs.length<=cap/\g<w.heap.size/\w.cell? ⟨g,k,none⟩=some (.string gs[k]):=by
 rcases jt h with⟨_,e⟩|⟨g,cap,cur,rfl,_,h1,h2,h3,_,_,b⟩
 ·omega
 ·exact⟨g,cap,rfl,h2,h1,b k _ (by simp[R1,U_ a])⟩
theorem yJs {w:World}{B u}{l:List Id32}(h:yJ B w u l){k}(a:k<l.length):∃g cap,u=.slice (some ⟨g,0,none⟩) l.length cap/\l.length<=cap/\xp w ⟨g,k*32,none⟩ 32=true/\xo w ⟨g,k*32,none⟩ 32=(xl l[k]).toArray:=by
 rcases jt h with⟨_,e⟩|⟨g,cap,cur,rfl,_,h1,h2,h3,_,_,f⟩
 ·omega
 ·have b:xBm w g 0 l:=λj c i v d=>by
   have m:i<32:=by grind [List.getElem?_eq_some_iff.1,xD]
   rw[m0];exact f _ _ ((xM3 l j i c m).trans d)
  have:=b.rd a;rw[m0,getElem!_pos l k a]at this;exact⟨g,cap,rfl,h2,this.1,this.2⟩
def bys (t:ByteArray):By:=t.data.toList
def txB (t:ByteArray):By:=beB 4 (bys t).length++bys t
def PArt.clean (a:PArt):PArt:=if a.groups=[]then { a with name:=⟨#[]⟩,subj:=⟨#[]⟩,refs:=[] }else a
def recP (a:PArt):By:=[2]++a.id.1++beB 4 a.arr.toNat++beB 4 a.date.toNat++[if a.perm then 1 else 0]++txB a.text++txB a.name++txB a.subj++beB 4 a.groups.length++a.groups.flatMap txB++beB 4 a.refs.length++a.refs.flatMap (·.1)
structure PArt.Fits (a:PArt):Prop where
 text:a.text.size<=1000
 name:a.name.size<=1000
 subj:a.subj.size<=1000
 ng:a.groups.length<=22
 gs:∀g∈a.groups,g.size<=1000
 nr:a.refs.length<=22
theorem xRg {α β:Type}(f:α->List β){m:Nat}:∀{l:List α},(∀x∈l,(f x).length<=m)->(l.flatMap f).length<=l.length*m
 |[],_=>by simp
 |x :: l,h=>by
  have h1:=h x (by simp);have h2:=xRg f (l:=l) λy hy=>h y (by simp[hy])
  rw[as_,b6,x5,Nat.add_mul];omega
theorem zu (t:ByteArray):(bys t).length=t.size:=rfl
theorem xDs (t):(txB t).length=4+t.size:=by simp[txB,xu,zu]
theorem PArt.Fits.clean {a:PArt}(h:a.Fits):a.clean.Fits:=by
 unfold PArt.clean;split
 ·exact⟨h.text,n3 1000,n3 1000,h.ng,h.gs,n3 22⟩
 ·exact h
theorem PArt.Fits.pre {a:PArt}(h:a.Fits)(k j):((a.groups.take k).flatMap txB).length<=22088/\((a.refs.take j).flatMap (·.1)).length<=704:=by
 have h1:=xRg txB (m:=1004) (l:=a.groups.take k) λg b=>by have:=h.gs g (bi_ b);rw[xDs];omega
 have h2:=xRg (λx:Id32=>x.1) (m:=32) (l:=a.refs.take j) λx _=>by have:=x.2;omega
 have h3:=(List.take_sublist k a.groups).length_le;have h4:=(List.take_sublist j a.refs).length_le;have d:=h.ng;have c:=h.nr;omega
theorem xTz {a:PArt}(h:a.Fits):(recP a).length<=40000/\1<=(recP a).length:=by
 obtain⟨h1,h2⟩:=h.pre a.groups.length a.refs.length;rw[X3]at h1 h2;have h3:=h.text;have h4:=h.name;have b:=h.subj;simp only[recP,b6,xDs,xu,x5,L1,a.id.2];omega
def Art.clear (A:Art):Art:={ A with name:=⟨#[]⟩,subj:=⟨#[]⟩,refs:=.slice none 0 0 }
theorem yKf (A:Art):(((xA A).setIfInBounds 33 (.string ⟨#[]⟩)).setIfInBounds 37 (.string ⟨#[]⟩)).setIfInBounds 38 (.slice none 0 0)=xA A.clear:=by
 simp[xA,yP,zZ,Art.clear,U1,V7,xD]
attribute [local go_sem ↓] vN qS qY xP xI vQ qd uC qZ
attribute [local go_sem] xHu xHf zg zj xD7 xCu zr zx yA yz xh xg xe xd xx xy xk xj xq xB xw
theorem xQo {w}(ob A)(a:PArt)(pl)(z:qL w A a)(hf:a.Fits)(h1:0<=a.arr/\a.arr<=2147483647)(h2:0<=a.date/\a.date<=2147483647)(h:xAk w ob A pl):
  Calls prog 322 #[.pointer (some ⟨ob,0,none⟩)] w λe w'=>Below w.heap.size w w'/\∃u,e=.returned u/\OwnB w' w.heap.size u (recP a.clean):=by
 obtain⟨a0,Dl⟩:∃a0,a0=w.heap.size:=⟨_,rfl⟩;obtain⟨y,Gi⟩:∃y,y=w.alloc (.cells (xA A) 46):=⟨_,rfl⟩;have bu:Below w.heap.size w y:=by grind
 have T:y.heap[a0]?=some (.cells (xA A) 46 (0,0)):=by grind
 obtain⟨o0,r0⟩:=yGa h;have aU:xt 40 (xA A)=true:=vA z.ones.1 z.ones.2;have si:((xA ut).size==40)=true:=by rw[yt];rfl
 obtain⟨ga,gc,G,BW⟩:=j0 z.groups;have M:=(cell_of_row y a0 36 _ _ _ T).trans (ar36 A);rw[G]at M;obtain⟨n,H⟩:∃n,n=a.groups.length:=⟨_,rfl⟩;rw[<-H]at G BW M;have aL:(#[Value.slice none 0 0].size==1)=true:=rfl;have iZ:xt 1 #[Value.slice none 0 0]=true:=by simp[xt,Value.oneCell']
 have nZ:(n:Int)<=22:=by have:=hf.ng;omega
 have key:∀(x:World) (A':Art),x.heap[a0]?=some (.cells (xA A') 46 (0,0))->Below w.heap.size w x->qL w A' a.clean->A'.groups=.slice ga n gc->True:=λ_ _ _ _ _ _=>trivial
 obtain⟨A',WZ,lE,dq⟩:∃A':Art,qL w A' a.clean/\A'.groups=.slice ga n gc/\((n=0/\A'=A.clear)\/(n≠0/\A'=A)):=by
  by_cases hz:a.groups=[]
  ·refine⟨A.clear,?_,G,.inl ⟨by rw[H,hz];rfl,rfl⟩⟩;unfold PArt.clean;rw[if_pos hz];exact⟨z.id,z.text,rfl,z.date,z.arr,rfl,z.perm,z.groups,D1 _ _ _ _⟩
  ·refine⟨A,?_,G,.inr ⟨by rw[H];intro e;exact hz (ap_.1 e),rfl⟩⟩;unfold PArt.clean;rw[if_neg hz];exact z
 clear key;have gB:a.clean.groups=a.groups/\a.clean.arr=a.arr/\a.clean.date=a.date:=by unfold PArt.clean;split <;> exact⟨rfl,rfl,rfl⟩
 rw[<-gB.1]at H;rw[<-gB.2.1]at h1;rw[<-gB.2.2]at h2;have wX:=hf.clean;obtain⟨q,hq⟩:∃q,q=a.clean:=⟨_,rfl⟩;rw[<-hq]at WZ H h1 h2 wX⊢;have C:=h_ WZ;have c:=h_ wX;have CV:=h_ H;have ei:=h_ bu;have Z:=h_ T;have PH:=h_ Dl;have HCA:=h_ dq;have HG:=h_ lE;have td:=h_ (And.intro h1 h2);clear z hf h h1 h2 bu T WZ lE dq gB H wX hq G;go_enter func322,ntmps322;go_upto_region 2 with fail
 refine xm Gi ?_;rw[<-Dl];clear Gi o0 r0 Dl;obtain⟨b,x,E,F,aH,aa⟩:∃b x,b=x.heap.size/\((n=0/\x=((y.setCell ⟨a0,33,none⟩ (.string ⟨#[]⟩)).setCell ⟨a0,37,none⟩ (.string ⟨#[]⟩)).setCell ⟨a0,38,none⟩ (.slice none 0 0))\/(n≠0/\x=y))/\x.heap[a0]?=some (.cells (xA A') 46 (0,0))/\Below w.heap.size w x:=by
  rcases HCA.out with⟨e1,e2⟩|⟨e1,e2⟩
  ·refine⟨_,_,rfl,.inl ⟨e1,rfl⟩,?_,?_⟩
   ·rw[ux (ux (ux Z.out 33 _) 37 _) 38 _,yKf,e2]
   ·have E:=ei.out;have ha:=PH.out;have k1:Kept [a0] y (((y.setCell ⟨a0,33,none⟩ (.string ⟨#[]⟩)).setCell ⟨a0,37,none⟩ (.string ⟨#[]⟩)).setCell ⟨a0,38,none⟩ (.slice none 0 0)):=((yW y ⟨a0,33,none⟩ _).trans (yW _ ⟨a0,37,none⟩ _) (λk J=>.inl J)).trans (yW _ ⟨a0,38,none⟩ _) (λk J=>.inl J);exact E.trans (k1.below E.size λk J=>by rw[S_.1 J];omega)
  ·exact⟨_,_,rfl,.inr ⟨e1,rfl⟩,by rw[e2];exact Z.out,ei.out⟩
 obtain⟨w2,aR⟩:∃w2,w2=x.alloc (.cells #[.slice none 0 0] 196):=⟨_,rfl⟩;have aN:Below b x w2:=by grind
 have iU:WrAt b w2 b []:=⟨w_ _,_,by rw[aR,E];exact heap_alloc_new x _,OwnB.nil _ _⟩;have aq:=h_ aa;have B:=h_ aH;have ax:=h_ aN;have Wq:=h_ iU;have fR:=h_ E;have t:Hid (a0<b/\w.heap.size<=b):=h_ (by rw[E];exact⟨(i_ aH).1,aa.size⟩);have HCW:=h_ F;clear aa aH aN iU F;have go2:True:=trivial;rcases HCW.out with⟨hz,F⟩|⟨hz,F⟩
 case' inl=>
  have Dv:=(cell_of_row y a0 33 _ _ _ Z.out).trans (ar33 A);have f33:=frozen_of_row y a0 33 _ _ Z.out;have r1:=ux Z.out 33 (.string ⟨#[]⟩);have CM:=cell_of_row _ a0 37 _ _ _ r1;have f37:=frozen_of_row _ a0 37 _ _ r1;have r2:=ux r1 37 (.string ⟨#[]⟩);have GB:=cell_of_row _ a0 38 _ _ _ r2;have f38:=frozen_of_row _ a0 38 _ _ r2;have Qe:((xA A).setIfInBounds 33 (.string ⟨#[]⟩))[37]?=some (.string A.subj):=by rw[X4 (by decide)];exact ar37 A
  have U:(((xA A).setIfInBounds 33 (.string ⟨#[]⟩)).setIfInBounds 37 (.string ⟨#[]⟩))[38]?=some A.refs:=by rw[X4 (by decide),X4 (by decide)];exact ar38 A
  rw[Qe]at CM;rw[U]at GB;rw[hz]at M;clear r1 r2 Qe U;go_upto_region 4 with fail
  refine xm F ?_;clear F Dv f33 CM f37 GB f38 M;go_upto_region 5 with fail
  refine xm aR ?_
 case' inr=>
  have T:((n:Int)==0)=false:=by simp;omega
  go_upto_region 4 with fail
  refine xm F ?_;clear F M;go_upto_region 5 with fail
  refine xm aR ?_;clear T
 all_goals
  rw[<-E];clear aR E hz go2;have d:=h_ (jr Wq.out 2 (by simp));rw[show ((2:UInt8).toNat:Int)=2 from rfl]at d;go_wp2_with fail;refine d.mono ?_;rintro e w3 ⟨rfl,o,f⟩;have aJ:=h_ (ax.trans o);have Lt:=h_ f;clear o f d;have d:=h_ (xQ1 Lt.out q.id (by have h1:=c.text;have h2:=c.name;have h3:=c.subj;simp only[b6,x5,L1,xu,zu,q.id.2];omega));have r:=(aJ.block a0 t.1).trans B.out;obtain⟨ok,rk⟩:=xF1 (l:=[]) (w:=w3) (b:=a0) (a:=A') (by rw[G5];exact r);rw[C.id]at rk;clear r;go_wp2_with fail;refine d.mono ?_;rintro e w4 ⟨rfl,o,f⟩;have dF:=h_ (aJ.trans o);have A_:=h_ f;clear o f d ok rk;have P:=Int.toNat_of_nonneg td.1.1;have O:=Int.toNat_of_nonneg td.2.1;have d:=h_ (jJ A_.out q.arr.toNat (by have:=td.1;omega) (by have h1:=c.text;have h2:=c.name;have h3:=c.subj;simp only[b6,x5,L1,xu,zu,q.id.2];omega));rw[P]at d;have r:=(dF.block a0 t.1).trans B.out;have ck:=(cell_of_row w4 a0 35 _ _ _ r).trans (ar35 A');rw[C.arr]at ck;clear r;go_wp2_with fail;refine d.mono ?_;rintro e w5 ⟨rfl,o,f⟩;have bR:=h_ (dF.trans o);have Js:=h_ f;clear o f d ck;have d:=h_ (jJ Js.out q.date.toNat (by have:=td.2;omega) (by have h1:=c.text;have h2:=c.name;have h3:=c.subj;simp only[b6,x5,L1,xu,zu,q.id.2];omega))
  rw[O]at d;have r:=(bR.block a0 t.1).trans B.out;have ck:=(cell_of_row w5 a0 34 _ _ _ r).trans (ar34 A');rw[C.date]at ck;clear r;go_wp2_with fail;refine d.mono ?_;rintro e w6 ⟨rfl,o,f⟩;have fH:=h_ (bR.trans o);have Ik:=h_ f;clear o f d ck;clear P O;obtain⟨pm,oW⟩:∃pm,pm=q.perm:=⟨_,rfl⟩;have X:=h_ oW;have Dk:=h_ (jr Ik.out 1 (by have h1:=c.text;have h2:=c.name;have h3:=c.subj;simp only[b6,x5,L1,xu,zu,q.id.2];omega));have gY:=h_ (jr Ik.out 0 (by have h1:=c.text;have h2:=c.name;have h3:=c.subj;simp only[b6,x5,L1,xu,zu,q.id.2];omega));rw[show ((1:UInt8).toNat:Int)=1 from rfl]at Dk;rw[show ((0:UInt8).toNat:Int)=0 from rfl]at gY;have r:=(fH.block a0 t.1).trans B.out;have ck:=(cell_of_row w6 a0 39 _ _ _ r).trans (ar39 A');rw[C.perm,<-oW]at ck;clear r oW;cases pm
  case' false=>
   have tF:=gY;have HE:Hid ([(0:UInt8)]=[if q.perm then (1:UInt8)else 0]):=h_ (by rw[<-X.out];rfl)
  case' true=>
   have tF:=Dk;have HE:Hid ([(1:UInt8)]=[if q.perm then (1:UInt8)else 0]):=h_ (by rw[<-X.out];rfl)
 all_goals
  go_wp2_with fail;refine tF.mono ?_;rintro e w7 ⟨rfl,o,f⟩;have rf:=h_ (fH.trans o);have JJ:=f;rw[HE.out]at JJ;have IX:=h_ JJ;clear o f JJ gY Dk tF HE ck;have d:=h_ (qo IX.out (bys q.text) (by have:=c.text;rw[zu];omega) (by have h1:=c.text;have h2:=c.name;have h3:=c.subj;simp only[b6,x5,L1,xu,zu,q.id.2];omega));rw[show str (bys q.text)=q.text from rfl]at d;have r:=(rf.block a0 t.1).trans B.out;have ck:=(cell_of_row w7 a0 32 _ _ _ r).trans (ar32 A');rw[C.text]at ck;clear r;go_wp2_with fail;refine d.mono ?_;rintro e w8 ⟨rfl,o,f⟩;have rh:=h_ (rf.trans o);have Lu:=h_ f;clear o f d ck;have d:=h_ (qo Lu.out (bys q.name) (by have:=c.name;rw[zu];omega) (by have h1:=c.text;have h2:=c.name;have h3:=c.subj;simp only[b6,x5,L1,xu,zu,q.id.2];omega));rw[show str (bys q.name)=q.name from rfl]at d;have r:=(rh.block a0 t.1).trans B.out;have ck:=(cell_of_row w8 a0 33 _ _ _ r).trans (ar33 A');rw[C.name]at ck;clear r;go_wp2_with fail;refine d.mono ?_;rintro e w9 ⟨rfl,o,f⟩;have gE:=h_ (rh.trans o);have SE:=h_ f;clear o f d ck;have d:=h_ (qo SE.out (bys q.subj) (by have:=c.subj;rw[zu];omega) (by have h1:=c.text;have h2:=c.name;have h3:=c.subj;simp only[b6,x5,L1,xu,zu,q.id.2];omega))
  rw[show str (bys q.subj)=q.subj from rfl]at d;have r:=(gE.block a0 t.1).trans B.out;have ck:=(cell_of_row w9 a0 37 _ _ _ r).trans (ar37 A');rw[C.subj]at ck;clear r;go_wp2_with fail;refine d.mono ?_;rintro e cS ⟨rfl,o,f⟩;have tC:=h_ (gE.trans o);have W_:=h_ f;clear o f d ck;have d:=h_ (jJ W_.out n (by have:=c.ng;have:=CV.out;omega) (by have h1:=c.text;have h2:=c.name;have h3:=c.subj;simp only[b6,x5,L1,xu,zu,q.id.2];omega));have r:=(tC.block a0 t.1).trans B.out;have ck:=(cell_of_row cS a0 36 _ _ _ r).trans (ar36 A');rw[HG.out]at ck;clear r;go_wp2_with fail;refine d.mono ?_;rintro e cI ⟨rfl,o,f⟩;have oC:=h_ (tC.trans o);have DS:=h_ f;clear o f d ck;obtain⟨wA,R⟩:∃wA,wA=cI:=⟨_,rfl⟩;have dM:=oC;have Xc:=DS;rw[<-R]at dM Xc⊢;have r:=(dM.block a0 t.1).trans B.out;have ck:=(cell_of_row wA a0 36 _ _ _ r).trans (ar36 A');rw[HG.out]at ck;clear r R;go_wp2;obtain⟨pre,fL⟩:∃pre,pre=[]++[2]++q.id.1++beB 4 q.arr.toNat++beB 4 q.date.toNat++[if q.perm then (1:UInt8)else 0]++beB 4 (bys q.text).length++bys q.text++beB 4 (bys q.name).length++bys q.name++beB 4 (bys q.subj).length++bys q.subj++beB 4 n:=⟨_,rfl⟩
  rw[<-fL]at Xc;have Xd:=h_ fL;have dR:Hid (pre.length<=4000):=h_ (by rw[fL];have h1:=c.text;have h2:=c.name;have h3:=c.subj;simp only[b6,x5,L1,xu,zu,q.id.2];omega);clear fL ck;go_loopw [51] (λi wr=>∃k:Nat,i=.int .i64 k/\k<=n/\Hid (Below b wA wr)/\Hid (WrAt b wr b (pre++(q.groups.take k).flatMap txB))) (λi _=>n-(intOf i).toNat)
  case atStart=>exact⟨0,rfl,n3 _,h_ (z_ _ _),h_ (by simpa using Xc.out)⟩
  case round=>
   obtain⟨k,rfl,J,D,L⟩:=hrel;by_cases hlt:k<n
   ·have aM:(k:Int)<(n:Int):=by omega
    have K:k<q.groups.length:=by rw[<-CV.out];exact hlt
    have W:Below w.heap.size w wr:=aq.trans ((dM.trans D.out).mono t.2);obtain⟨g,cap,S,bE,dI,ak⟩:=xQ6 (C.below W).groups K;rw[HG.out]at S;have G:ga=some ⟨g,0,none⟩:=by grind
    have V2:(n:Int)<=gc:=by omega
    have V:Hid (q.groups.take (k+1)=q.groups.take k++[q.groups[k]]):=h_ (d0 K);have dL:=c.gs q.groups[k] (L3 K);obtain⟨s,hs⟩:∃s,s=q.groups[k]:=⟨_,rfl⟩;rw[<-hs]at ak V dL;have d:=h_ (qo L.out (bys s) (by rw[zu];omega) (by have:=dR.out;have:=(c.pre k 0).1;rw[b6];omega));rw[show str (bys s)=s from rfl]at d;subst G;clear W S bE dI dL hs;go_wp2_with fail;refine d.mono ?_;rintro e wq ⟨rfl,o,f⟩;have Xe:=h_ (D.trans o)
    have Xf:Hid (WrAt b wq b (pre++(q.groups.take (k+1)).flatMap txB)):=h_ (by
     rw[V.out,bT_,bB_,<-B8];simpa[txB,B8]using f)
    clear o f d ak;go_wp2;go_roundw
    case rel=>exact⟨k+1,by go_num,hlt,Xe,Xf⟩
    case measure=>simp[intOf];omega
   ·obtain rfl:k=n:=by omega
    have I:q.groups.take k=q.groups:=by rw[CV.out];exact X3
    obtain⟨Y,te⟩:∃p,p=pre++q.groups.flatMap txB:=⟨_,rfl⟩;have SO:Hid (WrAt b wr b Y):=h_ (by have:=L.out;rw[I]at this;rw[te];exact this);have Xg:=h_ te;have tz:Hid (Y.length<=30000):=h_ (by have h1:=dR.out;have h2:=(c.pre k 0).1;rw[I]at h2;rw[te,b6];omega);have fw:=h_ (dM.trans D.out);obtain⟨ra,rc,N,dK⟩:=j0 C.refs;obtain⟨m,hm⟩:∃m,m=q.refs.length:=⟨_,rfl⟩;rw[<-hm]at N dK;have HM:=h_ hm;have BV:=h_ N;have n4:(m:Int)<=22:=by have:=c.nr;omega
    have d:=h_ (jJ SO.out m (by omega) (by have:=tz.out;omega));have r:=(fw.block a0 t.1).trans B.out;have ck:=(cell_of_row wr a0 38 _ _ _ r).trans (ar38 A');rw[BV.out]at ck;clear r I te N hm L SO;go_wp2_with fail;refine d.mono ?_;rintro e wB ⟨rfl,o,f⟩;have ny:=h_ (fw.trans o);have SO:=h_ f;have r:=(ny.block a0 t.1).trans B.out;have ck:=(cell_of_row wB a0 38 _ _ _ r).trans (ar38 A');rw[BV.out]at ck;clear o f r d D;go_wp2;clear ck;go_loopw [65] (λi wr=>∃k:Nat,i=.int .i64 k/\k<=m/\Hid (Below b wB wr)/\Hid (WrAt b wr b (Y++beB 4 m++(q.refs.take k).flatMap (·.1)))) (λi _=>m-(intOf i).toNat)
    case atStart=>exact⟨0,rfl,n3 _,h_ (z_ _ _),h_ (by simpa using SO.out)⟩
    case round=>
     obtain⟨j,rfl,hj,D,L⟩:=hrel;by_cases hlt:j<m
     ·have aM:(j:Int)<(m:Int):=by omega
      have K:j<q.refs.length:=by rw[<-HM.out];exact hlt
      have W:Below w.heap.size w wr:=aq.trans ((ny.trans D.out).mono t.2);obtain⟨g,cap,S,bE,BI,mY⟩:=yJs (C.below W).refs K;rw[BV.out]at S;have N:ra=some ⟨g,0,none⟩:=by grind
      have hrcz:(m:Int)<=rc:=by omega
      have V:Hid (q.refs.take (j+1)=q.refs.take j++[q.refs[j]]):=h_ (d0 K);obtain⟨s,hs⟩:∃s,s=q.refs[j]:=⟨_,rfl⟩;rw[<-hs]at mY V;obtain⟨wn,Q⟩:∃wn,wn=wr.alloc (.cells (xl s).toArray 42):=⟨_,rfl⟩;have sR:Below wr.heap.size wr wn:=by grind
      have bI:wn.heap[wr.heap.size]?=some (.cells (xl s).toArray 42 (0,0)):=by grind
      obtain⟨o3,r3⟩:=yx bI;have gX:b<=wr.heap.size:=by have:=D.size;have:=ny.size;have:=fR.out;omega
      have HBn:=h_ (D.trans (sR.mono gX));have d:=h_ (xQ1 (L.below sR) s (by have:=tz.out;have:=(c.pre 0 j).2;rw[b6,b6,xu];omega));have rQ:=j8 s;have aY:xN (wr.alloc (.cells (xl yI).toArray 42)) wr.heap.size 32=true:=za (heap_alloc_new wr _) (uG _);subst N;clear W S bE sR bI gX hs;go_upto_region 25 with fail
      refine xm Q ?_;clear Q BI mY;go_wp2_with fail;refine d.mono ?_;rintro e wq ⟨rfl,o,f⟩;have Xe:=h_ (HBn.trans o)
      have Xf:Hid (WrAt b wq b (Y++beB 4 m++(q.refs.take (j+1)).flatMap (·.1))):=h_ (by
       rw[V.out,bT_,bB_,<-B8];exact f)
      clear o f d o3 r3;go_wp2;go_roundw
      case rel=>exact⟨j+1,by go_num,hlt,Xe,Xf⟩
      case measure=>simp[intOf];omega
     ·obtain rfl:j=m:=by omega
      have SP:q.refs.take j=q.refs:=by rw[HM.out];exact X3
      obtain⟨_,v,hr,ho⟩:=L.out;have hall:Y++beB 4 j++(q.refs.take j).flatMap (·.1)=recP q:=by
       rw[SP,Xg.out,Xd.out,CV.out,HM.out];simp only[recP,txB,E8,B8]
      rw[hall]at ho;have c3:=cell_of_row wr b 0 _ _ _ hr;simp only[v_]at c3;have HF:=h_ (And.intro (aq.trans ((ny.trans D.out).mono t.2)) (ho.base t.2));clear SP hr ho hall;go_wp2;go_ret;exact⟨HF.1,v,rfl,HF.2⟩
end
theorem ze (place:Nat->Option (Nat×Nat))(i v)(pre mid post new:List Value){rest}(b:place i=some (pre.length,mid.length))(hv:v.cells=new.toArray)(a:mid.length=new.length):
  Instr.fill place (pre++(mid++post)).toArray ((i,v) :: rest)=Instr.fill place (pre++(new++post)).toArray rest:=by
 rw[xC1 b (by rw[hv,T9,a]) (by simp),hv];congr 1;have h:=xG5 new 0 pre.length pre mid post rfl a;rw[<-Array.foldl_toList,Array.toList_zipIdx];exact h
def xDv (i:Nat):Option (Nat×Nat):=#[(0,32),(32,1),(33,1),(34,1),(35,1)][i]?
theorem yK3 (parts):prog.built 79 parts=Instr.fill xDv (xr qy) parts:=by kernel_rfl
theorem yI3 (w id a d s p):zl prog 79 w #[(0,.agg (xl id).toArray),(1,.int .i64 a),(2,.int .i64 d),(3,.int .i64 s),(4,.bool p)]=.ok (.value (.agg (xr ⟨id,a,d,s,p⟩))) w:=zo (by
 show prog.built 79 [(0,.agg (xl id).toArray),(1,.int .i64 a),(2,.int .i64 d),(3,.int .i64 s),(4,.bool p)]=_
 rw[yK3];have c:(xl qy.id).length=32:=xD _;have b:(xl id).length=32:=xD _;refine(ze xDv 0 (.agg (xl id).toArray) [] (xl qy.id) [.int .i64 0,.int .i64 0,.int .i64 0,.bool false] (xl id) (by rw[c];rfl) rfl (by rw[c,b])).trans ?_;refine(ze xDv 1 (.int .i64 a) (xl id) [.int .i64 0] [.int .i64 0,.int .i64 0,.bool false] [.int .i64 a] (by rw[b];rfl) rfl rfl).trans ?_;rw[show xl id++([.int .i64 a]++[.int .i64 0,.int .i64 0,.bool false])=(xl id++[.int .i64 a])++([.int .i64 0]++[.int .i64 0,.bool false]) by simp];refine(ze xDv 2 (.int .i64 d) (xl id++[.int .i64 a]) [.int .i64 0] [.int .i64 0,.bool false] [.int .i64 d] (by rw[b6,b];rfl) rfl rfl).trans ?_;rw[show (xl id++[.int .i64 a])++([.int .i64 d]++[.int .i64 0,.bool false])=(xl id++[.int .i64 a,.int .i64 d])++([.int .i64 0]++[.bool false]) by simp];refine(ze xDv 3 (.int .i64 s) (xl id++[.int .i64 a,.int .i64 d]) [.int .i64 0] [.bool false] [.int .i64 s] (by rw[b6,b];rfl) rfl rfl).trans ?_;rw[show (xl id++[.int .i64 a,.int .i64 d])++([.int .i64 s]++[.bool false])=(xl id++[.int .i64 a,.int .i64 d,.int .i64 s])++([.bool false]++[]) by simp]
 refine(ze xDv 4 (.bool p) (xl id++[.int .i64 a,.int .i64 d,.int .i64 s]) [.bool false] [] [.bool p] (by rw[b6,b];rfl) rfl rfl).trans ?_;rw[show (xl id++[.int .i64 a,.int .i64 d,.int .i64 s])++([.bool p]++[])=qD ⟨id,a,d,s,p⟩ by simp[qD]];rfl)
theorem xMc (ρ:Operand->Value)(d f e c b a)(ty:TypeId)(pos af gd w):
  Sem.run prog (execOp ρ ⟨d,.build 79 #[(0,f),(1,e),(2,c),(3,b),(4,a)],ty,pos,af,gd⟩) w=zl prog 79 w #[(0,ρ f),(1,ρ e),(2,ρ c),(3,ρ b),(4,ρ a)]:=by kernel_rfl
def xA5 (i:Nat):Option (Nat×Nat):=#[(0,1),(1,32),(33,1),(34,1),(35,1),(36,1),(37,1)][i]?
theorem yK2 (parts):prog.built 70 parts=Instr.fill xA5 (x9 xK) parts:=by kernel_rfl
theorem yG7 (w g)(c:g.refs.cells=#[g.refs]):zl prog 70 w #[(0,.int .i64 g.number),(1,.agg (xl g.id).toArray),(2,.string g.name),(3,.int .i64 g.date),(4,.string g.subject),(5,g.refs),(6,.int .i64 g.bytes)]=.ok (.value (.agg (x9 g))) w:=zo (by
 show prog.built 70 [(0,.int .i64 g.number),(1,.agg (xl g.id).toArray),(2,.string g.name),(3,.int .i64 g.date),(4,.string g.subject),(5,g.refs),(6,.int .i64 g.bytes)]=_
 rw[yK2];have b:(xl xK.id).length=32:=xD _;have a:(xl g.id).length=32:=xD _;generalize d:xl g.id=E at *;refine(ze xA5 0 (.int .i64 g.number) [] [.int .i64 0] (xl xK.id++[.string ⟨#[]⟩,.int .i64 0,.string ⟨#[]⟩,.slice none 0 0,.int .i64 0]) [.int .i64 g.number] rfl rfl rfl).trans ?_;refine(ze xA5 1 (.agg E.toArray) [.int .i64 g.number] (xl xK.id) [.string ⟨#[]⟩,.int .i64 0,.string ⟨#[]⟩,.slice none 0 0,.int .i64 0] E (by rw[b];rfl) rfl (by rw[b,a])).trans ?_;rw[show [Value.int .i64 g.number]++(E++[.string ⟨#[]⟩,.int .i64 0,.string ⟨#[]⟩,.slice none 0 0,.int .i64 0])=([Value.int .i64 g.number]++E)++([.string ⟨#[]⟩]++[.int .i64 0,.string ⟨#[]⟩,.slice none 0 0,.int .i64 0]) by simp];refine(ze xA5 2 (.string g.name) ([.int .i64 g.number]++E) [.string ⟨#[]⟩] [.int .i64 0,.string ⟨#[]⟩,.slice none 0 0,.int .i64 0] [.string g.name] (by rw[b6,a];rfl) rfl rfl).trans ?_;rw[show ([Value.int .i64 g.number]++E)++([.string g.name]++[.int .i64 0,.string ⟨#[]⟩,.slice none 0 0,.int .i64 0])=([Value.int .i64 g.number]++E++[.string g.name])++([.int .i64 0]++[.string ⟨#[]⟩,.slice none 0 0,.int .i64 0]) by simp]
 refine(ze xA5 3 (.int .i64 g.date) ([.int .i64 g.number]++E++[.string g.name]) [.int .i64 0] [.string ⟨#[]⟩,.slice none 0 0,.int .i64 0] [.int .i64 g.date] (by rw[b6,b6,a];rfl) rfl rfl).trans ?_;rw[show ([Value.int .i64 g.number]++E++[.string g.name])++([.int .i64 g.date]++[.string ⟨#[]⟩,.slice none 0 0,.int .i64 0])=([Value.int .i64 g.number]++E++[.string g.name,.int .i64 g.date])++([.string ⟨#[]⟩]++[.slice none 0 0,.int .i64 0]) by simp];refine(ze xA5 4 (.string g.subject) ([.int .i64 g.number]++E++[.string g.name,.int .i64 g.date]) [.string ⟨#[]⟩] [.slice none 0 0,.int .i64 0] [.string g.subject] (by rw[b6,b6,a];rfl) rfl rfl).trans ?_;rw[show ([Value.int .i64 g.number]++E++[.string g.name,.int .i64 g.date])++([.string g.subject]++[.slice none 0 0,.int .i64 0])=([Value.int .i64 g.number]++E++[.string g.name,.int .i64 g.date,.string g.subject])++([Value.slice none 0 0]++[.int .i64 0]) by simp];refine(ze xA5 5 g.refs ([.int .i64 g.number]++E++[.string g.name,.int .i64 g.date,.string g.subject]) [.slice none 0 0] [.int .i64 0] [g.refs] (by rw[b6,b6,a];rfl) c rfl).trans ?_
 rw[show ([Value.int .i64 g.number]++E++[.string g.name,.int .i64 g.date,.string g.subject])++([g.refs]++[Value.int .i64 0])=([Value.int .i64 g.number]++E++[.string g.name,.int .i64 g.date,.string g.subject,g.refs])++([Value.int .i64 0]++[]) by simp];refine(ze xA5 6 (.int .i64 g.bytes) ([.int .i64 g.number]++E++[.string g.name,.int .i64 g.date,.string g.subject,g.refs]) [.int .i64 0] [] [.int .i64 g.bytes] (by rw[b6,b6,a];rfl) rfl rfl).trans ?_;rw[show ([Value.int .i64 g.number]++E++[.string g.name,.int .i64 g.date,.string g.subject,g.refs])++([.int .i64 g.bytes]++[])=xL g by rw[<-d];simp[xL]];rfl)
def xZd (i:Nat):Option (Nat×Nat):=#[(0,40),(40,1)][i]?
theorem yK1 (parts):prog.built 93 parts=Instr.fill xZd (yP ut++[Value.slice none 0 0]).toArray parts:=by kernel_rfl
theorem xYp (w a):zl prog 93 w #[(0,.agg (xA a))]=.ok (.value (.agg (yP a++[Value.slice none 0 0]).toArray)) w:=zo (by
 show prog.built 93 [(0,.agg (xA a))]=_
 rw[yK1];exact ze xZd 0 (.agg (xA a)) [] (yP ut) [.slice none 0 0] (yP a) (by rw[yZ];rfl) rfl (by rw[yZ,yZ]))
theorem xC9 (ρ:Operand->Value)(d a)(ty:TypeId)(pos af gd w):
  Sem.run prog (execOp ρ ⟨d,.build 93 #[(0,a)],ty,pos,af,gd⟩) w=zl prog 93 w #[(0,ρ a)]:=by kernel_rfl
def xZc (i:Nat):Option (Nat×Nat):=#[(0,32)][i]?
theorem yK0 (parts):prog.built 97 parts=Instr.fill xZc (xl yI).toArray parts:=by kernel_rfl
theorem yG5 (w id):zl prog 97 w #[(0,.agg (xl id).toArray)]=.ok (.value (.agg (xl id).toArray)) w:=zo (by
 show prog.built 97 [(0,.agg (xl id).toArray)]=_
 rw[yK0];have h:=ze xZc 0 (.agg (xl id).toArray) [] (xl yI) [] (xl id) (rest:=[]) (by rw[xD];rfl) rfl (by rw[xD,xD]);simp only[E8,G5]at h;exact h)
theorem xDm (ρ:Operand->Value)(d a)(ty:TypeId)(pos af gd w):
  Sem.run prog (execOp ρ ⟨d,.build 97 #[(0,a)],ty,pos,af,gd⟩) w=zl prog 97 w #[(0,ρ a)]:=by kernel_rfl
end Go.Proofs.YtdhapkeimaljfaaGreatDoor
