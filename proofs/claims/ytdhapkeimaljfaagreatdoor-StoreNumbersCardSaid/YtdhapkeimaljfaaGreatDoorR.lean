/- The law StoreNumbers of bulletinlaw29 holds for every input. -/
import Derived.Test.YtdhapkeimaljfaaGreatDoorRL6
import Derived.OpenShut
import Derived.SizedLaws
import Derived.ChangeArms
import Derived.Test.YtdhapkeimaljfaaGreatDoorCards
import Derived.Test.YtdhapkeimaljfaaGreatDoorTie
import Derived.ProofKit
import Derived.Lay
import Derived.LaidSub
import Derived.Deep.DeepHandedRow
import Derived.Lib.LaidTab
import Derived.Shelf.Vars
set_option maxRecDepth 100000
set_option linter.all false
set_option maxHeartbeats 8000000
namespace Go.Proofs.YtdhapkeimaljfaaGreatDoor
open Go Go.RowKit Go.Proofs Tryz
theorem f0{w:World}{g}(j){cs t fr}(h:w.heap[g]?=some (.cells cs t fr)):w.cell? ⟨g,j,none⟩=cs[j]?:=cell_of_row w g j cs t fr h
theorem f1{w:World}{g}(j){cs t}(h:w.heap[g]?=some (.cells cs t (0,0))):w.frozen? ⟨g,j,none⟩=false:=frozen_of_row w g j cs t h
theorem f3{α:Type _}(x:α):∃y,y=x:=⟨_,rfl⟩
theorem f4(w:World)(c t):∃x,x=w.alloc (.cells c t)/\x.heap[w.heap.size]?=some (.cells c t (0,0))/\Below w.heap.size w x:=⟨_,rfl,heap_alloc_new _ _,(Below.refl _ _).alloc (Nat.le_refl _) _⟩
section
variable {w W:World} {p q:Nat} {X Y:Art} {a b c d:Value} {e f:List ByteArray} {i j:List Id32}
theorem AsS.new (h:AsS w p q X Y a b c d e f i j W)(k T):∃W',Hid (W'=W.alloc (.cells k T))/\Hid (AsS w p q X Y a b c d e f i j W')/\Hid (ElS W' a b W.heap.size k T)/\Hid (ElS W' c d W.heap.size k T):=
 ⟨_,h_ rfl,h_ (h.alloc _),h_ (ElS.new h.o1 h.o2 _ _),h_ (ElS.new h.o3 h.o4 _ _)⟩
theorem AsS.fin36 (h:AsS w p q X Y a b c d e f i j W)(t:p≠q)(u v):W.cell? ⟨p,36,none⟩=some X.groups/\W.frozen? ⟨p,36,none⟩=false/\(W.setCell ⟨p,36,none⟩ u).cell? ⟨q,36,none⟩=some Y.groups/\(W.setCell ⟨p,36,none⟩ u).frozen? ⟨q,36,none⟩=false/\Hid (AsS w p q {X with groups:=u} {Y with groups:=v} a b c d e f i j ((W.setCell ⟨p,36,none⟩ u).setCell ⟨q,36,none⟩ v)):=
 have s:=h.setX t (yG9 _ u)
 ⟨h.ced36.1,f1 36 h.hx,s.ced36.2,f1 36 s.hy,h_ (s.setY t (yG9 _ v))⟩
theorem AsS.fin38 (h:AsS w p q X Y a b c d e f i j W)(t:p≠q)(u v):W.cell? ⟨p,38,none⟩=some X.refs/\W.frozen? ⟨p,38,none⟩=false/\(W.setCell ⟨p,38,none⟩ u).cell? ⟨q,38,none⟩=some Y.refs/\(W.setCell ⟨p,38,none⟩ u).frozen? ⟨q,38,none⟩=false/\Hid (AsS w p q {X with refs:=u} {Y with refs:=v} a b c d e f i j ((W.setCell ⟨p,38,none⟩ u).setCell ⟨q,38,none⟩ v)):=
 have s:=h.setX t (yG8 _ u)
 ⟨h.ced38.1,f1 38 h.hx,s.ced38.2,f1 38 s.hy,h_ (s.setY t (yG8 _ v))⟩
end
def bV_:=@List.getElem_of_mem
def bC_:=@DataW.trod_int
def bK_:=@DataW.trod_slice
def bD_:=@World.cells?_some
def ck_:=@World.cell?_spot
def be_:=@DataW.trod_string
def bW_:=@List.getElem?_range
def bE_:=@DataW.weights_mem_each
section
def xJi:=lx_ 49
def xGp:=sx_ 49
def yEt:=@yh prog 49 40 isAgg49 sizeOf49
def yDg:=@yk prog 49 40 (by kernel_rfl)
theorem xGt (ρ:Operand->Value)(d)(ty:TypeId)(pos af g w):
  Sem.run prog (execOp ρ ⟨d,.alloc 49,ty,pos,af,g⟩) w=.ok (.value (.pointer (some ⟨w.heap.size,0,none⟩))) (w.alloc (.cells (xA ut) 49)):=by kernel_rfl
def xVh:=lx_ 41
def yJp:=@yh prog 41 32 isAgg41 sizeOf41
theorem xRv (ρ:Operand->Value)(d a)(ty:TypeId)(pos af gd w):
  Sem.run prog (execOp ρ ⟨d,.build 41 #[(0,a)],ty,pos,af,gd⟩) w=zl prog 41 w #[(0,ρ a)]:=by kernel_rfl
theorem yKd (w k):zl prog 41 w #[(0,.int .u8 k.toNat)]=.ok (.value (.agg (xl (idN k)).toArray)) w:=zo (by kernel_rfl)
theorem xE6 {id}(i v u pre post){rest}(b:qO i=some (32+pre.length,1))(hv:v.cells=#[v]):
  Instr.fill qO (xl id++(pre++u :: post)).toArray ((i,v) :: rest)=Instr.fill qO (xl id++(pre++v :: post)).toArray rest:=by
 have a:(xl id).length=32:=xD _;have h:=ze qO i v (xl id++pre) [u] post [v] (rest:=rest) (by rw[b6,a];exact b) (by rw[hv]) rfl;rw[B8,B8]at h;exact h
theorem xPb (id t n s d a p):Instr.fill qO (xA ut) [(0,.agg (xl id).toArray),(1,.string t),(2,.string n),(3,.int .i64 d),(4,.int .i64 a),(6,.string s),(8,.bool p)]=some (xA ⟨id,t,n,d,a,.slice none 0 0,s,.slice none 0 0,p⟩):=by
 have b:(xl ut.id).length=32:=xD _;have c:(xl id).length=32:=xD _;refine(ze qO 0 (.agg (xl id).toArray) [] (xl ut.id) [.string ⟨#[]⟩,.string ⟨#[]⟩,.int .i64 0,.int .i64 0,.slice none 0 0,.string ⟨#[]⟩,.slice none 0 0,.bool false] (xl id) (by rw[b];rfl) rfl (by rw[b,c])).trans ?_;refine(xE6 1 (.string t) (.string ⟨#[]⟩) [] [.string ⟨#[]⟩,.int .i64 0,.int .i64 0,.slice none 0 0,.string ⟨#[]⟩,.slice none 0 0,.bool false] rfl rfl).trans ?_;refine(xE6 2 (.string n) (.string ⟨#[]⟩) [.string t] [.int .i64 0,.int .i64 0,.slice none 0 0,.string ⟨#[]⟩,.slice none 0 0,.bool false] rfl rfl).trans ?_;refine(xE6 3 (.int .i64 d) (.int .i64 0) [.string t,.string n] [.int .i64 0,.slice none 0 0,.string ⟨#[]⟩,.slice none 0 0,.bool false] rfl rfl).trans ?_;refine(xE6 4 (.int .i64 a) (.int .i64 0) [.string t,.string n,.int .i64 d] [.slice none 0 0,.string ⟨#[]⟩,.slice none 0 0,.bool false] rfl rfl).trans ?_;refine(xE6 6 (.string s) (.string ⟨#[]⟩) [.string t,.string n,.int .i64 d,.int .i64 a,.slice none 0 0] [.slice none 0 0,.bool false] rfl rfl).trans ?_;refine(xE6 8 (.bool p) (.bool false) [.string t,.string n,.int .i64 d,.int .i64 a,.slice none 0 0,.string s,.slice none 0 0] [] rfl rfl).trans ?_
 rfl
theorem yHz (parts):prog.built 49 parts=Instr.fill qO (xA ut) parts:=by kernel_rfl
theorem xNv (ρ:Operand->Value)(d h g f e c b a)(ty:TypeId)(pos af gd w):
  Sem.run prog (execOp ρ ⟨d,.build 49 #[(0,h),(1,g),(2,f),(3,e),(4,c),(6,b),(8,a)],ty,pos,af,gd⟩) w=zl prog 49 w #[(0,ρ h),(1,ρ g),(2,ρ f),(3,ρ e),(4,ρ c),(6,ρ b),(8,ρ a)]:=by kernel_rfl
theorem yI2 (w id t n s d a p):zl prog 49 w #[(0,.agg (xl id).toArray),(1,.string t),(2,.string n),(3,.int .i64 d),(4,.int .i64 a),(6,.string s),(8,.bool p)]=.ok (.value (.agg (xA ⟨id,t,n,d,a,.slice none 0 0,s,.slice none 0 0,p⟩))) w:=zo (by
 show prog.built 49 [(0,.agg (xl id).toArray),(1,.string t),(2,.string n),(3,.int .i64 d),(4,.int .i64 a),(6,.string s),(8,.bool p)]=_
 rw[yHz];exact xPb id t n s d a p)
theorem xNs (ρ:Operand->Value)(d h g f e c b a)(ty:TypeId)(pos af gd w):
  Sem.run prog (execOp ρ ⟨d,.build 46 #[(0,h),(1,g),(2,f),(3,e),(4,c),(6,b),(8,a)],ty,pos,af,gd⟩) w=zl prog 46 w #[(0,ρ h),(1,ρ g),(2,ρ f),(3,ρ e),(4,ρ c),(6,ρ b),(8,ρ a)]:=by kernel_rfl
theorem yI0 (w id t n s d a p):zl prog 46 w #[(0,.agg (xl id).toArray),(1,.string t),(2,.string n),(3,.int .i64 d),(4,.int .i64 a),(6,.string s),(8,.bool p)]=.ok (.value (.agg (xA ⟨id,t,n,d,a,.slice none 0 0,s,.slice none 0 0,p⟩))) w:=zo (by
 show prog.built 46 [(0,.agg (xl id).toArray),(1,.string t),(2,.string n),(3,.int .i64 d),(4,.int .i64 a),(6,.string s),(8,.bool p)]=_
 rw[yG0];exact xPb id t n s d a p)
theorem yC1 (ρ:Operand->Value)(d x)(ty:TypeId)(pos af g w):
  Sem.run prog (execOp ρ ⟨d,.buildSlice 47 1 #[(0,x)],ty,pos,af,g⟩) w=xCl prog 47 w (ρ x):=by kernel_rfl
theorem yK6 (w x):xCl prog 47 w (.agg (xl x).toArray)=.ok (.value (.slice (some ⟨w.heap.size,0,none⟩) 1 1)) (w.alloc (.cells (xl x).toArray 41)):=by
 obtain⟨b,c,d,a,e⟩:=info_parts Tryz.info_b32;unfold xCl
 rw[G9,run_buildSlice w 47 41 1 _ (xl x).toArray b _ underlying47 c d (by rw[a];decide) (by rw[a];decide) (by
  rw[a];exact xDg _ _ 32 (uG x) (by simp))]
 rfl
structure ArW (w5:World)(p3 p4:Nat) where
 val:World
 h3:val.heap[p3]?=w5.heap[p3]?
 h4:val.heap[p4]?=w5.heap[p4]?
theorem yB1 {P fn p q ty c n n2}(h:fn.results=#[.cell p ty,.cell q c])(j:∀w,Sem.run P (isAgg ty) w=.ok true w)(hs:∀w,Sem.run P (Go.sizeOf ty) w=.ok n w)(s:∀w,Sem.run P (isAgg c) w=.ok true w)(k:∀w,Sem.run P (Go.sizeOf c) w=.ok n2 w)
  (tmps) (w) (a b) (cs f) (i:tmps.getD p undef=.pointer (some a)) (hq:tmps.getD q undef=.pointer (some b)) (m:xp w a n=true) (l:xo w a n=cs) (r:xp w b n2=true) (o:xo w b n2=f):
  (results fn tmps).run P w=.ok (.tuple #[.agg cs,.agg f]) w:=by
 have g:tmps[p]?.getD undef=.pointer (some a):=by simpa using i
 have d:tmps[q]?.getD undef=.pointer (some b):=by simpa using hq
 have hl:(loadVar ty a).run P w=.ok (.agg cs) w:=by
  simp[loadVar,j,hs,yY w a n m,l]
 have e:(loadVar c b).run P w=.ok (.agg f) w:=by
  simp[loadVar,s,k,yY w b n2 r,o]
 simp[results,h,g,d,asAddr,hl,e]
attribute [local go_sem ↓] xVh xRv xJi xGp xGt xNv xNs qd uC qZ xVk yC1
attribute [local go_sem] yJp yKd yEt yDg yI2 yI0 xD7 xCu yIo yK6 xh xg xe xd xx xy xk xj xq xB xw
def yA9 (A:Art)(gs:List ByteArray)(ids:List Id32)(w:World)(e:Ending)(w':World):Prop:=∃X Y:Art,e=.returned (.tuple #[.agg (xA Y),.agg (xA X)])/\qL w' Y (artQ A gs ids)/\(∀k,Y.groups.ownBlock=some k\/Y.refs.ownBlock=some k->w.heap.size<=k)/\X.groups.oneCell'=true/\X.refs.oneCell'=true/\Below w.heap.size w w'
theorem xW6 {w}(A:Art)(gs ids)(h:xH7 w A gs ids):Calls prog 8 #[.agg (xA A)] w (yA9 A gs ids w):=by
 obtain⟨ga,gc,mg,CZ,cT⟩:=h.groups;obtain⟨ra,rc,oh,dK,sh⟩:=h.refs;have l_:=h_ (And.intro h.lg h.lr);have Bd:=h_ cT;have tw:=h_ sh;clear h cT sh;obtain⟨p,bQ⟩:=f3 (((w.alloc (.cells (xA A) 49)).alloc (.cells (xA ut) 46)).alloc (.cells (xA ut) 49));have ao:Below w.heap.size w p:=by grind
 have iq:p.heap.size=w.heap.size+3:=by grind
 have U:p.heap[w.heap.size]?=some (.cells (xA A) 49 (0,0)):=by grind
 have h1:p.heap[w.heap.size+1]?=some (.cells (xA ut) 46 (0,0)):=by grind
 have h2:p.heap[w.heap.size+1+1]?=some (.cells (xA ut) 49 (0,0)):=by grind
 obtain⟨a,rS⟩:=f3 w.heap.size;rw[<-rS]at U h1 h2;obtain⟨id,hid⟩:∃id,id=A.id:=⟨_,rfl⟩;obtain⟨tx,YF⟩:=f3 A.text;obtain⟨nm,C0⟩:=f3 A.name;obtain⟨sj,KK⟩:=f3 A.subj;obtain⟨dt,YG⟩:=f3 A.date;obtain⟨av,FS⟩:=f3 A.arr;obtain⟨pm,oW⟩:=f3 A.perm;have Rf:=(f0 32 U).trans (ar32 _);have Dv:=(f0 33 U).trans (ar33 _);have Aj:=(f0 34 U).trans (ar34 _);have Hi:=(f0 35 U).trans (ar35 _);have CM:=(f0 37 U).trans (ar37 _);have Rg:=(f0 39 U).trans (ar39 _);rw[<-YF]at Rf;rw[<-C0]at Dv;rw[<-YG]at Aj;rw[<-FS]at Hi;rw[<-KK]at CM;rw[<-oW]at Rg;obtain⟨oki,rdi⟩:=xF1 (l:=[]) (show p.heap[a]?=some (.cells (yP A++[]).toArray 49 (0,0)) by rw[G5];exact U);rw[<-hid]at rdi;have HQ:=h_ (And.intro hid (And.intro YF (And.intro C0 (And.intro KK (And.intro YG (And.intro FS oW))))));clear hid YF C0 KK YG FS oW;have z32:∀z:xf p,z.1.cell? ⟨a,32,none⟩=_:=λz=>z.cell Rf
 have z33:∀z:xf p,z.1.cell? ⟨a,33,none⟩=_:=λz=>z.cell Dv
 have z34:∀z:xf p,z.1.cell? ⟨a,34,none⟩=_:=λz=>z.cell Aj
 have z35:∀z:xf p,z.1.cell? ⟨a,35,none⟩=_:=λz=>z.cell Hi
 have z37:∀z:xf p,z.1.cell? ⟨a,37,none⟩=_:=λz=>z.cell CM
 have z39:∀z:xf p,z.1.cell? ⟨a,39,none⟩=_:=λz=>z.cell Rg
 have z0:∀z:xf p,xp z.1 ⟨a,0,none⟩ 32=true:=λz=>xf.ok oki z
 have z1:∀z:xf p,xo z.1 ⟨a,0,none⟩ 32=(xl id).toArray:=λz=>(xf.rd oki z).trans rdi
 have aJ:=h_ ao;have i7:Hid (p.heap.size=a+3):=h_ (by rw[iq,rS]);have H0:=h_ U;have H1:=h_ h1;have H2:=h_ h2;have Xj:=h_ mg;have BV:=h_ oh;have Lp:=h_ CZ;have oK:=h_ dK;clear ao iq U h1 h2 Rf Dv Aj Hi CM Rg oki rdi mg oh CZ dK;go_enter func8,ntmps8;go_upto_region 1 with fail
 refine xm bQ ?_;rw[<-rS];have YH:Hid (w.heap.size=a):=h_ rS.symm;clear bQ rS;refine zh [0,1,2,3,4,5,6,7,8,9,10,11,12,13,14,15,16,17,18,19,20,21,22,23,24,25,26,27,28,29] [30,31] 2 (λw'=>∃z:xf p,w'=z.1) ⟨⟨p.drew,(z_ _ _).drew⟩,rfl⟩ ?_;simp only[o_]
 repeat (go_big_quiet_step (fail))
 refine wpQuiet_nil ?_;rw[show tx.extract 0 (min (tx.size:Int) 300).toNat=cutS 300 tx from rfl,show nm.extract 0 (min (nm.size:Int) 100).toNat=cutS 100 nm from rfl,show sj.extract 0 (min (sj.size:Int) 250).toNat=cutS 250 sj from rfl];clear z32 z33 z34 z35 z37 z39 z0 z1;obtain⟨X,hX⟩:∃X:Art,X=⟨id,cutS 300 tx,cutS 100 nm,dt,av,.slice none 0 0,cutS 250 sj,.slice none 0 0,pm⟩:=⟨_,rfl⟩;rw[<-hX];have ir:xt 40 (xA X)=true:=vA (by rw[hX];rfl) (by rw[hX];rfl);have HX:=h_ hX;clear hX;have si:((xA ut).size==40)=true:=by rw[yt];rfl
 obtain⟨I,cY⟩:=f3 (p.alloc (.cells (xA X) 49)).drew;refine xBp [30,31] ?_;refine yo true ?_;simp only[o_];go_wp2;refine⟨λ_=>⟨⟨_,((z_ p.heap.size p).alloc (w_ _) _).drew⟩,rfl⟩,yE ?_⟩;simp only[o_];go_wp2;refine T_ ?_;rw[<-cY];have iR:Below p.heap.size p I:=by rw[cY];exact((z_ _ _).alloc (w_ _) _).drew
 obtain⟨d,lk⟩:=f3 p.heap.size;have h4:I.heap[d]?=some (.cells (xA X) 49 (0,0)):=by rw[cY,lk];exact heap_alloc_new p _
 rw[<-lk];clear cY;have Rf:=(f0 32 h4).trans (ar32 _);have Dv:=(f0 33 h4).trans (ar33 _);have Aj:=(f0 34 h4).trans (ar34 _);have Hi:=(f0 35 h4).trans (ar35 _);have CM:=(f0 37 h4).trans (ar37 _);have Rg:=(f0 39 h4).trans (ar39 _);obtain⟨oki,rdi⟩:=xF1 (l:=[]) (show I.heap[d]?=some (.cells (yP X++[]).toArray 49 (0,0)) by rw[G5];exact h4);have HXE:Hid (X=⟨X.id,X.text,X.name,X.date,X.arr,.slice none 0 0,X.subj,.slice none 0 0,X.perm⟩):=h_ (by rw[HX.out]);have BH:xt 40 (xA ⟨X.id,X.text,X.name,X.date,X.arr,.slice none 0 0,X.subj,.slice none 0 0,X.perm⟩)=true:=vA rfl rfl;obtain⟨B,cC⟩:=f3 (I.alloc (.cells (xA X) 46));have nR:Below I.heap.size I B:=by rw[cC];exact b_ _ _
 obtain⟨g,Ed⟩:=f3 I.heap.size;have h5:B.heap[g]?=some (.cells (xA X) 46 (0,0)):=by rw[cC,Ed];exact heap_alloc_new I _
 have Rh:d<I.heap.size:=(i_ h4).1;have EA:=iR.size;have Ci:Below p.heap.size p B:=iR.trans (nR.mono EA);have bR:=h_ (aJ.trans (Ci.mono aJ.size));have iq:=i7.out;have H50:=h_ ((Ci.block a (by omega)).trans H0.out);have H51:=h_ ((Ci.block (a+1) (by omega)).trans H1.out);have H52:=h_ ((Ci.block (a+1+1) (by omega)).trans H2.out);have L:Hid (a+3=d/\d<g/\g<B.heap.size):=h_ ⟨by omega,by omega,(i_ h5).1⟩
 have Qj:Hid (AsS B d g X X (.slice none 0 0) (.slice none 0 0) (.slice none 0 0) (.slice none 0 0) [] [] [] [] B):=h_
  ⟨Kept.of_below (z_ _ _),(nR.block d Rh).trans h4,h5,D1 _ _ _ _,D1 _ _ _ _,D1 _ _ _ _,D1 _ _ _ _,λk e=>by cases e⟩
 have iE:=h_ Ed;have Js:=h_ cC;clear iR nR Ci h4 h5 Rh EA iq H0 H1 H2 lk Ed cC;go_upto_region 3 with fail
 rw[<-HXE.out,<-Js.out,<-iE.out];clear Js iE HXE Rf Dv Aj Hi CM Rg oki rdi;have ov:=(f0 36 H50.out).trans (ar36 _);have GB:=(f0 38 H50.out).trans (ar38 _);rw[Xj.out]at ov;rw[BV.out]at GB;obtain⟨n,hn⟩:=f3 gs.length;rw[<-hn]at ov;have hnc:=Lp.out;have nZ:(n:Int)<=140737488355328:=by have:=l_.1;omega
 rw[<-hn]at hnc;have hncz:(n:Int)<=gc:=by omega
 have HN:=h_ hn;have Ko:=h_ ov;have Ri:=h_ GB;clear ov GB Xj BV hn hnc Lp;obtain⟨i0,hi0,bf,aP,be⟩:=info_parts Tryz.info_str;have P:Hid (prog.underlying 43=some (.slice 9)/\_/\_/\_/\_/\(Value.string ⟨#[]⟩).cells.size=1/\0<1/\16<=32):=h_ ⟨underlying43,hi0,bf,aP,be,rfl,by decide,by decide⟩
 have YI:Hid (AsS B d g {X with groups:=.slice none 0 0} {X with groups:=.slice none 0 0} (.slice none 0 0) (.slice none 0 0) (.slice none 0 0) (.slice none 0 0) [] [] [] [] B):=h_ (by
  have e:{X with groups:=Value.slice none 0 0}=X:=by rw[HX.out]
  rw[e];exact Qj.out)
 clear hi0 bf aP be Qj si ir BH;go_wp2;go_loopw [6,7] (λi _ wr=>∃k:Nat,i=.int .i64 k/\k<=n/\k<=22/\Hid (∃S M,AsS B d g {X with groups:=S} {X with groups:=M} S M (.slice none 0 0) (.slice none 0 0) ((gs.take k).map (cutS 90)) ((gs.take k).map (cutS 90)) [] [] wr)) (λi _ _=>22-(intOf i).toNat)
 case atStart=>exact⟨0,rfl,n3 _,n3 _,h_ ⟨_,_,YI.out⟩⟩
 case round=>
  obtain⟨k,rfl,hk,hk22,HS⟩:=hrel;by_cases hlt:k<n/\k<22
  ·have aM:(k:Int)<n:=by omega
   have mT:(k:Int)<22:=by omega
   have aT:k<gs.length:=by rw[<-HN.out];exact hlt.1
   obtain⟨b,off,mg,az,ah⟩:=Bd.out (by intro e;rw[e]at aT;exact absurd aT (aY_ _));subst mg;obtain⟨S,M,o⟩:=HS.out;have hlk:((gs.take k).map (cutS 90)).length=k:=by rw[M5,x8];omega
   obtain⟨xa,xc,nW,fM⟩:=j0 o.o1;obtain⟨ya,yc,j_,eo⟩:=j0 o.o2;rw[hlk]at nW fM j_ eo;subst nW;subst j_;have wS:(k:Int)<=xc:=by omega
   have NV:(k:Int)<=yc:=by omega
   have Ah:Below w.heap.size w wr:=bR.trans (o.kept.below bR.size (λj hj=>by have:=L.out;have:=YH.out;simp at hj;omega));have EV:wr.cell? ⟨a,36,none⟩=some (.slice (some ⟨b,off,none⟩) n gc):=(J9 (o.kept.block a (by have:=L.out;omega) (by have:=L.out;simp;omega))).trans Ko.out;have ak:wr.cell? ⟨b,off+k,none⟩=some (.string gs[k]):=(Ah.cell az).trans (ah k _ (U_ aT));have cD:Hid (gs.take (k+1)=gs.take k++[gs[k]]):=h_ (d0 aT);generalize gs[k]=s at ak cD;have HA:=h_ o;have Dd:=h_ hlk;have px:=hlt.2
   haveI:Nonempty (CeT ⟨a,36,none⟩ ⟨b,off+k,none⟩ (.slice (some ⟨b,off,none⟩) n gc) (.string s)):=⟨⟨wr,EV,ak⟩⟩
   have y0:∀z:CeT ⟨a,36,none⟩ ⟨b,off+k,none⟩ (.slice (some ⟨b,off,none⟩) n gc) (.string s),z.1.cell? ⟨a,36,none⟩=some (.slice (some ⟨b,off,none⟩) n gc):=λz=>z.2.1
   have y1:∀z:CeT ⟨a,36,none⟩ ⟨b,off+k,none⟩ (.slice (some ⟨b,off,none⟩) n gc) (.string s),z.1.cell? ⟨b,off+k,none⟩=some (.string s):=λz=>z.2.2
   have HY:Hid (wr.cell? ⟨a,36,none⟩=some (.slice (some ⟨b,off,none⟩) n gc)/\wr.cell? ⟨b,off+k,none⟩=some (.string s)):=h_ ⟨EV,ak⟩;clear aT az ah o hlk Ah ak HS hlt fM eo;go_upto_region 6 with fail
   clear EV;refine zh [0,1,2,3,4,5,6,7,8,9,10,11,12] [13] 1 (λw'=>∃z:CeT ⟨a,36,none⟩ ⟨b,off+k,none⟩ (.slice (some ⟨b,off,none⟩) n gc) (.string s),w'=z.1) ⟨⟨wr.drew,HY.out⟩,rfl⟩ ?_;simp only[o_]
   repeat (go_big_quiet_step (fail))
   refine wpQuiet_nil ?_;clear y0 y1;rw[show s.extract 0 (min (s.size:Int) 90).toNat=cutS 90 s from rfl];obtain⟨c,hc⟩:=f3 (cutS 90 s);rw[<-hc];have HCC:=h_ hc;clear hc;refine xBp [13] (yE ?_);simp only[o_];go_wp2;refine T_ ?_;go_upto_region 7 with fail
   have z0:∀z:CeT ⟨d,36,none⟩ ⟨g,36,none⟩ (.slice xa k xc) (.slice ya k yc),z.1.cell? ⟨d,36,none⟩=some (.slice xa k xc):=λz=>z.2.1
   have z1:∀z:CeT ⟨d,36,none⟩ ⟨g,36,none⟩ (.slice xa k xc) (.slice ya k yc),z.1.cell? ⟨g,36,none⟩=some (.slice ya k yc):=λz=>z.2.2
   haveI:Nonempty (CeT ⟨d,36,none⟩ ⟨g,36,none⟩ (.slice xa k xc) (.slice ya k yc)):=⟨⟨wr,HA.ced36⟩⟩
   refine zh [0,1,2,5,6,7] [3,4,8,9,10,11,12,13] 8 (λw'=>∃z:CeT ⟨d,36,none⟩ ⟨g,36,none⟩ (.slice xa k xc) (.slice ya k yc),w'=z.1) ⟨⟨wr.drew.drew,HA.ced36⟩,rfl⟩ ?_;simp only[o_]
   repeat (go_big_quiet_step (fail))
   refine wpQuiet_nil ?_;clear z0 z1;generalize GZ:wr.drew.drew=W0;obtain⟨G,hG⟩:=f3 ((gs.take k).map (cutS 90));have J:Hid ((gs.take (k+1)).map (cutS 90)=G++[c]):=h_ (by rw[cD.out,L8,t8,aA_,<-HCC.out,hG]);have C:Hid ((G.length)<=22):=h_ (by rw[hG,Dd.out];exact T8 px);have cL:Hid (([.string c]:List Value).length=1/\∀u∈([.string c]:List Value),u.oneCell'=true):=h_ ⟨rfl,λu hu=>by rw[S_.1 hu];rfl⟩;have Ck:Hid (AsS B d g {X with groups:=.slice xa k xc} {X with groups:=.slice ya k yc} (.slice xa k xc) (.slice ya k yc) (.slice none 0 0) (.slice none 0 0) G G [] [] W0):=h_ (by rw[<-GZ,hG];exact HA.below (z_ _ _).drew.drew);have K:Hid (d≠g):=h_ (by have:=L.out;omega);clear GZ HA hG px;refine uZ 3 8 true true ?_ ?_
   ·simp only[o_];obtain⟨W_1,Kq,N,Cl,_⟩:=Ck.new [.string c].toArray 9;go_wp2;rw[<-Kq.out];refine⟨λ_=>⟨⟨_,N.ced36⟩,rfl⟩,?_⟩;refine uZ 4 8 true true ?_ ?_
    ·simp only[o_];go_wp2_with (at_builtin;refine uW P.out N.o1 C.out N.kept.size Cl.out cL.out rfl rfl rfl rfl ?_);intro sw sx sA W_2 h1 h2 h3;have O:=h_ (N.ag1 h1 h2 h3);clear h1 h2 h3;go_wp2;refine⟨λ_=>⟨⟨_,O.ced36⟩,rfl⟩,?_⟩;refine uZ 8 10 true true ?_ ?_
     ·simp only[o_];obtain⟨W_3,Kr,D,Cm,_⟩:=O.new [.string c].toArray 9;go_wp2;rw[<-Kr.out];refine⟨λ_=>⟨⟨_,D.ced36⟩,rfl⟩,?_⟩;refine uZ 9 10 false true ?_ ?_
      ·simp only[o_];go_wp2_with (at_builtin;refine uW P.out D.o2 C.out D.kept.size Cm.out cL.out rfl rfl rfl rfl ?_);intro Ks Kt Ku W_4 h1 h2 h3;have nU:=h_ (D.ag2 h1 h2 h3);clear h1 h2 h3;go_wp2;refine⟨λ_=>⟨⟨_,nU.ced36⟩,rfl⟩,?_⟩;refine uf 10 true ?_;simp only[o_];go_wp2;refine⟨λ_=>⟨⟨_,nU.ced36⟩,rfl⟩,?_⟩;refine zW (R:=[11,12,13]) ?_;simp only[o_];obtain⟨f,x,t3,t4,r⟩:=nU.fin36 K.out (.slice sw sx sA) (.slice Ks Kt Ku);simp only at f t3;go_wp2;refine T_ ?_;clear f x t3 t4;go_wp2;exact⟨⟨k+1,by go_num,by omega,by omega,h_ ⟨_,_,by rw[J.out];exact r.out⟩⟩,by simp[intOf];omega⟩
      ·simp only[o_];go_wp2;refine⟨λ_=>⟨⟨_,D.ced36⟩,rfl⟩,?_⟩;refine uf 9 false ?_;simp only[o_];go_wp2_with (at_builtin;refine uW P.out D.o2 C.out D.kept.size Cm.out cL.out rfl rfl rfl rfl ?_);intro Kv Kw Kx W_8 h1 h2 h3;have wl:=h_ (D.ag2 h1 h2 h3);clear h1 h2 h3;go_wp2;refine⟨λ_=>⟨⟨_,wl.ced36⟩,rfl⟩,?_⟩;refine zW (R:=[11,12,13]) ?_;simp only[o_];obtain⟨f,x,t3,t4,r⟩:=wl.fin36 K.out (.slice sw sx sA) (.slice Kv Kw Kx);simp only at f t3;go_wp2;refine T_ ?_;clear f x t3 t4;go_wp2;exact⟨⟨k+1,by go_num,by omega,by omega,h_ ⟨_,_,by rw[J.out];exact r.out⟩⟩,by simp[intOf];omega⟩
     ·simp only[o_];go_wp2;refine⟨λ_=>⟨⟨_,O.ced36⟩,rfl⟩,?_⟩;refine uf 8 true ?_;simp only[o_];obtain⟨YJ,Cn,eZ,Co,_⟩:=O.new [.string c].toArray 9;go_wp2;rw[<-Cn.out];refine⟨λ_=>⟨⟨_,eZ.ced36⟩,rfl⟩,?_⟩;refine uf 9 false ?_;simp only[o_];go_wp2_with (at_builtin;refine uW P.out eZ.o2 C.out eZ.kept.size Co.out cL.out rfl rfl rfl rfl ?_);intro Cp Cq Cr YK h1 h2 h3;have m6:=h_ (eZ.ag2 h1 h2 h3);clear h1 h2 h3;go_wp2;refine⟨λ_=>⟨⟨_,m6.ced36⟩,rfl⟩,?_⟩;refine zW (R:=[11,12,13]) ?_;simp only[o_];obtain⟨f,x,t3,t4,r⟩:=m6.fin36 K.out (.slice sw sx sA) (.slice Cp Cq Cr);simp only at f t3;go_wp2;refine T_ ?_;clear f x t3 t4;go_wp2;exact⟨⟨k+1,by go_num,by omega,by omega,h_ ⟨_,_,by rw[J.out];exact r.out⟩⟩,by simp[intOf];omega⟩
    ·simp only[o_];obtain⟨YL,py,e_,Cs,_⟩:=N.new [.string c].toArray 9;have gu:=Cl.alloc (.cells [.string c].toArray 9);rw[<-py.out]at gu;replace gu:=h_ gu;go_wp2;rw[<-py.out];refine⟨λ_=>⟨⟨_,e_.ced36⟩,rfl⟩,?_⟩;refine uf 4 true ?_;simp only[o_];go_wp2_with (at_builtin;refine uW P.out e_.o1 C.out e_.kept.size gu.out cL.out rfl rfl rfl rfl ?_);intro pz pA pC YM h1 h2 h3;have H:=h_ (e_.ag1 h1 h2 h3);have pD:=h_ (Cs.grow1 h2 h3);clear h1 h2 h3;go_wp2;refine⟨λ_=>⟨⟨_,H.ced36⟩,rfl⟩,?_⟩;refine uZ 9 10 false true ?_ ?_
     ·simp only[o_];go_wp2_with (at_builtin;refine uW P.out H.o2 C.out H.kept.size pD.out cL.out rfl rfl rfl rfl ?_);intro Ct Cu Cv YN h1 h2 h3;have gw:=h_ (H.ag2 h1 h2 h3);clear h1 h2 h3;go_wp2;refine⟨λ_=>⟨⟨_,gw.ced36⟩,rfl⟩,?_⟩;refine uf 10 true ?_;simp only[o_];go_wp2;refine⟨λ_=>⟨⟨_,gw.ced36⟩,rfl⟩,?_⟩;refine zW (R:=[11,12,13]) ?_;simp only[o_];obtain⟨f,x,t3,t4,r⟩:=gw.fin36 K.out (.slice pz pA pC) (.slice Ct Cu Cv);simp only at f t3;go_wp2;refine T_ ?_;clear f x t3 t4;go_wp2;exact⟨⟨k+1,by go_num,by omega,by omega,h_ ⟨_,_,by rw[J.out];exact r.out⟩⟩,by simp[intOf];omega⟩
     ·simp only[o_];go_wp2;refine⟨λ_=>⟨⟨_,H.ced36⟩,rfl⟩,?_⟩;refine uf 9 false ?_;simp only[o_];go_wp2_with (at_builtin;refine uW P.out H.o2 C.out H.kept.size pD.out cL.out rfl rfl rfl rfl ?_);intro Cw Cx Cy YO h1 h2 h3;have m9:=h_ (H.ag2 h1 h2 h3);clear h1 h2 h3;go_wp2;refine⟨λ_=>⟨⟨_,m9.ced36⟩,rfl⟩,?_⟩;refine zW (R:=[11,12,13]) ?_;simp only[o_];obtain⟨f,x,t3,t4,r⟩:=m9.fin36 K.out (.slice pz pA pC) (.slice Cw Cx Cy);simp only at f t3;go_wp2;refine T_ ?_;clear f x t3 t4;go_wp2;exact⟨⟨k+1,by go_num,by omega,by omega,h_ ⟨_,_,by rw[J.out];exact r.out⟩⟩,by simp[intOf];omega⟩
   ·simp only[o_];obtain⟨YP,Cz,m_,CA,_⟩:=Ck.new [.string c].toArray 9;go_wp2;rw[<-Cz.out];refine⟨λ_=>⟨⟨_,m_.ced36⟩,rfl⟩,?_⟩;refine uf 3 true ?_;simp only[o_];obtain⟨YQ,pE,V,CB,_⟩:=m_.new [.string c].toArray 9;have gy:=CA.alloc (.cells [.string c].toArray 9);rw[<-pE.out]at gy;replace gy:=h_ gy;go_wp2;rw[<-pE.out];refine⟨λ_=>⟨⟨_,V.ced36⟩,rfl⟩,?_⟩;refine uf 4 true ?_;simp only[o_];go_wp2_with (at_builtin;refine uW P.out V.o1 C.out V.kept.size CB.out cL.out rfl rfl rfl rfl ?_);intro pF pG pH YR h1 h2 h3;have E:=h_ (V.ag1 h1 h2 h3);have pI:=h_ (gy.grow1 h2 h3);clear h1 h2 h3;go_wp2;refine⟨λ_=>⟨⟨_,E.ced36⟩,rfl⟩,?_⟩;refine uZ 9 10 false true ?_ ?_
    ·simp only[o_];go_wp2_with (at_builtin;refine uW P.out E.o2 C.out E.kept.size pI.out cL.out rfl rfl rfl rfl ?_);intro CC CD CE YS h1 h2 h3;have gz:=h_ (E.ag2 h1 h2 h3);clear h1 h2 h3;go_wp2;refine⟨λ_=>⟨⟨_,gz.ced36⟩,rfl⟩,?_⟩;refine uf 10 true ?_;simp only[o_];go_wp2;refine⟨λ_=>⟨⟨_,gz.ced36⟩,rfl⟩,?_⟩;refine zW (R:=[11,12,13]) ?_;simp only[o_];obtain⟨f,x,t3,t4,r⟩:=gz.fin36 K.out (.slice pF pG pH) (.slice CC CD CE);simp only at f t3;go_wp2;refine T_ ?_;clear f x t3 t4;go_wp2;exact⟨⟨k+1,by go_num,by omega,by omega,h_ ⟨_,_,by rw[J.out];exact r.out⟩⟩,by simp[intOf];omega⟩
    ·simp only[o_];go_wp2;refine⟨λ_=>⟨⟨_,E.ced36⟩,rfl⟩,?_⟩;refine uf 9 false ?_;simp only[o_];go_wp2_with (at_builtin;refine uW P.out E.o2 C.out E.kept.size pI.out cL.out rfl rfl rfl rfl ?_);intro CF CG CH YT h1 h2 h3;have nf:=h_ (E.ag2 h1 h2 h3);clear h1 h2 h3;go_wp2;refine⟨λ_=>⟨⟨_,nf.ced36⟩,rfl⟩,?_⟩;refine zW (R:=[11,12,13]) ?_;simp only[o_];obtain⟨f,x,t3,t4,r⟩:=nf.fin36 K.out (.slice pF pG pH) (.slice CF CG CH);simp only at f t3;go_wp2;refine T_ ?_;clear f x t3 t4;go_wp2;exact⟨⟨k+1,by go_num,by omega,by omega,h_ ⟨_,_,by rw[J.out];exact r.out⟩⟩,by simp[intOf];omega⟩
  ·obtain⟨S,M,o⟩:=HS.out;have dW:gs.take k=gs.take 22:=by
    by_cases h9:k<n
    ·rw[show k=22 by omega]
    ·have h8:=HN.out;rw[v6 (by omega),v6 (by omega)]
   rw[dW]at o;obtain⟨lg,CQ⟩:=f3 ((gs.take 22).map (cutS 90));rw[<-CQ]at o;obtain⟨X1,iJ⟩:∃X1:Art,X1={X with groups:=S}:=⟨_,rfl⟩;obtain⟨X2,sN⟩:∃X2:Art,X2={X with groups:=M}:=⟨_,rfl⟩
   have iy:Hid (AsS B d g {X1 with refs:=.slice none 0 0} {X2 with refs:=.slice none 0 0} S M (.slice none 0 0) (.slice none 0 0) lg lg [] [] wr):=h_ (by
    have e1:{X1 with refs:=Value.slice none 0 0}={X with groups:=S}:=by rw[iJ,HX.out]
    have e2:{X2 with refs:=Value.slice none 0 0}={X with groups:=M}:=by rw[sN,HX.out]
    rw[e1,e2];exact o)
   have DU:=h_ iJ;have CY:=h_ sN;have YU:=h_ CQ;obtain⟨m,hm⟩:=f3 ids.length;have n4:(m:Int)<=140737488355328:=by have:=l_.2;omega
   have Du:(m:Int)<=rc:=by have:=oK.out;omega
   have HM:=h_ hm;have gY:Hid (B.cell? ⟨a,38,none⟩=some (.slice ra m rc)):=h_ (by rw[hm];exact Ri.out);obtain⟨i1,KS,rB,eT,BQ⟩:=info_parts Tryz.info_b32;have Lv:Hid (prog.underlying 47=some (.slice 41)/\_/\_/\_/\_/\(Value.agg (xl yI).toArray).cells.size=32/\0<32/\32<=32):=h_ ⟨underlying47,KS,rB,eT,BQ,rfl,by decide,by decide⟩;obtain⟨i2,oB,hl1,hl2,nH⟩:=info_parts Tryz.info_id;have s_:Hid (prog.underlying 44=some (.slice 42)/\_/\_/\_/\_/\(Value.agg (xl yI).toArray).cells.size=32/\0<32/\32<=32):=h_ ⟨underlying44,oB,hl1,hl2,nH,rfl,by decide,by decide⟩;have EV:wr.cell? ⟨a,36,none⟩=some (.slice ga n gc):=(J9 (o.kept.block a (by have:=L.out;omega) (by have:=L.out;simp;omega))).trans Ko.out;clear KS rB eT BQ oB hl1 hl2 nH hm CQ iJ sN o dW Ri oK Bd Ko HS HN P;by_cases h9:k<n
   case' pos=>
    have h9z:((k:Int)<(n:Int)):=by omega
    have h9y:¬ ((k:Int)<22):=by omega
   case' neg=>
    have e9:k=n:=by omega
    subst e9
   all_goals
    clear hlt h9;go_wp2;go_loopw [8] (λi wr=>∃j:Nat,i=.int .i64 j/\j<=m/\j<=22/\Hid (∃r1 r2,AsS B d g {X1 with refs:=r1} {X2 with refs:=r2} S M r1 r2 lg lg (ids.take j) (ids.take j) wr)) (λi _=>22-(intOf i).toNat)
    case atStart=>exact⟨0,rfl,n3 _,n3 _,h_ ⟨_,_,iy.out⟩⟩
    case round=>
     obtain⟨j,rfl,hj,hj22,HS⟩:=hrel;obtain⟨r1,r2,o⟩:=HS.out;have Rj:wr.cell? ⟨a,38,none⟩=some (.slice ra m rc):=(J9 (o.kept.block a (by have:=L.out;omega) (by have:=L.out;simp;omega))).trans gY.out;by_cases hlt:j<m/\j<22
     ·have aM:(j:Int)<m:=by omega
      have mT:(j:Int)<22:=by omega
      have iu:j<ids.length:=by rw[<-HM.out];exact hlt.1
      obtain⟨b,off,oh,az,ah⟩:=tw.out (by intro e;rw[e]at iu;exact absurd iu (aY_ _));subst oh;have YV:(ids.take j).length=j:=by rw[x8];omega
      obtain⟨xa,xc,nW,fM⟩:=j0 o.o3;obtain⟨ya,yc,j_,eo⟩:=j0 o.o4;rw[YV]at nW fM j_ eo;subst nW;subst j_;have wS:(j:Int)<=xc:=by omega
      have NV:(j:Int)<=yc:=by omega
      have cD:Hid (ids.take (j+1)=ids.take j++[ids[j]]):=h_ (d0 iu);have hid:=ah.rd iu;rw[getElem!_pos ids j iu]at hid;generalize ids[j]=s at hid cD
      have y:Hid (∀W,(W.cell? ⟨d,38,none⟩=some (.slice xa j xc)/\W.cell? ⟨g,38,none⟩=some (.slice ya j yc))->Kept [d,g] B W->∃z:CeU ⟨d,38,none⟩ ⟨g,38,none⟩ ⟨a,38,none⟩ ⟨b,off+j*32,none⟩ (.slice xa j xc) (.slice ya j yc) (.slice (some ⟨b,off,none⟩) m rc) s,W=z.1):=h_ (λW h1 h2=>by
       have fG:Below w.heap.size w W:=bR.trans (h2.below bR.size (λq hq=>by have:=L.out;have:=YH.out;simp at hq;omega));exact⟨⟨W,h1.1,h1.2,(J9 (h2.block a (by have:=L.out;omega) (by have:=L.out;simp;omega))).trans gY.out,xf.ok hid.1 ⟨W,fG⟩,(xf.rd hid.1 ⟨W,fG⟩).trans hid.2⟩,rfl⟩)
      haveI:Nonempty (CeU ⟨d,38,none⟩ ⟨g,38,none⟩ ⟨a,38,none⟩ ⟨b,off+j*32,none⟩ (.slice xa j xc) (.slice ya j yc) (.slice (some ⟨b,off,none⟩) m rc) s):=by
       obtain⟨z,_⟩:=y.out wr o.ced38 o.kept;exact⟨z⟩
      have z0:∀z:CeU ⟨d,38,none⟩ ⟨g,38,none⟩ ⟨a,38,none⟩ ⟨b,off+j*32,none⟩ (.slice xa j xc) (.slice ya j yc) (.slice (some ⟨b,off,none⟩) m rc) s,z.1.cell? ⟨d,38,none⟩=some (.slice xa j xc):=λz=>z.2.1
      have z1:∀z:CeU ⟨d,38,none⟩ ⟨g,38,none⟩ ⟨a,38,none⟩ ⟨b,off+j*32,none⟩ (.slice xa j xc) (.slice ya j yc) (.slice (some ⟨b,off,none⟩) m rc) s,z.1.cell? ⟨g,38,none⟩=some (.slice ya j yc):=λz=>z.2.2.1
      have z2:∀z:CeU ⟨d,38,none⟩ ⟨g,38,none⟩ ⟨a,38,none⟩ ⟨b,off+j*32,none⟩ (.slice xa j xc) (.slice ya j yc) (.slice (some ⟨b,off,none⟩) m rc) s,z.1.cell? ⟨a,38,none⟩=some (.slice (some ⟨b,off,none⟩) m rc):=λz=>z.2.2.2.1
      have z3:∀z:CeU ⟨d,38,none⟩ ⟨g,38,none⟩ ⟨a,38,none⟩ ⟨b,off+j*32,none⟩ (.slice xa j xc) (.slice ya j yc) (.slice (some ⟨b,off,none⟩) m rc) s,xp z.1 ⟨b,off+j*32,none⟩ 32=true:=λz=>z.2.2.2.2.1
      have z4:∀z:CeU ⟨d,38,none⟩ ⟨g,38,none⟩ ⟨a,38,none⟩ ⟨b,off+j*32,none⟩ (.slice xa j xc) (.slice ya j yc) (.slice (some ⟨b,off,none⟩) m rc) s,xo z.1 ⟨b,off+j*32,none⟩ 32=(xl s).toArray:=λz=>z.2.2.2.2.2
      have HA:=h_ o;have Dd:=h_ YV;have px:=hlt.2;clear iu az ah o YV HS hlt fM eo hid;go_upto_region 11 with fail
      clear Rj;refine zh [0,1,2,3,4,5,6,9,10,11,12,13,14,15] [7,8,16,17,18,19,20,21] 8 (λw'=>∃z:CeU ⟨d,38,none⟩ ⟨g,38,none⟩ ⟨a,38,none⟩ ⟨b,off+j*32,none⟩ (.slice xa j xc) (.slice ya j yc) (.slice (some ⟨b,off,none⟩) m rc) s,w'=z.1) (y.out wr.drew HA.ced38 (HA.kept.trans (Kept.of_below (F:=[]) (z_ _ _).drew) (λ_ h=>by cases h))) ?_;simp only[o_]
      repeat (go_big_quiet_step (fail))
      refine wpQuiet_nil ?_;clear z0 z1 z2 z3 z4;generalize GZ:wr.drew=W0;obtain⟨G,hG⟩:=f3 (ids.take j);have J:Hid (ids.take (j+1)=G++[s]):=h_ (by rw[cD.out,hG]);have C:Hid (G.length<=22):=h_ (by rw[hG,Dd.out];exact T8 px);have T:Hid ((xl s).length=32/\∀u∈xl s,u.oneCell'=true):=h_ ⟨xD s,zT s⟩;have Ck:Hid (AsS B d g {X1 with refs:=.slice xa j xc} {X2 with refs:=.slice ya j yc} S M (.slice xa j xc) (.slice ya j yc) lg lg G G W0):=h_ (by rw[<-GZ,hG];exact HA.below (z_ _ _).drew);have K:Hid (d≠g):=h_ (by have:=L.out;omega);clear GZ HA hG px;refine uZ 7 16 true true ?_ ?_
      ·simp only[o_];obtain⟨W_1,Kq,N,_,Cl⟩:=Ck.new (xl s).toArray 41;go_wp2;rw[<-Kq.out];refine⟨λ_=>y.out _ N.ced38 N.kept,?_⟩;refine uZ 8 16 true true ?_ ?_
       ·simp only[o_];go_wp2_with (at_builtin;refine uW Lv.out N.o3 C.out N.kept.size Cl.out T.out rfl rfl rfl rfl ?_);intro sw sx sA W_2 h1 h2 h3;have O:=h_ (N.ar1 h1 h2);clear h1 h2 h3;go_wp2;refine⟨λ_=>y.out _ O.ced38 O.kept,?_⟩;refine uZ 16 18 true true ?_ ?_
        ·simp only[o_];obtain⟨W_3,Kr,D,_,Cm⟩:=O.new (xl s).toArray 42;go_wp2;rw[<-Kr.out];refine⟨λ_=>y.out _ D.ced38 D.kept,?_⟩;refine uZ 17 18 false true ?_ ?_
         ·simp only[o_];go_wp2_with (at_builtin;refine uW s_.out D.o4 C.out D.kept.size Cm.out T.out rfl rfl rfl rfl ?_);intro Ks Kt Ku W_4 h1 h2 h3;have nU:=h_ (D.ar2 h1 h2);clear h1 h2 h3;go_wp2;refine⟨λ_=>y.out _ nU.ced38 nU.kept,?_⟩;refine uf 18 true ?_;simp only[o_];go_wp2;refine⟨λ_=>y.out _ nU.ced38 nU.kept,?_⟩;refine zW (R:=[19,20,21]) ?_;simp only[o_];obtain⟨f,x,t3,t4,r⟩:=nU.fin38 K.out (.slice sw sx sA) (.slice Ks Kt Ku);simp only at f t3;go_wp2;refine T_ ?_;clear f x t3 t4;go_wp2;exact⟨⟨j+1,by go_num,by omega,by omega,h_ ⟨_,_,by rw[J.out];exact r.out⟩⟩,by simp[intOf];omega⟩
         ·simp only[o_];go_wp2;refine⟨λ_=>y.out _ D.ced38 D.kept,?_⟩;refine uf 17 false ?_;simp only[o_];go_wp2_with (at_builtin;refine uW s_.out D.o4 C.out D.kept.size Cm.out T.out rfl rfl rfl rfl ?_);intro Kv Kw Kx W_8 h1 h2 h3;have wl:=h_ (D.ar2 h1 h2);clear h1 h2 h3;go_wp2;refine⟨λ_=>y.out _ wl.ced38 wl.kept,?_⟩;refine zW (R:=[19,20,21]) ?_;simp only[o_];obtain⟨f,x,t3,t4,r⟩:=wl.fin38 K.out (.slice sw sx sA) (.slice Kv Kw Kx);simp only at f t3;go_wp2;refine T_ ?_;clear f x t3 t4;go_wp2;exact⟨⟨j+1,by go_num,by omega,by omega,h_ ⟨_,_,by rw[J.out];exact r.out⟩⟩,by simp[intOf];omega⟩
        ·simp only[o_];go_wp2;refine⟨λ_=>y.out _ O.ced38 O.kept,?_⟩;refine uf 16 true ?_;simp only[o_];obtain⟨YJ,Cn,eZ,_,Co⟩:=O.new (xl s).toArray 42;go_wp2;rw[<-Cn.out];refine⟨λ_=>y.out _ eZ.ced38 eZ.kept,?_⟩;refine uf 17 false ?_;simp only[o_];go_wp2_with (at_builtin;refine uW s_.out eZ.o4 C.out eZ.kept.size Co.out T.out rfl rfl rfl rfl ?_);intro Cp Cq Cr YK h1 h2 h3;have m6:=h_ (eZ.ar2 h1 h2);clear h1 h2 h3;go_wp2;refine⟨λ_=>y.out _ m6.ced38 m6.kept,?_⟩;refine zW (R:=[19,20,21]) ?_;simp only[o_];obtain⟨f,x,t3,t4,r⟩:=m6.fin38 K.out (.slice sw sx sA) (.slice Cp Cq Cr);simp only at f t3;go_wp2;refine T_ ?_;clear f x t3 t4;go_wp2;exact⟨⟨j+1,by go_num,by omega,by omega,h_ ⟨_,_,by rw[J.out];exact r.out⟩⟩,by simp[intOf];omega⟩
       ·simp only[o_];obtain⟨YL,py,e_,_,Cs⟩:=N.new (xl s).toArray 42;have gu:=Cl.alloc (.cells (xl s).toArray 42);rw[<-py.out]at gu;replace gu:=h_ gu;go_wp2;rw[<-py.out];refine⟨λ_=>y.out _ e_.ced38 e_.kept,?_⟩;refine uf 8 true ?_;simp only[o_];go_wp2_with (at_builtin;refine uW Lv.out e_.o3 C.out e_.kept.size gu.out T.out rfl rfl rfl rfl ?_);intro pz pA pC YM h1 h2 h3;have H:=h_ (e_.ar1 h1 h2);have pD:=h_ (Cs.grow1 h2 h3);clear h1 h2 h3;go_wp2;refine⟨λ_=>y.out _ H.ced38 H.kept,?_⟩;refine uZ 17 18 false true ?_ ?_
        ·simp only[o_];go_wp2_with (at_builtin;refine uW s_.out H.o4 C.out H.kept.size pD.out T.out rfl rfl rfl rfl ?_);intro Ct Cu Cv YN h1 h2 h3;have gw:=h_ (H.ar2 h1 h2);clear h1 h2 h3;go_wp2;refine⟨λ_=>y.out _ gw.ced38 gw.kept,?_⟩;refine uf 18 true ?_;simp only[o_];go_wp2;refine⟨λ_=>y.out _ gw.ced38 gw.kept,?_⟩;refine zW (R:=[19,20,21]) ?_;simp only[o_];obtain⟨f,x,t3,t4,r⟩:=gw.fin38 K.out (.slice pz pA pC) (.slice Ct Cu Cv);simp only at f t3;go_wp2;refine T_ ?_;clear f x t3 t4;go_wp2;exact⟨⟨j+1,by go_num,by omega,by omega,h_ ⟨_,_,by rw[J.out];exact r.out⟩⟩,by simp[intOf];omega⟩
        ·simp only[o_];go_wp2;refine⟨λ_=>y.out _ H.ced38 H.kept,?_⟩;refine uf 17 false ?_;simp only[o_];go_wp2_with (at_builtin;refine uW s_.out H.o4 C.out H.kept.size pD.out T.out rfl rfl rfl rfl ?_);intro Cw Cx Cy YO h1 h2 h3;have m9:=h_ (H.ar2 h1 h2);clear h1 h2 h3;go_wp2;refine⟨λ_=>y.out _ m9.ced38 m9.kept,?_⟩;refine zW (R:=[19,20,21]) ?_;simp only[o_];obtain⟨f,x,t3,t4,r⟩:=m9.fin38 K.out (.slice pz pA pC) (.slice Cw Cx Cy);simp only at f t3;go_wp2;refine T_ ?_;clear f x t3 t4;go_wp2;exact⟨⟨j+1,by go_num,by omega,by omega,h_ ⟨_,_,by rw[J.out];exact r.out⟩⟩,by simp[intOf];omega⟩
      ·simp only[o_];obtain⟨YP,Cz,m_,_,CA⟩:=Ck.new (xl s).toArray 42;go_wp2;rw[<-Cz.out];refine⟨λ_=>y.out _ m_.ced38 m_.kept,?_⟩;refine uf 7 true ?_;simp only[o_];obtain⟨YQ,pE,V,_,CB⟩:=m_.new (xl s).toArray 41;have gy:=CA.alloc (.cells (xl s).toArray 41);rw[<-pE.out]at gy;replace gy:=h_ gy;go_wp2;rw[<-pE.out];refine⟨λ_=>y.out _ V.ced38 V.kept,?_⟩;refine uf 8 true ?_;simp only[o_];go_wp2_with (at_builtin;refine uW Lv.out V.o3 C.out V.kept.size CB.out T.out rfl rfl rfl rfl ?_);intro pF pG pH YR h1 h2 h3;have E:=h_ (V.ar1 h1 h2);have pI:=h_ (gy.grow1 h2 h3);clear h1 h2 h3;go_wp2;refine⟨λ_=>y.out _ E.ced38 E.kept,?_⟩;refine uZ 17 18 false true ?_ ?_
       ·simp only[o_];go_wp2_with (at_builtin;refine uW s_.out E.o4 C.out E.kept.size pI.out T.out rfl rfl rfl rfl ?_);intro CC CD CE YS h1 h2 h3;have gz:=h_ (E.ar2 h1 h2);clear h1 h2 h3;go_wp2;refine⟨λ_=>y.out _ gz.ced38 gz.kept,?_⟩;refine uf 18 true ?_;simp only[o_];go_wp2;refine⟨λ_=>y.out _ gz.ced38 gz.kept,?_⟩;refine zW (R:=[19,20,21]) ?_;simp only[o_];obtain⟨f,x,t3,t4,r⟩:=gz.fin38 K.out (.slice pF pG pH) (.slice CC CD CE);simp only at f t3;go_wp2;refine T_ ?_;clear f x t3 t4;go_wp2;exact⟨⟨j+1,by go_num,by omega,by omega,h_ ⟨_,_,by rw[J.out];exact r.out⟩⟩,by simp[intOf];omega⟩
       ·simp only[o_];go_wp2;refine⟨λ_=>y.out _ E.ced38 E.kept,?_⟩;refine uf 17 false ?_;simp only[o_];go_wp2_with (at_builtin;refine uW s_.out E.o4 C.out E.kept.size pI.out T.out rfl rfl rfl rfl ?_);intro CF CG CH YT h1 h2 h3;have nf:=h_ (E.ar2 h1 h2);clear h1 h2 h3;go_wp2;refine⟨λ_=>y.out _ nf.ced38 nf.kept,?_⟩;refine zW (R:=[19,20,21]) ?_;simp only[o_];obtain⟨f,x,t3,t4,r⟩:=nf.fin38 K.out (.slice pF pG pH) (.slice CF CG CH);simp only at f t3;go_wp2;refine T_ ?_;clear f x t3 t4;go_wp2;exact⟨⟨j+1,by go_num,by omega,by omega,h_ ⟨_,_,by rw[J.out];exact r.out⟩⟩,by simp[intOf];omega⟩
     ·obtain⟨r1,r2,o⟩:=HS.out;have dW:ids.take j=ids.take 22:=by
       by_cases h9:j<m
       ·rw[show j=22 by omega]
       ·have h8:=HM.out;rw[v6 (by omega),v6 (by omega)]
      rw[dW]at o;obtain⟨Y,hY⟩:∃Y:Art,Y={X2 with refs:=r2}:=⟨_,rfl⟩;obtain⟨Z,hZ⟩:∃Z:Art,Z={X1 with refs:=r1}:=⟨_,rfl⟩;rw[<-hY,<-hZ]at o;have hp:=L.out;have YW:Below B.heap.size B B:=z_ _ _;have h1:wr.heap[a+1]?=some (.cells (xA ut) 46 (0,0)):=(o.kept.block (a+1) (by omega) (by simp;omega)).trans H51.out;have h2:wr.heap[a+1+1]?=some (.cells (xA ut) 49 (0,0)):=(o.kept.block (a+1+1) (by omega) (by simp;omega)).trans H52.out;have fP:Z.groups=S:=by rw[hZ,DU.out]
      have hg2:Y.groups=M:=by rw[hY,CY.out]
      have aI:Z.refs=r1:=by rw[hZ]
      have aE:Y.refs=r2:=by rw[hY]
      obtain⟨a1,a2,a3,ha⟩:=zd o.o1;obtain⟨b1,b2,b3,hb⟩:=zd o.o2;obtain⟨c1,c2,c3,hc⟩:=zd o.o3;obtain⟨d1,d2,d3,hd⟩:=zd o.o4;have hfZ:xt 40 (xA Z)=true:=vA (by rw[fP,ha];rfl) (by rw[aI,hc];rfl);have hfY:xt 40 (xA Y)=true:=vA (by rw[hg2,hb];rfl) (by rw[aE,hd];rfl);obtain⟨Q,fK⟩:=f3 ((wr.setRow (a+1) (xA Y)).setRow (a+1+1) (xA Z)).drew;have ro1:xN wr (a+1) 40=true:=by unfold xN;rw[h1];simp[yt]
      have gF:(wr.setRow (a+1) (xA Y)).heap[a+1+1]?=some (.cells (xA ut) 49 (0,0)):=(setRow_other wr (a+1) (a+1+1) _ (by omega)).trans h2;have ro2:xN (wr.setRow (a+1) (xA Y)) (a+1+1) 40=true:=by unfold xN;rw[gF];simp[yt]
      have rR:(wr.setRow (a+1) (xA Y)).heap[a+1]?=some (.cells (xA Y) 46 (0,0)):=setRow_heap wr (a+1) _ _ _ _ h1;have e1:Q.heap[a+1]?=some (.cells (xA Y) 46 (0,0)):=by
       rw[fK];exact(setRow_other _ (a+1+1) (a+1) _ (by omega)).trans rR
      have e2:Q.heap[a+1+1]?=some (.cells (xA Z) 49 (0,0)):=by
       rw[fK];exact setRow_heap (wr.setRow (a+1) (xA Y)) (a+1+1) _ _ _ _ gF
      have dO:Kept [a+1,a+1+1] wr Q:=by
       rw[fK];exact(((Kept.of_below (F:=[a+1,a+1+1]) (z_ wr.heap.size wr)).trans (jP wr (a+1) _) (λq hq=>.inl (by simp at hq⊢;exact .inl hq))).trans (jP _ (a+1+1) _) (λq hq=>.inl (by simp at hq⊢;exact .inr hq))).trans (Kept.of_below (F:=[]) (z_ _ _).drew) (λq hq=>by cases hq)
      have nV:=YH.out;have YX:=bR.size;have RN:=o.kept.size;have co:Below w.heap.size w Q:=(bR.trans (o.kept.below bR.size (λq hq=>by simp at hq;omega))).trans (dO.below (by omega) (λq hq=>by simp at hq;omega));have cV:∀{t s n v} {xs:List Value},wr.ownsRow B.heap.size t s v n xs->Q.ownsRow 0 t s v n xs:=λho=>zi (yf ho dO (λq hq e=>by have:=(ho.lt q e).1;simp at hq;omega)) (n3 _)
      have au:qL Q Y (artQ A gs ids):=by
       obtain⟨q1,q2,q3,q4,q5,q6,q7⟩:=HQ.out;have hYe:Y=⟨A.id,cutS 300 A.text,cutS 100 A.name,A.date,A.arr,M,cutS 250 A.subj,r2,A.perm⟩:=by rw[hY,CY.out,HX.out,q1,q2,q3,q4,q5,q6,q7]
       rw[hYe];refine⟨rfl,rfl,rfl,rfl,rfl,rfl,rfl,?_,?_⟩
       ·show Q.ownsRow 0 _ 1 M ((gs.take 22).map (cutS 90)).length (((gs.take 22).map (cutS 90)).map Value.string)
        rw[<-YU.out];exact cV o.o2
       ·exact cV o.o4
      obtain⟨x1,x2⟩:=xF (n:=40) e1 (yt _);obtain⟨x3,x4⟩:=xF (n:=40) e2 (yt _);have r:=h_ (And.intro (And.intro x1 x2) (And.intro x3 x4))
      have aC:Hid (yA9 A gs ids w (.returned (.tuple #[.agg (xA Y),.agg (xA Z)])) Q):=h_ ⟨Z,Y,rfl,au,λq hq=>by
       rw[hg2,aE]at hq;rcases hq with hq|hq
       ·exact R_ YX (o.o2.lt q hq).1
       ·exact R_ YX (o.o4.lt q hq).1,by rw[fP,ha];rfl,by rw[aI,hc];rfl,co⟩
      haveI:Nonempty (ArW wr d g):=⟨⟨wr,rfl,rfl⟩⟩
      have YY:=o.hx;have YZ:=o.hy;have y0:∀z:ArW wr d g,xp z.1 ⟨g,0,none⟩ 40=true:=λz=>(xF (n:=40) (z.h4.trans YZ) (yt _)).1
      have y1:∀z:ArW wr d g,xo z.1 ⟨g,0,none⟩ 40=xA Y:=λz=>(xF (n:=40) (z.h4.trans YZ) (yt _)).2
      have y2:∀z:ArW wr d g,xp z.1 ⟨d,0,none⟩ 40=true:=λz=>(xF (n:=40) (z.h3.trans YY) (yt _)).1
      have y3:∀z:ArW wr d g,xo z.1 ⟨d,0,none⟩ 40=xA Z:=λz=>(xF (n:=40) (z.h3.trans YY) (yt _)).2
      have nO:Hid ((wr.setRow (a+1) (xA Y)).drew.heap[d]?=wr.heap[d]?):=h_ (setRow_other wr (a+1) d _ (by omega));have wO:Hid ((wr.setRow (a+1) (xA Y)).drew.heap[g]?=wr.heap[g]?):=h_ (setRow_other wr (a+1) g _ (by omega));have IX:=h_ fK;clear dW o hY hZ hp YW h1 h2 fP hg2 aI aE ha hb hc hd gF rR e1 e2 dO nV YX RN co cV au x1 x2 x3 x4 YY YZ fK HS iy;by_cases h8:j<m
      case' pos=>
       have e8:j=22:=by omega
       subst e8;have h8z:((22:Int)<(m:Int)):=by omega
      case' neg=>
       have e8:j=m:=by omega
       subst e8
      all_goals
       clear hlt h8;go_upto_region 12 with fail
       clear Rj;refine xz [0,1] [2,3] (λw'=>∃z:ArW wr d g,w'=z.1) ⟨⟨wr.drew,rfl,rfl⟩,rfl⟩ ?_;simp only[o_]
       repeat (go_big_quiet_step (fail))
       refine wpQuiet_nil ?_;clear y0 y1 y2 y3;refine yo true ?_;simp only[o_];go_wp2;refine⟨λ_=>⟨⟨(wr.setRow (a+1) (xA Y)).drew,nO.out,wO.out⟩,rfl⟩,yE ?_⟩;simp only[o_];go_wp2;refine T_ ?_;rw[<-IX.out];go_wp2;exact bodyPost_ret (v:=.tuple #[.agg (xA Y),.agg (xA Z)]) (yB1 rfl isAgg46 sizeOf46 isAgg49 sizeOf49 _ _ ⟨a+1,0,none⟩ ⟨a+1+1,0,none⟩ _ _ rfl rfl r.1.1 r.1.2 r.2.1 r.2.2) rfl aC.out
end
theorem yCv {f:TF}{k t a}(h:addF f k t=some a):∃b,f t=some b:=by
 by_cases e:t=k
 ·subst e;unfold addF at h;cases hf:f t with
  |none=>rw[hf]at h;simp only at h;rw[hf]at h;cases h
  |some b=>exact⟨b,rfl⟩
 ·rw[xFp e]at h;exact⟨a,h⟩
theorem xH1:∀{l:List ByteArray} {f:TF} {t a},uK f l t=some a->∃b,f t=some b
 |[],_,_,a,h=>⟨a,h⟩
 |k :: l,f,t,a,h=>by
  obtain⟨b,c⟩:=xH1 (l:=l) (f:=addF f k) (t:=t) (a:=a) h;exact yCv c
theorem yGz {c c':PC}{o}(h:step c o=some c'){t a}(ht:c'.tc t=some a):(∃b,c.tc t=some b)\/o=.opn t:=by
 cases o with
 |put x=>
  obtain⟨_,h2⟩:=xD0 h;rcases h2 with⟨_,rfl⟩|⟨_,L,_,rfl⟩
  ·exact .inl ⟨a,ht⟩
  ·exact .inl (xH1 ht)
 |rm id=>
  obtain⟨u,v,_,f,_,_,rfl⟩:=xK7 h
  left
  replace ht:rmT c.tc c.lf id t=some a:=ht;unfold rmT at ht;cases hn:xD4 c.lf id t with
  |none=>rw[hn]at ht;exact⟨a,ht⟩
  |some n=>
   cases hf:c.tc t with
   |some b=>exact⟨b,rfl⟩
   |none=>
    refine absurd ⟨t,n,hn,?_⟩ f;unfold uJ;rw[hf];show (8:Int)≠0
    decide
 |opn k=>
  simp only[step,opnO]at h;split at h
  ·cases h
   by_cases e:t=k
   ·exact .inr (by rw[e])
   ·left
    refine⟨a,?_⟩;replace ht:xEp c.tc k t=some a:=ht;unfold xEp putF at ht
    rwa [if_neg e]at ht
  ·cases h
 |cls k=>
  simp only[step,clsO]at h;split at h
  ·rename_i d;cases h
   left
   by_cases e:t=k
   ·subst e;unfold xI6 at d;split at d
    ·rename_i b f;exact⟨b,f⟩
    ·cases d
   ·refine⟨a,?_⟩;replace ht:xDn c.tc k t=some a:=ht;unfold xDn putF at ht
    rwa [if_neg e]at ht
  ·cases h
theorem NmOk.step {c c':PC}{o}(d:NmOk c)(h:Go.Proofs.YtdhapkeimaljfaaGreatDoor.step c o=some c'):NmOk c':=λt a ht=>by
 rcases yGz h ht with⟨b,e⟩|rfl
 ·exact d t b e
 ·exact xDw h
theorem yAp {c c':PC}{o}(b:NmOk c)(h:Go.Proofs.YtdhapkeimaljfaaGreatDoor.step c o=some c')(ha:∀a,o=.put a->a.Fits):o.Fits:=by
 cases o with
 |put x=>
  obtain⟨h1,_⟩:=xD0 h;have h2:=h1.1;unfold minB at h2;simp only[A0,decide_eq_true_eq]at h2;exact⟨ha x rfl,⟨h2.1.1,by omega⟩,⟨h2.2.1,by omega⟩⟩
 |rm id=>trivial
 |opn k=>have:=xDw h;show k.size<=1000;omega
 |cls k=>have:=xFk b h;show k.size<=1000;omega
structure LawC (ops:List SOp)(c:PC):Prop where
 tells:xW9 2000 ops c
 num:xPs c
 few:Few c ops.length
 nm:NmOk c
theorem yEw:LawC [] (qH 2000):=
 ⟨⟨rfl,λ_ h=>(by cases h),n3 _⟩,λ_ _ h=>(by cases h),xFh (by decide),λ_ _ h=>(by cases h)⟩
theorem xOi:∀{l:List SOp} {c c1 c2:PC} {o},runO c l=some c1->Go.Proofs.YtdhapkeimaljfaaGreatDoor.step c1 o=some c2->runO c (l++[o])=some c2
 |[],c,c1,c2,o,h,h2=>by
  cases h
  simp[runO,h2]
 |x :: l,c,c1,c2,o,h,h2=>by
  unfold runO at h;cases hx:Go.Proofs.YtdhapkeimaljfaaGreatDoor.step c x with
  |none=>rw[hx]at h;cases h
  |some c0=>
   rw[hx]at h;show runO c (x :: (l++[o]))=_
   unfold runO;rw[hx];exact xOi (l:=l) h h2
theorem LawC.step {ops c c' o}(h:LawC ops c)(hs:Go.Proofs.YtdhapkeimaljfaaGreatDoor.step c o=some c')(ha:∀a,o=.put a->a.Fits)(hl:ops.length<=16):LawC (ops++[o]) c':=
 ⟨⟨xOi h.tells.run hs,λx hx=>by
   rcases m3.1 hx with hx|hx
   ·exact h.tells.fits x hx
   ·rw[S_.1 hx];exact yAp h.nm hs ha,by rw[b6];show ops.length+1<=17;omega⟩,
  h.num.step hs,by rw[b6];exact h.few.step hs (λa e=>(ha a e).ng),h.nm.step hs⟩
theorem xMd (nb)(ops:List SOp)(o):ve nb (ops++[o])=ve nb ops++[3 :: recO o]:=by simp[ve]
abbrev ekP (x:ByteArray×Int):Value:=.agg #[.string x.1,.int .i64 x.2]
theorem yHt (x y:ByteArray×Int)(w):(Op.equalIn 10000 72 (ekP x) (ekP y)).run prog w=.ok (decide (x=y)) w:=by
 rw[run_equalIn_struct w 9999 72 _ _ (by kernel_rfl) (by kernel_rfl)];by_cases h1:x.1=y.1
 ·by_cases h2:x.2=y.2
  ·rw[decide_eq_true (Prod.ext h1 h2)];simp[go_sem,h1,h2]
  ·rw[decide_eq_false (λh=>h2 (congrArg _ h))];simp[go_sem,h1,h2]
 ·rw[decide_eq_false (λh=>h1 (congrArg _ h))];simp[go_sem];intro h;rw[bp_,bp_]at h;exact absurd (ByteArray.ext (Array.toList_inj.1 h)) h1
theorem xEw (k w):∀(l:List (KE (ByteArray×Int))) (i:Nat),(Instr.findAsking 72 (ekP k) (l.map (enE ekP)) i).run prog w=.ok (yG k l i) w
 |[],i=>rfl
 |e :: l,i=>by
  rw[t8];unfold Instr.findAsking yG;rw[G9];have h1:(Op.equal 72 (ekP k) (enE ekP e).key).run prog w=.ok (decide (k=e.k)) w:=yHt k e.k w;rw[h1];simp only[t2];by_cases h:k=e.k
  ·rw[decide_eq_true h,if_pos h];rfl
  ·rw[decide_eq_false h,if_neg h];exact xEw k w l (i+1)
theorem keyP:xH5 72 ekP where
 check e k w:=by kernel_rfl
 find k l w:=by
  unfold Instr.findKey;rw[G9,run_underlying underlying72];simp only[t2];cases l with
  |nil=>rfl
  |cons e l=>
   exact xEw k w (e :: l) 0
 bits k:=by
  unfold Instr.sameBits;simp[Instr.sameBits,(by_ k.1 k.1).2 rfl]
theorem yD1 (w):(zeroValue 42).run prog w=.ok (ekI yI) w:=by kernel_rfl
def jo (c:PC)(W:World)(M:Nat):Prop:=∃l cc,xV ekP W M l cc/\∀k v,getK k l=some v->∃id:Id32,v=ekI id/\xH3 c k.1 k.2 id
theorem jo.block {c W W' M}(h:jo c W M)(a:W'.heap[M]?=W.heap[M]?):jo c W' M:=by
 obtain⟨l,cc,h1,h2⟩:=h;exact⟨l,cc,a.trans h1,h2⟩
theorem jo.step {c c':PC}{o W M}(h:jo c W M)(hs:Go.Proofs.YtdhapkeimaljfaaGreatDoor.step c o=some c'):jo c' W M:=by
 obtain⟨l,cc,h1,h2⟩:=h;refine⟨l,cc,h1,λk v b=>?_⟩;obtain⟨id,e,a⟩:=h2 k v b;exact⟨id,e,a.step hs⟩
theorem jo.look {c W M}(h:jo c W M)(k:ByteArray×Int):∃(id:Id32) (hs:Bool),(hs=true->xH3 c k.1 k.2 id)/\∀W',W'.heap[M]?=W.heap[M]?->(Instr.lookup 39 (.map (some M)) (.agg #[.string k.1,.int .i64 k.2]) true).run prog W'=.ok (.tuple #[.agg (xl id).toArray,.bool hs]) W':=by
 obtain⟨l,cc,h1,h2⟩:=h
 have a:∀W':World,W'.heap[M]?=W.heap[M]?->(Instr.lookup 39 (.map (some M)) (ekP k) true).run prog W'=.ok (.tuple #[((yG k l 0).map (·.2)).getD (ekI yI),.bool (yG k l 0).isSome]) W':=
  λW' b=>xDz keyP underlying39 (ekI yI) yD1 W' M l cc (by unfold xV;exact b.trans h1) k
 cases hf:yG k l 0 with
 |none=>
  rw[hf]at a;exact⟨yI,false,(λh=>by cases h),a⟩
 |some x=>
  obtain⟨id,e,d⟩:=h2 k x.2 (by unfold getK;rw[hf];rfl);rw[hf]at a;refine⟨id,true,(λ_=>d),λW' b=>(a W' b).trans ?_⟩;show Result.ok (Value.tuple #[x.2,.bool true]) W'=_
  rw[e]
theorem jo.put {c W M}(h:jo c W M)(k:ByteArray×Int)(id:Id32)(b:xH3 c k.1 k.2 id):∃o,(Instr.mapUpdate 39 (.map (some M)) (.agg #[.string k.1,.int .i64 k.2]) (.agg (xl id).toArray)).run prog W=.ok () (W.putObj M o)/\jo c (W.putObj M o) M:=by
 obtain⟨l,cc,h1,h2⟩:=h;refine⟨_,xBu keyP underlying39 W M l cc h1 k (ekI id),_,_,h1.put,λj v a=>?_⟩;rw[xDc]at a;by_cases e:j=k
 ·subst e;rw[if_pos rfl]at a;cases a;exact⟨id,rfl,b⟩
 ·rw[if_neg e]at a;exact h2 j v a
theorem jo.new (c){W M}(h:W.heap[M]?=some (.map #[] 0)):jo c W M:=⟨[],0,h,λk v a=>by cases a⟩
theorem StOk.le {D w sb p n q U R E c F}(h:StOk D w sb p n q U R E c F){q'}(hq:q<=q'):StOk D w sb p n q' U R E c F:=by
 obtain⟨b,v,d,j,ev,sy,x,B,T,h1,h2,h3,h4,g,f,a,e⟩:=h;exact⟨b,v,d,j,ev,sy,x,B,T,h1,h2,h3,h4,g,f,⟨⟨R_ a.1.1 hq,R_ a.1.2 hq⟩,a.2⟩,e⟩
theorem xZe {W W':World}{B t s n v xs D}(h:W.ownsRow B t s v n xs)(b:Below D W W')(hv:∀k,v.ownBlock=some k->k<D):W'.ownsRow B t s v n xs:=by
 refine⟨h.1,?_⟩;rcases h.2 with c|⟨g,cap,cur,e,a,d,r⟩
 ·exact .inl c
 ·exact .inr ⟨g,cap,cur,e,a,(b.block g (hv g (by rw[e];rfl))).trans d,r⟩
structure zN (w:World)(D uc M:Nat)(ds:List Nat)(cv:Value)(cs:List UInt8)(W:World):Prop where
 g:Gl w
 bl:Below w.heap.size w W
 wD:w.heap.size<D
 DW:D<=W.heap.size
 res:W.heap[w.heap.size]?=some (.cells #[.bool false] 4 (0,0))
 own:∃C,OwnB W C cv cs
 ownD:∀k,cv.ownBlock=some k->k<D
 ucell:W.heap[uc]?=some (.cells #[.map (some M)] 39 (0,0))
 ne:uc≠M/\M∉ds
 ML:M<W.heap.size
 MD:D<=M
 ms:∀d∈ds,W.heap[d]?=some (.deferred (some []))
 md:ds.Nodup
 mb:∀d∈ds,w.heap.size<d
 tear:∀c∈cs,c.toNat%3≠2
 cl:cs.length<=1000
def qK (D p uc M:Nat)(ds:List Nat)(q m sb:Nat)(W:World):Prop:=∃ops c U F,StOk D W sb p 640 q U M (ve 2000 ops) c F/\LawC ops c/\ops.length<=m/\(∀k∈M :: uc :: ds,k∉F)/\jo c W M
def xPt (D p uc M:Nat)(ds:List Nat)(q m sb:Nat)(W:World):Prop:=∃ops o c c' F,xIc D W sb p 640 q (ve 2000 ops) (recO o) F/\step c o=some c'/\LawC ops c/\LawC (ops++[o]) c'/\ops.length<=m/\(∀k∈M :: uc :: ds,k∉F)/\jo c W M
def yIq (D p uc M:Nat)(ds:List Nat)(q m:Nat)(W:World):Prop:=∃ops c F,xPq D W p 640 q F (ve 2000 ops)/\LawC ops c/\ops.length<=m/\(∀k∈M :: uc :: ds,k∉F)/\jo c W M
theorem xKa {ops:List SOp}{m}(h:ops.length<=m)(a:m<=16):(ve 2000 ops).length<=90000:=by rw[xGw];omega
section
variable {w W W':World} {D p uc M q m sb:Nat} {ds:List Nat} {cv:Value} {cs:List UInt8}
theorem zN.gl (h:zN w D uc M ds cv cs W):Gl W:=h.g.below h.bl h.g.size
theorem zN.D0 (h:zN w D uc M ds cv cs W):prog.globals.size<=D:=R_ h.g.size (T8 h.wD)
theorem zN.lt (h:zN w D uc M ds cv cs W):∀k∈M :: uc :: ds,k<W.heap.size:=λk a=>by
 rcases g8.1 a with rfl|a
 ·exact h.ML
 ·rcases g8.1 a with rfl|a
  ·exact(i_ h.ucell).1
  ·exact(i_ (h.ms k a)).1
theorem zN.keep (h:zN w D uc M ds cv cs W)(a:Below D W W')(b:∀k∈uc :: ds,W'.heap[k]?=W.heap[k]?):zN w D uc M ds cv cs W':=
 ⟨h.g,h.bl.trans (a.mono (T8 h.wD)),h.wD,R_ h.DW a.size,(a.block _ h.wD).trans h.res,let ⟨C,ho⟩:=h.own;⟨C,xZe ho a h.ownD⟩,h.ownD,(b _ (by simp)).trans h.ucell,h.ne,b7 h.ML a.size,h.MD,λd c=>(b d (by simp[c])).trans (h.ms d c),h.md,h.mb,h.tear,h.cl⟩
theorem zN.below (h:zN w D uc M ds cv cs W)(a:Below W.heap.size W W'):zN w D uc M ds cv cs W':=h.keep (a.mono h.DW) (λk b=>a.block k (h.lt k (.tail _ b)))
theorem qK.below (h:qK D p uc M ds q m sb W)(a:Below W.heap.size W W')(b:M<W.heap.size):qK D p uc M ds q m sb W':=by
 obtain⟨ops,c,U,F,h1,h2,h3,h4,d⟩:=h;exact⟨ops,c,U,F,h1.below a,h2,h3,h4,d.block (a.block M b)⟩
theorem qK.mono (h:qK D p uc M ds q m sb W){q' m'}(hq:q<=q')(a:m<=m'):qK D p uc M ds q' m' sb W:=by
 obtain⟨ops,c,U,F,h1,h2,h3,h4⟩:=h;exact⟨ops,c,U,F,h1.le hq,h2,R_ h3 a,h4⟩
theorem zN.op (h:zN w D uc M ds cv cs W){ops c U F o}(hl:LawC ops c)(f:ops.length<=m)(s:m<=15)(d:∀k∈M :: uc :: ds,k∉F)(hx:jo c W M)(i:∀a,o=.put a->a.Fits)(ha:yGn D sb p 640 q U M (ve 2000 ops) c o F W W'):
  zN w D uc M ds cv cs W'/\(qK D p uc M ds q (m+1) sb W'\/xPt D p uc M ds q m sb W'):=by
 obtain⟨n,g,l⟩:=ha;refine⟨h.keep n (λk b=>g.block k (h.lt k (.tail _ b)) (d k (.tail _ b))),?_⟩;have e:=hx.block (g.block M h.ML (d M (by simp)));have j:∀{F':List Nat},(∀k∈F',k∈F\/W.heap.size<=k)->∀k∈M :: uc :: ds,k∉F':=λr k b f=>(r _ f).elim (d k b) (by have:=h.lt k b;omega)
 rcases l with h1|⟨c',h1,_,F',h2,h3⟩|⟨c',h1,F',h2,h3⟩
 ·exact .inl ⟨ops,c,U,F,h1,hl,by omega,d,e⟩
 ·exact .inr ⟨ops,o,c,c',F',h2,h1,hl,hl.step h1 i (by omega),f,j h3,e⟩
 ·exact .inl ⟨ops++[o],c',U,F',by rw[xMd];exact h2,hl.step h1 i (by omega),by rw[b6];show ops.length+1<=_;omega,j h3,e.step h1⟩
def NumR (w:World)(D p uc M:Nat)(ds:List Nat)(cv:Value)(cs:List UInt8)(q m sb:Nat)(e:Ending)(W:World):Prop:=(∃v,e=.returned v)/\zN w D uc M ds cv cs W/\(qK D p uc M ds q (m+1) sb W\/xPt D p uc M ds q m sb W)
theorem yEf (h:zN w D uc M ds cv cs W)(ha:qK D p uc M ds q m sb W)(b:m<=15)(s)(hs:s.size<=maxLen):
  Calls prog 11 #[.pointer (some ⟨sb,0,none⟩),.string s] W (NumR w D p uc M ds cv cs q m sb):=by
 obtain⟨ops,c,U,F,h1,h2,h3,h4,d⟩:=ha;refine(xFv h1 h.gl h.D0 h.DW s hs (xKa h3 (by omega)) (λk a e=>R_ (h2.few.iv (by omega) k a e) (by omega)) (R_ h2.few.tn (by omega))).mono ?_;rintro e W'⟨k,rfl,hall,_⟩;exact⟨⟨_,rfl⟩,h.op h2 h3 b h4 d (λ_ e=>by cases e) hall⟩
theorem yBh (h:zN w D uc M ds cv cs W)(ha:qK D p uc M ds q m sb W)(b:m<=15)(s):
  Calls prog 12 #[.pointer (some ⟨sb,0,none⟩),.string s] W (NumR w D p uc M ds cv cs q m sb):=by
 obtain⟨ops,c,U,F,h1,h2,h3,h4,d⟩:=ha;refine(xN4 h1 h.gl h.D0 h.DW s h2.nm (xKa h3 (by omega)) (λk a e=>R_ (h2.few.iv (by omega) k a e) (by omega))).mono ?_;rintro e W'⟨k,rfl,hall,_⟩;exact⟨⟨_,rfl⟩,h.op h2 h3 b h4 d (λ_ e=>by cases e) hall⟩
theorem xXm (h:zN w D uc M ds cv cs W)(ha:qK D p uc M ds q m sb W)(a:m<=15)(id:Id32):
  Calls prog 10 #[.pointer (some ⟨sb,0,none⟩),.agg (xl id).toArray] W (NumR w D p uc M ds cv cs q m sb):=by
 obtain⟨ops,c,U,F,h1,h2,h3,h4,b⟩:=ha;refine(xFu h1 h.gl h.D0 h.DW id (xKa h3 (by omega)) h2.few.sum (R_ h2.few.bytes h2.few.bud) (h2.few.iv (by omega))).mono ?_;rintro e W'⟨k,rfl,hall,_⟩;exact⟨⟨_,rfl⟩,h.op h2 h3 a h4 b (λ_ e=>by cases e) hall⟩
theorem yHe (h:zN w D uc M ds cv cs W)(ha:qK D p uc M ds q m sb W)(d:m<=15)(A)(a:PArt)(f:qL W A a)(b:a.Fits):
  Calls prog 9 #[.pointer (some ⟨sb,0,none⟩),.agg (xA A)] W λe W'=>NumR w D p uc M ds cv cs q m sb e W'/\∃v k,e=.returned (.tuple #[v,k]):=by
 obtain⟨ops,c,U,F,h1,h2,h3,h4,g⟩:=ha;refine(xHd h1 h.gl h.D0 h.DW A a f b (xKa h3 (by omega)) h2.few (by omega)).mono ?_;rintro e W'⟨pv,k,rfl,hall,_⟩;exact⟨⟨⟨_,rfl⟩,h.op h2 h3 d h4 g (λ_ e=>by cases e;exact b) hall⟩,_,_,rfl⟩
theorem yBg (h:zN w D uc M ds cv cs W)(ha:qK D p uc M ds q m sb W)(k:Nat)(a:k<=1000):
  Calls prog 7 #[.pointer (some ⟨p,0,none⟩),.int .i64 k] W λe W'=>e=.returned (.tuple #[])/\zN w D uc M ds cv cs W'/\qK D p uc M ds q m sb W':=by
 obtain⟨ops,c,U,F,h1,h2,h3,h4,g⟩:=ha;refine(h1.setLimit k a).mono ?_;rintro e W' ⟨rfl,d,f,b⟩;exact⟨rfl,h.keep f (λk a=>d.block k (h.lt k (.tail _ a)) (h4 k (.tail _ a))),ops,c,false,F,b,h2,h3,h4,g.block (d.block M h.ML (h4 M (by simp)))⟩
theorem yBi (ha:qK D p uc M ds q m sb W):Calls prog 13 #[.pointer (some ⟨sb,0,none⟩)] W λe W'=>e=.returned (.int .i64 0)/\W=W':=by
 obtain⟨ops,c,U,F,h1,_⟩:=ha;exact xT6 h1
theorem yEg (ha:xPt D p uc M ds q m sb W):Calls prog 13 #[.pointer (some ⟨sb,0,none⟩)] W λe W'=>e=.returned (.int .i64 28)/\W=W':=by
 obtain⟨ops,o,c,c',F,h1,_⟩:=ha;exact xN2 h1
theorem xUd (h:zN w D uc M ds cv cs W)(ha:xPt D p uc M ds q m sb W):
  Calls prog 14 #[.pointer (some ⟨p,0,none⟩),cv] W λe W'=>e=.returned (.int .i64 0)/\zN w D uc M ds cv cs W'/\yIq D p uc M ds q (m+1) W':=by
 obtain⟨ops,o,c,c',F,h1,h2,h3,h4,l,a,j⟩:=ha;obtain⟨C,ho⟩:=h.own;refine(h1.restart cv cs ho h.tear h.cl).mono ?_;rintro e W' ⟨rfl,d,g,E',i,b⟩;refine⟨rfl,h.keep g (λk f=>d.block k (h.lt k (.tail _ f)) (a k (.tail _ f))),?_⟩;have hx:=j.block (d.block M h.ML (a M (by simp)));rcases i with rfl|rfl
 ·exact⟨ops,c,F,b,h3,by omega,a,hx⟩
 ·exact⟨ops++[o],c',F,by rw[xMd];exact b,h4,by rw[b6];show ops.length+1<=_;omega,a,hx.step h2⟩
theorem xXl (h:zN w D uc M ds cv cs W)(ha:yIq D p uc M ds q m W)(hq:q<=1000):
  Calls prog 15 #[.pointer (some ⟨p,0,none⟩)] W λe W'=>∃sb,e=.returned (.tuple #[.pointer (some ⟨sb,0,none⟩),.int .i64 0])/\zN w D uc M ds cv cs W'/\qK D p uc M ds (q+2) m sb W':=by
 obtain⟨ops,c,F,h1,h2,h3,h4,j⟩:=ha;refine(h1.open (by omega) (by omega) (by omega) h2.tells (by omega) h.gl h.DW h.D0).mono ?_;rintro e W'⟨sb,rfl,g,d,F',b,i⟩;exact⟨sb,rfl,h.keep g (λk a=>d.block k (h.lt k (.tail _ a)) (h4 k (.tail _ a))),ops,c,true,F',b M h.ML,h2,h3,λk a f=>(i _ f).elim (h4 k a) (by have:=h.lt k a;omega),j.block (d.block M h.ML (h4 M (by simp)))⟩
end
def xJ3 (D:Nat):Deferred:={ target:=.collected D,args:=#[] }
theorem yEh {P:Program}{c:Code}{Q}{a:Act}{w}(h:∀a',a'=a->c.wp P Q a' w):c.wp P Q a w:=h a rfl
theorem yBy (p:Nat)(v:Value)(t:Array Value):(((#[p]:Array Tmp).zip #[v]).foldl (λt (p,v)=>t.setIfInBounds p v) t)=t.setIfInBounds p v:=by
 simp
theorem xTe (t:Array Value)(h:t.size=171):∃f:Nat->Value,(∀k,f k=t.getD k undef)/\t=#[f 0,f 1,f 2,f 3,f 4,f 5,f 6,f 7,f 8,f 9,f 10,f 11,f 12,f 13,f 14,f 15,f 16,f 17,f 18,f 19,f 20,f 21,f 22,f 23,f 24,f 25,f 26,f 27,f 28,f 29,f 30,f 31,f 32,f 33,f 34,f 35,f 36,f 37,f 38,f 39,f 40,f 41,f 42,f 43,f 44,f 45,f 46,f 47,f 48,f 49,f 50,f 51,f 52,f 53,f 54,f 55,f 56,f 57,f 58,f 59,f 60,f 61,f 62,f 63,f 64,f 65,f 66,f 67,f 68,f 69,f 70,f 71,f 72,f 73,f 74,f 75,f 76,f 77,f 78,f 79,f 80,f 81,f 82,f 83,f 84,f 85,f 86,f 87,f 88,f 89,f 90,f 91,f 92,f 93,f 94,f 95,f 96,f 97,f 98,f 99,f 100,f 101,f 102,f 103,f 104,f 105,f 106,f 107,f 108,f 109,f 110,f 111,f 112,f 113,f 114,f 115,f 116,f 117,f 118,f 119,f 120,f 121,f 122,f 123,f 124,f 125,f 126,f 127,f 128,f 129,f 130,f 131,f 132,f 133,f 134,f 135,f 136,f 137,f 138,f 139,f 140,f 141,f 142,f 143,f 144,f 145,f 146,f 147,f 148,f 149,f 150,f 151,f 152,f 153,f 154,f 155,f 156,f 157,f 158,f 159,f 160,f 161,f 162,f 163,f 164,f 165,f 166,f 167,f 168,f 169,f 170]:=⟨λk=>t.getD k undef,λ_=>rfl,(xWp t 171 h).trans rfl⟩
structure NSl (t:Array Value)(lv mv cv:Value)(rc p sb uc n i:Nat):Prop where
 size:t.size=171
 s0:t.getD 0 undef=lv
 s1:t.getD 1 undef=mv
 s2:t.getD 2 undef=cv
 s6:t.getD 6 undef=.pointer (some ⟨rc,0,none⟩)
 s7:t.getD 7 undef=.pointer (some ⟨p,0,none⟩)
 s8:t.getD 8 undef=.pointer (some ⟨sb,0,none⟩)
 s11:t.getD 11 undef=.pointer (some ⟨uc,0,none⟩)
 s12:t.getD 12 undef=.int .i64 (n:Int)
 s13:t.getD 13 undef=.int .i64 (i:Int)
theorem NSl.out {t}{lv mv cv:Value}{rc p sb uc n i:Nat}(h:NSl t lv mv cv rc p sb uc n i):∃f:Nat->Value,(∀k,f k=t.getD k undef)/\t=#[lv,mv,cv,f 3,f 4,f 5,.pointer (some ⟨rc,0,none⟩),.pointer (some ⟨p,0,none⟩),.pointer (some ⟨sb,0,none⟩),f 9,f 10,.pointer (some ⟨uc,0,none⟩),.int .i64 (n:Int),.int .i64 (i:Int),f 14,f 15,f 16,f 17,f 18,f 19,f 20,f 21,f 22,f 23,f 24,f 25,f 26,f 27,f 28,f 29,f 30,f 31,f 32,f 33,f 34,f 35,f 36,f 37,f 38,f 39,f 40,f 41,f 42,f 43,f 44,f 45,f 46,f 47,f 48,f 49,f 50,f 51,f 52,f 53,f 54,f 55,f 56,f 57,f 58,f 59,f 60,f 61,f 62,f 63,f 64,f 65,f 66,f 67,f 68,f 69,f 70,f 71,f 72,f 73,f 74,f 75,f 76,f 77,f 78,f 79,f 80,f 81,f 82,f 83,f 84,f 85,f 86,f 87,f 88,f 89,f 90,f 91,f 92,f 93,f 94,f 95,f 96,f 97,f 98,f 99,f 100,f 101,f 102,f 103,f 104,f 105,f 106,f 107,f 108,f 109,f 110,f 111,f 112,f 113,f 114,f 115,f 116,f 117,f 118,f 119,f 120,f 121,f 122,f 123,f 124,f 125,f 126,f 127,f 128,f 129,f 130,f 131,f 132,f 133,f 134,f 135,f 136,f 137,f 138,f 139,f 140,f 141,f 142,f 143,f 144,f 145,f 146,f 147,f 148,f 149,f 150,f 151,f 152,f 153,f 154,f 155,f 156,f 157,f 158,f 159,f 160,f 161,f 162,f 163,f 164,f 165,f 166,f 167,f 168,f 169,f 170]:=by
 obtain⟨f,a,l⟩:=xTe t h.size;refine⟨f,a,?_⟩;have j:=(a 0).trans h.s0;have g:=(a 1).trans h.s1;have e:=(a 2).trans h.s2;have d:=(a 6).trans h.s6;have c:=(a 7).trans h.s7;have b:=(a 8).trans h.s8;have m:=(a 11).trans h.s11;have q:=(a 12).trans h.s12;have o:=(a 13).trans h.s13;rw[<-j,<-g,<-e,<-d,<-c,<-b,<-m,<-q,<-o];exact l
structure ISl (t:Array Value)(lv mv cv:Value)(rc p sb uc n i:Nat)(ib gc kb:Nat):Prop where
 size:t.size=171
 s0:t.getD 0 undef=lv
 s1:t.getD 1 undef=mv
 s2:t.getD 2 undef=cv
 s6:t.getD 6 undef=.pointer (some ⟨rc,0,none⟩)
 s7:t.getD 7 undef=.pointer (some ⟨p,0,none⟩)
 s8:t.getD 8 undef=.pointer (some ⟨sb,0,none⟩)
 s11:t.getD 11 undef=.pointer (some ⟨uc,0,none⟩)
 s12:t.getD 12 undef=.int .i64 (n:Int)
 s13:t.getD 13 undef=.int .i64 (i:Int)
 s18:t.getD 18 undef=.pointer (some ⟨ib,0,none⟩)
 s19:t.getD 19 undef=.pointer (some ⟨gc,0,none⟩)
 s20:t.getD 20 undef=.pointer (some ⟨kb,0,none⟩)
theorem ISl.out {t}{lv mv cv:Value}{rc p sb uc n i:Nat}{ib gc kb:Nat}(h:ISl t lv mv cv rc p sb uc n i ib gc kb):∃f:Nat->Value,(∀k,f k=t.getD k undef)/\t=#[lv,mv,cv,f 3,f 4,f 5,.pointer (some ⟨rc,0,none⟩),.pointer (some ⟨p,0,none⟩),.pointer (some ⟨sb,0,none⟩),f 9,f 10,.pointer (some ⟨uc,0,none⟩),.int .i64 (n:Int),.int .i64 (i:Int),f 14,f 15,f 16,f 17,.pointer (some ⟨ib,0,none⟩),.pointer (some ⟨gc,0,none⟩),.pointer (some ⟨kb,0,none⟩),f 21,f 22,f 23,f 24,f 25,f 26,f 27,f 28,f 29,f 30,f 31,f 32,f 33,f 34,f 35,f 36,f 37,f 38,f 39,f 40,f 41,f 42,f 43,f 44,f 45,f 46,f 47,f 48,f 49,f 50,f 51,f 52,f 53,f 54,f 55,f 56,f 57,f 58,f 59,f 60,f 61,f 62,f 63,f 64,f 65,f 66,f 67,f 68,f 69,f 70,f 71,f 72,f 73,f 74,f 75,f 76,f 77,f 78,f 79,f 80,f 81,f 82,f 83,f 84,f 85,f 86,f 87,f 88,f 89,f 90,f 91,f 92,f 93,f 94,f 95,f 96,f 97,f 98,f 99,f 100,f 101,f 102,f 103,f 104,f 105,f 106,f 107,f 108,f 109,f 110,f 111,f 112,f 113,f 114,f 115,f 116,f 117,f 118,f 119,f 120,f 121,f 122,f 123,f 124,f 125,f 126,f 127,f 128,f 129,f 130,f 131,f 132,f 133,f 134,f 135,f 136,f 137,f 138,f 139,f 140,f 141,f 142,f 143,f 144,f 145,f 146,f 147,f 148,f 149,f 150,f 151,f 152,f 153,f 154,f 155,f 156,f 157,f 158,f 159,f 160,f 161,f 162,f 163,f 164,f 165,f 166,f 167,f 168,f 169,f 170]:=by
 obtain⟨f,a,q⟩:=xTe t h.size;refine⟨f,a,?_⟩;have o:=(a 0).trans h.s0;have m:=(a 1).trans h.s1;have l:=(a 2).trans h.s2;have j:=(a 6).trans h.s6;have g:=(a 7).trans h.s7;have e:=(a 8).trans h.s8;have r:=(a 11).trans h.s11;have u:=(a 12).trans h.s12;have s:=(a 13).trans h.s13;have d:=(a 18).trans h.s18;have c:=(a 19).trans h.s19;have b:=(a 20).trans h.s20;rw[<-o,<-m,<-l,<-j,<-g,<-e,<-r,<-u,<-s,<-d,<-c,<-b];exact q
theorem ISl.set {t}{lv mv cv:Value}{rc p sb uc n i ib gc kb:Nat}(h:ISl t lv mv cv rc p sb uc n i ib gc kb){k}(a:21<=k)(u):ISl (t.setIfInBounds k u) lv mv cv rc p sb uc n i ib gc kb:=
 ⟨by simpa using h.size,(uq _ _ (by omega)).trans h.s0,(uq _ _ (by omega)).trans h.s1,(uq _ _ (by omega)).trans h.s2,(uq _ _ (by omega)).trans h.s6,(uq _ _ (by omega)).trans h.s7,(uq _ _ (by omega)).trans h.s8,(uq _ _ (by omega)).trans h.s11,(uq _ _ (by omega)).trans h.s12,(uq _ _ (by omega)).trans h.s13,(uq _ _ (by omega)).trans h.s18,(uq _ _ (by omega)).trans h.s19,(uq _ _ (by omega)).trans h.s20⟩
section
variable {F:Fence} {n:Nat} {P:Program}
def SeqG {α:Type}(F:Fence)(n:Nat)(P:Program)(g:Nat)(lb:Array Value)(encs:α->Array Value)(Gd:Nat->Nat->List α->α->World->Prop)(Kp:Nat->Nat->α->World->World->Prop)(S:List α->Prop)(W:World):Prop:=
 ∀(l:Nat) (J Jx:Nat->List α->World->Prop),
  (∀B pre X Y,J B pre X->W.heap.size<=B->B<=X.heap.size->zw W.heap.size B X Y->J B pre Y)->(∀B pre X Y,Jx B pre X->W.heap.size<=B->B<=X.heap.size->zw W.heap.size B X Y->Jx B pre Y) ->
  (∀X,Below W.heap.size W X->J X.heap.size [] X) ->
  (∀B pre x X,J B pre X->W.heap.size<=B->B<=X.heap.size->Gd W.heap.size B pre x X->YieldAt F (n-1) P l (encs x) X λe X'=>
   (e=.returned (.bool true)/\J B (pre++[x]) X'/\Kp W.heap.size B x X X')\/(e=.returned (.bool false)/\Jx B (pre++[x]) X')) ->
  CallsIn F n P g (#[.func (.yield l) #[] #[]]++lb) W λe W'=>(∃v,e=.returned v)/\((∃B xs,W.heap.size<=B/\B<=W'.heap.size/\S xs/\J B xs W')\/(∃B pre,W.heap.size<=B/\Jx B pre W'))
def xIe (A:Nat)(W W':World):Prop:=W.heap.size<=W'.heap.size/\∀k,A<=k->k<A+2->W'.heap[k]?=W.heap[k]?
def postG {α:Type}(A:Nat)(Kp:Nat->Nat->α->World->World->Prop)(I:Nat->List α->World->Prop)(Ix:Code->Nat->List α->World->Prop)(B:Nat)(pre:List α)(x:α)(W:World):Exit->Act->World->Prop
 |.normal,_,W'=>xIe A W W'/\Kp (A+2) B x W W'/\I B (pre++[x]) W'
 |.ret,_,W'=>xIe A W W'/\Ix .ret B (pre++[x]) W'
 |.exit id,_,W'=>xIe A W W'/\Ix (.exit id) B (pre++[x]) W'
 |.goto t,_,W'=>xIe A W W'/\Ix (.goto t) B (pre++[x]) W'
 |.panic _,_,_=>False
 |.outgrown,_,_=>False
theorem xCq {α:Type}{g:Operand}{ps:Array Tmp}{assign body:Code}{Q:Exit->Act->World->Prop}{a:Act}{w:World}
  (aY:F.round=none) (h1:1<=n) {gf:Nat} {lb:Array Value} (hg:a.eval g=.func (.func gf) #[] lb) (O:F.fn gf) (eg:∀args w,(callFunc gf args).run P w=.ok (.enter gf args) w)
  {encs:α->Array Value} {Gd:Nat->Nat->List α->α->World->Prop} {Kp:Nat->Nat->α->World->World->Prop} {S:List α->Prop}
  (i3:∀W,Below w.heap.size w W->W.heap.size=w.heap.size+2->SeqG F (n-1) P gf lb encs Gd Kp S W)
  (J:∀B x X Y Z l o,w.heap.size<=l->l<w.heap.size+2->Kp (w.heap.size+2) B x Y Z->Y=X.putObj l o->Kp (w.heap.size+2) B x X Z)
  (H:∀B x X Y l o,w.heap.size<=l->l<w.heap.size+2->Kp (w.heap.size+2) B x X Y->Kp (w.heap.size+2) B x X (Y.putObj l o))
  (f_:∀x,(encs x).size=ps.size)
  (I:Nat->List α->World->Prop) (Ix:Code->Nat->List α->World->Prop) (N:∀B pre X Y,I B pre X->w.heap.size+2<=B->B<=X.heap.size->zw w.heap.size B X Y->I B pre Y) (C:∀c B pre X Y,Ix c B pre X->w.heap.size+2<=B->B<=X.heap.size->zw w.heap.size B X Y->Ix c B pre Y)
  (h0:∀X,Below w.heap.size w X->w.heap.size+2<=X.heap.size->I X.heap.size [] X)
  (Ax:Nat->List α->α->Act->World->Prop)
  (EW:∀(l:Nat) (B:Nat) (pre:List α) (x:α) (W:World) (K:Act->World->Prop),I B pre W->w.heap.size+2<=B->B<=W.heap.size->Gd (w.heap.size+2) B pre x W ->
   (∀a' W',Ax B pre x a' W'->Below W.heap.size W W'->K a' W') ->
   assign.wpIn (F.inRound l) (n-1-1) P (Exit.then K (λ_ _ _=>False)) { tmps:=(ps.zip (encs x)).foldl (λt (p,v)=>t.setIfInBounds p v) a.tmps,defers:=[] } W)
  (R:∀B pre x a' X l o,Ax B pre x a' X->w.heap.size<=l->l<w.heap.size+2->Ax B pre x a' (X.putObj l o))
  (L:∀B x X Y Z,Below X.heap.size X Y->B<=X.heap.size->Kp (w.heap.size+2) B x Y Z->Kp (w.heap.size+2) B x X Z)
  (Rl:∀(l B:Nat) (pre:List α) (x:α) (a':Act) (W:World),l=w.heap.size+1->w.heap.size+2<=B->B<=W.heap.size->Ax B pre x a' W->body.wpIn (F.inRound l) (n-1-1) P (postG w.heap.size Kp I Ix B pre x W) a' W)
  (aS:∀(B:Nat) (xs:List α) (W:World),w.heap.size+2<=B->B<=W.heap.size->S xs->I B xs W->W.heap[w.heap.size]?=some (.deferred (some []))->Q .normal { a with defers:={ target:=.collected w.heap.size,args:=#[] } :: a.defers } W)
  (Rm:∀(c:Code) (B:Nat) (pre:List α) (W:World),w.heap.size+2<=B->Ix c B pre W->W.heap[w.heap.size]?=some (.deferred (some []))->c.wpIn F n P Q { a with defers:={ target:=.collected w.heap.size,args:=#[] } :: a.defers } W)
  (aV:∀c B pre W,Ix c B pre W->B<=W.heap.size):
  (Code.rangeFunc g ps assign body).wpIn F n P Q a w:=by
 refine wpIn_rangeFunc ?_;intro fn Ky;rw[aY];obtain⟨rec,j⟩:∃rec:LoopState->Option Code->Loop,rec=λst pe=>{ state:=st,pending:=pe,fn,tmps:=a.tmps,params:=ps,assign,body,defers:=w.heap.size }:=⟨_,rfl⟩
 obtain⟨i,z⟩:∃i,(w.alloc (.deferred (some []))).alloc (.loop (rec .ready none))=i:=⟨_,rfl⟩;have s:i.heap.size=w.heap.size+2:=by rw[<-z];simp
 have pM:i.heap[w.heap.size+1]?=some (.loop (rec .ready none)):=by
  rw[<-z];have:=World.alloc_heap_new (w.alloc (.deferred (some []))) (.loop (rec .ready none));rwa [U7]at this
 have M:i.heap[w.heap.size]?=some (.deferred (some [])):=by
  rw[<-z];exact(Below.heap_alloc _ _ _ (by simp)).trans (World.alloc_heap_new w _)
 have V:Below w.heap.size w i:=by
  rw[<-z];exact((z_ _ w).alloc (w_ _) _).alloc (by simp) _
 refine⟨w.heap.size+1,[{ target:=.collected w.heap.size,args:=#[] }],i,{ target:=.fn (.func gf) lb,args:=#[.func (.yield (w.heap.size+1)) #[] #[]] },i,gf,
  #[.func (.yield (w.heap.size+1)) #[] #[]]++lb,i,?_,?_,?_,?_,λ_=>h1,?_⟩
 ·rw[<-z,j];exact run_enterLoop_outer _ _ _ _ _
 ·simp only[resolve,hg];simp[go_sem]
 ·intro f' T;simp[Target.leads]at T;subst T;exact O
 ·simp[invoke,go_sem,eg]
 ·refine(i3 i V s (w.heap.size+1)
   (λB pre W=>I B pre W/\W.heap[w.heap.size+1]?=some (.loop (rec .ready none))/\W.heap[w.heap.size]?=some (.deferred (some [])))
   (λB pre W=>∃c,Ix c B pre W/\W.heap[w.heap.size+1]?=some (.loop (rec .done (some c)))/\W.heap[w.heap.size]?=some (.deferred (some [])))
   ?_ ?_ ?_ ?_).mono ?_
  ·rintro B pre X Y ⟨h,hl,d⟩ hB hX hst;rw[s]at hB hst;exact⟨N B pre X Y h hB hX (hst.mono (by omega) (w_ _)),(hst.block _ (i_ hl).1 (.inl (by omega))).trans hl,(hst.block _ (i_ d).1 (.inl (by omega))).trans d⟩
  ·rintro B pre X Y ⟨c,h,hl,d⟩ hB hX hst;rw[s]at hB hst;exact⟨c,C c B pre X Y h hB hX (hst.mono (by omega) (w_ _)),(hst.block _ (i_ hl).1 (.inl (by omega))).trans hl,(hst.block _ (i_ d).1 (.inl (by omega))).trans d⟩
  ·intro X hX;rw[s]at hX;exact⟨h0 X (V.trans (hX.mono (by omega))) (by have:=hX.size;omega),(hX.block _ (by omega)).trans pM,(hX.block _ (by omega)).trans M⟩
  ·
   rintro B pre x W⟨h,hl,d⟩ hB hBW hgd;rw[s]at hB hgd⊢;have hy:=run_yield (P:=P) (args:=encs x) hl (by rw[j];exact f_ x);rw[j]at hy;refine⟨fn,_,assign,body,hy,roundIn_of_wpIn Ky (EW _ B pre x W _ h hB hBW hgd ?_)⟩;clear hy;intro a' Wa hax A;have Ld:=(A.block _ (i_ hl).1).trans hl;have SY:=(A.block _ (i_ d).1).trans d;have D:w.heap.size+1<Wa.heap.size:=(i_ Ld).1;refine⟨_,run_beginRound Ld (by rw[j]),?_⟩;have E:(Wa.putObj (w.heap.size+1) (.loop { rec .ready none with state:=.busy })).heap[w.heap.size+1]?=some (.loop { rec .ready none with state:=.busy }):=aX_ D;have G:(Wa.putObj (w.heap.size+1) (.loop { rec .ready none with state:=.busy })).heap[w.heap.size]?=some (.deferred (some [])):=(x6 (by omega)).trans SY;have Rn:(Wa.putObj (w.heap.size+1) (.loop { rec .ready none with state:=.busy })).heap.size=Wa.heap.size:=by simp[World.putObj]
   refine wpIn_mono (Rl _ B pre x a' _ rfl hB (by rw[Rn];have:=A.size;omega) (R B pre x a' Wa _ _ hax (by omega) (by omega))) ?_
   have fin:∀(jump:Option Code) (b:World),xIe w.heap.size (Wa.putObj (w.heap.size+1) (.loop { rec .ready none with state:=.busy })) b ->
     (Instr.endRound (w.heap.size+1) jump).run P b=.ok (.bool jump.isNone) (b.putObj (w.heap.size+1) (.loop (rec (if jump.isNone then .ready else .done) jump))) /\
     (b.putObj (w.heap.size+1) (.loop (rec (if jump.isNone then .ready else .done) jump))).heap[w.heap.size+1]?=some (.loop (rec (if jump.isNone then .ready else .done) jump)) /\
     (b.putObj (w.heap.size+1) (.loop (rec (if jump.isNone then .ready else .done) jump))).heap[w.heap.size]?=some (.deferred (some []))/\B<=b.heap.size:=λjump b f=>by
    have U:=(f.2 _ (by omega) (by omega)).trans E;have:=run_endRound (P:=P) jump U;rw[j]at this⊢;exact⟨this,aX_ (i_ U).1,(x6 (by omega)).trans ((f.2 _ (w_ _) (by omega)).trans G),by have h7:=f.1;rw[Rn]at h7;have:=A.size;omega⟩
   rintro e a3 b y;cases e with
   |normal=>
    obtain⟨f,tV,k⟩:=y;obtain⟨m,u,r,q⟩:=fin none b f;refine⟨_,_,m,.inl ⟨rfl,⟨N B _ _ _ k hB q (zw.putObj _ _ _ ⟨by omega,by omega⟩),u,r⟩,?_⟩⟩;exact H B x W b _ _ (by omega) (by omega) (L B x W Wa b A hBW (J B x Wa _ b _ _ (by omega) (by omega) tV rfl))
   |ret=>
    obtain⟨f,k⟩:=y;obtain⟨m,u,r,q⟩:=fin (some .ret) b f;exact⟨_,_,m,.inr ⟨rfl,.ret,C _ B _ _ _ k hB q (zw.putObj _ _ _ ⟨by omega,by omega⟩),u,r⟩⟩
   |exit id=>
    obtain⟨f,k⟩:=y;obtain⟨m,u,r,q⟩:=fin (some (.exit id)) b f;exact⟨_,_,m,.inr ⟨rfl,.exit id,C _ B _ _ _ k hB q (zw.putObj _ _ _ ⟨by omega,by omega⟩),u,r⟩⟩
   |goto t=>
    obtain⟨f,k⟩:=y;obtain⟨m,u,r,q⟩:=fin (some (.goto t)) b f;exact⟨_,_,m,.inr ⟨rfl,.goto t,C _ B _ _ _ k hB q (zw.putObj _ _ _ ⟨by omega,by omega⟩),u,r⟩⟩
   |panic ch=>exact y.elim
   |outgrown=>exact y.elim
  ·
   rintro e W2⟨⟨v,rfl⟩,(⟨B,xs,hB,hBW,hS,h,hl,d⟩|⟨B,pre,hB,c,h,hl,d⟩)⟩
   ·rw[s]at hB;refine⟨none,_,by have:=run_endLoop (P:=P) hl (by rw[j];simp);rw[j]at this;exact this,aS B xs _ hB (by simpa[World.putObj]using hBW) hS (N B xs _ _ h hB hBW (zw.putObj _ _ _ ⟨by omega,by omega⟩)) ((x6 (by omega)).trans d)⟩
   ·rw[s]at hB;exact⟨some c,_,by have:=run_endLoop (P:=P) hl (by rw[j];simp);rw[j]at this;exact this,Rm c B pre _ hB (C c B pre _ _ h hB (aV c B pre _ h) (zw.putObj _ _ _ ⟨by omega,by omega⟩)) ((x6 (by omega)).trans d)⟩
theorem xPz {ops:Array Oper}{l m:Nat}{Q:Exit->Act->World->Prop}(g:∀(j:Nat) (o:Oper) c,ops[j]?=some o->o.op≠.defer c){i:Nat}{K K':Act->World->Prop}{a:Act}{w:World}(k:¬ LetsOut Q)(hK:∀a w,K a w->K' a w)(h:wpOp P ops Q i K a w):wpOpIn (Fence.wide.inRound l) m P ops Q i K' a w:=by
 unfold wpOp at h;unfold wpOpIn;split at h
 ·rename_i ho;simp only[ho];exact hK _ _ h
 ·rename_i o ho;simp only[ho];split at h
  ·rename_i b;simp only[b,if_true];unfold Oper.wp at h;refine⟨λ_ _=>trivial,?_⟩;have e:o.semAt (Fence.wide.inRound l).round a.eval=execOp a.eval o:=Oper.semAt_some l _ _ (λc=>g i o c ho);rw[e];replace h:=h.resolve_right λhx=>k hx.2
   generalize (execOp a.eval o).run P w=r at h⊢;unfold Oper.upon at h;unfold Oper.uponIn;split at h
   ·exact hK _ _ h
   ·exact hK _ _ h
   ·exact hK _ _ h
   ·refine⟨λhx=>(by cases hx),CallsIn.inRound l (callsIn_wide.2 (h.mono λe w' d=>?_))⟩;cases e with
    |returned v=>exact hK _ _ d
    |panicked c=>exact d
    |outgrown=>exact d
   ·exact⟨λhx=>(by cases hx),λc cs _=>let ⟨v,w',f,hs⟩:=h c cs;⟨v,w',hK _ _ f,stepsIn_wide.2 hs⟩⟩
   ·exact h
   ·exact h.elim
  ·rename_i b;simp only[b];exact⟨λ_ _=>trivial,hK _ _ h⟩
theorem xEk {ops:Array Oper}{l m:Nat}{md:Region.Mode}{Q:Exit->Act->World->Prop}(b:∀(j:Nat) (o:Oper) c,ops[j]?=some o->o.op≠.defer c)(d:¬ LetsOut Q):∀(fuel:Nat) (L:Array Bool) (a:Act) (w:World),wpAny P md ops Q fuel L a w->wpAnyIn (Fence.wide.inRound l) m P md ops Q fuel L a w
 |0,_,_,_,h=>h
 |fuel+1,_,_,_,h=>⟨h.1,λi e=>xPz b d (xEk b d fuel _) (h.2 i e)⟩
def xQw (ops:Array Oper):Bool:=ops.all λo=>match o.op with|.defer _=>false|_=>true
theorem xQv {ops:Array Oper}(h:xQw ops=true):∀(j:Nat) (o:Oper) c,ops[j]?=some o->o.op≠.defer c:=λj o c ho e=>by
 unfold xQw at h;rw[Array.all_eq_true]at h;obtain⟨a,rfl⟩:=Array.getElem?_eq_some_iff.1 ho;have:=h j a;rw[e]at this;cases this
theorem xF3 {ops:Array Oper}{l m id:Nat}{Q:Exit->Act->World->Prop}{a:Act}{w:World}(d:¬ LetsOut (NoPanic Q))(h:wpSt P ops Q [] ops.size a w.drew)(c:xQw ops=true:=by kernel_rfl)(b:P.follows .mixedOrders=true:=by kernel_rfl):(Code.region id ops true).wpIn (Fence.wide.inRound l) m P Q a w:=by
 refine wpIn_mono (wpIn_region_any (Q:=NoPanic Q) b (xEk (xQv c) d _ _ _ _ ?_)) NoPanic.imp;have e:vt ops.size []=Array.replicate ops.size false:=by
  apply cs_
  ·simp[vF]
  ·intro i h1 h2;rw[xE8];simp
 unfold wpSt at h;rw[e]at h;exact h
theorem xGe {fn:Func}{tmps:Array Value}{R:Ending->World->Prop}:∀(Ds:List Nat) (w:World),Ds.Nodup->(∀D∈Ds,w.heap[D]?=some (.deferred (some [])))->(∀w',w'.os=w.os->w'.tape=w.tape->w'.output=w.output->w'.heap.size=w.heap.size->(∀k,k∉Ds->w'.heap[k]?=w.heap[k]?)->LeavesIn F n P fn tmps R [] .returning w')->LeavesInM F n P fn tmps R (Ds.map λD=>{ target:=.collected D,args:=#[] }) .returning w
 |[],w,_,_,h=>h w rfl rfl rfl rfl (λ_ _=>rfl)
 |D :: Ds,w,a,c,h=>by
  rw[U0]at a;refine⟨by simp,.inl ⟨D,_,rfl,run_takeDeferred (c D (by simp)),xGe Ds _ a.2 (λE d=>?_) (λw' l j i g f=>?_)⟩⟩
  ·exact(x6 (by intro e;subst e;exact a.1 d)).trans (c E (by simp[d]))
  ·refine h w' l j i (by simpa[World.putObj]using g) λk b=>?_
   rw[g8,not_or]at b;exact(f k b.2).trans (x6 b.1)
end
section
attribute [local go_sem ↓] xP xI yp y8 ym yw
attribute [local go_sem] zg zj zC zA yM xh xg xe xd xx xy xk xj xq xB xw
attribute [local go_sem ↓] xFg jE jc jd xAg ko
attribute [local go_sem] xSa
theorem xXd (p:Option Addr)(s:ByteArray)(lo a:Int)(w:World):Calls prog 18 #[.pointer p,.string s,.int .i64 lo,.int .i64 a] w λr w'=>
  r=.returned (.func (.func 39) #[] #[.pointer (some ⟨w.heap.size,0,none⟩),.pointer (some ⟨w.heap.size+1,0,none⟩),.pointer (some ⟨w.heap.size+1+1,0,none⟩),.pointer (some ⟨w.heap.size+1+1+1,0,none⟩)]) /\
  (((w.alloc (.cells #[.pointer p] 64)).alloc (.cells #[.string s] 9)).alloc (.cells #[.int .i64 lo] 3)).alloc (.cells #[.int .i64 a] 3)=w':=by
 go_enter func18,ntmps18;go_wp2;go_ret;exact⟨rfl,rfl⟩
def jU (ms:List ML)(lo hi:Int):List qx:=(ms.map (·.p)).filter λp=>decide (lo<=p.number/\p.number<=hi)
def KpL (A B:Nat)(x:ML)(X Y:World):Prop:=X.heap.size<=Y.heap.size/\∀k,A<=k->k<B->x.v.ownBlock≠some k->Y.heap[k]?=X.heap[k]?
def xBl (A:Nat)(w0:World)(pre:List ML)(w:World):Prop:=w0.heap.size<=w.heap.size/\∀k,A<=k->k<w0.heap.size->(∀m∈pre,m.v.ownBlock≠some k)->w.heap[k]?=w0.heap[k]?
theorem xUu {A:Nat}{d w:World}{v:Value}{ls:List ML}(h:vT A d v ls){j:Nat}(g:xBl A d (ls.take j) w)(k rb:Nat)(hv:v.ownBlock=some rb)(i:Nat):w.cell? ⟨rb,k*38+i,none⟩=d.cell? ⟨rb,k*38+i,none⟩:=by
 obtain⟨c,n⟩:=xS h.lin.row hv;have b:=s5 h.lin.row rb hv;refine J9 (a:=⟨rb,k*38+i,none⟩) (g.2 rb b.1 b.2 λm f l=>?_);obtain⟨c2,e⟩:=xS (h.lin.refs m (bi_ f)) l;rw[n]at e;exact absurd (xBh e) (by decide)
theorem xZl {A:Nat}{d w:World}{v:Value}{ls:List ML}{T:List qx}(h:vT A d v ls)(i:ls.map (·.p)=T){k:Nat}(n:xBl A d (ls.take k) w)(a:k<ls.length):GdL T A d.heap.size (ls.take k) ls[k] w:=by
 have hl:(ls.take k).length=k:=by rw[x8];omega
 have c:=h.lin.refs ls[k] (L3 a);refine⟨?_,?_,c.block λj b=>?_,λj b=>(c.lt b).2⟩
 ·rw[hl,<-i,R1,U_ a];rfl
 ·rw[hl,<-i,aI_]
 ·refine n.2 j (c.lt b).1 (c.lt b).2 λm l o=>?_
  have g:=h.apart;have e:ls=ls.take k++ls[k] :: ls.drop (k+1):=by
   rw[<-M3 a,Q0]
  rw[e,List.filterMap_append,List.filterMap_cons_some (f:=λm:ML=>m.v.ownBlock) b,M6]at g;exact g.2.2 j (ax_.2 ⟨m,l,o⟩) j (by simp) rfl
theorem xP4 {A:Nat}{a w:World}{ls:List ML}{k:Nat}(b:xBl A a (ls.take k) w)(f:k<ls.length){X':World}(h:KpL A a.heap.size ls[k] (w.alloc (.cells (x9 ls[k].g) 70)) X'):xBl A a (ls.take k++[ls[k]]) X':=by
 have hs:(w.alloc (.cells (x9 ls[k].g) 70)).heap.size=w.heap.size+1:=by simp
 refine⟨by have:=b.1;have:=h.1;omega,λj e d c=>?_⟩;have h1:=b.1;rw[h.2 j e d (c _ (Z1 _ (S_.2 rfl))),heap_alloc_old _ _ (by omega),b.2 j e d λm i=>c m (aq_ _ i)]
theorem xIu {ms:List ML}{lo b:Int}{i j:Nat}(q:uM (nums ms) lo i i)(hs:(nums ms).Pairwise (· < ·))(y:j<=ms.length-i)(h1:∀m∈(ms.drop i).take j,m.p.number<=b)(h2:∀(hx:i+j<ms.length),b<ms[i+j].p.number):((ms.drop i).take j).map (·.p)=jU ms lo b:=by
 obtain⟨_,o,l,x⟩:=q;have w:(nums ms).length=ms.length:=by unfold nums;rw[M5]
 have f:∀k (h:k<ms.length),(nums ms)[k]'(by rw[w];exact h)=ms[k].p.number:=λk h=>by unfold nums;rw[bj_]
 have g:=hs;rw[bn_]at g;unfold jU;have e:ms=ms.take i++((ms.drop i).take j++(ms.drop i).drop j):=by rw[Q0,Q0]
 conv=>rhs;rw[e]
 rw[L8,bZ_,L8,bZ_];have v:((ms.take i).map (·.p)).filter (λp=>decide (lo<=p.number/\p.number<=b))=[]:=by
  rw[List.filter_eq_nil_iff];intro p c;obtain⟨m,a,rfl⟩:=D4.1 c;obtain⟨k,d,rfl⟩:=bV_ a;rw[x8]at d;have h3:=l k (by omega) (by omega);rw[f k (by omega)]at h3;rw[cf_];simp only[decide_eq_true_eq,not_and];intro h4;omega
 have u:(((ms.drop i).take j).map (·.p)).filter (λp=>decide (lo<=p.number/\p.number<=b))=((ms.drop i).take j).map (·.p):=by
  rw[aG_];intro p c;obtain⟨m,a,rfl⟩:=D4.1 c;rw[decide_eq_true_eq];refine⟨?_,h1 m a⟩;obtain⟨k,d,rfl⟩:=bV_ a;rw[x8,E0]at d;have h3:=x (i+k) (by omega) (by omega);rw[f (i+k) (by omega)]at h3;rw[cf_,bw_];exact h3
 have t:(((ms.drop i).drop j).map (·.p)).filter (λp=>decide (lo<=p.number/\p.number<=b))=[]:=by
  rw[List.filter_eq_nil_iff];intro p c;obtain⟨m,a,rfl⟩:=D4.1 c;rw[aj_]at a;obtain⟨k,d,rfl⟩:=bV_ a;rw[E0]at d;have hx:i+j<ms.length:=by omega
  have h3:=h2 hx;rw[bw_];simp only[decide_eq_true_eq,not_and];intro _ s;by_cases n:k=0
  ·subst n;simp only[aN_]at s;omega
  ·have r:=g (i+j) (i+j+k) (by omega) (by omega) (by omega);rw[f _ hx,f _ (by omega)]at r;omega
 rw[v,u,t,G5,E8]
def yKi (W:World)(S:List ML->Prop)(J Jx:Nat->List ML->World->Prop)(e:Ending)(W':World):Prop:=(∃v,e=.returned v)/\((∃B xs,W.heap.size<=B/\B<=W'.heap.size/\S xs/\J B xs W')\/(∃B pre,W.heap.size<=B/\Jx B pre W'))
theorem xQm (n:Nat)(b0 b1 b2 b3 B ib M mc:Nat)(gs:List MG)(s:ByteArray)(lo t:Int)(W:World)(h0:W.cell? ⟨b0,0,none⟩=some (.pointer (some ⟨ib,0,none⟩)))(h1:W.cell? ⟨b1,0,none⟩=some (.string s))(h2:W.cell? ⟨b2,0,none⟩=some (.int .i64 lo))(h3:W.cell? ⟨b3,0,none⟩=some (.int .i64 t))(h:y5 B W ib M gs mc):
  SeqG Fence.wide n prog 39 #[.pointer (some ⟨b0,0,none⟩),.pointer (some ⟨b1,0,none⟩),.pointer (some ⟨b2,0,none⟩),.pointer (some ⟨b3,0,none⟩)]
   (λx:ML=>#[.agg (x9 x.g)]) (GdL (jU (xC gs s) lo t)) KpL (λxs=>xs.map (·.p)=jU (xC gs s) lo t) W:=λl J Jx hJ Ug Z hY=>by
 show CallsIn _ _ _ _ _ _ (yKi W (λxs=>xs.map (·.p)=jU (xC gs s) lo t) J Jx)
 have HJs:=h_ hJ;have Fe:=h_ Z;have HY:=h_ hY;clear hJ Ug Z hY;have pS:=h.sorted s;have HL:=h_ (vJ B ib M mc gs s W h);have HS:=h_ (xF6 B (qM gs s) (xC gs s) lo W (h.lines s) (h.len s) pS);have an:=h.len s;have LG:=h_ (h.lines s);have lz:=h_ pS;have G3:Hid (∀m∈xC gs s,pErr m.p=0):=h_ λm X=>by
  have hne:xC gs s≠[]:=λe=>by rw[e]at X;cases X
  obtain⟨G,hG,ef,_⟩:=vD hne;exact(h.grps G (yH hG).1).good m (ef▸X)
 clear h pS;generalize xC gs s=ms at HS an LG lz G3 HY⊢;generalize qM gs s=v at HL HS LG;refine callsIn_wide.2 ?_;rcases LG.head with⟨rfl,rfl⟩|⟨gb,cap,rfl,wN,dI,bj,dH,ak⟩
 ·have F:Hid ((([]:List ML).map (·.p))=jU [] lo t):=h_ rfl;go_enter func39,ntmps39;go_wp2_with fail;refine HL.mono ?_;rintro r w' ⟨rfl,rfl⟩;go_wp2_with fail;refine HS.mono ?_;rintro r w1 ⟨i,O,rfl,aa⟩;obtain rfl:i=0:=Nat.le_zero.1 O.2.1;have aq:=h_ aa;clear aa HS HL O;go_wp2;go_loop [6,27] (λp a=>p=.slice none 0 0/\a=.int .i64 0) (λ_ _=>0)
  case atStart=>exact⟨rfl,rfl⟩
  case round=>
   obtain⟨rfl,rfl⟩:=hrel;go_wp2;go_loop [43] (λa=>a=.int .i64 0) (λ_=>0)
   case atStart=>exact rfl
   case round=>
    obtain rfl:=hrel;go_wp2;go_end0;exact⟨⟨_,rfl⟩,.inl ⟨w1.heap.size,[],aq.size,w_ _,F.out,Fe.out w1 aq.out⟩⟩
 ·have HC:=h_ ak;clear ak;obtain⟨i0,hi0,bf,aP,be⟩:=info_parts Tryz.info_line;go_enter func39,ntmps39;go_wp2_with fail;refine HL.mono ?_;rintro r w' ⟨rfl,rfl⟩;go_wp2_with fail;refine HS.mono ?_;rintro r w1 ⟨i,O,rfl,aa⟩;have DH:i<=ms.length:=by have:=O.2.1;unfold nums at this;rw[M5]at this;exact this
  have SX:(i:Int)<=(ms.length:Int):=by omega
  have aq:=h_ aa;have Lj:=h_ O;have Y0:b3<W.heap.size:=block_lt_of_cell h3;have S0:=h3;obtain⟨gx,ox,oZ,hxl,mQ⟩:∃gx ox:Nat,(if cap=i then some (⟨gb,0,none⟩:Addr)else some ⟨gb,i*38,none⟩)=some ⟨gx,ox,none⟩/\gx<W.heap.size/\∀j (D:i+j<ms.length) k u,(xL ms[i+j].g)[k]?=some u->W.cell? ⟨gx,ox+j*38+k,none⟩=some u:=by
   by_cases hc:cap=i
   ·exact⟨gb,0,if_pos hc,dI,λj D=>by omega⟩
   ·refine⟨gb,i*38,if_neg hc,dI,λj D k u K=>?_⟩;have:=HC.out (i+j) D k u K
    rwa [show (i+j)*38+k=i*38+j*38+k by omega]at this
  have tF:=h_ mQ;have CK:=h_ S0;clear aa O HS HL mQ HC h0 h1 h2 h3 S0;go_wp2
  try rw[oZ]
  clear oZ;go_loopw [6,27] (λlv a wr=>∃(k:Nat) (ls:List ML),k<=ms.length-i/\a=.int .i64 k/\Hid (ls.map (·.p)=((ms.drop i).take k).map (·.p))/\Hid (∀m∈(ms.drop i).take k,m.p.number<=t)/\Hid (vT W.heap.size wr lv ls)/\Hid (Below W.heap.size W wr)) (λ_ a _=>ms.length-(intOf a).toNat)
  case atStart=>exact⟨0,[],by omega,rfl,h_ rfl,h_ (λm X=>by simp at X),h_ (vT.nil _ _),aq⟩
  case round=>
   obtain⟨k,ls,N,rfl,P,U,d,b⟩:=hrel;have Rp:ls.length=k:=by
    have:=congrArg List.length P.out;rw[M5,M5,x8,E0]at this;omega
   have cO:Hid (ls.length<=65536):=h_ (by omega);have Dd:=h_ Rp;clear Rp;obtain⟨la,ln,lc,M4⟩:∃a n c,u6=.slice a n c:=zd d.lin.row;subst M4;by_cases hltk:k<ms.length-i
   ·have aM:(k:Int)<(ms.length:Int)-(i:Int):=by omega
    have Fq:i+k<ms.length:=by omega
    obtain⟨o1,d1⟩:=jv (w:=wr) (g:=gx) (off:=ox+k*38) (l:=ms[i+k].g) (λj u K=>(b.cell (p:=⟨gx,ox+k*38+j,none⟩) hxl).trans (tF.out k Fq j u K));have Ly:wr.cell? ⟨b3,0,none⟩=some (.int .i64 t):=(b.cell (p:=⟨b3,0,none⟩) Y0).trans CK.out;have aW:ms[i+k]∈ms:=L3 Fq;have fj:=xG1 (G3.out _ aW)
    have z:Hid ((ms.drop i).take (k+1)=(ms.drop i).take k++[ms[i+k]]):=h_ (by
     rw[d0 (by rw[E0];omega),bw_])
    have Bs:=h_ (LG.refs _ aW);obtain⟨m,Y3⟩:=f3 (ms[i+k]);rw[<-Y3]at d1 fj z Bs aW;have rq:=h_ Y3;clear Y3;obtain⟨f,E⟩:=f3 (wr.alloc (.cells (x9 m.g) 70));have Kz:Below wr.heap.size wr f:=by rw[E];exact b_ _ _
    have Ls:y4 f wr.heap.size m.g:=by rw[E];exact heap_alloc_new _ _
    have fy:=(Ls.cell 0).trans (lc0 m.g);have EX:f.cell? ⟨b3,0,none⟩=some (.int .i64 t):=(Kz.cell (block_lt_of_cell Ly)).trans Ly;obtain⟨o2,H⟩:=Ls.rd;have lS:((x9 xK).size==38)=true:=by rw[xO];rfl
    have L:=Bs.one;have aU:=zJ (g:=m.g) L;have I:=h_ (b.trans (Kz.mono b.size):Below W.heap.size W f);have R:Hid (vT W.heap.size f (.slice la ln lc) ls):=h_ ⟨d.lin.below Kz,d.apart⟩;have hmn:(ML.g m).number=m.p.number:=rfl;rw[hmn]at fy;rw[E]at fy EX o2 H;by_cases hgt:t<m.p.number
    ·have F:Hid (ls.map (·.p)=jU ms lo t):=h_ (P.trans (xIu Lj.out lz.out (by omega) U.out (λhx=>by rw[<-rq.out];exact hgt)));clear P U d b;have d:=R;have b:=I;clear R I;rcases d.lin.head with⟨di,Rq⟩|⟨rb,rcap,g_,J3,fj,Y4,EF,dK⟩
     ·cases di
      have Y5:=h_ Rq;clear Rq;go_wp2;rw[<-E];clear E fy EX o1 d1 o2 H;go_loop [43] (λi=>i=.int .i64 0) (λ_=>0)
      case atStart=>exact rfl
      case round=>
       obtain rfl:=hrel;go_wp2;go_end0;exact⟨⟨_,rfl⟩,.inl ⟨f.heap.size,ls,b.size,w_ _,F.out,by rw[Y5.out];exact Fe.out f b.out⟩⟩
     ·cases g_
      have cZ:ls.length<=65536:=cO.out;have T:=h_ dK;have KA:rb<f.heap.size:=fj;clear dK;go_wp2;rw[<-E];clear E fy EX o1 d1 o2 H;refine(wpIn_wide (n:=n)).1 ?_;obtain⟨q,CI⟩:=f3 f;rw[<-CI]at d b T KA⊢;clear CI
      gi_loopw [43] (λi wy=>∃k:Nat,k<=ls.length/\i=.int .i64 k/\Hid (J q.heap.size (ls.take k) wy)/\Hid (xBl W.heap.size q (ls.take k) wy)) (λi _=>ls.length-(intOf i).toNat)
      case atStart=>exact⟨0,by omega,rfl,h_ (Fe.out q b.out),h_ ⟨w_ _,λ_ _ _ _=>rfl⟩⟩
      case round=>
       obtain⟨k,N,rfl,DL,o⟩:=hrel;by_cases hltk:k<ls.length
       ·have aM:(k:Int)<(ls.length:Int):=by omega
        obtain⟨o1,d1⟩:=jv (w:=wr) (g:=rb) (off:=k*38) (l:=ls[k].g) (λi u K=>(xUu d.out o.out k rb rfl i).trans (T.out k hltk i u K));have V:=h_ (xZl d.out F.out o.out hltk);have z:=h_ (d0 hltk);have dj:=h_ (λX'=>xP4 o.out hltk (X':=X'));have L:=(d.lin.refs ls[k] (L3 hltk)).one;have aU:=zJ (g:=ls[k].g) L;have o2:=jN wr ls[k].g 70;have H:=jL wr ls[k].g 70;have KB:=HY.out q.heap.size (ls.take k) ls[k] (wr.alloc (.cells (x9 ls[k].g) 70)) (HJs.out _ _ _ _ DL.out b.size o.1 (zw.of_below ((z_ _ _).alloc (w_ _) _))) b.size (by have:=o.1;simp;omega) (V.below ((z_ _ _).alloc (w_ _) _));obtain⟨fn,tmps,assign,body,hy,Y⟩:=KB
        try dsimp only at hy
        have lS:((x9 xK).size==38)=true:=by rw[xO];rfl
        have C:=h_ Y;clear Y V;generalize ls[k]=x at o1 d1 o2 H z dj aU L hy C
        gi_wp2
        refine⟨λhd=>(by cases hd),C.mono ?_⟩;rintro e W3 (⟨rfl,Ft,bz⟩|⟨rfl,S⟩)
        ·have AD:=h_ Ft;have nO:=h_ (dj.out W3 bz);clear Ft bz C hy
         gi_wp2
         go_roundw
         case rel=>exact⟨k+1,by omega,by go_num,h_ (by rw[z.out];exact AD.out),h_ (by rw[z.out];exact nO.out)⟩
         case measure=>simp[intOf];omega
        ·have AV:=h_ S;clear S C hy
         gi_wp2
         refine bodyPost_ret (results_none rfl _ _ _) rfl ?_;exact⟨⟨_,rfl⟩,.inr ⟨q.heap.size,_,b.size,AV.out⟩⟩
       ·have HE:Hid (ls.take k=ls):=h_ (v6 (by omega))
        gi_wp2
        go_end0;exact⟨⟨_,rfl⟩,.inl ⟨q.heap.size,ls,b.size,o.1,F.out,by have:=DL.out;rw[HE.out]at this;exact this⟩⟩
    ·have Y6:m.p.number<=t:=by omega
     have Y7:Hid (∀x∈(ms.drop i).take (k+1),x.p.number<=t):=h_ λx hx=>by
      rw[z.out]at hx;rcases m3.1 hx with hx|hx
      ·exact U.out x hx
      ·rw[S_.1 hx];exact Y6
     have dV:=h_ (xEc B m.g m.p.ids f (Bs.below I.out) (by omega));clear d b Bs;go_wp2_with fail;rw[<-E];clear E fy EX o1 d1 o2 H;refine dV.mono ?_;rintro r A ⟨v',rfl,pR,ai⟩;obtain⟨x,hx⟩:∃x:ML,x=⟨m.p,v'⟩:=⟨_,rfl⟩;have Pp:({ m.g with refs:=v' }:jp)=x.g:=by rw[hx];rfl
     have Jo:x.p=m.p:=by rw[hx]
     have Pq:x.v=v':=by rw[hx]
     rw[Pp];have iH:Hid (yJ f.heap.size A x.v x.p.ids):=h_ (by rw[Jo,Pq];exact pR);have Wc:=h_ Jo;have o8:∀u∈xL x.g,u.oneCell'=true:=uA (g:=x.g) (by show x.v.oneCell'=true;exact iH.one);have BM:=h_ o8;have Q:=h_ (I.trans (ai.mono I.size):Below W.heap.size W A);have eL:=(R.lin.below ai);have th:Hid (vT W.heap.size A (.slice la ln lc) ls):=h_ ⟨eL,R.apart⟩;have tR:f.heap.size<=A.heap.size:=ai.size;have eG:=eL.row.alloc (.cells (x9 x.g) 70);have D6:=h_ (λj D=>(s5 eL.row j D).1);have hsW1:W.heap.size<=f.heap.size:=I.size;clear pR ai hx Pp Jo Pq o8 eL I dV;have HLL2:=cO.out;rw[Dd.out]at eG;go_wp2_with (at_builtin;refine wpList_append_own _ rfl (.tmp 35) (.tmp 38) 132 rfl W.heap.size 70 i0 (.agg (x9 xK)) 38 112 underlying132 hi0 bf aP be (xO _) (by decide) _ _ _ rfl eG ⟨A.heap.size,0,none⟩ 1 1 (xL x.g) rfl (yr _) ?c1 BM.out ?c3 ?c4 ?c5 ?_)
     case c1=>
      intro j u D;rw[l8,m0,yD];unfold x9;rw[l7];exact D
     case c3=>unfold maxLen;omega
     case c4=>omega
     case c5=>have:=Q.size;simp;omega
     intro v2 w3 G4 EY _;have ao:Below W.heap.size W w3:=(Q.alloc Q.size _).grown EY (by have:=Q.size;simp;omega) (λj D=>D6.out j D);have wZ:∀k,(Value.slice la ln lc).ownBlock=some k->∃c,(A.alloc (.cells (x9 x.g) 70)).heap[k]?=some (.cells c 70 (0,0)):=λk N=>xS eG N
     have il:Below A.heap.size A (A.alloc (.cells (x9 x.g) 70)):=(z_ _ _).alloc (w_ _) _;have eU:vT W.heap.size w3 v2 (ls++[x]):=by
      refine R.snoc ?_ (λy hy=>xE4 ((th.lin.refs y hy).below il) EY wZ) (xE4 ((iH.below il).mono (by have:=Q.size;omega)) EY wZ) ?_
      ·rw[Dd.out];exact G4
      ·exact λk N=>(iH.lt N).1
     have ll:=h_ eU;have aJ:=h_ ao;have wC:Hid ((ls++[x]).map (·.p)=((ms.drop i).take (k+1)).map (·.p)):=h_ (by rw[z.out,L8,L8,P.out];simp[Wc.out]);clear G4 EY ao wZ il eU eG;go_wp2;go_roundw
     case rel=>exact⟨k+1,ls++[x],by omega,by go_num,wC,Y7,ll,aJ⟩
     case measure=>simp[intOf];omega
   ·have F:Hid (ls.map (·.p)=jU ms lo t):=h_ (P.trans (xIu Lj.out lz.out (by omega) U.out (λhx=>by omega)));clear P U;rcases d.lin.head with⟨di,Rq⟩|⟨rb,rcap,g_,J3,fj,Y4,EF,dK⟩
    ·cases di
     have Y5:=h_ Rq;clear Rq;go_wp2;go_loop [43] (λi=>i=.int .i64 0) (λ_=>0)
     case atStart=>exact rfl
     case round=>
      obtain rfl:=hrel;go_wp2;go_end0;exact⟨⟨_,rfl⟩,.inl ⟨wr.heap.size,ls,b.size,w_ _,F.out,by rw[Y5.out];exact Fe.out wr b.out⟩⟩
    ·cases g_
     have cZ:ls.length<=65536:=cO.out;have T:=h_ dK;have KA:rb<wr.heap.size:=fj;clear dK;go_wp2;refine(wpIn_wide (n:=n)).1 ?_;obtain⟨q,CI⟩:=f3 wr;rw[<-CI]at d b T KA⊢;clear CI
     gi_loopw [43] (λi wy=>∃k:Nat,k<=ls.length/\i=.int .i64 k/\Hid (J q.heap.size (ls.take k) wy)/\Hid (xBl W.heap.size q (ls.take k) wy)) (λi _=>ls.length-(intOf i).toNat)
     case atStart=>exact⟨0,by omega,rfl,h_ (Fe.out q b.out),h_ ⟨w_ _,λ_ _ _ _=>rfl⟩⟩
     case round=>
      obtain⟨k,N,rfl,DL,o⟩:=hrel;by_cases hltk:k<ls.length
      ·have aM:(k:Int)<(ls.length:Int):=by omega
       obtain⟨o1,d1⟩:=jv (w:=wr) (g:=rb) (off:=k*38) (l:=ls[k].g) (λi u K=>(xUu d.out o.out k rb rfl i).trans (T.out k hltk i u K));have V:=h_ (xZl d.out F.out o.out hltk);have z:=h_ (d0 hltk);have dj:=h_ (λX'=>xP4 o.out hltk (X':=X'));have L:=(d.lin.refs ls[k] (L3 hltk)).one;have aU:=zJ (g:=ls[k].g) L;have o2:=jN wr ls[k].g 70;have H:=jL wr ls[k].g 70;have KB:=HY.out q.heap.size (ls.take k) ls[k] (wr.alloc (.cells (x9 ls[k].g) 70)) (HJs.out _ _ _ _ DL.out b.size o.1 (zw.of_below ((z_ _ _).alloc (w_ _) _))) b.size (by have:=o.1;simp;omega) (V.below ((z_ _ _).alloc (w_ _) _));obtain⟨fn,tmps,assign,body,hy,Y⟩:=KB
       try dsimp only at hy
       have lS:((x9 xK).size==38)=true:=by rw[xO];rfl
       have C:=h_ Y;clear Y V;generalize ls[k]=x at o1 d1 o2 H z dj aU L hy C
       gi_wp2
       refine⟨λhd=>(by cases hd),C.mono ?_⟩;rintro e W3 (⟨rfl,Ft,bz⟩|⟨rfl,S⟩)
       ·have AD:=h_ Ft;have nO:=h_ (dj.out W3 bz);clear Ft bz C hy
        gi_wp2
        go_roundw
        case rel=>exact⟨k+1,by omega,by go_num,h_ (by rw[z.out];exact AD.out),h_ (by rw[z.out];exact nO.out)⟩
        case measure=>simp[intOf];omega
       ·have AV:=h_ S;clear S C hy
        gi_wp2
        refine bodyPost_ret (results_none rfl _ _ _) rfl ?_;exact⟨⟨_,rfl⟩,.inr ⟨q.heap.size,_,b.size,AV.out⟩⟩
      ·have HE:Hid (ls.take k=ls):=h_ (v6 (by omega))
       gi_wp2
       go_end0;exact⟨⟨_,rfl⟩,.inl ⟨q.heap.size,ls,b.size,o.1,F.out,by have:=DL.out;rw[HE.out]at this;exact this⟩⟩
end
end Go.Proofs.YtdhapkeimaljfaaGreatDoor
namespace Go.Proofs.YtdhapkeimaljfaaGreatDoor
open Go Go.RowKit Go.Proofs Go.ChangeShapes Go.WideShapes Tryz
section
variable {H:Type} {enc:TypeId×Value->H} {W:World} {base fuel:Nat} {sp:Nat->Bool} {held:Bool}
theorem xI8:prog.cellsOf 41=32:=by kernel_rfl
theorem xFm:prog.cellsOf 5=1:=by kernel_rfl
theorem xPi:prog.cellsOf 3=1:=by kernel_rfl
theorem xYl:prog.cellsOf 4=1:=by kernel_rfl
theorem ji:prog.cellsOf 9=1:=by kernel_rfl
theorem xYk:prog.cellsOf 43=1:=by kernel_rfl
theorem xYm:prog.cellsOf 47=1:=by kernel_rfl
theorem xW0:prog.cellsOf 49=40:=by kernel_rfl
theorem yCj:prog.bytesOf 41=32:=by kernel_rfl
theorem yCh:prog.bytesOf 9=16:=by kernel_rfl
theorem yD8 {cs:List Value}{i:Nat}{v:Value}(h:(cs.drop i).take 1=[v]):cs[i]?=some v:=by
 have a:((cs.drop i).take 1)[0]?=some v:=by rw[h];rfl
 simpa using a
theorem xUb {cs:List Value}{x:DataW H×List MemPlace}(h:DataW.trod enc prog W base sp held fuel 41 cs=some x):∃id:Id32,cs=xl id:=by
 obtain⟨xs,m,_,_,hl,k,f⟩:=DataW.trod_array underlying41 h;rw[xI8]at hl;have each:∀i,i<32->∃b:UInt8,cs[i]?=some (.int .u8 b.toNat):=λi a=>by
  have d:=f i a;rw[xFm,ai_,U_ (by omega)]at d;obtain⟨z,g,_,e⟩:=bC_ underlying5 d;have j:0<=z/\z<=255:=by simpa[Lit.wf,IntKind.min,IntKind.max,IntKind.signed,IntKind.bits]using e
  refine⟨UInt8.ofNat z.toNat,?_⟩;rw[yD8 g];have:(UInt8.ofNat z.toNat).toNat=z.toNat:=by simp;omega
  rw[this];congr 2;omega
 refine⟨⟨cs.map λv=>match v with|.int _ n=>UInt8.ofNat n.toNat|_=>0,by simp[hl]⟩,?_⟩;apply bA_;intro i;by_cases a:i<32
 ·obtain⟨b,c⟩:=each i a;rw[c];simp[xl,c]
 ·rw[aZ_ (by omega)];exact(aZ_ (R_ (bk_ (xD _)) (by omega))).symm
theorem yBe {cs:List Value}{d:DataW H}{ps:List MemPlace}(h:DataW.trod enc prog W base sp held fuel 47 cs=some (d,ps))(t:∀n∈d.weights prog 47,n<=reachBytes):
  ∃v ids,cs=[v]/\(∃a c,v=.slice a (ids:List Id32).length c/\ids.length<=c/\(ids≠[]->∃b off,a=some ⟨b,off,none⟩/\b<W.heap.size/\xBm W b off ids))/\ids.length*32<=reachBytes:=by
 rcases bK_ underlying47 h with⟨rfl,_⟩|⟨a,len,cap,elems,rest,m,_,rfl,hx,D,hl,C,F,y,_,_⟩
 ·exact⟨_,[],rfl,⟨none,0,rfl,w_ _,λh=>absurd rfl h⟩,by simp⟩
 ·have w:d=.slice (elems.map (·.1)) (rest.map (·.1)):=(bP_ hx).1;have G:(elems.length+rest.length)*32<=reachBytes:=by
   refine t _ ?_;rw[w];unfold DataW.weights;rw[underlying47];simp[yCj]
  have each:∀i,i<len->∃id:Id32,∀j u,(xl id)[j]?=some u->W.cell? ((a.add (i*32)).add j)=some u:=λi e=>by
   have r:=y i e;rw[xI8,U_ (by omega)]at r;obtain⟨cs',B,ht⟩:=ah_.1 r;obtain⟨id,rfl⟩:=xUb ht;obtain⟨_,E,A⟩:=bD_ B;exact⟨id,λj u g=>(A j (by have:=(L7.1 g).1;rw[xD]at this;exact this)).trans g⟩
  have hall:∃f:Nat->Id32,∀i,i<len->∀j u,(xl (f i))[j]?=some u->W.cell? ((a.add (i*32)).add j)=some u:=by
   refine⟨λi=>if e:i<len then Classical.choose (each i e)else default,λi e=>?_⟩;simp only[e,dif_pos];exact af_ (each i e)
  obtain⟨f,q⟩:=hall;refine⟨_,(List.range len).map f,rfl,⟨some a,cap,by simp,by simpa using hl,λk=>?_⟩,?_⟩
  ·have x:0<len:=by
    cases len with
    |zero=>simp at k
    |succ n=>omega
   have s:=q 0 x 0 _ (xI4 (f 0) 0 (by omega));have o:a.spot=none:=by simpa[Addr.add]using ck_ s
   obtain⟨b,off,spot⟩:=a;simp only at o;subst o;refine⟨b,off,rfl,by have:=block_lt_of_cell s;simpa[Addr.add]using this,λj g i u p=>?_⟩;have l:j<len:=by simpa using g
   have z:((List.range len).map f)[j]! = f j:=by
    rw[getElem!_pos _ j (by simpa using l)];simp
   rw[z]at p;have:=q j l i u p
   rwa [l8,l8]at this
  ·simp;omega
theorem yBd {cs:List Value}{d:DataW H}{ps:List MemPlace}(h:DataW.trod enc prog W base sp held fuel 43 cs=some (d,ps))(t:∀n∈d.weights prog 43,n<=reachBytes):
  ∃v gs,cs=[v]/\(∃a c,v=.slice a (gs:List ByteArray).length c/\gs.length<=c/\(gs≠[]->∃b off,a=some ⟨b,off,none⟩/\b<W.heap.size/\uk W b off gs))/\gs.length*16<=reachBytes:=by
 rcases bK_ underlying43 h with⟨rfl,_⟩|⟨a,len,cap,elems,rest,m,_,rfl,hx,C,hl,B,E,y,_,_⟩
 ·exact⟨_,[],rfl,⟨none,0,rfl,w_ _,λh=>absurd rfl h⟩,by simp⟩
 ·have u:d=.slice (elems.map (·.1)) (rest.map (·.1)):=(bP_ hx).1;have F:(elems.length+rest.length)*16<=reachBytes:=by
   refine t _ ?_;rw[u];unfold DataW.weights;rw[underlying43];simp[yCh]
  have each:∀i,i<len->∃s:ByteArray,W.cell? (a.add i)=some (.string s):=λi e=>by
   have q:=y i e;rw[ji,U_ (by omega)]at q;obtain⟨cs',A,ht⟩:=ah_.1 q;obtain⟨s,rfl,_,_⟩:=be_ underlying9 ht;obtain⟨_,D,z⟩:=bD_ A;refine⟨s,?_⟩;have:=z 0 (by omega);simpa[Addr.add]using this
  have hall:∃f:Nat->ByteArray,∀i,i<len->W.cell? (a.add i)=some (.string (f i)):=by
   refine⟨λi=>if e:i<len then Classical.choose (each i e)else default,λi e=>?_⟩;simp only[e,dif_pos];exact af_ (each i e)
  obtain⟨f,p⟩:=hall;refine⟨_,(List.range len).map f,rfl,⟨some a,cap,by simp,by simpa using hl,λg=>?_⟩,?_⟩
  ·have w:0<len:=by
    cases len with
    |zero=>simp at g
    |succ n=>omega
   have r:=p 0 w;have o:a.spot=none:=by simpa[Addr.add]using ck_ r
   obtain⟨b,off,spot⟩:=a;simp only at o;subst o;refine⟨b,off,rfl,by have:=block_lt_of_cell r;simpa[Addr.add]using this,λj x k=>?_⟩;have l:j<len:=by have:=(L7.1 k).1;simpa using this
   rw[R1,bW_ l]at k;cases k;have:=p j l
   rwa [l8]at this
  ·simp;omega
end
end Go.Proofs.YtdhapkeimaljfaaGreatDoor
namespace Go.Proofs.YtdhapkeimaljfaaGreatDoor
open Go Go.RowKit Go.Proofs Go.ChangeShapes Go.WideShapes Tryz
section
variable {H:Type} {enc:TypeId×Value->H} {W:World} {base fuel:Nat} {sp:Nat->Bool} {held:Bool}
theorem yEc {cs:List Value}{d:DataW H}{ps:List MemPlace}(h:DataW.trod enc prog W base sp held fuel 49 cs=some (d,ps))(C:∀n∈d.weights prog 49,n<=reachBytes):
  ∃A gs ids,cs=yP A/\xH7 W A gs ids:=by
 have s:=underlying49;obtain⟨xs,m,_,hx,hl,r,b⟩:=DataW.trod_struct s h;rw[xW0]at hl;have F:d=.agg (xs.map (·.1)):=(bP_ hx).1;obtain⟨q,p,o,l,i,e,g,c,f,rfl⟩:∃q p o l i e g c f,xs=[q,p,o,l,i,e,g,c,f]:=by
  match xs,r with
  |[q,p,o,l,i,e,g,c,f],_=>exact⟨q,p,o,l,i,e,g,c,f,rfl⟩
 have z:DataW.trod enc prog W base sp held m 41 ((cs.drop 0).take (prog.cellsOf 41))=some q:=b 0 _ rfl;rw[xI8]at z;have h1:DataW.trod enc prog W base sp held m 9 ((cs.drop 32).take (prog.cellsOf 9))=some p:=b 1 _ rfl;rw[ji]at h1;have h2:DataW.trod enc prog W base sp held m 9 ((cs.drop 33).take (prog.cellsOf 9))=some o:=b 2 _ rfl;rw[ji]at h2;have h3:DataW.trod enc prog W base sp held m 3 ((cs.drop 34).take (prog.cellsOf 3))=some l:=b 3 _ rfl;rw[xPi]at h3;have h4:DataW.trod enc prog W base sp held m 3 ((cs.drop 35).take (prog.cellsOf 3))=some i:=b 4 _ rfl;rw[xPi]at h4;have x:DataW.trod enc prog W base sp held m 43 ((cs.drop 36).take (prog.cellsOf 43))=some e:=b 5 _ rfl;rw[xYk]at x;have w:DataW.trod enc prog W base sp held m 9 ((cs.drop 37).take (prog.cellsOf 9))=some g:=b 6 _ rfl;rw[ji]at w;have v:DataW.trod enc prog W base sp held m 47 ((cs.drop 38).take (prog.cellsOf 47))=some c:=b 7 _ rfl;rw[xYm]at v;have u:DataW.trod enc prog W base sp held m 4 ((cs.drop 39).take (prog.cellsOf 4))=some f:=b 8 _ rfl;rw[xYl]at u;clear b r
 have B:∀(j:Nat) (t:TypeId) (y:DataW H),([41,9,9,3,3,43,9,47,4]:List TypeId)[j]?=some t->([q,p,o,l,i,e,g,c,f].map (·.1))[j]?=some y->∀n∈y.weights prog t,n<=reachBytes:=λj t y ht hy n r=>by
  refine C n ?_;rw[F];unfold DataW.weights;rw[s];exact bE_ ht hy n r
 obtain⟨id,Q⟩:=xUb z;obtain⟨tx,P,_,_⟩:=be_ underlying9 h1;obtain⟨nm,O,_,_⟩:=be_ underlying9 h2;obtain⟨dt,N,_,_⟩:=bC_ underlying3 h3;obtain⟨av,M,_,_⟩:=bC_ underlying3 h4;obtain⟨gv,gs,L,E,R⟩:=yBd (d:=e.1) (ps:=e.2) x (B 5 _ _ rfl rfl);obtain⟨sj,K,_,_⟩:=be_ underlying9 w;obtain⟨rv,ids,J,D,G⟩:=yBe (d:=c.1) (ps:=c.2) v (B 7 _ _ rfl rfl);obtain⟨pm,I,_⟩:=DataW.trod_bool underlying4 u;refine⟨⟨id,tx,nm,dt,av,gv,sj,rv,pm⟩,gs,ids,?_,E,D,by unfold reachBytes at R;omega,by unfold reachBytes at G;omega⟩;have cut:∀k a,cs.drop k=(cs.drop k).take a++cs.drop (k+a):=λk a=>by rw[<-aj_,Q0]
 have c0:=cut 0 32;rw[Q,cut 32 1,P,cut 33 1,O,cut 34 1,N,cut 35 1,M,cut 36 1,L,cut 37 1,K,cut 38 1,J,cut 39 1,I,M0 (by omega:cs.length<=39+1),aS_]at c0;rw[c0];simp[yP,zZ]
structure LOp where
 k:Nat
 A:Art
 gs:List ByteArray
 ids:List Id32
 key:ByteArray
def ke (o:LOp):List Value:=.int .u8 o.k :: (yP o.A++[.string o.key])
theorem xLi (o):(ke o).length=42:=by simp[ke,yZ]
theorem xPh:prog.cellsOf 53=42:=by kernel_rfl
theorem yCi:0<prog.bytesOf 53:=of_decide_eq_true (by kernel_rfl)
theorem yEb {cs:List Value}{d:DataW H}{ps:List MemPlace}(h:DataW.trod enc prog W base sp held fuel 53 cs=some (d,ps))(p:∀n∈d.weights prog 53,n<=reachBytes):
  ∃o:LOp,cs=ke o/\o.k<256/\xH7 W o.A o.gs o.ids/\o.key.size<=maxLen:=by
 have i:=underlying53;obtain⟨xs,m,_,hx,hl,f,g⟩:=DataW.trod_struct i h;rw[xPh]at hl;have r:d=.agg (xs.map (·.1)):=(bP_ hx).1;obtain⟨e,b,c,rfl⟩:∃e b c,xs=[e,b,c]:=by
  match xs,f with
  |[e,b,c],_=>exact⟨e,b,c,rfl⟩
 have l:DataW.trod enc prog W base sp held m 5 ((cs.drop 0).take (prog.cellsOf 5))=some e:=g 0 _ rfl;rw[xFm]at l;have h1:DataW.trod enc prog W base sp held m 49 ((cs.drop 1).take (prog.cellsOf 49))=some b:=g 1 _ rfl;rw[xW0]at h1;have h2:DataW.trod enc prog W base sp held m 9 ((cs.drop 41).take (prog.cellsOf 9))=some c:=g 2 _ rfl;rw[ji]at h2;clear g f;have y:∀n∈b.1.weights prog 49,n<=reachBytes:=λn f=>by
  refine p n ?_;rw[r];unfold DataW.weights;rw[i];exact bE_ (j:=1) (t:=49) (d:=b.1) rfl rfl n f
 obtain⟨z,w,_,x⟩:=bC_ underlying5 l;have C:0<=z/\z<=255:=by simpa[Lit.wf,IntKind.min,IntKind.max,IntKind.signed,IntKind.bits]using x
 obtain⟨A,gs,ids,v,s⟩:=yEc (d:=b.1) (ps:=b.2) h1 y;obtain⟨ky,u,_,q⟩:=be_ underlying9 h2;refine⟨⟨z.toNat,A,gs,ids,ky⟩,?_,by show z.toNat<256;omega,s,q⟩;have cut:∀k a,cs.drop k=(cs.drop k).take a++cs.drop (k+a):=λk a=>by rw[<-aj_,Q0]
 have c0:=cut 0 1;rw[w,cut 1 40,v,cut 41 1,u,M0 (by omega:cs.length<=41+1),aS_]at c0;rw[c0];have B:((z.toNat:Nat):Int)=z:=by omega
 unfold ke;simp only;rw[B];simp
end
end Go.Proofs.YtdhapkeimaljfaaGreatDoor
namespace Go.Proofs.YtdhapkeimaljfaaGreatDoor
open Go Go.RowKit Go.Proofs Go.ChangeShapes Go.WideShapes Tryz
structure yGo (w:World)(v:Value)(os:List LOp):Prop where
 sl:∃a c,v=.slice a os.length c/\os.length<=c/\(os≠[]->∃b off,a=some ⟨b,off,none⟩/\b<w.heap.size/\∀(j:Nat) (o:LOp),os[j]?=some o->∀i u,(ke o)[i]?=some u->w.cell? ⟨b,off+j*42+i,none⟩=some u)
 few:os.length<=140737488355328
 each:∀o∈os,o.k<256/\xH7 w o.A o.gs o.ids/\o.key.size<=maxLen
section
variable {H:Type} {enc:TypeId×Value->H} {W:World} {base fuel:Nat} {sp:Nat->Bool} {held:Bool}
theorem xCi {P:Program}{e:TypeId}:∀{l:List (DataW H)} {d:DataW H},d∈l->∀n∈d.weights P e,n∈DataW.weightsAll P e l
 |x :: l,d,a,n,b=>by
  unfold DataW.weightsAll;rcases g8.1 a with rfl|a
  ·exact aq_ _ b
  ·exact Z1 _ (xCi a n b)
theorem yBf {cs:List Value}{d:DataW H}{ps:List MemPlace}(h:DataW.trod enc prog W base sp held fuel 22 cs=some (d,ps))(t:∀n∈d.weights prog 22,n<=reachBytes):
  ∃v os,cs=[v]/\yGo W v os:=by
 rcases bK_ underlying22 h with⟨rfl,_⟩|⟨a,len,cap,elems,rest,m,_,rfl,hx,N,hl,M,Q,I,_,_⟩
 ·exact⟨_,[],rfl,⟨⟨none,0,rfl,w_ _,λh=>absurd rfl h⟩,by simp,λ_ h=>(by cases h)⟩⟩
 ·have w:d=.slice (elems.map (·.1)) (rest.map (·.1)):=(bP_ hx).1;have L:(elems.length+rest.length)*prog.bytesOf 53<=reachBytes:=by
   refine t _ ?_;rw[w];unfold DataW.weights;rw[underlying22];simp
  have B:∀x∈elems,∀n∈x.1.weights prog 53,n<=reachBytes:=λx hx n F=>by
   refine t n ?_;rw[w];unfold DataW.weights;rw[underlying22];have:=xCi (P:=prog) (e:=53) (l:=elems.map (·.1)) (D4.2 ⟨x,hx,rfl⟩) n F;simp[this]
  have each:∀i,i<len->∃o:LOp,(∀j u,(ke o)[j]?=some u->W.cell? ((a.add (i*42)).add j)=some u)/\o.k<256/\xH7 W o.A o.gs o.ids/\o.key.size<=maxLen:=λi c=>by
   have y:=I i c;rw[xPh,U_ (by omega)]at y;obtain⟨cs',K,ht⟩:=ah_.1 y;obtain⟨o,rfl,C⟩:=yEb (d:=(elems[i]'(by omega)).1) (ps:=(elems[i]'(by omega)).2) ht (B _ (L3 _));obtain⟨_,O,J⟩:=bD_ K;exact⟨o,λj u g=>(J j (by have:=(L7.1 g).1;rw[xLi]at this;exact this)).trans g,C⟩
  have hall:∃f:Nat->LOp,∀i,i<len->(∀j u,(ke (f i))[j]?=some u->W.cell? ((a.add (i*42)).add j)=some u)/\(f i).k<256/\xH7 W (f i).A (f i).gs (f i).ids/\(f i).key.size<=maxLen:=by
   refine⟨λi=>if c:i<len then Classical.choose (each i c)else ⟨0,ut,[],[],⟨#[]⟩⟩,λi c=>?_⟩;simp only[c,dif_pos];exact af_ (each i c)
  obtain⟨f,q⟩:=hall;have D:len<=140737488355328:=by
   have h1:=yCi;unfold reachBytes at L;have:elems.length*1<=(elems.length+rest.length)*prog.bytesOf 53:=Nat.mul_le_mul (by omega) h1;omega
  refine⟨_,(List.range len).map f,rfl,⟨⟨some a,cap,by simp,by simpa using hl,λp=>?_⟩,by simpa using D,λo ho=>?_⟩⟩
  ·have G:0<len:=by
    cases len with
    |zero=>simp at p
    |succ n=>omega
   have z:=(q 0 G).1 0 _ (by unfold ke;rfl);have s:a.spot=none:=by simpa[Addr.add]using ck_ z
   obtain⟨b,off,spot⟩:=a;simp only at s;subst s;refine⟨b,off,rfl,by have:=block_lt_of_cell z;simpa[Addr.add]using this,λj o g i u E=>?_⟩;have r:j<len:=by have:=(L7.1 g).1;simpa using this
   rw[R1,bW_ r]at g;cases g;have:=(q j r).1 i u E
   rwa [l8,l8]at this
  ·obtain⟨i,c,rfl⟩:=D4.1 ho;exact(q i (aB_.1 c)).2
end
end Go.Proofs.YtdhapkeimaljfaaGreatDoor
namespace Go.Proofs.YtdhapkeimaljfaaGreatDoor
open Go Go.RowKit Go.Proofs Go.ChangeShapes Go.WideShapes Tryz
section
variable {H:Type} {enc:TypeId×Value->H} {W:World} {base fuel:Nat} {sp:Nat->Bool} {held:Bool}
theorem xUa {cs:List Value}{x:DataW H×List MemPlace}(h:DataW.trod enc prog W base sp held fuel 23 cs=some x):∃v l,cs=[v]/\xN1 W v l:=by
 rcases bK_ underlying23 h with⟨rfl,_⟩|⟨a,len,cap,elems,rest,m,_,rfl,hx,t,hl,n,w,o,_,_⟩
 ·exact⟨_,[],rfl,.inl ⟨rfl,rfl⟩⟩
 ·have each:∀i,i<len->∃b:UInt8,W.cell? (a.add i)=some (.int .u8 b.toNat):=λi c=>by
   have j:=o i c;rw[xFm,U_ (by omega)]at j;obtain⟨cs',r,ht⟩:=ah_.1 j;obtain⟨z,rfl,_,k⟩:=bC_ underlying5 ht;obtain⟨_,u,p⟩:=bD_ r;have s:0<=z/\z<=255:=by simpa[Lit.wf,IntKind.min,IntKind.max,IntKind.signed,IntKind.bits]using k
   refine⟨UInt8.ofNat z.toNat,?_⟩;have d:=p 0 (by omega);have h1:(((UInt8.ofNat z.toNat).toNat:Nat):Int)=z:=by
    have:(UInt8.ofNat z.toNat).toNat=z.toNat:=by simp;omega
    omega
   rw[h1];simpa[Addr.add]using d
  have hall:∃f:Nat->UInt8,∀i,i<len->W.cell? (a.add i)=some (.int .u8 (f i).toNat):=by
   refine⟨λi=>if c:i<len then Classical.choose (each i c)else 0,λi c=>?_⟩;simp only[c,dif_pos];exact af_ (each i c)
  obtain⟨f,g⟩:=hall;by_cases d:0<len
  ·refine⟨_,(List.range len).map f,rfl,.inr (.inl ⟨a,cap,by simp,⟨λq x hq=>?_⟩,?_,by simpa using hl,n⟩)⟩
   ·have e:q<len:=by have:=(L7.1 hq).1;simpa using this
    rw[R1,bW_ e]at hq;cases hq;exact g q e
   ·have:=block_lt_of_cell (g 0 d);simpa[Addr.add]using this
  ·obtain rfl:len=0:=by omega
   exact⟨_,[],rfl,.inr (.inr ⟨a,cap,rfl,rfl⟩)⟩
end
end Go.Proofs.YtdhapkeimaljfaaGreatDoor
namespace Go.Proofs.YtdhapkeimaljfaaGreatDoor
open Go Go.RowKit Go.Proofs Tryz
section
theorem xRz (ro)(ρ:Operand->Value)(d x)(ty:TypeId)(pos af g w):
  Sem.run prog (Oper.semAt ro ρ ⟨d,.load 72 x,ty,pos,af,g⟩) w=yq prog 72 w (ρ x):=by
 rw[an_ _ _ _ (by intro c h;cases h)]
 exact qG ..
theorem xS1 (ro)(ρ:Operand->Value)(d)(ty:TypeId)(pos af g w):
  Sem.run prog (Oper.semAt ro ρ ⟨d,.alloc 42,ty,pos,af,g⟩) w=.ok (.value (.pointer (some ⟨w.heap.size,0,none⟩))) (w.alloc (.cells (xl yI).toArray 42)):=by
 rw[an_ _ _ _ (by intro c h;cases h)]
 exact vQ ..
theorem xKx {P:Program}{fn:Func}{p ty}(h:fn.results=#[.cell p ty])(e:∀w,Sem.run P (isAgg ty) w=.ok false w)(tmps:Array Value)(w)(a:Addr)(v)(c:tmps.getD p undef=.pointer (some a))(d:w.cell? a=some v):
  (results fn tmps).run P w=.ok v w:=by
 have b:tmps[p]?.getD undef=.pointer (some a):=by simpa using c
 simp[results,h,asAddr,b,loadVar,e,d]
theorem xH7.below {w w':World}{A gs ids}(h:xH7 w A gs ids){B}(a:Below B w w')(k:w.heap.size<=B):xH7 w' A gs ids:=by
 obtain⟨⟨ga,gc,h1,h2,h3⟩,⟨ra,rc,h4,j,i⟩,g,f⟩:=h;refine⟨⟨ga,gc,h1,h2,λd=>?_⟩,⟨ra,rc,h4,j,λd=>?_⟩,g,f⟩
 ·obtain⟨b,off,e,hl,c⟩:=h3 d;exact⟨b,off,e,by have:=a.size;omega,c.below' a (by omega)⟩
 ·obtain⟨b,off,e,hl,c⟩:=i d;exact⟨b,off,e,by have:=a.size;omega,c.below a (by omega)⟩
structure InSt (c:PC)(M:Nat)(tk ds:List Nat)(W0:World)(kb k:Nat)(X:World):Prop where
 kept:Kept [M] W0 X
 use:jo c X M
 kx:X.heap[kb]?=some (.cells #[.int .i64 k] 3 (0,0))
 ms:∀d∈ds,X.heap[d]?=some (.deferred (some []))
 md:ds.Nodup
 mb:∀d∈ds,d∈tk\/W0.heap.size<=d
theorem InSt.fr {c M g ds i kb k X}(h:InSt c M g ds i kb k X){w D uc cv cs}(a:zN w D uc M g cv cs i):zN w D uc M ds cv cs X:=by
 have h1:=a.keep (h.kept.below a.DW (λj b=>by rw[S_.1 b];exact a.MD)) (λj b=>h.kept.block j (a.lt j (.tail _ b)) (λf=>by
  rw[S_.1 f]at b;rcases g8.1 b with e|e
  ·exact a.ne.1 e.symm
  ·exact a.ne.2 e))
 have n:=a.ML;have o:=a.wD;have m:=a.DW;exact {h1 with ms:=h.ms,md:=h.md,ne:=⟨a.ne.1,λf=>(h.mb M f).elim a.ne.2 (by omega)⟩,mb:=λd l=>(h.mb d l).elim (a.mb d) (by omega)}
theorem InSt.al {c M d ds f kb k X}(h:InSt c M d ds f kb k X){D p uc sb q m ops U F}(h1:StOk D f sb p 640 q U M (ve 2000 ops) c F)(h2:LawC ops c)(h3:ops.length<=m)(h4:∀k∈M :: uc :: d,k∉F):qK D p uc M ds q m sb X:=by
 refine⟨ops,c,U,F,h1.kept h.kept (h4 M (by simp)),h2,h3,λj a b=>?_,h.use⟩;have hl:=(h1.flt j b).2;rcases g8.1 a with e|a
 ·exact h4 j (by simp[e]) b
 ·rcases g8.1 a with e|a
  ·exact h4 j (by simp[e]) b
  ·exact(h.mb j a).elim (λg=>h4 j (by simp[g]) b) (by omega)
def xZk (n:Nat)(a:Act)(w:World):Nat:=match a.tmps.getD 20 undef with
 |.pointer (some p)=>n-(intOf ((w.cell? p).getD undef)).toNat
 |_=>0
theorem InSt.left {c M a ds b kb k X}(h:InSt c M a ds b kb k X){t df}(hs:t.getD 20 undef=.pointer (some ⟨kb,0,none⟩))(n):xZk n { tmps:=t,defers:=df } X=n-k:=by
 unfold xZk;rw[hs];show n-(intOf ((X.cell? ⟨kb,0,none⟩).getD undef)).toNat=_
 rw[f0 0 h.kx];rfl
structure UsI (c:PC)(M:Nat)(W Y:World):Prop where
 kept:Kept [M] W Y
 use:jo c Y M
theorem UsI.beside {c M W Y Z B}(h:UsI c M W Y)(d:M<W.heap.size)(a:zw W.heap.size B Y Z):UsI c M W Z:=
 ⟨⟨a.os.trans h.kept.os,a.tape.trans h.kept.tape,a.output.trans h.kept.output,R_ h.kept.size a.size,λk b e=>(a.block k (b7 b h.kept.size) (.inl b)).trans (h.kept.block k b e)⟩,h.use.block (a.block M (b7 d h.kept.size) (.inl d))⟩
theorem InSt.noM {c M b ds f kb k X}(h:InSt c M b ds f kb k X):kb≠M/\M∉ds:=by
 obtain⟨l,cc,a,_⟩:=h.use;unfold xV at a;refine⟨λe=>?_,λd=>?_⟩
 ·have:=h.kx;rw[e,a]at this;cases this
 ·have:=h.ms M d;rw[a]at this;cases this
theorem InSt.next {c M j ds i kb k X}(h:InSt c M j ds i kb k X){b Y:World}(g:Below X.heap.size X b)(e:UsI c M b Y)(r:M<i.heap.size)(l:Y.heap[b.heap.size]?=some (.deferred (some []))):
  InSt c M j (b.heap.size :: ds) i Y.heap.size (k+1) (Y.alloc (.cells #[.int .i64 ((k:Int)+1)] 3)):=by
 have t:=h.kept.size;have s:=g.size;have q:=e.kept.size;have f:Below Y.heap.size Y (Y.alloc (.cells #[.int .i64 ((k:Int)+1)] 3)):=(z_ _ _).alloc (w_ _) _;have p:b.heap.size<Y.heap.size:=(i_ l).1;have m:∀d∈ds,d<X.heap.size:=λd a=>(i_ (h.ms d a)).1
 refine⟨((h.kept.trans (Kept.of_below (F:=[]) g) (λ_ h=>by cases h)).trans e.kept (λk o=>.inl o)).trans (Kept.of_below (F:=[]) f) (λ_ h=>by cases h),e.use.block (f.block M (by omega)),heap_alloc_new _ _,λd a=>?_,U0.2 ⟨λa=>by have:=m _ a;omega,h.md⟩,λd a=>?_⟩
 ·rcases g8.1 a with rfl|a
  ·exact(f.block _ p).trans l
  ·have hl:=m d a;exact((f.block _ (by omega)).trans ((e.kept.block d (by omega) (λn=>h.noM.2 (by rw[<-S_.1 n];exact a))).trans (g.block d hl))).trans (h.ms d a)
 ·rcases g8.1 a with rfl|a
  ·exact .inr (by omega)
  ·exact h.mb d a
structure NumAx (T:List qx)(lv mv cv:Value)(rc p sb uc n i ib gc kb:Nat)(c:PC)(M:Nat)(W:World)(B:Nat)(pre:List ML)(x:ML)(a:Act)(Y:World):Prop where
 us:UsI c M W Y
 gd:GdL T (W.heap.size+2) B pre x Y
 sl:ISl a.tmps lv mv cv rc p sb uc n i ib gc kb
 df:a.defers=[]
 yb:∃yb,y4 Y yb x.g/\W.heap.size+2<=yb/\a.tmps.getD 21 undef=.pointer (some ⟨yb,0,none⟩)
def yKk (w0:World)(D p uc M:Nat)(lv mv cv:Value)(cs:List UInt8)(N:Nat)(a:Act)(W:World):Prop:=∃ds sb n i,NSl a.tmps lv mv cv w0.heap.size p sb uc n i/\a.defers=ds.map xJ3/\zN w0 D uc M ds cv cs W/\qK D p uc M ds (102+2*i) i sb W/\n<=i/\i<=N/\i<=16
def xZj (a:Act)(_:World):Nat:=16-(intOf (a.tmps.getD 13 undef)).toNat
theorem NSl.left {t ds}{lv mv cv:Value}{rc p sb uc n i:Nat}(h:NSl t lv mv cv rc p sb uc n i)(W):xZj { tmps:=t,defers:=ds } W=16-i:=by
 unfold xZj;rw[h.s13];simp[intOf]
attribute [local go_sem] Oper.semAt_some
attribute [local go_sem ↓] jE jc jd xAg ko xRz xS1
attribute [local go_sem ↓] qG qU xGr xP xI yp y8 ym xJi xGp xGt qd uC qZ xJh xGo xGs
attribute [local go_sem] xE7 yM xKv xHw xHh yG6 zg zj zC zA yEt yDg xD7 xCu yEs yDf xGk xh xg xe xd xx xy xk xj xq xB xw
theorem yAo {y}(hG:Gl y){lv os}(hl:yGo y lv os){mv ms}(hm:xN1 y mv ms){xv xs}(hx:xN1 y xv xs):
  Calls prog 3 #[lv,mv,xv] y λe w'=>e=.returned (.bool true)/\Below y.heap.size y w':=by
 obtain⟨W,hW⟩:=f3 (y.alloc (.cells #[.bool false] 4));have bu:Below y.heap.size y W:=by grind
 have hC0:W.heap[y.heap.size]?=some (.cells #[.bool false] 4 (0,0)):=by grind
 have nu:W.heap.size=y.heap.size+1:=by grind
 have HKN:=h_ (xT5 (hG.later bu));obtain⟨la,lc,rfl,tK,hlr⟩:=hl.sl;obtain⟨ma,mc,rfl,RM,hmr⟩:∃a c,mv=.slice a ms.length c/\(ms.length:Int)<=9223372036854775807/\(ms≠[]->∃b:Addr,a=some b/\SlB y b ms/\b.block<y.heap.size):=by
  rcases hm with⟨h1,h2⟩|⟨a,c,h1,h2,h3,h4,h5⟩|⟨a,c,h1,h2⟩
  ·subst h2;exact⟨none,0,h1,by simp,λh=>absurd rfl h⟩
  ·exact⟨some a,c,h1,by unfold maxLen at h5;omega,λ_=>⟨a,rfl,h2,h3⟩⟩
  ·subst h2;exact⟨some a,c,h1,by simp,λh=>absurd rfl h⟩
 have HG:=h_ hG;have HL:=h_ hl;have Oc:=h_ hlr;have HMR:=h_ hmr;have HX:=h_ hx;have ei:=h_ bu;have gY:=h_ hC0;have iy:=h_ nu;obtain⟨N,hN⟩:=f3 os.length;obtain⟨Nm,Y8⟩:=f3 ms.length;have nZ:(N:Int)<=140737488355328:=by have:=hl.few;omega
 rw[<-Y8]at RM⊢;rw[<-hN]at⊢;have HN:=h_ hN;have HNM:=h_ Y8;clear hG hl hm hx hlr hmr bu hC0 nu hN Y8;refine(callsIn_wide (n:=3)).1 (callsIn_of_wp_marks func3 rfl trivial ?_ rfl);simp only[ntmps3,T9,x5,L1,Nat.reduceAdd,Nat.reduceSub,aO_,aP_,bd_,aR_,E8,L2];refine wpIn_wide.2 ?_;go_wp2_with fail;rw[<-hW];clear hW;refine HKN.mono ?_;rintro e w1 ⟨rfl,aa⟩;have aq:=h_ (ei.trans (aa.mono ei.size):Below y.heap.size y w1);have Dk:=h_ ((aa.block _ (by rw[iy.out];omega)).trans gY.out);have FD:=h_ (yAi xs (HX.below aq.out));have cz:Hid (y.heap.size<w1.heap.size):=h_ (by have:=aa.size;have:=iy.out;omega);clear aa HKN ei gY iy;go_wp2_with fail;refine FD.mono ?_;rintro e w2 ⟨ai,cv,rfl,ae⟩;have ax:=h_ (aq.trans (ai.mono aq.size):Below y.heap.size y w2);have Jp:=h_ ((ai.block _ cz.out).trans Dk.out);have sY:=h_ ae;have HFS:=h_ (yBw (HG.later ax.out));have dU:Hid (y.heap.size<w2.heap.size):=h_ (b7 cz.out ai.size);clear ai ae FD aq Dk cz;go_wp2_with fail;refine HFS.mono ?_;rintro e w3 ⟨D,p,sb,F,pT,nJ,rfl,ao,P⟩;have aJ:=h_ (ax.trans (ao.mono ax.size):Below y.heap.size y w3);have nP:=h_ ((ao.block _ dU.out).trans Jp.out);have Rr:=h_ (xZe sY.out ao (λk I=>(s5 sY.out k I).2))
 have lY:=@run_makeMap prog;have gK:xt 6 (s29 2000)=true:=xGk 2000;have hz6:((s29 0).size==6)=true:=rfl;obtain⟨w4,cY⟩:=f3 (((w3.alloc (.cells (s29 2000) 36)).alloc (.map #[] 0)).alloc (.cells #[.map (some (w3.heap.size+1))] 39));have aQ:Below w3.heap.size w3 w4:=by grind
 have fF:w4.heap.size=w3.heap.size+3:=by grind
 have sQ:w4.heap[w3.heap.size+1]?=some (.map #[] 0):=by grind
 have Lq:w4.heap[w3.heap.size+1+1]?=some (.cells #[.map (some (w3.heap.size+1))] 39 (0,0)):=by grind
 obtain⟨M,hM⟩:=f3 (w3.heap.size+1);obtain⟨uc,hu⟩:=f3 (w3.heap.size+1+1);obtain⟨cs,aB⟩:=f3 ((xs.take 100).map adjC);have hFr:zN y D uc M [] cv cs w4:=by
  refine⟨HG.out,aJ.trans (aQ.mono aJ.size),by have:=dU.out;omega,R_ nJ aQ.size,(aQ.block _ ?_).trans nP.out,⟨w1.heap.size,?_⟩,λk I=>b7 (s5 sY.out k I).2 pT,?_,by simp;omega,by omega,by omega,λd hd=>(by cases hd),.nil,λd hd=>(by cases hd),?_,?_⟩
  ·exact(i_ nP.out).1
  ·rw[aB];exact OwnB.below Rr.out aQ
  ·rw[hu,hM];exact Lq
  ·intro c hc;rw[aB]at hc;obtain⟨a,_,rfl⟩:=D4.1 hc;exact yI7 a
  ·rw[aB,M5];have:=bU_ 100 xs;omega
 have Rs:=P.flt;have hAl:qK D p uc M [] (102+2*0) 0 sb w4:=⟨[],qH 2000,true,F,P.at aQ (by omega) (by omega),yEw,w_ _,λk I hm=>by have:=(Rs k hm).2;simp at I;omega,.new _ (by rw[hM];exact sQ)⟩;have C:=h_ hFr;have cR:=h_ hAl;have A_:=h_ cY;have HM:=h_ hM;have HU:Hid (uc=M+1):=h_ (by rw[hu,hM]);clear hFr hAl Rs fF sQ Lq aQ P ao pT nJ sY Rr dU Jp nP ax aJ cY hM hu aB HFS;go_wp2;rw[<-A_.out,<-HM.out,<-HU.out];clear A_ HM HU;refine wp_loop (yKk y D p uc M (.slice la N lc) (.slice ma Nm mc) cv cs N) xZj ?start ?round
 case start=>exact⟨[],sb,0,0,⟨rfl,rfl,rfl,rfl,rfl,rfl,rfl,rfl,rfl,rfl⟩,rfl,C.out,cR.out,w_ _,n3 _,n3 _⟩
 case round=>
  clear C cR sb F;rintro a W ⟨ds,sb,n,i,O,Rt,me,il,O2,MC,Ru⟩;obtain⟨tm,df⟩:=a;obtain rfl:df=ds.map xJ3:=Rt;have KC:=O.left (ds:=ds.map xJ3) W;generalize xZj { tmps:=tm,defers:=ds.map xJ3 } W=mu at KC;obtain⟨f,hf,aU⟩:=O.out;simp only at aU;subst aU;have Pg:=h_ KC;have C:=h_ me;have cR:=h_ il;have Ji:=h_ O2;clear KC O hf me il O2;by_cases hlt:i<N/\i<16
  ·have aM:(i:Int)<N:=by omega
   have mT:(i:Int)<16:=by omega
   obtain⟨o,ho⟩:∃o,os[i]?=some o:=⟨_,U_ (by rw[<-HN.out];exact hlt.1)⟩;obtain⟨b,off,rfl,az,CJ⟩:=Oc.out (by intro e;rw[e]at ho;cases ho)
   obtain⟨Rv,Rw,Ih⟩:=HL.each o (ab_ ho);have Lo:=h_ (CJ i o ho);have Rx:=h_ Rw;have gQ:=h_ az;clear CJ Rw az ho hlt MC Ru Oc;go_upto_region 12 with fail
   go_cut [55]from 46 to 170 (λc wx=>(∃c0:Bool,c=.bool c0/\Hid (c0=true->n<Nm/\n<6))/\wx=W)
   case first=>
    rename_i J K' hJ hK;by_cases h1:n<Nm
    ·have Yz:(n:Int)<Nm:=by omega
     by_cases h2:n<6
     ·have h2z:(n:Int)<6:=by omega
      go_wp2;go_meet;exact⟨⟨_,rfl,h_ λ_=>⟨h1,h2⟩⟩,rfl⟩
     ·have h2z:¬ (n:Int)<6:=by omega
      go_wp2;go_meet;exact⟨⟨_,rfl,h_ λh=>(by cases h)⟩,rfl⟩
    ·have Yz:¬ (n:Int)<Nm:=by omega
     go_wp2;go_meet;exact⟨⟨_,rfl,h_ λh=>(by cases h)⟩,rfl⟩
   case rest=>
   obtain⟨⟨c0,rfl,gY⟩,rfl⟩:=hcut;go_upto_if 55 with fail
   go_cut []from 46 to 170 (λwx=>Hid (zN y D uc M ds cv cs wx)/\Hid (qK D p uc M ds (102+2*i) i sb wx))
   case first=>
    rename_i J K' hJ hK;cases c0 with
    |false=>
     go_wp2;go_meet;exact⟨C,cR⟩
    |true=>
     obtain⟨h1,h2⟩:=gY.out rfl;have Yz:(n:Int)<Nm:=by omega
     have fW:n<ms.length:=by rw[<-HNM.out];exact h1
     obtain⟨bm,rfl,O,hbm⟩:=HMR.out (by intro e;rw[e]at fW;cases fW)
     have ak:=(C.bl.cell (p:=bm.add n) (by rw[xY];exact hbm)).trans (O.cell n _ (U_ fW));obtain⟨x,hx⟩:=f3 (ms[n].toNat);rw[<-hx]at ak;have hx255:(x:Int)<=255:=by rw[hx];have:=ms[n].toNat_lt;omega
     obtain⟨kk,AS⟩:∃kk:Nat,(x:Int)%16=(kk:Int):=⟨x%16,by omega⟩;have aT:(kk:Int)<=15:=by omega
     have LG:=h_ (yBg C.out cR.out kk (by omega));clear h1 h2 fW O hbm hx;go_wp2_with fail;refine LG.mono ?_;rintro e w' ⟨rfl,h1,h2⟩;have H1:=h_ h1;have H2:=h_ h2;clear h1 h2;go_wp2;go_meet;exact⟨H1,H2⟩
   case rest=>
   clear C cR gY;obtain⟨C,cR⟩:=hcut;have AR:∀j u,(ke o)[j]?=some u->wc.cell? ⟨b,off+i*42+j,none⟩=some u:=λj u hj=>(C.bl.cell (p:=⟨b,off+i*42+j,none⟩) gQ.out).trans (Lo.out j u hj)
   obtain⟨oA,rA⟩:=yl (w:=wc) (a:=⟨b,off+i*42+1,none⟩) (cs:=yP o.A) (λj u hj=>by
    rw[l8,ch_,cn_ 1 j];refine AR (j+1) u ?_;show (yP o.A++[.string o.key])[j]?=some u
    rw[I3 (L7.1 hj).1];exact hj)
   rw[yZ]at oA rA;rw[show (yP o.A).toArray=xA o.A from rfl]at rA;have Ry:=h_ (xW6 (w:=wc) o.A o.gs o.ids (Rx.below C.bl (w_ _)));have si:((xA ut).size==40)=true:=by rw[yt];rfl
   clear AR Rx;go_wp2_with fail;refine Ry.mono ?_;rintro e wa ⟨X,Y,rfl,au,dJ,fM,eo,aK⟩;obtain⟨xb,Bh⟩:=f3 wa.heap.size;obtain⟨wx,hwx⟩:=f3 ((wa.alloc (.cells (xA Y) 46)).alloc (.cells (xA X) 49));have bP:Below wa.heap.size wa wx:=by grind
   have ew:wx.heap[xb]?=some (.cells (xA Y) 46 (0,0)):=by grind
   have hfy:xt 40 (xA Y)=true:=vA au.ones.1 au.ones.2;have ir:xt 40 (xA X)=true:=vA fM eo;have KD:Below wc.heap.size wc wx:=aK.trans (bP.mono aK.size);have G6:=h_ (C.below KD);have LI:=h_ (cR.below KD C.ML);have ee:=h_ (au.below bP);have Gj:=h_ ew;have lR:wx.cell? ⟨b,off+i*42,none⟩=some (.int .u8 o.k):=(G6.bl.cell (p:=⟨b,off+i*42,none⟩) gQ.out).trans (Lo.out 0 _ rfl);have hk255:(o.k:Int)<=255:=by omega
   clear au dJ fM eo aK bP ew KD C cR Ry Rv;go_upto_region 15 with fail
   refine xm hwx ?_;rw[<-Bh];clear hwx Bh oA rA ir hfy si;go_upto_block 2 with fail
   go_cut []from 46 to 170 (λwx=>Hid (zN y D uc M ds cv cs wx)/\Hid (qK D p uc M ds (102+2*i) (i+1) sb wx\/xPt D p uc M ds (102+2*i) i sb wx))
   case first=>
    rename_i J K' hJ hK;have EZ:i<=15:=by omega
    obtain⟨k4,r4⟩:=xF (n:=40) Gj.out (yt _);obtain⟨k3,r3⟩:=xF1 (l:=[]) (show wx.heap[xb]?=some (.cells (yP Y++[]).toArray 46 (0,0)) by rw[G5];exact Gj.out)
    have Y9:wx.cell? ⟨b,off+i*42+41,none⟩=some (.string o.key):=(G6.bl.cell (p:=⟨b,off+i*42+41,none⟩) gQ.out).trans (Lo.out 41 _ (by
     show (yP o.A++[.string o.key])[40]?=_
     rw[M1 (by rw[yZ];exact w_ _),yZ];rfl))
    have HPU:=h_ (yHe G6.out LI.out EZ Y _ ee.out (yCl _ _ _));have tU:=h_ (xXm G6.out LI.out EZ Y.id);have P1:=h_ (yEf G6.out LI.out EZ o.key Ih);have dV:=h_ (yBh G6.out LI.out EZ o.key);clear lR;by_cases h0:o.k%6=0
    ·have e0:((o.k:Int)%6==0)=true:=by rw[beq_iff_eq];omega
     clear h0 k3 r3 Y9;go_wp2_with fail;refine HPU.mono ?_;rintro e w' ⟨⟨_,h1,h2⟩,v,k,rfl⟩;have H1:=h_ h1;have H2:=h_ h2;clear h1 h2;go_wp2;go_meet;exact⟨H1,H2⟩
    have e0:((o.k:Int)%6==0)=false:=by rw[beq_eq_false_iff_ne];omega
    by_cases h1:o.k%6=1
    ·have e1:((o.k:Int)%6==1)=true:=by rw[beq_iff_eq];omega
     clear h0 h1 k4 r4 Y9;go_wp2_with fail;refine tU.mono ?_;rintro e w' ⟨⟨v,rfl⟩,h1,h2⟩;have H1:=h_ h1;have H2:=h_ h2;clear h1 h2;go_wp2;go_meet;exact⟨H1,H2⟩
    have e1:((o.k:Int)%6==1)=false:=by rw[beq_eq_false_iff_ne];omega
    by_cases h2:o.k%6=2
    ·have e2:((o.k:Int)%6==2)=true:=by rw[beq_iff_eq];omega
     clear h0 h1 h2 k4 r4 k3 r3;go_wp2_with fail;refine P1.mono ?_;rintro e w' ⟨⟨v,rfl⟩,h1,h2⟩;have H1:=h_ h1;have H2:=h_ h2;clear h1 h2;go_wp2;go_meet;exact⟨H1,H2⟩
    have e2:((o.k:Int)%6==2)=false:=by rw[beq_eq_false_iff_ne];omega
    by_cases h3:o.k%6=3
    ·have e3:((o.k:Int)%6==3)=true:=by rw[beq_iff_eq];omega
     clear h0 h1 h2 h3 k4 r4 k3 r3;go_wp2_with fail;refine dV.mono ?_;rintro e w' ⟨⟨v,rfl⟩,h1,h2⟩;have H1:=h_ h1;have H2:=h_ h2;clear h1 h2;go_wp2;go_meet;exact⟨H1,H2⟩
    have e3:((o.k:Int)%6==3)=false:=by rw[beq_eq_false_iff_ne];omega
    clear h0 h1 h2 h3 k4 r4 k3 r3 Y9;go_wp2;go_meet;exact⟨G6,h_ (.inl (LI.mono (w_ _) (by omega)))⟩
   case rest=>
   clear G6 LI ee Gj Lo lR;obtain⟨C,td⟩:=hcut;go_upto_region 24 with fail
   go_cut [110]from 46 to 170 (λc wx=>wx=wc/\((c=.bool false/\Hid (qK D p uc M ds (102+2*i) (i+1) sb wc))\/(c=.bool true/\Hid (xPt D p uc M ds (102+2*i) i sb wc))))
   case first=>
    rename_i J K' hJ hK;rcases td.out with ha|ha
    ·have HA:=h_ ha;clear ha;go_wp2_with fail;refine(yBi HA.out).mono ?_;rintro e w' ⟨rfl,rfl⟩;go_wp2;go_meet;exact⟨rfl,.inl ⟨rfl,HA⟩⟩
    ·have HA:=h_ ha;clear ha;go_wp2_with fail;refine(yEg HA.out).mono ?_;rintro e w' ⟨rfl,rfl⟩;go_wp2;go_meet;exact⟨rfl,.inr ⟨rfl,HA⟩⟩
   case rest=>
   clear td;obtain⟨rfl,td⟩:=hcut;go_upto_if 110 with fail
   go_cut [8,12]from 46 to 170 (λs c wx=>∃sb' n':Nat,s=.pointer (some ⟨sb',0,none⟩)/\c=.int .i64 n'/\n'<=i+1/\Hid (zN y D uc M ds cv cs wx)/\Hid (qK D p uc M ds (102+2*(i+1)) (i+1) sb' wx))
   case first=>
    rename_i J K' hJ hK;rcases td with⟨rfl,HA⟩|⟨rfl,HA⟩
    ·go_wp2;go_meet;exact⟨sb,n,rfl,rfl,Nat.le_succ_of_le Ji.out,C,h_ (HA.mono (by omega) (w_ _))⟩
    ·have nZ:(n:Int)<=16:=by have:=Ji.out;omega
     go_wp2_with fail;refine(xUd C.out HA.out).mono ?_;rintro e w' ⟨rfl,h1,h2⟩;have H1:=h_ h1;have H2:=h_ h2;clear h1 h2 C HA;go_wp2_with fail;refine(xXl H1.out H2.out (by omega)).mono ?_;rintro e w'⟨sb',rfl,h3,h4⟩;have H3:=h_ h3;have H4:=h_ h4;clear h3 h4 H1 H2;go_wp2;go_meet;exact⟨sb',n+1,rfl,by go_num,Nat.succ_le_succ Ji.out,H3,h_ (H4.mono (by omega) (w_ _))⟩
   case rest=>
   clear td C sb n Ji;obtain⟨sb,n,rfl,rfl,hn,C,cR⟩:=hcut;obtain⟨ops,c,U,F,P,Rz,an,hnF,RA⟩:=cR.out;have HOV:=h_ (xKj P);have a_:=h_ P;have S1:=h_ (And.intro Rz (And.intro an hnF));have ol:=h_ RA;have Vg:=h_ hn;clear P Rz an hnF RA cR hn;go_wp2_with fail;refine HOV.mono ?_;rintro e w6 ⟨bM,ib,Mi,gs,mci,rfl,gV,DC⟩;have hG6:=(C.below bM).gl;have Bd:=h_ (xRd wc.heap.size ib Mi mci gs w6 hG6 gV);have fH:=h_ bM;have Jq:=h_ gV;have WY:=h_ DC;clear bM gV DC hG6 HOV;go_wp2_with fail;refine Bd.mono ?_;rintro e w7 ⟨gv,ns,rfl,gI,eQ,aW,co,_⟩;have fW:ns.length<=65536:=by
    have h1:ns.Nodup:=eQ.imp λ{a b} hab e=>by rw[e,xBg]at hab;omega
    have h2:ns.length<=(gs.map λG=>G.name).length:=h1.length_le_of_subset λt ht=>by
     obtain⟨G,hG,e⟩:=(aW t).1 ht;exact D4.2 ⟨G,hG,e⟩
    rw[M5]at h2;exact R_ h2 Jq.groups
   obtain⟨ga,gcap,rfl,cT⟩:∃a c,gv=.slice a ns.length c/\(ns≠[]->∃b,a=some ⟨b,0,none⟩/\w6.heap.size<=b/\b<w7.heap.size/\uk w7 b 0 ns):=by
    rcases gI with⟨e1,rfl⟩|⟨b,c,rfl,_,ah,UM,az⟩
    ·exact⟨none,0,by rw[e1];rfl,λh=>absurd e1 h⟩
    ·exact⟨_,c,rfl,λ_=>⟨b,rfl,UM,az,ah⟩⟩
   obtain⟨gc,CZ⟩:=f3 w7.heap.size;obtain⟨L,hL⟩:=f3 ns.length;rw[<-hL]at fW⊢;obtain⟨T,Gt⟩:=f3 ((w7.alloc (.cells #[.slice ga L gcap] 43)).alloc (.cells #[.int .i64 0] 3));have iO:Below w7.heap.size w7 T:=by grind
   have oJ:T.heap[gc]?=some (.cells #[.slice ga L gcap] 43 (0,0)):=by grind
   have wE:T.heap[gc+1]?=some (.cells #[.int .i64 0] 3 (0,0)):=by grind
   have KF:Below w6.heap.size w6 T:=co.trans (iO.mono co.size);have gM:Below wc.heap.size wc T:=fH.trans (KF.mono fH.size);have rF:=h_ (C.below gM);have Ss:=h_ (a_.below gM);have HU8:=h_ (ol.block (gM.block M C.ML));have DQ:=h_ (Jq.below KF);have H6:=h_ oJ;have XM:=h_ wE;have Y_:Hid (M<wc.heap.size/\wc.heap.size<=w6.heap.size/\w6.heap.size<=gc):=h_ ⟨C.ML,fH.size,by rw[CZ];exact co.size⟩;have BY:Hid (ns≠[]->∃b,ga=some ⟨b,0,none⟩/\w6.heap.size<=b/\b<T.heap.size/\uk T b 0 ns):=h_ λQ=>by
    obtain⟨b,e,h1,h2,h3⟩:=cT Q;exact⟨b,e,h1,b7 h2 iO.size,h3.below' iO h2⟩
   have VD:=h_ hL;have Lu:=h_ Gt;have Lp:=h_ CZ;have hc0:InSt c M ds ds T (gc+1) 0 T:=⟨Kept.of_below (z_ _ _),HU8.out,wE,rF.ms,rF.md,λd hd=>.inl hd⟩;have gY:=h_ hc0;clear gI eQ aW co cT iO oJ wE KF gM hL Gt CZ hc0 Bd ol a_ Jq C fH;go_wp2;rw[<-Lu.out,<-Lp.out];clear Lu Lp;refine wp_loop (λa X=>∃ds' kb k,ISl a.tmps (.slice (some ⟨b,off,none⟩) N lc) (.slice ma Nm mc) cv y.heap.size p sb uc n i ib gc kb/\a.defers=ds'.map xJ3/\InSt c M ds ds' T kb k X/\k<=L) (xZk L) ?start2 ?round2
   case start2=>exact⟨ds,gc+1,0,⟨rfl,rfl,rfl,rfl,rfl,rfl,rfl,rfl,rfl,rfl,rfl,rfl,rfl⟩,rfl,gY.out,n3 _⟩
   case round2=>
    clear gY;rintro a X ⟨ds',kb,k,O,Rt,hin,Sg⟩;obtain⟨tm,df⟩:=a;obtain rfl:df=ds'.map xJ3:=Rt;have KC:=hin.left (df:=ds'.map xJ3) O.s20 L;generalize xZk L { tmps:=tm,defers:=ds'.map xJ3 } X=mu2 at KC;obtain⟨f2,db,aU⟩:=O.out;simp only at aU;subst aU;have hMG:=Y_.out;have RB:=(i_ H6.out).1;have KG:gc≠M:=by omega
    have Za:=(hin.kept.block gc RB (by simpa using KG)).trans H6.out;have k1:=f0 0 hin.kx;have k2:=f0 0 Za;have Zb:=h_ KC;have H:=h_ hin;have Jm:=h_ Za;clear KC O db hin hMG RB KG Za;by_cases hlt:k<L
    ·have aM:(k:Int)<L:=by omega
     obtain⟨t,ht⟩:∃t,ns[k]?=some t:=⟨_,U_ (by rw[<-VD.out];exact hlt)⟩;obtain⟨gb,rfl,Zc,RC,ah⟩:=BY.out (by intro e;rw[e]at ht;cases ht)
     have KH:gb≠M:=by have:=Y_.out;omega
     have Fw:T.cell? ⟨gb,k,none⟩=some (.string t):=by have:=ah k t ht;rwa [m0]at this
     have k3:X.cell? ⟨gb,k,none⟩=some (.string t):=(J9 (a:=⟨gb,k,none⟩) (H.kept.block gb RC (by simpa using KH))).trans Fw;have nO:=h_ k3;have Ze:=h_ KH;clear Zc RC ah KH Fw ht BY;go_wp2_with fail;refine(xXd (some ⟨ib,0,none⟩) t 1 2147483646 X).mono ?_;rintro r E ⟨rfl,gC⟩;have gU:Below X.heap.size X E:=by rw[<-gC];exact((((z_ _ _).alloc (w_ _) _).alloc (by simp) _).alloc (by simp;omega) _).alloc (by simp;omega) _
     have c0:E.cell? ⟨X.heap.size,0,none⟩=some (.pointer (some ⟨ib,0,none⟩)):=by
      rw[<-gC];exact T6 _ (T6 _ (T6 _ (yD X _ _ 0)))
     have c1:E.cell? ⟨X.heap.size+1,0,none⟩=some (.string t):=by
      rw[<-gC];exact T6 _ (T6 _ (by simp))
     have c2:E.cell? ⟨X.heap.size+1+1,0,none⟩=some (.int .i64 1):=by
      rw[<-gC];exact T6 _ (by simpa using yD ((X.alloc (.cells #[.pointer (some ⟨ib,0,none⟩)] 64)).alloc (.cells #[.string t] 9)) #[.int .i64 1] 3 0)
     have c3:E.cell? ⟨X.heap.size+1+1+1,0,none⟩=some (.int .i64 2147483646):=by
      rw[<-gC];simpa using yD (((X.alloc (.cells #[.pointer (some ⟨ib,0,none⟩)] 64)).alloc (.cells #[.string t] 9)).alloc (.cells #[.int .i64 1] 3)) #[.int .i64 2147483646] 3 0
     have HC:=h_ (And.intro c0 (And.intro c1 (And.intro c2 c3)));have gE:=h_ gU;obtain⟨n6,eE⟩:=f3 X.heap.size;rw[<-eE]at HC⊢;clear gC gU c0 c1 c2 c3 eE k1 k2 k3;go_wp2_with fail;refine yEh λa8 S2=>?_
     have O:ISl a8.tmps (.slice (some ⟨b,off,none⟩) N lc) (.slice ma Nm mc) cv y.heap.size p sb uc n i ib gc kb:=by rw[S2];exact⟨rfl,rfl,rfl,rfl,rfl,rfl,rfl,rfl,rfl,rfl,rfl,rfl,rfl⟩
     have tA:=h_ O;have HA8:=h_ S2;have he:a8.eval (.tmp 144)=.func (.func 39) #[] #[.pointer (some ⟨n6,0,none⟩),.pointer (some ⟨n6+1,0,none⟩),.pointer (some ⟨n6+1+1,0,none⟩),.pointer (some ⟨n6+1+1+1,0,none⟩)]:=by rw[S2];rfl
     have RD:M<E.heap.size:=b7 (b7 rF.ML H.kept.size) gE.size;have hMg:=Y_.out;have Zf:gc<E.heap.size:=b7 (i_ Jm.out).1 gE.size;have RE:kb<E.heap.size:=b7 (i_ H.kx).1 gE.size;have hu9:UsI c M E E:=⟨Kept.of_below (z_ _ _),H.use.block (gE.block M (b7 rF.ML H.kept.size))⟩;have HU9:=h_ hu9;have R3:Hid (y5 wc.heap.size E ib Mi gs mci):=h_ ((DQ.keep (λj hj=>H.kept.block j (DQ.foot_lt j hj).2 (by have:=(DQ.foot_lt j hj).1;simp;omega)) (λG hG m hm j hj=>H.kept.block j (((DQ.grps G hG).lines.refs m hm).lt hj).2 (by have:=(((DQ.grps G hG).lines.refs m hm).lt hj).1;simp;omega))).below gE.out);have S3:=h_ (And.intro (f0 0 ((gE.block _ (i_ H.kx).1).trans H.kx)) (And.intro (f0 0 ((gE.block _ (i_ Jm.out).1).trans Jm.out)) ((gE.cell (block_lt_of_cell nO.out)).trans nO.out)));clear O S2 hu9
     refine(wpIn_wide (n:=3)).1 (xCq (F:=Fence.wide) rfl (by omega) (gf:=39) he trivial (enters_of func39 (by kernel_rfl) rfl) (encs:=λx:ML=>#[.agg (x9 x.g)]) (Gd:=GdL (jU (xC gs t) 1 2147483646)) (Kp:=KpL) (S:=λxs=>xs.map (·.p)=jU (xC gs t) 1 2147483646)
      (λW' oM wY=>xQm _ _ _ _ _ wc.heap.size ib Mi mci gs t 1 2147483646 W' ((oM.cell (block_lt_of_cell HC.1)).trans HC.1) ((oM.cell (block_lt_of_cell HC.2.1)).trans HC.2.1) ((oM.cell (block_lt_of_cell HC.2.2.1)).trans HC.2.2.1) ((oM.cell (block_lt_of_cell HC.2.2.2)).trans HC.2.2.2) (R3.below oM))
      ?kl ?kr (λ_=>rfl) (λ_ _ Y=>UsI c M E Y) (λ_ _ _ _=>False) (λB pre Y Z hi _ _ hb=>hi.beside RD hb) (λ_ _ _ _ _ h _ _ _=>h) (λY hb _=>⟨Kept.of_below hb,HU9.use.block (hb.block M RD)⟩)
      (NumAx (jU (xC gs t) 1 2147483646) (.slice (some ⟨b,off,none⟩) N lc) (.slice ma Nm mc) cv y.heap.size p sb uc n i ib gc kb c M E) ?assign ?hax ?ka ?body ?done (λ_ _ _ _ _ h _=>h.elim) (λ_ _ _ _ h=>h.elim))
     case kl=>
      rintro B x X Y Z l o h1 h2 I rfl;have aV:(X.putObj l o).heap.size=X.heap.size:=by simp[World.putObj]
      exact⟨by have:=I.1;omega,λk hA hB Q=>(I.2 k hA hB Q).trans (x6 (by omega))⟩
     case kr=>
      rintro B x X Y l o h1 h2 I;have aV:(Y.putObj l o).heap.size=Y.heap.size:=by simp[World.putObj]
      exact⟨by have:=I.1;omega,λk hA hB Q=>(x6 (by omega)).trans (I.2 k hA hB Q)⟩
     case ka=>
      rintro B x X Y Z hb hBX I;exact⟨R_ hb.size I.1,λk hA hB Q=>(I.2 k hA hB Q).trans (hb.block k (by omega))⟩
     case hax=>
      rintro B pre x a' X l o⟨h1,h2,h3,h4,yb,h5,h6,h7⟩ hl1 hl2;have gX:zw E.heap.size (E.heap.size+2) X (X.putObj l o):=zw.putObj X l o ⟨hl1,hl2⟩;exact⟨h1.beside RD gX,⟨h2.here,h2.past,h2.refs.block λk I=>x6 (by have:=(h2.refs.lt I).1;omega),h2.lt⟩,h3,h4,yb,(x6 (by omega)).trans h5,h6,h7⟩
     case assign=>
      intro l B pre x Y K hi hB hBY V hK;have fm:ISl (a8.tmps.setIfInBounds 145 (.agg (x9 x.g))) (.slice (some ⟨b,off,none⟩) N lc) (.slice ma Nm mc) cv y.heap.size p sb uc n i ib gc kb:=tA.set (by omega) _;have KI:(a8.tmps.setIfInBounds 145 (.agg (x9 x.g))).getD 145 undef=.agg (x9 x.g):=by
       have:=tA.size;simp[this]
      rw[yBy];generalize a8.tmps.setIfInBounds 145 (.agg (x9 x.g))=t145 at fm KI;obtain⟨f',rL,aU⟩:=fm.out;have G7:f' 145=.agg (x9 x.g):=(rL 145).trans KI;rw[aU,G7];have iI:=zJ (g:=x.g) V.refs.one;have lS:((x9 xK).size==38)=true:=by rw[xO];rfl
      have HK:=h_ hK;have HI':=h_ hi;have mX:=h_ V;clear hK hi V aU rL KI G7 fm
      gi_wp2
      have aK:Below Y.heap.size Y (Y.alloc (.cells (x9 x.g) 70)):=(z_ _ _).alloc (w_ _) _;refine HK.out _ _ ⟨HI'.beside RD (zw.of_below (B:=E.heap.size) aK),mX.below aK,⟨rfl,rfl,rfl,rfl,rfl,rfl,rfl,rfl,rfl,rfl,rfl,rfl,rfl⟩,rfl,Y.heap.size,heap_alloc_new _ _,by omega,rfl⟩ aK
     case body=>
      rintro l B pre x a' Y rfl hB hBY⟨iL,V,O,Rt,yb,I_,Sh,h21⟩;obtain⟨tm,df⟩:=a';obtain rfl:df=[]:=Rt;obtain⟨f',rL,aU⟩:=O.out;have RF:f' 21=.pointer (some ⟨yb,0,none⟩):=(rL 21).trans h21;simp only at aU;rw[RF]at aU;subst aU;clear rL h21 RF O;have G8:=V.here;have aW:x.p∈c.lf t:=by
       rw[<-WY.out];have h1:=ab_ G8;unfold jU at h1;exact(au_.1 h1).1
      have eP:xH3 c t x.p.number x.p.id:=S1.1.num.use aW (by
       rw[<-WY.out];have h1:=DQ.sorted t;unfold lfOf;rw[T7];exact h1.imp λ{a b} h e=>by omega)
      obtain⟨q,hq⟩:=f3 x.p.number;obtain⟨id,hid⟩:=f3 x.p.id;obtain⟨RG,hs,hsu,hlk⟩:=iL.use.look (t,q);have RH:hs=true->RG=id:=λh=>by
       obtain⟨_,_,_,h3⟩:=hsu h;rw[hid];exact(h3 _ aW hq.symm).symm
      have A5:=H.noM.1;have KG:gc≠M:=by omega
      have huM:=rF.ne.1;have hlY:=iL.kept.size;have e1:Y.cell? ⟨kb,0,none⟩=some (.int .i64 k):=(J9 (a:=⟨kb,0,none⟩) (iL.kept.block kb RE (by simpa using A5))).trans S3.1;have e2:Y.cell? ⟨gc,0,none⟩=some (.slice (some ⟨gb,0,none⟩) L gcap):=(J9 (a:=⟨gc,0,none⟩) (iL.kept.block gc Zf (by simpa using KG))).trans S3.2.1;have e3:Y.cell? ⟨gb,k,none⟩=some (.string t):=(J9 (a:=⟨gb,k,none⟩) (iL.kept.block gb (block_lt_of_cell S3.2.2) (by simpa using Ze.out))).trans S3.2.2;have e4:Y.cell? ⟨yb,0,none⟩=some (.int .i64 q):=by rw[hq];exact(I_.cell 0).trans (lc0 x.g)
      have e5:Y.cell? ⟨uc,0,none⟩=some (.map (some M)):=by
       have h1:=(H.fr rF.out).ucell;exact f0 0 ((iL.kept.block uc (b7 (i_ h1).1 gE.size) (by simpa using huM)).trans ((gE.block uc (i_ h1).1).trans h1))
      obtain⟨e6,e7⟩:=I_.idAt;rw[show x.g.id=id from hid.symm]at e7;have ol:=h_ iL;have HYV:=h_ I_.lt;have HNU:Hid (xH3 c t q id):=h_ (by rw[hq,hid];exact eP);have Dd:=h_ hlk;have Zg:=h_ RH;clear G8 aW eP hq hid hsu hlk RH A5 KG huM hlY iL V I_ hMg
      gi_wp2_with fail
      refine xF3 (λ⟨_,_,h⟩=>h) ?_;have cG:Below Y.heap.size Y Y.drew:=(z_ _ _).drew;have iC:Hid (∀z:xf Y.drew,Below Y.heap.size Y z.1):=h_ λz=>cG.trans (z.2.mono cG.size)
      have z1:∀z:xf Y.drew,z.1.cell? ⟨kb,0,none⟩=some (.int .i64 k):=λz=>((iC.out z).cell (block_lt_of_cell e1)).trans e1
      have z2:∀z:xf Y.drew,z.1.cell? ⟨gc,0,none⟩=some (.slice (some ⟨gb,0,none⟩) L gcap):=λz=>((iC.out z).cell (block_lt_of_cell e2)).trans e2
      have z3:∀z:xf Y.drew,z.1.cell? ⟨gb,k,none⟩=some (.string t):=λz=>((iC.out z).cell (block_lt_of_cell e3)).trans e3
      have z4:∀z:xf Y.drew,z.1.cell? ⟨yb,0,none⟩=some (.int .i64 q):=λz=>((iC.out z).cell (block_lt_of_cell e4)).trans e4
      have E5:=h_ e5;have E6:=h_ (And.intro e6 e7);generalize hYd:Y.drew=Yd at cG iC z1 z2 z3 z4⊢;have RI:=h_ cG;clear cG hYd e1 e2 e3 e4 e5 e6 e7;refine xAz [0,1,2,3,4,5,6] [7,8] 0 (λw'=>∃z:xf Yd,w'=z.1) ⟨⟨_,z_ _ _⟩,rfl⟩ ?_;simp only[o_]
      repeat (go_big_quiet_step (fail))
      refine wpQuiet_nil ?_;clear z1 z2 z3 z4;refine xB0 true rfl (by kernel_rfl) ?_;have be:((#[Value.string ⟨#[]⟩,.int .i64 0]:Array Value).size==2)=true:=rfl;have db:xt 2 #[.string t,.int .i64 q]=true:=by simp[xt,Value.oneCell']
      go_wp2;refine⟨λ_=>⟨⟨_,(z_ _ _).alloc (w_ _) _⟩,rfl⟩,xCo ?_⟩;simp only[o_];go_wp2;refine T_ ?_;rw[ur];refine kB ?_;obtain⟨pb,hpb⟩:=f3 Yd.heap.size;obtain⟨Y1,Sb⟩:=f3 (Yd.alloc (.cells #[.string t,.int .i64 q] 72));have RJ:Below Yd.heap.size Yd Y1:=by grind
      have lV:Y1.heap[pb]?=some (.cells #[.string t,.int .i64 q] 72 (0,0)):=by grind
      have aa:Below Y.heap.size Y Y1:=RI.trans (RJ.mono RI.size);have S4:M<Y.heap.size:=b7 RD ol.kept.size;obtain⟨R,KB,hi2,aN⟩:=f4 Y1 (xl RG).toArray 42
      have ai:Below Y.heap.size Y R:=aa.trans (aN.mono aa.size);have p1:=(aa.cell (block_lt_of_cell E5.out)).trans E5.out;obtain⟨p2,p3⟩:=xF (n:=2) lV rfl;have p4:=Dd.out Y1 (aa.block M S4);have q1:=(ai.cell (block_lt_of_cell E5.out)).trans E5.out;obtain⟨q2,q3⟩:=xF (n:=2) ((aN.block pb (i_ lV).1).trans lV) rfl;obtain⟨q4,q5⟩:=yx hi2;have q6:xp R ⟨yb,1,none⟩ 32=true:=xf.ok E6.1 ⟨R,ai⟩;have q7:xo R ⟨yb,1,none⟩ 32=(xl id).toArray:=(xf.rd E6.1 ⟨R,ai⟩).trans E6.2;obtain⟨o,ci,Sj⟩:=(ol.use.block (ai.block M S4)).put (t,q) id HNU.out;simp only at ci;have hz32:((xl yI).length==32)=true:=rfl;have aY:xN (Y1.alloc (.cells (xl yI).toArray 42)) Y1.heap.size 32=true:=za (heap_alloc_new _ _) rfl;have rQ:=j8 RG;have ax:=h_ ai;have P4:=h_ Sj;have HMY:=h_ S4;have HY2:=h_ KB;rw[<-hpb,<-Sb];clear be db RJ lV aa S4 aN hi2 ai Sj hpb Sb;rw[KB]at q1 q2 q3 q4 q5 q6 q7 ci;clear KB;have hz:(R.putObj M o).heap.size=R.heap.size:=by simp[World.putObj]
      have dD:=ax.size;have Bj:=HMY.out;have CS:∀j,j<Y.heap.size->j≠M->(R.putObj M o).heap[j]?=Y.heap[j]?:=λj h1 h2=>(x6 (by omega)).trans (ax.block j h1)
      have rR:xIe E.heap.size Y (R.putObj M o):=⟨by omega,λj h1 h2=>CS j (by omega) (by omega)⟩;have wP:KpL (E.heap.size+2) B x Y (R.putObj M o):=⟨by omega,λj h1 h2 _=>CS j (by omega) (by omega)⟩;have Lx:UsI c M E (R.putObj M o):=⟨⟨ax.os.trans ol.kept.os,ax.tape.trans ol.kept.tape,ax.output.trans ol.kept.output,by have:=ol.kept.size;omega,λj h1 h2=>(CS j (b7 h1 ol.kept.size) (by simpa using h2)).trans (ol.kept.block j h1 h2)⟩,P4.out⟩;have HQ:=h_ (And.intro rR (And.intro wP Lx));clear hz dD Bj CS rR wP Lx;cases hs with
      |true=>
       obtain rfl:RG=id:=Zg.out rfl
       gi_wp2
       rw[<-HY2.out];exact HQ.out
      |false=>
       gi_wp2
       rw[<-HY2.out];exact HQ.out
     case done=>
      intro B xs Y hB hBY hS hi sC;have hlk:kb<X.heap.size:=(i_ H.kx).1;have KG:gc≠M:=by omega
      have g1:=f0 0 ((hi.kept.block kb RE (by simpa using H.noM.1)).trans ((gE.block kb hlk).trans H.kx));have cw:=H.next gE.out hi rF.ML sC;have dj:=h_ cw;clear hS hi sC cw hlk KG hMg;rw[HA8.out];go_wp2;refine⟨⟨E.heap.size :: ds',Y.heap.size,k+1,⟨rfl,rfl,rfl,rfl,rfl,rfl,rfl,rfl,rfl,rfl,rfl,rfl,rfl⟩,rfl,dj.out,hlt⟩,?_⟩;rw[Zb.out,dj.left rfl];omega
    ·obtain rfl:k=L:=by omega
     have Ju:=h_ (H.fr rF.out);have HAE:=h_ (H.al Ss.out S1.1 S1.2.1 S1.2.2);clear H hlt Sg;go_wp2;refine⟨⟨ds',sb,n,i+1,⟨rfl,rfl,rfl,rfl,rfl,rfl,rfl,rfl,rfl,rfl⟩,rfl,Ju.out,HAE.out,Vg.out,by omega,by omega⟩,?_⟩;rw[Pg.out];exact Nat.lt_of_le_of_lt (bk_ (NSl.left (i:=i+1) ⟨rfl,rfl,rfl,rfl,rfl,rfl,rfl,rfl,rfl,rfl⟩ X)) (by omega)
  ·have k3:=f0 0 C.res;have k4:=f1 0 C.res;have hii:¬ (i:Int)<N\/((i:Int)<N/\¬ (i:Int)<16):=by omega
   clear hlt MC Ru Oc;rcases hii with h1|⟨h1,h2⟩
   all_goals
    go_wp2;refine xGe ds _ C.md (λd hd=>?_) (λw' e1 e2 e3 e4 e5=>?_)
    ·exact(heap_setCell_other W ⟨y.heap.size,0,none⟩ d (.bool true) (by have:=C.mb d hd;simp;omega)).trans (C.ms d hd)
    ·have hn:y.heap.size∉ds:=λhd=>by have:=C.mb _ hd;omega
     have sd:=f0 0 ((e5 _ hn).trans (heap_setCell_same W y.heap.size 0 _ _ (.bool true) C.res));have gX:Below y.heap.size y (W.setCell ⟨y.heap.size,0,none⟩ (.bool true)):=C.bl.setCell (p:=⟨y.heap.size,0,none⟩) (by simp) _;refine⟨.bool true,?_,rfl,⟨e1.trans gX.os,e2.trans gX.tape,e3.trans gX.output,by rw[e4];exact gX.size,λk I=>(e5 k (λhD=>by have:=C.mb _ hD;omega)).trans (gX.block k I)⟩⟩;exact xKx results3 isAgg4 _ _ ⟨y.heap.size,0,none⟩ _ rfl sd
end
end Go.Proofs.YtdhapkeimaljfaaGreatDoor
namespace Go.Proofs.YtdhapkeimaljfaaGreatDoor
open Go Go.RowKit Go.Proofs Go.ChangeShapes Go.WideShapes Go.ChangeAt Tryz
theorem own:ownKnob prog.godebug=none:=by kernel_rfl
theorem laidOut:laidOutB prog=true:=by kernel_rfl
def laidAll:List (String×DataW Unit):=Rows.storeNumbersRow.laid
theorem globals_size:prog.globals.size=7:=by kernel_rfl
theorem gl_of {W:World}(h:laidMetH prog laidAll W)(hs:W.ShapedOpen prog):Gl W where
 tab:=by
  have h1 := h.filter (λx => x.1 == "internal/strconv.uint64pow10")
  have e : laidAll.filter (λx => x.1 == "internal/strconv.uint64pow10") = [("internal/strconv.uint64pow10", Lib.tabData .u64 Lib.pow10Tab)] := by kernel_rfl
  rw[e]at h1;exact Lib.tabIs_of_head (rest:=[]) (g:=1) (by kernel_rfl) (by kernel_rfl) underlying414 underlying292 (by kernel_rfl) (by kernel_rfl) h1
 len:=cell_of_shapedOpen_int (g:=0) (t:=3) (zero:=#[.int .i64 0]) hs (by rw[globals_size];decide) (by kernel_rfl) rfl (by kernel_rfl) (by kernel_rfl) underlying3
 sha:=by
  have h1 := h.filter (λx => x.1 == "bulletin/sha256.constants")
  have e : laidAll.filter (λx => x.1 == "bulletin/sha256.constants") = [("bulletin/sha256.constants", Lib.tabData .u32 xQb)] := by kernel_rfl
  rw[e]at h1;exact Lib.tabIs_of_head (rest:=[]) (g:=4) (by kernel_rfl) (by kernel_rfl) underlying435 underlying290 (by kernel_rfl) (by kernel_rfl) h1
 size:=by
  have h0:(((begin prog (λ_ _=>0) default).world.heap[6]?).bind Obj.row?).isSome=true:=by kernel_rfl
  obtain⟨⟨zero,t⟩,hz⟩:=bq_.1 h0;obtain⟨cs,hh,_,_⟩:=hs.1 6 zero t (by rw[globals_size];decide) hz;rw[globals_size];have:=(i_ hh).1;omega
section
variable {H:Type} {enc:TypeId×Value->H}
theorem trodAll_stays {P:Program}{W W':World}(hl:laidOutB P=true)(g:Below W.heap.size W W')(sp:Nat->Bool)(ts:List TypeId):∀(vs:List Value) (ds:List (DataW H)) (p:List MemPlace),
  (∀t∈ts,P.readableRec t=true/\t<P.types.size)->DataW.TrodAll enc P W 0 (λ_=>true) true ts vs ds p->(∀x∈p,x.block<W.heap.size)->(∀x∈p,sp x.block=true)->DataW.TrodAll enc P W' 0 sp true ts vs ds p:=by
 induction ts with
 |nil=>
  intro vs ds p _ h _ _;obtain⟨rfl,rfl,rfl⟩:=trodAll_nil h;exact trodAll_mk0
 |cons t ts ih=>
  intro vs ds p c h a b;obtain⟨v,vs',d,ds',i,e,rfl,rfl,rfl,h1,h2⟩:=trodAll_cons h;have ht:=c t (by simp)
  exact trodAll_cons_mk (WideElems.Trod_stays hl ht.1 ht.2 h1 (λx hx=>g.same (a x (aq_ _ hx))) (λx hx=>b x (aq_ _ hx)))
   (ih vs' ds' e (λu f=>c u (by simp[f])) h2 (λx hx=>a x (Z1 _ hx)) (λx hx=>b x (Z1 _ hx)))
theorem law_post {f:Func}{s:ChangeSpec}{W W':World}{args:Array Value}{ds gs:List (DataW H)}{before:List MemPlace}(i:s.vars=[])(l:f.resultTypes=#[4])
  (b:DataW.Whole enc prog f.params.toList s.vars false W args.toList ds gs before) (j:∀t∈f.params.toList,prog.readableRec t=true/\t<prog.types.size)
  (c:s.fn H ds={ results:=[.lit (.bool true)],args:=ds }) (e:Below W.heap.size W W'):s.post enc prog f false true false false W args (.bool true) W':=by
 have a:∀x∈before,x.block<W.heap.size:=λx hx=>b.lt x hx
 have d:=b;obtain⟨p,q,k,g,rfl,_,_⟩:=b;rw[i]at g;obtain⟨rfl,rfl⟩:=trodVars_none g;rw[G5]at d a;refine⟨ds,[],p,[],p,[],d,?_,?_,?_,?_,λh=>by cases h⟩
 ·rw[G5,c,l];exact trodAll_mk1 (shut_bool underlying4 _)
 ·rw[G5,c];exact trodAll_stays laidOut e _ _ _ _ _ j k a (λx hx=>by simpa using a x hx)
 ·rw[G5,c,i];rfl
 ·exact World.keptBut_mono (λx hx=>⟨hx,.inr (.inl hx)⟩) (e.frame (·∈p))
end
end Go.Proofs.YtdhapkeimaljfaaGreatDoor
namespace Go.Proofs.YtdhapkeimaljfaaGreatDoor.storeNumbers
open Go Go.RowKit Go.Proofs Go.Proofs.YtdhapkeimaljfaaGreatDoor Tryz
theorem fact1:(Rows.storeNumbersRow.wf (OpenSpec.ofChange (OpenSpec.ofChange Rows.storeNumbersSpec).bare))=true:=by kernel_rfl
theorem fact2:(laidOutB prog)=true:=by kernel_rfl
theorem fact3:(mapsRowed prog)=true:=by kernel_rfl
theorem fact4:(Tryz.f3.params.all (prog.readableRec ·))=true:=by kernel_rfl
theorem fact5:(namedTie prog Rows.storeNumbersRow.named (OpenSpec.ofChange Rows.storeNumbersSpec).bare.vars)=true:=by kernel_rfl
theorem fact6:((Rows.storeNumbersRow.stops==[]))=true:=by kernel_rfl
theorem fact7:((prog.stops==[]))=true:=by kernel_rfl
theorem fact8:((Rows.storeNumbersRow.knobs==[]))=true:=by kernel_rfl
theorem fact9:((prog.stopKnobs==[]))=true:=by kernel_rfl
theorem fact10:((Rows.storeNumbersRow.inPlace==prog.inPlace 3))=true:=by kernel_rfl
theorem fact11:((Rows.storeNumbersRow.unfollowed==prog.unfollowed 3))=true:=by kernel_rfl
theorem fact12:((Rows.storeNumbersRow.recurses==prog.recurses 3))=true:=by kernel_rfl
theorem fact13:((Rows.storeNumbersRow.named==prog.varsNamed 3))=true:=by kernel_rfl
theorem fact14:((Rows.storeNumbersRow.maps==(Tryz.f3.params.toList++(OpenSpec.ofChange Rows.storeNumbersSpec).bare.plain.varTypes prog).any (prog.mapsRec ·)))=true:=by kernel_rfl
theorem fact15:((Rows.storeNumbersRow.ifaces==(Tryz.f3.params.toList++(OpenSpec.ofChange Rows.storeNumbersSpec).bare.plain.varTypes prog).any (prog.ifacesRec ·)))=true:=by kernel_rfl
theorem fact16:((Rows.storeNumbersRow.mapsOut==prog.mapsAmong Tryz.f3.resultTypes.toList))=true:=by kernel_rfl
theorem fact17:((Rows.storeNumbersRow.loops==(Tryz.f3.params.toList++(OpenSpec.ofChange Rows.storeNumbersSpec).bare.plain.varTypes prog).any (prog.loopsFrom ·)))=true:=by kernel_rfl
theorem fact18:((Rows.storeNumbersRow.wideKeys==(Tryz.f3.params.toList++(OpenSpec.ofChange Rows.storeNumbersSpec).bare.plain.varTypes prog++Tryz.f3.resultTypes.toList).any (prog.wideKeysFrom ·)))=true:=by kernel_rfl
theorem fact19:((OpenSpec.ofChange Rows.storeNumbersSpec).bare.vars.all (prog.varReadable ·))=true:=by kernel_rfl
theorem fact20:(Tryz.f3.resultTypes.all (λt=>prog.readableRec t&&decide (t<prog.types.size)))=true:=by kernel_rfl
theorem fact21:((Rows.storeNumbersRow.ifacesOut==Tryz.f3.resultTypes.toList.any (prog.ifacesRec ·)))=true:=by kernel_rfl
theorem fact22:((Rows.storeNumbersRow.loopsOut==Tryz.f3.resultTypes.toList.any (prog.loopsFrom ·)))=true:=by kernel_rfl
theorem fact23:((Rows.storeNumbersRow.plainKeys==prog.plainKeys))=true:=by kernel_rfl
theorem fact24:(Rows.storeNumbersRow.shortTexts.isNone)=true:=by kernel_rfl
theorem fact25:(prog.stopsHeard)=true:=by kernel_rfl
theorem fact26:(prog.mayEnter)=true:=by kernel_rfl
theorem fact27:((Rows.storeNumbersRow.lifted==prog.liftsFinal))=true:=by kernel_rfl
theorem fact28:((prog.make==some Rows.storeNumbersRow.make))=true:=by kernel_rfl
theorem fact29:((Rows.storeNumbersRow.kinds==(if Rows.storeNumbersRow.domain.isEmpty then []else Tryz.f3.params.toList.map λt=>match prog.underlying t with|some (.int k)=>some k|_=>none)))=true:=by kernel_rfl
theorem fact30:((Rows.storeNumbersRow.pinned==Rows.storeNumbersRow.pinnedBy))=true:=by kernel_rfl
theorem fact31:((Rows.storeNumbersRow.veiled==(Tryz.f3.params.toList++(OpenSpec.ofChange Rows.storeNumbersSpec).bare.plain.varTypes prog++Tryz.f3.resultTypes.toList).any (prog.veiledRec ·)))=true:=by kernel_rfl
theorem fact32:(Rows.storeNumbersRow.veiledFits prog Tryz.f3.params.toList (Tryz.f3.params.toList++(OpenSpec.ofChange Rows.storeNumbersSpec).bare.plain.varTypes prog++Tryz.f3.resultTypes.toList))=true:=by kernel_rfl
theorem band {a b:Bool}(h:a=true)(k:b=true):(a&&b)=true:=by rw[h,k];rfl
theorem facts:joinedFacts prog 3 Tryz.f3 (OpenSpec.ofChange Rows.storeNumbersSpec).bare Rows.storeNumbersRow=true:=by
 unfold joinedFacts;exact(band (band (band (band (band (band (band (band (band (band (band (band (band (band (band (band (band (band (band (band (band (band (band (band (band (band (band (band (band (band (band fact1 fact2) fact3) fact4) fact5) fact6) fact7) fact8) fact9) fact10) fact11) fact12) fact13) fact14) fact15) fact16) fact17) fact18) fact19) fact20) fact21) fact22) fact23) fact24) fact25) fact26) fact27) fact28) fact29) fact30) fact31) fact32)
end Go.Proofs.YtdhapkeimaljfaaGreatDoor.storeNumbers
set_option linter.all false
namespace Go.Proofs.YtdhapkeimaljfaaGreatDoor.storeNumbers
open Go Go.RowKit Go.Proofs Go.Proofs.YtdhapkeimaljfaaGreatDoor Go.ChangeShapes Go.WideShapes Go.ChangeAt Go.WideMaps Go.ChangeMaps Tryz
theorem slice_cells {W:World}{base:Nat}{T e:TypeId}(a:prog.underlying T=some (.slice e)){v0:Value}(h:Value.okWide prog W .any base T v0):v0.cells=#[v0]:=by
 unfold Value.okWide at h;rw[a]at h;simp only at h;cases v0 with
 |agg cs=>simp[Cell.okWide,Cell.ok,a]at h
 |_=>rfl
theorem contract (H:Type)(enc:TypeId×Value->H)(W:World)(base:Nat)(args:Array Value)(ds gs:List (DataW H))(before:List MemPlace)
  (b:∀(j:Nat) t v,Tryz.f3.params[j]?=some t->args[j]?=some v->Value.okWide prog W .any base t v)
  (i:DataW.Whole enc prog Tryz.f3.params.toList Rows.storeNumbersSpec.vars false W args.toList ds gs before)
  (k:(DataW.weightsEach prog (Tryz.f3.params.toList++(OpenSpec.ofChange Rows.storeNumbersSpec).bare.plain.varTypes prog) (ds++gs)).all (·<=reachBytes)=true)
  (A:laidMetH prog Rows.storeNumbersRow.laid W) (x:W.ShapedOpen prog):
  Calls prog 3 args W λe W'=>∃v,e=.returned v/\Rows.storeNumbersSpec.post enc prog Tryz.f3 false true false false W args v W':=by
 have f:=i;obtain⟨p,q,o,F,rfl,G,N⟩:=i;have g:DataW.TrodAll enc prog W 0 (λ_=>true) true Tryz.f3.params.toList args.toList ds p:=o;rw[params3]at g b k;obtain⟨v0,d,c,M,d1,L,E,D,C,rfl,rfl,rfl,h,h1,h2⟩:=trodAll_three g;obtain⟨K,h⟩:=h;obtain⟨J,h1⟩:=h1;obtain⟨I,h2⟩:=h2
 obtain⟨u0,os,a,y⟩:=yBf (cs:=v0.cells.toList) h (λn r=>by
  have:=List.all_eq_true.1 k n (DataW.weights_mem_each (j:=0) rfl rfl n r);simpa using this)
 obtain⟨u1,ms,m,z⟩:=xUa (cs:=d.cells.toList) h1;obtain⟨u2,xs,l,w⟩:=xUa (cs:=c.cells.toList) h2;obtain rfl:v0=u0:=by
  rw[slice_cells underlying22 (b 0 22 v0 rfl rfl)]at a;simpa using a
 obtain rfl:d=u1:=by
  rw[slice_cells underlying23 (b 1 23 d rfl rfl)]at m;simpa using m
 obtain rfl:c=u2:=by
  rw[slice_cells underlying23 (b 2 23 c rfl rfl)]at l;simpa using l
 clear o g;refine(yAo (gl_of A x) y z w).mono λe W' ⟨s,u⟩=>?_
 subst s
 exact⟨_,rfl,law_post rfl (by kernel_rfl) f (by
  rw[params3];intro t ht;have B:t=22\/t=23:=by simpa using ht
  rcases B with rfl|rfl
  ·exact⟨by kernel_rfl,of_decide_eq_true (by kernel_rfl)⟩
  ·exact⟨by kernel_rfl,of_decide_eq_true (by kernel_rfl)⟩) rfl u⟩
def zeroArg:Value:=.slice none 0 0
theorem reads (os:Os){H:Type}(enc:TypeId×Value->H):∃places,DataW.whole enc prog ((World.laidAll prog os Rows.storeNumbersRow.laid).forCall (λ_ _=>0) ⟨#[],#[zeroArg,zeroArg,zeroArg],[]⟩).memory Tryz.f3.params.toList Rows.storeNumbersSpec.vars false #[zeroArg,zeroArg,zeroArg].toList 8=some ([.nil,.nil,.nil],[],places):=
 ⟨[],by kernel_rfl⟩
theorem lifted (os:Os)(started:os.Started)(H:Type)(enc:TypeId×Value->H)(F:Stop.Interp):
  ReturnsInHanded {} checked os 3 .any ((OpenSpec.ofChange Rows.storeNumbersSpec).preRow enc prog Tryz.f3 Rows.storeNumbersRow.domain false Rows.storeNumbersRow.laid) (((OpenSpec.ofChange Rows.storeNumbersSpec).at F).post enc prog Tryz.f3 false true false false):=by
 obtain⟨places,hx⟩:=reads os enc
 refine returnsInHanded_of_row (C:=checked) (s:=OpenSpec.ofChange Rows.storeNumbersSpec) own started (by kernel_rfl) func3
  (witness_row_at (enc:=enc) (C:=checked) false (World.laidAll prog os Rows.storeNumbersRow.laid) #[zeroArg,zeroArg,zeroArg] (World.laidAll_os _ _ _) (by kernel_rfl) (by kernel_rfl) (by kernel_rfl)
   (OpenSpec.preRow_of_cond 8 hx (by kernel_rfl) (λk a=>by cases a) (by kernel_rfl) (laidMet_laidAll _ (by kernel_rfl) (by kernel_rfl)))) ?_
 intro W base args ds gs before f b _ _ d e c _;exact contract H enc W base args ds gs before f b d e c
theorem said:Rows.StoreNumbersSaid:=
 OpenClaim.holds_of_cond 3 Tryz.f3 rfl rfl rfl rfl rfl rfl rfl ⟨rfl,rfl,rfl,rfl,rfl⟩ rfl rfl rfl rfl rfl (by kernel_rfl) func3 facts
  (of_decide_eq_true (by kernel_rfl)) (by unfold Func.isWrapper;first|(rw[if_pos (by decide +kernel)];kernel_rfl)|(rw[if_neg (by decide +kernel)];exact⟨rfl,rfl⟩))
  (λos started H enc _ F=>by rw[OpenClaim.pre_eq_preRow];exact lifted os started H enc F)
theorem plain (f : FuncId) (fn : Func) (a : pinned.checked.prog.funcNamed "bulletin/bulletinlaw29.StoreNumbers" = some f) (b : pinned.checked.prog.funcs[f]? = some fn):
  true=pinned.checked.prog.looks []/\∀(j:Nat) t,fn.params[j]?=some t->pinned.checked.prog.wantsStandIn t=false:=by
 obtain rfl : f = 3 := Option.some.inj ((show prog.funcNamed "bulletin/bulletinlaw29.StoreNumbers" = some 3 by kernel_rfl).symm.trans a) |>.symm
 obtain rfl:fn=Tryz.f3:=(Option.some.inj (func3.symm.trans b)).symm;refine⟨by kernel_rfl,λj t ht=>?_⟩;rw[params3]at ht;have c:t=22\/t=23:=by simpa using Array.mem_of_getElem? ht
 rcases c with rfl|rfl
 ·exact(show prog.wantsStandIn 22=false by kernel_rfl)
 ·exact(show prog.wantsStandIn 23=false by kernel_rfl)
end Go.Proofs.YtdhapkeimaljfaaGreatDoor.storeNumbers
namespace Go.Proofs.YtdhapkeimaljfaaGreatDoor
open Go
theorem storeNumbers_card:Rows.StoreNumbersCardSaid:=
 Claim7.holds_tied_plain_at .later [] _ _ _ _ storeNumbers.said (λ_ h=>by cases h) (by kernel_rfl) (λ_ h=>by cases h) storeNumbers_row_tie rfl ⟨rfl,rfl⟩ (by kernel_rfl) rfl storeNumbers.plain (by kernel_rfl)
#print axioms storeNumbers_card
end Go.Proofs.YtdhapkeimaljfaaGreatDoor
