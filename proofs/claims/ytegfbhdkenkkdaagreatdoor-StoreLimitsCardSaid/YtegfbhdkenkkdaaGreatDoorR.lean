/- For every number of articles and every letter, StoreLimits returns true. -/
import Derived.Test.YtegfbhdkenkkdaaGreatDoorRL1
import Derived.Test.YtegfbhdkenkkdaaGreatDoorRL2
import Derived.Test.YtegfbhdkenkkdaaGreatDoorRL3
import Derived.Test.YtegfbhdkenkkdaaGreatDoorRL4
import Derived.Test.YtegfbhdkenkkdaaGreatDoorRL5
import Derived.Test.YtegfbhdkenkkdaaGreatDoorRL6
import Derived.Test.YtegfbhdkenkkdaaGreatDoorCards
import Derived.Test.YtegfbhdkenkkdaaGreatDoorTie
import Derived.ProofKit
import Derived.OpenShut
import Derived.Lay
import Derived.LaidSub
import Derived.Deep.DeepHandedRow
import Derived.Lib.LaidTab
import Derived.Shelf.Vars
set_option maxRecDepth 100000
set_option linter.all false
set_option maxHeartbeats 8000000
namespace Go.Proofs.YtegfbhdkenkkdaaGreatDoor
open Go Go.RowKit Go.Proofs Tryz
section
theorem xHj (ρ:Operand->Value)(d x)(ty:TypeId)(pos af g w):
  Sem.run prog (execOp ρ ⟨d,.load 40 x,ty,pos,af,g⟩) w=yp prog 40 w (ρ x):=rfl
theorem xFe (ρ:Operand->Value)(d x y)(ty:TypeId)(pos af g w):
  Sem.run prog (execOp ρ ⟨d,.store 40 x y,ty,pos,af,g⟩) w=yi prog 40 w (ρ x) (ρ y):=rfl
theorem yAj (w a)(h:xo w a 40=true):yp prog 40 w (.pointer (some a))=.ok (.value (.agg (xm w a 40))) w:=
 yf isAgg40 sizeOf40 w a h
theorem xZg (w g cells)(h:xM w g 40=true)(h2:xy 40 cells=true):
  yi prog 40 w (.pointer (some ⟨g,0,none⟩)) (.agg cells)=.ok .skip (w.setRow g cells):=yo (by kernel_rfl) w g cells h h2
theorem xFj (ρ:Operand->Value)(d)(ty:TypeId)(pos af g w):
  Sem.run prog (execOp ρ ⟨d,.alloc 40,ty,pos,af,g⟩) w=.ok (.value (.pointer (some ⟨w.heap.size,0,none⟩))) (w.alloc (.cells (xw uB) 40)):=by kernel_rfl
theorem xHm (ρ:Operand->Value)(d x)(ty:TypeId)(pos af g w):
  Sem.run prog (execOp ρ ⟨d,.load 32 x,ty,pos,af,g⟩) w=yp prog 32 w (ρ x):=rfl
theorem yAm (w a)(h:xo w a 32=true):yp prog 32 w (.pointer (some a))=.ok (.value (.agg (xm w a 32))) w:=
 yf isAgg32 sizeOf32 w a h
theorem xFi (ρ:Operand->Value)(d x0)(ty:TypeId)(pos af gd w):
  Sem.run prog (execOp ρ ⟨d,.build 32 #[(0,x0)],ty,pos,af,gd⟩) w=zB prog 32 w #[(0,ρ x0)]:=by kernel_rfl
theorem xVq (w k):zB prog 32 w #[(0,.int .u8 k.toNat)]=.ok (.value (.agg (xl (idN k)).toArray)) w:=zD (by kernel_rfl)
theorem jS {id}(i v u pre post){rest}(hp:qp i=some (32+pre.length,1))(hv:v.cells=#[v]):
  Instr.fill qp (xl id++(pre++u :: post)).toArray ((i,v) :: rest)=Instr.fill qp (xl id++(pre++v :: post)).toArray rest:=by
 have l1:(xl id).length=32:=xz _;have h:=yX qp i v (xl id++pre) [u] post [v] (rest:=rest) (by rw[af_,l1];exact hp) (by rw[hv]) rfl;rw[aH_,aH_]at h;exact h
theorem xYc (id t d a):Instr.fill qp (xw uB) [(0,.agg (xl id).toArray),(1,.string t),(3,.int .i64 d),(4,.int .i64 a)]=some (xw ⟨id,t,⟨#[]⟩,d,a,.slice none 0 0,⟨#[]⟩,.slice none 0 0,false⟩):=by
 have l0:(xl uB.id).length=32:=xz _;have l1:(xl id).length=32:=xz _;refine(yX qp 0 (.agg (xl id).toArray) [] (xl uB.id) [.string ⟨#[]⟩,.string ⟨#[]⟩,.int .i64 0,.int .i64 0,.slice none 0 0,.string ⟨#[]⟩,.slice none 0 0,.bool false] (xl id) (by rw[l0];rfl) rfl (by rw[l0,l1])).trans ?_;refine(jS 1 (.string t) (.string ⟨#[]⟩) [] [.string ⟨#[]⟩,.int .i64 0,.int .i64 0,.slice none 0 0,.string ⟨#[]⟩,.slice none 0 0,.bool false] rfl rfl).trans ?_;refine(jS 3 (.int .i64 d) (.int .i64 0) [.string t,.string ⟨#[]⟩] [.int .i64 0,.slice none 0 0,.string ⟨#[]⟩,.slice none 0 0,.bool false] rfl rfl).trans ?_;refine(jS 4 (.int .i64 a) (.int .i64 0) [.string t,.string ⟨#[]⟩,.int .i64 d] [.slice none 0 0,.string ⟨#[]⟩,.slice none 0 0,.bool false] rfl rfl).trans ?_;rfl
theorem xNh (id t n s d a p):Instr.fill qp (xw uB) [(0,.agg (xl id).toArray),(1,.string t),(2,.string n),(3,.int .i64 d),(4,.int .i64 a),(6,.string s),(8,.bool p)]=some (xw ⟨id,t,n,d,a,.slice none 0 0,s,.slice none 0 0,p⟩):=by
 have l0:(xl uB.id).length=32:=xz _;have l1:(xl id).length=32:=xz _;refine(yX qp 0 (.agg (xl id).toArray) [] (xl uB.id) [.string ⟨#[]⟩,.string ⟨#[]⟩,.int .i64 0,.int .i64 0,.slice none 0 0,.string ⟨#[]⟩,.slice none 0 0,.bool false] (xl id) (by rw[l0];rfl) rfl (by rw[l0,l1])).trans ?_;refine(jS 1 (.string t) (.string ⟨#[]⟩) [] [.string ⟨#[]⟩,.int .i64 0,.int .i64 0,.slice none 0 0,.string ⟨#[]⟩,.slice none 0 0,.bool false] rfl rfl).trans ?_;refine(jS 2 (.string n) (.string ⟨#[]⟩) [.string t] [.int .i64 0,.int .i64 0,.slice none 0 0,.string ⟨#[]⟩,.slice none 0 0,.bool false] rfl rfl).trans ?_;refine(jS 3 (.int .i64 d) (.int .i64 0) [.string t,.string n] [.int .i64 0,.slice none 0 0,.string ⟨#[]⟩,.slice none 0 0,.bool false] rfl rfl).trans ?_;refine(jS 4 (.int .i64 a) (.int .i64 0) [.string t,.string n,.int .i64 d] [.slice none 0 0,.string ⟨#[]⟩,.slice none 0 0,.bool false] rfl rfl).trans ?_;refine(jS 6 (.string s) (.string ⟨#[]⟩) [.string t,.string n,.int .i64 d,.int .i64 a,.slice none 0 0] [.slice none 0 0,.bool false] rfl rfl).trans ?_;refine(jS 8 (.bool p) (.bool false) [.string t,.string n,.int .i64 d,.int .i64 a,.slice none 0 0,.string s,.slice none 0 0] [] rfl rfl).trans ?_;rfl
theorem xWt (parts):prog.built 40 parts=Instr.fill qp (xw uB) parts:=by kernel_rfl
theorem xDn (ρ:Operand->Value)(d x0 x1 x2 x3)(ty:TypeId)(pos af gd w):
  Sem.run prog (execOp ρ ⟨d,.build 40 #[(0,x0),(1,x1),(3,x2),(4,x3)],ty,pos,af,gd⟩) w=zB prog 40 w #[(0,ρ x0),(1,ρ x1),(3,ρ x2),(4,ρ x3)]:=by kernel_rfl
theorem xWw (w id t d a):zB prog 40 w #[(0,.agg (xl id).toArray),(1,.string t),(3,.int .i64 d),(4,.int .i64 a)]=.ok (.value (.agg (xw ⟨id,t,⟨#[]⟩,d,a,.slice none 0 0,⟨#[]⟩,.slice none 0 0,false⟩))) w:=zD (by
 show prog.built 40 [(0,.agg (xl id).toArray),(1,.string t),(3,.int .i64 d),(4,.int .i64 a)]=_
 rw[xWt];exact xYc id t d a)
theorem xLx (ρ:Operand->Value)(d x0 x1 x2 x3 x4 x5 x6)(ty:TypeId)(pos af gd w):
  Sem.run prog (execOp ρ ⟨d,.build 40 #[(0,x0),(1,x1),(2,x2),(3,x3),(4,x4),(6,x5),(8,x6)],ty,pos,af,gd⟩) w=zB prog 40 w #[(0,ρ x0),(1,ρ x1),(2,ρ x2),(3,ρ x3),(4,ρ x4),(6,ρ x5),(8,ρ x6)]:=by kernel_rfl
theorem yDl (w id t n s d a p):zB prog 40 w #[(0,.agg (xl id).toArray),(1,.string t),(2,.string n),(3,.int .i64 d),(4,.int .i64 a),(6,.string s),(8,.bool p)]=.ok (.value (.agg (xw ⟨id,t,n,d,a,.slice none 0 0,s,.slice none 0 0,p⟩))) w:=zD (by
 show prog.built 40 [(0,.agg (xl id).toArray),(1,.string t),(2,.string n),(3,.int .i64 d),(4,.int .i64 a),(6,.string s),(8,.bool p)]=_
 rw[xWt];exact xNh id t n s d a p)
theorem xLv (ρ:Operand->Value)(d x0 x1 x2 x3 x4 x5 x6)(ty:TypeId)(pos af gd w):
  Sem.run prog (execOp ρ ⟨d,.build 37 #[(0,x0),(1,x1),(2,x2),(3,x3),(4,x4),(6,x5),(8,x6)],ty,pos,af,gd⟩) w=zB prog 37 w #[(0,ρ x0),(1,ρ x1),(2,ρ x2),(3,ρ x3),(4,ρ x4),(6,ρ x5),(8,ρ x6)]:=by kernel_rfl
theorem yDj (w id t n s d a p):zB prog 37 w #[(0,.agg (xl id).toArray),(1,.string t),(2,.string n),(3,.int .i64 d),(4,.int .i64 a),(6,.string s),(8,.bool p)]=.ok (.value (.agg (xw ⟨id,t,n,d,a,.slice none 0 0,s,.slice none 0 0,p⟩))) w:=zD (by
 show prog.built 37 [(0,.agg (xl id).toArray),(1,.string t),(2,.string n),(3,.int .i64 d),(4,.int .i64 a),(6,.string s),(8,.bool p)]=_
 rw[yBv];exact xNh id t n s d a p)
structure ArW (w5:World)(p3 p4:Nat) where
 val:World
 h3:val.heap[p3]?=w5.heap[p3]?
 h4:val.heap[p4]?=w5.heap[p4]?
theorem xXs {P fn p q ty ty2 n n2}(h:fn.results=#[.cell p ty,.cell q ty2])(hA:∀w,Sem.run P (isAgg ty) w=.ok true w)(hs:∀w,Sem.run P (Go.sizeOf ty) w=.ok n w)(hA2:∀w,Sem.run P (isAgg ty2) w=.ok true w)(cT:∀w,Sem.run P (Go.sizeOf ty2) w=.ok n2 w)
  (tmps) (w) (a b) (cs VP) (hp:tmps.getD p undef=.pointer (some a)) (hq:tmps.getD q undef=.pointer (some b)) (aD:xo w a n=true) (eR:xm w a n=cs) (VQ:xo w b n2=true) (VR:xm w b n2=VP):
  (results fn tmps).run P w=.ok (.tuple #[.agg cs,.agg VP]) w:=by
 have nW:tmps[p]?.getD undef=.pointer (some a):=by simpa using hp
 have hq':tmps[q]?.getD undef=.pointer (some b):=by simpa using hq
 have hl:(loadVar ty a).run P w=.ok (.agg cs) w:=by
  simp[loadVar,hA,hs,zf w a n aD,eR]
 have sk:(loadVar ty2 b).run P w=.ok (.agg VP) w:=by
  simp[loadVar,hA2,cT,zf w b n2 VQ,VR]
 simp[results,h,nW,hq',asAddr,hl,sk]
def artX (id:Id32):Art:=⟨id,⟨#[120]⟩,⟨#[]⟩,1,1,.slice none 0 0,⟨#[]⟩,.slice none 0 0,false⟩
def artT (id:Id32)(t:By):Art:=⟨id,str t,⟨#[]⟩,1,1,.slice none 0 0,⟨#[]⟩,.slice none 0 0,false⟩
attribute [local go_sem ↓] xHm xFi xHj xFe xFj xDn xLx xLv uK ub qs
attribute [local go_sem] yAm xVq yAj xZg xWw yDl yDj xAw xAu xh xf xa x9 xu xv xk xj xq xx xt
theorem xRf (id t)(ht:t.length<=10000)(w):Calls prog 11 #[.agg (xw (artT id t))] w λe w'=>e=.returned (.int .i64 ((3+t.length/200:Nat):Int))/\Below w.heap.size w w':=by
 obtain⟨w1,ai⟩:∃w1,w1=w.alloc (.cells (xw (artT id t)) 40):=⟨_,rfl⟩;have aa:Below w.heap.size w w1:=by rw[ai];exact b_ _ _
 have az:w1.heap[w.heap.size]?=some (.cells (xw (artT id t)) 40 (0,0)):=by rw[ai];exact heap_alloc_new w _
 have En:=(cell_of_row w1 w.heap.size 32 _ _ _ az).trans (ar32 _);have wm:=(cell_of_row w1 w.heap.size 33 _ _ _ az).trans (ar33 _);have pO:=(cell_of_row w1 w.heap.size 36 _ _ _ az).trans (ar36 _);have wn:=(cell_of_row w1 w.heap.size 37 _ _ _ az).trans (ar37 _);have KM:=(cell_of_row w1 w.heap.size 38 _ _ _ az).trans (ar38 _);simp only[artT]at En wm pO wn KM;obtain⟨sb,cZ⟩:∃sb,sb=str t:=⟨_,rfl⟩;obtain⟨n,hn⟩:∃n,n=t.length:=⟨_,rfl⟩;have aI:(sb.size:Int)=(n:Int):=by rw[cZ,yD,hn]
 have TN:(n:Int).tdiv 200=((n/200:Nat):Int):=rfl;have Nc:(3:Int)+((n/200:Nat):Int)=((3+n/200:Nat):Int):=by omega
 have pC:(n:Int)<=10000:=by omega
 have ar:=h_ aa;rw[<-cZ]at En;rw[<-hn];have iB:((n/200:Nat):Int)<=50:=by omega
 clear aa az cZ hn ht;go_enter func11,ntmps11;go_upto_region 1 with fail
 refine xr ai ?_;clear ai;go_wp2;refine wp_loop_once ?_;go_wp2;go_ret;exact⟨congrArg (λz=>Ending.returned (Value.int .i64 z)) (show (3:Int)+(n:Int)/200=((3+n/200:Nat):Int) by omega),ar.out⟩
theorem xTm (id w):Calls prog 8 #[.agg (xw (artX id))] w λe w'=>e=.returned (.tuple #[.agg (xw (artX id)),.agg (xw (artX id))])/\Below w.heap.size w w':=by
 obtain⟨w3,bm⟩:∃w3,w3=((w.alloc (.cells (xw (artX id)) 40)).alloc (.cells (xw uB) 37)).alloc (.cells (xw uB) 40):=⟨_,rfl⟩;have al:Below w.heap.size w w3:=by rw[bm];exact(((ab_ _ _).alloc (aa_ _) _).alloc (by simp) _).alloc (by simp;omega) _
 have eT:w3.heap.size=w.heap.size+3:=by rw[bm];simp
 have h0:w3.heap[w.heap.size]?=some (.cells (xw (artX id)) 40 (0,0)):=by
  rw[bm,heap_alloc_old _ _ (by simp;omega),heap_alloc_old _ _ (by simp),heap_alloc_new]
 have h1:w3.heap[w.heap.size+1]?=some (.cells (xw uB) 37 (0,0)):=by
  have:=heap_alloc_new (w.alloc (.cells (xw (artX id)) 40)) (.cells (xw uB) 37);rw[al_]at this;rw[bm,heap_alloc_old _ _ (by simp)];exact this
 have h2:w3.heap[w.heap.size+1+1]?=some (.cells (xw uB) 40 (0,0)):=by
  have:=heap_alloc_new ((w.alloc (.cells (xw (artX id)) 40)).alloc (.cells (xw uB) 37)) (.cells (xw uB) 40);rw[al_,al_,<-bm]at this;exact this
 obtain⟨p0,i6⟩:∃p0,p0=w.heap.size:=⟨_,rfl⟩;rw[<-i6]at h0 h1 h2;have En:=(cell_of_row w3 p0 32 _ _ _ h0).trans (ar32 _);have wm:=(cell_of_row w3 p0 33 _ _ _ h0).trans (ar33 _);have Ab:=(cell_of_row w3 p0 34 _ _ _ h0).trans (ar34 _);have EE:=(cell_of_row w3 p0 35 _ _ _ h0).trans (ar35 _);have wn:=(cell_of_row w3 p0 37 _ _ _ h0).trans (ar37 _);have KS:=(cell_of_row w3 p0 39 _ _ _ h0).trans (ar39 _);simp only[artX]at En wm Ab EE wn KS;obtain⟨oki,rdi⟩:=vW (l:=[]) (show w3.heap[p0]?=some (.cells (yT (artX id)++[]).toArray 40 (0,0)) by rw[aG_];exact h0);have z32:∀z:x8 w3,z.1.cell? ⟨p0,32,none⟩=_:=λz=>z.cell En
 have z33:∀z:x8 w3,z.1.cell? ⟨p0,33,none⟩=_:=λz=>z.cell wm
 have z34:∀z:x8 w3,z.1.cell? ⟨p0,34,none⟩=_:=λz=>z.cell Ab
 have z35:∀z:x8 w3,z.1.cell? ⟨p0,35,none⟩=_:=λz=>z.cell EE
 have z37:∀z:x8 w3,z.1.cell? ⟨p0,37,none⟩=_:=λz=>z.cell wn
 have z39:∀z:x8 w3,z.1.cell? ⟨p0,39,none⟩=_:=λz=>z.cell KS
 have z0:∀z:x8 w3,xo z.1 ⟨p0,0,none⟩ 32=true:=λz=>x8.ok oki z
 have z1:∀z:x8 w3,xm z.1 ⟨p0,0,none⟩ 32=(xl id).toArray:=λz=>(x8.rd oki z).trans rdi
 have ay:=h_ al;have eS:Hid (w3.heap.size=p0+3):=h_ (by rw[eT,i6]);have H0:=h_ h0;have H1:=h_ h1;have H2:=h_ h2;clear al eT h0 h1 h2 En wm Ab EE wn KS oki rdi;go_enter func8,ntmps8;go_upto_region 1 with fail
 refine xr bm ?_;rw[<-i6];have HPW:Hid (w.heap.size<=p0):=h_ (by omega);clear bm i6;refine zS [0,1,2,3,4,5,6,7,8,9,10,11,12,13,14,15,16,17,18,19,20,21,22,23,24,25,26,27,28,29] [30,31] 2 (λw'=>∃z:x8 w3,w'=z.1) (by kernel_rfl) (by kernel_rfl) rfl ⟨⟨w3.drew,(ab_ _ _).drew⟩,rfl⟩ ?_;simp only[o_]
 repeat (go_big_quiet_step (fail))
 refine wpQuiet_nil ?_
 rw[show (⟨#[120]⟩:ByteArray).extract 0 (min (1:Int) 300).toNat=⟨#[120]⟩ by decide,show (⟨#[]⟩:ByteArray).extract 0 (min (0:Int) 100).toNat=⟨#[]⟩ by decide,show (⟨#[]⟩:ByteArray).extract 0 (min (0:Int) 250).toNat=⟨#[]⟩ by decide,
  show xw ⟨id,⟨#[120]⟩,⟨#[]⟩,1,1,.slice none 0 0,⟨#[]⟩,.slice none 0 0,false⟩=xw (artX id)from rfl]
 clear z32 z33 z34 z35 z37 z39 z0 z1;have iA:xy 40 (xw (artX id))=true:=jR rfl rfl;have rY:((xw uB).size==40)=true:=by rw[xY];rfl
 obtain⟨w4,cP⟩:∃w4,w4=(w3.alloc (.cells (xw (artX id)) 40)).drew:=⟨_,rfl⟩;refine zz [30,31] rfl rfl (by kernel_rfl) (by kernel_rfl) ?_;refine yb true (by kernel_rfl) (by kernel_rfl) ?_;simp only[o_];go_wp2;refine⟨λ_=>⟨⟨_,((ab_ w3.heap.size w3).alloc (aa_ _) _).drew⟩,rfl⟩,xB [31] _ _ (by kernel_rfl) ?_⟩;simp only[o_];go_wp2;refine ag_ ?_;rw[<-cP];have cm:Below w3.heap.size w3 w4:=by rw[cP];exact((ab_ _ _).alloc (aa_ _) _).drew
 obtain⟨p3,iX⟩:∃p3,p3=w3.heap.size:=⟨_,rfl⟩;have h4:w4.heap[p3]?=some (.cells (xw (artX id)) 40 (0,0)):=by rw[cP,iX];exact heap_alloc_new w3 _
 rw[<-iX];clear cP;have En:=(cell_of_row w4 p3 32 _ _ _ h4).trans (ar32 _);have wm:=(cell_of_row w4 p3 33 _ _ _ h4).trans (ar33 _);have Ab:=(cell_of_row w4 p3 34 _ _ _ h4).trans (ar34 _);have EE:=(cell_of_row w4 p3 35 _ _ _ h4).trans (ar35 _);have wn:=(cell_of_row w4 p3 37 _ _ _ h4).trans (ar37 _);have KS:=(cell_of_row w4 p3 39 _ _ _ h4).trans (ar39 _);simp only[artX]at En wm Ab EE wn KS;obtain⟨oki,rdi⟩:=vW (l:=[]) (show w4.heap[p3]?=some (.cells (yT (artX id)++[]).toArray 40 (0,0)) by rw[aG_];exact h4);rw[show (artX id).id=id from rfl]at rdi;have hfx2:xy 40 (xw ⟨id,⟨#[120]⟩,⟨#[]⟩,1,1,.slice none 0 0,⟨#[]⟩,.slice none 0 0,false⟩)=true:=jR rfl rfl;obtain⟨w5,aY⟩:∃w5,w5=w4.alloc (.cells (xw (artX id)) 37):=⟨_,rfl⟩;have iu:Below w4.heap.size w4 w5:=by rw[aY];exact b_ _ _
 obtain⟨p4,tQ⟩:∃p4,p4=w4.heap.size:=⟨_,rfl⟩;have h5:w5.heap[p4]?=some (.cells (xw (artX id)) 37 (0,0)):=by rw[aY,tQ];exact heap_alloc_new w4 _
 have PZ:p3<w4.heap.size:=(i_ h4).1;have BM:=cm.size;have fZ:Below w3.heap.size w3 w5:=cm.trans (iu.mono BM);have aU:=h_ (ay.trans (fZ.mono ay.size));have H5:=h_ h5;have Rw:=h_ ((iu.block p3 PZ).trans h4);have eT:=eS.out;have VS:=h_ ((fZ.block p0 (by omega)).trans H0.out);have VT:=h_ ((fZ.block (p0+1) (by omega)).trans H1.out);have Y5:=h_ ((fZ.block (p0+1+1) (by omega)).trans H2.out);have Ta:Hid (w.heap.size<=p0):=h_ HPW.out;have HP:Hid (p0+3=p3/\p3<p4):=h_ (by omega);have iG:=h_ tQ;have rI:=h_ aY;clear cm iu fZ h4 h5 PZ BM eT H0 H1 H2 iX tQ aY;go_upto_region 3 with fail
 rw[show xw ⟨id,⟨#[120]⟩,⟨#[]⟩,1,1,.slice none 0 0,⟨#[]⟩,.slice none 0 0,false⟩=xw (artX id)from rfl,<-rI.out,<-iG.out];clear rI iG En wm Ab EE wn KS oki rdi;have pO:=(cell_of_row w5 p0 36 _ _ _ VS.out).trans (ar36 _);have KM:=(cell_of_row w5 p0 38 _ _ _ VS.out).trans (ar38 _);simp only[artX]at pO KM;go_wp2;refine wp_loop_once ?_;go_wp2;refine wp_loop_once ?_;go_upto_region 12 with fail
 clear pO KM;obtain⟨k4,r4⟩:=xD (n:=40) H5.out (xY _);obtain⟨k3,r3⟩:=xD (n:=40) Rw.out (xY _);have hp:=HP.out
 haveI:Nonempty (ArW w5 p3 p4):=⟨⟨w5,rfl,rfl⟩⟩
 have y0:∀z:ArW w5 p3 p4,xo z.1 ⟨p4,0,none⟩ 40=true:=λz=>(xD (n:=40) (z.h4.trans H5.out) (xY _)).1
 have y1:∀z:ArW w5 p3 p4,xm z.1 ⟨p4,0,none⟩ 40=xw (artX id):=λz=>(xD (n:=40) (z.h4.trans H5.out) (xY _)).2
 have y2:∀z:ArW w5 p3 p4,xo z.1 ⟨p3,0,none⟩ 40=true:=λz=>(xD (n:=40) (z.h3.trans Rw.out) (xY _)).1
 have y3:∀z:ArW w5 p3 p4,xm z.1 ⟨p3,0,none⟩ 40=xw (artX id):=λz=>(xD (n:=40) (z.h3.trans Rw.out) (xY _)).2
 have ro1:xM w5 (p0+1) 40=true:=by unfold xM;rw[VT.out];simp[xY]
 have dX:(w5.setRow (p0+1) (xw (artX id))).heap[p0+1+1]?=some (.cells (xw uB) 40 (0,0)):=(setRow_other w5 (p0+1) (p0+1+1) _ (by omega)).trans Y5.out;have ro2:xM (w5.setRow (p0+1) (xw (artX id))) (p0+1+1) 40=true:=by unfold xM;rw[dX];simp[xY]
 have rf:(w5.setRow (p0+1) (xw (artX id))).heap[p0+1]?=some (.cells (xw (artX id)) 37 (0,0)):=setRow_heap w5 (p0+1) _ _ _ _ VT.out;obtain⟨w7,da⟩:∃w7,w7=((w5.setRow (p0+1) (xw (artX id))).setRow (p0+1+1) (xw (artX id))).drew:=⟨_,rfl⟩;have e1:w7.heap[p0+1]?=some (.cells (xw (artX id)) 37 (0,0)):=by
  rw[da];exact(setRow_other _ (p0+1+1) (p0+1) _ (by omega)).trans rf
 have e2:w7.heap[p0+1+1]?=some (.cells (xw (artX id)) 40 (0,0)):=by
  rw[da];exact setRow_heap (w5.setRow (p0+1) (xw (artX id))) (p0+1+1) _ _ _ _ dX
 have cY:Below w.heap.size w w7:=by
  have hk:Kept [p0+1,p0+1+1] w5 w7:=by
   rw[da];exact(((Kept.of_below (F:=[p0+1,p0+1+1]) (ab_ w5.heap.size w5)).trans (qL w5 (p0+1) _) (λq hq=>.inl (by simp at hq⊢;exact .inl hq))).trans (qL _ (p0+1+1) _) (λq hq=>.inl (by simp at hq⊢;exact .inr hq))).trans (Kept.of_below (F:=[]) (ab_ _ _).drew) (λq hq=>by cases hq)
  exact aU.trans (hk.below aU.size (λq hq=>by have:=Ta.out;simp at hq;omega))
 obtain⟨x1,x2⟩:=xD (n:=40) e1 (xY _);obtain⟨x3,x4⟩:=xD (n:=40) e2 (xY _);have HF:=h_ (And.intro cY (And.intro (And.intro x1 x2) (And.intro x3 x4)));have sR:=h_ da;have CS:Hid ((w5.setRow (p0+1) (xw (artX id))).drew.heap[p3]?=w5.heap[p3]?):=h_ (setRow_other w5 (p0+1) p3 _ (by omega));have A7:Hid ((w5.setRow (p0+1) (xw (artX id))).drew.heap[p4]?=w5.heap[p4]?):=h_ (setRow_other w5 (p0+1) p4 _ (by omega));clear hp dX rf e1 e2 cY x1 x2 x3 x4 da HP H5 Rw VS VT Y5 k3 k4 r3 r4;refine xp [0,1] [2,3] (λw'=>∃z:ArW w5 p3 p4,w'=z.1) (by kernel_rfl) (by kernel_rfl) (by kernel_rfl) ⟨⟨w5.drew,rfl,rfl⟩,rfl⟩ ?_;simp only[o_]
 repeat (go_big_quiet_step (fail))
 refine wpQuiet_nil ?_;clear y0 y1 y2 y3;refine yb true (by kernel_rfl) (by kernel_rfl) ?_;simp only[o_];go_wp2;refine⟨λ_=>⟨⟨(w5.setRow (p0+1) (xw (artX id))).drew,CS.out,A7.out⟩,rfl⟩,xB [3] _ _ (by kernel_rfl) ?_⟩;simp only[o_];go_wp2;refine ag_ ?_;rw[<-sR.out];go_wp2;refine bodyPost_ret (v:=.tuple #[.agg (xw (artX id)),.agg (xw (artX id))]) (xXs rfl isAgg37 sizeOf37 isAgg40 sizeOf40 _ _ ⟨p0+1,0,none⟩ ⟨p0+1+1,0,none⟩ _ _ rfl rfl HF.2.1.1 HF.2.1.2 HF.2.2.1 HF.2.2.2) rfl ⟨rfl,HF.1⟩
end
section
theorem xPq (ρ:Operand->Value)(d x0 x1)(ty:TypeId)(pos af gd w):
  Sem.run prog (execOp ρ ⟨d,.build 62 #[(0,x0),(1,x1)],ty,pos,af,gd⟩) w=zB prog 62 w #[(0,ρ x0),(1,ρ x1)]:=by kernel_rfl
theorem yFd (w s x):zB prog 62 w #[(0,.string s),(1,.int .i64 x)]=.ok (.value (.agg #[.string s,.int .i64 x])) w:=zD (by kernel_rfl)
theorem xYe (w):(Op.equalIn 10000 62 (.agg #[.string ⟨#[99,111,109,112,46,111,115]⟩,.int .i64 1]) (.agg #[.string ⟨#[99,111,109,112,46,111,115]⟩,.int .i64 1])).run prog w=.ok true w:=by
 kernel_rfl
theorem kn8 {w12 W}(h:Below w12.heap.size w12 W):∃W' bA,W.alloc (.cells (x7 zy) 58)=W'/\W.heap.size=bA/\Below W.heap.size W W'/\Hid (W'.heap[bA]?=some (.cells (x7 zy) 58 (0,0)))/\Hid (w12.heap.size<=bA)/\Hid (Below w12.heap.size w12 W'):=
 have hb:Below W.heap.size W (W.alloc (.cells (x7 zy) 58)):=(ab_ _ _).alloc (aa_ _) _
 ⟨_,_,rfl,rfl,hb,h_ (heap_alloc_new W _),h_ h.size,h_ (h.trans (hb.mono h.size))⟩
theorem kn9 {w12 W bA}(hA:W.heap[bA]?=some (.cells (x7 zy) 58 (0,0)))(hb:w12.heap.size<=bA)(h:Below w12.heap.size w12 W):∃W',W.setRow bA (x7 (kEnt 1 1))=W'/\Hid (W'.heap[bA]?=some (.cells (x7 (kEnt 1 1)) 58 (0,0)))/\Hid (Below w12.heap.size w12 W'):=
 ⟨_,rfl,h_ (setRow_heap _ _ _ _ _ _ hA),h_ (h.trans ((qL W bA _).below h.size (λk hk=>by rw[ac_.1 hk];exact hb)))⟩
theorem kn4 {B gb w v}(h:yO B w v)(hk:kvs v.es=(k4 gb).hes):Calls prog 21 #[.pointer (some ⟨v.p,0,none⟩),.agg (xl (idN 1)).toArray] w λe w'=>Below w.heap.size w w'/\e=.returned (.tuple #[.agg (x7 (kEnt 1 1)),.bool true]):=by
 have bG:getK (idN 1) v.es=some (.agg (x7 (kEnt 1 1))):=by rw[ji,hk];exact yCz gb
 obtain⟨x,_,eN,bU⟩:=yB0 h (idN 1);rw[<-eN _ bG,bG]at bU;exact bU
theorem xX9 {P ops}{Q:Exit->Act->World->Prop}{C:World->Prop}{E R n r s t a w}(hr:xE0 ops R=[r,s,t])
  (h1:wpOp P ops (NoPanic Q) r (λa' w'=>(qK ops E r=true->C w')/\wpF P ops Q C E n (R.erase r) a' w') a w)
  (h2:wpOp P ops (NoPanic Q) s (λa' w'=>(qK ops E s=true->C w')/\wpF P ops Q C E n (R.erase s) a' w') a w)
  (h3:wpOp P ops (NoPanic Q) t (λa' w'=>(qK ops E t=true->C w')/\wpF P ops Q C E n (R.erase t) a' w') a w):wpF P ops Q C E (n+1) R a w:=by
 intro i hi;rw[hr]at hi;rcases ae_.1 hi with rfl|hi
 ·exact h1
 rcases ae_.1 hi with rfl|hi
 ·exact h2
 rw[ac_]at hi;subst hi;exact h3
attribute [local go_sem ↓] xPq xL xI uK ub qs ud zJ zK xPr xLw qM qr
attribute [local go_sem] yFd xYe zm xAw xAu kR kJ yFf yFe yDk xE3 xDu zn zu yx yw xh xf xa x9 xu xv xk xj xq xx xt
theorem xQr {w}(hG:Gl w):Calls prog 4 #[] w λe w'=>e=.returned (.bool true)/\Below w.heap.size w w':=by
 have HG:=h_ hG;have mn:Hid (prog.globals.size<=w.heap.size):=h_ hG.size;clear hG;go_enter func4,ntmps4;go_wp2_with fail;refine(xTc 256 w (by omega)).mono ?_;rintro e w1⟨rfl,aa,bg⟩;obtain⟨D,hD⟩:∃D,D=w.heap.size:=⟨_,rfl⟩;obtain⟨v,hv⟩:∃v,v=xOz w:=⟨_,rfl⟩;have lR:v.p=D+1:=by rw[hv,hD];rfl
 have GF:∀k∈v.foot,D<=k:=λk hk=>by rw[hv]at hk;rw[hD];exact(bg.foot_lt k hk).1
 rw[<-hv,<-hD]at bg;rw[<-hD];have eO:Below D w w1:=by rw[hD];exact aa
 have JD:D<=w1.heap.size:=by rw[hD];exact aa.size
 have mr:Hid (prog.globals.size<=D):=h_ (by rw[hD];exact mn.out);have ar:=h_ eO;have HF:=h_ (xGv bg ⟨rfl,rfl⟩ (HG.below eO mr.out) (by decide) rfl (λs _=>xHe sha 256 s) 1000 (by omega) (by omega) JD mr.out);rw[lR,show ((1000:Nat):Int)=1000 from rfl]at HF;have HD:=h_ hD;have sM:=h_ lR;have VU:=h_ GF;have KT:Hid (D<=w1.heap.size):=h_ JD;clear aa bg hv lR GF eO JD;have hD':D=D:=rfl;clear hD hD';go_wp2_with fail;refine HF.mono ?_;rintro e w2 ⟨rfl,hk2,v2,d2,j2,mX,i4,bE,dP,aA,P0⟩;have dh:Below D w w2:=ar.trans (hk2.below KT.out VU.out);have r_:D<=w2.heap.size:=ad_ KT.out hk2.size;have au:=h_ dh;have Eo:Hid (D<=w2.heap.size):=h_ r_;have JE:d2.n=256:=aA;have HO:=h_ (xMe bE (by rw[JE];decide) P0 (HG.below dh mr.out) (by omega) (by omega) r_ mr.out);rw[mX.trans sM.out]at HO;have bQ:=h_ JE;have WA:=h_ (mX.trans sM.out);clear hk2 mX i4 bE dP aA P0 dh r_ JE HF;go_wp2_with fail;refine HO.mono ?_;rintro e w3 ⟨sb,rfl,al,F3,gO⟩;rw[bQ.out,WA.out]at gO;have cU:Below D w w3:=au.trans al;have sd:D<=w3.heap.size:=ad_ Eo.out al.size;have ay:=h_ cU;have JF:Hid (D<=w3.heap.size):=h_ sd;have VV:=h_ (xO8 gO rfl (HG.below cU mr.out) mr.out sd cos (by decide) xKn (by decide))
 rw[show str cos=⟨#[99,111,109,112,46,111,115]⟩from rfl]at VV;clear al gO cU sd HO;go_wp2_with fail;refine VV.mono ?_;rintro e w4 ⟨rfl,aQ,_,F4,cO,_⟩;have cO:StOk D w4 sb (D+1) 256 102 3 k1 F4:=cO;have ik:=ay.trans aQ;have VW:D<=w4.heap.size:=ad_ JF.out aQ.size;have mT:=cO.flt;obtain⟨w5,aY⟩:∃w5,w5=w4.alloc (.cells (encB tex).toArray 5):=⟨_,rfl⟩;have iu:Below w4.heap.size w4 w5:=by rw[aY];exact b_ _ _
 have Cx:=yA9 w4;have gV:(convert 31 9 (.slice (some ⟨w4.heap.size,0,none⟩) 100 100)).run prog (w4.alloc (.cells (encB tex).toArray 5))=.ok (.string (str tex)) (w4.alloc (.cells (encB tex).toArray 5)):=by
  have:=xKo (a:=⟨w4.heap.size,0,none⟩) (cap:=100) (l:=tex) (vi w4 5 tex);rw[jJ]at this;exact this
 obtain⟨gb,tJ⟩:∃gb,gb=w5.heap.size:=⟨_,rfl⟩;obtain⟨w6,b8⟩:∃w6,w6=w5.alloc (.cells #[.string ⟨#[99,111,109,112,46,111,115]⟩] 9):=⟨_,rfl⟩;have oY:Below w5.heap.size w5 w6:=by rw[b8];exact b_ _ _
 have CJ:w6.heap[gb]?=some (.cells #[.string (str cos)] 9 (0,0)):=by rw[b8,tJ];exact heap_alloc_new w5 _
 obtain⟨p6,Bq⟩:∃p6,p6=gb+1:=⟨_,rfl⟩;have nZ:w6.heap.size=p6:=by rw[b8,Bq,tJ];simp
 obtain⟨w7,da⟩:∃w7,w7=w6.alloc (.cells (xw (kA 1 gb)) 37):=⟨_,rfl⟩;have oZ:Below w6.heap.size w6 w7:=by rw[da];exact b_ _ _
 have lF:w7.heap[p6]?=some (.cells (xw (kA 1 gb)) 37 (0,0)):=by rw[da,<-nZ];exact heap_alloc_new w6 _
 obtain⟨p7,Iy⟩:∃p7,p7=w7.heap.size:=⟨_,rfl⟩;obtain⟨w8,sX⟩:∃w8,w8=w7.alloc (.cells (xw (kA 1 gb)) 37):=⟨_,rfl⟩;have iS:Below w7.heap.size w7 w8:=by rw[sX];exact b_ _ _
 have i7:w8.heap[p7]?=some (.cells (xw (kA 1 gb)) 37 (0,0)):=by rw[sX,Iy];exact heap_alloc_new w7 _
 obtain⟨w9,fV⟩:∃w9,w9=w8.setRow p7 (xw (kA 2 gb)):=⟨_,rfl⟩;have FU:=yCg w8 p7 (kA 1 gb) (idN 2) i7;rw[show ({ kA 1 gb with id:=idN 2 }:Art)=kA 2 gb from rfl,<-fV]at FU;have er:Kept [p7] w8 w9:=by rw[fV];exact qL w8 p7 _
 have wH:w9.heap[p7]?=some (.cells (xw (kA 2 gb)) 37 (0,0)):=by rw[fV];exact setRow_heap _ _ _ _ _ _ i7
 have z5:w4.heap.size<=gb:=by rw[tJ];exact iu.size
 have z6:gb<p6:=by omega
 have z7:p6<p7:=by rw[Iy];exact(i_ lF).1
 have z8:p7<w9.heap.size:=(i_ wH).1;have JG:w9.heap[p6]?=some (.cells (xw (kA 1 gb)) 37 (0,0)):=(er.block p6 (by have:=iS.size;omega) (by simp;omega)).trans ((iS.block p6 (by omega)).trans lF);have DL:w9.heap[gb]?=some (.cells #[.string (str cos)] 9 (0,0)):=(er.block gb (by have:=iS.size;omega) (by simp;omega)).trans ((iS.block gb (by omega)).trans ((oZ.block gb (by omega)).trans CJ));have JH:Below w4.heap.size w4 w8:=iu.trans ((oY.trans ((oZ.trans (iS.mono oZ.size)).mono oY.size)).mono iu.size);have Cl:Below w4.heap.size w4 w9:=JH.trans (er.below JH.size (λk hk=>by rw[ac_.1 hk];omega));have P1:=cO.below Cl;have ER:Below D w w9:=ik.trans (Cl.mono VW);have VX:D<=w9.heap.size:=ad_ VW Cl.size;have P2:w9.cell? ⟨gb,0,none⟩=some (.string (str cos)):=cell_of_row w9 gb 0 _ _ _ DL;have pr:=h_ (xMd P1 (HG.below ER mr.out) mr.out VX (idN 1) tex [] [] cos 5 6 gb 1 0 (kA 1 gb) rfl P2 (by omega) (yAt 1 (by decide)) xKn (by have:=yCy;exact this) (by rw[jJ];omega) (by rw[jJ];omega) (by simp) (by simp) (by decide) (by omega) (by omega) rfl (by decide) rfl (by rw[jJ];decide) (by decide) (by decide) rfl (by omega) rfl (by rw[xI6];decide))
 rw[xI6]at pr;obtain⟨o7,r7⟩:=xD (n:=40) lF (xY _);obtain⟨o9,r9⟩:=xD (n:=40) JG (xY _);have VY:xy 40 (xw ⟨idN 1,str tex,⟨#[]⟩,5,6,.slice (some ⟨w5.heap.size,0,none⟩) 1 1,⟨#[]⟩,.slice none 0 0,false⟩)=true:=jR rfl rfl;have ma:xy 40 (xw (kA 1 gb))=true:=jR rfl rfl;have rY:((xw uB).size==40)=true:=by rw[xY];rfl
 have HW:=h_ (And.intro z5 (And.intro z6 (And.intro z7 z8)));have EN:=h_ mT;have VZ:=h_ JG;have HN9:=h_ wH;have HG9:=h_ DL;have fW:=h_ ER;have HD9:Hid (D<=w9.heap.size):=h_ VX;have P3:Hid (w4.heap.size<=w9.heap.size):=h_ Cl.size;clear nZ aQ cO ik VW mT iu oY CJ oZ lF iS i7 er wH z5 z6 z7 z8 JG DL JH Cl P1 ER VX P2 VV;go_upto_region 8 with fail
 refine xr aY ?_;clear aY Cx gV;go_upto_region 9 with fail
 rw[<-b8,<-tJ,<-Bq];refine xr da ?_;clear b8 da tJ Bq VY;go_upto_region 10 with fail
 refine xr sX ?_;rw[<-Iy];clear sX Iy o7 r7 ma;go_upto_region 11 with fail
 refine xr fV ?_;clear fV FU;go_wp2_with fail;refine pr.mono ?_;rintro e bn ⟨pb,pc,rfl,dT,we,⟨V0,s8,Y6,P4⟩,lG,hpl,aH,i6,iz⟩;have s8:StOk D bn sb (D+1) 256 102 4 (k2 gb) V0:=s8;have rK:Below D w bn:=fW.trans dT;have JI:D<=bn.heap.size:=ad_ HD9.out we.size;have hW:=HW.out;have JJ:=P3.out;have P5:=EN.out;have eh:∀k,w4.heap.size<=k->k∉F4:=λk h hm=>by have:=(P5 k hm).2;omega
 have tD:∀k,w4.heap.size<=k->k<w9.heap.size->k∉V0:=λk h1 h2 hm=>by
  rcases P4 k hm with h|h
  ·exact eh k h1 h
  ·omega
 have cJ:=(we.block gb (by omega) (eh gb hW.1)).trans HG9.out;have Cm:=(we.block p6 (by omega) (eh p6 (by omega))).trans VZ.out;have FV:=(we.block p7 (by omega) (eh p7 (by omega))).trans HN9.out;have tO:=h_ (xO7 s8 (HG.below rK mr.out) mr.out JI (str cos) 1 (kP 1 1) rfl kArt (kEnt 1 0) (yEx gb) (by rw[xJr];show (str tex).size<=100;rw[xIh];omega) (by rw[xJr];omega) rfl (by omega) rfl (yD0 gb) rfl (by decide));obtain⟨Rc,Re⟩:=vW (l:=[]) (w:=bn) (b:=p6) (a:=kA 1 gb) (by rw[aG_];exact Cm);have JK:=h_ tD;have P6:=h_ Y6;have V1:=h_ cJ;have P7:=h_ Cm;have P8:=h_ FV;have iI:=h_ rK;have V2:Hid (D<=bn.heap.size):=h_ JI;have Vg:=h_ (And.intro lG (And.intro hpl (And.intro i6 iz)));have V3:Hid (w9.heap.size<=bn.heap.size):=h_ we.size;have Vh:(1:Int)<=pc:=by omega
 clear dT we s8 Y6 P4 lG hpl aH i6 iz rK JI hW JJ P5 eh tD cJ Cm FV pr o9 r9;go_wp2_with fail;refine tO.mono ?_;rintro e aW ⟨rfl,Ag,sf,Y7,s9,P9⟩;have s9:StOk D aW sb (D+1) 256 102 5 (k3 gb) Y7:=s9;have JL:Below D w aW:=iI.trans Ag;have JM:D<=aW.heap.size:=ad_ V2.out sf.size;have hW:=HW.out;have P_:=Vg.out;have V4:=V3.out;have JJ:=P3.out;have Ep:∀k,k∉V0->k<bn.heap.size->k∉Y7:=λk h1 h2 hm=>by
  rcases P9 k hm with h|h
  ·exact h1 h
  ·omega
 have q1:=JK.out gb (by omega) (by omega);have q2:=JK.out p6 (by omega) (by omega);have q3:=JK.out p7 (by omega) (by omega);have ov:=(sf.block gb (by omega) q1).trans V1.out;have FW:=(sf.block p6 (by omega) q2).trans P7.out;have FX:=(sf.block p7 (by omega) q3).trans P8.out;have Cn:=sf.block pb P_.2.1 P6.out;have Co:=(aN_ (a:=⟨pb,0,none⟩) Cn).trans P_.2.2.1;have Cp:=(aN_ (a:=⟨pb,1,none⟩) Cn).trans P_.2.2.2;have C8:=h_ (xMd s9 (HG.below JL mr.out) mr.out JM (idN 2) tex [] [] cos 5 6 gb 1 1 (kA 2 gb) rfl (cell_of_row aW gb 0 _ _ _ ov) (by omega) (yAt 2 (by decide)) xKn (by have:=yCx;exact this) (by rw[jJ];omega) (by rw[jJ];omega) (by simp) (by simp) (by decide) (by omega) (by omega) (yAn gb) (by rw[xUy];decide) rfl (by rw[yAo,jJ];show 0+100<=1000;omega) (by show 1000<=_;omega) (by show 0+1<=1000;omega) rfl (by omega) rfl (by rw[xI6];decide));rw[xI6]at C8;obtain⟨o11,r11⟩:=xD (n:=40) FX (xY _);have Qa:=h_ (And.intro (Ep gb q1 (by omega)) (And.intro (Ep p6 q2 (by omega)) (Ep pb P6.out P_.2.1)))
 have FY:=h_ FW;have Cq:=h_ (And.intro Co Cp);have ic:=h_ JL;have HZ11:Hid (bn.heap.size<=aW.heap.size):=h_ sf.size;have V5:Hid (D<=aW.heap.size):=h_ JM;clear Ag sf s9 P9 JL JM hW P_ V4 JJ Ep q1 q2 q3 ov FW FX Cn Co Cp tO Rc Re;go_wp2_with fail;refine C8.mono ?_;rintro e w12 ⟨qb,qc,rfl,ak,Er,⟨F12,s_,_,_⟩,hqB,QV,hqc,D6,rf⟩;have s_:StOk D w12 sb (D+1) 256 102 6 (k4 gb) F12:=s_;have hpl:pb<aW.heap.size:=block_lt_of_cell Cq.1;have Cr:=Er.block pb hpl Qa.2.2;have Co:=(aN_ (a:=⟨pb,0,none⟩) Cr).trans Cq.1;have Cp:=(aN_ (a:=⟨pb,1,none⟩) Cr).trans Cq.2;have FZ:=(Er.block p6 (i_ FY.out).1 Qa.2.1).trans FY.out;have dU:=h_ (ic.trans ak);have Cs:=h_ s_;have ta:=h_ (And.intro Co Cp);have F0:=h_ (And.intro D6 rf);have tb:=h_ FZ;have V6:Hid (D<=w12.heap.size):=h_ (ad_ V5.out Er.size);have hqcz:(1:Int)<=qc:=by omega
 clear ak Er s_ hqB QV hqc D6 rf hpl Cr Co Cp FZ C8 o11 r11;go_upto_region 14 with fail
 go_cut [13,14]from 67 to 75 (λa b wx=>b=.bool true/\∃bA,a=.pointer (some ⟨bA,0,none⟩)/\Hid (wx.heap[bA]?=some (.cells (x7 (kEnt 1 1)) 58 (0,0)))/\Hid (Below w12.heap.size w12 wx))
 case first=>
  rename_i J K' hJ hK;have z1:∀z:x8 w12,xo z.1 ⟨p6,0,none⟩ 32=true:=λz=>(vW (l:=[]) (w:=z.1) (b:=p6) (a:=kA 1 gb) (by rw[aG_];exact(z.2.block _ (i_ tb.out).1).trans tb.out)).1
  have z2:∀z:x8 w12,xm z.1 ⟨p6,0,none⟩ 32=(xl (idN 1)).toArray:=λz=>(vW (l:=[]) (w:=z.1) (b:=p6) (a:=kA 1 gb) (by rw[aG_];exact(z.2.block _ (i_ tb.out).1).trans tb.out)).2
  refine zS [0,2,3] [1,4,5,6,7,8,9,10] 8 (λw'=>∃z:x8 w12,w'=z.1) (by kernel_rfl) (by kernel_rfl) rfl ⟨⟨_,(ab_ _ _).drew⟩,rfl⟩ ?_;simp only[o_]
  repeat (go_big_quiet_step (fail))
  refine wpQuiet_nil ?_;clear z1 z2;generalize Y8:w12.drew=W0;have Ct:Hid (Below w12.heap.size w12 W0):=h_ (by rw[<-Y8];exact(ab_ _ _).drew);clear Y8;have bJ:xy 36 (x7 (kEnt 1 1))=true:=by kernel_rfl
  refine qC (r:=1) (s:=8) (by kernel_rfl) ?_ ?_
  ·refine yV true (by kernel_rfl) (by kernel_rfl) (rest:=[4,5,6,7,8,9,10]) rfl ?_;simp only[o_];go_wp2_with fail;refine(xA5 (Cs.below Ct.out)).mono ?_;rintro e W4 ⟨be,v,rfl,aB,Qb⟩;have HH:=h_ (aB.base Ct.size);have HK:=h_ Qb;have mu:=h_ (Ct.trans (be.mono Ct.size));clear be aB Qb;go_wp2_with fail;refine⟨λ_=>⟨⟨_,mu.out⟩,rfl⟩,?_⟩;refine qC (r:=4) (s:=8) (by kernel_rfl) ?_ ?_
   ·refine yV false (by kernel_rfl) (by kernel_rfl) (rest:=[5,6,7,8,9,10]) rfl ?_;simp only[o_];go_wp2_with fail;refine(kn4 HH.out HK.out).mono ?_;rintro e W5 ⟨be,rfl⟩;have dZ:=h_ (mu.trans (be.mono mu.size));clear be HH HK;go_wp2_with fail;refine⟨λ_=>⟨⟨_,dZ.out⟩,rfl⟩,?_⟩;refine qC (r:=5) (s:=8) (by kernel_rfl) ?_ ?_
    ·refine yV false (by kernel_rfl) (by kernel_rfl) (rest:=[6,7,8,9,10]) rfl ?_;simp only[o_];go_wp2_with fail;refine⟨λ_=>⟨⟨_,dZ.out⟩,rfl⟩,?_⟩;refine xX9 (r:=6) (s:=7) (t:=8) (by kernel_rfl) ?_ ?_ ?_
     ·refine yV false (by kernel_rfl) (by kernel_rfl) (rest:=[7,8,9,10]) rfl ?_;simp only[o_];go_wp2_with fail;refine⟨λ_=>⟨⟨_,dZ.out⟩,rfl⟩,?_⟩;refine qC (r:=7) (s:=8) (by kernel_rfl) ?_ ?_
      ·refine yV false (by kernel_rfl) (by kernel_rfl) (rest:=[8,9,10]) rfl ?_;simp only[o_];go_wp2_with fail;refine⟨λ_=>⟨⟨_,dZ.out⟩,rfl⟩,?_⟩;refine kG (r:=8) (by kernel_rfl) ?_;refine yV true (by kernel_rfl) (by kernel_rfl) (rest:=[9,10]) rfl ?_;simp only[o_];go_wp2_with fail;obtain⟨W9,bA,e1,e2,be,HA,eQ,bY⟩:=kn8 dZ.out;rw[e1,e2];clear be e1 e2;refine⟨λ_=>⟨⟨_,bY.out⟩,rfl⟩,?_⟩;refine zz [9,10] rfl (by kernel_rfl) (by kernel_rfl) (by kernel_rfl) (xB [9,10] _ _ (by kernel_rfl) ?_);simp only[o_];have bu:=zN HA.out (xC _);go_wp2_with fail;obtain⟨Es,e1,HC,d_⟩:=kn9 HA.out eQ.out bY.out;rw[e1];clear e1 bu HA;refine ag_ ?_;refine hK _ _ ?_;go_meet;exact⟨rfl,_,rfl,HC,d_⟩
      ·refine yV true (by kernel_rfl) (by kernel_rfl) (rest:=[7,9,10]) rfl ?_;simp only[o_];go_wp2_with fail;obtain⟨W8,bA,e1,e2,be,HA,eQ,sg⟩:=kn8 dZ.out;rw[e1,e2];clear be e1 e2;refine⟨λ_=>⟨⟨_,sg.out⟩,rfl⟩,?_⟩;refine qC (r:=7) (s:=9) (by kernel_rfl) ?_ ?_
       ·refine yV false (by kernel_rfl) (by kernel_rfl) (rest:=[9,10]) rfl ?_;simp only[o_];go_wp2_with fail;refine⟨λ_=>⟨⟨_,sg.out⟩,rfl⟩,?_⟩;refine zz [9,10] rfl (by kernel_rfl) (by kernel_rfl) (by kernel_rfl) (xB [9,10] _ _ (by kernel_rfl) ?_);simp only[o_];have bu:=zN HA.out (xC _);go_wp2_with fail;obtain⟨Es,e1,HC,d_⟩:=kn9 HA.out eQ.out sg.out;rw[e1];clear e1 bu HA;refine ag_ ?_;refine hK _ _ ?_;go_meet;exact⟨rfl,_,rfl,HC,d_⟩
       ·refine yV false (by kernel_rfl) (by kernel_rfl) (rest:=[7,10]) rfl ?_;simp only[o_];have bu:=zN HA.out (xC _);go_wp2_with fail;obtain⟨W9,e1,HC,bY⟩:=kn9 HA.out eQ.out sg.out;rw[e1];clear e1 bu HA;refine⟨λ_=>⟨⟨_,bY.out⟩,rfl⟩,?_⟩;refine zz [7,10] rfl (by kernel_rfl) (by kernel_rfl) (by kernel_rfl) (xB [7,10] _ _ (by kernel_rfl) ?_);simp only[o_];go_wp2_with fail;refine ag_ ?_;refine hK _ _ ?_;go_meet;exact⟨rfl,_,rfl,HC,bY⟩
     ·refine yV false (by kernel_rfl) (by kernel_rfl) (rest:=[6,8,9,10]) rfl ?_;simp only[o_];go_wp2_with fail;refine⟨λ_=>⟨⟨_,dZ.out⟩,rfl⟩,?_⟩;refine qC (r:=6) (s:=8) (by kernel_rfl) ?_ ?_
      ·refine yV false (by kernel_rfl) (by kernel_rfl) (rest:=[8,9,10]) rfl ?_;simp only[o_];go_wp2_with fail;refine⟨λ_=>⟨⟨_,dZ.out⟩,rfl⟩,?_⟩;refine kG (r:=8) (by kernel_rfl) ?_;refine yV true (by kernel_rfl) (by kernel_rfl) (rest:=[9,10]) rfl ?_;simp only[o_];go_wp2_with fail;obtain⟨W9,bA,e1,e2,be,HA,eQ,bY⟩:=kn8 dZ.out;rw[e1,e2];clear be e1 e2;refine⟨λ_=>⟨⟨_,bY.out⟩,rfl⟩,?_⟩;refine zz [9,10] rfl (by kernel_rfl) (by kernel_rfl) (by kernel_rfl) (xB [9,10] _ _ (by kernel_rfl) ?_);simp only[o_];have bu:=zN HA.out (xC _);go_wp2_with fail;obtain⟨Es,e1,HC,d_⟩:=kn9 HA.out eQ.out bY.out;rw[e1];clear e1 bu HA;refine ag_ ?_;refine hK _ _ ?_;go_meet;exact⟨rfl,_,rfl,HC,d_⟩
      ·refine yV true (by kernel_rfl) (by kernel_rfl) (rest:=[6,9,10]) rfl ?_;simp only[o_];go_wp2_with fail;obtain⟨W8,bA,e1,e2,be,HA,eQ,sg⟩:=kn8 dZ.out;rw[e1,e2];clear be e1 e2;refine⟨λ_=>⟨⟨_,sg.out⟩,rfl⟩,?_⟩;refine zz [6,9,10] rfl (by kernel_rfl) (by kernel_rfl) (by kernel_rfl) (xB [6,9,10] _ _ (by kernel_rfl) ?_);simp only[o_];have bu:=zN HA.out (xC _);go_wp2_with fail;obtain⟨W9,e1,HC,bY⟩:=kn9 HA.out eQ.out sg.out;rw[e1];clear e1 bu HA;refine ag_ ?_;refine hK _ _ ?_;go_meet;exact⟨rfl,_,rfl,HC,bY⟩
     ·refine yV true (by kernel_rfl) (by kernel_rfl) (rest:=[6,7,9,10]) rfl ?_;simp only[o_];go_wp2_with fail;obtain⟨W7,bA,e1,e2,be,HA,eQ,sh⟩:=kn8 dZ.out;rw[e1,e2];clear be e1 e2;refine⟨λ_=>⟨⟨_,sh.out⟩,rfl⟩,?_⟩;refine qC (r:=6) (s:=7) (by kernel_rfl) ?_ ?_
      ·refine yV false (by kernel_rfl) (by kernel_rfl) (rest:=[7,9,10]) rfl ?_;simp only[o_];go_wp2_with fail;refine⟨λ_=>⟨⟨_,sh.out⟩,rfl⟩,?_⟩;refine qC (r:=7) (s:=9) (by kernel_rfl) ?_ ?_
       ·refine yV false (by kernel_rfl) (by kernel_rfl) (rest:=[9,10]) rfl ?_;simp only[o_];go_wp2_with fail;refine⟨λ_=>⟨⟨_,sh.out⟩,rfl⟩,?_⟩;refine zz [9,10] rfl (by kernel_rfl) (by kernel_rfl) (by kernel_rfl) (xB [9,10] _ _ (by kernel_rfl) ?_);simp only[o_];have bu:=zN HA.out (xC _);go_wp2_with fail;obtain⟨Es,e1,HC,d_⟩:=kn9 HA.out eQ.out sh.out;rw[e1];clear e1 bu HA;refine ag_ ?_;refine hK _ _ ?_;go_meet;exact⟨rfl,_,rfl,HC,d_⟩
       ·refine yV false (by kernel_rfl) (by kernel_rfl) (rest:=[7,10]) rfl ?_;simp only[o_];have bu:=zN HA.out (xC _);go_wp2_with fail;obtain⟨W9,e1,HC,bY⟩:=kn9 HA.out eQ.out sh.out;rw[e1];clear e1 bu HA;refine⟨λ_=>⟨⟨_,bY.out⟩,rfl⟩,?_⟩;refine zz [7,10] rfl (by kernel_rfl) (by kernel_rfl) (by kernel_rfl) (xB [7,10] _ _ (by kernel_rfl) ?_);simp only[o_];go_wp2_with fail;refine ag_ ?_;refine hK _ _ ?_;go_meet;exact⟨rfl,_,rfl,HC,bY⟩
      ·refine yV false (by kernel_rfl) (by kernel_rfl) (rest:=[6,9,10]) rfl ?_;simp only[o_];go_wp2_with fail;refine⟨λ_=>⟨⟨_,sh.out⟩,rfl⟩,?_⟩;refine zz [6,9,10] rfl (by kernel_rfl) (by kernel_rfl) (by kernel_rfl) (xB [6,9,10] _ _ (by kernel_rfl) ?_);simp only[o_];have bu:=zN HA.out (xC _);go_wp2_with fail;obtain⟨W9,e1,HC,bY⟩:=kn9 HA.out eQ.out sh.out;rw[e1];clear e1 bu HA;refine ag_ ?_;refine hK _ _ ?_;go_meet;exact⟨rfl,_,rfl,HC,bY⟩
    ·refine yV true (by kernel_rfl) (by kernel_rfl) (rest:=[5,6,7,9,10]) rfl ?_;simp only[o_];go_wp2_with fail;obtain⟨W6,bA,e1,e2,be,HA,eQ,cM⟩:=kn8 dZ.out;rw[e1,e2];clear be e1 e2;refine⟨λ_=>⟨⟨_,cM.out⟩,rfl⟩,?_⟩;refine kG (r:=5) (by kernel_rfl) ?_;refine yV false (by kernel_rfl) (by kernel_rfl) (rest:=[6,7,9,10]) rfl ?_;simp only[o_];go_wp2_with fail;refine⟨λ_=>⟨⟨_,cM.out⟩,rfl⟩,?_⟩;refine qC (r:=6) (s:=7) (by kernel_rfl) ?_ ?_
     ·refine yV false (by kernel_rfl) (by kernel_rfl) (rest:=[7,9,10]) rfl ?_;simp only[o_];go_wp2_with fail;refine⟨λ_=>⟨⟨_,cM.out⟩,rfl⟩,?_⟩;refine qC (r:=7) (s:=9) (by kernel_rfl) ?_ ?_
      ·refine yV false (by kernel_rfl) (by kernel_rfl) (rest:=[9,10]) rfl ?_;simp only[o_];go_wp2_with fail;refine⟨λ_=>⟨⟨_,cM.out⟩,rfl⟩,?_⟩;refine zz [9,10] rfl (by kernel_rfl) (by kernel_rfl) (by kernel_rfl) (xB [9,10] _ _ (by kernel_rfl) ?_);simp only[o_];have bu:=zN HA.out (xC _);go_wp2_with fail;obtain⟨Es,e1,HC,d_⟩:=kn9 HA.out eQ.out cM.out;rw[e1];clear e1 bu HA;refine ag_ ?_;refine hK _ _ ?_;go_meet;exact⟨rfl,_,rfl,HC,d_⟩
      ·refine yV false (by kernel_rfl) (by kernel_rfl) (rest:=[7,10]) rfl ?_;simp only[o_];have bu:=zN HA.out (xC _);go_wp2_with fail;obtain⟨W9,e1,HC,bY⟩:=kn9 HA.out eQ.out cM.out;rw[e1];clear e1 bu HA;refine⟨λ_=>⟨⟨_,bY.out⟩,rfl⟩,?_⟩;refine zz [7,10] rfl (by kernel_rfl) (by kernel_rfl) (by kernel_rfl) (xB [7,10] _ _ (by kernel_rfl) ?_);simp only[o_];go_wp2_with fail;refine ag_ ?_;refine hK _ _ ?_;go_meet;exact⟨rfl,_,rfl,HC,bY⟩
     ·refine yV false (by kernel_rfl) (by kernel_rfl) (rest:=[6,9,10]) rfl ?_;simp only[o_];go_wp2_with fail;refine⟨λ_=>⟨⟨_,cM.out⟩,rfl⟩,?_⟩;refine zz [6,9,10] rfl (by kernel_rfl) (by kernel_rfl) (by kernel_rfl) (xB [6,9,10] _ _ (by kernel_rfl) ?_);simp only[o_];have bu:=zN HA.out (xC _);go_wp2_with fail;obtain⟨W9,e1,HC,bY⟩:=kn9 HA.out eQ.out cM.out;rw[e1];clear e1 bu HA;refine ag_ ?_;refine hK _ _ ?_;go_meet;exact⟨rfl,_,rfl,HC,bY⟩
   ·refine yV true (by kernel_rfl) (by kernel_rfl) (rest:=[4,5,6,7,9,10]) rfl ?_;simp only[o_];go_wp2_with fail;obtain⟨W5,bA,e1,e2,be,HA,eQ,dZ⟩:=kn8 mu.out;rw[e1,e2];have HH:=h_ (HH.below be);clear be e1 e2;refine⟨λ_=>⟨⟨_,dZ.out⟩,rfl⟩,?_⟩;refine kG (r:=4) (by kernel_rfl) ?_;refine yV false (by kernel_rfl) (by kernel_rfl) (rest:=[5,6,7,9,10]) rfl ?_;simp only[o_];go_wp2_with fail;refine(kn4 HH.out HK.out).mono ?_;rintro e W6 ⟨be,rfl⟩;have cM:=h_ (dZ.trans (be.mono dZ.size));have HA:=h_ ((be.block _ (i_ HA.out).1).trans HA.out);clear be HH HK;go_wp2_with fail;refine⟨λ_=>⟨⟨_,cM.out⟩,rfl⟩,?_⟩;refine kG (r:=5) (by kernel_rfl) ?_;refine yV false (by kernel_rfl) (by kernel_rfl) (rest:=[6,7,9,10]) rfl ?_;simp only[o_];go_wp2_with fail;refine⟨λ_=>⟨⟨_,cM.out⟩,rfl⟩,?_⟩;refine qC (r:=6) (s:=7) (by kernel_rfl) ?_ ?_
    ·refine yV false (by kernel_rfl) (by kernel_rfl) (rest:=[7,9,10]) rfl ?_;simp only[o_];go_wp2_with fail;refine⟨λ_=>⟨⟨_,cM.out⟩,rfl⟩,?_⟩;refine qC (r:=7) (s:=9) (by kernel_rfl) ?_ ?_
     ·refine yV false (by kernel_rfl) (by kernel_rfl) (rest:=[9,10]) rfl ?_;simp only[o_];go_wp2_with fail;refine⟨λ_=>⟨⟨_,cM.out⟩,rfl⟩,?_⟩;refine zz [9,10] rfl (by kernel_rfl) (by kernel_rfl) (by kernel_rfl) (xB [9,10] _ _ (by kernel_rfl) ?_);simp only[o_];have bu:=zN HA.out (xC _);go_wp2_with fail;obtain⟨Es,e1,HC,d_⟩:=kn9 HA.out eQ.out cM.out;rw[e1];clear e1 bu HA;refine ag_ ?_;refine hK _ _ ?_;go_meet;exact⟨rfl,_,rfl,HC,d_⟩
     ·refine yV false (by kernel_rfl) (by kernel_rfl) (rest:=[7,10]) rfl ?_;simp only[o_];have bu:=zN HA.out (xC _);go_wp2_with fail;obtain⟨W9,e1,HC,bY⟩:=kn9 HA.out eQ.out cM.out;rw[e1];clear e1 bu HA;refine⟨λ_=>⟨⟨_,bY.out⟩,rfl⟩,?_⟩;refine zz [7,10] rfl (by kernel_rfl) (by kernel_rfl) (by kernel_rfl) (xB [7,10] _ _ (by kernel_rfl) ?_);simp only[o_];go_wp2_with fail;refine ag_ ?_;refine hK _ _ ?_;go_meet;exact⟨rfl,_,rfl,HC,bY⟩
    ·refine yV false (by kernel_rfl) (by kernel_rfl) (rest:=[6,9,10]) rfl ?_;simp only[o_];go_wp2_with fail;refine⟨λ_=>⟨⟨_,cM.out⟩,rfl⟩,?_⟩;refine zz [6,9,10] rfl (by kernel_rfl) (by kernel_rfl) (by kernel_rfl) (xB [6,9,10] _ _ (by kernel_rfl) ?_);simp only[o_];have bu:=zN HA.out (xC _);go_wp2_with fail;obtain⟨W9,e1,HC,bY⟩:=kn9 HA.out eQ.out cM.out;rw[e1];clear e1 bu HA;refine ag_ ?_;refine hK _ _ ?_;go_meet;exact⟨rfl,_,rfl,HC,bY⟩
  ·refine yV true (by kernel_rfl) (by kernel_rfl) (rest:=[1,4,5,6,7,9,10]) rfl ?_;simp only[o_];go_wp2_with fail;obtain⟨W4,bA,e1,e2,be,HA,eQ,mu⟩:=kn8 Ct.out;rw[e1,e2];clear be e1 e2;refine⟨λ_=>⟨⟨_,mu.out⟩,rfl⟩,?_⟩;refine kG (r:=1) (by kernel_rfl) ?_;refine yV true (by kernel_rfl) (by kernel_rfl) (rest:=[4,5,6,7,9,10]) rfl ?_;simp only[o_];go_wp2_with fail;refine(xA5 (Cs.below mu.out)).mono ?_;rintro e W5 ⟨be,v,rfl,aB,Qb⟩;have HH:=h_ (aB.base mu.size);have HK:=h_ Qb;have dZ:=h_ (mu.trans (be.mono mu.size));have HA:=h_ ((be.block _ (i_ HA.out).1).trans HA.out);clear be aB Qb;go_wp2_with fail;refine⟨λ_=>⟨⟨_,dZ.out⟩,rfl⟩,?_⟩;refine kG (r:=4) (by kernel_rfl) ?_;refine yV false (by kernel_rfl) (by kernel_rfl) (rest:=[5,6,7,9,10]) rfl ?_;simp only[o_];go_wp2_with fail;refine(kn4 HH.out HK.out).mono ?_;rintro e W6 ⟨be,rfl⟩;have cM:=h_ (dZ.trans (be.mono dZ.size));have HA:=h_ ((be.block _ (i_ HA.out).1).trans HA.out);clear be HH HK;go_wp2_with fail;refine⟨λ_=>⟨⟨_,cM.out⟩,rfl⟩,?_⟩;refine kG (r:=5) (by kernel_rfl) ?_;refine yV false (by kernel_rfl) (by kernel_rfl) (rest:=[6,7,9,10]) rfl ?_;simp only[o_];go_wp2_with fail;refine⟨λ_=>⟨⟨_,cM.out⟩,rfl⟩,?_⟩
   refine qC (r:=6) (s:=7) (by kernel_rfl) ?_ ?_
   ·refine yV false (by kernel_rfl) (by kernel_rfl) (rest:=[7,9,10]) rfl ?_;simp only[o_];go_wp2_with fail;refine⟨λ_=>⟨⟨_,cM.out⟩,rfl⟩,?_⟩;refine qC (r:=7) (s:=9) (by kernel_rfl) ?_ ?_
    ·refine yV false (by kernel_rfl) (by kernel_rfl) (rest:=[9,10]) rfl ?_;simp only[o_];go_wp2_with fail;refine⟨λ_=>⟨⟨_,cM.out⟩,rfl⟩,?_⟩;refine zz [9,10] rfl (by kernel_rfl) (by kernel_rfl) (by kernel_rfl) (xB [9,10] _ _ (by kernel_rfl) ?_);simp only[o_];have bu:=zN HA.out (xC _);go_wp2_with fail;obtain⟨Es,e1,HC,d_⟩:=kn9 HA.out eQ.out cM.out;rw[e1];clear e1 bu HA;refine ag_ ?_;refine hK _ _ ?_;go_meet;exact⟨rfl,_,rfl,HC,d_⟩
    ·refine yV false (by kernel_rfl) (by kernel_rfl) (rest:=[7,10]) rfl ?_;simp only[o_];have bu:=zN HA.out (xC _);go_wp2_with fail;obtain⟨W9,e1,HC,bY⟩:=kn9 HA.out eQ.out cM.out;rw[e1];clear e1 bu HA;refine⟨λ_=>⟨⟨_,bY.out⟩,rfl⟩,?_⟩;refine zz [7,10] rfl (by kernel_rfl) (by kernel_rfl) (by kernel_rfl) (xB [7,10] _ _ (by kernel_rfl) ?_);simp only[o_];go_wp2_with fail;refine ag_ ?_;refine hK _ _ ?_;go_meet;exact⟨rfl,_,rfl,HC,bY⟩
   ·refine yV false (by kernel_rfl) (by kernel_rfl) (rest:=[6,9,10]) rfl ?_;simp only[o_];go_wp2_with fail;refine⟨λ_=>⟨⟨_,cM.out⟩,rfl⟩,?_⟩;refine zz [6,9,10] rfl (by kernel_rfl) (by kernel_rfl) (by kernel_rfl) (xB [6,9,10] _ _ (by kernel_rfl) ?_);simp only[o_];have bu:=zN HA.out (xC _);go_wp2_with fail;obtain⟨W9,e1,HC,bY⟩:=kn9 HA.out eQ.out cM.out;rw[e1];clear e1 bu HA;refine ag_ ?_;refine hK _ _ ?_;go_meet;exact⟨rfl,_,rfl,HC,bY⟩
 case rest=>
  obtain⟨rfl,bA,rfl,hC,Y9⟩:=hcut;have hb:=Y9.out;have c0:=(aN_ (a:=⟨pb,0,none⟩) (hb.block pb (block_lt_of_cell ta.1))).trans ta.1;have c1:=(aN_ (a:=⟨pb,1,none⟩) (hb.block pb (block_lt_of_cell ta.1))).trans ta.2;have c2:=(aN_ (a:=⟨qb,1,none⟩) (hb.block qb (block_lt_of_cell F0.1))).trans F0.2;have c3:=cell_of_row wc bA 34 _ _ _ hC.out;rw[show (x7 (kEnt 1 1))[34]?=some (.int .i64 1) by rfl]at c3;rw[show ((0:Nat):Int)+1=1 from rfl]at c1;rw[show ((1:Nat):Int)+1=2 from rfl]at c2;rw[show str cos=⟨#[99,111,109,112,46,111,115]⟩from rfl]at c0
  obtain⟨o1,r1⟩:=xW (w:=wc) (a:=⟨pb,0,none⟩) (cs:=[.string ⟨#[99,111,109,112,46,111,115]⟩,.int .i64 1]) (λj v hj=>by
   match j,hj with
   |0,hj=>cases hj;exact c0
   |1,hj=>cases hj;exact c1)
  have o1:xo wc ⟨pb,0,none⟩ 2=true:=o1;have r1:xm wc ⟨pb,0,none⟩ 2=#[.string ⟨#[99,111,109,112,46,111,115]⟩,.int .i64 1]:=r1;have wO:=h_ (xIj (Cs.below hb));have eD:=h_ (dU.trans (hb.mono V6.out));rw[HD.out]at eD;clear hb hC Y9 c0 c1;go_wp2_with fail;refine wO.mono ?_;rintro e dA ⟨rfl,lq⟩;have V7:Below w.heap.size w dA:=eD.trans (lq.mono eD.size);rw[show ((256/2-6:Nat):Int)=122 from rfl];go_wp2;go_ret;exact⟨rfl,V7⟩
end
section
theorem xTn (id t):(xw (artX id)).setIfInBounds 32 (.string (str t))=xw (artT id t):=by
 have l1:(xl id).length=32:=xz _;unfold xw yT;rw[bD_,show (artX id).id=id from rfl,show (artT id t).id=id from rfl,bL_ _ _ (by rw[l1];omega),l1];rfl
theorem yCv (k t):limA k t=artT (idK (k+1)) t:=rfl
def rowX (id:Id32)(t:By):Obj:=.cells (xw (artT id t)) 37 (0,0)
def rowY (id:Id32)(t:By):Obj:=.cells (xw (artT id t)) 40 (0,0)
theorem xRx {w0 w D sb p k Q u t R}(h:LimW w0 D sb p R (LimC k) Q u w)(hk:k<12)(ir:1<=t.length)(gX:t.length<=4000):
  Calls prog 10 #[.pointer (some ⟨sb,0,none⟩),.agg (xw (artT (idK (k+1)) t))] w λe w'=>(e=.returned (.tuple #[.slice none 0 0,.int .i64 0])/\∃u',LimW w0 D sb p R (MidP k t) Q u' w')\/(e=.returned (.tuple #[.slice none 0 0,.int .i64 9])/\32<u+xO (63+t.length)/\LimW w0 D sb p R (LimC k) Q u w'):=by
 rw[<-yCv];exact yCt h hk ir gX
attribute [local go_sem ↓] xL xHm xFi xHj xFe xFj xDn uK ub qs
attribute [local go_sem] zm yAm xVq yAj xZg xWw xAw xAu xh xf xa x9 xu xv xk xj xq xx xt
theorem xXf {w}(hG:Gl w)(n c)(i5:0<=n)(az:n<=255)(hc0:0<=c)(dO:c<=255):
  Calls prog 3 #[.int .u8 n,.int .u8 c] w λe w'=>e=.returned (.bool true)/\Below w.heap.size w w':=by
 obtain⟨nn,rfl⟩:∃nn:Nat,n=nn:=⟨n.toNat,by omega⟩;obtain⟨cc,rfl⟩:∃cc:UInt8,c=cc.toNat:=⟨UInt8.ofNat c.toNat,by rw[bO_];omega⟩;obtain⟨L,hL⟩:∃L:Nat,L=1000+4*nn:=⟨_,rfl⟩;have HG:=h_ hG;have mn:Hid (prog.globals.size<=w.heap.size):=h_ hG.size;have HL:=h_ hL;have tB:Hid (nn<=255):=h_ (by omega);clear hG hL hc0 dO i5;go_enter func3,ntmps3;go_wp2_with fail;refine(xQr HG.out).mono ?_;rintro e w1 ⟨rfl,aa⟩;have ar:=h_ aa;clear aa;go_wp2_with fail;refine(xTc 64 w1 (by omega)).mono ?_;rintro e w2⟨rfl,JN,bE⟩;obtain⟨D,hD⟩:∃D,D=w1.heap.size:=⟨_,rfl⟩;obtain⟨v,hv⟩:∃v,v=xOz w1:=⟨_,rfl⟩;have lR:v.p=D+1:=by rw[hv,hD];rfl
 have GF:∀k∈v.foot,D<=k:=λk hk=>by rw[hv]at hk;rw[hD];exact(bE.foot_lt k hk).1
 have dh:Below D w1 w2:=by rw[hD];exact JN
 have Rx:w.heap.size<=D:=by rw[hD];exact ar.size
 have r_:D<=w2.heap.size:=by rw[hD];exact JN.size
 rw[<-hv,<-hD]at bE;rw[<-hD];have au:=h_ (ar.trans (dh.mono Rx));have KT:=h_ Rx;have mr:=h_ (ad_ mn.out Rx);have cG:Gl w2:=(HG.below ar.out mn.out).below dh mr.out;have HF:=h_ (xGv bE ⟨rfl,rfl⟩ cG (by decide) rfl (λs _=>xHe sha 64 s) 4000 (by omega) (by omega) r_ mr.out);rw[lR,show ((4000:Nat):Int)=4000 from rfl]at HF;have sM:=h_ lR;have VU:=h_ GF;have Eo:=h_ r_;have HDG:Hid (2<D):=h_ (ap_ xAg mr.out);clear JN bE hv lR GF dh Rx r_ cG hD;go_wp2_with fail;refine HF.mono ?_;rintro e w3 ⟨rfl,dp,v3,d3,j3,IY,J6,fk,py,bK,Qc⟩;have cU:Below w.heap.size w w3:=au.trans ((dp.below Eo.out VU.out).mono KT.out);have sd:D<=w3.heap.size:=ad_ Eo.out dp.size;have ay:=h_ cU;have JF:Hid (D<=w3.heap.size):=h_ sd;have JO:d3.n=64:=bK;have PW:Gl w3:=HG.below cU mn.out;have HO:=h_ (xMe fk (by rw[JO];decide) Qc PW (by omega) (by omega) sd mr.out);rw[IY.trans sM.out]at HO;have dV:=h_ JO;have Rk:=h_ (IY.trans sM.out);clear dp IY J6 fk py bK Qc cU sd JO HF PW;go_wp2_with fail
 refine HO.mono ?_;rintro e w4 ⟨sb,rfl,aQ,F4,cO⟩;rw[dV.out,Rk.out]at cO;have ik:Below w.heap.size w w4:=ay.trans (aQ.mono KT.out);have Qd:D<=w4.heap.size:=ad_ JF.out aQ.size;have QH:Hid (LimW w D sb (D+1) [] (LimC 0) 102 2 w4):=h_ ⟨⟨102,_,F4,cO,LimC.empty,aa_ _,λr hr=>by cases hr⟩,ik,HG.below ik mn.out,mr.out,Qd,HDG.out,KT.out,λr hr=>by cases hr⟩;clear aQ cO ik Qd HO;have hLz:(1000:Int)+4*(nn:Int)=(L:Int):=by have:=HL.out;omega
 have Y_:L<=4000:=by have:=HL.out;have:=tB.out;omega
 have hLz2:(L:Int)<=4000:=by omega
 have HLM:=h_ Y_;have Da:Hid (1<=L):=h_ (by have:=HL.out;omega);have Cx:=xJh L (L:Int) rfl (by omega) w4;have pC:(nn:Int)<=255:=az;obtain⟨tg,sZ⟩:∃tg,tg=w4.heap.size:=⟨_,rfl⟩;obtain⟨w5,aY⟩:∃w5,w5=w4.alloc (.cells (encB (yG L)).toArray 5):=⟨_,rfl⟩;have aF:Below w4.heap.size w4 w5:=by rw[aY];exact b_ _ _
 have mA:w5.heap[tg]?=some (.cells (encB (flB L 0 cc)).toArray 5 (0,0)):=by rw[yBd,aY,sZ];exact heap_alloc_new w4 _
 have aU:=h_ aF;have po:=h_ mA;have IP:=h_ sZ;have rI:=h_ aY;clear aF mA Y_ aY sZ;go_upto_region 10 with fail
 rw[<-rI.out,<-IP.out];clear Cx rI hLz az pC;go_wp2;go_loopw [10] (λi wr=>∃j:Nat,i=.int .i64 j/\j<=L/\Hid (Below w4.heap.size w4 wr)/\Hid (wr.heap[tg]?=some (.cells (encB (flB L j cc)).toArray 5 (0,0)))) (λi _=>L-(intOf i).toNat)
 case atStart=>exact⟨0,rfl,aV_ _,aU,po⟩
 case round=>
  obtain⟨j,rfl,hj,V8,JP⟩:=hrel;by_cases hlt:j<L
  ·have cr:(j:Int)<L:=by omega
   have sC:j<(encB (flB L j cc)).length:=by rw[xF,yD7 hj];exact hlt
   have cj:=cell_of_row wr tg j _ _ _ JP.out;rw[ah_,ak_ sC]at cj;have fj:=frozen_of_row wr tg j _ _ JP.out;have HB':Hid (Below w4.heap.size w4 (wr.setCell ⟨tg,j,none⟩ (.int .u8 cc.toNat))):=h_ (V8.setCell (p:=⟨tg,j,none⟩) (by rw[IP.out];exact aa_ _) _);have HR':Hid ((wr.setCell ⟨tg,j,none⟩ (.int .u8 cc.toNat)).heap[tg]?=some (.cells (encB (flB L (j+1) cc)).toArray 5 (0,0))):=h_ (by rw[heap_setCell_same wr tg j _ _ _ JP.out,yD8 cc hlt]);generalize (encB (flB L j cc))[j]=old at cj;clear sC;go_wp2;go_roundw
   case rel=>exact⟨j+1,by go_num,by omega,HB',HR'⟩
   case measure=>simp only[intOf];omega
  ·obtain rfl:j=L:=by omega
   rw[yBe]at JP;obtain⟨t,ht⟩:∃t:By,t=List.replicate j cc:=⟨_,rfl⟩;rw[<-ht]at JP;have t6:t.length=j:=by rw[ht];exact bN_
   have IN:=h_ t6;have HLW:Hid (LimW w D sb (D+1) [(tg,.cells (encB t).toArray 5 (0,0))] (LimC 0) 102 2 wr):=h_ (QH.addL V8.out [(tg,.cells (encB t).toArray 5 (0,0))] (λs hs=>by rw[ac_.1 hs];exact⟨by rw[IP.out];exact aa_ _,JP.out⟩));clear ht t6 V8 JP aU po hlt hj;go_wp2;go_loopw [12,11] (λi f wr=>∃k:Nat,i=.int .i64 ((k:Int)+1)/\k<=12/\(∃fz:Nat,f=.int .i64 (fz:Int)/\fz<=k)/\Hid (∃u,LimW w D sb (D+1) [(tg,.cells (encB t).toArray 5 (0,0))] (LimC k) (102+10000*k) u wr)) (λi _ _=>13-(intOf i).toNat)
   case atStart=>exact⟨0,rfl,aV_ _,⟨0,rfl,aa_ _⟩,h_ ⟨2,HLW.out⟩⟩
   case round=>
    obtain⟨k,rfl,hk,⟨fz,rfl,gw⟩,HW⟩:=hrel;obtain⟨u,hu⟩:=HW.out;have HU:=h_ hu;have rM:Hid (1<=t.length/\t.length<=4000):=h_ (by rw[IN.out];exact⟨Da.out,HLM.out⟩);clear hu HW;by_cases hlt:k<12
    ·have C9:(k:Int)+1<=12:=by omega
     have hfzz:(fz:Int)<=12:=by omega
     have hm:(k:Int)+1=((UInt8.ofNat (k+1)).toNat:Int):=by rw[bO_];omega
     have JZ:=xVq wr (UInt8.ofNat (k+1));rw[<-hm]at JZ;rw[show idN (UInt8.ofNat (k+1))=idK (k+1)from rfl]at JZ;clear hm;go_wp2_with fail;refine(xTm (idK (k+1)) wr).mono ?_;rintro e wa ⟨rfl,aM⟩;obtain⟨xb,sN⟩:∃xb,xb=wa.heap.size:=⟨_,rfl⟩;obtain⟨wx,Qe⟩:∃wx,wx=(wa.alloc (.cells (xw (artX (idK (k+1)))) 37)).alloc (.cells (xw (artX (idK (k+1)))) 40):=⟨_,rfl⟩;have be:Below wa.heap.size wa wx:=by rw[Qe];exact((ab_ _ _).alloc (aa_ _) _).alloc (by simp) _
     have dJ:wx.heap[xb]?=some (.cells (xw (artX (idK (k+1)))) 37 (0,0)):=by rw[Qe,sN,heap_alloc_old _ _ (by simp),heap_alloc_new]
     have Qf:wx.heap[xb+1]?=some (.cells (xw (artX (idK (k+1)))) 40 (0,0)):=by
      have:=heap_alloc_new (wa.alloc (.cells (xw (artX (idK (k+1)))) 37)) (.cells (xw (artX (idK (k+1)))) 40);rw[al_,<-sN,<-Qe]at this;exact this
     have iA:xy 40 (xw (artX (idK (k+1))))=true:=jR rfl rfl;have rY:((xw uB).size==40)=true:=by rw[xY];rfl
     have hlx:xb+1<wx.heap.size:=(i_ Qf).1;have bf:Below wr.heap.size wr wx:=aM.trans (be.mono aM.size);have KR:wx.heap[tg]?=some (.cells (encB t).toArray 5 (0,0)):=(bf.block tg (HU.rl (ac_.2 rfl))).trans (HU.rows _ (ac_.2 rfl))
     haveI:Nonempty (ArW wx tg tg):=⟨⟨wx,rfl,rfl⟩⟩
     have gV:∀z:ArW wx tg tg,(convert 31 9 (.slice (some ⟨tg,0,none⟩) j j)).run prog z.val=.ok (.string (str t)) z.val:=λz=>by
      have:=xKo (w:=z.val) (a:=⟨tg,0,none⟩) (cap:=j) (xW4 (z.h3.trans KR));rw[IN.out]at this;exact this
     have Qg:tg≠xb:=by have:=HU.rl (ac_.2 rfl);have:=aM.size;simp at *;omega
     have bF:Hid ((wx.setCell ⟨xb,32,none⟩ (.string (str t))).drew.heap[tg]?=wx.heap[tg]?):=h_ (heap_setCell_other wx ⟨xb,32,none⟩ tg _ Qg);have cx:=(cell_of_row wx xb 32 _ _ _ dJ).trans (ar32 _);have cy:=(cell_of_row wx (xb+1) 32 _ _ _ Qf).trans (ar32 _);have fx:=frozen_of_row wx xb 32 _ _ dJ;have fy:=frozen_of_row wx (xb+1) 32 _ _ Qf;obtain⟨tx,wg⟩:∃tx,tx=str t:=⟨_,rfl⟩;rw[<-wg]at gV bF;obtain⟨F1,Cu⟩:∃F1,F1=wx.setCell ⟨xb,32,none⟩ (.string tx):=⟨_,rfl⟩;obtain⟨wy,Qh⟩:∃wy,wy=(F1.setCell ⟨xb+1,32,none⟩ (.string tx)).drew:=⟨_,rfl⟩;have fP:F1.heap[xb]?=some (rowX (idK (k+1)) t):=by rw[Cu,heap_setCell_same wx xb 32 _ _ _ dJ,wg,xTn];rfl
     have nR:F1.heap[xb+1]?=some (.cells (xw (artX (idK (k+1)))) 40 (0,0)):=by rw[Cu,heap_setCell_other wx ⟨xb,32,none⟩ (xb+1) _ (by show xb+1≠xb;omega)];exact Qf
     have eN:wy.heap[xb]?=some (rowX (idK (k+1)) t):=by rw[Qh];exact(heap_setCell_other F1 ⟨xb+1,32,none⟩ xb _ (by show xb≠xb+1;omega)).trans fP
     have iL:wy.heap[xb+1]?=some (rowY (idK (k+1)) t):=by
      have h1:(F1.setCell ⟨xb+1,32,none⟩ (.string tx)).heap[xb+1]?=some (.cells ((xw (artX (idK (k+1)))).setIfInBounds 32 (.string tx)) 40 (0,0)):=heap_setCell_same F1 (xb+1) 32 _ _ _ nR;rw[wg,xTn]at h1;rw[Qh,wg];exact h1
     have wT:wr.heap.size<=xb:=by rw[sN];exact aM.size
     have ei:Below wr.heap.size wr wy:=by
      rw[Qh,Cu];exact((bf.setCell (p:=⟨xb,32,none⟩) wT _).setCell (p:=⟨xb+1,32,none⟩) (by show wr.heap.size<=xb+1;omega) _).drew
     have HY:Hid (LimW w D sb (D+1) [(xb,rowX (idK (k+1)) t),(xb+1,rowY (idK (k+1)) t),(tg,.cells (encB t).toArray 5 (0,0))] (LimC k) (102+10000*k) u wy):=h_ (HU.addL ei [(xb,rowX (idK (k+1)) t),(xb+1,rowY (idK (k+1)) t)] (λs hs=>by
      rcases ae_.1 hs with rfl|hs
      ·exact⟨wT,eN⟩
      ·rw[ac_.1 hs];exact⟨by show wr.heap.size<=xb+1;omega,iL⟩))
     have V9:=h_ Cu;have HWY:=h_ Qh;have HTX:=h_ wg;clear Qg aM be dJ Qf hlx bf KR fP nR eN iL wT ei wg Qh Cu;go_upto_region 19 with fail
     refine xr Qe ?_;rw[<-sN];clear Qe sN;refine zS [0,1,2,3,4] [5,6,7] 3 (λw'=>∃z:ArW wx tg tg,w'=z.val) (by kernel_rfl) (by kernel_rfl) rfl ⟨⟨wx.drew,rfl,rfl⟩,rfl⟩ ?_;simp only[o_]
     repeat (go_big_quiet_step (fail))
     refine wpQuiet_nil ?_;clear gV;refine zz [5,6,7] rfl rfl (by kernel_rfl) (by kernel_rfl) ?_;refine yb true (by kernel_rfl) (by kernel_rfl) ?_;simp only[o_];go_wp2;refine⟨λ_=>⟨⟨_,bF.out,bF.out⟩,rfl⟩,xB [6,7] _ _ (by kernel_rfl) ?_⟩;simp only[o_];go_wp2;refine ag_ ?_;rw[<-V9.out,<-HWY.out];clear cx cy fx fy iA rY;go_wp2_with fail;refine(xRy HY.out).mono ?_;rintro e W1 ⟨he,h1⟩;obtain⟨fr,nG⟩:∃fr:Int,fr=((32-u:Nat):Int):=⟨_,rfl⟩;rw[<-nG]at he;subst he;have wO:=h_ nG;have H1:=h_ h1;obtain⟨o40,r40⟩:=xD (n:=40) (h1.rows (xb,rowX (idK (k+1)) t) (by simp)) (xY _);clear nG h1;go_wp2_with fail;refine(xRx H1.out hlt rM.1 rM.2).mono ?_;rintro e WM (⟨rfl,uM,hM⟩|⟨rfl,s6,h2⟩)
     rotate_left
     focus
      have HFU:=h_ s6;have H2:=h_ h2;obtain⟨o41,r41⟩:=xD (n:=40) (h2.rows (xb+1,rowY (idK (k+1)) t) (by simp)) (xY _);clear s6 h2;go_wp2_with fail;refine(xRf (idK (k+1)) t (by have:=rM.2;omega) WM).mono ?_;rintro e W3⟨he,al⟩;obtain⟨nd,bZ⟩:∃nd:Int,nd=((3+t.length/200:Nat):Int):=⟨_,rfl⟩;rw[<-bZ]at he;subst he;have KU:fr<nd:=by
       have h1:=HFU.out;rw[wO.out,bZ];unfold xO at h1;omega
      have H3:=h_ (H2.below al);clear bZ al;go_wp2_with fail;refine(yCu H3.out hk (by omega)).mono ?_;rintro e W4 (⟨rfl,h4⟩|⟨rfl,u4,h4⟩)
      ·have H4:=h_ h4;clear h4;go_wp2_with fail;refine(km H4.out).mono ?_;rintro e W5 ⟨rfl,rfl⟩;have HE:=h_ H4.bel;go_wp2;go_ret;exact⟨rfl,HE.out⟩
      have H4:=h_ h4;obtain⟨o42,r42⟩:=xD (n:=40) (h4.rows (xb,rowX (idK (k+1)) t) (by simp)) (xY _);clear h4;go_wp2_with fail;refine(xRx H4.out hlt rM.1 rM.2).mono ?_;rintro e WM (⟨rfl,uM,hM⟩|⟨rfl,_,h5⟩)
      rotate_left
      ·have H5:=h_ h5;clear h5;go_wp2_with fail;refine(km H5.out).mono ?_;rintro e W6 ⟨rfl,rfl⟩;have HE:=h_ H5.bel;go_wp2;go_ret;exact⟨rfl,HE.out⟩
     all_goals
      have HM:Hid (LimW w D sb (D+1) [(xb,rowX (idK (k+1)) t),(xb+1,rowY (idK (k+1)) t),(tg,.cells (encB t).toArray 5 (0,0))] (MidP k t) (102+10000*k+5000) uM WM):=h_ (hM.more (by omega));obtain⟨oi,ri⟩:=vW (l:=[]) (show WM.heap[xb]?=some (.cells (yT (artT (idK (k+1)) t)++[]).toArray 37 (0,0)) by rw[aG_];exact hM.rows (xb,rowX (idK (k+1)) t) (by simp));have zi:∀z:x8 WM,xo z.1 ⟨xb,0,none⟩ 32=true:=λz=>x8.ok oi z
      have zr:∀z:x8 WM,xm z.1 ⟨xb,0,none⟩ 32=(xl (idK (k+1))).toArray:=λz=>(x8.rd oi z).trans ri
      clear hM;go_wp2_with fail;refine(yAc HM.out hlt rM.2).mono ?_;rintro e W6 (⟨rfl,u6,h6⟩|⟨rfl,Za,h6⟩)
      ·have H6:=h_ h6;clear oi ri zi zr;obtain⟨oi,ri⟩:=vW (l:=[]) (show W6.heap[xb]?=some (.cells (yT (artT (idK (k+1)) t)++[]).toArray 37 (0,0)) by rw[aG_];exact h6.rows (xb,rowX (idK (k+1)) t) (by simp));have zi:∀z:x8 W6,xo z.1 ⟨xb,0,none⟩ 32=true:=λz=>x8.ok oi z
       have zr:∀z:x8 W6,xm z.1 ⟨xb,0,none⟩ 32=(xl (idK (k+1))).toArray:=λz=>(x8.rd oi z).trans ri
       clear h6;go_upto_region 33 with fail
       refine xp [0,2,3] [1,4] (λw'=>∃z:x8 W6,w'=z.1) (by kernel_rfl) (by kernel_rfl) (by kernel_rfl) ⟨⟨W6.drew,(ab_ _ _).drew⟩,rfl⟩ ?_;simp only[o_]
       repeat (go_big_quiet_step (fail))
       refine wpQuiet_nil ?_;refine yb true (by kernel_rfl) (by kernel_rfl) ?_;simp only[o_];go_wp2_with fail;refine(ka (H6.below (ab_ _ _).drew)).mono ?_;rintro e W8 ⟨v8,rfl,FT,AP,dj,h8⟩;have Ko:=h_ (xWh FT AP (idK (k+1)));have gB:Hid (Below W6.heap.size W6 W8):=h_ (((ab_ W6.heap.size W6).drew).trans dj);have Nq:=h_ h8;clear FT AP dj h8;go_wp2;refine⟨λ_=>⟨⟨W8,gB.out⟩,rfl⟩,xB [4] _ _ (by kernel_rfl) ?_⟩;simp only[o_];go_wp2_with fail;refine Ko.mono ?_;rintro e W8' ⟨dj,rfl⟩;have JQ:=h_ (Nq.below dj);clear dj;go_wp2;refine ag_ ?_;go_wp2;go_roundw
       case rel=>exact⟨k+1,by go_num,by omega,(by first|exact⟨fz,rfl,by omega⟩|exact⟨fz+1,by go_num,by omega⟩),h_ ⟨_,(JQ.sub (λr hr=>by simp at hr⊢;exact .inr (.inr hr))).more (by omega)⟩⟩
       case measure=>simp only[intOf];omega
      ·have H6:=h_ h6;have HSM:=h_ Za;clear Za oi ri zi zr;go_wp2_with fail;refine(km H6.out).mono ?_;rintro e W7 ⟨rfl,rfl⟩;obtain⟨oi,ri⟩:=vW (l:=[]) (show W6.heap[xb]?=some (.cells (yT (artT (idK (k+1)) t)++[]).toArray 37 (0,0)) by rw[aG_];exact h6.rows (xb,rowX (idK (k+1)) t) (by simp));have zi:∀z:x8 W6,xo z.1 ⟨xb,0,none⟩ 32=true:=λz=>x8.ok oi z
       have zr:∀z:x8 W6,xm z.1 ⟨xb,0,none⟩ 32=(xl (idK (k+1))).toArray:=λz=>(x8.rd oi z).trans ri
       clear h6;go_upto_region 33 with fail
       refine xp [0,2,3] [1,4] (λw'=>∃z:x8 W6,w'=z.1) (by kernel_rfl) (by kernel_rfl) (by kernel_rfl) ⟨⟨W6.drew,(ab_ _ _).drew⟩,rfl⟩ ?_;simp only[o_]
       repeat (go_big_quiet_step (fail))
       refine wpQuiet_nil ?_;refine yb true (by kernel_rfl) (by kernel_rfl) ?_;simp only[o_];go_wp2_with fail;refine(ka (H6.below (ab_ _ _).drew)).mono ?_;rintro e W8 ⟨v8,rfl,FT,AP,dj,h8⟩;have Ko:=h_ (xJj FT AP);have gB:Hid (Below W6.heap.size W6 W8):=h_ (((ab_ W6.heap.size W6).drew).trans dj);have Nq:=h_ h8;clear FT AP dj h8;go_wp2;refine⟨λ_=>⟨⟨W8,gB.out⟩,rfl⟩,xB [4] _ _ (by kernel_rfl) ?_⟩;simp only[o_];go_wp2_with fail;refine Ko.mono ?_;rintro e W8' ⟨dj,rfl⟩;have JQ:=h_ (Nq.below dj);clear dj;go_wp2;refine ag_ ?_;clear oi ri zi zr;go_wp2_with fail;refine(yAg JQ.out hlt rM.2 (by omega)).mono ?_;rintro e W9 (⟨rfl,h9⟩|⟨rfl,u9,h9⟩)
       ·have H9:=h_ h9;obtain⟨oi,ri⟩:=vW (l:=[]) (show W9.heap[xb]?=some (.cells (yT (artT (idK (k+1)) t)++[]).toArray 37 (0,0)) by rw[aG_];exact h9.rows (xb,rowX (idK (k+1)) t) (by simp));have zi:∀z:x8 W9,xo z.1 ⟨xb,0,none⟩ 32=true:=λz=>x8.ok oi z
        have zr:∀z:x8 W9,xm z.1 ⟨xb,0,none⟩ 32=(xl (idK (k+1))).toArray:=λz=>(x8.rd oi z).trans ri
        clear h9;go_upto_region 36 with fail
        refine xp [0,2,3] [1,4] (λw'=>∃z:x8 W9,w'=z.1) (by kernel_rfl) (by kernel_rfl) (by kernel_rfl) ⟨⟨W9.drew,(ab_ _ _).drew⟩,rfl⟩ ?_;simp only[o_]
        repeat (go_big_quiet_step (fail))
        refine wpQuiet_nil ?_;refine yb true (by kernel_rfl) (by kernel_rfl) ?_;simp only[o_];go_wp2_with fail;refine(ka (H9.below (ab_ _ _).drew)).mono ?_;rintro e Es ⟨v10,rfl,Af,iO,dT,h10⟩;have Dc:=h_ (xJj Af iO);have iI:Hid (Below W9.heap.size W9 Es):=h_ (((ab_ W9.heap.size W9).drew).trans dT);have V_:=h_ h10;clear Af iO dT h10;go_wp2;refine⟨λ_=>⟨⟨Es,iI.out⟩,rfl⟩,xB [4] _ _ (by kernel_rfl) ?_⟩;simp only[o_];go_wp2_with fail;refine Dc.mono ?_;rintro e W10' ⟨dT,rfl⟩;have F2:=h_ (V_.below dT);clear dT;go_wp2;refine ag_ ?_;go_wp2_with fail;refine(km F2.out).mono ?_;rintro e C0 ⟨rfl,rfl⟩;have HE:=h_ F2.bel;go_wp2;go_ret;exact⟨rfl,HE.out⟩
       ·have H9:=h_ h9;obtain⟨oi,ri⟩:=vW (l:=[]) (show W9.heap[xb]?=some (.cells (yT (artT (idK (k+1)) t)++[]).toArray 37 (0,0)) by rw[aG_];exact h9.rows (xb,rowX (idK (k+1)) t) (by simp));have zi:∀z:x8 W9,xo z.1 ⟨xb,0,none⟩ 32=true:=λz=>x8.ok oi z
        have zr:∀z:x8 W9,xm z.1 ⟨xb,0,none⟩ 32=(xl (idK (k+1))).toArray:=λz=>(x8.rd oi z).trans ri
        clear h9;go_wp2_with fail;refine(yAc H9.out hlt rM.2).mono ?_;rintro e C0 (⟨rfl,u11,Gj⟩|⟨rfl,cT,Gj⟩)
        ·have Wb:=h_ Gj;clear oi ri zi zr;obtain⟨oi,ri⟩:=vW (l:=[]) (show C0.heap[xb]?=some (.cells (yT (artT (idK (k+1)) t)++[]).toArray 37 (0,0)) by rw[aG_];exact Gj.rows (xb,rowX (idK (k+1)) t) (by simp));have zi:∀z:x8 C0,xo z.1 ⟨xb,0,none⟩ 32=true:=λz=>x8.ok oi z
         have zr:∀z:x8 C0,xm z.1 ⟨xb,0,none⟩ 32=(xl (idK (k+1))).toArray:=λz=>(x8.rd oi z).trans ri
         clear Gj;go_upto_region 36 with fail
         refine xp [0,2,3] [1,4] (λw'=>∃z:x8 C0,w'=z.1) (by kernel_rfl) (by kernel_rfl) (by kernel_rfl) ⟨⟨C0.drew,(ab_ _ _).drew⟩,rfl⟩ ?_;simp only[o_]
         repeat (go_big_quiet_step (fail))
         refine wpQuiet_nil ?_;refine yb true (by kernel_rfl) (by kernel_rfl) ?_;simp only[o_];go_wp2_with fail;refine(ka (Wb.below (ab_ _ _).drew)).mono ?_;rintro e Zb ⟨v12,rfl,iP,iU,ak,Zc⟩;have ow:=h_ (xWh iP iU (idK (k+1)));have dU:Hid (Below C0.heap.size C0 Zb):=h_ (((ab_ C0.heap.size C0).drew).trans ak);have BR:=h_ Zc;clear iP iU ak Zc;go_wp2;refine⟨λ_=>⟨⟨Zb,dU.out⟩,rfl⟩,xB [4] _ _ (by kernel_rfl) ?_⟩;simp only[o_];go_wp2_with fail;refine ow.mono ?_;rintro e W12' ⟨ak,rfl⟩;have BS:=h_ (BR.below ak);clear ak;go_wp2;refine ag_ ?_;go_wp2;go_roundw
         case rel=>exact⟨k+1,by go_num,by omega,(by first|exact⟨fz,rfl,by omega⟩|exact⟨fz+1,by go_num,by omega⟩),h_ ⟨_,(BS.sub (λr hr=>by simp at hr⊢;exact .inr (.inr hr))).more (by omega)⟩⟩
         case measure=>simp only[intOf];omega
        ·have Wb:=h_ Gj;have cF:=h_ cT;clear oi ri zi zr Gj cT;go_wp2_with fail;refine(xRy Wb.out).mono ?_;rintro e Et ⟨he,Wc⟩;obtain⟨f2,dP⟩:∃f2:Int,f2=((32-u9:Nat):Int):=⟨_,rfl⟩;rw[<-dP]at he;subst he;have py:f2<3:=by have:=cF.out;omega
         have H13:=h_ Wc;clear dP;obtain⟨oi,ri⟩:=vW (l:=[]) (show Et.heap[xb]?=some (.cells (yT (artT (idK (k+1)) t)++[]).toArray 37 (0,0)) by rw[aG_];exact Wc.rows (xb,rowX (idK (k+1)) t) (by simp));have zi:∀z:x8 Et,xo z.1 ⟨xb,0,none⟩ 32=true:=λz=>x8.ok oi z
         have zr:∀z:x8 Et,xm z.1 ⟨xb,0,none⟩ 32=(xl (idK (k+1))).toArray:=λz=>(x8.rd oi z).trans ri
         clear Wc;go_upto_region 36 with fail
         refine xp [0,2,3] [1,4] (λw'=>∃z:x8 Et,w'=z.1) (by kernel_rfl) (by kernel_rfl) (by kernel_rfl) ⟨⟨Et.drew,(ab_ _ _).drew⟩,rfl⟩ ?_;simp only[o_]
         repeat (go_big_quiet_step (fail))
         refine wpQuiet_nil ?_;refine yb true (by kernel_rfl) (by kernel_rfl) ?_;simp only[o_];go_wp2_with fail;refine(ka (H13.below (ab_ _ _).drew)).mono ?_;rintro e Ze ⟨v14,rfl,Qi,Qj,gC,Zf⟩;have We:=h_ (xJj Qi Qj);have Gs:Hid (Below Et.heap.size Et Ze):=h_ (((ab_ Et.heap.size Et).drew).trans gC);have Wf:=h_ Zf;clear Qi Qj gC Zf;go_wp2;refine⟨λ_=>⟨⟨Ze,Gs.out⟩,rfl⟩,xB [4] _ _ (by kernel_rfl) ?_⟩;simp only[o_];go_wp2_with fail;refine We.mono ?_;rintro e W14' ⟨gC,rfl⟩;have F5:=h_ (Wf.below gC);clear gC;go_wp2;refine ag_ ?_;go_wp2_with fail;refine(km F5.out).mono ?_;rintro e W15 ⟨rfl,rfl⟩;have HE:=h_ F5.bel;go_wp2;go_ret;exact⟨rfl,HE.out⟩
    ·obtain rfl:k=12:=by omega
     go_wp2_with fail;refine(ka HU.out).mono ?_;rintro e W1 ⟨v1,rfl,aK,dO,aa,h1⟩;have HS:=h_ (xIp aK 0 (yAe dO));have H1:=h_ h1;clear aK dO aa h1;go_wp2_with fail;refine HS.mono ?_;rintro e W2 ⟨rfl,rfl⟩;go_wp2_with fail;refine(yAf H1.out).mono ?_;rintro e W3 ⟨v3,rfl,eT,CH,h3⟩;have eS:=h_ (yAy eT 12 (yAd CH));have HE:=h_ h3.bel;clear eT CH h3;go_wp2_with fail;refine eS.mono ?_;rintro e W4 ⟨rfl,rfl⟩;go_wp2;go_ret;exact⟨rfl,HE.out⟩
end
end Go.Proofs.YtegfbhdkenkkdaaGreatDoor
namespace Go.Proofs.YtegfbhdkenkkdaaGreatDoor
open Go Go.RowKit Go.Proofs Go.ChangeShapes Go.WideShapes Go.ChangeAt Tryz
theorem own:ownKnob prog.godebug=none:=by kernel_rfl
theorem laidOut:laidOutB prog=true:=by kernel_rfl
def laidAll:List (String×DataW Unit):=Rows.storeLimitsRow.laid
theorem globals_size:prog.globals.size=7:=by kernel_rfl
theorem gl_of {W:World}(h:laidMetH prog laidAll W)(hs:W.ShapedOpen prog):Gl W where
 tab:=by
  have h1 := h.filter (λx => x.1 == "internal/strconv.uint64pow10")
  have e : laidAll.filter (λx => x.1 == "internal/strconv.uint64pow10") = [("internal/strconv.uint64pow10", Lib.tabData .u64 Lib.pow10Tab)] := by kernel_rfl
  rw[e]at h1;exact Lib.tabIs_of_head (rest:=[]) (g:=1) (by kernel_rfl) (by kernel_rfl) underlying373 underlying279 (by kernel_rfl) (by kernel_rfl) h1
 len:=cell_of_shapedOpen_int (g:=0) (t:=3) (zero:=#[.int .i64 0]) hs (by rw[globals_size];decide) (by kernel_rfl) rfl (by kernel_rfl) (by kernel_rfl) underlying3
 sha:=by
  have h1 := h.filter (λx => x.1 == "bulletin/sha256.constants")
  have e : laidAll.filter (λx => x.1 == "bulletin/sha256.constants") = [("bulletin/sha256.constants", Lib.tabData .u32 xOg)] := by kernel_rfl
  rw[e]at h1;exact Lib.tabIs_of_head (rest:=[]) (g:=2) (by kernel_rfl) (by kernel_rfl) underlying386 underlying330 (by kernel_rfl) (by kernel_rfl) h1
 size:=by
  have h0:(((begin prog (λ_ _=>0) default).world.heap[6]?).bind Obj.row?).isSome=true:=by kernel_rfl
  obtain⟨⟨zero,t⟩,hz⟩:=cX_.1 h0;obtain⟨cs,hh,_,_⟩:=hs.1 6 zero t (by rw[globals_size];decide) hz;rw[globals_size];have:=(i_ hh).1;omega
section
variable {H:Type} {enc:TypeId×Value->H}
theorem trodAll_stays {P:Program}{W W':World}(hl:laidOutB P=true)(hb:Below W.heap.size W W')(sp:Nat->Bool)(ts:List TypeId):∀(vs:List Value) (ds:List (DataW H)) (p:List MemPlace),
  (∀t∈ts,P.readableRec t=true/\t<P.types.size)->DataW.TrodAll enc P W 0 (λ_=>true) true ts vs ds p->(∀x∈p,x.block<W.heap.size)->(∀x∈p,sp x.block=true)->DataW.TrodAll enc P W' 0 sp true ts vs ds p:=by
 induction ts with
 |nil=>
  intro vs ds p _ h _ _;obtain⟨rfl,rfl,rfl⟩:=trodAll_nil h;exact trodAll_mk0
 |cons t ts ih=>
  intro vs ds p hr h hlt rN;obtain⟨v,vs',d,ds',p1,q1,rfl,rfl,rfl,h1,h2⟩:=trodAll_cons h;have ht:=hr t (by simp)
  exact trodAll_cons_mk (WideElems.Trod_stays hl ht.1 ht.2 h1 (λx hx=>hb.same (hlt x (bQ_ _ hx))) (λx hx=>rN x (bQ_ _ hx)))
   (ih vs' ds' q1 (λu hu=>hr u (by simp[hu])) h2 (λx hx=>hlt x (bV_ _ hx)) (λx hx=>rN x (bV_ _ hx)))
theorem law_post {f:Func}{s:ChangeSpec}{W W':World}{args:Array Value}{ds gs:List (DataW H)}{before:List MemPlace}(F6:s.vars=[])(hrt:f.resultTypes=#[4])
  (hW:DataW.Whole enc prog f.params.toList s.vars false W args.toList ds gs before) (hr:∀t∈f.params.toList,prog.readableRec t=true/\t<prog.types.size)
  (KU:s.fn H ds={ results:=[.lit (.bool true)],args:=ds }) (hb:Below W.heap.size W W'):s.post enc prog f false true false false W args (.bool true) W':=by
 have hlt:∀x∈before,x.block<W.heap.size:=λx hx=>hW.lt x hx
 have fC:=hW;obtain⟨p,q,hA,hV,rfl,_,_⟩:=hW;rw[F6]at hV;obtain⟨rfl,rfl⟩:=trodVars_none hV;rw[aG_]at fC hlt;refine⟨ds,[],p,[],p,[],fC,?_,?_,?_,?_,λh=>by cases h⟩
 ·rw[aG_,KU,hrt];exact trodAll_mk1 (shut_bool underlying4 _)
 ·rw[aG_,KU];exact trodAll_stays laidOut hb _ _ _ _ _ hr hA hlt (λx hx=>by simpa using hlt x hx)
 ·rw[aG_,KU,F6];rfl
 ·exact World.keptBut_mono (λx hx=>⟨hx,.inr (.inl hx)⟩) (hb.frame (·∈p))
end
end Go.Proofs.YtegfbhdkenkkdaaGreatDoor
namespace Go.Proofs.YtegfbhdkenkkdaaGreatDoor.storeLimits
open Go Go.RowKit Go.Proofs Go.Proofs.YtegfbhdkenkkdaaGreatDoor Tryz
theorem fact1:(Rows.storeLimitsRow.wf (OpenSpec.ofChange (OpenSpec.ofChange Rows.storeLimitsSpec).bare))=true:=by kernel_rfl
theorem fact2:(laidOutB prog)=true:=by kernel_rfl
theorem fact3:(mapsRowed prog)=true:=by kernel_rfl
theorem fact4:(Tryz.f3.params.all (prog.readableRec ·))=true:=by kernel_rfl
theorem fact5:(namedTie prog Rows.storeLimitsRow.named (OpenSpec.ofChange Rows.storeLimitsSpec).bare.vars)=true:=by kernel_rfl
theorem fact6:((Rows.storeLimitsRow.stops==[]))=true:=by kernel_rfl
theorem fact7:((prog.stops==[]))=true:=by kernel_rfl
theorem fact8:((Rows.storeLimitsRow.knobs==[]))=true:=by kernel_rfl
theorem fact9:((prog.stopKnobs==[]))=true:=by kernel_rfl
theorem fact10:((Rows.storeLimitsRow.inPlace==prog.inPlace 3))=true:=by kernel_rfl
theorem fact11:((Rows.storeLimitsRow.unfollowed==prog.unfollowed 3))=true:=by kernel_rfl
theorem fact12:((Rows.storeLimitsRow.recurses==prog.recurses 3))=true:=by kernel_rfl
theorem fact13:((Rows.storeLimitsRow.named==prog.varsNamed 3))=true:=by kernel_rfl
theorem fact14:((Rows.storeLimitsRow.maps==(Tryz.f3.params.toList++(OpenSpec.ofChange Rows.storeLimitsSpec).bare.plain.varTypes prog).any (prog.mapsRec ·)))=true:=by kernel_rfl
theorem fact15:((Rows.storeLimitsRow.ifaces==(Tryz.f3.params.toList++(OpenSpec.ofChange Rows.storeLimitsSpec).bare.plain.varTypes prog).any (prog.ifacesRec ·)))=true:=by kernel_rfl
theorem fact16:((Rows.storeLimitsRow.mapsOut==prog.mapsAmong Tryz.f3.resultTypes.toList))=true:=by kernel_rfl
theorem fact17:((Rows.storeLimitsRow.loops==(Tryz.f3.params.toList++(OpenSpec.ofChange Rows.storeLimitsSpec).bare.plain.varTypes prog).any (prog.loopsFrom ·)))=true:=by kernel_rfl
theorem fact18:((Rows.storeLimitsRow.wideKeys==(Tryz.f3.params.toList++(OpenSpec.ofChange Rows.storeLimitsSpec).bare.plain.varTypes prog++Tryz.f3.resultTypes.toList).any (prog.wideKeysFrom ·)))=true:=by kernel_rfl
theorem fact19:((OpenSpec.ofChange Rows.storeLimitsSpec).bare.vars.all (prog.varReadable ·))=true:=by kernel_rfl
theorem fact20:(Tryz.f3.resultTypes.all (λt=>prog.readableRec t&&decide (t<prog.types.size)))=true:=by kernel_rfl
theorem fact21:((Rows.storeLimitsRow.ifacesOut==Tryz.f3.resultTypes.toList.any (prog.ifacesRec ·)))=true:=by kernel_rfl
theorem fact22:((Rows.storeLimitsRow.loopsOut==Tryz.f3.resultTypes.toList.any (prog.loopsFrom ·)))=true:=by kernel_rfl
theorem fact23:((Rows.storeLimitsRow.plainKeys==prog.plainKeys))=true:=by kernel_rfl
theorem fact24:(Rows.storeLimitsRow.shortTexts.isNone)=true:=by kernel_rfl
theorem fact25:(prog.stopsHeard)=true:=by kernel_rfl
theorem fact26:(prog.mayEnter)=true:=by kernel_rfl
theorem fact27:((Rows.storeLimitsRow.lifted==prog.liftsFinal))=true:=by kernel_rfl
theorem fact28:((prog.make==some Rows.storeLimitsRow.make))=true:=by kernel_rfl
theorem fact29:((Rows.storeLimitsRow.kinds==(if Rows.storeLimitsRow.domain.isEmpty then []else Tryz.f3.params.toList.map λt=>match prog.underlying t with|some (.int k)=>some k|_=>none)))=true:=by kernel_rfl
theorem fact30:((Rows.storeLimitsRow.pinned==Rows.storeLimitsRow.pinnedBy))=true:=by kernel_rfl
theorem fact31:((Rows.storeLimitsRow.veiled==(Tryz.f3.params.toList++(OpenSpec.ofChange Rows.storeLimitsSpec).bare.plain.varTypes prog++Tryz.f3.resultTypes.toList).any (prog.veiledRec ·)))=true:=by kernel_rfl
theorem fact32:(Rows.storeLimitsRow.veiledFits prog Tryz.f3.params.toList (Tryz.f3.params.toList++(OpenSpec.ofChange Rows.storeLimitsSpec).bare.plain.varTypes prog++Tryz.f3.resultTypes.toList))=true:=by kernel_rfl
theorem band {a b:Bool}(h:a=true)(k:b=true):(a&&b)=true:=by rw[h,k];rfl
theorem facts:joinedFacts prog 3 Tryz.f3 (OpenSpec.ofChange Rows.storeLimitsSpec).bare Rows.storeLimitsRow=true:=by
 unfold joinedFacts;exact(band (band (band (band (band (band (band (band (band (band (band (band (band (band (band (band (band (band (band (band (band (band (band (band (band (band (band (band (band (band (band fact1 fact2) fact3) fact4) fact5) fact6) fact7) fact8) fact9) fact10) fact11) fact12) fact13) fact14) fact15) fact16) fact17) fact18) fact19) fact20) fact21) fact22) fact23) fact24) fact25) fact26) fact27) fact28) fact29) fact30) fact31) fact32)
end Go.Proofs.YtegfbhdkenkkdaaGreatDoor.storeLimits
namespace Go.Proofs.YtegfbhdkenkkdaaGreatDoor.storeLimits
open Go Go.RowKit Go.Proofs Go.Proofs.YtegfbhdkenkkdaaGreatDoor Go.ChangeShapes Go.WideShapes Go.ChangeAt Go.WideMaps Go.ChangeMaps Tryz
theorem contract (H:Type)(enc:TypeId×Value->H)(W:World)(base:Nat)(args:Array Value)(ds gs:List (DataW H))(before:List MemPlace)
  (gH:∀(j:Nat) t v,Tryz.f3.params[j]?=some t->args[j]?=some v->Value.okWide prog W .any base t v)
  (hW:DataW.Whole enc prog Tryz.f3.params.toList Rows.storeLimitsSpec.vars false W args.toList ds gs before)
  (hR:(DataW.weightsEach prog (Tryz.f3.params.toList++(OpenSpec.ofChange Rows.storeLimitsSpec).bare.plain.varTypes prog) (ds++gs)).all (·<=reachBytes)=true)
  (hL:laidMetH prog Rows.storeLimitsRow.laid W) (hS:W.ShapedOpen prog):
  Calls prog 3 args W λe W'=>∃v,e=.returned v/\Rows.storeLimitsSpec.post enc prog Tryz.f3 false true false false W args v W':=by
 have hW':=hW;obtain⟨p,q,Zg,hV,rfl,gw,bZ⟩:=hW;have hA:DataW.TrodAll enc prog W 0 (λ_=>true) true Tryz.f3.params.toList args.toList ds p:=Zg;rw[params3]at hA gH hR;obtain⟨v0,v1,d0,d1,p0,p1,rfl,rfl,rfl,h0,h1⟩:=trodAll_two hA;obtain⟨x,rfl,rfl,rfl,hx⟩:=open_int underlying5 (gH 0 5 v0 rfl rfl) h0;obtain⟨y,rfl,rfl,rfl,hy⟩:=open_int underlying5 (gH 1 5 v1 rfl rfl) h1;have tj:0<=x/\x<=255:=by simpa[Lit.wf,IntKind.min,IntKind.max,IntKind.signed,IntKind.bits]using hx
 have Zh:0<=y/\y<=255:=by simpa[Lit.wf,IntKind.min,IntKind.max,IntKind.signed,IntKind.bits]using hy
 clear Zg hA;refine(xXf (gl_of hL hS) x y tj.1 tj.2 Zh.1 Zh.2).mono λe W' ⟨he,hb⟩=>?_
 subst he;exact⟨_,rfl,law_post rfl (by kernel_rfl) hW' (by rw[params3];intro t ht;have GT:t=5:=(by simpa using ht);subst GT;exact⟨by kernel_rfl,of_decide_eq_true (by kernel_rfl)⟩) rfl hb⟩
theorem reads (os:Os){H:Type}(enc:TypeId×Value->H):∃places,DataW.whole enc prog ((World.laidAll prog os Rows.storeLimitsRow.laid).forCall (λ_ _=>0) ⟨#[],#[.int .u8 0,.int .u8 0],[]⟩).memory Tryz.f3.params.toList Rows.storeLimitsSpec.vars false (#[.int .u8 0,.int .u8 0]:Array Value).toList 8=some ([.lit (.int .u8 0),.lit (.int .u8 0)],[],places):=
 ⟨[],by kernel_rfl⟩
theorem lifted (os:Os)(started:os.Started)(H:Type)(enc:TypeId×Value->H)(F:Stop.Interp):
  ReturnsInHanded {} checked os 3 .any ((OpenSpec.ofChange Rows.storeLimitsSpec).preRow enc prog Tryz.f3 Rows.storeLimitsRow.domain false Rows.storeLimitsRow.laid) (((OpenSpec.ofChange Rows.storeLimitsSpec).at F).post enc prog Tryz.f3 false true false false):=by
 obtain⟨places,hx⟩:=reads os enc
 refine returnsInHanded_of_row (C:=checked) (s:=OpenSpec.ofChange Rows.storeLimitsSpec) own started (by kernel_rfl) func3
  (witness_row_at (enc:=enc) (C:=checked) false (World.laidAll prog os Rows.storeLimitsRow.laid) #[.int .u8 0,.int .u8 0] (World.laidAll_os _ _ _) (by kernel_rfl) (by kernel_rfl) (by kernel_rfl)
   (OpenSpec.preRow_of_cond 8 hx (by kernel_rfl) (λk hk=>by cases hk) (by kernel_rfl) (laidMet_laidAll _ (by kernel_rfl) (by kernel_rfl)))) ?_
 intro W base args ds gs before gH hW _ _ hR hL hS _;exact contract H enc W base args ds gs before gH hW hR hL hS
theorem said:Rows.StoreLimitsSaid:=
 OpenClaim.holds_of_cond 3 Tryz.f3 rfl rfl rfl rfl rfl rfl rfl ⟨rfl,rfl,rfl,rfl,rfl⟩ rfl rfl rfl rfl rfl (by kernel_rfl) func3 facts
  (of_decide_eq_true (by kernel_rfl)) (by unfold Func.isWrapper;first|(rw[if_pos (by decide +kernel)];kernel_rfl)|(rw[if_neg (by decide +kernel)];exact⟨rfl,rfl⟩))
  (λos started H enc _ F=>by rw[OpenClaim.pre_eq_preRow];exact lifted os started H enc F)
theorem plain (f : FuncId) (fn : Func) (hf : pinned.checked.prog.funcNamed "bulletin/bulletinlaw29.StoreLimits" = some f) (KU : pinned.checked.prog.funcs[f]? = some fn):
  true=pinned.checked.prog.looks []/\∀(j:Nat) t,fn.params[j]?=some t->pinned.checked.prog.wantsStandIn t=false:=by
 obtain rfl : f = 3 := Option.some.inj ((show prog.funcNamed "bulletin/bulletinlaw29.StoreLimits" = some 3 by kernel_rfl).symm.trans hf) |>.symm
 obtain rfl:fn=Tryz.f3:=(Option.some.inj (func3.symm.trans KU)).symm;refine⟨by kernel_rfl,λj t ht=>?_⟩;rw[params3]at ht;obtain rfl:t=5:=by simpa using Array.mem_of_getElem? ht
 exact(show prog.wantsStandIn 5=false by kernel_rfl)
end Go.Proofs.YtegfbhdkenkkdaaGreatDoor.storeLimits
namespace Go.Proofs.YtegfbhdkenkkdaaGreatDoor
open Go
theorem storeLimits_card:Rows.StoreLimitsCardSaid:=
 Claim7.holds_tied_plain_at .later [] _ _ _ _ storeLimits.said (λ_ h=>by cases h) (by kernel_rfl) (λ_ h=>by cases h) storeLimits_row_tie rfl ⟨rfl,rfl⟩ (by kernel_rfl) rfl storeLimits.plain (by kernel_rfl)
#print axioms storeLimits_card
end Go.Proofs.YtegfbhdkenkkdaaGreatDoor
