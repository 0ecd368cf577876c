/- Parts of the proofs about bulletinlaw29: Jou9, Jou10, Jou11, Jou12, Jou13, Jou14, Jou15, Jou16, Jou17, Jou18, Jou19, Jou20, His1, His2, His3, His4, His5, His6, Rng0, Num2, His7, His8, Spo1, Spo2, Spo3, Spo4, Num3, Spo5, Spo6, Spo7. -/
import Derived.Test.YthiafifdiaplaaaGreatDoorRL1
import Derived.Test.YthiafifdiaplaaaGreatDoorRL2
import Derived.Test.YthiafifdiaplaaaGreatDoorRL3
import Derived.Defers
set_option maxRecDepth 100000
set_option maxHeartbeats 8000000
namespace Go.Proofs.YthiafifdiaplaaaGreatDoor
open Go Go.RowKit Go.Proofs
section
theorem j3 (ρ:Operand→Value)(d:Option Tmp)(x:Operand)(ty:TypeId)(pos:String)(af:Array Edge)(g:Option (Nat × Bool))(w:World) :
  Sem.run Tryz.prog (execOp ρ ⟨d,.load 131 x,ty,pos,af,g⟩) w=yx Tryz.prog 131 w (ρ x):=rfl
theorem vh (ρ:Operand→Value)(d:Option Tmp)(x y:Operand)(ty:TypeId)(pos:String)(af:Array Edge)(g:Option (Nat × Bool))(w:World) :
  Sem.run Tryz.prog (execOp ρ ⟨d,.store 131 x y,ty,pos,af,g⟩) w=ym Tryz.prog 131 w (ρ x) (ρ y):=rfl
theorem xHl (w:World)(a:Addr)(h:xq w a 4=true):yx Tryz.prog 131 w (.pointer (some a))=.ok (.value (.agg (xp w a 4))) w :=
 yo Tryz.isAgg131 Tryz.sizeOf131 w a h
theorem xGk (w:World)(g:Nat)(cells:Array Value)(h:xP w g 4=true)(h2:xy 4 cells=true) :
  ym Tryz.prog 131 w (.pointer (some ⟨g,0,none⟩)) (.agg cells)=.ok .skip (w.setRow g cells):=yr (by kernel_rfl) w g cells h h2
def zSta:Array Value:=#[.int .i64 0,.int .i64 0,.slice none 0 0,.int .i64 0]
theorem vE (a b:Int)(v:Value)(c:Int)(hv:v.oneCell'=true):xy 4 #[.int .i64 a,.int .i64 b,v,.int .i64 c]=true:=zT rfl (by rw[Array.all_eq_true_iff_forall_mem];intro x hx;simp at hx;rcases hx with rfl | rfl | rfl | rfl <;> first | rfl | exact hv)
attribute [local go_sem ↓] qQ qq zN zz qs uR j3 vh
attribute [local go_sem] xEh xE4 kg kd xBf xB9 xHl xGk xEe xE9 xK5 zt zw yD yC xj xh xe xd xA xz xo xl xt xC xx
theorem xOb {H:By→By}{gen:Int}:∀ (f:Nat) (num:Int) (L:List By),(zX H gen f num L).length≤L.length
 | 0,_,_=>Nat.zero_le _
 | f+1,num,L=>by
  rw[xCd f]
  cases hj:uh H L with
  | none=>exact Nat.zero_le _
  | some x =>
   obtain⟨r,n⟩:=x
   have h1:=xRx hj
   simp only
   split
   ·exact Nat.zero_le _
   ·split
    ·have h2:=xOb (H:=H) (gen:=gen) f (num+1) (L.drop n)
     rw[List.length_drop] at h2
     rw[List.length_cons]
     omega
    ·exact Nat.zero_le _
theorem xDj:∀ (l:List (PRec × Value)) (j:Nat) (hj:j<l.length) (i:Nat),i<4→(zS l)[j*4+i]?=(y8 l[j].1.kind l[j].1.gen l[j].1.num l[j].2)[i]?
 | [],j,hj,_,_=>by cases hj
 | x :: l,0,_,i,hi=>by
  have e:zS (x :: l)=y8 x.1.kind x.1.gen x.1.num x.2++zS l:=rfl
  rw[e,Nat.zero_mul,Nat.zero_add,List.getElem?_append_left (by simpa[y8] using hi)];rfl
 | x :: l,j+1,hj,i,hi=>by
  have e:zS (x :: l)=y8 x.1.kind x.1.gen x.1.num x.2++zS l:=rfl
  rw[e,List.getElem?_append_right (by simp[y8];omega),show (y8 x.1.kind x.1.gen x.1.num x.2).length=4 from rfl,show (j+1)*4+i-4=j*4+i by omega]
  exact xDj l j (by simpa using hj) i hi
theorem RcAt.get {w:World}{B:Nat}{v:Value}{l:List (PRec × Value)}(h:RcAt w B v l)(j:Nat)(hj:j<l.length):∃ g cap gp pcap,v=.slice (some ⟨g,0,none⟩) l.length cap∧l.length≤cap ∧
  (∀ i u,(y8 l[j].1.kind l[j].1.gen l[j].1.num (.slice (some ⟨gp,0,none⟩) l[j].1.pay.length pcap))[i]?=some u→w.cell? ⟨g,j*4+i,none⟩=some u) ∧
  l[j].2=.slice (some ⟨gp,0,none⟩) l[j].1.pay.length pcap∧gp<w.heap.size∧l[j].1.pay.length≤pcap∧pcap≤maxLen∧SlB w ⟨gp,0,none⟩ l[j].1.pay:=by
 obtain⟨h1,h2,_⟩:=h.el l[j] (List.getElem_mem hj)
 rcases h1.at with⟨h0,_⟩ | ⟨gp,pcap,hx,_,hl,hmxp,hs⟩
 ·exact absurd h0 h2
 rcases h.own.2 with⟨_,h0⟩ | ⟨g,cap,cur,hv,hg,hcur,hle,hmx,hcs,htk⟩
 ·omega
 ·refine⟨g,cap,gp,pcap,hv,hle,fun i u hu=>?_,hx,(h1.lt (by rw[hx];rfl)).2,hl,hmxp,hs⟩
  have hi:i<4:=(List.getElem?_eq_some_iff.1 hu).1
  have hu2:(zS l)[j*4+i]?=some u:=by rw[xDj l j hj i hi,hx];exact hu
  have:=World.ownsRow.cells h.own (g:=g) (by rw[hv];rfl) (j*4+i) u hu2
  rwa [Addr.add_lit,Nat.zero_add] at this
theorem RcAt.rd {w:World}{g k:Nat}{r:List Value}(hr:r.length=4)(h:∀ i u,r[i]?=some u→w.cell? ⟨g,k*4+i,none⟩=some u):xq w ⟨g,k*4,none⟩ 4=true∧xp w ⟨g,k*4,none⟩ 4=r.toArray:=by
 have:=y7 (w:=w) (a:=⟨g,k*4,none⟩) (cs:=r) (fun j v hj=>by rw[Addr.add_lit];exact h j v hj)
 rw[hr] at this
 exact this
theorem xV3:Tryz.prog.elem 223=222:=by kernel_rfl
theorem xRa (g len cap:Nat)(h1:1≤len)(hc:len≤cap)(w:World):Sem.run Tryz.prog (Instr.sliceAt 223 (.slice (some ⟨g,0,none⟩) len cap) (some (.int .i64 1)) none none) w=.ok (.slice (some ⟨g,if cap=1 then 0 else 4,none⟩) (len-1) (cap-1)) w:=by
 rw[run_sliceAt_slice w 223 _ _ _ _ (by kernel_rfl),run_slice_l w 223 (some ⟨g,0,none⟩) len cap (by kernel_rfl) .i64 1 (by omega) (by omega),xV3,Tryz.sizeOf222]
 simp only[Result.andThen_ok,sliced,Option.map_some]
 by_cases h:cap=1
 ·subst h;rfl
 ·rw[if_neg (by show ¬ cap=(1:Int).toNat;simpa using h),if_neg h]
  rfl
structure LlSt (W1:World)(gen first:Int)(l:List (PRec × Value))(k:Nat)(W:World):Prop where
 bel:Below W1.heap.size W1 W
 st:∃ ev,W.heap[W1.heap.size]?=some (.cells #[.int .i64 gen,.int .i64 first,ev,.int .i64 0] 131 (0,0))∧W.ownsRow (W1.heap.size+1) 66 1 ev k ((l.take k).map Prod.snd)
 kinds:∀ x∈l.take k,x.1.kind=2
theorem LlSt.en {W1:World}{gen first:Int}{l:List (PRec × Value)}{k:Nat}{W:World}(h:LlSt W1 gen first l k W){B:Nat}(hrc:∀ x∈l,OwnB W1 B x.2 x.1.pay∧x.2≠.slice none 0 0)(hB:B≤W1.heap.size)(hk:k≤l.length) :
  ∃ ev,W.heap[W1.heap.size]?=some (.cells #[.int .i64 gen,.int .i64 first,ev,.int .i64 0] 131 (0,0))∧EnAt W B ev ((l.take k).map fun x=>x.1.pay) ((l.take k).map Prod.snd):=by
 obtain⟨ev,h1,h2⟩:=h.st
 have hlen:(l.take k).length=k:=by rw[List.length_take];omega
 have h2':=h2
 have hlm:((l.take k).map fun x=>x.1.pay).length=k:=by rw[List.length_map];exact hlen
 refine⟨ev,h1,⟨?_,by simp,fun i hi=>?_⟩⟩
 ·rw[hlm]
  exact⟨h2.1,h2.2.imp (fun h=>h) fun⟨g,cap,cur,hv,hg,r⟩=>⟨g,cap,cur,hv,by omega,r⟩⟩
 ·have hi2:i<k:=by rw[hlm] at hi;exact hi
  have hik:i<l.length:=by omega
  obtain⟨q1,q2⟩:=hrc l[i] (List.getElem_mem hik)
  simp only[List.getElem_map,List.getElem_take]
  refine⟨q1.below h.bel,q2,fun j hj e=>?_⟩
  have a1:=(q1.lt hj).2
  have a2:=(World.ownsRow.lt h2' j e).1
  omega
theorem LlSt.next {W1:World}{gen first:Int}{l:List (PRec × Value)}{k:Nat}{W Wa W2:World}{ev v':Value}(h:LlSt W1 gen first l k W)(hk:k<l.length)(hkind:l[k].1.kind=2)(hba:Below W.heap.size W Wa)
  (hrow:W.heap[W1.heap.size]?=some (.cells #[.int .i64 gen,.int .i64 first,ev,.int .i64 0] 131 (0,0))) (hev:∀ j,ev.ownBlock=some j→W1.heap.size+1≤j)
  (ho:W2.ownsRow (W1.heap.size+1) 66 1 v' (k+1) ((l.take k).map Prod.snd++[l[k].2])) (hg:Wa.grownBy W2 ev.ownBlock) :
  (W2.heap[W1.heap.size]?=some (.cells #[.int .i64 gen,.int .i64 first,ev,.int .i64 0] 131 (0,0)))∧LlSt W1 gen first l (k+1) (W2.setCell ⟨W1.heap.size,2,none⟩ v'):=by
 have hlt:W1.heap.size<W.heap.size:=(i_ hrow).1
 have hb2:W2.heap[W1.heap.size]?=some (.cells #[.int .i64 gen,.int .i64 first,ev,.int .i64 0] 131 (0,0)) :=
  (hg.block _ (Nat.lt_of_lt_of_le hlt hba.size) (fun e=>by have:=hev _ e.symm;omega)).trans ((hba.block _ hlt).trans hrow)
 refine⟨hb2,((h.bel.trans (hba.mono h.bel.size)).grown hg (by have:=h.bel.size;have:=hba.size;omega) (fun j e=>by have:=hev j e;omega)).setCell (p:=⟨W1.heap.size,2,none⟩) (Nat.le_refl _) _,⟨v',?_,?_⟩,fun x hx=>?_⟩
 ·rw[heap_setCell_same W2 W1.heap.size 2 _ _ v' hb2];rfl
 ·rw[List.take_succ_eq_append_getElem hk,List.map_append,List.map_singleton]
  exact jt ho fun g hg1 _=>heap_setCell_other W2 ⟨W1.heap.size,2,none⟩ g v' (by show g≠W1.heap.size;omega)
 ·rw[List.take_succ_eq_append_getElem hk] at hx
  rcases List.mem_append.1 hx with hx | hx
  ·exact h.kinds x hx
  ·rw[List.mem_singleton.1 hx];exact hkind
def xKn (area q:Nat)(rs:List PRec):Option PJ:=match rs with
 | []=>none
 | r :: rs=>if r.kind≠1 then none else
  match jX r.pay with
  | none=>none
  | some x=>if x.2≤((rs.takeWhile fun r=>r.kind == 2).map (·.pay)).length then some ⟨area,q,x.1,x.2,(rs.takeWhile fun r=>r.kind == 2).map (·.pay)⟩ else none
theorem xWz {H:By→By}{area q:Nat}{b0:By}{t:List By}{p:zk}(h:decP H b0=some p)(hq:p.gen=q)(hp:q % 2=area):zg H area (b0 :: t)=xKn area q (zX H q (b0 :: t).length 0 (b0 :: t)):=by
 unfold zg
 simp only[h]
 rw[if_neg (by rw[hq];simp[hp]),hq]
 unfold xKn
 cases zX H (q:Int) (b0 :: t).length 0 (b0 :: t) with
 | nil=>rfl
 | cons r rs =>
  simp only[Int.toNat_natCast]
  cases jX r.pay <;> rfl
theorem xSx {α:Type}(f:α→Bool):∀ (l:List α) (k:Nat),(∀ x∈l.take k,f x=true)→(k=l.length∨∃ h:k<l.length,f l[k]=false)→l.takeWhile f=l.take k
 | [],k,_,_=>by simp
 | a :: l,0,_,h=>by
  rcases h with h | ⟨_,h⟩
  ·simp at h
  ·rw[List.takeWhile_cons,if_neg (by simpa using h)];rfl
 | a :: l,k+1,h1,h=>by
  rw[List.takeWhile_cons,if_pos (h1 a (by simp)),List.take_succ_cons,xSx f l k (fun x hx=>h1 x (by simp[hx])) ?_]
  rcases h with h | ⟨hl,h⟩
  ·exact .inl (by simpa using h)
  ·exact .inr ⟨by simpa using hl,by simpa using h⟩
theorem xS1 (o:Option (Nat × Nat)):∃ (f c:Int) (b:Bool),yA2 o=.tuple #[.int .i64 f,.int .i64 c,.bool b]∧(o=none→b=false)∧(∀ x,o=some x→f=x.1∧c=x.2∧b=true):=by
 cases o with
 | none=>exact⟨0,0,false,rfl,(fun _=>rfl),(fun _ h=>by cases h)⟩
 | some x=>exact⟨x.1,x.2,true,rfl,(fun h=>by cases h),(fun y h=>by cases h;exact⟨rfl,rfl,rfl⟩)⟩
theorem xI3 (a b c:Int)(v:Value)(hv:v.oneCell'=true):xy 4 #[.int .i64 a,.int .i64 b,.int .i64 c,v]=true:=zT rfl (by rw[Array.all_eq_true_iff_forall_mem];intro x hx;simp at hx;rcases hx with rfl | rfl | rfl | rfl <;> first | rfl | exact hv)
theorem LlSt.later {W1:World}{gen first:Int}{l:List (PRec × Value)}{k:Nat}{W W':World}(h:LlSt W1 gen first l k W)(hb:Below W.heap.size W W'):LlSt W1 gen first l k W':=by
 obtain⟨ev,h1,h2⟩:=h.st
 exact⟨h.bel.trans (hb.mono h.bel.size),⟨ev,(hb.block _ (i_ h1).1).trans h1,jt h2 fun g _ hg=>hb.block g hg⟩,h.kinds⟩
def StC (b:Nat)(cs:Array Value):Type:={ z:World // z.heap[b]?=some (.cells cs 131 (0,0)) }
theorem StC.cell {b:Nat}{cs:Array Value}(z:StC b cs)(j:Nat):z.1.cell? ⟨b,j,none⟩=cs[j]?:=cell_of_row _ _ _ _ _ _ z.2
theorem xP0 {LS:List By}{area q:Nat}{x:PRec × Value}{xs:List (PRec × Value)}{k:Nat}{hf hc:Int}{ok:Bool}(hl:zg sha area LS=xKn area q ((x :: xs).map Prod.fst))(hk1:x.1.kind=1)
  (hh:(jX x.1.pay=none→ok=false)∧∀ y,jX x.1.pay=some y→hf=y.1∧hc=y.2∧ok=true) (hkx:k≤xs.length) (hkinds:∀ y∈xs.take k,y.1.kind=2) (hend:k=xs.length∨∃ h:k<xs.length,xs[k].1.kind≠2)
  {w':World} {B:Nat} {v:Value} (hen:EnAt w' B v ((xs.take k).map fun x=>x.1.pay) ((xs.take k).map Prod.snd)) :
  match zg sha area LS with
  | none=>(ok && decide (hc≤(k:Int)))=false
  | some j=>(ok && decide (hc≤(k:Int)))=true∧(q:Int)=j.gen∧hf=j.first∧∃ vs,EnAt w' B v j.entries vs:=by
 have htw:((xs.map Prod.fst).takeWhile fun r=>r.kind == 2)=(xs.map Prod.fst).take k:=by
  refine xSx _ _ k (fun y hy=>?_) ?_
  ·rw[←List.map_take] at hy
   obtain⟨z,hz,rfl⟩:=List.mem_map.1 hy
   simpa using hkinds z hz
  ·rcases hend with h | ⟨h1,h2⟩
   ·exact .inl (by simpa using h)
   ·exact .inr ⟨by simpa using h1,by simpa using h2⟩
 have hpay:((xs.map Prod.fst).take k).map (·.pay)=(xs.take k).map fun x=>x.1.pay:=by rw[←List.map_take,List.map_map];rfl
 have hlen:((xs.take k).map fun x=>x.1.pay).length=k:=by rw[List.length_map,List.length_take];omega
 rw[hl]
 unfold xKn
 simp only[List.map_cons]
 rw[if_neg (by simp[hk1]),htw,hpay]
 cases hx:jX x.1.pay with
 | none=>simp only;rw[hh.1 hx];rfl
 | some y =>
  obtain⟨e1,e2,e3⟩:=hh.2 y hx
  simp only[hlen]
  by_cases hle:y.2≤k
  ·rw[if_pos hle]
   refine⟨?_,rfl,e1,_,hen⟩
   rw[e3,e2];simpa using hle
  ·rw[if_neg hle]
   simp only
   rw[e3,e2];simpa using hle
def xBp (d:PD)(area:Nat)(w:World)(e:Ending)(w':World):Prop :=
 Below w.heap.size w w'∧∃ (g f:Int) (v:Value) (c:Bool),e=.returned (.tuple #[.agg #[.int .i64 g,.int .i64 f,v,.int .i64 0],.bool c,.int .i64 0])∧(∃ a n c,v=.slice a n c) ∧
  match zg sha area (d.area d.n area) with
  | none=>c=false
  | some j=>c=true∧g=j.gen∧f=j.first∧∃ vs,EnAt w' w.heap.size v j.entries vs
theorem xUn {D:Nat}{w:World}{v:Dev}{d:PD}(h:yj D w v d)(hd:d.down=false)(hK:qF w)(area:Nat)(ha:area<2)(hn8:8≤d.n) :
  Calls Tryz.prog 96 #[.agg (xE v.p d.n),.int .i64 area] w (xBp d area w):=by
 obtain⟨w1,hw1⟩:∃ w1,w1=(w.alloc (.cells (xE v.p d.n) 128)).alloc (.cells zSta 131):=⟨_,rfl⟩
 have hb1:Below w.heap.size w w1:=by rw[hw1];exact((Below.refl _ _).alloc (Nat.le_refl _) _).alloc (by simp) _
 have hs1:w1.heap.size=w.heap.size+2:=by rw[hw1];simp
 have h0:w1.heap[w.heap.size]?=some (.cells (xE v.p d.n) 128 (0,0)):=by
  rw[hw1,heap_alloc_old _ _ (by simp),heap_alloc_new]
 have h1:w1.heap[w.heap.size+1]?=some (.cells zSta 131 (0,0)):=by
  have:=heap_alloc_new (w.alloc (.cells (xE v.p d.n) 128)) (.cells zSta 131)
  rw[World.size_alloc] at this
  rw[hw1,this]
 have hn2:=h.n2
 obtain⟨o1,r1⟩:=xI (n:=3) h0 rfl
 obtain⟨m,hm⟩:∃ m,m=d.n / 2:=⟨_,rfl⟩
 have hm4:4≤m:=by omega
 have hmn:area*m+m≤d.n:=by
  have:area=0∨area=1:=by omega
  rcases this with rfl | rfl <;> omega
 have z1:∀ z:xf w1,xq z.1 ⟨w.heap.size,0,none⟩ 3=true:=fun z=>xf.ok o1 z
 have z2:∀ z:xf w1,xp z.1 ⟨w.heap.size,0,none⟩ 3=xE v.p d.n:=fun z=>(xf.rd o1 z).trans r1
 have z3:∀ z:xf w1,Calls Tryz.prog 90 #[.agg (xE v.p d.n)] z.1 fun e w'=>e=.returned (.int .i64 m)∧∃ z':xf w1,w'=z'.1:=fun z=>xf.call ((xBh v.p d.n hn2 z.1).mono fun e w' ⟨h1,h2⟩=>⟨by rw[h1,hm],h2⟩)
 have HRD:Hid (∀ z:xf w1,Calls Tryz.prog 103 #[.agg (xE v.p d.n),.int .i64 (area*m:Nat),.int .i64 m] z.1 (xBo d (area*m) m z.1)):=h_ fun z=>xKo ((h.below hb1).below z.2) hd (area*m) m hmn
 have HZ3:=h_ z3
 have HB1:=h_ hb1
 have HK:=h_ hK
 have H1:=h_ h1
 have HS1:=h_ hs1
 obtain⟨LS,hLS⟩:∃ LS,LS=jc d (area*m) m:=⟨_,rfl⟩
 have hLl:LS.length=m:=by rw[hLS];exact zK _ _ _
 have HGOAL:Hid (∀ e w',Below w.heap.size w w'→(∃ (g f:Int) (v:Value) (c:Bool),e=.returned (.tuple #[.agg #[.int .i64 g,.int .i64 f,v,.int .i64 0],.bool c,.int .i64 0])∧(∃ a n c,v=.slice a n c) ∧
  match zg sha area LS with
  | none=>c=false
  | some j=>c=true∧g=j.gen∧f=j.first∧∃ vs,EnAt w' w.heap.size v j.entries vs)→xBp d area w e w'):=h_ (fun e w' hb he=>⟨hb,by rw[show d.area d.n area=LS by rw[hLS,hm];rfl];exact he⟩)
 obtain⟨am,ham⟩:∃ am,am=area*m:=⟨_,rfl⟩
 have hamz:(area:Int)*(m:Int)=(am:Int):=by rw[ham];simp
 unfold xBo at HRD
 rw[←hLS,←ham] at HRD
 have haz:(area:Int)<2:=by omega
 have hamb:(am:Int)≤4096:=by rw[ham];omega
 have hmb:(m:Int)≤4096:=by omega
 obtain⟨n,hn⟩:∃ n,n=d.n:=⟨_,rfl⟩
 rw[←hn] at hw1 z2 HZ3 HRD ⊢
 unfold xE at hw1 z2 HZ3 HRD ⊢
 unfold zSta at hw1 H1
 have HL:=h_ hLl
 have HM4:=h_ hm4
 clear h hd hb1 hs1 h0 h1 hn2 o1 r1 hm hmn z3 hK hLS hLl ham hn hn8 hm4
 go_enter Tryz.func96,Tryz.ntmps96
 go_upto_region 1 with fail
 refine xu hw1 ?_
 clear hw1
 refine uv (by kernel_rfl) ?_
 refine km [0,1,2,3,4,5,6] [7,8] 4 (fun w'=>∃ z:xf w1,w'=z.1) (by kernel_rfl) (by kernel_rfl) rfl rfl ⟨⟨_,(Below.refl _ _).drew⟩,rfl⟩ ?_
 simp only[o_]
 repeat (go_big_quiet_step (first | (go_at_call 90;exact HZ3.out _)))
 refine wpQuiet_nil ?_
 rintro _ ⟨z,rfl⟩
 clear z1 z2 HZ3
 refine qz [7,8] _ _ (by kernel_rfl) ?_
 simp only[o_]
 go_wp2_with fail
 refine(HRD.out z).mono ?_
 rintro e w2 ⟨hb2,lv,vs,rfl,hsc⟩
 obtain⟨z,hbz⟩:=z
 have hB2:Below w.heap.size w w2:=HB1.out.trans ((hbz.trans (hb2.mono hbz.size)).mono HB1.out.size)
 have hr2:w2.heap[w.heap.size+1]?=some (.cells zSta 131 (0,0)):=by
  have hs:=HS1.out
  have hz:=hbz.size
  exact(hb2.block _ (by show w.heap.size+1<z.heap.size;omega)).trans ((hbz.block _ (by omega)).trans H1.out)
 have hsc2:ScAt w2 (w.heap.size+2) lv LS vs:=hsc.base (by have hs:=HS1.out;have hz:=hbz.size;show w.heap.size+2≤z.heap.size;omega)
 have HB2:=h_ hB2
 have HR2:=h_ hr2
 have HSC2:=h_ hsc2
 clear hB2 hr2 hsc2 hsc hb2 hbz HRD HB1 H1
 go_wp2
 refine NoPanic.normal ?_
 rw[qx]
 refine xCr [9,10] [11,12] 0 (fun w'=>w'=w2) (by kernel_rfl) (by kernel_rfl) (by kernel_rfl) rfl rfl rfl ?_
 simp only[o_]
 repeat (go_big_quiet_step (fail))
 refine wpQuiet_nil ?_
 refine xCs true rfl (by kernel_rfl) ?_
 go_wp2
 refine⟨fun _=>rfl,qz [12] _ _ (by kernel_rfl) ?_⟩
 simp only[o_]
 go_wp2
 refine NoPanic.normal ?_
 rw[qx]
 refine xAc (by kernel_rfl) ?_
 go_upto_region 4 with fail
 have hne:0<LS.length:=by have:=HL.out;have:=HM4.out;omega
 obtain⟨g,cap,e0,hlv,hcl,hlen,hBe,hes,hsb⟩:=xCn HSC2.out 0 hne
 rw[HL.out] at hlv
 subst hlv
 have hcapm:m≤cap:=by
  obtain⟨g',cap',h1,_,_,h4,_⟩:=HSC2.out.at (fun e=>by rw[e] at hne;simp at hne)
  cases h1
  rw[HL.out] at h4;exact h4
 have hdec:=vt e0 _ w2 (HK.out.below HB2.out (Nat.le_refl _)) hsb hlen hes
 obtain⟨b0,hb0⟩:∃ b0,b0=LS[0]:=⟨_,rfl⟩
 obtain⟨LR,hLR⟩:∃ LR,LR=LS.drop 1:=⟨_,rfl⟩
 have hcons:LS=b0 :: LR:=by rw[hb0,hLR];exact List.drop_eq_getElem_cons (i:=0) hne
 rw[←hb0] at hdec
 have HDEC:=h_ hdec
 have HCONS:=h_ hcons
 have hm1:(1:Int)≤m:=by have:=HM4.out;omega
 clear hdec hsb hlen hb0 hLR hcons hne
 go_wp2_with fail
 refine HDEC.out.mono ?_
 rintro e w3 ⟨hb3,hpost⟩
 have hlt2:w.heap.size+1<w2.heap.size:=(i_ HR2.out).1
 have HB3:Hid (Below w.heap.size w w3):=h_ (HB2.out.trans (hb3.mono HB2.out.size))
 have hr3:w3.heap[w.heap.size+1]?=some (.cells zSta 131 (0,0)):=(hb3.block _ hlt2).trans HR2.out
 have HSC3:Hid (ScAt w3 (w.heap.size+2) (.slice (some ⟨g,0,none⟩) m cap) LS vs):=h_ (HSC2.out.later hb3)
 have hs3:w2.heap.size≤w3.heap.size:=hb3.size
 clear HDEC hb3 hcl
 rcases hpost with⟨p,vp,hp,rfl,hown,hvn⟩ | ⟨r,hno,hr,rfl⟩
 ·have hok:=xBl hp
  have hg0:(0:Int)≤p.gen:=hok.1.2.2.1
  have hg1:p.gen≤2147483647:=hok.1.2.2.2.1
  obtain⟨q,hq⟩:∃ q:Nat,q=p.gen.toNat:=⟨_,rfl⟩
  have hpq:p.gen=(q:Int):=by omega
  unfold zb
  have hvo:vp.oneCell'=true:=by
   rcases hown.at with⟨h,_⟩ | ⟨g,c,h,_⟩ <;> rw[h] <;> rfl
  have hft:=xS6 p.kind p.gen p.num p.idx p.cnt vp hvo
  obtain⟨w4,hw4⟩:∃ w4,w4=w3.alloc (.cells #[.int .i64 p.kind,.int .i64 p.gen,.int .i64 p.num,.int .i64 p.idx,.int .i64 p.cnt,vp] 217):=⟨_,rfl⟩
  have hba:Below w3.heap.size w3 w4:=by rw[hw4];exact b_ _ _
  have HB4:=h_ (HB3.out.trans (hba.mono HB3.out.size))
  have hpr:w4.heap[w3.heap.size]?=some (.cells #[.int .i64 p.kind,.int .i64 p.gen,.int .i64 p.num,.int .i64 p.idx,.int .i64 p.cnt,vp] 217 (0,0)):=by rw[hw4];exact heap_alloc_new w3 _
  have hr4:w4.heap[w.heap.size+1]?=some (.cells zSta 131 (0,0)):=(hba.block _ (by omega)).trans hr3
  have HSC4:=h_ (HSC3.out.later hba)
  have c1:=cell_of_row w4 w3.heap.size 1 _ _ _ hpr
  simp only[v_] at c1
  have HPR:=h_ hpr
  have HR4:=h_ hr4
  have HP:=h_ hp
  have hs4:w3.heap.size+1=w4.heap.size:=by rw[hw4];simp
  rw[hpq] at hw4 hft c1 hg1 ⊢
  have HS4:=h_ hs4
  have HPQ:=h_ hpq
  clear hok hg0 hq hown hvn hba hpr hr4 hr3 hs3 hp hs4 hpq
  go_upto_region 5 with fail
  refine xu hw4 ?_
  clear hw4 hft
  by_cases hpar:q % 2=area
  ·have hparz:((q:Int) % 2 == (area:Int))=true:=by rw[beq_iff_eq];omega
   have hparz2:((q:Int) % 2 != (area:Int))=false:=by rw[bne_eq_false_iff_eq];omega
   have hsin:xB8 w4 ⟨g,0,none⟩ LS:=⟨fun i hi=>by
    obtain⟨g',cap',e1,h1,h2,h3,_,h5,h6⟩:=xCn HSC4.out i hi
    cases h1
    exact⟨e1,by rw[Addr.add_lit,Nat.zero_add];exact h2,h3,h5,h6⟩⟩
   have hscan:=xWg (q:Int) 0 ⟨g,0,none⟩ LS cap w4 (HK.out.below HB4.out (Nat.le_refl _)) hsin ⟨by omega,by omega,by omega,by omega,by omega,by omega⟩ (by rw[HL.out];exact hcapm) (by rw[HL.out];omega)
   rw[HL.out] at hscan
   have HSCAN:=h_ hscan
   clear hsin hscan
   go_upto_region 7 with fail
   clear hparz hparz2
   go_wp2_with fail
   refine HSCAN.out.mono ?_
   rintro e w5 ⟨hb5,rv,l,x1,x2,rfl,hrc,hmap⟩
   rw[xKa LS.length 0 LS (Nat.le_refl _)] at hmap
   obtain⟨ra,rc,hrv⟩:=yH hrc.own
   have hlen:l.length≤1000000:=by
    have h1:l.length=(zX sha (q:Int) LS.length 0 LS).length:=by rw[←hmap];simp
    have:=xOb (H:=sha) (gen:=(q:Int)) LS.length 0 LS
    have:=HL.out
    omega
   have HB5:=h_ (HB4.out.trans (hb5.mono HB4.out.size))
   have HR5:Hid (w5.heap[w.heap.size+1]?=some (.cells zSta 131 (0,0))):=h_ ((hb5.block _ (i_ HR4.out).1).trans HR4.out)
   have hload:zg sha area LS=xKn area q (l.map Prod.fst):=by
    rw[hmap,HCONS.out]
    exact xWz HP.out HPQ.out hpar
   have HLOAD:=h_ hload
   have HRC5:=h_ hrc
   have HB56:=h_ hb5
   have hfs:=vE 0 0 (.slice none 0 0) 0 rfl
   have hro:xP w5 (w.heap.size+1) 4=true:=by unfold xP;rw[HR5.out];rfl
   subst hrv
   clear hload hrc hb5 hmap
   cases l with
   | nil =>
    have hbf:=h_ (xJ HB5.out (show w.heap.size≤w.heap.size+1 by omega) zSta)
    have HR:=h_ (xI (n:=4) (setRow_heap _ (w.heap.size+1) _ zSta _ _ HR5.out) rfl)
    unfold zSta at hbf HR
    simp only[List.length_nil]
    go_wp2
    refine bodyPost_ret (v:=.tuple #[.agg zSta,.bool false,.int .i64 0]) ?_ rfl (HGOAL.out _ _ hbf.out ⟨0,0,.slice none 0 0,false,rfl,⟨_,_,_,rfl⟩,by rw[HLOAD.out];rfl⟩)
    exact ue rfl Tryz.isAgg131 Tryz.sizeOf131 _ _ ⟨w.heap.size+1,0,none⟩ _ _ _ rfl rfl rfl HR.out.1 HR.out.2
   | cons x xs =>
    obtain⟨gr,cap2,gp,pcap,hv2,hcap2,hcs,hx2,hgp,hpl,hpm,hps⟩:=HRC5.out.get 0 (by simp)
    cases hv2
    obtain⟨nl,hnl⟩:∃ nl,nl=(x :: xs).length:=⟨_,rfl⟩
    rw[←hnl] at hcap2 hlen ⊢
    have hnl1:nl=xs.length+1:=by rw[hnl];rfl
    have k0:=hcs 0 _ rfl
    have k3:=hcs 3 _ rfl
    simp only[Nat.zero_mul,Nat.zero_add,List.getElem_cons_zero] at k0 k3 hx2 hpl hps
    have hnz:(1:Int)≤nl:=by omega
    have hnz2:((nl:Int) == 0)=false:=by rw[beq_eq_false_iff_ne];omega
    have HXS:=h_ hnl1
    have HX2:=h_ hx2
    have HKC:=h_ hcs
    have HCAP2:=h_ hcap2
    by_cases hk1:x.1.kind=1
    ·have hk1z:(x.1.kind != 1)=false:=by rw[bne_eq_false_iff_eq];exact hk1
     have hhn:=xG0 x.1.pay ⟨gp,0,none⟩ pcap w5 hps hgp hpl (Nat.le_trans hpl hpm)
     obtain⟨hf,hc,hok,hres,hnn,hss⟩:=xS1 (jX x.1.pay)
     rw[hres] at hhn
     have HHN:=h_ hhn
     have HHF:=h_ (And.intro hnn hss)
     have hsl:=xRa gr nl rc (by omega) hcap2
     clear hhn hnn hss hres hps hgp hpl hcs hx2 hnl hnl1
     go_wp2_with fail
     refine HHN.out.mono ?_
     rintro e w6 ⟨hb6,rfl⟩
     have hfs2:=vE q hf (.slice none 0 0) 0 rfl
     have k1:=(hb6.cell (p:=⟨w3.heap.size,1,none⟩) (by have:=HS4.out;have:=HB56.out.size;show w3.heap.size<w5.heap.size;omega)).trans ((HB56.out.cell (p:=⟨w3.heap.size,1,none⟩) (by have:=HS4.out;show w3.heap.size<w4.heap.size;omega)).trans c1)
     have HB6:=h_ (HB5.out.trans (hb6.mono HB5.out.size))
     have HR6:Hid (w6.heap[w.heap.size+1]?=some (.cells zSta 131 (0,0))):=h_ ((hb6.block _ (i_ HR5.out).1).trans HR5.out)
     have HRC6:=h_ (HRC5.out.later hb6)
     have HST:Hid (LlSt w6 q hf xs 0 (w6.alloc (.cells #[.int .i64 q,.int .i64 hf,.slice none 0 0,.int .i64 0] 131))):=h_ ⟨(Below.refl _ _).alloc (Nat.le_refl _) _,⟨_,heap_alloc_new w6 _,World.ownsRow_nil _ _ _ _⟩,fun x hx=>by cases hx⟩
     obtain⟨bo,hbo⟩:∃ bo,bo=if rc=1 then 0 else 4:=⟨_,rfl⟩
     rw[←hbo] at hsl
     have HBO:=h_ hbo
     obtain⟨xn,hxn⟩:∃ xn,xn=xs.length:=⟨_,rfl⟩
     have hnx:nl-1=xn:=by have:=HXS.out;omega
     rw[hnx] at hsl
     have HXN:=h_ hxn
     have hxz:(xn:Int)≤1000000:=by have:=HXS.out;omega
     have hl0:(0:Int)≤1:=by decide
     clear k0 k3 hk1z c1 hb6 hbo hnx hxn
     go_wp2
     go_loopw [86] (fun u wr=>∃ k:Nat,u=.int .i64 k∧k≤xn∧Hid (LlSt w6 q hf xs k wr)) (fun u _=>xn-(intOf u).toNat)
     case atStart=>exact⟨0,rfl,Nat.zero_le _,HST⟩
     case round =>
      obtain⟨k,rfl,hk,HS⟩:=hrel
      by_cases hlt:k<xn
      ·have hltz:(k:Int)<xn:=by omega
       have hkx:k<xs.length:=by rw[←HXN.out];exact hlt
       obtain rfl:bo=4:=by rw[HBO.out];exact if_neg (by have:=HCAP2.out;have:=HXS.out;omega)
       have hrcw:=HRC6.out.later HS.out.bel
       obtain⟨g9,c9,gq,qcap,hv9,_,hcs9,hx9,hgq,hql,hqm,hqs⟩:=hrcw.get (k+1) (by rw[List.length_cons];omega)
       cases hv9
       simp only[List.getElem_cons_succ] at hcs9 hx9 hql hqs
       obtain⟨ro,rr⟩:=RcAt.rd (show (y8 xs[k].1.kind xs[k].1.gen xs[k].1.num (.slice (some ⟨gq,0,none⟩) xs[k].1.pay.length qcap)).length=4 from rfl) hcs9
       rw[show (k+1)*4=4+k*4 by omega] at ro rr
       unfold y8 at rr
       obtain⟨y,hy⟩:∃ y,y=xs[k]:=⟨_,rfl⟩
       rw[←hy] at rr
       have hft:=xI3 y.1.kind y.1.gen y.1.num (.slice (some ⟨gq,0,none⟩) y.1.pay.length qcap) rfl
       have hba:Below wr.heap.size wr (wr.alloc (.cells #[.int .i64 y.1.kind,.int .i64 y.1.gen,.int .i64 y.1.num,.slice (some ⟨gq,0,none⟩) y.1.pay.length qcap] 222)):=(Below.refl _ _).alloc (Nat.le_refl _) _
       have hnr:=heap_alloc_new wr (.cells #[.int .i64 y.1.kind,.int .i64 y.1.gen,.int .i64 y.1.num,.slice (some ⟨gq,0,none⟩) y.1.pay.length qcap] 222)
       obtain⟨w7,hw7⟩:∃ w7,w7=wr.alloc (.cells #[.int .i64 y.1.kind,.int .i64 y.1.gen,.int .i64 y.1.num,.slice (some ⟨gq,0,none⟩) y.1.pay.length qcap] 222):=⟨_,rfl⟩
       have HY:=h_ hy
       have HX9:=h_ hx9
       clear hcs9 hy hx9 hql hqm hqs
       go_upto_region 15 with fail
       refine xu hw7 ?_
       rw[←hw7] at hba hnr
       clear hw7 ro rr hft
       have HBA:=h_ hba
       have c0:=cell_of_row w7 wr.heap.size 0 _ _ _ hnr
       have c3:=cell_of_row w7 wr.heap.size 3 _ _ _ hnr
       simp only[v_] at c0 c3
       clear hnr hba
       by_cases hk2:y.1.kind=2
       ·have hk2z:(y.1.kind != 2)=false:=by rw[bne_eq_false_iff_eq];exact hk2
        obtain⟨ev,hrow,hown⟩:=HS.out.st
        obtain⟨ea,ec,hev⟩:=yH hown
        have hrow7:=(HBA.out.block _ (i_ hrow).1).trans hrow
        have ce:=cell_of_row w7 w6.heap.size 2 _ _ _ hrow7
        simp only[v_] at ce
        obtain⟨i0,hi,hz0,hz1,hz2⟩:=info_parts Tryz.info_slb
        have HI:=h_ (And.intro hi (And.intro hz0 (And.intro hz1 hz2)))
        have hbb:Below w7.heap.size w7 (w7.alloc (.cells #[.slice (some ⟨gq,0,none⟩) y.1.pay.length qcap] 66)):=(Below.refl _ _).alloc (Nat.le_refl _) _
        have hown8:=jt hown (w':=w7.alloc (.cells #[.slice (some ⟨gq,0,none⟩) y.1.pay.length qcap] 66)) fun g _ hg=>(hbb.block g (Nat.lt_of_lt_of_le hg HBA.out.size)).trans (HBA.out.block g hg)
        have hcx:(w7.alloc (.cells #[.slice (some ⟨gq,0,none⟩) y.1.pay.length qcap] 66)).cell? ⟨w7.heap.size,0,none⟩=some (.slice (some ⟨gq,0,none⟩) y.1.pay.length qcap):=by rw[yy];rfl
        have hB8:w6.heap.size+1≤(w7.alloc (.cells #[.slice (some ⟨gq,0,none⟩) y.1.pay.length qcap] 66)).heap.size:=by
         have h1:=(i_ hrow7).1
         rw[World.size_alloc];omega
        have hkm:k+1≤maxLen:=by unfold maxLen;omega
        have hxsk:xs[k].2=.slice (some ⟨gq,0,none⟩) y.1.pay.length qcap:=by rw[HY.out];exact HX9.out
        have hbC:=h_ (HBA.out.trans (hbb.mono HBA.out.size))
        have hevj:=h_ (fun j (hj:ev.ownBlock=some j)=>(World.ownsRow.lt hown j hj).1)
        have HNEXT:=h_ (fun v' W2 (h1:W2.ownsRow (w6.heap.size+1) 66 1 v' (k+1) ((xs.take k).map Prod.snd++[xs[k].2])) (h2:(w7.alloc (.cells #[.slice (some ⟨gq,0,none⟩) y.1.pay.length qcap] 66)).grownBy W2 ev.ownBlock)=>HS.out.next hkx (by rw[←HY.out];exact hk2) hbC.out hrow hevj.out h1 h2)
        rw[hxsk] at HNEXT
        have HROW:=h_ hrow
        have HOWN8:=h_ hown8
        have HCX:=h_ hcx
        have HB8:=h_ hB8
        have HKM:=h_ hkm
        have hk1m:k+1≤xn:=hlt
        rw[hev] at ce HOWN8
        have HEV:=h_ hev
        have hkq:(k:Int)≤1000000:=by omega
        have hbyt:Hid ((k+1)*24≤140737488355328):=h_ (by omega)
        clear hrow hown hrow7 hi hz0 hz1 hz2 hbb hown8 hcx hB8 hxsk hkm hev hevj
        go_wp2_with (at_builtin;refine wpList_append_own_at _ rfl (.tmp 94) (.tmp 97) 129 rfl (w6.heap.size+1) 66 i0 (.slice none 0 0) 1 24 Tryz.underlying129 HI.out.1 HI.out.2.1 HI.out.2.2.1 HI.out.2.2.2 rfl (by decide) _ k _ rfl HOWN8.out ⟨w7.heap.size,0,none⟩ 1 1 [.slice (some ⟨gq,0,none⟩) y.1.pay.length qcap] rfl rfl (fun j u hj=>by
          match j,hj with
          | 0,hj =>
           simp only[List.getElem?_cons_zero,Option.some.injEq] at hj
           subst hj
           rw[Addr.add_lit];exact HCX.out) (fun u hu=>by simp at hu;rw[hu];rfl) HKM.out hbyt.out HB8.out ?_)
        intro v' w9 h9 hg9 _ _
        rw[←List.map_take] at h9
        obtain⟨va,vc,hv9⟩:=yH h9
        have hnx:=HNEXT.out v' w9 h9 (by rw[HEV.out];exact hg9)
        have f9:=frozen_of_row w9 w6.heap.size 2 _ _ hnx.1
        have c9:=cell_of_row w9 w6.heap.size 2 _ _ _ hnx.1
        simp only[v_] at c9
        have HN:=h_ hnx.2
        subst hv9
        rw[HEV.out] at c9
        clear hnx h9 hg9 c0 c3 ce
        go_wp2
        go_roundw
        case rel=>exact⟨k+1,by go_num,hk1m,HN⟩
        case measure=>simp[intOf];omega
       ·have hk2z:(y.1.kind != 2)=true:=by rw[bne_iff_ne];exact hk2
        go_upto_region 18 with fail
        have HLL:=h_ (HS.out.later HBA.out)
        obtain⟨ev,hrow,hen⟩:=HLL.out.en (B:=w.heap.size+2) (fun y hy=>by have:=HRC6.out.el y (by simp[hy]);exact⟨this.1.base (i_ HR4.out).1,this.2.1⟩) (i_ HR6.out).1 (by rw[←HXN.out];exact hk)
        obtain⟨ea,ec,hev⟩:=yH hen.own
        have hlk:((xs.take k).map fun x=>x.1.pay).length=k:=by rw[List.length_map,List.length_take,←HXN.out];omega
        rw[hlk] at hev
        subst hev
        have HEN:=h_ hen
        have HROW:=h_ hrow
        have hend:=h_ (show k=xs.length∨∃ h:k<xs.length,xs[k].1.kind≠2 from .inr ⟨by rw[←HXN.out];exact hlt,by rw[←HY.out];exact hk2⟩)
        have hkq:(k:Int)≤1000000:=by omega
        have z1:∀ z:StC w6.heap.size #[.int .i64 q,.int .i64 hf,.slice ea k ec,.int .i64 0],xq z.1 ⟨w6.heap.size,0,none⟩ 4=true:=fun z=>(xI (n:=4) z.2 rfl).1
        have z2:∀ z:StC w6.heap.size #[.int .i64 q,.int .i64 hf,.slice ea k ec,.int .i64 0],xp z.1 ⟨w6.heap.size,0,none⟩ 4=#[.int .i64 q,.int .i64 hf,.slice ea k ec,.int .i64 0]:=fun z=>(xI (n:=4) z.2 rfl).2
        have z3:∀ z:StC w6.heap.size #[.int .i64 q,.int .i64 hf,.slice ea k ec,.int .i64 0],z.1.cell? ⟨w6.heap.size,2,none⟩=some (.slice ea k ec):=fun z=>z.cell 2
        haveI:Nonempty (StC w6.heap.size #[.int .i64 q,.int .i64 hf,.slice ea k ec,.int .i64 0]):=⟨⟨_,hrow⟩⟩
        have hrT:w7.drew.heap[w.heap.size+1]?=some (.cells zSta 131 (0,0)):=(HLL.out.bel.block _ (i_ HR6.out).1).trans HR6.out
        have hbT:Below w.heap.size w w7.drew:=HB6.out.trans (HLL.out.bel.drew.mono HB6.out.size)
        have hneT:w.heap.size+1≠w6.heap.size:=Nat.ne_of_lt (i_ HR6.out).1
        clear hen hrow hlk
        refine j9 [0,1,2,3,4,5,6,7,8] [9,10,11] 3 (fun w'=>∃ z:StC w6.heap.size #[.int .i64 q,.int .i64 hf,.slice ea k ec,.int .i64 0],w'=z.1) (by kernel_rfl) (by kernel_rfl) rfl ⟨⟨w7.drew,HROW.out⟩,rfl⟩ ?_
        simp only[o_]
        have HRT:=h_ hrT
        have HBT:=h_ hbT
        have HNT:=h_ hneT
        clear hrT hbT hneT
        by_cases hge:hc≤(k:Int)
        case' pos=>have hgd:decide (hc≤(k:Int))=true:=decide_eq_true hge
        case' neg=>have hgd:decide (hc≤(k:Int))=false:=decide_eq_false hge
        all_goals
         have HFIN:=h_ (fun (W:World) (h:EnAt W w.heap.size (.slice ea k ec) ((xs.take k).map fun x=>x.1.pay) ((xs.take k).map Prod.snd))=>xP0 HLOAD.out hk1 HHF.out (by rw[←HXN.out];exact hk) HLL.out.kinds hend.out h)
         cases hok
        all_goals
         repeat (go_big_quiet_step (fail))
         refine wpQuiet_nil ?_
         clear z1 z2 z3
         refine zE [9,10,11] rfl (by kernel_rfl) (by kernel_rfl) (by kernel_rfl) ?_
         have hroT:xP w7.drew (w.heap.size+1) 4=true:=by unfold xP;rw[HRT.out];rfl
         have hfT:=vE q hf (.slice ea k ec) 0 rfl
         have hclT:(w7.drew.setRow (w.heap.size+1) #[.int .i64 q,.int .i64 hf,.slice ea k ec,.int .i64 0]).heap[w6.heap.size]?=some (.cells #[.int .i64 q,.int .i64 hf,.slice ea k ec,.int .i64 0] 131 (0,0)):=(setRow_other _ _ _ _ HNT.out.symm).trans HROW.out
         refine yz true (by kernel_rfl) (by kernel_rfl) ?_
         simp only[o_]
         go_wp2
         refine⟨fun _=>⟨⟨_,hclT⟩,rfl⟩,xG [10,11] _ _ (by kernel_rfl) ?_⟩
         simp only[o_]
         go_wp2
         refine NoPanic.normal ?_
         go_wp2
         have henW:=HEN.out.under (w':=(w7.setRow (w.heap.size+1) #[.int .i64 q,.int .i64 hf,.slice ea k ec,.int .i64 0]).drew) fun g hg _=>setRow_other _ _ _ _ (by omega)
         have hbf:=(xJ HBT.out (show w.heap.size≤w.heap.size+1 by omega) #[.int .i64 q,.int .i64 hf,.slice ea k ec,.int .i64 0])
         have HR:=xI (n:=4) (setRow_heap w7.drew (w.heap.size+1) _ #[.int .i64 q,.int .i64 hf,.slice ea k ec,.int .i64 0] _ _ HRT.out) rfl
         first
          | exact bodyPost_ret (v:=.tuple #[.agg #[.int .i64 q,.int .i64 hf,.slice ea k ec,.int .i64 0],.bool (false && decide (hc≤(k:Int))),.int .i64 0]) (ue rfl Tryz.isAgg131 Tryz.sizeOf131 _ _ ⟨w.heap.size+1,0,none⟩ _ _ _ rfl (by rw[hgd];rfl) rfl HR.1 HR.2) rfl (HGOAL.out _ _ hbf ⟨q,hf,.slice ea k ec,_,rfl,⟨_,_,_,rfl⟩,HFIN.out _ (henW.base (by omega))⟩)
          | exact bodyPost_ret (v:=.tuple #[.agg #[.int .i64 q,.int .i64 hf,.slice ea k ec,.int .i64 0],.bool (true && decide (hc≤(k:Int))),.int .i64 0]) (ue rfl Tryz.isAgg131 Tryz.sizeOf131 _ _ ⟨w.heap.size+1,0,none⟩ _ _ _ rfl (by rw[hgd];rfl) rfl HR.1 HR.2) rfl (HGOAL.out _ _ hbf ⟨q,hf,.slice ea k ec,_,rfl,⟨_,_,_,rfl⟩,HFIN.out _ (henW.base (by omega))⟩)
      ·obtain rfl:k=xn:=by omega
       go_upto_region 18 with fail
       have HLL:=h_ (HS.out)
       obtain⟨ev,hrow,hen⟩:=HLL.out.en (B:=w.heap.size+2) (fun y hy=>by have:=HRC6.out.el y (by simp[hy]);exact⟨this.1.base (i_ HR4.out).1,this.2.1⟩) (i_ HR6.out).1 (by rw[←HXN.out];exact hk)
       obtain⟨ea,ec,hev⟩:=yH hen.own
       have hlk:((xs.take k).map fun x=>x.1.pay).length=k:=by rw[List.length_map,List.length_take,←HXN.out];omega
       rw[hlk] at hev
       subst hev
       have HEN:=h_ hen
       have HROW:=h_ hrow
       have hend:=h_ (show k=xs.length∨∃ h:k<xs.length,xs[k].1.kind≠2 from .inl HXN.out)
       have hkq:(k:Int)≤1000000:=by omega
       have z1:∀ z:StC w6.heap.size #[.int .i64 q,.int .i64 hf,.slice ea k ec,.int .i64 0],xq z.1 ⟨w6.heap.size,0,none⟩ 4=true:=fun z=>(xI (n:=4) z.2 rfl).1
       have z2:∀ z:StC w6.heap.size #[.int .i64 q,.int .i64 hf,.slice ea k ec,.int .i64 0],xp z.1 ⟨w6.heap.size,0,none⟩ 4=#[.int .i64 q,.int .i64 hf,.slice ea k ec,.int .i64 0]:=fun z=>(xI (n:=4) z.2 rfl).2
       have z3:∀ z:StC w6.heap.size #[.int .i64 q,.int .i64 hf,.slice ea k ec,.int .i64 0],z.1.cell? ⟨w6.heap.size,2,none⟩=some (.slice ea k ec):=fun z=>z.cell 2
       haveI:Nonempty (StC w6.heap.size #[.int .i64 q,.int .i64 hf,.slice ea k ec,.int .i64 0]):=⟨⟨_,hrow⟩⟩
       have hrT:wr.drew.heap[w.heap.size+1]?=some (.cells zSta 131 (0,0)):=(HLL.out.bel.block _ (i_ HR6.out).1).trans HR6.out
       have hbT:Below w.heap.size w wr.drew:=HB6.out.trans (HLL.out.bel.drew.mono HB6.out.size)
       have hneT:w.heap.size+1≠w6.heap.size:=Nat.ne_of_lt (i_ HR6.out).1
       clear hen hrow hlk
       refine j9 [0,1,2,3,4,5,6,7,8] [9,10,11] 3 (fun w'=>∃ z:StC w6.heap.size #[.int .i64 q,.int .i64 hf,.slice ea k ec,.int .i64 0],w'=z.1) (by kernel_rfl) (by kernel_rfl) rfl ⟨⟨wr.drew,HROW.out⟩,rfl⟩ ?_
       simp only[o_]
       have HRT:=h_ hrT
       have HBT:=h_ hbT
       have HNT:=h_ hneT
       clear hrT hbT hneT
       by_cases hge:hc≤(k:Int)
       case' pos=>have hgd:decide (hc≤(k:Int))=true:=decide_eq_true hge
       case' neg=>have hgd:decide (hc≤(k:Int))=false:=decide_eq_false hge
       all_goals
        have HFIN:=h_ (fun (W:World) (h:EnAt W w.heap.size (.slice ea k ec) ((xs.take k).map fun x=>x.1.pay) ((xs.take k).map Prod.snd))=>xP0 HLOAD.out hk1 HHF.out (by rw[←HXN.out];exact hk) HLL.out.kinds hend.out h)
        cases hok
       all_goals
        repeat (go_big_quiet_step (fail))
        refine wpQuiet_nil ?_
        clear z1 z2 z3
        refine zE [9,10,11] rfl (by kernel_rfl) (by kernel_rfl) (by kernel_rfl) ?_
        have hroT:xP wr.drew (w.heap.size+1) 4=true:=by unfold xP;rw[HRT.out];rfl
        have hfT:=vE q hf (.slice ea k ec) 0 rfl
        have hclT:(wr.drew.setRow (w.heap.size+1) #[.int .i64 q,.int .i64 hf,.slice ea k ec,.int .i64 0]).heap[w6.heap.size]?=some (.cells #[.int .i64 q,.int .i64 hf,.slice ea k ec,.int .i64 0] 131 (0,0)):=(setRow_other _ _ _ _ HNT.out.symm).trans HROW.out
        refine yz true (by kernel_rfl) (by kernel_rfl) ?_
        simp only[o_]
        go_wp2
        refine⟨fun _=>⟨⟨_,hclT⟩,rfl⟩,xG [10,11] _ _ (by kernel_rfl) ?_⟩
        simp only[o_]
        go_wp2
        refine NoPanic.normal ?_
        go_wp2
        have henW:=HEN.out.under (w':=(wr.setRow (w.heap.size+1) #[.int .i64 q,.int .i64 hf,.slice ea k ec,.int .i64 0]).drew) fun g hg _=>setRow_other _ _ _ _ (by omega)
        have hbf:=(xJ HBT.out (show w.heap.size≤w.heap.size+1 by omega) #[.int .i64 q,.int .i64 hf,.slice ea k ec,.int .i64 0])
        have HR:=xI (n:=4) (setRow_heap wr.drew (w.heap.size+1) _ #[.int .i64 q,.int .i64 hf,.slice ea k ec,.int .i64 0] _ _ HRT.out) rfl
        first
         | exact bodyPost_ret (v:=.tuple #[.agg #[.int .i64 q,.int .i64 hf,.slice ea k ec,.int .i64 0],.bool (false && decide (hc≤(k:Int))),.int .i64 0]) (ue rfl Tryz.isAgg131 Tryz.sizeOf131 _ _ ⟨w.heap.size+1,0,none⟩ _ _ _ rfl (by rw[hgd];rfl) rfl HR.1 HR.2) rfl (HGOAL.out _ _ hbf ⟨q,hf,.slice ea k ec,_,rfl,⟨_,_,_,rfl⟩,HFIN.out _ (henW.base (by omega))⟩)
         | exact bodyPost_ret (v:=.tuple #[.agg #[.int .i64 q,.int .i64 hf,.slice ea k ec,.int .i64 0],.bool (true && decide (hc≤(k:Int))),.int .i64 0]) (ue rfl Tryz.isAgg131 Tryz.sizeOf131 _ _ ⟨w.heap.size+1,0,none⟩ _ _ _ rfl (by rw[hgd];rfl) rfl HR.1 HR.2) rfl (HGOAL.out _ _ hbf ⟨q,hf,.slice ea k ec,_,rfl,⟨_,_,_,rfl⟩,HFIN.out _ (henW.base (by omega))⟩)
    ·have hk1z:(x.1.kind != 1)=true:=by rw[bne_iff_ne];exact hk1
     have hnone:zg sha area LS=none:=by rw[HLOAD.out];unfold xKn;simp only[List.map_cons];rw[if_pos hk1]
     have HNONE:=h_ hnone
     have hbf:=h_ (xJ HB5.out (show w.heap.size≤w.heap.size+1 by omega) zSta)
     have HR:=h_ (xI (n:=4) (setRow_heap _ (w.heap.size+1) _ zSta _ _ HR5.out) rfl)
     unfold zSta at hbf HR
     clear hnone hk1 hcs hx2 hpl hps hgp hnl hnl1
     go_wp2
     refine bodyPost_ret (v:=.tuple #[.agg zSta,.bool false,.int .i64 0]) ?_ rfl (HGOAL.out _ _ hbf.out ⟨0,0,.slice none 0 0,false,rfl,⟨_,_,_,rfl⟩,by rw[HNONE.out]⟩)
     exact ue rfl Tryz.isAgg131 Tryz.sizeOf131 _ _ ⟨w.heap.size+1,0,none⟩ _ _ _ rfl rfl rfl HR.out.1 HR.out.2
  ·have hparz:((q:Int) % 2 == (area:Int))=false:=by rw[beq_eq_false_iff_ne];omega
   have hparz2:((q:Int) % 2 != (area:Int))=true:=by rw[bne_iff_ne];omega
   have hfs:=vE 0 0 (.slice none 0 0) 0 rfl
   have hro:xP w4 (w.heap.size+1) 4=true:=by unfold xP;rw[HR4.out];rfl
   have hnone:zg sha area LS=none:=by
    rw[HCONS.out];unfold zg
    simp only[HP.out]
    rw[if_pos (by rw[HPQ.out];exact hpar)]
   have HNONE:=h_ hnone
   have hbf:=h_ (xJ HB4.out (show w.heap.size≤w.heap.size+1 by omega) zSta)
   have HR:=h_ (xI (n:=4) (setRow_heap _ (w.heap.size+1) _ zSta _ _ HR4.out) rfl)
   unfold zSta at hbf HR
   clear hnone hpar
   go_wp2
   refine bodyPost_ret (v:=.tuple #[.agg zSta,.bool false,.int .i64 0]) ?_ rfl (HGOAL.out _ _ hbf.out ⟨0,0,.slice none 0 0,false,rfl,⟨_,_,_,rfl⟩,by rw[HNONE.out]⟩)
   exact ue rfl Tryz.isAgg131 Tryz.sizeOf131 _ _ ⟨w.heap.size+1,0,none⟩ _ _ _ rfl rfl rfl HR.out.1 HR.out.2
 ·have hr1:(r == 0)=false:=by rw[beq_eq_false_iff_ne];exact hr
  have hr2:(r != 0)=true:=by rw[bne_iff_ne];exact hr
  have hfz:=xAz
  have hfs:=vE 0 0 (.slice none 0 0) 0 rfl
  unfold zb
  have hba:Below w3.heap.size w3 (w3.alloc (.cells ud 217)):=(Below.refl _ _).alloc (Nat.le_refl _) _
  have hrow:(w3.alloc (.cells ud 217)).heap[w.heap.size+1]?=some (.cells zSta 131 (0,0)):=(hba.block _ (by omega)).trans hr3
  have hro:xP (w3.alloc (.cells ud 217)) (w.heap.size+1) 4=true:=by unfold xP;rw[hrow];rfl
  unfold ud at hro hrow
  have hnone:zg sha area LS=none:=by rw[HCONS.out];unfold zg;simp only[hno]
  have HNONE:=h_ hnone
  have hb4:Below w.heap.size w (w3.alloc (.cells ud 217)):=HB3.out.trans (hba.mono HB3.out.size)
  have hbf:=h_ (xJ hb4 (show w.heap.size≤w.heap.size+1 by omega) zSta)
  have HR:=h_ (xI (n:=4) (setRow_heap _ (w.heap.size+1) _ zSta _ _ hrow) rfl)
  unfold ud zSta at hbf HR
  clear hno hr hba hnone hrow hb4 hr3
  go_wp2
  refine bodyPost_ret (v:=.tuple #[.agg zSta,.bool false,.int .i64 0]) ?_ rfl (HGOAL.out _ _ hbf.out ⟨0,0,.slice none 0 0,false,rfl,⟨_,_,_,rfl⟩,by rw[HNONE.out]⟩)
  exact ue rfl Tryz.isAgg131 Tryz.sizeOf131 _ _ ⟨w.heap.size+1,0,none⟩ _ _ _ rfl rfl rfl HR.out.1 HR.out.2
end
def uP (W:World)(B:Nat)(c:Bool)(o:Option PJ)(g f:Int)(v:Value):Prop:=(∃ x n k,v=.slice x n k)∧match o with
 | none=>c=false
 | some j=>c=true∧g=j.gen∧f=j.first∧∃ vs,EnAt W B v j.entries vs
theorem uP.under {W W':World}{B:Nat}{c:Bool}{o:Option PJ}{g f:Int}{v:Value}(h:uP W B c o g f v)(hb:∀ k,B≤k→k<W.heap.size→W'.heap[k]?=W.heap[k]?):uP W' B c o g f v:=by
 refine⟨h.1,?_⟩
 have h2:=h.2
 cases o with
 | none=>exact h2
 | some j=>exact⟨h2.1,h2.2.1,h2.2.2.1,h2.2.2.2.choose,h2.2.2.2.choose_spec.under hb⟩
theorem uP.base {W:World}{B B':Nat}{c:Bool}{o:Option PJ}{g f:Int}{v:Value}(h:uP W B c o g f v)(hb:B'≤B):uP W B' c o g f v:=by
 refine⟨h.1,?_⟩
 have h2:=h.2
 cases o with
 | none=>exact h2
 | some j=>exact⟨h2.1,h2.2.1,h2.2.2.1,h2.2.2.2.choose,h2.2.2.2.choose_spec.base hb⟩
def xX (g f:Int)(v:Value):List Value:=[.int .i64 g,.int .i64 f,v,.int .i64 0]
structure CuSt (w:World)(p n:Nat)(d:PD)(cs:List Value)(W:World):Prop where
 bel:Below w.heap.size w W
 st:W.heap[w.heap.size]?=some (.cells (xE p n) 128 (0,0))
 res:W.heap[w.heap.size+1]?=some (.cells zSta 131 (0,0))
 areas:W.heap[w.heap.size+1+1]?=some (.cells cs.toArray 204 (0,0))
theorem CuSt.load {w:World}{p n:Nat}{d:PD}{cs:List Value}{W W1:World}(h:CuSt w p n d cs W)(hb:Below W.heap.size W W1):CuSt w p n d cs W1 :=
 ⟨h.bel.trans (hb.mono h.bel.size),(hb.block _ (i_ h.st).1).trans h.st,(hb.block _ (i_ h.res).1).trans h.res,(hb.block _ (i_ h.areas).1).trans h.areas⟩
theorem CuSt.set {w:World}{p n:Nat}{d:PD}{cs:List Value}{W:World}(h:CuSt w p n d cs W)(cs':List Value):CuSt w p n d cs' (W.setRow (w.heap.size+1+1) cs'.toArray) :=
 ⟨xJ h.bel (by omega) _,(setRow_other _ _ _ _ (by omega)).trans h.st,(setRow_other _ _ _ _ (by omega)).trans h.res,setRow_heap _ _ _ _ _ _ h.areas⟩
def xIt (d:PD)(w:World)(e:Ending)(w':World):Prop :=
 Below w.heap.size w w'∧∃ (a g f:Int) (v:Value) (c:Bool),e=.returned (.tuple #[.int .i64 a,.agg #[.int .i64 g,.int .i64 f,v,.int .i64 0],.bool c,.int .i64 0])∧(∀ j,curP sha d.n d=some j→a=j.area)∧uP w' w.heap.size c (curP sha d.n d) g f v
theorem xEf {H:By→By}{area:Nat}{l:List By}{x:PJ}(h:zg H area l=some x):x.area=area:=(xOz H h).1
theorem xOy {d:PD}{area:Nat}{W W':World}{e:Ending}(h:xBp d area W e W'):Below W.heap.size W W'∧∃ (g f:Int) (x:Option Addr) (m k:Nat) (c:Bool),e=.returned (.tuple #[.agg #[.int .i64 g,.int .i64 f,.slice x m k,.int .i64 0],.bool c,.int .i64 0])∧uP W' W.heap.size c (zg sha area (d.area d.n area)) g f (.slice x m k):=by
 obtain⟨hb,g,f,v,c,he,⟨x,m,k,rfl⟩,hm⟩:=h
 exact⟨hb,g,f,x,m,k,c,he,⟨_,_,_,rfl⟩,hm⟩
theorem xZj {d:PD}{W:World}{B:Nat}{c0 c1:Bool}{g0 f0 g1 f1:Int}{v0 v1:Value}(h0:uP W B c0 (zg sha 0 (d.area d.n 0)) g0 f0 v0)(h1:uP W B c1 (zg sha 1 (d.area d.n 1)) g1 f1 v1) :
  ((c1 && (!c0 || decide (g0<g1)))=true→(∀ j,curP sha d.n d=some j→(1:Int)=j.area)∧uP W B true (curP sha d.n d) g1 f1 v1) ∧
  ((c1 && (!c0 || decide (g0<g1)))=false→(∀ j,curP sha d.n d=some j→(0:Int)=j.area)∧uP W B c0 (curP sha d.n d) g0 f0 v0):=by
 unfold curP
 cases e0:zg sha 0 (d.area d.n 0) with
 | none =>
  rw[e0] at h0
  have hc0:c0=false:=h0.2
  subst hc0
  cases e1:zg sha 1 (d.area d.n 1) with
  | none =>
   rw[e1] at h1
   have hc1:c1=false:=h1.2
   subst hc1
   exact⟨fun h=>(by simp at h),fun _=>⟨fun j hj=>(by simp at hj),h0⟩⟩
  | some b =>
   rw[e1] at h1
   have hc1:c1=true:=h1.2.1
   subst hc1
   refine⟨fun _=>⟨fun j hj=>?_,h1⟩,fun h=>(by simp at h)⟩
   have:=xEf e1
   simp only[Option.some.injEq] at hj
   rw[←hj,this];rfl
 | some a =>
  rw[e0] at h0
  have hc0:c0=true:=h0.2.1
  have hg0:g0=a.gen:=h0.2.2.1
  have ha:=xEf e0
  subst hc0
  cases e1:zg sha 1 (d.area d.n 1) with
  | none =>
   rw[e1] at h1
   have hc1:c1=false:=h1.2
   subst hc1
   refine⟨fun h=>(by simp at h),fun _=>⟨fun j hj=>?_,h0⟩⟩
   simp only[Option.some.injEq] at hj
   rw[←hj,ha];rfl
  | some b =>
   rw[e1] at h1
   have hc1:c1=true:=h1.2.1
   have hg1:g1=b.gen:=h1.2.2.1
   have hb:=xEf e1
   subst hc1
   by_cases hlt:a.gen<b.gen
   ·simp only[if_pos hlt]
    refine⟨fun _=>⟨fun j hj=>?_,h1⟩,fun h=>?_⟩
    ·simp only[Option.some.injEq] at hj
     rw[←hj,hb];rfl
    ·simp at h;omega
   ·simp only[if_neg hlt]
    refine⟨fun h=>?_,fun _=>⟨fun j hj=>?_,h0⟩⟩
    ·simp at h;omega
    ·simp only[Option.some.injEq] at hj
     rw[←hj,ha];rfl
section
attribute [local go_sem ↓] zN zz j3 vh
attribute [local go_sem] kg kd xHl xGk zt zw yD yC xj xh xe xd xA xz xo xl
theorem xWk {P:Program}{fn:Func}{s p t u:Tmp}{ty n:Nat}(h:fn.results=#[.tmp s,.cell p ty,.tmp t,.tmp u])(hA:∀ w,Sem.run P (isAgg ty) w=.ok true w)(hs:∀ w,Sem.run P (Go.sizeOf ty) w=.ok n w)
  (tmps:Array Value) (w:World) (a:Addr) (cs:Array Value) (v0 v v2:Value) (hp:tmps.getD p undef=.pointer (some a)) (hv0:tmps.getD s undef=v0) (hv:tmps.getD t undef=v) (hv2:tmps.getD u undef=v2) (hok:xq w a n=true) (hrd:xp w a n=cs) :
  (results fn tmps).run P w=.ok (.tuple #[v0,.agg cs,v,v2]) w:=by
 have hp':tmps[p]?.getD undef=.pointer (some a):=by simpa using hp
 have hv0':tmps[s]?.getD undef=v0:=by simpa using hv0
 have hv':tmps[t]?.getD undef=v:=by simpa using hv
 have hv2':tmps[u]?.getD undef=v2:=by simpa using hv2
 have hl:(loadVar ty a).run P w=.ok (.agg cs) w:=by
  simp[loadVar,hA,hs,zv w a n hok,hrd]
 simp[results,h,hp',hv0',hv',hv2',asAddr,hl]
theorem xU4 (W:World)(b:Nat)(g f g' f' g1 f1:Int)(x:Option Addr)(m k:Nat)(v' v1:Value)(h:W.heap[b]?=some (.cells (xX g' f' v' ++ xX g1 f1 v1).toArray 204 (0,0))) :
  ym Tryz.prog 131 W (.pointer (some ⟨b,0,none⟩)) (.agg #[.int .i64 g,.int .i64 f,.slice x m k,.int .i64 0])=.ok .skip (W.setRow b #[.int .i64 g,.int .i64 f,.slice x m k,.int .i64 0,.int .i64 g1,.int .i64 f1,v1,.int .i64 0]):=by
 have:=jr Tryz.sizeOf131 W b 0 _ _ h (xX g f (.slice x m k)) rfl (by simp[xX]) (fun y hy=>by simp[xX] at hy;rcases hy with rfl | rfl | rfl | rfl <;> rfl)
 exact this
theorem xU3 (W:World)(b:Nat)(g f g' f' g0 f0:Int)(x:Option Addr)(m k:Nat)(v' v0:Value)(h:W.heap[b]?=some (.cells (xX g0 f0 v0++xX g' f' v').toArray 204 (0,0))) :
  ym Tryz.prog 131 W (.pointer (some ⟨b,4,none⟩)) (.agg #[.int .i64 g,.int .i64 f,.slice x m k,.int .i64 0])=.ok .skip (W.setRow b #[.int .i64 g0,.int .i64 f0,v0,.int .i64 0,.int .i64 g,.int .i64 f,.slice x m k,.int .i64 0]):=by
 have:=jr Tryz.sizeOf131 W b 4 _ _ h (xX g f (.slice x m k)) rfl (by simp[xX]) (fun y hy=>by simp[xX] at hy;rcases hy with rfl | rfl | rfl | rfl <;> rfl)
 exact this
def ArC (b:Nat)(cs:Array Value):Type:={ z:World // z.heap[b]?=some (.cells cs 204 (0,0)) }
theorem ArC.rd0 {b:Nat}{a1 a2 a3 a4 b1 b2 b3 b4:Value}(z:ArC b #[a1,a2,a3,a4,b1,b2,b3,b4]):xq z.1 ⟨b,0,none⟩ 4=true∧xp z.1 ⟨b,0,none⟩ 4=#[a1,a2,a3,a4]:=by
 have:=y7 (w:=z.1) (a:=⟨b,0,none⟩) (cs:=[a1,a2,a3,a4]) (fun j v hj=>by
  rw[Addr.add_lit,cell_of_row _ _ _ _ _ _ z.2]
  match j,hj with
  | 0,hj=>exact hj
  | 1,hj=>exact hj
  | 2,hj=>exact hj
  | 3,hj=>exact hj)
 exact this
theorem ArC.rd4 {b:Nat}{a1 a2 a3 a4 b1 b2 b3 b4:Value}(z:ArC b #[a1,a2,a3,a4,b1,b2,b3,b4]):xq z.1 ⟨b,4,none⟩ 4=true∧xp z.1 ⟨b,4,none⟩ 4=#[b1,b2,b3,b4]:=by
 have:=y7 (w:=z.1) (a:=⟨b,4,none⟩) (cs:=[b1,b2,b3,b4]) (fun j v hj=>by
  rw[Addr.add_lit,cell_of_row _ _ _ _ _ _ z.2]
  match j,hj with
  | 0,hj=>exact hj
  | 1,hj=>exact hj
  | 2,hj=>exact hj
  | 3,hj=>exact hj)
 exact this
theorem xDf {D:Nat}{w:World}{v:Dev}{d:PD}(h:yj D w v d)(hd:d.down=false)(hK:qF w)(hn8:8≤d.n) :
  Calls Tryz.prog 55 #[.agg (xE v.p d.n)] w (xIt d w):=by
 obtain⟨w1,hw1⟩:∃ w1,w1=((w.alloc (.cells (xE v.p d.n) 128)).alloc (.cells zSta 131)).alloc (.cells (xX 0 0 (.slice none 0 0)++xX 0 0 (.slice none 0 0)).toArray 204):=⟨_,rfl⟩
 have hst:CuSt w v.p d.n d (xX 0 0 (.slice none 0 0)++xX 0 0 (.slice none 0 0)) w1:=by
  rw[hw1]
  refine⟨(((Below.refl _ _).alloc (Nat.le_refl _) _).alloc (by simp) _).alloc (by simp;omega) _,?_,?_,?_⟩
  ·rw[heap_alloc_old _ _ (by simp;omega),heap_alloc_old _ _ (by simp),heap_alloc_new]
  ·have:=heap_alloc_new (w.alloc (.cells (xE v.p d.n) 128)) (.cells zSta 131)
   rw[World.size_alloc] at this
   rw[heap_alloc_old _ _ (by simp),this]
  ·have:=heap_alloc_new ((w.alloc (.cells (xE v.p d.n) 128)).alloc (.cells zSta 131)) (.cells (xX 0 0 (.slice none 0 0)++xX 0 0 (.slice none 0 0)).toArray 204)
   rw[World.size_alloc,World.size_alloc] at this
   exact this
 have HST:=h_ hst
 have HLD:Hid (∀ (W:World) (area:Nat),area<2→Below w.heap.size w W→Calls Tryz.prog 96 #[.agg (xE v.p d.n),.int .i64 area] W (xBp d area W)):=h_ fun W area ha hb=>xUn (h.below hb) hd (hK.below hb (Nat.le_refl _)) area ha hn8
 obtain⟨n,hn⟩:∃ n,n=d.n:=⟨_,rfl⟩
 rw[←hn] at hw1 HST HLD ⊢
 have HN:=h_ hn
 unfold xE at hw1 HLD ⊢
 unfold xX zSta at hw1
 simp only[List.cons_append,List.nil_append] at hw1
 clear hst h hd hK hn8 hn
 go_enter Tryz.func55,Tryz.ntmps55
 go_upto_region 2 with fail
 refine xu hw1 ?_
 clear hw1
 go_wp2
 go_loopw [9,2,4] (fun iv av fv wr =>
  (iv=.int .i64 0∧av=.int .i64 0∧fv=.bool false∧Hid (CuSt w v.p n d (xX 0 0 (.slice none 0 0)++xX 0 0 (.slice none 0 0)) wr)) ∨
  (iv=.int .i64 1∧av=.int .i64 0∧∃ c0 g0 f0 v0,fv=.bool c0∧Hid (CuSt w v.p n d (xX g0 f0 v0++xX 0 0 (.slice none 0 0)) wr∧uP wr (w.heap.size+3) c0 (zg sha 0 (d.area d.n 0)) g0 f0 v0)) ∨
  (iv=.int .i64 2∧∃ c0 g0 f0 v0 c1 g1 f1 v1,((av=.int .i64 0∧fv=.bool c0∧Hid ((c1 && (!c0 || decide ((g0:Int)<g1)))=false))∨(av=.int .i64 1∧fv=.bool true∧Hid ((c1 && (!c0 || decide ((g0:Int)<g1)))=true))) ∧
   Hid (CuSt w v.p n d (xX g0 f0 v0++xX g1 f1 v1) wr∧uP wr (w.heap.size+3) c0 (zg sha 0 (d.area d.n 0)) g0 f0 v0∧uP wr (w.heap.size+3) c1 (zg sha 1 (d.area d.n 1)) g1 f1 v1))) (fun iv _ _ _=>2-(intOf iv).toNat)
 case atStart=>exact .inl ⟨rfl,rfl,rfl,HST⟩
 case round =>
  rcases hrel with⟨rfl,rfl,rfl,HS⟩ | ⟨rfl,rfl,c0,g0,f0,v0,rfl,HS⟩ | ⟨rfl,c0,g0,f0,v0,c1,g1,f1,v1,hav,HS⟩
  ·have r0:=xI (n:=3) HS.out.st rfl
   have q1:=r0.1
   have q2:=r0.2
   unfold xE at q2
   clear r0
   go_wp2_with fail
   refine(HLD.out wr 0 (by omega) HS.out.bel).mono ?_
   rintro e w2 hpost
   obtain⟨hb2,g0,f0,x,m,k,c0,rfl,hso⟩:=xOy hpost
   have hcu:=HS.out.load hb2
   have hstx:=xU4 w2 _ g0 f0 0 0 0 0 x m k _ _ hcu.areas
   have hw3:w.heap.size+1+1<wr.heap.size:=(i_ HS.out.areas).1
   have HCU:=h_ (hcu.set (xX g0 f0 (.slice x m k)++xX 0 0 (.slice none 0 0)))
   have HSO:=h_ ((hso.base (B':=w.heap.size+3) (by omega)).under (W':=w2.setRow (w.heap.size+1+1) (xX g0 f0 (.slice x m k)++xX 0 0 (.slice none 0 0)).toArray) fun j hj _=>setRow_other _ _ _ _ (by omega))
   unfold xX at HCU HSO
   simp only[List.cons_append,List.nil_append] at HCU HSO
   obtain⟨w3,hw3'⟩:∃ w3,w3=w2.setRow (w.heap.size+1+1) #[.int .i64 g0,.int .i64 f0,.slice x m k,.int .i64 0,.int .i64 0,.int .i64 0,.slice none 0 0,.int .i64 0]:=⟨_,rfl⟩
   clear hcu hso hpost hb2 q1 q2 hw3
   go_upto_region 7 with fail
   refine xu hw3' ?_
   rw[←hw3'] at HCU HSO
   clear hw3' hstx
   go_upto_region 9 with fail
   cases c0 with
   | false =>
    go_quiet (fail)
    have HCU2:Hid (CuSt w v.p n d (xX g0 f0 (.slice x m k)++xX 0 0 (.slice none 0 0)) (w3.drewN nq)∧uP (w3.drewN nq) (w.heap.size+3) false (zg sha 0 (d.area d.n 0)) g0 f0 (.slice x m k)):=h_ ⟨CuSt.load HCU.out (xU (Below.refl _ _) nq),HSO.out.under fun j _ hj=>(xU (Below.refl _ w3) nq).block j hj⟩
    go_wp2
    go_roundw
    case rel=>exact .inr (.inl ⟨rfl,rfl,false,g0,f0,.slice x m k,rfl,HCU2⟩)
    case measure=>simp[intOf]
   | true =>
    go_quiet (fail)
    have HCU2:Hid (CuSt w v.p n d (xX g0 f0 (.slice x m k)++xX 0 0 (.slice none 0 0)) (w3.drewN nq)∧uP (w3.drewN nq) (w.heap.size+3) true (zg sha 0 (d.area d.n 0)) g0 f0 (.slice x m k)):=h_ ⟨CuSt.load HCU.out (xU (Below.refl _ _) nq),HSO.out.under fun j _ hj=>(xU (Below.refl _ w3) nq).block j hj⟩
    go_wp2
    go_roundw
    case rel=>exact .inr (.inl ⟨rfl,rfl,true,g0,f0,.slice x m k,rfl,HCU2⟩)
    case measure=>simp[intOf]
  ·have r0:=xI (n:=3) HS.out.1.st rfl
   have q1:=r0.1
   have q2:=r0.2
   unfold xE at q2
   obtain⟨x0,m0,k0,hv0⟩:=HS.out.2.1
   clear r0
   go_wp2_with fail
   refine(HLD.out wr 1 (by omega) HS.out.1.bel).mono ?_
   rintro e w2 hpost
   obtain⟨hb2,g1,f1,x,m,k,c1,rfl,hso⟩:=xOy hpost
   have hcu:=HS.out.1.load hb2
   have hstx:=xU3 w2 _ g1 f1 0 0 g0 f0 x m k _ _ hcu.areas
   have hw3:w.heap.size+1+1<wr.heap.size:=(i_ HS.out.1.areas).1
   have HCU:=h_ (hcu.set (xX g0 f0 v0++xX g1 f1 (.slice x m k)))
   have HSO:=h_ ((hso.base (B':=w.heap.size+3) (by omega)).under (W':=w2.setRow (w.heap.size+1+1) (xX g0 f0 v0++xX g1 f1 (.slice x m k)).toArray) fun j hj _=>setRow_other _ _ _ _ (by omega))
   have HS0:=h_ ((HS.out.2.under (W':=w2) fun j _ hj=>hb2.block j hj).under (W':=w2.setRow (w.heap.size+1+1) (xX g0 f0 v0++xX g1 f1 (.slice x m k)).toArray) fun j hj _=>setRow_other _ _ _ _ (by omega))
   subst hv0
   unfold xX at HCU HSO HS0
   simp only[List.cons_append,List.nil_append] at HCU HSO HS0
   obtain⟨w3,hw3'⟩:∃ w3,w3=w2.setRow (w.heap.size+1+1) #[.int .i64 g0,.int .i64 f0,.slice x0 m0 k0,.int .i64 0,.int .i64 g1,.int .i64 f1,.slice x m k,.int .i64 0]:=⟨_,rfl⟩
   clear hcu hso hpost hb2 q1 q2 hw3
   go_upto_region 7 with fail
   refine xu hw3' ?_
   rw[←hw3'] at HCU HSO HS0
   clear hw3' hstx
   have k0:=cell_of_row w3 (w.heap.size+1+1) 0 _ _ _ HCU.out.areas
   have k4:=cell_of_row w3 (w.heap.size+1+1) 4 _ _ _ HCU.out.areas
   simp only[v_] at k0 k4
   go_upto_region 9 with fail
   cases c1 with
   | false =>
    go_quiet (fail)
    clear k0 k4
    have HCU2:Hid (CuSt w v.p n d (xX g0 f0 (.slice x0 m0 k0)++xX g1 f1 (.slice x m k)) (w3.drewN nq)∧uP (w3.drewN nq) (w.heap.size+3) c0 (zg sha 0 (d.area d.n 0)) g0 f0 (.slice x0 m0 k0)∧uP (w3.drewN nq) (w.heap.size+3) false (zg sha 1 (d.area d.n 1)) g1 f1 (.slice x m k)):=h_ ⟨CuSt.load HCU.out (xU (Below.refl _ _) nq),HS0.out.under fun j _ hj=>(xU (Below.refl _ w3) nq).block j hj,HSO.out.under fun j _ hj=>(xU (Below.refl _ w3) nq).block j hj⟩
    go_wp2
    go_roundw
    case rel=>exact .inr (.inr ⟨rfl,c0,g0,f0,.slice x0 m0 k0,false,g1,f1,.slice x m k,.inl ⟨rfl,rfl,h_ (by simp)⟩,HCU2⟩)
    case measure=>simp[intOf]
   | true =>
    cases c0 with
    | false =>
     go_quiet (fail)
     clear k0 k4
     have HCU2:Hid (CuSt w v.p n d (xX g0 f0 (.slice x0 m0 k0)++xX g1 f1 (.slice x m k)) (w3.drewN nq)∧uP (w3.drewN nq) (w.heap.size+3) false (zg sha 0 (d.area d.n 0)) g0 f0 (.slice x0 m0 k0)∧uP (w3.drewN nq) (w.heap.size+3) true (zg sha 1 (d.area d.n 1)) g1 f1 (.slice x m k)):=h_ ⟨CuSt.load HCU.out (xU (Below.refl _ _) nq),HS0.out.under fun j _ hj=>(xU (Below.refl _ w3) nq).block j hj,HSO.out.under fun j _ hj=>(xU (Below.refl _ w3) nq).block j hj⟩
     go_wp2
     go_roundw
     case rel=>exact .inr (.inr ⟨rfl,false,g0,f0,.slice x0 m0 k0,true,g1,f1,.slice x m k,.inr ⟨rfl,rfl,h_ (by simp)⟩,HCU2⟩)
     case measure=>simp[intOf]
    | true =>
     by_cases hge:g0<g1
     ·have hgd:decide (g0<g1)=true:=decide_eq_true hge
      have HGE:=h_ hge
      go_quiet (fail)
      clear k0 k4 hgd
      have HCU2:Hid (CuSt w v.p n d (xX g0 f0 (.slice x0 m0 k0)++xX g1 f1 (.slice x m k)) (w3.drewN nq)∧uP (w3.drewN nq) (w.heap.size+3) true (zg sha 0 (d.area d.n 0)) g0 f0 (.slice x0 m0 k0)∧uP (w3.drewN nq) (w.heap.size+3) true (zg sha 1 (d.area d.n 1)) g1 f1 (.slice x m k)):=h_ ⟨CuSt.load HCU.out (xU (Below.refl _ _) nq),HS0.out.under fun j _ hj=>(xU (Below.refl _ w3) nq).block j hj,HSO.out.under fun j _ hj=>(xU (Below.refl _ w3) nq).block j hj⟩
      go_wp2
      go_roundw
      case rel=>exact .inr (.inr ⟨rfl,true,g0,f0,.slice x0 m0 k0,true,g1,f1,.slice x m k,.inr ⟨rfl,rfl,h_ (by simp[HGE.out])⟩,HCU2⟩)
      case measure=>simp[intOf]
     ·have hgd:decide (g0<g1)=false:=decide_eq_false hge
      have HGE:=h_ hge
      go_quiet (fail)
      clear k0 k4 hgd
      have HCU2:Hid (CuSt w v.p n d (xX g0 f0 (.slice x0 m0 k0)++xX g1 f1 (.slice x m k)) (w3.drewN nq)∧uP (w3.drewN nq) (w.heap.size+3) true (zg sha 0 (d.area d.n 0)) g0 f0 (.slice x0 m0 k0)∧uP (w3.drewN nq) (w.heap.size+3) true (zg sha 1 (d.area d.n 1)) g1 f1 (.slice x m k)):=h_ ⟨CuSt.load HCU.out (xU (Below.refl _ _) nq),HS0.out.under fun j _ hj=>(xU (Below.refl _ w3) nq).block j hj,HSO.out.under fun j _ hj=>(xU (Below.refl _ w3) nq).block j hj⟩
      go_wp2
      go_roundw
      case rel=>exact .inr (.inr ⟨rfl,true,g0,f0,.slice x0 m0 k0,true,g1,f1,.slice x m k,.inl ⟨rfl,rfl,h_ (by simp[HGE.out])⟩,HCU2⟩)
      case measure=>simp[intOf]
  ·obtain⟨x0,m0,k0,hv0⟩:=HS.out.2.1.1
   obtain⟨x,m,k,hv1⟩:=HS.out.2.2.1
   subst hv0
   subst hv1
   have HAR:=h_ HS.out.1.areas
   have HRS:=h_ HS.out.1.res
   have HBL:=h_ HS.out.1.bel
   have HFIN:=h_ (xZj HS.out.2.1 HS.out.2.2)
   unfold xX at HAR
   simp only[List.cons_append,List.nil_append] at HAR
   rcases hav with⟨rfl,rfl,hcm⟩ | ⟨rfl,rfl,hcm⟩
   ·go_upto_region 12 with fail
    have z1:∀ z:ArC (w.heap.size+1+1) #[.int .i64 g0,.int .i64 f0,.slice x0 m0 k0,.int .i64 0,.int .i64 g1,.int .i64 f1,.slice x m k,.int .i64 0],xq z.1 ⟨w.heap.size+1+1,0,none⟩ 4=true:=fun z=>(ArC.rd0 z).1
    have z2:∀ z:ArC (w.heap.size+1+1) #[.int .i64 g0,.int .i64 f0,.slice x0 m0 k0,.int .i64 0,.int .i64 g1,.int .i64 f1,.slice x m k,.int .i64 0],xp z.1 ⟨w.heap.size+1+1,0,none⟩ 4=#[.int .i64 g0,.int .i64 f0,.slice x0 m0 k0,.int .i64 0]:=fun z=>(ArC.rd0 z).2
    haveI:Nonempty (ArC (w.heap.size+1+1) #[.int .i64 g0,.int .i64 f0,.slice x0 m0 k0,.int .i64 0,.int .i64 g1,.int .i64 f1,.slice x m k,.int .i64 0]):=⟨⟨wr,HAR.out⟩⟩
    refine xw [0,1,2,3,4] [5,6,7,8] (fun w'=>∃ z:ArC (w.heap.size+1+1) #[.int .i64 g0,.int .i64 f0,.slice x0 m0 k0,.int .i64 0,.int .i64 g1,.int .i64 f1,.slice x m k,.int .i64 0],w'=z.1) (by kernel_rfl) (by kernel_rfl) (by kernel_rfl) ⟨⟨wr.drew,HAR.out⟩,rfl⟩ ?_
    simp only[o_]
    repeat (go_big_quiet_step (fail))
    refine wpQuiet_nil ?_
    clear z1 z2
    refine yz true (by kernel_rfl) (by kernel_rfl) ?_
    simp only[o_]
    go_wp2
    have hro:xP wr.drew (w.heap.size+1) 4=true:=by unfold xP;rw[show wr.drew.heap=wr.heap from rfl,HRS.out];rfl
    have hfs:=vE g0 f0 (.slice x0 m0 k0) 0 rfl
    have hcl:(wr.drew.setRow (w.heap.size+1) #[.int .i64 g0,.int .i64 f0,.slice x0 m0 k0,.int .i64 0]).heap[w.heap.size+1+1]?=some (.cells #[.int .i64 g0,.int .i64 f0,.slice x0 m0 k0,.int .i64 0,.int .i64 g1,.int .i64 f1,.slice x m k,.int .i64 0] 204 (0,0)):=(setRow_other _ _ _ _ (by omega)).trans HAR.out
    refine⟨fun _=>⟨⟨wr.drew,HAR.out⟩,rfl⟩,yz true (by kernel_rfl) (by kernel_rfl) ?_⟩
    simp only[o_]
    go_wp2
    refine⟨fun _=>⟨⟨_,hcl⟩,rfl⟩,xG [7,8] _ _ (by kernel_rfl) ?_⟩
    simp only[o_]
    go_wp2
    refine NoPanic.normal ?_
    have hbf:=h_ (xJ HBL.out.drew (show w.heap.size≤w.heap.size+1 by omega) #[.int .i64 g0,.int .i64 f0,.slice x0 m0 k0,.int .i64 0])
    have HR:=h_ (xI (n:=4) (setRow_heap wr.drew (w.heap.size+1) _ #[.int .i64 g0,.int .i64 f0,.slice x0 m0 k0,.int .i64 0] _ _ HRS.out) rfl)
    clear hro hcl hfs
    go_wp2
    obtain⟨ha,hs⟩:=HFIN.out.2 hcm.out
    exact bodyPost_ret (v:=.tuple #[.int .i64 0,.agg #[.int .i64 g0,.int .i64 f0,.slice x0 m0 k0,.int .i64 0],.bool c0,.int .i64 0]) (xWk rfl Tryz.isAgg131 Tryz.sizeOf131 _ _ ⟨w.heap.size+1,0,none⟩ _ _ _ _ rfl rfl rfl rfl HR.out.1 HR.out.2) rfl ⟨hbf.out,0,g0,f0,.slice x0 m0 k0,c0,rfl,ha,(hs.under (W':=(wr.setRow (w.heap.size+1) #[.int .i64 g0,.int .i64 f0,.slice x0 m0 k0,.int .i64 0]).drew) fun j hj _=>setRow_other _ _ _ _ (by omega)).base (by omega)⟩
   ·go_upto_region 12 with fail
    have z1:∀ z:ArC (w.heap.size+1+1) #[.int .i64 g0,.int .i64 f0,.slice x0 m0 k0,.int .i64 0,.int .i64 g1,.int .i64 f1,.slice x m k,.int .i64 0],xq z.1 ⟨w.heap.size+1+1,4,none⟩ 4=true:=fun z=>(ArC.rd4 z).1
    have z2:∀ z:ArC (w.heap.size+1+1) #[.int .i64 g0,.int .i64 f0,.slice x0 m0 k0,.int .i64 0,.int .i64 g1,.int .i64 f1,.slice x m k,.int .i64 0],xp z.1 ⟨w.heap.size+1+1,4,none⟩ 4=#[.int .i64 g1,.int .i64 f1,.slice x m k,.int .i64 0]:=fun z=>(ArC.rd4 z).2
    haveI:Nonempty (ArC (w.heap.size+1+1) #[.int .i64 g0,.int .i64 f0,.slice x0 m0 k0,.int .i64 0,.int .i64 g1,.int .i64 f1,.slice x m k,.int .i64 0]):=⟨⟨wr,HAR.out⟩⟩
    refine xw [0,1,2,3,4] [5,6,7,8] (fun w'=>∃ z:ArC (w.heap.size+1+1) #[.int .i64 g0,.int .i64 f0,.slice x0 m0 k0,.int .i64 0,.int .i64 g1,.int .i64 f1,.slice x m k,.int .i64 0],w'=z.1) (by kernel_rfl) (by kernel_rfl) (by kernel_rfl) ⟨⟨wr.drew,HAR.out⟩,rfl⟩ ?_
    simp only[o_]
    repeat (go_big_quiet_step (fail))
    refine wpQuiet_nil ?_
    clear z1 z2
    refine yz true (by kernel_rfl) (by kernel_rfl) ?_
    simp only[o_]
    go_wp2
    have hro:xP wr.drew (w.heap.size+1) 4=true:=by unfold xP;rw[show wr.drew.heap=wr.heap from rfl,HRS.out];rfl
    have hfs:=vE g1 f1 (.slice x m k) 0 rfl
    have hcl:(wr.drew.setRow (w.heap.size+1) #[.int .i64 g1,.int .i64 f1,.slice x m k,.int .i64 0]).heap[w.heap.size+1+1]?=some (.cells #[.int .i64 g0,.int .i64 f0,.slice x0 m0 k0,.int .i64 0,.int .i64 g1,.int .i64 f1,.slice x m k,.int .i64 0] 204 (0,0)):=(setRow_other _ _ _ _ (by omega)).trans HAR.out
    refine⟨fun _=>⟨⟨wr.drew,HAR.out⟩,rfl⟩,yz true (by kernel_rfl) (by kernel_rfl) ?_⟩
    simp only[o_]
    go_wp2
    refine⟨fun _=>⟨⟨_,hcl⟩,rfl⟩,xG [7,8] _ _ (by kernel_rfl) ?_⟩
    simp only[o_]
    go_wp2
    refine NoPanic.normal ?_
    have hbf:=h_ (xJ HBL.out.drew (show w.heap.size≤w.heap.size+1 by omega) #[.int .i64 g1,.int .i64 f1,.slice x m k,.int .i64 0])
    have HR:=h_ (xI (n:=4) (setRow_heap wr.drew (w.heap.size+1) _ #[.int .i64 g1,.int .i64 f1,.slice x m k,.int .i64 0] _ _ HRS.out) rfl)
    clear hro hcl hfs
    go_wp2
    obtain⟨ha,hs⟩:=HFIN.out.1 hcm.out
    exact bodyPost_ret (v:=.tuple #[.int .i64 1,.agg #[.int .i64 g1,.int .i64 f1,.slice x m k,.int .i64 0],.bool true,.int .i64 0]) (xWk rfl Tryz.isAgg131 Tryz.sizeOf131 _ _ ⟨w.heap.size+1,0,none⟩ _ _ _ _ rfl rfl rfl rfl HR.out.1 HR.out.2) rfl ⟨hbf.out,1,g1,f1,.slice x m k,true,rfl,ha,(hs.under (W':=(wr.setRow (w.heap.size+1) #[.int .i64 g1,.int .i64 f1,.slice x m k,.int .i64 0]).drew) fun j hj _=>setRow_other _ _ _ _ (by omega)).base (by omega)⟩
end
theorem xF3:∀ (l l':List By) (d:PD) (a:Nat),d.Up→(d.puts a (l++l')).1=((d.puts a l).1.puts (a+l.length) l').1
 | [],l',d,a,h=>rfl
 | c :: l,l',d,a,h=>by
  have h2:PD.Up { d with pend:=d.pend++[(a,c)] }:=h
  have ih:=xF3 l l' _ (a+1) h2
  simp only[List.cons_append,PD.puts,PD.write_up h]
  rw[ih]
  have:a+1+l.length=a+(c :: l).length:=by simp only[List.length_cons];omega
  rw[this]
theorem qF.kept {w w':World}{F:List Nat}(h:qF w)(hk:Kept F w w')(hF:∀ k∈F,2<k):qF w' :=
 ⟨fun t ht=>by
  have h1:=h.tab t ht
  unfold World.cell? at h1 ⊢
  rw[hk.block _ (Sk.lt h) (fun hm=>Nat.lt_irrefl _ (hF _ hm))]
  exact h1⟩
theorem xPd {gen:Int}:∀ {l:List PRec} {k:Int},xLb gen k l→∀ r∈l,r.Ok
 | r :: l,k,h,x,hx=>by
  rcases List.mem_cons.1 hx with rfl | hx
  ·exact h.1
  ·exact xPd h.2.2.2 x hx
theorem xGb {rest:List Oper}{ops:Array Oper}{o:Oper}{a:Act}{Q:Exit→Act→World→Prop}{w:World}(hgd:o.guard=none)(s x:Operand)
  (ho:o.op=.call { callee:=.builtin .append,args:=#[s,x],argTypes:=#[223,223] }) (B:Nat) (v:Value) (l:List (PRec × Value)) (hs:a.eval s=v) (hrc:RcAt w B v l)
  (r:PRec × Value) (hr:OwnB w B r.2 r.1.pay∧r.2≠.slice none 0 0∧∀ k,r.2.ownBlock=some k→v.ownBlock≠some k) (hone:r.2.oneCell'=true) (ad:Addr) (hx:a.eval x=.slice (some ad) 1 1)
  (hc:∀ j u,(y8 r.1.kind r.1.gen r.1.num r.2)[j]?=some u→w.cell? (ad.add j)=some u) (hlen:l.length≤1000000) (hB:B≤w.heap.size)
  (h:∀ v' w',RcAt w' B v' (l++[r])→w.grownBy w' v.ownBlock→(v'.ownBlock=v.ownBlock∨v'.ownBlock=some w.heap.size)→wpList Tryz.prog ops Q rest (a.put o.dst v') w'):wpList Tryz.prog ops Q (o :: rest) a w:=by
 obtain⟨i0,hi,hz0,hz1,hz2⟩:=info_parts Tryz.info_rec
 refine wpList_append_own_at w hgd s x 223 ho B 222 i0 (.agg #[.int .i64 0,.int .i64 0,.int .i64 0,.slice none 0 0]) 4 48 Tryz.underlying223 hi hz0 hz1 hz2 rfl (by decide) v l.length (zS l) hs hrc.own ad 1 1 (y8 r.1.kind r.1.gen r.1.num r.2) hx rfl hc (fun u hu=>?_) (by unfold maxLen;omega) (by omega) hB fun v' w' h1 h2 _ h4=>?_
 ·simp only[y8,List.mem_cons,List.not_mem_nil,or_false] at hu
  rcases hu with rfl | rfl | rfl | rfl <;> first | rfl | exact hone
 ·refine h v' w' (hrc.app h1 h2 hr fun k hk=>?_) h2 h4
  rcases h4 with h | h
  ·exact .inl (h ▸ hk)
  ·right;rw[h] at hk;injection hk with hk;omega
theorem RcAt.one {w:World}{B g:Nat}(r:PRec × Value)(hrow:w.heap[g]?=some (.cells (y8 r.1.kind r.1.gen r.1.num r.2).toArray 222 (0,0)))(hB:B≤g)
  (hr:OwnB w B r.2 r.1.pay∧r.2≠.slice none 0 0∧∀ k,r.2.ownBlock=some k→k≠g):RcAt w B (.slice (some ⟨g,0,none⟩) 1 1) [r]:=by
 refine⟨⟨by simp[zS,y8],.inr ⟨g,1,_,rfl,hB,hrow,Nat.le_refl _,by decide,rfl,by simp[zS,y8]⟩⟩,fun x hx=>?_⟩
 rw[List.mem_singleton.1 hx]
 exact⟨hr.1,hr.2.1,fun k hk e=>hr.2.2 k hk (by simpa[Value.ownBlock] using e.symm)⟩
theorem xH4 {w w':World}{B t s n x T:Nat}{v:Value}{xs:List Value}{cs:Array Value}(h:w.ownsRow B t s v n xs)(hx:w.heap[x]?=some (.cells cs T (0,0)))(ht:T≠t)(hb:∀ g,B≤g→g<w.heap.size→g≠x→w'.heap[g]?=w.heap[g]?):w'.ownsRow B t s v n xs:=by
 refine⟨h.1,?_⟩
 rcases h.2 with h0 | ⟨g,cap,cur,hv,hg,hcur,r⟩
 ·exact .inl h0
 ·refine .inr ⟨g,cap,cur,hv,hg,(hb g hg (i_ hcur).1 (fun e=>?_)).trans hcur,r⟩
  subst e
  rw[hx] at hcur
  simp at hcur
  exact ht hcur.2
theorem RcAt.underX {w w':World}{B x T:Nat}{v:Value}{l:List (PRec × Value)}{cs:Array Value}(h:RcAt w B v l)(hx:w.heap[x]?=some (.cells cs T (0,0)))(ht:T≠222)(ht2:T≠5)(hb:∀ g,B≤g→g<w.heap.size→g≠x→w'.heap[g]?=w.heap[g]?):RcAt w' B v l :=
 ⟨xH4 h.own hx ht hb,fun y hy=>⟨xH4 (h.el y hy).1 hx ht2 hb,(h.el y hy).2⟩⟩
def jO (gen first carried:Nat)(hv:Value)(L:List By)(vs:List Value)(k:Nat):List (PRec × Value):=(qC gen first carried,hv) :: (uT gen 1 (L.take k)).zip (vs.take k)
theorem xRg (gen first carried:Nat)(hv:Value)(L:List By)(vs:List Value):jO gen first carried hv L vs 0=[(qC gen first carried,hv)]:=rfl
theorem xD1 {gen first carried:Nat}{hv:Value}{L:List By}{vs:List Value}{k:Nat}(hl:vs.length=L.length)(hk:k≤L.length):(jO gen first carried hv L vs k).length=k+1:=by
 simp[jO,vQ,hl];omega
theorem xRh {gen first carried:Nat}{hv:Value}{L:List By}{vs:List Value}{k:Nat}(hl:vs.length=L.length)(hk:k<L.length) :
  jO gen first carried hv L vs (k+1)=jO gen first carried hv L vs k++[(⟨2,gen,((1+k:Nat):Int),L[k]⟩,vs[k]'(by rw[hl];exact hk))]:=by
 unfold jO
 rw[List.take_succ_eq_append_getElem hk,List.take_succ_eq_append_getElem (by rw[hl];exact hk),xB7,List.length_take,Nat.min_eq_left (Nat.le_of_lt hk),List.zip_append (by simp[vQ,hl])]
 rfl
theorem xUf {gen first carried:Nat}{hv:Value}{L:List By}{vs:List Value}(hl:vs.length=L.length):(jO gen first carried hv L vs L.length).map Prod.fst=vB gen first carried L:=by
 unfold jO vB
 rw[List.map_cons,List.take_length,←hl,List.take_length]
 congr 1
 exact List.map_fst_zip (by rw[vQ,hl];exact Nat.le_refl _)
noncomputable def qY (R:List PRec)(k:Nat):Nat:=((R.take k).flatMap (yf sha)).length
theorem xQu (R:List PRec)(k:Nat)(hk:k<R.length):qY R (k+1)=qY R k+xY R[k].pay.length:=by
 unfold qY
 rw[List.take_succ_eq_append_getElem hk,List.flatMap_append,List.length_append]
 congr 1
 rw[List.flatMap_singleton,zy]
theorem xVv (R:List PRec)(k:Nat):qY R k≤(R.flatMap (yf sha)).length:=by
 unfold qY
 conv=>rhs;rw[←List.take_append_drop k R,List.flatMap_append,List.length_append]
 omega
theorem xUg {d:PD}(h:d.Up)(base:Nat)(R:List PRec)(k:Nat)(hk:k<R.length):(d.puts base ((R.take (k+1)).flatMap (yf sha))).1=((d.puts base ((R.take k).flatMap (yf sha))).1.puts (base+qY R k) (yf sha R[k])).1:=by
 rw[List.take_succ_eq_append_getElem hk,List.flatMap_append,xF3 _ _ _ _ h,List.flatMap_singleton]
 rfl
section
attribute [local go_sem ↓] qQ qq zN zz j3 vh
attribute [local go_sem] xEh xE4 kg kd xHl xGk zt zw yD yC xj xh xe xd xA xz xo xl xt xC xx
def xA3 (D:Nat)(v:Dev)(d:PD)(j:PJ)(ev:Value)(w:World)(e:Ending)(w':World):Prop :=
 e=.returned (.tuple #[.agg #[.int .i64 j.gen,.int .i64 j.first,ev,.int .i64 (j.secs sha).length],.int .i64 0])∧Kept v.foot w w'∧∃ v',v'.p=v.p∧v'.M=v.M∧yj D w' v' (d.puts (j.area*(d.n / 2)) (j.secs sha)).1.flushed∧∀ k∈v'.foot,k∈v.foot∨w.heap.size≤k
structure WcSt (w:World)(B:Nat)(p n:Nat)(gen first:Nat)(ev hv:Value)(L:List By)(vs:List Value)(k:Nat)(rv:Value)(W:World):Prop where
 bel:Below w.heap.size w W
 st:W.heap[w.heap.size]?=some (.cells (xE p n) 128 (0,0))
 res:W.heap[w.heap.size+1]?=some (.cells zSta 131 (0,0))
 x:W.heap[w.heap.size+1+1]?=some (.cells #[.int .i64 gen,.int .i64 first,ev,.int .i64 0] 131 (0,0))
 rc:RcAt W B rv (jO gen first L.length hv L vs k)
 rb:∀ j,rv.ownBlock=some j→w.heap.size+3≤j
theorem EnAt.val {w:World}{B g n cap:Nat}{L:List By}{vs:List Value}{x:Value}(h:EnAt w B (.slice (some ⟨g,0,none⟩) n cap) L vs)(i:Nat)(hi:i<L.length)(hn:n=L.length)(hc:w.cell? ⟨g,i,none⟩=some x):vs[i]'(by rw[h.len];exact hi)=x:=by
 subst hn
 have:=World.ownsRow.cellAt h.own i (by omega)
 rw[hc,List.getElem?_eq_getElem (by rw[h.len];exact hi)] at this
 exact(Option.some.inj this).symm
theorem WcSt.next {w:World}{B p n gen first:Nat}{ev hv:Value}{L:List By}{vs:List Value}{k:Nat}{rv v':Value}{W Wa W':World}(h:WcSt w B p n gen first ev hv L vs k rv W)(hba:Below W.heap.size W Wa)(hg:Wa.grownBy W' rv.ownBlock)
  (hrc:RcAt W' B v' (jO gen first L.length hv L vs (k+1))) (hv':v'.ownBlock=rv.ownBlock∨v'.ownBlock=some Wa.heap.size):WcSt w B p n gen first ev hv L vs (k+1) v' W':=by
 have hs:=(i_ h.x).1
 have hk:∀ g,g<w.heap.size+3→g<W.heap.size→W'.heap[g]?=W.heap[g]?:=fun g hg1 hg2=>(hg.block g (Nat.lt_of_lt_of_le hg2 hba.size) (fun e=>by have:=h.rb g e.symm;omega)).trans (hba.block g hg2)
 refine⟨(h.bel.trans (hba.mono h.bel.size)).grown hg (by have:=h.bel.size;have:=hba.size;omega) (fun j e=>by have:=h.rb j e;omega),(hk _ (by omega) (by omega)).trans h.st,(hk _ (by omega) (by omega)).trans h.res,(hk _ (by omega) (by omega)).trans h.x,hrc,fun j e=>?_⟩
 rcases hv' with h1 | h1
 ·exact h.rb j (h1 ▸ e)
 ·rw[h1] at e;have:=Option.some.inj e;have:=hba.size;omega
theorem qd (w:World)(g:Nat)(cs:Array Value):Kept [g] w (w.setRow g cs):=⟨rfl,rfl,rfl,by simp[World.setRow],fun k _ hn=>setRow_other _ _ _ _ (by simpa using hn)⟩
theorem xPj {d:PD}(h:d.Up):d.flush=(d.flushed,true):=by simp[PD.flush,PD.oper,h.1,h.2]
structure WpSt (D B:Nat)(w w4:World)(v:Dev)(d:PD)(gen first:Nat)(ev:Value)(base:Nat)(R:List PRec)(k:Nat)(W:World):Prop where
 kept:Kept v.foot w W
 mid:∀ g,B≤g→g<w4.heap.size→g≠w.heap.size+1+1→W.heap[g]?=w4.heap[g]?
 sz:w4.heap.size≤W.heap.size
 x:W.heap[w.heap.size+1+1]?=some (.cells #[.int .i64 gen,.int .i64 first,ev,.int .i64 (qY R k)] 131 (0,0))
 at':∃ v',v'.p=v.p∧v'.M=v.M∧yj D W v' (d.puts base ((R.take k).flatMap (yf sha))).1∧∀ j∈v'.foot,j∈v.foot∨w4.heap.size≤j
theorem WpSt.next {D B:Nat}{w w4:World}{v v1 v2:Dev}{d:PD}{gen first:Nat}{ev:Value}{base:Nat}{R:List PRec}{k:Nat}{W W5 W7:World}(h:WpSt D B w w4 v d gen first ev base R k W)(hB:B≤w.heap.size)(hsep:∀ k∈v.foot,k<B)(h4:w.heap.size+3≤w4.heap.size)
  (hb:Below W.heap.size W W5) (hf1:∀ j∈v1.foot,j∈v.foot∨w4.heap.size≤j) (hk:Kept v1.foot W5 W7) (hp:v2.p=v.p) (hM:v2.M=v.M) (hd:yj D W7 v2 (d.puts base ((R.take (k+1)).flatMap (yf sha))).1) (hf2:∀ j∈v2.foot,j∈v1.foot∨W5.heap.size≤j) :
  W7.heap[w.heap.size+1+1]?=some (.cells #[.int .i64 gen,.int .i64 first,ev,.int .i64 (qY R k)] 131 (0,0)) ∧
  WpSt D B w w4 v d gen first ev base R (k+1) (W7.setCell ⟨w.heap.size+1+1,3,none⟩ (.int .i64 (qY R (k+1)))):=by
 have hnot:∀ g,B≤g→g<w4.heap.size→g ∉ v1.foot:=fun g hg1 hg2 hm=>by
  rcases hf1 g hm with h | h
  ·have:=hsep g h;omega
  ·omega
 have hsz:=h.sz
 have hblk:∀ g,B≤g→g<w4.heap.size→W7.heap[g]?=W.heap[g]?:=fun g hg1 hg2=>(hk.block g (Nat.lt_of_lt_of_le hg2 (Nat.le_trans hsz hb.size)) (hnot g hg1 hg2)).trans (hb.block g (Nat.lt_of_lt_of_le hg2 hsz))
 have hx7:=(hblk (w.heap.size+1+1) (by omega) (by omega)).trans h.x
 have hft:∀ j∈v2.foot,j∈v.foot∨w4.heap.size≤j:=fun j hj=>by
  rcases hf2 j hj with h1 | h1
  ·exact hf1 j h1
  ·exact .inr (Nat.le_trans hsz (Nat.le_trans hb.size h1))
 refine⟨hx7,⟨?_,fun g hg1 hg2 hg3=>?_,?_,?_,v2,hp,hM,?_,hft⟩⟩
 ·refine((h.kept.trans (Kept.of_below (F:=[]) hb) (fun _ h=>by cases h)).trans hk (fun j hj=>?_)).trans (zj W7 (w.heap.size+1+1) 3 _) (fun j hj=>?_)
  ·rcases hf1 j hj with h1 | h1
   ·exact .inl h1
   ·exact .inr (by omega)
  ·rw[List.mem_singleton.1 hj];exact .inr (by omega)
 ·exact(heap_setCell_other W7 ⟨w.heap.size+1+1,3,none⟩ g _ hg3).trans ((hblk g hg1 hg2).trans (h.mid g hg1 hg2 hg3))
 ·have:=hk.size;have:=hb.size;simp[World.setCell];omega
 ·rw[heap_setCell_same W7 (w.heap.size+1+1) 3 _ _ _ hx7];rfl
 ·refine hd.keep (by simp[World.setCell]) fun j hj=>heap_setCell_other W7 ⟨w.heap.size+1+1,3,none⟩ j _ ?_
  show j≠w.heap.size+1+1
  rcases hft j hj with h1 | h1
  ·have:=hsep j h1;omega
  ·omega
theorem xHr {D B:Nat}{w:World}{v:Dev}{d:PD}(h:yj D w v d)(hu:d.Up)(hK:qF w)(j:PJ)(hj:j.Ok)(hc:j.carried=j.entries.length)(ev:Value)(vs:List Value)(hen:EnAt w B ev j.entries vs)(hB:B≤w.heap.size)
  (hsep:∀ k∈v.foot,k<B) (hfit:(j.secs sha).length≤d.n / 2) (hpend:d.pend=[]) (hD:D≤w.heap.size) (hlen:j.entries.length≤1000) (hDg:2<D) :
  Calls Tryz.prog 64 #[.agg (xE v.p d.n),.int .i64 j.area,.int .i64 j.gen,.int .i64 j.first,ev] w (xA3 D v d j ev w):=by
 obtain⟨ea,ec,hev⟩:=yH hen.own
 obtain⟨gen,hgen⟩:∃ gen,gen=j.gen:=⟨_,rfl⟩
 obtain⟨first,hfirst⟩:∃ first,first=j.first:=⟨_,rfl⟩
 obtain⟨L,hL⟩:∃ L,L=j.entries:=⟨_,rfl⟩
 obtain⟨ln,hln⟩:∃ ln,ln=L.length:=⟨_,rfl⟩
 have hgz:=hj.gen
 have hfz:=hj.first
 rw[←hL] at hev hen hlen
 rw[←hln] at hev hlen
 rw[←hgen] at hgz ⊢
 rw[←hfirst] at hfz ⊢
 subst hev
 obtain⟨w1,hw1⟩:∃ w1,w1=(((w.alloc (.cells (xE v.p d.n) 128)).alloc (.cells zSta 131)).alloc (.cells #[.int .i64 gen,.int .i64 first,.slice ea ln ec,.int .i64 0] 131)).alloc (.cells #[.int .i64 first,.int .i64 ln] 3):=⟨_,rfl⟩
 have hb1:Below w.heap.size w w1:=by rw[hw1];exact((((Below.refl _ _).alloc (Nat.le_refl _) _).alloc (by simp) _).alloc (by simp;omega) _).alloc (by simp;omega) _
 have hs1:w1.heap.size=w.heap.size+4:=by rw[hw1];simp
 have h0:w1.heap[w.heap.size]?=some (.cells (xE v.p d.n) 128 (0,0)):=by
  rw[hw1];simp only[yt,World.size_alloc]
  rw[if_neg (by omega),if_neg (by omega),if_neg (by omega),if_pos trivial]
 have h1:w1.heap[w.heap.size+1]?=some (.cells zSta 131 (0,0)):=by
  rw[hw1];simp only[yt,World.size_alloc]
  rw[if_neg (by omega),if_neg (by omega),if_pos trivial]
 have h2:w1.heap[w.heap.size+1+1]?=some (.cells #[.int .i64 gen,.int .i64 first,.slice ea ln ec,.int .i64 0] 131 (0,0)):=by
  rw[hw1];simp only[yt,World.size_alloc]
  rw[if_neg (by omega),if_pos trivial]
 have h3:w1.heap[w.heap.size+1+1+1]?=some (.cells #[.int .i64 first,.int .i64 ln] 3 (0,0)):=by
  rw[hw1];simp only[yt,World.size_alloc]
  rw[if_pos trivial]
 have HHB:=h_ (xJh first ln (by omega) (by omega) (w.heap.size+1+1+1) 2 w1 (cell_of_row _ _ _ _ _ _ h3) (cell_of_row _ _ _ _ _ _ h3) (by omega))
 have HB1:=h_ hb1
 have HS1:=h_ hs1
 have H0:=h_ h0
 have H1:=h_ h1
 have H2:=h_ h2
 have HD:=h_ h
 have HU:=h_ hu
 have HK:=h_ hK
 have HJ:=h_ hj
 have HEN:=h_ hen
 have HBB:=h_ hB
 have HSEP:=h_ hsep
 have HFIT:=h_ hfit
 have HP:=h_ hpend
 have HGEN:=h_ hgen
 have HFIRST:=h_ hfirst
 have HL:=h_ hL
 have HLN:=h_ hln
 have hn2:=h.n2
 obtain⟨n,hn⟩:∃ n,n=d.n:=⟨_,rfl⟩
 rw[←hn] at hw1 hn2 H0 HFIT ⊢
 have HN:=h_ hn
 have hg1:(gen:Int)≤2147483647:=by omega
 have hf1:(first:Int)≤2147483647:=by omega
 have hl1:(ln:Int)≤1000:=by omega
 have hfs:=vE gen first (.slice ea ln ec) 0 rfl
 unfold xE at hw1 ⊢
 unfold zSta at hw1
 clear h hu hK hj hen hB hsep hfit hpend hgen hfirst hL hln hn hb1 hs1 h0 h1 h2 h3 hgz hfz
 go_enter Tryz.func64,Tryz.ntmps64
 go_wp2_with fail
 rw[←hw1]
 refine HHB.out.mono ?_
 rintro e w2 ⟨hb2,hv,rfl,hown⟩
 obtain⟨hg',hcap,hhv,hgB,_,_,_⟩:∃ g cap,hv=.slice (some ⟨g,0,none⟩) 16 cap∧w1.heap.size≤g∧16≤cap∧cap≤maxLen∧SlB w2 ⟨g,0,none⟩ (beB 8 first++beB 8 ln):=by
  rcases hown.at with⟨_,h⟩ | ⟨g,cap,h1,h2,h3,h4,h5⟩
  ·exact absurd (congrArg List.length h) (by simp[xv])
  ·have e:(beB 8 first++beB 8 ln).length=16:=by simp[xv]
   rw[e] at h1 h3
   exact⟨g,cap,h1,h2,h3,h4,h5⟩
 subst hhv
 have HB2:=h_ hb2
 have HOWN:=h_ hown
 clear hw1 hb2 hown
 have hba3:Below w2.heap.size w2 (w2.alloc (.cells #[.int .i64 1,.int .i64 gen,.int .i64 0,.slice (some ⟨hg',0,none⟩) 16 hcap] 222)):=(Below.refl _ _).alloc (Nat.le_refl _) _
 have hsz2:=HB2.out.size
 have HST:Hid (WcSt w B v.p n gen first (.slice ea ln ec) (.slice (some ⟨hg',0,none⟩) 16 hcap) L vs 0 (.slice (some ⟨w2.heap.size,0,none⟩) 1 1) (w2.alloc (.cells #[.int .i64 1,.int .i64 gen,.int .i64 0,.slice (some ⟨hg',0,none⟩) 16 hcap] 222))):=h_ (by
  have hs:=HS1.out
  have hb3:=HB2.out.trans (hba3.mono HB2.out.size)
  refine⟨HB1.out.trans (hb3.mono HB1.out.size),(hb3.block _ (by omega)).trans H0.out,(hb3.block _ (by omega)).trans H1.out,(hb3.block _ (by omega)).trans H2.out,?_,fun j e=>by have:=(Option.some.inj e:w2.heap.size=j);omega⟩
  rw[xRg]
  refine RcAt.one _ (heap_alloc_new w2 _) (by have:=HBB.out;omega) ⟨?_,by simp,fun k e=>by have:=(Option.some.inj e:hg'=k);have:=(HOWN.out.lt (k:=hg') rfl).2;omega⟩
  have:=(HOWN.out.below hba3).base (B':=B) (by have:=HBB.out;omega)
  rw[HLN.out] at this
  exact this)
 clear hba3 hsz2 hgB
 go_wp2
 go_loopw [35,13] (fun u rv wr=>∃ k:Nat,∃ ra rn rc,u=.int .i64 k∧rv=.slice ra rn rc∧k≤ln∧Hid (WcSt w B v.p n gen first (.slice ea ln ec) (.slice (some ⟨hg',0,none⟩) 16 hcap) L vs k (.slice ra rn rc) wr)) (fun u _ _=>ln-(intOf u).toNat)
 case atStart=>exact⟨0,_,_,_,rfl,rfl,Nat.zero_le _,HST⟩
 case round =>
  obtain⟨k,ra,rn,rc,rfl,rfl,hk,HS⟩:=hrel
  by_cases hlt:k<ln
  ·have hltz:(k:Int)<ln:=by omega
   have hkl:k<L.length:=by rw[←HLN.out];exact hlt
   obtain⟨g,cap,e0,ecap,hv,hcl,hBe,hes,hel,hsb,hob⟩:=HEN.out.get k hkl
   obtain⟨y,hy⟩:∃ y,y=L[k]:=⟨_,rfl⟩
   rw[←hy] at hcl hel hsb hob
   have hea:ea=some ⟨g,0,none⟩:=by injection hv
   subst hea
   have hcl':=(HS.out.bel.cell (p:=⟨g,k,none⟩) (block_lt_of_cell hcl)).trans hcl
   have hba:Below wr.heap.size wr (wr.alloc (.cells #[.int .i64 2,.int .i64 gen,.int .i64 ((k:Int)+1),.slice (some ⟨e0,0,none⟩) y.length ecap] 222)):=(Below.refl _ _).alloc (Nat.le_refl _) _
   have HRC:=h_ (HS.out.rc.later hba)
   have hlenr:(jO gen first L.length (.slice (some ⟨hg',0,none⟩) 16 hcap) L vs k).length≤1000000:=by rw[xD1 HEN.out.len (by omega)];omega
   have HLR:=h_ hlenr
   have HBR:=h_ (show B≤(wr.alloc (.cells #[.int .i64 2,.int .i64 gen,.int .i64 ((k:Int)+1),.slice (some ⟨e0,0,none⟩) y.length ecap] 222)).heap.size by have:=HS.out.bel.size;have:=HBB.out;rw[World.size_alloc];omega)
   have hrv:vs[k]'(by rw[HEN.out.len];exact hkl)=.slice (some ⟨e0,0,none⟩) y.length ecap:=HEN.out.val k hkl HLN.out hcl
   have hnum:((1+k:Nat):Int)=1+(k:Int):=by omega
   have hre:Hid (jO gen first L.length (.slice (some ⟨hg',0,none⟩) 16 hcap) L vs (k+1)=jO gen first L.length (.slice (some ⟨hg',0,none⟩) 16 hcap) L vs k++[(⟨2,gen,1+(k:Int),y⟩,.slice (some ⟨e0,0,none⟩) y.length ecap)]):=h_ (by rw[xRh HEN.out.len hkl,hrv,hy,hnum])
   have hcs:Hid (∀ i u,(y8 2 gen (1+(k:Int)) (.slice (some ⟨e0,0,none⟩) y.length ecap))[i]?=some u→(wr.alloc (.cells #[.int .i64 2,.int .i64 gen,.int .i64 ((k:Int)+1),.slice (some ⟨e0,0,none⟩) y.length ecap] 222)).cell? ((⟨wr.heap.size,0,none⟩:Addr).add i)=some u):=h_ (fun i u hi=>by
    rw[Addr.add_lit,Nat.zero_add,yy]
    rw[show 1+(k:Int)=(k:Int)+1 by omega] at hi
    simpa[y8] using hi)
   have hro:Hid (OwnB (wr.alloc (.cells #[.int .i64 2,.int .i64 gen,.int .i64 ((k:Int)+1),.slice (some ⟨e0,0,none⟩) y.length ecap] 222)) B (.slice (some ⟨e0,0,none⟩) y.length ecap) y∧(Value.slice (some ⟨e0,0,none⟩) y.length ecap)≠.slice none 0 0∧∀ i,(Value.slice (some ⟨e0,0,none⟩) y.length ecap).ownBlock=some i→(Value.slice ra rn rc).ownBlock≠some i):=h_ ⟨(hob.below HS.out.bel).below hba,by simp,fun i e e2=>by have:=HS.out.rb i e2;have:=(Option.some.inj e:e0=i);omega⟩
   have HBA:=h_ hba
   have hk1:k+1≤ln:=hlt
   have hkq:(k:Int)≤1000:=by omega
   clear hcl hel hsb hob hba hlenr hrv hv hy hkl hnum
   go_wp2_with (at_builtin;refine xGb rfl (.tmp 40) (.tmp 46) rfl B _ _ rfl HRC.out (⟨2,gen,1+(k:Int),y⟩,.slice (some ⟨e0,0,none⟩) y.length ecap) hro.out rfl ⟨wr.heap.size,0,none⟩ rfl hcs.out HLR.out HBR.out ?_)
   intro v' w5 hrc5 hg5 hat5
   rw[←hre.out] at hrc5
   obtain⟨va,vc,hv5⟩:=yH hrc5.own
   have HN2:=h_ (HS.out.next HBA.out hg5 hrc5 (by rw[World.size_alloc];exact hat5))
   rw[hv5] at HN2
   subst hv5
   clear hrc5 hg5 hat5 hcl'
   go_wp2
   go_roundw
   case rel=>exact⟨k+1,_,_,_,by go_num,rfl,hk1,HN2⟩
   case measure=>simp[intOf];omega
  ·obtain rfl:k=ln:=by omega
   have hRl:=xD1 (gen:=gen) (first:=first) (carried:=L.length) (hv:=.slice (some ⟨hg',0,none⟩) 16 hcap) (L:=L) (vs:=vs) (k:=k) HEN.out.len (by rw[←HLN.out];exact Nat.le_refl _)
   obtain⟨RL,hRL⟩:∃ RL,RL=jO gen first L.length (.slice (some ⟨hg',0,none⟩) 16 hcap) L vs k:=⟨_,rfl⟩
   have hrc:=HS.out.rc
   rw[←hRL] at hrc hRl
   obtain⟨ra',rc',hrv⟩:=yH hrc.own
   rw[hRl] at hrv
   have hrn:rn=k+1:=by injection hrv
   subst hrn
   have hRf:RL.map Prod.fst=vB gen first L.length L:=by rw[hRL,HLN.out];exact xUf HEN.out.len
   obtain⟨R,hR⟩:∃ R,R=vB gen first L.length L:=⟨_,rfl⟩
   rw[←hR] at hRf
   have hsecs:(j.secs sha)=R.flatMap (yf sha):=by rw[hR];unfold PJ.secs xE8;rw[←HGEN.out,←HFIRST.out,hc,←HL.out]
   have hRok:∀ r∈R,r.Ok:=by
    have h1:=xPd (xGx HJ.out)
    rw[hc,←HGEN.out,←HFIRST.out,←HL.out,←hR] at h1
    exact h1
   have hRl2:R.length=k+1:=by rw[←hRf,List.length_map];exact hRl
   obtain⟨w4,hw4⟩:∃ w4,w4=wr:=⟨_,rfl⟩
   have h4:=(i_ HS.out.x).1
   have HST2:Hid (WpSt D B w wr v d gen first (.slice ea k ec) (j.area*(n / 2)) R 0 wr):=h_ ⟨Kept.of_below HS.out.bel,fun _ _ _ _=>rfl,Nat.le_refl _,HS.out.x,v,rfl,rfl,HD.out.below HS.out.bel,fun j hj=>.inl hj⟩
   have HRC4:=h_ hrc
   have HST4:=h_ HS.out.st
   have HX4:=h_ HS.out.x
   have HRES4:=h_ HS.out.res
   have HBEL4:=h_ HS.out.bel
   have H4:=h_ h4
   have HRF:=h_ hRf
   have HRL:=h_ hRl
   have HRL2:=h_ hRl2
   have HSECS:=h_ hsecs
   have HROK:=h_ hRok
   have hkz:(k:Int)+1≤1001:=by omega
   rw[←hw4] at HST2 HRC4 HST4 HX4 HRES4 HBEL4 H4
   have HW4:=h_ hw4
   clear hRl hRL hrc hrv hRf hR hsecs hRok hRl2 hw4 h4 HS HST HOWN
   have hk0:((k+1:Nat):Int)=(k:Int)+1:=by omega
   go_wp2
   go_loopw [51] (fun u wr2=>∃ i:Nat,u=.int .i64 i∧i≤k+1∧Hid (WpSt D B w w4 v d gen first (.slice ea k ec) (j.area*(n / 2)) R i wr2)) (fun u _=>k+1-(intOf u).toNat)
   case atStart=>exact⟨0,rfl,Nat.zero_le _,by rw[←HW4.out];exact HST2⟩
   case round =>
    obtain⟨i,rfl,hik,HS⟩:=hrel
    by_cases hlt2:i<k+1
    ·have hltz2:(i:Int)<(k:Int)+1:=by omega
     have hxb:=(i_ HX4.out).1
     have hmid:=HS.out.mid
     have hrcw:RcAt wr B (.slice ra (k+1) rc) RL:=HRC4.out.underX HX4.out (by decide) (by decide) fun g h1 h2 h3=>hmid g h1 h2 h3
     obtain⟨gr,rcap,gp,pcap,hv2,_,hcs,hx2,hgp,hpl,_,hps⟩:=hrcw.get i (by rw[HRL.out];exact hlt2)
     have hra:ra=some ⟨gr,0,none⟩:=by injection hv2
     subst hra
     have hiR:i<R.length:=by rw[HRL2.out];exact hlt2
     have hri:(RL[i]'(by rw[HRL.out];exact hlt2)).1=R[i]:=by
      have h1:=List.getElem_map (f:=Prod.fst) (l:=RL) (i:=i) (h:=by rw[List.length_map,HRL.out];exact hlt2)
      rw[←h1];simp only[HRF.out]
     rw[hri] at hcs hx2 hpl hps
     obtain⟨y,hy⟩:∃ y,y=R[i]:=⟨_,rfl⟩
     have hyok:=HROK.out y (by rw[hy];exact List.getElem_mem hiR)
     rw[←hy] at hcs hx2 hpl hps
     obtain⟨ro,rr⟩:=RcAt.rd (show (y8 y.kind y.gen y.num (.slice (some ⟨gp,0,none⟩) y.pay.length pcap)).length=4 from rfl) hcs
     unfold y8 at rr
     have hstw:=(hmid w.heap.size HBB.out (by omega) (by omega)).trans HST4.out
     have hft:=xI3 y.kind y.gen y.num (.slice (some ⟨gp,0,none⟩) y.pay.length pcap) rfl
     obtain⟨w5,hw5⟩:∃ w5,w5=wr.alloc (.cells #[.int .i64 y.kind,.int .i64 y.gen,.int .i64 y.num,.slice (some ⟨gp,0,none⟩) y.pay.length pcap] 222):=⟨_,rfl⟩
     have hb5:Below wr.heap.size wr w5:=by rw[hw5];exact b_ _ _
     have hnr:w5.heap[wr.heap.size]?=some (.cells #[.int .i64 y.kind,.int .i64 y.gen,.int .i64 y.num,.slice (some ⟨gp,0,none⟩) y.pay.length pcap] 222 (0,0)):=by rw[hw5];exact heap_alloc_new wr _
     have hst5:=(hb5.block _ (i_ hstw).1).trans hstw
     have hx5:=(hb5.block _ (i_ HS.out.x).1).trans HS.out.x
     obtain⟨v1,hvp,hvM,hd1,hf1⟩:=HS.out.at'
     obtain⟨_,hup,hdn,_⟩:=PD.puts_up ((R.take i).flatMap (yf sha)) d (j.area*(n / 2)) HU.out
     have hpl2:=xEa ((R.take i).flatMap (yf sha)) d (j.area*(n / 2)) HU.out
     rw[HP.out,List.length_nil,Nat.zero_add] at hpl2
     have hus:=xQu R i hiR
     have hul:=xVv R (i+1)
     rw[←hy] at hus
     have hfit:=HFIT.out
     rw[HSECS.out] at hfit
     have har:=HJ.out.area
     have hbase:j.area*(n / 2)+qY R (i+1)≤n:=by
      rcases (show j.area=0∨j.area=1 by omega) with h | h <;> rw[h] <;> omega
     have hul0:((R.take i).flatMap (yf sha)).length=qY R i:=rfl
     have hps5:SlB w5 ⟨gp,0,none⟩ y.pay:=⟨fun q c hq=>(hb5.cell (by rw[y9];exact hgp)).trans (hps.cell q c hq)⟩
     have hstep:=xUg HU.out (j.area*(n / 2)) R i hiR
     rw[←hy] at hstep
     have hbel5:∀ z:xf w5,Below wr.heap.size wr z.1:=fun z=>hb5.trans (z.2.mono hb5.size)
     have HPUT:Hid (∀ z:xf w5,Calls Tryz.prog 106 #[.agg (xE v.p n),.int .i64 (j.area*(n / 2)+qY R i:Nat),.agg (y8 y.kind y.gen y.num (.slice (some ⟨gp,0,none⟩) y.pay.length pcap)).toArray] z.1 (xDy D v1 (d.puts (j.area*(n / 2)) ((R.take i).flatMap (yf sha))).1 (j.area*(n / 2)+qY R i) y z.1)):=h_ fun z=>by
      have hz:=hbel5 z
      have h1:=xP8 (hd1.below hz) hup ((HK.out.kept HS.out.kept (fun q hq=>Nat.lt_of_lt_of_le hDg (HD.out.foot_lt q hq).1)).below hz (Nat.le_refl _)) (j.area*(n / 2)+qY R i) y hyok ⟨gp,0,none⟩ pcap hpl ⟨fun q c hq=>(z.2.cell (by rw[y9];have:=hb5.size;show gp<w5.heap.size;omega)).trans (hps5.cell q c hq)⟩ (by have:=hz.size;show gp<z.1.heap.size;omega) (by rw[hdn,←HN.out];omega) (by rw[hpl2,hul0];omega) (by have:=hz.size;have:=HS.out.sz;omega)
      rw[hvp,hdn,←HN.out] at h1
      exact h1
     have hlt5:wr.heap.size<w5.heap.size:=(i_ hnr).1
     have r5:=xI (n:=3) hst5 rfl
     have z1:∀ z:xf w5,xq z.1 ⟨w.heap.size,0,none⟩ 3=true:=fun z=>xf.ok r5.1 z
     have z2:∀ z:xf w5,xp z.1 ⟨w.heap.size,0,none⟩ 3=xE v.p n:=fun z=>(xf.rd r5.1 z).trans r5.2
     obtain⟨m2,hm2⟩:∃ m2,m2=n / 2:=⟨_,rfl⟩
     obtain⟨bs,hbs⟩:∃ bs,bs=j.area*m2:=⟨_,rfl⟩
     obtain⟨us,hus0⟩:∃ us,us=qY R i:=⟨_,rfl⟩
     obtain⟨at_,hat⟩:∃ at_,at_=bs+us:=⟨_,rfl⟩
     have z3:∀ z:xf w5,Calls Tryz.prog 90 #[.agg (xE v.p n)] z.1 fun e w'=>e=.returned (.int .i64 m2)∧∃ z':xf w5,w'=z'.1:=fun z=>xf.call ((xBh v.p n hn2 z.1).mono fun e w' ⟨h1,h2⟩=>⟨by rw[h1,hm2],h2⟩)
     have k5:=cell_of_row w5 (w.heap.size+1+1) 3 _ _ _ hx5
     simp only[v_] at k5
     rw[←hus0] at k5
     have z4:∀ z:xf w5,z.1.cell? ⟨w.heap.size+1+1,3,none⟩=some (.int .i64 us):=fun z=>z.cell k5
     have r6:=xI (n:=4) hnr rfl
     have z5:∀ z:xf w5,xq z.1 ⟨wr.heap.size,0,none⟩ 4=true:=fun z=>xf.ok r6.1 z
     have z6:∀ z:xf w5,xp z.1 ⟨wr.heap.size,0,none⟩ 4=#[.int .i64 y.kind,.int .i64 y.gen,.int .i64 y.num,.slice (some ⟨gp,0,none⟩) y.pay.length pcap]:=fun z=>(xf.rd r6.1 z).trans r6.2
     rw[←hm2] at HPUT hstep hbase
     rw[←hbs] at HPUT hstep hbase
     rw[←hus0] at HPUT hstep hus
     rw[←hat] at HPUT hstep
     have hmul:(j.area:Int)*(m2:Int)=(bs:Int):=by rw[hbs];simp
     have hadd:(bs:Int)+(us:Int)=(at_:Int):=by rw[hat];simp
     have hbz:(bs:Int)≤4096:=by omega
     have hmz:(m2:Int)≤4096:=by omega
     have huz:(us:Int)≤4096:=by omega
     have haz:(j.area:Int)≤1:=by omega
     have HSTEP:=h_ hstep
     have HUS:=h_ hus
     have HUS0:=h_ hus0
     have HZ3:=h_ z3
     have HB5:=h_ hb5
     have HF1:=h_ hf1
     have HVP:=h_ (And.intro hvp hvM)
     have HBS:=h_ hbs
     have HM2:=h_ hm2
     have hi1:i+1≤k+1:=hlt2
     have hiq:(i:Int)≤1001:=by omega
     have hnz:((xY y.pay.length:Nat):Int)≤4096:=by omega
     have hu1:Hid (((us:Nat):Int)+(xY y.pay.length:Nat)=(qY R (i+1):Nat)):=h_ (by rw[hus];simp)
     have hul4:qY R (i+1)≤4096:=by omega
     clear hmid hrcw hv2 hcs hx2 hgp hpl hps hiR hri hyok hstw hstep hus hul hfit har hbase hul0 hps5 hbel5 hpl2 hdn hup hd1 hf1 hvp hvM hxb hbs hus0 hat hm2 hb5 z3 hy hnr hst5 hx5 k5
     go_upto_region 11 with fail
     refine xu hw5 ?_
     clear hw5 ro rr hft r5 r6
     unfold xE at z2 HZ3
     refine uv (by kernel_rfl) ?_
     refine km [0,1,2,3,4,5,6,7,8] [9,10] 4 (fun w'=>∃ z:xf w5,w'=z.1) (by kernel_rfl) (by kernel_rfl) rfl rfl ⟨⟨_,(Below.refl _ _).drew⟩,rfl⟩ ?_
     simp only[o_]
     repeat (go_big_quiet_step (first | (go_at_call 90;exact HZ3.out _)))
     refine wpQuiet_nil ?_
     rintro _ ⟨z,rfl⟩
     clear z1 z2 z4 z5 z6 HZ3
     refine qz [9,10] _ _ (by kernel_rfl) ?_
     simp only[o_]
     unfold xE y8 at HPUT
     go_wp2_with fail
     refine(HPUT.out z).mono ?_
     rintro e w7 ⟨rfl,hk7,v2,hp2,hM2,hd2,hf2⟩
     have HNX:=h_ (HS.out.next HBB.out HSEP.out H4.out (HB5.out.trans (z.2.mono HB5.out.size)) HF1.out hk7 (hp2.trans HVP.out.1) (hM2.trans HVP.out.2) (by rw[←HM2.out,←HBS.out,HSTEP.out];exact hd2) hf2)
     clear hk7 hp2 hM2 hd2 hf2 HPUT
     go_wp2
     refine NoPanic.normal ?_
     rw[qx]
     refine xCr [11,12] [13,14] 0 (fun w'=>w'=w7) (by kernel_rfl) (by kernel_rfl) (by kernel_rfl) rfl rfl rfl ?_
     simp only[o_]
     repeat (go_big_quiet_step (fail))
     refine wpQuiet_nil ?_
     refine xCs true rfl (by kernel_rfl) ?_
     go_wp2
     refine⟨fun _=>rfl,qz [14] _ _ (by kernel_rfl) ?_⟩
     simp only[o_]
     go_wp2
     refine NoPanic.normal ?_
     rw[qx]
     refine xAc (by kernel_rfl) ?_
     have hcx:=cell_of_row w7 (w.heap.size+1+1) 3 _ _ _ HNX.out.1
     have hfx:=frozen_of_row w7 (w.heap.size+1+1) 3 _ _ HNX.out.1
     simp only[v_] at hcx
     rw[←HUS0.out] at hcx
     go_wp2
     rw[hu1.out]
     go_roundw
     case rel=>exact⟨i+1,by go_num,hi1,h_ HNX.out.2⟩
     case measure=>simp[intOf];omega
    ·obtain rfl:i=k+1:=by omega
     obtain⟨v1,hvp,hvM,hd1,hf1⟩:=HS.out.at'
     have htk:R.take (k+1)=R:=List.take_of_length_le (by rw[HRL2.out];exact Nat.le_refl _)
     rw[htk] at hd1
     obtain⟨_,hup,hdn,_⟩:=PD.puts_up (R.flatMap (yf sha)) d (j.area*(n / 2)) HU.out
     have hfl:=xKu hd1 hup.1
     rw[hvp] at hfl
     have HFL:=h_ hfl
     have hxb:=(i_ HX4.out).1
     have hstw:=(HS.out.mid w.heap.size HBB.out (by omega) (by omega)).trans HST4.out
     have c0:=cell_of_row wr w.heap.size 0 _ _ _ hstw
     unfold xE at c0
     simp only[v_] at c0
     have hus:qY R (k+1)=(j.secs sha).length:=by rw[HSECS.out];unfold qY;rw[htk]
     have HUS:=h_ hus
     have HF1:=h_ hf1
     have HVP:=h_ (And.intro hvp hvM)
     have HUP:=h_ hup
     clear hfl hstw hus hf1 hvp hvM hup hdn hd1 htk
     go_wp2_with fail
     refine HFL.out.mono ?_
     rintro e w7 ⟨rfl,hk7,v2,hp2,hM2,hd2,hf2⟩
     rw[xPj HUP.out] at hd2 ⊢
     simp only at hd2
     have hnot:∀ g,B≤g→g<w4.heap.size→g ∉ v1.foot:=fun g hg1 hg2 hm=>by
      rcases HF1.out g hm with h | h
      ·have:=HSEP.out g h;omega
      ·omega
     have hsz:=HS.out.sz
     have hx7:=(hk7.block _ (Nat.lt_of_lt_of_le (show w.heap.size+1+1<w4.heap.size from hxb) hsz) (hnot _ (by have:=HBB.out;omega) hxb)).trans HS.out.x
     have hr7:w7.heap[w.heap.size+1]?=some (.cells zSta 131 (0,0)):=(hk7.block _ (Nat.lt_of_lt_of_le (show w.heap.size+1<w4.heap.size by omega) hsz) (hnot _ (by have:=HBB.out;omega) (by omega))).trans ((HS.out.mid _ (by have:=HBB.out;omega) (by omega) (by omega)).trans HRES4.out)
     rw[HUS.out] at hx7
     have rx:=xI (n:=4) hx7 rfl
     have rx1:=rx.1
     have rx2:=rx.2
     have hro:xP w7 (w.heap.size+1) 4=true:=by unfold xP;rw[hr7];rfl
     obtain⟨ul,hul⟩:∃ ul,ul=(j.secs sha).length:=⟨_,rfl⟩
     rw[←hul] at rx2
     have hfs2:=vE gen first (.slice ea k ec) ul rfl
     have HR:=h_ (xI (n:=4) (setRow_heap w7 (w.heap.size+1) _ #[.int .i64 gen,.int .i64 first,.slice ea k ec,.int .i64 ul] _ _ hr7) rfl)
     have hft2:∀ q∈v2.foot,q∈v.foot∨w4.heap.size≤q:=fun q hq=>by
      rcases hf2 q hq with h1 | h1
      ·exact HF1.out q h1
      ·exact .inr (Nat.le_trans hsz h1)
     have HFIN:=h_ (show xA3 D v d j (.slice ea k ec) w (.returned (.tuple #[.agg #[.int .i64 gen,.int .i64 first,.slice ea k ec,.int .i64 ul],.int .i64 0])) (w7.setRow (w.heap.size+1) #[.int .i64 gen,.int .i64 first,.slice ea k ec,.int .i64 ul]) from by
      refine⟨by rw[hul,HGEN.out,HFIRST.out],?_,v2,hp2.trans HVP.out.1,hM2.trans HVP.out.2,?_,fun q hq=>?_⟩
      ·refine(HS.out.kept.trans hk7 (fun q hq=>?_)).trans (qd w7 (w.heap.size+1) _) (fun q hq=>.inr (by rw[List.mem_singleton.1 hq];omega))
       rcases HF1.out q hq with h1 | h1
       ·exact .inl h1
       ·exact .inr (by omega)
      ·rw[←HN.out,HSECS.out]
       refine hd2.keep (by simp[World.setRow]) fun q hq=>setRow_other _ _ _ _ ?_
       rcases hft2 q hq with h1 | h1
       ·have:=HSEP.out q h1;have:=HBB.out;omega
       ·omega
      ·rcases hft2 q hq with h1 | h1
       ·exact .inl h1
       ·exact .inr (by omega))
     clear hx7 hr7 rx hk7 hp2 hM2 hd2 hf2 hnot hul HFL c0 hft2
     go_wp2
     exact bodyPost_ret (v:=.tuple #[.agg #[.int .i64 gen,.int .i64 first,.slice ea k ec,.int .i64 ul],.int .i64 0]) (uN rfl Tryz.isAgg131 Tryz.sizeOf131 _ _ ⟨w.heap.size+1,0,none⟩ _ _ rfl rfl HR.out.1 HR.out.2) rfl HFIN.out
end
section
attribute [local go_sem ↓] zN zz
attribute [local go_sem] kg kd zt yD yC xj xh xe xd xA xz xo xl xt xC xx
def yA6 (D:Nat)(v:Dev)(d':PD)(w w':World):Prop:=Kept v.foot w w'∧∃ v',v'.p=v.p∧v'.M=v.M∧yj D w' v' d'∧∀ k∈v'.foot,k∈v.foot∨w.heap.size≤k
theorem xRz {D:Nat}{w:World}{v:Dev}{d:PD}(h:yj D w v d)(hu:d.Up)(hK:qF w)(hn8:8≤d.n)(hpend:d.pend=[])(hz:∀ s,s<d.n→decP sha (d.vis s)=none)(hD:D≤w.heap.size)(hDg:2<D) :
  Calls Tryz.prog 34 #[.pointer (some ⟨v.p,0,none⟩),.int .i64 0,.int .i64 d.n] w fun e w'=>e=.returned (.int .i64 0)∧yA6 D v (d.puts 0 (zJ.secs sha)).1.flushed w w':=by
 obtain⟨w1,hw1⟩:∃ w1,w1=w.alloc (.cells (xE v.p d.n) 128):=⟨_,rfl⟩
 have hb1:Below w.heap.size w w1:=by rw[hw1];exact b_ _ _
 have hrow:w1.heap[w.heap.size]?=some (.cells (xE v.p d.n) 128 (0,0)):=by rw[hw1];exact heap_alloc_new w _
 have HCH:=h_ (kL (h.below hb1) hn8)
 rw[hu.1] at HCH
 have hgk:genK d 0 d.n=0:=xF8 sha d.n d 0 hz
 have HNX:Hid (∀ W,Below w.heap.size w W→Calls Tryz.prog 63 #[.agg (xE v.p d.n),.int .i64 0] W fun e w'=>Below W.heap.size W w'∧e=.returned (.tuple #[.int .i64 0,.int .i64 0])):=h_ fun W hb=>by
  have:=xKp (h.below hb) hu.1 (hK.below hb (Nat.le_refl _)) 0 (by omega) (by rw[hgk];decide)
  rw[hgk] at this
  exact this
 have hok:zJ.Ok:=⟨rfl,by decide,by decide,by decide,by decide,fun b hb=>by simp[zJ] at hb⟩
 have hfit:(zJ.secs sha).length≤d.n / 2:=by rw[zo];simp[zJ,xAq];omega
 have HWR:Hid (∀ W,Below w.heap.size w W→Calls Tryz.prog 64 #[.agg (xE v.p d.n),.int .i64 0,.int .i64 0,.int .i64 0,.slice none 0 0] W (xA3 D v d zJ (.slice none 0 0) W)):=h_ fun W hb =>
  xHr (B:=w.heap.size) (h.below hb) hu (hK.below hb (Nat.le_refl _)) zJ hok rfl (.slice none 0 0) [] (EnAt.nil W w.heap.size) hb.size (fun k hk=>(h.foot_lt k hk).2) hfit hpend (Nat.le_trans hD hb.size) (by decide) hDg
 obtain⟨n,hn⟩:∃ n,n=d.n:=⟨_,rfl⟩
 have HB1:=h_ hb1
 rw[←hn] at hw1 HCH HNX HWR hrow ⊢
 have HN:=h_ hn
 have HROW:=h_ hrow
 obtain⟨o1,r1⟩:=xI (n:=3) hrow rfl
 have hft:xy 3 (xE v.p n)=true:=by simp[xE,xy,Value.oneCell']
 unfold xE at hw1 HCH HNX HWR r1 hft
 rw[hw1] at o1 r1
 clear h hu hK hn8 hpend hz hgk hok hfit hn hb1 hrow
 go_enter Tryz.func34,Tryz.ntmps34
 go_wp2_with fail
 rw[←hw1]
 clear hw1 o1 r1
 refine HCH.out.mono ?_
 rintro e w2 ⟨rfl,hb2⟩
 unfold xQ6
 have HB2:=h_ (HB1.out.trans (hb2.mono HB1.out.size))
 have hr2:=(hb2.block _ (i_ HROW.out).1).trans HROW.out
 have HR2:=h_ hr2
 obtain⟨o1,r1⟩:=xI (n:=3) hr2 rfl
 unfold xE at r1
 clear hb2 hr2
 go_wp2_with fail
 refine(HNX.out w2 HB2.out).mono ?_
 rintro e w3 ⟨hb3,rfl⟩
 have HB3:=h_ (HB2.out.trans (hb3.mono HB2.out.size))
 have hr3:=(hb3.block _ (i_ HR2.out).1).trans HR2.out
 clear o1 r1
 obtain⟨o1,r1⟩:=xI (n:=3) hr3 rfl
 unfold xE at r1
 clear hb3 hr3
 go_wp2_with fail
 refine(HWR.out w3 HB3.out).mono ?_
 rintro e w4 ⟨rfl,hk4,v',hp4,hM4,hd4,hf4⟩
 have HFIN:=h_ (show yA6 D v (d.puts 0 (zJ.secs sha)).1.flushed w w4 from ⟨(Kept.of_below (F:=v.foot) HB3.out).trans hk4 (fun q hq=>.inl hq),v',hp4,hM4,by
  have h0:zJ.area*(d.n / 2)=0:=by show 0*_=0;rw[Nat.zero_mul]
  rw[h0] at hd4;exact hd4,fun q hq=>by
  rcases hf4 q hq with h1 | h1
  ·exact .inl h1
  ·exact .inr (Nat.le_trans HB3.out.size h1)⟩)
 clear hk4 hp4 hM4 hd4 hf4 o1 r1
 go_wp2
 go_ret
 exact⟨rfl,HFIN.out⟩
theorem xMk {D:Nat}{w:World}{v:Dev}{d:PD}(h:yj D w v d)(hd:d.down=true)(hn8:8≤d.n) :
  Calls Tryz.prog 34 #[.pointer (some ⟨v.p,0,none⟩),.int .i64 0,.int .i64 d.n] w fun e w'=>e=.returned (.int .i64 28)∧Below w.heap.size w w':=by
 obtain⟨w1,hw1⟩:∃ w1,w1=w.alloc (.cells (xE v.p d.n) 128):=⟨_,rfl⟩
 have hb1:Below w.heap.size w w1:=by rw[hw1];exact b_ _ _
 have hrow:w1.heap[w.heap.size]?=some (.cells (xE v.p d.n) 128 (0,0)):=by rw[hw1];exact heap_alloc_new w _
 have HCH:=h_ (kL (h.below hb1) hn8)
 rw[hd] at HCH
 obtain⟨n,hn⟩:∃ n,n=d.n:=⟨_,rfl⟩
 have HB1:=h_ hb1
 rw[←hn] at hw1 HCH hrow ⊢
 obtain⟨o1,r1⟩:=xI (n:=3) hrow rfl
 have hft:xy 3 (xE v.p n)=true:=by simp[xE,xy,Value.oneCell']
 unfold xE at hw1 HCH r1 hft
 rw[hw1] at o1 r1
 clear h hd hn8 hn hb1 hrow
 go_enter Tryz.func34,Tryz.ntmps34
 go_wp2_with fail
 rw[←hw1]
 clear hw1 o1 r1
 refine HCH.out.mono ?_
 rintro e w2 ⟨rfl,hb2⟩
 unfold xQ6
 have HB2:=h_ (HB1.out.trans (hb2.mono HB1.out.size))
 clear hb2
 go_wp2
 go_ret
 exact⟨rfl,HB2.out⟩
end
section
def ya (p n:Nat)(area gen first:Nat)(ev:Value)(used:Nat)(sy fa:Int):Array Value:=#[.pointer (some ⟨p,0,none⟩),.int .i64 0,.int .i64 n,.int .i64 area,.int .i64 gen,.int .i64 first,ev,.int .i64 used,.int .i64 sy,.int .i64 fa]
attribute [local go_sem ↓] zN zz
attribute [local go_sem] kg kd zt yD yC xj xh xe xd xA xz xo xl
theorem xMi {w:World}{b p n area gen first used:Nat}{ev:Value}{sy fa:Int}(h:w.heap[b]?=some (.cells (ya p n area gen first ev used sy fa) 135 (0,0))):xq w ⟨b,0,none⟩ 3=true∧xp w ⟨b,0,none⟩ 3=xE p n:=by
 have:=y7 (w:=w) (a:=⟨b,0,none⟩) (cs:=[.pointer (some ⟨p,0,none⟩),.int .i64 0,.int .i64 n]) (fun j v hj=>by
  rw[Addr.add_lit,cell_of_row _ _ _ _ _ _ h]
  match j,hj with
  | 0,hj=>exact hj
  | 1,hj=>exact hj
  | 2,hj=>exact hj)
 exact this
theorem xAt {w:World}{b p n area gen first used:Nat}{ev:Value}{sy fa:Int}(h:w.heap[b]?=some (.cells (ya p n area gen first ev used sy fa) 135 (0,0))) :
  Calls Tryz.prog 50 #[.pointer (some ⟨b,0,none⟩)] w fun e w'=>e=.returned (.int .i64 fa)∧w=w':=by
 have c9:=cell_of_row w b 9 _ _ _ h
 simp only[ya,v_] at c9
 clear h
 go_enter Tryz.func50,Tryz.ntmps50
 go_wp2
 go_ret
 exact⟨rfl,rfl⟩
theorem xAs {w:World}{b p n area gen first used:Nat}{ea:Option Addr}{k ec:Nat}{sy fa:Int}(h:w.heap[b]?=some (.cells (ya p n area gen first (.slice ea k ec) used sy fa) 135 (0,0)))(hf:first≤2147483647)(hk:k≤2147483647) :
  Calls Tryz.prog 44 #[.pointer (some ⟨b,0,none⟩)] w fun e w'=>e=.returned (.int .i64 ((first:Int)+k))∧∃ m,w'=w.drewN m:=by
 have c5:=cell_of_row w b 5 _ _ _ h
 have c6:=cell_of_row w b 6 _ _ _ h
 simp only[ya,v_] at c5 c6
 have hfz:(first:Int)≤2147483647:=by omega
 have hkz:(k:Int)≤2147483647:=by omega
 clear h
 go_enter Tryz.func44,Tryz.ntmps44
 go_upto_region 3 with fail
 go_quiet (fail)
 clear c5 c6
 go_wp2
 go_ret
 exact⟨rfl,_,rfl⟩
theorem xKq (n:Nat)(w:World)(hn:n≤100000):Calls Tryz.prog 66 #[.int .i64 n] w fun e w'=>e=.returned (.tuple #[.int .i64 (xY n:Nat),.int .i64 0])∧w=w':=by
 have hnz:(n:Int)≤100000:=by omega
 have HND:=h_ (xOw n w (by omega))
 go_enter Tryz.func66,Tryz.ntmps66
 go_wp2_with fail
 refine HND.out.mono ?_
 rintro e w' ⟨rfl,rfl⟩
 go_wp2
 go_ret2
 exact⟨rfl,rfl⟩
theorem xEj {w:World}{b p n area gen first used:Nat}{ev:Value}{sy fa:Int}(h:w.heap[b]?=some (.cells (ya p n area gen first ev used sy fa) 135 (0,0)))(hn:n≤4096)(hu:used≤n / 2) :
  Calls Tryz.prog 49 #[.pointer (some ⟨b,0,none⟩)] w fun e w'=>e=.returned (.int .i64 (n / 2-used:Nat))∧Below w.heap.size w w':=by
 have c7:=cell_of_row w b 7 _ _ _ h
 simp only[ya,v_] at c7
 have z1:∀ z:xf w,z.1.cell? ⟨b,7,none⟩=some (.int .i64 used):=fun z=>z.cell c7
 obtain⟨o1,r1⟩:=xMi h
 have z2:∀ z:xf w,xq z.1 ⟨b,0,none⟩ 3=true:=fun z=>xf.ok o1 z
 have z3:∀ z:xf w,xp z.1 ⟨b,0,none⟩ 3=xE p n:=fun z=>(xf.rd o1 z).trans r1
 obtain⟨m,hm⟩:∃ m,m=n / 2:=⟨_,rfl⟩
 have z4:∀ z:xf w,Calls Tryz.prog 90 #[.agg (xE p n)] z.1 fun e w'=>e=.returned (.int .i64 m)∧∃ z':xf w,w'=z'.1:=fun z=>xf.call ((xBh p n hn z.1).mono fun e w' ⟨h1,h2⟩=>⟨by rw[h1,hm],h2⟩)
 have HZ4:=h_ z4
 rw[←hm] at hu ⊢
 have hmz:(m:Int)≤4096:=by omega
 have hsub:(m:Int)-(used:Int)=((m-used:Nat):Int):=by omega
 have huz:(used:Int)≤4096:=by omega
 unfold xE at z3 HZ4
 clear z4 h c7 o1 r1 hm
 go_enter Tryz.func49,Tryz.ntmps49
 go_upto_region 3 with fail
 refine uv (by kernel_rfl) ?_
 refine km [0,1,2,3,4,5,6,7,8,9] [10,11] 0 (fun w'=>∃ z:xf w,w'=z.1) (by kernel_rfl) (by kernel_rfl) rfl rfl ⟨⟨_,(Below.refl _ _).drew⟩,rfl⟩ ?_
 simp only[o_]
 repeat (go_big_quiet_step (first | (go_at_call 90;exact HZ4.out _)))
 refine wpQuiet_nil ?_
 rintro _ ⟨z,rfl⟩
 clear z1 z2 z3 HZ4
 refine qz [10,11] _ _ (by kernel_rfl) ?_
 simp only[o_]
 go_wp2
 refine NoPanic.normal ?_
 rw[qx]
 refine xAc (by kernel_rfl) ?_
 go_wp2
 go_ret
 exact⟨rfl,z.2⟩
end
section
attribute [local go_sem ↓] zN zz j3 vh
attribute [local go_sem] kg kd xHl xGk zt zw yD yC xj xh xe xd xA xz xo xl xt xC xx
theorem yAc (w:World)(b p n area gen first:Nat)(ev:Value)(used:Nat)(sy fa:Int)(g2 f2 u2:Nat)(x:Option Addr)(m k:Nat)(h:w.heap[b]?=some (.cells (ya p n area gen first ev used sy fa) 135 (0,0))) :
  ym Tryz.prog 131 w (.pointer (some ⟨b,4,none⟩)) (.agg #[.int .i64 g2,.int .i64 f2,.slice x m k,.int .i64 u2])=.ok .skip (w.setRow b (ya p n area g2 f2 (.slice x m k) u2 sy fa)):=by
 have:=jr Tryz.sizeOf131 w b 4 [.pointer (some ⟨p,0,none⟩),.int .i64 0,.int .i64 n,.int .i64 area,.int .i64 gen,.int .i64 first,ev,.int .i64 used,.int .i64 sy,.int .i64 fa] _ h [.int .i64 g2,.int .i64 f2,.slice x m k,.int .i64 u2] rfl (by simp) (fun y hy=>by simp at hy;rcases hy with rfl | rfl | rfl | rfl <;> rfl)
 exact this
def xEs (D b:Nat)(v:Dev)(d:PD)(j:PJ)(ev:Value)(w:World)(e:Ending)(w':World):Prop :=
 e=.returned (.int .i64 0)∧Kept (b :: v.foot) w w'∧w'.heap[b]?=some (.cells (ya v.p d.n j.area j.gen j.first ev (j.secs sha).length ((j.first:Int)+j.entries.length) 0) 135 (0,0)) ∧
 ∃ v',v'.p=v.p∧v'.M=v.M∧yj D w' v' (d.puts (j.area*(d.n / 2)) (j.secs sha)).1.flushed∧∀ k∈v'.foot,k∈v.foot∨w.heap.size≤k
theorem xRy {D B b:Nat}{w:World}{v:Dev}{d:PD}(h:yj D w v d)(hu:d.Up)(hK:qF w)(j:PJ)(hinv:JInv sha d.n d j)(hg2:j.gen+2≤2147483647)(ev:Value)(vs:List Value)(hen:EnAt w B ev j.entries vs)(hB:B≤w.heap.size)
  (hsep:∀ k∈v.foot,k<B) (hpend:d.pend=[]) (hD:D≤w.heap.size) (hlen:j.entries.length≤1000) (hDg:2<D) (hb:b ∉ v.foot) (hrow:w.heap[b]?=some (.cells (ya v.p d.n j.area j.gen j.first ev 0 0 0) 135 (0,0))) :
  Calls Tryz.prog 56 #[.pointer (some ⟨b,0,none⟩),.int .i64 j.first,ev] w (xEs D b v d (jd sha d.n d j) ev w):=by
 obtain⟨ea,ec,hev⟩:=yH hen.own
 obtain⟨ln,hln⟩:∃ ln,ln=j.entries.length:=⟨_,rfl⟩
 rw[←hln] at hev hlen
 subst hev
 obtain⟨ho,hog⟩:=xH6 sha hinv hg2
 have ha:=hinv.ok.area
 have hf:=hinv.ok.first
 obtain⟨J,hJ⟩:∃ J,J=jd sha d.n d j:=⟨_,rfl⟩
 obtain⟨a2,ha2⟩:∃ a2,a2=J.area:=⟨_,rfl⟩
 obtain⟨g2,hgg⟩:∃ g2,g2=J.gen:=⟨_,rfl⟩
 obtain⟨fr,hfr⟩:∃ fr,fr=j.first:=⟨_,rfl⟩
 have hJf:J.first=fr:=by rw[hJ,hfr];rfl
 have hJe:J.entries=j.entries:=by rw[hJ];rfl
 have hJc:J.carried=J.entries.length:=by rw[hJ];rfl
 have hJa:a2=1-j.area:=by rw[ha2,hJ];rfl
 have hgk:genK d a2 d.n=g2:=by rw[hgg,hJa,hJ];rfl
 rw[←hJ] at ho hog ⊢
 have hgl:g2≤2147483647:=by rw[hgg];exact ho.gen
 have hfit:(J.secs sha).length≤d.n / 2:=by
  have h1:=hinv.fit
  rw[zo] at h1 ⊢
  rw[hJe];exact h1
 have hn2:=h.n2
 have HNX:Hid (∀ W,Below w.heap.size w W→Calls Tryz.prog 63 #[.agg (xE v.p d.n),.int .i64 a2] W fun e w'=>Below W.heap.size W w'∧e=.returned (.tuple #[.int .i64 g2,.int .i64 0])):=h_ fun W hb=>by
  have:=xKp (h.below hb) hu.1 (hK.below hb (Nat.le_refl _)) a2 (by rw[hJa];omega) (by rw[hgk];exact hgl)
  rw[hgk] at this
  exact this
 have HWR:Hid (∀ W,Below w.heap.size w W→Calls Tryz.prog 64 #[.agg (xE v.p d.n),.int .i64 a2,.int .i64 g2,.int .i64 fr,.slice ea ln ec] W (xA3 D v d J (.slice ea ln ec) W)):=h_ fun W hb=>by
  have:=xHr (B:=B) (h.below hb) hu (hK.below hb (Nat.le_refl _)) J ho hJc (.slice ea ln ec) vs (by rw[hJe];exact hen.later hb) (Nat.le_trans hB hb.size) hsep hfit hpend (Nat.le_trans hD hb.size) (by rw[hJe,←hln];exact hlen) hDg
  rw[←ha2,←hgg,hJf] at this
  exact this
 have hblt:=(i_ hrow).1
 have hft:=h.foot_lt
 obtain⟨n,hn⟩:∃ n,n=d.n:=⟨_,rfl⟩
 obtain⟨ul,hul⟩:∃ ul,ul=(J.secs sha).length:=⟨_,rfl⟩
 rw[←hfr] at hf hrow ⊢
 rw[←hn] at hn2 hrow HNX HWR hfit
 rw[←hul] at hfit
 have hsub:(1:Int)-(j.area:Int)=(a2:Int):=by omega
 have haz:(j.area:Int)≤1:=by omega
 have ha2z:(a2:Int)≤1:=by omega
 have hgz:(g2:Int)≤2147483647:=by omega
 have hfz:(fr:Int)≤2147483647:=by omega
 have hlz:(ln:Int)≤1000:=by omega
 have HROW:=h_ hrow
 have HB:=h_ hb
 have HFT:=h_ hft
 have HN:=h_ hn
 have HUL:=h_ hul
 have HA2:=h_ ha2
 have HGG:=h_ hgg
 have HJF:=h_ hJf
 have HJE:=h_ (show J.entries.length=ln by rw[hJe,hln])
 have c3:=cell_of_row w b 3 _ _ _ hrow
 simp only[ya,v_] at c3
 obtain⟨o1,r1⟩:=xMi hrow
 unfold xE at r1 HNX HWR
 clear h hu hK hinv hg2 hen hB hsep hpend hln hJ ha2 hgg hfr hJf hJe hJc hJa hgk ho hog hfit hn hul hrow hb hft
 go_enter Tryz.func56,Tryz.ntmps56
 go_wp2_with fail
 refine(HNX.out w (Below.refl _ _)).mono ?_
 rintro e w2 ⟨hb2,rfl⟩
 have hr2:=(hb2.block _ hblt).trans HROW.out
 have HR2:=h_ hr2
 have HB2:=h_ hb2
 clear o1 r1 c3
 obtain⟨o1,r1⟩:=xMi hr2
 unfold xE at r1
 clear hr2 hb2
 go_wp2_with fail
 refine(HWR.out w2 HB2.out).mono ?_
 rintro e w4 ⟨rfl,hk4,v',hp4,hM4,hd4,hf4⟩
 rw[←HGG.out,HJF.out,←HUL.out]
 have hr4:=(hk4.block b (Nat.lt_of_lt_of_le hblt HB2.out.size) HB.out).trans HR2.out
 have HK4:=h_ hk4
 have HD4:=h_ hd4
 have HF4:=h_ hf4
 have HP4:=h_ (And.intro hp4 hM4)
 have hbl4:b<w4.heap.size:=(i_ hr4).1
 have hfx:=vE g2 fr (.slice ea ln ec) ul rfl
 obtain⟨w5,hw5⟩:∃ w5,w5=w4.alloc (.cells #[.int .i64 g2,.int .i64 fr,.slice ea ln ec,.int .i64 ul] 131):=⟨_,rfl⟩
 have hb5:Below w4.heap.size w4 w5:=by rw[hw5];exact b_ _ _
 have hx5:w5.heap[w4.heap.size]?=some (.cells #[.int .i64 g2,.int .i64 fr,.slice ea ln ec,.int .i64 ul] 131 (0,0)):=by rw[hw5];exact heap_alloc_new w4 _
 have hr5:=(hb5.block b hbl4).trans hr4
 clear o1 r1 hk4 hp4 hM4 hd4 hf4
 go_upto_region 8 with fail
 refine xu hw5 ?_
 clear hw5 hfx
 have z1:∀ z:StC w4.heap.size #[.int .i64 g2,.int .i64 fr,.slice ea ln ec,.int .i64 ul],xq z.1 ⟨w4.heap.size,0,none⟩ 4=true:=fun z=>(xI (n:=4) z.2 rfl).1
 have z2:∀ z:StC w4.heap.size #[.int .i64 g2,.int .i64 fr,.slice ea ln ec,.int .i64 ul],xp z.1 ⟨w4.heap.size,0,none⟩ 4=#[.int .i64 g2,.int .i64 fr,.slice ea ln ec,.int .i64 ul]:=fun z=>(xI (n:=4) z.2 rfl).2
 haveI:Nonempty (StC w4.heap.size #[.int .i64 g2,.int .i64 fr,.slice ea ln ec,.int .i64 ul]):=⟨⟨_,hx5⟩⟩
 have HX5:=h_ hx5
 have HR5:=h_ hr5
 have HB5:=h_ hb5
 clear hx5 hr5 hb5 hr4
 refine xw [0,1,2,3] [4,5,6,7,8,9] (fun w'=>∃ z:StC w4.heap.size #[.int .i64 g2,.int .i64 fr,.slice ea ln ec,.int .i64 ul],w'=z.1) (by kernel_rfl) (by kernel_rfl) (by kernel_rfl) ⟨⟨w5.drew,HX5.out⟩,rfl⟩ ?_
 simp only[o_]
 repeat (go_big_quiet_step (fail))
 refine wpQuiet_nil ?_
 clear z1 z2
 have hr6:w5.drew.heap[b]?=some (.cells (ya v.p n j.area j.gen fr (.slice ea ln ec) 0 0 0) 135 (0,0)):=HR5.out
 have c3:=cell_of_row w5.drew b 3 _ _ _ hr6
 have f3:=frozen_of_row w5.drew b 3 _ _ hr6
 simp only[ya,v_] at c3
 have hne:w4.heap.size≠b:=by omega
 have hr7:(w5.setCell ⟨b,3,none⟩ (.int .i64 a2)).drew.heap[b]?=some (.cells (ya v.p n a2 j.gen fr (.slice ea ln ec) 0 0 0) 135 (0,0)):=by show (w5.setCell ⟨b,3,none⟩ (.int .i64 a2)).heap[b]?=_;rw[heap_setCell_same w5 b 3 _ _ _ HR5.out];rfl
 have hx7:(w5.setCell ⟨b,3,none⟩ (.int .i64 a2)).drew.heap[w4.heap.size]?=some (.cells #[.int .i64 g2,.int .i64 fr,.slice ea ln ec,.int .i64 ul] 131 (0,0)):=(heap_setCell_other w5 ⟨b,3,none⟩ w4.heap.size _ hne).trans HX5.out
 have hst8:=yAc _ b v.p n a2 j.gen fr (.slice ea ln ec) 0 0 0 g2 fr ul ea ln ec hr7
 have hr8:=setRow_heap (w5.setCell ⟨b,3,none⟩ (.int .i64 a2)).drew b _ (ya v.p n a2 g2 fr (.slice ea ln ec) ul 0 0) _ _ hr7
 have HX7:=h_ hx7
 have HR8:=h_ hr8
 obtain⟨w7,hw7⟩:∃ w7,w7=(w5.setCell ⟨b,3,none⟩ (.int .i64 a2)).drew.setRow b (ya v.p n a2 g2 fr (.slice ea ln ec) ul 0 0):=⟨_,rfl⟩
 have HW7:=h_ hw7
 rw[←hw7] at hst8
 clear hr6 hr7 hx7 hr8 hw7 hne
 refine yz true (by kernel_rfl) (by kernel_rfl) ?_
 simp only[o_]
 go_wp2
 refine⟨fun _=>⟨⟨w5.drew,HX5.out⟩,rfl⟩,yz true (by kernel_rfl) (by kernel_rfl) ?_⟩
 simp only[o_]
 go_wp2
 refine⟨fun _=>⟨⟨w5.drew,HX5.out⟩,rfl⟩,yz true (by kernel_rfl) (by kernel_rfl) ?_⟩
 simp only[o_]
 go_wp2
 refine⟨fun _=>⟨⟨_,HX7.out⟩,rfl⟩,xG [7,8,9] _ _ (by kernel_rfl) ?_⟩
 simp only[o_]
 go_wp2
 refine NoPanic.normal ?_
 have hr7w:w7.heap[b]?=some (.cells (ya v.p n a2 g2 fr (.slice ea ln ec) ul 0 0) 135 (0,0)):=by rw[HW7.out];exact HR8.out
 have HR7W:=h_ hr7w
 have HNO:=h_ (xAs hr7w (by omega) (by omega))
 clear hst8 c3 f3
 go_wp2_with fail
 refine HNO.out.mono ?_
 rintro e w8 ⟨rfl,m8,rfl⟩
 have hr8:(w7.drewN m8).heap[b]?=some (.cells (ya v.p n a2 g2 fr (.slice ea ln ec) ul 0 0) 135 (0,0)):=by rw[(xU (Below.refl _ w7) m8).block b (i_ HR7W.out).1];exact HR7W.out
 have c8:=cell_of_row (w7.drewN m8) b 8 _ _ _ hr8
 have f8:=frozen_of_row (w7.drewN m8) b 8 _ _ hr8
 simp only[ya,v_] at c8
 have hr9:((w7.drewN m8).setCell ⟨b,8,none⟩ (.int .i64 ((fr:Int)+ln))).heap[b]?=some (.cells (ya v.p n a2 g2 fr (.slice ea ln ec) ul ((fr:Int)+ln) 0) 135 (0,0)):=by rw[heap_setCell_same _ b 8 _ _ _ hr8];rfl
 have hk7:Kept [b] w5 w7:=by
  rw[HW7.out]
  exact((zj w5 b 3 _).trans (Kept.of_below (F:=[b]) ((Below.refl _ _).drew)) (fun q hq=>.inl hq)).trans (qd _ b _) (fun q hq=>.inl hq)
 have hkk:Kept (b :: v.foot) w ((w7.drewN m8).setCell ⟨b,8,none⟩ (.int .i64 ((fr:Int)+ln))):=by
  have k1:=((Kept.of_below (F:=b :: v.foot) HB2.out).trans HK4.out (fun q hq=>.inl (List.mem_cons_of_mem _ hq))).trans (Kept.of_below (F:=[]) HB5.out) (fun q hq=>by cases hq)
  have k2:=(k1.trans hk7 (fun q hq=>.inl (by rw[List.mem_singleton.1 hq];exact List.mem_cons_self ..))).trans (Kept.of_below (F:=[]) (xU (Below.refl _ w7) m8)) (fun q hq=>by cases hq)
  exact k2.trans (zj (w7.drewN m8) b 8 _) (fun q hq=>.inl (by rw[List.mem_singleton.1 hq];exact List.mem_cons_self ..))
 have hnb:b ∉ v'.foot:=fun hm=>by
  rcases HF4.out b hm with h1 | h1
  ·exact HB.out h1
  ·have:=HB2.out.size;omega
 have hdv:yj D ((w7.drewN m8).setCell ⟨b,8,none⟩ (.int .i64 ((fr:Int)+ln))) v' (d.puts (J.area*(d.n / 2)) (J.secs sha)).1.flushed:=by
  have k3:=((Kept.of_below (F:=[b]) HB5.out).trans hk7 (fun q hq=>.inl hq)).trans (Kept.of_below (F:=[]) (xU (Below.refl _ w7) m8)) (fun q hq=>by cases hq)
  have k4:=k3.trans (zj (w7.drewN m8) b 8 (.int .i64 ((fr:Int)+ln))) (fun q hq=>.inl hq)
  exact HD4.out.kept k4 (fun q hq hm=>hnb (by rw[List.mem_singleton.1 hm] at hq;exact hq))
 have HFIN:=h_ (show xEs D b v d J (.slice ea ln ec) w (.returned (.int .i64 0)) ((w7.drewN m8).setCell ⟨b,8,none⟩ (.int .i64 ((fr:Int)+ln))) from
  ⟨rfl,hkk,by rw[←HA2.out,←HGG.out,HJF.out,←HUL.out,HJE.out,←HN.out];exact hr9,v',HP4.out.1,HP4.out.2,hdv,fun q hq=>by
   rcases HF4.out q hq with h1 | h1
   ·exact .inl h1
   ·exact .inr (Nat.le_trans HB2.out.size h1)⟩)
 clear hr8 hr9 hk7 hkk hnb hdv
 go_wp2
 go_ret
 exact HFIN.out
end
structure JAt (D:Nat)(w:World)(b:Nat)(v:Dev)(d:PD)(j:PJ)(ev:Value)(sy fa:Int):Prop where
 blk:w.heap[b]?=some (.cells (ya v.p d.n j.area j.gen j.first ev (j.secs sha).length sy fa) 135 (0,0))
 dev:yj D w v d
 ent:∃ vs,w.ownsRow D 66 1 ev j.entries.length vs
 inv:JInv sha d.n d j
 up:d.Up
 bB:D≤b
 bv:b ∉ v.foot
 eb:∀ k,ev.ownBlock=some k→k≠b∧k ∉ v.foot
theorem Tryz.info_ent:(Tryz.prog.info? 139).map (fun i=>(i.zero,i.size,i.bytes))=some (some (.agg #[.int .i64 0,.slice none 0 0]),2,32):=by kernel_rfl
def uj (k:Int)(v:Value):List Value:=[.int .i64 k,v]
def ve:List (Int × By × Value)→List Value:=List.flatMap fun x=>uj x.1 x.2.2
theorem xMp (l:List (Int × By × Value))(x:Int × By × Value):ve (l++[x])=ve l++uj x.1 x.2.2:=by simp[ve]
theorem xFb:∀ (l:List (Int × By × Value)) (j:Nat) (hj:j<l.length) (i:Nat),i<2→(ve l)[j*2+i]?=(uj l[j].1 l[j].2.2)[i]?
 | [],j,hj,_,_=>by cases hj
 | x :: l,0,_,i,hi=>by
  have e:ve (x :: l)=uj x.1 x.2.2++ve l:=rfl
  rw[e,Nat.zero_mul,Nat.zero_add,List.getElem?_append_left (by simpa[uj] using hi)];rfl
 | x :: l,j+1,hj,i,hi=>by
  have e:ve (x :: l)=uj x.1 x.2.2++ve l:=rfl
  rw[e,List.getElem?_append_right (by simp[uj];omega),show (uj x.1 x.2.2).length=2 from rfl,show (j+1)*2+i-2=j*2+i by omega]
  exact xFb l j (by simpa using hj) i hi
structure JeAt (w:World)(B:Nat)(v:Value)(l:List (Int × By × Value)):Prop where
 own:w.ownsRow B 139 2 v l.length (ve l)
 el:∀ x∈l,OwnB w B x.2.2 x.2.1∧x.2.2≠.slice none 0 0∧∀ k,x.2.2.ownBlock=some k→v.ownBlock≠some k
theorem JeAt.nil (w:World)(B:Nat):JeAt w B (.slice none 0 0) []:=⟨World.ownsRow_nil _ _ _ _,fun x hx=>by cases hx⟩
theorem JeAt.later {w w':World}{B:Nat}{v:Value}{l:List (Int × By × Value)}(h:JeAt w B v l)(hb:Below w.heap.size w w'):JeAt w' B v l :=
 ⟨jt h.own fun g _ hg=>hb.block g hg,fun x hx=>⟨(h.el x hx).1.below hb,(h.el x hx).2⟩⟩
theorem JeAt.base {w:World}{B B':Nat}{v:Value}{l:List (Int × By × Value)}(h:JeAt w B v l)(hb:B'≤B):JeAt w B' v l :=
 ⟨⟨h.own.1,h.own.2.imp (fun h=>h) fun⟨g,cap,cur,hv,hg,r⟩=>⟨g,cap,cur,hv,Nat.le_trans hb hg,r⟩⟩,fun x hx=>⟨(h.el x hx).1.base hb,(h.el x hx).2⟩⟩
theorem JeAt.get {w:World}{B:Nat}{v:Value}{l:List (Int × By × Value)}(h:JeAt w B v l)(j:Nat)(hj:j<l.length):∃ g cap gp pcap,v=.slice (some ⟨g,0,none⟩) l.length cap∧l.length≤cap ∧
  (∀ i u,(uj l[j].1 (.slice (some ⟨gp,0,none⟩) l[j].2.1.length pcap))[i]?=some u→w.cell? ⟨g,j*2+i,none⟩=some u) ∧
  gp<w.heap.size∧l[j].2.1.length≤pcap∧pcap≤maxLen∧SlB w ⟨gp,0,none⟩ l[j].2.1:=by
 obtain⟨h1,h2,_⟩:=h.el l[j] (List.getElem_mem hj)
 rcases h1.at with⟨h0,_⟩ | ⟨gp,pcap,hx,_,hl,hm,hs⟩
 ·exact absurd h0 h2
 rcases h.own.2 with⟨_,h0⟩ | ⟨g,cap,cur,hv,hg,hcur,hle,hmx,hcs,htk⟩
 ·omega
 ·refine⟨g,cap,gp,pcap,hv,hle,fun i u hu=>?_,(h1.lt (by rw[hx];rfl)).2,hl,hm,hs⟩
  have hi:i<2:=(List.getElem?_eq_some_iff.1 hu).1
  have hu2:(ve l)[j*2+i]?=some u:=by rw[xFb l j hj i hi,hx];exact hu
  have:=World.ownsRow.cells h.own (g:=g) (by rw[hv];rfl) (j*2+i) u hu2
  rwa [Addr.add_lit,Nat.zero_add] at this
theorem xGc {rest:List Oper}{ops:Array Oper}{o:Oper}{a:Act}{Q:Exit→Act→World→Prop}{w:World}(hgd:o.guard=none)(s x:Operand)
  (ho:o.op=.call { callee:=.builtin .append,args:=#[s,x],argTypes:=#[78,78] }) (B:Nat) (v:Value) (l:List (Int × By × Value)) (hs:a.eval s=v) (hje:JeAt w B v l)
  (r:Int × By × Value) (hr:OwnB w B r.2.2 r.2.1∧r.2.2≠.slice none 0 0∧∀ k,r.2.2.ownBlock=some k→v.ownBlock≠some k) (hone:r.2.2.oneCell'=true) (ad:Addr) (hx:a.eval x=.slice (some ad) 1 1)
  (hc:∀ j u,(uj r.1 r.2.2)[j]?=some u→w.cell? (ad.add j)=some u) (hlen:l.length≤1000000) (hB:B≤w.heap.size)
  (h:∀ v' w',JeAt w' B v' (l++[r])→w.grownBy w' v.ownBlock→(v'.ownBlock=v.ownBlock∨v'.ownBlock=some w.heap.size)→wpList Tryz.prog ops Q rest (a.put o.dst v') w'):wpList Tryz.prog ops Q (o :: rest) a w:=by
 obtain⟨i0,hi,hz0,hz1,hz2⟩:=info_parts Tryz.info_ent
 refine wpList_append_own_at w hgd s x 78 ho B 139 i0 (.agg #[.int .i64 0,.slice none 0 0]) 2 32 Tryz.underlying78 hi hz0 hz1 hz2 rfl (by decide) v l.length (ve l) hs hje.own ad 1 1 (uj r.1 r.2.2) hx rfl hc (fun u hu=>?_) (by unfold maxLen;omega) (by omega) hB fun v' w' h1 h2 _ h4=>?_
 ·simp only[uj,List.mem_cons,List.not_mem_nil,or_false] at hu
  rcases hu with rfl | rfl <;> first | rfl | exact hone
 ·refine h v' w' ⟨by rw[xMp];simpa using h1,fun y hy=>?_⟩ h2 h4
  have hy2:OwnB w B y.2.2 y.2.1∧y.2.2≠.slice none 0 0∧∀ k,y.2.2.ownBlock=some k→v.ownBlock≠some k:=by
   rcases List.mem_append.1 hy with h | h
   ·exact hje.el y h
   ·rw[List.mem_singleton.1 h];exact hr
  refine⟨hy2.1.grown h2 (fun k e e2=>hy2.2.2 k e2 e),hy2.2.1,fun k e e2=>?_⟩
  rcases h4 with h | h
  ·exact hy2.2.2 k e (h ▸ e2)
  ·have h5:=(hy2.1.lt e).2
   rw[h] at e2;have:=Option.some.inj e2;omega
section
attribute [local go_sem ↓] zN zz j3 vh
attribute [local go_sem] kg kd xHl xGk zt zw yD yC xj xh xe xd xA xz xo xl xt xC xx
theorem JAt.kept {D:Nat}{w w':World}{b:Nat}{v:Dev}{d:PD}{j:PJ}{ev:Value}{sy fa:Int}{F:List Nat}(h:JAt D w b v d j ev sy fa)(hk:Kept F w w')(hF:∀ k∈F,k≠b∧k ∉ v.foot∧ev.ownBlock≠some k):JAt D w' b v d j ev sy fa:=by
 obtain⟨vs,h2⟩:=h.ent
 have hb:=(i_ h.blk).1
 refine⟨(hk.block b hb (fun hm=>(hF b hm).1 rfl)).trans h.blk,h.dev.kept hk (fun k hk hm=>(hF k hm).2.1 hk),⟨vs,⟨h2.1,?_⟩⟩,h.inv,h.up,h.bB,h.bv,h.eb⟩
 rcases h2.2 with h0 | ⟨g,cap,cur,hv,hg,hcur,r⟩
 ·exact .inl h0
 ·exact .inr ⟨g,cap,cur,hv,hg,(hk.block g (i_ hcur).1 (fun hm=>(hF g hm).2.2 (by rw[hv];rfl))).trans hcur,r⟩
theorem JAt.below {D:Nat}{w w':World}{b:Nat}{v:Dev}{d:PD}{j:PJ}{ev:Value}{sy fa:Int}(h:JAt D w b v d j ev sy fa)(hb:Below w.heap.size w w'):JAt D w' b v d j ev sy fa :=
 h.kept (Kept.of_below (F:=[]) hb) (fun _ h=>by cases h)
theorem xRw {D:Nat}{w:World}{v:Dev}{d:PD}(h:yj D w v d)(hd:d.down=false)(hK:qF w)(hnone:curP sha d.n d=none)(hn8:8≤d.n) :
  Calls Tryz.prog 31 #[.pointer (some ⟨v.p,0,none⟩),.int .i64 0,.int .i64 d.n] w fun e w'=>e=.returned (.tuple #[.pointer none,.slice none 0 0,.int .i64 3])∧Below w.heap.size w w':=by
 obtain⟨w1,hw1⟩:∃ w1,w1=w.alloc (.cells (xE v.p d.n) 128):=⟨_,rfl⟩
 have hb1:Below w.heap.size w w1:=by rw[hw1];exact b_ _ _
 have hrow:w1.heap[w.heap.size]?=some (.cells (xE v.p d.n) 128 (0,0)):=by rw[hw1];exact heap_alloc_new w _
 have HCH:=h_ (kL (h.below hb1) hn8)
 rw[hd] at HCH
 have HCU:Hid (∀ W,Below w.heap.size w W→Calls Tryz.prog 55 #[.agg (xE v.p d.n)] W (xIt d W)):=h_ fun W hb=>xDf (h.below hb) hd (hK.below hb (Nat.le_refl _)) hn8
 obtain⟨n,hn⟩:∃ n,n=d.n:=⟨_,rfl⟩
 have HB1:=h_ hb1
 have HNONE:=h_ hnone
 rw[←hn] at hw1 HCH hrow HCU ⊢
 unfold xE at HCU
 have HROW:=h_ hrow
 obtain⟨o1,r1⟩:=xI (n:=3) hrow rfl
 have hft:xy 3 (xE v.p n)=true:=by simp[xE,xy,Value.oneCell']
 unfold xE at hw1 HCH r1 hft
 rw[hw1] at o1 r1
 clear h hd hn8 hn hb1 hrow hK hnone
 go_enter Tryz.func31,Tryz.ntmps31
 go_wp2_with fail
 rw[←hw1]
 clear hw1 o1 r1
 refine HCH.out.mono ?_
 rintro e w2 ⟨rfl,hb2⟩
 unfold xQ6
 have hr2:=(hb2.block _ (i_ HROW.out).1).trans HROW.out
 have HR2:=h_ hr2
 have HB2:=h_ (HB1.out.trans (hb2.mono HB1.out.size))
 obtain⟨o1,r1⟩:=xI (n:=3) hr2 rfl
 unfold xE at r1
 clear hb2 hr2
 go_wp2_with fail
 refine(HCU.out w2 HB2.out).mono ?_
 rintro e w3 ⟨hb3,ca,cg,cf,cv,cc,rfl,hca,hso⟩
 obtain⟨xa,xm,xk,hxv⟩:=hso.1
 have hcc:=hso.2
 rw[HNONE.out] at hcc
 obtain rfl:cc=false:=hcc
 subst hxv
 have HB3:=h_ (HB2.out.trans (hb3.mono HB2.out.size))
 have hfs:=vE cg cf (.slice xa xm xk) 0 rfl
 have hba:=h_ (HB3.out.alloc HB3.out.size (.cells #[.int .i64 cg,.int .i64 cf,.slice xa xm xk,.int .i64 0] 131))
 clear hso hca hb3 o1 r1
 go_wp2
 go_ret3
 exact⟨rfl,hba.out⟩
theorem xBj (d:PD):d.flushed.n=d.n:=rfl
theorem xCj {d:PD}(h:d.Up):d.flushed.Up:=h
def xLa (D:Nat)(v:Dev)(d:PD)(J:PJ)(w:World)(e:Ending)(w':World):Prop :=
 ∃ b v' ev entv l,e=.returned (.tuple #[.pointer (some ⟨b,0,none⟩),entv,.int .i64 0])∧Kept v.foot w w'∧JAt D w' b v' (d.puts (J.area*(d.n / 2)) (J.secs sha)).1.flushed J ev ((J.first:Int)+J.entries.length) 0∧w.heap.size≤b∧v'.p=v.p∧v'.M=v.M ∧
 (∀ k∈v'.foot,k∈v.foot∨w.heap.size≤k)∧(∀ k,ev.ownBlock=some k→w.heap.size≤k)∧JeAt w' w.heap.size entv l∧l.map (fun x=>x.2.1)=J.entries
structure JoSt (w5:World)(first:Nat)(L:List By)(k:Nat)(rv:Value)(W:World):Prop where
 bel:Below w5.heap.size w5 W
 je:∃ l,JeAt W w5.heap.size rv l∧l.map (fun x=>x.2.1)=L.take k
theorem xHs {D:Nat}{w:World}{v:Dev}{d:PD}(h:yj D w v d)(hu:d.Up)(hK:qF w)(j:PJ)(hinv:JInv sha d.n d j)(hg2:j.gen+2≤2147483647)(hpend:d.pend=[])(hD:D≤w.heap.size)(hlen:j.entries.length≤1000)(hDg:2<D)(hn8:8≤d.n) :
  Calls Tryz.prog 31 #[.pointer (some ⟨v.p,0,none⟩),.int .i64 0,.int .i64 d.n] w (xLa D v d (jd sha d.n d j) w):=by
 obtain⟨w1,hw1⟩:∃ w1,w1=w.alloc (.cells (xE v.p d.n) 128):=⟨_,rfl⟩
 have hb1:Below w.heap.size w w1:=by rw[hw1];exact b_ _ _
 have hrow:w1.heap[w.heap.size]?=some (.cells (xE v.p d.n) 128 (0,0)):=by rw[hw1];exact heap_alloc_new w _
 have HCH:=h_ (kL (h.below hb1) hn8)
 rw[hu.1] at HCH
 have HCU:Hid (∀ W,Below w.heap.size w W→Calls Tryz.prog 55 #[.agg (xE v.p d.n)] W (xIt d W)):=h_ fun W hb=>xDf (h.below hb) hu.1 (hK.below hb (Nat.le_refl _)) hn8
 have hcur:=hinv.cur sha yV
 have HMV:Hid (∀ W b ev vs,Below w.heap.size w W→EnAt W w.heap.size ev j.entries vs→b ∉ v.foot→W.heap[b]?=some (.cells (ya v.p d.n j.area j.gen j.first ev 0 0 0) 135 (0,0))→Calls Tryz.prog 56 #[.pointer (some ⟨b,0,none⟩),.int .i64 j.first,ev] W (xEs D b v d (jd sha d.n d j) ev W)):=h_ fun W b ev vs hb hen hbf hr =>
  xRy (h.below hb) hu (hK.below hb (Nat.le_refl _)) j hinv hg2 ev vs hen hb.size (fun k hk=>(h.foot_lt k hk).2) hpend (Nat.le_trans hD hb.size) hlen hDg hbf hr
 obtain⟨n,hn⟩:∃ n,n=d.n:=⟨_,rfl⟩
 have HB1:=h_ hb1
 obtain⟨J,hJ⟩:∃ J,J=jd sha d.n d j:=⟨_,rfl⟩
 obtain⟨_,ru,_,rn,rinv⟩:=hinv.reopen sha yV hu hg2
 have rup:=(PD.puts_up ((jd sha d.n d j).secs sha) d ((1-j.area)*(d.n / 2)) hu).2.1
 have HJA:Hid ((1-j.area)=J.area):=h_ (by rw[hJ];rfl)
 rw[←hJ] at ru rn rinv rup HMV ⊢
 rw[HJA.out] at ru rn rinv rup
 have HRE:=h_ (And.intro rn (And.intro rinv rup))
 have HJE:Hid (J.entries=j.entries∧J.first=j.first):=h_ (by rw[hJ];exact⟨rfl,rfl⟩)
 have HCURP:=h_ hcur
 have HD:=h_ h
 have HDD:=h_ hD
 have hfz:(j.first:Int)≤2147483647:=by have:=hinv.ok.first;omega
 have haz:(j.area:Int)≤1:=by have:=hinv.ok.area;omega
 have hgz:(j.gen:Int)≤2147483647:=by have:=hinv.ok.gen;omega
 have hents:=h_ hinv.ok.ents
 have HN:=h_ hn
 rw[←hn] at hw1 HCH hrow HCU HMV ⊢
 unfold xE at HCU
 have HROW:=h_ hrow
 obtain⟨o1,r1⟩:=xI (n:=3) hrow rfl
 have hft:xy 3 (xE v.p n)=true:=by simp[xE,xy,Value.oneCell']
 unfold xE at hw1 HCH r1 hft
 rw[hw1] at o1 r1
 clear h hn8 hn hb1 hrow hK hu hinv hg2 hpend hD hDg hcur hJ rn rinv rup ru
 go_enter Tryz.func31,Tryz.ntmps31
 go_wp2_with fail
 rw[←hw1]
 clear hw1 o1 r1
 refine HCH.out.mono ?_
 rintro e w2 ⟨rfl,hb2⟩
 unfold xQ6
 have hr2:=(hb2.block _ (i_ HROW.out).1).trans HROW.out
 have HR2:=h_ hr2
 have HB2:=h_ (HB1.out.trans (hb2.mono HB1.out.size))
 obtain⟨o1,r1⟩:=xI (n:=3) hr2 rfl
 unfold xE at r1
 clear hb2 hr2
 go_wp2_with fail
 refine(HCU.out w2 HB2.out).mono ?_
 rintro e w3 ⟨hb3,ca,cg,cf,cv,cc,rfl,hca,hso⟩
 have hcc:=hso.2
 have hca2:=hca j HCURP.out
 rw[HCURP.out] at hcc
 obtain⟨rfl,rfl,rfl,vs,hen⟩:=hcc
 subst hca2
 obtain⟨ea,ec,hev⟩:=yH hen.own
 obtain⟨ln,hln⟩:∃ ln,ln=j.entries.length:=⟨_,rfl⟩
 rw[←hln] at hev hlen
 subst hev
 have HLN:=h_ hln
 have HB3:=h_ (HB2.out.trans (hb3.mono HB2.out.size))
 have hr3:=(hb3.block _ (i_ HR2.out).1).trans HR2.out
 have hfs:=vE j.gen j.first (.slice ea ln ec) 0 rfl
 obtain⟨w5,hw5⟩:∃ w5,w5=(w3.alloc (.cells #[.int .i64 j.gen,.int .i64 j.first,.slice ea ln ec,.int .i64 0] 131)).alloc (.cells (ya v.p n j.area j.gen j.first (.slice ea ln ec) 0 0 0) 135):=⟨_,rfl⟩
 have hb5:Below w3.heap.size w3 w5:=by rw[hw5];exact((Below.refl _ _).alloc (Nat.le_refl _) _).alloc (by simp) _
 have hs5:w5.heap.size=w3.heap.size+2:=by rw[hw5];simp
 have hx5:w5.heap[w3.heap.size]?=some (.cells #[.int .i64 j.gen,.int .i64 j.first,.slice ea ln ec,.int .i64 0] 131 (0,0)):=by
  rw[hw5,heap_alloc_old _ _ (by simp),heap_alloc_new]
 have hj5:w5.heap[w3.heap.size+1]?=some (.cells (ya v.p n j.area j.gen j.first (.slice ea ln ec) 0 0 0) 135 (0,0)):=by
  have:=heap_alloc_new (w3.alloc (.cells #[.int .i64 j.gen,.int .i64 j.first,.slice ea ln ec,.int .i64 0] 131)) (.cells (ya v.p n j.area j.gen j.first (.slice ea ln ec) 0 0 0) 135)
  rw[World.size_alloc] at this
  rw[hw5,this]
 have HEN:=h_ (hen.base HB2.out.size)
 have HB5:=h_ hb5
 have HS5:=h_ hs5
 have HX5:=h_ hx5
 have HJ5:=h_ hj5
 have HBF:=h_ (show w3.heap.size+1 ∉ v.foot from fun hm=>by have:=(HD.out.foot_lt _ hm).2;have:=HB3.out.size;omega)
 have HMV2:=h_ (HMV.out w5 (w3.heap.size+1) _ vs (HB3.out.trans (HB5.out.mono HB3.out.size)) (HEN.out.later HB5.out) HBF.out HJ5.out)
 have hz4:∀ z:World,z.heap[w.heap.size]?=some (.cells (xE v.p n) 128 (0,0))→xq z ⟨w.heap.size,0,none⟩ 3=true∧xp z ⟨w.heap.size,0,none⟩ 3=xE v.p n:=fun z hz=>xI (n:=3) hz rfl
 obtain⟨o3,r3⟩:=hz4 _ ((heap_alloc_old (w:=w3) (o:=.cells #[.int .i64 j.gen,.int .i64 j.first,.slice ea ln ec,.int .i64 0] 131) (h:=(i_ hr3).1)).trans hr3)
 unfold xE at r3
 obtain⟨o4,r4⟩:=xI (n:=4) (heap_alloc_new w3 (.cells #[.int .i64 j.gen,.int .i64 j.first,.slice ea ln ec,.int .i64 0] 131)) rfl
 have c1:=cell_of_row w5 w3.heap.size 1 _ _ _ hx5
 have c2:=cell_of_row w5 w3.heap.size 2 _ _ _ hx5
 simp only[v_] at c1 c2
 unfold ya at hw5
 clear hso hca hb3 o1 r1 hen hb5 hs5 hx5 hj5 hr3 hz4 hln HMV
 go_upto_region 11 with fail
 refine xu hw5 ?_
 clear hw5 o3 r3 hfs hft o4 r4
 go_wp2_with fail
 refine HMV2.out.mono ?_
 rintro e w6 ⟨rfl,hk6,hj6,v',hp6,hM6,hd6,hf6⟩
 obtain⟨hrn,hrinv,hrup⟩:=HRE.out
 have hb53:=HB5.out.size
 have hB3s:=HB3.out.size
 have hx6:w6.heap[w3.heap.size]?=some (.cells #[.int .i64 j.gen,.int .i64 j.first,.slice ea ln ec,.int .i64 0] 131 (0,0)):=(hk6.block _ (by have:=HS5.out;omega) (fun hm=>by
  rcases List.mem_cons.1 hm with h1 | h1
  ·omega
  ·have:=(HD.out.foot_lt _ h1).2;omega)).trans HX5.out
 have hen6:EnAt w6 w.heap.size (.slice ea ln ec) j.entries vs:=HEN.out.under fun g hg1 hg2=>(hk6.block g (by omega) (fun hm=>by
  rcases List.mem_cons.1 hm with h1 | h1
  ·omega
  ·have:=(HD.out.foot_lt _ h1).2;omega)).trans (HB5.out.block g hg2)
 have hft6:∀ q∈v'.foot,q∈v.foot∨w5.heap.size≤q:=hf6
 have hjat:JAt D w6 (w3.heap.size+1) v' (d.puts (J.area*(d.n / 2)) (J.secs sha)).1.flushed J (.slice ea ln ec) ((J.first:Int)+J.entries.length) 0:=by
  have hnn:(d.puts (J.area*(d.n / 2)) (J.secs sha)).1.flushed.n=d.n:=hrn
  refine⟨by rw[hp6,hnn];exact hj6,hd6,⟨vs,?_⟩,by rw[hnn];exact JInv.flushed sha hrinv,xCj hrup,by have:=HDD.out;omega,fun hm=>?_,fun q hq=>⟨?_,fun hm=>?_⟩⟩
  ·have h1:=(hen6.base (B':=D) HDD.out).own
   rw[HJE.out.1];exact h1
  ·rcases hft6 _ hm with h1 | h1
   ·exact HBF.out h1
   ·have:=HS5.out;omega
  ·have:=(World.ownsRow.lt HEN.out.own q hq).2;omega
  ·have h0:=World.ownsRow.lt HEN.out.own q hq
   rcases hft6 _ hm with h1 | h1
   ·have:=(HD.out.foot_lt _ h1).2;omega
   ·omega
 have hkw:Kept v.foot w w6:=by
  refine((Kept.of_below (F:=v.foot) (HB3.out.trans (HB5.out.mono HB3.out.size))).trans hk6 (fun q hq=>?_))
  rcases List.mem_cons.1 hq with h1 | h1
  ·exact .inr (by omega)
  ·exact .inl h1
 have HFIN:Hid (∀ W rv l,Below w6.heap.size w6 W→JeAt W w6.heap.size rv l→l.map (fun x=>x.2.1)=j.entries→xLa D v d J w (.returned (.tuple #[.pointer (some ⟨w3.heap.size+1,0,none⟩),rv,.int .i64 0])) W):=h_ fun W rv l hb hje hl=>by
  refine⟨w3.heap.size+1,v',.slice ea ln ec,rv,l,rfl,hkw.trans (Kept.of_below (F:=[]) hb) (fun _ h=>by cases h),hjat.below hb,by omega,hp6,hM6,fun q hq=>?_,fun q hq=>(World.ownsRow.lt HEN.out.own q hq).1,hje.base hkw.size,by rw[hl,HJE.out.1]⟩
  rcases hft6 q hq with h1 | h1
  ·exact .inl h1
  ·exact .inr (by omega)
 have c2:=cell_of_row w6 w3.heap.size 2 _ _ _ hx6
 simp only[v_] at c2
 have HX6:=h_ hx6
 have HEN6:=h_ hen6
 have HST:Hid (JoSt w6 j.first j.entries 0 (.slice none 0 0) w6):=h_ ⟨Below.refl _ _,[],JeAt.nil _ _,rfl⟩
 have hlz:(ln:Int)≤1000:=by omega
 clear hk6 hj6 hp6 hM6 hd6 hf6 hrn hrinv hrup hx6 hen6 hft6 hjat hkw c1 HMV2 HJ5 HX5
 go_wp2
 go_loopw [58,17] (fun u rv wr=>∃ k:Nat,u=.int .i64 k∧k≤ln∧Hid (JoSt w6 j.first j.entries k rv wr)) (fun u _ _=>ln-(intOf u).toNat)
 case atStart=>exact⟨0,rfl,Nat.zero_le _,HST⟩
 case round =>
  obtain⟨k,rfl,hk,HS⟩:=hrel
  by_cases hlt:k<ln
  ·have hltz:(k:Int)<ln:=by omega
   have hkl:k<j.entries.length:=by rw[←HLN.out];exact hlt
   obtain⟨g,cap,e0,ecap,hv,hcl,hBe,hes,hel,hsb,hob⟩:=HEN6.out.get k hkl
   have hea:ea=some ⟨g,0,none⟩:=by injection hv
   subst hea
   obtain⟨y,hy⟩:∃ y,y=j.entries[k]:=⟨_,rfl⟩
   have hyl:y.length≤131072:=by rw[hy];exact hents.out _ (List.getElem_mem hkl)
   rw[←hy] at hcl hel hsb hob
   have hcl':=(HS.out.bel.cell (p:=⟨g,k,none⟩) (block_lt_of_cell hcl)).trans hcl
   have hxr:=(HS.out.bel.block _ (i_ HX6.out).1).trans HX6.out
   have cf:=cell_of_row wr w3.heap.size 1 _ _ _ hxr
   simp only[v_] at cf
   have z1:∀ z:xf wr,z.1.cell? ⟨w3.heap.size,1,none⟩=some (.int .i64 j.first):=fun z=>z.cell cf
   have hsbr:SlB wr.drew ⟨e0,0,none⟩ y:=⟨fun q c hq=>(HS.out.bel.cell (by rw[y9];exact hes)).trans (hsb.cell q c hq)⟩
   have HCL:=h_ (jH ⟨e0,0,none⟩ y ecap wr.drew hsbr (by omega))
   obtain⟨l,hje,hl⟩:=HS.out.je
   have HJL:=h_ hje
   have HLL:=h_ hl
   have hll:l.length=k:=by
    have:=congrArg List.length hl
    rw[List.length_map,List.length_take,←HLN.out] at this;omega
   have HLK:=h_ hll
   have HTK:Hid (j.entries.take (k+1)=j.entries.take k++[y]):=h_ (by rw[List.take_succ_eq_append_getElem hkl,hy])
   have hkz:(k:Int)≤1000:=by omega
   have hk1:k+1≤ln:=hlt
   obtain⟨yn,hyn⟩:∃ yn,yn=y.length:=⟨_,rfl⟩
   rw[←hyn] at hcl' HCL
   have HYN:=h_ hyn
   clear hkl hcl hes hel hsb hob hxr cf hsbr hje hl hll hv hy hyn
   go_upto_region 18 with fail
   clear hcl'
   refine xw [0,1,2,3,4,5] [6,7,8,9,10] (fun w'=>∃ z:xf wr,w'=z.1) (by kernel_rfl) (by kernel_rfl) (by kernel_rfl) ⟨⟨wr.drew,(Below.refl _ _).drew⟩,rfl⟩ ?_
   simp only[o_]
   repeat (go_big_quiet_step (fail))
   refine wpQuiet_nil ?_
   clear z1
   refine yz true (by kernel_rfl) (by kernel_rfl) ?_
   simp only[o_]
   go_wp2_with fail
   refine HCL.out.mono ?_
   rintro e w7 ⟨cv,rfl,hown7,hvn7,hb7⟩
   have hb7r:Below wr.heap.size wr w7:=(Below.refl wr.heap.size wr).drew.trans (hb7.mono (Nat.le_refl _))
   obtain⟨cg,cc,hcv,_,_,_,_⟩:∃ g cap,cv=.slice (some ⟨g,0,none⟩) y.length cap∧wr.drew.heap.size≤g∧y.length≤cap∧cap≤maxLen∧SlB w7 ⟨g,0,none⟩ y:=by
    rcases hown7.at with⟨h0,_⟩ | h0
    ·exact absurd h0 hvn7
    ·exact h0
   rw[←HYN.out] at hcv
   subst hcv
   have hba:Below w7.heap.size w7 (w7.alloc (.cells #[.int .i64 ((j.first:Int)+k),.slice (some ⟨cg,0,none⟩) yn cc] 139)):=(Below.refl _ _).alloc (Nat.le_refl _) _
   have HB8:=h_ (hb7r.trans (hba.mono hb7r.size))
   have HJ8:=h_ ((HJL.out.later hb7r).later hba)
   have HR8:Hid (OwnB (w7.alloc (.cells #[.int .i64 ((j.first:Int)+k),.slice (some ⟨cg,0,none⟩) yn cc] 139)) w6.heap.size (.slice (some ⟨cg,0,none⟩) yn cc) y∧(Value.slice (some ⟨cg,0,none⟩) yn cc)≠.slice none 0 0∧∀ q,(Value.slice (some ⟨cg,0,none⟩) yn cc).ownBlock=some q→u17.ownBlock≠some q):=h_ ⟨(hown7.below hba).base HS.out.bel.size,hvn7,fun q e e2=>by
    have h1:=(hown7.lt e).1
    have h2:=(World.ownsRow.lt HJL.out.own q e2).2
    exact absurd h1 (Nat.not_le.2 h2)⟩
   have HC8:Hid (∀ i u,(uj ((j.first:Int)+k) (.slice (some ⟨cg,0,none⟩) yn cc))[i]?=some u→(w7.alloc (.cells #[.int .i64 ((j.first:Int)+k),.slice (some ⟨cg,0,none⟩) yn cc] 139)).cell? ((⟨w7.heap.size,0,none⟩:Addr).add i)=some u):=h_ fun i u hi=>by
    rw[Addr.add_lit,Nat.zero_add,yy]
    simpa[uj] using hi
   have HL8:Hid (l.length≤1000000):=h_ (by rw[HLK.out];omega)
   have HS8:Hid (w6.heap.size≤(w7.alloc (.cells #[.int .i64 ((j.first:Int)+k),.slice (some ⟨cg,0,none⟩) yn cc] 139)).heap.size):=h_ (Nat.le_trans HS.out.bel.size HB8.out.size)
   have hcl8:Below wr.heap.size wr (w7.alloc (.cells #[.int .i64 ((j.first:Int)+k),.slice (some ⟨cg,0,none⟩) yn cc] 139)):=HB8.out
   have HB7R:=h_ hb7r
   clear hown7 hvn7 hb7 hba hb7r hcl8
   go_wp2_with fail
   refine⟨fun _=>⟨⟨_,HB7R.out⟩,rfl⟩,yz true (by kernel_rfl) (by kernel_rfl) ?_⟩
   simp only[o_]
   go_wp2
   refine⟨fun _=>⟨⟨_,HB7R.out⟩,rfl⟩,yz true (by kernel_rfl) (by kernel_rfl) ?_⟩
   simp only[o_]
   go_wp2
   refine⟨fun _=>⟨⟨_,HB8.out⟩,rfl⟩,xG [9,10] _ _ (by kernel_rfl) ?_⟩
   simp only[o_]
   go_wp2_with (at_builtin;refine xGc rfl (.tmp 63) (.tmp 71) rfl w6.heap.size _ _ rfl HJ8.out ((j.first:Int)+k,y,.slice (some ⟨cg,0,none⟩) yn cc) HR8.out rfl ⟨w7.heap.size,0,none⟩ rfl HC8.out HL8.out HS8.out ?_)
   intro v9 w9 hje9 hg9 _
   have HN2:Hid (JoSt w6 j.first j.entries (k+1) v9 w9):=h_ ⟨(HS.out.bel.trans (HB8.out.mono HS.out.bel.size)).grown hg9 HS8.out (fun q e=>(World.ownsRow.lt HJL.out.own q e).1),_,hje9,by rw[List.map_append,HLL.out,HTK.out];rfl⟩
   clear hje9 hg9
   go_wp2
   refine NoPanic.normal ?_
   go_wp2
   go_roundw
   case rel=>exact⟨k+1,by go_num,hk1,HN2⟩
   case measure=>simp[intOf];omega
  ·obtain rfl:k=ln:=by omega
   obtain⟨l,hje,hl⟩:=HS.out.je
   rw[List.take_of_length_le (by rw[←HLN.out];exact Nat.le_refl _)] at hl
   have HF:=h_ (HFIN.out wr u17 l HS.out.bel hje hl)
   clear hje hl
   go_wp2
   go_ret3
   exact HF.out
end
theorem xNq (b g:Nat)(w:World)(h:w.cell? ⟨g,0,none⟩=some (.int .i64 0)):CallsD Tryz.prog 74 #[.pointer (some ⟨b,0,none⟩),.pointer (some ⟨g,0,none⟩)] .returning w fun e u' w'=>u'=.returning∧(e=.returned (.tuple #[])∧w'=w):=by
 go_enter_d Tryz.func74,Tryz.ntmps74
 go_wp2
 go_end0
 exact⟨rfl,rfl⟩
theorem xHh (w:World)(a:Addr)(v:Value)(h:w.cell? a=some v):(loadVar 24 a).run Tryz.prog w=.ok v w:=by
 have hA:Sem.run Tryz.prog (isAgg 24) w=.ok false w:=by kernel_rfl
 unfold loadVar
 simp[hA,h]
theorem xUe {fn:Func}{p:Tmp}(h:fn.results=#[.cell p 24])(tmps:Array Value)(w:World)(a:Addr)(v:Value)(hp:tmps.getD p undef=.pointer (some a))(hv:w.cell? a=some v):(results fn tmps).run Tryz.prog w=.ok v w:=by
 have hp':tmps[p]?.getD undef=.pointer (some a):=by simpa using hp
 simp[results,h,hp',asAddr,xHh w a v hv]
theorem xM1 {fn:Func}{s p:Tmp}(h:fn.results=#[.tmp s,.cell p 24])(tmps:Array Value)(w:World)(a:Addr)(v0 v:Value)(h0:tmps.getD s undef=v0)(hp:tmps.getD p undef=.pointer (some a))(hv:w.cell? a=some v):(results fn tmps).run Tryz.prog w=.ok (.tuple #[v0,v]) w:=by
 have hp':tmps[p]?.getD undef=.pointer (some a):=by simpa using hp
 have h0':tmps[s]?.getD undef=v0:=by simpa using h0
 simp[results,h,hp',h0',asAddr,xHh w a v hv]
def xL9 (D b:Nat)(v:Dev)(d:PD)(j:PJ)(ev:Value)(w:World)(e:Ending)(w':World):Prop :=
 e=.returned (.int .i64 0)∧Kept (b :: v.foot) w w'∧∃ v' sy',v'.p=v.p∧v'.M=v.M∧JAt D w' b v' d.flushed j ev sy' 0∧∀ k∈v'.foot,k∈v.foot∨w.heap.size≤k
theorem xBg {D b:Nat}{w:World}{v:Dev}{d:PD}{j:PJ}{ev:Value}{sy:Int}(h:JAt D w b v d j ev sy 0)(hlen:j.entries.length≤100000) :
  Calls Tryz.prog 37 #[.pointer (some ⟨b,0,none⟩)] w (xL9 D b v d j ev w):=by
 obtain⟨vs,hown⟩:=h.ent
 obtain⟨ea,ec,hev⟩:=yH hown
 obtain⟨ln,hln⟩:∃ ln,ln=j.entries.length:=⟨_,rfl⟩
 rw[←hln] at hev hlen
 subst hev
 have hbl:=(i_ h.blk).1
 obtain⟨w1,hw1⟩:∃ w1,w1=w.alloc (.cells #[.int .i64 0] 24):=⟨_,rfl⟩
 have hb1:Below w.heap.size w w1:=by rw[hw1];exact b_ _ _
 have he1:w1.heap[w.heap.size]?=some (.cells #[.int .i64 0] 24 (0,0)):=by rw[hw1];exact heap_alloc_new w _
 have hr1:=(hb1.block b hbl).trans h.blk
 have HFA:=h_ (xAt hr1)
 have HFL:=h_ (xKu (h.dev.below hb1) h.up.1)
 have HUF:Hid (d.flush=(d.flushed,true)):=h_ (xPj h.up)
 have c0:=cell_of_row w1 b 0 _ _ _ hr1
 simp only[ya,v_] at c0
 have hfz:j.first≤2147483647:=h.inv.ok.first
 have H:=h_ h
 have HB1:=h_ hb1
 have HE1:=h_ he1
 have HR1:=h_ hr1
 have HLN:=h_ hln
 clear h hb1 he1 hr1 hown hln
 go_enter_defers Tryz.func37,Tryz.ntmps37
 go_upto_region 1 with fail
 refine xu hw1 ?_
 clear hw1
 go_wp2_with fail
 refine HFA.out.mono ?_
 rintro e w2 ⟨rfl,rfl⟩
 go_wp2_with fail
 refine HFL.out.mono ?_
 rintro e w2 ⟨rfl,hk2,v',hp2,hM2,hd2,hf2⟩
 rw[HUF.out] at hd2 ⊢
 have hbf:b ∉ v.foot:=H.out.bv
 have hr2:=(hk2.block b (Nat.lt_of_lt_of_le hbl HB1.out.size) hbf).trans HR1.out
 have HR2:=h_ hr2
 have HNO:=h_ (xAs hr2 hfz (by omega))
 have he2:=(hk2.block w.heap.size (i_ HE1.out).1 (fun hm=>Nat.lt_irrefl _ (H.out.dev.foot_lt _ hm).2)).trans HE1.out
 have HE2:=h_ he2
 have HK2:=h_ hk2
 have HD2:=h_ (And.intro hp2 (And.intro hM2 (And.intro hd2 hf2)))
 clear hr2 he2 hk2 hp2 hM2 hd2 hf2 c0
 go_wp2_with fail
 refine HNO.out.mono ?_
 rintro e w3 ⟨rfl,m3,rfl⟩
 have hb3:Below w2.heap.size w2 (w2.drewN m3):=xU (Below.refl _ _) m3
 have hr3:=(hb3.block b (i_ HR2.out).1).trans HR2.out
 have he3:=(hb3.block _ (i_ HE2.out).1).trans HE2.out
 have c8:=cell_of_row (w2.drewN m3) b 8 _ _ _ hr3
 have f8:=frozen_of_row (w2.drewN m3) b 8 _ _ hr3
 simp only[ya,v_] at c8
 have hne:w.heap.size≠b:=by omega
 obtain⟨w4,hw4⟩:∃ w4,w4=(w2.drewN m3).setCell ⟨b,8,none⟩ (.int .i64 ((j.first:Int)+ln)):=⟨_,rfl⟩
 have he4:w4.heap[w.heap.size]?=some (.cells #[.int .i64 0] 24 (0,0)):=by rw[hw4];exact(heap_setCell_other _ ⟨b,8,none⟩ w.heap.size _ hne).trans he3
 have hr4:w4.heap[b]?=some (.cells (ya v.p d.n j.area j.gen j.first (.slice ea ln ec) (j.secs sha).length ((j.first:Int)+ln) 0) 135 (0,0)):=by rw[hw4,heap_setCell_same _ b 8 _ _ _ hr3];rfl
 have hk4:Kept [b] w2 w4:=by
  rw[hw4]
  exact(Kept.of_below (F:=[b]) hb3).trans (zj (w2.drewN m3) b 8 _) (fun q hq=>.inl hq)
 have c4:=cell_of_row w4 w.heap.size 0 _ _ _ he4
 have f4:=frozen_of_row w4 w.heap.size 0 _ _ he4
 simp only[v_] at c4
 have he5:(w4.setCell ⟨w.heap.size,0,none⟩ (.int .i64 0)).heap[w.heap.size]?=some (.cells #[.int .i64 0] 24 (0,0)):=by rw[heap_setCell_same w4 w.heap.size 0 _ _ _ he4];rfl
 have hk5:Kept [w.heap.size] w4 (w4.setCell ⟨w.heap.size,0,none⟩ (.int .i64 0)):=zj w4 w.heap.size 0 _
 obtain⟨hp2,hM2,hd2,hf2⟩:=HD2.out
 have hbv':b ∉ v'.foot:=fun hm=>by
  rcases hf2 b hm with h1 | h1
  ·exact hbf h1
  ·have:=HB1.out.size;omega
 have hsv':w.heap.size ∉ v'.foot:=fun hm=>by
  rcases hf2 _ hm with h1 | h1
  ·exact Nat.lt_irrefl _ (H.out.dev.foot_lt _ h1).2
  ·have:=(i_ HE1.out).1;omega
 have hjat:JAt D (w4.setCell ⟨w.heap.size,0,none⟩ (.int .i64 0)) b v' d.flushed j (.slice ea ln ec) ((j.first:Int)+ln) 0:=by
  obtain⟨vs',hown⟩:=H.out.ent
  have hkall:Kept (w.heap.size :: b :: v.foot) w1 (w4.setCell ⟨w.heap.size,0,none⟩ (.int .i64 0)):=((HK2.out.mono (fun q hq _=>List.mem_cons_of_mem _ (List.mem_cons_of_mem _ hq))).trans hk4 (fun q hq=>.inl (by rw[List.mem_singleton.1 hq];simp))).trans hk5 (fun q hq=>.inl (by rw[List.mem_singleton.1 hq];simp))
  refine⟨?_,?_,⟨vs',?_⟩,JInv.flushed sha H.out.inv,xCj H.out.up,H.out.bB,hbv',fun q hq=>⟨(H.out.eb q hq).1,fun hm=>?_⟩⟩
  ·rw[hp2]
   exact(heap_setCell_other w4 ⟨w.heap.size,0,none⟩ b _ hne.symm).trans hr4
  ·exact hd2.kept (F:=[b,w.heap.size]) ((hk4.mono (fun q hq _=>by simp at hq;simp[hq])).trans hk5 (fun q hq=>.inl (by simp at hq;simp[hq]))) (fun q hq hm=>by
    simp only[List.mem_cons,List.not_mem_nil,or_false] at hm
    rcases hm with h1 | h1
    ·exact hbv' (h1 ▸ hq)
    ·exact hsv' (h1 ▸ hq))
  ·refine⟨hown.1,?_⟩
   rcases hown.2 with h0 | ⟨g,cap,cur,hv,hg,hcur,r⟩
   ·exact .inl h0
   ·have hgl:=(i_ hcur).1
    have hge:=H.out.eb g (by rw[hv];rfl)
    refine .inr ⟨g,cap,cur,hv,hg,(hkall.block g (Nat.lt_of_lt_of_le hgl HB1.out.size) (fun hm=>?_)).trans ((HB1.out.block g hgl).trans hcur),r⟩
    rcases List.mem_cons.1 hm with h1 | h1
    ·omega
    ·rcases List.mem_cons.1 h1 with h2 | h2
     ·exact hge.1 h2
     ·exact hge.2 h2
  ·rcases hf2 q hm with h1 | h1
   ·exact(H.out.eb q hq).2 h1
   ·have h0:=(World.ownsRow.lt hown q hq).2;have:=HB1.out.size;omega
 have hkw:Kept (b :: v.foot) w (w4.setCell ⟨w.heap.size,0,none⟩ (.int .i64 0)):=by
  have k1:=(Kept.of_below (F:=b :: v.foot) HB1.out).trans HK2.out (fun q hq=>.inl (List.mem_cons_of_mem _ hq))
  have k2:=k1.trans hk4 (fun q hq=>.inl (by rw[List.mem_singleton.1 hq];exact List.mem_cons_self ..))
  exact k2.trans hk5 (fun q hq=>.inr (by rw[List.mem_singleton.1 hq];exact Nat.le_refl _))
 have HFIN:=h_ (show xL9 D b v d j (.slice ea ln ec) w (.returned (.int .i64 0)) (w4.setCell ⟨w.heap.size,0,none⟩ (.int .i64 0)) from ⟨rfl,hkw,v',_,hp2,hM2,hjat,fun q hq=>by
  rcases hf2 q hq with h1 | h1
  ·exact .inl h1
  ·exact .inr (Nat.le_trans HB1.out.size h1)⟩)
 have HE5:=h_ he5
 clear hr3 he3 hne he4 hr4 hk4 hk5 hp2 hM2 hd2 hf2 hbv' hsv' hjat hkw hb3 he5
 go_upto_region 9 with fail
 refine xu hw4 ?_
 clear hw4 c8 f8
 go_wp2
 have hc5:=cell_of_row _ w.heap.size 0 _ _ _ HE5.out
 refine leaves_cons (f:=74) (args:=#[.pointer (some ⟨b,0,none⟩),.pointer (some ⟨w.heap.size,0,none⟩)]) (by simp) (by simp[go_sem]) ?_
 refine(xNq b w.heap.size _ hc5).mono ?_
 rintro e u' w'' ⟨rfl,rfl,rfl⟩
 exact⟨_,xUe rfl _ _ _ _ rfl hc5,HFIN.out⟩
section
attribute [local go_sem ↓] qQ qq zN zz
attribute [local go_sem] xEh xE4 kg kd zt zw yD yC xj xh xe xd xA xz xo xl xt xC xx
def xQq (D b:Nat)(v:Dev)(d:PD)(j:PJ)(y:By)(ev:Value)(sy:Int)(w:World)(e:Ending)(w':World):Prop :=
 e=.returned (.tuple #[.int .i64 ((j.first:Int)+j.entries.length),.int .i64 0])∧Kept (b :: (v.foot++ev.ownBlock.toList)) w w'∧∃ v' ev',v'.p=v.p∧v'.M=v.M ∧
  JAt D w' b v' (d.puts (j.area*(d.n / 2)+(j.secs sha).length) (yf sha (j.body y))).1 (j.add y) ev' sy 0∧(∀ k∈v'.foot,k∈v.foot∨w.heap.size≤k)∧∀ k,ev'.ownBlock=some k→ev.ownBlock=some k∨w.heap.size≤k
def JbC (b:Nat)(cs:Array Value):Type:={ z:World // z.heap[b]?=some (.cells cs 135 (0,0)) }
theorem JbC.cell {b:Nat}{cs:Array Value}(z:JbC b cs)(j:Nat):z.1.cell? ⟨b,j,none⟩=cs[j]?:=cell_of_row _ _ _ _ _ _ z.2
theorem xPa {D b:Nat}{w:World}{v:Dev}{d:PD}{j:PJ}{ev:Value}{sy:Int}(h:JAt D w b v d j ev sy 0)(hK:qF w)(y:By)(a:Addr)(cap:Nat)(hs:SlB w a y)(ha:a.block<w.heap.size)(hav:a.block ∉ v.foot)(hl:y.length≤cap)(hy:y.length≤100000)
  (hfree:(j.secs sha).length+xY y.length≤d.n / 2) (hfew:d.pend.length+xY y.length≤1000000) (hlen:j.entries.length≤100000) (hD:D≤w.heap.size) :
  Calls Tryz.prog 67 #[.pointer (some ⟨b,0,none⟩),.slice (some a) y.length cap] w (xQq D b v d j y ev sy w):=by
 obtain⟨vs,hown⟩:=h.ent
 obtain⟨ea,ec,hev⟩:=yH hown
 obtain⟨ln,hln⟩:∃ ln,ln=j.entries.length:=⟨_,rfl⟩
 obtain⟨us,hus⟩:∃ us,us=(j.secs sha).length:=⟨_,rfl⟩
 obtain⟨yn,hyn⟩:∃ yn,yn=y.length:=⟨_,rfl⟩
 obtain⟨nd,hnd⟩:∃ nd,nd=xY y.length:=⟨_,rfl⟩
 obtain⟨n,hn⟩:∃ n,n=d.n:=⟨_,rfl⟩
 rw[←hln] at hev hlen
 subst hev
 have hblk:=h.blk
 rw[←hus,←hn] at hblk
 rw[←hus,←hnd,←hn] at hfree
 rw[←hnd] at hfew
 have hn2:n≤4096:=by rw[hn];exact h.dev.n2
 have hbl:=(i_ hblk).1
 obtain⟨w1,hw1⟩:∃ w1,w1=w.alloc (.cells #[.int .i64 0] 24):=⟨_,rfl⟩
 have hb1:Below w.heap.size w w1:=by rw[hw1];exact b_ _ _
 have he1:w1.heap[w.heap.size]?=some (.cells #[.int .i64 0] 24 (0,0)):=by rw[hw1];exact heap_alloc_new w _
 have hr1:=(hb1.block b hbl).trans hblk
 have HFA:=h_ (xAt hr1)
 have HND:=h_ (xKq y.length w1 hy)
 rw[←hnd,←hyn] at HND
 have hfz:j.first≤2147483647:=h.inv.ok.first
 have harea:=h.inv.ok.area
 have hgen:=h.inv.ok.gen
 have c1:=cell_of_row w1 w.heap.size 0 _ _ _ he1
 have f1:=frozen_of_row w1 w.heap.size 0 _ _ he1
 simp only[v_] at c1
 obtain⟨w2,hw2⟩:∃ w2,w2=w1.setCell ⟨w.heap.size,0,none⟩ (.int .i64 0):=⟨_,rfl⟩
 have hb2:Below w.heap.size w w2:=by rw[hw2];exact hb1.setCell (p:=⟨w.heap.size,0,none⟩) (Nat.le_refl _) _
 have he2:w2.heap[w.heap.size]?=some (.cells #[.int .i64 0] 24 (0,0)):=by rw[hw2,heap_setCell_same w1 w.heap.size 0 _ _ _ he1];rfl
 have hr2:=(hb2.block b hbl).trans hblk
 have c2:=cell_of_row w2 w.heap.size 0 _ _ _ he2
 simp only[v_] at c2
 have HFR:=h_ (xEj hr2 hn2 (by omega))
 have H:=h_ h
 have HK:=h_ hK
 have HS:=h_ hs
 have HB2:=h_ hb2
 have HE2:=h_ he2
 have HR2:=h_ hr2
 have HLN:=h_ hln
 have HUS:=h_ hus
 have HYN:=h_ hyn
 have HNDE:=h_ hnd
 have HN:=h_ hn
 have HAV:=h_ hav
 have HFEW:=h_ hfew
 have HDD:=h_ hD
 have HFREE:=h_ hfree
 rw[←hyn] at hl hy ⊢
 have hyz:(yn:Int)≤100000:=by omega
 have hnle:(nd:Int)≤((n / 2-us:Nat):Int):=by omega
 have hndz:(nd:Int)≤4096:=by omega
 have hfz2:((n / 2-us:Nat):Int)≤4096:=by omega
 obtain⟨fr,hfr⟩:∃ fr,fr=n / 2-us:=⟨_,rfl⟩
 rw[←hfr] at hnle hfz2 HFR
 clear h hb1 he1 hr1 hown hln hK hs hblk hb2 he2 hr2 hus hyn hnd hn hav hfew hD hfr hfree
 go_enter_defers Tryz.func67,Tryz.ntmps67
 go_upto_region 1 with fail
 refine xu hw1 ?_
 clear hw1
 go_wp2_with fail
 refine HFA.out.mono ?_
 rintro e w' ⟨rfl,rfl⟩
 go_wp2_with fail
 refine HND.out.mono ?_
 rintro e w' ⟨rfl,rfl⟩
 go_upto_region 5 with fail
 refine xu hw2 ?_
 clear hw2 c1 f1
 go_wp2_with fail
 refine HFR.out.mono ?_
 rintro e w3 ⟨rfl,hb3⟩
 have HB3:=h_ (HB2.out.trans (hb3.mono HB2.out.size))
 have he3:=(hb3.block _ (i_ HE2.out).1).trans HE2.out
 have hr3:=(hb3.block _ (i_ HR2.out).1).trans HR2.out
 have k4:=cell_of_row w3 b 4 _ _ _ hr3
 have k6:=cell_of_row w3 b 6 _ _ _ hr3
 simp only[ya,v_] at k4 k6
 have z1:∀ z:xf w3,z.1.cell? ⟨b,4,none⟩=some (.int .i64 j.gen):=fun z=>z.cell k4
 have z2:∀ z:xf w3,z.1.cell? ⟨b,6,none⟩=some (.slice ea ln ec):=fun z=>z.cell k6
 have HE3:=h_ he3
 have HR3:=h_ hr3
 have hlz:(ln:Int)≤100000:=by omega
 have hgz:(j.gen:Int)≤2147483647:=by omega
 clear hb3 he3 hr3 k4 k6
 go_upto_region 10 with fail
 refine j9 [0,1,2,3,4,5,6,7,8,9,10,11,12,13] [14,15] 2 (fun w'=>∃ z:xf w3,w'=z.1) (by kernel_rfl) (by kernel_rfl) rfl ⟨⟨_,(Below.refl _ _).drew⟩,rfl⟩ ?_
 simp only[o_]
 repeat (go_big_quiet_step (fail))
 refine wpQuiet_nil ?_
 clear z1 z2
 refine zE [14,15] rfl (by kernel_rfl) (by kernel_rfl) (by kernel_rfl) ?_
 refine yz true (by kernel_rfl) (by kernel_rfl) ?_
 simp only[o_]
 go_wp2
 refine⟨fun _=>⟨⟨_,(((Below.refl _ _).alloc (Nat.le_refl _) _).drew:Below w3.heap.size w3 _)⟩,rfl⟩,xG [15] _ _ (by kernel_rfl) ?_⟩
 simp only[o_]
 have hft:=xI3 2 j.gen ((ln:Int)+1) (.slice (some a) yn cap) rfl
 go_wp2
 refine NoPanic.normal ?_
 go_upto_region 11 with fail
 clear hft
 obtain⟨w4,hw4⟩:∃ w4,w4=(w3.alloc (.cells #[.int .i64 2,.int .i64 j.gen,.int .i64 ((ln:Int)+1),.slice (some a) yn cap] 222)).drew:=⟨_,rfl⟩
 refine xu hw4 ?_
 have hb4:Below w3.heap.size w3 w4:=by rw[hw4];exact((Below.refl _ _).alloc (Nat.le_refl _) _).drew
 have hrec:w4.heap[w3.heap.size]?=some (.cells #[.int .i64 2,.int .i64 j.gen,.int .i64 ((ln:Int)+1),.slice (some a) yn cap] 222 (0,0)):=by rw[hw4];exact heap_alloc_new w3 _
 have HB4:=h_ (HB3.out.trans (hb4.mono HB3.out.size))
 have hr4:=(hb4.block _ (i_ HR3.out).1).trans HR3.out
 have he4:=(hb4.block _ (i_ HE3.out).1).trans HE3.out
 have k3:=cell_of_row w4 b 3 _ _ _ hr4
 have k7:=cell_of_row w4 b 7 _ _ _ hr4
 simp only[ya,v_] at k3 k7
 have z1:∀ z:xf w4,z.1.cell? ⟨b,3,none⟩=some (.int .i64 j.area):=fun z=>z.cell k3
 have z2:∀ z:xf w4,z.1.cell? ⟨b,7,none⟩=some (.int .i64 us):=fun z=>z.cell k7
 have r5:=xMi hr4
 have z3:∀ z:xf w4,xq z.1 ⟨b,0,none⟩ 3=true:=fun z=>xf.ok r5.1 z
 have z4:∀ z:xf w4,xp z.1 ⟨b,0,none⟩ 3=xE v.p n:=fun z=>(xf.rd r5.1 z).trans r5.2
 have r6:=xI (n:=4) hrec rfl
 have z5:∀ z:xf w4,xq z.1 ⟨w3.heap.size,0,none⟩ 4=true:=fun z=>xf.ok r6.1 z
 have z6:∀ z:xf w4,xp z.1 ⟨w3.heap.size,0,none⟩ 4=#[.int .i64 2,.int .i64 j.gen,.int .i64 ((ln:Int)+1),.slice (some a) yn cap]:=fun z=>(xf.rd r6.1 z).trans r6.2
 obtain⟨m2,hm2⟩:∃ m2,m2=n / 2:=⟨_,rfl⟩
 obtain⟨bs,hbs⟩:∃ bs,bs=j.area*m2:=⟨_,rfl⟩
 obtain⟨at_,hat⟩:∃ at_,at_=bs+us:=⟨_,rfl⟩
 have hatn:at_+nd≤n:=by
  have:=HFREE.out
  rw[←hm2] at this
  rcases (show j.area=0∨j.area=1 by omega) with h | h <;> rw[hat,hbs,h] <;> omega
 have z7:∀ z:xf w4,Calls Tryz.prog 90 #[.agg (xE v.p n)] z.1 fun e w'=>e=.returned (.int .i64 m2)∧∃ z':xf w4,w'=z'.1:=fun z=>xf.call ((xBh v.p n hn2 z.1).mono fun e w' ⟨h1,h2⟩=>⟨by rw[h1,hm2],h2⟩)
 have hnum:((1+j.entries.length:Nat):Int)=(ln:Int)+1:=by have:=HLN.out;omega
 have HPUT:Hid (∀ z:xf w4,Calls Tryz.prog 106 #[.agg (xE v.p n),.int .i64 at_,.agg #[.int .i64 2,.int .i64 j.gen,.int .i64 ((ln:Int)+1),.slice (some a) yn cap]] z.1 (xDy D v d at_ (j.body y) z.1)):=h_ fun z=>by
  have hz:=HB4.out.trans (z.2.mono HB4.out.size)
  have h1:=xP8 (H.out.dev.below hz) H.out.up (HK.out.below hz (Nat.le_refl _)) at_ (j.body y) (xTo H.out.inv.ok y (by have:=HYN.out;omega) (by have:=HLN.out;omega)) a cap (by show y.length≤cap;rw[←HYN.out];exact hl) ⟨fun q c hq=>(hz.cell (by rw[y9];exact ha)).trans (HS.out.cell q c hq)⟩ (by have:=hz.size;omega) (by show at_+xY y.length≤d.n;rw[←HNDE.out,←HN.out];exact hatn) (by show d.pend.length+xY y.length≤1000000;rw[←HNDE.out];exact HFEW.out) (by have:=hz.size;have:=HDD.out;omega)
  rw[←HN.out] at h1
  have e1:(y8 (j.body y).kind (j.body y).gen (j.body y).num (.slice (some a) (j.body y).pay.length cap)).toArray=#[.int .i64 2,.int .i64 j.gen,.int .i64 ((ln:Int)+1),.slice (some a) yn cap]:=by
   unfold PJ.body
   simp only[y8]
   rw[hnum,←HYN.out]
  rw[e1] at h1
  exact h1
 have hmul:(j.area:Int)*(m2:Int)=(bs:Int):=by rw[hbs];simp
 have hadd:(bs:Int)+(us:Int)=(at_:Int):=by rw[hat];simp
 have hbz:(bs:Int)≤4096:=by omega
 have hmz:(m2:Int)≤4096:=by omega
 have huz:(us:Int)≤4096:=by omega
 have haz:(j.area:Int)≤1:=by omega
 have HZ7:=h_ z7
 have HE4:=h_ he4
 have HR4:=h_ hr4
 have HAT:Hid (at_=j.area*(d.n / 2)+(j.secs sha).length):=h_ (by rw[hat,hbs,hm2,HN.out,HUS.out])
 have HM2:=h_ hm2
 clear hw4 hb4 hrec hr4 he4 k3 k7 r5 r6 hm2 hbs hat hatn z7 hnum
 unfold xE at z4 HZ7 HPUT
 refine uv (by kernel_rfl) ?_
 refine km [0,1,2,3,4,5,6,7,8,9,10,11,12,13,14,15,16,17,18,19,20] [21,22] 4 (fun w'=>∃ z:xf w4,w'=z.1) (by kernel_rfl) (by kernel_rfl) rfl rfl ⟨⟨_,(Below.refl _ _).drew⟩,rfl⟩ ?_
 simp only[o_]
 repeat (go_big_quiet_step (first | (go_at_call 90;exact HZ7.out _)))
 refine wpQuiet_nil ?_
 rintro _ ⟨z,rfl⟩
 clear z1 z2 z3 z4 z5 z6 HZ7
 refine qz [21,22] _ _ (by kernel_rfl) ?_
 simp only[o_]
 go_wp2_with fail
 refine(HPUT.out z).mono ?_
 rintro e w5 ⟨rfl,hk5,v2,hp2,hM2,hd2,hf2⟩
 obtain⟨z,hbz4⟩:=z
 have hB4z:Below w.heap.size w z:=HB4.out.trans (hbz4.mono HB4.out.size)
 have hzs:w.heap.size<z.heap.size:=Nat.lt_of_lt_of_le (i_ HE4.out).1 hbz4.size
 have hsv:w.heap.size ∉ v.foot:=fun hm=>Nat.lt_irrefl _ (H.out.dev.foot_lt _ hm).2
 have he5:=(hk5.block w.heap.size hzs hsv).trans ((hbz4.block _ (i_ HE4.out).1).trans HE4.out)
 have hr5:=(hk5.block b (by show b<z.heap.size;omega) H.out.bv).trans ((hbz4.block _ (i_ HR4.out).1).trans HR4.out)
 have c5:=cell_of_row w5 w.heap.size 0 _ _ _ he5
 have f5:=frozen_of_row w5 w.heap.size 0 _ _ he5
 simp only[v_] at c5
 have hk05:Kept v.foot w w5:=(Kept.of_below (F:=v.foot) hB4z).trans hk5 (fun q hq=>.inl hq)
 have hf02:∀ q∈v2.foot,q∈v.foot∨z.heap.size≤q:=hf2
 have HK05:=h_ hk05
 have HD2:=h_ (And.intro hp2 (And.intro hM2 (And.intro hd2 hf02)))
 have HE5:=h_ he5
 have HR5:=h_ hr5
 have HZS:=h_ hzs
 have hne:b≠w.heap.size:=by omega
 obtain⟨w6,hw6⟩:∃ w6,w6=w5.setCell ⟨w.heap.size,0,none⟩ (.int .i64 0):=⟨_,rfl⟩
 have he6:w6.heap[w.heap.size]?=some (.cells #[.int .i64 0] 24 (0,0)):=by rw[hw6,heap_setCell_same w5 w.heap.size 0 _ _ _ he5];rfl
 have hr6:w6.heap[b]?=some (.cells (ya v.p n j.area j.gen j.first (.slice ea ln ec) us sy 0) 135 (0,0)):=by rw[hw6];exact(heap_setCell_other w5 ⟨w.heap.size,0,none⟩ b _ hne).trans hr5
 have hk56:Kept [w.heap.size] w5 w6:=by rw[hw6];exact zj w5 w.heap.size 0 _
 have HE6:=h_ he6
 have HR6:=h_ hr6
 have HK56:=h_ hk56
 have c6:=cell_of_row w6 w.heap.size 0 _ _ _ he6
 simp only[v_] at c6
 have HNO:=h_ (xAs hr6 hfz (by omega))
 have HB4Z:=h_ hB4z
 clear hk5 hp2 hM2 hd2 hf2 he5 hr5 hk05 hf02 hzs hsv he6 hr6 hk56 hB4z hbz4 HPUT
 rw[show xY (j.body y).pay.length=nd from by show xY y.length=nd;exact HNDE.out.symm]
 go_wp2
 refine NoPanic.normal ?_
 rw[qx]
 refine xCr [23,24] [25,26] 0 (fun w'=>w'=w5) (by kernel_rfl) (by kernel_rfl) (by kernel_rfl) rfl rfl rfl ?_
 simp only[o_]
 repeat (go_big_quiet_step (fail))
 refine wpQuiet_nil ?_
 refine xCs true rfl (by kernel_rfl) ?_
 go_wp2
 refine⟨fun _=>rfl,qz [26] _ _ (by kernel_rfl) ?_⟩
 simp only[o_]
 go_wp2
 refine NoPanic.normal ?_
 rw[qx]
 refine xAc (by kernel_rfl) ?_
 go_upto_region 12 with fail
 refine xu hw6 ?_
 clear hw6 c5 f5
 go_wp2_with fail
 refine HNO.out.mono ?_
 rintro e w7 ⟨rfl,m7,rfl⟩
 have hb7:Below w6.heap.size w6 (w6.drewN m7):=xU (Below.refl _ _) m7
 have hr7:=(hb7.block b (i_ HR6.out).1).trans HR6.out
 have he7:=(hb7.block _ (i_ HE6.out).1).trans HE6.out
 clear c6
 generalize w6.drewN m7=w7 at hb7 hr7 he7 ⊢
 have hsby:SlB w7.drew a y:=⟨fun q c hq=>by
  have h0:=HS.out.cell q c hq
  have hbq:(a.add q).block=a.block:=y9 ..
  unfold World.cell? at h0 ⊢
  rw[show w7.drew.heap=w7.heap from rfl,hbq,hb7.block a.block (Nat.lt_of_lt_of_le ha (Nat.le_trans HK05.out.size HK56.out.size)),HK56.out.block a.block (Nat.lt_of_lt_of_le ha HK05.out.size) (by simp;omega),HK05.out.block a.block ha HAV.out,←hbq]
  exact h0⟩
 have HCL:=h_ (jH a y cap w7.drew hsby (by have:=HYN.out;omega))
 rw[←HYN.out] at HCL
 have HB7:=h_ hb7
 have HR7:=h_ hr7
 have HE7:=h_ he7
 have z1:∀ z:JbC b (ya v.p n j.area j.gen j.first (.slice ea ln ec) us sy 0),z.1.cell? ⟨b,6,none⟩=some (.slice ea ln ec):=fun z=>z.cell 6
 haveI:Nonempty (JbC b (ya v.p n j.area j.gen j.first (.slice ea ln ec) us sy 0)):=⟨⟨w7,hr7⟩⟩
 clear hsby hb7 hr7 he7
 go_upto_region 15 with fail
 refine xw [0,1,2,3,4,5,6] [7,8,9,10,11,12,13] (fun w'=>∃ z:JbC b (ya v.p n j.area j.gen j.first (.slice ea ln ec) us sy 0),w'=z.1) (by kernel_rfl) (by kernel_rfl) (by kernel_rfl) ⟨⟨w7.drew,HR7.out⟩,rfl⟩ ?_
 simp only[o_]
 repeat (go_big_quiet_step (fail))
 refine wpQuiet_nil ?_
 clear z1
 refine yz true (by kernel_rfl) (by kernel_rfl) ?_
 simp only[o_]
 go_wp2_with fail
 refine HCL.out.mono ?_
 rintro e w8 ⟨cv,rfl,hown8,hvn8,hb8⟩
 have hb78:Below w7.heap.size w7 w8:=(Below.refl w7.heap.size w7).drew.trans (hb8.mono (Nat.le_refl _))
 have hone:cv.oneCell'=true:=by
  rcases hown8.at with⟨h0,_⟩ | ⟨g,c,h0,_⟩ <;> rw[h0] <;> rfl
 obtain⟨cg,cc,hcv,_,_,_,_⟩:∃ g cap,cv=.slice (some ⟨g,0,none⟩) y.length cap∧w7.drew.heap.size≤g∧y.length≤cap∧cap≤maxLen∧SlB w8 ⟨g,0,none⟩ y:=by
  rcases hown8.at with⟨h0,_⟩ | h0
  ·exact absurd h0 hvn8
  ·exact h0
 rw[←HYN.out] at hcv
 subst hcv
 have hb9:Below w8.heap.size w8 (w8.alloc (.cells #[.slice (some ⟨cg,0,none⟩) yn cc] 66)):=(Below.refl _ _).alloc (Nat.le_refl _) _
 have hb79:=hb78.trans (hb9.mono hb78.size)
 have hr8:=(hb78.block _ (i_ HR7.out).1).trans HR7.out
 have hr9:=(hb79.block _ (i_ HR7.out).1).trans HR7.out
 have he9:=(hb79.block _ (i_ HE7.out).1).trans HE7.out
 have hk07:Kept (w.heap.size :: v.foot) w w7:=((HK05.out.mono (fun q hq _=>List.mem_cons_of_mem _ hq)).trans HK56.out (fun q hq=>.inl (by rw[List.mem_singleton.1 hq];exact List.mem_cons_self ..))).trans (Kept.of_below (F:=[]) HB7.out) (fun q hq=>by cases hq)
 have hk09:=hk07.trans (Kept.of_below (F:=[]) hb79) (fun q hq=>by cases hq)
 obtain⟨vs0,hown0⟩:=H.out.ent
 rw[←HLN.out] at hown0
 have hevf:∀ q,(Value.slice ea ln ec).ownBlock=some q→q<w.heap.size∧q≠b∧q ∉ v.foot:=fun q hq=>⟨(World.ownsRow.lt hown0 q hq).2,H.out.eb q hq⟩
 have hown9:(w8.alloc (.cells #[.slice (some ⟨cg,0,none⟩) yn cc] 66)).ownsRow D 66 1 (.slice ea ln ec) ln vs0:=by
  refine⟨hown0.1,?_⟩
  rcases hown0.2 with h0 | ⟨g,cap,cur,hv,hg,hcur,r⟩
  ·exact .inl h0
  ·have hge:=hevf g (by rw[hv];rfl)
   refine .inr ⟨g,cap,cur,hv,hg,(hk09.block g hge.1 (fun hm=>?_)).trans hcur,r⟩
   rcases List.mem_cons.1 hm with h1 | h1
   ·omega
   ·exact hge.2.2 h1
 obtain⟨i0,hi,hz0,hz1,hz2⟩:=info_parts Tryz.info_slb
 have HI:=h_ (And.intro hi (And.intro hz0 (And.intro hz1 hz2)))
 have HCX:Hid ((w8.alloc (.cells #[.slice (some ⟨cg,0,none⟩) yn cc] 66)).cell? ⟨w8.heap.size,0,none⟩=some (.slice (some ⟨cg,0,none⟩) yn cc)):=h_ (by rw[yy];rfl)
 have hkm:Hid (ln+1≤maxLen):=h_ (by unfold maxLen;omega)
 have hbyt:Hid ((ln+1)*24≤140737488355328):=h_ (by omega)
 have hB9:Hid (D≤(w8.alloc (.cells #[.slice (some ⟨cg,0,none⟩) yn cc] 66)).heap.size):=h_ (Nat.le_trans HDD.out hk09.size)
 have HOWN9:=h_ hown9
 have HEVF:=h_ hevf
 have HR8:=h_ hr8
 have HR9:=h_ hr9
 have HE9:=h_ he9
 have HK09:=h_ hk09
 have hs89:w8.heap.size<(w8.alloc (.cells #[.slice (some ⟨cg,0,none⟩) yn cc] 66)).heap.size:=by rw[World.size_alloc];omega
 have HS89:=h_ hs89
 have HK07:=h_ hk07
 have HB78:=h_ hb78
 have HB79:=h_ hb79
 clear hown8 hvn8 hb8 hb78 hb9 hb79 hr8 hr9 he9 hk07 hk09 hown0 hevf hown9 hi hz0 hz1 hz2 hs89 HCL hone
 go_wp2_with fail
 refine⟨fun _=>⟨⟨w8,HR8.out⟩,rfl⟩,yz true (by kernel_rfl) (by kernel_rfl) ?_⟩
 simp only[o_]
 go_wp2
 refine⟨fun _=>⟨⟨_,HR9.out⟩,rfl⟩,yz true (by kernel_rfl) (by kernel_rfl) ?_⟩
 simp only[o_]
 go_wp2_with (at_builtin;refine wpList_append_own_at _ rfl (.tmp 77) (.tmp 80) 129 rfl D 66 i0 (.slice none 0 0) 1 24 Tryz.underlying129 HI.out.1 HI.out.2.1 HI.out.2.2.1 HI.out.2.2.2 rfl (by decide) _ ln _ rfl HOWN9.out ⟨w8.heap.size,0,none⟩ 1 1 [.slice (some ⟨cg,0,none⟩) yn cc] rfl rfl (fun q u hq=>by
   match q,hq with
   | 0,hq =>
    simp only[List.getElem?_cons_zero,Option.some.injEq] at hq
    subst hq
    rw[Addr.add_lit];exact HCX.out) (fun u hu=>by simp at hu;rw[hu];rfl) hkm.out hbyt.out hB9.out ?_)
 intro v' w10 ho10 hg10 _ hat10
 obtain⟨va,vc,hv10⟩:=yH ho10
 have hr10:=(hg10.block b (i_ HR9.out).1 (fun e=>(HEVF.out b e.symm).2.1 rfl)).trans HR9.out
 have he10:=(hg10.block _ (i_ HE9.out).1 (fun e=>by have:=(HEVF.out _ e.symm).1;omega)).trans HE9.out
 have c10:=cell_of_row w10 b 6 _ _ _ hr10
 have f10:=frozen_of_row w10 b 6 _ _ hr10
 simp only[ya,v_] at c10
 have hvb:∀ q,v'.ownBlock=some q→q≠b∧q≠w.heap.size∧((Value.slice ea ln ec).ownBlock=some q∨(w.heap.size<q∧w5.heap.size≤q)):=fun q hq=>by
  rcases hat10 with h1 | h1
  ·have h2:=HEVF.out q (h1 ▸ hq)
   exact⟨h2.2.1,by omega,.inl (h1 ▸ hq)⟩
  ·rw[h1] at hq
   have h2:=Option.some.inj hq
   have h3:=(i_ HE9.out).1
   have h4:=(i_ HR9.out).1
   simp only[World.size_alloc] at h2 h3 h4
   have h6:=HK56.out.size
   have h7:=HB7.out.size
   have h8:=HB78.out.size
   exact⟨by omega,by omega,.inr ⟨by omega,by omega⟩⟩
 subst hv10
 have hsdr:∀ q:Nat,q=q:=fun _=>rfl
 obtain⟨w11,hw11⟩:∃ w11,w11=w10.setCell ⟨b,6,none⟩ (.slice va (ln+1) vc):=⟨_,rfl⟩
 have hr11:w11.heap[b]?=some (.cells (ya v.p n j.area j.gen j.first (.slice va (ln+1) vc) us sy 0) 135 (0,0)):=by rw[hw11,heap_setCell_same w10 b 6 _ _ _ hr10];rfl
 have he11:w11.heap[w.heap.size]?=some (.cells #[.int .i64 0] 24 (0,0)):=by rw[hw11];exact(heap_setCell_other w10 ⟨b,6,none⟩ _ _ (by show w.heap.size≠b;omega)).trans he10
 have c11:=cell_of_row w11 b 7 _ _ _ hr11
 have f11:=frozen_of_row w11 b 7 _ _ hr11
 simp only[ya,v_] at c11
 obtain⟨w12,hw12⟩:∃ w12,w12=w11.setCell ⟨b,7,none⟩ (.int .i64 ((us:Int)+nd)):=⟨_,rfl⟩
 have hr12:w12.heap[b]?=some (.cells (ya v.p n j.area j.gen j.first (.slice va (ln+1) vc) (us+nd) sy 0) 135 (0,0)):=by
  rw[hw12,heap_setCell_same w11 b 7 _ _ _ hr11]
  have e:((us:Int)+nd)=((us+nd:Nat):Int):=by omega
  rw[e];rfl
 have he12:w12.heap[w.heap.size]?=some (.cells #[.int .i64 0] 24 (0,0)):=by rw[hw12];exact(heap_setCell_other w11 ⟨b,7,none⟩ _ _ (by show w.heap.size≠b;omega)).trans he11
 have c12:=cell_of_row w12 w.heap.size 0 _ _ _ he12
 have f12:=frozen_of_row w12 w.heap.size 0 _ _ he12
 simp only[v_] at c12
 have he13:(w12.setCell ⟨w.heap.size,0,none⟩ (.int .i64 0)).heap[w.heap.size]?=some (.cells #[.int .i64 0] 24 (0,0)):=by rw[heap_setCell_same w12 w.heap.size 0 _ _ _ he12];rfl
 have hr13:(w12.setCell ⟨w.heap.size,0,none⟩ (.int .i64 0)).heap[b]?=some (.cells (ya v.p n j.area j.gen j.first (.slice va (ln+1) vc) (us+nd) sy 0) 135 (0,0)):=(heap_setCell_other w12 ⟨w.heap.size,0,none⟩ b _ hne).trans hr12
 have hHE13:=h_ he13
 have hk1013:Kept [b,w.heap.size] w10 (w12.setCell ⟨w.heap.size,0,none⟩ (.int .i64 0)):=by
  have k1:Kept [b] w10 w11:=by rw[hw11];exact zj w10 b 6 _
  have k2:Kept [b] w11 w12:=by rw[hw12];exact zj w11 b 7 _
  exact((k1.trans k2 (fun q hq=>.inl hq)).mono (fun q hq _=>by simp at hq;simp[hq])).trans (zj w12 w.heap.size 0 _) (fun q hq=>.inl (by simp at hq;simp[hq]))
 have hk910:Kept ((Value.slice ea ln ec).ownBlock.toList) (w8.alloc (.cells #[.slice (some ⟨cg,0,none⟩) yn cc] 66)) w10:=⟨hg10.os,hg10.tape,hg10.output,hg10.size,fun q hq hn=>hg10.block q hq (fun e=>hn (by rw[←e];simp))⟩
 have HFIN:Hid (xQq D b v d j y (.slice ea ln ec) sy w (.returned (.tuple #[.int .i64 ((j.first:Int)+ln),.int .i64 0])) (w12.setCell ⟨w.heap.size,0,none⟩ (.int .i64 0))):=h_ (by
  obtain⟨hp2,hM2,hd2,hf02⟩:=HD2.out
  have hzs:=HZS.out
  have hnot:∀ q,q<z.heap.size→q ∉ v.foot→q ∉ v2.foot:=fun q h1 h2 hm=>by
   rcases hf02 q hm with h3 | h3
   ·exact h2 h3
   ·omega
  have hbz:b<z.heap.size:=by omega
  have hevz:∀ q,(Value.slice ea ln ec).ownBlock=some q→q ∉ v2.foot:=fun q hq=>hnot q (by have:=(HEVF.out q hq).1;omega) (HEVF.out q hq).2.2
  have hsv:w.heap.size ∉ v.foot:=fun hm=>Nat.lt_irrefl _ (H.out.dev.foot_lt _ hm).2
  have hinv:=H.out.inv.add sha yV H.out.up y (by have:=HYN.out;omega) (by have:=HLN.out;omega) (by have:=HFREE.out;rw[←HUS.out,←HNDE.out,←HN.out];exact this)
  refine⟨by rw[HLN.out],?_,v2,.slice va (ln+1) vc,hp2,hM2,?_,fun q hq=>?_,fun q hq=>?_⟩
  ·have k1:=HK09.out.mono (F':=b :: (w.heap.size :: (v.foot++(Value.slice ea ln ec).ownBlock.toList))) (fun q hq _=>by
    rcases List.mem_cons.1 hq with h1 | h1
    ·simp[h1]
    ·simp[h1])
   have k2:=(k1.trans hk910 (fun q hq=>.inl (by simp at hq;simp[hq]))).trans hk1013 (fun q hq=>.inl (by simp at hq;rcases hq with h | h <;> simp[h]))
   refine k2.mono (fun q hq hlt=>?_)
   simp only[List.mem_cons] at hq ⊢
   rcases hq with h1 | h1 | h1
   ·exact .inl h1
   ·omega
   ·exact .inr h1
  ·have hnn:(d.puts (j.area*(d.n / 2)+(j.secs sha).length) (yf sha (j.body y))).1.n=d.n:=hinv.2.2.1
   refine⟨?_,?_,⟨vs0++[.slice (some ⟨cg,0,none⟩) yn cc],?_⟩,by rw[hnn];exact hinv.2.2.2,hinv.2.1,H.out.bB,hnot b hbz H.out.bv,fun q hq=>⟨(hvb q hq).1,fun hm=>?_⟩⟩
   ·rw[hp2,hnn]
    have hsl:((j.add y).secs sha).length=us+nd:=by
     rw[xCx,List.length_append,zy,HUS.out,HNDE.out];rfl
    rw[hsl,←HN.out]
    exact hr13
   ·have k5:Kept (w.heap.size :: (b :: (Value.slice ea ln ec).ownBlock.toList)) w5 (w12.setCell ⟨w.heap.size,0,none⟩ (.int .i64 0)):=by
     have a1:=(HK56.out.mono (F':=w.heap.size :: (b :: (Value.slice ea ln ec).ownBlock.toList)) (fun q hq _=>by simp at hq;simp[hq])).trans (Kept.of_below (F:=[]) (HB7.out.trans (HB79.out.mono HB7.out.size))) (fun q hq=>by cases hq)
     exact(a1.trans hk910 (fun q hq=>.inl (by simp at hq;simp[hq]))).trans hk1013 (fun q hq=>.inl (by simp at hq;rcases hq with h | h <;> simp[h]))
    rw[←HAT.out]
    refine hd2.kept k5 (fun q hq hm=>?_)
    rcases List.mem_cons.1 hm with h1 | h1
    ·exact hnot _ hzs hsv (h1 ▸ hq)
    ·rcases List.mem_cons.1 h1 with h2 | h2
     ·exact hnot b hbz H.out.bv (h2 ▸ hq)
     ·exact hevz q (by simpa using h2) hq
   ·have hlen':(j.add y).entries.length=ln+1:=by rw[HLN.out];simp[PJ.add]
    rw[hlen']
    refine⟨ho10.1,?_⟩
    rcases ho10.2 with h0 | ⟨g,cp,cur,hv,hg,hcur,r⟩
    ·exact .inl h0
    ·have hge:=hvb g (by rw[hv];rfl)
     exact .inr ⟨g,cp,cur,hv,hg,(hk1013.block g (i_ hcur).1 (by simp;exact⟨hge.1,hge.2.1⟩)).trans hcur,r⟩
   ·rcases (hvb q hq).2.2 with h1 | h1
    ·exact hevz q h1 hm
    ·rcases hf02 q hm with h3 | h3
     ·have:=(H.out.dev.foot_lt _ h3).2;omega
     ·have:=(hd2.foot_lt _ hm).2;have:=h1.2;omega
  ·rcases hf02 q hq with h3 | h3
   ·exact .inl h3
   ·exact .inr (by omega)
  ·rcases (hvb q hq).2.2 with h1 | h1
   ·exact .inl h1
   ·exact .inr (by have:=h1.1;omega))
 have HR10:=h_ hr10
 clear hr10 he10 hvb hr11 he11 hr12 he12 he13 hr13 hk1013 hk910 hg10 ho10 hat10 hsdr
 go_wp2_with fail
 refine⟨fun _=>⟨⟨w10,HR10.out⟩,rfl⟩,xG [10,11,12,13] _ _ (by kernel_rfl) ?_⟩
 simp only[o_]
 go_wp2
 refine NoPanic.normal ?_
 go_upto_region 16 with fail
 refine xu hw11 ?_
 clear hw11 c10 f10
 go_upto_region 17 with fail
 refine xu hw12 ?_
 clear hw12 c11 f11
 go_wp2
 have hc13:=cell_of_row _ w.heap.size 0 _ _ _ hHE13.out
 refine leaves_cons (f:=74) (args:=#[.pointer (some ⟨b,0,none⟩),.pointer (some ⟨w.heap.size,0,none⟩)]) (by simp) (by simp[go_sem]) ?_
 refine(xNq b w.heap.size _ hc13).mono ?_
 rintro e u' w'' ⟨rfl,rfl,rfl⟩
 exact⟨.tuple #[.int .i64 ((j.first:Int)+ln),.int .i64 0],xM1 rfl _ _ _ _ _ rfl rfl hc13,HFIN.out⟩
end
structure HEnt where
 id:Id32
 arr:Int
 date:Int
 st:Int
 perm:Bool
def qe (x:HEnt):List Value:=xB x.id++[.int .i64 x.arr,.int .i64 x.date,.int .i64 x.st,.bool x.perm]
def xr (x:HEnt):Array Value:=(qe x).toArray
theorem xFz (x:HEnt):(qe x).length=36:=by simp[qe,xF]
theorem xL (x:HEnt):(xr x).size=36:=by simp[xr,xFz]
theorem xAu (x:HEnt)(j:Nat):(qe x)[32+j]?=[Value.int .i64 x.arr,.int .i64 x.date,.int .i64 x.st,.bool x.perm][j]?:=by
 unfold qe
 rw[List.getElem?_append_right (by rw[xF];omega),xF,show 32+j-32=j by omega]
theorem he32 (x:HEnt):(xr x)[32]?=some (.int .i64 x.arr):=by simpa[xr] using xAu x 0
theorem he33 (x:HEnt):(xr x)[33]?=some (.int .i64 x.date):=by simpa[xr] using xAu x 1
theorem he34 (x:HEnt):(xr x)[34]?=some (.int .i64 x.st):=by simpa[xr] using xAu x 2
theorem xXh (x:HEnt):∀ v∈qe x,v.oneCell'=true:=by
 intro v hv
 unfold qe at hv
 rcases List.mem_append.1 hv with h | h
 ·exact uS x.id v h
 ·simp at h;rcases h with rfl | rfl | rfl | rfl <;> rfl
theorem xBk (x:HEnt):xy 36 (xr x)=true:=zT (xL x) (by
 rw[Array.all_eq_true_iff_forall_mem];intro v hv;exact xXh x v (by simpa[xr] using hv))
structure Hst where
 p:Nat
 M:Nat
 es:List (KE Id32)
 mc:Nat
 cut:Int
structure yY (B:Nat)(w:World)(v:Hst):Prop where
 blk:w.heap[v.p]?=some (.cells #[.map (some v.M),.int .i64 v.cut] 120 (0,0))
 map:y3 ekI w v.M v.es v.mc
 ne:v.p≠v.M
 pB:B≤v.p
 MB:B≤v.M
 vals:∀ k u,getK k v.es=some u→∃ x:HEnt,u=.agg (xr x)
def Hst.foot (v:Hst):List Nat:=[v.p,v.M]
theorem yY.lt {B:Nat}{w:World}{v:Hst}(h:yY B w v):v.p<w.heap.size∧v.M<w.heap.size:=⟨(i_ h.blk).1,h.map.lt⟩
theorem yY.kept {B:Nat}{w w':World}{v:Hst}{F:List Nat}(h:yY B w v)(hk:Kept F w w')(hF:∀ k∈v.foot,k ∉ F):yY B w' v :=
 ⟨(hk.block _ h.lt.1 (hF _ (by simp[Hst.foot]))).trans h.blk,(hk.block _ h.lt.2 (hF _ (by simp[Hst.foot]))).trans h.map,h.ne,h.pB,h.MB,h.vals⟩
theorem yY.below {B:Nat}{w w':World}{v:Hst}(h:yY B w v)(hb:Below w.heap.size w w'):yY B w' v:=h.kept (Kept.of_below (F:=[]) hb) (fun _ _ h=>by cases h)
theorem xHw (w:World):Calls Tryz.prog 60 #[] w fun e w'=>Below w.heap.size w w'∧e=.returned (.pointer (some ⟨w.heap.size+1,0,none⟩))∧yY w.heap.size w' ⟨w.heap.size+1,w.heap.size,[],0,0⟩:=by
 have hmm:=@run_makeMap Tryz.prog
 have hb:Below w.heap.size w ((w.alloc (.map #[] 0)).alloc (.cells #[.map (some w.heap.size),.int .i64 0] 120)):=((Below.refl _ _).alloc (Nat.le_refl _) _).alloc (by simp) _
 have hat:yY w.heap.size ((w.alloc (.map #[] 0)).alloc (.cells #[.map (some w.heap.size),.int .i64 0] 120)) ⟨w.heap.size+1,w.heap.size,[],0,0⟩:=by
  refine⟨?_,?_,by simp,by simp,Nat.le_refl _,fun k u h=>by simp[xAw] at h⟩
  ·have:=heap_alloc_new (w.alloc (.map #[] 0)) (.cells #[.map (some w.heap.size),.int .i64 0] 120)
   rw[World.size_alloc] at this
   exact this
  ·unfold y3
   rw[heap_alloc_old _ _ (by simp),heap_alloc_new];rfl
 have HB:=h_ hb
 have HA:=h_ hat
 clear hb hat
 go_enter Tryz.func60,Tryz.ntmps60
 go_wp2
 go_ret
 exact⟨HB.out,rfl,HA.out⟩
theorem kM (n:Int)(h0:0≤n)(h1:n≤105190559)(w:World):Calls Tryz.prog 79 #[.int .i64 n] w fun e w'=>e=.returned (.bool true)∧w=w':=by
 go_enter Tryz.func79,Tryz.ntmps79
 go_wp2
 go_ret
 exact⟨xT3 (by simp),rfl⟩
theorem xHd (b:Nat)(es:Array MapEntry)(clock:Nat)(w:World)(hb:w.heap[b]?=some (.map es clock)) :
  Calls Tryz.prog 78 #[.map (some b)] w fun e w'=>e=.returned (.map (some w.heap.size))∧w.alloc (.map es clock)=w':=by
 have hu:Tryz.prog.underlying 118=some (.map 39 68):=Tryz.underlying118
 have hq:=fun w=>run_eql_map_nil_sl (P:=Tryz.prog) w 118 _ _ (some b) hu
 go_enter Tryz.func78,Tryz.ntmps78
 go_wp2
 rw[run_callFunc_extern Tryz.func95 (by kernel_rfl) (by kernel_rfl) (by kernel_rfl) (e:=Extern.MapsClone.clone) (by kernel_rfl),run_maps_clone_sl w 118 hb]
 simp only[Result.andThen]
 rw[Oper.upon_value]
 go_wp2
 rw[run_typeAssert_map_sl _ 118 20 _ _ _ hu]
 simp only[Result.andThen]
 rw[Oper.upon_value]
 go_wp2
 go_ret
 exact⟨rfl,rfl⟩
theorem xHy {B:Nat}{w:World}{v:Hst}(h:yY B w v):Calls Tryz.prog 40 #[.pointer (some ⟨v.p,0,none⟩)] w fun e w'=>Below w.heap.size w w'∧∃ v',e=.returned (.pointer (some ⟨v'.p,0,none⟩))∧yY w.heap.size w' v'∧v'.es=v.es∧v'.mc=v.mc∧v'.cut=v.cut:=by
 have c0:=cell_of_row w v.p 0 _ _ _ h.blk
 have c1:=cell_of_row w v.p 1 _ _ _ h.blk
 simp only[v_] at c0 c1
 have z0:∀ z:xf w,z.1.cell? ⟨v.p,0,none⟩=some (.map (some v.M)):=fun z=>z.cell c0
 have z1:∀ z:xf w,z.1.cell? ⟨v.p,1,none⟩=some (.int .i64 v.cut):=fun z=>z.cell c1
 have HC:=h_ (xHd v.M _ v.mc w.drew h.map)
 have HV:=h_ h.vals
 clear h c0 c1
 go_enter Tryz.func40,Tryz.ntmps40
 go_upto_region 3 with fail
 refine xw [0,1,2,3,5,6,7,8] [4,9,10,11] (fun w'=>∃ z:xf w,w'=z.1) (by kernel_rfl) (by kernel_rfl) (by kernel_rfl) ⟨⟨w.drew,(Below.refl _ _).drew⟩,rfl⟩ ?_
 simp only[o_]
 repeat (go_big_quiet_step (fail))
 refine wpQuiet_nil ?_
 clear z0 z1
 refine yz true (by kernel_rfl) (by kernel_rfl) ?_
 simp only[o_]
 go_wp2_with fail
 refine HC.out.mono ?_
 rintro e w' ⟨rfl,rfl⟩
 have hb1:Below w.heap.size w (w.drew.alloc (.map (v.es.map (enE ekI)).toArray v.mc)):=(Below.refl _ _).drew.alloc (Nat.le_refl _) _
 have hm1:=heap_alloc_new w.drew (.map (v.es.map (enE ekI)).toArray v.mc)
 have hs1:(w.drew.alloc (.map (v.es.map (enE ekI)).toArray v.mc)).heap.size=w.heap.size+1:=World.size_alloc ..
 generalize w.drew.alloc (.map (v.es.map (enE ekI)).toArray v.mc)=w1 at hb1 hm1 hs1 ⊢
 have HB1:=h_ hb1
 have hb2:Below w.heap.size w (w1.alloc (.cells #[.map (some w.heap.size),.int .i64 v.cut] 120)):=hb1.alloc hb1.size _
 have hat:yY w.heap.size (w1.alloc (.cells #[.map (some w.heap.size),.int .i64 v.cut] 120)) ⟨w1.heap.size,w.heap.size,v.es,v.mc,v.cut⟩ :=
  ⟨heap_alloc_new w1 _,(heap_alloc_old _ _ (by show w.heap.size<w1.heap.size;omega)).trans hm1,by show w1.heap.size≠w.heap.size;omega,hb1.size,Nat.le_refl _,HV.out⟩
 have HF:=h_ (And.intro hb2 hat)
 clear hb1 hm1 hs1 hb2 hat
 go_wp2_with fail
 refine⟨fun _=>⟨⟨w1,HB1.out⟩,rfl⟩,xG [9,10,11] _ _ (by kernel_rfl) ?_⟩
 simp only[o_]
 go_wp2
 refine NoPanic.normal ?_
 go_wp2
 go_ret
 exact⟨HF.out.1,⟨w1.heap.size,w.heap.size,v.es,v.mc,v.cut⟩,rfl,HF.out.2,rfl,rfl,rfl⟩
section
theorem vl (ρ:Operand→Value)(d:Option Tmp)(x:Operand)(ty:TypeId)(pos:String)(af:Array Edge)(g:Option (Nat × Bool))(w:World) :
  Sem.run Tryz.prog (execOp ρ ⟨d,.load 68 x,ty,pos,af,g⟩) w=yx Tryz.prog 68 w (ρ x):=rfl
theorem qD (ρ:Operand→Value)(d:Option Tmp)(x y:Operand)(ty:TypeId)(pos:String)(af:Array Edge)(g:Option (Nat × Bool))(w:World) :
  Sem.run Tryz.prog (execOp ρ ⟨d,.store 68 x y,ty,pos,af,g⟩) w=ym Tryz.prog 68 w (ρ x) (ρ y):=rfl
theorem xDd (w:World)(a:Addr)(h:xq w a 36=true):yx Tryz.prog 68 w (.pointer (some a))=.ok (.value (.agg (xp w a 36))) w :=
 yo Tryz.isAgg68 Tryz.sizeOf68 w a h
theorem xCv (w:World)(g:Nat)(cells:Array Value)(h:xP w g 36=true)(h2:xy 36 cells=true) :
  ym Tryz.prog 68 w (.pointer (some ⟨g,0,none⟩)) (.agg cells)=.ok .skip (w.setRow g cells):=yr (by kernel_rfl) w g cells h h2
def zW:HEnt:=⟨uG,0,0,0,false⟩
theorem qE (ρ:Operand→Value)(d:Option Tmp)(ty:TypeId)(pos:String)(af:Array Edge)(g:Option (Nat × Bool))(w:World) :
  Sem.run Tryz.prog (execOp ρ ⟨d,.alloc 68,ty,pos,af,g⟩) w=.ok (.value (.pointer (some ⟨w.heap.size,0,none⟩))) (w.alloc (.cells (xr zW) 68)):=by kernel_rfl
theorem xTt (w:World):(zeroValue 68).run Tryz.prog w=.ok (.agg (xr zW)) w:=by kernel_rfl
theorem xTc {w:World}{b:Nat}{x:HEnt}{t:TypeId}(h:w.heap[b]?=some (.cells (xr x) t (0,0))):xq w ⟨b,0,none⟩ 32=true∧xp w ⟨b,0,none⟩ 32=(xB x.id).toArray:=by
 have:=y7 (w:=w) (a:=⟨b,0,none⟩) (cs:=xB x.id) (fun j v hj=>by
  rw[Addr.add_lit,Nat.zero_add,cell_of_row _ _ _ _ _ _ h]
  unfold xr qe
  rw[List.getElem?_toArray,List.getElem?_append_left (List.getElem?_eq_some_iff.1 hj).1]
  exact hj)
 rw[xF] at this
 exact this
theorem yY.look {B:Nat}{w:World}{v:Hst}(h:yY B w v)(k:Id32):∃ x:HEnt,(getK k v.es=none→x=zW)∧(∀ u,getK k v.es=some u→u=.agg (xr x)) ∧
  ∀ W,W.heap[v.M]?=w.heap[v.M]?→(Instr.lookup 118 (.map (some v.M)) (.agg (xB k).toArray) true).run Tryz.prog W=.ok (.tuple #[.agg (xr x),.bool (getK k v.es).isSome]) W:=by
 have hk:∀ W,W.heap[v.M]?=w.heap[v.M]?→(Instr.lookup 118 (.map (some v.M)) (.agg (xB k).toArray) true).run Tryz.prog W=.ok (.tuple #[(getK k v.es).getD (.agg (xr zW)),.bool (getK k v.es).isSome]) W:=fun W hW=>by
  have h1:=xBd keyI Tryz.underlying118 (.agg (xr zW)) xTt W v.M v.es v.mc (by have:=h.map;unfold y3 at this ⊢;exact hW.trans this) k
  have h2:(yM k v.es 0).isSome=(getK k v.es).isSome:=by unfold getK;cases yM k v.es 0 <;> rfl
  rw[h2] at h1
  exact h1
 cases hg:getK k v.es with
 | none =>
  refine⟨zW,(fun _=>rfl),(fun u h=>(by cases h)),fun W hW=>?_⟩
  rw[hk W hW,hg];rfl
 | some u =>
  obtain⟨x,hx⟩:=h.vals k u hg
  refine⟨x,(fun h=>(by cases h)),(fun u' h=>(by cases h;exact hx)),fun W hW=>?_⟩
  rw[hk W hW,hg,←hx];rfl
attribute [local go_sem ↓] xV xO vl qD qE
attribute [local go_sem] zx zA xDd xCv xj xh xe xd xA xz xo xl xt xC xx
theorem xXf {B:Nat}{w:World}{v:Hst}(h:yY B w v)(id:Id32):∃ x:HEnt,(getK id v.es=none→x=zW)∧(∀ u,getK id v.es=some u→u=.agg (xr x)) ∧
  Calls Tryz.prog 27 #[.pointer (some ⟨v.p,0,none⟩),.agg (xB id).toArray] w fun e w'=>Below w.heap.size w w'∧e=.returned (.tuple #[.agg (xr x),.bool (getK id v.es).isSome]):=by
 obtain⟨x,hx1,hx2,hlk⟩:=h.look id
 refine⟨x,hx1,hx2,?_⟩
 obtain⟨w1,hw1⟩:∃ w1,w1=(w.alloc (.cells (xB id).toArray 39)).alloc (.cells (xr zW) 68):=⟨_,rfl⟩
 have hb1:Below w.heap.size w w1:=by rw[hw1];exact((Below.refl _ _).alloc (Nat.le_refl _) _).alloc (by simp) _
 have hi1:w1.heap[w.heap.size]?=some (.cells (xB id).toArray 39 (0,0)):=by
  rw[hw1,heap_alloc_old _ _ (by simp),heap_alloc_new]
 have hr1:w1.heap[w.heap.size+1]?=some (.cells (xr zW) 68 (0,0)):=by
  have:=heap_alloc_new (w.alloc (.cells (xB id).toArray 39)) (.cells (xr zW) 68)
  rw[World.size_alloc] at this
  rw[hw1,this]
 have hd1:=h.below hb1
 have c0:=cell_of_row w1 v.p 0 _ _ _ hd1.blk
 simp only[v_] at c0
 have z0:∀ z:xf w1,z.1.cell? ⟨v.p,0,none⟩=some (.map (some v.M)):=fun z=>z.cell c0
 have ri:=yE hi1
 have z1:∀ z:xf w1,xq z.1 ⟨w.heap.size,0,none⟩ 32=true:=fun z=>xf.ok ri.1 z
 have z2:∀ z:xf w1,xp z.1 ⟨w.heap.size,0,none⟩ 32=(xB id).toArray:=fun z=>(xf.rd ri.1 z).trans ri.2
 have z3:∀ z:xf w1,(Instr.lookup 118 (.map (some v.M)) (.agg (xB id).toArray) true).run Tryz.prog z.1=.ok (.tuple #[.agg (xr x),.bool (getK id v.es).isSome]) z.1:=fun z=>hlk z.1 ((z.2.block _ hd1.lt.2).trans (hb1.block _ h.lt.2))
 obtain⟨ok,hok⟩:∃ ok,ok=(getK id v.es).isSome:=⟨_,rfl⟩
 rw[←hok] at z3 ⊢
 have hfx:=xBk x
 have hsx:=xL x
 have hsz:=xL zW
 have HB1:=h_ hb1
 have HR1:=h_ hr1
 have hz36:((xr zW).size == 36)=true:=by rw[hsz];rfl
 clear hi1 hd1 c0 ri hlk hx1 hx2 hok hb1 hr1 h hsx hsz
 go_enter Tryz.func27,Tryz.ntmps27
 go_upto_region 3 with fail
 refine xu hw1 ?_
 clear hw1
 refine xw [0,1,2,3,4,5,6,7,8] [9,10,11] (fun w'=>∃ z:xf w1,w'=z.1) (by kernel_rfl) (by kernel_rfl) (by kernel_rfl) ⟨⟨w1.drew,(Below.refl _ _).drew⟩,rfl⟩ ?_
 simp only[o_]
 repeat (go_big_quiet_step (fail))
 refine wpQuiet_nil ?_
 clear z0 z1 z2 z3
 refine yz true (by kernel_rfl) (by kernel_rfl) ?_
 simp only[o_]
 go_wp2
 refine⟨fun _=>⟨⟨_,(((Below.refl _ _).alloc (Nat.le_refl _) _).drew:Below w1.heap.size w1 _)⟩,rfl⟩,yz true (by kernel_rfl) (by kernel_rfl) ?_⟩
 simp only[o_]
 go_wp2
 have hb2:Below w1.heap.size w1 (w1.alloc (.cells (xr x) 68)).drew:=((Below.refl _ _).alloc (Nat.le_refl _) _).drew
 have hn2:(w1.alloc (.cells (xr x) 68)).drew.heap[w1.heap.size]?=some (.cells (xr x) 68 (0,0)):=heap_alloc_new w1 _
 generalize (w1.alloc (.cells (xr x) 68)).drew=w2 at hb2 hn2 ⊢
 have HB2:=h_ hb2
 have hr2:=(hb2.block _ (i_ HR1.out).1).trans HR1.out
 obtain⟨o2,r2⟩:=xI (n:=36) hn2 (xL x)
 have hro:xP w2 (w.heap.size+1) 36=true:=zq hr2 (xL zW)
 have HR:=h_ (xI (n:=36) (setRow_heap w2 (w.heap.size+1) _ (xr x) _ _ hr2) (xL x))
 have HF:=h_ (xJ (HB1.out.trans (hb2.mono HB1.out.size)) (show w.heap.size≤w.heap.size+1 by omega) (xr x))
 clear hb2 hn2 hr2
 refine⟨fun _=>⟨⟨w2,HB2.out⟩,rfl⟩,xG [11] _ _ (by kernel_rfl) ?_⟩
 simp only[o_]
 go_wp2
 refine NoPanic.normal ?_
 go_wp2
 exact bodyPost_ret (v:=.tuple #[.agg (xr x),.bool ok]) (uN rfl Tryz.isAgg68 Tryz.sizeOf68 _ _ ⟨w.heap.size+1,0,none⟩ _ _ rfl rfl HR.out.1 HR.out.2) rfl ⟨HF.out,rfl⟩
end
section
attribute [local go_sem ↓] xV xO vl qD qE
attribute [local go_sem] zx zA xDd xCv xj xh xe xd xA xz xo xl xt xC xx
theorem xG5 {K:Type}{ek:K→Value}{kt et mt:TypeId}(hm:Tryz.prog.underlying mt=some (.map kt et)){w:World}{M:Nat}{l:List (KE K)}{c:Nat}(h:y3 ek w M l c)(ty:TypeId):(Builtin.len_ #[mt] ty #[.map (some M)]).run Tryz.prog w=.ok (.int .i64 l.length) w:=by
 unfold y3 at h
 simp[Builtin.len_,run_underlying hm,MapKept.run_getObj_map h,goInt,Result.andThen]
def HEnt.Ok (x:HEnt):Prop:=0≤x.arr∧x.arr≤105190559∧0≤x.date∧x.date≤105190559∧(x.st=0∨x.st=1)
theorem xUt (x:HEnt)(hx:x.Ok)(w:World):Calls Tryz.prog 199 #[.agg (xr x)] w fun e w'=>e=.returned (.int .i64 0)∧Below w.heap.size w w':=by
 obtain⟨w1,hw1⟩:∃ w1,w1=w.alloc (.cells (xr x) 68):=⟨_,rfl⟩
 have hb1:Below w.heap.size w w1:=by rw[hw1];exact b_ _ _
 have hr1:w1.heap[w.heap.size]?=some (.cells (xr x) 68 (0,0)):=by rw[hw1];exact heap_alloc_new w _
 have c1:=(cell_of_row w1 w.heap.size 32 _ _ _ hr1).trans (he32 x)
 have c2:=(cell_of_row w1 w.heap.size 33 _ _ _ hr1).trans (he33 x)
 have c3:=(cell_of_row w1 w.heap.size 34 _ _ _ hr1).trans (he34 x)
 have H1:=h_ (kM x.arr hx.1 hx.2.1 w1)
 have H2:=h_ (kM x.date hx.2.2.1 hx.2.2.2.1 w1)
 have HB1:=h_ hb1
 have hst:=hx.2.2.2.2
 clear hb1 hr1 hx
 go_enter Tryz.func199,Tryz.ntmps199
 go_upto_region 1 with fail
 refine xu hw1 ?_
 clear hw1
 obtain⟨s,hs⟩:∃ s,s=x.st:=⟨_,rfl⟩
 rw[←hs] at hst c3
 clear hs
 go_wp2_with fail
 refine H1.out.mono ?_
 rintro e w' ⟨rfl,rfl⟩
 go_wp2_with fail
 refine H2.out.mono ?_
 rintro e w' ⟨rfl,rfl⟩
 rcases hst with rfl | rfl
 ·go_wp2
  go_ret
  exact⟨rfl,HB1.out⟩
 ·go_wp2
  go_ret
  exact⟨rfl,HB1.out⟩
def xYp (B:Nat)(v:Hst)(x:HEnt)(w:World)(e:Ending)(w':World):Prop :=
 e=.returned (.int .i64 0)∧Kept [v.M] w w'∧yY B w' { v with es:=putL x.id (.agg (xr x)) v.mc v.es,mc:=putC x.id v.mc v.es }
theorem yY.put {B:Nat}{w:World}{v:Hst}(h:yY B w v)(x:HEnt):yY B (w.putObj v.M (.map ((putL x.id (.agg (xr x)) v.mc v.es).map (enE ekI)).toArray (putC x.id v.mc v.es))) { v with es:=putL x.id (.agg (xr x)) v.mc v.es,mc:=putC x.id v.mc v.es }:=by
 refine⟨(World.putObj_heap_other h.ne).trans h.blk,h.map.put,h.ne,h.pB,h.MB,fun k u hu=>?_⟩
 simp only at hu
 rw[xDh] at hu
 split at hu
 ·exact⟨x,(Option.some.inj hu).symm⟩
 ·exact h.vals k u hu
theorem qB (w:World)(M:Nat)(o:Obj):Kept [M] w (w.putObj M o):=⟨rfl,rfl,rfl,by simp[World.putObj],fun k _ hn=>World.putObj_heap_other (fun e=>hn (by simp[e]))⟩
theorem xXl {B:Nat}{w:World}{v:Hst}(h:yY B w v)(x:HEnt)(hx:x.Ok)(hnew:getK x.id v.es=none)(hl:v.es.length≤1000) :
  Calls Tryz.prog 342 #[.pointer (some ⟨v.p,0,none⟩),.agg (xr x)] w (xYp B v x w):=by
 obtain⟨w1,hw1⟩:∃ w1,w1=w.alloc (.cells (xr x) 68):=⟨_,rfl⟩
 have hb1:Below w.heap.size w w1:=by rw[hw1];exact b_ _ _
 have hr1:w1.heap[w.heap.size]?=some (.cells (xr x) 68 (0,0)):=by rw[hw1];exact heap_alloc_new w _
 obtain⟨o1,r1⟩:=xI (n:=36) hr1 (xL x)
 have HCH:=h_ (xUt x hx w1)
 have H:=h_ h
 have HB1:=h_ hb1
 have HR1:=h_ hr1
 have HNEW:=h_ hnew
 clear h hb1 hr1 hnew hx
 go_enter Tryz.func342,Tryz.ntmps342
 go_upto_region 1 with fail
 refine xu hw1 ?_
 clear hw1
 go_wp2_with fail
 refine HCH.out.mono ?_
 rintro e w2 ⟨rfl,hb2⟩
 have HB2:=h_ (HB1.out.trans (hb2.mono HB1.out.size))
 have hr2:=(hb2.block _ (i_ HR1.out).1).trans HR1.out
 have HR2:=h_ hr2
 have hd2:=H.out.below HB2.out
 have c0:=cell_of_row w2 v.p 0 _ _ _ hd2.blk
 simp only[v_] at c0
 have z0:∀ z:xf w2,z.1.cell? ⟨v.p,0,none⟩=some (.map (some v.M)):=fun z=>z.cell c0
 have ri:=xTc hr2
 have z1:∀ z:xf w2,xq z.1 ⟨w.heap.size,0,none⟩ 32=true:=fun z=>xf.ok ri.1 z
 have z2:∀ z:xf w2,xp z.1 ⟨w.heap.size,0,none⟩ 32=(xB x.id).toArray:=fun z=>(xf.rd ri.1 z).trans ri.2
 obtain⟨x0,hx0,_,hlk⟩:=H.out.look x.id
 obtain rfl:x0=zW:=hx0 HNEW.out
 have z3:∀ z:xf w2,(Instr.lookup 118 (.map (some v.M)) (.agg (xB x.id).toArray) true).run Tryz.prog z.1=.ok (.tuple #[.agg (xr zW),.bool false]) z.1:=fun z=>by
  have:=hlk z.1 ((z.2.block _ hd2.lt.2).trans (HB2.out.block _ H.out.lt.2))
  rw[HNEW.out] at this
  exact this
 have hfz:=xBk zW
 have hz36:((xr zW).size == 36)=true:=by rw[xL];rfl
 clear hr2 hb2 hd2 c0 ri hlk o1 r1 hx0
 go_upto_region 6 with fail
 refine xw [0,1,2,3,4,5,6,7,8,9] [10,11,12] (fun w'=>∃ z:xf w2,w'=z.1) (by kernel_rfl) (by kernel_rfl) (by kernel_rfl) ⟨⟨w2.drew,(Below.refl _ _).drew⟩,rfl⟩ ?_
 simp only[o_]
 repeat (go_big_quiet_step (fail))
 refine wpQuiet_nil ?_
 clear z0 z1 z2 z3
 refine yz true (by kernel_rfl) (by kernel_rfl) ?_
 simp only[o_]
 go_wp2
 refine⟨fun _=>⟨⟨_,(((Below.refl _ _).alloc (Nat.le_refl _) _).drew:Below w2.heap.size w2 _)⟩,rfl⟩,yz true (by kernel_rfl) (by kernel_rfl) ?_⟩
 simp only[o_]
 go_wp2
 have hb3:Below w2.heap.size w2 (w2.alloc (.cells (xr zW) 68)).drew:=((Below.refl _ _).alloc (Nat.le_refl _) _).drew
 generalize (w2.alloc (.cells (xr zW) 68)).drew=w3 at hb3 ⊢
 have HB23:=h_ hb3
 have HB3:=h_ (HB2.out.trans (hb3.mono HB2.out.size))
 have hr3:=(hb3.block _ (i_ HR2.out).1).trans HR2.out
 have HR3:=h_ hr3
 have hd3:=H.out.below HB3.out
 have HD3:=h_ hd3
 have c0:=cell_of_row w3 v.p 0 _ _ _ hd3.blk
 simp only[v_] at c0
 clear hb3 hr3 hd3
 refine⟨fun _=>⟨⟨w3,HB23.out⟩,rfl⟩,xG [12] _ _ (by kernel_rfl) ?_⟩
 simp only[o_]
 go_wp2
 refine NoPanic.normal ?_
 have hq:∀ w,Sem.run Tryz.prog (binOp .eql 118 (.map (some v.M)) (.map none)) w=.ok (.bool false) w:=fun w=>run_eql_map_nil w 118 _ _ (some v.M) Tryz.underlying118
 have hln:=xG5 Tryz.underlying118 HD3.out.map 3
 obtain⟨ml,hml⟩:∃ ml,ml=v.es.length:=⟨_,rfl⟩
 rw[←hml] at hln hl
 have hlz:(ml:Int)≤1000:=by omega
 have hlg:decide (1048576≤(ml:Int))=false:=decide_eq_false (by omega)
 clear hml
 go_upto_region 9 with fail
 go_upto_region 11 with fail
 clear hln hlg
 go_upto_region 13 with fail
 have c3:=cell_of_row w3 v.p 0 _ _ _ HD3.out.blk
 simp only[v_] at c3
 have z0:∀ z:xf w3,z.1.cell? ⟨v.p,0,none⟩=some (.map (some v.M)):=fun z=>z.cell c3
 have ri:=xTc HR3.out
 have rr:=xI (n:=36) HR3.out (xL x)
 have z1:∀ z:xf w3,xq z.1 ⟨w.heap.size,0,none⟩ 32=true:=fun z=>xf.ok ri.1 z
 have z2:∀ z:xf w3,xp z.1 ⟨w.heap.size,0,none⟩ 32=(xB x.id).toArray:=fun z=>(xf.rd ri.1 z).trans ri.2
 have z3:∀ z:xf w3,xq z.1 ⟨w.heap.size,0,none⟩ 36=true:=fun z=>xf.ok rr.1 z
 have z4:∀ z:xf w3,xp z.1 ⟨w.heap.size,0,none⟩ 36=xr x:=fun z=>(xf.rd rr.1 z).trans rr.2
 clear c0 c3 ri rr hq
 refine xw [0,1,2,3,4,5,6] [7] (fun w'=>∃ z:xf w3,w'=z.1) (by kernel_rfl) (by kernel_rfl) (by kernel_rfl) ⟨⟨w3.drew,(Below.refl _ _).drew⟩,rfl⟩ ?_
 simp only[o_]
 repeat (go_big_quiet_step (fail))
 refine wpQuiet_nil ?_
 clear z0 z1 z2 z3 z4
 have hd4:=HD3.out.below ((Below.refl w3.heap.size w3).drew)
 have hup:(Instr.mapUpdate 118 (.map (some v.M)) (.agg (xB x.id).toArray) (.agg (xr x))).run Tryz.prog w3.drew=_:=xD6 keyI Tryz.underlying118 w3.drew v.M v.es v.mc hd4.map x.id (.agg (xr x))
 have hat:=hd4.put x
 have hkp:Kept [v.M] w (w3.drew.putObj v.M (.map ((putL x.id (.agg (xr x)) v.mc v.es).map (enE ekI)).toArray (putC x.id v.mc v.es))):=(Kept.of_below (F:=[v.M]) (HB3.out.trans ((Below.refl w3.heap.size w3).drew.mono HB3.out.size))).trans (qB _ _ _) (fun q hq=>.inl hq)
 have HF:=h_ (And.intro hkp hat)
 clear hd4 hat hkp
 refine xG [7] _ _ (by kernel_rfl) ?_
 simp only[o_]
 generalize w3.drew.putObj v.M (.map ((putL x.id (.agg (xr x)) v.mc v.es).map (enE ekI)).toArray (putC x.id v.mc v.es))=w5 at hup HF
 go_wp2
 refine NoPanic.normal ?_
 clear hup
 go_wp2
 go_ret
 exact⟨rfl,HF.out.1,HF.out.2⟩
theorem xXg (x:HEnt)(s:Int):(xr x).setIfInBounds 34 (.int .i64 s)=xr { x with st:=s }:=by
 unfold xr
 rw[List.setIfInBounds_toArray]
 congr 1
 unfold qe
 rw[List.set_append_right _ _ (by rw[xF];omega),xF]
 rfl
def xVl (B:Nat)(v:Hst)(id:Id32)(x:HEnt)(w:World)(e:Ending)(w':World):Prop :=
 e=.returned (.int .i64 0)∧Kept [v.M] w w'∧yY B w' { v with es:=putL id (.agg (xr { x with st:=1 })) v.mc v.es,mc:=putC id v.mc v.es }
theorem yY.putId {B:Nat}{w:World}{v:Hst}(h:yY B w v)(id:Id32)(x:HEnt):yY B (w.putObj v.M (.map ((putL id (.agg (xr x)) v.mc v.es).map (enE ekI)).toArray (putC id v.mc v.es))) { v with es:=putL id (.agg (xr x)) v.mc v.es,mc:=putC id v.mc v.es }:=by
 refine⟨(World.putObj_heap_other h.ne).trans h.blk,h.map.put,h.ne,h.pB,h.MB,fun k u hu=>?_⟩
 simp only at hu
 rw[xDh] at hu
 split at hu
 ·exact⟨x,(Option.some.inj hu).symm⟩
 ·exact h.vals k u hu
theorem xUq {B:Nat}{w:World}{v:Hst}(h:yY B w v)(id:Id32)(x:HEnt)(hx:getK id v.es=some (.agg (xr x)))(hst:x.st=0) :
  Calls Tryz.prog 353 #[.pointer (some ⟨v.p,0,none⟩),.agg (xB id).toArray] w (xVl B v id x w):=by
 obtain⟨w1,hw1⟩:∃ w1,w1=w.alloc (.cells (xB id).toArray 39):=⟨_,rfl⟩
 have hb1:Below w.heap.size w w1:=by rw[hw1];exact b_ _ _
 have hi1:w1.heap[w.heap.size]?=some (.cells (xB id).toArray 39 (0,0)):=by rw[hw1];exact heap_alloc_new w _
 have hd1:=h.below hb1
 have c0:=cell_of_row w1 v.p 0 _ _ _ hd1.blk
 simp only[v_] at c0
 have z0:∀ z:xf w1,z.1.cell? ⟨v.p,0,none⟩=some (.map (some v.M)):=fun z=>z.cell c0
 have ri:=yE hi1
 have z1:∀ z:xf w1,xq z.1 ⟨w.heap.size,0,none⟩ 32=true:=fun z=>xf.ok ri.1 z
 have z2:∀ z:xf w1,xp z.1 ⟨w.heap.size,0,none⟩ 32=(xB id).toArray:=fun z=>(xf.rd ri.1 z).trans ri.2
 obtain⟨x0,_,hx0,hlk⟩:=h.look id
 have hxx:xr x0=xr x:=by have:=hx0 _ hx;injection this with h1;exact h1.symm
 have z3:∀ z:xf w1,(Instr.lookup 118 (.map (some v.M)) (.agg (xB id).toArray) true).run Tryz.prog z.1=.ok (.tuple #[.agg (xr x),.bool true]) z.1:=fun z=>by
  have:=hlk z.1 ((z.2.block _ hd1.lt.2).trans (hb1.block _ h.lt.2))
  rw[hx,hxx] at this
  exact this
 have hfx:=xBk x
 have hz36:((xr zW).size == 36)=true:=by rw[xL];rfl
 have H:=h_ h
 have HB1:=h_ hb1
 have HI1:=h_ hi1
 have HST:=h_ hst
 clear h hb1 hi1 hd1 c0 ri hx0 hlk hxx hx hst
 go_enter Tryz.func353,Tryz.ntmps353
 go_upto_region 3 with fail
 refine xu hw1 ?_
 clear hw1
 refine xw [0,1,2,3,4,5,6,7,8] [9,10,11] (fun w'=>∃ z:xf w1,w'=z.1) (by kernel_rfl) (by kernel_rfl) (by kernel_rfl) ⟨⟨w1.drew,(Below.refl _ _).drew⟩,rfl⟩ ?_
 simp only[o_]
 repeat (go_big_quiet_step (fail))
 refine wpQuiet_nil ?_
 clear z0 z1 z2 z3
 refine yz true (by kernel_rfl) (by kernel_rfl) ?_
 simp only[o_]
 go_wp2
 refine⟨fun _=>⟨⟨_,(((Below.refl _ _).alloc (Nat.le_refl _) _).drew:Below w1.heap.size w1 _)⟩,rfl⟩,yz true (by kernel_rfl) (by kernel_rfl) ?_⟩
 simp only[o_]
 go_wp2
 have hb2:Below w1.heap.size w1 (w1.alloc (.cells (xr x) 68)).drew:=((Below.refl _ _).alloc (Nat.le_refl _) _).drew
 have hn2:(w1.alloc (.cells (xr x) 68)).drew.heap[w1.heap.size]?=some (.cells (xr x) 68 (0,0)):=heap_alloc_new w1 _
 generalize (w1.alloc (.cells (xr x) 68)).drew=w2 at hb2 hn2 ⊢
 have HB2:=h_ hb2
 have c34:=(cell_of_row w2 w1.heap.size 34 _ _ _ hn2).trans (he34 x)
 have f34:=frozen_of_row w2 w1.heap.size 34 _ _ hn2
 rw[HST.out] at c34
 have hn3:(w2.setCell ⟨w1.heap.size,34,none⟩ (.int .i64 1)).heap[w1.heap.size]?=some (.cells (xr { x with st:=1 }) 68 (0,0)):=by rw[heap_setCell_same w2 w1.heap.size 34 _ _ _ hn2,xXg]
 have hb3:Below w.heap.size w (w2.setCell ⟨w1.heap.size,34,none⟩ (.int .i64 1)):=(HB1.out.trans (hb2.mono HB1.out.size)).setCell (p:=⟨w1.heap.size,34,none⟩) HB1.out.size _
 have hi3:(w2.setCell ⟨w1.heap.size,34,none⟩ (.int .i64 1)).heap[w.heap.size]?=some (.cells (xB id).toArray 39 (0,0)):=(heap_setCell_other w2 ⟨w1.heap.size,34,none⟩ w.heap.size _ (by have:=(i_ HI1.out).1;show w.heap.size≠w1.heap.size;omega)).trans ((hb2.block _ (i_ HI1.out).1).trans HI1.out)
 obtain⟨w3,hw3⟩:∃ w3,w3=w2.setCell ⟨w1.heap.size,34,none⟩ (.int .i64 1):=⟨_,rfl⟩
 rw[←hw3] at hn3 hb3 hi3
 have HN3:=h_ hn3
 have HB3:=h_ hb3
 have HI3:=h_ hi3
 clear hb2 hn2 hn3 hb3 hi3
 refine⟨fun _=>⟨⟨w2,HB2.out⟩,rfl⟩,xG [11] _ _ (by kernel_rfl) ?_⟩
 simp only[o_]
 go_wp2
 refine NoPanic.normal ?_
 go_upto_region 9 with fail
 refine xu hw3 ?_
 clear hw3 c34 f34
 have hd3:=H.out.below HB3.out
 have c3:=cell_of_row w3 v.p 0 _ _ _ hd3.blk
 simp only[v_] at c3
 have z0:∀ z:xf w3,z.1.cell? ⟨v.p,0,none⟩=some (.map (some v.M)):=fun z=>z.cell c3
 have ri:=yE HI3.out
 have rr:=xI (n:=36) HN3.out (xL _)
 have z1:∀ z:xf w3,xq z.1 ⟨w.heap.size,0,none⟩ 32=true:=fun z=>xf.ok ri.1 z
 have z2:∀ z:xf w3,xp z.1 ⟨w.heap.size,0,none⟩ 32=(xB id).toArray:=fun z=>(xf.rd ri.1 z).trans ri.2
 have z3:∀ z:xf w3,xq z.1 ⟨w1.heap.size,0,none⟩ 36=true:=fun z=>xf.ok rr.1 z
 have z4:∀ z:xf w3,xp z.1 ⟨w1.heap.size,0,none⟩ 36=xr { x with st:=1 }:=fun z=>(xf.rd rr.1 z).trans rr.2
 have hd4:=hd3.below ((Below.refl w3.heap.size w3).drew)
 have hup:(Instr.mapUpdate 118 (.map (some v.M)) (.agg (xB id).toArray) (.agg (xr { x with st:=1 }))).run Tryz.prog w3.drew=_:=xD6 keyI Tryz.underlying118 w3.drew v.M v.es v.mc hd4.map id (.agg (xr { x with st:=1 }))
 have hat:=hd4.putId id { x with st:=1 }
 have hkp:Kept [v.M] w (w3.drew.putObj v.M (.map ((putL id (.agg (xr { x with st:=1 })) v.mc v.es).map (enE ekI)).toArray (putC id v.mc v.es))):=(Kept.of_below (F:=[v.M]) (HB3.out.trans ((Below.refl w3.heap.size w3).drew.mono HB3.out.size))).trans (qB _ _ _) (fun q hq=>.inl hq)
 have HF:=h_ (And.intro hkp hat)
 clear hd3 hd4 hat hkp c3 ri rr
 refine xw [0,1,2,3,4,5] [6] (fun w'=>∃ z:xf w3,w'=z.1) (by kernel_rfl) (by kernel_rfl) (by kernel_rfl) ⟨⟨w3.drew,(Below.refl _ _).drew⟩,rfl⟩ ?_
 simp only[o_]
 repeat (go_big_quiet_step (fail))
 refine wpQuiet_nil ?_
 clear z0 z1 z2 z3 z4
 refine xG [6] _ _ (by kernel_rfl) ?_
 simp only[o_]
 generalize w3.drew.putObj v.M (.map ((putL id (.agg (xr { x with st:=1 })) v.mc v.es).map (enE ekI)).toArray (putC id v.mc v.es))=w5 at hup HF
 go_wp2
 refine NoPanic.normal ?_
 clear hup
 go_wp2
 go_ret
 exact⟨rfl,HF.out.1,HF.out.2⟩
end
theorem xXe (f:Value)(w:World):Calls Tryz.prog 231 #[.slice none 0 0,.int .i64 0,.int .i64 0,f] w fun e w'=>e=.returned (.tuple #[])∧w=w':=by
 go_enter Tryz.func231,Tryz.ntmps231
 go_wp2
 refine wp_loop_once ?_
 go_wp2
 go_end0
 exact⟨rfl,rfl⟩
theorem xXc (f:Value)(w:World):Calls Tryz.prog 196 #[.slice none 0 0,.int .i64 0,.int .i64 0,.int .i64 0,f] w fun e w'=>e=.returned (.tuple #[])∧w=w':=by
 have HI:=h_ (xXe f w)
 go_enter Tryz.func196,Tryz.ntmps196
 go_wp2
 refine wp_loop_once ?_
 go_wp2_with fail
 refine HI.out.mono ?_
 rintro e w' ⟨rfl,rfl⟩
 go_wp2
 first | go_end0 | (simp only[Exit.inBlock,Exit.then];refine bodyPost_ret (results_none rfl _ _ _) rfl ?_) | refine bodyPost_ret (results_none rfl _ _ _) rfl ?_
 exact⟨rfl,rfl⟩
theorem xUp (f:Value)(w:World):Calls Tryz.prog 163 #[.slice none 0 0,f] w fun e w'=>e=.returned (.tuple #[])∧w=w':=by
 have HI:=h_ (xXc f w)
 have HB:=h_ (Tryz.bits_Len 0 w (by decide) (by decide))
 go_enter Tryz.func163,Tryz.ntmps163
 go_wp2_with fail
 refine HB.out.mono ?_
 rintro e w' ⟨rfl,rfl⟩
 have h0:Lib.bitLen (0:Int).toNat=0:=by decide
 rw[h0]
 go_wp2_with fail
 refine HI.out.mono ?_
 rintro e w' ⟨rfl,rfl⟩
 go_wp2
 go_end0
 exact⟨rfl,rfl⟩
theorem xJf {B:Nat}{w:World}{v:Hst}(h:yY B w v)(he:v.es=[])(f:Value):Calls Tryz.prog 124 #[.pointer (some ⟨v.p,0,none⟩),f] w fun e w'=>e=.returned (.slice none 0 0)∧Below w.heap.size w w':=by
 have c0:=cell_of_row w v.p 0 _ _ _ h.blk
 simp only[v_] at c0
 have hm:=h.map
 unfold y3 at hm
 rw[he] at hm
 have hrg:=run_range_map (P:=Tryz.prog) w 118 _ _ v.M _ v.mc Tryz.underlying118 hm
 obtain⟨W,hW⟩:∃ W,W=w.alloc (.mapIter (some v.M) v.mc #[] v.mc):=⟨_,rfl⟩
 have hb:Below w.heap.size w W:=by rw[hW];exact b_ _ _
 have hit:W.heap[w.heap.size]?=some (.mapIter (some v.M) v.mc #[] v.mc):=by rw[hW];exact heap_alloc_new w _
 have hnx:∀ ty,(Instr.next (.pointer (some ⟨w.heap.size,0,none⟩)) false ty).run Tryz.prog W=.ok (.tuple #[.bool false]) W:=fun ty=>by
  rcases run_next_at (P:=Tryz.prog) W ty w.heap.size v.M v.mc v.mc #[] _ v.mc hit ((hb.block _ h.lt.2).trans hm) (fun x hx=>by cases hx) (Nat.le_refl _) with⟨_,h1⟩ | ⟨e,he,_⟩
  ·exact h1
  ·exact absurd (mem_left he).1 (by simp)
 have HB:=h_ hb
 rw[←hW] at hrg
 clear hm hb hit h he hW
 go_enter Tryz.func124,Tryz.ntmps124
 go_wp2
 refine wp_loop_once ?_
 clear hrg c0
 go_wp2_with fail
 refine(xUp _ W).mono ?_
 rintro e w' ⟨rfl,rfl⟩
 clear hnx
 go_wp2
 go_ret
 exact⟨rfl,HB.out⟩
theorem xWe {α:Type}{gf n:Nat}{lb:Array Value}{encs:α→Array Value}{Kp:World→World→Prop}{w:World}(h:∀ y W,Below w.heap.size w W→Calls Tryz.prog gf (#[y]++lb) W fun e W'=>(∃ v,e=.returned v)∧Below W.heap.size W W') :
  SeqStopsK Fence.wide n Tryz.prog gf lb encs Kp (fun xs=>xs=[]) (fun _=>False) 0 w:=fun l J Jx W hW hJ _ _ hj =>
 callsIn_wide.2 ((h _ W hW).mono fun e W' ⟨he,hb⟩=>⟨he,.inl ⟨[],rfl,hJ [] W W' none hj (ui hb none) (fun r hr=>by cases hr)⟩⟩)
theorem xBs {g:Operand}{ps:Array Tmp}{assign body:Code}{Q:Exit→Act→World→Prop}{a:Act}{w:World}{gf:Nat}{lb:Array Value}(hg:a.eval g=.func (.func gf) #[] lb)(eg:∀ args w,(callFunc gf args).run Tryz.prog w=.ok (.enter gf args) w)
  (hcall:∀ y W,Below w.heap.size w W→Calls Tryz.prog gf (#[y]++lb) W fun e W'=>(∃ v,e=.returned v)∧Below W.heap.size W W')
  (hdone:∀ (D:Nat) (W:World),w.heap.size≤D→Below w.heap.size w W→W.heap[D]?=some (.deferred (some []))→Q .normal { a with defers:={ target:=.collected D,args:=#[] } :: a.defers } W):(Code.rangeFunc g ps assign body).wp Tryz.prog Q a w :=
 (wpIn_wide (n:=4)).1 (wpIn_rangeFunc_ownH (α:=Empty) rfl (by omega) hg trivial eg (encs:=fun x=>x.elim) (Kp:=fun _ _=>True) (xWe hcall) (fun _ _=>trivial) (fun _ _ _ _ _ _ _ _=>trivial) (Below.refl _ _) (fun x=>x.elim)
  (fun _ W=>Below w.heap.size w W) (fun _ _ _=>False) (fun pre A B row h hg hr=>h.grown hg h.size (fun k e=>(hr k e).1)) (fun c pre A B row h hg hr=>h) (Below.refl _ _) (fun x _ _=>x.elim) (fun x=>x.elim)
  (fun _ _ x=>x.elim) (fun _ _ x=>x.elim) (fun D xs W hD _ hI hK=>hdone D W hD hI hK) (fun _ _ _ _ _ h=>h.elim))
structure ByB (B:Nat)(w:World)(v:Value)(l:By)(W:World):Prop where
 bel:Below B w W
 own:OwnB W B v l
theorem ByB.app {B:Nat}{w W W1 W2:World}{v v':Value}{l r:By}(h:ByB B w v l W)(hB:B≤W.heap.size)(hb:Below W.heap.size W W1)(ho:OwnB W2 B v' (l++r))(hg:W1.grownBy W2 v.ownBlock):ByB B w v' (l++r) W2 :=
 ⟨(h.bel.trans (hb.mono hB)).grown hg (Nat.le_trans hB hb.size) (fun _ e=>(h.own.lt e).1),ho⟩
theorem xVd (l0:By)(n:Nat)(hn:n≤4611686018427387904)(v0:Value)(w:World)(B:Nat)(hown:OwnB w B v0 l0)(hB:B≤w.heap.size)(hl0:l0.length≤1000000) :
  Calls Tryz.prog 109 #[v0,.int .i64 n] w fun e w'=>Below B w w'∧∃ v,e=.returned v∧OwnB w' B v (l0++beB 4 n):=by
 have HST:Hid (ByB B w v0 (l0++(beB 4 n).take 0) w):=h_ ⟨Below.refl _ _,by simpa using hown⟩
 have HB:=h_ hB
 clear hown hB
 go_enter Tryz.func109,Tryz.ntmps109
 go_wp2
 go_loopw [5,0] (fun i bv wr=>∃ j:Nat,i=.int .i64 (3-(j:Int))∧j≤4∧Hid (ByB B w bv (l0++(beB 4 n).take j) wr)) (fun i _ _=>(intOf i+1).toNat)
 case atStart=>exact⟨0,rfl,by omega,HST⟩
 case round =>
  obtain⟨j,rfl,hj,HS2⟩:=hrel
  by_cases hlt2:j<4
  ·obtain⟨i,hi⟩:∃ i:Nat,i=3-j:=⟨_,rfl⟩
   have hi2:(3:Int)-j=(i:Int):=by omega
   rw[hi2]
   have hx:=vv n i
   have hge:=vR 4 n j hlt2
   rw[show 4-1-j=i by omega] at hge
   generalize hbx:UInt8.ofNat (n / 256 ^ i)=b at hx hge
   have hsn:(l0++(beB 4 n).take j)++[b]=l0++(beB 4 n).take (j+1):=by
    rw[List.take_succ_eq_append_getElem (by rw[xv];exact hlt2),hge,List.append_assoc]
   have b1:(0:Int)≤8*(i:Int):=by omega
   have b2:8*(i:Int)≤64:=by omega
   have b3:(n:Int)≤4611686018427387904:=by omega
   have hbel:Below wr.heap.size wr (wr.alloc (.cells #[.int .u8 b.toNat] 5)):=(Below.refl _ _).alloc (Nat.le_refl _) _
   have ho1:OwnB (wr.alloc (.cells #[.int .u8 b.toNat] 5)) B u0 (l0++(beB 4 n).take j):=HS2.out.own.below hbel
   have hs1:SlB (wr.alloc (.cells #[.int .u8 b.toNat] 5)) ⟨wr.heap.size,0,none⟩ [b]:=vK wr 5 [b]
   have hsB:B≤wr.heap.size:=Nat.le_trans HB.out HS2.out.bel.size
   have hnx:∀ v' W2,OwnB W2 B v' ((l0++(beB 4 n).take j)++[b])→(wr.alloc (.cells #[.int .u8 b.toNat] 5)).grownBy W2 u0.ownBlock→ByB B w v' (l0++(beB 4 n).take (j+1)) W2:=fun v' W2 ho hg=>by
    have:=HS2.out.app hsB hbel ho hg
    rw[hsn] at this;exact this
   have hsz:B≤(wr.alloc (.cells #[.int .u8 b.toNat] 5)).heap.size:=by simp;omega
   have hll:(l0++(beB 4 n).take j).length+[b].length≤1000000000000:=by rw[List.length_append,List.length_take];simp;omega
   rw[hx] at ho1 hs1 hnx hsz
   have HO1:=h_ ho1
   have HS1:=h_ hs1
   have HNX:=h_ hnx
   have HSZ:=h_ hsz
   have HLL:=h_ hll
   have HI:=h_ hi
   clear hi hx hge hbx hsn hbel ho1 hs1 hnx hsz hll hi2 hsB
   go_wp2_with (at_builtin;refine zu rfl (.tmp 10) (.tmp 16) rfl B _ (l0++(beB 4 n).take j) rfl HO1.out ⟨wr.heap.size,0,none⟩ [b] 1 rfl HS1.out HLL.out HSZ.out ?_)
   intro v' w' ho hg2 _
   rw[←List.append_assoc] at ho
   have HN:=h_ (HNX.out v' w' ho hg2)
   have hi3:(i:Int)-1=3-((j+1:Nat):Int):=by have:=HI.out;omega
   have HI3:=h_ hi3
   have hi8:(i:Int)≤3:=by have:=HI.out;omega
   clear ho hg2 hi3
   go_wp2
   go_roundw
   case rel=>exact⟨j+1,by rw[←HI3.out],by omega,HN⟩
   case measure=>simp[intOf]
  ·obtain rfl:j=4:=by omega
   have HF:Hid (ByB B w u0 (l0++beB 4 n) wr):=by
    have:=HS2.out
    rw[List.take_of_length_le (by rw[xv];exact Nat.le_refl _)] at this
    exact h_ this
   have hi2:(3:Int)-(4:Nat)=-1:=by omega
   rw[hi2]
   go_wp2
   go_ret
   exact⟨HF.out.bel,_,rfl,HF.out.own⟩
theorem xVc (l0:By)(n:Nat)(hn:n≤4611686018427387904)(v0:Value)(w:World)(B:Nat)(hown:OwnB w B v0 l0)(hB:B≤w.heap.size)(hl0:l0.length≤1000000) :
  Calls Tryz.prog 110 #[v0,.int .i64 n] w fun e w'=>Below B w w'∧∃ v,e=.returned v∧OwnB w' B v (l0++beB 8 n):=by
 have HST:Hid (ByB B w v0 (l0++(beB 8 n).take 0) w):=h_ ⟨Below.refl _ _,by simpa using hown⟩
 have HB:=h_ hB
 clear hown hB
 go_enter Tryz.func110,Tryz.ntmps110
 go_wp2
 go_loopw [5,0] (fun i bv wr=>∃ j:Nat,i=.int .i64 (7-(j:Int))∧j≤8∧Hid (ByB B w bv (l0++(beB 8 n).take j) wr)) (fun i _ _=>(intOf i+1).toNat)
 case atStart=>exact⟨0,rfl,by omega,HST⟩
 case round =>
  obtain⟨j,rfl,hj,HS2⟩:=hrel
  by_cases hlt2:j<8
  ·obtain⟨i,hi⟩:∃ i:Nat,i=7-j:=⟨_,rfl⟩
   have hi2:(7:Int)-j=(i:Int):=by omega
   rw[hi2]
   have hx:=vv n i
   have hge:=vR 8 n j hlt2
   rw[show 8-1-j=i by omega] at hge
   generalize hbx:UInt8.ofNat (n / 256 ^ i)=b at hx hge
   have hsn:(l0++(beB 8 n).take j)++[b]=l0++(beB 8 n).take (j+1):=by
    rw[List.take_succ_eq_append_getElem (by rw[xv];exact hlt2),hge,List.append_assoc]
   have b1:(0:Int)≤8*(i:Int):=by omega
   have b2:8*(i:Int)≤64:=by omega
   have b3:(n:Int)≤4611686018427387904:=by omega
   have hbel:Below wr.heap.size wr (wr.alloc (.cells #[.int .u8 b.toNat] 5)):=(Below.refl _ _).alloc (Nat.le_refl _) _
   have ho1:OwnB (wr.alloc (.cells #[.int .u8 b.toNat] 5)) B u0 (l0++(beB 8 n).take j):=HS2.out.own.below hbel
   have hs1:SlB (wr.alloc (.cells #[.int .u8 b.toNat] 5)) ⟨wr.heap.size,0,none⟩ [b]:=vK wr 5 [b]
   have hsB:B≤wr.heap.size:=Nat.le_trans HB.out HS2.out.bel.size
   have hnx:∀ v' W2,OwnB W2 B v' ((l0++(beB 8 n).take j)++[b])→(wr.alloc (.cells #[.int .u8 b.toNat] 5)).grownBy W2 u0.ownBlock→ByB B w v' (l0++(beB 8 n).take (j+1)) W2:=fun v' W2 ho hg=>by
    have:=HS2.out.app hsB hbel ho hg
    rw[hsn] at this;exact this
   have hsz:B≤(wr.alloc (.cells #[.int .u8 b.toNat] 5)).heap.size:=by simp;omega
   have hll:(l0++(beB 8 n).take j).length+[b].length≤1000000000000:=by rw[List.length_append,List.length_take];simp;omega
   rw[hx] at ho1 hs1 hnx hsz
   have HO1:=h_ ho1
   have HS1:=h_ hs1
   have HNX:=h_ hnx
   have HSZ:=h_ hsz
   have HLL:=h_ hll
   have HI:=h_ hi
   clear hi hx hge hbx hsn hbel ho1 hs1 hnx hsz hll hi2 hsB
   go_wp2_with (at_builtin;refine zu rfl (.tmp 10) (.tmp 16) rfl B _ (l0++(beB 8 n).take j) rfl HO1.out ⟨wr.heap.size,0,none⟩ [b] 1 rfl HS1.out HLL.out HSZ.out ?_)
   intro v' w' ho hg2 _
   rw[←List.append_assoc] at ho
   have HN:=h_ (HNX.out v' w' ho hg2)
   have hi3:(i:Int)-1=7-((j+1:Nat):Int):=by have:=HI.out;omega
   have HI3:=h_ hi3
   have hi8:(i:Int)≤7:=by have:=HI.out;omega
   clear ho hg2 hi3
   go_wp2
   go_roundw
   case rel=>exact⟨j+1,by rw[←HI3.out],by omega,HN⟩
   case measure=>simp[intOf]
  ·obtain rfl:j=8:=by omega
   have HF:Hid (ByB B w u0 (l0++beB 8 n) wr):=by
    have:=HS2.out
    rw[List.take_of_length_le (by rw[xv];exact Nat.le_refl _)] at this
    exact h_ this
   have hi2:(7:Int)-(8:Nat)=-1:=by omega
   rw[hi2]
   go_wp2
   go_ret
   exact⟨HF.out.bel,_,rfl,HF.out.own⟩
theorem xXk (b:Nat)(w:World):Calls Tryz.prog 80 #[.pointer (some ⟨b,0,none⟩)] w fun e w'=>e=.returned (.func (.func 123) #[] #[.pointer (some ⟨w.heap.size,0,none⟩)])∧w.alloc (.cells #[.pointer (some ⟨b,0,none⟩)] 58)=w':=by
 go_enter Tryz.func80,Tryz.ntmps80
 go_wp2
 go_ret
 exact⟨rfl,rfl⟩
theorem xPf {B:Nat}{w:World}{v:Hst}(h:yY B w v)(he:v.es=[])(bx:Nat)(hbx:w.cell? ⟨bx,0,none⟩=some (.pointer (some ⟨v.p,0,none⟩)))(y:Value) :
  Calls Tryz.prog 123 #[y,.pointer (some ⟨bx,0,none⟩)] w fun e w'=>(∃ u,e=.returned u)∧Below w.heap.size w w':=by
 have HS:Hid (∀ f,Calls Tryz.prog 124 #[.pointer (some ⟨v.p,0,none⟩),f] w fun e w'=>e=.returned (.slice none 0 0)∧Below w.heap.size w w'):=h_ fun f=>xJf h he f
 clear h he
 go_enter Tryz.func123,Tryz.ntmps123
 go_wp2_with fail
 refine(HS.out _).mono ?_
 rintro e w1 ⟨rfl,hb⟩
 have HB:=h_ hb
 clear hb hbx
 go_wp2
 refine wp_loop_once ?_
 go_wp2
 go_end0
 exact⟨⟨_,rfl⟩,HB.out⟩
theorem xJg {B:Nat}{w:World}{v:Hst}(h:yY B w v)(he:v.es=[])(c:Nat)(hc:v.cut=c)(hcl:c≤105190559) :
  Calls Tryz.prog 70 #[.pointer (some ⟨v.p,0,none⟩)] w fun e w'=>Below w.heap.size w w'∧∃ u,e=.returned u∧OwnB w' w.heap.size u (beB 4 c):=by
 have c1:=cell_of_row w v.p 1 _ _ _ h.blk
 simp only[v_] at c1
 rw[hc] at c1
 have HA:=h_ (xVd [] c (by omega) (.slice none 0 0) w w.heap.size (OwnB.nil _ _) (Nat.le_refl _) (by simp))
 have H:=h_ h
 have HE:=h_ he
 clear h he hc hcl
 refine(callsIn_wide (n:=4)).1 (callsIn_of_wp_marks Tryz.func70 rfl trivial ?_ rfl)
 simp only[Tryz.ntmps70,List.size_toArray,List.length_cons,List.length_nil,Nat.reduceAdd,Nat.reduceSub,Array.replicate_succ,Array.replicate_zero,List.push_toArray,List.append_toArray,List.nil_append,List.cons_append]
 refine wpIn_wide.2 ?_
 go_wp2_with fail
 refine HA.out.mono ?_
 rintro e w1 ⟨hb1,u,rfl,hown⟩
 rw[List.nil_append] at hown
 have hone:u.oneCell'=true:=by
  rcases hown.at with⟨h0,_⟩ | ⟨g,cp,h0,_⟩ <;> rw[h0] <;> rfl
 obtain⟨ug,uc,hu,_,_,_,_⟩:∃ g cap,u=.slice (some ⟨g,0,none⟩) 4 cap∧w.heap.size≤g∧4≤cap∧cap≤maxLen∧SlB w1 ⟨g,0,none⟩ (beB 4 c):=by
  rcases hown.at with⟨_,h⟩ | ⟨g,cap,h1,h2,h3,h4,h5⟩
  ·exact absurd (congrArg List.length h) (by simp[xv])
  ·have e:(beB 4 c).length=4:=by simp[xv]
   rw[e] at h1 h3
   exact⟨g,cap,h1,h2,h3,h4,h5⟩
 subst hu
 obtain⟨w2,hw2⟩:∃ w2,w2=w1.alloc (.cells #[.slice (some ⟨ug,0,none⟩) 4 uc] 66):=⟨_,rfl⟩
 have hb12:Below w1.heap.size w1 w2:=by rw[hw2];exact b_ _ _
 have hn2:w2.heap[w1.heap.size]?=some (.cells #[.slice (some ⟨ug,0,none⟩) 4 uc] 66 (0,0)):=by rw[hw2];exact heap_alloc_new w1 _
 have HB2:=h_ (hb1.trans (hb12.mono hb1.size))
 have HO2:=h_ (hown.below hb12)
 have HN2:=h_ hn2
 clear hb1 hown hb12 hn2 c1 hone
 go_upto_region 4 with fail
 refine xu hw2 ?_
 clear hw2
 go_wp2_with fail
 refine(xXk v.p w2).mono ?_
 rintro e w3 ⟨rfl,rfl⟩
 have hb3:Below w2.heap.size w2 (w2.alloc (.cells #[.pointer (some ⟨v.p,0,none⟩)] 58)):=(Below.refl _ _).alloc (Nat.le_refl _) _
 have hbx:=yy w2 #[.pointer (some ⟨v.p,0,none⟩)] 58 0
 generalize w2.alloc (.cells #[.pointer (some ⟨v.p,0,none⟩)] 58)=w3 at hb3 hbx ⊢
 have HB3:=h_ hb3
 have HBX:=h_ hbx
 clear hb3 hbx
 go_wp2
 refine xBs rfl (enters_of Tryz.func123 (by kernel_rfl) rfl) (fun y W hW=>?_) (fun D W hD hW hK=>?_)
 ·have hw03:=HB2.out.trans (HB3.out.mono HB2.out.size)
  exact xPf (H.out.below (hw03.trans (hW.mono hw03.size))) HE.out _ ((hW.cell (p:=⟨w2.heap.size,0,none⟩) (block_lt_of_cell HBX.out)).trans HBX.out) y
 ·have h2W:=HB3.out.trans (hW.mono HB3.out.size)
  have hcW:=(h2W.cell (p:=⟨w1.heap.size,0,none⟩) (i_ HN2.out).1).trans (cell_of_row w2 w1.heap.size 0 _ _ _ HN2.out)
  simp only[v_] at hcW
  have HOW:=h_ (HO2.out.below h2W)
  have HBW:=h_ (HB2.out.trans (h2W.mono HB2.out.size))
  have HK:=h_ hK
  have HD:=h_ hD
  clear hW hK h2W hD
  go_wp2
  refine⟨by simp,.inl ⟨_,_,rfl,run_takeDeferred HK.out,?_⟩⟩
  refine⟨.slice (some ⟨ug,0,none⟩) 4 uc,results_tmp (t:=2) Tryz.results70 _ _ _,HBW.out.grown (grownBy_putObj' _ D _) HBW.out.size (fun k e=>by cases e;have:=HB2.out.size;have:=HB3.out.size;have:=HD.out;omega),_,rfl,HOW.out.grown (grownBy_putObj' _ D _) (fun k e=>?_)⟩
  cases e
  have h1:=(HO2.out.lt (k:=ug) rfl).2
  have h2:=HB3.out.size
  have h3:=HD.out
  intro h4
  have h5:ug=D:=Option.some.inj h4
  omega
section
theorem ku (a:Addr)(l:By)(cap:Nat)(w:World)(hs:SlB w a l)(hl:l.length=4)(hc:4≤cap) :
  Calls Tryz.prog 171 #[.slice (some a) 4 cap] w fun e w'=>e=.returned (.int .i64 (deB l:Nat))∧w=w':=by
 have HS:=h_ hs
 have HL:=h_ hl
 have hz:(4:Int)≤cap:=by omega
 clear hs hl
 go_enter Tryz.func171,Tryz.ntmps171
 go_wp2
 go_loopw [3,9] (fun nv u wr=>∃ k:Nat,u=.int .i64 k∧nv=.int .i64 (deB (l.take k):Nat)∧k≤4∧wr=w) (fun _ u _=>4-(intOf u).toNat)
 case atStart=>exact⟨0,rfl,by simp[deB],by omega,rfl⟩
 case round =>
  obtain⟨k,rfl,rfl,hk,rfl⟩:=hrel
  by_cases hlt:k<4
  ·have hltz:(k:Int)<4:=by omega
   have hkl:k<l.length:=by rw[HL.out];exact hlt
   have hcl:=HS.out.cell k _ (List.getElem?_eq_getElem hkl)
   have hd:deB (l.take (k+1))=deB (l.take k)*256+(l[k]'hkl).toNat:=by
    rw[List.take_succ_eq_append_getElem hkl,kv]
   have hdl:=jp (l.take k) (by rw[List.length_take];omega)
   generalize l[k]'hkl=b at hcl hd
   have hb256:=b.toNat_lt
   obtain⟨n,hn⟩:∃ n,n=deB (l.take k):=⟨_,rfl⟩
   rw[←hn] at hd hdl ⊢
   have hor:=xM9 n b.toNat (by omega) (by omega)
   rw[←hd] at hor
   have b0:(n:Int)<4294967296:=by omega
   have hk1:k+1≤4:=hlt
   clear hn hd hdl hkl
   go_wp2
   go_roundw
   case rel=>exact⟨k+1,by go_num,rfl,hk1,trivial⟩
   case measure=>simp[intOf];omega
  ·obtain rfl:k=4:=by omega
   rw[List.take_of_length_le (by rw[HL.out];exact Nat.le_refl _)]
   go_wp2
   go_ret
   exact⟨rfl,rfl⟩
attribute [local go_sem ↓] vl qD qE
attribute [local go_sem] xDd xCv xj xh xe xd xA xz xo xl xt xC xx
theorem xJi (a:Addr)(l:By)(cap:Nat)(w:World)(hs:SlB w a l)(ha:a.block<w.heap.size)(hl:l.length=4)(hc:4≤cap)(hm:deB l≤105190559) :
  Calls Tryz.prog 141 #[.slice (some a) 4 cap] w fun e w'=>Below w.heap.size w w'∧∃ v,e=.returned (.tuple #[.pointer (some ⟨v.p,0,none⟩),.int .i64 0])∧yY w.heap.size w' v∧v.es=[]∧v.cut=(deB l:Nat):=by
 have hz:(4:Int)≤cap:=by omega
 obtain⟨c,hcd⟩:∃ c,c=deB l:=⟨_,rfl⟩
 have HD1:=h_ (ku a l cap w hs hl hc)
 rw[←hcd] at hm HD1 ⊢
 have HIM:=h_ (kM (c:Int) (by omega) (by omega) w)
 have HNEW:=h_ (xHw w)
 have HS:=h_ hs
 have HL:=h_ hl
 have HCD:=h_ hcd
 have hmz:(c:Int)≤105190559:=by omega
 clear hs hl hcd
 go_enter Tryz.func141,Tryz.ntmps141
 go_wp2_with fail
 refine HD1.out.mono ?_
 rintro e w' ⟨rfl,rfl⟩
 go_wp2_with fail
 refine HIM.out.mono ?_
 rintro e w' ⟨rfl,rfl⟩
 go_wp2_with fail
 refine HNEW.out.mono ?_
 rintro e w1 ⟨hb1,rfl,hat⟩
 have hsl1:SlB w1 a l:=⟨fun q x hq=>(hb1.cell (by rw[y9];exact ha)).trans (HS.out.cell q x hq)⟩
 have HD2:=h_ (ku a l cap w1 hsl1 HL.out hc)
 rw[←HCD.out] at HD2
 have c1:=cell_of_row w1 (w.heap.size+1) 1 _ _ _ hat.blk
 have f1:=frozen_of_row w1 (w.heap.size+1) 1 _ _ hat.blk
 simp only[v_] at c1
 have hat2:yY w.heap.size (w1.setCell ⟨w.heap.size+1,1,none⟩ (.int .i64 c)) ⟨w.heap.size+1,w.heap.size,[],0,c⟩:=by
  refine⟨?_,?_,hat.ne,hat.pB,hat.MB,hat.vals⟩
  ·rw[heap_setCell_same w1 (w.heap.size+1) 1 _ _ _ hat.blk];rfl
  ·exact(heap_setCell_other w1 ⟨w.heap.size+1,1,none⟩ w.heap.size _ (by show w.heap.size≠w.heap.size+1;omega)).trans hat.map
 have hb2:Below w.heap.size w (w1.setCell ⟨w.heap.size+1,1,none⟩ (.int .i64 c)):=hb1.setCell (p:=⟨w.heap.size+1,1,none⟩) (by simp) _
 have HA2:=h_ hat2
 have HB2:=h_ hb2
 obtain⟨w2,hw2⟩:∃ w2,w2=w1.setCell ⟨w.heap.size+1,1,none⟩ (.int .i64 c):=⟨_,rfl⟩
 rw[←hw2] at HA2 HB2
 clear hsl1 hat hat2 hb2 hb1
 go_wp2_with fail
 refine HD2.out.mono ?_
 rintro e w' ⟨rfl,rfl⟩
 go_upto_region 5 with fail
 refine xu hw2 ?_
 clear hw2 c1 f1
 have hsl:=jy a 4 cap 4 4 rfl (by omega)
 go_upto_region 6 with fail
 have hb3:Below w2.heap.size w2 (w2.alloc (.cells (xr zW) 68)):=(Below.refl _ _).alloc (Nat.le_refl _) _
 generalize w2.alloc (.cells (xr zW) 68)=w3 at hb3 ⊢
 have HB3:=h_ hb3
 clear hb3
 go_quiet (fail)
 have HB4:=h_ (HB3.out.trans ((xU (Below.refl _ w3) nq).mono HB3.out.size))
 have hat4:=HA2.out.below HB4.out
 have HF:=h_ (And.intro (HB2.out.trans (HB4.out.mono HB2.out.size)) hat4)
 have c4:=cell_of_row (w3.drewN nq) (w.heap.size+1) 0 _ _ _ hat4.blk
 simp only[v_] at c4
 have hln:=xG5 Tryz.underlying118 hat4.map 3
 simp only[List.length_nil] at hln
 generalize w3.drewN nq=w4 at HF c4 hln ⊢
 clear hat4 HB4 hsl
 go_wp2
 refine wp_loop_once ?_
 go_wp2
 go_ret2
 exact⟨HF.out.1,⟨w.heap.size+1,w.heap.size,[],0,c⟩,rfl,HF.out.2,rfl,rfl⟩
end
section
theorem xPu (ρ:Operand→Value)(d:Option Tmp)(x:Operand)(ty:TypeId)(pos:String)(af:Array Edge)(g:Option (Nat × Bool))(w:World) :
  Sem.run Tryz.prog (execOp ρ ⟨d,.load 97 x,ty,pos,af,g⟩) w=yx Tryz.prog 97 w (ρ x):=rfl
theorem xMr (ρ:Operand→Value)(d:Option Tmp)(x y:Operand)(ty:TypeId)(pos:String)(af:Array Edge)(g:Option (Nat × Bool))(w:World) :
  Sem.run Tryz.prog (execOp ρ ⟨d,.store 97 x y,ty,pos,af,g⟩) w=ym Tryz.prog 97 w (ρ x) (ρ y):=rfl
theorem yAt (w:World)(a:Addr)(h:xq w a 4=true):yx Tryz.prog 97 w (.pointer (some a))=.ok (.value (.agg (xp w a 4))) w :=
 yo Tryz.isAgg97 Tryz.sizeOf97 w a h
theorem yAb (w:World)(g:Nat)(cells:Array Value)(h:xP w g 4=true)(h2:xy 4 cells=true) :
  ym Tryz.prog 97 w (.pointer (some ⟨g,0,none⟩)) (.agg cells)=.ok .skip (w.setRow g cells):=yr (by kernel_rfl) w g cells h h2
theorem xB5 (ρ:Operand→Value)(d:Option Tmp)(x:Operand)(ty:TypeId)(pos:String)(af:Array Edge)(g:Option (Nat × Bool))(w:World) :
  Sem.run Tryz.prog (execOp ρ ⟨d,.load 164 x,ty,pos,af,g⟩) w=yx Tryz.prog 164 w (ρ x):=rfl
theorem kV (ρ:Operand→Value)(d:Option Tmp)(x y:Operand)(ty:TypeId)(pos:String)(af:Array Edge)(g:Option (Nat × Bool))(w:World) :
  Sem.run Tryz.prog (execOp ρ ⟨d,.store 164 x y,ty,pos,af,g⟩) w=ym Tryz.prog 164 w (ρ x) (ρ y):=rfl
theorem xRt (w:World)(a:Addr)(h:xq w a 3=true):yx Tryz.prog 164 w (.pointer (some a))=.ok (.value (.agg (xp w a 3))) w :=
 yo Tryz.isAgg164 Tryz.sizeOf164 w a h
theorem xR3 (w:World)(g:Nat)(cells:Array Value)(h:xP w g 3=true)(h2:xy 3 cells=true) :
  ym Tryz.prog 164 w (.pointer (some ⟨g,0,none⟩)) (.agg cells)=.ok .skip (w.setRow g cells):=yr (by kernel_rfl) w g cells h h2
structure SArt where
 text:ByteArray
 arr:Int
 pl:Int
def yi (x:SArt):Array Value:=#[.string x.text,.int .i64 x.arr,.int .i64 x.pl]
def qG:SArt:=⟨⟨#[]⟩,0,0⟩
theorem xVq (w:World):(zeroValue 164).run Tryz.prog w=.ok (.agg (yi qG)) w:=by kernel_rfl
structure Spo where
 p:Nat
 M:Nat
 es:List (KE Id32)
 mc:Nat
 budget:Nat
 bytes:Nat
 next:Nat
def zh (v:Spo):Array Value:=#[.int .i64 v.budget,.int .i64 v.bytes,.int .i64 v.next,.map (some v.M)]
structure yU (B:Nat)(w:World)(v:Spo):Prop where
 blk:w.heap[v.p]?=some (.cells (zh v) 97 (0,0))
 map:y3 ekI w v.M v.es v.mc
 ne:v.p≠v.M
 pB:B≤v.p
 MB:B≤v.M
 vals:∀ k u,getK k v.es=some u→∃ x:SArt,u=.agg (yi x)
def Spo.foot (v:Spo):List Nat:=[v.p,v.M]
theorem yU.lt {B:Nat}{w:World}{v:Spo}(h:yU B w v):v.p<w.heap.size∧v.M<w.heap.size:=⟨(i_ h.blk).1,h.map.lt⟩
theorem yU.kept {B:Nat}{w w':World}{v:Spo}{F:List Nat}(h:yU B w v)(hk:Kept F w w')(hF:∀ k∈v.foot,k ∉ F):yU B w' v :=
 ⟨(hk.block _ h.lt.1 (hF _ (by simp[Spo.foot]))).trans h.blk,(hk.block _ h.lt.2 (hF _ (by simp[Spo.foot]))).trans h.map,h.ne,h.pB,h.MB,h.vals⟩
theorem yU.below {B:Nat}{w w':World}{v:Spo}(h:yU B w v)(hb:Below w.heap.size w w'):yU B w' v:=h.kept (Kept.of_below (F:=[]) hb) (fun _ _ h=>by cases h)
theorem xW7 (b:Nat)(h1:1≤b)(h2:b≤1073741824)(w:World):Calls Tryz.prog 59 #[.int .i64 b] w fun e w'=>Below w.heap.size w w'∧e=.returned (.tuple #[.pointer (some ⟨w.heap.size+1,0,none⟩),.int .i64 0])∧yU w.heap.size w' ⟨w.heap.size+1,w.heap.size,[],0,b,0,0⟩:=by
 have hmm:=@run_makeMap Tryz.prog
 have hb:Below w.heap.size w ((w.alloc (.map #[] 0)).alloc (.cells #[.int .i64 b,.int .i64 0,.int .i64 0,.map (some w.heap.size)] 97)):=((Below.refl _ _).alloc (Nat.le_refl _) _).alloc (by simp) _
 have hat:yU w.heap.size ((w.alloc (.map #[] 0)).alloc (.cells #[.int .i64 b,.int .i64 0,.int .i64 0,.map (some w.heap.size)] 97)) ⟨w.heap.size+1,w.heap.size,[],0,b,0,0⟩:=by
  refine⟨?_,?_,by simp,by simp,Nat.le_refl _,fun k u h=>by simp[xAw] at h⟩
  ·have:=heap_alloc_new (w.alloc (.map #[] 0)) (.cells #[.int .i64 b,.int .i64 0,.int .i64 0,.map (some w.heap.size)] 97)
   rw[World.size_alloc] at this
   exact this
  ·unfold y3
   rw[heap_alloc_old _ _ (by simp),heap_alloc_new];rfl
 have HB:=h_ hb
 have HA:=h_ hat
 have z1:(1:Int)≤b:=by omega
 have z2:(b:Int)≤1073741824:=by omega
 clear hb hat
 go_enter Tryz.func59,Tryz.ntmps59
 go_wp2
 go_ret2
 exact⟨HB.out,rfl,HA.out⟩
theorem xW6 (b:Int)(h:b<1∨1073741824<b)(w:World):Calls Tryz.prog 59 #[.int .i64 b] w fun e w'=>w=w'∧e=.returned (.tuple #[.pointer none,.int .i64 2]):=by
 go_enter Tryz.func59,Tryz.ntmps59
 by_cases h1:b<1
 ·go_wp2
  go_ret2
  exact⟨rfl,rfl⟩
 ·have h2:1073741824<b:=by omega
  have h3:decide (1073741824<b)=true:=decide_eq_true h2
  clear h
  go_wp2
  go_ret2
  exact⟨rfl,rfl⟩
theorem xHc (b:Nat)(es:Array MapEntry)(clock:Nat)(w:World)(hb:w.heap[b]?=some (.map es clock)) :
  Calls Tryz.prog 76 #[.map (some b)] w fun e w'=>e=.returned (.map (some w.heap.size))∧w.alloc (.map es clock)=w':=by
 have hu:Tryz.prog.underlying 95=some (.map 39 164):=Tryz.underlying95
 have hq:=fun w=>run_eql_map_nil_sl (P:=Tryz.prog) w 95 _ _ (some b) hu
 go_enter Tryz.func76,Tryz.ntmps76
 go_wp2
 rw[run_callFunc_extern Tryz.func95 (by kernel_rfl) (by kernel_rfl) (by kernel_rfl) (e:=Extern.MapsClone.clone) (by kernel_rfl),run_maps_clone_sl w 95 hb]
 simp only[Result.andThen]
 rw[Oper.upon_value]
 go_wp2
 rw[run_typeAssert_map_sl _ 95 20 _ _ _ hu]
 simp only[Result.andThen]
 rw[Oper.upon_value]
 go_wp2
 go_ret
 exact⟨rfl,rfl⟩
attribute [local go_sem ↓] xV xO xPu xMr xB5 kV
attribute [local go_sem] zx zA yAt yAb xRt xR3 zt zw yD yC xj xh xe xd xA xz xo xl xt xC xx
theorem xK6 {B:Nat}{w:World}{v:Spo}(h:yU B w v)(hb:v.bytes≤v.budget)(hl:v.budget≤1073741824):Calls Tryz.prog 10 #[.pointer (some ⟨v.p,0,none⟩)] w fun e w'=>e=.returned (.int .i64 (v.budget-v.bytes:Nat))∧∃ m,w'=w.drewN m:=by
 have c0:=cell_of_row w v.p 0 _ _ _ h.blk
 have c1:=cell_of_row w v.p 1 _ _ _ h.blk
 simp only[zh,v_] at c0 c1
 have hsub:(v.budget:Int)-(v.bytes:Int)=((v.budget-v.bytes:Nat):Int):=by omega
 have z1:(v.budget:Int)≤1073741824:=by omega
 have z2:(v.bytes:Int)≤1073741824:=by omega
 clear h hb hl
 go_enter Tryz.func10,Tryz.ntmps10
 go_upto_region 3 with fail
 go_quiet (fail)
 clear c0 c1
 go_wp2
 go_ret
 exact⟨rfl,_,rfl⟩
theorem xGu {B:Nat}{w:World}{v:Spo}(h:yU B w v):Calls Tryz.prog 38 #[.pointer (some ⟨v.p,0,none⟩)] w fun e w'=>Below w.heap.size w w'∧∃ v',e=.returned (.pointer (some ⟨v'.p,0,none⟩))∧yU w.heap.size w' v'∧v'.es=v.es∧v'.mc=v.mc∧v'.budget=v.budget∧v'.bytes=v.bytes∧v'.next=v.next:=by
 obtain⟨o1,r1⟩:=xI (n:=4) h.blk rfl
 have hft:xy 4 (zh v)=true:=by simp[zh,xy,Value.oneCell']
 obtain⟨w1,hw1⟩:∃ w1,w1=w.alloc (.cells (zh v) 97):=⟨_,rfl⟩
 have hb1:Below w.heap.size w w1:=by rw[hw1];exact b_ _ _
 have hn1:w1.heap[w.heap.size]?=some (.cells (zh v) 97 (0,0)):=by rw[hw1];exact heap_alloc_new w _
 have hs1:w1.heap.size=w.heap.size+1:=by rw[hw1];simp
 have hd1:=h.below hb1
 have c3:=cell_of_row w1 v.p 3 _ _ _ hd1.blk
 simp only[zh,v_] at c3
 have HC:=h_ (xHc v.M _ v.mc w1 hd1.map)
 have HV:=h_ h.vals
 have HB1:=h_ hb1
 have HN1:=h_ hn1
 have HS1:=h_ hs1
 clear h hb1 hn1 hs1 hd1
 unfold zh at hw1 r1 hft
 go_enter Tryz.func38,Tryz.ntmps38
 go_upto_region 4 with fail
 refine xu hw1 ?_
 clear hw1 o1 r1 hft
 go_wp2_with fail
 refine HC.out.mono ?_
 rintro e w' ⟨rfl,rfl⟩
 have hb2:Below w1.heap.size w1 (w1.alloc (.map (v.es.map (enE ekI)).toArray v.mc)):=(Below.refl _ _).alloc (Nat.le_refl _) _
 have hm2:=heap_alloc_new w1 (.map (v.es.map (enE ekI)).toArray v.mc)
 generalize w1.alloc (.map (v.es.map (enE ekI)).toArray v.mc)=w2 at hb2 hm2 ⊢
 have hs1:=HS1.out
 have hn2:=(hb2.block w.heap.size (by omega)).trans HN1.out
 have c2:=cell_of_row w2 w.heap.size 3 _ _ _ hn2
 have f2:=frozen_of_row w2 w.heap.size 3 _ _ hn2
 simp only[zh,v_] at c2
 have hn3:(w2.setCell ⟨w.heap.size,3,none⟩ (.map (some w1.heap.size))).heap[w.heap.size]?=some (.cells (zh ⟨w.heap.size,w1.heap.size,v.es,v.mc,v.budget,v.bytes,v.next⟩) 97 (0,0)):=by rw[heap_setCell_same w2 w.heap.size 3 _ _ _ hn2];rfl
 have hat:yU w.heap.size (w2.setCell ⟨w.heap.size,3,none⟩ (.map (some w1.heap.size))) ⟨w.heap.size,w1.heap.size,v.es,v.mc,v.budget,v.bytes,v.next⟩ :=
  ⟨hn3,(heap_setCell_other w2 ⟨w.heap.size,3,none⟩ w1.heap.size _ (by show w1.heap.size≠w.heap.size;omega)).trans hm2,by show w.heap.size≠w1.heap.size;omega,Nat.le_refl _,by show w.heap.size≤w1.heap.size;omega,HV.out⟩
 have HF:=h_ (And.intro ((HB1.out.trans (hb2.mono HB1.out.size)).setCell (p:=⟨w.heap.size,3,none⟩) (Nat.le_refl _) (.map (some w1.heap.size))) hat)
 clear hb2 hm2 hn2 hn3 hat hs1 c3
 go_wp2
 go_ret
 exact⟨HF.out.1,⟨w.heap.size,w1.heap.size,v.es,v.mc,v.budget,v.bytes,v.next⟩,rfl,HF.out.2,rfl,rfl,rfl,rfl,rfl⟩
end
section
theorem xDp (ρ:Operand→Value)(d:Option Tmp)(ty:TypeId)(pos:String)(af:Array Edge)(g:Option (Nat × Bool))(w:World) :
  Sem.run Tryz.prog (execOp ρ ⟨d,.alloc 164,ty,pos,af,g⟩) w=.ok (.value (.pointer (some ⟨w.heap.size,0,none⟩))) (w.alloc (.cells (yi qG) 164)):=by kernel_rfl
theorem xXs (x:SArt):xy 3 (yi x)=true:=by simp[yi,xy,Value.oneCell']
def xSz (b:Bool):Int:=if b then 0 else 8
theorem yU.look {B:Nat}{w:World}{v:Spo}(h:yU B w v)(k:Id32):∃ x:SArt,(getK k v.es=none→x=qG)∧(∀ u,getK k v.es=some u→u=.agg (yi x)) ∧
  ∀ W,W.heap[v.M]?=w.heap[v.M]?→(Instr.lookup 95 (.map (some v.M)) (.agg (xB k).toArray) true).run Tryz.prog W=.ok (.tuple #[.agg (yi x),.bool (getK k v.es).isSome]) W:=by
 have hk:∀ W,W.heap[v.M]?=w.heap[v.M]?→(Instr.lookup 95 (.map (some v.M)) (.agg (xB k).toArray) true).run Tryz.prog W=.ok (.tuple #[(getK k v.es).getD (.agg (yi qG)),.bool (getK k v.es).isSome]) W:=fun W hW=>by
  have h1:=xBd keyI Tryz.underlying95 (.agg (yi qG)) xVq W v.M v.es v.mc (by have:=h.map;unfold y3 at this ⊢;exact hW.trans this) k
  have h2:(yM k v.es 0).isSome=(getK k v.es).isSome:=by unfold getK;cases yM k v.es 0 <;> rfl
  rw[h2] at h1
  exact h1
 cases hg:getK k v.es with
 | none =>
  refine⟨qG,(fun _=>rfl),(fun u h=>(by cases h)),fun W hW=>?_⟩
  rw[hk W hW,hg];rfl
 | some u =>
  obtain⟨x,hx⟩:=h.vals k u hg
  refine⟨x,(fun h=>(by cases h)),(fun u' h=>(by cases h;exact hx)),fun W hW=>?_⟩
  rw[hk W hW,hg,←hx];rfl
attribute [local go_sem ↓] xV xO xB5 kV xDp
attribute [local go_sem] zx zA xRt xR3 xj xh xe xd xA xz xo xl xt xC xx
theorem xO9 {B:Nat}{w:World}{v:Spo}(h:yU B w v)(id:Id32):∃ x:SArt,(getK id v.es=none→x=qG)∧(∀ u,getK id v.es=some u→u=.agg (yi x)) ∧
  Calls Tryz.prog 42 #[.pointer (some ⟨v.p,0,none⟩),.agg (xB id).toArray] w fun e w'=>Below w.heap.size w w'∧e=.returned (.tuple #[.string x.text,.int .i64 (xSz (getK id v.es).isSome)]):=by
 obtain⟨x,hx1,hx2,hlk⟩:=h.look id
 refine⟨x,hx1,hx2,?_⟩
 obtain⟨w1,hw1⟩:∃ w1,w1=w.alloc (.cells (xB id).toArray 39):=⟨_,rfl⟩
 have hb1:Below w.heap.size w w1:=by rw[hw1];exact b_ _ _
 have hi1:w1.heap[w.heap.size]?=some (.cells (xB id).toArray 39 (0,0)):=by
  rw[hw1,heap_alloc_new]
 have hd1:=h.below hb1
 have c0:=cell_of_row w1 v.p 3 _ _ _ hd1.blk
 simp only[zh,v_] at c0
 have z0:∀ z:xf w1,z.1.cell? ⟨v.p,3,none⟩=some (.map (some v.M)):=fun z=>z.cell c0
 have ri:=yE hi1
 have z1:∀ z:xf w1,xq z.1 ⟨w.heap.size,0,none⟩ 32=true:=fun z=>xf.ok ri.1 z
 have z2:∀ z:xf w1,xp z.1 ⟨w.heap.size,0,none⟩ 32=(xB id).toArray:=fun z=>(xf.rd ri.1 z).trans ri.2
 have z3:∀ z:xf w1,(Instr.lookup 95 (.map (some v.M)) (.agg (xB id).toArray) true).run Tryz.prog z.1=.ok (.tuple #[.agg (yi x),.bool (getK id v.es).isSome]) z.1:=fun z=>hlk z.1 ((z.2.block _ hd1.lt.2).trans (hb1.block _ h.lt.2))
 obtain⟨ok,hok⟩:∃ ok,ok=(getK id v.es).isSome:=⟨_,rfl⟩
 rw[←hok] at z3 ⊢
 have hfx:=xXs x
 have HB1:=h_ hb1
 have HX:=h_ (And.intro hx1 hx2)
 have HO:=h_ hok
 clear hi1 hd1 c0 ri hlk hx1 hx2 hok hb1 h
 go_enter Tryz.func42,Tryz.ntmps42
 go_upto_region 3 with fail
 refine xu hw1 ?_
 clear hw1
 refine xw [0,1,2,3,4,5,6,7,8] [9,10,11] (fun w'=>∃ z:xf w1,w'=z.1) (by kernel_rfl) (by kernel_rfl) (by kernel_rfl) ⟨⟨w1.drew,(Below.refl _ _).drew⟩,rfl⟩ ?_
 simp only[o_]
 repeat (go_big_quiet_step (fail))
 refine wpQuiet_nil ?_
 clear z0 z1 z2 z3
 refine yz true (by kernel_rfl) (by kernel_rfl) ?_
 simp only[o_]
 go_wp2
 have hb2:Below w1.heap.size w1 (w1.alloc (.cells (yi qG) 164)).drew:=((Below.refl _ _).alloc (Nat.le_refl _) _).drew
 have hn2:(w1.alloc (.cells (yi qG) 164)).drew.heap[w1.heap.size]?=some (.cells (yi qG) 164 (0,0)):=heap_alloc_new w1 _
 generalize (w1.alloc (.cells (yi qG) 164)).drew=w2 at hb2 hn2 ⊢
 have hro:xP w2 w1.heap.size 3=true:=zq hn2 rfl
 have hb3:=xJ hb2 (Nat.le_refl _) (yi x)
 have hn3:=setRow_heap w2 w1.heap.size _ (yi x) _ _ hn2
 have HB2:=h_ hb2
 have HB3:=h_ hb3
 have HN3:=h_ hn3
 clear hb2 hn2 hb3 hn3
 refine⟨fun _=>⟨⟨w2,HB2.out⟩,rfl⟩,yz true (by kernel_rfl) (by kernel_rfl) ?_⟩
 simp only[o_]
 go_wp2
 refine⟨fun _=>⟨⟨_,HB3.out⟩,rfl⟩,xG [11] _ _ (by kernel_rfl) ?_⟩
 simp only[o_]
 go_wp2
 refine NoPanic.normal ?_
 have cx:=cell_of_row _ _ 0 _ _ _ HN3.out
 simp only[yi,v_] at cx
 have HF:=h_ (HB1.out.trans (HB3.out.mono HB1.out.size))
 change (w2.setRow w1.heap.size #[.string x.text,.int .i64 x.arr,.int .i64 x.pl]).cell? _=_ at cx
 unfold yi at HF ⊢
 clear hro HB2 HB3 HN3
 generalize w2.setRow w1.heap.size #[.string x.text,.int .i64 x.arr,.int .i64 x.pl]=w3 at cx HF ⊢
 cases ok
 ·go_wp2
  go_ret2
  have hx:x=qG:=HX.out.1 (by
   have:=HO.out
   cases hq:getK id v.es with
   | none=>rfl
   | some u=>rw[hq] at this;cases this)
  exact⟨HF.out,by rw[hx];rfl⟩
 ·go_wp2
  go_ret2
  exact⟨HF.out,rfl⟩
end
section
attribute [local go_sem ↓] xV xO xB5 kV xDp j7
attribute [local go_sem] zx zA xRt xR3 yW xj xh xe xd xA xz xo xl xt xC xx xCe xG7
theorem xWc (b:Bool):(xSz b == 0)=b:=by cases b <;> rfl
theorem xWb {B:Nat}{w:World}{v:Spo}(h:yU B w v)(id:Id32) :
  Calls Tryz.prog 177 #[.pointer (some ⟨v.p,0,none⟩),.agg (xB id).toArray] w fun e w'=>Below w.heap.size w w'∧e=.returned (.bool (getK id v.es).isSome):=by
 obtain⟨w1,hw1⟩:∃ w1,w1=w.alloc (.cells (xB id).toArray 39):=⟨_,rfl⟩
 have hb1:Below w.heap.size w w1:=by rw[hw1];exact b_ _ _
 have hi1:w1.heap[w.heap.size]?=some (.cells (xB id).toArray 39 (0,0)):=by rw[hw1];exact heap_alloc_new w _
 obtain⟨o1,r1⟩:=yE hi1
 obtain⟨x,_,_,hget⟩:=xO9 (h.below hb1) id
 have HG:=h_ hget
 have HB1:=h_ hb1
 obtain⟨ok,hok⟩:∃ ok,ok=(getK id v.es).isSome:=⟨_,rfl⟩
 rw[←hok] at HG ⊢
 obtain⟨se,hse⟩:∃ se,se=xSz ok:=⟨_,rfl⟩
 rw[←hse] at HG
 have hse2:(se == 0)=ok:=by rw[hse];exact xWc ok
 clear h hb1 hi1 hget hok hse
 go_enter Tryz.func177,Tryz.ntmps177
 go_upto_region 1 with fail
 refine xu hw1 ?_
 clear hw1
 go_wp2_with fail
 refine HG.out.mono ?_
 rintro e w2 ⟨hb2,rfl⟩
 clear o1 r1 HG
 have HB2:=h_ (HB1.out.trans (hb2.mono HB1.out.size))
 clear hb2
 go_wp2
 go_ret
 exact⟨HB2.out,rfl⟩
def xYj (B:Nat)(v:Spo)(id:Id32)(t:ByteArray)(m:Int)(w:World)(e:Ending)(w':World):Prop :=
 e=.returned (.int .i64 0)∧Kept [v.M,v.p] w w'∧yU B w' { v with es:=putL id (.agg (yi ⟨t,m,v.next⟩)) v.mc v.es,mc:=putC id v.mc v.es,bytes:=v.bytes+t.size,next:=v.next+1 }
theorem yU.put {B:Nat}{w:World}{v:Spo}(h:yU B w v)(id:Id32)(x:SArt):yU B (w.putObj v.M (.map ((putL id (.agg (yi x)) v.mc v.es).map (enE ekI)).toArray (putC id v.mc v.es))) { v with es:=putL id (.agg (yi x)) v.mc v.es,mc:=putC id v.mc v.es }:=by
 refine⟨(World.putObj_heap_other h.ne).trans h.blk,h.map.put,h.ne,h.pB,h.MB,fun k u hu=>?_⟩
 simp only at hu
 rw[xDh] at hu
 split at hu
 ·exact⟨x,(Option.some.inj hu).symm⟩
 ·exact h.vals k u hu
theorem yU.own {B:Nat}{w:World}{v:Spo}(h:yU B w v)(j:Nat)(u:Value)(v':Spo)(hv:(zh v).setIfInBounds j u=zh v')(hp:v'.p=v.p)(hM:v'.M=v.M)(he:v'.es=v.es)(hc:v'.mc=v.mc):yU B (w.setCell ⟨v.p,j,none⟩ u) v':=by
 refine⟨?_,?_,?_,?_,?_,?_⟩
 ·rw[hp,heap_setCell_same w v.p j _ _ _ h.blk,hv]
 ·rw[hM,he,hc];exact(heap_setCell_other w ⟨v.p,j,none⟩ v.M _ (fun e=>h.ne e.symm)).trans h.map
 ·rw[hp,hM];exact h.ne
 ·rw[hp];exact h.pB
 ·rw[hM];exact h.MB
 ·rw[he];exact h.vals
theorem zc (w:World)(a:Addr)(u:Value):Kept [a.block] w (w.setCell a u):=⟨rfl,rfl,rfl,by simp,fun k _ hn=>heap_setCell_other w a k u (fun e=>hn (by simp[e]))⟩
theorem xW3 {B:Nat}{w:World}{v:Spo}(h:yU B w v)(id:Id32)(t:ByteArray)(m:Int)(hid:id≠uG)(ht1:1≤t.size)(ht2:t.size≤65536)(hm1:0≤m)(hm2:m≤105190559)(hnew:getK id v.es=none)
  (hb:v.bytes+t.size≤v.budget) (hl:v.budget≤1073741824) (hn:v.next≤1000) :
  Calls Tryz.prog 178 #[.pointer (some ⟨v.p,0,none⟩),.agg (xB id).toArray,.string t,.int .i64 m] w (xYj B v id t m w):=by
 obtain⟨w1,hw1⟩:∃ w1,w1=w.alloc (.cells (xB id).toArray 39):=⟨_,rfl⟩
 have hb1:Below w.heap.size w w1:=by rw[hw1];exact b_ _ _
 have hi1:w1.heap[w.heap.size]?=some (.cells (xB id).toArray 39 (0,0)):=by rw[hw1];exact heap_alloc_new w _
 obtain⟨o1,r1⟩:=yE hi1
 have HHAS:=h_ (xWb (h.below hb1) id)
 have H:=h_ h
 have HB1:=h_ hb1
 have HI1:=h_ hi1
 have HNEW:=h_ hnew
 have hidf:decide (id=uG)=false:=decide_eq_false hid
 obtain⟨n,hnn⟩:∃ n,n=t.size:=⟨_,rfl⟩
 have htne:t.toList.isEmpty=false:=by
  rw[ByteArray.toList_eq,List.isEmpty_eq_false_iff,←List.length_pos_iff,qN];omega
 have hts:(t.size:Int)≤65536:=by omega
 have HN:=h_ (And.intro hb (And.intro hl hn))
 clear h hb1 hi1 hnew hid hnn hb hl hn
 go_enter Tryz.func178,Tryz.ntmps178
 go_upto_region 1 with fail
 refine xu hw1 ?_
 clear hw1
 go_wp2_with fail
 refine HHAS.out.mono ?_
 rintro e w2 ⟨hb2,rfl⟩
 rw[HNEW.out,Option.isSome_none]
 have HB2:=h_ (HB1.out.trans (hb2.mono HB1.out.size))
 have HI2:=h_ ((hb2.block _ (i_ HI1.out).1).trans HI1.out)
 have HD2:=h_ (H.out.below HB2.out)
 clear hb2 HHAS o1 r1 hidf htne
 have HFR:=h_ (xK6 HD2.out (by have:=HN.out.1;omega) HN.out.2.1)
 go_wp2_with fail
 refine HFR.out.mono ?_
 rintro e w3 ⟨rfl,mm,hw3⟩
 have hb3:Below w2.heap.size w2 w3:=by rw[hw3];exact xU (Below.refl _ _) _
 have HB3:=h_ (HB2.out.trans (hb3.mono HB2.out.size))
 have hi3:=(hb3.block _ (i_ HI2.out).1).trans HI2.out
 have hd3:=H.out.below HB3.out
 have HD3:=h_ hd3
 have c3:=cell_of_row w3 v.p 3 _ _ _ hd3.blk
 have c2:=cell_of_row w3 v.p 2 _ _ _ hd3.blk
 simp only[zh,v_] at c2 c3
 have z0:∀ z:xf w3,z.1.cell? ⟨v.p,3,none⟩=some (.map (some v.M)):=fun z=>z.cell c3
 have z1:∀ z:xf w3,z.1.cell? ⟨v.p,2,none⟩=some (.int .i64 v.next):=fun z=>z.cell c2
 have ri:=yE hi3
 have z2:∀ z:xf w3,xq z.1 ⟨w.heap.size,0,none⟩ 32=true:=fun z=>xf.ok ri.1 z
 have z3:∀ z:xf w3,xp z.1 ⟨w.heap.size,0,none⟩ 32=(xB id).toArray:=fun z=>(xf.rd ri.1 z).trans ri.2
 have hfree:decide ((v.budget-v.bytes:Nat)<t.size)=false:=decide_eq_false (by have:=HN.out.1;omega)
 clear hw3 hb3 hi3 hd3 c3 c2 ri HI2 HFR
 obtain⟨fr,hfr⟩:∃ fr,fr=(v.budget-v.bytes:Nat):=⟨_,rfl⟩
 rw[←hfr] at hfree ⊢
 clear hfr
 go_upto_region 11 with fail
 have hgl:=HN.out.2.2
 have hd4:=HD3.out.below ((Below.refl w3.heap.size w3).drew)
 have hup:(Instr.mapUpdate 95 (.map (some v.M)) (.agg (xB id).toArray) (.agg (yi ⟨t,m,v.next⟩))).run Tryz.prog w3.drew=_:=xD6 keyI Tryz.underlying95 w3.drew v.M v.es v.mc hd4.map id (.agg (yi ⟨t,m,v.next⟩))
 have hat:=hd4.put id ⟨t,m,v.next⟩
 have hkp:Kept [v.M,v.p] w (w3.drew.putObj v.M (.map ((putL id (.agg (yi ⟨t,m,v.next⟩)) v.mc v.es).map (enE ekI)).toArray (putC id v.mc v.es))):=(Kept.of_below (F:=[v.M,v.p]) (HB3.out.trans ((Below.refl w3.heap.size w3).drew.mono HB3.out.size))).trans (qB _ _ _) (fun q hq=>.inl (by simp at hq ⊢;exact .inl hq))
 have HK:=h_ hkp
 have HA:=h_ hat
 clear hd4 hat hkp
 refine xw [0,1,2,3,4,5,6,7,8,9,10,11] [12] (fun w'=>∃ z:xf w3,w'=z.1) (by kernel_rfl) (by kernel_rfl) (by kernel_rfl) ⟨⟨w3.drew,(Below.refl _ _).drew⟩,rfl⟩ ?_
 simp only[o_]
 repeat (go_big_quiet_step (fail))
 refine wpQuiet_nil ?_
 clear z0 z1 z2 z3
 refine xG [12] _ _ (by kernel_rfl) ?_
 simp only[o_]
 generalize w3.drew.putObj v.M (.map ((putL id (.agg (yi ⟨t,m,v.next⟩)) v.mc v.es).map (enE ekI)).toArray (putC id v.mc v.es))=w5 at hup HK HA
 unfold yi at hup
 go_wp2
 refine NoPanic.normal ?_
 clear hup
 have c2:=cell_of_row w5 v.p 2 _ _ _ HA.out.blk
 have f2:=frozen_of_row w5 v.p 2 _ _ HA.out.blk
 simp only[zh,v_] at c2
 have ha6:=HA.out.own 2 (.int .i64 ((v.next+1:Nat):Int)) { v with es:=putL id (.agg (yi ⟨t,m,v.next⟩)) v.mc v.es,mc:=putC id v.mc v.es,next:=v.next+1 } rfl rfl rfl rfl rfl
 have hk6:=HK.out.trans (zc w5 ⟨v.p,2,none⟩ (.int .i64 ((v.next+1:Nat):Int))) (fun q hq=>.inl (by simp at hq ⊢;exact .inr hq))
 obtain⟨nx,hnx⟩:∃ nx:Int,nx=((v.next+1:Nat):Int):=⟨_,rfl⟩
 have hnx2:(v.next:Int)+1=nx:=by omega
 have hnx3:(v.next:Int)≤1000:=by omega
 rw[←hnx] at ha6 hk6
 obtain⟨w6,hw6⟩:∃ w6,w6=w5.setCell ⟨v.p,2,none⟩ (.int .i64 nx):=⟨_,rfl⟩
 rw[←hw6] at ha6 hk6
 have HA6:=h_ ha6
 have HK6:=h_ hk6
 have HNX:=h_ hnx
 clear ha6 hk6 hnx HA HK hgl
 go_upto_region 13 with fail
 refine xu hw6 ?_
 clear hw6 c2 f2 hnx2 hnx3
 have c1:=cell_of_row w6 v.p 1 _ _ _ HA6.out.blk
 have f1:=frozen_of_row w6 v.p 1 _ _ HA6.out.blk
 simp only[zh,v_] at c1
 have ha7:=HA6.out.own 1 (.int .i64 ((v.bytes+t.size:Nat):Int)) { v with es:=putL id (.agg (yi ⟨t,m,v.next⟩)) v.mc v.es,mc:=putC id v.mc v.es,next:=v.next+1,bytes:=v.bytes+t.size } rfl rfl rfl rfl rfl
 have hk7:=HK6.out.trans (zc w6 ⟨v.p,1,none⟩ (.int .i64 ((v.bytes+t.size:Nat):Int))) (fun q hq=>.inl (by simp at hq ⊢;exact .inr hq))
 obtain⟨nb,hnb⟩:∃ nb:Int,nb=((v.bytes+t.size:Nat):Int):=⟨_,rfl⟩
 have hnb2:(v.bytes:Int)+t.size=nb:=by omega
 have hnb3:nb≤1073741824:=by have:=HN.out.1;have:=HN.out.2.1;omega
 have hnb4:0≤nb:=by omega
 rw[←hnb] at ha7 hk7
 have HA7:=h_ ha7
 have HK7:=h_ hk7
 clear ha7 hk7 hnb HA6 HK6
 go_wp2
 go_ret
 exact⟨rfl,HK7.out,HA7.out⟩
theorem xW8 {B:Nat}{w:World}{v:Spo}(h:yU B w v)(n:Nat)(hn:n=v.es.length):Calls Tryz.prog 111 #[.pointer (some ⟨v.p,0,none⟩)] w fun e w'=>w=w'∧e=.returned (.int .i64 n):=by
 have c3:=cell_of_row w v.p 3 _ _ _ h.blk
 simp only[zh,v_] at c3
 have hln:=xG5 Tryz.underlying95 h.map 3
 rw[←hn] at hln
 clear h hn
 go_enter Tryz.func111,Tryz.ntmps111
 go_wp2
 go_ret
 exact⟨rfl,rfl⟩
theorem xO3 {B:Nat}{w:World}{v:Spo}(h:yU B w v)(id:Id32)(x:SArt)(bb:Nat)(he:v.es=[⟨id,.agg (yi x),bb⟩])(hb:x.text.size≤v.bytes)(hl:v.bytes≤1073741824) :
  Calls Tryz.prog 350 #[.pointer (some ⟨v.p,0,none⟩),.agg (xB id).toArray] w fun e w'=>e=.returned (.int .i64 0)∧Kept [v.M,v.p] w w'∧yU B w' { v with es:=[],bytes:=v.bytes-x.text.size }:=by
 obtain⟨w1,hw1⟩:∃ w1,w1=w.alloc (.cells (xB id).toArray 39):=⟨_,rfl⟩
 have hb1:Below w.heap.size w w1:=by rw[hw1];exact b_ _ _
 have hi1:w1.heap[w.heap.size]?=some (.cells (xB id).toArray 39 (0,0)):=by rw[hw1];exact heap_alloc_new w _
 obtain⟨o1,r1⟩:=yE hi1
 have hfk:yM id v.es 0=some (0,.agg (yi x)):=by rw[he];simp[yM]
 have hgk:getK id v.es=some (.agg (yi x)):=by unfold getK;rw[hfk];rfl
 obtain⟨x0,_,hx0,hget⟩:=xO9 (h.below hb1) id
 have hxx:x0.text=x.text:=by
  have:=hx0 _ hgk
  injection this with h1
  unfold yi at h1
  have h2:=congrArg (fun a=>a[0]?) h1
  simp at h2
  exact h2.symm
 rw[hgk,hxx,Option.isSome_some] at hget
 have hE:xSz true=0:=rfl
 rw[hE] at hget
 have HG:=h_ hget
 have H:=h_ h
 have HB1:=h_ hb1
 have HI1:=h_ hi1
 have HE:=h_ he
 have HFK:=h_ hfk
 have HN:=h_ (And.intro hb hl)
 clear h hb1 hi1 hget hxx hgk hfk he hx0 hE hb hl
 go_enter Tryz.func350,Tryz.ntmps350
 go_upto_region 1 with fail
 refine xu hw1 ?_
 clear hw1
 go_wp2_with fail
 refine HG.out.mono ?_
 rintro e w2 ⟨hb2,rfl⟩
 have HB2:=h_ (HB1.out.trans (hb2.mono HB1.out.size))
 have hi2:=(hb2.block _ (i_ HI1.out).1).trans HI1.out
 have hd2:=H.out.below HB2.out
 have HD2:=h_ hd2
 have c3:=cell_of_row w2 v.p 3 _ _ _ hd2.blk
 simp only[zh,v_] at c3
 have z0:∀ z:xf w2,z.1.cell? ⟨v.p,3,none⟩=some (.map (some v.M)):=fun z=>z.cell c3
 have ri:=yE hi2
 have z2:∀ z:xf w2,xq z.1 ⟨w.heap.size,0,none⟩ 32=true:=fun z=>xf.ok ri.1 z
 have z3:∀ z:xf w2,xp z.1 ⟨w.heap.size,0,none⟩ 32=(xB id).toArray:=fun z=>(xf.rd ri.1 z).trans ri.2
 clear hb2 hi2 hd2 c3 ri HG o1 r1
 go_upto_region 4 with fail
 refine xw [0,1,2,3,4] [5] (fun w'=>∃ z:xf w2,w'=z.1) (by kernel_rfl) (by kernel_rfl) (by kernel_rfl) ⟨⟨w2.drew,(Below.refl _ _).drew⟩,rfl⟩ ?_
 simp only[o_]
 repeat (go_big_quiet_step (fail))
 refine wpQuiet_nil ?_
 clear z0 z2 z3
 have hd4:=HD2.out.below ((Below.refl w2.heap.size w2).drew)
 obtain⟨w3,hw3⟩:∃ w3,w3=w2.drew.putObj v.M (.map (([]:List (KE Id32)).map (enE ekI)).toArray v.mc):=⟨_,rfl⟩
 have hdel:∀ ty,(Builtin.delete_ #[95,39] ty #[.map (some v.M),.agg (xB id).toArray]).run Tryz.prog w2.drew=.ok (.tuple #[]) w3:=fun ty=>by
  have:=xN6 keyI Tryz.underlying95 ty w2.drew v.M v.es v.mc hd4.map id 0 _ HFK.out (by rw[HE.out];exact Nat.one_pos)
  rw[HE.out,List.eraseIdx_cons_zero] at this
  rw[hw3];exact this
 have ha3:yU B w3 { v with es:=[] }:=by
  rw[hw3]
  exact⟨(World.putObj_heap_other hd4.ne).trans hd4.blk,hd4.map.put,hd4.ne,hd4.pB,hd4.MB,fun k u hu=>by simp[xAw] at hu⟩
 have hk3:Kept [v.M,v.p] w w3:=by
  rw[hw3]
  exact(Kept.of_below (F:=[v.M,v.p]) (HB2.out.trans ((Below.refl w2.heap.size w2).drew.mono HB2.out.size))).trans (qB _ _ _) (fun q hq=>.inl (by simp at hq ⊢;exact .inl hq))
 have HA3:=h_ ha3
 have HK3:=h_ hk3
 clear hd4 hw3 ha3 hk3
 refine xG [5] _ _ (by kernel_rfl) ?_
 simp only[o_]
 refine qW _ rfl (.tmp 19) (.tmp 20) 95 39 rfl _ _ rfl rfl (hdel _) ?_
 go_wp2
 refine NoPanic.normal ?_
 clear hdel
 have c1:=cell_of_row w3 v.p 1 _ _ _ HA3.out.blk
 have f1:=frozen_of_row w3 v.p 1 _ _ HA3.out.blk
 simp only[zh,v_] at c1
 have ha7:=HA3.out.own 1 (.int .i64 ((v.bytes-x.text.size:Nat):Int)) { v with es:=[],bytes:=v.bytes-x.text.size } rfl rfl rfl rfl rfl
 have hk7:=HK3.out.trans (zc w3 ⟨v.p,1,none⟩ (.int .i64 ((v.bytes-x.text.size:Nat):Int))) (fun q hq=>.inl (by simp at hq ⊢;exact .inr hq))
 obtain⟨nb,hnb⟩:∃ nb:Int,nb=((v.bytes-x.text.size:Nat):Int):=⟨_,rfl⟩
 have hnb2:(v.bytes:Int)-x.text.size=nb:=by have:=HN.out.1;omega
 have hnb3:nb≤1073741824:=by have:=HN.out.2;omega
 have hnb4:0≤nb:=by omega
 rw[←hnb] at ha7 hk7
 have HA7:=h_ ha7
 have HK7:=h_ hk7
 clear ha7 hk7 hnb HA3 HK3
 go_wp2
 go_ret
 exact⟨rfl,HK7.out,HA7.out⟩
end
structure ByC (B:Nat)(w:World)(v0 v:Value)(l:By)(W:World):Prop where
 bel:Below B w W
 own:OwnB W B v l
 keep:∀ k,k<w.heap.size→v0.ownBlock≠some k→W.heap[k]?=w.heap[k]?
 fr:∀ k,v.ownBlock=some k→v0.ownBlock=some k∨w.heap.size≤k
theorem ByC.app {B:Nat}{w W W1 W2:World}{v0 v v':Value}{l r:By}(h:ByC B w v0 v l W)(hB:B≤W.heap.size)(hb:Below W.heap.size W W1)(ho:OwnB W2 B v' (l++r))(hg:W1.grownBy W2 v.ownBlock)(hf:v'.ownBlock=v.ownBlock∨v'.ownBlock=some W1.heap.size)(hs:w.heap.size≤W.heap.size):ByC B w v0 v' (l++r) W2:=by
 refine⟨(h.bel.trans (hb.mono hB)).grown hg (Nat.le_trans hB hb.size) (fun _ e=>(h.own.lt e).1),ho,fun k hk hn=>?_,fun k hk=>?_⟩
 ·have h1:v.ownBlock≠some k:=fun e=>by
   rcases h.fr k e with h2 | h2
   ·exact hn h2
   ·omega
  rw[hg.block k (by have:=hb.size;omega) (fun e=>h1 e.symm),hb.block k (by omega),h.keep k hk hn]
 ·rcases hf with e | e
  ·exact h.fr k (e ▸ hk)
  ·right
   have h2:W1.heap.size=k:=Option.some.inj (e.symm.trans hk)
   have:=hb.size
   omega
theorem xNh (l0:By)(n:Nat)(hn:n≤4611686018427387904)(v0:Value)(w:World)(B:Nat)(hown:OwnB w B v0 l0)(hB:B≤w.heap.size)(hl0:l0.length≤1000000) :
  Calls Tryz.prog 110 #[v0,.int .i64 n] w fun e w'=>∃ v,e=.returned v∧ByC B w v0 v (l0++beB 8 n) w':=by
 have HST:Hid (ByC B w v0 v0 (l0++(beB 8 n).take 0) w):=h_ ⟨Below.refl _ _,by simpa using hown,fun _ _ _=>rfl,fun k h=>.inl h⟩
 have HB:=h_ hB
 clear hown hB
 go_enter Tryz.func110,Tryz.ntmps110
 go_wp2
 go_loopw [5,0] (fun i bv wr=>∃ j:Nat,i=.int .i64 (7-(j:Int))∧j≤8∧Hid (ByC B w v0 bv (l0++(beB 8 n).take j) wr)) (fun i _ _=>(intOf i+1).toNat)
 case atStart=>exact⟨0,rfl,by omega,HST⟩
 case round =>
  obtain⟨j,rfl,hj,HS2⟩:=hrel
  by_cases hlt2:j<8
  ·obtain⟨i,hi⟩:∃ i:Nat,i=7-j:=⟨_,rfl⟩
   have hi2:(7:Int)-j=(i:Int):=by omega
   rw[hi2]
   have hx:=vv n i
   have hge:=vR 8 n j hlt2
   rw[show 8-1-j=i by omega] at hge
   generalize hbx:UInt8.ofNat (n / 256 ^ i)=b at hx hge
   have hsn:(l0++(beB 8 n).take j)++[b]=l0++(beB 8 n).take (j+1):=by
    rw[List.take_succ_eq_append_getElem (by rw[xv];exact hlt2),hge,List.append_assoc]
   have b1:(0:Int)≤8*(i:Int):=by omega
   have b2:8*(i:Int)≤64:=by omega
   have b3:(n:Int)≤4611686018427387904:=by omega
   have hbel:Below wr.heap.size wr (wr.alloc (.cells #[.int .u8 b.toNat] 5)):=(Below.refl _ _).alloc (Nat.le_refl _) _
   have ho1:OwnB (wr.alloc (.cells #[.int .u8 b.toNat] 5)) B u0 (l0++(beB 8 n).take j):=HS2.out.own.below hbel
   have hs1:SlB (wr.alloc (.cells #[.int .u8 b.toNat] 5)) ⟨wr.heap.size,0,none⟩ [b]:=vK wr 5 [b]
   have hsB:B≤wr.heap.size:=Nat.le_trans HB.out HS2.out.bel.size
   have hnx:∀ v' W2,OwnB W2 B v' ((l0++(beB 8 n).take j)++[b])→(wr.alloc (.cells #[.int .u8 b.toNat] 5)).grownBy W2 u0.ownBlock→(v'.ownBlock=u0.ownBlock∨v'.ownBlock=some (wr.alloc (.cells #[.int .u8 b.toNat] 5)).heap.size)→ByC B w v0 v' (l0++(beB 8 n).take (j+1)) W2:=fun v' W2 ho hg hf=>by
    have:=HS2.out.app hsB hbel ho hg hf HS2.out.bel.size
    rw[hsn] at this;exact this
   have hsz:B≤(wr.alloc (.cells #[.int .u8 b.toNat] 5)).heap.size:=by simp;omega
   have hll:(l0++(beB 8 n).take j).length+[b].length≤1000000000000:=by rw[List.length_append,List.length_take];simp;omega
   rw[hx] at ho1 hs1 hnx hsz
   have HO1:=h_ ho1
   have HS1:=h_ hs1
   have HNX:=h_ hnx
   have HSZ:=h_ hsz
   have HLL:=h_ hll
   have HI:=h_ hi
   clear hi hx hge hbx hsn hbel ho1 hs1 hnx hsz hll hi2 hsB
   go_wp2_with (at_builtin;refine uq rfl (.tmp 10) (.tmp 16) rfl B _ (l0++(beB 8 n).take j) rfl HO1.out ⟨wr.heap.size,0,none⟩ [b] 1 rfl HS1.out HLL.out HSZ.out ?_)
   intro v' w' ho hg2 _ hf2
   rw[←List.append_assoc] at ho
   have HN:=h_ (HNX.out v' w' ho hg2 (by rw[World.size_alloc];exact hf2))
   have hi3:(i:Int)-1=7-((j+1:Nat):Int):=by have:=HI.out;omega
   have HI3:=h_ hi3
   have hi8:(i:Int)≤7:=by have:=HI.out;omega
   clear ho hg2 hf2 hi3
   go_wp2
   go_roundw
   case rel=>exact⟨j+1,by rw[←HI3.out],by omega,HN⟩
   case measure=>simp[intOf]
  ·obtain rfl:j=8:=by omega
   have HF:Hid (ByC B w v0 u0 (l0++beB 8 n) wr):=by
    have:=HS2.out
    rw[List.take_of_length_le (by rw[xv];exact Nat.le_refl _)] at this
    exact h_ this
   have hi2:(7:Int)-(8:Nat)=-1:=by omega
   rw[hi2]
   go_wp2
   go_ret
   exact⟨_,rfl,HF.out⟩
theorem xWa (f:Value)(w:World):Calls Tryz.prog 240 #[.slice none 0 0,.int .i64 0,.int .i64 0,f] w fun e w'=>e=.returned (.tuple #[])∧w=w':=by
 go_enter Tryz.func240,Tryz.ntmps240
 go_wp2
 refine wp_loop_once ?_
 go_wp2
 go_end0
 exact⟨rfl,rfl⟩
theorem xW4 (f:Value)(w:World):Calls Tryz.prog 198 #[.slice none 0 0,.int .i64 0,.int .i64 0,.int .i64 0,f] w fun e w'=>e=.returned (.tuple #[])∧w=w':=by
 have HI:=h_ (xWa f w)
 go_enter Tryz.func198,Tryz.ntmps198
 go_wp2
 refine wp_loop_once ?_
 go_wp2_with fail
 refine HI.out.mono ?_
 rintro e w' ⟨rfl,rfl⟩
 go_wp2
 first | go_end0 | (simp only[Exit.inBlock,Exit.then];refine bodyPost_ret (results_none rfl _ _ _) rfl ?_) | refine bodyPost_ret (results_none rfl _ _ _) rfl ?_
 exact⟨rfl,rfl⟩
theorem xU6 (f:Value)(w:World):Calls Tryz.prog 166 #[.slice none 0 0,f] w fun e w'=>e=.returned (.tuple #[])∧w=w':=by
 have HI:=h_ (xW4 f w)
 have HB:=h_ (Tryz.bits_Len 0 w (by decide) (by decide))
 go_enter Tryz.func166,Tryz.ntmps166
 go_wp2_with fail
 refine HB.out.mono ?_
 rintro e w' ⟨rfl,rfl⟩
 have h0:Lib.bitLen (0:Int).toNat=0:=by decide
 rw[h0]
 go_wp2_with fail
 refine HI.out.mono ?_
 rintro e w' ⟨rfl,rfl⟩
 go_wp2
 go_end0
 exact⟨rfl,rfl⟩
theorem xGs {B:Nat}{w:World}{v:Spo}(h:yU B w v)(he:v.es=[]):Calls Tryz.prog 131 #[.pointer (some ⟨v.p,0,none⟩)] w fun e w'=>e=.returned (.slice none 0 0)∧Below w.heap.size w w':=by
 obtain⟨w1,hw1⟩:∃ w1,w1=w.alloc (.cells #[.pointer (some ⟨v.p,0,none⟩)] 33):=⟨_,rfl⟩
 have hb1:Below w.heap.size w w1:=by rw[hw1];exact b_ _ _
 have hbx:=yy w #[.pointer (some ⟨v.p,0,none⟩)] 33 0
 rw[←hw1] at hbx
 simp only[v_] at hbx
 have hd1:=h.below hb1
 have c3:=cell_of_row w1 v.p 3 _ _ _ hd1.blk
 simp only[zh,v_] at c3
 have hm:=hd1.map
 unfold y3 at hm
 rw[he] at hm
 have hrg:=run_range_map (P:=Tryz.prog) w1 95 _ _ v.M _ v.mc Tryz.underlying95 hm
 obtain⟨W,hW⟩:∃ W,W=w1.alloc (.mapIter (some v.M) v.mc #[] v.mc):=⟨_,rfl⟩
 have hb:Below w1.heap.size w1 W:=by rw[hW];exact b_ _ _
 have hit:W.heap[w1.heap.size]?=some (.mapIter (some v.M) v.mc #[] v.mc):=by rw[hW];exact heap_alloc_new w1 _
 have hnx:∀ ty,(Instr.next (.pointer (some ⟨w1.heap.size,0,none⟩)) false ty).run Tryz.prog W=.ok (.tuple #[.bool false]) W:=fun ty=>by
  rcases run_next_at (P:=Tryz.prog) W ty w1.heap.size v.M v.mc v.mc #[] _ v.mc hit ((hb.block _ hd1.lt.2).trans hm) (fun x hx=>by cases hx) (Nat.le_refl _) with⟨_,h1⟩ | ⟨e,he,_⟩
  ·exact h1
  ·exact absurd (mem_left he).1 (by simp)
 have HB:=h_ (hb1.trans (hb.mono hb1.size))
 rw[←hW] at hrg
 clear hm hb hit h he hW hd1 hb1
 go_enter Tryz.func131,Tryz.ntmps131
 go_upto_region 1 with fail
 refine xu hw1 ?_
 clear hw1
 go_wp2
 refine wp_loop_once ?_
 clear hrg c3
 go_wp2_with fail
 refine(xU6 _ W).mono ?_
 rintro e w' ⟨rfl,rfl⟩
 clear hnx
 go_wp2
 go_ret
 exact⟨rfl,HB.out⟩
theorem xWh (b:Nat)(w:World):Calls Tryz.prog 112 #[.pointer (some ⟨b,0,none⟩)] w fun e w'=>e=.returned (.func (.func 154) #[] #[.pointer (some ⟨w.heap.size,0,none⟩)])∧w.alloc (.cells #[.pointer (some ⟨b,0,none⟩)] 33)=w':=by
 go_enter Tryz.func112,Tryz.ntmps112
 go_wp2
 go_ret
 exact⟨rfl,rfl⟩
theorem xOe {B:Nat}{w:World}{v:Spo}(h:yU B w v)(he:v.es=[])(bx:Nat)(hbx:w.cell? ⟨bx,0,none⟩=some (.pointer (some ⟨v.p,0,none⟩)))(y:Value) :
  Calls Tryz.prog 154 #[y,.pointer (some ⟨bx,0,none⟩)] w fun e w'=>(∃ u,e=.returned u)∧Below w.heap.size w w':=by
 have HS:Hid (Calls Tryz.prog 131 #[.pointer (some ⟨v.p,0,none⟩)] w fun e w'=>e=.returned (.slice none 0 0)∧Below w.heap.size w w'):=h_ (xGs h he)
 clear h he
 go_enter Tryz.func154,Tryz.ntmps154
 go_wp2_with fail
 refine HS.out.mono ?_
 rintro e w1 ⟨rfl,hb⟩
 have HB:=h_ hb
 clear hb hbx
 go_wp2
 refine wp_loop_once ?_
 go_wp2
 go_end0
 exact⟨⟨_,rfl⟩,HB.out⟩
theorem xJ2 {B:Nat}{w:World}{v:Spo}(h:yU B w v)(he:v.es=[])(hl:v.budget≤1073741824) :
  Calls Tryz.prog 71 #[.pointer (some ⟨v.p,0,none⟩)] w fun e w'=>Below w.heap.size w w'∧∃ u,e=.returned u∧OwnB w' w.heap.size u (beB 8 v.budget++beB 8 0):=by
 obtain⟨w0,hw0⟩:∃ w0,w0=w.alloc (.cells #[.pointer (some ⟨v.p,0,none⟩)] 33):=⟨_,rfl⟩
 have hb0:Below w.heap.size w w0:=by rw[hw0];exact b_ _ _
 have hx0:w0.heap[w.heap.size]?=some (.cells #[.pointer (some ⟨v.p,0,none⟩)] 33 (0,0)):=by rw[hw0];exact heap_alloc_new w _
 have hbx:=cell_of_row w0 w.heap.size 0 _ _ _ hx0
 simp only[v_] at hbx
 have hd0:=h.below hb0
 have c0:=cell_of_row w0 v.p 0 _ _ _ hd0.blk
 simp only[zh,v_] at c0
 have HA:=h_ (xVc [] v.budget (by omega) (.slice none 0 0) w0 w0.heap.size (OwnB.nil _ _) (Nat.le_refl _) (by simp))
 have H:=h_ h
 have HB0:=h_ hb0
 have HX0:=h_ hx0
 have HE:=h_ he
 clear h he hl hb0 hx0 hd0
 refine(callsIn_wide (n:=4)).1 (callsIn_of_wp_marks Tryz.func71 rfl trivial ?_ rfl)
 simp only[Tryz.ntmps71,List.size_toArray,List.length_cons,List.length_nil,Nat.reduceAdd,Nat.reduceSub,Array.replicate_succ,Array.replicate_zero,List.push_toArray,List.append_toArray,List.nil_append,List.cons_append]
 refine wpIn_wide.2 ?_
 go_upto_region 1 with fail
 refine xu hw0 ?_
 clear hw0
 go_wp2_with fail
 refine HA.out.mono ?_
 rintro e w1 ⟨hb1,u,rfl,hown⟩
 rw[List.nil_append] at hown
 obtain⟨ug,uc,hu,_,_,_,_⟩:∃ g cap,u=.slice (some ⟨g,0,none⟩) 8 cap∧w0.heap.size≤g∧8≤cap∧cap≤maxLen∧SlB w1 ⟨g,0,none⟩ (beB 8 v.budget):=by
  rcases hown.at with⟨_,h⟩ | ⟨g,cap,h1,h2,h3,h4,h5⟩
  ·exact absurd (congrArg List.length h) (by simp[xv])
  ·have e:(beB 8 v.budget).length=8:=by simp[xv]
   rw[e] at h1 h3
   exact⟨g,cap,h1,h2,h3,h4,h5⟩
 subst hu
 obtain⟨w2,hw2⟩:∃ w2,w2=w1.alloc (.cells #[.slice (some ⟨ug,0,none⟩) 8 uc] 66):=⟨_,rfl⟩
 have hb12:Below w1.heap.size w1 w2:=by rw[hw2];exact b_ _ _
 have hn2:w2.heap[w1.heap.size]?=some (.cells #[.slice (some ⟨ug,0,none⟩) 8 uc] 66 (0,0)):=by rw[hw2];exact heap_alloc_new w1 _
 have hb2:=hb1.trans (hb12.mono hb1.size)
 have HB2:=h_ hb2
 have hx2:=(hb2.block _ (i_ HX0.out).1).trans HX0.out
 have HX2:=h_ hx2
 have HO2:=h_ (hown.below hb12)
 have HN2:=h_ hn2
 have q0:=cell_of_row w2 w1.heap.size 0 _ _ _ hn2
 have q1:=cell_of_row w2 w.heap.size 0 _ _ _ hx2
 simp only[v_] at q0 q1
 have z0:∀ z:xf w2,z.1.cell? ⟨w1.heap.size,0,none⟩=some (.slice (some ⟨ug,0,none⟩) 8 uc):=fun z=>z.cell q0
 have z1:∀ z:xf w2,z.1.cell? ⟨w.heap.size,0,none⟩=some (.pointer (some ⟨v.p,0,none⟩)):=fun z=>z.cell q1
 have HUG:=h_ (hown.lt (k:=ug) rfl).2
 have HS2:Hid (w2.drew.heap.size=w1.heap.size+1):=h_ (by show w2.heap.size=_;rw[hw2,World.size_alloc])
 have HW1:=h_ hb1.size
 clear hb1 hown hb12 hn2 c0 hbx hx2 hb2 q0 q1 HA
 go_upto_region 4 with fail
 refine xu hw2 ?_
 clear hw2
 refine xw [0,1] [2,3,4] (fun w'=>∃ z:xf w2,w'=z.1) (by kernel_rfl) (by kernel_rfl) (by kernel_rfl) ⟨⟨w2.drew,(Below.refl _ _).drew⟩,rfl⟩ ?_
 simp only[o_]
 repeat (go_big_quiet_step (fail))
 refine wpQuiet_nil ?_
 have hbd:Below w2.heap.size w2 w2.drew:=(Below.refl _ _).drew
 clear z0 z1
 refine yz true (by kernel_rfl) (by kernel_rfl) ?_
 simp only[o_]
 go_wp2_with fail
 refine(xW8 (H.out.below (HB0.out.trans ((HB2.out.trans (hbd.mono HB2.out.size)).mono HB0.out.size))) 0 (by rw[HE.out];rfl)).mono ?_
 rintro e w3 ⟨rfl,rfl⟩
 go_wp2
 refine⟨fun _=>⟨⟨_,hbd⟩,rfl⟩,xG [3,4] _ _ (by kernel_rfl) ?_⟩
 simp only[o_]
 have hO2:=HO2.out.below hbd
 have hlt:=(hO2.lt (k:=ug) rfl).2
 have HBD:=h_ hbd
 go_wp2_with fail
 refine(xNh _ 0 (by omega) _ w2.drew w0.heap.size hO2 (by have:=HB2.out.size;exact this) (by simp[xv])).mono ?_
 rintro e w3 ⟨u,rfl,hc⟩
 have hug:ug<w1.heap.size:=HUG.out
 have hs2:w2.drew.heap.size=w1.heap.size+1:=HS2.out
 obtain⟨ag,ac,hu,_,_,_,_⟩:∃ g cap,u=.slice (some ⟨g,0,none⟩) 16 cap∧w0.heap.size≤g∧16≤cap∧cap≤maxLen∧SlB w3 ⟨g,0,none⟩ (beB 8 v.budget++beB 8 0):=by
  rcases hc.own.at with⟨_,h⟩ | ⟨g,cap,h1,h2,h3,h4,h5⟩
  ·exact absurd (congrArg List.length h) (by simp[xv])
  ·have e:(beB 8 v.budget++beB 8 0).length=16:=by simp[xv]
   rw[e] at h1 h3
   exact⟨g,cap,h1,h2,h3,h4,h5⟩
 subst hu
 have hagn:ag≠w1.heap.size:=by
  rcases hc.fr ag rfl with h | h
  ·have:ug=ag:=Option.some.inj h
   omega
  ·omega
 have hn3:=(hc.keep w1.heap.size (by omega) (fun e=>by have:ug=w1.heap.size:=Option.some.inj e;omega)).trans ((HBD.out.block w1.heap.size (by have:=(i_ HN2.out).1;exact this)).trans HN2.out)
 have hb3:Below w0.heap.size w0 w3:=(HB2.out.trans (HBD.out.mono HB2.out.size)).trans hc.bel
 have c3:=cell_of_row w3 w1.heap.size 0 _ _ _ hn3
 have f3:=frozen_of_row w3 w1.heap.size 0 _ _ hn3
 simp only[v_] at c3
 obtain⟨w4,hw4⟩:∃ w4,w4=w3.setCell ⟨w1.heap.size,0,none⟩ (.slice (some ⟨ag,0,none⟩) 16 ac):=⟨_,rfl⟩
 have hw01:w0.heap.size≤w1.heap.size:=HW1.out
 have hb4:Below w0.heap.size w0 w4:=by rw[hw4];exact hb3.setCell (p:=⟨w1.heap.size,0,none⟩) hw01 _
 have hn4:w4.heap[w1.heap.size]?=some (.cells #[.slice (some ⟨ag,0,none⟩) 16 ac] 66 (0,0)):=by rw[hw4,heap_setCell_same w3 w1.heap.size 0 _ _ _ hn3];rfl
 have ho4:OwnB w4 w0.heap.size (.slice (some ⟨ag,0,none⟩) 16 ac) (beB 8 v.budget++beB 8 0):=by
  rw[hw4]
  exact hc.own.grown (grownBy_setCell' w3 w1.heap.size _) (fun k e=>by cases e;intro h;exact hagn (Option.some.inj h))
 have HB4:=h_ hb4
 have HN4:=h_ hn4
 have HO4:=h_ ho4
 have HAG:=h_ (hc.own.lt (k:=ag) rfl)
 clear hc hug hs2 hagn hn3 hb3 hw01 hb4 hn4 ho4 hO2 hlt HUG HS2 HO2 HBD hbd
 go_wp2
 refine NoPanic.normal ?_
 go_upto_region 5 with fail
 refine xu hw4 ?_
 clear hw4 c3 f3
 have hx4:=(HB4.out.block _ (i_ HX0.out).1).trans HX0.out
 have q1:=cell_of_row w4 w.heap.size 0 _ _ _ hx4
 simp only[v_] at q1
 clear hx4
 go_wp2_with fail
 refine(xWh v.p w4).mono ?_
 rintro e w5 ⟨rfl,rfl⟩
 have hb5:Below w4.heap.size w4 (w4.alloc (.cells #[.pointer (some ⟨v.p,0,none⟩)] 33)):=(Below.refl _ _).alloc (Nat.le_refl _) _
 have hbx:=yy w4 #[.pointer (some ⟨v.p,0,none⟩)] 33 0
 generalize w4.alloc (.cells #[.pointer (some ⟨v.p,0,none⟩)] 33)=w5 at hb5 hbx ⊢
 have HB5:=h_ hb5
 have HBX:=h_ hbx
 clear hb5 hbx q1
 go_wp2
 refine xBs rfl (enters_of Tryz.func154 (by kernel_rfl) rfl) (fun y W hW=>?_) (fun D W hD hW hK=>?_)
 ·have hw05:=HB0.out.trans ((HB4.out.trans (HB5.out.mono HB4.out.size)).mono HB0.out.size)
  exact xOe (H.out.below (hw05.trans (hW.mono hw05.size))) HE.out _ ((hW.cell (p:=⟨w4.heap.size,0,none⟩) (block_lt_of_cell HBX.out)).trans HBX.out) y
 ·have h4W:=HB5.out.trans (hW.mono HB5.out.size)
  have hcW:=(h4W.cell (p:=⟨w1.heap.size,0,none⟩) (i_ HN4.out).1).trans (cell_of_row w4 w1.heap.size 0 _ _ _ HN4.out)
  simp only[v_] at hcW
  have HOW:=h_ (HO4.out.below h4W)
  have HBW:=h_ (HB0.out.trans ((HB4.out.trans (h4W.mono HB4.out.size)).mono HB0.out.size))
  have HK:=h_ hK
  have HD:=h_ hD
  clear hW hK h4W hD
  go_wp2
  refine⟨by simp,.inl ⟨_,_,rfl,run_takeDeferred HK.out,?_⟩⟩
  refine⟨.slice (some ⟨ag,0,none⟩) 16 ac,results_tmp (t:=2) Tryz.results71 _ _ _,HBW.out.grown (grownBy_putObj' _ D _) HBW.out.size (fun k e=>by cases e;have:=HB4.out.size;have:=HB5.out.size;have:=HB0.out.size;have:=HD.out;omega),_,rfl,(HOW.out.base HB0.out.size).grown (grownBy_putObj' _ D _) (fun k e=>?_)⟩
  cases e
  have h1:=(HO4.out.lt (k:=ag) rfl).2
  have h2:=HB5.out.size
  have h3:=HD.out
  intro h4
  have h5:ag=D:=Option.some.inj h4
  omega
theorem xO7 (a:Addr)(len cap k:Nat)(z:Int)(hz:z=k)(hk:k≤cap)(w:World):Sem.run Tryz.prog (Instr.sliceAt 66 (.slice (some a) len cap) none (some (.int .i64 z)) none) w=.ok (.slice (some a) k cap) w:=by
 subst hz
 rw[run_sliceAt_slice w 66 _ _ _ _ (by kernel_rfl),run_slice_h w 66 (some a) len cap (by kernel_rfl) .i64 k (by omega) (by omega),kZ,Tryz.sizeOf5]
 simp only[Result.andThen_ok,sliced,Int.toNat_natCast,Option.map_some,Nat.sub_zero,Nat.zero_mul]
 have:a.add 0=a:=rfl
 split <;> rfl
def kB (w:World)(r:Nat)(v:Value)(e:Int):Prop:=w.heap[r]?=some (.cells #[v,.int .i64 e] 309 (0,0))
theorem kB.set {w:World}{r:Nat}{v:Value}{e:Int}(h:kB w r v e)(u:Value):kB (w.setCell ⟨r,0,none⟩ u) r u e:=by
 unfold kB at h ⊢
 rw[heap_setCell_same w r 0 _ _ _ h];rfl
theorem xGr (r:Nat)(v:Value)(k:Int)(w:World)(h:kB w r v 0):Calls Tryz.prog 176 #[.pointer (some ⟨r,0,none⟩),.bool false,.int .i64 k] w fun e w'=>e=.returned (.tuple #[])∧w=w':=by
 have c1:=cell_of_row w r 1 _ _ _ h
 simp only[v_] at c1
 clear h
 go_enter Tryz.func176,Tryz.ntmps176
 go_wp2
 go_end0
 exact⟨rfl,rfl⟩
theorem xVz (r:Nat)(a:Addr)(len cap n:Nat)(w:World)(h:kB w r (.slice (some a) len cap) 0)(hn:n≤len)(hc:len≤cap)(hm:cap≤maxLen):Calls Tryz.prog 175 #[.pointer (some ⟨r,0,none⟩),.int .i64 n] w fun e w' =>
  e=.returned (.slice (some a) n cap)∧w.setCell ⟨r,0,none⟩ (.slice (some (cutA a cap n)) (len-n) (cap-n))=w':=by
 have c0:=cell_of_row w r 0 _ _ _ h
 have c1:=cell_of_row w r 1 _ _ _ h
 have f0:=frozen_of_row w r 0 _ _ h
 simp only[v_] at c0 c1
 have HF:=h_ (xGr r _ 23 w h)
 have hs1:=xO7 a len cap n (n:Int) rfl (by omega)
 have hs2:=jy a len cap n (n:Int) rfl hn
 unfold maxLen at hm
 have z1:(n:Int)≤len:=by omega
 have z2:(len:Int)≤9223372036854775807:=by omega
 have hd:decide (len<n)=false:=decide_eq_false (by omega)
 clear h
 go_enter Tryz.func175,Tryz.ntmps175
 go_wp2_with fail
 refine HF.out.mono ?_
 rintro e w' ⟨rfl,rfl⟩
 go_wp2
 go_ret
 exact⟨rfl,rfl⟩
theorem xK8 (r:Nat)(a:Addr)(len cap:Nat)(l:By)(w:World)(h:kB w r (.slice (some a) len cap) 0)(hs:SlB w a l)(hlen:l.length=len)(h8:8≤len)(hc:len≤cap)(hm:cap≤maxLen)(har:a.block≠r):Calls Tryz.prog 174 #[.pointer (some ⟨r,0,none⟩)] w fun e w' =>
  e=.returned (.int .u64 (deB (l.take 8):Nat))∧w.setCell ⟨r,0,none⟩ (.slice (some (cutA a cap 8)) (len-8) (cap-8))=w':=by
 have HT:=h_ (xVz r a len cap 8 w h h8 hc hm)
 obtain⟨w1,hw1⟩:∃ w1,w1=w.setCell ⟨r,0,none⟩ (.slice (some (cutA a cap 8)) (len-8) (cap-8)):=⟨_,rfl⟩
 have hs1:SlB w1 a (l.take 8):=⟨fun q x hq=>by
  have h1:=(hs.take 8).cell q x hq
  rw[hw1]
  have h2:=heap_setCell_other w ⟨r,0,none⟩ a.block (.slice (some (cutA a cap 8)) (len-8) (cap-8)) har
  exact(World.cell?_of_block (by rw[y9];exact h2)).trans h1⟩
 obtain⟨l8,hl8⟩:∃ l8,l8=l.take 8:=⟨_,rfl⟩
 have hl8n:l8.length=8:=by rw[hl8,List.length_take];omega
 rw[←hw1] at HT ⊢
 rw[←hl8] at hs1 ⊢
 have HS:=h_ hs1
 have HL:=h_ hl8n
 have hcz:(8:Int)≤cap:=by omega
 clear h hs hw1 hs1 hl8 hl8n hlen h8 hc hm har
 go_enter Tryz.func174,Tryz.ntmps174
 go_wp2_with fail
 refine HT.out.mono ?_
 rintro e w' ⟨rfl,rfl⟩
 go_wp2
 go_loopw [3,9] (fun nv u wr=>∃ k:Nat,u=.int .i64 k∧nv=.int .u64 (deB (l8.take k):Nat)∧k≤8∧wr=w1) (fun _ u _=>8-(intOf u).toNat)
 case atStart=>exact⟨0,rfl,by simp[deB],by omega,rfl⟩
 case round =>
  obtain⟨k,rfl,rfl,hk,rfl⟩:=hrel
  by_cases hlt:k<8
  ·have hltz:(k:Int)<8:=by omega
   have hkl:k<l8.length:=by rw[HL.out];exact hlt
   have hcl:=HS.out.cell k _ (List.getElem?_eq_getElem hkl)
   have hd:deB (l8.take (k+1))=deB (l8.take k)*256+(l8[k]'hkl).toNat:=by
    rw[List.take_succ_eq_append_getElem hkl,kv]
   have hdl:=xN8 (l8.take k) (by rw[List.length_take];omega)
   generalize l8[k]'hkl=b at hcl hd
   have hb256:=b.toNat_lt
   obtain⟨n,hn⟩:∃ n,n=deB (l8.take k):=⟨_,rfl⟩
   rw[←hn] at hd hdl ⊢
   have hor:=xM8 n b.toNat hdl (by omega)
   rw[←hd] at hor
   have b0:(n:Int)<72057594037927936:=by omega
   have hk1:k+1≤8:=hlt
   clear hn hd hdl hkl
   go_wp2
   go_roundw
   case rel=>exact⟨k+1,by go_num,rfl,hk1,trivial⟩
   case measure=>simp[intOf];omega
  ·obtain rfl:k=8:=by omega
   rw[List.take_of_length_le (by rw[HL.out];exact Nat.le_refl _)]
   go_wp2
   go_ret
   exact⟨rfl,rfl⟩
theorem xR8 (r:Nat)(a:Addr)(len cap:Nat)(l:By)(w:World)(h:kB w r (.slice (some a) len cap) 0)(hs:SlB w a l)(hlen:l.length=len)(h8:8≤len)(hc:len≤cap)(hm:cap≤maxLen)(har:a.block≠r)(n:Nat)(li hi2:Int)(hn:deB (l.take 8)=n)(_z6:0≤li)(h1:li≤n)(h2:(n:Int)≤hi2)(z3:hi2≤1073741824):Calls Tryz.prog 173 #[.pointer (some ⟨r,0,none⟩),.int .i64 li,.int .i64 hi2] w fun e w' =>
  e=.returned (.int .i64 n)∧w.setCell ⟨r,0,none⟩ (.slice (some (cutA a cap 8)) (len-8) (cap-8))=w':=by
 have HC:=h_ (xK8 r a len cap l w h hs hlen h8 hc hm har)
 have ha:=h.set (.slice (some (cutA a cap 8)) (len-8) (cap-8))
 rw[hn] at HC
 generalize w.setCell ⟨r,0,none⟩ (.slice (some (cutA a cap 8)) (len-8) (cap-8))=w1 at HC ha ⊢
 have HF:=h_ (xGr r _ 3 w1 ha)
 have c1:=cell_of_row w1 r 1 _ _ _ ha
 simp only[v_] at c1
 obtain⟨ni,hni⟩:∃ ni:Int,ni=(n:Int):=⟨_,rfl⟩
 have z1:li≤ni:=by omega
 have z2:ni≤hi2:=by omega
 have z4:ni≤1073741824:=by omega
 have z5:0≤ni:=by omega
 have dg:decide ((9223372036854775807:Int)<ni)=false:=decide_eq_false (by omega)
 have d1:decide (ni<li)=false:=decide_eq_false (by omega)
 have d2:decide (hi2<ni)=false:=decide_eq_false (by omega)
 rw[←hni] at HC ⊢
 clear hni
 clear h hs hlen h8 hc hm har hn h1 h2 ha
 go_enter Tryz.func173,Tryz.ntmps173
 go_wp2_with fail
 refine HC.out.mono ?_
 rintro e w' ⟨rfl,rfl⟩
 go_wp2_with fail
 refine HF.out.mono ?_
 rintro e w' ⟨rfl,rfl⟩
 go_wp2
 go_ret
 exact⟨rfl,rfl⟩
theorem xJ3 (a:Addr)(l:By)(cap:Nat)(w:World)(hs:SlB w a l)(ha:a.block<w.heap.size)(hl:l.length=16)(hc:16≤cap)(hcm:cap≤maxLen)(n:Nat)(hn:deB (l.take 8)=n)(h1:1≤n)(h2:n≤1073741824)(h0:deB (l.drop 8)=0) :
  Calls Tryz.prog 142 #[.slice (some a) 16 cap] w fun e w'=>Below w.heap.size w w'∧∃ v,e=.returned (.tuple #[.pointer (some ⟨v.p,0,none⟩),.int .i64 0])∧yU w.heap.size w' v∧v.es=[]∧v.budget=n∧v.bytes=0∧v.next=0:=by
 have hmm:=@run_makeMap Tryz.prog
 obtain⟨r,hr⟩:∃ r,r=w.heap.size:=⟨_,rfl⟩
 obtain⟨w0,hw0⟩:∃ w0,w0=w.alloc (.cells #[.slice (some a) 16 cap,.int .i64 0] 309):=⟨_,rfl⟩
 have hb0:Below w.heap.size w w0:=by rw[hw0];exact b_ _ _
 have hz0:w0.heap.size=r+1:=by rw[hw0,hr];simp
 have hr0:kB w0 r (.slice (some a) 16 cap) 0:=by unfold kB;rw[hw0,hr];exact heap_alloc_new w _
 have har:a.block≠r:=by omega
 have hs0:SlB w0 a l:=⟨fun q x hq=>(hb0.cell (by rw[y9];exact ha)).trans (hs.cell q x hq)⟩
 have HN:=h_ (xR8 r a 16 cap l w0 hr0 hs0 hl (by omega) hc hcm har n 1 1073741824 hn (by omega) (by omega) (by omega) (by omega))
 obtain⟨w1,hw1⟩:∃ w1,w1=w0.setCell ⟨r,0,none⟩ (.slice (some (cutA a cap 8)) (16-8) (cap-8)):=⟨_,rfl⟩
 have hr1:kB w1 r (.slice (some (cutA a cap 8)) 8 (cap-8)) 0:=by rw[hw1];exact hr0.set _
 have hb1:Below w.heap.size w w1:=by rw[hw1];exact hb0.setCell (p:=⟨r,0,none⟩) (by show w.heap.size≤r;omega) _
 have hz1:w1.heap.size=r+1:=by rw[hw1];simpa using hz0
 rw[←hw1] at HN
 obtain⟨w2,hw2⟩:∃ w2,w2=(w1.alloc (.map #[] 0)).alloc (.cells #[.int .i64 n,.int .i64 0,.int .i64 0,.map (some w1.heap.size)] 97):=⟨_,rfl⟩
 have hb12:Below w1.heap.size w1 w2:=by rw[hw2];exact((Below.refl _ _).alloc (Nat.le_refl _) _).alloc (by simp) _
 have hb2:=hb1.trans (hb12.mono hb1.size)
 have hat2:yU w.heap.size w2 ⟨w1.heap.size+1,w1.heap.size,[],0,n,0,0⟩:=by
  refine⟨?_,?_,by simp,by show w.heap.size≤w1.heap.size+1;omega,by show w.heap.size≤w1.heap.size;omega,fun k u h=>by simp[xAw] at h⟩
  ·have:=heap_alloc_new (w1.alloc (.map #[] 0)) (.cells #[.int .i64 n,.int .i64 0,.int .i64 0,.map (some w1.heap.size)] 97)
   rw[World.size_alloc] at this
   rw[hw2];exact this
  ·unfold y3
   rw[hw2,heap_alloc_old _ _ (by simp),heap_alloc_new];rfl
 have hr2:kB w2 r (.slice (some (cutA a cap 8)) 8 (cap-8)) 0:=(hb12.block r (by omega)).trans hr1
 have hs2:SlB w2 a l:=⟨fun q x hq=>(hb2.cell (by rw[y9];exact ha)).trans (hs.cell q x hq)⟩
 have HC:=h_ (xK8 r (cutA a cap 8) 8 (cap-8) (l.drop 8) w2 hr2 (hs2.cut (by omega) 8) (by rw[List.length_drop];omega) (by omega) (by omega) (by omega) (by rw[jF];exact har))
 rw[List.take_of_length_le (by rw[List.length_drop];omega),h0,show ((0:Nat):Int)=0 from rfl] at HC
 obtain⟨w3,hw3⟩:∃ w3,w3=w2.setCell ⟨r,0,none⟩ (.slice (some (cutA (cutA a cap 8) (cap-8) 8)) (8-8) (cap-8-8)):=⟨_,rfl⟩
 have hr3:kB w3 r (.slice (some (cutA (cutA a cap 8) (cap-8) 8)) 0 (cap-8-8)) 0:=by rw[hw3];exact hr2.set _
 rw[←hw3] at HC
 have hb3:Below w.heap.size w w3:=by rw[hw3];exact hb2.setCell (p:=⟨r,0,none⟩) (by show w.heap.size≤r;omega) _
 have hat3:yU w.heap.size w3 ⟨w1.heap.size+1,w1.heap.size,[],0,n,0,0⟩:=by
  rw[hw3]
  refine⟨(heap_setCell_other w2 ⟨r,0,none⟩ (w1.heap.size+1) _ (by show w1.heap.size+1≠r;omega)).trans hat2.blk,(heap_setCell_other w2 ⟨r,0,none⟩ w1.heap.size _ (by show w1.heap.size≠r;omega)).trans hat2.map,hat2.ne,hat2.pB,hat2.MB,hat2.vals⟩
 have HF:=h_ (xGr r _ 5 w3 hr3)
 have q0:=cell_of_row w3 r 0 _ _ _ hr3
 have q1:=cell_of_row w3 r 1 _ _ _ hr3
 simp only[v_] at q0 q1
 have HA:=h_ (And.intro hb3 hat3)
 obtain⟨ad,had⟩:∃ ad,ad=cutA (cutA a cap 8) (cap-8) 8:=⟨_,rfl⟩
 rw[←had] at q0
 clear hs ha hl hc hcm hn h1 h2 h0 hb0 hz0 hr0 har hs0 hw1 hr1 hb1 hz1 hb12 hb2 hat2 hr2 hs2 hw3 hr3 hb3 hat3 had
 go_enter Tryz.func142,Tryz.ntmps142
 go_upto_region 2 with fail
 refine xu hw0 ?_
 rw[←hr]
 clear hw0 hr
 go_wp2_with fail
 refine HN.out.mono ?_
 rintro e w' ⟨rfl,rfl⟩
 go_upto_region 3 with fail
 refine xu hw2 ?_
 clear hw2
 go_wp2_with fail
 refine HC.out.mono ?_
 rintro e w' ⟨rfl,rfl⟩
 go_wp2
 refine wp_loop_once ?_
 go_wp2_with fail
 refine HF.out.mono ?_
 rintro e w' ⟨rfl,rfl⟩
 go_wp2
 go_ret2
 exact⟨HA.out.1,⟨w1.heap.size+1,w1.heap.size,[],0,n,0,0⟩,rfl,HA.out.2,rfl,rfl,rfl,rfl⟩
end Go.Proofs.YthiafifdiaplaaaGreatDoor
