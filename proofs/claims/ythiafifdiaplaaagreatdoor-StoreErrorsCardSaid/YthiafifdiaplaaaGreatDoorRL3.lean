/- Parts of the proofs about bulletinlaw29: Add, Delete, RemoveLaw, Remove, NameOrd, Names, Shelf2, GroupsA, Groups, Where, Rel, EqualM, RemoveId, Fork, InOps, Range, DecLaw, DecWalk, Clone2, Dsk8, Jou1, Jou2, Jou3, Jou4, Jou5, Jou6, Jou7, Jou8, Stg, Frk. -/
import Derived.Test.YthiafifdiaplaaaGreatDoorRL1
import Derived.Test.YthiafifdiaplaaaGreatDoorRL2
import Derived.Shelf.SlGeneric
import Derived.Shelf.SlIter.Nil
import Derived.Shelf.SlSortCmp.NoneTotal
import Derived.Ground.GgzProg
import Derived.Ground.SlsfProg
import Derived.Test.YthiafifdiaplaaaGreatDoorProg
import Derived.Maps.RangeRun
import Derived.Shelf.SlMaps.Clone
import Derived.Deep.QuietTactic
import Derived.BigQuiet
set_option maxRecDepth 100000
set_option maxHeartbeats 8000000
namespace Go.Proofs.YthiafifdiaplaaaGreatDoor
open Go Go.RowKit Go.Proofs
section
attribute [local go_sem ↓] xV xO yp yh yq yB
attribute [local go_sem] zx zA zG zF yW xj xh xe xd xA xz xo xl xt xC xx
theorem xK7 (B:Nat)(v:Value)(ms:List ML)(n:Int)(w:World)(h:zl B w v ms)(hn:ms.length≤65536)(hs:(nums ms).Pairwise (· < ·)) :
  Calls Tryz.prog 83 #[v,.int .i64 n] w fun r w'=>r=.returned (.tuple #[.int .i64 (posN (nums ms) n),.bool (uB ms n)])∧Below w.heap.size w w':=by
 refine(xGt B v ms n w h hn hs).mono ?_
 rintro r w' ⟨i,hi,rfl,hb⟩
 rw[xOn hi]
 exact⟨rfl,hb⟩
theorem ka {ns:List Int}(hs:ns.Pairwise (· < ·))(n:Int):uM ns n (posN ns n) (posN ns n):=by
 unfold posN
 induction ns with
 | nil=>exact⟨Nat.le_refl _,Nat.le_refl _,fun k h=>absurd h (by simp),fun k h=>absurd h (by simp)⟩
 | cons a ns ih =>
  rw[List.pairwise_cons] at hs
  obtain⟨_,h2,h3,h4⟩:=ih hs.2
  by_cases ha:a<n
  ·rw[List.countP_cons_of_pos (by simpa using ha)]
   refine⟨Nat.le_refl _,by simpa using h2,fun k hk hki=>?_,fun k hk hki=>?_⟩
   ·cases k with
    | zero=>exact ha
    | succ k=>exact h3 k (by simpa using hk) (by omega)
   ·cases k with
    | zero=>omega
    | succ k=>exact h4 k (by simpa using hk) (by omega)
  ·rw[List.countP_cons_of_neg (by simpa using ha)]
   have h0:ns.countP (fun k=>decide (k<n))=0:=by
    rw[List.countP_eq_zero]
    intro k hk
    have:=hs.1 k hk
    simp
    omega
   rw[h0]
   refine⟨Nat.le_refl _,Nat.zero_le _,fun k _ hk=>absurd hk (Nat.not_lt_zero _),fun k hk _=>?_⟩
   cases k with
   | zero=>simp;omega
   | succ k =>
    have:=hs.1 (ns[k]'(by simpa using hk)) (List.getElem_mem _)
    simp
    omega
theorem xXv (B ib M mc:Nat)(gs:List MG)(s:ByteArray)(x:Id32)(w:World)(h:ye B w ib M gs mc) :
  Calls Tryz.prog 258 #[.pointer (some ⟨ib,0,none⟩),.string s,.agg (xB x).toArray] w fun r w'=>xQr (xD gs s) x w r w':=by
 by_cases hne:xD gs s=[]
 ·refine(xS7 B ib M mc gs s x w h hne).mono ?_
  rintro r w' ⟨rfl,hb⟩
  exact⟨.inl ⟨fun m hm=>absurd (hne ▸ hm) (by simp),rfl⟩,hb⟩
 ·exact xXu B ib M mc gs s x w h hne
def xA5 (ms:List ML)(x:Id32):Bool:=ms.any fun m=>decide (m.p.id=x)
def vI (ms:List ML)(s:ByteArray)(p:vz):Int:=if zV s≠0 then zV s else if pErr p≠0 then pErr p else if uB ms p.number || xA5 ms p.id then 7 else 0
structure xLc (B ib M:Nat)(gs:List MG)(s:ByteArray)(p:vz)(w w':World)(gs':List MG)(mc':Nat):Prop where
 idx:ye B w' ib M gs' mc'
 kept:Kept (foot ib M gs) w w'
 foot:xCq (Go.Proofs.YthiafifdiaplaaaGreatDoor.foot ib M gs) (Go.Proofs.YthiafifdiaplaaaGreatDoor.foot ib M gs') w
 lines:∃ v,(∀ k,v.ownBlock=some k→w.heap.size≤k)∧∀ t,xD gs' t=if t=s then qh (xD gs s) (posN (nums (xD gs s)) p.number) ⟨p,v⟩ else xD gs t
 tot:xS gs'=xS gs+1
def xZy (B ib M:Nat)(gs:List MG)(s:ByteArray)(p:vz)(w:World)(r:Ending)(w':World):Prop :=
 r=.returned (.int .i64 (vI (xD gs s) s p))∧((vI (xD gs s) s p≠0∧Below w.heap.size w w')∨(vI (xD gs s) s p=0∧∃ gs' mc',xLc B ib M gs s p w w' gs' mc'))
theorem xCk {ms:List ML}(h:∀ m∈ms,m.v.oneCell'=true):∀ u∈yl ms,u.oneCell'=true:=by
 intro u hu
 unfold yl at hu
 obtain⟨m,hm,hu⟩:=List.mem_flatMap.1 hu
 exact uI (g:=m.g) (h m hm) u hu
structure S21 (B ib gb nb lb tot M:Nat)(vL:Value)(ms:List ML)(nl:List (KE Id32))(nc:Nat)(g:yd)(ids:List Id32)(w:World):Prop where
 grp:w.heap[gb]?=some (.cells #[vL,.map (some nb)] 198 (0,0))
 num:y3 ekI w nb nl nc
 lines:zl B w vL ms
 line:y2 w lb g
 idx:w.heap[ib]?=some (.cells #[.map (some M),.int .i64 tot] 193 (0,0))
 vlb:vL.ownBlock≠some lb
 refs:zd 0 w g.refs ids
def Cls (gb lb:Nat)(vL:Value)(g:yd):Type:={ w:World // w.cell? ⟨gb,0,none⟩=some vL∧y2 w lb g }
theorem j8 {a b:Array Value}{s t:TypeId}{f f':Nat × Nat}(h:some (Obj.cells a s f)=some (.cells b t f')):s=t:=by cases h;rfl
theorem S21.lts {B ib gb nb lb tot M:Nat}{vL:Value}{ms:List ML}{nl:List (KE Id32)}{nc:Nat}{g:yd}{ids:List Id32}{w:World}(h:S21 B ib gb nb lb tot M vL ms nl nc g ids w):gb<w.heap.size∧nb<w.heap.size∧lb<w.heap.size∧ib<w.heap.size :=
 ⟨(i_ h.grp).1,h.num.lt,h.line.lt,(i_ h.idx).1⟩
theorem S21.cls {B ib gb nb lb tot M:Nat}{vL:Value}{ms:List ML}{nl:List (KE Id32)}{nc:Nat}{g:yd}{ids:List Id32}{w w':World}(h:S21 B ib gb nb lb tot M vL ms nl nc g ids w)(hb:Below w.heap.size w w'):w'.cell? ⟨gb,0,none⟩=some vL∧y2 w' lb g :=
 ⟨cell_of_row w' gb 0 _ _ _ ((hb.block gb h.lts.1).trans h.grp),h.line.below hb h.lts.2.2.1⟩
theorem S21.apart {B ib gb nb lb tot M:Nat}{vL:Value}{ms:List ML}{nl:List (KE Id32)}{nc:Nat}{g:yd}{ids:List Id32}{w:World}(h:S21 B ib gb nb lb tot M vL ms nl nc g ids w) :
  vL.ownBlock≠some gb∧nb≠gb∧lb≠gb∧lb≠nb∧vL.ownBlock≠some nb∧vL.ownBlock≠some ib∧ib≠gb∧ib≠nb∧lb≠ib:=by
 have hn:=h.num
 have hl:=h.line
 unfold y3 at hn
 unfold y2 at hl
 refine⟨fun e=>?_,fun e=>?_,fun e=>?_,fun e=>?_,fun e=>?_,fun e=>?_,fun e=>?_,fun e=>?_,fun e=>?_⟩
 ·obtain⟨c,h1⟩:=yO h.lines.row e
  rw[h.grp] at h1;cases h1
 ·rw[e,h.grp] at hn;cases hn
 ·rw[e,h.grp] at hl;exact absurd (j8 hl) (by decide)
 ·rw[e,hn] at hl;cases hl
 ·obtain⟨c,h1⟩:=yO h.lines.row e
  rw[hn] at h1;cases h1
 ·obtain⟨c,h1⟩:=yO h.lines.row e
  rw[h.idx] at h1;cases h1
 ·have:=h.idx;rw[e,h.grp] at this;cases this
 ·have:=h.idx;rw[e,hn] at this;cases this
 ·rw[e,h.idx] at hl;exact absurd (j8 hl) (by decide)
structure S24 (B ib gb nb tot M:Nat)(vL v':Value)(ms':List ML)(nl:List (KE Id32))(nc:Nat)(w6 w':World):Prop where
 grp:w'.heap[gb]?=some (.cells #[v',.map (some nb)] 198 (0,0))
 num:y3 ekI w' nb nl nc
 lines:zl B w' v' ms'
 idx:w'.heap[ib]?=some (.cells #[.map (some M),.int .i64 ((tot+1:Nat):Int)] 193 (0,0))
 own:v'.ownBlock=vL.ownBlock∨∃ k,v'.ownBlock=some k∧w6.heap.size≤k
 kept:Kept (ib :: ([gb,nb]++vL.ownBlock.toList)) w6 w'
theorem zd.typed {B:Nat}{w:World}{v:Value}{ids:List Id32}(h:zd B w v ids){k:Nat}(hk:v.ownBlock=some k):∃ cur,w.heap[k]?=some (.cells cur 39 (0,0)):=yO h hk
theorem xVh {B ib M mc:Nat}{gs:List MG}{s:ByteArray}{p:vz}{w w6 w':World}(h:ye B w ib M gs mc)(hb:Below w.heap.size w w6){G:MG}(hG:yk gs s=some G){v' v:Value}(hv:∀ k,v.ownBlock=some k→w.heap.size≤k)(hn:uB (xD gs s) p.number=false)(hi:xA5 (xD gs s) p.id=false)(hp:pErr p=0)(hfew:xS gs<65536)
  (hs:S24 B ib G.gb G.nb (xS gs) M G.v v' (qh G.ms (posN (nums (xD gs s)) p.number) ⟨p,v⟩) (G.nl++[⟨p.id,.int .i64 p.number,G.nc⟩]) (G.nc+1) w6 w'):∃ gs' mc',xLc B ib M gs s p w w' gs' mc':=by
 obtain⟨hGm,hGs⟩:=yL hG
 have hms:xD gs s=G.ms:=by unfold xD;rw[hG]
 have hgr:=h.grps G hGm
 have hpos:=ka (h.sorted s) p.number
 rw[hms] at hn hi hpos hs
 have hle:posN (nums G.ms) p.number≤G.ms.length:=by have:=hpos.2.1;rwa [yK] at this
 have hpure:=hgr.pure.add (i:=posN (nums G.ms) p.number) (m:=⟨p,v⟩) G.nc hpos hn (fun x hx e=>by
  unfold xA5 at hi
  rw[List.any_eq_false] at hi
  exact hi x hx (by simpa using e)) hp
 obtain⟨G',hG'⟩:∃ G':MG,G'=⟨G.name,G.born,G.gb,G.nb,v',qh G.ms (posN (nums G.ms) p.number) ⟨p,v⟩,G.nl++[⟨p.id,.int .i64 p.number,G.nc⟩],G.nc+1⟩:=⟨_,rfl⟩
 have hat:zY B w' G':=by
  rw[hG']
  exact⟨hs.grp,hs.lines,hs.num,hpure.agree,hpure.ids,hpure.sorted,hpure.good,hgr.named,by unfold qh;simp,hgr.gbB,hgr.nbB⟩
 have ht:=xAe (G':=G') h.names hG
 have hlen:G'.ms.length=G.ms.length+1:=by rw[hG'];exact vx hle
 have ht':xS (uV gs s G')=xS gs+1:=by omega
 have hk:Kept (ib :: G.foot) w w':=by
  refine Kept.trans (F:=ib :: G.foot) (F':=ib :: G.foot) (Kept.of_below hb) ?_ (fun k hk=>.inl hk)
  exact hs.kept
 have:=h.upd (w':=w') (G':=G') hG (by rw[hG']) (by rw[hG']) (by rw[hG']) (by rw[hG']) (by
   rw[hG']
   rcases hs.own with h1 | ⟨k,h1,h2⟩
   ·exact .inl h1
   ·exact .inr ⟨k,h1,by have:=hb.size;omega⟩) hat (by rw[ht'];exact hs.idx) hk (by omega)
 refine⟨_,mc,this.1,hk.mono fun k hk _=>?_,this.2,⟨v,hv,fun t=>?_⟩,ht'⟩
 ·unfold foot
  rcases List.mem_cons.1 hk with rfl | hk
  ·simp
  ·exact List.mem_cons.2 (.inr (List.mem_cons.2 (.inr (List.mem_flatMap.2 ⟨G,hGm,hk⟩))))
 ·rw[xC1 t hG (by rw[hG'];exact hGs),hms,hG']
theorem xVi {B ib M mc gb nb:Nat}{gs:List MG}{s:ByteArray}{p:vz}{w w6 w':World}(h:ye B w ib M gs mc)(hG:yk gs s=none){v' v:Value}(hv:∀ k,v.ownBlock=some k→w.heap.size≤k)(hn:zV s=0)(hp:pErr p=0)(hfew:xS gs<65536)
  (hk6:Kept [M] w w6) (hM6:y3 ekS w6 M (gs.map MG.e++[⟨s,.pointer (some ⟨gb,0,none⟩),mc⟩]) (mc+1)) (hgb:w.heap.size≤gb) (hnb:w.heap.size≤nb) (hgn:gb≠nb) (hgl:gb<w6.heap.size) (hnl:nb<w6.heap.size) (hib:ib≠M)
  (hs:S24 B ib gb nb (xS gs) M (.slice none 0 0) v' (qh [] (posN (nums (xD gs s)) p.number) ⟨p,v⟩) ([]++[⟨p.id,.int .i64 p.number,0⟩]) (0+1) w6 w'):∃ gs' mc',xLc B ib M gs s p w w' gs' mc':=by
 have hms:xD gs s=[]:=by unfold xD;rw[hG]
 have hB:B≤w.heap.size:=by have:=h.foot_lt ib (by simp[foot]);omega
 have hMl:=h.map.lt
 rw[hms] at hs
 have hpure:=vS.nil.add (i:=0) (m:=⟨p,v⟩) 0 ⟨Nat.le_refl _,Nat.le_refl _,fun k h=>absurd h (by simp[nums]),fun k h=>absurd h (by simp[nums])⟩ rfl (fun x hx=>by cases hx) hp
 obtain⟨G',hG'⟩:∃ G':MG,G'=⟨s,mc,gb,nb,v',qh [] (posN (nums []) p.number) ⟨p,v⟩,[]++[⟨p.id,.int .i64 p.number,0⟩],0+1⟩:=⟨_,rfl⟩
 have hat:zY B w' G':=by
  rw[hG']
  exact⟨hs.grp,hs.lines,hs.num,hpure.agree,hpure.ids,hpure.sorted,hpure.good,hn,by unfold qh;simp,by simp;omega,by simp;omega⟩
 have hown:∀ k,v'.ownBlock=some k→w6.heap.size≤k:=by
  intro k hk
  rcases hs.own with h1 | ⟨k',h1,h2⟩
  ·rw[h1] at hk;cases hk
  ·rw[h1] at hk;cases hk;exact h2
 have hfoot:∀ k∈G'.foot,w.heap.size≤k:=by
  intro k hk
  rw[hG'] at hk
  unfold MG.foot at hk
  simp only[List.mem_append,List.mem_cons,List.mem_nil_iff,or_false,Option.mem_toList] at hk
  rcases hk with (rfl | rfl) | hk
  ·exact hgb
  ·exact hnb
  ·have:=hown k hk;have:=hk6.size;omega
 have hnod:G'.foot.Nodup:=by
  rw[hG']
  unfold MG.foot
  cases hv:v'.ownBlock with
  | none=>simp[hgn]
  | some k =>
   have:=hown k hv
   simp[hgn]
   omega
 have ht':xS (gs++[G'])=xS gs+1:=by rw[xU1,hG'];rfl
 have hk:Kept [ib,M] w w':=by
  refine Kept.trans (F:=[ib,M]) (hk6.mono fun k hk _=>by simp at hk ⊢;exact .inr hk) hs.kept (fun k hk=>?_)
  simp only[Value.ownBlock,Option.toList_none,List.append_nil,List.mem_cons,List.mem_nil_iff,or_false] at hk
  rcases hk with rfl | rfl | rfl
  ·simp
  ·exact .inr hgb
  ·exact .inr hnb
 have hM':y3 ekS w' M ((gs++[G']).map MG.e) (mc+1):=by
  unfold y3 at hM6 ⊢
  rw[hs.kept.block M (by have:=hk6.size;omega) (by simp[Value.ownBlock];exact⟨fun e=>hib e.symm,by omega,by omega⟩),hM6,hG']
  simp only[List.map_append]
  rfl
 have:=h.new (w':=w') (G':=G') hG (by rw[hG']) (by rw[hG']) hfoot hnod hat (by rw[ht'];exact hs.idx) hM' hk (by omega)
 refine⟨_,mc+1,this.1,hk.mono fun k hk _=>?_,this.2,⟨v,hv,fun t=>?_⟩,ht'⟩
 ·unfold foot
  simp only[List.mem_cons,List.mem_nil_iff,or_false] at hk
  rcases hk with rfl | rfl
  ·simp
  ·simp
 ·rw[xP2 t hG (by rw[hG']),hms,hG']
theorem xZr (B ib M mc:Nat)(gs:List MG)(s:ByteArray)(p:vz)(v0:Value)(w:World)(hG:Gl w)(h:ye B w ib M gs mc)(hs:s.size≤maxLen)(hO:xEr w (ML.g ⟨p,v0⟩) p.ids)(hI:zd 0 w v0 p.ids)(hfew:xS gs<65536) :
  Calls Tryz.prog 208 #[.pointer (some ⟨ib,0,none⟩),.string s,.agg (x9 (ML.g ⟨p,v0⟩))] w fun r w'=>xZy B ib M gs s p w r w':=by
 obtain⟨g,hg⟩:∃ g,g=ML.g ⟨p,v0⟩:=⟨_,rfl⟩
 have hgn:g.number=p.number:=by rw[hg];rfl
 have hgi:g.id=p.id:=by rw[hg];rfl
 have hgr:g.refs=v0:=by rw[hg];rfl
 have hge:xG4 g p.ids=pErr p:=by rw[hg];rfl
 have hgv:∀ v,{ g with refs:=v }=ML.g ⟨p,v⟩:=fun v=>by rw[hg];rfl
 rw[←hg] at hO ⊢
 rw[←hgr] at hI
 have hb0:Below w.heap.size w (w.alloc (.cells (x9 g) 49)):=(Below.refl _ _).alloc (Nat.le_refl _) _
 have hL0:y2 (w.alloc (.cells (x9 g) 49)) w.heap.size g:=heap_alloc_new _ _
 have HL0:=h_ hL0
 have HB0:=h_ hb0
 have HX:=h_ h
 have HO:=h_ hO
 have HI:=h_ hI
 have HGV:=h_ hgv
 have HGN:=h_ hgn
 have HGI:=h_ hgi
 have HGE:=h_ hge
 clear hL0 hb0 h hO hI hgv hgn hgi hge hg hgr
 go_enter Tryz.func208,Tryz.ntmps208
 go_wp2_with fail
 refine(xC0 s _ (hG.later HB0.out) hs).mono ?_
 rintro r w1 ⟨rfl,hb1⟩
 have hL1:y2 w1 w.heap.size g:=HL0.out.below hb1 (by simp)
 have hB1:Below w.heap.size w w1:=HB0.out.trans (hb1.mono (by simp))
 have hs1:w.heap.size<w1.heap.size:=hL1.lt
 by_cases hne:zV s=0
 case neg =>
  have HA:Hid (vI (xD gs s) s p=zV s):=h_ (by unfold vI;rw[if_pos hne])
  have HB1:=h_ hB1
  clear hb1 hL1 hB1 HL0 HB0
  generalize zV s=e at hne HA ⊢
  have hbe:(e != 0)=true:=by simpa using hne
  have hbe2:(e == 0)=false:=by simpa using hne
  go_wp2
  go_ret
  exact⟨by rw[HA.out];try rfl,.inl ⟨by rw[HA.out];exact hne,HB1.out⟩⟩
 have HNE:=h_ hne
 rw[hne]
 obtain⟨o1,d1⟩:=hL1.rd
 have HL1:=h_ hL1
 have HB1:=h_ hB1
 clear hb1 hL1 hB1 HL0 HB0
 go_wp2_with fail
 refine(xJc g p.ids w1 (HO.out.below HB1.out)).mono ?_
 rintro r w2 ⟨rfl,hb2⟩
 rw[HGE.out]
 have hL2:y2 w2 w.heap.size g:=HL1.out.below hb2 hs1
 have hB2:Below w.heap.size w w2:=HB1.out.trans (hb2.mono HB1.out.size)
 have hs2:w.heap.size<w2.heap.size:=hL2.lt
 clear o1 d1 hb2 HL1 HB1 hs1
 by_cases hpe:pErr p=0
 case neg =>
  have HA:Hid (vI (xD gs s) s p=pErr p):=h_ (by unfold vI;rw[if_neg (by simpa using HNE.out),if_pos hpe])
  have HB2:=h_ hB2
  clear hL2 hB2
  clear hne
  generalize pErr p=e at hpe HA ⊢
  have hbe:(e != 0)=true:=by simpa using hpe
  have hbe2:(e == 0)=false:=by simpa using hpe
  go_wp2
  go_ret
  exact⟨by rw[HA.out];try rfl,.inl ⟨by rw[HA.out];exact hpe,HB2.out⟩⟩
 have HPE:=h_ hpe
 rw[hpe]
 clear hpe hne
 have hX2:=HX.out.below hB2
 have n2:∀ z:xf w2,z.1.cell? ⟨w.heap.size,0,none⟩=some (.int .i64 g.number):=fun z=>z.cell ((hL2.cell 0).trans (lc0 g))
 have HL2:=h_ hL2
 have HB2:=h_ hB2
 have c1:∀ z:xf w2,Calls Tryz.prog 82 #[.pointer (some ⟨ib,0,none⟩),.string s] z.1 fun r w'=>r=.returned (qX gs s)∧∃ z':xf w2,w'=z'.1:=fun z=>xf.call ((vX B ib M mc gs s z.1 (hX2.below z.2)).mono fun _ _ ⟨a,b⟩=>⟨a,b ▸ Below.refl _ _⟩)
 have c2:∀ z:xf w2,Calls Tryz.prog 83 #[qX gs s,.int .i64 g.number] z.1 fun r w'=>r=.returned (.tuple #[.int .i64 (posN (nums (xD gs s)) g.number),.bool (uB (xD gs s) g.number)])∧∃ z':xf w2,w'=z'.1:=fun z=>xf.call (xK7 B _ _ _ z.1 ((hX2.below z.2).lines s) (hX2.len s) (hX2.sorted s))
 obtain⟨va,vc,hval⟩:=vJ hX2 s
 have HVAL:=h_ hval
 have C1:=h_ c1
 have C2:=h_ c2
 clear c1 c2 hL2 hB2 hX2 hval
 rw[HVAL.out] at C1 C2
 obtain⟨pos,hpos⟩:∃ i:Nat,i=posN (nums (xD gs s)) g.number:=⟨_,rfl⟩
 rw[←hpos] at C2
 have HPOS:=h_ hpos
 clear hpos
 generalize (xD gs s).length=len at C1 C2 HVAL
 go_wp2_with fail
 refine kG 10 (fun w'=>∃ z:xf w2,w'=z.1) (by kernel_rfl) (by kernel_rfl) ⟨⟨_,(Below.refl _ _).drew⟩,rfl⟩ ?_
 simp only[List.take_succ_cons,List.take_zero,List.drop_succ_cons,List.drop_zero]
 repeat (go_big_quiet_step (first | (go_at_call 82;exact C1.out _) | (go_at_call 83;exact C2.out _)))
 refine wpQuiet_nil ?_
 rintro _ ⟨z,rfl⟩
 clear n2 C1 C2
 obtain⟨w3,hb3⟩:=z
 simp only
 have hL3:y2 w3 w.heap.size g:=HL2.out.below hb3 hs2
 have hB3:Below w.heap.size w w3:=HB2.out.trans (hb3.mono HB2.out.size)
 have hs3:w.heap.size<w3.heap.size:=hL3.lt
 clear HL2 HB2 hs2 hb3
 obtain⟨o3,d3⟩:=hL3.idAt
 have HF:=h_ (xXv B ib M mc gs s g.id w3 (HX.out.below hB3))
 have HL3:=h_ hL3
 have HB3:=h_ hB3
 have hft:xy 38 (x9 xH)=true:=ub rfl
 have hzs:((x9 xH).size == 38)=true:=by rw[xN];rfl
 clear hL3 hB3
 go_wp2_with fail
 refine HF.out.mono ?_
 rintro r w4 ⟨hres,hb4⟩
 have hL4:y2 w4 w.heap.size g:=HL3.out.below hb4 hs3
 have hB4:Below w.heap.size w w4:=HB3.out.trans (hb4.mono HB3.out.size)
 have hs4:w.heap.size<w4.heap.size:=hL4.lt
 clear o3 d3 HF HL3 HB3 hb4 hs3
 have hfound:∃ fl:yd,jk fl∧r=.returned (.tuple #[.agg (x9 fl),.bool (xA5 (xD gs s) p.id)]):=by
  rcases hres with⟨hno,rfl⟩ | ⟨m,hm,hid,v,rfl,hIv⟩
  ·refine⟨xH,rfl,?_⟩
   have:xA5 (xD gs s) p.id=false:=by
    unfold xA5
    rw[List.any_eq_false]
    intro m hm
    have:=hno m hm
    rw[HGI.out] at this
    simpa using this
   rw[this]
  ·refine⟨{ m.g with refs:=v },hIv.one,?_⟩
   have:xA5 (xD gs s) p.id=true:=by
    unfold xA5
    rw[List.any_eq_true]
    exact⟨m,hm,by rw[←HGI.out];simpa using hid⟩
   rw[this]
 obtain⟨fl,hfl,rfl⟩:=hfound
 clear hres
 have hb5:Below w4.heap.size w4 (w4.alloc (.cells (x9 fl) 49)):=(Below.refl _ _).alloc (Nat.le_refl _) _
 have hL5:y2 (w4.alloc (.cells (x9 fl) 49)) w.heap.size g:=hL4.below hb5 hs4
 have hB5:Below w.heap.size w (w4.alloc (.cells (x9 fl) 49)):=hB4.trans (hb5.mono hB4.size)
 have hs5:w.heap.size<(w4.alloc (.cells (x9 fl) 49)).heap.size:=hL5.lt
 have HL5:=h_ hL5
 have HB5:=h_ hB5
 have hft2:=ub (g:=fl) hfl
 have hzs2:((x9 fl).size == 38)=true:=by rw[xN];rfl
 clear hb5 hL5 hB5 hL4 hB4 hs4
 rw[HGN.out]
 go_upto_region 11 with (fail)
 generalize w4.alloc (.cells (x9 fl) 49)=w5 at HL5 HB5 hs5 ⊢
 clear hft hzs hft2 hzs2
 by_cases hdup:(uB (xD gs s) p.number || xA5 (xD gs s) p.id)=true
 ·have HA:Hid (vI (xD gs s) s p=7):=h_ (by unfold vI;rw[if_neg (by simpa using HNE.out),if_neg (by simpa using HPE.out),if_pos hdup])
  generalize uB (xD gs s) p.number=b1 at hdup ⊢
  generalize xA5 (xD gs s) p.id=b2 at hdup ⊢
  cases b1 with
  | true =>
   go_wp2
   go_ret
   exact⟨by rw[HA.out];try rfl,.inl ⟨by rw[HA.out];decide,HB5.out⟩⟩
  | false =>
   obtain rfl:b2=true:=by simpa using hdup
   go_wp2
   go_ret
   exact⟨by rw[HA.out];try rfl,.inl ⟨by rw[HA.out];decide,HB5.out⟩⟩
 have HA:Hid (vI (xD gs s) s p=0):=h_ (by unfold vI;rw[if_neg (by simpa using HNE.out),if_neg (by simpa using HPE.out),if_neg hdup])
 obtain⟨hn1,hn2⟩:uB (xD gs s) p.number=false∧xA5 (xD gs s) p.id=false:=by simpa using hdup
 have HN1:=h_ hn1
 have HN2:=h_ hn2
 rw[hn1,hn2]
 clear hdup hn1 hn2
 have hX5:=HX.out.below HB5.out
 have hc0:=hX5.cell0
 have hc1:=hX5.cell1
 have hlk:=hX5.look s
 have hlim:¬ (65536:Int)≤(xS gs:Int):=by omega
 have hlim2:decide ((xS gs:Int) ≥ 65536)=false:=by simp;omega
 have hmn:=fun (u:World)=>run_eql_map_nil (P:=Tryz.prog) u 191 9 194 (some M) Tryz.underlying191
 cases hgo:yk gs s with
 | some G =>
  rw[hgo] at hlk
  simp only[Option.map_some,Option.getD_some] at hlk
  obtain⟨hGm,hGs⟩:=yL hgo
  have hgr:=hX5.grps G hGm
  have hms:xD gs s=G.ms:=by unfold xD;rw[hgo]
  have HS:Hid (S21 B ib G.gb G.nb w.heap.size (xS gs) M G.v G.ms G.nl G.nc g p.ids w5):=h_ {
   grp:=hgr.blk
   num:=hgr.nums
   lines:=hgr.lines
   line:=HL5.out
   idx:=hX5.blk
   vlb:=fun e=>by have:=(World.ownsRow.lt (HX.out.grps G hGm).lines.row _ e).2;omega
   refs:=HI.out.below HB5.out }
  have HWS:Hid (w.heap.size≤w5.heap.size):=h_ HB5.out.size
  have HEND:Hid (∀ w' v' v,(∀ k,v.ownBlock=some k→w.heap.size≤k)→S24 B ib G.gb G.nb (xS gs) M G.v v' (qh G.ms pos ⟨p,v⟩) (G.nl++[⟨p.id,.int .i64 p.number,G.nc⟩]) (G.nc+1) w5 w'→∃ gs' mc',xLc B ib M gs s p w w' gs' mc'):=h_ (fun w' v' v hv h24=>xVh HX.out HB5.out hgo hv HN1.out HN2.out HPE.out hfew (by rw[←HGN.out,←HPOS.out];rw[HGN.out];exact h24))
  have HKEY:Hid (yM p.id G.nl 0=none):=h_ (hgr.find_no fun m hm e=>by
   have:=HN2.out
   unfold xA5 at this
   rw[List.any_eq_false] at this
   exact this m (hms ▸ hm) (by simpa using e))
  have HPL:Hid (pos≤G.ms.length):=h_ (by
   have:=(ka (hX5.sorted s) g.number).2.1
   rw[yK,hms] at this
   rw[HPOS.out,hms];exact this)
  have HLEN:Hid (G.ms.length≤65536):=h_ (by rw[←hms];exact hX5.len s)
  have HBB:Hid (B≤w5.heap.size):=h_ (by have:=(hX5.foot_lt ib (by simp[foot]));omega)
  clear hX5 hgr hms hGm hGs
  generalize G.gb=gb at hlk HS HEND
  generalize G.nb=nb at HS HEND
  generalize G.v=vL at HS HEND
  generalize G.ms=ms at HS HEND HPL HLEN
  generalize G.nl=nl at HS HEND HKEY
  generalize G.nc=nc at HS HEND
  go_upto_region 21 with (fail)
  clear hgo hlk hc0 hc1 hlim hlim2 hmn HL5 HB5 HX HN1 HN2 HVAL HPOS hs5 G
  obtain⟨vla,vln,vlc,hvl⟩:∃ a n c,vL=.slice a n c:=by
   rcases HS.out.lines.head with⟨e,_⟩ | ⟨_,cap,e,_⟩
   ·exact⟨_,_,_,e⟩
   ·exact⟨_,_,_,e⟩
  have HVL:=h_ hvl
  haveI:Nonempty (Cls gb w.heap.size vL g):=⟨⟨w5,HS.out.cls (Below.refl _ _)⟩⟩
  have q1:∀ z:Cls gb w.heap.size vL g,z.1.cell? ⟨gb,0,none⟩=some (.slice vla vln vlc):=fun z=>hvl ▸ z.2.1
  have q2:∀ z:Cls gb w.heap.size vL g,xq z.1 ⟨w.heap.size,0,none⟩ 38=true:=fun z=>z.2.2.rd.1
  have q3:∀ z:Cls gb w.heap.size vL g,xp z.1 ⟨w.heap.size,0,none⟩ 38=x9 g:=fun z=>z.2.2.rd.2
  clear hvl
  refine xw [0,1,2,3,4,5,6] [7,8,9,10,11,12] (fun w'=>∃ z:Cls gb w.heap.size vL g,w'=z.1) (by kernel_rfl) (by kernel_rfl) (by kernel_rfl) ⟨⟨_,HS.out.cls (Below.refl _ _).drew⟩,rfl⟩ ?_
  simp only[o_]
  repeat (go_big_quiet_step (fail))
  refine wpQuiet_nil ?_
  clear q1 q2 q3
  have hbd:Below w5.heap.size w5 w5.drew:=(Below.refl _ _).drew
  generalize w5.drew=w7 at hbd ⊢
  refine uw true rfl (by kernel_rfl) ?_
  go_wp2_with fail
  refine(xBn 0 g p.ids w7 (HS.out.refs.below hbd) (by have:=xD0 HPE.out;omega)).mono ?_
  rintro r w8 ⟨v,rfl,hI8,hb8⟩
  have hone:=hI8.one
  have hb8':Below w5.heap.size w5 w8:=hbd.trans (hb8.mono hbd.size)
  have hc8:=HS.out.cls hb8'
  obtain⟨g8,hg8⟩:∃ g8:yd,g8=ML.g ⟨p,v⟩:=⟨_,rfl⟩
  have hone8:jk g8:=by rw[hg8];exact hone
  rw[HGV.out v,←hg8]
  have HG8:=h_ hg8
  clear hg8
  have HI8:=h_ (hI8.mono hbd.size)
  obtain⟨i0,hi,hz0,hz1,hz2⟩:=info_parts Tryz.info_line
  go_wp2_with fail
  refine⟨fun _=>⟨⟨_,hc8⟩,rfl⟩,uw true rfl (by kernel_rfl) ?_⟩
  refine wpList_buildSlice rfl 173 49 1 _ rfl (x9 g8) i0 _ Tryz.underlying173 hi hz0 (by rw[hz1];decide) (by rw[hz1];decide) (by rw[hz1];simp only[List.map_toArray,List.map_cons,List.map_nil];refine xB1 _ _ 38 (xN _) ?_;rw[Array.size_map,Array.size_range]) ?_
  obtain⟨w9,hw9⟩:∃ w9,w9=w8.alloc (.cells (x9 g8) 49):=⟨_,rfl⟩
  have hb89:Below w8.heap.size w8 w9:=by rw[hw9];exact b_ _ _
  have hb9:Below w5.heap.size w5 w9:=hb8'.trans (hb89.mono hb8'.size)
  have hn9:w9.heap[w8.heap.size]?=some (.cells (x9 g8) 49 (0,0)):=by rw[hw9];exact heap_alloc_new _ _
  have hL9:=HS.out.lines.below hb9
  have hIns:Calls Tryz.prog 259 #[.slice vla vln vlc,.int .i64 pos,.slice (some ⟨w8.heap.size,0,none⟩) 1 1] w9 fun r w'=>∃ v',r=.returned v'∧w'.ownsRow B 49 38 v' (ms.length+1) ((yl ms).take (pos*38)++xK g8++(yl ms).drop (pos*38))∧w9.grownBy w' vL.ownBlock∧(v'.ownBlock=vL.ownBlock∨v'.ownBlock=some w9.heap.size):=by
   have:=xHv B vL ms.length pos w8.heap.size (yl ms) g8 w9 hone8 (xCk fun m hm=>(hL9.refs m hm).one) hL9.row (by have:=HBB.out;have:=hb9.size;omega) HLEN.out HPL.out hn9 (fun e=>by have:=(World.ownsRow.lt HS.out.lines.row _ e).2;have:=hb8'.size;omega)
   rw[HVL.out] at this ⊢
   exact this
  rw[←hw9]
  have HIns:=h_ hIns
  have HB9:=h_ hb9
  have HI9:=h_ (HI8.out.below hb89)
  have hc9:=HS.out.cls hb9
  clear hIns hb9 hb89 hw9 hL9 hn9 HI8 hI8 hb8 hb8' hc8 hbd
  go_wp2_with fail
  refine⟨fun _=>⟨⟨_,hc9⟩,rfl⟩,uw true rfl (by kernel_rfl) ?_⟩
  clear hc9
  go_wp2_with fail
  refine HIns.out.mono ?_
  rintro r w10 ⟨v',rfl,hown,hgrow,hat⟩
  have e10:∀ k,k<w5.heap.size→vL.ownBlock≠some k→w10.heap[k]?=w5.heap[k]?:=fun k hk hv=>(hgrow.block k (by have:=HB9.out.size;omega) (fun e=>hv e.symm)).trans (HB9.out.block k hk)
  obtain⟨d1,d2,d3,d4,d5,d6,d7,d8,d9⟩:=HS.out.apart
  obtain⟨l1,l2,l3,l4⟩:=HS.out.lts
  have hg10:=(e10 gb l1 d1).trans HS.out.grp
  have hc10:w10.cell? ⟨gb,0,none⟩=some vL∧y2 w10 w.heap.size g:=⟨cell_of_row w10 gb 0 _ _ _ hg10,(e10 _ l3 HS.out.vlb).trans HS.out.line⟩
  obtain⟨va,vc,hv'⟩:∃ va vc,v'=.slice (some ⟨va,0,none⟩) (ms.length+1) vc:=by
   rcases hown.2 with⟨_,h0⟩ | ⟨g',cap',_,e,_⟩
   ·omega
   ·exact⟨g',cap',e⟩
  go_wp2_with fail
  refine⟨fun _=>⟨⟨_,hc10⟩,rfl⟩,xG [10,11,12] _ _ (by kernel_rfl) ?_⟩
  simp only[o_]
  have hcg:=hc10.1
  rw[HVL.out] at hcg
  have hfg:=frozen_of_row w10 gb 0 _ _ hg10
  obtain⟨w11,hw11⟩:∃ w11,w11=w10.setCell ⟨gb,0,none⟩ v':=⟨_,rfl⟩
  have hg11:w11.heap[gb]?=some (.cells #[v',.map (some nb)] 198 (0,0)):=by rw[hw11];exact heap_setCell_same w10 gb 0 _ _ v' hg10
  have e11:∀ k,k≠gb→w11.heap[k]?=w10.heap[k]?:=fun k hk=>by rw[hw11];exact heap_setCell_other w10 ⟨gb,0,none⟩ k _ hk
  have hs11:w11.heap.size=w10.heap.size:=by rw[hw11];simp[World.setCell]
  have ho11:w11.os=w10.os∧w11.tape=w10.tape∧w11.output=w10.output:=by rw[hw11];exact⟨rfl,rfl,rfl⟩
  have HOWN:=h_ hown
  have HGROW:=h_ hgrow
  have HAT:=h_ hat
  have HE10:=h_ e10
  have HG11:=h_ hg11
  have HE11:=h_ e11
  have HO11:=h_ ho11
  have HC10:=h_ hc10
  have HV':=h_ hv'
  have HW11:=h_ hw11
  have HS11:=h_ hs11
  clear hown hgrow hat e10 hg11 e11 ho11 hg10 hc10 hw11 hs11
  subst hv'
  go_wp2
  refine NoPanic.normal ?_
  go_upto_region 22 with (fail)
  rw[←HW11.out]
  clear hcg hfg HW11 HIns
  have hL11:y2 w11 w.heap.size g:=(HE11.out _ d3).trans HC10.out.2
  have hN11:y3 ekI w11 nb nl nc:=((HE11.out _ d2).trans (HE10.out nb l2 d5)).trans HS.out.num
  have hL11s:=hL11.lt
  have q1:∀ z:xf w11,z.1.cell? ⟨gb,1,none⟩=some (.map (some nb)):=fun z=>z.cell (cell_of_row w11 gb 1 _ _ _ HG11.out)
  have q2:∀ z:xf w11,xq z.1 ⟨w.heap.size,1,none⟩ 32=true:=fun z=>(hL11.below z.2 hL11s).idAt.1
  have q3:∀ z:xf w11,xp z.1 ⟨w.heap.size,1,none⟩ 32=(xB p.id).toArray:=fun z=>(hL11.below z.2 hL11s).idAt.2.trans (by rw[HGI.out])
  have q4:∀ z:xf w11,z.1.cell? ⟨w.heap.size,0,none⟩=some (.int .i64 p.number):=fun z=>((hL11.below z.2 hL11s).cell 0).trans ((lc0 g).trans (by rw[HGN.out]))
  have HN11:=h_ hN11
  clear hN11 hL11 hL11s
  refine xw [0,1,2,3,4,5,6,7] [8] (fun w'=>∃ z:xf w11,w'=z.1) (by kernel_rfl) (by kernel_rfl) (by kernel_rfl) ⟨⟨_,(Below.refl _ _).drew⟩,rfl⟩ ?_
  simp only[o_]
  repeat (go_big_quiet_step (fail))
  refine wpQuiet_nil ?_
  clear q1 q2 q3 q4
  have hup:(Instr.mapUpdate 195 (.map (some nb)) (.agg (xB p.id).toArray) (.int .i64 p.number)).run Tryz.prog w11.drew=.ok () (w11.drew.putObj nb (.map ((nl++[(⟨p.id,.int .i64 p.number,nc⟩:KE Id32)]).map (enE ekI)).toArray (nc+1))) :=
   xD4 keyI Tryz.underlying195 w11.drew nb nl nc HN11.out p.id _ HKEY.out
  obtain⟨w12,hw12⟩:∃ w12,w12=w11.drew.putObj nb (.map ((nl++[(⟨p.id,.int .i64 p.number,nc⟩:KE Id32)]).map (enE ekI)).toArray (nc+1)):=⟨_,rfl⟩
  have e12:∀ k,k≠nb→w12.heap[k]?=w11.heap[k]?:=fun k hk=>by rw[hw12,World.putObj_heap_other hk];rfl
  have hs12:w12.heap.size=w11.heap.size:=by rw[hw12];simp only[World.putObj,Array.size_setIfInBounds];rfl
  have hN12:y3 ekI w12 nb (nl++[⟨p.id,.int .i64 p.number,nc⟩]) (nc+1):=by rw[hw12];exact y3.put (w:=w11.drew) HN11.out
  have ho12:w12.os=w11.os∧w12.tape=w11.tape∧w12.output=w11.output:=by rw[hw12];exact⟨rfl,rfl,rfl⟩
  rw[←hw12] at hup
  have HE12:=h_ e12
  have HS12:=h_ hs12
  have HN12:=h_ hN12
  have HO12:=h_ ho12
  have hI12:=(e12 ib d8).trans ((HE11.out ib d7).trans ((HE10.out ib l4 d6).trans HS.out.idx))
  have HI12:=h_ hI12
  clear hw12 e12 hs12 hN12 ho12 hI12
  refine xG [8] _ _ (by kernel_rfl) ?_
  simp only[o_]
  go_wp2
  refine NoPanic.normal ?_
  have hci:=cell_of_row w12 ib 1 _ _ _ HI12.out
  have hfi:=frozen_of_row w12 ib 1 _ _ HI12.out
  clear hup
  go_wp2
  obtain⟨w13,hw13⟩:∃ w13,w13=w12.setCell ⟨ib,1,none⟩ (.int .i64 ((xS gs:Int)+1)):=⟨_,rfl⟩
  have hI13:w13.heap[ib]?=some (.cells #[.map (some M),.int .i64 ((xS gs+1:Nat):Int)] 193 (0,0)):=by
   rw[hw13]
   have:=heap_setCell_same w12 ib 1 _ _ (.int .i64 ((xS gs:Int)+1)) HI12.out
   rw[this]
   rfl
  have e13:∀ k,k≠ib→w13.heap[k]?=w12.heap[k]?:=fun k hk=>by rw[hw13];exact heap_setCell_other w12 ⟨ib,1,none⟩ k _ hk
  have hs13:w13.heap.size=w12.heap.size:=by rw[hw13];simp[World.setCell]
  have ho13:w13.os=w12.os∧w13.tape=w12.tape∧w13.output=w12.output:=by rw[hw13];exact⟨rfl,rfl,rfl⟩
  rw[←hw13]
  have eAll:∀ k,k≠ib→k≠gb→k≠nb→w13.heap[k]?=w10.heap[k]?:=fun k k1 k2 k3=>(e13 k k1).trans ((HE12.out k k3).trans (HE11.out k k2))
  have h24:S24 B ib gb nb (xS gs) M vL (.slice (some ⟨va,0,none⟩) (ms.length+1) vc) (qh ms pos ⟨p,v⟩) (nl++[⟨p.id,.int .i64 p.number,nc⟩]) (nc+1) w5 w13:=by
   have hid:∀ {k:Nat} {cur:Array Value},w10.heap[k]?=some (Obj.cells cur 39 (0,0))→w13.heap[k]?=w10.heap[k]?:=fun {k cur} hk=>eAll k
    (fun e=>by rw[e,HE10.out ib l4 d6,HS.out.idx] at hk;cases hk) (fun e=>by rw[e,HE10.out gb l1 d1,HS.out.grp] at hk;cases hk)
    (fun e=>by have h1:=HS.out.num;unfold y3 at h1;rw[e,HE10.out nb l2 d5,h1] at hk;cases hk)
   refine⟨(e13 gb (fun e=>d7 e.symm)).trans ((HE12.out gb (fun e=>d2 e.symm)).trans HG11.out),(e13 nb (fun e=>d8 e.symm)).trans HN12.out,⟨?_,?_⟩,hI13,?_,?_⟩
   ·have h1:=HOWN.out
    rw[HG8.out,←xPm,←vx HPL.out] at h1
    have h2:(qh ms pos ⟨p,v⟩).length=ms.length+1:=vx HPL.out
    rw[←h2]
    rw[h2] at h1 ⊢
    refine⟨h1.1,?_⟩
    rcases h1.2 with h0 | ⟨g',cap',cur,e,hg,hcur,hx⟩
    ·exact .inl h0
    ·refine .inr ⟨g',cap',cur,e,hg,(eAll g' (fun e=>?_) (fun e=>?_) (fun e=>?_)).trans hcur,hx⟩
     ·rw[e,HE10.out ib l4 d6,HS.out.idx] at hcur;cases hcur
     ·rw[e,HE10.out gb l1 d1,HS.out.grp] at hcur;cases hcur
     ·have h3:=HS.out.num;unfold y3 at h3;rw[e,HE10.out nb l2 d5,h3] at hcur;cases hcur
   ·intro m hm
    rcases xEp.1 hm with rfl | hm
    ·have h1:=HI9.out
     refine(h1.mono (B':=B) HBB.out).block fun k hk=>?_
     obtain⟨cur,h2⟩:=h1.typed hk
     have h3:w10.heap[k]?=w9.heap[k]?:=HGROW.out.block k (h1.lt hk).2 (fun e=>by
      have h4:=(h1.lt hk).1
      have h5:=(World.ownsRow.lt HS.out.lines.row k e.symm).2
      omega)
     rw[hid (h3.trans h2),h3]
    ·have h1:=HS.out.lines.refs m hm
     refine h1.block fun k hk=>?_
     obtain⟨cur,h2⟩:=h1.typed hk
     have h3:w10.heap[k]?=w5.heap[k]?:=HE10.out k (h1.lt hk).2 (fun e=>by
      obtain⟨c3,h4⟩:=yO HS.out.lines.row e
      rw[h4] at h2;cases h2)
     rw[hid (h3.trans h2),h3]
   ·rcases HAT.out with h1 | h1
    ·exact .inl h1
    ·exact .inr ⟨_,h1,HB9.out.size⟩
   ·refine⟨?_,?_,?_,?_,fun k hk hn=>?_⟩
    ·exact ho13.1.trans (HO12.out.1.trans (HO11.out.1.trans (HGROW.out.os.trans HB9.out.os)))
    ·exact ho13.2.1.trans (HO12.out.2.1.trans (HO11.out.2.1.trans (HGROW.out.tape.trans HB9.out.tape)))
    ·exact ho13.2.2.trans (HO12.out.2.2.trans (HO11.out.2.2.trans (HGROW.out.output.trans HB9.out.output)))
    ·have h1:=HS12.out
     have h2:=HS11.out
     have h3:=HGROW.out.size
     have h4:=HB9.out.size
     omega
    ·simp only[List.mem_cons,List.mem_append,List.mem_nil_iff,or_false,Option.mem_toList,not_or] at hn
     exact(eAll k hn.1 hn.2.1.1 hn.2.1.2).trans (HE10.out k hk hn.2.2)
  clear hw13 hI13 e13 hs13 ho13 eAll hci hfi
  go_ret
  exact⟨by rw[HA.out];try rfl,.inr ⟨HA.out,HEND.out _ _ v (fun k hk=>Nat.le_trans HWS.out (HI9.out.lt hk).1) h24⟩⟩
 | none =>
  rw[hgo] at hlk
  simp only[Option.map_none,Option.getD_none] at hlk
  have hms:xD gs s=[]:=by unfold xD;rw[hgo]
  have hMl:=hX5.map.lt
  have hIl:=(i_ hX5.blk).1
  have hMw:=HX.out.map.lt
  have hIw:=(i_ HX.out.blk).1
  have hib:ib≠M:=(uE.1 HX.out.apart).1
  have hmm:=@run_makeMap Tryz.prog
  obtain⟨W,hW⟩:∃ W,W=(w5.alloc (.map #[] 0)).alloc (.cells #[.slice none 0 0,.map (some w5.heap.size)] 198):=⟨_,rfl⟩
  have hWM:y3 ekS W M (gs.map MG.e) mc:=by
   unfold y3
   rw[hW,heap_alloc_old _ _ (by simp;omega),heap_alloc_old _ _ hMl]
   exact hX5.map
  have hfk:yM s (gs.map MG.e) 0=none:=xCl fun e he=>by
   obtain⟨G,hG,rfl⟩:=List.mem_map.1 he
   exact jl hgo G hG
  obtain⟨arr,harr⟩:∃ arr:Value→Array MapEntry,∀ v,arr v=((gs.map MG.e++[(⟨s,v,mc⟩:KE ByteArray)]).map (enE ekS)).toArray:=⟨_,fun _=>rfl⟩
  have hup:∀ v,(Instr.mapUpdate 191 (.map (some M)) (.string s) v).run Tryz.prog ((w5.alloc (.map #[] 0)).alloc (.cells #[.slice none 0 0,.map (some w5.heap.size)] 198))=.ok () (((w5.alloc (.map #[] 0)).alloc (.cells #[.slice none 0 0,.map (some w5.heap.size)] 198)).putObj M (.map (arr v) (mc+1))):=fun v=>by
   rw[←hW,harr]
   exact xD4 keyS Tryz.underlying191 W M (gs.map MG.e) mc hWM s v hfk
  have hc6:((w5.alloc (.map #[] 0)).alloc (.cells #[.slice none 0 0,.map (some w5.heap.size)] 198)).cell? ⟨ib,0,none⟩=some (.map (some M)):=Lib.cell?_alloc_some _ (Lib.cell?_alloc_some _ hc0)
  have HX5:=h_ hX5
  have HWM:=h_ hWM
  have HARR:=h_ harr
  clear hX5 hWM harr
  go_upto_region 21 with (fail)
  obtain⟨gb,hgb⟩:∃ gb,gb=w5.heap.size+1:=⟨_,rfl⟩
  obtain⟨nb,hnb⟩:∃ nb,nb=w5.heap.size:=⟨_,rfl⟩
  obtain⟨w6,hw6⟩:∃ w6,w6=((w5.alloc (.map #[] 0)).alloc (.cells #[.slice none 0 0,.map (some w5.heap.size)] 198)).putObj M (.map (arr (.pointer (some ⟨w5.heap.size+1,0,none⟩))) (mc+1)):=⟨_,rfl⟩
  have hs6:w6.heap.size=w5.heap.size+2:=by rw[hw6];simp[World.putObj]
  have blk6:∀ k,k<w5.heap.size→k≠M→w6.heap[k]?=w5.heap[k]?:=fun k hk hkM=>by
   rw[hw6,World.putObj_heap_other hkM,heap_alloc_old _ _ (by simp;omega),heap_alloc_old _ _ hk]
  have hM6:y3 ekS w6 M (gs.map MG.e++[⟨s,.pointer (some ⟨gb,0,none⟩),mc⟩]) (mc+1):=by
   rw[hw6,hgb,←hW,HARR.out]
   exact HWM.out.put
  have hg6:w6.heap[gb]?=some (.cells #[.slice none 0 0,.map (some nb)] 198 (0,0)):=by
   rw[hw6,World.putObj_heap_other (by omega),hgb,hnb]
   have:=heap_alloc_new (w5.alloc (.map #[] 0)) (.cells #[.slice none 0 0,.map (some w5.heap.size)] 198)
   simpa using this
  have hn6:y3 ekI w6 nb [] 0:=by
   unfold y3
   rw[hw6,World.putObj_heap_other (by omega),heap_alloc_old _ _ (by simp;omega),hnb,heap_alloc_new]
   rfl
  have hk6:Kept [M] w w6:=by
   have h1:=HB5.out
   refine⟨?_,?_,?_,by have:=h1.size;omega,fun k hk hkM=>(blk6 k (by have:=h1.size;omega) (by simpa using hkM)).trans (h1.block k hk)⟩
   ·rw[hw6];exact h1.os
   ·rw[hw6];exact h1.tape
   ·rw[hw6];exact h1.output
  have HS:Hid (S21 B ib gb nb w.heap.size (xS gs) M (.slice none 0 0) [] [] 0 g p.ids w6):=h_ {
   grp:=hg6
   num:=hn6
   lines:=⟨World.ownsRow_nil _ _ _ _,fun m hm=>by cases hm⟩
   line:=(blk6 _ hs5 (by omega)).trans HL5.out
   idx:=(blk6 _ hIl hib).trans HX5.out.blk
   vlb:=by simp[Value.ownBlock]
   refs:=(HI.out.below HB5.out).block fun k hk=>by
    have h1:=HI.out.below HB5.out
    obtain⟨cur,h2⟩:=h1.typed hk
    refine blk6 k (h1.lt hk).2 ?_
    rintro rfl
    have h3:=HX5.out.map
    unfold y3 at h3
    rw[h3] at h2
    cases h2 }
  have hsz:=HB5.out.size
  obtain⟨nl,hnlz⟩:∃ nl:List (KE Id32),nl=[]:=⟨_,rfl⟩
  have HWS:Hid (w.heap.size≤w6.heap.size):=h_ hk6.size
  have HEND:Hid (∀ w' v' v,(∀ k,v.ownBlock=some k→w.heap.size≤k)→S24 B ib gb nb (xS gs) M (.slice none 0 0) v' (qh [] pos ⟨p,v⟩) (nl++[⟨p.id,.int .i64 p.number,0⟩]) (0+1) w6 w'→∃ gs' mc',xLc B ib M gs s p w w' gs' mc'):=by
   rw[hnlz]
   exact h_ (fun w' v' v hv h24=>xVi (nb:=nb) HX.out hgo hv HNE.out HPE.out hfew hk6 hM6 (by omega) (by omega) (by omega) (by omega) (by omega) hib (by rw[←HGN.out,←HPOS.out];rw[HGN.out];exact h24))
  have HKEY:Hid (yM p.id [] 0=none):=h_ rfl
  have HPL:Hid (pos≤([]:List ML).length):=h_ (by
   have:=(ka (HX5.out.sorted s) g.number).2.1
   rw[yK,hms] at this
   rw[HPOS.out,hms];exact this)
  have HLEN:Hid (([]:List ML).length≤65536):=h_ (by simp)
  have HBB:Hid (B≤w6.heap.size):=h_ (by have:=(HX5.out.foot_lt ib (by simp[foot]));omega)
  rw[←hw6,←hgb,←hnb]
  clear hw6 hgb hnb hs6 blk6 hM6 hg6 hn6 hk6 hgo hlk hc0 hc1 hlim hlim2 hmn HL5 HB5 HX HX5 HN1 HN2 HVAL HPOS hs5 hsz hms hMl hIl hMw hIw hib hmm hW hfk hup hc6 HWM HARR
  clear W arr
  obtain⟨vL,hvL⟩:∃ v:Value,v=.slice none 0 0:=⟨_,rfl⟩
  rw[←hvL] at HS HEND
  clear hvL
  obtain⟨ms,hmsz⟩:∃ ms:List ML,ms=[]:=⟨_,rfl⟩
  rw[←hmsz] at HS HEND HPL HLEN
  clear hmsz
  rw[←hnlz] at HS HKEY
  clear hnlz
  obtain⟨nc,hncz⟩:∃ nc:Nat,nc=0:=⟨_,rfl⟩
  rw[←hncz] at HS HEND
  clear hncz
  obtain⟨vla,vln,vlc,hvl⟩:∃ a n c,vL=.slice a n c:=by
   rcases HS.out.lines.head with⟨e,_⟩ | ⟨_,cap,e,_⟩
   ·exact⟨_,_,_,e⟩
   ·exact⟨_,_,_,e⟩
  have HVL:=h_ hvl
  haveI:Nonempty (Cls gb w.heap.size vL g):=⟨⟨w6,HS.out.cls (Below.refl _ _)⟩⟩
  have q1:∀ z:Cls gb w.heap.size vL g,z.1.cell? ⟨gb,0,none⟩=some (.slice vla vln vlc):=fun z=>hvl ▸ z.2.1
  have q2:∀ z:Cls gb w.heap.size vL g,xq z.1 ⟨w.heap.size,0,none⟩ 38=true:=fun z=>z.2.2.rd.1
  have q3:∀ z:Cls gb w.heap.size vL g,xp z.1 ⟨w.heap.size,0,none⟩ 38=x9 g:=fun z=>z.2.2.rd.2
  clear hvl
  refine xw [0,1,2,3,4,5,6] [7,8,9,10,11,12] (fun w'=>∃ z:Cls gb w.heap.size vL g,w'=z.1) (by kernel_rfl) (by kernel_rfl) (by kernel_rfl) ⟨⟨_,HS.out.cls (Below.refl _ _).drew⟩,rfl⟩ ?_
  simp only[o_]
  repeat (go_big_quiet_step (fail))
  refine wpQuiet_nil ?_
  clear q1 q2 q3
  have hbd:Below w6.heap.size w6 w6.drew:=(Below.refl _ _).drew
  generalize w6.drew=w7 at hbd ⊢
  refine uw true rfl (by kernel_rfl) ?_
  go_wp2_with fail
  refine(xBn 0 g p.ids w7 (HS.out.refs.below hbd) (by have:=xD0 HPE.out;omega)).mono ?_
  rintro r w8 ⟨v,rfl,hI8,hb8⟩
  have hone:=hI8.one
  have hb8':Below w6.heap.size w6 w8:=hbd.trans (hb8.mono hbd.size)
  have hc8:=HS.out.cls hb8'
  obtain⟨g8,hg8⟩:∃ g8:yd,g8=ML.g ⟨p,v⟩:=⟨_,rfl⟩
  have hone8:jk g8:=by rw[hg8];exact hone
  rw[HGV.out v,←hg8]
  have HG8:=h_ hg8
  clear hg8
  have HI8:=h_ (hI8.mono hbd.size)
  obtain⟨i0,hi,hz0,hz1,hz2⟩:=info_parts Tryz.info_line
  go_wp2_with fail
  refine⟨fun _=>⟨⟨_,hc8⟩,rfl⟩,uw true rfl (by kernel_rfl) ?_⟩
  refine wpList_buildSlice rfl 173 49 1 _ rfl (x9 g8) i0 _ Tryz.underlying173 hi hz0 (by rw[hz1];decide) (by rw[hz1];decide) (by rw[hz1];simp only[List.map_toArray,List.map_cons,List.map_nil];refine xB1 _ _ 38 (xN _) ?_;rw[Array.size_map,Array.size_range]) ?_
  obtain⟨w9,hw9⟩:∃ w9,w9=w8.alloc (.cells (x9 g8) 49):=⟨_,rfl⟩
  have hb89:Below w8.heap.size w8 w9:=by rw[hw9];exact b_ _ _
  have hb9:Below w6.heap.size w6 w9:=hb8'.trans (hb89.mono hb8'.size)
  have hn9:w9.heap[w8.heap.size]?=some (.cells (x9 g8) 49 (0,0)):=by rw[hw9];exact heap_alloc_new _ _
  have hL9:=HS.out.lines.below hb9
  have hIns:Calls Tryz.prog 259 #[.slice vla vln vlc,.int .i64 pos,.slice (some ⟨w8.heap.size,0,none⟩) 1 1] w9 fun r w'=>∃ v',r=.returned v'∧w'.ownsRow B 49 38 v' (ms.length+1) ((yl ms).take (pos*38)++xK g8++(yl ms).drop (pos*38))∧w9.grownBy w' vL.ownBlock∧(v'.ownBlock=vL.ownBlock∨v'.ownBlock=some w9.heap.size):=by
   have:=xHv B vL ms.length pos w8.heap.size (yl ms) g8 w9 hone8 (xCk fun m hm=>(hL9.refs m hm).one) hL9.row (by have:=HBB.out;have:=hb9.size;omega) HLEN.out HPL.out hn9 (fun e=>by have:=(World.ownsRow.lt HS.out.lines.row _ e).2;have:=hb8'.size;omega)
   rw[HVL.out] at this ⊢
   exact this
  rw[←hw9]
  have HIns:=h_ hIns
  have HB9:=h_ hb9
  have HI9:=h_ (HI8.out.below hb89)
  have hc9:=HS.out.cls hb9
  clear hIns hb9 hb89 hw9 hL9 hn9 HI8 hI8 hb8 hb8' hc8 hbd
  go_wp2_with fail
  refine⟨fun _=>⟨⟨_,hc9⟩,rfl⟩,uw true rfl (by kernel_rfl) ?_⟩
  clear hc9
  go_wp2_with fail
  refine HIns.out.mono ?_
  rintro r w10 ⟨v',rfl,hown,hgrow,hat⟩
  have e10:∀ k,k<w6.heap.size→vL.ownBlock≠some k→w10.heap[k]?=w6.heap[k]?:=fun k hk hv=>(hgrow.block k (by have:=HB9.out.size;omega) (fun e=>hv e.symm)).trans (HB9.out.block k hk)
  obtain⟨d1,d2,d3,d4,d5,d6,d7,d8,d9⟩:=HS.out.apart
  obtain⟨l1,l2,l3,l4⟩:=HS.out.lts
  have hg10:=(e10 gb l1 d1).trans HS.out.grp
  have hc10:w10.cell? ⟨gb,0,none⟩=some vL∧y2 w10 w.heap.size g:=⟨cell_of_row w10 gb 0 _ _ _ hg10,(e10 _ l3 HS.out.vlb).trans HS.out.line⟩
  obtain⟨va,vc,hv'⟩:∃ va vc,v'=.slice (some ⟨va,0,none⟩) (ms.length+1) vc:=by
   rcases hown.2 with⟨_,h0⟩ | ⟨g',cap',_,e,_⟩
   ·omega
   ·exact⟨g',cap',e⟩
  go_wp2_with fail
  refine⟨fun _=>⟨⟨_,hc10⟩,rfl⟩,xG [10,11,12] _ _ (by kernel_rfl) ?_⟩
  simp only[o_]
  have hcg:=hc10.1
  rw[HVL.out] at hcg
  have hfg:=frozen_of_row w10 gb 0 _ _ hg10
  obtain⟨w11,hw11⟩:∃ w11,w11=w10.setCell ⟨gb,0,none⟩ v':=⟨_,rfl⟩
  have hg11:w11.heap[gb]?=some (.cells #[v',.map (some nb)] 198 (0,0)):=by rw[hw11];exact heap_setCell_same w10 gb 0 _ _ v' hg10
  have e11:∀ k,k≠gb→w11.heap[k]?=w10.heap[k]?:=fun k hk=>by rw[hw11];exact heap_setCell_other w10 ⟨gb,0,none⟩ k _ hk
  have hs11:w11.heap.size=w10.heap.size:=by rw[hw11];simp[World.setCell]
  have ho11:w11.os=w10.os∧w11.tape=w10.tape∧w11.output=w10.output:=by rw[hw11];exact⟨rfl,rfl,rfl⟩
  have HOWN:=h_ hown
  have HGROW:=h_ hgrow
  have HAT:=h_ hat
  have HE10:=h_ e10
  have HG11:=h_ hg11
  have HE11:=h_ e11
  have HO11:=h_ ho11
  have HC10:=h_ hc10
  have HV':=h_ hv'
  have HW11:=h_ hw11
  have HS11:=h_ hs11
  clear hown hgrow hat e10 hg11 e11 ho11 hg10 hc10 hw11 hs11
  subst hv'
  go_wp2
  refine NoPanic.normal ?_
  go_upto_region 22 with (fail)
  rw[←HW11.out]
  clear hcg hfg HW11 HIns
  have hL11:y2 w11 w.heap.size g:=(HE11.out _ d3).trans HC10.out.2
  have hN11:y3 ekI w11 nb nl nc:=((HE11.out _ d2).trans (HE10.out nb l2 d5)).trans HS.out.num
  have hL11s:=hL11.lt
  have q1:∀ z:xf w11,z.1.cell? ⟨gb,1,none⟩=some (.map (some nb)):=fun z=>z.cell (cell_of_row w11 gb 1 _ _ _ HG11.out)
  have q2:∀ z:xf w11,xq z.1 ⟨w.heap.size,1,none⟩ 32=true:=fun z=>(hL11.below z.2 hL11s).idAt.1
  have q3:∀ z:xf w11,xp z.1 ⟨w.heap.size,1,none⟩ 32=(xB p.id).toArray:=fun z=>(hL11.below z.2 hL11s).idAt.2.trans (by rw[HGI.out])
  have q4:∀ z:xf w11,z.1.cell? ⟨w.heap.size,0,none⟩=some (.int .i64 p.number):=fun z=>((hL11.below z.2 hL11s).cell 0).trans ((lc0 g).trans (by rw[HGN.out]))
  have HN11:=h_ hN11
  clear hN11 hL11 hL11s
  refine xw [0,1,2,3,4,5,6,7] [8] (fun w'=>∃ z:xf w11,w'=z.1) (by kernel_rfl) (by kernel_rfl) (by kernel_rfl) ⟨⟨_,(Below.refl _ _).drew⟩,rfl⟩ ?_
  simp only[o_]
  repeat (go_big_quiet_step (fail))
  refine wpQuiet_nil ?_
  clear q1 q2 q3 q4
  have hup:(Instr.mapUpdate 195 (.map (some nb)) (.agg (xB p.id).toArray) (.int .i64 p.number)).run Tryz.prog w11.drew=.ok () (w11.drew.putObj nb (.map ((nl++[(⟨p.id,.int .i64 p.number,nc⟩:KE Id32)]).map (enE ekI)).toArray (nc+1))) :=
   xD4 keyI Tryz.underlying195 w11.drew nb nl nc HN11.out p.id _ HKEY.out
  obtain⟨w12,hw12⟩:∃ w12,w12=w11.drew.putObj nb (.map ((nl++[(⟨p.id,.int .i64 p.number,nc⟩:KE Id32)]).map (enE ekI)).toArray (nc+1)):=⟨_,rfl⟩
  have e12:∀ k,k≠nb→w12.heap[k]?=w11.heap[k]?:=fun k hk=>by rw[hw12,World.putObj_heap_other hk];rfl
  have hs12:w12.heap.size=w11.heap.size:=by rw[hw12];simp only[World.putObj,Array.size_setIfInBounds];rfl
  have hN12:y3 ekI w12 nb (nl++[⟨p.id,.int .i64 p.number,nc⟩]) (nc+1):=by rw[hw12];exact y3.put (w:=w11.drew) HN11.out
  have ho12:w12.os=w11.os∧w12.tape=w11.tape∧w12.output=w11.output:=by rw[hw12];exact⟨rfl,rfl,rfl⟩
  rw[←hw12] at hup
  have HE12:=h_ e12
  have HS12:=h_ hs12
  have HN12:=h_ hN12
  have HO12:=h_ ho12
  have hI12:=(e12 ib d8).trans ((HE11.out ib d7).trans ((HE10.out ib l4 d6).trans HS.out.idx))
  have HI12:=h_ hI12
  clear hw12 e12 hs12 hN12 ho12 hI12
  refine xG [8] _ _ (by kernel_rfl) ?_
  simp only[o_]
  go_wp2
  refine NoPanic.normal ?_
  have hci:=cell_of_row w12 ib 1 _ _ _ HI12.out
  have hfi:=frozen_of_row w12 ib 1 _ _ HI12.out
  clear hup
  go_wp2
  obtain⟨w13,hw13⟩:∃ w13,w13=w12.setCell ⟨ib,1,none⟩ (.int .i64 ((xS gs:Int)+1)):=⟨_,rfl⟩
  have hI13:w13.heap[ib]?=some (.cells #[.map (some M),.int .i64 ((xS gs+1:Nat):Int)] 193 (0,0)):=by
   rw[hw13]
   have:=heap_setCell_same w12 ib 1 _ _ (.int .i64 ((xS gs:Int)+1)) HI12.out
   rw[this]
   rfl
  have e13:∀ k,k≠ib→w13.heap[k]?=w12.heap[k]?:=fun k hk=>by rw[hw13];exact heap_setCell_other w12 ⟨ib,1,none⟩ k _ hk
  have hs13:w13.heap.size=w12.heap.size:=by rw[hw13];simp[World.setCell]
  have ho13:w13.os=w12.os∧w13.tape=w12.tape∧w13.output=w12.output:=by rw[hw13];exact⟨rfl,rfl,rfl⟩
  rw[←hw13]
  have eAll:∀ k,k≠ib→k≠gb→k≠nb→w13.heap[k]?=w10.heap[k]?:=fun k k1 k2 k3=>(e13 k k1).trans ((HE12.out k k3).trans (HE11.out k k2))
  have h24:S24 B ib gb nb (xS gs) M vL (.slice (some ⟨va,0,none⟩) (ms.length+1) vc) (qh ms pos ⟨p,v⟩) (nl++[⟨p.id,.int .i64 p.number,nc⟩]) (nc+1) w6 w13:=by
   have hid:∀ {k:Nat} {cur:Array Value},w10.heap[k]?=some (Obj.cells cur 39 (0,0))→w13.heap[k]?=w10.heap[k]?:=fun {k cur} hk=>eAll k
    (fun e=>by rw[e,HE10.out ib l4 d6,HS.out.idx] at hk;cases hk) (fun e=>by rw[e,HE10.out gb l1 d1,HS.out.grp] at hk;cases hk)
    (fun e=>by have h1:=HS.out.num;unfold y3 at h1;rw[e,HE10.out nb l2 d5,h1] at hk;cases hk)
   refine⟨(e13 gb (fun e=>d7 e.symm)).trans ((HE12.out gb (fun e=>d2 e.symm)).trans HG11.out),(e13 nb (fun e=>d8 e.symm)).trans HN12.out,⟨?_,?_⟩,hI13,?_,?_⟩
   ·have h1:=HOWN.out
    rw[HG8.out,←xPm,←vx HPL.out] at h1
    have h2:(qh ms pos ⟨p,v⟩).length=ms.length+1:=vx HPL.out
    rw[←h2]
    rw[h2] at h1 ⊢
    refine⟨h1.1,?_⟩
    rcases h1.2 with h0 | ⟨g',cap',cur,e,hg,hcur,hx⟩
    ·exact .inl h0
    ·refine .inr ⟨g',cap',cur,e,hg,(eAll g' (fun e=>?_) (fun e=>?_) (fun e=>?_)).trans hcur,hx⟩
     ·rw[e,HE10.out ib l4 d6,HS.out.idx] at hcur;cases hcur
     ·rw[e,HE10.out gb l1 d1,HS.out.grp] at hcur;cases hcur
     ·have h3:=HS.out.num;unfold y3 at h3;rw[e,HE10.out nb l2 d5,h3] at hcur;cases hcur
   ·intro m hm
    rcases xEp.1 hm with rfl | hm
    ·have h1:=HI9.out
     refine(h1.mono (B':=B) HBB.out).block fun k hk=>?_
     obtain⟨cur,h2⟩:=h1.typed hk
     have h3:w10.heap[k]?=w9.heap[k]?:=HGROW.out.block k (h1.lt hk).2 (fun e=>by
      have h4:=(h1.lt hk).1
      have h5:=(World.ownsRow.lt HS.out.lines.row k e.symm).2
      omega)
     rw[hid (h3.trans h2),h3]
    ·have h1:=HS.out.lines.refs m hm
     refine h1.block fun k hk=>?_
     obtain⟨cur,h2⟩:=h1.typed hk
     have h3:w10.heap[k]?=w6.heap[k]?:=HE10.out k (h1.lt hk).2 (fun e=>by
      obtain⟨c3,h4⟩:=yO HS.out.lines.row e
      rw[h4] at h2;cases h2)
     rw[hid (h3.trans h2),h3]
   ·rcases HAT.out with h1 | h1
    ·exact .inl h1
    ·exact .inr ⟨_,h1,HB9.out.size⟩
   ·refine⟨?_,?_,?_,?_,fun k hk hn=>?_⟩
    ·exact ho13.1.trans (HO12.out.1.trans (HO11.out.1.trans (HGROW.out.os.trans HB9.out.os)))
    ·exact ho13.2.1.trans (HO12.out.2.1.trans (HO11.out.2.1.trans (HGROW.out.tape.trans HB9.out.tape)))
    ·exact ho13.2.2.trans (HO12.out.2.2.trans (HO11.out.2.2.trans (HGROW.out.output.trans HB9.out.output)))
    ·have h1:=HS12.out
     have h2:=HS11.out
     have h3:=HGROW.out.size
     have h4:=HB9.out.size
     omega
    ·simp only[List.mem_cons,List.mem_append,List.mem_nil_iff,or_false,Option.mem_toList,not_or] at hn
     exact(eAll k hn.1 hn.2.1.1 hn.2.1.2).trans (HE10.out k hk hn.2.2)
  clear hw13 hI13 e13 hs13 ho13 eAll hci hfi
  go_ret
  exact⟨by rw[HA.out];try rfl,.inr ⟨HA.out,HEND.out _ _ v (fun k hk=>Nat.le_trans HWS.out (HI9.out.lt hk).1) h24⟩⟩
end
theorem xTs (w:World):(zeroValue 49).run Tryz.prog w=.ok (.agg (x9 xH)) w:=by kernel_rfl
theorem xVo:(Builtin.zeroCells (x9 xH) 1).toList=xK xH:=by kernel_rfl
theorem xJ6 (z:Value)(cs:List Value)(hv:∀ w,(zeroValue 49).run Tryz.prog w=.ok z w)(hz:(Builtin.zeroCells z.cells 1).toList=cs)(hl:cs.length=38)(h1:∀ u∈cs,u.oneCell'=true)(w:World)(ty:TypeId)(g o c:Nat)(cur:Array Value)(t:TypeId)(hg:w.heap[g]?=some (.cells cur t (0,0)))(hfit:o+38≤cur.size) :
  (Builtin.clear_ #[173] ty #[.slice (some ⟨g,o,none⟩) 1 c]).run Tryz.prog w=.ok (.tuple #[]) (w.setRow g (cur.toList.take o++cs++cur.toList.drop (o+38)).toArray):=by
 have hst:=run_storeCells_at Tryz.prog g o t cs 0 cur w hg (by rw[hl];simpa using hfit) h1
 rw[hl] at hst
 simp only[Nat.add_zero] at hst
 simp[Builtin.clear_,run_underlying Tryz.underlying173,hv,hz,hst]
theorem xGv (w:World)(ty:TypeId)(g o c:Nat)(cur:Array Value)(t:TypeId)(hg:w.heap[g]?=some (.cells cur t (0,0)))(hfit:o+38≤cur.size) :
  (Builtin.clear_ #[173] ty #[.slice (some ⟨g,o,none⟩) 1 c]).run Tryz.prog w=.ok (.tuple #[]) (w.setRow g (cur.toList.take o++xK xH++cur.toList.drop (o+38)).toArray) :=
 xJ6 (.agg (x9 xH)) (xK xH) xTs xVo (yw _) (uI rfl) w ty g o c cur t hg hfit
theorem ko {P:Program}(w:World){ops:Array Oper}{rest:List Oper}{o:Oper}{a:Act}{Q:Exit→Act→World→Prop}(hgd:o.guard=none)(x:Operand)(t:TypeId)
  (ho:o.op=.call { callee:=.builtin .clear,args:=#[x],argTypes:=#[t] }) (v:Value) (hx:a.eval x=v) {v':Value} {w':World}
  (hr:(Builtin.clear_ #[t] o.type #[v]).run P w=.ok v' w') (h:wpList P ops Q rest (a.put o.dst v') w'):wpList P ops Q (o :: rest) a w:=by
 refine wpList_plain hgd fun K hK=>?_
 unfold Oper.wp execOp
 simp only[ho,resolve,invoke,builtin,Sem.run_bind,Sem.run_pure,Result.andThen_ok,List.map_toArray,List.map_cons,List.map_nil,hx,hr]
 exact hK _ _ h
theorem xSd (B:Nat)(g cap n i:Nat)(xs:List Value)(w:World)(hxs:∀ u∈xs,u.oneCell'=true)(hown:w.ownsRow B 49 38 (.slice (some ⟨g,0,none⟩) n cap) n xs)(hn:n≤65536)(hi:i<n) :
  Calls Tryz.prog 360 #[.slice (some ⟨g,0,none⟩) n cap,.int .i64 i,.int .i64 ((i:Int)+1)] w fun r w'=>r=.returned (.slice (some ⟨g,0,none⟩) (n-1) cap)∧w'.ownsRow B 49 38 (.slice (some ⟨g,0,none⟩) (n-1) cap) (n-1) (xs.take (i*38)++xs.drop ((i+1)*38))∧w.grownBy w' (some g):=by
 obtain⟨i0,hi0,hz0,hz1,hz2⟩:=info_parts Tryz.info_line
 rcases hown.2 with⟨e,_⟩ | ⟨g',cap',cur,e,hBg,hcur,hle,hmx,hcs,htk⟩
 ·cases e
 cases e
 have hxl:=hown.1
 unfold maxLen at hmx
 have hk:n*38≤cap*38:=Nat.mul_le_mul_right _ hle
 obtain⟨news,hnews⟩:∃ news,news=xs.drop ((i+1)*38):=⟨_,rfl⟩
 have hnl:news.length=(n-(i+1))*38:=by rw[hnews,List.length_drop,hxl];omega
 have hn1:∀ u∈news,u.oneCell'=true:=fun u hu=>hxs u (List.mem_of_mem_drop (hnews ▸ hu))
 obtain⟨A,hA,hsrc⟩:∃ A:Addr,(if cap=i+1 then (⟨g,0,none⟩:Addr) else ⟨g,(i+1)*38,none⟩)=A∧∀ t u,news[t]?=some u→w.drew.cell? (A.add t)=some u:=by
  by_cases h:cap=i+1
  ·refine⟨⟨g,0,none⟩,by simp[h],fun t u hu=>?_⟩
   have h0:news.length=0:=by rw[hnl];omega
   rw[List.length_eq_zero_iff.1 h0] at hu
   simp at hu
  ·refine⟨⟨g,(i+1)*38,none⟩,by simp[h],fun t u hu=>?_⟩
   rw[hnews,List.getElem?_drop] at hu
   have h2:=World.ownsRow.cells hown (g:=g) rfl ((i+1)*38+t) u hu
   rw[Addr.add_lit,Nat.zero_add] at h2
   rw[Addr.add_lit,World.cell?_drew]
   exact h2
 obtain⟨R1,hR1⟩:∃ R1:List Value,R1=cur.toList.take (i*38)++news++cur.toList.drop (i*38+news.length):=⟨_,rfl⟩
 have hR1l:R1.length=cap*38:=by
  rw[hR1]
  simp only[List.length_append,List.length_take,List.length_drop,Array.length_toList,hcs,hnl]
  omega
 obtain⟨W1,hW1⟩:∃ W1,W1=w.drew.setRow g R1.toArray:=⟨_,rfl⟩
 obtain⟨m,hm⟩:∃ m,m=n-1:=⟨_,rfl⟩
 have hap:∀ ty sc,(Builtin.append_ #[173,173] ty #[.slice (some ⟨g,0,none⟩) i cap,.slice (some A) (n-(i+1)) sc]).run Tryz.prog w.drew=.ok (.slice (some ⟨g,0,none⟩) m cap) W1:=fun ty sc=>by
  have h:=run_append_room (P:=Tryz.prog) w.drew 173 ty 49 i0 Tryz.underlying173 hi0 g i cap cur hcur A (n-(i+1)) sc news (by rw[hz1];exact hnl) hsrc hn1 (by omega) (by rw[hz1,hnl,hcs];omega)
  rw[h,hW1,hR1,hz1,hm,show i+(n-(i+1))=n-1 by omega]
 have hr1:W1.heap[g]?=some (.cells R1.toArray 49 (0,0)):=by rw[hW1];exact setRow_heap w.drew g _ _ _ _ hcur
 have hg1:w.grownBy W1 (some g):=by rw[hW1];exact jY (b:=w.drew) ⟨rfl,rfl,rfl,Nat.le_refl _,fun _ _ _=>rfl⟩ (zO w.drew g _)
 obtain⟨W2,hW2⟩:∃ W2,W2=W1.setRow g (R1.take ((n-1)*38)++xK xH++R1.drop ((n-1)*38+38)).toArray:=⟨_,rfl⟩
 have hcl:∀ ty sc,(Builtin.clear_ #[173] ty #[.slice (some ⟨g,(n-1)*38,none⟩) 1 sc]).run Tryz.prog W1=.ok (.tuple #[]) W2:=fun ty sc=>by
  rw[xGv W1 ty g ((n-1)*38) sc _ _ hr1 (by rw[List.size_toArray,hR1l];omega),hW2]
 have hr2:W2.heap[g]?=some (.cells (R1.take ((n-1)*38)++xK xH++R1.drop ((n-1)*38+38)).toArray 49 (0,0)):=by rw[hW2];exact setRow_heap W1 g _ _ _ _ hr1
 have hg2:w.grownBy W2 (some g):=by rw[hW2];exact jY hg1 (zO W1 g _)
 have hR1t:R1.take ((n-1)*38)=xs.take (i*38)++xs.drop ((i+1)*38):=by
  have h1:(cur.toList.take (i*38)).length=i*38:=by rw[List.length_take,Array.length_toList,hcs];omega
  have h2:xs.take (i*38)=cur.toList.take (i*38):=by rw[←htk,List.take_take,Nat.min_eq_left (by omega)]
  have h3:(cur.toList.take (i*38)++news).length=(n-1)*38:=by rw[List.length_append,h1,hnl];omega
  rw[hR1,List.take_append_of_le_length (by rw[h3];exact Nat.le_refl _),List.take_of_length_le (by rw[h3];exact Nat.le_refl _),h2,hnews]
 have hfin:W2.ownsRow B 49 38 (.slice (some ⟨g,0,none⟩) (n-1) cap) (n-1) (xs.take (i*38)++xs.drop ((i+1)*38)):=by
  refine⟨by rw[←hR1t,List.length_take,hR1l];omega,.inr ⟨g,cap,_,rfl,hBg,hr2,by omega,by unfold maxLen;omega,?_,?_⟩⟩
  ·simp only[List.size_toArray,List.length_append,List.length_take,List.length_drop,yw,hR1l];omega
  ·have h4:(R1.take ((n-1)*38)).length=(n-1)*38:=by rw[List.length_take,hR1l];omega
   simp only[List.append_assoc]
   rw[List.take_append_of_le_length (by rw[h4];exact Nat.le_refl _),List.take_of_length_le (by rw[h4];exact Nat.le_refl _),hR1t]
 have HF:=h_ hfin
 have HG:=h_ hg2
 have hcl':∀ ty sc,(Builtin.clear_ #[173] ty #[.slice (some ⟨g,m*38,none⟩) (n-m) sc]).run Tryz.prog W1=.ok (.tuple #[]) W2:=fun ty sc=>by
  rw[show n-m=1 by omega,hm]
  exact hcl ty sc
 rw[←hm] at HF ⊢
 have hmz:(m:Int)≤(n:Int):=by omega
 have hmn:m≤n:=by omega
 have hcm:¬ cap=m:=by omega
 clear hm
 have h1:(i:Int)≤(i:Int)+1:=by omega
 have h2:(i:Int)+1≤(n:Int):=by omega
 have h3:(n:Int)≤(cap:Int):=by omega
 have h4:((i:Int) == (i:Int)+1)=false:=by rw[beq_eq_false_iff_ne];omega
 clear hfin hg2 hr2 hW2 hg1 hr1 hW1 hR1l hR1 hR1t hsrc hn1 hnl hnews hown hxs hxl hcs hcur htk hz0 hz1 hz2 hi0 hk hcl
 go_enter Tryz.func360,Tryz.ntmps360
 go_wp2_with fail
 refine xw [0,1,2,3,4,5] [6,7] (fun w'=>∃ z:xf w,w'=z.1) (by kernel_rfl) (by kernel_rfl) (by kernel_rfl) ⟨⟨_,(Below.refl _ _).drew⟩,rfl⟩ ?_
 simp only[o_]
 by_cases hcj:cap=i+1
 ·rw[if_pos hcj] at hA
  subst hA
  subst hcj
  have hap0:=fun ty=>hap ty 0
  rw[show n-(i+1)=0 by omega] at hap0
  clear hap
  repeat (go_big_quiet_step (fail))
  refine wpQuiet_nil ?_
  refine xG [6,7] _ _ (by kernel_rfl) ?_
  simp only[o_]
  go_wp2_with (at_builtin;refine Lib.wpList_append_run _ rfl _ _ _ _ rfl _ _ rfl rfl _ _ (hap0 _) ?_)
  refine NoPanic.normal ?_
  go_wp2_with (at_builtin;refine ko _ rfl (.tmp 31) 173 rfl _ rfl (hcl' _ _) ?_)
  go_ret
  exact⟨rfl,HF.out,HG.out⟩
 ·rw[if_neg hcj] at hA
  subst hA
  have hci:¬ cap=i:=by omega
  repeat (go_big_quiet_step (fail))
  refine wpQuiet_nil ?_
  refine xG [6,7] _ _ (by kernel_rfl) ?_
  simp only[o_]
  go_wp2_with (at_builtin;refine Lib.wpList_append_run _ rfl _ _ _ _ rfl _ _ rfl rfl _ _ (hap _ _) ?_)
  refine NoPanic.normal ?_
  go_wp2_with (at_builtin;refine ko _ rfl (.tmp 31) 173 rfl _ rfl (hcl' _ _) ?_)
  go_ret
  exact⟨rfl,HF.out,HG.out⟩
theorem xCg {α:Type}:∀ {l:List α} {i:Nat} {x:α},l[i]?=some x→l.Perm (x :: l.eraseIdx i)
 | a :: l,0,x,h=>by cases h;exact .refl _
 | a :: l,i+1,x,h=>by
  rw[List.eraseIdx_cons_succ]
  exact((xCg (l:=l) (i:=i) (by simpa using h)).cons a).trans (List.Perm.swap x a _)
theorem xKm {α:Type}{l:List α}{i:Nat}{x:α}(h:x∈l.eraseIdx i):x∈l:=List.mem_of_mem_eraseIdx h
theorem xS4 (ms:List ML)(i:Nat):yl (ms.eraseIdx i)=(yl ms).take (i*38)++(yl ms).drop ((i+1)*38):=by
 rw[xKv,xKw,←vZ,List.eraseIdx_eq_take_drop_succ]
theorem vS.del {ms:List ML}{nl:List (KE Id32)}(h:vS ms nl){i j b:Nat}{m:ML}(hi:ms[i]?=some m)(hj:nl[j]?=some ⟨m.p.id,.int .i64 m.p.number,b⟩):vS (ms.eraseIdx i) (nl.eraseIdx j) where
 agree:=by
  have h1:=(xCg hj).map fun e=>(e.k,e.v)
  have h2:=(xCg hi).map fun m=>(m.p.id,Value.int .i64 m.p.number)
  rw[List.map_cons] at h1 h2
  exact(h1.symm.trans (h.agree.trans h2)).cons_inv
 ids:=h.ids.sublist ((List.eraseIdx_sublist ms i).map _)
 sorted:=h.sorted.sublist ((List.eraseIdx_sublist ms i).map _)
 good x hx:=h.good x (xKm hx)
def uX (gs:List MG)(s:ByteArray):List MG:=gs.filter fun H=>decide (H.name≠s)
theorem xJb (gs:List MG)(s t:ByteArray):xD (uX gs s) t=if t=s then [] else xD gs t:=by
 unfold xD yk uX
 rw[List.find?_filter]
 by_cases h:t=s
 ·rw[if_pos h]
  have:gs.find? (fun a=>decide (decide (a.name≠s)=true∧decide (a.name=t)=true))=none:=by
   rw[List.find?_eq_none]
   intro G _ hG
   simp at hG
   exact hG.1 (hG.2.trans h)
  rw[this]
 ·rw[if_neg h]
  have:(fun a:MG=>decide (decide (a.name≠s)=true∧decide (a.name=t)=true))=fun a=>decide (a.name=t):=by
   funext a
   by_cases ha:a.name=t
   ·have:a.name≠s:=fun e=>h (ha.symm.trans e)
    simp[ha,h]
   ·simp[ha]
  rw[this]
theorem xTj (s:ByteArray):∀ {gs:List MG} {G:MG} (i:Nat),yk gs s=some G→(gs.map fun G=>G.name).Nodup→∃ j,yM s (gs.map MG.e) i=some (i+j,.pointer (some ⟨G.gb,0,none⟩))∧j<gs.length∧(gs.map MG.e).eraseIdx j=(uX gs s).map MG.e
 | H :: gs,G,i,hg,hn=>by
  unfold yk at hg
  rw[List.find?_cons] at hg
  rw[List.map_cons,List.nodup_cons] at hn
  rw[List.map_cons]
  unfold yM
  by_cases h:H.name=s
  ·rw[decide_eq_true h] at hg
   cases hg
   have h2:s=H.e.k:=h.symm
   refine⟨0,by rw[if_pos h2];rfl,by simp,?_⟩
   have:uX (H :: gs) s=gs:=by
    unfold uX
    rw[List.filter_cons_of_neg (by simpa using h),List.filter_eq_self.2]
    intro K hK
    have:K.name≠s:=fun e=>hn.1 (h ▸ e ▸ List.mem_map.2 ⟨K,hK,rfl⟩)
    simpa using this
   rw[this]
   rfl
  ·rw[decide_eq_false h] at hg
   have h2:¬ s=H.e.k:=fun e=>h e.symm
   obtain⟨j,h3,h4,h5⟩:=xTj s (i+1) hg hn.2
   refine⟨j+1,by rw[if_neg h2,h3];congr 2;omega,by simpa using h4,?_⟩
   have:uX (H :: gs) s=H :: uX gs s:=by
    unfold uX
    rw[List.filter_cons_of_pos (by simpa using h)]
   rw[this,List.eraseIdx_cons_succ,h5]
   rfl
theorem xAf:∀ {gs:List MG} {s:ByteArray} {G:MG},(gs.map fun G=>G.name).Nodup→yk gs s=some G→xS (uX gs s)+G.ms.length=xS gs
 | H :: gs,s,G,hn,hg=>by
  unfold yk at hg
  rw[List.find?_cons] at hg
  rw[List.map_cons,List.nodup_cons] at hn
  by_cases h:H.name=s
  ·rw[decide_eq_true h] at hg
   cases hg
   have:uX (H :: gs) s=gs:=by
    unfold uX
    rw[List.filter_cons_of_neg (by simpa using h),List.filter_eq_self.2]
    intro K hK
    have:K.name≠s:=fun e=>hn.1 (h ▸ e ▸ List.mem_map.2 ⟨K,hK,rfl⟩)
    simpa using this
   rw[this]
   unfold xS
   rw[List.map_cons,List.sum_cons]
   omega
  ·rw[decide_eq_false h] at hg
   have ih:=xAf hn.2 hg
   have:uX (H :: gs) s=H :: uX gs s:=by
    unfold uX
    rw[List.filter_cons_of_pos (by simpa using h)]
   rw[this]
   unfold xS at *
   rw[List.map_cons,List.sum_cons,List.map_cons,List.sum_cons]
   omega
theorem ye.cut {B:Nat}{w w':World}{ib M mc:Nat}{gs:List MG}(h:ye B w ib M gs mc){s:ByteArray}{G:MG}(hG:yk gs s=some G)
  (hib:w'.heap[ib]?=some (.cells #[.map (some M),.int .i64 (xS (uX gs s))] 193 (0,0))) (hM:y3 ekS w' M ((uX gs s).map MG.e) mc)
  (hk:Kept (ib :: M :: G.foot) w w'):ye B w' ib M (uX gs s) mc∧xCq (foot ib M gs) (foot ib M (uX gs s)) w:=by
 obtain⟨hGm,hGs⟩:=yL hG
 obtain⟨a1,a2,a3⟩:=uE.1 h.apart
 have hsub:(uX gs s).Sublist gs:=List.filter_sublist
 have hmem:∀ H∈uX gs s,H∈gs∧H.name≠s:=fun H hH=>by
  unfold uX at hH
  rw[List.mem_filter] at hH
  exact⟨hH.1,by simpa using hH.2⟩
 have hap:∀ H∈gs,H.name≠s→∀ x∈H.foot,x ∉ G.foot:=by
  intro H hH hHs x hx hxG
  have hpw:∀ {l:List MG},l.Pairwise (fun G H=>∀ x∈G.foot,∀ y∈H.foot,x≠y)→∀ A∈l,∀ C∈l,A.name≠C.name→∀ x∈A.foot,x ∉ C.foot:=by
   intro l hl
   induction l with
   | nil=>intro A hA;cases hA
   | cons D l ih =>
    rw[List.pairwise_cons] at hl
    intro A hA C hC hne x hxA hxC
    rcases List.mem_cons.1 hA with hA' | hA'
    ·rcases List.mem_cons.1 hC with hC' | hC'
     ·exact hne (by rw[hA',hC'])
     ·exact hl.1 C hC' x (hA' ▸ hxA) x hxC rfl
    ·rcases List.mem_cons.1 hC with hC' | hC'
     ·exact hl.1 A hA' x (hC' ▸ hxC) x hxA rfl
     ·exact ih hl.2 A hA' C hC' hne x hxA hxC
  exact hpw a3 H hH G hGm (by rw[hGs];exact hHs) x hx hxG
 refine⟨{ blk:=hib,map:=hM,names:=h.names.sublist (hsub.map _),grps:=?_,apart:=?_,born:=h.born.sublist (hsub.map _),young:=fun H hH=>h.young H (hmem H hH).1,few:=?_,ibB:=h.ibB,MB:=h.MB },?_⟩
 ·intro H hH
  obtain⟨hH,hHs⟩:=hmem H hH
  refine(h.grps H hH).keep (fun k hkf=>hk.block k ((h.grps H hH).foot_lt k hkf).2 ?_) (fun m hm k hkm=>?_)
  ·rw[List.mem_cons,List.mem_cons,not_or,not_or]
   exact⟨fun e=>(a2 H hH).1 (e ▸ hkf),fun e=>(a2 H hH).2.1 (e ▸ hkf),hap H hH hHs k hkf⟩
  ·obtain⟨g1,g2⟩:=h.refs_out hH hm hkm
   refine hk.block k g1 fun hx=>g2 ?_
   unfold foot
   rw[List.mem_cons,List.mem_cons] at hx ⊢
   rcases hx with hx | hx | hx
   ·exact .inl hx
   ·exact .inr (.inl hx)
   ·exact .inr (.inr (List.mem_flatMap.2 ⟨G,hGm,hx⟩))
 ·rw[uE]
  exact⟨a1,fun H hH=>a2 H (hmem H hH).1,a3.sublist hsub⟩
 ·have:=xAf h.names hG
  have:=h.few
  omega
 ·intro k hk'
  left
  unfold foot at hk' ⊢
  simp only[List.mem_cons,List.mem_flatMap] at hk' ⊢
  rcases hk' with rfl | rfl | ⟨H,hH,hk'⟩
  ·exact .inl rfl
  ·exact .inr (.inl rfl)
  ·exact .inr (.inr ⟨H,(hmem H hH).1,hk'⟩)
section
attribute [local go_sem ↓] xV xO yp yh yq yB
attribute [local go_sem] zx zA zG zF yW xj xh xe xd xA xz xo xl xt xC xx
theorem xUm {w:World}{g off:Nat}{l:yd}(h:∀ i u,(xK l)[i]?=some u→w.cell? ⟨g,off+i,none⟩=some u):xq w ⟨g,off+1,none⟩ 32=true∧xp w ⟨g,off+1,none⟩ 32=(xB l.id).toArray:=by
 have:=y7 (w:=w) (a:=⟨g,off+1,none⟩) (cs:=xB l.id) (fun j v hj=>by
  have hj32:j<32:=by have:=(List.getElem?_eq_some_iff.1 hj).1;rwa [xF] at this
  rw[Addr.add_lit,show off+1+j=off+(j+1) by omega]
  refine h (j+1) v ?_
  simp only[xK]
  rw[List.getElem?_cons_succ,List.getElem?_append_left (by rw[xF];exact hj32),hj])
 rwa [xF] at this
theorem qW {P:Program}(w:World){ops:Array Oper}{rest:List Oper}{o:Oper}{a:Act}{Q:Exit→Act→World→Prop}(hgd:o.guard=none)(x y:Operand)(t t':TypeId)
  (ho:o.op=.call { callee:=.builtin .delete,args:=#[x,y],argTypes:=#[t,t'] }) (v u:Value) (hx:a.eval x=v) (hy:a.eval y=u) {v':Value} {w':World}
  (hr:(Builtin.delete_ #[t,t'] o.type #[v,u]).run P w=.ok v' w') (h:wpList P ops Q rest (a.put o.dst v') w'):wpList P ops Q (o :: rest) a w:=by
 refine wpList_plain hgd fun K hK=>?_
 unfold Oper.wp execOp
 simp only[ho,resolve,invoke,builtin,Sem.run_bind,Sem.run_pure,Result.andThen_ok,List.map_toArray,List.map_cons,List.map_nil,hx,hy,hr]
 exact hK _ _ h
structure xZx (B ib M:Nat)(gs:List MG)(s:ByteArray)(i:Nat)(w w':World)(gs':List MG)(mc':Nat):Prop where
 idx:ye B w' ib M gs' mc'
 kept:Kept (foot ib M gs) w w'
 foot:xCq (Go.Proofs.YthiafifdiaplaaaGreatDoor.foot ib M gs) (Go.Proofs.YthiafifdiaplaaaGreatDoor.foot ib M gs') w
 lines:∀ t,xD gs' t=if t=s then (xD gs s).eraseIdx i else xD gs t
 tot:xS gs'+1=xS gs
def xIs (B ib M:Nat)(gs:List MG)(s:ByteArray)(n:Int)(w:World)(r:Ending)(w':World):Prop :=
 (uB (xD gs s) n=false∧r=.returned (.int .i64 8)∧Below w.heap.size w w')∨(∃ i m,(xD gs s)[i]?=some m∧m.p.number=n∧r=.returned (.int .i64 0)∧∃ gs' mc',xZx B ib M gs s i w w' gs' mc')
theorem xRe (B ib M mc:Nat)(gs:List MG)(s:ByteArray)(n:Int)(w:World)(h:ye B w ib M gs mc) :
  Calls Tryz.prog 357 #[.pointer (some ⟨ib,0,none⟩),.string s,.int .i64 n] w fun r w'=>xIs B ib M gs s n w r w':=by
 have HX:=h_ h
 have HL:=h_ (vX B ib M mc gs s w h)
 have HS:=h_ (xK7 B (qX gs s) (xD gs s) n w (h.lines s) (h.len s) (h.sorted s))
 obtain⟨va,vc,hval⟩:=vJ h s
 have HVAL:=h_ hval
 rw[hval] at HL HS
 clear hval h
 cases hhas:uB (xD gs s) n with
 | false =>
  rw[hhas] at HS
  have HH:=h_ hhas
  clear hhas
  generalize (xD gs s).length=len at HL HS HVAL
  generalize posN (nums (xD gs s)) n=pos at HS
  go_enter Tryz.func357,Tryz.ntmps357
  go_wp2_with fail
  refine HL.out.mono ?_
  rintro r w' ⟨rfl,rfl⟩
  go_wp2_with fail
  refine HS.out.mono ?_
  rintro r w1 ⟨rfl,hb1⟩
  have HB1:=h_ hb1
  clear hb1 HS HL
  go_wp2
  go_ret
  exact .inl ⟨HH.out,rfl,HB1.out⟩
 | true =>
  have HH:=h_ hhas
  rw[hhas] at HS
  have h:=HX.out
  have hne:xD gs s≠[]:=fun e=>by rw[e] at hhas;cases hhas
  obtain⟨G,hG,hms,hGv⟩:=jz hne
  obtain⟨hGm,hGs⟩:=yL hG
  have hpos:=ka (h.sorted s) n
  obtain⟨pos,hpe⟩:∃ i,i=posN (nums (xD gs s)) n:=⟨_,rfl⟩
  rw[←hpe] at HS hpos
  have hhas2:(nums (xD gs s)).contains n=true:=hhas
  rw[xFq (h.sorted s) hpos] at hhas2
  obtain⟨m,him,hmn⟩:∃ m,(xD gs s)[pos]?=some m∧m.p.number=n:=by
   split at hhas2
   ·rename_i hlt
    rw[yK] at hlt
    rw[xEm,decide_eq_true_eq] at hhas2
    refine⟨(xD gs s)[pos],List.getElem?_eq_getElem hlt,?_⟩
    simpa[nums] using hhas2
   ·cases hhas2
  have hlt:pos<(xD gs s).length:=(List.getElem?_eq_some_iff.1 him).1
  have hgr:=h.grps G hGm
  have hmG:G.ms[pos]?=some m:=hms ▸ him
  obtain⟨j,hfj,b,hjb⟩:=hgr.find_yes (List.mem_of_getElem? hmG)
  have hjl:j<G.nl.length:=(List.getElem?_eq_some_iff.1 hjb).1
  have hpure:=hgr.pure.del hmG hjb
  obtain⟨lb,cap,hv,hBl,hll,hle,hmx,hcell⟩:∃ lb cap,G.v=.slice (some ⟨lb,0,none⟩) G.ms.length cap∧B≤lb∧lb<w.heap.size∧G.ms.length≤cap∧cap≤maxLen∧∀ j (hj:j<G.ms.length) i u,(xK G.ms[j].g)[i]?=some u→w.cell? ⟨lb,j*38+i,none⟩=some u:=by
   rcases hgr.lines.head with⟨_,e⟩ | ⟨g,cap,hx⟩
   ·exact absurd e hgr.some'
   ·exact⟨g,cap,hx⟩
  have hcm:∀ i u,(xK m.g)[i]?=some u→w.cell? ⟨lb,pos*38+i,none⟩=some u:=by
   obtain⟨h1,h2⟩:=List.getElem?_eq_some_iff.1 hmG
   have:=hcell pos h1
   rwa [h2] at this
  have hva:va=some ⟨lb,0,none⟩∧vc=cap:=by
   have:=HVAL.out
   rw[hGv,hv,hms] at this
   cases this
   exact⟨rfl,rfl⟩
  obtain⟨rfl,rfl⟩:=hva
  have hlen:=h.len s
  rw[hms] at HL HS hlt hlen
  obtain⟨a1,a2,a3⟩:=uE.1 h.apart
  obtain⟨f1,f2,f3⟩:=a2 G hGm
  have hd:lb≠G.gb∧lb≠G.nb∧G.gb≠G.nb∧ib≠G.gb∧ib≠G.nb∧ib≠lb∧M≠G.gb∧M≠G.nb∧M≠lb:=by
   unfold MG.foot at f1 f2 f3
   rw[hv] at f1 f2 f3
   simp[Value.ownBlock] at f1 f2 f3
   exact⟨fun e=>f3.1.2 e.symm,fun e=>f3.2 e.symm,f3.1.1,f1.1,f1.2.1,f1.2.2,f2.1,f2.2.1,f2.2.2⟩
  obtain⟨d1,d2,d3,d4,d5,d6,d7,d8,d9⟩:=hd
  have HHX:=h_ hgr
  have HPURE:=h_ hpure
  have HFJ:=h_ hfj
  have HCM:=h_ hcm
  have HG:=h_ hG
  have HMS:=h_ hms
  have HV:=h_ hv
  have HIM:=h_ him
  have HMN:=h_ hmn
  have hltz:(pos:Int)<(G.ms.length:Int):=by omega
  clear hgr hpure hfj hcm hG hms hv him hmn h hhas hhas2 hpos hpe hne hGv hcell HVAL a1 a2 a3 f1 f2 f3 hmG hjb HH
  obtain⟨len,hlenE⟩:∃ k,k=G.ms.length:=⟨_,rfl⟩
  rw[←hlenE] at HL HS hlt hlen hltz hle
  have HLE:=h_ hlenE
  clear hlenE
  go_enter Tryz.func357,Tryz.ntmps357
  go_wp2_with fail
  refine HL.out.mono ?_
  rintro r w' ⟨rfl,rfl⟩
  go_wp2_with fail
  refine HS.out.mono ?_
  rintro r w1 ⟨rfl,hb1⟩
  have hX1:=HX.out.below hb1
  have hgr1:=hX1.grps G hGm
  have hc0:=hX1.cell0
  have hlk:=hX1.look s
  rw[HG.out] at hlk
  simp only[Option.map_some,Option.getD_some] at hlk
  have HB1:=h_ hb1
  have HX1:=h_ hX1
  have HG1:=h_ hgr1
  clear hb1 hX1 hgr1 HS HL
  go_upto_region 7 with (fail)
  clear hc0 hlk
  have q1:∀ z:xf w1,z.1.cell? ⟨G.gb,1,none⟩=some (.map (some G.nb)):=fun z=>z.cell (cell_of_row w1 G.gb 1 _ _ _ HG1.out.blk)
  have q2:∀ z:xf w1,z.1.cell? ⟨G.gb,0,none⟩=some (.slice (some ⟨lb,0,none⟩) len vc):=fun z=>z.cell ((cell_of_row w1 G.gb 0 _ _ _ HG1.out.blk).trans (by rw[HV.out,HLE.out];rfl))
  have hid:xq w1 ⟨lb,pos*38+1,none⟩ 32=true∧xp w1 ⟨lb,pos*38+1,none⟩ 32=(xB m.p.id).toArray:=xUm (l:=m.g) fun i u hu=>(HB1.out.cell (p:=⟨lb,pos*38+i,none⟩) hll).trans (HCM.out i u hu)
  have q3:∀ z:xf w1,xq z.1 ⟨lb,pos*38+1,none⟩ 32=true:=fun z=>z.ok hid.1
  have q4:∀ z:xf w1,xp z.1 ⟨lb,pos*38+1,none⟩ 32=(xB m.p.id).toArray:=fun z=>(z.rd hid.1).trans hid.2
  clear hid
  refine xw [0,1,2,3,4,5,6,7,8,9,10,11] [12] (fun w'=>∃ z:xf w1,w'=z.1) (by kernel_rfl) (by kernel_rfl) (by kernel_rfl) ⟨⟨_,(Below.refl _ _).drew⟩,rfl⟩ ?_
  simp only[o_]
  repeat (go_big_quiet_step (fail))
  refine wpQuiet_nil ?_
  clear q1 q2 q3 q4
  obtain⟨w2,hw2⟩:∃ w2,w2=w1.drew.putObj G.nb (.map ((G.nl.eraseIdx j).map (enE ekI)).toArray G.nc):=⟨_,rfl⟩
  have hdel:∀ ty,(Builtin.delete_ #[195,39] ty #[.map (some G.nb),.agg (xB m.p.id).toArray]).run Tryz.prog w1.drew=.ok (.tuple #[]) w2:=fun ty=>by
   rw[hw2]
   exact xN6 keyI Tryz.underlying195 ty w1.drew G.nb G.nl G.nc HG1.out.nums m.p.id j _ HFJ.out hjl
  have e2:∀ k,k≠G.nb→w2.heap[k]?=w1.heap[k]?:=fun k hk=>by rw[hw2,World.putObj_heap_other hk];rfl
  have hs2:w2.heap.size=w1.heap.size:=by rw[hw2];simp only[World.putObj,Array.size_setIfInBounds];rfl
  have hN2:y3 ekI w2 G.nb (G.nl.eraseIdx j) G.nc:=by rw[hw2];exact y3.put (w:=w1.drew) HG1.out.nums
  have ho2:w2.os=w1.os∧w2.tape=w1.tape∧w2.output=w1.output:=by rw[hw2];exact⟨rfl,rfl,rfl⟩
  have hg2:=(e2 G.gb d3).trans HG1.out.blk
  have hL2:zl B w2 (.slice (some ⟨lb,0,none⟩) len vc) G.ms:=by
   have h1:=HG1.out.lines
   rw[HV.out,←HLE.out] at h1
   refine h1.keep (fun k hk=>e2 k ?_) (fun x hx k hk=>e2 k ?_)
   ·cases hk;exact d2
   ·rintro rfl
    obtain⟨cur,h2⟩:=(h1.refs x hx).typed hk
    have h3:=HG1.out.nums
    unfold y3 at h3
    rw[h3] at h2
    cases h2
  have hc2:w2.cell? ⟨G.gb,0,none⟩=some (.slice (some ⟨lb,0,none⟩) len vc):=(cell_of_row w2 G.gb 0 _ _ _ hg2).trans (by rw[HV.out,HLE.out];rfl)
  have hfg2:=frozen_of_row w2 G.gb 0 _ _ hg2
  have HDel:=h_ (xSd B lb vc len pos (yl G.ms) w2 (xCk fun x hx=>(hL2.refs x hx).one) (by rw[HLE.out];rw[HLE.out] at hL2;exact hL2.row) hlen hlt)
  have HE2:=h_ e2
  have HS2:=h_ hs2
  have HN2:=h_ hN2
  have HO2:=h_ ho2
  have HG2:=h_ hg2
  have HL2:=h_ hL2
  clear e2 hs2 hN2 ho2 hg2 hL2 hw2
  refine xG [12] _ _ (by kernel_rfl) ?_
  simp only[o_]
  refine qW _ rfl (.tmp 31) (.tmp 39) 195 39 rfl _ _ rfl rfl (hdel _) ?_
  go_wp2
  refine NoPanic.normal ?_
  clear hdel
  go_wp2_with fail
  refine HDel.out.mono ?_
  rintro r w3 ⟨rfl,hown,hgrow⟩
  have l1:G.gb<w1.heap.size:=(i_ HG1.out.blk).1
  have l2:ib<w1.heap.size:=(i_ HX1.out.blk).1
  have l3:M<w1.heap.size:=HX1.out.map.lt
  have l4:G.nb<w1.heap.size:=HG1.out.nums.lt
  have hs2:=HS2.out
  have e3:∀ k,k<w1.heap.size→k≠lb→w3.heap[k]?=w2.heap[k]?:=fun k hk hkl=>hgrow.block k (by omega) (fun e=>hkl (Option.some.inj e))
  have hg3:=(e3 G.gb l1 (fun e=>d1 e.symm)).trans HG2.out
  have hc3:w3.cell? ⟨G.gb,0,none⟩=some (.slice (some ⟨lb,0,none⟩) len vc):=(cell_of_row w3 G.gb 0 _ _ _ hg3).trans (by rw[HV.out,HLE.out];rfl)
  have hfg3:=frozen_of_row w3 G.gb 0 _ _ hg3
  obtain⟨w4,hw4⟩:∃ w4,w4=w3.setCell ⟨G.gb,0,none⟩ (.slice (some ⟨lb,0,none⟩) (len-1) vc):=⟨_,rfl⟩
  have hg4:w4.heap[G.gb]?=some (.cells #[.slice (some ⟨lb,0,none⟩) (len-1) vc,.map (some G.nb)] 198 (0,0)):=by rw[hw4];exact heap_setCell_same w3 G.gb 0 _ _ _ hg3
  have e4:∀ k,k≠G.gb→w4.heap[k]?=w3.heap[k]?:=fun k hk=>by rw[hw4];exact heap_setCell_other w3 ⟨G.gb,0,none⟩ k _ hk
  have hs4:w4.heap.size=w3.heap.size:=by rw[hw4];simp[World.setCell]
  have ho4:w4.os=w3.os∧w4.tape=w3.tape∧w4.output=w3.output:=by rw[hw4];exact⟨rfl,rfl,rfl⟩
  have hc4:w4.cell? ⟨G.gb,0,none⟩=some (.slice (some ⟨lb,0,none⟩) (len-1) vc):=cell_of_row w4 G.gb 0 _ _ _ hg4
  have hI4:w4.heap[ib]?=some (.cells #[.map (some M),.int .i64 (xS gs)] 193 (0,0)):=(e4 ib d4).trans ((e3 ib l2 d6).trans ((HE2.out ib d5).trans HX1.out.blk))
  have hM4:y3 ekS w4 M (gs.map MG.e) mc:=(e4 M d7).trans ((e3 M l3 d9).trans ((HE2.out M d8).trans HX1.out.map))
  have hN4:y3 ekI w4 G.nb (G.nl.eraseIdx j) G.nc:=(e4 G.nb (fun e=>d3 e.symm)).trans ((e3 G.nb l4 (fun e=>d2 e.symm)).trans HN2.out)
  have hfew:=HX.out.few
  have htp:1≤xS gs:=by have:=qI hGm;rw[←HLE.out] at this;omega
  have hL4:zl B w4 (.slice (some ⟨lb,0,none⟩) (len-1) vc) (G.ms.eraseIdx pos):=by
   have hel:(G.ms.eraseIdx pos).length=len-1:=by rw[List.length_eraseIdx,←HLE.out,if_pos hlt]
   refine⟨?_,fun x hx=>?_⟩
   ·rw[hel,xS4]
    refine⟨hown.1,?_⟩
    rcases hown.2 with h0 | ⟨g',cap',cur,e,hg,hcur,hx⟩
    ·exact .inl h0
    ·refine .inr ⟨g',cap',cur,e,hg,(e4 g' ?_).trans hcur,hx⟩
     cases e
     exact d1
   ·have h1:=HL2.out.refs x (xKm hx)
    refine h1.block fun k hk=>?_
    obtain⟨cur,h2⟩:=h1.typed hk
    have hkl:k≠lb:=fun e=>by
     obtain⟨c3,h4⟩:=yO HL2.out.row (k:=lb) rfl
     rw[e,h4] at h2;cases h2
    have hkg:k≠G.gb:=fun e=>by rw[e,HG2.out] at h2;cases h2
    rw[e4 k hkg,e3 k (by have:=(h1.lt hk).2;omega) hkl]
  have hk4:Kept G.foot w w4:=by
   have h1:=HB1.out
   refine⟨?_,?_,?_,?_,fun k hk hn=>?_⟩
   ·exact ho4.1.trans (hgrow.os.trans (HO2.out.1.trans h1.os))
   ·exact ho4.2.1.trans (hgrow.tape.trans (HO2.out.2.1.trans h1.tape))
   ·exact ho4.2.2.trans (hgrow.output.trans (HO2.out.2.2.trans h1.output))
   ·have:=hgrow.size;have:=h1.size;omega
   ·unfold MG.foot at hn
    rw[HV.out] at hn
    simp[Value.ownBlock] at hn
    have:=h1.size
    exact(e4 k hn.1).trans ((e3 k (by omega) hn.2.2).trans ((HE2.out k hn.2.1).trans (h1.block k hk)))
  have HG4:=h_ hg4
  have HI4:=h_ hI4
  have HM4:=h_ hM4
  have HN4:=h_ hN4
  have HL4:=h_ hL4
  have HK4:=h_ hk4
  have HW4:=h_ hw4
  have hc40:=cell_of_row w4 ib 0 _ _ _ hI4
  clear hg3 e3 hg4 e4 hs4 ho4 hI4 hM4 hN4 hL4 hk4 hw4 hown hgrow hc2 hfg2 hs2
  by_cases h1:len=1
  ·obtain⟨jm,hf1,hf2,hf3⟩:=xTj s 0 HG.out HX.out.names
   rw[Nat.zero_add] at hf1
   obtain⟨w5,hw5⟩:∃ w5,w5=w4.putObj M (.map (((gs.map MG.e).eraseIdx jm).map (enE ekS)).toArray mc):=⟨_,rfl⟩
   have hdel2:∀ ty,(Builtin.delete_ #[191,9] ty #[.map (some M),.string s]).run Tryz.prog w4=.ok (.tuple #[]) w5:=fun ty=>by
    rw[hw5]
    exact xN6 keyS Tryz.underlying191 ty w4 M (gs.map MG.e) mc HM4.out s jm _ hf1 (by simpa using hf2)
   have hM5:y3 ekS w5 M ((uX gs s).map MG.e) mc:=by rw[hw5,hf3];exact HM4.out.put
   have e5:∀ k,k≠M→w5.heap[k]?=w4.heap[k]?:=fun k hk=>by rw[hw5,World.putObj_heap_other hk]
   have hs5:w5.heap.size=w4.heap.size:=by rw[hw5];simp only[World.putObj,Array.size_setIfInBounds]
   have ho5:w5.os=w4.os∧w5.tape=w4.tape∧w5.output=w4.output:=by rw[hw5];exact⟨rfl,rfl,rfl⟩
   have hib:ib≠M:=(uE.1 HX.out.apart).1
   have hI5:=(e5 ib hib).trans HI4.out
   have hci:=cell_of_row w5 ib 1 _ _ _ hI5
   have hfi:=frozen_of_row w5 ib 1 _ _ hI5
   have HI5:=h_ hI5
   have HM5:=h_ hM5
   have HE5:=h_ e5
   have HS5:=h_ hs5
   have HO5:=h_ ho5
   have hlz:(((len-1:Nat):Int) == 0)=true:=by rw[h1];rfl
   have H1:=h_ h1
   clear hI5 hM5 e5 hs5 ho5 hw5 hf1 hf2 hf3 h1
   go_upto_region 9 with (fail)
   rw[←HW4.out]
   go_wp2_with (at_builtin;refine qW _ rfl (.tmp 60) (.tmp 61) 191 9 rfl _ _ rfl rfl (hdel2 _) ?_)
   have ht:=xAf HX.out.names HG.out
   rw[←HLE.out,H1.out] at ht
   have hI6:(w5.setCell ⟨ib,1,none⟩ (.int .i64 ((xS gs:Int)-1))).heap[ib]?=some (.cells #[.map (some M),.int .i64 (xS (uX gs s))] 193 (0,0)):=by
    have h2:=heap_setCell_same w5 ib 1 _ _ (.int .i64 ((xS gs:Int)-1)) HI5.out
    rw[h2,show ((xS gs:Int)-1)=((xS (uX gs s):Nat):Int) by omega]
    rfl
   have e6:∀ k,k≠ib→(w5.setCell ⟨ib,1,none⟩ (.int .i64 ((xS gs:Int)-1))).heap[k]?=w5.heap[k]?:=fun k hk=>heap_setCell_other w5 ⟨ib,1,none⟩ k _ hk
   have hs6:(w5.setCell ⟨ib,1,none⟩ (.int .i64 ((xS gs:Int)-1))).heap.size=w5.heap.size:=by simp[World.setCell]
   generalize hw6:w5.setCell ⟨ib,1,none⟩ (.int .i64 ((xS gs:Int)-1))=w6 at hI6 e6 hs6 ⊢
   have ho6:w6.os=w5.os∧w6.tape=w5.tape∧w6.output=w5.output:=by rw[←hw6];exact⟨rfl,rfl,rfl⟩
   have hk6:Kept (ib :: M :: G.foot) w w6:=by
    have h2:=HK4.out
    refine⟨ho6.1.trans (HO5.out.1.trans h2.os),ho6.2.1.trans (HO5.out.2.1.trans h2.tape),ho6.2.2.trans (HO5.out.2.2.trans h2.output),by have:=HS5.out;have:=h2.size;omega,fun k hk hn=>?_⟩
    rw[List.mem_cons,List.mem_cons,not_or,not_or] at hn
    exact(e6 k hn.1).trans ((HE5.out k hn.2.1).trans (h2.block k hk hn.2.2))
   have hcut:=HX.out.cut HG.out hI6 ((e6 M (fun e=>hib e.symm)).trans HM5.out) hk6
   clear hI6 e6 hs6 hw6 ho6 hci hfi
   go_ret
   refine .inr ⟨pos,m,HIM.out,HMN.out,rfl,_,mc,hcut.1,hk6.mono fun k hk _=>?_,hcut.2,fun t=>?_,by omega⟩
   ·unfold foot
    rw[List.mem_cons,List.mem_cons] at hk ⊢
    rcases hk with hk | hk | hk
    ·exact .inl hk
    ·exact .inr (.inl hk)
    ·exact .inr (.inr (List.mem_flatMap.2 ⟨G,hGm,hk⟩))
   ·rw[xJb]
    by_cases hts:t=s
    ·rw[if_pos hts,if_pos hts]
     have h2:(xD gs s).length=1:=by rw[HMS.out,←HLE.out,H1.out]
     symm
     rw[←List.length_eq_zero_iff,List.length_eraseIdx,h2,if_pos (by rw[H1.out] at hlt;exact hlt)]
    ·rw[if_neg hts,if_neg hts]
  ·have hlz:(((len-1:Nat):Int) == 0)=false:=by rw[beq_eq_false_iff_ne];omega
   go_upto_region 9 with (fail)
   rw[←HW4.out]
   have hci:=cell_of_row w4 ib 1 _ _ _ HI4.out
   have hfi:=frozen_of_row w4 ib 1 _ _ HI4.out
   have H1:=h_ h1
   clear h1
   go_wp2
   obtain⟨G',hG'⟩:∃ G':MG,G'=⟨G.name,G.born,G.gb,G.nb,.slice (some ⟨lb,0,none⟩) (len-1) vc,G.ms.eraseIdx pos,G.nl.eraseIdx j,G.nc⟩:=⟨_,rfl⟩
   have ht:=xAe (G':=G') HX.out.names HG.out
   have hel:G'.ms.length=len-1:=by rw[hG'];show (G.ms.eraseIdx pos).length=_;rw[List.length_eraseIdx,←HLE.out,if_pos hlt]
   rw[hel,←HLE.out] at ht
   have hI6:(w4.setCell ⟨ib,1,none⟩ (.int .i64 ((xS gs:Int)-1))).heap[ib]?=some (.cells #[.map (some M),.int .i64 (xS (uV gs s G'))] 193 (0,0)):=by
    have h2:=heap_setCell_same w4 ib 1 _ _ (.int .i64 ((xS gs:Int)-1)) HI4.out
    rw[h2,show ((xS gs:Int)-1)=((xS (uV gs s G'):Nat):Int) by omega]
    rfl
   have e6:∀ k,k≠ib→(w4.setCell ⟨ib,1,none⟩ (.int .i64 ((xS gs:Int)-1))).heap[k]?=w4.heap[k]?:=fun k hk=>heap_setCell_other w4 ⟨ib,1,none⟩ k _ hk
   have hs6:(w4.setCell ⟨ib,1,none⟩ (.int .i64 ((xS gs:Int)-1))).heap.size=w4.heap.size:=by simp[World.setCell]
   generalize hw6:w4.setCell ⟨ib,1,none⟩ (.int .i64 ((xS gs:Int)-1))=w6 at hI6 e6 hs6 ⊢
   have ho6:w6.os=w4.os∧w6.tape=w4.tape∧w6.output=w4.output:=by rw[←hw6];exact⟨rfl,rfl,rfl⟩
   have hk6:Kept (ib :: G.foot) w w6:=by
    have h2:=HK4.out
    refine⟨ho6.1.trans h2.os,ho6.2.1.trans h2.tape,ho6.2.2.trans h2.output,by have:=h2.size;omega,fun k hk hn=>?_⟩
    rw[List.mem_cons,not_or] at hn
    exact(e6 k hn.1).trans (h2.block k hk hn.2)
   have hat:zY B w6 G':=by
    rw[hG']
    have hp:=HPURE.out
    refine⟨(e6 G.gb (fun e=>d4 e.symm)).trans HG4.out,?_,(e6 G.nb (fun e=>d5 e.symm)).trans HN4.out,hp.agree,hp.ids,hp.sorted,hp.good,HHX.out.named,?_,HHX.out.gbB,HHX.out.nbB⟩
    ·refine HL4.out.keep (fun k hk=>e6 k ?_) (fun x hx k hk=>e6 k ?_)
     ·cases hk;exact fun e=>d6 e.symm
     ·rintro rfl
      obtain⟨cur,h2⟩:=(HL4.out.refs x hx).typed hk
      rw[HI4.out] at h2;cases h2
    ·intro e
     have h2:(G.ms.eraseIdx pos).length=0:=List.length_eq_zero_iff.2 e
     have h3:=H1.out
     rw[hG'] at hel
     have:(G.ms.eraseIdx pos).length=len-1:=hel
     omega
   have hupd:=HX.out.upd (w':=w6) (G':=G') HG.out (by rw[hG']) (by rw[hG']) (by rw[hG']) (by rw[hG']) (.inl (by rw[hG',HV.out];rfl)) hat hI6 hk6 (by omega)
   clear hI6 e6 hs6 hw6 ho6 hci hfi
   go_ret
   refine .inr ⟨pos,m,HIM.out,HMN.out,rfl,_,mc,hupd.1,hk6.mono fun k hk _=>?_,hupd.2,fun t=>?_,by omega⟩
   ·unfold foot
    rcases List.mem_cons.1 hk with rfl | hk
    ·simp
    ·exact List.mem_cons.2 (.inr (List.mem_cons.2 (.inr (List.mem_flatMap.2 ⟨G,hGm,hk⟩))))
   ·rw[xC1 t HG.out (by rw[hG'];exact hGs),HMS.out,hG']
end
theorem xHi:∀ a:List UInt8,Op.bytesLess a a=false
 | []=>rfl
 | a :: x=>by
  unfold Op.bytesLess
  rw[xHi x]
  simp
theorem xCh:∀ a b c:List UInt8,Op.bytesLess a b=true→Op.bytesLess b c=true→Op.bytesLess a c=true
 | _,_,[],_,h=>by cases ‹List UInt8› <;> simp[Op.bytesLess] at h
 | [],_,_ :: _,_,_=>rfl
 | _ :: _,[],_ :: _,h,_=>by simp[Op.bytesLess] at h
 | a :: x,b :: y,c :: z,h1,h2=>by
  unfold Op.bytesLess at h1 h2 ⊢
  simp only[Bool.or_eq_true,decide_eq_true_eq,Bool.and_eq_true,beq_iff_eq] at h1 h2 ⊢
  rcases h1 with h1 | ⟨h1,g1⟩
  ·rcases h2 with h2 | ⟨h2,g2⟩
   ·exact .inl (by rw[UInt8.lt_iff_toNat_lt] at *;omega)
   ·exact .inl (h2 ▸ h1)
  ·rcases h2 with h2 | ⟨h2,g2⟩
   ·exact .inl (h1 ▸ h2)
   ·exact .inr ⟨h1.trans h2,xCh x y z g1 g2⟩
theorem jA:∀ a b:List UInt8,Op.bytesLess a b=false→Op.bytesLess b a=false→a=b
 | [],[],_,_=>rfl
 | [],_ :: _,h,_=>by simp[Op.bytesLess] at h
 | _ :: _,[],_,h=>by simp[Op.bytesLess] at h
 | a :: x,b :: y,h1,h2=>by
  unfold Op.bytesLess at h1 h2
  simp only[Bool.or_eq_false_iff,decide_eq_false_iff_not] at h1 h2
  have e:a=b:=by
   apply UInt8.toNat_inj.1
   have:=h1.1
   have:=h2.1
   rw[UInt8.lt_iff_toNat_lt] at *
   omega
  subst e
  simp only[beq_self_eq_true,Bool.true_and] at h1 h2
  rw[jA x y h1.2 h2.2]
theorem xHj {a b:List UInt8}(h:Op.bytesLess a b=true):Op.bytesLess b a=false:=by
 cases h2:Op.bytesLess b a with
 | false=>rfl
 | true =>
  have:=xCh a b a h h2
  rw[xHi] at this
  cases this
def cmpL:List (List UInt8)→List (List UInt8)→Int
 | [],[]=>0
 | [],_ :: _=>-1
 | _ :: _,[]=>1
 | a :: x,b :: y=>if Op.bytesLess a b then -1 else if Op.bytesLess b a then 1 else cmpL x y
def cmpN (a b:ByteArray):Int:=cmpL (ux 46 a.data.toList) (ux 46 b.data.toList)
theorem xEn:∀ x y,cmpL y x=- cmpL x y
 | [],[]=>rfl
 | [],_ :: _=>rfl
 | _ :: _,[]=>rfl
 | a :: x,b :: y=>by
  unfold cmpL
  cases h1:Op.bytesLess a b with
  | true=>simp[xHj h1]
  | false =>
   cases h2:Op.bytesLess b a with
   | true=>simp
   | false=>simpa using xEn x y
theorem xV9 (x:List (List UInt8)):cmpL x x=0:=by have:=xEn x x;omega
theorem xL1:∀ x y,cmpL x y=0→x=y
 | [],[],_=>rfl
 | [],_ :: _,h=>by simp[cmpL] at h
 | _ :: _,[],h=>by simp[cmpL] at h
 | a :: x,b :: y,h=>by
  unfold cmpL at h
  cases h1:Op.bytesLess a b with
  | true=>simp[h1] at h
  | false =>
   cases h2:Op.bytesLess b a with
   | true=>simp[h1,h2] at h
   | false =>
    simp[h1,h2] at h
    rw[jA a b h1 h2,xL1 x y h]
theorem xIk:∀ x y z,cmpL x y<0→cmpL y z<0→cmpL x z<0
 | [],[],_,h,_=>by simp[cmpL] at h
 | _ :: _,[],_,h,_=>by simp[cmpL] at h
 | _,_ :: _,[],_,h=>by simp[cmpL] at h
 | [],_ :: _,_ :: _,_,_=>by simp[cmpL]
 | a :: x,b :: y,c :: z,h1,h2=>by
  unfold cmpL at h1 h2 ⊢
  cases ab:Op.bytesLess a b with
  | true =>
   cases bc:Op.bytesLess b c with
   | true=>simp[xCh a b c ab bc]
   | false =>
    cases cb:Op.bytesLess c b with
    | true=>simp[bc,cb] at h2
    | false =>
     obtain rfl:=jA b c bc cb
     simp[ab]
  | false =>
   cases ba:Op.bytesLess b a with
   | true=>simp[ab,ba] at h1
   | false =>
    obtain rfl:=jA a b ab ba
    cases bc:Op.bytesLess a c with
    | true=>simp
    | false =>
     cases cb:Op.bytesLess c a with
     | true=>simp[bc,cb] at h2
     | false =>
      simp[ab] at h1
      simp[bc,cb] at h2
      simpa using xIk x y z h1 h2
theorem xV8 (a b:ByteArray):cmpN b a=- cmpN a b:=xEn _ _
theorem xBm (a:ByteArray):cmpN a a=0:=xV9 _
theorem xV7 {a b:ByteArray}(h:cmpN a b=0):a=b:=by
 have:=xL1 _ _ h
 have h2:=congrArg (fun l=>Lib.join l [46]) this
 simp only[xHt] at h2
 cases a;cases b
 simp only[Array.toList_inj] at h2
 rw[h2]
theorem xIi {a b c:ByteArray}(h1:cmpN a b<0)(h2:cmpN b c<0):cmpN a c<0:=xIk _ _ _ h1 h2
theorem xIj {a b:ByteArray}(h1:¬ cmpN a b<0)(h2:¬ cmpN b a<0):a=b:=by
 have:=xV8 a b
 exact xV7 (by omega)
def ordN (l:List ByteArray):Prop:=l.Pairwise fun a b=>cmpN a b<0
theorem ju (a:ByteArray)(w:World):Calls Tryz.prog 270 #[.string a] w fun r w'=>r=.returned (.bool false)∧w=w':=by
 have h:(a.toList == a.toList)=true:=by simp
 go_enter Tryz.func270,Tryz.ntmps270
 go_wp2
 go_ret
 exact⟨rfl,rfl⟩
def cmpS (a b:ByteArray):Int:=if Op.bytesLess a.toList b.toList then -1 else if Op.bytesLess b.toList a.toList then 1 else 0
theorem xZb (a b:ByteArray):(!(Op.bytesLess a.toList b.toList || a.toList == b.toList))=(Op.bytesLess b.toList a.toList):=by
 cases h1:Op.bytesLess a.toList b.toList with
 | true=>rw[xHj h1];rfl
 | false =>
  cases h2:Op.bytesLess b.toList a.toList with
  | true =>
   have:(a.toList == b.toList)=false:=by
    rw[beq_eq_false_iff_ne]
    intro e
    rw[e,xHi] at h2
    cases h2
   rw[this];rfl
  | false =>
   rw[jA _ _ h1 h2]
   simp
theorem xSg (a b:ByteArray)(w:World):Calls Tryz.prog 224 #[.string a,.string b] w fun r w'=>r=.returned (.int .i64 (cmpS a b))∧w=w':=by
 have hg:=xZb a b
 unfold cmpS
 generalize h1:Op.bytesLess a.toList b.toList=x at hg
 generalize h2:Op.bytesLess b.toList a.toList=y at hg
 generalize h3:(a.toList == b.toList)=z at hg
 cases x with
 | true =>
  go_enter Tryz.func224,Tryz.ntmps224
  go_wp2_with fail
  refine(ju a w).mono ?_
  rintro r w' ⟨rfl,rfl⟩
  go_wp2_with fail
  refine(ju b w).mono ?_
  rintro r w' ⟨rfl,rfl⟩
  go_wp2
  go_ret
  exact⟨rfl,rfl⟩
 | false =>
  cases y with
  | true =>
   obtain rfl:z=false:=by cases z with | false=>rfl | true=>simp at hg
   clear hg
   go_enter Tryz.func224,Tryz.ntmps224
   go_wp2_with fail
   refine(ju a w).mono ?_
   rintro r w' ⟨rfl,rfl⟩
   go_wp2_with fail
   refine(ju b w).mono ?_
   rintro r w' ⟨rfl,rfl⟩
   go_wp2
   go_ret
   exact⟨rfl,rfl⟩
  | false =>
   obtain rfl:z=true:=by cases z with | true=>rfl | false=>simp at hg
   clear hg
   go_enter Tryz.func224,Tryz.ntmps224
   go_wp2_with fail
   refine(ju a w).mono ?_
   rintro r w' ⟨rfl,rfl⟩
   go_wp2_with fail
   refine(ju b w).mono ?_
   rintro r w' ⟨rfl,rfl⟩
   go_wp2
   go_ret
   exact⟨rfl,rfl⟩
theorem xDs {α:Type}(l:List α)(k:Nat)(h:l.length≤k):l.drop k=[]:=List.drop_eq_nil_of_le h
def cmpB (xs ys:List ByteArray):Int:=cmpL (xs.map (·.data.toList)) (ys.map (·.data.toList))
theorem xVa {xs ys:List ByteArray}{k:Nat}(hx:k<xs.length)(hy:k<ys.length):cmpB (xs.drop k) (ys.drop k)=if cmpS xs[k] ys[k]≠0 then cmpS xs[k] ys[k] else cmpB (xs.drop (k+1)) (ys.drop (k+1)):=by
 rw[List.drop_eq_getElem_cons hx,List.drop_eq_getElem_cons hy]
 unfold cmpB cmpS
 simp only[List.map_cons,ByteArray.toList_eq]
 conv=>lhs;unfold cmpL
 cases Op.bytesLess xs[k].data.toList ys[k].data.toList with
 | true=>simp
 | false=>cases Op.bytesLess ys[k].data.toList xs[k].data.toList <;> simp
theorem xZk (a b:ByteArray):cmpN a b=cmpB (yG 46 a) (yG 46 b):=by
 unfold cmpN cmpB yG
 simp only[List.map_map]
 have:((fun x:ByteArray=>x.data.toList) ∘ str)=id:=by funext l;simp[xVy]
 rw[this,List.map_id,List.map_id]
theorem xQd (b1 b2 c1 c2:Nat)(xs ys:List ByteArray)(w:World)(hx:jJ w b1 0 xs)(hy:jJ w b2 0 ys)(h1:xs.length≤1000000)(h2:ys.length≤1000000) :
  Calls Tryz.prog 189 #[.slice (some ⟨b1,0,none⟩) xs.length c1,.slice (some ⟨b2,0,none⟩) ys.length c2] w fun r w'=>r=.returned (.int .i64 (cmpB xs ys))∧w=w':=by
 have HX:=h_ hx
 have HY:=h_ hy
 clear hx hy
 go_enter Tryz.func189,Tryz.ntmps189
 go_wp2
 go_loop [11] (fun i=>∃ k:Nat,k≤xs.length∧k≤ys.length∧i=.int .i64 k∧Hid (cmpB xs ys=cmpB (xs.drop k) (ys.drop k))) (fun i=>xs.length-(intOf i).toNat)
 case atStart=>exact⟨0,by omega,by omega,rfl,h_ rfl⟩
 case round =>
  obtain⟨k,hk,hk2,rfl,HB⟩:=hrel
  by_cases hlt:k<xs.length
  ·have hltz:(k:Int)<(xs.length:Int):=by omega
   have hc1:=HX.out k _ (List.getElem?_eq_getElem hlt)
   rw[Nat.zero_add] at hc1
   by_cases hlt2:k<ys.length
   ·have hltz2:¬ ((ys.length:Int)≤(k:Int)):=by omega
    have hltz3:((k:Int)<(ys.length:Int)):=by omega
    have hc2:=HY.out k _ (List.getElem?_eq_getElem hlt2)
    rw[Nat.zero_add] at hc2
    have HST:=h_ (HB.out.trans (xVa hlt hlt2))
    have HC:=h_ (xSg xs[k] ys[k] w)
    clear HB
    generalize cmpS xs[k] ys[k]=c at HST HC
    generalize xs[k]=x at hc1 HC
    generalize ys[k]=y at hc2 HC
    go_wp2_with fail
    refine HC.out.mono ?_
    rintro r w' ⟨rfl,rfl⟩
    by_cases hc0:c=0
    ·subst hc0
     go_wp2
     go_round
     case rel=>exact⟨k+1,by omega,by omega,by go_num,h_ (by rw[HST.out];simp)⟩
     case measure=>simp[intOf];omega
    ·have hc0b:(c != 0)=true:=by simpa using hc0
     have hc0c:(c == 0)=false:=by simpa using hc0
     go_wp2
     go_ret
     exact⟨zU (by rw[HST.out,if_pos hc0]),rfl⟩
   ·have hltz2:((ys.length:Int)≤(k:Int)):=by omega
    have HE:Hid (cmpB xs ys=1):=h_ (by
     rw[HB.out,List.drop_eq_getElem_cons hlt,xDs ys k (by omega)];rfl)
    clear HB
    go_wp2
    go_ret
    exact⟨zU HE.out.symm,rfl⟩
  ·by_cases hlt2:k<ys.length
   ·have hl:(xs.length:Int)<(ys.length:Int):=by omega
    have HE:Hid (cmpB xs ys=-1):=h_ (by
     rw[HB.out,List.drop_eq_getElem_cons hlt2,xDs xs k (by omega)];rfl)
    clear HB
    go_wp2
    go_ret
    exact⟨zU HE.out.symm,rfl⟩
   ·have hl:¬ (xs.length:Int)<(ys.length:Int):=by omega
    have HE:Hid (cmpB xs ys=0):=h_ (by
     rw[HB.out,xDs xs k (by omega),xDs ys k (by omega)];rfl)
    clear HB
    go_wp2
    go_ret
    exact⟨zU HE.out.symm,rfl⟩
theorem xQc (a b:ByteArray)(w:World)(hG:Gl w)(ha:a.size≤100000)(hb:b.size≤100000) :
  Calls Tryz.prog 156 #[.string a,.string b] w fun r w'=>r=.returned (.int .i64 (cmpN a b))∧Below w.heap.size w w'∧(w.alloc (.cells ((yG 46 a).map Value.string).toArray 9)).alloc (.cells ((yG 46 b).map Value.string).toArray 9)=w':=by
 have hl1:=(xCb 46 a).2
 have hl2:=(xCb 46 b).2
 have hB:Below w.heap.size w ((w.alloc (.cells ((yG 46 a).map Value.string).toArray 9)).alloc (.cells ((yG 46 b).map Value.string).toArray 9)):=((Below.refl _ _).alloc (Nat.le_refl _) _).alloc (by simp) _
 have HB:=h_ hB
 clear hB
 have hr1:jJ ((w.alloc (.cells ((yG 46 a).map Value.string).toArray 9)).alloc (.cells ((yG 46 b).map Value.string).toArray 9)) w.heap.size 0 (yG 46 a):=fun k x hx=>Lib.cell?_alloc_some _ (xE7 w 9 (yG 46 a) k x hx)
 have hr2:jJ ((w.alloc (.cells ((yG 46 a).map Value.string).toArray 9)).alloc (.cells ((yG 46 b).map Value.string).toArray 9)) (w.heap.size+1) 0 (yG 46 b):=by
  have:=xE7 (w.alloc (.cells ((yG 46 a).map Value.string).toArray 9)) 9 (yG 46 b)
  simpa using this
 have HC:=h_ (xQd w.heap.size (w.heap.size+1) (yG 46 a).length (yG 46 b).length (yG 46 a) (yG 46 b) _ hr1 hr2 (by omega) (by omega))
 clear hr1 hr2
 rw[←xZk] at HC
 go_enter Tryz.func156,Tryz.ntmps156
 go_wp2_with fail
 refine(xId a w hG (by omega)).mono ?_
 rintro r w' ⟨rfl,rfl⟩
 go_wp2_with fail
 refine(xId b _ (hG.later ((Below.refl _ _).alloc (Nat.le_refl _) _)) (by omega)).mono ?_
 rintro r w' ⟨rfl,rfl⟩
 go_wp2_with fail
 refine HC.out.mono ?_
 rintro r w' ⟨rfl,rfl⟩
 go_wp2
 go_ret
 exact⟨rfl,HB.out,rfl⟩
end Go.Proofs.YthiafifdiaplaaaGreatDoor
namespace Go.Proofs
open Go.Shelf
def Tryz.keysA_ren:Go.Shelf.Ren:=⟨fun | 7=>160 | 10=>194 | n=>n,fun | 23=>191 | 26=>9 | 3=>194 | 28=>290 | 0=>0 | 27=>289 | 33=>334 | 4=>4 | n=>n,fun | n=>n⟩
theorem Tryz.keysA:Go.Proofs.SlLaysZ.n7 Tryz.prog Tryz.keysA_ren:={
 mixed:=by kernel_rfl
 f7:=⟨Tryz.f160.name,by decide,Tryz.func160.trans (congrArg some (by kernel_rfl))⟩
 f10:=⟨Tryz.f194.name,by decide,Tryz.func194.trans (congrArg some (by kernel_rfl))⟩
 t0:=Tryz.underlying0
 a0:=Tryz.isAgg0
 z0:=Tryz.sizeOf0
 v0:=Tryz.zeroValue0
 t4:=Tryz.underlying4
 a4:=Tryz.isAgg4
 z4:=Tryz.sizeOf4
 v4:=Tryz.zeroValue4
 t23:=Tryz.underlying191
 a23:=Tryz.isAgg191
 z23:=Tryz.sizeOf191
 v23:=Tryz.zeroValue191
 t26:=Tryz.underlying9
 a26:=Tryz.isAgg9
 z26:=Tryz.sizeOf9
 v26:=Tryz.zeroValue9
 t27:=Tryz.underlying289
 a27:=Tryz.isAgg289
 z27:=Tryz.sizeOf289
 v27:=Tryz.zeroValue289
 t28:=Tryz.underlying290
 a28:=Tryz.isAgg290
 z28:=Tryz.sizeOf290
 v28:=Tryz.zeroValue290
 t33:=Tryz.underlying334
 a33:=Tryz.isAgg334
 z33:=Tryz.sizeOf334
 v33:=Tryz.zeroValue334 }
def Tryz.collectA_ren:Go.Shelf.Ren:=⟨fun | 8=>193 | 11=>226 | n=>n,fun | 26=>9 | 28=>290 | 24=>40 | 0=>0 | 33=>334 | 4=>4 | n=>n,fun | n=>n⟩
theorem Tryz.collectA:Go.Proofs.SlLaysZ.n8 Tryz.prog Tryz.collectA_ren:={
 mixed:=by kernel_rfl
 f8:=⟨Tryz.f193.name,by decide,Tryz.func193.trans (congrArg some (by kernel_rfl))⟩
 f11:=⟨Tryz.f226.name,by decide,Tryz.func226.trans (congrArg some (by kernel_rfl))⟩
 t0:=Tryz.underlying0
 a0:=Tryz.isAgg0
 z0:=Tryz.sizeOf0
 v0:=Tryz.zeroValue0
 t24:=Tryz.underlying40
 a24:=Tryz.isAgg40
 z24:=Tryz.sizeOf40
 v24:=Tryz.zeroValue40
 t26:=Tryz.underlying9
 a26:=Tryz.isAgg9
 z26:=Tryz.sizeOf9
 v26:=Tryz.zeroValue9
 t28:=Tryz.underlying290
 a28:=Tryz.isAgg290
 z28:=Tryz.sizeOf290
 v28:=Tryz.zeroValue290
 i26:=by kernel_rfl }
def Tryz.sortA_ren:Go.Shelf.Ren:=⟨fun | 6=>155 | 15=>188 | 14=>187 | 28=>222 | 29=>223 | 20=>214 | 21=>215 | 22=>216 | 23=>217 | 24=>218 | 25=>219 | 26=>220 | 27=>221 | 46=>265 | 47=>266 | 48=>267 | 49=>268 | 50=>269 | 57=>304 | n=>n,fun | 22=>40 | 24=>9 | 25=>286 | 3=>3 | 39=>27 | 0=>0 | 53=>364 | 55=>303 | 4=>4 | 46=>358 | 45=>357 | 50=>175 | 5=>5 | 9=>9 | 66=>399 | 70=>402 | 76=>430 | 77=>431 | n=>n,fun | n=>n⟩
theorem Tryz.sortA:Go.Proofs.SlLaysF.n6 Tryz.prog Tryz.sortA_ren:={
 mixed:=by kernel_rfl
 f6:=⟨Tryz.f155.name,by decide,Tryz.func155.trans (congrArg some (by kernel_rfl))⟩
 f14:=⟨Tryz.f187.name,by decide,Tryz.func187.trans (congrArg some (by kernel_rfl))⟩
 f15:=Tryz.func188.trans (congrArg some (by kernel_rfl))
 f20:=⟨Tryz.f214.name,by decide,Tryz.func214.trans (congrArg some (by kernel_rfl))⟩
 f21:=⟨Tryz.f215.name,by decide,Tryz.func215.trans (congrArg some (by kernel_rfl))⟩
 f22:=⟨Tryz.f216.name,by decide,Tryz.func216.trans (congrArg some (by kernel_rfl))⟩
 f23:=⟨Tryz.f217.name,by decide,Tryz.func217.trans (congrArg some (by kernel_rfl))⟩
 f24:=⟨Tryz.f218.name,by decide,Tryz.func218.trans (congrArg some (by kernel_rfl))⟩
 f25:=⟨Tryz.f219.name,by decide,Tryz.func219.trans (congrArg some (by kernel_rfl))⟩
 f26:=⟨Tryz.f220.name,by decide,Tryz.func220.trans (congrArg some (by kernel_rfl))⟩
 f27:=⟨Tryz.f221.name,by decide,Tryz.func221.trans (congrArg some (by kernel_rfl))⟩
 f28:=Tryz.func222.trans (congrArg some (by kernel_rfl))
 f29:=Tryz.func223.trans (congrArg some (by kernel_rfl))
 f46:=⟨Tryz.f265.name,by decide,Tryz.func265.trans (congrArg some (by kernel_rfl))⟩
 f47:=Tryz.func266.trans (congrArg some (by kernel_rfl))
 f48:=Tryz.func267.trans (congrArg some (by kernel_rfl))
 f49:=⟨Tryz.f268.name,by decide,Tryz.func268.trans (congrArg some (by kernel_rfl))⟩
 f50:=⟨Tryz.f269.name,by decide,Tryz.func269.trans (congrArg some (by kernel_rfl))⟩
 f57:=⟨Tryz.f304.name,by decide,Tryz.func304.trans (congrArg some (by kernel_rfl))⟩
 t0:=Tryz.underlying0
 a0:=Tryz.isAgg0
 z0:=Tryz.sizeOf0
 v0:=Tryz.zeroValue0
 t3:=Tryz.underlying3
 a3:=Tryz.isAgg3
 z3:=Tryz.sizeOf3
 v3:=Tryz.zeroValue3
 t4:=Tryz.underlying4
 a4:=Tryz.isAgg4
 z4:=Tryz.sizeOf4
 v4:=Tryz.zeroValue4
 t5:=Tryz.underlying5
 a5:=Tryz.isAgg5
 z5:=Tryz.sizeOf5
 v5:=Tryz.zeroValue5
 t9:=Tryz.underlying9
 a9:=Tryz.isAgg9
 z9:=Tryz.sizeOf9
 v9:=Tryz.zeroValue9
 t22:=Tryz.underlying40
 a22:=Tryz.isAgg40
 z22:=Tryz.sizeOf40
 v22:=Tryz.zeroValue40
 a24:=Tryz.isAgg9
 z24:=Tryz.sizeOf9
 t25:=Tryz.underlying286
 a25:=Tryz.isAgg286
 z25:=Tryz.sizeOf286
 v25:=Tryz.zeroValue286
 t39:=Tryz.underlying27
 a39:=Tryz.isAgg27
 z39:=Tryz.sizeOf27
 v39:=Tryz.zeroValue27
 t45:=Tryz.underlying357
 a45:=Tryz.isAgg357
 z45:=Tryz.sizeOf357
 v45:=Tryz.zeroValue357
 t46:=Tryz.underlying358
 a46:=Tryz.isAgg358
 z46:=Tryz.sizeOf358
 v46:=Tryz.zeroValue358
 t50:=Tryz.underlying175
 a50:=Tryz.isAgg175
 z50:=Tryz.sizeOf175
 v50:=Tryz.zeroValue175
 t53:=Tryz.underlying364
 a53:=Tryz.isAgg364
 z53:=Tryz.sizeOf364
 v53:=Tryz.zeroValue364
 t55:=Tryz.underlying303
 a55:=Tryz.isAgg303
 z55:=Tryz.sizeOf303
 v55:=Tryz.zeroValue303
 t66:=Tryz.underlying399
 a66:=Tryz.isAgg399
 z66:=Tryz.sizeOf399
 v66:=Tryz.zeroValue399
 t70:=Tryz.underlying402
 a70:=Tryz.isAgg402
 z70:=Tryz.sizeOf402
 v70:=Tryz.zeroValue402
 t76:=Tryz.underlying430
 a76:=Tryz.isAgg430
 z76:=Tryz.sizeOf430
 v76:=Tryz.zeroValue430
 t77:=Tryz.underlying431
 a77:=Tryz.isAgg431
 z77:=Tryz.sizeOf431
 v77:=Tryz.zeroValue431 }
end Go.Proofs
namespace Go.Proofs.YthiafifdiaplaaaGreatDoor
open Go Go.RowKit Go.Proofs
def xSs (B:Nat)(w:World)(v:Value)(xs:List ByteArray):Prop:=(xs=[]∧v=.slice none 0 0)∨∃ b c,v=.slice (some ⟨b,0,none⟩) xs.length c∧xs.length≤c∧jJ w b 0 xs∧B≤b∧b<w.heap.size
theorem xSs.slice {B:Nat}{w:World}{v:Value}{xs:List ByteArray}(h:xSs B w v xs):∃ a c,v=.slice a xs.length c:=by
 rcases h with⟨e,h⟩ | ⟨b,c,e,_⟩
 ·exact⟨none,0,by rw[h,e];rfl⟩
 ·exact⟨_,_,e⟩
def xFt:Type:={ s:ByteArray // s.size≤100000 }
instance:Inhabited xFt:=⟨⟨⟨#[]⟩,by decide⟩⟩
def mkN (s:ByteArray)(h:s.size≤100000):xFt:=⟨s,h⟩
def encN (x:xFt):Value:=.string x.1
def cfN (x y:xFt):Int:=cmpN x.1 y.1
theorem swoN:Go.Sort.SWO (ltOf cfN) where
 irrefl x:=by unfold ltOf cfN;rw[xBm];rfl
 trans x y z h1 h2:=by
  unfold ltOf cfN at *
  rw[decide_eq_true_eq] at *
  exact xIi h1 h2
 ntrans x y z h1 h2:=by
  unfold ltOf cfN at *
  rw[decide_eq_false_iff_not] at *
  intro h3
  by_cases h:cmpN y.1 x.1<0
  ·exact h2 (xIi h h3)
  ·exact h2 (xIj h1 h ▸ h3)
theorem xA6 (w:World)(blk off m:Nat)(dk:Array xFt)(os:Array Obj)(hb:blk≤w.heap.size):Below blk w (sortWorld encN w blk off m dk os) where
 os:=rfl
 tape:=rfl
 output:=rfl
 size:=by simp[sortWorld]
 block k hk:=by
  unfold sortWorld
  rw[Go.Sort.heap_grow_old _ _ (by simp;omega)]
  unfold Go.Sort.putRow Go.Sort.mapBlock
  simp only[Array.getElem?_modify]
  rw[if_neg (by omega)]
  rfl
theorem xZl (w:World)(hG:Gl w)(blk off n:Nat)(hb:Tryz.prog.globals.size≤blk)(hbl:blk≤w.heap.size):CmpLays1 Tryz.prog 156 #[] encN cfN blk off n w:=fun m os dk _ x y=>by
 refine(xQc x.1 y.1 (sortWorld encN w blk off m dk os) (hG.below (xA6 w blk off m dk os hbl) hb) x.2 y.2).mono ?_
 rintro e w' ⟨rfl,_,rfl⟩
 refine⟨rfl,0,#[.cells ((yG 46 x.1).map Value.string).toArray 9,.cells ((yG 46 y.1).map Value.string).toArray 9],?_⟩
 rw[Go.Sort.alloc_eq_grow,Go.Sort.alloc_eq_grow,Go.Sort.grow_grow]
 rfl
def xNj (_:Value):Option (DataW Unit × List MemPlace):=some (.nil,[])
def xA0 (P:Program)(gs:List MG):DataW Unit:=.map (((gs.map fun G=>enE ekS G.e).map (Go.WideElems.rg P 9 xNj)).foldr DataW.insert [])
theorem xKl {s:ByteArray}(h:zV s=0):s.size≤80:=by
 unfold zV at h
 split at h
 ·cases h
 ·omega
theorem xT2 (G:MG)(h:zV G.name=0):Go.WideElems.rd Tryz.prog 9 xNj (enE ekS G.e)=some (.string G.name.data.toList,.nil):=by
 have hs:=xKl h
 have hk:Go.keyOf Tryz.prog 9 (.string G.name)=some (.string G.name.data.toList):=Go.WideMaps.keyOf_string_mk Tryz.underlying9 (by unfold maxLen;omega)
 unfold Go.WideElems.rd
 show (Go.keyOf Tryz.prog 9 (.string G.name)).bind _=_
 rw[hk]
 rfl
theorem ye.owns {B:Nat}{w:World}{ib M mc:Nat}{gs:List MG}(h:ye B w ib M gs mc)(hn:gs.length≤65536):w.ownsMap Tryz.prog 9 xNj M gs.length (xA0 Tryz.prog gs):=by
 refine⟨_,mc,h.map,⟨?_,⟨?_,?_,?_⟩,?_⟩,by simp,?_⟩
 ·simp;unfold maxLen;omega
 ·intro x hx
  simp only[List.map_map,List.mem_map,Function.comp] at hx
  obtain⟨G,hG,rfl⟩:=hx
  exact h.young G hG
 ·simp only[List.map_map]
  exact h.born
 ·simp only[List.map_map]
  have:(gs.map fun G=>Value.string G.name).Nodup:=by
   have:=h.names
   unfold List.Nodup at *
   rw[List.pairwise_map] at *
   exact this.imp fun hne e=>hne (Value.string.inj e)
  exact this
 ·intro x hx
  simp only[List.map_map,List.mem_map,Function.comp] at hx
  obtain⟨G,hG,rfl⟩:=hx
  exact⟨_,xT2 G (h.grps G hG).named⟩
 ·unfold xA0
  simp[List.map_map,Function.comp_def]
theorem xIw {B:Nat}{w:World}{ib M mc:Nat}{gs:List MG}(h:ye B w ib M gs mc):(Go.strKeys (xA0 Tryz.prog gs)).Perm (gs.map fun G=>G.name.data.toList):=by
 unfold xA0 Go.strKeys
 refine((Go.WideShapes.sorted_perm _).map _).trans ?_
 rw[List.map_map,List.map_map]
 refine List.Perm.of_eq (List.map_congr_left fun G hG=>?_)
 simp only[Function.comp]
 unfold Go.WideElems.rg
 rw[xT2 G (h.grps G hG).named]
 rfl
theorem xGq (gs:List MG):Go.Maps.size (xA0 Tryz.prog gs)=gs.length:=by
 unfold xA0
 rw[Go.Maps.size_eq,length_sorted]
 simp
theorem kq:∀ {gs:List MG},(∀ G∈gs,G.ms≠[])→gs.length≤xS gs
 | [],_=>Nat.zero_le _
 | G :: gs,h=>by
  have h1:=kq (gs:=gs) (fun K hK=>h K (by simp[hK]))
  have h2:0<G.ms.length:=List.length_pos_iff.2 (h G (by simp))
  unfold xS at *
  rw[List.map_cons,List.sum_cons,List.length_cons]
  omega
theorem ye.groups {B:Nat}{w:World}{ib M mc:Nat}{gs:List MG}(h:ye B w ib M gs mc):gs.length≤65536 :=
 Nat.le_trans (kq fun G hG=>(h.grps G hG).some') h.few
def xIu (gs:List MG)(w:World)(r:Ending)(w':World):Prop:=∃ v ns,r=.returned v∧xSs w.heap.size w' v ns∧ordN ns∧(∀ t,t∈ns↔∃ G∈gs,G.name=t)∧Below w.heap.size w w'
theorem xOo:∀ (ss:List ByteArray) (hd:∀ s∈ss,s.size≤100000),ss.pmap (fun a h=>(mkN a h).1) hd=ss
 | [],_=>rfl
 | s :: ss,hd=>by
  rw[List.pmap_cons,xOo ss]
  rfl
theorem xR7 {w w':World}{blk:Nat}{ss:List ByteArray}(hd:∀ s∈ss,s.size≤100000)(hn:ss.Nodup)(_hr:jJ w blk 0 ss)(hb:blk<w.heap.size)(d':Array xFt)(n:Nat)(os:Array Obj)
  (hH:Go.Sort.Holds encN w blk 0 (ss.pmap mkN hd).toArray)
  (hp:Go.Sort.PermIn 0 (ss.pmap mkN hd).toArray.size (ss.pmap mkN hd).toArray d') (hs:Go.Sort.SortedIn (ltOf cfN) 0 (ss.pmap mkN hd).toArray.size d') (hw:w'=sortWorld encN w blk 0 n d' os) :
  ∃ ns:List ByteArray,ns.length=ss.length∧jJ w' blk 0 ns∧ordN ns∧∀ t,t∈ns↔t∈ss:=by
 obtain⟨hsz,_,hperm⟩:=hp
 have hsz':d'.size=ss.length:=by rw[hsz];simp
 have e1:d'.extract 0 ((ss.pmap mkN hd).toArray).size=d':=by rw[←hsz];exact Array.extract_size
 rw[e1,Array.extract_size] at hperm
 have hpn:(d'.toList.map (·.1)).Perm ss:=by
  have:=hperm.map (fun x:xFt=>x.1)
  rw[List.toList_toArray,List.map_pmap] at this
  exact xOo ss hd ▸ this
 refine⟨d'.toList.map (·.1),by simp[hsz'],?_,?_,fun t=>hpn.mem_iff⟩
 ·intro k x hx
  have hk:k<d'.size:=by
   have:=(List.getElem?_eq_some_iff.1 hx).1
   simpa using this
  have h1:=(Go.Proofs.holds_sortWorld encN w blk 0 n _ d' os hb hH hsz) k hk
  rw[hw,h1.1]
  rw[List.getElem?_map,Array.getElem?_toList,Array.getElem?_eq_getElem hk] at hx
  simp only[Option.map_some,Option.some.injEq] at hx
  rw[getElem!_pos d' k hk]
  unfold encN
  rw[hx]
 ·unfold ordN
  have hnd:(d'.toList.map (·.1)).Nodup:=hpn.nodup_iff.2 hn
  rw[List.pairwise_iff_getElem]
  intro i j hi hj hij
  simp only[List.length_map,Array.length_toList] at hi hj
  have h1:=hs i j (Nat.zero_le _) hij (by rw[←hsz];exact hj)
  rw[getElem!_pos d' i hi,getElem!_pos d' j hj] at h1
  unfold ltOf cfN at h1
  rw[decide_eq_false_iff_not] at h1
  simp only[List.getElem_map,Array.getElem_toList]
  refine Classical.byContradiction fun h2=>?_
  have e:=xIj h2 h1
  have h3:=List.pairwise_iff_getElem.1 hnd i j (by simpa using hi) (by simpa using hj) hij
  simp only[List.getElem_map,Array.getElem_toList] at h3
  exact h3 e
theorem xKf (bs:List ByteArray)(hbz:∀ s∈bs,s.size≤100000):(bs.pmap mkN hbz).toArray.size=bs.length:=by simp
theorem xW5 (g cap:Nat)(bs:List ByteArray)(w2:World)(hG2:Gl w2)(hbz:∀ s∈bs,s.size≤100000)(hglt:g<w2.heap.size)(hg:Tryz.prog.globals.size≤g)(hHo:Go.Sort.Holds encN w2 g 0 (bs.pmap mkN hbz).toArray)(hlen:bs.length≤65536) :
  Calls Tryz.prog (Tryz.sortA_ren.f 6) #[.slice (some ⟨g,0,none⟩) (bs.pmap mkN hbz).toArray.size cap,.func (.func 156) #[] #[]] w2 fun e w' =>
     e=.returned (.tuple #[])∧∃ d' n os,Go.Sort.PermIn 0 (bs.pmap mkN hbz).toArray.size (bs.pmap mkN hbz).toArray d'∧Go.Sort.SortedIn (ltOf cfN) 0 (bs.pmap mkN hbz).toArray.size d'∧w'=sortWorld encN w2 g 0 n d' os :=
 Any.slices_SortFunc Tryz.sortA encN (fun _=>rfl) cfN swoN 156 #[] g 0 cap (bs.pmap mkN hbz).toArray w2 (enters_of Tryz.func156 (by kernel_rfl) rfl) (xZl w2 hG2 g 0 _ hg (by omega)) hHo hglt (by rw[xKf];omega)
theorem xYv:Tryz.sortA_ren.f 6=155:=rfl
theorem xUa (g cap n:Nat)(bs:List ByteArray)(w2:World)(hG2:Gl w2)(hbz:∀ s∈bs,s.size≤100000)(hglt:g<w2.heap.size)(hg:Tryz.prog.globals.size≤g)(hHo:Go.Sort.Holds encN w2 g 0 (bs.pmap mkN hbz).toArray)(hlen:bs.length≤65536)(hn:n=bs.length) :
  Calls Tryz.prog 155 #[.slice (some ⟨g,0,none⟩) n cap,.func (.func 156) #[] #[]] w2 fun e w' =>
     e=.returned (.tuple #[])∧∃ d' n os,Go.Sort.PermIn 0 (bs.pmap mkN hbz).toArray.size (bs.pmap mkN hbz).toArray d'∧Go.Sort.SortedIn (ltOf cfN) 0 (bs.pmap mkN hbz).toArray.size d'∧w'=sortWorld encN w2 g 0 n d' os:=by
 have h:=xW5 g cap bs w2 hG2 hbz hglt hg hHo hlen
 rw[xYv] at h
 have e:(n:Nat)=(bs.pmap mkN hbz).toArray.size:=by rw[xKf,hn]
 rw[e]
 exact h
theorem xHz (B ib M mc:Nat)(gs:List MG)(w:World)(hG:Gl w)(h:ye B w ib M gs mc) :
  Calls Tryz.prog 119 #[.pointer (some ⟨ib,0,none⟩)] w fun r w'=>xIu gs w r w':=by
 have hc:=h.cell0
 obtain⟨W1,hW1⟩:∃ W1,W1=w.alloc (.cells #[.map (some M)] 191):=⟨_,rfl⟩
 have hb1:Below w.heap.size w W1:=by rw[hW1];exact b_ _ _
 have hX1:=h.below hb1
 have hs1:W1.heap.size=w.heap.size+1:=by rw[hW1];simp
 have hm1:W1.cell? ⟨w.heap.size,0,none⟩=some (.map (some M)):=by rw[hW1];exact yy w _ _ 0
 have hown:=hX1.owns h.groups
 have hseq:SeqGives Fence.wide 2 Tryz.prog 194 #[.pointer (some ⟨w.heap.size,0,none⟩)] encStr (fun ss=>ss.Perm (Go.strKeys (xA0 Tryz.prog gs))) (Go.Maps.size (xA0 Tryz.prog gs)) W1 :=
  AnyZ.keys_gives (ρ:=Tryz.keysA_ren) { Tryz.keysA with } Fence.wide _ trivial rfl (by omega) w.heap.size M gs.length _ _ (by omega) hm1 hown
 have hK:Calls Tryz.prog 160 #[.map (some M)] w fun e w'=>e=.returned (.func (.func 194) #[] #[.pointer (some ⟨w.heap.size,0,none⟩)])∧w'=W1:=by
  rw[hW1]
  exact(callsIn_wide (n:=5)).1 (AnyZ.keys_in Tryz.keysA Fence.wide 5 trivial rfl (some M) w)
 have hgl:=h.groups
 have hC:Calls Tryz.prog 193 #[.func (.func 194) #[] #[.pointer (some ⟨w.heap.size,0,none⟩)]] W1 fun e w'=>∃ (v:Value) (ss:List (List UInt8)),e=.returned v∧ss.Perm (Go.strKeys (xA0 Tryz.prog gs))∧w'.ownsRow W1.heap.size 9 1 v ss.length (ss.map encStr)∧(v=.slice none 0 0↔ss=[])∧Below W1.heap.size W1 w' :=
  (callsIn_wide (n:=4)).1 (AnyZ.collect_in Tryz.collectA Fence.wide 4 trivial trivial rfl (by omega) 194 _ trivial (enters_of Tryz.func194 (by kernel_rfl) rfl) _ _ (by rw[xGq];unfold maxLen;omega) (by rw[xGq];omega) W1 hseq)
 have hkeys:=xIw h
 have hnames:∀ G∈gs,G.name.size≤80:=fun G hG=>xKl (h.grps G hG).named
 have hnd:=h.names
 have HS:Hid (Calls Tryz.prog 159 #[.func (.func 194) #[] #[.pointer (some ⟨w.heap.size,0,none⟩)],.func (.func 156) #[] #[]] W1 fun r w'=>xIu gs w r w'):=h_ (by
  have HC:=h_ hC
  have HG:=h_ (hG.later hb1)
  have HB1:=h_ hb1
  clear hC hK hseq hown hX1 hc h hG hb1 hm1 hW1
  go_enter Tryz.func159,Tryz.ntmps159
  go_wp2_with fail
  refine HC.out.mono ?_
  rintro r w2 ⟨v,ss,rfl,hp,hrow,hnil,hb2⟩
  have hB2:=HB1.out.trans (hb2.mono (by omega))
  have hpn:ss.Perm (gs.map fun G=>G.name.data.toList):=hp.trans hkeys
  have hG2:=HG.out.later hb2
  have HB2:=h_ hB2
  rcases hrow.2 with⟨rfl,h0⟩ | ⟨g,cap,cur,rfl,hg,hcur,hle,hmx,hcs,htk⟩
  ·have hss:ss=[]:=List.length_eq_zero_iff.1 h0
   have hgs:gs=[]:=by
    rw[hss] at hpn
    have:=hpn.symm.eq_nil
    simpa using this
   clear hrow hnil hb2 hB2 hp hpn hG2 HG HC HB1 hkeys h0 hnames hnd hs1 hgl
   go_wp2_with fail
   refine(AnyF.slices_SortFunc_none (L:={ Tryz.sortA with }) none 0 _ w2).mono ?_
   rintro r w' ⟨rfl,rfl⟩
   go_wp2
   go_ret
   exact⟨_,[],rfl,.inl ⟨rfl,rfl⟩,.nil,fun t=>by rw[hgs];simp,HB2.out⟩
  ·obtain⟨bs,hbs⟩:∃ bs:List ByteArray,bs=ss.map str:=⟨_,rfl⟩
   have hbl:bs.length=ss.length:=by rw[hbs];simp
   have hbp:bs.Perm (gs.map fun G=>G.name):=by
    rw[hbs]
    refine(hpn.map str).trans ?_
    rw[List.map_map]
    refine List.Perm.of_eq (List.map_congr_left fun G _=>?_)
    rfl
   have hbn:bs.Nodup:=hbp.nodup_iff.2 hnd
   have hbz:∀ s∈bs,s.size≤100000:=fun s hs=>by
    obtain⟨G,hG,e⟩:=List.mem_map.1 (hbp.mem_iff.1 hs)
    have:=hnames G hG
    rw[←e];omega
   have hlen:ss.length=gs.length:=by
    have:=hpn.length_eq
    simpa using this
   have hglt:=(i_ hcur).1
   have hsr:jJ w2 g 0 bs:=fun k x hx=>by
    have:=World.ownsRow.cells hrow (g:=g) rfl k (.string x) (by
     rw[hbs,List.getElem?_map] at hx
     rw[List.getElem?_map]
     cases hk:ss[k]? with
     | none=>rw[hk] at hx;cases hx
     | some l=>rw[hk] at hx;cases hx;rfl)
    rwa [Addr.add_lit] at this
   have hHo:Go.Sort.Holds encN w2 g 0 (bs.pmap mkN hbz).toArray:=fun j hj=>by
    have hj':j<bs.length:=by simpa using hj
    refine⟨?_,?_⟩
    ·rw[hsr j bs[j] (List.getElem?_eq_getElem hj'),getElem!_pos _ j hj]
     simp only[List.getElem_toArray,List.getElem_pmap]
     rfl
    ·unfold World.frozen?
     rw[hcur]
     simp
   have hsz:(bs.pmap mkN hbz).toArray.size=ss.length:=by simp[hbl]
   have HSO:=h_ (xUa g cap ss.length bs w2 hG2 hbz hglt (Nat.le_trans (HG.out.size) hg) hHo (by omega) hbl.symm)
   have HFIN:=h_ (fun (w':World) (d':Array xFt) n os hp hs hw=>xR7 (w:=w2) (w':=w') hbz hbn hsr hglt d' n os hHo hp hs hw)
   have HMEM:Hid (∀ t,t∈bs↔∃ G∈gs,G.name=t):=h_ (fun t=>by rw[hbp.mem_iff,List.mem_map])
   have HBL:=h_ hbl
   have HLEN:=h_ hlen
   clear hHo hsr hrow hnil hb2 hB2 hp hpn hG2 HC hkeys hnames hnd hcs htk hbn hbp hbs hcur hbl hlen hsz
   clear HG HB1
   go_wp2_with fail
   refine HSO.out.mono ?_
   rintro r w3 ⟨rfl,d',n,os,hp,hs,hw⟩
   obtain⟨ns,hnl,hr3,ho3,hm3⟩:=HFIN.out w3 d' n os hp hs hw
   have hB3:Below g w2 w3:=by rw[hw];exact xA6 w2 g 0 n d' os (by omega)
   have HB3:=h_ (HB2.out.trans (hB3.mono (by omega)))
   have hl3:g<w3.heap.size:=Nat.lt_of_lt_of_le hglt hB3.size
   clear hp hs hw HFIN HSO hB3
   have hnl':=h_ (show ns.length=ss.length by rw[hnl,HBL.out])
   clear hnl
   go_wp2
   go_ret
   exact⟨_,ns,rfl,.inr ⟨g,cap,by rw[hnl'.out];rfl,by rw[hnl'.out];exact hle,hr3,by omega,hl3⟩,ho3,fun t=>(hm3 t).trans (HMEM.out t),HB3.out⟩)
 have HK:=h_ hK
 clear hC hK hseq hown hX1 h hG hb1 hm1 hkeys hnames hnd hs1 hgl
 clear hW1
 go_enter Tryz.func119,Tryz.ntmps119
 go_wp2_with fail
 refine HK.out.mono ?_
 rintro r w' ⟨rfl,rfl⟩
 go_wp2_with fail
 refine HS.out.mono ?_
 rintro r w' ⟨v,ns,rfl,hpost⟩
 have HP:=h_ hpost
 obtain⟨va,vc,rfl⟩:=hpost.1.slice
 clear hpost
 go_wp2
 go_ret
 exact⟨_,ns,rfl,HP.out⟩
section
attribute [local go_sem ↓] xV xO yp yh yq yB
attribute [local go_sem] zx zA zG zF yW xj xh xe xd xA xz xo xl xt xC xx
abbrev PL:Type:=ByteArray × Int
def xAy (ps:List PL):List Value:=ps.flatMap fun p=>[.string p.1,.int .i64 p.2]
theorem xS5 (ps:List PL)(p:PL):xAy (ps++[p])=xAy ps++[.string p.1,.int .i64 p.2]:=by simp[xAy]
theorem xKx:∀ (ps:List PL) (j:Nat) (hj:j<ps.length),(xAy ps)[j*2]?=some (.string ps[j].1)∧(xAy ps)[j*2+1]?=some (.int .i64 ps[j].2)
 | p :: ps,0,_=>⟨rfl,rfl⟩
 | p :: ps,j+1,hj=>by
  have:=xKx ps j (by simpa using hj)
  have e:xAy (p :: ps)=.string p.1 :: .int .i64 p.2 :: xAy ps:=rfl
  rw[e,show (j+1)*2=j*2+1+1 by omega]
  exact this
def uW (gs:List MG)(x:Id32)(t:ByteArray):Option PL:=((xD gs t).find? fun m=>decide (m.p.id=x)).map fun m=>(t,m.p.number)
def za (gs:List MG)(ns:List ByteArray)(x:Id32):List PL:=ns.filterMap (uW gs x)
theorem xLg (gs:List MG)(ns:List ByteArray)(x:Id32)(t:ByteArray):za gs (ns++[t]) x=za gs ns x++(uW gs x t).toList:=by
 unfold za
 rw[List.filterMap_append]
 cases h:uW gs x t <;> simp[h]
theorem Tryz.info_place:(Tryz.prog.info? 181).map (fun i=>(i.zero,i.size,i.bytes))=some (some (.agg #[.string ⟨#[]⟩,.int .i64 0]),2,24):=by kernel_rfl
def xVj (gs:List MG)(x:Id32)(w:World)(r:Ending)(w':World):Prop:=∃ v ns,r=.returned v∧w'.ownsRow w.heap.size 181 2 v (za gs ns x).length (xAy (za gs ns x))∧ordN ns∧(∀ t,t∈ns↔∃ G∈gs,G.name=t)∧Below w.heap.size w w'
theorem kO {gs:List MG}(hn:(gs.map fun G=>G.name).Nodup){G:MG}(hG:G∈gs):yk gs G.name=some G:=by
 unfold yk
 cases h:gs.find? fun H=>decide (H.name=G.name) with
 | none =>
  rw[List.find?_eq_none] at h
  exact absurd (h G hG) (by simp)
 | some H =>
  have h1:=List.mem_of_find?_eq_some h
  have h2:H.name=G.name:=by simpa using List.find?_some h
  rw[xAr hn H h1 G hG h2]
theorem xPp {ms:List ML}{x:Id32}(hn:(ms.map fun m=>m.p.id).Nodup){m:ML}(hm:m∈ms)(he:m.p.id=x):(ms.find? fun m=>decide (m.p.id=x))=some m:=by
 induction ms with
 | nil=>cases hm
 | cons a ms ih =>
  rw[List.map_cons,List.nodup_cons] at hn
  rw[List.find?_cons]
  rcases List.mem_cons.1 hm with rfl | hm'
  ·rw[decide_eq_true he]
  ·have:¬ a.p.id=x:=fun e=>hn.1 (by rw[e,←he];exact List.mem_map.2 ⟨m,hm',rfl⟩)
   rw[decide_eq_false this]
   exact ih hn.2 hm'
theorem xEc {w:World}{B t s n:Nat}{v:Value}{xs:List Value}(h:w.ownsRow B t s v n xs):∃ a n c,v=.slice a n c:=by
 rcases h.2 with⟨e,_⟩ | ⟨g,cap,cur,e,_⟩
 ·exact⟨_,_,_,e⟩
 ·exact⟨_,_,_,e⟩
theorem kJ {W:World}{B B' t s n:Nat}{v:Value}{xs:List Value}(h:W.ownsRow B t s v n xs)(hb:B'≤B):W.ownsRow B' t s v n xs:=by
 refine⟨h.1,?_⟩
 rcases h.2 with hn | ⟨g,cap,cur,hv,hbg,rest⟩
 ·exact .inl hn
 ·exact .inr ⟨g,cap,cur,hv,Nat.le_trans hb hbg,rest⟩
theorem yE {w:World}{b:Nat}{x:Id32}{t:TypeId}(h:w.heap[b]?=some (.cells (xB x).toArray t (0,0))):xq w ⟨b,0,none⟩ 32=true∧xp w ⟨b,0,none⟩ 32=(xB x).toArray:=by
 have:=y7 (w:=w) (a:=⟨b,0,none⟩) (cs:=xB x) (fun j v hj=>by
  rw[Addr.add_lit,cell_of_row w b (0+j) _ _ _ h,Nat.zero_add,List.getElem?_toArray];exact hj)
 rwa [xF] at this
theorem xJy (B ib M mc:Nat)(gs:List MG)(x:Id32)(w:World)(hG:Gl w)(h:ye B w ib M gs mc) :
  Calls Tryz.prog 87 #[.pointer (some ⟨ib,0,none⟩),.agg (xB x).toArray] w fun r w'=>xVj gs x w r w':=by
 obtain⟨i0,hi,hz0,hz1,hz2⟩:=info_parts Tryz.info_place
 obtain⟨W,hW⟩:∃ W,W=w.alloc (.cells (xB x).toArray 39):=⟨_,rfl⟩
 have hb0:Below w.heap.size w W:=by rw[hW];exact b_ _ _
 have hs0:W.heap.size=w.heap.size+1:=by rw[hW];simp
 have hid:W.heap[w.heap.size]?=some (.cells (xB x).toArray 39 (0,0)):=by rw[hW];exact heap_alloc_new _ _
 have HGR:=h_ (xHz B ib M mc gs W (hG.later hb0) (h.below hb0))
 have HB:=h_ hb0
 have HID:=h_ hid
 have HX:=h_ h
 clear hid hb0 h hG
 go_enter Tryz.func87,Tryz.ntmps87
 go_wp2_with fail
 rw[←hW]
 clear hW
 refine HGR.out.mono ?_
 rintro r w1 ⟨v,ns,rfl,hns,hord,hmem,hb1⟩
 have hB1:Below w.heap.size w w1:=HB.out.trans (hb1.mono HB.out.size)
 have hid1:=(hb1.block w.heap.size (by omega)).trans HID.out
 have hs1:w.heap.size<w1.heap.size:=by have:=hb1.size;omega
 have HB1:=h_ hB1
 have HID1:=h_ hid1
 have HX1:=h_ (HX.out.below hB1)
 have HM:=h_ hmem
 have HO:=h_ hord
 clear hB1 hid1 hb1 HB HID HX HGR hmem hord hs0
 have hnl:ns.length≤65536:=by
  have h1:ns.Nodup:=HO.out.imp fun {a b} hab e=>by rw[e,xBm] at hab;omega
  have h2:ns.length≤(gs.map fun G=>G.name).length:=h1.length_le_of_subset fun t ht=>by
   obtain⟨G,hG,e⟩:=(HM.out t).1 ht
   exact List.mem_map.2 ⟨G,hG,e⟩
  rw[List.length_map] at h2
  exact Nat.le_trans h2 HX1.out.groups
 rcases hns with⟨rfl,rfl⟩ | ⟨b,c,rfl,hc,hrow,hbB,hbl⟩
 ·go_wp2
  go_loop [5,13] (fun p i=>p=.slice none 0 0∧i=.int .i64 0) (fun _ _=>0)
  case atStart=>exact⟨rfl,rfl⟩
  case round =>
   obtain⟨rfl,rfl⟩:=hrel
   go_wp2
   go_ret
   exact⟨_,[],rfl,World.ownsRow_nil _ _ _ _,HO.out,HM.out,HB1.out⟩
 ·have HR:=h_ hrow
  clear hrow
  go_wp2
  go_loopw [5,13] (fun p i wr=>∃ k:Nat,k≤ns.length∧i=.int .i64 k∧wr.ownsRow w1.heap.size 181 2 p (za gs (ns.take k) x).length (xAy (za gs (ns.take k) x))∧Below w1.heap.size w1 wr) (fun _ i _=>ns.length-(intOf i).toNat)
  case atStart=>exact⟨0,by omega,rfl,World.ownsRow_nil _ _ _ _,Below.refl _ _⟩
  case round =>
   obtain⟨k,hk,rfl,hown,hb⟩:=hrel
   by_cases hlt:k<ns.length
   ·have hltz:(k:Int)<(ns.length:Int):=by omega
    have hcell:wr.cell? ⟨b,k,none⟩=some (.string ns[k]):=by
     have:=HR.out k _ (List.getElem?_eq_getElem hlt)
     rw[Nat.zero_add] at this
     exact(hb.cell (p:=⟨b,k,none⟩) hbl).trans this
    have HTK:Hid (za gs (ns.take (k+1)) x=za gs (ns.take k) x++(uW gs x ns[k]).toList):=h_ (by
     rw[List.take_succ_eq_append_getElem hlt,xLg])
    obtain⟨G,hGm,hGn⟩:=(HM.out ns[k]).1 (List.getElem_mem hlt)
    have hXr:=HX1.out.below hb
    have hgo:yk gs ns[k]=some G:=by rw[←hGn];exact kO hXr.names hGm
    have hli:xD gs ns[k]=G.ms:=by unfold xD;rw[hgo]
    have hgr:=hXr.grps G hGm
    have hidr:=(hb.block w.heap.size hs1).trans HID1.out
    generalize ns[k]=t at hcell HTK hGn hgo hli
    have q1:∀ n,(wr.drewN n).cell? ⟨ib,0,none⟩=some (.map (some M)):=fun n=>by rw[World.cell?_drewN];exact hXr.cell0
    have q2:∀ n,(Instr.lookup 191 (.map (some M)) (.string t) false).run Tryz.prog (wr.drewN n)=.ok (.pointer (some ⟨G.gb,0,none⟩)) (wr.drewN n):=fun n=>by
     have:=(hXr.below (below_drewN' (Below.refl _ _) n)).look t
     rw[hgo] at this
     exact this
    have q3:∀ n,(wr.drewN n).cell? ⟨G.gb,1,none⟩=some (.map (some G.nb)):=fun n=>by rw[World.cell?_drewN];exact cell_of_row wr G.gb 1 _ _ _ hgr.blk
    have q4:∀ n,(Instr.lookup 195 (.map (some G.nb)) (.agg (xB x).toArray) true).run Tryz.prog (wr.drewN n)=.ok (.tuple #[((yM x G.nl 0).map (·.2)).getD (.int .i64 0),.bool (yM x G.nl 0).isSome]) (wr.drewN n):=fun n =>
     xBd keyI Tryz.underlying195 (.int .i64 0) xNo (wr.drewN n) G.nb G.nl G.nc hgr.nums x
    have hrd:xq wr ⟨w.heap.size,0,none⟩ 32=true∧xp wr ⟨w.heap.size,0,none⟩ 32=(xB x).toArray:=yE hidr
    have q5:∀ n,xq (wr.drewN n) ⟨w.heap.size,0,none⟩ 32=true:=fun n=>by rw[xe];exact hrd.1
    have q6:∀ n,xp (wr.drewN n) ⟨w.heap.size,0,none⟩ 32=(xB x).toArray:=fun n=>by rw[xd];exact hrd.2
    by_cases hin:∃ m∈G.ms,m.p.id=x
    ·obtain⟨m,hm,hmx⟩:=hin
     obtain⟨j,hj,_⟩:=hgr.find_yes hm
     rw[hmx] at hj
     rw[hj] at q4
     have HPL:Hid (uW gs x t=some (t,m.p.number)):=h_ (by unfold uW;rw[hli,xPp hgr.ids hm hmx];rfl)
     have HOWN:=h_ hown
     have HBr:=h_ hb
     clear hj hgr hXr hrd hown hb hidr hgo hli hGn hm hmx
     go_wp2_with fail
     go_quiet (fail)
     clear q1 q2 q3 q4 q5 q6 hcell
     have hown1:(wr.drewN nq).ownsRow w1.heap.size 181 2 u5 (za gs (ns.take k) x).length (xAy (za gs (ns.take k) x)):=HOWN.out
     have hBr1:Below w1.heap.size w1 (wr.drewN nq):=below_drewN' HBr.out nq
     generalize wr.drewN nq=W2 at hown1 hBr1 ⊢
     have HBr1:=h_ hBr1
     have hownA:=hown1.alloc (.cells #[.string t,.int .i64 m.p.number] 181)
     clear HOWN HBr hBr1
     have hlen2:(za gs (ns.take k) x).length≤k:=by
      unfold za
      exact Nat.le_trans (List.length_filterMap_le _ _) (by rw[List.length_take];omega)
     have hlt2:=h_ (fun j hj=>(hown1.lt j hj).1)
     clear hown1
     obtain⟨nn,hnn⟩:∃ nn,nn=(za gs (ns.take k) x).length:=⟨_,rfl⟩
     rw[←hnn] at hownA hlen2
     have HNN:=h_ hnn
     clear hnn
     go_wp2_with (at_builtin;refine wpList_append_own _ rfl (.tmp 32) (.tmp 36) 179 rfl w1.heap.size 181 i0 (.agg #[.string ⟨#[]⟩,.int .i64 0]) 2 24 Tryz.underlying179 hi hz0 hz1 hz2 rfl (by decide) _ _ _ rfl hownA ⟨W2.heap.size,0,none⟩ 1 1 [.string t,.int .i64 m.p.number] rfl rfl ?c1 ?c2 ?c3 ?c4 ?c5 ?_)
     case c1 =>
      intro j u hj
      rw[Addr.add_lit,Nat.zero_add,yy]
      match j,hj with
      | 0,hj=>simpa using hj
      | 1,hj=>simpa using hj
     case c2=>intro u hu;simp at hu;rcases hu with rfl | rfl <;> rfl
     case c3=>unfold maxLen;omega
     case c4=>omega
     case c5=>have:=HBr1.out.size;simp;omega
     intro v' w3 hown' hgrow _
     have hb3:Below w1.heap.size w1 w3:=(HBr1.out.alloc HBr1.out.size _).grown hgrow (by have:=HBr1.out.size;simp;omega) (fun j hj=>hlt2.out j hj)
     clear hownA hgrow
     go_wp2
     go_roundw
     case rel=>exact⟨k+1,by omega,by go_num,by rw[HTK.out,HPL.out,Option.toList_some,xS5,List.length_append,←HNN.out];exact hown',hb3⟩
     case measure=>simp[intOf];omega
    ·have hno:∀ m∈G.ms,m.p.id≠x:=fun m hm e=>hin ⟨m,hm,e⟩
     rw[hgr.find_no hno] at q4
     have HPL:Hid (uW gs x t=none):=h_ (by
      unfold uW
      rw[hli,Option.map_eq_none_iff,List.find?_eq_none]
      intro m hm hx
      exact hno m hm (by simpa using hx))
     have HOWN:=h_ hown
     have HBr:=h_ hb
     clear hgr hXr hrd hown hb hidr hgo hli hGn hin hno
     go_wp2_with fail
     go_quiet (fail)
     clear q1 q2 q3 q4 q5 q6 hcell
     go_wp2
     go_roundw
     case rel=>exact⟨k+1,by omega,by go_num,by rw[HTK.out,HPL.out,Option.toList_none,List.append_nil];exact HOWN.out,below_drewN' HBr.out _⟩
     case measure=>simp[intOf];omega
   ·have HE:Hid (ns.take k=ns):=h_ (List.take_of_length_le (by omega))
    obtain⟨pa,pn,pc,hp⟩:∃ a n c,u5=.slice a n c:=xEc hown
    have HOWN:=h_ hown
    subst hp
    clear hown
    go_wp2
    go_ret
    refine⟨_,ns,rfl,?_,HO.out,HM.out,HB1.out.trans (hb.mono HB1.out.size)⟩
    have:=HOWN.out
    rw[HE.out] at this
    exact kJ this HB1.out.size
end
theorem yAz {B:Nat}{w:World}{ib M mc:Nat}{gs:List MG}(h:ye B w ib M gs mc)(t:ByteArray):((xD gs t).map fun m=>m.p.id).Nodup:=by
 by_cases hne:xD gs t=[]
 ·rw[hne];exact .nil
 ·obtain⟨G,hG,e,_⟩:=jz hne
  rw[e]
  exact(h.grps G (yL hG).1).ids
def xD7 (ms:List ML)(x:Id32):List ML:=ms.filter fun m=>decide (m.p.id≠x)
theorem xQ2:∀ {ms:List ML} {i:Nat} {m:ML},(ms.map fun m=>m.p.id).Nodup→ms[i]?=some m→ms.eraseIdx i=xD7 ms m.p.id
 | a :: ms,0,m,hn,hi=>by
  rw[List.getElem?_cons_zero,Option.some.injEq] at hi
  subst hi
  rw[List.map_cons,List.nodup_cons] at hn
  unfold xD7
  rw[List.filter_cons_of_neg (by simp),List.eraseIdx_zero,List.tail_cons,List.filter_eq_self.2]
  intro b hb
  rw[decide_eq_true_eq]
  exact fun e=>hn.1 (e ▸ List.mem_map.2 ⟨b,hb,rfl⟩)
 | a :: ms,i+1,m,hn,hi=>by
  rw[List.map_cons,List.nodup_cons] at hn
  rw[List.getElem?_cons_succ] at hi
  have:a.p.id≠m.p.id:=fun e=>hn.1 (e ▸ List.mem_map.2 ⟨m,List.mem_of_getElem? hi,rfl⟩)
  unfold xD7
  rw[List.eraseIdx_cons_succ,List.filter_cons_of_pos (by simpa using this),xQ2 hn.2 hi]
  rfl
end Go.Proofs.YthiafifdiaplaaaGreatDoor
namespace Go.Proofs.YthiafifdiaplaaaGreatDoor
open Go Go.RowKit Go.Proofs
open Go.ChangeMaps (setBlock)
theorem zY.slice {B:Nat}{w:World}{G:MG}(h:zY B w G):∃ a c,G.v=.slice a G.ms.length c:=by
 rcases h.lines.head with⟨e,e2⟩ | ⟨g,cap,e,_⟩
 ·exact⟨none,0,by rw[e,e2];rfl⟩
 ·exact⟨_,_,e⟩
theorem ur (w:World)(b:Nat)(o:Obj)(h:b<w.heap.size):(setBlock w b o).heap[b]?=some o:=by
 unfold setBlock
 simp[h]
theorem yb (w:World)(b k:Nat)(o:Obj)(h:k≠b):(setBlock w b o).heap[k]?=w.heap[k]?:=by
 unfold setBlock
 simp[Ne.symm h]
def qK (gs:List MG):Array MapEntry:=((gs.map MG.e).map (enE ekS)).toArray
theorem xOx {gs:List MG}{e:MapEntry}(h:e∈(qK gs).toList):∃ G∈gs,e=enE ekS G.e:=by
 unfold qK at h
 simp only[List.mem_map] at h
 obtain⟨_,⟨G,hG,rfl⟩,rfl⟩:=h
 exact⟨G,hG,rfl⟩
theorem xUz (gs:List MG):(qK gs).toList.map (·.born)=gs.map (·.born):=by
 unfold qK
 simp only[List.map_map]
 rfl
theorem xY8:∀ {l:List MG},(l.map fun G=>G.born).Nodup→∀ A∈l,∀ C∈l,A.born=C.born→A=C:=by
 intro l hl
 induction l with
 | nil=>intro A hA;cases hA
 | cons D l ih =>
  rw[List.map_cons,List.nodup_cons] at hl
  intro A hA C hC he
  rcases List.mem_cons.1 hA with hA' | hA'
  ·rcases List.mem_cons.1 hC with hC' | hC'
   ·rw[hA',hC']
   ·exact absurd (hA' ▸ he ▸ List.mem_map.2 ⟨C,hC',rfl⟩) hl.1
  ·rcases List.mem_cons.1 hC with hC' | hC'
   ·exact absurd (hC' ▸ List.mem_map.2 ⟨A,hA',he⟩) hl.1
   ·exact ih hl.2 A hA' C hC' he
structure RdSt (B:Nat)(w:World)(ib M mc:Nat)(gs:List MG)(D:MG→Prop)(r:Nat)(X:World)(seen:Array Nat):Prop where
 iter:X.heap[r]?=some (.mapIter (some M) mc seen mc)
 bl:Below w.heap.size w X
 lo:w.heap.size≤r
 idx:ye B w ib M gs mc
 did:∀ G∈gs,seen.contains G.born=true→D G
theorem RdSt.start {B:Nat}{w W:World}{ib M mc:Nat}{gs:List MG}{D:MG→Prop}(h:ye B w ib M gs mc)(hb:Below w.heap.size w W):RdSt B w ib M mc gs D W.heap.size (W.alloc (.mapIter (some M) mc #[] mc)) #[] :=
 ⟨heap_alloc_new _ _,hb.alloc hb.size _,hb.size,h,fun G _ hs=>by simp at hs⟩
def xX1 (gs:List MG)(r:Nat)(w:World):Nat:=match w.heap[r]? with
 | some (.mapIter _ _ seen _)=>(leftOf (qK gs) seen).size
 | _=>0
theorem xP4 {gs:List MG}{r:Nat}{w:World}{m:Option Nat}{s c:Nat}{seen:Array Nat}(h:w.heap[r]?=some (.mapIter m s seen c)):xX1 gs r w=(leftOf (qK gs) seen).size:=by
 unfold xX1
 rw[h]
end Go.Proofs.YthiafifdiaplaaaGreatDoor
namespace Go.Proofs.YthiafifdiaplaaaGreatDoor
open Go Go.RowKit Go.Proofs
section
attribute [local go_sem ↓] xV xO yp yh yq yB
attribute [local go_sem] zx zA zG zF yW xj xh xe xd xA xz xo xl xt xC xx
theorem xE0 (gs:List MG)(ns:List ByteArray)(x:Id32):(za gs ns x).map Prod.fst=ns.filter fun t=>(uW gs x t).isSome:=by
 unfold za
 induction ns with
 | nil=>rfl
 | cons t ns ih =>
  cases hp:uW gs x t with
  | none=>rw[List.filterMap_cons_none hp,List.filter_cons_of_neg (by simp[hp])];exact ih
  | some a =>
   have:a.1=t:=by
    unfold uW at hp
    obtain⟨m,_,rfl⟩:=Option.map_eq_some_iff.1 hp
    rfl
   rw[List.filterMap_cons_some hp,List.filter_cons_of_pos (by simp[hp]),List.map_cons,ih,this]
theorem xTz {gs:List MG}{ns:List ByteArray}{x:Id32}{a:PL}(ha:a∈za gs ns x):∃ m∈xD gs a.1,m.p.id=x∧m.p.number=a.2:=by
 unfold za at ha
 obtain⟨t,_,hp⟩:=List.mem_filterMap.1 ha
 unfold uW at hp
 obtain⟨m,hm,rfl⟩:=Option.map_eq_some_iff.1 hp
 exact⟨m,List.mem_of_find?_eq_some hm,by simpa using List.find?_some hm,rfl⟩
theorem xJx {gs:List MG}{ns:List ByteArray}{x:Id32}{t:ByteArray}(hm:∀ t,t∈ns↔∃ G∈gs,G.name=t)(ht:t ∉ (za gs ns x).map Prod.fst):xD7 (xD gs t) x=xD gs t:=by
 rw[xE0,List.mem_filter,not_and] at ht
 unfold xD7
 rw[List.filter_eq_self]
 intro m hmm
 rw[decide_eq_true_eq]
 intro e
 have hne:xD gs t≠[]:=fun e=>by rw[e] at hmm;cases hmm
 obtain⟨G,hG,_,_⟩:=jz hne
 refine ht ((hm t).2 ⟨G,yL hG⟩) ?_
 unfold uW
 rw[Option.isSome_map,List.find?_isSome]
 exact⟨m,hmm,by simpa using e⟩
theorem xEw {gs:List MG}{ns:List ByteArray}(x:Id32)(hn:ordN ns):((za gs ns x).map Prod.fst).Nodup:=by
 rw[xE0]
 refine(List.Pairwise.imp ?_ hn:ns.Nodup).sublist List.filter_sublist
 intro a b hab e
 rw[e,xBm] at hab
 omega
structure xA4 (B ib M:Nat)(gs:List MG)(x:Id32)(ps:List PL)(w1:World)(k:Nat)(gsk:List MG)(mck:Nat)(wr:World):Prop where
 idx:ye B wr ib M gsk mck
 kept:Kept (foot ib M gs) w1 wr
 foot:xCq (Go.Proofs.YthiafifdiaplaaaGreatDoor.foot ib M gs) (Go.Proofs.YthiafifdiaplaaaGreatDoor.foot ib M gsk) w1
 lines:∀ t,(t∈(ps.take k).map Prod.fst→xD gsk t=xD7 (xD gs t) x)∧(t ∉ (ps.take k).map Prod.fst→xD gsk t=xD gs t)
 tot:xS gsk≤xS gs
theorem xA4.later {B ib M:Nat}{gs:List MG}{x:Id32}{ps:List PL}{w1:World}{k:Nat}{gsk:List MG}{mck:Nat}{wr w2:World}(h:xA4 B ib M gs x ps w1 k gsk mck wr)(hb:Below wr.heap.size wr w2):xA4 B ib M gs x ps w1 k gsk mck w2 :=
 ⟨h.idx.below hb,h.kept.trans (Kept.of_below (F:=[]) hb) (fun _ hk=>by cases hk),h.foot,h.lines,h.tot⟩
theorem xA4.next {B ib M:Nat}{gs:List MG}{x:Id32}{ps:List PL}{w1:World}{k:Nat}{gsk:List MG}{mck:Nat}{wr w3:World}{h0:World}{mc0:Nat}(h:xA4 B ib M gs x ps w1 k gsk mck wr)(hX:ye B h0 ib M gs mc0)(hk:k<ps.length)(hnd:(ps.map Prod.fst).Nodup)
  (hm:∃ m∈xD gs ps[k].1,m.p.id=x∧m.p.number=ps[k].2) {r:Ending} (hp:xIs B ib M gsk ps[k].1 ps[k].2 wr r w3):∃ gsn mcn,xA4 B ib M gs x ps w1 (k+1) gsn mcn w3:=by
 obtain⟨m,hm1,hm2,hm3⟩:=hm
 have htk:ps.take (k+1)=ps.take k++[ps[k]]:=List.take_succ_eq_append_getElem hk
 have hnot:ps[k].1 ∉ (ps.take k).map Prod.fst:=by
  have h1:=hnd.sublist ((List.take_sublist (k+1) ps).map Prod.fst)
  rw[htk,List.map_append,List.nodup_append] at h1
  intro h2
  exact h1.2.2 _ h2 _ (by simp) rfl
 have hl:=(h.lines ps[k].1).2 hnot
 rcases hp with⟨hno,_,_⟩ | ⟨i,m',hi,hn,_,gsn,mcn,hr⟩
 ·exfalso
  rw[hl] at hno
  have:uB (xD gs ps[k].1) ps[k].2=true:=by
   unfold uB nums
   rw[List.contains_iff_mem,List.mem_map]
   exact⟨m,hm1,hm3⟩
  rw[this] at hno
  cases hno
 ·rw[hl] at hi
  have hsort:=hX.sorted ps[k].1
  have hmm:m'=m:=by
   obtain⟨j,hj⟩:=List.mem_iff_getElem?.1 hm1
   unfold nums at hsort
   rw[List.pairwise_map] at hsort
   obtain⟨i1,i2⟩:=List.getElem?_eq_some_iff.1 hi
   obtain⟨j1,j2⟩:=List.getElem?_eq_some_iff.1 hj
   rw[List.pairwise_iff_getElem] at hsort
   rcases Nat.lt_trichotomy i j with hlt | heq | hlt
   ·have:=hsort i j i1 j1 hlt
    rw[i2,j2] at this
    omega
   ·subst heq;rw[←i2,←j2]
   ·have:=hsort j i j1 i1 hlt
    rw[i2,j2] at this
    omega
  subst hmm
  have her:=xQ2 (yAz hX ps[k].1) hi
  rw[hm2] at her
  refine⟨gsn,mcn,hr.idx,h.kept.trans hr.kept h.foot,fun j hj=>?_,fun t=>?_,by have:=hr.tot;have:=h.tot;omega⟩
  ·rcases hr.foot j hj with h1 | h1
   ·exact h.foot j h1
   ·exact .inr (Nat.le_trans h.kept.size h1)
  ·rw[hr.lines t,htk,List.map_append]
   by_cases ht:t=ps[k].1
   ·subst ht
    rw[if_pos rfl,hl,her]
    exact⟨fun _=>rfl,fun hn=>absurd (by simp) hn⟩
   ·rw[if_neg ht]
    have:(t∈(ps.take k).map Prod.fst++[ps[k]].map Prod.fst)=(t∈(ps.take k).map Prod.fst):=by simp[ht]
    rw[this]
    exact h.lines t
def xNl (B ib M:Nat)(gs:List MG)(x:Id32)(w:World)(r:Ending)(w':World):Prop:=∃ ns gs' mc',ordN ns∧(∀ t,t∈ns↔∃ G∈gs,G.name=t)∧r=.returned (.int .i64 (za gs ns x).length) ∧
 ye B w' ib M gs' mc'∧Kept (foot ib M gs) w w'∧xCq (foot ib M gs) (foot ib M gs') w∧(∀ t,xD gs' t=xD7 (xD gs t) x)∧xS gs'≤xS gs
theorem xM2 (B ib M mc:Nat)(gs:List MG)(x:Id32)(w:World)(hG:Gl w)(h:ye B w ib M gs mc) :
  Calls Tryz.prog 352 #[.pointer (some ⟨ib,0,none⟩),.agg (xB x).toArray] w fun r w'=>xNl B ib M gs x w r w':=by
 obtain⟨W,hW⟩:∃ W,W=w.alloc (.cells (xB x).toArray 39):=⟨_,rfl⟩
 have hb0:Below w.heap.size w W:=by rw[hW];exact b_ _ _
 have hs0:W.heap.size=w.heap.size+1:=by rw[hW];simp
 have hq:=yE (w:=w.alloc (.cells (xB x).toArray 39)) (b:=w.heap.size) (x:=x) (heap_alloc_new _ _)
 obtain⟨hq1,hq2⟩:=hq
 have HWH:=h_ (xJy B ib M mc gs x W (hG.later hb0) (h.below hb0))
 have HB:=h_ hb0
 have HX:=h_ h
 clear hb0 h hG
 go_enter Tryz.func352,Tryz.ntmps352
 go_wp2_with fail
 rw[←hW]
 clear hW hq1 hq2
 refine HWH.out.mono ?_
 rintro r w1 ⟨v,ns,rfl,hrow,hord,hmem,hb1⟩
 have HB1:=h_ (HB.out.trans (hb1.mono HB.out.size):Below w.heap.size w w1)
 have HO:=h_ hord
 have HM:=h_ hmem
 obtain⟨ps,hps⟩:∃ ps,ps=za gs ns x:=⟨_,rfl⟩
 rw[←hps] at hrow
 have HPS:=h_ hps
 clear hord hmem hps HWH hb1
 rcases hrow.2 with⟨rfl,h0⟩ | ⟨b,cap,cur,rfl,hbB,hcur,hle,hmx,hcs,htk⟩
 ·have HP0:Hid (ps=[]):=h_ (List.length_eq_zero_iff.1 h0)
  clear hrow h0
  go_wp2
  go_loop [13] (fun i=>i=.int .i64 0) (fun _=>0)
  case atStart=>exact rfl
  case round =>
   obtain rfl:=hrel
   go_wp2
   go_ret
   have he:za gs ns x=[]:=by rw[←HPS.out];exact HP0.out
   refine⟨ns,gs,mc,HO.out,HM.out,by rw[he];rfl,HX.out.below HB1.out,Kept.of_below HB1.out,fun k hk=>.inl hk,fun t=>(xJx HM.out (by rw[he];simp)).symm,Nat.le_refl _⟩
 ·have HROW:=h_ hrow
  have HCUR:=h_ hcur
  have hbl:b<w1.heap.size:=(i_ hcur).1
  have hbw:w.heap.size<b:=by omega
  have hps2:ps.length≤65536:=by
   have h1:=xEw (gs:=gs) x HO.out
   have h2:((za gs ns x).map Prod.fst).length≤(gs.map fun G=>G.name).length:=h1.length_le_of_subset fun t ht=>by
    rw[xE0,List.mem_filter] at ht
    obtain⟨G,hG,e⟩:=(HM.out t).1 ht.1
    exact List.mem_map.2 ⟨G,hG,e⟩
   rw[List.length_map,List.length_map,←HPS.out] at h2
   exact Nat.le_trans h2 HX.out.groups
  clear hrow hcur hcs htk
  go_wp2
  go_loopw [13] (fun i wr=>∃ k gsk mck,k≤ps.length∧i=.int .i64 (k:Nat)∧xA4 B ib M gs x ps w1 k gsk mck wr) (fun i _=>ps.length-(intOf i).toNat)
  case atStart=>exact⟨0,gs,mc,by omega,rfl,HX.out.below HB1.out,Kept.of_below (Below.refl _ _),fun k hk=>.inl hk,fun t=>⟨fun h=>by simp at h,fun _=>rfl⟩,Nat.le_refl _⟩
  case round =>
   obtain⟨k,gsk,mck,hk,rfl,hrd⟩:=hrel
   by_cases hlt:k<ps.length
   ·have hltz:(k:Int)<(ps.length:Int):=by omega
    have hblk:wr.heap[b]?=some (.cells cur 181 (0,0)):=(hrd.kept.block b hbl (fun hf=>by have:=(HX.out.foot_lt b hf).2;omega)).trans HCUR.out
    have hcell:∀ j u,(xAy ps)[j]?=some u→wr.cell? ⟨b,j,none⟩=some u:=fun j u hu=>by
     have h1:=World.ownsRow.cells HROW.out (g:=b) rfl j u hu
     rw[Addr.add_lit,Nat.zero_add] at h1
     exact(cell_of_row wr b j _ _ _ hblk).trans ((cell_of_row w1 b j _ _ _ HCUR.out).symm.trans h1)
    have hg:=xKx ps k hlt
    have hc0:=hcell _ _ hg.1
    have hc1:=hcell _ _ hg.2
    obtain⟨t,ht⟩:∃ t,t=ps[k].1:=⟨_,rfl⟩
    obtain⟨n,hn⟩:∃ n,n=ps[k].2:=⟨_,rfl⟩
    rw[←ht] at hc0
    rw[←hn] at hc1
    have HT:=h_ ht
    have HN:=h_ hn
    have HRD:=h_ hrd
    clear hcell hg hblk ht hn hrd
    obtain⟨W2,hW2⟩:∃ W2,W2=wr.alloc (.cells #[.string t,.int .i64 n] 181):=⟨_,rfl⟩
    have hb2:Below wr.heap.size wr W2:=by rw[hW2];exact b_ _ _
    have HRM:=h_ (xRe B ib M mck gsk t n W2 (HRD.out.idx.below hb2))
    have HRD2:=h_ (HRD.out.later hb2)
    clear hb2
    have hall:∀ a∈ps,∃ m∈xD gs a.1,m.p.id=x∧m.p.number=a.2:=fun a ha=>xTz (ns:=ns) (by rw[←HPS.out];exact ha)
    have HME:=h_ (hall _ (List.getElem_mem hlt))
    have HND:Hid ((ps.map Prod.fst).Nodup):=h_ (by rw[HPS.out];exact xEw x HO.out)
    clear hall
    go_wp2_with fail
    rw[←hW2]
    clear hW2
    refine HRM.out.mono ?_
    intro r w3 hp
    obtain⟨e,rfl⟩:∃ e,r=.returned e:=by
     rcases hp with⟨_,e,_⟩ | ⟨_,_,_,_,e,_⟩
     ·exact⟨_,e⟩
     ·exact⟨_,e⟩
    rw[HT.out,HN.out] at hp
    obtain⟨gsn,mcn,hnext⟩:=HRD2.out.next HX.out hlt HND.out HME.out hp
    have HNX:=h_ hnext
    clear hnext hp
    go_wp2
    go_roundw
    case rel=>exact⟨k+1,gsn,mcn,by omega,by go_num,HNX.out⟩
    case measure=>simp[intOf];omega
   ·have HE:Hid (ps.take k=ps):=h_ (List.take_of_length_le (by omega))
    have HRD:=h_ hrd
    clear hrd
    go_wp2
    go_ret
    refine⟨ns,gsk,mck,HO.out,HM.out,by rw[←HPS.out];rfl,HRD.out.idx,(Kept.of_below (F:=foot ib M gs) HB1.out).trans HRD.out.kept (fun k hk=>.inl hk),fun k hk=>?_,fun t=>?_,HRD.out.tot⟩
    ·rcases HRD.out.foot k hk with h1 | h1
     ·exact .inl h1
     ·exact .inr (Nat.le_trans HB1.out.size h1)
    ·have h2:=HRD.out.lines t
     rw[HE.out] at h2
     by_cases h1:t∈ps.map Prod.fst
     ·exact h2.1 h1
     ·rw[h2.2 h1]
      rw[HPS.out] at h1
      exact(xJx HM.out h1).symm
end
section
variable {P:Program} {ops:Array Oper} {Q:Exit→Act→World→Prop} {C:World→Prop}
theorem xQt {E rest:List Nat}{r:Nat}{a:Act}{w:World}(b:Bool)(hlt:decide (r<ops.size)=true)(hb:zQ ops E r=b)(h:wpList P ops (Qn P ops Q C E rest b) (zp ops [r]) a w):wpR P ops Q C E (r :: rest) a w :=
 uw b (o:=ops.getD r default) (by simp[of_decide_eq_true hlt]) hb h
end
theorem xQ1 (ro:Option Nat)(ρ:Operand→Value)(d:Option Tmp)(x:Operand)(ty:TypeId)(pos:String)(af:Array Edge)(g:Option (Nat × Bool))(w:World) :
  Sem.run Tryz.prog (Oper.semAt ro ρ ⟨d,.load 39 x,ty,pos,af,g⟩) w=yx Tryz.prog 39 w (ρ x):=by
 rw[Oper.semAt_eq _ _ _ (by intro c h;cases h)]
 exact xV ..
theorem xN3 (ro:Option Nat)(ρ:Operand→Value)(d:Option Tmp)(x y:Operand)(ty:TypeId)(pos:String)(af:Array Edge)(g:Option (Nat × Bool))(w:World) :
  Sem.run Tryz.prog (Oper.semAt ro ρ ⟨d,.store 39 x y,ty,pos,af,g⟩) w=ym Tryz.prog 39 w (ρ x) (ρ y):=by
 rw[Oper.semAt_eq _ _ _ (by intro c h;cases h)]
 exact xO ..
theorem xJp (ro:Option Nat)(ρ:Operand→Value)(d:Option Tmp)(x:Operand)(ty:TypeId)(pos:String)(af:Array Edge)(g:Option (Nat × Bool))(w:World) :
  Sem.run Tryz.prog (Oper.semAt ro ρ ⟨d,.load 49 x,ty,pos,af,g⟩) w=yx Tryz.prog 49 w (ρ x):=by
 rw[Oper.semAt_eq _ _ _ (by intro c h;cases h)]
 exact yp ..
theorem xI9 (ro:Option Nat)(ρ:Operand→Value)(d:Option Tmp)(x y:Operand)(ty:TypeId)(pos:String)(af:Array Edge)(g:Option (Nat × Bool))(w:World) :
  Sem.run Tryz.prog (Oper.semAt ro ρ ⟨d,.store 49 x y,ty,pos,af,g⟩) w=ym Tryz.prog 49 w (ρ x) (ρ y):=by
 rw[Oper.semAt_eq _ _ _ (by intro c h;cases h)]
 exact yh ..
theorem xIa (ro:Option Nat)(ρ:Operand→Value)(d:Option Tmp)(ty:TypeId)(pos:String)(af:Array Edge)(g:Option (Nat × Bool))(w:World) :
  Sem.run Tryz.prog (Oper.semAt ro ρ ⟨d,.alloc 49,ty,pos,af,g⟩) w=.ok (.value (.pointer (some ⟨w.heap.size,0,none⟩))) (w.alloc (.cells (x9 xH) 49)):=by
 rw[Oper.semAt_eq _ _ _ (by intro c h;cases h)]
 exact yq ..
section
attribute [local go_sem ↓] xV xO yp yh yq yB
attribute [local go_sem] zx zA zG zF yW xj xh xe xd xA xz xo xl xt xC xx
theorem xI8 (ρ:Operand→Value)(d:Option Tmp)(x:Operand)(ty:TypeId)(pos:String)(af:Array Edge)(g:Option (Nat × Bool))(w:World) :
  Sem.run Tryz.prog (execOp ρ ⟨d,.buildSlice 173 1 #[(0,x)],ty,pos,af,g⟩) w=xDv Tryz.prog 173 w (ρ x):=by kernel_rfl
theorem xTn (w:World)(g:yd):xDv Tryz.prog 173 w (.agg (x9 g))=.ok (.value (.slice (some ⟨w.heap.size,0,none⟩) 1 1)) (w.alloc (.cells (x9 g) 49)):=by
 obtain⟨i0,hi,hz0,hz1,hz2⟩:=info_parts Tryz.info_line
 unfold xDv
 rw[Sem.run_bind,run_buildSlice w 173 49 1 _ (x9 g) i0 _ Tryz.underlying173 hi hz0 (by rw[hz1];decide) (by rw[hz1];decide) (by
  rw[hz1]
  exact xB1 _ _ 38 (xN g) (by simp))]
 rfl
attribute [local go_sem ↓] xI8 xJp xI9 xIa xQ1 xN3
attribute [local go_sem] xTn
structure kC (A:Nat)(w:World)(v:Value)(ls:List ML):Prop where
 lin:zl A w v ls
 apart:(ls.filterMap fun m=>m.v.ownBlock).Nodup
theorem kC.nil (A:Nat)(w:World):kC A w (.slice none 0 0) []:=⟨⟨World.ownsRow_nil _ _ _ _,fun _ h=>by cases h⟩,.nil⟩
theorem kC.snoc {A:Nat}{w w':World}{v v':Value}{ls:List ML}{x:ML}(h:kC A w v ls)(hrow:w'.ownsRow A 49 38 v' (ls.length+1) (yl ls++xK x.g))(hr:∀ m∈ls,zd A w' m.v m.p.ids)(hx:zd A w' x.v x.p.ids)(hn:∀ k,x.v.ownBlock=some k→w.heap.size≤k):kC A w' v' (ls++[x]):=by
 refine⟨⟨?_,fun m hm=>?_⟩,?_⟩
 ·rw[List.length_append,List.length_singleton,vZ]
  have:yl [x]=xK x.g:=by simp[yl]
  rw[this]
  exact hrow
 ·rcases List.mem_append.1 hm with hm | hm
  ·exact hr m hm
  ·rw[List.mem_singleton.1 hm];exact hx
 ·rw[List.filterMap_append,List.nodup_append]
  refine⟨h.apart,?_,fun a ha b hb=>?_⟩
  ·cases hv:x.v.ownBlock with
   | none=>rw[List.filterMap_cons_none (f:=fun m:ML=>m.v.ownBlock) hv];exact .nil
   | some k=>rw[List.filterMap_cons_some (f:=fun m:ML=>m.v.ownBlock) hv];simp
  ·obtain⟨m,hm,he⟩:=List.mem_filterMap.1 ha
   obtain⟨y,hy,he2⟩:=List.mem_filterMap.1 hb
   rw[List.mem_singleton.1 hy] at he2
   have h1:=((h.lin.refs m hm).lt he).2
   have h2:=hn b he2
   omega
theorem xKr {A:Nat}{w w':World}{v:Value}{ids:List Id32}{row:Option Nat}(h:zd A w v ids)(hg:w.grownBy w' row)(hr:∀ k,row=some k→∃ c,w.heap[k]?=some (.cells c 49 (0,0))):zd A w' v ids:=by
 refine h.block fun k hk=>hg.block k (h.lt hk).2 fun e=>?_
 obtain⟨c,hc⟩:=hr k e.symm
 obtain⟨c2,hc2⟩:=yO h hk
 rw[hc] at hc2
 exact absurd (j8 hc2) (by decide)
end
abbrev LF:Type:=ByteArray→List vz
section
attribute [local go_sem ↓] xV xO yp yh yq yB
attribute [local go_sem] zx zA zG zF yW xj xh xe xd xA xz xo xl xt xC xx
def lfOf (gs:List MG):LF:=fun t=>(xD gs t).map (·.p)
end
end Go.Proofs.YthiafifdiaplaaaGreatDoor
namespace Go.Proofs.YthiafifdiaplaaaGreatDoor
open Go Go.RowKit Go.Proofs
open Go.ChangeMaps (setBlock)
theorem xJa (b:Nat)(es:Array MapEntry)(clock:Nat)(w:World)(hb:w.heap[b]?=some (.map es clock)) :
  Calls Tryz.prog 89 #[.map (some b)] w fun e w'=>e=.returned (.map (some w.heap.size))∧w.alloc (.map es clock)=w':=by
 have hu:Tryz.prog.underlying 195=some (.map 39 3):=Tryz.underlying195
 have hq:=fun w=>run_eql_map_nil_sl (P:=Tryz.prog) w 195 _ _ (some b) hu
 go_enter Tryz.func89,Tryz.ntmps89
 go_wp2
 rw[run_callFunc_extern Tryz.func95 (by kernel_rfl) (by kernel_rfl) (by kernel_rfl) (e:=Extern.MapsClone.clone) (by kernel_rfl),run_maps_clone_sl w 195 hb]
 simp only[Result.andThen]
 rw[Oper.upon_value]
 go_wp2
 rw[run_typeAssert_map_sl _ 195 20 _ _ _ hu]
 simp only[Result.andThen]
 rw[Oper.upon_value]
 go_wp2
 go_ret
 exact⟨rfl,rfl⟩
theorem zi (w:World)(b:Nat)(o:Obj):(setBlock w b o).heap.size=w.heap.size:=by unfold setBlock;simp
theorem RdSt.next2 {B:Nat}{w:World}{ib M mc:Nat}{gs:List MG}{D:MG→Prop}{r:Nat}{X:World}{seen:Array Nat}(h:RdSt B w ib M mc gs D r X seen)(ty:TypeId) :
  ((∀ G∈gs,D G)∧(Instr.next (.pointer (some ⟨r,0,none⟩)) false ty).run Tryz.prog X=.ok (.tuple #[.bool false]) X) ∨
  ∃ G∈gs,∃ X',(Instr.next (.pointer (some ⟨r,0,none⟩)) false ty).run Tryz.prog X=.ok (.tuple #[.bool true,.string G.name,.pointer (some ⟨G.gb,0,none⟩)]) X'∧Kept [r] X X' ∧
   (Instr.entry (.pointer (some ⟨r,0,none⟩))).run Tryz.prog X'=.ok (.tuple #[.string G.name,.pointer (some ⟨G.gb,0,none⟩)]) X'∧(leftOf (qK gs) (seen.push G.born)).size<(leftOf (qK gs) seen).size ∧
   X'.heap[r]?=some (.mapIter (some M) mc (seen.push G.born) mc)∧seen.contains G.born=false:=by
 have hX:=h.idx.below h.bl
 have hmap:X.heap[M]?=some (.map (qK gs) mc):=hX.map
 have hrM:r≠M:=fun e=>by
  have:=h.iter
  rw[e,hmap] at this
  cases this
 have hold:∀ e∈(qK gs).toList,e.born<mc:=fun e he=>by
  obtain⟨G,hG,rfl⟩:=xOx he
  exact h.idx.young G hG
 rcases run_next_at (P:=Tryz.prog) X ty r M mc mc seen (qK gs) mc h.iter hmap hold (Nat.le_refl _) with⟨h0,hr⟩ | ⟨e,he,X1,hX1,hr⟩
 ·refine .inl ⟨fun G hG=>h.did G hG ?_,hr⟩
  have:=all_seen (qK gs) seen h0 (enE ekS G.e) (by unfold qK;simp only[List.mem_map];exact⟨_,⟨G,hG,rfl⟩,rfl⟩)
  exact this
 ·obtain⟨hm,hns⟩:=mem_left he
  obtain⟨G,hG,rfl⟩:=xOx hm
  have hrl:=(i_ h.iter).1
  have hX1h:X1.heap=X.heap:=by rcases hX1 with rfl | rfl <;> rfl
  have hk1:Kept [r] X X1:=by
   rcases hX1 with rfl | rfl
   ·exact Kept.of_below (Below.refl _ _)
   ·exact Kept.of_below (Below.refl _ _).drew
  have hit:(setBlock X1 r (.mapIter (some M) mc (seen.push G.born) mc)).heap[r]?=some (.mapIter (some M) mc (seen.push G.born) mc):=ur _ _ _ (by rw[hX1h];exact hrl)
  have hmp:(setBlock X1 r (.mapIter (some M) mc (seen.push G.born) mc)).heap[M]?=some (.map (qK gs) mc):=by
   rw[yb _ _ _ _ (Ne.symm hrM),hX1h]
   exact hmap
  refine .inr ⟨G,hG,_,hr,⟨hk1.os,hk1.tape,hk1.output,by rw[zi];exact hk1.size,fun k hk hn=>?_⟩,run_entry_at _ r M mc seen (qK gs) mc (enE ekS G.e) hit hmp hm (by rw[xUz];exact h.idx.born),left_shrinks _ _ _ he,hit,hns⟩
  rw[yb _ _ _ _ (fun e=>hn (by rw[e];simp)),hX1h]
theorem xCt:∀ {A Bl:List MG},(A.map fun G=>G.name).Nodup→(∀ a∈A,∃ b∈Bl,b.name=a.name∧b.ms.length=a.ms.length)→xS A≤xS Bl
 | [],_,_,_=>Nat.zero_le _
 | a :: A,Bl,hn,h=>by
  rw[List.map_cons,List.nodup_cons] at hn
  obtain⟨b,hb,hbn,hbl⟩:=h a (by simp)
  obtain⟨l1,l2,rfl⟩:=List.append_of_mem hb
  have ih:=xCt (A:=A) (Bl:=l1++l2) hn.2 fun x hx=>by
   obtain⟨c,hc,hcn,hcl⟩:=h x (by simp[hx])
   refine⟨c,?_,hcn,hcl⟩
   rw[List.mem_append,List.mem_cons] at hc
   rw[List.mem_append]
   rcases hc with hc | rfl | hc
   ·exact .inl hc
   ·exact absurd (List.mem_map.2 ⟨x,hx,hcn.symm.trans hbn⟩) hn.1
   ·exact .inr hc
  have e1:xS (a :: A)=a.ms.length+xS A:=rfl
  have e2:xS (l1++b :: l2)=xS (l1++l2)+b.ms.length:=by
   unfold xS
   simp only[List.map_append,List.map_cons,List.sum_append,List.sum_cons]
   omega
  omega
def cpG (G:MG)(born cb nb:Nat)(v:Value)(ms:List ML):MG:=⟨G.name,born,cb,nb,v,ms,G.nl,G.nc⟩
theorem xHf {α:Type}(f:vz→α){a b:List ML}(h:a.map (·.p)=b.map (·.p)):a.map (fun m=>f m.p)=b.map (fun m=>f m.p):=by
 have:=congrArg (List.map f) h
 rwa [List.map_map,List.map_map] at this
theorem xXm {B0:Nat}{w0:World}{G:MG}(h:zY B0 w0 G){B:Nat}{W:World}{born cb nb:Nat}{v:Value}{ms:List ML}(hp:ms.map (·.p)=G.ms.map (·.p))(hb:W.heap[cb]?=some (.cells #[v,.map (some nb)] 198 (0,0)))(hl:zl B W v ms)(hn:y3 ekI W nb G.nl G.nc)(h1:B≤cb)(h2:B≤nb):zY B W (cpG G born cb nb v ms) where
 blk:=hb
 lines:=hl
 nums:=hn
 agree:=by
  have:=h.agree
  rw[←xHf (fun p=>(p.id,Value.int .i64 p.number)) hp] at this
  exact this
 ids:=by
  have:=h.ids
  rw[←xHf (fun p=>p.id) hp] at this
  exact this
 sorted:=by
  have:=h.sorted
  unfold nums at this ⊢
  rw[←xHf (fun p=>p.number) hp] at this
  exact this
 good:=fun m hm=>by
  have:m.p∈G.ms.map (·.p):=by rw[←hp];exact List.mem_map.2 ⟨m,hm,rfl⟩
  obtain⟨q,hq,e⟩:=List.mem_map.1 this
  rw[←e]
  exact h.good q hq
 named:=h.named
 some':=fun e=>h.some' (by
  have e':ms=[]:=e
  rw[e'] at hp
  exact List.map_eq_nil_iff.1 hp.symm)
 gbB:=h1
 nbB:=h2
structure ClSt (B:Nat)(w:World)(ib M mc:Nat)(gs:List MG)(ib2 M2 r:Nat)(gs2:List MG)(mc2:Nat)(seen:Array Nat)(W:World):Prop where
 rd:RdSt B w ib M mc gs (fun G=>seen.contains G.born=true) r W seen
 blk:W.heap[ib2]?=some (.cells #[.map (some M2),.int .i64 (xS gs)] 193 (0,0))
 cl:ye w.heap.size (setBlock W ib2 (.cells #[.map (some M2),.int .i64 (xS gs2)] 193 (0,0))) ib2 M2 gs2 mc2
 fwd:∀ G∈gs,seen.contains G.born=true→∃ G2∈gs2,G2.name=G.name∧G2.ms.map (·.p)=G.ms.map (·.p)
 bwd:∀ G2∈gs2,∃ G∈gs,seen.contains G.born=true∧G2.name=G.name∧G2.ms.map (·.p)=G.ms.map (·.p)
 rne:∀ k∈foot ib2 M2 gs2,k≠r
theorem xZm {b:Nat}{X Y:World}{ib2 M2 mc2:Nat}{gs2:List MG}{o:Obj}(h:ye b (setBlock X ib2 o) ib2 M2 gs2 mc2)(hl:ib2<X.heap.size)(hl2:ib2<Y.heap.size)(hk:∀ k,k<X.heap.size→k≠ib2→(k∈foot ib2 M2 gs2∨∃ c,X.heap[k]?=some (.cells c 39 (0,0)))→Y.heap[k]?=X.heap[k]?):ye b (setBlock Y ib2 o) ib2 M2 gs2 mc2:=by
 refine h.keep (fun k hf=>?_) (fun G hG m hm k hkm=>?_)
 ·by_cases e:k=ib2
  ·subst e
   rw[ur _ _ _ hl2,ur _ _ _ hl]
  ·have h1:=(h.foot_lt k hf).2
   rw[zi] at h1
   rw[yb _ _ _ _ e,yb _ _ _ _ e]
   exact hk k h1 e (.inl hf)
 ·have hr:=(h.grps G hG).lines.refs m hm
  have h1:=(hr.lt hkm).2
  rw[zi] at h1
  obtain⟨c,hc⟩:=hr.typed hkm
  have e:k≠ib2:=fun e=>by
   have:=h.not_id hc
   exact this (by rw[e];simp[foot])
  rw[yb _ _ _ _ e] at hc
  rw[yb _ _ _ _ e,yb _ _ _ _ e]
  exact hk k h1 e (.inr ⟨c,hc⟩)
theorem ClSt.start {B:Nat}{w:World}{ib M mc:Nat}{gs:List MG}(h:ye B w ib M gs mc){W:World}(hW:W=((w.alloc (.map #[] 0)).alloc (.cells #[.map (some w.heap.size),.int .i64 (xS gs)] 193)).alloc (.mapIter (some M) mc #[] mc)):ClSt B w ib M mc gs (w.heap.size+1) w.heap.size (w.heap.size+1+1) [] 0 #[] W:=by
 have hs:W.heap.size=w.heap.size+3:=by rw[hW];simp
 have hr:RdSt B w ib M mc gs (fun G=>(#[]:Array Nat).contains G.born=true) (w.heap.size+1+1) W #[]:=by
  have:=RdSt.start (B:=B) (w:=w) (W:=(w.alloc (.map #[] 0)).alloc (.cells #[.map (some w.heap.size),.int .i64 (xS gs)] 193)) (D:=fun G=>(#[]:Array Nat).contains G.born=true) h (((Below.refl _ _).alloc (Nat.le_refl _) _).alloc (by simp) _)
  rw[←hW] at this
  simpa using this
 have hb:W.heap[w.heap.size+1]?=some (.cells #[.map (some w.heap.size),.int .i64 (xS gs)] 193 (0,0)):=by
  rw[hW,heap_alloc_old _ _ (by simp)]
  have:=heap_alloc_new (w.alloc (.map #[] 0)) (.cells #[.map (some w.heap.size),.int .i64 (xS gs)] 193)
  simpa using this
 have hm:W.heap[w.heap.size]?=some (.map #[] 0):=by
  rw[hW,heap_alloc_old _ _ (by simp;omega),heap_alloc_old _ _ (by simp),heap_alloc_new]
 refine⟨hr,hb,?_,fun G _ hs=>(by simp at hs),fun _ h=>(by cases h),fun k hk=>?_⟩
 ·refine⟨?_,?_,List.nodup_nil,fun _ h=>(by cases h),by simp[foot],List.nodup_nil,fun _ h=>(by cases h),by simp[xS],by omega,Nat.le_refl _⟩
  ·rw[ur _ _ _ (by omega)]
  ·unfold y3
   rw[yb _ _ _ _ (by omega),hm]
   rfl
 ·simp only[foot,List.flatMap_nil,List.mem_cons,List.mem_nil_iff,or_false] at hk
  omega
theorem ClSt.put {B:Nat}{w:World}{ib M mc:Nat}{gs:List MG}{ib2 M2 r:Nat}{gs2:List MG}{mc2:Nat}{seen:Array Nat}{X X1 Y1 Y2:World}(h:ClSt B w ib M mc gs ib2 M2 r gs2 mc2 seen X){G:MG}(hG:G∈gs)(hns:seen.contains G.born=false)(hk1:Kept [r] X X1)(hit:X1.heap[r]?=some (.mapIter (some M) mc (seen.push G.born) mc))(hb:Below X1.heap.size X1 Y1)
  {cb nb:Nat} {v:Value} {ms:List ML} (hp:ms.map (·.p)=G.ms.map (·.p)) (hcb:Y1.heap[cb]?=some (.cells #[v,.map (some nb)] 198 (0,0))) (hl:zl X1.heap.size Y1 v ms) (hn:y3 ekI Y1 nb G.nl G.nc) (h1:X1.heap.size≤cb) (h2:X1.heap.size≤nb)
  (hY:Y2=Y1.putObj M2 (.map (((gs2.map MG.e)++[(⟨G.name,.pointer (some ⟨cb,0,none⟩),mc2⟩:KE ByteArray)]).map (enE ekS)).toArray (mc2+1))) :
  ClSt B w ib M mc gs ib2 M2 r (gs2++[cpG G mc2 cb nb v ms]) (mc2+1) (seen.push G.born) Y2:=by
 have hib:=(i_ h.blk).1
 have hM2:M2<X.heap.size:=by
  have:=(h.cl.foot_lt M2 (by simp[foot])).2
  rwa [zi] at this
 have hrl:=(i_ h.rd.iter).1
 have hwX:w.heap.size≤X.heap.size:=h.rd.bl.size
 have hX1:X.heap.size≤X1.heap.size:=hk1.size
 have hY1:X1.heap.size≤Y1.heap.size:=hb.size
 have hne:ib2≠M2:=by
  have:=(uE.1 h.cl.apart).1
  exact this
 have hrib:ib2≠r:=h.rne ib2 (by simp[foot])
 have hrM:M2≠r:=h.rne M2 (by simp[foot])
 have hYo:∀ k,k≠M2→Y2.heap[k]?=Y1.heap[k]?:=fun k hk=>by rw[hY];exact World.putObj_heap_other hk
 have hYs:Y2.heap.size=Y1.heap.size:=by rw[hY];simp[World.putObj]
 have hYm:Y2.heap[M2]?=some (.map (((gs2.map MG.e)++[(⟨G.name,.pointer (some ⟨cb,0,none⟩),mc2⟩:KE ByteArray)]).map (enE ekS)).toArray (mc2+1)):=by
  rw[hY]
  simp[World.putObj,show M2<Y1.heap.size by omega]
 have hc1:ye w.heap.size (setBlock X1 ib2 (.cells #[.map (some M2),.int .i64 (xS gs2)] 193 (0,0))) ib2 M2 gs2 mc2:=xZm h.cl hib (by omega) fun k hk _ hc=>hk1.block k hk (fun e=>by
  rw[List.mem_singleton] at e
  subst e
  rcases hc with hc | ⟨c,hc⟩
  ·exact h.rne k hc rfl
  ·rw[h.rd.iter] at hc
   cases hc)
 have hno:yk gs2 G.name=none:=by
  cases hg:yk gs2 G.name with
  | none=>rfl
  | some G2 =>
   exfalso
   obtain⟨m1,m2⟩:=yL hg
   obtain⟨G0,hG0,hs0,hn0,_⟩:=h.bwd G2 m1
   have:G0=G:=xAr h.rd.idx.names G0 hG0 G hG (hn0.symm.trans m2)
   rw[this,hns] at hs0
   cases hs0
 have hfresh:∀ k∈(cpG G mc2 cb nb v ms).foot,X1.heap.size≤k:=fun k hk=>by
  unfold MG.foot cpG at hk
  simp only[List.mem_append,List.mem_cons,List.mem_nil_iff,or_false,Option.mem_toList] at hk
  rcases hk with (rfl | rfl) | hk
  ·exact h1
  ·exact h2
  ·exact(World.ownsRow.lt hl.row k hk).1
 have hnd:(cpG G mc2 cb nb v ms).foot.Nodup:=by
  have e1:cb≠nb:=fun e=>by
   have:=hn
   unfold y3 at this
   rw[←e,hcb] at this
   cases this
  have e2:∀ k,v.ownBlock=some k→cb≠k∧nb≠k:=fun k hk=>by
   obtain⟨c,hc⟩:=yO hl.row hk
   constructor
   ·rintro rfl
    rw[hcb] at hc
    exact absurd (j8 hc) (by decide)
   ·rintro rfl
    have:=hn
    unfold y3 at this
    rw[hc] at this
    cases this
  unfold MG.foot cpG
  cases hv:v.ownBlock with
  | none=>simp[e1]
  | some k =>
   obtain⟨e3,e4⟩:=e2 k hv
   simp[e1,e3,e4]
 have hgl:∀ k∈(cpG G mc2 cb nb v ms).foot,k≠ib2∧k≠M2:=fun k hk=>by
  have:=hfresh k hk
  omega
 have hGrp:zY w.heap.size Y1 (cpG G mc2 cb nb v ms):=xXm (h.rd.idx.grps G hG) hp hcb ⟨kJ hl.row (by omega),fun m hm=>(hl.refs m hm).mono (by omega)⟩ hn (by omega) (by omega)
 have hGrp2:zY w.heap.size (setBlock Y2 ib2 (.cells #[.map (some M2),.int .i64 (xS (gs2++[cpG G mc2 cb nb v ms]))] 193 (0,0))) (cpG G mc2 cb nb v ms):=hGrp.keep (fun k hk=>by
   obtain⟨g1,g2⟩:=hgl k hk
   rw[yb _ _ _ _ g1,hYo k g2]) (fun m hm k hk=>by
   have:=(zd.lt (hl.refs m hm) hk).1
   rw[yb _ _ _ _ (by omega),hYo k (by omega)])
 have hfew:xS (gs2++[cpG G mc2 cb nb v ms])≤65536:=Nat.le_trans (xCt (Bl:=gs) (by
   rw[List.map_append]
   refine List.nodup_append.2 ⟨h.cl.names,by simp,fun a ha b hb e=>?_⟩
   obtain⟨G2,hG2,rfl⟩:=List.mem_map.1 ha
   simp only[List.map_cons,List.map_nil,List.mem_singleton] at hb
   exact jl hno G2 hG2 (e.trans hb)) (fun a ha=>by
   rcases List.mem_append.1 ha with ha | ha
   ·obtain⟨G0,hG0,_,hn0,hp0⟩:=h.bwd a ha
    refine⟨G0,hG0,hn0.symm,?_⟩
    have:=congrArg List.length hp0
    rw[List.length_map,List.length_map] at this
    exact this.symm
   ·obtain rfl:=List.mem_singleton.1 ha
    refine⟨G,hG,rfl,?_⟩
    have:=congrArg List.length hp
    rw[List.length_map,List.length_map] at this
    exact this.symm)) h.rd.idx.few
 obtain⟨hidx,hfoot⟩:=hc1.new (s:=G.name) (G':=cpG G mc2 cb nb v ms) (w':=setBlock Y2 ib2 (.cells #[.map (some M2),.int .i64 (xS (gs2++[cpG G mc2 cb nb v ms]))] 193 (0,0))) hno rfl rfl (by rw[zi];exact hfresh) hnd hGrp2 (ur _ _ _ (by omega)) (by
  unfold y3
  rw[yb _ _ _ _ (Ne.symm hne),hYm]
  simp only[List.map_append,List.map_cons,List.map_nil]
  rfl) ⟨by rw[show (setBlock Y2 ib2 (.cells #[.map (some M2),.int .i64 (xS (gs2++[cpG G mc2 cb nb v ms]))] 193 (0,0))).os=Y2.os from rfl,hY];exact hb.os,by rw[show (setBlock Y2 ib2 (.cells #[.map (some M2),.int .i64 (xS (gs2++[cpG G mc2 cb nb v ms]))] 193 (0,0))).tape=Y2.tape from rfl,hY];exact hb.tape,by rw[show (setBlock Y2 ib2 (.cells #[.map (some M2),.int .i64 (xS (gs2++[cpG G mc2 cb nb v ms]))] 193 (0,0))).output=Y2.output from rfl,hY];exact hb.output,by rw[zi,zi,hYs];exact hY1,fun k hk hn'=>by
   simp only[List.mem_cons,List.mem_nil_iff,or_false,not_or] at hn'
   rw[zi] at hk
   rw[yb _ _ _ _ hn'.1,yb _ _ _ _ hn'.1,hYo k hn'.2]
   exact hb.block k hk⟩ hfew
 have hit2:Y2.heap[r]?=some (.mapIter (some M) mc (seen.push G.born) mc):=by
  rw[hYo r (Ne.symm hrM),hb.block r (by omega)]
  exact hit
 have hwr:w.heap.size≤r:=h.rd.lo
 have hwM:w.heap.size≤M2:=h.cl.MB
 have hbl:Below w.heap.size w Y2:=by
  refine h.rd.bl.trans ⟨?_,?_,?_,by omega,fun k hk=>?_⟩
  ·rw[hY];exact hb.os.trans hk1.os
  ·rw[hY];exact hb.tape.trans hk1.tape
  ·rw[hY];exact hb.output.trans hk1.output
  ·rw[hYo k (by omega),hb.block k (by omega)]
   exact hk1.block k (by omega) (by simp;omega)
 refine⟨⟨hit2,hbl,hwr,h.rd.idx,fun H hH hs=>hs⟩,?_,hidx,fun H hH hs=>?_,fun G2 hG2=>?_,fun k hk=>?_⟩
 ·rw[hYo ib2 hne,hb.block ib2 (by omega)]
  exact(hk1.block ib2 hib (by simpa using hrib)).trans h.blk
 ·rw[Array.contains_push,Bool.or_eq_true] at hs
  rcases hs with hs | hs
  ·obtain⟨G2,hG2,e⟩:=h.fwd H hH hs
   exact⟨G2,List.mem_append_left _ hG2,e⟩
  ·have hbn:H.born=G.born:=by simpa using hs
   have:H=G:=xY8 h.rd.idx.born H hH G hG hbn
   subst this
   exact⟨cpG H mc2 cb nb v ms,List.mem_append_right _ (by simp),rfl,hp⟩
 ·rcases List.mem_append.1 hG2 with hG2 | hG2
  ·obtain⟨G0,hG0,hs0,e⟩:=h.bwd G2 hG2
   exact⟨G0,hG0,by rw[Array.contains_push,hs0];rfl,e⟩
  ·obtain rfl:=List.mem_singleton.1 hG2
   exact⟨G,hG,by rw[Array.contains_push];simp,rfl,hp⟩
 ·rcases hfoot k hk with hk | hk
  ·exact h.rne k hk
  ·rw[zi] at hk
   omega
theorem ClSt.out {B:Nat}{w:World}{ib M mc:Nat}{gs:List MG}{ib2 M2 r:Nat}{gs2:List MG}{mc2:Nat}{seen:Array Nat}{X X1 Y1:World}(h:ClSt B w ib M mc gs ib2 M2 r gs2 mc2 seen X){G:MG}(hG:G∈gs)(hns:seen.contains G.born=false)(hk1:Kept [r] X X1)(hb:Below X1.heap.size X1 Y1)(cb:Nat) :
  Y1.cell? ⟨ib2,0,none⟩=some (.map (some M2))∧(Instr.mapUpdate 191 (.map (some M2)) (.string G.name) (.pointer (some ⟨cb,0,none⟩))).run Tryz.prog Y1=.ok () (Y1.putObj M2 (.map (((gs2.map MG.e)++[(⟨G.name,.pointer (some ⟨cb,0,none⟩),mc2⟩:KE ByteArray)]).map (enE ekS)).toArray (mc2+1))):=by
 have hib:=(i_ h.blk).1
 have hM2:M2<X.heap.size:=by
  have:=(h.cl.foot_lt M2 (by simp[foot])).2
  rwa [zi] at this
 have hX1:X.heap.size≤X1.heap.size:=hk1.size
 have hrib:ib2≠r:=h.rne ib2 (by simp[foot])
 have hrM:M2≠r:=h.rne M2 (by simp[foot])
 have hne:ib2≠M2:=(uE.1 h.cl.apart).1
 have hno:yk gs2 G.name=none:=by
  cases hg:yk gs2 G.name with
  | none=>rfl
  | some G2 =>
   exfalso
   obtain⟨m1,m2⟩:=yL hg
   obtain⟨G0,hG0,hs0,hn0,_⟩:=h.bwd G2 m1
   have:G0=G:=xAr h.rd.idx.names G0 hG0 G hG (hn0.symm.trans m2)
   rw[this,hns] at hs0
   cases hs0
 have hcell:Y1.heap[ib2]?=some (.cells #[.map (some M2),.int .i64 (xS gs)] 193 (0,0)):=by
  rw[hb.block ib2 (by omega)]
  exact(hk1.block ib2 hib (by simpa using hrib)).trans h.blk
 have hmap:y3 ekS Y1 M2 (gs2.map MG.e) mc2:=by
  have hm:=h.cl.map
  unfold y3 at hm ⊢
  rw[yb _ _ _ _ (Ne.symm hne)] at hm
  rw[hb.block M2 (by omega),hk1.block M2 hM2 (by simpa using hrM)]
  exact hm
 refine⟨cell_of_row Y1 ib2 0 _ _ _ hcell,?_⟩
 refine xD4 keyS Tryz.underlying191 Y1 M2 _ mc2 hmap G.name _ ?_
 have h2:=xB0 G.name gs2 0
 rw[hno] at h2
 simpa using h2
theorem ClSt.done {B:Nat}{w:World}{ib M mc:Nat}{gs:List MG}{ib2 M2 r:Nat}{gs2:List MG}{mc2:Nat}{seen:Array Nat}{W:World}(h:ClSt B w ib M mc gs ib2 M2 r gs2 mc2 seen W)(hall:∀ G∈gs,seen.contains G.born=true):ye w.heap.size W ib2 M2 gs2 mc2∧lfOf gs2=lfOf gs∧xS gs2=xS gs:=by
 have hlen:∀ {a b:List ML},a.map (·.p)=b.map (·.p)→a.length=b.length:=fun {a b} h=>by
  have:=congrArg List.length h
  rwa [List.length_map,List.length_map] at this
 have ht:xS gs2=xS gs:=by
  refine Nat.le_antisymm (xCt h.cl.names fun a ha=>?_) (xCt h.rd.idx.names fun a ha=>?_)
  ·obtain⟨G,hG,_,hn,hp⟩:=h.bwd a ha
   exact⟨G,hG,hn.symm,(hlen hp).symm⟩
  ·obtain⟨G2,hG2,hn,hp⟩:=h.fwd a ha (hall a ha)
   exact⟨G2,hG2,hn,hlen hp⟩
 have hib:=(i_ h.blk).1
 have hsame:∀ k,W.heap[k]?=(setBlock W ib2 (.cells #[.map (some M2),.int .i64 (xS gs2)] 193 (0,0))).heap[k]?:=fun k=>by
  by_cases e:k=ib2
  ·subst e
   rw[ur _ _ _ hib,h.blk,ht]
  ·rw[yb _ _ _ _ e]
 refine⟨h.cl.keep (fun k _=>hsame k) (fun _ _ _ _ k _=>hsame k),?_,ht⟩
 funext t
 unfold lfOf xD
 cases hg:yk gs t with
 | none =>
  cases hg2:yk gs2 t with
  | none=>rfl
  | some G2 =>
   exfalso
   obtain⟨m1,m2⟩:=yL hg2
   obtain⟨G,hG,_,hn,_⟩:=h.bwd G2 m1
   exact jl hg G hG (hn.symm.trans m2)
 | some G =>
  obtain⟨m1,m2⟩:=yL hg
  obtain⟨G2,hG2,hn,hp⟩:=h.fwd G m1 (hall G m1)
  have:yk gs2 t=some G2:=by
   rw[←m2,←hn]
   exact kO h.cl.names hG2
  rw[this]
  exact hp
end Go.Proofs.YthiafifdiaplaaaGreatDoor
namespace Go.Proofs.YthiafifdiaplaaaGreatDoor
open Go Go.RowKit Go.Proofs
section
theorem xHe (b:Nat)(es:Array MapEntry)(clock:Nat)(w:World)(hb:w.heap[b]?=some (.map es clock)) :
  Calls Tryz.prog 52 #[.map (some b)] w fun e w'=>e=.returned (.map (some w.heap.size))∧w.alloc (.map es clock)=w':=by
 have hu:Tryz.prog.underlying 71=some (.map 3 123):=Tryz.underlying71
 have hq:=fun w=>run_eql_map_nil_sl (P:=Tryz.prog) w 71 _ _ (some b) hu
 go_enter Tryz.func52,Tryz.ntmps52
 go_wp2
 rw[run_callFunc_extern Tryz.func95 (by kernel_rfl) (by kernel_rfl) (by kernel_rfl) (e:=Extern.MapsClone.clone) (by kernel_rfl),run_maps_clone_sl w 71 hb]
 simp only[Result.andThen]
 rw[Oper.upon_value]
 go_wp2
 rw[run_typeAssert_map_sl _ 71 20 _ _ _ hu]
 simp only[Result.andThen]
 rw[Oper.upon_value]
 go_wp2
 go_ret
 exact⟨rfl,rfl⟩
theorem xSi (w:World):Calls Tryz.prog 53 #[.slice none 0 0] w fun e w'=>e=.returned (.slice none 0 0)∧w=w':=by
 have hq:Sem.run Tryz.prog (binOp BinOp.eql 72 (.slice none 0 0) (.slice none 0 0)) w=.ok (.bool true) w:=by kernel_rfl
 go_enter Tryz.func53,Tryz.ntmps53
 go_wp2
 go_ret
 exact⟨rfl,rfl⟩
theorem xPy (ρ:Operand→Value)(d:Option Tmp)(x:Operand)(ty:TypeId)(pos:String)(af:Array Edge)(g:Option (Nat × Bool))(w:World) :
  Sem.run Tryz.prog (execOp ρ ⟨d,.load 74 x,ty,pos,af,g⟩) w=yx Tryz.prog 74 w (ρ x):=rfl
theorem xMv (ρ:Operand→Value)(d:Option Tmp)(x y:Operand)(ty:TypeId)(pos:String)(af:Array Edge)(g:Option (Nat × Bool))(w:World) :
  Sem.run Tryz.prog (execOp ρ ⟨d,.store 74 x y,ty,pos,af,g⟩) w=ym Tryz.prog 74 w (ρ x) (ρ y):=rfl
theorem yAx (w:World)(a:Addr)(h:xq w a 7=true):yx Tryz.prog 74 w (.pointer (some a))=.ok (.value (.agg (xp w a 7))) w :=
 yo Tryz.isAgg74 Tryz.sizeOf74 w a h
theorem yAg (w:World)(g:Nat)(cells:Array Value)(h:xP w g 7=true)(h2:xy 7 cells=true) :
  ym Tryz.prog 74 w (.pointer (some ⟨g,0,none⟩)) (.agg cells)=.ok .skip (w.setRow g cells):=yr (by kernel_rfl) w g cells h h2
def xTk:Array Value:=#[.int .i64 0,.map none,.slice none 0 0,.int .i64 0,.bool false,.int .i64 0,.bool false]
theorem xN2 (ρ:Operand→Value)(d:Option Tmp)(ty:TypeId)(pos:String)(af:Array Edge)(g:Option (Nat × Bool))(w:World) :
  Sem.run Tryz.prog (execOp ρ ⟨d,.alloc 74,ty,pos,af,g⟩) w=.ok (.value (.pointer (some ⟨w.heap.size,0,none⟩))) (w.alloc (.cells xTk 74)):=by kernel_rfl
attribute [local go_sem ↓] xPy xMv xN2
attribute [local go_sem] yAx yAg xj xh xe xd xA u9 xt xC
theorem xQe {B:Nat}{w:World}{v:Dev}{d:PD}(h:yj B w v d)(hp:d.pend=[]) :
  Calls Tryz.prog 29 #[.pointer (some ⟨v.p,0,none⟩)] w fun e w'=>Below w.heap.size w w'∧∃ v',e=.returned (.pointer (some ⟨v'.p,0,none⟩))∧yj w.heap.size w' v' d:=by
 have hpv:=h.nilp hp
 obtain⟨cs,hcs⟩:∃ cs,cs=yF v d:=⟨_,rfl⟩
 have hblk:=h.blk
 rw[←hcs] at hblk
 have hsz:cs.size=7:=by rw[hcs];rfl
 obtain⟨o1,r1⟩:=xI (n:=7) hblk hsz
 have hft:xy 7 cs=true:=by rw[hcs];unfold yF;rw[hpv];simp[xy,Value.oneCell']
 have hz:xTk.size=7:=rfl
 obtain⟨W1,hW1⟩:∃ W1,W1=w.alloc (.cells cs 74):=⟨_,rfl⟩
 have hb1:Below w.heap.size w W1:=by rw[hW1];exact b_ _ _
 have hn1:W1.heap[w.heap.size]?=some (.cells cs 74 (0,0)):=by rw[hW1];exact heap_alloc_new w _
 have hs1:W1.heap.size=w.heap.size+1:=by rw[hW1];exact World.size_alloc ..
 have hd1:=h.below hb1
 have c1:=cell_of_row W1 v.p 1 _ _ _ hd1.blk
 simp only[yF] at c1
 have HMC:=h_ (xHe v.M _ v.mc W1 hd1.map)
 have HH:=h_ h
 have HP:=h_ hp
 have HPV:=h_ hpv
 have HB1:=h_ hb1
 have HN1:=h_ hn1
 have HS1:=h_ hs1
 have HCS:=h_ hcs
 have HW1:=h_ hW1
 rw[hW1] at c1
 clear h hp hpv hb1 hn1 hs1 hd1 hcs hblk hsz hW1
 go_enter Tryz.func29,Tryz.ntmps29
 go_wp2_with fail
 rw[←HW1.out]
 refine HMC.out.mono ?_
 rintro e w2 ⟨rfl,rfl⟩
 clear hft hz c1 o1 r1
 have hb2:Below W1.heap.size W1 (W1.alloc (.map (v.es.map (enE ekN)).toArray v.mc)):=(Below.refl _ _).alloc (Nat.le_refl _) _
 have hm2:=heap_alloc_new W1 (.map (v.es.map (enE ekN)).toArray v.mc)
 have hs2:(W1.alloc (.map (v.es.map (enE ekN)).toArray v.mc)).heap.size=W1.heap.size+1:=World.size_alloc ..
 obtain⟨m,hmm⟩:∃ m,m=W1.heap.size:=⟨_,rfl⟩
 obtain⟨W2,hW2⟩:∃ W2,W2=W1.alloc (.map (v.es.map (enE ekN)).toArray v.mc):=⟨_,rfl⟩
 rw[←hW2] at hb2 hm2 hs2 ⊢
 rw[←hmm] at hm2 hs2 ⊢
 have hn2:W2.heap[w.heap.size]?=some (.cells cs 74 (0,0)):=(hb2.block _ (by have:=HS1.out;omega)).trans HN1.out
 rw[HCS.out] at hn2
 have c1:=cell_of_row W2 w.heap.size 1 _ _ _ hn2
 have f1:=frozen_of_row W2 w.heap.size 1 _ _ hn2
 have hn3:=heap_setCell_same W2 w.heap.size 1 _ _ (.map (some m)) hn2
 have hb3:Below w.heap.size w (W2.setCell ⟨w.heap.size,1,none⟩ (.map (some m))):=(HB1.out.trans (hb2.mono HB1.out.size)).setCell (p:=⟨w.heap.size,1,none⟩) (Nat.le_refl _) _
 have hm3:(W2.setCell ⟨w.heap.size,1,none⟩ (.map (some m))).heap[m]?=some (.map (v.es.map (enE ekN)).toArray v.mc):=(heap_setCell_other W2 ⟨w.heap.size,1,none⟩ m _ (by show m≠w.heap.size;have:=HS1.out;omega)).trans hm2
 simp only[yF] at c1
 have hd3:=HH.out.below hb3
 have c2:=cell_of_row _ v.p 2 _ _ _ hd3.blk
 simp only[yF] at c2
 have hpv:=HPV.out
 rw[hpv] at c2
 have HN3:=h_ hn3
 have HM3:=h_ hm3
 have HB3:=h_ hb3
 have HMM:=h_ hmm
 clear hpv hn3 hm3 hb3 hd3 hb2 hm2 hs2 hn2 hW2 hmm
 go_wp2_with fail
 obtain⟨W3,hW3⟩:∃ W3,W3=W2.setCell ⟨w.heap.size,1,none⟩ (.map (some m)):=⟨_,rfl⟩
 rw[←hW3] at HN3 HM3 HB3 ⊢
 refine(xSi W3).mono ?_
 rintro e w4 ⟨rfl,rfl⟩
 clear c1 f1 c2 hW3
 have hn3:=HN3.out
 have c2:=cell_of_row W3 w.heap.size 2 _ _ _ hn3
 have f2:=frozen_of_row W3 w.heap.size 2 _ _ hn3
 have hn4:=heap_setCell_same W3 w.heap.size 2 _ _ (.slice none 0 0) hn3
 have hb4:Below w.heap.size w (W3.setCell ⟨w.heap.size,2,none⟩ (.slice none 0 0)):=HB3.out.setCell (p:=⟨w.heap.size,2,none⟩) (Nat.le_refl _) _
 have hm4:(W3.setCell ⟨w.heap.size,2,none⟩ (.slice none 0 0)).heap[m]?=some (.map (v.es.map (enE ekN)).toArray v.mc):=(heap_setCell_other W3 ⟨w.heap.size,2,none⟩ m _ (by show m≠w.heap.size;have:=HS1.out;have:=HMM.out;omega)).trans HM3.out
 have h:=HH.out
 have HF:=h_ (show yj w.heap.size (W3.setCell ⟨w.heap.size,2,none⟩ (.slice none 0 0)) { v with p:=w.heap.size,M:=m,pv:=.slice none 0 0 } d from
  ⟨by rw[hn4];rfl,h.lim,fun _=>rfl,hm4,h.dur,h.durL,by rw[HP.out];exact⟨World.ownsRow_nil _ _ _ _,fun x hx=>by cases hx⟩,h.n1,h.n2,h.few,Nat.le_refl _,by show w.heap.size≤m;rw[HMM.out,HS1.out];omega⟩)
 have HB4:=h_ hb4
 simp only[yF] at c2
 clear hn3 hn4 hb4 hm4 h
 go_wp2
 go_ret
 exact⟨HB4.out,{ v with p:=w.heap.size,M:=m,pv:=.slice none 0 0 },rfl,HF.out⟩
end
def xQ6 (b:Bool):Int:=if b then 28 else 0
def xE (p n:Nat):Array Value:=#[.pointer (some ⟨p,0,none⟩),.int .i64 0,.int .i64 n]
theorem xBh (p n:Nat)(hn:n≤4096)(w:World):Calls Tryz.prog 90 #[.agg (xE p n)] w fun e w'=>e=.returned (.int .i64 (n / 2:Nat))∧Below w.heap.size w w':=by
 have hb:Below w.heap.size w (w.alloc (.cells (xE p n) 128)):=(Below.refl _ _).alloc (Nat.le_refl _) _
 have HB:=h_ hb
 have hnz:(n:Int)≤4096:=by omega
 unfold xE at HB ⊢
 clear hb hn
 go_enter Tryz.func90,Tryz.ntmps90
 go_wp2
 go_ret
 exact⟨congrArg (fun z=>Ending.returned (.int .i64 z)) (show (n:Int) / 2=((n / 2:Nat):Int) by omega),HB.out⟩
theorem kL {B:Nat}{w:World}{v:Dev}{d:PD}(h:yj B w v d)(hn:8≤d.n):Calls Tryz.prog 54 #[.agg (xE v.p d.n)] w fun e w'=>e=.returned (.int .i64 (xQ6 d.down))∧Below w.heap.size w w':=by
 obtain⟨w1,hw1⟩:∃ w1,w1=w.alloc (.cells (xE v.p d.n) 128):=⟨_,rfl⟩
 have hb:Below w.heap.size w w1:=by rw[hw1];exact b_ _ _
 have hrow:w1.heap[w.heap.size]?=some (.cells (xE v.p d.n) 128 (0,0)):=by rw[hw1];exact heap_alloc_new w _
 have hsec:∀ k,Calls Tryz.prog 8 #[.pointer (some ⟨v.p,0,none⟩)] (w1.drewN k) fun e w'=>e=.returned (.int .i64 d.n)∧∃ m,w'=w1.drewN m:=fun k =>
  (yJ ((h.below hb).below (xU (Below.refl _ _) k))).mono fun e w' ⟨h1,h2⟩=>⟨h1,k,h2.symm⟩
 have HSEC:=h_ hsec
 have HD:=h_ (h.below hb)
 have HB:=h_ hb
 have HR:=h_ hrow
 have h2:=h.n2
 obtain⟨n,hnn⟩:∃ n,n=d.n:=⟨_,rfl⟩
 rw[←hnn] at hn h2 hw1 hrow HSEC HR ⊢
 have HN:=h_ hnn
 have hnz:(8:Int)≤n:=by omega
 have hnz2:(n:Int)≤4096:=by omega
 unfold xE at hw1 HR ⊢
 clear hsec hb hrow h hnn
 go_enter Tryz.func54,Tryz.ntmps54
 go_upto_region 3 with fail
 refine xu hw1 ?_
 clear hw1
 have c0:=cell_of_row w1 w.heap.size 0 _ _ _ HR.out
 have c1:=cell_of_row w1 w.heap.size 1 _ _ _ HR.out
 have c2:=cell_of_row w1 w.heap.size 2 _ _ _ HR.out
 have hsub:IntKind.i64.wrap ((n:Int)-n)=0:=by rw[Int.sub_self];rfl
 have hg8:decide ((n:Int)<8)=false:=decide_eq_false (by omega)
 have hg0:decide ((0:Int) > 0)=false:=by decide
 go_quiet ((go_at_call 8;exact HSEC.out _))
 have HD2:=h_ (HD.out.below (xU (Below.refl _ _) nq))
 have HB2:=h_ (xU HB.out nq)
 have c0':(w1.drewN nq).cell? ⟨w.heap.size,0,none⟩=some (.pointer (some ⟨v.p,0,none⟩)):=by rw[World.cell?_drewN];exact c0
 clear c0 c1 c2 hsub hg8 hg0 HSEC
 generalize w1.drewN nq=w2 at HD2 HB2 c0' ⊢
 go_wp2_with fail
 refine(xDt HD2.out).mono ?_
 rintro e w3 ⟨rfl,rfl⟩
 obtain⟨dn,hdn⟩:∃ dn,dn=d.down:=⟨_,rfl⟩
 rw[←hdn]
 have HDN:=h_ hdn
 clear hdn
 cases dn with
 | true =>
  go_wp2
  go_ret
  exact⟨by rw[←HDN.out];rfl,HB2.out⟩
 | false =>
  go_wp2
  go_ret
  exact⟨by rw[←HDN.out];rfl,HB2.out⟩
theorem ScAt.under {w w':World}{B:Nat}{v:Value}{L:List (List UInt8)}{vs:List Value}(h:ScAt w B v L vs)(hs:w.heap.size≤w'.heap.size)(hb:∀ g,B≤g→g<w.heap.size→w'.heap[g]?=w.heap[g]?):ScAt w' B v L vs:=by
 refine⟨⟨h.own.1,?_⟩,h.len,fun i hi=>(h.el i hi).same hs fun g h1 _ h3=>hb g h1 h3⟩
 rcases h.own.2 with h0 | ⟨g,cap,cur,hv,hg,hcur,r⟩
 ·exact .inl h0
 ·exact .inr ⟨g,cap,cur,hv,hg,(hb g hg (i_ hcur).1).trans hcur,r⟩
structure RdJ (W:World)(b0 b1 b2 p n from':Nat)(v:Value):Prop where
 st:W.heap[b0]?=some (.cells (xE p n) 128 (0,0))
 fr:W.heap[b1]?=some (.cells #[.int .i64 from'] 3 (0,0))
 li:W.heap[b2]?=some (.cells #[v] 129 (0,0))
def xYl (B b2:Nat)(v:Value)(L:List By)(vs:List Value)(b:By)(W:World)(e:Ending)(W':World):Prop :=
 e=.returned (.int .i64 0)∧∃ v' x,W'.heap[b2]?=some (.cells #[v'] 129 (0,0))∧ScAt W' B v' (L++[b]) (vs++[x])∧Kept (b2 :: v.ownBlock.toList) W W'
theorem xRj {D B:Nat}{w:World}{v:Dev}{d:PD}(h:yj D w v d)(hd:d.down=false)(b0 b1 b2 from':Nat)(L:List By)(vs:List Value)(lv:Value)(hr:RdJ w b0 b1 b2 v.p d.n from' lv)(hl:ScAt w B lv L vs)(hlt:from'+L.length<d.n)(hB:B≤w.heap.size)(h2B:b2<B) :
  Calls Tryz.prog 145 #[.pointer (some ⟨b0,0,none⟩),.pointer (some ⟨b1,0,none⟩),.pointer (some ⟨b2,0,none⟩)] w (xYl B b2 lv L vs (d.vis (from'+L.length)) w):=by
 obtain⟨la,lc,hlv⟩:=yH hl.own
 have c0:=cell_of_row w b0 0 _ _ _ hr.st
 have c1:=cell_of_row w b0 1 _ _ _ hr.st
 have cf:=cell_of_row w b1 0 _ _ _ hr.fr
 have cl:=cell_of_row w b2 0 _ _ _ hr.li
 have hn2:=h.n2
 have HRD:=h_ (xWl h (from'+L.length) hlt hd)
 have HR:=h_ hr
 have HL:=h_ hl
 have HD:=h_ h
 have HLV:=h_ hlv
 obtain⟨k,hk⟩:∃ k,k=L.length:=⟨_,rfl⟩
 rw[←hk] at hlt HRD hlv ⊢
 have HK:=h_ hk
 rw[hlv] at cl
 have hz1:(from':Int)+(k:Int)≤4096:=by omega
 obtain⟨s,hs⟩:∃ s,s=from'+k:=⟨_,rfl⟩
 have hsz:(from':Int)+(k:Int)=(s:Int):=by omega
 rw[←hs] at HRD ⊢
 have HS:=h_ hs
 unfold xE at c0 c1
 clear h hd hr hl hlv hk hs
 go_enter Tryz.func145,Tryz.ntmps145
 go_wp2_with fail
 refine HRD.out.mono ?_
 rintro e w1 ⟨hb1,g,rfl,hg,hrow⟩
 obtain⟨x,hx⟩:∃ x,x=Value.slice (some ⟨g,0,none⟩) 256 256:=⟨_,rfl⟩
 have hne:∀ j,lv.ownBlock=some j→j≠b2:=fun j hj e=>by
  have h1:=HR.out.li
  rcases HL.out.own.2 with⟨h0,_⟩ | ⟨g',cap,cur,hv,_,hcur,_⟩
  ·rw[h0] at hj;cases hj
  ·rw[hv] at hj
   have hj':g'=j:=Option.some.inj hj
   rw[←e,←hj',hcur] at h1
   cases h1
 have hlt2:b2<w.heap.size:=(i_ HR.out.li).1
 have hba:Below w1.heap.size w1 (w1.alloc (.cells #[.slice (some ⟨g,0,none⟩) 256 256] 66)):=(Below.refl _ _).alloc (Nat.le_refl _) _
 have hb2:=hb1.trans (hba.mono hb1.size)
 have HSC:=h_ (HL.out.later hb2)
 have HEL:=h_ ((xQ5 (B:=B) (v:=lv) hrow (xSv HD.out s) (Nat.le_trans hB hg) (fun e=>by have:=(World.ownsRow.lt HL.out.own g e).2;omega)).later hba)
 have cl1:w1.cell? ⟨b2,0,none⟩=some (.slice la k lc):=(hb1.cell (p:=⟨b2,0,none⟩) hlt2).trans cl
 have hcx:=yy w1 #[.slice (some ⟨g,0,none⟩) 256 256] 66 0
 have HCX:=h_ hcx
 have hLL:Hid (L.length≤1000000):=h_ (by rw[←HK.out];omega)
 have hB2:Hid (B≤(w1.alloc (.cells #[.slice (some ⟨g,0,none⟩) 256 256] 66)).heap.size):=h_ (Nat.le_trans hB hb2.size)
 have HB2:=h_ hb2
 have HNE:=h_ hne
 have HLT2:=h_ hlt2
 have hrl:=(hb2.block b2 hlt2).trans HR.out.li
 have HRL:=h_ hrl
 rw[HLV.out,←HK.out] at HSC
 clear hcx hba hb1 hb2 hne hlt2 hrow hg hx c0 c1 cf cl HRD hrl
 go_wp2_with (at_builtin;refine xAd rfl (.tmp 21) (.tmp 23) rfl B _ L vs rfl HSC.out (.slice (some ⟨g,0,none⟩) 256 256) (d.vis s) ?cE ⟨w1.heap.size,0,none⟩ rfl HCX.out hLL.out hB2.out ?_)
 case cE=>rw[HK.out,←HLV.out];exact HEL.out
 intro v' w3 hsc hgr hat
 have hl3:=(hgr.block b2 (Nat.lt_of_lt_of_le HLT2.out HB2.out.size) (fun e=>HNE.out b2 (by rw[HLV.out,←HK.out];exact e.symm) rfl)).trans HRL.out
 have c2:=cell_of_row w3 b2 0 _ _ _ hl3
 have f2:=frozen_of_row w3 b2 0 _ _ hl3
 have hset:=heap_setCell_same w3 b2 0 _ _ v' hl3
 obtain⟨m,hm⟩:∃ m,m=(L++[d.vis s]).length:=⟨_,rfl⟩
 obtain⟨va,vc,hv'⟩:∃ a c,v'=.slice a m c:=by rw[hm];exact yH hsc.own
 clear hm
 have hsc4:ScAt (w3.setCell ⟨b2,0,none⟩ v') B v' (L++[d.vis s]) (vs++[.slice (some ⟨g,0,none⟩) 256 256]):=hsc.under (by simp[World.setCell]) fun g hg _=>heap_setCell_other w3 ⟨b2,0,none⟩ g v' (by show g≠b2;omega)
 have hkp:Kept (b2 :: lv.ownBlock.toList) w (w3.setCell ⟨b2,0,none⟩ v'):=by
  have HB:=HB2.out
  refine⟨hgr.os.trans HB.os,hgr.tape.trans HB.tape,hgr.output.trans HB.output,by have:=hgr.size;have:=HB.size;simp[World.setCell];omega,fun k' hk' hn=>?_⟩
  rw[List.mem_cons,not_or] at hn
  refine(heap_setCell_other w3 ⟨b2,0,none⟩ k' v' hn.1).trans ((hgr.block k' (Nat.lt_of_lt_of_le hk' HB.size) (fun e=>hn.2 ?_)).trans (HB.block k' hk'))
  rw[HLV.out,←HK.out,←e];simp
 have HFIN:=h_ (show xYl B b2 lv L vs (d.vis s) w (.returned (.int .i64 0)) (w3.setCell ⟨b2,0,none⟩ v') from ⟨rfl,v',_,hset,hsc4,hkp⟩)
 subst hv'
 clear hset hsc4 hkp hsc hgr hat hl3
 go_wp2
 go_ret
 exact HFIN.out
def jc (d:PD)(from' k:Nat):List By:=(List.range k).map fun i=>d.vis (from'+i)
theorem zK (d:PD)(from' k:Nat):(jc d from' k).length=k:=by simp[jc]
theorem xRc (d:PD)(from' k:Nat):jc d from' (k+1)=jc d from' k++[d.vis (from'+k)]:=by simp[jc,List.range_succ]
def xP3 (w:World)(b:Nat):Nat:=match w.cell? ⟨b,0,none⟩ with
 | some (.slice _ n _)=>n
 | _=>0
def xBo (d:PD)(from' k:Nat)(w:World)(e:Ending)(w':World):Prop :=
 Below w.heap.size w w'∧∃ v vs,e=.returned (.tuple #[v,.int .i64 0])∧ScAt w' w.heap.size v (jc d from' k) vs
structure RlSt (w:World)(p n from':Nat)(d:PD)(k:Nat)(W:World):Prop where
 bel:Below w.heap.size w W
 at':∃ v vs,RdJ W w.heap.size (w.heap.size+1) (w.heap.size+1+1) p n from' v∧ScAt W (w.heap.size+3) v (jc d from' k) vs
theorem xKo {D:Nat}{w:World}{v:Dev}{d:PD}(h:yj D w v d)(hd:d.down=false)(from' cnt:Nat)(hlt:from'+cnt≤d.n) :
  Calls Tryz.prog 103 #[.agg (xE v.p d.n),.int .i64 from',.int .i64 cnt] w (xBo d from' cnt w):=by
 obtain⟨w1,hw1⟩:∃ w1,w1=((w.alloc (.cells (xE v.p d.n) 128)).alloc (.cells #[.int .i64 from'] 3)).alloc (.cells #[.slice none 0 0] 129):=⟨_,rfl⟩
 have hb:Below w.heap.size w w1:=by rw[hw1];exact(((Below.refl _ _).alloc (Nat.le_refl _) _).alloc (by simp) _).alloc (by simp;omega) _
 have hs1:w1.heap.size=w.heap.size+3:=by rw[hw1];simp
 have h0:w1.heap[w.heap.size]?=some (.cells (xE v.p d.n) 128 (0,0)):=by
  rw[hw1,heap_alloc_old _ _ (by simp;omega),heap_alloc_old _ _ (by simp),heap_alloc_new]
 have h1:w1.heap[w.heap.size+1]?=some (.cells #[.int .i64 from'] 3 (0,0)):=by
  have:=heap_alloc_new (w.alloc (.cells (xE v.p d.n) 128)) (.cells #[.int .i64 from'] 3)
  rw[World.size_alloc] at this
  rw[hw1,heap_alloc_old _ _ (by simp),this]
 have h2:w1.heap[w.heap.size+2]?=some (.cells #[.slice none 0 0] 129 (0,0)):=by
  have:=heap_alloc_new ((w.alloc (.cells (xE v.p d.n) 128)).alloc (.cells #[.int .i64 from'] 3)) (.cells #[.slice none 0 0] 129)
  rw[World.size_alloc,World.size_alloc] at this
  rw[hw1,this]
 have HST:Hid (RlSt w v.p d.n from' d 0 w1):=h_ ⟨hb,.slice none 0 0,[],⟨h0,h1,h2⟩,ScAt.nil _ _⟩
 have HD:=h_ h
 have HDN:=h_ hd
 have hn2:=h.n2
 have hcz:(cnt:Int)≤4096:=by omega
 have HLT:=h_ hlt
 obtain⟨n,hn⟩:∃ n,n=d.n:=⟨_,rfl⟩
 rw[←hn] at hw1 HST ⊢
 have HN:=h_ hn
 unfold xE at hw1
 clear hb hs1 h0 h1 h2 h hd hn2 hlt hn
 unfold xE
 go_enter Tryz.func103,Tryz.ntmps103
 go_wp2
 refine xu hw1 ?_
 clear hw1
 go_loopw [10] (fun _ wr=>∃ k:Nat,k≤cnt∧Hid (RlSt w v.p n from' d k wr)) (fun _ wr=>cnt-xP3 wr (w.heap.size+1+1))
 case atStart=>exact⟨0,Nat.zero_le _,HST⟩
 case round =>
  obtain⟨k,hk,HS⟩:=hrel
  obtain⟨lv,vs,hrj,hsc⟩:=HS.out.at'
  obtain⟨la,lc,hlv⟩:=yH hsc.own
  rw[zK] at hlv
  have cl:=cell_of_row wr (w.heap.size+1+1) 0 _ _ _ hrj.li
  rw[hlv] at cl
  have cl':wr.cell? ⟨w.heap.size+1+1,0,none⟩=some (.slice la k lc):=cl
  have hmz:xP3 wr (w.heap.size+1+1)=k:=by unfold xP3;rw[cl']
  have hwr:w.heap.size+3≤wr.heap.size:=(i_ hrj.li).1
  have HMZ:=h_ hmz
  have HLV:=h_ hlv
  have HSC:=h_ hsc
  by_cases hlt:k<cnt
  ·have hltz:(k:Int)<cnt:=by omega
   have hnx:=xRj (HD.out.below HS.out.bel) HDN.out w.heap.size (w.heap.size+1) (w.heap.size+1+1) from' (jc d from' k) vs lv (by rw[←HN.out];exact hrj) hsc (by rw[zK];have:=HLT.out;omega) hwr (Nat.lt_succ_self _)
   have HNX:=h_ hnx
   have HRJ:=h_ hrj
   clear hnx hrj hsc hmz hlv cl
   go_wp2_with fail
   refine HNX.out.mono ?_
   rintro e w2 ⟨rfl,v',x,hli,hsc2,hkp⟩
   have hne:∀ j,j<w.heap.size+2→j ∉ ((w.heap.size+1+1) :: lv.ownBlock.toList):=fun j hj hm=>by
    rcases List.mem_cons.1 hm with rfl | hm
    ·omega
    ·have:=(World.ownsRow.lt HSC.out.own j (by simpa using hm)).1;omega
   have hbel:Below w.heap.size w w2:=HS.out.bel.trans (hkp.below (by omega) (fun j hj=>by
    rcases List.mem_cons.1 hj with rfl | hm
    ·omega
    ·have:=(World.ownsRow.lt HSC.out.own j (by simpa using hm)).1;omega))
   rw[zK,←xRc] at hsc2
   have hm2:xP3 w2 (w.heap.size+1+1)=k+1:=by
    obtain⟨a,c,e⟩:=yH hsc2.own
    unfold xP3
    rw[cell_of_row w2 (w.heap.size+1+1) 0 _ _ _ hli,e,zK];rfl
   have HN2:Hid (RlSt w v.p n from' d (k+1) w2):=h_ ⟨hbel,v',_,⟨(hkp.block _ (by omega) (hne _ (by omega))).trans HRJ.out.st,(hkp.block _ (by omega) (hne _ (by omega))).trans HRJ.out.fr,hli⟩,hsc2⟩
   have HM2:=h_ hm2
   have hk1:k+1≤cnt:=hlt
   clear hm2 hbel hne hsc2 hli hkp cl'
   go_wp2
   go_roundw
   case rel=>exact⟨k+1,hk1,HN2⟩
   case measure=>rw[HM2.out,HMZ.out];omega
  ·obtain rfl:k=cnt:=by omega
   have HF:=h_ (show xBo d from' k w (.returned (.tuple #[.slice la k lc,.int .i64 0])) wr from ⟨HS.out.bel,.slice la k lc,vs,rfl,by rw[←hlv];exact hsc.base (by omega)⟩)
   clear hrj hsc hmz hlv cl
   go_wp2
   go_ret2
   exact HF.out
section
attribute [local go_sem ↓] qs uR
attribute [local go_sem] xBf xB9 xEe xE9 xK5 xj xh xe xd xA xz xo xl xt xC xx
theorem zN (ρ:Operand→Value)(d:Option Tmp)(x:Operand)(ty:TypeId)(pos:String)(af:Array Edge)(g:Option (Nat × Bool))(w:World) :
  Sem.run Tryz.prog (execOp ρ ⟨d,.load 128 x,ty,pos,af,g⟩) w=yx Tryz.prog 128 w (ρ x):=rfl
theorem zz (ρ:Operand→Value)(d:Option Tmp)(x y:Operand)(ty:TypeId)(pos:String)(af:Array Edge)(g:Option (Nat × Bool))(w:World) :
  Sem.run Tryz.prog (execOp ρ ⟨d,.store 128 x y,ty,pos,af,g⟩) w=ym Tryz.prog 128 w (ρ x) (ρ y):=rfl
theorem kg (w:World)(a:Addr)(h:xq w a 3=true):yx Tryz.prog 128 w (.pointer (some a))=.ok (.value (.agg (xp w a 3))) w :=
 yo Tryz.isAgg128 Tryz.sizeOf128 w a h
theorem kd (w:World)(g:Nat)(cells:Array Value)(h:xP w g 3=true)(h2:xy 3 cells=true) :
  ym Tryz.prog 128 w (.pointer (some ⟨g,0,none⟩)) (.agg cells)=.ok .skip (w.setRow g cells):=yr (by kernel_rfl) w g cells h h2
attribute [local go_sem ↓] zN zz
attribute [local go_sem] kg kd
noncomputable def genK (d:PD)(area k:Nat):Nat:=(List.range k).foldl (fun g s=>zH sha area g (d.vis s)) area
theorem xKt (d:PD)(area k:Nat):genK d area (k+1)=zH sha area (genK d area k) (d.vis k):=by
 unfold genK
 rw[List.range_succ,List.foldl_append,List.foldl_cons,List.foldl_nil]
theorem xTg (d:PD)(area:Nat)(ha:area<2):∀ k,genK d area k≤2147483649
 | 0=>by show area≤_;omega
 | k+1=>by
  have ih:=xTg d area ha k
  rw[xKt]
  unfold zH
  cases hp:decP sha (d.vis k) with
  | none=>exact ih
  | some p =>
   have hok:=xBl hp
   have hg:p.gen≤2147483647:=hok.1.2.2.2.1
   simp only
   split
   ·split <;> omega
   ·exact ih
structure NxSt (w:World)(L:List By)(v:Value)(vs:List Value)(W:World):Prop where
 bel:Below w.heap.size w W
 sc:ScAt W w.heap.size v L vs
theorem xV4 {w:World}{B:Nat}{v:Value}{L:List (List UInt8)}{vs:List Value}(h:ScAt w B v L vs)(k:Nat)(hk:k<L.length):∃ g cap e,v=.slice (some ⟨g,0,none⟩) L.length cap∧w.cell? ⟨g,k,none⟩=some (.slice (some ⟨e,0,none⟩) 256 256)∧L[k].length=256∧e<w.heap.size∧SlB w ⟨e,0,none⟩ L[k]:=by
 obtain⟨g,cap,hv,_,_,_,_,hc⟩:=h.at (fun e=>by rw[e] at hk;cases hk)
 obtain⟨e,he,h2,_,h4,_,h6⟩:=h.el k hk
 refine⟨g,cap,e,hv,?_,h2,h4,h6⟩
 rw[hc k hk,he]
theorem xKp {D:Nat}{w:World}{v:Dev}{d:PD}(h:yj D w v d)(hd:d.down=false)(hK:qF w)(area:Nat)(ha:area<2)(hg:genK d area d.n≤2147483647) :
  Calls Tryz.prog 63 #[.agg (xE v.p d.n),.int .i64 area] w fun e w'=>Below w.heap.size w w'∧e=.returned (.tuple #[.int .i64 (genK d area d.n),.int .i64 0]):=by
 obtain⟨w1,hw1⟩:∃ w1,w1=w.alloc (.cells (xE v.p d.n) 128):=⟨_,rfl⟩
 have hb1:Below w.heap.size w w1:=by rw[hw1];exact b_ _ _
 have hrow:w1.heap[w.heap.size]?=some (.cells (xE v.p d.n) 128 (0,0)):=by rw[hw1];exact heap_alloc_new w _
 have HRD:=h_ (xKo (h.below hb1) hd 0 d.n (by omega))
 obtain⟨o1,r1⟩:=xI (n:=3) hrow rfl
 have c2:=cell_of_row w1 w.heap.size 2 _ _ _ hrow
 have HB1:=h_ hb1
 have HK:=h_ hK
 have HG:=h_ hg
 have HD:=h_ h
 have hn2:=h.n2
 obtain⟨n,hn⟩:∃ n,n=d.n:=⟨_,rfl⟩
 rw[←hn] at hw1 r1 c2 HRD hn2 HG ⊢
 have HN:=h_ hn
 obtain⟨G,hG⟩:∃ G,G=genK d area:=⟨_,rfl⟩
 rw[←hG] at HG ⊢
 have HGG:=h_ hG
 have hnz:(n:Int)≤4096:=by omega
 have haz:(area:Int)<2:=by omega
 unfold xE at hw1 r1 c2 HRD ⊢
 rw[hw1] at o1 r1 c2
 clear h hd hK hg hb1 hrow hn hG
 go_enter Tryz.func63,Tryz.ntmps63
 go_wp2_with fail
 rw[←hw1]
 clear hw1 o1 r1 c2
 refine HRD.out.mono ?_
 rintro e w2 ⟨hb2,lv,vs,rfl,hsc⟩
 obtain⟨la,lc,hlv⟩:=yH hsc.own
 rw[zK] at hlv
 subst hlv
 have HST:Hid (NxSt w (jc d 0 n) (.slice la n lc) vs w2):=h_ ⟨HB1.out.trans (hb2.mono HB1.out.size),hsc.base HB1.out.size⟩
 clear hb2 hsc
 go_wp2
 have hG0:(area:Int)=(G 0:Int):=by rw[HGG.out];simp[genK]
 rw[hG0]
 have HG0:=h_ hG0
 clear hG0
 go_loopw [8,26] (fun gv iv wr=>∃ k:Nat,gv=.int .i64 (G k:Int)∧iv=.int .i64 k∧k≤n∧Hid (NxSt w (jc d 0 n) (.slice la n lc) vs wr)) (fun _ iv _=>n-(intOf iv).toNat)
 case atStart=>exact⟨0,rfl,rfl,Nat.zero_le _,HST⟩
 case round =>
  obtain⟨k,rfl,rfl,hk,HS⟩:=hrel
  by_cases hlt:k<n
  ·have hltz:(k:Int)<n:=by omega
   obtain⟨g,cap,e0,hlv,hcl,hlen,he0,hslb⟩:=xV4 HS.out.sc k (by rw[zK];exact hlt)
   have hla:la=some ⟨g,0,none⟩:=by rw[zK] at hlv;injection hlv
   subst hla
   have hdec:=vt e0 _ wr (HK.out.below HS.out.bel (Nat.le_refl _)) hslb hlen he0
   have hvk:(jc d 0 n)[k]'(by rw[zK];exact hlt)=d.vis k:=by simp[jc]
   rw[hvk] at hdec
   have HDEC:=h_ hdec
   have hGs:G (k+1)=zH sha area (G k) (d.vis k):=by rw[HGG.out];exact xKt d area k
   have HGS:=h_ hGs
   have hGk:(G k:Int)≤2147483649:=by have:=xTg d area ha k;rw[←HGG.out] at this;omega
   have hGz:(0:Int)≤(G k:Int):=by omega
   clear hlv hdec hvk hGs hlen hslb
   go_wp2_with fail
   refine HDEC.out.mono ?_
   rintro e w3 ⟨hb3,hpost⟩
   have HS3:Hid (NxSt w (jc d 0 n) (.slice (some ⟨g,0,none⟩) n lc) vs w3):=h_ ⟨HS.out.bel.trans (hb3.mono HS.out.bel.size),HS.out.sc.later hb3⟩
   rcases hpost with⟨p,vp,hp,rfl,hown,hvn⟩ | ⟨r,hno,hr,rfl⟩
   ·obtain⟨vg,vn,vc,rfl⟩:∃ g n c,vp=.slice (some ⟨g,0,none⟩) n c:=by
     rcases hown.at with⟨h,_⟩ | ⟨g,c,h,_⟩
     ·exact absurd h hvn
     ·exact⟨g,_,c,h⟩
    have hok:=xBl hp
    have hg0:(0:Int)≤p.gen:=hok.1.2.2.1
    have hg1:p.gen≤2147483647:=hok.1.2.2.2.1
    unfold zb
    have hft:xy 6 #[.int .i64 p.kind,.int .i64 p.gen,.int .i64 p.num,.int .i64 p.idx,.int .i64 p.cnt,.slice (some ⟨vg,0,none⟩) vn vc]=true:=by simp[xy,Value.oneCell']
    have hba:Below w3.heap.size w3 (w3.alloc (.cells #[.int .i64 p.kind,.int .i64 p.gen,.int .i64 p.num,.int .i64 p.idx,.int .i64 p.cnt,.slice (some ⟨vg,0,none⟩) vn vc] 217)):=(Below.refl _ _).alloc (Nat.le_refl _) _
    have HS4:Hid (NxSt w (jc d 0 n) (.slice (some ⟨g,0,none⟩) n lc) vs (w3.alloc (.cells #[.int .i64 p.kind,.int .i64 p.gen,.int .i64 p.num,.int .i64 p.idx,.int .i64 p.cnt,.slice (some ⟨vg,0,none⟩) vn vc] 217))):=h_ ⟨HS3.out.bel.trans (hba.mono HS3.out.bel.size),HS3.out.sc.later hba⟩
    have hk1:k+1≤n:=hlt
    have hgs:=HGS.out
    unfold zH at hgs
    rw[hp] at hgs
    simp only at hgs
    by_cases hge:(G k:Int)≤p.gen
    ·rw[if_pos hge] at hgs
     obtain⟨q,hq⟩:∃ q:Nat,q=p.gen.toNat:=⟨_,rfl⟩
     have hpq:p.gen=(q:Int):=by omega
     rw[←hq] at hgs
     have hg1q:(q:Int)≤2147483647:=by omega
     have hgeq:(q:Int) ≥ (G k:Int):=by omega
     rw[hpq] at hft HS4 ⊢
     by_cases hpar:(q+1) % 2≠area
     ·rw[if_pos hpar] at hgs
      have HGS2:=h_ hgs
      have hne:¬ (((q:Int)+1) % 2=(G 0:Int)):=by have:=HG0.out;omega
      clear hgs hok hp hown hvn hb3 hba HDEC hpar hpq hq hge hg0 hg1
      go_wp2
      go_roundw
      case rel=>exact⟨k+1,by rw[HGS2.out];go_num,by go_num,hk1,HS4⟩
      case measure=>simp[intOf];omega
     ·rw[if_neg hpar] at hgs
      have HGS2:=h_ hgs
      have hne:((q:Int)+1) % 2=(G 0:Int):=by have:=HG0.out;omega
      clear hgs hok hp hown hvn hb3 hba HDEC hpar hpq hq hge hg0 hg1
      go_wp2
      go_roundw
      case rel=>exact⟨k+1,by rw[HGS2.out];go_num,by go_num,hk1,HS4⟩
      case measure=>simp[intOf];omega
    ·rw[if_neg hge] at hgs
     have hgeb:¬ p.gen ≥ (G k:Int):=hge
     have HGS2:=h_ hgs
     clear hgs hok hp hown hvn hb3 hba HDEC
     go_wp2
     go_roundw
     case rel=>exact⟨k+1,by rw[HGS2.out],by go_num,hk1,HS4⟩
     case measure=>simp[intOf];omega
   ·have hgs:=HGS.out
    unfold zH at hgs
    rw[hno] at hgs
    simp only at hgs
    have HGS2:=h_ hgs
    have hr1:(r == 0)=false:=by rw[beq_eq_false_iff_ne];exact hr
    have hr2:(r != 0)=true:=by rw[bne_iff_ne];exact hr
    have hfz:=xAz
    unfold zb
    have hba:Below w3.heap.size w3 (w3.alloc (.cells ud 217)):=(Below.refl _ _).alloc (Nat.le_refl _) _
    have HS4:Hid (NxSt w (jc d 0 n) (.slice (some ⟨g,0,none⟩) n lc) vs (w3.alloc (.cells ud 217))):=h_ ⟨HS3.out.bel.trans (hba.mono HS3.out.bel.size),HS3.out.sc.later hba⟩
    unfold ud at HS4
    have hk1:k+1≤n:=hlt
    clear hgs hno hr hba HDEC hb3
    go_wp2
    go_roundw
    case rel=>exact⟨k+1,by rw[HGS2.out],by go_num,hk1,HS4⟩
    case measure=>simp[intOf];omega
  ·obtain rfl:k=n:=by omega
   have hgn:(G k:Int)≤2147483647:=by have:=HG.out;omega
   have HBEL:=h_ HS.out.bel
   go_wp2
   go_ret2
   exact⟨HBEL.out,rfl⟩
end
theorem xKe:∀ (l:List By) (d:PD) (a:Nat) (b:By),d.Up→(d.puts a (l++[b])).1=((d.puts a l).1.write (a+l.length) b).1
 | [],d,a,b,h=>by simp[PD.puts,PD.write_up h]
 | c :: l,d,a,b,h=>by
  have h2:PD.Up { d with pend:=d.pend++[(a,c)] }:=h
  have ih:=xKe l _ (a+1) b h2
  simp only[List.cons_append,PD.puts,PD.write_up h]
  rw[ih]
  have:a+1+l.length=a+(c :: l).length:=by simp only[List.length_cons];omega
  rw[this]
theorem xEa:∀ (l:List By) (d:PD) (a:Nat),d.Up→(d.puts a l).1.pend.length=d.pend.length+l.length
 | [],d,a,h=>rfl
 | c :: l,d,a,h=>by
  have h2:PD.Up { d with pend:=d.pend++[(a,c)] }:=h
  have ih:=xEa l _ (a+1) h2
  simp only[PD.puts,PD.write_up h]
  rw[ih]
  simp only[List.length_append,List.length_cons,List.length_nil]
  omega
theorem xCd {H:By→By}{gen:Int}(f:Nat)(num:Int)(l:List By):zX H gen (f+1) num l=match uh H l with
  | none=>[]
  | some (r,n)=>if l=[] then [] else if r.gen=gen∧r.num=num then r :: zX H gen f (num+1) (l.drop n) else []:=rfl
theorem xKa {H:By→By}{gen:Int}:∀ (f:Nat) (num:Int) (L:List By),L.length≤f→zX H gen (f+1) num L=zX H gen f num L
 | 0,num,L,h=>by
  have:L=[]:=List.eq_nil_of_length_eq_zero (by omega)
  subst this;rfl
 | f+1,num,L,h=>by
  rw[xCd (f+1),xCd f]
  cases hj:uh H L with
  | none=>rfl
  | some x =>
   obtain⟨r,n⟩:=x
   have:=xRx hj
   simp only
   rw[xKa f (num+1) (L.drop n) (by rw[List.length_drop];omega)]
structure EnAt (w:World)(B:Nat)(v:Value)(L:List By)(vs:List Value):Prop where
 own:w.ownsRow B 66 1 v L.length vs
 len:vs.length=L.length
 el:∀ i (hi:i<L.length),OwnB w B (vs[i]'(by rw[len];exact hi)) L[i]∧vs[i]'(by rw[len];exact hi)≠.slice none 0 0∧∀ k,(vs[i]'(by rw[len];exact hi)).ownBlock=some k→v.ownBlock≠some k
theorem EnAt.nil (w:World)(B:Nat):EnAt w B (.slice none 0 0) [] []:=⟨World.ownsRow_nil _ _ _ _,rfl,fun i hi=>by cases hi⟩
theorem EnAt.later {w w':World}{B:Nat}{v:Value}{L:List By}{vs:List Value}(h:EnAt w B v L vs)(hb:Below w.heap.size w w'):EnAt w' B v L vs :=
 ⟨World.ownsRow.kept (row:=none) h.own (ui hb none) (by cases v.ownBlock <;> simp),h.len,fun i hi=>⟨(h.el i hi).1.below hb,(h.el i hi).2⟩⟩
theorem EnAt.base {w:World}{B B':Nat}{v:Value}{L:List By}{vs:List Value}(h:EnAt w B v L vs)(hb:B'≤B):EnAt w B' v L vs :=
 ⟨⟨h.own.1,h.own.2.imp (fun h=>h) fun⟨g,cap,cur,hv,hg,r⟩=>⟨g,cap,cur,hv,Nat.le_trans hb hg,r⟩⟩,h.len,fun i hi=>⟨(h.el i hi).1.base hb,(h.el i hi).2⟩⟩
theorem jt {w w':World}{B t s n:Nat}{v:Value}{xs:List Value}(h:w.ownsRow B t s v n xs)(hb:∀ g,B≤g→g<w.heap.size→w'.heap[g]?=w.heap[g]?):w'.ownsRow B t s v n xs:=by
 refine⟨h.1,?_⟩
 rcases h.2 with h0 | ⟨g,cap,cur,hv,hg,hcur,r⟩
 ·exact .inl h0
 ·exact .inr ⟨g,cap,cur,hv,hg,(hb g hg (i_ hcur).1).trans hcur,r⟩
theorem EnAt.under {w w':World}{B:Nat}{v:Value}{L:List By}{vs:List Value}(h:EnAt w B v L vs)(hb:∀ g,B≤g→g<w.heap.size→w'.heap[g]?=w.heap[g]?):EnAt w' B v L vs :=
 ⟨jt h.own hb,h.len,fun i hi=>⟨jt (h.el i hi).1 hb,(h.el i hi).2⟩⟩
theorem EnAt.get {w:World}{B:Nat}{v:Value}{L:List By}{vs:List Value}(h:EnAt w B v L vs)(i:Nat)(hi:i<L.length):∃ g cap e ecap,v=.slice (some ⟨g,0,none⟩) L.length cap∧w.cell? ⟨g,i,none⟩=some (.slice (some ⟨e,0,none⟩) L[i].length ecap)∧B≤e∧e<w.heap.size∧L[i].length≤ecap∧SlB w ⟨e,0,none⟩ L[i]∧OwnB w B (.slice (some ⟨e,0,none⟩) L[i].length ecap) L[i]:=by
 obtain⟨h1,h2,_⟩:=h.el i hi
 have h1':=h1
 rcases h1.at with⟨h0,_⟩ | ⟨e,ecap,hx,he,hl,_,hs⟩
 ·exact absurd h0 h2
 ·rcases h.own.2 with⟨_,h0⟩ | ⟨g,cap,cur,hv,hg,hcur,hle,hmx,hcs,htk⟩
  ·omega
  ·subst hv
   have hc:=World.ownsRow.cellAt h.own i (by omega)
   rw[List.getElem?_eq_getElem (by rw[h.len];exact hi),hx] at hc
   rw[hx] at h1'
   exact⟨g,cap,e,ecap,rfl,hc,he,(h1'.lt rfl).2,hl,hs,h1'⟩
section
attribute [local go_sem ↓] qQ qq zN zz
attribute [local go_sem] xEh xE4 kg kd zt zw yD yC xj xh xe xd xA xz xo xl
theorem xLe {B:Nat}{w:World}{v:Dev}{d:PD}(h:yj B w v d)(s:Nat)(hs:s<d.n)(hu:d.Up)(hfew:d.pend.length<1000000)(a:Addr)(b:By)(c:Nat)(hb:b.length=256)(hsl:SlB w a b)(ha:a.block≠v.p)(hB:B≤w.heap.size) :
  Calls Tryz.prog 153 #[.pointer (some ⟨v.p,0,none⟩),.int .i64 s,.slice (some a) 256 c] w fun e w'=>e=.returned (.int .i64 0)∧Kept v.foot w w'∧∃ v',v'.p=v.p∧v'.M=v.M∧yj B w' v' (d.write s b).1∧∀ k∈v'.foot,k∈v.foot∨w.heap.size≤k :=
 (xTv h s hs hu.1 hfew a b c hb hsl ha hB).mono fun e w' ⟨h1,h2,h3⟩=>⟨by rw[h1,PD.write_up hu];rfl,h2,h3⟩
theorem xCn {w:World}{B:Nat}{v:Value}{L:List (List UInt8)}{vs:List Value}(h:ScAt w B v L vs)(k:Nat)(hk:k<L.length):∃ g cap e,v=.slice (some ⟨g,0,none⟩) L.length cap∧w.cell? ⟨g,k,none⟩=some (.slice (some ⟨e,0,none⟩) 256 256)∧L[k].length=256∧B≤e∧e<w.heap.size∧SlB w ⟨e,0,none⟩ L[k]:=by
 obtain⟨g,cap,hv,_,_,_,_,hc⟩:=h.at (fun e=>by rw[e] at hk;cases hk)
 obtain⟨e,he,h2,h3,h4,_,h6⟩:=h.el k hk
 refine⟨g,cap,e,hv,?_,h2,h3,h4,h6⟩
 rw[hc k hk,he]
structure PuSt (D:Nat)(w w2:World)(v:Dev)(d:PD)(at_:Nat)(L:List By)(k:Nat)(W:World):Prop where
 kept:Kept v.foot w W
 mid:∀ g,w.heap.size≤g→g<w2.heap.size→W.heap[g]?=w2.heap[g]?
 sz:w2.heap.size≤W.heap.size
 at':∃ v',v'.p=v.p∧v'.M=v.M∧yj D W v' (d.puts at_ (L.take k)).1∧∀ j∈v'.foot,j∈v.foot∨w2.heap.size≤j
def xDy (D:Nat)(v:Dev)(d:PD)(at_:Nat)(r:PRec)(w:World)(e:Ending)(w':World):Prop :=
 e=.returned (.tuple #[.int .i64 (xY r.pay.length:Nat),.int .i64 0])∧Kept v.foot w w'∧∃ v',v'.p=v.p∧v'.M=v.M∧yj D w' v' (d.puts at_ (yf sha r)).1∧∀ k∈v'.foot,k∈v.foot∨w.heap.size≤k
theorem xP8 {D:Nat}{w:World}{v:Dev}{d:PD}(h:yj D w v d)(hu:d.Up)(hK:qF w)(at_:Nat)(r:PRec)(hok:r.Ok)(a:Addr)(cap:Nat)(hl:r.pay.length≤cap)(hs:SlB w a r.pay)(ha:a.block<w.heap.size)(hfit:at_+xY r.pay.length≤d.n)(hfew:d.pend.length+xY r.pay.length≤1000000)(hD:D≤w.heap.size) :
  Calls Tryz.prog 106 #[.agg (xE v.p d.n),.int .i64 at_,.agg (y8 r.kind r.gen r.num (.slice (some a) r.pay.length cap)).toArray] w (xDy D v d at_ r w):=by
 obtain⟨w1,hw1⟩:∃ w1,w1=(w.alloc (.cells (xE v.p d.n) 128)).alloc (.cells (y8 r.kind r.gen r.num (.slice (some a) r.pay.length cap)).toArray 222):=⟨_,rfl⟩
 have hb1:Below w.heap.size w w1:=by rw[hw1];exact((Below.refl _ _).alloc (Nat.le_refl _) _).alloc (by simp) _
 have hs1:w1.heap.size=w.heap.size+2:=by rw[hw1];simp
 have h0:w1.heap[w.heap.size]?=some (.cells (xE v.p d.n) 128 (0,0)):=by
  rw[hw1,heap_alloc_old _ _ (by simp),heap_alloc_new]
 have h1:w1.heap[w.heap.size+1]?=some (.cells (y8 r.kind r.gen r.num (.slice (some a) r.pay.length cap)).toArray 222 (0,0)):=by
  have:=heap_alloc_new (w.alloc (.cells (xE v.p d.n) 128)) (.cells (y8 r.kind r.gen r.num (.slice (some a) r.pay.length cap)).toArray 222)
  rw[World.size_alloc] at this
  rw[hw1,this]
 have hsl1:SlB w1 a r.pay:=⟨fun j c hj=>(hb1.cell (by rw[y9];exact ha)).trans (hs.cell j c hj)⟩
 have HSP:=h_ (xR6 r hok a cap w1 (hK.below hb1 (Nat.le_refl _)) hl hsl1 (by rw[hs1];omega))
 obtain⟨o1,r1⟩:=xI (n:=4) h1 rfl
 have hft:=h.foot_lt
 have HB1:=h_ hb1
 have HD:=h_ h
 have HU:=h_ hu
 have HS1:=h_ hs1
 have H0:=h_ h0
 have HFT:=h_ hft
 have hn2:=h.n2
 obtain⟨L,hL⟩:∃ L,L=yf sha r:=⟨_,rfl⟩
 have hLl:L.length=xY r.pay.length:=by rw[hL];exact zy sha r
 obtain⟨m,hm⟩:∃ m,m=xY r.pay.length:=⟨_,rfl⟩
 obtain⟨q,hq⟩:∃ q,q=r.pay.length:=⟨_,rfl⟩
 obtain⟨n,hn⟩:∃ n,n=d.n:=⟨_,rfl⟩
 have HGOAL:Hid (∀ e w' w2,w.heap.size≤w2.heap.size→e=.returned (.tuple #[.int .i64 (m:Nat),.int .i64 0])→PuSt D w w2 v d at_ L m w'→xDy D v d at_ r w e w'):=h_ (fun e w' w2 hw2 he hst=>by
  obtain⟨v',p1,p2,p3,p4⟩:=hst.at'
  refine⟨by rw[he,hm],hst.kept,v',p1,p2,?_,fun k hk=>?_⟩
  ·rw[List.take_of_length_le (by rw[hLl,hm];exact Nat.le_refl _),hL] at p3;exact p3
  ·rcases p4 k hk with h | h
   ·exact .inl h
   ·exact .inr (by omega))
 rw[←hL] at HSP
 rw[←hm] at hLl hfit hfew
 rw[←hn] at hfit hn2 hw1 H0 ⊢
 rw[←hq] at hw1 r1 ⊢
 have HSP':=HSP
 clear HSP
 rw[←hq] at HSP'
 have HLL:=h_ hLl
 have HFEW:=h_ hfew
 have HN:=h_ hn
 have hfz:(at_:Int)+m≤4096:=by omega
 have HFIT:=h_ hfit
 unfold xE at hw1 ⊢
 unfold y8 at hw1 r1 HSP' ⊢
 rw[hw1] at o1 r1
 clear h hu hb1 hs1 h0 h1 hs hK hsl1 hok hft hn2 hL hLl hm hq hn hfit hfew hl
 go_enter Tryz.func106,Tryz.ntmps106
 go_wp2_with fail
 rw[←hw1]
 clear hw1 o1 r1
 refine HSP'.out.mono ?_
 rintro e w2 ⟨lv,vs,rfl,hsc,hb2⟩
 obtain⟨la,lc,hlv⟩:=yH hsc.own
 rw[HLL.out] at hlv
 have hbel2:Below w.heap.size w w2:=HB1.out.trans (hb2.mono HB1.out.size)
 have hsz2:w.heap.size+2≤w2.heap.size:=by have:=hb2.size;have:=HS1.out;omega
 have hst2:w2.heap[w.heap.size]?=some (.cells (xE v.p n) 128 (0,0)):=(hb2.block _ (by have:=HS1.out;omega)).trans H0.out
 have HST:Hid (PuSt D w w2 v d at_ L 0 w2):=h_ ⟨Kept.of_below (F:=v.foot) hbel2,fun _ _ _=>rfl,Nat.le_refl _,v,rfl,rfl,HD.out.below hbel2,fun j hj=>.inl hj⟩
 have HSC:=h_ hsc
 have HST2:=h_ hst2
 have HSZ2:=h_ hsz2
 have hmz:(m:Int)≤1000000:=by have:=HFEW.out;omega
 have HLV:=h_ hlv
 subst hlv
 clear hsc hb2 hbel2 hst2 hsz2
 go_wp2
 go_loopw [23] (fun u wr=>∃ k:Nat,u=.int .i64 k∧k≤m∧Hid (PuSt D w w2 v d at_ L k wr)) (fun u _=>m-(intOf u).toNat)
 case atStart=>exact⟨0,rfl,Nat.zero_le _,HST⟩
 case round =>
  obtain⟨k,rfl,hk,HS⟩:=hrel
  by_cases hlt:k<m
  ·have hltz:(k:Int)<m:=by omega
   have hmid:=HS.out.mid
   have hscr:ScAt wr w1.heap.size (.slice la m lc) L vs:=HSC.out.under HS.out.sz fun g hg hg2=>hmid g (by have:=HS1.out;omega) hg2
   obtain⟨g,cap',e,hv,hce,hel,hBe,hes,hsb⟩:=xCn hscr k (by rw[HLL.out];exact hlt)
   have hla:la=some ⟨g,0,none⟩:=by rw[HLL.out] at hv;injection hv
   subst hla
   have hstr:=(hmid w.heap.size (Nat.le_refl _) (by have:=HSZ2.out;omega)).trans HST2.out
   have c0:=cell_of_row wr w.heap.size 0 _ _ _ hstr
   have c1:=cell_of_row wr w.heap.size 1 _ _ _ hstr
   unfold xE at c0 c1
   simp only[List.getElem?_toArray,List.getElem?_cons_succ,List.getElem?_cons_zero] at c0 c1
   obtain⟨v1,hvp,hvM,hd1,hf1⟩:=HS.out.at'
   obtain⟨_,hup,hdn,_⟩:=PD.puts_up (L.take k) d at_ HU.out
   have hpl:=xEa (L.take k) d at_ HU.out
   have hkl:(L.take k).length=k:=by rw[List.length_take,HLL.out];omega
   rw[hkl] at hpl
   have hsn:=xKe (L.take k) d at_ (L[k]'(by rw[HLL.out];exact hlt)) HU.out
   rw[hkl,←List.take_succ_eq_append_getElem (by rw[HLL.out];exact hlt)] at hsn
   have hwr:=xLe hd1 (at_+k) (by rw[hdn,←HN.out];have:=HFIT.out;omega) hup (by rw[hpl];have:=HFEW.out;omega) ⟨e,0,none⟩ _ 256 hel hsb (by rw[hvp];show e≠v.p;have:=(HFT.out v.p v.p_foot).2;have:=HS1.out;omega) (Nat.le_trans hD (by have:=HS.out.sz;have:=HSZ2.out;omega))
   rw[hvp,←hsn] at hwr
   obtain⟨s,hs⟩:∃ s,s=at_+k:=⟨_,rfl⟩
   rw[←hs] at hwr
   have hsz:(at_:Int)+(k:Int)=(s:Int):=by omega
   have HWR:=h_ hwr
   have HF1:=h_ hf1
   have HVP:=h_ (And.intro hvp hvM)
   have hkz:(k:Int)≤1000000:=by omega
   have hakz:(at_:Int)+k≤4096:=by omega
   clear hs hmid hscr hv hel hsb hstr hd1 hf1 hup hdn hpl hkl hsn hwr hvp hvM
   go_wp2_with fail
   refine HWR.out.mono ?_
   rintro e3 w3 ⟨rfl,hkp,v2,hp2,hM2,hd2,hf2⟩
   have HN2:Hid (PuSt D w w2 v d at_ L (k+1) w3):=h_ ⟨HS.out.kept.trans hkp (fun j hj=>by
     rcases HF1.out j hj with h | h
     ·exact .inl h
     ·exact .inr (by have:=HSZ2.out;omega)),fun g hg hg2=>(hkp.block g (Nat.lt_of_lt_of_le hg2 HS.out.sz) (fun hm=>by
     rcases HF1.out g hm with h | h
     ·have:=(HFT.out g h).2;omega
     ·omega)).trans (HS.out.mid g hg hg2),Nat.le_trans HS.out.sz hkp.size,v2,hp2,hM2.trans HVP.out.2,hd2,fun j hj=>by
     rcases hf2 j hj with h | h
     ·exact HF1.out j h
     ·exact .inr (Nat.le_trans HS.out.sz h)⟩
   have hk1:k+1≤m:=hlt
   clear hkp hp2 hM2 hd2 hf2 HWR c0 c1 hce hBe hes
   go_wp2
   go_roundw
   case rel=>exact⟨k+1,by go_num,hk1,HN2⟩
   case measure=>simp[intOf];omega
  ·obtain rfl:k=m:=by omega
   go_wp2
   go_ret2
   exact HGOAL.out _ _ w2 (by have:=HSZ2.out;omega) rfl HS.out
end
structure ByS (w:World)(v:Value)(l:By)(W:World):Prop where
 bel:Below w.heap.size w W
 own:OwnB W w.heap.size v l
theorem ByS.app {w W W1 W2:World}{v v':Value}{l r:By}(h:ByS w v l W)(hb:Below W.heap.size W W1)(ho:OwnB W2 w.heap.size v' (l++r))(hg:W1.grownBy W2 v.ownBlock):ByS w v' (l++r) W2 :=
 ⟨(h.bel.trans (hb.mono h.bel.size)).grown hg (by have:=h.bel.size;have:=hb.size;omega) (fun k e=>(h.own.lt e).1),ho⟩
theorem xJh (f c:Nat)(hf:f≤4611686018427387904)(hc:c≤4611686018427387904)(g cap:Nat)(w:World)(h0:w.cell? ⟨g,0,none⟩=some (.int .i64 f))(h1:w.cell? ⟨g,1,none⟩=some (.int .i64 c))(hg:g<w.heap.size) :
  Calls Tryz.prog 105 #[.slice (some ⟨g,0,none⟩) 2 cap] w fun e w'=>Below w.heap.size w w'∧∃ v,e=.returned v∧OwnB w' w.heap.size v (beB 8 f++beB 8 c):=by
 obtain⟨L,hL⟩:∃ L,L=beB 8 f++beB 8 c:=⟨_,rfl⟩
 have hLl:L.length=16:=by rw[hL];simp[xv]
 obtain⟨nk,hnk⟩:∃ nk:Nat→Nat,nk=fun k=>if k=0 then f else c:=⟨_,rfl⟩
 have hget:∀ k j (hk:k<2) (hj:j<8),L[8*k+j]?=some (UInt8.ofNat (nk k / 256 ^ (7-j))):=by
  intro k j hk hj
  rw[List.getElem?_eq_getElem (by omega)]
  congr 1
  subst hL hnk
  rcases (show k=0∨k=1 by omega) with rfl | rfl
  ·have:=vR 8 f j hj
   simp only[Nat.mul_zero,Nat.zero_add,if_true]
   rw[List.getElem_append_left (by rw[xv];omega),this]
  ·have:=vR 8 c j hj
   rw[List.getElem_append_right (by rw[xv];omega)]
   simp only[xv,Nat.mul_one,Nat.add_sub_cancel_left]
   rw[this]
   simp
 have hcell:∀ k,k<2→w.cell? ⟨g,k,none⟩=some (.int .i64 (nk k)):=by
  intro k hk
  subst hnk
  rcases (show k=0∨k=1 by omega) with rfl | rfl
  ·simpa using h0
  ·simpa using h1
 have hbnd:∀ k,nk k≤4611686018427387904:=by
  intro k
  subst hnk
  show (if k=0 then f else c)≤_
  split <;> assumption
 rw[←hL]
 have HL:=h_ hLl
 have HGET:=h_ hget
 have HCELL:=h_ hcell
 have HBND:=h_ hbnd
 have HG:=h_ hg
 have HST:Hid (ByS w (.slice none 0 0) (L.take (8*0)) w):=h_ ⟨Below.refl _ _,by simpa using OwnB.nil w w.heap.size⟩
 clear hL hLl hnk hget hcell hbnd hf hc h0 h1 hg
 go_enter Tryz.func105,Tryz.ntmps105
 go_wp2
 go_loopw [9,3] (fun u bv wr=>∃ k:Nat,u=.int .i64 k∧k≤2∧Hid (ByS w bv (L.take (8*k)) wr)) (fun u _ _=>2-(intOf u).toNat)
 case atStart=>exact⟨0,rfl,by omega,HST⟩
 case round =>
  obtain⟨k,rfl,hk,HS⟩:=hrel
  by_cases hlt:k<2
  ·have hltz:(k:Int)<2:=by omega
   have hck:=(HS.out.bel.cell (p:=⟨g,k,none⟩) HG.out).trans (HCELL.out k hlt)
   obtain⟨nv,hnv⟩:∃ nv,nv=nk k:=⟨_,rfl⟩
   rw[←hnv] at hck
   have HNV:=h_ hnv
   clear hnv
   go_wp2
   clear hck
   go_loopw [6,3] (fun i b2v wr2=>∃ j:Nat,i=.int .i64 (7-(j:Int))∧j≤8∧Hid (ByS w b2v (L.take (8*k+j)) wr2)) (fun i _ _=>(intOf i+1).toNat)
   case atStart=>exact⟨0,rfl,by omega,HS⟩
   case round =>
    obtain⟨j,rfl,hj,HS2⟩:=hrel
    by_cases hlt2:j<8
    ·obtain⟨i,hi⟩:∃ i:Nat,i=7-j:=⟨_,rfl⟩
     have hi2:(7:Int)-j=(i:Int):=by omega
     rw[hi2]
     have hx:=vv nv i
     have hge:=HGET.out k j hlt hlt2
     rw[←HNV.out,←hi] at hge
     generalize hbx:UInt8.ofNat (nv / 256 ^ i)=b at hx hge
     have hsn:L.take (8*k+j)++[b]=L.take (8*k+(j+1)):=by
      rw[←Nat.add_assoc,List.take_add_one,hge];rfl
     have b1:(0:Int)≤8*(i:Int):=by omega
     have b2:8*(i:Int)≤64:=by omega
     have b3:(nv:Int)≤4611686018427387904:=by have:=HBND.out k;rw[←HNV.out] at this;omega
     have hbel:Below wr.heap.size wr (wr.alloc (.cells #[.int .u8 b.toNat] 5)):=(Below.refl _ _).alloc (Nat.le_refl _) _
     have ho1:OwnB (wr.alloc (.cells #[.int .u8 b.toNat] 5)) w.heap.size u3 (L.take (8*k+j)):=HS2.out.own.below hbel
     have hs1:SlB (wr.alloc (.cells #[.int .u8 b.toNat] 5)) ⟨wr.heap.size,0,none⟩ [b]:=vK wr 5 [b]
     have hnx:∀ v' W2,OwnB W2 w.heap.size v' (L.take (8*k+j)++[b])→(wr.alloc (.cells #[.int .u8 b.toNat] 5)).grownBy W2 u3.ownBlock→ByS w v' (L.take (8*k+(j+1))) W2:=fun v' W2 ho hg=>by
      have:=HS2.out.app hbel ho hg
      rw[hsn] at this;exact this
     have hsz:w.heap.size≤(wr.alloc (.cells #[.int .u8 b.toNat] 5)).heap.size:=by have:=HS2.out.bel.size;simp;omega
     have hll:(L.take (8*k+j)).length+[b].length≤1000000000000:=by rw[List.length_take,HL.out];simp;omega
     rw[hx] at ho1 hs1 hnx hsz
     have HO1:=h_ ho1
     have HS1:=h_ hs1
     have HNX:=h_ hnx
     have HSZ:=h_ hsz
     have HLL:=h_ hll
     have HI:=h_ hi
     clear hi hx hge hbx hsn hbel ho1 hs1 hnx hsz hll hi2
     go_wp2_with (at_builtin;refine zu rfl (.tmp 17) (.tmp 23) rfl w.heap.size _ (L.take (8*k+j)) rfl HO1.out ⟨wr.heap.size,0,none⟩ [b] 1 rfl HS1.out HLL.out HSZ.out ?_)
     intro v' w' ho hg2 _
     have HN:=h_ (HNX.out v' w' ho hg2)
     have hi3:(i:Int)-1=7-((j+1:Nat):Int):=by have:=HI.out;omega
     have HI3:=h_ hi3
     have hi8:(i:Int)≤7:=by have:=HI.out;omega
     clear ho hg2 hi3
     go_wp2
     go_roundw
     case rel=>exact⟨j+1,by rw[←HI3.out],by omega,HN⟩
     case measure=>simp[intOf]
    ·obtain rfl:j=8:=by omega
     have hk1:k+1≤2:=hlt
     have HN:Hid (ByS w u3 (L.take (8*(k+1))) wr):=HS2
     have hi2:(7:Int)-(8:Nat)=-1:=by omega
     rw[hi2]
     go_wp2
     go_roundw
     case rel=>exact⟨k+1,by go_num,hk1,HN⟩
     case measure=>simp[intOf];omega
  ·obtain rfl:k=2:=by omega
   have HF:Hid (ByS w u3 L wr):=by
    have:=HS.out
    rw[List.take_of_length_le (by rw[HL.out];omega)] at this
    exact h_ this
   go_wp2
   go_ret
   exact⟨HF.out.bel,_,rfl,HF.out.own⟩
theorem xM8 (n c:Nat)(hn:n<72057594037927936)(hc:c<256):bits .or .u64 ((n:Int)*256) (c:Int)=((n*256+c:Nat):Int):=by
 have hx:n*256 ||| c=n*256+c:=by
  have:=Nat.two_pow_add_eq_or_of_lt (i:=8) (b:=c) (by omega) n
  rw[show (2:Nat) ^ 8*n=n*256 by omega] at this
  exact this.symm
 have h1:(BitVec.ofInt 64 ((n:Int)*256)).toNat=n*256:=by
  rw[show (n:Int)*256=((n*256:Nat):Int) by omega,BitVec.ofInt_natCast,BitVec.toNat_ofNat];exact Nat.mod_eq_of_lt (by omega)
 have h2:(BitVec.ofInt 64 (c:Int)).toNat=c:=by
  rw[BitVec.ofInt_natCast,BitVec.toNat_ofNat];exact Nat.mod_eq_of_lt (by omega)
 show IntKind.u64.wrap ((BitVec.ofInt 64 ((n:Int)*256) ||| BitVec.ofInt 64 (c:Int)).toNat:Int)=_
 rw[BitVec.toNat_or,h1,h2,hx]
 exact IntWalk.u64_in _ (by omega)
theorem xN8 (l:By)(h:l.length≤7):deB l<72057594037927936:=by
 have h1:=xN9 l
 have h2:256 ^ l.length≤256 ^ 7:=Nat.pow_le_pow_right (by decide) h
 have h3:(256:Nat) ^ 7=72057594037927936:=by decide
 omega
theorem xTl (l:By)(h:l.length≤8):deB l<18446744073709551616:=by
 have h1:=xN9 l
 have h2:256 ^ l.length≤256 ^ 8:=Nat.pow_le_pow_right (by decide) h
 have h3:(256:Nat) ^ 8=18446744073709551616:=by decide
 omega
def yA2 (o:Option (Nat × Nat)):Value:=match o with
 | some x=>.tuple #[.int .i64 x.1,.int .i64 x.2,.bool true]
 | none=>.tuple #[.int .i64 0,.int .i64 0,.bool false]
structure HnSt (w:World)(x y:Nat)(W:World):Prop where
 bel:Below w.heap.size w W
 row:W.heap[w.heap.size]?=some (.cells #[.int .u64 x,.int .u64 y] 304 (0,0))
theorem HnSt.set0 {w:World}{x y:Nat}{W:World}(s:HnSt w x y W)(z:Nat):HnSt w z y (W.setCell ⟨w.heap.size,0,none⟩ (.int .u64 z)) :=
 ⟨s.bel.setCell (p:=⟨w.heap.size,0,none⟩) (Nat.le_refl _) _,by rw[heap_setCell_same W w.heap.size 0 _ _ _ s.row];rfl⟩
theorem HnSt.set1 {w:World}{x y:Nat}{W:World}(s:HnSt w x y W)(z:Nat):HnSt w x z (W.setCell ⟨w.heap.size,1,none⟩ (.int .u64 z)) :=
 ⟨s.bel.setCell (p:=⟨w.heap.size,1,none⟩) (Nat.le_refl _) _,by rw[heap_setCell_same W w.heap.size 1 _ _ _ s.row];rfl⟩
theorem xG0 (l:By)(a:Addr)(cap:Nat)(w:World)(hs:SlB w a l)(ha:a.block<w.heap.size)(hl:l.length≤cap)(hb:l.length≤maxLen) :
  Calls Tryz.prog 139 #[.slice (some a) l.length cap] w fun e w'=>Below w.heap.size w w'∧e=.returned (yA2 (jX l)):=by
 obtain⟨n,hn⟩:∃ n,n=l.length:=⟨_,rfl⟩
 have HN:=h_ hn
 have HS:=h_ hs
 rw[←hn] at hl hb ⊢
 unfold maxLen at hb
 have hbz:(n:Int)≤9223372036854775807:=by omega
 clear hs hn
 go_enter Tryz.func139,Tryz.ntmps139
 by_cases h16:n=16
 ·subst h16
  have HST:Hid (HnSt w (deB (l.take (min 0 8))) (deB ((l.take 0).drop 8)) (w.alloc (.cells #[.int .u64 0,.int .u64 0] 304))):=h_ ⟨(Below.refl _ _).alloc (Nat.le_refl _) _,by rw[heap_alloc_new];simp[deB]⟩
  go_wp2
  go_loopw [13] (fun u wr=>∃ k:Nat,u=.int .i64 k∧k≤16∧Hid (HnSt w (deB (l.take (min k 8))) (deB ((l.take k).drop 8)) wr)) (fun u _=>16-(intOf u).toNat)
  case atStart=>exact⟨0,rfl,by omega,HST⟩
  case round =>
   obtain⟨k,rfl,hk,HH⟩:=hrel
   by_cases hlt:k<16
   ·have hltz:(k:Int)<16:=by omega
    have hkl:k<l.length:=by rw[←HN.out];exact hlt
    have c4:=(HH.out.bel.cell (p:=a.add k) (by rw[y9];exact ha)).trans (HS.out.cell k _ (List.getElem?_eq_getElem hkl))
    obtain⟨b,hbe⟩:∃ b,b=l[k]:=⟨_,rfl⟩
    rw[←hbe] at c4
    have hb256:=b.toNat_lt
    have c0:=cell_of_row wr w.heap.size 0 _ _ _ HH.out.row
    have c1:=cell_of_row wr w.heap.size 1 _ _ _ HH.out.row
    have f0:=frozen_of_row wr w.heap.size 0 _ _ HH.out.row
    have f1:=frozen_of_row wr w.heap.size 1 _ _ HH.out.row
    simp only[v_] at c0 c1
    obtain⟨x,hx⟩:∃ x,x=deB (l.take (min k 8)):=⟨_,rfl⟩
    obtain⟨y,hy⟩:∃ y,y=deB ((l.take k).drop 8):=⟨_,rfl⟩
    rw[←hx] at c0
    rw[←hy] at c1
    have hk16:k+1≤16:=hlt
    by_cases h8:k<8
    ·have hq:(k:Int) / 8=0:=by omega
     have hxb:x<72057594037927936:=by rw[hx];exact xN8 _ (by rw[List.length_take];omega)
     have hor:=xM8 x b.toNat hxb (by omega)
     have hxz:(x:Int)<72057594037927936:=by omega
     have hnx:x*256+b.toNat=deB (l.take (min (k+1) 8)):=by
      rw[hx,hbe,show min k 8=k by omega,show min (k+1) 8=k+1 by omega,List.take_succ_eq_append_getElem hkl,kv]
     have hny:deB ((l.take (k+1)).drop 8)=deB ((l.take k).drop 8):=by
      rw[List.drop_eq_nil_of_le (by rw[List.length_take];omega),List.drop_eq_nil_of_le (by rw[List.length_take];omega)]
     have hset:=HH.out.set0 (x*256+b.toNat)
     rw[←hy] at hset hny
     have HSET:=h_ hset
     have HNX:=h_ hnx
     have HNY:=h_ hny
     clear hset hnx hny hx hy hbe hxb hkl
     go_wp2
     go_roundw
     case rel=>exact⟨k+1,by go_num,hk16,by rw[←HNX.out,HNY.out];exact HSET⟩
     case measure=>simp[intOf];omega
    ·have hq:(k:Int) / 8=1:=by omega
     have hyb:y<72057594037927936:=by rw[hy];exact xN8 _ (by rw[List.length_drop,List.length_take];omega)
     have hor:=xM8 y b.toNat hyb (by omega)
     have hyz:(y:Int)<72057594037927936:=by omega
     have hny:y*256+b.toNat=deB ((l.take (k+1)).drop 8):=by
      rw[hy,hbe,List.take_succ_eq_append_getElem hkl,List.drop_append,List.length_take,show 8-min k l.length=0 by omega,List.drop_zero,kv]
     have hnx:deB (l.take (min (k+1) 8))=x:=by rw[hx,show min k 8=8 by omega,show min (k+1) 8=8 by omega]
     have hset:=HH.out.set1 (y*256+b.toNat)
     rw[←hx] at hset
     have HSET:=h_ hset
     have HNX:=h_ hnx
     have HNY:=h_ hny
     clear hset hnx hny hx hy hbe hyb hkl
     go_wp2
     go_roundw
     case rel=>exact⟨k+1,by go_num,hk16,by rw[←HNY.out,HNX.out];exact HSET⟩
     case measure=>simp[intOf];omega
   ·obtain rfl:k=16:=by omega
    have hrow:=HH.out.row
    rw[show min 16 8=8 from rfl,List.take_of_length_le (show l.length≤16 by rw[←HN.out];exact Nat.le_refl _)] at hrow
    have c0:=cell_of_row wr w.heap.size 0 _ _ _ hrow
    have c1:=cell_of_row wr w.heap.size 1 _ _ _ hrow
    simp only[v_] at c0 c1
    obtain⟨x,hx⟩:∃ x,x=deB (l.take 8):=⟨_,rfl⟩
    obtain⟨y,hy⟩:∃ y,y=deB (l.drop 8):=⟨_,rfl⟩
    rw[←hx] at c0
    rw[←hy] at c1
    have hxb:x<18446744073709551616:=by rw[hx];exact xTl _ (by rw[List.length_take];omega)
    have hyb:y<18446744073709551616:=by rw[hy];exact xTl _ (by rw[List.length_drop,←HN.out];omega)
    have hhd:jX l=if x≤2147483647∧y≤2147483647 then some (x,y) else none:=by
     unfold jX
     rw[←hx,←hy]
     simp[←HN.out]
    have HHD:=h_ hhd
    have HB:=h_ HH.out.bel
    clear hrow hx hy hhd
    by_cases hxl:x≤2147483647
    ·have hxz:(x:Int)≤2147483647:=by omega
     by_cases hyl:y≤2147483647
     ·have hyz:(y:Int)≤2147483647:=by omega
      go_upto_region 11 with fail
      go_quiet (fail)
      have HB2:=h_ (xU HB.out nq)
      go_wp2
      go_ret3
      exact⟨HB2.out,by rw[HHD.out,if_pos ⟨hxl,hyl⟩];rfl⟩
     ·have hyz:¬ (y:Int)≤2147483647:=by omega
      go_wp2
      go_ret3
      exact⟨HB.out,by rw[HHD.out,if_neg (fun h=>hyl h.2)];rfl⟩
    ·have hxz:¬ (x:Int)≤2147483647:=by omega
     go_wp2
     go_ret3
     exact⟨HB.out,by rw[HHD.out,if_neg (fun h=>hxl h.1)];rfl⟩
 ·have hne:¬ (n:Int)=16:=by omega
  have hhd:jX l=none:=by unfold jX;rw[if_neg];rw[←HN.out];exact fun h=>h16 h.1
  rw[hhd]
  go_wp2
  go_ret3
  exact⟨Below.refl _ _,rfl⟩
end Go.Proofs.YthiafifdiaplaaaGreatDoor
namespace Go.Proofs.YthiafifdiaplaaaGreatDoor
open Go Go.RowKit
section
variable {P:Program} {ops:Array Oper} {C:World→Prop} {Q:Exit→Act→World→Prop}
def qS (n:Nat)(S:List Nat):Array Bool:=((List.range n).map fun i=>S.contains i).toArray
theorem vH (n:Nat)(S:List Nat):(qS n S).size=n:=by simp[qS]
theorem xEl (n:Nat)(S:List Nat)(i:Nat)(h':i<(qS n S).size):(qS n S)[i]=S.contains i:=by simp[qS]
theorem uL (n:Nat)(S:List Nat)(i:Nat)(h:i<n)(b:Bool):(qS n S).getD i b=S.contains i:=by
 have h':i<(qS n S).size:=by rw[vH];exact h
 simp[h',xEl n S i h']
theorem xSa {n:Nat}{S:List Nat}{i:Nat}(h:(qS n S).getD i false=true):i<n∧i∈S:=by
 rcases Nat.lt_or_ge i n with hi | hi
 ·rw[uL n S i hi] at h
  exact⟨hi,by simpa using h⟩
 ·simp[Array.getElem?_eq_none (by rw[vH];exact hi:(qS n S).size≤i)] at h
def QS (fin:Act→World→Prop)(Q:Exit→Act→World→Prop):Exit→Act→World→Prop
 | .normal,a,w=>fin a w
 | e,a,w=>Q e a w
theorem xSt {fin:Act→World→Prop}{i:Nat}{K:Act→World→Prop}{a:Act}{w:World}(h:wpOp P ops (NoPanic (QS fin Q)) i K a w):wpOp P ops (NoPanic Q) i K a w:=by
 have hl:LetsOut (NoPanic (QS fin Q))→LetsOut (NoPanic Q):=fun⟨a,w,h⟩=>⟨a,w,h⟩
 unfold wpOp at *
 cases ho:ops[i]? with
 | none=>simp only[ho] at h ⊢;exact h
 | some o =>
  simp only[ho] at h ⊢
  split
  ·rename_i hw
   rw[if_pos hw] at h
   rcases h with h | ⟨h1,h2⟩
   ·refine .inl ?_
    unfold Oper.wp at *
    generalize (execOp a.eval o).run P w=r at *
    cases r with
    | ok n w' =>
     cases n <;> simp only[Oper.upon] at h ⊢ <;> exact h
    | halt x w'=>cases x <;> simp only[Oper.upon] at h ⊢ <;> first | exact h | exact hl h
   ·exact .inr ⟨h1,hl h2⟩
  ·rename_i hw
   rw[if_neg hw] at h
   exact h
def ancD (ops:Array Oper)(D:List Nat):Nat→Nat→Nat→Bool
 | 0,_,_=>false
 | f+1,r,e=>match ops[r]? with
  | some o=>o.after.any fun x=>Region.binds .any x && !D.contains x.on && (x.on == e || ancD ops D f x.on e)
  | none=>false
theorem xL5 {D:List Nat}:∀ {f r e:Nat},ancD ops D f r e=true→ancB ops f r e=true
 | 0,_,_,h=>by simp[ancD] at h
 | f+1,r,e,h=>by
  unfold ancD at h
  unfold ancB
  split at h
  ·rename_i o ho
   simp only[ho]
   obtain⟨x,hx,hb⟩:=Array.any_eq_true'.1 h
   refine Array.any_eq_true'.2 ⟨x,hx,?_⟩
   simp only[Bool.and_eq_true,Bool.or_eq_true] at hb ⊢
   exact⟨hb.1.1,hb.2.imp id xL5⟩
  ·cases h
def xBz (ops:Array Oper)(D E:List Nat)(r:Nat):Bool:=!(E.all fun e=>ancD ops D ops.size r e)
def wpN (P:Program)(ops:Array Oper)(Q:Exit→Act→World→Prop)(C:World→Prop)(D E:List Nat):List Nat→Act→World→Prop
 | [],a,w=>Q .normal a w
 | r :: rest,a,w=>wpOp P ops (NoPanic Q) r (fun a' w'=>(xBz ops D E r=true→C w')∧wpN P ops Q C D E rest a' w') a w
def Zd (P:Program)(ops:Array Oper)(Q:Exit→Act→World→Prop)(C:World→Prop)(D E:List Nat)(ph:Bool)(w:World)(R:List Nat)(a:Act):Prop :=
 if ph=true then wpN P ops Q C D E R a w else ∀ w',C w'→wpN P ops Q C D E R a w'
def xZz (ops:Array Oper)(D E R:List Nat)(i:Nat):Bool:=match ops[i]? with
 | some o=>o.after.any fun x=>Region.binds .any x && (R.getLast? == some x.on || !(D++E++R).contains x.on)
 | none=>false
def xE2 (ops:Array Oper)(D E R:List Nat):Bool :=
 Region.noSelect ops && decide ((D++E++R).Nodup) && ((List.range ops.size).all fun i=>D.contains i || E.contains i || R.contains i || xZz ops D E R i)
 && E.all (ze ops (D++E)) && jS (fun y e=>!Region.waitsFor .any ops y e && qy ops y e) E
 && R.all (ze ops (D++E++R)) && jS (fun r s=>!Region.waitsFor .any ops r s) R && jG ops R
 && (R.all fun r=>E.all fun y=>qy ops y r)
 && (E.all fun e=>match ops[e]? with | some o=>!jb o || (match R with | r :: _=>ancB ops ops.size r e | []=>true) | none=>false)
 && (match R.getLast? with | some b=>!xBz ops D E b | none=>false)
 && D.all (fun d=>decide (d<ops.size))
theorem xGi {D E R:List Nat}{m:Nat}{fin:Act→World→Prop}(hB:xE2 ops D E R=true)(hfin:∀ a w,fin a w→wpAny P .any ops (NoPanic Q) m (qS ops.size (D++E++R)) a w):∀ (n:Nat) (L:Array Bool) (Rd R':List Nat) (a:Act) (w:World) (ph:Bool),R=Rd++R'→L.size=ops.size→kl ops L→(∀ i,i<ops.size→(L.getD i true=true→i∈D++E++R)∧(i∈D→L.getD i true=true))→(R'=[]→E.filter (unl L)=[])→(∀ r∈Rd,L.getD r true=true)→(∀ r∈R',L.getD r true=false) →
  (E.filter (unl L)).length+R'.length=n→(E.filter (unl L)≠[]→C w)→(ph=false→C w∧Rd=[])→(ph=true→∀ e∈E.filter (unl L),∀ o,ops[e]?=some o→jb o=false) →
  wpQuiet P ops C (Zd P ops (QS fin Q) C D E ph w R') (zp ops (E.filter (unl L))) a→wpAny P .any ops (NoPanic Q) (n+m) L a w:=by
 simp only[xE2,Bool.and_eq_true,decide_eq_true_eq,List.all_eq_true] at hB
 obtain⟨⟨⟨⟨⟨⟨⟨⟨⟨⟨⟨hns,hndD⟩,htail⟩,hpE⟩,hpair⟩,hpR⟩,hpairR⟩,hchain⟩,hapR⟩,hcalls⟩,hlast⟩,hDlt⟩:=hB
 have hnd:(E++R).Nodup:=by rw[List.append_assoc] at hndD;exact(List.nodup_append.1 hndD).2.1
 have hsel:=Region.noSelect_spec hns
 have hpair':=uH hpair
 have hpairR':=uH hpairR
 have hndE:E.Nodup:=(List.nodup_append.1 hnd).1
 have hdis:∀ x,x∈E→x∈R→False:=fun x h1 h2=>(List.nodup_append.1 hnd).2.2 x h1 x h2 rfl
 have hget:∀ (l:List Nat) (e:Nat),ze ops l e=true→∃ o,ops[e]?=some o∧∀ x∈o.after,Region.binds .any x=true→x.on∈l∧x.on≠e:=by
  intro l e h
  unfold ze at h
  split at h
  ·rename_i o ho
   refine⟨o,ho,fun x hx hb=>?_⟩
   have h1:=(Array.all_eq_true_iff_forall_mem.1 h) x hx
   simp only[hb,Bool.not_true,Bool.false_or,Bool.and_eq_true,List.contains_iff_mem,bne_iff_ne] at h1
   exact h1
  ·cases h
 have hDl:∀ d,d∈D→d<ops.size:=fun d hd=>by simpa using hDlt d hd
 have hEl:∀ e,e∈E→e<ops.size:=fun e he=>by
  obtain⟨o,ho,_⟩:=hget (D++E) e (hpE e he)
  exact(i_ ho).1
 have hRl:∀ e,e∈R→e<ops.size:=fun e he=>by
  obtain⟨o,ho,_⟩:=hget (D++E++R) e (hpR e he)
  exact(i_ ho).1
 have hapart:∀ y e,qy ops y e=true→Region.waitsFor .any ops e y=false→∃ oy oe,ops[y]?=some oy∧ops[e]?=some oe∧oy.apart ops oe=true:=by
  intro y e h hw
  unfold qy at h
  rw[hw,Bool.false_or] at h
  split at h
  ·rename_i oy oe h1 h2
   exact⟨oy,oe,h1,h2,h⟩
  ·cases h
 intro n
 induction n with
 | zero =>
  intro L Rd R' a w ph hR hsz hcl hinv hRE hRd hR' hn _ hphC _ h
  have hE0:E.filter (unl L)=[]:=List.eq_nil_of_length_eq_zero (by omega)
  have hR0:R'=[]:=List.eq_nil_of_length_eq_zero (by omega)
  subst hR0
  rw[List.append_nil] at hR
  subst hR
  rw[hE0] at h
  rw[Nat.zero_add]
  have hL:L=qS ops.size (D++E++R):=by
   apply Array.ext
   ·rw[hsz,vH]
   ·intro i h1 h2
    have hi:i<ops.size:=by rw[←hsz];exact h1
    rw[xEl _ _ _ h2]
    have hg:L.getD i true=L[i]:=by simp[h1]
    rw[←hg]
    cases hx:(D++E++R).contains i with
    | true =>
     rw[List.contains_iff_mem,List.append_assoc,List.mem_append,List.mem_append] at hx
     rcases hx with hx | hx | hx
     ·exact(hinv i hi).2 hx
     ·cases hy:L.getD i true with
      | true=>rfl
      | false =>
       have:i∈E.filter (unl L):=List.mem_filter.2 ⟨hx,by simp only[unl,hy,Bool.not_false]⟩
       rw[hE0] at this;cases this
     ·exact hRd i hx
    | false =>
     cases hy:L.getD i true with
     | false=>rfl
     | true =>
      have:=(hinv i hi).1 hy
      rw[←List.contains_iff_mem,hx] at this
      cases this
  rw[hL]
  refine hfin a w ?_
  have h':Zd P ops (QS fin Q) C D E ph w [] a:=h
  unfold Zd at h'
  split at h'
  ·exact h'
  ·rename_i hf
   exact h' w (hphC (by simpa using hf)).1
 | succ n ih =>
  intro L Rd R' a w ph hR hsz hcl hinv hRE hRd hR' hn hCw hphC hphE h
  have hR'ne:R'≠[]:=fun h0=>by rw[hRE h0,h0] at hn;simp at hn
  have hunE:∀ x,x∈E.filter (unl L)↔x∈E∧L.getD x true=false:=fun x=>by
   rw[List.mem_filter];simp only[unl,Bool.not_eq_true']
  have hsome:Region.ready .any ops L≠[]:=by
   cases hE':E.filter (unl L) with
   | cons e T =>
    have he:=(hunE e).1 (by rw[hE'];simp)
    obtain⟨o,ho,hpre⟩:=hget (D++E) e (hpE e he.1)
    have hpw:=hpair'.filter (p:=unl L)
    rw[hE'] at hpw
    have:e∈Region.ready .any ops L:=mem_ready.2 ⟨he.2,o,ho,fun x hx hb=>by
     obtain⟨hxE,hxe⟩:=hpre x hx hb
     cases hlx:L.getD x.on false with
     | true=>rfl
     | false =>
      exfalso
      rcases List.mem_append.1 hxE with hxD | hxE
      ·have h9:=(hinv x.on (hDl _ hxD)).2 hxD
       rw[getD_in (by rw[hsz];exact hDl _ hxD) hlx] at h9
       cases h9
      have hin:x.on<L.size:=by rw[hsz];exact hEl _ hxE
      have hxm:x.on∈E.filter (unl L):=(hunE _).2 ⟨hxE,getD_in hin hlx⟩
      rw[hE'] at hxm
      rcases List.mem_cons.1 hxm with h1 | h1
      ·exact hxe h1
      ·have h2:=(List.pairwise_cons.1 hpw).1 _ h1
       simp only[Bool.and_eq_true,Bool.not_eq_true'] at h2
       rw[uF ho hx hb rfl] at h2
       cases h2.1⟩
    intro h0;rw[h0] at this;cases this
   | nil =>
    cases R' with
    | nil=>rw[hE'] at hn;simp at hn
    | cons r rest =>
     have hrR:r∈R:=by rw[hR];simp
     obtain⟨o,ho,hpre⟩:=hget (D++E++R) r (hpR r hrR)
     have:r∈Region.ready .any ops L:=mem_ready.2 ⟨hR' r (by simp),o,ho,fun x hx hb=>by
      obtain⟨hxE,hxe⟩:=hpre x hx hb
      cases hlx:L.getD x.on false with
      | true=>rfl
      | false =>
       exfalso
       rw[List.append_assoc] at hxE
       rcases List.mem_append.1 hxE with hxD | hxE
       ·have h9:=(hinv x.on (hDl _ hxD)).2 hxD
        rw[getD_in (by rw[hsz];exact hDl _ hxD) hlx] at h9
        cases h9
       rcases List.mem_append.1 hxE with h1 | h1
       ·have hin:x.on<L.size:=by rw[hsz];exact hEl _ h1
        have:x.on∈E.filter (unl L):=(hunE _).2 ⟨h1,getD_in hin hlx⟩
        rw[hE'] at this;cases this
       ·have hin:x.on<L.size:=by rw[hsz];exact hRl _ h1
        rw[hR] at h1
        rcases List.mem_append.1 h1 with h2 | h2
        ·have:=hRd _ h2
         rw[getD_in hin hlx] at this;cases this
        ·rcases List.mem_cons.1 h2 with h3 | h3
         ·exact hxe h3
         ·rw[hR] at hpairR'
          have h4:=(List.pairwise_cons.1 (List.pairwise_append.1 hpairR').2.1).1 _ h3
          simp only[Bool.not_eq_true'] at h4
          rw[uF ho hx hb rfl] at h4
          cases h4⟩
     intro h0;rw[h0] at this;cases this
  rw[show n+1+m=(n+m)+1 by omega]
  refine⟨fun h0=>absurd h0 hsome,fun i hi=>?_⟩
  obtain⟨hiu,oi,hoi,hall⟩:=mem_ready.1 hi
  have hilt:=(i_ hoi).1
  have hcl':kl ops (L.setIfInBounds i true):=fun j oj hj hl e he hb=>by
   by_cases hij:i=j
   ·subst hij
    have:oj=oi:=Option.some.inj (hj.symm.trans hoi)
    subst this
    exact getD_set_true (hall e he hb)
   ·rw[getD_set_ne false hij] at hl
    exact getD_set_true (hcl j oj hj hl e he hb)
  have hinv':i∈E++R→∀ j,j<ops.size→((L.setIfInBounds i true).getD j true=true→j∈D++E++R)∧(j∈D→(L.setIfInBounds i true).getD j true=true):=fun hiER j hj=>by
   by_cases hij:i=j
   ·subst hij
    exact⟨fun _=>by rw[List.append_assoc];exact List.mem_append_right _ hiER,fun _=>by rw[←hsz] at hj;simp[hj]⟩
   ·rw[getD_set_ne true hij]
    exact hinv j hj
  have hc:i∈E∨i∈R:=by
   have hc:=htail i (List.mem_range.2 hilt)
   rw[Bool.or_eq_true,Bool.or_eq_true,Bool.or_eq_true,List.contains_iff_mem,List.contains_iff_mem,List.contains_iff_mem] at hc
   rcases hc with ((hc | hc) | hc) | hc
   ·rw[(hinv i hilt).2 hc] at hiu;cases hiu
   ·exact .inl hc
   ·exact .inr hc
   ·exfalso
    unfold xZz at hc
    rw[hoi] at hc
    obtain⟨x,hx,hb⟩:=Array.any_eq_true'.1 hc
    rw[Bool.and_eq_true,Bool.or_eq_true] at hb
    have hlx:=hall x hx hb.1
    rcases hb.2 with h1 | h1
    ·rw[beq_iff_eq] at h1
     have hlast':R.getLast? = R'.getLast?:=by
      rw[hR,List.getLast?_append]
      cases hz:R'.getLast? with
      | none=>exact absurd (List.getLast?_eq_none_iff.1 hz) hR'ne
      | some z=>rfl
     have hm:x.on∈R':=List.mem_of_getLast? (by rw[←hlast',←h1])
     rw[getD_both (hR' _ hm)] at hlx
     cases hlx
    ·rw[Bool.not_eq_true'] at h1
     have hlt:x.on<ops.size:=by
      rcases Nat.lt_or_ge x.on L.size with h2 | h2
      ·rw[←hsz];exact h2
      ·simp[Array.getElem?_eq_none h2] at hlx
     have h3:=(hinv x.on hlt).1 (by
      cases h4:L.getD x.on true with
      | true=>rfl
      | false=>rw[getD_both h4] at hlx;cases hlx)
     rw[←List.contains_iff_mem] at h3
     rw[h3] at h1
     cases h1
  rcases hc with hc | hc
  ·
   have himem:i∈E.filter (unl L):=(hunE i).2 ⟨hc,hiu⟩
   obtain⟨E1,E2,hsplit⟩:=List.append_of_mem himem
   have hiR:i ∉ R:=fun h'=>hdis i hc h'
   have hpw:=hpair'.filter (p:=unl L)
   rw[hsplit] at hpw h
   have hap:∀ x∈E1,∃ ox,ops[x]?=some ox∧ox.apart ops oi=true:=by
    intro x hx
    have h2:=(List.pairwise_append.1 hpw).2.2 x hx i (by simp)
    simp only[Bool.and_eq_true,Bool.not_eq_true'] at h2
    have hxu:L.getD x true=false:=((hunE x).1 (by rw[hsplit];simp[hx])).2
    obtain⟨oy,oe,h3,h4,h5⟩:=hapart x i h2.2 (yu hi hxu)
    have:oe=oi:=Option.some.inj (h4.symm.trans hoi)
    subst this
    exact⟨oy,h3,h5⟩
   have hq:=vV hoi hsel E1 E2 a hap h
   have hfs:=vF (by rw[hsz];exact hilt) hndE hsplit
   have next:∀ (a':Act) (w':World),(ph=true→w'=w)→C w'→wpQuiet P ops C (Zd P ops (QS fin Q) C D E ph w R') (zp ops (E1++E2)) a'→wpAny P .any ops (NoPanic Q) (n+m) (L.setIfInBounds i true) a' w':=by
    intro a' w' hw' hC' h'
    refine ih (L.setIfInBounds i true) Rd R' a' w' ph hR (by simpa using hsz) hcl' (hinv' (List.mem_append_left _ hc)) (fun h0=>absurd h0 hR'ne) (fun r hr=>?_) (fun r hr=>?_) ?_ (fun _=>hC') (fun hp=>⟨hC',(hphC hp).2⟩) (fun hp e he o ho=>?_) ?_
    ·rw[getD_set_ne true (by rintro rfl;exact hiR (by rw[hR];simp[hr]))];exact hRd r hr
    ·rw[getD_set_ne true (by rintro rfl;exact hiR (by rw[hR];simp[hr]))];exact hR' r hr
    ·rw[hfs];rw[hsplit] at hn;simp only[List.length_append,List.length_cons] at hn ⊢;omega
    ·rw[hfs] at he
     exact hphE hp e (by rw[hsplit];simp at he ⊢;rcases he with he | he <;> simp[he]) o ho
    ·rw[hfs]
     refine yP (fun a'' h''=>?_) _ _ h'
     unfold Zd at *
     split
     ·rename_i hp
      rw[if_pos hp] at h''
      rw[hw' hp];exact h''
     ·rename_i hp
      rw[if_neg hp] at h''
      exact h''
   have hCw':C w:=hCw (by rw[hsplit];simp)
   cases ph with
   | false=>exact wpOp_of_qOp hCw' (fun a' w' hC' h'=>next a' w' (by simp) hC' h') hq
   | true =>
    exact jx hoi (hphE rfl i himem oi hoi) hCw' (fun a' h'=>next a' w (fun _=>rfl) hCw' h') hq
  ·
   have hiE:i ∉ E:=fun h'=>hdis i h' hc
   have hiR':i∈R':=by
    rw[hR] at hc
    rcases List.mem_append.1 hc with h1 | h1
    ·rw[hRd i h1] at hiu;cases hiu
    ·exact h1
   cases R' with
   | nil=>cases hiR'
   | cons r rest =>
    have hir:i=r:=by
     rcases List.mem_cons.1 hiR' with h1 | h1
     ·exact h1
     ·exfalso
      have hch:=jq Rd (r :: rest) (by rw[←hR];exact hchain)
      obtain⟨p,hp,hw⟩:=xA1 hch i h1
      rw[yu hi (hR' p hp)] at hw
      cases hw
    subst hir
    have hap:∀ x∈E.filter (unl L),∃ ox,ops[x]?=some ox∧ox.apart ops oi=true:=by
     intro x hx
     have hx':=(hunE x).1 hx
     have h2:=hapR i hc x hx'.1
     obtain⟨oy,oe,h3,h4,h5⟩:=hapart x i h2 (yu hi hx'.2)
     have:oe=oi:=Option.some.inj (h4.symm.trans hoi)
     subst this
     exact⟨oy,h3,h5⟩
    have h1:wpQuiet P ops C (fun a'=>wpOp P ops (NoPanic Q) i (fun a' w'=>(xBz ops D E i=true→C w')∧wpN P ops (QS fin Q) C D E rest a' w') a' w) (zp ops (E.filter (unl L))) a:=by
     refine yP (fun a'' h''=>?_) _ _ h
     unfold Zd at h''
     split at h''
     ·exact xSt h''
     ·rename_i hp
      exact xSt (h'' w (hphC (by simpa using hp)).1)
    have h2:=kz hoi hsel (E.filter (unl L)) a hap h1
    have hfs:=uC (L:=L) hiE
    have hneed:E.filter (unl L)≠[]→xBz ops D E i=true:=by
     intro hne
     cases hq:xBz ops D E i with
     | true=>rfl
     | false =>
      exfalso
      unfold xBz at hq
      simp only[Bool.not_eq_false',List.all_eq_true] at hq
      obtain⟨e,he⟩:=List.exists_mem_of_ne_nil _ hne
      have he':=(hunE e).1 he
      have h4:=qM hcl ops.size i e (fun o ho=>by
       have:o=oi:=Option.some.inj (ho.symm.trans hoi)
       subst this;exact hall) (xL5 (hq e he'.1))
      rw[getD_both he'.2] at h4
      cases h4
    refine wpOp_mono (fun a' w' h3=>?_) h2
    refine ih (L.setIfInBounds i true) (Rd++[i]) rest a' w' true (by rw[hR];simp) (by simpa using hsz) hcl' (hinv' (List.mem_append_right _ hc)) (fun h0=>by
     rw[hfs]
     subst h0
     by_cases hne:E.filter (unl L)=[]
     ·exact hne
     ·exfalso
      have h5:=hneed hne
      rw[hR,List.getLast?_append] at hlast
      simp only[List.getLast?_singleton,Option.some_or,Bool.not_eq_true'] at hlast
      rw[h5] at hlast
      cases hlast) (fun r hr=>?_) (fun r hr=>?_) ?_ (fun hne=>?_) (by simp) (fun _ e he o ho=>?_) ?_
    ·by_cases hri:i=r
     ·subst hri;rw[hsz.symm] at hilt;simp[hilt]
     ·rw[getD_set_ne true hri]
      rcases List.mem_append.1 hr with h4 | h4
      ·exact hRd r h4
      ·simp at h4;exact absurd h4.symm hri
    ·have hri:i≠r:=by
      rintro rfl
      have:(Rd++i :: rest).Nodup:=hR ▸ (List.nodup_append.1 hnd).2.1
      exact(List.nodup_cons.1 (List.nodup_append.1 this).2.1).1 hr
     rw[getD_set_ne true hri];exact hR' r (by simp[hr])
    ·rw[hfs];simp only[List.length_cons] at hn;omega
    ·rw[hfs] at hne
     exact(qO _ _ h3) (hneed hne)
    ·rw[hfs] at he
     cases ph with
     | true=>exact hphE rfl e he o ho
     | false =>
      have he':=(hunE e).1 he
      have h4:=hcalls e he'.1
      rw[ho] at h4
      simp only[Bool.or_eq_true,Bool.not_eq_true'] at h4
      rcases h4 with h4 | h4
      ·exact h4
      ·exfalso
       have hRd0:=(hphC rfl).2
       subst hRd0
       rw[List.nil_append] at hR
       rw[hR] at h4
       have h5:=qM hcl ops.size i e (fun o ho=>by
        have:o=oi:=Option.some.inj (ho.symm.trans hoi)
        subst this;exact hall) h4
       rw[getD_both he'.2] at h5
       cases h5
    ·rw[hfs]
     refine yP (fun a'' h''=>?_) _ _ h3
     unfold Zd
     rw[if_pos rfl]
     exact h''.2
def wpSt (P:Program)(ops:Array Oper)(Q:Exit→Act→World→Prop)(S:List Nat)(m:Nat)(a:Act)(w:World):Prop:=wpAny P .any ops (NoPanic Q) m (qS ops.size S) a w
theorem xAc {S:List Nat}{a:Act}{w:World}(hS:((List.range ops.size).all fun i=>S.contains i)=true)(h:Q .normal a w):wpSt P ops Q S 0 a w:=by
 refine⟨?_,h⟩
 rw[List.eq_nil_iff_forall_not_mem]
 intro i hi
 obtain⟨h1,o,ho,_⟩:=mem_ready.1 hi
 have hlt:=(i_ ho).1
 rw[uL _ _ _ hlt,List.all_eq_true.1 hS i (List.mem_range.2 hlt)] at h1
 cases h1
theorem xFn {D:List Nat}(hD:D.all (ze ops D)=true):kl ops (qS ops.size D):=by
 intro j oj hj hl e he hb
 have hjD:=(xSa hl).2
 have h1:=List.all_eq_true.1 hD j hjD
 unfold ze at h1
 rw[hj] at h1
 have h2:=(Array.all_eq_true_iff_forall_mem.1 h1) e he
 simp only[hb,Bool.not_true,Bool.false_or,Bool.and_eq_true,List.contains_iff_mem,bne_iff_ne] at h2
 have h3:=List.all_eq_true.1 hD e.on h2.1
 unfold ze at h3
 split at h3
 ·rename_i o ho
  rw[uL _ _ _ (i_ ho).1]
  simpa using h2.1
 ·cases h3
theorem xCr {D S:List Nat}{k:Nat}{a:Act}{w:World}(E R:List Nat)(m:Nat)(C:World→Prop)(hB:xE2 ops D E R=true)(hD:D.all (ze ops D)=true)(hE:(E.all fun e=>match ops[e]? with | some o=>!jb o | none=>false)=true)
  (hS:D++E++R=S) (hk:E.length+R.length+m=k) (hC:C w) (h:wpQuiet P ops C (fun a'=>wpN P ops (QS (wpSt P ops Q S m) Q) C D E R a' w) (zp ops E) a):wpSt P ops Q D k a w:=by
 subst hS
 subst hk
 have hB':=hB
 simp only[xE2,Bool.and_eq_true,decide_eq_true_eq,List.all_eq_true] at hB'
 obtain⟨⟨⟨⟨⟨⟨⟨⟨⟨⟨⟨_,hndD⟩,_⟩,hpE⟩,_⟩,hpR⟩,_⟩,_⟩,_⟩,_⟩,hlast⟩,hDlt⟩:=hB'
 have hlt:∀ (l:List Nat) (e:Nat),ze ops l e=true→e<ops.size:=fun l e h=>by
  unfold ze at h
  split at h
  ·rename_i o ho;exact(i_ ho).1
  ·cases h
 rw[List.append_assoc] at hndD
 have hnd:=List.nodup_append.1 hndD
 have hfresh:∀ e,e∈E++R→e<ops.size→(qS ops.size D).getD e true=false:=fun e he hl=>by
  rw[uL _ _ _ hl]
  cases hx:D.contains e with
  | false=>rfl
  | true=>exact absurd rfl (hnd.2.2 e (by simpa using hx) e he)
 have hall:E.filter (unl (qS ops.size D))=E:=by
  rw[List.filter_eq_self]
  intro e he
  simp only[unl,hfresh e (List.mem_append_left _ he) (hlt _ _ (hpE e he)),Bool.not_false]
 have hRne:R≠[]:=by rintro rfl;simp at hlast
 refine xGi hB (fun a w h=>h) (E.length+R.length) (qS ops.size D) [] R a w true rfl (vH _ _) (xFn hD) (fun i hi=>⟨fun h1=>?_,fun h1=>?_⟩) (fun h0=>absurd h0 hRne) (fun r hr=>by cases hr)
  (fun r hr=>hfresh r (List.mem_append_right _ hr) (hlt _ _ (hpR r hr))) (by rw[hall]) (fun _=>hC) (fun h=>by cases h) (fun _ e he o ho=>?_) ?_
 ·rw[uL _ _ _ hi] at h1
  rw[List.append_assoc]
  exact List.mem_append_left _ (by simpa using h1)
 ·rw[uL _ _ _ hi]
  simpa using h1
 ·rw[hall] at he
  have h1:=List.all_eq_true.1 hE e he
  rw[ho] at h1
  simpa using h1
 ·rw[hall]
  exact yP (fun a' h'=>by unfold Zd;rw[if_pos rfl];exact h') _ _ h
theorem km {D S:List Nat}{k:Nat}{a:Act}{w:World}(E R:List Nat)(m:Nat)(C:World→Prop)(hB:xE2 ops D E R=true)(hD:D.all (ze ops D)=true)
  (hS:D++E++R=S) (hk:E.length+R.length+m=k) (hC:C w) (h:wpQuiet P ops C (fun a'=>∀ w',C w'→wpN P ops (QS (wpSt P ops Q S m) Q) C D E R a' w') (zp ops E) a):wpSt P ops Q D k a w:=by
 subst hS
 subst hk
 have hB':=hB
 simp only[xE2,Bool.and_eq_true,decide_eq_true_eq,List.all_eq_true] at hB'
 obtain⟨⟨⟨⟨⟨⟨⟨⟨⟨⟨⟨_,hndD⟩,_⟩,hpE⟩,_⟩,hpR⟩,_⟩,_⟩,_⟩,_⟩,hlast⟩,hDlt⟩:=hB'
 have hlt:∀ (l:List Nat) (e:Nat),ze ops l e=true→e<ops.size:=fun l e h=>by
  unfold ze at h
  split at h
  ·rename_i o ho;exact(i_ ho).1
  ·cases h
 rw[List.append_assoc] at hndD
 have hnd:=List.nodup_append.1 hndD
 have hfresh:∀ e,e∈E++R→e<ops.size→(qS ops.size D).getD e true=false:=fun e he hl=>by
  rw[uL _ _ _ hl]
  cases hx:D.contains e with
  | false=>rfl
  | true=>exact absurd rfl (hnd.2.2 e (by simpa using hx) e he)
 have hall:E.filter (unl (qS ops.size D))=E:=by
  rw[List.filter_eq_self]
  intro e he
  simp only[unl,hfresh e (List.mem_append_left _ he) (hlt _ _ (hpE e he)),Bool.not_false]
 have hRne:R≠[]:=by rintro rfl;simp at hlast
 refine xGi hB (fun a w h=>h) (E.length+R.length) (qS ops.size D) [] R a w false rfl (vH _ _) (xFn hD) (fun i hi=>⟨fun h1=>?_,fun h1=>?_⟩) (fun h0=>absurd h0 hRne) (fun r hr=>by cases hr)
  (fun r hr=>hfresh r (List.mem_append_right _ hr) (hlt _ _ (hpR r hr))) (by rw[hall]) (fun _=>hC) (fun _=>⟨hC,rfl⟩) (fun h=>by cases h) ?_
 ·rw[uL _ _ _ hi] at h1
  rw[List.append_assoc]
  exact List.mem_append_left _ (by simpa using h1)
 ·rw[uL _ _ _ hi]
  simpa using h1
 ·rw[hall]
  exact yP (fun a' h'=>by unfold Zd;rw[if_neg (by simp)];exact h') _ _ h
theorem uv {id:Nat}{a:Act}{w:World}(hm:P.follows .mixedOrders=true)(h:wpSt P ops Q [] ops.size a w.drew):(Code.region id ops true).wp P Q a w:=by
 refine wp_region_noPanic (wp_region_any hm ?_)
 have e:qS ops.size []=Array.replicate ops.size false:=by
  apply Array.ext
  ·simp[vH]
  ·intro i h1 h2
   rw[xEl]
   simp
 unfold wpSt at h
 rw[e] at h
 exact h
def QnD (P:Program)(ops:Array Oper)(Q:Exit→Act→World→Prop)(C:World→Prop)(D E rest:List Nat)(b:Bool):Exit→Act→World→Prop
 | .normal,a,w=>(b=true→C w)∧wpN P ops Q C D E rest a w
 | .panic _,_,_=>False
 | e,a,w=>Q e a w
theorem xCs {D E rest:List Nat}{r:Nat}{o:Oper}{a:Act}{w:World}(b:Bool)(hr:ops[r]?=some o)(hb:xBz ops D E r=b)(h:wpList P ops (QnD P ops Q C D E rest b) [o] a w):wpN P ops Q C D E (r :: rest) a w:=by
 unfold wpN wpOp
 simp only[hr]
 unfold wpList at h
 have hl:LetsOut (QnD P ops Q C D E rest b)→LetsOut (NoPanic Q):=fun⟨a,w,h⟩=>⟨a,w,h⟩
 have hk:∀ a' w',wpList P ops (QnD P ops Q C D E rest b) [] a' w'→(xBz ops D E r=true→C w')∧wpN P ops Q C D E rest a' w':=fun a' w' h'=>by
  rw[hb];exact h'
 split
 ·rename_i hw
  rw[if_pos hw] at h
  rcases h with h | ⟨h1,h2⟩
  ·refine .inl ?_
   unfold Oper.wp at *
   generalize (execOp a.eval o).run P w=r at *
   cases r with
   | ok n w' =>
    cases n <;> simp only[Oper.upon] at h ⊢
    case value u=>exact hk _ _ h
    case skip=>exact hk _ _ h
    case defer d=>exact hk _ _ h
    case enter f args =>
     refine Calls.mono h fun e w'' he=>?_
     cases e with
     | returned u=>exact hk _ _ he
     | panicked c=>exact he
     | outgrown=>exact hl he
    case row row args=>exact Rows.mono h fun u w'' he=>hk _ _ he
   | halt x w'=>cases x <;> simp only[Oper.upon] at h ⊢ <;> exact h
  ·exact .inr ⟨h1,hl h2⟩
 ·rename_i hw
  rw[if_neg hw] at h
  exact hk _ _ h
theorem qz {D E:List Nat}:∀ (R:List Nat) (a:Act) (w:World),(R.all fun r=>!xBz ops D E r && decide (r<ops.size))=true→wpList P ops (NoPanic Q) (zp ops R) a w→wpN P ops Q C D E R a w
 | [],_,_,_,h=>h
 | r :: R,a,w,hn,h=>by
  rw[List.all_cons,Bool.and_eq_true] at hn
  obtain⟨hn1,hn2⟩:=hn
  rw[Bool.and_eq_true,Bool.not_eq_true',decide_eq_true_eq] at hn1
  have hr:ops[r]?=some (ops.getD r default):=by simp[hn1.2]
  unfold wpN wpOp
  simp only[hr]
  unfold zp at h
  rw[List.map_cons] at h
  unfold wpList at h
  have hk:∀ a' w',wpList P ops (NoPanic Q) (zp ops R) a' w'→(xBz ops D E r=true→C w')∧wpN P ops Q C D E R a' w':=fun a' w' h' =>
   ⟨(fun h1=>by rw[hn1.1] at h1;cases h1),qz R a' w' hn2 h'⟩
  split
  ·rename_i hw
   rw[if_pos hw] at h
   exact h.imp (fun h=>Oper.wp_mono hk h) id
  ·rename_i hw
   rw[if_neg hw] at h
   exact hk _ _ h
theorem qx {fin:Act→World→Prop}{a:Act}{w:World}:QS fin Q .normal a w=fin a w:=rfl
end
end Go.Proofs.YthiafifdiaplaaaGreatDoor
namespace Go.Proofs.YthiafifdiaplaaaGreatDoor
open Go Go.RowKit Go.Proofs
section
variable {P:Program} {ops:Array Oper} {Q:Exit→Act→World→Prop} {C:World→Prop}
def kI (ops:Array Oper)(R:List Nat):List Nat:=R.filter fun r=>R.all fun s=>!Region.waitsFor .any ops r s
def wpF (P:Program)(ops:Array Oper)(Q:Exit→Act→World→Prop)(C:World→Prop)(E:List Nat):Nat→List Nat→Act→World→Prop
 | 0,_,a,w=>Q .normal a w
 | n+1,R,a,w=>∀ r∈kI ops R,wpOp P ops (NoPanic Q) r (fun a' w'=>(zQ ops E r=true→C w')∧wpF P ops Q C E n (R.erase r) a' w') a w
def xTh (ops:Array Oper)(E R:List Nat):Bool :=
 Region.noSelect ops && decide ((E++R).Nodup) && decide (E.length+R.length=ops.size) && ((List.range ops.size).all fun i=>E.contains i || R.contains i)
 && E.all (ze ops E) && jS (fun y e=>!Region.waitsFor .any ops y e && qy ops y e) E
 && R.all (ze ops (E++R)) && jS (fun r s=>!Region.waitsFor .any ops r s) R
 && (R.all fun r=>E.all fun y=>qy ops y r)
 && (E.all fun e=>match ops[e]? with | some o=>!jb o | none=>false)
theorem xFj {R1 R2:List Nat}{r:Nat}(h:(R1++r :: R2).Nodup):(R1++r :: R2).erase r=R1++R2:=by
 have h1:r ∉ R1:=fun h'=>(List.nodup_append.1 h).2.2 r h' r (by simp) rfl
 rw[List.erase_append_right _ h1,List.erase_cons_head]
theorem xUw {E R:List Nat}(hB:xTh ops E R=true):∀ (n:Nat) (L:Array Bool) (a:Act) (w:World),L.size=ops.size→kl ops L →
  (E.filter (unl L)).length+(R.filter (unl L)).length=n→(E.filter (unl L)≠[]→C w) →
  wpQuiet P ops C (fun a'=>wpF P ops Q C E (R.filter (unl L)).length (R.filter (unl L)) a' w) (zp ops (E.filter (unl L))) a→wpAny P .any ops (NoPanic Q) n L a w:=by
 simp only[xTh,Bool.and_eq_true,decide_eq_true_eq,List.all_eq_true] at hB
 obtain⟨⟨⟨⟨⟨⟨⟨⟨⟨hns,hnd⟩,hlen⟩,hcov⟩,hpE⟩,hpair⟩,hpR⟩,hpairR⟩,hapR⟩,hcalls⟩:=hB
 have hsel:=Region.noSelect_spec hns
 have hpair':=uH hpair
 have hpairR':=uH hpairR
 have hndE:E.Nodup:=(List.nodup_append.1 hnd).1
 have hndR:R.Nodup:=(List.nodup_append.1 hnd).2.1
 have hdis:∀ x,x∈E→x∈R→False:=fun x h1 h2=>(List.nodup_append.1 hnd).2.2 x h1 x h2 rfl
 have hget:∀ (l:List Nat) (e:Nat),ze ops l e=true→∃ o,ops[e]?=some o∧∀ x∈o.after,Region.binds .any x=true→x.on∈l∧x.on≠e:=by
  intro l e h
  unfold ze at h
  split at h
  ·rename_i o ho
   refine⟨o,ho,fun x hx hb=>?_⟩
   have h1:=(Array.all_eq_true_iff_forall_mem.1 h) x hx
   simp only[hb,Bool.not_true,Bool.false_or,Bool.and_eq_true,List.contains_iff_mem,bne_iff_ne] at h1
   exact h1
  ·cases h
 have hapart:∀ y e,qy ops y e=true→Region.waitsFor .any ops e y=false→∃ oy oe,ops[y]?=some oy∧ops[e]?=some oe∧oy.apart ops oe=true:=by
  intro y e h hw
  unfold qy at h
  rw[hw,Bool.false_or] at h
  split at h
  ·rename_i oy oe h1 h2
   exact⟨oy,oe,h1,h2,h⟩
  ·cases h
 have hinE:∀ x,x∈E→x<ops.size:=fun x hx=>by
  obtain⟨ox,hox,_⟩:=hget E x (hpE _ hx)
  exact(i_ hox).1
 have hinR:∀ x,x∈R→x<ops.size:=fun x hx=>by
  obtain⟨ox,hox,_⟩:=hget (E++R) x (hpR _ hx)
  exact(i_ hox).1
 have hun:∀ (L:Array Bool) (l:List Nat) (x:Nat),x∈l.filter (unl L)↔x∈l∧L.getD x true=false:=fun L l x=>by
  rw[List.mem_filter];simp only[unl,Bool.not_eq_true']
 intro n
 induction n with
 | zero =>
  intro L a w hsz hcl hn _ h
  have hE0:E.filter (unl L)=[]:=List.eq_nil_of_length_eq_zero (by omega)
  have hR0:R.filter (unl L)=[]:=List.eq_nil_of_length_eq_zero (by omega)
  rw[hE0,hR0] at h
  refine⟨?_,?_⟩
  ·rw[List.eq_nil_iff_forall_not_mem]
   intro i hi
   obtain⟨h1,o,ho,_⟩:=mem_ready.1 hi
   have hlt:=(i_ ho).1
   have hc:=hcov i (List.mem_range.2 hlt)
   simp only[Bool.or_eq_true,List.contains_iff_mem] at hc
   rcases hc with hc | hc
   ·have:i∈E.filter (unl L):=(hun L E i).2 ⟨hc,h1⟩
    rw[hE0] at this;cases this
   ·have:i∈R.filter (unl L):=(hun L R i).2 ⟨hc,h1⟩
    rw[hR0] at this;cases this
  ·exact h
 | succ n ih =>
  intro L a w hsz hcl hn hCw h
  have hsome:Region.ready .any ops L≠[]:=by
   cases hE':E.filter (unl L) with
   | cons e T =>
    have he:=(hun L E e).1 (by rw[hE'];simp)
    obtain⟨o,ho,hpre⟩:=hget E e (hpE e he.1)
    have hpw:=hpair'.filter (p:=unl L)
    rw[hE'] at hpw
    have:e∈Region.ready .any ops L:=mem_ready.2 ⟨he.2,o,ho,fun x hx hb=>by
     obtain⟨hxE,hxe⟩:=hpre x hx hb
     cases hlx:L.getD x.on false with
     | true=>rfl
     | false =>
      exfalso
      have hxm:x.on∈E.filter (unl L):=(hun L E _).2 ⟨hxE,getD_in (by rw[hsz];exact hinE _ hxE) hlx⟩
      rw[hE'] at hxm
      rcases List.mem_cons.1 hxm with h1 | h1
      ·exact hxe h1
      ·have h2:=(List.pairwise_cons.1 hpw).1 _ h1
       simp only[Bool.and_eq_true,Bool.not_eq_true'] at h2
       rw[uF ho hx hb rfl] at h2
       cases h2.1⟩
    intro h0;rw[h0] at this;cases this
   | nil =>
    cases hR':R.filter (unl L) with
    | nil=>rw[hE',hR'] at hn;simp at hn
    | cons r rest =>
     have hr:=(hun L R r).1 (by rw[hR'];simp)
     obtain⟨o,ho,hpre⟩:=hget (E++R) r (hpR r hr.1)
     have hpw:=hpairR'.filter (p:=unl L)
     rw[hR'] at hpw
     have:r∈Region.ready .any ops L:=mem_ready.2 ⟨hr.2,o,ho,fun x hx hb=>by
      obtain⟨hxE,hxe⟩:=hpre x hx hb
      cases hlx:L.getD x.on false with
      | true=>rfl
      | false =>
       exfalso
       rcases List.mem_append.1 hxE with h1 | h1
       ·have:x.on∈E.filter (unl L):=(hun L E _).2 ⟨h1,getD_in (by rw[hsz];exact hinE _ h1) hlx⟩
        rw[hE'] at this;cases this
       ·have hxm:x.on∈R.filter (unl L):=(hun L R _).2 ⟨h1,getD_in (by rw[hsz];exact hinR _ h1) hlx⟩
        rw[hR'] at hxm
        rcases List.mem_cons.1 hxm with h3 | h3
        ·exact hxe h3
        ·have h4:=(List.pairwise_cons.1 hpw).1 _ h3
         simp only[Bool.not_eq_true'] at h4
         rw[uF ho hx hb rfl] at h4
         cases h4⟩
     intro h0;rw[h0] at this;cases this
  refine⟨fun h0=>absurd h0 hsome,fun i hi=>?_⟩
  obtain⟨hiu,oi,hoi,hall⟩:=mem_ready.1 hi
  have hilt:=(i_ hoi).1
  have hcl':kl ops (L.setIfInBounds i true):=fun j oj hj hl e he hb=>by
   by_cases hij:i=j
   ·subst hij
    have:oj=oi:=Option.some.inj (hj.symm.trans hoi)
    subst this
    exact getD_set_true (hall e he hb)
   ·rw[getD_set_ne false hij] at hl
    exact getD_set_true (hcl j oj hj hl e he hb)
  have hc:=hcov i (List.mem_range.2 hilt)
  simp only[Bool.or_eq_true,List.contains_iff_mem] at hc
  rcases hc with hc | hc
  ·
   have himem:i∈E.filter (unl L):=(hun L E i).2 ⟨hc,hiu⟩
   obtain⟨E1,E2,hsplit⟩:=List.append_of_mem himem
   have hiR:i ∉ R:=fun h'=>hdis i hc h'
   have hpw:=hpair'.filter (p:=unl L)
   rw[hsplit] at hpw h
   have hap:∀ x∈E1,∃ ox,ops[x]?=some ox∧ox.apart ops oi=true:=by
    intro x hx
    have h2:=(List.pairwise_append.1 hpw).2.2 x hx i (by simp)
    simp only[Bool.and_eq_true,Bool.not_eq_true'] at h2
    have hxu:L.getD x true=false:=((hun L E x).1 (by rw[hsplit];simp[hx])).2
    obtain⟨oy,oe,h3,h4,h5⟩:=hapart x i h2.2 (yu hi hxu)
    have:oe=oi:=Option.some.inj (h4.symm.trans hoi)
    subst this
    exact⟨oy,h3,h5⟩
   have hq:=vV hoi hsel E1 E2 a hap h
   have hfs:=vF (by rw[hsz];exact hilt) hndE hsplit
   have hfR:=uC (L:=L) hiR
   have hCw':C w:=hCw (by rw[hsplit];simp)
   have hcall:jb oi=false:=by
    have:=hcalls i hc
    rw[hoi] at this
    simpa using this
   refine jx hoi hcall hCw' (fun a' h'=>?_) hq
   refine ih (L.setIfInBounds i true) a' w (by simpa using hsz) hcl' ?_ (fun _=>hCw') ?_
   ·rw[hfs,hfR];rw[hsplit] at hn;simp only[List.length_append,List.length_cons] at hn ⊢;omega
   ·rw[hfs,hfR];exact h'
  ·
   have hiE:i ∉ E:=fun h'=>hdis i h' hc
   have himem:i∈R.filter (unl L):=(hun L R i).2 ⟨hc,hiu⟩
   obtain⟨R1,R2,hsplit⟩:=List.append_of_mem himem
   have hap:∀ x∈E.filter (unl L),∃ ox,ops[x]?=some ox∧ox.apart ops oi=true:=by
    intro x hx
    have hx':=(hun L E x).1 hx
    have h2:=hapR i hc x hx'.1
    obtain⟨oy,oe,h3,h4,h5⟩:=hapart x i h2 (yu hi hx'.2)
    have:oe=oi:=Option.some.inj (h4.symm.trans hoi)
    subst this
    exact⟨oy,h3,h5⟩
   have hrf:i∈kI ops (R.filter (unl L)):=by
    unfold kI
    rw[List.mem_filter,List.all_eq_true]
    refine⟨himem,fun s hs=>?_⟩
    rw[yu hi ((hun L R s).1 hs).2]
    rfl
   have hln:(R.filter (unl L)).length=(R1++R2).length+1:=by rw[hsplit];simp;omega
   have her:(R.filter (unl L)).erase i=R1++R2:=by
    rw[hsplit]
    exact xFj (by rw[←hsplit];exact hndR.filter _)
   have h1:wpQuiet P ops C (fun a'=>wpOp P ops (NoPanic Q) i (fun a' w'=>(zQ ops E i=true→C w')∧wpF P ops Q C E (R1++R2).length (R1++R2) a' w') a' w) (zp ops (E.filter (unl L))) a:=by
    refine yP (fun a'' h''=>?_) _ _ h
    rw[hln] at h''
    have:=h'' i hrf
    rw[her] at this
    exact this
   have h2:=kz hoi hsel (E.filter (unl L)) a hap h1
   have hfs:=uC (L:=L) hiE
   have hfR:=vF (by rw[hsz];exact hilt) hndR hsplit
   have hneed:E.filter (unl L)≠[]→zQ ops E i=true:=by
    intro hne
    cases hq:zQ ops E i with
    | true=>rfl
    | false =>
     exfalso
     unfold zQ at hq
     simp only[Bool.not_eq_false',List.all_eq_true] at hq
     obtain⟨e,he⟩:=List.exists_mem_of_ne_nil _ hne
     have he':=(hun L E e).1 he
     have h4:=qM hcl ops.size i e (fun o ho=>by
      have:o=oi:=Option.some.inj (ho.symm.trans hoi)
      subst this;exact hall) (hq e he'.1)
     rw[getD_both he'.2] at h4
     cases h4
   refine wpOp_mono (fun a' w' h3=>?_) h2
   refine ih (L.setIfInBounds i true) a' w' (by simpa using hsz) hcl' ?_ (fun hne=>?_) ?_
   ·rw[hfs,hfR];rw[hln] at hn;omega
   ·rw[hfs] at hne
    exact(qO _ _ h3) (hneed hne)
   ·rw[hfs,hfR]
    exact yP (fun a'' h''=>h''.2) _ _ h3
theorem xGa {id:Nat}{a:Act}{w:World}(E R:List Nat)(n:Nat)(C:World→Prop)(hm:P.follows .mixedOrders=true)(hB:xTh ops E R=true)(hn:R.length=n)(hC:C w.drew)
  (h:wpQuiet P ops C (fun a'=>wpF P ops Q C E n R a' w.drew) (zp ops E) a):(Code.region id ops true).wp P Q a w:=by
 refine wp_region_noPanic (wp_region_any hm ?_)
 have hB0:=hB
 simp only[xTh,Bool.and_eq_true,decide_eq_true_eq,List.all_eq_true] at hB
 obtain⟨⟨⟨⟨⟨⟨⟨⟨⟨hns,hnd⟩,hlen⟩,hcov⟩,hpE⟩,hpair⟩,hpR⟩,hpairR⟩,hapR⟩,hcalls⟩:=hB
 have hlt:∀ l i,ze ops l i=true→i<ops.size:=by
  intro l i hcov
  unfold ze at hcov
  split at hcov
  ·rename_i o ho;exact(i_ ho).1
  ·cases hcov
 have hall:E.filter (unl (Array.replicate ops.size false))=E:=by
  rw[List.filter_eq_self]
  intro i hi
  simp[unl,hlt E i (hpE i hi)]
 have hallR:R.filter (unl (Array.replicate ops.size false))=R:=by
  rw[List.filter_eq_self]
  intro i hi
  simp[unl,hlt _ i (hpR i hi)]
 refine xUw hB0 ops.size (Array.replicate ops.size false) a w.drew (by simp) (fun j oj _ hl=>by rw[getD_replicate_false] at hl;cases hl) (by rw[hall,hallR];exact hlen) (fun _=>hC) ?_
 rw[hall,hallR,hn]
 exact h
theorem xJw {E:List Nat}:∀ (R:List Nat) (a:Act) (w:World),R.Nodup→jG ops R=true→jS (fun r s=>!Region.waitsFor .any ops r s) R=true→wpR P ops Q C E R a w→wpF P ops Q C E R.length R a w
 | [],_,_,_,_,_,h=>h
 | r :: R,a,w,hnd,hc,hp,h=>by
  intro i hi
  unfold kI at hi
  rw[List.mem_filter,List.all_eq_true] at hi
  have hir:i=r:=by
   rcases List.mem_cons.1 hi.1 with h1 | h1
   ·exact h1
   ·exfalso
    obtain⟨p,hpm,hw⟩:=xA1 hc i h1
    have:=hi.2 p hpm
    rw[hw] at this
    cases this
  subst hir
  rw[List.erase_cons_head]
  unfold wpR at h
  rw[List.nodup_cons] at hnd
  refine wpOp_mono (fun a' w' h3=>⟨h3.1,xJw R a' w' hnd.2 (jq [i] R hc) ?_ h3.2⟩) h
  simp only[jS,Bool.and_eq_true] at hp
  exact hp.2
theorem zE {E:List Nat}{n:Nat}(R:List Nat)(hn:R.length=n){a:Act}{w:World}(hnd:decide R.Nodup=true)(hc:jG ops R=true)(hp:jS (fun r s=>!Region.waitsFor .any ops r s) R=true)(h:wpR P ops Q C E R a w):wpF P ops Q C E n R a w:=by
 subst hn
 exact xJw R a w (of_decide_eq_true hnd) hc hp h
def QnF (P:Program)(ops:Array Oper)(Q:Exit→Act→World→Prop)(C:World→Prop)(E:List Nat)(n:Nat)(rest:List Nat)(b:Bool):Exit→Act→World→Prop
 | .normal,a,w=>(b=true→C w)∧wpF P ops Q C E n rest a w
 | .panic _,_,_=>False
 | e,a,w=>Q e a w
theorem yA7 {E R rest:List Nat}{n r:Nat}{o:Oper}{a:Act}{w:World}(b:Bool)(hr:ops[r]?=some o)(hb:zQ ops E r=b)(he:R.erase r=rest)(h:wpList P ops (QnF P ops Q C E n rest b) [o] a w) :
  wpOp P ops (NoPanic Q) r (fun a' w'=>(zQ ops E r=true→C w')∧wpF P ops Q C E n (R.erase r) a' w') a w:=by
 subst he
 unfold wpOp
 simp only[hr]
 unfold wpList at h
 have hl:LetsOut (QnF P ops Q C E n (R.erase r) b)→LetsOut (NoPanic Q):=fun⟨a,w,h⟩=>⟨a,w,h⟩
 have hk:∀ a' w',wpList P ops (QnF P ops Q C E n (R.erase r) b) [] a' w'→(zQ ops E r=true→C w')∧wpF P ops Q C E n (R.erase r) a' w':=fun a' w' h'=>by
  rw[hb];exact h'
 split
 ·rename_i hw
  rw[if_pos hw] at h
  rcases h with h | ⟨h1,h2⟩
  ·refine .inl ?_
   unfold Oper.wp at *
   generalize (execOp a.eval o).run P w=r at *
   cases r with
   | ok n w' =>
    cases n <;> simp only[Oper.upon] at h ⊢
    case value u=>exact hk _ _ h
    case skip=>exact hk _ _ h
    case defer d=>exact hk _ _ h
    case enter f args =>
     refine Calls.mono h fun e w'' he=>?_
     cases e with
     | returned u=>exact hk _ _ he
     | panicked c=>exact he
     | outgrown=>exact hl he
    case row row args=>exact Rows.mono h fun u w'' he=>hk _ _ he
   | halt x w'=>cases x <;> simp only[Oper.upon] at h ⊢ <;> exact h
  ·exact .inr ⟨h1,hl h2⟩
 ·rename_i hw
  rw[if_neg hw] at h
  exact hk _ _ h
theorem yQ {E R rest:List Nat}{n r:Nat}{a:Act}{w:World}(b:Bool)(hlt:decide (r<ops.size)=true)(hb:zQ ops E r=b)(he:R.erase r=rest)(h:wpList P ops (QnF P ops Q C E n rest b) (zp ops [r]) a w) :
  wpOp P ops (NoPanic Q) r (fun a' w'=>(zQ ops E r=true→C w')∧wpF P ops Q C E n (R.erase r) a' w') a w :=
 yA7 b (o:=ops.getD r default) (by simp[of_decide_eq_true hlt]) hb he h
theorem jL {E R:List Nat}{n r:Nat}{a:Act}{w:World}(hr:kI ops R=[r])
  (h1:wpOp P ops (NoPanic Q) r (fun a' w'=>(zQ ops E r=true→C w')∧wpF P ops Q C E n (R.erase r) a' w') a w):wpF P ops Q C E (n+1) R a w:=by
 intro i hi
 rw[hr,List.mem_singleton] at hi
 subst hi
 exact h1
theorem uU {E R:List Nat}{n r s:Nat}{a:Act}{w:World}(hr:kI ops R=[r,s])
  (h1:wpOp P ops (NoPanic Q) r (fun a' w'=>(zQ ops E r=true→C w')∧wpF P ops Q C E n (R.erase r) a' w') a w)
  (h2:wpOp P ops (NoPanic Q) s (fun a' w'=>(zQ ops E s=true→C w')∧wpF P ops Q C E n (R.erase s) a' w') a w):wpF P ops Q C E (n+1) R a w:=by
 intro i hi
 rw[hr] at hi
 rcases List.mem_cons.1 hi with rfl | hi
 ·exact h1
 ·rw[List.mem_singleton] at hi
  subst hi
  exact h2
def jW (o:Oper):Bool:=match o.op with
 | .call c=>(match c.callee with | .builtin .len=>false | _=>true)
 | .convert ..=>false
 | _=>jb o
theorem xIb {o:Oper}{ρ:Operand→Value}{w w':World}{f:FuncId}{args:Array Value}(hc:jW o=false)(h:(execOp ρ o).run P w=.ok (.enter f args) w'):False:=by
 obtain⟨d,op,ty,pos,af,g⟩:=o
 cases op
 case call c =>
  obtain⟨callee,xs,ats⟩:=c
  cases callee with
  | builtin b =>
   cases b <;> simp only[jW,Bool.true_eq_false] at hc
   exact ja (s:=Builtin.len_ ats ty (xs.map ρ)) h
  | invoke r n=>simp[jW] at hc
  | value x=>simp[jW] at hc
 case convert s t x=>exact ja h
 all_goals exact xC7 (by simpa only[jW] using hc) h
theorem xFv {e:Nat}{o:Oper}{K:Act→Prop}{K':Act→World→Prop}{a:Act}{w:World}(he:ops[e]?=some o)(hcall:jW o=false)(hC:C w)(hk:∀ a',K a'→K' a' w)(h:qOp P ops C e K a) :
  wpOp P ops (NoPanic Q) e K' a w:=by
 unfold qOp at h
 unfold wpOp
 simp only[he] at h ⊢
 split
 ·rename_i hw
  rw[if_pos hw] at h
  refine .inl ?_
  obtain⟨v,hv,hn⟩:=h
  have h1:=hv w hC
  unfold Oper.quietAt at h1
  unfold Oper.wp
  generalize hr:(execOp a.eval o).run P w=r at *
  cases r with
  | ok n w' =>
   cases n <;> simp only[Oper.quietUpon] at h1 <;> simp only[Oper.upon]
   case value u=>obtain⟨rfl,rfl⟩:=h1;exact hk _ hn
   case skip=>obtain⟨rfl,rfl⟩:=h1;exact hk _ hn
   case enter f args =>
    exfalso
    exact xIb hcall hr
  | halt x w'=>exact h1.elim
 ·rename_i hw
  rw[if_neg hw] at h
  exact hk _ h
def xMo (ops:Array Oper)(E R:List Nat):Bool :=
 Region.noSelect ops && decide ((E++R).Nodup) && decide (E.length+R.length=ops.size) && ((List.range ops.size).all fun i=>E.contains i || R.contains i)
 && E.all (ze ops E) && jS (fun y e=>!Region.waitsFor .any ops y e && qy ops y e) E
 && R.all (ze ops (E++R)) && jS (fun r s=>!Region.waitsFor .any ops r s) R
 && (R.all fun r=>E.all fun y=>qy ops y r)
 && (E.all fun e=>match ops[e]? with | some o=>!jW o | none=>false)
theorem xS3 {E R:List Nat}(hB:xMo ops E R=true):∀ (n:Nat) (L:Array Bool) (a:Act) (w:World),L.size=ops.size→kl ops L →
  (E.filter (unl L)).length+(R.filter (unl L)).length=n→(E.filter (unl L)≠[]→C w) →
  wpQuiet P ops C (fun a'=>wpF P ops Q C E (R.filter (unl L)).length (R.filter (unl L)) a' w) (zp ops (E.filter (unl L))) a→wpAny P .any ops (NoPanic Q) n L a w:=by
 simp only[xMo,Bool.and_eq_true,decide_eq_true_eq,List.all_eq_true] at hB
 obtain⟨⟨⟨⟨⟨⟨⟨⟨⟨hns,hnd⟩,hlen⟩,hcov⟩,hpE⟩,hpair⟩,hpR⟩,hpairR⟩,hapR⟩,hcalls⟩:=hB
 have hsel:=Region.noSelect_spec hns
 have hpair':=uH hpair
 have hpairR':=uH hpairR
 have hndE:E.Nodup:=(List.nodup_append.1 hnd).1
 have hndR:R.Nodup:=(List.nodup_append.1 hnd).2.1
 have hdis:∀ x,x∈E→x∈R→False:=fun x h1 h2=>(List.nodup_append.1 hnd).2.2 x h1 x h2 rfl
 have hget:∀ (l:List Nat) (e:Nat),ze ops l e=true→∃ o,ops[e]?=some o∧∀ x∈o.after,Region.binds .any x=true→x.on∈l∧x.on≠e:=by
  intro l e h
  unfold ze at h
  split at h
  ·rename_i o ho
   refine⟨o,ho,fun x hx hb=>?_⟩
   have h1:=(Array.all_eq_true_iff_forall_mem.1 h) x hx
   simp only[hb,Bool.not_true,Bool.false_or,Bool.and_eq_true,List.contains_iff_mem,bne_iff_ne] at h1
   exact h1
  ·cases h
 have hapart:∀ y e,qy ops y e=true→Region.waitsFor .any ops e y=false→∃ oy oe,ops[y]?=some oy∧ops[e]?=some oe∧oy.apart ops oe=true:=by
  intro y e h hw
  unfold qy at h
  rw[hw,Bool.false_or] at h
  split at h
  ·rename_i oy oe h1 h2
   exact⟨oy,oe,h1,h2,h⟩
  ·cases h
 have hinE:∀ x,x∈E→x<ops.size:=fun x hx=>by
  obtain⟨ox,hox,_⟩:=hget E x (hpE _ hx)
  exact(i_ hox).1
 have hinR:∀ x,x∈R→x<ops.size:=fun x hx=>by
  obtain⟨ox,hox,_⟩:=hget (E++R) x (hpR _ hx)
  exact(i_ hox).1
 have hun:∀ (L:Array Bool) (l:List Nat) (x:Nat),x∈l.filter (unl L)↔x∈l∧L.getD x true=false:=fun L l x=>by
  rw[List.mem_filter];simp only[unl,Bool.not_eq_true']
 intro n
 induction n with
 | zero =>
  intro L a w hsz hcl hn _ h
  have hE0:E.filter (unl L)=[]:=List.eq_nil_of_length_eq_zero (by omega)
  have hR0:R.filter (unl L)=[]:=List.eq_nil_of_length_eq_zero (by omega)
  rw[hE0,hR0] at h
  refine⟨?_,?_⟩
  ·rw[List.eq_nil_iff_forall_not_mem]
   intro i hi
   obtain⟨h1,o,ho,_⟩:=mem_ready.1 hi
   have hlt:=(i_ ho).1
   have hc:=hcov i (List.mem_range.2 hlt)
   simp only[Bool.or_eq_true,List.contains_iff_mem] at hc
   rcases hc with hc | hc
   ·have:i∈E.filter (unl L):=(hun L E i).2 ⟨hc,h1⟩
    rw[hE0] at this;cases this
   ·have:i∈R.filter (unl L):=(hun L R i).2 ⟨hc,h1⟩
    rw[hR0] at this;cases this
  ·exact h
 | succ n ih =>
  intro L a w hsz hcl hn hCw h
  have hsome:Region.ready .any ops L≠[]:=by
   cases hE':E.filter (unl L) with
   | cons e T =>
    have he:=(hun L E e).1 (by rw[hE'];simp)
    obtain⟨o,ho,hpre⟩:=hget E e (hpE e he.1)
    have hpw:=hpair'.filter (p:=unl L)
    rw[hE'] at hpw
    have:e∈Region.ready .any ops L:=mem_ready.2 ⟨he.2,o,ho,fun x hx hb=>by
     obtain⟨hxE,hxe⟩:=hpre x hx hb
     cases hlx:L.getD x.on false with
     | true=>rfl
     | false =>
      exfalso
      have hxm:x.on∈E.filter (unl L):=(hun L E _).2 ⟨hxE,getD_in (by rw[hsz];exact hinE _ hxE) hlx⟩
      rw[hE'] at hxm
      rcases List.mem_cons.1 hxm with h1 | h1
      ·exact hxe h1
      ·have h2:=(List.pairwise_cons.1 hpw).1 _ h1
       simp only[Bool.and_eq_true,Bool.not_eq_true'] at h2
       rw[uF ho hx hb rfl] at h2
       cases h2.1⟩
    intro h0;rw[h0] at this;cases this
   | nil =>
    cases hR':R.filter (unl L) with
    | nil=>rw[hE',hR'] at hn;simp at hn
    | cons r rest =>
     have hr:=(hun L R r).1 (by rw[hR'];simp)
     obtain⟨o,ho,hpre⟩:=hget (E++R) r (hpR r hr.1)
     have hpw:=hpairR'.filter (p:=unl L)
     rw[hR'] at hpw
     have:r∈Region.ready .any ops L:=mem_ready.2 ⟨hr.2,o,ho,fun x hx hb=>by
      obtain⟨hxE,hxe⟩:=hpre x hx hb
      cases hlx:L.getD x.on false with
      | true=>rfl
      | false =>
       exfalso
       rcases List.mem_append.1 hxE with h1 | h1
       ·have:x.on∈E.filter (unl L):=(hun L E _).2 ⟨h1,getD_in (by rw[hsz];exact hinE _ h1) hlx⟩
        rw[hE'] at this;cases this
       ·have hxm:x.on∈R.filter (unl L):=(hun L R _).2 ⟨h1,getD_in (by rw[hsz];exact hinR _ h1) hlx⟩
        rw[hR'] at hxm
        rcases List.mem_cons.1 hxm with h3 | h3
        ·exact hxe h3
        ·have h4:=(List.pairwise_cons.1 hpw).1 _ h3
         simp only[Bool.not_eq_true'] at h4
         rw[uF ho hx hb rfl] at h4
         cases h4⟩
     intro h0;rw[h0] at this;cases this
  refine⟨fun h0=>absurd h0 hsome,fun i hi=>?_⟩
  obtain⟨hiu,oi,hoi,hall⟩:=mem_ready.1 hi
  have hilt:=(i_ hoi).1
  have hcl':kl ops (L.setIfInBounds i true):=fun j oj hj hl e he hb=>by
   by_cases hij:i=j
   ·subst hij
    have:oj=oi:=Option.some.inj (hj.symm.trans hoi)
    subst this
    exact getD_set_true (hall e he hb)
   ·rw[getD_set_ne false hij] at hl
    exact getD_set_true (hcl j oj hj hl e he hb)
  have hc:=hcov i (List.mem_range.2 hilt)
  simp only[Bool.or_eq_true,List.contains_iff_mem] at hc
  rcases hc with hc | hc
  ·
   have himem:i∈E.filter (unl L):=(hun L E i).2 ⟨hc,hiu⟩
   obtain⟨E1,E2,hsplit⟩:=List.append_of_mem himem
   have hiR:i ∉ R:=fun h'=>hdis i hc h'
   have hpw:=hpair'.filter (p:=unl L)
   rw[hsplit] at hpw h
   have hap:∀ x∈E1,∃ ox,ops[x]?=some ox∧ox.apart ops oi=true:=by
    intro x hx
    have h2:=(List.pairwise_append.1 hpw).2.2 x hx i (by simp)
    simp only[Bool.and_eq_true,Bool.not_eq_true'] at h2
    have hxu:L.getD x true=false:=((hun L E x).1 (by rw[hsplit];simp[hx])).2
    obtain⟨oy,oe,h3,h4,h5⟩:=hapart x i h2.2 (yu hi hxu)
    have:oe=oi:=Option.some.inj (h4.symm.trans hoi)
    subst this
    exact⟨oy,h3,h5⟩
   have hq:=vV hoi hsel E1 E2 a hap h
   have hfs:=vF (by rw[hsz];exact hilt) hndE hsplit
   have hfR:=uC (L:=L) hiR
   have hCw':C w:=hCw (by rw[hsplit];simp)
   have hcall:jW oi=false:=by
    have:=hcalls i hc
    rw[hoi] at this
    simpa using this
   refine xFv hoi hcall hCw' (fun a' h'=>?_) hq
   refine ih (L.setIfInBounds i true) a' w (by simpa using hsz) hcl' ?_ (fun _=>hCw') ?_
   ·rw[hfs,hfR];rw[hsplit] at hn;simp only[List.length_append,List.length_cons] at hn ⊢;omega
   ·rw[hfs,hfR];exact h'
  ·
   have hiE:i ∉ E:=fun h'=>hdis i h' hc
   have himem:i∈R.filter (unl L):=(hun L R i).2 ⟨hc,hiu⟩
   obtain⟨R1,R2,hsplit⟩:=List.append_of_mem himem
   have hap:∀ x∈E.filter (unl L),∃ ox,ops[x]?=some ox∧ox.apart ops oi=true:=by
    intro x hx
    have hx':=(hun L E x).1 hx
    have h2:=hapR i hc x hx'.1
    obtain⟨oy,oe,h3,h4,h5⟩:=hapart x i h2 (yu hi hx'.2)
    have:oe=oi:=Option.some.inj (h4.symm.trans hoi)
    subst this
    exact⟨oy,h3,h5⟩
   have hrf:i∈kI ops (R.filter (unl L)):=by
    unfold kI
    rw[List.mem_filter,List.all_eq_true]
    refine⟨himem,fun s hs=>?_⟩
    rw[yu hi ((hun L R s).1 hs).2]
    rfl
   have hln:(R.filter (unl L)).length=(R1++R2).length+1:=by rw[hsplit];simp;omega
   have her:(R.filter (unl L)).erase i=R1++R2:=by
    rw[hsplit]
    exact xFj (by rw[←hsplit];exact hndR.filter _)
   have h1:wpQuiet P ops C (fun a'=>wpOp P ops (NoPanic Q) i (fun a' w'=>(zQ ops E i=true→C w')∧wpF P ops Q C E (R1++R2).length (R1++R2) a' w') a' w) (zp ops (E.filter (unl L))) a:=by
    refine yP (fun a'' h''=>?_) _ _ h
    rw[hln] at h''
    have:=h'' i hrf
    rw[her] at this
    exact this
   have h2:=kz hoi hsel (E.filter (unl L)) a hap h1
   have hfs:=uC (L:=L) hiE
   have hfR:=vF (by rw[hsz];exact hilt) hndR hsplit
   have hneed:E.filter (unl L)≠[]→zQ ops E i=true:=by
    intro hne
    cases hq:zQ ops E i with
    | true=>rfl
    | false =>
     exfalso
     unfold zQ at hq
     simp only[Bool.not_eq_false',List.all_eq_true] at hq
     obtain⟨e,he⟩:=List.exists_mem_of_ne_nil _ hne
     have he':=(hun L E e).1 he
     have h4:=qM hcl ops.size i e (fun o ho=>by
      have:o=oi:=Option.some.inj (ho.symm.trans hoi)
      subst this;exact hall) (hq e he'.1)
     rw[getD_both he'.2] at h4
     cases h4
   refine wpOp_mono (fun a' w' h3=>?_) h2
   refine ih (L.setIfInBounds i true) a' w' (by simpa using hsz) hcl' ?_ (fun hne=>?_) ?_
   ·rw[hfs,hfR];rw[hln] at hn;omega
   ·rw[hfs] at hne
    exact(qO _ _ h3) (hneed hne)
   ·rw[hfs,hfR]
    exact yP (fun a'' h''=>h''.2) _ _ h3
theorem j9 {id:Nat}{a:Act}{w:World}(E R:List Nat)(n:Nat)(C:World→Prop)(hm:P.follows .mixedOrders=true)(hB:xMo ops E R=true)(hn:R.length=n)(hC:C w.drew)
  (h:wpQuiet P ops C (fun a'=>wpF P ops Q C E n R a' w.drew) (zp ops E) a):(Code.region id ops true).wp P Q a w:=by
 refine wp_region_noPanic (wp_region_any hm ?_)
 have hB0:=hB
 simp only[xMo,Bool.and_eq_true,decide_eq_true_eq,List.all_eq_true] at hB
 obtain⟨⟨⟨⟨⟨⟨⟨⟨⟨hns,hnd⟩,hlen⟩,hcov⟩,hpE⟩,hpair⟩,hpR⟩,hpairR⟩,hapR⟩,hcalls⟩:=hB
 have hlt:∀ l i,ze ops l i=true→i<ops.size:=by
  intro l i hcov
  unfold ze at hcov
  split at hcov
  ·rename_i o ho;exact(i_ ho).1
  ·cases hcov
 have hall:E.filter (unl (Array.replicate ops.size false))=E:=by
  rw[List.filter_eq_self]
  intro i hi
  simp[unl,hlt E i (hpE i hi)]
 have hallR:R.filter (unl (Array.replicate ops.size false))=R:=by
  rw[List.filter_eq_self]
  intro i hi
  simp[unl,hlt _ i (hpR i hi)]
 refine xS3 hB0 ops.size (Array.replicate ops.size false) a w.drew (by simp) (fun j oj _ hl=>by rw[getD_replicate_false] at hl;cases hl) (by rw[hall,hallR];exact hlen) (fun _=>hC) ?_
 rw[hall,hallR,hn]
 exact h
end
end Go.Proofs.YthiafifdiaplaaaGreatDoor
