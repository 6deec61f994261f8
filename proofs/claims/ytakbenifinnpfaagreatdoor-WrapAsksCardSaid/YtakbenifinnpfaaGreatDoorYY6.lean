import Derived.Test.YtakbenifinnpfaaGreatDoorYY5
import Derived.Lib.AppendIntMem
import Derived.Lib.ItoaLen
import Derived.Lib.QuoteLoop
set_option linter.unusedSimpArgs false
set_option linter.unusedVariables false
set_option maxRecDepth 100000
set_option maxHeartbeats 64000000
namespace Go.Proofs.YtakbenifinnpfaaGreatDoor
open Go.RowKit Go.Sub Go.Sort
theorem hW9{α:Type}[BEq α][LawfulBEq α]{a b:α}(h:¬a=b):(a==b)=false:=beq_eq_false_iff_ne.2 h
abbrev bR9:=@bodyPost_ret
theorem qkd:∀(n m:qb) (u v:Value) (w:World) (S S':Nat→Prop),qo w S u n.kids→qo w S' v m.kids→
  Calls Tryz.prog 18 #[qbQ n u,qbQ m v] w fun e w'=>e=.returned (.bool (eqN n m))∧Below w.heap.size w w':=by
 refine qb.ind fun n ih=>?_
 intro m u v w S S' hu hv
 obtain⟨pu,cu,rfl,lu⟩:=hu.shape
 obtain⟨pv,cv,rfl,lv⟩:=hv.shape
 obtain⟨k,t,l⟩:=n
 obtain⟨k',t',l'⟩:=m
 have IH:=qh ih
 unfold qbQ
 simp only[qb.kind_mk,qb.text_mk,qb.kids_mk] at*
 obtain⟨x1,x2,x3⟩:=qg7 w k t (.slice pu l.length cu) 24
 obtain⟨y1,y2,y3⟩:=qg7 (w.alloc (.cells #[.int .i64 k,.string t,.slice pu l.length cu] 24)) k' t' (.slice pv l'.length cv) 24
 replace x1:=x1.stays y2
 have hB:=x2.trans (y2.mono (by omega))
 rw[x3] at y1
 have HU:=qh (hu.stays hB)
 have HV:=qh (hv.stays hB)
 have HB:=qh hB
 have X1:=qh x1
 have Y1:=qh y1
 clear ih hu hv x1 x2 x3 y1 y2 y3 hB
 by_cases hk:k=k'
 ·by_cases ht:t.toList=t'.toList
  ·by_cases hl:l.length=l'.length
   ·obtain rfl:=qhY ht
    subst hk
    have HL:=qh hl
    have y0:((l.length:Int) != (l'.length:Int))=false:=by rw[bne_eq_false_iff_eq];omega
    clear hl ht
    go_enter Tryz.func18,Tryz.ntmps18
    go_wp2
    clear y0
    generalize (w.alloc (.cells #[.int .i64 k,.string t,.slice pu l.length cu] 24)).alloc (.cells #[.int .i64 k,.string t,.slice pv l'.length cv] 24)=W1 at*
    go_loopw [5] (fun i wr=>∃j:Nat,j≤l.length∧i=.int .i64 j∧Hid (l.take j=l'.take j)∧Hid (Below W1.heap.size W1 wr)) (fun i _=>l.length- (intOf i).toNat)
    case atStart=>exact⟨0,Nat.zero_le _,rfl,qh rfl,qh (Below.refl _ _)⟩
    case round=>
     obtain⟨j,hj,rfl,HE,HW⟩:=hrel
     obtain⟨-,-,xc⟩:=(X1.out.stays HW.out).zero
     obtain⟨-,-,yc⟩:=(Y1.out.stays HW.out).zero
     by_cases hlt:j<l.length
     ·have hlt':j<l'.length:=by have:=HL.out;omega
      have hx:=List.getElem?_eq_getElem hlt
      have hy:=List.getElem?_eq_getElem hlt'
      obtain⟨b,o,ux,rfl,-,a1,ax⟩:=HU.out.kid hx
      obtain⟨b',o',uy,rfl,-,a2,ay⟩:=HV.out.kid hy
      obtain⟨c0,c1,c2⟩:=a1.stays HW.out
      obtain⟨d0,d1,d2⟩:=a2.stays HW.out
      have hcall:=fun d os=>IH.out (l[j]) (List.getElem_mem hlt) (l'[j]) ux uy (grow (redrawn wr d) os) S S' ((ax.stays HW.out).stays (below_regrown wr d os)) ((ay.stays HW.out).stays (below_regrown wr d os))
      have hsnoc:=fun e=>qib HE.out hx hy e
      generalize l[j]=x at*
      generalize l'[j]=y at*
      unfold qbQ at hcall
      have Hc:=qh hcall
      have Hx:=qh hx
      have Hy:=qh hy
      have Hs:=qh hsnoc
      have Ha:=qh ax
      have Hb:=qh ay
      have gx:=cell_regrown xc
      have gy:=cell_regrown yc
      have e0:=cell_regrown c0
      have e1:=cell_regrown c1
      have e2:=cell_regrown c2
      have e3:=cell_regrown d0
      have e4:=cell_regrown d1
      have e5:=cell_regrown d2
      clear hcall hx hy hsnoc ax ay a1 a2
      go_wp2
      refine wp_region_quiet_below (by kernel_rfl) (by kernel_rfl) ?_
      repeat (quiet_step (exact Calls.regrown_of (Hc.out _ _)))
      refine wpQuiet_nil ?_
      rintro _ ⟨p,rfl⟩
      clear gx gy e0 e1 e2 e3 e4 e5 c0 c1 c2 d0 d1 d2 xc yc Hc
      have HW2:=qh (HW.out.trans ((below_regrown wr p.d p.os).mono HW.out.size))
      generalize grow (redrawn wr p.d) p.os=w2 at*
      clear HW
      cases hxy:eqN x y
      ·have hne:qb.mk k t l≠qb.mk k t l':=fun e=>by
        have e2:l=l':=by injection e
        have e3:x=y:=by have:=Hx.out;rw[e2,Hy.out] at this;exact(Option.some.inj this).symm
        rw[(qct x y).2 e3] at hxy;cases hxy
       go_wp2
       go_ret
       rw[qfV hne]
       exact⟨rfl,HB.out.trans (HW2.out.mono HB.out.size)⟩
      ·have hs:=Hs.out ((qct x y).1 hxy)
       have HS:=qh hs
       clear hs
       go_wp2
       go_roundw
       case rel=>exact⟨j+1,by omega,by go_num,HS,HW2⟩
       case measure=>simp[intOf];omega
     ·have hll:l=l':=by
       have h1:=HE.out
       rw[List.take_of_length_le (by omega),List.take_of_length_le (by have:=HL.out;omega)] at h1
       exact h1
      have HLL:=qh hll
      clear hll
      go_wp2
      go_ret
      rw[(qct (.mk k t l) (.mk k t l')).2 (by rw[HLL.out])]
      exact⟨rfl,HB.out.trans (HW.out.mono HB.out.size)⟩
   ·have hne:qb.mk k t l≠qb.mk k' t' l':=fun e=>hl (by injection e with _ _ e;rw[e])
    rw[qfV hne]
    obtain rfl:=qhY ht
    subst hk
    have y0:((l.length:Int) != (l'.length:Int))=true:=by rw[bne_iff_ne];omega
    clear hne hl ht
    go_enter Tryz.func18,Tryz.ntmps18
    go_wp2
    go_ret
    exact⟨rfl,HB.out⟩
  ·have hne:qb.mk k t l≠qb.mk k' t' l':=fun e=>ht (by injection e with _ e _;rw[e])
   rw[qfV hne]
   subst hk
   clear hne
   go_enter Tryz.func18,Tryz.ntmps18
   go_wp2
   all_goals go_ret
   all_goals exact⟨rfl,HB.out⟩
 ·have hne:qb.mk k t l≠qb.mk k' t' l':=fun e=>hk (by injection e)
  rw[qfV hne]
  clear hne
  go_enter Tryz.func18,Tryz.ntmps18
  go_wp2
  all_goals go_ret
  all_goals exact⟨rfl,HB.out⟩
theorem qiI:∀(n:qb) (u:Value) (m:Int) (w:World) (S:Nat→Prop),qo w S u n.kids→qcQ n≤140737488355328→m≤1000→0≤m→
  Calls Tryz.prog 19 #[qbQ n u,.int .i64 m] w fun e w'=>e=.returned (.int .i64 (Sub.qaV n m))∧Below w.heap.size w w':=by
 refine qb.ind fun n ih=>?_
 intro u m w S hu ht hm hm0
 obtain⟨pu,cu,rfl,lu⟩:=hu.shape
 obtain⟨k,t,l⟩:=n
 have IH:=qh ih
 unfold qbQ
 simp only[qb.kind_mk,qb.text_mk,qb.kids_mk] at*
 obtain⟨x1,x2,x3⟩:=qg7 w k t (.slice pu l.length cu) 24
 have HU:=qh (hu.stays x2)
 have HB:=qh x2
 have X1:=qh x1
 clear ih hu x1 x2 x3
 rw[Sub.qaV]
 rw[qcQ] at ht
 have hts:(t.size:Int)≤140737488355328:=by omega
 have htl:qdw l≤140737488355328:=by omega
 clear ht
 go_enter Tryz.func19,Tryz.ntmps19
 go_wp2
 generalize w.alloc (.cells #[.int .i64 k,.string t,.slice pu l.length cu] 24)=W1 at*
 have hm2:m- (1+(t.size:Int))≤1000:=by omega
 generalize hmm:m- (1+(t.size:Int))=m1 at*
 have HM:=qh hmm
 clear hm hm0 hmm
 go_loopw [1,5] (fun c i wr=>∃j:Nat,j≤l.length∧i=.int .i64 j∧c=.int .i64 (qav (l.take j) m1)∧Hid (Below W1.heap.size W1 wr)) (fun _ i _=>l.length- (intOf i).toNat)
 case atStart=>exact⟨0,Nat.zero_le _,rfl,by simp[qav],qh (Below.refl _ _)⟩
 case round=>
  obtain⟨j,hj,rfl,rfl,HW⟩:=hrel
  obtain⟨-,-,xc⟩:=(X1.out.stays HW.out).zero
  have hlow:=qdx (l.take j) m1
  by_cases hlt:j<l.length
  ·by_cases h0:0≤qav (l.take j) m1
   ·have hx:=List.getElem?_eq_getElem hlt
    obtain⟨b,o,ux,rfl,-,a1,ax⟩:=HU.out.kid hx
    obtain⟨c0,c1,c2⟩:=a1.stays HW.out
    have hs:=qk9 l j hx m1 h0
    have hcall:=IH.out (l[j]) (List.getElem_mem hlt) ux (qav (l.take j) m1) wr S (ax.stays HW.out) (by have:=ql8 (List.getElem_mem hlt);omega) (by omega) h0
    generalize l[j]=x at*
    unfold qbQ at hcall
    rw[←hs] at hcall
    have Hc:=qh hcall
    clear hcall hx ax a1 hs hlow
    generalize qav (l.take j) m1=cj at*
    go_wp2_with(go_at_call 19;refine(Hc.out).mono ?_;rintro e w2 ⟨rfl,hb⟩;have HW2:=qh (HW.out.trans (hb.mono HW.out.size));clear hb)
    go_roundw
    case rel=>exact⟨j+1,by omega,by go_num,rfl,HW2⟩
    case measure=>simp[intOf];omega
   ·have hs:=qjM l j m1 (by omega)
    have Hs:=qh hs
    clear hs
    generalize qav (l.take j) m1=cj at*
    go_wp2
    go_ret
    rw[HM.out,Hs.out]
    exact⟨rfl,HB.out.trans (HW.out.mono HB.out.size)⟩
  ·obtain rfl:j=l.length:=by omega
   have hl:qav (l.take l.length) m1=qav l m1:=by rw[List.take_length]
   have HL:=qh hl
   clear hl
   generalize qav (l.take l.length) m1=dl at*
   go_wp2
   go_ret
   rw[HM.out,←HL.out]
   exact⟨rfl,HB.out.trans (HW.out.mono HB.out.size)⟩
theorem qkr:(Tryz.prog.info? 24).map (fun i=>(i.zero,i.size,i.bytes))=some (some (.agg #[.int .i64 0,.string ByteArray.empty,.slice none 0 0]),3,48):=by kernel_rfl
theorem qfY:Tryz.prog.underlying 22=some (.slice 24):=by kernel_rfl
def qab(w:World)(S:Nat→Prop)(v:Value)(xs:List Int):Prop:=∃p cap b o,v=.slice p xs.length cap∧(0<xs.length→p=some ⟨b,o,none⟩∧S b)∧xs.length≤4611686018427387904∧∀(i:Nat) x,xs[i]? =some x→w.cell? ⟨b,o+i,none⟩=some (.int .i64 x)
def intC(xs:List Int):List Value:=xs.map fun x=>.int .i64 x
theorem qab.keep{w w':World}{S S':Nat→Prop}{v:Value}{xs:List Int}(h:qab w S v xs)(hc:∀b o c,S b→w.cell? ⟨b,o,none⟩=some c→w'.cell? ⟨b,o,none⟩=some c)(hS:∀b,S b→S' b):qab w' S' v xs:=by
 obtain⟨p,cap,b,o,e,hp,hl,hx⟩:=h
 refine⟨p,cap,b,o,e,fun h=>⟨(hp h).1,hS _ (hp h).2⟩,hl,fun i x hi=>hc _ _ _ (hp ?_).2 (hx i x hi)⟩
 have:=(List.getElem?_eq_some_iff.1 hi).1;omega
theorem qab.stays{w w':World}{S:Nat→Prop}{v:Value}{xs:List Int}(h:qab w S v xs)(hb:Below w.heap.size w w'):qab w' S v xs:=
 h.keep (fun b o _ _ hc=>(hb.cell (p:=⟨b,o,none⟩) (World.block_lt_of_cell? _ _ hc)).trans hc) fun _ h=>h
theorem qab.keeps{w w':World}{S O:Nat→Prop}{v:Value}{xs:List Int}(h:qab w S v xs)(hk:qe O w w')(hO:∀b,S b→¬O b):qab w' S v xs:=
 h.keep (fun _ _ _ hs hc=>hk.cell hc (hO _ hs)) fun _ h=>h
theorem qab.mono{w:World}{S S':Nat→Prop}{v:Value}{xs:List Int}(h:qab w S v xs)(hS:∀b,S b→S' b):qab w S' v xs:=h.keep (fun _ _ _ _ h=>h) hS
theorem qab.of_own{w:World}{base:Nat}{e:TypeId}{v:Value}{xs:List Int}{S:Nat→Prop}(h:w.ownsRow base e 1 v xs.length (intC xs))(hl:xs.length≤4611686018427387904)(hS:∀g,some g=v.ownBlock→S g):qab w S v xs:=by
 rcases h.2 with⟨rfl,h0⟩|⟨g,cap,cur,rfl,hb,hg,hnc,hcm,hcs,htake⟩
 ·have:xs=[]:=List.eq_nil_of_length_eq_zero h0
  subst this
  exact⟨none,0,0,0,rfl,fun h=>absurd h (by simp),hl,fun i x h=>by simp at h⟩
 ·refine⟨_,cap,g,0,rfl,fun _=>⟨rfl,hS g rfl⟩,hl,fun i x hx=>?_⟩
  have hc:(intC xs)[i]? =some (.int .i64 x):=by unfold intC;rw[List.getElem?_map,hx];rfl
  have hx:=(World.ownsRow.cells (g:=g) h rfl) i _ hc
  rwa [qcu,show i=0+i by omega] at hx
theorem qab.shape{w:World}{S:Nat→Prop}{v:Value}{xs:List Int}(h:qab w S v xs):∃p cap,v=.slice p xs.length cap∧xs.length≤4611686018427387904:=by
 obtain⟨p,cap,b,o,e,hp,hl,hx⟩:=h;exact⟨p,cap,e,hl⟩
theorem qab.at{w:World}{S:Nat→Prop}{p:Option Addr}{n cap:Nat}{xs:List Int}(h:qab w S (.slice p n cap) xs){i:Nat}{x:Int}(hi:xs[i]? =some x):∃b o,p=some ⟨b,o,none⟩∧S b∧w.cell? ⟨b,o+i,none⟩=some (.int .i64 x):=by
 obtain⟨p',cap',b,o,e,hp,hl,hx⟩:=h
 cases e
 have:=hp (by have:=(List.getElem?_eq_some_iff.1 hi).1;omega)
 exact⟨b,o,this.1,this.2,hx i x hi⟩
end Go.Proofs.YtakbenifinnpfaaGreatDoor
namespace Go.Sub
def zs(p:List Nat):List Int:=p.map fun(i:Nat)=>(i:Int)
@[simp] theorem zs_nil:zs []=[]:=rfl
@[simp] theorem zs_cons (i:Nat) (p:List Nat):zs (i::p)=(i:Int)::zs p:=rfl
theorem qj8(n:qb):atN n []=some n:=by rw[atN]
theorem qef(n:qb)(i:Int)(p:List Int):atN n (i::p)=if 0≤i then(n.kids[i.toNat]?).bind (fun k=>atN k p) else none:=by
 rw[atN];split
 ·split<;>rename_i h<;>rw[h]<;>rfl
 ·rfl
theorem qkN(n x:qb):qfn n [] x=some x:=by rw[qfn]
def qfg(T:List ByteArray)(n:qb):Prop:=∀(p:List Int) m,atN n p=some m→0≤m.kind∧m.kind≤255∧m.text∈T
theorem qfg.kid{T:List ByteArray}{n x:qb}(h:qfg T n)(hx:x∈n.kids):qfg T x:=by
 intro p m hm
 obtain⟨i,hi,rfl⟩:=List.getElem_of_mem hx
 refine h ((i:Int)::p) m ?_
 rw[qef,if_pos (by omega),Int.toNat_natCast,List.getElem?_eq_getElem hi]
 exact hm
theorem qfg.mk{T:List ByteArray}{n:qb}(h:0≤n.kind∧n.kind≤255∧n.text∈T)(hk:∀x∈n.kids,qfg T x):qfg T n:=by
 intro p m hm
 cases p with
 |nil=>rw[qj8] at hm;cases hm;exact h
 |cons i p=>
  rw[qef] at hm
  split at hm
  ·cases hkk:n.kids[i.toNat]? with
   |none=>rw[hkk] at hm;cases hm
   |some k=>rw[hkk] at hm;exact hk k (List.mem_of_getElem? hkk) p m hm
  ·cases hm
end Go.Sub
namespace Go.Proofs.YtakbenifinnpfaaGreatDoor
open Go.RowKit Go.Sub Go.Sort
def zeroN:qb:=.mk 0 ⟨#[]⟩ []
structure qjz(W:World)(Q:Nat→Prop)(B:Nat)(n:qb)(path:List Int)(j b o:Nat)(m:qb)(um:Value)(S:Nat→Prop)(f:qb→qb):Prop where
 cells:qa5 W b o m.kind m.text um
 kids:qG W S um m.kids
 off:¬S b
 sub:∀c,S c→Q c
 base:Q b
 loose:qaE W b
 hole:Hole W Q b o S (fun w' y=>qi8 w' Q B 0 y) f
 rest:∀x,qfn n path x=(qfn m (path.drop j) x).map f
theorem qjz.put{W W2:World}{Q:Nat→Prop}{B:Nat}{n:qb}{path:List Int}{j b o:Nat}{m:qb}{um:Value}{S:Nat→Prop}{f:qb→qb}(h:qjz W Q B n path j b o m um S f)(hj:path.length≤j)(hb:Below W.heap.size W W2){x:qb}{u:Value}(hx:qG W2 (fun c=>W.heap.size≤c∧c<W2.heap.size) u x.kids)(hQ:∀c,W.heap.size≤c→Q c)
  {W3:World}(hW:((W2.setCell ⟨b,o,none⟩ (.int .i64 x.kind)).setCell ⟨b,o+1,none⟩ (.string x.text)).setCell ⟨b,o+2,none⟩ u=W3):
  qfn n path x=some (f x)∧qi8 W3 Q B 0 (f x)∧qe (fun d=>d=b) W2 W3∧W3.heap.size=W2.heap.size:=by
 have hl:=h.cells.lt
 obtain⟨⟨p0,p1,p2⟩,hk,hK,hs,_⟩:=Go.Sub.put3 W2 b o (h.cells.stays hb) (h.loose.stays hb) (.int .i64 x.kind) (.string x.text) u W3 hW
 refine⟨?_,?_,hK,hs⟩
 ·rw[h.rest,List.drop_of_length_le hj,qkN];rfl
 ·refine h.hole W3 x (fun c q v h1 h2 hc=>hk c q v h1 ((hb.cell (p:=⟨c,q,none⟩) (World.block_lt_of_cell? _ _ hc)).trans hc)) ⟨u,⟨p0,p1,p2⟩,?_⟩
  refine(hx.keeps hK fun c hc e=>?_).at.mono fun c hc=>hQ c hc.1
  have:=hc.1
  omega
end Go.Proofs.YtakbenifinnpfaaGreatDoor
namespace Go.Proofs.YtakbenifinnpfaaGreatDoor
open Go.RowKit Go.Sub
attribute [local go_sem] Oper.semAt_some
abbrev PathV:=Value×List Int
def pathG(x:PathV)(b:Nat):Prop:=some b=x.1.ownBlock
theorem qab.within{w:World}{S:Nat→Prop}{v:Value}{xs:List Int}(h:qab w S v xs):qab w (fun b=>S b∧b<w.heap.size) v xs:=by
 obtain⟨p,cap,b,o,e,hp,hl,hx⟩:=h
 refine⟨p,cap,b,o,e,fun h0=>⟨(hp h0).1,(hp h0).2,?_⟩,hl,hx⟩
 exact World.block_lt_of_cell? _ _ (hx 0 xs[0] (List.getElem?_eq_getElem h0))
structure ColSt(w:World)(B:Nat)(pre:List PathV)(O:Nat→Prop)(W:World)(v:Value):Prop where
 own:∀b,O b↔(b=B∨some b=v.ownBlock∨∃x∈pre,pathG x b)
 box:Boxed W B 35 v
 row:W.ownsRow w.heap.size 49 1 v pre.length (pre.map fun x=>x.1)
 ints:∀x∈pre,qab W (fun b=>pathG x b∧w.heap.size≤b) x.1 x.2
 apart:∀x∈pre,∀b,pathG x b→w.heap.size≤b∧b<W.heap.size∧some b≠v.ownBlock∧b≠B
 bel:Below w.heap.size w W
theorem ColSt.keep{w:World}{B:Nat}{pre:List PathV}{O X:Nat→Prop}{A A':World}{v:Value}(h:ColSt w B pre O A v)(hk:qe X A A')(hX:∀b,X b→¬O b∧w.heap.size≤b):ColSt w B pre O A' v where
 own:=h.own
 box:=qiS h.box hk fun e=>(hX _ e).1 ((h.own _).2 (.inl rfl))
 row:=qr h.row hk fun g hg e=>(hX _ e).1 ((h.own _).2 (.inr (.inl hg)))
 ints:=fun x hx=>(h.ints x hx).keeps hk fun b hb e=>(hX _ e).1 ((h.own _).2 (.inr (.inr ⟨x,hx,hb.1⟩)))
 apart:=fun x hx b hb=>by
  obtain⟨a1,a2,a3⟩:=h.apart x hx b hb
  exact⟨a1,Nat.lt_of_lt_of_le a2 hk.size,a3⟩
 bel:=h.bel.trans (hk.below h.bel.size fun b hb=>(hX b hb).2)
end Go.Proofs.YtakbenifinnpfaaGreatDoor
namespace Go.Proofs.YtakbenifinnpfaaGreatDoor
open Go.RowKit Go.Sub Go.Sort
def qh7(k:Int):Prop:= -9223372036854775808≤k∧k≤9223372036854775807
def qfd(n:qb):Prop:=∀(p:List Int) m,atN n p=some m→qh7 m.kind
theorem qfd.kid{n x:qb}(h:qfd n)(hx:x∈n.kids):qfd x:=by
 intro p m hm
 obtain⟨i,hi,rfl⟩:=List.getElem_of_mem hx
 refine h ((i:Int)::p) m ?_
 rw[qef,if_pos (by omega),Int.toNat_natCast,List.getElem?_eq_getElem hi]
 exact hm
end Go.Proofs.YtakbenifinnpfaaGreatDoor
namespace Go.Sub
def qgQ:List ByteArray:=[⟨#[]⟩,⟨#[97]⟩,⟨#[124]⟩,⟨#[36,120]⟩,⟨#[46]⟩,⟨#[101,108,115,101]⟩,⟨#[98,48]⟩,⟨#[10]⟩]
def qN(k:Nat):ByteArray:=qgQ.getD k ⟨#[]⟩
def qc6(l:List qb)(b:UInt8):Nat:=min (b.toNat/8%4) l.length
def qcr(l:List qb)(a b:UInt8):List qb:=
 l.take (l.length-qc6 l b)++[.mk (a.toNat%40:Nat) (qN (b.toNat%8)) (l.drop (l.length-qc6 l b))]
def qaA(c:List UInt8):Nat→List qb
 |0=>[.mk 1 ⟨#[]⟩ []]
 |j+1=>qcr (qaA c j) (c.getD (2*j) 0) (c.getD (2*j+1) 0)
def qa3(c:List UInt8):Nat:=min 30 (c.length/2)
def qfe(c:List UInt8):qb:=.mk 10 ⟨#[]⟩ (qaA c (qa3 c))
theorem qmk(l:List qb)(b:UInt8):qc6 l b≤l.length:=Nat.min_le_right _ _
theorem qic(l:List qb)(a b:UInt8):(qcr l a b).length =l.length-qc6 l b+1:=by
 unfold qcr;rw[List.length_append,List.length_take,List.length_singleton];omega
theorem qeX(c:List UInt8):∀j,1≤(qaA c j).length ∧(qaA c j).length ≤j+1
 |0=>by simp[qaA]
 |j+1=>by
  have:=qeX c j
  rw[qaA,qic];omega
theorem qgg(l:List qb)(a b:UInt8):qao (qcr l a b)=qao l+1:=by
 unfold qcr
 rw[qeq]
 have h:=qeq (l.take (l.length-qc6 l b)) (l.drop (l.length-qc6 l b))
 rw[List.take_append_drop] at h
 simp only[qao,qT];omega
theorem qeJ(c:List UInt8):∀j,qao (qaA c j)=j+1
 |0=>by simp[qaA,qao,qT]
 |j+1=>by rw[qaA,qgg,qeJ c j]
theorem qjI(c:List UInt8):qT (qfe c)≤32:=by
 unfold qfe;rw[qT,qeJ];unfold qa3;omega
end Go.Sub
namespace Go.Proofs.YtakbenifinnpfaaGreatDoor
open Go.RowKit Go.Sub Go.Sort
def qcC(w:World)(v:Value)(c:List UInt8):Prop:=∃p cap b o,v=.slice p c.length cap∧(0<c.length→p=some ⟨b,o,none⟩)∧c.length≤9223372036854775807∧∀(i:Nat) x,c[i]? =some x→w.cell? ⟨b,o+i,none⟩=some (.int .u8 (x.toNat:Int))
theorem qcC.stays{w w':World}{v:Value}{c:List UInt8}(h:qcC w v c)(hb:Below w.heap.size w w'):qcC w' v c:=by
 obtain⟨p,cap,b,o,e,hp,hl,hx⟩:=h
 exact⟨p,cap,b,o,e,hp,hl,fun i x hi=>(hb.cell (p:=⟨b,o+i,none⟩) (World.block_lt_of_cell? _ _ (hx i x hi))).trans (hx i x hi)⟩
theorem qgo:∀(l:List qb) (us:List Value) (d:Nat),us.length=l.length→(qF l us).take (d*3)=qF (l.take d) (us.take d)
 |[],us,d,h=>by
  have:us=[]:=List.eq_nil_of_length_eq_zero h
  subst this;simp[qF]
 |x::r,[],d,h=>by simp at h
 |x::r,u::us,0,h=>by simp[qF]
 |x::r,u::us,d+1,h=>by
  rw[show(d+1)*3=d*3+3 by omega]
  simp only[qF,List.take_succ_cons,qgo r us d (by simpa using h)]
theorem qgn:∀(l:List qb) (us:List Value) (d:Nat),us.length=l.length→(qF l us).drop (d*3)=qF (l.drop d) (us.drop d)
 |[],us,d,h=>by
  have:us=[]:=List.eq_nil_of_length_eq_zero h
  subst this;simp[qF]
 |x::r,[],d,h=>by simp at h
 |x::r,u::us,0,h=>by simp
 |x::r,u::us,d+1,h=>by
  rw[show(d+1)*3=d*3+3 by omega]
  simp only[qF,List.drop_succ_cons,qgn r us d (by simpa using h)]
theorem qiy{w:World}{base:Nat}{e:TypeId}{size:Nat}{g n cap:Nat}{xs:List Value}(h:w.ownsRow base e size (.slice (some ⟨g,0,none⟩) n cap) n xs)(d:Nat)(hd:d≤n):w.ownsRow base e size (.slice (some ⟨g,0,none⟩) d cap) d (xs.take (d*size)):=by
 obtain⟨hl,h⟩:=h
 refine⟨by rw[List.length_take,hl,Nat.min_eq_left (Nat.mul_le_mul_right _ hd)],?_⟩
 rcases h with⟨h,_⟩|⟨g',cap',cur,e1,e2,e3,e4,e5,e6,e7⟩
 ·cases h
 ·cases e1
  exact .inr ⟨g,cap,cur,rfl,e2,e3,Nat.le_trans hd e4,e5,e6,by rw[←e7,List.take_take,Nat.min_eq_left (Nat.mul_le_mul_right _ hd)]⟩
structure qfm(w:World)(l:List qb)(v:Value)(us:List Value)(wr:World):Prop where
 own:wr.ownsRow (w.heap.size+1) 24 3 v l.length (qF l us)
 len:us.length=l.length
 kids:∀(i:Nat) x u,l[i]? =some x→us[i]? =some u→qo wr (fun b=>w.heap.size<b∧b<wr.heap.size∧some b≠v.ownBlock) u x.kids
 txt:wr.heap[w.heap.size+2]? =some (.cells ((qgQ.map Value.string).toArray) 9 (0,0))
 off:some (w.heap.size+2)≠v.ownBlock
 box:NBox wr w.heap.size 24 0 ⟨#[]⟩ (.slice none 0 0)
 bel:Below w.heap.size w wr
theorem qfm.one{w:World}{l:List qb}{v:Value}{us:List Value}{wr:World}(h:qfm w l v us wr):∀u∈us,u.oneCell'=true:=by
 intro u hu
 obtain⟨i,hi,rfl⟩:=List.getElem_of_mem hu
 have hl:i<l.length:=by have:=h.len;omega
 obtain⟨p,c,e,_⟩:=(h.kids i l[i] us[i] (List.getElem?_eq_getElem hl) (List.getElem?_eq_getElem hi)).shape
 rw[e];rfl
def qi7(w:World)(c:List UInt8)(e:Ending)(w':World):Prop:=∃u,e=.returned (qbQ (qfe c) u)∧qo w' (fun b=>w.heap.size≤b) u (qfe c).kids ∧Below w.heap.size w w'
theorem qjR(c:List UInt8)(v:Value)(w:World)(hv:qcC w v c):
  Calls Tryz.prog 9 #[v] w (qi7 w c):=by
 obtain⟨pc,cc,bc,oc,rfl,hpc,hlc,hcc⟩:=hv
 have HP:=qh hpc
 have HC:=qh hcc
 clear hpc hcc
 go_enter Tryz.func9,Tryz.ntmps9
 go_wp2
 have hst:qfm w (qaA c 0) (.slice (some ⟨w.heap.size+1,0,none⟩) 1 1) [.slice none 0 0] (((w.alloc (.cells #[.int .i64 0,.string ⟨#[]⟩,.slice none 0 0] 24)).alloc (.cells #[.int .i64 1,.string ⟨#[]⟩,.slice none 0 0] 24)).alloc (.cells #[.string ⟨#[]⟩,.string ⟨#[97]⟩,.string ⟨#[124]⟩,.string ⟨#[36,120]⟩,.string ⟨#[46]⟩,.string ⟨#[101,108,115,101]⟩,.string ⟨#[98,48]⟩,.string ⟨#[10]⟩] 9)):=by
  have b1:=World.alloc_heap_new (w.alloc (.cells #[.int .i64 0,.string ⟨#[]⟩,.slice none 0 0] 24)) (.cells #[.int .i64 1,.string ⟨#[]⟩,.slice none 0 0] 24)
  have b0:=(qiA w 24 0 ⟨#[]⟩ (.slice none 0 0)).stays (((Below.refl _ _).alloc (Nat.le_refl _) (.cells #[.int .i64 1,.string ⟨#[]⟩,.slice none 0 0] 24)).alloc (by simp) (.cells #[.string ⟨#[]⟩,.string ⟨#[97]⟩,.string ⟨#[124]⟩,.string ⟨#[36,120]⟩,.string ⟨#[46]⟩,.string ⟨#[101,108,115,101]⟩,.string ⟨#[98,48]⟩,.string ⟨#[10]⟩] 9))
  have b2:=World.alloc_heap_new ((w.alloc (.cells #[.int .i64 0,.string ⟨#[]⟩,.slice none 0 0] 24)).alloc (.cells #[.int .i64 1,.string ⟨#[]⟩,.slice none 0 0] 24)) (.cells #[.string ⟨#[]⟩,.string ⟨#[97]⟩,.string ⟨#[124]⟩,.string ⟨#[36,120]⟩,.string ⟨#[46]⟩,.string ⟨#[101,108,115,101]⟩,.string ⟨#[98,48]⟩,.string ⟨#[10]⟩] 9)
  replace b1:=(Below.heap_alloc _ (.cells #[.string ⟨#[]⟩,.string ⟨#[97]⟩,.string ⟨#[124]⟩,.string ⟨#[36,120]⟩,.string ⟨#[46]⟩,.string ⟨#[101,108,115,101]⟩,.string ⟨#[98,48]⟩,.string ⟨#[10]⟩] 9) _ (by simp)).trans b1
  simp only[World.size_alloc] at b1 b2
  refine⟨⟨rfl,.inr ⟨w.heap.size+1,1,_,rfl,Nat.le_refl _,b1,by simp[qaA],by simp[maxLen],rfl,rfl⟩⟩,rfl,?_,b2,fun e=>by injection e with e;exact absurd e (by simp),b0,?_⟩
  ·intro i x u hx hu
   match i,hx,hu with
   |0,hx,hu=>
    simp only[qaA,List.getElem?_cons_zero,Option.some.injEq] at hx hu
    subst hx hu
    exact .nil _ _
   |i+1,hx,hu=>simp[qaA] at hx
  ·exact(((Below.refl _ w).alloc (Nat.le_refl _) _).alloc (by simp) _).alloc (by simp;omega) _
 generalize ((w.alloc (.cells #[.int .i64 0,.string ⟨#[]⟩,.slice none 0 0] 24)).alloc (.cells #[.int .i64 1,.string ⟨#[]⟩,.slice none 0 0] 24)).alloc (.cells #[.string ⟨#[]⟩,.string ⟨#[97]⟩,.string ⟨#[124]⟩,.string ⟨#[36,120]⟩,.string ⟨#[46]⟩,.string ⟨#[101,108,115,101]⟩,.string ⟨#[98,48]⟩,.string ⟨#[10]⟩] 9)=W1 at*
 have HST:=qh hst
 clear hst
 go_loopw [3,5] (fun v i wr=>∃(j:Nat) (us:List Value),j≤qa3 c∧i=.int .i64 ((2*j:Nat):Int)∧Hid (qfm w (qaA c j) v us wr)) (fun _ i _=>60- (intOf i).toNat)
 case atStart=>exact⟨0,_,Nat.zero_le _,rfl,HST⟩
 case round=>
  rename_i v
  obtain⟨j,us,hj,rfl,HI⟩:=hrel
  obtain⟨pv,cv,rfl,hcv⟩:=qfZ HI.out.own
  have hj30:qa3 c≤30:=Nat.min_le_left _ _
  by_cases hlt:2*j+1<c.length∧j<30
  ·have hx:=List.getElem?_eq_getElem (show 2*j<c.length by omega)
   have hy:=List.getElem?_eq_getElem hlt.1
   obtain rfl:=HP.out (by omega)
   have hcx:=HC.out _ _ hx
   have hcy:=HC.out _ _ hy
   have hwr:=HI.out.bel
   replace hcx:=(hwr.cell (p:=⟨bc,oc+2*j,none⟩) (World.block_lt_of_cell? _ _ hcx)).trans hcx
   replace hcy:=(hwr.cell (p:=⟨bc,oc+(2*j+1),none⟩) (World.block_lt_of_cell? _ _ hcy)).trans hcy
   have hstep:qaA c (j+1)=qcr (qaA c j) c[2*j] c[2*j+1]:=by
    rw[qaA,List.getD_eq_getElem?_getD,List.getD_eq_getElem?_getD,hx,hy];rfl
   have hlen:=qeX c j
   have hj1:j+1≤qa3 c:=by unfold qa3;omega
   generalize qaA c j=l at*
   have hbx:=(c[2*j]).toNat_lt
   have hby:=(c[2*j+1]).toNat_lt
   generalize c[2*j]=x at*
   generalize c[2*j+1]=y at*
   have hi60:2*j<60:=by omega
   have hil:2*j+1<c.length:=hlt.1
   generalize hij:2*j=i at*
   have HSt:=qh hstep
   have HIJ:=qh hij
   have htx:∀k,k<8→wr.cell? ⟨w.heap.size+2,k,none⟩=some (.string (Sub.qN k)):=fun k hk=>by
    refine qa HI.out.txt ?_
    match k,hk with
    |0,_=>rfl
    |1,_=>rfl
    |2,_=>rfl
    |3,_=>rfl
    |4,_=>rfl
    |5,_=>rfl
    |6,_=>rfl
    |7,_=>rfl
   have hct:=htx (y.toNat%8) (by omega)
   have t1:decide ((i:Int)+1<(c.length:Int))=true:=by simp;omega
   have t2:decide ((i:Int)<60)=true:=by simp;omega
   have hil0:i<c.length:=by omega
   have hal:Below wr.heap.size wr (wr.alloc (.cells #[.int .i64 0,.string ⟨#[]⟩,.slice none 0 0] 24)):=(Below.refl _ _).alloc (Nat.le_refl _) _
   have hdx:=(hal.cell (p:=⟨bc,oc+i,none⟩) (World.block_lt_of_cell? _ _ hcx)).trans hcx
   have hdy:=(hal.cell (p:=⟨bc,oc+(i+1),none⟩) (World.block_lt_of_cell? _ _ hcy)).trans hcy
   have hdt:=(hal.cell (p:=⟨w.heap.size+2,y.toNat%8,none⟩) (World.block_lt_of_cell? _ _ hct)).trans hct
   clear hx hy hstep hij hlt htx hwr hal
   go_wp2
   go_region
   clear hdx hdy hdt hcx hct t1 t2
   have hal2:Below wr.heap.size wr ((wr.alloc (.cells #[.int .i64 (x.toNat%40),.string (Sub.qN (y.toNat%8)),.slice none 0 0] 24)).drew):=((Below.refl _ _).alloc (Nat.le_refl _) _).drew
   have hnb:NBox ((wr.alloc (.cells #[.int .i64 (x.toNat%40),.string (Sub.qN (y.toNat%8)),.slice none 0 0] 24)).drew) wr.heap.size 24 (x.toNat%40) (Sub.qN (y.toNat%8)) (.slice none 0 0):=World.alloc_heap_new wr _
   have hszb:((wr.alloc (.cells #[.int .i64 (x.toNat%40),.string (Sub.qN (y.toNat%8)),.slice none 0 0] 24)).drew).heap.size =wr.heap.size+1:=by show(wr.alloc _).heap.size =_;simp
   replace hcy:=(hal2.cell (p:=⟨bc,oc+(i+1),none⟩) (World.block_lt_of_cell? _ _ hcy)).trans hcy
   generalize (wr.alloc (.cells #[.int .i64 (x.toNat%40),.string (Sub.qN (y.toNat%8)),.slice none 0 0] 24)).drew =WB at*
   have HAL:=qh hal2
   have HNB:=qh hnb
   have HSZ:=qh hszb
   obtain⟨n0,n1,n2⟩:=hnb.cells
   clear hal2 hnb hszb n2
   have hm:min ((y.toNat:Int)/8%4) (l.length:Int)=((qc6 l y:Nat):Int):=by unfold qc6;omega
   have hkl:=qmk l y
   obtain⟨vz,hvz⟩:∃vz,vz=Value.slice none 0 0:=⟨_,rfl⟩
   have n2:WB.cell? ⟨wr.heap.size,2,none⟩=some vz:=by rw[hvz];exact HNB.out.cells.2.2
   have HVZ:=qh hvz
   have hown:=HI.out.own
   obtain⟨g,rfl⟩:∃g,pv=some ⟨g,0,none⟩:=by
    rcases hown.2 with⟨_,h⟩|⟨g,_,_,h,_⟩
    ·omega
    ·injection h with h;exact⟨g,h⟩
   clear hvz
   go_wp2
   have HK:=qh (rfl:qc6 l y=qc6 l y)
   generalize hk:qc6 l y=k at*
   have HKY:=qh hk
   clear hm hk
   obtain⟨d,hd⟩:∃d,d+k=l.length:=⟨l.length-k,by omega⟩
   have hll:=HI.out.own.1
   have q4:(l.length:Int)- (k:Int)=(d:Int):=by omega
   have wq:IntKind.i64.wrap (d:Int)=(d:Int):=IntWalk.i64_in _ (by omega)
   have q5:l.length-d=k:=by omega
   have q6:d≤l.length:=by omega
   have HD:=qh hd
   clear hd hll
   obtain⟨ad,hif,had⟩:∃ad,(if cv=d then(some ⟨g,0,none⟩:Option Addr) else some ⟨g,d*3,none⟩)=some ⟨g,ad,none⟩∧(0<k→ad=d*3):=by
    by_cases h:cv=d
    ·exact⟨0,by rw[if_pos h],fun h2=>by omega⟩
    ·exact⟨d*3,by rw[if_neg h],fun _=>rfl⟩
   obtain⟨i0,hi,hz0,hz1,hz2⟩:=info_parts qkr
   have hcellR:∀(j:Nat) u,(qF (l.drop d) (us.drop d))[j]? =some u→WB.drew.cell? ((⟨g,ad,none⟩:Addr).add j)=some u:=by
    intro j' u hu
    have hjk:j'<(qF (l.drop d) (us.drop d)).length :=(List.getElem?_eq_some_iff.1 hu).1
    rw[qcv _ _ (by rw[List.length_drop,List.length_drop,HI.out.len]),List.length_drop] at hjk
    have e:=had (by omega)
    subst e
    rw[←qgn _ _ _ HI.out.len,List.getElem?_drop] at hu
    have h1:=(World.ownsRow.cells (g:=g) HI.out.own rfl) _ _ hu
    rw[qcu] at h1
    have h2:=(HAL.out.cell (p:=⟨g,d*3+j',none⟩) (World.block_lt_of_cell? _ _ h1)).trans h1
    rw[show(⟨g,d*3,none⟩:Addr).add j'=⟨g,d*3+j',none⟩ by unfold Addr.add;split<;>simp_all]
    exact h2
   have hlenR:(qF (l.drop d) (us.drop d)).length =k*3:=by rw[qcv _ _ (by rw[List.length_drop,List.length_drop,HI.out.len]),List.length_drop,q5]
   have hoRow:WB.drew.ownsRow WB.heap.size 24 3 vz 0 []:=by rw[HVZ.out];exact World.ownsRow_nil _ _ _ _
   obtain⟨v',w',hrun,hr',hg',-,hblk⟩:=qcz (P:=Tryz.prog) WB.drew WB.heap.size 22 22 24 i0 _ 3 48 qfY hi hz0 hz1 hz2 rfl (by decide) vz 0 [] hoRow ⟨g,ad,none⟩ k (cv-d) (qF (l.drop d) (us.drop d)) hlenR hcellR
    (qgO _ _ fun u hu=>HI.out.one u (List.mem_of_mem_drop hu)) (by simp only[maxLen];omega) (by omega) (Nat.le_refl _)
   rw[Nat.zero_add,List.nil_append] at hr'
   have hk':qe (fun _=>False) WB w':=by
    have h1:qe (fun b=>some b=vz.ownBlock) WB w':=(qe.drew (O:=fun b=>some b=vz.ownBlock) WB).trans (qe.of_grownBy hg' fun r h=>h.symm)
    exact h1.mono fun b _ h=>by rw[HVZ.out] at h;cases h
   have hnb':=HNB.out.keeps hk' (fun h=>h)
   obtain⟨m0,m1,m2⟩:=hnb'.cells
   obtain⟨f0,f1,f2⟩:=hnb'.free
   obtain⟨p',c',rfl,hc'⟩:=qfZ hr'
   have HR:=qh hr'
   have HK':=qh hk'
   have HB':=qh hblk
   clear hr' hg' hblk hoRow hlenR hcellR hk' hown
   simp[go_sem] at hrun
   go_region
   have hset:NBox (w'.setCell ⟨wr.heap.size,2,none⟩ (.slice p' k c')) wr.heap.size 24 (x.toNat%40) (Sub.qN (y.toNat%8)) (.slice p' k c'):=heap_setCell_same w' wr.heap.size 2 _ _ _ hnb'
   have hkS:=qal w' wr.heap.size 2 (.slice p' k c') (O:=fun b=>b=wr.heap.size) rfl
   clear hrun hif m0 m1 m2 f0 f1 f2 n0 n1 n2 hnb'
   generalize w'.setCell ⟨wr.heap.size,2,none⟩ (.slice p' k c')=W9 at*
   obtain⟨s0,s1,s2⟩:=hset.cells
   have hglt:=HI.out.own.lt g rfl
   have hk9:qe (fun b=>b=wr.heap.size) wr W9:=((qe.of_below' (O:=fun b=>b=wr.heap.size) HAL.out).trans (HK'.out.mono fun b _ h=>h.elim)).trans hkS
   have hless:=qiy HI.out.own d q6
   rw[qgo _ _ _ HI.out.len] at hless
   have hO9:=qr (qr hless hk9 (fun b hb e=>by have h1:b=g:=Option.some.inj hb;have:=hglt.2;omega)) (qe.alloc (fun _=>False) W9 (.cells #[.int .i64 (x.toNat%40),.string (Sub.qN (y.toNat%8)),.slice p' k c'] 24)) (fun _ _ h=>h)
   have HO9:=qh hO9
   have HN9:=qh (qlb W9 [.int .i64 (x.toNat%40),.string (Sub.qN (y.toNat%8)),.slice p' k c'] 24)
   have HK9:=qh hk9
   have HKS:=qh hkS
   have hs9:=hk9.size
   have hsI:=HI.out.bel.size
   clear hless hO9 hk9 hkS hset
   go_wp2_with(at_builtin;refine qaa _ rfl _ _ 22 rfl (w.heap.size+1) 24 i0 _ 3 48 qfY hi hz0 hz1 hz2 rfl (by decide) _ d _ rfl HO9.out ⟨W9.heap.size,0,none⟩ 1 1 [.int .i64 (x.toNat%40),.string (Sub.qN (y.toNat%8)),.slice p' k c'] rfl rfl HN9.out (by intro u hu;simp at hu;rcases hu with rfl|rfl|rfl<;>rfl) (by simp only[maxLen];omega) (by omega) (by simp;omega) ?_;intro v2 w3 hown2 hkeep2 hblk2 _;have HOW2:=qh hown2;have HKE2:=qh hkeep2;have HBL2:=qh hblk2;obtain⟨g2,cap2,rfl⟩:=ql7 hown2;clear hown2 hkeep2 hblk2)
   have hl':qaA c (j+1)=l.take d++[.mk ((x.toNat:Int)%40) (Sub.qN (y.toNat%8)) (l.drop d)]:=by
    rw[HSt.out];unfold qcr
    rw[HKY.out,show l.length-k=d by have:=HD.out;omega,show((x.toNat%40:Nat):Int)=(x.toNat:Int)%40 by omega]
   have hal9:qe (fun _=>False) W9 (W9.alloc (.cells #[.int .i64 (x.toNat%40),.string (Sub.qN (y.toNat%8)),.slice p' k c'] 24)):=qe.alloc _ _ _
   have hz9:(W9.alloc (.cells #[.int .i64 (x.toNat%40),.string (Sub.qN (y.toNat%8)),.slice p' k c'] 24)).heap.size =W9.heap.size+1:=by simp
   have hk3:qe (fun b=>b=g) W9 w3:=(hal9.mono fun b _ h=>h.elim).trans (HKE2.out.mono fun b _ h=>Option.some.inj h)
   have hv2:∀b,b<W9.heap.size+1→b≠g→some b≠(Value.slice (some ⟨g2,0,none⟩) (d+1) cap2).ownBlock :=fun b hb hg e=>by
    rcases HBL2.out with h|h
    ·exact hg (Option.some.inj (e.trans h))
    ·have:=Option.some.inj (e.trans h);rw[hz9] at this;omega
   have hs3:=hk3.size
   have hgl:=HI.out.own.lt g rfl
   have keepAll:∀{u:Value} {l2:List qb} {S:Nat→Prop},qo W9 S u l2→(∀b,S b→w.heap.size<b∧b<W9.heap.size∧b≠g)→qo w3 (fun b=>w.heap.size<b∧b<w3.heap.size∧some b≠(Value.slice (some ⟨g2,0,none⟩) (d+1) cap2).ownBlock) u l2:=fun h hS=>
    (h.keeps hk3 fun b hb=>(hS b hb).2.2).mono fun b hb=>by
     obtain⟨h1,h2,h3⟩:=hS b hb
     exact⟨h1,by omega,hv2 b (by omega) h3⟩
   have hkid:∀(i':Nat) z uz,l[i']? =some z→us[i']? =some uz→qo W9 (fun b=>w.heap.size<b∧b<wr.heap.size∧b≠g) uz z.kids:=fun i' z uz hz huz=>
    ((HI.out.kids i' z uz hz huz).keeps HK9.out fun b hb e=>by have:=hb.2.1;omega).mono fun b hb=>⟨hb.1,hb.2.1,fun e=>hb.2.2 (by rw[e];rfl)⟩
   have hlt2:w.heap.size+2<wr.heap.size:=(Array.getElem?_eq_some_iff.1 HI.out.txt).1
   have hoff2:w.heap.size+2≠g:=fun e=>HI.out.off (by rw[e];rfl)
   refine⟨⟨j+1,us.take d++[.slice p' k c'],hj1,by have:=HIJ.out;rw[show((2*(j+1):Nat):Int)=(i:Int)+2 by omega],qh ?_⟩,by simp[intOf];omega⟩
   rw[hl']
   have hlu:(us.take d).length =(l.take d).length :=by rw[List.length_take,List.length_take,HI.out.len]
   have hld:(l.take d).length =d:=by rw[List.length_take];omega
   refine⟨?_,by simp[hlu],?_,?_,?_,?_,?_⟩
   ·have h:=HOW2.out
    rw[qbw _ _ _ _ hlu,List.length_append,hld]
    exact h
   ·intro i' z uz hz huz
    by_cases hi':i'<d
    ·rw[List.getElem?_append_left (by omega),List.getElem?_take,if_pos hi'] at hz
     rw[List.getElem?_append_left (by omega),List.getElem?_take,if_pos hi'] at huz
     exact keepAll (hkid i' z uz hz huz) fun b hb=>⟨hb.1,by omega,hb.2.2⟩
    ·rw[List.getElem?_append_right (by omega),hld] at hz
     rw[List.getElem?_append_right (by omega),hlu,hld] at huz
     have hi0:i'-d=0:=by
      have:=(List.getElem?_eq_some_iff.1 hz).1
      simp at this;omega
     rw[hi0] at hz huz
     simp only[List.getElem?_cons_zero,Option.some.injEq] at hz huz
     subst hz huz
     have hdl:(l.drop d).length =k:=by rw[List.length_drop];exact q5
     have hbase:WB.heap.size=wr.heap.size+1:=HSZ.out
     have hrow9:W9.ownsRow WB.heap.size 24 3 (.slice p' k c') (l.drop d).length (qF (l.drop d) (us.drop d)):=by
      rw[hdl]
      exact qr HR.out HKS.out fun b hb e=>by have:=(HR.out.lt b hb.symm).1;omega
     have hka:=qo.of_own (S:=fun b=>w.heap.size<b∧b<W9.heap.size∧b≠g) hrow9 (by rw[List.length_drop,List.length_drop,HI.out.len]) (by rw[hdl];omega)
      (fun b hb=>by have h:=hrow9.lt b hb.symm;exact⟨by omega,h.2,by omega⟩) (fun i2 z2 u2 hz2 hu2=>by
       rw[List.getElem?_drop] at hz2 hu2
       exact(hkid _ z2 u2 hz2 hu2).mono fun b hb=>⟨hb.1,by omega,hb.2.2⟩)
     exact keepAll hka fun b hb=>hb
   ·exact hk3.heap (HK9.out.heap HI.out.txt (by omega)) hoff2
   ·exact hv2 _ (by omega) hoff2
   ·exact(HI.out.box.keeps HK9.out (by omega)).keeps hk3 (by omega)
   ·exact(HI.out.bel.trans (HK9.out.below (by omega) fun b hb=>by omega)).trans (hk3.below (by omega) fun b hb=>by omega)
  ·have hjt:j=qa3 c:=by unfold qa3 at*;omega
   subst hjt
   have hkids:qo wr (fun b=>w.heap.size<b) (.slice pv (qaA c (qa3 c)).length cv) (qaA c (qa3 c)):=qo.of_own HI.out.own HI.out.len (by have:=qeX c (qa3 c);have:qa3 c≤30:=Nat.min_le_left _ _;omega)
    (fun g hg=>by have:=(HI.out.own.lt g hg.symm).1;omega) (fun i x u hx hu=>(HI.out.kids i x u hx hu).mono fun b hb=>hb.1)
   have hT:qfe c=.mk 10 ⟨#[]⟩ (qaA c (qa3 c)):=rfl
   have HT:=qh hT
   have HKI:=qh hkids
   have hbx:=HI.out.box
   obtain⟨b0,b1,b2⟩:=hbx.cells
   obtain⟨f0,f1,f2⟩:=hbx.free
   have hput:=hbx.put (k':=10) (t':=⟨#[]⟩) (u':=.slice pv (qaA c (qa3 c)).length cv)
   have HP2:=qh hput
   have HB2:=qh HI.out.bel
   have hlt2:(2*qa3 c+1<c.length∧qa3 c<30)=False:=by apply eq_false;omega
   have hend:∀(K:Act→World→Prop) (a:Act),True:=fun _ _=>trivial
   clear hT hkids hput HI hend
   generalize qaA c (qa3 c)=l at*
   by_cases h1:2*qa3 c+1<c.length
   ·have h2:30≤qa3 c:=by omega
    have t1:decide (((2*qa3 c:Nat):Int)+1<(c.length:Int))=true:=by simp;omega
    have t2:decide (((2*qa3 c:Nat):Int)<60)=false:=by simp;omega
    clear hlt hlt2 h1 h2 hj
    have hib:2*qa3 c≤60:=by omega
    generalize 2*qa3 c=i at*
    go_wp2
    obtain⟨hq,hP⟩:=HP2.out
    have hki:=HKI.out.keeps hP (fun b hb e=>by omega)
    have hbel:=HB2.out.trans (hP.below HB2.out.size fun b hb=>by omega)
    have HKi:=qh hki
    have HBe:=qh hbel
    clear HP2 hki hbel b0 b1 b2 f0 f1 f2
    generalize ((wr.setCell ⟨w.heap.size,0,none⟩ (.int .i64 10)).setCell ⟨w.heap.size,1,none⟩ (.string ⟨#[]⟩)).setCell ⟨w.heap.size,2,none⟩ (.slice pv l.length cv)=W9 at*
    obtain⟨q0,q1,q2⟩:=hq.cells
    clear hq hP
    refine bR9 (v:=.agg #[.int .i64 10,.string ⟨#[]⟩,.slice pv l.length cv]) (by simp[results,Tryz.results9,go_sem,q0,q1,q2]) rfl ⟨_,by rw[HT.out];rfl,?_,HBe.out⟩
    rw[HT.out]
    exact HKi.out.mono fun b hb=>Nat.le_of_lt hb
   ·have t1:decide (((2*qa3 c:Nat):Int)+1<(c.length:Int))=false:=by simp;omega
    clear hlt hlt2 h1 hj
    have hib:2*qa3 c≤60:=by omega
    generalize 2*qa3 c=i at*
    go_wp2
    obtain⟨hq,hP⟩:=HP2.out
    have hki:=HKI.out.keeps hP (fun b hb e=>by omega)
    have hbel:=HB2.out.trans (hP.below HB2.out.size fun b hb=>by omega)
    have HKi:=qh hki
    have HBe:=qh hbel
    clear HP2 hki hbel b0 b1 b2 f0 f1 f2
    generalize ((wr.setCell ⟨w.heap.size,0,none⟩ (.int .i64 10)).setCell ⟨w.heap.size,1,none⟩ (.string ⟨#[]⟩)).setCell ⟨w.heap.size,2,none⟩ (.slice pv l.length cv)=W9 at*
    obtain⟨q0,q1,q2⟩:=hq.cells
    clear hq hP
    refine bR9 (v:=.agg #[.int .i64 10,.string ⟨#[]⟩,.slice pv l.length cv]) (by simp[results,Tryz.results9,go_sem,q0,q1,q2]) rfl ⟨_,by rw[HT.out];rfl,?_,HBe.out⟩
    rw[HT.out]
    exact HKi.out.mono fun b hb=>Nat.le_of_lt hb
end Go.Proofs.YtakbenifinnpfaaGreatDoor
namespace Go.Sub
open Go.RowKit
theorem qfQ(w:World)(b:Nat):∀(l:List qb) (us:List Value) (o:Nat),us.length=l.length→(∀(i:Nat) x u,l[i]? =some x→us[i]? =some u→qa5 w b (o+i*3) x.kind x.text u)→∀(j:Nat) v,(qF l us)[j]? =some v→w.cell? ⟨b,o+j,none⟩=some v
 |[],us,o,h,_,j,v,hv=>by simp[qF] at hv
 |x::r,[],o,h,_,j,v,hv=>by simp at h
 |x::r,u::us,o,h,hc,j,v,hv=>by
  obtain⟨c0,c1,c2⟩:=hc 0 x u rfl rfl
  simp only[qF] at hv
  match j,hv with
  |0,hv=>simp at hv;subst hv;simpa using c0
  |1,hv=>simp at hv;subst hv;simpa using c1
  |2,hv=>simp at hv;subst hv;simpa using c2
  |j+3,hv=>
   simp only[List.getElem?_cons_succ] at hv
   have:=qfQ w b r us (o+3) (by simpa using h) (fun i y z hy hz=>by rw[show o+3+i*3=o+(i+1)*3 by omega];exact hc (i+1) y z hy hz) j v hv
   rw[show o+(j+3)=o+3+j by omega];exact this
theorem qo.row{w:World}{S:Nat→Prop}{p:Option Addr}{n cap:Nat}{l:List qb}(h:qo w S (.slice p n cap) l)(h0:0<l.length):
  ∃(b o:Nat) (us:List Value),p=some ⟨b,o,none⟩∧S b∧us.length=l.length∧(∀(j:Nat) u,(qF l us)[j]? =some u→w.cell? ((⟨b,o,none⟩:Addr).add j)=some u)∧(∀(i:Nat) x u,l[i]? =some x→us[i]? =some u→qo w S u x.kids):=by
 generalize hv:Value.slice p n cap=v at h
 cases h with
 |mk p' cap' l b o us hp hlen hc hk=>
  cases hv
  have hget:∀(i:Nat) u,((List.range l.length).map us)[i]? =some u→u=us i:=fun i u hu=>by
   rw[List.getElem?_map] at hu
   obtain⟨k,hk,rfl⟩:=Option.map_eq_some_iff.1 hu
   have:=(List.getElem?_eq_some_iff.1 hk).2
   rw[List.getElem_range] at this;rw[this]
  refine⟨b,o,(List.range l.length).map us,(hp h0).1,(hp h0).2,by simp,fun j u hu=>?_,fun i x u hx hu=>?_⟩
  ·have:=qfQ w b l ((List.range l.length).map us) o (by simp) (fun i x u hx hu=>by rw[hget i u hu];exact hc i x hx) j u hu
   rw[show(⟨b,o,none⟩:Addr).add j=⟨b,o+j,none⟩ by unfold Addr.add;split<;>simp_all]
   exact this
  ·rw[hget i u hu];exact hk i x hx
theorem qo.one{w:World}{S:Nat→Prop}{u:Value}{l:List qb}(h:qo w S u l):u.oneCell'=true:=by
 cases h;rfl
end Go.Sub
namespace Go.Proofs.YtakbenifinnpfaaGreatDoor
open Go.RowKit Go.Sub Go.Sort
theorem qcv:∀{l:List qb} {us:List Value},us.length=l.length→(qF l us).length =l.length*3
 |[],_,_=>by simp[qF]
 |x::r,[],h=>by simp at h
 |x::r,u::us,h=>by
  have:=qcv (l:=r) (us:=us) (by simpa using h)
  simp only[qF,List.length_cons,this];omega
def qcA(w:World)(v:Value)(n:qb):Prop:=∃g cv,v=.slice (some ⟨g,0,none⟩) (qe2 n).length cv∧∀(i:Nat) p,(qe2 n)[i]? =some p→∃x,w.cell? ⟨g,i,none⟩=some x∧qab w (fun _=>True) x (zs p)
theorem qcA.stays{w w':World}{v:Value}{n:qb}(h:qcA w v n)(hb:Below w.heap.size w w'):qcA w' v n:=by
 obtain⟨g,cv,e,hx⟩:=h
 refine⟨g,cv,e,fun i p hp=>?_⟩
 obtain⟨x,hc,hi⟩:=hx i p hp
 exact⟨x,(hb.cell (p:=⟨g,i,none⟩) (World.block_lt_of_cell? _ _ hc)).trans hc,hi.stays hb⟩
theorem qhd(p:List Nat):(zs p).length =p.length:=by unfold zs;rw[List.length_map]
theorem qcA.shape{w:World}{v:Value}{n:qb}(h:qcA w v n):∃g cv,v=.slice (some ⟨g,0,none⟩) (qe2 n).length cv:=by
 obtain⟨g,cv,e,_⟩:=h;exact⟨g,cv,e⟩
theorem qcA.at{w:World}{g n' cv:Nat}{n:qb}(h:qcA w (.slice (some ⟨g,0,none⟩) n' cv) n){i:Nat}{p:List Nat}(hp:(qe2 n)[i]? =some p):∃q c,w.cell? ⟨g,i,none⟩=some (.slice q p.length c)∧qab w (fun _=>True) (.slice q p.length c) (zs p):=by
 obtain⟨g',cv',e,hx⟩:=h
 cases e
 obtain⟨x,hc,hi⟩:=hx i p hp
 obtain⟨q,c,rfl,_⟩:=hi.shape
 rw[qhd] at hc hi
 exact⟨q,c,hc,hi⟩
structure qg5(w:World)(B:Nat)(n:qb)(u:Value):Prop where
 box:NBox w B 24 n.kind n.text u
 kids:qo w (fun _=>True) u n.kids
theorem qg5.stays{w w':World}{B:Nat}{n:qb}{u:Value}(h:qg5 w B n u)(hb:Below w.heap.size w w'):qg5 w' B n u:=⟨h.box.stays hb,h.kids.stays hb⟩
end Go.Proofs.YtakbenifinnpfaaGreatDoor
namespace Go.Sub
open Go.RowKit
def RowC(W:World)(p:Option Addr)(b o N:Nat):Prop:=∀i<N,p=some ⟨b,o,none⟩∧qaE W b∧∃k t u,qa5 W b (o+i*3) k t u
theorem RowC.keeps{w w':World}{O:Nat→Prop}{p:Option Addr}{b o N:Nat}(h:RowC w p b o N)(hk:qe O w w')(hO:0<N→¬O b):RowC w' p b o N:=fun i hi=>by
 obtain⟨e,hl,k,t,u,hc⟩:=h i hi
 have hn:=hO (by omega)
 exact⟨e,hl.keep fun hlt=>hk.block b hlt hn,k,t,u,hk.cell hc.1 hn,hk.cell hc.2.1 hn,hk.cell hc.2.2 hn⟩
theorem put1(w:World)(g o:Nat)(v:Value){T:TypeId}{cs:Array Value}(hb:w.heap[g]? =some (.cells cs T (0,0))):qaE (w.setCell ⟨g,o,none⟩ v) g∧qe (fun d=>d=g) w (w.setCell ⟨g,o,none⟩ v):=
 ⟨⟨_,_,heap_setCell_same w g o _ _ v hb⟩,qal w g o v (O:=fun d=>d=g) rfl⟩
theorem RowC.text{w:World}{p:Option Addr}{b o N j:Nat}(h:RowC w p b o N)(hj:j<N)(s:ByteArray):RowC (w.setCell ⟨b,o+j*3+1,none⟩ (.string s)) p b o N∧qe (fun d=>0<N∧d=b) w (w.setCell ⟨b,o+j*3+1,none⟩ (.string s)):=by
 obtain⟨-,⟨cs,T,hb⟩,-⟩:=h j hj
 obtain⟨hl,hk⟩:=put1 w b (o+j*3+1) (.string s) hb
 refine⟨fun i hi=>?_,hk.mono fun d _ hd=>⟨by omega,hd⟩⟩
 obtain⟨e,-,k,t,u,c0,c1,c2⟩:=h i hi
 by_cases hij:i=j
 ·subst hij
  exact⟨e,hl,k,s,u,by rw[World.cell?_setCell_other _ _ _ _ (by simp)];exact c0,World.cell?_setCell_same _ _ _ c1,by rw[World.cell?_setCell_other _ _ _ _ (by simp)];exact c2⟩
 ·exact⟨e,hl,k,t,u,by rw[World.cell?_setCell_other _ _ _ _ (fun e=>by simp at e<;>omega)];exact c0,by rw[World.cell?_setCell_other _ _ _ _ (fun e=>by simp at e<;>omega)];exact c1,by rw[World.cell?_setCell_other _ _ _ _ (fun e=>by simp at e<;>omega)];exact c2⟩
theorem RowC.kind{w:World}{p:Option Addr}{b o N j:Nat}(h:RowC w p b o N)(hj:j<N)(z:Int):RowC (w.setCell ⟨b,o+j*3,none⟩ (.int .i64 z)) p b o N∧qe (fun d=>0<N∧d=b) w (w.setCell ⟨b,o+j*3,none⟩ (.int .i64 z)):=by
 obtain⟨-,⟨cs,T,hb⟩,-⟩:=h j hj
 obtain⟨hl,hk⟩:=put1 w b (o+j*3) (.int .i64 z) hb
 refine⟨fun i hi=>?_,hk.mono fun d _ hd=>⟨by omega,hd⟩⟩
 obtain⟨e,-,k,t,u,c0,c1,c2⟩:=h i hi
 by_cases hij:i=j
 ·subst hij
  exact⟨e,hl,z,t,u,World.cell?_setCell_same _ _ _ c0,by rw[World.cell?_setCell_other _ _ _ _ (by simp)];exact c1,by rw[World.cell?_setCell_other _ _ _ _ (by simp)];exact c2⟩
 ·exact⟨e,hl,k,t,u,by rw[World.cell?_setCell_other _ _ _ _ (fun e=>by simp at e<;>omega)];exact c0,by rw[World.cell?_setCell_other _ _ _ _ (fun e=>by simp at e<;>omega)];exact c1,by rw[World.cell?_setCell_other _ _ _ _ (fun e=>by simp at e<;>omega)];exact c2⟩
end Go.Sub
namespace Go.Proofs.YtakbenifinnpfaaGreatDoor
open Go.RowKit Go.Sub Go.Sort
theorem qj3{k:Int}{t:ByteArray}{l:List qb}(hk:qh7 k)(hl:∀x∈l,qfd x):qfd (.mk k t l):=by
 intro p m hm
 cases p with
 |nil=>rw[qj8] at hm;cases hm;exact hk
 |cons i p=>
  rw[qef] at hm
  split at hm
  ·obtain⟨x,hx,hm⟩:=Option.bind_eq_some_iff.1 hm
   exact hl x (List.mem_of_getElem? hx) p m hm
  ·cases hm
structure qc0(base:Nat)(v:Value)(ps:List (List Nat))(us:List Value)(W:World):Prop where
 own:W.ownsRow base 49 1 v ps.length us
 len:us.length=ps.length
 ints:∀(i:Nat) p u,ps[i]? =some p→us[i]? =some u→qab W (fun b=>base≤b∧b<W.heap.size∧some b≠v.ownBlock) u (zs p)
 caps:∀(i:Nat) p u,ps[i]? =some p→us[i]? =some u→∃q n c,u=.slice q n c∧p.length≤c
theorem own_lt{w:World}{base:Nat}{e:TypeId}{sz n:Nat}{v:Value}{xs:List Value}(h:w.ownsRow base e sz v n xs):∀g,some g=v.ownBlock→g<w.heap.size:=by
 intro g hg
 rcases h.2 with⟨rfl,_⟩|⟨g',cap,cur,rfl,_,h3,_⟩
 ·cases hg
 ·cases hg;exact(Array.getElem?_eq_some_iff.1 h3).1
theorem qc0.stays{base:Nat}{v:Value}{ps:List (List Nat)}{us:List Value}{W W':World}(h:qc0 base v ps us W)(hb:Below W.heap.size W W'):qc0 base v ps us W' where
 own:=qr h.own (qe.of_below' (O:=fun _=>False) hb) (fun _ _ e=>e)
 len:=h.len
 ints:=fun i p u hp hu=>((h.ints i p u hp hu).stays hb).mono fun _ hx=>⟨hx.1,Nat.lt_of_lt_of_le hx.2.1 hb.size,hx.2.2⟩
 caps:=h.caps
theorem qc0.push{base:Nat}{v v' u:Value}{ps:List (List Nat)}{p:List Nat}{us:List Value}{W W':World}(h:qc0 base v ps us W)(hu:qab W (fun b=>base≤b∧b<W.heap.size∧some b≠v.ownBlock) u (zs p))(hc:∃q n c,u=.slice q n c∧p.length≤c)
  (hown:W'.ownsRow base 49 1 v' (ps.length+1) (us++[u]))(hk:qe (fun b=>some b=v.ownBlock) W W')(hblk:v'.ownBlock=v.ownBlock∨v'.ownBlock=some W.heap.size):qc0 base v' (ps++[p]) (us++[u]) W' where
 own:=by rw[List.length_append];exact hown
 len:=by rw[List.length_append,List.length_append,h.len];rfl
 ints:=fun i q z hq hz=>by
  have key:∀{q z},qab W (fun b=>base≤b∧b<W.heap.size∧some b≠v.ownBlock) z (zs q)→qab W' (fun b=>base≤b∧b<W'.heap.size∧some b≠v'.ownBlock) z (zs q):=fun hx=>
   (hx.keeps hk fun b hb e=>hb.2.2 e).mono fun b hb=>⟨hb.1,Nat.lt_of_lt_of_le hb.2.1 hk.size,fun e=>by
    rcases hblk with h1|h1
    ·exact hb.2.2 (e.trans h1)
    ·rw[h1] at e;cases e;exact Nat.lt_irrefl _ hb.2.1⟩
  by_cases hi:i<ps.length
  ·rw[List.getElem?_append_left hi] at hq
   rw[List.getElem?_append_left (by rw[h.len];exact hi)] at hz
   exact key (h.ints i q z hq hz)
  ·rw[List.getElem?_append_right (by omega)] at hq
   rw[List.getElem?_append_right (by rw[h.len];omega),h.len] at hz
   have:i-ps.length=0:=by have:=(List.getElem?_eq_some_iff.1 hq).1;simp at this;omega
   rw[this] at hq hz
   simp at hq hz
   subst hq hz
   exact key hu
 caps:=fun i q z hq hz=>by
  by_cases hi:i<ps.length
  ·rw[List.getElem?_append_left hi] at hq
   rw[List.getElem?_append_left (by rw[h.len];exact hi)] at hz
   exact h.caps i q z hq hz
  ·rw[List.getElem?_append_right (by omega)] at hq
   rw[List.getElem?_append_right (by rw[h.len];omega),h.len] at hz
   have:i-ps.length=0:=by have:=(List.getElem?_eq_some_iff.1 hq).1;simp at this;omega
   rw[this] at hq hz
   simp at hq hz
   subst hq hz
   exact hc
theorem own_ge{w:World}{base:Nat}{e:TypeId}{sz n:Nat}{v:Value}{xs:List Value}(h:w.ownsRow base e sz v n xs):∀g,some g=v.ownBlock→base≤g:=by
 intro g hg
 rcases h.2 with⟨rfl,_⟩|⟨g',cap,cur,rfl,h3,_⟩
 ·cases hg
 ·cases hg;exact h3
theorem qc0.keeps{base:Nat}{v:Value}{ps:List (List Nat)}{us:List Value}{W W':World}{O:Nat→Prop}(h:qc0 base v ps us W)(hk:qe O W W')(hO:∀b,base≤b→b<W.heap.size→¬O b):qc0 base v ps us W' where
 own:=qr h.own hk (fun g hg=>hO g (own_ge h.own g hg) (own_lt h.own g hg))
 len:=h.len
 ints:=fun i p u hp hu=>((h.ints i p u hp hu).keeps hk fun b hb=>hO b hb.1 hb.2.1).mono fun _ hx=>⟨hx.1,Nat.lt_of_lt_of_le hx.2.1 hk.size,hx.2.2⟩
 caps:=h.caps
theorem qc0.at{base g n cv:Nat}{ps:List (List Nat)}{us:List Value}{W:World}(h:qc0 base (.slice (some ⟨g,0,none⟩) n cv) ps us W){i:Nat}{p:List Nat}(hp:ps[i]? =some p):∃q c,W.cell? ⟨g,i,none⟩=some (.slice q p.length c)∧qab W (fun b=>base≤b∧b<W.heap.size) (.slice q p.length c) (zs p)∧p.length≤c:=by
 have hi:i<us.length:=by rw[h.len];exact(List.getElem?_eq_some_iff.1 hp).1
 have hu:=List.getElem?_eq_getElem hi
 have hc:=World.ownsRow.cells (g:=g) h.own rfl _ _ hu
 rw[qcu] at hc
 have hx:=h.ints i p _ hp hu
 obtain⟨q,c,e,_⟩:=hx.shape
 obtain⟨q',n',c',e',hc'⟩:=h.caps i p _ hp hu
 rw[qhd] at e
 rw[e] at hc hx e'
 cases e'
 exact⟨q,c,hc,hx.mono fun b hb=>⟨hb.1,hb.2.1⟩,hc'⟩
theorem qhP(n:qb)(u:Value)(w:World)(S:Nat→Prop)(hu:qo w S u n.kids)(ht:qcQ n≤140737488355328):
  Calls Tryz.prog 7 #[qbQ n u] w fun e w'=>e=.returned (.int .i64 (1000-max (Sub.qaV n 1000) (-1)))∧Below w.heap.size w w':=by
 obtain⟨pu,cu,rfl,lu⟩:=hu.shape
 have h1:=(Below.refl w.heap.size w).alloc (Nat.le_refl _) (.cells #[.int .i64 n.kind,.string n.text,.slice pu n.kids.length cu] 24)
 have b1:=qiA w 24 n.kind n.text (.slice pu n.kids.length cu)
 have hc:=qiI n _ 1000 _ S (hu.stays h1) ht (by omega) (by omega)
 have hle:=qeS n 1000
 obtain⟨c0,c1,c2⟩:=b1.cells
 unfold qbQ at*
 clear hu b1 ht
 go_enter Tryz.func7,Tryz.ntmps7
 go_upto_region 1 with(fail)
 generalize w.alloc (.cells #[.int .i64 n.kind,.string n.text,.slice pu n.kids.length cu] 24)=W1 at*
 generalize hm:Sub.qaV n 1000=m at*
 have HM:=qh hm
 clear hm
 have w1:IntKind.i64.wrap (1000-max m (-1))=1000-max m (-1):=IntWalk.i64_in _ (by omega)
 have Hc:=qh hc
 have HB:=qh h1
 clear hc h1
 go_wp2_with(go_at_call 19;refine(Hc.out).mono ?_;rintro e w2 ⟨rfl,hb⟩;have HW2:=qh (HB.out.trans (hb.mono HB.out.size));clear hb)
 go_ret
 exact⟨by rw[HM.out];rfl,HW2.out⟩
structure Asked(w:World)(B:Nat)(n:qb)(p:Option Addr)(c:Nat):Prop where
 box:NBox w B 24 n.kind n.text (.slice p n.kids.length c)
 kids:qo w (fun _=>True) (.slice p n.kids.length c) n.kids
theorem Asked.stays{w w':World}{B:Nat}{n:qb}{p:Option Addr}{c:Nat}(h:Asked w B n p c)(hb:Below w.heap.size w w'):Asked w' B n p c:=⟨h.box.stays hb,h.kids.stays hb⟩
end Go.Proofs.YtakbenifinnpfaaGreatDoor
namespace Go.Proofs.YtakbenifinnpfaaGreatDoor
open Go.ChangeShapes Go.WideShapes Go.ChangeAt Go.RowKit Go.Sub Go.Lib
theorem cells5:Tryz.prog.cellsOf 5=1:=by kernel_rfl
theorem bytes_row{H:Type}{enc:TypeId×Value→H}{W:World}{r:Go.Reach}{b0:Nat}{sp:Nat→Bool}{v:Value}{d:DataW H}{ps:List MemPlace}
  (hval:Value.okWide Tryz.prog W r b0 25 v)(hd:DataW.Trod enc Tryz.prog W 0 sp true 25 v d ps):∃c:List UInt8,qcC W v c:=by
 obtain⟨a0,len,cap,rfl⟩:=okWide_slice Tryz.underlying25 hval
 obtain⟨fuel,hf⟩:=hd
 rcases open_ints Tryz.underlying25 Tryz.underlying5 cells5 hf with⟨hcs,_⟩|⟨a,len',cap',zs,hcs,_,hl,hm,hz,_,hcell,hwz⟩
 ·simp[Value.cells] at hcs
  obtain⟨rfl,rfl,rfl⟩:=hcs
  exact⟨[],none,0,0,0,rfl,fun h=>absurd h (by simp),by simp,fun i x hi=>by simp at hi⟩
 ·simp[Value.cells] at hcs
  obtain⟨rfl,rfl,rfl⟩:=hcs
  have hzl:len≤zs.length:=by rw[hz];split<;>omega
  have hlen:((zs.take len).map fun z=>UInt8.ofNat z.toNat).length =len:=by rw[List.length_map,List.length_take];omega
  refine⟨(zs.take len).map fun z=>UInt8.ofNat z.toNat,some a,cap,a.block,a.off,by rw[hlen],fun h=>?_,by rw[hlen];unfold maxLen at hm;omega,fun i x hi=>?_⟩
  ·have h0:=hcell 0 (by omega)
   obtain⟨R,o,sR⟩:=a
   obtain rfl:sR=none:=by
    rw[show(Addr.add ⟨R,o,sR⟩ 0)=⟨R,o,sR⟩ by simp[Addr.add]] at h0
    exact World.cell?_spot h0
   rfl
  ·have hil:i<len:=by have:=(List.getElem?_eq_some_iff.1 hi).1;omega
   have hiz:i<zs.length:=by omega
   have hw:=hwz (zs.getD i 0) (by rw[List.getD_eq_getElem?_getD,List.getElem?_eq_getElem hiz];exact List.getElem_mem hiz)
   have hb:0≤zs.getD i 0∧zs.getD i 0≤255:=by simpa[Lit.wf,IntKind.min,IntKind.max,IntKind.signed,IntKind.bits] using hw
   have hx:x=UInt8.ofNat (zs.getD i 0).toNat :=by
    rw[List.getElem?_map,List.getElem?_take,if_pos hil,List.getElem?_eq_getElem hiz] at hi
    simp only[Option.map_some,Option.some.injEq] at hi
    rw[←hi,List.getD_eq_getElem?_getD,List.getElem?_eq_getElem hiz];rfl
   have hc:=hcell i hiz
   have h0:=hcell 0 (by omega)
   obtain⟨R,o,sR⟩:=a
   obtain rfl:sR=none:=by
    rw[show(Addr.add ⟨R,o,sR⟩ 0)=⟨R,o,sR⟩ by simp[Addr.add]] at h0
    exact World.cell?_spot h0
   rw[show(⟨R,o,none⟩:Addr).add i=⟨R,o+i,none⟩ by unfold Addr.add;split<;>simp_all] at hc
   rw[hc,hx,UInt8.toNat_ofNat_of_lt' (by show(zs.getD i 0).toNat <256;omega),Int.toNat_of_nonneg hb.1]
end Go.Proofs.YtakbenifinnpfaaGreatDoor
namespace Go.Proofs.YtakbenifinnpfaaGreatDoor
open Go.ChangeShapes Go.WideShapes Go.ChangeAt Go.RowKit Go.Sub Go.Lib Go.Deep Go.Joins
theorem qj6:Tryz.prog.cellsOf 24=3:=by kernel_rfl
theorem bytes25:Tryz.prog.bytesOf 24=48:=by kernel_rfl
def Fits{H:Type}(t:TypeId)(d:DataW H):Prop:=∀z∈d.weights Tryz.prog t,z≤reachBytes
theorem qdM{H:Type}{P:Program}{e:TypeId}:∀{l:List (DataW H)} {d:DataW H} {z:Nat},d∈l→z∈d.weights P e→z∈DataW.weightsAll P e l
 |[],_,_,h,_=>by cases h
 |x::r,d,z,h,hz=>by
  rw[DataW.weightsAll,List.mem_append]
  rcases List.mem_cons.1 h with rfl|h
  ·exact .inl hz
  ·exact .inr (qdM h hz)
theorem qkD{H:Type}{t e:TypeId}{elems rest:List (DataW H)}(ht:Tryz.prog.underlying t=some (.slice e))(h:Fits t (.slice elems rest)):elems.length*Tryz.prog.bytesOf e≤reachBytes∧∀d∈elems,Fits e d:=by
 unfold Fits at h
 rw[DataW.weights,ht] at h
 refine⟨?_,fun d hd z hz=>h z ?_⟩
 ·have h0:=h _ (List.mem_cons_self ..)
  exact Nat.le_trans (Nat.mul_le_mul_right _ (Nat.le_add_right _ _)) h0
 ·exact List.mem_cons_of_mem _ (List.mem_append_left _ (qdM hd hz))
theorem qgI{H:Type}{t:TypeId}{f0 f1 f2:Field}{y0 y1 y2:DataW H}(ht:Tryz.prog.underlying t=some (.struct #[f0,f1,f2]))(h:Fits t (.agg [y0,y1,y2])):Fits f1.type y1∧Fits f2.type y2:=by
 unfold Fits at h⊢
 rw[DataW.weights,ht] at h
 simp only[List.map_cons,List.map_nil,DataW.weightsEach,List.mem_append] at h
 exact⟨fun z hz=>h z (.inr (.inl hz)),fun z hz=>h z (.inr (.inr (.inl hz)))⟩
theorem qf2{H:Type}{t:TypeId}{b:List UInt8}(h:Fits (H:=H) t (.lit (.string b))):b.length≤reachBytes:=h _ (by rw[DataW.weights];exact List.mem_singleton.2 rfl)
theorem qfB{M:Nat}:∀{l:List qb},(∀x∈l,qcQ x≤M)→qdw l≤M
 |[],_=>by rw[qdw];exact Nat.zero_le _
 |x::r,h=>by
  rw[qdw]
  exact Nat.max_le.2 ⟨h x (by simp),qfB fun y hy=>h y (List.mem_cons_of_mem _ hy)⟩
theorem qhk{w:World}{a:Addr}{v:Value}(h:w.cell? a=some v):a=⟨a.block,a.off,none⟩:=by
 obtain⟨b,o,s⟩:=a
 obtain rfl:s=none:=World.cell?_spot h
 rfl
def qfi(n:qb):Prop:=qfd n∧qcQ n≤reachBytes
theorem qkL{H:Type}{enc:TypeId×Value→H}{W:World}{sp:Nat→Bool}:∀(fuel:Nat) (cs:List Value) (x:DataW H×List MemPlace),DataW.trod enc Tryz.prog W 0 sp true fuel 22 cs=some x→Fits 22 x.1→
  ∃u l,cs=[u]∧qo W (fun _=>True) u l∧∀y∈l,qfi y:=by
 intro fuel
 induction fuel using Nat.strongRecOn with
 |_ fuel ih=>
  intro cs x h hf
  rcases DataW.trod_slice Tryz.underlying22 h with⟨rfl,rfl⟩|⟨a,len,cap,elems,rest,n,rfl,rfl,rfl,hb,hl,hm,hlen,hel,-,-⟩
  ·exact⟨_,[],rfl,qo.nil _ _,fun y hy=>by cases hy⟩
  ·rw[qj6] at hel
   obtain⟨hf1,hf2⟩:=qkD Tryz.underlying22 hf
   rw[bytes25,List.length_map] at hf1
   have each:∀i,i<len→∃q:qb×Value,W.cell? (a.add (i*3))=some (.int .i64 q.1.kind)∧W.cell? ((a.add (i*3)).add 1)=some (.string q.1.text)∧W.cell? ((a.add (i*3)).add 2)=some q.2∧qo W (fun _=>True) q.2 q.1.kids∧qfi q.1:=by
    intro i hi
    have he:=hel i hi
    rw[List.getElem?_eq_getElem (by omega)] at he
    obtain⟨cs',hc,hd⟩:=Option.bind_eq_some_iff.1 he
    obtain⟨_,hcl,hcell⟩:=World.cells?_some hc
    have hfi:=hf2 (elems[i]'(by omega)).1 (List.mem_map.2 ⟨_,List.getElem_mem _,rfl⟩)
    obtain⟨xs,m,hm',hx',-,hxl,hfs⟩:=DataW.trod_struct Tryz.underlying24 hd
    rw[hx'] at hfi
    match cs',hcl with
    |[v0,v1,v2],_=>
    match xs,hxl with
    |[y0,y1,y2],_=>
    have g0:=hfs 0 _ rfl
    have g1:=hfs 1 _ rfl
    have g2:=hfs 2 _ rfl
    simp only[List.getElem?_cons_zero,List.getElem?_cons_succ] at g0 g1 g2
    obtain⟨fi1,fi2⟩:=qgI Tryz.underlying24 hfi
    obtain⟨z,e0,-,hz⟩:=DataW.trod_int Tryz.underlying3 g0
    obtain⟨s,e1,hy1,-⟩:=DataW.trod_string Tryz.underlying9 g1
    obtain⟨u,l,e2,hk,hg⟩:=ih m (by omega) _ _ g2 fi2
    cases e0
    cases e1
    cases e2
    have hs:s.size≤reachBytes:=by
     rw[hy1] at fi1
     have:=qf2 fi1
     rwa [Array.length_toList] at this
    refine⟨(.mk z s l,v2),hcell 0 (by omega),hcell 1 (by omega),hcell 2 (by omega),hk,qj3 ?_ (fun y hy=>(hg y hy).1),?_⟩
    ·simpa[qh7,Lit.wf,IntKind.min,IntKind.max,IntKind.signed,IntKind.bits] using hz
    ·rw[qcQ]
     exact Nat.max_le.2 ⟨hs,qfB fun y hy=>(hg y hy).2⟩
   by_cases h0:len=0
   ·subst h0
    exact⟨_,[],rfl,.mk _ _ [] 0 0 (fun _=>.slice none 0 0) (fun h=>absurd h (by simp)) (by simp) (fun i x hx=>by simp at hx) (fun i x hx=>by simp at hx),fun y hy=>by cases hy⟩
   ·have hch:∀i,∃q:qb×Value,i<len→W.cell? (a.add (i*3))=some (.int .i64 q.1.kind)∧W.cell? ((a.add (i*3)).add 1)=some (.string q.1.text)∧W.cell? ((a.add (i*3)).add 2)=some q.2∧qo W (fun _=>True) q.2 q.1.kids∧qfi q.1:=fun i=>by
     by_cases hi:i<len
     ·obtain⟨q,hq⟩:=each i hi;exact⟨q,fun _=>hq⟩
     ·exact⟨(zeroN,.slice none 0 0),fun h=>absurd h hi⟩
    obtain⟨q,hq⟩:=Classical.axiomOfChoice hch
    have ha:a=⟨a.block,a.off,none⟩:=by
     have:=(hq 0 (by omega)).1
     rw[Nat.zero_mul,show a.add 0=a by unfold Addr.add;simp] at this
     exact qhk this
    obtain⟨b,o,s⟩:=a
    cases ha
    have hget:∀i x,((List.range len).map fun i=>(q i).1)[i]? =some x→i<len∧x=(q i).1:=fun i x hx=>by
     rw[List.getElem?_map,Option.map_eq_some_iff] at hx
     obtain⟨j,hj,rfl⟩:=hx
     obtain⟨h1,h2⟩:=List.getElem?_eq_some_iff.1 hj
     simp at h1 h2
     exact⟨h1,by rw[h2]⟩
    have hadd:∀i k,((⟨b,o,none⟩:Addr).add (i*3)).add k=⟨b,o+i*3+k,none⟩:=fun i k=>by
     have e1:∀(o j:Nat),(⟨b,o,none⟩:Addr).add j=⟨b,o+j,none⟩:=fun o j=>by unfold Addr.add;split<;>simp_all
     rw[e1,e1]
    have hadd0:∀i,(⟨b,o,none⟩:Addr).add (i*3)=⟨b,o+i*3,none⟩:=fun i=>by unfold Addr.add;split<;>simp_all
    have hll:((List.range len).map fun i=>(q i).1).length =len:=by simp
    refine⟨_,(List.range len).map fun i=>(q i).1,rfl,?_,fun y hy=>?_⟩
    ·have:=qo.mk (w:=W) (S:=fun _=>True) (some ⟨b,o,none⟩) cap ((List.range len).map fun i=>(q i).1) b o (fun i=>(q i).2) (fun _=>⟨rfl,trivial⟩) (by rw[hll];unfold reachBytes at hf1;omega)
      (fun i x hx=>by
       obtain⟨hi,rfl⟩:=hget i x hx
       obtain⟨c0,c1,c2,-⟩:=hq i hi
       rw[hadd0] at c0
       rw[hadd] at c1 c2
       exact⟨c0,c1,c2⟩)
      (fun i x hx=>by
       obtain⟨hi,rfl⟩:=hget i x hx
       exact(hq i hi).2.2.2.1)
     rwa [hll] at this
    ·obtain⟨i,hi,rfl⟩:=List.mem_map.1 hy
     exact(hq i (List.mem_range.1 hi)).2.2.2.2
theorem node_open{H:Type}{enc:TypeId×Value→H}{W:World}{r:Go.Reach}{b0:Nat}{sp:Nat→Bool}{v:Value}{d:DataW H}{ps:List MemPlace}
  (hval:Value.okWide Tryz.prog W r b0 24 v)(hd:DataW.Trod enc Tryz.prog W 0 sp true 24 v d ps)(hf:Fits 24 d):
  ∃n u,v=qbQ n u∧qo W (fun _=>True) u n.kids∧qfi n:=by
 obtain⟨v0,v1,v2,y0,y1,y2,m,rfl,rfl,rfl,g0,g1,g2⟩:=open_agg3 Tryz.underlying24 (by kernel_rfl) qj6 hval hd
 obtain⟨fi1,fi2⟩:=qgI Tryz.underlying24 hf
 obtain⟨z,e0,-,hz⟩:=DataW.trod_int Tryz.underlying3 g0
 obtain⟨s,e1,hy1,-⟩:=DataW.trod_string Tryz.underlying9 g1
 obtain⟨u,l,e2,hk,hg⟩:=qkL m _ _ g2 fi2
 cases e0
 cases e1
 cases e2
 have hs:s.size≤reachBytes:=by
  rw[hy1] at fi1
  have:=qf2 fi1
  rwa [Array.length_toList] at this
 refine⟨.mk z s l,v2,rfl,hk,qj3 ?_ (fun y hy=>(hg y hy).1),?_⟩
 ·simpa[qh7,Lit.wf,IntKind.min,IntKind.max,IntKind.signed,IntKind.bits] using hz
 ·rw[qcQ]
  exact Nat.max_le.2 ⟨hs,qfB fun y hy=>(hg y hy).2⟩
end Go.Proofs.YtakbenifinnpfaaGreatDoor
namespace Go.Proofs.YtakbenifinnpfaaGreatDoor
open Go.RowKit Go.Sub
inductive WM where
 |whole (f:Int)
 |put (l f:Int)
 |term
 |value
 |unit
def qa6(x:qb)(l f:Int):Bool:=
 if x.kind=24 then decide (qI x.text<l) else if x.kind=25 then decide (9≤f) else if x.kind=26∨x.kind=27∨x.kind=29 then decide (1≤f) else false
def qci(k:Int):Bool:=[24,25,26,27,29,15].contains k
def mapI(f:Nat→qb→qb):Nat→List qb→List qb
 |_,[]=>[]
 |i,x::r=>f i x::mapI f (i+1) r
theorem qbg(f:Nat→qb→qb):∀(l:List qb) (i:Nat),(mapI f i l).length =l.length
 |[],_=>rfl
 |x::r,i=>by simp[mapI,qbg f r]
theorem qf7(f:Nat→qb→qb):∀(l:List qb) (i j:Nat),(mapI f i l)[j]? =(l[j]?).map (f (i+j))
 |[],_,_=>by simp[mapI]
 |x::r,i,0=>by simp[mapI]
 |x::r,i,j+1=>by simp only[mapI,List.getElem?_cons_succ];rw[qf7 f r (i+1) j,show i+1+j=i+(j+1) by omega]
theorem qgL(f:Nat→qb→qb){l:List qb}{j:Nat}{x:qb}(h:l[j]? =some x):mapI f 0 (l.take (j+1))=mapI f 0 (l.take j)++[f j x]:=by
 have hj:j<l.length:=(List.getElem?_eq_some_iff.1 h).1
 refine List.ext_getElem? fun i=>?_
 rw[qf7,List.getElem?_take]
 by_cases hi:i<j
 ·rw[if_pos (by omega),List.getElem?_append_left (by rw[qbg,List.length_take];omega),qf7,List.getElem?_take,if_pos hi]
 ·rw[List.getElem?_append_right (by rw[qbg,List.length_take];omega),qbg,List.length_take,Nat.min_eq_left (by omega)]
  by_cases he:i=j
  ·subst he;rw[if_pos (by omega),h];simp
  ·rw[if_neg (by omega),List.getElem?_eq_none (by simp;omega)];rfl
def kidM(k:Int)(t:ByteArray)(n i:Nat)(f:Int):WM:=
 if k=24 then if n=2 then if i=0 then .put (qM t 1) (qI t) else .put (qM t 2) f else .put 1 0
 else if k=25 then if i=0 then .put 9 f else .put 1 0
 else if k=27 then if i=0 then .put 1 f else .put 1 0
 else if k=26 then if i=0 then .term else if i=2 then .put 1 f else .put 1 0
 else if k=29 then if i+1=n then .put 1 f else .put 1 0
 else if k=15 then .term
 else if 16≤k∧k≤23 then if i=0 then .term else .put 1 0
 else if k=11 then if i=1 then .value else .put 1 0
 else .put 1 0
def qbc(x:qb):qb:=.mk 12 ⟨#[]⟩ [x]
def qw:Nat→WM→qb→qb
 |0,_,x=>x
 |F+1,.whole f,x=>.mk x.kind x.text (mapI (fun i y=>qw F (kidM x.kind x.text x.kids.length i f) y) 0 x.kids)
 |F+1,.put l f,x=>if qa6 x l f then qbc (qw F (.whole 0) x) else qw F (.whole f) x
 |F+1,.term,x=>if qci x.kind then qbc (qw F (.whole 0) x) else qw F (.whole 0) x
 |F+1,.unit,x=>if x.kind=25∧x.kids.length=1 then .mk 25 ⟨#[]⟩ (mapI (fun _ y=>qw F .unit y) 0 x.kids) else qw F .term x
 |F+1,.value,x=>if x.kind=24∧x.text=⟨#[124]⟩∧x.kids.length=2 then .mk 24 ⟨#[124]⟩ (mapI (fun i y=>qw F (if i=0 then .unit else .value) y) 0 x.kids) else qw F .unit x
def qbk:WM→Nat
 |.whole _=>0
 |.put _ _=>1
 |.term =>1
 |.unit =>2
 |.value =>3
def qd5(k:Int)(t:ByteArray)(l:List qb):qb:=if k=12∧l.length=1 then l.headD (.mk k t l) else .mk k t l
mutual
def qJ:qb→qb
 |.mk k t l=>qd5 k t (qek l)
def qek:List qb→List qb
 |[]=>[]
 |x::r=>qJ x::qek r
end
theorem qgB:∀l:List qb,qek l=l.map qJ
 |[]=>rfl
 |x::r=>by rw[qek,qgB r,List.map_cons]
theorem qhH(x:qb):qJ x=qd5 x.kind x.text (x.kids.map qJ):=by
 obtain⟨k,t,l⟩:=x
 rw[qJ,qgB]
 rfl
def qbO(x:qb):qb:=qw (4*qbv (qJ x)+4) (.put 1 0) (qJ x)
end Go.Proofs.YtakbenifinnpfaaGreatDoor
namespace Go.Proofs.YtakbenifinnpfaaGreatDoor
open Go.RowKit Go.Sub
attribute [local go_sem] Instr.field asAgg
def NRes(w:World)(x:qb)(e:Ending)(w':World):Prop:=∃u,e=.returned (.agg #[.int .i64 x.kind,.string x.text,u])∧qo w' (fun b=>w.heap.size≤b) u x.kids∧Below w.heap.size w w'
theorem Fr.toldN{w W:World}{bs:List Bx}{rs:List Rw}{ks:List Fact}{x:qb}{u:Value}(h:Fr (fun _=>False) w W bs rs (qk u x.kids::ks)):NRes w x (.returned (.agg #[.int .i64 x.kind,.string x.text,u])) W:=
 ⟨u,rfl,h.low' _ (fun c hc=>hc.elim (fun h=>h.elim) id) List.mem_cons_self,h.low⟩
theorem qb9(w:World)(T:TypeId)(x y z:Value):Fr (fun _=>False) w (w.alloc (.cells #[x,y,z] T)) [⟨w.heap.size,T,[x,y,z]⟩] [] []:=(Fr.new0 w).lay _ _
theorem qap(w:World)(x y z:Value):Fr (fun _=>False) w ((w.alloc (.cells #[x,y,z] 24)).alloc (.cells #[.int .i64 0,.string ⟨#[]⟩,.slice none 0 0] 24)) [⟨w.heap.size,24,[x,y,z]⟩,⟨w.heap.size+1,24,[.int .i64 0,.string ⟨#[]⟩,.slice none 0 0]⟩] [] []:=(Fr.new0 w).lay2 _ _ _ _
theorem qcR(x:qb)(u:Value)(l f:Int)(w:World)(hT:(TabX) w):
  Calls Tryz.prog 21 #[.agg #[.int .i64 x.kind,.string x.text,u],.int .i64 l,.int .i64 f] w fun e w'=>e=.returned (.bool (qa6 x l f))∧Below w.heap.size w w':=by
 obtain⟨k,t,ks⟩:=x
 have H0:=qh (qb9 w 24 (.int .i64 k) (.string t) u)
 have HT:=qh (hT.below H0.out.low)
 have hl:=H0.out.low
 simp only[qb.kind_mk,qb.text_mk]
 by_cases k1:k=24
 ·subst k1
  have e:qa6 (.mk 24 t ks) l f=decide (qI t<l):=rfl
  rw[e]
  clear e hT
  have QL:=qh (fun U (hU:(TabX) U)=>qfz t U hU)
  have HL:=qh hl
  clear hl
  go_enter Tryz.func21,Tryz.ntmps21
  go_wp2_with(go_at_call 34;refine(QL.out _ HT.out).mono ?_;rintro e w1 ⟨rfl,hb⟩;have HB:=qh hb;clear hb)
  go_ret
  exact⟨rfl,HL.out.trans (HB.out.mono HL.out.size)⟩
 ·by_cases k2:k=25
  ·subst k2
   have e:qa6 (.mk 25 t ks) l f=decide (9≤f):=rfl
   rw[e]
   clear e hT
   go_enter Tryz.func21,Tryz.ntmps21
   go_wp2
   go_ret
   exact⟨rfl,hl⟩
  ·by_cases k3:k=26∨k=27∨k=29
   ·have e:qa6 (.mk k t ks) l f=decide (1≤f):=(if_neg k1).trans ((if_neg k2).trans (if_pos k3))
    rw[e]
    clear e hT
    rcases k3 with rfl|rfl|rfl
    all_goals
     go_enter Tryz.func21,Tryz.ntmps21
     go_wp2
     go_ret
     exact⟨rfl,hl⟩
   ·have e:qa6 (.mk k t ks) l f=false:=(if_neg k1).trans ((if_neg k2).trans (if_neg k3))
    rw[e]
    obtain⟨k4,k5⟩:=not_or.1 k3
    obtain⟨k6,k7⟩:=not_or.1 k5
    have y1:(k==24)=false:=hW9 k1
    have y2:(k==25)=false:=hW9 k2
    have y3:(k==26)=false:=hW9 k4
    have y4:(k==27)=false:=hW9 k6
    have y5:(k==29)=false:=hW9 k7
    have z1:=eq_false k1
    have z2:=eq_false k2
    have z3:=eq_false k4
    have z4:=eq_false k6
    have z5:=eq_false k7
    clear e hT k1 k2 k3 k4 k5 k6 k7
    go_enter Tryz.func21,Tryz.ntmps21
    go_wp2
    go_ret
    exact⟨rfl,hl⟩
theorem qe5(x:qb)(u:Value)(l f:Int)(w:World)(hT:(fun _=>True) w):
  Calls Tryz.prog 25 #[.agg #[.int .i64 x.kind,.string x.text,u],.int .i64 l,.int .i64 f] w fun e w'=>e=.returned (.bool (qa6 x l f))∧Below w.heap.size w w':=by
 obtain⟨k,t,ks⟩:=x
 have H0:=qh (qb9 w 24 (.int .i64 k) (.string t) u)
 have HT:=qh (hT)
 have hl:=H0.out.low
 simp only[qb.kind_mk,qb.text_mk]
 by_cases k1:k=24
 ·subst k1
  have e:qa6 (.mk 24 t ks) l f=decide (qI t<l):=rfl
  rw[e]
  clear e hT
  have QL:=qh (fun U (hU:(fun _=>True) U)=>qY t U)
  have HL:=qh hl
  clear hl
  go_enter Tryz.func25,Tryz.ntmps25
  go_wp2_with(go_at_call 38;refine(QL.out _ HT.out).mono ?_;rintro e w1 ⟨rfl,hb⟩;have HB:=qh hb;clear hb)
  go_ret
  exact⟨rfl,HL.out.trans (HB.out.mono HL.out.size)⟩
 ·by_cases k2:k=25
  ·subst k2
   have e:qa6 (.mk 25 t ks) l f=decide (9≤f):=rfl
   rw[e]
   clear e hT
   go_enter Tryz.func25,Tryz.ntmps25
   go_wp2
   go_ret
   exact⟨rfl,hl⟩
  ·by_cases k3:k=26∨k=27∨k=29
   ·have e:qa6 (.mk k t ks) l f=decide (1≤f):=(if_neg k1).trans ((if_neg k2).trans (if_pos k3))
    rw[e]
    clear e hT
    rcases k3 with rfl|rfl|rfl
    all_goals
     go_enter Tryz.func25,Tryz.ntmps25
     go_wp2
     go_ret
     exact⟨rfl,hl⟩
   ·have e:qa6 (.mk k t ks) l f=false:=(if_neg k1).trans ((if_neg k2).trans (if_neg k3))
    rw[e]
    obtain⟨k4,k5⟩:=not_or.1 k3
    obtain⟨k6,k7⟩:=not_or.1 k5
    have y1:(k==24)=false:=hW9 k1
    have y2:(k==25)=false:=hW9 k2
    have y3:(k==26)=false:=hW9 k4
    have y4:(k==27)=false:=hW9 k6
    have y5:(k==29)=false:=hW9 k7
    have z1:=eq_false k1
    have z2:=eq_false k2
    have z3:=eq_false k4
    have z4:=eq_false k6
    have z5:=eq_false k7
    clear e hT k1 k2 k3 k4 k5 k6 k7
    go_enter Tryz.func25,Tryz.ntmps25
    go_wp2
    go_ret
    exact⟨rfl,hl⟩
theorem qiZ(x:qb)(u:Value)(l f:Int)(w:World):Calls Tryz.prog 25 #[.agg #[.int .i64 x.kind,.string x.text,u],.int .i64 l,.int .i64 f] w fun e w'=>e=.returned (.bool (qa6 x l f))∧Below w.heap.size w w':=qe5 x u l f w trivial
end Go.Proofs.YtakbenifinnpfaaGreatDoor
namespace Go.Sub
open Go.RowKit
def qaO:Nat→List (Int×Value)→List MapEntry
 |_,[]=>[]
 |i,(k,v)::r=>{key:=.int .i64 k,val:=v,born:=i}::qaO (i+1) r
theorem qfS(k:Int)(v:Value):∀(kvs:List (Int×Value)) (i:Nat),qaO i (kvs++[(k,v)])=qaO i kvs++[{key:=.int .i64 k,val:=v,born:=i+kvs.length}]
 |[],i=>by simp[qaO]
 |(a,b)::r,i=>by simp[qaO,qfS k v r,Nat.add_assoc,Nat.add_comm 1]
def qbB(kvs:List (Int×Value)):Obj:=.map (qaO 0 kvs).toArray kvs.length
def qaB:List (Int×Value)→Int→Option Value
 |[],_=>none
 |(k,v)::r,s=>if k=s then some v else qaB r s
theorem qev(s:Int):∀(kvs:List (Int×Value)) (i j:Nat),qaB kvs s=none→Instr.findNow (.int .i64) (.int .i64 s) (qaO i kvs) j=some none
 |[],_,_,_=>rfl
 |(k,v)::r,i,j,h=>by
  unfold qaB at h
  by_cases hk:k=s
  ·rw[if_pos hk] at h;cases h
  ·rw[if_neg hk] at h
   have hb:(s==k)=false:=Bool.eq_false_iff.2 fun e=>hk (beq_iff_eq.1 e).symm
   simp only[qaO,Instr.findNow,Instr.sameNow,if_true,hb]
   exact qev s r (i+1) (j+1) h
def idxI:List (Int×Value)→Int→Nat
 |[],_=>0
 |(k,_)::r,s=>if k=s then 0 else idxI r s+1
theorem qep(s:Int)(v:Value):∀(kvs:List (Int×Value)) (i j:Nat),qaB kvs s=some v→Instr.findNow (.int .i64) (.int .i64 s) (qaO i kvs) j=some (some (j+idxI kvs s,v))
 |[],_,_,h=>by cases h
 |(k,u)::r,i,j,h=>by
  unfold qaB at h
  by_cases hk:k=s
  ·rw[if_pos hk] at h;cases h
   have hb:(s==k)=true:=beq_iff_eq.2 hk.symm
   simp only[qaO,Instr.findNow,Instr.sameNow,if_true,hb,idxI,if_pos hk,Nat.add_zero]
  ·rw[if_neg hk] at h
   have hb:(s==k)=false:=Bool.eq_false_iff.2 fun e=>hk (beq_iff_eq.1 e).symm
   simp only[qaO,Instr.findNow,Instr.sameNow,if_true,hb,idxI,if_neg hk]
   rw[qep s v r (i+1) (j+1) h,show j+1+idxI r s=j+(idxI r s+1) by omega]
def putI:List (Int×Value)→Int→Value→List (Int×Value)
 |[],s,v=>[(s,v)]
 |(k,u)::r,s,v=>if k=s then(s,v)::r else(k,u)::putI r s v
theorem qhb(s:Int)(v:Value):∀kvs:List (Int×Value),qaB kvs s=none→putI kvs s v=kvs++[(s,v)]
 |[],_=>rfl
 |(k,u)::r,h=>by
  unfold qaB at h
  by_cases hk:k=s
  ·rw[if_pos hk] at h;cases h
  ·rw[if_neg hk] at h
   rw[putI,if_neg hk,qhb s v r h];rfl
theorem qfx(s:Int)(v u:Value):∀kvs:List (Int×Value),qaB kvs s=some u→(putI kvs s v).length =kvs.length
 |[],h=>by cases h
 |(k,u')::r,h=>by
  unfold qaB at h
  by_cases hk:k=s
  ·rw[putI,if_pos hk];rfl
  ·rw[if_neg hk] at h
   rw[putI,if_neg hk,List.length_cons,qfx s v u r h];rfl
theorem qgJ(s:Int)(u:Value):∀(kvs:List (Int×Value)) (i:Nat),qaB kvs s=some u→((qaO i kvs)[idxI kvs s]?).map (·.key)=some (.int .i64 s)
 |[],_,h=>by cases h
 |(k,u')::r,i,h=>by
  unfold qaB at h
  by_cases hk:k=s
  ·simp[idxI,qaO,hk]
  ·rw[if_neg hk] at h
   simp only[idxI,if_neg hk,qaO,List.getElem?_cons_succ]
   exact qgJ s u r (i+1) h
theorem qgZ(s:Int)(u v:Value):∀(kvs:List (Int×Value)) (i:Nat),qaB kvs s=some u→(qaO i kvs).modify (idxI kvs s) (fun e=>{e with key:=.int .i64 s,val:=v})=qaO i (putI kvs s v)
 |[],_,h=>by cases h
 |(k,u')::r,i,h=>by
  unfold qaB at h
  by_cases hk:k=s
  ·simp[idxI,if_pos hk,qaO,putI]
  ·rw[if_neg hk] at h
   simp only[idxI,if_neg hk,qaO,putI,List.modify_succ_cons]
   rw[qgZ s u v r (i+1) h]
variable {P:Program} {w:World} {b t k e:Nat} {kvs:List (Int×Value)}
theorem qbF(hk:P.underlying k=some (.int .i64))(em:Bool)(s:Int)(w:World):(Instr.checkKey em 10000 k (.int .i64 s)).run P w=.ok () w:=by
 unfold Instr.checkKey
 simp[run_underlying hk,Result.andThen]
theorem qcX(hk:P.underlying k=some (.int .i64))(s:Int)(w:World)(h:qaB kvs s=none):(Instr.findKey k (.int .i64 s) (qaO 0 kvs)).run P w=.ok none w:=by
 unfold Instr.findKey
 simp[run_underlying hk,Result.andThen,qev s kvs 0 0 h]
theorem qcW(hk:P.underlying k=some (.int .i64))(s:Int)(v:Value)(w:World)(h:qaB kvs s=some v):(Instr.findKey k (.int .i64 s) (qaO 0 kvs)).run P w=.ok (some (idxI kvs s,v)) w:=by
 have hm:=qep s v kvs 0 0 h
 rw[Nat.zero_add] at hm
 unfold Instr.findKey
 simp[run_underlying hk,Result.andThen,hm]
theorem qfr(ht:P.underlying t=some (.map k e))(hk:P.underlying k=some (.int .i64)){z:Value}(hz:(zeroValue e).run P w=.ok z w)(hb:w.heap[b]? =some (qbB kvs))(s:Int)(c:Bool):
  (Instr.lookup t (.map (some b)) (.int .i64 s) c).run P w=.ok (if c then .tuple #[(qaB kvs s).getD z,.bool (qaB kvs s).isSome] else(qaB kvs s).getD z) w:=by
 unfold qbB at hb
 unfold Instr.lookup
 cases h:qaB kvs s with
 |none=>simp[run_underlying ht,MapKept.run_getObj_map hb,qbF hk,qcX hk s w h,hz,Result.andThen]
 |some v=>
  have hm:=qcW hk s v w h
  simp[run_underlying ht,MapKept.run_getObj_map hb,qbF hk,hm,Result.andThen]
theorem qeo(s:Int)(w:World):(Instr.keyThatStays (.int .i64 s) (.int .i64 s)).run P w=.ok (.int .i64 s) w:=by
 unfold Instr.keyThatStays
 have hb:(s==s)=true:=beq_iff_eq.2 rfl
 simp[Instr.sameBits,hb]
theorem qgx(ht:P.underlying t=some (.map k e))(hk:P.underlying k=some (.int .i64))(hb:w.heap[b]? =some (qbB kvs))(s:Int)(v:Value):
  (Instr.mapUpdate t (.map (some b)) (.int .i64 s) v).run P w=.ok () (w.putObj b (qbB (putI kvs s v))):=by
 cases h:qaB kvs s with
 |none=>
  rw[qhb s v kvs h]
  unfold qbB at hb
  unfold Instr.mapUpdate
  simp[run_underlying ht,MapKept.run_getObj_map hb,qbF hk,qcX hk s w h,MapKept.run_setObj_map _ hb,Result.andThen,World.putObj,qbB,qfS]
 |some u=>
  unfold qbB at hb
  unfold Instr.mapUpdate
  have hm:=qcW hk s u w h
  have hi:=qgJ s u kvs 0 h
  have hp:=qgZ s u v kvs 0 h
  have hl:=qfx s v u kvs h
  have hi':((qaO 0 kvs).toArray[idxI kvs s]?).map (·.key)=some (.int .i64 s):=by simpa using hi
  simp[run_underlying ht,MapKept.run_getObj_map hb,qbF hk,hm,hi,qeo,MapKept.run_setObj_map _ hb,Result.andThen,World.putObj,qbB,hp,hl]
end Go.Sub
namespace Go.Proofs.YtakbenifinnpfaaGreatDoor
open Go.RowKit Go.Sub
attribute [local go_sem] Instr.field asAgg
abbrev qbE(p q:Nat):Value:=.func (.func 108) #[] #[.pointer (some ⟨p,0,none⟩),.pointer (some ⟨q,0,none⟩)]
def qck(w:World)(c:Nat)(W:World)(v:Value)(a l:Int):Prop:=∃p q:Nat,v=qbE p q∧W.cell? ⟨p,0,none⟩=some (.int .i64 a)∧W.cell? ⟨q,0,none⟩=some (.int .i64 l)∧p≠c∧q≠c∧w.heap.size≤p∧w.heap.size≤q
theorem qec(a l:Int)(c:Nat)(w:World)(hc:c<w.heap.size):Calls Tryz.prog 73 #[.int .i64 a,.int .i64 l] w fun e w'=>∃p q:Nat,e=.returned (qbE p q)∧qck w c w' (qbE p q) a l∧Below w.heap.size w w':=by
 go_enter Tryz.func73,Tryz.ntmps73
 go_wp2
 go_ret
 refine⟨w.heap.size,w.heap.size+1,rfl,⟨_,_,rfl,?_,?_,by omega,by omega,Nat.le_refl _,Nat.le_succ _⟩,((Below.refl _ w).alloc (Nat.le_refl _) _).alloc (by simp) _⟩
 ·rw[World.cell?_alloc_old _ _ _ (by simp)]
  exact qa (World.alloc_heap_new w _) rfl
 ·have:=World.alloc_heap_new (w.alloc (.cells #[.int .i64 a] 3)) (.cells #[.int .i64 l] 3)
  rw[World.size_alloc] at this
  exact qa this rfl
structure qaS(w:World)(b:Nat)(W:World)(kvs:List (Int×Value))(es:List (Value×Int×Int)):Prop where
 low:Below w.heap.size w W
 ge:w.heap.size≤b
 map:W.heap[b]? =some (qbB kvs)
 edges:∀e∈es,qck w b W e.1 e.2.1 e.2.2
theorem qck.keeps{w W U:World}{c:Nat}{v:Value}{a l:Int}(h:qck w c W v a l)(k:qe (fun b=>b=c) W U):qck w c U v a l:=by
 obtain⟨p,q,e,h1,h2,h3,h4,h5⟩:=h
 exact⟨p,q,e,k.cell h1 h3,k.cell h2 h4,h3,h4,h5⟩
theorem qck.stays{w W U:World}{c:Nat}{v:Value}{a l:Int}(h:qck w c W v a l)(k:Below W.heap.size W U):qck w c U v a l:=
 h.keeps ((qe.of_below' (O:=fun _=>False) k).mono fun _ _ h=>h.elim)
theorem qaS.stays{w W U:World}{b:Nat}{kvs:List (Int×Value)}{es:List (Value×Int×Int)}(h:qaS w b W kvs es)(k:Below W.heap.size W U):qaS w b U kvs es:=
 ⟨h.low.trans (k.mono h.low.size),h.ge,(k.block _ (qbi h.map)).trans h.map,fun e he=>(h.edges e he).stays k⟩
theorem qaS.edge{w W U:World}{b:Nat}{kvs:List (Int×Value)}{es:List (Value×Int×Int)}{v:Value}{a l:Int}(h:qaS w b W kvs es)(k:Below W.heap.size W U)(he:qck W b U v a l):qaS w b U kvs (es++[(v,a,l)]):=
 ⟨(h.stays k).low,h.ge,(h.stays k).map,fun e hm=>by
  rcases List.mem_append.1 hm with hm|hm
  ·exact(h.stays k).edges e hm
  ·obtain rfl:e=(v,a,l):=by simpa using hm
   obtain⟨p,q,e1,e2,e3,e4,e5,e6,e7⟩:=he
   exact⟨p,q,e1,e2,e3,e4,e5,Nat.le_trans h.low.size e6,Nat.le_trans h.low.size e7⟩⟩
theorem qaS.put{w W:World}{b:Nat}{kvs:List (Int×Value)}{es:List (Value×Int×Int)}(h:qaS w b W kvs es)(k:Int)(v:Value):qaS w b (W.putObj b (qbB (putI kvs k v))) (putI kvs k v) es:=by
 have kp:qe (fun c=>c=b) W (W.putObj b (qbB (putI kvs k v))):=qe.putObj W b _ rfl
 exact⟨h.low.trans (kp.below h.low.size fun c hc=>by rw[hc];exact h.ge),h.ge,World.putObj_heap_same (qbi h.map),fun e he=>(h.edges e he).keeps kp⟩
theorem qeH:Tryz.prog.underlying 91=some (.map 3 90):=by kernel_rfl
theorem qg6:Tryz.prog.underlying 3=some (.int .i64):=by kernel_rfl
theorem qaS.run{w W:World}{b:Nat}{kvs:List (Int×Value)}{es:List (Value×Int×Int)}(h:qaS w b W kvs es)(k:Int)(v:Value):∃U,(Instr.mapUpdate 91 (.map (some b)) (.int .i64 k) v).run Tryz.prog W=.ok () U∧qaS w b U (putI kvs k v) es:=
 ⟨_,qgx qeH qg6 h.map k v,h.put k v⟩
theorem qls(w:World):qaS w w.heap.size (w.alloc (.map #[] 0)) [] []:=⟨(Below.refl _ w).alloc (Nat.le_refl _) _,Nat.le_refl _,World.alloc_heap_new w _,fun e h=>by simp at h⟩
def fnV(g:Nat):Value:=.func (.func g) #[] #[]
def qih(kvs:List (Int×Value)):Nat→List (Int×Value)
 |0=>kvs
 |j+1=>putI (qih kvs j) (16+(j:Int)) (.func (.func 82) #[] #[])
def qcB(a b c:Value):List (Int×Value):=qih (putI (putI (putI (putI (putI (putI (putI [] 25 a) 27 b) 29 c) 24 (.func (.func 74) #[] #[])) 26 (.func (.func 77) #[] #[])) 15 (.func (.func 79) #[] #[])) 11 (.func (.func 80) #[] #[])) 8
theorem qjh(w:World):Calls Tryz.prog 59 #[] w fun e w'=>∃a b c,e=.returned (.map (some w.heap.size))∧qaS w w.heap.size w' (qcB a b c) [(a,0,9),(b,0,1),(c,-1,1)]:=by
 have hmm:=@run_makeMap Tryz.prog
 have H0:=qh (qls w)
 go_enter Tryz.func59,Tryz.ntmps59
 go_wp2_with(go_at_call 73;refine(qec _ _ w.heap.size _ (qbi H0.out.map)).mono ?_;rintro e w1 ⟨p0,q0,rfl,he,hb⟩;have H1:=qh (H0.out.edge hb he);clear he hb H0)
 obtain⟨w2,hr,hh⟩:=H1.out.run 25 (qbE p0 q0)
 rw[hr]
 have H2:=qh hh
 clear hr hh H1
 go_wp2_with(go_at_call 73;refine(qec _ _ w.heap.size _ (qbi H2.out.map)).mono ?_;rintro e w3 ⟨p1,q1,rfl,he,hb⟩;have H3:=qh (H2.out.edge hb he);clear he hb H2)
 obtain⟨w4,hr,hh⟩:=H3.out.run 27 (qbE p1 q1)
 rw[hr]
 have H4:=qh hh
 clear hr hh H3
 go_wp2_with(go_at_call 73;refine(qec _ _ w.heap.size _ (qbi H4.out.map)).mono ?_;rintro e w5 ⟨p2,q2,rfl,he,hb⟩;have H5:=qh (H4.out.edge hb he);clear he hb H4)
 obtain⟨w6,hr,hh⟩:=H5.out.run 29 (qbE p2 q2)
 rw[hr]
 have H6:=qh hh
 clear hr hh H5
 go_wp2
 obtain⟨w7,hr,hh⟩:=H6.out.run 24 (.func (.func 74) #[] #[])
 rw[hr]
 have H7:=qh hh
 clear hr hh H6
 go_wp2
 obtain⟨w8,hr,hh⟩:=H7.out.run 26 (.func (.func 77) #[] #[])
 rw[hr]
 have H8:=qh hh
 clear hr hh H7
 go_wp2
 obtain⟨w9,hr,hh⟩:=H8.out.run 15 (.func (.func 79) #[] #[])
 rw[hr]
 have H9:=qh hh
 clear hr hh H8
 go_wp2
 obtain⟨w10,hr,hh⟩:=H9.out.run 11 (.func (.func 80) #[] #[])
 rw[hr]
 have H10:=qh hh
 clear hr hh H9
 go_wp2
 have h11:=H10.out
 simp only[List.nil_append,List.cons_append] at h11
 obtain⟨kv0,hkv⟩:∃kv,kv=(putI (putI (putI (putI (putI (putI (putI [] 25 (qbE p0 q0)) 27 (qbE p1 q1)) 29 (qbE p2 q2)) 24 (.func (.func 74) #[] #[])) 26 (.func (.func 77) #[] #[])) 15 (.func (.func 79) #[] #[])) 11 (.func (.func 80) #[] #[])):=⟨_,rfl⟩
 rw[←hkv] at h11
 have H11:=qh h11
 have HKV:=qh hkv
 clear h11 hkv hmm H10
 go_loopw [2] (fun i wr=>∃j:Nat,j≤8∧i=.int .i64 (16+(j:Int))∧Hid (qaS w w.heap.size wr (qih kv0 j) [(qbE p0 q0,0,9),(qbE p1 q1,0,1),(qbE p2 q2,-1,1)])) (fun i _=>24- (intOf i).toNat)
 case atStart=>exact⟨0,by omega,rfl,H11⟩
 case round=>
  obtain⟨j,hj,rfl,HW⟩:=hrel
  by_cases hlt:j<8
  ·have y1:((16+(j:Int))≤23)=True:=eq_true (by omega)
   have y2:decide ((16+(j:Int))≤23)=true:=decide_eq_true (by omega)
   clear H11
   go_wp2
   obtain⟨w12,hr,hh⟩:=HW.out.run (16+(j:Int)) (.func (.func 82) #[] #[])
   rw[hr]
   have HW2:=qh hh
   clear hr hh HW
   go_wp2
   go_roundw
   case rel=>exact⟨j+1,by omega,by go_num,HW2⟩
   case measure=>simp[intOf];omega
  ·obtain rfl:j=8:=by omega
   go_wp2
   go_ret
   refine⟨qbE p0 q0,qbE p1 q1,qbE p2 q2,rfl,?_⟩
   have h:=HW.out
   rw[HKV.out] at h
   exact h
def putV:WM→Value
 |.put l f=>.func (.func 29) #[.agg #[.int .i64 l,.int .i64 f]] #[]
 |.term =>.func (.func 78) #[] #[]
 |.value =>.func (.func 81) #[] #[]
 |_=>.nilFunc
def optV:Option WM→Value
 |none=>.nilFunc
 |some m=>putV m
def qdU(w:World)(m:Option WM)(e:Ending)(w':World):Prop:=e=.returned (optV m)∧Below w.heap.size w w'
def qcL(a l:Int)(n i:Nat)(f:Int):Option WM:=if(i:Int)=a∨(a<0∧(i:Int)=(n:Int)+a) then some (.put l f) else none
def binM(t:ByteArray)(n i:Nat)(f:Int):Option WM:=if n=2 then if i=0 then some (.put (qM t 1) (qI t)) else some (.put (qM t 2) f) else none
def asM(i:Nat)(n:Nat)(f:Int):Option WM:=if i=0 then some .term else qcL 2 1 n i f
theorem qfv(k:Int)(t:ByteArray)(p:Option Addr)(n c i:Nat)(f a l:Int)(hn:n≤4611686018427387904)(ha: -1≤a)(ha2:a≤9)(b1 b2:Nat)(w:World)(h1:w.cell? ⟨b1,0,none⟩=some (.int .i64 a))(h2:w.cell? ⟨b2,0,none⟩=some (.int .i64 l)):
  Calls Tryz.prog 108 #[.agg #[.int .i64 k,.string t,.slice p n c],.int .i64 (i:Int),.int .i64 f,.pointer (some ⟨b1,0,none⟩),.pointer (some ⟨b2,0,none⟩)] w (qdU w (qcL a l n i f)):=by
 have H0:=qh (qb9 w 24 (.int .i64 k) (.string t) (.slice p n c))
 have hl:=H0.out.low
 have k1:=(hl.cell (World.block_lt_of_cell? _ _ h1)).trans h1
 have k2:=(hl.cell (World.block_lt_of_cell? _ _ h2)).trans h2
 have HL:=qh hl
 have y0:(0:Int)≤(n:Int):=by omega
 have y1:(n:Int)≤4611686018427387904:=by omega
 unfold qcL
 clear hl hn
 by_cases e1:(i:Int)=a
 ·rw[if_pos (.inl e1)]
  subst e1
  go_enter Tryz.func108,Tryz.ntmps108
  go_wp2
  go_ret
  exact⟨rfl,HL.out⟩
 ·have z1:((i:Int)==a)=false:=hW9 e1
  have z2:=eq_false e1
  by_cases e2:a<0
  ·have e2':a= -1:=by omega
   subst e2'
   by_cases e3:(i:Int)=(n:Int)+ -1
   ·rw[if_pos (.inr ⟨e2,e3⟩)]
    have z3:((i:Int)==(n:Int)+ -1)=true:=by simpa using e3
    clear e1 e2
    go_enter Tryz.func108,Tryz.ntmps108
    go_wp2
    go_ret
    exact⟨rfl,HL.out⟩
   ·rw[if_neg (fun h=>h.elim e1 fun h=>e3 h.2)]
    have z3:((i:Int)==(n:Int)+ -1)=false:=by simpa using e3
    have z4:=eq_false e3
    clear e1 e2 e3
    go_enter Tryz.func108,Tryz.ntmps108
    go_wp2
    go_ret
    exact⟨rfl,HL.out⟩
  ·rw[if_neg (fun h=>h.elim e1 fun h=>e2 h.1)]
   have z3:decide (a<0)=false:=decide_eq_false e2
   have z4:=eq_false e2
   clear e1 e2
   go_enter Tryz.func108,Tryz.ntmps108
   go_wp2
   go_ret
   exact⟨rfl,HL.out⟩
theorem qjd(k:Int)(t:ByteArray)(p:Option Addr)(n c i:Nat)(f:Int)(w:World):
  Calls Tryz.prog 82 #[.agg #[.int .i64 k,.string t,.slice p n c],.int .i64 (i:Int),.int .i64 f] w (qdU w (if i=0 then some .term else none)):=by
 have hl:=(qb9 w 24 (.int .i64 k) (.string t) (.slice p n c)).low
 by_cases e:i=0
 ·subst e
  rw[if_pos rfl]
  go_enter Tryz.func82,Tryz.ntmps82
  go_wp2
  go_ret
  exact⟨rfl,hl⟩
 ·rw[if_neg e]
  have z1:((i:Int)==0)=false:=hW9 (by omega)
  have z2:((i:Int)=0)=False:=eq_false (by omega)
  go_enter Tryz.func82,Tryz.ntmps82
  go_wp2
  go_ret
  exact⟨rfl,hl⟩
theorem qiG(k:Int)(t:ByteArray)(p:Option Addr)(n c i:Nat)(f:Int)(w:World):
  Calls Tryz.prog 80 #[.agg #[.int .i64 k,.string t,.slice p n c],.int .i64 (i:Int),.int .i64 f] w (qdU w (if i=1 then some .value else none)):=by
 have hl:=(qb9 w 24 (.int .i64 k) (.string t) (.slice p n c)).low
 by_cases e:i=1
 ·subst e
  rw[if_pos rfl]
  go_enter Tryz.func80,Tryz.ntmps80
  go_wp2
  go_ret
  exact⟨rfl,hl⟩
 ·rw[if_neg e]
  have z1:((i:Int)==1)=false:=hW9 (by omega)
  have z2:((i:Int)=1)=False:=eq_false (by omega)
  go_enter Tryz.func80,Tryz.ntmps80
  go_wp2
  go_ret
  exact⟨rfl,hl⟩
theorem qjZ(k:Int)(t:ByteArray)(p:Option Addr)(n c i:Nat)(f:Int)(w:World):
  Calls Tryz.prog 79 #[.agg #[.int .i64 k,.string t,.slice p n c],.int .i64 (i:Int),.int .i64 f] w (qdU w (some .term)):=by
 have hl:=(qb9 w 24 (.int .i64 k) (.string t) (.slice p n c)).low
 go_enter Tryz.func79,Tryz.ntmps79
 go_wp2
 go_ret
 exact⟨rfl,hl⟩
theorem qkm(k:Int)(t:ByteArray)(p:Option Addr)(n c i:Nat)(f:Int)(w:World)(hT:TabX w):
  Calls Tryz.prog 74 #[.agg #[.int .i64 k,.string t,.slice p n c],.int .i64 (i:Int),.int .i64 f] w (qdU w (binM t n i f)):=by
 have H0:=qh (qb9 w 24 (.int .i64 k) (.string t) (.slice p n c))
 have hl:=H0.out.low
 have HL:=qh hl
 have HT:=qh (hT.below hl)
 unfold binM
 clear hl hT
 by_cases e:n=2
 ·subst e
  rw[if_pos rfl]
  by_cases e0:i=0
  ·subst e0
   rw[if_pos rfl]
   go_enter Tryz.func74,Tryz.ntmps74
   go_upto_region 4 with(fail)
   obtain⟨W1,hW,h1⟩:=qd H0.out
   rewrite[←hW] at HT⊢
   clear hW H0
   obtain⟨⟨c0,c1,c2⟩,d0⟩:=h1.c3 0 rfl
   have show1:∀U,Below W1.heap.size W1 U→U.cell? ⟨w.heap.size,1,none⟩=some (.string t):=fun U hU=>((h1.stays hU).c3 0 rfl).1.2.1
   have SHOW:=qh show1
   have hb0:Below W1.heap.size W1 W1.drew:=(Below.refl _ _).drew
   have QL:=qh (fun U (hU:Below W1.heap.size W1 U)=>qfz t U (HT.out.below hU))
   have QF:=qh (fun U (hU:Below W1.heap.size W1 U)=>qkp t U (HT.out.below hU))
   have HL1:=qh h1.low
   clear show1 h1
   go_region_held3 (fun w'=>w'.cell? ⟨w.heap.size,1,none⟩=some (.string t))
    (with_reducible first|exact SHOW.out _ hb0|assumption|(refine SHOW.out _ ?_;assumption))
    (first
     |(go_at_call 75;with_reducible refine(QF.out _ (by with_reducible assumption)).mono ?_;rintro _ U ⟨rfl,bu⟩;have bb:Below W1.heap.size W1 U:=Below.trans (by with_reducible assumption) (bu.mono (Below.size (show Below W1.heap.size W1 _ by with_reducible assumption)));clear bu)
     |(go_at_call 34;with_reducible refine(QL.out _ (by with_reducible assumption)).mono ?_;rintro _ U ⟨rfl,bu⟩;have bb:Below W1.heap.size W1 U:=Below.trans (by with_reducible assumption) (bu.mono (Below.size (show Below W1.heap.size W1 _ by with_reducible assumption)));clear bu))
   all_goals
    have hbu:Below W1.heap.size W1 U:=by assumption
    go_wp2
    go_ret
    exact⟨rfl,HL1.out.trans (hbu.mono HL1.out.size)⟩
  ·rw[if_neg e0]
   have z1:((i:Int)==0)=false:=hW9 (by omega)
   have z2:((i:Int)=0)=False:=eq_false (by omega)
   have QR:=qh (fun U (hU:TabX U)=>qiQ t U hU)
   go_enter Tryz.func74,Tryz.ntmps74
   go_wp2_with(go_at_call 76;refine(QR.out _ HT.out).mono ?_;rintro e w1 ⟨rfl,hb⟩;have HB:=qh hb;clear hb)
   go_ret
   exact⟨rfl,HL.out.trans (HB.out.mono HL.out.size)⟩
 ·rw[if_neg e]
  have z1:((n:Int) != 2)=true:=by simp;omega
  have z2:((n:Int)=2)=False:=eq_false (by omega)
  go_enter Tryz.func74,Tryz.ntmps74
  go_wp2
  go_ret
  exact⟨rfl,HL.out⟩
theorem qjr(a l:Int)(w:World):Calls Tryz.prog 73 #[.int .i64 a,.int .i64 l] w fun e w'=>∃p q:Nat,e=.returned (.func (.func 108) #[] #[.pointer (some ⟨p,0,none⟩),.pointer (some ⟨q,0,none⟩)])∧w'.cell? ⟨p,0,none⟩=some (.int .i64 a)∧w'.cell? ⟨q,0,none⟩=some (.int .i64 l)∧Below w.heap.size w w':=by
 go_enter Tryz.func73,Tryz.ntmps73
 go_wp2
 go_ret
 refine⟨w.heap.size,w.heap.size+1,rfl,?_,?_,((Below.refl _ w).alloc (Nat.le_refl _) _).alloc (by simp) _⟩
 ·rw[World.cell?_alloc_old _ _ _ (by simp)]
  exact qa (World.alloc_heap_new w _) rfl
 ·have:=World.alloc_heap_new (w.alloc (.cells #[.int .i64 a] 3)) (.cells #[.int .i64 l] 3)
  rw[World.size_alloc] at this
  exact qa this rfl
theorem qli(k:Int)(t:ByteArray)(p:Option Addr)(n c i:Nat)(f:Int)(hn:n≤4611686018427387904)(w:World):
  Calls Tryz.prog 77 #[.agg #[.int .i64 k,.string t,.slice p n c],.int .i64 (i:Int),.int .i64 f] w (qdU w (asM i n f)):=by
 have H0:=qh (qb9 w 24 (.int .i64 k) (.string t) (.slice p n c))
 have hl:=H0.out.low
 have HL:=qh hl
 have HN:=qh hn
 unfold asM
 clear hl hn
 by_cases e:i=0
 ·subst e
  rw[if_pos rfl]
  go_enter Tryz.func77,Tryz.ntmps77
  go_wp2
  go_ret
  exact⟨rfl,HL.out⟩
 ·rw[if_neg e]
  have z1:((i:Int)==0)=false:=hW9 (by omega)
  have z2:((i:Int)=0)=False:=eq_false (by omega)
  go_enter Tryz.func77,Tryz.ntmps77
  go_upto_region 3 with(fail)
  obtain⟨W1,hW,h1⟩:=qd H0.out
  rewrite[←hW]
  clear hW H0
  obtain⟨⟨c0,c1,c2⟩,d0⟩:=h1.c3 0 rfl
  have show1:∀U,Below W1.heap.size W1 U→U.cell? ⟨w.heap.size,0,none⟩=some (.int .i64 k)∧U.cell? ⟨w.heap.size,1,none⟩=some (.string t)∧U.cell? ⟨w.heap.size,2,none⟩=some (.slice p n c):=fun U hU=>((h1.stays hU).c3 0 rfl).1
  have SHOW:=qh show1
  have hb0:Below W1.heap.size W1 W1.drew:=(Below.refl _ _).drew
  have HL1:=qh h1.low
  clear show1 h1
  go_region_held3 (fun w'=>w'.cell? ⟨w.heap.size,0,none⟩=some (.int .i64 k)∧w'.cell? ⟨w.heap.size,1,none⟩=some (.string t)∧w'.cell? ⟨w.heap.size,2,none⟩=some (.slice p n c))
   (with_reducible first|exact SHOW.out _ hb0|assumption|(refine SHOW.out _ ?_;assumption))
   (first
    |(go_at_call 73;with_reducible refine(qjr 2 1 _).mono ?_;rintro _ U ⟨p1,q1,rfl,g1,g2,bu⟩;have bb:Below W1.heap.size W1 U:=Below.trans (by with_reducible assumption) (bu.mono (Below.size (show Below W1.heap.size W1 _ by with_reducible assumption)));have G1:=qh g1;have G2:=qh g2;clear bu g1 g2)
    |(go_at_call 108;(with_reducible refine(qfv k t p n c i f 2 1 HN.out (by decide) (by decide) p1 q1 _ G1.out G2.out).mono ?_);rintro _ V ⟨rfl,bv⟩;have bb2:Below W1.heap.size W1 V:=Below.trans (by with_reducible assumption) (bv.mono (Below.size (show Below W1.heap.size W1 _ by with_reducible assumption)));clear bv))
  all_goals
   have hbu:Below W1.heap.size W1 V:=by assumption
   go_wp2
   go_ret
   exact⟨rfl,HL1.out.trans (hbu.mono HL1.out.size)⟩
def fnM:WM→Nat
 |.whole _=>40
 |.put _ _=>29
 |.term =>78
 |.value =>81
 |.unit =>111
def bdM:WM→Array Value
 |.put l f=> #[.agg #[.int .i64 l,.int .i64 f]]
 |_=> #[]
def argsM(m:WM)(x:Value):Array Value:=match m with
 |.whole f=> #[x,.int .i64 f]
 |m=>bdM m++ #[x]
def qaY(F:Nat)(m:WM)(x:qb):Prop:=∀(u:Value) (w:World) (S:Nat→Prop),qo w S u x.kids→TabX w→Calls Tryz.prog (fnM m) (argsM m (.agg #[.int .i64 x.kind,.string x.text,u])) w (NRes w (qw F m x))
def Puts(m:WM):Prop:=putV m=.func (.func (fnM m)) (bdM m) #[]∧(∀x,argsM m x=bdM m++ #[x])∧∀args w,(callFunc (fnM m) args).run Tryz.prog w=.ok (.enter (fnM m) args) w
theorem qdn(l f:Int):Puts (.put l f):=⟨rfl,fun _=>rfl,fun _ _=>rfl⟩
theorem qe8:Puts .term :=⟨rfl,fun _=>rfl,fun _ _=>rfl⟩
theorem qk6:Puts .value :=⟨rfl,fun _=>rfl,fun _ _=>rfl⟩
def edgeF(p q:Nat)(a l:Int):Fact:=⟨fun W S=>(W.cell? ⟨p,0,none⟩=some (.int .i64 a)∧S p)∧(W.cell? ⟨q,0,none⟩=some (.int .i64 l)∧S q),
 fun h k hO=>⟨⟨k.cell h.1.1 (hO _ h.1.2),h.1.2⟩,k.cell h.2.1 (hO _ h.2.2),h.2.2⟩,fun h hS=>⟨⟨h.1.1,hS _ h.1.2⟩,h.2.1,hS _ h.2.2⟩,
 fun h=>⟨⟨h.1.1,h.1.2,World.block_lt_of_cell? _ _ h.1.1⟩,h.2.1,h.2.2,World.block_lt_of_cell? _ _ h.2.1⟩⟩
def trueF:Fact:=⟨fun _ _=>True,fun h _ _=>h,fun h _=>h,fun h=>h⟩
def AskOk(k:Int)(t:ByteArray)(p:Option Addr)(n c:Nat)(f:Int)(va:Value)(G:Fact):Prop:=
 (va=.nilFunc ∧∀i,kidM k t n i f=.put 1 0)∨∃g cap,va=.func (.func g) #[] cap∧(∀args w,(callFunc g args).run Tryz.prog w=.ok (.enter g args) w)∧
  ∀(i:Nat) (U:World) (S:Nat→Prop),G.holds U S→TabX U→Calls Tryz.prog g (#[.agg #[.int .i64 k,.string t,.slice p n c],.int .i64 (i:Int),.int .i64 f]++cap) U fun e w'=>∃mo:Option WM,e=.returned (optV mo)∧(kidM k t n i f=mo.getD (.put 1 0)∧∀m,mo=some m→Puts m)∧Below U.heap.size U w'
theorem qkl(a b c:Value)(k:Int):(qaB (qcB a b c) k).getD .nilFunc =if k=25 then a else if k=27 then b else if k=29 then c else if k=24 then fnV 74 else if k=26 then fnV 77 else if k=15 then fnV 79 else if k=11 then fnV 80 else if 16≤k∧k≤23 then fnV 82 else .nilFunc :=by
 have e:qcB a b c=[(25,a),(27,b),(29,c),(24,fnV 74),(26,fnV 77),(15,fnV 79),(11,fnV 80),(16,fnV 82),(17,fnV 82),(18,fnV 82),(19,fnV 82),(20,fnV 82),(21,fnV 82),(22,fnV 82),(23,fnV 82)]:=rfl
 rw[e]
 by_cases h25:k=25
 ·subst h25;rfl
 by_cases h27:k=27
 ·subst h27;rfl
 by_cases h29:k=29
 ·subst h29;rfl
 by_cases h24:k=24
 ·subst h24;rfl
 by_cases h26:k=26
 ·subst h26;rfl
 by_cases h15:k=15
 ·subst h15;rfl
 by_cases h11:k=11
 ·subst h11;rfl
 by_cases hr:16≤k∧k≤23
 ·have:k=16∨k=17∨k=18∨k=19∨k=20∨k=21∨k=22∨k=23:=by omega
  rcases this with rfl|rfl|rfl|rfl|rfl|rfl|rfl|rfl<;>rfl
 rw[if_neg h25,if_neg h27,if_neg h29,if_neg h24,if_neg h26,if_neg h15,if_neg h11]
 rw[if_neg hr]
 simp only[qaB]
 rw[if_neg (show ¬(25:Int)=k by omega),if_neg (show ¬(27:Int)=k by omega),if_neg (show ¬(29:Int)=k by omega),if_neg (show ¬(24:Int)=k by omega),if_neg (show ¬(26:Int)=k by omega),if_neg (show ¬(15:Int)=k by omega),if_neg (show ¬(11:Int)=k by omega),if_neg (show ¬(16:Int)=k by omega),if_neg (show ¬(17:Int)=k by omega),if_neg (show ¬(18:Int)=k by omega),if_neg (show ¬(19:Int)=k by omega),if_neg (show ¬(20:Int)=k by omega),if_neg (show ¬(21:Int)=k by omega),if_neg (show ¬(22:Int)=k by omega),if_neg (show ¬(23:Int)=k by omega)]
 rfl
theorem ask_ok{w W:World}{b:Nat}{x y z:Value}(h:qaS w b W (qcB x y z) [(x,0,9),(y,0,1),(z,-1,1)])(k:Int)(t:ByteArray)(p:Option Addr)(n c:Nat)(f:Int)(hn:n≤4611686018427387904):∃G:Fact,G.holds W (fun c=>w.heap.size≤c)∧AskOk k t p n c f ((qaB (qcB x y z) k).getD .nilFunc) G:=by
 have edge:∀(v:Value) (a l:Int),qck w b W v a l→ -1≤a→a≤9→(∀i,kidM k t n i f=(qcL a l n i f).getD (.put 1 0))→∃G:Fact,G.holds W (fun c=>w.heap.size≤c)∧AskOk k t p n c f v G:=by
  rintro v a l ⟨p1,q1,rfl,h1,h2,-,-,g1,g2⟩ ha ha2 hk
  refine⟨edgeF p1 q1 a l,⟨⟨h1,g1⟩,h2,g2⟩,.inr ⟨_,_,rfl,fun _ _=>rfl,fun i U S hU _=>(qfv k t p n c i f a l hn ha ha2 p1 q1 U hU.1.1 hU.2.1).mono fun e w' h=>⟨_,h.1,⟨hk i,fun m hm=>?_⟩,h.2⟩⟩⟩
  unfold qcL at hm
  split at hm
  ·cases hm;exact qdn _ _
  ·cases hm
 have fn:∀(g:Nat) (mo:Nat→Option WM),(∀args w,(callFunc g args).run Tryz.prog w=.ok (.enter g args) w)→(∀(i:Nat) U,TabX U→Calls Tryz.prog g #[.agg #[.int .i64 k,.string t,.slice p n c],.int .i64 (i:Int),.int .i64 f] U (qdU U (mo i)))→(∀i,kidM k t n i f=(mo i).getD (.put 1 0))→(∀i m,mo i=some m→Puts m)→∃G:Fact,G.holds W (fun c=>w.heap.size≤c)∧AskOk k t p n c f (fnV g) G:=by
  intro g mo he hc hk hm
  exact⟨trueF,trivial,.inr ⟨g,#[],rfl,he,fun i U _ _ hU=>(hc i U hU).mono fun e w' h=>⟨_,h.1,⟨hk i,hm i⟩,h.2⟩⟩⟩
 rw[qkl]
 split
 ·rename_i hk;subst hk
  refine edge _ 0 9 (h.edges (x,0,9) (by simp)) (by decide) (by decide) fun i=>?_
  unfold kidM qcL
  by_cases hi:i=0
  ·subst hi;rfl
  ·rw[if_neg (by omega)];simp[hi]
 split
 ·rename_i hk;subst hk
  refine edge _ 0 1 (h.edges (y,0,1) (by simp)) (by decide) (by decide) fun i=>?_
  unfold kidM qcL
  by_cases hi:i=0
  ·subst hi;rfl
  ·rw[if_neg (by omega)];simp[hi]
 split
 ·rename_i hk;subst hk
  refine edge _ (-1) 1 (h.edges (z,-1,1) (by simp)) (by decide) (by decide) fun i=>?_
  unfold kidM qcL
  have e:(((i:Int)= -1)∨((-1:Int)<0∧(i:Int)=(n:Int)+ -1))=(i+1=n):=propext (by omega)
  simp only[e]
  by_cases hi:i+1=n
  ·simp[hi]
  ·simp[hi]
 split
 ·rename_i hk;subst hk
  refine fn _ (fun i=>binM t n i f) (fun _ _=>rfl) (fun i U hU=>qkm _ t p n c i f U hU) (fun i=>?_) fun i m hm=>?_
  ·unfold kidM binM
   by_cases hn:n=2
   ·by_cases hi:i=0
    ·simp[hn,hi]
    ·simp[hn,hi]
   ·simp[hn]
  ·unfold binM at hm
   split at hm
   ·split at hm<;>(cases hm;exact qdn _ _)
   ·cases hm
 split
 ·rename_i hk;subst hk
  refine fn _ (fun i=>asM i n f) (fun _ _=>rfl) (fun i U hU=>qli _ t p n c i f hn U) (fun i=>?_) fun i m hm=>?_
  ·unfold kidM asM qcL
   by_cases hi:i=0
   ·simp[hi]
   ·by_cases hi2:i=2
    ·simp[hi2]
    ·have e2:¬(i:Int)=2:=by omega
     simp[hi,hi2,e2]
  ·unfold asM qcL at hm
   split at hm
   ·cases hm;exact qe8
   ·split at hm
    ·cases hm;exact qdn _ _
    ·cases hm
 split
 ·rename_i hk;subst hk
  refine fn _ (fun i=>some .term) (fun _ _=>rfl) (fun i U hU=>qjZ _ t p n c i f U) (fun i=>?_) fun i m hm=>?_
  ·rfl
  ·cases hm;exact qe8
 split
 ·rename_i hk;subst hk
  refine fn _ (fun i=>if i=1 then some .value else none) (fun _ _=>rfl) (fun i U hU=>qiG _ t p n c i f U) (fun i=>?_) fun i m hm=>?_
  ·unfold kidM
   by_cases hi:i=1<;>simp[hi]
  ·split at hm
   ·cases hm;exact qk6
   ·cases hm
 split
 ·rename_i k1 k2 k3 k4 k5 k6 k7 hk
  refine fn _ (fun i=>if i=0 then some .term else none) (fun _ _=>rfl) (fun i U hU=>qjd _ t p n c i f U) (fun i=>?_) fun i m hm=>?_
  ·unfold kidM
   rw[if_neg k4,if_neg k1,if_neg k2,if_neg k5,if_neg k3,if_neg k6,if_pos hk]
   by_cases hi:i=0<;>simp[hi]
  ·split at hm
   ·cases hm;exact qe8
   ·cases hm
 ·rename_i k1 k2 k3 k4 k5 k6 k7 hk
  refine⟨trueF,trivial,.inl ⟨rfl,fun i=>?_⟩⟩
  unfold kidM
  rw[if_neg k4,if_neg k1,if_neg k2,if_neg k5,if_neg k3,if_neg k6,if_neg hk,if_neg k7]
theorem qhf(w:World):(zeroValue 90).run Tryz.prog w=.ok .nilFunc w:=by kernel_rfl
theorem qka(w:World):Calls Tryz.prog 59 #[] w fun e w'=>∃r a b c,e=.returned (.map (some r))∧qaS w r w' (qcB a b c) [(a,0,9),(b,0,1),(c,-1,1)]:=
 (qjh w).mono fun e w' ⟨a,b,c,he,h⟩=>⟨_,a,b,c,he,h⟩
theorem qmq(w:World):(Go.binOp .neq 90 .nilFunc .nilFunc).run Tryz.prog w=.ok (.bool false) w:=by kernel_rfl
theorem qiH(w:World)(g:Nat)(a b:Array Value):(Go.binOp .neq 90 (.func (.func g) a b) .nilFunc).run Tryz.prog w=.ok (.bool true) w:=by rfl
theorem neq_fn(w:World):(Go.binOp .neq 37 .nilFunc .nilFunc).run Tryz.prog w=.ok (.bool false) w:=by kernel_rfl
theorem qkU(w:World)(g:Nat)(a b:Array Value):(Go.binOp .neq 37 (.func (.func g) a b) .nilFunc).run Tryz.prog w=.ok (.bool true) w:=by rfl
theorem Fr.two2{R:Nat→Prop}{w W:World}{bs:List Bx}{rs:List Rw}{ks:List Fact}{a b:Bx}(h:Fr R w W (a::b::bs) rs ks):Fr R w W [a,b] rs ks:=Fr.drop (bs:=[a,b]) h
structure qfP(w wr:World)(k:Int)(t:ByteArray)(u:Value)(pv:Option Addr)(cv:Nat)(m:List qb)(us:List Value)(ks:List Fact):Prop where
 fr:Fr (fun _=>False) w wr [⟨w.heap.size,24,[.int .i64 k,.string t,u]⟩,⟨w.heap.size+1,24,[.int .i64 0,.string ⟨#[]⟩,.slice none 0 0]⟩] [rowN (.slice pv m.length cv) m us] ks
 kn:KN m us ks
theorem qjT{F:Nat}(f:Int)(x:qb)(hx:x.kids.length≤1000000000)(ih:∀m y,y∈x.kids→Puts m→qaY F m y):qaY (F+1) (.whole f) x:=by
 obtain⟨k,t,l⟩:=x
 intro u w S hu hT
 simp only[qb.kind_mk,qb.text_mk,qb.kids_mk] at*
 obtain⟨pu,cu,rfl,lu⟩:=hu.shape
 have H0:=qh (qap w (.int .i64 k) (.string t) (.slice pu l.length cu))
 have HU:=qh hu
 have HT:=qh hT
 have IH:=qh ih
 clear hu hT ih
 show Calls Tryz.prog 40 #[.agg #[.int .i64 k,.string t,.slice pu l.length cu],.int .i64 f] w _
 go_enter Tryz.func40,Tryz.ntmps40
 go_upto_region 1 with(fail)
 obtain⟨W1,hW,h1⟩:=qd H0.out
 rewrite[←hW]
 clear hW H0
 have H1:=qh h1
 obtain⟨⟨c0,c1,c2⟩,d0,d1,d2⟩:=h1.c3 0 rfl
 have show1:∀U,Below W1.heap.size W1 U→U.cell? ⟨w.heap.size,0,none⟩=some (.int .i64 k):=fun U hU=>((h1.stays hU).c3 0 rfl).1.1
 have SHOW:=qh show1
 have hb0:Below W1.heap.size W1 W1.drew:=(Below.refl _ _).drew
 clear show1 h1
 go_region_held3 (fun w'=>w'.cell? ⟨w.heap.size,0,none⟩=some (.int .i64 k))
  (with_reducible first|exact SHOW.out _ hb0|assumption|(refine SHOW.out _ ?_;assumption))
  (first|(go_at_call 59;(with_reducible refine(qka _).mono ?_);rintro _ U ⟨vr,va,vb,vc,rfl,hr⟩;have HR:=qh hr;have bb:Below W1.heap.size W1 U:=Below.trans (by with_reducible assumption) (hr.low.mono (Below.size (show Below W1.heap.size W1 _ by with_reducible assumption)));have hlk:=qfr qeH qg6 (qhf U) hr.map k false;have hlk2:=qfr (w:=U.drew) qeH qg6 (qhf U.drew) hr.map k false;simp only[Bool.false_eq_true,if_false] at hlk hlk2;clear hr))
 obtain⟨G,hG,hask⟩:=ask_ok HR.out k t pu l.length cu f lu
 have HASK:=qh hask
 have H2:=qh (H1.out.call bb G (G.mono hG fun c hc=>hc))
 clear hG hask
 generalize (qaB (qcB va vb vc) k).getD Value.nilFunc=vk at HASK⊢
 clear hlk hlk2 HR H1 SHOW hb0 c0 c1 c2 d0 d1 d2
 clear bb
 obtain⟨⟨c0,c1,c2⟩,d0,d1,d2⟩:=H2.out.c3 0 rfl
 go_wp2
 have H3:=qh (H2.out.rowNil 24 3)
 clear H2
 go_loopw [6,18] (fun v i wr=>∃(j:Nat) (m:List qb) (us:List Value) (pv:Option Addr) (cv:Nat) (ks:List Fact),(j≤l.length∧i=.int .i64 (j:Int)∧v=.slice pv m.length cv)∧Hid (qfP w wr k t (.slice pu l.length cu) pv cv m us ks)∧Hid (m=mapI (fun i y=>qw F (kidM k t l.length i f) y) 0 (l.take j))∧Hid (G∈ks)) (fun _ i _=>l.length- (intOf i).toNat)
 case atStart=>exact⟨0,[],[],none,0,_,⟨Nat.zero_le _,rfl,rfl⟩,qh ⟨H3.out,KN.nil _⟩,qh rfl,qh List.mem_cons_self⟩
 case round=>
  clear H3 c0 c1 c2 d0 d1 d2
  obtain⟨j,m,us,pv,cv,ks,⟨hj,rfl,rfl⟩,HH,HM,HG⟩:=hrel
  have H4:=qh HH.out.fr
  have KN4:=qh HH.out.kn
  obtain⟨⟨c0,c1,c2⟩,d0,d1,d2⟩:=H4.out.c3 0 rfl
  by_cases hlt:j<l.length
  ·have hxj:=List.getElem?_eq_getElem hlt
   obtain⟨b,o,ux,rfl,-,a1,ax⟩:=HU.out.kid hxj
   obtain⟨px,cx,rfl,lx⟩:=ax.shape
   obtain⟨g0,g1,g2⟩:=a1.stays H4.out.low
   have HX:=qh (ax.stays H4.out.low)
   have HMEM:=qh (List.getElem_mem hlt)
   have HXJ:=qh hxj
   clear ax hxj
   generalize l[j]=y at*
   go_upto_region 7 with(fail)
   obtain⟨W5,hW,h5⟩:=qd (H4.out.lay [.int .i64 y.kind,.string y.text,.slice px y.kids.length cx] 24)
   rewrite[←hW]
   (try simp only[nn] at h5)
   have H5:=qh h5
   have HL5:Hid (Below wr.heap.size wr W5):=qh (by rw[hW];exact(Below.refl _ _).alloc (Nat.le_refl _) _)
   clear h5 hW c0 c1 c2 d0 d1 d2 g0 g1 g2 a1 H4
   obtain⟨⟨c0,c1,c2⟩,-⟩:=H5.out.c3 0 rfl
   obtain⟨⟨k0,k1,k2⟩,-⟩:=H5.out.c3 2 rfl
   have HX5:=qh (HX.out.stays HL5.out)
   have HM1:Hid (mapI (fun i y=>qw F (kidM k t l.length i f) y) 0 (l.take (j+1))=m++[qw F (kidM k t l.length j f) y]):=qh (by rw[qgL _ HXJ.out,←HM.out])
   have HLM:Hid (m.length<1000000001):=qh (by rw[HM.out,qbg,List.length_take];omega)
   clear HX HXJ
   have n1:=qmq
   have n2:=qiH
   have n3:=neq_fn
   have n4:=qkU
   rcases HASK.out with⟨rfl,hk0⟩|⟨g,cap,rfl,he,hc⟩
   ·rw[hk0 j] at HM1
    have QP:=qh (fun V (hV:Below W5.heap.size W5 V)=>IH.out _ y HMEM.out (qdn 1 0) _ V S (HX5.out.stays hV) (HT.out.below (H5.out.low.trans (hV.mono H5.out.low.size))))
    generalize qw F (.put 1 0) y=z at*
    clear hk0 HASK
    go_upto_region 11 with(fail)
    go_upto_region 12 with(first
     |((go_at_call 29);go_loud(refine(QP.out _ (Below.refl _ _)).mono ?_;rintro e W6 ⟨uz,rfl,hk,hb⟩;obtain⟨pz,cz,rfl,lz⟩:=hk.shape;have H6:=qh (H5.out.call hb (qk _ _) hk);have HB6:=qh hb;clear hk hb H5 QP))
     |(at_builtin;go_loud(refine q8 (H6.out.skip _) 0 rfl KN4.out.1 z (by simp) (World.alloc_heap_new W6 _) HLM.out rfl _ _ rfl rfl rfl ?_;intro p7 c7 W7 h7;(try simp only[nn] at h7);have H7:=qh h7;clear h7)))
    go_wp2
    go_roundw
    case rel=>exact⟨j+1,m++[z],us++[.slice pz z.kids.length cz],p7,c7,_,⟨by omega,by go_num,by rw[List.length_append,List.length_singleton]⟩,qh ⟨by rw[List.length_append,List.length_singleton];exact H7.out.two2,(KN4.out.more (F:=qk (.slice pz z.kids.length cz) z.kids)).snoc (x:=z) (u:=.slice pz z.kids.length cz) List.mem_cons_self⟩,qh HM1.out.symm,qh (List.mem_cons_of_mem _ HG.out)⟩
    case measure=>simp[intOf];omega
   ·have QA:=qh (hc j)
    have EG:=qh he
    clear hc he HASK
    go_upto_region 8 with(fail)
    go_wp2
    rw[EG.out,Oper.upon_enter]
    refine(QA.out W5 _ (H5.out.get HG.out) (HT.out.below H5.out.low)).mono ?_
    rintro e W8 ⟨mo,rfl,⟨hk,hp⟩,hb⟩
    have H8:=qh (H5.out.stays hb)
    have HX8:=qh (HX5.out.stays hb)
    rw[hk] at HM1
    clear H5 HX5 QA EG c0 c1 c2 k0 k1 k2
    obtain⟨⟨c0,c1,c2⟩,-⟩:=H8.out.c3 0 rfl
    obtain⟨⟨k0,k1,k2⟩,-⟩:=H8.out.c3 2 rfl
    cases mo with
    |none=>
     dsimp only[optV,Option.getD_none] at HM1⊢
     have QP:=qh (fun V (hV:Below W8.heap.size W8 V)=>IH.out _ y HMEM.out (qdn 1 0) _ V S (HX8.out.stays hV) (HT.out.below (H8.out.low.trans (hV.mono H8.out.low.size))))
     generalize qw F (.put 1 0) y=z at*
     clear hk hp hb
     go_upto_region 11 with(fail)
     have H5:=H8
     go_upto_region 12 with(first
      |((go_at_call 29);go_loud(refine(QP.out _ (Below.refl _ _)).mono ?_;rintro e W6 ⟨uz,rfl,hk,hb⟩;obtain⟨pz,cz,rfl,lz⟩:=hk.shape;have H6:=qh (H5.out.call hb (qk _ _) hk);have HB6:=qh hb;clear hk hb H5 QP))
      |(at_builtin;go_loud(refine q8 (H6.out.skip _) 0 rfl KN4.out.1 z (by simp) (World.alloc_heap_new W6 _) HLM.out rfl _ _ rfl rfl rfl ?_;intro p7 c7 W7 h7;(try simp only[nn] at h7);have H7:=qh h7;clear h7)))
     go_wp2
     go_roundw
     case rel=>exact⟨j+1,m++[z],us++[.slice pz z.kids.length cz],p7,c7,_,⟨by omega,by go_num,by rw[List.length_append,List.length_singleton]⟩,qh ⟨by rw[List.length_append,List.length_singleton];exact H7.out.two2,(KN4.out.more (F:=qk (.slice pz z.kids.length cz) z.kids)).snoc (x:=z) (u:=.slice pz z.kids.length cz) List.mem_cons_self⟩,qh HM1.out.symm,qh (List.mem_cons_of_mem _ HG.out)⟩
     case measure=>simp[intOf];omega
    |some m0=>
     dsimp only[optV,Option.getD_some] at HM1⊢
     have hpm:=hp m0 rfl
     have QP:=qh (fun V (hV:Below W8.heap.size W8 V)=>IH.out _ y HMEM.out hpm _ V S (HX8.out.stays hV) (HT.out.below (H8.out.low.trans (hV.mono H8.out.low.size))))
     obtain⟨hv,ha,he⟩:=hpm
     rw[hv]
     rw[ha] at QP
     have EG:=qh he
     clear hk hp hb hv ha he
     generalize qw F m0 y=z at*
     generalize fnM m0=gm at*
     generalize bdM m0=bm at*
     simp only[Array.append_singleton] at QP
     go_upto_region 11 with(fail)
     have H5:=H8
     go_wp2
     rw[EG.out,Oper.upon_enter]
     refine(QP.out _ (Below.refl _ _)).mono ?_
     rintro e W6 ⟨uz,rfl,hk,hb⟩
     obtain⟨pz,cz,rfl,lz⟩:=hk.shape
     have H6:=qh (H5.out.call hb (qk _ _) hk)
     clear hk hb H5 QP
     go_upto_region 12 with(at_builtin;go_loud(refine q8 (H6.out.skip _) 0 rfl KN4.out.1 z (by simp) (World.alloc_heap_new W6 _) HLM.out rfl _ _ rfl rfl rfl ?_;intro p7 c7 W7 h7;(try simp only[nn] at h7);have H7:=qh h7;clear h7))
     go_wp2
     go_roundw
     case rel=>exact⟨j+1,m++[z],us++[.slice pz z.kids.length cz],p7,c7,_,⟨by omega,by go_num,by rw[List.length_append,List.length_singleton]⟩,qh ⟨by rw[List.length_append,List.length_singleton];exact H7.out.two2,(KN4.out.more (F:=qk (.slice pz z.kids.length cz) z.kids)).snoc (x:=z) (u:=.slice pz z.kids.length cz) List.mem_cons_self⟩,qh HM1.out.symm,qh (List.mem_cons_of_mem _ HG.out)⟩
     case measure=>simp[intOf];omega
  ·obtain rfl:j=l.length:=by omega
   have HM1:Hid (mapI (fun i y=>qw F (kidM k t l.length i f) y) 0 l=m):=qh (by have:=HM.out;rw[List.take_length] at this;exact this.symm)
   obtain⟨⟨r0,r1,r2⟩,e0,e1,e2⟩:=H4.out.c3 1 rfl
   have HLM:Hid (m.length≤4611686018427387904):=qh (by rw[HM.out,qbg,List.length_take];omega)
   have eM:qw (F+1) (.whole f) (.mk k t l)=.mk k t m:=by rw[←HM1.out];rfl
   have EM:=qh eM
   clear eM
   go_wp2
   obtain⟨Wf,hW,hf⟩:=qd (Fr.set3 (x:=.int .i64 k) (y:=.string t) (z:=.slice pv m.length cv) ((H4.out.give1 KN4.out HLM.out).set 0 2 rfl (.slice pv m.length cv)) 1 rfl)
   rewrite[←hW]
   (try simp only[nn] at hf)
   clear hW
   obtain⟨⟨s0,s1,s2⟩,-⟩:=hf.c3 1 rfl
   have hZ:NRes w (qw (F+1) (.whole f) (.mk k t l)) (.returned (.agg #[.int .i64 k,.string t,.slice pv m.length cv])) Wf:=by rw[EM.out];exact hf.toldN (x:=.mk k t m)
   have HF:=qh hZ
   clear hf hZ
   exact bR9 (by simp[results,Tryz.results40,go_sem,s0,s1,s2]) rfl HF.out
theorem qer{F:Nat}(x:qb)(ih:qaY F (.whole 0) x):∀(u:Value) (w:World) (S:Nat→Prop),qo w S u x.kids→TabX w→Calls Tryz.prog 39 #[.agg #[.int .i64 x.kind,.string x.text,u]] w (NRes w (qbc (qw F (.whole 0) x))):=by
 obtain⟨k,t,l⟩:=x
 intro u w S hu hT
 simp only[qb.kind_mk,qb.text_mk,qb.kids_mk] at*
 obtain⟨pu,cu,rfl,lu⟩:=hu.shape
 have H0:=qh (qap w (.int .i64 k) (.string t) (.slice pu l.length cu))
 have HU:=qh hu
 have HT:=qh hT
 clear hu hT
 have Q:=qh (fun V (hV:Below w.heap.size w V)=>ih (.slice pu l.length cu) V S (HU.out.stays hV) (HT.out.below hV))
 clear ih
 generalize qw F (.whole 0) (.mk k t l)=z at*
 obtain⟨⟨c0,c1,c2⟩,-⟩:=H0.out.c3 0 rfl
 go_enter Tryz.func39,Tryz.ntmps39
 go_upto_region 1 with(fail)
 go_wp2_with(go_at_call 40;go_loud(refine(Q.out _ H0.out.low).mono ?_;rintro e W1 ⟨u,rfl,hk,hb⟩;obtain⟨pz,cz,rfl,lz⟩:=hk.shape;have H1:=qh (H0.out.call hb (qk _ _) hk);obtain⟨⟨r0,r1,r2⟩,e0,e1,e2⟩:=H1.out.c3 1 rfl;have ek:=(H1.out.skip (.cells #[.int .i64 z.kind,.string z.text,.slice pz z.kids.length cz] 24)).c3 1 rfl;have ef:=H1.out.far 1 rfl;clear hk hb))
 obtain⟨Wf,hW,hf⟩:=qd (Fr.set3 (x:=.int .i64 12) (y:=.string ⟨#[]⟩) (z:=(.slice (some ⟨W1.heap.size,0,none⟩) 1 1)) (H1.out.lit1 z List.mem_cons_self) 1 rfl)
 rewrite[←hW]
 (try simp only[nn] at hf)
 clear hW
 obtain⟨⟨s0,s1,s2⟩,-⟩:=hf.c3 1 rfl
 have hZ:NRes w (qbc z) (.returned (.agg #[.int .i64 12,.string ⟨#[]⟩,(.slice (some ⟨W1.heap.size,0,none⟩) 1 1)])) Wf:=hf.toldN (x:=(qbc z))
 have HF:=qh hZ
 clear hf hZ
 (try go_wp2)
 exact bR9 (v:=.agg #[.int .i64 12,.string ⟨#[]⟩,(.slice (some ⟨W1.heap.size,0,none⟩) 1 1)]) (by simp[results,Tryz.results39,go_sem,s0,s1,s2]) rfl (id HF.out)
theorem qmb{F:Nat}(a f:Int)(x:qb)(i0:qaY F (.whole 0) x)(i1:qaY F (.whole f) x):qaY (F+1) (.put a f) x:=by
 have iw:=qer x i0
 obtain⟨k,t,l⟩:=x
 intro u w S hu hT
 simp only[qb.kind_mk,qb.text_mk,qb.kids_mk] at*
 obtain⟨pu,cu,rfl,lu⟩:=hu.shape
 have H0:=qh (qap w (.int .i64 k) (.string t) (.slice pu l.length cu))
 have HU:=qh hu
 have HT:=qh hT
 clear hu hT
 clear H0
 have H0:=qh ((Fr.new0 w).lay3 [.int .i64 a,.int .i64 f] 51 [.int .i64 k,.string t,.slice pu l.length cu] 24 [.int .i64 0,.string ⟨#[]⟩,.slice none 0 0] 24)
 have QN:=qh (fun V (hV:Below w.heap.size w V)=>qcR (.mk k t l) (.slice pu l.length cu) a f V (HT.out.below hV))
 show Calls Tryz.prog 29 #[.agg #[.int .i64 a,.int .i64 f],.agg #[.int .i64 k,.string t,.slice pu l.length cu]] w _
 have eM:qw (F+1) (.put a f) (.mk k t l)=if qa6 (.mk k t l) a f then qbc (qw F (.whole 0) (.mk k t l)) else qw F (.whole f) (.mk k t l):=rfl
 obtain⟨c0,c1⟩:=(H0.out.c2 0 rfl).1
 obtain⟨⟨k0,k1,k2⟩,-⟩:=H0.out.c3 1 rfl
 by_cases hn:qa6 (.mk k t l) a f=true
 ·rw[if_pos hn] at eM
  rw[hn] at QN
  have Q:=qh (fun V (hV:Below w.heap.size w V)=>iw (.slice pu l.length cu) V S (HU.out.stays hV) (HT.out.below hV))
  have EM:=qh eM
  clear eM hn i0 i1 iw
  generalize qbc (qw F (.whole 0) (.mk k t l))=z at*
  go_enter Tryz.func29,Tryz.ntmps29
  go_wp2_with(first
   |(go_at_call 21;go_loud(refine(QN.out _ H0.out.low).mono ?_;rintro e W1 ⟨rfl,hb⟩;have H1:=qh (H0.out.stays hb);obtain⟨c0,c1⟩:=(H1.out.c2 0 rfl).1;obtain⟨⟨k0,k1,k2⟩,-⟩:=H1.out.c3 1 rfl;clear hb))
   |(go_at_call 39;go_loud(refine(Q.out _ H1.out.low).mono ?_;rintro e W2 ⟨u,rfl,hk,hb⟩;obtain⟨pz,cz,rfl,lz⟩:=hk.shape;have H2:=qh (H1.out.call hb (qk _ _) hk);obtain⟨⟨r0,r1,r2⟩,e0,e1,e2⟩:=H2.out.c3 2 rfl;have ef:=H2.out.far 2 rfl;clear hk hb)))
  obtain⟨Wf,hW,hf⟩:=qd (Fr.set3 (x:=.int .i64 z.kind) (y:=.string z.text) (z:=(.slice pz z.kids.length cz)) H2.out 2 rfl)
  rewrite[←hW]
  (try simp only[nn] at hf)
  clear hW
  obtain⟨⟨s0,s1,s2⟩,-⟩:=hf.c3 2 rfl
  have hZ:NRes w z (.returned (.agg #[.int .i64 z.kind,.string z.text,(.slice pz z.kids.length cz)])) Wf:=hf.toldN (x:=z)
  have HF:=qh hZ
  clear hf hZ
  (try go_wp2)
  exact bR9 (v:=.agg #[.int .i64 z.kind,.string z.text,(.slice pz z.kids.length cz)]) (by simp[results,Tryz.results29,go_sem,s0,s1,s2]) rfl ((fun h=>by rw[EM.out];exact h) HF.out)
 ·have hn':qa6 (.mk k t l) a f=false:=by simpa using hn
  rw[if_neg hn] at eM
  rw[hn'] at QN
  have Q:=qh (fun V (hV:Below w.heap.size w V)=>i1 (.slice pu l.length cu) V S (HU.out.stays hV) (HT.out.below hV))
  have EM:=qh eM
  clear eM hn hn' i0 i1 iw
  generalize qw F (.whole f) (.mk k t l)=z at*
  go_enter Tryz.func29,Tryz.ntmps29
  go_wp2_with(first
   |(go_at_call 21;go_loud(refine(QN.out _ H0.out.low).mono ?_;rintro e W1 ⟨rfl,hb⟩;have H1:=qh (H0.out.stays hb);obtain⟨c0,c1⟩:=(H1.out.c2 0 rfl).1;obtain⟨⟨k0,k1,k2⟩,-⟩:=H1.out.c3 1 rfl;clear hb))
   |(go_at_call 40;go_loud(refine(Q.out _ H1.out.low).mono ?_;rintro e W2 ⟨u,rfl,hk,hb⟩;obtain⟨pz,cz,rfl,lz⟩:=hk.shape;have H2:=qh (H1.out.call hb (qk _ _) hk);obtain⟨⟨r0,r1,r2⟩,e0,e1,e2⟩:=H2.out.c3 2 rfl;have ef:=H2.out.far 2 rfl;clear hk hb)))
  obtain⟨Wf,hW,hf⟩:=qd (Fr.set3 (x:=.int .i64 z.kind) (y:=.string z.text) (z:=(.slice pz z.kids.length cz)) H2.out 2 rfl)
  rewrite[←hW]
  (try simp only[nn] at hf)
  clear hW
  obtain⟨⟨s0,s1,s2⟩,-⟩:=hf.c3 2 rfl
  have hZ:NRes w z (.returned (.agg #[.int .i64 z.kind,.string z.text,(.slice pz z.kids.length cz)])) Wf:=hf.toldN (x:=z)
  have HF:=qh hZ
  clear hf hZ
  (try go_wp2)
  exact bR9 (v:=.agg #[.int .i64 z.kind,.string z.text,(.slice pz z.kids.length cz)]) (by simp[results,Tryz.results29,go_sem,s0,s1,s2]) rfl ((fun h=>by rw[EM.out];exact h) HF.out)
def qeY:List Int:=[24,25,26,27,29,15]
theorem qmg(W:World)(T:TypeId):∀j,j<qeY.length→(W.alloc (.cells #[.int .i64 24,.int .i64 25,.int .i64 26,.int .i64 27,.int .i64 29,.int .i64 15] T)).cell? ⟨W.heap.size,0+j,none⟩=some (.int .i64 (qeY.getD j 0)):=by
 intro j hj
 refine qa (World.alloc_heap_new W _) ?_
 have:j=0∨j=1∨j=2∨j=3∨j=4∨j=5:=by simp[qeY] at hj;omega
 rcases this with rfl|rfl|rfl|rfl|rfl|rfl<;>rfl
theorem qlf(k:Int):qci k=(qeY.take 6).contains k:=rfl
theorem qiD(W:World)(T:TypeId)(k:Int):Calls Tryz.prog 110 #[.slice (some ⟨W.heap.size,0,none⟩) 6 6,.int .i64 k] (W.alloc (.cells #[.int .i64 24,.int .i64 25,.int .i64 26,.int .i64 27,.int .i64 29,.int .i64 15] T)) fun e w'=>e=.returned (.bool (qci k))∧w'=W.alloc (.cells #[.int .i64 24,.int .i64 25,.int .i64 26,.int .i64 27,.int .i64 29,.int .i64 15] T):=by
 rw[qlf]
 exact Tryz.slices_Contains_int _ 0 6 6 qeY k _ (by decide) (by decide) (qmg W T)
theorem qke{F:Nat}(x:qb)(i0:qaY F (.whole 0) x):qaY (F+1) .term x:=by
 have iw:=qer x i0
 obtain⟨k,t,l⟩:=x
 intro u w S hu hT
 simp only[qb.kind_mk,qb.text_mk,qb.kids_mk] at*
 obtain⟨pu,cu,rfl,lu⟩:=hu.shape
 have H0:=qh (qap w (.int .i64 k) (.string t) (.slice pu l.length cu))
 have HU:=qh hu
 have HT:=qh hT
 clear hu hT
 show Calls Tryz.prog 78 #[.agg #[.int .i64 k,.string t,.slice pu l.length cu]] w _
 have eM:qw (F+1) .term (.mk k t l)=if qci k then qbc (qw F (.whole 0) (.mk k t l)) else qw F (.whole 0) (.mk k t l):=rfl
 have QC:=qh (fun W=>qiD W 3 k)
 by_cases hn:qci k=true
 ·rw[hn] at QC
  rw[if_pos hn] at eM
  have Q:=qh (fun V (hV:Below w.heap.size w V)=>iw (.slice pu l.length cu) V S (HU.out.stays hV) (HT.out.below hV))
  have EM:=qh eM
  clear eM i0 iw
  generalize qbc (qw F (.whole 0) (.mk k t l))=z at*
  go_enter Tryz.func78,Tryz.ntmps78
  go_upto_region 1 with(fail)
  obtain⟨W0,hW,h0⟩:=qd H0.out
  rewrite[←hW]
  have H9:=qh h0
  clear h0 hW H0
  obtain⟨⟨k0,k1,k2⟩,-⟩:=H9.out.c3 0 rfl
  have ef:=H9.out.far 0 rfl
  have h1:=H9.out.skip (.cells #[.int .i64 24,.int .i64 25,.int .i64 26,.int .i64 27,.int .i64 29,.int .i64 15] 3)
  have ek:=h1.c3 0 rfl
  have H1:=qh h1
  have QC0:=qh (QC.out W0)
  clear h1 QC
  go_wp2_with(first
   |(go_at_call 110;go_loud((with_reducible refine QC0.out.mono ?_);rintro e W1 ⟨rfl,rfl⟩))
   |(go_at_call 39;go_loud(refine(Q.out _ H1.out.low).mono ?_;rintro e W2 ⟨u,rfl,hk,hb⟩;obtain⟨pz,cz,rfl,lz⟩:=hk.shape;have H2:=qh (H1.out.call hb (qk _ _) hk);obtain⟨⟨r0,r1,r2⟩,e0,e1,e2⟩:=H2.out.c3 1 rfl;have ef:=H2.out.far 1 rfl;clear hk hb)))
  obtain⟨Wf,hW,hf⟩:=qd (Fr.set3 (x:=.int .i64 z.kind) (y:=.string z.text) (z:=(.slice pz z.kids.length cz)) H2.out 1 rfl)
  rewrite[←hW]
  (try simp only[nn] at hf)
  clear hW
  obtain⟨⟨s0,s1,s2⟩,-⟩:=hf.c3 1 rfl
  have hZ:NRes w z (.returned (.agg #[.int .i64 z.kind,.string z.text,(.slice pz z.kids.length cz)])) Wf:=hf.toldN (x:=z)
  have HF:=qh hZ
  clear hf hZ
  (try go_wp2)
  exact bR9 (v:=.agg #[.int .i64 z.kind,.string z.text,(.slice pz z.kids.length cz)]) (by simp[results,Tryz.results78,go_sem,s0,s1,s2]) rfl ((fun h=>by rw[EM.out];exact h) HF.out)
 ·have hn':qci k=false:=by simpa using hn
  rw[hn'] at QC
  rw[if_neg hn] at eM
  have Q:=qh (fun V (hV:Below w.heap.size w V)=>i0 (.slice pu l.length cu) V S (HU.out.stays hV) (HT.out.below hV))
  have EM:=qh eM
  clear eM hn i0 iw
  generalize qw F (.whole 0) (.mk k t l)=z at*
  go_enter Tryz.func78,Tryz.ntmps78
  go_upto_region 1 with(fail)
  obtain⟨W0,hW,h0⟩:=qd H0.out
  rewrite[←hW]
  have H9:=qh h0
  clear h0 hW H0
  obtain⟨⟨k0,k1,k2⟩,-⟩:=H9.out.c3 0 rfl
  have ef:=H9.out.far 0 rfl
  have h1:=H9.out.skip (.cells #[.int .i64 24,.int .i64 25,.int .i64 26,.int .i64 27,.int .i64 29,.int .i64 15] 3)
  have ek:=h1.c3 0 rfl
  have H1:=qh h1
  have QC0:=qh (QC.out W0)
  clear h1 QC
  go_wp2_with(first
   |(go_at_call 110;go_loud((with_reducible refine QC0.out.mono ?_);rintro e W1 ⟨rfl,rfl⟩))
   |(go_at_call 40;go_loud(refine(Q.out _ H1.out.low).mono ?_;rintro e W2 ⟨u,rfl,hk,hb⟩;obtain⟨pz,cz,rfl,lz⟩:=hk.shape;have H2:=qh (H1.out.call hb (qk _ _) hk);obtain⟨⟨r0,r1,r2⟩,e0,e1,e2⟩:=H2.out.c3 1 rfl;have ef:=H2.out.far 1 rfl;clear hk hb)))
  obtain⟨Wf,hW,hf⟩:=qd (Fr.set3 (x:=.int .i64 z.kind) (y:=.string z.text) (z:=(.slice pz z.kids.length cz)) H2.out 1 rfl)
  rewrite[←hW]
  (try simp only[nn] at hf)
  clear hW
  obtain⟨⟨s0,s1,s2⟩,-⟩:=hf.c3 1 rfl
  have hZ:NRes w z (.returned (.agg #[.int .i64 z.kind,.string z.text,(.slice pz z.kids.length cz)])) Wf:=hf.toldN (x:=z)
  have HF:=qh hZ
  clear hf hZ
  (try go_wp2)
  exact bR9 (v:=.agg #[.int .i64 z.kind,.string z.text,(.slice pz z.kids.length cz)]) (by simp[results,Tryz.results78,go_sem,s0,s1,s2]) rfl ((fun h=>by rw[EM.out];exact h) HF.out)
theorem qjN{F:Nat}(x:qb)(i1:qaY F .term x)(ih:∀y∈x.kids,qaY F .unit y):qaY (F+1) .unit x:=by
 obtain⟨k,t,l⟩:=x
 intro u w S hu hT
 simp only[qb.kind_mk,qb.text_mk,qb.kids_mk] at*
 obtain⟨pu,cu,rfl,lu⟩:=hu.shape
 have H0:=qh (qap w (.int .i64 k) (.string t) (.slice pu l.length cu))
 have HU:=qh hu
 have HT:=qh hT
 clear hu hT
 show Calls Tryz.prog 111 #[.agg #[.int .i64 k,.string t,.slice pu l.length cu]] w _
 have eM:qw (F+1) .unit (.mk k t l)=if k=25∧l.length=1 then .mk 25 ⟨#[]⟩ (mapI (fun _ y=>qw F .unit y) 0 l) else qw F .term (.mk k t l):=rfl
 obtain⟨⟨k0,k1,k2⟩,-⟩:=H0.out.c3 0 rfl
 by_cases hn:k=25∧l.length=1
 ·rw[if_pos hn] at eM
  obtain⟨rfl,hl⟩:=hn
  match l,hl with
  |[y],_=>
   obtain⟨b,o,ux,rfl,-,a1,ax⟩:=HU.out.kid (i:=0) rfl
   obtain⟨px,cx,rfl,lx⟩:=ax.shape
   obtain⟨g0,g1,g2⟩:=a1.stays H0.out.low
   simp only[Nat.zero_mul,Nat.add_zero] at g0 g1 g2
   have Q:=qh (fun V (hV:Below w.heap.size w V)=>ih y (by simp) _ V S (ax.stays hV) (HT.out.below hV))
   have EM:=qh eM
   clear eM ih i1 a1 ax
   simp only[mapI] at EM
   simp only[List.length_cons,List.length_nil,Nat.zero_add] at*
   generalize qw F .unit y=z at*
   go_enter Tryz.func111,Tryz.ntmps111
   go_wp2_with(go_at_call 111;go_loud(refine(Q.out _ H0.out.low).mono ?_;rintro e W2 ⟨u,rfl,hk,hb⟩;obtain⟨pz,cz,rfl,lz⟩:=hk.shape;have H2:=qh (H0.out.call hb (qk _ _) hk);obtain⟨⟨r0,r1,r2⟩,e0,e1,e2⟩:=H2.out.c3 1 rfl;have ek:=(H2.out.skip (.cells #[.int .i64 z.kind,.string z.text,.slice pz z.kids.length cz] 24)).c3 1 rfl;have ef:=H2.out.far 1 rfl;clear hk hb))
   obtain⟨Wf,hW,hf⟩:=qd (Fr.set3 (x:=.int .i64 25) (y:=.string ⟨#[]⟩) (z:=(.slice (some ⟨W2.heap.size,0,none⟩) 1 1)) (H2.out.lit1 z List.mem_cons_self) 1 rfl)
   rewrite[←hW]
   (try simp only[nn] at hf)
   clear hW
   obtain⟨⟨s0,s1,s2⟩,-⟩:=hf.c3 1 rfl
   have hZ:NRes w (.mk 25 ⟨#[]⟩ [z]) (.returned (.agg #[.int .i64 25,.string ⟨#[]⟩,(.slice (some ⟨W2.heap.size,0,none⟩) 1 1)])) Wf:=hf.toldN (x:=(.mk 25 ⟨#[]⟩ [z]))
   have HF:=qh hZ
   clear hf hZ
   (try go_wp2)
   exact bR9 (v:=.agg #[.int .i64 25,.string ⟨#[]⟩,(.slice (some ⟨W2.heap.size,0,none⟩) 1 1)]) (by simp[results,Tryz.results111,go_sem,s0,s1,s2]) rfl ((fun h=>by rw[EM.out];exact h) HF.out)
 ·rw[if_neg hn] at eM
  have Q:=qh (fun V (hV:Below w.heap.size w V)=>i1 (.slice pu l.length cu) V S (HU.out.stays hV) (HT.out.below hV))
  have EM:=qh eM
  clear eM i1 ih
  generalize qw F .term (.mk k t l)=z at*
  by_cases h1:k=25
  ·subst h1
   have h2:¬l.length=1:=fun h=>hn ⟨rfl,h⟩
   have y1:((l.length:Int)==1)=false:=hW9 (by omega)
   have y2:((l.length:Int)=1)=False:=eq_false (by omega)
   clear hn h2
   go_enter Tryz.func111,Tryz.ntmps111
   go_wp2_with(go_at_call 78;go_loud(refine(Q.out _ H0.out.low).mono ?_;rintro e W2 ⟨u,rfl,hk,hb⟩;obtain⟨pz,cz,rfl,lz⟩:=hk.shape;have H2:=qh (H0.out.call hb (qk _ _) hk);obtain⟨⟨r0,r1,r2⟩,e0,e1,e2⟩:=H2.out.c3 1 rfl;have ef:=H2.out.far 1 rfl;clear hk hb))
   obtain⟨Wf,hW,hf⟩:=qd (Fr.set3 (x:=.int .i64 z.kind) (y:=.string z.text) (z:=(.slice pz z.kids.length cz)) H2.out 1 rfl)
   rewrite[←hW]
   (try simp only[nn] at hf)
   clear hW
   obtain⟨⟨s0,s1,s2⟩,-⟩:=hf.c3 1 rfl
   have hZ:NRes w z (.returned (.agg #[.int .i64 z.kind,.string z.text,(.slice pz z.kids.length cz)])) Wf:=hf.toldN (x:=z)
   have HF:=qh hZ
   clear hf hZ
   (try go_wp2)
   exact bR9 (v:=.agg #[.int .i64 z.kind,.string z.text,(.slice pz z.kids.length cz)]) (by simp[results,Tryz.results111,go_sem,s0,s1,s2]) rfl ((fun h=>by rw[EM.out];exact h) HF.out)
  ·have y1:(k==25)=false:=hW9 h1
   have y2:=eq_false h1
   clear hn h1
   go_enter Tryz.func111,Tryz.ntmps111
   go_wp2_with(go_at_call 78;go_loud(refine(Q.out _ H0.out.low).mono ?_;rintro e W2 ⟨u,rfl,hk,hb⟩;obtain⟨pz,cz,rfl,lz⟩:=hk.shape;have H2:=qh (H0.out.call hb (qk _ _) hk);obtain⟨⟨r0,r1,r2⟩,e0,e1,e2⟩:=H2.out.c3 1 rfl;have ef:=H2.out.far 1 rfl;clear hk hb))
   obtain⟨Wf,hW,hf⟩:=qd (Fr.set3 (x:=.int .i64 z.kind) (y:=.string z.text) (z:=(.slice pz z.kids.length cz)) H2.out 1 rfl)
   rewrite[←hW]
   (try simp only[nn] at hf)
   clear hW
   obtain⟨⟨s0,s1,s2⟩,-⟩:=hf.c3 1 rfl
   have hZ:NRes w z (.returned (.agg #[.int .i64 z.kind,.string z.text,(.slice pz z.kids.length cz)])) Wf:=hf.toldN (x:=z)
   have HF:=qh hZ
   clear hf hZ
   (try go_wp2)
   exact bR9 (v:=.agg #[.int .i64 z.kind,.string z.text,(.slice pz z.kids.length cz)]) (by simp[results,Tryz.results111,go_sem,s0,s1,s2]) rfl ((fun h=>by rw[EM.out];exact h) HF.out)
theorem qkz{F:Nat}(y1 y2:qb)(t:ByteArray)(ht:t=⟨#[124]⟩)(i1:qaY F .unit y1)(i2:qaY F .value y2):qaY (F+1) .value (.mk 24 t [y1,y2]):=by
 intro u w S hu hT
 simp only[qb.kind_mk,qb.text_mk,qb.kids_mk] at*
 obtain⟨pu,cu,rfl,lu⟩:=hu.shape
 have HT:=qh hT
 subst ht
 obtain⟨b,o,ux,rfl,-,a1,ax⟩:=hu.kid (i:=0) rfl
 obtain⟨b',o',uy,e',-,a2,ay⟩:=hu.kid (i:=1) rfl
 cases e'
 obtain⟨px,cx,rfl,lx⟩:=ax.shape
 obtain⟨py,cy,rfl,ly⟩:=ay.shape
 simp only[List.length_cons,List.length_nil,Nat.zero_add,Nat.reduceAdd] at*
 have H0:=qh (qap w (.int .i64 24) (.string ⟨#[124]⟩) (.slice (some ⟨b,o,none⟩) 2 cu))
 show Calls Tryz.prog 81 #[.agg #[.int .i64 24,.string ⟨#[124]⟩,.slice (some ⟨b,o,none⟩) 2 cu]] w _
 have eM:qw (F+1) .value (.mk 24 ⟨#[124]⟩ [y1,y2])=.mk 24 ⟨#[124]⟩ [qw F .unit y1,qw F .value y2]:=rfl
 obtain⟨⟨k0,k1,k2⟩,-⟩:=H0.out.c3 0 rfl
 go_enter Tryz.func81,Tryz.ntmps81
 go_upto_region 2 with(fail)
 obtain⟨W1,hW,h1⟩:=qd H0.out
 rewrite[←hW]
 clear hW H0 k0 k1 k2
 have H1:=qh h1
 have hs:∀U,Below W1.heap.size W1 U→(U.cell? ⟨b,o,none⟩=some (.int .i64 y1.kind)∧U.cell? ⟨b,o+1,none⟩=some (.string y1.text)∧U.cell? ⟨b,o+2,none⟩=some (.slice px y1.kids.length cx))∧(U.cell? ⟨b,o+3,none⟩=some (.int .i64 y2.kind)∧U.cell? ⟨b,o+3+1,none⟩=some (.string y2.text)∧U.cell? ⟨b,o+3+2,none⟩=some (.slice py y2.kids.length cy))∧U.cell? ⟨w.heap.size,2,none⟩=some (.slice (some ⟨b,o,none⟩) 2 cu):=fun U hU=>by
  have hb:=h1.low.trans (hU.mono h1.low.size)
  obtain⟨g0,g1,g2⟩:=a1.stays hb
  obtain⟨g3,g4,g5⟩:=a2.stays hb
  simp only[Nat.zero_mul,Nat.one_mul,Nat.add_zero] at g0 g1 g2 g3 g4 g5
  exact⟨⟨g0,g1,g2⟩,⟨g3,g4,g5⟩,((h1.stays hU).c3 0 rfl).1.2.2⟩
 have hs2:∀U x y z,Below W1.heap.size W1 U→((((U.setCell ⟨w.heap.size+1,0,none⟩ x).setCell ⟨w.heap.size+1,1,none⟩ y).setCell ⟨w.heap.size+1,2,none⟩ z).cell? ⟨b,o,none⟩=some (.int .i64 y1.kind)∧(((U.setCell ⟨w.heap.size+1,0,none⟩ x).setCell ⟨w.heap.size+1,1,none⟩ y).setCell ⟨w.heap.size+1,2,none⟩ z).cell? ⟨b,o+1,none⟩=some (.string y1.text)∧(((U.setCell ⟨w.heap.size+1,0,none⟩ x).setCell ⟨w.heap.size+1,1,none⟩ y).setCell ⟨w.heap.size+1,2,none⟩ z).cell? ⟨b,o+2,none⟩=some (.slice px y1.kids.length cx))∧((((U.setCell ⟨w.heap.size+1,0,none⟩ x).setCell ⟨w.heap.size+1,1,none⟩ y).setCell ⟨w.heap.size+1,2,none⟩ z).cell? ⟨b,o+3,none⟩=some (.int .i64 y2.kind)∧(((U.setCell ⟨w.heap.size+1,0,none⟩ x).setCell ⟨w.heap.size+1,1,none⟩ y).setCell ⟨w.heap.size+1,2,none⟩ z).cell? ⟨b,o+3+1,none⟩=some (.string y2.text)∧(((U.setCell ⟨w.heap.size+1,0,none⟩ x).setCell ⟨w.heap.size+1,1,none⟩ y).setCell ⟨w.heap.size+1,2,none⟩ z).cell? ⟨b,o+3+2,none⟩=some (.slice py y2.kids.length cy))∧(((U.setCell ⟨w.heap.size+1,0,none⟩ x).setCell ⟨w.heap.size+1,1,none⟩ y).setCell ⟨w.heap.size+1,2,none⟩ z).cell? ⟨w.heap.size,2,none⟩=some (.slice (some ⟨b,o,none⟩) 2 cu):=fun U x y z hU=>by
  obtain⟨⟨g0,g1,g2⟩,⟨g3,g4,g5⟩,g6⟩:=hs U hU
  have k:=qZ U (w.heap.size+1) x y z
  have hlt:¬b=w.heap.size+1:=by have:=a1.lt;omega
  exact⟨⟨k.cell g0 hlt,k.cell g1 hlt,k.cell g2 hlt⟩,⟨k.cell g3 hlt,k.cell g4 hlt,k.cell g5 hlt⟩,k.cell g6 (by omega)⟩
 have SHOW:=qh hs
 have SHOW2:=qh hs2
 have hb0:Below W1.heap.size W1 W1.drew:=(Below.refl _ _).drew
 have Q1:Hid (∀V,Below W1.heap.size W1 V→Calls Tryz.prog 111 #[.agg #[.int .i64 y1.kind,.string y1.text,.slice px y1.kids.length cx]] V (NRes V (qw F .unit y1))):=qh (fun V (hV:Below W1.heap.size W1 V)=>i1 _ V S (ax.stays (h1.low.trans (hV.mono h1.low.size))) (HT.out.below (h1.low.trans (hV.mono h1.low.size))))
 have Q2:Hid (∀V,Below W1.heap.size W1 V→Calls Tryz.prog 81 #[.agg #[.int .i64 y2.kind,.string y2.text,.slice py y2.kids.length cy]] V (NRes V (qw F .value y2))):=qh (fun V (hV:Below W1.heap.size W1 V)=>i2 _ V S (ay.stays (h1.low.trans (hV.mono h1.low.size))) (HT.out.below (h1.low.trans (hV.mono h1.low.size))))
 have EM:=qh eM
 clear hs hs2 h1 a1 a2 ax ay i1 i2 hT hu eM
 generalize qw F .unit y1=z1 at*
 generalize qw F .value y2=z2 at*
 obtain⟨⟨g0,g1,g2⟩,⟨g3,g4,g5⟩,g6⟩:=SHOW.out W1 (Below.refl _ _)
 go_region_held3 (fun U=>(U.cell? ⟨b,o,none⟩=some (.int .i64 y1.kind)∧U.cell? ⟨b,o+1,none⟩=some (.string y1.text)∧U.cell? ⟨b,o+2,none⟩=some (.slice px y1.kids.length cx))∧(U.cell? ⟨b,o+3,none⟩=some (.int .i64 y2.kind)∧U.cell? ⟨b,o+3+1,none⟩=some (.string y2.text)∧U.cell? ⟨b,o+3+2,none⟩=some (.slice py y2.kids.length cy))∧U.cell? ⟨w.heap.size,2,none⟩=some (.slice (some ⟨b,o,none⟩) 2 cu))
  (with_reducible first|exact SHOW.out _ hb0|assumption|(refine SHOW2.out _ _ _ _ ?_;first|assumption|exact qc (by assumption) _)|(refine SHOW.out _ ?_;first|assumption|exact qc (by assumption) _))
  (first
   |(go_at_call 111;(with_reducible refine(Q1.out _ (by with_reducible assumption)).mono ?_);rintro _ U ⟨u,rfl,hk,bu⟩;obtain⟨p1,c1,rfl,lz⟩:=hk.shape;have HK1:=qh hk;have BU1:=qh bu;have bb:Below W1.heap.size W1 U:=Below.trans (by with_reducible assumption) (bu.mono (Below.size (show Below W1.heap.size W1 _ by with_reducible assumption)));have cr:=fun o=>((H1.out.stays bb).skip o).c3 1 rfl;clear hk bu lz)
   |(go_at_call 81;(with_reducible refine(Q2.out _ (by with_reducible assumption)).mono ?_);rintro _ U ⟨u,rfl,hk,bu⟩;obtain⟨p2,c2,rfl,lz⟩:=hk.shape;have HK2:=qh hk;have BU2:=qh bu;have bb:Below W1.heap.size W1 U:=Below.trans (by with_reducible assumption) (bu.mono (Below.size (show Below W1.heap.size W1 _ by with_reducible assumption)));have cr:=fun o=>((H1.out.stays bb).skip o).c3 1 rfl;clear hk bu lz))
 all_goals
  first
   |(have hf:=(H1.out.drew.call BU1.out (qk _ _) HK1.out).call BU2.out (qk _ _) HK2.out)
   |(have hf:=(H1.out.drew.call BU2.out (qk _ _) HK2.out).call BU1.out (qk _ _) HK1.out)
  have H2:=qh (hf.lit2 z1 z2 (u:=.slice p1 z1.kids.length c1) (v:=.slice p2 z2.kids.length c2) (by simp) (by simp))
  clear hf
  obtain⟨Wf,hW,hf⟩:=qd (Fr.set3 (x:=.int .i64 24) (y:=.string ⟨#[124]⟩) (z:=(.slice (some ⟨U.heap.size,0,none⟩) 2 2)) H2.out 1 rfl)
  rewrite[←hW]
  (try simp only[nn] at hf)
  clear hW
  obtain⟨⟨s0,s1,s2⟩,-⟩:=hf.c3 1 rfl
  have hZ:NRes w (.mk 24 ⟨#[124]⟩ [z1,z2]) (.returned (.agg #[.int .i64 24,.string ⟨#[124]⟩,(.slice (some ⟨U.heap.size,0,none⟩) 2 2)])) Wf:=hf.toldN (x:=(.mk 24 ⟨#[124]⟩ [z1,z2]))
  have HF:=qh hZ
  clear hf hZ
  (try go_wp2)
  exact bR9 (v:=.agg #[.int .i64 24,.string ⟨#[124]⟩,(.slice (some ⟨U.heap.size,0,none⟩) 2 2)]) (by simp[results,Tryz.results81,go_sem,s0,s1,s2]) rfl ((fun h=>by rw[EM.out];exact h) HF.out)
theorem qhN{t:ByteArray}{l:List UInt8}(h:¬t=⟨l.toArray⟩):¬t.data.toList=l:=fun e=>h (by cases t;simp at e;subst e;simp)
theorem qju{F:Nat}(x:qb)(i1:qaY F .unit x)(iu:∀y∈x.kids,qaY F .unit y)(iv:∀y∈x.kids,qaY F .value y):qaY (F+1) .value x:=by
 by_cases hn:x.kind=24∧x.text=⟨#[124]⟩∧x.kids.length=2
 ·obtain⟨k,t,l⟩:=x
  simp only[qb.kind_mk,qb.text_mk,qb.kids_mk] at*
  obtain⟨rfl,ht,hl⟩:=hn
  match l,hl with
  |[y1,y2],_=>exact qkz y1 y2 t ht (iu y1 (by simp)) (iv y2 (by simp))
 ·obtain⟨k,t,l⟩:=x
  intro u w S hu hT
  simp only[qb.kind_mk,qb.text_mk,qb.kids_mk] at*
  obtain⟨pu,cu,rfl,lu⟩:=hu.shape
  have H0:=qh (qap w (.int .i64 k) (.string t) (.slice pu l.length cu))
  have HU:=qh hu
  have HT:=qh hT
  clear hu hT
  show Calls Tryz.prog 81 #[.agg #[.int .i64 k,.string t,.slice pu l.length cu]] w _
  have eM:qw (F+1) .value (.mk k t l)=qw F .unit (.mk k t l):=if_neg hn
  have Q:=qh (fun V (hV:Below w.heap.size w V)=>i1 (.slice pu l.length cu) V S (HU.out.stays hV) (HT.out.below hV))
  have EM:=qh eM
  obtain⟨⟨k0,k1,k2⟩,-⟩:=H0.out.c3 0 rfl
  clear eM i1 iu iv
  generalize qw F .unit (.mk k t l)=z at*
  by_cases h1:k=24
  ·subst h1
   by_cases h2:t=⟨#[124]⟩
   ·subst h2
    have h3:¬l.length=2:=fun h=>hn ⟨rfl,rfl,h⟩
    have y1:((l.length:Int)==2)=false:=hW9 (by omega)
    have y2:((l.length:Int)=2)=False:=eq_false (by omega)
    clear hn h3
    go_enter Tryz.func81,Tryz.ntmps81
    go_wp2_with(go_at_call 111;go_loud(refine(Q.out _ H0.out.low).mono ?_;rintro e W2 ⟨u,rfl,hk,hb⟩;obtain⟨pz,cz,rfl,lz⟩:=hk.shape;have H2:=qh (H0.out.call hb (qk _ _) hk);obtain⟨⟨r0,r1,r2⟩,e0,e1,e2⟩:=H2.out.c3 1 rfl;have ef:=H2.out.far 1 rfl;clear hk hb))
    obtain⟨Wf,hW,hf⟩:=qd (Fr.set3 (x:=.int .i64 z.kind) (y:=.string z.text) (z:=(.slice pz z.kids.length cz)) H2.out 1 rfl)
    rewrite[←hW]
    (try simp only[nn] at hf)
    clear hW
    obtain⟨⟨s0,s1,s2⟩,-⟩:=hf.c3 1 rfl
    have hZ:NRes w z (.returned (.agg #[.int .i64 z.kind,.string z.text,(.slice pz z.kids.length cz)])) Wf:=hf.toldN (x:=z)
    have HF:=qh hZ
    clear hf hZ
    (try go_wp2)
    exact bR9 (v:=.agg #[.int .i64 z.kind,.string z.text,(.slice pz z.kids.length cz)]) (by simp[results,Tryz.results81,go_sem,s0,s1,s2]) rfl ((fun h=>by rw[EM.out];exact h) HF.out)
   ·have h3:=qhN (l:=[124]) h2
    rw[←ByteArray.toList_eq] at h3
    have y1:(t.toList==[124])=false:=hW9 h3
    have y2:=eq_false h3
    have y3:=eq_false h2
    clear hn h2 h3
    go_enter Tryz.func81,Tryz.ntmps81
    go_wp2_with(go_at_call 111;go_loud(refine(Q.out _ H0.out.low).mono ?_;rintro e W2 ⟨u,rfl,hk,hb⟩;obtain⟨pz,cz,rfl,lz⟩:=hk.shape;have H2:=qh (H0.out.call hb (qk _ _) hk);obtain⟨⟨r0,r1,r2⟩,e0,e1,e2⟩:=H2.out.c3 1 rfl;have ef:=H2.out.far 1 rfl;clear hk hb))
    obtain⟨Wf,hW,hf⟩:=qd (Fr.set3 (x:=.int .i64 z.kind) (y:=.string z.text) (z:=(.slice pz z.kids.length cz)) H2.out 1 rfl)
    rewrite[←hW]
    (try simp only[nn] at hf)
    clear hW
    obtain⟨⟨s0,s1,s2⟩,-⟩:=hf.c3 1 rfl
    have hZ:NRes w z (.returned (.agg #[.int .i64 z.kind,.string z.text,(.slice pz z.kids.length cz)])) Wf:=hf.toldN (x:=z)
    have HF:=qh hZ
    clear hf hZ
    (try go_wp2)
    exact bR9 (v:=.agg #[.int .i64 z.kind,.string z.text,(.slice pz z.kids.length cz)]) (by simp[results,Tryz.results81,go_sem,s0,s1,s2]) rfl ((fun h=>by rw[EM.out];exact h) HF.out)
  ·have y1:(k==24)=false:=hW9 h1
   have y2:=eq_false h1
   clear hn h1
   go_enter Tryz.func81,Tryz.ntmps81
   go_wp2_with(go_at_call 111;go_loud(refine(Q.out _ H0.out.low).mono ?_;rintro e W2 ⟨u,rfl,hk,hb⟩;obtain⟨pz,cz,rfl,lz⟩:=hk.shape;have H2:=qh (H0.out.call hb (qk _ _) hk);obtain⟨⟨r0,r1,r2⟩,e0,e1,e2⟩:=H2.out.c3 1 rfl;have ef:=H2.out.far 1 rfl;clear hk hb))
   obtain⟨Wf,hW,hf⟩:=qd (Fr.set3 (x:=.int .i64 z.kind) (y:=.string z.text) (z:=(.slice pz z.kids.length cz)) H2.out 1 rfl)
   rewrite[←hW]
   (try simp only[nn] at hf)
   clear hW
   obtain⟨⟨s0,s1,s2⟩,-⟩:=hf.c3 1 rfl
   have hZ:NRes w z (.returned (.agg #[.int .i64 z.kind,.string z.text,(.slice pz z.kids.length cz)])) Wf:=hf.toldN (x:=z)
   have HF:=qh hZ
   clear hf hZ
   (try go_wp2)
   exact bR9 (v:=.agg #[.int .i64 z.kind,.string z.text,(.slice pz z.kids.length cz)]) (by simp[results,Tryz.results81,go_sem,s0,s1,s2]) rfl ((fun h=>by rw[EM.out];exact h) HF.out)
theorem qi9{x y:qb}(h:y∈x.kids):qbv y+1≤qbv x:=by
 rw[qm4 x]
 have:∀l:List qb,y∈l→qbv y≤qgj l:=by
  intro l
  induction l with
  |nil=>intro h;cases h
  |cons z r ih=>
   intro h
   rw[qgj]
   rcases List.mem_cons.1 h with rfl|h
   ·omega
   ·have:=ih h;omega
 have:=this _ h
 omega
theorem qdf{x y:qb}(h:y∈x.kids):qT y≤qT x:=by
 have:=qfN h
 rw[qcU x]
 omega
theorem qi0:∀(F:Nat) (m:WM) (x:qb),qT x≤1000000000→4*qbv x+qbk m<F→qaY F m x
 |0,m,x,_,h=>by omega
 |F+1,m,x,hc,h=>by
  have ih:=qi0 F
  have hkid:∀y∈x.kids,∀m,qaY F m y:=fun y hy m=>ih m y (Nat.le_trans (qdf hy) hc) (by
   have:=qi9 hy
   have:qbk m≤3:=by cases m<;>simp[qbk]
   omega)
  match m,h with
  |.whole f,h=>exact qjT f x (by have:=qbH x.kids;have:=qcU x;omega) fun m y hy _=>hkid y hy m
  |.put a f,h=>exact qmb a f x (ih _ x hc (by simp only[qbk] at h⊢;omega)) (ih _ x hc (by simp only[qbk] at h⊢;omega))
  |.term,h=>exact qke x (ih _ x hc (by simp only[qbk] at h⊢;omega))
  |.unit,h=>exact qjN x (ih _ x hc (by simp only[qbk] at h⊢;omega)) fun y hy=>hkid y hy _
  |.value,h=>exact qju x (ih _ x hc (by simp only[qbk] at h⊢;omega)) (fun y hy=>hkid y hy _) fun y hy=>hkid y hy _
def isBr(k:Int)(n:Nat):Bool:=decide (k=12∧n=1)
theorem qgz(k:Int)(t:ByteArray)(p:Option Addr)(n c:Nat)(w:World):Calls Tryz.prog 43 #[.agg #[.int .i64 k,.string t,.slice p n c]] w fun e w'=>e=.returned (.bool (isBr k n))∧Below w.heap.size w w':=by
 have hl:=(qb9 w 24 (.int .i64 k) (.string t) (.slice p n c)).low
 unfold isBr
 by_cases h1:k=12
 ·subst h1
  by_cases h2:n=1
  ·subst h2
   go_enter Tryz.func43,Tryz.ntmps43
   go_wp2
   go_ret
   exact⟨by simp,hl⟩
  ·have y1:((n:Int)==1)=false:=hW9 (by omega)
   have y2:((n:Int)=1)=False:=eq_false (by omega)
   go_enter Tryz.func43,Tryz.ntmps43
   go_wp2
   go_ret
   exact⟨by simp[h2],hl⟩
 ·have y1:(k==12)=false:=hW9 h1
  have y2:=eq_false h1
  go_enter Tryz.func43,Tryz.ntmps43
  go_wp2
  go_ret
  exact⟨by simp[h1],hl⟩
theorem qgv(k:Int)(t:ByteArray)(p:Option Addr)(n c:Nat)(w:World):Calls Tryz.prog 28 #[.agg #[.int .i64 k,.string t,.slice p n c]] w fun e w'=>e=.returned (.bool (isBr k n))∧Below w.heap.size w w':=by
 have hl:=(qb9 w 24 (.int .i64 k) (.string t) (.slice p n c)).low
 unfold isBr
 by_cases h1:k=12
 ·subst h1
  by_cases h2:n=1
  ·subst h2
   go_enter Tryz.func28,Tryz.ntmps28
   go_wp2
   go_ret
   exact⟨by simp,hl⟩
  ·have y1:((n:Int)==1)=false:=hW9 (by omega)
   have y2:((n:Int)=1)=False:=eq_false (by omega)
   go_enter Tryz.func28,Tryz.ntmps28
   go_wp2
   go_ret
   exact⟨by simp[h2],hl⟩
 ·have y1:(k==12)=false:=hW9 h1
  have y2:=eq_false h1
  go_enter Tryz.func28,Tryz.ntmps28
  go_wp2
  go_ret
  exact⟨by simp[h1],hl⟩
def SRes(w:World)(S:Nat→Prop)(x:qb)(e:Ending)(w':World):Prop:=∃u,e=.returned (.agg #[.int .i64 x.kind,.string x.text,u])∧qo w' S u x.kids∧Below w.heap.size w w'
theorem qkt(k:Int)(t:ByteArray)(l:List qb)(u:Value)(w:World)(S:Nat→Prop)(hu:qo w S u l):Calls Tryz.prog 42 #[.agg #[.int .i64 k,.string t,u]] w (SRes w S (qd5 k t l)):=by
 obtain⟨pu,cu,rfl,lu⟩:=hu.shape
 have H0:=qh (qap w (.int .i64 k) (.string t) (.slice pu l.length cu))
 have HU:=qh hu
 have QB:=qh (fun V=>qgz k t pu l.length cu V)
 obtain⟨⟨k0,k1,k2⟩,-⟩:=H0.out.c3 0 rfl
 clear hu
 by_cases hn:k=12∧l.length=1
 ·obtain⟨rfl,hl⟩:=hn
  match l,hl with
  |[y],_=>
   obtain⟨b,o,ux,rfl,-,a1,ax⟩:=HU.out.kid (i:=0) rfl
   obtain⟨px,cx,rfl,lx⟩:=ax.shape
   have A1:=qh a1
   have AX:=qh ax
   simp only[List.length_cons,List.length_nil,Nat.zero_add] at*
   rw[show isBr 12 1=true from rfl] at QB
   rw[show qd5 12 t [y]=y from rfl]
   clear a1 ax
   go_enter Tryz.func42,Tryz.ntmps42
   go_wp2_with(go_at_call 43;go_loud(refine(QB.out _).mono ?_;rintro e W1 ⟨rfl,hb⟩;have H1:=qh (H0.out.stays hb);obtain⟨⟨k0,k1,k2⟩,-⟩:=H1.out.c3 0 rfl;obtain⟨⟨r0,r1,r2⟩,e0,e1,e2⟩:=H1.out.c3 1 rfl;obtain⟨g0,g1,g2⟩:=A1.out.stays H1.out.low;simp only[Nat.zero_mul,Nat.add_zero] at g0 g1 g2;clear hb))
   obtain⟨Wf,hW,hf⟩:=qd (Fr.set3 (x:=.int .i64 y.kind) (y:=.string y.text) (z:=.slice px y.kids.length cx) H1.out 1 rfl)
   rewrite[←hW]
   (try simp only[nn] at hf)
   clear hW
   obtain⟨⟨s0,s1,s2⟩,-⟩:=hf.c3 1 rfl
   have hZ:SRes w S y (.returned (.agg #[.int .i64 y.kind,.string y.text,.slice px y.kids.length cx])) Wf:=⟨_,rfl,AX.out.stays hf.low,hf.low⟩
   have HF:=qh hZ
   clear hf hZ
   exact bR9 (v:=.agg #[.int .i64 y.kind,.string y.text,.slice px y.kids.length cx]) (by simp[results,Tryz.results42,go_sem,s0,s1,s2]) rfl HF.out
 ·have eM:qd5 k t l=.mk k t l:=if_neg hn
  rw[eM]
  rw[show isBr k l.length=false from decide_eq_false hn] at QB
  clear hn eM
  go_enter Tryz.func42,Tryz.ntmps42
  go_wp2_with(go_at_call 43;go_loud(refine(QB.out _).mono ?_;rintro e W1 ⟨rfl,hb⟩;have H1:=qh (H0.out.stays hb);obtain⟨⟨k0,k1,k2⟩,-⟩:=H1.out.c3 0 rfl;obtain⟨⟨r0,r1,r2⟩,e0,e1,e2⟩:=H1.out.c3 1 rfl;clear hb))
  obtain⟨Wf,hW,hf⟩:=qd (Fr.set3 (x:=.int .i64 k) (y:=.string t) (z:=.slice pu l.length cu) H1.out 1 rfl)
  rewrite[←hW]
  (try simp only[nn] at hf)
  clear hW
  obtain⟨⟨s0,s1,s2⟩,-⟩:=hf.c3 1 rfl
  have hZ:SRes w S (.mk k t l) (.returned (.agg #[.int .i64 k,.string t,.slice pu l.length cu])) Wf:=⟨_,rfl,HU.out.stays hf.low,hf.low⟩
  have HF:=qh hZ
  clear hf hZ
  exact bR9 (v:=.agg #[.int .i64 k,.string t,.slice pu l.length cu]) (by simp[results,Tryz.results42,go_sem,s0,s1,s2]) rfl HF.out
abbrev bareV:Value:=.func (.func 42) #[] #[]
theorem mapT(f:qb→qb){l:List qb}{j:Nat}{x:qb}(h:l[j]? =some x):(l.take (j+1)).map f=(l.take j).map f++[f x]:=by
 rw[List.take_add_one,h,Option.toList_some,List.map_append];rfl
theorem qjK:∀(x:qb) (u:Value) (w:World) (S:Nat→Prop),qo w S u x.kids→qT x≤1000000000→Calls Tryz.prog 41 #[.agg #[.int .i64 x.kind,.string x.text,u],bareV] w (NRes w (qJ x)):=by
 refine qb.ind fun x ih=>?_
 obtain⟨k,t,l⟩:=x
 intro u w S hu hc
 simp only[qb.kind_mk,qb.text_mk,qb.kids_mk] at*
 obtain⟨pu,cu,rfl,lu⟩:=hu.shape
 have hll:l.length≤1000000000:=by have:=qbH l;rw[qT] at hc;omega
 have H0:=qh (qap w (.int .i64 k) (.string t) (.slice pu l.length cu))
 have HU:=qh hu
 have IH:=qh (fun y (hy:y∈l)=>ih y hy)
 have HC:=qh (fun y (hy:y∈l)=>Nat.le_trans (qdf (x:=.mk k t l) hy) hc)
 clear hu ih
 obtain⟨⟨k0,k1,k2⟩,-⟩:=H0.out.c3 0 rfl
 go_enter Tryz.func41,Tryz.ntmps41
 go_wp2
 obtain⟨W1,hW,h1⟩:=qd H0.out
 rewrite[←hW]
 clear hW H0
 have H3:=qh (h1.rowNil 24 3)
 clear h1
 go_loopw [5,11] (fun v i wr=>∃(j:Nat) (m:List qb) (us:List Value) (pv:Option Addr) (cv:Nat) (ks:List Fact),(j≤l.length∧i=.int .i64 (j:Int)∧v=.slice pv m.length cv)∧Hid (qfP w wr k t (.slice pu l.length cu) pv cv m us ks)∧Hid (m=(l.take j).map qJ)) (fun _ i _=>l.length- (intOf i).toNat)
 case atStart=>exact⟨0,[],[],none,0,_,⟨Nat.zero_le _,rfl,rfl⟩,qh ⟨H3.out,KN.nil _⟩,qh rfl⟩
 case round=>
  clear H3 k0 k1 k2
  obtain⟨j,m,us,pv,cv,ks,⟨hj,rfl,rfl⟩,HH,HM⟩:=hrel
  have H4:=qh HH.out.fr
  have KN4:=qh HH.out.kn
  obtain⟨⟨c0,c1,c2⟩,d0,d1,d2⟩:=H4.out.c3 0 rfl
  by_cases hlt:j<l.length
  ·have hxj:=List.getElem?_eq_getElem hlt
   obtain⟨b,o,ux,rfl,-,a1,ax⟩:=HU.out.kid hxj
   obtain⟨px,cx,rfl,lx⟩:=ax.shape
   obtain⟨g0,g1,g2⟩:=a1.stays H4.out.low
   have HX:=qh (ax.stays H4.out.low)
   have HMEM:=qh (List.getElem_mem hlt)
   have HM1:Hid ((l.take (j+1)).map qJ=m++[qJ l[j]]):=qh (by rw[mapT _ hxj,←HM.out])
   have HLM:Hid (m.length<1000000001):=qh (by rw[HM.out,List.length_map,List.length_take];omega)
   clear ax hxj
   generalize l[j]=y at*
   go_upto_region 5 with(fail)
   obtain⟨W5,hW,h5⟩:=qd (H4.out.lay [.int .i64 y.kind,.string y.text,.slice px y.kids.length cx] 24)
   rewrite[←hW]
   (try simp only[nn] at h5)
   have H5:=qh h5
   have HL5:Hid (Below wr.heap.size wr W5):=qh (by rw[hW];exact(Below.refl _ _).alloc (Nat.le_refl _) _)
   clear h5 hW c0 c1 c2 d0 d1 d2 g0 g1 g2 a1 H4
   obtain⟨⟨c0,c1,c2⟩,-⟩:=H5.out.c3 0 rfl
   obtain⟨⟨k0,k1,k2⟩,-⟩:=H5.out.c3 2 rfl
   have QP:=qh (IH.out y HMEM.out _ W5 S (HX.out.stays HL5.out) (HC.out y HMEM.out))
   clear HX
   generalize qJ y=z at*
   go_upto_region 6 with(first|(go_at_call 41;go_loud(refine QP.out.mono ?_;rintro e W6 ⟨uz,rfl,hk,hb⟩;obtain⟨pz,cz,rfl,lz⟩:=hk.shape;have H6:=qh (H5.out.call hb (qk _ _) hk);clear hk hb H5 QP))|(at_builtin;go_loud(refine q8 (H6.out.skip _) 0 rfl KN4.out.1 z (by simp) (World.alloc_heap_new W6 _) HLM.out rfl _ _ rfl rfl rfl ?_;intro p7 c7 W7 h7;(try simp only[nn] at h7);have H7:=qh h7;clear h7)))
   go_wp2
   go_roundw
   case rel=>exact⟨j+1,m++[z],us++[.slice pz z.kids.length cz],p7,c7,_,⟨by omega,by go_num,by rw[List.length_append,List.length_singleton]⟩,qh ⟨by rw[List.length_append,List.length_singleton];exact H7.out.two2,(KN4.out.more (F:=qk (.slice pz z.kids.length cz) z.kids)).snoc (x:=z) (u:=.slice pz z.kids.length cz) List.mem_cons_self⟩,qh HM1.out.symm⟩
   case measure=>simp[intOf];omega
  ·obtain rfl:j=l.length:=by omega
   obtain⟨⟨r0,r1,r2⟩,e0,e1,e2⟩:=H4.out.c3 1 rfl
   have HLM:Hid (m.length≤4611686018427387904):=qh (by rw[HM.out,List.length_map,List.length_take];omega)
   have eM:qJ (.mk k t l)=qd5 k t m:=by rw[qhH,HM.out,List.take_length];rfl
   have EM:=qh eM
   clear eM
   go_upto_region 8 with(fail)
   obtain⟨W5,hW,h5⟩:=qd ((H4.out.give1 KN4.out HLM.out).set 0 2 rfl (.slice pv m.length cv))
   rewrite[←hW]
   (try simp only[nn] at h5)
   have H5:=qh h5
   clear h5 hW c0 c1 c2 d0 d1 d2 r0 r1 r2 e0 e1 e2
   obtain⟨⟨c0,c1,c2⟩,-⟩:=H5.out.c3 0 rfl
   have hkk:qo W5 _ (.slice pv m.length cv) m:=H5.out.get List.mem_cons_self
   have QP:=qh (qkt k t m _ W5 _ hkk)
   clear hkk
   generalize qd5 k t m=z at*
   go_wp2_with(go_at_call 42;go_loud(refine QP.out.mono ?_;rintro e W6 ⟨uz,rfl,hk,hb⟩;obtain⟨pz,cz,rfl,lz⟩:=hk.shape;have H6:=qh ((H5.out.stays hb).more (qk _ _) hk fun c hc _=>hc);obtain⟨⟨r0,r1,r2⟩,e0,e1,e2⟩:=H6.out.c3 1 rfl;clear hk hb))
   obtain⟨Wf,hW,hf⟩:=qd (Fr.set3 (x:=.int .i64 z.kind) (y:=.string z.text) (z:=.slice pz z.kids.length cz) H6.out 1 rfl)
   rewrite[←hW]
   (try simp only[nn] at hf)
   clear hW
   obtain⟨⟨s0,s1,s2⟩,-⟩:=hf.c3 1 rfl
   have hZ:NRes w (qJ (.mk k t l)) (.returned (.agg #[.int .i64 z.kind,.string z.text,.slice pz z.kids.length cz])) Wf:=by rw[EM.out];exact hf.toldN (x:=z)
   have HF:=qh hZ
   clear hf hZ
   exact bR9 (v:=.agg #[.int .i64 z.kind,.string z.text,.slice pz z.kids.length cz]) (by simp[results,Tryz.results41,go_sem,s0,s1,s2]) rfl HF.out
theorem qiW:∀(x:qb) (u:Value) (w:World) (S:Nat→Prop),qo w S u x.kids→qT x≤1000000000→Calls Tryz.prog 15 #[.agg #[.int .i64 x.kind,.string x.text,u]] w (NRes w (qJ x)):=by
 refine qb.ind fun x ih=>?_
 obtain⟨k,t,l⟩:=x
 intro u w S hu hc
 simp only[qb.kind_mk,qb.text_mk,qb.kids_mk] at*
 obtain⟨pu,cu,rfl,lu⟩:=hu.shape
 have hll:l.length≤1000000000:=by have:=qbH l;rw[qT] at hc;omega
 have H0:=qh (qap w (.int .i64 k) (.string t) (.slice pu l.length cu))
 have HU:=qh hu
 have IH:=qh (fun y (hy:y∈l)=>ih y hy)
 have HC:=qh (fun y (hy:y∈l)=>Nat.le_trans (qdf (x:=.mk k t l) hy) hc)
 have QB:=qh (fun V=>qgv k t pu l.length cu V)
 clear hu ih
 obtain⟨⟨k0,k1,k2⟩,-⟩:=H0.out.c3 0 rfl
 by_cases hn:k=12∧l.length=1
 ·obtain⟨rfl,hl⟩:=hn
  match l,hl with
  |[y],_=>
   obtain⟨b,o,ux,rfl,-,a1,ax⟩:=HU.out.kid (i:=0) rfl
   obtain⟨px,cx,rfl,lx⟩:=ax.shape
   have A1:=qh a1
   have Q:=qh (fun V (hV:Below w.heap.size w V)=>IH.out y (by simp) _ V S (ax.stays hV) (HC.out y (by simp)))
   have EM:Hid (qJ (.mk 12 t [y])=qJ y):=qh rfl
   generalize qJ y=z at*
   clear ax a1 IH HC HU
   simp only[List.length_cons,List.length_nil,Nat.zero_add] at*
   rw[show isBr 12 1=true from rfl] at QB
   go_enter Tryz.func15,Tryz.ntmps15
   go_upto_region 2 with(go_at_call 28;go_loud(refine(QB.out _).mono ?_;rintro e W1 ⟨rfl,hb⟩;have H1:=qh (H0.out.stays hb);obtain⟨⟨k0,k1,k2⟩,-⟩:=H1.out.c3 0 rfl;clear hb))
   obtain⟨g0,g1,g2⟩:=A1.out.stays H1.out.low
   simp only[Nat.zero_mul,Nat.add_zero] at g0 g1 g2
   go_wp2_with(go_at_call 15;go_loud(refine(Q.out _ H1.out.low).mono ?_;rintro e W2 ⟨u,rfl,hk,hb⟩;obtain⟨pz,cz,rfl,lz⟩:=hk.shape;have H2:=qh (H1.out.call hb (qk _ _) hk);obtain⟨⟨r0,r1,r2⟩,e0,e1,e2⟩:=H2.out.c3 1 rfl;have ef:=H2.out.far 1 rfl;clear hk hb))
   obtain⟨Wf,hW,hf⟩:=qd (Fr.set3 (x:=.int .i64 z.kind) (y:=.string z.text) (z:=(.slice pz z.kids.length cz)) H2.out 1 rfl)
   rewrite[←hW]
   (try simp only[nn] at hf)
   clear hW
   obtain⟨⟨s0,s1,s2⟩,-⟩:=hf.c3 1 rfl
   have hZ:NRes w z (.returned (.agg #[.int .i64 z.kind,.string z.text,(.slice pz z.kids.length cz)])) Wf:=hf.toldN (x:=z)
   have HF:=qh hZ
   clear hf hZ
   (try go_wp2)
   exact bR9 (v:=.agg #[.int .i64 z.kind,.string z.text,(.slice pz z.kids.length cz)]) (by simp[results,Tryz.results15,go_sem,s0,s1,s2]) rfl ((fun h=>by rw[EM.out];exact h) HF.out)
 ·have eM:qJ (.mk k t l)=.mk k t (l.map qJ):=by rw[qhH];exact if_neg (by simpa using hn)
  have EM:=qh eM
  rw[show isBr k l.length=false from decide_eq_false hn] at QB
  clear hn eM
  go_enter Tryz.func15,Tryz.ntmps15
  go_wp2_with(go_at_call 28;go_loud(refine(QB.out _).mono ?_;rintro e W1 ⟨rfl,hb⟩;have H1:=qh (H0.out.stays hb);obtain⟨⟨k0,k1,k2⟩,-⟩:=H1.out.c3 0 rfl;clear hb))
  have H3:=qh (H1.out.rowNil 24 3)
  clear H1 H0 QB
  go_loopw [3,4] (fun v i wr=>∃(j:Nat) (m:List qb) (us:List Value) (pv:Option Addr) (cv:Nat) (ks:List Fact),(j≤l.length∧i=.int .i64 (j:Int)∧v=.slice pv m.length cv)∧Hid (qfP w wr k t (.slice pu l.length cu) pv cv m us ks)∧Hid (m=(l.take j).map qJ)) (fun _ i _=>l.length- (intOf i).toNat)
  case atStart=>exact⟨0,[],[],none,0,_,⟨Nat.zero_le _,rfl,rfl⟩,qh ⟨H3.out,KN.nil _⟩,qh rfl⟩
  case round=>
   clear H3 k0 k1 k2
   obtain⟨j,m,us,pv,cv,ks,⟨hj,rfl,rfl⟩,HH,HM⟩:=hrel
   have H4:=qh HH.out.fr
   have KN4:=qh HH.out.kn
   obtain⟨⟨c0,c1,c2⟩,d0,d1,d2⟩:=H4.out.c3 0 rfl
   by_cases hlt:j<l.length
   ·have hxj:=List.getElem?_eq_getElem hlt
    obtain⟨b,o,ux,rfl,-,a1,ax⟩:=HU.out.kid hxj
    obtain⟨px,cx,rfl,lx⟩:=ax.shape
    obtain⟨g0,g1,g2⟩:=a1.stays H4.out.low
    have HMEM:=qh (List.getElem_mem hlt)
    have HM1:Hid ((l.take (j+1)).map qJ=m++[qJ l[j]]):=qh (by rw[mapT _ hxj,←HM.out])
    have HLM:Hid (m.length<1000000001):=qh (by rw[HM.out,List.length_map,List.length_take];omega)
    have QP:=qh (IH.out _ HMEM.out _ wr S (ax.stays H4.out.low) (HC.out _ HMEM.out))
    clear ax hxj a1
    generalize l[j]=y at*
    generalize qJ y=z at*
    have H5:=H4
    clear H4
    go_upto_region 6 with(first|(go_at_call 15;go_loud(refine QP.out.mono ?_;rintro e W6 ⟨uz,rfl,hk,hb⟩;obtain⟨pz,cz,rfl,lz⟩:=hk.shape;have H6:=qh (H5.out.call hb (qk _ _) hk);clear hk hb H5 QP))|(at_builtin;go_loud(refine q8 (H6.out.skip _) 0 rfl KN4.out.1 z (by simp) (World.alloc_heap_new W6 _) HLM.out rfl _ _ rfl rfl rfl ?_;intro p7 c7 W7 h7;(try simp only[nn] at h7);have H7:=qh h7;clear h7)))
    go_wp2
    go_roundw
    case rel=>exact⟨j+1,m++[z],us++[.slice pz z.kids.length cz],p7,c7,_,⟨by omega,by go_num,by rw[List.length_append,List.length_singleton]⟩,qh ⟨by rw[List.length_append,List.length_singleton];exact H7.out.two2,(KN4.out.more (F:=qk (.slice pz z.kids.length cz) z.kids)).snoc (x:=z) (u:=.slice pz z.kids.length cz) List.mem_cons_self⟩,qh HM1.out.symm⟩
    case measure=>simp[intOf];omega
   ·obtain rfl:j=l.length:=by omega
    obtain⟨⟨r0,r1,r2⟩,e0,e1,e2⟩:=H4.out.c3 1 rfl
    have HLM:Hid (m.length≤4611686018427387904):=qh (by rw[HM.out,List.length_map,List.length_take];omega)
    have HM1:Hid (l.map qJ=m):=qh (by have:=HM.out;rw[List.take_length] at this;exact this.symm)
    go_wp2
    obtain⟨Wf,hW,hf⟩:=qd (Fr.set3 (x:=.int .i64 k) (y:=.string t) (z:=.slice pv m.length cv) ((H4.out.give1 KN4.out HLM.out).set 0 2 rfl (.slice pv m.length cv)) 1 rfl)
    rewrite[←hW]
    (try simp only[nn] at hf)
    clear hW
    obtain⟨⟨s0,s1,s2⟩,-⟩:=hf.c3 1 rfl
    have hZ:NRes w (qJ (.mk k t l)) (.returned (.agg #[.int .i64 k,.string t,.slice pv m.length cv])) Wf:=by rw[EM.out,HM1.out];exact hf.toldN (x:=.mk k t m)
    have HF:=qh hZ
    clear hf hZ
    exact bR9 (v:=.agg #[.int .i64 k,.string t,.slice pv m.length cv]) (by simp[results,Tryz.results15,go_sem,s0,s1,s2]) rfl HF.out
def rfnM:WM→Nat
 |.whole _=>57
 |.put _ _=>37
 |.term =>106
 |.value =>107
 |.unit =>124
def rargsM(m:WM)(x:Value):Array Value:=match m with
 |.whole f=> #[x,.int .i64 f]
 |.put l f=> #[x,.int .i64 l,.int .i64 f]
 |_=> #[x]
def qaR(F:Nat)(m:WM)(x:qb):Prop:=∀(u:Value) (w:World) (S:Nat→Prop),qo w S u x.kids→Calls Tryz.prog (rfnM m) (rargsM m (.agg #[.int .i64 x.kind,.string x.text,u])) w (NRes w (qw F m x))
def qil(F:Nat)(k:Int)(t:ByteArray)(l:List qb)(i:Nat)(f:Int)(m:WM):Prop:=∀(u:Value) (w:World) (S:Nat→Prop) (y:qb),qo w S u l→l[i]? =some y→qaR F m y→Calls Tryz.prog 72 #[.agg #[.int .i64 k,.string t,u],.int .i64 (i:Int),.int .i64 f] w (NRes w (qw F m y))
def Qn(a b:Int)(c:Bool):Prop:=(a==b)=c∧(a=b)=(c=true)
theorem qnT{a b:Int}(h:a=b):Qn a b true:=⟨beq_iff_eq.2 h,by simp[h]⟩
theorem qnF{a b:Int}(h:¬a=b):Qn a b false:=⟨hW9 h,by simp[h]⟩
theorem qnS(a b:Int):Qn a b (a==b):=⟨rfl,by simp⟩
def Kn(k n:Int):Prop:=Qn k 24 (n==24)∧Qn k 25 (n==25)∧Qn k 27 (n==27)∧Qn k 26 (n==26)∧Qn k 29 (n==29)∧Qn k 15 (n==15)∧Qn k 16 (n==16)∧Qn k 17 (n==17)∧Qn k 18 (n==18)∧Qn k 19 (n==19)∧Qn k 20 (n==20)∧Qn k 21 (n==21)∧Qn k 22 (n==22)∧Qn k 23 (n==23)∧Qn k 11 (n==11)
theorem knT{k n:Int}(h:k=n):Kn k n:=by subst h;exact⟨qnS _ _,qnS _ _,qnS _ _,qnS _ _,qnS _ _,qnS _ _,qnS _ _,qnS _ _,qnS _ _,qnS _ _,qnS _ _,qnS _ _,qnS _ _,qnS _ _,qnS _ _⟩
theorem knO{k:Int}(h:¬(k=24∨k=25∨k=27∨k=26∨k=29∨k=15∨k=16∨k=17∨k=18∨k=19∨k=20∨k=21∨k=22∨k=23∨k=11)):Kn k 0:=⟨qnF (by omega),qnF (by omega),qnF (by omega),qnF (by omega),qnF (by omega),qnF (by omega),qnF (by omega),qnF (by omega),qnF (by omega),qnF (by omega),qnF (by omega),qnF (by omega),qnF (by omega),qnF (by omega),qnF (by omega)⟩
inductive KWy(k:Int)(t:ByteArray)(n i:Nat)(f:Int):WM→Prop
 |c24 (e:Kn k 24) (h:Qn n 2 false):KWy k t n i f (.put 1 0)
 |a25 (e:Kn k 25) (h:Qn i 0 true):KWy k t n i f (.put 9 f)
 |b25 (e:Kn k 25) (h:Qn i 0 false):KWy k t n i f (.put 1 0)
 |a27 (e:Kn k 27) (h:Qn i 0 true):KWy k t n i f (.put 1 f)
 |b27 (e:Kn k 27) (h:Qn i 0 false):KWy k t n i f (.put 1 0)
 |a26 (e:Kn k 26) (h:Qn i 0 true):KWy k t n i f .term
 |b26 (e:Kn k 26) (h:Qn i 0 false∧Qn i 2 true):KWy k t n i f (.put 1 f)
 |c26 (e:Kn k 26) (h:Qn i 0 false∧Qn i 2 false):KWy k t n i f (.put 1 0)
 |a29 (e:Kn k 29) (h:Qn i ((n:Int)-1) true):KWy k t n i f (.put 1 f)
 |b29 (e:Kn k 29) (h:Qn i ((n:Int)-1) false):KWy k t n i f (.put 1 0)
 |a15 (e:Kn k 15) (h:Qn 0 0 true):KWy k t n i f .term
 |a16 (c:Int) (hc:c=16∨c=17∨c=18∨c=19∨c=20∨c=21∨c=22∨c=23) (e:Kn k c) (h:Qn i 0 true):KWy k t n i f .term
 |b16 (c:Int) (hc:c=16∨c=17∨c=18∨c=19∨c=20∨c=21∨c=22∨c=23) (e:Kn k c) (h:Qn i 0 false):KWy k t n i f (.put 1 0)
 |a11 (e:Kn k 11) (h:Qn i 1 true):KWy k t n i f .value
 |b11 (e:Kn k 11) (h:Qn i 1 false):KWy k t n i f (.put 1 0)
 |o (e:Kn k 0) (h:Qn 0 0 true):KWy k t n i f (.put 1 0)
theorem kid_way(k:Int)(t:ByteArray)(n i:Nat)(f:Int)(hne:¬(k=24∧n=2)):KWy k t n i f (kidM k t n i f):=by
 unfold kidM
 by_cases h1:k=24
 ·rw[if_pos h1,if_neg (fun h=>hne ⟨h1,h⟩)];exact .c24 (knT h1) (qnF fun h=>hne ⟨h1,by omega⟩)
 rw[if_neg h1]
 split
 ·split
  ·exact .a25 (knT (by assumption)) (qnT (by omega))
  ·exact .b25 (knT (by assumption)) (qnF (by omega))
 split
 ·split
  ·exact .a27 (knT (by assumption)) (qnT (by omega))
  ·exact .b27 (knT (by assumption)) (qnF (by omega))
 split
 ·split
  ·exact .a26 (knT (by assumption)) (qnT (by omega))
  ·split
   ·exact .b26 (knT (by assumption)) ⟨qnF (by omega),qnT (by omega)⟩
   ·exact .c26 (knT (by assumption)) ⟨qnF (by omega),qnF (by omega)⟩
 split
 ·split
  ·exact .a29 (knT (by assumption)) (qnT (by omega))
  ·exact .b29 (knT (by assumption)) (qnF (by omega))
 split
 ·exact .a15 (knT (by assumption)) (qnT rfl)
 split
 ·split
  ·exact .a16 k (by omega) (knT rfl) (qnT (by omega))
  ·exact .b16 k (by omega) (knT rfl) (qnF (by omega))
 split
 ·split
  ·exact .a11 (knT (by assumption)) (qnT (by omega))
  ·exact .b11 (knT (by assumption)) (qnF (by omega))
 ·exact .o (knO (by omega)) (qnT rfl)
theorem kid_most(F:Nat)(k:Int)(t:ByteArray)(l:List qb)(i:Nat)(f:Int)(hne:¬(k=24∧l.length=2)):qil F k t l i f (kidM k t l.length i f):=by
 have hw:=kid_way k t l.length i f hne
 clear hne
 generalize kidM k t l.length i f=m at hw⊢
 rcases hw with⟨e,h⟩|⟨e,h⟩|⟨e,h⟩|⟨e,h⟩|⟨e,h⟩|⟨e,h⟩|⟨e,h⟩|⟨e,h⟩|⟨e,h⟩|⟨e,h⟩|⟨e,h⟩|⟨c,rfl|rfl|rfl|rfl|rfl|rfl|rfl|rfl,e,h⟩|⟨c,rfl|rfl|rfl|rfl|rfl|rfl|rfl|rfl,e,h⟩|⟨e,h⟩|⟨e,h⟩|⟨e,h⟩
 all_goals
  unfold Kn Qn at e
  unfold Qn at h
  simp only[Int.reduceBEq,Bool.false_eq_true,eq_self] at e h
  intro u w S y hu hi ig
  obtain⟨pu,cu,rfl,lu⟩:=hu.shape
  have hlt:i<l.length:=(List.getElem?_eq_some_iff.1 hi).1
  obtain⟨b,o,ux,rfl,-,a1,ax⟩:=hu.kid hi
  obtain⟨px,cx,rfl,lx⟩:=ax.shape
  have H0:=qh (qap w (.int .i64 k) (.string t) (.slice (some ⟨b,o,none⟩) l.length cu))
  obtain⟨g0,g1,g2⟩:=a1.stays H0.out.low
  obtain⟨⟨k0,k1,k2⟩,-⟩:=H0.out.c3 0 rfl
  have QP:=qh (fun V (hV:Below w.heap.size w V)=>ig _ V S (ax.stays hV))
  have z0:(0:Int)≤(i:Int):=by omega
  have z1:((i:Int)<0)=False:=eq_false (by omega)
  have z2:(i:Int)<(l.length:Int):=by omega
  clear ig ax a1 hu hi
  generalize qw F _ y=z at*
  go_enter Tryz.func72,Tryz.ntmps72
  go_upto_region 2 with(fail)
  obtain⟨W2,hW,h2⟩:=qd ((Fr.new0 w).lay3 [.int .i64 k,.string t,.slice (some ⟨b,o,none⟩) l.length cu] 24 [.int .i64 0,.string ⟨#[]⟩,.slice none 0 0] 24 [.int .i64 y.kind,.string y.text,.slice px y.kids.length cx] 24)
  rewrite[←hW]
  (try simp only[nn] at h2)
  have H2:=qh h2
  clear h2 hW H0 g0 g1 g2 k0 k1 k2
  obtain⟨⟨k0,k1,k2⟩,-⟩:=H2.out.c3 0 rfl
  obtain⟨⟨c0,c1,c2⟩,-⟩:=H2.out.c3 2 rfl
  go_wp2_with(first|(go_at_call 37;go_loud(refine(QP.out _ H2.out.low).mono ?_;rintro e W3 ⟨u,rfl,hk,hb⟩;obtain⟨pz,cz,rfl,lz⟩:=hk.shape;have H3:=qh (H2.out.call hb (qk _ _) hk);obtain⟨⟨r0,r1,r2⟩,e0,e1,e2⟩:=H3.out.c3 1 rfl;have ef:=H3.out.far 1 rfl;clear hk hb))|(go_at_call 106;go_loud(refine(QP.out _ H2.out.low).mono ?_;rintro e W3 ⟨u,rfl,hk,hb⟩;obtain⟨pz,cz,rfl,lz⟩:=hk.shape;have H3:=qh (H2.out.call hb (qk _ _) hk);obtain⟨⟨r0,r1,r2⟩,e0,e1,e2⟩:=H3.out.c3 1 rfl;have ef:=H3.out.far 1 rfl;clear hk hb))|(go_at_call 107;go_loud(refine(QP.out _ H2.out.low).mono ?_;rintro e W3 ⟨u,rfl,hk,hb⟩;obtain⟨pz,cz,rfl,lz⟩:=hk.shape;have H3:=qh (H2.out.call hb (qk _ _) hk);obtain⟨⟨r0,r1,r2⟩,e0,e1,e2⟩:=H3.out.c3 1 rfl;have ef:=H3.out.far 1 rfl;clear hk hb)))
  obtain⟨Wf,hW,hf⟩:=qd (Fr.set3 (x:=.int .i64 z.kind) (y:=.string z.text) (z:=(.slice pz z.kids.length cz)) H3.out 1 rfl)
  rewrite[←hW]
  (try simp only[nn] at hf)
  clear hW
  obtain⟨⟨s0,s1,s2⟩,-⟩:=hf.c3 1 rfl
  have hZ:NRes w z (.returned (.agg #[.int .i64 z.kind,.string z.text,(.slice pz z.kids.length cz)])) Wf:=hf.toldN (x:=z)
  have HF:=qh hZ
  clear hf hZ
  (try go_wp2)
  exact bR9 (v:=.agg #[.int .i64 z.kind,.string z.text,(.slice pz z.kids.length cz)]) (by simp[results,Tryz.results72,go_sem,s0,s1,s2]) rfl (id HF.out)
theorem kid24a(F:Nat)(t:ByteArray)(l:List qb)(i:Nat)(f:Int)(h:l.length=2∧i=0):qil F 24 t l i f (.put (qM t 1) (qI t)):=by
 have w1:((l.length:Int)==2)=true:=by simp;omega
 have w2:((l.length:Int)=2)=True:=eq_true (by omega)
 have w3:((i:Int)==0)=true:=by simp;omega
 have w4:((i:Int)=0)=True:=eq_true (by omega)
 clear h
 intro u w S y hu hi ig
 obtain⟨pu,cu,rfl,lu⟩:=hu.shape
 have hlt:i<l.length:=(List.getElem?_eq_some_iff.1 hi).1
 obtain⟨b,o,ux,rfl,-,a1,ax⟩:=hu.kid hi
 obtain⟨px,cx,rfl,lx⟩:=ax.shape
 have H0:=qh (qap w (.int .i64 24) (.string t) (.slice (some ⟨b,o,none⟩) l.length cu))
 obtain⟨g0,g1,g2⟩:=a1.stays H0.out.low
 obtain⟨⟨k0,k1,k2⟩,-⟩:=H0.out.c3 0 rfl
 have QP:=qh (fun V (hV:Below w.heap.size w V)=>ig _ V S (ax.stays hV))
 have z0:(0:Int)≤(i:Int):=by omega
 have z1:((i:Int)<0)=False:=eq_false (by omega)
 have z2:(i:Int)<(l.length:Int):=by omega
 clear ig ax a1 hu hi
 generalize qw F _ y=z at*
 have QF:=qh (fun U=>qhx t U)
 have QL:=qh (fun U=>qY t U)
 have Q:Hid (∀V,Below w.heap.size w V→Calls Tryz.prog 37 #[.agg #[.int .i64 y.kind,.string y.text,.slice px y.kids.length cx],.int .i64 (qM t 1),.int .i64 (qI t)] V (NRes V z)):=QP
 generalize qM t 1=bl at*
 generalize qI t=ll at*
 go_enter Tryz.func72,Tryz.ntmps72
 go_upto_region 2 with(fail)
 obtain⟨W2,hW,h2⟩:=qd ((Fr.new0 w).lay3 [.int .i64 24,.string t,.slice (some ⟨b,o,none⟩) l.length cu] 24 [.int .i64 0,.string ⟨#[]⟩,.slice none 0 0] 24 [.int .i64 y.kind,.string y.text,.slice px y.kids.length cx] 24)
 rewrite[←hW]
 (try simp only[nn] at h2)
 have H2:=qh h2
 clear h2 hW H0 g0 g1 g2 k0 k1 k2
 obtain⟨⟨k0,k1,k2⟩,-⟩:=H2.out.c3 0 rfl
 obtain⟨⟨c0,c1,c2⟩,-⟩:=H2.out.c3 2 rfl
 go_upto_region 5 with(fail)
 have hs:∀U,Below W2.heap.size W2 U→((U.cell? ⟨w.heap.size+1+1,0,none⟩=some (.int .i64 y.kind)∧U.cell? ⟨w.heap.size+1+1,1,none⟩=some (.string y.text)∧U.cell? ⟨w.heap.size+1+1,2,none⟩=some (.slice px y.kids.length cx))∧U.cell? ⟨w.heap.size,1,none⟩=some (.string t)):=fun U hU=>⟨((H2.out.stays hU).c3 2 rfl).1,((H2.out.stays hU).c3 0 rfl).1.2.1⟩
 have hs2:∀U x y' z',Below W2.heap.size W2 U→((((((U.setCell ⟨w.heap.size+1,0,none⟩ x).setCell ⟨w.heap.size+1,1,none⟩ y').setCell ⟨w.heap.size+1,2,none⟩ z')).cell? ⟨w.heap.size+1+1,0,none⟩=some (.int .i64 y.kind)∧((((U.setCell ⟨w.heap.size+1,0,none⟩ x).setCell ⟨w.heap.size+1,1,none⟩ y').setCell ⟨w.heap.size+1,2,none⟩ z')).cell? ⟨w.heap.size+1+1,1,none⟩=some (.string y.text)∧((((U.setCell ⟨w.heap.size+1,0,none⟩ x).setCell ⟨w.heap.size+1,1,none⟩ y').setCell ⟨w.heap.size+1,2,none⟩ z')).cell? ⟨w.heap.size+1+1,2,none⟩=some (.slice px y.kids.length cx))∧((((U.setCell ⟨w.heap.size+1,0,none⟩ x).setCell ⟨w.heap.size+1,1,none⟩ y').setCell ⟨w.heap.size+1,2,none⟩ z')).cell? ⟨w.heap.size,1,none⟩=some (.string t)):=fun U x y' z' hU=>⟨((Fr.set3 (x:=x) (y:=y') (z:=z') (H2.out.stays hU) 1 rfl).c3 2 rfl).1,((Fr.set3 (x:=x) (y:=y') (z:=z') (H2.out.stays hU) 1 rfl).c3 0 rfl).1.2.1⟩
 have SHOW:=qh hs
 have SHOW2:=qh hs2
 have hb0:Below W2.heap.size W2 W2.drew:=(Below.refl _ _).drew
 clear hs hs2
 go_region_held3 (fun V=>((V.cell? ⟨w.heap.size+1+1,0,none⟩=some (.int .i64 y.kind)∧V.cell? ⟨w.heap.size+1+1,1,none⟩=some (.string y.text)∧V.cell? ⟨w.heap.size+1+1,2,none⟩=some (.slice px y.kids.length cx))∧V.cell? ⟨w.heap.size,1,none⟩=some (.string t)))
  (with_reducible first|exact SHOW.out _ hb0|assumption|(refine SHOW2.out _ _ _ _ ?_;assumption)|(refine SHOW.out _ ?_;assumption))
  (first
    |(go_at_call 104;with_reducible refine(QF.out _).mono ?_;rintro _ U ⟨rfl,bu⟩;have bb:Below W2.heap.size W2 U:=Below.trans (by with_reducible assumption) (bu.mono (Below.size (show Below W2.heap.size W2 _ by with_reducible assumption)));clear bu)
    |(go_at_call 38;with_reducible refine(QL.out _).mono ?_;rintro _ U ⟨rfl,bu⟩;have bb:Below W2.heap.size W2 U:=Below.trans (by with_reducible assumption) (bu.mono (Below.size (show Below W2.heap.size W2 _ by with_reducible assumption)));clear bu)
    |(go_at_call 37;(with_reducible refine(Q.out _ (H2.out.low.trans (Below.mono (by with_reducible assumption) H2.out.low.size))).mono ?_);rintro _ V ⟨u,rfl,hk,bu⟩;obtain⟨pz,cz,rfl,lz⟩:=hk.shape;have HK1:=qh hk;have BU1:=qh bu;have bv:Below W2.heap.size W2 V:=Below.trans (by with_reducible assumption) (bu.mono (Below.size (show Below W2.heap.size W2 _ by with_reducible assumption)));have cr:=(H2.out.stays bv).c3 1 rfl;clear hk bu lz))
 all_goals
  first
   |(have hf:=(H2.out.stays (by assumption)).call BU1.out (qk _ _) HK1.out)
   |(have hf:=((H2.out.stays (by assumption)).drew).call BU1.out (qk _ _) HK1.out)
  have H3:=qh hf
  clear hf
  obtain⟨Wf,hW,hf⟩:=qd (Fr.set3 (x:=.int .i64 z.kind) (y:=.string z.text) (z:=(.slice pz z.kids.length cz)) H3.out 1 rfl)
  rewrite[←hW]
  (try simp only[nn] at hf)
  clear hW
  obtain⟨⟨s0,s1,s2⟩,-⟩:=hf.c3 1 rfl
  have hZ:NRes w z (.returned (.agg #[.int .i64 z.kind,.string z.text,(.slice pz z.kids.length cz)])) Wf:=hf.toldN (x:=z)
  have HF:=qh hZ
  clear hf hZ
  (try go_wp2)
  exact bR9 (v:=.agg #[.int .i64 z.kind,.string z.text,(.slice pz z.kids.length cz)]) (by simp[results,Tryz.results72,go_sem,s0,s1,s2]) rfl (id HF.out)
theorem kid24b(F:Nat)(t:ByteArray)(l:List qb)(i:Nat)(f:Int)(h:l.length=2∧¬i=0):qil F 24 t l i f (.put (qM t 2) f):=by
 have w1:((l.length:Int)==2)=true:=by simp;omega
 have w2:((l.length:Int)=2)=True:=eq_true (by omega)
 have w3:((i:Int)==0)=false:=hW9 (by omega)
 have w4:((i:Int)=0)=False:=eq_false (by omega)
 clear h
 intro u w S y hu hi ig
 obtain⟨pu,cu,rfl,lu⟩:=hu.shape
 have hlt:i<l.length:=(List.getElem?_eq_some_iff.1 hi).1
 obtain⟨b,o,ux,rfl,-,a1,ax⟩:=hu.kid hi
 obtain⟨px,cx,rfl,lx⟩:=ax.shape
 have H0:=qh (qap w (.int .i64 24) (.string t) (.slice (some ⟨b,o,none⟩) l.length cu))
 obtain⟨g0,g1,g2⟩:=a1.stays H0.out.low
 obtain⟨⟨k0,k1,k2⟩,-⟩:=H0.out.c3 0 rfl
 have QP:=qh (fun V (hV:Below w.heap.size w V)=>ig _ V S (ax.stays hV))
 have z0:(0:Int)≤(i:Int):=by omega
 have z1:((i:Int)<0)=False:=eq_false (by omega)
 have z2:(i:Int)<(l.length:Int):=by omega
 clear ig ax a1 hu hi
 generalize qw F _ y=z at*
 have QF:=qh (fun U=>qdI t U)
 have Q:Hid (∀V,Below w.heap.size w V→Calls Tryz.prog 37 #[.agg #[.int .i64 y.kind,.string y.text,.slice px y.kids.length cx],.int .i64 (qM t 2),.int .i64 f] V (NRes V z)):=QP
 generalize qM t 2=bl at*
 go_enter Tryz.func72,Tryz.ntmps72
 go_upto_region 2 with(fail)
 obtain⟨W2,hW,h2⟩:=qd ((Fr.new0 w).lay3 [.int .i64 24,.string t,.slice (some ⟨b,o,none⟩) l.length cu] 24 [.int .i64 0,.string ⟨#[]⟩,.slice none 0 0] 24 [.int .i64 y.kind,.string y.text,.slice px y.kids.length cx] 24)
 rewrite[←hW]
 (try simp only[nn] at h2)
 have H2:=qh h2
 clear h2 hW H0 g0 g1 g2 k0 k1 k2
 obtain⟨⟨k0,k1,k2⟩,-⟩:=H2.out.c3 0 rfl
 obtain⟨⟨c0,c1,c2⟩,-⟩:=H2.out.c3 2 rfl
 go_upto_region 7 with(fail)
 have hs:∀U,Below W2.heap.size W2 U→((U.cell? ⟨w.heap.size+1+1,0,none⟩=some (.int .i64 y.kind)∧U.cell? ⟨w.heap.size+1+1,1,none⟩=some (.string y.text)∧U.cell? ⟨w.heap.size+1+1,2,none⟩=some (.slice px y.kids.length cx))∧U.cell? ⟨w.heap.size,1,none⟩=some (.string t)):=fun U hU=>⟨((H2.out.stays hU).c3 2 rfl).1,((H2.out.stays hU).c3 0 rfl).1.2.1⟩
 have hs2:∀U x y' z',Below W2.heap.size W2 U→((((((U.setCell ⟨w.heap.size+1,0,none⟩ x).setCell ⟨w.heap.size+1,1,none⟩ y').setCell ⟨w.heap.size+1,2,none⟩ z')).cell? ⟨w.heap.size+1+1,0,none⟩=some (.int .i64 y.kind)∧((((U.setCell ⟨w.heap.size+1,0,none⟩ x).setCell ⟨w.heap.size+1,1,none⟩ y').setCell ⟨w.heap.size+1,2,none⟩ z')).cell? ⟨w.heap.size+1+1,1,none⟩=some (.string y.text)∧((((U.setCell ⟨w.heap.size+1,0,none⟩ x).setCell ⟨w.heap.size+1,1,none⟩ y').setCell ⟨w.heap.size+1,2,none⟩ z')).cell? ⟨w.heap.size+1+1,2,none⟩=some (.slice px y.kids.length cx))∧((((U.setCell ⟨w.heap.size+1,0,none⟩ x).setCell ⟨w.heap.size+1,1,none⟩ y').setCell ⟨w.heap.size+1,2,none⟩ z')).cell? ⟨w.heap.size,1,none⟩=some (.string t)):=fun U x y' z' hU=>⟨((Fr.set3 (x:=x) (y:=y') (z:=z') (H2.out.stays hU) 1 rfl).c3 2 rfl).1,((Fr.set3 (x:=x) (y:=y') (z:=z') (H2.out.stays hU) 1 rfl).c3 0 rfl).1.2.1⟩
 have SHOW:=qh hs
 have SHOW2:=qh hs2
 have hb0:Below W2.heap.size W2 W2.drew:=(Below.refl _ _).drew
 clear hs hs2
 go_region_held3 (fun V=>((V.cell? ⟨w.heap.size+1+1,0,none⟩=some (.int .i64 y.kind)∧V.cell? ⟨w.heap.size+1+1,1,none⟩=some (.string y.text)∧V.cell? ⟨w.heap.size+1+1,2,none⟩=some (.slice px y.kids.length cx))∧V.cell? ⟨w.heap.size,1,none⟩=some (.string t)))
  (with_reducible first|exact SHOW.out _ hb0|assumption|(refine SHOW2.out _ _ _ _ ?_;assumption)|(refine SHOW.out _ ?_;assumption))
  (first
    |(go_at_call 105;with_reducible refine(QF.out _).mono ?_;rintro _ U ⟨rfl,bu⟩;have bb:Below W2.heap.size W2 U:=Below.trans (by with_reducible assumption) (bu.mono (Below.size (show Below W2.heap.size W2 _ by with_reducible assumption)));clear bu)
    |(go_at_call 37;(with_reducible refine(Q.out _ (H2.out.low.trans (Below.mono (by with_reducible assumption) H2.out.low.size))).mono ?_);rintro _ V ⟨u,rfl,hk,bu⟩;obtain⟨pz,cz,rfl,lz⟩:=hk.shape;have HK1:=qh hk;have BU1:=qh bu;have bv:Below W2.heap.size W2 V:=Below.trans (by with_reducible assumption) (bu.mono (Below.size (show Below W2.heap.size W2 _ by with_reducible assumption)));have cr:=(H2.out.stays bv).c3 1 rfl;clear hk bu lz))
 all_goals
  first
   |(have hf:=(H2.out.stays (by assumption)).call BU1.out (qk _ _) HK1.out)
   |(have hf:=((H2.out.stays (by assumption)).drew).call BU1.out (qk _ _) HK1.out)
  have H3:=qh hf
  clear hf
  obtain⟨Wf,hW,hf⟩:=qd (Fr.set3 (x:=.int .i64 z.kind) (y:=.string z.text) (z:=(.slice pz z.kids.length cz)) H3.out 1 rfl)
  rewrite[←hW]
  (try simp only[nn] at hf)
  clear hW
  obtain⟨⟨s0,s1,s2⟩,-⟩:=hf.c3 1 rfl
  have hZ:NRes w z (.returned (.agg #[.int .i64 z.kind,.string z.text,(.slice pz z.kids.length cz)])) Wf:=hf.toldN (x:=z)
  have HF:=qh hZ
  clear hf hZ
  (try go_wp2)
  exact bR9 (v:=.agg #[.int .i64 z.kind,.string z.text,(.slice pz z.kids.length cz)]) (by simp[results,Tryz.results72,go_sem,s0,s1,s2]) rfl (id HF.out)
theorem kid_all(F:Nat)(k:Int)(t:ByteArray)(l:List qb)(i:Nat)(f:Int):qil F k t l i f (kidM k t l.length i f):=by
 by_cases h:k=24∧l.length=2
 ·obtain⟨rfl,h⟩:=h
  unfold kidM
  rw[if_pos rfl,if_pos h]
  split
  ·exact kid24a F t l i f ⟨h,by assumption⟩
  ·exact kid24b F t l i f ⟨h,by assumption⟩
 ·exact kid_most F k t l i f h
theorem qjS{F:Nat}(f:Int)(x:qb)(hx:x.kids.length≤1000000000)(ih:∀m y,y∈x.kids→qaR F m y):qaR (F+1) (.whole f) x:=by
 obtain⟨k,t,l⟩:=x
 intro u w S hu
 simp only[qb.kind_mk,qb.text_mk,qb.kids_mk] at*
 obtain⟨pu,cu,rfl,lu⟩:=hu.shape
 have H0:=qh (qap w (.int .i64 k) (.string t) (.slice pu l.length cu))
 have HU:=qh hu
 clear hu
 obtain⟨⟨k0,k1,k2⟩,-⟩:=H0.out.c3 0 rfl
 have IH:=qh ih
 clear ih
 show Calls Tryz.prog 57 #[.agg #[.int .i64 k,.string t,.slice pu l.length cu],.int .i64 f] w _
 go_enter Tryz.func57,Tryz.ntmps57
 go_wp2
 obtain⟨W1,hW,h1⟩:=qd H0.out
 rewrite[←hW]
 clear hW H0 k0 k1 k2
 have H3:=qh (h1.rowNil 24 3)
 clear h1
 go_loopw [5,6] (fun v i wr=>∃(j:Nat) (m:List qb) (us:List Value) (pv:Option Addr) (cv:Nat) (ks:List Fact),(j≤l.length∧i=.int .i64 (j:Int)∧v=.slice pv m.length cv)∧Hid (qfP w wr k t (.slice pu l.length cu) pv cv m us ks)∧Hid (m=mapI (fun i y=>qw F (kidM k t l.length i f) y) 0 (l.take j))) (fun _ i _=>l.length- (intOf i).toNat)
 case atStart=>exact⟨0,[],[],none,0,_,⟨Nat.zero_le _,rfl,rfl⟩,qh ⟨H3.out,KN.nil _⟩,qh rfl⟩
 case round=>
  clear H3
  obtain⟨j,m,us,pv,cv,ks,⟨hj,rfl,rfl⟩,HH,HM⟩:=hrel
  have H4:=qh HH.out.fr
  have KN4:=qh HH.out.kn
  obtain⟨⟨c0,c1,c2⟩,d0,d1,d2⟩:=H4.out.c3 0 rfl
  by_cases hlt:j<l.length
  ·have hxj:=List.getElem?_eq_getElem hlt
   have hmem:=List.getElem_mem hlt
   have HM1:Hid (mapI (fun i y=>qw F (kidM k t l.length i f) y) 0 (l.take (j+1))=m++[qw F (kidM k t l.length j f) l[j]]):=qh (by rw[qgL _ hxj,←HM.out])
   have HLM:Hid (m.length<1000000001):=qh (by rw[HM.out,qbg,List.length_take];omega)
   have QP:=qh (kid_all F k t l j f _ wr S _ (HU.out.stays H4.out.low) hxj (IH.out _ _ hmem))
   clear hxj hmem
   generalize qw F (kidM k t l.length j f) l[j]=z at*
   have H5:=H4
   clear H4
   go_upto_region 4 with(first|(go_at_call 72;go_loud(refine QP.out.mono ?_;rintro e W6 ⟨uz,rfl,hk,hb⟩;obtain⟨pz,cz,rfl,lz⟩:=hk.shape;have H6:=qh (H5.out.call hb (qk _ _) hk);clear hk hb H5 QP))|(at_builtin;go_loud(refine q8 (H6.out.skip _) 0 rfl KN4.out.1 z (by simp) (World.alloc_heap_new W6 _) HLM.out rfl _ _ rfl rfl rfl ?_;intro p7 c7 W7 h7;(try simp only[nn] at h7);have H7:=qh h7;clear h7)))
   go_wp2
   go_roundw
   case rel=>exact⟨j+1,m++[z],us++[.slice pz z.kids.length cz],p7,c7,_,⟨by omega,by go_num,by rw[List.length_append,List.length_singleton]⟩,qh ⟨by rw[List.length_append,List.length_singleton];exact H7.out.two2,(KN4.out.more (F:=qk (.slice pz z.kids.length cz) z.kids)).snoc (x:=z) (u:=.slice pz z.kids.length cz) List.mem_cons_self⟩,qh HM1.out.symm⟩
   case measure=>simp[intOf];omega
  ·obtain rfl:j=l.length:=by omega
   obtain⟨⟨r0,r1,r2⟩,e0,e1,e2⟩:=H4.out.c3 1 rfl
   have HLM:Hid (m.length≤4611686018427387904):=qh (by rw[HM.out,qbg,List.length_take];omega)
   have HM1:Hid (mapI (fun i y=>qw F (kidM k t l.length i f) y) 0 l=m):=qh (by have:=HM.out;rw[List.take_length] at this;exact this.symm)
   have eM:qw (F+1) (.whole f) (.mk k t l)=.mk k t m:=by rw[←HM1.out];rfl
   have EM:=qh eM
   clear eM
   have H5:=qh (H4.out.give1 KN4.out HLM.out)
   go_wp2
   obtain⟨Wf,hW,hf⟩:=qd (Fr.set3 (x:=.int .i64 k) (y:=.string t) (z:=(.slice pv m.length cv)) H5.out 1 rfl)
   rewrite[←hW]
   (try simp only[nn] at hf)
   clear hW
   obtain⟨⟨s0,s1,s2⟩,-⟩:=hf.c3 1 rfl
   have hZ:NRes w (.mk k t m) (.returned (.agg #[.int .i64 k,.string t,(.slice pv m.length cv)])) Wf:=hf.toldN (x:=(.mk k t m))
   have HF:=qh hZ
   clear hf hZ
   (try go_wp2)
   exact bR9 (v:=.agg #[.int .i64 k,.string t,(.slice pv m.length cv)]) (by simp[results,Tryz.results57,go_sem,s0,s1,s2]) rfl ((fun h=>by rw[EM.out];exact h) HF.out)
theorem qeD{F:Nat}(x:qb)(ih:qaR F (.whole 0) x):∀(u:Value) (w:World) (S:Nat→Prop),qo w S u x.kids→Calls Tryz.prog 56 #[.agg #[.int .i64 x.kind,.string x.text,u]] w (NRes w (qbc (qw F (.whole 0) x))):=by
 obtain⟨k,t,l⟩:=x
 intro u w S hu
 simp only[qb.kind_mk,qb.text_mk,qb.kids_mk] at*
 obtain⟨pu,cu,rfl,lu⟩:=hu.shape
 have H0:=qh (qap w (.int .i64 k) (.string t) (.slice pu l.length cu))
 have HU:=qh hu
 clear hu
 obtain⟨⟨k0,k1,k2⟩,-⟩:=H0.out.c3 0 rfl
 have Q:=qh (fun V (hV:Below w.heap.size w V)=>ih (.slice pu l.length cu) V S (HU.out.stays hV))
 clear ih
 generalize qw F (.whole 0) (.mk k t l)=z at*
 go_enter Tryz.func56,Tryz.ntmps56
 go_wp2_with(go_at_call 57;go_loud(refine(Q.out _ H0.out.low).mono ?_;rintro e W1 ⟨u,rfl,hk,hb⟩;obtain⟨pz,cz,rfl,lz⟩:=hk.shape;have H1:=qh (H0.out.call hb (qk _ _) hk);obtain⟨⟨r0,r1,r2⟩,e0,e1,e2⟩:=H1.out.c3 1 rfl;have ek:=(H1.out.skip (.cells #[.int .i64 z.kind,.string z.text,.slice pz z.kids.length cz] 24)).c3 1 rfl;have ef:=H1.out.far 1 rfl;clear hk hb))
 obtain⟨Wf,hW,hf⟩:=qd (Fr.set3 (x:=.int .i64 12) (y:=.string ⟨#[]⟩) (z:=(.slice (some ⟨W1.heap.size,0,none⟩) 1 1)) (H1.out.lit1 z List.mem_cons_self) 1 rfl)
 rewrite[←hW]
 (try simp only[nn] at hf)
 clear hW
 obtain⟨⟨s0,s1,s2⟩,-⟩:=hf.c3 1 rfl
 have hZ:NRes w (qbc z) (.returned (.agg #[.int .i64 12,.string ⟨#[]⟩,(.slice (some ⟨W1.heap.size,0,none⟩) 1 1)])) Wf:=hf.toldN (x:=(qbc z))
 have HF:=qh hZ
 clear hf hZ
 (try go_wp2)
 exact bR9 (v:=.agg #[.int .i64 12,.string ⟨#[]⟩,(.slice (some ⟨W1.heap.size,0,none⟩) 1 1)]) (by simp[results,Tryz.results56,go_sem,s0,s1,s2]) rfl (id HF.out)
theorem at_step{F:Nat}(a f:Int)(x:qb)(i0:qaR F (.whole 0) x)(i1:qaR F (.whole f) x):qaR (F+1) (.put a f) x:=by
 have iw:=qeD x i0
 obtain⟨k,t,l⟩:=x
 intro u w S hu
 simp only[qb.kind_mk,qb.text_mk,qb.kids_mk] at*
 obtain⟨pu,cu,rfl,lu⟩:=hu.shape
 have H0:=qh (qap w (.int .i64 k) (.string t) (.slice pu l.length cu))
 have HU:=qh hu
 clear hu
 obtain⟨⟨k0,k1,k2⟩,-⟩:=H0.out.c3 0 rfl
 have QN:=qh (fun V (hV:Below w.heap.size w V)=>qiZ (.mk k t l) (.slice pu l.length cu) a f V)
 show Calls Tryz.prog 37 #[.agg #[.int .i64 k,.string t,.slice pu l.length cu],.int .i64 a,.int .i64 f] w _
 have eM:qw (F+1) (.put a f) (.mk k t l)=if qa6 (.mk k t l) a f then qbc (qw F (.whole 0) (.mk k t l)) else qw F (.whole f) (.mk k t l):=rfl
 by_cases hn:qa6 (.mk k t l) a f=true
 ·rw[if_pos hn] at eM
  rw[hn] at QN
  have Q:=qh (fun V (hV:Below w.heap.size w V)=>iw (.slice pu l.length cu) V S (HU.out.stays hV))
  have EM:=qh eM
  clear eM hn i0 i1 iw
  generalize qbc (qw F (.whole 0) (.mk k t l))=z at*
  go_enter Tryz.func37,Tryz.ntmps37
  go_wp2_with(first|(go_at_call 25;go_loud(refine(QN.out _ H0.out.low).mono ?_;rintro e W1 ⟨rfl,hb⟩;have H1:=qh (H0.out.stays hb);obtain⟨⟨k0,k1,k2⟩,-⟩:=H1.out.c3 0 rfl;clear hb))|(go_at_call 56;go_loud(refine(Q.out _ H1.out.low).mono ?_;rintro e W2 ⟨u,rfl,hk,hb⟩;obtain⟨pz,cz,rfl,lz⟩:=hk.shape;have H2:=qh (H1.out.call hb (qk _ _) hk);obtain⟨⟨r0,r1,r2⟩,e0,e1,e2⟩:=H2.out.c3 1 rfl;have ef:=H2.out.far 1 rfl;clear hk hb)))
  obtain⟨Wf,hW,hf⟩:=qd (Fr.set3 (x:=.int .i64 z.kind) (y:=.string z.text) (z:=(.slice pz z.kids.length cz)) H2.out 1 rfl)
  rewrite[←hW]
  (try simp only[nn] at hf)
  clear hW
  obtain⟨⟨s0,s1,s2⟩,-⟩:=hf.c3 1 rfl
  have hZ:NRes w z (.returned (.agg #[.int .i64 z.kind,.string z.text,(.slice pz z.kids.length cz)])) Wf:=hf.toldN (x:=z)
  have HF:=qh hZ
  clear hf hZ
  (try go_wp2)
  exact bR9 (v:=.agg #[.int .i64 z.kind,.string z.text,(.slice pz z.kids.length cz)]) (by simp[results,Tryz.results37,go_sem,s0,s1,s2]) rfl ((fun h=>by rw[EM.out];exact h) HF.out)
 ·have hn':qa6 (.mk k t l) a f=false:=by simpa using hn
  rw[if_neg hn] at eM
  rw[hn'] at QN
  have Q:=qh (fun V (hV:Below w.heap.size w V)=>i1 (.slice pu l.length cu) V S (HU.out.stays hV))
  have EM:=qh eM
  clear eM hn hn' i0 i1 iw
  generalize qw F (.whole f) (.mk k t l)=z at*
  go_enter Tryz.func37,Tryz.ntmps37
  go_wp2_with(first|(go_at_call 25;go_loud(refine(QN.out _ H0.out.low).mono ?_;rintro e W1 ⟨rfl,hb⟩;have H1:=qh (H0.out.stays hb);obtain⟨⟨k0,k1,k2⟩,-⟩:=H1.out.c3 0 rfl;clear hb))|(go_at_call 57;go_loud(refine(Q.out _ H1.out.low).mono ?_;rintro e W2 ⟨u,rfl,hk,hb⟩;obtain⟨pz,cz,rfl,lz⟩:=hk.shape;have H2:=qh (H1.out.call hb (qk _ _) hk);obtain⟨⟨r0,r1,r2⟩,e0,e1,e2⟩:=H2.out.c3 1 rfl;have ef:=H2.out.far 1 rfl;clear hk hb)))
  obtain⟨Wf,hW,hf⟩:=qd (Fr.set3 (x:=.int .i64 z.kind) (y:=.string z.text) (z:=(.slice pz z.kids.length cz)) H2.out 1 rfl)
  rewrite[←hW]
  (try simp only[nn] at hf)
  clear hW
  obtain⟨⟨s0,s1,s2⟩,-⟩:=hf.c3 1 rfl
  have hZ:NRes w z (.returned (.agg #[.int .i64 z.kind,.string z.text,(.slice pz z.kids.length cz)])) Wf:=hf.toldN (x:=z)
  have HF:=qh hZ
  clear hf hZ
  (try go_wp2)
  exact bR9 (v:=.agg #[.int .i64 z.kind,.string z.text,(.slice pz z.kids.length cz)]) (by simp[results,Tryz.results37,go_sem,s0,s1,s2]) rfl ((fun h=>by rw[EM.out];exact h) HF.out)
theorem qkh{F:Nat}(x:qb)(i0:qaR F (.whole 0) x):qaR (F+1) .term x:=by
 have iw:=qeD x i0
 obtain⟨k,t,l⟩:=x
 intro u w S hu
 simp only[qb.kind_mk,qb.text_mk,qb.kids_mk] at*
 obtain⟨pu,cu,rfl,lu⟩:=hu.shape
 have H0:=qh (qap w (.int .i64 k) (.string t) (.slice pu l.length cu))
 have HU:=qh hu
 clear hu
 obtain⟨⟨k0,k1,k2⟩,-⟩:=H0.out.c3 0 rfl
 show Calls Tryz.prog 106 #[.agg #[.int .i64 k,.string t,.slice pu l.length cu]] w _
 have eM:qw (F+1) .term (.mk k t l)=if qci k then qbc (qw F (.whole 0) (.mk k t l)) else qw F (.whole 0) (.mk k t l):=rfl
 by_cases hn:qci k=true
 ·rw[if_pos hn] at eM
  have Q:=qh (fun V (hV:Below w.heap.size w V)=>iw (.slice pu l.length cu) V S (HU.out.stays hV))
  have EM:=qh eM
  have hk:k=24∨k=25∨k=26∨k=27∨k=29∨k=15:=by unfold qci at hn;simpa using hn
  clear eM hn i0 iw
  generalize qbc (qw F (.whole 0) (.mk k t l))=z at*
  rcases hk with rfl|rfl|rfl|rfl|rfl|rfl
  all_goals
   go_enter Tryz.func106,Tryz.ntmps106
   go_wp2_with(go_at_call 56;go_loud(refine(Q.out _ H0.out.low).mono ?_;rintro e W2 ⟨u,rfl,hk,hb⟩;obtain⟨pz,cz,rfl,lz⟩:=hk.shape;have H2:=qh (H0.out.call hb (qk _ _) hk);obtain⟨⟨r0,r1,r2⟩,e0,e1,e2⟩:=H2.out.c3 1 rfl;have ef:=H2.out.far 1 rfl;clear hk hb))
   obtain⟨Wf,hW,hf⟩:=qd (Fr.set3 (x:=.int .i64 z.kind) (y:=.string z.text) (z:=(.slice pz z.kids.length cz)) H2.out 1 rfl)
   rewrite[←hW]
   (try simp only[nn] at hf)
   clear hW
   obtain⟨⟨s0,s1,s2⟩,-⟩:=hf.c3 1 rfl
   have hZ:NRes w z (.returned (.agg #[.int .i64 z.kind,.string z.text,(.slice pz z.kids.length cz)])) Wf:=hf.toldN (x:=z)
   have HF:=qh hZ
   clear hf hZ
   (try go_wp2)
   exact bR9 (v:=.agg #[.int .i64 z.kind,.string z.text,(.slice pz z.kids.length cz)]) (by simp[results,Tryz.results106,go_sem,s0,s1,s2]) rfl ((fun h=>by rw[EM.out];exact h) HF.out)
 ·rw[if_neg hn] at eM
  have Q:=qh (fun V (hV:Below w.heap.size w V)=>i0 (.slice pu l.length cu) V S (HU.out.stays hV))
  have EM:=qh eM
  have hk:¬(k=24∨k=25∨k=26∨k=27∨k=29∨k=15):=fun h=>hn (by unfold qci;simpa using h)
  have e1:(k==24)=false:=hW9 (by omega)
  have e2:(k==25)=false:=hW9 (by omega)
  have e3:(k==26)=false:=hW9 (by omega)
  have e4:(k==27)=false:=hW9 (by omega)
  have e5:(k==29)=false:=hW9 (by omega)
  have e6:(k==15)=false:=hW9 (by omega)
  have f1:(k=24)=False:=eq_false (by omega)
  have f2:(k=25)=False:=eq_false (by omega)
  have f3:(k=26)=False:=eq_false (by omega)
  have f4:(k=27)=False:=eq_false (by omega)
  have f5:(k=29)=False:=eq_false (by omega)
  have f6:(k=15)=False:=eq_false (by omega)
  clear eM hn i0 iw hk
  generalize qw F (.whole 0) (.mk k t l)=z at*
  go_enter Tryz.func106,Tryz.ntmps106
  go_wp2_with(go_at_call 57;go_loud(refine(Q.out _ H0.out.low).mono ?_;rintro e W2 ⟨u,rfl,hk,hb⟩;obtain⟨pz,cz,rfl,lz⟩:=hk.shape;have H2:=qh (H0.out.call hb (qk _ _) hk);obtain⟨⟨r0,r1,r2⟩,e0,e1,e2⟩:=H2.out.c3 1 rfl;have ef:=H2.out.far 1 rfl;clear hk hb))
  obtain⟨Wf,hW,hf⟩:=qd (Fr.set3 (x:=.int .i64 z.kind) (y:=.string z.text) (z:=(.slice pz z.kids.length cz)) H2.out 1 rfl)
  rewrite[←hW]
  (try simp only[nn] at hf)
  clear hW
  obtain⟨⟨s0,s1,s2⟩,-⟩:=hf.c3 1 rfl
  have hZ:NRes w z (.returned (.agg #[.int .i64 z.kind,.string z.text,(.slice pz z.kids.length cz)])) Wf:=hf.toldN (x:=z)
  have HF:=qh hZ
  clear hf hZ
  (try go_wp2)
  exact bR9 (v:=.agg #[.int .i64 z.kind,.string z.text,(.slice pz z.kids.length cz)]) (by simp[results,Tryz.results106,go_sem,s0,s1,s2]) rfl ((fun h=>by rw[EM.out];exact h) HF.out)
theorem qk5{F:Nat}(x:qb)(i1:qaR F .term x)(ih:∀y∈x.kids,qaR F .unit y):qaR (F+1) .unit x:=by
 obtain⟨k,t,l⟩:=x
 intro u w S hu
 simp only[qb.kind_mk,qb.text_mk,qb.kids_mk] at*
 obtain⟨pu,cu,rfl,lu⟩:=hu.shape
 have H0:=qh (qap w (.int .i64 k) (.string t) (.slice pu l.length cu))
 have HU:=qh hu
 clear hu
 obtain⟨⟨k0,k1,k2⟩,-⟩:=H0.out.c3 0 rfl
 show Calls Tryz.prog 124 #[.agg #[.int .i64 k,.string t,.slice pu l.length cu]] w _
 have eM:qw (F+1) .unit (.mk k t l)=if k=25∧l.length=1 then .mk 25 ⟨#[]⟩ (mapI (fun _ y=>qw F .unit y) 0 l) else qw F .term (.mk k t l):=rfl
 by_cases hn:k=25∧l.length=1
 ·rw[if_pos hn] at eM
  obtain⟨rfl,hl⟩:=hn
  match l,hl with
  |[y],_=>
   obtain⟨b,o,ux,rfl,-,a1,ax⟩:=HU.out.kid (i:=0) rfl
   obtain⟨px,cx,rfl,lx⟩:=ax.shape
   obtain⟨g0,g1,g2⟩:=a1.stays H0.out.low
   simp only[Nat.zero_mul,Nat.add_zero] at g0 g1 g2
   have Q:=qh (fun V (hV:Below w.heap.size w V)=>ih y (by simp) _ V S (ax.stays hV))
   have EM:=qh eM
   clear eM ih i1 a1 ax
   simp only[mapI] at EM
   simp only[List.length_cons,List.length_nil,Nat.zero_add] at*
   generalize qw F .unit y=z at*
   go_enter Tryz.func124,Tryz.ntmps124
   go_wp2_with(go_at_call 124;go_loud(refine(Q.out _ H0.out.low).mono ?_;rintro e W2 ⟨u,rfl,hk,hb⟩;obtain⟨pz,cz,rfl,lz⟩:=hk.shape;have H2:=qh (H0.out.call hb (qk _ _) hk);obtain⟨⟨r0,r1,r2⟩,e0,e1,e2⟩:=H2.out.c3 1 rfl;have ek:=(H2.out.skip (.cells #[.int .i64 z.kind,.string z.text,.slice pz z.kids.length cz] 24)).c3 1 rfl;have ef:=H2.out.far 1 rfl;clear hk hb))
   obtain⟨Wf,hW,hf⟩:=qd (Fr.set3 (x:=.int .i64 25) (y:=.string ⟨#[]⟩) (z:=(.slice (some ⟨W2.heap.size,0,none⟩) 1 1)) (H2.out.lit1 z List.mem_cons_self) 1 rfl)
   rewrite[←hW]
   (try simp only[nn] at hf)
   clear hW
   obtain⟨⟨s0,s1,s2⟩,-⟩:=hf.c3 1 rfl
   have hZ:NRes w (.mk 25 ⟨#[]⟩ [z]) (.returned (.agg #[.int .i64 25,.string ⟨#[]⟩,(.slice (some ⟨W2.heap.size,0,none⟩) 1 1)])) Wf:=hf.toldN (x:=(.mk 25 ⟨#[]⟩ [z]))
   have HF:=qh hZ
   clear hf hZ
   (try go_wp2)
   exact bR9 (v:=.agg #[.int .i64 25,.string ⟨#[]⟩,(.slice (some ⟨W2.heap.size,0,none⟩) 1 1)]) (by simp[results,Tryz.results124,go_sem,s0,s1,s2]) rfl ((fun h=>by rw[EM.out];exact h) HF.out)
 ·rw[if_neg hn] at eM
  have Q:=qh (fun V (hV:Below w.heap.size w V)=>i1 (.slice pu l.length cu) V S (HU.out.stays hV))
  have EM:=qh eM
  clear eM i1 ih
  generalize qw F .term (.mk k t l)=z at*
  by_cases h1:k=25
  ·subst h1
   have h2:¬l.length=1:=fun h=>hn ⟨rfl,h⟩
   have y1:((l.length:Int) != 1)=true:=by simp;omega
   have y2:((l.length:Int)=1)=False:=eq_false (by omega)
   clear hn h2
   go_enter Tryz.func124,Tryz.ntmps124
   go_wp2_with(go_at_call 106;go_loud(refine(Q.out _ H0.out.low).mono ?_;rintro e W2 ⟨u,rfl,hk,hb⟩;obtain⟨pz,cz,rfl,lz⟩:=hk.shape;have H2:=qh (H0.out.call hb (qk _ _) hk);obtain⟨⟨r0,r1,r2⟩,e0,e1,e2⟩:=H2.out.c3 1 rfl;have ef:=H2.out.far 1 rfl;clear hk hb))
   obtain⟨Wf,hW,hf⟩:=qd (Fr.set3 (x:=.int .i64 z.kind) (y:=.string z.text) (z:=(.slice pz z.kids.length cz)) H2.out 1 rfl)
   rewrite[←hW]
   (try simp only[nn] at hf)
   clear hW
   obtain⟨⟨s0,s1,s2⟩,-⟩:=hf.c3 1 rfl
   have hZ:NRes w z (.returned (.agg #[.int .i64 z.kind,.string z.text,(.slice pz z.kids.length cz)])) Wf:=hf.toldN (x:=z)
   have HF:=qh hZ
   clear hf hZ
   (try go_wp2)
   exact bR9 (v:=.agg #[.int .i64 z.kind,.string z.text,(.slice pz z.kids.length cz)]) (by simp[results,Tryz.results124,go_sem,s0,s1,s2]) rfl ((fun h=>by rw[EM.out];exact h) HF.out)
  ·have y1:(k != 25)=true:=by simpa using h1
   have y2:=eq_false h1
   clear hn h1
   go_enter Tryz.func124,Tryz.ntmps124
   go_wp2_with(go_at_call 106;go_loud(refine(Q.out _ H0.out.low).mono ?_;rintro e W2 ⟨u,rfl,hk,hb⟩;obtain⟨pz,cz,rfl,lz⟩:=hk.shape;have H2:=qh (H0.out.call hb (qk _ _) hk);obtain⟨⟨r0,r1,r2⟩,e0,e1,e2⟩:=H2.out.c3 1 rfl;have ef:=H2.out.far 1 rfl;clear hk hb))
   obtain⟨Wf,hW,hf⟩:=qd (Fr.set3 (x:=.int .i64 z.kind) (y:=.string z.text) (z:=(.slice pz z.kids.length cz)) H2.out 1 rfl)
   rewrite[←hW]
   (try simp only[nn] at hf)
   clear hW
   obtain⟨⟨s0,s1,s2⟩,-⟩:=hf.c3 1 rfl
   have hZ:NRes w z (.returned (.agg #[.int .i64 z.kind,.string z.text,(.slice pz z.kids.length cz)])) Wf:=hf.toldN (x:=z)
   have HF:=qh hZ
   clear hf hZ
   (try go_wp2)
   exact bR9 (v:=.agg #[.int .i64 z.kind,.string z.text,(.slice pz z.kids.length cz)]) (by simp[results,Tryz.results124,go_sem,s0,s1,s2]) rfl ((fun h=>by rw[EM.out];exact h) HF.out)
theorem qkg{F:Nat}(y1 y2:qb)(t:ByteArray)(ht:t=⟨#[124]⟩)(i1:qaR F .unit y1)(i2:qaR F .value y2):qaR (F+1) .value (.mk 24 t [y1,y2]):=by
 intro u w S hu
 simp only[qb.kind_mk,qb.text_mk,qb.kids_mk] at*
 obtain⟨pu,cu,rfl,lu⟩:=hu.shape
 subst ht
 obtain⟨b,o,ux,rfl,-,a1,ax⟩:=hu.kid (i:=0) rfl
 obtain⟨b',o',uy,e',-,a2,ay⟩:=hu.kid (i:=1) rfl
 cases e'
 obtain⟨px,cx,rfl,lx⟩:=ax.shape
 obtain⟨py,cy,rfl,ly⟩:=ay.shape
 simp only[List.length_cons,List.length_nil,Nat.zero_add,Nat.reduceAdd] at*
 have H0:=qh (qap w (.int .i64 24) (.string ⟨#[124]⟩) (.slice (some ⟨b,o,none⟩) 2 cu))
 show Calls Tryz.prog 107 #[.agg #[.int .i64 24,.string ⟨#[124]⟩,.slice (some ⟨b,o,none⟩) 2 cu]] w _
 have eM:qw (F+1) .value (.mk 24 ⟨#[124]⟩ [y1,y2])=.mk 24 ⟨#[124]⟩ [qw F .unit y1,qw F .value y2]:=rfl
 obtain⟨⟨k0,k1,k2⟩,-⟩:=H0.out.c3 0 rfl
 go_enter Tryz.func107,Tryz.ntmps107
 go_upto_region 3 with(fail)
 obtain⟨W1,hW,h1⟩:=qd H0.out
 rewrite[←hW]
 clear hW H0 k0 k1 k2
 have H1:=qh h1
 have hs:∀U,Below W1.heap.size W1 U→(U.cell? ⟨b,o,none⟩=some (.int .i64 y1.kind)∧U.cell? ⟨b,o+1,none⟩=some (.string y1.text)∧U.cell? ⟨b,o+2,none⟩=some (.slice px y1.kids.length cx))∧(U.cell? ⟨b,o+3,none⟩=some (.int .i64 y2.kind)∧U.cell? ⟨b,o+3+1,none⟩=some (.string y2.text)∧U.cell? ⟨b,o+3+2,none⟩=some (.slice py y2.kids.length cy))∧U.cell? ⟨w.heap.size,2,none⟩=some (.slice (some ⟨b,o,none⟩) 2 cu):=fun U hU=>by
  have hb:=h1.low.trans (hU.mono h1.low.size)
  obtain⟨g0,g1,g2⟩:=a1.stays hb
  obtain⟨g3,g4,g5⟩:=a2.stays hb
  simp only[Nat.zero_mul,Nat.one_mul,Nat.add_zero] at g0 g1 g2 g3 g4 g5
  exact⟨⟨g0,g1,g2⟩,⟨g3,g4,g5⟩,((h1.stays hU).c3 0 rfl).1.2.2⟩
 have hs2:∀U x y z,Below W1.heap.size W1 U→((((U.setCell ⟨w.heap.size+1,0,none⟩ x).setCell ⟨w.heap.size+1,1,none⟩ y).setCell ⟨w.heap.size+1,2,none⟩ z).cell? ⟨b,o,none⟩=some (.int .i64 y1.kind)∧(((U.setCell ⟨w.heap.size+1,0,none⟩ x).setCell ⟨w.heap.size+1,1,none⟩ y).setCell ⟨w.heap.size+1,2,none⟩ z).cell? ⟨b,o+1,none⟩=some (.string y1.text)∧(((U.setCell ⟨w.heap.size+1,0,none⟩ x).setCell ⟨w.heap.size+1,1,none⟩ y).setCell ⟨w.heap.size+1,2,none⟩ z).cell? ⟨b,o+2,none⟩=some (.slice px y1.kids.length cx))∧((((U.setCell ⟨w.heap.size+1,0,none⟩ x).setCell ⟨w.heap.size+1,1,none⟩ y).setCell ⟨w.heap.size+1,2,none⟩ z).cell? ⟨b,o+3,none⟩=some (.int .i64 y2.kind)∧(((U.setCell ⟨w.heap.size+1,0,none⟩ x).setCell ⟨w.heap.size+1,1,none⟩ y).setCell ⟨w.heap.size+1,2,none⟩ z).cell? ⟨b,o+3+1,none⟩=some (.string y2.text)∧(((U.setCell ⟨w.heap.size+1,0,none⟩ x).setCell ⟨w.heap.size+1,1,none⟩ y).setCell ⟨w.heap.size+1,2,none⟩ z).cell? ⟨b,o+3+2,none⟩=some (.slice py y2.kids.length cy))∧(((U.setCell ⟨w.heap.size+1,0,none⟩ x).setCell ⟨w.heap.size+1,1,none⟩ y).setCell ⟨w.heap.size+1,2,none⟩ z).cell? ⟨w.heap.size,2,none⟩=some (.slice (some ⟨b,o,none⟩) 2 cu):=fun U x y z hU=>by
  obtain⟨⟨g0,g1,g2⟩,⟨g3,g4,g5⟩,g6⟩:=hs U hU
  have k:=qZ U (w.heap.size+1) x y z
  have hlt:¬b=w.heap.size+1:=by have:=a1.lt;omega
  exact⟨⟨k.cell g0 hlt,k.cell g1 hlt,k.cell g2 hlt⟩,⟨k.cell g3 hlt,k.cell g4 hlt,k.cell g5 hlt⟩,k.cell g6 (by omega)⟩
 have SHOW:=qh hs
 have SHOW2:=qh hs2
 have hb0:Below W1.heap.size W1 W1.drew:=(Below.refl _ _).drew
 have Q1:Hid (∀V,Below W1.heap.size W1 V→Calls Tryz.prog 124 #[.agg #[.int .i64 y1.kind,.string y1.text,.slice px y1.kids.length cx]] V (NRes V (qw F .unit y1))):=qh (fun V (hV:Below W1.heap.size W1 V)=>i1 _ V S (ax.stays (h1.low.trans (hV.mono h1.low.size))))
 have Q2:Hid (∀V,Below W1.heap.size W1 V→Calls Tryz.prog 107 #[.agg #[.int .i64 y2.kind,.string y2.text,.slice py y2.kids.length cy]] V (NRes V (qw F .value y2))):=qh (fun V (hV:Below W1.heap.size W1 V)=>i2 _ V S (ay.stays (h1.low.trans (hV.mono h1.low.size))))
 have EM:=qh eM
 clear hs hs2 h1 a1 a2 ax ay i1 i2 hu eM
 generalize qw F .unit y1=z1 at*
 generalize qw F .value y2=z2 at*
 obtain⟨⟨g0,g1,g2⟩,⟨g3,g4,g5⟩,g6⟩:=SHOW.out W1 (Below.refl _ _)
 go_region_held3 (fun U=>(U.cell? ⟨b,o,none⟩=some (.int .i64 y1.kind)∧U.cell? ⟨b,o+1,none⟩=some (.string y1.text)∧U.cell? ⟨b,o+2,none⟩=some (.slice px y1.kids.length cx))∧(U.cell? ⟨b,o+3,none⟩=some (.int .i64 y2.kind)∧U.cell? ⟨b,o+3+1,none⟩=some (.string y2.text)∧U.cell? ⟨b,o+3+2,none⟩=some (.slice py y2.kids.length cy))∧U.cell? ⟨w.heap.size,2,none⟩=some (.slice (some ⟨b,o,none⟩) 2 cu))
  (with_reducible first|exact SHOW.out _ hb0|assumption|(refine SHOW2.out _ _ _ _ ?_;first|assumption|exact qc (by assumption) _)|(refine SHOW.out _ ?_;first|assumption|exact qc (by assumption) _))
  (first
   |(go_at_call 124;(with_reducible refine(Q1.out _ (by with_reducible assumption)).mono ?_);rintro _ U ⟨u,rfl,hk,bu⟩;obtain⟨p1,c1,rfl,lz⟩:=hk.shape;have HK1:=qh hk;have BU1:=qh bu;have bb:Below W1.heap.size W1 U:=Below.trans (by with_reducible assumption) (bu.mono (Below.size (show Below W1.heap.size W1 _ by with_reducible assumption)));have cr:=fun o=>((H1.out.stays bb).skip o).c3 1 rfl;clear hk bu lz)
   |(go_at_call 107;(with_reducible refine(Q2.out _ (by with_reducible assumption)).mono ?_);rintro _ U ⟨u,rfl,hk,bu⟩;obtain⟨p2,c2,rfl,lz⟩:=hk.shape;have HK2:=qh hk;have BU2:=qh bu;have bb:Below W1.heap.size W1 U:=Below.trans (by with_reducible assumption) (bu.mono (Below.size (show Below W1.heap.size W1 _ by with_reducible assumption)));have cr:=fun o=>((H1.out.stays bb).skip o).c3 1 rfl;clear hk bu lz))
 all_goals
  first
   |(have hf:=(H1.out.drew.call BU1.out (qk _ _) HK1.out).call BU2.out (qk _ _) HK2.out)
   |(have hf:=(H1.out.drew.call BU2.out (qk _ _) HK2.out).call BU1.out (qk _ _) HK1.out)
  have H2:=qh (hf.lit2 z1 z2 (u:=.slice p1 z1.kids.length c1) (v:=.slice p2 z2.kids.length c2) (by simp) (by simp))
  clear hf
  obtain⟨Wf,hW,hf⟩:=qd (Fr.set3 (x:=.int .i64 24) (y:=.string ⟨#[124]⟩) (z:=(.slice (some ⟨U.heap.size,0,none⟩) 2 2)) H2.out 1 rfl)
  rewrite[←hW]
  (try simp only[nn] at hf)
  clear hW
  obtain⟨⟨s0,s1,s2⟩,-⟩:=hf.c3 1 rfl
  have hZ:NRes w (.mk 24 ⟨#[124]⟩ [z1,z2]) (.returned (.agg #[.int .i64 24,.string ⟨#[124]⟩,(.slice (some ⟨U.heap.size,0,none⟩) 2 2)])) Wf:=hf.toldN (x:=(.mk 24 ⟨#[124]⟩ [z1,z2]))
  have HF:=qh hZ
  clear hf hZ
  (try go_wp2)
  exact bR9 (v:=.agg #[.int .i64 24,.string ⟨#[124]⟩,(.slice (some ⟨U.heap.size,0,none⟩) 2 2)]) (by simp[results,Tryz.results107,go_sem,s0,s1,s2]) rfl ((fun h=>by rw[EM.out];exact h) HF.out)
theorem qje{F:Nat}(x:qb)(i1:qaR F .unit x)(iu:∀y∈x.kids,qaR F .unit y)(iv:∀y∈x.kids,qaR F .value y):qaR (F+1) .value x:=by
 by_cases hn:x.kind=24∧x.text=⟨#[124]⟩∧x.kids.length=2
 ·obtain⟨k,t,l⟩:=x
  simp only[qb.kind_mk,qb.text_mk,qb.kids_mk] at*
  obtain⟨rfl,ht,hl⟩:=hn
  match l,hl with
  |[y1,y2],_=>exact qkg y1 y2 t ht (iu y1 (by simp)) (iv y2 (by simp))
 ·obtain⟨k,t,l⟩:=x
  intro u w S hu
  simp only[qb.kind_mk,qb.text_mk,qb.kids_mk] at*
  obtain⟨pu,cu,rfl,lu⟩:=hu.shape
  have H0:=qh (qap w (.int .i64 k) (.string t) (.slice pu l.length cu))
  have HU:=qh hu
  clear hu
  obtain⟨⟨k0,k1,k2⟩,-⟩:=H0.out.c3 0 rfl
  show Calls Tryz.prog 107 #[.agg #[.int .i64 k,.string t,.slice pu l.length cu]] w _
  have eM:qw (F+1) .value (.mk k t l)=qw F .unit (.mk k t l):=if_neg hn
  have Q:=qh (fun V (hV:Below w.heap.size w V)=>i1 (.slice pu l.length cu) V S (HU.out.stays hV))
  have EM:=qh eM
  clear eM i1 iu iv
  generalize qw F .unit (.mk k t l)=z at*
  by_cases h1:k=24
  ·subst h1
   by_cases h2:t=⟨#[124]⟩
   ·subst h2
    have h3:¬l.length=2:=fun h=>hn ⟨rfl,rfl,h⟩
    have y1:((l.length:Int) != 2)=true:=by simp;omega
    have y2:((l.length:Int)=2)=False:=eq_false (by omega)
    clear hn h3
    go_enter Tryz.func107,Tryz.ntmps107
    go_wp2_with(go_at_call 124;go_loud(refine(Q.out _ H0.out.low).mono ?_;rintro e W2 ⟨u,rfl,hk,hb⟩;obtain⟨pz,cz,rfl,lz⟩:=hk.shape;have H2:=qh (H0.out.call hb (qk _ _) hk);obtain⟨⟨r0,r1,r2⟩,e0,e1,e2⟩:=H2.out.c3 1 rfl;have ef:=H2.out.far 1 rfl;clear hk hb))
    obtain⟨Wf,hW,hf⟩:=qd (Fr.set3 (x:=.int .i64 z.kind) (y:=.string z.text) (z:=(.slice pz z.kids.length cz)) H2.out 1 rfl)
    rewrite[←hW]
    (try simp only[nn] at hf)
    clear hW
    obtain⟨⟨s0,s1,s2⟩,-⟩:=hf.c3 1 rfl
    have hZ:NRes w z (.returned (.agg #[.int .i64 z.kind,.string z.text,(.slice pz z.kids.length cz)])) Wf:=hf.toldN (x:=z)
    have HF:=qh hZ
    clear hf hZ
    (try go_wp2)
    exact bR9 (v:=.agg #[.int .i64 z.kind,.string z.text,(.slice pz z.kids.length cz)]) (by simp[results,Tryz.results107,go_sem,s0,s1,s2]) rfl ((fun h=>by rw[EM.out];exact h) HF.out)
   ·have h3:=qhN (l:=[124]) h2
    rw[←ByteArray.toList_eq] at h3
    have y1:(t.toList==[124])=false:=hW9 h3
    have y2:=eq_false h3
    have y3:=eq_false h2
    clear hn h2 h3
    go_enter Tryz.func107,Tryz.ntmps107
    go_wp2_with(go_at_call 124;go_loud(refine(Q.out _ H0.out.low).mono ?_;rintro e W2 ⟨u,rfl,hk,hb⟩;obtain⟨pz,cz,rfl,lz⟩:=hk.shape;have H2:=qh (H0.out.call hb (qk _ _) hk);obtain⟨⟨r0,r1,r2⟩,e0,e1,e2⟩:=H2.out.c3 1 rfl;have ef:=H2.out.far 1 rfl;clear hk hb))
    obtain⟨Wf,hW,hf⟩:=qd (Fr.set3 (x:=.int .i64 z.kind) (y:=.string z.text) (z:=(.slice pz z.kids.length cz)) H2.out 1 rfl)
    rewrite[←hW]
    (try simp only[nn] at hf)
    clear hW
    obtain⟨⟨s0,s1,s2⟩,-⟩:=hf.c3 1 rfl
    have hZ:NRes w z (.returned (.agg #[.int .i64 z.kind,.string z.text,(.slice pz z.kids.length cz)])) Wf:=hf.toldN (x:=z)
    have HF:=qh hZ
    clear hf hZ
    (try go_wp2)
    exact bR9 (v:=.agg #[.int .i64 z.kind,.string z.text,(.slice pz z.kids.length cz)]) (by simp[results,Tryz.results107,go_sem,s0,s1,s2]) rfl ((fun h=>by rw[EM.out];exact h) HF.out)
  ·have y1:(k != 24)=true:=by simpa using h1
   have y2:=eq_false h1
   clear hn h1
   go_enter Tryz.func107,Tryz.ntmps107
   go_wp2_with(go_at_call 124;go_loud(refine(Q.out _ H0.out.low).mono ?_;rintro e W2 ⟨u,rfl,hk,hb⟩;obtain⟨pz,cz,rfl,lz⟩:=hk.shape;have H2:=qh (H0.out.call hb (qk _ _) hk);obtain⟨⟨r0,r1,r2⟩,e0,e1,e2⟩:=H2.out.c3 1 rfl;have ef:=H2.out.far 1 rfl;clear hk hb))
   obtain⟨Wf,hW,hf⟩:=qd (Fr.set3 (x:=.int .i64 z.kind) (y:=.string z.text) (z:=(.slice pz z.kids.length cz)) H2.out 1 rfl)
   rewrite[←hW]
   (try simp only[nn] at hf)
   clear hW
   obtain⟨⟨s0,s1,s2⟩,-⟩:=hf.c3 1 rfl
   have hZ:NRes w z (.returned (.agg #[.int .i64 z.kind,.string z.text,(.slice pz z.kids.length cz)])) Wf:=hf.toldN (x:=z)
   have HF:=qh hZ
   clear hf hZ
   (try go_wp2)
   exact bR9 (v:=.agg #[.int .i64 z.kind,.string z.text,(.slice pz z.kids.length cz)]) (by simp[results,Tryz.results107,go_sem,s0,s1,s2]) rfl ((fun h=>by rw[EM.out];exact h) HF.out)
theorem qgH:∀(F:Nat) (m:WM) (x:qb),qT x≤1000000000→4*qbv x+qbk m<F→qaR F m x
 |0,m,x,_,h=>by omega
 |F+1,m,x,hc,h=>by
  have ih:=qgH F
  have hkid:∀y∈x.kids,∀m,qaR F m y:=fun y hy m=>ih m y (Nat.le_trans (qdf hy) hc) (by
   have:=qi9 hy
   have:qbk m≤3:=by cases m<;>simp[qbk]
   omega)
  match m,h with
  |.whole f,h=>exact qjS f x (by have:=qbH x.kids;have:=qcU x;omega) fun m y hy=>hkid y hy m
  |.put a f,h=>exact at_step a f x (ih _ x hc (by simp only[qbk] at h⊢;omega)) (ih _ x hc (by simp only[qbk] at h⊢;omega))
  |.term,h=>exact qkh x (ih _ x hc (by simp only[qbk] at h⊢;omega))
  |.unit,h=>exact qk5 x (ih _ x hc (by simp only[qbk] at h⊢;omega)) fun y hy=>hkid y hy _
  |.value,h=>exact qje x (ih _ x hc (by simp only[qbk] at h⊢;omega)) (fun y hy=>hkid y hy _) fun y hy=>hkid y hy _
theorem qms(x:qb)(hc:qT x≤1000000000)(u:Value)(w:World)(S:Nat→Prop)(hu:qo w S u x.kids):Calls Tryz.prog 30 #[.agg #[.int .i64 x.kind,.string x.text,u]] w (NRes w (qJ x)):=by
 have ht:=fun u w S hu=>qjK x u w S hu hc
 obtain⟨k,t,l⟩:=x
 simp only[qb.kind_mk,qb.text_mk,qb.kids_mk] at*
 obtain⟨pu,cu,rfl,lu⟩:=hu.shape
 have H0:=qh (qap w (.int .i64 k) (.string t) (.slice pu l.length cu))
 have Q:=qh (fun V (hV:Below w.heap.size w V)=>ht (.slice pu l.length cu) V S (hu.stays hV))
 clear hu ht
 generalize qJ (.mk k t l)=z at*
 obtain⟨⟨k0,k1,k2⟩,-⟩:=H0.out.c3 0 rfl
 go_enter Tryz.func30,Tryz.ntmps30
 go_wp2_with(go_at_call 41;go_loud(refine(Q.out _ H0.out.low).mono ?_;rintro e W2 ⟨u,rfl,hk,hb⟩;obtain⟨pz,cz,rfl,lz⟩:=hk.shape;have H2:=qh (H0.out.call hb (qk _ _) hk);obtain⟨⟨r0,r1,r2⟩,e0,e1,e2⟩:=H2.out.c3 1 rfl;have ef:=H2.out.far 1 rfl;clear hk hb))
 obtain⟨Wf,hW,hf⟩:=qd (Fr.set3 (x:=.int .i64 z.kind) (y:=.string z.text) (z:=(.slice pz z.kids.length cz)) H2.out 1 rfl)
 rewrite[←hW]
 (try simp only[nn] at hf)
 clear hW
 obtain⟨⟨s0,s1,s2⟩,-⟩:=hf.c3 1 rfl
 have hZ:NRes w z (.returned (.agg #[.int .i64 z.kind,.string z.text,(.slice pz z.kids.length cz)])) Wf:=hf.toldN (x:=z)
 have HF:=qh hZ
 clear hf hZ
 (try go_wp2)
 exact bR9 (v:=.agg #[.int .i64 z.kind,.string z.text,(.slice pz z.kids.length cz)]) (by simp[results,Tryz.results30,go_sem,s0,s1,s2]) rfl (id HF.out)
mutual
theorem qej:∀x:qb,qT (qJ x)≤qT x
 |.mk k t l=>by
  rw[qJ,qT]
  have:=qf0 l
  unfold qd5
  split
  ·rename_i h
   match hb:qek l,h.2 with
   |[y],_=>rw[hb] at this;simp only[List.headD_cons,qao] at this⊢;omega
  ·rw[qT];omega
theorem qf0:∀l:List qb,qao (qek l)≤qao l
 |[]=>Nat.le_refl _
 |x::r=>by rw[qek,qao,qao];have:=qej x;have:=qf0 r;omega
end
theorem qfU(x:qb)(hc:qT x≤1000000000)(u:Value)(w:World)(S:Nat→Prop)(hu:qo w S u x.kids)(hT:TabX w):Calls Tryz.prog 14 #[.agg #[.int .i64 x.kind,.string x.text,u]] w (NRes w (qbO x)):=by
 have hw:=qi0 (4*qbv (qJ x)+4) (.put 1 0) (qJ x) (Nat.le_trans (qej x) hc) (by simp[qbk])
 have eM:qbO x=qw (4*qbv (qJ x)+4) (.put 1 0) (qJ x):=rfl
 rw[eM]
 clear eM
 have hbx:=qms x hc
 obtain⟨k,t,l⟩:=x
 simp only[qb.kind_mk,qb.text_mk,qb.kids_mk] at*
 obtain⟨pu,cu,rfl,lu⟩:=hu.shape
 have H0:=qh (qap w (.int .i64 k) (.string t) (.slice pu l.length cu))
 have HT:=qh hT
 have Q1:=qh (fun V (hV:Below w.heap.size w V)=>hbx (.slice pu l.length cu) V S (hu.stays hV))
 have HW:Hid (∀(u:Value) (w:World) (S:Nat→Prop),qo w S u (qJ (.mk k t l)).kids →TabX w→Calls Tryz.prog 29 #[.agg #[.int .i64 1,.int .i64 0],.agg #[.int .i64 (qJ (.mk k t l)).kind,.string (qJ (.mk k t l)).text,u]] w (NRes w (qw (4*qbv (qJ (.mk k t l))+4) (.put 1 0) (qJ (.mk k t l))))):=qh hw
 clear hu hT hw hbx
 generalize 4*qbv (qJ (.mk k t l))+4=G at*
 generalize qJ (.mk k t l)=y at*
 generalize qw G (.put 1 0) y=z at*
 obtain⟨⟨k0,k1,k2⟩,-⟩:=H0.out.c3 0 rfl
 go_enter Tryz.func14,Tryz.ntmps14
 go_wp2_with(first
  |(go_at_call 30;go_loud(refine(Q1.out _ H0.out.low).mono ?_;rintro e W1 ⟨u,rfl,hk,hb⟩;obtain⟨py,cy,rfl,lz⟩:=hk.shape;have HK1:=qh hk;have H1:=qh (H0.out.stays hb);clear hk hb))
  |(go_at_call 29;go_loud(refine(HW.out _ _ _ HK1.out (HT.out.below H1.out.low)).mono ?_;rintro e W2 ⟨u,rfl,hk,hb⟩;obtain⟨pz,cz,rfl,lz⟩:=hk.shape;have H2:=qh (H1.out.call hb (qk _ _) hk);obtain⟨⟨r0,r1,r2⟩,e0,e1,e2⟩:=H2.out.c3 1 rfl;clear hk hb)))
 obtain⟨Wf,hW,hf⟩:=qd (Fr.set3 (x:=.int .i64 z.kind) (y:=.string z.text) (z:=(.slice pz z.kids.length cz)) H2.out 1 rfl)
 rewrite[←hW]
 (try simp only[nn] at hf)
 clear hW
 obtain⟨⟨s0,s1,s2⟩,-⟩:=hf.c3 1 rfl
 have hZ:NRes w z (.returned (.agg #[.int .i64 z.kind,.string z.text,(.slice pz z.kids.length cz)])) Wf:=hf.toldN (x:=z)
 have HF:=qh hZ
 clear hf hZ
 (try go_wp2)
 exact bR9 (v:=.agg #[.int .i64 z.kind,.string z.text,(.slice pz z.kids.length cz)]) (by simp[results,Tryz.results14,go_sem,s0,s1,s2]) rfl (id HF.out)
theorem qiR(x:qb)(hc:qT x≤1000000000)(u:Value)(w:World)(S:Nat→Prop)(hu:qo w S u x.kids):Calls Tryz.prog 24 #[.agg #[.int .i64 x.kind,.string x.text,u]] w (NRes w (qbO x)):=by
 have hw:=qgH (4*qbv (qJ x)+4) (.put 1 0) (qJ x) (Nat.le_trans (qej x) hc) (by simp[qbk])
 have eM:qbO x=qw (4*qbv (qJ x)+4) (.put 1 0) (qJ x):=rfl
 rw[eM]
 clear eM
 have hbx:=fun u w S hu=>qiW x u w S hu hc
 obtain⟨k,t,l⟩:=x
 simp only[qb.kind_mk,qb.text_mk,qb.kids_mk] at*
 obtain⟨pu,cu,rfl,lu⟩:=hu.shape
 have H0:=qh (qap w (.int .i64 k) (.string t) (.slice pu l.length cu))
 have Q1:=qh (fun V (hV:Below w.heap.size w V)=>hbx (.slice pu l.length cu) V S (hu.stays hV))
 have HW:Hid (∀(u:Value) (w:World) (S:Nat→Prop),qo w S u (qJ (.mk k t l)).kids →Calls Tryz.prog 37 #[.agg #[.int .i64 (qJ (.mk k t l)).kind,.string (qJ (.mk k t l)).text,u],.int .i64 1,.int .i64 0] w (NRes w (qw (4*qbv (qJ (.mk k t l))+4) (.put 1 0) (qJ (.mk k t l))))):=qh hw
 clear hu hw hbx
 generalize 4*qbv (qJ (.mk k t l))+4=G at*
 generalize qJ (.mk k t l)=y at*
 generalize qw G (.put 1 0) y=z at*
 obtain⟨⟨k0,k1,k2⟩,-⟩:=H0.out.c3 0 rfl
 go_enter Tryz.func24,Tryz.ntmps24
 go_wp2_with(first
  |(go_at_call 15;go_loud(refine(Q1.out _ H0.out.low).mono ?_;rintro e W1 ⟨u,rfl,hk,hb⟩;obtain⟨py,cy,rfl,lz⟩:=hk.shape;have HK1:=qh hk;have H1:=qh (H0.out.stays hb);clear hk hb))
  |(go_at_call 37;go_loud(refine(HW.out _ _ _ HK1.out).mono ?_;rintro e W2 ⟨u,rfl,hk,hb⟩;obtain⟨pz,cz,rfl,lz⟩:=hk.shape;have H2:=qh (H1.out.call hb (qk _ _) hk);obtain⟨⟨r0,r1,r2⟩,e0,e1,e2⟩:=H2.out.c3 1 rfl;clear hk hb)))
 obtain⟨Wf,hW,hf⟩:=qd (Fr.set3 (x:=.int .i64 z.kind) (y:=.string z.text) (z:=(.slice pz z.kids.length cz)) H2.out 1 rfl)
 rewrite[←hW]
 (try simp only[nn] at hf)
 clear hW
 obtain⟨⟨s0,s1,s2⟩,-⟩:=hf.c3 1 rfl
 have hZ:NRes w z (.returned (.agg #[.int .i64 z.kind,.string z.text,(.slice pz z.kids.length cz)])) Wf:=hf.toldN (x:=z)
 have HF:=qh hZ
 clear hf hZ
 (try go_wp2)
 exact bR9 (v:=.agg #[.int .i64 z.kind,.string z.text,(.slice pz z.kids.length cz)]) (by simp[results,Tryz.results24,go_sem,s0,s1,s2]) rfl (id HF.out)
def srcA:ByteArray:=⟨#[40,49,32,45,32,50,41,32,45,32,40,51,32,45,32,52,41]⟩
def srcB:ByteArray:=⟨#[49,32,45,32,50,32,45,32,40,51,32,45,32,52,41]⟩
theorem qk2:eqN (qbO (srcP srcA).1) (srcP srcB).1=true:=by decide+kernel
theorem qfH:qa6 (.mk 24 ⟨#[45]⟩ []) 9 0=true∧qa6 (.mk 24 ⟨#[45]⟩ []) 8 0=false:=by decide+kernel
theorem qfp(n m:qb)(u v:Value)(w:World)(S S':Nat→Prop)(hu:qo w S u n.kids)(hv:qo w S' v m.kids):Calls Tryz.prog 18 #[.agg #[.int .i64 n.kind,.string n.text,u],.agg #[.int .i64 m.kind,.string m.text,v]] w fun e w'=>e=.returned (.bool (eqN n m))∧Below w.heap.size w w':=qkd n m u v w S S' hu hv
theorem qjb(w:World)(hT:TabX w):Calls Tryz.prog 8 #[] w fun e w'=>e=.returned (.bool true)∧Below w.heap.size w w':=by
 obtain⟨x,hx⟩:∃x,srcP srcA=x:=⟨_,rfl⟩
 obtain⟨y,hy⟩:∃y,srcP srcB=y:=⟨_,rfl⟩
 have ks:=qk2
 have hcx:qT x.1≤1000000000:=by have:=qj1 srcA;rw[hx] at this;have:=qbP x.1;omega
 rw[hx,hy] at ks
 obtain⟨n,e1,a1⟩:=x
 obtain⟨m,e2,a2⟩:=y
 dsimp only at ks hcx
 unfold srcA at hx
 unfold srcB at hy
 have H0:=qh (Fr.new0 w)
 have HT:=qh hT
 clear hT
 go_enter Tryz.func8,Tryz.ntmps8
 go_upto_region 2 with(go_at_call 20;go_loud(refine(qe4 _ _ (by decide)).mono ?_;rintro e W1 ⟨u,rfl,hk,hb⟩;rw[hx] at hk⊢;obtain⟨pn,cn,rfl,lu⟩:=hk.shape;have H1:=qh (H0.out.call hb (qk _ _) hk);clear hk hb lu))
 obtain⟨W2,hW,hf⟩:=qd (H1.out.lay [.int .i64 n.kind,.string n.text,.slice pn n.kids.length cn] 24)
 rewrite[←hW]
 have H2:=qh hf
 clear hW hf H1
 go_upto_region 3 with(go_at_call 20;go_loud(refine(qe4 _ _ (by decide)).mono ?_;rintro e W3 ⟨u,rfl,hk,hb⟩;rw[hy] at hk⊢;obtain⟨pm,cm,rfl,lu⟩:=hk.shape;have H3:=qh (H2.out.call hb (qk _ _) hk);clear hk hb lu))
 obtain⟨W4,hW,hf⟩:=qd (H3.out.lay [.int .i64 m.kind,.string m.text,.slice pm m.kids.length cm] 24)
 rewrite[←hW]
 (try simp only[nn] at hf)
 have H4:=qh hf
 clear hW hf H3
 have hz:=(qct _ _).1 ks
 have QW:Hid (∀V,Below W4.heap.size W4 V→Calls Tryz.prog 14 #[.agg #[.int .i64 n.kind,.string n.text,.slice pn n.kids.length cn]] V (NRes V m)):=qh fun V hV=>hz▸qfU n hcx _ V _ ((H4.out.stays hV).get (F:=qk _ _) (by simp)) (HT.out.below (H4.out.low.trans (hV.mono H4.out.low.size)))
 have QS:Hid (∀V u S,qo V S u m.kids→Below W4.heap.size W4 V→Calls Tryz.prog 18 #[.agg #[.int .i64 m.kind,.string m.text,u],.agg #[.int .i64 m.kind,.string m.text,.slice pm m.kids.length cm]] V fun e w'=>e=.returned (.bool true)∧Below V.heap.size V w'):=qh fun V u S hu hV=>by
  have:=qfp m m u _ V S _ hu ((H4.out.stays hV).get (F:=qk (.slice pm m.kids.length cm) m.kids) (by simp))
  rwa [(qct m m).2 rfl] at this
 have QN9:Hid (∀V,Below W4.heap.size W4 V→Calls Tryz.prog 21 #[.agg #[.int .i64 24,.string ⟨#[45]⟩,.slice none 0 0],.int .i64 9,.int .i64 0] V fun e w'=>e=.returned (.bool true)∧Below V.heap.size V w'):=qh fun V hV=>by
  have:=qcR (.mk 24 ⟨#[45]⟩ []) (.slice none 0 0) 9 0 V (HT.out.below (H4.out.low.trans (hV.mono H4.out.low.size)))
  rwa [qfH.1] at this
 have QN8:Hid (∀V,Below W4.heap.size W4 V→Calls Tryz.prog 21 #[.agg #[.int .i64 24,.string ⟨#[45]⟩,.slice none 0 0],.int .i64 8,.int .i64 0] V fun e w'=>e=.returned (.bool false)∧Below V.heap.size V w'):=qh fun V hV=>by
  have:=qcR (.mk 24 ⟨#[45]⟩ []) (.slice none 0 0) 8 0 V (HT.out.below (H4.out.low.trans (hV.mono H4.out.low.size)))
  rwa [qfH.2] at this
 have HL:=qh H4.out.low
 have hs:∀V,Below W4.heap.size W4 V→(V.cell? ⟨W1.heap.size,0,none⟩=some (.int .i64 n.kind)∧V.cell? ⟨W1.heap.size,1,none⟩=some (.string n.text)∧V.cell? ⟨W1.heap.size,2,none⟩=some (.slice pn n.kids.length cn))∧(V.cell? ⟨W3.heap.size,0,none⟩=some (.int .i64 m.kind)∧V.cell? ⟨W3.heap.size,1,none⟩=some (.string m.text)∧V.cell? ⟨W3.heap.size,2,none⟩=some (.slice pm m.kids.length cm)):=fun V hV=>⟨((H4.out.stays hV).c3 0 rfl).1,((H4.out.stays hV).c3 1 rfl).1⟩
 have SHOW:=qh hs
 have hb0:Below W4.heap.size W4 W4.drew:=(Below.refl _ _).drew
 clear hs hcx hz ks hx hy
 go_region_held3 (fun V=>(V.cell? ⟨W1.heap.size,0,none⟩=some (.int .i64 n.kind)∧V.cell? ⟨W1.heap.size,1,none⟩=some (.string n.text)∧V.cell? ⟨W1.heap.size,2,none⟩=some (.slice pn n.kids.length cn))∧(V.cell? ⟨W3.heap.size,0,none⟩=some (.int .i64 m.kind)∧V.cell? ⟨W3.heap.size,1,none⟩=some (.string m.text)∧V.cell? ⟨W3.heap.size,2,none⟩=some (.slice pm m.kids.length cm)))
  (with_reducible first|exact SHOW.out _ hb0|assumption|(refine SHOW.out _ ?_;assumption))
  (first
   |(go_at_call 14;(with_reducible refine(QW.out _ (by(with_reducible first|exact hb0|assumption))).mono ?_);rintro _ U1 ⟨u,rfl,hk,bu⟩;obtain⟨pz,cz,rfl,lz⟩:=hk.shape;have HK:=qh hk;have bb:Below W4.heap.size W4 U1:=Below.trans (by(with_reducible first|exact hb0|assumption)) (bu.mono (Below.size (show Below W4.heap.size W4 _ by(with_reducible first|exact hb0|assumption))));clear hk bu lz)
   |(go_at_call 18;(with_reducible refine(QS.out _ _ _ (by first|with_reducible exact HK.out|with_reducible exact HK.out.stays (Below.refl _ _).drew) (by(with_reducible first|exact hb0|assumption))).mono ?_);rintro _ U2 ⟨rfl,bu⟩;have bb:Below W4.heap.size W4 U2:=Below.trans (by(with_reducible first|exact hb0|assumption)) (bu.mono (Below.size (show Below W4.heap.size W4 _ by(with_reducible first|exact hb0|assumption))));clear bu)
   |(go_at_call 21;(with_reducible refine(QN9.out _ (by(with_reducible first|exact hb0|assumption))).mono ?_);rintro _ U3 ⟨rfl,bu⟩;have bb:Below W4.heap.size W4 U3:=Below.trans (by(with_reducible first|exact hb0|assumption)) (bu.mono (Below.size (show Below W4.heap.size W4 _ by(with_reducible first|exact hb0|assumption))));clear bu)
   |(go_at_call 21;(with_reducible refine(QN8.out _ (by(with_reducible first|exact hb0|assumption))).mono ?_);rintro _ U4 ⟨rfl,bu⟩;have bb:Below W4.heap.size W4 U4:=Below.trans (by(with_reducible first|exact hb0|assumption)) (bu.mono (Below.size (show Below W4.heap.size W4 _ by(with_reducible first|exact hb0|assumption))));clear bu))
 all_goals
  have hbu:Below W4.heap.size W4 U4:=by assumption
  go_wp2
  go_ret
  exact⟨rfl,HL.out.trans (hbu.mono HL.out.size)⟩
end Go.Proofs.YtakbenifinnpfaaGreatDoor
namespace Go.Sub
mutual
def negN:qb→Prop
 |.mk k t l=>(k=25→t=⟨#[]⟩)∧negL l
def negL:List qb→Prop
 |[]=>True
 |x::r=>negN x∧negL r
end
theorem qgY:∀{l:List qb} {x:qb},negL l→negN x→negL (l++[x])
 |[],x,_,hx=>by rw[List.nil_append,negL,negL];exact⟨hx,trivial⟩
 |y::r,x,h,hx=>by
  rw[negL] at h
  rw[List.cons_append,negL]
  exact⟨h.1,qgY h.2 hx⟩
def NegO(o:Option PRes):Prop:=∀r,o=some r→negN r.n∧negL r.l
theorem NegO.none:NegO none:=fun _ h=>by cases h
theorem NegO.some{p:PSt}{n:qb}{l:List qb}{b:Bool}(hn:negN n)(hl:negL l):NegO (some ⟨p,n,l,b⟩):=fun r h=>by
 obtain rfl:=Option.some.inj h
 exact⟨hn,hl⟩
theorem NegO.own{a:PRes}(hn:negN a.n)(hl:negL a.l):NegO (Option.some a):=fun r h=>by
 obtain rfl:=Option.some.inj h
 exact⟨hn,hl⟩
theorem NegO.run{x:Option PRes}{k:PRes→Option PRes}(hx:NegO x)(h:∀a,negN a.n→negL a.l→NegO (k a)):NegO (x.bind k):=by
 cases x with
 |none=>exact .none
 |some a=>exact h a (hx a rfl).1 (hx a rfl).2
theorem NegO.push{l:List qb}{x:qb}{k:List qb→Option PRes}(hl:negL l)(hx:negN x)(h:∀a,negL a→NegO (k a)):NegO ((qae l x).bind k):=by
 unfold qae
 split
 ·exact h _ (qgY hl hx)
 ·exact .none
end Go.Sub
namespace Go.Proofs.YtakbenifinnpfaaGreatDoor
open Go.RowKit Go.Sub
attribute [local go_sem] Instr.field asAgg
def qkF(w:World)(e:Ending)(w':World):Prop:=∃s n f i u,srcP s=(n,f,i)∧e=.returned (.tuple #[.agg #[.int .i64 n.kind,.string n.text,u],.bool (f==0)])∧qo w' (fun b=>w.heap.size≤b) u n.kids∧Below w.heap.size w w'
theorem fr_nil(w:World)(T:TypeId):Fr (fun _=>False) w (w.alloc (.cells #[.int .i64 0,.string ⟨#[]⟩,.slice none 0 0] T)) [⟨w.heap.size,T,[.int .i64 0,.string ⟨#[]⟩,.slice none 0 0]⟩] [] []:=(Fr.new0 w).lay _ _
theorem qhS(c:List UInt8)(v:Value)(w:World)(h:qbu w v c):Calls Tryz.prog 10 #[v] w (qkF w):=by
 obtain⟨p,cap,b,o,rfl,h1,h2,h3,h4⟩:=h
 have h0:=fr_nil w 24
 have H0:=qh h0
 have e60:(c.take 60).length =min c.length 60:=by rw[List.length_take];omega
 have QC:Hid (qbu (w.alloc (.cells #[.int .i64 0,.string ⟨#[]⟩,.slice none 0 0] 24)) (.slice p (min c.length 60) cap) (c.take 60)):=qh (qbu.stays ⟨p,cap,b,o,by rw[e60],fun h=>h1 (by omega),by omega,h3,fun i x hx=>h4 i x (by
  rw[List.getElem?_take] at hx
  split at hx
  ·exact hx
  ·cases hx)⟩ h0.low)
 have hm:(c.take 60).length ≤60:=by omega
 have QS:=qh (fun U=>qiB p c.length cap U h2 h3)
 have HM:=qh hm
 clear h1 h2 h3 h4 e60 hm h0
 generalize min c.length 60=m at*
 generalize c.take 60=d at*
 go_enter Tryz.func10,Tryz.ntmps10
 go_upto_region 2 with(first
  |(go_at_call 23;go_loud(refine(QS.out _).mono ?_;rintro e W0 ⟨rfl,rfl⟩))
  |(go_at_call 22;go_loud(refine(qku _ _ _ QC.out HM.out).mono ?_;rintro e W1 ⟨s,rfl,hs,hb⟩;have H1:=qh (H0.out.stays hb);clear hb))
  |(go_at_call 20;go_loud(refine(qe4 s _ (by omega)).mono ?_;obtain⟨x,hx⟩:∃x,srcP s=x:=⟨_,rfl⟩;rw[hx];obtain⟨n,f,i⟩:=x;rintro e W2 ⟨u,rfl,hk,hb⟩;dsimp only at hk⊢;obtain⟨pu,cu,rfl,lu⟩:=hk.shape;have H2:=qh (H1.out.call hb (qk _ _) hk);have HX:=qh hx;clear hk hb lu hx)))
 obtain⟨W3,hW,hf⟩:=qd (H2.out.lay [.int .i64 n.kind,.string n.text,.slice pu n.kids.length cu] 24)
 rewrite[←hW]
 (try simp only[nn] at hf)
 have H3:=qh hf
 clear hW hf H2 H1 H0
 obtain⟨⟨r0,r1,r2⟩,e0,e1,e2⟩:=H3.out.c3 0 rfl
 obtain⟨⟨k0,k1,k2⟩,-⟩:=H3.out.c3 1 rfl
 go_upto_region 3 with(fail)
 obtain⟨Wf,hW,hf⟩:=qd (Fr.set3 (x:=.int .i64 n.kind) (y:=.string n.text) (z:=.slice pu n.kids.length cu) H3.out 0 rfl)
 rewrite[←hW]
 (try simp only[nn] at hf)
 clear hW
 obtain⟨⟨s0,s1,s2⟩,-⟩:=hf.c3 0 rfl
 have hZ:NRes w n (.returned (.agg #[.int .i64 n.kind,.string n.text,.slice pu n.kids.length cu])) Wf:=hf.toldN (x:=n)
 have HF:=qh hZ
 clear hf hZ r0 r1 r2 e0 e1 e2 k0 k1 k2
 (try go_wp2)
 refine bR9 (v:=.tuple #[.agg #[.int .i64 n.kind,.string n.text,.slice pu n.kids.length cu],.bool (f==0)]) (by simp[results,Tryz.results10,go_sem,s0,s1,s2]) rfl ?_
 obtain⟨u,hu,hk,hb⟩:=HF.out
 cases hu
 exact⟨s,n,f,i,_,HX.out,rfl,hk,hb⟩
theorem qdD(x:qb)(hc:qT x≤1000000000)(u:Value)(w:World)(S:Nat→Prop)(hu:qo w S u x.kids)(hT:TabX w):
  Calls Tryz.prog 11 #[.agg #[.int .i64 x.kind,.string x.text,u]] w fun e w'=>e=.returned (.bool true)∧Below w.heap.size w w':=by
 obtain⟨p,c,rfl,la⟩:=hu.shape
 have h0:=qb9 w 24 (.int .i64 x.kind) (.string x.text) (.slice p x.kids.length c)
 have QA:=qh (fun U hU=>qfU x hc (.slice p x.kids.length c) U S (hu.stays hU) (hT.below hU))
 have QB:=qh (fun U hU=>qiR x hc (.slice p x.kids.length c) U S (hu.stays hU))
 have QS:Hid (∀U u v S S',qo U S u (qbO x).kids →qo U S' v (qbO x).kids →Calls Tryz.prog 18 #[.agg #[.int .i64 (qbO x).kind,.string (qbO x).text,u],.agg #[.int .i64 (qbO x).kind,.string (qbO x).text,v]] U fun e w'=>e=.returned (.bool true)∧Below U.heap.size U w'):=qh fun U u v S S' hu hv=>by
  have:=qfp (qbO x) (qbO x) u v U S S' hu hv
  rwa [(qct _ _).2 rfl] at this
 clear hu la hT
 generalize qbO x=y at*
 go_enter Tryz.func11,Tryz.ntmps11
 go_upto_region 1 with(fail)
 obtain⟨W,hW,h1⟩:=qd h0
 have HW:=qh h1
 rewrite[show w.alloc (.cells #[.int .i64 x.kind,.string x.text,.slice p x.kids.length c] 24)=W from hW.symm]
 clear hW h0 h1
 have HL:=qh HW.out.low
 have hs:∀V,Below W.heap.size W V→(V.cell? ⟨w.heap.size,0,none⟩=some (.int .i64 x.kind)∧V.cell? ⟨w.heap.size,1,none⟩=some (.string x.text)∧V.cell? ⟨w.heap.size,2,none⟩=some (.slice p x.kids.length c)):=fun V hV=>((HW.out.stays hV).c3 0 rfl).1
 have SHOW:=qh hs
 have hb0:Below W.heap.size W W.drew:=(Below.refl _ _).drew
 clear hs HW
 have QA1:Hid (∀U,Below W.heap.size W U→Calls Tryz.prog 14 #[.agg #[.int .i64 x.kind,.string x.text,.slice p x.kids.length c]] U (NRes U y)):=qh fun U hU=>QA.out U (HL.out.trans (hU.mono HL.out.size))
 have QB1:Hid (∀U,Below W.heap.size W U→Calls Tryz.prog 24 #[.agg #[.int .i64 x.kind,.string x.text,.slice p x.kids.length c]] U (NRes U y)):=qh fun U hU=>QB.out U (HL.out.trans (hU.mono HL.out.size))
 clear QA QB
 go_region_held3 (fun V=>(V.cell? ⟨w.heap.size,0,none⟩=some (.int .i64 x.kind)∧V.cell? ⟨w.heap.size,1,none⟩=some (.string x.text)∧V.cell? ⟨w.heap.size,2,none⟩=some (.slice p x.kids.length c)))
  (with_reducible first|exact SHOW.out _ hb0|assumption|(refine SHOW.out _ ?_;assumption))
  (first
   |(go_at_call 14;(with_reducible refine(QA1.out _ (by first|with_reducible assumption|with_reducible exact hb0)).mono ?_);rintro _ U ⟨u,rfl,hk,bu⟩;obtain⟨p1,c1,rfl,lz⟩:=hk.shape;have HK1:=qh hk;have BU1:=qh bu;have bb:Below W.heap.size W U:=Below.trans (by first|with_reducible assumption|with_reducible exact hb0) (bu.mono (Below.size (show Below W.heap.size W _ by first|with_reducible assumption|with_reducible exact hb0)));clear hk bu lz)
   |(go_at_call 24;(with_reducible refine(QB1.out _ (by first|with_reducible assumption|with_reducible exact hb0)).mono ?_);rintro _ U ⟨u,rfl,hk,bu⟩;obtain⟨p2,c2,rfl,lz⟩:=hk.shape;have HK2:=qh hk;have BU2:=qh bu;have bb:Below W.heap.size W U:=Below.trans (by first|with_reducible assumption|with_reducible exact hb0) (bu.mono (Below.size (show Below W.heap.size W _ by first|with_reducible assumption|with_reducible exact hb0)));clear hk bu lz)
   |(go_at_call 18;(with_reducible refine(QS.out _ _ _ _ _ (by first|with_reducible exact HK1.out|with_reducible exact HK1.out.stays BU2.out) (by first|with_reducible exact HK2.out|with_reducible exact HK2.out.stays BU1.out)).mono ?_);rintro _ U3 ⟨rfl,bu⟩;have bb:Below W.heap.size W U3:=Below.trans (by first|with_reducible assumption|with_reducible exact hb0) (bu.mono (Below.size (show Below W.heap.size W _ by first|with_reducible assumption|with_reducible exact hb0)));clear bu))
 all_goals
  have hbu:Below W.heap.size W U3:=by assumption
  go_wp2
  go_ret
  exact⟨rfl,HL.out.trans (hbu.mono HL.out.size)⟩
theorem qeg(x:qb)(u:Value)(l f:Int)(w:World)(S:Nat→Prop)(hu:qo w S u x.kids)(hT:TabX w):
  Calls Tryz.prog 12 #[.agg #[.int .i64 x.kind,.string x.text,u],.int .i64 l,.int .i64 f] w fun e w'=>e=.returned (.bool true)∧Below w.heap.size w w':=by
 obtain⟨p,c,rfl,la⟩:=hu.shape
 have h0:=qb9 w 24 (.int .i64 x.kind) (.string x.text) (.slice p x.kids.length c)
 have HT:=qh hT
 have e0:(qa6 x l f==qa6 x l f)=true:=by simp
 clear hu la hT
 go_enter Tryz.func12,Tryz.ntmps12
 go_upto_region 1 with(fail)
 obtain⟨W,hW,h1⟩:=qd h0
 have HW:=qh h1
 rewrite[show w.alloc (.cells #[.int .i64 x.kind,.string x.text,.slice p x.kids.length c] 24)=W from hW.symm]
 clear hW h0 h1
 have HL:=qh HW.out.low
 have hs:∀V,Below W.heap.size W V→(V.cell? ⟨w.heap.size,0,none⟩=some (.int .i64 x.kind)∧V.cell? ⟨w.heap.size,1,none⟩=some (.string x.text)∧V.cell? ⟨w.heap.size,2,none⟩=some (.slice p x.kids.length c)):=fun V hV=>((HW.out.stays hV).c3 0 rfl).1
 have SHOW:=qh hs
 have hb0:Below W.heap.size W W.drew:=(Below.refl _ _).drew
 clear hs HW
 have QA1:Hid (∀U,Below W.heap.size W U→Calls Tryz.prog 21 #[.agg #[.int .i64 x.kind,.string x.text,.slice p x.kids.length c],.int .i64 l,.int .i64 f] U fun e w'=>e=.returned (.bool (qa6 x l f))∧Below U.heap.size U w'):=qh fun U hU=>qcR x _ l f U (HT.out.below (HL.out.trans (hU.mono HL.out.size)))
 have QB1:Hid (∀U,Below W.heap.size W U→Calls Tryz.prog 25 #[.agg #[.int .i64 x.kind,.string x.text,.slice p x.kids.length c],.int .i64 l,.int .i64 f] U fun e w'=>e=.returned (.bool (qa6 x l f))∧Below U.heap.size U w'):=qh fun U hU=>qe5 x _ l f U trivial
 generalize qa6 x l f=z at*
 go_region_held3 (fun V=>(V.cell? ⟨w.heap.size,0,none⟩=some (.int .i64 x.kind)∧V.cell? ⟨w.heap.size,1,none⟩=some (.string x.text)∧V.cell? ⟨w.heap.size,2,none⟩=some (.slice p x.kids.length c)))
  (with_reducible first|exact SHOW.out _ hb0|assumption|(refine SHOW.out _ ?_;assumption))
  (first
   |(go_at_call 21;(with_reducible refine(QA1.out _ (by first|with_reducible assumption|with_reducible exact hb0)).mono ?_);rintro _ U1 ⟨rfl,bu⟩;have bb:Below W.heap.size W U1:=Below.trans (by first|with_reducible assumption|with_reducible exact hb0) (bu.mono (Below.size (show Below W.heap.size W _ by first|with_reducible assumption|with_reducible exact hb0)));clear bu)
   |(go_at_call 25;(with_reducible refine(QB1.out _ (by first|with_reducible assumption|with_reducible exact hb0)).mono ?_);rintro _ U2 ⟨rfl,bu⟩;have bb:Below W.heap.size W U2:=Below.trans (by first|with_reducible assumption|with_reducible exact hb0) (bu.mono (Below.size (show Below W.heap.size W _ by first|with_reducible assumption|with_reducible exact hb0)));clear bu))
 all_goals
  go_wp2
  go_ret
  refine⟨by simp,?_⟩
  first
   |exact HL.out.trans ((show Below W.heap.size W U2 by assumption).mono HL.out.size)
   |exact HL.out.trans ((show Below W.heap.size W U1 by assumption).mono HL.out.size)
theorem wasks_core(n:qb)(u:Value)(l f:Int)(c d:List UInt8)(vc vd:Value)(k:Int)(hk0:0≤k)(hk:k≤255)(w:World)(S:Nat→Prop)
  (hu:qo w S u n.kids)(ht:qcQ n≤140737488355328)(hc:qcC w vc c)(hd:qbu w vd d)(hT:TabX w):
  Calls Tryz.prog 3 #[qbQ n u,.int .i64 l,.int .i64 f,vc,vd,.int .u8 k] w fun e w'=>e=.returned (.bool true)∧Below w.heap.size w w':=by
 obtain⟨p,cp,rfl,la⟩:=hu.shape
 have h0:=qb9 w 24 (.int .i64 n.kind) (.string n.text) (.slice p n.kids.length cp)
 have H0:=qh h0
 have QW:=qh (qhP n _ _ S (hu.stays h0.low) ht)
 have hlow:=qeS n 1000
 have his:=qhZ n 1000
 have hcw:=qbP n
 have HU:=qh (hu.stays h0.low)
 have HC:=qh (hc.stays h0.low)
 have HD:=qh (hd.stays h0.low)
 have HT:=qh (hT.below h0.low)
 unfold qbQ at QW⊢
 clear hu hc hd hT ht la
 obtain⟨W0,hW,h1⟩:=qd h0
 rewrite[←hW] at QW HU HC HD HT
 have H0:=qh h1
 obtain⟨⟨k0,k1,k2⟩,-⟩:=h1.c3 0 rfl
 have QK:=qh (fun U (hU:Below W0.heap.size W0 U)=>qjb U (HT.out.below hU))
 obtain⟨wt,hwt⟩:∃wt,1000-max (Go.Sub.qaV n 1000) (-1)=wt:=⟨_,rfl⟩
 rw[hwt] at QW
 go_enter Tryz.func3,Tryz.ntmps3
 go_upto_region 1 with(fail)
 rewrite[show w.alloc (.cells #[.int .i64 n.kind,.string n.text,.slice p n.kids.length cp] 24)=W0 from hW.symm]
 clear hW h1 h0
 by_cases hw:wt≤200
 ·have hcn:qT n≤200:=by
   have h3:800≤Go.Sub.qaV n 1000:=by omega
   have:=his (by omega)
   omega
  have e1:decide (wt>200)=false:=decide_eq_false (by omega)
  have e2:(200<wt)=False:=eq_false (by omega)
  clear hw hwt hlow his hcw
  go_upto_region 3 with(first
   |(go_at_call 7;go_loud(refine QW.out.mono ?_;rintro e W1 ⟨rfl,hb⟩;have B1:=qh hb;clear hb))
   |(go_at_call 8;go_loud(refine(QK.out _ B1.out).mono ?_;rintro e W2 ⟨rfl,hb⟩;have B2:=qh (B1.out.trans (hb.mono B1.out.size));clear hb)))
  have H2:=qh (H0.out.stays B2.out)
  have HU2:=qh (HU.out.stays B2.out)
  have HC2:=qh (HC.out.stays B2.out)
  have HD2:=qh (HD.out.stays B2.out)
  have HT2:=qh (HT.out.below B2.out)
  clear H0 HU HC HD HT QW QK k0 k1 k2 B1 B2
  have QT:=qh (qjR c vc W2 HC2.out)
  have hct:=qjI c
  unfold qi7 qbQ at QT
  generalize qfe c=x at*
  go_upto_region 4 with(go_at_call 9;go_loud(refine QT.out.mono ?_;rintro e W3 ⟨u,rfl,hk,hb⟩;obtain⟨px,cx,rfl,lx⟩:=hk.shape;have H3:=qh (H2.out.call hb (qk _ _) hk);have HB3:=qh hb;clear hk hb lx))
  obtain⟨W4,hW,hf⟩:=qd (H3.out.lay [.int .i64 x.kind,.string x.text,.slice px x.kids.length cx] 24)
  rewrite[←hW]
  (try simp only[nn] at hf)
  have H4:=qh hf
  have hb4:Below W2.heap.size W2 W4:=HB3.out.trans (by rw[hW];exact((Below.refl _ _).alloc (Nat.le_refl _) _).mono HB3.out.size)
  have QP:=qh (qhS d vd W4 (HD2.out.stays hb4))
  have HU4:=qh (HU2.out.stays hb4)
  have HT4:=qh (HT2.out.below hb4)
  clear hW hf H3 H2 HU2 HC2 HD2 HT2 QT hb4 HB3
  go_upto_region 5 with(go_at_call 10;go_loud(refine QP.out.mono ?_;rintro e W5 ⟨s,y,fy,iy,u,hx,rfl,hk,hb⟩;obtain⟨py,cy,rfl,ly⟩:=hk.shape;have H5:=qh (H4.out.call hb (qk _ _) hk);have HX:=qh hx;have HB5:=qh hb;clear hk hb ly hx))
  have hcy:qT y≤10000000:=by have h1:=qj1 s;rw[HX.out] at h1;dsimp only at h1;have:=qbP y;omega
  obtain⟨W6,hW,hf⟩:=qd (H5.out.lay [.int .i64 y.kind,.string y.text,.slice py y.kids.length cy] 24)
  rewrite[←hW]
  (try simp only[nn] at hf)
  have H6:=qh hf
  have hb6:Below W4.heap.size W4 W6:=HB5.out.trans (by rw[hW];exact((Below.refl _ _).alloc (Nat.le_refl _) _).mono HB5.out.size)
  have HU6:=qh (HU4.out.stays hb6)
  have HT6:=qh (HT4.out.below hb6)
  have HX6:=qh (show qo W6 _ _ _ from H6.out.get (F:=qk (.slice px x.kids.length cx) x.kids) (by simp))
  have HY6:=qh (show qo W6 _ _ _ from H6.out.get (F:=qk (.slice py y.kids.length cy) y.kids) (by simp))
  have Q1:Hid (∀U,Below W6.heap.size W6 U→Calls Tryz.prog 11 #[.agg #[.int .i64 n.kind,.string n.text,.slice p n.kids.length cp]] U fun e w'=>e=.returned (.bool true)∧Below U.heap.size U w'):=qh fun U hU=>qdD n (by omega) _ U _ (HU6.out.stays hU) (HT6.out.below hU)
  have Q2:Hid (∀U,Below W6.heap.size W6 U→Calls Tryz.prog 11 #[.agg #[.int .i64 x.kind,.string x.text,.slice px x.kids.length cx]] U fun e w'=>e=.returned (.bool true)∧Below U.heap.size U w'):=qh fun U hU=>qdD x (by omega) _ U _ (HX6.out.stays hU) (HT6.out.below hU)
  have Q3:Hid (∀U,Below W6.heap.size W6 U→Calls Tryz.prog 11 #[.agg #[.int .i64 y.kind,.string y.text,.slice py y.kids.length cy]] U fun e w'=>e=.returned (.bool true)∧Below U.heap.size U w'):=qh fun U hU=>qdD y (by omega) _ U _ (HY6.out.stays hU) (HT6.out.below hU)
  have Q4:Hid (∀U i j,Below W6.heap.size W6 U→Calls Tryz.prog 12 #[.agg #[.int .i64 n.kind,.string n.text,.slice p n.kids.length cp],.int .i64 i,.int .i64 j] U fun e w'=>e=.returned (.bool true)∧Below U.heap.size U w'):=qh fun U i j hU=>qeg n _ i j U _ (HU6.out.stays hU) (HT6.out.below hU)
  have Q5:Hid (∀U i j,Below W6.heap.size W6 U→Calls Tryz.prog 12 #[.agg #[.int .i64 x.kind,.string x.text,.slice px x.kids.length cx],.int .i64 i,.int .i64 j] U fun e w'=>e=.returned (.bool true)∧Below U.heap.size U w'):=qh fun U i j hU=>qeg x _ i j U _ (HX6.out.stays hU) (HT6.out.below hU)
  have Q6:Hid (∀U i j,Below W6.heap.size W6 U→Calls Tryz.prog 12 #[.agg #[.int .i64 y.kind,.string y.text,.slice py y.kids.length cy],.int .i64 i,.int .i64 j] U fun e w'=>e=.returned (.bool true)∧Below U.heap.size U w'):=qh fun U i j hU=>qeg y _ i j U _ (HY6.out.stays hU) (HT6.out.below hU)
  have hs:∀V,Below W6.heap.size W6 V→(V.cell? ⟨w.heap.size,0,none⟩=some (.int .i64 n.kind)∧V.cell? ⟨w.heap.size,1,none⟩=some (.string n.text)∧V.cell? ⟨w.heap.size,2,none⟩=some (.slice p n.kids.length cp))∧(V.cell? ⟨W3.heap.size,0,none⟩=some (.int .i64 x.kind)∧V.cell? ⟨W3.heap.size,1,none⟩=some (.string x.text)∧V.cell? ⟨W3.heap.size,2,none⟩=some (.slice px x.kids.length cx))∧(V.cell? ⟨W5.heap.size,0,none⟩=some (.int .i64 y.kind)∧V.cell? ⟨W5.heap.size,1,none⟩=some (.string y.text)∧V.cell? ⟨W5.heap.size,2,none⟩=some (.slice py y.kids.length cy)):=fun V hV=>⟨((H6.out.stays hV).c3 0 rfl).1,((H6.out.stays hV).c3 1 rfl).1,((H6.out.stays hV).c3 2 rfl).1⟩
  have SHOW:=qh hs
  have HL:=qh H6.out.low
  have BZ:=qh (Below.refl W6.heap.size W6)
  obtain⟨⟨k0,k1,k2⟩,⟨k3,k4,k5⟩,k6,k7,k8⟩:=hs W6 (Below.refl _ _)
  clear hs hW hf hb6 H5 H4 H6 HU4 HT4 HU6 HT6 HX6 HY6 QP HX HB5 hcy hct hcn
  go_wp2_with(first
   |(go_at_call 11;go_loud((with_reducible refine(Q1.out _ BZ.out).mono ?_);rintro e U ⟨rfl,hb⟩;replace BZ:=qh (BZ.out.trans (hb.mono BZ.out.size));clear hb k0 k1 k2 k3 k4 k5 k6 k7 k8;obtain⟨⟨k0,k1,k2⟩,⟨k3,k4,k5⟩,k6,k7,k8⟩:=SHOW.out _ BZ.out))
   |(go_at_call 11;go_loud((with_reducible refine(Q2.out _ BZ.out).mono ?_);rintro e U ⟨rfl,hb⟩;replace BZ:=qh (BZ.out.trans (hb.mono BZ.out.size));clear hb k0 k1 k2 k3 k4 k5 k6 k7 k8;obtain⟨⟨k0,k1,k2⟩,⟨k3,k4,k5⟩,k6,k7,k8⟩:=SHOW.out _ BZ.out))
   |(go_at_call 11;go_loud((with_reducible refine(Q3.out _ BZ.out).mono ?_);rintro e U ⟨rfl,hb⟩;replace BZ:=qh (BZ.out.trans (hb.mono BZ.out.size));clear hb k0 k1 k2 k3 k4 k5 k6 k7 k8;obtain⟨⟨k0,k1,k2⟩,⟨k3,k4,k5⟩,k6,k7,k8⟩:=SHOW.out _ BZ.out))
   |(go_at_call 12;go_loud((with_reducible refine(Q4.out _ _ _ BZ.out).mono ?_);rintro e U ⟨rfl,hb⟩;replace BZ:=qh (BZ.out.trans (hb.mono BZ.out.size));clear hb k0 k1 k2 k3 k4 k5 k6 k7 k8;obtain⟨⟨k0,k1,k2⟩,⟨k3,k4,k5⟩,k6,k7,k8⟩:=SHOW.out _ BZ.out))
   |(go_at_call 12;go_loud((with_reducible refine(Q5.out _ _ _ BZ.out).mono ?_);rintro e U ⟨rfl,hb⟩;replace BZ:=qh (BZ.out.trans (hb.mono BZ.out.size));clear hb k0 k1 k2 k3 k4 k5 k6 k7 k8;obtain⟨⟨k0,k1,k2⟩,⟨k3,k4,k5⟩,k6,k7,k8⟩:=SHOW.out _ BZ.out))
   |(go_at_call 12;go_loud((with_reducible refine(Q6.out _ _ _ BZ.out).mono ?_);rintro e U ⟨rfl,hb⟩;replace BZ:=qh (BZ.out.trans (hb.mono BZ.out.size));clear hb k0 k1 k2 k3 k4 k5 k6 k7 k8;obtain⟨⟨k0,k1,k2⟩,⟨k3,k4,k5⟩,k6,k7,k8⟩:=SHOW.out _ BZ.out)))
  go_ret
  exact⟨rfl,HL.out.trans (BZ.out.mono HL.out.size)⟩
 ·have e1:decide (wt>200)=true:=decide_eq_true (by omega)
  have e2:(200<wt)=True:=eq_true (by omega)
  have HL:=qh H0.out.low
  clear hw hwt hlow his hcw
  go_wp2_with(first
   |(go_at_call 7;go_loud(refine QW.out.mono ?_;rintro e W1 ⟨rfl,hb⟩;have B1:=qh hb;clear hb))
   |(go_at_call 8;go_loud(refine(QK.out _ B1.out).mono ?_;rintro e W2 ⟨rfl,hb⟩;have B2:=qh (B1.out.trans (hb.mono B1.out.size));clear hb)))
  go_ret
  exact⟨rfl,HL.out.trans (B2.out.mono HL.out.size)⟩
end Go.Proofs.YtakbenifinnpfaaGreatDoor
