/- Nd3 · Wr7 · Wr8 · Wr9 · Wr10 · Wr11 · Wr12 · Wr16 · KN1 · Wl1 · Wt1 · Wt2 · Wt3 · Wt4 · Wt5 · Wt6 -/
import Derived.Test.YtakbenifinnpfaaGreatDoorZZ1
import Derived.Lib.Hide
import Derived.Laws.Externs
import Derived.Lib.EndianBits
import Derived.Test.YtakbenifinnpfaaGreatDoorZZ5
import Derived.Deep.RegionHeld3
import Derived.Lib.MinMax
import Derived.Test.YtakbenifinnpfaaGreatDoorProg
import Derived.Deep.QuietTactic
import Derived.BigQuiet
import Derived.Lib.QuietBelow
import Derived.OwnWalk
import Derived.Lib.ItoaNum
import Derived.RangeFuncNested
import Derived.RangeFuncBound
import Derived.RangeFuncCalls
import Derived.RangeFuncLeaves
import Derived.Shelf.Abstract
import Derived.Shelf.RegionOpen
import Derived.OwnWalkIn
import Derived.TacticsInMore
import Derived.LoopNIn
import Derived.LoopIn
import Derived.RegionIn
import Derived.Lib.AppendIntMem
import Derived.Lib.ItoaLen
import Derived.Lib.QuoteLoop
import Derived.RegionTactic
import Derived.RegionCalls
import Derived.IntWalk
import Derived.Deep.Cut
set_option linter.unusedSimpArgs false
set_option linter.unusedVariables false
namespace Go.Sub
open Go.RowKit
def qa9(w:World)(b:Nat):Prop:=∃cs T,w.heap[b]? =some (.cells cs T (0,0))
theorem qa9.free{w:World}{b:Nat}(h:qa9 w b)(o:Nat):w.frozen? ⟨b,o,none⟩=false:=by
 obtain⟨cs,T,h⟩:=h;exact frozen_of_row w b o _ _ h
theorem qa9.lt{w:World}{b:Nat}(h:qa9 w b):b<w.heap.size:=by
 obtain⟨cs,T,h⟩:=h;exact(Array.getElem?_eq_some_iff.1 h).1
theorem qa9.keep{w w':World}{b:Nat}(h:qa9 w b)(e:b<w.heap.size→w'.heap[b]? =w.heap[b]?):qa9 w' b:=by
 have hl:=h.lt
 obtain⟨cs,T,h⟩:=h;exact⟨cs,T,(e hl).trans h⟩
inductive qJ(w:World):(Nat→Prop)→Value→List qb→Prop
 |mk (S:Nat→Prop) (p:Option Addr) (cap:Nat) (l:List qb) (b o:Nat) (us:Nat→Value) (T:Nat→Nat→Prop)
   (hp:0<l.length→(p=some ⟨b,o,none⟩∧S b)∧qa9 w b) (hlen:l.length≤4611686018427387904)
   (hT:∀i c,i<l.length→T i c→S c∧c≠b) (hd:∀i j c,i<l.length→j<l.length→i≠j→T i c→¬T j c)
   (hc:∀i x,l[i]? =some x→qa3 w b (o+i*3) x.kind x.text (us i))
   (hk:∀i x,l[i]? =some x→qJ w (T i) (us i) x.kids):qJ w S (.slice p l.length cap) l
theorem qJ.at{w:World}{S:Nat→Prop}{v:Value}{l:List qb}(h:qJ w S v l):qp w S v l:=by
 induction h with
 |mk S p cap l b o us T hp hlen hT hd hc hk ih=>
  refine .mk p cap l b o us (fun h=>(hp h).1) hlen hc fun i x hx=>?_
  have hi:i<l.length:=(List.getElem?_eq_some_iff.1 hx).1
  exact(ih i x hx).mono fun c h=>(hT i c hi h).1
theorem qJ.keep{w w':World}{S S':Nat→Prop}{v:Value}{l:List qb}(h:qJ w S v l)(hc:∀b o c,S b→w.cell? ⟨b,o,none⟩=some c→w'.cell? ⟨b,o,none⟩=some c)(hf:∀b,S b→qa9 w b→qa9 w' b)(hS:∀b,S b→S' b):qJ w' S' v l:=by
 induction h generalizing S' with
 |mk S p cap l b o us T hp hlen hT hd hcl hk ih=>
  refine .mk S' p cap l b o us T (fun h=>⟨⟨(hp h).1.1,hS _ (hp h).1.2⟩,hf _ (hp h).1.2 (hp h).2⟩) hlen (fun i c hi ht=>⟨hS _ (hT i c hi ht).1,(hT i c hi ht).2⟩) hd (fun i x hx=>?_) (fun i x hx=>?_)
  ·have h0:0<l.length:=by have:=(List.getElem?_eq_some_iff.1 hx).1;omega
   exact(hcl i x hx).keep fun o c h=>hc b o c (hp h0).1.2 h
  ·have hi:i<l.length:=(List.getElem?_eq_some_iff.1 hx).1
   exact ih i x hx (fun b o c hb hcb=>hc b o c (hT i b hi hb).1 hcb) (fun b hb=>hf b (hT i b hi hb).1) fun _ h=>h
theorem qJ.mono{w:World}{S S':Nat→Prop}{v:Value}{l:List qb}(h:qJ w S v l)(hS:∀b,S b→S' b):qJ w S' v l:=h.keep (fun _ _ _ _ h=>h) (fun _ _ h=>h) hS
theorem qJ.stays{w w':World}{S:Nat→Prop}{v:Value}{l:List qb}(h:qJ w S v l)(hb:Below w.heap.size w w'):qJ w' S v l:=
 h.keep (fun b o _ _ hc=>(hb.cell (p:=⟨b,o,none⟩) (World.block_lt_of_cell? _ _ hc)).trans hc) (fun b _ h=>h.keep fun hl=>hb.block b hl) fun _ h=>h
theorem qJ.keeps{w w':World}{S O:Nat→Prop}{v:Value}{l:List qb}(h:qJ w S v l)(hk:qe O w w')(hO:∀b,S b→¬O b):qJ w' S v l:=
 h.keep (fun _ _ _ hs hc=>hk.cell hc (hO _ hs)) (fun b hs h=>h.keep fun hl=>hk.block b hl (hO b hs)) fun _ h=>h
theorem qJ.nil(w:World)(S:Nat→Prop):qJ w S (.slice none 0 0) []:=
 .mk S none 0 [] 0 0 (fun _=>.slice none 0 0) (fun _ _=>False) (fun h=>absurd h (by simp)) (by simp) (fun i c h=>by simp at h) (fun i j c h=>by simp at h) (fun i x h=>by simp at h) (fun i x h=>by simp at h)
theorem qJ.of_own{w:World}{base:Nat}{e:TypeId}{S:Nat→Prop}{v:Value}{l:List qb}{us:List Value}{T:Nat→Nat→Prop}(h:w.ownsRow base e 3 v l.length (qU l us))(hl:us.length=l.length)(hn:l.length≤4611686018427387904)
  (hS:∀g,some g=v.ownBlock→S g)(hT:∀i c,i<l.length→T i c→S c∧some c≠v.ownBlock)(hd:∀i j c,i<l.length→j<l.length→i≠j→T i c→¬T j c)
  (hk:∀(i:Nat) x u,l[i]? =some x→us[i]? =some u→qJ w (T i) u x.kids):qJ w S v l:=by
 have hget:∀i x,l[i]? =some x→us[i]? =some (us.getD i (.slice none 0 0)):=fun i x hx=>by
  have hi:i<us.length:=by have:=(List.getElem?_eq_some_iff.1 hx).1;omega
  rw[List.getD_eq_getElem?_getD,List.getElem?_eq_getElem hi];rfl
 rcases h.2 with⟨rfl,h0⟩|⟨g,cap,cur,rfl,hb,hg,hnc,hcm,hcs,htake⟩
 ·have:l=[]:=List.eq_nil_of_length_eq_zero h0
  subst this
  exact .nil w S
 ·have cell:∀j c,(qU l us)[j]? =some c→w.cell? ⟨g,j,none⟩=some c:=fun j c hc=>by
   have hx:=(World.ownsRow.cells (g:=g) h rfl) j c hc
   rwa [qdb] at hx
  refine .mk S _ cap l g 0 (fun i=>us.getD i (.slice none 0 0)) T (fun _=>⟨⟨rfl,hS g rfl⟩,⟨_,_,hg⟩⟩) hn (fun i c hi ht=>⟨(hT i c hi ht).1,fun e=>(hT i c hi ht).2 (by rw[e];rfl)⟩) hd (fun i x hx=>?_) (fun i x hx=>hk i x _ hx (hget i x hx))
  obtain⟨c0,c1,c2⟩:=qfl hx (hget i x hx)
  rw[Nat.zero_add]
  exact⟨cell _ _ c0,cell _ _ c1,cell _ _ c2⟩
def qif(w:World)(Q:Nat→Prop)(b o:Nat)(x:qb):Prop:=∃u,qa3 w b o x.kind x.text u∧qp w Q u x.kids
def Hole(w:World)(Q:Nat→Prop)(b o:Nat)(T:Nat→Prop)(root:World→qb→Prop)(f:qb→qb):Prop:=
 ∀w' x,(∀c q v,¬(c=b∧o≤q∧q<o+3)→¬T c→w.cell? ⟨c,q,none⟩=some v→w'.cell? ⟨c,q,none⟩=some v)→qif w' Q b o x→root w' (f x)
theorem Hole.kid{w:World}{Q:Nat→Prop}{b o:Nat}{S T:Nat→Prop}{root:World→qb→Prop}{f:qb→qb}{m:qb}{p:Option Addr}{n cap:Nat}(h:Hole w Q b o T root f)(hQ:∀c,T c→Q c)(hT:∀c,S c→T c)(hb:¬T b)(hm:qa3 w b o m.kind m.text (.slice p n cap))(hk:qJ w S (.slice p n cap) m.kids)
  {i:Nat}{k:qb}(hi:m.kids[i]? =some k):
  ∃g og u S',p=some ⟨g,og,none⟩∧qa3 w g (og+i*3) k.kind k.text u∧qJ w S' u k.kids∧¬S' g∧T g∧qa9 w g∧(∀c,S' c→S c)∧Hole w Q g (og+i*3) S' root (fun y=>f (.mk m.kind m.text (m.kids.set i y))):=by
 generalize hv:Value.slice p n cap=v at hk hm
 cases hk with
 |mk S p' cap' l g og us Tf hp hlen hTf hd hcl hkd=>
  cases hv
  have hil:i<m.kids.length:=(List.getElem?_eq_some_iff.1 hi).1
  have hpl:=hp (by omega)
  have hpg:=hpl.1
  refine⟨g,og,us i,Tf i,hpg.1,hcl i k hi,hkd i k hi,fun h=>(hTf i g hil h).2 rfl,hT g hpg.2,hpl.2,fun c hc=>(hTf i c hil hc).1,?_⟩
  rintro w' x hkeep ⟨u,hxu,hxk⟩
  have hgb:g≠b:=fun e=>hb (e▸hT g hpg.2)
  refine h w' _ (fun c q v h1 h2 hc=>hkeep c q v (fun e=>h2 (e.1▸hT g hpg.2)) (fun e=>h2 (hT c (hTf i c hil e).1)) hc) ⟨.slice p m.kids.length cap,?_,?_⟩
  ·simp only[qb.kind_mk,qb.text_mk]
   exact hm.keep fun o' c hc=>hkeep b o' c (fun e=>hgb e.1.symm) (fun e=>hb (hT b (hTf i b hil e).1)) hc
  ·rw[qb.kids_mk]
   have hlenE:(m.kids.set i x).length =m.kids.length:=by simp
   have key:=qp.mk (w:=w') (S:=Q) p cap (m.kids.set i x) g og (fun j=>if j=i then u else us j) (fun _=>⟨hpg.1,hQ _ (hT _ hpg.2)⟩) (by rw[hlenE];exact hlen) ?_ ?_
   ·rwa [hlenE] at key
   ·intro j y hy
    rw[List.getElem?_set] at hy
    by_cases hji:i=j
    ·subst hji
     rw[if_pos rfl,if_pos hil] at hy
     cases hy
     rw[if_pos rfl]
     exact hxu
    ·rw[if_neg hji] at hy
     rw[if_neg (fun e=>hji e.symm)]
     obtain⟨q0,q1,q2⟩:=hcl j y hy
     have hj:j<m.kids.length:=(List.getElem?_eq_some_iff.1 hy).1
     have ng:¬Tf i g:=fun h=>(hTf i g hil h).2 rfl
     exact⟨hkeep g _ _ (by omega) ng q0,hkeep g _ _ (by omega) ng q1,hkeep g _ _ (by omega) ng q2⟩
   ·intro j y hy
    rw[List.getElem?_set] at hy
    by_cases hji:i=j
    ·subst hji
     rw[if_pos rfl,if_pos hil] at hy
     cases hy
     rw[if_pos rfl]
     exact hxk
    ·rw[if_neg hji] at hy
     rw[if_neg (fun e=>hji e.symm)]
     have hj:j<m.kids.length:=(List.getElem?_eq_some_iff.1 hy).1
     exact(hkd j y hy).at.keep (fun c q v hc hcell=>hkeep c q v (fun e=>(hTf j c hj hc).2 e.1) (hd j i c hj hil (fun e=>hji e.symm) hc) hcell) fun c hc=>hQ c (hT c (hTf j c hj hc).1)
theorem qj9(w:World)(k:Int)(t:ByteArray)(u:Value)(T:TypeId):qa3 (w.alloc (.cells #[.int .i64 k,.string t,u] T)) w.heap.size 0 k t u∧Below w.heap.size w (w.alloc (.cells #[.int .i64 k,.string t,u] T))∧(w.alloc (.cells #[.int .i64 k,.string t,u] T)).heap.size =w.heap.size+1:=by
 have h1:=World.alloc_heap_new w (.cells #[.int .i64 k,.string t,u] T)
 exact⟨⟨qa h1 rfl,qa h1 rfl,qa h1 rfl⟩,(Below.refl _ _).alloc (Nat.le_refl _) _,by simp⟩
theorem qa3.stays{w w':World}{b o:Nat}{k:Int}{t:ByteArray}{u:Value}(h:qa3 w b o k t u)(hb:Below w.heap.size w w'):qa3 w' b o k t u:=
 h.keep fun o _ hc=>(hb.cell (p:=⟨b,o,none⟩) (World.block_lt_of_cell? _ _ hc)).trans hc
theorem qas(w:World)(X o:Nat)(u:Value){O:Nat→Prop}(hO:O X):qe O w (w.setCell ⟨X,o,none⟩ u):=
 ⟨rfl,rfl,rfl,by simp,fun b _ hb=>heap_setCell_other w _ b u fun e=>hb (by rw[e];exact hO)⟩
theorem put3(w:World)(g o:Nat){k:Int}{t:ByteArray}{u:Value}(h:qa3 w g o k t u)(hl:qa9 w g)(a b c:Value):
  ∀w',((w.setCell ⟨g,o,none⟩ a).setCell ⟨g,o+1,none⟩ b).setCell ⟨g,o+2,none⟩ c=w'→
  (w'.cell? ⟨g,o,none⟩=some a∧w'.cell? ⟨g,o+1,none⟩=some b∧w'.cell? ⟨g,o+2,none⟩=some c)∧(∀d q v,¬(d=g∧o≤q∧q<o+3)→w.cell? ⟨d,q,none⟩=some v→w'.cell? ⟨d,q,none⟩=some v)∧qe (fun d=>d=g) w w'∧w'.heap.size=w.heap.size∧qa9 w' g:=by
 rintro w' rfl
 obtain⟨cs,T,hb⟩:=hl
 have e0:=heap_setCell_same w g o _ _ a hb
 have e1:=heap_setCell_same _ g (o+1) _ _ b e0
 have e2:=heap_setCell_same _ g (o+2) _ _ c e1
 have hk:qe (fun d=>d=g) w (((w.setCell ⟨g,o,none⟩ a).setCell ⟨g,o+1,none⟩ b).setCell ⟨g,o+2,none⟩ c):=(((qas w g o a (O:=fun d=>d=g) rfl).trans (qas _ g (o+1) b (O:=fun d=>d=g) rfl)).trans (qas _ g (o+2) c (O:=fun d=>d=g) rfl))
 refine⟨⟨?_,?_,?_⟩,?_,hk,by simp,⟨_,_,e2⟩⟩
 ·rw[World.cell?_setCell_other _ _ _ _ (by simp),World.cell?_setCell_other _ _ _ _ (by simp)]
  exact World.cell?_setCell_same _ _ _ h.1
 ·rw[World.cell?_setCell_other _ _ _ _ (by simp)]
  exact World.cell?_setCell_same _ _ _ (by rw[World.cell?_setCell_other _ _ _ _ (by simp)];exact h.2.1)
 ·exact World.cell?_setCell_same _ _ _ (by rw[World.cell?_setCell_other _ _ _ _ (by simp),World.cell?_setCell_other _ _ _ _ (by simp)];exact h.2.2)
 ·intro d q v hne hv
  rw[World.cell?_setCell_other _ _ _ _ (fun e=>by cases e;exact hne ⟨rfl,by omega,by omega⟩),World.cell?_setCell_other _ _ _ _ (fun e=>by cases e;exact hne ⟨rfl,by omega,by omega⟩),World.cell?_setCell_other _ _ _ _ (fun e=>by cases e;exact hne ⟨rfl,by omega,by omega⟩)]
  exact hv
theorem qiC{a b:ByteArray}(h:a.toList=b.toList):a=b:=by
 rw[ByteArray.toList_eq,ByteArray.toList_eq] at h
 exact ByteArray.ext (Array.toList_inj.1 h)
theorem qgq{n m:qb}(h:n≠m):eqN n m=false:=by
 cases he:eqN n m
 ·rfl
 ·exact absurd ((qcz n m).1 he) h
theorem qiu{α:Type}{l l':List α}{j:Nat}{x y:α}(h:l.take j=l'.take j)(hx:l[j]? =some x)(hy:l'[j]? =some y)(e:x=y):l.take (j+1)=l'.take (j+1):=by
 subst e
 rw[List.take_add_one,List.take_add_one,h,hx,hy]
theorem qcA{w:World}{base:Nat}{e:TypeId}{size:Nat}{v:Value}{n:Nat}{xs:List Value}(h:w.ownsRow base e size v n xs):∃p c,v=.slice p n c∧n≤c:=by
 rcases h.2 with⟨rfl,rfl⟩|⟨g,cap,cur,rfl,_,_,hc,_⟩
 ·exact⟨none,0,rfl,Nat.le_refl _⟩
 ·exact⟨_,cap,rfl,hc⟩
theorem qhe(w:World)(cs:List Value)(T:TypeId):∀(j:Nat) u,cs[j]? =some u→(w.alloc (.cells cs.toArray T)).cell? ((⟨w.heap.size,0,none⟩:Addr).add j)=some u:=by
 intro j u hu
 have hb:=World.alloc_heap_new w (.cells cs.toArray T)
 rw[qdb]
 exact qa hb (by rw[List.getElem?_toArray];exact hu)
structure qcL(W1:World)(N:Nat)(e:TypeId)(l:List qb)(j:Nat)(v:Value)(us:List Value)(T:Nat→Nat→Prop)(wr:World):Prop where
 own:wr.ownsRow N e 3 v j (qU (l.take j) us)
 len:us.length=j
 bel:Below W1.heap.size W1 wr
 low:∀i c,i<j→T i c→N≤c∧c<wr.heap.size∧some c≠v.ownBlock
 dis:∀i k c,i<j→k<j→i≠k→T i c→¬T k c
 kids:∀(i:Nat) x u,l[i]? =some x→us[i]? =some u→qJ wr (T i) u x.kids
theorem qcL.start(W1:World)(N:Nat)(e:TypeId)(l:List qb):qcL W1 N e l 0 (.slice none 0 0) [] (fun _ _=>False) W1:=
 ⟨World.ownsRow_nil _ _ _ _,rfl,Below.refl _ _,fun i c h=>by omega,fun i k c h=>by omega,fun i x u _ h=>by simp at h⟩
theorem qcL.next{W1 wr w1 w2 w3:World}{N:Nat}{e:TypeId}{l:List qb}{j:Nat}{v v' u:Value}{us:List Value}{T:Nat→Nat→Prop}{x:qb}(h:qcL W1 N e l j v us T wr)(hN:W1.heap.size≤N)(hN2:N≤wr.heap.size)(hx:l[j]? =some x)
  (hb1:Below wr.heap.size wr w1)(hk:qJ w1 (fun c=>wr.heap.size≤c∧c<w1.heap.size) u x.kids)(hb2:Below w1.heap.size w1 w2)
  (hown:w3.ownsRow N e 3 v' (j+1) (qU (l.take j) us++[.int .i64 x.kind,.string x.text,u]))(hkeep:qe (fun b=>some b=v.ownBlock) w2 w3)(hnew:v'.ownBlock=v.ownBlock∨v'.ownBlock=some w2.heap.size):
  qcL W1 N e l (j+1) v' (us++[u]) (fun i c=>if i=j then wr.heap.size≤c∧c<w1.heap.size else T i c) w3:=by
 have hlen:=h.len
 have hj:j<l.length:=(List.getElem?_eq_some_iff.1 hx).1
 have hw:∀c,some c=v.ownBlock→N≤c∧c<wr.heap.size:=fun c hc=>h.own.lt c hc.symm
 have hs3:w2.heap.size≤w3.heap.size:=hkeep.size
 have hs2:w1.heap.size≤w2.heap.size:=hb2.size
 have hs1:wr.heap.size≤w1.heap.size:=hb1.size
 have fresh:∀c,c<w2.heap.size→some c≠v.ownBlock→some c≠v'.ownBlock:=fun c hc hn e=>by
  rcases hnew with h|h
  ·exact hn (e.trans h)
  ·rw[h] at e;cases e;omega
 refine⟨?_,by simp[hlen],?_,?_,?_,?_⟩
 ·rw[show l.take (j+1)=l.take j++[x] by rw[List.take_add_one,hx];rfl,qbJ x u _ _ (by rw[List.length_take];omega)]
  exact hown
 ·refine(h.bel.trans (hb1.mono h.bel.size)).trans ((hb2.mono (Nat.le_trans h.bel.size hs1)).trans (hkeep.below (Nat.le_trans (Nat.le_trans h.bel.size hs1) hs2) fun b hb=>?_))
  have:=(hw b hb).1;omega
 ·intro i c hi ht
  by_cases e:i=j
  ·rw[if_pos e] at ht
   refine⟨by omega,by omega,fresh c (by omega) fun e=>?_⟩
   have:=(hw c e).2;omega
  ·rw[if_neg e] at ht
   obtain⟨a,b,c'⟩:=h.low i c (by omega) ht
   exact⟨a,by omega,fresh c (by omega) c'⟩
 ·intro i k c hi hk' hne ht hT
  by_cases e:i=j
  ·rw[if_pos e] at ht
   rw[if_neg (by omega)] at hT
   have:=(h.low k c (by omega) hT).2.1;omega
  ·rw[if_neg e] at ht
   by_cases e2:k=j
   ·rw[if_pos e2] at hT
    have:=(h.low i c (by omega) ht).2.1;omega
   ·rw[if_neg e2] at hT
    exact h.dis i k c (by omega) (by omega) hne ht hT
 ·intro i y u' hy hu'
  by_cases e:i=j
  ·subst e
   rw[hx] at hy;cases hy
   rw[List.getElem?_append_right (by omega),hlen,Nat.sub_self] at hu'
   obtain rfl:u=u':=by simpa using hu'
   have:=(hk.stays hb2).keeps hkeep (fun b hb e=>by have:=(hw b e).2;omega)
   simpa using this
  ·have hi:i<us.length:=by
    have:=(List.getElem?_eq_some_iff.1 hu').1
    rw[List.length_append,List.length_singleton] at this;omega
   rw[List.getElem?_append_left hi] at hu'
   have:=(((h.kids i y u' hy hu').stays hb1).stays hb2).keeps hkeep (fun b hb=>(h.low i b (by omega) hb).2.2)
   simpa[e] using this
theorem qcL.done{W1 wr:World}{N:Nat}{e:TypeId}{l:List qb}{v:Value}{us:List Value}{T:Nat→Nat→Prop}(h:qcL W1 N e l l.length v us T wr)(hl:l.length≤4611686018427387904):qJ wr (fun c=>N≤c∧c<wr.heap.size) v l:=by
 have ho:=h.own
 rw[List.take_length] at ho
 exact qJ.of_own ho h.len hl (fun g hg=>ho.lt g hg.symm) (fun i c hi ht=>⟨⟨(h.low i c hi ht).1,(h.low i c hi ht).2.1⟩,(h.low i c hi ht).2.2⟩) h.dis h.kids
def NBox(w:World)(B:Nat)(T:TypeId)(k:Int)(t:ByteArray)(u:Value):Prop:=w.heap[B]? =some (.cells #[.int .i64 k,.string t,u] T (0,0))
theorem NBox.stays{w w':World}{B:Nat}{T:TypeId}{k:Int}{t:ByteArray}{u:Value}(h:NBox w B T k t u)(hb:Below w.heap.size w w'):NBox w' B T k t u:=
 (hb.block B (Array.getElem?_eq_some_iff.1 h).1).trans h
theorem NBox.keeps{w w':World}{O:Nat→Prop}{B:Nat}{T:TypeId}{k:Int}{t:ByteArray}{u:Value}(h:NBox w B T k t u)(hk:qe O w w')(hO:¬O B):NBox w' B T k t u:=hk.heap h hO
theorem NBox.cells{w:World}{B:Nat}{T:TypeId}{k:Int}{t:ByteArray}{u:Value}(h:NBox w B T k t u):
  w.cell? ⟨B,0,none⟩=some (.int .i64 k)∧w.cell? ⟨B,1,none⟩=some (.string t)∧w.cell? ⟨B,2,none⟩=some u:=⟨qa h rfl,qa h rfl,qa h rfl⟩
theorem NBox.free{w:World}{B:Nat}{T:TypeId}{k:Int}{t:ByteArray}{u:Value}(h:NBox w B T k t u):
  w.frozen? ⟨B,0,none⟩=false∧w.frozen? ⟨B,1,none⟩=false∧w.frozen? ⟨B,2,none⟩=false:=⟨frozen_of_row w B 0 _ _ h,frozen_of_row w B 1 _ _ h,frozen_of_row w B 2 _ _ h⟩
theorem NBox.lt{w:World}{B:Nat}{T:TypeId}{k:Int}{t:ByteArray}{u:Value}(h:NBox w B T k t u):B<w.heap.size:=(Array.getElem?_eq_some_iff.1 h).1
theorem NBox.put{w:World}{B:Nat}{T:TypeId}{k k':Int}{t t':ByteArray}{u u':Value}(h:NBox w B T k t u):
  NBox (((w.setCell ⟨B,0,none⟩ (.int .i64 k')).setCell ⟨B,1,none⟩ (.string t')).setCell ⟨B,2,none⟩ u') B T k' t' u'∧qe (fun b=>b=B) w (((w.setCell ⟨B,0,none⟩ (.int .i64 k')).setCell ⟨B,1,none⟩ (.string t')).setCell ⟨B,2,none⟩ u'):=by
 have e0:=heap_setCell_same w B 0 _ _ (.int .i64 k') h
 have e1:=heap_setCell_same _ B 1 _ _ (.string t') e0
 have e2:=heap_setCell_same _ B 2 _ _ u' e1
 have hO:(fun b=>b=B) B:=rfl
 exact⟨e2,((qas _ _ _ _ (O:=fun b=>b=B) hO).trans (qas _ _ _ _ hO)).trans (qas _ _ _ _ hO)⟩
theorem qfI(w:World)(T:TypeId)(k:Int)(t:ByteArray)(u:Value):NBox (w.alloc (.cells #[.int .i64 k,.string t,u] T)) w.heap.size T k t u:=World.alloc_heap_new w _
theorem NBox.two{w:World}{B:Nat}{T:TypeId}{k k':Int}{t t':ByteArray}{u u':Value}(h:NBox w B T k t u)(h':NBox w B T k' t' u'):k=k'∧t=t'∧u=u':=by
 unfold NBox at h h'
 rw[h] at h'
 simp only[Option.some.injEq,Obj.cells.injEq,Array.mk.injEq,List.cons.injEq,Value.int.injEq,Value.string.injEq,true_and,and_true] at h'
 exact h'
theorem qa3.zero{w:World}{b:Nat}{k:Int}{t:ByteArray}{u:Value}(h:qa3 w b 0 k t u):w.cell? ⟨b,0,none⟩=some (.int .i64 k)∧w.cell? ⟨b,1,none⟩=some (.string t)∧w.cell? ⟨b,2,none⟩=some u:=h
theorem qJ.loose{w:World}{S:Nat→Prop}{v:Value}{l:List qb}(h:qJ w S v l):qp w (fun c=>S c∧qa9 w c) v l:=by
 induction h with
 |mk S p cap l b o us T hp hlen hT hd hc hk ih=>
  refine .mk p cap l b o us (fun h=>⟨(hp h).1.1,(hp h).1.2,(hp h).2⟩) hlen hc fun i x hx=>?_
  have hi:i<l.length:=(List.getElem?_eq_some_iff.1 hx).1
  exact(ih i x hx).mono fun c h=>⟨(hT i c hi h.1).1,h.2⟩
theorem qa9.keeps{w w':World}{O:Nat→Prop}{b:Nat}(h:qa9 w b)(hk:qe O w w')(hO:¬O b):qa9 w' b:=h.keep fun hl=>hk.block b hl hO
theorem qa9.stays{w w':World}{b:Nat}(h:qa9 w b)(hb:Below w.heap.size w w'):qa9 w' b:=h.keep fun hl=>hb.block b hl
end Go.Sub
namespace Go.Proofs.YtakbenifinnpfaaGreatDoor
open Go.RowKit Go.Sub
attribute [local go_sem] Instr.field asAgg
theorem qhg(w:World):(zeroValue 90).run Tryz.prog w=.ok .nilFunc w:=by kernel_rfl
theorem qkn(w:World):Calls Tryz.prog 59 #[] w fun e w'=>∃r a b c,e=.returned (.map (some r))∧qaT w r w' (qcO a b c) [(a,0,9),(b,0,1),(c,-1,1)]:=
 (qiY w).mono fun e w' ⟨a,b,c,he,h⟩=>⟨_,a,b,c,he,h⟩
set_option maxRecDepth 100000 in
theorem qmh(w:World):(Go.binOp .neq 90 .nilFunc .nilFunc).run Tryz.prog w=.ok (.bool false) w:=by kernel_rfl
set_option maxRecDepth 100000 in
theorem qjj(w:World)(g:Nat)(a b:Array Value):(Go.binOp .neq 90 (.func (.func g) a b) .nilFunc).run Tryz.prog w=.ok (.bool true) w:=by rfl
set_option maxRecDepth 100000 in
theorem neq_fn(w:World):(Go.binOp .neq 37 .nilFunc .nilFunc).run Tryz.prog w=.ok (.bool false) w:=by kernel_rfl
set_option maxRecDepth 100000 in
theorem qlq(w:World)(g:Nat)(a b:Array Value):(Go.binOp .neq 37 (.func (.func g) a b) .nilFunc).run Tryz.prog w=.ok (.bool true) w:=by rfl
theorem Fr.two2{R:Nat→Prop}{w W:World}{bs:List Bx}{rs:List Rw}{ks:List Fact}{a b:Bx}(h:Fr R w W (a::b::bs) rs ks):Fr R w W [a,b] rs ks:=Fr.drop (bs:=[a,b]) h
structure qhM(w wr:World)(k:Int)(t:ByteArray)(u:Value)(pv:Option Addr)(cv:Nat)(m:List qb)(us:List Value)(ks:List Fact):Prop where
 fr:Fr (fun _=>False) w wr [⟨w.heap.size,24,[.int .i64 k,.string t,u]⟩,⟨w.heap.size+1,24,[.int .i64 0,.string ⟨#[]⟩,.slice none 0 0]⟩] [rowN (.slice pv m.length cv) m us] ks
 kn:KN m us ks
set_option maxRecDepth 100000 in
set_option maxHeartbeats 8000000 in
theorem qjO{F:Nat}(f:Int)(x:qb)(hx:x.kids.length≤1000000000)(ih:∀m y,y∈x.kids→Puts m→qaW F m y):qaW (F+1) (.whole f) x:=by
 obtain⟨k,t,l⟩:=x
 intro u w S hu hT
 simp only[qb.kind_mk,qb.text_mk,qb.kids_mk] at*
 obtain⟨pu,cu,rfl,lu⟩:=hu.shape
 have H0:=qh (qbr w (.int .i64 k) (.string t) (.slice pu l.length cu))
 have HU:=qh hu
 have HT:=qh hT
 have IH:=qh ih
 clear hu hT ih
 show Calls Tryz.prog 40 #[.agg #[.int .i64 k,.string t,.slice pu l.length cu],.int .i64 f] w _
 go_enter Tryz.func40,Tryz.ntmps40
 go_upto_region 1 with(fail)
 obtain⟨W1,hW,h1⟩:=qd H0.out
 rewrite[←hW]
 clear hW H0
 have H1:=qh h1
 obtain⟨⟨c0,c1,c2⟩,d0,d1,d2⟩:=h1.c3 0 rfl
 have show1:∀U,Below W1.heap.size W1 U→U.cell? ⟨w.heap.size,0,none⟩=some (.int .i64 k):=fun U hU=>((h1.stays hU).c3 0 rfl).1.1
 have SHOW:=qh show1
 have hb0:Below W1.heap.size W1 W1.drew:=(Below.refl _ _).drew
 clear show1 h1
 go_region_held3 (fun w'=>w'.cell? ⟨w.heap.size,0,none⟩=some (.int .i64 k))
  (with_reducible first|exact SHOW.out _ hb0|assumption|(refine SHOW.out _ ?_;assumption))
  (first|(go_at_call 59;(with_reducible refine(qkn _).mono ?_);rintro _ U ⟨vr,va,vb,vc,rfl,hr⟩;have HR:=qh hr;have bb:Below W1.heap.size W1 U:=Below.trans (by with_reducible assumption) (hr.low.mono (Below.size (show Below W1.heap.size W1 _ by with_reducible assumption)));have hlk:=qfA qfj qgD (qhg U) hr.map k false;have hlk2:=qfA (w:=U.drew) qfj qgD (qhg U.drew) hr.map k false;simp only[Bool.false_eq_true,if_false] at hlk hlk2;clear hr))
 obtain⟨G,hG,hask⟩:=ask_ok HR.out k t pu l.length cu f lu
 have HASK:=qh hask
 have H2:=qh (H1.out.call bb G (G.mono hG fun c hc=>hc))
 clear hG hask
 generalize (qa8 (qcO va vb vc) k).getD Value.nilFunc=vk at HASK⊢
 clear hlk hlk2 HR H1 SHOW hb0 c0 c1 c2 d0 d1 d2
 clear bb
 obtain⟨⟨c0,c1,c2⟩,d0,d1,d2⟩:=H2.out.c3 0 rfl
 go_wp2
 have H3:=qh (H2.out.rowNil 24 3)
 clear H2
 go_loopw [6,18] (fun v i wr=>∃(j:Nat) (m:List qb) (us:List Value) (pv:Option Addr) (cv:Nat) (ks:List Fact),(j≤l.length∧i=.int .i64 (j:Int)∧v=.slice pv m.length cv)∧Hid (qhM w wr k t (.slice pu l.length cu) pv cv m us ks)∧Hid (m=mapI (fun i y=>qC F (kidM k t l.length i f) y) 0 (l.take j))∧Hid (G∈ks)) (fun _ i _=>l.length- (intOf i).toNat)
 case atStart=>exact⟨0,[],[],none,0,_,⟨Nat.zero_le _,rfl,rfl⟩,qh ⟨H3.out,KN.nil _⟩,qh rfl,qh List.mem_cons_self⟩
 case round=>
  clear H3 c0 c1 c2 d0 d1 d2
  obtain⟨j,m,us,pv,cv,ks,⟨hj,rfl,rfl⟩,HH,HM,HG⟩:=hrel
  have H4:=qh HH.out.fr
  have KN4:=qh HH.out.kn
  obtain⟨⟨c0,c1,c2⟩,d0,d1,d2⟩:=H4.out.c3 0 rfl
  by_cases hlt:j<l.length
  ·have hxj:=List.getElem?_eq_getElem hlt
   obtain⟨b,o,ux,rfl,-,a1,ax⟩:=HU.out.kid hxj
   obtain⟨px,cx,rfl,lx⟩:=ax.shape
   obtain⟨g0,g1,g2⟩:=a1.stays H4.out.low
   have HX:=qh (ax.stays H4.out.low)
   have HMEM:=qh (List.getElem_mem hlt)
   have HXJ:=qh hxj
   clear ax hxj
   generalize l[j]=y at*
   go_upto_region 7 with(fail)
   obtain⟨W5,hW,h5⟩:=qd (H4.out.lay [.int .i64 y.kind,.string y.text,.slice px y.kids.length cx] 24)
   rewrite[←hW]
   (try simp only[nn] at h5)
   have H5:=qh h5
   have HL5:Hid (Below wr.heap.size wr W5):=qh (by rw[hW];exact(Below.refl _ _).alloc (Nat.le_refl _) _)
   clear h5 hW c0 c1 c2 d0 d1 d2 g0 g1 g2 a1 H4
   obtain⟨⟨c0,c1,c2⟩,-⟩:=H5.out.c3 0 rfl
   obtain⟨⟨k0,k1,k2⟩,-⟩:=H5.out.c3 2 rfl
   have HX5:=qh (HX.out.stays HL5.out)
   have HM1:Hid (mapI (fun i y=>qC F (kidM k t l.length i f) y) 0 (l.take (j+1))=m++[qC F (kidM k t l.length j f) y]):=qh (by rw[qle _ HXJ.out,←HM.out])
   have HLM:Hid (m.length<1000000001):=qh (by rw[HM.out,qbM,List.length_take];omega)
   clear HX HXJ
   have n1:=qmh
   have n2:=qjj
   have n3:=neq_fn
   have n4:=qlq
   rcases HASK.out with⟨rfl,hk0⟩|⟨g,cap,rfl,he,hc⟩
   ·rw[hk0 j] at HM1
    have QP:=qh (fun V (hV:Below W5.heap.size W5 V)=>IH.out _ y HMEM.out (qd1 1 0) _ V S (HX5.out.stays hV) (HT.out.below (H5.out.low.trans (hV.mono H5.out.low.size))))
    generalize qC F (.put 1 0) y=z at*
    clear hk0 HASK
    go_upto_region 11 with(fail)
    go_upto_region 12 with(first
     |((go_at_call 29);go_loud(refine(QP.out _ (Below.refl _ _)).mono ?_;rintro e W6 ⟨uz,rfl,hk,hb⟩;obtain⟨pz,cz,rfl,lz⟩:=hk.shape;have H6:=qh (H5.out.call hb (ql _ _) hk);have HB6:=qh hb;clear hk hb H5 QP))
     |(at_builtin;go_loud(refine q8 (H6.out.skip _) 0 rfl KN4.out.1 z (by simp) (World.alloc_heap_new W6 _) HLM.out rfl _ _ rfl rfl rfl ?_;intro p7 c7 W7 h7;(try simp only[nn] at h7);have H7:=qh h7;clear h7)))
    go_wp2
    go_roundw
    case rel=>exact⟨j+1,m++[z],us++[.slice pz z.kids.length cz],p7,c7,_,⟨by omega,by go_num,by rw[List.length_append,List.length_singleton]⟩,qh ⟨by rw[List.length_append,List.length_singleton];exact H7.out.two2,(KN4.out.more (F:=ql (.slice pz z.kids.length cz) z.kids)).snoc (x:=z) (u:=.slice pz z.kids.length cz) List.mem_cons_self⟩,qh HM1.out.symm,qh (List.mem_cons_of_mem _ HG.out)⟩
    case measure=>simp[intOf];omega
   ·have QA:=qh (hc j)
    have EG:=qh he
    clear hc he HASK
    go_upto_region 8 with(fail)
    go_wp2
    rw[EG.out,Oper.upon_enter]
    refine(QA.out W5 _ (H5.out.get HG.out) (HT.out.below H5.out.low)).mono ?_
    rintro e W8 ⟨mo,rfl,⟨hk,hp⟩,hb⟩
    have H8:=qh (H5.out.stays hb)
    have HX8:=qh (HX5.out.stays hb)
    rw[hk] at HM1
    clear H5 HX5 QA EG c0 c1 c2 k0 k1 k2
    obtain⟨⟨c0,c1,c2⟩,-⟩:=H8.out.c3 0 rfl
    obtain⟨⟨k0,k1,k2⟩,-⟩:=H8.out.c3 2 rfl
    cases mo with
    |none=>
     dsimp only[optV,Option.getD_none] at HM1⊢
     have QP:=qh (fun V (hV:Below W8.heap.size W8 V)=>IH.out _ y HMEM.out (qd1 1 0) _ V S (HX8.out.stays hV) (HT.out.below (H8.out.low.trans (hV.mono H8.out.low.size))))
     generalize qC F (.put 1 0) y=z at*
     clear hk hp hb
     go_upto_region 11 with(fail)
     have H5:=H8
     go_upto_region 12 with(first
      |((go_at_call 29);go_loud(refine(QP.out _ (Below.refl _ _)).mono ?_;rintro e W6 ⟨uz,rfl,hk,hb⟩;obtain⟨pz,cz,rfl,lz⟩:=hk.shape;have H6:=qh (H5.out.call hb (ql _ _) hk);have HB6:=qh hb;clear hk hb H5 QP))
      |(at_builtin;go_loud(refine q8 (H6.out.skip _) 0 rfl KN4.out.1 z (by simp) (World.alloc_heap_new W6 _) HLM.out rfl _ _ rfl rfl rfl ?_;intro p7 c7 W7 h7;(try simp only[nn] at h7);have H7:=qh h7;clear h7)))
     go_wp2
     go_roundw
     case rel=>exact⟨j+1,m++[z],us++[.slice pz z.kids.length cz],p7,c7,_,⟨by omega,by go_num,by rw[List.length_append,List.length_singleton]⟩,qh ⟨by rw[List.length_append,List.length_singleton];exact H7.out.two2,(KN4.out.more (F:=ql (.slice pz z.kids.length cz) z.kids)).snoc (x:=z) (u:=.slice pz z.kids.length cz) List.mem_cons_self⟩,qh HM1.out.symm,qh (List.mem_cons_of_mem _ HG.out)⟩
     case measure=>simp[intOf];omega
    |some m0=>
     dsimp only[optV,Option.getD_some] at HM1⊢
     have hpm:=hp m0 rfl
     have QP:=qh (fun V (hV:Below W8.heap.size W8 V)=>IH.out _ y HMEM.out hpm _ V S (HX8.out.stays hV) (HT.out.below (H8.out.low.trans (hV.mono H8.out.low.size))))
     obtain⟨hv,ha,he⟩:=hpm
     rw[hv]
     rw[ha] at QP
     have EG:=qh he
     clear hk hp hb hv ha he
     generalize qC F m0 y=z at*
     generalize fnM m0=gm at*
     generalize bdM m0=bm at*
     simp only[Array.append_singleton] at QP
     go_upto_region 11 with(fail)
     have H5:=H8
     go_wp2
     rw[EG.out,Oper.upon_enter]
     refine(QP.out _ (Below.refl _ _)).mono ?_
     rintro e W6 ⟨uz,rfl,hk,hb⟩
     obtain⟨pz,cz,rfl,lz⟩:=hk.shape
     have H6:=qh (H5.out.call hb (ql _ _) hk)
     clear hk hb H5 QP
     go_upto_region 12 with(at_builtin;go_loud(refine q8 (H6.out.skip _) 0 rfl KN4.out.1 z (by simp) (World.alloc_heap_new W6 _) HLM.out rfl _ _ rfl rfl rfl ?_;intro p7 c7 W7 h7;(try simp only[nn] at h7);have H7:=qh h7;clear h7))
     go_wp2
     go_roundw
     case rel=>exact⟨j+1,m++[z],us++[.slice pz z.kids.length cz],p7,c7,_,⟨by omega,by go_num,by rw[List.length_append,List.length_singleton]⟩,qh ⟨by rw[List.length_append,List.length_singleton];exact H7.out.two2,(KN4.out.more (F:=ql (.slice pz z.kids.length cz) z.kids)).snoc (x:=z) (u:=.slice pz z.kids.length cz) List.mem_cons_self⟩,qh HM1.out.symm,qh (List.mem_cons_of_mem _ HG.out)⟩
     case measure=>simp[intOf];omega
  ·obtain rfl:j=l.length:=by omega
   have HM1:Hid (mapI (fun i y=>qC F (kidM k t l.length i f) y) 0 l=m):=qh (by have:=HM.out;rw[List.take_length] at this;exact this.symm)
   obtain⟨⟨r0,r1,r2⟩,e0,e1,e2⟩:=H4.out.c3 1 rfl
   have HLM:Hid (m.length≤4611686018427387904):=qh (by rw[HM.out,qbM,List.length_take];omega)
   have eM:qC (F+1) (.whole f) (.mk k t l)=.mk k t m:=by rw[←HM1.out];rfl
   have EM:=qh eM
   clear eM
   go_wp2
   obtain⟨Wf,hW,hf⟩:=qd (Fr.set3 (x:=.int .i64 k) (y:=.string t) (z:=.slice pv m.length cv) ((H4.out.give1 KN4.out HLM.out).set 0 2 rfl (.slice pv m.length cv)) 1 rfl)
   rewrite[←hW]
   (try simp only[nn] at hf)
   clear hW
   obtain⟨⟨s0,s1,s2⟩,-⟩:=hf.c3 1 rfl
   have hres:NRes w (qC (F+1) (.whole f) (.mk k t l)) (.returned (.agg #[.int .i64 k,.string t,.slice pv m.length cv])) Wf:=by rw[EM.out];exact hf.toldN (x:=.mk k t m)
   have HF:=qh hres
   clear hf hres
   exact bodyPost_ret (by simp[results,Tryz.results40,go_sem,s0,s1,s2]) rfl HF.out
end Go.Proofs.YtakbenifinnpfaaGreatDoor
namespace Go.Proofs.YtakbenifinnpfaaGreatDoor
open Go.RowKit Go.Sub
attribute [local go_sem] Instr.field asAgg
set_option maxRecDepth 100000 in
set_option maxHeartbeats 2000000 in
theorem qe5{F:Nat}(x:qb)(ih:qaW F (.whole 0) x):∀(u:Value) (w:World) (S:Nat→Prop),qp w S u x.kids→TabX w→Calls Tryz.prog 39 #[.agg #[.int .i64 x.kind,.string x.text,u]] w (NRes w (qbu (qC F (.whole 0) x))):=by
 obtain⟨k,t,l⟩:=x
 intro u w S hu hT
 simp only[qb.kind_mk,qb.text_mk,qb.kids_mk] at*
 obtain⟨pu,cu,rfl,lu⟩:=hu.shape
 have H0:=qh (qbr w (.int .i64 k) (.string t) (.slice pu l.length cu))
 have HU:=qh hu
 have HT:=qh hT
 clear hu hT
 have Q:=qh (fun V (hV:Below w.heap.size w V)=>ih (.slice pu l.length cu) V S (HU.out.stays hV) (HT.out.below hV))
 clear ih
 generalize qC F (.whole 0) (.mk k t l)=z at*
 obtain⟨⟨c0,c1,c2⟩,-⟩:=H0.out.c3 0 rfl
 go_enter Tryz.func39,Tryz.ntmps39
 go_upto_region 1 with(fail)
 go_wp2_with(go_at_call 40;go_loud(refine(Q.out _ H0.out.low).mono ?_;rintro e W1 ⟨u,rfl,hk,hb⟩;obtain⟨pz,cz,rfl,lz⟩:=hk.shape;have H1:=qh (H0.out.call hb (ql _ _) hk);obtain⟨⟨r0,r1,r2⟩,e0,e1,e2⟩:=H1.out.c3 1 rfl;have ek:=(H1.out.skip (.cells #[.int .i64 z.kind,.string z.text,.slice pz z.kids.length cz] 24)).c3 1 rfl;have ef:=H1.out.far 1 rfl;clear hk hb))
 obtain⟨Wf,hW,hf⟩:=qd (Fr.set3 (x:=.int .i64 12) (y:=.string ⟨#[]⟩) (z:=(.slice (some ⟨W1.heap.size,0,none⟩) 1 1)) (H1.out.lit1 z List.mem_cons_self) 1 rfl)
 rewrite[←hW]
 (try simp only[nn] at hf)
 clear hW
 obtain⟨⟨s0,s1,s2⟩,-⟩:=hf.c3 1 rfl
 have hres:NRes w (qbu z) (.returned (.agg #[.int .i64 12,.string ⟨#[]⟩,(.slice (some ⟨W1.heap.size,0,none⟩) 1 1)])) Wf:=hf.toldN (x:=(qbu z))
 have HF:=qh hres
 clear hf hres
 (try go_wp2)
 exact bodyPost_ret (v:=.agg #[.int .i64 12,.string ⟨#[]⟩,(.slice (some ⟨W1.heap.size,0,none⟩) 1 1)]) (by simp[results,Tryz.results39,go_sem,s0,s1,s2]) rfl (id HF.out)
set_option maxRecDepth 100000 in
set_option maxHeartbeats 2000000 in
theorem qm8{F:Nat}(a f:Int)(x:qb)(i0:qaW F (.whole 0) x)(i1:qaW F (.whole f) x):qaW (F+1) (.put a f) x:=by
 have iw:=qe5 x i0
 obtain⟨k,t,l⟩:=x
 intro u w S hu hT
 simp only[qb.kind_mk,qb.text_mk,qb.kids_mk] at*
 obtain⟨pu,cu,rfl,lu⟩:=hu.shape
 have H0:=qh (qbr w (.int .i64 k) (.string t) (.slice pu l.length cu))
 have HU:=qh hu
 have HT:=qh hT
 clear hu hT
 clear H0
 have H0:=qh ((Fr.new0 w).lay3 [.int .i64 a,.int .i64 f] 51 [.int .i64 k,.string t,.slice pu l.length cu] 24 [.int .i64 0,.string ⟨#[]⟩,.slice none 0 0] 24)
 have QN:=qh (fun V (hV:Below w.heap.size w V)=>qdR (.mk k t l) (.slice pu l.length cu) a f V (HT.out.below hV))
 show Calls Tryz.prog 29 #[.agg #[.int .i64 a,.int .i64 f],.agg #[.int .i64 k,.string t,.slice pu l.length cu]] w _
 have eM:qC (F+1) (.put a f) (.mk k t l)=if qc4 (.mk k t l) a f then qbu (qC F (.whole 0) (.mk k t l)) else qC F (.whole f) (.mk k t l):=rfl
 obtain⟨c0,c1⟩:=(H0.out.c2 0 rfl).1
 obtain⟨⟨k0,k1,k2⟩,-⟩:=H0.out.c3 1 rfl
 by_cases hn:qc4 (.mk k t l) a f=true
 ·rw[if_pos hn] at eM
  rw[hn] at QN
  have Q:=qh (fun V (hV:Below w.heap.size w V)=>iw (.slice pu l.length cu) V S (HU.out.stays hV) (HT.out.below hV))
  have EM:=qh eM
  clear eM hn i0 i1 iw
  generalize qbu (qC F (.whole 0) (.mk k t l))=z at*
  go_enter Tryz.func29,Tryz.ntmps29
  go_wp2_with(first
   |(go_at_call 21;go_loud(refine(QN.out _ H0.out.low).mono ?_;rintro e W1 ⟨rfl,hb⟩;have H1:=qh (H0.out.stays hb);obtain⟨c0,c1⟩:=(H1.out.c2 0 rfl).1;obtain⟨⟨k0,k1,k2⟩,-⟩:=H1.out.c3 1 rfl;clear hb))
   |(go_at_call 39;go_loud(refine(Q.out _ H1.out.low).mono ?_;rintro e W2 ⟨u,rfl,hk,hb⟩;obtain⟨pz,cz,rfl,lz⟩:=hk.shape;have H2:=qh (H1.out.call hb (ql _ _) hk);obtain⟨⟨r0,r1,r2⟩,e0,e1,e2⟩:=H2.out.c3 2 rfl;have ef:=H2.out.far 2 rfl;clear hk hb)))
  obtain⟨Wf,hW,hf⟩:=qd (Fr.set3 (x:=.int .i64 z.kind) (y:=.string z.text) (z:=(.slice pz z.kids.length cz)) H2.out 2 rfl)
  rewrite[←hW]
  (try simp only[nn] at hf)
  clear hW
  obtain⟨⟨s0,s1,s2⟩,-⟩:=hf.c3 2 rfl
  have hres:NRes w z (.returned (.agg #[.int .i64 z.kind,.string z.text,(.slice pz z.kids.length cz)])) Wf:=hf.toldN (x:=z)
  have HF:=qh hres
  clear hf hres
  (try go_wp2)
  exact bodyPost_ret (v:=.agg #[.int .i64 z.kind,.string z.text,(.slice pz z.kids.length cz)]) (by simp[results,Tryz.results29,go_sem,s0,s1,s2]) rfl ((fun h=>by rw[EM.out];exact h) HF.out)
 ·have hn':qc4 (.mk k t l) a f=false:=by simpa using hn
  rw[if_neg hn] at eM
  rw[hn'] at QN
  have Q:=qh (fun V (hV:Below w.heap.size w V)=>i1 (.slice pu l.length cu) V S (HU.out.stays hV) (HT.out.below hV))
  have EM:=qh eM
  clear eM hn hn' i0 i1 iw
  generalize qC F (.whole f) (.mk k t l)=z at*
  go_enter Tryz.func29,Tryz.ntmps29
  go_wp2_with(first
   |(go_at_call 21;go_loud(refine(QN.out _ H0.out.low).mono ?_;rintro e W1 ⟨rfl,hb⟩;have H1:=qh (H0.out.stays hb);obtain⟨c0,c1⟩:=(H1.out.c2 0 rfl).1;obtain⟨⟨k0,k1,k2⟩,-⟩:=H1.out.c3 1 rfl;clear hb))
   |(go_at_call 40;go_loud(refine(Q.out _ H1.out.low).mono ?_;rintro e W2 ⟨u,rfl,hk,hb⟩;obtain⟨pz,cz,rfl,lz⟩:=hk.shape;have H2:=qh (H1.out.call hb (ql _ _) hk);obtain⟨⟨r0,r1,r2⟩,e0,e1,e2⟩:=H2.out.c3 2 rfl;have ef:=H2.out.far 2 rfl;clear hk hb)))
  obtain⟨Wf,hW,hf⟩:=qd (Fr.set3 (x:=.int .i64 z.kind) (y:=.string z.text) (z:=(.slice pz z.kids.length cz)) H2.out 2 rfl)
  rewrite[←hW]
  (try simp only[nn] at hf)
  clear hW
  obtain⟨⟨s0,s1,s2⟩,-⟩:=hf.c3 2 rfl
  have hres:NRes w z (.returned (.agg #[.int .i64 z.kind,.string z.text,(.slice pz z.kids.length cz)])) Wf:=hf.toldN (x:=z)
  have HF:=qh hres
  clear hf hres
  (try go_wp2)
  exact bodyPost_ret (v:=.agg #[.int .i64 z.kind,.string z.text,(.slice pz z.kids.length cz)]) (by simp[results,Tryz.results29,go_sem,s0,s1,s2]) rfl ((fun h=>by rw[EM.out];exact h) HF.out)
end Go.Proofs.YtakbenifinnpfaaGreatDoor
namespace Go.Proofs.YtakbenifinnpfaaGreatDoor
open Go.RowKit Go.Sub
attribute [local go_sem] Instr.field asAgg
def qeV:List Int:=[24,25,26,27,29,15]
theorem qmf(W:World)(T:TypeId):∀j,j<qeV.length→(W.alloc (.cells #[.int .i64 24,.int .i64 25,.int .i64 26,.int .i64 27,.int .i64 29,.int .i64 15] T)).cell? ⟨W.heap.size,0+j,none⟩=some (.int .i64 (qeV.getD j 0)):=by
 intro j hj
 refine qa (World.alloc_heap_new W _) ?_
 have:j=0∨j=1∨j=2∨j=3∨j=4∨j=5:=by simp[qeV] at hj;omega
 rcases this with rfl|rfl|rfl|rfl|rfl|rfl<;>rfl
theorem qlJ(k:Int):qbL k=(qeV.take 6).contains k:=rfl
theorem qiR(W:World)(T:TypeId)(k:Int):Calls Tryz.prog 110 #[.slice (some ⟨W.heap.size,0,none⟩) 6 6,.int .i64 k] (W.alloc (.cells #[.int .i64 24,.int .i64 25,.int .i64 26,.int .i64 27,.int .i64 29,.int .i64 15] T)) fun e w'=>e=.returned (.bool (qbL k))∧w'=W.alloc (.cells #[.int .i64 24,.int .i64 25,.int .i64 26,.int .i64 27,.int .i64 29,.int .i64 15] T):=by
 rw[qlJ]
 exact Tryz.slices_Contains_int _ 0 6 6 qeV k _ (by decide) (by decide) (qmf W T)
set_option maxRecDepth 100000 in
set_option maxHeartbeats 2000000 in
theorem qkb{F:Nat}(x:qb)(i0:qaW F (.whole 0) x):qaW (F+1) .term x:=by
 have iw:=qe5 x i0
 obtain⟨k,t,l⟩:=x
 intro u w S hu hT
 simp only[qb.kind_mk,qb.text_mk,qb.kids_mk] at*
 obtain⟨pu,cu,rfl,lu⟩:=hu.shape
 have H0:=qh (qbr w (.int .i64 k) (.string t) (.slice pu l.length cu))
 have HU:=qh hu
 have HT:=qh hT
 clear hu hT
 show Calls Tryz.prog 78 #[.agg #[.int .i64 k,.string t,.slice pu l.length cu]] w _
 have eM:qC (F+1) .term (.mk k t l)=if qbL k then qbu (qC F (.whole 0) (.mk k t l)) else qC F (.whole 0) (.mk k t l):=rfl
 have QC:=qh (fun W=>qiR W 3 k)
 by_cases hn:qbL k=true
 ·rw[hn] at QC
  rw[if_pos hn] at eM
  have Q:=qh (fun V (hV:Below w.heap.size w V)=>iw (.slice pu l.length cu) V S (HU.out.stays hV) (HT.out.below hV))
  have EM:=qh eM
  clear eM i0 iw
  generalize qbu (qC F (.whole 0) (.mk k t l))=z at*
  go_enter Tryz.func78,Tryz.ntmps78
  go_upto_region 1 with(fail)
  obtain⟨W0,hW,h0⟩:=qd H0.out
  rewrite[←hW]
  have H9:=qh h0
  clear h0 hW H0
  obtain⟨⟨k0,k1,k2⟩,-⟩:=H9.out.c3 0 rfl
  have ef:=H9.out.far 0 rfl
  have h1:=H9.out.skip (.cells #[.int .i64 24,.int .i64 25,.int .i64 26,.int .i64 27,.int .i64 29,.int .i64 15] 3)
  have ek:=h1.c3 0 rfl
  have H1:=qh h1
  have QC0:=qh (QC.out W0)
  clear h1 QC
  go_wp2_with(first
   |(go_at_call 110;go_loud((with_reducible refine QC0.out.mono ?_);rintro e W1 ⟨rfl,rfl⟩))
   |(go_at_call 39;go_loud(refine(Q.out _ H1.out.low).mono ?_;rintro e W2 ⟨u,rfl,hk,hb⟩;obtain⟨pz,cz,rfl,lz⟩:=hk.shape;have H2:=qh (H1.out.call hb (ql _ _) hk);obtain⟨⟨r0,r1,r2⟩,e0,e1,e2⟩:=H2.out.c3 1 rfl;have ef:=H2.out.far 1 rfl;clear hk hb)))
  obtain⟨Wf,hW,hf⟩:=qd (Fr.set3 (x:=.int .i64 z.kind) (y:=.string z.text) (z:=(.slice pz z.kids.length cz)) H2.out 1 rfl)
  rewrite[←hW]
  (try simp only[nn] at hf)
  clear hW
  obtain⟨⟨s0,s1,s2⟩,-⟩:=hf.c3 1 rfl
  have hres:NRes w z (.returned (.agg #[.int .i64 z.kind,.string z.text,(.slice pz z.kids.length cz)])) Wf:=hf.toldN (x:=z)
  have HF:=qh hres
  clear hf hres
  (try go_wp2)
  exact bodyPost_ret (v:=.agg #[.int .i64 z.kind,.string z.text,(.slice pz z.kids.length cz)]) (by simp[results,Tryz.results78,go_sem,s0,s1,s2]) rfl ((fun h=>by rw[EM.out];exact h) HF.out)
 ·have hn':qbL k=false:=by simpa using hn
  rw[hn'] at QC
  rw[if_neg hn] at eM
  have Q:=qh (fun V (hV:Below w.heap.size w V)=>i0 (.slice pu l.length cu) V S (HU.out.stays hV) (HT.out.below hV))
  have EM:=qh eM
  clear eM hn i0 iw
  generalize qC F (.whole 0) (.mk k t l)=z at*
  go_enter Tryz.func78,Tryz.ntmps78
  go_upto_region 1 with(fail)
  obtain⟨W0,hW,h0⟩:=qd H0.out
  rewrite[←hW]
  have H9:=qh h0
  clear h0 hW H0
  obtain⟨⟨k0,k1,k2⟩,-⟩:=H9.out.c3 0 rfl
  have ef:=H9.out.far 0 rfl
  have h1:=H9.out.skip (.cells #[.int .i64 24,.int .i64 25,.int .i64 26,.int .i64 27,.int .i64 29,.int .i64 15] 3)
  have ek:=h1.c3 0 rfl
  have H1:=qh h1
  have QC0:=qh (QC.out W0)
  clear h1 QC
  go_wp2_with(first
   |(go_at_call 110;go_loud((with_reducible refine QC0.out.mono ?_);rintro e W1 ⟨rfl,rfl⟩))
   |(go_at_call 40;go_loud(refine(Q.out _ H1.out.low).mono ?_;rintro e W2 ⟨u,rfl,hk,hb⟩;obtain⟨pz,cz,rfl,lz⟩:=hk.shape;have H2:=qh (H1.out.call hb (ql _ _) hk);obtain⟨⟨r0,r1,r2⟩,e0,e1,e2⟩:=H2.out.c3 1 rfl;have ef:=H2.out.far 1 rfl;clear hk hb)))
  obtain⟨Wf,hW,hf⟩:=qd (Fr.set3 (x:=.int .i64 z.kind) (y:=.string z.text) (z:=(.slice pz z.kids.length cz)) H2.out 1 rfl)
  rewrite[←hW]
  (try simp only[nn] at hf)
  clear hW
  obtain⟨⟨s0,s1,s2⟩,-⟩:=hf.c3 1 rfl
  have hres:NRes w z (.returned (.agg #[.int .i64 z.kind,.string z.text,(.slice pz z.kids.length cz)])) Wf:=hf.toldN (x:=z)
  have HF:=qh hres
  clear hf hres
  (try go_wp2)
  exact bodyPost_ret (v:=.agg #[.int .i64 z.kind,.string z.text,(.slice pz z.kids.length cz)]) (by simp[results,Tryz.results78,go_sem,s0,s1,s2]) rfl ((fun h=>by rw[EM.out];exact h) HF.out)
set_option maxRecDepth 100000 in
set_option maxHeartbeats 2000000 in
theorem qkm{F:Nat}(x:qb)(i1:qaW F .term x)(ih:∀y∈x.kids,qaW F .unit y):qaW (F+1) .unit x:=by
 obtain⟨k,t,l⟩:=x
 intro u w S hu hT
 simp only[qb.kind_mk,qb.text_mk,qb.kids_mk] at*
 obtain⟨pu,cu,rfl,lu⟩:=hu.shape
 have H0:=qh (qbr w (.int .i64 k) (.string t) (.slice pu l.length cu))
 have HU:=qh hu
 have HT:=qh hT
 clear hu hT
 show Calls Tryz.prog 111 #[.agg #[.int .i64 k,.string t,.slice pu l.length cu]] w _
 have eM:qC (F+1) .unit (.mk k t l)=if k=25∧l.length=1 then .mk 25 ⟨#[]⟩ (mapI (fun _ y=>qC F .unit y) 0 l) else qC F .term (.mk k t l):=rfl
 obtain⟨⟨k0,k1,k2⟩,-⟩:=H0.out.c3 0 rfl
 by_cases hn:k=25∧l.length=1
 ·rw[if_pos hn] at eM
  obtain⟨rfl,hl⟩:=hn
  match l,hl with
  |[y],_=>
   obtain⟨b,o,ux,rfl,-,a1,ax⟩:=HU.out.kid (i:=0) rfl
   obtain⟨px,cx,rfl,lx⟩:=ax.shape
   obtain⟨g0,g1,g2⟩:=a1.stays H0.out.low
   simp only[Nat.zero_mul,Nat.add_zero] at g0 g1 g2
   have Q:=qh (fun V (hV:Below w.heap.size w V)=>ih y (by simp) _ V S (ax.stays hV) (HT.out.below hV))
   have EM:=qh eM
   clear eM ih i1 a1 ax
   simp only[mapI] at EM
   simp only[List.length_cons,List.length_nil,Nat.zero_add] at*
   generalize qC F .unit y=z at*
   go_enter Tryz.func111,Tryz.ntmps111
   go_wp2_with(go_at_call 111;go_loud(refine(Q.out _ H0.out.low).mono ?_;rintro e W2 ⟨u,rfl,hk,hb⟩;obtain⟨pz,cz,rfl,lz⟩:=hk.shape;have H2:=qh (H0.out.call hb (ql _ _) hk);obtain⟨⟨r0,r1,r2⟩,e0,e1,e2⟩:=H2.out.c3 1 rfl;have ek:=(H2.out.skip (.cells #[.int .i64 z.kind,.string z.text,.slice pz z.kids.length cz] 24)).c3 1 rfl;have ef:=H2.out.far 1 rfl;clear hk hb))
   obtain⟨Wf,hW,hf⟩:=qd (Fr.set3 (x:=.int .i64 25) (y:=.string ⟨#[]⟩) (z:=(.slice (some ⟨W2.heap.size,0,none⟩) 1 1)) (H2.out.lit1 z List.mem_cons_self) 1 rfl)
   rewrite[←hW]
   (try simp only[nn] at hf)
   clear hW
   obtain⟨⟨s0,s1,s2⟩,-⟩:=hf.c3 1 rfl
   have hres:NRes w (.mk 25 ⟨#[]⟩ [z]) (.returned (.agg #[.int .i64 25,.string ⟨#[]⟩,(.slice (some ⟨W2.heap.size,0,none⟩) 1 1)])) Wf:=hf.toldN (x:=(.mk 25 ⟨#[]⟩ [z]))
   have HF:=qh hres
   clear hf hres
   (try go_wp2)
   exact bodyPost_ret (v:=.agg #[.int .i64 25,.string ⟨#[]⟩,(.slice (some ⟨W2.heap.size,0,none⟩) 1 1)]) (by simp[results,Tryz.results111,go_sem,s0,s1,s2]) rfl ((fun h=>by rw[EM.out];exact h) HF.out)
 ·rw[if_neg hn] at eM
  have Q:=qh (fun V (hV:Below w.heap.size w V)=>i1 (.slice pu l.length cu) V S (HU.out.stays hV) (HT.out.below hV))
  have EM:=qh eM
  clear eM i1 ih
  generalize qC F .term (.mk k t l)=z at*
  by_cases h1:k=25
  ·subst h1
   have h2:¬l.length=1:=fun h=>hn ⟨rfl,h⟩
   have y1:((l.length:Int)==1)=false:=beq_eq_false_iff_ne.2 (by omega)
   have y2:((l.length:Int)=1)=False:=eq_false (by omega)
   clear hn h2
   go_enter Tryz.func111,Tryz.ntmps111
   go_wp2_with(go_at_call 78;go_loud(refine(Q.out _ H0.out.low).mono ?_;rintro e W2 ⟨u,rfl,hk,hb⟩;obtain⟨pz,cz,rfl,lz⟩:=hk.shape;have H2:=qh (H0.out.call hb (ql _ _) hk);obtain⟨⟨r0,r1,r2⟩,e0,e1,e2⟩:=H2.out.c3 1 rfl;have ef:=H2.out.far 1 rfl;clear hk hb))
   obtain⟨Wf,hW,hf⟩:=qd (Fr.set3 (x:=.int .i64 z.kind) (y:=.string z.text) (z:=(.slice pz z.kids.length cz)) H2.out 1 rfl)
   rewrite[←hW]
   (try simp only[nn] at hf)
   clear hW
   obtain⟨⟨s0,s1,s2⟩,-⟩:=hf.c3 1 rfl
   have hres:NRes w z (.returned (.agg #[.int .i64 z.kind,.string z.text,(.slice pz z.kids.length cz)])) Wf:=hf.toldN (x:=z)
   have HF:=qh hres
   clear hf hres
   (try go_wp2)
   exact bodyPost_ret (v:=.agg #[.int .i64 z.kind,.string z.text,(.slice pz z.kids.length cz)]) (by simp[results,Tryz.results111,go_sem,s0,s1,s2]) rfl ((fun h=>by rw[EM.out];exact h) HF.out)
  ·have y1:(k==25)=false:=beq_eq_false_iff_ne.2 h1
   have y2:=eq_false h1
   clear hn h1
   go_enter Tryz.func111,Tryz.ntmps111
   go_wp2_with(go_at_call 78;go_loud(refine(Q.out _ H0.out.low).mono ?_;rintro e W2 ⟨u,rfl,hk,hb⟩;obtain⟨pz,cz,rfl,lz⟩:=hk.shape;have H2:=qh (H0.out.call hb (ql _ _) hk);obtain⟨⟨r0,r1,r2⟩,e0,e1,e2⟩:=H2.out.c3 1 rfl;have ef:=H2.out.far 1 rfl;clear hk hb))
   obtain⟨Wf,hW,hf⟩:=qd (Fr.set3 (x:=.int .i64 z.kind) (y:=.string z.text) (z:=(.slice pz z.kids.length cz)) H2.out 1 rfl)
   rewrite[←hW]
   (try simp only[nn] at hf)
   clear hW
   obtain⟨⟨s0,s1,s2⟩,-⟩:=hf.c3 1 rfl
   have hres:NRes w z (.returned (.agg #[.int .i64 z.kind,.string z.text,(.slice pz z.kids.length cz)])) Wf:=hf.toldN (x:=z)
   have HF:=qh hres
   clear hf hres
   (try go_wp2)
   exact bodyPost_ret (v:=.agg #[.int .i64 z.kind,.string z.text,(.slice pz z.kids.length cz)]) (by simp[results,Tryz.results111,go_sem,s0,s1,s2]) rfl ((fun h=>by rw[EM.out];exact h) HF.out)
end Go.Proofs.YtakbenifinnpfaaGreatDoor
namespace Go.Proofs.YtakbenifinnpfaaGreatDoor
open Go.RowKit Go.Sub
attribute [local go_sem] Instr.field asAgg
set_option maxRecDepth 100000 in
set_option maxHeartbeats 4000000 in
theorem qk3{F:Nat}(y1 y2:qb)(t:ByteArray)(ht:t=⟨#[124]⟩)(i1:qaW F .unit y1)(i2:qaW F .value y2):qaW (F+1) .value (.mk 24 t [y1,y2]):=by
 intro u w S hu hT
 simp only[qb.kind_mk,qb.text_mk,qb.kids_mk] at*
 obtain⟨pu,cu,rfl,lu⟩:=hu.shape
 have HT:=qh hT
 subst ht
 obtain⟨b,o,ux,rfl,-,a1,ax⟩:=hu.kid (i:=0) rfl
 obtain⟨b',o',uy,e',-,a2,ay⟩:=hu.kid (i:=1) rfl
 cases e'
 obtain⟨px,cx,rfl,lx⟩:=ax.shape
 obtain⟨py,cy,rfl,ly⟩:=ay.shape
 simp only[List.length_cons,List.length_nil,Nat.zero_add,Nat.reduceAdd] at*
 have H0:=qh (qbr w (.int .i64 24) (.string ⟨#[124]⟩) (.slice (some ⟨b,o,none⟩) 2 cu))
 show Calls Tryz.prog 81 #[.agg #[.int .i64 24,.string ⟨#[124]⟩,.slice (some ⟨b,o,none⟩) 2 cu]] w _
 have eM:qC (F+1) .value (.mk 24 ⟨#[124]⟩ [y1,y2])=.mk 24 ⟨#[124]⟩ [qC F .unit y1,qC F .value y2]:=rfl
 obtain⟨⟨k0,k1,k2⟩,-⟩:=H0.out.c3 0 rfl
 go_enter Tryz.func81,Tryz.ntmps81
 go_upto_region 2 with(fail)
 obtain⟨W1,hW,h1⟩:=qd H0.out
 rewrite[←hW]
 clear hW H0 k0 k1 k2
 have H1:=qh h1
 have hs:∀U,Below W1.heap.size W1 U→(U.cell? ⟨b,o,none⟩=some (.int .i64 y1.kind)∧U.cell? ⟨b,o+1,none⟩=some (.string y1.text)∧U.cell? ⟨b,o+2,none⟩=some (.slice px y1.kids.length cx))∧(U.cell? ⟨b,o+3,none⟩=some (.int .i64 y2.kind)∧U.cell? ⟨b,o+3+1,none⟩=some (.string y2.text)∧U.cell? ⟨b,o+3+2,none⟩=some (.slice py y2.kids.length cy))∧U.cell? ⟨w.heap.size,2,none⟩=some (.slice (some ⟨b,o,none⟩) 2 cu):=fun U hU=>by
  have hb:=h1.low.trans (hU.mono h1.low.size)
  obtain⟨g0,g1,g2⟩:=a1.stays hb
  obtain⟨g3,g4,g5⟩:=a2.stays hb
  simp only[Nat.zero_mul,Nat.one_mul,Nat.add_zero] at g0 g1 g2 g3 g4 g5
  exact⟨⟨g0,g1,g2⟩,⟨g3,g4,g5⟩,((h1.stays hU).c3 0 rfl).1.2.2⟩
 have hs2:∀U x y z,Below W1.heap.size W1 U→((((U.setCell ⟨w.heap.size+1,0,none⟩ x).setCell ⟨w.heap.size+1,1,none⟩ y).setCell ⟨w.heap.size+1,2,none⟩ z).cell? ⟨b,o,none⟩=some (.int .i64 y1.kind)∧(((U.setCell ⟨w.heap.size+1,0,none⟩ x).setCell ⟨w.heap.size+1,1,none⟩ y).setCell ⟨w.heap.size+1,2,none⟩ z).cell? ⟨b,o+1,none⟩=some (.string y1.text)∧(((U.setCell ⟨w.heap.size+1,0,none⟩ x).setCell ⟨w.heap.size+1,1,none⟩ y).setCell ⟨w.heap.size+1,2,none⟩ z).cell? ⟨b,o+2,none⟩=some (.slice px y1.kids.length cx))∧((((U.setCell ⟨w.heap.size+1,0,none⟩ x).setCell ⟨w.heap.size+1,1,none⟩ y).setCell ⟨w.heap.size+1,2,none⟩ z).cell? ⟨b,o+3,none⟩=some (.int .i64 y2.kind)∧(((U.setCell ⟨w.heap.size+1,0,none⟩ x).setCell ⟨w.heap.size+1,1,none⟩ y).setCell ⟨w.heap.size+1,2,none⟩ z).cell? ⟨b,o+3+1,none⟩=some (.string y2.text)∧(((U.setCell ⟨w.heap.size+1,0,none⟩ x).setCell ⟨w.heap.size+1,1,none⟩ y).setCell ⟨w.heap.size+1,2,none⟩ z).cell? ⟨b,o+3+2,none⟩=some (.slice py y2.kids.length cy))∧(((U.setCell ⟨w.heap.size+1,0,none⟩ x).setCell ⟨w.heap.size+1,1,none⟩ y).setCell ⟨w.heap.size+1,2,none⟩ z).cell? ⟨w.heap.size,2,none⟩=some (.slice (some ⟨b,o,none⟩) 2 cu):=fun U x y z hU=>by
  obtain⟨⟨g0,g1,g2⟩,⟨g3,g4,g5⟩,g6⟩:=hs U hU
  have k:=qX U (w.heap.size+1) x y z
  have hlt:¬b=w.heap.size+1:=by have:=a1.lt;omega
  exact⟨⟨k.cell g0 hlt,k.cell g1 hlt,k.cell g2 hlt⟩,⟨k.cell g3 hlt,k.cell g4 hlt,k.cell g5 hlt⟩,k.cell g6 (by omega)⟩
 have SHOW:=qh hs
 have SHOW2:=qh hs2
 have hb0:Below W1.heap.size W1 W1.drew:=(Below.refl _ _).drew
 have Q1:Hid (∀V,Below W1.heap.size W1 V→Calls Tryz.prog 111 #[.agg #[.int .i64 y1.kind,.string y1.text,.slice px y1.kids.length cx]] V (NRes V (qC F .unit y1))):=qh (fun V (hV:Below W1.heap.size W1 V)=>i1 _ V S (ax.stays (h1.low.trans (hV.mono h1.low.size))) (HT.out.below (h1.low.trans (hV.mono h1.low.size))))
 have Q2:Hid (∀V,Below W1.heap.size W1 V→Calls Tryz.prog 81 #[.agg #[.int .i64 y2.kind,.string y2.text,.slice py y2.kids.length cy]] V (NRes V (qC F .value y2))):=qh (fun V (hV:Below W1.heap.size W1 V)=>i2 _ V S (ay.stays (h1.low.trans (hV.mono h1.low.size))) (HT.out.below (h1.low.trans (hV.mono h1.low.size))))
 have EM:=qh eM
 clear hs hs2 h1 a1 a2 ax ay i1 i2 hT hu eM
 generalize qC F .unit y1=z1 at*
 generalize qC F .value y2=z2 at*
 obtain⟨⟨g0,g1,g2⟩,⟨g3,g4,g5⟩,g6⟩:=SHOW.out W1 (Below.refl _ _)
 go_region_held3 (fun U=>(U.cell? ⟨b,o,none⟩=some (.int .i64 y1.kind)∧U.cell? ⟨b,o+1,none⟩=some (.string y1.text)∧U.cell? ⟨b,o+2,none⟩=some (.slice px y1.kids.length cx))∧(U.cell? ⟨b,o+3,none⟩=some (.int .i64 y2.kind)∧U.cell? ⟨b,o+3+1,none⟩=some (.string y2.text)∧U.cell? ⟨b,o+3+2,none⟩=some (.slice py y2.kids.length cy))∧U.cell? ⟨w.heap.size,2,none⟩=some (.slice (some ⟨b,o,none⟩) 2 cu))
  (with_reducible first|exact SHOW.out _ hb0|assumption|(refine SHOW2.out _ _ _ _ ?_;first|assumption|exact qc (by assumption) _)|(refine SHOW.out _ ?_;first|assumption|exact qc (by assumption) _))
  (first
   |(go_at_call 111;(with_reducible refine(Q1.out _ (by with_reducible assumption)).mono ?_);rintro _ U ⟨u,rfl,hk,bu⟩;obtain⟨p1,c1,rfl,lz⟩:=hk.shape;have HK1:=qh hk;have BU1:=qh bu;have bb:Below W1.heap.size W1 U:=Below.trans (by with_reducible assumption) (bu.mono (Below.size (show Below W1.heap.size W1 _ by with_reducible assumption)));have cr:=fun o=>((H1.out.stays bb).skip o).c3 1 rfl;clear hk bu lz)
   |(go_at_call 81;(with_reducible refine(Q2.out _ (by with_reducible assumption)).mono ?_);rintro _ U ⟨u,rfl,hk,bu⟩;obtain⟨p2,c2,rfl,lz⟩:=hk.shape;have HK2:=qh hk;have BU2:=qh bu;have bb:Below W1.heap.size W1 U:=Below.trans (by with_reducible assumption) (bu.mono (Below.size (show Below W1.heap.size W1 _ by with_reducible assumption)));have cr:=fun o=>((H1.out.stays bb).skip o).c3 1 rfl;clear hk bu lz))
 all_goals
  first
   |(have hf:=(H1.out.drew.call BU1.out (ql _ _) HK1.out).call BU2.out (ql _ _) HK2.out)
   |(have hf:=(H1.out.drew.call BU2.out (ql _ _) HK2.out).call BU1.out (ql _ _) HK1.out)
  have H2:=qh (hf.lit2 z1 z2 (u:=.slice p1 z1.kids.length c1) (v:=.slice p2 z2.kids.length c2) (by simp) (by simp))
  clear hf
  obtain⟨Wf,hW,hf⟩:=qd (Fr.set3 (x:=.int .i64 24) (y:=.string ⟨#[124]⟩) (z:=(.slice (some ⟨U.heap.size,0,none⟩) 2 2)) H2.out 1 rfl)
  rewrite[←hW]
  (try simp only[nn] at hf)
  clear hW
  obtain⟨⟨s0,s1,s2⟩,-⟩:=hf.c3 1 rfl
  have hres:NRes w (.mk 24 ⟨#[124]⟩ [z1,z2]) (.returned (.agg #[.int .i64 24,.string ⟨#[124]⟩,(.slice (some ⟨U.heap.size,0,none⟩) 2 2)])) Wf:=hf.toldN (x:=(.mk 24 ⟨#[124]⟩ [z1,z2]))
  have HF:=qh hres
  clear hf hres
  (try go_wp2)
  exact bodyPost_ret (v:=.agg #[.int .i64 24,.string ⟨#[124]⟩,(.slice (some ⟨U.heap.size,0,none⟩) 2 2)]) (by simp[results,Tryz.results81,go_sem,s0,s1,s2]) rfl ((fun h=>by rw[EM.out];exact h) HF.out)
theorem qmG{t:ByteArray}{l:List UInt8}(h:¬t=⟨l.toArray⟩):¬t.data.toList=l:=fun e=>h (by cases t;simp at e;subst e;simp)
set_option maxRecDepth 100000 in
set_option maxHeartbeats 4000000 in
theorem qiP{F:Nat}(x:qb)(i1:qaW F .unit x)(iu:∀y∈x.kids,qaW F .unit y)(iv:∀y∈x.kids,qaW F .value y):qaW (F+1) .value x:=by
 by_cases hn:x.kind=24∧x.text=⟨#[124]⟩∧x.kids.length=2
 ·obtain⟨k,t,l⟩:=x
  simp only[qb.kind_mk,qb.text_mk,qb.kids_mk] at*
  obtain⟨rfl,ht,hl⟩:=hn
  match l,hl with
  |[y1,y2],_=>exact qk3 y1 y2 t ht (iu y1 (by simp)) (iv y2 (by simp))
 ·obtain⟨k,t,l⟩:=x
  intro u w S hu hT
  simp only[qb.kind_mk,qb.text_mk,qb.kids_mk] at*
  obtain⟨pu,cu,rfl,lu⟩:=hu.shape
  have H0:=qh (qbr w (.int .i64 k) (.string t) (.slice pu l.length cu))
  have HU:=qh hu
  have HT:=qh hT
  clear hu hT
  show Calls Tryz.prog 81 #[.agg #[.int .i64 k,.string t,.slice pu l.length cu]] w _
  have eM:qC (F+1) .value (.mk k t l)=qC F .unit (.mk k t l):=if_neg hn
  have Q:=qh (fun V (hV:Below w.heap.size w V)=>i1 (.slice pu l.length cu) V S (HU.out.stays hV) (HT.out.below hV))
  have EM:=qh eM
  obtain⟨⟨k0,k1,k2⟩,-⟩:=H0.out.c3 0 rfl
  clear eM i1 iu iv
  generalize qC F .unit (.mk k t l)=z at*
  by_cases h1:k=24
  ·subst h1
   by_cases h2:t=⟨#[124]⟩
   ·subst h2
    have h3:¬l.length=2:=fun h=>hn ⟨rfl,rfl,h⟩
    have y1:((l.length:Int)==2)=false:=beq_eq_false_iff_ne.2 (by omega)
    have y2:((l.length:Int)=2)=False:=eq_false (by omega)
    clear hn h3
    go_enter Tryz.func81,Tryz.ntmps81
    go_wp2_with(go_at_call 111;go_loud(refine(Q.out _ H0.out.low).mono ?_;rintro e W2 ⟨u,rfl,hk,hb⟩;obtain⟨pz,cz,rfl,lz⟩:=hk.shape;have H2:=qh (H0.out.call hb (ql _ _) hk);obtain⟨⟨r0,r1,r2⟩,e0,e1,e2⟩:=H2.out.c3 1 rfl;have ef:=H2.out.far 1 rfl;clear hk hb))
    obtain⟨Wf,hW,hf⟩:=qd (Fr.set3 (x:=.int .i64 z.kind) (y:=.string z.text) (z:=(.slice pz z.kids.length cz)) H2.out 1 rfl)
    rewrite[←hW]
    (try simp only[nn] at hf)
    clear hW
    obtain⟨⟨s0,s1,s2⟩,-⟩:=hf.c3 1 rfl
    have hres:NRes w z (.returned (.agg #[.int .i64 z.kind,.string z.text,(.slice pz z.kids.length cz)])) Wf:=hf.toldN (x:=z)
    have HF:=qh hres
    clear hf hres
    (try go_wp2)
    exact bodyPost_ret (v:=.agg #[.int .i64 z.kind,.string z.text,(.slice pz z.kids.length cz)]) (by simp[results,Tryz.results81,go_sem,s0,s1,s2]) rfl ((fun h=>by rw[EM.out];exact h) HF.out)
   ·have h3:=qmG (l:=[124]) h2
    rw[←ByteArray.toList_eq] at h3
    have y1:(t.toList==[124])=false:=beq_eq_false_iff_ne.2 h3
    have y2:=eq_false h3
    have y3:=eq_false h2
    clear hn h2 h3
    go_enter Tryz.func81,Tryz.ntmps81
    go_wp2_with(go_at_call 111;go_loud(refine(Q.out _ H0.out.low).mono ?_;rintro e W2 ⟨u,rfl,hk,hb⟩;obtain⟨pz,cz,rfl,lz⟩:=hk.shape;have H2:=qh (H0.out.call hb (ql _ _) hk);obtain⟨⟨r0,r1,r2⟩,e0,e1,e2⟩:=H2.out.c3 1 rfl;have ef:=H2.out.far 1 rfl;clear hk hb))
    obtain⟨Wf,hW,hf⟩:=qd (Fr.set3 (x:=.int .i64 z.kind) (y:=.string z.text) (z:=(.slice pz z.kids.length cz)) H2.out 1 rfl)
    rewrite[←hW]
    (try simp only[nn] at hf)
    clear hW
    obtain⟨⟨s0,s1,s2⟩,-⟩:=hf.c3 1 rfl
    have hres:NRes w z (.returned (.agg #[.int .i64 z.kind,.string z.text,(.slice pz z.kids.length cz)])) Wf:=hf.toldN (x:=z)
    have HF:=qh hres
    clear hf hres
    (try go_wp2)
    exact bodyPost_ret (v:=.agg #[.int .i64 z.kind,.string z.text,(.slice pz z.kids.length cz)]) (by simp[results,Tryz.results81,go_sem,s0,s1,s2]) rfl ((fun h=>by rw[EM.out];exact h) HF.out)
  ·have y1:(k==24)=false:=beq_eq_false_iff_ne.2 h1
   have y2:=eq_false h1
   clear hn h1
   go_enter Tryz.func81,Tryz.ntmps81
   go_wp2_with(go_at_call 111;go_loud(refine(Q.out _ H0.out.low).mono ?_;rintro e W2 ⟨u,rfl,hk,hb⟩;obtain⟨pz,cz,rfl,lz⟩:=hk.shape;have H2:=qh (H0.out.call hb (ql _ _) hk);obtain⟨⟨r0,r1,r2⟩,e0,e1,e2⟩:=H2.out.c3 1 rfl;have ef:=H2.out.far 1 rfl;clear hk hb))
   obtain⟨Wf,hW,hf⟩:=qd (Fr.set3 (x:=.int .i64 z.kind) (y:=.string z.text) (z:=(.slice pz z.kids.length cz)) H2.out 1 rfl)
   rewrite[←hW]
   (try simp only[nn] at hf)
   clear hW
   obtain⟨⟨s0,s1,s2⟩,-⟩:=hf.c3 1 rfl
   have hres:NRes w z (.returned (.agg #[.int .i64 z.kind,.string z.text,(.slice pz z.kids.length cz)])) Wf:=hf.toldN (x:=z)
   have HF:=qh hres
   clear hf hres
   (try go_wp2)
   exact bodyPost_ret (v:=.agg #[.int .i64 z.kind,.string z.text,(.slice pz z.kids.length cz)]) (by simp[results,Tryz.results81,go_sem,s0,s1,s2]) rfl ((fun h=>by rw[EM.out];exact h) HF.out)
theorem qmL{x y:qb}(h:y∈x.kids):qbn y+1≤qbn x:=by
 rw[qm1 x]
 have:∀l:List qb,y∈l→qbn y≤qc3 l:=by
  intro l
  induction l with
  |nil=>intro h;cases h
  |cons z r ih=>
   intro h
   rw[qc3]
   rcases List.mem_cons.1 h with rfl|h
   ·omega
   ·have:=ih h;omega
 have:=this _ h
 omega
theorem qe4{x y:qb}(h:y∈x.kids):qF y≤qF x:=by
 have:=qdk h
 rw[qbS x]
 omega
theorem qi7:∀(F:Nat) (m:WM) (x:qb),qF x≤1000000000→4*qbn x+qdm m<F→qaW F m x
 |0,m,x,_,h=>by omega
 |F+1,m,x,hc,h=>by
  have ih:=qi7 F
  have hkid:∀y∈x.kids,∀m,qaW F m y:=fun y hy m=>ih m y (Nat.le_trans (qe4 hy) hc) (by
   have:=qmL hy
   have:qdm m≤3:=by cases m<;>simp[qdm]
   omega)
  match m,h with
  |.whole f,h=>exact qjO f x (by have:=qcw x.kids;have:=qbS x;omega) fun m y hy _=>hkid y hy m
  |.put a f,h=>exact qm8 a f x (ih _ x hc (by simp only[qdm] at h⊢;omega)) (ih _ x hc (by simp only[qdm] at h⊢;omega))
  |.term,h=>exact qkb x (ih _ x hc (by simp only[qdm] at h⊢;omega))
  |.unit,h=>exact qkm x (ih _ x hc (by simp only[qdm] at h⊢;omega)) fun y hy=>hkid y hy _
  |.value,h=>exact qiP x (ih _ x hc (by simp only[qdm] at h⊢;omega)) (fun y hy=>hkid y hy _) fun y hy=>hkid y hy _
end Go.Proofs.YtakbenifinnpfaaGreatDoor
namespace Go.Proofs.YtakbenifinnpfaaGreatDoor
open Go.RowKit Go.Sub
attribute [local go_sem] Instr.field asAgg
def isBr(k:Int)(n:Nat):Bool:=decide (k=12∧n=1)
set_option maxRecDepth 100000 in
theorem qgE(k:Int)(t:ByteArray)(p:Option Addr)(n c:Nat)(w:World):Calls Tryz.prog 43 #[.agg #[.int .i64 k,.string t,.slice p n c]] w fun e w'=>e=.returned (.bool (isBr k n))∧Below w.heap.size w w':=by
 have hl:=(qcF w 24 (.int .i64 k) (.string t) (.slice p n c)).low
 unfold isBr
 by_cases h1:k=12
 ·subst h1
  by_cases h2:n=1
  ·subst h2
   go_enter Tryz.func43,Tryz.ntmps43
   go_wp2
   go_ret
   exact⟨by simp,hl⟩
  ·have y1:((n:Int)==1)=false:=beq_eq_false_iff_ne.2 (by omega)
   have y2:((n:Int)=1)=False:=eq_false (by omega)
   go_enter Tryz.func43,Tryz.ntmps43
   go_wp2
   go_ret
   exact⟨by simp[h2],hl⟩
 ·have y1:(k==12)=false:=beq_eq_false_iff_ne.2 h1
  have y2:=eq_false h1
  go_enter Tryz.func43,Tryz.ntmps43
  go_wp2
  go_ret
  exact⟨by simp[h1],hl⟩
set_option maxRecDepth 100000 in
theorem qg8(k:Int)(t:ByteArray)(p:Option Addr)(n c:Nat)(w:World):Calls Tryz.prog 28 #[.agg #[.int .i64 k,.string t,.slice p n c]] w fun e w'=>e=.returned (.bool (isBr k n))∧Below w.heap.size w w':=by
 have hl:=(qcF w 24 (.int .i64 k) (.string t) (.slice p n c)).low
 unfold isBr
 by_cases h1:k=12
 ·subst h1
  by_cases h2:n=1
  ·subst h2
   go_enter Tryz.func28,Tryz.ntmps28
   go_wp2
   go_ret
   exact⟨by simp,hl⟩
  ·have y1:((n:Int)==1)=false:=beq_eq_false_iff_ne.2 (by omega)
   have y2:((n:Int)=1)=False:=eq_false (by omega)
   go_enter Tryz.func28,Tryz.ntmps28
   go_wp2
   go_ret
   exact⟨by simp[h2],hl⟩
 ·have y1:(k==12)=false:=beq_eq_false_iff_ne.2 h1
  have y2:=eq_false h1
  go_enter Tryz.func28,Tryz.ntmps28
  go_wp2
  go_ret
  exact⟨by simp[h1],hl⟩
def SRes(w:World)(S:Nat→Prop)(x:qb)(e:Ending)(w':World):Prop:=∃u,e=.returned (.agg #[.int .i64 x.kind,.string x.text,u])∧qp w' S u x.kids∧Below w.heap.size w w'
set_option maxRecDepth 100000 in
set_option maxHeartbeats 2000000 in
theorem qk6(k:Int)(t:ByteArray)(l:List qb)(u:Value)(w:World)(S:Nat→Prop)(hu:qp w S u l):Calls Tryz.prog 42 #[.agg #[.int .i64 k,.string t,u]] w (SRes w S (qc7 k t l)):=by
 obtain⟨pu,cu,rfl,lu⟩:=hu.shape
 have H0:=qh (qbr w (.int .i64 k) (.string t) (.slice pu l.length cu))
 have HU:=qh hu
 have QB:=qh (fun V=>qgE k t pu l.length cu V)
 obtain⟨⟨k0,k1,k2⟩,-⟩:=H0.out.c3 0 rfl
 clear hu
 by_cases hn:k=12∧l.length=1
 ·obtain⟨rfl,hl⟩:=hn
  match l,hl with
  |[y],_=>
   obtain⟨b,o,ux,rfl,-,a1,ax⟩:=HU.out.kid (i:=0) rfl
   obtain⟨px,cx,rfl,lx⟩:=ax.shape
   have A1:=qh a1
   have AX:=qh ax
   simp only[List.length_cons,List.length_nil,Nat.zero_add] at*
   rw[show isBr 12 1=true from rfl] at QB
   rw[show qc7 12 t [y]=y from rfl]
   clear a1 ax
   go_enter Tryz.func42,Tryz.ntmps42
   go_wp2_with(go_at_call 43;go_loud(refine(QB.out _).mono ?_;rintro e W1 ⟨rfl,hb⟩;have H1:=qh (H0.out.stays hb);obtain⟨⟨k0,k1,k2⟩,-⟩:=H1.out.c3 0 rfl;obtain⟨⟨r0,r1,r2⟩,e0,e1,e2⟩:=H1.out.c3 1 rfl;obtain⟨g0,g1,g2⟩:=A1.out.stays H1.out.low;simp only[Nat.zero_mul,Nat.add_zero] at g0 g1 g2;clear hb))
   obtain⟨Wf,hW,hf⟩:=qd (Fr.set3 (x:=.int .i64 y.kind) (y:=.string y.text) (z:=.slice px y.kids.length cx) H1.out 1 rfl)
   rewrite[←hW]
   (try simp only[nn] at hf)
   clear hW
   obtain⟨⟨s0,s1,s2⟩,-⟩:=hf.c3 1 rfl
   have hres:SRes w S y (.returned (.agg #[.int .i64 y.kind,.string y.text,.slice px y.kids.length cx])) Wf:=⟨_,rfl,AX.out.stays hf.low,hf.low⟩
   have HF:=qh hres
   clear hf hres
   exact bodyPost_ret (v:=.agg #[.int .i64 y.kind,.string y.text,.slice px y.kids.length cx]) (by simp[results,Tryz.results42,go_sem,s0,s1,s2]) rfl HF.out
 ·have eM:qc7 k t l=.mk k t l:=if_neg hn
  rw[eM]
  rw[show isBr k l.length=false from decide_eq_false hn] at QB
  clear hn eM
  go_enter Tryz.func42,Tryz.ntmps42
  go_wp2_with(go_at_call 43;go_loud(refine(QB.out _).mono ?_;rintro e W1 ⟨rfl,hb⟩;have H1:=qh (H0.out.stays hb);obtain⟨⟨k0,k1,k2⟩,-⟩:=H1.out.c3 0 rfl;obtain⟨⟨r0,r1,r2⟩,e0,e1,e2⟩:=H1.out.c3 1 rfl;clear hb))
  obtain⟨Wf,hW,hf⟩:=qd (Fr.set3 (x:=.int .i64 k) (y:=.string t) (z:=.slice pu l.length cu) H1.out 1 rfl)
  rewrite[←hW]
  (try simp only[nn] at hf)
  clear hW
  obtain⟨⟨s0,s1,s2⟩,-⟩:=hf.c3 1 rfl
  have hres:SRes w S (.mk k t l) (.returned (.agg #[.int .i64 k,.string t,.slice pu l.length cu])) Wf:=⟨_,rfl,HU.out.stays hf.low,hf.low⟩
  have HF:=qh hres
  clear hf hres
  exact bodyPost_ret (v:=.agg #[.int .i64 k,.string t,.slice pu l.length cu]) (by simp[results,Tryz.results42,go_sem,s0,s1,s2]) rfl HF.out
end Go.Proofs.YtakbenifinnpfaaGreatDoor
namespace Go.Proofs.YtakbenifinnpfaaGreatDoor
open Go.RowKit Go.Sub
attribute [local go_sem] Instr.field asAgg
abbrev bareV:Value:=.func (.func 42) #[] #[]
theorem mapT(f:qb→qb){l:List qb}{j:Nat}{x:qb}(h:l[j]? =some x):(l.take (j+1)).map f=(l.take j).map f++[f x]:=by
 rw[List.take_add_one,h,Option.toList_some,List.map_append];rfl
set_option maxRecDepth 100000 in
set_option maxHeartbeats 4000000 in
theorem qkG:∀(x:qb) (u:Value) (w:World) (S:Nat→Prop),qp w S u x.kids→qF x≤1000000000→Calls Tryz.prog 41 #[.agg #[.int .i64 x.kind,.string x.text,u],bareV] w (NRes w (q9 x)):=by
 refine qb.ind fun x ih=>?_
 obtain⟨k,t,l⟩:=x
 intro u w S hu hc
 simp only[qb.kind_mk,qb.text_mk,qb.kids_mk] at*
 obtain⟨pu,cu,rfl,lu⟩:=hu.shape
 have hll:l.length≤1000000000:=by have:=qcw l;rw[qF] at hc;omega
 have H0:=qh (qbr w (.int .i64 k) (.string t) (.slice pu l.length cu))
 have HU:=qh hu
 have IH:=qh (fun y (hy:y∈l)=>ih y hy)
 have HC:=qh (fun y (hy:y∈l)=>Nat.le_trans (qe4 (x:=.mk k t l) hy) hc)
 clear hu ih
 obtain⟨⟨k0,k1,k2⟩,-⟩:=H0.out.c3 0 rfl
 go_enter Tryz.func41,Tryz.ntmps41
 go_wp2
 obtain⟨W1,hW,h1⟩:=qd H0.out
 rewrite[←hW]
 clear hW H0
 have H3:=qh (h1.rowNil 24 3)
 clear h1
 go_loopw [5,11] (fun v i wr=>∃(j:Nat) (m:List qb) (us:List Value) (pv:Option Addr) (cv:Nat) (ks:List Fact),(j≤l.length∧i=.int .i64 (j:Int)∧v=.slice pv m.length cv)∧Hid (qhM w wr k t (.slice pu l.length cu) pv cv m us ks)∧Hid (m=(l.take j).map q9)) (fun _ i _=>l.length- (intOf i).toNat)
 case atStart=>exact⟨0,[],[],none,0,_,⟨Nat.zero_le _,rfl,rfl⟩,qh ⟨H3.out,KN.nil _⟩,qh rfl⟩
 case round=>
  clear H3 k0 k1 k2
  obtain⟨j,m,us,pv,cv,ks,⟨hj,rfl,rfl⟩,HH,HM⟩:=hrel
  have H4:=qh HH.out.fr
  have KN4:=qh HH.out.kn
  obtain⟨⟨c0,c1,c2⟩,d0,d1,d2⟩:=H4.out.c3 0 rfl
  by_cases hlt:j<l.length
  ·have hxj:=List.getElem?_eq_getElem hlt
   obtain⟨b,o,ux,rfl,-,a1,ax⟩:=HU.out.kid hxj
   obtain⟨px,cx,rfl,lx⟩:=ax.shape
   obtain⟨g0,g1,g2⟩:=a1.stays H4.out.low
   have HX:=qh (ax.stays H4.out.low)
   have HMEM:=qh (List.getElem_mem hlt)
   have HM1:Hid ((l.take (j+1)).map q9=m++[q9 l[j]]):=qh (by rw[mapT _ hxj,←HM.out])
   have HLM:Hid (m.length<1000000001):=qh (by rw[HM.out,List.length_map,List.length_take];omega)
   clear ax hxj
   generalize l[j]=y at*
   go_upto_region 5 with(fail)
   obtain⟨W5,hW,h5⟩:=qd (H4.out.lay [.int .i64 y.kind,.string y.text,.slice px y.kids.length cx] 24)
   rewrite[←hW]
   (try simp only[nn] at h5)
   have H5:=qh h5
   have HL5:Hid (Below wr.heap.size wr W5):=qh (by rw[hW];exact(Below.refl _ _).alloc (Nat.le_refl _) _)
   clear h5 hW c0 c1 c2 d0 d1 d2 g0 g1 g2 a1 H4
   obtain⟨⟨c0,c1,c2⟩,-⟩:=H5.out.c3 0 rfl
   obtain⟨⟨k0,k1,k2⟩,-⟩:=H5.out.c3 2 rfl
   have QP:=qh (IH.out y HMEM.out _ W5 S (HX.out.stays HL5.out) (HC.out y HMEM.out))
   clear HX
   generalize q9 y=z at*
   go_upto_region 6 with(first|(go_at_call 41;go_loud(refine QP.out.mono ?_;rintro e W6 ⟨uz,rfl,hk,hb⟩;obtain⟨pz,cz,rfl,lz⟩:=hk.shape;have H6:=qh (H5.out.call hb (ql _ _) hk);clear hk hb H5 QP))|(at_builtin;go_loud(refine q8 (H6.out.skip _) 0 rfl KN4.out.1 z (by simp) (World.alloc_heap_new W6 _) HLM.out rfl _ _ rfl rfl rfl ?_;intro p7 c7 W7 h7;(try simp only[nn] at h7);have H7:=qh h7;clear h7)))
   go_wp2
   go_roundw
   case rel=>exact⟨j+1,m++[z],us++[.slice pz z.kids.length cz],p7,c7,_,⟨by omega,by go_num,by rw[List.length_append,List.length_singleton]⟩,qh ⟨by rw[List.length_append,List.length_singleton];exact H7.out.two2,(KN4.out.more (F:=ql (.slice pz z.kids.length cz) z.kids)).snoc (x:=z) (u:=.slice pz z.kids.length cz) List.mem_cons_self⟩,qh HM1.out.symm⟩
   case measure=>simp[intOf];omega
  ·obtain rfl:j=l.length:=by omega
   obtain⟨⟨r0,r1,r2⟩,e0,e1,e2⟩:=H4.out.c3 1 rfl
   have HLM:Hid (m.length≤4611686018427387904):=qh (by rw[HM.out,List.length_map,List.length_take];omega)
   have eM:q9 (.mk k t l)=qc7 k t m:=by rw[qfN,HM.out,List.take_length];rfl
   have EM:=qh eM
   clear eM
   go_upto_region 8 with(fail)
   obtain⟨W5,hW,h5⟩:=qd ((H4.out.give1 KN4.out HLM.out).set 0 2 rfl (.slice pv m.length cv))
   rewrite[←hW]
   (try simp only[nn] at h5)
   have H5:=qh h5
   clear h5 hW c0 c1 c2 d0 d1 d2 r0 r1 r2 e0 e1 e2
   obtain⟨⟨c0,c1,c2⟩,-⟩:=H5.out.c3 0 rfl
   have hkk:qp W5 _ (.slice pv m.length cv) m:=H5.out.get List.mem_cons_self
   have QP:=qh (qk6 k t m _ W5 _ hkk)
   clear hkk
   generalize qc7 k t m=z at*
   go_wp2_with(go_at_call 42;go_loud(refine QP.out.mono ?_;rintro e W6 ⟨uz,rfl,hk,hb⟩;obtain⟨pz,cz,rfl,lz⟩:=hk.shape;have H6:=qh ((H5.out.stays hb).more (ql _ _) hk fun c hc _=>hc);obtain⟨⟨r0,r1,r2⟩,e0,e1,e2⟩:=H6.out.c3 1 rfl;clear hk hb))
   obtain⟨Wf,hW,hf⟩:=qd (Fr.set3 (x:=.int .i64 z.kind) (y:=.string z.text) (z:=.slice pz z.kids.length cz) H6.out 1 rfl)
   rewrite[←hW]
   (try simp only[nn] at hf)
   clear hW
   obtain⟨⟨s0,s1,s2⟩,-⟩:=hf.c3 1 rfl
   have hres:NRes w (q9 (.mk k t l)) (.returned (.agg #[.int .i64 z.kind,.string z.text,.slice pz z.kids.length cz])) Wf:=by rw[EM.out];exact hf.toldN (x:=z)
   have HF:=qh hres
   clear hf hres
   exact bodyPost_ret (v:=.agg #[.int .i64 z.kind,.string z.text,.slice pz z.kids.length cz]) (by simp[results,Tryz.results41,go_sem,s0,s1,s2]) rfl HF.out
set_option maxRecDepth 100000 in
set_option maxHeartbeats 4000000 in
theorem qdN:∀(x:qb) (u:Value) (w:World) (S:Nat→Prop),qp w S u x.kids→qF x≤1000000000→Calls Tryz.prog 15 #[.agg #[.int .i64 x.kind,.string x.text,u]] w (NRes w (q9 x)):=by
 refine qb.ind fun x ih=>?_
 obtain⟨k,t,l⟩:=x
 intro u w S hu hc
 simp only[qb.kind_mk,qb.text_mk,qb.kids_mk] at*
 obtain⟨pu,cu,rfl,lu⟩:=hu.shape
 have hll:l.length≤1000000000:=by have:=qcw l;rw[qF] at hc;omega
 have H0:=qh (qbr w (.int .i64 k) (.string t) (.slice pu l.length cu))
 have HU:=qh hu
 have IH:=qh (fun y (hy:y∈l)=>ih y hy)
 have HC:=qh (fun y (hy:y∈l)=>Nat.le_trans (qe4 (x:=.mk k t l) hy) hc)
 have QB:=qh (fun V=>qg8 k t pu l.length cu V)
 clear hu ih
 obtain⟨⟨k0,k1,k2⟩,-⟩:=H0.out.c3 0 rfl
 by_cases hn:k=12∧l.length=1
 ·obtain⟨rfl,hl⟩:=hn
  match l,hl with
  |[y],_=>
   obtain⟨b,o,ux,rfl,-,a1,ax⟩:=HU.out.kid (i:=0) rfl
   obtain⟨px,cx,rfl,lx⟩:=ax.shape
   have A1:=qh a1
   have Q:=qh (fun V (hV:Below w.heap.size w V)=>IH.out y (by simp) _ V S (ax.stays hV) (HC.out y (by simp)))
   have EM:Hid (q9 (.mk 12 t [y])=q9 y):=qh rfl
   generalize q9 y=z at*
   clear ax a1 IH HC HU
   simp only[List.length_cons,List.length_nil,Nat.zero_add] at*
   rw[show isBr 12 1=true from rfl] at QB
   go_enter Tryz.func15,Tryz.ntmps15
   go_upto_region 2 with(go_at_call 28;go_loud(refine(QB.out _).mono ?_;rintro e W1 ⟨rfl,hb⟩;have H1:=qh (H0.out.stays hb);obtain⟨⟨k0,k1,k2⟩,-⟩:=H1.out.c3 0 rfl;clear hb))
   obtain⟨g0,g1,g2⟩:=A1.out.stays H1.out.low
   simp only[Nat.zero_mul,Nat.add_zero] at g0 g1 g2
   go_wp2_with(go_at_call 15;go_loud(refine(Q.out _ H1.out.low).mono ?_;rintro e W2 ⟨u,rfl,hk,hb⟩;obtain⟨pz,cz,rfl,lz⟩:=hk.shape;have H2:=qh (H1.out.call hb (ql _ _) hk);obtain⟨⟨r0,r1,r2⟩,e0,e1,e2⟩:=H2.out.c3 1 rfl;have ef:=H2.out.far 1 rfl;clear hk hb))
   obtain⟨Wf,hW,hf⟩:=qd (Fr.set3 (x:=.int .i64 z.kind) (y:=.string z.text) (z:=(.slice pz z.kids.length cz)) H2.out 1 rfl)
   rewrite[←hW]
   (try simp only[nn] at hf)
   clear hW
   obtain⟨⟨s0,s1,s2⟩,-⟩:=hf.c3 1 rfl
   have hres:NRes w z (.returned (.agg #[.int .i64 z.kind,.string z.text,(.slice pz z.kids.length cz)])) Wf:=hf.toldN (x:=z)
   have HF:=qh hres
   clear hf hres
   (try go_wp2)
   exact bodyPost_ret (v:=.agg #[.int .i64 z.kind,.string z.text,(.slice pz z.kids.length cz)]) (by simp[results,Tryz.results15,go_sem,s0,s1,s2]) rfl ((fun h=>by rw[EM.out];exact h) HF.out)
 ·have eM:q9 (.mk k t l)=.mk k t (l.map q9):=by rw[qfN];exact if_neg (by simpa using hn)
  have EM:=qh eM
  rw[show isBr k l.length=false from decide_eq_false hn] at QB
  clear hn eM
  go_enter Tryz.func15,Tryz.ntmps15
  go_wp2_with(go_at_call 28;go_loud(refine(QB.out _).mono ?_;rintro e W1 ⟨rfl,hb⟩;have H1:=qh (H0.out.stays hb);obtain⟨⟨k0,k1,k2⟩,-⟩:=H1.out.c3 0 rfl;clear hb))
  have H3:=qh (H1.out.rowNil 24 3)
  clear H1 H0 QB
  go_loopw [3,4] (fun v i wr=>∃(j:Nat) (m:List qb) (us:List Value) (pv:Option Addr) (cv:Nat) (ks:List Fact),(j≤l.length∧i=.int .i64 (j:Int)∧v=.slice pv m.length cv)∧Hid (qhM w wr k t (.slice pu l.length cu) pv cv m us ks)∧Hid (m=(l.take j).map q9)) (fun _ i _=>l.length- (intOf i).toNat)
  case atStart=>exact⟨0,[],[],none,0,_,⟨Nat.zero_le _,rfl,rfl⟩,qh ⟨H3.out,KN.nil _⟩,qh rfl⟩
  case round=>
   clear H3 k0 k1 k2
   obtain⟨j,m,us,pv,cv,ks,⟨hj,rfl,rfl⟩,HH,HM⟩:=hrel
   have H4:=qh HH.out.fr
   have KN4:=qh HH.out.kn
   obtain⟨⟨c0,c1,c2⟩,d0,d1,d2⟩:=H4.out.c3 0 rfl
   by_cases hlt:j<l.length
   ·have hxj:=List.getElem?_eq_getElem hlt
    obtain⟨b,o,ux,rfl,-,a1,ax⟩:=HU.out.kid hxj
    obtain⟨px,cx,rfl,lx⟩:=ax.shape
    obtain⟨g0,g1,g2⟩:=a1.stays H4.out.low
    have HMEM:=qh (List.getElem_mem hlt)
    have HM1:Hid ((l.take (j+1)).map q9=m++[q9 l[j]]):=qh (by rw[mapT _ hxj,←HM.out])
    have HLM:Hid (m.length<1000000001):=qh (by rw[HM.out,List.length_map,List.length_take];omega)
    have QP:=qh (IH.out _ HMEM.out _ wr S (ax.stays H4.out.low) (HC.out _ HMEM.out))
    clear ax hxj a1
    generalize l[j]=y at*
    generalize q9 y=z at*
    have H5:=H4
    clear H4
    go_upto_region 6 with(first|(go_at_call 15;go_loud(refine QP.out.mono ?_;rintro e W6 ⟨uz,rfl,hk,hb⟩;obtain⟨pz,cz,rfl,lz⟩:=hk.shape;have H6:=qh (H5.out.call hb (ql _ _) hk);clear hk hb H5 QP))|(at_builtin;go_loud(refine q8 (H6.out.skip _) 0 rfl KN4.out.1 z (by simp) (World.alloc_heap_new W6 _) HLM.out rfl _ _ rfl rfl rfl ?_;intro p7 c7 W7 h7;(try simp only[nn] at h7);have H7:=qh h7;clear h7)))
    go_wp2
    go_roundw
    case rel=>exact⟨j+1,m++[z],us++[.slice pz z.kids.length cz],p7,c7,_,⟨by omega,by go_num,by rw[List.length_append,List.length_singleton]⟩,qh ⟨by rw[List.length_append,List.length_singleton];exact H7.out.two2,(KN4.out.more (F:=ql (.slice pz z.kids.length cz) z.kids)).snoc (x:=z) (u:=.slice pz z.kids.length cz) List.mem_cons_self⟩,qh HM1.out.symm⟩
    case measure=>simp[intOf];omega
   ·obtain rfl:j=l.length:=by omega
    obtain⟨⟨r0,r1,r2⟩,e0,e1,e2⟩:=H4.out.c3 1 rfl
    have HLM:Hid (m.length≤4611686018427387904):=qh (by rw[HM.out,List.length_map,List.length_take];omega)
    have HM1:Hid (l.map q9=m):=qh (by have:=HM.out;rw[List.take_length] at this;exact this.symm)
    go_wp2
    obtain⟨Wf,hW,hf⟩:=qd (Fr.set3 (x:=.int .i64 k) (y:=.string t) (z:=.slice pv m.length cv) ((H4.out.give1 KN4.out HLM.out).set 0 2 rfl (.slice pv m.length cv)) 1 rfl)
    rewrite[←hW]
    (try simp only[nn] at hf)
    clear hW
    obtain⟨⟨s0,s1,s2⟩,-⟩:=hf.c3 1 rfl
    have hres:NRes w (q9 (.mk k t l)) (.returned (.agg #[.int .i64 k,.string t,.slice pv m.length cv])) Wf:=by rw[EM.out,HM1.out];exact hf.toldN (x:=.mk k t m)
    have HF:=qh hres
    clear hf hres
    exact bodyPost_ret (v:=.agg #[.int .i64 k,.string t,.slice pv m.length cv]) (by simp[results,Tryz.results15,go_sem,s0,s1,s2]) rfl HF.out
end Go.Proofs.YtakbenifinnpfaaGreatDoor
namespace Go.Proofs.YtakbenifinnpfaaGreatDoor
open Go.RowKit Go.Sub
attribute [local go_sem] Instr.field asAgg
set_option maxRecDepth 100000 in
set_option maxHeartbeats 2000000 in
theorem qmt(x:qb)(hc:qF x≤1000000000)(u:Value)(w:World)(S:Nat→Prop)(hu:qp w S u x.kids):Calls Tryz.prog 30 #[.agg #[.int .i64 x.kind,.string x.text,u]] w (NRes w (q9 x)):=by
 have ht:=fun u w S hu=>qkG x u w S hu hc
 obtain⟨k,t,l⟩:=x
 simp only[qb.kind_mk,qb.text_mk,qb.kids_mk] at*
 obtain⟨pu,cu,rfl,lu⟩:=hu.shape
 have H0:=qh (qbr w (.int .i64 k) (.string t) (.slice pu l.length cu))
 have Q:=qh (fun V (hV:Below w.heap.size w V)=>ht (.slice pu l.length cu) V S (hu.stays hV))
 clear hu ht
 generalize q9 (.mk k t l)=z at*
 obtain⟨⟨k0,k1,k2⟩,-⟩:=H0.out.c3 0 rfl
 go_enter Tryz.func30,Tryz.ntmps30
 go_wp2_with(go_at_call 41;go_loud(refine(Q.out _ H0.out.low).mono ?_;rintro e W2 ⟨u,rfl,hk,hb⟩;obtain⟨pz,cz,rfl,lz⟩:=hk.shape;have H2:=qh (H0.out.call hb (ql _ _) hk);obtain⟨⟨r0,r1,r2⟩,e0,e1,e2⟩:=H2.out.c3 1 rfl;have ef:=H2.out.far 1 rfl;clear hk hb))
 obtain⟨Wf,hW,hf⟩:=qd (Fr.set3 (x:=.int .i64 z.kind) (y:=.string z.text) (z:=(.slice pz z.kids.length cz)) H2.out 1 rfl)
 rewrite[←hW]
 (try simp only[nn] at hf)
 clear hW
 obtain⟨⟨s0,s1,s2⟩,-⟩:=hf.c3 1 rfl
 have hres:NRes w z (.returned (.agg #[.int .i64 z.kind,.string z.text,(.slice pz z.kids.length cz)])) Wf:=hf.toldN (x:=z)
 have HF:=qh hres
 clear hf hres
 (try go_wp2)
 exact bodyPost_ret (v:=.agg #[.int .i64 z.kind,.string z.text,(.slice pz z.kids.length cz)]) (by simp[results,Tryz.results30,go_sem,s0,s1,s2]) rfl (id HF.out)
mutual
theorem qdi:∀x:qb,qF (q9 x)≤qF x
 |.mk k t l=>by
  rw[q9,qF]
  have:=qfz l
  unfold qc7
  split
  ·rename_i h
   match hb:qen l,h.2 with
   |[y],_=>rw[hb] at this;simp only[List.headD_cons,qN] at this⊢;omega
  ·rw[qF];omega
theorem qfz:∀l:List qb,qN (qen l)≤qN l
 |[]=>Nat.le_refl _
 |x::r=>by rw[qen,qN,qN];have:=qdi x;have:=qfz r;omega
end
set_option maxRecDepth 100000 in
set_option maxHeartbeats 2000000 in
theorem qg0(x:qb)(hc:qF x≤1000000000)(u:Value)(w:World)(S:Nat→Prop)(hu:qp w S u x.kids)(hT:TabX w):Calls Tryz.prog 14 #[.agg #[.int .i64 x.kind,.string x.text,u]] w (NRes w (qej x)):=by
 have hw:=qi7 (4*qbn (q9 x)+4) (.put 1 0) (q9 x) (Nat.le_trans (qdi x) hc) (by simp[qdm])
 have eM:qej x=qC (4*qbn (q9 x)+4) (.put 1 0) (q9 x):=rfl
 rw[eM]
 clear eM
 have hbx:=qmt x hc
 obtain⟨k,t,l⟩:=x
 simp only[qb.kind_mk,qb.text_mk,qb.kids_mk] at*
 obtain⟨pu,cu,rfl,lu⟩:=hu.shape
 have H0:=qh (qbr w (.int .i64 k) (.string t) (.slice pu l.length cu))
 have HT:=qh hT
 have Q1:=qh (fun V (hV:Below w.heap.size w V)=>hbx (.slice pu l.length cu) V S (hu.stays hV))
 have HW:Hid (∀(u:Value) (w:World) (S:Nat→Prop),qp w S u (q9 (.mk k t l)).kids →TabX w→Calls Tryz.prog 29 #[.agg #[.int .i64 1,.int .i64 0],.agg #[.int .i64 (q9 (.mk k t l)).kind,.string (q9 (.mk k t l)).text,u]] w (NRes w (qC (4*qbn (q9 (.mk k t l))+4) (.put 1 0) (q9 (.mk k t l))))):=qh hw
 clear hu hT hw hbx
 generalize 4*qbn (q9 (.mk k t l))+4=G at*
 generalize q9 (.mk k t l)=y at*
 generalize qC G (.put 1 0) y=z at*
 obtain⟨⟨k0,k1,k2⟩,-⟩:=H0.out.c3 0 rfl
 go_enter Tryz.func14,Tryz.ntmps14
 go_wp2_with(first
  |(go_at_call 30;go_loud(refine(Q1.out _ H0.out.low).mono ?_;rintro e W1 ⟨u,rfl,hk,hb⟩;obtain⟨py,cy,rfl,lz⟩:=hk.shape;have HK1:=qh hk;have H1:=qh (H0.out.stays hb);clear hk hb))
  |(go_at_call 29;go_loud(refine(HW.out _ _ _ HK1.out (HT.out.below H1.out.low)).mono ?_;rintro e W2 ⟨u,rfl,hk,hb⟩;obtain⟨pz,cz,rfl,lz⟩:=hk.shape;have H2:=qh (H1.out.call hb (ql _ _) hk);obtain⟨⟨r0,r1,r2⟩,e0,e1,e2⟩:=H2.out.c3 1 rfl;clear hk hb)))
 obtain⟨Wf,hW,hf⟩:=qd (Fr.set3 (x:=.int .i64 z.kind) (y:=.string z.text) (z:=(.slice pz z.kids.length cz)) H2.out 1 rfl)
 rewrite[←hW]
 (try simp only[nn] at hf)
 clear hW
 obtain⟨⟨s0,s1,s2⟩,-⟩:=hf.c3 1 rfl
 have hres:NRes w z (.returned (.agg #[.int .i64 z.kind,.string z.text,(.slice pz z.kids.length cz)])) Wf:=hf.toldN (x:=z)
 have HF:=qh hres
 clear hf hres
 (try go_wp2)
 exact bodyPost_ret (v:=.agg #[.int .i64 z.kind,.string z.text,(.slice pz z.kids.length cz)]) (by simp[results,Tryz.results14,go_sem,s0,s1,s2]) rfl (id HF.out)
end Go.Proofs.YtakbenifinnpfaaGreatDoor
namespace Go.Proofs.YtakbenifinnpfaaGreatDoor
open Go.RowKit Go.Sub Go.Sort
set_option maxRecDepth 100000 in
set_option maxHeartbeats 1000000 in
theorem qjW:∀(n m:qb) (u v:Value) (w:World) (S S':Nat→Prop),qp w S u n.kids→qp w S' v m.kids→
  Calls Tryz.prog 18 #[qcr n u,qcr m v] w fun e w'=>e=.returned (.bool (eqN n m))∧Below w.heap.size w w':=by
 refine qb.ind fun n ih=>?_
 intro m u v w S S' hu hv
 obtain⟨pu,cu,rfl,lu⟩:=hu.shape
 obtain⟨pv,cv,rfl,lv⟩:=hv.shape
 obtain⟨k,t,l⟩:=n
 obtain⟨k',t',l'⟩:=m
 have IH:=qh ih
 unfold qcr
 simp only[qb.kind_mk,qb.text_mk,qb.kids_mk] at*
 obtain⟨x1,x2,x3⟩:=qj9 w k t (.slice pu l.length cu) 24
 obtain⟨y1,y2,y3⟩:=qj9 (w.alloc (.cells #[.int .i64 k,.string t,.slice pu l.length cu] 24)) k' t' (.slice pv l'.length cv) 24
 replace x1:=x1.stays y2
 have hB:=x2.trans (y2.mono (by omega))
 rw[x3] at y1
 have HU:=qh (hu.stays hB)
 have HV:=qh (hv.stays hB)
 have HB:=qh hB
 have X1:=qh x1
 have Y1:=qh y1
 clear ih hu hv x1 x2 x3 y1 y2 y3 hB
 by_cases hk:k=k'
 ·by_cases ht:t.toList=t'.toList
  ·by_cases hl:l.length=l'.length
   ·obtain rfl:=qiC ht
    subst hk
    have HL:=qh hl
    have y0:((l.length:Int) != (l'.length:Int))=false:=by rw[bne_eq_false_iff_eq];omega
    clear hl ht
    go_enter Tryz.func18,Tryz.ntmps18
    go_wp2
    clear y0
    generalize (w.alloc (.cells #[.int .i64 k,.string t,.slice pu l.length cu] 24)).alloc (.cells #[.int .i64 k,.string t,.slice pv l'.length cv] 24)=W1 at*
    go_loopw [5] (fun i wr=>∃j:Nat,j≤l.length∧i=.int .i64 j∧Hid (l.take j=l'.take j)∧Hid (Below W1.heap.size W1 wr)) (fun i _=>l.length- (intOf i).toNat)
    case atStart=>exact⟨0,Nat.zero_le _,rfl,qh rfl,qh (Below.refl _ _)⟩
    case round=>
     obtain⟨j,hj,rfl,HE,HW⟩:=hrel
     obtain⟨-,-,xc⟩:=(X1.out.stays HW.out).zero
     obtain⟨-,-,yc⟩:=(Y1.out.stays HW.out).zero
     by_cases hlt:j<l.length
     ·have hlt':j<l'.length:=by have:=HL.out;omega
      have hx:=List.getElem?_eq_getElem hlt
      have hy:=List.getElem?_eq_getElem hlt'
      obtain⟨b,o,ux,rfl,-,a1,ax⟩:=HU.out.kid hx
      obtain⟨b',o',uy,rfl,-,a2,ay⟩:=HV.out.kid hy
      obtain⟨c0,c1,c2⟩:=a1.stays HW.out
      obtain⟨d0,d1,d2⟩:=a2.stays HW.out
      have hcall:=fun d os=>IH.out (l[j]) (List.getElem_mem hlt) (l'[j]) ux uy (grow (redrawn wr d) os) S S' ((ax.stays HW.out).stays (below_regrown wr d os)) ((ay.stays HW.out).stays (below_regrown wr d os))
      have hsnoc:=fun e=>qiu HE.out hx hy e
      generalize l[j]=x at*
      generalize l'[j]=y at*
      unfold qcr at hcall
      have Hc:=qh hcall
      have Hx:=qh hx
      have Hy:=qh hy
      have Hs:=qh hsnoc
      have Ha:=qh ax
      have Hb:=qh ay
      have gx:=cell_regrown xc
      have gy:=cell_regrown yc
      have e0:=cell_regrown c0
      have e1:=cell_regrown c1
      have e2:=cell_regrown c2
      have e3:=cell_regrown d0
      have e4:=cell_regrown d1
      have e5:=cell_regrown d2
      clear hcall hx hy hsnoc ax ay a1 a2
      go_wp2
      refine wp_region_quiet_below (by kernel_rfl) (by kernel_rfl) ?_
      repeat (quiet_step (exact Calls.regrown_of (Hc.out _ _)))
      refine wpQuiet_nil ?_
      rintro _ ⟨p,rfl⟩
      clear gx gy e0 e1 e2 e3 e4 e5 c0 c1 c2 d0 d1 d2 xc yc Hc
      have HW2:=qh (HW.out.trans ((below_regrown wr p.d p.os).mono HW.out.size))
      generalize grow (redrawn wr p.d) p.os=w2 at*
      clear HW
      cases hxy:eqN x y
      ·have hne:qb.mk k t l≠qb.mk k t l':=fun e=>by
        have e2:l=l':=by injection e
        have e3:x=y:=by have:=Hx.out;rw[e2,Hy.out] at this;exact(Option.some.inj this).symm
        rw[(qcz x y).2 e3] at hxy;cases hxy
       go_wp2
       go_ret
       rw[qgq hne]
       exact⟨rfl,HB.out.trans (HW2.out.mono HB.out.size)⟩
      ·have hs:=Hs.out ((qcz x y).1 hxy)
       have HS:=qh hs
       clear hs
       go_wp2
       go_roundw
       case rel=>exact⟨j+1,by omega,by go_num,HS,HW2⟩
       case measure=>simp[intOf];omega
     ·have hll:l=l':=by
       have h1:=HE.out
       rw[List.take_of_length_le (by omega),List.take_of_length_le (by have:=HL.out;omega)] at h1
       exact h1
      have HLL:=qh hll
      clear hll
      go_wp2
      go_ret
      rw[(qcz (.mk k t l) (.mk k t l')).2 (by rw[HLL.out])]
      exact⟨rfl,HB.out.trans (HW.out.mono HB.out.size)⟩
   ·have hne:qb.mk k t l≠qb.mk k' t' l':=fun e=>hl (by injection e with _ _ e;rw[e])
    rw[qgq hne]
    obtain rfl:=qiC ht
    subst hk
    have y0:((l.length:Int) != (l'.length:Int))=true:=by rw[bne_iff_ne];omega
    clear hne hl ht
    go_enter Tryz.func18,Tryz.ntmps18
    go_wp2
    go_ret
    exact⟨rfl,HB.out⟩
  ·have hne:qb.mk k t l≠qb.mk k' t' l':=fun e=>ht (by injection e with _ e _;rw[e])
   rw[qgq hne]
   subst hk
   clear hne
   go_enter Tryz.func18,Tryz.ntmps18
   go_wp2
   all_goals go_ret
   all_goals exact⟨rfl,HB.out⟩
 ·have hne:qb.mk k t l≠qb.mk k' t' l':=fun e=>hk (by injection e)
  rw[qgq hne]
  clear hne
  go_enter Tryz.func18,Tryz.ntmps18
  go_wp2
  all_goals go_ret
  all_goals exact⟨rfl,HB.out⟩
end Go.Proofs.YtakbenifinnpfaaGreatDoor
namespace Go.Proofs.YtakbenifinnpfaaGreatDoor
open Go.RowKit Go.Sub Go.Sort
end Go.Proofs.YtakbenifinnpfaaGreatDoor
namespace Go.Proofs.YtakbenifinnpfaaGreatDoor
open Go.RowKit Go.Sub Go.Sort
end Go.Proofs.YtakbenifinnpfaaGreatDoor
namespace Go.Proofs.YtakbenifinnpfaaGreatDoor
open Go.RowKit Go.Sub Go.Sort
def qT(w:World)(S:Nat→Prop)(v:Value)(xs:List Int):Prop:=∃p cap b o,v=.slice p xs.length cap∧(0<xs.length→p=some ⟨b,o,none⟩∧S b)∧xs.length≤4611686018427387904∧∀(i:Nat) x,xs[i]? =some x→w.cell? ⟨b,o+i,none⟩=some (.int .i64 x)
def intC(xs:List Int):List Value:=xs.map fun x=>.int .i64 x
theorem qT.keep{w w':World}{S S':Nat→Prop}{v:Value}{xs:List Int}(h:qT w S v xs)(hc:∀b o c,S b→w.cell? ⟨b,o,none⟩=some c→w'.cell? ⟨b,o,none⟩=some c)(hS:∀b,S b→S' b):qT w' S' v xs:=by
 obtain⟨p,cap,b,o,e,hp,hl,hx⟩:=h
 refine⟨p,cap,b,o,e,fun h=>⟨(hp h).1,hS _ (hp h).2⟩,hl,fun i x hi=>hc _ _ _ (hp ?_).2 (hx i x hi)⟩
 have:=(List.getElem?_eq_some_iff.1 hi).1;omega
theorem qT.stays{w w':World}{S:Nat→Prop}{v:Value}{xs:List Int}(h:qT w S v xs)(hb:Below w.heap.size w w'):qT w' S v xs:=
 h.keep (fun b o _ _ hc=>(hb.cell (p:=⟨b,o,none⟩) (World.block_lt_of_cell? _ _ hc)).trans hc) fun _ h=>h
theorem qT.keeps{w w':World}{S O:Nat→Prop}{v:Value}{xs:List Int}(h:qT w S v xs)(hk:qe O w w')(hO:∀b,S b→¬O b):qT w' S v xs:=
 h.keep (fun _ _ _ hs hc=>hk.cell hc (hO _ hs)) fun _ h=>h
theorem qT.mono{w:World}{S S':Nat→Prop}{v:Value}{xs:List Int}(h:qT w S v xs)(hS:∀b,S b→S' b):qT w S' v xs:=h.keep (fun _ _ _ _ h=>h) hS
theorem qT.of_own{w:World}{base:Nat}{e:TypeId}{v:Value}{xs:List Int}{S:Nat→Prop}(h:w.ownsRow base e 1 v xs.length (intC xs))(hl:xs.length≤4611686018427387904)(hS:∀g,some g=v.ownBlock→S g):qT w S v xs:=by
 rcases h.2 with⟨rfl,h0⟩|⟨g,cap,cur,rfl,hb,hg,hnc,hcm,hcs,htake⟩
 ·have:xs=[]:=List.eq_nil_of_length_eq_zero h0
  subst this
  exact⟨none,0,0,0,rfl,fun h=>absurd h (by simp),hl,fun i x h=>by simp at h⟩
 ·refine⟨_,cap,g,0,rfl,fun _=>⟨rfl,hS g rfl⟩,hl,fun i x hx=>?_⟩
  have hc:(intC xs)[i]? =some (.int .i64 x):=by unfold intC;rw[List.getElem?_map,hx];rfl
  have hx:=(World.ownsRow.cells (g:=g) h rfl) i _ hc
  rwa [qdb,show i=0+i by omega] at hx
theorem qT.shape{w:World}{S:Nat→Prop}{v:Value}{xs:List Int}(h:qT w S v xs):∃p cap,v=.slice p xs.length cap∧xs.length≤4611686018427387904:=by
 obtain⟨p,cap,b,o,e,hp,hl,hx⟩:=h;exact⟨p,cap,e,hl⟩
theorem qT.at{w:World}{S:Nat→Prop}{p:Option Addr}{n cap:Nat}{xs:List Int}(h:qT w S (.slice p n cap) xs){i:Nat}{x:Int}(hi:xs[i]? =some x):∃b o,p=some ⟨b,o,none⟩∧S b∧w.cell? ⟨b,o+i,none⟩=some (.int .i64 x):=by
 obtain⟨p',cap',b,o,e,hp,hl,hx⟩:=h
 cases e
 have:=hp (by have:=(List.getElem?_eq_some_iff.1 hi).1;omega)
 exact⟨b,o,this.1,this.2,hx i x hi⟩
theorem qih:Tryz.prog.underlying 49=some (.slice 3):=by kernel_rfl
theorem qma:(Tryz.prog.info? 3).map (fun i=>(i.zero,i.size,i.bytes))=some (some (.int .i64 0),1,8):=by kernel_rfl
end Go.Proofs.YtakbenifinnpfaaGreatDoor
namespace Go.Sub
def zs(p:List Nat):List Int:=p.map fun(i:Nat)=>(i:Int)
@[simp] theorem zs_nil:zs []=[]:=rfl
@[simp] theorem zs_cons (i:Nat) (p:List Nat):zs (i::p)=(i:Int)::zs p:=rfl
theorem qdv(n:qb):atN n []=some n:=by rw[atN]
theorem qbF(n:qb)(i:Int)(p:List Int):atN n (i::p)=if 0≤i then(n.kids[i.toNat]?).bind (fun k=>atN k p) else none:=by
 rw[atN];split
 ·split<;>rename_i h<;>rw[h]<;>rfl
 ·rfl
theorem qkQ(n x:qb):qfr n [] x=some x:=by rw[qfr]
theorem qem:∀(p:List Int) (n:qb) (q:List Int),atN n (p++q)=(atN n p).bind (fun m=>atN m q)
 |[],n,q=>by rw[List.nil_append,qdv];rfl
 |i::p,n,q=>by
  rw[List.cons_append,qbF,qbF]
  split
  ·cases n.kids[i.toNat]? with
   |none=>rfl
   |some k=>exact qem p k q
  ·rfl
theorem qj0(l:List qb)(j:Nat){x:qb}(h:l[j]? =some x)(i:Nat):qa7 (l.take (j+1)) i=qa7 (l.take j) i++(qI x).map ((i+j):: ·):=by
 induction l generalizing i j with
 |nil=>simp at h
 |cons y r ih=>
  cases j with
  |zero=>simp at h;subst h;simp[qa7]
  |succ j=>simp at h;simp only[List.take_succ_cons,qa7,ih j h (i+1),List.append_assoc];rw[show i+1+j=i+(j+1) by omega]
mutual
theorem qcc:∀n:qb,(qI n).length =qF n
 |.mk _ _ l=>by rw[qI,qF,List.length_cons,qdd l 0];omega
theorem qdd:∀(l:List qb) (i:Nat),(qa7 l i).length =qN l
 |[],i=>by simp[qa7,qN]
 |x::r,i=>by rw[qa7,qN,List.length_append,List.length_map,qcc x,qdd r]
end
def qaD(l:List (List Nat)):Nat:=l.foldl (fun a p=>max a p.length) 0
theorem qcs:∀(l:List (List Nat)) (a:Nat),l.foldl (fun a p=>max a p.length) a=max a (qaD l)
 |[],a=>by simp[qaD]
 |p::r,a=>by
  simp only[qaD,List.foldl_cons]
  rw[qcs r (max a p.length),qcs r (max 0 p.length)]
  omega
theorem qgI(a b:List (List Nat)):qaD (a++b)=max (qaD a) (qaD b):=by
 show(a++b).foldl _ 0=_
 rw[List.foldl_append,qcs b];rfl
theorem qcD(p:List Nat)(b:List (List Nat)):qaD (p::b)=max p.length (qaD b):=by
 show(p::b).foldl _ 0=_
 rw[List.foldl_cons,qcs b];omega
theorem qf5(i:Nat):∀l:List (List Nat),qaD (l.map (i:: ·))=if l=[] then 0 else qaD l+1
 |[]=>by simp[qaD]
 |p::r=>by
  rw[List.map_cons,qcD,qcD,qf5 i r,if_neg (show ¬(p::r=[]) from fun h=>by cases h),List.length_cons]
  split
  ·rename_i h;subst h;rw[show qaD []=0 from rfl];omega
  ·omega
mutual
theorem qfV:∀n:qb,qbn n=qaD (qI n)+1
 |.mk _ _ l=>by rw[qbn,qI,qcD,qfB l 0];simp;omega
theorem qfB:∀(l:List qb) (i:Nat),qc3 l=qaD (qa7 l i)
 |[],i=>by simp[qc3,qa7,qaD]
 |x::r,i=>by
  rw[qc3,qa7,qgI,qf5,if_neg (fun h=>?_),qfV x,qfB r (i+1)]
  have:=qcc x;have:=qe2 x;rw[h] at*;simp at*;omega
end
def qfp(T:List ByteArray)(n:qb):Prop:=∀(p:List Int) m,atN n p=some m→0≤m.kind∧m.kind≤255∧m.text∈T
theorem qfp.kid{T:List ByteArray}{n x:qb}(h:qfp T n)(hx:x∈n.kids):qfp T x:=by
 intro p m hm
 obtain⟨i,hi,rfl⟩:=List.getElem_of_mem hx
 refine h ((i:Int)::p) m ?_
 rw[qbF,if_pos (by omega),Int.toNat_natCast,List.getElem?_eq_getElem hi]
 exact hm
theorem qfp.mk{T:List ByteArray}{n:qb}(h:0≤n.kind∧n.kind≤255∧n.text∈T)(hk:∀x∈n.kids,qfp T x):qfp T n:=by
 intro p m hm
 cases p with
 |nil=>rw[qdv] at hm;cases hm;exact h
 |cons i p=>
  rw[qbF] at hm
  split at hm
  ·cases hkk:n.kids[i.toNat]? with
   |none=>rw[hkk] at hm;cases hm
   |some k=>rw[hkk] at hm;exact hk k (List.mem_of_getElem? hkk) p m hm
  ·cases hm
end Go.Sub
namespace Go.Proofs.YtakbenifinnpfaaGreatDoor
open Go.RowKit Go.Sub Go.Sort
theorem qhZ:∀(p:List Int) (n m:qb),atN n p=some m→qF m≤qF n
 |[],n,m,h=>by rw[qdv] at h;cases h;omega
 |i::p,n,m,h=>by
  rw[qbF] at h
  split at h
  ·cases hk:n.kids[i.toNat]? with
   |none=>rw[hk] at h;cases h
   |some k=>
    rw[hk] at h
    have:=qhZ p k m h
    have h2:=qdk (List.mem_of_getElem? hk)
    rw[qbS n];omega
  ·cases h
def qb7:qb:=.mk 0 ⟨#[]⟩ []
theorem qhC{n:qb}{path:List Int}{j:Nat}{x:Int}{m:qb}(h:atN n (path.take j)=some m)(hx:path[j]? =some x)(hi:x<0∨(m.kids.length:Int)≤x):atN n path=none:=by
 have e:path=path.take j++x::path.drop (j+1):=by
  have hl:=(List.getElem?_eq_some_iff.1 hx)
  obtain⟨hl,hx⟩:=hl
  rw[←hx,List.getElem_cons_drop,List.take_append_drop]
 rw[e,qem,h]
 show atN m (x::_)=none
 rw[qbF]
 split
 ·rw[List.getElem?_eq_none (by omega)];rfl
 ·rfl
theorem qh4{n:qb}{path:List Int}{j:Nat}{i:Nat}{m k:qb}(h:atN n (path.take j)=some m)(hx:path[j]? =some (i:Int))(hk:m.kids[i]? =some k):atN n (path.take (j+1))=some k:=by
 rw[List.take_add_one,hx]
 show atN n (path.take j++[(i:Int)])=_
 rw[qem,h]
 show atN m [(i:Int)]=_
 rw[qbF,if_pos (by omega),Int.toNat_natCast,hk]
 exact qdv k
end Go.Proofs.YtakbenifinnpfaaGreatDoor
namespace Go.Proofs.YtakbenifinnpfaaGreatDoor
open Go.RowKit Go.Sub Go.Sort
structure qjH(W:World)(Q:Nat→Prop)(B:Nat)(n:qb)(path:List Int)(j b o:Nat)(m:qb)(um:Value)(S:Nat→Prop)(f:qb→qb):Prop where
 cells:qa3 W b o m.kind m.text um
 kids:qJ W S um m.kids
 off:¬S b
 sub:∀c,S c→Q c
 base:Q b
 loose:qa9 W b
 hole:Hole W Q b o S (fun w' y=>qif w' Q B 0 y) f
 rest:∀x,qfr n path x=(qfr m (path.drop j) x).map f
theorem qjH.put{W W2:World}{Q:Nat→Prop}{B:Nat}{n:qb}{path:List Int}{j b o:Nat}{m:qb}{um:Value}{S:Nat→Prop}{f:qb→qb}(h:qjH W Q B n path j b o m um S f)(hj:path.length≤j)(hb:Below W.heap.size W W2){x:qb}{u:Value}(hx:qJ W2 (fun c=>W.heap.size≤c∧c<W2.heap.size) u x.kids)(hQ:∀c,W.heap.size≤c→Q c)
  {W3:World}(hW:((W2.setCell ⟨b,o,none⟩ (.int .i64 x.kind)).setCell ⟨b,o+1,none⟩ (.string x.text)).setCell ⟨b,o+2,none⟩ u=W3):
  qfr n path x=some (f x)∧qif W3 Q B 0 (f x)∧qe (fun d=>d=b) W2 W3∧W3.heap.size=W2.heap.size:=by
 have hl:=h.cells.lt
 obtain⟨⟨p0,p1,p2⟩,hk,hK,hs,_⟩:=Go.Sub.put3 W2 b o (h.cells.stays hb) (h.loose.stays hb) (.int .i64 x.kind) (.string x.text) u W3 hW
 refine⟨?_,?_,hK,hs⟩
 ·rw[h.rest,List.drop_of_length_le hj,qkQ];rfl
 ·refine h.hole W3 x (fun c q v h1 h2 hc=>hk c q v h1 ((hb.cell (p:=⟨c,q,none⟩) (World.block_lt_of_cell? _ _ hc)).trans hc)) ⟨u,⟨p0,p1,p2⟩,?_⟩
  refine(hx.keeps hK fun c hc e=>?_).at.mono fun c hc=>hQ c hc.1
  have:=hc.1
  omega
end Go.Proofs.YtakbenifinnpfaaGreatDoor
namespace Go.Proofs.YtakbenifinnpfaaGreatDoor
open Go.RowKit Go.Sub
attribute [local go_sem] Oper.semAt_some
abbrev PathV:=Value×List Int
def pathG(x:PathV)(b:Nat):Prop:=some b=x.1.ownBlock
theorem qT.within{w:World}{S:Nat→Prop}{v:Value}{xs:List Int}(h:qT w S v xs):qT w (fun b=>S b∧b<w.heap.size) v xs:=by
 obtain⟨p,cap,b,o,e,hp,hl,hx⟩:=h
 refine⟨p,cap,b,o,e,fun h0=>⟨(hp h0).1,(hp h0).2,?_⟩,hl,hx⟩
 exact World.block_lt_of_cell? _ _ (hx 0 xs[0] (List.getElem?_eq_getElem h0))
end Go.Proofs.YtakbenifinnpfaaGreatDoor
namespace Go.Proofs.YtakbenifinnpfaaGreatDoor
open Go.RowKit Go.Sub
attribute [local go_sem] Oper.semAt_some
theorem qlD:(Tryz.prog.info? 49).map (fun i=>(i.zero,i.size,i.bytes))=some (some (.slice none 0 0),1,24):=by kernel_rfl
theorem qgX:Tryz.prog.underlying 35=some (.slice 49):=by kernel_rfl
structure ColSt(w:World)(B:Nat)(pre:List PathV)(O:Nat→Prop)(W:World)(v:Value):Prop where
 own:∀b,O b↔(b=B∨some b=v.ownBlock∨∃x∈pre,pathG x b)
 box:Boxed W B 35 v
 row:W.ownsRow w.heap.size 49 1 v pre.length (pre.map fun x=>x.1)
 ints:∀x∈pre,qT W (fun b=>pathG x b∧w.heap.size≤b) x.1 x.2
 apart:∀x∈pre,∀b,pathG x b→w.heap.size≤b∧b<W.heap.size∧some b≠v.ownBlock∧b≠B
 bel:Below w.heap.size w W
theorem ColSt.keep{w:World}{B:Nat}{pre:List PathV}{O X:Nat→Prop}{A A':World}{v:Value}(h:ColSt w B pre O A v)(hk:qe X A A')(hX:∀b,X b→¬O b∧w.heap.size≤b):ColSt w B pre O A' v where
 own:=h.own
 box:=qiX h.box hk fun e=>(hX _ e).1 ((h.own _).2 (.inl rfl))
 row:=qs h.row hk fun g hg e=>(hX _ e).1 ((h.own _).2 (.inr (.inl hg)))
 ints:=fun x hx=>(h.ints x hx).keeps hk fun b hb e=>(hX _ e).1 ((h.own _).2 (.inr (.inr ⟨x,hx,hb.1⟩)))
 apart:=fun x hx b hb=>by
  obtain⟨a1,a2,a3⟩:=h.apart x hx b hb
  exact⟨a1,Nat.lt_of_lt_of_le a2 hk.size,a3⟩
 bel:=h.bel.trans (hk.below h.bel.size fun b hb=>(hX b hb).2)
end Go.Proofs.YtakbenifinnpfaaGreatDoor
namespace Go.Proofs.YtakbenifinnpfaaGreatDoor
open Go.RowKit Go.Sub Go.Sort
def inI64(k:Int):Prop:= -9223372036854775808≤k∧k≤9223372036854775807
def WideN(n:qb):Prop:=∀(p:List Int) m,atN n p=some m→inI64 m.kind
theorem WideN.kid{n x:qb}(h:WideN n)(hx:x∈n.kids):WideN x:=by
 intro p m hm
 obtain⟨i,hi,rfl⟩:=List.getElem_of_mem hx
 refine h ((i:Int)::p) m ?_
 rw[qbF,if_pos (by omega),Int.toNat_natCast,List.getElem?_eq_getElem hi]
 exact hm
end Go.Proofs.YtakbenifinnpfaaGreatDoor
namespace Go.Sub
def qhf:List ByteArray:=[⟨#[]⟩,⟨#[97]⟩,⟨#[124]⟩,⟨#[36,120]⟩,⟨#[46]⟩,⟨#[101,108,115,101]⟩,⟨#[98,48]⟩,⟨#[10]⟩]
def qav(k:Nat):ByteArray:=qhf.getD k ⟨#[]⟩
end Go.Sub
namespace Go.Proofs.YtakbenifinnpfaaGreatDoor
open Go.RowKit Go.Sub Go.Sort
def qfL(w:World)(v:Value)(c:List UInt8):Prop:=∃p cap b o,v=.slice p c.length cap∧(0<c.length→p=some ⟨b,o,none⟩)∧c.length≤9223372036854775807∧∀(i:Nat) x,c[i]? =some x→w.cell? ⟨b,o+i,none⟩=some (.int .u8 (x.toNat:Int))
theorem qfL.stays{w w':World}{v:Value}{c:List UInt8}(h:qfL w v c)(hb:Below w.heap.size w w'):qfL w' v c:=by
 obtain⟨p,cap,b,o,e,hp,hl,hx⟩:=h
 exact⟨p,cap,b,o,e,hp,hl,fun i x hi=>(hb.cell (p:=⟨b,o+i,none⟩) (World.block_lt_of_cell? _ _ (hx i x hi))).trans (hx i x hi)⟩
structure qj7(w:World)(l:List qb)(v:Value)(us:List Value)(wr:World):Prop where
 own:wr.ownsRow (w.heap.size+1) 24 3 v l.length (qU l us)
 len:us.length=l.length
 kids:∀(i:Nat) x u,l[i]? =some x→us[i]? =some u→qp wr (fun b=>w.heap.size<b∧b<wr.heap.size∧some b≠v.ownBlock) u x.kids
 txt:wr.heap[w.heap.size+2]? =some (.cells ((qhf.map Value.string).toArray) 9 (0,0))
 off:some (w.heap.size+2)≠v.ownBlock
 box:NBox wr w.heap.size 24 0 ⟨#[]⟩ (.slice none 0 0)
 bel:Below w.heap.size w wr
theorem qj7.one{w:World}{l:List qb}{v:Value}{us:List Value}{wr:World}(h:qj7 w l v us wr):∀u∈us,u.oneCell'=true:=by
 intro u hu
 obtain⟨i,hi,rfl⟩:=List.getElem_of_mem hu
 have hl:i<l.length:=by have:=h.len;omega
 obtain⟨p,c,e,_⟩:=(h.kids i l[i] us[i] (List.getElem?_eq_getElem hl) (List.getElem?_eq_getElem hi)).shape
 rw[e];rfl
end Go.Proofs.YtakbenifinnpfaaGreatDoor
namespace Go.Proofs.YtakbenifinnpfaaGreatDoor
open Go.RowKit Go.Sub Go.Sort
theorem qjd{w:World}{S:Nat→Prop}{v:Value}{xs:List Int}(h:qT w S v xs):qT w (fun b=>S b∧b<w.heap.size) v xs:=by
 obtain⟨p,cap,b,o,e,hp,hl,hc⟩:=h
 exact⟨p,cap,b,o,e,fun h0=>⟨(hp h0).1,(hp h0).2,World.block_lt_of_cell? _ _ (hc 0 _ (List.getElem?_eq_getElem h0))⟩,hl,hc⟩
def qjA(w:World)(S:Nat→Prop)(r:Option qb)(e:Ending)(w':World):Prop:=
 ∃u,e=.returned (.tuple #[qcr (r.getD qb7) u,.bool r.isSome])∧qp w' S u (r.getD qb7).kids ∧Below w.heap.size w w'
set_option maxRecDepth 100000 in
set_option maxHeartbeats 1000000 in
theorem qlR(n:qb)(u:Value)(path:List Int)(v:Value)(w:World)(S S':Nat→Prop)(hu:qp w S u n.kids)(hv:qT w S' v path):
  Calls Tryz.prog 27 #[qcr n u,v] w (qjA w S (atN n path)):=by
 obtain⟨pu,cu,rfl,lu⟩:=hu.shape
 obtain⟨pv,cv,rfl,lv⟩:=hv.shape
 obtain⟨r,hr⟩:∃r,r=atN n path:=⟨_,rfl⟩
 rw[←hr]
 have HR:=qh hr
 clear hr
 have hB:=((Below.refl _ w).alloc (Nat.le_refl _) (.cells #[.int .i64 n.kind,.string n.text,.slice pu n.kids.length cu] 24)).alloc (by simp) (.cells #[.int .i64 0,.string ⟨#[]⟩,.slice none 0 0] 24)
 have b1:=(qfI w 24 n.kind n.text (.slice pu n.kids.length cu)).stays ((Below.refl _ _).alloc (Nat.le_refl _) (.cells #[.int .i64 0,.string ⟨#[]⟩,.slice none 0 0] 24))
 have b2:=qfI (w.alloc (.cells #[.int .i64 n.kind,.string n.text,.slice pu n.kids.length cu] 24)) 24 0 ⟨#[]⟩ (.slice none 0 0)
 have HU:=qh (hu.within.stays hB)
 have HV:=qh ((qjd hv).stays hB)
 have HB:=qh hB
 have B1:=qh b1
 rw[World.size_alloc] at b2
 have B2:=qh b2
 unfold qcr
 clear hu hv hB b1 b2
 go_enter Tryz.func27,Tryz.ntmps27
 go_wp2
 generalize (w.alloc (.cells #[.int .i64 n.kind,.string n.text,.slice pu n.kids.length cu] 24)).alloc (.cells #[.int .i64 0,.string ⟨#[]⟩,.slice none 0 0] 24)=W1 at*
 go_loopw [6] (fun i wr=>∃(j:Nat) (m:qb) (um:Value),j≤path.length∧i=.int .i64 j∧Hid (atN n (path.take j)=some m)∧Hid (NBox wr w.heap.size 24 m.kind m.text um)∧Hid (qp W1 (fun b=>S b∧b<w.heap.size) um m.kids)∧Hid (qe (fun b=>b=w.heap.size) W1 wr)) (fun i _=>path.length- (intOf i).toNat)
 case atStart=>exact⟨0,n,_,Nat.zero_le _,rfl,qh (qdv n),B1,HU,qh (qe.refl _ _)⟩
 case round=>
  obtain⟨j,m,um,hj,rfl,HM,HX,HK,HW⟩:=hrel
  obtain⟨pm,cm,rfl,lm⟩:=HK.out.shape
  have hkw:=HK.out.keeps HW.out (fun b hb e=>by have:=hb.2;omega)
  have HKW:=qh hkw
  have hbw:=B2.out.keeps HW.out (by omega)
  have HB2:=qh hbw
  obtain⟨x0,x1,x2⟩:=HX.out.cells
  obtain⟨y0,y1,y2⟩:=HX.out.free
  obtain⟨z0,z1,z2⟩:=hbw.free
  obtain⟨d0,d1,d2⟩:=hbw.cells
  clear hkw hbw
  by_cases hlt:j<path.length
  ·have hx:=List.getElem?_eq_getElem hlt
   have hv2:=HV.out.keeps HW.out (fun b hb e=>by have:=hb.2;omega)
   obtain⟨bp,op,rfl,-,hcell⟩:=hv2.at hx
   by_cases hin:path[j]<0∨(m.kids.length:Int)≤path[j]
   ·have hno:=qhC HM.out hx hin
    obtain rfl:r=none:=HR.out.trans hno
    clear hno hx hv2
    generalize path[j]=z at*
    have hwr:=HW.out
    have hpq:=fun k=>NBox.put (w:=wr.drewN k) HB2.out (k':=0) (t':=⟨#[]⟩) (u':=.slice none 0 0)
    have HPQ:=qh hpq
    clear hpq
    have htest:(if z<0 then True else(m.kids.length:Int)≤z):=by split<;>first|trivial|omega
    have HT:=qh htest
    clear htest hin
    by_cases hz:z<0
    ·go_wp2
     go_quiet (fail)
     go_wp2
     obtain⟨hq,hP⟩:=HPQ.out nq
     have hwd:qe (fun b=>b=w.heap.size+1) wr (wr.drewN nq):=⟨rfl,rfl,rfl,Nat.le_refl _,fun _ _ _=>rfl⟩
     replace hP:=hwd.trans hP
     clear HPQ
     generalize (((wr.drewN nq).setCell ⟨w.heap.size+1,0,none⟩ (.int .i64 0)).setCell ⟨w.heap.size+1,1,none⟩ (.string ⟨#[]⟩)).setCell ⟨w.heap.size+1,2,none⟩ (.slice none 0 0)=W9 at*
     obtain⟨q0,q1,q2⟩:=hq.cells
     have HP:=qh hP
     clear hP hq
     refine bodyPost_ret (v:=.tuple #[.agg #[.int .i64 0,.string ⟨#[]⟩,.slice none 0 0],.bool false]) (by simp[results,Tryz.results27,go_sem,q0,q1,q2]) rfl ⟨_,rfl,qp.nil _ _,?_⟩
     exact(HB.out.trans (hwr.below HB.out.size fun b hb=>by omega)).trans (HP.out.below (Nat.le_trans HB.out.size hwr.size) fun b hb=>by omega)
    ·have hz2:=HT.out
     rw[if_neg hz] at hz2
     have HZ:=qh hz
     clear hz
     have hz0:(z<0)=False:=by simp;have:=HZ.out;omega
     go_wp2
     go_quiet (fail)
     go_wp2
     obtain⟨hq,hP⟩:=HPQ.out nq
     have hwd:qe (fun b=>b=w.heap.size+1) wr (wr.drewN nq):=⟨rfl,rfl,rfl,Nat.le_refl _,fun _ _ _=>rfl⟩
     replace hP:=hwd.trans hP
     clear HPQ
     generalize (((wr.drewN nq).setCell ⟨w.heap.size+1,0,none⟩ (.int .i64 0)).setCell ⟨w.heap.size+1,1,none⟩ (.string ⟨#[]⟩)).setCell ⟨w.heap.size+1,2,none⟩ (.slice none 0 0)=W9 at*
     obtain⟨q0,q1,q2⟩:=hq.cells
     have HP:=qh hP
     clear hP hq
     refine bodyPost_ret (v:=.tuple #[.agg #[.int .i64 0,.string ⟨#[]⟩,.slice none 0 0],.bool false]) (by simp[results,Tryz.results27,go_sem,q0,q1,q2]) rfl ⟨_,rfl,qp.nil _ _,?_⟩
     exact(HB.out.trans (hwr.below HB.out.size fun b hb=>by omega)).trans (HP.out.below (Nat.le_trans HB.out.size hwr.size) fun b hb=>by omega)
   ·obtain⟨i,hi⟩:∃i:Nat,path[j]=(i:Int):=⟨path[j].toNat,by omega⟩
    have hil:i<m.kids.length:=by omega
    have hk:=List.getElem?_eq_getElem hil
    obtain⟨g,og,ux,rfl,hgb,a1,ax⟩:=HKW.out.kid hk
    rw[hi] at hx hcell
    have hnx:=qh4 HM.out hx hk
    obtain⟨g2,og2,ux2,e2,hgb2,a2,ax2⟩:=HK.out.kid hk
    injection e2 with e2
    injection e2 with e2 e3
    subst e2 e3
    have hux:ux2=ux:=by
     have h1:=a1.2.2
     rw[HW.out.cell a2.2.2 (by have:=hgb2.2;omega)] at h1
     exact Option.some.inj h1
    subst hux
    generalize m.kids[i]=kx at*
    obtain⟨px,cx,rfl,lx⟩:=ax2.shape
    obtain⟨q0,q1,q2⟩:=a1
    have hpq:=fun k=>NBox.put (w:=wr.drewN k) HX.out (k':=kx.kind) (t':=kx.text) (u':=.slice px kx.kids.length cx)
    have HPQ:=qh hpq
    clear hpq
    have HA:=qh ax2
    have HN:=qh hnx
    clear hnx hk hi hx ax ax2 a2 hin hv2
    go_wp2
    go_quiet (fail)
    go_wp2
    go_region
    go_wp2
    go_roundw
    case rel=>
     obtain⟨hq,hP⟩:=HPQ.out (nq+1)
     have hwd:qe (fun b=>b=w.heap.size) wr (wr.drewN (nq+1)):=⟨rfl,rfl,rfl,Nat.le_refl _,fun _ _ _=>rfl⟩
     exact⟨j+1,kx,_,by omega,by go_num,HN,qh hq,HA,qh (HW.out.trans (hwd.trans hP))⟩
    case measure=>simp[intOf];omega
  ·obtain rfl:j=path.length:=by omega
   have hm:=HM.out
   rw[List.take_length] at hm
   obtain rfl:r=some m:=HR.out.trans hm
   obtain⟨hp1,hp⟩:=HB2.out.put (k':=m.kind) (t':=m.text) (u':=.slice pm m.kids.length cm)
   have HQ:=qh hp1
   have HP:=qh hp
   clear hp1 hp hm
   go_wp2
   have hq:=HQ.out
   have hP:=HP.out
   have hW:=HW.out
   clear HQ HP
   generalize ((wr.setCell ⟨w.heap.size+1,0,none⟩ (.int .i64 m.kind)).setCell ⟨w.heap.size+1,1,none⟩ (.string m.text)).setCell ⟨w.heap.size+1,2,none⟩ (.slice pm m.kids.length cm)=W9 at*
   obtain⟨q0,q1,q2⟩:=hq.cells
   have HP:=qh hP
   have HWW:=qh hW
   clear hP hq hW
   refine bodyPost_ret (v:=.tuple #[.agg #[.int .i64 m.kind,.string m.text,.slice pm m.kids.length cm],.bool true]) (by simp[results,Tryz.results27,go_sem,q0,q1,q2]) rfl ⟨_,rfl,(HKW.out.keeps HP.out (fun b hb e=>by have:=hb.2;omega)).mono fun c hc=>hc.1,?_⟩
   exact(HB.out.trans (HWW.out.below HB.out.size fun b hb=>by omega)).trans (HP.out.below (Nat.le_trans HB.out.size HWW.out.size) fun b hb=>by omega)
end Go.Proofs.YtakbenifinnpfaaGreatDoor
namespace Go.Sub
open Go.RowKit
theorem qgf(w:World)(b:Nat):∀(l:List qb) (us:List Value) (o:Nat),us.length=l.length→(∀(i:Nat) x u,l[i]? =some x→us[i]? =some u→qa3 w b (o+i*3) x.kind x.text u)→∀(j:Nat) v,(qU l us)[j]? =some v→w.cell? ⟨b,o+j,none⟩=some v
 |[],us,o,h,_,j,v,hv=>by simp[qU] at hv
 |x::r,[],o,h,_,j,v,hv=>by simp at h
 |x::r,u::us,o,h,hc,j,v,hv=>by
  obtain⟨c0,c1,c2⟩:=hc 0 x u rfl rfl
  simp only[qU] at hv
  match j,hv with
  |0,hv=>simp at hv;subst hv;simpa using c0
  |1,hv=>simp at hv;subst hv;simpa using c1
  |2,hv=>simp at hv;subst hv;simpa using c2
  |j+3,hv=>
   simp only[List.getElem?_cons_succ] at hv
   have:=qgf w b r us (o+3) (by simpa using h) (fun i y z hy hz=>by rw[show o+3+i*3=o+(i+1)*3 by omega];exact hc (i+1) y z hy hz) j v hv
   rw[show o+(j+3)=o+3+j by omega];exact this
theorem qp.row{w:World}{S:Nat→Prop}{p:Option Addr}{n cap:Nat}{l:List qb}(h:qp w S (.slice p n cap) l)(h0:0<l.length):
  ∃(b o:Nat) (us:List Value),p=some ⟨b,o,none⟩∧S b∧us.length=l.length∧(∀(j:Nat) u,(qU l us)[j]? =some u→w.cell? ((⟨b,o,none⟩:Addr).add j)=some u)∧(∀(i:Nat) x u,l[i]? =some x→us[i]? =some u→qp w S u x.kids):=by
 generalize hv:Value.slice p n cap=v at h
 cases h with
 |mk p' cap' l b o us hp hlen hc hk=>
  cases hv
  have hget:∀(i:Nat) u,((List.range l.length).map us)[i]? =some u→u=us i:=fun i u hu=>by
   rw[List.getElem?_map] at hu
   obtain⟨k,hk,rfl⟩:=Option.map_eq_some_iff.1 hu
   have:=(List.getElem?_eq_some_iff.1 hk).2
   rw[List.getElem_range] at this;rw[this]
  refine⟨b,o,(List.range l.length).map us,(hp h0).1,(hp h0).2,by simp,fun j u hu=>?_,fun i x u hx hu=>?_⟩
  ·have:=qgf w b l ((List.range l.length).map us) o (by simp) (fun i x u hx hu=>by rw[hget i u hu];exact hc i x hx) j u hu
   rw[show(⟨b,o,none⟩:Addr).add j=⟨b,o+j,none⟩ by unfold Addr.add;split<;>simp_all]
   exact this
  ·rw[hget i u hu];exact hk i x hx
theorem qp.one{w:World}{S:Nat→Prop}{u:Value}{l:List qb}(h:qp w S u l):u.oneCell'=true:=by
 cases h;rfl
theorem qm4{w:World}{b:Nat}{o:Obj}(h:w.heap[b]? =some o):b<w.heap.size:=(Array.getElem?_eq_some_iff.1 h).1
theorem qjG{w:World}{base:Nat}{e:TypeId}{sz n:Nat}{v:Value}{xs:List Value}(h:w.ownsRow base e sz v n xs)(h0:0<n):∃g cap,v=.slice (some ⟨g,0,none⟩) n cap∧qa9 w g∧base≤g∧g<w.heap.size∧n≤cap:=by
 rcases h.2 with⟨_,h1⟩|⟨g,cap,cur,rfl,hb,hg,hnc,_⟩
 ·omega
 ·exact⟨g,cap,rfl,⟨_,_,hg⟩,hb,qm4 hg,hnc⟩
end Go.Sub
namespace Go.Proofs.YtakbenifinnpfaaGreatDoor
open Go.RowKit Go.Sub Go.Sort
theorem qdL:∀{l:List qb} {us:List Value},us.length=l.length→(qU l us).length =l.length*3
 |[],_,_=>by simp[qU]
 |x::r,[],h=>by simp at h
 |x::r,u::us,h=>by
  have:=qdL (l:=r) (us:=us) (by simpa using h)
  simp only[qU,List.length_cons,this];omega
end Go.Proofs.YtakbenifinnpfaaGreatDoor
namespace Go.Proofs.YtakbenifinnpfaaGreatDoor
open Go.RowKit Go.Sub Go.Sort
def qcM(w:World)(v:Value)(n:qb):Prop:=∃g cv,v=.slice (some ⟨g,0,none⟩) (qI n).length cv∧∀(i:Nat) p,(qI n)[i]? =some p→∃x,w.cell? ⟨g,i,none⟩=some x∧qT w (fun _=>True) x (zs p)
theorem qcM.stays{w w':World}{v:Value}{n:qb}(h:qcM w v n)(hb:Below w.heap.size w w'):qcM w' v n:=by
 obtain⟨g,cv,e,hx⟩:=h
 refine⟨g,cv,e,fun i p hp=>?_⟩
 obtain⟨x,hc,hi⟩:=hx i p hp
 exact⟨x,(hb.cell (p:=⟨g,i,none⟩) (World.block_lt_of_cell? _ _ hc)).trans hc,hi.stays hb⟩
theorem qbX(p:List Nat):(zs p).length =p.length:=by unfold zs;rw[List.length_map]
theorem qcM.shape{w:World}{v:Value}{n:qb}(h:qcM w v n):∃g cv,v=.slice (some ⟨g,0,none⟩) (qI n).length cv:=by
 obtain⟨g,cv,e,_⟩:=h;exact⟨g,cv,e⟩
theorem qcM.at{w:World}{g n' cv:Nat}{n:qb}(h:qcM w (.slice (some ⟨g,0,none⟩) n' cv) n){i:Nat}{p:List Nat}(hp:(qI n)[i]? =some p):∃q c,w.cell? ⟨g,i,none⟩=some (.slice q p.length c)∧qT w (fun _=>True) (.slice q p.length c) (zs p):=by
 obtain⟨g',cv',e,hx⟩:=h
 cases e
 obtain⟨x,hc,hi⟩:=hx i p hp
 obtain⟨q,c,rfl,_⟩:=hi.shape
 rw[qbX] at hc hi
 exact⟨q,c,hc,hi⟩
structure qgJ(w:World)(B:Nat)(n:qb)(u:Value):Prop where
 box:NBox w B 24 n.kind n.text u
 kids:qp w (fun _=>True) u n.kids
theorem qgJ.stays{w w':World}{B:Nat}{n:qb}{u:Value}(h:qgJ w B n u)(hb:Below w.heap.size w w'):qgJ w' B n u:=⟨h.box.stays hb,h.kids.stays hb⟩
end Go.Proofs.YtakbenifinnpfaaGreatDoor
namespace Go.Sub
open Go.RowKit
def RowC(W:World)(p:Option Addr)(b o N:Nat):Prop:=∀i<N,p=some ⟨b,o,none⟩∧qa9 W b∧∃k t u,qa3 W b (o+i*3) k t u
theorem RowC.keeps{w w':World}{O:Nat→Prop}{p:Option Addr}{b o N:Nat}(h:RowC w p b o N)(hk:qe O w w')(hO:0<N→¬O b):RowC w' p b o N:=fun i hi=>by
 obtain⟨e,hl,k,t,u,hc⟩:=h i hi
 have hn:=hO (by omega)
 exact⟨e,hl.keep fun hlt=>hk.block b hlt hn,k,t,u,hk.cell hc.1 hn,hk.cell hc.2.1 hn,hk.cell hc.2.2 hn⟩
theorem put1(w:World)(g o:Nat)(v:Value){T:TypeId}{cs:Array Value}(hb:w.heap[g]? =some (.cells cs T (0,0))):qa9 (w.setCell ⟨g,o,none⟩ v) g∧qe (fun d=>d=g) w (w.setCell ⟨g,o,none⟩ v):=
 ⟨⟨_,_,heap_setCell_same w g o _ _ v hb⟩,qas w g o v (O:=fun d=>d=g) rfl⟩
theorem RowC.text{w:World}{p:Option Addr}{b o N j:Nat}(h:RowC w p b o N)(hj:j<N)(s:ByteArray):RowC (w.setCell ⟨b,o+j*3+1,none⟩ (.string s)) p b o N∧qe (fun d=>0<N∧d=b) w (w.setCell ⟨b,o+j*3+1,none⟩ (.string s)):=by
 obtain⟨-,⟨cs,T,hb⟩,-⟩:=h j hj
 obtain⟨hl,hk⟩:=put1 w b (o+j*3+1) (.string s) hb
 refine⟨fun i hi=>?_,hk.mono fun d _ hd=>⟨by omega,hd⟩⟩
 obtain⟨e,-,k,t,u,c0,c1,c2⟩:=h i hi
 by_cases hij:i=j
 ·subst hij
  exact⟨e,hl,k,s,u,by rw[World.cell?_setCell_other _ _ _ _ (by simp)];exact c0,World.cell?_setCell_same _ _ _ c1,by rw[World.cell?_setCell_other _ _ _ _ (by simp)];exact c2⟩
 ·exact⟨e,hl,k,t,u,by rw[World.cell?_setCell_other _ _ _ _ (fun e=>by simp at e<;>omega)];exact c0,by rw[World.cell?_setCell_other _ _ _ _ (fun e=>by simp at e<;>omega)];exact c1,by rw[World.cell?_setCell_other _ _ _ _ (fun e=>by simp at e<;>omega)];exact c2⟩
theorem RowC.kind{w:World}{p:Option Addr}{b o N j:Nat}(h:RowC w p b o N)(hj:j<N)(z:Int):RowC (w.setCell ⟨b,o+j*3,none⟩ (.int .i64 z)) p b o N∧qe (fun d=>0<N∧d=b) w (w.setCell ⟨b,o+j*3,none⟩ (.int .i64 z)):=by
 obtain⟨-,⟨cs,T,hb⟩,-⟩:=h j hj
 obtain⟨hl,hk⟩:=put1 w b (o+j*3) (.int .i64 z) hb
 refine⟨fun i hi=>?_,hk.mono fun d _ hd=>⟨by omega,hd⟩⟩
 obtain⟨e,-,k,t,u,c0,c1,c2⟩:=h i hi
 by_cases hij:i=j
 ·subst hij
  exact⟨e,hl,z,t,u,World.cell?_setCell_same _ _ _ c0,by rw[World.cell?_setCell_other _ _ _ _ (by simp)];exact c1,by rw[World.cell?_setCell_other _ _ _ _ (by simp)];exact c2⟩
 ·exact⟨e,hl,k,t,u,by rw[World.cell?_setCell_other _ _ _ _ (fun e=>by simp at e<;>omega)];exact c0,by rw[World.cell?_setCell_other _ _ _ _ (fun e=>by simp at e<;>omega)];exact c1,by rw[World.cell?_setCell_other _ _ _ _ (fun e=>by simp at e<;>omega)];exact c2⟩
end Go.Sub
namespace Go.Proofs.YtakbenifinnpfaaGreatDoor
open Go.RowKit Go.Sub Go.Sort
end Go.Proofs.YtakbenifinnpfaaGreatDoor
namespace Go.Proofs.YtakbenifinnpfaaGreatDoor
open Go.RowKit Go.Sub Go.Sort
theorem qgl{p:List Nat}:∀{l:List (List Nat)},p∈l→p.length≤qaD l
 |q::l,h=>by
  rw[qcD]
  rcases List.mem_cons.1 h with rfl|h
  ·omega
  ·have:=qgl h;omega
theorem qmC{n:qb}{p:List Nat}{i:Nat}(h:(qI n)[i]? =some p):p.length≤qF n:=by
 have h1:=qfV n
 have h2:=qgl (List.mem_of_getElem? h)
 have h3:=qeC n
 omega
end Go.Proofs.YtakbenifinnpfaaGreatDoor
namespace Go.Proofs.YtakbenifinnpfaaGreatDoor
open Go.RowKit Go.Sub Go.Sort
end Go.Proofs.YtakbenifinnpfaaGreatDoor
namespace Go.Proofs.YtakbenifinnpfaaGreatDoor
open Go.RowKit Go.Sub Go.Sort
theorem qfP{P:Program}(w:World)(base:Nat)(t ty e:TypeId)(i:TypeInfo)(size:Nat)(ht:P.underlying t=some (.slice e))(hi:P.info? e=some i)
  (v:Value)(n c:Nat)(xs:List Value)(hown:w.ownsRow base e size v n xs):(Builtin.append_ #[t,t] ty #[v,.slice none 0 c]).run P w=.ok v w:=by
 rcases hown.2 with⟨rfl,rfl⟩|⟨g,cap,cur,rfl,_,_,hnc,_⟩
 ·simp[Builtin.append_,run_underlying ht,sizeOf,typeInfo,hi,Builtin.lenOf,Builtin.firstCells]
 ·simp[Builtin.append_,run_underlying ht,sizeOf,typeInfo,hi,Builtin.lenOf,Builtin.firstCells,hnc,storeCells]
theorem qeU{P:Program}(w:World){ops:Array Oper}{rest:List Oper}{o:Oper}{a:Act}{Q:Exit→Act→World→Prop}
  (hg:o.guard=none)(s x:Operand)(t:TypeId)(hop:o.op=Op.call {callee:=Callee.builtin Builtin.append,args:= #[s,x],argTypes:= #[t,t]})
  (base:Nat)(e:TypeId)(i:TypeInfo)(size:Nat)(h1:P.underlying t=some (.slice e))(h2:P.info? e=some i)
  (v:Value)(k c:Nat)(xs:List Value)(hs:a.eval s=v)(hown:w.ownsRow base e size v k xs)(hx:a.eval x=.slice none 0 c)
  (hK:wpList P ops Q rest (a.put o.dst v) w):wpList P ops Q (o::rest) a w:=by
 refine wpList_plain hg fun K hK'=>?_
 have hrun:=qfP (P:=P) w base t o.type e i size h1 h2 v k c xs hown
 unfold Oper.wp
 simp[execOp,hop,resolve,invoke,builtin,hs,hx,hrun,Result.andThen]
 exact hK' _ _ hK
structure qb5(base:Nat)(v:Value)(ps:List (List Nat))(us:List Value)(W:World):Prop where
 own:W.ownsRow base 49 1 v ps.length us
 len:us.length=ps.length
 ints:∀(i:Nat) p u,ps[i]? =some p→us[i]? =some u→qT W (fun b=>base≤b∧b<W.heap.size∧some b≠v.ownBlock) u (zs p)
 caps:∀(i:Nat) p u,ps[i]? =some p→us[i]? =some u→∃q n c,u=.slice q n c∧p.length≤c
theorem qdT{w:World}{base:Nat}{e:TypeId}{sz n:Nat}{v:Value}{xs:List Value}(h:w.ownsRow base e sz v n xs):∀g,some g=v.ownBlock→g<w.heap.size:=by
 intro g hg
 rcases h.2 with⟨rfl,_⟩|⟨g',cap,cur,rfl,_,h3,_⟩
 ·cases hg
 ·cases hg;exact(Array.getElem?_eq_some_iff.1 h3).1
theorem qb5.stays{base:Nat}{v:Value}{ps:List (List Nat)}{us:List Value}{W W':World}(h:qb5 base v ps us W)(hb:Below W.heap.size W W'):qb5 base v ps us W' where
 own:=qs h.own (qe.of_below' (O:=fun _=>False) hb) (fun _ _ e=>e)
 len:=h.len
 ints:=fun i p u hp hu=>((h.ints i p u hp hu).stays hb).mono fun _ hx=>⟨hx.1,Nat.lt_of_lt_of_le hx.2.1 hb.size,hx.2.2⟩
 caps:=h.caps
theorem qb5.push{base:Nat}{v v' u:Value}{ps:List (List Nat)}{p:List Nat}{us:List Value}{W W':World}(h:qb5 base v ps us W)(hu:qT W (fun b=>base≤b∧b<W.heap.size∧some b≠v.ownBlock) u (zs p))(hc:∃q n c,u=.slice q n c∧p.length≤c)
  (hown:W'.ownsRow base 49 1 v' (ps.length+1) (us++[u]))(hk:qe (fun b=>some b=v.ownBlock) W W')(hblk:v'.ownBlock=v.ownBlock∨v'.ownBlock=some W.heap.size):qb5 base v' (ps++[p]) (us++[u]) W' where
 own:=by rw[List.length_append];exact hown
 len:=by rw[List.length_append,List.length_append,h.len];rfl
 ints:=fun i q z hq hz=>by
  have key:∀{q z},qT W (fun b=>base≤b∧b<W.heap.size∧some b≠v.ownBlock) z (zs q)→qT W' (fun b=>base≤b∧b<W'.heap.size∧some b≠v'.ownBlock) z (zs q):=fun hx=>
   (hx.keeps hk fun b hb e=>hb.2.2 e).mono fun b hb=>⟨hb.1,Nat.lt_of_lt_of_le hb.2.1 hk.size,fun e=>by
    rcases hblk with h1|h1
    ·exact hb.2.2 (e.trans h1)
    ·rw[h1] at e;cases e;exact Nat.lt_irrefl _ hb.2.1⟩
  by_cases hi:i<ps.length
  ·rw[List.getElem?_append_left hi] at hq
   rw[List.getElem?_append_left (by rw[h.len];exact hi)] at hz
   exact key (h.ints i q z hq hz)
  ·rw[List.getElem?_append_right (by omega)] at hq
   rw[List.getElem?_append_right (by rw[h.len];omega),h.len] at hz
   have:i-ps.length=0:=by have:=(List.getElem?_eq_some_iff.1 hq).1;simp at this;omega
   rw[this] at hq hz
   simp at hq hz
   subst hq hz
   exact key hu
 caps:=fun i q z hq hz=>by
  by_cases hi:i<ps.length
  ·rw[List.getElem?_append_left hi] at hq
   rw[List.getElem?_append_left (by rw[h.len];exact hi)] at hz
   exact h.caps i q z hq hz
  ·rw[List.getElem?_append_right (by omega)] at hq
   rw[List.getElem?_append_right (by rw[h.len];omega),h.len] at hz
   have:i-ps.length=0:=by have:=(List.getElem?_eq_some_iff.1 hq).1;simp at this;omega
   rw[this] at hq hz
   simp at hq hz
   subst hq hz
   exact hc
theorem qdz{w:World}{base:Nat}{e:TypeId}{sz n:Nat}{v:Value}{xs:List Value}(h:w.ownsRow base e sz v n xs):∀g,some g=v.ownBlock→base≤g:=by
 intro g hg
 rcases h.2 with⟨rfl,_⟩|⟨g',cap,cur,rfl,h3,_⟩
 ·cases hg
 ·cases hg;exact h3
theorem qb5.keeps{base:Nat}{v:Value}{ps:List (List Nat)}{us:List Value}{W W':World}{O:Nat→Prop}(h:qb5 base v ps us W)(hk:qe O W W')(hO:∀b,base≤b→b<W.heap.size→¬O b):qb5 base v ps us W' where
 own:=qs h.own hk (fun g hg=>hO g (qdz h.own g hg) (qdT h.own g hg))
 len:=h.len
 ints:=fun i p u hp hu=>((h.ints i p u hp hu).keeps hk fun b hb=>hO b hb.1 hb.2.1).mono fun _ hx=>⟨hx.1,Nat.lt_of_lt_of_le hx.2.1 hk.size,hx.2.2⟩
 caps:=h.caps
theorem qb5.at{base g n cv:Nat}{ps:List (List Nat)}{us:List Value}{W:World}(h:qb5 base (.slice (some ⟨g,0,none⟩) n cv) ps us W){i:Nat}{p:List Nat}(hp:ps[i]? =some p):∃q c,W.cell? ⟨g,i,none⟩=some (.slice q p.length c)∧qT W (fun b=>base≤b∧b<W.heap.size) (.slice q p.length c) (zs p)∧p.length≤c:=by
 have hi:i<us.length:=by rw[h.len];exact(List.getElem?_eq_some_iff.1 hp).1
 have hu:=List.getElem?_eq_getElem hi
 have hc:=World.ownsRow.cells (g:=g) h.own rfl _ _ hu
 rw[qdb] at hc
 have hx:=h.ints i p _ hp hu
 obtain⟨q,c,e,_⟩:=hx.shape
 obtain⟨q',n',c',e',hc'⟩:=h.caps i p _ hp hu
 rw[qbX] at e
 rw[e] at hc hx e'
 cases e'
 exact⟨q,c,hc,hx.mono fun b hb=>⟨hb.1,hb.2.1⟩,hc'⟩
def qby(n:qb)(j:Nat):List (List Nat):=[]::qa7 (n.kids.take j) 0
def qbR(n x:qb)(j k:Nat):List (List Nat):=qby n j++((qI x).take k).map (j:: ·)
theorem qkE(n x:qb)(j:Nat):qbR n x j 0=qby n j:=by unfold qbR;simp
theorem qjP{n x:qb}{j k:Nat}{q:List Nat}(h:(qI x)[k]? =some q):qbR n x j (k+1)=qbR n x j k++[j::q]:=by
 unfold qbR;rw[List.take_add_one,h];simp
theorem qlL{n x:qb}{j:Nat}(h:n.kids[j]? =some x):qbR n x j (qI x).length =qby n (j+1):=by
 unfold qbR qby;rw[qj0 _ _ h,List.take_length,Nat.zero_add];rfl
theorem qld(n:qb):qby n n.kids.length=qI n:=by unfold qby;rw[List.take_length,qeT]
theorem qmP{n x:qb}{j k:Nat}(h:n.kids[j]? =some x):(qbR n x j k).length ≤qF n:=by
 have h1:=qhD (n.kids.take (j+1)) (n.kids.drop (j+1))
 rw[List.take_append_drop,qj1 _ _ h] at h1
 have h2:=qcc x
 unfold qbR qby
 rw[List.length_append,List.length_cons,List.length_map,qdd,List.length_take,qbS]
 omega
def qkd(n:qb)(w:World)(e:Ending)(W':World):Prop:=∃v us,e=.returned v∧qb5 (w.heap.size+1) v (qI n) us W'∧Below w.heap.size w W'
set_option maxRecDepth 100000 in
set_option maxHeartbeats 4000000 in
theorem qhI:∀(n:qb) (u:Value) (w:World) (S:Nat→Prop),qp w S u n.kids→qF n≤100000000→
  Calls Tryz.prog 26 #[qcr n u] w (qkd n w):=by
 refine qb.ind fun n ih=>?_
 intro u w S hu hn
 obtain⟨pu,cu,rfl,lu⟩:=hu.shape
 have IH:=qh ih
 have hal1:=(Below.refl w.heap.size w).alloc (Nat.le_refl _) (.cells #[.int .i64 n.kind,.string n.text,.slice pu n.kids.length cu] 24)
 have hal2:=hal1.alloc (by simp) (.cells #[.slice none 0 0] 49)
 have hbn:=(qfI w 24 n.kind n.text (.slice pu n.kids.length cu)).stays ((Below.refl _ _).alloc (Nat.le_refl _) (.cells #[.slice none 0 0] 49))
 have hr0:qb5 (w.heap.size+1) (.slice (some ⟨w.heap.size+1,0,none⟩) 1 1) (qby n 0) [.slice none 0 0] ((w.alloc (.cells #[.int .i64 n.kind,.string n.text,.slice pu n.kids.length cu] 24)).alloc (.cells #[.slice none 0 0] 49)):=by
  have b1:=World.alloc_heap_new (w.alloc (.cells #[.int .i64 n.kind,.string n.text,.slice pu n.kids.length cu] 24)) (.cells #[.slice none 0 0] 49)
  rw[World.size_alloc] at b1
  refine⟨⟨rfl,.inr ⟨w.heap.size+1,1,_,rfl,Nat.le_refl _,b1,by simp[qby,qa7],by simp[maxLen],rfl,rfl⟩⟩,by simp[qby,qa7],fun i p z hp hz=>?_,fun i p z hp hz=>?_⟩
  ·match i,hp,hz with
   |0,hp,hz=>
    simp[qby,qa7] at hp hz
    subst hp hz
    exact⟨none,0,0,0,rfl,fun h=>absurd h (by simp[zs]),by simp[zs],fun i x hx=>by simp[zs] at hx⟩
   |i+1,hp,hz=>simp[qby,qa7] at hp
  ·match i,hp,hz with
   |0,hp,hz=>
    simp[qby,qa7] at hp hz
    subst hp hz
    exact⟨none,0,0,rfl,Nat.le_refl _⟩
   |i+1,hp,hz=>simp[qby,qa7] at hp
 have HU:=qh (hu.within.stays hal2)
 have HB:=qh hal2
 have HBN:=qh hbn
 have HR0:=qh hr0
 unfold qcr
 clear ih hu hal1 hal2 hbn hr0
 go_enter Tryz.func26,Tryz.ntmps26
 go_wp2
 generalize hW1:(w.alloc (.cells #[.int .i64 n.kind,.string n.text,.slice pu n.kids.length cu] 24)).alloc (.cells #[.slice none 0 0] 49)=W1 at*
 have hz1:W1.heap.size=w.heap.size+2:=by rw[←hW1];simp
 have HZ1:=qh hz1
 clear hW1 hz1
 go_loopw [3,4] (fun v i wr=>∃(j:Nat) (us:List Value),j≤n.kids.length∧i=.int .i64 j∧Hid (qb5 (w.heap.size+1) v (qby n j) us wr)∧Hid (Below (w.heap.size+1) W1 wr)) (fun _ i _=>n.kids.length- (intOf i).toNat)
 case atStart=>exact⟨0,_,Nat.zero_le _,rfl,HR0,qh (Below.refl _ _)⟩
 case round=>
  rename_i v
  obtain⟨j,us,hj,rfl,HR,HW⟩:=hrel
  obtain⟨pv,cv,rfl,hcv⟩:=qcA HR.out.own
  obtain⟨c0,c1,c2⟩:=(HBN.out.keeps (qe.of_below HW.out) (by omega)).cells
  by_cases hlt:j<n.kids.length
  ·have hx:=List.getElem?_eq_getElem hlt
   have hku:=HU.out.keeps (qe.of_below HW.out) (fun b hb e=>by have:=hb.2;omega)
   obtain⟨b,o,ux,rfl,-,a1,ax⟩:=hku.kid hx
   obtain⟨px,cx,rfl,lx⟩:=ax.shape
   obtain⟨d0,d1,d2⟩:=a1
   have hcx:qF n.kids[j]≤100000000:=by have:=qdk (List.getElem_mem hlt);have:=qbS n;omega
   have hcall:=IH.out (n.kids[j]) (List.getElem_mem hlt) _ wr _ ax hcx
   have HX:=qh hx
   have hdl:=fun k=>qmP (k:=k) hx
   have HDE:=qh (qlL hx)
   generalize n.kids[j]=x at*
   have HDL:=qh hdl
   have HPL:=qh (qcc x)
   unfold qcr at hcall
   have Hc:=qh hcall
   clear hx hku ax hcall hdl
   go_wp2_with(go_at_call 26;(with_reducible refine(Hc.out).mono ?_);rintro e w2 ⟨v5,us5,rfl,hp5,hb5⟩;obtain⟨g5,cv5,rfl,-⟩:=qjG hp5.own (by rw[qeT];simp);have HP5:=qh hp5;have HB5:=qh hb5;clear hp5 hb5)
   have HR2:=qh (HR.out.stays HB5.out)
   have hw2:=HW.out.trans (HB5.out.mono (by have:=HW.out.size;have:=HZ1.out;omega))
   have HW2:=qh hw2
   have hap:∀g,some g=(Value.slice pv (qby n j).length cv).ownBlock →¬(wr.heap.size+1≤g∧g<w2.heap.size):=fun g hg=>by have:=qdT HR.out.own g hg;omega
   have HAP:=qh hap
   have HS5:=qh HB5.out.size
   have hzr:=HW.out.size
   rw[HZ1.out] at hzr
   clear hap hw2
   clear HR HW Hc c0 c1 c2 d0 d1 d2 HB5
   generalize wr.heap.size=Nr at*
   go_loopw [3,6] (fun v i wr=>∃(k:Nat) (us:List Value),k≤(qI x).length ∧i=.int .i64 k∧Hid (qb5 (w.heap.size+1) v (qbR n x j k) us wr)∧Hid (∀g,some g=v.ownBlock→¬(Nr+1≤g∧g<w2.heap.size))∧Hid (qe (fun b=>¬(Nr+1≤b∧b<w2.heap.size)) w2 wr)∧Hid (Below (w.heap.size+1) W1 wr)) (fun _ i _=>(qI x).length - (intOf i).toNat)
   case atStart=>exact⟨0,_,Nat.zero_le _,rfl,by rw[qkE];exact HR2,by exact HAP,qh (qe.refl _ _),HW2⟩
   case round=>
    rename_i v7
    obtain⟨k,us7,hk,rfl,HR7,HA7,HK7,HW7⟩:=hrel
    have hd7:=HDL.out k
    obtain⟨p7,c7,rfl,hc7⟩:=qcA HR7.out.own
    clear HR2 HAP HW2
    by_cases hlk:k<(qI x).length
    ·have HLK:=qh hlk
     have hq:=List.getElem?_eq_getElem hlk
     have h5:=HP5.out.keeps HK7.out (fun b h1 h2 e=>e ⟨h1,h2⟩)
     obtain⟨q5,cc5,hcell5,hint5,-⟩:=h5.at hq
     have hpl:=qmC hq
     have hsucc:=qjP (n:=n) (j:=j) hq
     generalize (qI x)[k]=qq at*
     obtain⟨i0,hi,hz0,hz1,hz2⟩:=info_parts qma
     obtain⟨i1,hi1,hz10,hz11,hz12⟩:=info_parts qlD
     have hbA:Below wr.heap.size wr (wr.alloc (.cells #[.int .i64 (j:Int)] 3)):=(Below.refl _ _).alloc (Nat.le_refl _) _
     have hoA:(wr.alloc (.cells #[.int .i64 (j:Int)] 3)).ownsRow wr.heap.size 3 1 (.slice (some ⟨wr.heap.size,0,none⟩) 1 1) 1 [.int .i64 (j:Int)]:=⟨rfl,.inr ⟨wr.heap.size,1,_,rfl,Nat.le_refl _,World.alloc_heap_new wr _,by simp,by simp[maxLen],rfl,rfl⟩⟩
     have hcA:=(hbA.cell (World.block_lt_of_cell? _ _ hcell5)).trans hcell5
     have hiA:=hint5.stays hbA
     have hzA:(wr.alloc (.cells #[.int .i64 (j:Int)] 3)).heap.size =wr.heap.size+1:=by simp
     have hnil:q5=none→qq=[]:=fun e=>by
      cases qq with
      |nil=>rfl
      |cons x r=>
       obtain⟨b,o,e2,-,-⟩:=hint5.at (i:=0) (x:=(x:Int)) rfl
       rw[e] at e2;cases e2
     have hcell:∀ad,q5=some ad→∀(i:Nat) u,(intC (zs qq))[i]? =some u→(wr.alloc (.cells #[.int .i64 (j:Int)] 3)).cell? (ad.add i)=some u:=fun ad e i u hu=>by
      subst e
      unfold intC at hu
      rw[List.getElem?_map,Option.map_eq_some_iff] at hu
      obtain⟨x,hxj,rfl⟩:=hu
      obtain⟨b,o,e,-,hc⟩:=hiA.at hxj
      cases e
      rwa [show(⟨b,o,none⟩:Addr).add i=⟨b,o+i,none⟩ by unfold Addr.add;split<;>simp_all]
     have HOA:=qh hoA
     have HBA:=qh hbA
     have HC:=qh hcell
     have HQ:=qh hsucc
     have HZA:=qh hzA
     have hdk:=HDL.out (k+1)
     rw[hsucc,List.length_append] at hdk
     simp only[List.length_cons,List.length_nil] at hdk
     clear hoA hbA hcell hsucc hint5 hiA hq h5 hzA
     cases q5 with
     |none=>
      obtain rfl:=hnil rfl
      have hl0:([]:List Nat).length =0:=rfl
      have HO6:Hid ((wr.alloc (.cells #[.int .i64 (j:Int)] 3)).ownsRow wr.heap.size 3 1 (.slice (some ⟨wr.heap.size,0,none⟩) 1 1) 1 ([.int .i64 (j:Int)]++intC (zs []))):=qh HOA.out
      have HB6:=HBA
      have HCC:Hid ((j::([]:List Nat)).length ≤1):=qh (Nat.le_refl _)
      clear hnil
      go_upto_region 11 with(at_builtin;go_loud(refine qeU _ rfl _ _ 49 rfl wr.heap.size 3 i0 1 qih hi _ 1 _ _ rfl HOA.out rfl ?_))
      generalize wr.alloc (.cells #[.int .i64 (j:Int)] 3)=W6 at*
      have hi6:=qT.of_own (S:=fun b=>wr.heap.size≤b∧b<W6.heap.size) (xs:=zs (j::[])) (v:=.slice (some ⟨wr.heap.size,0,none⟩) (1) 1) (w:=W6) (base:=wr.heap.size) (e:=3) (by have h:=HO6.out;rw[show(zs (j::[])).length =1 by rw[qbX,List.length_cons];omega];exact h) (by rw[qbX,List.length_cons];omega) (fun g hg=>⟨qdz HO6.out g hg,qdT HO6.out g hg⟩)
      have hr6:=HR7.out.stays HB6.out
      have al:=(Below.refl W6.heap.size W6).alloc (Nat.le_refl _) (.cells #[.slice (some ⟨wr.heap.size,0,none⟩) (1) 1] 49)
      have hn6:=qhe W6 [.slice (some ⟨wr.heap.size,0,none⟩) (1) 1] 49
      have HR6:=qh (hr6.stays al)
      have HI6:=qh (hi6.stays al)
      have HN6:=qh hn6
      have HB7:=qh (HB6.out.trans (al.mono HB6.out.size))
      have HZ6:=qh (show(W6.alloc (.cells #[.slice (some ⟨wr.heap.size,0,none⟩) (1) 1] 49)).heap.size =W6.heap.size+1 by simp)
      have HG6:=qh (qdz HO6.out wr.heap.size rfl)
      have HOL:=qh (fun g hg=>qdT HR7.out.own g hg)
      have HOG:=qh (fun g hg=>qdz HR7.out.own g hg)
      clear hi6 hr6 al hn6
      have hlk2:=HLK.out
      have hpx2:(qI x).length ≤100000000:=(by rw[HPL.out];exact hcx)
      go_wp2_with(at_builtin;go_loud(refine qV _ rfl _ _ 35 rfl (w.heap.size+1) 49 i1 _ 1 24 qgX hi1 hz10 hz11 hz12 rfl (by decide) _ (qbR n x j k).length _ rfl HR6.out.own ⟨W6.heap.size,0,none⟩ 1 1 [.slice (some ⟨wr.heap.size,0,none⟩) (1) 1] rfl rfl HN6.out (by intro u hu;simp at hu;subst hu;rfl) (by simp only[maxLen];omega) (by omega) (by have:=HZ6.out;have:=HB6.out.size;have:=HK7.out.size;have:=HS5.out;omega) ?_;intro v8 W8 hown hkeep hblk _;have hps:=HR6.out.push (p:=j::[]) (HI6.out.mono (fun b hb=>⟨by have:=HK7.out.size;have:=HS5.out;omega,by have:=HZ6.out;omega,fun e=>by have:=HOL.out b e;omega⟩)) ⟨_,_,_,rfl,HCC.out⟩ hown hkeep hblk;obtain⟨p8,c8,rfl,-⟩:=qcA hown;have HR8:=qh hps;have HK8:=qh hkeep;have HBL:=qh hblk;clear hown hkeep hblk hps))
      have hsz:=HB6.out.size
      have hsz5:=HS5.out
      have hk8:qe (fun b=>¬(Nr+1≤b∧b<w2.heap.size)) wr W8:=((qe.of_below' (O:=fun b=>¬(Nr+1≤b∧b<w2.heap.size)) HB7.out)).trans (HK8.out.mono fun b _ e=>HA7.out b e)
      have hb8:Below (w.heap.size+1) wr W8:=(HB7.out.mono (by have:=HK7.out.size;omega)).trans (HK8.out.below (by have:=HZ6.out;have:=HK7.out.size;omega) fun b e=>HOG.out b e)
      have HK9:=qh (HK7.out.trans hk8)
      have HW9:=qh (HW7.out.trans hb8)
      have HA9:Hid (∀g,some g=(Value.slice p8 ((qbR n x j k).length +1) c8).ownBlock →¬(Nr+1≤g∧g<w2.heap.size)):=qh (fun g hg=>by have hz6:=HZ6.out;have hk7:=HK7.out.size;rcases HBL.out with h|h;exact HA7.out g (hg.trans h);rw[h] at hg;cases hg;omega)
      clear hk8 hb8
      go_roundw
      case rel=>exact⟨k+1,us7++[.slice (some ⟨wr.heap.size,0,none⟩) (1) 1],HLK.out,by go_num,by rw[HQ.out];exact HR8,HA9,HK9,HW9⟩
      case measure=>simp[intOf];have:=HLK.out;omega
     |some ad=>
      clear hnil
      go_upto_region 11 with(at_builtin;go_loud(refine qV _ rfl _ _ 49 rfl wr.heap.size 3 i0 _ 1 8 qih hi hz0 hz1 hz2 rfl (by decide) _ 1 _ rfl HOA.out ad qq.length cc5 (intC (zs qq)) rfl (by unfold intC;rw[List.length_map,qbX];omega) (HC.out ad rfl) (by intro u hu;unfold intC at hu;obtain⟨x,_,rfl⟩:=List.mem_map.1 hu;rfl) (by simp only[maxLen];omega) (by omega) (by have:=HZA.out;omega) ?_;intro v6 W6 hown hkeep hblk _;obtain⟨g6,c6,rfl,-,-,-,hcc⟩:=qjG hown (by omega);have HCC:Hid ((j::qq).length ≤c6):=qh (by rw[List.length_cons];omega);have HO6:=qh hown;have HB6:=qh (HBA.out.trans (hkeep.below (n:=wr.heap.size) (by have:=HZA.out;omega) (fun b hb=>by cases hb;exact Nat.le_refl _)));clear hown hkeep hblk hcc))
      have hi6:=qT.of_own (S:=fun b=>wr.heap.size≤b∧b<W6.heap.size) (xs:=zs (j::qq)) (v:=.slice (some ⟨g6,0,none⟩) (1+qq.length) c6) (w:=W6) (base:=wr.heap.size) (e:=3) (by have h:=HO6.out;rw[show(zs (j::qq)).length =1+qq.length by rw[qbX,List.length_cons];omega];exact h) (by rw[qbX,List.length_cons];omega) (fun g hg=>⟨qdz HO6.out g hg,qdT HO6.out g hg⟩)
      have hr6:=HR7.out.stays HB6.out
      have al:=(Below.refl W6.heap.size W6).alloc (Nat.le_refl _) (.cells #[.slice (some ⟨g6,0,none⟩) (1+qq.length) c6] 49)
      have hn6:=qhe W6 [.slice (some ⟨g6,0,none⟩) (1+qq.length) c6] 49
      have HR6:=qh (hr6.stays al)
      have HI6:=qh (hi6.stays al)
      have HN6:=qh hn6
      have HB7:=qh (HB6.out.trans (al.mono HB6.out.size))
      have HZ6:=qh (show(W6.alloc (.cells #[.slice (some ⟨g6,0,none⟩) (1+qq.length) c6] 49)).heap.size =W6.heap.size+1 by simp)
      have HG6:=qh (qdz HO6.out g6 rfl)
      have HOL:=qh (fun g hg=>qdT HR7.out.own g hg)
      have HOG:=qh (fun g hg=>qdz HR7.out.own g hg)
      clear hi6 hr6 al hn6
      have hlk2:=HLK.out
      have hpx2:(qI x).length ≤100000000:=(by rw[HPL.out];exact hcx)
      go_wp2_with(at_builtin;go_loud(refine qV _ rfl _ _ 35 rfl (w.heap.size+1) 49 i1 _ 1 24 qgX hi1 hz10 hz11 hz12 rfl (by decide) _ (qbR n x j k).length _ rfl HR6.out.own ⟨W6.heap.size,0,none⟩ 1 1 [.slice (some ⟨g6,0,none⟩) (1+qq.length) c6] rfl rfl HN6.out (by intro u hu;simp at hu;subst hu;rfl) (by simp only[maxLen];omega) (by omega) (by have:=HZ6.out;have:=HB6.out.size;have:=HK7.out.size;have:=HS5.out;omega) ?_;intro v8 W8 hown hkeep hblk _;have hps:=HR6.out.push (p:=j::qq) (HI6.out.mono (fun b hb=>⟨by have:=HK7.out.size;have:=HS5.out;omega,by have:=HZ6.out;omega,fun e=>by have:=HOL.out b e;omega⟩)) ⟨_,_,_,rfl,HCC.out⟩ hown hkeep hblk;obtain⟨p8,c8,rfl,-⟩:=qcA hown;have HR8:=qh hps;have HK8:=qh hkeep;have HBL:=qh hblk;clear hown hkeep hblk hps))
      have hsz:=HB6.out.size
      have hsz5:=HS5.out
      have hk8:qe (fun b=>¬(Nr+1≤b∧b<w2.heap.size)) wr W8:=((qe.of_below' (O:=fun b=>¬(Nr+1≤b∧b<w2.heap.size)) HB7.out)).trans (HK8.out.mono fun b _ e=>HA7.out b e)
      have hb8:Below (w.heap.size+1) wr W8:=(HB7.out.mono (by have:=HK7.out.size;omega)).trans (HK8.out.below (by have:=HZ6.out;have:=HK7.out.size;omega) fun b e=>HOG.out b e)
      have HK9:=qh (HK7.out.trans hk8)
      have HW9:=qh (HW7.out.trans hb8)
      have HA9:Hid (∀g,some g=(Value.slice p8 ((qbR n x j k).length +1) c8).ownBlock →¬(Nr+1≤g∧g<w2.heap.size)):=qh (fun g hg=>by have hz6:=HZ6.out;have hk7:=HK7.out.size;rcases HBL.out with h|h;exact HA7.out g (hg.trans h);rw[h] at hg;cases hg;omega)
      clear hk8 hb8
      go_roundw
      case rel=>exact⟨k+1,us7++[.slice (some ⟨g6,0,none⟩) (1+qq.length) c6],HLK.out,by go_num,by rw[HQ.out];exact HR8,HA9,HK9,HW9⟩
      case measure=>simp[intOf];have:=HLK.out;omega
    ·obtain rfl:k=(qI x).length :=by omega
     have hr:=HR7.out
     rw[HDE.out] at hr
     have HR8:=qh hr
     obtain⟨p8,c8,e8,-⟩:=qcA hr.own
     cases e8
     clear hr HR7
     go_wp2
     go_roundw
     case rel=>exact⟨j+1,us7,by omega,by go_num,by rw[←HDE.out] at HR8⊢;exact HR8,HW7⟩
     case measure=>simp[intOf];omega
  ·obtain rfl:j=n.kids.length:=by omega
   have hr:=HR.out
   generalize (qby n n.kids.length).length =m at*
   rw[qld] at hr
   have HRT:=qh hr
   clear hr hn
   go_wp2
   go_ret
   exact⟨_,us,rfl,HRT.out,HB.out.trans (HW.out.mono (by omega))⟩
end Go.Proofs.YtakbenifinnpfaaGreatDoor
namespace Go.Proofs.YtakbenifinnpfaaGreatDoor
open Go.RowKit Go.Sub Go.Sort
end Go.Proofs.YtakbenifinnpfaaGreatDoor
namespace Go.Proofs.YtakbenifinnpfaaGreatDoor
open Go.RowKit Go.Sub Go.Sort
structure Asked(w:World)(B:Nat)(n:qb)(p:Option Addr)(c:Nat):Prop where
 box:NBox w B 24 n.kind n.text (.slice p n.kids.length c)
 kids:qp w (fun _=>True) (.slice p n.kids.length c) n.kids
theorem Asked.stays{w w':World}{B:Nat}{n:qb}{p:Option Addr}{c:Nat}(h:Asked w B n p c)(hb:Below w.heap.size w w'):Asked w' B n p c:=⟨h.box.stays hb,h.kids.stays hb⟩
end Go.Proofs.YtakbenifinnpfaaGreatDoor
namespace Go.Proofs.YtakbenifinnpfaaGreatDoor
open Go.RowKit Go.Sub
attribute [local go_sem] Instr.field asAgg
def srcA:ByteArray:=⟨#[40,49,32,45,32,50,41,32,45,32,40,51,32,45,32,52,41]⟩
def srcB:ByteArray:=⟨#[49,32,45,32,50,32,45,32,40,51,32,45,32,52,41]⟩
theorem qkl:eqN (qej (srcP srcA).1) (srcP srcB).1=true:=by decide+kernel
theorem qge:qc4 (.mk 24 ⟨#[45]⟩ []) 9 0=true∧qc4 (.mk 24 ⟨#[45]⟩ []) 8 0=false:=by decide+kernel
theorem qf4(n m:qb)(u v:Value)(w:World)(S S':Nat→Prop)(hu:qp w S u n.kids)(hv:qp w S' v m.kids):Calls Tryz.prog 18 #[.agg #[.int .i64 n.kind,.string n.text,u],.agg #[.int .i64 m.kind,.string m.text,v]] w fun e w'=>e=.returned (.bool (eqN n m))∧Below w.heap.size w w':=qjW n m u v w S S' hu hv
set_option maxRecDepth 100000 in
set_option maxHeartbeats 8000000 in
theorem qiO(w:World)(hT:TabX w):Calls Tryz.prog 8 #[] w fun e w'=>e=.returned (.bool true)∧Below w.heap.size w w':=by
 obtain⟨x,hx⟩:∃x,srcP srcA=x:=⟨_,rfl⟩
 obtain⟨y,hy⟩:∃y,srcP srcB=y:=⟨_,rfl⟩
 have ks:=qkl
 have hcx:qF x.1≤1000000000:=by have:=qjL srcA;rw[hx] at this;have:=qc2 x.1;omega
 rw[hx,hy] at ks
 obtain⟨n,e1,a1⟩:=x
 obtain⟨m,e2,a2⟩:=y
 dsimp only at ks hcx
 unfold srcA at hx
 unfold srcB at hy
 have H0:=qh (Fr.new0 w)
 have HT:=qh hT
 clear hT
 go_enter Tryz.func8,Tryz.ntmps8
 go_upto_region 2 with(go_at_call 20;go_loud(refine(qfh _ _ (by decide)).mono ?_;rintro e W1 ⟨u,rfl,hk,hb⟩;rw[hx] at hk⊢;obtain⟨pn,cn,rfl,lu⟩:=hk.shape;have H1:=qh (H0.out.call hb (ql _ _) hk);clear hk hb lu))
 obtain⟨W2,hW,hf⟩:=qd (H1.out.lay [.int .i64 n.kind,.string n.text,.slice pn n.kids.length cn] 24)
 rewrite[←hW]
 have H2:=qh hf
 clear hW hf H1
 go_upto_region 3 with(go_at_call 20;go_loud(refine(qfh _ _ (by decide)).mono ?_;rintro e W3 ⟨u,rfl,hk,hb⟩;rw[hy] at hk⊢;obtain⟨pm,cm,rfl,lu⟩:=hk.shape;have H3:=qh (H2.out.call hb (ql _ _) hk);clear hk hb lu))
 obtain⟨W4,hW,hf⟩:=qd (H3.out.lay [.int .i64 m.kind,.string m.text,.slice pm m.kids.length cm] 24)
 rewrite[←hW]
 (try simp only[nn] at hf)
 have H4:=qh hf
 clear hW hf H3
 have hz:=(qcz _ _).1 ks
 have QW:Hid (∀V,Below W4.heap.size W4 V→Calls Tryz.prog 14 #[.agg #[.int .i64 n.kind,.string n.text,.slice pn n.kids.length cn]] V (NRes V m)):=qh fun V hV=>hz▸qg0 n hcx _ V _ ((H4.out.stays hV).get (F:=ql _ _) (by simp)) (HT.out.below (H4.out.low.trans (hV.mono H4.out.low.size)))
 have QS:Hid (∀V u S,qp V S u m.kids→Below W4.heap.size W4 V→Calls Tryz.prog 18 #[.agg #[.int .i64 m.kind,.string m.text,u],.agg #[.int .i64 m.kind,.string m.text,.slice pm m.kids.length cm]] V fun e w'=>e=.returned (.bool true)∧Below V.heap.size V w'):=qh fun V u S hu hV=>by
  have:=qf4 m m u _ V S _ hu ((H4.out.stays hV).get (F:=ql (.slice pm m.kids.length cm) m.kids) (by simp))
  rwa [(qcz m m).2 rfl] at this
 have QN9:Hid (∀V,Below W4.heap.size W4 V→Calls Tryz.prog 21 #[.agg #[.int .i64 24,.string ⟨#[45]⟩,.slice none 0 0],.int .i64 9,.int .i64 0] V fun e w'=>e=.returned (.bool true)∧Below V.heap.size V w'):=qh fun V hV=>by
  have:=qdR (.mk 24 ⟨#[45]⟩ []) (.slice none 0 0) 9 0 V (HT.out.below (H4.out.low.trans (hV.mono H4.out.low.size)))
  rwa [qge.1] at this
 have QN8:Hid (∀V,Below W4.heap.size W4 V→Calls Tryz.prog 21 #[.agg #[.int .i64 24,.string ⟨#[45]⟩,.slice none 0 0],.int .i64 8,.int .i64 0] V fun e w'=>e=.returned (.bool false)∧Below V.heap.size V w'):=qh fun V hV=>by
  have:=qdR (.mk 24 ⟨#[45]⟩ []) (.slice none 0 0) 8 0 V (HT.out.below (H4.out.low.trans (hV.mono H4.out.low.size)))
  rwa [qge.2] at this
 have HL:=qh H4.out.low
 have hs:∀V,Below W4.heap.size W4 V→(V.cell? ⟨W1.heap.size,0,none⟩=some (.int .i64 n.kind)∧V.cell? ⟨W1.heap.size,1,none⟩=some (.string n.text)∧V.cell? ⟨W1.heap.size,2,none⟩=some (.slice pn n.kids.length cn))∧(V.cell? ⟨W3.heap.size,0,none⟩=some (.int .i64 m.kind)∧V.cell? ⟨W3.heap.size,1,none⟩=some (.string m.text)∧V.cell? ⟨W3.heap.size,2,none⟩=some (.slice pm m.kids.length cm)):=fun V hV=>⟨((H4.out.stays hV).c3 0 rfl).1,((H4.out.stays hV).c3 1 rfl).1⟩
 have SHOW:=qh hs
 have hb0:Below W4.heap.size W4 W4.drew:=(Below.refl _ _).drew
 clear hs hcx hz ks hx hy
 go_region_held3 (fun V=>(V.cell? ⟨W1.heap.size,0,none⟩=some (.int .i64 n.kind)∧V.cell? ⟨W1.heap.size,1,none⟩=some (.string n.text)∧V.cell? ⟨W1.heap.size,2,none⟩=some (.slice pn n.kids.length cn))∧(V.cell? ⟨W3.heap.size,0,none⟩=some (.int .i64 m.kind)∧V.cell? ⟨W3.heap.size,1,none⟩=some (.string m.text)∧V.cell? ⟨W3.heap.size,2,none⟩=some (.slice pm m.kids.length cm)))
  (with_reducible first|exact SHOW.out _ hb0|assumption|(refine SHOW.out _ ?_;assumption))
  (first
   |(go_at_call 14;(with_reducible refine(QW.out _ (by(with_reducible first|exact hb0|assumption))).mono ?_);rintro _ U1 ⟨u,rfl,hk,bu⟩;obtain⟨pz,cz,rfl,lz⟩:=hk.shape;have HK:=qh hk;have bb:Below W4.heap.size W4 U1:=Below.trans (by(with_reducible first|exact hb0|assumption)) (bu.mono (Below.size (show Below W4.heap.size W4 _ by(with_reducible first|exact hb0|assumption))));clear hk bu lz)
   |(go_at_call 18;(with_reducible refine(QS.out _ _ _ (by first|with_reducible exact HK.out|with_reducible exact HK.out.stays (Below.refl _ _).drew) (by(with_reducible first|exact hb0|assumption))).mono ?_);rintro _ U2 ⟨rfl,bu⟩;have bb:Below W4.heap.size W4 U2:=Below.trans (by(with_reducible first|exact hb0|assumption)) (bu.mono (Below.size (show Below W4.heap.size W4 _ by(with_reducible first|exact hb0|assumption))));clear bu)
   |(go_at_call 21;(with_reducible refine(QN9.out _ (by(with_reducible first|exact hb0|assumption))).mono ?_);rintro _ U3 ⟨rfl,bu⟩;have bb:Below W4.heap.size W4 U3:=Below.trans (by(with_reducible first|exact hb0|assumption)) (bu.mono (Below.size (show Below W4.heap.size W4 _ by(with_reducible first|exact hb0|assumption))));clear bu)
   |(go_at_call 21;(with_reducible refine(QN8.out _ (by(with_reducible first|exact hb0|assumption))).mono ?_);rintro _ U4 ⟨rfl,bu⟩;have bb:Below W4.heap.size W4 U4:=Below.trans (by(with_reducible first|exact hb0|assumption)) (bu.mono (Below.size (show Below W4.heap.size W4 _ by(with_reducible first|exact hb0|assumption))));clear bu))
 all_goals
  have hbu:Below W4.heap.size W4 U4:=by assumption
  go_wp2
  go_ret
  exact⟨rfl,HL.out.trans (hbu.mono HL.out.size)⟩
end Go.Proofs.YtakbenifinnpfaaGreatDoor
namespace Go.Sub
mutual
def negN:qb→Prop
 |.mk k t l=>(k=25→t=⟨#[]⟩)∧negL l
def negL:List qb→Prop
 |[]=>True
 |x::r=>negN x∧negL r
end
theorem qd7:∀{l:List qb},negL l→∀x∈l,negN x
 |y::r,h,x,hx=>by
  rw[negL] at h
  rcases List.mem_cons.1 hx with rfl|hx
  ·exact h.1
  ·exact qd7 h.2 x hx
theorem qeQ:∀{l:List qb} {x:qb},negL l→negN x→negL (l++[x])
 |[],x,_,hx=>by rw[List.nil_append,negL,negL];exact⟨hx,trivial⟩
 |y::r,x,h,hx=>by
  rw[negL] at h
  rw[List.cons_append,negL]
  exact⟨h.1,qeQ h.2 hx⟩
theorem qbW{n:qb}(h:negN n):negL n.kids:=by cases n;rw[negN] at h;exact h.2
theorem qbV:negN qj:=by unfold qj;rw[negN];exact⟨fun e=>absurd e (by decide),trivial⟩
def negC:PCmd→Prop
 |.expL _ n _ _=>negN n
 |.params _ l=>negL l
 |.within _ n _=>negN n
 |.postL _ n=>negN n
 |.strL _ n=>negN n∧n.kind≠25
 |.objL _ l=>negL l
 |.argsL _ _ l=>negL l
 |.ifsL _ l=>negL l
 |.fold _ k _=>k≠25
 |.patL _ k l=>k≠25∧negL l
 |_=>True
def NegO(o:Option PRes):Prop:=∀r,o=some r→negN r.n∧negL r.l
theorem NegO.none:NegO none:=fun _ h=>by cases h
theorem NegO.some{p:PSt}{n:qb}{l:List qb}{b:Bool}(hn:negN n)(hl:negL l):NegO (some ⟨p,n,l,b⟩):=fun r h=>by
 obtain rfl:=Option.some.inj h
 exact⟨hn,hl⟩
theorem NegO.own{a:PRes}(hn:negN a.n)(hl:negL a.l):NegO (Option.some a):=fun r h=>by
 obtain rfl:=Option.some.inj h
 exact⟨hn,hl⟩
theorem NegO.ite{c:Prop}[Decidable c]{x y:Option PRes}(h1:NegO x)(h2:NegO y):NegO (if c then x else y):=by split<;>assumption
theorem NegO.any{α:Type}{x:Option α}{k:α→Option PRes}(h:∀a,NegO (k a)):NegO (x.bind k):=by
 cases x with
 |none=>exact .none
 |some a=>exact h a
theorem NegO.run{x:Option PRes}{k:PRes→Option PRes}(hx:NegO x)(h:∀a,negN a.n→negL a.l→NegO (k a)):NegO (x.bind k):=by
 cases x with
 |none=>exact .none
 |some a=>exact h a (hx a rfl).1 (hx a rfl).2
theorem NegO.push{l:List qb}{x:qb}{k:List qb→Option PRes}(hl:negL l)(hx:negN x)(h:∀a,negL a→NegO (k a)):NegO ((qac l x).bind k):=by
 unfold qac
 split
 ·exact h _ (qeQ hl hx)
 ·exact .none
theorem NegO.leaf{L:List PTok}{p:PSt}{k:Option qb→Option PRes}(h1:∀n,negN n→NegO (k (Option.some n)))(h2:NegO (k Option.none)):NegO ((qaU L p).bind k):=by
 unfold qaU
 split
 ·cases qaX L p with
  |none=>exact .none
  |some t=>exact h1 _ (by simp[negN,negL])
 split
 ·cases qaX L p with
  |none=>exact .none
  |some t=>exact h1 _ (by simp[negN,negL])
 split
 ·exact h1 _ (by simp[negN,negL])
 split
 ·exact h1 _ (by simp[negN,negL])
 ·exact h2
theorem NegO.iteB{α:Type}{c:Prop}[Decidable c]{x y:Option α}{k:α→Option PRes}(h1:NegO (x.bind k))(h2:NegO (y.bind k)):NegO ((if c then x else y).bind k):=by split<;>assumption
theorem NegO.assoc{α β:Type}{x:Option α}{g:α→Option β}{k:β→Option PRes}(h:NegO (x.bind fun a=>(g a).bind k)):NegO ((x.bind g).bind k):=by cases x<;>exact h
theorem NegO.pure{α:Type}{a:α}{k:α→Option PRes}(h:NegO (k a)):NegO ((Option.some a).bind k):=h
set_option maxHeartbeats 4000000 in
theorem qjI(R:POps)(L:List PTok):∀(f:Nat) (c:PCmd),negC c→NegO (runP R L f c):=by
 intro f
 induction f with
 |zero=>intro c _;cases c<;>exact fun r h=>by simp[runP] at h
 |succ f ih=>
  intro c hc
  cases c<;>simp only[runP,Option.bind_eq_bind,negC] at hc⊢
  all_goals
   repeat' (first
    |assumption
    |with_reducible exact NegO.own (by assumption) (by assumption)
    |with_reducible refine NegO.some ?_ ?_
    |with_reducible refine NegO.ite ?_ ?_
    |with_reducible refine NegO.iteB ?_ ?_
    |with_reducible refine NegO.assoc ?_
    |with_reducible refine NegO.pure ?_
    |with_reducible refine NegO.run (ih _ ?_) fun a han hal=>?_
    |with_reducible refine NegO.push ?_ ?_ fun l hl=>?_
    |with_reducible refine NegO.leaf (fun n hn=>?_) ?_
    |with_reducible refine NegO.any fun a=>?_
    |with_reducible refine ih _ ?_
    |(unfold negC;dsimp only)
    |(constructor<;>(clear ih;simp_all[negN,negL,qj,qbW];done))
    |(clear ih;simp_all[negN,negL,qj,qbW];done)
    |(dsimp only))
end Go.Sub
namespace Go.Proofs.YtakbenifinnpfaaGreatDoor
open Go.RowKit Go.Sub
theorem qgb(t:ByteArray){l:List qb}(h:negL l):negN (.mk 33 t l):=by rw[negN];exact⟨fun e=>absurd e (by decide),h⟩
theorem qi2{k:Int}(hk:k≠25)(t:ByteArray):negN (.mk k t []):=by rw[negN,negL];exact⟨fun e=>absurd e hk,trivial⟩
theorem qj6{a b:qb}(h1:negN a)(h2:negN b):negL [a,b]:=by rw[negL,negL,negL];exact⟨h1,h2,trivial⟩
theorem neg_one{a:qb}(h1:negN a):negL [a]:=by rw[negL,negL];exact⟨h1,trivial⟩
theorem ql4{R:POps}{L:List PTok}{F:Nat}{p:PSt}{r:PSt×qb}(h:qcB R L F p=some r):negN r.2:=by
 unfold qcB at h
 obtain⟨q,-,h⟩:=Option.bind_eq_some_iff.1 h
 split at h
 ·cases h;exact qgb _ (by rw[negL];trivial)
 ·split at h
  ·cases h;exact qgb _ (by rw[negL];trivial)
  ·obtain⟨a,ha,h⟩:=Option.bind_eq_some_iff.1 h
   have hn:=(qjI R L F (.str q) (by unfold negC;trivial) a ha).1
   split at h
   ·obtain⟨x,-,h⟩:=Option.bind_eq_some_iff.1 h
    cases h;exact qgb _ (neg_one hn)
   ·obtain⟨x,-,h⟩:=Option.bind_eq_some_iff.1 h
    split at h
    ·obtain⟨y,-,h⟩:=Option.bind_eq_some_iff.1 h
     obtain⟨z,-,h⟩:=Option.bind_eq_some_iff.1 h
     obtain⟨z',-,h⟩:=Option.bind_eq_some_iff.1 h
     cases h;exact qgb _ (qj6 hn (qi2 (by decide) _))
    ·obtain⟨⟨y,s⟩,-,h⟩:=Option.bind_eq_some_iff.1 h
     obtain⟨z,-,h⟩:=Option.bind_eq_some_iff.1 h
     cases h;exact qgb _ (qj6 hn (qi2 (by decide) _))
theorem qhN{l m:List qb}{x:qb}(hl:negL l)(hx:negN x)(h:qac l x=some m):negL m:=by
 unfold qac at h
 split at h
 ·cases h;exact qeQ hl hx
 ·cases h
theorem qg2{R:POps}{L:List PTok}{F:Nat}:∀{g:Nat} {p:PSt} {l:List qb} {r:PSt×List qb},negL l→qbq R L F g p l=some r→negL r.2
 |0,_,_,_,_,h=>by cases h
 |g+1,p,l,r,hl,h=>by
  rw[qbq] at h
  split at h
  ·obtain⟨⟨q,n⟩,hb,h⟩:=Option.bind_eq_some_iff.1 h
   obtain⟨l',hp,h⟩:=Option.bind_eq_some_iff.1 h
   obtain⟨_,-,h⟩:=Option.bind_eq_some_iff.1 h
   exact qg2 (qhN hl (ql4 hb) hp) h
  ·cases h;exact hl
theorem qiZ{R:POps}{L:List PTok}{F:Nat}{r:PSt×qb}(h:qbG R L F=some r):negN r.2:=by
 unfold qbG at h
 obtain⟨⟨p,l⟩,hb,h⟩:=Option.bind_eq_some_iff.1 h
 have hl:negL l:=qg2 (by rw[negL];trivial) hb
 obtain⟨⟨q,n⟩,hq,h⟩:=Option.bind_eq_some_iff.1 h
 have hn:negN n:=by
  split at hq
  ·obtain⟨a,ha,hq⟩:=Option.bind_eq_some_iff.1 hq
   cases hq
   exact(qjI R L F _ (by split<;>(unfold negC;trivial)) a ha).1
  ·cases hq;exact qbV
 dsimp only at h
 split at h
 ·cases h;exact hn
 ·obtain⟨l',hp,h⟩:=Option.bind_eq_some_iff.1 h
  cases h
  show negN (.mk 34 ⟨#[]⟩ l')
  rw[negN]
  exact⟨fun e=>absurd e (by decide),qhN hl hn hp⟩
theorem src_neg(s:ByteArray):negN (srcP s).1:=by
 unfold srcP
 cases h:qc1 opsR tkS itS (40*(((itS (tkS s).1).map Prod.fst).length +1)+10) s with
 |none=>exact qbV
 |some r=>
  unfold qc1 at h
  split at h
  ·cases h;exact qbV
  ·obtain⟨x,hx,rfl⟩:=Option.map_eq_some_iff.1 h
   show negN _
   simp only[Option.getD_some]
   split
   ·unfold qcn at hx
    split at hx
    ·cases hx;exact qbV
    ·obtain⟨y,hy,rfl⟩:=Option.map_eq_some_iff.1 hx
     split
     ·exact qbV
     ·exact qiZ hy
   ·split<;>exact qbV
theorem qaQ(k:Int)(t:ByteArray)(l:List qb):q9 (.mk k t l)=qc7 k t (l.map q9):=qfN _
theorem qev{f:Nat→qb→qb}:∀{l:List qb} {i:Nat},(∀j,∀y∈l,q9 (f j y)=q9 y)→(mapI f i l).map q9=l.map q9
 |[],_,_=>rfl
 |y::r,i,h=>by
  rw[mapI,List.map_cons,List.map_cons,h i y List.mem_cons_self,qev fun j z hz=>h j z (List.mem_cons_of_mem _ hz)]
theorem qgi(z:qb):q9 (qbu z)=q9 z:=by unfold qbu;rw[qaQ];rfl
theorem qiD{k:Int}{t:ByteArray}{l:List qb}(h:negN (.mk k t l))(hk:k=25):t=⟨#[]⟩:=by rw[negN] at h;exact h.1 hk
theorem qbg:∀(F:Nat) (m:WM) (x:qb),negN x→q9 (qC F m x)=q9 x
 |0,_,_,_=>rfl
 |F+1,.whole f,.mk k t l,h=>by
  rw[qC,qaQ,qaQ]
  exact congrArg _ (qev fun j y hy=>qbg F _ y (qd7 (qbW h) y hy))
 |F+1,.put l f,x,h=>by
  rw[qC]
  split
  ·rw[qgi,qbg F _ x h]
  ·exact qbg F _ x h
 |F+1,.term,x,h=>by
  rw[qC]
  split
  ·rw[qgi,qbg F _ x h]
  ·exact qbg F _ x h
 |F+1,.unit,.mk k t l,h=>by
  rw[qC]
  split
  ·rename_i h1
   obtain⟨h1,h2⟩:=h1
   have ht:=qiD h h1
   have h1:k=25:=h1
   subst h1 ht
   rw[qaQ,qaQ]
   exact congrArg _ (qev fun j y hy=>qbg F _ y (qd7 (qbW h) y hy))
  ·exact qbg F _ _ h
 |F+1,.value,.mk k t l,h=>by
  rw[qC]
  split
  ·rename_i h1
   obtain⟨h1,h2,h3⟩:=h1
   have h1:k=24:=h1
   have h2:t=⟨#[124]⟩:=h2
   subst h1 h2
   rw[qaQ,qaQ]
   exact congrArg _ (qev fun j y hy=>qbg F _ y (qd7 (qbW h) y hy))
  ·exact qbg F _ _ h
mutual
theorem qgU:∀x:qb,q9 (q9 x)=q9 x
 |.mk k t l=>by
  rw[qaQ]
  have hl:=qgn l
  unfold qc7
  split
  ·rename_i h
   match l,h.2,hl with
   |[y],_,hl=>simpa using hl
  ·rename_i h
   rw[qaQ,hl]
   exact if_neg h
theorem qgn:∀l:List qb,(l.map q9).map q9=l.map q9
 |[]=>rfl
 |x::r=>by rw[List.map_cons,List.map_cons,qgU x,qgn r]
end
mutual
theorem qiq:∀x:qb,negN x→negN (q9 x)
 |.mk k t l,h=>by
  rw[qaQ]
  have hl:=qgS l (qbW h)
  unfold qc7
  split
  ·rename_i h2
   match l,h2.2,hl with
   |[y],_,hl=>rw[List.map_cons,negL] at hl;exact hl.1
  ·rw[negN];exact⟨qiD h,hl⟩
theorem qgS:∀l:List qb,negL l→negL (l.map q9)
 |[],_=>by rw[List.map_nil,negL];trivial
 |x::r,h=>by rw[negL] at h;rw[List.map_cons,negL];exact⟨qiq x h.1,qgS r h.2⟩
end
theorem qlf{x:qb}(h:negN x)(hb:q9 x=x):∃z,qej (.mk 23 ⟨#[]⟩ [x])=.mk 23 ⟨#[]⟩ [z]∧(decide (z.kind=12)=(qbL x.kind||decide (x.kind=12)))∧q9 z=q9 x:=by
 have e:q9 (.mk 23 ⟨#[]⟩ [x])=.mk 23 ⟨#[]⟩ [x]:=by rw[qaQ,List.map_cons,hb];rfl
 unfold qej
 rw[e]
 generalize qbn (.mk 23 ⟨#[]⟩ [x])=d
 have e1:qC (4*d+4) (.put 1 0) (.mk 23 ⟨#[]⟩ [x])=.mk 23 ⟨#[]⟩ [qC (4*d+2) .term x]:=rfl
 rw[e1]
 refine⟨_,rfl,?_,qbg _ _ _ h⟩
 show decide ((if qbL x.kind=true then qbu (qC (4*d+1) (.whole 0) x) else qC (4*d+1) (.whole 0) x).kind =12)=_
 cases hl:qbL x.kind with
 |true=>rfl
 |false=>rfl
end Go.Proofs.YtakbenifinnpfaaGreatDoor
namespace Go.Proofs.YtakbenifinnpfaaGreatDoor
open Go.RowKit Go.Sub
attribute [local go_sem] Instr.field asAgg
def qkj(w:World)(e:Ending)(w':World):Prop:=∃s n f i u,srcP s=(n,f,i)∧e=.returned (.tuple #[.agg #[.int .i64 n.kind,.string n.text,u],.bool (f==0)])∧qp w' (fun b=>w.heap.size≤b) u n.kids∧Below w.heap.size w w'
theorem qlm(w:World)(T:TypeId):Fr (fun _=>False) w (w.alloc (.cells #[.int .i64 0,.string ⟨#[]⟩,.slice none 0 0] T)) [⟨w.heap.size,T,[.int .i64 0,.string ⟨#[]⟩,.slice none 0 0]⟩] [] []:=(Fr.new0 w).lay _ _
set_option maxRecDepth 100000 in
set_option maxHeartbeats 4000000 in
theorem qim(c:List UInt8)(v:Value)(w:World)(h:qbe w v c):Calls Tryz.prog 10 #[v] w (qkj w):=by
 obtain⟨p,cap,b,o,rfl,h1,h2,h3,h4⟩:=h
 have h0:=qlm w 24
 have H0:=qh h0
 have e60:(c.take 60).length =min c.length 60:=by rw[List.length_take];omega
 have QC:Hid (qbe (w.alloc (.cells #[.int .i64 0,.string ⟨#[]⟩,.slice none 0 0] 24)) (.slice p (min c.length 60) cap) (c.take 60)):=qh (qbe.stays ⟨p,cap,b,o,by rw[e60],fun h=>h1 (by omega),by omega,h3,fun i x hx=>h4 i x (by
  rw[List.getElem?_take] at hx
  split at hx
  ·exact hx
  ·cases hx)⟩ h0.low)
 have hm:(c.take 60).length ≤60:=by omega
 have QS:=qh (fun U=>qj2 p c.length cap U h2 h3)
 have HM:=qh hm
 clear h1 h2 h3 h4 e60 hm h0
 generalize min c.length 60=m at*
 generalize c.take 60=d at*
 go_enter Tryz.func10,Tryz.ntmps10
 go_upto_region 2 with(first
  |(go_at_call 23;go_loud(refine(QS.out _).mono ?_;rintro e W0 ⟨rfl,rfl⟩))
  |(go_at_call 22;go_loud(refine(qkB _ _ _ QC.out HM.out).mono ?_;rintro e W1 ⟨s,rfl,hs,hb⟩;have H1:=qh (H0.out.stays hb);clear hb))
  |(go_at_call 20;go_loud(refine(qfh s _ (by omega)).mono ?_;obtain⟨x,hx⟩:∃x,srcP s=x:=⟨_,rfl⟩;rw[hx];obtain⟨n,f,i⟩:=x;rintro e W2 ⟨u,rfl,hk,hb⟩;dsimp only at hk⊢;obtain⟨pu,cu,rfl,lu⟩:=hk.shape;have H2:=qh (H1.out.call hb (ql _ _) hk);have HX:=qh hx;clear hk hb lu hx)))
 obtain⟨W3,hW,hf⟩:=qd (H2.out.lay [.int .i64 n.kind,.string n.text,.slice pu n.kids.length cu] 24)
 rewrite[←hW]
 (try simp only[nn] at hf)
 have H3:=qh hf
 clear hW hf H2 H1 H0
 obtain⟨⟨r0,r1,r2⟩,e0,e1,e2⟩:=H3.out.c3 0 rfl
 obtain⟨⟨k0,k1,k2⟩,-⟩:=H3.out.c3 1 rfl
 go_upto_region 3 with(fail)
 obtain⟨Wf,hW,hf⟩:=qd (Fr.set3 (x:=.int .i64 n.kind) (y:=.string n.text) (z:=.slice pu n.kids.length cu) H3.out 0 rfl)
 rewrite[←hW]
 (try simp only[nn] at hf)
 clear hW
 obtain⟨⟨s0,s1,s2⟩,-⟩:=hf.c3 0 rfl
 have hres:NRes w n (.returned (.agg #[.int .i64 n.kind,.string n.text,.slice pu n.kids.length cu])) Wf:=hf.toldN (x:=n)
 have HF:=qh hres
 clear hf hres r0 r1 r2 e0 e1 e2 k0 k1 k2
 (try go_wp2)
 refine bodyPost_ret (v:=.tuple #[.agg #[.int .i64 n.kind,.string n.text,.slice pu n.kids.length cu],.bool (f==0)]) (by simp[results,Tryz.results10,go_sem,s0,s1,s2]) rfl ?_
 obtain⟨u,hu,hk,hb⟩:=HF.out
 cases hu
 exact⟨s,n,f,i,_,HX.out,rfl,hk,hb⟩
end Go.Proofs.YtakbenifinnpfaaGreatDoor
namespace Go.Proofs.YtakbenifinnpfaaGreatDoor
open Go.RowKit Go.Sub
attribute [local go_sem] Instr.field asAgg
theorem qlo:∀(p:List Int) (n m:qb),atN n p=some m→negN n→negN m
 |[],n,m,h,hn=>by rw[qdv] at h;cases h;exact hn
 |i::p,n,m,h,hn=>by
  rw[qbF] at h
  split at h
  ·cases hk:n.kids[i.toNat]? with
   |none=>rw[hk] at h;cases h
   |some k=>
    rw[hk] at h
    exact qlo p k m h (qd7 (qbW hn) k (List.mem_of_getElem? hk))
  ·cases h
theorem qhS{base:Nat}{v:Value}{ps:List (List Nat)}{us:List Value}{W:World}(h:qb5 base v ps us W)(h0:0<ps.length):∃g c,v=.slice (some ⟨g,0,none⟩) ps.length c:=by
 rcases h.own.2 with⟨_,e⟩|⟨g,cap,cur,e,_⟩
 ·omega
 ·exact⟨g,cap,e⟩
def qmK(w:World)(e:Ending)(w':World):Prop:=∃x,negN x∧qF x≤10000000∧NRes w x e w'
set_option maxRecDepth 100000 in
set_option maxHeartbeats 8000000 in
theorem qjr(c:List UInt8)(v:Value)(a:Int)(ha0:0≤a)(ha:a≤255)(w:World)(h:qbe w v c):Calls Tryz.prog 16 #[v,.int .u8 a] w (qmK w):=by
 have h0:=qlm w 24
 have H0:=qh h0
 have QP:=qh (qim c v _ (h.stays h0.low))
 clear h h0
 go_enter Tryz.func16,Tryz.ntmps16
 go_upto_region 2 with(go_at_call 10;go_loud(refine QP.out.mono ?_;rintro e W1 ⟨s,n,f,i,u,hx,rfl,hk,hb⟩;obtain⟨pu,cu,rfl,lu⟩:=hk.shape;have H1:=qh (H0.out.call hb (ql _ _) hk);have HX:=qh hx;clear hk hb lu hx))
 obtain⟨W2,hW,hf⟩:=qd (H1.out.lay [.int .i64 n.kind,.string n.text,.slice pu n.kids.length cu] 24)
 rewrite[←hW]
 (try simp only[nn] at hf)
 have H2:=qh hf
 clear hW hf H1 H0 QP
 have hneg:negN n:=by have:=src_neg s;rw[HX.out] at this;exact this
 have hcn:qF n≤10000000:=by have h1:=qjL s;rw[HX.out] at h1;dsimp only at h1;have:=qc2 n;omega
 obtain⟨⟨k0,k1,k2⟩,-⟩:=H2.out.c3 1 rfl
 have QP:=qh (qhI n (.slice pu n.kids.length cu) W2 _ (H2.out.get (F:=ql _ _) (by simp)) (by omega))
 unfold qcr at QP
 have hlen:(qI n).length ≤10000000:=by rw[qcc];exact hcn
 have hlen0:0<(qI n).length :=by rw[qeT];simp
 go_upto_region 3 with(go_at_call 26;go_loud(refine QP.out.mono ?_;rintro e W3 ⟨v,us,rfl,hp,hb⟩))
 obtain⟨g,cv,rfl⟩:=qhS hp hlen0
 have HP:=qh hp
 have h3:=H2.out.stays hb
 have H3:=qh h3
 obtain⟨j,ej,hmod⟩:∃j:Nat,a%((qI n).length :Int)=(j:Int)∧j<(qI n).length :=by
  have e1:=Int.emod_nonneg a (b:=((qI n).length :Int)) (by omega)
  have e2:=Int.emod_lt_of_pos a (b:=((qI n).length :Int)) (by omega)
  exact⟨(a%((qI n).length :Int)).toNat,by omega,by omega⟩
 have hx:=List.getElem?_eq_getElem hmod
 obtain⟨q1,c1,g1,hq1,-⟩:=hp.at hx
 have hkid:=(show qp W3 _ _ _ from(h3.get (F:=ql (.slice pu n.kids.length cu) n.kids) (by simp))).within.mono (S':=fun b=>w.heap.size<b∧b<W3.heap.size) (fun b hb=>⟨by
  obtain⟨⟨h1,h2⟩,-⟩:=hb
  have h3:w.heap.size≤b:=h1.elim (fun h=>h.elim) id
  have h4:b≠w.heap.size:=fun e=>h2 (.inl (by simp[Bx.nums,e]))
  omega,hb.2⟩)
 have QA:Hid (∀U,Below W3.heap.size W3 U→Calls Tryz.prog 27 #[.agg #[.int .i64 n.kind,.string n.text,.slice pu n.kids.length cu],.slice q1 (qI n)[j].length c1] U (qjA U _ (atN n (zs (qI n)[j])))):=qh fun U hU=>by
  have:=qlR n (.slice pu n.kids.length cu) (zs (qI n)[j]) (.slice q1 (qI n)[j].length c1) U _ _ (hkid.stays hU) (hq1.stays hU)
  exact this
 have hs:∀U,Below W3.heap.size W3 U→(U.cell? ⟨W1.heap.size,0,none⟩=some (.int .i64 n.kind)∧U.cell? ⟨W1.heap.size,1,none⟩=some (.string n.text)∧U.cell? ⟨W1.heap.size,2,none⟩=some (.slice pu n.kids.length cu))∧U.cell? ⟨g,j,none⟩=some (.slice q1 (qI n)[j].length c1):=fun U hU=>⟨((H3.out.stays hU).c3 1 rfl).1,(hU.cell (World.block_lt_of_cell? _ _ g1)).trans g1⟩
 have SHOW:=qh hs
 have hs2:∀U x y z,Below W3.heap.size W3 U→Below W3.heap.size W3 (((U.setCell ⟨W3.heap.size,0,none⟩ x).setCell ⟨W3.heap.size,1,none⟩ y).setCell ⟨W3.heap.size,2,none⟩ z):=fun U x y z hU=>hU.trans ((qX U W3.heap.size x y z).below hU.size fun b hb=>by omega)
 have HS2:=qh hs2
 have hb1:∀o,Below W3.heap.size W3 (W3.alloc o).drew :=fun o=>(qc (Below.refl _ _) o).drew
 have hb0:Below W3.heap.size W3 W3.drew:=(Below.refl _ _).drew
 clear k0 k1 k2
 obtain⟨⟨k0,k1,k2⟩,k3⟩:=hs W3 (Below.refl _ _)
 have hxn:negN ((atN n (zs (qI n)[j])).getD qb7)∧qF ((atN n (zs (qI n)[j])).getD qb7)≤10000000:=by
  cases hz:atN n (zs (qI n)[j]) with
  |none=>exact⟨by unfold qb7;exact qbV,by show qF qb7≤_;unfold qb7;decide⟩
  |some m=>exact⟨qlo _ _ _ hz hneg,Nat.le_trans (qhZ _ _ _ hz) hcn⟩
 have HXN:=qh hxn
 have z6:((qI n).length =0)=False:=eq_false (by omega)
 have wk:IntKind.i64.wrap a=a:=IntWalk.i64_in _ (by omega)
 have et:a.tmod ((qI n).length :Int)=(j:Int):=by rw[Int.tmod_eq_emod_of_nonneg ha0,ej]
 have z1:(0:Int)≤(j:Int):=by omega
 have z2:((j:Int))<((qI n).length :Int):=by omega
 have z3:((j:Int)).toNat =j:=by omega
 have z4:(((qI n).length :Int)=0)=False:=eq_false (by omega)
 have z5:(((qI n).length :Int)==0)=false:=beq_eq_false_iff_ne.2 (by omega)
 have HKD:=qh hkid
 clear hs hs2 hx hq1 g1 hneg hcn hlen hp hb h3 hkid hxn QP H2
 generalize (qI n)[j]=p at*
 generalize atN n (zs p)=r at*
 generalize (qI n).length =L at*
 go_region_held3 (fun U=>(U.cell? ⟨W1.heap.size,0,none⟩=some (.int .i64 n.kind)∧U.cell? ⟨W1.heap.size,1,none⟩=some (.string n.text)∧U.cell? ⟨W1.heap.size,2,none⟩=some (.slice pu n.kids.length cu))∧U.cell? ⟨g,j,none⟩=some (.slice q1 p.length c1))
  (with_reducible first|exact SHOW.out _ hb0|exact SHOW.out _ (hb1 _)|assumption|(refine SHOW.out _ (HS2.out _ _ _ _ ?_);assumption)|(refine SHOW.out _ ?_;first|assumption|exact qc (by first|assumption|exact hb0) _))
  (first
   |(go_at_call 27;(with_reducible refine(QA.out _ (by first|with_reducible assumption|with_reducible exact hb0|with_reducible exact hb1 _)).mono ?_);rintro _ U ⟨ua,rfl,hk,bu⟩;obtain⟨pz,cz,rfl,lz⟩:=hk.shape;have BU:=qh bu;have HKU:=qh hk;have bb:Below W3.heap.size W3 U:=Below.trans (by first|with_reducible assumption|with_reducible exact hb0|with_reducible exact hb1 _) (bu.mono (Below.size (show Below W3.heap.size W3 _ by first|with_reducible assumption|with_reducible exact hb0|with_reducible exact hb1 _)));(try have ck:=(Fr.stays ((H3.out.lay [.int .i64 0,.string ⟨#[]⟩,.slice none 0 0] 24).drew) bu).c3 2 rfl);simp only[qcr];clear hk bu lz))
 all_goals
  first
   |(obtain⟨W5,hW,h5⟩:=qd (((H3.out.drew.stays BU.out).lay [.int .i64 (r.getD qb7).kind,.string (r.getD qb7).text,.slice pz (r.getD qb7).kids.length cz] 24));rewrite[←hW])
   |(obtain⟨W5,hW,h5⟩:=qd (Fr.set3 (x:=.int .i64 (r.getD qb7).kind) (y:=.string (r.getD qb7).text) (z:=.slice pz (r.getD qb7).kids.length cz) ((H3.out.lay [.int .i64 0,.string ⟨#[]⟩,.slice none 0 0] 24).drew.stays BU.out) 2 rfl);rewrite[←hW])
  have hk5:qp W5 (fun b=>w.heap.size<b∧b<W3.heap.size) (.slice pz (r.getD qb7).kids.length cz) (r.getD qb7).kids :=by
   rw[hW]
   first
    |exact HKU.out.stays ((Below.refl _ _).alloc (Nat.le_refl _) _)
    |exact HKU.out.keeps (qX U W3.heap.size _ _ _) (fun b hb e=>by have:=hb.2;omega)
  (try simp only[nn] at h5)
  have H5:=qh h5
  have HK5:=qh hk5
  clear hW h5 hk5 bb hb0 hb1 k0 k1 k2 k3 HKU BU
  (try clear ck)
  generalize r.getD qb7=z at*
  obtain⟨⟨r0,r1,r2⟩,e0,e1,e2⟩:=H5.out.c3 0 rfl
  obtain⟨⟨k0,k1,k2⟩,-⟩:=H5.out.c3 2 rfl
  go_upto_region 5 with(fail)
  obtain⟨Wf,hW,hf⟩:=qd (Fr.set3 (x:=.int .i64 z.kind) (y:=.string z.text) (z:=.slice pz z.kids.length cz) H5.out 0 rfl)
  rewrite[←hW]
  have hkf:qp Wf (fun b=>w.heap.size≤b) (.slice pz z.kids.length cz) z.kids:=by
   rw[hW]
   exact(HK5.out.keeps (qX W5 w.heap.size _ _ _) (fun b hb e=>by have:=hb.1;omega)).mono fun b hb=>Nat.le_of_lt hb.1
  (try simp only[nn] at hf)
  clear hW
  obtain⟨⟨s0,s1,s2⟩,-⟩:=hf.c3 0 rfl
  have HF:=qh (And.intro hkf hf.low)
  clear hf hkf r0 r1 r2 e0 e1 e2 k0 k1 k2
  (try go_wp2)
  exact bodyPost_ret (v:=.agg #[.int .i64 z.kind,.string z.text,.slice pz z.kids.length cz]) (by simp[results,Tryz.results16,go_sem,s0,s1,s2]) rfl ⟨z,HXN.out.1,HXN.out.2,_,rfl,HF.out.1,HF.out.2⟩
end Go.Proofs.YtakbenifinnpfaaGreatDoor
namespace Go.Proofs.YtakbenifinnpfaaGreatDoor
open Go.RowKit Go.Sub
attribute [local go_sem] Instr.field asAgg
set_option maxRecDepth 100000 in
set_option maxHeartbeats 8000000 in
theorem qiL(a b:qb)(ha:qF a≤1000000000)(hb:qF b≤1000000000)(ua ub:Value)(w:World)(S S':Nat→Prop)(hu:qp w S ua a.kids)(hv:qp w S' ub b.kids):
  Calls Tryz.prog 17 #[.agg #[.int .i64 a.kind,.string a.text,ua],.agg #[.int .i64 b.kind,.string b.text,ub]] w fun e w'=>e=.returned (.bool (eqN (q9 a) (q9 b)))∧Below w.heap.size w w':=by
 obtain⟨pa,ca,rfl,la⟩:=hu.shape
 obtain⟨pb,cb,rfl,lb⟩:=hv.shape
 have h0:=(Fr.new0 w).lay2 [.int .i64 a.kind,.string a.text,.slice pa a.kids.length ca] 24 [.int .i64 b.kind,.string b.text,.slice pb b.kids.length cb] 24
 have QA:=qh (fun U hU=>qdN a (.slice pa a.kids.length ca) U S (hu.stays hU) ha)
 have QB:=qh (fun U hU=>qdN b (.slice pb b.kids.length cb) U S' (hv.stays hU) hb)
 have QS:=qh (fun U u v S S' hu hv=>qf4 (q9 a) (q9 b) u v U S S' hu hv)
 clear hu hv ha hb la lb
 generalize q9 a=x at*
 generalize q9 b=y at*
 go_enter Tryz.func17,Tryz.ntmps17
 go_upto_region 1 with(fail)
 obtain⟨W,hW,h1⟩:=qd h0
 (try simp only[nn] at h1)
 have HW:=qh h1
 rewrite[show(w.alloc (.cells #[.int .i64 a.kind,.string a.text,.slice pa a.kids.length ca] 24)).alloc (.cells #[.int .i64 b.kind,.string b.text,.slice pb b.kids.length cb] 24)=W from hW.symm]
 clear hW h0 h1
 have HL:=qh HW.out.low
 have QA1:Hid (∀U,Below W.heap.size W U→Calls Tryz.prog 15 #[.agg #[.int .i64 a.kind,.string a.text,.slice pa a.kids.length ca]] U (NRes U x)):=qh fun U hU=>QA.out U (HL.out.trans (hU.mono HL.out.size))
 have QB1:Hid (∀U,Below W.heap.size W U→Calls Tryz.prog 15 #[.agg #[.int .i64 b.kind,.string b.text,.slice pb b.kids.length cb]] U (NRes U y)):=qh fun U hU=>QB.out U (HL.out.trans (hU.mono HL.out.size))
 have hs:∀V,Below W.heap.size W V→(V.cell? ⟨w.heap.size,0,none⟩=some (.int .i64 a.kind)∧V.cell? ⟨w.heap.size,1,none⟩=some (.string a.text)∧V.cell? ⟨w.heap.size,2,none⟩=some (.slice pa a.kids.length ca))∧(V.cell? ⟨w.heap.size+1,0,none⟩=some (.int .i64 b.kind)∧V.cell? ⟨w.heap.size+1,1,none⟩=some (.string b.text)∧V.cell? ⟨w.heap.size+1,2,none⟩=some (.slice pb b.kids.length cb)):=fun V hV=>⟨((HW.out.stays hV).c3 0 rfl).1,((HW.out.stays hV).c3 1 rfl).1⟩
 have SHOW:=qh hs
 have hb0:Below W.heap.size W W.drew:=(Below.refl _ _).drew
 clear hs QA QB HW
 go_region_held3 (fun V=>(V.cell? ⟨w.heap.size,0,none⟩=some (.int .i64 a.kind)∧V.cell? ⟨w.heap.size,1,none⟩=some (.string a.text)∧V.cell? ⟨w.heap.size,2,none⟩=some (.slice pa a.kids.length ca))∧(V.cell? ⟨w.heap.size+1,0,none⟩=some (.int .i64 b.kind)∧V.cell? ⟨w.heap.size+1,1,none⟩=some (.string b.text)∧V.cell? ⟨w.heap.size+1,2,none⟩=some (.slice pb b.kids.length cb)))
  (with_reducible first|exact SHOW.out _ hb0|assumption|(refine SHOW.out _ ?_;assumption))
  (first
   |(go_at_call 15;(with_reducible refine(QA1.out _ (by first|with_reducible assumption|with_reducible exact hb0)).mono ?_);rintro _ U ⟨u,rfl,hk,bu⟩;obtain⟨p1,c1,rfl,lz⟩:=hk.shape;have HK1:=qh hk;have BU1:=qh bu;have bb:Below W.heap.size W U:=Below.trans (by first|with_reducible assumption|with_reducible exact hb0) (bu.mono (Below.size (show Below W.heap.size W _ by first|with_reducible assumption|with_reducible exact hb0)));clear hk bu lz)
   |(go_at_call 15;(with_reducible refine(QB1.out _ (by first|with_reducible assumption|with_reducible exact hb0)).mono ?_);rintro _ U ⟨u,rfl,hk,bu⟩;obtain⟨p2,c2,rfl,lz⟩:=hk.shape;have HK2:=qh hk;have BU2:=qh bu;have bb:Below W.heap.size W U:=Below.trans (by first|with_reducible assumption|with_reducible exact hb0) (bu.mono (Below.size (show Below W.heap.size W _ by first|with_reducible assumption|with_reducible exact hb0)));clear hk bu lz)
   |(go_at_call 18;(with_reducible refine(QS.out _ _ _ _ _ (by first|with_reducible exact HK1.out|with_reducible exact HK1.out.stays BU2.out) (by first|with_reducible exact HK2.out|with_reducible exact HK2.out.stays BU1.out)).mono ?_);rintro _ U3 ⟨rfl,bu⟩;have bb:Below W.heap.size W U3:=Below.trans (by first|with_reducible assumption|with_reducible exact hb0) (bu.mono (Below.size (show Below W.heap.size W _ by first|with_reducible assumption|with_reducible exact hb0)));clear bu))
 all_goals
  have hbu:Below W.heap.size W U3:=by assumption
  go_wp2
  go_ret
  exact⟨rfl,HL.out.trans (hbu.mono HL.out.size)⟩
end Go.Proofs.YtakbenifinnpfaaGreatDoor
namespace Go.Proofs.YtakbenifinnpfaaGreatDoor
open Go.RowKit Go.Sub
attribute [local go_sem] Instr.field asAgg
theorem qk1(k:Int):qbL k=false∧(k==24)=false∧(k==25)=false∧(k==26)=false∧(k==27)=false∧(k==29)=false∧(k==15)=false∨(k=24∨k=25∨k=26∨k=27∨k=29∨k=15)∧qbL k=true:=by
 by_cases h:k=24∨k=25∨k=26∨k=27∨k=29∨k=15
 ·refine .inr ⟨h,?_⟩
  rcases h with rfl|rfl|rfl|rfl|rfl|rfl<;>rfl
 ·refine .inl ⟨?_,?_,?_,?_,?_,?_,?_⟩
  ·unfold qbL
   simp
   omega
  all_goals exact beq_eq_false_iff_ne.2 (by omega)
theorem qdh{f:Nat→qb→qb}:∀{l:List qb} {i:Nat},(∀j,∀y∈l,qF (f j y)≤2*qF y)→qN (mapI f i l)≤2*qN l
 |[],_,_=>by simp[mapI,qN]
 |y::r,i,h=>by
  rw[mapI,qN,qN]
  have:=h i y List.mem_cons_self
  have:=qdh (l:=r) (i:=i+1) fun j z hz=>h j z (List.mem_cons_of_mem _ hz)
  omega
theorem qbc:∀(F:Nat) (m:WM) (x:qb),qF (qC F m x)+(match m with|.whole _=>1|_=>0)≤2*qF x
 |0,m,x=>by have:=qe2 x;cases m<;>simp only[qC]<;>omega
 |F+1,.whole f,.mk k t l=>by
  rw[qC,qF,qF]
  have:=qdh (f:=fun i y=>qC F (kidM k t l.length i f) y) (l:=l) (i:=0) fun j y _=>Nat.le_trans (Nat.le_add_right _ _) (qbc F _ y)
  simp only[qb.kind_mk,qb.text_mk,qb.kids_mk]
  omega
 |F+1,.put l f,x=>by
  have h0:=qbc F (.whole 0) x
  have h1:=qbc F (.whole f) x
  rw[qC]
  split
  ·unfold qbu;simp only[qF,qN] at h0⊢;omega
  ·simp only at h1⊢;omega
 |F+1,.term,x=>by
  have h0:=qbc F (.whole 0) x
  rw[qC]
  split
  ·unfold qbu;simp only[qF,qN] at h0⊢;omega
  ·simp only at h0⊢;omega
 |F+1,.unit,.mk k t l=>by
  rw[qC]
  split
  ·have:=qdh (f:=fun _ y=>qC F .unit y) (l:=l) (i:=0) fun j y _=>Nat.le_trans (Nat.le_add_right _ _) (qbc F _ y)
   simp only[qb.kids_mk,qF]
   omega
  ·exact qbc F .term _
 |F+1,.value,.mk k t l=>by
  rw[qC]
  split
  ·have:=qdh (f:=fun i y=>qC F (if i=0 then .unit else .value) y) (l:=l) (i:=0) fun j y _=>Nat.le_trans (Nat.le_add_right _ _) (qbc F _ y)
   simp only[qb.kids_mk,qF]
   omega
  ·exact qbc F .unit _
theorem qkq(x:qb):qF (qej x)≤2*qF x:=by
 unfold qej
 have:=qbc (4*qbn (q9 x)+4) (.put 1 0) (q9 x)
 have:=qdi x
 simp only at*
 omega
theorem qkW(k n:Int)(h:k=n):(k==24)=(n==24)∧(k==25)=(n==25)∧(k==26)=(n==26)∧(k==27)=(n==27)∧(k==29)=(n==29)∧(k==15)=(n==15):=by subst h;exact⟨rfl,rfl,rfl,rfl,rfl,rfl⟩
set_option maxRecDepth 100000 in
set_option maxHeartbeats 8000000 in
theorem terms_core(c:List UInt8)(v:Value)(a:Int)(ha0:0≤a)(ha:a≤255)(w:World)(h:qbe w v c)(hT:TabX w):Calls Tryz.prog 5 #[v,.int .u8 a] w fun e w'=>e=.returned (.bool true)∧Below w.heap.size w w':=by
 have H0:=qh (Fr.new0 w)
 have QP:=qh (qjr c v a ha0 ha w h)
 have HT:=qh hT
 clear h hT ha0 ha
 go_enter Tryz.func5,Tryz.ntmps5
 go_upto_region 2 with(first
  |(go_at_call 16;go_loud(refine QP.out.mono ?_;rintro e W1 ⟨y,hn,hc,u,rfl,hk,hb⟩;obtain⟨pu,cu,rfl,lu⟩:=hk.shape;have H1:=qh (H0.out.call hb (ql _ _) hk);have HN:=qh hn;have HC:=qh hc;clear hk hb lu hn hc))
  |(go_at_call 15;go_loud(refine(qdN y _ _ _ (H1.out.get (F:=ql (.slice pu y.kids.length cu) y.kids) (by simp)) (by have:=HC.out;omega)).mono ?_;rintro e W2 ⟨u,rfl,hk,hb⟩;obtain⟨px,cx,rfl,lx⟩:=hk.shape;have H2:=qh (H1.out.call hb (ql _ _) hk);clear hk hb lx)))
 have hxn:=qiq y HN.out
 have hxb:=qgU y
 have hxc:qF (q9 y)≤10000000:=Nat.le_trans (qdi y) HC.out
 clear HN HC H1 H0 QP
 generalize q9 y=x at*
 obtain⟨z,hz,hzk,hzb⟩:=qlf hxn hxb
 obtain⟨W3,hW,hf⟩:=qd (H2.out.lay [.int .i64 x.kind,.string x.text,.slice px x.kids.length cx] 24)
 rewrite[←hW]
 (try simp only[nn] at hf)
 have H3:=qh hf
 clear hW hf H2
 obtain⟨⟨k0,k1,k2⟩,-⟩:=H3.out.c3 0 rfl
 have hl:=H3.out.lit1 x (u:=.slice px x.kids.length cx) (by simp)
 have QW:Hid (Calls Tryz.prog 14 #[.agg #[.int .i64 23,.string ⟨#[]⟩,.slice (some ⟨W3.heap.size,0,none⟩) 1 1]] (W3.alloc (.cells #[.int .i64 x.kind,.string x.text,.slice px x.kids.length cx] 24)) (NRes (W3.alloc (.cells #[.int .i64 x.kind,.string x.text,.slice px x.kids.length cx] 24)) (.mk 23 ⟨#[]⟩ [z]))):=qh (hz▸qg0 (.mk 23 ⟨#[]⟩ [x]) (by simp only[qF,qN];omega) _ _ _ (hl.get (F:=ql (.slice (some ⟨W3.heap.size,0,none⟩) 1 1) [x]) (by simp)) (HT.out.below hl.low))
 have hzc:qF z≤100000000:=by
  have h1:=qkq (.mk 23 ⟨#[]⟩ [x])
  rw[hz] at h1
  simp only[qF,qN] at h1
  omega
 have HL4:=qh hl
 clear hl hz
 go_upto_region 3 with(go_at_call 14;go_loud(refine QW.out.mono ?_;rintro e W4 ⟨u,rfl,hk,hb⟩;obtain⟨pw,cw,rfl,lw⟩:=hk.shape;have H4:=qh (HL4.out.call hb (ql _ _) hk);clear hk hb lw))
 obtain⟨W5,hW,hf⟩:=qd (H4.out.lay [.int .i64 23,.string ⟨#[]⟩,.slice pw 1 cw] 24)
 rewrite[show W4.alloc (.cells #[.int .i64 23,.string ⟨#[]⟩,.slice pw 1 cw] 24)=W5 from hW.symm]
 (try simp only[nn] at hf)
 have H5:=qh hf
 clear hW hf H4 HL4 H3 QW k0 k1 k2
 have hkw:=H5.out.get (F:=ql (.slice pw [z].length cw) [z]) (by simp)
 obtain⟨b,o,uz,rfl,-,hcz,hkz⟩:=qp.kid (show qp W5 _ (.slice pw [z].length cw) [z] from hkw) (i:=0) (x:=z) rfl
 obtain⟨pz,cz,rfl,lz⟩:=hkz.shape
 obtain⟨g0,g1,g2⟩:=hcz
 simp only[Nat.zero_mul,Nat.add_zero] at g0 g1 g2
 have hxk:=H5.out.get (F:=ql (.slice px x.kids.length cx) x.kids) (by simp)
 have QS:Hid (∀U,Below W5.heap.size W5 U→Calls Tryz.prog 17 #[.agg #[.int .i64 z.kind,.string z.text,.slice pz z.kids.length cz],.agg #[.int .i64 x.kind,.string x.text,.slice px x.kids.length cx]] U fun e w'=>e=.returned (.bool true)∧Below U.heap.size U w'):=qh fun U hU=>by
  have:=qiL z x (by omega) (by omega) (.slice pz z.kids.length cz) (.slice px x.kids.length cx) U _ _ (hkz.stays hU) (qp.stays hxk hU)
  rwa [hzb,(qcz _ _).2 rfl] at this
 have QK:=qh (fun U (hU:Below W5.heap.size W5 U)=>qiO U (HT.out.below (H5.out.low.trans (hU.mono H5.out.low.size))))
 have hs:∀V,Below W5.heap.size W5 V→(V.cell? ⟨W2.heap.size,0,none⟩=some (.int .i64 x.kind)∧V.cell? ⟨W2.heap.size,1,none⟩=some (.string x.text)∧V.cell? ⟨W2.heap.size,2,none⟩=some (.slice px x.kids.length cx))∧(V.cell? ⟨W4.heap.size,0,none⟩=some (.int .i64 23)∧V.cell? ⟨W4.heap.size,1,none⟩=some (.string ⟨#[]⟩)∧V.cell? ⟨W4.heap.size,2,none⟩=some (.slice (some ⟨b,o,none⟩) 1 cw))∧(V.cell? ⟨b,o,none⟩=some (.int .i64 z.kind)∧V.cell? ⟨b,o+1,none⟩=some (.string z.text)∧V.cell? ⟨b,o+2,none⟩=some (.slice pz z.kids.length cz)):=fun V hV=>⟨((H5.out.stays hV).c3 0 rfl).1,((H5.out.stays hV).c3 1 rfl).1,(hV.cell (World.block_lt_of_cell? _ _ g0)).trans g0,(hV.cell (World.block_lt_of_cell? _ _ g1)).trans g1,(hV.cell (World.block_lt_of_cell? _ _ g2)).trans g2⟩
 have SHOW:=qh hs
 have HL:=qh H5.out.low
 have hb0:Below W5.heap.size W5 W5.drew:=(Below.refl _ _).drew
 obtain⟨⟨k0,k1,k2⟩,⟨k3,k4,k5⟩,k6,k7,k8⟩:=hs W5 (Below.refl _ _)
 clear hs hxk hkz hkw hzc hxc hxn hxb hzb g0 g1 g2 H5 HT lz
 obtain⟨xk,xt,xl⟩:=x
 obtain⟨zk,zt,zl⟩:=z
 simp only[qb.kind_mk,qb.text_mk,qb.kids_mk] at*
 rcases qk1 xk with⟨hl,q1,q2,q3,q4,q5,q6⟩|⟨hk,hl⟩
 case' inl=>
  by_cases h12:xk=12
  case' pos=>
   simp[hl,h12] at hzk
   have z1:(zk==12)=true:=beq_iff_eq.2 (of_decide_eq_true hzk)
   have z2:(xk==12)=true:=beq_iff_eq.2 h12
   have z3:=eq_true (of_decide_eq_true hzk)
   have z4:=eq_true h12
   clear h12 hzk hl
  case' neg=>
   simp[hl,h12] at hzk
   have z1:(zk==12)=false:=beq_eq_false_iff_ne.2 (of_decide_eq_false hzk)
   have z2:(xk==12)=false:=beq_eq_false_iff_ne.2 h12
   have z3:=eq_false (of_decide_eq_false hzk)
   have z4:=eq_false h12
   clear h12 hzk hl
  all_goals
   go_upto_region 6 with(fail)
   go_region_held3 (fun V=>(V.cell? ⟨W2.heap.size,0,none⟩=some (.int .i64 xk)∧V.cell? ⟨W2.heap.size,1,none⟩=some (.string xt)∧V.cell? ⟨W2.heap.size,2,none⟩=some (.slice px xl.length cx))∧(V.cell? ⟨W4.heap.size,0,none⟩=some (.int .i64 23)∧V.cell? ⟨W4.heap.size,1,none⟩=some (.string ⟨#[]⟩)∧V.cell? ⟨W4.heap.size,2,none⟩=some (.slice (some ⟨b,o,none⟩) 1 cw))∧(V.cell? ⟨b,o,none⟩=some (.int .i64 zk)∧V.cell? ⟨b,o+1,none⟩=some (.string zt)∧V.cell? ⟨b,o+2,none⟩=some (.slice pz zl.length cz)))
    (with_reducible first|exact SHOW.out _ hb0|assumption|(refine SHOW.out _ ?_;assumption))
    (first
     |(go_at_call 8;(with_reducible refine(QK.out _ (by first|with_reducible assumption|with_reducible exact hb0)).mono ?_);rintro _ U2 ⟨rfl,bu⟩;have bb:Below W5.heap.size W5 U2:=Below.trans (by first|with_reducible assumption|with_reducible exact hb0) (bu.mono (Below.size (show Below W5.heap.size W5 _ by first|with_reducible assumption|with_reducible exact hb0)));clear bu)
     |(go_at_call 17;(with_reducible refine(QS.out _ (by first|with_reducible assumption|with_reducible exact hb0)).mono ?_);rintro _ U3 ⟨rfl,bu⟩;have bb:Below W5.heap.size W5 U3:=Below.trans (by first|with_reducible assumption|with_reducible exact hb0) (bu.mono (Below.size (show Below W5.heap.size W5 _ by first|with_reducible assumption|with_reducible exact hb0)));clear bu))
   all_goals
    have hbu:Below W5.heap.size W5 U3:=by assumption
    go_wp2
    go_ret
    exact⟨rfl,HL.out.trans (hbu.mono HL.out.size)⟩
 case' inr=>
  simp[hl] at hzk
  have z1:(zk==12)=true:=beq_iff_eq.2 (of_decide_eq_true hzk)
  have z3:=eq_true (of_decide_eq_true hzk)
  clear hzk hl
  rcases hk with e|e|e|e|e|e
 all_goals
  have q:=qkW xk _ e
  simp only[Int.reduceBEq] at q
  clear e
  go_upto_region 6 with(fail)
  refine wp_region_held_drew (S:=(fun V=>(V.cell? ⟨W2.heap.size,0,none⟩=some (.int .i64 xk)∧V.cell? ⟨W2.heap.size,1,none⟩=some (.string xt)∧V.cell? ⟨W2.heap.size,2,none⟩=some (.slice px xl.length cx))∧(V.cell? ⟨W4.heap.size,0,none⟩=some (.int .i64 23)∧V.cell? ⟨W4.heap.size,1,none⟩=some (.string ⟨#[]⟩)∧V.cell? ⟨W4.heap.size,2,none⟩=some (.slice (some ⟨b,o,none⟩) 1 cw))∧(V.cell? ⟨b,o,none⟩=some (.int .i64 zk)∧V.cell? ⟨b,o+1,none⟩=some (.string zt)∧V.cell? ⟨b,o+2,none⟩=some (.slice pz zl.length cz)))) (by kernel_rfl) (SHOW.out _ hb0) (fun hHeld=>?_)
  refine wpAnyH_ready (rs:=[0]) (by kernel_rfl) (by simp) ?_
  refine AllReadyH.cons rfl (fun K hK=>?_) AllReadyH.nil
  go_simp
  (first
   |(go_at_call 8;(with_reducible refine(QK.out _ (by first|with_reducible assumption|with_reducible exact hb0)).mono ?_);rintro _ U2 ⟨rfl,bu⟩;have bb:Below W5.heap.size W5 U2:=Below.trans (by first|with_reducible assumption|with_reducible exact hb0) (bu.mono (Below.size (show Below W5.heap.size W5 _ by first|with_reducible assumption|with_reducible exact hb0)));clear bu)
   |(go_at_call 17;(with_reducible refine(QS.out _ (by first|with_reducible assumption|with_reducible exact hb0)).mono ?_);rintro _ U3 ⟨rfl,bu⟩;have bb:Below W5.heap.size W5 U3:=Below.trans (by first|with_reducible assumption|with_reducible exact hb0) (bu.mono (Below.size (show Below W5.heap.size W5 _ by first|with_reducible assumption|with_reducible exact hb0)));clear bu))
  try dsimp only
  refine hK.out _ _ (by with_reducible first|assumption|(refine SHOW.out _ ?_;assumption)) (fun hHeld=>?_)
  clear hK K
  (try simp only[Act.put,List.setIfInBounds_toArray,List.set_cons_zero,List.set_cons_succ])
  refine wpAnyH_take (i:=1) (v:=?_) (by simp only[List.getElem?_toArray,List.getElem?_cons_succ,List.getElem?_cons_zero];exact rfl) (by kernel_rfl) (by kernel_rfl) (by kernel_rfl) (by intro _ _ _ h;exact h) (Or.inl ⟨by rfl,?_⟩) (by assumption) ?_
  rotate_left 1
  ·(intro w hSw;(try dsimp only at hSw);go_simp;try with_reducible rfl)
  (try simp only[Act.put,List.setIfInBounds_toArray,List.set_cons_zero,List.set_cons_succ])
  refine wpAnyH_take (i:=2) (v:=?_) (by simp only[List.getElem?_toArray,List.getElem?_cons_succ,List.getElem?_cons_zero];exact rfl) (by kernel_rfl) (by kernel_rfl) (by kernel_rfl) (by intro _ _ _ h;exact h) (Or.inl ⟨by rfl,?_⟩) (by assumption) ?_
  rotate_left 1
  ·(intro w hSw;(try dsimp only at hSw);go_simp;try with_reducible rfl)
  (try simp only[Act.put,List.setIfInBounds_toArray,List.set_cons_zero,List.set_cons_succ])
  refine wpAnyH_take (i:=3) (v:=?_) (by simp only[List.getElem?_toArray,List.getElem?_cons_succ,List.getElem?_cons_zero];exact rfl) (by kernel_rfl) (by kernel_rfl) (by kernel_rfl) (by intro _ _ _ h;exact h) (Or.inl ⟨by rfl,?_⟩) (by assumption) ?_
  rotate_left 1
  ·(intro w hSw;(try dsimp only at hSw);go_simp;try with_reducible rfl)
  (try simp only[Act.put,List.setIfInBounds_toArray,List.set_cons_zero,List.set_cons_succ])
  refine wpAnyH_take (i:=4) (v:=?_) (by simp only[List.getElem?_toArray,List.getElem?_cons_succ,List.getElem?_cons_zero];exact rfl) (by kernel_rfl) (by kernel_rfl) (by kernel_rfl) (by intro _ _ _ h;exact h) (Or.inl ⟨by rfl,?_⟩) (by assumption) ?_
  rotate_left 1
  ·(intro w hSw;(try dsimp only at hSw);go_simp;try with_reducible rfl)
  (try simp only[Act.put,List.setIfInBounds_toArray,List.set_cons_zero,List.set_cons_succ])
  refine wpAnyH_take (i:=5) (v:=?_) (by simp only[List.getElem?_toArray,List.getElem?_cons_succ,List.getElem?_cons_zero];exact rfl) (by kernel_rfl) (by kernel_rfl) (by kernel_rfl) (by intro _ _ _ h;exact h) (Or.inl ⟨by rfl,?_⟩) (by assumption) ?_
  rotate_left 1
  ·(intro w hSw;(try dsimp only at hSw);go_simp;try with_reducible rfl)
  (try simp only[Act.put,List.setIfInBounds_toArray,List.set_cons_zero,List.set_cons_succ])
  refine wpAnyH_take (i:=6) (v:=?_) (by simp only[List.getElem?_toArray,List.getElem?_cons_succ,List.getElem?_cons_zero];exact rfl) (by kernel_rfl) (by kernel_rfl) (by kernel_rfl) (by intro _ _ _ h;exact h) (Or.inl ⟨by rfl,?_⟩) (by assumption) ?_
  rotate_left 1
  ·(intro w hSw;(try dsimp only at hSw);go_simp;try with_reducible rfl)
  (try simp only[Act.put,List.setIfInBounds_toArray,List.set_cons_zero,List.set_cons_succ])
  refine wpAnyH_take (i:=7) (v:=?_) (by simp only[List.getElem?_toArray,List.getElem?_cons_succ,List.getElem?_cons_zero];exact rfl) (by kernel_rfl) (by kernel_rfl) (by kernel_rfl) (by intro _ _ _ h;exact h) (Or.inl ⟨by rfl,?_⟩) (by assumption) ?_
  rotate_left 1
  ·(intro w hSw;(try dsimp only at hSw);go_simp;try with_reducible rfl)
  (try simp only[Act.put,List.setIfInBounds_toArray,List.set_cons_zero,List.set_cons_succ])
  refine wpAnyH_take (i:=8) (v:=?_) (by simp only[List.getElem?_toArray,List.getElem?_cons_succ,List.getElem?_cons_zero];exact rfl) (by kernel_rfl) (by kernel_rfl) (by kernel_rfl) (by intro _ _ _ h;exact h) (Or.inl ⟨by rfl,?_⟩) (by assumption) ?_
  rotate_left 1
  ·(intro w hSw;(try dsimp only at hSw);go_simp;try with_reducible rfl)
  (try simp only[Act.put,List.setIfInBounds_toArray,List.set_cons_zero,List.set_cons_succ])
  refine wpAnyH_take (i:=9) (v:=?_) (by simp only[List.getElem?_toArray,List.getElem?_cons_succ,List.getElem?_cons_zero];exact rfl) (by kernel_rfl) (by kernel_rfl) (by kernel_rfl) (by intro _ _ _ h;exact h) (Or.inl ⟨by rfl,?_⟩) (by assumption) ?_
  rotate_left 1
  ·(intro w hSw;(try dsimp only at hSw);go_simp;try with_reducible rfl)
  (try simp only[Act.put,List.setIfInBounds_toArray,List.set_cons_zero,List.set_cons_succ])
  refine wpAnyH_take (i:=10) (v:=?_) (by simp only[List.getElem?_toArray,List.getElem?_cons_succ,List.getElem?_cons_zero];exact rfl) (by kernel_rfl) (by kernel_rfl) (by kernel_rfl) (by intro _ _ _ h;exact h) (Or.inl ⟨by rfl,?_⟩) (by assumption) ?_
  rotate_left 1
  ·(intro w hSw;(try dsimp only at hSw);go_simp;try with_reducible rfl)
  (try simp only[Act.put,List.setIfInBounds_toArray,List.set_cons_zero,List.set_cons_succ])
  refine wpAnyH_take (i:=11) (v:=?_) (by simp only[List.getElem?_toArray,List.getElem?_cons_succ,List.getElem?_cons_zero];exact rfl) (by kernel_rfl) (by kernel_rfl) (by kernel_rfl) (by intro _ _ _ h;exact h) (Or.inl ⟨by rfl,?_⟩) (by assumption) ?_
  rotate_left 1
  ·(intro w hSw;(try dsimp only at hSw);go_simp;try with_reducible rfl)
  (try simp only[Act.put,List.setIfInBounds_toArray,List.set_cons_zero,List.set_cons_succ])
  refine wpAnyH_take (i:=12) (v:=?_) (by simp only[List.getElem?_toArray,List.getElem?_cons_succ,List.getElem?_cons_zero];exact rfl) (by kernel_rfl) (by kernel_rfl) (by kernel_rfl) (by intro _ _ _ h;exact h) (Or.inl ⟨by rfl,?_⟩) (by assumption) ?_
  rotate_left 1
  ·(intro w hSw;(try dsimp only at hSw);go_simp;try with_reducible rfl)
  (try simp only[Act.put,List.setIfInBounds_toArray,List.set_cons_zero,List.set_cons_succ])
  refine wpAnyH_take (i:=13) (v:=?_) (by simp only[List.getElem?_toArray,List.getElem?_cons_succ,List.getElem?_cons_zero];exact rfl) (by kernel_rfl) (by kernel_rfl) (by kernel_rfl) (by intro _ _ _ h;exact h) (Or.inl ⟨by rfl,?_⟩) (by assumption) ?_
  rotate_left 1
  ·(intro w hSw;(try dsimp only at hSw);go_simp;try with_reducible rfl)
  (try simp only[Act.put,List.setIfInBounds_toArray,List.set_cons_zero,List.set_cons_succ])
  refine wpAnyH_take (i:=14) (v:=?_) (by simp only[List.getElem?_toArray,List.getElem?_cons_succ,List.getElem?_cons_zero];exact rfl) (by kernel_rfl) (by kernel_rfl) (by kernel_rfl) (by intro _ _ _ h;exact h) (Or.inl ⟨by rfl,?_⟩) (by assumption) ?_
  rotate_left 1
  ·(intro w hSw;(try dsimp only at hSw);go_simp;try with_reducible rfl)
  (try simp only[Act.put,List.setIfInBounds_toArray,List.set_cons_zero,List.set_cons_succ])
  refine wpAnyH_take (i:=15) (v:=undef) (by simp only[List.getElem?_toArray,List.getElem?_cons_succ,List.getElem?_cons_zero];exact rfl) (by kernel_rfl) (by kernel_rfl) (by kernel_rfl) (by intro _ _ _ h;exact h) (Or.inr ⟨by rfl,rfl⟩) (by assumption) ?_
  (try simp only[Act.put,List.setIfInBounds_toArray,List.set_cons_zero,List.set_cons_succ])
  refine wpAnyH_take (i:=16) (v:=undef) (by simp only[List.getElem?_toArray,List.getElem?_cons_succ,List.getElem?_cons_zero];exact rfl) (by kernel_rfl) (by kernel_rfl) (by kernel_rfl) (by intro _ _ _ h;exact h) (Or.inr ⟨by rfl,rfl⟩) (by assumption) ?_
  (try simp only[Act.put,List.setIfInBounds_toArray,List.set_cons_zero,List.set_cons_succ])
  refine wpAnyH_take (i:=17) (v:=undef) (by simp only[List.getElem?_toArray,List.getElem?_cons_succ,List.getElem?_cons_zero];exact rfl) (by kernel_rfl) (by kernel_rfl) (by kernel_rfl) (by intro _ _ _ h;exact h) (Or.inr ⟨by rfl,rfl⟩) (by assumption) ?_
  (try simp only[Act.put,List.setIfInBounds_toArray,List.set_cons_zero,List.set_cons_succ])
  refine wpAnyH_take (i:=18) (v:=?_) (by simp only[List.getElem?_toArray,List.getElem?_cons_succ,List.getElem?_cons_zero];exact rfl) (by kernel_rfl) (by kernel_rfl) (by kernel_rfl) (by intro _ _ _ h;exact h) (Or.inl ⟨by rfl,?_⟩) (by assumption) ?_
  rotate_left 1
  ·(intro w hSw;(try dsimp only at hSw);go_simp;try with_reducible rfl)
  (try simp only[Act.put,List.setIfInBounds_toArray,List.set_cons_zero,List.set_cons_succ])
  refine wpAnyH_take (i:=19) (v:=?_) (by simp only[List.getElem?_toArray,List.getElem?_cons_succ,List.getElem?_cons_zero];exact rfl) (by kernel_rfl) (by kernel_rfl) (by kernel_rfl) (by intro _ _ _ h;exact h) (Or.inl ⟨by rfl,?_⟩) (by assumption) ?_
  rotate_left 1
  ·(intro w hSw;(try dsimp only at hSw);go_simp;try with_reducible rfl)
  (try simp only[Act.put,List.setIfInBounds_toArray,List.set_cons_zero,List.set_cons_succ])
  refine wpAnyH_take (i:=20) (v:=?_) (by simp only[List.getElem?_toArray,List.getElem?_cons_succ,List.getElem?_cons_zero];exact rfl) (by kernel_rfl) (by kernel_rfl) (by kernel_rfl) (by intro _ _ _ h;exact h) (Or.inl ⟨by rfl,?_⟩) (by assumption) ?_
  rotate_left 1
  ·(intro w hSw;(try dsimp only at hSw);go_simp;try with_reducible rfl)
  (try simp only[Act.put,List.setIfInBounds_toArray,List.set_cons_zero,List.set_cons_succ])
  refine wpAnyH_take (i:=21) (v:=?_) (by simp only[List.getElem?_toArray,List.getElem?_cons_succ,List.getElem?_cons_zero];exact rfl) (by kernel_rfl) (by kernel_rfl) (by kernel_rfl) (by intro _ _ _ h;exact h) (Or.inl ⟨by rfl,?_⟩) (by assumption) ?_
  rotate_left 1
  ·(intro w hSw;(try dsimp only at hSw);go_simp;try with_reducible rfl)
  (try simp only[Act.put,List.setIfInBounds_toArray,List.set_cons_zero,List.set_cons_succ])
  refine wpAnyH_take (i:=22) (v:=?_) (by simp only[List.getElem?_toArray,List.getElem?_cons_succ,List.getElem?_cons_zero];exact rfl) (by kernel_rfl) (by kernel_rfl) (by kernel_rfl) (by intro _ _ _ h;exact h) (Or.inl ⟨by rfl,?_⟩) (by assumption) ?_
  rotate_left 1
  ·(intro w hSw;(try dsimp only at hSw);go_simp;try with_reducible rfl)
  (try simp only[Act.put,List.setIfInBounds_toArray,List.set_cons_zero,List.set_cons_succ])
  refine wpAnyH_take (i:=23) (v:=?_) (by simp only[List.getElem?_toArray,List.getElem?_cons_succ,List.getElem?_cons_zero];exact rfl) (by kernel_rfl) (by kernel_rfl) (by kernel_rfl) (by intro _ _ _ h;exact h) (Or.inl ⟨by rfl,?_⟩) (by assumption) ?_
  rotate_left 1
  ·(intro w hSw;(try dsimp only at hSw);go_simp;try with_reducible rfl)
  (try simp only[Act.put,List.setIfInBounds_toArray,List.set_cons_zero,List.set_cons_succ])
  refine wpAnyH_take (i:=24) (v:=?_) (by simp only[List.getElem?_toArray,List.getElem?_cons_succ,List.getElem?_cons_zero];exact rfl) (by kernel_rfl) (by kernel_rfl) (by kernel_rfl) (by intro _ _ _ h;exact h) (Or.inl ⟨by rfl,?_⟩) (by assumption) ?_
  rotate_left 1
  ·(intro w hSw;(try dsimp only at hSw);go_simp;try with_reducible rfl)
  (try simp only[Act.put,List.setIfInBounds_toArray,List.set_cons_zero,List.set_cons_succ])
  refine wpAnyH_take (i:=25) (v:=?_) (by simp only[List.getElem?_toArray,List.getElem?_cons_succ,List.getElem?_cons_zero];exact rfl) (by kernel_rfl) (by kernel_rfl) (by kernel_rfl) (by intro _ _ _ h;exact h) (Or.inl ⟨by rfl,?_⟩) (by assumption) ?_
  rotate_left 1
  ·(intro w hSw;(try dsimp only at hSw);go_simp;try with_reducible rfl)
  (try simp only[Act.put,List.setIfInBounds_toArray,List.set_cons_zero,List.set_cons_succ])
  refine wpAnyH_take (i:=26) (v:=?_) (by simp only[List.getElem?_toArray,List.getElem?_cons_succ,List.getElem?_cons_zero];exact rfl) (by kernel_rfl) (by kernel_rfl) (by kernel_rfl) (by intro _ _ _ h;exact h) (Or.inl ⟨by rfl,?_⟩) (by assumption) ?_
  rotate_left 1
  ·(intro w hSw;(try dsimp only at hSw);go_simp;try with_reducible rfl)
  (try simp only[Act.put,List.setIfInBounds_toArray,List.set_cons_zero,List.set_cons_succ])
  refine wpAnyH_ready (rs:=[27]) (by kernel_rfl) (by simp) ?_
  refine AllReadyH.cons rfl (fun K hK=>?_) AllReadyH.nil
  go_simp
  (first
   |(go_at_call 8;(with_reducible refine(QK.out _ (by first|with_reducible assumption|with_reducible exact hb0)).mono ?_);rintro _ U2 ⟨rfl,bu⟩;have bb:Below W5.heap.size W5 U2:=Below.trans (by first|with_reducible assumption|with_reducible exact hb0) (bu.mono (Below.size (show Below W5.heap.size W5 _ by first|with_reducible assumption|with_reducible exact hb0)));clear bu)
   |(go_at_call 17;(with_reducible refine(QS.out _ (by first|with_reducible assumption|with_reducible exact hb0)).mono ?_);rintro _ U3 ⟨rfl,bu⟩;have bb:Below W5.heap.size W5 U3:=Below.trans (by first|with_reducible assumption|with_reducible exact hb0) (bu.mono (Below.size (show Below W5.heap.size W5 _ by first|with_reducible assumption|with_reducible exact hb0)));clear bu))
  try dsimp only
  refine hK.out _ _ (by with_reducible first|assumption|(refine SHOW.out _ ?_;assumption)) (fun hHeld=>?_)
  clear hK K
  (try simp only[Act.put,List.setIfInBounds_toArray,List.set_cons_zero,List.set_cons_succ])
  refine wpAnyH_take (i:=28) (v:=?_) (by simp only[List.getElem?_toArray,List.getElem?_cons_succ,List.getElem?_cons_zero];exact rfl) (by kernel_rfl) (by kernel_rfl) (by kernel_rfl) (by intro _ _ _ h;exact h) (Or.inl ⟨by rfl,?_⟩) (by assumption) ?_
  rotate_left 1
  ·(intro w hSw;(try dsimp only at hSw);go_simp;try with_reducible rfl)
  (try simp only[Act.put,List.setIfInBounds_toArray,List.set_cons_zero,List.set_cons_succ])
  refine wpAnyH_take (i:=29) (v:=?_) (by simp only[List.getElem?_toArray,List.getElem?_cons_succ,List.getElem?_cons_zero];exact rfl) (by kernel_rfl) (by kernel_rfl) (by kernel_rfl) (by intro _ _ _ h;exact h) (Or.inl ⟨by rfl,?_⟩) (by assumption) ?_
  rotate_left 1
  ·(intro w hSw;(try dsimp only at hSw);go_simp;try with_reducible rfl)
  (try simp only[Act.put,List.setIfInBounds_toArray,List.set_cons_zero,List.set_cons_succ])
  refine wpAnyH_done (by kernel_rfl) ?_ _
  have hbu:Below W5.heap.size W5 U3:=by assumption
  go_wp2
  go_ret
  exact⟨rfl,HL.out.trans (hbu.mono HL.out.size)⟩
end Go.Proofs.YtakbenifinnpfaaGreatDoor
