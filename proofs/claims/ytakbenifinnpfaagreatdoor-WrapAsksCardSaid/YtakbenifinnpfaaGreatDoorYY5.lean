/- K3 · K4 · K5 · Pf1 · Pa7 · Gn5 · Law · Wc1 · Nd3 -/
import Derived.Test.YtakbenifinnpfaaGreatDoorYY4
import Derived.Deep.Cut
import Derived.Test.YtakbenifinnpfaaGreatDoorYY1
import Derived.Test.YtakbenifinnpfaaGreatDoorYY2
import Derived.WalkKit
import Derived.ProofKit
import Derived.OpenShut
import Derived.Deep.DeepHandedRow
import Derived.Deep.DeepWitnessRowRef
import Derived.LaidMore
import Derived.Lib.LaidTab
import Derived.Lib.SmallJoins
import Derived.Test.YtakbenifinnpfaaGreatDoorCards
import Derived.Test.YtakbenifinnpfaaGreatDoorTie
import Derived.Lay
import Derived.ChangeSlices
import Derived.Lib.Hide
import Derived.Laws.Externs
import Derived.Lib.EndianBits
set_option linter.unusedSimpArgs false
set_option linter.unusedVariables false
set_option maxRecDepth 100000
set_option maxHeartbeats 64000000
namespace Go.Proofs.YtakbenifinnpfaaGreatDoor
open Go.RowKit Go.Sub
theorem qcy(b:UInt8):qO b=(qax b||qA b):=rfl
theorem qh1(s:ByteArray)(w:World)(hs:s.size<4611686018427387904):
  Calls Tryz.prog 86 #[.string s] w fun e w'=>e=.returned (.int .i64 (qy qaq s.data.toList:Nat))∧w'=w:=by
 have hsz:=Lib.size_eq s
 go_enter Tryz.func86,Tryz.ntmps86
 go_wp2
 go_loopw [3] (fun i wr=>∃n:Nat,n≤s.size∧i=.int .i64 n∧n+qy qaq (s.data.toList.drop n)=qy qaq s.data.toList∧wr=w) (fun i _=>s.size- (intOf i).toNat)
 case atStart=>exact⟨0,by omega,rfl,by simp,rfl⟩
 case round=>
  obtain⟨n,hn,rfl,hrun,rfl⟩:=hrel
  by_cases hlt:n<s.size
  ·have hb:s.data.toList[n]? =some s[n]:=by rw[List.getElem?_eq_getElem (by omega)];rfl
   have Hrun:=qh hrun
   have Hsz:=qh hsz
   have Hb:=qh hb
   clear hrun hsz hb
   cases hpb:qaq s[n]
   all_goals
    have Hpb:=qh hpb
    have Hpl:=qh (qcy s[n])
    clear hpb
    go_wp2_with(go_at_call 85;refine(qeQ _ _).mono ?_;rw[Hpb.out];rintro e w' ⟨rfl,rfl⟩)
   ·go_ret
    refine⟨qau ?_,rfl⟩
    have h1:=Hrun.out
    rw[qbN _ _ n _ Hb.out Hpb.out] at h1
    exact h1
   ·go_roundw
    case rel=>
     have h1:=Hrun.out
     rw[qaJ _ _ n _ Hb.out Hpb.out] at h1
     exact⟨n+1,by omega,by go_num,by omega,trivial⟩
    case measure=>simp[intOf];omega
  ·obtain rfl:n=s.size:=by omega
   have Hrun:=qh hrun
   have Hsz:=qh hsz
   clear hrun hsz
   go_wp2
   go_ret
   refine⟨qau ?_,rfl⟩
   have h1:=Hrun.out
   rw[qcb _ _ _ (Nat.le_of_eq Hsz.out.symm)] at h1
   exact h1
theorem qjv(s:ByteArray)(w:World)(hs:s.size<4611686018427387904):
  Calls Tryz.prog 90 #[.string s] w fun e w'=>e=.returned (.int .i64 (qy qO s.data.toList:Nat))∧w'=w:=by
 have hsz:=Lib.size_eq s
 go_enter Tryz.func90,Tryz.ntmps90
 go_wp2
 go_loopw [3] (fun i wr=>∃n:Nat,n≤s.size∧i=.int .i64 n∧n+qy qO (s.data.toList.drop n)=qy qO s.data.toList∧wr=w) (fun i _=>s.size- (intOf i).toNat)
 case atStart=>exact⟨0,by omega,rfl,by simp,rfl⟩
 case round=>
  obtain⟨n,hn,rfl,hrun,rfl⟩:=hrel
  by_cases hlt:n<s.size
  ·have hb:s.data.toList[n]? =some s[n]:=by rw[List.getElem?_eq_getElem (by omega)];rfl
   have Hrun:=qh hrun
   have Hsz:=qh hsz
   have Hb:=qh hb
   clear hrun hsz hb
   cases hl:qax s[n]
   ·cases hd:qA s[n]
    ·have Hpb:=qh (show qO s[n]=false by rw[qcy,hl,hd];rfl)
     have Hl:=qh hl
     have Hd:=qh hd
     clear hl hd
     go_wp2_with(first|(go_at_call 89;refine(qaI _ _).mono ?_;rw[Hl.out];rintro e w' ⟨rfl,rfl⟩)|(go_at_call 114;refine(qbT _ _).mono ?_;rw[Hd.out];rintro e w' ⟨rfl,rfl⟩))
     go_ret
     refine⟨qau ?_,rfl⟩
     have h1:=Hrun.out
     rw[qbN _ _ n _ Hb.out Hpb.out] at h1
     exact h1
    ·have Hpb:=qh (show qO s[n]=true by rw[qcy,hl,hd];rfl)
     have Hl:=qh hl
     have Hd:=qh hd
     clear hl hd
     go_wp2_with(first|(go_at_call 89;refine(qaI _ _).mono ?_;rw[Hl.out];rintro e w' ⟨rfl,rfl⟩)|(go_at_call 114;refine(qbT _ _).mono ?_;rw[Hd.out];rintro e w' ⟨rfl,rfl⟩))
     go_roundw
     case rel=>
      have h1:=Hrun.out
      rw[qaJ _ _ n _ Hb.out Hpb.out] at h1
      exact⟨n+1,by omega,by go_num,by omega,trivial⟩
     case measure=>simp[intOf];omega
   ·have Hpb:=qh (show qO s[n]=true by rw[qcy,hl];rfl)
    have Hl:=qh hl
    clear hl
    go_wp2_with(go_at_call 89;refine(qaI _ _).mono ?_;rw[Hl.out];rintro e w' ⟨rfl,rfl⟩)
    go_roundw
    case rel=>
     have h1:=Hrun.out
     rw[qaJ _ _ n _ Hb.out Hpb.out] at h1
     exact⟨n+1,by omega,by go_num,by omega,trivial⟩
    case measure=>simp[intOf];omega
  ·obtain rfl:n=s.size:=by omega
   have Hrun:=qh hrun
   have Hsz:=qh hsz
   clear hrun hsz
   go_wp2
   go_ret
   refine⟨qau ?_,rfl⟩
   have h1:=Hrun.out
   rw[qcb _ _ _ (Nat.le_of_eq Hsz.out.symm)] at h1
   exact h1
def gN:List UInt8→Nat→Nat
 |[],_=>0
 |[c],b=>if c==10&&b%2==0 then 0 else 1
 |c::d::r,b=>if c==10&&b%2==0 then 0 else if c==13&&d==10&&b%2==1 then 2+gN r 0 else 1+gN (d::r) (if c==92 then b+1 else 0)
def tb(b:Nat):List UInt8→Nat
 |[]=>b
 |c::x=>tb (if c==92 then b+1 else 0) x
def escB(b:Nat)(x:List UInt8):Bool:=tb b x%2==1||(x.getLast? ==some 13&&tb b x.dropLast%2==1)
theorem qhE:∀(x:List UInt8) (b:Nat),(∀c∈x,c≠10)→gN x b=x.length
 |[],_,_=>rfl
 |[c],b,h=>by
  have hc:(c==10)=false:=by simpa using h c (by simp)
  rw[gN,hc];rfl
 |c::d::r,b,h=>by
  have hc:(c==10)=false:=by simpa using h c (by simp)
  have hd:(d==10)=false:=by simpa using h d (by simp)
  rw[gN,hc,hd,qhE (d::r) _ fun z hz=>h z (List.mem_cons_of_mem _ hz)]
  simp only[Bool.false_and,Bool.and_false,Bool.false_eq_true,if_false,List.length_cons];omega
theorem gN_nl(r:List UInt8)(b:Nat):gN (10::r) b=if b%2=1 then 1+gN r 0 else 0:=by
 rcases Nat.mod_two_eq_zero_or_one b with h|h
 ·match r with
  |[]=>simp[gN,h]
  |d::r=>simp[gN,h]
 ·match r with
  |[]=>simp[gN,h]
  |d::r=>simp[gN,h]
theorem qjy:∀(x r:List UInt8) (b:Nat),(∀c∈x,c≠10)→gN (x++10::r) b=if escB b x=true then x.length+1+gN r 0 else x.length
 |[],r,b,_=>by
  have e:escB b []=(b%2==1):=by unfold escB;simp[tb]
  rw[e,List.nil_append,gN_nl]
  by_cases h:b%2=1
  ·rw[if_pos h,if_pos (by simpa using h)];simp
  ·rw[if_neg h,if_neg (by simpa using h)];rfl
 |[c],r,b,h=>by
  have hc:(c==10)=false:=by simpa using h c (by simp)
  have e:escB b [c]=((if c==92 then b+1 else 0)%2==1||(c==13&&b%2==1)):=by unfold escB;simp[tb]
  rw[e,List.singleton_append,gN,hc,gN_nl]
  cases h13:(c==13&&b%2==1)
  ·have h13':(c==13&&(10:UInt8)==10&&b%2==1)=false:=by simpa using h13
   rw[h13',Bool.or_false]
   simp only[Bool.false_and,Bool.false_eq_true,if_false]
   by_cases ho:(if c==92 then b+1 else 0)%2=1
   ·rw[if_pos ho,if_pos (by simpa using ho)];simp only[List.length_singleton];omega
   ·rw[if_neg ho,if_neg (by simpa using ho)];rfl
  ·have h13':(c==13&&(10:UInt8)==10&&b%2==1)=true:=by simpa using h13
   rw[h13',Bool.or_true]
   simp
 |c::e::x,r,b,h=>by
  have hc:(c==10)=false:=by simpa using h c (by simp)
  have he:(e==10)=false:=by simpa using h e (by simp)
  have ih:=qjy (e::x) r (if c==92 then b+1 else 0) fun z hz=>h z (List.mem_cons_of_mem _ hz)
  have hs:escB b (c::e::x)=escB (if c==92 then b+1 else 0) (e::x):=by
   unfold escB
   rw[List.getLast?_cons_cons,List.dropLast_cons_cons]
   rfl
  rw[hs]
  generalize escB (if c==92 then b+1 else 0) (e::x)=q at ih⊢
  rw[List.cons_append] at ih
  rw[List.cons_append,List.cons_append,gN,hc,he,ih]
  simp only[Bool.false_and,Bool.and_false,Bool.false_eq_true,if_false,List.length_cons]
  cases q
  ·simp only[Bool.false_eq_true,if_false];omega
  ·simp only[if_true];omega
theorem qjw:∀(x:List UInt8) (b:Nat) (c:UInt8),tb b (x++[c])=if c==92 then tb b x+1 else 0
 |[],b,c=>rfl
 |d::x,b,c=>qjw x _ c
theorem qjF(x:List UInt8)(c:UInt8):qez (x++[c])=if c==92 then qez x+1 else 0:=by
 unfold qez
 rw[List.reverse_append,List.reverse_singleton,List.singleton_append,List.takeWhile_cons]
 cases c==92<;>rfl
theorem qiz:∀(k:Nat) (x:List UInt8),x.length≤k→tb 0 x=qez x:=by
 intro k
 induction k with
 |zero=>
  intro x h
  obtain rfl:=List.length_eq_zero_iff.1 (show x.length=0 by omega)
  rfl
 |succ k ih=>
  intro x h
  rcases List.eq_nil_or_concat x with rfl|⟨y,c,rfl⟩
  ·rfl
  ·rw[List.concat_eq_append] at*
   rw[qjw,qjF,ih y (by rw[List.length_append,List.length_singleton] at h;omega)]
theorem esc_odd(x:List UInt8):escB 0 x= !(!oddB x&& !oddB (Lib.trimSuffix x [13])):=by
 unfold escB
 rw[qiz _ x (Nat.le_refl _),qiz _ x.dropLast (Nat.le_refl _)]
 rcases List.eq_nil_or_concat x with rfl|⟨y,c,rfl⟩
 ·rfl
 ·rw[List.concat_eq_append,List.dropLast_concat,List.getLast?_concat]
  unfold oddB
  by_cases h13:c=13
  ·subst h13
   have hs:Lib.hasSuffix (y++[13]) [13]=true:=by
    unfold Lib.hasSuffix
    exact List.isSuffixOf_iff_suffix.2 ⟨y,rfl⟩
   have ht:Lib.trimSuffix (y++[13]) [13]=y:=by
    unfold Lib.trimSuffix
    rw[if_pos hs]
    simp
   rw[ht]
   simp
  ·have hs:Lib.hasSuffix (y++[c]) [13]=false:=by
    cases hq:Lib.hasSuffix (y++[c]) [13]
    ·rfl
    ·exfalso
     unfold Lib.hasSuffix at hq
     obtain⟨t,ht⟩:=List.isSuffixOf_iff_suffix.1 hq
     have:=congrArg List.getLast? ht
     simp at this
     exact h13 this.symm
   have ht:Lib.trimSuffix (y++[c]) [13]=y++[c]:=by
    unfold Lib.trimSuffix
    rw[if_neg (by rw[hs];simp)]
   rw[ht]
   have h2:(some c==some 13)=false:=by simpa using h13
   rw[h2]
   simp
theorem qjU:∀(k:Nat) (l:List UInt8),l.length≤k→gN l 0=qa9 l:=by
 intro k
 induction k with
 |zero=>
  intro l h
  obtain rfl:=List.length_eq_zero_iff.1 (show l.length=0 by omega)
  rw[qb2 _ (by decide)];rfl
 |succ k ih=>
  intro l hl
  rcases qel l with h0|⟨j,hj,hjl⟩
  ·rw[qb2 l h0]
   refine qhE l 0 fun c hc e=>?_
   obtain⟨i,hi,he⟩:=List.mem_iff_getElem.1 hc
   exact Lib.indexByte_none (show Lib.indexByte l 10= -1 by have:=Lib.indexByte_ge l 10;omega) i (by rw[List.getElem?_eq_getElem hi,he,e])
  ·obtain⟨j1,j2⟩:=Lib.indexByte_some hj
   have hsplit:l=l.take j++10::l.drop (j+1):=by
    have hd:l.drop j=10::l.drop (j+1):=by
     rw[List.drop_eq_getElem_cons hjl]
     congr 1
     have:=List.getElem?_eq_getElem hjl
     rw[this] at j1
     exact Option.some.inj j1
    rw[←hd,List.take_append_drop]
   have hno:∀c∈l.take j,c≠10:=fun c hc e=>by
    obtain⟨i,hi,he⟩:=List.mem_iff_getElem.1 hc
    rw[List.length_take] at hi
    refine j2 i (by omega) ?_
    rw[←List.getElem?_take_of_lt (show i<j by omega),List.getElem?_eq_getElem (by rw[List.length_take];omega),he,e]
   have hg:=qjy (l.take j) (l.drop (j+1)) 0 hno
   rw[←hsplit,esc_odd] at hg
   rw[hg]
   have hlen:(l.take j).length =j:=by rw[List.length_take];omega
   cases hb:(!oddB (l.take j)&& !oddB (Lib.trimSuffix (l.take j) [13]))
   ·rw[qcP l j hj hb,if_pos (by simp),hlen,ih _ (by rw[List.length_drop];omega)]
   ·rw[qcZ l j hj hb,if_neg (by simp),hlen]
theorem gN_stop{l:List UInt8}{n b:Nat}(h:l[n]? =some 10)(hb:b%2=0):gN (l.drop n) b=0:=by
 obtain⟨hlt,he⟩:=List.getElem?_eq_some_iff.1 h
 rw[List.drop_eq_getElem_cons hlt,he,gN_nl,if_neg (by omega)]
theorem gN_two{l:List UInt8}{n b:Nat}(h:l[n]? =some 13)(h2:l[n+1]? =some 10)(hb:b%2=1):gN (l.drop n) b=2+gN (l.drop (n+2)) 0:=by
 obtain⟨hlt,he⟩:=List.getElem?_eq_some_iff.1 h
 obtain⟨hlt2,he2⟩:=List.getElem?_eq_some_iff.1 h2
 rw[List.drop_eq_getElem_cons hlt,he,List.drop_eq_getElem_cons hlt2,he2,gN]
 simp[hb]
theorem qdm{l:List UInt8}{n b:Nat}{c:UInt8}(h:l[n]? =some c)(h1:¬(c=10∧b%2=0))(h2:¬(c=13∧l[n+1]? =some 10∧b%2=1)):gN (l.drop n) b=1+gN (l.drop (n+1)) (if c==92 then b+1 else 0):=by
 obtain⟨hlt,he⟩:=List.getElem?_eq_some_iff.1 h
 have e1:(c==10&&b%2==0)=false:=by
  rw[Bool.and_eq_false_iff,beq_eq_false_iff_ne,beq_eq_false_iff_ne]
  by_cases hc:c=10
  ·exact .inr fun e=>h1 ⟨hc,e⟩
  ·exact .inl hc
 rw[List.drop_eq_getElem_cons hlt,he]
 cases hd:l.drop (n+1) with
 |nil=>
  show gN [c] b=1
  simp only[gN,e1,Bool.false_eq_true,if_false]
 |cons d r=>
  have hd1:l[n+1]? =some d:=by
   have:=congrArg (fun x:List UInt8=>x[0]?) hd
   simpa using this
  have e2:(c==13&&d==10&&b%2==1)=false:=by
   cases hq:(c==13&&d==10&&b%2==1)
   ·rfl
   ·rw[Bool.and_eq_true,Bool.and_eq_true,beq_iff_eq,beq_iff_eq,beq_iff_eq] at hq
    exact absurd ⟨hq.1.1,by rw[hd1,hq.1.2],hq.2⟩ h2
  rw[gN,e1,e2];rfl
theorem qaG{c:UInt8}{k:Nat}(hk:k<256)(h:((c.toNat:Int)==(k:Int))=true):c=UInt8.ofNat k:=by
 apply UInt8.toNat_inj.1
 rw[beq_iff_eq] at h
 rw[UInt8.toNat_ofNat_of_lt' (by show k<256;exact hk)]
 omega
theorem qam{c:UInt8}{k:Nat}(hk:k<256)(h:((c.toNat:Int)==(k:Int))=false):c≠UInt8.ofNat k:=fun e=>by
 rw[e,UInt8.toNat_ofNat_of_lt' (by show k<256;exact hk)] at h
 simp at h
theorem qjt(s:ByteArray)(w:World)(hs:s.size<4611686018427387904):
  Calls Tryz.prog 87 #[.string s] w fun e w'=>e=.returned (.int .i64 (qa9 s.data.toList:Nat))∧w'=w:=by
 rw[←qjU _ _ (Nat.le_refl _)]
 have Hsz:=qh (Lib.size_eq s)
 go_enter Tryz.func87,Tryz.ntmps87
 go_wp2
 go_loopw [3,4] (fun i v wr=>∃n b:Nat,n≤s.size∧b≤n∧i=.int .i64 n∧v=.int .i64 b∧Hid (n+gN (s.data.toList.drop n) b=gN s.data.toList 0)∧wr=w) (fun i _ _=>s.size- (intOf i).toNat)
 case atStart=>exact⟨0,0,by omega,by omega,rfl,rfl,qh (by simp),rfl⟩
 case round=>
  obtain⟨n,b,hn,hbn,rfl,rfl,Hg,rfl⟩:=hrel
  by_cases hlt:n<s.size
  ·have hb:s.data.toList[n]? =some s[n]:=by rw[List.getElem?_eq_getElem (by rw[←Hsz.out];exact hlt)];rfl
   have hbp:b%2=0∨b%2=1:=by omega
   have Hb:=qh hb
   clear hb
   cases h10:((s[n].toNat :Int)==10)
   ·have n10:=qam (k:=10) (by omega) h10
    have N10:=qh n10
    cases h13:((s[n].toNat :Int)==13)
    ·have N13:=qh (qam (k:=13) (by omega) h13)
     clear n10
     cases h92:((s[n].toNat :Int)==92)
     ·have N92:=qh (qam (k:=92) (by omega) h92)
      have Hst:=qh (qdm Hb.out (b:=b) (fun h=>N10.out h.1) (fun h=>N13.out h.1))
      have Hbn:=qh (show(if s[n]==92 then b+1 else 0)=0 by rw[show(s[n]==92)=_ from(beq_eq_false_iff_ne.2 N92.out)];rfl)
      go_wp2
      go_roundw
      case rel=>exact⟨n+1,0,by omega,by omega,by go_num,by first|rfl|go_num,qh (by have h1:=Hg.out;rw[Hst.out,Hbn.out] at h1;omega),by first|rfl|trivial⟩
      case measure=>simp only[intOf];omega
     ·have N92:=qh (qaG (k:=92) (by omega) h92)
      have Hst:=qh (qdm Hb.out (b:=b) (fun h=>N10.out h.1) (fun h=>N13.out h.1))
      have Hbn:=qh (show(if s[n]==92 then b+1 else 0)=b+1 by rw[show(s[n]==92)=_ from(beq_iff_eq.2 N92.out)];rfl)
      go_wp2
      go_roundw
      case rel=>exact⟨n+1,b+1,by omega,by omega,by go_num,by first|rfl|go_num,qh (by have h1:=Hg.out;rw[Hst.out,Hbn.out] at h1;omega),by first|rfl|trivial⟩
      case measure=>simp only[intOf];omega
    ·have N13:=qh (qaG (k:=13) (by omega) h13)
     have h92:((s[n].toNat :Int)==92)=false:=by rw[N13.out];rfl
     have N92:=qh (qam (k:=92) (by omega) h92)
     clear n10
     by_cases hn1:n+1<s.size
     ·have Hb1:=qh (show s.data.toList[n+1]? =some s[n+1] by rw[List.getElem?_eq_getElem (by rw[←Hsz.out];exact hn1)];rfl)
      cases h10b:((s[n+1].toNat :Int)==10)
      ·have M10:=qh (qam (k:=10) (by omega) h10b)
       have Hst:=qh (qdm Hb.out (b:=b) (fun h=>N10.out h.1) (fun h=>M10.out (by have:=h.2.1;rw[Hb1.out] at this;exact Option.some.inj this)))
       have Hbn:=qh (show(if s[n]==92 then b+1 else 0)=0 by rw[show(s[n]==92)=_ from(beq_eq_false_iff_ne.2 N92.out)];rfl)
       go_wp2
       go_roundw
       case rel=>exact⟨n+1,0,by omega,by omega,by go_num,by first|rfl|go_num,qh (by have h1:=Hg.out;rw[Hst.out,Hbn.out] at h1;omega),by first|rfl|trivial⟩
       case measure=>simp only[intOf];omega
      ·have M10:=qh (qaG (k:=10) (by omega) h10b)
       rcases hbp with ho|ho
       ·have p2:(((b:Int)%2)==1)=false:=by rw[beq_eq_false_iff_ne];omega
        have p2':(((b:Int)%2)=1)=False:=by apply eq_false;omega
        have Ho:=qh ho
        clear ho
        have Hst:=qh (qdm Hb.out (b:=b) (fun h=>N10.out h.1) (fun h=>by have:=h.2.2;have:=Ho.out;omega))
        have Hbn:=qh (show(if s[n]==92 then b+1 else 0)=0 by rw[show(s[n]==92)=_ from(beq_eq_false_iff_ne.2 N92.out)];rfl)
        go_wp2
        go_roundw
        case rel=>exact⟨n+1,0,by omega,by omega,by go_num,by first|rfl|go_num,qh (by have h1:=Hg.out;rw[Hst.out,Hbn.out] at h1;omega),by first|rfl|trivial⟩
        case measure=>simp only[intOf];omega
       ·have p3:(((b:Int)%2)==1)=true:=by rw[beq_iff_eq];omega
        have p3':((b:Int)%2)=1:=by omega
        have Hst:=qh (gN_two (l:=s.data.toList) (n:=n) (b:=b) (by rw[Hb.out,N13.out];rfl) (by rw[Hb1.out,M10.out];rfl) ho)
        clear ho
        go_wp2
        go_roundw
        case rel=>exact⟨n+2,0,by omega,by omega,by go_num,by first|rfl|go_num,qh (by have h1:=Hg.out;rw[Hst.out] at h1;omega),by first|rfl|trivial⟩
        case measure=>simp only[intOf];omega
     ·have Hnone:=qh (show s.data.toList[n+1]? =none from List.getElem?_eq_none (by rw[←Hsz.out];omega))
      have Hst:=qh (qdm Hb.out (b:=b) (fun h=>N10.out h.1) (fun h=>by have:=h.2.1;rw[Hnone.out] at this;simp at this))
      have Hbn:=qh (show(if s[n]==92 then b+1 else 0)=0 by rw[show(s[n]==92)=_ from(beq_eq_false_iff_ne.2 N92.out)];rfl)
      go_wp2
      go_roundw
      case rel=>exact⟨n+1,0,by omega,by omega,by go_num,by first|rfl|go_num,qh (by have h1:=Hg.out;rw[Hst.out,Hbn.out] at h1;omega),by first|rfl|trivial⟩
      case measure=>simp only[intOf];omega
   ·have N10:=qh (qaG (k:=10) (by omega) h10)
    rcases hbp with ho|ho
    ·have p0:(((b:Int)%2)==0)=true:=by rw[beq_iff_eq];omega
     have p0':((b:Int)%2)=0:=by omega
     have Hst:=qh (gN_stop (l:=s.data.toList) (n:=n) (b:=b) (by rw[Hb.out,N10.out];rfl) ho)
     clear ho
     go_wp2
     go_ret
     refine⟨qau ?_,rfl⟩
     have h1:=Hg.out
     rw[Hst.out] at h1
     omega
    ·have p1:(((b:Int)%2)==0)=false:=by rw[beq_eq_false_iff_ne];omega
     have p1':(((b:Int)%2)=0)=False:=by apply eq_false;omega
     have h13:((s[n].toNat :Int)==13)=false:=by rw[N10.out];rfl
     have h92:((s[n].toNat :Int)==92)=false:=by rw[N10.out];rfl
     have Ho:=qh ho
     clear ho
     have Hst:=qh (qdm Hb.out (b:=b) (fun h=>by have:=h.2;have:=Ho.out;omega) (fun h=>by have:=h.1;rw[N10.out] at this;exact absurd this (by decide)))
     have Hbn:=qh (show(if s[n]==92 then b+1 else 0)=0 by rw[show(s[n]==92)=_ from(beq_eq_false_iff_ne.2 (by rw[N10.out];decide))];rfl)
     go_wp2
     go_roundw
     case rel=>exact⟨n+1,0,by omega,by omega,by go_num,by first|rfl|go_num,qh (by have h1:=Hg.out;rw[Hst.out,Hbn.out] at h1;omega),by first|rfl|trivial⟩
     case measure=>simp only[intOf];omega
  ·obtain rfl:n=s.size:=by omega
   go_wp2
   go_ret
   refine⟨qau ?_,rfl⟩
   have h1:=Hg.out
   rw[List.drop_eq_nil_of_le (Nat.le_of_eq Hsz.out.symm)] at h1
   exact h1
theorem esc_34(r:List UInt8):escN (34::r)=0:=by cases r<;>rfl
theorem qfh{l:List UInt8}{n:Nat}{c:UInt8}(h:l[n]? =some c):l.drop n=c::l.drop (n+1):=by
 obtain⟨hlt,he⟩:=List.getElem?_eq_some_iff.1 h
 rw[List.drop_eq_getElem_cons hlt,he]
theorem qhB(s:ByteArray)(w:World)(hs:s.size<4611686018427387904):
  Calls Tryz.prog 61 #[.string s] w fun e w'=>e=.returned (.int .i64 (qak s.data.toList:Nat))∧Below w.heap.size w w':=by
 have Hsz:=qh (Lib.size_eq s)
 go_enter Tryz.func61,Tryz.ntmps61
 go_wp2
 go_loopw [3] (fun i wr=>∃n:Nat,n≤s.size∧i=.int .i64 n∧Hid (n+qak (s.data.toList.drop n)=qak s.data.toList)∧Below w.heap.size w wr) (fun i _=>s.size- (intOf i).toNat)
 case atStart=>exact⟨0,by omega,rfl,qh (by simp),Below.refl _ _⟩
 case round=>
  obtain⟨n,hn,rfl,Hg,hB⟩:=hrel
  by_cases hlt:n<s.size
  ·have Hb:=qh (show s.data.toList[n]? =some s[n] by rw[List.getElem?_eq_getElem (by rw[←Hsz.out];exact hlt)];rfl)
   cases h34:((s[n].toNat :Int)==34)
   ·have N34:=qh (qam (k:=34) (by omega) h34)
    have h34':((s[n].toNat :Int) != 34)=true:=by rw[bne,h34];rfl
    cases h92:((s[n].toNat :Int)==92)
    ·have N92:=qh (qam (k:=92) (by omega) h92)
     have Hst:=qh (show qak (s.data.toList.drop n)=1+qak (s.data.toList.drop (n+1)) by
      rw[qfh Hb.out]
      exact qdB _ _ (by unfold isQS;rw[show(s[n]==34)=false from beq_eq_false_iff_ne.2 N34.out,show(s[n]==92)=false from beq_eq_false_iff_ne.2 N92.out];rfl))
     go_wp2
     go_roundw
     case rel=>exact⟨n+1,by omega,by go_num,qh (by have h1:=Hg.out;rw[Hst.out] at h1;omega),hB⟩
     case measure=>simp only[intOf];omega
    ·have N92:=qh (qaG (k:=92) (by omega) h92)
     have he:=fun w=>qh0 (s.extract n s.size) w (qdQ s n s.size hs)
     rw[qba] at he
     have hle:=qj9 (s.data.toList.drop n)
     rw[List.length_drop,←Hsz.out] at hle
     by_cases hk:escN (s.data.toList.drop n)=0
     ·have Hst:=qh (show qak (s.data.toList.drop n)=0 by
       rw[qfh Hb.out] at hk⊢
       exact qeb _ _ (by unfold isQS;rw[N92.out];rfl) hk)
      rw[hk] at he
      have He:=qh he
      clear he hle hk
      go_wp2_with(go_at_call 84;refine(He.out _).mono ?_;rintro e w2 ⟨rfl,hb⟩;have hB2:=hB.trans (hb.mono hB.size);clear hb)
      go_ret
      refine⟨qau ?_,hB2⟩
      have h1:=Hg.out
      rw[Hst.out] at h1
      omega
     ·have Hst:=qh (qgS (s.data.toList.drop n) hk)
      generalize escN (s.data.toList.drop n)=k at*
      have He:=qh he
      have y0:((k:Int)==0)=false:=by rw[beq_eq_false_iff_ne];omega
      clear he
      go_wp2_with(go_at_call 84;refine(He.out _).mono ?_;rintro e w2 ⟨rfl,hb⟩;have hB2:=hB.trans (hb.mono hB.size);clear hb)
      go_roundw
      case rel=>exact⟨n+k,by omega,by go_num,qh (by have h1:=Hg.out;rw[Hst.out,List.drop_drop] at h1;omega),hB2⟩
      case measure=>simp only[intOf];omega
   ·have N34:=qh (qaG (k:=34) (by omega) h34)
    have h34':((s[n].toNat :Int) != 34)=false:=by rw[bne,h34];rfl
    have Hst:=qh (show qak (s.data.toList.drop n)=0 by
     rw[qfh Hb.out,N34.out]
     exact qeb _ _ rfl (esc_34 _))
    go_wp2
    go_ret
    refine⟨qau ?_,hB⟩
    have h1:=Hg.out
    rw[Hst.out] at h1
    omega
  ·obtain rfl:n=s.size:=by omega
   go_wp2
   go_ret
   refine⟨qau ?_,hB⟩
   have h1:=Hg.out
   rw[List.drop_eq_nil_of_le (Nat.le_of_eq Hsz.out.symm),qeN] at h1
   exact h1
def qac(l:List UInt8):Nat×Nat:=((qds l).find? fun x=>decide (0<x.2)).getD (13,0)
theorem ql0{b:UInt8}{r:List UInt8}(h:b≠10):0<qa9 (b::r):=by
 rcases qel (b::r) with h0|⟨j,hj,hjl⟩
 ·rw[qb2 _ h0];simp
 ·have h1:=(Lib.indexByte_some hj).1
  have h0:j≠0:=fun e=>by
   rw[e] at h1
   exact h (by simpa using h1)
  cases h2:(!oddB ((b::r).take j)&& !oddB (Lib.trimSuffix ((b::r).take j) [13]))
  ·rw[qcP _ j hj h2];omega
  ·rw[qcZ _ j hj h2];omega
theorem qmD{l:List UInt8}(a1 a2 a3 a4 a5 a6 a7 a8 a9:Nat)(h1:qy qaq l=a1)(h2:qfj l=a2)(h3:qay l=a3)(h4:qaZ 46 qE l=a4)(h5:qaZ 36 qay l=a5)(h6:qaZ 64 (qy qO) l=a6)(h7:qQ l=a7)(h8:qdJ l=a8)(h9:qat l=a9):
  qac l=(([(1,a1),(2,a2),(3,a3),(4,a4),(5,a5),(12,a6),(6,a7),(7,a8),(13,a9)]:List (Nat×Nat)).find? fun x=>decide (0<x.2)).getD (13,0):=by
 unfold qac qds
 rw[qij,qgX,h1,h2,h3,h4,h5,h6,h7,h8,h9]
theorem qmC{w1:World}{B:Nat}{a b x y:Value}{t:TypeId}(r:w1.heap[B]? =some (.cells #[a,b] t (0,0))):((w1.setCell ⟨B,0,none⟩ x).setCell ⟨B,1,none⟩ y).heap[B]? =some (.cells #[x,y] t (0,0)):=
 heap_setCell_same (w1.setCell ⟨B,0,none⟩ x) B 1 _ _ y (heap_setCell_same w1 B 0 _ _ x r)
theorem qln{w w1:World}{x y:Value}(h:Below w.heap.size w w1):Below w.heap.size w ((w1.setCell ⟨w.heap.size,0,none⟩ x).setCell ⟨w.heap.size,1,none⟩ y):=
 (h.setCell (p:=⟨w.heap.size,0,none⟩) (Nat.le_refl _) _).setCell (p:=⟨w.heap.size,1,none⟩) (Nat.le_refl _) _
theorem cut0(R:ByteArray)(n:Nat):(R.extract 0 n).data.toList =R.data.toList.take n:=by
 rw[Lib.extract_data];simp
theorem qi1(p:UInt8→Bool)(b:UInt8)(r:List UInt8):qy p (b::r)=if p b=true then qy p r+1 else 0:=by
 unfold qy
 rw[List.takeWhile_cons]
 cases p b<;>simp
def qhe(s:ByteArray)(w:World)(r:Nat×Nat)(e:Ending)(w':World):Prop:=∃R:ByteArray,e=.returned (.agg #[.int .i64 (r.1:Int),.string R])∧R.data.toList=s.data.toList.take r.2∧Below w.heap.size w w'
theorem qc8{p:Prop}(b:Bool)(h0:b=false→p)(h1:b=true→p):p:=by
 cases b
 ·exact h0 rfl
 ·exact h1 rfl
theorem qgK{s:ByteArray}{w w':World}{a:Act}{fn:Func}{K n:Nat}{r:Nat×Nat}(hp:r=(K,n))(hr:(results fn a.tmps).run Tryz.prog w'=.ok (.agg #[.int .i64 (K:Int),.string (s.extract 0 n)]) w')(hd:a.defers=[])(hb:Below w.heap.size w w'):bodyPost Tryz.prog fn (qhe s w r) .ret a w':=
 bodyPost_ret hr hd (by rw[hp];exact⟨_,rfl,cut0 _ _,hb⟩)
theorem qfM(s:ByteArray)(w:World)(h0:0<s.size)(hs:s.size<4611686018427387904):
  Calls Tryz.prog 63 #[.string s] w (qhe s w (qac s.data.toList)):=by
 have hr:=World.alloc_heap_new w (.cells #[.int .i64 0,.string ByteArray.empty] 60)
 have hB:Below w.heap.size w (w.alloc (.cells #[.int .i64 0,.string ByteArray.empty] 60)):=(Below.refl _ _).alloc (Nat.le_refl _) _
 have hcons:=qfl s h0
 have Cbl:=qh fun w=>qeQ s[0] w
 have Cbs:=qh fun w=>qh1 s w hs
 have Cno:=qh fun w=>qjt s w hs
 have Cwo:=qh fun w=>qf3 s w hs
 have Cnu:=qh fun w=>qhu s w hs
 have Cop:=qh fun w=>qjq s w hs
 have hs1:(s.extract 1 s.size).size <4611686018427387904:=qdQ s 1 s.size hs
 have cw1:=fun w=>qf3 (s.extract 1 s.size) w hs1
 have cp1:=fun w=>qjv (s.extract 1 s.size) w hs1
 rw[qba] at cw1 cp1
 have Cw1:=qh cw1
 have Cp1:=qh cp1
 have hle1:=qbb qaq s.data.toList
 have hle2:=qhc _ s.data.toList (Nat.le_refl _)
 have hle3:=qei s.data.toList
 have hle5:=qei (s.data.toList.drop 1)
 have hle6:=qbb qO (s.data.toList.drop 1)
 have hle7:=qfE s.data.toList
 have hle9:=qip s.data.toList
 have hx1:qy qaq s.data.toList=if qaq s[0]=true then qy qaq (s.data.toList.drop 1)+1 else 0:=by
  have h:=qi1 qaq s[0] (s.data.toList.drop 1)
  rwa [←hcons] at h
 have hx2:qfj s.data.toList=if s[0]==35 then qa9 s.data.toList else 0:=by rw[hcons];rfl
 have hx4:qaZ 46 qE s.data.toList=if s[0]==46 then(if qE (s.data.toList.drop 1)=0 then 0 else qE (s.data.toList.drop 1)+1) else 0:=by rw[hcons];rfl
 have hx5:qaZ 36 qay s.data.toList=if s[0]==36 then(if qay (s.data.toList.drop 1)=0 then 0 else qay (s.data.toList.drop 1)+1) else 0:=by rw[hcons];rfl
 have hx6:qaZ 64 (qy qO) s.data.toList=if s[0]==64 then(if qy qO (s.data.toList.drop 1)=0 then 0 else qy qO (s.data.toList.drop 1)+1) else 0:=by rw[hcons];rfl
 have hx8:qdJ s.data.toList=if s[0]==34 then 1 else 0:=by rw[hcons];rfl
 rw[List.length_drop,←Lib.size_eq] at hle5 hle6
 rw[←Lib.size_eq] at hle1 hle2 hle3 hle7 hle9
 have hpl:=qmD (l:=s.data.toList) _ _ _ _ _ _ _ _ _ rfl hx2 rfl hx4 hx5 hx6 rfl hx8 rfl
 refine qc8 (qaq s[0]) (fun hbl=>?a0) (fun hbl=>?b0)
 case' a0=>
  rw[hbl,if_neg (by simp)] at hx1
  rw[hbl] at Cbl
  rw[hx1] at hpl
  refine qc8 (((s[0].toNat :Int)==35)) (fun h35=>?a1) (fun h35=>?b1)
  case' a1=>
   have n35:(s[0]==35)=false:=beq_eq_false_iff_ne.2 (qam (k:=35) (by omega) h35)
   rw[n35] at hpl
   refine(Classical.em (0<qay s.data.toList)).elim (fun h3=>?a2) (fun h3=>?b2)
   case' a2=>
    have hp:qac s.data.toList=(3,qay s.data.toList):=by
     rw[hpl]
     simp[List.find?_cons,h3]
    have Hp:=qh hp
    clear hx1 hx2 hx4 hx5 hx6 hx8 hpl hp hcons
    generalize qay s.data.toList=an at*
   case' b2=>
    have hz3:qay s.data.toList=0:=by omega
    rw[hz3] at hpl Cwo
    refine qc8 (((s[0].toNat :Int)==46)) (fun h46=>?a3) (fun h46=>?b3)
    case' a3=>
     have n46:(s[0]==46)=false:=beq_eq_false_iff_ne.2 (qam (k:=46) (by omega) h46)
     rw[n46] at hpl
     refine qc8 (((s[0].toNat :Int)==36)) (fun h36=>?a4) (fun h36=>?b4)
     case' a4=>
      have n36:(s[0]==36)=false:=beq_eq_false_iff_ne.2 (qam (k:=36) (by omega) h36)
      rw[n36] at hpl
      refine qc8 (((s[0].toNat :Int)==64)) (fun h64=>?a5) (fun h64=>?b5)
      case' a5=>
       have n64:(s[0]==64)=false:=beq_eq_false_iff_ne.2 (qam (k:=64) (by omega) h64)
       rw[n64] at hpl
       refine(Classical.em (0<qQ s.data.toList)).elim (fun h7=>?a6) (fun h7=>?b6)
       case' a6=>
        have hp:qac s.data.toList=(6,qQ s.data.toList):=by
         rw[hpl]
         simp[List.find?_cons,h7]
        have Hp:=qh hp
        clear hx1 hx2 hx4 hx5 hx6 hx8 hpl hp hcons
        generalize qQ s.data.toList=an at*
       case' b6=>
        have hz7:qQ s.data.toList=0:=by omega
        rw[hz7] at hpl Cnu
        refine qc8 (((s[0].toNat :Int)==34)) (fun h34=>?a7) (fun h34=>?b7)
        case' a7=>
         have n34:(s[0]==34)=false:=beq_eq_false_iff_ne.2 (qam (k:=34) (by omega) h34)
         rw[n34] at hpl
         have hp:qac s.data.toList=(13,qat s.data.toList):=by
          rw[hpl]
          (rcases Nat.eq_zero_or_pos (qat s.data.toList) with h9|h9<;>simp[List.find?_cons,h9])
         have Hp:=qh hp
         clear hx1 hx2 hx4 hx5 hx6 hx8 hpl hp hcons
         generalize qat s.data.toList=an at*
        case' b7=>
         have n34:(s[0]==34)=true:=beq_iff_eq.2 (qaG (k:=34) (by omega) h34)
         rw[n34] at hpl
         have hp:qac s.data.toList=(7,1):=by
          rw[hpl]
          simp[List.find?_cons]
         have Hp:=qh hp
         clear hx1 hx2 hx4 hx5 hx6 hx8 hpl hp hcons
      case' b5=>
       have n64:(s[0]==64)=true:=beq_iff_eq.2 (qaG (k:=64) (by omega) h64)
       rw[n64,if_pos rfl] at hpl
       refine(Classical.em (qy qO (s.data.toList.drop 1)=0)).elim (fun hp1=>?a8) (fun hp1=>?b8)
       case' a8=>
        rw[if_pos hp1] at hpl
        rw[hp1] at Cp1
        refine(Classical.em (0<qQ s.data.toList)).elim (fun h7=>?a9) (fun h7=>?b9)
        case' a9=>
         have hp:qac s.data.toList=(6,qQ s.data.toList):=by
          rw[hpl]
          simp[List.find?_cons,h7]
         have Hp:=qh hp
         clear hx1 hx2 hx4 hx5 hx6 hx8 hpl hp hcons
         generalize qQ s.data.toList=an at*
        case' b9=>
         have hz7:qQ s.data.toList=0:=by omega
         rw[hz7] at hpl Cnu
         refine qc8 (((s[0].toNat :Int)==34)) (fun h34=>?a10) (fun h34=>?b10)
         case' a10=>
          have n34:(s[0]==34)=false:=beq_eq_false_iff_ne.2 (qam (k:=34) (by omega) h34)
          rw[n34] at hpl
          have hp:qac s.data.toList=(13,qat s.data.toList):=by
           rw[hpl]
           (rcases Nat.eq_zero_or_pos (qat s.data.toList) with h9|h9<;>simp[List.find?_cons,h9])
          have Hp:=qh hp
          clear hx1 hx2 hx4 hx5 hx6 hx8 hpl hp hcons
          generalize qat s.data.toList=an at*
         case' b10=>
          have n34:(s[0]==34)=true:=beq_iff_eq.2 (qaG (k:=34) (by omega) h34)
          rw[n34] at hpl
          have hp:qac s.data.toList=(7,1):=by
           rw[hpl]
           simp[List.find?_cons]
          have Hp:=qh hp
          clear hx1 hx2 hx4 hx5 hx6 hx8 hpl hp hcons
       case' b8=>
        rw[if_neg hp1] at hpl
        have hp:qac s.data.toList=(12,1+qy qO (s.data.toList.drop 1)):=by
         rw[hpl]
         (simp[List.find?_cons];omega)
        have Hp:=qh hp
        clear hx1 hx2 hx4 hx5 hx6 hx8 hpl hp hcons
        generalize qy qO (s.data.toList.drop 1)=an at*
     case' b4=>
      have b36:=qaG (k:=36) (by omega) h36
      have n36:(s[0]==36)=true:=beq_iff_eq.2 b36
      have h64:((s[0].toNat :Int)==64)=false:=by rw[b36];rfl
      have n64:(s[0]==64)=false:=by rw[b36];rfl
      rw[n36,if_pos rfl,n64] at hpl
      clear b36
      refine(Classical.em (qay (s.data.toList.drop 1)=0)).elim (fun hp1=>?a11) (fun hp1=>?b11)
      case' a11=>
       rw[if_pos hp1] at hpl
       rw[hp1] at Cw1
       refine(Classical.em (0<qQ s.data.toList)).elim (fun h7=>?a12) (fun h7=>?b12)
       case' a12=>
        have hp:qac s.data.toList=(6,qQ s.data.toList):=by
         rw[hpl]
         simp[List.find?_cons,h7]
        have Hp:=qh hp
        clear hx1 hx2 hx4 hx5 hx6 hx8 hpl hp hcons
        generalize qQ s.data.toList=an at*
       case' b12=>
        have hz7:qQ s.data.toList=0:=by omega
        rw[hz7] at hpl Cnu
        refine qc8 (((s[0].toNat :Int)==34)) (fun h34=>?a13) (fun h34=>?b13)
        case' a13=>
         have n34:(s[0]==34)=false:=beq_eq_false_iff_ne.2 (qam (k:=34) (by omega) h34)
         rw[n34] at hpl
         have hp:qac s.data.toList=(13,qat s.data.toList):=by
          rw[hpl]
          (rcases Nat.eq_zero_or_pos (qat s.data.toList) with h9|h9<;>simp[List.find?_cons,h9])
         have Hp:=qh hp
         clear hx1 hx2 hx4 hx5 hx6 hx8 hpl hp hcons
         generalize qat s.data.toList=an at*
        case' b13=>
         have n34:(s[0]==34)=true:=beq_iff_eq.2 (qaG (k:=34) (by omega) h34)
         rw[n34] at hpl
         have hp:qac s.data.toList=(7,1):=by
          rw[hpl]
          simp[List.find?_cons]
         have Hp:=qh hp
         clear hx1 hx2 hx4 hx5 hx6 hx8 hpl hp hcons
      case' b11=>
       rw[if_neg hp1] at hpl
       have hp:qac s.data.toList=(5,1+qay (s.data.toList.drop 1)):=by
        rw[hpl]
        (simp[List.find?_cons];omega)
       have Hp:=qh hp
       clear hx1 hx2 hx4 hx5 hx6 hx8 hpl hp hcons
       generalize qay (s.data.toList.drop 1)=an at*
    case' b3=>
     have b46:=qaG (k:=46) (by omega) h46
     have n46:(s[0]==46)=true:=beq_iff_eq.2 b46
     have h36:((s[0].toNat :Int)==36)=false:=by rw[b46];rfl
     have n36:(s[0]==36)=false:=by rw[b46];rfl
     have h64:((s[0].toNat :Int)==64)=false:=by rw[b46];rfl
     have n64:(s[0]==64)=false:=by rw[b46];rfl
     rw[n46,if_pos rfl,n36,n64] at hpl
     clear b46
     refine(Classical.em (1<s.size)).elim (fun hl1=>?a14) (fun hl1=>?b14)
     case' a14=>
      have hd1:s.data.toList.drop 1=s[1]::s.data.toList.drop 2:=qfh (by rw[List.getElem?_eq_getElem (by rw[←Lib.size_eq];exact hl1)];rfl)
      have cle:=fun w=>qaI s[1] w
      refine qc8 (qax s[1]) (fun hlt=>?a15) (fun hlt=>?b15)
      case' a15=>
       have hs0:qE (s.data.toList.drop 1)=0:=by rw[hd1];show(if qax s[1]=true then _ else 0)=0;rw[hlt];rfl
       rw[hs0,if_pos rfl] at hpl
       rw[hlt] at cle
       have Cle:=qh cle
       clear cle hd1 hlt
       refine(Classical.em (0<qQ s.data.toList)).elim (fun h7=>?a16) (fun h7=>?b16)
       case' a16=>
        have hp:qac s.data.toList=(6,qQ s.data.toList):=by
         rw[hpl]
         simp[List.find?_cons,h7]
        have Hp:=qh hp
        clear hx1 hx2 hx4 hx5 hx6 hx8 hpl hp hcons
        generalize qQ s.data.toList=an at*
       case' b16=>
        have hz7:qQ s.data.toList=0:=by omega
        rw[hz7] at hpl Cnu
        refine qc8 (((s[0].toNat :Int)==34)) (fun h34=>?a17) (fun h34=>?b17)
        case' a17=>
         have n34:(s[0]==34)=false:=beq_eq_false_iff_ne.2 (qam (k:=34) (by omega) h34)
         rw[n34] at hpl
         have hp:qac s.data.toList=(13,qat s.data.toList):=by
          rw[hpl]
          (rcases Nat.eq_zero_or_pos (qat s.data.toList) with h9|h9<;>simp[List.find?_cons,h9])
         have Hp:=qh hp
         clear hx1 hx2 hx4 hx5 hx6 hx8 hpl hp hcons
         generalize qat s.data.toList=an at*
        case' b17=>
         have n34:(s[0]==34)=true:=beq_iff_eq.2 (qaG (k:=34) (by omega) h34)
         rw[n34] at hpl
         have hp:qac s.data.toList=(7,1):=by
          rw[hpl]
          simp[List.find?_cons]
         have Hp:=qh hp
         clear hx1 hx2 hx4 hx5 hx6 hx8 hpl hp hcons
      case' b15=>
       have hsx:qE (s.data.toList.drop 1)=qy qO (s.data.toList.drop 1):=by rw[hd1];show(if qax s[1]=true then _ else 0)=_;rw[hlt];rfl
       have hp0:0<qy qO (s.data.toList.drop 1):=by rw[hd1,qi1,qcy,hlt];simp
       have hp1:¬qy qO (s.data.toList.drop 1)=0:=Nat.ne_of_gt hp0
       rw[hsx,if_neg hp1] at hpl
       rw[hlt] at cle
       have Cle:=qh cle
       clear cle hd1 hlt
       have hp:qac s.data.toList=(4,1+qy qO (s.data.toList.drop 1)):=by
        rw[hpl]
        (simp[List.find?_cons];omega)
       have Hp:=qh hp
       clear hx1 hx2 hx4 hx5 hx6 hx8 hpl hp hcons
       clear hsx hp1
       generalize qy qO (s.data.toList.drop 1)=an at*
     case' b14=>
      have hs0:qE (s.data.toList.drop 1)=0:=by rw[List.drop_eq_nil_of_le (by rw[←Lib.size_eq];omega)];rfl
      rw[hs0,if_pos rfl] at hpl
      refine(Classical.em (0<qQ s.data.toList)).elim (fun h7=>?a18) (fun h7=>?b18)
      case' a18=>
       have hp:qac s.data.toList=(6,qQ s.data.toList):=by
        rw[hpl]
        simp[List.find?_cons,h7]
       have Hp:=qh hp
       clear hx1 hx2 hx4 hx5 hx6 hx8 hpl hp hcons
       generalize qQ s.data.toList=an at*
      case' b18=>
       have hz7:qQ s.data.toList=0:=by omega
       rw[hz7] at hpl Cnu
       refine qc8 (((s[0].toNat :Int)==34)) (fun h34=>?a19) (fun h34=>?b19)
       case' a19=>
        have n34:(s[0]==34)=false:=beq_eq_false_iff_ne.2 (qam (k:=34) (by omega) h34)
        rw[n34] at hpl
        have hp:qac s.data.toList=(13,qat s.data.toList):=by
         rw[hpl]
         (rcases Nat.eq_zero_or_pos (qat s.data.toList) with h9|h9<;>simp[List.find?_cons,h9])
        have Hp:=qh hp
        clear hx1 hx2 hx4 hx5 hx6 hx8 hpl hp hcons
        generalize qat s.data.toList=an at*
       case' b19=>
        have n34:(s[0]==34)=true:=beq_iff_eq.2 (qaG (k:=34) (by omega) h34)
        rw[n34] at hpl
        have hp:qac s.data.toList=(7,1):=by
         rw[hpl]
         simp[List.find?_cons]
        have Hp:=qh hp
        clear hx1 hx2 hx4 hx5 hx6 hx8 hpl hp hcons
  case' b1=>
   have n35:(s[0]==35)=true:=beq_iff_eq.2 (qaG (k:=35) (by omega) h35)
   rw[n35,if_pos rfl] at hpl
   have hpos:0<qa9 s.data.toList:=by
    rw[hcons]
    exact ql0 (fun e=>by rw[e] at n35;simp at n35)
   have hp:qac s.data.toList=(2,qa9 s.data.toList):=by
    rw[hpl]
    simp[List.find?_cons,hpos]
   have Hp:=qh hp
   clear hx1 hx2 hx4 hx5 hx6 hx8 hpl hp hcons
   generalize qa9 s.data.toList=an at*
 case' b0=>
  rw[hbl] at Cbl
  rw[hbl,if_pos rfl] at hx1
  have hpos:0<qy qaq s.data.toList:=by omega
  have hp:qac s.data.toList=(1,qy qaq s.data.toList):=by
   rw[hpl]
   simp[List.find?_cons,hpos]
  have Hp:=qh hp
  clear hx1 hx2 hx4 hx5 hx6 hx8 hpl hp hcons
  generalize qy qaq s.data.toList=an at*
 all_goals
  go_enter Tryz.func63,Tryz.ntmps63
  go_wp2_with(first
   |(go_at_call 85;refine(Cbl.out _).mono ?_;rintro e w1 ⟨rfl,rfl⟩)
   |(go_at_call 86;refine(Cbs.out _).mono ?_;rintro e w1 ⟨rfl,rfl⟩)
   |(go_at_call 87;refine(Cno.out _).mono ?_;rintro e w1 ⟨rfl,rfl⟩)
   |(go_at_call 88;with_reducible refine(Cwo.out _).mono ?_;rintro e w1 ⟨rfl,rfl⟩)
   |(go_at_call 88;with_reducible refine(Cw1.out _).mono ?_;rintro e w1 ⟨rfl,rfl⟩)
   |(go_at_call 89;refine(Cle.out _).mono ?_;rintro e w1 ⟨rfl,rfl⟩)
   |(go_at_call 90;refine(Cp1.out _).mono ?_;rintro e w1 ⟨rfl,rfl⟩)
   |(go_at_call 91;refine(Cnu.out _).mono ?_;rintro e w1 ⟨rfl,rfl⟩)
   |(go_at_call 92;refine(Cop.out _).mono ?_;rintro e w1 ⟨rfl,hb⟩;have hr2:=(hb.block _ (qbi hr)).trans hr;have hB2:=hB.trans (hb.mono hB.size);have r0:=qa hr2 (o:=0) rfl;have r1:=qa hr2 (o:=1) rfl;have rf0:=frozen_of_row w1 w.heap.size 0 _ _ hr2;have rf1:=frozen_of_row w1 w.heap.size 1 _ _ hr2;clear hb))
  first
   |(have e2:=qmC (x:=.int .i64 13) (y:=.string (s.extract 0 an)) hr2
     have q0:=qa e2 (o:=0) rfl
     have q1:=qa e2 (o:=1) rfl
     exact qgK Hp.out (by simp[results,Tryz.results63,go_sem,q0,q1]) rfl (qln hB2))
   |exact qgK Hp.out (by simp[results,Tryz.results63,go_sem]) rfl ((Below.refl _ _).alloc (Nat.le_refl _) _)
def qbm(c:Nat):Int:=if c<128 then 0 else if 194≤c∧c≤223 then 1 else if 224≤c∧c≤239 then 2 else if 240≤c∧c≤244 then 3 else-1
theorem qce(c:Nat)(hc:c<256)(w:World):
  Calls Tryz.prog 83 #[.int .u8 (c:Int)] w fun e w'=>e=.returned (.int .i64 (qbm c))∧w'=w:=by
 unfold qbm
 by_cases h1:c<128
 ·rw[if_pos h1]
  go_enter Tryz.func83,Tryz.ntmps83
  go_wp2
  go_ret
  exact⟨rfl,rfl⟩
 ·rw[if_neg h1]
  by_cases h2:194≤c∧c≤223
  ·rw[if_pos h2]
   obtain⟨h2a,h2b⟩:=h2
   go_enter Tryz.func83,Tryz.ntmps83
   go_wp2
   go_ret
   exact⟨rfl,rfl⟩
  ·rw[if_neg h2]
   by_cases h3:224≤c∧c≤239
   ·rw[if_pos h3]
    obtain⟨h3a,h3b⟩:=h3
    go_enter Tryz.func83,Tryz.ntmps83
    go_wp2
    go_ret
    exact⟨rfl,rfl⟩
   ·rw[if_neg h3]
    by_cases h4:240≤c∧c≤244
    ·rw[if_pos h4]
     obtain⟨h4a,h4b⟩:=h4
     go_enter Tryz.func83,Tryz.ntmps83
     go_wp2
     go_ret
     exact⟨rfl,rfl⟩
    ·rw[if_neg h4]
     go_enter Tryz.func83,Tryz.ntmps83
     go_wp2
     all_goals
      go_ret
      exact⟨rfl,rfl⟩
def oneN(l:List UInt8):Nat:=if l=[] then 0 else if Lib.decodeL l=(65533,1) then 0 else(Lib.decodeL l).2
def Cont(b:Nat):Prop:=128≤b∧b≤191
theorem qlg{l:List UInt8}{r:Nat×Nat}(h0:l≠[])(h:Lib.decodeL l=r):oneN l=if r=(65533,1) then 0 else r.2:=by
 unfold oneN
 rw[if_neg h0,h]
theorem dec0(N b0 b1 b2 b3:Nat)(h:b0<128):Lib.decodeN N b0 b1 b2 b3=(b0,1):=by unfold Lib.decodeN;rw[if_pos h]
theorem qbL(N b0 b1 b2 b3:Nat)(h0:128≤b0)(hb:b0<256)(h:(b0<194∨244<b0)∨(b0≤223∧(N≤1∨¬Cont b1))∨(224≤b0∧b0≤239∧(N≤2∨¬Cont b1∨¬Cont b2))∨(240≤b0∧(N≤3∨¬Cont b1∨¬Cont b2∨¬Cont b3)))(h1:b1<256)(h2:b2<256)(h3:b3<256):Lib.decodeN N b0 b1 b2 b3=(65533,1):=by
 unfold Cont at h
 unfold Lib.decodeN
 repeat' split
 all_goals first|rfl|(exfalso;omega)
theorem dec1(N b0 b1 b2 b3:Nat)(h:194≤b0∧b0≤223)(hN:1<N)(h1:Cont b1):Lib.decodeN N b0 b1 b2 b3=(b0%32*64+b1%64,2)∧128≤b0%32*64+b1%64∧b0%32*64+b1%64<2048:=by
 unfold Cont at h1
 refine⟨?_,by omega,by omega⟩
 unfold Lib.decodeN
 repeat' split
 all_goals first|rfl|(exfalso;omega)
theorem dec2(N b0 b1 b2 b3:Nat)(h:224≤b0∧b0≤239)(hN:2<N)(h1:Cont b1)(h2:Cont b2):Lib.decodeN N b0 b1 b2 b3=if b0%16*4096+b1%64*64+b2%64<2048∨(55296≤b0%16*4096+b1%64*64+b2%64∧b0%16*4096+b1%64*64+b2%64≤57343)∨1114111<b0%16*4096+b1%64*64+b2%64 then(65533,1) else(b0%16*4096+b1%64*64+b2%64,3):=by
 unfold Cont at h1 h2
 unfold Lib.decodeN
 repeat' split
 all_goals first|rfl|(exfalso;omega)
theorem dec3(N b0 b1 b2 b3:Nat)(h:240≤b0∧b0≤244)(hN:3<N)(h1:Cont b1)(h2:Cont b2)(h3:Cont b3):Lib.decodeN N b0 b1 b2 b3=if b0%8*262144+b1%64*4096+b2%64*64+b3%64<65536∨(55296≤b0%8*262144+b1%64*4096+b2%64*64+b3%64∧b0%8*262144+b1%64*4096+b2%64*64+b3%64≤57343)∨1114111<b0%8*262144+b1%64*4096+b2%64*64+b3%64 then(65533,1) else(b0%8*262144+b1%64*4096+b2%64*64+b3%64,4):=by
 unfold Cont at h1 h2 h3
 unfold Lib.decodeN
 repeat' split
 all_goals first|rfl|(exfalso;omega)
theorem qb8{s:ByteArray}{j:Nat}(h:j<s.size):(s.data.toList.getD j 0).toNat =s[j].toNat :=by
 rw[List.getD_eq_getElem?_getD,List.getElem?_eq_getElem (by rw[←Lib.size_eq];exact h)];rfl
theorem qlA{s:ByteArray}(h:0<s.size):s.data.toList≠[]:=fun e=>by
 rw[Lib.size_eq,e] at h;simp at h
theorem qa1{s:ByteArray}(h:0<s.size)(hd:Lib.decodeN s.data.toList.length (s.data.toList.getD 0 0).toNat (s.data.toList.getD 1 0).toNat (s.data.toList.getD 2 0).toNat (s.data.toList.getD 3 0).toNat =(65533,1)):oneN s.data.toList=0:=by
 have e:Lib.decodeL s.data.toList=(65533,1):=by rw[Lib.decodeL_N];exact hd
 rw[qlg (qlA h) e,if_pos rfl]
theorem qcH{s:ByteArray}(h:0<s.size){r k:Nat}(hd:Lib.decodeN s.data.toList.length (s.data.toList.getD 0 0).toNat (s.data.toList.getD 1 0).toNat (s.data.toList.getD 2 0).toNat (s.data.toList.getD 3 0).toNat =(r,k))(hr:(r,k)≠(65533,1)):oneN s.data.toList=k:=by
 have e:Lib.decodeL s.data.toList=(r,k):=by rw[Lib.decodeL_N];exact hd
 rw[qlg (qlA h) e,if_neg hr]
theorem blt(l:List UInt8)(j:Nat):(l.getD j 0).toNat <256:=UInt8.toNat_lt _
theorem rone0(s:ByteArray)(w:World)(hs:s.size<4611686018427387904)(h0:0<s.size)(hlo:0≤s[0].toNat)(hhi:s[0].toNat ≤127)(hn:0<s.size):
  Calls Tryz.prog 60 #[.string s] w fun e w'=>e=.returned (.int .i64 (oneN s.data.toList:Nat))∧Below w.heap.size w w':=by
 have HW0:=qh (Below.refl w.heap.size w)
 have cm:=fun w=>qce s[0].toNat (UInt8.toNat_lt _) w
 have hm:qbm s[0].toNat =0:=by unfold qbm;rw[if_pos (by omega)]
 rw[hm] at cm
 have Cm:=qh cm
 obtain⟨he1,he2⟩:=qby s h0
 have he3:(s=ByteArray.empty)=False:=by apply eq_false;intro e;rw[e] at h0;exact absurd h0 (by decide)
 have G0:=qh (qb8 h0)
 have HL:=qh (Lib.size_eq s)
 have Hlo:=qh hlo
 have Hhi:=qh hhi
 have Hv:=qh (qcH h0 (dec0 _ _ _ _ _ (by rw[G0.out];omega)) (by rw[G0.out];intro e;rw[Prod.mk.injEq] at e;omega))
 clear cm hm
 go_enter Tryz.func60,Tryz.ntmps60
 go_wp2_with(go_at_call 83;refine(Cm.out _).mono ?_;rintro e w1 ⟨rfl,hw⟩;rw[hw];clear hw)
 go_loopw [4,5] (fun v i wr=>∃r:Nat,v=.int .i64 r∧((i=.int .i64 1∧r<128∧Hid (r=s[0].toNat)))∧Hid (Below w.heap.size w wr)) (fun _ i _=>5- (intOf i).toNat)
 case atStart=>exact⟨s[0].toNat,by first|rfl|go_num,⟨by first|rfl|go_num,by omega,qh rfl⟩,HW0⟩
 case round=>
  clear HW0
  obtain⟨r,rfl,⟨rfl,hr,Hr⟩,HW⟩:=hrel
  have hr1:r=s[0].toNat :=Hr.out
  go_wp2
  go_ret
  exact⟨by rw[Hv.out];rfl,by first|exact HW.out|exact(Below.refl _ _).alloc (Nat.le_refl _) _|exact HW.out.trans (((Below.refl _ _).alloc (Nat.le_refl _) _).mono HW.out.size)⟩
theorem rone1(s:ByteArray)(w:World)(hs:s.size<4611686018427387904)(h0:0<s.size)(hlo:194≤s[0].toNat)(hhi:s[0].toNat ≤223)(hn:1<s.size):
  Calls Tryz.prog 60 #[.string s] w fun e w'=>e=.returned (.int .i64 (oneN s.data.toList:Nat))∧Below w.heap.size w w':=by
 have HW0:=qh (Below.refl w.heap.size w)
 have cm:=fun w=>qce s[0].toNat (UInt8.toNat_lt _) w
 have hm:qbm s[0].toNat =1:=by unfold qbm;rw[if_neg (by omega),if_pos (by omega)]
 rw[hm] at cm
 have Cm:=qh cm
 obtain⟨he1,he2⟩:=qby s h0
 have he3:(s=ByteArray.empty)=False:=by apply eq_false;intro e;rw[e] at h0;exact absurd h0 (by decide)
 have G0:=qh (qb8 h0)
 have G1:=qh (qb8 (s:=s) (j:=1) (by omega))
 have HL:=qh (Lib.size_eq s)
 have Hlo:=qh hlo
 have Hhi:=qh hhi
 clear cm hm
 go_enter Tryz.func60,Tryz.ntmps60
 go_wp2_with(go_at_call 83;refine(Cm.out _).mono ?_;rintro e w1 ⟨rfl,hw⟩;rw[hw];clear hw)
 go_loopw [4,5] (fun v i wr=>∃r:Nat,v=.int .i64 r∧((i=.int .i64 1∧r<128∧Hid (r=s[0].toNat %32))∨(i=.int .i64 2∧r<8256∧Hid (r=64*(s[0].toNat %32)+s[1].toNat %64∧Cont s[1].toNat)))∧Hid (Below w.heap.size w wr)) (fun _ i _=>5- (intOf i).toNat)
 case atStart=>exact⟨s[0].toNat %32,by first|rfl|go_num,.inl ⟨by first|rfl|go_num,by omega,qh rfl⟩,HW0⟩
 case round=>
  clear HW0
  obtain⟨r,rfl,(⟨rfl,hr,Hr⟩|⟨rfl,hr,Hr⟩),HW⟩:=hrel
  ·by_cases hc:Cont s[1].toNat
   ·have Hc:=qh hc
    obtain⟨hc1,hc2⟩:=hc
    go_wp2
    go_roundw
    case rel=>exact⟨64*r+s[1].toNat %64,by first|rfl|go_num,.inr (⟨by first|rfl|go_num,by omega,qh ⟨by rw[Hr.out],Hc.out⟩⟩),HW⟩
    case measure=>simp only[intOf];omega
   ·have Hv:=qh (qa1 h0 (qbL _ _ _ _ _ (by rw[G0.out];omega) (by rw[G0.out];omega) (.inr (.inl ⟨(by rw[G0.out];omega),.inr (by rw[G1.out];exact hc)⟩)) (blt _ _) (blt _ _) (blt _ _)))
    have hc':s[1].toNat <128∨191<s[1].toNat :=by unfold Cont at hc;omega
    clear hc
    rcases hc' with hc|hc
    all_goals
     go_wp2
     go_ret
     exact⟨by rw[Hv.out];rfl,HW.out⟩
  ·have hd:=dec1 s.data.toList.length s[0].toNat s[1].toNat (s.data.toList.getD 2 0).toNat (s.data.toList.getD 3 0).toNat (by omega) (by rw[←HL.out];exact hn) Hr.out.2
   have hrr:r=s[0].toNat %32*64+s[1].toNat %64:=by rw[Hr.out.1];omega
   obtain⟨d1,d2,d3⟩:=hd
   rw[←hrr] at d1 d2 d3
   rw[←G0.out,←G1.out] at d1
   have Hv:=qh (qcH h0 d1 (by intro e;rw[Prod.mk.injEq] at e;omega))
   clear d1 hrr
   go_wp2
   go_ret
   exact⟨by rw[Hv.out];rfl,HW.out.trans (((Below.refl _ _).alloc (Nat.le_refl _) _).mono HW.out.size)⟩
theorem rone2(s:ByteArray)(w:World)(hs:s.size<4611686018427387904)(h0:0<s.size)(hlo:224≤s[0].toNat)(hhi:s[0].toNat ≤239)(hn:2<s.size):
  Calls Tryz.prog 60 #[.string s] w fun e w'=>e=.returned (.int .i64 (oneN s.data.toList:Nat))∧Below w.heap.size w w':=by
 have HW0:=qh (Below.refl w.heap.size w)
 have cm:=fun w=>qce s[0].toNat (UInt8.toNat_lt _) w
 have hm:qbm s[0].toNat =2:=by unfold qbm;rw[if_neg (by omega),if_neg (by omega),if_pos (by omega)]
 rw[hm] at cm
 have Cm:=qh cm
 obtain⟨he1,he2⟩:=qby s h0
 have he3:(s=ByteArray.empty)=False:=by apply eq_false;intro e;rw[e] at h0;exact absurd h0 (by decide)
 have G0:=qh (qb8 h0)
 have G1:=qh (qb8 (s:=s) (j:=1) (by omega))
 have G2:=qh (qb8 (s:=s) (j:=2) (by omega))
 have HL:=qh (Lib.size_eq s)
 have Hlo:=qh hlo
 have Hhi:=qh hhi
 clear cm hm
 go_enter Tryz.func60,Tryz.ntmps60
 go_wp2_with(go_at_call 83;refine(Cm.out _).mono ?_;rintro e w1 ⟨rfl,hw⟩;rw[hw];clear hw)
 go_loopw [4,5] (fun v i wr=>∃r:Nat,v=.int .i64 r∧((i=.int .i64 1∧r<128∧Hid (r=s[0].toNat %16))∨(i=.int .i64 2∧r<8256∧Hid (r=64*(s[0].toNat %16)+s[1].toNat %64∧Cont s[1].toNat))∨(i=.int .i64 3∧r<528448∧Hid (r=64*(64*(s[0].toNat %16)+s[1].toNat %64)+s[2].toNat %64∧Cont s[1].toNat ∧Cont s[2].toNat)))∧Hid (Below w.heap.size w wr)) (fun _ i _=>5- (intOf i).toNat)
 case atStart=>exact⟨s[0].toNat %16,by first|rfl|go_num,.inl ⟨by first|rfl|go_num,by omega,qh rfl⟩,HW0⟩
 case round=>
  clear HW0
  obtain⟨r,rfl,(⟨rfl,hr,Hr⟩|⟨rfl,hr,Hr⟩|⟨rfl,hr,Hr⟩),HW⟩:=hrel
  ·by_cases hc:Cont s[1].toNat
   ·have Hc:=qh hc
    obtain⟨hc1,hc2⟩:=hc
    go_wp2
    go_roundw
    case rel=>exact⟨64*r+s[1].toNat %64,by first|rfl|go_num,.inr (.inl (⟨by first|rfl|go_num,by omega,qh ⟨by rw[Hr.out],Hc.out⟩⟩)),HW⟩
    case measure=>simp only[intOf];omega
   ·have Hv:=qh (qa1 h0 (qbL _ _ _ _ _ (by rw[G0.out];omega) (by rw[G0.out];omega) (.inr (.inr (.inl ⟨(by rw[G0.out];omega),(by rw[G0.out];omega),.inr (.inl (by rw[G1.out];exact hc))⟩))) (blt _ _) (blt _ _) (blt _ _)))
    have hc':s[1].toNat <128∨191<s[1].toNat :=by unfold Cont at hc;omega
    clear hc
    rcases hc' with hc|hc
    all_goals
     go_wp2
     go_ret
     exact⟨by rw[Hv.out];rfl,HW.out⟩
  ·by_cases hc:Cont s[2].toNat
   ·have Hc:=qh hc
    obtain⟨hc1,hc2⟩:=hc
    go_wp2
    go_roundw
    case rel=>exact⟨64*r+s[2].toNat %64,by first|rfl|go_num,.inr (.inr (⟨by first|rfl|go_num,by omega,qh ⟨by rw[Hr.out.1],Hr.out.2,Hc.out⟩⟩)),HW⟩
    case measure=>simp only[intOf];omega
   ·have Hv:=qh (qa1 h0 (qbL _ _ _ _ _ (by rw[G0.out];omega) (by rw[G0.out];omega) (.inr (.inr (.inl ⟨(by rw[G0.out];omega),(by rw[G0.out];omega),.inr (.inr (by rw[G2.out];exact hc))⟩))) (blt _ _) (blt _ _) (blt _ _)))
    have hc':s[2].toNat <128∨191<s[2].toNat :=by unfold Cont at hc;omega
    clear hc
    rcases hc' with hc|hc
    all_goals
     go_wp2
     go_ret
     exact⟨by rw[Hv.out];rfl,HW.out⟩
  ·have hd:=dec2 s.data.toList.length s[0].toNat s[1].toNat s[2].toNat (s.data.toList.getD 3 0).toNat (by omega) (by rw[←HL.out];exact hn) Hr.out.2.1 Hr.out.2.2
   have hrr:r=s[0].toNat %16*4096+s[1].toNat %64*64+s[2].toNat %64:=by rw[Hr.out.1];omega
   rw[←hrr] at hd
   rw[←G0.out,←G1.out,←G2.out] at hd
   clear hrr
   by_cases b1:r<2048
   ·rw[if_pos (by omega)] at hd
    have Hv:=qh (qa1 h0 hd)
    clear hd
    first|(exfalso;omega)|(go_wp2;go_ret;exact⟨by rw[Hv.out];rfl,HW.out.trans (((Below.refl _ _).alloc (Nat.le_refl _) _).mono HW.out.size)⟩)
   ·by_cases b2:55296≤r
    ·by_cases b3:r≤57343
     ·rw[if_pos (by omega)] at hd
      have Hv:=qh (qa1 h0 hd)
      clear hd
      first|(exfalso;omega)|(go_wp2;go_ret;exact⟨by rw[Hv.out];rfl,HW.out.trans (((Below.refl _ _).alloc (Nat.le_refl _) _).mono HW.out.size)⟩)
     ·by_cases b4:1114111<r
      ·rw[if_pos (by omega)] at hd
       have Hv:=qh (qa1 h0 hd)
       clear hd
       first|(exfalso;omega)|(go_wp2;go_ret;exact⟨by rw[Hv.out];rfl,HW.out.trans (((Below.refl _ _).alloc (Nat.le_refl _) _).mono HW.out.size)⟩)
      ·rw[if_neg (by omega)] at hd
       have Hv:=qh (qcH h0 hd (by intro e;rw[Prod.mk.injEq] at e;omega))
       clear hd
       first|(exfalso;omega)|(go_wp2;go_ret;exact⟨by rw[Hv.out];rfl,HW.out.trans (((Below.refl _ _).alloc (Nat.le_refl _) _).mono HW.out.size)⟩)
    ·have b4:¬1114111<r:=by omega
     rw[if_neg (by omega)] at hd
     have Hv:=qh (qcH h0 hd (by intro e;rw[Prod.mk.injEq] at e;omega))
     clear hd
     first|(exfalso;omega)|(go_wp2;go_ret;exact⟨by rw[Hv.out];rfl,HW.out.trans (((Below.refl _ _).alloc (Nat.le_refl _) _).mono HW.out.size)⟩)
theorem rone3(s:ByteArray)(w:World)(hs:s.size<4611686018427387904)(h0:0<s.size)(hlo:240≤s[0].toNat)(hhi:s[0].toNat ≤244)(hn:3<s.size):
  Calls Tryz.prog 60 #[.string s] w fun e w'=>e=.returned (.int .i64 (oneN s.data.toList:Nat))∧Below w.heap.size w w':=by
 have HW0:=qh (Below.refl w.heap.size w)
 have cm:=fun w=>qce s[0].toNat (UInt8.toNat_lt _) w
 have hm:qbm s[0].toNat =3:=by unfold qbm;rw[if_neg (by omega),if_neg (by omega),if_neg (by omega),if_pos (by omega)]
 rw[hm] at cm
 have Cm:=qh cm
 obtain⟨he1,he2⟩:=qby s h0
 have he3:(s=ByteArray.empty)=False:=by apply eq_false;intro e;rw[e] at h0;exact absurd h0 (by decide)
 have G0:=qh (qb8 h0)
 have G1:=qh (qb8 (s:=s) (j:=1) (by omega))
 have G2:=qh (qb8 (s:=s) (j:=2) (by omega))
 have G3:=qh (qb8 (s:=s) (j:=3) (by omega))
 have HL:=qh (Lib.size_eq s)
 have Hlo:=qh hlo
 have Hhi:=qh hhi
 clear cm hm
 go_enter Tryz.func60,Tryz.ntmps60
 go_wp2_with(go_at_call 83;refine(Cm.out _).mono ?_;rintro e w1 ⟨rfl,hw⟩;rw[hw];clear hw)
 go_loopw [4,5] (fun v i wr=>∃r:Nat,v=.int .i64 r∧((i=.int .i64 1∧r<128∧Hid (r=s[0].toNat %8))∨(i=.int .i64 2∧r<8256∧Hid (r=64*(s[0].toNat %8)+s[1].toNat %64∧Cont s[1].toNat))∨(i=.int .i64 3∧r<528448∧Hid (r=64*(64*(s[0].toNat %8)+s[1].toNat %64)+s[2].toNat %64∧Cont s[1].toNat ∧Cont s[2].toNat))∨(i=.int .i64 4∧r<33820736∧Hid (r=64*(64*(64*(s[0].toNat %8)+s[1].toNat %64)+s[2].toNat %64)+s[3].toNat %64∧Cont s[1].toNat ∧Cont s[2].toNat ∧Cont s[3].toNat)))∧Hid (Below w.heap.size w wr)) (fun _ i _=>5- (intOf i).toNat)
 case atStart=>exact⟨s[0].toNat %8,by first|rfl|go_num,.inl ⟨by first|rfl|go_num,by omega,qh rfl⟩,HW0⟩
 case round=>
  clear HW0
  obtain⟨r,rfl,(⟨rfl,hr,Hr⟩|⟨rfl,hr,Hr⟩|⟨rfl,hr,Hr⟩|⟨rfl,hr,Hr⟩),HW⟩:=hrel
  ·by_cases hc:Cont s[1].toNat
   ·have Hc:=qh hc
    obtain⟨hc1,hc2⟩:=hc
    go_wp2
    go_roundw
    case rel=>exact⟨64*r+s[1].toNat %64,by first|rfl|go_num,.inr (.inl (⟨by first|rfl|go_num,by omega,qh ⟨by rw[Hr.out],Hc.out⟩⟩)),HW⟩
    case measure=>simp only[intOf];omega
   ·have Hv:=qh (qa1 h0 (qbL _ _ _ _ _ (by rw[G0.out];omega) (by rw[G0.out];omega) (.inr (.inr (.inr ⟨(by rw[G0.out];omega),.inr (.inl (by rw[G1.out];exact hc))⟩))) (blt _ _) (blt _ _) (blt _ _)))
    have hc':s[1].toNat <128∨191<s[1].toNat :=by unfold Cont at hc;omega
    clear hc
    rcases hc' with hc|hc
    all_goals
     go_wp2
     go_ret
     exact⟨by rw[Hv.out];rfl,HW.out⟩
  ·by_cases hc:Cont s[2].toNat
   ·have Hc:=qh hc
    obtain⟨hc1,hc2⟩:=hc
    go_wp2
    go_roundw
    case rel=>exact⟨64*r+s[2].toNat %64,by first|rfl|go_num,.inr (.inr (.inl (⟨by first|rfl|go_num,by omega,qh ⟨by rw[Hr.out.1],Hr.out.2,Hc.out⟩⟩))),HW⟩
    case measure=>simp only[intOf];omega
   ·have Hv:=qh (qa1 h0 (qbL _ _ _ _ _ (by rw[G0.out];omega) (by rw[G0.out];omega) (.inr (.inr (.inr ⟨(by rw[G0.out];omega),.inr (.inr (.inl (by rw[G2.out];exact hc)))⟩))) (blt _ _) (blt _ _) (blt _ _)))
    have hc':s[2].toNat <128∨191<s[2].toNat :=by unfold Cont at hc;omega
    clear hc
    rcases hc' with hc|hc
    all_goals
     go_wp2
     go_ret
     exact⟨by rw[Hv.out];rfl,HW.out⟩
  ·by_cases hc:Cont s[3].toNat
   ·have Hc:=qh hc
    obtain⟨hc1,hc2⟩:=hc
    go_wp2
    go_roundw
    case rel=>exact⟨64*r+s[3].toNat %64,by first|rfl|go_num,.inr (.inr (.inr (⟨by first|rfl|go_num,by omega,qh ⟨by rw[Hr.out.1],Hr.out.2.1,Hr.out.2.2,Hc.out⟩⟩))),HW⟩
    case measure=>simp only[intOf];omega
   ·have Hv:=qh (qa1 h0 (qbL _ _ _ _ _ (by rw[G0.out];omega) (by rw[G0.out];omega) (.inr (.inr (.inr ⟨(by rw[G0.out];omega),.inr (.inr (.inr (by rw[G3.out];exact hc)))⟩))) (blt _ _) (blt _ _) (blt _ _)))
    have hc':s[3].toNat <128∨191<s[3].toNat :=by unfold Cont at hc;omega
    clear hc
    rcases hc' with hc|hc
    all_goals
     go_wp2
     go_ret
     exact⟨by rw[Hv.out];rfl,HW.out⟩
  ·have hd:=dec3 s.data.toList.length s[0].toNat s[1].toNat s[2].toNat s[3].toNat (by omega) (by rw[←HL.out];exact hn) Hr.out.2.1 Hr.out.2.2.1 Hr.out.2.2.2
   have hrr:r=s[0].toNat %8*262144+s[1].toNat %64*4096+s[2].toNat %64*64+s[3].toNat %64:=by rw[Hr.out.1];omega
   rw[←hrr] at hd
   rw[←G0.out,←G1.out,←G2.out,←G3.out] at hd
   clear hrr
   by_cases b1:r<65536
   ·rw[if_pos (by omega)] at hd
    have Hv:=qh (qa1 h0 hd)
    clear hd
    first|(exfalso;omega)|(go_wp2;go_ret;exact⟨by rw[Hv.out];rfl,HW.out.trans (((Below.refl _ _).alloc (Nat.le_refl _) _).mono HW.out.size)⟩)
   ·by_cases b2:55296≤r
    ·by_cases b3:r≤57343
     ·rw[if_pos (by omega)] at hd
      have Hv:=qh (qa1 h0 hd)
      clear hd
      first|(exfalso;omega)|(go_wp2;go_ret;exact⟨by rw[Hv.out];rfl,HW.out.trans (((Below.refl _ _).alloc (Nat.le_refl _) _).mono HW.out.size)⟩)
     ·by_cases b4:1114111<r
      ·rw[if_pos (by omega)] at hd
       have Hv:=qh (qa1 h0 hd)
       clear hd
       first|(exfalso;omega)|(go_wp2;go_ret;exact⟨by rw[Hv.out];rfl,HW.out.trans (((Below.refl _ _).alloc (Nat.le_refl _) _).mono HW.out.size)⟩)
      ·rw[if_neg (by omega)] at hd
       have Hv:=qh (qcH h0 hd (by intro e;rw[Prod.mk.injEq] at e;omega))
       clear hd
       first|(exfalso;omega)|(go_wp2;go_ret;exact⟨by rw[Hv.out];rfl,HW.out.trans (((Below.refl _ _).alloc (Nat.le_refl _) _).mono HW.out.size)⟩)
    ·have b4:¬1114111<r:=by omega
     rw[if_neg (by omega)] at hd
     have Hv:=qh (qcH h0 hd (by intro e;rw[Prod.mk.injEq] at e;omega))
     clear hd
     first|(exfalso;omega)|(go_wp2;go_ret;exact⟨by rw[Hv.out];rfl,HW.out.trans (((Below.refl _ _).alloc (Nat.le_refl _) _).mono HW.out.size)⟩)
theorem tcc2{W:World}{b:Nat}{e:TypeId}{v0 v1:Value}(h:W.heap[b]? =some (.cells #[v0,v1] e (0,0))):W.cell? ⟨b,0,none⟩=some v0∧W.cell? ⟨b,1,none⟩=some v1:=
 ⟨qa h rfl,qa h rfl⟩
theorem tcc6{W:World}{b:Nat}{e:TypeId}{v0 v1 v2 v3 v4 v5:Value}(h:W.heap[b]? =some (.cells #[v0,v1,v2,v3,v4,v5] e (0,0))):W.cell? ⟨b,0,none⟩=some v0∧W.cell? ⟨b,1,none⟩=some v1∧W.cell? ⟨b,2,none⟩=some v2∧W.cell? ⟨b,3,none⟩=some v3∧W.cell? ⟨b,4,none⟩=some v4∧W.cell? ⟨b,5,none⟩=some v5:=
 ⟨qa h rfl,qa h rfl,qa h rfl,qa h rfl,qa h rfl,qa h rfl⟩
theorem tcf2{W:World}{b:Nat}{e:TypeId}{v0 v1:Value}(h:W.heap[b]? =some (.cells #[v0,v1] e (0,0))):W.cell? ⟨b,0,none⟩=some v0∧W.frozen? ⟨b,0,none⟩=false∧W.cell? ⟨b,1,none⟩=some v1∧W.frozen? ⟨b,1,none⟩=false:=
 ⟨qa h rfl,frozen_of_row W b 0 _ _ h,qa h rfl,frozen_of_row W b 1 _ _ h⟩
theorem tcf6{W:World}{b:Nat}{e:TypeId}{v0 v1 v2 v3 v4 v5:Value}(h:W.heap[b]? =some (.cells #[v0,v1,v2,v3,v4,v5] e (0,0))):W.cell? ⟨b,0,none⟩=some v0∧W.frozen? ⟨b,0,none⟩=false∧W.cell? ⟨b,1,none⟩=some v1∧W.frozen? ⟨b,1,none⟩=false∧W.cell? ⟨b,2,none⟩=some v2∧W.frozen? ⟨b,2,none⟩=false∧W.cell? ⟨b,3,none⟩=some v3∧W.frozen? ⟨b,3,none⟩=false∧W.cell? ⟨b,4,none⟩=some v4∧W.frozen? ⟨b,4,none⟩=false∧W.cell? ⟨b,5,none⟩=some v5∧W.frozen? ⟨b,5,none⟩=false:=
 ⟨qa h rfl,frozen_of_row W b 0 _ _ h,qa h rfl,frozen_of_row W b 1 _ _ h,qa h rfl,frozen_of_row W b 2 _ _ h,qa h rfl,frozen_of_row W b 3 _ _ h,qa h rfl,frozen_of_row W b 4 _ _ h,qa h rfl,frozen_of_row W b 5 _ _ h⟩
theorem qmj{s:ByteArray}(h:s.size=0):s=ByteArray.empty:=by
 have h1:s.data.toList=[]:=List.length_eq_zero_iff.1 (by rw[←Lib.size_eq];exact h)
 have h2:(⟨s.data.toList.toArray⟩:ByteArray)=s:=by cases s;rfl
 rw[←h2,h1];rfl
theorem qkw(s:ByteArray)(w:World)(hs:s.size<4611686018427387904):
  Calls Tryz.prog 60 #[.string s] w fun e w'=>e=.returned (.int .i64 (oneN s.data.toList:Nat))∧Below w.heap.size w w':=by
 by_cases h0:s.size=0
 ·obtain rfl:=qmj h0
  have Hv:=qh (show oneN (ByteArray.empty).data.toList =0 from rfl)
  go_enter Tryz.func60,Tryz.ntmps60
  go_wp2
  go_ret
  exact⟨by rw[Hv.out];rfl,Below.refl _ _⟩
 ·replace h0:0<s.size:=by omega
  have hlt:=UInt8.toNat_lt s[0]
  by_cases c0:s[0].toNat ≤127
  ·exact rone0 s w hs h0 (Nat.zero_le _) c0 h0
  ·have he3:(s=ByteArray.empty)=False:=by apply eq_false;intro e;rw[e] at h0;exact absurd h0 (by decide)
   obtain⟨he1,he2⟩:=qby s h0
   have G0:=qh (qb8 h0)
   have HL:=qh (Lib.size_eq s)
   have cm:=fun w=>qce s[0].toNat hlt w
   by_cases c1:194≤s[0].toNat ∧s[0].toNat ≤223
   ·by_cases hn:1<s.size
    ·exact rone1 s w hs h0 c1.1 c1.2 hn
    ·have hm:qbm s[0].toNat =1:=by unfold qbm;rw[if_neg (by omega),if_pos c1]
     have hs1:s.size=1:=by omega
     have Hv:=qh (qa1 h0 (qbL _ _ _ _ _ (by rw[G0.out];omega) (by rw[G0.out];omega) (.inr (.inl ⟨by rw[G0.out];omega,.inl (by rw[←HL.out];omega)⟩)) (blt _ _) (blt _ _) (blt _ _)))
     rw[hm] at cm
     have Cm:=qh cm
     clear cm hm
     go_enter Tryz.func60,Tryz.ntmps60
     go_wp2_with(go_at_call 83;refine(Cm.out _).mono ?_;rintro e w1 ⟨rfl,hw⟩;rw[hw];clear hw)
     go_ret
     exact⟨by rw[Hv.out];rfl,Below.refl _ _⟩
   ·by_cases c2:224≤s[0].toNat ∧s[0].toNat ≤239
    ·by_cases hn:2<s.size
     ·exact rone2 s w hs h0 c2.1 c2.2 hn
     ·have hm:qbm s[0].toNat =2:=by unfold qbm;rw[if_neg (by omega),if_neg c1,if_pos c2]
      have Hv:=qh (qa1 h0 (qbL _ _ _ _ _ (by rw[G0.out];omega) (by rw[G0.out];omega) (.inr (.inr (.inl ⟨by rw[G0.out];omega,by rw[G0.out];omega,.inl (by rw[←HL.out];omega)⟩))) (blt _ _) (blt _ _) (blt _ _)))
      rw[hm] at cm
      have Cm:=qh cm
      clear cm hm
      go_enter Tryz.func60,Tryz.ntmps60
      go_wp2_with(go_at_call 83;refine(Cm.out _).mono ?_;rintro e w1 ⟨rfl,hw⟩;rw[hw];clear hw)
      go_ret
      exact⟨by rw[Hv.out];rfl,Below.refl _ _⟩
    ·by_cases c3:240≤s[0].toNat ∧s[0].toNat ≤244
     ·by_cases hn:3<s.size
      ·exact rone3 s w hs h0 c3.1 c3.2 hn
      ·have hm:qbm s[0].toNat =3:=by unfold qbm;rw[if_neg (by omega),if_neg c1,if_neg c2,if_pos c3]
       have Hv:=qh (qa1 h0 (qbL _ _ _ _ _ (by rw[G0.out];omega) (by rw[G0.out];omega) (.inr (.inr (.inr ⟨by rw[G0.out];omega,.inl (by rw[←HL.out];omega)⟩))) (blt _ _) (blt _ _) (blt _ _)))
       rw[hm] at cm
       have Cm:=qh cm
       clear cm hm
       go_enter Tryz.func60,Tryz.ntmps60
       go_wp2_with(go_at_call 83;refine(Cm.out _).mono ?_;rintro e w1 ⟨rfl,hw⟩;rw[hw];clear hw)
       go_ret
       exact⟨by rw[Hv.out];rfl,Below.refl _ _⟩
     ·have hm:qbm s[0].toNat = -1:=by
       unfold qbm
       rw[if_neg (by omega),if_neg c1,if_neg c2,if_neg c3]
      have Hv:=qh (qa1 h0 (qbL _ _ _ _ _ (by rw[G0.out];omega) (by rw[G0.out];omega) (.inl (by rw[G0.out];omega)) (blt _ _) (blt _ _) (blt _ _)))
      rw[hm] at cm
      have Cm:=qh cm
      clear cm hm
      go_enter Tryz.func60,Tryz.ntmps60
      go_wp2_with(go_at_call 83;refine(Cm.out _).mono ?_;rintro e w1 ⟨rfl,hw⟩;rw[hw];clear hw)
      go_ret
      exact⟨by rw[Hv.out];rfl,Below.refl _ _⟩
theorem one_bad{s:ByteArray}{n:Nat}(h:n<s.size)(h0:oneN (s.data.toList.drop n)=0):qV s n=n:=by
 refine qle h ?_
 rw[qgq]
 cases hb:badL (s.data.toList.drop n)
 ·exfalso
  have hne:s.data.toList.drop n≠[]:=fun e=>by
   have:=congrArg List.length e
   rw[List.length_drop,←Lib.size_eq] at this
   simp at this;omega
  have hg:=(qia _).1 hb
  unfold oneN at h0
  rw[if_neg hne,if_neg hg] at h0
  have:=dec_le hne
  omega
 ·rfl
theorem qlL{s:ByteArray}{n:Nat}(h:n<s.size)(h0:oneN (s.data.toList.drop n)≠0):qV s n=qV s (n+oneN (s.data.toList.drop n))∧n+oneN (s.data.toList.drop n)≤s.size:=by
 have hne:s.data.toList.drop n≠[]:=fun e=>by
  have:=congrArg List.length e
  rw[List.length_drop,←Lib.size_eq] at this
  simp at this;omega
 have hg:Lib.decodeL (s.data.toList.drop n)≠(65533,1):=fun e=>h0 (by unfold oneN;rw[if_neg hne,if_pos e])
 have hv:oneN (s.data.toList.drop n)=(Utf8.decode s n).2:=by unfold oneN;rw[if_neg hne,if_neg hg,Lib.decodeL_drop]
 rw[hv]
 exact⟨qjV h (by rw[qgq];exact(qia _).2 hg),(qfw s n h).2⟩
theorem qiv(s:ByteArray)(w:World)(hs:s.size<4611686018427387904):
  Calls Tryz.prog 44 #[.string s] w fun e w'=>e=.returned (.int .i64 (qV s 0))∧Below w.heap.size w w':=by
 go_enter Tryz.func44,Tryz.ntmps44
 go_wp2
 go_loopw [3] (fun i wr=>∃n:Nat,n≤s.size∧i=.int .i64 n∧Hid (qV s n=qV s 0)∧Below w.heap.size w wr) (fun i _=>s.size- (intOf i).toNat)
 case atStart=>exact⟨0,by omega,rfl,qh rfl,Below.refl _ _⟩
 case round=>
  obtain⟨n,hn,rfl,Hg,hB⟩:=hrel
  by_cases hlt:n<s.size
  ·have co:=fun w=>qkw (s.extract n s.size) w (qdQ s n s.size hs)
   rw[qba] at co
   by_cases hk:oneN (s.data.toList.drop n)=0
   ·have Hst:=qh (one_bad hlt hk)
    rw[hk] at co
    have Co:=qh co
    clear co hk
    go_wp2_with(go_at_call 60;refine(Co.out _).mono ?_;rintro e w2 ⟨rfl,hb⟩;have hB2:=hB.trans (hb.mono hB.size);clear hb)
    go_ret
    exact⟨by rw[←Hg.out,Hst.out];rfl,hB2⟩
   ·obtain⟨h1,h2⟩:=qlL hlt hk
    have Hst:=qh h1
    generalize oneN (s.data.toList.drop n)=k at*
    have Co:=qh co
    have y0:((k:Int)==0)=false:=by rw[beq_eq_false_iff_ne];omega
    clear co h1
    go_wp2_with(go_at_call 60;refine(Co.out _).mono ?_;rintro e w2 ⟨rfl,hb⟩;have hB2:=hB.trans (hb.mono hB.size);clear hb)
    go_roundw
    case rel=>exact⟨n+k,h2,by go_num,qh (by rw[←Hst.out];exact Hg.out),hB2⟩
    case measure=>simp only[intOf];omega
  ·have He:=qh (qlE (s:=s) hlt)
   go_wp2
   go_ret
   exact⟨by rw[←Hg.out,He.out];rfl,hB⟩
theorem qgs{P:Program}(w:World)(t ty e:TypeId)(i:TypeInfo)(ht:P.underlying t=some (.slice e))(hi:P.info? e=some i)(p:Option Addr)(n c c2:Nat)(hn:n≤c):
  (Builtin.append_ #[t,t] ty #[.slice p n c,.slice none 0 c2]).run P w=.ok (.slice p n c) w:=by
 have h1:=run_firstCells_none (P:=P) w i.size 0 0 c2
 cases p with
 |none=>simp[Builtin.append_,run_underlying ht,sizeOf,typeInfo,hi,Builtin.lenOf,Builtin.firstCells,hn,Sem.run_pure]
 |some a=>simp[Builtin.append_,run_underlying ht,sizeOf,typeInfo,hi,Builtin.lenOf,Builtin.firstCells,hn,Sem.run_pure,storeCells]
theorem qP{w:World}{base:Nat}{e:TypeId}{size:Nat}{v:Value}{n:Nat}{xs:List Value}(h:w.ownsRow base e size v n xs):∃p c,v=.slice p n c∧n≤c:=by
 rcases h.2 with⟨rfl,rfl⟩|⟨g,cap,cur,rfl,_,_,hc,_⟩
 ·exact⟨none,0,rfl,Nat.le_refl _⟩
 ·exact⟨_,cap,rfl,hc⟩
theorem qg3{P:Program}(w:World)(base:Nat)(t ty e:TypeId)(i:TypeInfo)(z:Value)(size bytes:Nat)(ht:P.underlying t=some (.slice e))(hi:P.info? e=some i)(hz:i.zero=some z)
  (hsize:i.size=size)(hby:i.bytes=bytes)(hzs:z.cells.size=size)(hsz:0<size)
  (v:Value)(n:Nat)(xs:List Value)(hown:w.ownsRow base e size v n xs)(b2:Nat)(v2:Value)(m:Nat)(ys:List Value)(hown2:w.ownsRow b2 e size v2 m ys)(h1:∀u∈ys,u.oneCell'=true)
  (h63:n+m≤maxLen)(hbytes:(n+m)*bytes≤140737488355328)(hbase:base≤w.heap.size):
  ∃v' w',(Builtin.append_ #[t,t] ty #[v,v2]).run P w=.ok v' w'∧w'.ownsRow base e size v' (n+m) (xs++ys)∧qe (fun b=>some b=v.ownBlock) w w':=by
 have hl2:=hown2.1
 rcases hown2.2 with⟨rfl,rfl⟩|⟨g,cap,cur,rfl,h2⟩
 ·obtain⟨p,c,rfl,hc⟩:=qP hown
  have:ys=[]:=List.length_eq_zero_iff.1 (by omega)
  subst this
  exact⟨_,w,qgs w t ty e i ht hi p n c 0 hc,by rw[List.append_nil];exact hown,qe.refl _ _⟩
 ·obtain⟨v',w',hr,r1,r2,r3,r4⟩:=qcz (P:=P) w base t ty e i z size bytes ht hi hz hsize hby hzs hsz v n xs hown ⟨g,0,none⟩ m cap ys hl2 (fun j u hj=>hown2.cells (g:=g) rfl j u hj) h1 h63 hbytes hbase
  exact⟨v',w',hr,r1,qe.of_grownBy r2 fun r h=>h.symm⟩
theorem qcd{P:Program}(w:World){ops:Array Oper}{rest:List Oper}{o:Oper}{a:Act}{Q:Exit→Act→World→Prop}
  (hg:o.guard=none)(s x:Operand)(t:TypeId)(hop:o.op=Op.call {callee:=Callee.builtin Builtin.append,args:= #[s,x],argTypes:= #[t,t]})
  (base:Nat)(e:TypeId)(i:TypeInfo)(z:Value)(size bytes:Nat)(h1:P.underlying t=some (.slice e))(h2:P.info? e=some i)(h3:i.zero=some z)(h4:i.size=size)(h5:i.bytes=bytes)(h6:z.cells.size=size)(h7:0<size)
  (v:Value)(k:Nat)(xs:List Value)(hs:a.eval s=v)(hown:w.ownsRow base e size v k xs)(b2:Nat)(v2:Value)(m:Nat)(ys:List Value)(hx:a.eval x=v2)(hown2:w.ownsRow b2 e size v2 m ys)
  (h1c:∀u∈ys,u.oneCell'=true)(b1:k+m≤maxLen)(b3:(k+m)*bytes≤140737488355328)(b4:base≤w.heap.size)
  (hK:∀v' w',w'.ownsRow base e size v' (k+m) (xs++ys)→qe (fun b=>some b=v.ownBlock) w w'→wpList P ops Q rest (a.put o.dst v') w'):
  wpList P ops Q (o::rest) a w:=by
 refine wpList_plain hg fun K hK'=>?_
 obtain⟨v',w',hrun,r1,r2⟩:=qg3 (P:=P) w base t o.type e i z size bytes h1 h2 h3 h4 h5 h6 h7 v k xs hown b2 v2 m ys hown2 h1c b1 b3 b4
 unfold Oper.wp
 simp[execOp,hop,resolve,invoke,builtin,hs,hx,hrun,Result.andThen]
 exact hK' _ _ (hK v' w' r1 r2)
def LV(s:ByteArray)(at':Nat)(vL vO:Value)(inn:Bool)(er:Nat):Value:=.agg #[.string s,.int .i64 (at':Int),vL,vO,.bool inn,.int .i64 (er:Int)]
theorem qgc{w:World}{b1 b2:Nat}{e1 e2:TypeId}{s1 s2:Nat}{v1 v2:Value}{n1 n2:Nat}{x1 x2:List Value}(h1:w.ownsRow b1 e1 s1 v1 n1 x1)(h2:w.ownsRow b2 e2 s2 v2 n2 x2)(he:e1≠e2):∀g,some g=v1.ownBlock→¬some g=v2.ownBlock:=by
 intro g hg hg2
 rcases h1.2 with⟨rfl,_⟩|⟨g1,c1,cur1,rfl,_,hb1,_⟩
 ·cases hg
 ·rcases h2.2 with⟨rfl,_⟩|⟨g2,c2,cur2,rfl,_,hb2,_⟩
  ·cases hg2
  ·cases hg
   cases hg2
   rw[hb1] at hb2
   simp only[Option.some.injEq,Obj.cells.injEq] at hb2
   exact he hb2.2.1
theorem four(w:World)(a b c d:Obj):((((w.alloc a).alloc b).alloc c).alloc d).heap[w.heap.size]? =some a∧((((w.alloc a).alloc b).alloc c).alloc d).heap[w.heap.size+1]? =some b∧((((w.alloc a).alloc b).alloc c).alloc d).heap[w.heap.size+1+1]? =some c∧((((w.alloc a).alloc b).alloc c).alloc d).heap[w.heap.size+1+1+1]? =some d∧((((w.alloc a).alloc b).alloc c).alloc d).heap.size =w.heap.size+4∧Below w.heap.size w ((((w.alloc a).alloc b).alloc c).alloc d):=
 ⟨qbz [a,b,c,d] w 0,qbz [a,b,c,d] w 1,qbz [a,b,c,d] w 2,qbz [a,b,c,d] w 3,by rw[World.size_alloc,World.size_alloc,World.size_alloc,World.size_alloc],qc1 [a,b,c,d] w⟩
theorem qf8{w:World}{B:Nat}{a0 a1 a2 a3 a4 a5 b0 b1 b2 b3 b4 b5:Value}{t:TypeId}(r:w.heap[B]? =some (.cells #[a0,a1,a2,a3,a4,a5] t (0,0))):
  ((((((w.setCell ⟨B,0,none⟩ b0).setCell ⟨B,1,none⟩ b1).setCell ⟨B,2,none⟩ b2).setCell ⟨B,3,none⟩ b3).setCell ⟨B,4,none⟩ b4).setCell ⟨B,5,none⟩ b5).heap[B]? =some (.cells #[b0,b1,b2,b3,b4,b5] t (0,0)):=by
 have e0:=heap_setCell_same w B 0 _ _ b0 r
 have e1:=heap_setCell_same _ B 1 _ _ b1 e0
 have e2:=heap_setCell_same _ B 2 _ _ b2 e1
 have e3:=heap_setCell_same _ B 3 _ _ b3 e2
 have e4:=heap_setCell_same _ B 4 _ _ b4 e3
 exact heap_setCell_same _ B 5 _ _ b5 e4
theorem qdy(w:World)(B:Nat)(b0 b1 b2 b3 b4 b5:Value){O:Nat→Prop}(hO:O B):
  qe O w ((((((w.setCell ⟨B,0,none⟩ b0).setCell ⟨B,1,none⟩ b1).setCell ⟨B,2,none⟩ b2).setCell ⟨B,3,none⟩ b3).setCell ⟨B,4,none⟩ b4).setCell ⟨B,5,none⟩ b5):=
 (((((qag _ _ _ _ hO).trans (qag _ _ _ _ hO)).trans (qag _ _ _ _ hO)).trans (qag _ _ _ _ hO)).trans (qag _ _ _ _ hO)).trans (qag _ _ _ _ hO)
theorem qaU(s:ByteArray)(at':Nat)(vL vO:Value)(inn:Bool)(er:Nat)(k:Nat)(R:ByteArray)(w:World)(base n:Nat)(xs:List Value)(hown:w.ownsRow base 60 2 vL n xs)(hn:n≤70000)(hat:at'≤70000)(hR:R.size≤70000)(hb:base≤w.heap.size)(hO:∃p l c,vO=.slice p l c):
  Calls Tryz.prog 62 #[LV s at' vL vO inn er,.agg #[.int .i64 (k:Int),.string R]] w fun e w'=>∃vL',e=.returned (LV s (at'+R.size) vL' vO inn er)∧w'.ownsRow base 60 2 vL' (n+1) (xs++[.int .i64 (k:Int),.string R])∧qe (fun b=>some b=vL.ownBlock) w w':=by
 obtain⟨i0,hi,hz0,hz1,hz2⟩:=info_parts qlN
 obtain⟨p,cap,rfl,hcap⟩:=qP hown
 obtain⟨pO,lO,cO,rfl⟩:=hO
 unfold LV
 obtain⟨W4,hW4⟩:∃W4,(((w.alloc (.cells #[.string s,.int .i64 (at':Int),.slice p n cap,.slice pO lO cO,.bool inn,.int .i64 (er:Int)] 73)).alloc (.cells #[.int .i64 (k:Int),.string R] 60)).alloc (.cells #[.string ⟨#[]⟩,.int .i64 0,.slice none 0 0,.slice none 0 0,.bool false,.int .i64 0] 73)).alloc (.cells #[.int .i64 (k:Int),.string R] 60)=W4:=⟨_,rfl⟩
 have h4:=four w (.cells #[.string s,.int .i64 (at':Int),.slice p n cap,.slice pO lO cO,.bool inn,.int .i64 (er:Int)] 73) (.cells #[.int .i64 (k:Int),.string R] 60) (.cells #[.string ⟨#[]⟩,.int .i64 0,.slice none 0 0,.slice none 0 0,.bool false,.int .i64 0] 73) (.cells #[.int .i64 (k:Int),.string R] 60)
 rw[hW4] at h4
 obtain⟨b1,b2,b3,b4,hs4,hB4⟩:=h4
 have hnew:∀(j:Nat) u,[Value.int .i64 (k:Int),.string R][j]? =some u→W4.cell? ((⟨w.heap.size+1+1+1,0,none⟩:Addr).add j)=some u:=by
  intro j u hu
  rw[qgG]
  match j,hu with
  |0,hu=>rw[←hu];exact qa b4 rfl
  |1,hu=>rw[←hu];exact qa b4 rfl
  |j+2,hu=>simp at hu
 have hown4:W4.ownsRow base 60 2 (.slice p n cap) n xs:=qr hown (qe.of_below' (O:=fun _=>False) hB4) (fun _ _ h=>h)
 have Hown4:=qh hown4
 have Hnew:=qh hnew
 have B1:=qh b1
 have B2:=qh b2
 have B3:=qh b3
 have HB4:=qh hB4
 have Hs4:=qh hs4
 have Hown:=qh hown
 have HW4:=qh hW4
 have q12:W4.cell? ⟨w.heap.size,2,none⟩=some (.slice p n cap):=qa b1 rfl
 clear hown4 hnew b1 b2 b3 b4 hB4 hs4 hown hW4
 go_enter Tryz.func62,Tryz.ntmps62
 go_wp2_with(at_builtin;rw[show(((w.alloc (.cells #[.string s,.int .i64 (at':Int),.slice p n cap,.slice pO lO cO,.bool inn,.int .i64 (er:Int)] 73)).alloc (.cells #[.int .i64 (k:Int),.string R] 60)).alloc (.cells #[.string ⟨#[]⟩,.int .i64 0,.slice none 0 0,.slice none 0 0,.bool false,.int .i64 0] 73)).alloc (.cells #[.int .i64 (k:Int),.string R] 60)=W4 from HW4.out];refine qaa _ rfl _ _ 52 rfl base 60 i0 (.agg #[.int .i64 0,.string ByteArray.empty]) 2 24 qmr hi hz0 hz1 hz2 rfl (by decide) _ n xs rfl Hown4.out ⟨w.heap.size+1+1+1,0,none⟩ 1 1 [.int .i64 (k:Int),.string R] rfl rfl Hnew.out (by intro u hu;simp at hu;rcases hu with rfl|rfl<;>rfl) (by simp only[maxLen];omega) (by omega) (by have:=HB4.out.size;omega) ?_;intro v' w1 hown' hkeep hblk _;obtain⟨g',cap',rfl⟩:=qcp hown';have hk1:qe (fun b=>some b=(Value.slice p n cap).ownBlock) W4 w1:=hkeep;have hbl:(Value.slice (some ⟨g',0,none⟩) (n+1) cap').ownBlock =(Value.slice p n cap).ownBlock ∨(Value.slice (some ⟨g',0,none⟩) (n+1) cap').ownBlock =some W4.heap.size:=hblk;have hne:∀j,w.heap.size≤j→¬some j=(Value.slice p n cap).ownBlock :=fun j hj e=>(by have:=(Hown.out.lt j e.symm).2;omega);have c1:=hk1.heap B1.out (hne _ (Nat.le_refl _));have c2:=hk1.heap B2.out (hne _ (by omega));have c3:=hk1.heap B3.out (hne _ (by omega));obtain⟨x10,f10,x11,f11,x12,f12,x13,f13,x14,f14,x15,f15⟩:=tcf6 c1;obtain⟨x20,x21⟩:=tcc2 c2;obtain⟨x30,f30,x31,f31,x32,f32,x33,f33,x34,f34,x35,f35⟩:=tcf6 c3;have Hk1:=qh hk1;have Hbl:=qh hbl;have C1:=qh c1;have C3:=qh c3;have Hown1:=qh hown';clear hk1 hbl hne c1 c2 c3 hown' hkeep hblk q12)
 have kA:qe (fun b=>b=w.heap.size) w1 ((w1.setCell ⟨w.heap.size,2,none⟩ (.slice (some ⟨g',0,none⟩) (n+1) cap')).setCell ⟨w.heap.size,1,none⟩ (.int .i64 ((at':Int)+(R.size:Int)))):=(qag (O:=fun b=>b=w.heap.size) _ _ _ _ rfl).trans (qag (O:=fun b=>b=w.heap.size) _ _ _ _ rfl)
 have c3':=kA.heap C3.out (by omega)
 have kB:=qdy ((w1.setCell ⟨w.heap.size,2,none⟩ (.slice (some ⟨g',0,none⟩) (n+1) cap')).setCell ⟨w.heap.size,1,none⟩ (.int .i64 ((at':Int)+(R.size:Int)))) (w.heap.size+1+1) (.string s) (.int .i64 ((at':Int)+(R.size:Int))) (.slice (some ⟨g',0,none⟩) (n+1) cap') (.slice pO lO cO) (.bool inn) (.int .i64 (er:Int)) (O:=fun b=>b=w.heap.size+1+1) rfl
 have e6:=qf8 (b0:=.string s) (b1:=.int .i64 ((at':Int)+(R.size:Int))) (b2:=.slice (some ⟨g',0,none⟩) (n+1) cap') (b3:=.slice pO lO cO) (b4:=.bool inn) (b5:=.int .i64 (er:Int)) c3'
 obtain⟨q0,q1,q2,q3,q4,q5⟩:=tcc6 e6
 have hk4:qe (fun b=>some b=(Value.slice p n cap).ownBlock) w w1:=(qe.of_below' HB4.out).trans Hk1.out
 have hg:¬g'=w.heap.size∧¬g'=w.heap.size+1+1:=by
  rcases Hbl.out with e|e
  ·have:=(Hown.out.lt g' e.symm).2
   omega
  ·have h1:g'=W4.heap.size:=Option.some.inj e
   have:=Hs4.out
   omega
 refine bodyPost_ret (v:=.agg #[.string s,.int .i64 ((at':Int)+(R.size:Int)),.slice (some ⟨g',0,none⟩) (n+1) cap',.slice pO lO cO,.bool inn,.int .i64 (er:Int)]) (by simp[results,Tryz.results62,go_sem,q0,q1,q2,q3,q4,q5]) rfl ⟨.slice (some ⟨g',0,none⟩) (n+1) cap',by rw[Int.natCast_add],?_,?_⟩
 ·exact qr (qr Hown1.out kA (fun g hg' e=>by have e2:g=g':=Option.some.inj hg';exact hg.1 (e2.symm.trans e))) kB (fun g hg' e=>by have e2:g=g':=Option.some.inj hg';exact hg.2 (e2.symm.trans e))
 ·exact(hk4.trans' kA fun b hb' e=>by omega).trans' kB fun b hb' e=>by omega
def RStep(w:World)(base:Nat)(s:ByteArray)(at':Nat)(vL:Value)(xs:List Value)(n:Nat)(r:qfa)(e:Ending)(w':World):Prop:=
 ∃vL' vO',e=.returned (LV s (if r.2.2.2.2=0 then at'+r.2.1 else at') vL' vO' r.2.2.2.1 r.2.2.2.2)∧
  w'.ownsRow base 60 2 vL' (if r.2.2.2.2=0 then n+1 else n) (if r.2.2.2.2=0 then xs++[.int .i64 (r.1:Int),.string ⟨((s.data.toList.drop at').take r.2.1).toArray⟩] else xs)∧
  w'.ownsRow base 3 1 vO' r.2.2.1.length (qah r.2.2.1)∧qe (fun b=>some b=vL.ownBlock) w w'
theorem qbG{w:World}{base:Nat}{e:TypeId}{size:Nat}{v:Value}{n:Nat}{xs:List Value}(h:w.ownsRow base e size v n xs){g:Nat}(hg:some g=v.ownBlock):∃cur,w.heap[g]? =some (.cells cur e (0,0)):=by
 rcases h.2 with⟨rfl,_⟩|⟨g1,c1,cur1,rfl,_,hb1,_⟩
 ·cases hg
 ·cases hg
  exact⟨_,hb1⟩
theorem qeR{R:ByteArray}{l:List UInt8}(h:l=R.data.toList):(⟨l.toArray⟩:ByteArray)=R:=by
 subst h
 cases R;rfl
theorem lvm(s:ByteArray)(a m:Nat)(vL vO:Value)(b:Bool):LV s (a+m) vL vO b 0=.agg #[.string s,.int .i64 ((a:Int)+(m:Int)),vL,vO,.bool b,.int .i64 0]:=by
 unfold LV;rw[Int.natCast_add];rfl
theorem lv1(s:ByteArray)(a:Nat)(vL vO:Value)(b:Bool):LV s (a+1) vL vO b 0=.agg #[.string s,.int .i64 ((a:Int)+1),vL,vO,.bool b,.int .i64 0]:=by
 unfold LV;rw[Int.natCast_add];rfl
theorem lv2(s:ByteArray)(a:Nat)(vL vO:Value)(b:Bool):LV s (a+2) vL vO b 0=.agg #[.string s,.int .i64 ((a:Int)+2),vL,vO,.bool b,.int .i64 0]:=by
 unfold LV;rw[Int.natCast_add];rfl
theorem qeF(st:List Nat):∀u∈qah st,u.oneCell'=true:=by
 intro u hu
 unfold qah at hu
 obtain⟨x,_,rfl⟩:=List.mem_map.1 hu
 rfl
theorem qlM(w:World):∀(j:Nat) u,[Value.int .i64 0][j]? =some u→(w.alloc (.cells #[.int .i64 0] 3)).cell? ((⟨w.heap.size,0,none⟩:Addr).add j)=some u:=by
 intro j u hu
 rw[qgG]
 match j,hu with
 |0,hu=>rw[←hu];exact qa (World.alloc_heap_new w _) rfl
 |j+1,hu=>simp at hu
theorem two(w:World)(a b:Obj):((w.alloc a).alloc b).heap[w.heap.size]? =some a∧((w.alloc a).alloc b).heap[w.heap.size+1]? =some b∧((w.alloc a).alloc b).heap.size =w.heap.size+2∧Below w.heap.size w ((w.alloc a).alloc b):=
 ⟨qbz [a,b] w 0,qbz [a,b] w 1,by rw[World.size_alloc,World.size_alloc],qc1 [a,b] w⟩
def qb4:Array Value:= #[.string ⟨#[]⟩,.int .i64 0,.slice none 0 0,.slice none 0 0,.bool false,.int .i64 0]
theorem qas{w w3 w4:World}{base n m:Nat}{vL v':Value}{xs ys:List Value}{b0 b1 b2 b3 b4 b5:Value}(hL:w.ownsRow base 60 2 vL n xs)(hk:qe (fun b=>w.heap.size≤b) w w3)(hs:w.heap.size+2≤w3.heap.size)(h2:w3.heap[w.heap.size+1]? =some (.cells qb4 73 (0,0)))(hp:qe (fun b=>some b=vL.ownBlock) w3 w4)(ho:w4.ownsRow base 60 2 v' m ys):
  ((((((w4.setCell ⟨w.heap.size+1,0,none⟩ b0).setCell ⟨w.heap.size+1,1,none⟩ b1).setCell ⟨w.heap.size+1,2,none⟩ b2).setCell ⟨w.heap.size+1,3,none⟩ b3).setCell ⟨w.heap.size+1,4,none⟩ b4).setCell ⟨w.heap.size+1,5,none⟩ b5).heap[w.heap.size+1]? =some (.cells #[b0,b1,b2,b3,b4,b5] 73 (0,0))∧
  ((((((w4.setCell ⟨w.heap.size+1,0,none⟩ b0).setCell ⟨w.heap.size+1,1,none⟩ b1).setCell ⟨w.heap.size+1,2,none⟩ b2).setCell ⟨w.heap.size+1,3,none⟩ b3).setCell ⟨w.heap.size+1,4,none⟩ b4).setCell ⟨w.heap.size+1,5,none⟩ b5).ownsRow base 60 2 v' m ys∧
  qe (fun b=>some b=vL.ownBlock) w ((((((w4.setCell ⟨w.heap.size+1,0,none⟩ b0).setCell ⟨w.heap.size+1,1,none⟩ b1).setCell ⟨w.heap.size+1,2,none⟩ b2).setCell ⟨w.heap.size+1,3,none⟩ b3).setCell ⟨w.heap.size+1,4,none⟩ b4).setCell ⟨w.heap.size+1,5,none⟩ b5)∧
  w4.heap[w.heap.size+1]? =some (.cells qb4 73 (0,0)):=by
 have hne:¬some (w.heap.size+1)=vL.ownBlock:=fun e=>by
  have:=(hL.lt _ e.symm).2
  omega
 have h4:=hp.heap h2 hne
 have kB:=qdy w4 (w.heap.size+1) b0 b1 b2 b3 b4 b5 (O:=fun b=>b=w.heap.size+1) rfl
 have hk0:qe (fun b=>some b=vL.ownBlock) w w3:=hk.mono fun b hb e=>by omega
 refine⟨qf8 h4,qr ho kB (fun g hg e=>?_),(hk0.trans hp).trans' kB fun b hb e=>by omega,h4⟩
 have hd:=qbG ho hg
 rw[e,h4] at hd
 obtain⟨cur,hd⟩:=hd
 simp only[Option.some.injEq,Obj.cells.injEq] at hd
 exact absurd hd.2.1 (by decide)
theorem qaw{w w3 w4:World}{base n m:Nat}{vL vO:Value}{xs ys:List Value}{b0 b1 b2 b3 b4 b5:Value}(hp:w3.ownsRow base 60 2 vL n xs)(ho:w3.ownsRow base 3 1 vO m ys)(hk:qe (fun b=>some b=vL.ownBlock) w3 w4)(h4:w4.heap[w.heap.size+1]? =some (.cells qb4 73 (0,0))):
  ((((((w4.setCell ⟨w.heap.size+1,0,none⟩ b0).setCell ⟨w.heap.size+1,1,none⟩ b1).setCell ⟨w.heap.size+1,2,none⟩ b2).setCell ⟨w.heap.size+1,3,none⟩ b3).setCell ⟨w.heap.size+1,4,none⟩ b4).setCell ⟨w.heap.size+1,5,none⟩ b5).ownsRow base 3 1 vO m ys:=by
 have h1:=qr ho hk (fun g hg e=>qgc hp ho (by decide) g e hg)
 refine qr h1 (qdy w4 (w.heap.size+1) b0 b1 b2 b3 b4 b5 (O:=fun b=>b=w.heap.size+1) rfl) (fun g hg e=>?_)
 have hd:=qbG h1 hg
 rw[e,h4] at hd
 obtain⟨cur,hd⟩:=hd
 simp only[Option.some.injEq,Obj.cells.injEq] at hd
 exact absurd hd.2.1 (by decide)
theorem qdt{w w3:World}{base n m:Nat}{vL vO:Value}{xs ys:List Value}{a:Array Value}(o:Nat)(u:Value)(hw:qe (fun b=>w.heap.size≤b) w w3)(c1:w3.heap[w.heap.size]? =some (.cells a 73 (0,0)))(c2:w3.heap[w.heap.size+1]? =some (.cells qb4 73 (0,0)))(hp:w3.ownsRow base 60 2 vL n xs)(ho:w3.ownsRow base 3 1 vO m ys):
  (w3.setCell ⟨w.heap.size,o,none⟩ u).heap[w.heap.size+1]? =some (.cells qb4 73 (0,0))∧(w3.setCell ⟨w.heap.size,o,none⟩ u).ownsRow base 60 2 vL n xs∧(w3.setCell ⟨w.heap.size,o,none⟩ u).ownsRow base 3 1 vO m ys∧qe (fun b=>w.heap.size≤b) w (w3.setCell ⟨w.heap.size,o,none⟩ u)∧w3.heap.size≤(w3.setCell ⟨w.heap.size,o,none⟩ u).heap.size ∧(w3.setCell ⟨w.heap.size,o,none⟩ u).heap[w.heap.size]? =some (.cells (a.setIfInBounds o u) 73 (0,0)):=by
 have k:=qag w3 w.heap.size o u (O:=fun b=>b=w.heap.size) rfl
 have ap:∀{e:TypeId} {sz:Nat} {v:Value} {q:Nat} {zs:List Value},w3.ownsRow base e sz v q zs→e≠73→∀g,some g=v.ownBlock→¬g=w.heap.size:=fun h he g hg e=>by
  have hd:=qbG h hg
  rw[e,c1] at hd
  obtain⟨cur,hd⟩:=hd
  simp only[Option.some.injEq,Obj.cells.injEq] at hd
  exact he hd.2.1.symm
 exact⟨k.heap c2 (by omega),qr hp k (ap hp (by decide)),qr ho k (ap ho (by decide)),hw.trans' k fun b hb e=>by omega,k.size,heap_setCell_same w3 w.heap.size o _ _ u c1⟩
theorem qco{w w3:World}{base n:Nat}{vL vO:Value}{xs ys:List Value}{m:Nat}{a:Array Value}(hL:w.ownsRow base 60 2 vL n xs)(hO:w.ownsRow base 3 1 vO m ys)
  (hb3:Below ((w.alloc (.cells a 73)).alloc (.cells qb4 73)).heap.size ((w.alloc (.cells a 73)).alloc (.cells qb4 73)) w3):
  w3.heap[w.heap.size]? =some (.cells a 73 (0,0))∧w3.heap[w.heap.size+1]? =some (.cells qb4 73 (0,0))∧w3.ownsRow base 60 2 vL n xs∧w3.ownsRow base 3 1 vO m ys∧w.heap.size+2≤w3.heap.size∧Below w.heap.size w w3:=by
 obtain⟨b1,b2,hs2,hB2⟩:=two w (.cells a 73) (.cells qb4 73)
 have k3:qe (fun _=>False) ((w.alloc (.cells a 73)).alloc (.cells qb4 73)) w3:=qe.of_below' hb3
 have kw:Below w.heap.size w w3:=hB2.trans (hb3.mono hB2.size)
 have kw2:qe (fun _=>False) w w3:=qe.of_below' kw
 exact⟨k3.heap b1 (fun h=>h),k3.heap b2 (fun h=>h),qr hL kw2 (fun _ _ h=>h),qr hO kw2 (fun _ _ h=>h),by rw[←hs2];exact k3.size,kw⟩
theorem qlp{w w3 w6 w7:World}{base n k6:Nat}{vL v6:Value}{xs x6:List Value}{a:Array Value}{o:Obj}(hw:qe (fun b=>w.heap.size≤b) w w3)(c1:w3.heap[w.heap.size]? =some (.cells a 73 (0,0)))(c2:w3.heap[w.heap.size+1]? =some (.cells qb4 73 (0,0)))(hp:w3.ownsRow base 60 2 vL n xs)(hs:w.heap.size+2≤w3.heap.size)
  (kk:qe (fun _=>False) w3 w6)(o6:w6.ownsRow w3.heap.size 3 1 v6 k6 x6)(k7:qe (fun b=>some b=v6.ownBlock) (w6.alloc o) w7):
  w7.heap[w.heap.size]? =some (.cells a 73 (0,0))∧w7.heap[w.heap.size+1]? =some (.cells qb4 73 (0,0))∧w7.ownsRow base 60 2 vL n xs∧qe (fun b=>w.heap.size≤b) w w7∧w3.heap.size≤w7.heap.size:=by
 have ka:qe (fun _=>False) w3 (w6.alloc o):=kk.trans (qe.alloc _ _ _)
 have ge:∀g,some g=v6.ownBlock→w3.heap.size≤g:=fun g hg=>(o6.lt g hg.symm).1
 have k37:qe (fun b=>w3.heap.size≤b) w3 w7:=(ka.mono (O':=fun b=>w3.heap.size≤b) fun _ _ h=>h.elim).trans' k7 fun b _ h=>ge b h
 exact⟨k37.heap c1 (by omega),k37.heap c2 (by omega),qr hp k37 (fun g hg e=>by have:=(hp.lt g hg.symm).2;omega),hw.trans' k37 fun b _ h=>by omega,k37.size⟩
theorem qhr(s:ByteArray)(at':Nat)(vL vO:Value)(st:List Nat)(w:World)(base n:Nat)(xs:List Value)(hL:w.ownsRow base 60 2 vL n xs)(hO:w.ownsRow base 3 1 vO st.length (qah st))(hn:n≤65536)(hat:at'<s.size)(hs:s.size≤65536)(hst:st.length≤256)(hb:base≤w.heap.size):
  Calls Tryz.prog 45 #[LV s at' vL vO true 0] w (RStep w base s at' vL xs n (insN (s.data.toList.drop at') st)):=by
 obtain⟨p,cap,rfl,hcap⟩:=qP hL
 obtain⟨pO,cO,rfl,hcO⟩:=qP hO
 have hpc:=fun w=>qhB (s.extract at' s.size) w (qdQ s at' s.size (n:=4611686018427387904) (by omega))
 rw[qba] at hpc
 have hple:=qgF _ (s.data.toList.drop at') (Nat.le_refl _)
 rw[List.length_drop,←Lib.size_eq] at hple
 have hsl:(s.extract at' s.size).size =s.size-at':=qfA s at'
 obtain⟨b1,b2,hs2,hB2⟩:=two w (.cells #[.string s,.int .i64 (at':Int),.slice p n cap,.slice pO st.length cO,.bool true,.int .i64 0] 73) (.cells qb4 73)
 have HL:=qh hL
 have HO:=qh hO
 have B1:=qh b1
 have B2:=qh b2
 have HS2:=qh hs2
 have HB2:=qh hB2
 unfold LV
 by_cases hp0:0<qak (s.data.toList.drop at')
 ·have hr:insN (s.data.toList.drop at') st=(8,qak (s.data.toList.drop at'),st,true,0):=by unfold insN;rw[if_pos hp0]
  rw[hr]
  generalize qak (s.data.toList.drop at')=m at*
  have Hpc:=qh hpc
  clear hpc hr hL hO b1 b2 hs2 hB2
  go_enter Tryz.func45,Tryz.ntmps45
  have hext:((s.extract at' s.size).extract 0 m)=⟨((s.data.toList.drop at').take m).toArray⟩:=(qeR (by rw[Lib.extract_data,qba];simp)).symm
  have hexs:((s.extract at' s.size).extract 0 m).size =m:=by rw[Lib.size_eq,Lib.extract_data,qba,List.drop_zero,Nat.sub_zero,List.length_take,List.length_drop,←Lib.size_eq];omega
  have Hext:=qh hext
  have Hm:=qh hexs
  clear hext hexs
  go_wp2_with(go_at_call 61;refine(Hpc.out _).mono ?_;rintro e w3 ⟨rfl,hb3⟩;obtain⟨c1,c2,hp3,hpO3,hs3,hw3⟩:=qco HL.out HO.out hb3;obtain⟨x10,f10,x11,f11,x12,f12,x13,f13,x14,f14,x15,f15⟩:=tcf6 c1;obtain⟨x20,f20,x21,f21,x22,f22,x23,f23,x24,f24,x25,f25⟩:=tcf6 c2;have Hp:=qh hp3;have HpO:=qh hpO3;have HS3:=qh hs3;have HW3:=qh hw3;have C2:=qh c2;have C1:=qh c1;clear c1 c2 hp3 hpO3 hs3 hw3 hb3)
  go_region_with ((go_at_call 62;refine Calls.mono (qaU s at' (.slice p n cap) (.slice pO st.length cO) true 0 8 _ _ base n xs ?_ ?_ ?_ ?_ ?_ ⟨_,_,_,rfl⟩) ?_;exact Hp.out;omega;omega;(have:=Hm.out;omega);exact Nat.le_trans hb (HW3.out.size);rintro e w4 ⟨v',rfl,ho4,hk4⟩;have h4:=hk4.heap (show(_:World).heap[w.heap.size+1]? =_ from C2.out) (fun e=>by have:=(HL.out.lt _ e.symm).2;omega);obtain⟨y20,g20,y21,g21,y22,g22,y23,g23,y24,g24,y25,g25⟩:=tcf6 h4;have Ho4:=qh ho4;have Hk4:=qh hk4;obtain⟨q,c,rfl,_⟩:=qP ho4;clear h4 ho4 hk4;unfold LV))
  go_wp2
  have hkw:=qe.of_below HW3.out
  have hk4:qe (fun b=>some b=(Value.slice p n cap).ownBlock) (w3) w4:=by first|exact(qe.drew _).trans Hk4.out|exact Hk4.out
  obtain⟨e6,o6,k6,h4⟩:=qas (b0:=.string s) (b1:=.int .i64 ((at':Int)+(m:Int))) (b2:=.slice q (n+1) c) (b3:=(.slice pO st.length cO)) (b4:=.bool true) (b5:=.int .i64 0) HL.out hkw (HS3.out) C2.out hk4 Ho4.out
  have oO:=qaw (w:=w) (b0:=.string s) (b1:=.int .i64 ((at':Int)+(m:Int))) (b2:=.slice q (n+1) c) (b3:=(.slice pO st.length cO)) (b4:=.bool true) (b5:=.int .i64 0) Hp.out HpO.out hk4 h4
  obtain⟨q0,q1,q2,q3,q4,q5⟩:=tcc6 e6
  rw[Hext.out] at o6
  refine bodyPost_ret (v:=.agg #[.string s,.int .i64 ((at':Int)+(m:Int)),.slice q (n+1) c,(.slice pO st.length cO),.bool true,.int .i64 0]) (by simp[results,Tryz.results45,go_sem,q0,q1,q2,q3,q4,q5]) rfl ⟨.slice q (n+1) c,(.slice pO st.length cO),?_,?_,?_,?_⟩
  ·exact congrArg Ending.returned (lvm s at' m _ _ _).symm
  ·exact o6
  ·exact oO
  ·exact k6
 ·have hpz:qak (s.data.toList.drop at')=0:=by omega
  rw[hpz] at hpc
  obtain⟨L,hLL⟩:∃L,s.extract at' s.size=L:=⟨_,rfl⟩
  have hLd:L.data.toList=s.data.toList.drop at':=by rw[←hLL,qba]
  rw[hLL] at hsl hpc
  have hL0:0<L.size:=by omega
  have hcons:=qfl L hL0
  have hr:insN (s.data.toList.drop at') st=if(s.data.toList.drop at')[0]? =some 34 then(11,1,st,false,0) else if Lib.hasPrefix (s.data.toList.drop at') [92,40]=false then(0,0,st,true,12) else if 256≤st.length then(0,0,st,true,21) else(9,2,0::st,false,0):=by
   unfold insN
   rw[if_neg (by omega)]
  have hq:isQS L[0]=true:=by
   cases hq:isQS L[0]
   ·exfalso
    rw[←hLd,hcons,qdB _ _ hq] at hpz
    omega
   ·rfl
  have hat0:(s.data.toList.drop at')[0]? =some L[0]:=by rw[←hLd,hcons];rfl
  rw[hr,hat0]
  have hext1:∀q,q≤L.size→(L.extract 0 q)=⟨((s.data.toList.drop at').take q).toArray⟩∧(L.extract 0 q).size =q:=fun q hq=>by
   have e:(L.extract 0 q).data.toList =(s.data.toList.drop at').take q:=by rw[Lib.extract_data,hLd,List.drop_zero,Nat.sub_zero]
   exact⟨(qeR e.symm).symm,by rw[Lib.size_eq,e,←hLd,List.length_take,←Lib.size_eq];omega⟩
  have Hpc:=qh hpc
  have HLL:=qh hLL
  cases h34:((L[0].toNat :Int)==34)
  ·have n34:=qam (k:=34) (by omega) h34
   have n92:L[0]=92:=by
    unfold isQS at hq
    rw[show(L[0]==34)=false from beq_eq_false_iff_ne.2 n34] at hq
    simpa using hq
   rw[if_neg (by intro e;exact n34 (Option.some.inj e))]
   cases hpx:Lib.hasPrefix (s.data.toList.drop at') [92,40]
   ·rw[if_pos rfl]
    have hb1:L.size<2∨(2≤L.size∧∀h:1<L.size,L[1]≠40):=by
     by_cases h2:L.size<2
     ·exact .inl h2
     ·refine .inr ⟨by omega,fun h e=>?_⟩
      rw[←hLd,qdp L (by omega),n92,e] at hpx
      simp[Lib.hasPrefix] at hpx
    clear hpc hr hL hO b1 b2 hs2 hB2 hcons hat0 hext1 hLd hpz hq n34 hp0 hple hpx n92
    rcases hb1 with h2|⟨h2,h40⟩
    ·go_enter Tryz.func45,Tryz.ntmps45
     go_wp2_with(go_at_call 61;refine(Hpc.out _).mono ?_;rintro e w3 ⟨rfl,hb3⟩;obtain⟨c1,c2,hp3,hpO3,hs3,hw3⟩:=qco HL.out HO.out hb3;obtain⟨x10,f10,x11,f11,x12,f12,x13,f13,x14,f14,x15,f15⟩:=tcf6 c1;obtain⟨x20,f20,x21,f21,x22,f22,x23,f23,x24,f24,x25,f25⟩:=tcf6 c2;have Hp:=qh hp3;have HpO:=qh hpO3;have HS3:=qh hs3;have HW3:=qh hw3;have C2:=qh c2;have C1:=qh c1;clear c1 c2 hp3 hpO3 hs3 hw3 hb3)
     obtain⟨z1,z2,z3,z4,z5,z6⟩:=qdt 5 (.int .i64 12) (qe.of_below HW3.out) C1.out C2.out Hp.out HpO.out
     obtain⟨e6,o6,k6,h4⟩:=qas (b0:=.string s) (b1:=.int .i64 (at':Int)) (b2:=.slice p n cap) (b3:=.slice pO st.length cO) (b4:=.bool true) (b5:=.int .i64 12) HL.out z4 (Nat.le_trans HS3.out z5) z1 (qe.refl _ _) z2
     have oO:=qaw (w:=w) (b0:=.string s) (b1:=.int .i64 (at':Int)) (b2:=.slice p n cap) (b3:=.slice pO st.length cO) (b4:=.bool true) (b5:=.int .i64 12) z2 z3 (qe.refl _ _) h4
     obtain⟨q0,q1,q2,q3,q4,q5⟩:=tcc6 e6
     refine bodyPost_ret (v:=.agg #[.string s,.int .i64 (at':Int),.slice p n cap,.slice pO st.length cO,.bool true,.int .i64 12]) (by simp[results,Tryz.results45,go_sem,q0,q1,q2,q3,q4,q5]) rfl ⟨.slice p n cap,.slice pO st.length cO,?_,?_,?_,?_⟩
     ·rfl
     ·exact o6
     ·exact oO
     ·exact k6
    ·have h1lt:1<L.size:=by omega
     have y40:((L[1].toNat :Int) != 40)=true:=by
      rw[bne_iff_ne]
      intro e
      exact h40 h1lt (UInt8.toNat_inj.1 (by show L[1].toNat =40;omega))
     go_enter Tryz.func45,Tryz.ntmps45
     go_wp2_with(go_at_call 61;refine(Hpc.out _).mono ?_;rintro e w3 ⟨rfl,hb3⟩;obtain⟨c1,c2,hp3,hpO3,hs3,hw3⟩:=qco HL.out HO.out hb3;obtain⟨x10,f10,x11,f11,x12,f12,x13,f13,x14,f14,x15,f15⟩:=tcf6 c1;obtain⟨x20,f20,x21,f21,x22,f22,x23,f23,x24,f24,x25,f25⟩:=tcf6 c2;have Hp:=qh hp3;have HpO:=qh hpO3;have HS3:=qh hs3;have HW3:=qh hw3;have C2:=qh c2;have C1:=qh c1;clear c1 c2 hp3 hpO3 hs3 hw3 hb3)
     obtain⟨z1,z2,z3,z4,z5,z6⟩:=qdt 5 (.int .i64 12) (qe.of_below HW3.out) C1.out C2.out Hp.out HpO.out
     obtain⟨e6,o6,k6,h4⟩:=qas (b0:=.string s) (b1:=.int .i64 (at':Int)) (b2:=.slice p n cap) (b3:=.slice pO st.length cO) (b4:=.bool true) (b5:=.int .i64 12) HL.out z4 (Nat.le_trans HS3.out z5) z1 (qe.refl _ _) z2
     have oO:=qaw (w:=w) (b0:=.string s) (b1:=.int .i64 (at':Int)) (b2:=.slice p n cap) (b3:=.slice pO st.length cO) (b4:=.bool true) (b5:=.int .i64 12) z2 z3 (qe.refl _ _) h4
     obtain⟨q0,q1,q2,q3,q4,q5⟩:=tcc6 e6
     refine bodyPost_ret (v:=.agg #[.string s,.int .i64 (at':Int),.slice p n cap,.slice pO st.length cO,.bool true,.int .i64 12]) (by simp[results,Tryz.results45,go_sem,q0,q1,q2,q3,q4,q5]) rfl ⟨.slice p n cap,.slice pO st.length cO,?_,?_,?_,?_⟩
     ·rfl
     ·exact o6
     ·exact oO
     ·exact k6
   ·rw[if_neg (by simp)]
    have hL2:2≤L.size:=by
     have:=Lib.hasPrefix_le hpx
     rw[←hLd,←Lib.size_eq] at this
     exact this
    have h1lt:1<L.size:=by omega
    have b40:L[1]=40:=by
     rw[←hLd,qdp L hL2,n92] at hpx
     exact Eq.symm (by simpa[Lib.hasPrefix] using hpx)
    have y40:((L[1].toNat :Int) != 40)=false:=by rw[b40];rfl
    by_cases h256:256≤st.length
    ·rw[if_pos h256]
     clear hpc hr hL hO b1 b2 hs2 hB2 hcons hat0 hext1 hLd hpz hq n34 hp0 hple hpx n92 b40
     go_enter Tryz.func45,Tryz.ntmps45
     go_wp2_with(go_at_call 61;refine(Hpc.out _).mono ?_;rintro e w3 ⟨rfl,hb3⟩;obtain⟨c1,c2,hp3,hpO3,hs3,hw3⟩:=qco HL.out HO.out hb3;obtain⟨x10,f10,x11,f11,x12,f12,x13,f13,x14,f14,x15,f15⟩:=tcf6 c1;obtain⟨x20,f20,x21,f21,x22,f22,x23,f23,x24,f24,x25,f25⟩:=tcf6 c2;have Hp:=qh hp3;have HpO:=qh hpO3;have HS3:=qh hs3;have HW3:=qh hw3;have C2:=qh c2;have C1:=qh c1;clear c1 c2 hp3 hpO3 hs3 hw3 hb3)
     obtain⟨z1,z2,z3,z4,z5,z6⟩:=qdt 5 (.int .i64 21) (qe.of_below HW3.out) C1.out C2.out Hp.out HpO.out
     obtain⟨e6,o6,k6,h4⟩:=qas (b0:=.string s) (b1:=.int .i64 (at':Int)) (b2:=.slice p n cap) (b3:=.slice pO st.length cO) (b4:=.bool true) (b5:=.int .i64 21) HL.out z4 (Nat.le_trans HS3.out z5) z1 (qe.refl _ _) z2
     have oO:=qaw (w:=w) (b0:=.string s) (b1:=.int .i64 (at':Int)) (b2:=.slice p n cap) (b3:=.slice pO st.length cO) (b4:=.bool true) (b5:=.int .i64 21) z2 z3 (qe.refl _ _) h4
     obtain⟨q0,q1,q2,q3,q4,q5⟩:=tcc6 e6
     refine bodyPost_ret (v:=.agg #[.string s,.int .i64 (at':Int),.slice p n cap,.slice pO st.length cO,.bool true,.int .i64 21]) (by simp[results,Tryz.results45,go_sem,q0,q1,q2,q3,q4,q5]) rfl ⟨.slice p n cap,.slice pO st.length cO,?_,?_,?_,?_⟩
     ·rfl
     ·exact o6
     ·exact oO
     ·exact k6
    ·rw[if_neg h256]
     have Hext:=qh (hext1 2 hL2).1
     have Hm:=qh (hext1 2 hL2).2
     have hmn:min 2 (s.size-at')=2:=by omega
     obtain⟨i3,hi,hz0,hz1,hz2⟩:=info_parts hi3
     clear hpc hr hL hO b1 b2 hs2 hB2 hcons hat0 hext1 hLd hpz hq n34 hp0 hple hpx n92 b40
     go_enter Tryz.func45,Tryz.ntmps45
     go_wp2_with(first
      |(go_at_call 61;refine(Hpc.out _).mono ?_;rintro e w3 ⟨rfl,hb3⟩;obtain⟨c1,c2,hp3,hpO3,hs3,hw3⟩:=qco HL.out HO.out hb3;obtain⟨x10,f10,x11,f11,x12,f12,x13,f13,x14,f14,x15,f15⟩:=tcf6 c1;obtain⟨x20,f20,x21,f21,x22,f22,x23,f23,x24,f24,x25,f25⟩:=tcf6 c2;have Hp:=qh hp3;have HpO:=qh hpO3;have HS3:=qh hs3;have HW3:=qh hw3;have C2:=qh c2;have C1:=qh c1;clear c1 c2 hp3 hpO3 hs3 hw3 hb3)
      |(at_builtin;refine qcd _ rfl _ _ 49 rfl w3.heap.size 3 i3 (.int .i64 0) 1 8 qd3 hi hz0 hz1 hz2 rfl (by decide) (.slice none 0 0) 0 [] rfl (World.ownsRow_nil _ _ _ _) base _ st.length (qah st) rfl HpO.out (qeF st) (by simp only[maxLen];omega) (by omega) (Nat.le_refl _) ?_;intro v6 w6 own6 hk6;have Own6:=qh own6;have Hk6:=qh (hk6.mono (O':=fun _=>False) fun b _ h=>by simp[Value.ownBlock] at h);clear own6 hk6;clear x10 x11 x12 x13 x14 x15 f10 f11 f12 f13 f14 f15 x20 x21 x22 x23 x24 x25 f20 f21 f22 f23 f24 f25)
      |(at_builtin;refine qaa _ rfl _ _ 49 rfl w3.heap.size 3 i3 (.int .i64 0) 1 8 qd3 hi hz0 hz1 hz2 rfl (by decide) v6 (0+st.length) ([]++qah st) rfl (Own6.out.alloc _) ⟨w6.heap.size,0,none⟩ 1 1 [.int .i64 0] rfl rfl (qlM w6) (by intro u hu;simp at hu;subst hu;rfl) (by simp only[maxLen];omega) (by omega) (by have:=Hk6.out.size;simp;omega) ?_;intro v7 w7 own7 hk7 _ _;obtain⟨c1,c2,o2,kw,sw⟩:=qlp (qe.of_below HW3.out) C1.out C2.out Hp.out HS3.out Hk6.out Own6.out hk7;have own7':w7.ownsRow base 3 1 v7 (st.length+1) (qah (0::st)):=(by rw[←qdY];have:=qbR own7 (Nat.le_trans hb HW3.out.size);rwa [Nat.zero_add,List.nil_append] at this);obtain⟨p7,c7,rfl,_⟩:=qP own7';obtain⟨x10,f10,x11,f11,x12,f12,x13,f13,x14,f14,x15,f15⟩:=tcf6 c1;obtain⟨x20,f20,x21,f21,x22,f22,x23,f23,x24,f24,x25,f25⟩:=tcf6 c2;have Own7:=qh own7';have D1:=qh c1;have D2:=qh c2;have O2:=qh o2;have KW:=qh kw;have SW:=qh sw;clear c1 c2 o2 kw sw own7 own7' hk7))
     obtain⟨z1,z2,z3,z4,z5,z6⟩:=qdt 3 (.slice p7 (st.length+1) c7) KW.out D1.out D2.out O2.out Own7.out
     obtain⟨u1,u2,u3,u4,u5,u6⟩:=qdt 4 (.bool false) z4 z6 z1 z2 z3
     have U1:=qh u1
     have U2:=qh u2
     have U3:=qh u3
     have U4:=qh u4
     have U5:=qh (Nat.le_trans (Nat.le_trans HS3.out SW.out) (Nat.le_trans z5 u5))
     clear z1 z2 z3 z4 z5 z6 u1 u2 u3 u4 u5 u6
     go_region_with ((go_at_call 62;refine Calls.mono (qaU s at' (.slice p n cap) (.slice p7 (st.length+1) c7) false 0 9 _ _ base n xs ?_ ?_ ?_ ?_ ?_ ⟨_,_,_,rfl⟩) ?_;exact U2.out;omega;omega;(have:=Hm.out;omega);exact Nat.le_trans hb (U4.out.size);rintro e w4 ⟨v',rfl,ho4,hk4⟩;have h4:=hk4.heap (show(_:World).heap[w.heap.size+1]? =_ from U1.out) (fun e=>by have:=(HL.out.lt _ e.symm).2;omega);obtain⟨y20,g20,y21,g21,y22,g22,y23,g23,y24,g24,y25,g25⟩:=tcf6 h4;have Ho4:=qh ho4;have Hk4:=qh hk4;obtain⟨q,c,rfl,_⟩:=qP ho4;clear h4 ho4 hk4;unfold LV))
     all_goals
      go_wp2
      have hkw:=U4.out
      have hk4:qe (fun b=>some b=(Value.slice p n cap).ownBlock) ((w7.setCell ⟨w.heap.size,3,none⟩ (.slice p7 (st.length+1) c7)).setCell ⟨w.heap.size,4,none⟩ (.bool false)) w4:=by first|exact(qe.drew _).trans Hk4.out|exact Hk4.out
      obtain⟨e6,o6,k6,h4⟩:=qas (b0:=.string s) (b1:=.int .i64 ((at':Int)+2)) (b2:=.slice q (n+1) c) (b3:=(.slice p7 (st.length+1) c7)) (b4:=.bool false) (b5:=.int .i64 0) HL.out hkw (U5.out) U1.out hk4 Ho4.out
      have oO:=qaw (w:=w) (b0:=.string s) (b1:=.int .i64 ((at':Int)+2)) (b2:=.slice q (n+1) c) (b3:=(.slice p7 (st.length+1) c7)) (b4:=.bool false) (b5:=.int .i64 0) U2.out U3.out hk4 h4
      obtain⟨q0,q1,q2,q3,q4,q5⟩:=tcc6 e6
      rw[Hext.out] at o6
      refine bodyPost_ret (v:=.agg #[.string s,.int .i64 ((at':Int)+2),.slice q (n+1) c,(.slice p7 (st.length+1) c7),.bool false,.int .i64 0]) (by simp[results,Tryz.results45,go_sem,q0,q1,q2,q3,q4,q5]) rfl ⟨.slice q (n+1) c,(.slice p7 (st.length+1) c7),?_,?_,?_,?_⟩
      ·exact congrArg Ending.returned (lv2 s at' _ _ _).symm
      ·exact o6
      ·exact oO
      ·exact k6
  ·have n34:=qaG (k:=34) (by omega) h34
   rw[if_pos (by rw[n34];rfl)]
   have Hext:=qh (hext1 1 (by omega)).1
   have Hm:=qh (hext1 1 (by omega)).2
   have hmn:min 1 (s.size-at')=1:=by omega
   clear hpc hr hL hO b1 b2 hs2 hB2 hcons hat0 hext1 hLd hpz hq n34 hp0 hple
   go_enter Tryz.func45,Tryz.ntmps45
   go_wp2_with(go_at_call 61;refine(Hpc.out _).mono ?_;rintro e w3 ⟨rfl,hb3⟩;obtain⟨c1,c2,hp3,hpO3,hs3,hw3⟩:=qco HL.out HO.out hb3;obtain⟨x10,f10,x11,f11,x12,f12,x13,f13,x14,f14,x15,f15⟩:=tcf6 c1;obtain⟨x20,f20,x21,f21,x22,f22,x23,f23,x24,f24,x25,f25⟩:=tcf6 c2;have Hp:=qh hp3;have HpO:=qh hpO3;have HS3:=qh hs3;have HW3:=qh hw3;have C2:=qh c2;have C1:=qh c1;clear c1 c2 hp3 hpO3 hs3 hw3 hb3)
   obtain⟨z1,z2,z3,z4,z5,z6⟩:=qdt 4 (.bool false) (qe.of_below HW3.out) C1.out C2.out Hp.out HpO.out
   have Z1:=qh z1
   have Z2:=qh z2
   have Z3:=qh z3
   have Z4:=qh z4
   have Z5:=qh z5
   clear z1 z2 z3 z4 z5 z6
   go_region_with ((go_at_call 62;refine Calls.mono (qaU s at' (.slice p n cap) (.slice pO st.length cO) false 0 11 _ _ base n xs ?_ ?_ ?_ ?_ ?_ ⟨_,_,_,rfl⟩) ?_;exact Z2.out;omega;omega;(have:=Hm.out;omega);exact Nat.le_trans hb (Z4.out.size);rintro e w4 ⟨v',rfl,ho4,hk4⟩;have h4:=hk4.heap (show(_:World).heap[w.heap.size+1]? =_ from Z1.out) (fun e=>by have:=(HL.out.lt _ e.symm).2;omega);obtain⟨y20,g20,y21,g21,y22,g22,y23,g23,y24,g24,y25,g25⟩:=tcf6 h4;have Ho4:=qh ho4;have Hk4:=qh hk4;obtain⟨q,c,rfl,_⟩:=qP ho4;clear h4 ho4 hk4;unfold LV))
   all_goals
    go_wp2
    have hkw:=Z4.out
    have hk4:qe (fun b=>some b=(Value.slice p n cap).ownBlock) (w3.setCell ⟨w.heap.size,4,none⟩ (.bool false)) w4:=by first|exact(qe.drew _).trans Hk4.out|exact Hk4.out
    obtain⟨e6,o6,k6,h4⟩:=qas (b0:=.string s) (b1:=.int .i64 ((at':Int)+1)) (b2:=.slice q (n+1) c) (b3:=(.slice pO st.length cO)) (b4:=.bool false) (b5:=.int .i64 0) HL.out hkw (Nat.le_trans HS3.out Z5.out) Z1.out hk4 Ho4.out
    have oO:=qaw (w:=w) (b0:=.string s) (b1:=.int .i64 ((at':Int)+1)) (b2:=.slice q (n+1) c) (b3:=(.slice pO st.length cO)) (b4:=.bool false) (b5:=.int .i64 0) Z2.out Z3.out hk4 h4
    obtain⟨q0,q1,q2,q3,q4,q5⟩:=tcc6 e6
    rw[Hext.out] at o6
    refine bodyPost_ret (v:=.agg #[.string s,.int .i64 ((at':Int)+1),.slice q (n+1) c,(.slice pO st.length cO),.bool false,.int .i64 0]) (by simp[results,Tryz.results45,go_sem,q0,q1,q2,q3,q4,q5]) rfl ⟨.slice q (n+1) c,(.slice pO st.length cO),?_,?_,?_,?_⟩
    ·exact congrArg Ending.returned (lv1 s at' _ _ _).symm
    ·exact o6
    ·exact oO
    ·exact k6
end Go.Proofs.YtakbenifinnpfaaGreatDoor
namespace Go.Proofs.YtakbenifinnpfaaGreatDoor
open Go.RowKit Go.Sub
structure qaP(w W:World)(base n m:Nat)(vL vO:Value)(xs ys:List Value)(a b:Array Value)(B:Nat):Prop where
 c1:W.heap[w.heap.size]? =some (.cells a 73 (0,0))
 c2:W.heap[w.heap.size+1]? =some (.cells qb4 73 (0,0))
 c3:W.heap[B]? =some (.cells b 60 (0,0))
 hB:w.heap.size+2≤B
 hp:W.ownsRow base 60 2 vL n xs
 ho:W.ownsRow base 3 1 vO m ys
 old:∀g,some g=vL.ownBlock→g<w.heap.size
 kw:qe (fun b=>w.heap.size≤b) w W
 sz:w.heap.size+2≤W.heap.size
variable {w W:World} {base n m:Nat} {vL vO:Value} {xs ys:List Value} {a b:Array Value} {B:Nat}
theorem qaP.lex(h:qaP w W base n m vL vO xs ys a b B)(o:Nat)(u:Value):qaP w (W.setCell ⟨w.heap.size,o,none⟩ u) base n m vL vO xs ys (a.setIfInBounds o u) b B:=by
 have hB:=h.hB
 obtain⟨z1,z2,z3,z4,z5,z6⟩:=qdt o u h.kw h.c1 h.c2 h.hp h.ho
 have k:=qag W w.heap.size o u (O:=fun b=>b=w.heap.size) rfl
 exact⟨z6,z1,k.heap h.c3 (by omega),hB,z2,z3,h.old,z4,Nat.le_trans h.sz z5⟩
theorem qaP.row{m':Nat}{vO':Value}{ys':List Value}(h:qaP w W base n m vL vO xs ys a b B)(h2:W.ownsRow base 3 1 vO' m' ys'):qaP w W base n m' vL vO' xs ys' a b B:=⟨h.c1,h.c2,h.c3,h.hB,h.hp,h2,h.old,h.kw,h.sz⟩
theorem qaP.keeps{W':World}(h:qaP w W base n m vL vO xs ys a b B)(k:qe (fun _=>False) W W'):qaP w W' base n m vL vO xs ys a b B:=
 ⟨k.heap h.c1 (fun h=>h),k.heap h.c2 (fun h=>h),k.heap h.c3 (fun h=>h),h.hB,qr h.hp k (fun _ _ h=>h),qr h.ho k (fun _ _ h=>h),h.old,h.kw.trans' k fun _ _ h=>h.elim,Nat.le_trans h.sz k.size⟩
theorem qaP.brk{t u:Nat}{rest:List Nat}{g cap:Nat}(h:qaP w W base n (rest.length+1) vL (.slice (some ⟨g,0,none⟩) (rest.length+1) cap) xs (qah (t::rest)) a b B)(hg:w.heap.size≤g):
  qaP w (W.setCell ⟨g,rest.length,none⟩ (.int .i64 (u:Int))) base n (rest.length+1) vL (.slice (some ⟨g,0,none⟩) (rest.length+1) cap) xs (qah (u::rest)) a b B:=by
 obtain⟨_,_,h3⟩:=qca (u:=u) h.ho
 have k:=qag W g rest.length (.int .i64 (u:Int)) (O:=fun b=>b=g) rfl
 obtain⟨cur,hd⟩:=qbG h.ho (g:=g) rfl
 have ne:∀{q:Nat} {cs:Array Value} {e:TypeId},W.heap[q]? =some (.cells cs e (0,0))→e≠3→¬q=g:=fun hq he e=>by
  rw[e,hd] at hq
  simp only[Option.some.injEq,Obj.cells.injEq] at hq
  exact he hq.2.1.symm
 exact⟨k.heap h.c1 (ne h.c1 (by decide)),k.heap h.c2 (ne h.c2 (by decide)),k.heap h.c3 (ne h.c3 (by decide)),h.hB,qr h.hp k (fun q hq e=>qgc h.hp h.ho (by decide) q hq (by rw[e];rfl)),h3,h.old,h.kw.trans' k fun b hb e=>by omega,Nat.le_trans h.sz k.size⟩
theorem qaP.ne{k:Nat}{g cap:Nat}{cs:Array Value}{e:TypeId}{q:Nat}(h:qaP w W base n k vL (.slice (some ⟨g,0,none⟩) k cap) xs ys a b B)(hq:W.heap[q]? =some (.cells cs e (0,0)))(he:e≠3):q≠g:=fun e2=>by
 obtain⟨cur,hd⟩:=qbG h.ho (g:=g) rfl
 rw[e2,hd] at hq
 simp only[Option.some.injEq,Obj.cells.injEq] at hq
 exact he hq.2.1.symm
theorem qaP.ne1{k:Nat}{g cap:Nat}(h:qaP w W base n k vL (.slice (some ⟨g,0,none⟩) k cap) xs ys a b B):w.heap.size≠g:=h.ne h.c1 (by decide)
theorem qaP.ne2{k:Nat}{g cap:Nat}(h:qaP w W base n k vL (.slice (some ⟨g,0,none⟩) k cap) xs ys a b B):w.heap.size+1≠g:=h.ne h.c2 (by decide)
theorem qaP.ne3{k:Nat}{g cap:Nat}(h:qaP w W base n k vL (.slice (some ⟨g,0,none⟩) k cap) xs ys a b B):B≠g:=h.ne h.c3 (by decide)
theorem qaD{w3:World}{x y:Value}(hL:w.ownsRow base 60 2 vL n xs)(hO:w.ownsRow base 3 1 vO m ys)
  (hb3:Below ((w.alloc (.cells a 73)).alloc (.cells qb4 73)).heap.size ((w.alloc (.cells a 73)).alloc (.cells qb4 73)) w3):qaP w (w3.alloc (.cells #[x,y] 60)) base n m vL vO xs ys a #[x,y] w3.heap.size:=by
 obtain⟨c1,c2,hp,ho,hs,hw⟩:=qco hL hO hb3
 have ka:qe (fun _=>False) w3 (w3.alloc (.cells #[x,y] 60)):=qe.alloc _ _ _
 exact⟨ka.heap c1 (fun h=>h),ka.heap c2 (fun h=>h),World.alloc_heap_new _ _,hs,qr hp ka (fun _ _ h=>h),qr ho ka (fun _ _ h=>h),fun g hg=>(hL.lt g hg.symm).2,(qe.of_below hw).trans' ka fun _ _ h=>h.elim,Nat.le_trans hs ka.size⟩
theorem qlX{l:List UInt8}{st:List Nat}:((qds l).find? (fun x=>decide (0<x.2))=none∧qac l=(13,0)∧outN l st=(0,0,st,false,11))∨
  ∃k m,qac l=(k,m)∧0<m∧m≤l.length∧k≤13∧outN l st=((brkN st k (l.take m)).2.1,m,(brkN st k (l.take m)).1,(brkN st k (l.take m)).2.2||(k==7),0):=by
 cases hf:(qds l).find? fun x=>decide (0<x.2) with
 |none=>
  refine .inl ⟨rfl,by unfold qac;rw[hf];rfl,?_⟩
  rw[qjC];unfold outM;rw[hf]
 |some x=>
  obtain⟨k,m⟩:=x
  have h0:0<m:=by simpa using List.find?_some hf
  have hm:=List.mem_of_find?_eq_some hf
  rw[←qiq] at hm
  obtain⟨y,hy,he⟩:=List.mem_map.1 hm
  have hle:=qi4 y hy l
  have hk:=qjY y hy
  simp only[Prod.mk.injEq] at he
  refine .inr ⟨k,m,by unfold qac;rw[hf];rfl,h0,by omega,by omega,?_⟩
  rw[qjC];unfold outM;rw[hf]
theorem qgR(s:ByteArray)(at':Nat)(hat:at'<s.size)(hs:s.size≤65536){k m:Nat}(hp:qac (s.data.toList.drop at')=(k,m))(w:World):
  Calls Tryz.prog 63 #[.string (s.extract at' s.size)] w fun e w'=>e=.returned (.agg #[.int .i64 (k:Int),.string ⟨((s.data.toList.drop at').take m).toArray⟩])∧Below w.heap.size w w':=by
 have hsz:=qfA s at'
 have h:=qfM (s.extract at' s.size) w (by omega) (by omega)
 rw[qba,hp] at h
 refine h.mono fun e w' hh=>?_
 obtain⟨R,he,hR,hb⟩:=hh
 rw[qba] at hR
 exact⟨by rw[he,qeR hR.symm],hb⟩
theorem qg1(s:ByteArray)(at':Nat)(vL vO:Value)(st:List Nat)(w:World)(base n:Nat)(xs:List Value)(hL:w.ownsRow base 60 2 vL n xs)(hO:w.ownsRow base 3 1 vO st.length (qah st))(hn:n≤65536)(hat:at'<s.size)(hs:s.size≤65536)(hst:st.length≤256)(hbt:∀x∈st,x≤70000)(hb:base≤w.heap.size):
  Calls Tryz.prog 46 #[LV s at' vL vO false 0] w (RStep w base s at' vL xs n (outN (s.data.toList.drop at') st)):=by
 obtain⟨p,cap,rfl,hcap⟩:=qP hL
 obtain⟨pO,cO,rfl,hcO⟩:=qP hO
 have hsl:(s.extract at' s.size).size =s.size-at':=qfA s at'
 have HL:=qh hL
 have HO:=qh hO
 unfold LV
 rcases qlX (l:=s.data.toList.drop at') (st:=st) with⟨_,hp,hr⟩|⟨k,m,hp,h0,hml,hk13,hr⟩
 ·rw[hr]
  have hpl:=qgR s at' hat hs hp
  rw[List.take_zero] at hpl
  have Hpl:=qh hpl
  clear hpl hp hr hL hO
  go_enter Tryz.func46,Tryz.ntmps46
  go_wp2_with(go_at_call 63;refine(Hpl.out _).mono ?_;rintro e w3 ⟨rfl,hb3⟩;have oa:=qaD (x:=.int .i64 (13:Int)) (y:=.string (⟨#[]⟩)) HL.out HO.out hb3;have c1:=oa.c1;have c2:=oa.c2;have c3:=oa.c3;have x10:=qa c1 (o:=0) rfl;have f10:=frozen_of_row (w3.alloc (.cells #[.int .i64 (13:Int),.string (⟨#[]⟩)] 60)) (w.heap.size) 0 _ _ c1;have x11:=qa c1 (o:=1) rfl;have f11:=frozen_of_row (w3.alloc (.cells #[.int .i64 (13:Int),.string (⟨#[]⟩)] 60)) (w.heap.size) 1 _ _ c1;have x12:=qa c1 (o:=2) rfl;have f12:=frozen_of_row (w3.alloc (.cells #[.int .i64 (13:Int),.string (⟨#[]⟩)] 60)) (w.heap.size) 2 _ _ c1;have x13:=qa c1 (o:=3) rfl;have f13:=frozen_of_row (w3.alloc (.cells #[.int .i64 (13:Int),.string (⟨#[]⟩)] 60)) (w.heap.size) 3 _ _ c1;have x14:=qa c1 (o:=4) rfl;have f14:=frozen_of_row (w3.alloc (.cells #[.int .i64 (13:Int),.string (⟨#[]⟩)] 60)) (w.heap.size) 4 _ _ c1;have x15:=qa c1 (o:=5) rfl;have f15:=frozen_of_row (w3.alloc (.cells #[.int .i64 (13:Int),.string (⟨#[]⟩)] 60)) (w.heap.size) 5 _ _ c1;have x20:=qa c2 (o:=0) rfl;have f20:=frozen_of_row (w3.alloc (.cells #[.int .i64 (13:Int),.string (⟨#[]⟩)] 60)) (w.heap.size+1) 0 _ _ c2;have x21:=qa c2 (o:=1) rfl;have f21:=frozen_of_row (w3.alloc (.cells #[.int .i64 (13:Int),.string (⟨#[]⟩)] 60)) (w.heap.size+1) 1 _ _ c2;have x22:=qa c2 (o:=2) rfl;have f22:=frozen_of_row (w3.alloc (.cells #[.int .i64 (13:Int),.string (⟨#[]⟩)] 60)) (w.heap.size+1) 2 _ _ c2;have x23:=qa c2 (o:=3) rfl;have f23:=frozen_of_row (w3.alloc (.cells #[.int .i64 (13:Int),.string (⟨#[]⟩)] 60)) (w.heap.size+1) 3 _ _ c2;have x24:=qa c2 (o:=4) rfl;have f24:=frozen_of_row (w3.alloc (.cells #[.int .i64 (13:Int),.string (⟨#[]⟩)] 60)) (w.heap.size+1) 4 _ _ c2;have x25:=qa c2 (o:=5) rfl;have f25:=frozen_of_row (w3.alloc (.cells #[.int .i64 (13:Int),.string (⟨#[]⟩)] 60)) (w.heap.size+1) 5 _ _ c2;have x30:=qa c3 (o:=0) rfl;have f30:=frozen_of_row (w3.alloc (.cells #[.int .i64 (13:Int),.string (⟨#[]⟩)] 60)) (w3.heap.size) 0 _ _ c3;have x31:=qa c3 (o:=1) rfl;have f31:=frozen_of_row (w3.alloc (.cells #[.int .i64 (13:Int),.string (⟨#[]⟩)] 60)) (w3.heap.size) 1 _ _ c3;have OA:=qh oa;clear c1 c2 c3 oa hb3)
  have oe:=OA.out.lex 5 (.int .i64 11)
  obtain⟨e6,o6,k6,h4⟩:=qas (b0:=.string s) (b1:=.int .i64 (at':Int)) (b2:=.slice p n cap) (b3:=.slice pO st.length cO) (b4:=.bool false) (b5:=.int .i64 11) HL.out oe.kw oe.sz oe.c2 (qe.refl _ _) oe.hp
  have oO:=qaw (w:=w) (b0:=.string s) (b1:=.int .i64 (at':Int)) (b2:=.slice p n cap) (b3:=.slice pO st.length cO) (b4:=.bool false) (b5:=.int .i64 11) oe.hp oe.ho (qe.refl _ _) h4
  obtain⟨q0,q1,q2,q3,q4,q5⟩:=tcc6 e6
  refine bodyPost_ret (v:=.agg #[.string s,.int .i64 (at':Int),.slice p n cap,.slice pO st.length cO,.bool false,.int .i64 11]) (by simp[results,Tryz.results46,go_sem,q0,q1,q2,q3,q4,q5]) rfl ⟨.slice p n cap,.slice pO st.length cO,?_,?_,?_,?_⟩
  ·rfl
  ·exact o6
  ·exact oO
  ·exact k6
 ·have hpl:=qgR s at' hat hs hp
  rw[List.length_drop,←Lib.size_eq] at hml
  obtain⟨T,hT⟩:∃T:ByteArray,(⟨((s.data.toList.drop at').take m).toArray⟩:ByteArray)=T:=⟨_,rfl⟩
  have hTd:T.data.toList=(s.data.toList.drop at').take m:=by rw[←hT]
  have hTs:T.size=m:=by rw[Lib.size_eq,hTd,List.length_take,List.length_drop,←Lib.size_eq];omega
  rw[hT] at hpl
  rw[←hTd] at hr
  have HTe:=qh hT
  have HTm:=qh hTs
  have Hpl:=qh hpl
  obtain⟨n1,n2⟩:=qby T (by omega)
  have n3:(T=ByteArray.empty)=False:=by apply eq_false;intro e;rw[e] at hTs;have:ByteArray.empty.size=0:=rfl;omega
  clear hpl hp hL hO hT
  match st,HO,hst,hbt,hcO,hr with
  |[],HO,hst,hbt,hcO,hr=>
   have hr2:outN (s.data.toList.drop at') []=(k,m,[],k==7,0):=by rw[hr];rfl
   rw[hr2]
   clear hr hr2 hTd
   by_cases h7:k=7
   ·subst h7
    go_enter Tryz.func46,Tryz.ntmps46
    go_wp2_with(first
     |(go_at_call 63;refine(Hpl.out _).mono ?_;rintro e w3 ⟨rfl,hb3⟩;have oa:=qaD (x:=.int .i64 (7:Int)) (y:=.string (T)) HL.out HO.out hb3;have c1:=oa.c1;have c2:=oa.c2;have c3:=oa.c3;have x10:=qa c1 (o:=0) rfl;have f10:=frozen_of_row (w3.alloc (.cells #[.int .i64 (7:Int),.string (T)] 60)) (w.heap.size) 0 _ _ c1;have x11:=qa c1 (o:=1) rfl;have f11:=frozen_of_row (w3.alloc (.cells #[.int .i64 (7:Int),.string (T)] 60)) (w.heap.size) 1 _ _ c1;have x12:=qa c1 (o:=2) rfl;have f12:=frozen_of_row (w3.alloc (.cells #[.int .i64 (7:Int),.string (T)] 60)) (w.heap.size) 2 _ _ c1;have x13:=qa c1 (o:=3) rfl;have f13:=frozen_of_row (w3.alloc (.cells #[.int .i64 (7:Int),.string (T)] 60)) (w.heap.size) 3 _ _ c1;have x14:=qa c1 (o:=4) rfl;have f14:=frozen_of_row (w3.alloc (.cells #[.int .i64 (7:Int),.string (T)] 60)) (w.heap.size) 4 _ _ c1;have x15:=qa c1 (o:=5) rfl;have f15:=frozen_of_row (w3.alloc (.cells #[.int .i64 (7:Int),.string (T)] 60)) (w.heap.size) 5 _ _ c1;have x20:=qa c2 (o:=0) rfl;have f20:=frozen_of_row (w3.alloc (.cells #[.int .i64 (7:Int),.string (T)] 60)) (w.heap.size+1) 0 _ _ c2;have x21:=qa c2 (o:=1) rfl;have f21:=frozen_of_row (w3.alloc (.cells #[.int .i64 (7:Int),.string (T)] 60)) (w.heap.size+1) 1 _ _ c2;have x22:=qa c2 (o:=2) rfl;have f22:=frozen_of_row (w3.alloc (.cells #[.int .i64 (7:Int),.string (T)] 60)) (w.heap.size+1) 2 _ _ c2;have x23:=qa c2 (o:=3) rfl;have f23:=frozen_of_row (w3.alloc (.cells #[.int .i64 (7:Int),.string (T)] 60)) (w.heap.size+1) 3 _ _ c2;have x24:=qa c2 (o:=4) rfl;have f24:=frozen_of_row (w3.alloc (.cells #[.int .i64 (7:Int),.string (T)] 60)) (w.heap.size+1) 4 _ _ c2;have x25:=qa c2 (o:=5) rfl;have f25:=frozen_of_row (w3.alloc (.cells #[.int .i64 (7:Int),.string (T)] 60)) (w.heap.size+1) 5 _ _ c2;have x30:=qa c3 (o:=0) rfl;have f30:=frozen_of_row (w3.alloc (.cells #[.int .i64 (7:Int),.string (T)] 60)) (w3.heap.size) 0 _ _ c3;have x31:=qa c3 (o:=1) rfl;have f31:=frozen_of_row (w3.alloc (.cells #[.int .i64 (7:Int),.string (T)] 60)) (w3.heap.size) 1 _ _ c3;have OA:=qh oa;clear c1 c2 c3 oa hb3)
     |(go_at_call 62;have hOA:=OA.out.lex 4 (.bool true);refine Calls.mono (qaU s at' (.slice p n cap) (.slice pO 0 cO) true 0 7 T _ base n xs ?_ ?_ ?_ ?_ ?_ ⟨_,_,_,rfl⟩) ?_;exact hOA.hp;omega;omega;omega;exact Nat.le_trans hb hOA.kw.size;rintro e w4 ⟨v',rfl,ho4,hk4⟩;have h4:=hk4.heap (show(_:World).heap[w.heap.size+1]? =_ from hOA.c2) (fun e=>by have:=(HL.out.lt _ e.symm).2;omega);obtain⟨y20,g20,y21,g21,y22,g22,y23,g23,y24,g24,y25,g25⟩:=tcf6 h4;have HOA:=qh hOA;have Ho4:=qh ho4;have Hk4:=qh hk4;obtain⟨q,c,rfl,_⟩:=qP ho4;clear h4 ho4 hk4 hOA;unfold LV))
    obtain⟨e6,o6,k6,h4⟩:=qas (b0:=.string s) (b1:=.int .i64 ((at':Int)+(m:Int))) (b2:=.slice q (n+1) c) (b3:=(.slice pO 0 cO)) (b4:=.bool true) (b5:=.int .i64 0) HL.out HOA.out.kw HOA.out.sz HOA.out.c2 Hk4.out Ho4.out
    have oO:=qaw (w:=w) (b0:=.string s) (b1:=.int .i64 ((at':Int)+(m:Int))) (b2:=.slice q (n+1) c) (b3:=(.slice pO 0 cO)) (b4:=.bool true) (b5:=.int .i64 0) HOA.out.hp HOA.out.ho Hk4.out h4
    obtain⟨q0,q1,q2,q3,q4,q5⟩:=tcc6 e6
    rw[←HTe.out] at o6
    refine bodyPost_ret (v:=.agg #[.string s,.int .i64 ((at':Int)+(m:Int)),.slice q (n+1) c,(.slice pO 0 cO),.bool true,.int .i64 0]) (by simp[results,Tryz.results46,go_sem,q0,q1,q2,q3,q4,q5]) rfl ⟨.slice q (n+1) c,(.slice pO 0 cO),?_,?_,?_,?_⟩
    ·exact congrArg Ending.returned (lvm s at' m _ _ _).symm
    ·exact o6
    ·exact oO
    ·exact k6
   ·have y7:((k:Int)==7)=false:=by rw[beq_eq_false_iff_ne];omega
    have y7':((k:Int)=7)=False:=by apply eq_false;omega
    rw[show(k==7)=false from beq_eq_false_iff_ne.2 h7]
    go_enter Tryz.func46,Tryz.ntmps46
    go_wp2_with(first
     |(go_at_call 63;refine(Hpl.out _).mono ?_;rintro e w3 ⟨rfl,hb3⟩;have oa:=qaD (x:=.int .i64 (k:Int)) (y:=.string (T)) HL.out HO.out hb3;have c1:=oa.c1;have c2:=oa.c2;have c3:=oa.c3;have x10:=qa c1 (o:=0) rfl;have f10:=frozen_of_row (w3.alloc (.cells #[.int .i64 (k:Int),.string (T)] 60)) (w.heap.size) 0 _ _ c1;have x11:=qa c1 (o:=1) rfl;have f11:=frozen_of_row (w3.alloc (.cells #[.int .i64 (k:Int),.string (T)] 60)) (w.heap.size) 1 _ _ c1;have x12:=qa c1 (o:=2) rfl;have f12:=frozen_of_row (w3.alloc (.cells #[.int .i64 (k:Int),.string (T)] 60)) (w.heap.size) 2 _ _ c1;have x13:=qa c1 (o:=3) rfl;have f13:=frozen_of_row (w3.alloc (.cells #[.int .i64 (k:Int),.string (T)] 60)) (w.heap.size) 3 _ _ c1;have x14:=qa c1 (o:=4) rfl;have f14:=frozen_of_row (w3.alloc (.cells #[.int .i64 (k:Int),.string (T)] 60)) (w.heap.size) 4 _ _ c1;have x15:=qa c1 (o:=5) rfl;have f15:=frozen_of_row (w3.alloc (.cells #[.int .i64 (k:Int),.string (T)] 60)) (w.heap.size) 5 _ _ c1;have x20:=qa c2 (o:=0) rfl;have f20:=frozen_of_row (w3.alloc (.cells #[.int .i64 (k:Int),.string (T)] 60)) (w.heap.size+1) 0 _ _ c2;have x21:=qa c2 (o:=1) rfl;have f21:=frozen_of_row (w3.alloc (.cells #[.int .i64 (k:Int),.string (T)] 60)) (w.heap.size+1) 1 _ _ c2;have x22:=qa c2 (o:=2) rfl;have f22:=frozen_of_row (w3.alloc (.cells #[.int .i64 (k:Int),.string (T)] 60)) (w.heap.size+1) 2 _ _ c2;have x23:=qa c2 (o:=3) rfl;have f23:=frozen_of_row (w3.alloc (.cells #[.int .i64 (k:Int),.string (T)] 60)) (w.heap.size+1) 3 _ _ c2;have x24:=qa c2 (o:=4) rfl;have f24:=frozen_of_row (w3.alloc (.cells #[.int .i64 (k:Int),.string (T)] 60)) (w.heap.size+1) 4 _ _ c2;have x25:=qa c2 (o:=5) rfl;have f25:=frozen_of_row (w3.alloc (.cells #[.int .i64 (k:Int),.string (T)] 60)) (w.heap.size+1) 5 _ _ c2;have x30:=qa c3 (o:=0) rfl;have f30:=frozen_of_row (w3.alloc (.cells #[.int .i64 (k:Int),.string (T)] 60)) (w3.heap.size) 0 _ _ c3;have x31:=qa c3 (o:=1) rfl;have f31:=frozen_of_row (w3.alloc (.cells #[.int .i64 (k:Int),.string (T)] 60)) (w3.heap.size) 1 _ _ c3;have OA:=qh oa;clear c1 c2 c3 oa hb3)
     |(go_at_call 62;have hOA:=OA.out;refine Calls.mono (qaU s at' (.slice p n cap) (.slice pO 0 cO) false 0 k T _ base n xs ?_ ?_ ?_ ?_ ?_ ⟨_,_,_,rfl⟩) ?_;exact hOA.hp;omega;omega;omega;exact Nat.le_trans hb hOA.kw.size;rintro e w4 ⟨v',rfl,ho4,hk4⟩;have h4:=hk4.heap (show(_:World).heap[w.heap.size+1]? =_ from hOA.c2) (fun e=>by have:=(HL.out.lt _ e.symm).2;omega);obtain⟨y20,g20,y21,g21,y22,g22,y23,g23,y24,g24,y25,g25⟩:=tcf6 h4;have HOA:=qh hOA;have Ho4:=qh ho4;have Hk4:=qh hk4;obtain⟨q,c,rfl,_⟩:=qP ho4;clear h4 ho4 hk4 hOA;unfold LV))
    obtain⟨e6,o6,k6,h4⟩:=qas (b0:=.string s) (b1:=.int .i64 ((at':Int)+(m:Int))) (b2:=.slice q (n+1) c) (b3:=(.slice pO 0 cO)) (b4:=.bool false) (b5:=.int .i64 0) HL.out HOA.out.kw HOA.out.sz HOA.out.c2 Hk4.out Ho4.out
    have oO:=qaw (w:=w) (b0:=.string s) (b1:=.int .i64 ((at':Int)+(m:Int))) (b2:=.slice q (n+1) c) (b3:=(.slice pO 0 cO)) (b4:=.bool false) (b5:=.int .i64 0) HOA.out.hp HOA.out.ho Hk4.out h4
    obtain⟨q0,q1,q2,q3,q4,q5⟩:=tcc6 e6
    rw[←HTe.out] at o6
    refine bodyPost_ret (v:=.agg #[.string s,.int .i64 ((at':Int)+(m:Int)),.slice q (n+1) c,(.slice pO 0 cO),.bool false,.int .i64 0]) (by simp[results,Tryz.results46,go_sem,q0,q1,q2,q3,q4,q5]) rfl ⟨.slice q (n+1) c,(.slice pO 0 cO),?_,?_,?_,?_⟩
    ·exact congrArg Ending.returned (lvm s at' m _ _ _).symm
    ·exact o6
    ·exact oO
    ·exact k6
  |t::rest,HO,hst,hbt,hcO,hr=>
   obtain⟨g,cO',hge⟩:=qcp HO.out
   have hpO:pO=some ⟨g,0,none⟩∧cO=cO':=by injection hge with a1 a2 a3;exact⟨a1,a3⟩
   obtain⟨rfl,rfl⟩:=hpO
   have ht:t≤70000:=hbt t (by simp)
   simp only[List.length_cons] at hst hcO
   have w1':IntKind.i64.wrap (((rest.length:Int)+1)-1)=(rest.length:Int):=by rw[IntWalk.i64_in _ (by omega)];omega
   have w2':((rest.length:Int)+1)-1=(rest.length:Int):=by omega
   by_cases h13:k=13
   ·subst h13
    obtain⟨i3,hi,hz0,hz1,hz2⟩:=info_parts hi3
    cases h40:(T.data.toList==[40])
    ·have b40:(T.toList==[40])=false:=by rw[Lib.toList_data];exact h40
     have b40':(T.toList=[40])=False:=by apply eq_false;intro e;rw[e] at b40;simp at b40
     cases h41:(T.data.toList==[41])
     ·have b41:(T.toList==[41])=false:=by rw[Lib.toList_data];exact h41
      have b41':(T.toList=[41])=False:=by apply eq_false;intro e;rw[e] at b41;simp at b41
      rw[qkQ h40 h41] at hr
      rw[hr]
      clear hr h40 h41 hTd hge hbt
      go_enter Tryz.func46,Tryz.ntmps46
      go_wp2_with(first
       |(go_at_call 63;refine(Hpl.out _).mono ?_;rintro e w3 ⟨rfl,hb3⟩;have oa:=qaD (x:=.int .i64 (13:Int)) (y:=.string (T)) HL.out HO.out hb3;have c1:=oa.c1;have c2:=oa.c2;have c3:=oa.c3;have x10:=qa c1 (o:=0) rfl;have f10:=frozen_of_row (w3.alloc (.cells #[.int .i64 (13:Int),.string (T)] 60)) (w.heap.size) 0 _ _ c1;have x11:=qa c1 (o:=1) rfl;have f11:=frozen_of_row (w3.alloc (.cells #[.int .i64 (13:Int),.string (T)] 60)) (w.heap.size) 1 _ _ c1;have x12:=qa c1 (o:=2) rfl;have f12:=frozen_of_row (w3.alloc (.cells #[.int .i64 (13:Int),.string (T)] 60)) (w.heap.size) 2 _ _ c1;have x13:=qa c1 (o:=3) rfl;have f13:=frozen_of_row (w3.alloc (.cells #[.int .i64 (13:Int),.string (T)] 60)) (w.heap.size) 3 _ _ c1;have x14:=qa c1 (o:=4) rfl;have f14:=frozen_of_row (w3.alloc (.cells #[.int .i64 (13:Int),.string (T)] 60)) (w.heap.size) 4 _ _ c1;have x15:=qa c1 (o:=5) rfl;have f15:=frozen_of_row (w3.alloc (.cells #[.int .i64 (13:Int),.string (T)] 60)) (w.heap.size) 5 _ _ c1;have x20:=qa c2 (o:=0) rfl;have f20:=frozen_of_row (w3.alloc (.cells #[.int .i64 (13:Int),.string (T)] 60)) (w.heap.size+1) 0 _ _ c2;have x21:=qa c2 (o:=1) rfl;have f21:=frozen_of_row (w3.alloc (.cells #[.int .i64 (13:Int),.string (T)] 60)) (w.heap.size+1) 1 _ _ c2;have x22:=qa c2 (o:=2) rfl;have f22:=frozen_of_row (w3.alloc (.cells #[.int .i64 (13:Int),.string (T)] 60)) (w.heap.size+1) 2 _ _ c2;have x23:=qa c2 (o:=3) rfl;have f23:=frozen_of_row (w3.alloc (.cells #[.int .i64 (13:Int),.string (T)] 60)) (w.heap.size+1) 3 _ _ c2;have x24:=qa c2 (o:=4) rfl;have f24:=frozen_of_row (w3.alloc (.cells #[.int .i64 (13:Int),.string (T)] 60)) (w.heap.size+1) 4 _ _ c2;have x25:=qa c2 (o:=5) rfl;have f25:=frozen_of_row (w3.alloc (.cells #[.int .i64 (13:Int),.string (T)] 60)) (w.heap.size+1) 5 _ _ c2;have x30:=qa c3 (o:=0) rfl;have f30:=frozen_of_row (w3.alloc (.cells #[.int .i64 (13:Int),.string (T)] 60)) (w3.heap.size) 0 _ _ c3;have x31:=qa c3 (o:=1) rfl;have f31:=frozen_of_row (w3.alloc (.cells #[.int .i64 (13:Int),.string (T)] 60)) (w3.heap.size) 1 _ _ c3;obtain⟨kt,ft,_⟩:=qca (u:=0) oa.ho;have OA:=qh oa;clear c1 c2 c3 oa hb3)
       |(go_at_call 62;have hOA:=OA.out;refine Calls.mono (qaU s at' (.slice p n cap) (.slice (some ⟨g,0,none⟩) (rest.length+1) cO) false 0 13 T _ base n xs ?_ ?_ ?_ ?_ ?_ ⟨_,_,_,rfl⟩) ?_;exact hOA.hp;omega;omega;omega;exact Nat.le_trans hb hOA.kw.size;rintro e w4 ⟨v',rfl,ho4,hk4⟩;have h4:=hk4.heap (show(_:World).heap[w.heap.size+1]? =_ from hOA.c2) (fun e=>by have:=(HL.out.lt _ e.symm).2;omega);obtain⟨y20,g20,y21,g21,y22,g22,y23,g23,y24,g24,y25,g25⟩:=tcf6 h4;have HOA:=qh hOA;have Ho4:=qh ho4;have Hk4:=qh hk4;obtain⟨q,c,rfl,_⟩:=qP ho4;clear h4 ho4 hk4 hOA;unfold LV))
      obtain⟨e6,o6,k6,h4⟩:=qas (b0:=.string s) (b1:=.int .i64 ((at':Int)+(m:Int))) (b2:=.slice q (n+1) c) (b3:=(.slice (some ⟨g,0,none⟩) (rest.length+1) cO)) (b4:=.bool false) (b5:=.int .i64 0) HL.out HOA.out.kw HOA.out.sz HOA.out.c2 Hk4.out Ho4.out
      have oO:=qaw (w:=w) (b0:=.string s) (b1:=.int .i64 ((at':Int)+(m:Int))) (b2:=.slice q (n+1) c) (b3:=(.slice (some ⟨g,0,none⟩) (rest.length+1) cO)) (b4:=.bool false) (b5:=.int .i64 0) HOA.out.hp HOA.out.ho Hk4.out h4
      obtain⟨q0,q1,q2,q3,q4,q5⟩:=tcc6 e6
      rw[←HTe.out] at o6
      refine bodyPost_ret (v:=.agg #[.string s,.int .i64 ((at':Int)+(m:Int)),.slice q (n+1) c,(.slice (some ⟨g,0,none⟩) (rest.length+1) cO),.bool false,.int .i64 0]) (by simp[results,Tryz.results46,go_sem,q0,q1,q2,q3,q4,q5]) rfl ⟨.slice q (n+1) c,(.slice (some ⟨g,0,none⟩) (rest.length+1) cO),?_,?_,?_,?_⟩
      ·exact congrArg Ending.returned (lvm s at' m _ _ _).symm
      ·exact o6
      ·exact oO
      ·exact k6
     ·have b41:(T.toList==[41])=true:=by rw[Lib.toList_data];exact h41
      have b41':(T.toList=[41])=True:=eq_true (eq_of_beq b41)
      have e41:T.data.toList=[41]:=eq_of_beq h41
      rw[e41] at hr
      by_cases ht0:t=0
      ·subst ht0
       rw[brk_end] at hr
       rw[hr]
       clear hr h40 h41 hTd hge hbt e41
       go_enter Tryz.func46,Tryz.ntmps46
       go_wp2_with(first
        |(go_at_call 63;refine(Hpl.out _).mono ?_;rintro e w3 ⟨rfl,hb3⟩;have oa:=qaD (x:=.int .i64 (13:Int)) (y:=.string (T)) HL.out HO.out hb3;have c1:=oa.c1;have c2:=oa.c2;have c3:=oa.c3;have x10:=qa c1 (o:=0) rfl;have f10:=frozen_of_row (w3.alloc (.cells #[.int .i64 (13:Int),.string (T)] 60)) (w.heap.size) 0 _ _ c1;have x11:=qa c1 (o:=1) rfl;have f11:=frozen_of_row (w3.alloc (.cells #[.int .i64 (13:Int),.string (T)] 60)) (w.heap.size) 1 _ _ c1;have x12:=qa c1 (o:=2) rfl;have f12:=frozen_of_row (w3.alloc (.cells #[.int .i64 (13:Int),.string (T)] 60)) (w.heap.size) 2 _ _ c1;have x13:=qa c1 (o:=3) rfl;have f13:=frozen_of_row (w3.alloc (.cells #[.int .i64 (13:Int),.string (T)] 60)) (w.heap.size) 3 _ _ c1;have x14:=qa c1 (o:=4) rfl;have f14:=frozen_of_row (w3.alloc (.cells #[.int .i64 (13:Int),.string (T)] 60)) (w.heap.size) 4 _ _ c1;have x15:=qa c1 (o:=5) rfl;have f15:=frozen_of_row (w3.alloc (.cells #[.int .i64 (13:Int),.string (T)] 60)) (w.heap.size) 5 _ _ c1;have x20:=qa c2 (o:=0) rfl;have f20:=frozen_of_row (w3.alloc (.cells #[.int .i64 (13:Int),.string (T)] 60)) (w.heap.size+1) 0 _ _ c2;have x21:=qa c2 (o:=1) rfl;have f21:=frozen_of_row (w3.alloc (.cells #[.int .i64 (13:Int),.string (T)] 60)) (w.heap.size+1) 1 _ _ c2;have x22:=qa c2 (o:=2) rfl;have f22:=frozen_of_row (w3.alloc (.cells #[.int .i64 (13:Int),.string (T)] 60)) (w.heap.size+1) 2 _ _ c2;have x23:=qa c2 (o:=3) rfl;have f23:=frozen_of_row (w3.alloc (.cells #[.int .i64 (13:Int),.string (T)] 60)) (w.heap.size+1) 3 _ _ c2;have x24:=qa c2 (o:=4) rfl;have f24:=frozen_of_row (w3.alloc (.cells #[.int .i64 (13:Int),.string (T)] 60)) (w.heap.size+1) 4 _ _ c2;have x25:=qa c2 (o:=5) rfl;have f25:=frozen_of_row (w3.alloc (.cells #[.int .i64 (13:Int),.string (T)] 60)) (w.heap.size+1) 5 _ _ c2;have x30:=qa c3 (o:=0) rfl;have f30:=frozen_of_row (w3.alloc (.cells #[.int .i64 (13:Int),.string (T)] 60)) (w3.heap.size) 0 _ _ c3;have x31:=qa c3 (o:=1) rfl;have f31:=frozen_of_row (w3.alloc (.cells #[.int .i64 (13:Int),.string (T)] 60)) (w3.heap.size) 1 _ _ c3;obtain⟨kt,ft,_⟩:=qca (u:=0) oa.ho;have OA:=qh oa;have oa2:=qaD (x:=.int .i64 10) (y:=.string T) HL.out HO.out hb3;have d1:=oa2.c1;have d2:=oa2.c2;have d3:=oa2.c3;have x40:=qa d1 (o:=0) rfl;have f40:=frozen_of_row (w3.alloc (.cells #[.int .i64 10,.string T] 60)) (w.heap.size) 0 _ _ d1;have x41:=qa d1 (o:=1) rfl;have f41:=frozen_of_row (w3.alloc (.cells #[.int .i64 10,.string T] 60)) (w.heap.size) 1 _ _ d1;have x42:=qa d1 (o:=2) rfl;have f42:=frozen_of_row (w3.alloc (.cells #[.int .i64 10,.string T] 60)) (w.heap.size) 2 _ _ d1;have x43:=qa d1 (o:=3) rfl;have f43:=frozen_of_row (w3.alloc (.cells #[.int .i64 10,.string T] 60)) (w.heap.size) 3 _ _ d1;have x44:=qa d1 (o:=4) rfl;have f44:=frozen_of_row (w3.alloc (.cells #[.int .i64 10,.string T] 60)) (w.heap.size) 4 _ _ d1;have x45:=qa d1 (o:=5) rfl;have f45:=frozen_of_row (w3.alloc (.cells #[.int .i64 10,.string T] 60)) (w.heap.size) 5 _ _ d1;have x50:=qa d2 (o:=0) rfl;have f50:=frozen_of_row (w3.alloc (.cells #[.int .i64 10,.string T] 60)) (w.heap.size+1) 0 _ _ d2;have x51:=qa d2 (o:=1) rfl;have f51:=frozen_of_row (w3.alloc (.cells #[.int .i64 10,.string T] 60)) (w.heap.size+1) 1 _ _ d2;have x52:=qa d2 (o:=2) rfl;have f52:=frozen_of_row (w3.alloc (.cells #[.int .i64 10,.string T] 60)) (w.heap.size+1) 2 _ _ d2;have x53:=qa d2 (o:=3) rfl;have f53:=frozen_of_row (w3.alloc (.cells #[.int .i64 10,.string T] 60)) (w.heap.size+1) 3 _ _ d2;have x54:=qa d2 (o:=4) rfl;have f54:=frozen_of_row (w3.alloc (.cells #[.int .i64 10,.string T] 60)) (w.heap.size+1) 4 _ _ d2;have x55:=qa d2 (o:=5) rfl;have f55:=frozen_of_row (w3.alloc (.cells #[.int .i64 10,.string T] 60)) (w.heap.size+1) 5 _ _ d2;have x60:=qa d3 (o:=0) rfl;have f60:=frozen_of_row (w3.alloc (.cells #[.int .i64 10,.string T] 60)) (w3.heap.size) 0 _ _ d3;have x61:=qa d3 (o:=1) rfl;have f61:=frozen_of_row (w3.alloc (.cells #[.int .i64 10,.string T] 60)) (w3.heap.size) 1 _ _ d3;have OA2:=qh oa2;clear c1 c2 c3 oa hb3 d1 d2 d3 oa2)
        |(go_at_call 62;have hOA:=((OA2.out.lex 3 (.slice (some ⟨g,0,none⟩) rest.length cO)).lex 4 (.bool true)).row (own_pop ((OA2.out.lex 3 (.slice (some ⟨g,0,none⟩) rest.length cO)).lex 4 (.bool true)).ho);refine Calls.mono (qaU s at' (.slice p n cap) (.slice (some ⟨g,0,none⟩) rest.length cO) true 0 10 T _ base n xs ?_ ?_ ?_ ?_ ?_ ⟨_,_,_,rfl⟩) ?_;exact hOA.hp;omega;omega;omega;exact Nat.le_trans hb hOA.kw.size;rintro e w4 ⟨v',rfl,ho4,hk4⟩;have h4:=hk4.heap (show(_:World).heap[w.heap.size+1]? =_ from hOA.c2) (fun e=>by have:=(HL.out.lt _ e.symm).2;omega);obtain⟨y20,g20,y21,g21,y22,g22,y23,g23,y24,g24,y25,g25⟩:=tcf6 h4;have HOA:=qh hOA;have Ho4:=qh ho4;have Hk4:=qh hk4;obtain⟨q,c,rfl,_⟩:=qP ho4;clear h4 ho4 hk4 hOA;unfold LV))
       obtain⟨e6,o6,k6,h4⟩:=qas (b0:=.string s) (b1:=.int .i64 ((at':Int)+(m:Int))) (b2:=.slice q (n+1) c) (b3:=(.slice (some ⟨g,0,none⟩) rest.length cO)) (b4:=.bool true) (b5:=.int .i64 0) HL.out HOA.out.kw HOA.out.sz HOA.out.c2 Hk4.out Ho4.out
       have oO:=qaw (w:=w) (b0:=.string s) (b1:=.int .i64 ((at':Int)+(m:Int))) (b2:=.slice q (n+1) c) (b3:=(.slice (some ⟨g,0,none⟩) rest.length cO)) (b4:=.bool true) (b5:=.int .i64 0) HOA.out.hp HOA.out.ho Hk4.out h4
       obtain⟨q0,q1,q2,q3,q4,q5⟩:=tcc6 e6
       rw[←HTe.out] at o6
       refine bodyPost_ret (v:=.agg #[.string s,.int .i64 ((at':Int)+(m:Int)),.slice q (n+1) c,(.slice (some ⟨g,0,none⟩) rest.length cO),.bool true,.int .i64 0]) (by simp[results,Tryz.results46,go_sem,q0,q1,q2,q3,q4,q5]) rfl ⟨.slice q (n+1) c,(.slice (some ⟨g,0,none⟩) rest.length cO),?_,?_,?_,?_⟩
       ·exact congrArg Ending.returned (lvm s at' m _ _ _).symm
       ·exact o6
       ·exact oO
       ·exact k6
      ·rw[qlC ht0] at hr
       rw[hr]
       have yt:((t:Int)==0)=false:=by rw[beq_eq_false_iff_ne];omega
       have yt':((t:Int)=0)=False:=by apply eq_false;omega
       have Hd:=qh (show((t-1:Nat):Int)=(t:Int)-1 by omega)
       clear hr h40 h41 hTd hge hbt e41
       go_enter Tryz.func46,Tryz.ntmps46
       go_wp2_with(first
        |(go_at_call 63;refine(Hpl.out _).mono ?_;rintro e w3 ⟨rfl,hb3⟩;have oa:=qaD (x:=.int .i64 (13:Int)) (y:=.string (T)) HL.out HO.out hb3;have c1:=oa.c1;have c2:=oa.c2;have c3:=oa.c3;have x10:=qa c1 (o:=0) rfl;have f10:=frozen_of_row (w3.alloc (.cells #[.int .i64 (13:Int),.string (T)] 60)) (w.heap.size) 0 _ _ c1;have x11:=qa c1 (o:=1) rfl;have f11:=frozen_of_row (w3.alloc (.cells #[.int .i64 (13:Int),.string (T)] 60)) (w.heap.size) 1 _ _ c1;have x12:=qa c1 (o:=2) rfl;have f12:=frozen_of_row (w3.alloc (.cells #[.int .i64 (13:Int),.string (T)] 60)) (w.heap.size) 2 _ _ c1;have x13:=qa c1 (o:=3) rfl;have f13:=frozen_of_row (w3.alloc (.cells #[.int .i64 (13:Int),.string (T)] 60)) (w.heap.size) 3 _ _ c1;have x14:=qa c1 (o:=4) rfl;have f14:=frozen_of_row (w3.alloc (.cells #[.int .i64 (13:Int),.string (T)] 60)) (w.heap.size) 4 _ _ c1;have x15:=qa c1 (o:=5) rfl;have f15:=frozen_of_row (w3.alloc (.cells #[.int .i64 (13:Int),.string (T)] 60)) (w.heap.size) 5 _ _ c1;have x20:=qa c2 (o:=0) rfl;have f20:=frozen_of_row (w3.alloc (.cells #[.int .i64 (13:Int),.string (T)] 60)) (w.heap.size+1) 0 _ _ c2;have x21:=qa c2 (o:=1) rfl;have f21:=frozen_of_row (w3.alloc (.cells #[.int .i64 (13:Int),.string (T)] 60)) (w.heap.size+1) 1 _ _ c2;have x22:=qa c2 (o:=2) rfl;have f22:=frozen_of_row (w3.alloc (.cells #[.int .i64 (13:Int),.string (T)] 60)) (w.heap.size+1) 2 _ _ c2;have x23:=qa c2 (o:=3) rfl;have f23:=frozen_of_row (w3.alloc (.cells #[.int .i64 (13:Int),.string (T)] 60)) (w.heap.size+1) 3 _ _ c2;have x24:=qa c2 (o:=4) rfl;have f24:=frozen_of_row (w3.alloc (.cells #[.int .i64 (13:Int),.string (T)] 60)) (w.heap.size+1) 4 _ _ c2;have x25:=qa c2 (o:=5) rfl;have f25:=frozen_of_row (w3.alloc (.cells #[.int .i64 (13:Int),.string (T)] 60)) (w.heap.size+1) 5 _ _ c2;have x30:=qa c3 (o:=0) rfl;have f30:=frozen_of_row (w3.alloc (.cells #[.int .i64 (13:Int),.string (T)] 60)) (w3.heap.size) 0 _ _ c3;have x31:=qa c3 (o:=1) rfl;have f31:=frozen_of_row (w3.alloc (.cells #[.int .i64 (13:Int),.string (T)] 60)) (w3.heap.size) 1 _ _ c3;obtain⟨kt,ft,_⟩:=qca (u:=0) oa.ho;have OA:=qh oa;clear c1 c2 c3 oa hb3)
        |(at_builtin;refine qcd _ rfl _ _ 49 rfl w.heap.size 3 i3 (.int .i64 0) 1 8 qd3 hi hz0 hz1 hz2 rfl (by decide) (.slice none 0 0) 0 [] rfl (World.ownsRow_nil _ _ _ _) base _ (rest.length+1) (qah (t::rest)) rfl OA.out.ho (qeF _) (by simp only[maxLen];omega) (by omega) OA.out.kw.size ?_;intro v6 w6 own6 hk6;have oa6:=OA.out.keeps (hk6.mono (O':=fun _=>False) fun b _ h=>by simp[Value.ownBlock] at h);rw[Nat.zero_add,List.nil_append] at own6;obtain⟨g6,c6,rfl⟩:=qcp own6;have hg6:w.heap.size≤g6:=(own6.lt g6 rfl).1;have oa7:=oa6.row (qbR own6 hb);clear x10 x11 x12 x13 x14 x15 f10 f11 f12 f13 f14 f15 x20 x21 x22 x23 x24 x25 f20 f21 f22 f23 f24 f25 x30 x31 f30 f31 kt ft;have d1:=oa7.c1;have d2:=oa7.c2;have d3:=oa7.c3;obtain⟨x10,f10,x11,f11,x12,f12,x13,f13,x14,f14,x15,f15⟩:=tcf6 d1;obtain⟨x20,f20,x21,f21,x22,f22,x23,f23,x24,f24,x25,f25⟩:=tcf6 d2;obtain⟨x30,f30,x31,f31⟩:=tcf2 d3;obtain⟨kt,ft,_⟩:=qca (u:=0) oa7.ho;have ne1:=oa7.ne1;have ne2:=oa7.ne2;have ne3:=oa7.ne3;have ne1':=Ne.symm ne1;have ne2':=Ne.symm ne2;have ne3':=Ne.symm ne3;have OA7:=qh oa7;have Hg6:=qh hg6;clear d1 d2 d3 oa6 oa7 own6 hk6 hg6)
        |(go_at_call 62;have hOA:=(Hd.out▸OA7.out.brk (u:=t-1) Hg6.out).lex 3 (.slice (some ⟨g6,0,none⟩) (rest.length+1) c6);refine Calls.mono (qaU s at' (.slice p n cap) (.slice (some ⟨g6,0,none⟩) (rest.length+1) c6) false 0 13 T _ base n xs ?_ ?_ ?_ ?_ ?_ ⟨_,_,_,rfl⟩) ?_;exact hOA.hp;omega;omega;omega;exact Nat.le_trans hb hOA.kw.size;rintro e w4 ⟨v',rfl,ho4,hk4⟩;have h4:=hk4.heap (show(_:World).heap[w.heap.size+1]? =_ from hOA.c2) (fun e=>by have:=(HL.out.lt _ e.symm).2;omega);obtain⟨y20,g20,y21,g21,y22,g22,y23,g23,y24,g24,y25,g25⟩:=tcf6 h4;have HOA:=qh hOA;have Ho4:=qh ho4;have Hk4:=qh hk4;obtain⟨q,c,rfl,_⟩:=qP ho4;clear h4 ho4 hk4 hOA;unfold LV))
       obtain⟨e6,o6,k6,h4⟩:=qas (b0:=.string s) (b1:=.int .i64 ((at':Int)+(m:Int))) (b2:=.slice q (n+1) c) (b3:=(.slice (some ⟨g6,0,none⟩) (rest.length+1) c6)) (b4:=.bool false) (b5:=.int .i64 0) HL.out HOA.out.kw HOA.out.sz HOA.out.c2 Hk4.out Ho4.out
       have oO:=qaw (w:=w) (b0:=.string s) (b1:=.int .i64 ((at':Int)+(m:Int))) (b2:=.slice q (n+1) c) (b3:=(.slice (some ⟨g6,0,none⟩) (rest.length+1) c6)) (b4:=.bool false) (b5:=.int .i64 0) HOA.out.hp HOA.out.ho Hk4.out h4
       obtain⟨q0,q1,q2,q3,q4,q5⟩:=tcc6 e6
       rw[←HTe.out] at o6
       refine bodyPost_ret (v:=.agg #[.string s,.int .i64 ((at':Int)+(m:Int)),.slice q (n+1) c,(.slice (some ⟨g6,0,none⟩) (rest.length+1) c6),.bool false,.int .i64 0]) (by simp[results,Tryz.results46,go_sem,q0,q1,q2,q3,q4,q5]) rfl ⟨.slice q (n+1) c,(.slice (some ⟨g6,0,none⟩) (rest.length+1) c6),?_,?_,?_,?_⟩
       ·exact congrArg Ending.returned (lvm s at' m _ _ _).symm
       ·exact o6
       ·exact oO
       ·exact k6
    ·have b40:(T.toList==[40])=true:=by rw[Lib.toList_data];exact h40
     have b40':(T.toList=[40])=True:=eq_true (eq_of_beq b40)
     have e40:T.data.toList=[40]:=eq_of_beq h40
     have b41:(T.toList==[41])=false:=by rw[Lib.toList_data,e40];rfl
     have b41':(T.toList=[41])=False:=by apply eq_false;intro e;rw[e] at b41;simp at b41
     rw[e40,qm6] at hr
     rw[hr]
     have Hd:=qh (show((t+1:Nat):Int)=(t:Int)+1 by omega)
     clear hr h40 hTd hge hbt e40
     go_enter Tryz.func46,Tryz.ntmps46
     go_wp2_with(first
      |(go_at_call 63;refine(Hpl.out _).mono ?_;rintro e w3 ⟨rfl,hb3⟩;have oa:=qaD (x:=.int .i64 (13:Int)) (y:=.string (T)) HL.out HO.out hb3;have c1:=oa.c1;have c2:=oa.c2;have c3:=oa.c3;have x10:=qa c1 (o:=0) rfl;have f10:=frozen_of_row (w3.alloc (.cells #[.int .i64 (13:Int),.string (T)] 60)) (w.heap.size) 0 _ _ c1;have x11:=qa c1 (o:=1) rfl;have f11:=frozen_of_row (w3.alloc (.cells #[.int .i64 (13:Int),.string (T)] 60)) (w.heap.size) 1 _ _ c1;have x12:=qa c1 (o:=2) rfl;have f12:=frozen_of_row (w3.alloc (.cells #[.int .i64 (13:Int),.string (T)] 60)) (w.heap.size) 2 _ _ c1;have x13:=qa c1 (o:=3) rfl;have f13:=frozen_of_row (w3.alloc (.cells #[.int .i64 (13:Int),.string (T)] 60)) (w.heap.size) 3 _ _ c1;have x14:=qa c1 (o:=4) rfl;have f14:=frozen_of_row (w3.alloc (.cells #[.int .i64 (13:Int),.string (T)] 60)) (w.heap.size) 4 _ _ c1;have x15:=qa c1 (o:=5) rfl;have f15:=frozen_of_row (w3.alloc (.cells #[.int .i64 (13:Int),.string (T)] 60)) (w.heap.size) 5 _ _ c1;have x20:=qa c2 (o:=0) rfl;have f20:=frozen_of_row (w3.alloc (.cells #[.int .i64 (13:Int),.string (T)] 60)) (w.heap.size+1) 0 _ _ c2;have x21:=qa c2 (o:=1) rfl;have f21:=frozen_of_row (w3.alloc (.cells #[.int .i64 (13:Int),.string (T)] 60)) (w.heap.size+1) 1 _ _ c2;have x22:=qa c2 (o:=2) rfl;have f22:=frozen_of_row (w3.alloc (.cells #[.int .i64 (13:Int),.string (T)] 60)) (w.heap.size+1) 2 _ _ c2;have x23:=qa c2 (o:=3) rfl;have f23:=frozen_of_row (w3.alloc (.cells #[.int .i64 (13:Int),.string (T)] 60)) (w.heap.size+1) 3 _ _ c2;have x24:=qa c2 (o:=4) rfl;have f24:=frozen_of_row (w3.alloc (.cells #[.int .i64 (13:Int),.string (T)] 60)) (w.heap.size+1) 4 _ _ c2;have x25:=qa c2 (o:=5) rfl;have f25:=frozen_of_row (w3.alloc (.cells #[.int .i64 (13:Int),.string (T)] 60)) (w.heap.size+1) 5 _ _ c2;have x30:=qa c3 (o:=0) rfl;have f30:=frozen_of_row (w3.alloc (.cells #[.int .i64 (13:Int),.string (T)] 60)) (w3.heap.size) 0 _ _ c3;have x31:=qa c3 (o:=1) rfl;have f31:=frozen_of_row (w3.alloc (.cells #[.int .i64 (13:Int),.string (T)] 60)) (w3.heap.size) 1 _ _ c3;obtain⟨kt,ft,_⟩:=qca (u:=0) oa.ho;have OA:=qh oa;clear c1 c2 c3 oa hb3)
      |(at_builtin;refine qcd _ rfl _ _ 49 rfl w.heap.size 3 i3 (.int .i64 0) 1 8 qd3 hi hz0 hz1 hz2 rfl (by decide) (.slice none 0 0) 0 [] rfl (World.ownsRow_nil _ _ _ _) base _ (rest.length+1) (qah (t::rest)) rfl OA.out.ho (qeF _) (by simp only[maxLen];omega) (by omega) OA.out.kw.size ?_;intro v6 w6 own6 hk6;have oa6:=OA.out.keeps (hk6.mono (O':=fun _=>False) fun b _ h=>by simp[Value.ownBlock] at h);rw[Nat.zero_add,List.nil_append] at own6;obtain⟨g6,c6,rfl⟩:=qcp own6;have hg6:w.heap.size≤g6:=(own6.lt g6 rfl).1;have oa7:=oa6.row (qbR own6 hb);clear x10 x11 x12 x13 x14 x15 f10 f11 f12 f13 f14 f15 x20 x21 x22 x23 x24 x25 f20 f21 f22 f23 f24 f25 x30 x31 f30 f31 kt ft;have d1:=oa7.c1;have d2:=oa7.c2;have d3:=oa7.c3;obtain⟨x10,f10,x11,f11,x12,f12,x13,f13,x14,f14,x15,f15⟩:=tcf6 d1;obtain⟨x20,f20,x21,f21,x22,f22,x23,f23,x24,f24,x25,f25⟩:=tcf6 d2;obtain⟨x30,f30,x31,f31⟩:=tcf2 d3;obtain⟨kt,ft,_⟩:=qca (u:=0) oa7.ho;have ne1:=oa7.ne1;have ne2:=oa7.ne2;have ne3:=oa7.ne3;have ne1':=Ne.symm ne1;have ne2':=Ne.symm ne2;have ne3':=Ne.symm ne3;have OA7:=qh oa7;have Hg6:=qh hg6;clear d1 d2 d3 oa6 oa7 own6 hk6 hg6)
      |(go_at_call 62;have hOA:=(Hd.out▸OA7.out.brk (u:=t+1) Hg6.out).lex 3 (.slice (some ⟨g6,0,none⟩) (rest.length+1) c6);refine Calls.mono (qaU s at' (.slice p n cap) (.slice (some ⟨g6,0,none⟩) (rest.length+1) c6) false 0 13 T _ base n xs ?_ ?_ ?_ ?_ ?_ ⟨_,_,_,rfl⟩) ?_;exact hOA.hp;omega;omega;omega;exact Nat.le_trans hb hOA.kw.size;rintro e w4 ⟨v',rfl,ho4,hk4⟩;have h4:=hk4.heap (show(_:World).heap[w.heap.size+1]? =_ from hOA.c2) (fun e=>by have:=(HL.out.lt _ e.symm).2;omega);obtain⟨y20,g20,y21,g21,y22,g22,y23,g23,y24,g24,y25,g25⟩:=tcf6 h4;have HOA:=qh hOA;have Ho4:=qh ho4;have Hk4:=qh hk4;obtain⟨q,c,rfl,_⟩:=qP ho4;clear h4 ho4 hk4 hOA;unfold LV))
     obtain⟨e6,o6,k6,h4⟩:=qas (b0:=.string s) (b1:=.int .i64 ((at':Int)+(m:Int))) (b2:=.slice q (n+1) c) (b3:=(.slice (some ⟨g6,0,none⟩) (rest.length+1) c6)) (b4:=.bool false) (b5:=.int .i64 0) HL.out HOA.out.kw HOA.out.sz HOA.out.c2 Hk4.out Ho4.out
     have oO:=qaw (w:=w) (b0:=.string s) (b1:=.int .i64 ((at':Int)+(m:Int))) (b2:=.slice q (n+1) c) (b3:=(.slice (some ⟨g6,0,none⟩) (rest.length+1) c6)) (b4:=.bool false) (b5:=.int .i64 0) HOA.out.hp HOA.out.ho Hk4.out h4
     obtain⟨q0,q1,q2,q3,q4,q5⟩:=tcc6 e6
     rw[←HTe.out] at o6
     refine bodyPost_ret (v:=.agg #[.string s,.int .i64 ((at':Int)+(m:Int)),.slice q (n+1) c,(.slice (some ⟨g6,0,none⟩) (rest.length+1) c6),.bool false,.int .i64 0]) (by simp[results,Tryz.results46,go_sem,q0,q1,q2,q3,q4,q5]) rfl ⟨.slice q (n+1) c,(.slice (some ⟨g6,0,none⟩) (rest.length+1) c6),?_,?_,?_,?_⟩
     ·exact congrArg Ending.returned (lvm s at' m _ _ _).symm
     ·exact o6
     ·exact oO
     ·exact k6
   ·have y13:((k:Int)==13)=false:=by rw[beq_eq_false_iff_ne];omega
    have y13':((k:Int)=13)=False:=by apply eq_false;omega
    rw[qlK h13] at hr
    rw[hr]
    clear hr hTd hge hbt
    by_cases h7:k=7
    ·subst h7
     go_enter Tryz.func46,Tryz.ntmps46
     go_wp2_with(first
      |(go_at_call 63;refine(Hpl.out _).mono ?_;rintro e w3 ⟨rfl,hb3⟩;have oa:=qaD (x:=.int .i64 (7:Int)) (y:=.string (T)) HL.out HO.out hb3;have c1:=oa.c1;have c2:=oa.c2;have c3:=oa.c3;have x10:=qa c1 (o:=0) rfl;have f10:=frozen_of_row (w3.alloc (.cells #[.int .i64 (7:Int),.string (T)] 60)) (w.heap.size) 0 _ _ c1;have x11:=qa c1 (o:=1) rfl;have f11:=frozen_of_row (w3.alloc (.cells #[.int .i64 (7:Int),.string (T)] 60)) (w.heap.size) 1 _ _ c1;have x12:=qa c1 (o:=2) rfl;have f12:=frozen_of_row (w3.alloc (.cells #[.int .i64 (7:Int),.string (T)] 60)) (w.heap.size) 2 _ _ c1;have x13:=qa c1 (o:=3) rfl;have f13:=frozen_of_row (w3.alloc (.cells #[.int .i64 (7:Int),.string (T)] 60)) (w.heap.size) 3 _ _ c1;have x14:=qa c1 (o:=4) rfl;have f14:=frozen_of_row (w3.alloc (.cells #[.int .i64 (7:Int),.string (T)] 60)) (w.heap.size) 4 _ _ c1;have x15:=qa c1 (o:=5) rfl;have f15:=frozen_of_row (w3.alloc (.cells #[.int .i64 (7:Int),.string (T)] 60)) (w.heap.size) 5 _ _ c1;have x20:=qa c2 (o:=0) rfl;have f20:=frozen_of_row (w3.alloc (.cells #[.int .i64 (7:Int),.string (T)] 60)) (w.heap.size+1) 0 _ _ c2;have x21:=qa c2 (o:=1) rfl;have f21:=frozen_of_row (w3.alloc (.cells #[.int .i64 (7:Int),.string (T)] 60)) (w.heap.size+1) 1 _ _ c2;have x22:=qa c2 (o:=2) rfl;have f22:=frozen_of_row (w3.alloc (.cells #[.int .i64 (7:Int),.string (T)] 60)) (w.heap.size+1) 2 _ _ c2;have x23:=qa c2 (o:=3) rfl;have f23:=frozen_of_row (w3.alloc (.cells #[.int .i64 (7:Int),.string (T)] 60)) (w.heap.size+1) 3 _ _ c2;have x24:=qa c2 (o:=4) rfl;have f24:=frozen_of_row (w3.alloc (.cells #[.int .i64 (7:Int),.string (T)] 60)) (w.heap.size+1) 4 _ _ c2;have x25:=qa c2 (o:=5) rfl;have f25:=frozen_of_row (w3.alloc (.cells #[.int .i64 (7:Int),.string (T)] 60)) (w.heap.size+1) 5 _ _ c2;have x30:=qa c3 (o:=0) rfl;have f30:=frozen_of_row (w3.alloc (.cells #[.int .i64 (7:Int),.string (T)] 60)) (w3.heap.size) 0 _ _ c3;have x31:=qa c3 (o:=1) rfl;have f31:=frozen_of_row (w3.alloc (.cells #[.int .i64 (7:Int),.string (T)] 60)) (w3.heap.size) 1 _ _ c3;obtain⟨kt,ft,_⟩:=qca (u:=0) oa.ho;have OA:=qh oa;clear c1 c2 c3 oa hb3)
      |(go_at_call 62;have hOA:=OA.out.lex 4 (.bool true);refine Calls.mono (qaU s at' (.slice p n cap) (.slice (some ⟨g,0,none⟩) (rest.length+1) cO) true 0 7 T _ base n xs ?_ ?_ ?_ ?_ ?_ ⟨_,_,_,rfl⟩) ?_;exact hOA.hp;omega;omega;omega;exact Nat.le_trans hb hOA.kw.size;rintro e w4 ⟨v',rfl,ho4,hk4⟩;have h4:=hk4.heap (show(_:World).heap[w.heap.size+1]? =_ from hOA.c2) (fun e=>by have:=(HL.out.lt _ e.symm).2;omega);obtain⟨y20,g20,y21,g21,y22,g22,y23,g23,y24,g24,y25,g25⟩:=tcf6 h4;have HOA:=qh hOA;have Ho4:=qh ho4;have Hk4:=qh hk4;obtain⟨q,c,rfl,_⟩:=qP ho4;clear h4 ho4 hk4 hOA;unfold LV))
     obtain⟨e6,o6,k6,h4⟩:=qas (b0:=.string s) (b1:=.int .i64 ((at':Int)+(m:Int))) (b2:=.slice q (n+1) c) (b3:=(.slice (some ⟨g,0,none⟩) (rest.length+1) cO)) (b4:=.bool true) (b5:=.int .i64 0) HL.out HOA.out.kw HOA.out.sz HOA.out.c2 Hk4.out Ho4.out
     have oO:=qaw (w:=w) (b0:=.string s) (b1:=.int .i64 ((at':Int)+(m:Int))) (b2:=.slice q (n+1) c) (b3:=(.slice (some ⟨g,0,none⟩) (rest.length+1) cO)) (b4:=.bool true) (b5:=.int .i64 0) HOA.out.hp HOA.out.ho Hk4.out h4
     obtain⟨q0,q1,q2,q3,q4,q5⟩:=tcc6 e6
     rw[←HTe.out] at o6
     refine bodyPost_ret (v:=.agg #[.string s,.int .i64 ((at':Int)+(m:Int)),.slice q (n+1) c,(.slice (some ⟨g,0,none⟩) (rest.length+1) cO),.bool true,.int .i64 0]) (by simp[results,Tryz.results46,go_sem,q0,q1,q2,q3,q4,q5]) rfl ⟨.slice q (n+1) c,(.slice (some ⟨g,0,none⟩) (rest.length+1) cO),?_,?_,?_,?_⟩
     ·exact congrArg Ending.returned (lvm s at' m _ _ _).symm
     ·exact o6
     ·exact oO
     ·exact k6
    ·have y7:((k:Int)==7)=false:=by rw[beq_eq_false_iff_ne];omega
     have y7':((k:Int)=7)=False:=by apply eq_false;omega
     rw[show(k==7)=false from beq_eq_false_iff_ne.2 h7]
     go_enter Tryz.func46,Tryz.ntmps46
     go_wp2_with(first
      |(go_at_call 63;refine(Hpl.out _).mono ?_;rintro e w3 ⟨rfl,hb3⟩;have oa:=qaD (x:=.int .i64 (k:Int)) (y:=.string (T)) HL.out HO.out hb3;have c1:=oa.c1;have c2:=oa.c2;have c3:=oa.c3;have x10:=qa c1 (o:=0) rfl;have f10:=frozen_of_row (w3.alloc (.cells #[.int .i64 (k:Int),.string (T)] 60)) (w.heap.size) 0 _ _ c1;have x11:=qa c1 (o:=1) rfl;have f11:=frozen_of_row (w3.alloc (.cells #[.int .i64 (k:Int),.string (T)] 60)) (w.heap.size) 1 _ _ c1;have x12:=qa c1 (o:=2) rfl;have f12:=frozen_of_row (w3.alloc (.cells #[.int .i64 (k:Int),.string (T)] 60)) (w.heap.size) 2 _ _ c1;have x13:=qa c1 (o:=3) rfl;have f13:=frozen_of_row (w3.alloc (.cells #[.int .i64 (k:Int),.string (T)] 60)) (w.heap.size) 3 _ _ c1;have x14:=qa c1 (o:=4) rfl;have f14:=frozen_of_row (w3.alloc (.cells #[.int .i64 (k:Int),.string (T)] 60)) (w.heap.size) 4 _ _ c1;have x15:=qa c1 (o:=5) rfl;have f15:=frozen_of_row (w3.alloc (.cells #[.int .i64 (k:Int),.string (T)] 60)) (w.heap.size) 5 _ _ c1;have x20:=qa c2 (o:=0) rfl;have f20:=frozen_of_row (w3.alloc (.cells #[.int .i64 (k:Int),.string (T)] 60)) (w.heap.size+1) 0 _ _ c2;have x21:=qa c2 (o:=1) rfl;have f21:=frozen_of_row (w3.alloc (.cells #[.int .i64 (k:Int),.string (T)] 60)) (w.heap.size+1) 1 _ _ c2;have x22:=qa c2 (o:=2) rfl;have f22:=frozen_of_row (w3.alloc (.cells #[.int .i64 (k:Int),.string (T)] 60)) (w.heap.size+1) 2 _ _ c2;have x23:=qa c2 (o:=3) rfl;have f23:=frozen_of_row (w3.alloc (.cells #[.int .i64 (k:Int),.string (T)] 60)) (w.heap.size+1) 3 _ _ c2;have x24:=qa c2 (o:=4) rfl;have f24:=frozen_of_row (w3.alloc (.cells #[.int .i64 (k:Int),.string (T)] 60)) (w.heap.size+1) 4 _ _ c2;have x25:=qa c2 (o:=5) rfl;have f25:=frozen_of_row (w3.alloc (.cells #[.int .i64 (k:Int),.string (T)] 60)) (w.heap.size+1) 5 _ _ c2;have x30:=qa c3 (o:=0) rfl;have f30:=frozen_of_row (w3.alloc (.cells #[.int .i64 (k:Int),.string (T)] 60)) (w3.heap.size) 0 _ _ c3;have x31:=qa c3 (o:=1) rfl;have f31:=frozen_of_row (w3.alloc (.cells #[.int .i64 (k:Int),.string (T)] 60)) (w3.heap.size) 1 _ _ c3;obtain⟨kt,ft,_⟩:=qca (u:=0) oa.ho;have OA:=qh oa;clear c1 c2 c3 oa hb3)
      |(go_at_call 62;have hOA:=OA.out;refine Calls.mono (qaU s at' (.slice p n cap) (.slice (some ⟨g,0,none⟩) (rest.length+1) cO) false 0 k T _ base n xs ?_ ?_ ?_ ?_ ?_ ⟨_,_,_,rfl⟩) ?_;exact hOA.hp;omega;omega;omega;exact Nat.le_trans hb hOA.kw.size;rintro e w4 ⟨v',rfl,ho4,hk4⟩;have h4:=hk4.heap (show(_:World).heap[w.heap.size+1]? =_ from hOA.c2) (fun e=>by have:=(HL.out.lt _ e.symm).2;omega);obtain⟨y20,g20,y21,g21,y22,g22,y23,g23,y24,g24,y25,g25⟩:=tcf6 h4;have HOA:=qh hOA;have Ho4:=qh ho4;have Hk4:=qh hk4;obtain⟨q,c,rfl,_⟩:=qP ho4;clear h4 ho4 hk4 hOA;unfold LV))
     obtain⟨e6,o6,k6,h4⟩:=qas (b0:=.string s) (b1:=.int .i64 ((at':Int)+(m:Int))) (b2:=.slice q (n+1) c) (b3:=(.slice (some ⟨g,0,none⟩) (rest.length+1) cO)) (b4:=.bool false) (b5:=.int .i64 0) HL.out HOA.out.kw HOA.out.sz HOA.out.c2 Hk4.out Ho4.out
     have oO:=qaw (w:=w) (b0:=.string s) (b1:=.int .i64 ((at':Int)+(m:Int))) (b2:=.slice q (n+1) c) (b3:=(.slice (some ⟨g,0,none⟩) (rest.length+1) cO)) (b4:=.bool false) (b5:=.int .i64 0) HOA.out.hp HOA.out.ho Hk4.out h4
     obtain⟨q0,q1,q2,q3,q4,q5⟩:=tcc6 e6
     rw[←HTe.out] at o6
     refine bodyPost_ret (v:=.agg #[.string s,.int .i64 ((at':Int)+(m:Int)),.slice q (n+1) c,(.slice (some ⟨g,0,none⟩) (rest.length+1) cO),.bool false,.int .i64 0]) (by simp[results,Tryz.results46,go_sem,q0,q1,q2,q3,q4,q5]) rfl ⟨.slice q (n+1) c,(.slice (some ⟨g,0,none⟩) (rest.length+1) cO),?_,?_,?_,?_⟩
     ·exact congrArg Ending.returned (lvm s at' m _ _ _).symm
     ·exact o6
     ·exact oO
     ·exact k6
end Go.Proofs.YtakbenifinnpfaaGreatDoor
namespace Go.Proofs.YtakbenifinnpfaaGreatDoor
open Go.RowKit Go.Sub
theorem qlZ{l:List UInt8}{ys:List Tok3}{a:Nat}{st:List Nat}{inn:Bool}(h:qb5 l ys a st inn)(ha:a=l.length):lexN (l.length+1) l 0 [] false=(ys,(if inn|| !st.isEmpty then 13 else 0),l.length):=by
 obtain⟨f1,f2,f3,f4⟩:=qaM h
 have e:lexN (l.length-ys.length+1) l a st inn=([],(if inn|| !st.isEmpty then 13 else 0),l.length):=by rw[lexN,if_pos (by omega),ha]
 have hr:=qgD h (l.length-ys.length+1)
 rw[e,show ys.length+(l.length-ys.length+1)=l.length+1 by omega] at hr
 rw[hr];simp
theorem qmp{l:List UInt8}{ys:List Tok3}{a:Nat}{st:List Nat}{inn:Bool}{er:Nat}(h:qb5 l ys a st inn)(ha:a<l.length)(he:(qb7 (l.drop a) st inn).2.2.2.2=er)(h0:er≠0):lexN (l.length+1) l 0 [] false=(ys,er,a):=by
 obtain⟨f1,f2,f3,f4⟩:=qaM h
 have e:lexN (l.length-ys.length+1) l a st inn=([],er,a):=by
  generalize hs:qb7 (l.drop a) st inn=r at he
  obtain⟨k,n,st3,inn3,e⟩:=r
  dsimp only at he
  subst he
  cases e with
  |zero=>exact absurd rfl h0
  |succ e=>rw[lexN,if_neg (by omega),hs]
 have hr:=qgD h (l.length-ys.length+1)
 rw[e,show ys.length+(l.length-ys.length+1)=l.length+1 by omega] at hr
 rw[hr];simp
structure RSt(w:World)(B:Nat)(s:ByteArray)(ys:List Tok3)(a:Nat)(st:List Nat)(inn:Bool)(vL vO:Value)(er:Nat)(W:World):Prop where
 blk:W.heap[B]? =some (.cells #[.string s,.int .i64 (a:Int),vL,vO,.bool inn,.int .i64 (er:Int)] 73 (0,0))
 rL:W.ownsRow w.heap.size 60 2 vL ys.length (tokC s.data.toList ys)
 rO:W.ownsRow w.heap.size 3 1 vO st.length (qah st)
 bel:Below w.heap.size w W
 hB:w.heap.size≤B
theorem RSt.keep{w W W2:World}{B:Nat}{s:ByteArray}{ys:List Tok3}{a:Nat}{st:List Nat}{inn:Bool}{vL vO:Value}{er:Nat}(h:RSt w B s ys a st inn vL vO er W)(k:qe (fun b=>some b=vL.ownBlock) W W2):
  W2.heap[B]? =some (.cells #[.string s,.int .i64 (a:Int),vL,vO,.bool inn,.int .i64 (er:Int)] 73 (0,0))∧Below w.heap.size w W2:=by
 refine⟨k.heap h.blk fun e=>?_,h.bel.trans (k.below h.bel.size fun b hb=>(h.rL.lt b hb.symm).1)⟩
 obtain⟨cur,hd⟩:=qbG h.rL e
 have hb:=h.blk
 rw[hd] at hb
 simp only[Option.some.injEq,Obj.cells.injEq] at hb
 exact absurd hb.2.1 (by decide)
theorem RSt.next{w W2:World}{B:Nat}{s:ByteArray}{ys2:List Tok3}{a2:Nat}{st2:List Nat}{inn2:Bool}{vL2 vO2:Value}{er2:Nat}{c:Array Value}{c0 c1 c2 c3 c4 c5:Value}(hc:c= #[c0,c1,c2,c3,c4,c5])(hb:W2.heap[B]? =some (.cells c 73 (0,0)))(bel:Below w.heap.size w W2)(hB:w.heap.size≤B)
  (rL:W2.ownsRow w.heap.size 60 2 vL2 ys2.length (tokC s.data.toList ys2))(rO:W2.ownsRow w.heap.size 3 1 vO2 st2.length (qah st2)){x:Value}(hx:x=.int .i64 (a2:Int)){y:Value}(hy:y=.int .i64 (er2:Int)):
  RSt w B s ys2 a2 st2 inn2 vL2 vO2 er2 ((((((W2.setCell ⟨B,0,none⟩ (.string s)).setCell ⟨B,1,none⟩ x).setCell ⟨B,2,none⟩ vL2).setCell ⟨B,3,none⟩ vO2).setCell ⟨B,4,none⟩ (.bool inn2)).setCell ⟨B,5,none⟩ y):=by
 subst hc hx hy
 have k:=qdy W2 B (.string s) (.int .i64 (a2:Int)) vL2 vO2 (.bool inn2) (.int .i64 (er2:Int)) (O:=fun b=>b=B) rfl
 have ap:∀{e:TypeId} {sz:Nat} {v:Value} {q:Nat} {zs:List Value},W2.ownsRow w.heap.size e sz v q zs→e≠73→∀g,some g=v.ownBlock→¬g=B:=fun h he g hg e=>by
  obtain⟨cur,hd⟩:=qbG h hg
  rw[e,hb] at hd
  simp only[Option.some.injEq,Obj.cells.injEq] at hd
  exact he hd.2.1.symm
 exact⟨qf8 hb,qr rL k (ap rL (by decide)),qr rO k (ap rO (by decide)),bel.trans (k.below bel.size fun b h=>by omega),hB⟩
def RNext(w wr:World)(s:ByteArray)(vL:Value)(ys2:List Tok3)(a2:Nat)(st2:List Nat)(inn2:Bool)(er2:Nat)(e:Ending)(w':World):Prop:=
 ∃vL' vO',e=.returned (LV s a2 vL' vO' inn2 er2)∧w'.ownsRow w.heap.size 60 2 vL' ys2.length (tokC s.data.toList ys2)∧w'.ownsRow w.heap.size 3 1 vO' st2.length (qah st2)∧qe (fun b=>some b=vL.ownBlock) wr w'
def RFact(s:ByteArray)(ys:List Tok3)(a:Nat)(st:List Nat)(inn:Bool)(er:Nat):Prop:=
 (er=0∧qb5 s.data.toList ys a st inn)∨(er≠0∧∃st0 inn0,qb5 s.data.toList ys a st0 inn0∧a<s.size∧(qb7 (s.data.toList.drop a) st0 inn0).2.2.2.2=er)
theorem qgb{F:FuncId}{args:Array Value}{w wr:World}{s:ByteArray}{ys:List Tok3}{a:Nat}{st:List Nat}{inn:Bool}{vL:Value}(hr:qb5 s.data.toList ys a st inn)(hlt:a<s.size)
  (hc:Calls Tryz.prog F args wr (RStep wr w.heap.size s a vL (tokC s.data.toList ys) ys.length (qb7 (s.data.toList.drop a) st inn))):
  ∃ys2 a2 st2 inn2 er2,Calls Tryz.prog F args wr (RNext w wr s vL ys2 a2 st2 inn2 er2)∧RFact s ys2 a2 st2 inn2 er2∧((er2=0∧a<a2)∨(er2≠0∧a2=a))∧a2≤s.size:=by
 have hsz:=Lib.size_eq s
 generalize hs:qb7 (s.data.toList.drop a) st inn=r at hc
 obtain⟨k,n,st2,inn2,e⟩:=r
 cases e with
 |zero=>
  have h2:qb5 s.data.toList (ys++[(k,a,n)]) (a+n) st2 inn2:=.snoc hr (by omega) hs
  have hf:=qaM h2
  have hg:=(qaM hr)
  have hn:0<n:=by
   have hg:=qcY (s.data.toList.drop a) st inn a (fun e=>by have:=congrArg List.length e;rw[List.length_drop] at this;simp at this;omega) hg.2.1 hg.2.2.1
   rw[hs] at hg
   exact(hg rfl).1
  refine⟨_,a+n,st2,inn2,0,hc.mono ?_,.inl ⟨rfl,h2⟩,.inl ⟨rfl,by omega⟩,by omega⟩
  rintro e w' ⟨vL',vO',rfl,o1,o2,hk⟩
  refine⟨vL',vO',rfl,?_,o2,hk⟩
  rw[qkX,List.length_append]
  exact o1
 |succ e=>
  refine⟨ys,a,st2,inn2,e+1,hc.mono ?_,.inr ⟨Nat.succ_ne_zero _,st,inn,hr,hlt,by rw[hs]⟩,.inr ⟨Nat.succ_ne_zero _,rfl⟩,by omega⟩
  rintro e w' ⟨vL',vO',rfl,o1,o2,hk⟩
  exact⟨vL',vO',rfl,o1,o2,hk⟩
theorem meas1{S a a2 e2:Nat}(h:(e2=0∧a<a2)∨(e2≠0∧a2=a))(h2:a2≤S)(h3:a<S):
  (S-qcI (some (.int .i64 (a2:Int))))+(if qcI (some (.int .i64 (e2:Int)))=0 then 1 else 0)<(S-qcI (some (.int .i64 (a:Int))))+(if qcI (some (.int .i64 ((0:Nat):Int)))=0 then 1 else 0):=by
 simp only[qcI,Int.toNat_natCast]
 rcases h with⟨rfl,h⟩|⟨h,rfl⟩
 ·simp;omega
 ·simp[h]
def RPost(s:ByteArray)(w:World)(r:List Tok3×Nat×Int)(e:Ending)(w':World):Prop:=
 ∃v,e=.returned (.tuple #[v,.int .i64 (r.2.1:Int),.int .i64 r.2.2])∧w'.ownsRow w.heap.size 60 2 v r.1.length (tokC s.data.toList r.1)∧Below w.heap.size w w'
theorem qhj(s:ByteArray)(w:World)(hs:s.size<4611686018427387904):
  Calls Tryz.prog 31 #[.string s] w (RPost s w (qS s)):=by
 by_cases h1:65536<s.size
 ·have hr:qS s=([],3,0):=by unfold qS;rw[if_pos h1]
  rw[hr]
  go_enter Tryz.func31,Tryz.ntmps31
  go_wp2
  exact bodyPost_ret (v:=.tuple #[.slice none 0 0,.int .i64 3,.int .i64 0]) (by simp[results,Tryz.results31,go_sem]) rfl ⟨_,rfl,World.ownsRow_nil _ _ _ _,Below.refl _ _⟩
 ·have hck:=qiv s w hs
  by_cases h2:0≤qV s 0
  ·have hr:qS s=([],10,qV s 0):=by unfold qS;rw[if_neg h1,if_pos h2]
   rw[hr]
   have Hck:=qh hck
   generalize qV s 0=k at*
   clear hck hr
   go_enter Tryz.func31,Tryz.ntmps31
   go_wp2_with(go_at_call 44;refine(Hck.out).mono ?_;rintro e w' ⟨rfl,hb⟩)
   exact bodyPost_ret (v:=.tuple #[.slice none 0 0,.int .i64 10,.int .i64 k]) (by simp[results,Tryz.results31,go_sem]) rfl ⟨_,rfl,World.ownsRow_nil _ _ _ _,hb⟩
  ·have hr:qS s=if(lexN (s.size+1) s.data.toList 0 [] false).2.1=0 then((lexN (s.size+1) s.data.toList 0 [] false).1,0,0)
     else([],(lexN (s.size+1) s.data.toList 0 [] false).2.1,((lexN (s.size+1) s.data.toList 0 [] false).2.2:Int)):=by unfold qS;rw[if_neg h1,if_neg h2]
   have Hr:=qh hr
   have Hck:=qh hck
   have Hsz:=qh (Lib.size_eq s)
   have hs2:s.size≤65536:=by omega
   generalize qV s 0=kk at*
   clear hck hr
   go_enter Tryz.func31,Tryz.ntmps31
   go_wp2_with(go_at_call 44;refine(Hck.out).mono ?_;rintro e w1 ⟨rfl,hb⟩;have Hb:=qh hb;clear hb)
   have hst0:RSt w w1.heap.size s [] 0 [] false (.slice none 0 0) (.slice none 0 0) 0 (w1.alloc (.cells #[.string s,.int .i64 0,.slice none 0 0,.slice none 0 0,.bool false,.int .i64 0] 73)):=
    ⟨World.alloc_heap_new _ _,World.ownsRow_nil _ _ _ _,World.ownsRow_nil _ _ _ _,Hb.out.trans (((Below.refl _ _).alloc (Nat.le_refl _) _).mono Hb.out.size),Hb.out.size⟩
   go_loopw [] (fun wr=>∃(ys:List Tok3) (a:Nat) (st:List Nat) (inn:Bool) (vL vO:Value) (er:Nat),Hid (RSt w w1.heap.size s ys a st inn vL vO er wr)∧Hid (RFact s ys a st inn er))
    (fun wr=>(s.size-qcI (wr.cell? ⟨w1.heap.size,1,none⟩))+(if qcI (wr.cell? ⟨w1.heap.size,5,none⟩)=0 then 1 else 0))
   case atStart=>exact⟨[],0,[],false,_,_,0,qh hst0,qh (.inl ⟨rfl,.nil⟩)⟩
   case round=>
    clear hst0
    obtain⟨ys,a,st,inn,vL,vO,er,HS,HR⟩:=hrel
    obtain⟨p,cap,rfl,_⟩:=qP HS.out.rL
    obtain⟨pO,cO,rfl,_⟩:=qP HS.out.rO
    have hblk:=HS.out.blk
    obtain⟨x10,f10,x11,f11,x12,f12,x13,f13,x14,f14,x15,f15⟩:=tcf6 hblk
    clear hblk
    rcases HR.out with⟨rfl,hreach⟩|⟨he,st0,inn0,hreach,hat,hstep⟩
    ·obtain⟨r1,r2,r3,r4⟩:=qaM hreach
     rw[←Hsz.out] at r1
     by_cases hlt:a<s.size
     ·cases inn
      ·have hc:=qg1 s a (.slice p ys.length cap) (.slice pO st.length cO) st wr w.heap.size ys.length _ HS.out.rL HS.out.rO (by omega) hlt hs2 r2 (fun x hx=>by have:=r3 x hx;omega) HS.out.bel.size
       obtain⟨ys2,a2,st2,inn2,er2,hc2,hf2,hm2,hle2⟩:=qgb (w:=w) (inn:=false) hreach hlt hc
       have HC:=qh hc2
       have HF:=qh hf2
       clear hc hc2 hf2 hreach HR
       unfold LV at HC
       go_wp2_with(go_at_call 46;refine(HC.out).mono ?_;rintro e w2 ⟨vL',vO',rfl,o1,o2,hk⟩;obtain⟨hb2,hbel2⟩:=HS.out.keep hk;obtain⟨q1,c1,rfl,_⟩:=qP o1;obtain⟨q2,c2,rfl,_⟩:=qP o2;obtain⟨x20,f20,x21,f21,x22,f22,x23,f23,x24,f24,x25,f25⟩:=tcf6 hb2;have O1:=qh o1;have O2:=qh o2;have HB2:=qh hb2;have HBL2:=qh hbel2;clear o1 o2 hk hb2 hbel2;unfold LV)
       have hnx:=RSt.next (w:=w) (s:=s) (ys2:=ys2) (a2:=a2) (er2:=er2) (inn2:=inn2) rfl HB2.out HBL2.out Hb.out.size O1.out O2.out rfl rfl
       have m1:_=some (Value.int .i64 (a2:Int)):=qa hnx.blk (o:=1) rfl
       have m5:_=some (Value.int .i64 (er2:Int)):=qa hnx.blk (o:=5) rfl
       have HN:=qh hnx
       clear hnx
       go_roundw
       case rel=>exact⟨ys2,a2,st2,inn2,_,_,er2,HN,HF⟩
       case measure=>
        rw[m1,m5,x11,x15]
        exact meas1 hm2 hle2 hlt
      ·have hc:=qhr s a (.slice p ys.length cap) (.slice pO st.length cO) st wr w.heap.size ys.length _ HS.out.rL HS.out.rO (by omega) hlt hs2 r2 HS.out.bel.size
       obtain⟨ys2,a2,st2,inn2,er2,hc2,hf2,hm2,hle2⟩:=qgb (w:=w) (inn:=true) hreach hlt hc
       have HC:=qh hc2
       have HF:=qh hf2
       clear hc hc2 hf2 hreach HR
       unfold LV at HC
       go_wp2_with(go_at_call 45;refine(HC.out).mono ?_;rintro e w2 ⟨vL',vO',rfl,o1,o2,hk⟩;obtain⟨hb2,hbel2⟩:=HS.out.keep hk;obtain⟨q1,c1,rfl,_⟩:=qP o1;obtain⟨q2,c2,rfl,_⟩:=qP o2;obtain⟨x20,f20,x21,f21,x22,f22,x23,f23,x24,f24,x25,f25⟩:=tcf6 hb2;have O1:=qh o1;have O2:=qh o2;have HB2:=qh hb2;have HBL2:=qh hbel2;clear o1 o2 hk hb2 hbel2;unfold LV)
       have hnx:=RSt.next (w:=w) (s:=s) (ys2:=ys2) (a2:=a2) (er2:=er2) (inn2:=inn2) rfl HB2.out HBL2.out Hb.out.size O1.out O2.out rfl rfl
       have m1:_=some (Value.int .i64 (a2:Int)):=qa hnx.blk (o:=1) rfl
       have m5:_=some (Value.int .i64 (er2:Int)):=qa hnx.blk (o:=5) rfl
       have HN:=qh hnx
       clear hnx
       go_roundw
       case rel=>exact⟨ys2,a2,st2,inn2,_,_,er2,HN,HF⟩
       case measure=>
        rw[m1,m5,x11,x15]
        exact meas1 hm2 hle2 hlt
     ·have hae:a=s.size:=by omega
      subst hae
      have htold:=qlZ hreach Hsz.out
      rw[←Hsz.out] at htold
      have Ht:=qh htold
      clear htold hreach
      cases inn
      ·cases st with
       |nil=>
        go_wp2
        rw[Hr.out,Ht.out]
        exact bodyPost_ret (v:=.tuple #[_,.int .i64 0,.int .i64 0]) (by simp[results,Tryz.results31,go_sem]) rfl ⟨_,rfl,HS.out.rL,HS.out.bel⟩
       |cons t rest=>
        go_wp2
        rw[Hr.out,Ht.out]
        exact bodyPost_ret (v:=.tuple #[.slice none 0 0,.int .i64 13,.int .i64 (s.size:Int)]) (by simp[results,Tryz.results31,go_sem]) rfl ⟨_,rfl,World.ownsRow_nil _ _ _ _,HS.out.bel⟩
      ·go_wp2
       rw[Hr.out,Ht.out]
       exact bodyPost_ret (v:=.tuple #[.slice none 0 0,.int .i64 13,.int .i64 (s.size:Int)]) (by simp[results,Tryz.results31,go_sem]) rfl ⟨_,rfl,World.ownsRow_nil _ _ _ _,HS.out.bel⟩
    ·have y1:((er:Int)==0)=false:=by rw[beq_eq_false_iff_ne];omega
     have y2:((er:Int) != 0)=true:=by rw[bne_iff_ne];omega
     have y3:((er:Int)=0)=False:=by apply eq_false;omega
     have htold:=qmp hreach (by rw[←Hsz.out];exact hat) hstep he
     rw[←Hsz.out] at htold
     have Ht:=qh htold
     clear htold hstep hreach
     go_wp2
     go_quiet (fail)
     go_wp2
     rw[Hr.out,Ht.out,if_neg he]
     exact bodyPost_ret (v:=.tuple #[.slice none 0 0,.int .i64 (er:Int),.int .i64 (a:Int)]) (by simp[results,Tryz.results31,go_sem]) rfl ⟨_,rfl,World.ownsRow_nil _ _ _ _,by first|exact HS.out.bel|exact below_drewN HS.out.bel _⟩
def sumT(xs:List TokB):Nat:=(xs.map fun x=>1+x.2.size).sum
theorem sumT_le(xs:List TokB)(n:Nat):sumT (xs.take n)≤sumT xs:=by
 have h:sumT xs=sumT (xs.take n)+sumT (xs.drop n):=by
  unfold sumT
  rw[←List.sum_append,←List.map_append,List.take_append_drop]
 omega
theorem qeM:∀xs:List TokB,xs.length+(qd7 xs).length =sumT xs
 |[]=>rfl
 |x::xs=>by
  have ih:=qeM xs
  have e1:sumT (x::xs)=1+x.2.size+sumT xs:=rfl
  have e2:(qd7 (x::xs)).length =x.2.size+(qd7 xs).length :=by
   unfold qd7
   rw[List.map_cons,List.flatten_cons,List.length_append,Lib.size_eq]
  rw[e1,e2,List.length_cons];omega
theorem qmB(l:List UInt8)(st:List Nat)(inn:Bool):(qb7 l st inn).2.2.2.2≤21:=by
 unfold qb7
 split
 ·unfold insN
  repeat' split
  all_goals simp
 ·unfold outN
  split<;>simp
theorem qhL:∀(F:Nat) (l:List UInt8) (a:Nat) (st:List Nat) (inn:Bool),(lexN F l a st inn).2.1≤99
 |0,_,_,_,_=>Nat.le_refl _
 |F+1,l,a,st,inn=>by
  unfold lexN
  split
  ·dsimp only
   split<;>omega
  ·have h:=qmB (l.drop a) st inn
   generalize qb7 (l.drop a) st inn=r at h
   obtain⟨k,n,st2,inn2,e⟩:=r
   cases e with
   |zero=>exact qhL F l _ _ _
   |succ e=>dsimp only at h⊢;omega
theorem qhw(s:ByteArray):(qS s).2.1≤99∧(qS s).1.length ≤s.size:=by
 unfold qS
 split
 ·exact⟨by decide,by simp⟩
 ·split
  ·exact⟨by show 10≤99;omega,by simp⟩
  ·obtain⟨ys,b,st2,inn2,er,h1,h2,h3⟩:=qgM s.data.toList
   have he:=qhL (s.data.toList.length+1) s.data.toList 0 [] false
   rw[←Lib.size_eq] at h2 he
   have hf:=qaM h1
   rw[←Lib.size_eq] at hf
   rw[h2] at he⊢
   split
   ·exact⟨by simp,by dsimp only;omega⟩
   ·exact⟨he,by simp⟩
theorem qhU(k:Int)(s:ByteArray)(w:World):
  Calls Tryz.prog 47 #[.agg #[.int .i64 k,.string s]] w fun e w'=>e=.returned (.bool (decide (k≠1∧k≠2)))∧Below w.heap.size w w':=by
 by_cases h1:k=1
 ·rw[show decide (k≠1∧k≠2)=false from decide_eq_false (fun e=>e.1 h1)]
  subst h1
  go_enter Tryz.func47,Tryz.ntmps47
  go_wp2
  go_ret
  exact⟨rfl,(Below.refl _ _).alloc (Nat.le_refl _) _⟩
 ·have y1:(k==1)=false:=beq_eq_false_iff_ne.2 h1
  have y2:(k != 1)=true:=bne_iff_ne.2 h1
  by_cases h2:k=2
  ·rw[show decide (k≠1∧k≠2)=false from decide_eq_false (fun e=>e.2 h2)]
   subst h2
   go_enter Tryz.func47,Tryz.ntmps47
   go_wp2
   go_ret
   exact⟨rfl,(Below.refl _ _).alloc (Nat.le_refl _) _⟩
  ·have y3:(k != 2)=true:=bne_iff_ne.2 h2
   rw[show decide (k≠1∧k≠2)=true from decide_eq_true ⟨h1,h2⟩]
   go_enter Tryz.func47,Tryz.ntmps47
   go_wp2
   go_ret
   exact⟨rfl,(Below.refl _ _).alloc (Nat.le_refl _) _⟩
def Two(W:World)(B:Nat)(a b:TokB):Prop:=W.cell? ⟨B,0,none⟩=some (.int .i64 a.1)∧W.cell? ⟨B,1,none⟩=some (.string a.2)∧W.cell? ⟨B+1,0,none⟩=some (.int .i64 b.1)∧W.cell? ⟨B+1,1,none⟩=some (.string b.2)
theorem Two.below{W W':World}{B:Nat}{a b:TokB}(h:Two W B a b)(hb:Below W.heap.size W W'):Two W' B a b:=by
 have cc:∀{a:Addr} {c:Value},W.cell? a=some c→W'.cell? a=some c:=fun h=>(hb.cell (World.block_lt_of_cell? _ _ h)).trans h
 exact⟨cc h.1,cc h.2.1,cc h.2.2.1,cc h.2.2.2⟩
abbrev qa7:=TokB×Nat×List ByteArray
abbrev qc9:=List ByteArray×List qa7×Nat
def qbM:List qa7→ByteArray→List qa7
 |[],_=>[]
 |[x],s=>[(x.1,x.2.1,x.2.2++[s])]
 |x::y::r,s=>x::qbM (y::r) s
theorem qeP(s:ByteArray)(x:qa7):∀l:List qa7,qbM (l++[x]) s=l++[(x.1,x.2.1,x.2.2++[s])]
 |[]=>rfl
 |[y]=>rfl
 |y::z::r=>by
  have ih:=qeP s x (z::r)
  show y::qbM (z::(r++[x])) s=_
  rw[show z::(r++[x])=(z::r)++[x] from rfl,ih];rfl
theorem qdK(s:ByteArray):∀l:List qa7,(qbM l s).length =l.length
 |[]=>rfl
 |[_]=>rfl
 |x::y::r=>by
  show(qbM (y::r) s).length +1=(y::r).length +1
  rw[qdK s (y::r)]
def qai(st:qc9)(t:TokB):qc9:=
 (if t.1=2∧st.2.1=[] then st.1++[t.2] else st.1,
  if t.1=1 then st.2.1 else if t.1=2 then qbM st.2.1 t.2 else st.2.1++[(t,st.2.2,[])],
  st.2.2+t.2.size)
def qaz(xs:List TokB):qc9:=xs.foldl qai ([],[],0)
theorem qfy{xs:List TokB}{n:Nat}{x:TokB}(h:xs[n]? =some x):qaz (xs.take (n+1))=qai (qaz (xs.take n)) x:=by
 unfold qaz
 rw[List.take_add_one,h,Option.toList_some,List.foldl_append];rfl
theorem it_at:∀n (xs:List TokB),n≤xs.length→(qaz (xs.take n)).2.2=(qd7 (xs.take n)).length
 |0,_,_=>rfl
 |n+1,xs,h=>by
  obtain⟨x,hx⟩:∃x,xs[n]? =some x:=⟨_,List.getElem?_eq_getElem (by omega)⟩
  have ih:=it_at n xs (by omega)
  rw[qfy hx,qkb hx,List.length_append,←ih,←Lib.size_eq];rfl
end Go.Proofs.YtakbenifinnpfaaGreatDoor
namespace Go.Proofs.YtakbenifinnpfaaGreatDoor
open Go.RowKit Go.Sub
def itC(x:qa7)(u:Value):List Value:=[.int .i64 x.1.1,.string x.1.2,.int .i64 (x.2.1:Int),u]
def qa0:List qa7→List Value→List Value
 |x::xs,u::us=>itC x u++qa0 xs us
 |_,_=>[]
def strC(l:List ByteArray):List Value:=l.map .string
theorem qdb:∀(xs:List qa7) (us:List Value),us.length=xs.length→(qa0 xs us).length =xs.length*4
 |[],[],_=>rfl
 |x::xs,u::us,h=>by
  have ih:=qdb xs us (by simpa using h)
  rw[qa0,List.length_append,ih,List.length_cons]
  show 4+_=_
  omega
theorem qcO(x:qa7)(u:Value):∀(xs:List qa7) (us:List Value),us.length=xs.length→qa0 (xs++[x]) (us++[u])=qa0 xs us++itC x u
 |[],[],_=>rfl
 |y::xs,t::us,h=>by
  have ih:=qcO x u xs us (by simpa using h)
  show itC y t++qa0 (xs++[x]) (us++[u])=_
  rw[ih,←List.append_assoc];rfl
theorem qc3:∀{xs:List qa7} {us:List Value} {i:Nat} {x:qa7} {u:Value},xs[i]? =some x→us[i]? =some u→(qa0 xs us)[i*4]? =some (.int .i64 x.1.1)∧(qa0 xs us)[i*4+1]? =some (.string x.1.2)∧(qa0 xs us)[i*4+2]? =some (.int .i64 (x.2.1:Int))∧(qa0 xs us)[i*4+3]? =some u
 |[],_,i,x,u,h,_=>by simp at h
 |_::_,[],i,x,u,_,h=>by simp at h
 |y::xs,t::us,0,x,u,h,h2=>by
  obtain rfl:y=x:=by simpa using h
  obtain rfl:t=u:=by simpa using h2
  exact⟨rfl,rfl,rfl,rfl⟩
 |y::xs,t::us,i+1,x,u,h,h2=>by
  obtain⟨e0,e1,e2,e3⟩:=qc3 (xs:=xs) (us:=us) (i:=i) (x:=x) (u:=u) (by simpa using h) (by simpa using h2)
  have e:qa0 (y::xs) (t::us)=.int .i64 y.1.1::.string y.1.2::.int .i64 (y.2.1:Int)::t::qa0 xs us:=rfl
  have ee:∀r,(qa0 (y::xs) (t::us))[(i+1)*4+r]? =(qa0 xs us)[i*4+r]? :=fun r=>by
   rw[e,show(i+1)*4+r=(i*4+r)+1+1+1+1 by omega]
   simp only[List.getElem?_cons_succ]
  exact⟨by rw[←e0];exact ee 0,by rw[←e1];exact ee 1,by rw[←e2];exact ee 2,by rw[←e3];exact ee 3⟩
theorem row_set{w:World}{base g n cap size:Nat}{e:TypeId}{xs:List Value}(h:w.ownsRow base e size (.slice (some ⟨g,0,none⟩) n cap) n xs)(j:Nat)(hj:j<xs.length)(c:Value):
  w.frozen? ⟨g,j,none⟩=false∧(w.setCell ⟨g,j,none⟩ c).ownsRow base e size (.slice (some ⟨g,0,none⟩) n cap) n (xs.set j c):=by
 rcases h.2 with⟨h1,_⟩|⟨g',cap',cur,h1,h2,h3,h4,h5,h6,h7⟩
 ·cases h1
 ·cases h1
  refine⟨frozen_of_row w g _ _ _ h3,by rw[List.length_set];exact h.1,.inr ⟨g,cap,cur.setIfInBounds j c,rfl,h2,heap_setCell_same w g _ _ _ _ h3,h4,h5,by rw[Array.size_setIfInBounds];exact h6,?_⟩⟩
  rw[Array.toList_setIfInBounds,List.take_set,h7]
theorem qch{w:World}{b1 b2:Nat}{e1 e2:TypeId}{s1 s2:Nat}{v1 v2:Value}{n1 n2:Nat}{x1 x2:List Value}(h1:w.ownsRow b1 e1 s1 v1 n1 x1)(h2:w.ownsRow b2 e2 s2 v2 n2 x2)(he:e1≠e2):∀g,some g=v1.ownBlock→¬some g=v2.ownBlock:=by
 intro g hg hg2
 rcases h1.2 with⟨rfl,_⟩|⟨g1,c1,cur1,rfl,_,hb1,_⟩
 ·cases hg
 ·rcases h2.2 with⟨rfl,_⟩|⟨g2,c2,cur2,rfl,_,hb2,_⟩
  ·cases hg2
  ·cases hg;cases hg2
   rw[hb1] at hb2
   simp only[Option.some.injEq,Obj.cells.injEq] at hb2
   exact he hb2.2.1
structure qaj(w:World)(base:Nat)(e:TypeId)(v vl:Value)(st:qc9)(us:List Value):Prop where
 len:us.length=st.2.1.length
 row:w.ownsRow base e 4 v st.2.1.length (qa0 st.2.1 us)
 notes:∀(i:Nat) (x:qa7) (u:Value),st.2.1[i]? =some x→us[i]? =some u→w.ownsRow base 9 1 u x.2.2.length (strC x.2.2)
 apart:∀(i j:Nat) (u t:Value),i<j→us[i]? =some u→us[j]? =some t→∀g,some g=u.ownBlock→¬some g=t.ownBlock
 lead:w.ownsRow base 9 1 vl st.1.length (strC st.1)
 free:∀(i:Nat) (u:Value),us[i]? =some u→∀g,some g=vl.ownBlock→¬some g=u.ownBlock
variable {w w':World} {base:Nat} {e:TypeId} {v vl:Value} {st:qc9} {us:List Value}
theorem qaj.note_at(h:qaj w base e v vl st us){i:Nat}{u:Value}(hu:us[i]? =some u):∃x,st.2.1[i]? =some x∧w.ownsRow base 9 1 u x.2.2.length (strC x.2.2):=by
 have hi:i<st.2.1.length:=by rw[←h.len];exact(List.getElem?_eq_some_iff.1 hu).1
 obtain⟨x,hx⟩:∃x,st.2.1[i]? =some x:=⟨_,List.getElem?_eq_getElem hi⟩
 exact⟨x,hx,h.notes i x u hx hu⟩
theorem qaj.keeps(h:qaj w base e v vl st us){O:Nat→Prop}(k:qe O w w')(hv:∀g,some g=v.ownBlock→¬O g)(hl:∀g,some g=vl.ownBlock→¬O g)(hn:∀(i:Nat) (u:Value),us[i]? =some u→∀g,some g=u.ownBlock→¬O g):qaj w' base e v vl st us:=
 ⟨h.len,qr h.row k hv,fun i x u hx hu=>qr (h.notes i x u hx hu) k (hn i u hu),h.apart,qr h.lead k hl,h.free⟩
theorem qaj.start(w:World)(base:Nat)(e:TypeId):qaj w base e (.slice none 0 0) (.slice none 0 0) ([],[],0) []:=
 ⟨rfl,World.ownsRow_nil _ _ _ _,fun i x u h=>by simp at h,fun i j u t _ h=>by simp at h,World.ownsRow_nil _ _ _ _,fun i u h=>by simp at h⟩
theorem qaj.put(h:qaj w base e v vl st us)(he:e≠9){t:TokB}{v':Value}{at2:Nat}(hr:w'.ownsRow base e 4 v' (st.2.1.length+1) (qa0 st.2.1 us++itC (t,st.2.2,[]) (.slice none 0 0)))(hk:qe (fun b=>some b=v.ownBlock) w w'):
  qaj w' base e v' vl (st.1,st.2.1++[(t,st.2.2,[])],at2) (us++[.slice none 0 0]):=by
 refine⟨by simp[h.len],?_,?_,?_,qr h.lead hk fun g hg hg2=>qch h.row h.lead he g hg2 hg,?_⟩
 ·rw[qcO _ _ _ _ h.len,List.length_append];exact hr
 ·intro i x u hx hu
  by_cases hi:i<us.length
  ·rw[List.getElem?_append_left (by rw[←h.len];exact hi)] at hx
   rw[List.getElem?_append_left hi] at hu
   have hn:=h.notes i x u hx hu
   exact qr hn hk fun g hg hg2=>qch h.row hn he g hg2 hg
  ·have hj:i=us.length:=by
    have:=(List.getElem?_eq_some_iff.1 hu).1
    rw[List.length_append,List.length_singleton] at this
    omega
   rw[hj,List.getElem?_append_right (Nat.le_refl _),Nat.sub_self] at hu
   rw[hj,h.len,List.getElem?_append_right (Nat.le_refl _),Nat.sub_self] at hx
   obtain rfl:(t,st.2.2,[])=x:=by simpa using hx
   obtain rfl:Value.slice none 0 0=u:=by simpa using hu
   exact World.ownsRow_nil _ _ _ _
 ·intro i j u t2 hij hu ht g hg hg2
  by_cases hj:j<us.length
  ·rw[List.getElem?_append_left (by omega)] at hu
   rw[List.getElem?_append_left hj] at ht
   exact h.apart i j u t2 hij hu ht g hg hg2
  ·have hj2:j=us.length:=by
    have:=(List.getElem?_eq_some_iff.1 ht).1
    rw[List.length_append,List.length_singleton] at this
    omega
   rw[hj2,List.getElem?_append_right (Nat.le_refl _),Nat.sub_self] at ht
   obtain rfl:Value.slice none 0 0=t2:=by simpa using ht
   cases hg2
 ·intro i u hu g hg hg2
  by_cases hi:i<us.length
  ·rw[List.getElem?_append_left hi] at hu
   exact h.free i u hu g hg hg2
  ·have hj:i=us.length:=by
    have:=(List.getElem?_eq_some_iff.1 hu).1
    rw[List.length_append,List.length_singleton] at this
    omega
   rw[hj,List.getElem?_append_right (Nat.le_refl _),Nat.sub_self] at hu
   obtain rfl:Value.slice none 0 0=u:=by simpa using hu
   cases hg2
theorem qaj.ahead(h:qaj w base e v vl st us)(he:e≠9)(h0:st.2.1=[]){s:ByteArray}{vl':Value}{at2:Nat}(hr:w'.ownsRow base 9 1 vl' (st.1.length+1) (strC st.1++[.string s]))(hk:qe (fun b=>some b=vl.ownBlock) w w'):
  qaj w' base e v vl' (st.1++[s],st.2.1,at2) us:=by
 have hus:us=[]:=List.length_eq_zero_iff.1 (by rw[h.len,h0];rfl)
 subst hus
 refine⟨h.len,qr h.row hk fun g hg hg2=>qch h.row h.lead he g hg hg2,fun i x u _ hu=>by simp at hu,fun i j u t _ hu=>by simp at hu,?_,fun i u hu=>by simp at hu⟩
 rw[List.length_append]
 show w'.ownsRow base 9 1 vl' (st.1.length+1) (strC (st.1++[s]))
 unfold strC at*
 rw[List.map_append]
 exact hr
theorem qaj.behind{pre:List qa7}{x:qa7}{pus:List Value}{u:Value}{lead:List ByteArray}{at1:Nat}{g cap:Nat}(h:qaj w base e (.slice (some ⟨g,0,none⟩) (pre.length+1) cap) vl (lead,pre++[x],at1) (pus++[u]))(hp:pus.length=pre.length)(he:e≠9){s:ByteArray}{u':Value}{at2:Nat}
  (hr:w'.ownsRow base 9 1 u' (x.2.2.length+1) (strC x.2.2++[.string s]))(hk:qe (fun b=>some b=u.ownBlock) w w')(hnew:u'.ownBlock=u.ownBlock∨∃q,u'.ownBlock=some q∧w.heap.size≤q):
  w'.cell? ⟨g,pre.length*4+3,none⟩=some u∧w'.frozen? ⟨g,pre.length*4+3,none⟩=false∧qaj (w'.setCell ⟨g,pre.length*4+3,none⟩ u') base e (.slice (some ⟨g,0,none⟩) (pre.length+1) cap) vl (lead,pre++[(x.1,x.2.1,x.2.2++[s])],at2) (pus++[u'])∧w.cell? ⟨g,pre.length*4+3,none⟩=some u:=by
 have hu:(pus++[u])[pre.length]? =some u:=by rw[←hp,List.getElem?_append_right (Nat.le_refl _),Nat.sub_self];rfl
 have hx:(pre++[x])[pre.length]? =some x:=by rw[List.getElem?_append_right (Nat.le_refl _),Nat.sub_self];rfl
 have hun:=h.notes pre.length x u hx hu
 have hlt:∀(i:Nat) (t:Value),(pus++[u])[i]? =some t→∀q,some q=t.ownBlock→q<w.heap.size:=fun i t ht q hq=>by
  obtain⟨y,_,hy⟩:=h.note_at ht
  exact(hy.lt q hq.symm).2
 have hrow0:=h.row
 rw[show(pre++[x]:List qa7).length =pre.length+1 by simp] at hrow0
 have hrow:w'.ownsRow base e 4 (.slice (some ⟨g,0,none⟩) (pre.length+1) cap) (pre.length+1) (qa0 (pre++[x]) (pus++[u])):=qr hrow0 hk fun q hq hq2=>qch h.row hun he q hq hq2
 have hil:(qa0 (pre++[x]) (pus++[u])).length =(pre.length+1)*4:=by rw[qdb _ _ (by simp[hp])];simp
 have hcell:=(qc3 hx hu).2.2.2
 have hget:∀{W:World},W.ownsRow base e 4 (.slice (some ⟨g,0,none⟩) (pre.length+1) cap) (pre.length+1) (qa0 (pre++[x]) (pus++[u]))→W.cell? ⟨g,pre.length*4+3,none⟩=some u:=fun hr=>by
  have h2:=hr.cells (g:=g) rfl _ _ hcell
  rwa [show(⟨g,0,none⟩:Addr).add (pre.length*4+3)=⟨g,pre.length*4+3,none⟩ by unfold Addr.add;split<;>simp_all] at h2
 obtain⟨hf,hset⟩:=row_set hrow (pre.length*4+3) (by rw[hil];omega) u'
 have ks:qe (fun b=>b=g) w' (w'.setCell ⟨g,pre.length*4+3,none⟩ u'):=qag w' g _ u' rfl
 have hne:∀{n:Nat} {t:Value} {xs:List Value},w'.ownsRow base 9 1 t n xs→∀q,some q=t.ownBlock→¬q=g:=fun ht q hq e2=>qch hrow ht he g (by rfl) (by rw[←e2];exact hq)
 refine⟨hget hrow,hf,⟨by simp[hp],?_,?_,?_,?_,?_⟩,hget hrow0⟩
 ·have e1:(qa0 (pre++[x]) (pus++[u])).set (pre.length*4+3) u'=qa0 (pre++[(x.1,x.2.1,x.2.2++[s])]) (pus++[u']):=by
   rw[qcO _ _ _ _ hp,qcO _ _ _ _ hp,List.set_append_right _ _ (by rw[qdb _ _ hp];omega),qdb _ _ hp,show pre.length*4+3-pre.length*4=3 by omega]
   rfl
  rw[e1] at hset
  rw[show(pre++[(x.1,x.2.1,x.2.2++[s])]:List qa7).length =pre.length+1 by simp]
  exact hset
 ·intro i y t hy ht
  by_cases hi:i<pre.length
  ·rw[List.getElem?_append_left hi] at hy
   rw[List.getElem?_append_left (by omega)] at ht
   have ht0:(pus++[u])[i]? =some t:=by rw[List.getElem?_append_left (by omega)];exact ht
   have hn:=h.notes i y t (by rw[List.getElem?_append_left hi];exact hy) ht0
   have hn1:=qr hn hk fun q hq hq2=>h.apart i pre.length t u hi ht0 hu q hq hq2
   exact qr hn1 ks (hne hn1)
  ·have hj:i=pre.length:=by
    have:=(List.getElem?_eq_some_iff.1 hy).1
    rw[List.length_append,List.length_singleton] at this
    omega
   subst hj
   rw[List.getElem?_append_right (Nat.le_refl _),Nat.sub_self] at hy
   rw[←hp,List.getElem?_append_right (Nat.le_refl _),Nat.sub_self] at ht
   obtain rfl:(x.1,x.2.1,x.2.2++[s])=y:=by simpa using hy
   obtain rfl:u'=t:=by simpa using ht
   have hr2:w'.ownsRow base 9 1 u' (x.2.2++[s]).length (strC (x.2.2++[s])):=by
    unfold strC at*
    rw[List.length_append,List.map_append];exact hr
   exact qr hr2 ks (hne hr2)
 ·intro i j a b hij ha hb q hq hq2
  have hjl:j≤pre.length:=by
   have:=(List.getElem?_eq_some_iff.1 hb).1
   rw[List.length_append,List.length_singleton,hp] at this
   omega
  rw[List.getElem?_append_left (by omega)] at ha
  have ha0:(pus++[u])[i]? =some a:=by rw[List.getElem?_append_left (by omega)];exact ha
  by_cases hj:j<pre.length
  ·rw[List.getElem?_append_left (by omega)] at hb
   exact h.apart i j a b hij ha0 (by rw[List.getElem?_append_left (by omega)];exact hb) q hq hq2
  ·have hj2:j=pus.length:=by omega
   rw[hj2,List.getElem?_append_right (Nat.le_refl _),Nat.sub_self] at hb
   obtain rfl:u'=b:=by simpa using hb
   rcases hnew with hn|⟨q',hn,hq'⟩
   ·exact h.apart i pre.length a u (by omega) ha0 hu q hq (by rw[←hn];exact hq2)
   ·have:=hlt i a ha0 q hq
    rw[hn] at hq2
    cases hq2
    omega
 ·have hl1:w'.ownsRow base 9 1 vl lead.length (strC lead):=qr h.lead hk fun q hq hq2=>h.free pre.length u hu q hq hq2
  exact qr hl1 ks (hne hl1)
 ·intro i t ht q hq hq2
  by_cases hi:i<pus.length
  ·rw[List.getElem?_append_left hi] at ht
   exact h.free i t (by rw[List.getElem?_append_left hi];exact ht) q hq hq2
  ·have hj:i=pus.length:=by
    have:=(List.getElem?_eq_some_iff.1 ht).1
    rw[List.length_append,List.length_singleton] at this
    omega
   rw[hj,List.getElem?_append_right (Nat.le_refl _),Nat.sub_self] at ht
   obtain rfl:u'=t:=by simpa using ht
   rcases hnew with hn|⟨q',hn,hq'⟩
   ·exact h.free pre.length u hu q hq (by rw[←hn];exact hq2)
   ·have:=(h.lead.lt q hq.symm).2
    rw[hn] at hq2
    cases hq2
    omega
end Go.Proofs.YtakbenifinnpfaaGreatDoor
namespace Go.Proofs.YtakbenifinnpfaaGreatDoor
open Go.RowKit Go.Sub
def qge(w:World)(u:Value)(ns:List ByteArray):Prop:=∃p cap,u=.slice p ns.length cap∧ns.length≤4611686018427387904∧∀(k:Nat) (s:ByteArray),ns[k]? =some s→∃b o,p=some ⟨b,o,none⟩∧w.cell? ⟨b,o+k,none⟩=some (.string s)
theorem qge.below{w w':World}{u:Value}{ns:List ByteArray}(h:qge w u ns)(hb:Below w.heap.size w w'):qge w' u ns:=by
 obtain⟨p,cap,h1,h2,h3⟩:=h
 refine⟨p,cap,h1,h2,fun k s hs=>?_⟩
 obtain⟨b,o,e,c⟩:=h3 k s hs
 exact⟨b,o,e,(hb.cell (World.block_lt_of_cell? _ _ c)).trans c⟩
def qg4(w:World)(v:Value)(out:List qa7):Prop:=∃p cap,v=.slice p out.length cap∧out.length≤4611686018427387904∧∀(i:Nat) (x:qa7),out[i]? =some x→∃b o u,p=some ⟨b,o,none⟩∧
 w.cell? ⟨b,o+i*4,none⟩=some (.int .i64 x.1.1)∧w.cell? ⟨b,o+i*4+1,none⟩=some (.string x.1.2)∧w.cell? ⟨b,o+i*4+2,none⟩=some (.int .i64 (x.2.1:Int))∧w.cell? ⟨b,o+i*4+3,none⟩=some u∧qge w u x.2.2
theorem qg4.below{w w':World}{v:Value}{out:List qa7}(h:qg4 w v out)(hb:Below w.heap.size w w'):qg4 w' v out:=by
 obtain⟨p,cap,h1,h2,h3⟩:=h
 refine⟨p,cap,h1,h2,fun i x hx=>?_⟩
 obtain⟨b,o,u,e,c0,c1,c2,c3,hn⟩:=h3 i x hx
 have cc:∀{a:Addr} {c:Value},w.cell? a=some c→w'.cell? a=some c:=fun h=>(hb.cell (World.block_lt_of_cell? _ _ h)).trans h
 exact⟨b,o,u,e,cc c0,cc c1,cc c2,cc c3,hn.below hb⟩
theorem qeG(s:ByteArray)(n:Nat):∀l:List qa7,(∀x∈l,x.2.2.length≤n)→∀x∈qbM l s,x.2.2.length≤n+1
 |[],_,x,h=>by cases h
 |[y],hl,x,h=>by
  obtain rfl:=List.mem_singleton.1 h
  have:=hl y (by simp)
  simp;omega
 |y::z::r,hl,x,h=>by
  rcases List.mem_cons.1 h with rfl|h
  ·have:=hl x (by simp);omega
  ·exact qeG s n (z::r) (fun q hq=>hl q (List.mem_cons_of_mem _ hq)) x h
theorem qf1:∀(xs:List TokB) (st:qc9) (n:Nat),st.1.length≤n→st.2.1.length≤n→(∀x∈st.2.1,x.2.2.length≤n)→(xs.foldl qai st).1.length ≤n+xs.length∧(xs.foldl qai st).2.1.length ≤n+xs.length∧∀x∈(xs.foldl qai st).2.1,x.2.2.length≤n+xs.length
 |[],st,n,h1,h2,h3=>⟨h1,h2,h3⟩
 |t::xs,st,n,h1,h2,h3=>by
  have ih:=qf1 xs (qai st t) (n+1) ?_ ?_ ?_
  ·rw[List.foldl_cons,List.length_cons,show n+(xs.length+1)=n+1+xs.length by omega]
   exact ih
  ·unfold qai
   dsimp only
   split
   ·rw[List.length_append];simp;omega
   ·omega
  ·unfold qai
   dsimp only
   split
   ·omega
   ·split
    ·rw[qdK];omega
    ·rw[List.length_append];simp;omega
  ·unfold qai
   dsimp only
   split
   ·intro x hx;have:=h3 x hx;omega
   ·split
    ·exact qeG _ _ _ h3
    ·intro x hx
     rcases List.mem_append.1 hx with h|h
     ·have:=h3 x h;omega
     ·obtain rfl:=List.mem_singleton.1 h
      simp
theorem qdP{w:World}{base:Nat}{e:TypeId}{size:Nat}{v:Value}{n:Nat}{xs:List Value}(h:w.ownsRow base e size v n xs):∃p c,v=.slice p n c∧n≤c:=by
 rcases h.2 with⟨rfl,h0⟩|⟨g,cap,_,rfl,_,_,hnc,_⟩
 ·exact⟨none,0,by rw[h0],by omega⟩
 ·exact⟨_,_,rfl,hnc⟩
theorem qgT{P:Program}{e:TypeId}{z:Value}{size bytes:Nat}(h:(P.info? e).map (fun i=>(i.zero,i.size,i.bytes))=some (some z,size,bytes)):∃i,P.info? e=some i∧i.zero=some z∧i.size=size∧i.bytes=bytes:=by
 cases hi:P.info? e with
 |none=>rw[hi] at h;cases h
 |some i=>
  rw[hi] at h
  simp only[Option.map_some,Option.some.injEq,Prod.mk.injEq] at h
  exact⟨i,rfl,h.1,h.2.1,h.2.2⟩
theorem qkZ:(Tryz.prog.info? 62).map (fun i=>(i.zero,i.size,i.bytes))=some (some (.agg #[.int .i64 0,.string ByteArray.empty,.int .i64 0,.slice none 0 0]),4,56):=by kernel_rfl
theorem qiN:(Tryz.prog.info? 9).map (fun i=>(i.zero,i.size,i.bytes))=some (some (.string ByteArray.empty),1,16):=by kernel_rfl
theorem qlz:Tryz.prog.underlying 55=some (.slice 62):=by kernel_rfl
theorem qcM:Tryz.prog.underlying 34=some (.slice 9):=by kernel_rfl
def qkk(w:World)(xs:List TokB)(e:Ending)(w':World):Prop:=∃vl vo us,e=.returned (.tuple #[vl,vo])∧qaj w' w.heap.size 62 vo vl (qaz xs) us∧Below w.heap.size w w'
theorem qaj.anyAt{w:World}{base:Nat}{e:TypeId}{v vl:Value}{l:List ByteArray}{o:List qa7}{a a':Nat}{us:List Value}(h:qaj w base e v vl (l,o,a) us):qaj w base e v vl (l,o,a') us:=⟨h.len,h.row,h.notes,h.apart,h.lead,h.free⟩
theorem qim(v:Value)(xs:List TokB)(w:World)(h:qdL w v xs)(hs:sumT xs≤1048576):
  Calls Tryz.prog 32 #[v] w (qkk w xs):=by
 have Hh:=qh h
 obtain⟨pv,cv,rfl,hlv,-⟩:=h
 have hsj:=qeM xs
 have hat:∀n,n≤xs.length→(qaz (xs.take n)).2.2≤1048576:=fun n hn=>by
  rw[it_at n xs hn]
  have h1:=qeM (xs.take n)
  have h2:=sumT_le xs n
  omega
 have hsm:∀n,(qaz (xs.take n)).1.length ≤1048576∧(qaz (xs.take n)).2.1.length ≤1048576∧∀x∈(qaz (xs.take n)).2.1,x.2.2.length≤1048576:=fun n=>by
  have h1:=qf1 (xs.take n) ([],[],0) 0 (by simp) (by simp) (fun x hx=>by simp at hx)
  have h2:(xs.take n).length ≤xs.length:=by rw[List.length_take];omega
  unfold qaz
  exact⟨by have:=h1.1;omega,by have:=h1.2.1;omega,fun x hx=>by have:=h1.2.2 x hx;omega⟩
 have HAT:=qh hat
 have HSM:=qh hsm
 have hlx:xs.length≤1048576:=by omega
 have Pc:=qh qhU
 clear hat hsm hsj hs
 go_enter Tryz.func32,Tryz.ntmps32
 go_wp2
 go_loopw [4,5,6,7] (fun vl vo a i wr=>∃(n:Nat) (us:List Value),n≤xs.length∧i=.int .i64 n∧a=.int .i64 ((qaz (xs.take n)).2.2:Nat)∧Hid (qaj wr w.heap.size 62 vo vl (qaz (xs.take n)) us)∧Hid (Below w.heap.size w wr)) (fun _ _ _ i _=>xs.length- (intOf i).toNat)
 case atStart=>exact⟨0,[],Nat.zero_le _,rfl,rfl,qh (qaj.start _ _ _),qh (Below.refl _ _)⟩
 case round=>
  rename_i vl vo
  obtain⟨n,us,hn,rfl,rfl,HI,HW⟩:=hrel
  obtain⟨pl,cl,rfl,hcl⟩:=qdP HI.out.lead
  obtain⟨po,co,rfl,hco⟩:=qdP HI.out.row
  by_cases hlt:n<xs.length
  ·have hx:=List.getElem?_eq_getElem hlt
   have hrow:=Hh.out.below HW.out
   obtain⟨p',c',e',-,hce⟩:=hrow
   cases e'
   obtain⟨b,o,rfl,c0,c1⟩:=hce n _ hx
   have hst:=qfy hx
   have ha2:=HAT.out (n+1) hlt
   have ha:=HAT.out n hn
   obtain⟨m1,m2,m3⟩:=HSM.out n
   have HLT:=qh hlt
   clear hx
   generalize xs[n]=x at*
   obtain⟨k,s⟩:=x
   dsimp only at c0 c1
   rw[hst] at ha2
   have HST:=qh hst
   have hsz:(qai (qaz (xs.take n)) (k,s)).2.2=(qaz (xs.take n)).2.2+s.size:=rfl
   rw[hsz] at ha2
   clear hst hsz
   generalize qaz (xs.take n)=st at*
   obtain⟨lead,out,at1⟩:=st
   dsimp only at*
   have hcc:∀W,Below w.heap.size w W→W.cell? ⟨b,o+n*2,none⟩=some (.int .i64 k)∧W.cell? ⟨b,o+n*2+1,none⟩=some (.string s):=fun W hW=>by
    have hb:b<w.heap.size:=by
     obtain⟨p2,c2,e2,-,h2⟩:=Hh.out
     cases e2
     obtain⟨b2,o2,e3,h3,-⟩:=h2 n _ (List.getElem?_eq_getElem HLT.out)
     cases e3
     exact World.block_lt_of_cell? _ _ h3
    exact⟨((hW.cell (p:=⟨b,o+n*2,none⟩) hb).trans (HW.out.cell (p:=⟨b,o+n*2,none⟩) hb).symm).trans c0,((hW.cell (p:=⟨b,o+n*2+1,none⟩) hb).trans (HW.out.cell (p:=⟨b,o+n*2+1,none⟩) hb).symm).trans c1⟩
   have HCC:=qh hcc
   obtain⟨i0,hi,hz0,hz1,hz2⟩:=qgT qkZ
   obtain⟨i1,hi1,hz10,hz11,hz12⟩:=qgT qiN
   clear hcc hce
   by_cases hk1:k=1
   ·subst hk1
    have d1:decide ((1:Int)≠1∧(1:Int)≠2)=false:=by decide
    have HE:Hid (qai (lead,out,at1) (1,s)=(lead,out,at1+s.size)):=qh (by simp[qai])
    go_wp2_with(go_at_call 47;refine(Pc.out _ _ _).mono ?_;rintro e w1 ⟨rfl,hb⟩;have HW1:=qh (HW.out.trans (hb.mono HW.out.size));obtain⟨c0,c1⟩:=HCC.out w1 HW1.out;have HI1:=qh (HI.out.keeps (qe.of_below' (O:=fun _=>False) hb) (fun _ _ e=>e) (fun _ _ e=>e) (fun _ _ _ _ _ e=>e));have HZ1:=qh (Nat.le_trans HW.out.size hb.size);clear hb)
    go_roundw
    case rel=>exact⟨n+1,us,HLT.out,by go_num,by rw[HST.out,HE.out];simp,by rw[HST.out,HE.out];exact qh (HI1.out).anyAt,HW1⟩
    case measure=>simp[intOf];have:=HLT.out;omega
   ·by_cases hk2:k=2
    ·subst hk2
     have d1:decide ((2:Int)≠1∧(2:Int)≠2)=false:=by decide
     by_cases ho:out=[]
     ·subst ho
      have HE:Hid (qai (lead,[],at1) (2,s)=(lead++[s],[],at1+s.size)):=qh (by simp[qai,qbM])
      go_upto_region 10 with(go_at_call 47;refine(Pc.out _ _ _).mono ?_;rintro e w1 ⟨rfl,hb⟩;have HW1:=qh (HW.out.trans (hb.mono HW.out.size));obtain⟨c0,c1⟩:=HCC.out w1 HW1.out;have HI1:=qh (HI.out.keeps (qe.of_below' (O:=fun _=>False) hb) (fun _ _ e=>e) (fun _ _ e=>e) (fun _ _ _ _ _ e=>e));have HZ1:=qh (Nat.le_trans HW.out.size hb.size);clear hb)
      have al:=(Below.refl w1.heap.size w1).alloc (Nat.le_refl _) (.cells #[.string s] 9)
      have HN1:=qh (World.alloc_heap_new w1 (.cells #[.string s] 9))
      have HL1:=qh (qr HI1.out.lead (qe.of_below' (O:=fun _=>False) al) (fun _ _ e=>e))
      have HIA:=qh (HI1.out.keeps (qe.of_below' (O:=fun _=>False) al) (fun _ _ e=>e) (fun _ _ e=>e) (fun _ _ _ _ _ e=>e))
      have HAL:=qh (HW1.out.trans (al.mono HW1.out.size))
      have HZA:=qh (show(w1.alloc (.cells #[.string s] 9)).heap.size =w1.heap.size+1 by simp)
      clear al
      go_upto_region 11 with(at_builtin;go_loud(refine qaa _ rfl _ _ 34 rfl w.heap.size 9 i1 _ 1 16 qcM hi1 hz10 hz11 hz12 rfl (by decide) _ lead.length _ rfl HL1.out ⟨w1.heap.size,0,none⟩ 1 1 [.string s] rfl rfl (by intro j u hu;match j,hu with|0,hu=>simp at hu;subst hu;exact qa HN1.out rfl|j+1,hu=>simp at hu) (by intro u hu;simp at hu;subst hu;rfl) (by simp only[maxLen];omega) (by omega) (by have:=HZA.out;have:=HZ1.out;omega) ?_;intro v' w3 hown hkeep hblk _;have HI3:=qh (HIA.out.ahead (by decide) rfl hown hkeep (at2:=at1+s.size));have HW3:=qh (HAL.out.trans (hkeep.below HAL.out.size (fun b hb=>(HL1.out.lt b hb.symm).1)));obtain⟨p3,c3,rfl,-⟩:=qdP hown;clear hown hkeep hblk))
      obtain⟨c0,c1⟩:=HCC.out w3 HW3.out
      go_wp2
      go_roundw
      case rel=>exact⟨n+1,us,HLT.out,by go_num,by rw[HST.out,HE.out];simp,by rw[HST.out,HE.out];exact qh (HI3.out).anyAt,HW3⟩
      case measure=>simp[intOf];have:=HLT.out;omega
     ·obtain⟨pre,y,rfl⟩:∃pre y,out=pre++[y]:=⟨out.dropLast,out.getLast ho,(List.dropLast_concat_getLast ho).symm⟩
      have hul:=HI.out.len
      rw[List.length_append] at hul
      have hun:us≠[]:=fun e=>by rw[e] at hul;simp at hul
      obtain⟨pus,u,rfl⟩:∃pus u,us=pus++[u]:=⟨us.dropLast,us.getLast hun,(List.dropLast_concat_getLast hun).symm⟩
      have hp:pus.length=pre.length:=by simpa using hul
      have HP:=qh hp
      have HE:Hid (qai (lead,pre++[y],at1) (2,s)=(lead,pre++[(y.1,y.2.1,y.2.2++[s])],at1+s.size)):=qh (by simp[qai,qeP])
      have hol:(pre++[y]).length =pre.length+1:=by simp
      rw[hol] at m2 hco
      have hir:=HI.out.row
      rw[hol] at hir
      obtain⟨g,c8,e8⟩:=qcp hir
      cases e8
      have hi0:=HI.out
      rw[hol] at hi0
      have HI:=qh hi0
      have hy3:=m3 y (by simp)
      have y1:(((pre.length:Int)+1)==0)=false:=by rw[beq_eq_false_iff_ne];omega
      have y2:decide ((pre.length:Int)+1>0)=true:=decide_eq_true (by omega)
      have y3:IntKind.i64.wrap ((pre.length:Int)+1-1)=(pre.length:Int):=by rw[IntWalk.i64_in _ (by omega)];omega
      have y4:(0:Int)≤(pre.length:Int):=by omega
      rw[hol]
      clear ho hul hun hp hir hi0 m3 hol
      go_upto_region 13 with(go_at_call 47;refine(Pc.out _ _ _).mono ?_;rintro e w1 ⟨rfl,hb⟩;have HW1:=qh (HW.out.trans (hb.mono HW.out.size));obtain⟨c0,c1⟩:=HCC.out w1 HW1.out;have HI1:=qh (HI.out.keeps (qe.of_below' (O:=fun _=>False) hb) (fun _ _ e=>e) (fun _ _ e=>e) (fun _ _ _ _ _ e=>e));have HZ1:=qh (Nat.le_trans HW.out.size hb.size);clear hb)
      have hxp:(pre++[y])[pre.length]? =some y:=by rw[List.getElem?_append_right (Nat.le_refl _),Nat.sub_self];rfl
      have hup:(pus++[u])[pre.length]? =some u:=by rw[←HP.out,List.getElem?_append_right (Nat.le_refl _),Nat.sub_self];rfl
      have hun:=HI1.out.notes pre.length y u hxp hup
      have hcu:=HI1.out.row.cells (g:=g) rfl _ _ (qc3 hxp hup).2.2.2
      rw[show(⟨g,0,none⟩:Addr).add (pre.length*4+3)=⟨g,pre.length*4+3,none⟩ by unfold Addr.add;split<;>simp_all] at hcu
      have hgw:=(HI1.out.row.lt g rfl).1
      have HGW:=qh hgw
      clear hxp hup hgw
      rcases hun.2 with⟨rfl,h0⟩|⟨gu,cu,cur,rfl,-,-,hcc,-⟩
      ·have hy0:y.2.2=[]:=List.eq_nil_of_length_eq_zero h0
       have HO6:Hid (w1.ownsRow w1.heap.size 9 1 (.slice none 0 0) 0 (strC y.2.2)):=qh (by rw[hy0];exact World.ownsRow_nil _ _ _ _)
       have HB6:=qh (Below.refl w1.heap.size w1)
       have HYL:Hid (y.2.2.length=0):=qh h0
       clear hun h0 hy0
       go_upto_region 15 with(fail)
       have hw6:=HW1.out.trans (HB6.out.mono HW1.out.size)
       obtain⟨c0,c1⟩:=HCC.out w1 hw6
       have al:=(Below.refl w1.heap.size w1).alloc (Nat.le_refl _) (.cells #[.string s] 9)
       have HN6:=qh (World.alloc_heap_new w1 (.cells #[.string s] 9))
       have HO7:=qh (qr HO6.out (qe.of_below' (O:=fun _=>False) al) (fun _ _ e=>e))
       have HB7:=qh (HB6.out.trans (al.mono HB6.out.size))
       have HZ6:=qh (show(w1.alloc (.cells #[.string s] 9)).heap.size =w1.heap.size+1 by simp)
       have hcu6:=(HB7.out.cell (World.block_lt_of_cell? _ _ hcu)).trans hcu
       clear al hw6
       go_upto_region 16 with(at_builtin;go_loud(refine qaa _ rfl _ _ 34 rfl w1.heap.size 9 i1 _ 1 16 qcM hi1 hz10 hz11 hz12 rfl (by decide) _ 0 _ rfl HO7.out ⟨w1.heap.size,0,none⟩ 1 1 [.string s] rfl rfl (by intro j u hu;match j,hu with|0,hu=>simp at hu;subst hu;exact qa HN6.out rfl|j+1,hu=>simp at hu) (by intro u hu;simp at hu;subst hu;rfl) (by simp only[maxLen];omega) (by omega) (by have:=HZ6.out;have:=HB6.out.size;omega) ?_;intro v7 w7 hown hkeep hblk _;obtain⟨g7,c7,rfl⟩:=qcp hown;have HB8:=qh (HB7.out.trans (hkeep.below HB7.out.size (fun b hb=>(HO7.out.lt b hb.symm).1)));have hbh:=HI1.out.behind HP.out (by decide) (s:=s) (at2:=at1+s.size) (u':=.slice (some ⟨g7,0,none⟩) (0+1) c7) (by rw[HYL.out];exact qbR hown HW1.out.size) (qe.of_below' HB8.out) (.inr ⟨g7,rfl,(hown.lt g7 rfl).1⟩);have HBH:=qh hbh;clear hown hkeep hblk hbh))
       obtain⟨b1,b2,b3,-⟩:=HBH.out
       have HI8:=qh b3
       have hw7:=HW1.out.trans (HB8.out.mono HW1.out.size)
       have HW8:=qh (hw7.setCell (p:=⟨g,pre.length*4+3,none⟩) HGW.out (.slice (some ⟨g7,0,none⟩) (0+1) c7))
       clear b3 hw7 hcu6
       go_upto_region 17 with(fail)
       obtain⟨c0,c1⟩:=HCC.out _ HW8.out
       go_wp2
       go_roundw
       case rel=>exact⟨n+1,pus++[.slice (some ⟨g7,0,none⟩) (0+1) c7],HLT.out,by go_num,by rw[HST.out,HE.out];simp,by rw[HST.out,HE.out];exact qh (HI8.out).anyAt,HW8⟩
       case measure=>simp[intOf];have:=HLT.out;omega
      ·have hcl:∀(j:Nat) (t:Value),(strC y.2.2)[j]? =some t→w1.cell? ((⟨gu,0,none⟩:Addr).add j)=some t:=fun j t ht=>hun.cells (g:=gu) rfl _ _ ht
       have HCL:=qh hcl
       have HL:Hid ((strC y.2.2).length =y.2.2.length*1):=qh (by unfold strC;rw[List.length_map,Nat.mul_one])
       have HO0:=qh (World.ownsRow_nil w1 w1.heap.size 9 1)
       have HYL:Hid (y.2.2.length=y.2.2.length):=qh rfl
       clear hun hcl
       go_upto_region 15 with(at_builtin;go_loud(refine qaa _ rfl _ _ 34 rfl w1.heap.size 9 i1 _ 1 16 qcM hi1 hz10 hz11 hz12 rfl (by decide) _ 0 _ rfl HO0.out ⟨gu,0,none⟩ y.2.2.length cu (strC y.2.2) rfl HL.out HCL.out (by intro u hu;unfold strC at hu;obtain⟨x,_,rfl⟩:=List.mem_map.1 hu;rfl) (by simp only[maxLen];omega) (by omega) (Nat.le_refl _) ?_;intro v6 W6 hown hkeep hblk _;rw[Nat.zero_add,List.nil_append] at hown;obtain⟨p6,c6,rfl,-⟩:=qdP hown;have HO6:=qh hown;have HB6:=qh (hkeep.below (n:=w1.heap.size) (Nat.le_refl _) (fun b hb=>by cases hb));clear hown hkeep hblk))
       have hw6:=HW1.out.trans (HB6.out.mono HW1.out.size)
       obtain⟨c0,c1⟩:=HCC.out W6 hw6
       have al:=(Below.refl W6.heap.size W6).alloc (Nat.le_refl _) (.cells #[.string s] 9)
       have HN6:=qh (World.alloc_heap_new W6 (.cells #[.string s] 9))
       have HO7:=qh (qr HO6.out (qe.of_below' (O:=fun _=>False) al) (fun _ _ e=>e))
       have HB7:=qh (HB6.out.trans (al.mono HB6.out.size))
       have HZ6:=qh (show(W6.alloc (.cells #[.string s] 9)).heap.size =W6.heap.size+1 by simp)
       have hcu6:=(HB7.out.cell (World.block_lt_of_cell? _ _ hcu)).trans hcu
       clear al hw6
       go_upto_region 16 with(at_builtin;go_loud(refine qaa _ rfl _ _ 34 rfl w1.heap.size 9 i1 _ 1 16 qcM hi1 hz10 hz11 hz12 rfl (by decide) _ y.2.2.length _ rfl HO7.out ⟨W6.heap.size,0,none⟩ 1 1 [.string s] rfl rfl (by intro j u hu;match j,hu with|0,hu=>simp at hu;subst hu;exact qa HN6.out rfl|j+1,hu=>simp at hu) (by intro u hu;simp at hu;subst hu;rfl) (by simp only[maxLen];omega) (by omega) (by have:=HZ6.out;have:=HB6.out.size;omega) ?_;intro v7 w7 hown hkeep hblk _;obtain⟨g7,c7,rfl⟩:=qcp hown;have HB8:=qh (HB7.out.trans (hkeep.below HB7.out.size (fun b hb=>(HO7.out.lt b hb.symm).1)));have hbh:=HI1.out.behind HP.out (by decide) (s:=s) (at2:=at1+s.size) (u':=.slice (some ⟨g7,0,none⟩) (y.2.2.length+1) c7) (by rw[HYL.out];exact qbR hown HW1.out.size) (qe.of_below' HB8.out) (.inr ⟨g7,rfl,(hown.lt g7 rfl).1⟩);have HBH:=qh hbh;clear hown hkeep hblk hbh))
       obtain⟨b1,b2,b3,-⟩:=HBH.out
       have HI8:=qh b3
       have hw7:=HW1.out.trans (HB8.out.mono HW1.out.size)
       have HW8:=qh (hw7.setCell (p:=⟨g,pre.length*4+3,none⟩) HGW.out (.slice (some ⟨g7,0,none⟩) (y.2.2.length+1) c7))
       clear b3 hw7 hcu6
       go_upto_region 17 with(fail)
       obtain⟨c0,c1⟩:=HCC.out _ HW8.out
       go_wp2
       go_roundw
       case rel=>exact⟨n+1,pus++[.slice (some ⟨g7,0,none⟩) (y.2.2.length+1) c7],HLT.out,by go_num,by rw[HST.out,HE.out];simp,by rw[HST.out,HE.out];exact qh (HI8.out).anyAt,HW8⟩
       case measure=>simp[intOf];have:=HLT.out;omega
    ·have d1:decide (k≠1∧k≠2)=true:=decide_eq_true ⟨hk1,hk2⟩
     have d2:(k==2)=false:=beq_eq_false_iff_ne.2 hk2
     have HE:Hid (qai (lead,out,at1) (k,s)=(lead,out++[((k,s),at1,[])],at1+s.size)):=qh (by simp[qai,hk1,hk2])
     clear hk1 hk2
     go_upto_region 8 with(go_at_call 47;refine(Pc.out _ _ _).mono ?_;rintro e w1 ⟨rfl,hb⟩;have HW1:=qh (HW.out.trans (hb.mono HW.out.size));obtain⟨c0,c1⟩:=HCC.out w1 HW1.out;have HI1:=qh (HI.out.keeps (qe.of_below' (O:=fun _=>False) hb) (fun _ _ e=>e) (fun _ _ e=>e) (fun _ _ _ _ _ e=>e));have HZ1:=qh (Nat.le_trans HW.out.size hb.size);clear hb)
     have al:=(Below.refl w1.heap.size w1).alloc (Nat.le_refl _) (.cells #[.int .i64 k,.string s,.int .i64 (at1:Int),.slice none 0 0] 62)
     have HN1:=qh (World.alloc_heap_new w1 (.cells #[.int .i64 k,.string s,.int .i64 (at1:Int),.slice none 0 0] 62))
     have HR1:=qh (qr HI1.out.row (qe.of_below' (O:=fun _=>False) al) (fun _ _ e=>e))
     have HIA:=qh (HI1.out.keeps (qe.of_below' (O:=fun _=>False) al) (fun _ _ e=>e) (fun _ _ e=>e) (fun _ _ _ _ _ e=>e))
     have HAL:=qh (HW1.out.trans (al.mono HW1.out.size))
     have HZA:=qh (show(w1.alloc (.cells #[.int .i64 k,.string s,.int .i64 (at1:Int),.slice none 0 0] 62)).heap.size =w1.heap.size+1 by simp)
     clear al
     go_upto_region 9 with(at_builtin;go_loud(refine qaa _ rfl _ _ 55 rfl w.heap.size 62 i0 _ 4 56 qlz hi hz0 hz1 hz2 rfl (by decide) _ out.length _ rfl HR1.out ⟨w1.heap.size,0,none⟩ 1 1 [.int .i64 k,.string s,.int .i64 (at1:Int),.slice none 0 0] rfl rfl (by intro j u hu;match j,hu with|0,hu=>simp at hu;subst hu;exact qa HN1.out rfl|1,hu=>simp at hu;subst hu;exact qa HN1.out rfl|2,hu=>simp at hu;subst hu;exact qa HN1.out rfl|3,hu=>simp at hu;subst hu;exact qa HN1.out rfl|j+4,hu=>simp at hu) (by intro u hu;simp at hu;rcases hu with rfl|rfl|rfl|rfl<;>rfl) (by simp only[maxLen];omega) (by omega) (by have:=HZA.out;have:=HZ1.out;omega) ?_;intro v' w3 hown hkeep hblk _;have HI3:=qh (HIA.out.put (by decide) (t:=(k,s)) hown hkeep (at2:=at1+s.size));have HW3:=qh (HAL.out.trans (hkeep.below HAL.out.size (fun b hb=>(HR1.out.lt b hb.symm).1)));obtain⟨p3,c3,rfl,-⟩:=qdP hown;clear hown hkeep hblk))
     obtain⟨c0,c1⟩:=HCC.out w3 HW3.out
     go_wp2
     go_roundw
     case rel=>exact⟨n+1,us++[.slice none 0 0],HLT.out,by go_num,by rw[HST.out,HE.out];simp,by rw[HST.out,HE.out];exact qh (HI3.out).anyAt,HW3⟩
     case measure=>simp[intOf];have:=HLT.out;omega
  ·obtain rfl:n=xs.length:=by omega
   have hi:=HI.out
   have ea:qaz (xs.take xs.length)=qaz xs:=by rw[List.take_length]
   have HEA:=qh ea
   generalize qaz (xs.take xs.length)=st at*
   have HII:=qh HI.out
   clear hi ea
   go_wp2
   refine bodyPost_ret (v:=.tuple #[.slice pl st.1.length cl,.slice po st.2.1.length co]) (by simp[results,Tryz.results32,go_sem]) rfl ⟨_,_,us,rfl,?_,HW.out⟩
   rw[←HEA.out]
   exact HII.out
def opsR:POps:=⟨qI,qaW,fun s=>qM s 2,fun s=>qfX s.data.toList,fun s=>qed s.data.toList⟩
theorem opsR_ok:ROps opsR where
 level s w:=qY s w
 side s w:=qbI s w
 right s w:=qdI s w
 of' k s w:=qjg k s w
 plain s w h:=qho s w (by omega)
 key s w h:=qfI s w
def tkS(s:ByteArray):List PTok×Int×Int:=((qS s).1.map (tokB s.data.toList),((qS s).2.1:Int),(qS s).2.2)
def itS(xs:List PTok):List (PTok×Int):=(qaz xs).2.1.map fun x=>(x.1,(x.2.1:Int))
theorem qkV{l:List UInt8}{pre:List Tok3}{at':Nat}{st:List Nat}{inn:Bool}(h:qb5 l pre at' st inn):(pre.map fun x=>x.2.2).sum =at'∧∀x∈pre,1≤x.2.2∧x.2.1+x.2.2≤l.length:=by
 induction h with
 |nil=>exact⟨rfl,fun x h=>by simp at h⟩
 |@snoc pre at' st inn k n st2 inn2 hr hlt hs ih=>
  obtain⟨i1,i2,i3,i4⟩:=qaM hr
  have hg:=qcY (l.drop at') st inn at' (fun e=>by have:=congrArg List.length e;rw[List.length_drop] at this;simp at this;omega) i2 i3
  rw[hs] at hg
  obtain⟨g1,g2,g3,g4⟩:=hg rfl
  dsimp only at g1 g2
  rw[List.length_drop] at g2
  refine⟨by rw[List.map_append,List.sum_append,ih.1];simp,fun x hx=>?_⟩
  rcases List.mem_append.1 hx with hx|hx
  ·exact ih.2 x hx
  ·obtain rfl:x=(k,at',n):=by simpa using hx
   exact⟨g1,by dsimp only;omega⟩
theorem qkH{s:ByteArray}(h:(qS s).2.1=0):s.size≤65536∧∃b st inn,qb5 s.data.toList (qS s).1 b st inn:=by
 unfold qS at h⊢
 split
 ·rename_i h1;rw[if_pos h1] at h;cases h
 ·rename_i h1
  rw[if_neg h1] at h
  split
  ·rename_i h2;rw[if_pos h2] at h;cases h
  ·rename_i h2
   rw[if_neg h2] at h
   obtain⟨ys,b,st2,inn2,er,r1,r2,-⟩:=qgM s.data.toList
   rw[←Lib.size_eq] at r2
   rw[r2] at h⊢
   dsimp only at h⊢
   split
   ·exact⟨by omega,b,st2,inn2,r1⟩
   ·rename_i h3;rw[if_neg h3] at h;exact absurd h h3
theorem qgW{l:List UInt8}{x:Tok3}(h:x.2.1+x.2.2≤l.length):(tokB l x).2.size =x.2.2:=by
 show(((l.drop x.2.1).take x.2.2).toArray).size =_
 simp;omega
theorem qde{s:ByteArray}(h:(qS s).2.1=0):(∀t∈(tkS s).1,1≤t.2.size∧t.2.size≤65536)∧sumT (tkS s).1≤131072∧qK (tkS s).1≤1114112∧(tkS s).1.length ≤65536:=by
 obtain⟨hs,b,st,inn,hr⟩:=qkH h
 obtain⟨h1,h2⟩:=qkV hr
 obtain⟨f1,-,-,f4⟩:=qaM hr
 rw[←Lib.size_eq] at f1
 have hl:(qS s).1.length ≤65536:=by omega
 have hsum:∀ys:List Tok3,(∀x∈ys,1≤x.2.2∧x.2.1+x.2.2≤s.data.toList.length)→sumT (ys.map (tokB s.data.toList))=ys.length+(ys.map fun x=>x.2.2).sum ∧qK (ys.map (tokB s.data.toList))=16*ys.length+(ys.map fun x=>x.2.2).sum :=by
  intro ys
  induction ys with
  |nil=>intro _;exact⟨rfl,rfl⟩
  |cons y ys ih=>
   intro hy
   obtain⟨a1,a2⟩:=ih fun x hx=>hy x (List.mem_cons_of_mem _ hx)
   have hz:=qgW (hy y List.mem_cons_self).2
   have e1:sumT ((y::ys).map (tokB s.data.toList))=1+(tokB s.data.toList y).2.size +sumT (ys.map (tokB s.data.toList)):=rfl
   have e2:qK ((y::ys).map (tokB s.data.toList))=16+(tokB s.data.toList y).2.size +qK (ys.map (tokB s.data.toList)):=rfl
   rw[e1,e2,hz,a1,a2]
   simp only[List.length_cons,List.map_cons,List.sum_cons]
   constructor<;>omega
 obtain⟨s1,s2⟩:=hsum _ h2
 have hle:∀(ys:List Tok3) (x:Tok3),x∈ys→x.2.2≤(ys.map fun x=>x.2.2).sum :=by
  intro ys
  induction ys with
  |nil=>intro x hx;cases hx
  |cons y ys ih=>
   intro x hx
   rcases List.mem_cons.1 hx with rfl|hx
   ·simp
   ·have:=ih x hx;simp;omega
 refine⟨fun t ht=>?_,?_,?_,by show(List.map _ _).length ≤_;rw[List.length_map];exact hl⟩
 ·obtain⟨x,hx,rfl⟩:=List.mem_map.1 ht
  have:=h2 x hx
  rw[qgW this.2]
  exact⟨this.1,by have:=hle _ x hx;omega⟩
 ·show sumT ((qS s).1.map (tokB s.data.toList))≤_
  rw[s1];omega
 ·show qK ((qS s).1.map (tokB s.data.toList))≤_
  rw[s2];omega
theorem qgm(x:PTok):∀l:List PTok,qK (l++[x])=qK l+(16+x.2.size)
 |[]=>by simp[qK]
 |y::l=>by simp only[List.cons_append,qK,qgm x l];omega
theorem qdC(s:ByteArray):∀l:List qa7,(qbM l s).map (fun x=>x.1)=l.map fun x=>x.1
 |[]=>rfl
 |[x]=>rfl
 |x::y::l=>by simp only[qbM,List.map_cons,List.cons.injEq,true_and];exact qdC s (y::l)
theorem qgf(P:List PTok→Prop):∀(xs:List TokB) (st:qc9),P (st.2.1.map fun x=>x.1)→(∀l t,t∈xs→P l→P (l++[t]))→P ((xs.foldl qai st).2.1.map fun x=>x.1)
 |[],st,h,_=>h
 |t::xs,st,h,hP=>by
  refine qgf P xs (qai st t) ?_ fun l u hu=>hP l u (List.mem_cons_of_mem _ hu)
  unfold qai
  dsimp only
  split
  ·exact h
  ·split
   ·rw[qdC];exact h
   ·rw[List.map_append];exact hP _ t List.mem_cons_self h
theorem qe9(xs:List TokB):∀t∈(itS xs).map Prod.fst,t∈xs:=by
 have:=qgf (fun l=>∀t∈l,t∈xs) xs ([],[],0) (fun t h=>by simp at h) (fun l t ht hl u hu=>by
  rcases List.mem_append.1 hu with hu|hu
  ·exact hl u hu
  ·obtain rfl:u=t:=by simpa using hu
   exact ht)
 unfold itS qaz
 rw[List.map_map]
 exact this
theorem qdi(xs:List TokB):qK ((itS xs).map Prod.fst)≤qK xs∧((itS xs).map Prod.fst).length ≤xs.length:=by
 have key:∀(xs:List TokB) (st:qc9),qK ((xs.foldl qai st).2.1.map fun x=>x.1)≤qK (st.2.1.map fun x=>x.1)+qK xs∧(xs.foldl qai st).2.1.length ≤st.2.1.length+xs.length:=by
  intro xs
  induction xs with
  |nil=>intro st;exact⟨Nat.le_refl _,Nat.le_refl _⟩
  |cons t xs ih=>
   intro st
   obtain⟨i1,i2⟩:=ih (qai st t)
   have h1:qK ((qai st t).2.1.map fun x=>x.1)≤qK (st.2.1.map fun x=>x.1)+(16+t.2.size)∧(qai st t).2.1.length ≤st.2.1.length+1:=by
    unfold qai
    dsimp only
    split
    ·exact⟨Nat.le_add_right _ _,Nat.le_succ _⟩
    ·split
     ·have e:=qdC t.2 st.2.1
      have e2:=congrArg List.length e
      rw[List.length_map,List.length_map] at e2
      rw[e,e2]
      exact⟨Nat.le_add_right _ _,Nat.le_succ _⟩
     ·rw[List.map_append,List.map_singleton,qgm,List.length_append]
      exact⟨Nat.le_refl _,Nat.le_refl _⟩
   simp only[qK,List.length_cons,List.foldl_cons]
   exact⟨by omega,by omega⟩
 obtain⟨h1,h2⟩:=key xs ([],[],0)
 unfold itS qaz
 rw[List.map_map,List.length_map]
 exact⟨Nat.le_trans h1 (by simp[qK]),by simpa using h2⟩
theorem irow_of{w:World}{base:Nat}{v vl:Value}{st:qc9}{us:List Value}(h:qaj w base 62 v vl st us)(hl:st.2.1.length≤1000000000):∃q c,v=.slice q (st.2.1.map fun x=>(x.1,(x.2.1:Int))).length c∧IRow w q (st.2.1.map fun x=>(x.1,(x.2.1:Int)))∧∀a,q=some a→base≤a.block:=by
 obtain⟨hlen,hrow⟩:=h.row
 have hget:∀(i:Nat) (x:qa7),st.2.1[i]? =some x→∃u,us[i]? =some u:=fun i x hx=>⟨_,List.getElem?_eq_getElem (by rw[h.len];exact(List.getElem?_eq_some_iff.1 hx).1)⟩
 rcases hrow with⟨rfl,h0⟩|⟨g,cap,cur,rfl,hg,hb,hk,hm,hcur,hpre⟩
 ·refine⟨none,0,by simp[h0],⟨⟨by simp[h0],fun i t ht=>?_⟩,fun i x hx=>?_⟩,fun a e=>by cases e⟩
  ·rw[List.length_eq_zero_iff.1 h0] at ht;simp at ht
  ·rw[List.length_eq_zero_iff.1 h0] at hx;simp at hx
 ·have hcell:∀(i:Nat) (y:Value),(qa0 st.2.1 us)[i]? =some y→w.cell? ⟨g,i,none⟩=some y:=fun i y hy=>by
   rw[←hpre,List.getElem?_take] at hy
   split at hy
   ·exact qa hb (by simpa using hy)
   ·cases hy
  refine⟨some ⟨g,0,none⟩,cap,by simp,⟨⟨by simpa using hl,fun i t ht=>?_⟩,fun i x hx=>?_⟩,fun a e=>by cases e;exact hg⟩
  ·simp only[List.map_map,List.getElem?_map,Option.map_eq_some_iff] at ht
   obtain⟨x,hx,rfl⟩:=ht
   obtain⟨u,hu⟩:=hget i x hx
   obtain⟨c0,c1,c2,-⟩:=qc3 hx hu
   exact⟨g,0,rfl,by rw[Nat.zero_add];exact hcell _ _ c0,by rw[Nat.zero_add];exact hcell _ _ c1⟩
  ·simp only[List.getElem?_map,Option.map_eq_some_iff] at hx
   obtain⟨y,hy,rfl⟩:=hx
   obtain⟨u,hu⟩:=hget i y hy
   obtain⟨c0,c1,c2,-⟩:=qc3 hy hu
   exact⟨g,0,rfl,by rw[Nat.zero_add];exact hcell _ _ c2⟩
theorem opsS_ok:SOps qdL tkS itS (fun s=>s.size<4611686018427387904) where
 toks s w hs:=(qhj s w hs).mono fun e w' ⟨v,he,hr,hb⟩=>⟨v,he,qkc hr (by have:=(qhw s).2;omega),hb⟩
 items s v w hs h0 hT:=by
  have h0':(qS s).2.1=0:=by have:((qS s).2.1:Int)=0:=h0;omega
  obtain⟨-,h2,-,h4⟩:=qde h0'
  refine(qim v _ w hT (by omega)).mono ?_
  rintro e w' ⟨vl,vo,us,rfl,hi,hb⟩
  have hl:(qaz (tkS s).1).2.1.length ≤1000000000:=by
   have:=(qdi (tkS s).1).2
   unfold itS at this
   rw[List.length_map,List.length_map] at this
   omega
  obtain⟨q,c,rfl,hr,hq⟩:=irow_of hi hl
  exact⟨vl,q,c,rfl,hr,hq,hb⟩
 stays:=fun h hb=>h.below hb
 short s hs h0:=by
  have h0':(qS s).2.1=0:=by have:((qS s).2.1:Int)=0:=h0;omega
  obtain⟨h1,-,-,h4⟩:=qde h0'
  refine⟨fun t ht=>by have:=(h1 t (qe9 _ t ht)).2;omega,?_⟩
  have:=(qdi (tkS s).1).2
  rw[List.length_map] at this
  omega
def srcP(s:ByteArray):qb×Int×Int:=(qdj opsR tkS itS (40*(((itS (tkS s).1).map Prod.fst).length +1)+10) s).getD (qj,0,0)
theorem qe4(s:ByteArray)(w:World)(hs:s.size<4611686018427387904):Calls Tryz.prog 20 #[.string s] w (qcD w (srcP s)):=by
 refine qhK opsR_ok opsS_ok (40*(((itS (tkS s).1).map Prod.fst).length +1)+10) s hs w (srcP s) ?_
 unfold srcP
 cases h:qdj opsR tkS itS (40*(((itS (tkS s).1).map Prod.fst).length +1)+10) s with
 |some r=>rfl
 |none=>
  exfalso
  unfold qdj at h
  split at h
  ·cases h
  ·rename_i h0
   have h0':(qS s).2.1=0:=by
    have:((qS s).2.1:Int)=0:=Classical.not_not.1 h0
    omega
   obtain⟨h1,-,h3,h4⟩:=qde h0'
   obtain⟨c1,c2⟩:=qdi (tkS s).1
   obtain⟨r,hr⟩:=qiV opsR (by decide+kernel) (L:=(itS (tkS s).1).map Prod.fst) (fun t ht=>(h1 t (qe9 _ t ht)).1) (by omega) (Nat.le_refl _) (by omega)
   rw[hr] at h
   cases h
end Go.Proofs.YtakbenifinnpfaaGreatDoor
namespace Go.Sub
theorem fit_str(R:POps)(hR:R.level ⟨#[]⟩=0){L:List PTok}(hL:qaX L)(hz:qK L≤100000000){F:Nat}(hF:40*(L.length+1)+10≤F)(p:PSt)(hp:p.1≤L.length):∃r,runP R L F (.str p)=some r∧r.st.1≤L.length∧p.1≤r.st.1∧qz r.n+phi L p≤phi L r.st+1:=by
 obtain⟨r,h1,h2⟩:=qbZ R hR hL hz F (.str p) ⟨hp,trivial⟩ (by have:=qdk L p;simp only[stC,qaf];omega)
 have hs:=h2.size
 simp only[stC,qh8,kC] at hs
 exact⟨r,h1,h2.mv.le,h2.mv.mono,by omega⟩
theorem fit_exp(R:POps)(hR:R.level ⟨#[]⟩=0){L:List PTok}(hL:qaX L)(hz:qK L≤100000000){F:Nat}(hF:40*(L.length+1)+10≤F)(p:PSt)(l:Int)(hp:p.1≤L.length):∃r,runP R L F (.exp p l)=some r∧r.st.1≤L.length∧p.1≤r.st.1∧qz r.n+phi L p≤phi L r.st+1:=by
 obtain⟨r,h1,h2⟩:=qbZ R hR hL hz F (.exp p l) ⟨hp,trivial⟩ (by have:=qdk L p;simp only[stC,qaf];omega)
 have hs:=h2.size
 simp only[stC,qh8,kC] at hs
 exact⟨r,h1,h2.mv.le,h2.mv.mono,by omega⟩
theorem fit_def(R:POps)(hR:R.level ⟨#[]⟩=0){L:List PTok}(hL:qaX L)(hz:qK L≤100000000){F:Nat}(hF:40*(L.length+1)+10≤F)(p:PSt)(t:Bool)(hp:p.1≤L.length)(hk:(tokP L p).1≠0):∃r,runP R L F (.defn p t)=some r∧r.st.1≤L.length∧p.1≤r.st.1∧qz r.n+phi L p≤phi L r.st+1:=by
 obtain⟨r,h1,h2⟩:=qbZ R hR hL hz F (.defn p t) ⟨hp,hk⟩ (by have:=qdk L p;simp only[stC,qaf];omega)
 have hs:=h2.size
 simp only[stC,qh8,kC] at hs
 exact⟨r,h1,h2.mv.le,h2.mv.mono,by omega⟩
theorem qlq(R:POps)(hR:R.level ⟨#[]⟩=0){L:List PTok}(hL:qaX L)(hz:qK L≤100000000){F:Nat}(hF:40*(L.length+1)+10≤F)(p:PSt)(hb:qbA L p=true):∃q n,qdr R L F p=some (q,n)∧q.1≤L.length∧p.1<q.1∧qz n+phi L p≤phi L q+8:=by
 have hk:(tokP L p).1≠0:=by
  unfold qbA at hb
  rcases Bool.or_eq_true_iff.1 hb with h|h
  ·rw[qbD h];decide
  ·rw[qbD h];decide
 have hg:=qbS hk
 obtain⟨q,hq,mq⟩:=q9 hk
 have hq1:q.1=p.1+1:=by
  unfold qs at hq
  rw[if_neg (by rw[hg.1];simp),if_pos hg.2.1] at hq
  rw[←Option.some.inj hq]
 have hql:=mq.le
 have hph:=mq.phi
 unfold qdr
 rw[hq]
 dsimp only[Option.bind_eq_bind,Option.bind]
 by_cases h7:(tokP L q).1≠7
 ·rw[if_pos h7]
  exact⟨_,_,rfl,hql,by show p.1<q.1;omega,by have:=(qbj hql).phi;simp only[qm,qf];omega⟩
 ·rw[if_neg h7]
  cases hs:qbx L (L.length- (q.1+1)) (q.1+1) with
  |some k=>
   have:=qg0 _ _ _ hs
   have hk1:=qhW (L:=L) (show q.1≤k by omega)
   have hqb:q.2=false:=by have h:=qbS (L:=L) (p:=q) (by have h7':=Classical.not_not.1 h7;rw[h7'];decide);exact h.1
   have hk2:phi L q≤phi L (k,true):=by unfold phi;rw[hqb];simp only[Bool.false_eq_true,if_false,if_true];omega
   exact⟨_,_,rfl,by show k≤L.length;omega,by show p.1<k;omega,by simp only[qm,qf];omega⟩
  |none=>
   obtain⟨a,ha,a1,a2,a3⟩:=fit_str R hR hL hz hF q hql
   dsimp only
   rw[ha]
   dsimp only[Option.bind]
   by_cases hi:(tokP L p).2=⟨#[105,110,99,108,117,100,101]⟩
   ·rw[if_pos hi]
    obtain⟨r,hr,mr⟩:=qH (p:=a.st) ⟨#[59]⟩ a1
    rw[hr]
    exact⟨_,_,rfl,mr.le,by have:=mr.mono;show p.1<r.1;omega,by have:=mr.phi;simp only[qm,qf,qh];omega⟩
   ·rw[if_neg hi]
    obtain⟨q2,h2,m2⟩:=qH (p:=a.st) ⟨#[97,115]⟩ a1
    rw[h2]
    dsimp only[Option.bind]
    have m2m:=m2.mono
    by_cases h5:(tokP L q2).1=5
    ·rw[if_pos h5]
     have k5:(tokP L q2).1≠0:=by rw[h5];decide
     obtain⟨t,ht,ht2⟩:=qcE hL k5
     obtain⟨q3,h3,m3⟩:=q9 k5
     rw[ht]
     dsimp only[Option.bind]
     rw[h3]
     dsimp only[Option.bind]
     obtain⟨r,hr,mr⟩:=qH (p:=q3) ⟨#[59]⟩ m3.le
     rw[hr]
     exact⟨_,_,rfl,mr.le,by have:=mr.mono;have:=m3.mono;show p.1<r.1;omega,by have:=mr.phi;have:=m3.phi;have:=m2.phi;simp only[qm,qf,qh];omega⟩
    ·rw[if_neg h5]
     obtain⟨q3,s,h3,m3,m3s⟩:=qgu R (L:=L) (p:=q2) m2.le
     rw[h3]
     dsimp only[Option.bind]
     obtain⟨r,hr,mr⟩:=qH (p:=q3) ⟨#[59]⟩ m3.le
     rw[hr]
     exact⟨_,_,rfl,mr.le,by have:=mr.mono;have:=m3.mono;show p.1<r.1;omega,by have:=mr.phi;have:=m3.phi;have:=m2.phi;simp only[qm,qf,qh];omega⟩
theorem qgd(R:POps)(hR:R.level ⟨#[]⟩=0){L:List PTok}(hL:qaX L)(hz:qK L≤100000000){F:Nat}(hF:40*(L.length+1)+10≤F)(hl:L.length≤100000000):∀(g:Nat) (p:PSt) (l:List qb),p.1≤L.length→l.length≤p.1→L.length+1≤g+p.1→∃q m,qbJ R L F g p l=some (q,m)∧q.1≤L.length∧m.length≤q.1∧qx m+phi L p+8*l.length≤qx l+phi L q+8*m.length
 |0,p,l,h1,h2,h3=>by omega
 |g+1,p,l,h1,h2,h3=>by
  unfold qbJ
  by_cases hb:qbA L p=true
  ·rw[if_pos hb]
   obtain⟨q,n,hq,q1,q2,q3⟩:=qlq R hR hL hz hF p hb
   rw[hq]
   dsimp only[Option.bind_eq_bind,Option.bind]
   have hp:qae l n=some (l++[n]):=by unfold qae;rw[if_pos (by omega)]
   have ho:onP p q=some ():=by unfold onP;rw[if_pos (.inr q2)]
   rw[hp]
   dsimp only[Option.bind]
   rw[ho]
   dsimp only[Option.bind]
   obtain⟨q',m,e1,e2,e3,e4⟩:=qgd R hR hL hz hF hl g q (l++[n]) q1 (by rw[List.length_append,List.length_singleton];omega) (by omega)
   rw[List.length_append,List.length_singleton,qi] at e4
   exact⟨q',m,e1,e2,e3,by omega⟩
  ·rw[if_neg hb]
   exact⟨p,l,rfl,h1,h2,Nat.le_refl _⟩
theorem qja(R:POps)(hR:R.level ⟨#[]⟩=0){L:List PTok}(hL:qaX L)(hz:qK L≤100000000){F:Nat}(hF:40*(L.length+1)+10≤F)(hl:L.length≤100000000):∃r,qcq R L F=some r∧qz r.2≤2*qK L+8*L.length+100:=by
 obtain⟨p,l,hp,p1,p2,p3⟩:=qgd R hR hL hz hF hl (L.length+1) (0,false) [] (Nat.zero_le _) (Nat.le_refl _) (by omega)
 have e0:phi L (0,false)=0:=by unfold phi;simp[qK]
 rw[e0,qf,List.length_nil] at p3
 have hpl:=qga L p
 unfold qcq
 rw[hp]
 dsimp only[Option.bind_eq_bind,Option.bind]
 have push:∀x:qb,qae l x=some (l++[x]):=fun x=>by unfold qae;rw[if_pos (by omega)]
 have hwl:qx l≤qK L+16+8*L.length:=by omega
 by_cases hc:l=[]∨p.2=true∨p.1<L.length
 ·rw[if_pos hc]
  obtain⟨a,ha,hw⟩:∃a,runP R L F (if qv L p ⟨#[100,101,102]⟩=true then .defn p true else .exp p 1)=some a∧qz a.n≤qK L+17:=by
   by_cases hw:qv L p ⟨#[100,101,102]⟩=true
   ·rw[if_pos hw]
    obtain⟨a,ha,_,_,h4⟩:=fit_def R hR hL hz hF p true p1 (by rw[qbD hw];decide)
    exact⟨a,ha,by have:=qga L a.st;omega⟩
   ·rw[if_neg hw]
    obtain⟨a,ha,_,_,h4⟩:=fit_exp R hR hL hz hF p 1 p1
    exact⟨a,ha,by have:=qga L a.st;omega⟩
  rw[ha]
  dsimp only[Option.bind]
  by_cases hE:l=[]
  ·rw[if_pos hE];exact⟨_,rfl,by dsimp only;omega⟩
  ·rw[if_neg hE,push];exact⟨_,rfl,by dsimp only[Option.bind];rw[qm,qi,ql];omega⟩
 ·rw[if_neg hc]
  dsimp only[Option.bind]
  by_cases hE:l=[]
  ·rw[if_pos hE];exact⟨_,rfl,by dsimp only;rw[qg];omega⟩
  ·rw[if_neg hE,push];exact⟨_,rfl,by dsimp only[Option.bind];rw[qm,qi,ql,qg];omega⟩
theorem ql5(R:POps)(hR:R.level ⟨#[]⟩=0){L:List PTok}(hL:qaX L)(hz:qK L≤100000000){F:Nat}(hF:40*(L.length+1)+10≤F)(hl:L.length≤100000000):∃r,qcx R L F=some r∧qz r.1≤2*qK L+8*L.length+100:=by
 unfold qcx
 split
 ·exact⟨_,rfl,by rw[qg];omega⟩
 ·obtain⟨r,hr,hw⟩:=qja R hR hL hz hF hl
  rw[hr]
  refine⟨_,rfl,?_⟩
  dsimp only
  split
  ·rw[qg];omega
  ·exact hw
end Go.Sub
namespace Go.Proofs.YtakbenifinnpfaaGreatDoor
open Go.RowKit Go.Sub
attribute [local go_sem] Instr.field asAgg
theorem qew(c:List UInt8)(p:Option Addr)(cap b o:Nat)(w:World)(h1:0<c.length→p=some ⟨b,o,none⟩)(h2:c.length≤4611686018427387904)(h3:b≠w.heap.size)(h4:∀(i:Nat) x,c[i]? =some x→w.cell? ⟨b,o+i,none⟩=some (.int .u8 (x.toNat:Int))):
  Calls Tryz.prog 22 #[.slice p c.length cap] w fun e w'=>∃s:ByteArray,e=.returned (.string s)∧s.size≤1000000000∧Below w.heap.size w w':=by
 have hb0:=(Below.refl w.heap.size w).alloc (Nat.le_refl _) (.cells #[.slice p c.length cap,.int .i64 0] 66)
 have hg:GW (w.alloc (.cells #[.slice p c.length cap,.int .i64 0] 66)) (w.alloc (.cells #[.slice p c.length cap,.int .i64 0] 66)) w.heap.size (.slice p c.length cap) c:=
  ⟨qe.refl _ _,⟨0,Nat.zero_le _,World.alloc_heap_new w _⟩,p,cap,b,o,rfl,h1,by omega,h2,fun i x hx=>(hb0.cell (World.block_lt_of_cell? _ _ (h4 i x hx))).trans (h4 i x hx)⟩
 have H:=qh hg
 have HB:=qh hb0
 obtain⟨hp,-⟩:=qjx 6 (by decide)
 have QP:=qh (fun(d:Int) (h0: -1≤d) (h1:d+1≤6) W (hW:GW W W w.heap.size (.slice p c.length cap) c)=>hp d h0 (by omega) w.heap.size _ c W hW)
 have hz:gB 6=59918600:=by decide+kernel
 rw[hz] at QP
 clear hg hb0 h1 h2 h3 h4 hp hz
 go_enter Tryz.func22,Tryz.ntmps22
 go_upto_region 3 with(fail)
 obtain⟨W0,hW⟩:∃W0,W0=w.alloc (.cells #[.slice p c.length cap,.int .i64 0] 66):=⟨_,rfl⟩
 rewrite[←hW] at H HB⊢
 clear hW
 generalize Value.slice p c.length cap=v at*
 generalize hgw:w.heap.size=g at*
 have HGW:=qh hgw
 clear hgw
 go_wp2_with(first|(go_at_call 35;go_loud(refine(qbe _ (by decide) g v c _ H.out.start).mono ?_;rintro e W1 ⟨r,rfl,hr,h⟩;replace H:=qh (H.out.trans h);clear h))|(go_at_call 36;go_loud(refine(QP.out _ (by decide) (by decide) _ H.out.start).mono ?_;rintro e W1 ⟨s,rfl,hs,h⟩;replace H:=qh (H.out.trans h);clear h)))
 all_goals
  have hbw:Below w.heap.size w W1:=by rw[HGW.out];exact HB.out.trans (H.out.kp.below (n:=g) (by have:=HB.out.size;have:=HGW.out;omega) fun b hb=>by omega)
  go_ret
  refine⟨_,rfl,?_,hbw⟩
  (try simp only[ByteArray.size_append])
  (try simp only[ByteArray.size,List.size_toArray,List.length_cons,List.length_nil] at*)
  omega
def qbu(w:World)(v:Value)(c:List UInt8):Prop:=∃p cap b o,v=.slice p c.length cap∧(0<c.length→p=some ⟨b,o,none⟩)∧c.length≤cap∧cap≤9223372036854775807∧∀(i:Nat) x,c[i]? =some x→w.cell? ⟨b,o+i,none⟩=some (.int .u8 (x.toNat:Int))
theorem qbu.stays{w W:World}{v:Value}{c:List UInt8}(h:qbu w v c)(hb:Below w.heap.size w W):qbu W v c:=by
 obtain⟨p,cap,b,o,h0,h1,h2,h3,h4⟩:=h
 exact⟨p,cap,b,o,h0,h1,h2,h3,fun i x hx=>(hb.cell (World.block_lt_of_cell? _ _ (h4 i x hx))).trans (h4 i x hx)⟩
theorem qku(c:List UInt8)(v:Value)(w:World)(h:qbu w v c)(hc:c.length≤60):Calls Tryz.prog 22 #[v] w fun e w'=>∃s:ByteArray,e=.returned (.string s)∧s.size≤1000000000∧Below w.heap.size w w':=by
 obtain⟨p,cap,b,o,rfl,h1,h2,h3,h4⟩:=h
 by_cases h0:0<c.length
 ·refine qew c p cap b o w h1 (by omega) (fun e=>?_) h4
  have:=World.block_lt_of_cell? _ _ (h4 0 c[0] (List.getElem?_eq_getElem h0))
  exact absurd e (Nat.ne_of_lt this)
 ·exact qew c p cap (w.heap.size+1) o w (fun h=>absurd h h0) (by omega) (by omega) (fun i x hx=>by have:=(List.getElem?_eq_some_iff.1 hx).1;omega)
theorem qiB(p:Option Addr)(n cap:Nat)(w:World)(h:n≤cap)(hc:cap≤9223372036854775807):Calls Tryz.prog 23 #[.slice p n cap] w fun e w'=>e=.returned (.slice p (min n 60) cap)∧w'=w:=by
 by_cases hn:n<60
 ·have e1:min n 60=n:=by omega
  have e2:min (n:Int) 60=(n:Int):=by omega
  rw[e1]
  go_enter Tryz.func23,Tryz.ntmps23
  go_wp2
  go_ret
  exact⟨rfl,rfl⟩
 ·have e1:min n 60=60:=by omega
  have e2:min (n:Int) 60=60:=by omega
  rw[e1]
  go_enter Tryz.func23,Tryz.ntmps23
  go_wp2
  go_ret
  exact⟨rfl,rfl⟩
theorem qj1(s:ByteArray):qz (srcP s).1≤10000000:=by
 unfold srcP
 unfold qdj
 by_cases h0:(tkS s).2.1=0
 ·rw[if_neg (by simpa using h0)]
  have h0':(qS s).2.1=0:=by have:((qS s).2.1:Int)=0:=h0;omega
  obtain⟨h1,-,h3,h4⟩:=qde h0'
  obtain⟨c1,c2⟩:=qdi (tkS s).1
  obtain⟨r,hr,hw⟩:=ql5 opsR (by decide+kernel) (L:=(itS (tkS s).1).map Prod.fst) (fun t ht=>(h1 t (qe9 _ t ht)).1) (by omega) (Nat.le_refl _) (by omega)
  rw[hr]
  simp only[Option.map_some,Option.getD_some]
  split
  ·dsimp only;omega
  ·split
   ·show qz qj≤_;rw[qg];omega
   ·show qz qj≤_;rw[qg];omega
 ·rw[if_pos h0]
  show qz qj≤_
  rw[qg];omega
end Go.Proofs.YtakbenifinnpfaaGreatDoor
namespace Go.Sub
open Go.RowKit Go.ChangeShapes Go.ChangeAt Go.WideShapes
theorem qes{H:Type}{enc:TypeId×Value→H}{P:Program}(hl:laidOutB P=true){W W':World}(hb:Below W.heap.size W W'):∀(ts:List TypeId) (vs:List Value) (ds:List (DataW H)) (ps:List MemPlace),
  (∀t∈ts,P.readableRec t=true∧t<P.types.size)→(∀x∈ps,x.block<W.heap.size)→DataW.TrodAll enc P W 0 (fun _=>true) true ts vs ds ps→DataW.TrodAll enc P W' 0 (fun b=>decide (b<W.heap.size)) true ts vs ds ps
 |[],[],[],_,_,_,h=>h
 |[],[],_::_,_,_,_,h=>h.elim
 |[],_::_,[],_,_,_,h=>h.elim
 |[],_::_,_::_,_,_,_,h=>h.elim
 |_::_,[],[],_,_,_,h=>h.elim
 |_::_,[],_::_,_,_,_,h=>h.elim
 |_::_,_::_,[],_,_,_,h=>h.elim
 |t::ts,v::vs,d::ds,ps,ht,hlt,h=>by
  obtain⟨p,q,h1,h2,rfl⟩:=h
  exact⟨p,q,Below.trod hl (ht t List.mem_cons_self).1 (ht t List.mem_cons_self).2 h1 hb (fun x hx=>hlt x (List.mem_append.2 (.inl hx))),
   qes hl hb ts vs ds q (fun t' h'=>ht t' (List.mem_cons_of_mem _ h')) (fun x hx=>hlt x (List.mem_append.2 (.inr hx))) h2,rfl⟩
theorem law_post{H:Type}{enc:TypeId×Value→H}{P:Program}{f:Func}{s:ChangeSpec}{W W':World}{args:Array Value}{ds gs:List (DataW H)}{before:List MemPlace}{tb:TypeId}
  (hl:laidOutB P=true)(hts:f.params.toList.all (fun t=>P.readableRec t&&decide (t<P.types.size))=true)(hvars:s.vars=[])(hr:f.resultTypes= #[tb])(ht:P.underlying tb=some .bool)
  (hspec:s.fn H ds={results:=[.lit (.bool true)],args:=ds})
  (hW:DataW.Whole enc P f.params.toList s.vars false W args.toList ds gs before)(hb:Below W.heap.size W W'):
  s.post enc P f false true false false W args (.bool true) W':=by
 have hW':=hW
 have hlt:=hW.lt
 obtain⟨p,q,hA,hV,rfl,_,_⟩:=hW
 rw[hvars] at hV
 obtain⟨rfl,rfl⟩:=trodVars_none hV
 refine⟨ds,[],p++[],[],p,[],hW',?_,?_,?_,hb.frame _,fun h=>by cases h⟩
 ·rw[hr,List.append_nil,hspec]
  exact trodAll_mk1 (shut_bool ht _)
 ·rw[List.append_nil,hspec]
  refine qes hl hb _ _ _ _ (fun t h=>?_) (fun x hx=>hlt x (by simpa using hx)) hA
  have:=List.all_eq_true.1 hts t h
  simpa using this
 ·rw[List.append_nil,hspec,hvars]
  rfl
theorem qhM{P:Program}{W:World}{y:String×DataW Unit}{l:List (String×DataW Unit)}(h:laidMet P (y::l) W):laidMet P l W:=by
 obtain⟨ps,⟨g,t,cs,fuel,p,q,h1,h2,h3,h4,h5,rfl⟩,hn,hc⟩:=h
 exact⟨q,h5,(List.nodup_append.1 hn).2.1,fun b off hm=>hc b off (List.mem_append.2 (.inr hm))⟩
end Go.Sub
namespace Go.Proofs.YtakbenifinnpfaaGreatDoor
open Go.ChangeShapes Go.WideShapes Go.ChangeAt Go.RowKit Go.Sub Go.Lib
theorem own:ownKnob Tryz.prog.godebug=none:=by kernel_rfl
theorem laidOut:laidOutB Tryz.prog=true:=by kernel_rfl
theorem door_met(os:Os)(args:Array Value):laidMet Tryz.prog Rows.wrapTermsRow.laid ((World.laidAll Tryz.prog os Rows.wrapTermsRow.laid).forCall (fun _ _=>0) ⟨#[],args,[]⟩).memory :=
 laidMet_laidAll _ (by kernel_rfl) (by kernel_rfl)
theorem qkK:Tryz.prog.globalNamed "strings.asciiSpace"=some 0:=by kernel_rfl
theorem qkx:(Tryz.prog.globals[0]?).map (·.type)=some 122:=by kernel_rfl
theorem qmE:Tryz.prog.cellsOf 122=256:=by kernel_rfl
theorem qjA:Tryz.prog.cellsOf 5=1:=by kernel_rfl
theorem tab_of_laid{W:World}(h:laidMetH Tryz.prog Rows.wrapTermsRow.laid W):TabX W:=by
 rw[MakeChecks.laidMetH_plain _ _ _ (by kernel_rfl)] at h
 have h2:=qhM h
 have e:[("strings.asciiSpace",Rows.laid_strings_asciiSpace (H:=Unit))]=("strings.asciiSpace",Lib.tabData .u8 Lib.asciiSpaceTab)::[]:=by kernel_rfl
 have ht:Lib.TabIs Tryz.prog W "strings.asciiSpace" .u8 Lib.asciiSpaceTab:=Lib.tabIs_of_head (rest:=[]) qkK qkx Tryz.underlying122 Tryz.underlying5 qjA qmE (e▸h2)
 exact fun c hc=>by rw[ht.cell qkK c (by rw[Lib.asciiSpaceTab_length];exact hc),Lib.asciiSpaceTab_at c hc]
theorem choice_row{H:Type}{enc:TypeId×Value→H}{W:World}{r:Go.Reach}{b0:Nat}{sp:Nat→Bool}{v:Value}{d:DataW H}{ps:List MemPlace}
  (hval:Value.okWide Tryz.prog W r b0 25 v)(hd:DataW.Trod enc Tryz.prog W 0 sp true 25 v d ps):∃c:List UInt8,qbu W v c:=by
 obtain⟨a0,len,cap,rfl⟩:=okWide_slice Tryz.underlying25 hval
 obtain⟨fuel,hf⟩:=hd
 rcases open_ints Tryz.underlying25 Tryz.underlying5 qjA hf with⟨hcs,_⟩|⟨a,len',cap',zs,hcs,_,hl,hm,hz,_,hcell,hwz⟩
 ·simp[Value.cells] at hcs
  obtain⟨rfl,rfl,rfl⟩:=hcs
  exact⟨[],none,0,0,0,rfl,fun h=>absurd h (by simp),by simp,by simp,fun i x hi=>by simp at hi⟩
 ·simp[Value.cells] at hcs
  obtain⟨rfl,rfl,rfl⟩:=hcs
  have hzl:len≤zs.length:=by rw[hz];split<;>omega
  have hlen:((zs.take len).map fun z=>UInt8.ofNat z.toNat).length =len:=by rw[List.length_map,List.length_take];omega
  refine⟨(zs.take len).map fun z=>UInt8.ofNat z.toNat,some a,cap,a.block,a.off,by rw[hlen],fun h=>?_,by rw[hlen];exact hl,by unfold maxLen at hm;omega,fun i x hi=>?_⟩
  ·have h0:=hcell 0 (by omega)
   obtain⟨R,o,sR⟩:=a
   obtain rfl:sR=none:=by
    rw[show(Addr.add ⟨R,o,sR⟩ 0)=⟨R,o,sR⟩ by simp[Addr.add]] at h0
    exact World.cell?_spot h0
   rfl
  ·have hil:i<len:=by have:=(List.getElem?_eq_some_iff.1 hi).1;omega
   have hiz:i<zs.length:=by omega
   have hw:=hwz (zs.getD i 0) (by rw[List.getD_eq_getElem?_getD,List.getElem?_eq_getElem hiz];exact List.getElem_mem hiz)
   have hb:0≤zs.getD i 0∧zs.getD i 0≤255:=by simpa[Lit.wf,IntKind.min,IntKind.max,IntKind.signed,IntKind.bits] using hw
   have hx:x=UInt8.ofNat (zs.getD i 0).toNat :=by
    rw[List.getElem?_map,List.getElem?_take,if_pos hil,List.getElem?_eq_getElem hiz] at hi
    simp only[Option.map_some,Option.some.injEq] at hi
    rw[←hi,List.getD_eq_getElem?_getD,List.getElem?_eq_getElem hiz];rfl
   have hc:=hcell i hiz
   have h0:=hcell 0 (by omega)
   obtain⟨R,o,sR⟩:=a
   obtain rfl:sR=none:=by
    rw[show(Addr.add ⟨R,o,sR⟩ 0)=⟨R,o,sR⟩ by simp[Addr.add]] at h0
    exact World.cell?_spot h0
   rw[show(⟨R,o,none⟩:Addr).add i=⟨R,o+i,none⟩ by unfold Addr.add;split<;>simp_all] at hc
   rw[hc,hx,UInt8.toNat_ofNat_of_lt' (by show(zs.getD i 0).toNat <256;omega),Int.toNat_of_nonneg hb.1]
theorem u8_in{x:Int}(h:(Lit.int .u8 x).wf =true):0≤x∧x≤255:=by
 simpa[Lit.wf,IntKind.min,IntKind.max,IntKind.signed,IntKind.bits] using h
end Go.Proofs.YtakbenifinnpfaaGreatDoor
namespace Go.Sub
open Go.RowKit
def qaE(w:World)(b:Nat):Prop:=∃cs T,w.heap[b]? =some (.cells cs T (0,0))
theorem qaE.free{w:World}{b:Nat}(h:qaE w b)(o:Nat):w.frozen? ⟨b,o,none⟩=false:=by
 obtain⟨cs,T,h⟩:=h;exact frozen_of_row w b o _ _ h
theorem qaE.lt{w:World}{b:Nat}(h:qaE w b):b<w.heap.size:=by
 obtain⟨cs,T,h⟩:=h;exact(Array.getElem?_eq_some_iff.1 h).1
theorem qaE.keep{w w':World}{b:Nat}(h:qaE w b)(e:b<w.heap.size→w'.heap[b]? =w.heap[b]?):qaE w' b:=by
 have hl:=h.lt
 obtain⟨cs,T,h⟩:=h;exact⟨cs,T,(e hl).trans h⟩
inductive qG(w:World):(Nat→Prop)→Value→List qb→Prop
 |mk (S:Nat→Prop) (p:Option Addr) (cap:Nat) (l:List qb) (b o:Nat) (us:Nat→Value) (T:Nat→Nat→Prop)
   (hp:0<l.length→(p=some ⟨b,o,none⟩∧S b)∧qaE w b) (hlen:l.length≤4611686018427387904)
   (hT:∀i c,i<l.length→T i c→S c∧c≠b) (hd:∀i j c,i<l.length→j<l.length→i≠j→T i c→¬T j c)
   (hc:∀i x,l[i]? =some x→qa5 w b (o+i*3) x.kind x.text (us i))
   (hk:∀i x,l[i]? =some x→qG w (T i) (us i) x.kids):qG w S (.slice p l.length cap) l
theorem qG.at{w:World}{S:Nat→Prop}{v:Value}{l:List qb}(h:qG w S v l):qo w S v l:=by
 induction h with
 |mk S p cap l b o us T hp hlen hT hd hc hk ih=>
  refine .mk p cap l b o us (fun h=>(hp h).1) hlen hc fun i x hx=>?_
  have hi:i<l.length:=(List.getElem?_eq_some_iff.1 hx).1
  exact(ih i x hx).mono fun c h=>(hT i c hi h).1
theorem qG.keep{w w':World}{S S':Nat→Prop}{v:Value}{l:List qb}(h:qG w S v l)(hc:∀b o c,S b→w.cell? ⟨b,o,none⟩=some c→w'.cell? ⟨b,o,none⟩=some c)(hf:∀b,S b→qaE w b→qaE w' b)(hS:∀b,S b→S' b):qG w' S' v l:=by
 induction h generalizing S' with
 |mk S p cap l b o us T hp hlen hT hd hcl hk ih=>
  refine .mk S' p cap l b o us T (fun h=>⟨⟨(hp h).1.1,hS _ (hp h).1.2⟩,hf _ (hp h).1.2 (hp h).2⟩) hlen (fun i c hi ht=>⟨hS _ (hT i c hi ht).1,(hT i c hi ht).2⟩) hd (fun i x hx=>?_) (fun i x hx=>?_)
  ·have h0:0<l.length:=by have:=(List.getElem?_eq_some_iff.1 hx).1;omega
   exact(hcl i x hx).keep fun o c h=>hc b o c (hp h0).1.2 h
  ·have hi:i<l.length:=(List.getElem?_eq_some_iff.1 hx).1
   exact ih i x hx (fun b o c hb hcb=>hc b o c (hT i b hi hb).1 hcb) (fun b hb=>hf b (hT i b hi hb).1) fun _ h=>h
theorem qG.mono{w:World}{S S':Nat→Prop}{v:Value}{l:List qb}(h:qG w S v l)(hS:∀b,S b→S' b):qG w S' v l:=h.keep (fun _ _ _ _ h=>h) (fun _ _ h=>h) hS
theorem qG.stays{w w':World}{S:Nat→Prop}{v:Value}{l:List qb}(h:qG w S v l)(hb:Below w.heap.size w w'):qG w' S v l:=
 h.keep (fun b o _ _ hc=>(hb.cell (p:=⟨b,o,none⟩) (World.block_lt_of_cell? _ _ hc)).trans hc) (fun b _ h=>h.keep fun hl=>hb.block b hl) fun _ h=>h
theorem qG.keeps{w w':World}{S O:Nat→Prop}{v:Value}{l:List qb}(h:qG w S v l)(hk:qe O w w')(hO:∀b,S b→¬O b):qG w' S v l:=
 h.keep (fun _ _ _ hs hc=>hk.cell hc (hO _ hs)) (fun b hs h=>h.keep fun hl=>hk.block b hl (hO b hs)) fun _ h=>h
theorem qG.nil(w:World)(S:Nat→Prop):qG w S (.slice none 0 0) []:=
 .mk S none 0 [] 0 0 (fun _=>.slice none 0 0) (fun _ _=>False) (fun h=>absurd h (by simp)) (by simp) (fun i c h=>by simp at h) (fun i j c h=>by simp at h) (fun i x h=>by simp at h) (fun i x h=>by simp at h)
theorem qG.of_own{w:World}{base:Nat}{e:TypeId}{S:Nat→Prop}{v:Value}{l:List qb}{us:List Value}{T:Nat→Nat→Prop}(h:w.ownsRow base e 3 v l.length (qF l us))(hl:us.length=l.length)(hn:l.length≤4611686018427387904)
  (hS:∀g,some g=v.ownBlock→S g)(hT:∀i c,i<l.length→T i c→S c∧some c≠v.ownBlock)(hd:∀i j c,i<l.length→j<l.length→i≠j→T i c→¬T j c)
  (hk:∀(i:Nat) x u,l[i]? =some x→us[i]? =some u→qG w (T i) u x.kids):qG w S v l:=by
 have hget:∀i x,l[i]? =some x→us[i]? =some (us.getD i (.slice none 0 0)):=fun i x hx=>by
  have hi:i<us.length:=by have:=(List.getElem?_eq_some_iff.1 hx).1;omega
  rw[List.getD_eq_getElem?_getD,List.getElem?_eq_getElem hi];rfl
 rcases h.2 with⟨rfl,h0⟩|⟨g,cap,cur,rfl,hb,hg,hnc,hcm,hcs,htake⟩
 ·have:l=[]:=List.eq_nil_of_length_eq_zero h0
  subst this
  exact .nil w S
 ·have cell:∀j c,(qF l us)[j]? =some c→w.cell? ⟨g,j,none⟩=some c:=fun j c hc=>by
   have hx:=(World.ownsRow.cells (g:=g) h rfl) j c hc
   rwa [qcu] at hx
  refine .mk S _ cap l g 0 (fun i=>us.getD i (.slice none 0 0)) T (fun _=>⟨⟨rfl,hS g rfl⟩,⟨_,_,hg⟩⟩) hn (fun i c hi ht=>⟨(hT i c hi ht).1,fun e=>(hT i c hi ht).2 (by rw[e];rfl)⟩) hd (fun i x hx=>?_) (fun i x hx=>hk i x _ hx (hget i x hx))
  obtain⟨c0,c1,c2⟩:=qeE hx (hget i x hx)
  rw[Nat.zero_add]
  exact⟨cell _ _ c0,cell _ _ c1,cell _ _ c2⟩
def qi8(w:World)(Q:Nat→Prop)(b o:Nat)(x:qb):Prop:=∃u,qa5 w b o x.kind x.text u∧qo w Q u x.kids
def Hole(w:World)(Q:Nat→Prop)(b o:Nat)(T:Nat→Prop)(root:World→qb→Prop)(f:qb→qb):Prop:=
 ∀w' x,(∀c q v,¬(c=b∧o≤q∧q<o+3)→¬T c→w.cell? ⟨c,q,none⟩=some v→w'.cell? ⟨c,q,none⟩=some v)→qi8 w' Q b o x→root w' (f x)
theorem Hole.kid{w:World}{Q:Nat→Prop}{b o:Nat}{S T:Nat→Prop}{root:World→qb→Prop}{f:qb→qb}{m:qb}{p:Option Addr}{n cap:Nat}(h:Hole w Q b o T root f)(hQ:∀c,T c→Q c)(hT:∀c,S c→T c)(hb:¬T b)(hm:qa5 w b o m.kind m.text (.slice p n cap))(hk:qG w S (.slice p n cap) m.kids)
  {i:Nat}{k:qb}(hi:m.kids[i]? =some k):
  ∃g og u S',p=some ⟨g,og,none⟩∧qa5 w g (og+i*3) k.kind k.text u∧qG w S' u k.kids∧¬S' g∧T g∧qaE w g∧(∀c,S' c→S c)∧Hole w Q g (og+i*3) S' root (fun y=>f (.mk m.kind m.text (m.kids.set i y))):=by
 generalize hv:Value.slice p n cap=v at hk hm
 cases hk with
 |mk S p' cap' l g og us Tf hp hlen hTf hd hcl hkd=>
  cases hv
  have hil:i<m.kids.length:=(List.getElem?_eq_some_iff.1 hi).1
  have hpl:=hp (by omega)
  have hpg:=hpl.1
  refine⟨g,og,us i,Tf i,hpg.1,hcl i k hi,hkd i k hi,fun h=>(hTf i g hil h).2 rfl,hT g hpg.2,hpl.2,fun c hc=>(hTf i c hil hc).1,?_⟩
  rintro w' x hkeep ⟨u,hxu,hxk⟩
  have hgb:g≠b:=fun e=>hb (e▸hT g hpg.2)
  refine h w' _ (fun c q v h1 h2 hc=>hkeep c q v (fun e=>h2 (e.1▸hT g hpg.2)) (fun e=>h2 (hT c (hTf i c hil e).1)) hc) ⟨.slice p m.kids.length cap,?_,?_⟩
  ·simp only[qb.kind_mk,qb.text_mk]
   exact hm.keep fun o' c hc=>hkeep b o' c (fun e=>hgb e.1.symm) (fun e=>hb (hT b (hTf i b hil e).1)) hc
  ·rw[qb.kids_mk]
   have hlenE:(m.kids.set i x).length =m.kids.length:=by simp
   have key:=qo.mk (w:=w') (S:=Q) p cap (m.kids.set i x) g og (fun j=>if j=i then u else us j) (fun _=>⟨hpg.1,hQ _ (hT _ hpg.2)⟩) (by rw[hlenE];exact hlen) ?_ ?_
   ·rwa [hlenE] at key
   ·intro j y hy
    rw[List.getElem?_set] at hy
    by_cases hji:i=j
    ·subst hji
     rw[if_pos rfl,if_pos hil] at hy
     cases hy
     rw[if_pos rfl]
     exact hxu
    ·rw[if_neg hji] at hy
     rw[if_neg (fun e=>hji e.symm)]
     obtain⟨q0,q1,q2⟩:=hcl j y hy
     have hj:j<m.kids.length:=(List.getElem?_eq_some_iff.1 hy).1
     have ng:¬Tf i g:=fun h=>(hTf i g hil h).2 rfl
     exact⟨hkeep g _ _ (by omega) ng q0,hkeep g _ _ (by omega) ng q1,hkeep g _ _ (by omega) ng q2⟩
   ·intro j y hy
    rw[List.getElem?_set] at hy
    by_cases hji:i=j
    ·subst hji
     rw[if_pos rfl,if_pos hil] at hy
     cases hy
     rw[if_pos rfl]
     exact hxk
    ·rw[if_neg hji] at hy
     rw[if_neg (fun e=>hji e.symm)]
     have hj:j<m.kids.length:=(List.getElem?_eq_some_iff.1 hy).1
     exact(hkd j y hy).at.keep (fun c q v hc hcell=>hkeep c q v (fun e=>(hTf j c hj hc).2 e.1) (hd j i c hj hil (fun e=>hji e.symm) hc) hcell) fun c hc=>hQ c (hT c (hTf j c hj hc).1)
theorem qg7(w:World)(k:Int)(t:ByteArray)(u:Value)(T:TypeId):qa5 (w.alloc (.cells #[.int .i64 k,.string t,u] T)) w.heap.size 0 k t u∧Below w.heap.size w (w.alloc (.cells #[.int .i64 k,.string t,u] T))∧(w.alloc (.cells #[.int .i64 k,.string t,u] T)).heap.size =w.heap.size+1:=by
 have h1:=World.alloc_heap_new w (.cells #[.int .i64 k,.string t,u] T)
 exact⟨⟨qa h1 rfl,qa h1 rfl,qa h1 rfl⟩,(Below.refl _ _).alloc (Nat.le_refl _) _,by simp⟩
theorem qa5.stays{w w':World}{b o:Nat}{k:Int}{t:ByteArray}{u:Value}(h:qa5 w b o k t u)(hb:Below w.heap.size w w'):qa5 w' b o k t u:=
 h.keep fun o _ hc=>(hb.cell (p:=⟨b,o,none⟩) (World.block_lt_of_cell? _ _ hc)).trans hc
theorem qal(w:World)(X o:Nat)(u:Value){O:Nat→Prop}(hO:O X):qe O w (w.setCell ⟨X,o,none⟩ u):=
 ⟨rfl,rfl,rfl,by simp,fun b _ hb=>heap_setCell_other w _ b u fun e=>hb (by rw[e];exact hO)⟩
theorem put3(w:World)(g o:Nat){k:Int}{t:ByteArray}{u:Value}(h:qa5 w g o k t u)(hl:qaE w g)(a b c:Value):
  ∀w',((w.setCell ⟨g,o,none⟩ a).setCell ⟨g,o+1,none⟩ b).setCell ⟨g,o+2,none⟩ c=w'→
  (w'.cell? ⟨g,o,none⟩=some a∧w'.cell? ⟨g,o+1,none⟩=some b∧w'.cell? ⟨g,o+2,none⟩=some c)∧(∀d q v,¬(d=g∧o≤q∧q<o+3)→w.cell? ⟨d,q,none⟩=some v→w'.cell? ⟨d,q,none⟩=some v)∧qe (fun d=>d=g) w w'∧w'.heap.size=w.heap.size∧qaE w' g:=by
 rintro w' rfl
 obtain⟨cs,T,hb⟩:=hl
 have e0:=heap_setCell_same w g o _ _ a hb
 have e1:=heap_setCell_same _ g (o+1) _ _ b e0
 have e2:=heap_setCell_same _ g (o+2) _ _ c e1
 have hk:qe (fun d=>d=g) w (((w.setCell ⟨g,o,none⟩ a).setCell ⟨g,o+1,none⟩ b).setCell ⟨g,o+2,none⟩ c):=(((qal w g o a (O:=fun d=>d=g) rfl).trans (qal _ g (o+1) b (O:=fun d=>d=g) rfl)).trans (qal _ g (o+2) c (O:=fun d=>d=g) rfl))
 refine⟨⟨?_,?_,?_⟩,?_,hk,by simp,⟨_,_,e2⟩⟩
 ·rw[World.cell?_setCell_other _ _ _ _ (by simp),World.cell?_setCell_other _ _ _ _ (by simp)]
  exact World.cell?_setCell_same _ _ _ h.1
 ·rw[World.cell?_setCell_other _ _ _ _ (by simp)]
  exact World.cell?_setCell_same _ _ _ (by rw[World.cell?_setCell_other _ _ _ _ (by simp)];exact h.2.1)
 ·exact World.cell?_setCell_same _ _ _ (by rw[World.cell?_setCell_other _ _ _ _ (by simp),World.cell?_setCell_other _ _ _ _ (by simp)];exact h.2.2)
 ·intro d q v hne hv
  rw[World.cell?_setCell_other _ _ _ _ (fun e=>by cases e;exact hne ⟨rfl,by omega,by omega⟩),World.cell?_setCell_other _ _ _ _ (fun e=>by cases e;exact hne ⟨rfl,by omega,by omega⟩),World.cell?_setCell_other _ _ _ _ (fun e=>by cases e;exact hne ⟨rfl,by omega,by omega⟩)]
  exact hv
theorem qhY{a b:ByteArray}(h:a.toList=b.toList):a=b:=by
 rw[ByteArray.toList_eq,ByteArray.toList_eq] at h
 exact ByteArray.ext (Array.toList_inj.1 h)
theorem qfV{n m:qb}(h:n≠m):eqN n m=false:=by
 cases he:eqN n m
 ·rfl
 ·exact absurd ((qct n m).1 he) h
theorem qib{α:Type}{l l':List α}{j:Nat}{x y:α}(h:l.take j=l'.take j)(hx:l[j]? =some x)(hy:l'[j]? =some y)(e:x=y):l.take (j+1)=l'.take (j+1):=by
 subst e
 rw[List.take_add_one,List.take_add_one,h,hx,hy]
theorem ql7{w:World}{b e sz n:Nat}{v:Value}{xs:List Value}(h:w.ownsRow b e sz v (n+1) xs):∃g cap,v=.slice (some ⟨g,0,none⟩) (n+1) cap:=by
 rcases h.2 with⟨_,h⟩|⟨g,cap,cur,h,_⟩
 ·omega
 ·exact⟨g,cap,h⟩
theorem qfZ{w:World}{base:Nat}{e:TypeId}{size:Nat}{v:Value}{n:Nat}{xs:List Value}(h:w.ownsRow base e size v n xs):∃p c,v=.slice p n c∧n≤c:=by
 rcases h.2 with⟨rfl,rfl⟩|⟨g,cap,cur,rfl,_,_,hc,_⟩
 ·exact⟨none,0,rfl,Nat.le_refl _⟩
 ·exact⟨_,cap,rfl,hc⟩
theorem qlb(w:World)(cs:List Value)(T:TypeId):∀(j:Nat) u,cs[j]? =some u→(w.alloc (.cells cs.toArray T)).cell? ((⟨w.heap.size,0,none⟩:Addr).add j)=some u:=by
 intro j u hu
 have hb:=World.alloc_heap_new w (.cells cs.toArray T)
 rw[qcu]
 exact qa hb (by rw[List.getElem?_toArray];exact hu)
structure qcG(W1:World)(N:Nat)(e:TypeId)(l:List qb)(j:Nat)(v:Value)(us:List Value)(T:Nat→Nat→Prop)(wr:World):Prop where
 own:wr.ownsRow N e 3 v j (qF (l.take j) us)
 len:us.length=j
 bel:Below W1.heap.size W1 wr
 low:∀i c,i<j→T i c→N≤c∧c<wr.heap.size∧some c≠v.ownBlock
 dis:∀i k c,i<j→k<j→i≠k→T i c→¬T k c
 kids:∀(i:Nat) x u,l[i]? =some x→us[i]? =some u→qG wr (T i) u x.kids
theorem qcG.start(W1:World)(N:Nat)(e:TypeId)(l:List qb):qcG W1 N e l 0 (.slice none 0 0) [] (fun _ _=>False) W1:=
 ⟨World.ownsRow_nil _ _ _ _,rfl,Below.refl _ _,fun i c h=>by omega,fun i k c h=>by omega,fun i x u _ h=>by simp at h⟩
theorem qcG.next{W1 wr w1 w2 w3:World}{N:Nat}{e:TypeId}{l:List qb}{j:Nat}{v v' u:Value}{us:List Value}{T:Nat→Nat→Prop}{x:qb}(h:qcG W1 N e l j v us T wr)(hN:W1.heap.size≤N)(hN2:N≤wr.heap.size)(hx:l[j]? =some x)
  (hb1:Below wr.heap.size wr w1)(hk:qG w1 (fun c=>wr.heap.size≤c∧c<w1.heap.size) u x.kids)(hb2:Below w1.heap.size w1 w2)
  (hown:w3.ownsRow N e 3 v' (j+1) (qF (l.take j) us++[.int .i64 x.kind,.string x.text,u]))(hkeep:qe (fun b=>some b=v.ownBlock) w2 w3)(hnew:v'.ownBlock=v.ownBlock∨v'.ownBlock=some w2.heap.size):
  qcG W1 N e l (j+1) v' (us++[u]) (fun i c=>if i=j then wr.heap.size≤c∧c<w1.heap.size else T i c) w3:=by
 have hlen:=h.len
 have hj:j<l.length:=(List.getElem?_eq_some_iff.1 hx).1
 have hw:∀c,some c=v.ownBlock→N≤c∧c<wr.heap.size:=fun c hc=>h.own.lt c hc.symm
 have hs3:w2.heap.size≤w3.heap.size:=hkeep.size
 have hs2:w1.heap.size≤w2.heap.size:=hb2.size
 have hs1:wr.heap.size≤w1.heap.size:=hb1.size
 have fresh:∀c,c<w2.heap.size→some c≠v.ownBlock→some c≠v'.ownBlock:=fun c hc hn e=>by
  rcases hnew with h|h
  ·exact hn (e.trans h)
  ·rw[h] at e;cases e;omega
 refine⟨?_,by simp[hlen],?_,?_,?_,?_⟩
 ·rw[show l.take (j+1)=l.take j++[x] by rw[List.take_add_one,hx];rfl,qbw x u _ _ (by rw[List.length_take];omega)]
  exact hown
 ·refine(h.bel.trans (hb1.mono h.bel.size)).trans ((hb2.mono (Nat.le_trans h.bel.size hs1)).trans (hkeep.below (Nat.le_trans (Nat.le_trans h.bel.size hs1) hs2) fun b hb=>?_))
  have:=(hw b hb).1;omega
 ·intro i c hi ht
  by_cases e:i=j
  ·rw[if_pos e] at ht
   refine⟨by omega,by omega,fresh c (by omega) fun e=>?_⟩
   have:=(hw c e).2;omega
  ·rw[if_neg e] at ht
   obtain⟨a,b,c'⟩:=h.low i c (by omega) ht
   exact⟨a,by omega,fresh c (by omega) c'⟩
 ·intro i k c hi hk' hne ht hT
  by_cases e:i=j
  ·rw[if_pos e] at ht
   rw[if_neg (by omega)] at hT
   have:=(h.low k c (by omega) hT).2.1;omega
  ·rw[if_neg e] at ht
   by_cases e2:k=j
   ·rw[if_pos e2] at hT
    have:=(h.low i c (by omega) ht).2.1;omega
   ·rw[if_neg e2] at hT
    exact h.dis i k c (by omega) (by omega) hne ht hT
 ·intro i y u' hy hu'
  by_cases e:i=j
  ·subst e
   rw[hx] at hy;cases hy
   rw[List.getElem?_append_right (by omega),hlen,Nat.sub_self] at hu'
   obtain rfl:u=u':=by simpa using hu'
   have:=(hk.stays hb2).keeps hkeep (fun b hb e=>by have:=(hw b e).2;omega)
   simpa using this
  ·have hi:i<us.length:=by
    have:=(List.getElem?_eq_some_iff.1 hu').1
    rw[List.length_append,List.length_singleton] at this;omega
   rw[List.getElem?_append_left hi] at hu'
   have:=(((h.kids i y u' hy hu').stays hb1).stays hb2).keeps hkeep (fun b hb=>(h.low i b (by omega) hb).2.2)
   simpa[e] using this
theorem qcG.done{W1 wr:World}{N:Nat}{e:TypeId}{l:List qb}{v:Value}{us:List Value}{T:Nat→Nat→Prop}(h:qcG W1 N e l l.length v us T wr)(hl:l.length≤4611686018427387904):qG wr (fun c=>N≤c∧c<wr.heap.size) v l:=by
 have ho:=h.own
 rw[List.take_length] at ho
 exact qG.of_own ho h.len hl (fun g hg=>ho.lt g hg.symm) (fun i c hi ht=>⟨⟨(h.low i c hi ht).1,(h.low i c hi ht).2.1⟩,(h.low i c hi ht).2.2⟩) h.dis h.kids
def NBox(w:World)(B:Nat)(T:TypeId)(k:Int)(t:ByteArray)(u:Value):Prop:=w.heap[B]? =some (.cells #[.int .i64 k,.string t,u] T (0,0))
theorem NBox.stays{w w':World}{B:Nat}{T:TypeId}{k:Int}{t:ByteArray}{u:Value}(h:NBox w B T k t u)(hb:Below w.heap.size w w'):NBox w' B T k t u:=
 (hb.block B (Array.getElem?_eq_some_iff.1 h).1).trans h
theorem NBox.keeps{w w':World}{O:Nat→Prop}{B:Nat}{T:TypeId}{k:Int}{t:ByteArray}{u:Value}(h:NBox w B T k t u)(hk:qe O w w')(hO:¬O B):NBox w' B T k t u:=hk.heap h hO
theorem NBox.cells{w:World}{B:Nat}{T:TypeId}{k:Int}{t:ByteArray}{u:Value}(h:NBox w B T k t u):
  w.cell? ⟨B,0,none⟩=some (.int .i64 k)∧w.cell? ⟨B,1,none⟩=some (.string t)∧w.cell? ⟨B,2,none⟩=some u:=⟨qa h rfl,qa h rfl,qa h rfl⟩
theorem NBox.free{w:World}{B:Nat}{T:TypeId}{k:Int}{t:ByteArray}{u:Value}(h:NBox w B T k t u):
  w.frozen? ⟨B,0,none⟩=false∧w.frozen? ⟨B,1,none⟩=false∧w.frozen? ⟨B,2,none⟩=false:=⟨frozen_of_row w B 0 _ _ h,frozen_of_row w B 1 _ _ h,frozen_of_row w B 2 _ _ h⟩
theorem NBox.lt{w:World}{B:Nat}{T:TypeId}{k:Int}{t:ByteArray}{u:Value}(h:NBox w B T k t u):B<w.heap.size:=(Array.getElem?_eq_some_iff.1 h).1
theorem NBox.put{w:World}{B:Nat}{T:TypeId}{k k':Int}{t t':ByteArray}{u u':Value}(h:NBox w B T k t u):
  NBox (((w.setCell ⟨B,0,none⟩ (.int .i64 k')).setCell ⟨B,1,none⟩ (.string t')).setCell ⟨B,2,none⟩ u') B T k' t' u'∧qe (fun b=>b=B) w (((w.setCell ⟨B,0,none⟩ (.int .i64 k')).setCell ⟨B,1,none⟩ (.string t')).setCell ⟨B,2,none⟩ u'):=by
 have e0:=heap_setCell_same w B 0 _ _ (.int .i64 k') h
 have e1:=heap_setCell_same _ B 1 _ _ (.string t') e0
 have e2:=heap_setCell_same _ B 2 _ _ u' e1
 have hO:(fun b=>b=B) B:=rfl
 exact⟨e2,((qal _ _ _ _ (O:=fun b=>b=B) hO).trans (qal _ _ _ _ hO)).trans (qal _ _ _ _ hO)⟩
theorem qiA(w:World)(T:TypeId)(k:Int)(t:ByteArray)(u:Value):NBox (w.alloc (.cells #[.int .i64 k,.string t,u] T)) w.heap.size T k t u:=World.alloc_heap_new w _
theorem NBox.two{w:World}{B:Nat}{T:TypeId}{k k':Int}{t t':ByteArray}{u u':Value}(h:NBox w B T k t u)(h':NBox w B T k' t' u'):k=k'∧t=t'∧u=u':=by
 unfold NBox at h h'
 rw[h] at h'
 simp only[Option.some.injEq,Obj.cells.injEq,Array.mk.injEq,List.cons.injEq,Value.int.injEq,Value.string.injEq,true_and,and_true] at h'
 exact h'
theorem qa5.zero{w:World}{b:Nat}{k:Int}{t:ByteArray}{u:Value}(h:qa5 w b 0 k t u):w.cell? ⟨b,0,none⟩=some (.int .i64 k)∧w.cell? ⟨b,1,none⟩=some (.string t)∧w.cell? ⟨b,2,none⟩=some u:=h
theorem qG.loose{w:World}{S:Nat→Prop}{v:Value}{l:List qb}(h:qG w S v l):qo w (fun c=>S c∧qaE w c) v l:=by
 induction h with
 |mk S p cap l b o us T hp hlen hT hd hc hk ih=>
  refine .mk p cap l b o us (fun h=>⟨(hp h).1.1,(hp h).1.2,(hp h).2⟩) hlen hc fun i x hx=>?_
  have hi:i<l.length:=(List.getElem?_eq_some_iff.1 hx).1
  exact(ih i x hx).mono fun c h=>⟨(hT i c hi h.1).1,h.2⟩
theorem qaE.keeps{w w':World}{O:Nat→Prop}{b:Nat}(h:qaE w b)(hk:qe O w w')(hO:¬O b):qaE w' b:=h.keep fun hl=>hk.block b hl hO
theorem qaE.stays{w w':World}{b:Nat}(h:qaE w b)(hb:Below w.heap.size w w'):qaE w' b:=h.keep fun hl=>hb.block b hl
end Go.Sub
