/-
  Lemmas and walks for coreBurst.proved, joined and squeezed by a program out of the loose texts J01, J02, J03, J12. Conditions: each theorem states its own.
-/
import Derived.Below
import Derived.WalkKit
import Derived.Test.YtbejdajkkoapgaaGreatDoorRows
import Derived.WalkSpells
import Derived.WalkLawsBesides
import Derived.Lib.Mul64
import Derived.Laws.Bits64b
import Derived.BigQuiet
import Derived.Deep.QuietTactic
import Derived.Deep.RegionHeld3
import Derived.Laws.StructEq
import Derived.LoopN
import Derived.Lib.Hide
import Derived.Deep.LoopGhost
import Derived.Deep.CutBlock
import Derived.Deep.CutRange
import Derived.Lib.SliceRun
import Derived.OwnWalk
import Derived.Shelf.Spec.SlicesInsertGrow
import Derived.Maps.AppendAt
import Derived.Laws.BitsAllLaws
import Derived.Lib.Strings
import Derived.Lib.BufferRead
import Derived.Lib.AppendStr
import Derived.Laws.IdiomStrings
set_option linter.all false
open Go.RowKit Go.Lib Go.Proofs.Tryz
open Array renaming length_toList->fw
open Bool renaming and_eq_true->iE
open Go renaming Calls->C,Value->V,World->W
open Go.Addr renaming add_lit->bw,mk.injEq->iP
open Go.Ending renaming returned->R
open Go.IntKind renaming bits->iW,i64->J,signed->iX,u64->U,wrap->iV,wrap_i64->iR,wrap_u64->ag
open Go.RowKit renaming Below->B
open Go.Value renaming int->I,pointer->P,slice->L,tuple->T
open Int renaming eq_ofNat_of_zero_le->iL,natCast_add->iK
open List renaming append_assoc->bh,cons.injEq->gj,cons_append->ej,drop_of_length_le->iN,drop_succ_cons->gg,drop_zero->iJ,eq_nil_of_length_eq_zero->gZ,flatMap_append->gQ,foldl_cons->iH,getElem_cons_succ->gh,getElem_cons_zero->iI,getElem_mem->gR,length_append->Jx,length_cons->fk,length_drop->RR,length_nil->iB,length_take->Q0,mem_cons_of_mem->fa,mem_cons_self->fp,mem_of_mem_drop->iQ,nil_append->gS,range->iU,set_cons_succ->gc,size_toArray->gT,take_append_of_le_length->gV,take_length->iC,take_of_length_le->gi,take_succ_cons->gd,take_succ_eq_append_getElem->iD,take_take->iM,toList_toArray->gU
open Nat renaming add_mul->fy,le_div_iff_mul_le->gy,le_of_not_lt->gu,le_refl->E,le_trans->fj,log2->Pa,lt_of_lt_of_le->hZ,min->aw,min_def->iA,mod_two_eq_zero_or_one->iS,mul_assoc->iG,mul_comm->gY,mul_le_mul_right->fx,one_le_two_pow->gX,pow_add->gv,pow_le_pow_right->iF,pow_succ->gW,xor_lt_two_pow->iT,zero_add->es,zero_le->dT
open Option renaming none->N,some->S,some.injEq->iO
open UInt8 renaming ofNat->V0,toNat->gm
namespace Go.Proofs.YtbejdajkkoapgaaGreatDoor
theorem Zp{α:Type _}{l:List α}{i}{a:α}:l.toArray.setIfInBounds i a=(l.set i a).toArray:=List.setIfInBounds_toArray ..
theorem Zq{α:Type _}{l:List α}{x b:α}:(x::l).set 0 b=b::l:=rfl
theorem Zr{α:Type _}{l:List α}{i}{x b:α}:(x::l).set (i+1) b=x::l.set i b:=rfl
theorem Zh{p:Prop}(h:p):RowKit.Hid p:=Lib.hid h
theorem Za{w o}:RowKit.Below w.heap.size w (w.alloc o):=(RowKit.Below.refl _ _).alloc (E _) _
theorem Zt{P:Program}{D Q}{md:Region.Mode}(N){i oi v fuel}{A:Array Bool}{a w}(_:i+(fuel+1)=N)(hi:D[i]? =S oi)(F:(Region.noSelect D&&(Region.free md D A i&&(Region.ready md D A).contains i))=true)(K:∀c a w,Q (.panic c) (a.put oi.dst v) w->Q (.panic c) a w)(G:Region.wanted oi (yielded D a.tmps)=true)(H:∀w,(execOp a.eval oi).run P w=.ok (.value v) w)(h:wpAny P md D Q fuel (A.setIfInBounds i true) (a.put oi.dst v) w):wpAny P md D Q (fuel+1) A a w:=by
 simp only[iE]at F;exact wpAny_take hi F.1 F.2.1 F.2.2 K (.inl ⟨G,H⟩) h
theorem Zu{P:Program}{D Q}{S:W->Prop}{md:Region.Mode}(N){i oi v fuel}{A:Array Bool}{a w}(_:i+(fuel+1)=N)(hi:D[i]? =some oi)(F:(Region.noSelect D&&(Region.free md D A i&&(Region.ready md D A).contains i))=true)(K:∀c a w,Q (.panic c) (a.put oi.dst v) w->Q (.panic c) a w)(G:Region.wanted oi (yielded D a.tmps)=true)(H:∀w,S w->(execOp a.eval oi).run P w=.ok (.value v) w)(M:S w)(h:wpAnyH P md D Q S fuel (A.setIfInBounds i true) (a.put oi.dst v) w):wpAnyH P md D Q S (fuel+1) A a w:=by
 simp only[iE]at F;exact wpAnyH_take hi F.1 F.2.1 F.2.2 K (.inl ⟨G,H⟩) M h
theorem Zo{p:Prop}(h:p:=by omega):p:=h
theorem Zd{p:Prop}(h:p:=by decide):p:=h
theorem Zk{p:Prop}(h:p:=by kernel_rfl):p:=h
theorem Zs{p:Prop}(h:p:=by simp):p:=h
theorem Zi{a b:Prop}(h:a)(k:b):a/\b:=⟨h,k⟩
abbrev AL:=List (Nat×Nat)
def Bn(p:Nat->Bool):AL->Nat
 | []=>0
 |x::l=>(if p x.1 then x.2 else 0)+Bn p l
def AB(l:AL):Nat:=Bn (λ_=>true) l
def AP(l:AL)(v:Nat):Nat:=Bn (λi=>i==v) l
def Ak:AL->Nat->Nat->AL
 | [],v,c=> [(v,c)]
 |x::l,v,c=>if x.1<v then x::Ak l v c else if x.1=v then(x.1,x.2+c)::l else(v,c)::x::l
def BY:AL->Nat->Nat
 | [],_=>0
 |x::l,v=>if x.1<v then BY l v+1 else 0
def AT:AL->Prop
 | []=>True
 |x::l=>(∀y∈l,x.1<y.1)/\AT l
def Bh(l:AL):Prop:=∀x∈l,1<=x.2
theorem AQ(p)(x:Nat×Nat)(l:AL):Bn p (x::l)=(if p x.1 then x.2 else 0)+Bn p l:=rfl
theorem DB(p)(l:AL)(v c):Bn p (Ak l v c)=Bn p l+(if p v then c else 0):=by
 induction l with
 |nil=>simp[Ak,Bn]
 |cons x l A=>
  unfold Ak;split
  ·rw[AQ,AQ,A];omega
  ·split
   ·rename_i h;rw[AQ,AQ,<-h];split<;>omega
   ·rw[AQ,AQ];simp only;omega
theorem Bv(p)(l m:AL):Bn p (l++m)=Bn p l+Bn p m:=by
 induction l with
 |nil=>simp[Bn]
 |cons x l A=>rw[ej,AQ,AQ,A];omega
theorem PY(p q)(l:AL)(h:∀x∈l,p x.1=true->q x.1=true):Bn p l<=Bn q l:=by
 induction l with
 |nil=>exact E _
 |cons x l D=>
  have H:=D λy G=>h y (fa _ G);have F:=h x fp;rw[AQ,AQ];cases A:p x.1
  ·simp;omega
  ·rw[F A];simp;omega
theorem F0(p)(l:AL)(h:∀x∈l,p x.1=false):Bn p l=0:=by
 induction l with
 |nil=>rfl
 |cons x l A=>rw[AQ,A λy D=>h y (fa _ D),h x fp];rfl
theorem PZ(p q:Nat->Bool)(l:AL):Bn p l=Bn (λi=>p i&&q i) l+Bn (λi=>p i&& !q i) l:=by
 induction l with
 |nil=>rfl
 |cons x l A=>
  rw[AQ,AQ,AQ,A];cases p x.1<;>cases q x.1<;>simp<;>omega
theorem Gg{l:AL}{v c}{x:Nat×Nat}(h:x∈Ak l v c):x∈l\/x.1=v:=by
 induction l with
 |nil=>simp[Ak]at h;exact .inr (by rw[h])
 |cons y l A=>
  unfold Ak at h;split at h
  ·rcases List.mem_cons.1 h with rfl|h
   ·exact .inl fp
   ·rcases A h with h|h
    ·exact .inl (fa _ h)
    ·exact .inr h
  ·split at h
   ·rcases List.mem_cons.1 h with rfl|h
    ·rename_i e;exact .inr e
    ·exact .inl (fa _ h)
   ·rcases List.mem_cons.1 h with rfl|h
    ·exact .inr rfl
    ·exact .inl h
theorem Ca{l:AL}{v c}(h:Bh l)(F:1<=c):Bh (Ak l v c):=by
 induction l with
 |nil=>intro x A;simp[Ak]at A;rw[A];exact F
 |cons y l H=>
  have D:Bh l:=λx A=>h x (fa _ A);have G:=h y fp;intro x A;unfold Ak at A;split at A
  ·rcases List.mem_cons.1 A with rfl|A
   ·exact G
   ·exact H D x A
  ·split at A
   ·rcases List.mem_cons.1 A with rfl|A
    ·show 1<=y.2+c;omega
    ·exact D x A
   ·rcases List.mem_cons.1 A with rfl|A
    ·exact F
    ·exact h x A
theorem Bg{l:AL}{v c}(h:AT l):AT (Ak l v c):=by
 induction l with
 |nil=>exact⟨λy K=>by simp at K,trivial⟩
 |cons y l H=>
  obtain⟨D,F⟩:=h;unfold Ak;split
  ·rename_i G;refine⟨λx A=> ?_,H F⟩;rcases Gg A with A|A
   ·exact D x A
   ·omega
  ·split
   ·exact⟨D,F⟩
   ·refine⟨λx A=> ?_,D,F⟩;show v<x.1;rcases List.mem_cons.1 A with rfl|A
    ·omega
    ·have:=D x A;omega
theorem Cb(l:AL)(v c):(Ak l v c).length<=l.length+1:=by
 induction l with
 |nil=>simp[Ak]
 |cons y l A=>
  unfold Ak;split
  ·simp;omega
  ·split<;>simp
theorem FW{x:Nat×Nat}{l:AL}{v}(h:x.1≠v):AP (x::l) v=AP l v:=by
 unfold AP;rw[AQ];simp[h]
theorem Fg{l:AL}{v}(h:∀y∈l,v<y.1):AP l v=0:=
 F0 _ _ λy A=>by have:=h y A;simp;omega
theorem Be{l:AL}(h:AT l){x:Nat×Nat}(A:x∈l):AP l x.1=x.2:=by
 induction l with
 |nil=>simp at A
 |cons y l F=>
  obtain⟨D,G⟩:=h;rcases List.mem_cons.1 A with rfl|A
  ·unfold AP;rw[AQ];have:=Fg (v:=x.1) D;unfold AP at this;rw[this];simp
  ·rw[FW (by have:=D x A;omega)];exact F G A
abbrev AM:=List (Int×Nat)
def Mg:AM->Int->Nat
 | [],_=>0
 |v::l,x=>(if v.1<=x then v.2 else 0)+Mg l x
def BH:AM->Nat
 | []=>0
 |v::l=>v.2+BH l
theorem Dw(l m:AM)(x):Mg (l++m) x=Mg l x+Mg m x:=by
 induction l with
 |nil=>simp[Mg]
 |cons v l A=>simp only[ej,Mg,A];omega
theorem Cn(l m:AM):BH (l++m)=BH l+BH m:=by
 induction l with
 |nil=>simp[BH]
 |cons v l A=>simp only[ej,BH,A];omega
def UX(d v:Nat):Nat:=2^(d-Pa v)
def bq(d v:Nat):Nat:=v*UX d v-2^d
def Wg(d v:Nat):Nat:=v*UX d v+UX d v-1-2^d
def JN(v:Nat):Nat:=if v % 2=0 then v+1 else v-1
theorem Nq(d v:Nat)(h:1<=v)(H :v<2*2^d):2^Pa v<=v/\v<2^(Pa v+1)/\Pa v<=d:=by
 have F:=Nat.log2_self_le (n:=v) (by omega);have D:=Nat.lt_log2_self (n:=v);refine⟨F,D,?_⟩;refine gu λA=> ?_;have G:2^(d+1)<=2^Pa v:=iF (by decide) A;rw[gW]at G;omega
theorem Th(d v)(h:1<=v)(G :v<2*2^d):1<=UX d v/\2^d<=v*UX d v/\v*UX d v+UX d v<=2*2^d:=by
 obtain⟨H,D,K⟩:=Nq d v h G;have e:2^d=2^Pa v*2^(d-Pa v):=by rw[<-gv];congr 1;omega
 have q:1<=2^(d-Pa v):=gX;have F:=fx (2^(d-Pa v)) H;have A:(v+1)*2^(d-Pa v)<=2^(Pa v+1)*2^(d-Pa v):=fx _ D;rw[gW,Nat.mul_right_comm,<-e,fy]at A;rw[<-e]at F;unfold UX;omega
theorem Z5(d x)(h:x<2^d):bq d (2^d+x)=x/\Wg d (2^d+x)=x:=by
 have F:1<=2^d:=gX;obtain⟨H,G,D⟩:=Nq d (2^d+x) (by omega) (by omega);have e:Pa (2^d+x)=d:=by
  refine Nat.le_antisymm D (gu λA=> ?_);have:2^(Pa (2^d+x)+1)<=2^d:=iF (by decide) A;omega
 unfold bq Wg UX;rw[e];simp
theorem Rr(d v)(h:2<=v)(A :v<2*2^d):2<=JN v/\JN v<2*2^d/\JN v/2=v/2/\JN v≠v:=by
 unfold JN;have:1<=2^d:=gX;split<;>omega
theorem UY(v:Nat)(h:2<=v):Pa v=Pa (v/2)+1:=by
 rw[Nat.log2_def];simp[h]
theorem Pb(d v)(h:2<=v)(A :v<2*2^d):bq d (v/2)<=bq d v/\Wg d v<=Wg d (v/2):=by
 obtain⟨O,K,b⟩:=Nq d v (by omega) A;obtain⟨Z,Y,a⟩:=Th d v (by omega) A;obtain⟨H,M,Q⟩:=Th d (v/2) (by omega) (by omega);have e:=UY v h;have F:UX d (v/2)=2*UX d v:=by
  unfold UX;rw[show d-Pa (v/2)=d-Pa v+1 from by omega,gW];omega
 unfold bq Wg;rw[F]at*;generalize UX d v=x at*;have G:v/2*(2*x)=2*(v/2)*x:=by rw[gY 2 (v/2),iG]
 rw[G]at*;have X:2*(v/2)*x<=v*x:=fx _ (by omega);have D:(v+1)*x<=(2*(v/2)+2)*x:=fx _ (by omega);rw[fy,fy]at D;omega
def Z6(d:Nat)(l:AL)(x:Int):Nat:=Bn (λv=>decide ((Wg d v:Int)<=x)) l
def Ti(d:Nat)(l:AL)(x:Int):Nat:=Bn (λv=>decide ((bq d v:Int)<=x)) l
def CE(d:Nat)(l:AL):Prop:=∀x∈l,1<=x.1/\x.1<2*2^d
def fS(d F:Nat)(l:AL):Prop:=∀x∈l,x.1<2^d->x.2<=AB l/F
structure eD(d:Nat)(l:AL)(vals:AM):Prop where
 rising:AT l
 full:Bh l
 nodes:CE d l
 total:AB l=BH vals
 low:∀x,Z6 d l x<=Mg vals x
 high:∀x,Mg vals x<=Ti d l x
structure Km(d F:Nat)(l:AL)(vals:AM):Prop extends eD d l vals where
 thin:fS d F l
theorem Fh{d}{l:AL}{v c}(h:CE d l)(F:1<=v)(D:v<2*2^d):CE d (Ak l v c):=λx A=>by
 rcases Gg A with A|A
 ·exact h x A
 ·omega
theorem Wm(d):eD d [] []:=⟨trivial,λ_ h=>by simp at h,λ_ h=>by simp at h,rfl,λ_=>E _,λ_=>E _⟩
theorem Wn(d F):Km d F [] []:=⟨Wm d,λ_ h=>by simp at h⟩
theorem EV(l:AL)(v c):AB (Ak l v c)=AB l+c:=by unfold AB;rw[DB];simp
theorem Gh{l:AL}{v c}{x:Nat×Nat}(D:AT l)(h:x∈Ak l v c):x∈l\/x.1=v/\x.2=AP l v+c:=by
 have A:AP (Ak l v c) x.1=x.2:=Be (Bg D) h;rcases Gg h with h|h
 ·exact .inl h
 ·right;refine⟨h,?_⟩;rw[<-A];unfold AP;rw[DB,h];simp
theorem Wo{d F}{l:AL}{vals:AM}(h:Km d F l vals)(x c)(M:x<2^d)(H:1<=c)(hF:1<=F):Km d F (Ak l (2^d+x) c) (vals++ [((x:Int),c)]):=by
 obtain⟨G,K⟩:=Z5 d x M;have O:1<=2^d:=gX;refine⟨⟨Bg h.rising,Ca h.full H,Fh h.nodes (by omega) (by omega),?_,λy=> ?_,λy=> ?_⟩,λy A D=> ?_⟩
 ·rw[EV,Cn,h.total];simp[BH]
 ·have:=h.low y;unfold Z6 at*;rw[DB,Dw,K];simp only[Mg,decide_eq_true_eq];omega
 ·have:=h.high y;unfold Ti at*;rw[DB,Dw,G];simp only[Mg,decide_eq_true_eq];omega
 ·rw[EV];rcases Gh h.rising A with A|A
  ·exact fj (h.thin y A D) (Nat.div_le_div_right (by omega))
  ·omega
def AZ(l m:AL):AL:=m.foldl (λl x=>Ak l x.1 x.2) l
theorem Dx(p)(l m:AL):Bn p (AZ l m)=Bn p l+Bn p m:=by
 unfold AZ;induction m generalizing l with
 |nil=>simp[Bn]
 |cons x m A=>rw[iH,A,DB,AQ];omega
theorem Kn(d)(l m:AL)(h:AT l)(D:Bh l)(F:CE d l)(G:Bh m)(H:CE d m):AT (AZ l m)/\Bh (AZ l m)/\CE d (AZ l m):=by
 unfold AZ;induction m generalizing l with
 |nil=>exact⟨h,D,F⟩
 |cons x m K=>
  rw[iH];have:=H x fp;exact K _ (Bg h) (Ca D (G x fp)) (Fh F this.1 this.2) (λy A=>G y (fa _ A)) (λy A=>H y (fa _ A))
theorem Pd{l:AL}(F:AT l){v b}(h:∀x∈l,x.1=v->x.2<=b):AP l v<=b:=by
 by_cases D:∃x∈l,x.1=v
 ·obtain⟨x,A,rfl⟩:=D;rw[Be F A];exact h x A rfl
 ·have:AP l v=0:=F0 _ _ λx A=>by simp;intro e;exact D ⟨x,A,e⟩
  omega
theorem Mh{d F}{l m:AL}{vals A:AM}(h:Km d F l vals)(k:Km d F m A)(hF:1<=F):Km d F (AZ l m) (vals++A):=by
 obtain⟨H,Y,O⟩:=Kn d l m h.rising h.full h.nodes k.full k.nodes;have K:AB (AZ l m)=AB l+AB m:=Dx _ _ _;refine⟨⟨H,Y,O,?_,λy=> ?_,λy=> ?_⟩,λy Q M=> ?_⟩
 ·rw[K,Cn,h.total,k.total]
 ·have a:=h.low y;have b:=k.low y;unfold Z6 at*;rw[Dx,Dw];omega
 ·have a:=h.high y;have b:=k.high y;unfold Ti at*;rw[Dx,Dw];omega
 ·have X:y.2=AP l y.1+AP m y.1:=by rw[<-Be H Q];exact Dx _ _ _
  have a:AP l y.1<=AB l/F:=Pd h.rising λx G D=>h.thin x G (by omega);have b:AP m y.1<=AB m/F:=Pd k.rising λx G D=>k.thin x G (by omega);rw[K,gy hF];have c :AP l y.1*F<=AB l:=(gy hF).1 a;have Z :AP m y.1*F<=AB m:=(gy hF).1 b;rw[X,fy];omega
open Go.RowKit
structure AD(F:Nat->Prop)(w w' :W):Prop where
 os:w'.os=w.os
 tape:w'.tape=w.tape
 output:w'.output=w.output
 size:w.heap.size<=w'.heap.size
 block:∀k,k<w.heap.size->¬F k->w'.heap[k]?=w.heap[k]?
theorem AD.refl(F w):AD F w w:=⟨rfl,rfl,rfl,E _,λ_ _ _=>rfl⟩
theorem AD.trans' {F G H a b c}(h:AD F a b)(k:AD G b c)(hF:∀i,i<a.heap.size->F i->H i)(M:∀i,i<a.heap.size->G i->H i):AD H a c:=
 ⟨k.os.trans h.os,k.tape.trans h.tape,k.output.trans h.output,fj h.size k.size,λi hi A=>(k.block i (hZ hi h.size) λK=>A (M i hi K)).trans (h.block i hi λD=>A (hF i hi D))⟩
theorem AD.mono{F G a b}(h:AD F a b)(hF:∀i,i<a.heap.size->F i->G i):AD G a b:=
 ⟨h.os,h.tape,h.output,h.size,λi hi D=>h.block i hi λA=>D (hF i hi A)⟩
theorem AD.of_below{F w w'}(h:B w.heap.size w w'):AD F w w' :=⟨h.os,h.tape,h.output,h.size,λk A _=>h.block k A⟩
theorem AD.below{F B w w'}(h:AD F w w')(D:B<=w.heap.size)(hF:∀k,k<B->¬F k):Below B w w' :=
 ⟨h.os,h.tape,h.output,h.size,λk A=>h.block k (hZ A D) (hF k A)⟩
theorem AD.drew{F a w}(h:AD F a w):AD F a w.drew:=⟨h.os,h.tape,h.output,h.size,h.block⟩
theorem AD.alloc{F a w}(h:AD F a w)(o):AD F a (w.alloc o):=
 ⟨h.os,h.tape,h.output,fj h.size (by simp),λk A D=>(B.heap_alloc _ _ _ (hZ A h.size)).trans (h.block k A D)⟩
theorem AD.setCell{F a w}(h:AD F a w)(p u)(A:F p.block\/a.heap.size<=p.block):AD F a (w.setCell p u):=
 ⟨h.os,h.tape,h.output,fj h.size (by simp[W.setCell]),λk G D=>by
  rw[B.heap_setCell _ _ _ _ (by rintro rfl;rcases A with A|A;exact D A;omega)];exact h.block k G D⟩
theorem AD.cell{F w w'}(h:AD F w w'){p}(A:p.block<w.heap.size)(D:¬F p.block):w'.cell? p=w.cell? p:=W.cell?_of_block (w:=w) (h.block p.block A D)
theorem AD.frozen{F w w'}(h:AD F w w'){p}(A:p.block<w.heap.size)(D:¬F p.block):w'.frozen? p=w.frozen? p:=W.frozen?_of_block (w:=w) (h.block p.block A D)
theorem AD.of_grown{F w w'}{A:Option Nat}(h:w.grownBy w' A)(D:∀k,A=S k->F k):AD F w w' :=
 ⟨h.os,h.tape,h.output,h.size,λk H G=>h.block k H λe=>G (D k e.symm)⟩
def AI(w:W)(b:Nat)(cs:Array V)(T:TypeId):Prop:=w.heap[b]?=S (.cells cs T (0,0))
theorem AI.lt{w b A T}(h:AI w b A T):b<w.heap.size:=(Array.getElem?_eq_some_iff.1 h).1
theorem AI.cell{w b A T}(h:AI w b A T){j u}(D:A[j]?=S u):w.cell? ⟨b,j,N⟩=S u:=by rw[cell_of_row w b j A T (0,0) h];exact D
theorem AI.frozen{w b A T}(h:AI w b A T)(j):w.frozen? ⟨b,j,N⟩=false:=frozen_of_row w b j A T h
theorem AI.set{w b A T}(h:AI w b A T)(j u):AI (w.setCell ⟨b,j,N⟩ u) b (A.setIfInBounds j u) T:=heap_setCell_same w b j A T u h
theorem AI.other{w b A T}(h:AI w b A T)(p u)(D:b≠p.block):AI (w.setCell p u) b A T:=(heap_setCell_other w p b u D).trans h
theorem AI.alloc{w b A T}(h:AI w b A T)(o):AI (w.alloc o) b A T:=(B.heap_alloc w o b h.lt).trans h
theorem AI.drew{w b A T}(h:AI w b A T):AI w.drew b A T:=h
theorem AI.new(w:W)(A:Array V)(T:TypeId):AI (w.alloc (.cells A T)) w.heap.size A T:=heap_alloc_new w _
theorem AI.newAt{w:W}{n:Nat}{A:Array V}{T:TypeId}(h:n=w.heap.size):AI (w.alloc (.cells A T)) n A T:=by subst h;exact heap_alloc_new w _
theorem AI.away{F w w' b A T}(h:AI w b A T)(k:AD F w w')(D:¬F b):AI w' b A T:=(k.block b h.lt D).trans h
theorem AI.below{B w w' b A T}(h:AI w b A T)(k:Below B w w')(D:b<B):AI w' b A T:=(k.block b D).trans h
theorem AI.ne{w a b D G T A}(h:AI w a D T)(k:AI w b G A)(F:T≠A):a≠b:=by
 rintro rfl;have:=(Option.some.inj (h.symm.trans k));injection this with _ h2;exact F h2
theorem AJ{w base e D v n H}(h:w.ownsRow base e D v n H){g}(F:v.ownBlock=S g):∃A,AI w g A e:=by
 rcases h.2 with⟨rfl,_⟩|⟨M,K,A,rfl,_,G,_⟩
 ·simp[V.ownBlock]at F
 ·simp[V.ownBlock]at F;subst F;exact⟨A,G⟩
theorem Cw{w w' :W}{base:Nat}{e:TypeId}{A:Nat}{v:V}{n:Nat}{K:List V}(h:w.ownsRow base e A v n K)(M:∀g,v.ownBlock=S g->w'.heap[g]?=w.heap[g]?):w'.ownsRow base e A v n K:=by
 refine⟨h.1,?_⟩;rcases h.2 with O|⟨g,G,D,rfl,F,H,rest⟩
 ·exact .inl O
 ·exact .inr ⟨g,G,D,rfl,F,(M g rfl).trans H,rest⟩
theorem AU{F w w' base e A v n D}(h:w.ownsRow base e A v n D)(k:AD F w w')(H:∀g,v.ownBlock=S g->¬F g):w'.ownsRow base e A v n D:=
 Cw h λg G=>k.block g (h.lt g G).2 (H g G)
theorem AE{B w w' base e A v n D}(h:w.ownsRow base e A v n D)(k:Below B w w')(G:∀g,v.ownBlock=S g->g<B):w'.ownsRow base e A v n D:=
 Cw h λg F=>k.block g (G g F)
theorem AN{w:W}{base:Nat}{e:TypeId}{A:Nat}{v:V}{n:Nat}{D:List V}(h:w.ownsRow base e A v n D)(p:Addr)(u:V)(F:v.ownBlock≠S p.block):(w.setCell p u).ownsRow base e A v n D:=
 Cw h λg G=>heap_setCell_other w p g u (by rintro rfl;exact F G)
theorem AO{w:W}{base base' :Nat}{e:TypeId}{A:Nat}{v:V}{n:Nat}{G:List V}(h:w.ownsRow base e A v n G)(H:∀g,v.ownBlock=S g->base' <=g):w.ownsRow base' e A v n G:=by
 refine⟨h.1,?_⟩;rcases h.2 with K|⟨g,F,D,rfl,_,rest⟩
 ·exact .inl K
 ·exact .inr ⟨g,F,D,rfl,H g rfl,rest⟩
theorem AH{w:W}{base:Nat}{e:TypeId}{D:Nat}{v:V}{n:Nat}{G:List V}(h:w.ownsRow base e D v n G):
  (v=L N 0 0/\n=0/\G=[])\/∃g A,v=L (S ⟨g,0,N⟩) n A/\n<=A/\A<=maxLen/\base<=g/\g<w.heap.size:=by
 rcases h.2 with⟨rfl,rfl⟩|⟨g,A,H,rfl,K,F,M,O,_⟩
 ·exact .inl ⟨rfl,rfl,gZ (by simpa using h.1)⟩
 ·exact .inr ⟨g,A,rfl,M,O,K,(Array.getElem?_eq_some_iff.1 F).1⟩
def CV(x:Nat×Nat):List Value:=[I J x.1,I U x.2]
def AV(l:AL):List Value:=l.flatMap CV
theorem DQ(x:Nat×Nat)(l:AL):AV (x::l)=I J x.1:: I U x.2::AV l:=rfl
theorem FD(l m:AL):AV (l++m)=AV l++AV m:=gQ
theorem Pe(l:AL):(AV l).length=l.length*2:=by
 induction l with
 |nil=>rfl
 |cons x l A=>rw[DQ];simp only[fk,A];omega
theorem BI(l:AL)(i)(h:i<l.length):(AV l)[i*2]?=S (I J ((l[i]'h).1:Int)):=by
 induction l generalizing i with
 |nil=>simp at h
 |cons x l A=>
  rw[DQ]
  match i,h with
  |0,_=>rfl
  |i+1,h=>rw[show(i+1)*2=i*2+1+1 from by omega,List.getElem?_cons_succ,List.getElem?_cons_succ];exact A i (by simpa using h)
theorem BT(l:AL)(i)(h:i<l.length):(AV l)[i*2+1]?=S (I U ((l[i]'h).2:Int)):=by
 induction l generalizing i with
 |nil=>simp at h
 |cons x l A=>
  rw[DQ]
  match i,h with
  |0,_=>rfl
  |i+1,h=>rw[show(i+1)*2+1=i*2+1+1+1 from by omega,List.getElem?_cons_succ,List.getElem?_cons_succ];exact A i (by simpa using h)
theorem Wp(l:AL)(i)(h:i<l.length)(c):AV (l.set i ((l[i]'h).1,c))=(AV l).set (i*2+1) (I U c):=by
 induction l generalizing i with
 |nil=>simp at h
 |cons x l A=>
  match i,h with
  |0,_=>rfl
  |i+1,h=>
   rw[DQ,gc,DQ,show(i+1)*2+1=i*2+1+1+1 from by omega,gc,gc];rw[show((x::l)[i+1]'h)=l[i]'(by simpa using h)from rfl,A i (by simpa using h)]
theorem Mi(l:AL)(k):AV (l.take k)=(AV l).take (k*2):=by
 induction l generalizing k with
 |nil=>simp[AV]
 |cons x l A=>
  match k with
  |0=>simp[AV]
  |k+1=>rw[gd,DQ,DQ,show(k+1)*2=k*2+1+1 from by omega,gd,gd,A]
theorem Mj(l:AL)(k):AV (l.drop k)=(AV l).drop (k*2):=by
 induction l generalizing k with
 |nil=>simp[AV]
 |cons x l A=>
  match k with
  |0=>simp[AV]
  |k+1=>rw[gg,A,DQ,show(k+1)*2=k*2+1+1 from by omega,gg,gg]
theorem Ib(l:AL):∀u∈AV l,u.oneCell' =true:=by
 intro u D;obtain⟨x,_,A⟩:=List.mem_flatMap.1 D;simp[CV]at A;rcases A with rfl|rfl<;>rfl
theorem Nr(l:AL)(v):BY l v<=l.length:=by
 induction l with
 |nil=>exact E _
 |cons x l A=>unfold BY;split<;>simp<;>omega
theorem Gi{l:AL}{v}(h:AT l):∀i (hi:i<l.length),i<BY l v↔(l[i]'hi).1<v:=by
 induction l with
 |nil=>intro i hi;simp at hi
 |cons x l D=>
  intro i hi;obtain⟨G,F⟩:=h;unfold BY;by_cases A:x.1<v
  ·rw[if_pos A]
   match i,hi with
   |0,_=>simp;exact A
   |i+1,hi=>rw[gh];have:=D F i (by simpa using hi);omega
  ·rw[if_neg A]
   match i,hi with
   |0,_=>simp;omega
   |i+1,hi=>
    rw[gh];have:=G _ (gR (by simpa using hi:i<l.length));omega
theorem Pf{l:AL}{v}(h:AT l)(c)(A:BY l v<l.length)(G:(l[BY l v]'A).1=v):Ak l v c=l.set (BY l v) ((l[BY l v]'A).1,(l[BY l v]'A).2+c):=by
 induction l with
 |nil=>simp at A
 |cons x l K=>
  obtain⟨M,H⟩:=h;unfold Ak;by_cases D:x.1<v
  ·have e:BY (x::l) v=BY l v+1:=by conv=>lhs;unfold BY;rw[if_pos D]
   rw[if_pos D];have F :BY l v<l.length:=by rw[e]at A;simpa using A
   simp only[e,gh,gc]at*;rw[K H F G]
  ·have e:BY (x::l) v=0:=by conv=>lhs;unfold BY;rw[if_neg D]
   rw[if_neg D];simp only[e,iI,List.set_cons_zero]at*;rw[if_pos G]
theorem Pg{l:AL}{v}(h:AT l)(c)(G:∀(D:BY l v<l.length),(l[BY l v]'D).1≠v):Ak l v c=l.take (BY l v)++(v,c)::l.drop (BY l v):=by
 induction l with
 |nil=>rfl
 |cons x l K=>
  obtain⟨M,H⟩:=h;unfold Ak;by_cases F:x.1<v
  ·have e:BY (x::l) v=BY l v+1:=by conv=>lhs;unfold BY;rw[if_pos F]
   rw[if_pos F];have A :∀(D:BY l v<l.length),(l[BY l v]'D).1≠v:=λD=>by
    have:=G (by rw[e];simpa using D);simp only[e,gh]at this;exact this
   simp only[e,gd,gg,ej];rw[K H A]
  ·have e:BY (x::l) v=0:=by conv=>lhs;unfold BY;rw[if_neg F]
   rw[if_neg F];have A :x.1≠v:=by
    have:=G (by rw[e];simp);simp only[e,iI]at this;exact this
   simp only[e,List.take_zero,iJ,gS];rw[if_neg A]
def MQ(l:AL)(v:Nat):Bool:=if hp:BY l v<l.length then(l[BY l v]'hp).1==v else false
theorem Ph{l:AL}{v}(h:AT l)(A:BY l v<l.length)(D:(l[BY l v]'A).1=v):AP l v=(l[BY l v]'A).2:=by
 have:=Be h (gR A);rw[D]at this;exact this
theorem Dy{l:AL}(h:AT l):∀{a b:Nat} (A:a<l.length) (D:b<l.length),a<b->(l[a]'A).1<(l[b]'D).1:=by
 induction l with
 |nil=>intro a b A;simp at A
 |cons y l H=>
  intro a b A D K;obtain⟨F,G⟩:=h
  match a,b,A,D with
  |0,b+1,_,D=>exact F _ (gR _)
  |a+1,b+1,A,D=>exact H G (by simpa using A) (by simpa using D) (by omega)
theorem UZ{l:AL}{v}(h:AT l)(G:∀(A:BY l v<l.length),(l[BY l v]'A).1≠v):AP l v=0:=by
 refine F0 _ _ λx H=> ?_;obtain⟨i,hi,rfl⟩:=List.getElem_of_mem H;have K:=Gi (v:=v) h i hi;simp only[beq_eq_false_iff_ne,ne_eq];intro e;by_cases D:i<BY l v
 ·have:=K.1 D;omega
 ·by_cases F:i=BY l v
  ·subst F;exact G hi e
  ·have A:BY l v<l.length:=by omega
   have M:=Gi (v:=v) h (BY l v) A;have:=Dy h A hi (by omega);have:=G A;omega
end Go.Proofs.YtbejdajkkoapgaaGreatDoor
namespace Go.Proofs.YtbejdajkkoapgaaGreatDoor.Sg
open Go.RowKit
theorem ret_int{k:IntKind}{a b}(h:a=b):R (I k a)=R (I k b):=by rw[h]
theorem Ic{a b}(h:a=b):R (.bool a)=R (.bool b):=by rw[h]
def mag(x:Int):Int:=if x<0 then-x else x
def neg(x:Int):Bool:=decide (x<0)
theorem mag_or(x):x<0/\mag x= -x\/0<=x/\mag x=x:=by unfold mag;omega
theorem Z7{x}(h:x<0):mag x= -x:=by unfold mag;rw[if_pos h]
theorem mag_pos{x}(h:0<=x):mag x=x:=by unfold mag;rw[if_neg (by omega)]
theorem neg_yes{x}(h:x<0):neg x=true:=by simp[neg,h]
theorem neg_no{x}(h:0<=x):neg x=false:=by simp[neg];omega
theorem of_any(x w)(h: -9223372036854775808<=x)(G:x<=9223372036854775807):
  C prog 215 #[I J x] w λe w' =>e=R (T #[I U (mag x),.bool (neg x)])/\w=w' :=by
 by_cases D:x<0
 ·have F:U.wrap (-U.wrap x)= -x:=by simp only[ag];omega
  go_enter func215,ntmps215;go_wp2;go_ret2;exact⟨by rw[Z7 D,neg_yes D];rfl,rfl⟩
 ·have A :0<=x:=by omega
  go_enter func215,ntmps215;go_wp2;go_ret2;exact⟨by rw[mag_pos A,neg_no A];rfl,rfl⟩
end Go.Proofs.YtbejdajkkoapgaaGreatDoor.Sg
namespace Go.Proofs.YtbejdajkkoapgaaGreatDoor.Wd
theorem Pi(a:Nat)(A:a<18446744073709551616):bits .and U a 4294967295=((a % 4294967296:Nat):Int):=by
 have h:=bits_and_u64_nat a 4294967295 A (by omega);have e:a&&&4294967295=a % 4294967296:=Nat.and_two_pow_sub_one_eq_mod a 32;rw[e]at h;exact h
theorem cS(a:Nat):(a:Int)/4294967296=((a/4294967296:Nat):Int):=by omega
theorem IC(a b:Nat):(a:Int)*(b:Int)=((a*b:Nat):Int):=(Int.natCast_mul a b).symm
theorem fT(a b:Nat):(a:Int)+(b:Int)=((a+b:Nat):Int):=(iK a b).symm
theorem wrapN(a:Nat)(A:a<18446744073709551616):U.wrap (a:Int)=(a:Int):=by rw[ag];omega
theorem Jn(a:Nat):U.wrap (a:Int)=((a % 18446744073709551616:Nat):Int):=by rw[ag];omega
def hiD(a b:Int):Int:=a*b/18446744073709551616
def loD(a b:Int):Int:=a*b % 18446744073709551616
theorem Tj(x y):((x*y/18446744073709551616:Nat):Int)=hiD x y:=by unfold hiD;rw[IC];omega
theorem Tk(x y):((x*y % 18446744073709551616:Nat):Int)=loD x y:=by unfold loD;rw[IC];omega
theorem Ua(x y:Nat)(M:x<18446744073709551616)(K:y<18446744073709551616)(w):
  C prog 129 #[I U x,I U y] w λe w' =>e=R (T #[I U ((x*y/18446744073709551616:Nat):Int),I U ((x*y % 18446744073709551616:Nat):Int)])/\w=w' :=by
 obtain⟨X,O,Q,G⟩:=Lib.mul64_hi x y M K;have c:=Lib.half_mul_le (a:=x/4294967296) (b:=y/4294967296) (by omega) (by omega);have Z:=Lib.half_mul_le (a:=x/4294967296) (b:=y % 4294967296) (by omega) (by omega);have d:=Lib.half_mul_le (a:=x % 4294967296) (b:=y/4294967296) (by omega) (by omega);have H :x/4294967296*(y/4294967296)<18446744073709551616:=by omega
 have A :x/4294967296*(y % 4294967296)<18446744073709551616:=by omega
 have D :x % 4294967296*(y/4294967296)<18446744073709551616:=by omega
 have F:x/4294967296*(y/4294967296)+(x/4294967296*(y % 4294967296)+x % 4294967296*(y % 4294967296)/4294967296)/4294967296<18446744073709551616:=by omega
 have Y:x/4294967296*(y/4294967296)+(x/4294967296*(y % 4294967296)+x % 4294967296*(y % 4294967296)/4294967296)/4294967296+((x/4294967296*(y % 4294967296)+x % 4294967296*(y % 4294967296)/4294967296) % 4294967296+x % 4294967296*(y/4294967296))/4294967296<18446744073709551616:=by omega
 go_enter func129,ntmps129;go_wp2;simp only[Pi x M,Pi y K,cS,IC,fT,wrapN _ X,wrapN _ A,wrapN _ O,Pi _ O,wrapN _ D,wrapN _ Q,wrapN _ H,wrapN _ F,wrapN _ Y,Jn (x*y)];rw[G];go_ret2;exact⟨rfl,rfl⟩
theorem Ub(a b w)(D:0<=a)(G :a<=18446744073709551615)(F:0<=b)(A :b<=18446744073709551615):
  C prog 129 #[I U a,I U b] w λe w' =>e=R (T #[I U (hiD a b),I U (loD a b)])/\w=w' :=by
 obtain⟨x,rfl⟩:=iL D;obtain⟨y,rfl⟩:=iL F;rw[<-Tj,<-Tk];exact Ua x y (by omega) (by omega) w
theorem times_any(a b w)(F:0<=a)(D :a<=18446744073709551615)(G:0<=b)(A :b<=18446744073709551615):
  C prog 118 #[I U a,I U b] w λe w' =>e=R (.agg #[I U (hiD a b),I U (loD a b)])/\B w.heap.size w w' :=by
 go_enter func118,ntmps118;go_wp2_with(go_at_call 129;refine(Ub _ _ _ (by omega) (by omega) (by omega) (by omega)).mono ?_;rintro e w' ⟨rfl,rfl⟩);exact bodyPost_ret (v:=.agg #[I U (hiD a b),I U (loD a b)]) (by simp[results,results118,go_sem]) rfl ⟨rfl,Za⟩
def lessB(a b c d:Int):Bool:=if a=c then decide (b<d)else decide (a<c)
def cmpD(a b c d:Int):Int:=if lessB a b c d then-1 else if a=c/\b=d then 0 else 1
theorem bcell{A D B}(F:Below B A D):(∀b o,b<B->D.cell? ⟨b,o,N⟩=A.cell? ⟨b,o,N⟩)/\(∀b o,b<B->D.frozen? ⟨b,o,N⟩=A.frozen? ⟨b,o,N⟩):=
 ⟨λb o h=>F.cell (p:=⟨b,o,N⟩) h,λb o h=>F.frozen (p:=⟨b,o,N⟩) h⟩
end Go.Proofs.YtbejdajkkoapgaaGreatDoor.Wd
set_option maxRecDepth 100000
set_option maxHeartbeats 40000000
namespace Go.Proofs.YtbejdajkkoapgaaGreatDoor
theorem Az(w)(b:Nat)(x y:Nat)(h:x+y<=9223372036854775807)(F:w.cell? ⟨b,0,N⟩=S (I U x))(M:w.cell? ⟨b,1,N⟩=S (I U y)):
  C prog 90 #[L (S ⟨b,0,N⟩) 2 2] w λe w' =>e=R (T #[I U (x+y:Nat),.bool true])/\w=w' :=by
 have A:¬9223372036854775807<(x:Int):=by omega
 have G:¬9223372036854775807-(x:Int)<(y:Int):=by omega
 have H:U.wrap (9223372036854775807-(x:Int))=9223372036854775807-(x:Int):=by rw[ag];omega
 have D:U.wrap ((x:Int)+(y:Int))=(x:Int)+(y:Int):=by rw[ag];omega
 have K:U.wrap (x:Int)=(x:Int):=by rw[ag];omega
 go_enter func90,ntmps90;go_wp2;refine wp_loop_rounds 3 ?_;rw[rounds_succ];go_wp2_with fail;rw[rounds_succ];go_wp2_with fail;rw[rounds_succ];go_wp2_with fail;go_ret2;exact⟨by rw[iK];rfl,rfl⟩
def II(a x:Int):Int:=if a<x then-1 else if x<a then 1 else 0
theorem Wq(a x c w):
  C prog 126 #[.agg #[I J a,I U c],I J x] w λe w' =>e=R (I J (II a x))/\B w.heap.size w w' :=by
 by_cases h:a<x
 ·rw[show II a x= -1 from by unfold II;rw[if_pos h]];go_enter func126,ntmps126;go_wp2;go_ret;exact⟨rfl,Za⟩
 ·by_cases A:x<a
  ·rw[show II a x=1 from by unfold II;rw[if_neg h,if_pos A]];go_enter func126,ntmps126;go_wp2;go_ret;exact⟨rfl,Za⟩
  ·rw[show II a x=0 from by unfold II;rw[if_neg h,if_neg A]];go_enter func126,ntmps126;go_wp2;go_ret;exact⟨rfl,Za⟩
theorem Rs(x w):
  C prog 125 #[L N 0 0,I J x,.func (.func 126) #[] #[]] w λe w' =>e=R (T #[I J 0,.bool false])/\w=w' :=by
 go_enter func125,ntmps125;go_wp2;refine wp_loop_rounds 1 ?_;rw[rounds_succ];go_wp2_with fail;go_ret2;exact⟨rfl,rfl⟩
theorem Ru(w)(g y:Nat)(l:AL)(x:Nat)(hr:AT l)(q:l.length<=1000000)
  (hc:∀i (hi:i<l.length),w.cell? ⟨g,i*2,N⟩=S (I J ((l[i]'hi).1:Int))/\w.cell? ⟨g,i*2+1,N⟩=S (I U ((l[i]'hi).2:Int)))(hg:g<w.heap.size):
  C prog 125 #[L (S ⟨g,0,N⟩) l.length y,I J x,.func (.func 126) #[] #[]] w λe w' =>e=R (T #[I J (BY l x:Nat),.bool (MQ l x)])/\B w.heap.size w w' :=by
 have hb:=Gi (v:=x) hr;have t:=Nr l x;obtain⟨p,hp⟩:∃p,p=BY l x:=⟨_,rfl⟩;obtain⟨n,f⟩:∃n,n=l.length:=⟨_,rfl⟩;have Hc:=Zh hc;have Hb:=Zh hb;have u:=Zh hp;have HN:=Zh f;rw[<-hp,<-f]at t;rw[<-f]at q⊢;clear hc hb hp f;go_enter func125,ntmps125;go_wp2;go_loopg [9,10] n (λk a b wr=>∃lo hi:Nat,a=I J lo/\b=I J hi/\lo<=p/\p<=hi/\hi<=n/\hi-lo<=k/\B w.heap.size w wr);case atStart=>exact⟨0,n,rfl,rfl,dT _,t,E _,by omega,B.refl _ _⟩
 case round=>
  obtain⟨lo,hi,rfl,rfl,h1,h2,h3,h4,Y⟩:=hrel;obtain⟨M,hf1⟩:=Wd.bcell Y;by_cases AA:lo<hi
  ·have O:(lo+hi)/2<l.length:=by rw[<-HN.out];omega
   obtain⟨m,Z⟩:∃m,m=(lo+hi)/2:=⟨_,rfl⟩;rw[<-Z]at O;obtain⟨o,r⟩:=Hc.out m O;have s:=Hb.out m O;obtain⟨a,j⟩:∃a,a=(l[m]'O).1:=⟨_,rfl⟩;obtain⟨c,H⟩:∃c,c=(l[m]'O).2:=⟨_,rfl⟩;rw[<-j]at o s;rw[<-H]at r;rw[<-M g _ hg]at o r;have e1:((lo:Int)+(hi:Int))/2=(m:Int):=by omega
   have e2:(lo:Int)<(hi:Int):=by omega
   have m1:m<n:=by omega
   have HM:=Zh (Zi Z u.out);clear Z j H M hf1;have D:=λA=>Wq (a:Int) (x:Int) (c:Int) A;by_cases X:a<x
   ·have Q:II (a:Int) (x:Int)= -1:=by unfold II;rw[if_pos (by omega)]
    rw[Q]at D;have mp:m<p:=by rw[u.out];exact s.2 X
    clear Q s X;go_wp2_with(go_at_call 126;refine(D _).mono ?_;rintro e w1 ⟨rfl,K⟩);go_roundg (hi-(m+1));case measure=>have:=HM.out.1;omega
    case rel=>exact⟨m+1,hi,by go_num,rfl,by omega,h2,h3,E _,Y.trans (K.mono Y.size)⟩
   ·have Q:II (a:Int) (x:Int)=if(x:Int)<(a:Int)then 1 else 0:=by unfold II;rw[if_neg (by omega)]
    obtain⟨z,d⟩:∃z,z=II (a:Int) (x:Int):=⟨_,rfl⟩;have e4:¬z<0:=by rw[d,Q];split<;>omega
    rw[<-d]at D;have mp:p<=m:=by rw[u.out];exact gu λh=>X (s.1 h)
    clear Q s X d;go_wp2_with(go_at_call 126;refine(D _).mono ?_;rintro e w1 ⟨rfl,K⟩);go_roundg (m-lo);case measure=>have:=HM.out.1;omega
    case rel=>exact⟨lo,m,rfl,rfl,h1,mp,by omega,E _,Y.trans (K.mono Y.size)⟩
  ·have e2:¬(lo:Int)<(hi:Int):=by omega
   have ep:lo=p:=by omega
   have F:lo=BY l x:=ep.trans u.out;have HL:=Zh F;by_cases f:lo<n
   ·have O:lo<l.length:=by rw[<-HN.out];omega
    obtain⟨o,r⟩:=Hc.out lo O;obtain⟨a,j⟩:∃a,a=(l[lo]'O).1:=⟨_,rfl⟩;obtain⟨c,H⟩:∃c,c=(l[lo]'O).2:=⟨_,rfl⟩;have G:MQ l x=(a==x):=by
     unfold MQ;rw[dif_pos (by rw[<-F];exact O),j];simp only[F]
    rw[<-j]at o;rw[<-H]at r;rw[<-M g _ hg]at o r;have D:=λA=>Wq (a:Int) (x:Int) (c:Int) A;have Q:II (a:Int) (x:Int)=0↔a=x:=by unfold II;split<;>(try split)<;>omega
    obtain⟨z,d⟩:∃z,z=II (a:Int) (x:Int):=⟨_,rfl⟩;rw[<-d]at D Q;have g1:(z==0)=MQ l x:=by
     rw[G,Bool.eq_iff_iff];simp[Q]
    have g2:(lo:Int)<(n:Int):=by omega
    have G1:=Zh g1;clear G Q d j H M hf1 ep F g1;go_wp2_with(go_at_call 126;refine(D _).mono ?_;rintro e w1 ⟨rfl,K⟩);go_ret2;exact⟨by rw[<-G1.out,<-HL.out];rfl,Y.trans (K.mono Y.size)⟩
   ·have g2:¬(lo:Int)<(n:Int):=by omega
    have G:MQ l x=false:=by
     unfold MQ;rw[dif_neg (by rw[<-F,<-HN.out];exact f)]
    have HI:=Zh G;clear G ep F M hf1;go_wp2_with fail;go_ret2;exact⟨by rw[HI.out,<-HL.out];rfl,Y⟩
theorem Ie(w)(base:Nat)(v)(l:AL)(x:Nat)(h:w.ownsRow base 228 2 v l.length (AV l))(G:AT l)(A:l.length<=1000000):
  C prog 114 #[v,I J x] w λe w' =>e=R (T #[I J (BY l x:Nat),.bool (MQ l x)])/\B w.heap.size w w' :=by
 have M:C prog 125 #[v,I J x,.func (.func 126) #[] #[]] w λe w' =>e=R (T #[I J (BY l x:Nat),.bool (MQ l x)])/\B w.heap.size w w' :=by
  rcases AH h with⟨rfl,O,_⟩|⟨g,D,rfl,_,_,_,H⟩
  ·obtain rfl:l=[]:=gZ O;exact(Rs x w).mono λe w' ⟨Q,K⟩=>⟨Q,K▸B.refl _ _⟩
  ·refine Ru w g D l x G A (λi hi=> ?_) H;rw[h.cellAt (i*2) (by omega),h.cellAt (i*2+1) (by omega)];exact⟨BI l i hi,BT l i hi⟩
 clear h G;go_enter func114,ntmps114;go_wp2_with(go_at_call 125;refine M.mono ?_;rintro e X ⟨rfl,F⟩);go_ret2;exact⟨rfl,F⟩
structure As(w:W)(sb:Nat)(v:V)(l:AL):Prop where
 blk:AI w sb #[I J 4096,v,I U (AB l:Nat)] 115
 own:w.ownsRow 0 228 2 v l.length (AV l)
 rising:AT l
 full:Bh l
theorem As.ne{w sb v}{l:AL}(h:As w sb v l):v.ownBlock≠S sb:=by
 intro D;obtain⟨A,F⟩:=AJ h.own D;exact(h.blk.ne F (by decide)) rfl
theorem As.next{w w' sb v}{l:AL}(h:As w sb v l)(A:B w.heap.size w w'):As w' sb v l:=
 ⟨h.blk.below A h.blk.lt,AE h.own A λg D=>(h.own.lt g D).2,h.rising,h.full⟩
theorem As.away{F w w' sb v}{l:AL}(h:As w sb v l)(A:AD F w w')(G:¬F sb)(D:∀g,v.ownBlock=S g->¬F g):As w' sb v l:=
 ⟨h.blk.away A G,AU h.own A D,h.rising,h.full⟩
theorem As.drew{w sb v}{l:AL}(h:As w sb v l):As w.drew sb v l:=⟨h.blk,h.own,h.rising,h.full⟩
theorem As.alloc{w sb v}{l:AL}(h:As w sb v l)(o):As (w.alloc o) sb v l:=
 h.next ((B.refl _ _).alloc (E _) o)
theorem As.other{w sb v}{l:AL}(h:As w sb v l)(p u)(D:sb≠p.block)(A:v.ownBlock≠S p.block):As (w.setCell p u) sb v l:=
 ⟨h.blk.other p u D,AN h.own p u A,h.rising,h.full⟩
theorem As.cells{w sb v}{l:AL}(h:As w sb v l):w.cell? ⟨sb,0,N⟩=S (I J 4096)/\w.cell? ⟨sb,1,N⟩=S v/\w.cell? ⟨sb,2,N⟩=S (I U (AB l:Nat))/\w.frozen? ⟨sb,1,N⟩=false/\w.frozen? ⟨sb,2,N⟩=false:=
 ⟨h.blk.cell rfl,h.blk.cell rfl,h.blk.cell rfl,h.blk.frozen 1,h.blk.frozen 2⟩
theorem F1:(prog.info? 228).map (λi=>(i.zero,i.size,i.bytes))=S (S (.agg #[I J 0,I U 0]),2,16):=by kernel_rfl
theorem G4(w):
  C prog 28 #[I J 4096] w λe w' =>e=R (T #[P (S ⟨w.heap.size,0,N⟩),I J 0])/\w.alloc (.cells #[I J 4096,L N 0 0,I U 0] 115)=w' :=by
 go_enter func28,ntmps28;go_wp2;go_ret2;exact⟨rfl,rfl⟩
theorem Co(w)(sb:Nat)(n:Nat)(h:w.cell? ⟨sb,2,N⟩=S (I U n)):
  C prog 94 #[P (S ⟨sb,0,N⟩)] w λe w' =>e=R (I U n)/\w=w' :=by
 go_enter func94,ntmps94;go_wp2;go_ret;exact⟨rfl,rfl⟩
theorem Ea(w sb A n c)(h:w.cell? ⟨sb,1,N⟩=S (L A n c)):
  C prog 150 #[P (S ⟨sb,0,N⟩)] w λe w' =>e=R (I J n)/\w=w' :=by
 go_enter func150,ntmps150;go_wp2;go_ret;exact⟨rfl,rfl⟩
theorem Ml(w v)(l:AL)(h:w.ownsRow 0 228 2 v l.length (AV l))(D:l.length<=1000000):
  C prog 185 #[v] w λe w' =>∃v',e=R v' /\w'.ownsRow w.heap.size 228 2 v' l.length (AV l)/\B w.heap.size w w' :=by
 have m:∀(w:W) (a:Option Addr) (n c O c' :Nat),(binOp .eql 113 (L a n c) (L N O c')).run prog w=.ok (.bool a.isNone) w:=λw a n c O c' =>Lib.run_eql_slice_nil w _ _ a n c O c' underlying113;rcases AH h with⟨rfl,G,_⟩|⟨g,X,rfl,M,Z,_,q⟩
 ·obtain rfl:l=[]:=gZ G;go_enter func185,ntmps185;go_wp2;go_ret;exact⟨_,rfl,W.ownsRow_nil _ _ _ _,B.refl _ _⟩
 ·have H:=Zh h;clear h;obtain⟨o,hi,Q,Y,K⟩:=info_parts F1;obtain⟨n,G⟩:∃n,n=l.length:=⟨_,rfl⟩;rw[<-G]at D M⊢;have d:=Zh G;clear G;go_enter func185,ntmps185;go_wp2_with(at_builtin;refine wpList_append_own _ rfl _ _ 113 rfl w.heap.size 228 o _ 2 16 underlying113 hi Q Y K rfl (by decide) _ _ _ rfl (W.ownsRow_made w #[] 0 (E _) (dT _) (by simp)) ⟨g,0,N⟩ n X (AV l) rfl ?qc1 ?qc2 ?qc3 ?qc4 ?qc5 ?qc6 ?_);case qc1=>rw[Pe,d.out]
  case qc2=>
   intro j u f;rw[bw];exact Lib.cell?_alloc_some _ (by rw[es];have:=H.out.cells (g:=g) rfl j u f;rwa [bw,es]at this)
  case qc3=>exact Ib l
  case qc4=>unfold maxLen;omega
  case qc5=>omega
  case qc6=>simp
  intro v' p F A b;go_wp2;go_ret;refine⟨v',rfl,by simpa using F,?_⟩;exact((B.refl _ w).alloc (E _) _).grown A (by simp) (by intro k i;simp[V.ownBlock]at i;omega)
theorem Cx(w sb v)(l:AL)(h:As w sb v l)(D:l.length<=1000000):
  C prog 177 #[P (S ⟨sb,0,N⟩)] w λe w' =>∃v',e=R v' /\w'.ownsRow w.heap.size 228 2 v' l.length (AV l)/\B w.heap.size w w' :=by
 obtain⟨K,M,O,f1,Q⟩:=h.cells;have G:=Ml w v l h.own D;clear h;go_enter func177,ntmps177;go_wp2_with(go_at_call 185;refine G.mono ?_;rintro e H ⟨v',rfl,A,F⟩);go_ret;exact⟨v',rfl,A,F⟩
theorem FX(w)(sb:Nat)(v)(l:AL)(x:Nat)(h:As w sb v l)(X:l.length<=1000000):
  C prog 186 #[P (S ⟨sb,0,N⟩),I J x] w λe w' =>e=R (I U (AP l x:Nat))/\B w.heap.size w w' :=by
 obtain⟨c0,o,u,f1,y⟩:=h.cells;have Q:=Ie w 0 v l x h.own h.rising X;have H:=Zh h;clear h;by_cases A:MQ l x=true
 ·have O:BY l x<l.length:=by
   unfold MQ at A;split at A
   ·assumption
   ·cases A
  have Z:(l[BY l x]'O).1=x:=by unfold MQ at A;rw[dif_pos O]at A;simpa using A
  rw[Ph H.out.rising O Z];rw[A]at Q;obtain⟨p,M⟩:∃p,p=BY l x:=⟨_,rfl⟩;have G:p<l.length:=by omega
  have m:(l[BY l x]'O).2=(l[p]'G).2:=by simp only[M]
  rw[m];rw[<-M]at Q;obtain⟨c,b⟩:∃c,c=(l[p]'G).2:=⟨_,rfl⟩;rw[<-b];rcases AH H.out.own with⟨_,f,_⟩|⟨g,d,r,a,j,_,s⟩
  ·omega
  ·subst r;have Y :w.cell? ⟨g,p*2+1,N⟩=S (I U c):=by rw[H.out.own.cellAt _ (by omega),BT l p G,b]
   obtain⟨n,f⟩:∃n,n=l.length:=⟨_,rfl⟩;rw[<-f]at o Q a;have t:p<n:=by omega
   have q:∀K,B w.heap.size w K->K.cell? ⟨sb,1,N⟩=S (L (S ⟨g,0,N⟩) n d)/\K.cell? ⟨g,p*2+1,N⟩=S (I U c):=λK i=>⟨(i.cell (p:=⟨sb,1,N⟩) H.out.blk.lt).trans o,(i.cell (p:=⟨g,p*2+1,N⟩) s).trans Y⟩
   clear M O Z m A b f Y;go_enter func186,ntmps186;go_wp2_with(go_at_call 114;refine Q.mono ?_;rintro e K ⟨rfl,D⟩;obtain⟨k1,z⟩:=q K D);go_ret;exact⟨rfl,D⟩
 ·have k:AP l x=0:=UZ H.out.rising λO Z=>A (by unfold MQ;rw[dif_pos O];simpa using Z);rw[k];have F :MQ l x=false:=by simpa using A
  rw[F]at Q;clear A k F;go_enter func186,ntmps186;go_wp2_with(go_at_call 114;refine Q.mono ?_;rintro e K ⟨rfl,D⟩);go_ret;exact⟨rfl,D⟩
open Go.RowKit Go.Lib Go.Shelf
theorem Ha(w ty g o A K a F M D G)
  (c:w.heap[g]?=S (.cells D 228 (0,0)))(d:G.length=aw F A*2)
  (O:∀j v,G[j]?=S v->w.cell? (a.add j)=S v)(H:o+G.length<=D.size)(e:∀v∈G,v.oneCell' =true):
  (Builtin.copy_ #[113,113] ty #[L (S ⟨g,o,N⟩) A K,L (S a) F M]).run prog w=
   .ok (goInt (aw F A)) (w.setRow g (D.toList.take o++G++D.toList.drop (o+G.length)).toArray):=by
 have Z:=run_loadCells_list (P:=prog) w a G O;have Q:=run_storeCells_at prog g o 228 G 0 D w c (by simpa using H) e;obtain⟨f,hi,b,X,Y⟩:=info_parts F1;simp[Builtin.copy_,run_underlying underlying113,Builtin.lenOf,Builtin.firstCells,sizeOf,typeInfo,hi,X,<-d,Z,Q]
theorem Rv(w v)(l:AL)(O x c:Nat)(h:w.ownsRow 0 228 2 v l.length (AV l))(Y:l.length<=1000000)(f:AI w O #[I J x,I U c] 228):
  C prog 127 #[v,I J l.length,L (S ⟨O,0,N⟩) 1 1] w λe w' =>∃v',e=R v' /\w'.ownsRow 0 228 2 v' (l.length+1) (AV (l++ [(x,c)]))/\
   AD (λk=>v.ownBlock=S k) w w' /\(v'.ownBlock=v.ownBlock\/v'.ownBlock=S w.heap.size):=by
 obtain⟨o,hi,F,G,K⟩:=info_parts F1;have D:∀j u,(CV (x,c))[j]?=S u->w.cell? ((⟨O,0,N⟩:Addr).add j)=S u:=by
  intro j u M;rw[bw,es]
  match j,M with
  |0,M=>simp[CV]at M;subst M;exact f.cell rfl
  |1,M=>simp[CV]at M;subst M;exact f.cell rfl
 have p:=Zh (show∀u∈CV (x,c),u.oneCell' =true from λu t=>by simp[CV]at t;rcases t with rfl|rfl<;>rfl);have r:=Zh D;have H:=Zh h;have X:∀(v' :V) (w' :W),w'.ownsRow 0 228 2 v' (l.length+1) (AV l++CV (x,c))->w.grownBy w' v.ownBlock->(v'.ownBlock=v.ownBlock\/v'.ownBlock=S w.heap.size)->
   w'.ownsRow 0 228 2 v' (l.length+1) (AV (l++ [(x,c)]))/\AD (λk=>v.ownBlock=S k) w w' /\(v'.ownBlock=v.ownBlock\/v'.ownBlock=S w.heap.size):=λv' w' a b d=>
  ⟨by rw[FD];exact a,AD.of_grown b λk y=>y,d⟩
 have A:=Zh X;clear f D X;rcases AH h with⟨Q,Z,_⟩|⟨g,m,Q,q,s,_,z⟩
 ·rw[Z]at H A⊢;rw[Q]at H A⊢;clear h Q Z;go_enter func127,ntmps127;go_wp2_with(at_builtin;refine wpList_append_own_at _ rfl _ _ 113 rfl 0 228 o _ 2 16 underlying113 hi F G K rfl (by decide) _ _ _ rfl H.out ⟨O,0,N⟩ 1 1 (CV (x,c)) rfl rfl r.out p.out (by decide) (by decide) (dT _) ?_;intro v' w' a1 a2 _ a3);go_ret;exact⟨_,rfl,A.out v' w' a1 a2 a3⟩
 ·obtain⟨n,Z⟩:∃n,n=l.length:=⟨_,rfl⟩;rw[<-Z]at H A Y q Q⊢;rw[Q]at H A⊢;clear h Q Z;by_cases i:m=n
  ·subst i;go_enter func127,ntmps127;go_wp2_with(at_builtin;refine wpList_append_own_at _ rfl _ _ 113 rfl 0 228 o _ 2 16 underlying113 hi F G K rfl (by decide) _ _ _ rfl H.out ⟨O,0,N⟩ 1 1 (CV (x,c)) rfl rfl r.out p.out ?q1 ?q2 (dT _) ?_);case q1=>unfold maxLen;omega
   case q2=>omega
   intro v' w' a1 a2 _ a3;go_wp2;go_ret;exact⟨_,rfl,A.out v' w' a1 a2 a3⟩
  ·go_enter func127,ntmps127;go_wp2_with(at_builtin;refine wpList_append_own_at _ rfl _ _ 113 rfl 0 228 o _ 2 16 underlying113 hi F G K rfl (by decide) _ _ _ rfl H.out ⟨O,0,N⟩ 1 1 (CV (x,c)) rfl rfl r.out p.out ?q1 ?q2 (dT _) ?_);case q1=>unfold maxLen;omega
   case q2=>omega
   intro v' w' a1 a2 _ a3;go_wp2;go_ret;exact⟨_,rfl,A.out v' w' a1 a2 a3⟩
def Gj(cur:Array V)(n i:Nat)(xs:List V):Array Value:=(cur.toList.take ((i+1)*2)++xs.drop (i*2)++cur.toList.drop ((i+1)*2+(xs.drop (i*2)).length)).toArray
def Ns(cur:Array V)(i:Nat)(p:List V):Array Value:=(cur.toList.take (i*2)++p++cur.toList.drop (i*2+p.length)).toArray
theorem Rw(A n i D)(h:A.toList.take (n*2)=D)(G:D.length=n*2)(hi:i<n)(F:(n+1)*2<=A.size):(Gj A n i D).size=A.size:=by
 unfold Gj;have:A.toList.length=A.size:=fw;simp only[gT,Jx,Q0,RR];omega
theorem Pj(A i p)(D:p.length=2)(h:(i+1)*2<=A.size):(Ns A i p).size=A.size:=by
 unfold Ns;have:A.toList.length=A.size:=fw;simp only[gT,Jx,Q0,RR];omega
theorem Rx(A n i D p)(h:A.toList.take (n*2)=D)(O:D.length=n*2)(hi:i<n)(H:p.length=2)(M:(n+1)*2<=A.size):
  (Ns (Gj A n i D) i p).toList.take ((n+1)*2)=D.take (i*2)++(p++D.drop (i*2)):=by
 have K:A.toList.length=A.size:=fw;have F:(Gj A n i D).toList.take (i*2)=D.take (i*2):=by
  unfold Gj;rw[gU,bh,gV (by rw[Q0];omega),iM,<-h,iM];congr 1;omega
 have G:(Gj A n i D).toList.drop (i*2+p.length)=D.drop (i*2)++A.toList.drop ((i+1)*2+(D.drop (i*2)).length):=by
  unfold Gj;rw[gU,bh,List.drop_append,iN (by rw[Q0];omega),gS,Q0,show i*2+p.length-min ((i+1)*2) A.toList.length=0 from by omega,iJ]
 unfold Ns;rw[gU,F,G,bh,<-bh p,<-bh (D.take (i*2))];rw[gV (by simp only[Jx,Q0,RR];omega)];exact gi (by simp only[Jx,Q0,RR];omega)
theorem Nt(w)(g n G i:Nat)(l:AL)(O x c:Nat)(h:w.ownsRow 0 228 2 (L (S ⟨g,0,N⟩) n G) n (AV l))(Ap:n<=1000000)(r:i<n)(a:n+1<=G)(d:AI w O #[I J x,I U c] 228)(m:O≠g):
  C prog 127 #[L (S ⟨g,0,N⟩) n G,I J i,L (S ⟨O,0,N⟩) 1 1] w λe w' =>e=R (L (S ⟨g,0,N⟩) (n+1) G)/\
   w'.ownsRow 0 228 2 (L (S ⟨g,0,N⟩) (n+1) G) (n+1) ((AV l).take (i*2)++(CV (x,c)++(AV l).drop (i*2)))/\AD (λk=>k=g) w w' :=by
 obtain⟨K,h⟩:=h;rcases h with⟨h,_⟩|⟨g',Ar,F,hv,-,q,Aw,X,s,H⟩
 ·cases h
 simp only[L.injEq,iO,iP,and_true,true_and]at hv;obtain⟨rfl,rfl⟩:=hv;have hl:F.toList.length=F.size:=fw;obtain⟨Q,hA1⟩:∃A,A=Gj F n i (AV l):=⟨_,rfl⟩;obtain⟨f,hA2⟩:∃A,A=Ns Q i (CV (x,c)):=⟨_,rfl⟩;have z:Q.size=F.size:=by rw[hA1];exact Rw F n i _ H K r (by omega)
 have s2:f.size=F.size:=by rw[hA2,Pj _ _ _ rfl (by omega),z]
 have v:G<=9223372036854775807:=by unfold maxLen at X;omega
 have p:∀ty Z sc,(Builtin.copy_ #[113,113] ty #[L (S ⟨g,(i+1)*2,N⟩) (n-i) Z,L (S ⟨g,i*2,N⟩) (n+1-i) sc]).run prog w.drew=.ok (goInt (aw (n+1-i) (n-i))) (w.drew.setRow g Q):=λty Z sc=>by
  have k:=Ha w.drew ty g ((i+1)*2) (n-i) Z ⟨g,i*2,N⟩ (n+1-i) sc F ((AV l).drop (i*2)) q (by rw[RR,K,show aw (n+1-i) (n-i)=n-i from by simp only[iA];split<;>omega];omega)
   (λj u M=>by
    rw[bw,cell_of_row w.drew g _ F 228 (0,0) q];rw[List.getElem?_drop,<-H,List.getElem?_take]at M;split at M
    ·simpa using M
    ·cases M)
   (by rw[RR,K];omega) (λu t=>Ib l u (iQ t))
  rw[k,hA1];rfl
 have b:∀D:W,D.heap=(w.drew.setRow g Q).heap->D.heap[g]?=S (.cells Q 228 (0,0)):=λD Y=>by rw[Y];exact setRow_heap w.drew g F _ 228 _ q
 have o:∀D:W,D.heap=(w.drew.setRow g Q).heap->∀ty Z,(Builtin.copy_ #[113,113] ty #[L (S ⟨g,i*2,N⟩) (n+1-i) Z,L (S ⟨O,0,N⟩) 1 1]).run prog D=.ok (goInt (aw 1 (n+1-i))) (D.setRow g f):=λD Y ty Z=>by
  have hm:aw 1 (n+1-i)=1:=by simp only[iA];split<;>omega
  have k:=Ha D ty g (i*2) (n+1-i) Z ⟨O,0,N⟩ 1 1 Q (CV (x,c)) (b D Y) (by rw[hm];rfl)
   (λj u M=>by
    have Aa:D.heap[O]?=w.heap[O]?:=by rw[Y];exact setRow_other w.drew g O Q m
    rw[bw,es,W.cell?_of_block (w:=w) Aa]
    match j,M with
    |0,M=>simp[CV]at M;subst M;exact d.cell rfl
    |1,M=>simp[CV]at M;subst M;exact d.cell rfl)
   (by rw[z];show i*2+2<=_;omega) (λu t=>by simp[CV]at t;rcases t with rfl|rfl<;>rfl)
  rw[k,hA2];rfl
 have Ab:∀lb cb,(callFunc 133 #[L (S ⟨O,0,N⟩) 1 1,L (S ⟨g,(i+1)*2,N⟩) lb cb]).run prog w=.ok (.value (.bool false)) w:=λlb cb=>by
  have y:w.shape? O=S (228,2):=by unfold W.shape?;rw[show w.heap[O]?=_ from d];rfl
  have AA:w.shape? g=S (228,F.size):=by unfold W.shape?;rw[q]
  rw[run_callFunc_extern func133 (by kernel_rfl) (by kernel_rfl) (by kernel_rfl) (e:=Extern.SlicesOverlaps.overlaps #[113,113] #[4]) (by kernel_rfl),
   Lib.run_overlaps_apart w 113 4 228 underlying113 2 sizeOf228 ⟨O,0,N⟩ ⟨g,(i+1)*2,N⟩ 1 1 lb cb m 228 228 2 F.size y AA (by omega) (d.frozen 0) (d.frozen 2)]
  rfl
 have z1:¬((i:Int)=(n:Int)):=by omega
 have z2:¬((G:Int)<(n:Int)+1):=by omega
 have z3:¬(G=i):=by omega
 have z4:¬(G=i+1):=by omega
 have z5:(i:Int)<=(n:Int):=by omega
 have z6:(i:Int)+1<=(n:Int)+1:=by omega
 have Al:=Zh (show∀D:W,D.heap=(w.drew.setRow g Q).heap->D.os=w.os->D.tape=w.tape->D.output=w.output->(D.setRow g f).ownsRow 0 228 2 (L (S ⟨g,0,N⟩) (n+1) G) (n+1) ((AV l).take (i*2)++(CV (x,c)++(AV l).drop (i*2)))/\AD (λk=>k=g) w (D.setRow g f)from λD Y o1 o2 o3=>by
  refine⟨⟨?_,.inr ⟨g,G,f,rfl,dT _,setRow_heap D g Q _ 228 _ (b D Y),a,X,by rw[s2,s],?_⟩⟩,⟨o1,o2,o3,?_,λk hk hn=> ?_⟩⟩
  ·simp only[Jx,Q0,RR,K,CV,fk,iB];omega
  ·rw[hA2,hA1];exact Rx F n i _ _ H K r rfl (by omega)
  ·rw[size_setRow,Y,size_setRow];exact E _
  ·rw[setRow_other D g k f hn,Y];exact setRow_other w.drew g k Q hn)
 have Ac:prog.follows Departure.mixedOrders=true:=by kernel_rfl
 have Ax:J.wrap ((i:Int)+1)=(i:Int)+1:=by rw[iR];omega
 have Av:((i:Int)+1).toNat=i+1:=by omega
 have Ay:(0:Int)<=(i:Int)+1:=by omega
 have A0:(i:Int)<=(n:Int)+1:=by omega
 clear b s H hA1 hA2 z s2 q d K hl;go_enter func127,ntmps127;go_wp2_with(simp only[Ab]);go_region_law_o (refine Go.Proofs.step_copy_runI rfl _ _ 113 113 rfl _ _ (by simp[Act.eval,Act.put]) (by simp[Act.eval,Act.put]) (p _ _ _) ?_);go_wp2_with(at_builtin;refine Go.Proofs.wpList_copy_runI _ rfl _ _ 113 113 rfl _ _ rfl rfl (o _ rfl _ _) ?_);go_ret;exact⟨rfl,Al.out _ rfl rfl rfl rfl⟩
def Pk(cur:Array V)(i:Nat)(ys:List V):Array Value:=(cur.toList.take ((i+1)*2)++ys++cur.toList.drop ((i+1)*2+ys.length)).toArray
theorem Uc(A:Array V)(n i:Nat)(D p:List V)(h:A.toList.take (i*2)=D.take (i*2))(M:D.length=n*2)(hi:i<n)(G:p.length=2)(K:(n+1)*2<=A.size):
  (Pk (Ns A i p) i (D.drop (i*2))).toList.take ((n+1)*2)=D.take (i*2)++(p++D.drop (i*2)):=by
 have H:A.toList.length=A.size:=fw;have F:(Ns A i p).toList.take ((i+1)*2)=D.take (i*2)++p:=by
  unfold Ns;rw[gU,h,gV (by simp only[Jx,Q0];omega)];exact gi (by simp only[Jx,Q0];omega)
 unfold Pk;rw[gU,F,bh,bh,<-bh p,<-bh (D.take (i*2))];rw[gV (by simp only[Jx,Q0,RR];omega)];exact gi (by simp only[Jx,Q0,RR];omega)
theorem Ud(A i D)(h:(i+1)*2+D.length<=A.size):(Pk A i D).size=A.size:=by
 unfold Pk;have:A.toList.length=A.size:=fw;simp only[gT,Jx,Q0,RR];omega
theorem Pl(w)(g n H i:Nat)(l:AL)(q x c:Nat)(h:w.ownsRow 0 228 2 (L (S ⟨g,0,N⟩) n H) n (AV l))(BR:n<=1000000)(BA:i<n)(A3:H<n+1)(hb:AI w q #[I J x,I U c] 228):
  C prog 127 #[L (S ⟨g,0,N⟩) n H,I J i,L (S ⟨q,0,N⟩) 1 1] w λe w' =>∃v',e=R v' /\
   w'.ownsRow 0 228 2 v' (n+1) ((AV l).take (i*2)++(CV (x,c)++(AV l).drop (i*2)))/\B w.heap.size w w' /\v'.ownBlock=S w.heap.size:=by
 have K:=λj u (M:(AV l)[j]?=S u)=>(show w.cell? ⟨g,j,N⟩=S u by have:=h.cells (g:=g) rfl j u M;rwa [bw,es]at this)
 have Ap:g<w.heap.size:=(h.lt g rfl).2;obtain⟨Q,h⟩:=h;have Aa:n<=H:=by
  rcases h with⟨h,_⟩|⟨g',BX,Bs,hv,-,hg,Aa,BQ,Bu,Ar⟩
  ·cases h
  ·simp only[L.injEq,iO,iP,and_true,true_and]at hv;obtain⟨rfl,rfl⟩:=hv;exact Aa
 clear h;obtain⟨i0,A7,Aw,Av,AA⟩:=info_parts F1;have Ax:q<w.heap.size:=hb.lt;have t:i+(n+1-i)=n+1:=by omega
 have p:(Builtin.firstCells i0.size i (L (S ⟨g,0,N⟩) i H)).run prog w.drew=.ok ((AV l).take (i*2)).toArray w.drew:=by
  rw[Av];exact run_firstCells_some w.drew 2 i ⟨g,0,N⟩ i H ((AV l).take (i*2)) (by rw[Q0];omega) (λj v M=>by
   rw[bw,es];rw[List.getElem?_take]at M;split at M
   ·exact K j v M
   ·cases M)
 obtain⟨G,hG⟩:∃G,G=grownCap w (n+1) H 228:=⟨_,rfl⟩;obtain⟨F,Y⟩:∃F:Array V,F=((AV l).take (i*2)).toArray++Builtin.zeroCells (V.agg #[I J 0,I U 0]).cells (n+1-i)++Builtin.zeroCells (V.agg #[I J 0,I U 0]).cells (G-(n+1)):=⟨_,rfl⟩;have A9:∀ty,(Builtin.append_ #[113,3] ty #[L (S ⟨g,0,N⟩) i H,I J ((n:Int)+1-(i:Int))]).run prog w=
   .ok (L (S ⟨w.heap.size,0,N⟩) (n+1) G) (w.drew.alloc (.cells F 228)):=λty=>by
  have h:=Lib.run_append_grow_zeros w 113 3 ty 228 i0 _ J J underlying113 underlying3 A7 Aw (S ⟨g,0,N⟩) i H ((AV l).take (i*2)) p (n+1-i) (by omega) (by omega) (by omega) (by omega) (by rw[AA];omega) (by rw[AA,t];exact growslice_fits (by omega) (by omega));rw[t,<-hG,<-Y]at h;rw[show(n:Int)+1-(i:Int)=((n+1-i:Nat):Int)from by omega];exact h
 have A4:n+1<=G:=by rw[hG];exact grownCap_ge w _ _ _
 have r:G<=maxLen:=by rw[hG];exact grownCap_le_maxLen w (n+1) H 228 (by unfold maxLen;omega)
 have Ba:G<=9223372036854775807:=by unfold maxLen at r;omega
 have s:F.size=G*2:=by
  rw[Y];simp only[Array.size_append,gT,Q0,size_zeroCells,V.cells,Q,gT,fk,iB];omega
 have Ac:F.toList.take (i*2)=(AV l).take (i*2):=by
  rw[Y];simp only[Array.toList_append,bh];rw[gV (by simp only[Q0];omega)];exact gi (by simp only[Q0];omega)
 obtain⟨O,hA1⟩:∃A,A=Ns F i (CV (x,c)):=⟨_,rfl⟩;obtain⟨y,hA2⟩:∃A,A=Pk O i ((AV l).drop (i*2)):=⟨_,rfl⟩;have s1:O.size=G*2:=by rw[hA1,Pj _ _ _ rfl (by omega),s]
 have s2:y.size=G*2:=by rw[hA2,Ud _ _ _ (by rw[RR,Q];omega),s1]
 have Ab:∀D:W,D.heap=(w.drew.alloc (.cells F 228)).heap->D.heap[w.heap.size]?=S (.cells F 228 (0,0)):=λD Z=>by rw[Z];exact heap_alloc_new w.drew _
 have d:∀D:W,D.heap=(w.drew.alloc (.cells F 228)).heap->∀b o,b<w.heap.size->D.cell? ⟨b,o,N⟩=w.cell? ⟨b,o,N⟩:=λD Z b o hb=>W.cell?_of_block (w:=w) (a:=⟨b,o,N⟩) (by rw[Z];exact B.heap_alloc w.drew _ b hb);have m:∀D:W,D.heap=(w.drew.alloc (.cells F 228)).heap->∀ty X,(Builtin.copy_ #[113,113] ty #[L (S ⟨w.heap.size,i*2,N⟩) (n+1-i) X,L (S ⟨q,0,N⟩) 1 1]).run prog D=.ok (goInt (aw 1 (n+1-i))) (D.setRow w.heap.size O):=λD Z ty X=>by
  have hm:aw 1 (n+1-i)=1:=by simp only[iA];split<;>omega
  have k:=Ha D ty w.heap.size (i*2) (n+1-i) X ⟨q,0,N⟩ 1 1 F (CV (x,c)) (Ab D Z) (by rw[hm];rfl)
   (λj u M=>by
    rw[bw,es,d D Z q _ Ax]
    match j,M with
    |0,M=>simp[CV]at M;subst M;exact hb.cell rfl
    |1,M=>simp[CV]at M;subst M;exact hb.cell rfl)
   (by rw[s];show i*2+2<=_;omega) (λu hu=>by simp[CV]at hu;rcases hu with rfl|rfl<;>rfl)
  rw[k,hA1];rfl
 have f:∀D:W,D.heap=((w.drew.alloc (.cells F 228)).setRow w.heap.size O).heap->∀ty X z,(Builtin.copy_ #[113,113] ty #[L (S ⟨w.heap.size,(i+1)*2,N⟩) (n-i) X,L (S ⟨g,i*2,N⟩) (n-i) z]).run prog D=.ok (goInt (aw (n-i) (n-i))) (D.setRow w.heap.size y):=λD Z ty X z=>by
  have k:=Ha D ty w.heap.size ((i+1)*2) (n-i) X ⟨g,i*2,N⟩ (n-i) z O ((AV l).drop (i*2)) (by rw[Z];exact setRow_heap (w.drew.alloc _) w.heap.size F _ 228 _ (heap_alloc_new w.drew _)) (by rw[RR,Q,show aw (n-i) (n-i)=n-i from Nat.min_self _];omega)
   (λj u M=>by
    have A6:D.heap[g]?=w.heap[g]?:=by rw[Z,setRow_other (w.drew.alloc _) w.heap.size g O (by omega)];exact B.heap_alloc w.drew _ g Ap
    rw[bw,W.cell?_of_block (w:=w) (a:=⟨g,i*2+j,N⟩) A6];rw[List.getElem?_drop]at M;exact K _ u M)
   (by rw[RR,Q,s1];omega) (λu hu=>Ib l u (iQ hu))
  rw[k,hA2];rfl
 have A5:=Zh (show∀D:W,D.heap=((w.drew.alloc (.cells F 228)).setRow w.heap.size O).heap->D.os=w.os->D.tape=w.tape->D.output=w.output->(D.setRow w.heap.size y).ownsRow 0 228 2 (L (S ⟨w.heap.size,0,N⟩) (n+1) G) (n+1) ((AV l).take (i*2)++(CV (x,c)++(AV l).drop (i*2)))/\B w.heap.size w (D.setRow w.heap.size y)from λD Z o1 o2 o3=>by
  have A0:D.heap[w.heap.size]?=S (.cells O 228 (0,0)):=by rw[Z];exact setRow_heap (w.drew.alloc _) w.heap.size F _ 228 _ (heap_alloc_new w.drew _)
  refine⟨⟨?_,.inr ⟨w.heap.size,G,y,rfl,dT _,setRow_heap D w.heap.size O _ 228 _ A0,A4,r,by rw[s2],?_⟩⟩,⟨o1,o2,o3,?_,λk hk=> ?_⟩⟩
  ·simp only[Jx,Q0,RR,Q,CV,fk,iB];omega
  ·rw[hA2,hA1];exact Uc F n i _ _ Ac Q BA rfl (by omega)
  ·rw[size_setRow,Z,size_setRow];simp
  ·rw[setRow_other D w.heap.size k y (by omega),Z,setRow_other (w.drew.alloc _) w.heap.size k O (by omega)];exact B.heap_alloc w.drew _ k hk)
 have z1:¬((i:Int)=(n:Int)):=by omega
 have z2:(H:Int)<(n:Int)+1:=by omega
 have z3:¬(G=i):=by omega
 have z4:¬(G=i+1):=by omega
 have z5:¬(H=i):=by omega
 have A8:prog.follows Departure.mixedOrders=true:=by kernel_rfl
 have Bt:J.wrap ((i:Int)+1)=(i:Int)+1:=by rw[iR];omega
 have Bb:((i:Int)+1).toNat=i+1:=by omega
 have B2:(0:Int)<=(i:Int)+1:=by omega
 have Bw:(i:Int)<=(n:Int):=by omega
 have B1:(i:Int)+1<=(n:Int)+1:=by omega
 have B0:(i:Int)<=(n:Int)+1:=by omega
 have Al :∀ty X,(Builtin.copy_ #[113,113] ty #[L (S ⟨w.heap.size,i*2,N⟩) (n+1-i) X,L (S ⟨q,0,N⟩) 1 1]).run prog (w.alloc (.cells F 228)).drew=.ok (goInt (aw 1 (n+1-i))) ((w.alloc (.cells F 228)).drew.setRow w.heap.size O):=λty X=>m _ rfl ty X;have Ay :∀ty X z,(Builtin.copy_ #[113,113] ty #[L (S ⟨w.heap.size,(i+1)*2,N⟩) (n-i) X,L (S ⟨g,i*2,N⟩) (n-i) z]).run prog ((w.alloc (.cells F 228)).drew.setRow w.heap.size O).drew=.ok (goInt (aw (n-i) (n-i))) (((w.alloc (.cells F 228)).drew.setRow w.heap.size O).drew.setRow w.heap.size y):=λty X z=>f ((w.alloc (.cells F 228)).drew.setRow w.heap.size O).drew rfl ty X z;clear m f;clear K t p Y hG s Ac hA1 hA2 s1 s2 Ab d hb Q r;go_enter func127,ntmps127;go_wp2_with(at_builtin;refine Lib.wpList_append_run _ rfl _ _ _ _ rfl _ _ rfl rfl _ _ (A9 _) ?_);go_region;all_goals(try go_wp2)
 all_goals go_ret
 all_goals obtain⟨f1,f2⟩:=A5.out ((w.alloc (.cells F 228)).drew.setRow w.heap.size O).drew rfl rfl rfl rfl
 all_goals exact⟨_,rfl,f1,f2,rfl⟩
def FA(w:W)(v v' :V):Prop:=v'.ownBlock=v.ownBlock\/∃k,v'.ownBlock=S k/\w.heap.size<=k
theorem Ry(w v)(l:AL)(p G x c:Nat)(h:w.ownsRow 0 228 2 v l.length (AV l))(A:l.length<=1000000)(i:p<=l.length)(Q:AI w G #[I J x,I U c] 228)(O:v.ownBlock≠S G):
  C prog 127 #[v,I J p,L (S ⟨G,0,N⟩) 1 1] w λe w' =>∃v',e=R v' /\w'.ownsRow 0 228 2 v' (l.length+1) (AV (l.take p++(x,c)::l.drop p))/\
   AD (λk=>v.ownBlock=S k) w w' /\FA w v v' :=by
 have b:AV (l.take p++(x,c)::l.drop p)=(AV l).take (p*2)++(CV (x,c)++(AV l).drop (p*2)):=by
  rw[FD,Mi,<-Mj];rfl
 by_cases f:p=l.length
 ·subst f;refine(Rv w v l G x c h A Q).mono λe w' ⟨v',M,H,K,D⟩=>⟨v',M,?_,K,?_⟩
  ·rw[iC,List.drop_length];exact H
  ·rcases D with D|D
   ·exact .inl D
   ·exact .inr ⟨_,D,E _⟩
 ·rcases AH h with⟨X,m,_⟩|⟨g,F,X,Z,Y,_,j⟩
  ·omega
  ·subst X;rw[b];by_cases a:l.length+1<=F
   ·refine(Nt w g l.length F p l G x c h A (by omega) a Q (λe=>O (by rw[e];rfl))).mono λe w' ⟨M,H,K⟩=>⟨_,M,H,?_,.inl rfl⟩
    exact K.mono λk _ d=>by subst d;rfl
   ·exact(Pl w g l.length F p l G x c h A (by omega) (by omega) Q).mono λe w' ⟨v',M,H,K,D⟩=>⟨v',M,H,AD.of_below K,.inr ⟨_,D,E _⟩⟩
theorem Ko{l:AL}{v}(c)(h:AT l)(A:BY l v<l.length)(D:(l[BY l v]'A).1=v):(Ak l v c).length=l.length:=by
 rw[Pf h c A D];simp
theorem GV{l:AL}{v}(c)(h:AT l)(D:∀(A:BY l v<l.length),(l[BY l v]'A).1≠v):(Ak l v c).length=l.length+1:=by
 have:=Nr l v;rw[Pg h c D];simp;omega
theorem Wr{l:AL}{x}(h:MQ l x=true):∃A:BY l x<l.length,(l[BY l x]'A).1=x:=by
 unfold MQ at h;split at h
 ·rename_i A;exact⟨A,by simpa using h⟩
 ·cases h
theorem Mm{l:AL}{x}(h:MQ l x=false):∀A:BY l x<l.length,(l[BY l x]'A).1≠x:=by
 intro A D;unfold MQ at h;rw[dif_pos A]at h;simp[D]at h
theorem Pm(w v)(l:AL)(x c)(h:w.ownsRow 0 228 2 v l.length (AV l))(O:AT l)(H:l.length<=1000000)(hc:1<=c)(hs:AP l x+c<18446744073709551616):
  C prog 115 #[v,I J x,I U c] w λe w' =>∃v',e=R v' /\w'.ownsRow 0 228 2 v' (Ak l x c).length (AV (Ak l x c))/\
   AD (λk=>v.ownBlock=S k) w w' /\FA w v v' :=by
 have Z:=Ie w 0 v l x h O H;have g1:((c:Int)==0)=false:=by simp;omega
 cases G:MQ l x with
 |true=>
  obtain⟨K,q⟩:=Wr G;rw[G]at Z;have d:=Ph O K q;rw[Ko c O K q,Pf O c K q];rw[Wp l (BY l x) K];obtain⟨p,F⟩:∃p,p=BY l x:=⟨_,rfl⟩;obtain⟨Y,X⟩:∃Y,Y=(l[BY l x]'K).2:=⟨_,rfl⟩;rw[<-X]at d⊢;rw[<-F]at Z⊢;have r:p<l.length:=by omega
  have f:(AV l)[p*2+1]?=S (I U Y):=by
   have:=BT l (BY l x) K;rw[<-X,<-F]at this;exact this
  rcases AH h with⟨hv,s,_⟩|⟨g,i,hv,m,j,_,hg⟩
  ·omega
  ·subst hv;obtain⟨n,s⟩:∃n,n=l.length:=⟨_,rfl⟩;rw[<-s]at h Z r m⊢;obtain⟨z,u⟩:∃z,z=Y+c:=⟨_,rfl⟩;have f1:U.wrap ((Y:Int)+(c:Int))=(z:Int):=by rw[show(Y:Int)+(c:Int)=(z:Int)from by omega,ag];omega
   rw[<-u];have y:∀A,B w.heap.size w A->A.cell? ⟨g,p*2+1,N⟩=S (I U Y)/\A.frozen? ⟨g,p*2+1,N⟩=false/\A.ownsRow 0 228 2 (L (S ⟨g,0,N⟩) n i) n (AV l):=λA b=>
    have a:=AE h b λk D=>(h.lt k D).2
    ⟨by rw[a.cellAt _ (by omega)];exact f,a.frozenAt _,a⟩
   have HL:=Zh y;have t :n<=i:=m;clear h O H hc hs K q d F X f s G u y j hg;go_enter func115,ntmps115;go_wp2_with(go_at_call 114;refine Z.mono ?_;rintro e A ⟨rfl,M⟩;obtain⟨k1,k2,k3⟩:=HL.out A M);go_ret;obtain⟨j1,j2⟩:=k3.stored (p*2+1) (I U z);refine⟨_,rfl,j1,?_,.inl rfl⟩;exact(AD.of_below M).trans' (AD.of_grown j2 λk D=>D) (λk _ D=>D) (λk _ D=>D)
 |false=>
  have Q:=Mm G;rw[G]at Z;rw[GV c O Q,Pg O c Q];have K:=Nr l x;obtain⟨p,F⟩:∃p,p=BY l x:=⟨_,rfl⟩;rw[<-F]at Z K⊢;have o:∀A,B w.heap.size w A->C prog 127 #[v,I J p,L (S ⟨A.heap.size,0,N⟩) 1 1] (A.alloc (.cells #[I J x,I U c] 228)) λe w' =>∃v',e=R v' /\w'.ownsRow 0 228 2 v' (l.length+1) (AV (l.take p++(x,c)::l.drop p))/\
   AD (λk=>v.ownBlock=S k) w w' /\FA w v v' :=λA b=>by
   have a:=AE h b λk D=>(h.lt k D).2;refine(Ry (A.alloc _) v l p A.heap.size x c (a.alloc _) H K (AI.new A _ _) (λe=>absurd (a.lt _ e).2 (Nat.lt_irrefl _))).mono λe w' ⟨v',a1,a2,a3,a4⟩=>⟨v',a1,a2,?_,?_⟩
   ·exact((AD.of_below b).alloc _).trans' a3 (λk _ D=>D) (λk _ D=>D)
   ·rcases a4 with a4|⟨k,a4,a5⟩
    ·exact .inl a4
    ·exact .inr ⟨k,a4,by have:=b.size;simp at a5;omega⟩
  clear h O Q F G hs;go_enter func115,ntmps115;go_wp2_with(first|(go_at_call 114;refine Z.mono ?_;rintro e A ⟨rfl,M⟩)|(go_at_call 127;refine(o _ M).mono ?_;rintro e w2 ⟨v2,rfl,r1,r2,r3⟩));go_ret;exact⟨v2,rfl,r1,r2,r3⟩
theorem AF{w:W}{base:Nat}{e:TypeId}{D:Nat}{v:V}{n:Nat}{G:List V}(h:w.ownsRow base e D v n G):∃A c,v=L A n c:=by
 rcases AH h with⟨F,K,_⟩|⟨g,H,F,_⟩
 ·exact⟨N,0,by rw[F,K]⟩
 ·exact⟨_,_,F⟩
theorem EG(l:AL)(x c):AB (Ak l x c)=AB l+c:=by unfold AB;rw[DB];simp
theorem An(l:AL)(x):AP l x<=AB l:=PY _ _ _ λ_ _ _=>rfl
theorem Cc(w)(sb:Nat)(v)(l:AL)(x c:Nat)(h:As w sb v l)(hc:1<=c)(hs:AB l+c<=9223372036854775807)(j:l.length<4096):
  C prog 93 #[P (S ⟨sb,0,N⟩),I J x,I U c] w λe w' =>e=R (I J 0)/\∃v',As w' sb v' (Ak l x c)/\
   AD (λk=>k=sb\/v.ownBlock=S k) w w' /\FA w v v' :=by
 obtain⟨c0,c1,c2,f1,f2⟩:=h.cells;have g1:((c:Int)==0)=false:=by simp;omega
 have Al:=An l x;obtain⟨t,ht⟩:∃t,t=AB l:=⟨_,rfl⟩;have y:=λD b h0 h1=>Az D b t c (by omega) h0 h1;have Aa:=λ(D:W) (hb:B w.heap.size w D)=>Ie D 0 v l x (h.next hb).own h.rising (by omega);rw[<-ht]at c2;have H:=Zh h;obtain⟨A,n,f,hv,hn⟩:∃A n f,v=L A n f/\n=l.length:=by
  rcases AH h.own with⟨hv,hn,_⟩|⟨g,f,hv,_⟩
  ·exact⟨N,0,0,hv,hn.symm⟩
  ·exact⟨_,_,_,hv,rfl⟩
 have Av:¬(4096:Int)<=(n:Int):=by omega
 have u:=Zh (show∀(G O:W) (a:V),B w.heap.size w G->O.ownsRow 0 228 2 a (Ak l x c).length (AV (Ak l x c))->AD (λk=>v.ownBlock=S k) G O->FA G v a->
   (∃v',As ((O.setCell ⟨sb,1,N⟩ a).setCell ⟨sb,2,N⟩ (I U ((t+c:Nat):Int))) sb v' (Ak l x c)/\AD (λk=>k=sb\/v.ownBlock=S k) w ((O.setCell ⟨sb,1,N⟩ a).setCell ⟨sb,2,N⟩ (I U ((t+c:Nat):Int)))/\FA w v v')/\
   O.cell? ⟨sb,1,N⟩=S v/\O.cell? ⟨sb,2,N⟩=S (I U t)/\O.frozen? ⟨sb,1,N⟩=false/\O.frozen? ⟨sb,2,N⟩=false from λG O a Y o2 a2 i=>by
  have Ap:=h.blk.below Y h.blk.lt;have Ac:=h.ne;have K:=Ap.away a2 Ac;have Aw:sb<w.heap.size:=h.blk.lt;have z:a.ownBlock≠S sb:=by
   intro e;obtain⟨Ax,Ab⟩:=AJ o2 e;exact(K.ne Ab (by decide)) rfl
  refine⟨⟨a,⟨?_,AN (AN o2 _ _ z) _ _ z,Bg h.rising,Ca h.full hc⟩,?_,?_⟩,K.cell rfl,by rw[ht];exact K.cell rfl,K.frozen 1,K.frozen 2⟩
  ·rw[EG,<-ht];exact(K.set 1 a).set 2 _
  ·refine AD.setCell (AD.setCell ?_ _ _ (.inl (.inl rfl))) _ _ (.inl (.inl rfl));exact(AD.of_below (F:=λk=>k=sb\/v.ownBlock=S k) Y).trans' a2 (λk _ hk=>hk) (λk _ hk=>.inr hk)
  ·rcases i with i|⟨k,i,k3⟩
   ·exact .inl i
   ·exact .inr ⟨k,i,fj Y.size k3⟩)
 have Z:=Zh (show∀G:W,B w.heap.size w G->C prog 115 #[v,I J x,I U c] G λe w' =>∃v',e=R v' /\w'.ownsRow 0 228 2 v' (Ak l x c).length (AV (Ak l x c))/\
   AD (λk=>v.ownBlock=S k) G w' /\FA G v v' from λG Y=>Pm G v l x c (h.next Y).own h.rising (by omega) hc (by omega))
 have AA :=Zh Aa;have s :=Zh y;have Ar:=Zh (show∀G:W,B w.heap.size w G->G.cell? ⟨sb,0,N⟩=S (I J 4096)/\G.cell? ⟨sb,1,N⟩=S v/\G.cell? ⟨sb,2,N⟩=S (I U t)from λG Y=>⟨(Y.cell (p:=⟨sb,0,N⟩) h.blk.lt).trans c0,(Y.cell (p:=⟨sb,1,N⟩) h.blk.lt).trans c1,(Y.cell (p:=⟨sb,2,N⟩) h.blk.lt).trans c2⟩);subst hv;clear Aa y h Al hs ht hn hc j;go_enter func93,ntmps93;go_wp2_with fail;refine(s.out _ _ (by simp) (by simp)).mono ?_;rintro e G ⟨rfl,rfl⟩;have Ay:=H.out.blk.lt;have Q:B w.heap.size w (w.alloc (.cells #[I U t,I U c] 23)):=Za;go_wp2_with fail;refine(AA.out _ Q).mono ?_;rintro e O ⟨rfl,r⟩;have M:=Q.trans (r.mono Q.size);clear r Q;obtain⟨k0,k1,i⟩:=Ar.out O M;have X:∀q,B w.heap.size w (O.drewN q):=λq=>⟨M.os,M.tape,M.output,M.size,M.block⟩
 cases o:MQ l x with
 |true=>
  clear o;go_wp2_with fail;go_quiet(fail);go_wp2_with(go_at_call 115;refine(Z.out _ (X _)).mono ?_;rintro e w3 ⟨v3,rfl,m,a3,q3⟩;obtain⟨A3,n3,d⟩:=AF m;subst d;obtain⟨r1,r2,r3,r4,r5⟩:=u.out _ w3 _ (X _) m a3 q3);go_ret;exact⟨rfl,r1⟩
 |false=>
  clear o;go_wp2_with fail;go_quiet(fail);go_wp2_with(go_at_call 115;refine(Z.out _ (X _)).mono ?_;rintro e w3 ⟨v3,rfl,m,a3,q3⟩;obtain⟨A3,n3,d⟩:=AF m;subst d;obtain⟨r1,r2,r3,r4,r5⟩:=u.out _ w3 _ (X _) m a3 q3);go_ret;exact⟨rfl,r1⟩
def F2(c:Nat):Nat:=if c % 2=1 then(c/2)^^^3988292384 else c/2
def Bc:Nat->Nat->Nat
 |0,c=>c
 |k+1,c=>Bc k (F2 c)
theorem Ws(c b):(c^^^b)/2=c/2^^^b/2:=by
 have:=Nat.shiftRight_xor_distrib (a:=c) (b:=b) (i:=1);simpa[Nat.shiftRight_eq_div_pow]using this
theorem Z8(c b):(c^^^b) % 2=(c % 2+b % 2) % 2:=by
 have h:=Nat.xor_mod_two_pow (a:=c) (b:=b) (n:=1);rw[Nat.pow_one]at h;rw[h];have D:=iS c;have A:=iS b;rcases D with D|D<;>rcases A with A|A<;>rw[D,A]<;>rfl
def Jo(c b:Nat):Nat:=Bc 8 (c^^^b)
theorem Nu{c}(h:c<4294967296):F2 c<4294967296:=by
 unfold F2;split
 ·exact iT (n:=32) (by omega) (by decide)
 ·omega
theorem Mn:∀(k:Nat) {c:Nat},c<4294967296->Bc k c<4294967296
 |0,_,h=>h
 |k+1,_,h=>Mn k (Nu h)
theorem Pn{c b}(h:c<4294967296)(A:b<256):Jo c b<4294967296:=
 Mn 8 (iT (n:=32) (by omega) (by omega))
def Zl(l:List UInt8):Nat:=l.foldl (λc b=>Jo c b.toNat) 4294967295
def F3(l:List UInt8):Nat:=4294967295-Zl l
theorem Z9 (l:List UInt8):∀c,c<4294967296->l.foldl (λc b=>Jo c b.toNat) c<4294967296:=by
 induction l with
 |nil=>intro c h;exact h
 |cons b l A=>intro c h;exact A _ (Pn h b.toNat_lt)
theorem Wt(l):Zl l<4294967296:=Z9 l _ (by decide)
theorem Wu(l b):Zl (l++ [b])=Jo (Zl l) b.toNat:=by unfold Zl;rw[List.foldl_append];rfl
theorem Wv(l:List UInt8)(k:Nat)(h:k<l.length):Zl (l.take (k+1))=Jo (Zl (l.take k)) (l[k]'h).toNat:=by
 rw[iD h,Wu]
def ET(c:Nat):List UInt8:=[V0 (c % 256),V0 (c/256 % 256),V0 (c/65536 % 256),V0 (c/16777216 % 256)]
theorem EW(c):(ET c).length=4:=rfl
def If:Nat->Nat->List UInt8
 |0,n=> [V0 n]
 |k+1,n=>if n<128 then [V0 n]else V0 (n % 128+128)::If k (n/128)
theorem Kp:∀(k j n:Nat),n<=k->n<=j->If k n=If j n
 |0,0,n,_,_=>rfl
 |0,j+1,n,h,_=>by
  unfold If
  rw[if_pos (by omega)]
 |k+1,0,n,_,h=>by
  unfold If
  rw[if_pos (by omega)]
 |k+1,j+1,n,h1,h2=>by
  unfold If
  by_cases h:n<128
  ·rw[if_pos h,if_pos h]
  ·rw[if_neg h,if_neg h,Kp k j (n/128) (by omega) (by omega)]
def AK(n:Nat):List UInt8:=If n n
theorem CP{n}(h:n<128):AK n=[V0 n]:=by
 unfold AK
 match n,h with
 |0,_=>rfl
 |k+1,h=>unfold If;rw[if_pos h]
theorem Da{n}(h:128<=n):AK n=V0 (n % 128+128)::AK (n/128):=by
 unfold AK
 match n,h with
 |k+1,h=>
  conv=>lhs;unfold If
  rw[if_neg (by omega),Kp k ((k+1)/128) ((k+1)/128) (by omega) (by omega)]
theorem Ee(n):1<=(AK n).length:=by
 by_cases h:n<128
 ·rw[CP h];simp
 ·rw[Da (by omega)];simp
theorem Gk(k):∀n,n<128^(k+1)->(AK n).length<=k+1:=by
 induction k with
 |zero=>intro n h;rw[CP (by simpa using h)];simp
 |succ k D=>
  intro n h;by_cases A:n<128
  ·rw[CP A];simp
  ·rw[Da (by omega),fk];have:=D (n/128) (by rw[Nat.div_lt_iff_lt_mul (by decide)];rw[gW]at h;exact h);omega
theorem AC(n)(h:n<18446744073709551616):(AK n).length<=10:=Gk 9 n (by omega)
theorem cT(u m s)(h:u<2^s):u|||(m*2^s)=u+m*2^s:=by
 rw[Nat.or_comm,gY,<-Nat.two_pow_add_eq_or_of_lt h,Nat.add_comm]
theorem Tl(u m s)(h:u<2^s):u+m % 128*2^s<2^(s+7):=by
 have A:m % 128<=127:=by omega
 have D:=fx (2^s) A;rw[gv];omega
theorem Tm(u m s):u+m % 128*2^s+m/128*2^(s+7)=u+m*2^s:=by
 have h:=Nat.div_add_mod m 128;have e:m*2^s=m/128*2^(s+7)+m % 128*2^s:=by
  rw[gv,show(2:Nat)^7=128 from rfl,gY (2^s) 128,<-iG,<-fy,gY (m/128),h]
 omega
theorem KU(n m):∀(r s:List UInt8),AK n++r=AK m++s->n<18446744073709551616->m<18446744073709551616->n=m/\r=s:=by
 induction n using Nat.strongRecOn generalizing m with
 |ind n ih=>
  intro r s h F G;by_cases a:n<128<;>by_cases b:m<128
  ·rw[CP a,CP b]at h;simp only[ej,gS,gj]at h;refine⟨?_,h.2⟩;have:=congrArg gm h.1;simp at this;omega
  ·rw[CP a,Da (n:=m) (by omega)]at h;simp only[ej,gS,gj]at h;have:=congrArg gm h.1;simp at this;omega
  ·rw[Da (n:=n) (by omega),CP b]at h;simp only[ej,gS,gj]at h;have:=congrArg gm h.1;simp at this;omega
  ·rw[Da (n:=n) (by omega),Da (n:=m) (by omega)]at h;simp only[ej,gj]at h;have D:=congrArg gm h.1;simp at D;have A:=ih (n/128) (by omega) (m/128) r s h.2 (by omega) (by omega);exact⟨by omega,A.2⟩
def CJ(l:AL)(i:Nat):Nat:=(l.getD i (0,0)).1
def C5(l:AL)(i:Nat):Nat:=(l.getD i (0,0)).2
def Db(l:AL)(i:Nat):Nat:=if i=0 then 2*CJ l 0 else CJ l i-CJ l (i-1)-1
def Jp(l:AL)(i:Nat):List UInt8:=AK (Db l i)++AK (C5 l i)
def Ef(l:AL)(k:Nat):List UInt8:=(iU k).flatMap (Jp l)
def EI(l:AL)(k:Nat):List UInt8:=((iU l.length).drop k).flatMap (Jp l)
theorem Jq(l:AL)(k):Ef l (k+1)=Ef l k++Jp l k:=by
 unfold Ef;rw[List.range_succ,gQ];simp
theorem Jr(l:AL):Ef l 0=[]:=rfl
theorem Kq(l:AL)(k)(h:k<l.length):EI l k=Jp l k++EI l (k+1):=by
 unfold EI;rw[List.drop_eq_getElem_cons (by simpa using h)];simp
theorem Mo(l:AL):EI l l.length=[]:=by unfold EI;rw[iN (by simp)];rfl
theorem Rz(l:AL):EI l 0=Ef l l.length:=rfl
theorem Kr(l:AL)(k)(h:∀i,i<k->Db l i<18446744073709551616/\C5 l i<18446744073709551616):(Ef l k).length<=20*k:=by
 induction k with
 |zero=>simp[Jr]
 |succ k A=>
  rw[Jq,Jx];have G:=A λi hi=>h i (by omega);obtain⟨D,F⟩:=h k (by omega);have:=AC _ D;have:=AC _ F;unfold Jp;rw[Jx];omega
def Dc(l:AL):List UInt8:=AK l.length++Ef l l.length
def Eg(d f zl zh:Nat)(l:AL):List UInt8:=AK d++AK f++AK zl++AK zh++Dc l
theorem Ue(d f D A)(l:AL)(H:d<18446744073709551616)(F:f<18446744073709551616)(K:D<18446744073709551616)(G:A<18446744073709551616)(Y:l.length<=4096)
  (h:∀i,i<l.length->Db l i<18446744073709551616/\C5 l i<18446744073709551616):5<=(Eg d f D A l).length/\(Eg d f D A l).length<=100000:=by
 have a1:=Ee d;have a2:=Ee f;have a3:=Ee D;have a4:=Ee A;have a5:=Ee l.length;have M:=AC _ H;have Z:=AC _ F;have X:=AC _ K;have a:=AC _ G;have O:=AC l.length (by omega);have Q:=Kr l _ h;unfold Eg Dc;simp only[Jx];omega
def Dt:List UInt8:=[79,71,1]
def Cy(kind:UInt8)(load:List UInt8):List UInt8:=Dt++ [kind]++AK load.length++load
def AW(kind:UInt8)(load:List UInt8):List UInt8:=Cy kind load++ET (F3 (Cy kind load))
theorem CQ(A D):(AW A D).length=(Cy A D).length+4:=by unfold AW;rw[Jx];rfl
theorem CK(D A):(Cy D A).length=4+(AK A.length).length+A.length:=by unfold Cy;simp only[Jx];rfl
end Go.Proofs.YtbejdajkkoapgaaGreatDoor
namespace Go.Proofs.YtbejdajkkoapgaaGreatDoor.Sg
open Go.RowKit
theorem Ww(n)(h:n<18446744073709551616):n^^^18446744073709551615=18446744073709551615-n:=by
 have e:(BitVec.ofNat 64 n^^^BitVec.allOnes 64).toNat=(~~~BitVec.ofNat 64 n).toNat:=by rw[BitVec.xor_allOnes]
 rw[BitVec.toNat_not,BitVec.toNat_xor,BitVec.toNat_allOnes,BitVec.toNat_ofNat,Nat.mod_eq_of_lt (by omega)]at e;exact e
theorem Ig(a)(h: -9223372036854775808<=a)(A :a<=9223372036854775807):bits .xor J a 0=a:=by
 show J.wrap ((BitVec.ofInt 64 a^^^BitVec.ofInt 64 0).toNat:Int)=a;have:BitVec.ofInt 64 0=0#64:=by decide
 rw[this,BitVec.xor_zero,BitVec.toNat_ofInt];simp only[iV,iW,iX];simp;omega
theorem Ih(a)(h: -9223372036854775808<=a)(A :a<=9223372036854775807):bits .xor J a (-1)= -a-1:=by
 show J.wrap ((BitVec.ofInt 64 a^^^BitVec.ofInt 64 (-1)).toNat:Int)=_;have:BitVec.ofInt 64 (-1)=BitVec.allOnes 64:=by decide
 rw[this,BitVec.xor_allOnes,BitVec.toNat_not,BitVec.toNat_ofInt];simp only[iV,iW,iX];simp;omega
def zigF(x:Int):Int:=if x<0 then-2*x-1 else 2*x
def zagF(u:Int):Int:=if u % 2=1 then-(u/2)-1 else u/2
theorem zigF_or(x):x<0/\zigF x= -2*x-1\/0<=x/\zigF x=2*x:=by unfold zigF;omega
theorem zagF_or(u):u % 2=1/\zagF u= -(u/2)-1\/u % 2=0/\zagF u=u/2:=by unfold zagF;omega
theorem Wx(x)(h: -9223372036854775808<=x)(F :x<=9223372036854775807):
  bits .xor U (U.wrap (U.wrap x*2)) (U.wrap (x/9223372036854775808))=zigF x:=by
 by_cases G:x<0
 ·have A:U.wrap (x/9223372036854775808)=((18446744073709551615:Nat):Int):=by rw[ag];omega
  have D:U.wrap (U.wrap x*2)=(((2*x+18446744073709551616).toNat:Nat):Int):=by simp only[ag];omega
  rw[A,D,u64_xor_nat _ _ (by omega) (by decide),Ww _ (by omega)];have:=zigF_or x;omega
 ·have A:U.wrap (x/9223372036854775808)=((0:Nat):Int):=by rw[ag];omega
  have D:U.wrap (U.wrap x*2)=(((2*x).toNat:Nat):Int):=by simp only[ag];omega
  rw[A,D,u64_xor_nat _ _ (by omega) (by decide),Nat.xor_zero];have:=zigF_or x;omega
theorem zig_any(x w)(h: -9223372036854775808<=x)(A :x<=9223372036854775807):
  C prog 230 #[I J x] w λe w' =>e=R (I U (zigF x))/\w=w' :=by
 go_enter func230,ntmps230;go_wp2;go_ret;exact⟨ret_int (Wx x h A),rfl⟩
theorem aA(u)(h:0<=u)(A :u<=18446744073709551615):bits .and U u 1=u % 2:=by
 rw[u64_and u 1 h (by omega) (by decide) (by decide)];have:u.toNat&&&1=u.toNat % 2:=Nat.and_one_is_mod _;show((u.toNat&&&1:Nat):Int)=_;rw[this];omega
theorem Wy(u)(h:0<=u)(A :u<=18446744073709551615):
  bits .xor J (u/2) (wrap64 (-wrap64 (bits .and U u 1)))=zagF u:=by
 rw[aA u h A];have:=zagF_or u;by_cases D:u % 2=1
 ·have e:wrap64 (-wrap64 (u % 2))= -1:=by unfold wrap64;omega
  rw[e,Ih _ (by omega) (by omega)];omega
 ·have e:wrap64 (-wrap64 (u % 2))=0:=by unfold wrap64;omega
  rw[e,Ig _ (by omega) (by omega)];omega
theorem zag_any(u w)(h:0<=u)(A :u<=18446744073709551615):
  C prog 88 #[I U u] w λe w' =>e=R (I J (zagF u))/\w=w' :=by
 go_enter func88,ntmps88;go_wp2;go_ret;exact⟨ret_int (Wy u h A),rfl⟩
theorem cU{k:IntKind}{a b c d}(h:a=b)(A :c=d):R (T #[I k a,.bool c])=R (T #[I k b,.bool d]):=by rw[h,A]
def canF(m:Int)(b:Bool):Bool:=if b then decide (m<=9223372036854775808)else decide (m<9223372036854775808)
def valF(m:Int)(b:Bool):Int:=if canF m b then(if b then-m else m)else 0
theorem value_any(m b w)(h:0<=m)(H :m<=18446744073709551615):
  C prog 217 #[I U m,.bool b] w λe w' =>e=R (T #[I J (valF m b),.bool (canF m b)])/\w=w' :=by
 cases b
 ·by_cases F:m<9223372036854775808
  ·have A:valF m false=m:=by simp[valF,canF,F]
   have D:canF m false=true:=by simp[canF,F]
   rw[A,D];clear A D;go_enter func217,ntmps217;go_wp2;go_ret2;exact⟨rfl,rfl⟩
  ·have A:valF m false=0:=by simp[valF,canF,F]
   have D:canF m false=false:=by simp[canF];omega
   rw[A,D];clear A D;go_enter func217,ntmps217;go_wp2;go_ret2;exact⟨rfl,rfl⟩
 ·by_cases F:m<=9223372036854775808
  ·have A:valF m true= -m:=by simp[valF,canF,F]
   have D:canF m true=true:=by simp[canF,F]
   rw[A,D];clear A D;have G:wrap64 (U.wrap (-m))= -m:=by rw[ag];unfold wrap64;omega
   go_enter func217,ntmps217;go_wp2;go_ret2;exact⟨cU G rfl,rfl⟩
  ·have A:valF m true=0:=by simp[valF,canF,F]
   have D:canF m true=false:=by simp[canF];omega
   rw[A,D];clear A D;go_enter func217,ntmps217;go_wp2;go_ret2;exact⟨rfl,rfl⟩
end Go.Proofs.YtbejdajkkoapgaaGreatDoor.Sg
namespace Go.Proofs.YtbejdajkkoapgaaGreatDoor
open Go.RowKit
def bs(l:List UInt8):ByteArray:=⟨l.toArray⟩
theorem CY(l):(bs l).size=l.length:=by simp[bs,ByteArray.size]
theorem Tn(l):(bs l).data.toList=l:=by simp[bs]
theorem Dz(l):(bs l).toList=l:=by rw[ByteArray.toList_eq];exact Tn l
theorem Eh(l i j):(bs l).extract i j=bs ((l.drop i).take (j-i)):=by
 rw[Lib.extract_eq,Tn];rfl
theorem cV(l)(i:Nat)(h:i<l.length):(bs l).get! i=l[i]'h:=by simp[bs,ByteArray.get!,h]
def FE(l:List UInt8):List Value:=l.map λb=>I .u8 b.toNat
theorem Nv(a b):FE (a++b)=FE a++FE b:=by simp[FE]
theorem Uf(l i)(h:i<l.length):(FE l)[i]?=S (I .u8 ((l[i]'h).toNat:Int)):=by simp[FE,h]
theorem Js(n:Nat)(h:n<256):((V0 n).toNat:Int)=(n:Int):=by simp;omega
structure Fi(B:Nat)(w:W)(qb:Nat)(v:V)(out:List UInt8):Prop where
 blk:AI w qb #[v] 109
 own:w.ownsRow B 5 1 v out.length (FE out)
 base:B<=qb
theorem Fi.ne{B w D v A}(h:Fi B w D v A):v.ownBlock≠S D:=λe=>by
 obtain⟨F,G⟩:=AJ h.own e
 exact(h.blk.ne G (by decide)) rfl
theorem Fi.next{B w w' F v A}(h:Fi B w F v A)(D:Below w.heap.size w w'):Fi B w' F v A:=
 ⟨h.blk.below D h.blk.lt,AE h.own D λg G=>(h.own.lt g G).2,h.base⟩
theorem Fi.alloc{B w D v A}(h:Fi B w D v A)(o):Fi B (w.alloc o) D v A:=h.next ((Below.refl _ _).alloc (E _) o)
theorem Fi.put{B w D F v v' Y A}(h:Fi B w F v Y)(i:B<=w.heap.size)(d:D.ownsRow B 5 1 v' A.length (FE A))(X:w.grownBy D v.ownBlock):
  Fi B (D.setCell ⟨F,0,N⟩ v') F v' A /\Below B w (D.setCell ⟨F,0,N⟩ v')/\D.cell? ⟨F,0,N⟩=S v/\D.frozen? ⟨F,0,N⟩=false/\(∀b O T,AI w b O T->T≠5->T≠109->AI (D.setCell ⟨F,0,N⟩ v') b O T):=by
 have M:AI D F #[v] 109:=(X.block F h.blk.lt (Ne.symm h.ne)).trans h.blk;have Q:v'.ownBlock≠S F:=λe=>by
  obtain⟨a,c⟩:=AJ d e;exact(M.ne c (by decide)) rfl
 refine⟨⟨M.set 0 v',AN d _ _ Q,h.base⟩,?_,M.cell rfl,M.frozen 0,λb O T K g G=> ?_⟩
 ·have Z:Below B w D:=(Below.refl B w).grown X i (λk f=>(h.own.lt k f).1);exact Z.setCell h.base _
 ·have H:S b≠v.ownBlock:=λe=>by
   obtain⟨a,c⟩:=AJ h.own e.symm;exact(K.ne c g) rfl
  have Z:AI D b O T:=(X.block b K.lt H).trans K;exact Z.other _ _ (K.ne h.blk G)
theorem Wz:(prog.info? 5).map (λi=>(i.zero,i.size,i.bytes))=S (S (I .u8 0),1,1):=by kernel_rfl
theorem fU(l):strCells (bs l)=FE l:=by simp[strCells,FE,bs]
structure CH(B:Nat)(w:W)(qb:Nat)(A:Option Addr)(c:Nat)(out:List UInt8)(wr:W):Prop where
 qu:Fi B wr qb (L A out.length c) out
 below:Below B w wr
 keep:∀b cs T,T≠5->T≠109->AI w b cs T->AI wr b cs T
theorem CH.start{B w F A c D}(h:Fi B w F (L A D.length c) D):CH B w F A c D w:=⟨h,Below.refl _ _,λ_ _ _ _ _ h=>h⟩
theorem CH.put{B w K A c G D wr H v'}(h:CH B w K A c G wr)(o)(g:B<=w.heap.size)
  (M:H.ownsRow B 5 1 v' D.length (FE D))(a:(wr.alloc o).grownBy H (L A G.length c).ownBlock):
  ∃A' c',v' =L A' D.length c' /\CH B w K A' c' D (H.setCell ⟨K,0,N⟩ v')/\H.cell? ⟨K,0,N⟩=S (L A G.length c)/\H.frozen? ⟨K,0,N⟩=false:=by
 have Y:=h.qu.alloc o;obtain⟨X,d,e,j,i⟩:=Y.put (by have:=h.below.size;simp;omega) M a;obtain⟨A',c',f⟩:=AF M;subst f;exact⟨A',c',rfl,⟨X,(h.below.alloc (fj g h.below.size) o).trans d,λb O T Q F Z=>i b O T ((h.keep b O T Q F Z).alloc o) Q F⟩,e,j⟩
theorem CH.alloc{B w G A c D wr}(h:CH B w G A c D wr)(K:B<=w.heap.size)(o):CH B w G A c D (wr.alloc o):=
 ⟨h.qu.alloc o,h.below.alloc (fj K h.below.size) o,λb H T M F O=>(h.keep b H T M F O).alloc o⟩
theorem CH.trans{B w G A A' c c' H D wr K}(h:CH B w G A c H wr)(k:CH B wr G A' c' D K):CH B w G A' c' D K:=
 ⟨k.qu,h.below.trans k.below,λb M T O F Q=>k.keep b M T O F (h.keep b M T O F Q)⟩
theorem Nw(B w G A c D l)(h:Fi B w G (L A D.length c) D)(g:B<=w.heap.size)(o:D.length+l.length<=1000000000):
  C prog 61 #[P (S ⟨G,0,N⟩),.string (bs l)] w λe w' =>e=R (.tuple #[])/\∃A' c',CH B w G A' c' (D++l) w' :=by
 obtain⟨m,hi,M,Q,K⟩:=info_parts Wz;have q:w.cell? ⟨G,0,N⟩=S (L A D.length c):=h.blk.cell rfl;have f:=Zh h;clear h;go_enter func61,ntmps61;go_wp2_with(at_builtin;refine Lib.wpList_append_own_string _ rfl _ _ 63 9 rfl B 5 m underlying63 underlying9 hi M Q K _ _ _ rfl f.out.own (bs l) rfl ?q1 ?q2 g ?_);case q1=>rw[CY];unfold maxLen;omega
 case q2=>rw[CY];omega
 intro v' r H a _;rw[fU,CY,<-Nv,<-Jx]at H;obtain⟨A',c',O⟩:=AF H;subst O;obtain⟨Z,Y,n,p,X⟩:=f.out.put g H a;have d:=Zh (show CH B w G A' c' (D++l) _ from⟨Z,Y,λb j T k F i=>X b j T i k F⟩);clear Z Y H a X;rw[Jx]at d;go_wp2;go_end0;exact⟨rfl,_,_,d.out⟩
theorem Ii(B w G v D)(h:Fi B w G v D):
  C prog 40 #[.pointer (S ⟨G,0,N⟩)] w λe w' =>e=R (.string (bs D))/\w=w' :=by
 have d:w.cell? ⟨G,0,N⟩=S v:=h.blk.cell rfl;rcases AH h.own with⟨K,Q,_⟩|⟨g,F,K,a,M,X,c⟩
 ·subst K;have O:D=[]:=gZ Q;have H:=λA=>Lib.run_convert_nil_bytes (P:=prog) A 63 9 5 0 underlying63 underlying5 underlying9;have Y:=Zh O;clear h Q O;go_enter func40,ntmps40;go_wp2;go_ret;rw[Y.out];exact⟨rfl,rfl⟩
 ·subst K;have H:=run_convert_bytes_back (P:=prog) w 63 9 5 ⟨g,0,N⟩ F D underlying63 underlying5 underlying9 (λj b=>by
   rw[bw,es,h.own.cellAt j (by omega)];exact Uf D j b)
  have Z :(convert 63 9 (L (S ⟨g,0,N⟩) D.length F)).run prog w=.ok (.string (bs D)) w:=H;clear h H;go_enter func40,ntmps40;go_wp2;go_ret;exact⟨rfl,rfl⟩
def Dr(ns:List Nat):Array Value:=(ns.map λn:Nat=>I U n).toArray
theorem W4(A q)(h:q<A.length):(Dr A)[q]?=S (I U ((A[q]'h:Nat):Int)):=by simp[Dr,h]
theorem gJ(u:Nat):bits .or .u8 ((u:Int) % 256) 128=((V0 (u % 128+128)).toNat:Int):=by
 have h:∀x:Fin 256,x.val|||128=x.val % 128+128:=by decide
 have e:=h ⟨u % 256,by omega⟩;have A:(u:Int) % 256=((u % 256:Nat):Int):=by omega
 rw[A,show(128:Int)=((128:Nat):Int)from rfl,u8_or_nat _ _ (by omega) (by decide),Js _ (by omega)];simp only at e;rw[e];omega
theorem eE(u:Nat)(h:u<128):(u:Int) % 256=((V0 u).toNat:Int):=by
 rw[Js u (by omega)];omega
theorem Jt{B w H A c D wr K}{rest:List Oper}{o a Q}(X:o.guard=N)(s x)
  (n:o.op=.call {callee:=.builtin .append,args:= #[s,x],argTypes:= #[63,63]})(S:CH B w H A c D wr)(v:B<=w.heap.size)(g:D.length<=1000000000)(b y)(O:y=(b.toNat:Int))
  (q:a.eval s=L A D.length c)(r:a.eval x=L (some ⟨wr.heap.size,0,N⟩) 1 1)
  (h:∀A' c' M,CH B w H A' c' (D++ [b]) (M.setCell ⟨H,0,N⟩ (L A' (D.length+1) c'))->M.cell? ⟨H,0,N⟩=some (L A D.length c)->M.frozen? ⟨H,0,N⟩=false->wpList prog K Q rest (a.put o.dst (L A' (D.length+1) c')) M):
  wpList prog K Q (o::rest) a (wr.alloc (.cells #[I .u8 y] 5)):=by
 subst O;obtain⟨m,hi,Y,Z,d⟩:=info_parts Wz;refine wpList_append_own _ X s x 63 n B 5 m _ 1 1 underlying63 hi Y Z d rfl (by decide) _ _ _ q (S.qu.alloc _).own _ 1 1 [I .u8 b.toNat] r rfl ?_ ?_ (by unfold maxLen;omega) (by omega) (by have:=S.below.size;simp;omega) ?_
 ·intro j y f;rcases j with _|j
  ·simp at f;subst f;rw[bw];exact(AI.newAt (by simp)).cell rfl
  ·simp at f
 ·intro y O;simp at O;subst O;rfl
 intro v' k F G i;rw[show D.length+1=(D++ [b]).length from by simp,show FE D++ [I .u8 b.toNat]=FE (D++ [b])from by simp[FE]]at F;obtain⟨u,p,e,t,l,z⟩:=S.put _ v F G;subst e;have:=h u p k;rw[show D.length+1=(D++ [b]).length from by simp]at this;exact this t l z
theorem Cd(B w b lb c A c1 F D)(h:Fi B w b (L A F.length c1) F)(hB:B<=w.heap.size)(hb:AI w lb (Dr D) 23)
  (hn:∀n∈D,n<18446744073709551616)(hl:F.length+(D.flatMap AK).length<=1000000000)(y:D.length<=1000000):
  C prog 62 #[P (some ⟨b,0,N⟩),L (some ⟨lb,0,N⟩) D.length c] w λe w' =>e=R (T #[])/\∃A' c',CH B w b A' c' (F++D.flatMap AK) w' :=by
 obtain⟨i0,hi,Ac,Ar,Ap⟩:=info_parts Wz;have S0:CH B w b A c1 F w:=CH.start h;have HN:=Zh hn;have HB:=Zh hb;clear h hb hn;obtain⟨m,hm⟩:∃m,m=D.length:=⟨_,rfl⟩;have HM:=Zh hm;rw[<-hm]at y⊢;clear hm;go_enter func62,ntmps62;go_wp2;go_loopg [5,8] m (λg p i wr=>∃(q:Nat) (A:Option Addr) (c:Nat),i=I J q/\q<=m/\m-q<=g/\CH B w b A c (F++(D.take q).flatMap AK) wr);case atStart=>exact⟨0,A,c1,rfl,dT _,E _,by simpa using S0⟩
 case round=>
  clear S0;obtain⟨q,A,c,rfl,hq,hg,S⟩:=hrel;by_cases t:q<m
  ·have AA:(q:Int)<(m:Int):=by omega
   have K:q<D.length:=by rw[<-HM.out];exact t
   have c0:wr.cell? ⟨lb,q,N⟩=some (I U ((D[q]'K:Nat):Int)):=(S.keep _ _ _ (by decide) (by decide) HB.out).cell (W4 D q K);have f:=HN.out _ (gR K);have a:(D.take (q+1)).flatMap AK=(D.take q).flatMap AK++AK (D[q]'K):=by rw[iD K,gQ];simp
   have r:((D.take (q+1)).flatMap AK).length<=(D.flatMap AK).length:=by
    conv=>rhs;rw[<-List.take_append_drop (q+1) D,gQ,Jx]
    omega
   rw[a,Jx]at r;generalize hu:(D[q]'K)=u at*;obtain⟨X,H⟩:∃p,p=F++(D.take q).flatMap AK:=⟨_,rfl⟩;have Al:X.length+(AK u).length<=1000000000:=by rw[H,Jx];omega
   rw[<-H]at S;have HT:=Zh (show F++(D.take (q+1)).flatMap AK=X++AK u by rw[a,H,bh]);clear a r H hu hl;go_wp2_with fail;go_loopg [5] (AK u).length (λg p w2=>∃(x:Nat) (A:Option Addr) (c:Nat) (s:List UInt8),p=I U x/\x<18446744073709551616/\s++AK x=X++AK u/\(AK x).length<=g/\CH B w b A c s w2);case atStart=>exact⟨u,A,c,X,rfl,f,rfl,E _,S⟩
   case round=>
    clear S c0 f;obtain⟨x,A,c,s,rfl,hx,M,Q,S⟩:=hrel;have G:s.length+(AK x).length<=1000000000:=by
     have:=congrArg List.length M;simp only[Jx]at this;omega
    have c0:=S.qu.blk.cell (j:=0) rfl;by_cases Aa:x<128
    ·have Ab:¬(128:Int)<=(x:Int):=by omega
     have k:=CP (n:=x) (by omega);have d:=eE x Aa;generalize hbb:V0 x=bb at*;have O:=Zh (Zi S (Zi M (Zi k (Zi G Q))));clear S M k G Q;go_wp2_with(at_builtin;refine Jt rfl _ _ rfl O.out.1 hB (by have:=O.out.2.2.2.1;omega) bb _ (by first|rfl|exact d|(rw[<-d];omega)) rfl rfl ?_);intro z c3 w3 o k3 k4;have Y:=Zh o;clear o;go_wp2;go_roundg (m-(q+1));case measure=>omega
     obtain⟨v,Z,h3,h4⟩:=O.out.2;refine⟨q+1,z,c3,by go_num,by omega,by omega,?_⟩;rw[HT.out,<-v,Z];exact Y.out
    ·have Ab:(128:Int)<=(x:Int):=by omega
     have k:=Da (n:=x) (by omega);have d:=gJ x;generalize hbb:V0 (x % 128+128)=bb at*;have O:=Zh (Zi S (Zi M (Zi k (Zi G Q))));clear S M k G Q;go_wp2_with(at_builtin;refine Jt rfl _ _ rfl O.out.1 hB (by have:=O.out.2.2.2.1;omega) bb _ (by first|rfl|exact d|(rw[<-d];omega)) rfl rfl ?_);intro z c3 w3 o k3 k4;have Y:=Zh o;clear o;go_wp2;go_roundg ((AK x).length-1);obtain⟨v,Z,h3,h4⟩:=O.out.2;refine⟨x/128,z,c3,s++ [bb],by go_num,by omega,?_,?_,Y.out⟩
     ·rw[<-v,Z];simp
     ·rw[Z];simp
     case measure=>obtain⟨v,Z,h3,h4⟩:=O.out.2;rw[Z,fk]at h4;rw[Z,fk];omega
  ·have l:q=m:=by omega
   have AA:¬(q:Int)<(m:Int):=by omega
   have O:=Zh S;have he:D.take q=D:=by rw[l,HM.out,iC]
   have HE:=Zh he;clear S l hq t he;go_wp2;go_end0;have S:=O.out;rw[HE.out]at S;exact⟨rfl,_,_,S⟩
def IJ(xs:List Int):Array Value:=(xs.map λx=>I J x).toArray
theorem W5(A q)(h:q<A.length):(IJ A)[q]?=S (I J (A[q]'h)):=by simp[IJ,h]
def AX(x:Int):Nat:=(Sg.zigF x).toNat
theorem Ao(x)(h: -9223372036854775808<=x/\x<=9223372036854775807):Sg.zigF x=((AX x:Nat):Int)/\AX x<18446744073709551616:=by
 unfold AX;have:=Sg.zigF_or x;omega
def BP(xs:List Int):List UInt8:=xs.flatMap λx=>AK (AX x)
theorem IK(B w O lb c A d D F)(h:Fi B w O (L A D.length d) D)(hB:B<=w.heap.size)(n:AI w lb (IJ F) 2)
  (z:∀x∈F,-9223372036854775808<=x/\x<=9223372036854775807)(hl:D.length+10*F.length<=1000000000)(a:F.length<=1000000):
  C prog 226 #[P (some ⟨O,0,N⟩),L (some ⟨lb,0,N⟩) F.length c] w λe w' =>e=R (T #[])/\∃A' c',CH B w O A' c' (D++BP F) w' :=by
 have t:CH B w O A d D w:=CH.start h;have HN:=Zh z;have HB:=Zh n;clear h n z;obtain⟨m,j⟩:∃m,m=F.length:=⟨_,rfl⟩;have l:=Zh j;rw[<-j]at a hl⊢;clear j;go_enter func226,ntmps226;go_wp2;go_loopg [5,8] m (λg p i wr=>∃(q:Nat) (A:Option Addr) (c:Nat) (M:List UInt8),i=I J q/\q<=m/\m-q<=g/\M=D++BP (F.take q)/\M.length<=D.length+10*q/\CH B w O A c M wr);case atStart=>exact⟨0,A,d,D,rfl,dT _,E _,by simp[BP],by omega,t⟩
 case round=>
  clear t;obtain⟨q,A,c,M,rfl,hq,hg,H,v,S⟩:=hrel;by_cases X:q<m
  ·have k:(q:Int)<(m:Int):=by omega
   have G:q<F.length:=by rw[<-l.out];exact X
   have c0:wr.cell? ⟨lb,q,N⟩=some (I J (F[q]'G)):=(S.keep _ _ _ (by decide) (by decide) HB.out).cell (W5 F q G);have K:=HN.out _ (gR G);have Y:BP (F.take (q+1))=BP (F.take q)++AK (AX (F[q]'G)):=by unfold BP;rw[iD G,gQ];simp
   generalize hu:(F[q]'G)=u at*;have HT:=Zh (show M++AK (AX u)=D++BP (F.take (q+1)) by rw[Y,H,bh]);obtain⟨o,b⟩:=Ao u K;have y:=AC _ b;have r:=Sg.zig_any u wr K.1 K.2;rw[o]at r;have AA:=S.below.size;have Z:=Cd B (wr.alloc (.cells (Dr [AX u]) 23)) O wr.heap.size 1 A c M [AX u] (S.qu.alloc _) (by simp;omega) (AI.newAt rfl) (by simpa using b) (by simp;omega) (by simp);have f:=Zh (S.alloc hB (.cells (Dr [AX u]) 23));have Aa:(AK (AX u)).length<=10:=y;clear Y H hu K o b y S;go_wp2_with(first|(go_at_call 230;refine r.mono ?_;rintro e w3 ⟨rfl,rfl⟩)|(go_at_call 62;refine Z.mono ?_;rintro e w3 ⟨rfl,A3,c3,S3⟩));go_roundg (m-(q+1));case measure=>omega
   simp only[List.flatMap_cons,List.flatMap_nil,List.append_nil]at S3;exact⟨q+1,A3,c3,_,by go_num,by omega,by omega,HT.out,by rw[Jx];omega,f.out.trans S3⟩
  ·have Q:q=m:=by omega
   have k:¬(q:Int)<(m:Int):=by omega
   have f:=Zh S;have s:M=D++BP F:=by rw[H,Q,l.out,iC]
   have HE:=Zh s;clear S Q hq X s H;go_wp2;go_end0;have S:=f.out;rw[HE.out]at S;exact⟨rfl,_,_,S⟩
end Go.Proofs.YtbejdajkkoapgaaGreatDoor
