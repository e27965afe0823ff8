/-
  Lemmas and walks for coreBurst.proved, joined and squeezed by a program out of the loose texts Hj, Hk, Ck, Hx, Lv, M5, G1, Q1, Q2, Q3, G2. Conditions: each theorem states its own.
-/
import Derived.Test.YtbejdajkkoapgaaGreatDoorU05
import Derived.Test.YtbejdajkkoapgaaGreatDoorU08
import Derived.Test.YtbejdajkkoapgaaGreatDoorU07
import Derived.Test.YtbejdajkkoapgaaGreatDoorU04
import Derived.Test.YtbejdajkkoapgaaGreatDoorU06
import Derived.Maps.AppendAt
set_option linter.all false
set_option maxRecDepth 100000
set_option maxHeartbeats 40000000
open Go.RowKit Go.Lib Go.Proofs.Tryz
open Bool renaming false_and->gZ,true_and->gX
open Go renaming Calls->C,Value->V,World->W
open Go.Act renaming put->Pa
open Go.Addr renaming add_lit->RR,mk.injEq->gu
open Go.Ending renaming returned->R
open Go.IntKind renaming i64->J,u64->U,wrap_i64->gh,wrap_u64->gY
open Go.RowKit renaming Below->B
open Go.Value renaming int->I,pointer->P,slice->L,tuple->T
open Int renaming lt_trichotomy->gi,natCast_add->gc
open List renaming append_assoc->iA,append_nil->gT,cons_append->gU,drop_eq_getElem_cons->gd,drop_succ_cons->fx,drop_zero->fy,eq_nil_of_length_eq_zero->fj,getElem_cons_succ->iI,getElem_mem->ej,length_append->V0,length_cons->bw,length_drop->gV,length_take->bh,mem_cons->fw,mem_cons_of_mem->fk,mem_cons_self->fp,mem_or_eq_of_mem_set->iJ,mem_singleton->iG,not_mem_nil->iF,set_cons_succ->iH,size_toArray->gy,tail_cons->gQ,take_append_drop->gS,take_left->hZ,take_length->gg,take_succ_cons->fa,take_succ_eq_append_getElem->gR,take_zero->dT
open Nat renaming add_assoc->iC,le_refl->E,le_trans->aw,lt_of_lt_of_le->es,min_eq_left->gv,mul_add->iB,mul_assoc->iD,mul_comm->iE,mul_one->ag,pow_succ->gW,zero_add->Q0,zero_le->NW
open Option renaming none->N,some->S,some.inj->gj,some.injEq->gm
namespace Go.Proofs.YtbejdajkkoapgaaGreatDoor
theorem Li(p q w):(Instr.index 174 (.agg #[P p,P q]) (I J 0)).run prog w=.ok (P p) w:=by kernel_rfl
theorem Ll(p q w):(Instr.index 174 (.agg #[P p,P q]) (I J 1)).run prog w=.ok (P q) w:=by kernel_rfl
structure Ro(w:World)(hb pb s0 s1:Nat)(v0 v1:V)(dg:Nat)(lim:Int)(l0 l1:AL)(z:Nat)(lo hi:Int)(ob qb t0 t1:Nat)(u0 u1:V)(dg2:Nat)(lim2:Int)(m0 m1:AL)(z2:Nat)(lo2 hi2:Int)(W:World):Prop where
 hd:Cm W hb pb s0 s1 v0 v1 dg lim l0 l1 z lo hi
 oth:Cm W ob qb t0 t1 u0 u1 dg2 lim2 m0 m1 z2 lo2 hi2
 below:B w.heap.size w W
section
variable {w:World} {hb pb s0 s1:Nat} {v0 v1:V} {dg:Nat} {lim:Int} {l0 l1:AL} {z:Nat} {lo hi:Int} {ob qb t0 t1:Nat} {u0 u1:V} {dg2:Nat} {lim2:Int} {m0 m1:AL} {z2:Nat} {lo2 hi2:Int} {W W' :World}
theorem Ro.next(h:Ro w hb pb s0 s1 v0 v1 dg lim l0 l1 z lo hi ob qb t0 t1 u0 u1 dg2 lim2 m0 m1 z2 lo2 hi2 W)(b:B W.heap.size W W'):Ro w hb pb s0 s1 v0 v1 dg lim l0 l1 z lo hi ob qb t0 t1 u0 u1 dg2 lim2 m0 m1 z2 lo2 hi2 W' :=⟨h.hd.next b,h.oth.next b,h.below.trans (b.mono h.below.size)⟩
theorem Ro.drew(h:Ro w hb pb s0 s1 v0 v1 dg lim l0 l1 z lo hi ob qb t0 t1 u0 u1 dg2 lim2 m0 m1 z2 lo2 hi2 W):Ro w hb pb s0 s1 v0 v1 dg lim l0 l1 z lo hi ob qb t0 t1 u0 u1 dg2 lim2 m0 m1 z2 lo2 hi2 W.drew:=h.next (B.refl _ _).drew
end
theorem Yb(w hb pb s0 s1 v0 v1 dg lim)(l0 l1:AL)(z lo hi ob qb t0 t1 u0 u1 dg2 lim2)(m0 m1:AL)(z2 lo2 hi2)
  (h:Cm w hb pb s0 s1 v0 v1 dg lim l0 l1 z lo hi)(k:Cm w ob qb t0 t1 u0 u1 dg2 lim2 m0 m1 z2 lo2 hi2)(A1:l0.length+m0.length<=4000)(A2:l1.length+m1.length<=4000):
  C prog 250 #[P (S ⟨hb,0,none⟩),P (S ⟨ob,0,none⟩)] w λe w' =>e=R (.bool true)/\B w.heap.size w w' :=by
 have H:Ro w hb pb s0 s1 v0 v1 dg lim l0 l1 z lo hi ob qb t0 t1 u0 u1 dg2 lim2 m0 m1 z2 lo2 hi2 w:=⟨h,k,B.refl _ _⟩;obtain⟨c0,c1,c2,c3,c4,c5,c6,c7,f5,f6,f7⟩:=h.cells;have HH:=Zh H;clear h k H;go_enter func250,ntmps250;go_wp2_with fail;clear c0 c1 c2 c3 c4 c5 c6 c7 f5 f6 f7;go_loopg [14] 2 (λg i wr=>∃(q:Nat),i=I J q/\q<=2/\2-q<=g/\Ro w hb pb s0 s1 v0 v1 dg lim l0 l1 z lo hi ob qb t0 t1 u0 u1 dg2 lim2 m0 m1 z2 lo2 hi2 wr);case atStart=>exact⟨0,rfl,by decide,by decide,HH.out⟩
 case round=>
  clear HH;obtain⟨r,rfl,hr,A3,H⟩:=hrel;by_cases k0:r=0
  ·subst k0;obtain⟨Av,n,cv,O,hn⟩:∃A n Z,v0=L A n Z/\n=l0.length:=by
    rcases AH H.hd.st0.own with⟨O,hn,_⟩|⟨g,Z,O,_⟩
    ·exact⟨none,0,0,O,hn.symm⟩
    ·exact⟨_,_,_,O,rfl⟩
   have K:=Ea wr s0 Av n cv (by rw[<-O];exact H.hd.st0.cells.2.1);obtain⟨d0,d1,d2,d3,d4,d5,d6,d7,j5,j6,j7⟩:=H.oth.cells;have j:=Cx wr t0 u0 m0 H.oth.st0 (by omega);have HX:=Zh (Zi H (Zi O hn));have Ax:=λw=>Li (S ⟨s0,0,none⟩) (S ⟨s1,0,none⟩) w;clear H O hn;go_wp2_with fail;refine K.mono ?_;rintro e w1 ⟨rfl,rfl⟩;clear K;go_wp2_with fail;refine j.mono ?_;rintro e w2 ⟨vp,rfl,o2,b2⟩;obtain⟨Ap,cp,Ab⟩:=AF o2;subst Ab;obtain⟨D,c⟩:∃D,D=m0.length:=⟨_,rfl⟩;have HM:=Zh c;have A0:n+D<=4000:=by have:=HX.out.2.2;omega
   have M :=AO (base' :=0) o2 λ_ _=>NW _;rw[<-c]at M ⊢;have HS:=Zh (Zi (HX.out.1.next b2) M);clear j o2 M b2 d0 d1 d2 d3 d4 d5 d6 d7 j5 j6 j7 c;go_wp2_with fail;go_loopg [7,9,28] D (λg y p i wr=>∃(q N:Nat),i=I J q/\y=I J N/\q<=D/\D-q<=g/\N<=n+q/\Ro w hb pb s0 s1 v0 v1 dg lim l0 l1 z lo hi ob qb t0 t1 u0 u1 dg2 lim2 m0 m1 z2 lo2 hi2 wr/\wr.ownsRow 0 228 2 (L Ap D cp) D (AV m0));case atStart=>exact⟨0,n,rfl,rfl,NW _,E _,by omega,HS.out.1,HS.out.2⟩
   case round=>
    clear HS;obtain⟨q,N,rfl,rfl,hq,u,hN,H,d⟩:=hrel;by_cases Aa:q<D
    ·have g1:(q:Int)<(D:Int):=by omega
     have F:q<m0.length:=by rw[<-HM.out];exact Aa
     rcases AH d with⟨_,Ay,_⟩|⟨g',Z,s,Ar,Ac,_,Aw⟩
     ·omega
     simp only[L.injEq,true_and]at s;obtain⟨rfl,rfl⟩:=s;obtain⟨ix,f⟩:∃i,i=(m0[q]'F).1:=⟨_,rfl⟩;obtain⟨ct,o⟩:∃i,i=(m0[q]'F).2:=⟨_,rfl⟩;have p0:wr.cell? ⟨g',q*2,none⟩=S (I J ix):=by rw[d.cellAt _ (by omega),BI m0 q F,f]
     have p1:wr.cell? ⟨g',q*2+1,none⟩=S (I U ct):=by rw[d.cellAt _ (by omega),BT m0 q F,o]
     have b1:B wr.heap.size wr (wr.alloc (.cells #[I J ix,I U ct] 228)):=Za;have H1:=H.next b1;have O2:=AE d b1 λg u=>(d.lt g u).2;have Y:=FX _ s0 v0 l0 ix H1.hd.st0 (by omega);obtain⟨x,hx⟩:∃x,x=AP l0 ix:=⟨_,rfl⟩;rw[<-hx]at Y;have X:=Zh (Zi H1 O2);clear hx f o H d H1 O2 b1;go_wp2_with fail;refine Y.mono ?_;rintro e w3 ⟨rfl,b3⟩;have G:=Zh (Zi (X.out.1.next b3) (AE X.out.2 b3 λg u=>(X.out.2.lt g u).2));clear Y b3 X;by_cases AA:x=0
     ·subst AA;go_wp2_with fail;go_roundg (D-(q+1));case measure=>omega
      exact⟨q+1,N+1,by go_num,by go_num,by omega,E _,by omega,G.out.1,G.out.2⟩
     ·have gx:((x:Int)==0)=false:=by simp;omega
      go_wp2_with fail;go_roundg (D-(q+1));case measure=>omega
      exact⟨q+1,N,by go_num,rfl,by omega,E _,by omega,G.out.1,G.out.2⟩
    ·have g1:¬(q:Int)<(D:Int):=by omega
     have g2:¬(4096:Int)<(N:Int):=by omega
     have X:=Zh H;clear H d;go_wp2_with fail;go_roundg 1;case measure=>omega
     exact⟨1,by go_num,by decide,by decide,X.out⟩
  by_cases k1:r=1
  ·subst k1;obtain⟨Av,n,cv,O,hn⟩:∃A n Z,v1=L A n Z/\n=l1.length:=by
    rcases AH H.hd.st1.own with⟨O,hn,_⟩|⟨g,Z,O,_⟩
    ·exact⟨none,0,0,O,hn.symm⟩
    ·exact⟨_,_,_,O,rfl⟩
   have K:=Ea wr s1 Av n cv (by rw[<-O];exact H.hd.st1.cells.2.1);obtain⟨d0,d1,d2,d3,d4,d5,d6,d7,j5,j6,j7⟩:=H.oth.cells;have j:=Cx wr t1 u1 m1 H.oth.st1 (by omega);have HX:=Zh (Zi H (Zi O hn));have Ax:=λw=>Ll (S ⟨s0,0,none⟩) (S ⟨s1,0,none⟩) w;clear H O hn;go_wp2_with fail;refine K.mono ?_;rintro e w1 ⟨rfl,rfl⟩;clear K;go_wp2_with fail;refine j.mono ?_;rintro e w2 ⟨vp,rfl,o2,b2⟩;obtain⟨Ap,cp,Ab⟩:=AF o2;subst Ab;obtain⟨D,c⟩:∃D,D=m1.length:=⟨_,rfl⟩;have HM:=Zh c;have A0:n+D<=4000:=by have:=HX.out.2.2;omega
   have M :=AO (base' :=0) o2 λ_ _=>NW _;rw[<-c]at M ⊢;have HS:=Zh (Zi (HX.out.1.next b2) M);clear j o2 M b2 d0 d1 d2 d3 d4 d5 d6 d7 j5 j6 j7 c;go_wp2_with fail;go_loopg [7,9,28] D (λg y p i wr=>∃(q N:Nat),i=I J q/\y=I J N/\q<=D/\D-q<=g/\N<=n+q/\Ro w hb pb s0 s1 v0 v1 dg lim l0 l1 z lo hi ob qb t0 t1 u0 u1 dg2 lim2 m0 m1 z2 lo2 hi2 wr/\wr.ownsRow 0 228 2 (L Ap D cp) D (AV m1));case atStart=>exact⟨0,n,rfl,rfl,NW _,E _,by omega,HS.out.1,HS.out.2⟩
   case round=>
    clear HS;obtain⟨q,N,rfl,rfl,hq,u,hN,H,d⟩:=hrel;by_cases Aa:q<D
    ·have g1:(q:Int)<(D:Int):=by omega
     have F:q<m1.length:=by rw[<-HM.out];exact Aa
     rcases AH d with⟨_,Ay,_⟩|⟨g',Z,s,Ar,Ac,_,Aw⟩
     ·omega
     simp only[L.injEq,true_and]at s;obtain⟨rfl,rfl⟩:=s;obtain⟨ix,f⟩:∃i,i=(m1[q]'F).1:=⟨_,rfl⟩;obtain⟨ct,o⟩:∃i,i=(m1[q]'F).2:=⟨_,rfl⟩;have p0:wr.cell? ⟨g',q*2,none⟩=S (I J ix):=by rw[d.cellAt _ (by omega),BI m1 q F,f]
     have p1:wr.cell? ⟨g',q*2+1,none⟩=S (I U ct):=by rw[d.cellAt _ (by omega),BT m1 q F,o]
     have b1:B wr.heap.size wr (wr.alloc (.cells #[I J ix,I U ct] 228)):=Za;have H1:=H.next b1;have O2:=AE d b1 λg u=>(d.lt g u).2;have Y:=FX _ s1 v1 l1 ix H1.hd.st1 (by omega);obtain⟨x,hx⟩:∃x,x=AP l1 ix:=⟨_,rfl⟩;rw[<-hx]at Y;have X:=Zh (Zi H1 O2);clear hx f o H d H1 O2 b1;go_wp2_with fail;refine Y.mono ?_;rintro e w3 ⟨rfl,b3⟩;have G:=Zh (Zi (X.out.1.next b3) (AE X.out.2 b3 λg u=>(X.out.2.lt g u).2));clear Y b3 X;by_cases AA:x=0
     ·subst AA;go_wp2_with fail;go_roundg (D-(q+1));case measure=>omega
      exact⟨q+1,N+1,by go_num,by go_num,by omega,E _,by omega,G.out.1,G.out.2⟩
     ·have gx:((x:Int)==0)=false:=by simp;omega
      go_wp2_with fail;go_roundg (D-(q+1));case measure=>omega
      exact⟨q+1,N,by go_num,rfl,by omega,E _,by omega,G.out.1,G.out.2⟩
    ·have g1:¬(q:Int)<(D:Int):=by omega
     have g2:¬(4096:Int)<(N:Int):=by omega
     have X:=Zh H;clear H d;go_wp2_with fail;go_roundg 0;case measure=>omega
     exact⟨2,by go_num,by decide,by decide,X.out⟩
  have Al:r=2:=by omega
  subst Al;have X:=Zh H.below;clear H;go_wp2_with fail;go_ret;exact⟨rfl,X.out⟩
structure MX(w:World)(hb pb s0 s1:Nat)(v0 v1:V)(dg:Nat)(lim:Int)(ob qb t0 t1:Nat)(u0 u1:V)(dg2:Nat)(lim2:Int)(m0 m1:AL)(z2:Nat)(lo2 hi2:Int)(a b:AL)(z:Nat)(lo hi:Int)(vp:V)(m:AL)(W:World):Prop where
 cur:∃v0' v1',Cm W hb pb s0 s1 v0' v1' dg lim a b z lo hi/\BV w (Ce hb pb s0 s1 v0 v1) (Ce hb pb s0 s1 v0' v1')/\∀g,vp.ownBlock=S g->v0'.ownBlock≠S g/\v1'.ownBlock≠S g
 oth:Cm W ob qb t0 t1 u0 u1 dg2 lim2 m0 m1 z2 lo2 hi2
 away:AD (Ce hb pb s0 s1 v0 v1) w W
 row:W.ownsRow 0 228 2 vp m.length (AV m)
section
variable {w:World} {hb pb s0 s1:Nat} {v0 v1:V} {dg:Nat} {lim:Int} {ob qb t0 t1:Nat} {u0 u1:V} {dg2:Nat} {lim2:Int} {m0 m1:AL} {z2:Nat} {lo2 hi2:Int} {a b:AL} {z:Nat} {lo hi:Int} {vp:V} {m:AL} {W W' :World}
theorem AD.then_below' {F w W A}(h:AD F w W)(k:B W.heap.size W A):AD F w A:=
 ⟨k.os.trans h.os,k.tape.trans h.tape,k.output.trans h.output,aw h.size k.size,λi hi D=>(k.block i (es hi h.size)).trans (h.block i hi D)⟩
theorem MX.next(h:MX w hb pb s0 s1 v0 v1 dg lim ob qb t0 t1 u0 u1 dg2 lim2 m0 m1 z2 lo2 hi2 a b z lo hi vp m W)(k:B W.heap.size W W'):MX w hb pb s0 s1 v0 v1 dg lim ob qb t0 t1 u0 u1 dg2 lim2 m0 m1 z2 lo2 hi2 a b z lo hi vp m W' :=by
 obtain⟨⟨A,D,X,G,K⟩,H,M,F⟩:=h;exact⟨⟨A,D,X.next k,G,K⟩,H.next k,M.then_below' k,AE F k λg O=>(F.lt g O).2⟩
theorem MX.rowNew(h:MX w hb pb s0 s1 v0 v1 dg lim ob qb t0 t1 u0 u1 dg2 lim2 m0 m1 z2 lo2 hi2 a b z lo hi vp m W)(k:B W.heap.size W W'){K}{F :AL}(o:W'.ownsRow W.heap.size 228 2 K F.length (AV F)):MX w hb pb s0 s1 v0 v1 dg lim ob qb t0 t1 u0 u1 dg2 lim2 m0 m1 z2 lo2 hi2 a b z lo hi K F W' :=by
 have H :=h.next k;obtain⟨⟨A,D,G,O,Z⟩,X,c,Y⟩:=h;exact⟨⟨A,D,G.next k,O,λg M=>⟨λe=>by have:=(o.lt g M).1;have:=(G.st0.own.lt g e).2;omega,λe=>by have:=(o.lt g M).1;have:=(G.st1.own.lt g e).2;omega⟩⟩,H.oth,H.away,AO o λ_ _=>NW _⟩
theorem MX.addTo0(h:MX w hb pb s0 s1 v0 v1 dg lim ob qb t0 t1 u0 u1 dg2 lim2 m0 m1 z2 lo2 hi2 a b z lo hi vp m W)(d:∀i,Ce ob qb t0 t1 u0 u1 i->i<w.heap.size/\¬Ce hb pb s0 s1 v0 v1 i){x c:Nat}(u:1<=c)(hs:AB a+c<=9223372036854775807)(H:a.length<4096):
  C prog 93 #[P (some ⟨s0,0,N⟩),I J x,I U c] W λe w' =>e=R (I J 0)/\MX w hb pb s0 s1 v0 v1 dg lim ob qb t0 t1 u0 u1 dg2 lim2 m0 m1 z2 lo2 hi2 (Ak a x c) b z lo hi vp m w' :=by
 obtain⟨⟨D,M,f,k,j⟩,o,n,Y⟩:=h;refine(Cc W s0 D a x c f.st0 u hs H).mono λe w' hh=> ?_;obtain⟨r,q,S,A,K⟩:=hh;obtain⟨s,c5⟩:=f.add0 S A K;have O:∀i,i=s0\/D.ownBlock=some i->Ce hb pb s0 s1 D M i:=by
  rintro i (e|e)
  ·exact .inr (.inr (.inl e))
  ·exact .inr (.inr (.inr (.inr (.inl e))))
 have F:∀i,i=s0\/D.ownBlock=some i->Ce hb pb s0 s1 v0 v1 i\/w.heap.size<=i:=λi hi=>k i (O i hi);refine⟨r,⟨q,M,s,λi hi=> ?_,λg G=> ?_⟩,o.away A λi hi e=> ?_,n.trans' A (λ_ _ h=>h) (λi hi e=> ?_),AU Y A λg G e=> ?_⟩
 ·rcases c5 i hi with e|e
  ·exact k i e
  ·exact .inr (aw n.size e)
 ·refine⟨λe=> ?_,(j g G).2⟩;rcases K with Z|⟨g2,Z,e3⟩
  ·exact(j g G).1 (Z▸e)
  ·have:=(Y.lt g G).2;rw[Z]at e;injection e with e;omega
 ·have y:=d i hi;rcases F i e with e|e
  ·exact y.2 e
  ·omega
 ·rcases F i e with e|e
  ·exact e
  ·omega
 ·rcases e with e|e
  ·obtain⟨p,X⟩:=AJ Y G;exact(X.ne f.st0.blk (by decide)) e
  ·exact(j g G).1 e
theorem MX.addTo1(h:MX w hb pb s0 s1 v0 v1 dg lim ob qb t0 t1 u0 u1 dg2 lim2 m0 m1 z2 lo2 hi2 a b z lo hi vp m W)(d:∀i,Ce ob qb t0 t1 u0 u1 i->i<w.heap.size/\¬Ce hb pb s0 s1 v0 v1 i){x c:Nat}(u:1<=c)(hs:AB b+c<=9223372036854775807)(H:b.length<4096):
  C prog 93 #[P (some ⟨s1,0,N⟩),I J x,I U c] W λe w' =>e=R (I J 0)/\MX w hb pb s0 s1 v0 v1 dg lim ob qb t0 t1 u0 u1 dg2 lim2 m0 m1 z2 lo2 hi2 a (Ak b x c) z lo hi vp m w' :=by
 obtain⟨⟨X,D,f,k,j⟩,o,n,Y⟩:=h;refine(Cc W s1 D b x c f.st1 u hs H).mono λe w' hh=> ?_;obtain⟨r,q,S,A,K⟩:=hh;obtain⟨s,c5⟩:=f.add1 S A K;have M:∀i,i=s1\/D.ownBlock=some i->Ce hb pb s0 s1 X D i:=by
  rintro i (e|e)
  ·exact .inr (.inr (.inr (.inl e)))
  ·exact .inr (.inr (.inr (.inr (.inr e))))
 have F:∀i,i=s1\/D.ownBlock=some i->Ce hb pb s0 s1 v0 v1 i\/w.heap.size<=i:=λi hi=>k i (M i hi);refine⟨r,⟨X,q,s,λi hi=> ?_,λg G=> ?_⟩,o.away A λi hi e=> ?_,n.trans' A (λ_ _ h=>h) (λi hi e=> ?_),AU Y A λg G e=> ?_⟩
 ·rcases c5 i hi with e|e
  ·exact k i e
  ·exact .inr (aw n.size e)
 ·refine⟨(j g G).1,λe=> ?_⟩;rcases K with Z|⟨g2,Z,e3⟩
  ·exact(j g G).2 (Z▸e)
  ·have:=(Y.lt g G).2;rw[Z]at e;injection e with e;omega
 ·have y:=d i hi;rcases F i e with e|e
  ·exact y.2 e
  ·omega
 ·rcases F i e with e|e
  ·exact e
  ·omega
 ·rcases e with e|e
  ·obtain⟨p,O⟩:=AJ Y G;exact(O.ne f.st1.blk (by decide)) e
  ·exact(j g G).2 e
end
def gG(l0 l1 m0 m1:AL)(r:Nat):AL×AL:=if r=0 then(l0,l1)else if r=1 then(AZ l0 m0,l1)else(AZ l0 m0,AZ l1 m1)
theorem Oj(w hb pb s0 s1 v0 v1 dg lim)(l0 l1:AL)(z lo hi ob qb t0 t1 u0 u1 lim2)(m0 m1:AL)(z2 lo2 hi2)
  (h:Cm w hb pb s0 s1 v0 v1 dg lim l0 l1 z lo hi)(k:Cm w ob qb t0 t1 u0 u1 dg lim2 m0 m1 z2 lo2 hi2)(A9:∀i,Ce hb pb s0 s1 v0 v1 i->¬Ce ob qb t0 t1 u0 u1 i)(j:Am lo2)(n:Am hi2)(hl:0<=lim)(BX:lim=0\/max (Sg.mag lo2) (Sg.mag hi2)<=lim)
  (Cr:l0.length+m0.length<=4000)(B3:l1.length+m1.length<=4000)(hT:C6 l0 l1 z+C6 m0 m1 z2<=9223372036854775807)(A2:C6 m0 m1 z2≠0):
  Calls prog 246 #[P (S ⟨hb,0,N⟩),P (S ⟨ob,0,N⟩)] w λe w' =>e=R (I J 0)/\Xn w hb pb s0 s1 v0 v1 dg lim (AZ l0 m0) (AZ l1 m1) (z+z2) (JU (C6 l0 l1 z) lo lo2) (JV (C6 l0 l1 z) hi hi2) w' :=by
 have H:Ro w hb pb s0 s1 v0 v1 dg lim l0 l1 z lo hi ob qb t0 t1 u0 u1 dg lim2 m0 m1 z2 lo2 hi2 w:=⟨h,k,B.refl _ _⟩;have Aw:=Zh (show∀i,Ce ob qb t0 t1 u0 u1 i->i<w.heap.size/\¬Ce hb pb s0 s1 v0 v1 i from λi hi=>⟨k.lt i hi,λe=>A9 i e hi⟩);have C0:=k.st0.full;have C3:=k.st1.full;have Ar:=λW (x:Cm W ob qb t0 t1 u0 u1 dg lim2 m0 m1 z2 lo2 hi2)=>Cf W ob qb t0 t1 u0 u1 dg lim2 m0 m1 z2 lo2 hi2 x (by omega);have B2:=λW (x:Cm W hb pb s0 s1 v0 v1 dg lim l0 l1 z lo hi)=>Cf W hb pb s0 s1 v0 v1 dg lim l0 l1 z lo hi x (by omega);have BR:=λW (x:Cm W hb pb s0 s1 v0 v1 dg lim l0 l1 z lo hi)=>Iv W hb pb s0 s1 v0 v1 dg lim l0 l1 z lo hi x (by omega) lo2 hi2;have CL:=λW (x:Ro w hb pb s0 s1 v0 v1 dg lim l0 l1 z lo hi ob qb t0 t1 u0 u1 dg lim2 m0 m1 z2 lo2 hi2 W)=>Yb W hb pb s0 s1 v0 v1 dg lim l0 l1 z lo hi ob qb t0 t1 u0 u1 dg lim2 m0 m1 z2 lo2 hi2 x.hd x.oth Cr B3;unfold Am at j n;have C4:=λW=>Sg.of_any lo2 W j.1 j.2;have C2:=λW=>Sg.of_any hi2 W n.1 n.2;have Ac:AB l0+AB m0<=C6 l0 l1 z+C6 m0 m1 z2:=by unfold C6;omega
 have Aa:AB l1+AB m1<=C6 l0 l1 z+C6 m0 m1 z2:=by unfold C6;omega
 have B0:z+z2<=C6 l0 l1 z+C6 m0 m1 z2:=by unfold C6;omega
 obtain⟨lo',Ab⟩:∃x,x=JU (C6 l0 l1 z) lo lo2:=⟨_,rfl⟩;obtain⟨hi',Al⟩:∃x,x=JV (C6 l0 l1 z) hi hi2:=⟨_,rfl⟩;rw[<-Ab,<-Al]at BR⊢;obtain⟨T,Bs⟩:∃T,T=C6 l0 l1 z:=⟨_,rfl⟩;obtain⟨T2,Ba⟩:∃T,T=C6 m0 m1 z2:=⟨_,rfl⟩;rw[<-Bs]at B2 hT Ac Aa B0;rw[<-Ba]at Ar hT A2 Ac Aa B0;have B5:=λW b=>Az W b T T2 hT;have g0:((T2:Int)==0)=false:=by simp;omega
 generalize Sg.mag lo2=a1 at*;generalize Sg.mag hi2=a2 at*;generalize Sg.neg lo2=n1 at*;generalize Sg.neg hi2=n2 at*;have e1:U.wrap ((z:Int)+(z2:Int))=((z+z2:Nat):Int):=by rw[<-gc];exact Wd.wrapN _ (by omega)
 have HE:=Zh e1;have gl:0<lim/\¬lim<max a1 a2\/¬0<lim:=by omega
 have HG:=Zh gl;clear h k A9 Ab Al Bs Ba e1 gl BX hl j n A2;go_enter func246,ntmps246;go_upto_region 3 with fail;refine AG (C:=Ro w hb pb s0 s1 v0 v1 dg lim l0 l1 z lo hi ob qb t0 t1 u0 u1 dg lim2 m0 m1 z2 lo2 hi2) (by kernel_rfl) (by kernel_rfl) H.drew ?_;repeat go_big_quiet_step(exact λ_=>rfl)
 go_big_quiet_want;refine⟨I J dg,λwx hx=> ?_,?_⟩
 ·obtain⟨c0,c1,c2,c3,c4,c5,c6,c7,f5,f6,f7⟩:=hx.hd.cells;go_simp
 go_big_quiet_on;simp only[Pa,Zp,Zq,Zr];repeat go_big_quiet_step(exact λ_=>rfl)
 go_big_quiet_want;refine⟨I J dg,λwx hx=> ?_,?_⟩
 ·obtain⟨c0,c1,c2,c3,c4,c5,c6,c7,f5,f6,f7⟩:=hx.oth.cells;go_simp
 go_big_quiet_on;simp only[Pa,Zp,Zq,Zr];repeat go_big_quiet_step(exact λ_=>rfl)
 refine wpQuiet_nil ?_;intro W1 H1;clear H;have Bt:=Ar W1 H1.oth;have BA:=Zh H1;clear H1;go_wp2_with fail;refine Bt.mono ?_;rintro e w2 ⟨rfl,b2⟩;have H2:=BA.out.next b2;obtain⟨d0,d1,d2,d3,d4,d5,d6,d7,j5,j6,j7⟩:=H2.oth.cells;obtain⟨c0,c1,c2,c3,c4,c5,c6,c7,f5,f6,f7⟩:=H2.hd.cells;have Bu:=B2 w2 H2.hd;have BQ:=Zh H2;clear H2 b2 BA Bt;rcases HG.out with⟨g3,g4⟩|g3
 all_goals(
  go_wp2_with fail;refine(C4 _).mono ?_;rintro e w3 ⟨rfl,rfl⟩;go_wp2_with fail;refine(C2 _).mono ?_;rintro e w3 ⟨rfl,rfl⟩;go_wp2_with fail;refine Bu.mono ?_;rintro e w3 ⟨rfl,b3⟩;have H3:=BQ.out.next b3;have Bw:=Ar w3 H3.oth;have A5:=Zh H3;clear H3 b3 BQ Bu c0 c1 c2 c3 c4 c5 c6 c7 f5 f6 f7 d0 d1 d2 d3 d4 d5 d6 d7 j5 j6 j7;go_wp2_with fail;refine Bw.mono ?_;rintro e w4 ⟨rfl,b4⟩;have H4:=A5.out.next b4;have A4:=Zh H4;clear H4 b4 A5 Bw;go_wp2_with fail;refine(B5 _ _ (by simp) (by simp)).mono ?_;rintro e w5 ⟨rfl,rfl⟩;have H5:=A4.out.next ((B.refl _ _).alloc (E _) (.cells #[I U T,I U T2] 23));have A6:=CL _ H5;have B1:=Zh H5;clear H5 A4;go_wp2_with fail;refine A6.mono ?_;rintro e w6 ⟨rfl,b6⟩;have H6:=B1.out.next b6;clear A6 b6 B1;go_upto_region 14 with fail;refine AS 9 (C:=Ro w hb pb s0 s1 v0 v1 dg lim l0 l1 z lo hi ob qb t0 t1 u0 u1 dg lim2 m0 m1 z2 lo2 hi2) (by kernel_rfl) (by kernel_rfl) H6.drew ?_;simp only[fa,dT,fx,fy];repeat go_big_quiet_step(exact λ_=>rfl)
  go_big_quiet_want;refine⟨I J lo2,λwx hx=> ?_,?_⟩
  ·obtain⟨c0,c1,c2,c3,c4,c5,c6,c7,f5,f6,f7⟩:=hx.oth.cells;go_simp
  go_big_quiet_on;simp only[Pa,Zp,Zq,Zr];repeat go_big_quiet_step(exact λ_=>rfl)
  go_big_quiet_want;refine⟨I J hi2,λwx hx=> ?_,?_⟩
  ·obtain⟨c0,c1,c2,c3,c4,c5,c6,c7,f5,f6,f7⟩:=hx.oth.cells;go_simp
  go_big_quiet_on;simp only[Pa,Zp,Zq,Zr];repeat go_big_quiet_step(exact λ_=>rfl)
  refine wpQuiet_nil ?_;intro W7 H7;clear H6;have A3:=BR W7 H7.hd;have Ax:=Zh H7;clear H7;go_wp2_with fail;refine A3.mono ?_;rintro e w8 ⟨rfl,D8,A8⟩;have J8:MX w hb pb s0 s1 v0 v1 dg lim ob qb t0 t1 u0 u1 dg lim2 m0 m1 z2 lo2 hi2 l0 l1 z lo' hi' (L N 0 0) [] w8:=by
   refine⟨⟨v0,v1,D8,λ_ h=>.inl h,λg hg=>by simp[V.ownBlock]at hg⟩,Ax.out.oth.away A8 λi hi e=>(Aw.out i hi).2 (.inl e),(AD.of_below (F:=Ce hb pb s0 s1 v0 v1) Ax.out.below).trans' A8 (λ_ _ h=>h) (λi _ e=>.inl e),World.ownsRow_nil _ _ _ _⟩
  obtain⟨c0,c1,c2,c3,c4,c5,c6,c7,f5,f6,f7⟩:=D8.cells;have A7:=Zh J8;clear A3 Ax D8 A8 J8;go_wp2_with fail;clear c0 c1 c2 c3 c4 c5 c6 c7 f5 f6 f7;go_loopg [14,102] 2 (λg p i wr=>∃(r:Nat) (vp:V) (m:AL),i=I J r/\r<=2/\2-r<=g/\MX w hb pb s0 s1 v0 v1 dg lim ob qb t0 t1 u0 u1 dg lim2 m0 m1 z2 lo2 hi2 (gG l0 l1 m0 m1 r).1 (gG l0 l1 m0 m1 r).2 z lo' hi' vp m wr);case atStart=>exact⟨0,_,_,rfl,by decide,by decide,A7.out⟩
  case round=>
   clear A7;obtain⟨r,vp,m,rfl,hr,D0,H⟩:=hrel;by_cases k0:r=0
   ·subst k0;replace H:MX w hb pb s0 s1 v0 v1 dg lim ob qb t0 t1 u0 u1 dg lim2 m0 m1 z2 lo2 hi2 l0 l1 z lo' hi' vp m wr:=H;obtain⟨d0,d1,d2,d3,d4,d5,d6,d7,j5,j6,j7⟩:=H.oth.cells;have y:=Cx wr t0 u0 m0 H.oth.st0 (by omega);have HX:=Zh H;have Ck:=λw=>Li (S ⟨s0,0,N⟩) (S ⟨s1,0,N⟩) w;clear H;go_wp2_with fail;refine y.mono ?_;rintro e w2 ⟨vq,rfl,o2,b2⟩;obtain⟨Ap,cp,Ay⟩:=AF o2;subst Ay;obtain⟨M,f⟩:∃M,M=m0.length:=⟨_,rfl⟩;have HM:=Zh f;have HS:=Zh (HX.out.rowNew b2 o2);rw[<-f]at HS⊢;clear y o2 b2 d0 d1 d2 d3 d4 d5 d6 d7 j5 j6 j7 f HX;go_wp2_with fail;go_loopg [14,114] M (λg p i wr=>∃q:Nat,i=I J q/\q<=M/\M-q<=g/\MX w hb pb s0 s1 v0 v1 dg lim ob qb t0 t1 u0 u1 dg lim2 m0 m1 z2 lo2 hi2 (AZ l0 (m0.take q)) l1 z lo' hi' (L Ap M cp) m0 wr);case atStart=>exact⟨0,rfl,NW _,E _,by rw[dT];exact HS.out⟩
    case round=>
     clear HS;obtain⟨q,rfl,hq,hg,H⟩:=hrel;by_cases Av:q<M
     ·have g1:(q:Int)<(M:Int):=by omega
      have K:q<m0.length:=by rw[<-HM.out];exact Av
      have O1:=H.row;rw[HM.out]at O1;rcases AH O1 with⟨Z,C1,_⟩|⟨g',C9,Z,B9,Bb,_,B4⟩
      ·omega
      simp only[L.injEq,true_and]at Z;obtain⟨rfl,rfl⟩:=Z;have d:=C0 _ (ej K);obtain⟨ix,X⟩:∃i,i=(m0[q]'K).1:=⟨_,rfl⟩;obtain⟨ct,O⟩:∃i,i=(m0[q]'K).2:=⟨_,rfl⟩;have AA:AZ l0 (m0.take (q+1))=Ak (AZ l0 (m0.take q)) ix ct:=by
       rw[gR K,Es,X,O]
      have u:AB (m0.take q)+ct<=AB m0:=by
       have e:m0=m0.take q++((m0[q]'K)::m0.drop (q+1)):=by rw[<-gd K,gS]
       have e2:AB m0=AB (m0.take q)+AB ((m0[q]'K)::m0.drop (q+1)):=by
        conv=>lhs;rw[e]
        exact Bv _ _ _
       have e3:AB ((m0[q]'K)::m0.drop (q+1))=(m0[q]'K).2+AB (m0.drop (q+1)):=by unfold AB;rw[AQ];simp
       omega
      have A0:=DS l0 (m0.take q);have o:=Ed l0 (m0.take q);rw[bh]at o;rw[<-O]at d;have p0:wr.cell? ⟨g',q*2,N⟩=S (I J ix):=by rw[O1.cellAt _ (by omega),BI m0 q K,X]
      have p1:wr.cell? ⟨g',q*2+1,N⟩=S (I U ct):=by rw[O1.cellAt _ (by omega),BT m0 q K,O]
      have b1:B wr.heap.size wr (wr.alloc (.cells #[I J ix,I U ct] 228)):=Za;have H1:=H.next b1;have Y:=H1.addTo0 Aw.out (x:=ix) (c:=ct) d (by omega) (by omega);rw[<-AA]at Y;clear X O H O1 H1 b1 AA u A0 o d;go_wp2_with fail;refine Y.mono ?_;rintro e w3 ⟨rfl,H3⟩;have A1:=Zh H3;clear Y H3;go_wp2_with fail;go_roundg (M-(q+1));case measure=>omega
      exact⟨q+1,by go_num,by omega,E _,A1.out⟩
     ·have g1:¬(q:Int)<(M:Int):=by omega
      have s:q=m0.length:=by have:=HM.out;omega
      have HT:=Zh (show MX w hb pb s0 s1 v0 v1 dg lim ob qb t0 t1 u0 u1 dg lim2 m0 m1 z2 lo2 hi2 (AZ l0 m0) l1 z lo' hi' (L Ap M cp) m0 wr by rw[s,gg]at H;exact H);clear H s;go_wp2_with fail;go_roundg 1;case measure=>omega
      exact⟨1,_,_,by go_num,by decide,by decide,HT.out⟩
   by_cases k1:r=1
   ·subst k1;replace H:MX w hb pb s0 s1 v0 v1 dg lim ob qb t0 t1 u0 u1 dg lim2 m0 m1 z2 lo2 hi2 (AZ l0 m0) l1 z lo' hi' vp m wr:=H;obtain⟨d0,d1,d2,d3,d4,d5,d6,d7,j5,j6,j7⟩:=H.oth.cells;have y:=Cx wr t1 u1 m1 H.oth.st1 (by omega);have HX:=Zh H;have Ck:=λw=>Ll (S ⟨s0,0,N⟩) (S ⟨s1,0,N⟩) w;clear H;go_wp2_with fail;refine y.mono ?_;rintro e w2 ⟨vq,rfl,o2,b2⟩;obtain⟨Ap,cp,Ay⟩:=AF o2;subst Ay;obtain⟨M,f⟩:∃M,M=m1.length:=⟨_,rfl⟩;have HM:=Zh f;have HS:=Zh (HX.out.rowNew b2 o2);rw[<-f]at HS⊢;clear y o2 b2 d0 d1 d2 d3 d4 d5 d6 d7 j5 j6 j7 f HX;go_wp2_with fail;go_loopg [14,114] M (λg p i wr=>∃q:Nat,i=I J q/\q<=M/\M-q<=g/\MX w hb pb s0 s1 v0 v1 dg lim ob qb t0 t1 u0 u1 dg lim2 m0 m1 z2 lo2 hi2 (AZ l0 m0) (AZ l1 (m1.take q)) z lo' hi' (L Ap M cp) m1 wr);case atStart=>exact⟨0,rfl,NW _,E _,by rw[dT];exact HS.out⟩
    case round=>
     clear HS;obtain⟨q,rfl,hq,hg,H⟩:=hrel;by_cases Av:q<M
     ·have g1:(q:Int)<(M:Int):=by omega
      have K:q<m1.length:=by rw[<-HM.out];exact Av
      have O1:=H.row;rw[HM.out]at O1;rcases AH O1 with⟨Z,C1,_⟩|⟨g',C9,Z,B9,Bb,_,B4⟩
      ·omega
      simp only[L.injEq,true_and]at Z;obtain⟨rfl,rfl⟩:=Z;have d:=C3 _ (ej K);obtain⟨ix,X⟩:∃i,i=(m1[q]'K).1:=⟨_,rfl⟩;obtain⟨ct,O⟩:∃i,i=(m1[q]'K).2:=⟨_,rfl⟩;have AA:AZ l1 (m1.take (q+1))=Ak (AZ l1 (m1.take q)) ix ct:=by
       rw[gR K,Es,X,O]
      have u:AB (m1.take q)+ct<=AB m1:=by
       have e:m1=m1.take q++((m1[q]'K)::m1.drop (q+1)):=by rw[<-gd K,gS]
       have e2:AB m1=AB (m1.take q)+AB ((m1[q]'K)::m1.drop (q+1)):=by
        conv=>lhs;rw[e]
        exact Bv _ _ _
       have e3:AB ((m1[q]'K)::m1.drop (q+1))=(m1[q]'K).2+AB (m1.drop (q+1)):=by unfold AB;rw[AQ];simp
       omega
      have A0:=DS l1 (m1.take q);have o:=Ed l1 (m1.take q);rw[bh]at o;rw[<-O]at d;have p0:wr.cell? ⟨g',q*2,N⟩=S (I J ix):=by rw[O1.cellAt _ (by omega),BI m1 q K,X]
      have p1:wr.cell? ⟨g',q*2+1,N⟩=S (I U ct):=by rw[O1.cellAt _ (by omega),BT m1 q K,O]
      have b1:B wr.heap.size wr (wr.alloc (.cells #[I J ix,I U ct] 228)):=Za;have H1:=H.next b1;have Y:=H1.addTo1 Aw.out (x:=ix) (c:=ct) d (by omega) (by omega);rw[<-AA]at Y;clear X O H O1 H1 b1 AA u A0 o d;go_wp2_with fail;refine Y.mono ?_;rintro e w3 ⟨rfl,H3⟩;have A1:=Zh H3;clear Y H3;go_wp2_with fail;go_roundg (M-(q+1));case measure=>omega
      exact⟨q+1,by go_num,by omega,E _,A1.out⟩
     ·have g1:¬(q:Int)<(M:Int):=by omega
      have s:q=m1.length:=by have:=HM.out;omega
      have HT:=Zh (show MX w hb pb s0 s1 v0 v1 dg lim ob qb t0 t1 u0 u1 dg lim2 m0 m1 z2 lo2 hi2 (AZ l0 m0) (AZ l1 m1) z lo' hi' (L Ap M cp) m1 wr by rw[s,gg]at H;exact H);clear H s;go_wp2_with fail;go_roundg 0;case measure=>omega
      exact⟨2,_,_,by go_num,by decide,by decide,HT.out⟩
   have Cs:r=2:=by omega
   subst Cs;replace H:MX w hb pb s0 s1 v0 v1 dg lim ob qb t0 t1 u0 u1 dg lim2 m0 m1 z2 lo2 hi2 (AZ l0 m0) (AZ l1 m1) z lo' hi' vp m wr:=H;obtain⟨d0,d1,d2,d3,d4,d5,d6,d7,j5,j6,j7⟩:=H.oth.cells;obtain⟨⟨Cp,C8,D,G,_⟩,_,A,_⟩:=H;obtain⟨c0,c1,c2,c3,c4,c5,c6,c7,f5,f6,f7⟩:=D.cells;have HF:=Zh (show Xn w hb pb s0 s1 v0 v1 dg lim (AZ l0 m0) (AZ l1 m1) (z+z2) lo' hi' (wr.setCell ⟨hb,5,N⟩ (I U ((z+z2:Nat):Int))).drew from
    ⟨Cp,C8,(D.turn (z' :=z+z2) (lo' :=lo') (hi' :=hi') 5 (I U ((z+z2:Nat):Int)) rfl).drew,G,(A.setCell ⟨hb,5,N⟩ _ (.inl (.inl rfl))).drew⟩)
   have e1:=HE.out;clear D G A;go_wp2_with fail;go_region;all_goals(try go_wp2)
   all_goals go_ret
   all_goals exact⟨rfl,by simpa[gc]using HF.out⟩)
abbrev GX:=AM->W->Nat->(Nat->Prop)->Prop
structure Cz(Q:GX):Prop where
 next:∀{W W' :World} {db:Nat} {O:Nat->Prop} {vals:AM},Q vals W db O->B W.heap.size W W' ->Q vals W' db O
 away:∀{W W' :World} {db:Nat} {O G:Nat->Prop} {vals:AM},Q vals W db O->AD G W W' ->(∀k,O k->¬G k)->Q vals W' db O
 lt:∀{W:World} {db:Nat} {O:Nat->Prop} {vals:AM},Q vals W db O->∀k,O k->k<W.heap.size
 ty:∀{W:World} {db:Nat} {O:Nat->Prop} {vals:AM},Q vals W db O->∀k,O k->∀cs,¬AI W k cs 59/\¬AI W k cs 34/\¬AI W k cs 76
def GZ(a0 a1 a2 a3 a4 a5 a6 a7 a8 a9 a10:Int)(T:TypeId)(Q:GX)(Gd:AM->Prop)(W:World)(kb:Nat)(O:Nat->Prop)(vals:AM):Prop:=
 ∃(db:Nat) (D:Nat->Prop),AI W kb (Xp a0 a1 a2 a3 a4 a5 a6 a7 a8 a9 a10 T db) 76/\Q vals W db D/\Gd vals/\O=λk=>k=kb\/D k
def Dv(Q:GX)(w:W)(db:Nat)(O:Nat->Prop)(vals more:AM)(e:Ending)(w' :W):Prop:=∃(code:Int) (O' :Nat->Prop),e=R (I J code)/\
 (code=0->Q (vals++more) w' db O')/\BV w O O' /\AD O w w'
def Hs(cv:Array V)(T:TypeId)(Q1:W->Nat->(Nat->Prop)->Prop)(w:W)(eb:Nat)(e:Ending)(w' :W):Prop:=∃(ok:Bool) (po:Option Addr),e=R (.tuple #[.agg cv,.iface T (.agg #[P po]),.bool ok])/\AD (λk=>k=eb) w w' /\CZ w' eb []/\
 (ok=true->∃db O,po=S ⟨db,0,N⟩/\Q1 w' db O/\∀k,O k->w.heap.size<=k)
section
variable {a0 a1 a2 a3 a4 a5 a6 a7 a8 a9 a10:Int} {T:TypeId} {Q:GX} {Gd:AM->Prop} {P:Int×Nat->Bool} {Ld:AM->List UInt8}
theorem Cz.ne(C:Cz Q){W A G D}{vals:AM}{F}(h:AI W A F 76)(q:Q vals W G D):¬D A:=λH=>(C.ty q A H F).2.2 h
theorem GZ.next(C:Cz Q){W W' F O}{vals:AM}(h:GZ a0 a1 a2 a3 a4 a5 a6 a7 a8 a9 a10 T Q Gd W F O vals)(hb:B W.heap.size W W'):GZ a0 a1 a2 a3 a4 a5 a6 a7 a8 a9 a10 T Q Gd W' F O vals:=by
 obtain⟨G,D,A,H,K,rfl⟩:=h;exact⟨G,D,A.below hb A.lt,C.next H hb,K,rfl⟩
theorem GZ.away(C:Cz Q){W W' F O G}{vals:AM}(h:GZ a0 a1 a2 a3 a4 a5 a6 a7 a8 a9 a10 T Q Gd W F O vals)(A:AD G W W')(H:∀k,O k->¬G k):GZ a0 a1 a2 a3 a4 a5 a6 a7 a8 a9 a10 T Q Gd W' F O vals:=by
 obtain⟨M,D,Y,X,Z,rfl⟩:=h;exact⟨M,D,Y.away A (H _ (.inl rfl)),C.away X A λk K=>H k (.inr K),Z,rfl⟩
theorem GZ.lt(C:Cz Q){W H O}{vals:AM}(h:GZ a0 a1 a2 a3 a4 a5 a6 a7 a8 a9 a10 T Q Gd W H O vals):∀k,O k->k<W.heap.size:=by
 obtain⟨K,D,G,F,M,rfl⟩:=h;rintro k (rfl|A)
 ·exact G.lt
 ·exact C.lt F k A
theorem GZ.ty(C:Cz Q){W K O}{vals:AM}(h:GZ a0 a1 a2 a3 a4 a5 a6 a7 a8 a9 a10 T Q Gd W K O vals):∀k,O k->∀A,¬AI W k A 59/\¬AI W k A 34:=by
 obtain⟨M,D,H,G,X,rfl⟩:=h;rintro k (rfl|F) A
 ·exact⟨λhb=>(H.ne hb (by decide)) rfl,λhb=>(H.ne hb (by decide)) rfl⟩
 ·exact⟨(C.ty G k F A).1,(C.ty G k F A).2.1⟩
theorem Ct {w A D}(h:AI w A (Xp a0 a1 a2 a3 a4 a5 a6 a7 a8 a9 a10 T D) 76):w.cell? ⟨A,0,N⟩=S (I J a0)/\w.cell? ⟨A,11,N⟩=S (.iface T (.agg #[.pointer (S ⟨D,0,N⟩)]))/\A<w.heap.size:=⟨h.cell rfl,h.cell rfl,h.lt⟩
theorem JA{M}(C:Cz Q)(X:FuncId)(he:∀args w,(callFunc X args).run prog w=.ok (.enter X args) w)(q:∀(A:Nat) (w:W),(method 524 T (.agg #[.pointer (S ⟨A,0,N⟩)]) "Put").run prog w=.ok (X,.pointer (S ⟨A,0,N⟩)) w)
  (hg:∀vals x,Gd vals->Am x.1->x.2<=20->P x=true->Gd (vals++ [x]))
  (o:∀(w:W) (A:Nat) (O:Nat->Prop) (vals:AM) (x:Int×Nat),Q vals w A O->Gd vals->DK vals->vals.length<M->Am x.1->x.2<=20->Calls prog X #[.pointer (S ⟨A,0,N⟩),I J x.1,I U (x.2:Nat)] w (JY Q P w A O vals x))
  (w G O)(vals:AM)(x:Int×Nat)(h:GZ a0 a1 a2 a3 a4 a5 a6 a7 a8 a9 a10 T Q Gd w G O vals)(r:DK vals)(hl:vals.length<M)(p:Am x.1)(u:x.2<=20):
  Calls prog 18 #[.pointer (S ⟨G,0,N⟩),I J x.1,I U (x.2:Nat)] w (Ux (GZ a0 a1 a2 a3 a4 a5 a6 a7 a8 a9 a10 T Q Gd) P w G O vals x):=by
 obtain⟨A,D,Y,c,Z,rfl⟩:=h;have n:=o w A D vals x c Z r hl p u;have Aa:=q A;obtain⟨c0,c1,AA⟩:=Ct Y;have K:=Zh (show∀(e:Ending) (w' :W),JY Q P w A D vals x e w' ->Ux (GZ a0 a1 a2 a3 a4 a5 a6 a7 a8 a9 a10 T Q Gd) P w G (λk=>k=G\/D k) vals x e w' from by
  rintro e w' ⟨F,f,rfl,i,g,hs,s⟩;refine⟨F,λk=>k=G\/f k,rfl,i,⟨A,f,Y.away s (C.ne Y c),g,?_,rfl⟩,?_,s.mono λk _ d=>.inr d⟩
  ·by_cases j:P x=true
   ·rw[if_pos j];exact hg vals x Z p u j
   ·rw[if_neg j];exact Z
  ·rintro k (rfl|d)
   ·exact .inl (.inl rfl)
   ·exact(hs k d).imp .inr id)
 clear Y c Z o r q;go_enter func18,ntmps18;go_wp2_with fail;refine n.mono ?_;rintro e y H;have HH:=Zh (K.out e y H);obtain⟨F,f,rfl,_⟩:=H;clear n K;go_wp2_with fail;go_ret;exact HH.out
structure dP(w:World)(a0 a1 a2 a3 a4 a5 a6 a7 a8 a9 a10:Int)(T:TypeId)(kb db nb ob:Nat)(W:World):Prop where
 b1:AI W kb (Xp a0 a1 a2 a3 a4 a5 a6 a7 a8 a9 a10 T db) 76
 b2:AI W nb (Xp a0 a1 a2 a3 a4 a5 a6 a7 a8 a9 a10 T ob) 76
 below:B w.heap.size w W
theorem dP.drew{w W A F D ob}(h:dP w a0 a1 a2 a3 a4 a5 a6 a7 a8 a9 a10 T A F D ob W):dP w a0 a1 a2 a3 a4 a5 a6 a7 a8 a9 a10 T A F D ob W.drew:=⟨h.b1.drew,h.b2.drew,h.below.drew⟩
theorem G0(C:Cz Q)(n:FuncId)(he:∀args w,(callFunc n args).run prog w=.ok (.enter n args) w)(hm:∀(K:Nat) (w:World),(method 524 T (.agg #[.pointer (S ⟨K,0,none⟩)]) "ogive/suite.join").run prog w=.ok (n,.agg #[.pointer (S ⟨K,0,none⟩)]) w)
  (hg:∀vals G,Gd vals->Gd G->Gd (vals++G))
  (hj:∀(w:World) (K ob:Nat) (O N:Nat->Prop) (vals G:AM),Q vals w K O->Q G w ob N->Gd vals->Gd G->(∀k,O k->¬N k)->DK vals->DK G->vals.length+G.length<=360->Calls prog n #[.agg #[.pointer (S ⟨K,0,none⟩)],.iface T (.agg #[.pointer (S ⟨ob,0,none⟩)])] w (Dv Q w K O vals G))
  (w M Z O N)(vals G:AM)(h:GZ a0 a1 a2 a3 a4 a5 a6 a7 a8 a9 a10 T Q Gd w M O vals)(k:GZ a0 a1 a2 a3 a4 a5 a6 a7 a8 a9 a10 T Q Gd w Z N G)(d:∀i,O i->¬N i)(hv:DK vals)(c:DK G)(g:vals.length+G.length<=360):
  Calls prog 22 #[.pointer (S ⟨M,0,none⟩),.pointer (S ⟨Z,0,none⟩)] w (XZ (GZ a0 a1 a2 a3 a4 a5 a6 a7 a8 a9 a10 T Q Gd) w M O vals G):=by
 obtain⟨K,D,h1,q,h3,rfl⟩:=h;obtain⟨ob,A,k1,k2,s,rfl⟩:=k;have H:dP w a0 a1 a2 a3 a4 a5 a6 a7 a8 a9 a10 T M K Z ob w:=⟨h1,k1,B.refl _ _⟩;have f:=Zh (show∀W,B w.heap.size w W->Calls prog n #[.agg #[.pointer (S ⟨K,0,none⟩)],.iface T (.agg #[.pointer (S ⟨ob,0,none⟩)])] W (Dv Q W K D vals G)from λW b=>hj W K ob D A vals G (C.next q b) (C.next k2 b) h3 s (λi hi hi2=>d i (.inr hi) (.inr hi2)) hv c g);have Aa:=hm K;have e0:(a0 !=a0)=false:=by simp
 have p:=Zh (show∀(W:World) (e:Ending) (w' :World),dP w a0 a1 a2 a3 a4 a5 a6 a7 a8 a9 a10 T M K Z ob W->Dv Q W K D vals G e w' ->XZ (GZ a0 a1 a2 a3 a4 a5 a6 a7 a8 a9 a10 T Q Gd) w M (λk=>k=M\/D k) vals G e w' from by
  rintro W e w' j ⟨X,D',rfl,AA,hs,ha⟩;refine⟨X,λk=>k=M\/D' k,rfl,λhc=>⟨K,D',j.b1.away ha (C.ne j.b1 (C.next q j.below)),AA hc,hg _ _ h3 s,rfl⟩,?_,((AD.of_below (F:=D) j.below).trans' ha (λ_ _ h=>h) (λ_ _ h=>h)).mono λk _ r=>.inr r⟩;rintro k (rfl|r)
  ·exact .inl (.inl rfl)
  ·rcases hs k r with e|e
   ·exact .inl (.inr e)
   ·exact .inr (aw j.below.size e))
 clear h1 q h3 k1 k2 s d hj hm hv c;go_enter func22,ntmps22;go_upto_region 3 with fail;refine AG (C:=dP w a0 a1 a2 a3 a4 a5 a6 a7 a8 a9 a10 T M K Z ob) (by kernel_rfl) (by kernel_rfl) H.drew ?_;repeat go_big_quiet_step(exact λ_=>rfl)
 go_big_quiet_want;refine⟨I J a0,λu Y=> ?_,?_⟩
 ·obtain⟨x,y,g⟩:=Ct Y.b1;go_simp
 go_big_quiet_on;simp only[Pa,Zp,Zq,Zr];repeat go_big_quiet_step(exact λ_=>rfl)
 go_big_quiet_want;refine⟨I J a0,λu Y=> ?_,?_⟩
 ·obtain⟨x,y,g⟩:=Ct Y.b2;go_simp
 go_big_quiet_on;simp only[Pa,Zp,Zq,Zr];repeat go_big_quiet_step(exact λ_=>rfl)
 refine wpQuiet_nil ?_;intro w1 H1;go_upto_region 5 with fail;refine AS 10 (C:=dP w a0 a1 a2 a3 a4 a5 a6 a7 a8 a9 a10 T M K Z ob) (by kernel_rfl) (by kernel_rfl) H1.drew ?_;simp only[fa,dT,fx,fy];repeat go_big_quiet_step(exact λ_=>rfl)
 go_big_quiet_want;refine⟨.iface T (.agg #[.pointer (S ⟨K,0,none⟩)]),λu Y=> ?_,?_⟩
 ·obtain⟨x,y,g⟩:=Ct Y.b1;go_simp
 go_big_quiet_on;simp only[Pa,Zp,Zq,Zr];repeat go_big_quiet_step(exact λ_=>rfl)
 go_big_quiet_want;refine⟨.iface T (.agg #[.pointer (S ⟨ob,0,none⟩)]),λu Y=> ?_,?_⟩
 ·obtain⟨x,y,g⟩:=Ct Y.b2;go_simp
 go_big_quiet_on;simp only[Pa,Zp,Zq,Zr];repeat go_big_quiet_step(exact λ_=>rfl)
 refine wpQuiet_nil ?_;intro w2 H2;have o:=f.out w2 H2.below;have HF:=Zh (p.out w2 · · H2);clear p f H H1 H2;go_wp2_with fail;refine o.mono ?_;rintro e w3 J3;have HJ:=Zh (HF.out _ _ J3);obtain⟨X,D',rfl,_⟩:=J3;clear o HF;go_wp2_with fail;go_ret;exact HJ.out
theorem St(C:Cz Q)(M:FuncId)(he:∀args w,(callFunc M args).run prog w=.ok (.enter M args) w)(kn)(G:a0=((kn.toNat:Nat):Int))(hm:∀(F:Nat) (w:W),(method 524 T (.agg #[.pointer (S ⟨F,0,N⟩)]) "ogive/suite.write").run prog w=.ok (M,.agg #[.pointer (S ⟨F,0,N⟩)]) w)
  (x:∀(B:Nat) (w:W) (F:Nat) (O:Nat->Prop) (vals:AM) (qb:Nat) (A:Option Addr) (c:Nat),Fi B w qb (L A ([]:List UInt8).length c) []->B<=w.heap.size->Q vals w F O->(∀k,O k->k<B)->Gd vals->DK vals->vals.length<=360->Calls prog M #[.agg #[.pointer (S ⟨F,0,N⟩)],.pointer (S ⟨qb,0,N⟩)] w λe w' =>e=R (.tuple #[])/\∃A' c',CH B w qb A' c' (Ld vals) w')
  (n:∀vals,Gd vals->DK vals->vals.length<=360->(Ld vals).length<=190000)
  (w q O)(vals:AM)(h:GZ a0 a1 a2 a3 a4 a5 a6 a7 a8 a9 a10 T Q Gd w q O vals)(o:DK vals)(g:vals.length<=360):
  Calls prog 26 #[.pointer (S ⟨q,0,N⟩)] w λe w' =>e=R (.tuple #[.string (bs (AW kn (Ld vals))),I J 0])/\Below w.heap.size w w' :=by
 obtain⟨F,D,d,Y,i,rfl⟩:=h;have AA:=n vals i o g;have s:=Fi.fresh w;have u:Below w.heap.size w (w.alloc (.cells #[L N 0 0] 109)):=Za;have K:=x w.heap.size (w.alloc (.cells #[L N 0 0] 109)) F D vals w.heap.size N 0 s (by simp) (C.next Y u) (C.lt Y) i o g;obtain⟨c0,c1,Aa⟩:=Ct d;have f:=hm F;have HH:=Zh d;have Ab:q≠w.heap.size:=by omega
 generalize Ld vals=ld at*;have Z:kn.toNat<256:=kn.toNat_lt;have e8:IntKind.u8.wrap a0=a0:=by rw[G,IntKind.wrap_u8];omega
 clear d Y i s x hm o g;go_enter func26,ntmps26;go_wp2_with fail;refine K.mono ?_;rintro e X ⟨rfl,A1,k1,p⟩;have j:Below w.heap.size w X:=u.trans p.below;have y:=HH.out.below j HH.out.lt;obtain⟨d0,d1,Ac⟩:=Ct y;have r:=Ii w.heap.size X.drew w.heap.size _ _ p.drew.qu;have H:=JO X.drew kn ld (by omega);rw[<-G]at H;clear K c0 c1 p y G;go_upto_region 5 with fail;rename_i KK;go_region_with(first|(go_at_call 40;refine r.mono ?_;rintro e w2 ⟨rfl,rfl⟩)|(go_at_call 39;refine H.mono ?_;rintro e w3 ⟨rfl,b3⟩));all_goals(
  refine KK _ _ ?_;clear r H f;go_wp2_with fail;go_ret2;exact⟨rfl,j.drew.trans (b3.mono j.size)⟩)
theorem Yc(w D s)(A:C prog 26 #[.pointer (S ⟨D,0,N⟩)] w λe w' =>e=R (.tuple #[.string (bs s),I J 0])/\B w.heap.size w w'):
  C prog 14 #[.pointer (S ⟨D,0,N⟩)] w λe w' =>e=R (.string (bs s))/\B w.heap.size w w' :=by
 go_enter func14,ntmps14;go_wp2_with fail;refine A.mono ?_;rintro e G ⟨rfl,F⟩;clear A;go_wp2_with fail;go_ret;exact⟨rfl,F⟩
theorem Et(C:Cz Q)(kn)(H:a0=((kn.toNat:Nat):Int))(vals:AM)(K:Gd vals)(ld)(AA:ld.length<=190000)
  (s:∀(w:World) (j:Nat),Sp.Tens w->CZ w j ld->Calls prog 33 #[I J a0,.pointer (S ⟨j,0,N⟩)] w (Hs (Ae a0 a1 a2 a3 a4 a5 a6 a7 a8 a9 a10) T (Q vals) w j))(w)(u:Sp.Tens w):
  Calls prog 19 #[.string (bs (AW kn ld))] w (OD (GZ a0 a1 a2 a3 a4 a5 a6 a7 a8 a9 a10 T Q Gd) vals w):=by
 have d:=Po w kn ld (by omega);have M:=λW=>Nx W ld;have g:kn.toNat<256:=kn.toNat_lt;rw[<-H]at d;have e8:J.wrap a0=a0:=by rw[H,gh];omega
 generalize AW kn ld=t at*;have x:=Zh K;clear H K;go_enter func19,ntmps19;go_wp2_with fail;refine d.mono ?_;rintro e A ⟨rfl,f⟩;clear d;go_wp2_with fail;refine(M _).mono ?_;rintro e w2 ⟨rfl,rfl⟩;clear M;have p:CZ (A.alloc (.cells #[.string (bs ld),.bool false] 153)) A.heap.size ld:=AI.newAt rfl;have n:Below w.heap.size w (A.alloc (.cells #[.string (bs ld),.bool false] 153)):=f.alloc f.size _;have h8:=f.size;have O:=s _ _ (u.next n) p;go_wp2_with fail;refine O.mono ?_;rintro e Y ⟨ok,po,rfl,A3,E3,q⟩;have c:Below w.heap.size w Y:=n.trans ((A3.below (B:=w.heap.size) n.size (λk Z e=>by omega)));clear s p O;have X:=c.size;unfold Ae;cases ok with
 |false=>
  go_wp2_with fail;go_ret2;exact⟨N,4,rfl,c.alloc X _,λh=>absurd h (by decide)⟩
 |true=>
  obtain⟨db,D,rfl,r,F⟩:=q rfl;have i:=λW (k:CZ W A.heap.size [])=>Ik W A.heap.size k;have y:CZ (Y.alloc (.cells #[I J a0,I U a1,I U a2,I J a3,I J a4,I J a5,I U a6,I J a7,I J a8,I J a9,I U a10] 28)) A.heap.size []:=AI.alloc E3 _;have hz:A.heap.size+1=(A.alloc (.cells #[.string (bs ld),.bool false] 153)).heap.size:=by simp
  have HN:=Zh (show∀k,D k->w.heap.size<=k from λk Z=>by have:=F k Z;omega);have HD:=Zh (C.next r ((Below.refl _ _).alloc (E _) (.cells #[I J a0,I U a1,I U a2,I J a3,I J a4,I J a5,I U a6,I J a7,I J a8,I J a9,I U a10] 28)));clear q r F hz;have G:=i _ y;go_wp2_with fail;refine G.mono ?_;rintro e w5 ⟨rfl,rfl⟩;clear G;go_wp2_with fail;go_ret2;have o:=c.alloc X (.cells #[I J a0,I U a1,I U a2,I J a3,I J a4,I J a5,I U a6,I J a7,I J a8,I J a9,I U a10] 28);refine⟨S ⟨(Y.alloc (.cells #[I J a0,I U a1,I U a2,I J a3,I J a4,I J a5,I U a6,I J a7,I J a8,I J a9,I U a10] 28)).heap.size,0,N⟩,0,?_,o.alloc o.size _,λ_=>⟨_,λk=>k=(Y.alloc (.cells #[I J a0,I U a1,I U a2,I J a3,I J a4,I J a5,I U a6,I J a7,I J a8,I J a9,I U a10] 28)).heap.size\/D k,rfl,⟨db,D,AI.newAt rfl,C.next HD.out (Za),x.out,rfl⟩,?_⟩⟩
  ·simp
  ·rintro k (rfl|Z)
   ·exact o.size
   ·exact HN.out k Z
theorem JB(C:Cz Q)(G:World->Nat->(Nat->Prop)->Prop)(ok:Prop)(g:∀W W' A O,G W A O->B W.heap.size W W' ->G W' A O)(p:∀W A O,G W A O->∀k,O k->k<W.heap.size)
  (h:∀W A O,Df a0 a1 a2 a3 a4 a5 a6 a7 a8 a9 a10 a0 (By a0 a1) (By a0 a2) (Dg a0 a3) (Dh a0 a4) (Bz a0 a5) (Bz a0 a6) (B6 a0 a7) (B6 a0 a8) (B7 a0 a9) (B7 a0 a10)=true->G W A O->Q [] W A O/\Gd [])
  (Y:∀W,Sp.Tens W->Calls prog 30 #[.agg #[I J a0,I U a1,I U a2,I J a3,I J a4,I J a5,I U a6,I J a7,I J a8,I J a9,I U a10]] W (Gs T G ok W))(w)(d:Sp.Tens w):
  Calls prog 17 #[.agg #[I J a0,I U a1,I U a2,I J a3,I J a4,I J a5,I U a6,I J a7,I J a8,I J a9,I U a10]] w λe w' =>OD (GZ a0 a1 a2 a3 a4 a5 a6 a7 a8 a9 a10 T Q Gd) [] w e w' /\(Df a0 a1 a2 a3 a4 a5 a6 a7 a8 a9 a10 a0 (By a0 a1) (By a0 a2) (Dg a0 a3) (Dh a0 a4) (Bz a0 a5) (Bz a0 a6) (B6 a0 a7) (B6 a0 a8) (B7 a0 a9) (B7 a0 a10)=true->ok->∃D O,e=R (.tuple #[.pointer (S ⟨D,0,N⟩),I J 0])/\B w.heap.size w w' /\GZ a0 a1 a2 a3 a4 a5 a6 a7 a8 a9 a10 T Q Gd w' D O []/\∀k,O k->w.heap.size<=k):=by
 refine(OJ w a0 a1 a2 a3 a4 a5 a6 a7 a8 a9 a10 T G ok g p λW b=>Y W (d.next b)).mono λe w' c=> ?_;obtain⟨po,F,rfl,hb,j,Z⟩:=c;have H:F=0->∃D O,po=S ⟨D,0,N⟩/\GZ a0 a1 a2 a3 a4 a5 a6 a7 a8 a9 a10 T Q Gd w' D O []/\∀k,O k->w.heap.size<=k:=λn=>by
  obtain⟨K,D,A,O,rfl,X,i,o,q⟩:=j n;obtain⟨q1,q2⟩:=h w' A O K i;refine⟨D,λk=>k=D\/O k,rfl,⟨A,O,X,q1,q2,rfl⟩,?_⟩;rintro k (rfl|X)
  ·exact q
  ·exact(o k X).1
 refine⟨⟨po,F,rfl,hb,H⟩,λK M=> ?_⟩;have f:=Z K M;subst f;obtain⟨D,O,rfl,a,b⟩:=H rfl;exact⟨D,O,rfl,hb,a,b⟩
end
theorem MY(w hb pb s0 s1 v0 v1 dg lim)(l0 l1:AL)(z lo hi ob qb t0 t1 u0 u1 lim2)(m0 m1:AL)(z2 lo2 hi2)
  (h:Cm w hb pb s0 s1 v0 v1 dg lim l0 l1 z lo hi)(k:Cm w ob qb t0 t1 u0 u1 dg lim2 m0 m1 z2 lo2 hi2)(D:C6 m0 m1 z2=0):
  Calls prog 246 #[P (S ⟨hb,0,N⟩),P (S ⟨ob,0,N⟩)] w λe w' =>e=R (I J 0)/\B w.heap.size w w' :=by
 have H:Ro w hb pb s0 s1 v0 v1 dg lim l0 l1 z lo hi ob qb t0 t1 u0 u1 dg lim2 m0 m1 z2 lo2 hi2 w:=⟨h,k,B.refl _ _⟩;have A:=λW (x:Cm W ob qb t0 t1 u0 u1 dg lim2 m0 m1 z2 lo2 hi2)=>Cf W ob qb t0 t1 u0 u1 dg lim2 m0 m1 z2 lo2 hi2 x (by omega);rw[D]at A;clear h k D;go_enter func246,ntmps246;go_upto_region 3 with fail;refine AG (C:=Ro w hb pb s0 s1 v0 v1 dg lim l0 l1 z lo hi ob qb t0 t1 u0 u1 dg lim2 m0 m1 z2 lo2 hi2) (by kernel_rfl) (by kernel_rfl) H.drew ?_;repeat go_big_quiet_step(exact λ_=>rfl)
 go_big_quiet_want;refine⟨I J dg,λc M=> ?_,?_⟩
 ·obtain⟨q,d,f,i,p,j,o,Z,g,n,X⟩:=M.hd.cells;go_simp
 go_big_quiet_on;simp only[Pa,Zp,Zq,Zr];repeat go_big_quiet_step(exact λ_=>rfl)
 go_big_quiet_want;refine⟨I J dg,λc M=> ?_,?_⟩
 ·obtain⟨q,d,f,i,p,j,o,Z,g,n,X⟩:=M.oth.cells;go_simp
 go_big_quiet_on;simp only[Pa,Zp,Zq,Zr];repeat go_big_quiet_step(exact λ_=>rfl)
 refine wpQuiet_nil ?_;intro W1 K;clear H;have G:=A W1 K.oth;have F:=Zh K.below;clear K A;go_wp2_with fail;refine G.mono ?_;rintro e r ⟨rfl,O⟩;have Y:=Zh (F.out.trans (O.mono F.out.size));clear G O;go_wp2_with fail;go_ret;exact⟨rfl,Y.out⟩
theorem Qr{a b:AM}(D:Ia a)(hb:Ia b)(F:b≠ []):JU (BH a) (DH a) (DH b)=DH (a++b):=by
 have G:=D.le;unfold JU;by_cases A:a=[]
 ·subst A;rfl
 ·rw[if_neg,P8 a b A F];have:1<=a.length:=by cases a with|nil=>exact absurd rfl A|cons x l=>simp
  omega
theorem Qs{a b:AM}(D:Ia a)(hb:Ia b)(F:b≠ []):JV (BH a) (DI a) (DI b)=DI (a++b):=by
 have G:=D.le;unfold JV;by_cases A:a=[]
 ·subst A;rfl
 ·rw[if_neg,P9 a b A F];have:1<=a.length:=by cases a with|nil=>exact absurd rfl A|cons x l=>simp
  omega
theorem EY{b:AM}(hb:Ia b):Am (DH b)/\Am (DI b):=by
 by_cases A:b=[]
 ·subst A;exact⟨by show Am 0;unfold Am;omega,by show Am 0;unfold Am;omega⟩
 ·obtain⟨x,F,e⟩:=(Fo b A).1;obtain⟨y,D,G⟩:=(Fp b A).1;exact⟨e▸(hb x F).1,G ▸(hb y D).1⟩
theorem Yd(w dg lim)(u:0<=lim)(a b:AM)(M ob O N)(h:Kc dg lim a w M O)(k:Kc dg lim b w ob N)(c:∀i,O i->¬N i)(K:Ia a)(hb:Ia b)(q:∀x∈b,VA lim x=true)(p:a.length+b.length<=360):
  C prog 246 #[P (S ⟨M,0,none⟩),P (S ⟨ob,0,none⟩)] w (Dv (Kc dg lim) w M O a b):=by
 have Y:=h;obtain⟨pb,s0,s1,v0,v1,n,rfl⟩:=h;obtain⟨qb,t0,t1,u0,u1,o,rfl⟩:=k;have H:=El dg a;have D:=El dg b;have la:=K.le;have lb:=hb.le;by_cases F:b=[]
 ·subst F;refine(MY w M pb s0 s1 v0 v1 dg lim _ _ _ _ _ ob qb t0 t1 u0 u1 lim _ _ _ _ _ n o (by rw[D];rfl)).mono λe w' f=> ?_;obtain⟨rfl,b⟩:=f;exact⟨0,_,rfl,λ_=>by rw[gT];exact Y.next b,λ_ h=>.inl h,AD.of_below b⟩
 ·obtain⟨e1,s⟩:=EY hb;have d:1<=b.length:=by cases b with|nil=>exact absurd rfl F|cons x l=>simp
  have G:lim=0\/max (Sg.mag (DH b)) (Sg.mag (DI b))<=lim:=by
   by_cases Y:lim=0
   ·exact .inl Y
   ·obtain⟨x,A,e⟩:=(Fo b F).1;obtain⟨y,hy,r⟩:=(Fp b F).1;have q1:=((Iz lim x).1 (q x A)).2;have q2:=((Iz lim y).1 (q y hy)).2;rw[e]at q1;rw[r]at q2;right;omega
  have z0:=IQ (Fa dg) a;have z1:=IQ (hf1 dg) a;have z2:=IQ (Fa dg) b;have z3:=IQ (hf1 dg) b;refine(Oj w M pb s0 s1 v0 v1 dg lim _ _ _ _ _ ob qb t0 t1 u0 u1 lim _ _ _ _ _ n o c e1 s u G (by omega) (by omega) (by rw[H,D];omega) (by rw[D];omega)).mono λe w' f=> ?_;obtain⟨rfl,g,j,X,hs,Z⟩:=f;refine⟨0,_,rfl,λ_=>⟨pb,s0,s1,g,j,?_,rfl⟩,hs,Z⟩;rw[H,Qr K hb F,Qs K hb F]at X;rw[F8 _ _ _ (λx A=>(K x A).2.1) (λx A=>(hb x A).2.1),F8 _ _ _ (λx A=>(K x A).2.1) (λx A=>(hb x A).2.1),DL];exact X
theorem VP(ob w):(Instr.typeAssert (.iface 129 (.agg #[P (S ⟨ob,0,N⟩)])) 74 129 false).run prog w=.ok (.agg #[P (S ⟨ob,0,N⟩)]) w:=by kernel_rfl
theorem Ye(ob w):(Instr.field 129 (.agg #[P (S ⟨ob,0,N⟩)]) 0).run prog w=.ok (P (S ⟨ob,0,N⟩)) w:=by kernel_rfl
def Qt(Q:Ending->W->Prop)(e:Ending)(w:W):Prop:=Q e w
structure VQ(w:World)(b db:Nat)(T:TypeId)(W:World):Prop where
 blk:AI W b #[P (S ⟨db,0,N⟩)] T
 below:B w.heap.size w W
theorem VQ.drew{w W b A T}(h:VQ w b A T W):VQ w b A T W.drew:=⟨h.blk.drew,h.below.drew⟩
theorem Ok(w D ob Q)(F:∀W,B w.heap.size w W->Calls prog 246 #[P (S ⟨D,0,N⟩),P (S ⟨ob,0,N⟩)] W λe w' =>(∃A,e=R (I J A))/\Q e w'):
  Calls prog 242 #[.agg #[P (S ⟨D,0,N⟩)],.iface 129 (.agg #[P (S ⟨ob,0,N⟩)])] w (Qt Q):=by
 have H:VQ w w.heap.size D 129 (w.alloc (.cells #[P (S ⟨D,0,N⟩)] 129)):=⟨AI.newAt rfl,Za⟩;have c:=VP ob;have d:=Ye ob;have O:=Zh F;clear F;go_enter func242,ntmps242;go_upto_region 1 with fail;refine AS 5 (C:=VQ w w.heap.size D 129) (by kernel_rfl) (by kernel_rfl) H.drew ?_;simp only[fa,dT,fx,fy];repeat go_big_quiet_step(exact λ_=>rfl)
 go_big_quiet_want;refine⟨P (S ⟨D,0,N⟩),λX Z=> ?_,?_⟩
 ·have f:X.cell? ⟨w.heap.size,0,N⟩=S (P (S ⟨D,0,N⟩)):=Z.blk.cell rfl;go_simp
 go_big_quiet_on;simp only[Pa,Zp,Zq,Zr];repeat go_big_quiet_step(exact λ_=>rfl)
 refine wpQuiet_nil ?_;intro M G;have K:=O.out M G.below;clear H G;go_wp2_with fail;refine K.mono ?_;rintro e g ⟨⟨A,rfl⟩,q⟩;have Y:=Zh q;clear K q;go_wp2_with fail;go_ret;exact Y.out
def GP(num den n:Nat)(x:Int):Option Nat:=if x<0 then S (PU num den n (Sg.mag x).toNat)else N
def GQ(num den n:Nat)(x:Int):Option Nat:=if 0<x then S (PU num den n (Sg.mag x).toNat)else N
theorem Eu(num den n)(l:AM):AY (GP num den n) l+AY Fb l+AY (GQ num den n) l=BH l:=by
 induction l with
 |nil=>rfl
 |cons x l G=>
  simp only[AY,BH];rcases gi x.1 0 with h|h|h
  ·have A:GP num den n x.1=S (PU num den n (Sg.mag x.1).toNat):=by unfold GP;rw[if_pos h]
   have D:Fb x.1=none:=by unfold Fb;rw[if_neg (by omega)]
   have F:GQ num den n x.1=none:=by unfold GQ;rw[if_neg (by omega)]
   rw[A,D,F];simp;omega
  ·have A:GP num den n x.1=none:=by unfold GP;rw[if_neg (by omega)]
   have D:Fb x.1=S 0:=by unfold Fb;rw[if_pos h]
   have F:GQ num den n x.1=none:=by unfold GQ;rw[if_neg (by omega)]
   rw[A,D,F];simp;omega
  ·have A:GP num den n x.1=none:=by unfold GP;rw[if_neg (by omega)]
   have D:Fb x.1=none:=by unfold Fb;rw[if_neg (by omega)]
   have F:GQ num den n x.1=S (PU num den n (Sg.mag x.1).toNat):=by unfold GQ;rw[if_pos h]
   rw[A,D,F];simp;omega
theorem JC{num den n}(A:IS num den n){x i}(h:GP num den n x=S i):i<4096:=by
 unfold GP at h;split at h
 ·injection h with h;have:=Sg.mag_or x;rw[<-h];exact es (OK A.pos (by omega)) A.1
 ·cases h
theorem JD{num den n}(A:IS num den n){x i}(h:GQ num den n x=S i):i<4096:=by
 unfold GQ at h;split at h
 ·injection h with h;have:=Sg.mag_or x;rw[<-h];exact es (OK A.pos (by omega)) A.1
 ·cases h
def DA(hi:Bool)(M:Nat)(f:Int->Option Nat)(vals:AM):AL:=DW hi M (BS f vals)
theorem EP{hi M}(A:1<=M)(f){vals:AM}(h:Ia vals):(DA hi M f vals).length<=M:=QO A (BK f vals) (Cq f vals λx D=>(h x D).2.1)
theorem NI{hi M}(D:1<=M)(f){vals:AM}(h:Ia vals){x:Int×Nat}(A:1<=x.2){i}(e:f x.1=S i):CF hi M (DA hi M f vals) i x.2=DA hi M f (vals++ [x]):=by
 unfold DA;rw[Tx D (BK f vals) (Cq f vals λx A=>(h x A).2.1) i x.2 A,C7];unfold Bp;rw[e]
theorem Ht{hi M}(f)(vals:AM){x:Int×Nat}(e:f x.1=N):DA hi M f (vals++ [x])=DA hi M f vals:=by
 unfold DA;rw[C7];unfold Bp;rw[e]
theorem Jg{hi M}(F:1<=M)(f){a b:AM}(D:Ia a)(hb:Ia b):BE hi M (DA hi M f a) (DA hi M f b)=DA hi M f (a++b):=by
 unfold DA;rw[F8 f a b (λx A=>(D x A).2.1) (λx A=>(hb x A).2.1)];exact VC F (BK f a) (Cq f a λx A=>(D x A).2.1) (BK f b) (Cq f b λx A=>(hb x A).2.1)
theorem Jh{hi M}(F:1<=M)(f){a b:AM}(D:Ia a)(hb:Ia b)(q):(BE hi M (DA hi M f a) ((DA hi M f b).take q)).length<=M:=
 SQ F (BK f a) (Cq f a λx A=>(D x A).2.1) (Cg (Cq f b λx A=>(hb x A).2.1)) q
theorem EC{f}{vals:AM}{x:Int×Nat}{i}(e:f x.1=S i):AY f (vals++ [x])=AY f vals+x.2:=by rw[EL,e];rfl
theorem CC{f}{vals:AM}{x:Int×Nat}(e:f x.1=N):AY f (vals++ [x])=AY f vals:=by rw[EL,e];rfl
def Qu(hi:Bool)(M num den:Nat)(vals:AM)(W:World)(db:Nat)(O:Nat->Prop):Prop:=
 ∃n bb tb vl vr ca cc Oa Oc,IS num den n/\Bm hi M num den n W db bb tb vl vr ca cc Oa Oc (DA hi M (GP num den n) vals) (DA hi M (GQ num den n) vals) (AY (GP num den n) vals) (AY (GQ num den n) vals) (AY Fb vals) (DH vals) (DI vals)/\O=Dm db bb tb vl vr Oa Oc
def Hu(x:Int×Nat):Bool:=decide (1<=x.2)
theorem Ji(hi M num den):Cz (Qu hi M num den)where
 next:=λh b=>by
  obtain⟨n,X,F,K,O,c,G,H,Y,Z,D,g⟩:=h
  exact⟨n,X,F,K,O,c,G,H,Y,Z,D.next b,g⟩
 away:=λh p i=>by
  obtain⟨n,X,F,K,O,c,G,H,Y,Z,D,rfl⟩:=h
  exact⟨n,X,F,K,O,c,G,H,Y,Z,D.away p i,rfl⟩
 lt:=λh=>by
  obtain⟨n,X,F,K,O,c,G,H,Y,Z,D,rfl⟩:=h
  exact D.lt
 ty:=λh k j r=>by
  obtain⟨n,X,F,K,O,c,G,H,Y,Z,D,rfl⟩:=h
  obtain⟨f,t,d,o⟩:=D.ty k j
  have A:∀T,(T=59\/T=34\/T=76)->¬AI _ k r T:=λT q hb=>by
   refine(d.ne hb ?_) rfl
   rcases o with e|e|e|e|e|e|e<;>subst e<;>rcases q with rfl|rfl|rfl<;>cases hi<;>decide
  exact⟨A 59 (.inl rfl),A 34 (.inr (.inl rfl)),A 76 (.inr (.inr rfl))⟩
theorem au(hi M num den)(D:1<=M)(f:M<=4096)(w)(vals:AM)(db O)(h:Qu hi M num den vals w db O)(Z:Ia vals)(AA:vals.length<360)(x:Int×Nat)(hx:Am x.1)(hc:x.2<=20):
  C prog 209 #[P (S ⟨db,0,N⟩),I J x.1,I U (x.2:Nat)] w (JY (Qu hi M num den) Hu w db O vals x):=by
 obtain⟨n,bb,tb,vl,vr,ca,cc,Oa,Oc,o,hd,rfl⟩:=h;have hT:=Eu num den n vals;have Aa:=Z.le;have j:=QF Z x;have d:=QG Z x;have c:=o.pos;have g:=o.1;have l0:=EP (hi:=hi) D (GP num den n) Z;have l1:=EP (hi:=hi) D (GQ num den n) Z;by_cases p:x.2=0
 ·refine(by rw[p];exact Qq _ _ _ _ _ _ _ _ _ _ _ _ _ _ _ _ _ hd (by omega) x.1:C prog 209 #[P (S ⟨db,0,N⟩),I J x.1,I U (x.2:Nat)] w _).mono ?_;rintro e w' ⟨rfl,A,i⟩;have H:Hu x=false:=by unfold Hu;simp[p]
  exact⟨1,_,rfl,by rw[H];simp,by rw[H];exact⟨n,bb,tb,vl,vr,ca,cc,Oa,Oc,o,A,rfl⟩,λ_ h=>.inl h,i.mono λk _ e=>.inl e⟩
 have F:1<=x.2:=by omega
 have H:Hu x=true:=by unfold Hu;simp;omega
 have q :Ia (vals++ [x]):=Z.snoc ⟨hx,F,hc⟩;rcases gi x.1 0 with X|X|X
 ·have K:GP num den n x.1=S (PU num den n (Sg.mag x.1).toNat):=by unfold GP;rw[if_pos X]
  have e1:Fb x.1=none:=by unfold Fb;rw[if_neg (by omega)]
  have Y:GQ num den n x.1=none:=by unfold GQ;rw[if_neg (by omega)]
  have r:=NI (hi:=hi) D (GP num den n) Z F K;have G:=EP (hi:=hi) D (GP num den n) q;rw[<-r]at G;refine(Ss _ _ _ _ _ _ _ _ _ _ _ _ _ _ _ _ _ hd (by omega) x.1 x.2 _ _ _ _ _ λW k=>So D f c g _ _ _ _ _ _ _ _ _ _ _ _ _ _ k x.1 hx X x.2 F (by omega) G l0).mono ?_;rintro e w' ⟨rfl,s,u,A,y,i⟩;refine⟨0,_,rfl,by rw[H];simp,?_,y,i⟩;rw[H,if_pos rfl];refine⟨n,bb,tb,vl,vr,ca,cc,s,u,o,?_,rfl⟩;rw[hT,j,d]at A;rw[<-r,Ht _ _ Y,EC K,CC Y,CC e1];exact A
 ·have K:GP num den n x.1=none:=by unfold GP;rw[if_neg (by omega)]
  have e1:Fb x.1=S 0:=by unfold Fb;rw[if_pos X]
  have Y:GQ num den n x.1=none:=by unfold GQ;rw[if_neg (by omega)]
  refine(Ss _ _ _ _ _ _ _ _ _ _ _ _ _ _ _ _ _ hd (by omega) x.1 x.2 _ _ _ _ _ λW k=>Qo D f c g _ _ _ _ _ _ _ _ _ _ _ _ _ _ k x.1 hx X x.2 F (by omega)).mono ?_;rintro e w' ⟨rfl,s,u,A,y,i⟩;refine⟨0,_,rfl,by rw[H];simp,?_,y,i⟩;rw[H,if_pos rfl];refine⟨n,bb,tb,vl,vr,ca,cc,s,u,o,?_,rfl⟩;rw[hT,j,d]at A;rw[Ht _ _ K,Ht _ _ Y,CC K,CC Y,EC e1];exact A
 ·have K:GP num den n x.1=none:=by unfold GP;rw[if_neg (by omega)]
  have e1:Fb x.1=none:=by unfold Fb;rw[if_neg (by omega)]
  have Y:GQ num den n x.1=S (PU num den n (Sg.mag x.1).toNat):=by unfold GQ;rw[if_pos X]
  have r:=NI (hi:=hi) D (GQ num den n) Z F Y;have G:=EP (hi:=hi) D (GQ num den n) q;rw[<-r]at G;refine(Ss _ _ _ _ _ _ _ _ _ _ _ _ _ _ _ _ _ hd (by omega) x.1 x.2 _ _ _ _ _ λW k=>Sr D f c g _ _ _ _ _ _ _ _ _ _ _ _ _ _ k x.1 hx X x.2 F (by omega) G l1).mono ?_;rintro e w' ⟨rfl,s,u,A,y,i⟩;refine⟨0,_,rfl,by rw[H];simp,?_,y,i⟩;rw[H,if_pos rfl];refine⟨n,bb,tb,vl,vr,ca,cc,s,u,o,?_,rfl⟩;rw[hT,j,d]at A;rw[<-r,Ht _ _ K,CC K,EC Y,CC e1];exact A
theorem Yf(hi M num den)(D:1<=M)(AA:M<=4096)(w)(a b:AM)(F ob O N)(h:Qu hi M num den a w F O)(k:Qu hi M num den b w ob N)(u:∀i,O i->¬N i)(Z:Ia a)(hb:Ia b)(Ac:a.length+b.length<=360):
  C prog 222 #[P (S ⟨F,0,none⟩),P (S ⟨ob,0,none⟩)] w (Dv (Qu hi M num den) w F O a b):=by
 have h0:=h;obtain⟨n,G,H,X,Y,f,d,j,p,ht,hd,rfl⟩:=h;obtain⟨A,cb,ub,ul,ur,da,dc,Na,Nc,Aa,kd,rfl⟩:=k;have e:=Aa.uniq ht;subst e;have Ab:=Eu num den A a;have Al:=Eu num den A b;have la:=Z.le;have lb:=hb.le;by_cases r:b=[]
 ·subst r;have hz:BH ([]:AM)=0:=rfl;have K:C prog 222 #[P (S ⟨F,0,none⟩),P (S ⟨ob,0,none⟩)] w λe w' =>e=R (I J 0)/\B w.heap.size w w' :=by
   exact Oi w F G H X Y f d j p _ _ _ _ _ _ _ hd A ob cb ub ul ur da dc Na Nc _ _ _ _ _ _ _ kd (by omega)
  refine K.mono λe w' hh=> ?_;obtain⟨rfl,bl⟩:=hh;exact⟨0,_,rfl,λ_=>by rw[gT];exact(Ji hi M num den).next h0 bl,λ_ h=>.inl h,AD.of_below bl⟩
 ·have y:1<=b.length:=by cases b with|nil=>exact absurd rfl r|cons x l=>simp
  have K:C prog 222 #[P (S ⟨F,0,none⟩),P (S ⟨ob,0,none⟩)] w λe w' =>e=R (I J 0)/\∃g o,Bm hi M num den A w' F G H X Y f d g o (BE hi M (DA hi M (GP num den A) a) (DA hi M (GP num den A) b)) (BE hi M (DA hi M (GQ num den A) a) (DA hi M (GQ num den A) b)) (AY (GP num den A) a+AY (GP num den A) b) (AY (GQ num den A) a+AY (GQ num den A) b) (AY Fb a+AY Fb b) (JU (AY (GP num den A) a+AY Fb a+AY (GQ num den A) a) (DH a) (DH b)) (JV (AY (GP num den A) a+AY Fb a+AY (GQ num den A) a) (DI a) (DI b))/\BV w (Dm F G H X Y j p) (Dm F G H X Y g o)/\AD (Dm F G H X Y j p) w w' :=by
   have q0:=λq=>Jh (hi:=hi) D (GP num den A) Z hb q;have q1:=λq=>Jh (hi:=hi) D (GQ num den A) Z hb q;have m0:=EP (hi:=hi) D (GP num den A) hb;have m1:=EP (hi:=hi) D (GQ num den A) hb;exact aq D AA w F G H X Y f d j p _ _ _ _ _ _ _ hd A ob cb ub ul ur da dc Na Nc _ _ _ _ _ _ _ kd u (by omega) (by omega) q0 q1 (by omega) (by omega)
  refine K.mono λe w' hh=> ?_;obtain⟨rfl,g,o,c,hs,s⟩:=hh;refine⟨0,_,rfl,λ_=>⟨A,G,H,X,Y,f,d,g,o,ht,?_,rfl⟩,hs,s⟩;rw[Ab,Qr Z hb r,Qs Z hb r,Jg D _ Z hb,Jg D _ Z hb]at c;rw[DL,DL,DL];exact c
theorem VR(ob w):(Instr.typeAssert (.iface 122 (.agg #[P (S ⟨ob,0,N⟩)])) 74 122 false).run prog w=.ok (.agg #[P (S ⟨ob,0,N⟩)]) w:=by kernel_rfl
theorem Yg(ob w):(Instr.field 122 (.agg #[P (S ⟨ob,0,N⟩)]) 0).run prog w=.ok (P (S ⟨ob,0,N⟩)) w:=by kernel_rfl
theorem Ol(w D ob Q)(F:∀W,B w.heap.size w W->Calls prog 222 #[P (S ⟨D,0,N⟩),P (S ⟨ob,0,N⟩)] W λe w' =>(∃A,e=R (I J A))/\Q e w'):
  Calls prog 218 #[.agg #[P (S ⟨D,0,N⟩)],.iface 122 (.agg #[P (S ⟨ob,0,N⟩)])] w (Qt Q):=by
 have H:VQ w w.heap.size D 122 (w.alloc (.cells #[P (S ⟨D,0,N⟩)] 122)):=⟨AI.newAt rfl,Za⟩;have c:=VR ob;have d:=Yg ob;have O:=Zh F;clear F;go_enter func218,ntmps218;go_upto_region 1 with fail;refine AS 5 (C:=VQ w w.heap.size D 122) (by kernel_rfl) (by kernel_rfl) H.drew ?_;simp only[fa,dT,fx,fy];repeat go_big_quiet_step(exact λ_=>rfl)
 go_big_quiet_want;refine⟨P (S ⟨D,0,N⟩),λX Z=> ?_,?_⟩
 ·have f:X.cell? ⟨w.heap.size,0,N⟩=S (P (S ⟨D,0,N⟩)):=Z.blk.cell rfl;go_simp
 go_big_quiet_on;simp only[Pa,Zp,Zq,Zr];repeat go_big_quiet_step(exact λ_=>rfl)
 refine wpQuiet_nil ?_;intro M G;have K:=O.out M G.below;clear H G;go_wp2_with fail;refine K.mono ?_;rintro e g ⟨⟨A,rfl⟩,q⟩;have Y:=Zh q;clear K q;go_wp2_with fail;go_ret;exact Y.out
theorem Su(w v)(l:List Af)(h:w.ownsRow 0 207 3 v l.length (Ad l))(D:l.length<=1000000):
  C prog 367 #[v] w λe w' =>∃v',e=R v' /\w'.ownsRow w.heap.size 207 3 v' l.length (Ad l)/\B w.heap.size w w' :=by
 have q:∀(w:W) (a:Option Addr) (n c O c' :Nat),(binOp .eql 186 (L a n c) (L N O c')).run prog w=.ok (.bool a.isNone) w:=λw a n c O c' =>Lib.run_eql_slice_nil w _ _ a n c O c' underlying186;rcases AH h with⟨rfl,G,_⟩|⟨g,Y,rfl,M,d,_,x⟩
 ·obtain rfl:l=[]:=fj G;go_enter func367,ntmps367;go_wp2;go_ret;exact⟨_,rfl,W.ownsRow_nil _ _ _ _,B.refl _ _⟩
 ·have H:=Zh h;clear h;obtain⟨r,hi,X,Z,K⟩:=info_parts FM;obtain⟨n,G⟩:∃n,n=l.length:=⟨_,rfl⟩;rw[<-G]at D M⊢;have i:=Zh G;clear G;go_enter func367,ntmps367;go_wp2_with(at_builtin;refine wpList_append_own _ rfl _ _ 186 rfl w.heap.size 207 r _ 3 24 underlying186 hi X Z K rfl (by decide) _ _ _ rfl (W.ownsRow_made w #[] 0 (E _) (NW _) (by simp)) ⟨g,0,N⟩ n Y (Ad l) rfl ?qc1 ?qc2 ?qc3 ?qc4 ?qc5 ?qc6 ?_);case qc1=>rw[OS,i.out]
  case qc2=>
   intro j u o;rw[RR];exact Lib.cell?_alloc_some _ (by rw[Q0];have:=H.out.cells (g:=g) rfl j u o;rwa [RR,Q0]at this)
  case qc3=>exact Hq l
  case qc4=>unfold maxLen;omega
  case qc5=>omega
  case qc6=>simp
  intro v' s F A f;go_wp2;go_ret;refine⟨v',rfl,by simpa using F,?_⟩;exact((B.refl _ w).alloc (E _) _).grown A (by simp) (by intro k p;simp[V.ownBlock]at p;omega)
theorem NJ(w)(most:Nat)(D:2<=most)(A:most<=64):
  C prog 45 #[I J most] w λe w' =>e=R (T #[P (S ⟨w.heap.size,0,N⟩),I J 0])/\w' =w.alloc (.cells #[I J most,L N 0 0,I U 0] 188):=by
 have G:decide ((most:Int)<2)=false:=by simp;omega
 have F:decide ((64:Int)<(most:Int))=false:=by simp;omega
 clear D A;go_enter func45,ntmps45;go_wp2_with fail;go_ret2;exact⟨rfl,rfl⟩
theorem MZ(w most)(h:most<2\/64<most):
  C prog 45 #[I J most] w λe w' =>e=R (T #[P N,I J 1])/\w' =w:=by
 by_cases A:most<2
 ·have D:decide (most<2)=true:=by simp;omega
  clear h A;go_enter func45,ntmps45;go_wp2_with fail;go_ret2;exact⟨rfl,rfl⟩
 ·have D:decide (most<2)=false:=by simp;omega
  have F:decide (64<most)=true:=by simp;omega
  clear h A;go_enter func45,ntmps45;go_wp2_with fail;go_ret2;exact⟨rfl,rfl⟩
section
variable {most:Nat} {w w' W:World} {sb:Nat} {v v' :V} {l:List Af} {t:Nat}
theorem VS(h:I3 most w sb v l t):C prog 366 #[P (S ⟨sb,0,N⟩)] w λe w' =>e=R (I J most)/\w=w' :=by
 obtain⟨G,H,A,f1,D,F⟩:=h.cells;clear h;go_enter func366,ntmps366;go_wp2_with fail;go_ret;exact⟨rfl,rfl⟩
theorem NK(h:I3 most w sb v l t)(F:l.length<=100000):C prog 365 #[P (S ⟨sb,0,N⟩)] w λe w' =>∃v',e=R v' /\w'.ownsRow w.heap.size 207 3 v' l.length (Ad l)/\B w.heap.size w w' :=by
 obtain⟨O,X,Y,f1,Z,d⟩:=h.cells;have K:=Su w v l h.own (by omega);obtain⟨A,c,rfl⟩:=AF h.own;clear h;go_enter func365,ntmps365;go_wp2_with fail;refine K.mono ?_;rintro e M ⟨v1,rfl,G,D⟩;have H:=Zh (Zi G D);clear K G D;go_wp2_with fail;go_ret;exact⟨v1,rfl,H.out.1,H.out.2⟩
structure Ga(sb:Nat)(w:World)(v:V)(w' :World)(v' :V):Prop where
 away:AD (λk=>k=sb\/v.ownBlock=S k) w w'
 kin:FA w v v'
theorem Ga.refl(sb w v):Ga sb w v w v:=⟨AD.refl _ _,.inl rfl⟩
theorem Ga.of_below(b:B w.heap.size w w'):Ga sb w v w' v:=⟨AD.of_below b,.inl rfl⟩
theorem Ga.trans{A F v1 D}(h:Ga sb w v A v1)(k:Ga sb A v1 F D):Ga sb w v F D:=by
 refine⟨h.away.trans' k.away (λ_ _ h=>h) λj K e=> ?_,?_⟩
 ·rcases e with e|e
  ·exact .inl e
  ·rcases h.kin with q|⟨i,q1,q2⟩
   ·exact .inr (by rw[<-q];exact e)
   ·have:i=j:=by rw[q1]at e;exact gj e
    omega
 ·rcases k.kin with n|⟨j,G,H⟩
  ·rcases h.kin with q|q
   ·exact .inl (by rw[n,q])
   ·exact .inr (by rw[n];exact q)
  ·exact .inr ⟨j,G,aw h.away.size H⟩
theorem Ga.next{A D v1}(h:Ga sb w v A v1)(b:B A.heap.size A D):Ga sb w v D v1:=h.trans (Ga.of_below b)
end
def KY(sb:Nat)(v:V)(k:Nat):Prop:=k=sb\/v.ownBlock=S k
theorem Ga.sub{sb w w' v v'}(h:Ga sb w v w' v'):BV w (KY sb v) (KY sb v'):=λk A=>by
 rcases A with A|A
 ·exact .inl (.inl A)
 ·rcases h.kin with q|⟨i,q1,q2⟩
  ·exact .inl (.inr (by rw[<-q];exact A))
  ·have:i=k:=by rw[q1]at A;exact gj A
   exact .inr (by omega)
theorem Bo:∀(l:AM),DK l->BH l<=20*l.length
 | [],_=>E _
 |x::l,h=>by
  have D:=Bo l λy A=>h y (fk _ A)
  have F:=(h x (fp ..)).2
  simp only[BH,bw]
  omega
def Om(most:Nat)(vals:AM)(W:World)(db:Nat)(O:Nat->Prop):Prop:=
 ∃v l,I3 most W db v l (BH vals)/\Bl l=BH vals/\(∀y∈l,Kg y)/\l.length<=most/\O=KY db v
theorem Lo(most):Cz (Om most)where
 next:=by
  rintro W W' X O vals ⟨v,l,h,K,A,F,rfl⟩ b
  exact⟨v,l,h.next b,K,A,F,rfl⟩
 away:=by
  rintro W W' X O G vals ⟨v,l,h,K,A,F,rfl⟩ a n
  exact⟨v,l,h.away a (n _ (.inl rfl)) λg c=>n _ (.inr c),K,A,F,rfl⟩
 lt:=by
  rintro W X O vals ⟨v,l,h,K,A,F,rfl⟩ k (rfl|H)
  ·exact h.blk.lt
  ·exact(h.own.lt k H).2
 ty:=by
  rintro W X O vals ⟨v,l,h,K,A,F,rfl⟩ k H e
  have M:∃D t,AI W k D t/\(t=188\/t=207):=by
   rcases H with rfl|H
   ·exact⟨_,_,h.blk,.inl rfl⟩
   ·obtain⟨Y,d⟩:=AJ h.own H
    exact⟨_,_,d,.inr rfl⟩
  obtain⟨D,t,hb,Z⟩:=M
  refine⟨λh=>(hb.ne h ?_) rfl,λh=>(hb.ne h ?_) rfl,λh=>(hb.ne h ?_) rfl⟩<;>rcases Z with rfl|rfl<;>decide
theorem dQ(most)(hm:2<=most)(s:most<=64)(w)(vals:AM)(A O)(h:Om most vals w A O)(hv:DK vals)(d:vals.length<360)(x:Int×Nat)(hx:Am x.1)(hc:x.2<=20):
  Calls prog 345 #[P (S ⟨A,0,N⟩),I J x.1,I U (x.2:Nat)] w (JY (Om most) Hu w A O vals x):=by
 have Z:=h;obtain⟨v,l,h,n,p,y,rfl⟩:=h;obtain⟨X,C⟩:=x;have i:=Bo vals hv;by_cases u:C=0
 ·subst u;have K:Hu (X,0)=false:=by unfold Hu;simp
  have D:=Zh (show JY (Om most) Hu w A (KY A v) vals (X,0) (R (I J 1)) w from⟨1,_,rfl,by rw[K];simp,by rw[K];exact Z,λ_ h=>.inl h,AD.refl _ _⟩);clear h Z n p y K;go_enter func345,ntmps345;go_wp2_with fail;go_ret;exact D.out
 ·have K:Hu (X,C)=true:=by unfold Hu;simp;omega
  have g1:((C:Int)==0)=false:=by simp[u]
  obtain⟨c0,c1,c2,f1,f2,cl⟩:=h.cells;simp only at hx hc⊢;obtain⟨t,o⟩:∃t,t=BH vals:=⟨_,rfl⟩;have F:=Zh (show BH (vals++ [(X,C)])=t+C by rw[o,Cn];simp[BH]);rw[<-o]at h n i c2;have AA:t+C<=7220:=by omega
  have Y:=λW b Z h1=>Az W b t C (by omega) Z h1;have r:B w.heap.size w (w.alloc (.cells #[I U t,I U C] 23)):=Za;have G:=OY _ A v l t (C,X,X) (h.next r) (by omega) (by simp only;omega) (by simp only;omega);have j:=Zh (Zi p (Zi n (Zi y (Zi hm (show Kg (C,X,X)from⟨by simp only;omega,hx,hx⟩)))));have HP:=Zh K;have g:=Zh (show l.length<=64 by omega);have M:=Zh (Ga.of_below (sb:=A) (v:=v) r);clear h Z n p y hm K i d hv o r u s;go_enter func345,ntmps345;go_wp2_with fail;refine(Y _ _ (by simp) (by simp)).mono ?_;rintro e w1 ⟨rfl,rfl⟩;clear Y;go_wp2_with fail;refine G.mono ?_;rintro e w2 ⟨rfl,v1,l1,H1,k,A1,K1⟩;have f:=M0 w2 A v1 l1 (t+C) H1 j.out.2.2.2.1 (by have:=k.2.1;have:=g.out;omega) (by rw[k.1,j.out.2.1]) (by omega);have c:=Zh (Zi k (M.out.trans ⟨A1,K1⟩));clear G H1 k A1 K1 M c0 c1 c2;go_wp2_with fail;refine f.mono ?_;rintro e w3 ⟨rfl,v2,l2,H,q⟩;have D:JY (Om most) Hu w A (KY A v) vals (X,C) (R (I J 0)) w3:=by
   have st:=c.out.2.trans ⟨H.away,H.kin⟩;refine⟨0,KY A v2,rfl,by rw[HP.out];simp,?_,st.sub,st.away⟩;rw[HP.out];show Om most (vals++ [(X,C)]) w3 A (KY A v2);refine⟨v2,l2,?_,?_,H.rel.2.2 (c.out.1.2.2 j.out.1 j.out.2.2.2.2),q,rfl⟩
   ·rw[F.out];exact H.lm
   ·rw[F.out];exact H.tot
  have HF:=Zh D;clear f H D;go_wp2_with fail;go_ret;exact HF.out
def BO:List BM->Nat
 | []=>0
 |x::l=>x.2.1+BO l
theorem DT(l m:List BM):BO (l++m)=BO l+BO m:=by
 induction l with
 |nil=>simp[BO]
 |cons x l A=>simp only[gU,BO,A];omega
theorem Hv(l:List BM)(p):BO (l.take p)+BO (l.drop p)=BO l:=by rw[<-DT,gS]
def Sv(N:Nat)(x:BM):Prop:=Am x.1/\1<=x.2.1/\x.2.1+x.2.2<=N
theorem Sv.mono{N M}{x:BM}(h:Sv N x)(k:N<=M):Sv M x:=⟨h.1,h.2.1,aw h.2.2 k⟩
def Cv(N:Nat)(l:List BM):Prop:=∀y∈l,Sv N y
theorem Cv.mono{N M}{l:List BM}(h:Cv N l)(k:N<=M):Cv M l:=λy A=>(h y A).mono k
theorem Cj:∀{N:Nat} (l:List BM),Cv N l->l.length<=BO l
 |_,[],_=>E _
 |n,x::l,h=>by
  have D:=Cj (N:=n) l λy A=>h y (fk _ A)
  have F:=(h x (fp ..)).2.1
  simp only[BO,bw]
  omega
theorem BC{w:W}{B g n F:Nat}{l:List BM}(h:w.ownsRow B 202 3 (L (S ⟨g,0,N⟩) n F) n (AR l))(K:n=l.length)(i:Nat)(hi:i<l.length):
  w.cell? ⟨g,i*3,N⟩=S (I J (l[i]'hi).1)/\w.cell? ⟨g,i*3+1,N⟩=S (I U ((l[i]'hi).2.1:Int))/\w.cell? ⟨g,i*3+2,N⟩=S (I U ((l[i]'hi).2.2:Int)):=by
 subst K;have e:=λj (H:j<3)=>SN Ft l i j hi H;have G:=h.cellAt (i*3+0) (by omega);have D:=h.cellAt (i*3+1) (by omega);have A:=h.cellAt (i*3+2) (by omega);unfold AR at G D A;rw[e 0 (by omega)]at G;rw[e 1 (by omega)]at D;rw[e 2 (by omega)]at A;exact⟨G,D,A⟩
theorem IU(w v)(l:List BM)(h:w.ownsRow 0 202 3 v l.length (AR l))(D:l.length<=1000000):
  C prog 103 #[v] w λe w' =>∃v',e=R v' /\w'.ownsRow w.heap.size 202 3 v' l.length (AR l)/\B w.heap.size w w' :=by
 have q:∀(w:W) (a:Option Addr) (n c O c' :Nat),(binOp .eql 177 (L a n c) (L N O c')).run prog w=.ok (.bool a.isNone) w:=λw a n c O c' =>Lib.run_eql_slice_nil w _ _ a n c O c' underlying177;rcases AH h with⟨rfl,G,_⟩|⟨g,Y,rfl,M,d,_,x⟩
 ·obtain rfl:l=[]:=fj G;go_enter func103,ntmps103;go_wp2;go_ret;exact⟨_,rfl,W.ownsRow_nil _ _ _ _,B.refl _ _⟩
 ·have H:=Zh h;clear h;obtain⟨r,hi,X,Z,K⟩:=info_parts FK;obtain⟨n,G⟩:∃n,n=l.length:=⟨_,rfl⟩;rw[<-G]at D M⊢;have i:=Zh G;clear G;go_enter func103,ntmps103;go_wp2_with(at_builtin;refine wpList_append_own _ rfl _ _ 177 rfl w.heap.size 202 r _ 3 24 underlying177 hi X Z K rfl (by decide) _ _ _ rfl (W.ownsRow_made w #[] 0 (E _) (NW _) (by simp)) ⟨g,0,N⟩ n Y (AR l) rfl ?qc1 ?qc2 ?qc3 ?qc4 ?qc5 ?qc6 ?_);case qc1=>rw[I2,i.out]
  case qc2=>
   intro j u o;rw[RR];exact Lib.cell?_alloc_some _ (by rw[Q0];have:=H.out.cells (g:=g) rfl j u o;rwa [RR,Q0]at this)
  case qc3=>exact Hp l
  case qc4=>unfold maxLen;omega
  case qc5=>omega
  case qc6=>simp
  intro v' s F A f;go_wp2;go_ret;refine⟨v',rfl,by simpa using F,?_⟩;exact((B.refl _ w).alloc (E _) _).grown A (by simp) (by intro k p;simp[V.ownBlock]at p;omega)
def BG(xs:List Int):List Value:=xs.map λx=>I J x
theorem DU(a b):BG (a++b)=BG a++BG b:=List.map_append
theorem BJ(a):(BG a).length=a.length:=by simp[BG]
theorem JE(a):∀u∈BG a,u.oneCell' =true:=λu A=>by
 unfold BG at A
 obtain⟨k,_,rfl⟩:=List.mem_map.1 A
 rfl
theorem Lr(a i)(h:i<a.length):(BG a)[i]?=S (I J (a[i]'h)):=by simp[BG,h]
theorem NL:(prog.info? 2).map (λi=>(i.zero,i.size,i.bytes))=S (S (I J 0),1,8):=by kernel_rfl
theorem IV(w v l)(h:w.ownsRow 0 2 1 v l.length (BG l))(D:l.length<=1000000):
  C prog 104 #[v] w λe w' =>∃v',e=R v' /\w'.ownsRow w.heap.size 2 1 v' l.length (BG l)/\B w.heap.size w w' :=by
 have q:∀(w:W) (a:Option Addr) (n c O c' :Nat),(binOp .eql 178 (L a n c) (L N O c')).run prog w=.ok (.bool a.isNone) w:=λw a n c O c' =>Lib.run_eql_slice_nil w _ _ a n c O c' underlying178;rcases AH h with⟨rfl,G,_⟩|⟨g,Y,rfl,M,d,_,x⟩
 ·obtain rfl:l=[]:=fj G;go_enter func104,ntmps104;go_wp2;go_ret;exact⟨_,rfl,W.ownsRow_nil _ _ _ _,B.refl _ _⟩
 ·have H:=Zh h;clear h;obtain⟨r,hi,X,Z,K⟩:=info_parts NL;obtain⟨n,G⟩:∃n,n=l.length:=⟨_,rfl⟩;rw[<-G]at D M⊢;have i:=Zh G;clear G;go_enter func104,ntmps104;go_wp2_with(at_builtin;refine wpList_append_own _ rfl _ _ 178 rfl w.heap.size 2 r _ 1 8 underlying178 hi X Z K rfl (by decide) _ _ _ rfl (W.ownsRow_made w #[] 0 (E _) (NW _) (by simp)) ⟨g,0,N⟩ n Y (BG l) rfl ?qc1 ?qc2 ?qc3 ?qc4 ?qc5 ?qc6 ?_);case qc1=>rw[BJ,i.out,ag]
  case qc2=>
   intro j u o;rw[RR];exact Lib.cell?_alloc_some _ (by rw[Q0];have:=H.out.cells (g:=g) rfl j u o;rwa [RR,Q0]at this)
  case qc3=>exact JE l
  case qc4=>unfold maxLen;omega
  case qc5=>omega
  case qc6=>simp
  intro v' s F A f;go_wp2;go_ret;refine⟨v',rfl,by simpa using F,?_⟩;exact((B.refl _ w).alloc (E _) _).grown A (by simp) (by intro k p;simp[V.ownBlock]at p;omega)
def dR(a x:Int):Int:=if x<a then 1 else-1
theorem ax(y:BM)(x w):
  C prog 283 #[.agg #[I J y.1,I U y.2.1,I U y.2.2],I J x] w λe w' =>e=R (I J (dR y.1 x))/\B w.heap.size w w' :=by
 obtain⟨a,b,c⟩:=y;unfold dR;by_cases h:x<a
 ·rw[if_pos h];go_enter func283,ntmps283;go_wp2;go_ret;exact⟨rfl,Za⟩
 ·rw[if_neg h];go_enter func283,ntmps283;go_wp2;go_ret;exact⟨rfl,Za⟩
theorem Qv(fv:Fn)(lb:Array V)(M:Int->Int)(x)(H:∀(y:BM) W,C prog 283 #[.agg #[I J y.1,I U y.2.1,I U y.2.2],I J x] W λe w' =>e=R (I J (M y.1))/\Below W.heap.size W w')
  (w B g c)(l:List BM)(h:w.ownsRow B 202 3 (L (S ⟨g,0,N⟩) l.length c) l.length (AR l))(X:l.length<=1000000):
  C prog 282 #[L (S ⟨g,0,N⟩) l.length c,I J x,.func (.func 283) #[] #[]] w (VG l.length w):=by
 have r:=Zh (λi hi=>BC h rfl i hi);have q:g<w.heap.size:=(h.lt g rfl).2;obtain⟨n,f⟩:∃n,n=l.length:=⟨_,rfl⟩;have o:=Zh f;rw[<-f]at X⊢;clear h f;go_enter func282,ntmps282;go_wp2;go_loopg [9,10] n (λk a b wr=>∃lo hi:Nat,a=I J lo/\b=I J hi/\lo<=hi/\hi<=n/\hi-lo<=k/\Below w.heap.size w wr);case atStart=>exact⟨0,n,rfl,rfl,NW _,E _,by omega,Below.refl _ _⟩
 case round=>
  obtain⟨lo,hi,rfl,rfl,h1,s,h3,K⟩:=hrel;obtain⟨F,hf1⟩:=Wd.bcell K;by_cases AA:lo<hi
  ·have G:(lo+hi)/2<l.length:=by rw[<-o.out];omega
   obtain⟨m,O⟩:∃m,m=(lo+hi)/2:=⟨_,rfl⟩;rw[<-O]at G;obtain⟨Z,d,Y⟩:=r.out m G;have A:=λW=>H (l[m]'G) W;generalize l[m]'G=y at Z d Y A;rw[<-F g _ q]at Z d Y;have e1:((lo:Int)+(hi:Int))/2=(m:Int):=by omega
   have u:(lo:Int)<(hi:Int):=by omega
   have m1:m<n:=by omega
   have j:=Zh O;generalize M y.1=z at A;clear O F hf1;by_cases Aa:z<0
   ·go_wp2_with(go_at_call 283;refine(A _).mono ?_;rintro e p ⟨rfl,D⟩);go_roundg (hi-(m+1));case measure=>have:=j.out;omega
    case rel=>exact⟨m+1,hi,by go_num,rfl,by have:=j.out;omega,s,E _,K.trans (D.mono K.size)⟩
   ·go_wp2_with(go_at_call 283;refine(A _).mono ?_;rintro e p ⟨rfl,D⟩);go_roundg (m-lo);case measure=>have:=j.out;omega
    case rel=>exact⟨lo,m,rfl,rfl,by have:=j.out;omega,by omega,E _,K.trans (D.mono K.size)⟩
  ·have u:¬(lo:Int)<(hi:Int):=by omega
   by_cases f:lo<n
   ·have G:lo<l.length:=by rw[<-o.out];omega
    obtain⟨Z,d,Y⟩:=r.out lo G;have A:=λW=>H (l[lo]'G) W;generalize l[lo]'G=y at Z d Y A;rw[<-F g _ q]at Z d Y;generalize M y.1=z at A;have g2:(lo:Int)<(n:Int):=by omega
    clear F hf1 G;go_wp2_with(go_at_call 283;refine(A _).mono ?_;rintro e p ⟨rfl,D⟩);go_ret2;exact⟨lo,_,rfl,by omega,λ_=>f,K.trans (D.mono K.size)⟩
   ·have g2:¬(lo:Int)<(n:Int):=by omega
    clear F hf1;go_wp2_with fail;go_ret2;exact⟨lo,false,rfl,by omega,(λh=>by cases h),K⟩
def BD(w:W)(v:V)(xs:List Int):Prop:=
 (v=L N 0 0/\xs=[])\/∃g cap cur,v=L (S ⟨g,0,N⟩) xs.length cap/\AI w g cur 2/\xs.length<=cap/\cap<=maxLen/\cap<=cur.size/\cur.toList.take xs.length=BG xs
section
variable {w w' :W} {v:V} {xs ys:List Int}
theorem BD.nil(w):BD w (L N 0 0) []:=.inl ⟨rfl,rfl⟩
theorem BD.slice(h:BD w v xs):∃A c,v=L A xs.length c:=by
 rcases h with⟨rfl,rfl⟩|⟨g,D,F,rfl,_⟩
 ·exact⟨N,0,rfl⟩
 ·exact⟨_,D,rfl⟩
theorem BD.shape(h:BD w v xs):(v=L N 0 0/\xs=[])\/∃g A,v=L (S ⟨g,0,N⟩) xs.length A/\g<w.heap.size/\xs.length<=A/\A<=maxLen:=by
 rcases h with h|⟨g,A,D,rfl,hb,G,F,_⟩
 ·exact .inl h
 ·exact .inr ⟨g,A,rfl,hb.lt,G,F⟩
theorem BD.blk(h:BD w v xs){g}(D:v.ownBlock=S g):∃A,AI w g A 2:=by
 rcases h with⟨rfl,_⟩|⟨G,F,A,rfl,hb,_⟩
 ·cases D
 ·have:G =g:=by simpa[V.ownBlock]using D
  subst this;exact⟨A,hb⟩
theorem BD.lt(h:BD w v xs){g}(D:v.ownBlock=S g):g<w.heap.size:=by
 obtain⟨A,hb⟩:=h.blk D;exact hb.lt
theorem BD.of_block(h:BD w v xs)(hb:∀g,v.ownBlock=S g->w'.heap[g]?=w.heap[g]?):BD w' v xs:=by
 rcases h with h|⟨g,F,A,rfl,D,G⟩
 ·exact .inl h
 ·exact .inr ⟨g,F,A,rfl,(hb g rfl).trans D,G⟩
theorem BD.away{F}(h:BD w v xs)(k:AD F w w')(D:∀g,v.ownBlock=S g->¬F g):BD w' v xs:=
 h.of_block λg A=>k.block g (h.lt A) (D g A)
theorem BD.next(h:BD w v xs)(k:B w.heap.size w w'):BD w' v xs:=h.of_block λg A=>k.block g (h.lt A)
theorem BD.other(h:BD w v xs)(p u)(A:v.ownBlock≠S p.block):BD (w.setCell p u) v xs:=
 h.of_block λg D=>heap_setCell_other w p g u (by rintro rfl;exact A D)
theorem BD.of_owns{B}(h:w.ownsRow B 2 1 v xs.length (BG xs)):BD w v xs:=by
 rcases h.2 with⟨rfl,K⟩|⟨g,D,A,rfl,_,hb,H,G,M,F⟩
 ·exact .inl ⟨rfl,fj K⟩
 ·exact .inr ⟨g,D,A,rfl,hb,H,G,by omega,by rw[ag]at F;exact F⟩
theorem BD.head{B g n G}(h:w.ownsRow B 2 1 (L (S ⟨g,0,N⟩) n G) n (BG xs))(k)(O:k<=n):BD w (L (S ⟨g,0,N⟩) k k) (xs.take k):=by
 have M:n=xs.length:=by have:=h.1;rw[BJ]at this;omega
 subst M;rcases h.2 with⟨D,_⟩|⟨c,H,A,D,_,hb,Z,X,Y,K⟩
 ·cases D
 ·simp only[L.injEq,gm,gu,and_true,true_and]at D;obtain⟨rfl,rfl⟩:=D;have F:(xs.take k).length=k:=by rw[bh];omega
  refine .inr ⟨g,k,A,by rw[F],hb,by rw[F];exact E _,by omega,by omega,?_⟩;rw[ag]at K;have e:A.toList.take k=(A.toList.take xs.length).take k:=by rw[List.take_take,gv O]
  rw[F,e,K];unfold BG;rw[List.map_take]
theorem BD.cellAt{g n D}(h:BD w (L (S ⟨g,0,N⟩) n D) xs)(i)(hi:i<xs.length):w.cell? ⟨g,i,N⟩=S (I J (xs[i]'hi)):=by
 rcases h with⟨A,_⟩|⟨X,F,G,A,hb,O,K,M,H⟩
 ·cases A
 ·simp only[L.injEq,gm,gu,and_true]at A;obtain⟨rfl,rfl,rfl⟩:=A;refine hb.cell ?_;have:=Lr xs i hi;rw[<-H,List.getElem?_take,if_pos hi]at this;simpa using this
theorem BD.cells{g n A}(h:BD w (L (S ⟨g,0,N⟩) n A) xs):∀j u,(BG xs)[j]?=S u->w.cell? ((⟨g,0,N⟩:Addr).add j)=S u:=λj u D=>by
 have F:j<xs.length:=by have:=(List.getElem?_eq_some_iff.1 D).1;rwa [BJ]at this
 rw[Lr xs j F]at D
 rw[RR,Q0,h.cellAt j F,D]
def Ma(w:W)(x:V)(ys:List Int):Prop:=(∃c,x=L N 0 c/\ys=[])\/∃ad c,x=L (S ad) ys.length c/\∀j u,(BG ys)[j]?=S u->w.cell? (ad.add j)=S u
theorem Ma.of_row(h:BD w v xs):Ma w v xs:=by
 rcases h.shape with⟨rfl,rfl⟩|⟨g,A,rfl,_⟩
 ·exact .inl ⟨0,rfl,rfl⟩
 ·exact .inr ⟨_,A,rfl,h.cells⟩
theorem Ma.one{b X}(h:AI w b #[I J X] 2):Ma w (L (S ⟨b,0,N⟩) 1 1) [X]:=.inr ⟨_,1,rfl,λj u A=>by
 rw[RR,Q0]
 exact h.cell (by simpa[BG]using A)⟩
end
theorem KZ{t ty e}{i:TypeInfo}(w)(D:prog.underlying t=S (.slice e))(hi:prog.info? e=S i)(s n A c)(h:n<=A):
  (Builtin.append_ #[t,t] ty #[L s n A,L N 0 c]).run prog w=.ok (L s n A) w:=by
 cases s<;>simp[Builtin.append_,run_underlying D,sizeOf,typeInfo,hi,Builtin.lenOf,Builtin.firstCells,h,storeCells]
theorem On{t ty}(Z:prog.underlying t=S (.slice 2))(w v xs ys x)(h:BD w v xs)(hs:Ma w x ys)(u:xs.length+ys.length<=1000000):
  ∃v' w',(Builtin.append_ #[t,t] ty #[v,x]).run prog w=.ok v' w' /\BD w' v' (xs++ys)/\w.grownBy w' v.ownBlock/\(v'.ownBlock=v.ownBlock\/v'.ownBlock=S w.heap.size):=by
 obtain⟨d,hi,M,F,X⟩:=info_parts NL;have AA:maxLen=9223372036854775807:=by unfold maxLen;rfl
 rcases hs with⟨c,rfl,rfl⟩|⟨p,c,rfl,G⟩
 ·rw[gT];obtain⟨A,k,rfl⟩:=h.slice;have q:xs.length<=k:=by
   rcases h.shape with⟨j,O⟩|⟨g,D,j,_,O,_⟩
   ·rw[O];exact NW _
   ·simp only[L.injEq]at j;rw[j.2.2];exact O
  exact⟨_,w,KZ w Z hi _ _ _ _ q,h,⟨rfl,rfl,rfl,E _,λ_ _ _=>rfl⟩,.inl rfl⟩
 ·rcases h with⟨rfl,rfl⟩|⟨g,D,K,rfl,hb,O,r,h3,s⟩
  ·obtain⟨v',w',Y,y,hg,_,n⟩:=run_append_own_at (P:=prog) w 0 t ty 2 d _ 1 8 Z hi M F X rfl (by decide) (L N 0 0) 0 (BG []) (W.ownsRow_nil _ _ _ _) p ys.length c (BG ys) (by rw[BJ,ag]) G (JE ys) (by omega) (by omega) (NW _);refine⟨v',w',Y,?_,hg,n⟩;rw[<-DU,Q0]at y;exact BD.of_owns y
  ·by_cases H:xs.length+ys.length<=D
   ·have Y:=run_append_room (P:=prog) w t ty 2 d Z hi g xs.length D K hb p ys.length c (BG ys) (by rw[F,BJ,ag]) G (JE ys) H (by rw[F,BJ];omega);refine⟨_,_,Y,.inr ⟨g,D,_,by rw[V0],setRow_heap w g K _ 2 _ hb,by rw[V0];exact H,r,?_,?_⟩,⟨rfl,rfl,rfl,by simp,λk _ o=>setRow_other w g k _ (λe=>o (by simp[V.ownBlock,e]))⟩,.inl rfl⟩
    ·simp only[gy,V0,bh,gV,Array.length_toList,F,BJ];omega
    ·have e:(xs++ys).length=(BG xs++BG ys).length:=by simp only[V0,BJ]
     rw[F,ag,s,List.toList_toArray,DU,e];exact hZ
   ·have hl:BD w (L (S ⟨g,0,N⟩) xs.length D) xs:=.inr ⟨g,D,K,rfl,hb,O,r,h3,s⟩;have hf:Builtin.nextslicecap (xs.length+ys.length) D*d.bytes<=281474976710656:=by
     rw[X];exact growslice_fits (by omega) (by omega)
    have Y:=run_append_grow (P:=prog) w t ty 2 d _ Z hi M ⟨g,0,N⟩ xs.length D (BG xs) (by rw[F,BJ,ag]) hl.cells p ys.length c (BG ys) (by rw[F,BJ,ag]) G (by omega) (by omega) hf;have f:=grownCap_ge w (xs.length+ys.length) D 2;have i:=grownCap_le_maxLen w (xs.length+ys.length) D 2 (by omega);refine⟨_,_,Y,.inr ⟨w.heap.size,_,_,by rw[V0],heap_alloc_new w.drew _,by rw[V0];exact f,i,?_,?_⟩,⟨rfl,rfl,rfl,by simp,λk o _=>heap_alloc_old w.drew _ o⟩,.inr rfl⟩
    ·simp only[Array.size_append,gy,size_zeroCells,BJ];have:(I J 0).cells.size=1:=rfl;rw[this];omega
    ·simp only[Array.toList_append,iA];rw[<-iA,<-DU,<-BJ];exact hZ
theorem Qw{o:Oper}{a:Act}{K:Act->W->Prop}{Q:Exit->Act->W->Prop}{w:W}(s x:Operand)(t:TypeId)(G:o.op=.call {callee:=.builtin .append,args:= #[s,x],argTypes:= #[t,t]})(O:prog.underlying t=S (.slice 2))
  {v F:V}{xs ys:List Int}(X:a.eval s=v)(Z:a.eval x=F)(h:BD w v xs)(D:Ma w F ys)(A:xs.length+ys.length<=1000000)
  (c:∀v' w',BD w' v' (xs++ys)->w.grownBy w' v.ownBlock->(v'.ownBlock=v.ownBlock\/v'.ownBlock=S w.heap.size)->K (a.put o.dst v') w'):o.wp prog a w K Q:=by
 obtain⟨v',w',M,H,Y,d⟩:=On (ty:=o.type) O w v xs ys F h D A;unfold Oper.wp execOp;simp only[G,resolve,invoke,builtin,Sem.run_bind,Sem.run_pure,Result.andThen_ok,List.map_toArray,List.map_cons,List.map_nil,X,Z,M];exact c v' w' H Y d
theorem Ff{w D o a K Q}{A:Prop}(H:o.guard=N)(s x t)(X:o.op=.call {callee:=.builtin .append,args:= #[s,x],argTypes:= #[t,t]})(Y:prog.underlying t=S (.slice 2))
  {v M xs ys}(Z:a.eval s=v)(c:a.eval x=M)(h:BD w v xs)(F:Ma w M ys)(G:xs.length+ys.length<=1000000)
  (d:∀v' w',BD w' v' (xs++ys)->w.grownBy w' v.ownBlock->(v'.ownBlock=v.ownBlock\/v'.ownBlock=S w.heap.size)->K (a.put o.dst v') w'):if Region.wanted o (yielded D a.tmps)=true then Oper.wp prog o a w K Q else A:=by
 have O:Region.wanted o (yielded D a.tmps)=true:=by simp[Region.wanted,H]
 rw[if_pos O];exact Qw s x t X Y Z c h F G d
abbrev CM:=List (List Int)
def wS:CM->Nat
 | []=>0
 |x::l=>x.length+2*wS l
theorem Jj:∀(a b:CM),wS (a++b)=wS a+2^a.length*wS b
 | [],b=>by simp[wS]
 |x::a,b=>by
  rw[gU]
  simp only[wS,bw,Jj a b,gW]
  rw[iB,<-iC,<-iD,iE 2 (2^a.length)]
def NE(l:CM):Prop:=∀x∈l,x≠ []
def dS(l:CM):Prop:=∀x∈l,∀y∈x,Am y
def Bx(l:CM):Prop:=l≠ []/\NE l.tail/\dS l
theorem cJ:∀(l:CM),NE l->2^l.length<=wS l+1
 | [],_=>by simp[wS]
 |x::l,h=>by
  have D:=cJ l λy A=>h y (fk _ A)
  have F:1<=x.length:=List.length_pos_iff.2 (h x (fp ..))
  simp only[wS,bw,gW]
  omega
theorem JF{l:CM}{t}(h:Bx l)(D:wS l=t)(K:t<=7300):l.length<=14:=by
 obtain⟨F,A,H⟩:=h
 match l,F,A,D with
 |x::l,_,A,D=>
  have M:=cJ l A;simp only[wS]at D;have G:2^l.length<2^13:=by omega
  have:=(Nat.pow_lt_pow_iff_right (a:=2) (by decide)).1 G;simp only[bw];omega
theorem Sw:∀(l:CM) (x:List Int),x∈l->x.length<=wS l
 |y::l,x,h=>by
  simp only[wS]
  rcases List.mem_cons.1 h with rfl|h
  ·omega
  ·have:=Sw l x h;omega
def Br:CM->Nat->List Int->List Int->CM
 | [],_,_,_=> []
 | [_],0,stay,up=> [stay,up]
 |_::y::l,0,stay,up=>stay::(y++up)::l
 |x::l,h+1,stay,up=>x::Br l h stay up
theorem Qx:∀(l:CM) (h:Nat) (A D:List Int) (F:h<l.length),(l[h]'F).length=A.length+2*D.length->wS (Br l h A D)=wS l
 | [x],0,A,D,_,e=>by simp[Br,wS]at e⊢;omega
 |x::y::l,0,A,D,_,e=>by simp[Br,wS]at e⊢;omega
 |x::l,h+1,A,D,F,e=>by
  have:=Qx l h A D (by simpa using F) (by simpa using e)
  have G:Br (x::l) (h+1) A D=x::Br l h A D:=by cases l<;>rfl
  rw[G]
  simp only[wS,this]
theorem Qy:∀(l:CM) (h:Nat) (A F:List Int),NE l->A≠ []->F≠ []->NE (Br l h A F)
 | [],_,_,_,h,_,_=>h
 | [x],0,A,F,h,h1,h2=>λz D=>by
  simp only[Br,fw,iF,or_false]at D
  rcases D with rfl|rfl
  ·exact h1
  ·exact h2
 |x::y::l,0,A,F,h,h1,h2=>λz D=>by
  simp only[Br,fw]at D
  rcases D with rfl|rfl|D
  ·exact h1
  ·intro e;exact h2 (List.append_eq_nil_iff.1 e).2
  ·exact h z (by simp[D])
 |x::l,h0+1,A,F,h,h1,h2=>λz D=>by
  have H:Br (x::l) (h0+1) A F=x::Br l h0 A F:=by cases l<;>rfl
  rw[H]at D
  rcases List.mem_cons.1 D with rfl|D
  ·exact h _ (fp ..)
  ·exact Qy l h0 A F (λy G=>h y (fk _ G)) h1 h2 z D
theorem Qz:∀(l:CM) (h:Nat) (A F:List Int),dS l->(∀y∈A,Am y)->(∀y∈F,Am y)->dS (Br l h A F)
 | [],_,_,_,h,_,_=>h
 | [x],0,A,F,h,h1,h2=>λz D=>by
  simp only[Br,fw,iF,or_false]at D
  rcases D with rfl|rfl
  ·exact h1
  ·exact h2
 |x::y::l,0,A,F,h,h1,h2=>λz D=>by
  simp only[Br,fw]at D
  rcases D with rfl|rfl|D
  ·exact h1
  ·intro u G
   rcases List.mem_append.1 G with G|G
   ·exact h y (by simp) u G
   ·exact h2 u G
  ·exact h z (by simp[D])
 |x::l,h0+1,A,F,h,h1,h2=>λz D=>by
  have K:Br (x::l) (h0+1) A F=x::Br l h0 A F:=by cases l<;>rfl
  rw[K]at D
  rcases List.mem_cons.1 D with rfl|D
  ·exact h _ (fp ..)
  ·exact Qz l h0 A F (λy H=>h y (fk _ H)) h1 h2 z D
theorem Yh(l:CM)(h A F)(O:Bx l)(K:A≠ [])(G:F≠ [])(X:∀y∈A,Am y)(H:∀y∈F,Am y):Bx (Br l h A F):=by
 obtain⟨a,b,c⟩:=O;have d:=Qz l h A F c X H
 match l,h,a,b,d with
 | [x],0,_,b,d=>
  refine⟨by simp[Br],λz D=> ?_,d⟩;simp only[Br,gQ,iG]at D;subst D;exact G
 |x::y::l,0,_,b,d=>
  refine⟨by simp[Br],λz D=> ?_,d⟩;simp only[Br,gQ,fw]at D;rcases D with rfl|D
  ·intro e;exact G (List.append_eq_nil_iff.1 e).2
  ·exact b z (by simp[D])
 |x::l,h0+1,_,b,d=>
  have M:Br (x::l) (h0+1) A F=x::Br l h0 A F:=by cases l<;>rfl
  rw[M]at d⊢;exact⟨by simp,Qy l h0 A F b K G,d⟩
theorem NM:∀(l:CM) (h:Nat) (A D:List Int) (F:h+1<l.length),(l.set h A).set (h+1) ((l[h+1]'F)++D)=Br l h A D
 |x::y::l,0,A,D,_=>by simp[Br]
 |x::l,h+1,A,D,F=>by
  have G:Br (x::l) (h+1) A D=x::Br l h A D:=by cases l<;>rfl
  have:=NM l h A D (by simpa using F)
  rw[G,<-this]
  simp
theorem L8:∀(l:CM) (h:Nat) (A D:List Int),h+1=l.length->((l++ [[]]).set h A).set (h+1) D=Br l h A D
 | [x],0,A,D,_=>by simp[Br]
 |x::y::l,0,A,D,hh=>by simp at hh
 |x::l,h+1,A,D,hh=>by
  have F:Br (x::l) (h+1) A D=x::Br l h A D:=by cases l<;>rfl
  have:=L8 l h A D (by simpa using hh)
  rw[F,<-this]
  simp
theorem Oo:∀(l:CM) (h:Nat) (ys:List Int) (A:h<l.length),wS (l.set h ((l[h]'A)++ys))=wS l+2^h*ys.length
 |x::l,0,ys,_=>by simp[wS];omega
 |x::l,h+1,ys,A=>by
  have:=Oo l h ys (by simpa using A)
  simp only[iH,iI,wS,this,gW]
  rw[iB,<-iC,iE (2^h) 2,<-iD]
theorem UG(l:CM)(h ys)(D:h<l.length)(H:Bx l)(K:∀y∈ys,Am y):Bx (l.set h ((l[h]'D)++ys)):=by
 obtain⟨a,b,c⟩:=H;have G:=λz (A:z∈l.set h ((l[h]'D)++ys))=>iJ A;refine⟨λe=>a (by have:=congrArg List.length e;simpa using this),λz A=> ?_,λz A=> ?_⟩
 ·match l,h,D,b,A with
  |x::l,0,D,b,A=>exact b z (by simpa using A)
  |x::l,h+1,D,b,A=>
   simp only[iH,gQ,iI]at A;rcases iJ A with A|rfl
   ·exact b z (by simpa using A)
   ·intro e;exact b _ (by simp) (List.append_eq_nil_iff.1 e).1
 ·rcases G z A with A|rfl
  ·exact c z A
  ·intro u F;rcases List.mem_append.1 F with F|F
   ·exact c _ (ej D) u F
   ·exact K u F
theorem ay(l:CM)(ys)(D:Bx l)(G:∀y∈ys,Am y)(F:ys≠ []):Bx (l++ [ys]):=by
 obtain⟨a,b,c⟩:=D;refine⟨by simp,λz A=> ?_,λz A=> ?_⟩
 ·match l,a,b,A with
  |x::l,_,b,A=>
   simp only[gU,gQ,List.mem_append,iG]at A;rcases A with A|rfl
   ·exact b z (by simpa using A)
   ·exact F
 ·rcases List.mem_append.1 A with A|A
  ·exact c z A
  ·rw[List.mem_singleton.1 A];exact G
theorem UH:∀(l:CM) (h:Nat) (A:h<l.length),wS (l.take (h+1))=wS (l.take h)+2^h*(l[h]'A).length
 |l,h,A=>by
  rw[gR A,Jj,bh,gv (by omega)]
  simp[wS]
theorem GR:∀(l:CM) (h:Nat),wS (l.take h)<=wS l
 | [],h=>by simp
 |x::l,0=>by simp[wS]
 |x::l,h+1=>by
  have:=GR l h
  simp only[fa,wS]
  omega
theorem DF.next{w w' v D}(h:DF w v D)(hb:B w.heap.size w w'):DF w' v D:=by
 obtain⟨G,F,H⟩:=h;refine⟨G,F,H.imp id ?_⟩;rintro⟨b,o,c,rfl,A,K⟩;exact⟨b,o,c,rfl,es A hb.size,λi hi=>by rw[hb.cell (p:=⟨b,_,N⟩) A];exact K i hi⟩
theorem DF.of_row{w v D}(h:BD w v D)(F:∀z∈D,Am z):DF w v D:=by
 rcases h.shape with⟨rfl,rfl⟩|⟨g,A,rfl,H,G,K⟩
 ·exact⟨NW _,F,.inl ⟨rfl,N,0,rfl⟩⟩
 ·exact⟨aw G K,F,.inr ⟨g,0,A,rfl,H,λi hi=>by rw[Q0];exact h.cellAt i hi⟩⟩
theorem KL{G}{rest:List Oper}{o a Q}(H:o.guard=N)(s x)(i:o.op=.call {callee:=.builtin .append,args:= #[s,x],argTypes:= #[178,178]})
  {W B n c Z A}(F:W.ownsRow B 2 1 (L A n c) n (BG Z))(r:B<=W.heap.size)(d:n<=1000000){X b}(k:a.eval s=L A n c)(p:a.eval x=L (S ⟨b,0,N⟩) 1 1)(hb:AI W b #[I J X] 2)
  (h:∀A' c' K,K.ownsRow B 2 1 (L A' (n+1) c') (n+1) (BG (Z++ [X]))->W.grownBy K (L A n c).ownBlock->wpList prog G Q rest (a.put o.dst (L A' (n+1) c')) K):wpList prog G Q (o::rest) a W:=by
 obtain⟨g,hi,M,O,Y⟩:=info_parts NL;refine wpList_append_own_at _ H s x 178 i B 2 g _ 1 8 underlying178 hi M O Y rfl (by decide) _ _ _ k F ⟨b,0,N⟩ 1 1 (BG [X]) p rfl ?_ ?_ (by unfold maxLen;omega) (by omega) r ?_
 ·intro j u q;rw[RR,Q0];exact hb.cell (by simpa[BG]using q)
 ·intro u e;simp[BG]at e;rcases e with rfl;rfl
 intro v' w' D f _ y;obtain⟨A',c',rfl⟩:=AF D;rw[<-DU]at D;exact h A' c' w' D f
def GY(w:W)(pb:Nat)(word:Int)(used:Nat):Prop:=AI w pb #[I U word,I J used] 225
theorem GY.cells{w pb D A}(h:GY w pb D A):w.cell? ⟨pb,0,N⟩=S (I U D)/\w.cell? ⟨pb,1,N⟩=S (I J A)/\w.frozen? ⟨pb,1,N⟩=false/\pb<w.heap.size:=
 ⟨AI.cell h rfl,AI.cell h rfl,AI.frozen h 1,AI.lt h⟩
theorem Yi(w A):
  C prog 67 #[I U A] w λe w' =>e=R (P (S ⟨w.heap.size,0,N⟩))/\w' =w.alloc (.cells #[I U A,I J 0] 225):=by
 go_enter func67,ntmps67;go_wp2_with fail;go_ret;exact⟨rfl,rfl⟩
theorem VT(w pb D A)(h:GY w pb D A):
  C prog 343 #[P (S ⟨pb,0,N⟩)] w λe w' =>e=R (I J A)/\w=w' :=by
 obtain⟨G,H,f1,F⟩:=h.cells;clear h;go_enter func343,ntmps343;go_wp2_with fail;go_ret;exact⟨rfl,rfl⟩
theorem NN(w)(pb:Nat)(A:Int)(D n:Nat)(h:GY w pb A D):
  C prog 106 #[P (S ⟨pb,0,N⟩),I J n] w λe w' =>e=R (.bool true)/\w' =w.setCell ⟨pb,1,N⟩ (I J n):=by
 obtain⟨G,H,f1,F⟩:=h.cells;clear h;go_enter func106,ntmps106;go_wp2_with fail;go_ret;exact⟨rfl,rfl⟩
theorem VU(w pb D A)(h:GY w pb D A)(X:A<=1000000000000):
  C prog 316 #[P (S ⟨pb,0,N⟩)] w λe w' =>(∃b:Bool,e=R (.bool b))/\GY w' pb D (A+1)/\AD (λk=>k=pb) w w' :=by
 obtain⟨M,O,f1,G⟩:=h.cells;have Y:J.wrap ((A:Int)+1)=((A+1:Nat):Int):=by rw[gh];omega
 have H:=Zh h;clear h;go_enter func316,ntmps316;go_upto_region 3 with fail;go_quiet(fail);have F:B w.heap.size w (w.drewN nq):=⟨rfl,rfl,rfl,E _,λ_ _=>rfl⟩;have K:=Zh (show GY ((w.drewN nq).setCell ⟨pb,1,N⟩ (I J ((A+1:Nat):Int))) pb D (A+1)/\AD (λk=>k=pb) w ((w.drewN nq).setCell ⟨pb,1,N⟩ (I J ((A+1:Nat):Int)))from
  ⟨(H.out.below F G).set 1 _,AD.setCell (AD.of_below F) _ _ (.inl rfl)⟩)
 clear F;go_wp2_with fail;go_ret;exact⟨⟨_,rfl⟩,K.out⟩
def dU(w:W)(n:Nat)(b:Bool)(e:Ending)(w' :W):Prop:=∃v' ys,e=R v' /\w'.ownsRow w.heap.size 2 1 v' ys.length (BG ys)/\ys.length=(if b then n/2 else(n+1)/2)/\(∀y∈ys,Am y)/\B w.heap.size w w'
theorem VV(w v xs b)(h:DF w v xs)(d:xs.length<=100000):
  C prog 315 #[v,.bool b] w (dU w xs.length b):=by
 obtain⟨A0,c0,rfl⟩:=h.slice;obtain⟨n,hn⟩:∃n,n=xs.length:=⟨_,rfl⟩;have HH:=Zh (Zi h hn);rw[<-hn]at d⊢;clear h hn;go_enter func315,ntmps315;go_wp2_with fail;go_loopg [5,10] n (λg Ab i Z=>∃(q:Nat) (A:Option Addr) (m c:Nat) (ys:List Int),i=I J q/\q<=n/\n-q<=g/\Ab=L A m c/\m=ys.length/\Z.ownsRow w.heap.size 2 1 (L A m c) m (BG ys)/\m=(if b then q/2 else(q+1)/2)/\(∀y∈ys,Am y)/\B w.heap.size w Z);case atStart=>exact⟨0,N,0,0,[],rfl,NW _,E _,rfl,rfl,W.ownsRow_nil _ _ _ _,by cases b<;>rfl,λy Y=>(by cases Y),B.refl _ _⟩
 case round=>
  rename W=>Z;obtain⟨q,A,m,c,ys,rfl,hq,hg,rfl,hm,u,K,x,hb⟩:=hrel;by_cases Aa:q<n
  ·have g1:(q:Int)<(n:Int):=by omega
   have H:q<xs.length:=by rw[<-HH.out.2];exact Aa
   rcases HH.out.1.2.2 with⟨h0,_⟩|⟨gb,o,c',hv,r,f⟩
   ·rw[h0]at H;simp at H
   simp only[L.injEq]at hv;obtain⟨rfl,-,rfl⟩:=hv;have p0:=f q H;rw[<-hb.cell (p:=⟨gb,_,N⟩) r]at p0;have O:=HH.out.1.2.1 _ (ej H);generalize xs[q]'H=X at p0 O;have G:=Zh (Zi u (Zi hm (Zi K (Zi x (Zi hb O)))));have hz:=hb.size;have AA:m<=1000000:=by cases b<;>simp at K<;>omega
   have Ac:gb<Z.heap.size:=es r hz;clear u hm K x hb O f;have M:(((q:Int) % 2==1):Bool)=decide (q % 2=1):=by
    by_cases h:q % 2=1
    ·rw[decide_eq_true h];simp;omega
    ·rw[decide_eq_false h];simp;omega
   by_cases D:(decide (q % 2=1))=b
   ·have f1:((((q:Int) % 2==1):Bool)==b)=true:=by rw[M,D];simp
    have s:(Z.alloc (.cells #[I J X] 2)).ownsRow w.heap.size 2 1 (L A m c) m (BG ys):=AE G.out.1 (Za) λg hg=>(G.out.1.lt g hg).2;have j:=Zh (Zi s (show w.heap.size<=(Z.alloc (.cells #[I J X] 2)).heap.size by simp;omega));clear s M;go_wp2_with(at_builtin;refine KL rfl _ _ rfl j.out.1 j.out.2 AA rfl rfl (AI.newAt rfl) ?_);intro A' c' w2 o2 g2;have HN:=Zh (show w2.ownsRow w.heap.size 2 1 (L A' (m+1) c') (m+1) (BG (ys++ [X]))/\B w.heap.size w w2 from⟨o2,(G.out.2.2.2.2.1.alloc hz _).trans ((AD.of_grown (F:=λk=>(L A m c).ownBlock=S k) g2 λk hk=>hk).below (by simp;omega) λk hk e=>by have:=(G.out.1.lt k e).1;omega)⟩);clear o2 g2;go_wp2_with fail;go_roundg (n-(q+1));case measure=>omega
    refine⟨q+1,A',m+1,c',ys++ [X],by go_num,by omega,E _,rfl,by rw[V0,<-G.out.2.1];rfl,HN.out.1,?_,λy Y=> ?_,HN.out.2⟩
    ·have:=G.out.2.2.1;cases b
     ·simp at this D⊢;omega
     ·simp at this D⊢;omega
    ·rcases List.mem_append.1 Y with Y|Y
     ·exact G.out.2.2.2.1 y Y
     ·rw[List.mem_singleton.1 Y];exact G.out.2.2.2.2.2
   ·have f1:((((q:Int) % 2==1):Bool)==b)=false:=by rw[M];simpa using D
    clear M;go_wp2_with fail;go_roundg (n-(q+1));case measure=>omega
    refine⟨q+1,A,m,c,ys,by go_num,by omega,E _,rfl,G.out.2.1,G.out.1,?_,G.out.2.2.2.1,G.out.2.2.2.2.1⟩;have:=G.out.2.2.1;cases b
    ·simp at this D⊢;omega
    ·simp at this D⊢;omega
  ·have g1:¬(q:Int)<(n:Int):=by omega
   obtain rfl:q=n:=by omega
   have G:=Zh (Zi u (Zi hm (Zi K (Zi x hb))));clear u K x hb;subst hm;go_wp2_with fail;go_ret;exact⟨_,ys,rfl,G.out.1,G.out.2.2.1,G.out.2.2.2.1,G.out.2.2.2.2⟩
theorem RA(x w):
  C prog 282 #[L N 0 0,I J x,.func (.func 283) #[] #[]] w λe w' =>e=R (T #[I J 0,.bool false])/\w=w' :=by
 go_enter func282,ntmps282;go_wp2;refine wp_loop_rounds 1 ?_;rw[rounds_succ];go_wp2_with fail;go_ret2;exact⟨rfl,rfl⟩
def Sx(n:Nat)(w:W)(e:Ending)(w' :W):Prop:=∃p:Nat,e=R (I J p)/\p<=n/\B w.heap.size w w'
theorem NO(w B v)(l:List BM)(x)(h:w.ownsRow B 202 3 v l.length (AR l))(A:l.length<=1000000):
  C prog 269 #[v,I J x] w (Sx l.length w):=by
 have F:C prog 282 #[v,I J x,.func (.func 283) #[] #[]] w (VG l.length w):=by
  rcases AH h with⟨rfl,M,_⟩|⟨g,D,rfl,_,_,_,Y⟩
  ·obtain rfl:l=[]:=fj M;exact(RA x w).mono λe w' ⟨O,H⟩=>⟨0,false,O,E _,λh=>(by cases h),H▸Below.refl _ _⟩
  ·exact Qv (.func 283) #[] (λa=>dR a x) x (λy W=>ax y x W) w B g D l h A
 clear h;go_enter func269,ntmps269;go_wp2_with fail;refine F.mono ?_;rintro e X ⟨p,Z,rfl,G,_,K⟩;clear F;go_wp2_with fail;go_ret;exact⟨p,rfl,G,K⟩
def Ki(num den:Int):Bool:=decide (0<num)&&decide (den<=2147483648)&&decide (num<=den/2)
theorem NP(num den:Nat)(w):
  C prog 66 #[.agg #[I U num,I U den]] w λe w' =>e=R (.bool (Ki num den))/\B w.heap.size w w' :=by
 have F:=Zh (show B w.heap.size w (w.alloc (.cells #[I U num,I U den] 25))from Za);have A:Ki num den=(decide ((0:Int)<(num:Int))&&decide ((den:Int)<=2147483648)&&decide ((num:Int)<=(den:Int)/2)):=rfl;by_cases G:0<num
 ·have f1:decide ((0:Int)<(num:Int))=true:=by simp;omega
  have H:decide (0<num)=true:=by simp;omega
  by_cases K:(den:Int)<=2147483648
  ·have D:decide ((den:Int)<=2147483648)=true:=by simp;omega
   rw[f1,D,gX,gX]at A;rw[A];have M:U.wrap ((den:Int)/2)=(den:Int)/2:=by rw[gY];omega
   clear G K A;go_enter func66,ntmps66;go_wp2_with fail;go_ret;exact⟨by simp[M],F.out⟩
  ·have D:decide ((den:Int)<=2147483648)=false:=by simp;omega
   rw[f1,D,gX,gZ]at A;rw[A];clear G K A;go_enter func66,ntmps66;go_wp2_with fail;go_ret;exact⟨rfl,F.out⟩
 ·have f1:decide ((0:Int)<(num:Int))=false:=by simp;omega
  have H:decide (0<num)=false:=by simp;omega
  rw[f1,gZ,gZ]at A;rw[A];clear G A;go_enter func66,ntmps66;go_wp2_with fail;go_ret;exact⟨rfl,F.out⟩
theorem Hy(num den:Nat):Ki num den=true↔1<=num/\den<=2147483648/\2*num<=den:=by
 unfold Ki;simp only[Bool.and_eq_true,decide_eq_true_eq];omega
theorem dV(num den n)(h:2*num<=den)(A:1<=num):(KV (2*num) n den).1<=n:=by
 unfold KV;split
 ·exact NW _
 ·show 2*num*n/den<=n;apply Nat.div_le_of_le_mul;exact Nat.mul_le_mul h (E n)
def dW(l:List BM)(x:Int)(l' :List BM):Prop:=BO l' =BO l+1/\l'.length=l.length+1/\∀N,1<=N->Am x->Cv N l->Cv N l'
theorem ff(l:List BM)(x p k)(h:p<=l.length)(F:k=0\/∃y∈l,k+1<=y.2.1+y.2.2):dW l x (l.take p++(x,1,k)::l.drop p):=by
 have K:=Hv l p;refine⟨by rw[DT];simp only[BO];omega,by simp only[V0,bh,bw,gV];omega,λN G H D y A=> ?_⟩;rcases List.mem_append.1 A with A|A
 ·exact D y (List.mem_of_mem_take A)
 ·rcases List.mem_cons.1 A with rfl|A
  ·refine⟨H,E _,?_⟩;rcases F with rfl|⟨y,A,F⟩
   ·exact G
   ·have:=(D y A).2.2;show 1+k<=N;omega
  ·exact D y (List.mem_of_mem_drop A)
def eW(w:W)(v:V)(l:List BM)(x:Int)(e:Ending)(w' :W):Prop:=∃v' l',e=R v' /\w'.ownsRow 0 202 3 v' l'.length (AR l')/\dW l x l' /\AD (λk=>v.ownBlock=S k) w w' /\FA w v v'
theorem RB(N)(hN:N<4000000000000000000)(w v)(l:List BM)(x)(h:w.ownsRow 0 202 3 v l.length (AR l))(Av:l.length<=100000)(hl:Cv N l):
  C prog 265 #[v,I J x] w (eW w v l x):=by
 have o:=NO w 0 v l x h (by omega);obtain⟨A,c,rfl⟩:=AF h;obtain⟨n,hn⟩:∃n,n=l.length:=⟨_,rfl⟩;have M:=Zh (Zi h (Zi hn hl));rw[<-hn]at o⊢;clear h hn hl;go_enter func265,ntmps265;go_wp2_with fail;refine o.mono ?_;rintro e w1 ⟨p,rfl,hp,b1⟩;have X:=Zh b1;have e1:∀ob,w1.heap.size<(w1.alloc ob).heap.size:=λob=>by simp
 clear o b1 e1;go_upto_region 2 with fail;go_cut [6]from 10 to 11 (λq wx=>∃b,q=P (S ⟨b,0,none⟩)/\w.heap.size<=b/\AI wx b #[I J x,I U 1,I U 0] 202/\B w.heap.size w wx);case first=>
  have HK:=Zh (show B w.heap.size w (w1.alloc (.cells #[I J x,I U 1,I U 0] 202))from X.out.alloc X.out.size _);have HZ:=Zh X.out.size;go_wp2_with fail;go_meet;exact⟨_,rfl,HZ.out,AI.newAt rfl,HK.out⟩
 case rest=>
  obtain⟨b,rfl,hb,f,d⟩:=hcut;rename W=>w2;have Z:=Zh (Zi hb (Zi f d));clear X hb f d;have Ac:∀(F:W) (k:Nat),AI F b #[I J x,I U 1,I U k] 202->B w.heap.size w F->(k=0\/∃y∈l,k+1<=y.2.1+y.2.2)->
    C prog 270 #[L A n c,I J p,L (S ⟨F.heap.size,0,none⟩) 1 1] (F.alloc (.cells #[I J x,I U 1,I U k] 202)) (eW w (L A n c) l x):=λF k hk r Al=>by
   have hz:=r.size;have i:=AE M.out.1 r λg u=>(M.out.1.lt g u).2;have b4:B F.heap.size F (F.alloc (.cells #[I J x,I U 1,I U k] 202)):=Za;rw[M.out.2.1];have Ar:=AE i b4 λg u=>(i.lt g u).2;refine(OQ (F.alloc (.cells #[I J x,I U 1,I U k] 202)) (L A l.length c) l p F.heap.size (x,1,k) Ar (by omega) (by have:=M.out.2.1;omega) (AI.newAt rfl) (λe=>by have:=(i.lt _ e).2;omega)).mono λe w5 hh=> ?_;obtain⟨v',rfl,o5,a5,k5⟩:=hh;refine⟨v',_,rfl,?_,ff l x p k (by have:=M.out.2.1;omega) Al,(AD.of_below (r.trans (b4.mono hz))).trans' a5 (λ_ _ h=>h) (λ_ _ h=>h),?_⟩
   ·rw[show(l.take p++(x,1,k)::l.drop p).length=l.length+1 by simp only[V0,bh,bw,gV];have:=M.out.2.1;omega];exact o5
   ·rcases k5 with k5|⟨j,q1,q2⟩
    ·exact .inl k5
    ·exact .inr ⟨j,q1,by have:(F.alloc (.cells #[I J x,I U 1,I U k] 202)).heap.size=F.heap.size+1:=(by simp);omega⟩
  have AA:=Zh Ac;clear Ac;have Ab:=Zh (show∀(F:W) (k:Nat),AI F b #[I J x,I U 1,I U k] 202->F.cell? ⟨b,0,none⟩=S (I J x)/\F.cell? ⟨b,1,none⟩=S (I U 1)/\F.cell? ⟨b,2,none⟩=S (I U k)from λF k h=>⟨h.cell rfl,h.cell rfl,h.cell rfl⟩);by_cases H:0<p/\p<n
  ·have f1:decide ((0:Int)<(p:Int))=true:=by simp;omega
   have Aa:decide (0<p)=true:=by simp;omega
   have f2:decide ((p:Int)<(n:Int))=true:=by simp;omega
   have Ap:decide (p<n)=true:=by simp;omega
   have G:p<l.length:=by rw[<-M.out.2.1];exact H.2
   rcases AH M.out.1 with⟨_,Ax,_⟩|⟨g,Ay,hv,_,_,_,Aw⟩
   ·omega
   simp only[L.injEq]at hv;obtain⟨rfl,-,rfl⟩:=hv;have i:=AE M.out.1 Z.out.2.2 λg u=>(M.out.1.lt g u).2;rw[<-M.out.2.1]at i;obtain⟨-,p1,p2⟩:=BC i M.out.2.1 p G;have O:=M.out.2.2 _ (ej G);have HY:=Zh (show l[p]'G∈l from ej G);generalize l[p]'G=y at p1 p2 O HY;obtain⟨k,hk⟩:∃k,k=y.2.1+y.2.2-1:=⟨_,rfl⟩;have e1:U.wrap ((y.2.1:Int)+(y.2.2:Int))=(y.2.1:Int)+(y.2.2:Int):=by rw[gY];have:=O.2.2;omega
   have e2:U.wrap ((y.2.1:Int)+(y.2.2:Int)-1)=(k:Int):=by rw[gY];have:=O.2;omega
   have d2:w2.cell? ⟨b,2,none⟩=S (I U 0):=Z.out.2.1.cell rfl;have f3:w2.frozen? ⟨b,2,none⟩=false:=Z.out.2.1.frozen 2;have z1:(p:Int)<(n:Int):=by omega
   have Y:=Zh (show AI (w2.setCell ⟨b,2,none⟩ (I U k)).drew b #[I J x,I U 1,I U k] 202/\B w.heap.size w (w2.setCell ⟨b,2,none⟩ (I U k)).drew from
    ⟨(Z.out.2.1.set 2 _).drew,(Z.out.2.2.setCell (p:=⟨b,2,none⟩) Z.out.1 _).drew⟩)
   have HK:=Zh (show∃y∈l,k+1<=y.2.1+y.2.2 from⟨y,HY.out,by have:=O.2;omega⟩);clear i O hk H G HY;go_upto_region 4 with fail;go_region;all_goals(
    generalize(w2.setCell ⟨b,2,none⟩ (I U k)).drew=F at Y⊢;clear p1 p2 d2 f3 e1 e2;have K:=AA.out F k Y.out.1 Y.out.2 (.inr HK.out);obtain⟨d0,d1,d2⟩:=Ab.out F k Y.out.1;go_wp2_with fail;refine K.mono ?_;rintro e w5 ⟨v',s,rfl,D⟩;have HR:=Zh D;clear K D;go_wp2_with fail;go_ret;exact⟨v',s,rfl,HR.out⟩)
  ·have K:=AA.out w2 0 Z.out.2.1 Z.out.2.2 (.inl rfl);obtain⟨d0,d1,d2⟩:=Ab.out w2 0 Z.out.2.1;by_cases A0:0<p
   ·have f1:decide ((0:Int)<(p:Int))=true:=by simp;omega
    have Aa:decide (0<p)=true:=by simp;omega
    have f2:decide ((p:Int)<(n:Int))=false:=by simp;omega
    have Ap:decide (p<n)=false:=by simp;omega
    clear H;go_wp2_with fail;refine K.mono ?_;rintro e w5 ⟨v',s,rfl,D⟩;have HR:=Zh D;clear K D;go_wp2_with fail;go_ret;exact⟨v',s,rfl,HR.out⟩
   ·have f1:decide ((0:Int)<(p:Int))=false:=by simp;omega
    have Aa:decide (0<p)=false:=by simp;omega
    clear H;go_wp2_with fail;refine K.mono ?_;rintro e w5 ⟨v',s,rfl,D⟩;have HR:=Zh D;clear K D;go_wp2_with fail;go_ret;exact⟨v',s,rfl,HR.out⟩
end Go.Proofs.YtbejdajkkoapgaaGreatDoor
