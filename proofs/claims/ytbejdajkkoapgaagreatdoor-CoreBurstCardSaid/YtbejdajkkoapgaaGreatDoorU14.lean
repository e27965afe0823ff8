/-
  Lemmas and walks for coreBurst.proved, joined and squeezed by a program out of the loose texts Lz, Ly, M9, GL, GF, R2, R4, Cr, Mk. Conditions: each theorem states its own.
-/
import Derived.Test.YtbejdajkkoapgaaGreatDoorU09
import Derived.Test.YtbejdajkkoapgaaGreatDoorU13
import Derived.Test.YtbejdajkkoapgaaGreatDoorU06
import Derived.Test.YtbejdajkkoapgaaGreatDoorU12
import Derived.Test.YtbejdajkkoapgaaGreatDoorU11
set_option linter.all false
set_option maxRecDepth 100000
set_option maxHeartbeats 40000000
open Go.RowKit Go.Lib Go.Proofs.Tryz
open Bool renaming and_eq_true->fk
open Go renaming Calls->C,Value->V,World->W
open Go.Act renaming put->aw
open Go.Ending renaming returned->R
open Go.IntKind renaming i64->J,u64->U,wrap_u64->ej
open Go.RowKit renaming Below->B
open Go.Value renaming int->I,pointer->P,slice->L,tuple->T
open List renaming append_assoc->ag,append_nil->dT,drop_of_length_le->gT,drop_succ_cons->gW,drop_zero->gV,flatMap_append->gY,flatMap_cons->RR,flatMap_nil->bw,getElem_cons_drop->gQ,getElem_mem->bh,length_append->Jx,length_cons->fy,length_drop->gS,length_nil->V0,mem_cons_of_mem->fx,mem_cons_self->es,mem_of_mem_drop->gR,nil_append->gU,take_of_length_le->fj,take_succ_cons->fp,take_succ_eq_append_getElem->fa,take_zero->fw
open Nat renaming le_refl->E,le_trans->NW,reduceSub->gX,zero_le->Q0
open Option renaming none->N,some->S
namespace Go.Proofs.YtbejdajkkoapgaaGreatDoor
theorem PF(w D s M)(h:(s≠0/\s≠1)\/M<1\/4096<M):
  C prog 64 #[.iface 163 (P (S ⟨D,0,N⟩)),I J s,I J M] w λe w' =>e=R (T #[P N,I J 1])/\w=w' :=by
 by_cases G:s≠0/\s≠1
 ·exact VO w D s M G
 have F:M<1\/4096<M:=by rcases h with h|h;exact absurd h G;exact h
 by_cases H:s=0
 ·subst H;exact Lh false w D M F
 ·have K:s=1:=by omega
  subst K;exact Lh true w D M F
theorem ZA(w a1 a2 a3 a4)(h:Dk a1 a2=false\/(a3≠0/\a3≠1)\/a4<1\/4096<a4):
  C prog 41 #[.agg #[I U a1,I U a2,I J a3,I J a4]] w λe w' =>∃D:Int,D≠0/\e=R (T #[P N,I J D])/\B w.heap.size w w' :=by
 have f:AI (w.alloc (.cells #[I U a1,I U a2,I J a3,I J a4] 120)) w.heap.size #[I U a1,I U a2,I J a3,I J a4] 120:=AI.newAt rfl;have d:B w.heap.size w (w.alloc (.cells #[I U a1,I U a2,I J a3,I J a4] 120)):=Za;by_cases g:Dk a1 a2=false
 ·have F:=YR a1 a2 (w.alloc (.cells #[I U a1,I U a2,I J a3,I J a4] 120)) g;have G:=Zh (Zi f d);clear f d g h;go_enter func41,ntmps41;go_wp2_with fail;refine F.mono ?_;rintro e Z ⟨rfl,K⟩;have a:=Zh (G.out.2.trans (K.mono G.out.2.size));clear F K G;go_wp2_with fail;go_ret2;exact⟨1,by decide,rfl,a.out⟩
 ·have O:Dk a1 a2=true:=by cases hh:Dk a1 a2<;>simp_all
  have o:(a3≠0/\a3≠1)\/a4<1\/4096<a4:=by rcases h with h|h;exact absurd h g;exact h
  have X:=O;unfold Dk at X;simp only[fk,decide_eq_true_eq]at X;obtain⟨num,rfl⟩:∃n:Nat,a1=(n:Int):=⟨a1.toNat,by omega⟩;obtain⟨den,rfl⟩:∃n:Nat,a2=(n:Int):=⟨a2.toNat,by omega⟩;have F:=Zh (λW=>Qi num den W O);have Y:=Zh (λW m=>PF W m a3 a4 o);have G:=Zh (Zi f d);clear f d g O X h o;go_enter func41,ntmps41;go_wp2_with fail;refine(F.out _).mono ?_;rintro e Z (⟨n,m,y,z,r,rfl,K,p,i⟩|⟨D,H,rfl,K,k⟩)
  ·have j:=G.out.1.below K G.out.1.lt;have c1:Z.cell? ⟨w.heap.size,2,N⟩=S (I J a3):=j.cell rfl;have x:Z.cell? ⟨w.heap.size,3,N⟩=S (I J a4):=j.cell rfl;have M:=Y.out Z m;have a:=Zh (G.out.2.trans (K.mono G.out.2.size));clear F Y j K p i r G;go_wp2_with fail;refine M.mono ?_;rintro e w2 ⟨rfl,rfl⟩;clear M;go_wp2_with fail;go_ret2;exact⟨1,by decide,rfl,a.out⟩
  ·have v:(D==0)=false:=by simp[H]
   have u:(D !=0)=true:=by simp[H]
   have a:=Zh (show∃c:Int,c≠0/\R (T #[P N,I J D])=R (T #[P N,I J c])/\B w.heap.size w Z from⟨D,H,rfl,G.out.2.trans (K.mono G.out.2.size)⟩);clear F Y K k G H;go_wp2_with fail;go_ret2;exact a.out
def cN(a1 a2 a3 a4:Int):Prop:=Dk a1 a2=true/\(∃n,IS a1.toNat a2.toNat n)/\(a3=0\/a3=1)/\1<=a4/\a4<=4096
theorem cO{a3}(h:a3=0\/a3=1):a3=Dq (a3==1):=by
 rcases h with rfl|rfl<;>rfl
theorem JJ(hi M f):DA hi M f []=[]:=rfl
theorem Vj(w a1 a2 a3 a4 a5 a6 a7 a8 a9 a10):
  C prog 30 #[.agg #[I J 1,I U a1,I U a2,I J a3,I J a4,I J a5,I U a6,I J a7,I J a8,I J a9,I U a10]] w (Gs 122 (λW db O=>Qu (a3==1) a4.toNat a1.toNat a2.toNat [] W db O/\cN a1 a2 a3 a4) (cN a1 a2 a3 a4) w):=by
 have f:B w.heap.size w (w.alloc (.cells #[I J 1,I U a1,I U a2,I J a3,I J a4,I J a5,I U a6,I J a7,I J a8,I J a9,I U a10] 28)):=(B.refl _ w).alloc (E _) _;by_cases F:Dk a1 a2=false\/(a3≠0/\a3≠1)\/a4<1\/4096<a4
 ·have G:=ZA (w.alloc (.cells #[I J 1,I U a1,I U a2,I J a3,I J a4,I J a5,I U a6,I J a7,I J a8,I J a9,I U a10] 28)) a1 a2 a3 a4 F;have HN:=Zh (show¬cN a1 a2 a3 a4 from λ⟨Y,_,i,j,h5⟩=>by
   rcases F with h|h|h
   ·rw[Y]at h;cases h
   ·omega
   ·omega)
  have K:=Zh f;clear f F;go_enter func30,ntmps30;go_wp2_with fail;refine G.mono ?_;rintro e v ⟨D,Z,rfl,H⟩;have g:=Zh (Zi Z (K.out.trans (H.mono K.out.size)));clear G H Z K;go_wp2_with fail;go_ret2;exact⟨_,D,rfl,g.out.2,λh=>absurd h g.out.1,λh=>absurd h HN.out⟩
 ·have d:Dk a1 a2=true:=by
   cases hh:Dk a1 a2
   ·exact absurd (.inl hh) F
   ·rfl
  have i:a3=0\/a3=1:=by
   by_cases h:a3=0
   ·exact .inl h
   ·by_cases o :a3=1
    ·exact .inr o
    ·exact absurd (.inr (.inl ⟨h,o⟩)) F
  have j:1<=a4/\a4<=4096:=by
   refine⟨?_,?_⟩
   ·by_cases h:a4<1
    ·exact absurd (.inr (.inr (.inl h))) F
    ·omega
   ·by_cases h:4096<a4
    ·exact absurd (.inr (.inr (.inr h))) F
    ·omega
  have G:=YZ (a3==1) (M:=a4.toNat) (by omega) (by omega) (w.alloc (.cells #[I J 1,I U a1,I U a2,I J a3,I J a4,I J a5,I U a6,I J a7,I J a8,I J a9,I U a10] 28)) a1.toNat a2.toNat;have X:=d;unfold Dk at X;simp only[fk,decide_eq_true_eq]at X;have r:((a1.toNat:Nat):Int)=a1:=by omega
  have p:((a2.toNat:Nat):Int)=a2:=by omega
  have u:((a4.toNat:Nat):Int)=a4:=by omega
  rw[r,p,u,<-cO i]at G;have G:=G d;have HG:=Zh (Zi d (Zi i j));have K:=Zh f;clear f F d i j X r p u;go_enter func30,ntmps30;go_wp2_with fail;refine G.mono ?_;rintro e v ⟨po,D,rfl,H,Y,a⟩;have g:=Zh (Zi (K.out.trans (H.mono K.out.size)) (Zi Y a));clear G H Y a;go_wp2_with fail;go_ret2;obtain⟨H,Y,a⟩:=g.out;obtain⟨g0,g3,g4,g5⟩:=HG.out;refine⟨_,D,rfl,H,λhc=> ?_,λhN=>a hN.2.1⟩;obtain⟨n,z,y,tb,vl,vr,ca,x,Oa,Oc,rfl,m,hl,hO⟩:=Y hc;have hz:=K.out.size;refine⟨z,_,rfl,⟨⟨n,y,tb,vl,vr,ca,x,Oa,Oc,m,?_,rfl⟩,g0,⟨n,m⟩,g3,g4,g5⟩,λk hk=>NW hz (hO k hk)⟩;rw[JJ,JJ];exact hl
theorem RT(w eb num den r)(h:CZ w eb (AK num++(AK den++r)))(z:num<=4294967296)(u:den<=4294967296)(hs:r.length<=900000000):
  C prog 71 #[P (S ⟨eb,0,N⟩)] w λe w' =>e=R (.agg #[I U num,I U den])/\CZ w' eb r/\AD (λk=>k=eb) w w' :=by
 have k1:=AC den (by omega);have y:=AI.lt h;have M:B w.heap.size w (w.alloc (.cells #[I U 0,I U 0] 25)):=Za;have f:CZ (w.alloc (.cells #[I U 0,I U 0] 25)) eb _:=AI.alloc h _;have m:AI (w.alloc (.cells #[I U 0,I U 0] 25)) w.heap.size _ 25:=AI.newAt rfl;have K:=DC _ eb num 4294967296 _ f z (by decide) (by simp only[Jx];omega);clear h;go_enter func71,ntmps71;go_wp2_with fail;refine K.mono ?_;rintro e w1 ⟨rfl,p,O⟩;have H:=DC _ eb den 4294967296 _ p u (by decide) (by omega);have g:=m.away O (by omega);have i:=(AD.of_below (F:=λk=>k=eb) M).trans' O (λ_ _ h=>h) (λ_ _ h=>h);clear K f O m;go_wp2_with fail;refine H.mono ?_;rintro e D ⟨rfl,d,a⟩;have G:=g.away a (by omega);have o:=i.trans' a (λ_ _ h=>h) (λ_ _ h=>h);have c0:D.cell? ⟨w.heap.size,0,N⟩=S (I U 0):=G.cell rfl;have c1:D.cell? ⟨w.heap.size,1,N⟩=S (I U 0):=G.cell rfl;have f0:D.frozen? ⟨w.heap.size,0,N⟩=false:=G.frozen 0;have f1:D.frozen? ⟨w.heap.size,1,N⟩=false:=G.frozen 1;have Z:AI ((D.setCell ⟨w.heap.size,0,N⟩ (I U num)).setCell ⟨w.heap.size,1,N⟩ (I U den)) w.heap.size #[I U num,I U den] 25:=(G.set 0 _).set 1 _;have Y:AD (λk=>k=w.heap.size) D ((D.setCell ⟨w.heap.size,0,N⟩ (I U num)).setCell ⟨w.heap.size,1,N⟩ (I U den)):=AD.setCell (AD.setCell (AD.refl (λk=>k=w.heap.size) D) ⟨w.heap.size,0,N⟩ _ (.inl rfl)) ⟨w.heap.size,1,N⟩ _ (.inl rfl)
 have X:=Zh (Zi (show CZ ((D.setCell ⟨w.heap.size,0,N⟩ (I U num)).setCell ⟨w.heap.size,1,N⟩ (I U den)) eb r from AI.away d Y (by omega)) (o.trans' Y (λ_ _ h=>h) λk hk e=>by omega));clear H g G i o a p d M Y;go_wp2_with fail;generalize(D.setCell ⟨w.heap.size,0,N⟩ (I U num)).setCell ⟨w.heap.size,1,N⟩ (I U den)=WW at Z X⊢;have x:=Z.cell (j:=0) rfl;have d1:=Z.cell (j:=1) rfl;refine bodyPost_ret (v:=.agg #[I U num,I U den]) ?_ rfl ⟨rfl,X.out.1,X.out.2⟩;simp[results,results71,go_sem,x,d1]
def PG(num den sd M zl zh z l0 l1:Nat)(k0 k1:AL):List UInt8:=AK num++(AK den++(AK sd++(AK M++(AK zl++(AK zh++(AK z++(AK l0++(AK l1++(Dc k0++(Dc k1++ []))))))))))
theorem Vk(num den H M O F z G l1)(K D:AL):NV num den H M O F z G l1 K D=PG num den H M O F z G l1 K D:=by unfold NV PG;simp only[ag,dT]
structure Ni(w:World)(eb pb:Nat)(cs:Array V)(lb l0 l1:Nat)(s:List UInt8)(W:World):Prop where
 rd:MM w eb pb cs s W
 lost:AI W lb #[I U l0,I U l1] 193
 far:lb≠eb
theorem Ni.look{w eb pb cs lb D l1 s s' W W'}(h:Ni w eb pb cs lb D l1 s W)(e:CZ W' eb s')(a:AD (λk=>k=eb) W W'):Ni w eb pb cs lb D l1 s' W' :=⟨h.rd.look e a,h.lost.away a h.far,h.far⟩
theorem Ni.next{w eb pb cs lb D l1 s W W'}(h:Ni w eb pb cs lb D l1 s W)(b:B W.heap.size W W'):Ni w eb pb cs lb D l1 s W' :=⟨h.rd.next b,h.lost.below b h.lost.lt,h.far⟩
structure ZB(w:World)(eb pb:Nat)(cs:Array V)(lb l0 l1 qb:Nat)(u0 u1:V)(k0 k1:AL)(W:World):Prop where
 rl:Ni w eb pb cs lb l0 l1 [] W
 rows:AI W qb #[u0,u1] 195
 o0:W.ownsRow 0 228 2 u0 k0.length (AV k0)
 o1:W.ownsRow 0 228 2 u1 k1.length (AV k1)
theorem ZB.next{w eb pb cs lb G l1 qb u0 u1}{H F:AL}{W W'}(h:ZB w eb pb cs lb G l1 qb u0 u1 H F W)(b:B W.heap.size W W'):ZB w eb pb cs lb G l1 qb u0 u1 H F W' :=
 ⟨h.rl.next b,h.rows.below b h.rows.lt,AE h.o0 b λg D=>(h.o0.lt g D).2,AE h.o1 b λg D=>(h.o1.lt g D).2⟩
theorem ZB.cells{w eb pb cs lb D l1 qb u0 u1}{G F:AL}{W}(h:ZB w eb pb cs lb D l1 qb u0 u1 G F W):W.cell? ⟨lb,0,N⟩=S (I U D)/\W.cell? ⟨lb,1,N⟩=S (I U l1)/\W.cell? ⟨qb,0,N⟩=S u0/\W.cell? ⟨qb,1,N⟩=S u1:=⟨h.rl.lost.cell rfl,h.rl.lost.cell rfl,h.rows.cell rfl,h.rows.cell rfl⟩
theorem MM.move{w eb pb cs s W W' G}(h:MM w eb pb cs s W)(a:AD G W W')(D:∀k,G k->W.heap.size<=k\/(pb<k/\k≠eb)):MM w eb pb cs s W' :=by
 have M:=h.cfg.lt;have F:=AI.lt h.eye;have O:=h.res.lt;have K:=h.ne;exact⟨AI.away h.eye a λe=>by have:=D _ e;omega,h.cfg.away a λe=>by have:=D _ e;omega,h.res.away a λe=>by have:=D _ e;omega,
  h.away.trans' a (λ_ _ h=>h) (λk H e=>by have:=D _ e;omega),h.ne⟩
theorem PH{W W' eb s u n F}(o:W.ownsRow 0 228 2 u n F)(D:CZ W eb s)(A:AD (λj=>j=eb) W W'):W'.ownsRow 0 228 2 u n F:=
 AU o A λg K e=>by
  obtain⟨G,H⟩:=AJ o K
  exact(H.ne (show AI W eb _ 153 from D) (by decide)) e
theorem ZC{W W' F eb s u n G}(o:W.ownsRow 0 228 2 u n G)(D:CZ W eb s)(A:AD (λj=>j=eb) (W.alloc F) W'):W'.ownsRow 0 228 2 u n G:=
 PH (AE o (Za) λg H=>(o.lt g H).2) (AI.alloc D F) A
structure dz(hi:Bool)(M num den:Nat)(w:World)(eb pb:Nat)(cs:Array V)(lb l0 l1 qb:Nat)(u0 u1:V)(k0 k1:AL)(n lg bb tb:Nat)(vl vr:V)(ca cc:Nat)(Oa Oc:Nat->Prop)(W0 W:World):Prop where
 rm:ZB w eb pb cs lb l0 l1 qb u0 u1 k0 k1 W
 lg:Bm hi M num den n W lg bb tb vl vr ca cc Oa Oc [] [] 0 0 0 0 0
 below:B W0.heap.size W0 W
theorem dz.drew{hi M num den w eb pb cs lb H l1 qb u0 u1}{e D:AL}{n d Z F Y X f K O a G W}(h:dz hi M num den w eb pb cs lb H l1 qb u0 u1 e D n d Z F Y X f K O a G W):dz hi M num den w eb pb cs lb H l1 qb u0 u1 e D n d Z F Y X f K O a G W.drew:=
 ⟨h.rm.next (B.refl _ _).drew,h.lg.next (B.refl _ _).drew,h.below.trans ((B.refl _ W).drew.mono h.below.size)⟩
def ft(w:World)(eb pb:Nat)(cs:Array V)(lb l0 l1:Nat)(k:AL)(s:List UInt8)(W:World)(e:Ending)(w' :World):Prop:=∃P q,e=R (L P k.length q)/\w'.ownsRow 0 228 2 (L P k.length q) k.length (AV k)/\Ni w eb pb cs lb l0 l1 s w' /\AD (λj=>j=eb) W w'
theorem cP{w eb pb cs lb F l1}{k:AL}{H s W args}(h:Ni w eb pb cs lb F l1 H W)(K:C prog 73 args W λe w' =>∃v,e=R v/\w'.ownsRow W.heap.size 228 2 v k.length (AV k)/\CZ w' eb s/\AD (λk=>k=eb) W w'):C prog 73 args W (ft w eb pb cs lb F l1 k s W):=
 K.mono λe w' G=>by
  obtain⟨v,rfl,o,D,A⟩:=G
  obtain⟨P,q,rfl⟩:=AF o
  exact⟨P,q,rfl,AO o (λ_ _=>Q0 _),h.look D A,A⟩
theorem Ni.box{w eb pb cs lb H l1 W}(h:Ni w eb pb cs lb H l1 [] W){u0 u1 x y}{G F:AL}(M:W.ownsRow 0 228 2 u0 G.length (AV G))(O:W.ownsRow 0 228 2 u1 F.length (AV F)){qb}(b:AI W qb #[x,y] 195)(f:pb<qb):ZB w eb pb cs lb H l1 qb u0 u1 G F ((W.setCell ⟨qb,0,N⟩ u0).setCell ⟨qb,1,N⟩ u1):=by
 have D:AD (λk=>k=qb) W ((W.setCell ⟨qb,0,N⟩ u0).setCell ⟨qb,1,N⟩ u1):=AD.setCell (AD.setCell (AD.refl (λk=>k=qb) W) ⟨qb,0,N⟩ _ (.inl rfl)) ⟨qb,1,N⟩ _ (.inl rfl);have K:∀{u:V} {k:AL},W.ownsRow 0 228 2 u k.length (AV k)->∀g,u.ownBlock=S g->¬g=qb:=λo g Y e=>by
  obtain⟨X,Z⟩:=AJ o Y;exact(Z.ne b (by decide)) e
 have a:¬qb=eb:=λe=>(b.ne (show AI W eb _ 153 from h.rd.eye) (by decide)) e;exact⟨⟨h.rd.move D λk d=>.inr ⟨by omega,by omega⟩,h.lost.away D λe=>(h.lost.ne b (by decide)) e,h.far⟩,(b.set 0 _).set 1 _,AU M D (K M),AU O D (K O)⟩
theorem Ni.boxN{w eb pb cs lb K l1 W}(h:Ni w eb pb cs lb K l1 [] W){u0 u1}{F D:AL}(M:W.ownsRow 0 228 2 u0 F.length (AV F))(O:W.ownsRow 0 228 2 u1 D.length (AV D)):ZB w eb pb cs lb K l1 W.heap.size u0 u1 F D (W.alloc (.cells #[u0,u1] 195)):=by
 have H:B W.heap.size W (W.alloc (.cells #[u0,u1] 195)):=Za;exact⟨h.next H,AI.newAt rfl,AE M H λg G=>(M.lt g G).2,AE O H λg G=>(O.lt g G).2⟩
theorem di{hi:Bool}(w)(eb num den D M z:Nat)(lo hh:Int)(Y G:AL)(Z l1:Nat)(vals:AM)(B9:((D:Nat):Int)=Dq hi)(hg:Dk num den=true)(D4:1<=M)(Ap:M<=4096)(h:CZ w eb (PG num den D M (AX lo) (AX hh) z Z l1 Y G))(Cs:Am lo)(C2:Am hh)(r0:Vh hi M Y Z)(r1:Vh hi M G l1)(Ck:Y.length<=M)(B3:G.length<=M)(hT:AB Y+Z+(AB G+l1)+z<=9223372036854775807)
  (B5:∀x∈Y,x.1<4000000000000000000/\1<=x.2/\x.2<9223372036854775808)(Bt:∀x∈G,x.1<4000000000000000000/\1<=x.2/\x.2<9223372036854775808)(GL:Y.length<=3000)(G2:G.length<=3000)
  (hv:∀n,IS num den n->DA hi M (GP num den n) vals=Y/\DA hi M (GQ num den n) vals=G/\AY (GP num den n) vals=AB Y+Z/\AY (GQ num den n) vals=AB G+l1/\AY Fb vals=z/\DH vals=lo/\DI vals=hh):
  Calls prog 50 #[P (S ⟨eb,0,N⟩)] w (Hs (Ae 1 (num:Int) (den:Int) (D:Int) (M:Int) 0 0 0 0 0 0) 122 (Qu hi M num den vals) w eb):=by
 have Bu:=hg;unfold Dk at Bu;simp only[fk,decide_eq_true_eq]at Bu;have E9:D<=1:=by cases hi<;>simp[Dq]at B9<;>omega
 have z0:=CN Y ⟨GL,r0.rising,λx o=>by have:=B5 x o;omega⟩;have z1:=CN G ⟨G2,r1.rising,λx o=>by have:=Bt x o;omega⟩;have HC:=AC D (by omega);have HG:=AC M (by omega);have HZ:=AC (AX lo) (Ao lo Cs).2;have HV:=AC (AX hh) (Ao hh C2).2;have HA:=AC z (by omega);have HB:=AC Z (by omega);have HF:=AC l1 (by omega);have B4:z<=9223372036854775807/\Z<=9223372036854775807/\l1<=9223372036854775807:=by omega
 unfold PG at h;have G9:=AI.lt h;have A9 :B w.heap.size w (w.alloc (.cells #[I J 0,I U 0,I U 0,I J 0,I J 0,I J 0,I U 0,I J 0,I J 0,I J 0,I U 0] 28)):=Za;have E0:CZ (w.alloc (.cells #[I J 0,I U 0,I U 0,I J 0,I J 0,I J 0,I U 0,I J 0,I J 0,I J 0,I U 0] 28)) eb _:=AI.alloc h _;have R0:AI (w.alloc (.cells #[I J 0,I U 0,I U 0,I J 0,I J 0,I J 0,I U 0,I J 0,I J 0,I J 0,I U 0] 28)) w.heap.size _ 28:=AI.newAt rfl;have Aw :=RT _ eb num den _ E0 (by omega) (by omega) (by simp only[Jx,V0];omega);have D5:=Zh (λW=>YZ hi D4 Ap W num den hg);have A0:Hid (∀W,Calls prog 41 #[.agg #[I U num,I U den,I J D,I J M]] W (fN hi M num den W)):=Zh (by rw[B9];exact D5.out);have HP:=Zh (Zi r0 (Zi r1 (Zi B5 (Zi Bt (Zi hT hv)))));have HM:=Zh (Zi D4 (Zi Ap (Zi Ck B3)));have GD:M<=4096:=Ap;have GK:Y.length<=M:=Ck;have Go:G.length<=M:=B3;clear h B5 Bt hv hT B9 hg Bu D5 r0 r1 Ap Ck B3;go_enter func50,ntmps50;go_wp2_with fail;refine Aw.mono ?_;rintro e w1 ⟨rfl,E1,A1⟩;have D3:=Bk _ eb D 1 _ E1 E9 (by decide) (by simp only[Jx,V0];omega);have R1:=R0.away A1 (by omega);have B1:=(AD.of_below (F:=λk=>k=eb) A9).trans' A1 (λ_ _ h=>h) (λ_ _ h=>h);clear Aw E0 A1 R0
 go_wp2_with fail;refine D3.mono ?_;rintro e HO ⟨rfl,E7,Bw⟩;have BX:=Bk _ eb M 4096 _ E7 GD (by decide) (by simp only[Jx,V0];omega);have C8:=R1.away Bw (by omega);have D1:=B1.trans' Bw (λ_ _ h=>h) (λ_ _ h=>h);clear D3 E1 Bw R1 B1;go_wp2_with fail;refine BX.mono ?_;rintro e w2 ⟨rfl,E2,A2⟩;have R2:=C8.away A2 (by omega);have B2:=D1.trans' A2 (λ_ _ h=>h) (λ_ _ h=>h);have GG:=R2.lt;have S2:MM w eb w2.heap.size (Ae 1 (num:Int) (den:Int) (D:Int) (M:Int) 0 0 0 0 0 0) _ (w2.alloc (.cells (Ae 1 (num:Int) (den:Int) (D:Int) (M:Int) 0 0 0 0 0 0) 28)):=⟨AI.alloc E2 _,AI.newAt rfl,R2.alloc _,B2.alloc _,by have:=AI.lt E2;omega,by omega,GG⟩;have Ba:=DD _ eb lo _ S2.eye Cs (by simp only[Jx,V0];omega);unfold Ae at Ba;clear BX C8 R2 D1 B2 A2 E7 E2 A9;go_wp2_with fail;refine Ba.mono ?_;rintro e w3 ⟨rfl,E3,A3⟩;have S3:=S2.look E3 A3;have D0:=DD _ eb hh _ S3.eye C2 (by simp only[Jx,V0];omega);clear Ba S2 E3 A3;go_wp2_with fail;refine D0.mono ?_;rintro e w4 ⟨rfl,E4,A4⟩;have S4:=S3.look E4 A4;have C3:=DC _ eb z 9223372036854775807 _ S4.eye B4.1 (by decide) (by simp only[Jx,V0];omega);clear D0 S3 E4 A4;generalize w2.heap.size=pb at S4⊢;go_wp2_with fail;refine C3.mono ?_;rintro e w5 ⟨rfl,E5,A5⟩;have S5:=S4.look E5 A5;have C1:=DC _ eb Z 9223372036854775807 _ S5.eye B4.2.1 (by decide) (by simp only[Jx,V0];omega)
 clear C3 S4 E5 A5;go_wp2_with fail;refine C1.mono ?_;rintro e HD ⟨rfl,D8,C9⟩;have Cp:=S5.look D8 C9;have C0:=DC _ eb l1 9223372036854775807 _ Cp.eye B4.2.2 (by decide) (by simp only[Jx,V0];omega);clear C1 S5 D8 C9;go_wp2_with fail;refine C0.mono ?_;rintro e w6 ⟨rfl,E6,A6⟩;have D2 :=Cp.look E6 A6;have S6:Ni w eb pb (Ae 1 (num:Int) (den:Int) (D:Int) (M:Int) 0 0 0 0 0 0) w6.heap.size Z l1 _ (w6.alloc (.cells #[I U Z,I U l1] 193)):=⟨D2.next (Za),AI.newAt rfl,by have:=AI.lt E6;omega⟩;clear C0 Cp E6 A6 D2;have d:=Zh S6;clear S6;have c3:(w6.alloc (.cells #[I U Z,I U l1] 193)).cell? ⟨pb,3,N⟩=S (I J D):=d.out.rd.cfg.cell rfl;have c4:(w6.alloc (.cells #[I U Z,I U l1] 193)).cell? ⟨pb,4,N⟩=S (I J M):=d.out.rd.cfg.cell rfl;go_upto_region 5 with fail;generalize w6.heap.size=lb at d c3 c4⊢;generalize w6.alloc (.cells #[I U Z,I U l1] 193)=W6 at d c3 c4⊢;go_cut [10]from 32 (λv wx=>∃qb u0 u1,v=P (S ⟨qb,0,N⟩)/\ZB w eb pb (Ae 1 (num:Int) (den:Int) (D:Int) (M:Int) 0 0 0 0 0 0) lb Z l1 qb u0 u1 Y G wx);case first=>
  have C4:=Zh (show∀W,Ni w eb pb (Ae 1 (num:Int) (den:Int) (D:Int) (M:Int) 0 0 0 0 0 0) lb Z l1 (Dc Y++(Dc G++ [])) W->Calls prog 73 #[P (S ⟨eb,0,N⟩),I J M] W (ft w eb pb (Ae 1 (num:Int) (den:Int) (D:Int) (M:Int) 0 0 0 0 0 0) lb Z l1 Y (Dc G++ []) W)from λW k=>cP k (I7 W eb M Y _ k.rd.eye GK (by omega) HP.out.1.rising HP.out.2.2.1 (by simp only[Jx,V0];omega)));have B0:=Zh (show∀W,Ni w eb pb (Ae 1 (num:Int) (den:Int) (D:Int) (M:Int) 0 0 0 0 0 0) lb Z l1 (Dc G++ []) W->Calls prog 73 #[P (S ⟨eb,0,N⟩),I J M] W (ft w eb pb (Ae 1 (num:Int) (den:Int) (D:Int) (M:Int) 0 0 0 0 0 0) lb Z l1 G [] W)from λW k=>cP k (I7 W eb M G _ k.rd.eye Go (by omega) HP.out.2.1.rising HP.out.2.2.2.1 (by decide)));have S6:Hid (Ni w eb pb (Ae 1 (num:Int) (den:Int) (D:Int) (M:Int) 0 0 0 0 0 0) lb Z l1 (Dc Y++(Dc G++ [])) W6.drew):=Zh (d.out.next (B.refl _ _).drew);have AA:Hid (pb<W6.heap.size/\eb<W6.heap.size):=Zh ⟨d.out.rd.cfg.lt,AI.lt d.out.rd.eye⟩;have G6:pb<W6.heap.size:=AA.out.1;have GF:Hid (Ni w eb pb (Ae 1 (num:Int) (den:Int) (D:Int) (M:Int) 0 0 0 0 0 0) lb Z l1 (Dc Y++(Dc G++ [])) (W6.alloc (.cells #[L N 0 0,L N 0 0] 195)).drew):=Zh ((d.out.next (Za)).next (B.refl _ _).drew);have BA:Hid (AI (W6.alloc (.cells #[L N 0 0,L N 0 0] 195)).drew W6.heap.size #[L N 0 0,L N 0 0] 195):=Zh (by have b:AI (W6.alloc (.cells #[L N 0 0,L N 0 0] 195)) W6.heap.size #[L N 0 0,L N 0 0] 195:=AI.newAt rfl;exact b.below (B.refl _ _).drew b.lt)
  go_region_with(first
   |((with_reducible refine(C4.out _ S6.out).mono ?_);rintro e w7 ⟨P0,q0,rfl,o0,f,A7⟩;have S7:=Zh (Zi f A7);have O0:=Zh o0;have d4:w7.cell? ⟨pb,4,N⟩=S (I J M):=f.rd.cfg.cell rfl;have E8:pb<w7.heap.size:=f.rd.cfg.lt;clear f A7 o0)
   |((with_reducible refine(C4.out _ GF.out).mono ?_);rintro e w7 ⟨P0,q0,rfl,o0,f,A7⟩;have S7:=Zh (Zi f A7);have O0:=Zh o0;have d4:w7.cell? ⟨pb,4,N⟩=S (I J M):=f.rd.cfg.cell rfl;have E8:pb<w7.heap.size:=f.rd.cfg.lt;have b7:AI w7 W6.heap.size #[L N 0 0,L N 0 0] 195:=AI.away BA.out A7 (by have:=AA.out;omega);have BQ:=Zh b7;clear f A7 o0 b7)
   |((with_reducible refine(B0.out _ S7.out.1).mono ?_);rintro e w8 ⟨P1,q1,rfl,o1,g,u⟩;have a:=Zh (Zi g u);have O1:=Zh o1;have O2:=Zh (PH O0.out S7.out.1.rd.eye u);have y:=BQ.out.away u (by have:=AA.out;omega);have y0:w8.cell? ⟨W6.heap.size,0,N⟩=S (L N 0 0):=y.cell rfl;have y1:w8.cell? ⟨W6.heap.size,1,N⟩=S (L N 0 0):=y.cell rfl;have y2:w8.frozen? ⟨W6.heap.size,0,N⟩=false:=y.frozen 0;have y3:w8.frozen? ⟨W6.heap.size,1,N⟩=false:=y.frozen 1;have BR:=Zh y;clear g u o1 y)
   |((with_reducible refine(B0.out _ S7.out.1).mono ?_);rintro e w8 ⟨P1,q1,rfl,o1,g,u⟩;have a:=Zh (Zi g u);have O1:=Zh o1;have O2:=Zh (PH O0.out S7.out.1.rd.eye u);clear g u o1)
   |((with_reducible refine(B0.out _ (S7.out.1.next (Za))).mono ?_);rintro e w8 ⟨P1,q1,rfl,o1,g,u⟩;have a:=Zh (Zi g u);have O1:=Zh o1;have O2:=Zh (ZC O0.out S7.out.1.rd.eye u);have y:AI w8 w7.heap.size #[L N 0 0,L N 0 0] 195:=AI.away (AI.newAt rfl) u (by have:=AA.out;have:=S7.out.1.rd.eye.lt;omega);have y0:w8.cell? ⟨w7.heap.size,0,N⟩=S (L N 0 0):=y.cell rfl;have y1:w8.cell? ⟨w7.heap.size,1,N⟩=S (L N 0 0):=y.cell rfl;have y2:w8.frozen? ⟨w7.heap.size,0,N⟩=false:=y.frozen 0;have y3:w8.frozen? ⟨w7.heap.size,1,N⟩=false:=y.frozen 1;have BR:=Zh y;clear g u o1 y))
  all_goals(
   go_wp2_with fail;go_meet;first
    |exact⟨_,_,_,rfl,Ni.boxN a.out.1 O2.out O1.out⟩
    |exact⟨_,_,_,rfl,Ni.box a.out.1 O2.out O1.out BR.out (by omega)⟩)
 case rest=>
  rename World=>W7;obtain⟨qb,u0,u1,rfl,X⟩:=hcut;obtain⟨P0,q0,rfl⟩:=AF X.o0;obtain⟨P1,q1,rfl⟩:=AF X.o1;have g1:W7.cell? ⟨pb,1,N⟩=S (I U num):=X.rl.rd.cfg.cell rfl;have g2:W7.cell? ⟨pb,2,N⟩=S (I U den):=X.rl.rd.cfg.cell rfl;have g3:W7.cell? ⟨pb,3,N⟩=S (I J D):=X.rl.rd.cfg.cell rfl;have g4:W7.cell? ⟨pb,4,N⟩=S (I J M):=X.rl.rd.cfg.cell rfl;have HX:=Zh X;clear X c3 c4 d;go_wp2_with fail;refine(A0.out _).mono ?_;rintro e w9 ⟨po,Av,rfl,b9,h9,GC⟩;have p:=Zh (Zi (HX.out.next b9) (Zi h9 (Zi b9.size (Zi HX.out.rl.rd.res.lt HX.out.rl.rd.cfg.lt))));clear g1 g2 g3 g4 b9 h9 GC HX A0;go_upto_region 7 with fail;go_cut [13]from 52 (λv wx=>∃ok:Bool,v=.bool ok/\MM w eb pb (Ae 1 (num:Int) (den:Int) (D:Int) (M:Int) 0 0 0 0 0 0) [] wx/\(ok=true->∃lg O,po=S ⟨lg,0,N⟩/\Qu hi M num den vals wx lg O/\∀k,O k->W7.heap.size<=k));case first=>
   obtain⟨y0,y1,y2,y3⟩:=p.out.1.cells;by_cases hc:Av=0
   ·subst hc;obtain⟨n,lg,bb,tb,vl,vr,ca,cc,Oa,Oc,rfl,ht,hl,hO⟩:=p.out.2.1 rfl;have G1:n<=4096:=ht.1;have H:dz hi M num den w eb pb (Ae 1 (num:Int) (den:Int) (D:Int) (M:Int) 0 0 0 0 0 0) lb Z l1 qb (L P0 Y.length q0) (L P1 G.length q1) Y G n lg bb tb vl vr ca cc Oa Oc w9 w9.drew:=dz.drew ⟨p.out.1,hl,B.refl _ _⟩;have HT:=Zh (Zi ht hO);clear ht hO hl y0 y1 y2 y3;have G5:=Zh (Zi HM.out.1 HM.out.2.1);refine Gv 13 10 (C:=(dz hi M num den w eb pb (Ae 1 (num:Int) (den:Int) (D:Int) (M:Int) 0 0 0 0 0 0) lb Z l1 qb (L P0 Y.length q0) (L P1 G.length q1) Y G n lg bb tb vl vr ca cc Oa Oc w9)) (by kernel_rfl) (by kernel_rfl) rfl H ?_;clear H;simp only[fp,fw];repeat go_big_quiet_step(exact λ_=>rfl)
    go_big_quiet_want;go_big_quiet_op;refine⟨.bool false,λwx o=> ?_,?_⟩
    ·exact(Hd wx eb _ o.rm.rl.rd.eye).mono λ_ _ hm=>⟨hm.1,hm.2▸o⟩
    go_big_quiet_on;repeat go_big_quiet_step(exact λ_=>rfl)
    go_big_quiet_want;go_big_quiet_op;refine⟨P (S ⟨bb,0,N⟩),λwx o=> ?_,?_⟩
    ·exact(UE _ _ _ _ _ _ _ _ _ _ _ _ _ _ _ _ _ o.lg).mono λ_ _ hm=>⟨hm.1,hm.2▸o⟩
    go_big_quiet_on;repeat go_big_quiet_step(exact λ_=>rfl)
    go_big_quiet_want;refine⟨.agg #[L P0 Y.length q0,L P1 G.length q1],λwx o=> ?_,?_⟩
    ·obtain⟨y0,y1,y2,y3⟩:=o.rm.cells;go_simp
    go_big_quiet_on;simp only[aw,Zp,Zq,Zr];repeat go_big_quiet_step(exact λ_=>rfl)
    go_big_quiet_want;refine⟨.agg #[I U Z,I U l1],λwx o=> ?_,?_⟩
    ·obtain⟨y0,y1,y2,y3⟩:=o.rm.cells;go_simp
    go_big_quiet_on;simp only[aw,Zp,Zq,Zr];repeat go_big_quiet_step(exact λ_=>rfl)
    refine wpQuiet_nil ?_;intro Ac m;have Bb:=bR HM.out.1 HM.out.2.1 G1 Ac bb tb vl vr ca cc Oa Oc m.lg.bn _ _ Y G Z l1 z m.rm.o0 m.rm.o1 HP.out.1 HP.out.2.1 HP.out.2.2.2.2.1;have HH:=Zh m;clear m;refine wpAny_ready (rs:=[13]) (by kernel_rfl) (by simp) ?_;refine AllReady.cons rfl (λK hK=> ?_) AllReady.nil;go_simp;all_goals(
    refine Bb.mono ?_;rintro e GE ⟨c2,rfl,Aa,Bs⟩;have Ay:Hid (pb<bb/\pb<lg/\bb≠eb/\lg≠eb):=Zh (by
     have h1:=HT.out.2 lg (.inl rfl);have h2:=HT.out.2 bb (.inr (.inl rfl));have h3:=p.out.2.2;have e1:lg≠eb:=λe=>(HH.out.lg.blk.ne (show AI Ac eb _ 153 from HH.out.rm.rl.rd.eye) (by decide)) e;have e2:bb≠eb:=λe=>(HH.out.lg.bn.blk.ne (show AI Ac eb _ 153 from HH.out.rm.rl.rd.eye) (by decide)) e;omega)
    have Ab:=HH.out.rm.rl.rd.move Aa (λk hk=>.inr (by have:=Ay.out;omega));by_cases CL:c2=0
    ·subst CL;obtain⟨cb,cd,Ob,Od,hB,FR,GA⟩:=Bs rfl;have Cr:Bm hi M num den n GE lg bb tb vl vr cb cd Ob Od Y G (AB Y+Z) (AB G+l1) z 0 0:=⟨HH.out.lg.blk.away Aa (λe=>HH.out.lg.not (.inl e)),hB⟩;have Ar:=dO _ _ _ _ _ _ _ _ _ _ _ _ _ _ _ _ _ Cr (by have:=HP.out.2.2.2.2.1;omega) lo hh;have HS:=Zh (Zi Ab (Zi FR GA));clear Bb Aa Bs Ab hB FR GA Cr;refine hK _ _ ?_;clear hK K;iterate 6 (refine Zt 23 (v:= ?_) rfl rfl (by kernel_rfl) (λ_ _ _ h=>h) (by kernel_rfl) ?_ ?_;rotate_left;focus (intro wz;go_simp;try with_reducible rfl))
     refine wpAny_ready (rs:=[20]) (by kernel_rfl) (by simp) ?_;refine AllReady.cons rfl (λK hK=> ?_) AllReady.nil;go_simp;refine Ar.mono ?_;rintro e Hc ⟨r,rfl,GB,Fn⟩;have HR:=Zh (Zi GB Fn);clear Ar GB Fn;refine hK _ _ ?_;clear hK K;iterate 2 (refine Zt 23 (v:= ?_) rfl rfl (by kernel_rfl) (λ_ _ _ h=>h) (by kernel_rfl) ?_ ?_;rotate_left;focus (intro wz;go_simp;try with_reducible rfl))
     refine wpAny_done (by kernel_rfl) ?_ _;go_wp2_with fail;go_meet;refine⟨r,rfl,HS.out.1.move HR.out.1 (λk hk=>.inr (by have:=Ay.out;omega)),λhr=>⟨lg,_,rfl,⟨n,bb,tb,vl,vr,cb,cd,Ob,Od,HT.out.1,?_,rfl⟩,?_⟩⟩
     ·obtain⟨v0,v1,v2,v3,v4,v5,v6⟩:=HP.out.2.2.2.2.2 n HT.out.1;rw[v0,v1,v2,v3,v4,v5,v6];exact HR.out.2 hr
     ·have hz:=p.out.2.2.1;have HE:=HH.out.below.size;rintro k (rfl|rfl|e|e|e)
      ·exact HT.out.2 _ (.inl rfl)
      ·exact HT.out.2 _ (.inr (.inl rfl))
      ·exact HT.out.2 _ (.inr (.inr (.inl e)))
      ·have:=HS.out.2.1 k e;omega
      ·have:=HS.out.2.2 k e;omega
    ·have ec:(c2==0)=false:=by simp[CL]
     have HS:=Zh Ab;clear Bb Aa Bs Ab CL;refine hK _ _ ?_;clear hK K;iterate 3 (refine Zt 23 (v:= ?_) rfl rfl (by kernel_rfl) (λ_ _ _ h=>h) (by kernel_rfl) ?_ ?_;rotate_left;focus (intro wz;go_simp;try with_reducible rfl))
     refine wpAny_take (i:=17) (v:=undef) rfl (by kernel_rfl) (by kernel_rfl) (by kernel_rfl) (λ_ _ _ h=>h) (Or.inr ⟨by kernel_rfl,rfl⟩) ?_;refine wpAny_take (i:=18) (v:=undef) rfl (by kernel_rfl) (by kernel_rfl) (by kernel_rfl) (λ_ _ _ h=>h) (Or.inr ⟨by kernel_rfl,rfl⟩) ?_;refine wpAny_take (i:=19) (v:=undef) rfl (by kernel_rfl) (by kernel_rfl) (by kernel_rfl) (λ_ _ _ h=>h) (Or.inr ⟨by kernel_rfl,rfl⟩) ?_;refine wpAny_take (i:=20) (v:=undef) rfl (by kernel_rfl) (by kernel_rfl) (by kernel_rfl) (λ_ _ _ h=>h) (Or.inr ⟨by kernel_rfl,rfl⟩) ?_;iterate 2 (refine Zt 23 (v:= ?_) rfl rfl (by kernel_rfl) (λ_ _ _ h=>h) (by kernel_rfl) ?_ ?_;rotate_left;focus (intro wz;go_simp;try with_reducible rfl))
     refine wpAny_done (by kernel_rfl) ?_ _;go_wp2_with fail;go_meet;exact⟨false,rfl,HS.out,λh=>absurd h (by decide)⟩)
   ·have ec:(Av==0)=false:=by simp[hc]
    have H:ZB w eb pb (Ae 1 (num:Int) (den:Int) (D:Int) (M:Int) 0 0 0 0 0 0) lb Z l1 qb (L P0 Y.length q0) (L P1 G.length q1) Y G w9.drew:=p.out.1.next (B.refl _ _).drew;clear hc y0 y1 y2 y3;refine AG (C:=ZB w eb pb (Ae 1 (num:Int) (den:Int) (D:Int) (M:Int) 0 0 0 0 0 0) lb Z l1 qb (L P0 Y.length q0) (L P1 G.length q1) Y G) (by kernel_rfl) (by kernel_rfl) H ?_;clear H;repeat go_big_quiet_step(exact λ_=>rfl)
    go_big_quiet_want;go_big_quiet_op;refine⟨.bool false,λwx o=> ?_,?_⟩
    ·exact(Hd wx eb _ o.rl.rd.eye).mono λ_ _ hm=>⟨hm.1,hm.2▸o⟩
    go_big_quiet_on;repeat go_big_quiet_step(exact λ_=>rfl)
    refine wpQuiet_nil ?_;intro Ac m;have HS:=Zh m.rl.rd;clear m;go_wp2_with fail;go_meet;exact⟨false,rfl,HS.out,λh=>absurd h (by decide)⟩
  case rest=>
   obtain⟨ok,rfl,a,h7⟩:=hcut;rename World=>W8;have GM:w.heap.size<W7.heap.size:=p.out.2.2.2.1;have Hb :W8.cell? ⟨pb,0,N⟩=S (I J 1):=a.cfg.cell rfl;have HW :W8.cell? ⟨pb,1,N⟩=S (I U num):=a.cfg.cell rfl;have HI :W8.cell? ⟨pb,2,N⟩=S (I U den):=a.cfg.cell rfl;have HU :W8.cell? ⟨pb,3,N⟩=S (I J D):=a.cfg.cell rfl;have HY :W8.cell? ⟨pb,4,N⟩=S (I J M):=a.cfg.cell rfl;have G7 :W8.cell? ⟨pb,5,N⟩=S (I J 0):=a.cfg.cell rfl;have HQ :W8.cell? ⟨pb,6,N⟩=S (I U 0):=a.cfg.cell rfl;have HL :W8.cell? ⟨pb,7,N⟩=S (I J 0):=a.cfg.cell rfl;have G8 :W8.cell? ⟨pb,8,N⟩=S (I J 0):=a.cfg.cell rfl;have HN :W8.cell? ⟨pb,9,N⟩=S (I J 0):=a.cfg.cell rfl;have G3 :W8.cell? ⟨pb,10,N⟩=S (I U 0):=a.cfg.cell rfl;obtain⟨⟨m0,m1,m2,m3,m4,m5,m6,m7,m8,m9,HK⟩,⟨f0,f1,f2,f3,f4,f5,f6,f7,f8,f9,HJ⟩⟩:=CU a.res;have hp:=DO (a0:=1) (a1:=(num:Int)) (a2:=(den:Int)) (a3:=(D:Int)) (a4:=(M:Int)) (a5:=0) (a6:=0) (a7:=0) (a8:=0) (a9:=0) (a10:=0) a.res;have Ax:=Zh (MN (Ji hi M num den) (vals:=vals) (T:=122) (po:=po) (ok:=ok) (a0:=1) (a1:=(num:Int)) (a2:=(den:Int)) (a3:=(D:Int)) (a4:=(M:Int)) (a5:=0) (a6:=0) (a7:=0) (a8:=0) (a9:=0) (a10:=0) a GM h7);clear a h7;go_wp2_with fail;change bodyPost prog f50 (Hs (Ae 1 (num:Int) (den:Int) (D:Int) (M:Int) 0 0 0 0 0 0) 122 (Qu hi M num den vals) w eb) Exit.ret _ (EZ W8 w.heap.size 1 (num:Int) (den:Int) (D:Int) (M:Int) 0 0 0 0 0 0)
   generalize EZ W8 w.heap.size 1 (num:Int) (den:Int) (D:Int) (M:Int) 0 0 0 0 0 0=WW at hp Ax⊢;have c0:=hp.cell (j:=0) rfl;have c1:=hp.cell (j:=1) rfl;have c2:=hp.cell (j:=2) rfl;have c3:=hp.cell (j:=3) rfl;have c4:=hp.cell (j:=4) rfl;have c5:=hp.cell (j:=5) rfl;have c6:=hp.cell (j:=6) rfl;have c7:=hp.cell (j:=7) rfl;have c8:=hp.cell (j:=8) rfl;have c9:=hp.cell (j:=9) rfl;have GH:=hp.cell (j:=10) rfl;refine bodyPost_ret (v:=.tuple #[.agg (Ae 1 (num:Int) (den:Int) (D:Int) (M:Int) 0 0 0 0 0 0),.iface 122 (.agg #[P po]),.bool ok]) ?_ rfl Ax.out;simp[results,results50,go_sem,Ae,c0,c1,c2,c3,c4,c5,c6,c7,c8,c9,GH]
theorem TL{G}{rest:List Oper}{o a Q}(H:o.guard=N)(s x)(i:o.op=.call {callee:=.builtin .append,args:= #[s,x],argTypes:= #[186,186]})
  {W B n c}{l:List Af}{A}(F:W.ownsRow B 207 3 (L A n c) n (Ad l))(r:B<=W.heap.size)(Z:n<=100000){X:Af}{b}(k:a.eval s=L A n c)(m:a.eval x=L (S ⟨b,0,N⟩) 1 1)(e:AI W b #[I U X.1,I J X.2.1,I J X.2.2] 207)
  (h:∀A' c' K,K.ownsRow B 207 3 (L A' (n+1) c') (n+1) (Ad (l++ [X]))->W.grownBy K (L A n c).ownBlock->wpList prog G Q rest (a.put o.dst (L A' (n+1) c')) K):wpList prog G Q (o::rest) a W:=by
 obtain⟨g,hi,M,O,Y⟩:=info_parts FM;refine wpList_append_own _ H s x 186 i B 207 g _ 3 24 underlying186 hi M O Y rfl (by decide) _ _ _ k F ⟨b,0,N⟩ 1 1 (Ci X) m rfl ?_ ?_ (by unfold maxLen;omega) (by omega) r ?_
 ·intro j u p;rw[Addr.add_lit,Nat.zero_add];exact e.cell (by simpa[Ci]using p)
 ·intro u d;simp[Ci]at d;rcases d with rfl|rfl|rfl<;>rfl
 intro v' w' D f _;obtain⟨A',c',rfl⟩:=AF D;rw[show Ad l++Ci X=Ad (l++ [X]) by rw[GJ];simp[Ad]]at D;exact h A' c' w' D f
def PI(most:Nat)(l:List Af):List UInt8:=AK most++(AK l.length++l.flatMap Gb)
theorem ZD(most)(l:List Af):MH most l=PI most l:=by unfold MH PI;simp only[ag]
theorem Fx:∀(l:List Af),(∀y∈l,Kg y/\y.1<18446744073709551616)->(l.flatMap Gb).length<=30*l.length
 | [],_=>by simp
 |x::l,h=>by
  have F:=Fx l λy D=>h y (fx _ D)
  have G:=RM x (h x (es ..)).1 (h x (es ..)).2
  rw[RR,Jx,fy]
  omega
structure ZE(w:World)(eb pb:Nat)(cs:Array V)(l:List Af)(q:Nat)(A:Option Addr)(c:Nat)(s:List UInt8)(W:World):Prop where
 rd:MM w eb pb cs s W
 own:W.ownsRow (pb+1) 207 3 (L A q c) q (Ad (l.take q))
section
variable {w:World} {eb pb:Nat} {cs:Array V} {l:List Af} {q:Nat} {A:Option Addr} {c:Nat} {s s' :List UInt8} {W W' :World}
theorem ZE.look(h:ZE w eb pb cs l q A c s W)(e:CZ W' eb s')(a:AD (λk=>k=eb) W W'):ZE w eb pb cs l q A c s' W' :=
 ⟨h.rd.look e a,AU h.own a λg F G =>by
  obtain⟨D,H⟩:=AJ h.own F
  exact(H.ne (show AI W eb _ 153 from h.rd.eye) (by decide)) G⟩
theorem ZE.next(h:ZE w eb pb cs l q A c s W)(b:B W.heap.size W W'):ZE w eb pb cs l q A c s W' :=⟨h.rd.next b,AE h.own b λg D=>(h.own.lt g D).2⟩
theorem ZE.grown{A' c'}{X:Af}(h:ZE w eb pb cs l q A c s W)(G:l.take (q+1)=l.take q++ [X])(o:W'.ownsRow (pb+1) 207 3 (L A' (q+1) c') (q+1) (Ad (l.take q++ [X])))(g:W.grownBy W' (L A q c).ownBlock):ZE w eb pb cs l (q+1) A' c' s W' :=by
 have a:AD (λk=>(L A q c).ownBlock=S k) W W' :=AD.of_grown g λk D=>D;refine⟨h.rd.move a λk D=>.inr ?_,by rw[G];exact o⟩;have K:=(h.own.lt k D).1;obtain⟨F,H⟩:=AJ h.own D;exact⟨by omega,H.ne (show AI W eb _ 153 from h.rd.eye) (by decide)⟩
end
theorem bT(most)(B3:2<=most)(A7:most<=64)(w eb)(l:List Af)(vals:AM)(h:CZ w eb (PI most l))(hl:l.length<=64)(hg:∀y∈l,Kg y)(hT:Bl l=BH vals)(Ac:BH vals<=7200):
  C prog 55 #[P (some ⟨eb,0,N⟩)] w (Hs (Ae 6 0 0 0 (most:Int) 0 0 0 0 0 0) 148 (Om most vals) w eb):=by
 have Aa:∀y∈l,Kg y/\y.1<18446744073709551616:=λy hy=>⟨hg y hy,by have:=Gw hy;omega⟩
 have Ba:=Fx l Aa;have k1:=AC l.length (by omega);unfold PI at h;have B9:=AI.lt h;have AA :B w.heap.size w (w.alloc (.cells #[I J 0,I U 0,I U 0,I J 0,I J 0,I J 0,I U 0,I J 0,I J 0,I J 0,I U 0] 28)):=Za;have E0:CZ (w.alloc (.cells #[I J 0,I U 0,I U 0,I J 0,I J 0,I J 0,I U 0,I J 0,I J 0,I J 0,I U 0] 28)) eb _:=AI.alloc h _;have R0:AI (w.alloc (.cells #[I J 0,I U 0,I U 0,I J 0,I J 0,I J 0,I U 0,I J 0,I J 0,I J 0,I U 0] 28)) w.heap.size _ 28:=AI.newAt rfl;have u :=Bk _ eb most 64 _ E0 A7 (by decide) (by simp only[Jx];omega);have z:=Zh (Zi hg (Zi Aa (Zi hT Ac)));obtain⟨m,r⟩:∃m,m=l.length:=⟨_,rfl⟩;rw[<-r]at hl Ba;have K:=Zh r;clear h hg Aa hT Ac;go_enter func55,ntmps55;go_wp2_with fail;refine u.mono ?_;rintro e w2 ⟨rfl,E2,A2⟩;have R2:=R0.away A2 (by omega);have B2:=(AD.of_below (F:=λk=>k=eb) AA).trans' A2 (λ_ _ h=>h) (λ_ _ h=>h);have Bs:=R2.lt;have S2:MM w eb w2.heap.size (Ae 6 0 0 0 (most:Int) 0 0 0 0 0 0) _ (w2.alloc (.cells (Ae 6 0 0 0 (most:Int) 0 0 0 0 0 0) 28)):=⟨AI.alloc E2 _,AI.newAt rfl,R2.alloc _,B2.alloc _,by have:=AI.lt E2;omega,by omega,Bs⟩;have o:=Bk _ eb l.length 64 _ S2.eye (by omega) (by decide) (by omega);rw[<-r]at o;unfold Ae at o;clear u E0 A2 R0 R2 B2 E2 AA
 go_wp2_with fail;refine o.mono ?_;rintro e w3 ⟨rfl,E3,A3⟩;have S3:=S2.look E3 A3;have d:w2.heap.size+1<=w3.heap.size:=S3.cfg.lt;generalize w2.heap.size=pb at S3 d⊢;have A0:=Zh (show ZE w eb pb (Ae 6 0 0 0 (most:Int) 0 0 0 0 0 0) l 0 N 0 ((l.drop 0).flatMap Gb) w3 from⟨by simpa using S3,W.ownsRow_nil _ _ _ _⟩);clear o S2 E3 A3 S3 r;go_wp2_with fail;go_loopg [6,14] m (λg s i p=>∃(q:Nat) (A:Option Addr) (c:Nat),i=I J q/\q<=m/\m-q<=g/\s=L A q c/\ZE w eb pb (Ae 6 0 0 0 (most:Int) 0 0 0 0 0 0) l q A c ((l.drop q).flatMap Gb) p/\pb+1<=p.heap.size);case atStart=>exact⟨0,N,0,rfl,Q0 _,E _,rfl,A0.out,d⟩
 case round=>
  clear A0 d;rename W=>p;obtain⟨q,A,c,rfl,hq,hg,rfl,S,d⟩:=hrel;by_cases Bu:q<m
  ·have g1:(q:Int)<(m:Int):=by omega
   have D:q<l.length:=by rw[<-K.out];exact Bu
   have Y:l.take (q+1)=l.take q++ [l[q]'D]:=fa D;have Z:(l.drop q).flatMap Gb=AK (AX (l[q]'D).2.1)++(AK (AX (l[q]'D).2.2)++(AK (l[q]'D).1++(l.drop (q+1)).flatMap Gb)):=by
    rw[<-gQ D,RR];unfold Gb;simp only[ag]
   obtain⟨H,Ab⟩:=z.out.2.1 _ (bh D);have A8:=Gw (bh D);have Bb:(l[q]'D).1<=7200:=by have:=z.out.2.2;omega
   have B4:=Fx (l.drop (q+1)) λy hy=>z.out.2.1 y (gR hy);have BX:(l.drop (q+1)).length<=64:=by rw[gS];have:=K.out;omega
   generalize l[q]'D=X at Y Z H Ab A8 Bb;have z1:=AC X.1 Ab;have z2:=AC (AX X.2.2) (Ao _ H.2.2).2;rw[Z]at S;have Aw:=DD p eb X.2.1 _ S.rd.eye H.2.1 (by simp only[Jx];omega);have BQ:=Zh (Zi Y H);have HS:=Zh S;have B5:((l.drop (q+1)).flatMap Gb).length<=2000:=by omega
   clear Y Z A8 B4 BX S;go_wp2_with fail;refine Aw.mono ?_;rintro e w4 ⟨rfl,E4,A4⟩;have S4:=HS.out.look E4 A4;have Ay:=DD w4 eb X.2.2 _ S4.rd.eye H.2.2 (by simp only[Jx];omega);have p4:pb+1<=w4.heap.size:=NW d A4.size;have BA:=Zh S4;clear Aw E4 A4 S4 HS;go_wp2_with fail;refine Ay.mono ?_;rintro e w5 ⟨rfl,E5,A5⟩;have S5:=BA.out.look E5 A5;have Ax:=He w5 eb X.1 _ S5.rd.eye H.1 (by omega) (by omega);have p5:pb+1<=w5.heap.size:=NW p4 A5.size;have Av:=Zh S5;clear Ay E5 A5 S5 BA;go_wp2_with fail;refine Ax.mono ?_;rintro e w6 ⟨rfl,E6,A6⟩;have S6:=Av.out.look E6 A6;have p6:pb+1<=w6.heap.size:=NW p5 A6.size;have S7:=S6.next ((B.refl _ w6).alloc (E _) (.cells #[I U X.1,I J X.2.1,I J X.2.2] 207));have O:=Zh S7;have q5:q<=100000:=by omega
   have p7:pb+1<=(w6.alloc (.cells #[I U X.1,I J X.2.1,I J X.2.2] 207)).heap.size:=by simp;omega
   have Ap:=Zh p7;clear Ax E6 A6 S6 Av S7 H Ab p7;go_wp2_with(at_builtin;refine TL rfl _ _ rfl O.out.own Ap.out q5 rfl rfl (AI.newAt rfl) ?_);intro A' c' M o8 g8;have G:=O.out.grown BQ.out.1 o8 g8;have p8:pb+1<=M.heap.size:=NW Ap.out g8.size;have B0:=Zh G;clear o8 g8 G O;go_wp2_with fail;go_roundg (m-(q+1));case measure=>omega
   exact⟨q+1,A',c',by go_num,by omega,E _,rfl,B0.out,p8⟩
  ·have g1:¬(q:Int)<(m:Int):=by omega
   have Y:l.take q=l:=fj (by have:=K.out;omega);have Z:l.drop q=[]:=gT (by have:=K.out;omega);rw[Z]at S;have S7:MM w eb pb (Ae 6 0 0 0 (most:Int) 0 0 0 0 0 0) [] p:=S.rd;have ho:=S.own;rw[Y]at ho;have Ar:q=l.length:=by have:=K.out;omega
   have A9:p.ownsRow 0 207 3 (L A q c) l.length (Ad l):=by rw[<-Ar];exact AO ho λ_ _=>Q0 _
   have A1:=bP most B3 A7 p _ l A9 (by have:=K.out;omega) z.out.1 (by have:=z.out.2.2;omega);have k4:p.cell? ⟨pb,4,N⟩=some (I J most):=S7.cfg.cell rfl;have O:=Zh S7;have B1:=Zh (show l.length<=64 by have:=K.out;omega);clear S Y Z ho A9 S7 Ar;go_wp2_with fail;refine A1.mono ?_;rintro e M ⟨po,f,rfl,b8,h8⟩;have G:=O.out.next b8;have k0:M.cell? ⟨pb,0,N⟩=some (I J 6):=G.cfg.cell rfl;have k1:M.cell? ⟨pb,1,N⟩=some (I U 0):=G.cfg.cell rfl;have k2:M.cell? ⟨pb,2,N⟩=some (I U 0):=G.cfg.cell rfl;have k3:M.cell? ⟨pb,3,N⟩=some (I J 0):=G.cfg.cell rfl;have k4:M.cell? ⟨pb,4,N⟩=some (I J most):=G.cfg.cell rfl;have k5:M.cell? ⟨pb,5,N⟩=some (I J 0):=G.cfg.cell rfl;have k6:M.cell? ⟨pb,6,N⟩=some (I U 0):=G.cfg.cell rfl;have k7:M.cell? ⟨pb,7,N⟩=some (I J 0):=G.cfg.cell rfl;have k8:M.cell? ⟨pb,8,N⟩=some (I J 0):=G.cfg.cell rfl;have k9:M.cell? ⟨pb,9,N⟩=some (I J 0):=G.cfg.cell rfl;have CL:M.cell? ⟨pb,10,N⟩=some (I U 0):=G.cfg.cell rfl;obtain⟨⟨m0,m1,m2,m3,m4,m5,m6,m7,m8,m9,Cp⟩,⟨f0,f1,f2,f3,f4,f5,f6,f7,f8,f9,Ck⟩⟩:=CU G.res;have Bw:w.heap.size<p.heap.size:=O.out.res.lt;have a:=DO (a0:=6) (a1:=0) (a2:=0) (a3:=0) (a4:=(most:Int)) (a5:=0) (a6:=0) (a7:=0) (a8:=0) (a9:=0) (a10:=0) G.res;have x:=Zh (MN (Lo most) (vals:=vals) (T:=148) (po:=po) (ok:=(f==0)) (a0:=6) (a1:=0) (a2:=0) (a3:=0) (a4:=(most:Int)) (a5:=0) (a6:=0) (a7:=0) (a8:=0) (a9:=0) (a10:=0) G Bw (λhk=>by
    have hc:f=0:=by simpa using hk
    obtain⟨sb,v,rfl,HD,BR⟩:=h8 hc;refine⟨sb,_,rfl,⟨v,l,by rw[<-z.out.2.2.1];exact HD.lm,z.out.2.2.1,z.out.1,BR,rfl⟩,?_⟩;rintro k (rfl|hk)
    ·exact HD.nsb
    ·exact HD.nv k hk))
   clear A1 G O h8 g1 B1;go_wp2_with fail;change bodyPost prog f55 (Hs (Ae 6 0 0 0 (most:Int) 0 0 0 0 0 0) 148 (Om most vals) w eb) Exit.ret _ (EZ M w.heap.size 6 0 0 0 (most:Int) 0 0 0 0 0 0);generalize EZ M w.heap.size 6 0 0 0 (most:Int) 0 0 0 0 0 0=WW at a x⊢;have c0:=a.cell (j:=0) rfl;have c1:=a.cell (j:=1) rfl;have c2:=a.cell (j:=2) rfl;have c3:=a.cell (j:=3) rfl;have c4:=a.cell (j:=4) rfl;have c5:=a.cell (j:=5) rfl;have c6:=a.cell (j:=6) rfl;have c7:=a.cell (j:=7) rfl;have c8:=a.cell (j:=8) rfl;have c9:=a.cell (j:=9) rfl;have Bt:=a.cell (j:=10) rfl;refine bodyPost_ret (v:=.tuple #[.agg (Ae 6 0 0 0 (most:Int) 0 0 0 0 0 0),.iface 148 (.agg #[P po]),.bool (f==0)]) ?_ rfl x.out;simp[results,results55,go_sem,Ae,c0,c1,c2,c3,c4,c5,c6,c7,c8,c9,Bt]
def Gc(x:BM):List UInt8:=AK (AX x.1)++(AK x.2.1++AK x.2.2)
def GT(num den:Nat)(row:List BM)(ws:List Int):List UInt8:=AK num++(AK den++(AK row.length++(row.flatMap Gc++(AK ws.length++BP ws))))
def el(x:BM):Prop:=Am x.1/\1<=x.2.1/\x.2.1<16384/\x.2.2<16384
theorem Sv.small{N}{x:BM}(h:Sv N x)(D:N<16384):el x:=⟨h.1,h.2.1,by have:=h.2.2;omega,by have:=h.2.2;omega⟩
theorem RU(x:BM)(h:el x):(Gc x).length<=14:=by
 have F:=AC (AX x.1) (Ao _ h.1).2;have D:=Gk 1 x.2.1 (by have:=h.2.2.1;omega);have G:=Gk 1 x.2.2 (by have:=h.2.2.2;omega);unfold Gc;simp only[Jx];omega
theorem Fy:∀(l:List BM),(∀y∈l,el y)->(l.flatMap Gc).length<=14*l.length
 | [],_=>by simp
 |x::l,h=>by
  have F:=Fy l λy D=>h y (fx _ D)
  have G:=RU x (h x (es ..))
  rw[RR,Jx,fy]
  omega
structure ZF(w:World)(eb pb:Nat)(cs:Array V)(l:List BM)(q:Nat)(A:Option Addr)(c:Nat)(s:List UInt8)(W:World):Prop where
 rd:MM w eb pb cs s W
 own:W.ownsRow (pb+1) 202 3 (L A q c) q (AR (l.take q))
section
variable {w:World} {eb pb:Nat} {cs:Array V} {l:List BM} {q:Nat} {A:Option Addr} {c:Nat} {s s' :List UInt8} {W W' :World}
theorem ZF.look(h:ZF w eb pb cs l q A c s W)(e:CZ W' eb s')(a:AD (λk=>k=eb) W W'):ZF w eb pb cs l q A c s' W' :=
 ⟨h.rd.look e a,AU h.own a λg F G =>by
  obtain⟨D,H⟩:=AJ h.own F
  exact(H.ne (show AI W eb _ 153 from h.rd.eye) (by decide)) G⟩
theorem ZF.next(h:ZF w eb pb cs l q A c s W)(b:B W.heap.size W W'):ZF w eb pb cs l q A c s W' :=⟨h.rd.next b,AE h.own b λg D=>(h.own.lt g D).2⟩
theorem ZF.grown{A' c'}{X:BM}(h:ZF w eb pb cs l q A c s W)(G:l.take (q+1)=l.take q++ [X])(o:W'.ownsRow (pb+1) 202 3 (L A' (q+1) c') (q+1) (AR (l.take q++ [X])))(g:W.grownBy W' (L A q c).ownBlock):ZF w eb pb cs l (q+1) A' c' s W' :=by
 have a:AD (λk=>(L A q c).ownBlock=S k) W W' :=AD.of_grown g λk D=>D;refine⟨h.rd.move a λk D=>.inr ?_,by rw[G];exact o⟩;have K:=(h.own.lt k D).1;obtain⟨F,H⟩:=AJ h.own D;exact⟨by omega,H.ne (show AI W eb _ 153 from h.rd.eye) (by decide)⟩
end
theorem ZG(num den:Nat)(A1:Ki num den=true)(w)(eb:Nat)(row:List BM)(ws)(vals:AM)(h:CZ w eb (GT num den row ws))(Y:Cv (max (BH vals) 1) row)(hT:BO row+ws.length=BH vals)(BR:BH vals<=7200)(hf:ws.length<16)(hI:∀x∈ws,Am x):
  C prog 53 #[P (some ⟨eb,0,N⟩)] w (Hs (Ae 4 (num:Int) (den:Int) 0 0 0 0 0 0 0 0) 136 (Oz num den vals) w eb):=by
 obtain⟨D3,D0,Cs⟩:=(Hy num den).1 A1;have D2:=Cj row Y;have A7:∀y∈row,el y:=λy hy=>(Y y hy).small (by omega);have C1:=Fy row A7;have BA:=CO ws hI;have k1:=AC num (by omega);have k2:=AC den (by omega);have k3:=AC row.length (by omega);have k4:=AC ws.length (by omega);unfold GT at h;have E7:=AI.lt h;have A0 :B w.heap.size w (w.alloc (.cells #[I J 0,I U 0,I U 0,I J 0,I J 0,I J 0,I U 0,I J 0,I J 0,I J 0,I U 0] 28)):=Za;have E0:CZ (w.alloc (.cells #[I J 0,I U 0,I U 0,I J 0,I J 0,I J 0,I U 0,I J 0,I J 0,I J 0,I U 0] 28)) eb _:=AI.alloc h _;have R0:AI (w.alloc (.cells #[I J 0,I U 0,I U 0,I J 0,I J 0,I J 0,I U 0,I J 0,I J 0,I J 0,I U 0] 28)) w.heap.size _ 28:=AI.newAt rfl;have z :=RT _ eb num den _ E0 (by omega) (by omega) (by simp only[Jx];omega);have O:=Zh (Zi A1 (Zi Y (Zi hT (Zi BR (Zi hf (Zi hI A7))))));obtain⟨m,Ar⟩:∃m,m=row.length:=⟨_,rfl⟩;obtain⟨m2,Aw⟩:∃m2,m2=ws.length:=⟨_,rfl⟩;have D5:m<=7200:=by omega
 have D8:m2<16:=by omega
 obtain⟨rest,K⟩:∃rest,rest=AK ws.length++BP ws:=⟨_,rfl⟩;have GA:rest.length<=200:=by rw[K,Jx];omega
 rw[<-K]at z;rw[<-Ar]at C1 k3;have H:=Zh (Zi Ar (Zi Aw K));clear h A1 Y hT BR hf hI A7 D3 D0 Cs D2 BA k1 k2 k4 K;go_enter func53,ntmps53;go_wp2_with fail;refine z.mono ?_;rintro e w2 ⟨rfl,E2,A2⟩;have R2:=R0.away A2 (by omega);have B2:=(AD.of_below (F:=λk=>k=eb) A0).trans' A2 (λ_ _ h=>h) (λ_ _ h=>h);have C2:=R2.lt;have S2:MM w eb w2.heap.size (Ae 4 (num:Int) (den:Int) 0 0 0 0 0 0 0 0) _ (w2.alloc (.cells (Ae 4 (num:Int) (den:Int) 0 0 0 0 0 0 0 0) 28)):=⟨AI.alloc E2 _,AI.newAt rfl,R2.alloc _,B2.alloc _,by have:=AI.lt E2;omega,by omega,C2⟩;have Ap:=Bk _ eb row.length 262144 _ S2.eye (by omega) (by decide) (by rw[Jx];omega);rw[<-Ar]at Ap;unfold Ae at Ap;clear z E0 A2 R0 R2 B2 E2 A0;go_wp2_with fail;refine Ap.mono ?_;rintro e w3 ⟨rfl,E3,A3⟩;have S3:=S2.look E3 A3;have p:w2.heap.size+1<=w3.heap.size:=S3.cfg.lt;generalize w2.heap.size=pb at S3 p⊢;have B3:=Zh (show ZF w eb pb (Ae 4 (num:Int) (den:Int) 0 0 0 0 0 0 0 0) row 0 N 0 ((row.drop 0).flatMap Gc++rest) w3 from⟨by simpa using S3,World.ownsRow_nil _ _ _ _⟩);clear Ap S2 E3 A3 S3 Ar Aw;go_wp2_with fail;go_loopg [6,15] m (λg s i wx=>∃(q:Nat) (A:Option Addr) (c:Nat),i=I J q/\q<=m/\m-q<=g/\s=L A q c/\ZF w eb pb (Ae 4 (num:Int) (den:Int) 0 0 0 0 0 0 0 0) row q A c ((row.drop q).flatMap Gc++rest) wx/\pb+1<=wx.heap.size);case atStart=>exact⟨0,N,0,rfl,Q0 _,E _,rfl,B3.out,p⟩
 case round=>
  clear B3 p;rename World=>wx;obtain⟨q,A,c,rfl,hq,hg,rfl,S,p⟩:=hrel;by_cases D1:q<m
  ·have g1:(q:Int)<(m:Int):=by omega
   have M:q<row.length:=by rw[<-H.out.1];exact D1
   have Z:row.take (q+1)=row.take q++ [row[q]'M]:=fa M;have d:(row.drop q).flatMap Gc++rest=AK (AX (row[q]'M).1)++(AK (row[q]'M).2.1++(AK (row[q]'M).2.2++((row.drop (q+1)).flatMap Gc++rest))):=by
    rw[<-gQ M,RR];unfold Gc;simp only[ag]
   obtain⟨Av,h1,h2,h3⟩:=O.out.2.2.2.2.2.2 _ (bh M);have D4:=Fy (row.drop (q+1)) λy hy=>O.out.2.2.2.2.2.2 y (gR hy);have Cr:(row.drop (q+1)).length<=7200:=by rw[gS];have:=H.out.1;omega
   generalize row[q]'M=X at Z d Av h1 h2 h3;have z1:=Gk 1 X.2.1 (by omega);have z2:=Gk 1 X.2.2 (by omega);have Ck:((row.drop (q+1)).flatMap Gc++rest).length<=110000:=by rw[Jx];omega
   rw[d]at S;have Bt:=DD wx eb X.1 _ S.rd.eye Av (by simp only[Jx]at Ck⊢;omega);have Cp:=Zh (Zi Z Av);have HS:=Zh S;clear Z d D4 Cr S Av;go_wp2_with fail;refine Bt.mono ?_;rintro e w4 ⟨rfl,E4,A4⟩;have S4:=HS.out.look E4 A4;have Bw:=He w4 eb X.2.1 _ S4.rd.eye h1 (by omega) (by rw[Jx];omega);have p4:pb+1<=w4.heap.size:=NW p A4.size;have CL:=Zh S4;clear Bt E4 A4 S4 HS;go_wp2_with fail;refine Bw.mono ?_;rintro e w5 ⟨rfl,E5,A5⟩;have S5:=CL.out.look E5 A5;have Bu:=DC w5 eb X.2.2 9223372036854775807 _ S5.rd.eye (by omega) (by decide) (by omega);have p5:pb+1<=w5.heap.size:=NW p4 A5.size;have Bs:=Zh S5;clear Bw E5 A5 S5 CL;go_wp2_with fail;refine Bu.mono ?_;rintro e w6 ⟨rfl,E6,A6⟩;have S6:=Bs.out.look E6 A6;have p6:pb+1<=w6.heap.size:=NW p5 A6.size;have S7:=S6.next ((B.refl _ w6).alloc (E _) (.cells #[I J X.1,I U X.2.1,I U X.2.2] 202));have B5:=Hd _ eb _ S7.rd.eye;have a:=Zh S7;clear Bu E6 A6 S6 Bs S7;go_wp2_with fail;refine B5.mono ?_;rintro e w7 ⟨rfl,rfl⟩;clear B5;have X7:AI (w6.alloc (.cells #[I J X.1,I U X.2.1,I U X.2.2] 202)) w6.heap.size #[I J X.1,I U X.2.1,I U X.2.2] 202:=AI.newAt rfl;have p7:pb+1<=(w6.alloc (.cells #[I J X.1,I U X.2.1,I U X.2.2] 202)).heap.size:=by simp;omega
   have x0:=X7.cell (j:=0) rfl;have x1:=X7.cell (j:=1) rfl;have x2:=X7.cell (j:=2) rfl;have xl:=X7.lt;generalize w6.heap.size=xb at x0 x1 x2 xl⊢;generalize w6.alloc (.cells #[I J X.1,I U X.2.1,I U X.2.2] 202)=w7 at a x0 x1 x2 xl p7⊢;have f:=Zh (a.out.next ((B.refl _ w7).alloc (E _) (.cells #[I J X.1,I U X.2.1,I U X.2.2] 202)));have q5:q<=100000:=by omega
   have p8:pb+1<=(w7.alloc (.cells #[I J X.1,I U X.2.1,I U X.2.2] 202)).heap.size:=by simp;omega
   have B4:=Zh p8;clear X7 p8 a;go_wp2_with(at_builtin;refine IZ rfl _ _ rfl f.out.own B4.out q5 rfl rfl (AI.newAt rfl) ?_);intro A' c' w9 o9 g9 _;have S9:=f.out.grown Cp.out.1 o9 g9;have p9:pb+1<=w9.heap.size:=NW B4.out g9.size;have Ab:=Zh S9;clear o9 g9 S9 f x0 x1 x2 xl;go_wp2_with fail;go_roundg (m-(q+1));case measure=>omega
   exact⟨q+1,A',c',by go_num,by omega,E _,rfl,Ab.out,p9⟩
  ·have g1:¬(q:Int)<(m:Int):=by omega
   have Z:row.take q=row:=fj (by have:=H.out.1;omega);have d:row.drop q=[]:=gT (by have:=H.out.1;omega);rw[d,bw,gU,H.out.2.2]at S;have S7:MM w eb pb (Ae 4 (num:Int) (den:Int) 0 0 0 0 0 0 0 0) (AK ws.length++BP ws) wx:=S.rd;have ho:=S.own;rw[Z]at ho;have BX:q=row.length:=by have:=H.out.1;omega
   have HO:=Zh (Zi ho BX);have a:=Zh S7;have BA:=CO ws O.out.2.2.2.2.2.1;have Ac:=Bk wx.drew eb ws.length 16 (BP ws) (S7.next (B.refl _ _).drew).eye (by have:=H.out.2.1;omega) (by decide) (by have:=H.out.2.1;omega);rw[<-H.out.2.1]at Ac;have r:=Zh (λ(s:List UInt8) W (h:MM w eb pb (Ae 4 (num:Int) (den:Int) 0 0 0 0 0 0 0 0) s W)=>(show W.cell? ⟨pb,1,N⟩=some (I U num)/\W.cell? ⟨pb,2,N⟩=some (I U den)/\pb<W.heap.size from⟨h.cfg.cell rfl,h.cfg.cell rfl,h.cfg.lt⟩));have C0:=Zh (r.out _ _ (S7.next (B.refl _ _).drew));have S8:=S7.next (B.refl wx.heap.size wx).drew;have f:=Zh S8;clear S Z d ho S7 S8 BX BA g1;go_upto_region 10 with fail;go_region_held3 (λw' =>w'.cell? ⟨pb,1,N⟩=some (I U num)/\w'.cell? ⟨pb,2,N⟩=some (I U den)/\pb<w'.heap.size) (first|exact C0.out|assumption)
    (first
     |(go_at_call 47;refine Ac.mono ?_;rintro e w8 ⟨rfl,E8,A8⟩;have S9:=f.out.look E8 A8;have C8:=r.out _ _ S9;have B0:=RN w8 eb ws [] (by rw[dT];exact S9.eye) O.out.2.2.2.2.2.1 (by have:=H.out.2.1;omega) (by simp);rw[<-H.out.2.1]at B0;have Ab:=Zh (Zi S9 A8);clear E8 A8 S9)
     |(go_at_call 82;refine B0.mono ?_;rintro e w9 ⟨v9,rfl,o9,E9,A9⟩;have BQ:=Ab.out.1.look E9 A9;have C9:=r.out _ _ BQ;
       have B1:=Ab.out.2.trans' A9 (λ_ _ h=>h) (λ_ _ h=>h);have Bb:=AU HO.out.1 ((AD.of_below (F:=λk=>k=eb) ((B.refl wx.heap.size wx).drew)).trans' B1 (λ_ _ h=>h) (λ_ _ h=>h)) (λg hg e' =>by obtain⟨E1,hc⟩:=AJ HO.out.1 hg;exact(hc.ne (show AI wx eb _ 153 from a.out.eye) (by decide)) e');have C4:=df num den O.out.1 w9 _ v9 row ws (by rw[<-HO.out.2];exact AO Bb (λ_ _=>Q0 _)) (by rw[<-H.out.2.1];exact AO o9 (λ_ _=>Q0 _)) (max (BH vals) 1) (by have:=O.out.2.2.2.1;omega) O.out.2.1 (by have:=O.out.2.2.1;have:=O.out.2.2.2.1;omega) O.out.2.2.2.2.1;have Aa:=Zh BQ;obtain⟨GC,k9,rfl⟩:=AF o9;clear o9 E9 A9 BQ B1 Bb)
     |(go_at_call 81;refine C4.mono ?_;rintro e G ⟨po,u,rfl,Ba,AA⟩;have D:=Aa.out.next Ba;have GE:=r.out _ _ D;have Ay:=Zh (Zi D AA);clear D Ba AA))
   obtain⟨D,AA⟩:=Ay.out;have k0:G.cell? ⟨pb,0,N⟩=some (I J 4):=D.cfg.cell rfl;have k1:G.cell? ⟨pb,1,N⟩=some (I U num):=D.cfg.cell rfl;have k2:G.cell? ⟨pb,2,N⟩=some (I U den):=D.cfg.cell rfl;have k3:G.cell? ⟨pb,3,N⟩=some (I J 0):=D.cfg.cell rfl;have k4:G.cell? ⟨pb,4,N⟩=some (I J 0):=D.cfg.cell rfl;have k5:G.cell? ⟨pb,5,N⟩=some (I J 0):=D.cfg.cell rfl;have k6:G.cell? ⟨pb,6,N⟩=some (I U 0):=D.cfg.cell rfl;have k7:G.cell? ⟨pb,7,N⟩=some (I J 0):=D.cfg.cell rfl;have k8:G.cell? ⟨pb,8,N⟩=some (I J 0):=D.cfg.cell rfl;have k9:G.cell? ⟨pb,9,N⟩=some (I J 0):=D.cfg.cell rfl;have FR:G.cell? ⟨pb,10,N⟩=some (I U 0):=D.cfg.cell rfl;obtain⟨⟨m0,m1,GD,m3,m4,m5,m6,m7,m8,m9,GB⟩,⟨f0,f1,f2,f3,f4,f5,f6,f7,f8,f9,Fn⟩⟩:=CU D.res;have B9:w.heap.size<w9.heap.size:=Aa.out.res.lt;have o:=DO (a0:=4) (a1:=(num:Int)) (a2:=(den:Int)) (a3:=0) (a4:=0) (a5:=0) (a6:=0) (a7:=0) (a8:=0) (a9:=0) (a10:=0) D.res;have Ax:=Zh (MN (KP num den) (vals:=vals) (T:=136) (po:=po) (ok:=(u==0)) (a0:=4) (a1:=(num:Int)) (a2:=(den:Int)) (a3:=0) (a4:=0) (a5:=0) (a6:=0) (a7:=0) (a8:=0) (a9:=0) (a10:=0) D B9 (λhk=>by
    have hc:u=0:=by simpa using hk
    obtain⟨sb,rv,wv,rfl,HD,hO⟩:=AA hc;rw[O.out.2.2.1]at HD;exact⟨sb,_,rfl,⟨rv,row,wv,ws,⟨HD,O.out.2.2.1,O.out.2.1,O.out.2.2.2.2.1,O.out.2.2.2.2.2.1⟩,rfl⟩,hO⟩))
   clear D Ay AA Aa Ab f a HO C0 r B9;go_wp2_with fail;change bodyPost prog f53 (Hs (Ae 4 (num:Int) (den:Int) 0 0 0 0 0 0 0 0) 136 (Oz num den vals) w eb) Exit.ret _ (EZ G w.heap.size 4 (num:Int) (den:Int) 0 0 0 0 0 0 0 0);generalize EZ G w.heap.size 4 (num:Int) (den:Int) 0 0 0 0 0 0 0 0=WW at o Ax⊢;have c0:=o.cell (j:=0) rfl;have c1:=o.cell (j:=1) rfl;have c2:=o.cell (j:=2) rfl;have c3:=o.cell (j:=3) rfl;have c4:=o.cell (j:=4) rfl;have c5:=o.cell (j:=5) rfl;have c6:=o.cell (j:=6) rfl;have c7:=o.cell (j:=7) rfl;have c8:=o.cell (j:=8) rfl;have c9:=o.cell (j:=9) rfl;have C3:=o.cell (j:=10) rfl;refine bodyPost_ret (v:=.tuple #[.agg (Ae 4 (num:Int) (den:Int) 0 0 0 0 0 0 0 0),.iface 136 (.agg #[P po]),.bool (u==0)]) ?_ rfl Ax.out;simp[results,results53,go_sem,Ae,c0,c1,c2,c3,c4,c5,c6,c7,c8,c9,C3]
theorem em(num den w sb rv)(row:List BM)(wv ws t)(S:Zz num den w sb rv row wv ws t)(m:t<=50000):
  C prog 298 #[P (some ⟨sb,0,N⟩)] w λe w' =>∃v1 v2,e=R (T #[v1,v2])/\w'.ownsRow w.heap.size 202 3 v1 row.length (AR row)/\w'.ownsRow w.heap.size 2 1 v2 ws.length (BG ws)/\B w.heap.size w w' :=by
 have H:=λW (b:B w.heap.size w W)=>IU W rv row (AE S.gr.own b λg D=>(S.gr.own.lt g D).2) (by have:=Cj row S.all;have:=S.sum;omega);have G:=λW (b:B w.heap.size w W)=>IV W wv ws (AE S.gr.wown b λg D=>(S.gr.wown.lt g D).2) (by have:=S.few;omega);have O:=Zh (λW (b:B w.heap.size w W)=>(show W.cell? ⟨sb,2,N⟩=some rv/\W.cell? ⟨sb,3,N⟩=some wv/\sb<W.heap.size from⟨(S.gr.next b).cells.2.2.1,(S.gr.next b).cells.2.2.2.1,(S.gr.next b).blk.lt⟩));have X:=Zh (λW W' (b:B w.heap.size w W) (j :B W.heap.size W W')=>b.trans (j.mono b.size));clear S;go_enter func298,ntmps298;go_upto_region 3 with fail;have M:B w.heap.size w w.drew:=(B.refl _ _).drew;have a:=Zh (O.out _ M);go_region_held3 (λw' =>w'.cell? ⟨sb,2,N⟩=some rv/\w'.cell? ⟨sb,3,N⟩=some wv/\sb<w'.heap.size) (first|exact a.out|exact O.out _ (by assumption))
  (first
   |(go_at_call 103;refine(H _ (by assumption)).mono ?_;rintro e u ⟨v1,rfl,F,f⟩;have d:=X.out _ _ M f;obtain⟨o,r,rfl⟩:=AF F)
   |(go_at_call 104;refine(G _ (by assumption)).mono ?_;rintro e x ⟨v2,rfl,K,Y⟩;have i:=X.out _ _ d Y;obtain⟨v,p,rfl⟩:=AF K))
 have h:=AO (base' :=w.heap.size) (AE F Y λg D=>(F.lt g D).2) λg D=>NW M.size (F.lt g D).1;have Z:=AO (base' :=w.heap.size) K λg D=>NW d.size (K.lt g D).1;have k:=Zh (Zi h (Zi Z i));clear H G O X a F K f Y h Z;go_wp2_with fail;go_ret2;exact⟨_,_,rfl,k.out⟩
theorem dj(num den w sb rv)(row:List BM)(wv ws t)(S:Ev num den w sb rv row wv ws t):
  C prog 299 #[P (some ⟨sb,0,N⟩)] w λe w' =>e=R (.agg #[I U num,I U den])/\B w.heap.size w w' :=by
 obtain⟨H,K,-,-,-,-,-,-,cl⟩:=S.cells;clear S;go_enter func299,ntmps299;go_wp2_with fail;have D:AI (w.alloc (.cells #[I U num,I U den] 25)) w.heap.size #[I U num,I U den] 25:=AI.newAt rfl;have F:=D.cell (j:=0) rfl;have G:=D.cell (j:=1) rfl;refine bodyPost_ret (v:=.agg #[I U num,I U den]) ?_ rfl ⟨rfl,Za⟩;simp[results,results299,go_sem,F,G]
structure PJ(B:Nat)(w:World)(num den db:Nat)(rv:V)(row:List BM)(wv:V)(ws:List Int)(t:Nat)(v1 v2:V)(qb:Nat)(A:Option Addr)(c:Nat)(out:List UInt8)(b:Nat)(W:World):Prop where
 nas:CH B w qb A c out W
 gr:Ev num den w db rv row wv ws t
 blk:AI W b #[P (S ⟨db,0,N⟩)] 136
 hB:B<=w.heap.size
 own:∀k,CX db rv wv k->k<B
 row1:W.ownsRow 0 202 3 v1 row.length (AR row)
 row2:BD W v2 ws
section
variable {B:Nat} {w:World} {num den db:Nat} {rv:V} {row:List BM} {wv:V} {ws:List Int} {t:Nat} {v1 v2:V} {qb:Nat} {A:Option Addr} {c:Nat} {out:List UInt8} {b:Nat} {W W' :World}
theorem PJ.grW(h:PJ B w num den db rv row wv ws t v1 v2 qb A c out b W):Ev num den W db rv row wv ws t:=by
 have F:AD (λk=>B<=k) w W:=⟨h.nas.below.os,h.nas.below.tape,h.nas.below.output,h.nas.below.size,λk _ G=>h.nas.below.block k (by omega)⟩;exact h.gr.away F λk D=>by have:=h.own k D;omega
theorem PJ.next(h:PJ B w num den db rv row wv ws t v1 v2 qb A c out b W)(k:Below W.heap.size W W'):PJ B w num den db rv row wv ws t v1 v2 qb A c out b W' :=
 ⟨h.nas.nextH h.hB k,h.gr,h.blk.below k h.blk.lt,h.hB,h.own,AE h.row1 k λg D=>(h.row1.lt g D).2,h.row2.next k⟩
theorem PJ.put{A' c' D}(h:PJ B w num den db rv row wv ws t v1 v2 qb A c out b W)(k:CH B W qb A' c' D W'):PJ B w num den db rv row wv ws t v1 v2 qb A' c' D b W' :=
 ⟨h.nas.trans k,h.gr,k.keep _ _ _ (by decide) (by decide) h.blk,h.hB,h.own,k.owns3 (by decide) (by decide) h.row1,k.lrow h.row2⟩
theorem PJ.cell(h:PJ B w num den db rv row wv ws t v1 v2 qb A c out b W):W.cell? ⟨b,0,N⟩=S (P (S ⟨db,0,N⟩)):=h.blk.cell rfl
theorem PJ.size(h:PJ B w num den db rv row wv ws t v1 v2 qb A c out b W):B<=W.heap.size:=NW h.hB h.nas.below.size
theorem PJ.drew(h:PJ B w num den db rv row wv ws t v1 v2 qb A c out b W):PJ B w num den db rv row wv ws t v1 v2 qb A c out b W.drew:=h.next (Below.refl _ _).drew
end
theorem Vl(u v w):(Instr.field 25 (.agg #[u,v]) 0).run prog w=.ok u w:=by kernel_rfl
theorem Vm(u v w):(Instr.field 25 (.agg #[u,v]) 1).run prog w=.ok v w:=by kernel_rfl
theorem eo(a):BP [a]=AK (AX a):=by simp[BP]
theorem RV(a b c)(F:a<18446744073709551616)(D:b<18446744073709551616)(G:c<18446744073709551616):([a,b,c].flatMap AK).length<=30:=by
 have M:=AC a F;have H:=AC b D;have K:=AC c G;simp only[RR,bw,Jx,V0];omega
theorem bU(num den:Nat)(Av:Ki num den=true)(B:Nat)(w)(db:Nat)(rv)(row:List BM)(wv ws)(t:Nat)(qb:Nat)(A)(c:Nat)(hq:Fi B w qb (.slice A ([]:List UInt8).length c) [])(hB:B<=w.heap.size)(S:Zz num den w db rv row wv ws t)(u:∀k,CX db rv wv k->k<B)(ht:t<=7200):
  Calls prog 296 #[.agg #[P (some ⟨db,0,N⟩)],P (some ⟨qb,0,N⟩)] w λe w' =>e=R (T #[])/\∃A' c',CH B w qb A' c' (GT num den row ws) w' :=by
 obtain⟨B2,Bt,Bb⟩:=(Hy num den).1 Av;have S0:CH B w qb A c [] w:=CH.start hq;have B0:=Cj row S.all;have Ax:∀y∈row,el y:=λy hy=>(S.all y hy).small (by omega);have BA:=S.sum;have Ba:=S.few;have b0:Below w.heap.size w (w.alloc (.cells #[P (some ⟨db,0,N⟩)] 136)):=Za;have BX:AI (w.alloc (.cells #[P (some ⟨db,0,N⟩)] 136)) w.heap.size #[P (some ⟨db,0,N⟩)] 136:=AI.newAt rfl;have O:=em num den _ db rv row wv ws t (S.next b0) (by omega);have d:=Zh (Zi b0 BX);have MK:=Zh (show∀W v1 v2,Below w.heap.size w W->AI W w.heap.size #[P (some ⟨db,0,N⟩)] 136->W.ownsRow 0 202 3 v1 row.length (AR row)->BD W v2 ws->PJ B w num den db rv row wv ws t v1 v2 qb A c [] w.heap.size W from λW v1 v2 k hb r1 r2=>⟨S0.nextH hB k,S.gr,hb,hB,u,r1,r2⟩);have HG:=Zh (Zi Ax S.in64);obtain⟨m,Ap⟩:∃m,m=row.length:=⟨_,rfl⟩;obtain⟨f,Y⟩:∃f,f=ws.length:=⟨_,rfl⟩;have B4:m<=7200:=by omega
 have B5:f<16:=by omega
 have BR:=RV num den m (by omega) (by omega) (by omega);obtain⟨p,Aa⟩:∃p,p=[num,den,m].flatMap AK:=⟨_,rfl⟩;have z:num<18446744073709551616/\den<18446744073709551616:=by omega
 rw[<-Aa]at BR;have F:=Zh (Zi Ap (Zi Y (Zi Aa z)));have B9:U.wrap (m:Int)=(m:Int):=by rw[ej];omega
 have Ck:U.wrap (f:Int)=(f:Int):=by rw[ej];omega
 clear S0 b0 BX hq S u Av Ax B0 BA Ba Aa z B2 Bt Bb;have Fa:=Vl (I U num) (I U den);have hf1:=Vm (I U num) (I U den);go_enter func296,ntmps296;go_wp2_with fail;refine O.mono ?_;rintro e w1 ⟨v1,v2,rfl,o1,o2,b1⟩;have L1:=MK.out w1 v1 v2 (d.out.1.trans (b1.mono d.out.1.size)) (d.out.2.below b1 d.out.2.lt) (AO o1 λ_ _=>Q0 _) (BD.of_owns o2);obtain⟨Al,cl,rfl⟩:=AF o1;obtain⟨Aw,cw,rfl⟩:=AF o2;rw[<-Ap,<-Y]at L1⊢;generalize w.heap.size=pb at L1⊢;have M:=λW (a:PJ B w num den db rv row wv ws t (.slice Al m cl) (.slice Aw f cw) qb A c [] pb W)=>dj num den W db rv row wv ws t a.grW;clear O o1 o2 b1 d MK Ap Y;go_upto_region 2 with fail;refine wp_region_any (by kernel_rfl) ?_;refine wpAny_take (i:=0) (oi:={dst:=some 14,op:=Op.move (Operand.tmp 1),type:=107,pos:= "suite.go:265",after:= #[],guard:=N}) (v:= ?_) rfl (by kernel_rfl) (by kernel_rfl) (by kernel_rfl) (λ_ _ _ h=>h) (Or.inl ⟨by kernel_rfl,?_⟩) ?_;rotate_left
 ·intro wz;go_simp;try with_reducible rfl
 simp only[aw,Zp,Zq,Zr];refine IW (C:=PJ B w num den db rv row wv ws t (.slice Al m cl) (.slice Aw f cw) qb A c [] pb) (g:=2) 1 12 (by kernel_rfl) rfl L1.drew ?_;simp only[gW,gV,fp,fw,gX];repeat go_big_quiet_step(exact λ_=>rfl)
 go_big_quiet_want;refine⟨P (some ⟨db,0,N⟩),λG a=> ?_,?_⟩
 ·have p0:=a.cell;go_simp
 go_big_quiet_on;simp only[aw,Zp,Zq,Zr];repeat go_big_quiet_step(exact λ_=>rfl)
 go_big_quiet_want;go_big_quiet_op;refine⟨.agg #[I U num,I U den],λG a=> ?_,?_⟩
 ·exact(M G a).mono λ_ _ hm=>⟨hm.1,a.next hm.2⟩
 go_big_quiet_on;repeat go_big_quiet_step(exact λ_=>rfl)
 go_big_quiet_want;refine⟨P (some ⟨db,0,N⟩),λG a=> ?_,?_⟩
 ·have p0:=a.cell;go_simp
 go_big_quiet_on;simp only[aw,Zp,Zq,Zr];repeat go_big_quiet_step(exact λ_=>rfl)
 go_big_quiet_want;go_big_quiet_op;refine⟨.agg #[I U num,I U den],λG a=> ?_,?_⟩
 ·exact(M G a).mono λ_ _ hm=>⟨hm.1,a.next hm.2⟩
 go_big_quiet_on;repeat go_big_quiet_step(exact λ_=>rfl)
 refine wpQuiet_nil ?_;intro w2 H2;have D:=Cd B (w2.alloc (.cells (Dr [num,den,m]) 23)) qb w2.heap.size 3 A c [] [num,den,m] (H2.nas.qu.alloc _) (by have:=H2.size;simp;omega) (AI.newAt rfl) (λn hn=>by have:=F.out.2.2.2;simp at hn;omega) (by rw[<-F.out.2.2.1];simp;omega) (by simp);have A1:=Zh H2;clear M L1 H2 Fa hf1;refine wpAny_ready (rs:=[12]) (by kernel_rfl) (by simp) ?_;refine AllReady.cons rfl (λK hK=> ?_) AllReady.nil;go_simp;refine hK _ _ ?_;clear hK K;refine wpAny_ready (rs:=[13]) (by kernel_rfl) (by simp) ?_;refine AllReady.cons rfl (λK hK=> ?_) AllReady.nil;go_simp;refine D.mono ?_;rintro e w3 ⟨rfl,A3,k3,S3⟩;have j:=(A1.out.next (Za)).put S3;rw[<-F.out.2.2.1,gU]at j;have Z:=Zh j;clear D S3 j A1;refine hK _ _ ?_;clear hK K;refine wpAny_done (by kernel_rfl) ?_ _;go_wp2_with fail;go_loopg [30] m (λg i G=>∃(q:Nat) (A:Option Addr) (c:Nat) (out:List UInt8),i=I J q/\q<=m/\m-q<=g/\out=p++(row.take q).flatMap Gc/\out.length<=30+14*q/\PJ B w num den db rv row wv ws t (.slice Al m cl) (.slice Aw f cw) qb A c out pb G);case atStart=>exact⟨0,A3,k3,_,rfl,Q0 _,E _,by simp,by omega,Z.out⟩
 case round=>
  clear Z;rename World=>G;obtain⟨q,A,c,out,rfl,hq,hg,H,Bw,L⟩:=hrel;by_cases Bu:q<m
  ·have g1:(q:Int)<(m:Int):=by omega
   have X:q<row.length:=by rw[<-F.out.1];exact Bu
   have O:=L.row1;rcases AH O with⟨h1,h2,_⟩|⟨g2,Cs,hv,_,_,_,CL⟩
   ·omega
   simp only[V.slice.injEq]at hv;obtain⟨rfl,-,rfl⟩:=hv;rw[<-F.out.1]at O;obtain⟨p0,p1,p2⟩:=BC O F.out.1 q X;obtain⟨Ar,A5,Ac,AA⟩:=HG.out.1 _ (bh X);have Ab:(row.take (q+1)).flatMap Gc=(row.take q).flatMap Gc++Gc (row[q]'X):=by rw[fa X,gY];simp
   have o:=RU _ (HG.out.1 _ (bh X));generalize row[q]'X=x at p0 p1 p2 Ar A5 Ac AA Ab o;have b4:Below G.heap.size G (G.alloc (.cells #[I J x.1,I U x.2.1,I U x.2.2] 202)):=Za;have L4:=L.next b4;have Bs:=L.size;have r:=IK B ((G.alloc (.cells #[I J x.1,I U x.2.1,I U x.2.2] 202)).alloc (.cells (IJ [x.1]) 2)) qb (G.heap.size+1) 1 A c out [x.1] (L4.nas.qu.alloc _) (by simp;omega) (AI.newAt (by simp)) (λy hy=>by simp at hy;rw[hy];exact Ar) (by simp;omega) (by simp);have HX:=Zh (show AI ((G.alloc (.cells #[I J x.1,I U x.2.1,I U x.2.2] 202)).alloc (.cells (IJ [x.1]) 2)) G.heap.size #[I J x.1,I U x.2.1,I U x.2.2] 202 from AI.alloc (AI.newAt rfl) _);have A2:=Zh (L4.next ((Below.refl _ _).alloc (E _) (.cells (IJ [x.1]) 2)));have HT:=Zh (show out++AK (AX x.1)++(AK x.2.1++AK x.2.2)=p++(row.take (q+1)).flatMap Gc by rw[Ab,H];unfold Gc;simp only[ag]);have HD:=Zh (Zi Ac AA);have A8:(out++AK (AX x.1)++(AK x.2.1++AK x.2.2)).length<=30+14*(q+1):=by unfold Gc at o;simp only[Jx]at o⊢;omega
   have BQ:=Zh A8;clear O Ar A5 Ac AA Ab o b4 L4 L A8 H;go_wp2_with fail;refine r.mono ?_;rintro e w6 ⟨rfl,A6,k6,S6⟩;have L6:=A2.out.put S6;rw[eo]at L6;have X6:=S6.keep _ _ _ (by decide) (by decide) HX.out;have m1:w6.cell? ⟨G.heap.size,1,N⟩=some (I U x.2.1):=X6.cell rfl;have B1 :w6.cell? ⟨G.heap.size,2,N⟩=some (I U x.2.2):=X6.cell rfl;have D:=Cd B (w6.alloc (.cells (Dr [x.2.1,x.2.2]) 23)) qb w6.heap.size 2 A6 k6 _ [x.2.1,x.2.2] (L6.nas.qu.alloc _) (by have:=L6.size;simp;omega) (AI.newAt rfl) (λn hn=>by have:=HD.out;simp at hn;omega) (by rw[PC];have:=BQ.out;simp only[Jx]at this⊢;omega) (by simp);have A9:=Zh L6;have Cr:=X6.lt;clear r S6 X6 L6 A2 HX p0 p1 p2;go_wp2_with fail;refine D.mono ?_;rintro e w7 ⟨rfl,A7,k7,S7⟩;have L7:=(A9.out.next (Za)).put S7;rw[PC]at L7;have B3:=Zh L7;clear D S7 L7 A9 m1 B1;go_wp2_with fail;go_roundg (m-(q+1));case measure=>omega
   exact⟨q+1,A7,k7,_,by go_num,by omega,E _,HT.out,BQ.out,B3.out⟩
  ·have g1:¬(q:Int)<(m:Int):=by omega
   have Ay:row.take q=row:=fj (by have:=F.out.1;omega);rw[Ay]at H;have Cp:=AC f (by omega);have Bs:=L.size;have D:=Cd B (G.alloc (.cells (Dr [f]) 23)) qb G.heap.size 1 A c out [f] (L.nas.qu.alloc _) (by simp;omega) (AI.newAt rfl) (λn hn=>by simp at hn;omega) (by simp;omega) (by simp);have HL:=Zh L;have HO:=Zh H;clear L Ay H g1;go_wp2_with fail;refine D.mono ?_;rintro e w3 ⟨rfl,A3,k3,S3⟩;have j:=(HL.out.next (Za)).put S3;simp only[RR,bw,dT]at j;have A0:=NU B w3 qb _ A3 k3 _ ws j.nas.qu j.size j.row2 HG.out.2 (by rw[Jx];have:=F.out.2.1;omega) (by have:=F.out.2.1;omega);have Z:=Zh j;clear D S3 j HL;go_wp2_with fail;refine A0.mono ?_;rintro e w4 ⟨rfl,A4,k4,S4⟩;have HF:=Zh (show CH B w qb A4 k4 (GT num den row ws) w4 from by
    have:=(Z.out.put S4).nas;rw[HO.out,F.out.2.2.1,F.out.1,F.out.2.1]at this;have e:GT num den row ws=[num,den,row.length].flatMap AK++row.flatMap Gc++AK ws.length++BP ws:=by unfold GT;simp only[RR,bw,dT,ag]
    rw[e];exact this)
   clear A0 S4 Z;go_wp2_with fail;go_end0;exact⟨rfl,A4,k4,HF.out⟩
def Ge(x:List Int):List UInt8:=AK x.length++BP x
def JK(wd wn u:Nat)(lo hi:Int)(rs:CM):List UInt8:=AK wd++(AK wn++(AK u++(AK (AX lo)++(AK (AX hi)++(AK rs.length++rs.flatMap Ge)))))
theorem RW(x)(h:∀y∈x,Am y)(D:x.length<=64):(Ge x).length<=650:=by
 have G:=CO x h;have F:=AC x.length (by omega);unfold Ge;rw[Jx];omega
theorem Fz:∀(l:CM),(∀x∈l,(∀y∈x,Am y)/\x.length<=64)->(l.flatMap Ge).length<=650*l.length
 | [],_=>by simp
 |x::l,h=>by
  have F:=Fz l λy D=>h y (fx _ D)
  have G:=RW x (h x (es ..)).1 (h x (es ..)).2
  rw[RR,Jx,fy]
  omega
theorem TM(u v w):(Instr.field 141 (.agg #[u,v]) 0).run prog w=.ok u w:=by kernel_rfl
theorem TN(u v w):(Instr.field 141 (.agg #[u,v]) 1).run prog w=.ok v w:=by kernel_rfl
structure Nj(B:Nat)(w:World)(wd wn db pb us:Nat)(rv:V)(rs:DZ)(t:Nat)(lo hi:Int)(n:Nat)(Al:Option Addr)(cl:Nat)(rsN:DZ)(qb:Nat)(A:Option Addr)(c:Nat)(out:List UInt8)(b:Nat)(W:World):Prop where
 nas:CH B w qb A c out W
 rq:DN wd (wn:Int) w db pb us rv rs t lo hi
 blk:AI W b #[P (S ⟨db,0,N⟩)] 143
 hB:B<=w.heap.size
 own:∀k,EE db pb rv rs k->k<B
 rows:W.ownsRow 0 178 1 (L Al n cl) n (Gf rsN)
 row:∀x∈rsN,BD W x.1 x.2
section
variable {B:Nat} {w:World} {wd wn db pb us:Nat} {rv:V} {rs:DZ} {t:Nat} {lo hi:Int} {n:Nat} {Al:Option Addr} {cl:Nat} {rsN:DZ} {qb:Nat} {A:Option Addr} {c:Nat} {out:List UInt8} {b:Nat} {W W' :World}
theorem Nj.rqW(h:Nj B w wd wn db pb us rv rs t lo hi n Al cl rsN qb A c out b W):DN wd (wn:Int) W db pb us rv rs t lo hi:=by
 have F:AD (λk=>B<=k) w W:=⟨h.nas.below.os,h.nas.below.tape,h.nas.below.output,h.nas.below.size,λk _ G=>h.nas.below.block k (by omega)⟩;exact h.rq.away F λk D=>by have:=h.own k D;omega
theorem Nj.next(h:Nj B w wd wn db pb us rv rs t lo hi n Al cl rsN qb A c out b W)(k:Below W.heap.size W W'):Nj B w wd wn db pb us rv rs t lo hi n Al cl rsN qb A c out b W' :=
 ⟨h.nas.nextH h.hB k,h.rq,h.blk.below k h.blk.lt,h.hB,h.own,AE h.rows k λg D=>(h.rows.lt g D).2,λx F=>(h.row x F).next k⟩
theorem Nj.put{A' c' D}(h:Nj B w wd wn db pb us rv rs t lo hi n Al cl rsN qb A c out b W)(k:CH B W qb A' c' D W'):Nj B w wd wn db pb us rv rs t lo hi n Al cl rsN qb A' c' D b W' :=
 ⟨h.nas.trans k,h.rq,k.keep _ _ _ (by decide) (by decide) h.blk,h.hB,h.own,k.owns3 (by decide) (by decide) h.rows,λx F=>k.lrow (h.row x F)⟩
theorem Nj.cell(h:Nj B w wd wn db pb us rv rs t lo hi n Al cl rsN qb A c out b W):W.cell? ⟨b,0,N⟩=S (P (S ⟨db,0,N⟩)):=h.blk.cell rfl
theorem Nj.size(h:Nj B w wd wn db pb us rv rs t lo hi n Al cl rsN qb A c out b W):B<=W.heap.size:=NW h.hB h.nas.below.size
theorem Nj.drew(h:Nj B w wd wn db pb us rv rs t lo hi n Al cl rsN qb A c out b W):Nj B w wd wn db pb us rv rs t lo hi n Al cl rsN qb A c out b W.drew:=h.next (Below.refl _ _).drew
end
def gN(B:Nat)(w:W)(qb wd wn u:Nat)(rs:CM)(e:Ending)(w' :W):Prop:=e=R (T #[])/\∃lo' hi' A' c',Am lo' /\Am hi' /\CH B w qb A' c' (JK wd wn u lo' hi' rs) w'
theorem ZH(wd wn:Nat)(E6:wd<=64)(A9:wn<18446744073709551616)(B:Nat)(w)(db pb us:Nat)(rv)(rs:DZ)(t:Nat)(lo hi:Int)(qb:Nat)(A)(c:Nat)(hq:Fi B w qb (.slice A ([]:List UInt8).length c) [])(hB:B<=w.heap.size)(h:DN wd (wn:Int) w db pb us rv rs t lo hi)(r:Bx (Bf rs))(hs:wS (Bf rs)=t)(Aw:∀x∈rs,x.2.length<wd)(Ac:us<=1000000000)(BR:Am lo)(Bt:Am hi)(Av:∀k,EE db pb rv rs k->k<B)(ht:t<=7200):
  Calls prog 338 #[.agg #[P (S ⟨db,0,N⟩)],P (S ⟨qb,0,N⟩)] w (gN B w qb wd wn (us % 64) (Bf rs)):=by
 have S0:CH B w qb A c [] w:=CH.start hq;have BQ:=MC r;have C1:=MD r hs (by omega);have b0:Below w.heap.size w (w.alloc (.cells #[P (S ⟨db,0,N⟩)] 143)):=Za;have BX:AI (w.alloc (.cells #[P (S ⟨db,0,N⟩)] 143)) w.heap.size #[P (S ⟨db,0,N⟩)] 143:=AI.newAt rfl;have B0:=Ys (w.alloc (.cells #[P (S ⟨db,0,N⟩)] 143)) db t lo hi ((h.next b0).cells.2.2.2.2.1) ((h.next b0).cells.2.2.2.2.2.1) ((h.next b0).cells.2.2.2.2.2.2.1);have B1:=Zh (λW (b:Below w.heap.size w W)=>RG wd (wn:Int) W db pb us rv rs t lo hi (h.next b) BQ (by omega) λx F=>by have:=Aw x F;omega);have d:=Zh (Zi b0 BX);have MK:=Zh (show∀W n Al cl rsN,Below w.heap.size w W->AI W w.heap.size #[P (S ⟨db,0,N⟩)] 143->W.ownsRow 0 178 1 (.slice Al n cl) n (Gf rsN)->(∀x∈rsN,BD W x.1 x.2)->Nj B w wd wn db pb us rv rs t lo hi n Al cl rsN qb A c [] w.heap.size W from λW n Al cl rsN k hb r1 r2=>⟨S0.nextH hB k,h,hb,hB,Av,r1,r2⟩);have HI:=Zh (Zi BR (Zi Bt (show∀x∈Bf rs,(∀y∈x,Am y)/\x.length<=64 from λx F=>by
  obtain⟨y,z,rfl⟩:=List.mem_map.1 F;exact⟨TE r z,by have:=Aw y z;omega⟩)))
 obtain⟨u,hu⟩:∃u,u=us % 64:=⟨_,rfl⟩;have C3:U.wrap (wd:Int)=(wd:Int):=by rw[ej];omega
 have D4:U.wrap (us:Int)=(us:Int):=by rw[ej];omega
 have C9:(us:Int).tmod 64=(u:Int):=by rw[Int.tmod_eq_emod_of_nonneg (Int.natCast_nonneg _)];omega
 have D3:(us:Int) % 64=(u:Int):=by omega
 have C8:U.wrap (u:Int)=(u:Int):=by rw[ej];omega
 have E3:u<64:=by omega
 rw[<-hu];have C0:=RV wd wn u (by omega) A9 (by omega);obtain⟨Ap,A1⟩:∃Ap,Ap=[wd,wn,u].flatMap AK:=⟨_,rfl⟩;rw[<-A1]at C0;have o:=Zh (Zi A1 (Zi A9 (Zi hu (Ag rs))));clear S0 b0 BX hq h Av r hs Aw BR Bt BQ A1 hu Ac A9;have Fa:=TM (I J wd) (I U wn);have hf1:=TN (I J wd) (I U wn);go_enter func338,ntmps338;go_wp2_with fail;refine B0.mono ?_;rintro e w1 ⟨⟨lo',hi',bb,rfl,Ba,Ck⟩,b1⟩;have HL:=Zh (show Am lo' /\Am hi' from⟨by rcases Ba with rfl|rfl;exact HI.out.1;exact⟨by decide,by decide⟩,by rcases Ck with rfl|rfl;exact HI.out.2.1;exact⟨by decide,by decide⟩⟩);have A3:=d.out.1.trans (b1.mono d.out.1.size);have x1:=d.out.2.below b1 d.out.2.lt;have k0:w1.cell? ⟨w.heap.size,0,N⟩=S (P (S ⟨db,0,N⟩)):=x1.cell rfl;have kl:=x1.lt;have B9:=B1.out w1 A3;have f:=Zh (Zi A3 x1);clear B0 Ba Ck b1 A3 x1 d B1;go_wp2_with fail;refine B9.mono ?_;rintro e w2 ⟨n,Al,cl,rsN,rfl,CL,A0⟩;have L2:=MK.out w2 n Al cl rsN (f.out.1.trans (CL.below.mono f.out.1.size)) (f.out.2.below CL.below f.out.2.lt) (AO CL.own λ_ _=>Q0 _) CL.row;have A2:n=rsN.length:=CL.len;have HN:=Zh (Zi A0 A2);have E5:n<=14:=by rw[A2,<-Ag,A0,Ag];exact C1
 generalize w.heap.size=xb at L2 k0 kl⊢;have a:=λW (F:Nj B w wd wn db pb us rv rs t lo hi n Al cl rsN qb A c [] xb W)=>VZ wd (wn:Int) W db F.rqW.cells.1 F.rqW.cells.2.1;have Ac:=λW (F:Nj B w wd wn db pb us rv rs t lo hi n Al cl rsN qb A c [] xb W)=>(bF W db pb (wn:Int) us F.rqW.cells.2.2.1 F.rqW.tape).mono λe w' (hh:_/\_)=>(⟨hh.1,hh.2▸Below.refl _ _⟩:e=R (I J us)/\Below W.heap.size W w')
 clear B9 CL A0 A2 f MK k0 kl;go_upto_region 3 with fail;refine wp_region_any (by kernel_rfl) ?_;refine wpAny_take (i:=0) (oi:={dst:=S 20,op:=Op.move (Operand.tmp 1),type:=107,pos:= "suite.go:277",after:= #[],guard:=N}) (v:= ?_) rfl (by kernel_rfl) (by kernel_rfl) (by kernel_rfl) (λ_ _ _ h=>h) (Or.inl ⟨by kernel_rfl,?_⟩) ?_;rotate_left
 ·intro wz;go_simp;try with_reducible rfl
 simp only[aw,Zp,Zq,Zr];refine IW (C:=Nj B w wd wn db pb us rv rs t lo hi n Al cl rsN qb A c [] xb) (g:=2) 1 15 (by kernel_rfl) rfl L2.drew ?_;simp only[gW,gV,fp,fw,gX];repeat go_big_quiet_step(exact λ_=>rfl)
 go_big_quiet_want;refine⟨P (S ⟨db,0,N⟩),λX F=> ?_,?_⟩
 ·have p0:=F.cell;go_simp
 go_big_quiet_on;simp only[aw,Zp,Zq,Zr];repeat go_big_quiet_step(exact λ_=>rfl)
 go_big_quiet_want;go_big_quiet_op;refine⟨.agg #[I J wd,I U wn],λX F=> ?_,?_⟩
 ·exact(a X F).mono λ_ _ O=>⟨O.1,F.next O.2⟩
 go_big_quiet_on;repeat go_big_quiet_step(exact λ_=>rfl)
 go_big_quiet_want;refine⟨P (S ⟨db,0,N⟩),λX F=> ?_,?_⟩
 ·have p0:=F.cell;go_simp
 go_big_quiet_on;simp only[aw,Zp,Zq,Zr];repeat go_big_quiet_step(exact λ_=>rfl)
 go_big_quiet_want;go_big_quiet_op;refine⟨.agg #[I J wd,I U wn],λX F=> ?_,?_⟩
 ·exact(a X F).mono λ_ _ O=>⟨O.1,F.next O.2⟩
 go_big_quiet_on;repeat go_big_quiet_step(exact λ_=>rfl)
 go_big_quiet_want;refine⟨P (S ⟨db,0,N⟩),λX F=> ?_,?_⟩
 ·have p0:=F.cell;go_simp
 go_big_quiet_on;simp only[aw,Zp,Zq,Zr];repeat go_big_quiet_step(exact λ_=>rfl)
 go_big_quiet_want;go_big_quiet_op;refine⟨I J us,λX F=> ?_,?_⟩
 ·exact(Ac X F).mono λ_ _ O=>⟨O.1,F.next O.2⟩
 go_big_quiet_on;repeat go_big_quiet_step(exact λ_=>rfl)
 refine wpQuiet_nil ?_;intro w3 H3;have D:=Cd B (w3.alloc (.cells (Dr [wd,wn,u]) 23)) qb w3.heap.size 3 A c [] [wd,wn,u] (H3.nas.qu.alloc _) (by have:=H3.size;simp;omega) (AI.newAt rfl) (λn hn=>by have:=o.out.2.1;simp at hn;omega) (by rw[<-o.out.1];simp;omega) (by simp);have Bw:=Zh H3;clear a Ac L2 H3 Fa hf1 C3 D4 C9 D3 C8;refine wpAny_ready (rs:=[15]) (by kernel_rfl) (by simp) ?_;refine AllReady.cons rfl (λK hK=> ?_) AllReady.nil;go_simp;refine hK _ _ ?_;clear hK K;refine wpAny_ready (rs:=[16]) (by kernel_rfl) (by simp) ?_;refine AllReady.cons rfl (λK hK=> ?_) AllReady.nil;go_simp;refine D.mono ?_;rintro e w4 ⟨rfl,A4,k4,S4⟩;have L4:=(Bw.out.next (Za)).put S4;rw[<-o.out.1,gU]at L4;have Ar:=IK B (w4.alloc (.cells (IJ [lo',hi']) 2)) qb w4.heap.size 2 A4 k4 Ap [lo',hi'] (L4.nas.qu.alloc _) (by have:=L4.size;simp;omega) (AI.newAt rfl) (λy z=>by simp at z;rcases z with rfl|rfl;exact HL.out.1;exact HL.out.2) (by simp;omega) (by simp);have Bb:=Zh L4;clear D S4 L4 Bw;refine hK _ _ ?_;clear hK K;refine wpAny_done (by kernel_rfl) ?_ _;go_wp2_with fail;refine Ar.mono ?_;rintro e w5 ⟨rfl,A5,k5,S5⟩;have L5:=(Bb.out.next (Za)).put S5;rw[PA]at L5;have z1:=AC (AX lo') (Ao _ HL.out.1).2;have z2:=AC (AX hi') (Ao _ HL.out.2).2;obtain⟨p5,Ab⟩:∃p,p=Ap++(AK (AX lo')++AK (AX hi')):=⟨_,rfl⟩;have E2:p5.length<=50:=by rw[Ab];simp only[Jx];omega
 rw[<-Ab]at L5;have B5:U.wrap (n:Int)=(n:Int):=by rw[ej];omega
 have D:=Cd B (w5.alloc (.cells (Dr [n]) 23)) qb w5.heap.size 1 A5 k5 p5 [n] (L5.nas.qu.alloc _) (by have:=L5.size;simp;omega) (AI.newAt rfl) (λy z=>by simp at z;omega) (by have:=AC n (by omega);simp;omega) (by simp);have Bu:=Zh L5;have E0:=Zh Ab;clear Ar S5 L5 Bb z1 z2 Ab;go_wp2_with fail;refine D.mono ?_;rintro e w6 ⟨rfl,A6,k6,S6⟩;have L6:=(Bu.out.next (Za)).put S6;simp only[RR,bw,dT]at L6;obtain⟨p6,AA⟩:∃p,p=p5++AK n:=⟨_,rfl⟩;have E4:p6.length<=60:=by have:=AC n (by omega);rw[AA];simp only[Jx];omega
 rw[<-AA]at L6;have B2:=Zh L6;have C4:=Zh AA;clear D S6 L6 Bu AA B5;go_wp2_with fail;go_loopg [50] n (λg i X=>∃(q:Nat) (A:Option Addr) (c:Nat) (out:List UInt8),i=I J q/\q<=n/\n-q<=g/\out=p6++((Bf rsN).take q).flatMap Ge/\out.length<=60+650*q/\Nj B w wd wn db pb us rv rs t lo hi n Al cl rsN qb A c out xb X);case atStart=>exact⟨0,A6,k6,_,rfl,Q0 _,E _,by simp,by omega,B2.out⟩
 case round=>
  clear B2;rename World=>X;obtain⟨q,A,c,out,rfl,hq,hg,M,D8,L⟩:=hrel;by_cases E1:q<n
  ·have g1:(q:Int)<(n:Int):=by omega
   have G:q<rsN.length:=by rw[<-HN.out.2];exact E1
   have D2:q<(Bf rsN).length:=by rw[Ag];exact G
   obtain⟨gA,rfl⟩:∃gA,Al=S ⟨gA,0,N⟩:=by
    rcases AH L.rows with⟨_,h0,_⟩|⟨g,E7,h1,_⟩
    ·omega
    ·simp only[V.slice.injEq]at h1;exact⟨g,h1.1⟩
   have pN:=L.rows.cellAt q (by omega);rw[Kj rsN q G]at pN;have D1:=(L.rows.lt gA rfl).2;have Z:=L.row _ (bh G);have Aa:((Bf rsN).take (q+1)).flatMap Ge=((Bf rsN).take q).flatMap Ge++Ge (rsN[q]'G).2:=by
    rw[fa D2,gY,FP rsN q G];simp
   have B4:(rsN[q]'G).2∈Bf rs:=by rw[<-HN.out.1];exact List.mem_map.2 ⟨_,bh G,rfl⟩
   obtain⟨j,H⟩:=HI.out.2.2 _ B4;have Y:=RW _ j H;obtain⟨⟨xv,xs⟩,ex⟩:∃x,rsN[q]'G=x:=⟨_,rfl⟩;rw[ex]at pN Z Aa j H Y;simp only at pN Z Aa j H Y;obtain⟨Ax,cx,rfl⟩:=Z.slice;obtain⟨m,O⟩:∃m,m=xs.length:=⟨_,rfl⟩;have C2:U.wrap (m:Int)=(m:Int):=by rw[ej];omega
   have D5:=L.size;have k2:=AC m (by omega);have D:=Cd B (X.alloc (.cells (Dr [m]) 23)) qb X.heap.size 1 A c out [m] (L.nas.qu.alloc _) (by simp;omega) (AI.newAt rfl) (λy z=>by simp at z;omega) (by simp;omega) (by simp);have Cp:=Zh L;have HT:=Zh (show out++AK m++BP xs=p6++((Bf rsN).take (q+1)).flatMap Ge by rw[Aa,M,O];unfold Ge;simp only[ag]);have B3:(out++AK m++BP xs).length<=60+650*(q+1):=by unfold Ge at Y;rw[<-O]at Y;simp only[Jx]at Y⊢;omega
   have Cr:=Zh B3;have HX:=Zh (Zi j (Zi H (Zi O Z)));have HQ:=Zh ex;rw[<-O]at pN;clear Aa B4 j H Y D5 B3 M Z O L ex;go_wp2_with fail;refine D.mono ?_;rintro e w7 ⟨rfl,A7,k7,S7⟩;have L7:=(Cp.out.next (Za)).put S7;simp only[RR,bw,dT]at L7;have BA:=L7.row _ (bh G);rw[HQ.out]at BA;have Ay:=NU B w7 qb _ A7 k7 _ xs L7.nas.qu L7.size BA HX.out.1 (by have:=Cr.out;have:=HX.out.2.1;simp only[Jx]at this⊢;omega) (by have:=HX.out.2.1;omega);rw[<-HX.out.2.2.1]at Ay;have Cs:=Zh L7;clear D S7 L7 BA Cp pN D1 C2;go_wp2_with fail;refine Ay.mono ?_;rintro e w8 ⟨rfl,A8,k8,S8⟩;have D0:=Zh (Cs.out.put S8);clear Ay S8 Cs;go_wp2_with fail;go_roundg (n-(q+1));case measure=>omega
   exact⟨q+1,A8,k8,_,by go_num,by omega,E _,HT.out,Cr.out,D0.out⟩
  ·have g1:¬(q:Int)<(n:Int):=by omega
   have Bs:(Bf rsN).take q=Bf rs:=by rw[fj (by rw[Ag,<-HN.out.2];omega),HN.out.1]
   rw[Bs]at M;have HF:=Zh (show CH B w qb A c (JK wd wn u lo' hi' (Bf rs)) X from by
    have hl:(Bf rs).length=n:=by rw[<-HN.out.1,Ag,HN.out.2]
    have e:out=JK wd wn u lo' hi' (Bf rs):=by
     rw[M,C4.out,E0.out,o.out.1];unfold JK;rw[hl];simp only[RR,bw,dT,ag]
    rw[<-e];exact L.nas)
   clear L Bs M;go_wp2_with fail;go_end0;exact⟨rfl,lo',hi',A,c,HL.out.1,HL.out.2,HF.out⟩
structure ZI(w:World)(eb pb:Nat)(cs:Array V)(q:Nat)(A:Option Addr)(c:Nat)(rs1:DZ)(s:List UInt8)(W:World):Prop where
 rd:MM w eb pb cs s W
 own:W.ownsRow (pb+1) 178 1 (L A q c) q (Gf rs1)
 row:∀x∈rs1,BD W x.1 x.2
 len:q=rs1.length
section
variable {w:World} {eb pb:Nat} {cs:Array V} {q:Nat} {A:Option Addr} {c:Nat} {rs1:DZ} {s s' :List UInt8} {W W' :World}
theorem ZI.look(h:ZI w eb pb cs q A c rs1 s W)(e:CZ W' eb s')(a:AD (λk=>k=eb) W W'):ZI w eb pb cs q A c rs1 s' W' :=
 ⟨h.rd.look e a,AU h.own a λg F G =>by
  obtain⟨D,H⟩:=AJ h.own F
  exact(H.ne (show AI W eb _ 153 from h.rd.eye) (by decide)) G,λx K=>(h.row x K).away a λg F G =>by
  obtain⟨D,H⟩:=(h.row x K).blk F
  exact(H.ne (show AI W eb _ 153 from h.rd.eye) (by decide)) G,h.len⟩
theorem ZI.next(h:ZI w eb pb cs q A c rs1 s W)(b:B W.heap.size W W'):ZI w eb pb cs q A c rs1 s W' :=⟨h.rd.next b,AE h.own b λg D=>(h.own.lt g D).2,λx F=>(h.row x F).next b,h.len⟩
theorem ZI.grown{A' c'}{X:V×List Int}(h:ZI w eb pb cs q A c rs1 s W)(l:BD W X.1 X.2)(o:W'.ownsRow (pb+1) 178 1 (L A' (q+1) c') (q+1) (Gf (rs1++ [X])))(g:W.grownBy W' (L A q c).ownBlock):ZI w eb pb cs (q+1) A' c' (rs1++ [X]) s W' :=by
 have a:AD (λk=>(L A q c).ownBlock=S k) W W' :=AD.of_grown g λk G=>G;have D:∀x:V×List Int,BD W x.1 x.2->BD W' x.1 x.2:=λx O=>O.away a λi hi e=>by
  obtain⟨K,M⟩:=O.blk hi;obtain⟨Y,H⟩:=AJ h.own e;exact(M.ne H (by decide)) rfl
 refine⟨h.rd.move a λk G=>.inr ?_,o,λx F=> ?_,by rw[Jx,<-h.len];rfl⟩
 ·have Z:=(h.own.lt k G).1;obtain⟨K,M⟩:=AJ h.own G;exact⟨by omega,M.ne (show AI W eb _ 153 from h.rd.eye) (by decide)⟩
 ·rcases List.mem_append.1 F with F|F
  ·exact D x (h.row x F)
  ·rw[List.mem_singleton.1 F];exact D X l
end
theorem dk(wd wn:Nat)(Cr:4<=wd/\wd<=64/\(wd:Int).tmod 4=0)(D5:wn<18446744073709551616)(w)(eb u:Nat)(lo hi:Int)(D:CM)(vals:AM)(h:CZ w eb (JK wd wn u lo hi D))(hu:u<64)(Ac:Am lo)(Av:Am hi)(p:Bx D)(hT:wS D=BH vals)(C2:BH vals<=7200)(Ap:∀x∈D,x.length<wd):
  C prog 54 #[P (some ⟨eb,0,N⟩)] w (Hs (Ae 5 0 0 0 0 0 0 0 0 (wd:Int) (wn:Int)) 143 (Oy wd (wn:Int) vals) w eb):=by
 have C1:=JF p hT (by omega);have A9:∀x∈D,(∀y∈x,Am y)/\x.length<=64:=λx hx=>⟨p.2.2 x hx,by have:=Ap x hx;omega⟩
 have Bt:=Fz D A9;have k1:=AC wn D5;have k2:=AC u (by omega);have k3:=AC (AX lo) (Ao _ Ac).2;have k4:=AC (AX hi) (Ao _ Av).2;have k5:=AC D.length (by omega);unfold JK at h;have GA:=AI.lt h;have Aa :B w.heap.size w (w.alloc (.cells #[I J 0,I U 0,I U 0,I J 0,I J 0,I J 0,I U 0,I J 0,I J 0,I J 0,I U 0] 28)):=Za;have E0:CZ (w.alloc (.cells #[I J 0,I U 0,I U 0,I J 0,I J 0,I J 0,I U 0,I J 0,I J 0,I J 0,I U 0] 28)) eb _:=AI.alloc h _;have R0:AI (w.alloc (.cells #[I J 0,I U 0,I U 0,I J 0,I J 0,I J 0,I U 0,I J 0,I J 0,I J 0,I U 0] 28)) w.heap.size _ 28:=AI.newAt rfl;have Ab:=Bk _ eb wd 64 _ E0 Cr.2.1 (by decide) (by simp only[Jx];omega);have a:=Zh (Zi p (Zi hT (Zi C2 (Zi Ap (Zi A9 (Zi Ac (Zi Av Cr)))))));obtain⟨n,hn⟩:∃n,n=D.length:=⟨_,rfl⟩;rw[<-hn]at C1 Bt;have O:=Zh (Zi hn (Zi Aa R0));obtain⟨rest,K⟩:∃rest,rest=D.flatMap Ge:=⟨_,rfl⟩;rw[<-K]at Ab Bt;have D2:=Zh K;clear h p hT Ap A9 Aa K;go_enter func54,ntmps54;go_wp2_with fail;refine Ab.mono ?_;rintro e w1 ⟨rfl,E1,A1⟩;have B4:=DC w1 eb wn 18446744073709551615 _ E1 (by omega) (by decide) (by simp only[Jx];omega);have BX:=Zh A1;clear Ab E0 E1 A1 R0;go_wp2_with fail
 refine B4.mono ?_;rintro e w2 ⟨rfl,E2,A2⟩;have BA:=BX.out.trans' A2 (λ_ _ h=>h) (λ_ _ h=>h);have R2:=O.out.2.2.away BA (by show w.heap.size≠eb;omega);have B2:=(AD.of_below (F:=λk=>k=eb) O.out.2.1).trans' BA (λ_ _ h=>h) (λ_ _ h=>h);have D3:=R2.lt;have S2:MM w eb w2.heap.size (Ae 5 0 0 0 0 0 0 0 0 (wd:Int) (wn:Int)) _ (w2.alloc (.cells (Ae 5 0 0 0 0 0 0 0 0 (wd:Int) (wn:Int)) 28)):=⟨AI.alloc E2 _,AI.newAt rfl,R2.alloc _,B2.alloc _,by have:=AI.lt E2;omega,by omega,D3⟩;have Aw:=Bk _ eb u 63 _ S2.eye (by omega) (by decide) (by simp only[Jx];omega);have f:w2.heap.size+1<=(w2.alloc (.cells (Ae 5 0 0 0 0 0 0 0 0 (wd:Int) (wn:Int)) 28)).heap.size:=by simp
 have Ay:=Zh S2;unfold Ae at Aw;clear B4 E2 A2 BA R2 B2 S2 BX;go_wp2_with fail;generalize w2.heap.size=pb at Ay f⊢;refine Aw.mono ?_;rintro e w3 ⟨rfl,E3,A3⟩;have S3:=Ay.out.look E3 A3;have p3:pb+1<=w3.heap.size:=NW f (by have:=A3.size;unfold Ae;exact this);have Bw:=DD w3 eb lo _ S3.eye Ac (by simp only[Jx];omega);have Cp:=Zh S3;clear Aw E3 A3 S3 Ay f;go_wp2_with fail;refine Bw.mono ?_;rintro e w4 ⟨rfl,E4,A4⟩;have S4:=Cp.out.look E4 A4;have p4:pb+1<=w4.heap.size:=NW p3 A4.size;have Bu:=DD w4 eb hi _ S4.eye Av (by simp only[Jx];omega);have C0:=Zh S4;clear Bw E4 A4 S4 Cp p3;go_wp2_with fail;refine Bu.mono ?_;rintro e w5 ⟨rfl,E5,A5⟩;have S5:=C0.out.look E5 A5;have p5:pb+1<=w5.heap.size:=NW p4 A5.size;have Ar:=Bk w5 eb D.length 16 _ S5.eye (by omega) (by decide) (by omega);rw[<-hn]at Ar;have Bs:=Zh S5;clear Bu E5 A5 S5 C0 p4 hn;go_wp2_with fail;refine Ar.mono ?_;rintro e w6 ⟨rfl,E6,A6⟩;have S6:=Bs.out.look E6 A6;have p6:pb+1<=w6.heap.size:=NW p5 A6.size;have B5:=Zh (show ZI w eb pb (Ae 5 0 0 0 0 0 0 0 0 (wd:Int) (wn:Int)) 0 N 0 [] ((D.drop 0).flatMap Ge) w6 from⟨by rw[gV,<-D2.out];exact S6,W.ownsRow_nil _ _ _ _,λx hx=>absurd hx List.not_mem_nil,rfl⟩);clear Ar E6 A6 S6 Bs p5;go_wp2_with fail;go_loopg [9,25] n (λg s i wx=>∃(q:Nat) (A:Option Addr) (c:Nat) (rs1:DZ),i=I J q/\q<=n/\n-q<=g/\s=L A q c/\ZI w eb pb (Ae 5 0 0 0 0 0 0 0 0 (wd:Int) (wn:Int)) q A c rs1 ((D.drop q).flatMap Ge) wx/\pb+1<=wx.heap.size/\Hid (Bf rs1=D.take q))
 case atStart=>exact⟨0,N,0,[],rfl,Q0 _,E _,rfl,B5.out,p6,Zh (by simp[Bf])⟩
 case round=>
  clear B5 p6;rename W=>wx;obtain⟨q,A,c,rs1,rfl,hq,hg,rfl,S,f,HR⟩:=hrel;by_cases E9:q<n
  ·have g1:(q:Int)<(n:Int):=by omega
   have M:q<D.length:=by rw[<-O.out.1];exact E9
   have Y:D.take (q+1)=D.take q++ [D[q]'M]:=fa M;have Z:(D.drop q).flatMap Ge=AK (D[q]'M).length++(BP (D[q]'M)++(D.drop (q+1)).flatMap Ge):=by
    rw[<-gQ M,RR];unfold Ge;simp only[ag]
   obtain⟨BQ,AA⟩:=a.out.2.2.2.2.1 _ (bh M);have FR:=Fz (D.drop (q+1)) λy hy=>a.out.2.2.2.2.1 y (gR hy);have C8:(D.drop (q+1)).length<=14:=by rw[gS];have:=O.out.1;omega
   generalize D[q]'M=xs at Y Z BQ AA;have D1:=CO xs BQ;rw[Z]at S;have Ba:=Bk wx eb xs.length 64 _ S.rd.eye AA (by decide) (by rw[Jx];omega);have BR:=Zh (Zi Y BQ);have HS:=Zh S;have Fn:((D.drop (q+1)).flatMap Ge).length<=10000:=by omega
   clear Y Z FR C8 S D1;go_wp2_with fail;refine Ba.mono ?_;rintro e w7 ⟨rfl,E7,A7⟩;have S7:=HS.out.look E7 A7;have p7:pb+1<=w7.heap.size:=NW f A7.size;have CL:=RN w7 eb xs _ S7.rd.eye BR.out.2 (by omega) (by omega);have B0:=Zh S7;clear Ba E7 A7 S7 HS;go_wp2_with fail;refine CL.mono ?_;rintro e G ⟨v8,rfl,o8,E8,A8⟩;have H:=B0.out.look E8 A8;have p8:pb+1<=G.heap.size:=NW p7 A8.size;have l8:BD G v8 xs:=BD.of_owns o8;have b9:B G.heap.size G (G.alloc (.cells #[v8] 178)):=Za;have r:=Zh (Zi (H.next b9) (l8.next b9));have B1:pb+1<=(G.alloc (.cells #[v8] 178)).heap.size:=NW p8 b9.size;have Ck:=Zh B1;have q5:q<=100000:=by omega
   obtain⟨B9,c8,rfl⟩:=AF o8;clear CL o8 E8 A8 H l8 b9 B1 B0;go_wp2_with(at_builtin;refine GS rfl _ _ rfl r.out.1.own Ck.out q5 (X:=(L B9 xs.length c8,xs)) rfl rfl (AI.newAt rfl) rfl ?_);intro A' c' D0 Bb A0 _;have Cs:=r.out.1.grown (X:=(L B9 xs.length c8,xs)) r.out.2 Bb A0;have C3:pb+1<=D0.heap.size:=NW Ck.out A0.size;have B3:=Zh Cs;clear Bb A0 Cs r;go_wp2_with fail;go_roundg (n-(q+1));case measure=>omega
   exact⟨q+1,A',c',_,by go_num,by omega,E _,rfl,B3.out,C3,Zh (by rw[Ew,HR.out,BR.out.1];rfl)⟩
  ·have g1:¬(q:Int)<(n:Int):=by omega
   have Y:D.take q=D:=fj (by have:=O.out.1;omega);have Z:D.drop q=[]:=gT (by have:=O.out.1;omega);rw[Z,bw]at S;have m:Bf rs1=D:=by rw[HR.out,Y]
   have Ax:=bJ wd wn a.out.2.2.2.2.2.2.2 wx q A c rs1 (AO S.own λ_ _=>Q0 _) S.row (by rw[m];exact a.out.1) (λx hx=>a.out.2.2.2.1 x.2 (by rw[<-m];exact List.mem_map.2 ⟨x,hx,rfl⟩)) (by rw[m,a.out.2.1];have:=a.out.2.2.1;omega) u lo hi S.len;rw[m]at Ax;have k9:wx.cell? ⟨pb,9,N⟩=some (I J wd):=S.rd.cfg.cell rfl;have C9:wx.cell? ⟨pb,10,N⟩=some (I U wn):=S.rd.cfg.cell rfl;have HS:=Zh S.rd;have kl:=S.rd.cfg.lt;clear S Y Z m;go_wp2_with fail;refine Ax.mono ?_;rintro e G ⟨po,o,rfl,b8,h8⟩;have H:=HS.out.next b8;have k0:G.cell? ⟨pb,0,N⟩=some (I J 5):=H.cfg.cell rfl;have k1:G.cell? ⟨pb,1,N⟩=some (I U 0):=H.cfg.cell rfl;have k2:G.cell? ⟨pb,2,N⟩=some (I U 0):=H.cfg.cell rfl;have k3:G.cell? ⟨pb,3,N⟩=some (I J 0):=H.cfg.cell rfl;have k4:G.cell? ⟨pb,4,N⟩=some (I J 0):=H.cfg.cell rfl;have k5:G.cell? ⟨pb,5,N⟩=some (I J 0):=H.cfg.cell rfl;have k6:G.cell? ⟨pb,6,N⟩=some (I U 0):=H.cfg.cell rfl;have k7:G.cell? ⟨pb,7,N⟩=some (I J 0):=H.cfg.cell rfl;have k8:G.cell? ⟨pb,8,N⟩=some (I J 0):=H.cfg.cell rfl;have k9:G.cell? ⟨pb,9,N⟩=some (I J wd):=H.cfg.cell rfl;have C9:G.cell? ⟨pb,10,N⟩=some (I U wn):=H.cfg.cell rfl;obtain⟨⟨m0,m1,m2,m3,m4,m5,m6,m7,m8,m9,GC⟩,⟨f0,f1,f2,f3,f4,f5,f6,f7,f8,f9,GB⟩⟩:=CU H.res;have D8:w.heap.size<wx.heap.size:=HS.out.res.lt;have d:=DO (a0:=5) (a1:=0) (a2:=0) (a3:=0) (a4:=0) (a5:=0) (a6:=0) (a7:=0) (a8:=0) (a9:=(wd:Int)) (a10:=(wn:Int)) H.res
   have z:=Zh (MN (NQ wd (wn:Int)) (vals:=vals) (T:=143) (po:=po) (ok:=(o==0)) (a0:=5) (a1:=0) (a2:=0) (a3:=0) (a4:=0) (a5:=0) (a6:=0) (a7:=0) (a8:=0) (a9:=(wd:Int)) (a10:=(wn:Int)) H D8 (λhk=>by
    have hc:o=0:=by simpa using hk
    obtain⟨tb,pq,rv,C4,rfl,HD,hR,hO⟩:=h8 hc;rw[a.out.2.1]at HD;exact⟨tb,_,rfl,⟨pq,u,rv,C4,lo,hi,HD,by rw[hR];exact a.out.1,by rw[hR];exact a.out.2.1,λx hx=>a.out.2.2.2.1 x.2 (by rw[<-hR];exact List.mem_map.2 ⟨x,hx,rfl⟩),by omega,a.out.2.2.2.2.2.1,a.out.2.2.2.2.2.2.1,rfl⟩,hO⟩))
   clear Ax H HS h8 g1;go_wp2_with fail;change bodyPost prog f54 (Hs (Ae 5 0 0 0 0 0 0 0 0 (wd:Int) (wn:Int)) 143 (Oy wd (wn:Int) vals) w eb) Exit.ret _ (EZ G w.heap.size 5 0 0 0 0 0 0 0 0 (wd:Int) (wn:Int));generalize EZ G w.heap.size 5 0 0 0 0 0 0 0 0 (wd:Int) (wn:Int)=WW at d z⊢;have c0:=d.cell (j:=0) rfl;have c1:=d.cell (j:=1) rfl;have c2:=d.cell (j:=2) rfl;have c3:=d.cell (j:=3) rfl;have c4:=d.cell (j:=4) rfl;have c5:=d.cell (j:=5) rfl;have c6:=d.cell (j:=6) rfl;have c7:=d.cell (j:=7) rfl;have c8:=d.cell (j:=8) rfl;have c9:=d.cell (j:=9) rfl;have D4:=d.cell (j:=10) rfl;refine bodyPost_ret (v:=.tuple #[.agg (Ae 5 0 0 0 0 0 0 0 0 (wd:Int) (wn:Int)),.iface 143 (.agg #[P po]),.bool (o==0)]) ?_ rfl z.out;simp[results,results54,go_sem,Ae,c0,c1,c2,c3,c4,c5,c6,c7,c8,c9,D4]
section
variable {a0 a1 a2 a3 a4 a5 a6 a7 a8 a9 a10:Int} {T:TypeId} {Q:GX} {Gd:AM->Prop} {P:Int×Nat->Bool}
theorem FU{F:AM->List UInt8->Prop}(C:Cz Q)(Y:FuncId)(he:∀args w,(callFunc Y args).run prog w=.ok (.enter Y args) w)(kn)(G:a0=((kn.toNat:Nat):Int))(hm:∀(db:Nat) (w:W),(method 524 T (.agg #[.pointer (S ⟨db,0,N⟩)]) "ogive/suite.write").run prog w=.ok (Y,.agg #[.pointer (S ⟨db,0,N⟩)]) w)
  (z:∀(B:Nat) (w:W) (db:Nat) (O:Nat->Prop) (vals:AM) (qb:Nat) (A:Option Addr) (c:Nat),Fi B w qb (L A ([]:List UInt8).length c) []->B<=w.heap.size->Q vals w db O->(∀k,O k->k<B)->Gd vals->DK vals->vals.length<=360->Calls prog Y #[.agg #[.pointer (S ⟨db,0,N⟩)],.pointer (S ⟨qb,0,N⟩)] w λe w' =>e=R (.tuple #[])/\∃ld A' c',F vals ld/\CH B w qb A' c' ld w')
  (X:∀vals ld,Gd vals->DK vals->vals.length<=360->F vals ld->ld.length<=190000)
  (w u O)(vals:AM)(h:GZ a0 a1 a2 a3 a4 a5 a6 a7 a8 a9 a10 T Q Gd w u O vals)(o:DK vals)(i:vals.length<=360):
  Calls prog 26 #[.pointer (S ⟨u,0,N⟩)] w λe w' =>∃ld,e=R (.tuple #[.string (bs (AW kn ld)),I J 0])/\F vals ld/\Below w.heap.size w w' :=by
 obtain⟨db,D,f,a,j,rfl⟩:=h;have K:=Zh (λld (k:F vals ld)=>X vals ld j o i k);have x:=Fi.fresh w;have y:Below w.heap.size w (w.alloc (.cells #[L N 0 0] 109)):=Za;have M:=z w.heap.size (w.alloc (.cells #[L N 0 0] 109)) db D vals w.heap.size N 0 x (by simp) (C.next a y) (C.lt a) j o i;obtain⟨c0,c1,Aa⟩:=Ct f;have g:=hm db;have HH:=Zh f;have Ab:u≠w.heap.size:=by omega
 have d:kn.toNat<256:=kn.toNat_lt;have e8:IntKind.u8.wrap a0=a0:=by rw[G,IntKind.wrap_u8];omega
 clear f a j x z hm o i;go_enter func26,ntmps26;go_wp2_with fail;refine M.mono ?_;rintro e Z ⟨rfl,ld,A1,k1,p,r⟩;have AA:=K.out ld p;have HR:=Zh p;clear p K X;have m:Below w.heap.size w Z:=y.trans r.below;have HK:=HH.out.below m HH.out.lt;obtain⟨d0,d1,Ac⟩:=Ct HK;have v:=Ii w.heap.size Z.drew w.heap.size _ _ r.drew.qu;have H:=JO Z.drew kn ld (by omega);rw[<-G]at H;clear M c0 c1 r HK G;go_upto_region 5 with fail;rename_i KK;go_region_with(first|(go_at_call 40;refine v.mono ?_;rintro e w2 ⟨rfl,rfl⟩)|(go_at_call 39;refine H.mono ?_;rintro e w3 ⟨rfl,b3⟩));all_goals(
  refine KK _ _ ?_;clear v H g;go_wp2_with fail;go_ret2;exact⟨ld,rfl,HR.out,m.drew.trans (b3.mono m.size)⟩)
theorem IB(w H kn)(D:List UInt8->Prop)(F:C prog 26 #[.pointer (S ⟨H,0,N⟩)] w λe w' =>∃ld,e=R (.tuple #[.string (bs (AW kn ld)),I J 0])/\D ld/\B w.heap.size w w'):
  C prog 14 #[.pointer (S ⟨H,0,N⟩)] w λe w' =>∃ld,e=R (.string (bs (AW kn ld)))/\D ld/\B w.heap.size w w' :=by
 go_enter func14,ntmps14;go_wp2_with fail;refine F.mono ?_;rintro e O ⟨ld,rfl,G,K⟩;have M:=Zh G;clear F G;go_wp2_with fail;go_ret;exact⟨ld,rfl,M.out,K⟩
end
theorem TO{Q:GX}(C:Cz Q){vals:AM}(T d X H G Y a K Z O D w eb)(g:eb<w.heap.size)(m:Calls prog 55 #[P (S ⟨eb,0,N⟩)] (w.alloc (.cells BN 28)) (Hs (Ae 6 d X H G Y a K Z O D) T (Q vals) (w.alloc (.cells BN 28)) eb)):
  Calls prog 33 #[I J 6,P (S ⟨eb,0,N⟩)] w (Hs (Ae 6 d X H G Y a K Z O D) T (Q vals) w eb):=by
 have f:AI (w.alloc (.cells BN 28)) w.heap.size BN 28:=AI.newAt rfl;have r:=Zh f;clear f;unfold BN at m;go_enter func33,ntmps33;go_wp2_with fail;refine m.mono ?_;rintro e o ⟨ok,po,rfl,h,u,p⟩;have f:=r.out;unfold BN at f;have k:=f.away h (by omega);obtain⟨⟨m0,m1,m2,m3,m4,m5,m6,m7,m8,m9,AA⟩,⟨f0,f1,f2,f3,f4,f5,f6,f7,f8,f9,y⟩⟩:=CU k;have F:=DO (a0:=6) (a1:=d) (a2:=X) (a3:=H) (a4:=G) (a5:=Y) (a6:=a) (a7:=K) (a8:=Z) (a9:=O) (a10:=D) k;have M:=Zh (Hs.on C (a0:=6) (a1:=d) (a2:=X) (a3:=H) (a4:=G) (a5:=Y) (a6:=a) (a7:=K) (a8:=Z) (a9:=O) (a10:=D) (T:=T) g h u p);clear m h u p k f r;unfold Ae;go_wp2_with fail;change bodyPost prog f33 (Hs (Ae 6 d X H G Y a K Z O D) T (Q vals) w eb) Exit.ret _ (EZ o w.heap.size 6 d X H G Y a K Z O D);generalize EZ o w.heap.size 6 d X H G Y a K Z O D=WW at F M⊢;have c0:=F.cell (j:=0) rfl;have c1:=F.cell (j:=1) rfl;have c2:=F.cell (j:=2) rfl;have c3:=F.cell (j:=3) rfl;have c4:=F.cell (j:=4) rfl;have c5:=F.cell (j:=5) rfl;have c6:=F.cell (j:=6) rfl;have c7:=F.cell (j:=7) rfl;have x:=F.cell (j:=8) rfl;have z:=F.cell (j:=9) rfl;have i:=F.cell (j:=10) rfl;refine bodyPost_ret (v:=.tuple #[.agg (Ae 6 d X H G Y a K Z O D),.iface T (.agg #[P po]),.bool ok]) ?_ rfl M.out;simp[results,results33,go_sem,Ae,c0,c1,c2,c3,c4,c5,c6,c7,x,z,i]
theorem Vn(args w):(callFunc 345 args).run prog w=.ok (.enter 345 args) w:=by kernel_rfl
theorem Vo(args w):(callFunc 360 args).run prog w=.ok (.enter 360 args) w:=by kernel_rfl
theorem Vp(args w):(callFunc 363 args).run prog w=.ok (.enter 363 args) w:=by kernel_rfl
theorem Vq(db w):(method 524 148 (.agg #[P (S ⟨db,0,N⟩)]) "Put").run prog w=.ok (345,P (S ⟨db,0,N⟩)) w:=by kernel_rfl
theorem TP(db w):(method 524 148 (.agg #[P (S ⟨db,0,N⟩)]) "ogive/suite.join").run prog w=.ok (360,.agg #[P (S ⟨db,0,N⟩)]) w:=by kernel_rfl
theorem RX(db w):(method 524 148 (.agg #[P (S ⟨db,0,N⟩)]) "ogive/suite.write").run prog w=.ok (363,.agg #[P (S ⟨db,0,N⟩)]) w:=by kernel_rfl
theorem TQ(w a1 a2 a3 a4 a5 a6 a7 a8 a9 a10):
  C prog 30 #[.agg #[I J 6,I U a1,I U a2,I J a3,I J a4,I J a5,I U a6,I J a7,I J a8,I J a9,I U a10]] w (Gs 148 (λW db O=>Om a4.toNat [] W db O/\2<=a4/\a4<=64) (2<=a4/\a4<=64) w):=by
 have G:B w.heap.size w (w.alloc (.cells #[I J 6,I U a1,I U a2,I J a3,I J a4,I J a5,I U a6,I J a7,I J a8,I J a9,I U a10] 28)):=(B.refl _ w).alloc (E _) _;by_cases M:2<=a4/\a4<=64
 ·obtain⟨Z,a⟩:=M;obtain⟨d,rfl⟩:∃d:Nat,a4=(d:Int):=⟨a4.toNat,by omega⟩;have F:=NJ (w.alloc (.cells (#[I J 6,I U a1,I U a2,I J a3,I J d,I J a5,I U a6,I J a7,I J a8,I J a9,I U a10]:Array V) 28)) d (by omega) (by omega);have H:=Zh G;have X:=Zh (Zi Z a);clear G Z a;go_enter func30,ntmps30;go_wp2_with fail;refine F.mono ?_;rintro e K ⟨rfl,Y⟩;have D:(w.alloc (.cells (#[I J 6,I U a1,I U a2,I J a3,I J d,I J a5,I U a6,I J a7,I J a8,I J a9,I U a10]:Array V) 28)).heap.size=w.heap.size+1:=by simp
  have j:=Zh (show Om d [] K (w.heap.size+1) (KY (w.heap.size+1) (L N 0 0))/\B w.heap.size w K from by
   subst Y;refine⟨⟨L N 0 0,[],⟨AI.newAt D.symm,World.ownsRow_nil _ _ _ _⟩,rfl,(λy i=>by cases i),Q0 _,rfl⟩,H.out.trans ((Za).mono H.out.size)⟩)
  rw[D];clear F Y D;go_wp2_with fail;go_ret2;obtain⟨g,f⟩:=j.out;refine⟨_,0,rfl,f,λ_=>⟨_,_,rfl,⟨by rw[Int.toNat_natCast];exact g,X.out⟩,?_⟩,λ_=>rfl⟩;rintro k (rfl|e)
  ·omega
  ·simp[V.ownBlock]at e
 ·have F:=MZ (w.alloc (.cells (#[I J 6,I U a1,I U a2,I J a3,I J a4,I J a5,I U a6,I J a7,I J a8,I J a9,I U a10]:Array V) 28)) a4 (by omega);have X:=Zh M;have H:=Zh G;clear M G;go_enter func30,ntmps30;go_wp2_with fail;refine F.mono ?_;rintro e K ⟨rfl,rfl⟩;clear F;go_wp2_with fail;go_ret2;exact⟨_,1,rfl,H.out,λh=>absurd h (by decide),λh=>absurd h X.out⟩
section
variable {a1 a2 a3 a4 a5 a6 a7 a8 a9 a10:Int}
def bV(a1 a2 a3 a4 a5 a6 a7 a8 a9 a10:Int)(vals:AM):Prop:=(a1=0/\a2=0/\a3=0/\a5=0/\a6=0/\a7=0/\a8=0/\a9=0/\a10=0)/\(2<=a4/\a4<=64)
def er(most:Nat)(vals:AM)(ld:List UInt8):Prop:=∃l,ld=MH most l/\Bl l=BH vals/\(∀y∈l,Kg y)/\l.length<=most
theorem Vr:Df 6 a1 a2 a3 a4 a5 a6 a7 a8 a9 a10 6 (By 6 a1) (By 6 a2) (Dg 6 a3) (Dh 6 a4) (Bz 6 a5) (Bz 6 a6) (B6 6 a7) (B6 6 a8) (B7 6 a9) (B7 6 a10)=true↔a1=0/\a2=0/\a3=0/\a5=0/\a6=0/\a7=0/\a8=0/\a9=0/\a10=0:=by
 have F:∀a,By 6 a=0:=λa=>Bd (by decide);have K:∀a,Dg 6 a=0:=λa=>Bd (by decide);have M:∀a,Dh 6 a=a:=λa=>Ek (by decide);have D:∀a,Bz 6 a=0:=λa=>Bd (by decide);have G:∀a,B6 6 a=0:=λa=>Bd (by decide);have H:∀a,B7 6 a=0:=λa=>Bd (by decide);rw[F,F,K,M,D,D,G,G,H,H];unfold Df;simp[and_assoc]
theorem Vs:Kind (Ae 6 a1 a2 a3 a4 a5 a6 a7 a8 a9 a10) (GZ 6 a1 a2 a3 a4 a5 a6 a7 a8 a9 a10 148 (Om a4.toNat) (bV a1 a2 a3 a4 a5 a6 a7 a8 a9 a10)) (λs vals=>∃ld,s=AW 6 ld/\er a4.toNat vals ld/\bV a1 a2 a3 a4 a5 a6 a7 a8 a9 a10 vals) Hu:=by
 have C:=Lo a4.toNat;have f:∀(vals:AM) (l:List Af),DK vals->vals.length<=360->Bl l=BH vals->(∀y∈l,Kg y)->BH vals<=7200/\∀y∈l,Kg y/\y.1<18446744073709551616:=λvals l hi D hs H=>by
  have Aa:=Bo vals hi;exact⟨by omega,λy hy=>⟨H y hy,by have:=Gw hy;omega⟩⟩
 have r:∀vals ld,bV a1 a2 a3 a4 a5 a6 a7 a8 a9 a10 vals->DK vals->vals.length<=360->er a4.toNat vals ld->ld.length<=190000:=λvals ld H hi D hd=>by
  obtain⟨l,rfl,M,K,o⟩:=hd;obtain⟨h4,h5⟩:=f vals l hi D M K;have h6:=Fx l h5;have g:=H.2;have k1:=AC a4.toNat (by omega);have k2:=AC l.length (by omega);unfold MH;simp only[Jx];omega
 have AA:∀(B:Nat) (w:World) (db:Nat) (O:Nat->Prop) (vals:AM) (qb:Nat) (A:Option Addr) (c:Nat),Fi B w qb (L A ([]:List UInt8).length c) []->B<=w.heap.size->Om a4.toNat vals w db O->(∀k,O k->k<B)->bV a1 a2 a3 a4 a5 a6 a7 a8 a9 a10 vals->DK vals->vals.length<=360->
   Calls prog 363 #[.agg #[P (S ⟨db,0,none⟩)],P (S ⟨qb,0,none⟩)] w λe w' =>e=R (.tuple #[])/\∃ld A' c',er a4.toNat vals ld/\CH B w qb A' c' ld w' :=λB w db O vals qb A c hq hB h hO H hi D=>by
  obtain⟨v,l,h0,M,K,o,rfl⟩:=h;obtain⟨h4,h5⟩:=f vals l hi D M K;have g:=H.2;refine(Y4 a4.toNat (by omega) B w db v l _ qb A c hq hB h0 hO (by omega) h5).mono λe w' i=> ?_;obtain⟨rfl,A',c',hN⟩:=i;exact⟨rfl,_,A',c',⟨l,rfl,M,K,o⟩,hN⟩
 have u:=λw Z=>JB C (Gd:=bV a1 a2 a3 a4 a5 a6 a7 a8 a9 a10) (a0:=6) (a1:=a1) (a2:=a2) (a3:=a3) (a4:=a4) (a5:=a5) (a6:=a6) (a7:=a7) (a8:=a8) (a9:=a9) (a10:=a10) (T:=148) (λW db O=>Om a4.toNat [] W db O/\2<=a4/\a4<=64) (2<=a4/\a4<=64) (λW W' db O h b=>⟨C.next h.1 b,h.2⟩) (λW db O h=>C.lt h.1) (λW db O hs h=>⟨h.1,Vr.1 hs,h.2⟩) (λW _=>TQ W a1 a2 a3 a4 a5 a6 a7 a8 a9 a10) w Z;have p:∀(vals:AM) (ld:List UInt8) (w:World),Sp.Tens w->er a4.toNat vals ld->bV a1 a2 a3 a4 a5 a6 a7 a8 a9 a10 vals->DK vals->vals.length<=360->Calls prog 19 #[.string (bs (AW 6 ld))] w (OD (GZ 6 a1 a2 a3 a4 a5 a6 a7 a8 a9 a10 148 (Om a4.toNat) (bV a1 a2 a3 a4 a5 a6 a7 a8 a9 a10)) vals w):=λvals ld w Z hD H hi D=>by
  have m:=r vals ld H hi D hD;obtain⟨l,rfl,M,K,o⟩:=hD;obtain⟨h4,h5⟩:=f vals l hi D M K;obtain⟨g1,g2⟩:=H.2;have e4:((a4.toNat:Nat):Int)=a4:=by omega
  obtain⟨rfl,rfl,rfl,rfl,rfl,rfl,rfl,rfl,rfl⟩:=H.1;refine Et C (a0:=6) (T:=148) 6 rfl vals H _ m (λW eb hW hE=> ?_) w Z;refine TO C 148 0 0 0 a4 0 0 0 0 0 0 W eb (AI.lt hE) ?_;have z:=(AI.alloc hE (.cells BN 28):CZ (W.alloc (.cells BN 28)) eb _);rw[ZD]at z;have X:=bT a4.toNat (by omega) (by omega) (W.alloc (.cells BN 28)) eb l vals z (by omega) K M h4;rw[e4]at X;exact X
 exact
 {next:=λh b=>h.next C b
  away:=λh a n=>h.away C a n
  lt:=λh=>h.lt C
  ty:=λh=>h.ty C
  new:=λw Z=>(u w Z).mono λ_ _ i=>i.1
  put:=λw j O vals x h hi D hx hc=>JA C 345 Vn Vq (λvals x g M K hP=>g)
   (λw db O vals x h g hi D hx hc=>dQ a4.toNat (by have:=g.2;omega) (by have:=g.2;omega) w vals db O h hi (Nat.lt_trans D (by decide)) x hx hc) w j O vals x h hi D hx hc
  bytes:=λw j O vals h hi D=>by
   have H:bV a1 a2 a3 a4 a5 a6 a7 a8 a9 a10 vals:=by obtain⟨_,_,_,_,g,_⟩:=h;exact g
   refine(IB w j 6 _ (FU C 363 Vp 6 rfl RX AA r w j O vals h hi D)).mono λe w' i=> ?_;obtain⟨ld,rfl,hR,hB⟩:=i;exact⟨_,rfl,⟨ld,rfl,hR,H⟩,hB⟩
  decode:=λw s vals Z he hi D=>by
   obtain⟨ld,rfl,hD,H⟩:=he;exact p vals ld w Z hD H hi D
  join:=λw j nb O N vals G h k d hi hj D=>G0 C 360 Vo TP (λvals G g g2=>g)
   (λw db ob O N vals G h k g g2 d hi hj D=>by
    have X:=RH w db ob (Dv (Om a4.toNat) w db O vals G) λW b=>(bH a4.toNat (by have:=g.2;omega) (by have:=g.2;omega) W vals G db ob O N (C.next h b) (C.next k b) d hi hj D).mono λe w' i=>by
     obtain⟨Y,O',rfl,M,K,o⟩:=i;exact⟨⟨Y,rfl⟩,Y,O',rfl,M,λk hk=>(K k hk).imp id λe=>NW b.size e,(AD.of_below (F:=O) b).trans' o (λ_ _ h=>h) (λ_ _ h=>h)⟩
    exact X) w j nb O N vals G h k d hi hj D}
end
end Go.Proofs.YtbejdajkkoapgaaGreatDoor
