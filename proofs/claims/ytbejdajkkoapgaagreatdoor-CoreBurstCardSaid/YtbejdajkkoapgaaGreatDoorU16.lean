/-
  Lemmas and walks for coreBurst.proved, joined and squeezed by a program out of the loose texts J22, J23, Bw. Conditions: each theorem states its own.
-/
import Derived.Test.YtbejdajkkoapgaaGreatDoorU15
import Derived.Test.YtbejdajkkoapgaaGreatDoorU02
import Derived.Test.YtbejdajkkoapgaaGreatDoorU07
import Derived.Test.YtbejdajkkoapgaaGreatDoorU03
import Derived.Test.YtbejdajkkoapgaaGreatDoorU04
import Derived.Test.YtbejdajkkoapgaaGreatDoorU05
set_option linter.all false
set_option maxRecDepth 100000
set_option maxHeartbeats 40000000
open Go.RowKit Go.Lib Go.Proofs.Tryz
open Go renaming Calls->C,Value->V,World->W
open Go.Act renaming put->NW
open Go.Ending renaming returned->R
open Go.IntKind renaming i64->J,u64->U,wrap_u64->bw
open Go.RowKit renaming Below->B
open Go.Value renaming int->I,pointer->P,slice->L,tuple->T
open List renaming append_assoc->dT,drop_succ_cons->aw,drop_zero->bh,getElem_mem->ej,length_append->Jx,length_cons->es,take_succ_cons->V0,take_zero->ag
open Nat renaming le_refl->E,le_trans->Q0,pow_le_pow_right->RR
open Option renaming none->N,some->S
namespace Go.Proofs.YtbejdajkkoapgaaGreatDoor
theorem IE.cells{w kb db sb v d F lo hi}{l:AL}(h:IE w kb db sb v d F lo hi l):w.cell? ⟨kb,0,N⟩=S (I J 3)/\w.cell? ⟨kb,11,N⟩=S (.iface 131 (.agg #[P (S ⟨db,0,N⟩)]))/\kb<w.heap.size:=⟨h.blk.cell rfl,h.blk.cell rfl,h.blk.lt⟩
section
variable {w w' :W} {kb db sb:Nat} {v:V} {d F:Nat} {lo hi:Int} {l:AL}
theorem IE.next(h:IE w kb db sb v d F lo hi l)(D:B w.heap.size w w'):IE w' kb db sb v d F lo hi l:=⟨h.blk.below D h.blk.lt,h.dig.next D⟩
theorem IE.drew(h:IE w kb db sb v d F lo hi l):IE w.drew kb db sb v d F lo hi l:=⟨h.blk.drew,h.dig.drew⟩
theorem IE.apart(h:IE w kb db sb v d F lo hi l):¬Own db sb v kb:=by
 rintro(e|e|e)
 ·exact(h.blk.ne h.dig.blk (by decide)) e
 ·exact(h.blk.ne h.dig.strip.blk (by decide)) e
 ·obtain⟨G,D⟩:=AJ h.dig.strip.own e;exact(h.blk.ne D (by decide)) rfl
end
def Tc(kb db sb:Nat)(v:V)(k:Nat):Prop:=k=kb\/Own db sb v k
theorem IE.lt{w kb db sb v d F lo hi}{l:AL}(h:IE w kb db sb v d F lo hi l):∀k,Tc kb db sb v k->k<w.heap.size:=by
 rintro k (rfl|e)
 ·exact h.blk.lt
 ·exact h.dig.lt k e
theorem IE.away{w w' kb db sb v d F lo hi}{l:AL}{G}(h:IE w kb db sb v d F lo hi l)(D:AD G w w')(H:∀k,Tc kb db sb v k->¬G k):IE w' kb db sb v d F lo hi l:=
 ⟨h.blk.away D (H _ (.inl rfl)),h.dig.away D λk K=>H k (.inr K)⟩
def WR(w:World)(kb db sb:Nat)(v:V)(d F:Nat)(l' :AL)(W:World):Prop:=
 ∃lo' hi' sb' v',IE W kb db sb' v' d F lo' hi' l' /\Am lo' /\Am hi' /\BV w (Own db sb v) (Own db sb' v')/\AD (Own db sb v) w W
theorem WR.of{w W kb db sb v d F lo hi}{l H :AL}(h:IE w kb db sb v d F lo hi l)(k:OI w db sb v d F H W):WR w kb db sb v d F H W:=by
 obtain⟨lo',hi',G,v',D,M,K,S,A⟩:=k;exact⟨lo',hi',G,v',⟨h.blk.away A h.apart,D⟩,M,K,S,A⟩
theorem Zb(db w):(method 524 131 (.agg #[P (S ⟨db,0,N⟩)]) "Put").run prog w=.ok (169,P (S ⟨db,0,N⟩)) w:=by kernel_rfl
theorem WS(db w):(method 524 131 (.agg #[P (S ⟨db,0,N⟩)]) "ogive/suite.join").run prog w=.ok (252,.agg #[P (S ⟨db,0,N⟩)]) w:=by kernel_rfl
theorem Td(db w):(method 524 131 (.agg #[P (S ⟨db,0,N⟩)]) "ogive/suite.write").run prog w=.ok (255,.agg #[P (S ⟨db,0,N⟩)]) w:=by kernel_rfl
theorem WT(D w):(Instr.typeAssert (.iface 131 (.agg #[P (S ⟨D,0,N⟩)])) 74 131 false).run prog w=.ok (.agg #[P (S ⟨D,0,N⟩)]) w:=by kernel_rfl
theorem Zc(D w):(Instr.field 131 (.agg #[P (S ⟨D,0,N⟩)]) 0).run prog w=.ok (P (S ⟨D,0,N⟩)) w:=by kernel_rfl
theorem dq(w)(kb db sb:Nat)(v)(d F:Nat)(lo hi:Int)(l:AL)(h:IE w kb db sb v d F lo hi l)(i:1<=d)(Q:d<=24)(Z:1<=F)(X:F<=64)(M:Am lo)(O:Am hi)
  (k:CE d l)(H:l.length<=3000)(G:AB l<=900000)(x:Int)(a:Am x)(c:Nat)(f:c<=1000):
  C prog 18 #[P (S ⟨kb,0,N⟩),I J x,I U c] w λe w' =>∃(D:Int) (K :AL),e=R (I J D)/\WR w kb db sb v d F K w' /\
   ((D=0/\0<=x/\x<((2^d:Nat):Int)/\1<=c/\Fq d F (Ak l (2^d+x.toNat) c) K)\/(D≠0/\K =l/\¬(0<=x/\x<((2^d:Nat):Int)/\1<=c))):=by
 obtain⟨o,q,n⟩:=h.cells;have j:=aP w db sb v d F lo hi l h.dig i Q Z X M O k H G x a c f;have r:=Zb db;have m:=Zh h;clear h;go_enter func18,ntmps18;go_wp2_with(go_at_call 169;refine j.mono ?_;rintro e p ⟨D,K,rfl,g,Y⟩);go_ret;exact⟨D,K,rfl,WR.of m.out g,Y⟩
structure fE(w:World)(db sb:Nat)(v:V)(ob so:Nat)(u:V)(d F:Nat)(lo hi lo2 hi2:Int)(l m:AL)(b:Nat)(W:World):Prop where
 jn:Zx w db sb v ob so u d F lo hi lo2 hi2 l m W
 p0:W.cell? ⟨b,0,N⟩=S (P (S ⟨db,0,N⟩))
theorem fE.drew{w W db sb v H K u d F lo hi D G}{l m:AL}{b}(h:fE w db sb v H K u d F lo hi D G l m b W):fE w db sb v H K u d F lo hi D G l m b W.drew:=⟨h.jn.drew,h.p0⟩
theorem WU(w db sb v K O u d F lo hi D G)(l m:AL)(h:Au w db sb v d F lo hi l)(k:Au w K O u d F D G m)(f:∀i,Own db sb v i->¬Own K O u i)
  (z:1<=d)(r:d<=24)(h3:1<=F)(y:F<=64)(o:Am lo)(g:Am hi)(X:Am D)(Y:Am G)
  (hn:CE d l)(n:CE d m)(Z:l.length+m.length<=3000)(Q:AB l+AB m<=900000):
  Calls prog 252 #[.agg #[P (S ⟨db,0,N⟩)],.iface 131 (.agg #[P (S ⟨K,0,N⟩)])] w λe w' =>∃a,e=R (I J 0)/\OI w db sb v d F a w' /\Fq d F (AZ l m) a :=by
 have M:B w.heap.size w (w.alloc (.cells #[P (S ⟨db,0,N⟩)] 131)):=Za;have H:fE w db sb v K O u d F lo hi D G l m w.heap.size (w.alloc (.cells #[P (S ⟨db,0,N⟩)] 131)):=⟨⟨h.next M,k.next M,M⟩,(AI.newAt (T:=131) rfl).cell rfl⟩;have hj:=λW (x:Zx w db sb v K O u d F lo hi D G l m W)=>Ya W db sb v K O u d F lo hi D G l m x.dig x.oth f z r h3 y o g X Y hn n Z Q;have AA:=WT K;have Aa:=Zc K;clear h k;go_enter func252,ntmps252;go_upto_region 1 with fail;refine AS 5 (C:=fE w db sb v K O u d F lo hi D G l m w.heap.size) (by kernel_rfl) (by kernel_rfl) H.drew ?_;simp only[V0,ag,aw,bh];repeat go_big_quiet_step(exact λ_=>rfl)
 go_big_quiet_want;refine⟨P (S ⟨db,0,N⟩),λwx hx=> ?_,?_⟩
 ·have p0:=hx.p0;go_simp
 go_big_quiet_on;simp only[NW,Zp,Zq,Zr];repeat go_big_quiet_step(exact λ_=>rfl)
 refine wpQuiet_nil ?_;intro w1 q;go_wp2_with(go_at_call 256;refine(hj _ q.jn).mono ?_;rintro e w2 ⟨a,rfl,T2,L2⟩);go_ret;obtain⟨lo',hi',j,v',D2,i1,s,S2,A2⟩:=T2;have p:=q.jn.below;exact⟨a,rfl,⟨lo',hi',j,v',D2,i1,s,λk t=>(S2 k t).imp id λh=>Q0 p.size h,(AD.of_below (F:=Own db sb v) p).trans' A2 (λ_ _ h=>h) (λ_ _ h=>h)⟩,L2⟩
structure eC(w:World)(kb db sb:Nat)(v:V)(nb ob so:Nat)(u:V)(d F:Nat)(lo hi lo2 hi2:Int)(l m:AL)(W:World):Prop where
 sk:IE W kb db sb v d F lo hi l
 oth:IE W nb ob so u d F lo2 hi2 m
 below:B w.heap.size w W
theorem eC.drew{w W kb db sb v K M H u d F lo hi G D}{l m:AL}(h:eC w kb db sb v K M H u d F lo hi G D l m W):eC w kb db sb v K M H u d F lo hi G D l m W.drew:=⟨h.sk.drew,h.oth.drew,h.below.drew⟩
theorem bk(w kb db sb v Q K M u d F lo hi D G)(l m:AL)(h:IE w kb db sb v d F lo hi l)(k:IE w Q K M u d F D G m)(j:∀i,Own db sb v i->¬Own K M u i)
  (h1:1<=d)(h2:d<=24)(h3:1<=F)(h4:F<=64)(t:Am lo)(o:Am hi)(Y:Am D)(Z:Am G)
  (hn:CE d l)(s:CE d m)(a:l.length+m.length<=3000)(X:AB l+AB m<=900000):
  Calls prog 22 #[P (S ⟨kb,0,N⟩),P (S ⟨Q,0,N⟩)] w λe w' =>∃g,e=R (I J 0)/\WR w kb db sb v d F g w' /\Fq d F (AZ l m) g :=by
 have H:eC w kb db sb v Q K M u d F lo hi D G l m w:=⟨h,k,B.refl _ _⟩;have hj:=λW (x:IE W kb db sb v d F lo hi l) (y:IE W Q K M u d F D G m)=>WU W db sb v K M u d F lo hi D G l m x.dig y.dig j h1 h2 h3 h4 t o Y Z hn s a X;have hm:=WS db;clear h k;go_enter func22,ntmps22;go_upto_region 3 with fail;refine AG (C:=eC w kb db sb v Q K M u d F lo hi D G l m) (by kernel_rfl) (by kernel_rfl) H.drew ?_;repeat go_big_quiet_step(exact λ_=>rfl)
 go_big_quiet_want;refine⟨I J 3,λn O=> ?_,?_⟩
 ·obtain⟨z,q,r⟩:=O.sk.cells;go_simp
 go_big_quiet_on;simp only[NW,Zp,Zq,Zr];repeat go_big_quiet_step(exact λ_=>rfl)
 go_big_quiet_want;refine⟨I J 3,λn O=> ?_,?_⟩
 ·obtain⟨z,q,r⟩:=O.oth.cells;go_simp
 go_big_quiet_on;simp only[NW,Zp,Zq,Zr];repeat go_big_quiet_step(exact λ_=>rfl)
 refine wpQuiet_nil ?_;intro w1 H1;go_upto_region 5 with fail;refine AS 10 (C:=eC w kb db sb v Q K M u d F lo hi D G l m) (by kernel_rfl) (by kernel_rfl) H1.drew ?_;simp only[V0,ag,aw,bh];repeat go_big_quiet_step(exact λ_=>rfl)
 go_big_quiet_want;refine⟨.iface 131 (.agg #[P (S ⟨db,0,N⟩)]),λn O=> ?_,?_⟩
 ·obtain⟨z,q,r⟩:=O.sk.cells;go_simp
 go_big_quiet_on;simp only[NW,Zp,Zq,Zr];repeat go_big_quiet_step(exact λ_=>rfl)
 go_big_quiet_want;refine⟨.iface 131 (.agg #[P (S ⟨K,0,N⟩)]),λn O=> ?_,?_⟩
 ·obtain⟨z,q,r⟩:=O.oth.cells;go_simp
 go_big_quiet_on;simp only[NW,Zp,Zq,Zr];repeat go_big_quiet_step(exact λ_=>rfl)
 refine wpQuiet_nil ?_;intro w2 f;go_wp2_with(go_at_call 252;refine(hj _ f.sk f.oth).mono ?_;rintro e w3 ⟨g,rfl,T3,L3⟩);go_ret;obtain⟨lo',hi',p,v',K3,i1,i2,S3,A3⟩:=WR.of f.sk T3;have b1:=f.below;exact⟨g,rfl,⟨lo',hi',p,v',K3,i1,i2,λk hk=>(S3 k hk).imp id λh=>Q0 b1.size h,(AD.of_below (F:=Own db sb v) b1).trans' A3 (λ_ _ h=>h) (λ_ _ h=>h)⟩,L3⟩
theorem CH.next{B w qb A c out wr K}(h:CH B w qb A c out wr)(Q:B<=w.heap.size)(b:Below wr.heap.size wr K):CH B w qb A c out K:=
 ⟨h.qu.next b,h.below.trans (b.mono (Q0 Q h.below.size)),λH G T M D O=>(h.keep H G T M D O).below b (h.keep H G T M D O).lt⟩
structure Mf(B:Nat)(w:World)(db sb:Nat)(v:V)(d F:Nat)(lo hi:Int)(l:AL)(qb:Nat)(A:Option Addr)(c:Nat)(out:List UInt8)(b:Nat)(W:World):Prop where
 nas:CH B w qb A c out W
 dig:Au w db sb v d F lo hi l
 blk:AI W b #[P (S ⟨db,0,N⟩)] 131
 hB:B<=w.heap.size
 own:∀k,Own db sb v k->k<B
section
variable {B:Nat} {w:World} {db sb:Nat} {v:V} {d F:Nat} {lo hi:Int} {l:AL} {qb:Nat} {A:Option Addr} {c:Nat} {out:List UInt8} {b:Nat} {W W' :World}
theorem Mf.digW(h:Mf B w db sb v d F lo hi l qb A c out b W):Au W db sb v d F lo hi l:=by
 have G:AD (λk=>B<=k) w W:=⟨h.nas.below.os,h.nas.below.tape,h.nas.below.output,h.nas.below.size,λk _ H=>h.nas.below.block k (by omega)⟩;exact h.dig.away G λk D=>by have:=h.own k D;omega
theorem Mf.next(h:Mf B w db sb v d F lo hi l qb A c out b W)(D:Below W.heap.size W W'):Mf B w db sb v d F lo hi l qb A c out b W' :=⟨h.nas.next h.hB D,h.dig,h.blk.below D h.blk.lt,h.hB,h.own⟩
theorem Mf.drew(h:Mf B w db sb v d F lo hi l qb A c out b W):Mf B w db sb v d F lo hi l qb A c out b W.drew:=⟨h.nas.drew,h.dig,h.blk.drew,h.hB,h.own⟩
theorem Mf.put{A' c' D}(h:Mf B w db sb v d F lo hi l qb A c out b W)(k:CH B W qb A' c' D W'):Mf B w db sb v d F lo hi l qb A' c' D b W' :=
 ⟨h.nas.trans k,h.dig,k.keep _ _ _ (by decide) (by decide) h.blk,h.hB,h.own⟩
theorem Mf.cell(h:Mf B w db sb v d F lo hi l qb A c out b W):W.cell? ⟨b,0,N⟩=S (P (S ⟨db,0,N⟩)):=h.blk.cell rfl
theorem Mf.size(h:Mf B w db sb v d F lo hi l qb A c out b W):B<=W.heap.size:=Q0 h.hB h.nas.below.size
end
theorem WV(w db sb v d F lo hi)(l:AL)(h:Au w db sb v d F lo hi l)(D:Am lo)(G:Am hi):
  C prog 251 #[P (S ⟨db,0,N⟩)] w λe w' =>B w.heap.size w w' /\∃(a b:Int) (t:Bool),Am a/\Am b/\e=R (T #[I J a,I J b,.bool t]):=
 (ZV w db sb v d F lo hi l h).mono λ_ _ H=>⟨H.1,H.2.elim (λe=>⟨0,0,false,by unfold Am;omega,by unfold Am;omega,e⟩) (λe=>⟨lo,hi,true,D,G,e⟩)⟩
theorem WX(u v w):(Instr.field 51 (.agg #[u,v]) 0).run prog w=.ok u w:=by kernel_rfl
theorem WY(u v w):(Instr.field 51 (.agg #[u,v]) 1).run prog w=.ok v w:=by kernel_rfl
theorem fF(a b):BP [a,b]=AK (AX a)++AK (AX b):=by simp[BP]
theorem fG(a b):[a,b].flatMap AK=AK a++AK b:=by simp
theorem Te(B w db sb v d F lo hi)(l:AL)(qb A c)(hq:Fi B w qb (L A ([]:List UInt8).length c) [])(hB:B<=w.heap.size)(h:Au w db sb v d F lo hi l)(M:∀k,Own db sb v k->k<B)
  (hd:d<=24)(hF:F<=64)(j:Am lo)(o:Am hi)(z:l.length<=3000)(g:CE d l)(y:AB l<=900000):
  C prog 255 #[.agg #[P (S ⟨db,0,N⟩)],P (S ⟨qb,0,N⟩)] w λe w' =>e=R (T #[])/\∃a b A' c',Am a/\Am b/\CH B w qb A' c' (Eg d F (AX a) (AX b) l) w' :=by
 have S0:CH B w qb A c [] w:=CH.start hq;have Z:Mf B w db sb v d F lo hi l qb A c [] w.heap.size (w.alloc (.cells #[P (S ⟨db,0,N⟩)] 131)):=⟨S0.alloc hB _,h,AI.newAt rfl,hB,M⟩;have s:2^d<=16777216:=RR (n:=2) (by decide) hd;have K:AT l/\∀x∈l,x.1<9000000000000000000/\x.2<18446744073709551616:=⟨h.strip.rising,λx Y=>by
  have h1:=g x Y;have h2:=Be h.strip.rising Y;have h3:=An l x.1;omega⟩
 have HR:=Zh K;clear h S0 M g K s;go_enter func255,ntmps255;go_wp2_with fail;generalize w.heap.size=pb at Z⊢;generalize w.alloc (.cells #[P (S ⟨db,0,N⟩)] 131)=W0 at Z⊢;refine(WV _ db sb v d F lo hi l Z.digW j o).mono ?_;rintro e w1 ⟨b1,a,b,t,q,p,rfl⟩;have m:=Z.next b1;have k0:=m.cell;clear b1 Z;go_upto_region 2 with fail;have C3:=m.drew;have c3:=C3.cell;have H:=λW (k:Mf B w db sb v d F lo hi l qb A c [] pb W)=>Ta W db sb v d F lo hi l k.digW;have r:=λW=>WX (I J d) (I J F) W;have i:=λW=>WY (I J d) (I J F) W;have D:=λW (k:Mf B w db sb v d F lo hi l qb A c [] pb W)=>Cd B (W.alloc (.cells (Dr [d,F]) 23)) qb W.heap.size 2 A c [] [d,F] (k.nas.qu.alloc _) (by have:=k.size;simp;omega) (AI.newAt rfl)
  (λn g=>by simp at g;omega) (by have:=AC d (by omega);have:=AC F (by omega);simp;omega) (by simp)
 have AA:U.wrap (d:Int)=(d:Int):=by rw[bw];omega
 have Aa:U.wrap (F:Int)=(F:Int):=by rw[bw];omega
 clear m k0;rename_i KK;go_region_with(first
  |(go_at_call 257;refine(H _ (by assumption)).mono ?_;rintro e w2 ⟨b2,rfl⟩;have H2:=Mf.next (h:=by assumption) b2;have k2:=H2.cell;clear b2)
  |(go_at_call 62;refine(D _ (by assumption)).mono ?_;rintro e w5 ⟨rfl,A5,k5,S5⟩;have X:=Mf.put (Mf.next (h:=by assumption) (Za)) S5;clear S5))
 all_goals(
  clear H D r i c3 C3;refine KK _ _ ?_;have Ab:=AC d (by omega);have Ac:=AC F (by omega);have Ap:=AC (AX a) (Ao a q).2;have Al:=AC (AX b) (Ao b p).2;rw[fG,List.nil_append]at X;have G:=IK B (w5.alloc (.cells (IJ [a,b]) 2)) qb w5.heap.size 2 A5 k5 (AK d++AK F) [a,b] (X.nas.qu.alloc _) (by have:=X.size;simp;omega) (AI.newAt rfl)
   (λx Y=>by simp at Y;rcases Y with rfl|rfl;exact q;exact p) (by simp;omega) (by simp)
  go_wp2_with fail;refine G.mono ?_;rintro e w6 ⟨rfl,A6,k6,S6⟩;have Q:=(X.next (Za)).put S6;have c6:=Q.cell;clear G S6 X;rw[fF]at Q;go_wp2_with fail;refine(WO _ db sb v d F lo hi l Q.digW (by omega)).mono ?_;rintro e w7 ⟨u,rfl,o7,b7⟩;have f:=Q.next b7;clear b7 Q c6;have O:=I6 B w7 qb A6 k6 (AK d++AK F++(AK (AX a)++AK (AX b))) u _ l f.nas.qu f.size o7 (by omega) HR.out.1 HR.out.2 (by simp;omega);go_wp2_with fail;refine O.mono ?_;rintro e w8 ⟨rfl,A8,k8,S8⟩;have H8:=Zh (f.put S8);clear O S8 f;go_wp2_with fail;go_end0;refine⟨rfl,a,b,A8,k8,q,p,?_⟩;have:=H8.out.nas;unfold Eg;simpa only[dT]using this)
theorem FV(d F a b)(l:AL)(M:d<=24)(hF:F<=64)(Z:Am a)(Q:Am b)(H:l.length<=3000)(Y:CE d l)(X:AT l)(G:AB l<=900000):
  5<=(Eg d F (AX a) (AX b) l).length/\(Eg d F (AX a) (AX b) l).length<=100000:=by
 have O:2^d<=16777216:=RR (n:=2) (by decide) M;refine Ue d F _ _ l (by omega) (by omega) (Ao a Z).2 (Ao b Q).2 (by omega) λi hi=> ?_;have D:∀j,CJ l j<33554432:=λj=>by
  by_cases K:j<l.length
  ·have:=(Y _ (ej K)).2;rw[Bj l j K];omega
  ·unfold CJ;rw[List.getD_eq_getElem?_getD,List.getElem?_eq_none (by omega)];simp
 have g:=LY l i hi;have e:=D 0;have k:=D i;have f:=Be X (ej hi);have h:=An l (l[i]'hi).1;rw[Dj l i hi];omega
theorem IE.own_lt{w kb db sb v d F lo hi}{l:AL}(h:IE w kb db sb v d F lo hi l):∀k,Own db sb v k->k<w.heap.size:=h.dig.lt
theorem WZ(w kb db sb v d F lo hi)(l:AL)(h:IE w kb db sb v d F lo hi l)(Z:d<=24)(hF:F<=64)(X:Am lo)(M:Am hi)(G:l.length<=3000)(p:CE d l)(D:AB l<=900000):
  C prog 26 #[P (S ⟨kb,0,N⟩)] w λe w' =>∃a b,Am a/\Am b/\e=R (T #[.string (bs (AW 3 (Eg d F (AX a) (AX b) l))),I J 0])/\B w.heap.size w w' :=by
 have Q:=λa b ha r=>FV d F a b l Z hF ha r G p h.dig.strip.rising D;have i:=Fi.fresh w;have j:B w.heap.size w (w.alloc (.cells #[L N 0 0] 109)):=Za;have f:=h.next j;have k:=Te w.heap.size (w.alloc (.cells #[L N 0 0] 109)) db sb v d F lo hi l w.heap.size N 0 i (by simp) f.dig h.own_lt Z hF X M G p D;obtain⟨u,x,hl⟩:=h.cells;have y:=Td db;have HH:=Zh h;have q:kb≠w.heap.size:=by omega
 clear h f i;go_enter func26,ntmps26;go_wp2_with fail;refine k.mono ?_;rintro e K ⟨rfl,a,b,A1,k1,o,m,Y⟩;have O:B w.heap.size w K:=j.trans Y.below;have n:=HH.out.next O;obtain⟨d0,d1,z⟩:=n.cells;have g:=Ii w.heap.size K.drew w.heap.size _ _ Y.drew.qu;have H:=JO K.drew 3 (Eg d F (AX a) (AX b) l) (by have:=Q a b o m;omega);clear k u x Y n;go_upto_region 5 with fail;rename_i s;go_region_with(first|(go_at_call 40;refine g.mono ?_;rintro e w2 ⟨rfl,rfl⟩)|(go_at_call 39;refine H.mono ?_;rintro e w3 ⟨rfl,t⟩));all_goals(
  refine s _ _ ?_;clear g H y;go_wp2_with fail;go_ret2;exact⟨a,b,o,m,rfl,O.drew.trans (t.mono O.size)⟩)
theorem Ze(w kb db sb v d F lo hi)(l:AL)(h:IE w kb db sb v d F lo hi l)(O:d<=24)(hF:F<=64)(H:Am lo)(K:Am hi)(G:l.length<=3000)(Z:CE d l)(D:AB l<=900000):
  C prog 14 #[P (S ⟨kb,0,N⟩)] w λe w' =>∃a b,Am a/\Am b/\e=R (.string (bs (AW 3 (Eg d F (AX a) (AX b) l))))/\B w.heap.size w w' :=by
 have M:=WZ w kb db sb v d F lo hi l h O hF H K G Z D;clear h;go_enter func14,ntmps14;go_wp2_with fail;refine M.mono ?_;rintro e f ⟨a,b,Y,X,rfl,Q⟩;clear M;go_wp2_with fail;go_ret;exact⟨a,b,Y,X,rfl,Q⟩
def KR(d F a b:Nat)(l:AL):List UInt8:=AK d++(AK F++(AK a++(AK b++(Dc l++ []))))
theorem Rl(d F a b)(l:AL):Eg d F a b l=KR d F a b l:=by unfold Eg KR;simp only[dT,List.append_nil]
def cQ(w:W)(eb:Nat)(d F:Nat)(l:AL)(e:Ending)(w' :W):Prop:=∃(ok:Bool) (po:Option Addr),e=R (T #[.agg (Ey 0 0 0 0 0 0 (d:Int) (F:Int) 0 0),.iface 131 (.agg #[P po]),.bool ok])/\AD (λk=>k=eb) w w' /\CZ w' eb []/\
 (ok=true->∃db sb v a b,po=S ⟨db,0,N⟩/\Au w' db sb v d F a b l/\Am a/\Am b/\∀k,Own db sb v k->w.heap.size<=k)
def gI(W:World)(d F:Nat)(lo hi:Int)(l:AL)(po:Option Addr)(code:Int)(w' :World):Prop:=(code≠0/\po=N)\/
 (code=0/\∃db sb v,po=S ⟨db,0,N⟩/\Au w' db sb v d F lo hi l/\W.heap.size<=db/\W.heap.size<=sb/\∀g,v.ownBlock=S g->W.heap.size<=g)
theorem Zf(w K)(d F:Nat)(lo hi:Int)(l:AL)(m:1<=d)(a:d<=24)(i:1<=F)(k:F<=64)(M:Am lo)(Q:Am hi)
  (g:AT l)(Y:Bh l)(j:CE d l)(H:l.length<=3000)(G:AB l<=900000)(Z:w.ownsRow 0 228 2 K l.length (AV l)):
  C prog 79 #[.agg #[I J d,I J F],K,I J lo,I J hi] w λe w' =>∃po D,e=R (T #[P po,I J D])/\B w.heap.size w w' /\gI w d F lo hi l po D w' :=
 (ZY w K d F lo hi l m a i k M Q g Y j H G Z).mono λe w' f=>by
  obtain⟨X,⟨D,n,O⟩|⟨db,sb,v,O,h⟩⟩:=f
  ·exact⟨_,D,O,X,.inl ⟨n,rfl⟩⟩
  ·exact⟨_,0,O,X,.inr ⟨rfl,db,sb,v,rfl,h⟩⟩
structure Tf(w:World)(eb pb d F:Nat)(s:List UInt8)(W:World):Prop where
 eye:CZ W eb s
 cfg:AI W pb (Ey 0 0 0 0 0 0 (d:Int) (F:Int) 0 0) 28
 res:AI W w.heap.size #[I J 0,I U 0,I U 0,I J 0,I J 0,I J 0,I U 0,I J 0,I J 0,I J 0,I U 0] 28
 away:AD (λk=>k=eb) w W
 ne:pb≠eb/\w.heap.size≠eb/\w.heap.size<pb
theorem Tf.look{w D H d F s G W W'}(h:Tf w D H d F s W)(e:CZ W' D G)(a:AD (λk=>k=D) W W'):Tf w D H d F G W' :=
 ⟨e,h.cfg.away a h.ne.1,h.res.away a h.ne.2.1,h.away.trans' a (λ_ _ h=>h) (λ_ _ h=>h),h.ne⟩
theorem Tf.next{w D G d F s W W'}(h:Tf w D G d F s W)(b:B W.heap.size W W'):Tf w D G d F s W' :=
 ⟨AI.below h.eye b (AI.lt h.eye),h.cfg.below b h.cfg.lt,h.res.below b h.res.lt,h.away.then_below (b.mono h.away.size),h.ne⟩
theorem Tf.drew{w G D d F s W}(h:Tf w G D d F s W):Tf w G D d F s W.drew:=⟨AI.drew h.eye,h.cfg.drew,h.res.drew,h.away.drew,h.ne⟩
theorem Tf.old{w G D d F s W}(h:Tf w G D d F s W):(W.cell? ⟨w.heap.size,0,N⟩=S (I J 0)/\W.cell? ⟨w.heap.size,1,N⟩=S (I U 0)/\W.cell? ⟨w.heap.size,2,N⟩=S (I U 0)/\W.cell? ⟨w.heap.size,3,N⟩=S (I J 0)/\W.cell? ⟨w.heap.size,4,N⟩=S (I J 0)/\W.cell? ⟨w.heap.size,5,N⟩=S (I J 0)/\
  W.cell? ⟨w.heap.size,6,N⟩=S (I U 0)/\W.cell? ⟨w.heap.size,7,N⟩=S (I J 0)/\W.cell? ⟨w.heap.size,8,N⟩=S (I J 0)/\W.cell? ⟨w.heap.size,9,N⟩=S (I J 0)/\W.cell? ⟨w.heap.size,10,N⟩=S (I U 0))/\
  (W.frozen? ⟨w.heap.size,0,N⟩=false/\W.frozen? ⟨w.heap.size,1,N⟩=false/\W.frozen? ⟨w.heap.size,2,N⟩=false/\W.frozen? ⟨w.heap.size,3,N⟩=false/\W.frozen? ⟨w.heap.size,4,N⟩=false/\W.frozen? ⟨w.heap.size,5,N⟩=false/\W.frozen? ⟨w.heap.size,6,N⟩=false/\W.frozen? ⟨w.heap.size,7,N⟩=false/\W.frozen? ⟨w.heap.size,8,N⟩=false/\W.frozen? ⟨w.heap.size,9,N⟩=false/\W.frozen? ⟨w.heap.size,10,N⟩=false):=
 ⟨⟨h.res.cell rfl,h.res.cell rfl,h.res.cell rfl,h.res.cell rfl,h.res.cell rfl,h.res.cell rfl,h.res.cell rfl,h.res.cell rfl,h.res.cell rfl,h.res.cell rfl,h.res.cell rfl⟩,
  ⟨h.res.frozen 0,h.res.frozen 1,h.res.frozen 2,h.res.frozen 3,h.res.frozen 4,h.res.frozen 5,h.res.frozen 6,h.res.frozen 7,h.res.frozen 8,h.res.frozen 9,h.res.frozen 10⟩⟩
theorem Tf.cells{w G D d F s W}(h:Tf w G D d F s W):W.cell? ⟨D,0,N⟩=S (I J 3)/\W.cell? ⟨D,1,N⟩=S (I U 0)/\W.cell? ⟨D,2,N⟩=S (I U 0)/\W.cell? ⟨D,3,N⟩=S (I J 0)/\W.cell? ⟨D,4,N⟩=S (I J 0)/\W.cell? ⟨D,5,N⟩=S (I J 0)/\
  W.cell? ⟨D,6,N⟩=S (I U 0)/\W.cell? ⟨D,7,N⟩=S (I J d)/\W.cell? ⟨D,8,N⟩=S (I J F)/\W.cell? ⟨D,9,N⟩=S (I J 0)/\W.cell? ⟨D,10,N⟩=S (I U 0):=
 ⟨h.cfg.cell rfl,h.cfg.cell rfl,h.cfg.cell rfl,h.cfg.cell rfl,h.cfg.cell rfl,h.cfg.cell rfl,h.cfg.cell rfl,h.cfg.cell rfl,h.cfg.cell rfl,h.cfg.cell rfl,h.cfg.cell rfl⟩
def Kk(W:World)(b:Nat):Nat->List V->World
 |_,[]=>W
 |j,v::vs=>Kk (W.setCell ⟨b,j,N⟩ v) b (j+1) vs
def PO(cs:Array V):Nat->List V->Array V
 |_,[]=>cs
 |j,v::vs=>PO (cs.setIfInBounds j v) (j+1) vs
theorem KS{b T}:∀(D:List V) (j:Nat) {W:World} {G:Array V},AI W b G T->AI (Kk W b j D) b (PO G j D) T
 | [],_,_,_,h=>h
 |v::D,j,_,_,h=>KS D (j+1) (h.set j v)
theorem GU{b}:∀(H:List V) (j:Nat) {D W:World} {G:Nat->Prop},G b\/D.heap.size<=b->AD G D W->AD G D (Kk W b j H)
 | [],_,_,_,_,_,h=>h
 |v::H,j,_,_,_,hg,h=>GU H (j+1) hg (h.setCell ⟨b,j,N⟩ v hg)
def bm(d F:Int):List Value:=[I J 3,I U 0,I U 0,I J 0,I J 0,I J 0,I U 0,I J d,I J F,I J 0,I U 0]
def KT(W:World)(b:Nat)(d F:Int):World:=Kk W b 0 (bm d F)
theorem Np{W b T Y Z G K a Q X M O H D}(h:AI W b #[Y,Z,G,K,a,Q,X,M,O,H,D] T)(d F):AI (KT W b d F) b (Ey 0 0 0 0 0 0 d F 0 0) T:=by
 have e:PO #[Y,Z,G,K,a,Q,X,M,O,H,D] 0 (bm d F)=Ey 0 0 0 0 0 0 d F 0 0:=by simp[PO,bm,Ey]
 have:=KS (bm d F) 0 h;rw[e]at this;exact this
theorem Ez(W b d F):AD (λk=>k=b) W (KT W b d F):=GU _ _ (.inl rfl) (AD.refl _ _)
theorem dr{w W H O Y d F a b}{l:AL}{po D}(h:Tf w O Y d F [] H)(f:w.heap.size<W.heap.size)(p:gI W d F a b l po D H)(Z:Am a)(X:Am b):
  cQ w O d F l (R (T #[.agg (Ey 0 0 0 0 0 0 (d:Int) (F:Int) 0 0),.iface 131 (.agg #[P po]),.bool (D==0)])) (KT H w.heap.size (d:Int) (F:Int)):=by
 refine⟨D==0,_,rfl,?_,?_,λM=> ?_⟩
 ·exact h.away.trans' (G:=λk=>k=w.heap.size) (Ez H w.heap.size d F) (λ_ _ h=>h) λk M e=>by omega
 ·exact AI.away h.eye (Ez H w.heap.size d F) (by have:=h.ne;omega)
 ·rcases p with⟨j,_⟩|⟨_,db,sb,v,rfl,Q,i,g,K⟩
  ·simp at M;omega
  ·refine⟨db,sb,v,a,b,rfl,Q.away (Ez H w.heap.size d F) ?_,Z,X,?_⟩
   ·rintro k (e|e|e)<;>try omega
    have:=K k e;omega
   ·rintro k (e|e|e)<;>try omega
    have:=K k e;omega
theorem Wa(w D d F a b)(l:AL)(h:CZ w D (KR d F (AX a) (AX b) l))(h1:1<=d)(p:d<=24)(h3:1<=F)(h4:F<=64)(z:Am a)(q:Am b)
  (hr:AT l)(hf:Bh l)(hn:CE d l)(M:l.length<=3000)(K:AB l<=900000):
  C prog 52 #[P (S ⟨D,0,N⟩)] w (cQ w D d F l):=by
 obtain⟨Ap,hs⟩:=FV d F a b l p h4 z q M hn hr K;rw[Rl]at hs;unfold KR at hs h;simp only[Jx]at hs;have AA:2^d<=16777216:=RR (n:=2) (by decide) p;have Q:∀x∈l,x.1<4000000000000000000/\1<=x.2/\x.2<9223372036854775808:=λx hx=>by
  have g1:=hn x hx;have g2:=Be hr hx;have g3:=An l x.1;have g4:=hf x hx;omega
 have Al:=AI.lt h;have m:B w.heap.size w (w.alloc (.cells #[I J 0,I U 0,I U 0,I J 0,I J 0,I J 0,I U 0,I J 0,I J 0,I J 0,I U 0] 28)):=Za;have E0:CZ (w.alloc (.cells #[I J 0,I U 0,I U 0,I J 0,I J 0,I J 0,I U 0,I J 0,I J 0,I J 0,I U 0] 28)) D _:=AI.alloc h _;have R0:AI (w.alloc (.cells #[I J 0,I U 0,I U 0,I J 0,I J 0,I J 0,I U 0,I J 0,I J 0,I J 0,I U 0] 28)) w.heap.size _ 28:=AI.newAt rfl;have f:=Bk _ D d 24 _ E0 p (by decide) (by simp only[Jx];omega);have Z:=Zh (Zi hr (Zi hf (Zi hn Q)));clear h hr hf hn Q AA;go_enter func52,ntmps52;go_wp2_with fail;refine f.mono ?_;rintro e w1 ⟨rfl,E1,A1⟩;have Y:=Bk _ D F 64 _ E1 h4 (by decide) (by simp only[Jx];omega);have R1:=R0.away A1 (by omega);have B1:=(AD.of_below (F:=λk=>k=D) m).trans' A1 (λ_ _ h=>h) (λ_ _ h=>h);clear f E0 A1;go_wp2_with fail;refine Y.mono ?_;rintro e w2 ⟨rfl,E2,A2⟩;have R2:=R1.away A2 (by omega);have B2:=B1.trans' A2 (λ_ _ h=>h) (λ_ _ h=>h);have Aa:=R2.lt;have S2:Tf w D w2.heap.size d F _ (w2.alloc (.cells (Ey 0 0 0 0 0 0 (d:Int) (F:Int) 0 0) 28)):=⟨AI.alloc E2 _,AI.newAt rfl,R2.alloc _,B2.alloc _,by have:=AI.lt E2;omega,by omega,Aa⟩;have o:=DD _ D a _ S2.eye z (by simp only[Jx];omega)
 clear Y R1 R2 B1 B2 A2 E1 E2 R0 m;go_wp2_with fail;refine o.mono ?_;rintro e w3 ⟨rfl,E3,A3⟩;have S3:=S2.look E3 A3;have i:=DD _ D b _ S3.eye q (by simp only[Jx];omega);clear o S2 E3 A3;go_wp2_with fail;refine i.mono ?_;rintro e w4 ⟨rfl,E4,A4⟩;have S4:=S3.look E4 A4;clear i S3 E4 A4;generalize w2.heap.size=pb at S4⊢;go_upto_region 3 with fail;have S5:=S4.drew;have hg:=I7 w4.drew D 4096 l [] S5.eye (by omega) (by decide) Z.out.1 Z.out.2.2.2 (by decide);obtain⟨k0,k1,y,r,k4,s,k6,k7,k8,k9,H⟩:=S5.cells;have g:=λW u (ho:W.ownsRow 0 228 2 u l.length (AV l))=>Zf W u d F a b l h1 p h3 h4 z q Z.out.1 Z.out.2.1 Z.out.2.2.1 M K ho;rename_i KK;clear S4 k0 k1 y r k4 s k6 k9 H;go_region_with(first
  |(go_at_call 73;refine hg.mono ?_;rintro e w6 ⟨u,rfl,o6,E6,A6⟩;have t:=S5.look E6 A6;have o6:=AO (base' :=0) o6 (λ_ _=>Nat.zero_le _);obtain⟨k0,k1,y,r,k4,s,k6,k7,k8,k9,H⟩:=t.cells;clear E6 A6 k0 k1 y r k4 s k6 k9 H)
  |(go_at_call 79;refine(g _ _ (by assumption)).mono ?_;rintro e w7 ⟨po,X,rfl,b7,P7⟩))
 all_goals(
  refine KK _ _ ?_;have S7:=t.next b7;have Ac:w.heap.size<w6.heap.size:=t.res.lt;obtain⟨k0,k1,y,r,k4,s,k6,k7,k8,k9,H⟩:=S7.cells;obtain⟨⟨m0,m1,m2,m3,m4,m5,m6,m7,m8,m9,Av⟩,⟨f0,f1,f2,f3,f4,f5,f6,f7,f8,f9,Ar⟩⟩:=S7.old;clear hg g S5 t o6;go_wp2_with fail;have G:=Np S7.res (d:Int) (F:Int);have O:=Zh (dr S7 (by have:=Ac;omega) P7 z q);change bodyPost prog f52 (cQ w D d F l) Exit.ret _ (KT w7 w.heap.size (d:Int) (F:Int));generalize KT w7 w.heap.size (d:Int) (F:Int)=WW at G O⊢;have c0:=G.cell (j:=0) rfl;have c1:=G.cell (j:=1) rfl;have c2:=G.cell (j:=2) rfl;have c3:=G.cell (j:=3) rfl;have c4:=G.cell (j:=4) rfl;have c5:=G.cell (j:=5) rfl;have c6:=G.cell (j:=6) rfl;have c7:=G.cell (j:=7) rfl;have c8:=G.cell (j:=8) rfl;have c9:=G.cell (j:=9) rfl;have Ab:=G.cell (j:=10) rfl;refine bodyPost_ret (v:=T #[.agg (Ey 0 0 0 0 0 0 (d:Int) (F:Int) 0 0),.iface 131 (.agg #[P po]),.bool (X==0)]) ?_ rfl O.out;simp[results,results52,go_sem,Ey,c0,c1,c2,c3,c4,c5,c6,c7,c8,c9,Ab])
def Jm:Array Value:= #[I J 0,I U 0,I U 0,I J 0,I J 0,I J 0,I U 0,I J 0,I J 0,I J 0,I U 0]
theorem bo{W b}(h:AI W b Jm 28):(W.cell? ⟨b,0,N⟩=S (I J 0)/\W.cell? ⟨b,1,N⟩=S (I U 0)/\W.cell? ⟨b,2,N⟩=S (I U 0)/\W.cell? ⟨b,3,N⟩=S (I J 0)/\W.cell? ⟨b,4,N⟩=S (I J 0)/\W.cell? ⟨b,5,N⟩=S (I J 0)/\
  W.cell? ⟨b,6,N⟩=S (I U 0)/\W.cell? ⟨b,7,N⟩=S (I J 0)/\W.cell? ⟨b,8,N⟩=S (I J 0)/\W.cell? ⟨b,9,N⟩=S (I J 0)/\W.cell? ⟨b,10,N⟩=S (I U 0))/\
  (W.frozen? ⟨b,0,N⟩=false/\W.frozen? ⟨b,1,N⟩=false/\W.frozen? ⟨b,2,N⟩=false/\W.frozen? ⟨b,3,N⟩=false/\W.frozen? ⟨b,4,N⟩=false/\W.frozen? ⟨b,5,N⟩=false/\W.frozen? ⟨b,6,N⟩=false/\W.frozen? ⟨b,7,N⟩=false/\W.frozen? ⟨b,8,N⟩=false/\W.frozen? ⟨b,9,N⟩=false/\W.frozen? ⟨b,10,N⟩=false):=
 ⟨⟨h.cell rfl,h.cell rfl,h.cell rfl,h.cell rfl,h.cell rfl,h.cell rfl,h.cell rfl,h.cell rfl,h.cell rfl,h.cell rfl,h.cell rfl⟩,
  ⟨h.frozen 0,h.frozen 1,h.frozen 2,h.frozen 3,h.frozen 4,h.frozen 5,h.frozen 6,h.frozen 7,h.frozen 8,h.frozen 9,h.frozen 10⟩⟩
theorem Wb{W b d F}(h:AI W b (Ey 0 0 0 0 0 0 d F 0 0) 28):W.cell? ⟨b,0,N⟩=S (I J 3)/\W.cell? ⟨b,1,N⟩=S (I U 0)/\W.cell? ⟨b,2,N⟩=S (I U 0)/\W.cell? ⟨b,3,N⟩=S (I J 0)/\W.cell? ⟨b,4,N⟩=S (I J 0)/\W.cell? ⟨b,5,N⟩=S (I J 0)/\
  W.cell? ⟨b,6,N⟩=S (I U 0)/\W.cell? ⟨b,7,N⟩=S (I J d)/\W.cell? ⟨b,8,N⟩=S (I J F)/\W.cell? ⟨b,9,N⟩=S (I J 0)/\W.cell? ⟨b,10,N⟩=S (I U 0):=
 ⟨h.cell rfl,h.cell rfl,h.cell rfl,h.cell rfl,h.cell rfl,h.cell rfl,h.cell rfl,h.cell rfl,h.cell rfl,h.cell rfl,h.cell rfl⟩
theorem cQ.on{w D G d F}{l:AL}{ok po o}(O:G<w.heap.size)(e:AD (λk=>k=G) (w.alloc o) D)(Z:CZ D G [])
  (M:ok=true->∃db sb v a b,po=S ⟨db,0,N⟩/\Au D db sb v d F a b l/\Am a/\Am b/\∀k,Own db sb v k->(w.alloc o).heap.size<=k):
  cQ w G d F l (R (T #[.agg (Ey 0 0 0 0 0 0 (d:Int) (F:Int) 0 0),.iface 131 (.agg #[P po]),.bool ok])) (KT D w.heap.size (d:Int) (F:Int)):=by
 have i:(w.alloc o).heap.size=w.heap.size+1:=by simp
 have X:AD (λk=>k=G) w D:=(AD.of_below (F:=λk=>k=G) ((B.refl _ w).alloc (E _) o)).trans' e (λ_ _ h=>h) (λ_ _ h=>h);refine⟨ok,po,rfl,?_,?_,λH=> ?_⟩
 ·exact GU _ _ (.inr (E _)) X
 ·exact AI.away Z (Ez D w.heap.size d F) (by omega)
 ·obtain⟨db,sb,v,a,b,g,Q,Y,f,K⟩:=M H;exact⟨db,sb,v,a,b,g,Q.away (Ez D w.heap.size d F) (λk H=>by have:=K k H;omega),Y,f,λk H=>by have:=K k H;omega⟩
theorem PP(w M d F a b)(l:AL)(h:CZ w M (KR d F (AX a) (AX b) l))(y:1<=d)(p:d<=24)(h3:1<=F)(u:F<=64)(ha:Am a)(r:Am b)
  (m:AT l)(k:Bh l)(n:CE d l)(K:l.length<=3000)(H:AB l<=900000):
  C prog 33 #[I J 3,P (S ⟨M,0,N⟩)] w (cQ w M d F l):=by
 have Z:=Wa (w.alloc (.cells Jm 28)) M d F a b l (AI.alloc h _) y p h3 u ha r m k n K H;have O:=AI.lt h;have G:AI (w.alloc (.cells Jm 28)) w.heap.size Jm 28:=AI.newAt rfl;have i:=Zh G;clear h m k n G;unfold Jm at Z;go_enter func33,ntmps33;go_wp2_with fail;refine Z.mono ?_;rintro e f ⟨ok,po,rfl,Q,o,g⟩;have G:=i.out;unfold Jm at G;have Y:=G.away Q (by omega);obtain⟨⟨m0,m1,m2,m3,m4,m5,m6,m7,m8,m9,AA⟩,⟨f0,f1,f2,f3,f4,f5,f6,f7,f8,f9,s⟩⟩:=bo Y;have j:=Np Y (d:Int) (F:Int);have D:=Zh (cQ.on O Q o g);clear Z Q o g Y G i;unfold Ey;go_wp2_with fail;change bodyPost prog f33 (cQ w M d F l) Exit.ret _ (KT f w.heap.size (d:Int) (F:Int));generalize KT f w.heap.size (d:Int) (F:Int)=WW at j D⊢;obtain⟨z,c1,c2,c3,c4,c5,c6,x,q,t,X⟩:=Wb j;refine bodyPost_ret (v:=T #[.agg (Ey 0 0 0 0 0 0 (d:Int) (F:Int) 0 0),.iface 131 (.agg #[P po]),.bool ok]) ?_ rfl D.out;simp[results,results33,go_sem,Ey,z,c1,c2,c3,c4,c5,c6,x,q,t,X]
def gP(w:W)(d F:Nat)(l:AL)(e:Ending)(w' :W):Prop:=∃(po:Option Addr) (code:Int),e=R (T #[P po,I J code])/\B w.heap.size w w' /\
 ((code≠0/\po=N)\/(code=0/\∃kb db sb v a b,po=S ⟨kb,0,N⟩/\IE w' kb db sb v d F a b l/\Am a/\Am b/\∀k,Tc kb db sb v k->w.heap.size<=k))
theorem Wc(w d F a b)(l:AL)(h1:1<=d)(p:d<=24)(h3:1<=F)(u:F<=64)(ha:Am a)(r:Am b)
  (m:AT l)(z:Bh l)(o:CE d l)(M:l.length<=3000)(K:AB l<=900000):
  C prog 19 #[.string (bs (AW 3 (Eg d F (AX a) (AX b) l)))] w (gP w d F l):=by
 obtain⟨s1,s2⟩:=FV d F a b l p u ha r M o m K;have j:=Po w 3 (Eg d F (AX a) (AX b) l) (by omega);have X:=λW y (k:CZ W y (KR d F (AX a) (AX b) l))=>PP W y d F a b l k h1 p h3 u ha r m z o M K;rw[Rl]at j⊢;have Q:=λW=>Nx W (KR d F (AX a) (AX b) l);generalize KR d F (AX a) (AX b) l=s at*;generalize AW 3 s=t at*;clear m z o s1 s2;go_enter func19,ntmps19;go_wp2_with fail;refine j.mono ?_;rintro e H ⟨rfl,f⟩;clear j;go_wp2_with fail;refine(Q _).mono ?_;rintro e w2 ⟨rfl,rfl⟩;clear Q;have x:CZ (H.alloc (.cells #[.string (bs s),.bool false] 153)) H.heap.size s:=AI.newAt rfl;have b2:Below w.heap.size w (H.alloc (.cells #[.string (bs s),.bool false] 153)):=f.alloc f.size _;have h8:=f.size;go_wp2_with fail;refine(X _ _ x).mono ?_;rintro e g ⟨ok,po,rfl,A3,E3,q⟩;have h:Below w.heap.size w g:=b2.trans ((A3.below (B:=w.heap.size) b2.size (λk Z e=>by omega)));clear X x;have Y:=h.size;cases ok with
 |false=>
  unfold Ey;go_wp2_with fail;go_ret2;exact⟨N,4,rfl,h.alloc Y _,.inl ⟨by decide,rfl⟩⟩
 |true=>
  obtain⟨db,sb,v,a',b',rfl,D,i1,i2,O⟩:=q rfl;have i:=λW (k:CZ W H.heap.size [])=>Ik W H.heap.size k;have E4:CZ (g.alloc (.cells (Ey 0 0 0 0 0 0 (d:Int) (F:Int) 0 0) 28)) H.heap.size []:=AI.alloc E3 _;have hz:H.heap.size+1=(H.alloc (.cells #[.string (bs s),.bool false] 153)).heap.size:=by simp
  have HN:=Zh (show∀k,Own db sb v k->w.heap.size<=k from λk Z=>by have:=O k Z;omega);have HD:=Zh (D.next ((Below.refl _ _).alloc (E _) (.cells (Ey 0 0 0 0 0 0 (d:Int) (F:Int) 0 0) 28)));clear q D O hz;have G:=i _ E4;unfold Ey at G HD⊢;go_wp2_with fail;refine G.mono ?_;rintro e w5 ⟨rfl,rfl⟩;clear G;go_wp2_with fail;go_ret2;have n:=h.alloc Y (.cells #[I J 3,I U 0,I U 0,I J 0,I J 0,I J 0,I U 0,I J d,I J F,I J 0,I U 0] 28);refine⟨S ⟨(g.alloc (.cells #[I J 3,I U 0,I U 0,I J 0,I J 0,I J 0,I U 0,I J d,I J F,I J 0,I U 0] 28)).heap.size,0,N⟩,0,?_,n.alloc n.size _,.inr ⟨rfl,_,db,sb,v,a',b',rfl,⟨AI.newAt rfl,HD.out.next (Za)⟩,i1,i2,?_⟩⟩
  ·simp
  ·rintro k (rfl|Z)
   ·exact n.size
   ·exact HN.out k Z
theorem PQ(l:AM)(h:DK l):BH l<=20*l.length:=by
 induction l with
 |nil=>exact E _
 |cons x l D=>
  have K:=D λy G=>h y (List.mem_cons_of_mem _ G);have H:=(h x (List.mem_cons_self ..)).2;simp only[BH,es];omega
structure fR(a7 a8:Int)(d F:Nat)(l:AL)(vals:AM):Prop where
 hd:a7=(d:Int)
 hF:a8=(F:Int)
 d1:1<=d
 d2:d<=24
 f1:1<=F
 f2:F<=64
 q:Km d F l vals
 len:l.length<=vals.length
theorem fR.bd{a7 a8 d F}{l:AL}{vals:AM}(h:fR a7 a8 d F l vals)(hi:DK vals)(D:vals.length<=360):l.length<=360/\AB l<=7200:=by
 have H:=PQ vals hi;have G:=h.q.total;have K:=h.len;omega
def gD(a7 a8:Int)(w:W)(kb:Nat)(O:Nat->Prop)(vals:AM):Prop:=
 ∃(d F db sb:Nat) (v:V) (lo hi:Int) (l:AL),fR a7 a8 d F l vals/\IE w kb db sb v d F lo hi l/\Am lo/\Am hi/\O=Tc kb db sb v
def cR(a7 a8:Int)(s:List UInt8)(vals:AM):Prop:=∃(d F:Nat) (a b:Int) (l:AL),fR a7 a8 d F l vals/\Am a/\Am b/\s=AW 3 (Eg d F (AX a) (AX b) l)
def fI(a7:Int)(x:Int×Nat):Bool:=decide (0<=x.1)&&decide (x.1<((2^a7.toNat:Nat):Int))&&decide (1<=x.2)
theorem PR(d:Nat)(x:Int×Nat):fI (d:Int) x=true↔0<=x.1/\x.1<((2^d:Nat):Int)/\1<=x.2:=by
 unfold fI;simp[and_assoc]
theorem Rm(l m:AL):(AZ l m).length<=l.length+m.length:=by
 unfold AZ;induction m generalizing l with
 |nil=>simp
 |cons x m D=>
  rw[List.foldl_cons];have G:=D (Ak l x.1 x.2);have H:=Cb l x.1 x.2;simp only[es];omega
theorem IE.ty{w kb db sb v d F lo hi}{l:AL}(h:IE w kb db sb v d F lo hi l):∀k,Tc kb db sb v k->∀G,¬AI w k G 59/\¬AI w k G 34:=by
 rintro k (rfl|rfl|rfl|e) G
 ·exact⟨λD=>(h.blk.ne D (by decide)) rfl,λD=>(h.blk.ne D (by decide)) rfl⟩
 ·exact⟨λD=>(h.dig.blk.ne D (by decide)) rfl,λD=>(h.dig.blk.ne D (by decide)) rfl⟩
 ·exact⟨λD=>(h.dig.strip.blk.ne D (by decide)) rfl,λD=>(h.dig.strip.blk.ne D (by decide)) rfl⟩
 ·obtain⟨K,H⟩:=AJ h.dig.strip.own e;exact⟨λD=>(H.ne D (by decide)) rfl,λD=>(H.ne D (by decide)) rfl⟩
theorem Rn(a1 a2 a3 a4 a5 a6 a7 a8 a9 a10):Kind (Ae 3 a1 a2 a3 a4 a5 a6 a7 a8 a9 a10) (gD a7 a8) (cR a7 a8) (fI a7)where
 next:=by
  rintro w w' kb O vals ⟨d,F,db,sb,v,lo,hi,l,D,H,p,f,rfl⟩ g
  exact⟨d,F,db,sb,v,lo,hi,l,D,H.next g,p,f,rfl⟩
 away:=by
  rintro w w' kb O G vals ⟨d,F,db,sb,v,lo,hi,l,D,H,p,f,rfl⟩ g z
  exact⟨d,F,db,sb,v,lo,hi,l,D,H.away g z,p,f,rfl⟩
 lt:=by
  rintro w kb O vals ⟨d,F,db,sb,v,lo,hi,l,D,H,p,f,rfl⟩
  exact H.lt
 ty:=by
  rintro w kb O vals ⟨d,F,db,sb,v,lo,hi,l,D,H,p,f,rfl⟩
  exact H.ty
 new:=λw _=>(bj w a1 a2 a3 a4 a5 a6 a7 a8 a9 a10).mono λe w' r=>by
  obtain⟨g,⟨K,hc,Z⟩|⟨d,F,kb,db,sb,e7,e8,d1,d2,f1,f2,Z,H,g1,g2,g3⟩⟩:=r
  ·exact⟨none,K,Z,g,λh=>absurd h hc⟩
  ·refine⟨_,0,Z,g,λ_=>⟨kb,_,rfl,⟨d,F,db,sb,_,0,0,[],⟨e7,e8,d1,d2,f1,f2,Wn d F,E _⟩,H,by unfold Am;omega,by unfold Am;omega,rfl⟩,?_⟩⟩
   rintro k (rfl|rfl|rfl|e)
   ·exact g1
   ·exact g2
   ·exact g3
   ·simp[V.ownBlock]at e
 put:=by
  rintro w kb O vals ⟨x,c⟩ ⟨d,F,db,sb,v,lo,hi,l,D,H,p,f,rfl⟩ X Q hx hc
  obtain⟨b1,b2⟩:=D.bd X (by omega)
  refine(dq w kb db sb v d F lo hi l H D.d1 D.d2 D.f1 D.f2 p f D.q.nodes (by omega) (by omega) x hx c (by simp at hc;omega)).mono λe w' r=> ?_
  obtain⟨K,l',Z,⟨lo',hi',Y,v',K',i1,i2,n,y⟩,o⟩:=r
  refine⟨K,Tc kb db Y v',Z,?_,?_,?_,y.mono λk _ H=>.inr H⟩
  ·rw[D.hd,PR]
   rcases o with⟨rfl,p1,p2,p3,_⟩|z
   ·exact⟨λ_=>⟨p1,p2,p3⟩,λ_=>rfl⟩
   ·exact⟨λh=>absurd h z.1,λhp=>absurd hp z.2.2⟩
  ·rcases o with⟨rfl,p1,p2,p3,hl⟩|⟨z,rfl,Aw⟩
   ·have hP:fI a7 (x,c)=true:=by rw[D.hd,PR];exact⟨p1,p2,p3⟩
    have hq:=Wo D.q x.toNat c (by omega) p3 D.f1
    rw[show((x.toNat:Nat):Int)=x by omega]at hq
    have Ar:=(hl.keeps hq.nodes).2.2
    have Ap:=Cb l (2^d+x.toNat) c
    rw[if_pos hP]
    exact⟨d,F,db,Y,v',lo',hi',l',⟨D.hd,D.hF,D.d1,D.d2,D.f1,D.f2,hl.qinv hq,by have:=D.len;simp;omega⟩,K',i1,i2,rfl⟩
   ·have hP:¬fI a7 (x,c)=true:=by rw[D.hd,PR];exact Aw
    rw[if_neg hP]
    exact⟨d,F,db,Y,v',lo',hi',l',D,K',i1,i2,rfl⟩
  ·rintro k (rfl|j)
   ·exact .inl (.inl rfl)
   ·exact(n k j).imp .inr id
 bytes:=by
  rintro w kb O vals ⟨d,F,db,sb,v,lo,hi,l,D,H,p,f,rfl⟩ X Q
  obtain⟨b1,b2⟩:=D.bd X Q
  refine(Ze w kb db sb v d F lo hi l H D.d2 D.f2 p f (by omega) D.q.nodes (by omega)).mono λe w' r=> ?_
  obtain⟨a,b,ia,ib,Z,g⟩:=r
  exact⟨_,Z,⟨d,F,a,b,l,D,ia,ib,rfl⟩,g⟩
 decode:=by
  rintro w s vals _ ⟨d,F,a,b,l,D,ia,ib,rfl⟩ X Q
  obtain⟨b1,b2⟩:=D.bd X Q
  refine(Wc w d F a b l D.d1 D.d2 D.f1 D.f2 ia ib D.q.rising D.q.full D.q.nodes (by omega) (by omega)).mono λe w' r=> ?_
  obtain⟨po,K,Z,g,⟨z,_⟩|⟨rfl,kb,db,sb,v,a',b',rfl,H,i1,i2,Ab⟩⟩:=r
  ·exact⟨po,K,Z,g,λh=>absurd h z⟩
  ·exact⟨_,0,Z,g,λ_=>⟨kb,_,rfl,⟨d,F,db,sb,v,a',b',l,D,H,i1,i2,rfl⟩,Ab⟩⟩
 join:=by
  rintro w kb nb O N vals AA ⟨d,F,db,sb,v,lo,hi,l,D,H,p,f,rfl⟩ ⟨d',F',ob,so,u,Av,Ac,m,M,j,Ax,Al,rfl⟩ Aa X t Q
  obtain rfl:d=d' :=by have:=D.hd;have:=M.hd;omega
  obtain rfl:F=F' :=by have:=D.hF;have:=M.hF;omega
  obtain⟨b1,b2⟩:=D.bd X (by omega)
  obtain⟨b3,b4⟩:=M.bd t (by omega)
  have t1:=PQ vals X
  have t2:=PQ AA t
  have t3:=D.q.total
  have t4:=M.q.total
  have t5:=D.len
  have t6:=M.len
  refine(bk w kb db sb v nb ob so u d F lo hi Av Ac l m H j (λi hi hj=>Aa i (.inr hi) (.inr hj)) D.d1 D.d2 D.f1 D.f2 p f Ax Al D.q.nodes M.q.nodes (by omega) (by omega)).mono λe w' r=> ?_
  obtain⟨l',Z,⟨lo',hi',Y,v',K',i1,i2,n,y⟩,hl⟩:=r
  refine⟨0,Tc kb db Y v',Z,λ_=>⟨d,F,db,Y,v',lo',hi',l',⟨D.hd,D.hF,D.d1,D.d2,D.f1,D.f2,hl.qinv (Mh D.q M.q D.f1),?_⟩,K',i1,i2,rfl⟩,?_,y.mono λk _ H=>.inr H⟩
  ·have k1:=(hl.keeps (Mh D.q M.q D.f1).nodes).2.2
   have k2:=Rm l m
   simp only[Jx];omega
  ·rintro k (rfl|j)
   ·exact .inl (.inl rfl)
   ·exact(n k j).imp .inr id
section
variable {a1 a2 a3 a4 a5 a6 a7 a8 a9 a10:Int}
theorem dt(s)(vals:AM)(h:∃ld,s=AW 1 ld/\fD (a3==1) a4.toNat a1.toNat a2.toNat vals ld/\WN a1 a2 a3 a4 a5 a6 a7 a8 a9 a10 vals)(hi:DK vals)(H:vals.length<=360):∃kn ld,s=AW kn ld/\ld.length<=190000:=by
 obtain⟨ld,rfl,O,K⟩:=h;refine⟨1,ld,rfl,?_⟩;obtain⟨n,M,rfl⟩:=O;have D:=K.inP hi;obtain⟨Z,g⟩:=EY D;have e:=D.le;have u:=Eu a1.toNat a2.toNat n vals;obtain⟨f,Y,a,t,o⟩:=Cu (a3==1) a4.toNat (GP a1.toNat a2.toNat n) (λx _ i h=>JC M h) D H;obtain⟨j,X,Q,m,q⟩:=Cu (a3==1) a4.toNat (GQ a1.toNat a2.toNat n) (λx _ i h=>JD M h) D H;obtain⟨p,r,y,k,_⟩:=K.2.1.nat;refine No _ _ _ _ _ _ _ _ _ _ _ ⟨by omega,by omega,by split<;>omega,by omega,(Ao _ Z).2,(Ao _ g).2,by omega,by omega,by omega⟩ ⟨by omega,a,λx G=>by have:=Y x G;omega⟩ ⟨by omega,Q,λx G=>by have:=X x G;omega⟩ f j
theorem du(s)(vals:AM)(h:s=AW 2 (ZS a5 a6 vals)/\WH a1 a2 a3 a4 a5 a6 a7 a8 a9 a10 vals)(hi:DK vals)(K:vals.length<=360):∃kn ld,s=AW kn ld/\ld.length<=190000:=by
 obtain⟨rfl,H⟩:=h;refine⟨2,_,rfl,?_⟩;have G:=H.inP hi;obtain⟨f,X⟩:=EY G;have j:=G.le;have O:=El a5.toNat vals;obtain⟨p,Y⟩:=DE (Fa a5.toNat) (λx D i h=>PM D h) G K;obtain⟨n,e⟩:=DE (hf1 a5.toNat) (λx D i h=>PN D h) G K;have o:=CN (BS (Fa a5.toNat) vals) ⟨by omega,BK _ _,λx D=>by have:=Y x D;omega⟩;have m:=CN (BS (hf1 a5.toNat) vals) ⟨by omega,BK _ _,λx D=>by have:=e x D;omega⟩;have g:=H.2.1;have Q:=AC a5.toNat (by omega);have Z:=AC a6.toNat (by omega);have a:=AC (AX (DH vals)) (Ao _ f).2;have k:=AC (AX (DI vals)) (Ao _ X).2;have M:=AC (AY Fb vals) (by unfold C6 at O;omega);unfold ZS NT;simp only[Jx];omega
theorem We(s)(vals:AM)(h:cR a7 a8 s vals)(hi:DK vals)(G:vals.length<=360):∃kn ld,s=AW kn ld/\ld.length<=190000:=by
 obtain⟨d,F,a,b,l,D,K,H,rfl⟩:=h;obtain⟨M,O⟩:=D.bd hi G;have:=FV d F a b l D.d2 D.f2 K H (by omega) D.q.nodes D.q.rising (by omega);exact⟨3,_,rfl,by omega⟩
theorem Zg(p:0<=a1)(k:0<=a2)(s)(vals:AM)(h:∃ld,s=AW 4 ld/\ez a1.toNat a2.toNat vals ld/\Me a1 a2 a3 a4 a5 a6 a7 a8 a9 a10 vals)(hi:DK vals)(g:vals.length<=360):∃kn ld,s=AW kn ld/\ld.length<=190000:=by
 obtain⟨ld,rfl,K,Y⟩:=h;refine⟨4,ld,rfl,?_⟩;obtain⟨D,H,rfl,q,G,i,Z⟩:=K;have a:=Bo vals hi;have O:((a1.toNat:Nat):Int)=a1:=by omega
 have M:((a2.toNat:Nat):Int)=a2:=by omega
 obtain⟨f,j,u⟩:=(Hy a1.toNat a2.toNat).1 (by rw[O,M];exact Y.2);have X:=Cj D G;have m:=Fy D λy Q=>(G y Q).small (by omega);have r:=CO H Z;have e:=AC a1.toNat (by omega);have n:=AC a2.toNat (by omega);have o:=AC D.length (by omega);have t:=AC H.length (by omega);unfold GT;simp only[Jx];omega
theorem dv(Z:a10.toNat<18446744073709551616)(s)(vals:AM)(h:∃ld,s=AW 5 ld/\eu a9.toNat a10.toNat vals ld/\Z3 a1 a2 a3 a4 a5 a6 a7 a8 a9 a10 vals)(hi:DK vals)(j:vals.length<=360):∃kn ld,s=AW kn ld/\ld.length<=190000:=by
 obtain⟨ld,rfl,M,Y⟩:=h;refine⟨5,ld,rfl,?_⟩;obtain⟨u,lo,Q,D,rfl,o,O,X,H,f,a⟩:=M;have e:=Bo vals hi;have g:=Y.2;have K:=JF H f (by omega);have p:=Fz D λx G=>⟨H.2.2 x G,by have:=a x G;omega⟩
 have i:=AC a9.toNat (by omega);have m:=AC a10.toNat Z;have n:=AC u (by omega);have r:=AC (AX lo) (Ao _ O).2;have q:=AC (AX Q) (Ao _ X).2;have k:=AC D.length (by omega);unfold JK;simp only[Jx];omega
theorem bp(s)(vals:AM)(h:∃ld,s=AW 6 ld/\er a4.toNat vals ld/\bV a1 a2 a3 a4 a5 a6 a7 a8 a9 a10 vals)(hi:DK vals)(Y:vals.length<=360):∃kn ld,s=AW kn ld/\ld.length<=190000:=by
 obtain⟨ld,rfl,G,K⟩:=h;refine⟨6,ld,rfl,?_⟩;obtain⟨l,rfl,X,H,Z⟩:=G;have O:=Bo vals hi;have M:∀y∈l,Kg y/\y.1<18446744073709551616:=λy D=>⟨H y D,by have:=Gw D;omega⟩
 have a:=Fx l M;have g:=K.2;have Q:=AC a4.toNat (by omega);have e:=AC l.length (by omega);unfold MH;simp only[Jx];omega
end
theorem Tg(a0 a1 a2 a3 a4 a5 a6 a7 a8 a9 a10 v K)(L:DG)(M D Z)(u1:(Lit.int U a1).wf=true)(u2:(Lit.int U a2).wf=true)(u6:(Lit.int U a6).wf=true)(u10:(Lit.int U a10).wf=true)(p:(Lit.int .u32 Z).wf=true)(w)(O:Sp.Tens w)(Q:Dd w v L)(X:DF w K M)(Y:∀x∈L,∀y∈x.1,Am y.1):
  C prog 5 #[.agg #[I J a0,I U a1,I U a2,I J a3,I J a4,I J a5,I U a6,I J a7,I J a8,I J a9,I U a10],v,K,I J D,I .u32 Z] w λe w' =>e=R (.bool true)/\B w.heap.size w w' :=by
 have j:=bounds_u64 u1;have n:=bounds_u64 u2;have q:=bounds_u64 u6;have a:=bounds_u64 u10;have r:=bounds_u32 p;obtain⟨turn,rfl⟩:∃turn:Nat,Z=(turn:Int):=⟨Z.toNat,by omega⟩;have G:turn<4294967296:=by omega
 by_cases k:a0=1
 ·subst k;exact DP (λW h=>EF W h) ZU.toKind (λs vals h hi H=>dt s vals h hi H) w O v K L M D turn G Q X Y
 by_cases f:a0=2
 ·subst f;exact DP (λW h=>EF W h) (ZT (by omega)).toKind (λs vals h hi H=>du s vals h hi H) w O v K L M D turn G Q X Y
 by_cases i:a0=3
 ·subst i;exact DP (λW h=>EF W h) (Rn a1 a2 a3 a4 a5 a6 a7 a8 a9 a10) (λs vals h hi H=>We s vals h hi H) w O v K L M D turn G Q X Y
 by_cases g:a0=4
 ·subst g;exact DP (λW h=>EF W h) (TV j.1 n.1) (λs vals h hi H=>Zg j.1 n.1 s vals h hi H) w O v K L M D turn G Q X Y
 by_cases m:a0=5
 ·subst m;exact DP (λW h=>EF W h) (ZL a.1 (by omega)) (λs vals h hi H=>dv (by omega) s vals h hi H) w O v K L M D turn G Q X Y
 by_cases o:a0=6
 ·subst o;exact DP (λW h=>EF W h) Vs (λs vals h hi H=>bp s vals h hi H) w O v K L M D turn G Q X Y
 exact DP (λW h=>EF W h) (VB ⟨k,f,i,g,m,o⟩) (λs vals h hi H=>h.elim) w O v K L M D turn G Q X Y
end Go.Proofs.YtbejdajkkoapgaaGreatDoor
