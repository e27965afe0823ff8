/-
  Lemmas and walks for coreBurst.proved, joined and squeezed by a program out of the loose texts R5, GM, Hr, J07, J19, Cs, Kh, Kl, J20, J21. Conditions: each theorem states its own.
-/
import Derived.Test.YtbejdajkkoapgaaGreatDoorU14
import Derived.Test.YtbejdajkkoapgaaGreatDoorU13
import Derived.Test.YtbejdajkkoapgaaGreatDoorU09
import Derived.Test.YtbejdajkkoapgaaGreatDoorU12
import Derived.Test.YtbejdajkkoapgaaGreatDoorU03
import Derived.Test.YtbejdajkkoapgaaGreatDoorU04
import Derived.Test.YtbejdajkkoapgaaGreatDoorU01
import Derived.Test.YtbejdajkkoapgaaGreatDoorU02
import Derived.Test.YtbejdajkkoapgaaGreatDoorU05
import Derived.Test.YtbejdajkkoapgaaGreatDoorTie
import Derived.ProofKit
import Derived.LaidMore
import Derived.OpenShut
import Derived.Stop.Joined
import Derived.SevenTiedAt
import Derived.Deep.SlicePairs
import Derived.ChangeSlices
import Derived.Lib.SmallJoins
import Derived.Sort.Grow
import Derived.Lib.SliceRun
import Derived.Deep.Cut
import Derived.Shelf.SlSortCmp.WholeK
import Derived.Test.YtbejdajkkoapgaaGreatDoorRows
import Derived.Test.YtbejdajkkoapgaaGreatDoorU08
import Derived.Test.YtbejdajkkoapgaaGreatDoorU07
set_option linter.all false
set_option maxRecDepth 100000
set_option maxHeartbeats 40000000
open Go.RowKit Go.Lib Go.Proofs.Tryz
open Bool renaming and_eq_true->gQ
open Go renaming Calls->C,Value->V,World->W
open Go.Act renaming put->Jx
open Go.Addr renaming add_lit->fa
open Go.Ending renaming returned->R
open Go.IntKind renaming i64->J,u64->U
open Go.RowKit renaming Below->B
open Go.Value renaming int->I,pointer->P,slice->L,tuple->T
open Int renaming toNat_natCast->ej
open List renaming cons.injEq->V0,drop_succ_cons->bh,drop_zero->bw,eq_nil_of_length_eq_zero->fy,getElem_map->fp,getElem_mem->gS,getElem_range->fw,getElem_take->fx,length_append->Pa,length_nil->RR,length_take->gR,range->fk,take_succ_cons->ag,take_zero->aw
open Nat renaming le_refl->E,le_trans->dT,lt_trans->es,zero_le->Q0
open Option renaming none->N,some->S,some.inj->fj
namespace Go.Proofs.YtbejdajkkoapgaaGreatDoor
theorem Vt{Q:GX}(C:Cz Q){vals:AM}(T b X G F Y a K Z O A w c)(f:c<w.heap.size)(k:Calls prog 54 #[P (S ⟨c,0,N⟩)] (w.alloc (.cells BN 28)) (Hs (Ae 5 b X G F Y a K Z O A) T (Q vals) (w.alloc (.cells BN 28)) c)):
  Calls prog 33 #[I J 5,P (S ⟨c,0,N⟩)] w (Hs (Ae 5 b X G F Y a K Z O A) T (Q vals) w c):=by
 have d:AI (w.alloc (.cells BN 28)) w.heap.size BN 28:=AI.newAt rfl;have n:=Zh d;clear d;unfold BN at k;go_enter func33,ntmps33;go_wp2_with fail;refine k.mono ?_;rintro e l ⟨ok,po,rfl,g,o,m⟩;have d:=n.out;unfold BN at d;have i:=d.away g (by omega);obtain⟨⟨m0,m1,m2,m3,m4,m5,m6,m7,m8,m9,AA⟩,⟨f0,f1,f2,f3,f4,f5,f6,f7,f8,f9,q⟩⟩:=CU i;have D:=DO (a0:=5) (a1:=b) (a2:=X) (a3:=G) (a4:=F) (a5:=Y) (a6:=a) (a7:=K) (a8:=Z) (a9:=O) (a10:=A) i;have M:=Zh (Hs.on C (a0:=5) (a1:=b) (a2:=X) (a3:=G) (a4:=F) (a5:=Y) (a6:=a) (a7:=K) (a8:=Z) (a9:=O) (a10:=A) (T:=T) f g o m);clear k g o m i d n;unfold Ae;go_wp2_with fail;change bodyPost prog f33 (Hs (Ae 5 b X G F Y a K Z O A) T (Q vals) w c) Exit.ret _ (EZ l w.heap.size 5 b X G F Y a K Z O A);generalize EZ l w.heap.size 5 b X G F Y a K Z O A=WW at D M⊢;have u:=D.cell (j:=0) rfl;have x:=D.cell (j:=1) rfl;have z:=D.cell (j:=2) rfl;have c3:=D.cell (j:=3) rfl;have c4:=D.cell (j:=4) rfl;have c5:=D.cell (j:=5) rfl;have c6:=D.cell (j:=6) rfl;have t:=D.cell (j:=7) rfl;have p:=D.cell (j:=8) rfl;have r:=D.cell (j:=9) rfl;have h:=D.cell (j:=10) rfl;refine bodyPost_ret (v:=.tuple #[.agg (Ae 5 b X G F Y a K Z O A),.iface T (.agg #[P po]),.bool ok]) ?_ rfl M.out;simp[results,results33,go_sem,Ae,u,x,z,c3,c4,c5,c6,t,p,r,h]
theorem Vu(args w):(callFunc 307 args).run prog w=.ok (.enter 307 args) w:=by kernel_rfl
theorem Vv(args w):(callFunc 335 args).run prog w=.ok (.enter 335 args) w:=by kernel_rfl
theorem Vw(args w):(callFunc 338 args).run prog w=.ok (.enter 338 args) w:=by kernel_rfl
theorem Vx(A w):(method 524 143 (.agg #[P (S ⟨A,0,N⟩)]) "Put").run prog w=.ok (307,P (S ⟨A,0,N⟩)) w:=by kernel_rfl
theorem TR(A w):(method 524 143 (.agg #[P (S ⟨A,0,N⟩)]) "ogive/suite.join").run prog w=.ok (335,.agg #[P (S ⟨A,0,N⟩)]) w:=by kernel_rfl
theorem RY(A w):(method 524 143 (.agg #[P (S ⟨A,0,N⟩)]) "ogive/suite.write").run prog w=.ok (338,.agg #[P (S ⟨A,0,N⟩)]) w:=by kernel_rfl
theorem Vy(A w):(Instr.typeAssert (.iface 143 (.agg #[P (S ⟨A,0,N⟩)])) 74 143 false).run prog w=.ok (.agg #[P (S ⟨A,0,N⟩)]) w:=by kernel_rfl
theorem ZJ(A w):(Instr.field 143 (.agg #[P (S ⟨A,0,N⟩)]) 0).run prog w=.ok (P (S ⟨A,0,N⟩)) w:=by kernel_rfl
theorem RZ(w D F Q)(G:∀W,B w.heap.size w W->Calls prog 339 #[P (S ⟨D,0,N⟩),P (S ⟨F,0,N⟩)] W λe w' =>(∃A,e=R (I J A))/\Q e w'):
  Calls prog 335 #[.agg #[P (S ⟨D,0,N⟩)],.iface 143 (.agg #[P (S ⟨F,0,N⟩)])] w (Qt Q):=by
 have H:VQ w w.heap.size D 143 (w.alloc (.cells #[P (S ⟨D,0,N⟩)] 143)):=⟨AI.newAt rfl,Za⟩;have b:=Vy F;have c:=ZJ F;have X:=Zh G;clear G;go_enter func335,ntmps335;go_upto_region 1 with fail;refine AS 5 (C:=VQ w w.heap.size D 143) (by kernel_rfl) (by kernel_rfl) H.drew ?_;simp only[ag,aw,bh,bw];repeat go_big_quiet_step(exact λ_=>rfl)
 go_big_quiet_want;refine⟨P (S ⟨D,0,N⟩),λY a=> ?_,?_⟩
 ·have d:Y.cell? ⟨w.heap.size,0,N⟩=S (P (S ⟨D,0,N⟩)):=a.blk.cell rfl;go_simp
 go_big_quiet_on;simp only[Jx,Zp,Zq,Zr];repeat go_big_quiet_step(exact λ_=>rfl)
 refine wpQuiet_nil ?_;intro O K;have M:=X.out O K.below;clear H K;go_wp2_with fail;refine M.mono ?_;rintro e f ⟨⟨A,rfl⟩,q⟩;have Z:=Zh q;clear M q;go_wp2_with fail;go_ret;exact Z.out
theorem Vz(w a1 a2 a3 a4 a5 a6 a7 a8 a9 a10):
  C prog 30 #[.agg #[I J 5,I U a1,I U a2,I J a3,I J a4,I J a5,I U a6,I J a7,I J a8,I J a9,I U a10]] w (Gs 143 (λW j O=>Oy a9.toNat a10 [] W j O/\(4<=a9/\a9<=64/\a9.tmod 4=0)) (4<=a9/\a9<=64/\a9.tmod 4=0) w):=by
 have Z:B w.heap.size w (w.alloc (.cells #[I J 5,I U a1,I U a2,I J a3,I J a4,I J a5,I U a6,I J a7,I J a8,I J a9,I U a10] 28)):=(B.refl _ w).alloc (E _) _;have a:=Yt (w.alloc (.cells (#[I J 5,I U a1,I U a2,I J a3,I J a4,I J a5,I U a6,I J a7,I J a8,I J a9,I U a10]:Array V) 28)) a9 a10;have Y:=Zh Z;clear Z;go_enter func30,ntmps30;go_wp2_with fail;refine a.mono ?_;rintro e m ⟨po,D,rfl,M,A,X⟩;have i:=Zh (Zi (Y.out.trans (M.mono Y.out.size)) (Zi A X));clear a M A X;go_wp2_with fail;go_ret2;obtain⟨M,A,X⟩:=i.out;by_cases K:D=0
 ·have G:=A.1 K;obtain⟨d,b,g,rfl,c,l1,o,l⟩:=X K;have n:=Y.out.size;refine⟨_,D,rfl,M,λ_=>⟨d,_,rfl,⟨⟨b,0,_,_,0,0,c,⟨by simp[Bf],λx F=>by simp[Bf]at F,λx F y f=> ?_⟩,rfl,λx F=> ?_,by omega,⟨by decide,by decide⟩,⟨by decide,by decide⟩,rfl⟩,G⟩,?_⟩,λ_=>K⟩
  ·simp[Bf]at F;subst F;cases f
  ·rw[List.mem_singleton.1 F];show([]:List Int).length<a9.toNat;simp;omega
  ·rintro k (rfl|rfl|Q|⟨x,F,Q⟩)
   ·omega
   ·omega
   ·have:g=k:=by simpa[V.ownBlock]using Q
    omega
   ·rw[List.mem_singleton.1 F]at Q;cases Q
 ·exact⟨_,D,rfl,M,λh=>absurd h K,λh=>absurd (A.2 h) K⟩
section
variable {a1 a2 a3 a4 a5 a6 a7 a8 a9 a10:Int}
def Z3(a1 a2 a3 a4 a5 a6 a7 a8 a9 a10:Int)(vals:AM):Prop:=(a1=0/\a2=0/\a3=0/\a4=0/\a5=0/\a6=0/\a7=0/\a8=0)/\(4<=a9/\a9<=64/\a9.tmod 4=0)
def eu(wd wn:Nat)(vals:AM)(ld:List UInt8):Prop:=∃(u:Nat) (lo hi:Int) (rows:CM),ld=JK wd wn u lo hi rows/\u<64/\Am lo/\Am hi/\Bx rows/\wS rows=BH vals/\∀x∈rows,x.length<wd
theorem ZK:Df 5 a1 a2 a3 a4 a5 a6 a7 a8 a9 a10 5 (By 5 a1) (By 5 a2) (Dg 5 a3) (Dh 5 a4) (Bz 5 a5) (Bz 5 a6) (B6 5 a7) (B6 5 a8) (B7 5 a9) (B7 5 a10)=true↔a1=0/\a2=0/\a3=0/\a4=0/\a5=0/\a6=0/\a7=0/\a8=0:=by
 have D:∀a,By 5 a=0:=λa=>Bd (by decide);have K:∀a,Dg 5 a=0:=λa=>Bd (by decide);have M:∀a,Dh 5 a=0:=λa=>Bd (by decide);have A:∀a,Bz 5 a=0:=λa=>Bd (by decide);have F:∀a,B6 5 a=0:=λa=>Bd (by decide);have G:∀a,B7 5 a=a:=λa=>Ek (by decide);rw[D,D,K,M,A,A,F,F,G,G];unfold Df;simp[and_assoc]
theorem ZL(z1:0<=a10)(z2:a10<18446744073709551616):Kind (Ae 5 a1 a2 a3 a4 a5 a6 a7 a8 a9 a10) (GZ 5 a1 a2 a3 a4 a5 a6 a7 a8 a9 a10 143 (Oy a9.toNat a10) (Z3 a1 a2 a3 a4 a5 a6 a7 a8 a9 a10)) (λs vals=>∃ld,s=AW 5 ld/\eu a9.toNat a10.toNat vals ld/\Z3 a1 a2 a3 a4 a5 a6 a7 a8 a9 a10 vals) Hu:=by
 have C:=NQ a9.toNat a10;have t2:((a10.toNat:Nat):Int)=a10:=by omega
 have p:a10.toNat<18446744073709551616:=by omega
 have G:∀vals,Z3 a1 a2 a3 a4 a5 a6 a7 a8 a9 a10 vals->4<=a9.toNat/\a9.toNat<=64/\((a9.toNat:Nat):Int).tmod 4=0/\((a9.toNat:Nat):Int)=a9:=λvals h=>by
  have g:=h.2;have e:((a9.toNat:Nat):Int)=a9:=by omega
  rw[e];exact⟨by omega,by omega,g.2.2,rfl⟩
 have z:∀vals ld,Z3 a1 a2 a3 a4 a5 a6 a7 a8 a9 a10 vals->DK vals->vals.length<=360->eu a9.toNat a10.toNat vals ld->ld.length<=190000:=λvals ld X hi K hd=>by
  obtain⟨u,lo,Y,Q,rfl,l,Z,f,h4,h5,h6⟩:=hd;have AA:=Bo vals hi;obtain⟨g1,r,g3,g4⟩:=G vals X;have Ap:=JF h4 h5 (by omega);have h7:=Fz Q λx i=>⟨h4.2.2 x i,by have:=h6 x i;omega⟩
  have k1:=AC a9.toNat (by omega);have k2:=AC a10.toNat p;have k3:=AC u (by omega);have k4:=AC (AX lo) (Ao _ Z).2;have k5:=AC (AX Y) (Ao _ f).2;have k6:=AC Q.length (by omega);unfold JK;simp only[Pa];omega
 have Al:∀(B:Nat) (w:World) (M:Nat) (O:Nat->Prop) (vals:AM) (qb:Nat) (A:Option Addr) (c:Nat),Fi B w qb (L A ([]:List UInt8).length c) []->B<=w.heap.size->Oy a9.toNat a10 vals w M O->(∀k,O k->k<B)->Z3 a1 a2 a3 a4 a5 a6 a7 a8 a9 a10 vals->DK vals->vals.length<=360->
   Calls prog 338 #[.agg #[P (S ⟨M,0,none⟩)],P (S ⟨qb,0,none⟩)] w λe w' =>e=R (.tuple #[])/\∃ld A' c',eu a9.toNat a10.toNat vals ld/\CH B w qb A' c' ld w' :=λB w M O vals qb A c hq hB h hO X hi K=>by
  obtain⟨pb,us,rv,rs,lo,Y,h0,l,Z,f,h4,h5,h6,rfl⟩:=h;have AA:=Bo vals hi;obtain⟨g1,r,g3,g4⟩:=G vals X;rw[<-t2]at h0;refine(ZH a9.toNat a10.toNat r p B w M pb us rv rs _ lo Y qb A c hq hB h0 l Z f (by omega) h5 h6 hO (by omega)).mono λe w' Ac => ?_;obtain⟨rfl,lo',hi',A',c',i1,i2,hN⟩:=Ac;exact⟨rfl,_,A',c',⟨us % 64,lo',hi',Bf rs,rfl,Nat.mod_lt _ (by omega),i1,i2,l,Z,λx i=>by obtain⟨y,hy,rfl⟩:=List.mem_map.1 i;exact f y hy⟩,hN⟩
 have Aa:=λw m=>JB C (Gd:=Z3 a1 a2 a3 a4 a5 a6 a7 a8 a9 a10) (a0:=5) (a1:=a1) (a2:=a2) (a3:=a3) (a4:=a4) (a5:=a5) (a6:=a6) (a7:=a7) (a8:=a8) (a9:=a9) (a10:=a10) (T:=143) (λW M O=>Oy a9.toNat a10 [] W M O/\(4<=a9/\a9<=64/\a9.tmod 4=0)) (4<=a9/\a9<=64/\a9.tmod 4=0) (λW W' M O h b=>⟨C.next h.1 b,h.2⟩) (λW M O h=>C.lt h.1) (λW M O hs h=>⟨h.1,ZK.1 hs,h.2⟩) (λW _=>Vz W a1 a2 a3 a4 a5 a6 a7 a8 a9 a10) w m;have v:∀(vals:AM) (ld:List UInt8) (w:World),Sp.Tens w->eu a9.toNat a10.toNat vals ld->Z3 a1 a2 a3 a4 a5 a6 a7 a8 a9 a10 vals->DK vals->vals.length<=360->Calls prog 19 #[.string (bs (AW 5 ld))] w (OD (GZ 5 a1 a2 a3 a4 a5 a6 a7 a8 a9 a10 143 (Oy a9.toNat a10) (Z3 a1 a2 a3 a4 a5 a6 a7 a8 a9 a10)) vals w):=λvals ld w m hD X hi K=>by
  have t:=z vals ld X hi K hD;obtain⟨u,lo,Y,Q,rfl,l,Z,f,h4,h5,h6⟩:=hD;have AA:=Bo vals hi;obtain⟨g1,r,g3,g4⟩:=G vals X;obtain⟨rfl,rfl,rfl,rfl,rfl,rfl,rfl,rfl⟩:=X.1;refine Et C (a0:=5) (T:=143) 5 rfl vals X _ t (λW eb hW hE=> ?_) w m;refine Vt C 143 0 0 0 0 0 0 0 0 a9 a10 W eb (AI.lt hE) ?_;have Ab:=(AI.alloc hE (.cells BN 28):CZ (W.alloc (.cells BN 28)) eb _);have d:=dk a9.toNat a10.toNat ⟨g1,r,g3⟩ p (W.alloc (.cells BN 28)) eb u lo Y Q vals Ab l Z f h4 h5 (by omega) h6;rw[t2,g4]at d;exact d
 exact
 {next:=λh b=>h.next C b
  away:=λh a n=>h.away C a n
  lt:=λh=>h.lt C
  ty:=λh=>h.ty C
  new:=λw m=>(Aa w m).mono λ_ _ Y=>Y.1
  put:=λw q O vals x h hi K i hc=>JA C 307 Vu Vx (λvals x g l Z hP=>g)
   (λw M O vals x h g hi K i hc=>dY a9.toNat (G vals g).1 (G vals g).2.1 a10 w vals M O h hi K x i hc) w q O vals x h hi K i hc
  bytes:=λw q O vals h hi K=>by
   have X:Z3 a1 a2 a3 a4 a5 a6 a7 a8 a9 a10 vals:=by obtain⟨_,_,_,_,g,_⟩:=h;exact g
   refine(IB w q 5 _ (FU C 338 Vw 5 rfl RY Al z w q O vals h hi K)).mono λe w' Y=> ?_;obtain⟨ld,rfl,hR,hB⟩:=Y;exact⟨_,rfl,⟨ld,rfl,hR,X⟩,hB⟩
  decode:=λw s vals m he hi K=>by
   obtain⟨ld,rfl,hD,X⟩:=he;exact v vals ld w m hD X hi K
  join:=λw q nb O N vals D h k o hi hj K=>G0 C 335 Vv TR (λvals D g r=>g)
   (λw M ob O N vals D h k g r o hi hj K=>by
    have d:=RZ w M ob (Dv (Oy a9.toNat a10) w M O vals D) λW b=>(bI a9.toNat (G vals g).1 (G vals g).2.1 a10 W vals D M ob O N (C.next h b) (C.next k b) o hi hj K).mono λe w' Y=>by
     obtain⟨j,O',rfl,l,Z,f⟩:=Y;exact⟨⟨j,rfl⟩,j,O',rfl,l,λk hk=>(Z k hk).imp id λe=>dT b.size e,(AD.of_below (F:=O) b).trans' f (λ_ _ h=>h) (λ_ _ h=>h)⟩
    exact d) w q nb O N vals D h k o hi hj K}
end
theorem Ra{Q:GX}(C:Cz Q){vals:AM}(T b X G F Y a K Z O A w c)(f:c<w.heap.size)(k:Calls prog 53 #[P (S ⟨c,0,N⟩)] (w.alloc (.cells BN 28)) (Hs (Ae 4 b X G F Y a K Z O A) T (Q vals) (w.alloc (.cells BN 28)) c)):
  Calls prog 33 #[I J 4,P (S ⟨c,0,N⟩)] w (Hs (Ae 4 b X G F Y a K Z O A) T (Q vals) w c):=by
 have d:AI (w.alloc (.cells BN 28)) w.heap.size BN 28:=AI.newAt rfl;have n:=Zh d;clear d;unfold BN at k;go_enter func33,ntmps33;go_wp2_with fail;refine k.mono ?_;rintro e l ⟨ok,po,rfl,g,o,m⟩;have d:=n.out;unfold BN at d;have i:=d.away g (by omega);obtain⟨⟨m0,m1,m2,m3,m4,m5,m6,m7,m8,m9,AA⟩,⟨f0,f1,f2,f3,f4,f5,f6,f7,f8,f9,q⟩⟩:=CU i;have D:=DO (a0:=4) (a1:=b) (a2:=X) (a3:=G) (a4:=F) (a5:=Y) (a6:=a) (a7:=K) (a8:=Z) (a9:=O) (a10:=A) i;have M:=Zh (Hs.on C (a0:=4) (a1:=b) (a2:=X) (a3:=G) (a4:=F) (a5:=Y) (a6:=a) (a7:=K) (a8:=Z) (a9:=O) (a10:=A) (T:=T) f g o m);clear k g o m i d n;unfold Ae;go_wp2_with fail;change bodyPost prog f33 (Hs (Ae 4 b X G F Y a K Z O A) T (Q vals) w c) Exit.ret _ (EZ l w.heap.size 4 b X G F Y a K Z O A);generalize EZ l w.heap.size 4 b X G F Y a K Z O A=WW at D M⊢;have u:=D.cell (j:=0) rfl;have x:=D.cell (j:=1) rfl;have z:=D.cell (j:=2) rfl;have c3:=D.cell (j:=3) rfl;have c4:=D.cell (j:=4) rfl;have c5:=D.cell (j:=5) rfl;have c6:=D.cell (j:=6) rfl;have t:=D.cell (j:=7) rfl;have p:=D.cell (j:=8) rfl;have r:=D.cell (j:=9) rfl;have h:=D.cell (j:=10) rfl;refine bodyPost_ret (v:=.tuple #[.agg (Ae 4 b X G F Y a K Z O A),.iface T (.agg #[P po]),.bool ok]) ?_ rfl M.out;simp[results,results33,go_sem,Ae,u,x,z,c3,c4,c5,c6,t,p,r,h]
theorem V2(args w):(callFunc 261 args).run prog w=.ok (.enter 261 args) w:=by kernel_rfl
theorem V3(args w):(callFunc 293 args).run prog w=.ok (.enter 293 args) w:=by kernel_rfl
theorem V4(args w):(callFunc 296 args).run prog w=.ok (.enter 296 args) w:=by kernel_rfl
theorem V5(A w):(method 524 136 (.agg #[P (S ⟨A,0,N⟩)]) "Put").run prog w=.ok (261,P (S ⟨A,0,N⟩)) w:=by kernel_rfl
theorem TS(A w):(method 524 136 (.agg #[P (S ⟨A,0,N⟩)]) "ogive/suite.join").run prog w=.ok (293,.agg #[P (S ⟨A,0,N⟩)]) w:=by kernel_rfl
theorem Rb(A w):(method 524 136 (.agg #[P (S ⟨A,0,N⟩)]) "ogive/suite.write").run prog w=.ok (296,.agg #[P (S ⟨A,0,N⟩)]) w:=by kernel_rfl
theorem V6(A w):(Instr.typeAssert (.iface 136 (.agg #[P (S ⟨A,0,N⟩)])) 74 136 false).run prog w=.ok (.agg #[P (S ⟨A,0,N⟩)]) w:=by kernel_rfl
theorem ZM(A w):(Instr.field 136 (.agg #[P (S ⟨A,0,N⟩)]) 0).run prog w=.ok (P (S ⟨A,0,N⟩)) w:=by kernel_rfl
theorem TT(w D F Q)(G:∀W,B w.heap.size w W->Calls prog 297 #[P (S ⟨D,0,N⟩),P (S ⟨F,0,N⟩)] W λe w' =>(∃A,e=R (I J A))/\Q e w'):
  Calls prog 293 #[.agg #[P (S ⟨D,0,N⟩)],.iface 136 (.agg #[P (S ⟨F,0,N⟩)])] w (Qt Q):=by
 have H:VQ w w.heap.size D 136 (w.alloc (.cells #[P (S ⟨D,0,N⟩)] 136)):=⟨AI.newAt rfl,Za⟩;have b:=V6 F;have c:=ZM F;have X:=Zh G;clear G;go_enter func293,ntmps293;go_upto_region 1 with fail;refine AS 5 (C:=VQ w w.heap.size D 136) (by kernel_rfl) (by kernel_rfl) H.drew ?_;simp only[ag,aw,bh,bw];repeat go_big_quiet_step(exact λ_=>rfl)
 go_big_quiet_want;refine⟨P (S ⟨D,0,N⟩),λY a=> ?_,?_⟩
 ·have d:Y.cell? ⟨w.heap.size,0,N⟩=S (P (S ⟨D,0,N⟩)):=a.blk.cell rfl;go_simp
 go_big_quiet_on;simp only[Jx,Zp,Zq,Zr];repeat go_big_quiet_step(exact λ_=>rfl)
 refine wpQuiet_nil ?_;intro O K;have M:=X.out O K.below;clear H K;go_wp2_with fail;refine M.mono ?_;rintro e f ⟨⟨A,rfl⟩,q⟩;have Z:=Zh q;clear M q;go_wp2_with fail;go_ret;exact Z.out
theorem Rc(w a1 a2 a3 a4 a5 a6 a7 a8 a9 a10)(b:0<=a1)(Z:0<=a2):
  C prog 30 #[.agg #[I J 4,I U a1,I U a2,I J a3,I J a4,I J a5,I U a6,I J a7,I J a8,I J a9,I U a10]] w (Gs 136 (λW i O=>Oz a1.toNat a2.toNat [] W i O/\Ki a1 a2=true) (Ki a1 a2=true) w):=by
 have M:B w.heap.size w (w.alloc (.cells #[I J 4,I U a1,I U a2,I J a3,I J a4,I J a5,I U a6,I J a7,I J a8,I J a9,I U a10] 28)):=(B.refl _ w).alloc (E _) _;obtain⟨n,rfl⟩:∃n:Nat,a1=(n:Int):=⟨a1.toNat,by omega⟩;obtain⟨d,rfl⟩:∃d:Nat,a2=(d:Int):=⟨a2.toNat,by omega⟩;by_cases G:Ki n d=true
 ·have K:=RI (w.alloc (.cells (#[I J 4,I U n,I U d,I J a3,I J a4,I J a5,I U a6,I J a7,I J a8,I J a9,I U a10]:Array V) 28)) n d G;have F:=Zh (Zi M G);clear M G b Z;go_enter func30,ntmps30;go_wp2_with fail;refine K.mono ?_;rintro e X ⟨sb,rfl,a,D,A⟩;have g:=Zh (show Oz n d [] X sb (CX sb (L N 0 0) (L N 0 0))/\B w.heap.size w X/\w.heap.size<=sb from
   ⟨⟨L N 0 0,[],L N 0 0,[],⟨a,rfl,(λy Y=>by cases Y),by decide,(λy Y=>by cases Y)⟩,rfl⟩,F.out.1.trans (D.mono F.out.1.size),by have:=F.out.1.size;omega⟩)
  clear K a D A;go_wp2_with fail;go_ret2;obtain⟨f,D,A⟩:=g.out;refine⟨_,0,rfl,D,λ_=>⟨sb,_,rfl,⟨by rw[ej,ej];exact f,F.out.2⟩,?_⟩,λ_=>rfl⟩;rintro k (rfl|e|e)
  ·exact A
  ·simp[V.ownBlock]at e
  ·simp[V.ownBlock]at e
 ·have K:=Yx (w.alloc (.cells (#[I J 4,I U n,I U d,I J a3,I J a4,I J a5,I U a6,I J a7,I J a8,I J a9,I U a10]:Array V) 28)) n d (by simpa using G);have c:=Zh G;have F:=Zh M;clear G M b Z;go_enter func30,ntmps30;go_wp2_with fail;refine K.mono ?_;rintro e X ⟨rfl,D⟩;have Q:=Zh (F.out.trans (D.mono F.out.size));clear K D;go_wp2_with fail;go_ret2;exact⟨_,1,rfl,Q.out,λh=>absurd h (by decide),λh=>absurd h c.out⟩
section
variable {a1 a2 a3 a4 a5 a6 a7 a8 a9 a10:Int}
def Me(a1 a2 a3 a4 a5 a6 a7 a8 a9 a10:Int)(vals:AM):Prop:=(a3=0/\a4=0/\a5=0/\a6=0/\a7=0/\a8=0/\a9=0/\a10=0)/\Ki a1 a2=true
def ez(num den:Nat)(vals:AM)(ld:List UInt8):Prop:=∃row ws,ld=GT num den row ws/\BO row+ws.length=BH vals/\Cv (max (BH vals) 1) row/\ws.length<16/\∀x∈ws,Am x
theorem TU:Df 4 a1 a2 a3 a4 a5 a6 a7 a8 a9 a10 4 (By 4 a1) (By 4 a2) (Dg 4 a3) (Dh 4 a4) (Bz 4 a5) (Bz 4 a6) (B6 4 a7) (B6 4 a8) (B7 4 a9) (B7 4 a10)=true↔a3=0/\a4=0/\a5=0/\a6=0/\a7=0/\a8=0/\a9=0/\a10=0:=by
 have D:∀a,By 4 a=a:=λa=>Ek (by decide);have K:∀a,Dg 4 a=0:=λa=>Bd (by decide);have M:∀a,Dh 4 a=0:=λa=>Bd (by decide);have A:∀a,Bz 4 a=0:=λa=>Bd (by decide);have F:∀a,B6 4 a=0:=λa=>Bd (by decide);have G:∀a,B7 4 a=0:=λa=>Bd (by decide);rw[D,D,K,M,A,A,F,F,G,G];unfold Df;simp[and_assoc]
theorem TV(z1:0<=a1)(z2:0<=a2):Kind (Ae 4 a1 a2 a3 a4 a5 a6 a7 a8 a9 a10) (GZ 4 a1 a2 a3 a4 a5 a6 a7 a8 a9 a10 136 (Oz a1.toNat a2.toNat) (Me a1 a2 a3 a4 a5 a6 a7 a8 a9 a10)) (λs vals=>∃ld,s=AW 4 ld/\ez a1.toNat a2.toNat vals ld/\Me a1 a2 a3 a4 a5 a6 a7 a8 a9 a10 vals) Hu:=by
 have C:=KP a1.toNat a2.toNat;have t1:((a1.toNat:Nat):Int)=a1:=by omega
 have t2:((a2.toNat:Nat):Int)=a2:=by omega
 have X:∀vals,Me a1 a2 a3 a4 a5 a6 a7 a8 a9 a10 vals->Ki (a1.toNat:Int) (a2.toNat:Int)=true:=λvals h=>by rw[t1,t2];exact h.2
 have q:∀vals ld,Me a1 a2 a3 a4 a5 a6 a7 a8 a9 a10 vals->DK vals->vals.length<=360->ez a1.toNat a2.toNat vals ld->ld.length<=190000:=λvals ld Q hi K hd=>by
  obtain⟨G,j,rfl,t,d,h3,h4⟩:=hd;have v:=Bo vals hi;obtain⟨g1,g2,g3⟩:=(Hy _ _).1 (X vals Q);have Ac:=Cj G d;have h6:=Fy G λy hy=>(d y hy).small (by omega);have h7:=CO j h4;have k1:=AC a1.toNat (by omega);have k2:=AC a2.toNat (by omega);have k3:=AC G.length (by omega);have k4:=AC j.length (by omega);unfold GT;simp only[Pa];omega
 have Ab:∀(B:Nat) (w:World) (M:Nat) (O:Nat->Prop) (vals:AM) (r:Nat) (A:Option Addr) (c:Nat),Fi B w r (L A ([]:List UInt8).length c) []->B<=w.heap.size->Oz a1.toNat a2.toNat vals w M O->(∀k,O k->k<B)->Me a1 a2 a3 a4 a5 a6 a7 a8 a9 a10 vals->DK vals->vals.length<=360->
   Calls prog 296 #[.agg #[P (some ⟨M,0,none⟩)],P (some ⟨r,0,none⟩)] w λe w' =>e=R (.tuple #[])/\∃ld A' c',ez a1.toNat a2.toNat vals ld/\CH B w r A' c' ld w' :=λB w M O vals r A c hq hB h hO Q hi K=>by
  obtain⟨rv,G,wv,j,S,rfl⟩:=h;have v:=Bo vals hi;refine(bU a1.toNat a2.toNat (X vals Q) B w M rv G wv j _ r A c hq hB S hO (by omega)).mono λe w' l=> ?_;obtain⟨rfl,A',c',hN⟩:=l;exact⟨rfl,_,A',c',⟨G,j,rfl,S.sum,S.all,S.few,S.in64⟩,hN⟩
 have u:=λw f=>JB C (Gd:=Me a1 a2 a3 a4 a5 a6 a7 a8 a9 a10) (a0:=4) (a1:=a1) (a2:=a2) (a3:=a3) (a4:=a4) (a5:=a5) (a6:=a6) (a7:=a7) (a8:=a8) (a9:=a9) (a10:=a10) (T:=136) (λW M O=>Oz a1.toNat a2.toNat [] W M O/\Ki a1 a2=true) (Ki a1 a2=true) (λW W' M O h b=>⟨C.next h.1 b,h.2⟩) (λW M O h=>C.lt h.1) (λW M O hs h=>⟨h.1,TU.1 hs,h.2⟩) (λW _=>Rc W a1 a2 a3 a4 a5 a6 a7 a8 a9 a10 z1 z2) w f;have p:∀(vals:AM) (ld:List UInt8) (w:World),Sp.Tens w->ez a1.toNat a2.toNat vals ld->Me a1 a2 a3 a4 a5 a6 a7 a8 a9 a10 vals->DK vals->vals.length<=360->Calls prog 19 #[.string (bs (AW 4 ld))] w (OD (GZ 4 a1 a2 a3 a4 a5 a6 a7 a8 a9 a10 136 (Oz a1.toNat a2.toNat) (Me a1 a2 a3 a4 a5 a6 a7 a8 a9 a10)) vals w):=λvals ld w f z Q hi K=>by
  have o:=q vals ld Q hi K z;obtain⟨G,j,rfl,t,d,h3,h4⟩:=z;have v:=Bo vals hi;have AA:=X vals Q;obtain⟨rfl,rfl,rfl,rfl,rfl,rfl,rfl,rfl⟩:=Q.1;refine Et C (a0:=4) (T:=136) 4 rfl vals Q _ o (λW eb hW hE=> ?_) w f;refine Ra C 136 a1 a2 0 0 0 0 0 0 0 0 W eb (AI.lt hE) ?_;have Aa:=(AI.alloc hE (.cells BN 28):CZ (W.alloc (.cells BN 28)) eb _);have Y:=ZG a1.toNat a2.toNat AA (W.alloc (.cells BN 28)) eb G j vals Aa d t (by omega) h3 h4;rw[t1,t2]at Y;exact Y
 exact
 {next:=λh b=>h.next C b
  away:=λh a n=>h.away C a n
  lt:=λh=>h.lt C
  ty:=λh=>h.ty C
  new:=λw f=>(u w f).mono λ_ _ l=>l.1
  put:=λw m O vals x h hi K hx hc=>JA C 261 V2 V5 (λvals x g t d hP=>g)
   (λw M O vals x h g hi K hx hc=>dZ a1.toNat a2.toNat (X vals g) w vals M O h hi (es K (by decide)) x hx hc) w m O vals x h hi K hx hc
  bytes:=λw m O vals h hi K=>by
   have Q:Me a1 a2 a3 a4 a5 a6 a7 a8 a9 a10 vals:=by obtain⟨_,_,_,_,g,_⟩:=h;exact g
   refine(IB w m 4 _ (FU C 296 V4 4 rfl Rb Ab q w m O vals h hi K)).mono λe w' l=> ?_;obtain⟨ld,rfl,hR,hB⟩:=l;exact⟨_,rfl,⟨ld,rfl,hR,Q⟩,hB⟩
  decode:=λw s vals f he hi K=>by
   obtain⟨ld,rfl,z,Q⟩:=he;exact p vals ld w f z Q hi K
  join:=λw m nb O N vals D h k i hi hj K=>G0 C 293 V3 TS (λvals D g g2=>g)
   (λw M ob O N vals D h k g g2 i hi hj K=>by
    have Y:=TT w M ob (Dv (Oz a1.toNat a2.toNat) w M O vals D) λW b=>(bN a1.toNat a2.toNat (X vals g) W vals D M ob O N (C.next h b) (C.next k b) i hi hj K).mono λe w' l=>by
     obtain⟨Z,O',rfl,t,d,h3⟩:=l;exact⟨⟨Z,rfl⟩,Z,O',rfl,t,λk hk=>(d k hk).imp id λe=>dT b.size e,(AD.of_below (F:=O) b).trans' h3 (λ_ _ h=>h) (λ_ _ h=>h)⟩
    exact Y) w m nb O N vals D h k i hi hj K}
end
theorem V7{D w w'}(h:Sp.Tens w)(a:AD (λk=>k=D) w w')(A:¬0=D):Sp.Tens w' :=
 ⟨by rw[a.cell (p:=⟨0,0,N⟩) h.lt A];exact h.c0,by rw[a.cell (p:=⟨0,1,N⟩) h.lt A];exact h.c1,by rw[a.cell (p:=⟨0,2,N⟩) h.lt A];exact h.c2,by rw[a.cell (p:=⟨0,3,N⟩) h.lt A];exact h.c3,by rw[a.cell (p:=⟨0,4,N⟩) h.lt A];exact h.c4⟩
theorem ZN{A w s}(h:Sp.Tens w)(e:CZ w A s):¬0=A:=λD=>by
 subst D
 have c:=AI.cell (j:=0) e rfl
 rw[h.c0]at c
 simp at c
theorem Nk(Z F):Cz (Kc Z F)where
 next:=λh b=>h.next b
 away:=λh c a=>by
  obtain⟨O,M,Q,X,v1,h,rfl⟩:=h
  exact⟨O,M,Q,X,v1,h.away c a,rfl⟩
 lt:=λh=>h.lt
 ty:=λh k Y f=>by
  obtain⟨O,M,Q,X,v1,h,rfl⟩:=h
  rcases Y with rfl|rfl|rfl|rfl|e|e
  ·exact⟨λA=>(h.blk.ne A (by decide)) rfl,λA=>(h.blk.ne A (by decide)) rfl,λA=>(h.blk.ne A (by decide)) rfl⟩
  ·obtain⟨d,K⟩:=h.pty
   exact⟨λA=>(K.ne A (by decide)) rfl,λA=>(K.ne A (by decide)) rfl,λA=>(K.ne A (by decide)) rfl⟩
  ·exact⟨λA=>(h.st0.blk.ne A (by decide)) rfl,λA=>(h.st0.blk.ne A (by decide)) rfl,λA=>(h.st0.blk.ne A (by decide)) rfl⟩
  ·exact⟨λA=>(h.st1.blk.ne A (by decide)) rfl,λA=>(h.st1.blk.ne A (by decide)) rfl,λA=>(h.st1.blk.ne A (by decide)) rfl⟩
  ·obtain⟨G,D⟩:=AJ h.st0.own e
   exact⟨λA=>(D.ne A (by decide)) rfl,λA=>(D.ne A (by decide)) rfl,λA=>(D.ne A (by decide)) rfl⟩
  ·obtain⟨G,D⟩:=AJ h.st1.own e
   exact⟨λA=>(D.ne A (by decide)) rfl,λA=>(D.ne A (by decide)) rfl,λA=>(D.ne A (by decide)) rfl⟩
def MO(dg lim zl zh z:Nat)(l0 l1:AL):List UInt8:=AK dg++(AK lim++(AK zl++(AK zh++(AK z++(Dc l0++(Dc l1++ []))))))
theorem V8(K A D F z)(G l1:AL):NT K A D F z G l1=MO K A D F z G l1:=by unfold NT MO;simp only[List.append_assoc,List.append_nil]
theorem dm(w)(ht:Sp.Tens w)(G D A z lo hi)(Z l1:AL)(vals:AM)(Y:BS (Fa D) vals=Z/\BS (hf1 D) vals=l1/\AY Fb vals=z/\DH vals=lo/\DI vals=hi)(h:CZ w G (MO D A (AX lo) (AX hi) z Z l1))(h1:1<=D)(h2:D<=4)(hl:A<=9223372036854775808)(p:Am lo)(q:Am hi)(hz:z<=9223372036854775807)
  (n:AT Z)(Fa:Bh Z)(m:∀x∈Z,x.1<4000000000000000000/\1<=x.2/\x.2<9223372036854775808)(A0:Z.length<=3000)(d:AT l1)(hf1:Bh l1)(i:∀x∈l1,x.1<4000000000000000000/\1<=x.2/\x.2<9223372036854775808)(Aw:l1.length<=3000)(hT:C6 Z l1 z<=9223372036854775807):
  C prog 51 #[P (S ⟨G,0,N⟩)] w (Hs (Ae 2 0 0 0 0 (D:Int) (A:Int) 0 0 0 0) 129 (Kc D (A:Int) vals) w G):=by
 have r0:=CN Z ⟨A0,n,λx hx=>by have:=m x hx;omega⟩;have r1:=CN l1 ⟨Aw,d,λx hx=>by have:=i x hx;omega⟩;have Av:=AC D (by omega);have BR:=AC A (by omega);have Bs:=AC (AX lo) (Ao lo p).2;have Bb:=AC (AX hi) (Ao hi q).2;have BQ:=AC z (by omega);unfold MO at h;have BA:=AI.lt h;have Al:B w.heap.size w (w.alloc (.cells #[I J 0,I U 0,I U 0,I J 0,I J 0,I J 0,I U 0,I J 0,I J 0,I J 0,I U 0] 28)):=Za;have E0:CZ (w.alloc (.cells #[I J 0,I U 0,I U 0,I J 0,I J 0,I J 0,I U 0,I J 0,I J 0,I J 0,I U 0] 28)) G _:=AI.alloc h _;have R0:AI (w.alloc (.cells #[I J 0,I U 0,I U 0,I J 0,I J 0,I J 0,I U 0,I J 0,I J 0,I J 0,I U 0] 28)) w.heap.size _ 28:=AI.newAt rfl;have a :=Bk _ G D 4 _ E0 h2 (by decide) (by simp only[Pa,RR];omega);have c:=Zh (Zi n (Zi Fa (Zi m (Zi d (Zi hf1 i)))));have HV:=Zh Y;have AA:=Zh ht;have Ap:=ZN ht h;clear h n Fa m d hf1 i Y ht;go_enter func51,ntmps51;go_wp2_with fail;refine a.mono ?_;rintro e w1 ⟨rfl,E1,A1⟩;have Aa:=DC _ G A 9223372036854775808 _ E1 hl (by decide) (by simp only[Pa,RR];omega);have R1:=R0.away A1 (by omega);have B1:=(AD.of_below (F:=λk=>k=G) Al).trans' A1 (λ_ _ h=>h) (λ_ _ h=>h)
 clear a E0 A1;go_wp2_with fail;refine Aa.mono ?_;rintro e w2 ⟨rfl,E2,A2⟩;have R2:=R1.away A2 (by omega);have B2:=B1.trans' A2 (λ_ _ h=>h) (λ_ _ h=>h);have Ax:=R2.lt;have S2:MM w G w2.heap.size (Ae 2 0 0 0 0 (D:Int) (A:Int) 0 0 0 0) _ (w2.alloc (.cells (Ae 2 0 0 0 0 (D:Int) (A:Int) 0 0 0 0) 28)):=⟨AI.alloc E2 _,AI.newAt rfl,R2.alloc _,B2.alloc _,by have:=AI.lt E2;omega,by omega,Ax⟩;have f:=DD _ G lo _ S2.eye p (by simp only[Pa,RR];omega);unfold Ae at f;clear Aa R1 R2 B1 B2 A2 E1 E2 R0 Al;go_wp2_with fail;refine f.mono ?_;rintro e w3 ⟨rfl,E3,A3⟩;have S3:=S2.look E3 A3;have u:=DD _ G hi _ S3.eye q (by simp only[Pa,RR];omega);clear f S2 E3 A3;go_wp2_with fail;refine u.mono ?_;rintro e w4 ⟨rfl,E4,A4⟩;have S4:=S3.look E4 A4;have t:=DC _ G z 9223372036854775807 _ S4.eye hz (by decide) (by simp only[Pa,RR];omega);clear u S3 E4 A4;generalize w2.heap.size=pb at S4⊢;go_wp2_with fail;refine t.mono ?_;rintro e w5 ⟨rfl,E5,A5⟩;have S5:=S4.look E5 A5;have Ab:=I7 w5 G 4096 Z _ S5.eye (by omega) (by decide) c.out.1 c.out.2.2.1 (by simp only[Pa,RR];omega);clear t S4 E5 A5;go_wp2_with fail;refine Ab.mono ?_;rintro e w6 ⟨u0,rfl,o0,E6,A6⟩;have S6:=S5.look E6 A6;have r:=I7 w6 G 4096 l1 [] S6.eye (by omega) (by decide) c.out.2.2.2.1 c.out.2.2.2.2.2 (by decide);have O0:=Zh (AO (base' :=0) o0 (λ_ _=>Q0 _))
 clear Ab S5 E6 A6 o0;go_wp2_with fail;refine r.mono ?_;rintro e o ⟨u1,rfl,o1,E7,A7⟩;have S7:=S6.look E7 A7;have Ar :=AU O0.out A7 (λg hg e=>by
  obtain⟨A9,hc⟩:=AJ O0.out hg;exact(hc.ne (show AI w6 G _ 153 from S6.eye) (by decide)) e)
 have c0:o.cell? ⟨pb,5,N⟩=S (I J D):=S7.cfg.cell rfl;have c1:o.cell? ⟨pb,6,N⟩=S (I U A):=S7.cfg.cell rfl;have X:Sp.Tens o:=V7 AA.out S7.away Ap;have Ac:=Y7 o X D (A:Int) Z l1 z lo hi u0 u1 Ar (AO (base' :=0) o1 (λ_ _=>Q0 _)) h1 h2 (by omega) (by omega) c.out.1 c.out.2.1 c.out.2.2.2.1 c.out.2.2.2.2.1 (by omega) (by omega) hT;have l:=Zh S7;clear r S6 E7 A7 o1 Ar O0 S7 X;go_wp2_with fail;refine Ac.mono ?_;rintro e M ⟨po,Q,rfl,b8,h8⟩;have K:=l.out.next b8;have k0:M.cell? ⟨pb,0,N⟩=S (I J 2):=K.cfg.cell rfl;have k1:M.cell? ⟨pb,1,N⟩=S (I U 0):=K.cfg.cell rfl;have k2:M.cell? ⟨pb,2,N⟩=S (I U 0):=K.cfg.cell rfl;have k3:M.cell? ⟨pb,3,N⟩=S (I J 0):=K.cfg.cell rfl;have k4:M.cell? ⟨pb,4,N⟩=S (I J 0):=K.cfg.cell rfl;have k5:M.cell? ⟨pb,5,N⟩=S (I J D):=K.cfg.cell rfl;have k6:M.cell? ⟨pb,6,N⟩=S (I U A):=K.cfg.cell rfl;have k7:M.cell? ⟨pb,7,N⟩=S (I J 0):=K.cfg.cell rfl;have k8:M.cell? ⟨pb,8,N⟩=S (I J 0):=K.cfg.cell rfl;have k9:M.cell? ⟨pb,9,N⟩=S (I J 0):=K.cfg.cell rfl;have Av:M.cell? ⟨pb,10,N⟩=S (I U 0):=K.cfg.cell rfl;obtain⟨⟨m0,m1,m2,m3,m4,m5,m6,m7,m8,m9,Ba⟩,⟨f0,f1,f2,f3,f4,f5,f6,f7,f8,f9,BX⟩⟩:=CU K.res;have A8:w.heap.size<o.heap.size:=l.out.res.lt;have O:=DO (a0:=2) (a1:=0) (a2:=0) (a3:=0) (a4:=0) (a5:=(D:Int)) (a6:=(A:Int)) (a7:=0) (a8:=0) (a9:=0) (a10:=0) K.res
 have b:=Zh (MN (Nk D (A:Int)) (vals:=vals) (T:=129) (po:=po) (ok:=(Q==0)) (a0:=2) (a1:=0) (a2:=0) (a3:=0) (a4:=0) (a5:=(D:Int)) (a6:=(A:Int)) (a7:=0) (a8:=0) (a9:=0) (a10:=0) K A8 (λhk=>by
  have hc:Q=0:=by simpa using hk
  obtain⟨hb,qb,s0,s1,v0,v1,rfl,HD,hO⟩:=h8 hc;obtain⟨x0,x1,x2,x3,x4⟩:=HV.out;exact⟨hb,_,rfl,⟨qb,s0,s1,v0,v1,by rw[x0,x1,x2,x3,x4];exact HD,rfl⟩,hO⟩))
 clear Ac K l c0 c1 h8;go_wp2_with fail;change bodyPost prog f51 (Hs (Ae 2 0 0 0 0 (D:Int) (A:Int) 0 0 0 0) 129 (Kc D (A:Int) vals) w G) Exit.ret _ (EZ M w.heap.size 2 0 0 0 0 (D:Int) (A:Int) 0 0 0 0);generalize EZ M w.heap.size 2 0 0 0 0 (D:Int) (A:Int) 0 0 0 0=WW at O b⊢;have c0:=O.cell (j:=0) rfl;have c1:=O.cell (j:=1) rfl;have c2:=O.cell (j:=2) rfl;have c3:=O.cell (j:=3) rfl;have c4:=O.cell (j:=4) rfl;have c5:=O.cell (j:=5) rfl;have c6:=O.cell (j:=6) rfl;have c7:=O.cell (j:=7) rfl;have c8:=O.cell (j:=8) rfl;have c9:=O.cell (j:=9) rfl;have Ay:=O.cell (j:=10) rfl;refine bodyPost_ret (v:=.tuple #[.agg (Ae 2 0 0 0 0 (D:Int) (A:Int) 0 0 0 0),.iface 129 (.agg #[P po]),.bool (Q==0)]) ?_ rfl b.out;simp[results,results51,go_sem,Ae,c0,c1,c2,c3,c4,c5,c6,c7,c8,c9,Ay]
end Go.Proofs.YtbejdajkkoapgaaGreatDoor
namespace Go.Proofs.YtbejdajkkoapgaaGreatDoor.Wd
open Sp (Drew)
abbrev u64(n:Nat):Value:=I U n
structure Ov(w0:World)(s hi lo y r0 r1 q0 q1:Nat)(W:World):Prop where
 below:B w0.heap.size w0 W
 base:w0.heap.size<=s
 a:AI W s #[I U hi,I U lo] 103
 d:AI W (s+1) #[I U 0,I U y] 103
 r:AI W (s+1+1) #[I U r0,I U r1] 103
 q:AI W (s+1+1+1) #[I U q0,I U q1] 103
namespace Ov
variable {w0 W W' :World} {s hi lo y r0 r1 q0 q1:Nat}
theorem next(h:Ov w0 s hi lo y r0 r1 q0 q1 W)(A:B W.heap.size W W'):Ov w0 s hi lo y r0 r1 q0 q1 W' :=
 ⟨h.below.trans (A.mono h.below.size),h.base,h.a.below A h.a.lt,h.d.below A h.d.lt,h.r.below A h.r.lt,h.q.below A h.q.lt⟩
theorem drew(h:Ov w0 s hi lo y r0 r1 q0 q1 W):Ov w0 s hi lo y r0 r1 q0 q1 W.drew:=⟨h.below.drew,h.base,h.a,h.d,h.r,h.q⟩
theorem cells(h:Ov w0 s hi lo y r0 r1 q0 q1 W):
  W.cell? ⟨s,0,N⟩=S (I U hi)/\W.cell? ⟨s,1,N⟩=S (I U lo)/\W.cell? ⟨s+1,0,N⟩=S (I U 0)/\W.cell? ⟨s+1,1,N⟩=S (I U y)/\
  W.cell? ⟨s+1+1,0,N⟩=S (I U r0)/\W.cell? ⟨s+1+1,1,N⟩=S (I U r1)/\W.cell? ⟨s+1+1+1,0,N⟩=S (I U q0)/\W.cell? ⟨s+1+1+1,1,N⟩=S (I U q1)/\
  W.frozen? ⟨s+1+1,0,N⟩=false/\W.frozen? ⟨s+1+1,1,N⟩=false/\W.frozen? ⟨s+1+1+1,0,N⟩=false/\W.frozen? ⟨s+1+1+1,1,N⟩=false:=
 ⟨h.a.cell rfl,h.a.cell rfl,h.d.cell rfl,h.d.cell rfl,h.r.cell rfl,h.r.cell rfl,h.q.cell rfl,h.q.cell rfl,h.r.frozen 0,h.r.frozen 1,h.q.frozen 0,h.q.frozen 1⟩
end Ov
end Go.Proofs.YtbejdajkkoapgaaGreatDoor.Wd
namespace Go.Proofs.YtbejdajkkoapgaaGreatDoor
theorem TW(w sb v i c t)(l:AL)(h:As w sb v ((i,c)::l))(q:1<=t)(b:t<=c)(a:AB ((i,c)::l)<=9223372036854775807):
  C prog 241 #[P (S ⟨sb,0,N⟩),I U t] w λe w' =>e=R (.tuple #[I J i,.bool true])/\w=w' :=by
 obtain⟨j,Y,K,f1,f⟩:=h.cells;have O:c<=AB ((i,c)::l):=by unfold AB;rw[AQ];simp
 generalize AB ((i,c)::l)=T at K a O;rcases AH h.own with⟨_,D,_⟩|⟨g,Q,M,A,G,_,m⟩
 ·simp at D
 ·subst M;have p:w.cell? ⟨g,0,N⟩=S (I J i):=by rw[h.own.cellAt 0 (by simp)];rfl
  have k:w.cell? ⟨g,1,N⟩=S (I U c):=by rw[h.own.cellAt 1 (by simp;omega)];rfl
  have D:0<((i,c)::l).length:=by simp
  generalize((i,c)::l).length=n at Y D A;have r:((t:Int)==0)=false:=by simp;omega
  have o:¬(T:Int)<(t:Int):=by omega
  have u:¬(c:Int)<(t:Int):=by omega
  clear h;have d:decide (T<t)=false:=by simp;omega
  go_enter func241,ntmps241;go_wp2;refine EH 0 (λF wr=>F ={tmps:= #[P (S ⟨sb,0,N⟩),I U t,undef,undef,I J 0,.bool false,I J 0,P (S ⟨sb,0,N⟩),.bool false,.bool false,I U t,.bool false,.bool false,.bool false,I U t,P (S ⟨sb,0,N⟩),P (S ⟨sb,0,N⟩),P (S ⟨sb,2,N⟩),I U T,.bool false,.bool false,undef,undef,undef,undef,undef,undef,undef,undef,undef,undef,undef,undef,undef,undef,undef,undef,undef,undef,undef,undef,undef,undef,undef,undef,undef,undef,undef,undef,undef,undef],defers:=[]}/\w=wr) (λ_ _=>0) rfl ?pass ?first
  case pass=>
   rintro F wr ⟨rfl,rfl⟩;go_wp2_with fail;simp only[Exit.jump];go_ret2;exact⟨rfl,rfl⟩
  case first=>
   intro Z;go_wp2;go_step3;rename_i X;exact X _ _ (Z _ _ ⟨rfl,rfl⟩)
theorem gC:Sp.repS (Sp.logD 1) 5=5:=by decide
theorem fA:Sg.valF 5 false=5/\Sg.canF 5 false=true:=by decide
theorem V9(w X Y K O Z v1)(h:Cm w X Y K O Z v1 1 0 [] [(5,2)] 0 5 5):
  C prog 240 #[P (S ⟨X,0,N⟩),I U 1] w λe w' =>e=R (I J 5)/\B w.heap.size w w' :=by
 obtain⟨p,r,a,d,o,g,l,k,c,i,j⟩:=h.cells;have Q:w.cell? ⟨K,2,N⟩=S (I U ((0:Nat):Int)):=h.st0.cells.2.2.1;have F:=Co w K 0 Q;have G:=λq=>TW (w.drewN q) O v1 5 2 1 [] (h.next (w' :=w.drewN q) ⟨rfl,rfl,rfl,E _,λ_ _=>rfl⟩).st1 (by decide) (by decide) (by decide);have D:=λq=>Sp.rep_any Y (Sp.logD 1) 5 (w.drewN q) (Sp.logD_le 1).2 (by simpa using h.span);rw[gC]at D;have A:=λW=>Sg.value_any 5 false W (by decide) (by decide);rw[fA.1,fA.2]at A;clear h Q;go_enter func240,ntmps240;go_wp2_with(go_at_call 94;refine F.mono ?_;rintro e b ⟨rfl,rfl⟩);go_quiet((go_at_call 241;refine C.quiet_of_same ((G _).mono λe w' M=>⟨M.1,M.2.symm⟩)));go_wp2_with fail;refine(D _).mono ?_;rintro e m ⟨rfl,n,rfl⟩;go_wp2_with fail;refine(A _).mono ?_;rintro e f ⟨rfl,rfl⟩;go_wp2_with fail;go_ret;exact⟨rfl,by first|exact⟨rfl,rfl,rfl,E _,λ_ _=>rfl⟩|exact B.refl _ _⟩
structure bW(w:World)(hb pb s0 s1:Nat)(v0 v1:V)(dg:Nat)(lim:Int)(l0 l1:AL)(z:Nat)(lo hi:Int)(b:Nat)(u0 u1:V)(W:World):Prop where
 hd:Cm W hb pb s0 s1 v0 v1 dg lim l0 l1 z lo hi
 below:B w.heap.size w W
 p0:W.cell? ⟨b,0,N⟩=S u0
 p1:W.cell? ⟨b,1,N⟩=S u1
theorem bW.next{w W W' K M O G Q v1 X D}{F l1:AL}{z lo hi b u0 u1}(h:bW w K M O G Q v1 X D F l1 z lo hi b u0 u1 W)(A :B W.heap.size W W'):bW w K M O G Q v1 X D F l1 z lo hi b u0 u1 W' :=
 ⟨h.hd.next A,h.below.trans (A.mono h.below.size),(A.cell (p:=⟨b,0,N⟩) (block_lt_of_cell (a:=⟨b,0,N⟩) h.p0)).trans h.p0,(A.cell (p:=⟨b,1,N⟩) (block_lt_of_cell (a:=⟨b,1,N⟩) h.p1)).trans h.p1⟩
theorem bW.drew{w W G K M F O v1 Q A}{D l1:AL}{z lo hi b u0 u1}(h:bW w G K M F O v1 Q A D l1 z lo hi b u0 u1 W):bW w G K M F O v1 Q A D l1 z lo hi b u0 u1 W.drew:=h.next (B.refl _ _).drew
theorem TX(w D G O K M v1)(h:Cm w D G O K M v1 1 0 [] [(5,2)] 0 5 5):
  Calls prog 237 #[P (S ⟨D,0,N⟩),.agg #[I U 1,I U 2]] w λe w' =>e=R (T #[I J 5,I J 0])/\B w.heap.size w w' :=by
 have H:bW w D G O K M v1 1 0 [] [(5,2)] 0 5 5 w.heap.size (I U 1) (I U 2) (w.alloc (.cells #[I U 1,I U 2] 25)):=
  ⟨h.next (Za),Za,(AI.new w _ _).cell rfl,(AI.new w _ _).cell rfl⟩
 have Y:=λW (k:Cm W D G O K M v1 1 0 [] [(5,2)] 0 5 5)=>Cf W D G O K M v1 1 0 [] [(5,2)] 0 5 5 k (by decide);have X:=λW=>Wd.place_any 1 2 2 W (by decide) (by decide) (by decide) (by decide) (by decide);have d:C6 [] [(5,2)] 0=2:=by decide
 have a:N7 1 2 2=1:=by decide
 rw[d]at Y;rw[a]at X;have Z:=λW (k:Cm W D G O K M v1 1 0 [] [(5,2)] 0 5 5)=>V9 W D G O K M v1 k;clear h d a;go_enter func237,ntmps237;go_upto_region 3 with fail;refine AG (C:=bW w D G O K M v1 1 0 [] [(5,2)] 0 5 5 w.heap.size (I U 1) (I U 2)) (by kernel_rfl) (by kernel_rfl) H.drew ?_;repeat go_big_quiet_step(exact λ_=>rfl)
 go_big_quiet_want;refine⟨.agg #[I U 1,I U 2],λF A=> ?_,?_⟩
 ·have q0:=A.p0;have q1:=A.p1;go_simp
 go_big_quiet_on;simp only[Jx,Zp,Zq,Zr];repeat go_big_quiet_step(exact λ_=>rfl)
 go_big_quiet_want;go_big_quiet_op;refine⟨I U 2,λF A=> ?_,?_⟩
 ·exact(Y F A.hd).mono λ_ _ Q=>⟨Q.1,A.next Q.2⟩
 go_big_quiet_on;repeat go_big_quiet_step(exact λ_=>rfl)
 go_big_quiet_want;go_big_quiet_op;refine⟨T #[I U 1,I J 0],λF A=> ?_,?_⟩
 ·exact(X F).mono λ_ _ Q=>⟨Q.1,A.next Q.2⟩
 go_big_quiet_on;repeat go_big_quiet_step(exact λ_=>rfl)
 refine wpQuiet_nil ?_;intro W1 b;clear H Y X;go_upto_region 6 with fail;refine AG (C:=bW w D G O K M v1 1 0 [] [(5,2)] 0 5 5 w.heap.size (I U 1) (I U 2)) (by kernel_rfl) (by kernel_rfl) b.drew ?_;repeat go_big_quiet_step(exact λ_=>rfl)
 go_big_quiet_want;go_big_quiet_op;refine⟨I J 5,λF A=> ?_,?_⟩
 ·exact(Z F A.hd).mono λ_ _ Q=>⟨Q.1,A.next Q.2⟩
 go_big_quiet_on;repeat go_big_quiet_step(exact λ_=>rfl)
 go_big_quiet_want;refine⟨I J 5,λF A=> ?_,?_⟩
 ·obtain⟨l,o,g,p,j,q,t,n,i,r,f⟩:=A.hd.cells;go_simp
 go_big_quiet_on;simp only[Jx,Zp,Zq,Zr];repeat go_big_quiet_step(exact λ_=>rfl)
 go_big_quiet_want;refine⟨I J 5,λF A=> ?_,?_⟩
 ·obtain⟨l,o,g,p,j,q,t,n,i,r,f⟩:=A.hd.cells;go_simp
 go_big_quiet_on;simp only[Jx,Zp,Zq,Zr];repeat go_big_quiet_step(exact λ_=>rfl)
 refine wpQuiet_nil ?_;intro u c;have m:=Zh c.below;clear b c Z;go_wp2_with fail;go_ret2;exact⟨rfl,m.out⟩
theorem Nl(w)(G:Sp.Tens w)(a1 a2 a3 a4 a5 a6 a7 a8 a9 a10)(b:0<=a6):
  C prog 30 #[.agg #[I J 2,I U a1,I U a2,I J a3,I J a4,I J a5,I U a6,I J a7,I J a8,I J a9,I U a10]] w (Gs 129 (λW m O=>Kc a5.toNat a6 [] W m O/\1<=a5/\a5<=4/\a6<=9223372036854775808) (1<=a5/\a5<=4/\a6<=9223372036854775808) w):=by
 have D:B w.heap.size w (w.alloc (.cells #[I J 2,I U a1,I U a2,I J a3,I J a4,I J a5,I U a6,I J a7,I J a8,I J a9,I U a10] 28)):=(B.refl _ w).alloc (E _) _;by_cases a:1<=a5/\a5<=4/\a6<=9223372036854775808
 ·obtain⟨r,p,c⟩:=a;obtain⟨d,rfl⟩:∃d:Nat,a5=(d:Int):=⟨a5.toNat,by omega⟩;have F:=Ts _ (G.next D) d a6 (by omega) (by omega) b c;clear G b;go_enter func30,ntmps30;go_wp2_with fail;refine F.mono ?_;rintro e i ⟨f,n,q,o,rfl,Q,M,X,Y,K,A⟩;have l:=Zh (Zi Q (Zi A (Zi M (Zi X (Zi Y K)))));clear F Q A M X Y K;go_wp2_with fail;go_ret2;obtain⟨Q,A,M,X,Y,K⟩:=l.out;have Z:(w.alloc (.cells #[I J 2,I U a1,I U a2,I J a3,I J a4,I J d,I U a6,I J a7,I J a8,I J a9,I U a10] 28)).heap.size=w.heap.size+1:=by simp
  rw[Z]at M X Y K;refine⟨_,0,rfl,D.trans (A.mono D.size),λ_=>⟨f,_,rfl,⟨by rw[ej];exact aS Q,by omega,by omega,c⟩,?_⟩,λ_=>rfl⟩;rintro k (rfl|rfl|rfl|rfl|e|e)
  ·omega
  ·omega
  ·omega
  ·omega
  ·simp[V.ownBlock]at e
  ·simp[V.ownBlock]at e
 ·have F:=QK _ (G.next D) a5 a6 (by omega);have g:=Zh a;clear G b a;go_enter func30,ntmps30;go_wp2_with fail;refine F.mono ?_;rintro e i ⟨rfl,A⟩;have j:=Zh (D.trans (A.mono D.size));clear F A;go_wp2_with fail;go_ret2;exact⟨_,1,rfl,j.out,λh=>absurd h (by decide),λh=>absurd h g.out⟩
section
variable {a0 a1 a2 a3 a4 a5 a6 a7 a8 a9 a10:Int}
theorem Jl{w A T D}(h:AI w A (Xp a0 a1 a2 a3 a4 a5 a6 a7 a8 a9 a10 T D) 76):w.cell? ⟨A,0,N⟩=S (I J a0)/\w.cell? ⟨A,11,N⟩=S (.iface T (.agg #[P (S ⟨D,0,N⟩)]))/\A<w.heap.size:=⟨h.cell rfl,h.cell rfl,h.lt⟩
def fB(Q:Ending->W->Prop)(e:Ending)(w:W):Prop:=Q e w
theorem bX(w G D)(h:AI w G (Xp a0 a1 a2 a3 a4 a5 a6 a7 a8 a9 a10 129 D) 76)(x c Q)(F:C prog 236 #[P (S ⟨D,0,N⟩),I J x,I U c] w λe w' =>(∃A,e=R (I J A))/\Q e w'):
  C prog 18 #[P (S ⟨G,0,N⟩),I J x,I U c] w (fB Q):=by
 obtain⟨O,X,Y⟩:=Jl h;have Z:=Mu D;clear h;go_enter func18,ntmps18;go_wp2_with fail;refine F.mono ?_;rintro e M ⟨⟨A,rfl⟩,H⟩;have K:=Zh H;clear H F;go_wp2_with fail;go_ret;exact K.out
theorem WA(w)(M A:Nat)(h:AI w M (Xp a0 a1 a2 a3 a4 a5 a6 a7 a8 a9 a10 129 A) 76)(T:Nat)(F:∀W,B w.heap.size w W->C prog 95 #[P (S ⟨A,0,N⟩)] W λe w' =>e=R (I U T)/\B W.heap.size W w'):
  C prog 20 #[P (S ⟨M,0,N⟩)] w λe w' =>e=R (I U T)/\B w.heap.size w w' :=by
 obtain⟨Q,X,a⟩:=Jl h;have Y:=QI A;have K:B w.heap.size w (w.alloc (.cells #[P (S ⟨A,0,N⟩)] 129)):=(B.refl _ w).alloc (E _) _;have G:=F _ K;have Z:C prog 244 #[.agg #[P (S ⟨A,0,N⟩)]] w λe w' =>e=R (I U T)/\B w.heap.size w w' :=by
  clear h Y Q X F;go_enter func244,ntmps244;go_wp2_with(go_at_call 95;refine G.mono ?_;rintro e O ⟨rfl,D⟩);go_ret;exact⟨rfl,K.trans (D.mono (by simp))⟩
 clear h G F;go_enter func20,ntmps20;go_wp2_with(go_at_call 244;refine Z.mono ?_;rintro e O ⟨rfl,D⟩);go_ret;exact⟨rfl,D⟩
theorem WB(w K F)(h:AI w K (Xp a0 a1 a2 a3 a4 a5 a6 a7 a8 a9 a10 129 F) 76)(num den x)(G:∀W,B w.heap.size w W->C prog 237 #[P (S ⟨F,0,N⟩),.agg #[I U num,I U den]] W λe w' =>e=R (T #[I J x,I J 0])/\B W.heap.size W w'):
  C prog 12 #[P (S ⟨K,0,N⟩),.agg #[I U num,I U den]] w λe w' =>e=R (T #[I J x,I J 0])/\B w.heap.size w w' :=by
 have A:B w.heap.size w (w.alloc (.cells #[I U num,I U den] 25)):=Za;obtain⟨Q,X,Y⟩:=Jl h;have Z:=QH F;have D:=G _ A.drew;clear h G;go_enter func12,ntmps12;go_upto_region 3 with fail;go_region_with(go_at_call 237;refine D.mono ?_;rintro e O ⟨rfl,M⟩);all_goals(go_wp2_with fail)
 all_goals go_ret2
 all_goals(exact⟨rfl,A.drew.trans (M.mono (by simp))⟩)
end
structure fQ(w:World)(kb hb pb s0 s1:Nat)(v0 v1:V)(W:World):Prop where
 blk:AI W kb (Xp 2 0 0 0 0 1 0 0 0 0 0 129 hb) 76
 hd:Cm W hb pb s0 s1 v0 v1 1 0 [] [(5,2)] 0 5 5
 below:B w.heap.size w W
theorem fQ.next{w F G M A D K v1 W W'}(h:fQ w F G M A D K v1 W)(b:B W.heap.size W W'):fQ w F G M A D K v1 W' :=⟨h.blk.below b h.blk.lt,h.hd.next b,h.below.trans (b.mono h.below.size)⟩
theorem EF(w)(ht:Sp.Tens w):C prog 6 #[] w λe w' =>e=R (.bool true)/\B w.heap.size w w' :=by
 have G:=(OJ w 2 0 0 0 0 1 0 0 0 0 0 129 (λW K O=>Kc 1 0 [] W K O/\(1:Int)<=1/\(1:Int)<=4/\(0:Int)<=9223372036854775808) ((1:Int)<=1/\(1:Int)<=4/\(0:Int)<=9223372036854775808) (λW W' K O X A=>⟨X.1.next A,X.2⟩) (λW K O X=>X.1.lt) λW A=>Nl W (ht.next A) 0 0 0 0 1 0 0 0 0 0 (by decide)).mono
  (λe w' (p:eM _ _ _ _ _ _ _ _ _ _ _ _ _ _ _ _ _)=>show∃F K O,e=R (T #[P (S ⟨F,0,N⟩),I J 0])/\AI w' F (Xp 2 0 0 0 0 1 0 0 0 0 0 129 K) 76/\Kc 1 0 [] w' K O/\(∀k,O k->w.heap.size<=k/\k<F)/\B w.heap.size w w' from by
   obtain⟨po,D,l,A,h0,h1⟩:=p;have v:D=0:=h1 (by decide) (by decide);subst v;obtain⟨_,F,K,O,rfl,q,X,hO,_⟩:=h0 rfl;exact⟨F,K,O,l,q,X.1,hO,A⟩)
 clear ht;go_enter func6,ntmps6;go_wp2_with fail;refine G.mono ?_;rintro e z ⟨F,A,O,rfl,r,V1,u,n⟩;have M:=Tw z 1 0 (by decide) [] A O V1 (λx hx=>by cases hx) (by decide) (5,2) (by unfold Am;decide) (by decide);have h:=bX z F A r 5 2 (λe w' =>e=R (I J 0)/\∃Z Y a c v1,fQ w F A Z Y a c v1 w') (M.mono λe w' p=>by
  obtain⟨D,O',l,v,hv,AA,g⟩:=p;have hp:VA 0 (5,2)=true:=by decide
  have o:=v.2 hp;rw[hp,if_pos rfl]at hv;obtain⟨Z,Y,a,c,v1,hd,_⟩:=hv;refine⟨⟨D,l⟩,by rw[l,o],Z,Y,a,c,v1,r.away g ?_,hd,n.trans (g.below n.size λk hk e=>by have:=u k e;omega)⟩;intro e;have:=(u F e).2;omega)
 clear G M V1 u r n;go_wp2_with fail;refine h.mono ?_;rintro e w2 ⟨rfl,Z,Y,a,c,v1,m⟩;have d:=WB w2 F A m.blk 1 2 5 λW b=>TX W A Z Y a c v1 (m.hd.next b);have i:=Zh m;clear h m;go_wp2_with fail;refine d.mono ?_;rintro e w3 ⟨rfl,b3⟩;have j:=i.out.next b3;have f:=WA w3 F A j.blk 2 λW b=>Cf W A Z Y a c v1 1 0 [] [(5,2)] 0 5 5 (j.hd.next b) (by decide);have Q:=Zh j.below;clear d b3 j i;go_wp2_with fail;refine f.mono ?_;rintro e w4 ⟨rfl,b4⟩;have t:=Zh (Q.out.trans (b4.mono Q.out.size));clear f b4 Q;go_wp2_with fail;go_ret;exact⟨rfl,t.out⟩
open Go.RowKit Go.Lib Go.ChangeShapes Go.WideShapes
theorem PK{W}(h:laidMetH prog Rows.coreNodesRow.laid W):Sp.Tens W:=by
 rw[MakeChecks.laidMetH_plain _ _ _ (by kernel_rfl)]at h;obtain⟨u,⟨q,j,M,f0,z,q0,D,O,a,Q,_,_⟩,_,_⟩:=h;obtain rfl:q=0:=fj (D.symm.trans (by kernel_rfl));obtain rfl:j=223:=fj (O.symm.trans (by kernel_rfl));obtain⟨G,v,hN,Z,c,t,K⟩:=DataW.trod_array underlying223 Q;have X:prog.cellsOf 23=1:=by kernel_rfl
 have Y:=(Prod.mk.inj Z).1;have F:G.map (λx=>x.1)=[.lit (.int U 1),.lit (.int U 10),.lit (.int U 100),.lit (.int U 1000),.lit (.int U 10000)]:=(DataW.agg.inj Y).symm;have A:∀(i:Nat) (n:Int),i<5->(G.map (λx=>x.1))[i]?=S (.lit (.int U n))->W.cell? ⟨0,i,N⟩=S (I U n):=by
  intro i n hi b;have f:=K i hi;obtain⟨x,d⟩:∃x,G[i]?=S x:=⟨G[i],List.getElem?_eq_getElem (by omega)⟩;rw[X,Nat.mul_one,d]at f;obtain⟨k,m,g,_⟩:=DataW.trod_int underlying23 f;rw[List.getElem?_map,d]at b;have p:k=n:=by rw[g]at b;simpa using b
  subst p;have e:=World.var?_cell D a i;have o:M[i]?=S (I U k):=by
   have r:=congrArg (λl=>l[0]?) m;simpa[List.getElem?_take,List.getElem?_drop]using r
  rw[o]at e;simpa using e
 refine⟨A 0 1 (by decide) ?_,A 1 10 (by decide) ?_,A 2 100 (by decide) ?_,A 3 1000 (by decide) ?_,A 4 10000 (by decide) ?_⟩<;>rw[F]<;>rfl
theorem ZO:prog.cellsOf 28=11:=by kernel_rfl
theorem bY:prog.cellsOf 22=1:=by kernel_rfl
theorem PL:prog.cellsOf 23=1:=by kernel_rfl
theorem bZ:prog.cellsOf 25=2:=by kernel_rfl
theorem be:prog.cellsOf 26=1:=by kernel_rfl
theorem dn:prog.cellsOf 2=1:=by kernel_rfl
theorem ZP:prog.cellsOf 3=1:=by kernel_rfl
theorem dp:prog.cellsOf 4=1:=by kernel_rfl
theorem bf:prog.cellsOf 35=1:=by kernel_rfl
theorem bg:prog.cellsOf 55=2:=by kernel_rfl
theorem bi:prog.cellsOf 59=2:=by kernel_rfl
section
variable {H:Type} {enc:TypeId×V->H} {w:W} {base:Nat} {spare:Nat->Bool} {held:Bool}
theorem CD{n t}{k:IntKind}{v}{y:Option (DataW H×List MemPlace)}(F:prog.underlying t=S (.int k))(h:DataW.trod enc prog w base spare held n t [v]=y)(A:y.isSome=true):∃a,v=I k a/\(Lit.int k a).wf=true:=by
 obtain⟨x,rfl⟩:=Option.isSome_iff_exists.1 A;obtain⟨a,D,_,G⟩:=DataW.trod_int F h;exact⟨a,by simpa using D,G⟩
theorem ZQ{r:Reach}{b0 v}{d:DataW H}{p:List MemPlace}(hv:V.okWide prog w r b0 28 v)(h:DataW.Trod enc prog w base spare held 28 v d p):
  ∃a0 a1 a2 a3 a4 a5 a6 a7 a8 a9 a10:Int,v=.agg #[I J a0,I U a1,I U a2,I J a3,I J a4,I J a5,I U a6,I J a7,I J a8,I J a9,I U a10]/\
   (Lit.int J a0).wf=true/\(Lit.int U a1).wf=true/\(Lit.int U a2).wf=true/\(Lit.int J a3).wf=true/\(Lit.int J a4).wf=true/\(Lit.int J a5).wf=true/\(Lit.int U a6).wf=true/\(Lit.int J a7).wf=true/\(Lit.int J a8).wf=true/\(Lit.int J a9).wf=true/\(Lit.int U a10).wf=true:=by
 have K:prog.underlying 28=S (.struct (prog.fieldsOf 28)):=by rw[Iy,underlying28]
 have O:prog.underlying 25=S (.struct (prog.fieldsOf 25)):=by rw[Fr,underlying25]
 obtain⟨cs,rfl,X⟩:=okWide_struct K hv;obtain⟨l⟩:=cs
 match l,X.trans ZO with
 | [c0,c1,c2,c3,c4,c5,c6,c7,c8,c9,c10],_=>
  obtain⟨fuel,hf⟩:=h;obtain⟨q,n,_,hx,_,D,A⟩:=DataW.trod_struct K hf;rw[Iy]at D A;have D:q.length=10:=D;have F:∀i,i<10->(q[i]?).isSome=true:=λi hi=>by simp;omega
  have f:=A 0 {name:= "Kind",type:=22,offset:=0,embedded:=false,tag:= "",pkgPath:= "",byteOffset:=0} rfl;have Y:=A 1 {name:= "Part",type:=25,offset:=1,embedded:=false,tag:= "",pkgPath:= "",byteOffset:=8} rfl;have e:=A 2 {name:= "Side",type:=26,offset:=3,embedded:=false,tag:= "",pkgPath:= "",byteOffset:=24} rfl;have x:=A 3 {name:= "Most",type:=3,offset:=4,embedded:=false,tag:= "",pkgPath:= "",byteOffset:=32} rfl;have o:=A 4 {name:= "Digits",type:=3,offset:=5,embedded:=false,tag:= "",pkgPath:= "",byteOffset:=40} rfl;have t:=A 5 {name:= "Limit",type:=23,offset:=6,embedded:=false,tag:= "",pkgPath:= "",byteOffset:=48} rfl;have b:=A 6 {name:= "Depth",type:=3,offset:=7,embedded:=false,tag:= "",pkgPath:= "",byteOffset:=56} rfl;have j:=A 7 {name:= "Factor",type:=3,offset:=8,embedded:=false,tag:= "",pkgPath:= "",byteOffset:=64} rfl;have k:=A 8 {name:= "Width",type:=3,offset:=9,embedded:=false,tag:= "",pkgPath:= "",byteOffset:=72} rfl;have c:=A 9 {name:= "Word",type:=23,offset:=10,embedded:=false,tag:= "",pkgPath:= "",byteOffset:=80} rfl;simp only[bY,bZ,be,ZP,PL,V.cells,bh,bw,ag,aw]at f Y e x o t b j k c;obtain⟨a0,rfl,w0⟩:=CD underlying22 f (F 0 (by decide));obtain⟨a3,rfl,w3⟩:=CD underlying26 e (F 2 (by decide));obtain⟨a4,rfl,z⟩:=CD underlying3 x (F 3 (by decide));obtain⟨a5,rfl,w5⟩:=CD underlying3 o (F 4 (by decide))
  obtain⟨a6,rfl,w6⟩:=CD underlying23 t (F 5 (by decide));obtain⟨a7,rfl,w7⟩:=CD underlying3 b (F 6 (by decide));obtain⟨a8,rfl,w8⟩:=CD underlying3 j (F 7 (by decide));obtain⟨a9,rfl,w9⟩:=CD underlying3 k (F 8 (by decide));obtain⟨a10,rfl,Z⟩:=CD underlying23 c (F 9 (by decide));obtain⟨y,hy⟩:=Option.isSome_iff_exists.1 (F 1 (by decide));rw[hy]at Y;obtain⟨u,m,_,_,_,G,Q⟩:=DataW.trod_struct O Y;rw[Fr]at G Q;have G:u.length=2:=G;have M:∀i,i<2->(u[i]?).isSome=true:=λi hi=>by simp;omega
  have g:=Q 0 {name:= "Num",type:=23,offset:=0,embedded:=false,tag:= "",pkgPath:= "",byteOffset:=0} rfl;have a:=Q 1 {name:= "Den",type:=23,offset:=1,embedded:=false,tag:= "",pkgPath:= "",byteOffset:=8} rfl;simp only[PL,bh,bw,ag,aw]at g a;obtain⟨a1,rfl,w1⟩:=CD underlying23 g (M 0 (by decide));obtain⟨a2,rfl,w2⟩:=CD underlying23 a (M 1 (by decide));exact⟨a0,a1,a2,a3,a4,a5,a6,a7,a8,a9,a10,rfl,w0,w1,w2,w3,z,w5,w6,w7,w8,w9,Z⟩
theorem ZR{a}(h:(Lit.int J a).wf=true):Am a:=by have:=bounds_i64 h;unfold Am;omega
theorem WC{n v}{x:DataW H×List MemPlace}(h:DataW.trod enc prog w base spare held n 35 [v]=S x):∃l:AM,IF w v l/\∀x∈l,Am x.1:=by
 rcases Deep.open_slice_pairs (f0:={name:= "X",type:=2,offset:=0,embedded:=false,tag:= "",pkgPath:= "",byteOffset:=0}) (f1:={name:= "N",type:=23,offset:=1,embedded:=false,tag:= "",pkgPath:= "",byteOffset:=8}) underlying35 underlying59 bi rfl rfl dn PL h with⟨K,_⟩|⟨a,A,Q,m,n,g,j,D0,z,P0,P1,K,hb,hl,hm,e,M,hi⟩
 ·simp only[V0,and_true]at K;exact⟨[],⟨Q0 _,.inl ⟨rfl,none,0,K⟩⟩,λx M=>by cases M⟩
 ·simp only[V0,and_true]at K;have u:A<=m:=by rw[e];split<;>omega
  by_cases q:A=0
  ·subst q;exact⟨[],⟨Q0 _,.inl ⟨rfl,_,Q,K⟩⟩,λx M=>by cases M⟩
  obtain⟨b,o,O⟩:=a;have F:O=none:=W.cell?_spot (hi 0 (by omega)).1;subst F;have Y:∀i,i<A->∃X N:Int,g i=I J X/\j i=I U N/\(Lit.int J X).wf=true/\(Lit.int U N).wf=true:=λi D=>by
   obtain⟨_,_,r,t⟩:=hi i (by omega);obtain⟨X,G,w0⟩:=CD underlying2 r rfl;obtain⟨N,Z,d⟩:=CD underlying23 t rfl;exact⟨X,N,G,Z,w0,d⟩
  let f:Nat->Int×Nat:=λi=>((match g i with| I _ X=>X|_=>0),(match j i with| I _ y=>y.toNat|_=>0))
  have p:∀i,i<A->g i=I J (f i).1/\j i=I U ((f i).2:Nat)/\Am (f i).1:=λi D=>by
   obtain⟨X,N,G,Z,w0,d⟩:=Y i D;have:=bounds_u64 d;refine⟨by simp only[f,G],?_,by simp only[f,G];exact ZR w0⟩;simp only[f,Z];rw[show((N.toNat:Nat):Int)=N by omega]
  refine⟨(fk A).map f,⟨by simp;omega,.inr ⟨b,o,Q,by simpa using K,?_,λi h=> ?_⟩⟩,λx M=> ?_⟩
  ·exact block_lt_of_cell (hi 0 (by omega)).1
  ·have D:i<A:=by simpa using h
   obtain⟨k,c,_,_⟩:=hi i (by omega);obtain⟨G,Z,_⟩:=p i D;rw[fa]at k c;simp only[fp,fw];rw[G]at k;rw[Z]at c;exact⟨k,c⟩
  ·obtain⟨i,hi',rfl⟩:=List.mem_map.1 M;exact(p i (List.mem_range.1 hi')).2.2
theorem Rd{n v}{x:DataW H×List MemPlace}(h:DataW.trod enc prog w base spare held n 29 [v]=S x):∃L:DG,Dd w v L/\∀x∈L,∀y∈x.1,Am y.1:=by
 rcases Deep.open_slice_pairs (f0:={name:= "Vals",type:=35,offset:=0,embedded:=false,tag:= "",pkgPath:= "",byteOffset:=0}) (f1:={name:= "Bytes",type:=4,offset:=1,embedded:=false,tag:= "",pkgPath:= "",byteOffset:=24}) underlying29 underlying55 bg rfl rfl bf dp h with⟨F,_⟩|⟨a,A,O,m,n,c,r,D0,D1,P0,P1,F,hb,g,hm,Z,G,hi⟩
 ·simp only[V0,and_true]at F;exact⟨[],⟨Q0 _,.inl ⟨rfl,N,0,F⟩⟩,λx G=>by cases G⟩
 ·simp only[V0,and_true]at F;have z:A<=m:=by rw[Z];split<;>omega
  by_cases k:A=0
  ·subst k;exact⟨[],⟨Q0 _,.inl ⟨rfl,_,O,F⟩⟩,λx G=>by cases G⟩
  obtain⟨b,o,M⟩:=a;have D:M=none:=W.cell?_spot (hi 0 (by omega)).1;subst D;have X:∀i,i<A->∃q:AM×Bool,IF w (c i) q.1/\(∀y∈q.1,Am y.1)/\r i=.bool q.2:=λi K=>by
   obtain⟨_,_,t,u⟩:=hi i (by omega);obtain⟨l,g,Q⟩:=WC t;obtain⟨q,p,_⟩:=DataW.trod_bool underlying4 u;exact⟨(l,q),g,Q,by simpa using p⟩
  obtain⟨f,e⟩:=Deep.choose_lt X;refine⟨(fk A).map f,⟨by simp;omega,.inr ⟨b,o,O,by simpa using F,?_,λi h=> ?_⟩⟩,λx G=> ?_⟩
  ·exact block_lt_of_cell (hi 0 (by omega)).1
  ·have K:i<A:=by simpa using h
   obtain⟨d,Y,_,_⟩:=hi i (by omega);obtain⟨j,_,e1⟩:=e i K;rw[fa]at d Y;simp only[fp,fw];rw[e1]at Y;exact⟨c i,d,Y,j⟩
  ·obtain⟨i,hi',rfl⟩:=List.mem_map.1 G;exact(e i (List.mem_range.1 hi')).2.1
theorem TY{n v}{x:DataW H×List MemPlace}(h:DataW.trod enc prog w base spare held n 30 [v]=S x):∃K:List Int,DF w v K:=by
 rcases open_ints underlying30 underlying3 ZP h with⟨M,_⟩|⟨a,A,X,K,M,f,e,j,G,g,Y,Z⟩
 ·simp only[V0,and_true]at M;exact⟨[],Q0 _,(λz G=>by cases G),.inl ⟨rfl,N,0,M⟩⟩
 ·simp only[V0,and_true]at M;have c:A<=K.length:=by rw[G];split<;>omega
  by_cases d:A=0
  ·subst d;exact⟨[],Q0 _,(λz G=>by cases G),.inl ⟨rfl,_,X,M⟩⟩
  obtain⟨b,o,O⟩:=a;have D:O=none:=by have:=W.cell?_spot (Y 0 (by omega));simpa[Addr.add]using this
  subst D;have F:(K.take A).length=A:=by simp;omega
  refine⟨K.take A,by rw[F];omega,λz G=>ZR (Z z (List.mem_of_mem_take G)),.inr ⟨b,o,X,by rw[F];exact M,?_,λi hi=> ?_⟩⟩
  ·have:=block_lt_of_cell (Y 0 (by omega));simpa[Addr.add]using this
  ·have Q:i<K.length:=by rw[F]at hi;omega
   have:=Y i Q;rw[fa]at this;rw[fx,this,List.getD_eq_getElem?_getD,List.getElem?_eq_getElem Q];rfl
end
structure fC(cv:Array V)(Sk:World->Nat->(Nat->Prop)->AM->Prop)(Enc:List UInt8->AM->Prop)(P:Int×Nat->Bool):Prop extends Kind cv Sk Enc P where
 uniq:∀{s t:List UInt8} {l m:AM},Enc s l->Enc t m->l.Perm m->s=t
 again:∀{w:World} {kb:Nat} {O:Nat->Prop} {vals:AM},Sk w kb O vals->∀W,Sp.Tens W->C prog 17 #[.agg cv] W λe w' =>∃kb O,e=R (T #[.pointer (S ⟨kb,0,N⟩),I J 0])/\B W.heap.size W w' /\Sk w' kb O []/\∀k,O k->W.heap.size<=k
 putL:∀(w:World) (kb:Nat) (O:Nat->Prop) (vals:AM) (x:Int×Nat),Sk w kb O vals->DK vals->vals.length<360->Am x.1->x.2<=20->C prog 18 #[.pointer (S ⟨kb,0,N⟩),I J x.1,I U (x.2:Nat)] w (Ux Sk P w kb O vals x)
section
variable {Sk:W->Nat->(Nat->Prop)->AM->Prop} {Enc:List UInt8->AM->Prop} {P:Int×Nat->Bool} {a0 a1 a2 a3 a4 a5 a6 a7 a8 a9 a10:Int}
end
theorem WD{Q:GX}(C:Cz Q){vals:AM}(T b X G F Y a K Z O A w c)(f:c<w.heap.size)(k:Calls prog 51 #[P (S ⟨c,0,N⟩)] (w.alloc (.cells BN 28)) (Hs (Ae 2 b X G F Y a K Z O A) T (Q vals) (w.alloc (.cells BN 28)) c)):
  Calls prog 33 #[I J 2,P (S ⟨c,0,N⟩)] w (Hs (Ae 2 b X G F Y a K Z O A) T (Q vals) w c):=by
 have d:AI (w.alloc (.cells BN 28)) w.heap.size BN 28:=AI.newAt rfl;have n:=Zh d;clear d;unfold BN at k;go_enter func33,ntmps33;go_wp2_with fail;refine k.mono ?_;rintro e l ⟨ok,po,rfl,g,o,m⟩;have d:=n.out;unfold BN at d;have i:=d.away g (by omega);obtain⟨⟨m0,m1,m2,m3,m4,m5,m6,m7,m8,m9,AA⟩,⟨f0,f1,f2,f3,f4,f5,f6,f7,f8,f9,q⟩⟩:=CU i;have D:=DO (a0:=2) (a1:=b) (a2:=X) (a3:=G) (a4:=F) (a5:=Y) (a6:=a) (a7:=K) (a8:=Z) (a9:=O) (a10:=A) i;have M:=Zh (Hs.on C (a0:=2) (a1:=b) (a2:=X) (a3:=G) (a4:=F) (a5:=Y) (a6:=a) (a7:=K) (a8:=Z) (a9:=O) (a10:=A) (T:=T) f g o m);clear k g o m i d n;unfold Ae;go_wp2_with fail;change bodyPost prog f33 (Hs (Ae 2 b X G F Y a K Z O A) T (Q vals) w c) Exit.ret _ (EZ l w.heap.size 2 b X G F Y a K Z O A);generalize EZ l w.heap.size 2 b X G F Y a K Z O A=WW at D M⊢;have u:=D.cell (j:=0) rfl;have x:=D.cell (j:=1) rfl;have z:=D.cell (j:=2) rfl;have c3:=D.cell (j:=3) rfl;have c4:=D.cell (j:=4) rfl;have c5:=D.cell (j:=5) rfl;have c6:=D.cell (j:=6) rfl;have t:=D.cell (j:=7) rfl;have p:=D.cell (j:=8) rfl;have r:=D.cell (j:=9) rfl;have h:=D.cell (j:=10) rfl;refine bodyPost_ret (v:=.tuple #[.agg (Ae 2 b X G F Y a K Z O A),.iface T (.agg #[P po]),.bool ok]) ?_ rfl M.out;simp[results,results33,go_sem,Ae,u,x,z,c3,c4,c5,c6,t,p,r,h]
theorem WE(args w):(callFunc 236 args).run prog w=.ok (.enter 236 args) w:=by kernel_rfl
theorem WF(args w):(callFunc 242 args).run prog w=.ok (.enter 242 args) w:=by kernel_rfl
theorem WG(args w):(callFunc 245 args).run prog w=.ok (.enter 245 args) w:=by kernel_rfl
section
variable {a1 a2 a3 a4 a5 a6 a7 a8 a9 a10:Int}
def WH(a1 a2 a3 a4 a5 a6 a7 a8 a9 a10:Int)(vals:AM):Prop:=(a1=0/\a2=0/\a3=0/\a4=0/\a7=0/\a8=0/\a9=0/\a10=0)/\(1<=a5/\a5<=4/\0<=a6/\a6<=9223372036854775808)/\∀x∈vals,Am x.1/\VA a6 x=true
def ZS(a5 a6:Int)(vals:AM):List UInt8:=NT a5.toNat a6.toNat (AX (DH vals)) (AX (DI vals)) (AY Fb vals) (BS (Fa a5.toNat) vals) (BS (hf1 a5.toNat) vals)
theorem Re:Df 2 a1 a2 a3 a4 a5 a6 a7 a8 a9 a10 2 (By 2 a1) (By 2 a2) (Dg 2 a3) (Dh 2 a4) (Bz 2 a5) (Bz 2 a6) (B6 2 a7) (B6 2 a8) (B7 2 a9) (B7 2 a10)=true↔a1=0/\a2=0/\a3=0/\a4=0/\a7=0/\a8=0/\a9=0/\a10=0:=by
 have D:∀a,By 2 a=0:=λa=>Bd (by decide);have K:∀a,Dg 2 a=0:=λa=>Bd (by decide);have M:∀a,Dh 2 a=0:=λa=>Bd (by decide);have A:∀a,Bz 2 a=a:=λa=>Ek (by decide);have F:∀a,B6 2 a=0:=λa=>Bd (by decide);have G:∀a,B7 2 a=0:=λa=>Bd (by decide);rw[D,D,K,M,A,A,F,F,G,G];unfold Df;simp[and_assoc]
theorem WH.inP{vals:AM}(h:WH a1 a2 a3 a4 a5 a6 a7 a8 a9 a10 vals)(hi:DK vals):Ia vals:=λx A=>⟨(h.2.2 x A).1,((Iz a6 x).1 (h.2.2 x A).2).1,(hi x A).2⟩
theorem PM{A x}(D:Am x){i}(h:Fa A x=S i):i<=1064960:=by
 unfold Fa at h;split at h
 ·injection h with h;rw[<-h];exact(OF A x D (by omega)).2.2
 ·cases h
theorem PN{A x}(D:Am x){i}(h:hf1 A x=S i):i<=1064960:=by
 unfold hf1 at h;split at h
 ·injection h with h;rw[<-h];exact(OF A x D (by omega)).2.2
 ·cases h
theorem DE(f)(F:∀x,Am x->∀i,f x=S i->i<=1064960){vals:AM}(h:Ia vals)(M:vals.length<=360):(BS f vals).length<=360/\∀y∈BS f vals,y.1<=1064960/\1<=y.2/\y.2<=7200:=by
 have z:=IQ f vals;have G:=h.le;refine⟨by omega,λy A=> ?_⟩;obtain⟨x,D,e⟩:=Xi f vals y A;have K:=Cq f vals (λx D=>(h x D).2.1) y A;have O:=Be (BK f vals) A;have Q:=An (BS f vals) y.1;have Y:AB (BS f vals)<=BH vals:=by
  rw[Iw];have:∀l:AM,AY f l<=BH l:=λl=>by
   induction l with
   |nil=>exact E _
   |cons x l X=>simp only[AY,BH];split<;>omega
  exact this vals
 exact⟨F x.1 (h x D).1 y.1 e,K,by omega⟩
theorem ZT(h6:0<=a6):fC (Ae 2 a1 a2 a3 a4 a5 a6 a7 a8 a9 a10) (GZ 2 a1 a2 a3 a4 a5 a6 a7 a8 a9 a10 129 (Kc a5.toNat a6) (WH a1 a2 a3 a4 a5 a6 a7 a8 a9 a10)) (λs vals=>s=AW 2 (ZS a5 a6 vals)/\WH a1 a2 a3 a4 a5 a6 a7 a8 a9 a10 vals) (VA a6):=by
 have C:=Nk a5.toNat a6;have Aa:∀vals,WH a1 a2 a3 a4 a5 a6 a7 a8 a9 a10 vals->DK vals->vals.length<=360->(ZS a5 a6 vals).length<=190000:=λvals Q hi G=>by
  have K:=Q.inP hi;obtain⟨e1,v⟩:=EY K;have Ab:=K.le;have t:=El a5.toNat vals;obtain⟨s0,z⟩:=DE (Fa a5.toNat) (λx D i h=>PM D h) K G;obtain⟨s2,s3⟩:=DE (hf1 a5.toNat) (λx D i h=>PN D h) K G;have r0:=CN (BS (Fa a5.toNat) vals) ⟨by omega,BK _ _,λx D=>by have:=z x D;omega⟩;have r1:=CN (BS (hf1 a5.toNat) vals) ⟨by omega,BK _ _,λx D=>by have:=s3 x D;omega⟩;have g:=Q.2.1;have Ap:=AC a5.toNat (by omega);have Ar:=AC a6.toNat (by omega);have Ax:=AC (AX (DH vals)) (Ao _ e1).2;have Av:=AC (AX (DI vals)) (Ao _ v).2;have Aw:=AC (AY Fb vals) (by unfold C6 at t;omega);unfold ZS NT;simp only[Pa];omega
 have Al:∀(B:Nat) (w:World) (X:Nat) (O:Nat->Prop) (vals:AM) (qb:Nat) (A:Option Addr) (c:Nat),Fi B w qb (L A ([]:List UInt8).length c) []->B<=w.heap.size->Kc a5.toNat a6 vals w X O->(∀k,O k->k<B)->WH a1 a2 a3 a4 a5 a6 a7 a8 a9 a10 vals->DK vals->vals.length<=360->
   Calls prog 245 #[.agg #[P (S ⟨X,0,none⟩)],P (S ⟨qb,0,none⟩)] w λe w' =>e=R (.tuple #[])/\∃A' c',CH B w qb A' c' (ZS a5 a6 vals) w' :=λB w X O vals qb A c hq hB h hO Q hi G=>by
  have K:=Q.inP hi;obtain⟨e1,v⟩:=EY K;have Ab:=K.le;have t:=El a5.toNat vals;obtain⟨s0,z⟩:=DE (Fa a5.toNat) (λx D i h=>PM D h) K G;obtain⟨s2,s3⟩:=DE (hf1 a5.toNat) (λx D i h=>PN D h) K G;have g:=Q.2.1;have e6:((a6.toNat:Nat):Int)=a6:=by omega
  obtain⟨pb,t0,t1,v0,v1,hd,rfl⟩:=h;rw[<-e6]at hd;exact Vf B w X pb t0 t1 v0 v1 a5.toNat a6.toNat _ _ _ _ _ qb A c hq hB hd hO (by omega) (by omega) (by rw[t];omega) (λh0=>by
   rw[t]at h0;have:vals=[]:=fy (by omega);subst this;exact⟨rfl,rfl⟩) e1 v ⟨by omega,BK _ _,λx D=>by have:=z x D;omega⟩ ⟨by omega,BK _ _,λx D=>by have:=s3 x D;omega⟩
 have p:=λw Z=>JB C (Gd:=WH a1 a2 a3 a4 a5 a6 a7 a8 a9 a10) (a0:=2) (a1:=a1) (a2:=a2) (a3:=a3) (a4:=a4) (a5:=a5) (a6:=a6) (a7:=a7) (a8:=a8) (a9:=a9) (a10:=a10) (T:=129) (λW X O=>Kc a5.toNat a6 [] W X O/\1<=a5/\a5<=4/\a6<=9223372036854775808) (1<=a5/\a5<=4/\a6<=9223372036854775808) (λW W' X O h b=>⟨h.1.next b,h.2⟩) (λW X O h=>h.1.lt) (λW X O hs h=>⟨h.1,Re.1 hs,⟨h.2.1,h.2.2.1,h6,h.2.2.2⟩,λx D=>by cases D⟩) (λW Z=>Nl W Z a1 a2 a3 a4 a5 a6 a7 a8 a9 a10 h6) w Z;have AA:∀(vals:AM) (w:World),Sp.Tens w->WH a1 a2 a3 a4 a5 a6 a7 a8 a9 a10 vals->DK vals->vals.length<=360->Calls prog 19 #[.string (bs (AW 2 (ZS a5 a6 vals)))] w (OD (GZ 2 a1 a2 a3 a4 a5 a6 a7 a8 a9 a10 129 (Kc a5.toNat a6) (WH a1 a2 a3 a4 a5 a6 a7 a8 a9 a10)) vals w):=λvals w Z Q hi G=>by
  have K:=Q.inP hi;obtain⟨e1,v⟩:=EY K;have Ab:=K.le;have t:=El a5.toNat vals;obtain⟨s0,z⟩:=DE (Fa a5.toNat) (λx D i h=>PM D h) K G;obtain⟨s2,s3⟩:=DE (hf1 a5.toNat) (λx D i h=>PN D h) K G;have g:=Q.2.1;have e5:((a5.toNat:Nat):Int)=a5:=by omega
  have e6:((a6.toNat:Nat):Int)=a6:=by omega
  obtain⟨rfl,rfl,rfl,rfl,rfl,rfl,rfl,rfl⟩:=Q.1;refine Et C (a0:=2) (T:=129) 2 rfl vals Q (ZS a5 a6 vals) (Aa vals Q hi G) (λW eb hW hE=> ?_) w Z;refine WD C 129 0 0 0 0 a5 a6 0 0 0 0 W eb (AI.lt hE) ?_;have Ac:CZ (W.alloc (.cells BN 28)) eb (MO a5.toNat a6.toNat (AX (DH vals)) (AX (DI vals)) (AY Fb vals) (BS (Fa a5.toNat) vals) (BS (hf1 a5.toNat) vals)):=by
   rw[<-V8];exact AI.alloc hE _
  have j:=dm (W.alloc (.cells BN 28)) (hW.next (Za)) eb a5.toNat a6.toNat (AY Fb vals) (DH vals) (DI vals) (BS (Fa a5.toNat) vals) (BS (hf1 a5.toNat) vals) vals ⟨rfl,rfl,rfl,rfl,rfl⟩ Ac (by omega) (by omega) (by omega) e1 v (by unfold C6 at t;omega)
   (BK _ _) (Cq _ _ λx D=>(K x D).2.1) (λx D=>by have:=z x D;omega) (by omega) (BK _ _) (Cq _ _ λx D=>(K x D).2.1) (λx D=>by have:=s3 x D;omega) (by omega) (by rw[t];omega)
  rw[e5,e6]at j;exact j
 have d:=(show∀(w:World) (Y:Nat) (O:Nat->Prop) (vals:AM) (x:Int×Nat),GZ 2 a1 a2 a3 a4 a5 a6 a7 a8 a9 a10 129 (Kc a5.toNat a6) (WH a1 a2 a3 a4 a5 a6 a7 a8 a9 a10) w Y O vals->DK vals->vals.length<360->Am x.1->x.2<=20->Calls prog 18 #[P (S ⟨Y,0,none⟩),I J x.1,I U (x.2:Nat)] w (Ux (GZ 2 a1 a2 a3 a4 a5 a6 a7 a8 a9 a10 129 (Kc a5.toNat a6) (WH a1 a2 a3 a4 a5 a6 a7 a8 a9 a10)) (VA a6) w Y O vals x)from λw Y O vals x h hi G D hc=>JA C 236 WE Mu (λvals x g u h2 hP=>⟨g.1,g.2.1,λy f=>by
    rcases List.mem_append.1 f with f|f
    ·exact g.2.2 y f
    ·rw[List.mem_singleton.1 f];exact⟨u,hP⟩⟩)
   (λw X O vals x h g hi G D hc=>Tw w a5.toNat a6 h6 vals X O h (g.inP hi) G x D hc) w Y O vals x h hi G D hc)
 exact
 {next:=λh b=>h.next C b
  away:=λh a n=>h.away C a n
  lt:=λh=>h.lt C
  ty:=λh=>h.ty C
  new:=λw Z=>(p w Z).mono λ_ _ q=>q.1
  putL:=d
  put:=λw Y O vals x h hi G D hc=>d w Y O vals x h hi (es G (by decide)) D hc
  bytes:=λw Y O vals h hi G=>by
   have Q:WH a1 a2 a3 a4 a5 a6 a7 a8 a9 a10 vals:=by obtain⟨_,_,_,_,g,_⟩:=h;exact g
   refine(Yc w Y _ (St C 245 WG 2 rfl QJ Al Aa w Y O vals h hi G)).mono λe w' q=> ?_;exact⟨_,q.1,⟨rfl,Q⟩,q.2⟩
  decode:=λw s vals Z he hi G=>by
   obtain⟨rfl,Q⟩:=he;exact AA vals w Z Q hi G
  join:=λw Y nb O N vals M h k r hi hj G=>G0 C 242 WF SI (λvals M g g2=>⟨g.1,g.2.1,λy f=>by
    rcases List.mem_append.1 f with f|f
    ·exact g.2.2 y f
    ·exact g2.2.2 y f⟩)
   (λw X ob O N vals M h k g g2 r hi hj G=>by
    have j:=Ok w X ob (Dv (Kc a5.toNat a6) w X O vals M) λW b=>(Yd W a5.toNat a6 h6 vals M X ob O N (h.next b) (k.next b) r (g.inP hi) (g2.inP hj) (λx D=>(g2.2.2 x D).2) G).mono λe w' q=>by
     obtain⟨o,O',rfl,u,h2,h3⟩:=q;exact⟨⟨o,rfl⟩,o,O',rfl,u,λk hk=>(h2 k hk).imp id λe=>dT b.size e,(AD.of_below (F:=O) b).trans' h3 (λ_ _ h=>h) (λ_ _ h=>h)⟩
    exact j) w Y nb O N vals M h k r hi hj G
  uniq:=λh k K=>by
   obtain⟨rfl,g⟩:=h;obtain⟨rfl,g2⟩:=k;rename_i l m;have e:ZS a5 a6 l=ZS a5 a6 m:=by
    unfold ZS;have u:∀x∈l,1<=x.2:=λx D=>((Iz a6 x).1 (g.2.2 x D).2).1;rw[Ms K,Mt K,FI Fb K,F7 (Fa a5.toNat) K u,F7 (hf1 a5.toNat) K u]
   rw[e]
  again:=λh W Z=>by
   obtain⟨_,_,_,_,g,_⟩:=h;refine(p W Z).mono λe w' q=> ?_;exact q.2 (Re.2 g.1) ⟨g.2.1.1,g.2.1.2.1,g.2.1.2.2.2⟩}
end
theorem WI{Q:GX}(C:Cz Q){vals:AM}(T b X G F Y a K Z O A w c)(f:c<w.heap.size)(k:Calls prog 50 #[P (S ⟨c,0,N⟩)] (w.alloc (.cells BN 28)) (Hs (Ae 1 b X G F Y a K Z O A) T (Q vals) (w.alloc (.cells BN 28)) c)):
  Calls prog 33 #[I J 1,P (S ⟨c,0,N⟩)] w (Hs (Ae 1 b X G F Y a K Z O A) T (Q vals) w c):=by
 have d:AI (w.alloc (.cells BN 28)) w.heap.size BN 28:=AI.newAt rfl;have n:=Zh d;clear d;unfold BN at k;go_enter func33,ntmps33;go_wp2_with fail;refine k.mono ?_;rintro e l ⟨ok,po,rfl,g,o,m⟩;have d:=n.out;unfold BN at d;have i:=d.away g (by omega);obtain⟨⟨m0,m1,m2,m3,m4,m5,m6,m7,m8,m9,AA⟩,⟨f0,f1,f2,f3,f4,f5,f6,f7,f8,f9,q⟩⟩:=CU i;have D:=DO (a0:=1) (a1:=b) (a2:=X) (a3:=G) (a4:=F) (a5:=Y) (a6:=a) (a7:=K) (a8:=Z) (a9:=O) (a10:=A) i;have M:=Zh (Hs.on C (a0:=1) (a1:=b) (a2:=X) (a3:=G) (a4:=F) (a5:=Y) (a6:=a) (a7:=K) (a8:=Z) (a9:=O) (a10:=A) (T:=T) f g o m);clear k g o m i d n;unfold Ae;go_wp2_with fail;change bodyPost prog f33 (Hs (Ae 1 b X G F Y a K Z O A) T (Q vals) w c) Exit.ret _ (EZ l w.heap.size 1 b X G F Y a K Z O A);generalize EZ l w.heap.size 1 b X G F Y a K Z O A=WW at D M⊢;have u:=D.cell (j:=0) rfl;have x:=D.cell (j:=1) rfl;have z:=D.cell (j:=2) rfl;have c3:=D.cell (j:=3) rfl;have c4:=D.cell (j:=4) rfl;have c5:=D.cell (j:=5) rfl;have c6:=D.cell (j:=6) rfl;have t:=D.cell (j:=7) rfl;have p:=D.cell (j:=8) rfl;have r:=D.cell (j:=9) rfl;have h:=D.cell (j:=10) rfl;refine bodyPost_ret (v:=.tuple #[.agg (Ae 1 b X G F Y a K Z O A),.iface T (.agg #[P po]),.bool ok]) ?_ rfl M.out;simp[results,results33,go_sem,Ae,u,x,z,c3,c4,c5,c6,t,p,r,h]
theorem WJ(args w):(callFunc 209 args).run prog w=.ok (.enter 209 args) w:=by kernel_rfl
theorem WK(args w):(callFunc 218 args).run prog w=.ok (.enter 218 args) w:=by kernel_rfl
theorem WL(args w):(callFunc 221 args).run prog w=.ok (.enter 221 args) w:=by kernel_rfl
theorem WM(A w):(method 524 122 (.agg #[P (S ⟨A,0,N⟩)]) "Put").run prog w=.ok (209,P (S ⟨A,0,N⟩)) w:=by kernel_rfl
theorem TZ(A w):(method 524 122 (.agg #[P (S ⟨A,0,N⟩)]) "ogive/suite.join").run prog w=.ok (218,.agg #[P (S ⟨A,0,N⟩)]) w:=by kernel_rfl
theorem Rf(A w):(method 524 122 (.agg #[P (S ⟨A,0,N⟩)]) "ogive/suite.write").run prog w=.ok (221,.agg #[P (S ⟨A,0,N⟩)]) w:=by kernel_rfl
theorem Nm(f):∀l:AM,AY f l<=BH l
 | []=>E _
 |x::l=>by have:=Nm f l;simp only[AY,BH];split<;>omega
theorem Cu(hi M f)(G:∀x,Am x->∀i,f x=S i->i<4096){vals:AM}(h:Ia vals)(K:vals.length<=360):(DA hi M f vals).length<=360/\(∀y∈DA hi M f vals,y.1<4096/\1<=y.2/\y.2<=7200)/\AT (DA hi M f vals)/\Bh (DA hi M f vals)/\AB (DA hi M f vals)<=AY f vals:=by
 obtain⟨Y,O⟩:=DE f (λx D i e=>by have:=G x D i e;omega) h K;have X:=BK f vals;have F:=Cq f vals λx D=>(h x D).2.1;unfold DA;refine⟨dT (aT _ _) Y,λy Q=> ?_,B8 X,Cg F,?_⟩
 ·have A:y∈BS f vals:=(List.mem_filter.1 Q).1;obtain⟨x,D,e⟩:=Xi f vals y A;exact⟨G x.1 (h x D).1 y.1 e,(O y A).2⟩
 ·rw[<-Iw];exact VF _ _
theorem Nn{hi M}(D:1<=M)(f)(G:∀x,Am x->∀i,f x=S i->i<4096){vals:AM}(h:Ia vals)(K:vals.length<=360):Vh hi M (DA hi M f vals) (AY f vals-AB (DA hi M f vals)):=by
 obtain⟨Y,O,F,X,Z⟩:=Cu hi M f G h K;have c:=Nm f vals;have Q:=h.le;exact⟨F,X,λx A=>(O x A).1,by omega,λq=>by have:=Jh (hi:=hi) D f (a:=[]) (b:=vals) (λx A=>by cases A) h q;rwa [JJ]at this,
  by have:=Jg (hi:=hi) D f (a:=[]) (b:=vals) (λx A=>by cases A) h;rwa [JJ,List.nil_append]at this,by omega⟩
section
variable {a1 a2 a3 a4 a5 a6 a7 a8 a9 a10:Int}
def WN(a1 a2 a3 a4 a5 a6 a7 a8 a9 a10:Int)(vals:AM):Prop:=(a5=0/\a6=0/\a7=0/\a8=0/\a9=0/\a10=0)/\cN a1 a2 a3 a4/\∀x∈vals,Am x.1/\Hu x=true
def fD(hi:Bool)(M num den:Nat)(vals:AM)(ld:List UInt8):Prop:=∃n,IS num den n/\ld=NV num den (if hi then 1 else 0) M (AX (DH vals)) (AX (DI vals)) (AY Fb vals)
 (AY (GP num den n) vals-AB (DA hi M (GP num den n) vals)) (AY (GQ num den n) vals-AB (DA hi M (GQ num den n) vals)) (DA hi M (GP num den n) vals) (DA hi M (GQ num den n) vals)
theorem Rj:Df 1 a1 a2 a3 a4 a5 a6 a7 a8 a9 a10 1 (By 1 a1) (By 1 a2) (Dg 1 a3) (Dh 1 a4) (Bz 1 a5) (Bz 1 a6) (B6 1 a7) (B6 1 a8) (B7 1 a9) (B7 1 a10)=true↔a5=0/\a6=0/\a7=0/\a8=0/\a9=0/\a10=0:=by
 have D:∀a,By 1 a=a:=λa=>Ek (by decide);have K:∀a,Dg 1 a=a:=λa=>Ek (by decide);have M:∀a,Dh 1 a=a:=λa=>Ek (by decide);have A:∀a,Bz 1 a=0:=λa=>Bd (by decide);have F:∀a,B6 1 a=0:=λa=>Bd (by decide);have G:∀a,B7 1 a=0:=λa=>Bd (by decide);rw[D,D,K,M,A,A,F,F,G,G];unfold Df;simp[and_assoc]
theorem UW(x:Int×Nat):Hu x=true↔1<=x.2:=by unfold Hu;simp
theorem WN.inP{vals:AM}(h:WN a1 a2 a3 a4 a5 a6 a7 a8 a9 a10 vals)(hi:DK vals):Ia vals:=λx A=>⟨(h.2.2 x A).1,(UW x).1 (h.2.2 x A).2,(hi x A).2⟩
theorem cN.nat(h:cN a1 a2 a3 a4):(1<=a4.toNat/\a4.toNat<=4096)/\(((a1.toNat:Nat):Int)=a1/\((a2.toNat:Nat):Int)=a2/\((a4.toNat:Nat):Int)=a4)/\a1.toNat<2147483648/\a2.toNat<=2147483648/\(((if a3==1 then 1 else 0:Nat):Nat):Int)=a3/\a3=Dq (a3==1):=by
 obtain⟨A,G,D,K,F⟩:=h;unfold Dk at A;simp only[gQ,decide_eq_true_eq]at A;refine⟨by omega,by omega,by omega,by omega,?_,cO D⟩;rcases D with rfl|rfl<;>rfl
theorem No(num den K M O F z G l1)(D A:AL)(h:num<18446744073709551616/\den<18446744073709551616/\K<18446744073709551616/\M<18446744073709551616/\O<18446744073709551616/\F<18446744073709551616/\z<18446744073709551616/\G<18446744073709551616/\l1<18446744073709551616)
  (w0:TI D)(Q:TI A)(k:D.length<=360)(n:A.length<=360):(NV num den K M O F z G l1 D A).length<=190000:=by
 obtain⟨Y,c,d,b,Z,a,X,e,f⟩:=h;have r0:=CN D w0;have r1:=CN A Q;have q:=AC num Y;have g:=AC den c;have i:=AC K d;have r:=AC M b;have l:=AC O Z;have o:=AC F a;have p:=AC z X;have j:=AC G e;have m:=AC l1 f;unfold NV;simp only[Pa];omega
theorem ZU:fC (Ae 1 a1 a2 a3 a4 a5 a6 a7 a8 a9 a10) (GZ 1 a1 a2 a3 a4 a5 a6 a7 a8 a9 a10 122 (Qu (a3==1) a4.toNat a1.toNat a2.toNat) (WN a1 a2 a3 a4 a5 a6 a7 a8 a9 a10)) (λs vals=>∃ld,s=AW 1 ld/\fD (a3==1) a4.toNat a1.toNat a2.toNat vals ld/\WN a1 a2 a3 a4 a5 a6 a7 a8 a9 a10 vals) Hu:=by
 have C:=Ji (a3==1) a4.toNat a1.toNat a2.toNat;have Ab:∀vals ld,WN a1 a2 a3 a4 a5 a6 a7 a8 a9 a10 vals->DK vals->vals.length<=360->fD (a3==1) a4.toNat a1.toNat a2.toNat vals ld->ld.length<=190000:=λvals ld Q hi G hd=>by
  obtain⟨n,X,rfl⟩:=hd;have D:=Q.inP hi;obtain⟨e1,e2⟩:=EY D;have Al:=D.le;have hT:=Eu a1.toNat a2.toNat n vals;obtain⟨s0,s1,s2,s3,s4⟩:=Cu (a3==1) a4.toNat (GP a1.toNat a2.toNat n) (λx _ i h=>JC X h) D G;obtain⟨t0,t1,t2,t3,t4⟩:=Cu (a3==1) a4.toNat (GQ a1.toNat a2.toNat n) (λx _ i h=>JD X h) D G;obtain⟨r,p,g3,g4,_⟩:=Q.2.1.nat;refine No _ _ _ _ _ _ _ _ _ _ _ ⟨by omega,by omega,by split<;>omega,by omega,(Ao _ e1).2,(Ao _ e2).2,by omega,by omega,by omega⟩ ⟨by omega,s2,λx K=>by have:=s1 x K;omega⟩ ⟨by omega,t2,λx K=>by have:=t1 x K;omega⟩ s0 t0
 have Ar:∀(B:Nat) (w:World) (Y:Nat) (O:Nat->Prop) (vals:AM) (qb:Nat) (A:Option Addr) (c:Nat),Fi B w qb (L A ([]:List UInt8).length c) []->B<=w.heap.size->Qu (a3==1) a4.toNat a1.toNat a2.toNat vals w Y O->(∀k,O k->k<B)->WN a1 a2 a3 a4 a5 a6 a7 a8 a9 a10 vals->DK vals->vals.length<=360->
   Calls prog 221 #[.agg #[P (S ⟨Y,0,none⟩)],P (S ⟨qb,0,none⟩)] w λe w' =>e=R (.tuple #[])/\∃ld A' c',fD (a3==1) a4.toNat a1.toNat a2.toNat vals ld/\CH B w qb A' c' ld w' :=λB w Y O vals qb A c hq hB h hO Q hi G=>by
  have D:=Q.inP hi;obtain⟨e1,e2⟩:=EY D;have Al:=D.le;obtain⟨n,bb,tb,vl,vr,ca,cc,Oa,Oc,X,hd,rfl⟩:=h;have hT:=Eu a1.toNat a2.toNat n vals;obtain⟨s0,s1,s2,s3,s4⟩:=Cu (a3==1) a4.toNat (GP a1.toNat a2.toNat n) (λx _ i h=>JC X h) D G;obtain⟨t0,t1,t2,t3,t4⟩:=Cu (a3==1) a4.toNat (GQ a1.toNat a2.toNat n) (λx _ i h=>JD X h) D G;obtain⟨r,p,g3,g4,_⟩:=Q.2.1.nat;refine(Y6 B _ _ _ _ _ _ _ _ _ _ _ _ _ _ _ _ _ qb A c hq hB hd hO (by omega) (by omega) r.2 (by omega) (λh0=>by
   have:vals=[]:=fy (by omega);subst this;exact⟨rfl,rfl⟩) e1 e2 ⟨by omega,s2,λx K=>by have:=s1 x K;omega⟩ ⟨by omega,t2,λx K=>by have:=t1 x K;omega⟩).mono λe w' o=> ?_
  obtain⟨rfl,A',c',hN⟩:=o;exact⟨rfl,_,A',c',⟨n,X,rfl⟩,hN⟩
 have u:=λw j=>JB C (Gd:=WN a1 a2 a3 a4 a5 a6 a7 a8 a9 a10) (a0:=1) (a1:=a1) (a2:=a2) (a3:=a3) (a4:=a4) (a5:=a5) (a6:=a6) (a7:=a7) (a8:=a8) (a9:=a9) (a10:=a10) (T:=122) (λW Y O=>Qu (a3==1) a4.toNat a1.toNat a2.toNat [] W Y O/\cN a1 a2 a3 a4) (cN a1 a2 a3 a4) (λW W' Y O h b=>⟨C.next h.1 b,h.2⟩) (λW Y O h=>C.lt h.1) (λW Y O hs h=>⟨h.1,Rj.1 hs,h.2,λx K=>by cases K⟩) (λW _=>Vj W a1 a2 a3 a4 a5 a6 a7 a8 a9 a10) w j;have Aa:∀(vals:AM) (ld:List UInt8) (w:World),Sp.Tens w->fD (a3==1) a4.toNat a1.toNat a2.toNat vals ld->WN a1 a2 a3 a4 a5 a6 a7 a8 a9 a10 vals->DK vals->vals.length<=360->Calls prog 19 #[.string (bs (AW 1 ld))] w (OD (GZ 1 a1 a2 a3 a4 a5 a6 a7 a8 a9 a10 122 (Qu (a3==1) a4.toNat a1.toNat a2.toNat) (WN a1 a2 a3 a4 a5 a6 a7 a8 a9 a10)) vals w):=λvals ld w j hD Q hi G=>by
  have AA:=Ab vals ld Q hi G hD;obtain⟨n,X,rfl⟩:=hD;have D:=Q.inP hi;obtain⟨e1,e2⟩:=EY D;have Al:=D.le;have hT:=Eu a1.toNat a2.toNat n vals;obtain⟨s0,s1,s2,s3,s4⟩:=Cu (a3==1) a4.toNat (GP a1.toNat a2.toNat n) (λx _ i h=>JC X h) D G;obtain⟨t0,t1,t2,t3,t4⟩:=Cu (a3==1) a4.toNat (GQ a1.toNat a2.toNat n) (λx _ i h=>JD X h) D G;obtain⟨r,⟨p,g3,g4⟩,g5,g6,g7,g8⟩:=Q.2.1.nat;obtain⟨rfl,rfl,rfl,rfl,rfl,rfl⟩:=Q.1;refine Et C (a0:=1) (T:=122) 1 rfl vals Q _ AA (λW eb hW hE=> ?_) w j;refine WI C 122 a1 a2 a3 a4 0 0 0 0 0 0 W eb (AI.lt hE) ?_;have Ac:=(AI.alloc hE (.cells BN 28):CZ (W.alloc (.cells BN 28)) eb _);rw[Vk]at Ac;have q:=di (hi:=a3==1) (W.alloc (.cells BN 28)) eb a1.toNat a2.toNat (if a3==1 then 1 else 0) a4.toNat (AY Fb vals) (DH vals) (DI vals) _ _ _ _ vals (by rw[g7];exact g8) (by rw[p,g3];exact Q.2.1.1) r.1 r.2 Ac e1 e2
   (Nn r.1 _ (λx _ i h=>JC X h) D G) (Nn r.1 _ (λx _ i h=>JD X h) D G) (EP r.1 _ D) (EP r.1 _ D) (by omega)
   (λx K=>by have:=s1 x K;omega) (λx K=>by have:=t1 x K;omega) (by omega) (by omega)
   (λm hm=>by obtain rfl:=hm.uniq X;exact⟨rfl,rfl,by omega,by omega,rfl,rfl,rfl⟩)
  rw[p,g3,g4,g7]at q;exact q
 have f:=(show∀(w:World) (Z:Nat) (O:Nat->Prop) (vals:AM) (x:Int×Nat),GZ 1 a1 a2 a3 a4 a5 a6 a7 a8 a9 a10 122 (Qu (a3==1) a4.toNat a1.toNat a2.toNat) (WN a1 a2 a3 a4 a5 a6 a7 a8 a9 a10) w Z O vals->DK vals->vals.length<360->Am x.1->x.2<=20->Calls prog 18 #[P (S ⟨Z,0,none⟩),I J x.1,I U (x.2:Nat)] w (Ux (GZ 1 a1 a2 a3 a4 a5 a6 a7 a8 a9 a10 122 (Qu (a3==1) a4.toNat a1.toNat a2.toNat) (WN a1 a2 a3 a4 a5 a6 a7 a8 a9 a10)) Hu w Z O vals x)from λw Z O vals x h hi G K hc=>JA C 209 WJ WM (λvals x g z h2 hP=>⟨g.1,g.2.1,λy d=>by
    rcases List.mem_append.1 d with d|d
    ·exact g.2.2 y d
    ·rw[List.mem_singleton.1 d];exact⟨z,hP⟩⟩)
   (λw Y O vals x h g hi G K hc=>au (a3==1) a4.toNat a1.toNat a2.toNat g.2.1.nat.1.1 g.2.1.nat.1.2 w vals Y O h (g.inP hi) G x K hc) w Z O vals x h hi G K hc)
 exact
 {next:=λh b=>h.next C b
  away:=λh a n=>h.away C a n
  lt:=λh=>h.lt C
  ty:=λh=>h.ty C
  new:=λw j=>(u w j).mono λ_ _ o=>o.1
  putL:=f
  put:=λw Z O vals x h hi G K hc=>f w Z O vals x h hi (es G (by decide)) K hc
  bytes:=λw Z O vals h hi G=>by
   have Q:WN a1 a2 a3 a4 a5 a6 a7 a8 a9 a10 vals:=by obtain⟨_,_,_,_,g,_⟩:=h;exact g
   refine(IB w Z 1 _ (FU C 221 WL 1 rfl Rf Ar Ab w Z O vals h hi G)).mono λe w' o=> ?_;obtain⟨ld,rfl,hR,hB⟩:=o;exact⟨_,rfl,⟨ld,rfl,hR,Q⟩,hB⟩
  decode:=λw s vals j he hi G=>by
   obtain⟨ld,rfl,hD,Q⟩:=he;exact Aa vals ld w j hD Q hi G
  join:=λw Z nb O N vals M h k v hi hj G=>G0 C 218 WK TZ (λvals M g p=>⟨g.1,g.2.1,λy d=>by
    rcases List.mem_append.1 d with d|d
    ·exact g.2.2 y d
    ·exact p.2.2 y d⟩)
   (λw Y ob O N vals M h k g p v hi hj G=>by
    have q:=Ol w Y ob (Dv (Qu (a3==1) a4.toNat a1.toNat a2.toNat) w Y O vals M) λW b=>(Yf (a3==1) a4.toNat a1.toNat a2.toNat g.2.1.nat.1.1 g.2.1.nat.1.2 W vals M Y ob O N (C.next h b) (C.next k b) v (g.inP hi) (p.inP hj) G).mono λe w' o=>by
     obtain⟨t,O',rfl,z,h2,h3⟩:=o;exact⟨⟨t,rfl⟩,t,O',rfl,z,λk hk=>(h2 k hk).imp id λe=>dT b.size e,(AD.of_below (F:=O) b).trans' h3 (λ_ _ h=>h) (λ_ _ h=>h)⟩
    exact q) w Z nb O N vals M h k v hi hj G
  uniq:=λh k D=>by
   obtain⟨ld,rfl,⟨n,X,rfl⟩,g⟩:=h;obtain⟨Av,rfl,⟨n',Ap,rfl⟩,p⟩:=k;obtain rfl:=X.uniq Ap;rename_i l m;have z:∀x∈l,1<=x.2:=λx K=>(UW x).1 (g.2.2 x K).2;unfold DA;rw[Ms D,Mt D,FI Fb D,FI (GP _ _ _) D,FI (GQ _ _ _) D,F7 (GP _ _ _) D z,F7 (GQ _ _ _) D z]
  again:=λh W j=>by
   obtain⟨_,_,_,_,g,_⟩:=h;refine(u W j).mono λe w' o=> ?_;exact o.2 (Rj.2 g.1) g.2.1}
end
theorem ZV(w D sb v d F lo hi)(l:AL)(h:Au w D sb v d F lo hi l):
  C prog 251 #[P (S ⟨D,0,N⟩)] w λe w' =>B w.heap.size w w' /\(e=R (T #[I J 0,I J 0,.bool false])\/e=R (T #[I J lo,I J hi,.bool true])):=by
 obtain⟨c,f,O,X,b,Y,a,Z,Q⟩:=h.cells;have G:=Eb w D sb v d F lo hi l h;by_cases A:AB l=0
 ·have M:(((AB l:Nat):Int)==0)=true:=by simp[A]
  clear A h;go_enter func251,ntmps251;go_wp2_with(go_at_call 116;refine G.mono ?_;rintro e K ⟨rfl,rfl⟩);go_ret3;exact⟨B.refl _ _,.inl rfl⟩
 ·have M:(((AB l:Nat):Int)==0)=false:=by simp[A]
  clear A h;go_enter func251,ntmps251;go_wp2_with(go_at_call 116;refine G.mono ?_;rintro e K ⟨rfl,rfl⟩);go_region;all_goals(try go_wp2)
  all_goals go_ret3
  all_goals exact⟨(B.refl _ _).drew,.inr rfl⟩
theorem Ta(w A sb v d F lo hi)(l:AL)(h:Au w A sb v d F lo hi l):
  C prog 257 #[P (S ⟨A,0,N⟩)] w λe w' =>B w.heap.size w w' /\e=R (.agg #[I J d,I J F]):=by
 obtain⟨a,b,K,O,Z,Q,Y,X,M⟩:=h.cells;have D:=h.blk.lt;have G:A≠w.heap.size:=by omega
 clear h;go_enter func257,ntmps257;go_wp2;refine bodyPost_ret (v:=.agg #[I J d,I J F]) (by simp[results,results257,go_sem]) rfl ?_;exact⟨Za,rfl⟩
theorem WO(w A sb v d F lo hi)(l:AL)(h:Au w A sb v d F lo hi l)(Q:l.length<=100000):
  C prog 258 #[P (S ⟨A,0,N⟩)] w λe w' =>∃u,e=R u/\w'.ownsRow w.heap.size 228 2 u l.length (AV l)/\B w.heap.size w w' :=by
 obtain⟨f,g,M,Y,c,Z,b,a,X⟩:=h.cells;have D:=Cx w sb v l h.strip (by omega);clear h;go_enter func258,ntmps258;go_wp2_with(go_at_call 177;refine D.mono ?_;rintro e O ⟨u,rfl,K,G⟩);go_ret;exact⟨u,rfl,K,G⟩
theorem WP(l:AL)(v c)(h:∀x∈l,x.1<v):Ak l v c=l++ [(v,c)]:=by
 induction l with
 |nil=>rfl
 |cons x l A=>
  unfold Ak;rw[if_pos (h x (List.mem_cons_self ..)),A λy D=>h y (List.mem_cons_of_mem _ D)];rfl
theorem ZW(l:AL)(q)(h:q<l.length)(A:AT l):Ak (l.take q) (CJ l q) (C5 l q)=l.take (q+1):=by
 rw[WP _ _ _ λx D=> ?_,List.take_succ_eq_append_getElem h,Bj l q h,Dj l q h];obtain⟨i,hi,rfl⟩:=List.getElem_of_mem D;rw[gR]at hi;rw[fx,Bj l q h];exact Dy A (by omega) h (by omega)
structure Rq(w:W)(db sb:Nat)(v:V)(d F:Nat)(lq:AL)(wr:W):Prop where
 dig:Au wr db sb v d F 0 0 lq
 new:∀g,v.ownBlock=S g->w.heap.size<=g
 below:B w.heap.size w wr
 db:w.heap.size<=db
 sb:w.heap.size<=sb
theorem Rq.alloc{w A sb v d F}{D:AL}{wr}(h:Rq w A sb v d F D wr)(o):Rq w A sb v d F D (wr.alloc o):=
 ⟨h.dig.next (Za),h.new,h.below.alloc h.below.size _,h.db,h.sb⟩
theorem Rq.drew{w A sb v d F}{D:AL}{wr}(h:Rq w A sb v d F D wr):Rq w A sb v d F D wr.drew:=⟨h.dig.drew,h.new,h.below.drew,h.db,h.sb⟩
theorem Rq.next{w A sb v d F}{D:AL}{wr G}(h:Rq w A sb v d F D wr)(b:B wr.heap.size wr G):Rq w A sb v d F D G:=
 ⟨h.dig.next b,h.new,h.below.trans (b.mono h.below.size),h.db,h.sb⟩
theorem Rq.add{w G sb v v' d F}{O K :AL}{wr D}(h:Rq w G sb v d F O wr)(s:As D sb v' K)(a:AD (λk=>k=sb\/v.ownBlock=S k) wr D)(k:FA wr v v'):Rq w G sb v' d F K D:=by
 obtain⟨Q,b,Z⟩:=h.dig.add s a k;refine⟨Q,λg A=> ?_,h.below.trans (a.below h.below.size λk X e=> ?_),h.db,h.sb⟩
 ·rcases k with k|⟨j,M,Y⟩
  ·exact h.new g (k▸A)
  ·rw[M]at A;cases A;have:=h.below.size;omega
 ·rcases e with e|e
  ·have:=h.sb;omega
  ·have:=h.new k e;omega
structure ZX(w:World)(db sb:Nat)(v:V)(d F:Nat)(lq:AL)(b:Nat)(u0 u1:V)(W:World):Prop where
 ld:Rq w db sb v d F lq W
 blk:AI W b #[u0,u1] 228
theorem ZX.next{w A sb v d F}{D:AL}{b u0 u1 W W'}(h:ZX w A sb v d F D b u0 u1 W)(G:B W.heap.size W W'):ZX w A sb v d F D b u0 u1 W' :=⟨h.ld.next G,h.blk.below G h.blk.lt⟩
theorem ZX.drew{w A sb v d F}{D:AL}{b u0 u1 W}(h:ZX w A sb v d F D b u0 u1 W):ZX w A sb v d F D b u0 u1 W.drew:=⟨h.ld.drew,h.blk.drew⟩
theorem ZY(w cv)(d F:Nat)(lo hi:Int)(l:AL)(h1:1<=d)(h2:d<=24)(h3:1<=F)(h4:F<=64)(A6:Am lo)(A9:Am hi)
  (hr:AT l)(hf:Bh l)(hn:CE d l)(Ay:l.length<=3000)(Ba:AB l<=900000)(p:w.ownsRow 0 228 2 cv l.length (AV l)):
  Calls prog 79 #[.agg #[I J d,I J F],cv,I J lo,I J hi] w λe w' =>B w.heap.size w w' /\((∃x,x≠0/\e=R (.tuple #[P N,I J x]))\/
   ∃Y sb v,e=R (.tuple #[P (some ⟨Y,0,N⟩),I J 0])/\Au w' Y sb v d F lo hi l/\w.heap.size<=Y/\w.heap.size<=sb/\∀g,v.ownBlock=some g->w.heap.size<=g):=by
 obtain⟨Ac,cc,BQ⟩:=AF p;subst BQ;obtain⟨m,f⟩:∃m,m=l.length:=⟨_,rfl⟩;have HM:=Zh f;rw[<-f]at Ay p⊢;clear f;have HH:=Zh (Zi hr (Zi hf hn));have AA:=λW=>Tq d F W h1 h2 h3 h4;clear hr hf hn;go_enter func79,ntmps79;go_wp2_with fail;refine(AA _).mono ?_;rintro e w1 ⟨Y,sb,rfl,D1,A1,Ax,b1⟩;have B1:B w.heap.size w w1:=((B.refl _ w).alloc (E _) (.cells #[I J d,I J F] 51)).trans (b1.mono (by simp));have L1:Rq w Y sb (L N 0 0) d F [] w1:=⟨D1,λg hg=>by simp[V.ownBlock]at hg,B1,by simp at A1;omega,by simp at Ax;omega⟩;clear AA D1 A1 Ax b1 B1;go_wp2_with fail;go_loopg [12,14,31] m (λg la _ i wr=>∃(q K:Nat) (v:V),i=I J q/\la=I J K/\q<=m/\m-q<=g/\(q=0/\K=0\/1<=q/\K=CJ l (q-1))/\Rq w Y sb v d F (l.take q) wr);case atStart=>exact⟨0,0,_,rfl,rfl,Q0 _,E _,.inl ⟨rfl,rfl⟩,by simpa using L1⟩
 case round=>
  clear L1;obtain⟨q,K,v,rfl,rfl,hq,hg,Ap,S⟩:=hrel;by_cases A0:q<m
  ·have Z:q<l.length:=by rw[<-HM.out];exact A0
   have g1:(q:Int)<(m:Int):=by omega
   rcases AH p with⟨h0,BR,_⟩|⟨g,A7,hv,_,_,_,Ar⟩
   ·omega
   simp only[L.injEq,true_and]at hv;obtain⟨rfl,rfl⟩:=hv;obtain⟨Al,a⟩:=AJ p rfl;have o:AI wr g Al 228:=a.below S.below Ar;obtain⟨c0,c1⟩:=LX (by rw[HM.out]at p;exact p) a o q Z;have r:=HH.out.2.2 _ (gS Z);have Aw:=HH.out.2.1 _ (gS Z);rw[<-Bj l q Z]at r;rw[<-Dj l q Z]at Aw;have Av:K<CJ l q:=by
    rcases Ap with⟨_,h⟩|⟨h,h'⟩
    ·omega
    ·rw[h',Bj l (q-1) (by omega),Bj l q Z];exact Dy HH.out.1 (by omega) Z (by omega)
   have c:=ZW l q Z HH.out.1;have A5:AB (l.take q)+C5 l q<=AB l:=by
    have e1:AB (l.take (q+1))=AB (l.take q)+C5 l q:=by rw[<-c,EV]
    have:=Fl l (q+1);omega
   have b:=λW=>Tr.good_any (d:Int) (CJ l q:Int) W (by omega) (by omega);rw[XU d _ r.1 r.2]at b;have j:=λW v (k:As W sb v (l.take q))=>Cc W sb v (l.take q) (CJ l q) (C5 l q) k Aw (by omega) (by rw[gR];omega);rw[c]at j;have HT:=Zh (Zi Av c);obtain⟨X,hX⟩:∃X,X=CJ l q:=⟨_,rfl⟩;obtain⟨C,hC⟩:∃C,C=C5 l q:=⟨_,rfl⟩;rw[<-hX]at b j c0 Av;rw[<-hC]at j c1;have HX:=Zh hX;clear hX hC c A5 r Aw;have f1:decide ((X:Int)<=(K:Int))=false:=by simp;omega
   have f2:decide (X<=K)=false:=by simp;omega
   have f3:¬X<=K:=by omega
   have SX:=S.alloc (.cells #[I J X,I U C] 228);have PB:AI (wr.alloc (.cells #[I J X,I U C] 228)) wr.heap.size #[I J X,I U C] 228:=AI.newAt rfl;have G:ZX w Y sb v d F (l.take q) wr.heap.size (I J X) (I U C) (wr.alloc (.cells #[I J X,I U C] 228)):=⟨SX,PB⟩;have Ab:wr.heap.size≠sb:=by have:=S.dig.strip.blk.lt;omega
   have Aa:∀g,v.ownBlock=some g->wr.heap.size≠g:=λg hg=>by have:=(S.dig.strip.own.lt g hg).2;omega
   clear Ap o Av;go_upto_region 8 with fail;generalize wr.heap.size=pb at G Ab Aa⊢;generalize wr.alloc (.cells #[I J X,I U C] 228)=W1 at G⊢;clear SX PB c0 c1;refine AS 23 (C:=ZX w Y sb v d F (l.take q) pb (I J X) (I U C)) (by kernel_rfl) (by kernel_rfl) G.drew ?_;simp only[ag,aw,bh,bw];repeat go_big_quiet_step(exact λ_=>rfl)
   go_big_quiet_want;refine⟨I J X,λO A=> ?_,?_⟩
   ·have q0:O.cell? ⟨pb,0,N⟩=some (I J X):=A.blk.cell rfl;go_simp
   go_big_quiet_on;simp only[Jx,Zp,Zq,Zr];repeat go_big_quiet_step(exact λ_=>rfl)
   go_big_quiet_want;refine⟨.agg #[I J d],λO A=> ?_,?_⟩
   ·obtain⟨k0,k1,k2,k3,k4,k5,z,m4,m5⟩:=A.ld.dig.cells;go_simp
   go_big_quiet_on;simp only[Jx,Zp,Zq,Zr];repeat go_big_quiet_step(exact λ_=>rfl)
   go_big_quiet_want;refine⟨I J X,λO A=> ?_,?_⟩
   ·have q0:O.cell? ⟨pb,0,N⟩=some (I J X):=A.blk.cell rfl;go_simp
   go_big_quiet_on;simp only[Jx,Zp,Zq,Zr];repeat go_big_quiet_step(exact λ_=>rfl)
   go_big_quiet_want;go_big_quiet_op;refine⟨.bool true,λO A=> ?_,?_⟩
   ·exact(b O).mono λ_ _ f=>⟨f.1,A.next f.2⟩
   go_big_quiet_on;repeat go_big_quiet_step(exact λ_=>rfl)
   go_big_quiet_want;refine⟨P (some ⟨sb,0,N⟩),λO A=> ?_,?_⟩
   ·obtain⟨k0,k1,k2,k3,k4,k5,z,m4,m5⟩:=A.ld.dig.cells;go_simp
   go_big_quiet_on;simp only[Jx,Zp,Zq,Zr];repeat go_big_quiet_step(exact λ_=>rfl)
   go_big_quiet_want;refine⟨I J X,λO A=> ?_,?_⟩
   ·have q0:O.cell? ⟨pb,0,N⟩=some (I J X):=A.blk.cell rfl;go_simp
   go_big_quiet_on;simp only[Jx,Zp,Zq,Zr];repeat go_big_quiet_step(exact λ_=>rfl)
   go_big_quiet_want;refine⟨I U C,λO A=> ?_,?_⟩
   ·have q1:O.cell? ⟨pb,1,N⟩=some (I U C):=A.blk.cell rfl;go_simp
   go_big_quiet_on;simp only[Jx,Zp,Zq,Zr];repeat go_big_quiet_step(exact λ_=>rfl)
   refine wpQuiet_nil ?_;intro w2 G2;go_wp2_with(go_at_call 93;refine(j _ _ G2.ld.dig.strip).mono ?_;rintro e w5 ⟨rfl,v5,A8,a5,x5⟩;have S5:=G2.ld.add A8 a5 x5;have P5:=G2.blk.away a5 (by rintro(e|e);exact Ab e;exact Aa _ e rfl);have t0:w5.cell? ⟨pb,0,N⟩=some (I J X):=P5.cell rfl);go_roundg (m-(q+1));case measure=>omega
   exact⟨q+1,X,v5,by go_num,rfl,by omega,by omega,.inr ⟨by omega,by rw[HX.out,Nat.add_sub_cancel]⟩,S5⟩
  ·have A2:q=m:=by omega
   have BX:¬(q:Int)<(m:Int):=by omega
   have c:l.take q=l:=by rw[A2,HM.out,List.take_length]
   rw[c]at S;subst A2;clear c Ap A0;have D:=λW=>Tr.leaves_any (d:Int) W (by omega) (by omega);obtain⟨T,hT⟩:∃T,T=AB l/F:=⟨_,rfl⟩;have Q:=λW (k:Au W Y sb v d F 0 0 l)=>JS W Y sb v d F 0 0 l k h3 h4 (by omega);rw[<-hT]at Q;clear hT;go_wp2_with fail;go_loopg [16,66] q (λg _ i wr=>∃(k:Nat),i=I J k/\k<=q/\q-k<=g/\Rq w Y sb v d F l wr);case atStart=>exact⟨0,rfl,Q0 _,E _,S⟩
   case round=>
    clear S;obtain⟨k,rfl,hk,Bb,S⟩:=hrel;by_cases A3:k<q
    ·have Z:k<l.length:=by rw[<-HM.out];exact A3
     have g1:(k:Int)<(q:Int):=by omega
     rcases AH p with⟨h0,BR,_⟩|⟨g,A7,hv,_,_,_,Ar⟩
     ·omega
     simp only[L.injEq,true_and]at hv;obtain⟨rfl,rfl⟩:=hv;obtain⟨Al,a⟩:=AJ p rfl;have o:AI wr g Al 228:=a.below S.below Ar;obtain⟨c0,c1⟩:=LX (by rw[HM.out]at p;exact p) a o k Z;generalize CJ l k=X at*;generalize C5 l k=C at*;have G:ZX w Y sb v d F l wr.heap.size (I J X) (I U C) (wr.alloc (.cells #[I J X,I U C] 228)):=⟨S.alloc _,AI.newAt rfl⟩;clear o;by_cases e1:(X:Int)<Tr.pw (d:Int)
     ·have f1:decide ((X:Int)<Tr.pw (d:Int))=true:=by simp;omega
      go_upto_region 15 with fail;generalize wr.heap.size=pb at G⊢;generalize wr.alloc (.cells #[I J X,I U C] 228)=W1 at G⊢;clear S c0 c1;refine AG (C:=ZX w Y sb v d F l pb (I J X) (I U C)) (by kernel_rfl) (by kernel_rfl) G.drew ?_;repeat go_big_quiet_step(exact λ_=>rfl)
      go_big_quiet_want;refine⟨I J X,λO A=> ?_,?_⟩
      ·have q0:O.cell? ⟨pb,0,N⟩=some (I J X):=A.blk.cell rfl;go_simp
      go_big_quiet_on;simp only[Jx,Zp,Zq,Zr];repeat go_big_quiet_step(exact λ_=>rfl)
      go_big_quiet_want;refine⟨.agg #[I J d],λO A=> ?_,?_⟩
      ·obtain⟨k0,k1,k2,k3,k4,k5,z,m4,m5⟩:=A.ld.dig.cells;go_simp
      go_big_quiet_on;simp only[Jx,Zp,Zq,Zr];repeat go_big_quiet_step(exact λ_=>rfl)
      go_big_quiet_want;go_big_quiet_op;refine⟨I J (Tr.pw (d:Int)),λO A=> ?_,?_⟩
      ·exact(D O).mono λ_ _ f=>⟨f.1,A.next f.2⟩
      go_big_quiet_on;repeat go_big_quiet_step(exact λ_=>rfl)
      go_big_quiet_want;refine⟨I U C,λO A=> ?_,?_⟩
      ·have q1:O.cell? ⟨pb,1,N⟩=some (I U C):=A.blk.cell rfl;go_simp
      go_big_quiet_on;simp only[Jx,Zp,Zq,Zr];repeat go_big_quiet_step(exact λ_=>rfl)
      go_big_quiet_want;go_big_quiet_op;refine⟨I U (T:Nat),λO A=> ?_,?_⟩
      ·exact(Q O A.ld.dig).mono λ_ _ f=>⟨f.1,A.next f.2⟩
      go_big_quiet_on;repeat go_big_quiet_step(exact λ_=>rfl)
      refine wpQuiet_nil ?_;intro w2 G2;have S2:=G2.ld;by_cases e2:(T:Int)<(C:Int)
      ·have f2:decide ((T:Int)<(C:Int))=true:=by simp;omega
       have f3:T<C:=by omega
       clear D Q;go_wp2_with fail;go_ret2;exact⟨S2.below,.inl ⟨1,by decide,rfl⟩⟩
      ·have f2:decide ((T:Int)<(C:Int))=false:=by simp;omega
       have f3:¬T<C:=by omega
       go_wp2_with fail;go_roundg (q-(k+1));case measure=>omega
       exact⟨k+1,by go_num,by omega,by omega,S2⟩
     ·have f1:decide ((X:Int)<Tr.pw (d:Int))=false:=by simp;omega
      go_upto_region 15 with fail;generalize wr.heap.size=pb at G⊢;generalize wr.alloc (.cells #[I J X,I U C] 228)=W1 at G⊢;clear S c0 c1;refine AG (C:=ZX w Y sb v d F l pb (I J X) (I U C)) (by kernel_rfl) (by kernel_rfl) G.drew ?_;repeat go_big_quiet_step(exact λ_=>rfl)
      go_big_quiet_want;refine⟨I J X,λO A=> ?_,?_⟩
      ·have q0:O.cell? ⟨pb,0,N⟩=some (I J X):=A.blk.cell rfl;go_simp
      go_big_quiet_on;simp only[Jx,Zp,Zq,Zr];repeat go_big_quiet_step(exact λ_=>rfl)
      go_big_quiet_want;refine⟨.agg #[I J d],λO A=> ?_,?_⟩
      ·obtain⟨k0,k1,k2,k3,k4,k5,z,m4,m5⟩:=A.ld.dig.cells;go_simp
      go_big_quiet_on;simp only[Jx,Zp,Zq,Zr];repeat go_big_quiet_step(exact λ_=>rfl)
      go_big_quiet_want;go_big_quiet_op;refine⟨I J (Tr.pw (d:Int)),λO A=> ?_,?_⟩
      ·exact(D O).mono λ_ _ f=>⟨f.1,A.next f.2⟩
      go_big_quiet_on;repeat go_big_quiet_step(exact λ_=>rfl)
      refine wpQuiet_nil ?_;intro w2 G2;have S2:=G2.ld;go_wp2_with fail;go_roundg (q-(k+1));case measure=>omega
      exact⟨k+1,by go_num,by omega,by omega,S2⟩
    ·have BA:k=q:=by omega
     have BX:¬(k:Int)<(q:Int):=by omega
     subst BA;clear D Q A3;have u:=λW=>Tr.leaf_any (d:Int) lo W (by omega) (by omega) A6.2;have t:=λW=>Tr.leaf_any (d:Int) hi W (by omega) (by omega) A9.2;generalize Tr.leafB (d:Int) lo=y1 at u;generalize Tr.leafB (d:Int) hi=y2 at t;generalize Tr.leafV (d:Int) lo=z1 at u;generalize Tr.leafV (d:Int) hi=z2 at t;have A4:=λW (k:Au W Y sb v d F 0 0 l)=>Pr W Y sb v d F 0 0 l k h4;obtain⟨k0,k1,k2,k3,k4,k5,z,m4,m5⟩:=S.dig.cells;go_wp2_with fail;refine(u _).mono ?_;rintro e w3 ⟨rfl,b3⟩;have S3:=S.next b3;clear u S k0 k1 k2 k3 k4 k5 z m4 m5 b3;obtain⟨k0,k1,k2,k3,k4,k5,z,m4,m5⟩:=S3.dig.cells;go_wp2_with fail;refine(t _).mono ?_;rintro e w4 ⟨rfl,b4⟩;have S4:=S3.next b4;clear t S3 k0 k1 k2 k3 k4 k5 z m4 m5 b4;obtain⟨k0,k1,k2,k3,k4,k5,z,m4,m5⟩:=S4.dig.cells;go_wp2_with fail;refine(A4 _ S4.dig).mono ?_;rintro e w5 ⟨rfl,rfl⟩;clear A4;have n:=Zh S4;have HE:=Zh (show Au ((w4.setCell ⟨Y,4,N⟩ (I J lo)).setCell ⟨Y,5,N⟩ (I J hi)) Y sb v d F lo hi l/\B w.heap.size w ((w4.setCell ⟨Y,4,N⟩ (I J lo)).setCell ⟨Y,5,N⟩ (I J hi))from⟨S4.dig.ends lo hi,(S4.below.setCell S4.db _).setCell S4.db _⟩);clear S4;obtain⟨M,hM⟩:∃M,M=4*F:=⟨_,rfl⟩;rw[<-hM];clear hM;by_cases e1:M<k
     ·have f1:(M:Int)<(k:Int):=by omega
      go_wp2_with fail;go_ret2;exact⟨n.out.below,.inl ⟨1,by decide,rfl⟩⟩
     ·have f1:¬(M:Int)<(k:Int):=by omega
      by_cases e2:hi<lo
      ·go_wp2_with fail;go_ret2;exact⟨n.out.below,.inl ⟨1,by decide,rfl⟩⟩
      ·cases y1
       ·go_wp2_with fail;go_ret2;exact⟨n.out.below,.inl ⟨1,by decide,rfl⟩⟩
       ·cases y2
        ·go_wp2_with fail;go_ret2;exact⟨n.out.below,.inl ⟨1,by decide,rfl⟩⟩
        ·by_cases e3:k=0
         ·have f3:((k:Int)==0)=true:=by simp[e3]
          by_cases e4:hi=0
          ·have f4:(hi !=0)=false:=by simp[e4]
           clear e4 e3;go_wp2_with fail;go_ret2;refine⟨HE.out.2,.inr ⟨Y,sb,v,rfl,HE.out.1,n.out.db,n.out.sb,n.out.new⟩⟩
          ·have f4:(hi !=0)=true:=by simp[e4]
           go_wp2_with fail;go_ret2;exact⟨n.out.below,.inl ⟨1,by decide,rfl⟩⟩
         ·have f3:((k:Int)==0)=false:=by simp[e3]
          go_wp2_with fail;go_ret2;refine⟨HE.out.2,.inr ⟨Y,sb,v,rfl,HE.out.1,n.out.db,n.out.sb,n.out.new⟩⟩
def Ey(a1 a2 a3 a4 a5 a6 a7 a8 a9 a10:Int):Array Value:= #[I J 3,I U a1,I U a2,I J a3,I J a4,I J a5,I U a6,I J a7,I J a8,I J a9,I U a10]
theorem ZZ(w a1 a2 a3 a4 a5 a6 a7 a8 a9 a10):
  C prog 29 #[.agg #[I J 3,I U a1,I U a2,I J a3,I J a4,I J a5,I U a6,I J a7,I J a8,I J a9,I U a10]] w λe w' =>e=R (.agg (Ey 0 0 0 0 0 0 a7 a8 0 0))/\B w.heap.size w w' :=by
 go_enter func29,ntmps29;go_wp2;go_region;all_goals(try go_wp2)
 all_goals(
  refine bodyPost_ret (v:=.agg (Ey 0 0 0 0 0 0 a7 a8 0 0)) (by simp[results,results29,go_sem,Ey]) rfl ?_;exact⟨rfl,((((B.refl _ w).alloc (E _) _).alloc (by simp) _).alloc (by simp;omega) _).drew⟩)
theorem WQ(w a1 a2 a3 a4 a5 a6 a7 a8 a9 a10)(h:¬(1<=a7/\a7<=24/\1<=a8/\a8<=64)):
  C prog 30 #[.agg #[I J 3,I U a1,I U a2,I J a3,I J a4,I J a5,I U a6,I J a7,I J a8,I J a9,I U a10]] w λe w' =>(∃v,e=R (T #[v,I J 1]))/\B w.heap.size w w' :=by
 have D:=λW=>Ps a7 a8 W h;clear h;go_enter func30,ntmps30;go_wp2_with(go_at_call 15;refine(D _).mono ?_;rintro e F ⟨rfl,A⟩);go_ret2;exact⟨⟨_,rfl⟩,((B.refl _ w).alloc (E _) _).trans (A.mono (by simp))⟩
theorem Tb(w)(a1 a2 a3 a4 a5 a6 a9 a10:Int)(d F:Nat)(Q:1<=d)(K:d<=24)(M:1<=F)(O:F<=64):
  C prog 30 #[.agg #[I J 3,I U a1,I U a2,I J a3,I J a4,I J a5,I U a6,I J d,I J F,I J a9,I U a10]] w λe w' =>∃A sb,
   e=R (T #[.iface 131 (.agg #[P (S ⟨A,0,N⟩)]),I J 0])/\Au w' A sb (L N 0 0) d F 0 0 []/\
   w.heap.size<=A/\w.heap.size<=sb/\B w.heap.size w w' :=by
 have Z:=λW=>Tq d F W Q K M O;clear Q K M O;go_enter func30,ntmps30;go_wp2_with(go_at_call 15;refine(Z _).mono ?_;rintro e a ⟨A,sb,rfl,Y,D,G,X⟩);go_ret2;exact⟨A,sb,rfl,Y,by simp at D;omega,by simp at G;omega,((B.refl _ w).alloc (E _) _).trans (X.mono (by simp))⟩
structure Z4(w:World)(b:Nat)(a1 a2 a3 a4 a5 a6 a7 a8 a9 a10:Int)(W:World):Prop where
 blk:AI W b (Ey a1 a2 a3 a4 a5 a6 a7 a8 a9 a10) 28
 below:B w.heap.size w W
theorem Z4.next{w b a1 a2 a3 a4 a5 a6 a7 a8 a9 a10 W W'}(h:Z4 w b a1 a2 a3 a4 a5 a6 a7 a8 a9 a10 W)(A:B W.heap.size W W'):Z4 w b a1 a2 a3 a4 a5 a6 a7 a8 a9 a10 W' :=⟨h.blk.below A h.blk.lt,h.below.trans (A.mono h.below.size)⟩
theorem Z4.drew{w b a1 a2 a3 a4 a5 a6 a7 a8 a9 a10 W}(h:Z4 w b a1 a2 a3 a4 a5 a6 a7 a8 a9 a10 W):Z4 w b a1 a2 a3 a4 a5 a6 a7 a8 a9 a10 W.drew:=⟨h.blk.drew,h.below.drew⟩
theorem Z4.cells{w b a1 a2 a3 a4 a5 a6 a7 a8 a9 a10 W}(h:Z4 w b a1 a2 a3 a4 a5 a6 a7 a8 a9 a10 W):W.cell? ⟨b,0,N⟩=S (I J 3)/\W.cell? ⟨b,1,N⟩=S (I U a1)/\W.cell? ⟨b,2,N⟩=S (I U a2)/\W.cell? ⟨b,3,N⟩=S (I J a3)/\W.cell? ⟨b,4,N⟩=S (I J a4)/\W.cell? ⟨b,5,N⟩=S (I J a5)/\
  W.cell? ⟨b,6,N⟩=S (I U a6)/\W.cell? ⟨b,7,N⟩=S (I J a7)/\W.cell? ⟨b,8,N⟩=S (I J a8)/\W.cell? ⟨b,9,N⟩=S (I J a9)/\W.cell? ⟨b,10,N⟩=S (I U a10):=
 ⟨h.blk.cell rfl,h.blk.cell rfl,h.blk.cell rfl,h.blk.cell rfl,h.blk.cell rfl,h.blk.cell rfl,h.blk.cell rfl,h.blk.cell rfl,h.blk.cell rfl,h.blk.cell rfl,h.blk.cell rfl⟩
def gO(d F db:Nat):Array Value:= #[I J 3,I U 0,I U 0,I J 0,I J 0,I J 0,I U 0,I J d,I J F,I J 0,I U 0,.iface 131 (.agg #[P (S ⟨db,0,N⟩)])]
structure IE(w:W)(kb db sb:Nat)(v:V)(d F:Nat)(lo hi:Int)(l:AL):Prop where
 blk:AI w kb (gO d F db) 76
 dig:Au w db sb v d F lo hi l
theorem bj(w a1 a2 a3 a4 a5 a6 a7 a8 a9 a10):
  Calls prog 17 #[.agg #[I J 3,I U a1,I U a2,I J a3,I J a4,I J a5,I U a6,I J a7,I J a8,I J a9,I U a10]] w λe w' =>B w.heap.size w w' /\
   ((∃A,A≠0/\e=R (T #[P N,I J A]))\/∃(d F o Y sb:Nat),a7=(d:Int)/\a8=(F:Int)/\1<=d/\d<=24/\1<=F/\F<=64/\e=R (T #[P (S ⟨o,0,N⟩),I J 0])/\
    IE w' o Y sb (L N 0 0) d F 0 0 []/\w.heap.size<=o/\w.heap.size<=Y/\w.heap.size<=sb):=by
 have H:Z4 w w.heap.size a1 a2 a3 a4 a5 a6 a7 a8 a9 a10 (w.alloc (.cells (Ey a1 a2 a3 a4 a5 a6 a7 a8 a9 a10) 28)):=⟨AI.newAt rfl,Za⟩;have M:=λW=>cC W 3 a1 a2 a3 a4 a5 a6 a7 a8 a9 a10 3 0 0 0 0 0 0 a7 a8 0 0;obtain⟨sm,G⟩:∃b,b=Df 3 a1 a2 a3 a4 a5 a6 a7 a8 a9 a10 3 0 0 0 0 0 0 a7 a8 0 0:=⟨_,rfl⟩;have r:=Zh G;rw[<-G]at M;clear G;go_enter func17,ntmps17;go_upto_region 1 with fail;refine AG (C:=Z4 w w.heap.size a1 a2 a3 a4 a5 a6 a7 a8 a9 a10) (by kernel_rfl) (by kernel_rfl) H.drew ?_;repeat go_big_quiet_step(exact λ_=>rfl)
 go_big_quiet_want;refine⟨.agg #[I J 3,I U a1,I U a2,I J a3,I J a4,I J a5,I U a6,I J a7,I J a8,I J a9,I U a10],λj Q=> ?_,?_⟩
 ·obtain⟨h,Z,m,g,n,i,k,c,a,f,D⟩:=Q.cells;go_simp
 go_big_quiet_on;simp only[Jx,Zp,Zq,Zr];repeat go_big_quiet_step(exact λ_=>rfl)
 go_big_quiet_want;refine⟨.agg #[I J 3,I U a1,I U a2,I J a3,I J a4,I J a5,I U a6,I J a7,I J a8,I J a9,I U a10],λj Q=> ?_,?_⟩
 ·obtain⟨h,Z,m,g,n,i,k,c,a,f,D⟩:=Q.cells;go_simp
 go_big_quiet_on;simp only[Jx,Zp,Zq,Zr];repeat go_big_quiet_step(exact λ_=>rfl)
 go_big_quiet_want;go_big_quiet_op;refine⟨.agg #[I J 3,I U 0,I U 0,I J 0,I J 0,I J 0,I U 0,I J a7,I J a8,I J 0,I U 0],λj Q=> ?_,?_⟩
 ·exact(ZZ j a1 a2 a3 a4 a5 a6 a7 a8 a9 a10).mono λ_ _ t=>⟨t.1,Q.next t.2⟩
 go_big_quiet_on;repeat go_big_quiet_step(exact λ_=>rfl)
 refine wpQuiet_nil ?_;intro W1 K;clear M;have z:=K.below.size;cases sm with
 |false=>
  go_wp2_with fail;go_ret2;exact⟨K.below,.inl ⟨1,by decide,rfl⟩⟩
 |true=>
  have e:=r.out;unfold Df at e;simp only[beq_self_eq_true,Bool.true_and,Bool.and_true]at e;have q:=e.symm;simp only[gQ,beq_iff_eq]at q;obtain⟨⟨⟨⟨⟨⟨⟨e1,e3⟩,e4⟩,x⟩,e6⟩,e7⟩,e8⟩,e9⟩:=q;subst e1 e3 e4 x e6 e7 e8 e9;clear r e;obtain⟨h,Z,m,g,n,i,k,c,a,f,D⟩:=K.cells;by_cases hg:1<=a7/\a7<=24/\1<=a8/\a8<=64
  ·obtain⟨d,rfl⟩:∃d:Nat,a7=(d:Int):=⟨a7.toNat,by omega⟩;obtain⟨F,rfl⟩:∃F:Nat,a8=(F:Int):=⟨a8.toNat,by omega⟩;have O:=Tb W1 0 0 0 0 0 0 0 0 d F (by omega) (by omega) (by omega) (by omega);go_wp2_with fail;refine O.mono ?_;rintro e u ⟨Y,sb,rfl,D2,Aa,AA,l⟩;have X:=K.next l;obtain⟨h,Z,m,g,n,i,k,c,a,f,D⟩:=X.cells;clear O;go_wp2_with fail;go_ret2;have s1:=K.below.size;have p:=X.below.size;exact⟨X.below.alloc p _,.inr ⟨d,F,u.heap.size,Y,sb,rfl,rfl,by omega,by omega,by omega,by omega,rfl,⟨AI.newAt rfl,D2.next (Za)⟩,p,by omega,by omega⟩⟩
  ·have O:=WQ W1 0 0 0 0 0 0 a7 a8 0 0 hg;go_wp2_with fail;refine O.mono ?_;rintro e u ⟨⟨v,rfl⟩,l⟩;have X:=K.next l;clear O;go_wp2_with fail;go_ret2;exact⟨X.below,.inl ⟨1,by decide,rfl⟩⟩
end Go.Proofs.YtbejdajkkoapgaaGreatDoor
