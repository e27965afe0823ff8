/-
  Lemmas and walks for coreBurst.proved, joined and squeezed by a program out of the loose texts Lq, Hl, Rk, Lx, Rg. Conditions: each theorem states its own.
-/
import Derived.Test.YtbejdajkkoapgaaGreatDoorU08
import Derived.Test.YtbejdajkkoapgaaGreatDoorU12
import Derived.Test.YtbejdajkkoapgaaGreatDoorU09
import Derived.Test.YtbejdajkkoapgaaGreatDoorU03
import Derived.Test.YtbejdajkkoapgaaGreatDoorU05
import Derived.Test.YtbejdajkkoapgaaGreatDoorU07
set_option linter.all false
set_option maxRecDepth 100000
set_option maxHeartbeats 40000000
open Go.RowKit Go.Lib Go.Proofs.Tryz
open Bool renaming false_eq_true->gV
open Go renaming Calls->C,Value->V,World->W
open Go.Act renaming put->Jx
open Go.Ending renaming returned->R
open Go.IntKind renaming i64->J,u64->U,wrap_u64->V0
open Go.RowKit renaming Below->B
open Go.Value renaming int->I,pointer->P,slice->L,tuple->T
open Int renaming natCast_add->fj
open List renaming drop_eq_getElem_cons->fw,drop_succ_cons->gS,drop_zero->gT,foldl_cons->bw,foldl_nil->gd,getElem_cons_succ->gY,getElem_cons_zero->gX,getElem_mem->fk,getElem_toArray->gW,length_nil->gQ,length_take->fy,map_cons->fa,map_nil->gc,map_toArray->gZ,mem_cons->Q0,not_mem_nil->RR,setIfInBounds_toArray->dT,set_cons_succ->es,set_cons_zero->ej,take_append_drop->fx,take_length->gU,take_succ_cons->gR,take_succ_eq_append_getElem->fp,take_zero->bh
open Nat renaming le_refl->E,le_trans->ag,zero_le->aw
open Option renaming none->N,some->S,some.inj->NW
namespace Go.Proofs.YtbejdajkkoapgaaGreatDoor
structure Vg(hi:Bool)(M num den n:Nat)(B:Nat)(w:World)(lg bb tb:Nat)(vl vr:V)(ca cc:Nat)(Oa Oc:Nat->Prop)(k0 k1:AL)(T0 T1 z:Nat)(lo hh:Int)(va vb:V)(qb:Nat)(A:Option Addr)(c:Nat)(out:List UInt8)(b cb:Nat)(W:World):Prop where
 nas:CH B w qb A c out W
 hd:Bm hi M num den n w lg bb tb vl vr ca cc Oa Oc k0 k1 T0 T1 z lo hh
 blk:AI W b #[P (S ⟨lg,0,N⟩)] 122
 cfg:AI W cb #[I U num,I U den,I J (Dq hi),I J M] 120
 hB:B<=w.heap.size
 own:∀k,Dm lg bb tb vl vr Oa Oc k->k<B
 ra:W.ownsRow 0 228 2 va k0.length (AV k0)
 rb:W.ownsRow 0 228 2 vb k1.length (AV k1)
section
variable {hi:Bool} {M num den n:Nat} {B:Nat} {w:World} {lg bb tb:Nat} {vl vr:V} {ca cc:Nat} {Oa Oc:Nat->Prop} {k0 k1:AL} {T0 T1 z:Nat} {lo hh:Int} {va vb:V} {qb:Nat} {A:Option Addr} {c:Nat} {out:List UInt8} {b cb:Nat} {W W' :World}
theorem Vg.hdW(h:Vg hi M num den n B w lg bb tb vl vr ca cc Oa Oc k0 k1 T0 T1 z lo hh va vb qb A c out b cb W):Bm hi M num den n W lg bb tb vl vr ca cc Oa Oc k0 k1 T0 T1 z lo hh:=by
 have F:AD (λk=>B<=k) w W:=⟨h.nas.below.os,h.nas.below.tape,h.nas.below.output,h.nas.below.size,λk _ G=>h.nas.below.block k (by omega)⟩;exact h.hd.away F λk D=>by have:=h.own k D;omega
theorem Vg.next(h:Vg hi M num den n B w lg bb tb vl vr ca cc Oa Oc k0 k1 T0 T1 z lo hh va vb qb A c out b cb W)(k:Below W.heap.size W W'):Vg hi M num den n B w lg bb tb vl vr ca cc Oa Oc k0 k1 T0 T1 z lo hh va vb qb A c out b cb W' :=
 ⟨h.nas.nextH h.hB k,h.hd,h.blk.below k h.blk.lt,h.cfg.below k h.cfg.lt,h.hB,h.own,AE h.ra k λg D=>(h.ra.lt g D).2,AE h.rb k λg D=>(h.rb.lt g D).2⟩
theorem Vg.put{A' c' D}(h:Vg hi M num den n B w lg bb tb vl vr ca cc Oa Oc k0 k1 T0 T1 z lo hh va vb qb A c out b cb W)(k:CH B W qb A' c' D W'):Vg hi M num den n B w lg bb tb vl vr ca cc Oa Oc k0 k1 T0 T1 z lo hh va vb qb A' c' D b cb W' :=
 ⟨h.nas.trans k,h.hd,k.keep _ _ _ (by decide) (by decide) h.blk,k.keep _ _ _ (by decide) (by decide) h.cfg,h.hB,h.own,k.owns h.ra,k.owns h.rb⟩
theorem Vg.cell(h:Vg hi M num den n B w lg bb tb vl vr ca cc Oa Oc k0 k1 T0 T1 z lo hh va vb qb A c out b cb W):W.cell? ⟨b,0,N⟩=S (P (S ⟨lg,0,N⟩)):=h.blk.cell rfl
theorem Vg.size(h:Vg hi M num den n B w lg bb tb vl vr ca cc Oa Oc k0 k1 T0 T1 z lo hh va vb qb A c out b cb W):B<=W.heap.size:=ag h.hB h.nas.below.size
end
theorem ei(a b c d):[a,b,c,d].flatMap AK=AK a++AK b++AK c++AK d:=by simp
theorem ek(a b c):[a,b,c].flatMap AK=AK a++AK b++AK c:=by simp
def NV(num den sd M zl zh z l0 l1:Nat)(k0 k1:AL):List UInt8:=AK num++AK den++AK sd++AK M++(AK zl++AK zh)++(AK z++AK l0++AK l1)++Dc k0++Dc k1
def Z2(hi:Bool):Nat:=if hi then 1 else 0
theorem Y6{hi M num den n}(B w lg bb tb vl vr ca cc Oa Oc)(k0 k1:AL)(T0 T1 z lo hh qb A c)(hq:Fi B w qb (L A ([]:List UInt8).length c) [])(hB:B<=w.heap.size)(h:Bm hi M num den n w lg bb tb vl vr ca cc Oa Oc k0 k1 T0 T1 z lo hh)(g:∀k,Dm lg bb tb vl vr Oa Oc k->k<B)
  (BA:num<18446744073709551616)(A3:den<18446744073709551616)(hM:M<=4096)(hT:T0+z+T1<=9223372036854775807)(Bb:T0+z+T1=0->lo=0/\hh=0)(Ac:Am lo)(Aw:Am hh)(w0:TI k0)(D:TI k1):
  C prog 221 #[.agg #[P (S ⟨lg,0,N⟩)],P (S ⟨qb,0,N⟩)] w λe w' =>e=R (T #[])/\∃A' c',CH B w qb A' c' (NV num den (Z2 hi) M (AX lo) (AX hh) z (T0-AB k0) (T1-AB k1) k0 k1) w' :=by
 have S0:CH B w qb A c [] w:=CH.start hq;have b0:Below w.heap.size w (w.alloc (.cells #[P (S ⟨lg,0,N⟩)] 122)):=Za;have BX:AI (w.alloc (.cells #[P (S ⟨lg,0,N⟩)] 122)) w.heap.size #[P (S ⟨lg,0,N⟩)] 122:=AI.newAt rfl;have f:=VN _ lg bb tb vl vr ca cc Oa Oc k0 k1 T0 T1 z lo hh (h.next b0);have j:=Zh (λW (k:Below w.heap.size w W)=>YY W lg bb tb vl vr ca cc Oa Oc k0 k1 T0 T1 z lo hh (h.next k) hT Bb);have Y:=Zh (λW (k:Bm hi M num den n W lg bb tb vl vr ca cc Oa Oc k0 k1 T0 T1 z lo hh)=>UE W lg bb tb vl vr ca cc Oa Oc k0 k1 T0 T1 z lo hh k);have Av:=Zh (λW (k:Below w.heap.size w W)=>an W bb tb vl vr ca cc Oa Oc k0 k1 T0 T1 z (h.next k).bn (by have:=w0.1;omega) (by have:=D.1;omega));have F :=Zh (λW (k:Bm hi M num den n W lg bb tb vl vr ca cc Oa Oc k0 k1 T0 T1 z lo hh)=>ak W bb tb vl vr ca cc Oa Oc k0 k1 T0 T1 z k.bn);have A1:=Zh (λW (k:Bm hi M num den n W lg bb tb vl vr ca cc Oa Oc k0 k1 T0 T1 z lo hh)=>am W bb tb vl vr ca cc Oa Oc k0 k1 T0 T1 z k.bn);obtain⟨l0,BQ⟩:∃l,l=T0-AB k0:=⟨_,rfl⟩;obtain⟨l1,Al⟩:∃l,l=T1-AB k1:=⟨_,rfl⟩;rw[<-BQ,<-Al]at F ⊢;have MK:=Zh (show∀W cb va vb,Below w.heap.size w W->AI W w.heap.size #[P (S ⟨lg,0,N⟩)] 122->AI W cb #[I U num,I U den,I J (Dq hi),I J M] 120->W.ownsRow 0 228 2 va k0.length (AV k0)->W.ownsRow 0 228 2 vb k1.length (AV k1)->Vg hi M num den n B w lg bb tb vl vr ca cc Oa Oc k0 k1 T0 T1 z lo hh va vb qb A c [] w.heap.size cb W from
  λW cb va vb k Ck CL ra rb=>⟨S0.nextH hB k,h,Ck,CL,hB,g,ra,rb⟩)
 have i:=Zh (Zi w0 (Zi D (Zi (CN k0 w0) (CN k1 D))));generalize(T0+z+T1 !=0)=tbo at j;have C4:=AC num BA;have D0:=AC den A3;have E3:=AC (AX lo) (Ao lo Ac).2;have E0:=AC (AX hh) (Ao hh Aw).2;have B3:z<18446744073709551616:=by omega
 have Ba:l0<18446744073709551616:=by omega
 have A2:l1<18446744073709551616:=by omega
 have Cs:=AC z B3;have C3:=AC l0 Ba;have C9:=AC l1 A2;have E2:=AC M (by omega);have D2:=AC (Z2 hi) (by cases hi<;>decide);have E1:Z2 hi<=1:=by cases hi<;>decide
 have C0:U.wrap (Dq hi)=((Z2 hi:Nat):Int):=by cases hi<;>rfl
 have D8:U.wrap (M:Int)=(M:Int):=by rw[V0];omega
 have G:=Zh (Zi b0 (Zi BX h));clear S0 g hq h b0 BX w0 D Bb BQ Al;go_enter func221,ntmps221;go_wp2_with fail;refine f.mono ?_;rintro e D ⟨b1,rfl⟩;have B1:=G.out.1.trans (b1.mono G.out.1.size);have X1:=G.out.2.1.below b1 G.out.2.1.lt;have C1:AI (D.alloc (.cells #[I U num,I U den,I J (Dq hi),I J M] 120)) D.heap.size #[I U num,I U den,I J (Dq hi),I J M] 120:=AI.newAt rfl;have Z:=Zh (Zi (B1.alloc B1.size (.cells #[I U num,I U den,I J (Dq hi),I J M] 120)) (Zi (X1.alloc (.cells #[I U num,I U den,I J (Dq hi),I J M] 120)) C1));have H :D.cell? ⟨w.heap.size,0,N⟩=S (P (S ⟨lg,0,N⟩)):=X1.cell rfl;have B9:=X1.lt;have AA:=j.out _ Z.out.1;clear f b1 B1 X1 C1 j;go_wp2_with fail;refine AA.mono ?_;rintro e w2 ⟨rfl,b2⟩;have B2:=Z.out.1.trans (b2.mono Z.out.1.size);have X2:=Z.out.2.1.below b2 Z.out.2.1.lt;have C2:=Z.out.2.2.below b2 Z.out.2.2.lt;have H :w2.cell? ⟨w.heap.size,0,N⟩=S (P (S ⟨lg,0,N⟩)):=X2.cell rfl;have Ay:=Y.out w2 (G.out.2.2.next B2);have BR:=Av.out w2 B2;have q:=Zh (Zi B2 (Zi X2 C2));clear AA b2 B2 X2 C2 Av B9;go_wp2_with fail;refine Ay.mono ?_;rintro e C8 ⟨rfl,rfl⟩;clear Ay;go_wp2_with fail;refine BR.mono ?_;rintro e w3 ⟨va,vb,rfl,ra,rb,b3⟩;have s:=MK.out w3 D.heap.size va vb (q.out.1.trans (b3.mono q.out.1.size)) (q.out.2.1.below b3 q.out.2.1.lt) (q.out.2.2.below b3 q.out.2.2.lt) ra rb
 obtain⟨Aa,pa,B5⟩:=AF ra;obtain⟨Ab,pb,Cr⟩:=AF rb;subst B5;subst Cr;obtain⟨n0,p⟩:∃n,n=k0.length:=⟨_,rfl⟩;obtain⟨n1,m⟩:∃n,n=k1.length:=⟨_,rfl⟩;have HN:=Zh (Zi p m);rw[<-p,<-m]at s⊢;have H :=s.cell;have A0:=Y.out w3 s.hdW;have Ax:=F.out w3 s.hdW;have H3:=Zh s;clear BR ra rb b3 q MK p m s F Z;go_wp2_with fail;refine A0.mono ?_;rintro e D5 ⟨rfl,rfl⟩;clear A0;go_wp2_with fail;refine Ax.mono ?_;rintro e u ⟨rfl,b4⟩;have X:=H3.out.next b4;have H :=X.cell;have f0:u.cell? ⟨D.heap.size,0,N⟩=S (I U num):=X.cfg.cell rfl;have f1:u.cell? ⟨D.heap.size,1,N⟩=S (I U den):=X.cfg.cell rfl;have f2:u.cell? ⟨D.heap.size,2,N⟩=S (I J (Dq hi)):=X.cfg.cell rfl;have f3:u.cell? ⟨D.heap.size,3,N⟩=S (I J M):=X.cfg.cell rfl;have Bt:=Cd B (u.alloc (.cells (Dr [num,den,(Z2 hi),M]) 23)) qb u.heap.size 4 A c [] [num,den,(Z2 hi),M] (X.nas.qu.alloc _) (by have:=X.size;simp;omega) (AI.newAt rfl)
  (λn hn=>by simp at hn;omega) (by simp;omega) (by simp)
 have H4:=Zh X;clear Ax H3 b4 X;go_wp2_with fail;refine Bt.mono ?_;rintro e w5 ⟨rfl,A5,k5,S5⟩;have o:=(H4.out.next (Za)).put S5;rw[ei,List.nil_append]at o;have d:=IK B (w5.alloc (.cells (IJ [lo,hh]) 2)) qb w5.heap.size 2 A5 k5 (AK num++AK den++AK (Z2 hi)++AK M) [lo,hh] (o.nas.qu.alloc _) (by have:=o.size;simp;omega) (AI.newAt rfl)
   (λx hx=>by simp at hx;rcases hx with rfl|rfl;exact Ac;exact Aw) (by simp;omega) (by simp)
 have o:=Zh o;clear Bt S5 H4 f0 f1 f2 f3;go_wp2_with fail;refine d.mono ?_;rintro e w6 ⟨rfl,A6,k6,S6⟩;have O:=(o.out.next (Za)).put S6;have H :=O.cell;rw[PA]at O;have Bu:=Y.out w6 O.hdW;have Ar:=A1.out w6 O.hdW;have O:=Zh O;clear d S6 o Y A1;go_wp2_with fail;refine Bu.mono ?_;rintro e B0 ⟨rfl,rfl⟩;clear Bu;go_wp2_with fail;refine Ar.mono ?_;rintro e B0 ⟨rfl,rfl⟩;have A7:=Cd B (w6.alloc (.cells (Dr [z,l0,l1]) 23)) qb w6.heap.size 3 A6 k6 (AK num++AK den++AK (Z2 hi)++AK M++(AK (AX lo)++AK (AX hh))) [z,l0,l1] (O.out.nas.qu.alloc _) (by have:=O.out.size;simp;omega) (AI.newAt rfl)
   (λn hn=>by simp at hn;omega) (by simp;omega) (by simp)
 clear Ar H;go_wp2_with fail;refine A7.mono ?_;rintro e w8 ⟨rfl,A8,k8,S8⟩;have t:=(O.out.next (Za)).put S8;rw[ek]at t;have Bw:=I6 B w8 qb A8 k8 (AK num++AK den++AK (Z2 hi)++AK M++(AK (AX lo)++AK (AX hh))++(AK z++AK l0++AK l1)) _ _ k0 t.nas.qu t.size t.ra (by have:=i.out.1.1;omega) i.out.1.2.1 i.out.1.2.2 (by simp;omega);have Ap:=Zh t;clear A7 S8 t O;go_wp2_with fail;refine Bw.mono ?_;rintro e w9 ⟨rfl,A9,k9,S9⟩;have H9:=Ap.out.put S9;have v:=I6 B w9 qb A9 k9 ((AK num++AK den++AK (Z2 hi)++AK M++(AK (AX lo)++AK (AX hh))++(AK z++AK l0++AK l1))++Dc k0) _ _ k1 H9.nas.qu H9.size H9.rb (by have:=i.out.2.1.1;omega) i.out.2.1.2.1 i.out.2.1.2.2 (by have:=i.out.2.2.1;have:=i.out.1.1;simp;omega);have A4:=Zh H9;clear Bw S9 H9 Ap;go_wp2_with fail;refine v.mono ?_;rintro e D1 ⟨rfl,B4,y,Bs⟩;have Cp:=Zh (A4.out.put Bs);clear v Bs A4;go_wp2_with fail;go_end0;exact⟨rfl,B4,y,Cp.out.nas⟩
theorem NY(w)(b:Nat)(x y z:Nat)(h:x+y+z<=9223372036854775807)(G:w.cell? ⟨b,0,N⟩=S (I U x))(O:w.cell? ⟨b,1,N⟩=S (I U y))(F:w.cell? ⟨b,2,N⟩=S (I U z)):
  C prog 90 #[L (S ⟨b,0,N⟩) 3 3] w λe w' =>e=R (T #[I U (x+y+z:Nat),.bool true])/\w=w' :=by
 have Y:¬9223372036854775807<(x:Int):=by omega
 have H:¬9223372036854775807-(x:Int)<(y:Int):=by omega
 have g:¬9223372036854775807-((x:Int)+(y:Int))<(z:Int):=by omega
 have Z:U.wrap (9223372036854775807-(x:Int))=9223372036854775807-(x:Int):=by rw[V0];omega
 have X:U.wrap ((x:Int)+(y:Int))=(x:Int)+(y:Int):=by rw[V0];omega
 have d:U.wrap (x:Int)=(x:Int):=by rw[V0];omega
 have f:U.wrap (9223372036854775807-((x:Int)+(y:Int)))=9223372036854775807-((x:Int)+(y:Int)):=by rw[V0];omega
 have D:U.wrap ((x:Int)+(y:Int)+(z:Int))=(x:Int)+(y:Int)+(z:Int):=by rw[V0];omega
 go_enter func90,ntmps90;go_wp2;refine wp_loop_rounds 4 ?_;rw[rounds_succ];go_wp2_with fail;rw[rounds_succ];go_wp2_with fail;rw[rounds_succ];go_wp2_with fail;rw[rounds_succ];go_wp2_with fail;go_ret2;exact⟨by rw[fj,fj];rfl,rfl⟩
theorem TJ(u v w):(Instr.index 195 (.agg #[u,v]) (I J 0)).run prog w=.ok u w:=by kernel_rfl
theorem TK(u v w):(Instr.index 195 (.agg #[u,v]) (I J 1)).run prog w=.ok v w:=by kernel_rfl
structure MI(w:World)(hb pb s0 s1 dg:Nat)(lim:Int)(a b:AL)(z:Nat)(lo hi:Int)(W:World):Prop where
 cur:∃v0 v1,Cm W hb pb s0 s1 v0 v1 dg lim a b z lo hi/\∀k,Ce hb pb s0 s1 v0 v1 k->w.heap.size<=k
 below:B w.heap.size w W
structure JM(w:World)(hb pb s0 s1 dg:Nat)(lim:Int)(a b:AL)(xb:Nat)(ix ct:Nat)(W:World):Prop where
 cur:∃v0 v1,Cm W hb pb s0 s1 v0 v1 dg lim a b 0 0 0/\(∀k,Ce hb pb s0 s1 v0 v1 k->w.heap.size<=k)/\¬Ce hb pb s0 s1 v0 v1 xb
 below:B w.heap.size w W
 p:AI W xb #[I J ix,I U ct] 228
section
variable {w:World} {hb pb s0 s1 dg:Nat} {lim:Int} {a b:AL} {z:Nat} {lo hi:Int} {xb ix ct:Nat} {W W' :World}
theorem MI.next(h:MI w hb pb s0 s1 dg lim a b z lo hi W)(k:B W.heap.size W W'):MI w hb pb s0 s1 dg lim a b z lo hi W' :=by
 obtain⟨⟨G,v1,F,H⟩,D⟩:=h;exact⟨⟨G,v1,F.next k,H⟩,D.trans (k.mono D.size)⟩
theorem MI.tot0(h:MI w hb pb s0 s1 dg lim a b z lo hi W):C prog 94 #[P (S ⟨s0,0,N⟩)] W λe w' =>e=R (I U (AB a:Nat))/\W=w' :=by
 obtain⟨F,v1,D,_⟩:=h.cur;exact Co W s0 _ D.st0.cells.2.2.1
theorem MI.tot1(h:MI w hb pb s0 s1 dg lim a b z lo hi W):C prog 94 #[P (S ⟨s1,0,N⟩)] W λe w' =>e=R (I U (AB b:Nat))/\W=w' :=by
 obtain⟨F,v1,D,_⟩:=h.cur;exact Co W s1 _ D.st1.cells.2.2.1
theorem JM.next(h:JM w hb pb s0 s1 dg lim a b xb ix ct W)(k:B W.heap.size W W'):JM w hb pb s0 s1 dg lim a b xb ix ct W' :=by
 obtain⟨⟨X,v1,O,G,H⟩,F,D⟩:=h;exact⟨⟨X,v1,O.next k,G,H⟩,F.trans (k.mono F.size),D.below k D.lt⟩
theorem JM.drew(h:JM w hb pb s0 s1 dg lim a b xb ix ct W):JM w hb pb s0 s1 dg lim a b xb ix ct W.drew:=h.next (B.refl _ _).drew
theorem MI.pair(h:MI w hb pb s0 s1 dg lim a b 0 0 0 W)(ix ct):JM w hb pb s0 s1 dg lim a b W.heap.size ix ct (W.alloc (.cells #[I J ix,I U ct] 228)):=by
 obtain⟨⟨H,v1,D,G⟩,F⟩:=h;exact⟨⟨H,v1,D.next (Za),G,λO=>Nat.lt_irrefl _ (D.lt _ O)⟩,F.alloc F.size _,AI.newAt rfl⟩
theorem JM.pc(h:JM w hb pb s0 s1 dg lim a b xb ix ct W):W.cell? ⟨xb,0,N⟩=S (I J ix)/\W.cell? ⟨xb,1,N⟩=S (I U ct):=⟨h.p.cell rfl,h.p.cell rfl⟩
theorem JM.rep(F:Sp.logD dg<=14)(h:JM w hb pb s0 s1 dg lim a b xb ix ct W):C prog 92 #[P (S ⟨pb,0,N⟩),I J ix] W λe w' =>e=R (I U (Sp.repS (Sp.logD dg) (ix:Int)))/\JM w hb pb s0 s1 dg lim a b xb ix ct w' :=by
 obtain⟨O,v1,D,G,H⟩:=h.cur;exact(Sp.rep_any pb (Sp.logD dg) (ix:Int) W F D.span).mono λe w' hh=>⟨hh.1,h.next hh.2.below⟩
theorem JM.addTo0(h:JM w hb pb s0 s1 dg lim a b xb ix ct W){x c:Nat}(o:1<=c)(f:AB a+c<=9223372036854775807)(F:a.length<4096):
  C prog 93 #[P (some ⟨s0,0,N⟩),I J x,I U c] W λe w' =>e=R (I J 0)/\MI w hb pb s0 s1 dg lim (Ak a x c) b 0 0 0 w' /\AI w' xb #[I J ix,I U ct] 228:=by
 obtain⟨⟨O,v1,Y,X,l⟩,H,Z⟩:=h;refine(Cc W s0 O a x c Y.st0 o f F).mono λe w' hh=> ?_;obtain⟨j,g,S,A,K⟩:=hh;obtain⟨m,d⟩:=Y.add0 S A K;have D:∀i,i=s0\/O.ownBlock=some i->Ce hb pb s0 s1 O v1 i:=by
  rintro i (e|e)
  ·exact .inr (.inr (.inl e))
  ·exact .inr (.inr (.inr (.inr (.inl e))))
 refine⟨j,⟨⟨g,v1,m,λi hi=> ?_⟩,H.trans (A.below H.size λk p G=>by have:=X k (D k G);omega)⟩,Z.away A λG=>l (D _ G)⟩;rcases d i hi with e|e
 ·exact X i e
 ·exact ag H.size e
theorem JM.addTo1(h:JM w hb pb s0 s1 dg lim a b xb ix ct W){x c:Nat}(o:1<=c)(f:AB b+c<=9223372036854775807)(F:b.length<4096):
  C prog 93 #[P (some ⟨s1,0,N⟩),I J x,I U c] W λe w' =>e=R (I J 0)/\MI w hb pb s0 s1 dg lim a (Ak b x c) 0 0 0 w' /\AI w' xb #[I J ix,I U ct] 228:=by
 obtain⟨⟨Y,v1,X,O,l⟩,H,Z⟩:=h;refine(Cc W s1 v1 b x c X.st1 o f F).mono λe w' hh=> ?_;obtain⟨j,g,S,A,K⟩:=hh;obtain⟨m,d⟩:=X.add1 S A K;have D:∀i,i=s1\/v1.ownBlock=some i->Ce hb pb s0 s1 Y v1 i:=by
  rintro i (e|e)
  ·exact .inr (.inr (.inr (.inl e)))
  ·exact .inr (.inr (.inr (.inr (.inr e))))
 refine⟨j,⟨⟨Y,g,m,λi hi=> ?_⟩,H.trans (A.below H.size λk p G=>by have:=O k (D k G);omega)⟩,Z.away A λG=>l (D _ G)⟩;rcases d i hi with e|e
 ·exact O i e
 ·exact ag H.size e
end
def fs(w:W)(dg:Nat)(lim:Int)(l0 l1:AL)(z:Nat)(lo hi:Int)(e:Ending)(w' :W):Prop:=∃(po:Option Addr) (code:Int),e=R (T #[P po,I J code])/\B w.heap.size w w' /\
 (code=0->∃hb pb s0 s1 v0 v1,po=S ⟨hb,0,N⟩/\Cm w' hb pb s0 s1 v0 v1 dg lim l0 l1 z lo hi/\∀k,Ce hb pb s0 s1 v0 v1 k->w.heap.size<=k)
theorem Y7(w)(ht:Sp.Tens w)(dg:Nat)(lim:Int)(l0 l1:AL)(z:Nat)(lo hi:Int)(va vb)(oa:w.ownsRow 0 228 2 va l0.length (AV l0))(ob:w.ownsRow 0 228 2 vb l1.length (AV l1))
  (h1:1<=dg)(h2:dg<=4)(Bt:0<=lim)(hl:lim<=9223372036854775808)(C2:AT l0)(Fa:Bh l0)(CL:AT l1)(hf1:Bh l1)(D5:l0.length<=4000)(E1:l1.length<=4000)(hT:C6 l0 l1 z<=9223372036854775807):
  Calls prog 78 #[.agg #[I J dg,I U lim],va,vb,I U z,I J lo,I J hi] w (fs w dg lim l0 l1 z lo hi):=by
 have b0:Below w.heap.size w (w.alloc (.cells #[I J dg,I U lim] 127)):=Za;have hn:=Ts _ (ht.next b0) dg lim h1 h2 Bt hl;have hL:Sp.logD dg<=14:=(Sp.logD_le dg).2;obtain⟨Aa,ca,Cp⟩:=AF oa;obtain⟨Ab,cb,C4⟩:=AF ob;subst Cp;subst C4;have OA:=Zh oa;have OB:=Zh ob;obtain⟨n0,AA⟩:∃n,n=l0.length:=⟨_,rfl⟩;obtain⟨n1,Ax⟩:∃n,n=l1.length:=⟨_,rfl⟩;have A7:=Zh AA;have A3:=Zh Ax;rw[<-AA]at OA;rw[<-Ax]at OB;rw[<-AA,<-Ax];have E0:AB l0<=C6 l0 l1 z:=by unfold C6;omega
 have E5:AB l1<=C6 l0 l1 z:=by unfold C6;omega
 have D1:=Zh (show AB l0+AB l1+z<=9223372036854775807 from by have h:=hT;unfold C6 at h;omega);have C0:=Zh hT;clear oa ob ht AA Ax h1 h2 Bt hl;go_enter func78,ntmps78;go_wp2_with fail;refine hn.mono ?_;rintro e w1 ⟨hb,pb,s0,s1,rfl,f,g1,g2,g3,g4,b1⟩;have B1:=b0.trans (b1.mono b0.size);have hz:=b0.size;have C1:MI w hb pb s0 s1 dg lim [] [] 0 0 0 w1:=⟨⟨_,_,f,by
  rintro k (rfl|rfl|rfl|rfl|e|e)
  ·omega
  ·omega
  ·omega
  ·omega
  ·simp[V.ownBlock]at e
  ·simp[V.ownBlock]at e⟩,B1⟩
 have Bb:=Zh C1;clear hn f g1 g2 g3 g4 b1 B1 C1 hz b0;go_wp2_with fail;go_loopg [18,20,34] 2 (λg E4 E3 i wr=>∃r:Nat,i=I J r/\r<=2/\2-r<=g/\MI w hb pb s0 s1 dg lim (if r=0 then []else l0) (if r=2 then l1 else []) 0 0 0 wr);case atStart=>exact⟨0,rfl,by decide,by decide,Bb.out⟩
 case round=>
  clear Bb;obtain⟨r,rfl,hr,C9,H⟩:=hrel;have BR:=λw=>TJ (L Aa n0 ca) (L Ab n1 cb) w;have Ba:=λw=>TK (L Aa n0 ca) (L Ab n1 cb) w;by_cases k0:r=0
  ·subst k0;replace H:MI w hb pb s0 s1 dg lim [] [] 0 0 0 wr:=H;have HX:=Zh H;clear H;go_wp2_with fail;go_loopg [18,40] n0 (λg la i wr=>∃q:Nat,i=I J q/\q<=n0/\n0-q<=g/\(∃x:Int,la=I J x)/\MI w hb pb s0 s1 dg lim (AZ [] (l0.take q)) [] 0 0 0 wr);case atStart=>exact⟨0,rfl,aw _,E _,⟨0,rfl⟩,by rw[bh];exact HX.out⟩
   case round=>
    clear HX;obtain⟨q,rfl,hq,hg,⟨la,rfl⟩,H⟩:=hrel;by_cases A8:q<n0
    ·have g1:(q:Int)<(n0:Int):=by omega
     have G:q<l0.length:=by rw[<-A7.out];exact A8
     have O1:=AE OA.out H.below λg hg=>(OA.out.lt g hg).2;rcases AH O1 with⟨t,AA,_⟩|⟨g',C8,t,Cr,Bu,_,Ck⟩
     ·omega
     simp only[L.injEq]at t;obtain⟨rfl,D0,rfl⟩:=t;have O2:wr.ownsRow 0 228 2 (L (S ⟨g',0,N⟩) l0.length ca) l0.length (AV l0):=by
      have e:n0=l0.length:=A7.out;rw[e]at O1;exact O1
     obtain⟨ix,o⟩:∃i,i=(l0[q]'G).1:=⟨_,rfl⟩;obtain⟨ct,j⟩:∃i,i=(l0[q]'G).2:=⟨_,rfl⟩;have u:=Fa _ (fk G);rw[<-j]at u;have Av:AZ [] (l0.take (q+1))=Ak (AZ [] (l0.take q)) ix ct:=by
      rw[fp G,Es,o,j]
     have Al:AB (l0.take q)+ct<=AB l0:=by
      have e:l0=l0.take q++((l0[q]'G)::l0.drop (q+1)):=by rw[<-fw G,fx]
      have e2:AB l0=AB (l0.take q)+AB ((l0[q]'G)::l0.drop (q+1)):=by
       conv=>lhs;rw[e]
       exact Bv _ _ _
      have e3:AB ((l0[q]'G)::l0.drop (q+1))=(l0[q]'G).2+AB (l0.drop (q+1)):=by unfold AB;rw[AQ];simp
      omega
     have BQ:=DS [] (l0.take q);have A2:AB ([]:AL)=0:=rfl;have s:=Ed [] (l0.take q);rw[fy]at s;simp only[gQ]at s;have p0:wr.cell? ⟨g',q*2,N⟩=S (I J ix):=by rw[O2.cellAt _ (by omega),BI l0 q G,o]
     have p1:wr.cell? ⟨g',q*2+1,N⟩=S (I U ct):=by rw[O2.cellAt _ (by omega),BT l0 q G,j]
     have v:JM w hb pb s0 s1 dg lim (AZ [] (l0.take q)) [] wr.heap.size ix ct (wr.alloc (.cells #[I J ix,I U ct] 228)):=H.pair ix ct;have Z:=λW (x:JM w hb pb s0 s1 dg lim (AZ [] (l0.take q)) [] wr.heap.size ix ct W)=>x.addTo0 (x:=ix) (c:=ct) u (by omega) (by omega);rw[<-Av]at Z;have C3:=Zh v;clear o j H O1 O2 Av Al BQ A2 s u;by_cases BA:(ix:Int)<=la
     ·have d1:decide ((ix:Int)<=la)=true:=by simp[BA]
      go_upto_region 11 with fail;refine AG (C:=JM w hb pb s0 s1 dg lim (AZ [] (l0.take q)) [] wr.heap.size ix ct) (by kernel_rfl) (by kernel_rfl) v.drew ?_;clear v;repeat go_big_quiet_step(exact λ_=>rfl)
      go_big_quiet_want;refine⟨I J ix,λY O=> ?_,?_⟩
      ·obtain⟨p0,p1⟩:=O.pc;go_simp
      go_big_quiet_on;simp only[Jx,Zp,Zq,Zr];repeat go_big_quiet_step(exact λ_=>rfl)
      refine wpQuiet_nil ?_;intro W1 f;have HH:=Zh f.below;clear f Z;go_wp2_with fail;go_ret2;exact⟨_,_,rfl,HH.out,λh=>absurd h (by decide)⟩
     ·have d1:decide ((ix:Int)<=la)=false:=by simp;omega
      have d:=λW (x:JM w hb pb s0 s1 dg lim (AZ [] (l0.take q)) [] wr.heap.size ix ct W)=>x.rep hL;obtain⟨F,hR⟩:∃F,F=Sp.repS (Sp.logD dg) (ix:Int):=⟨_,rfl⟩;rw[<-hR]at d;clear hR;by_cases hz:F=0
      ·have d2:(F==0)=true:=by simp[hz]
       go_upto_region 11 with fail;refine AG (C:=JM w hb pb s0 s1 dg lim (AZ [] (l0.take q)) [] wr.heap.size ix ct) (by kernel_rfl) (by kernel_rfl) v.drew ?_;clear v;repeat go_big_quiet_step(exact λ_=>rfl)
       go_big_quiet_want;refine⟨I J ix,λY O=> ?_,?_⟩
       ·obtain⟨p0,p1⟩:=O.pc;go_simp
       go_big_quiet_on;simp only[Jx,Zp,Zq,Zr];repeat go_big_quiet_step(exact λ_=>rfl)
       go_big_quiet_want;refine⟨P (S ⟨pb,0,N⟩),λY O=> ?_,?_⟩
       ·obtain⟨Aw,Ap,X,_,_⟩:=O.cur;obtain⟨c0,c1,c2,c3,c4,c5,c6,c7,f5,f6,f7⟩:=X.cells;go_simp
       go_big_quiet_on;simp only[Jx,Zp,Zq,Zr];repeat go_big_quiet_step(exact λ_=>rfl)
       go_big_quiet_want;refine⟨I J ix,λY O=> ?_,?_⟩
       ·obtain⟨p0,p1⟩:=O.pc;go_simp
       go_big_quiet_on;simp only[Jx,Zp,Zq,Zr];repeat go_big_quiet_step(exact λ_=>rfl)
       go_big_quiet_want;go_big_quiet_op;refine⟨I U F,λY O=> ?_,?_⟩
       ·exact d Y O
       go_big_quiet_on;repeat go_big_quiet_step(exact λ_=>rfl)
       refine wpQuiet_nil ?_;intro W1 f;have HH:=Zh f.below;clear f Z d;go_wp2_with fail;go_ret2;exact⟨_,_,rfl,HH.out,λh=>absurd h (by decide)⟩
      ·have d2:(F==0)=false:=by simp[hz]
       go_upto_region 11 with fail;refine AS 25 (C:=JM w hb pb s0 s1 dg lim (AZ [] (l0.take q)) [] wr.heap.size ix ct) (by kernel_rfl) (by kernel_rfl) v.drew ?_;clear v;simp only[gR,bh,gS,gT];repeat go_big_quiet_step(exact λ_=>rfl)
       go_big_quiet_want;refine⟨I J ix,λY O=> ?_,?_⟩
       ·obtain⟨p0,p1⟩:=O.pc;go_simp
       go_big_quiet_on;simp only[Jx,Zp,Zq,Zr];repeat go_big_quiet_step(exact λ_=>rfl)
       go_big_quiet_want;refine⟨P (S ⟨pb,0,N⟩),λY O=> ?_,?_⟩
       ·obtain⟨Aw,Ap,X,_,_⟩:=O.cur;obtain⟨c0,c1,c2,c3,c4,c5,c6,c7,f5,f6,f7⟩:=X.cells;go_simp
       go_big_quiet_on;simp only[Jx,Zp,Zq,Zr];repeat go_big_quiet_step(exact λ_=>rfl)
       go_big_quiet_want;refine⟨I J ix,λY O=> ?_,?_⟩
       ·obtain⟨p0,p1⟩:=O.pc;go_simp
       go_big_quiet_on;simp only[Jx,Zp,Zq,Zr];repeat go_big_quiet_step(exact λ_=>rfl)
       go_big_quiet_want;go_big_quiet_op;refine⟨I U F,λY O=> ?_,?_⟩
       ·exact d Y O
       go_big_quiet_on;repeat go_big_quiet_step(exact λ_=>rfl)
       go_big_quiet_want;refine⟨P (S ⟨s0,0,N⟩),λY O=> ?_,?_⟩
       ·obtain⟨Aw,Ap,X,_,_⟩:=O.cur;obtain⟨c0,c1,c2,c3,c4,c5,c6,c7,f5,f6,f7⟩:=X.cells;go_simp
       go_big_quiet_on;simp only[Jx,Zp,Zq,Zr];repeat go_big_quiet_step(exact λ_=>rfl)
       go_big_quiet_want;refine⟨I J ix,λY O=> ?_,?_⟩
       ·obtain⟨p0,p1⟩:=O.pc;go_simp
       go_big_quiet_on;simp only[Jx,Zp,Zq,Zr];repeat go_big_quiet_step(exact λ_=>rfl)
       go_big_quiet_want;refine⟨I U ct,λY O=> ?_,?_⟩
       ·obtain⟨p0,p1⟩:=O.pc;go_simp
       go_big_quiet_on;simp only[Jx,Zp,Zq,Zr];repeat go_big_quiet_step(exact λ_=>rfl)
       refine wpQuiet_nil ?_;intro W1 f;have m:=Z W1 f;clear f Z d;go_wp2_with fail;refine m.mono ?_;rintro e W2 ⟨rfl,H2,P2⟩;have x0:W2.cell? ⟨wr.heap.size,0,N⟩=S (I J ix):=P2.cell rfl;have A5:=Zh H2;clear m H2 P2;go_wp2_with fail;go_roundg (n0-(q+1));case measure=>omega
       exact⟨q+1,by go_num,by omega,E _,⟨_,rfl⟩,A5.out⟩
    ·have g1:¬(q:Int)<(n0:Int):=by omega
     have Ac:q=l0.length:=by have:=A7.out;omega
     have HT:=Zh (show MI w hb pb s0 s1 dg lim l0 [] 0 0 0 wr by rw[Ac,gU,QN C2 Fa]at H;exact H);clear H Ac;go_wp2_with fail;go_roundg 1;case measure=>omega
     exact⟨1,by go_num,by decide,by decide,HT.out⟩
  by_cases k1:r=1
  ·subst k1;replace H:MI w hb pb s0 s1 dg lim l0 [] 0 0 0 wr:=H;have HX:=Zh H;clear H;go_wp2_with fail;go_loopg [18,40] n1 (λg la i wr=>∃q:Nat,i=I J q/\q<=n1/\n1-q<=g/\(∃x:Int,la=I J x)/\MI w hb pb s0 s1 dg lim l0 (AZ [] (l1.take q)) 0 0 0 wr);case atStart=>exact⟨0,rfl,aw _,E _,⟨0,rfl⟩,by rw[bh];exact HX.out⟩
   case round=>
    clear HX;obtain⟨q,rfl,hq,hg,⟨la,rfl⟩,H⟩:=hrel;by_cases A8:q<n1
    ·have g1:(q:Int)<(n1:Int):=by omega
     have G:q<l1.length:=by rw[<-A3.out];exact A8
     have O1:=AE OB.out H.below λg hg=>(OB.out.lt g hg).2;rcases AH O1 with⟨t,AA,_⟩|⟨g',C8,t,Cr,Bu,_,Ck⟩
     ·omega
     simp only[L.injEq]at t;obtain⟨rfl,D0,rfl⟩:=t;have O2:wr.ownsRow 0 228 2 (L (S ⟨g',0,N⟩) l1.length cb) l1.length (AV l1):=by
      have e:n1=l1.length:=A3.out;rw[e]at O1;exact O1
     obtain⟨ix,o⟩:∃i,i=(l1[q]'G).1:=⟨_,rfl⟩;obtain⟨ct,j⟩:∃i,i=(l1[q]'G).2:=⟨_,rfl⟩;have u:=hf1 _ (fk G);rw[<-j]at u;have Av:AZ [] (l1.take (q+1))=Ak (AZ [] (l1.take q)) ix ct:=by
      rw[fp G,Es,o,j]
     have Al:AB (l1.take q)+ct<=AB l1:=by
      have e:l1=l1.take q++((l1[q]'G)::l1.drop (q+1)):=by rw[<-fw G,fx]
      have e2:AB l1=AB (l1.take q)+AB ((l1[q]'G)::l1.drop (q+1)):=by
       conv=>lhs;rw[e]
       exact Bv _ _ _
      have e3:AB ((l1[q]'G)::l1.drop (q+1))=(l1[q]'G).2+AB (l1.drop (q+1)):=by unfold AB;rw[AQ];simp
      omega
     have BQ:=DS [] (l1.take q);have A2:AB ([]:AL)=0:=rfl;have s:=Ed [] (l1.take q);rw[fy]at s;simp only[gQ]at s;have p0:wr.cell? ⟨g',q*2,N⟩=S (I J ix):=by rw[O2.cellAt _ (by omega),BI l1 q G,o]
     have p1:wr.cell? ⟨g',q*2+1,N⟩=S (I U ct):=by rw[O2.cellAt _ (by omega),BT l1 q G,j]
     have v:JM w hb pb s0 s1 dg lim l0 (AZ [] (l1.take q)) wr.heap.size ix ct (wr.alloc (.cells #[I J ix,I U ct] 228)):=H.pair ix ct;have Z:=λW (x:JM w hb pb s0 s1 dg lim l0 (AZ [] (l1.take q)) wr.heap.size ix ct W)=>x.addTo1 (x:=ix) (c:=ct) u (by omega) (by omega);rw[<-Av]at Z;have C3:=Zh v;clear o j H O1 O2 Av Al BQ A2 s u;by_cases BA:(ix:Int)<=la
     ·have d1:decide ((ix:Int)<=la)=true:=by simp[BA]
      go_upto_region 11 with fail;refine AG (C:=JM w hb pb s0 s1 dg lim l0 (AZ [] (l1.take q)) wr.heap.size ix ct) (by kernel_rfl) (by kernel_rfl) v.drew ?_;clear v;repeat go_big_quiet_step(exact λ_=>rfl)
      go_big_quiet_want;refine⟨I J ix,λY O=> ?_,?_⟩
      ·obtain⟨p0,p1⟩:=O.pc;go_simp
      go_big_quiet_on;simp only[Jx,Zp,Zq,Zr];repeat go_big_quiet_step(exact λ_=>rfl)
      refine wpQuiet_nil ?_;intro W1 f;have HH:=Zh f.below;clear f Z;go_wp2_with fail;go_ret2;exact⟨_,_,rfl,HH.out,λh=>absurd h (by decide)⟩
     ·have d1:decide ((ix:Int)<=la)=false:=by simp;omega
      have d:=λW (x:JM w hb pb s0 s1 dg lim l0 (AZ [] (l1.take q)) wr.heap.size ix ct W)=>x.rep hL;obtain⟨F,hR⟩:∃F,F=Sp.repS (Sp.logD dg) (ix:Int):=⟨_,rfl⟩;rw[<-hR]at d;clear hR;by_cases hz:F=0
      ·have d2:(F==0)=true:=by simp[hz]
       go_upto_region 11 with fail;refine AG (C:=JM w hb pb s0 s1 dg lim l0 (AZ [] (l1.take q)) wr.heap.size ix ct) (by kernel_rfl) (by kernel_rfl) v.drew ?_;clear v;repeat go_big_quiet_step(exact λ_=>rfl)
       go_big_quiet_want;refine⟨I J ix,λY O=> ?_,?_⟩
       ·obtain⟨p0,p1⟩:=O.pc;go_simp
       go_big_quiet_on;simp only[Jx,Zp,Zq,Zr];repeat go_big_quiet_step(exact λ_=>rfl)
       go_big_quiet_want;refine⟨P (S ⟨pb,0,N⟩),λY O=> ?_,?_⟩
       ·obtain⟨Aw,Ap,X,_,_⟩:=O.cur;obtain⟨c0,c1,c2,c3,c4,c5,c6,c7,f5,f6,f7⟩:=X.cells;go_simp
       go_big_quiet_on;simp only[Jx,Zp,Zq,Zr];repeat go_big_quiet_step(exact λ_=>rfl)
       go_big_quiet_want;refine⟨I J ix,λY O=> ?_,?_⟩
       ·obtain⟨p0,p1⟩:=O.pc;go_simp
       go_big_quiet_on;simp only[Jx,Zp,Zq,Zr];repeat go_big_quiet_step(exact λ_=>rfl)
       go_big_quiet_want;go_big_quiet_op;refine⟨I U F,λY O=> ?_,?_⟩
       ·exact d Y O
       go_big_quiet_on;repeat go_big_quiet_step(exact λ_=>rfl)
       refine wpQuiet_nil ?_;intro W1 f;have HH:=Zh f.below;clear f Z d;go_wp2_with fail;go_ret2;exact⟨_,_,rfl,HH.out,λh=>absurd h (by decide)⟩
      ·have d2:(F==0)=false:=by simp[hz]
       go_upto_region 11 with fail;refine AS 25 (C:=JM w hb pb s0 s1 dg lim l0 (AZ [] (l1.take q)) wr.heap.size ix ct) (by kernel_rfl) (by kernel_rfl) v.drew ?_;clear v;simp only[gR,bh,gS,gT];repeat go_big_quiet_step(exact λ_=>rfl)
       go_big_quiet_want;refine⟨I J ix,λY O=> ?_,?_⟩
       ·obtain⟨p0,p1⟩:=O.pc;go_simp
       go_big_quiet_on;simp only[Jx,Zp,Zq,Zr];repeat go_big_quiet_step(exact λ_=>rfl)
       go_big_quiet_want;refine⟨P (S ⟨pb,0,N⟩),λY O=> ?_,?_⟩
       ·obtain⟨Aw,Ap,X,_,_⟩:=O.cur;obtain⟨c0,c1,c2,c3,c4,c5,c6,c7,f5,f6,f7⟩:=X.cells;go_simp
       go_big_quiet_on;simp only[Jx,Zp,Zq,Zr];repeat go_big_quiet_step(exact λ_=>rfl)
       go_big_quiet_want;refine⟨I J ix,λY O=> ?_,?_⟩
       ·obtain⟨p0,p1⟩:=O.pc;go_simp
       go_big_quiet_on;simp only[Jx,Zp,Zq,Zr];repeat go_big_quiet_step(exact λ_=>rfl)
       go_big_quiet_want;go_big_quiet_op;refine⟨I U F,λY O=> ?_,?_⟩
       ·exact d Y O
       go_big_quiet_on;repeat go_big_quiet_step(exact λ_=>rfl)
       go_big_quiet_want;refine⟨P (S ⟨s1,0,N⟩),λY O=> ?_,?_⟩
       ·obtain⟨Aw,Ap,X,_,_⟩:=O.cur;obtain⟨c0,c1,c2,c3,c4,c5,c6,c7,f5,f6,f7⟩:=X.cells;go_simp
       go_big_quiet_on;simp only[Jx,Zp,Zq,Zr];repeat go_big_quiet_step(exact λ_=>rfl)
       go_big_quiet_want;refine⟨I J ix,λY O=> ?_,?_⟩
       ·obtain⟨p0,p1⟩:=O.pc;go_simp
       go_big_quiet_on;simp only[Jx,Zp,Zq,Zr];repeat go_big_quiet_step(exact λ_=>rfl)
       go_big_quiet_want;refine⟨I U ct,λY O=> ?_,?_⟩
       ·obtain⟨p0,p1⟩:=O.pc;go_simp
       go_big_quiet_on;simp only[Jx,Zp,Zq,Zr];repeat go_big_quiet_step(exact λ_=>rfl)
       refine wpQuiet_nil ?_;intro W1 f;have m:=Z W1 f;clear f Z d;go_wp2_with fail;refine m.mono ?_;rintro e W2 ⟨rfl,H2,P2⟩;have x0:W2.cell? ⟨wr.heap.size,0,N⟩=S (I J ix):=P2.cell rfl;have A5:=Zh H2;clear m H2 P2;go_wp2_with fail;go_roundg (n1-(q+1));case measure=>omega
       exact⟨q+1,by go_num,by omega,E _,⟨_,rfl⟩,A5.out⟩
    ·have g1:¬(q:Int)<(n1:Int):=by omega
     have Ac:q=l1.length:=by have:=A3.out;omega
     have HT:=Zh (show MI w hb pb s0 s1 dg lim l0 l1 0 0 0 wr by rw[Ac,gU,QN CL hf1]at H;exact H);clear H Ac;go_wp2_with fail;go_roundg 0;case measure=>omega
     exact⟨2,by go_num,by decide,by decide,HT.out⟩
  have Cs:r=2:=by omega
  subst Cs;replace H:MI w hb pb s0 s1 dg lim l0 l1 0 0 0 wr:=H;obtain⟨T0,Ar⟩:∃T,T=AB l0:=⟨_,rfl⟩;obtain⟨T1,A6⟩:∃T,T=AB l1:=⟨_,rfl⟩;have Ay:=D1.out;rw[<-Ar,<-A6]at Ay;have A9:=λW (k:MI w hb pb s0 s1 dg lim l0 l1 0 0 0 W)=>k.tot0;have A4:=λW (k:MI w hb pb s0 s1 dg lim l0 l1 0 0 0 W)=>k.tot1;rw[<-Ar]at A9;rw[<-A6]at A4;have BX:=λW bb=>NY W bb T0 T1 z Ay;clear Ar A6 BR Ba hr C9;have B9:=H.next (Below.refl _ _).drew;have B5:=Zh ((H.next ((Below.refl _ _).alloc (E _) (.cells #[I U T0,I U T1,I U z] 23))).next (Below.refl _ _).drew);obtain⟨D8,E2,X,_⟩:=H.cur;obtain⟨c0,c1,c2,c3,c4,c5,c6,c7,f5,f6,f7⟩:=X.cells;clear X H c0 c1 c2 c5 c6 c7 f5 f6 f7;go_upto_region 16 with fail;go_cut [21,22]from 76 to 93 (λx y Y=>(∃n,x=I U n)/\y=.bool true/\MI w hb pb s0 s1 dg lim l0 l1 0 0 0 Y);case first=>
   rename_i KK;go_region_with(first
    |(go_at_call 94;refine(A9 _ (by assumption)).mono ?_;rintro e w2 ⟨rfl,rfl⟩)
    |(go_at_call 94;refine(A4 _ (by assumption)).mono ?_;rintro e w3 ⟨rfl,rfl⟩)
    |(go_at_call 90;refine(BX _ _ (by simp) (by simp) (by simp)).mono ?_;rintro e w4 ⟨rfl,rfl⟩))
   all_goals(refine KK _ _ ?_;try go_wp2)
   all_goals(go_meet;exact⟨⟨_,rfl⟩,rfl,B5.out⟩)
  case rest=>
  obtain⟨⟨nn,rfl⟩,rfl,H⟩:=hcut;have HW:=Zh H;clear H A9 A4 B5 B9 c3 c4;obtain⟨⟨v0,v1,D,hO⟩,B⟩:=HW.out;obtain⟨c0,c1,c2,c3,c4,c5,c6,c7,f5,f6,f7⟩:=D.cells;have D2:=D.turn (z' :=z) (lo' :=0) (hi' :=0) 5 (I U z) rfl;have B2:Below w.heap.size w (wc.setCell ⟨hb,5,N⟩ (I U z)):=B.setCell (hO _ (.inl rfl)) _;have A1:=Cf _ hb pb s0 s1 v0 v1 dg lim l0 l1 z 0 0 D2 C0.out;obtain⟨T,Bw⟩:∃T,T=C6 l0 l1 z:=⟨_,rfl⟩;rw[<-Bw]at A1;have l:=Zh (Zi D2 (Zi hO B2));clear D hO B D2 B2 BX Bw HW;by_cases E6:hi<lo
  ·go_wp2_with fail;go_ret2;exact⟨_,_,rfl,l.out.2.2,λh=>absurd h (by decide)⟩
  ·go_wp2_with fail;refine A1.mono ?_;rintro e W3 ⟨rfl,b3⟩;have D3:=l.out.1.next b3;have B3:=l.out.2.2.trans (b3.mono l.out.2.2.size);obtain⟨c0,c1,c2,c3,c4,c5,c6,c7,f5,f6,f7⟩:=D3.cells;have D4:=(D3.turn (z' :=z) (lo' :=lo) (hi' :=0) 6 (I J lo) rfl).turn (z' :=z) (lo' :=lo) (hi' :=hi) 7 (I J hi) rfl;have B4:=(B3.setCell (p:=⟨hb,6,N⟩) (l.out.2.1 _ (.inl rfl)) (I J lo)).setCell (p:=⟨hb,7,N⟩) (l.out.2.1 _ (.inl rfl)) (I J hi);have HF:=Zh (Zi D4 (Zi l.out.2.1 B4));have B0:=Zh B3;clear A1 D3 D4 B4 l b3 B3;by_cases Ar:T=0
   ·have d0:((T:Int)==0)=true:=by simp[Ar]
    by_cases A0:lo=0
    ·by_cases Bs:hi=0
     ·subst A0;subst Bs;have e1:((0:Int) !=0)=false:=by decide
      go_wp2_with fail;go_ret2;exact⟨_,_,rfl,HF.out.2.2,λ_=>⟨hb,pb,s0,s1,v0,v1,rfl,HF.out.1,HF.out.2.1⟩⟩
     ·have e1:(lo !=0)=false:=by simp[A0]
      have e2:(hi !=0)=true:=by simp[Bs]
      go_wp2_with fail;go_ret2;exact⟨_,_,rfl,B0.out,λh=>absurd h (by decide)⟩
    ·have e1:(lo !=0)=true:=by simp[A0]
     go_wp2_with fail;go_ret2;exact⟨_,_,rfl,B0.out,λh=>absurd h (by decide)⟩
   ·have d0:((T:Int)==0)=false:=by simp;omega
    go_wp2_with fail;go_ret2;exact⟨_,_,rfl,HF.out.2.2,λ_=>⟨hb,pb,s0,s1,v0,v1,rfl,HF.out.1,HF.out.2.1⟩⟩
section
variable {a:Act} {w:W} {K:Act->W->Prop} {Q:Exit->Act->W->Prop}
theorem RO{o:Oper}{x:Operand}(F:o.op=.move x){v:V}(D:a.eval x=v)(h:K (a.put o.dst v) w):o.wp prog a w K Q:=by
 refine Dl (v:=v) (w' :=w) ?_ h;clear h;generalize a.eval=ev at D⊢;simp[execOp,F,D,go_sem]
theorem MJ{o:Oper}{x:Operand}(F:o.op=.assign x){v:V}(D:a.eval x=v)(h:K (a.put o.dst v) w):o.wp prog a w K Q:=by
 refine Dl (v:=v) (w' :=w) ?_ h;clear h;generalize a.eval=ev at D⊢;simp[execOp,F,D,go_sem]
theorem FT{o:Oper}{x:Operand}{j:Nat}(G:o.op=.extract x j){D:Array V}{v:V}(F:a.eval x=T D)(H:D[j]?=S v)(h:K (a.put o.dst v) w):o.wp prog a w K Q:=by
 refine Dl (v:=v) (w' :=w) ?_ h;clear h;generalize a.eval=ev at F⊢;simp[execOp,G,F,H,go_sem]
theorem NZ{o:Oper}{f:FuncId}{args:Array Operand}{G:Array TypeId}(H:o.op=.call {callee:=.value (.func f),args:=args,argTypes:=G})(D:Array V)(O:args.map a.eval=D)(F:(callFunc f D).run prog w=.ok (.enter f D) w)(Y:C prog f D w λe w' =>∃v,e=R v/\K (a.put o.dst v) w'):o.wp prog a w K Q:=by
 unfold Oper.wp;have X:(execOp a.eval o).run prog w=.ok (.enter f D) w:=by
  subst O;simp[execOp,H,go_sem];exact F
 rw[X];refine Y.mono λe w' hh=> ?_;obtain⟨v,rfl,h⟩:=hh;exact h
theorem EQ{o:Oper}{t:TypeId}{x:Operand}(D:o.op=.load t x){p:Addr}{v:V}(F:a.eval x=P (S p))(G:(Instr.loadAt t (P (S p))).run prog w=.ok v w)(h:K (a.put o.dst v) w):o.wp prog a w K Q:=by
 refine Dl (v:=v) (w' :=w) ?_ h;simp[execOp,D,F,G]
theorem Nd{o:Oper}{t:TypeId}{x y:Operand}(D:o.op=.store t x y){p:Addr}{v:V}{w' :W}(F:a.eval x=P (S p))(G:a.eval y=v)(H:(Instr.storeAt t (P (S p)) v).run prog w=.ok () w')(h:K (a.put o.dst undef) w'):o.wp prog a w K Q:=by
 refine wp_skip (w' :=w') ?_ h;simp[execOp,D,F,G,H]
theorem Nf{o:Oper}{t:TypeId}{x y:Operand}(D:o.op=.indexAddr t x y){u i v:V}(F:a.eval x=u)(hi:a.eval y=i)(G:(Instr.indexAt t u i).run prog w=.ok v w)(h:K (a.put o.dst v) w):o.wp prog a w K Q:=by
 refine Dl (v:=v) (w' :=w) ?_ h;simp[execOp,D,F,hi,G]
def KQ(t:List (Nat×Bool×V)):List (Nat×Bool×V):=t.map λe=>if e.2.1 then e else(e.1,false,undef)
theorem Ng(a0)(t:List (Nat×Bool×V)):EO a0 t=EO a0 (KQ t):=by
 have F:∀(t:List (Nat×Bool×V)) (D:Array V),t.foldl (λD e=>if e.2.1 then D.setIfInBounds e.1 e.2.2 else D) D=(KQ t).foldl (λD e=>if e.2.1 then D.setIfInBounds e.1 e.2.2 else D) D:=λt=>by
  induction t with
  |nil=>intro D;rfl
  |cons e t G=>
   intro D;show _=(KQ (e::t)).foldl _ D;unfold KQ;rw[fa,bw,bw];cases h:e.2.1 with
   |true=>simp only[h,if_true];exact G _
   |false=>simp only[gV,if_false];exact G _
 unfold EO;rw[F]
theorem Nh{a0}{t u:List (Nat×Bool×V)}(h:KQ t=KQ u):EO a0 t=EO a0 u:=by rw[Ng a0 t,Ng a0 u,h]
structure Y8(n:Nat)(tkn:List Nat)(W0:World)(Post:World->V->Int->Prop)(sb r:Nat)(lds aft:List Nat)(cal sto:Nat)(L:Nat->Bool)(θ:V×Int)(W:World):Prop where
 a:L cal=false->W=W0
 b:L cal=true->L sto=false->Post W θ.1 θ.2
 c:L sto=true->∃W',Post W' θ.1 θ.2/\W=W'.setCell ⟨sb,r,N⟩ θ.1
 d:L sto=true->L cal=true
 e:L cal=true->∀i∈lds,L i=true
 tk:∀i∈tkn,L i=true
 f:L cal=false->∀i∈aft,L i=false
theorem Y8.flag{n g o}{G:World->V->Int->Prop}{sb r Y H D F L}{θ:V×Int}{W}(h:Y8 n g o G sb r Y H D F L θ W)(i)(s:i≠D)(q:i≠F)(t:i∈H->L D=true):Y8 n g o G sb r Y H D F (FB L i) θ W:=by
 have X:FB L i D=L D:=CI (Ne.symm s);have m:FB L i F=L F:=CI (Ne.symm q);have p:∀j,L j=true->FB L i j=true:=λj O=>by unfold FB;split<;>simp_all
 refine⟨λk=>h.a (X▸k),λk l=>h.b (X▸k) (m▸l),λk=>h.c (m▸k),λk=>X.trans (h.d (m▸k)),λk j O=>p j (h.e (X▸k) j O),λj O=>p j (h.tk j O),λk j O=>by
  by_cases Z:j=i
  ·subst Z;rw[X,t O]at k;cases k
  ·rw[CI Z];exact h.f (X▸k) j O⟩
theorem Y8.called{n X f}{G:World->V->Int->Prop}{sb r H O F D L}{θ:V×Int}{W W'}(h:Y8 n X f G sb r H O F D L θ W)(o:L F=false)(Z:D≠F)(l:∀i∈H,L i=true){v c}(p:G W' v c):Y8 n X f G sb r H O F D (FB L F) (v,c) W' :=by
 have q:FB L F D=L D:=CI Z;have m:L D=false:=by cases e:L D with
  |false=>rfl
  |true=>have:=h.d e;rw[o]at this;cases this
 have g:∀j,L j=true->FB L F j=true:=λj Y=>by unfold FB;split<;>simp_all
 exact⟨λk=>(by rw[EN]at k;cases k),λ_ _=>p,λk=>(by rw[q,m]at k;cases k),λk=>EN _ _,λ_ j Y=>g j (l j Y),λj Y=>g j (h.tk j Y),λk=>(by rw[EN]at k;cases k)⟩
theorem Y8.stored{n X g}{G:World->V->Int->Prop}{sb r H O F D L}{θ:V×Int}{W}(h:Y8 n X g G sb r H O F D L θ W)(l:L D=false)(Y:L F=true)(d:D≠F):Y8 n X g G sb r H O F D (FB L D) θ (W.setCell ⟨sb,r,N⟩ θ.1):=by
 have f:FB L D F=L F:=CI (Ne.symm d);have i:∀j,L j=true->FB L D j=true:=λj Z=>by unfold FB;split<;>simp_all
 exact⟨λk=>(by rw[f,Y]at k;cases k),λ_ k=>(by rw[EN]at k;cases k),λ_=>⟨W,h.b Y l,rfl⟩,λ_=>f.trans Y,λ_ j Z=>i j (h.e Y j Z),λj Z=>i j (h.tk j Z),λk=>(by rw[f,Y]at k;cases k)⟩
end
theorem RP(w)(tb:Nat)(vl vr)(num den n:Nat)(h:Gx w tb vl vr num den n)(Y:n<=4096)(i:Nat):
  C prog 370 #[P (S ⟨tb,0,N⟩),I J i] w λe w' =>e=R (I U (KX num den n i:Nat))/\w=w' :=by
 have c1:w.cell? ⟨tb,3,N⟩=S vr:=h.blk.cell rfl;obtain⟨A,Z,F⟩:=AF h.reps;subst F;have j:¬(i:Int)<0:=by omega
 by_cases hi:i<n
 ·have e:KX num den n i=(Di num den n).getD i 0:=by unfold KX;rw[if_pos hi]
  rcases AH h.reps with⟨_,d,_⟩|⟨g,O,F,G,D,_,H⟩
  ·omega
  simp only[L.injEq,true_and]at F;obtain⟨rfl,rfl⟩:=F;have c0:w.cell? ⟨g,i,N⟩=S (I U (((Di num den n).getD i 0:Nat):Int)):=by rw[h.reps.cellAt _ (by omega)];exact LD _ (by rw[Mx];exact hi)
  rw[e];generalize(Di num den n).getD i 0=r at*;have X:¬(n:Int)<=(i:Int):=by omega
  have f:(i:Int)<(n:Int):=by omega
  clear h e G D H;go_enter func370,ntmps370;go_wp2_with fail;go_ret;exact⟨rfl,rfl⟩
 ·have e:KX num den n i=0:=by unfold KX;rw[if_neg hi]
  rw[e];have X:(n:Int)<=(i:Int):=by omega
  clear h e;go_enter func370,ntmps370;go_wp2_with fail;go_ret;exact⟨rfl,rfl⟩
def Y9(hi:Bool)(M:Nat)(row:AL)(T:Nat)(w:W)(e:Ending)(w' :W):Prop:=∃(v:V) (code:Int),e=R (.tuple #[v,I J code])/\B w.heap.size w w' /\(v=.nilIface\/∃T x,v=.iface T x)/\
 (code=0->∃cb O,v=.iface (PT hi) (P (S ⟨cb,0,N⟩))/\BU hi M row T w' cb O/\∀j,O j->w.heap.size<=j)
def PE(hi:Bool)(M:Nat)(row:AL)(T:Nat)(W0 w' :W)(v:V)(code:Int):Prop:=B W0.heap.size W0 w' /\(v=.nilIface\/∃T x,v=.iface T x)/\
 (code=0->∃cb O,v=.iface (PT hi) (P (S ⟨cb,0,N⟩))/\BU hi M row T w' cb O/\∀j,O j->W0.heap.size<=j)
structure Vh(hi:Bool)(M:Nat)(m:AL)(l:Nat):Prop where
 rising:AT m
 full:Bh m
 low:∀x∈m,x.1<4096
 tot:AB m+l<=9223372036854775807
 fit:∀q,(BE hi M [] (m.take q)).length<=M
 same:BE hi M [] m=m
 len:m.length<=4096
def gH(hi:Bool)(M:Nat)(w:World)(sb:Nat)(m0 m1:AL)(T0 T1:Nat)(r:Nat)(W:World):Prop:=
 (r=0/\AI W sb #[.nilIface,.nilIface] 229)\/
 (r=1/\∃c0 O0,AI W sb #[.iface (PT hi) (P (S ⟨c0,0,N⟩)),.nilIface] 229/\BU hi M m0 T0 W c0 O0/\∀j,O0 j->w.heap.size<=j)\/
 (r=2/\∃c0 O0 c1 O1,AI W sb #[.iface (PT hi) (P (S ⟨c0,0,N⟩)),.iface (PT hi) (P (S ⟨c1,0,N⟩))] 229/\BU hi M m0 T0 W c0 O0/\BU hi M m1 T1 W c1 O1/\(∀j,O0 j->w.heap.size<=j)/\(∀j,O1 j->w.heap.size<=j)/\∀j,O0 j->¬O1 j)
structure ID(hi:Bool)(M num den n:Nat)(w:World)(bb tb:Nat)(vl vr:V)(ca cc:Nat)(Oa Oc:Nat->Prop)(va vb:V)(m0 m1:AL)(l0 l1:Nat)(rb lb sb:Nat)(r:Nat)(W:World):Prop where
 bn:BW hi M num den n W bb tb vl vr ca cc Oa Oc [] [] 0 0 0
 rows:AI W rb #[va,vb] 195
 lost:AI W lb #[I U l0,I U l1] 193
 oa:W.ownsRow 0 228 2 va m0.length (AV m0)
 ob:W.ownsRow 0 228 2 vb m1.length (AV m1)
 below:B w.heap.size w W
 st:gH hi M w sb m0 m1 (AB m0+l0) (AB m1+l1) r W
 sbn:w.heap.size<=sb
section
variable {hi:Bool} {M num den n:Nat} {w:World} {bb tb:Nat} {vl vr:V} {ca cc:Nat} {Oa Oc:Nat->Prop} {va vb:V} {m0 m1:AL} {l0 l1 rb lb sb r:Nat} {W W' :World}
theorem ID.next(h:ID hi M num den n w bb tb vl vr ca cc Oa Oc va vb m0 m1 l0 l1 rb lb sb r W)(b:B W.heap.size W W'):ID hi M num den n w bb tb vl vr ca cc Oa Oc va vb m0 m1 l0 l1 rb lb sb r W' :=by
 refine⟨h.bn.next b,h.rows.below b h.rows.lt,h.lost.below b h.lost.lt,AE h.oa b λg G=>(h.oa.lt g G).2,AE h.ob b λg G=>(h.ob.lt g G).2,h.below.trans (b.mono h.below.size),?_,h.sbn⟩;rcases h.st with⟨e,D⟩|⟨e,c0,O0,D,F,H⟩|⟨e,c0,O0,c1,O1,D,F,H,X,Y,O⟩
 ·exact .inl ⟨e,D.below b D.lt⟩
 ·exact .inr (.inl ⟨e,c0,O0,D.below b D.lt,F.next b,H⟩)
 ·exact .inr (.inr ⟨e,c0,O0,c1,O1,D.below b D.lt,F.next b,H.next b,X,Y,O⟩)
theorem ID.sblt(h:ID hi M num den n w bb tb vl vr ca cc Oa Oc va vb m0 m1 l0 l1 rb lb sb r W):∃G,AI W sb G 229:=by
 rcases h.st with⟨e,D⟩|⟨e,c0,O0,D,F,H⟩|⟨e,c0,O0,c1,O1,D,F,H,X,Y,O⟩
 ·exact⟨_,D⟩
 ·exact⟨_,D⟩
 ·exact⟨_,D⟩
theorem ID.nilAt(h:ID hi M num den n w bb tb vl vr ca cc Oa Oc va vb m0 m1 l0 l1 rb lb sb r W)(O:r<2):W.cell? ⟨sb,r,N⟩=S .nilIface/\W.frozen? ⟨sb,r,N⟩=false:=by
 obtain⟨H,F⟩:=h.sblt;refine⟨?_,F.frozen r⟩;rcases h.st with⟨rfl,D⟩|⟨rfl,c0,O0,D,G,X⟩|⟨rfl,_⟩
 ·exact D.cell rfl
 ·exact D.cell rfl
 ·omega
theorem ID.turn(h:ID hi M num den n w bb tb vl vr ca cc Oa Oc va vb m0 m1 l0 l1 rb lb sb r W)(i v){H}(l:gH hi M w sb m0 m1 (AB m0+l0) (AB m1+l1) H (W.setCell ⟨sb,i,N⟩ v)):ID hi M num den n w bb tb vl vr ca cc Oa Oc va vb m0 m1 l0 l1 rb lb sb H (W.setCell ⟨sb,i,N⟩ v):=by
 obtain⟨q,D⟩:=h.sblt;have a:AD (λj=>j=sb) W (W.setCell ⟨sb,i,N⟩ v):=(AD.refl _ _).setCell _ _ (.inl rfl);have G:∀{v:V} {Z:Nat} {f:List V},W.ownsRow 0 228 2 v Z f->∀g,v.ownBlock=S g->¬g=sb:=λo g Y e=>by
  obtain⟨d,O⟩:=AJ o Y;rw[e]at O;exact(O.ne D (by decide)) rfl
 refine⟨h.bn.away a λj m e=> ?_,h.rows.away a (h.rows.ne D (by decide)),h.lost.away a (h.lost.ne D (by decide)),AU h.oa a (G h.oa),AU h.ob a (G h.ob),h.below.trans (a.below h.below.size λk p e=>by have:=h.sbn;omega),l,h.sbn⟩;obtain⟨X,t,k1,F⟩:=h.bn.ty j m;rw[e]at k1;refine(D.ne k1 ?_) rfl;rcases F with F|F|F|F|F|F<;>subst F<;>cases hi<;>decide
structure gL(hi:Bool)(M num den n:Nat)(w:World)(bb tb:Nat)(vl vr:V)(ca cc:Nat)(Oa Oc:Nat->Prop)(va vb:V)(l0 l1:Nat)(rb lb:Nat)(W:World):Prop where
 bn:BW hi M num den n W bb tb vl vr ca cc Oa Oc [] [] 0 0 0
 rows:AI W rb #[va,vb] 195
 lost:AI W lb #[I U l0,I U l1] 193
theorem ID.poke(h:ID hi M num den n w bb tb vl vr ca cc Oa Oc va vb m0 m1 l0 l1 rb lb sb r W)(i v):gL hi M num den n w bb tb vl vr ca cc Oa Oc va vb l0 l1 rb lb (W.setCell ⟨sb,i,N⟩ v):=by
 obtain⟨O,F⟩:=h.sblt;have a:AD (λj=>j=sb) W (W.setCell ⟨sb,i,N⟩ v):=(AD.refl _ _).setCell _ _ (.inl rfl);refine⟨h.bn.away a λj H e=> ?_,h.rows.away a (h.rows.ne F (by decide)),h.lost.away a (h.lost.ne F (by decide))⟩;obtain⟨G,t,k1,D⟩:=h.bn.ty j H;rw[e]at k1;refine(F.ne k1 ?_) rfl;rcases D with D|D|D|D|D|D<;>subst D<;>cases hi<;>decide
theorem ID.put0(h:ID hi M num den n w bb tb vl vr ca cc Oa Oc va vb m0 m1 l0 l1 rb lb sb 0 W)(b:B W.heap.size W W'){c0 O0}(q:BU hi M m0 (AB m0+l0) W' c0 O0)(G:∀j,O0 j->W.heap.size<=j):ID hi M num den n w bb tb vl vr ca cc Oa Oc va vb m0 m1 l0 l1 rb lb sb 1 (W'.setCell ⟨sb,0,N⟩ (.iface (PT hi) (P (S ⟨c0,0,N⟩)))):=by
 have O:=h.below.size;obtain⟨X,F⟩:=(h.next b).sblt;have a:AD (λj=>j=sb) W' (W'.setCell ⟨sb,0,N⟩ (.iface (PT hi) (P (S ⟨c0,0,N⟩)))):=(AD.refl _ _).setCell _ _ (.inl rfl);refine(h.next b).turn 0 _ ?_;rcases(h.next b).st with⟨e,H⟩|⟨e,_⟩|⟨e,_⟩
 ·exact .inr (.inl ⟨rfl,c0,O0,H.set 0 _,q.away a λj D e=>q.not F (by cases hi<;>decide) (e▸D),λj D=>ag O (G j D)⟩)
 ·omega
 ·omega
theorem ID.put1(h:ID hi M num den n w bb tb vl vr ca cc Oa Oc va vb m0 m1 l0 l1 rb lb sb 1 W)(b:B W.heap.size W W'){c1 O1}(q:BU hi M m1 (AB m1+l1) W' c1 O1)(X:∀j,O1 j->W.heap.size<=j):ID hi M num den n w bb tb vl vr ca cc Oa Oc va vb m0 m1 l0 l1 rb lb sb 2 (W'.setCell ⟨sb,1,N⟩ (.iface (PT hi) (P (S ⟨c1,0,N⟩)))):=by
 have Z:=h.below.size;obtain⟨f,F⟩:=(h.next b).sblt;have a:AD (λj=>j=sb) W' (W'.setCell ⟨sb,1,N⟩ (.iface (PT hi) (P (S ⟨c1,0,N⟩)))):=(AD.refl _ _).setCell _ _ (.inl rfl);refine(h.next b).turn 1 _ ?_;rcases h.st with⟨e,_⟩|⟨e,c0,O0,O,G,d⟩|⟨e,_⟩
 ·omega
 ·have H:=G.next b;refine .inr (.inr ⟨rfl,c0,O0,c1,O1,(O.below b O.lt).set 1 _,H.away a λj D e=>H.not F (by cases hi<;>decide) (e▸D),q.away a λj D e=>q.not F (by cases hi<;>decide) (e▸D),d,λj D=>ag Z (X j D),λj D Y=> ?_⟩);have:=G.lt j D;have:=X j Y;omega
 ·omega
end
def RS(hi:Bool)(M num den n:Nat)(w:W)(bb tb:Nat)(vl vr:V)(m0 m1:AL)(T0 T1 z:Nat)(e:Ending)(w' :W):Prop:=∃code:Int,e=R (I J code)/\AD (λj=>j=bb) w w' /\
 (code=0->∃ca cc Oa Oc,BW hi M num den n w' bb tb vl vr ca cc Oa Oc m0 m1 T0 T1 z/\(∀j,Oa j->w.heap.size<=j)/\∀j,Oc j->w.heap.size<=j)
structure Vi(hi:Bool)(M num den n:Nat)(w:World)(bb tb:Nat)(vl vr:V)(ca cc:Nat)(Oa Oc:Nat->Prop)(va vb:V)(m0 m1:AL)(l0 l1:Nat)(rb lb sb:Nat)(r:Nat)(xb ix ct:Nat)(W:World):Prop where
 lx:ID hi M num den n w bb tb vl vr ca cc Oa Oc va vb m0 m1 l0 l1 rb lb sb r W
 px:AI W xb #[I J ix,I U ct] 228
section
variable {hi:Bool} {M num den n:Nat} {w:World} {bb tb:Nat} {vl vr:V} {ca cc:Nat} {Oa Oc:Nat->Prop} {va vb:V} {m0 m1:AL} {l0 l1 rb lb sb r xb ix ct:Nat} {W W' :World}
theorem Vi.next(h:Vi hi M num den n w bb tb vl vr ca cc Oa Oc va vb m0 m1 l0 l1 rb lb sb r xb ix ct W)(b:B W.heap.size W W'):Vi hi M num den n w bb tb vl vr ca cc Oa Oc va vb m0 m1 l0 l1 rb lb sb r xb ix ct W' :=⟨h.lx.next b,h.px.below b h.px.lt⟩
theorem Vi.pc(h:Vi hi M num den n w bb tb vl vr ca cc Oa Oc va vb m0 m1 l0 l1 rb lb sb r xb ix ct W):W.cell? ⟨xb,0,N⟩=S (I J ix)/\W.cell? ⟨xb,1,N⟩=S (I U ct):=⟨h.px.cell rfl,h.px.cell rfl⟩
theorem ID.fail(h:ID hi M num den n w bb tb vl vr ca cc Oa Oc va vb m0 m1 l0 l1 rb lb sb r W){T0 T1 z c}(D:c≠0):RS hi M num den n w bb tb vl vr m0 m1 T0 T1 z (R (I J c)) W:=⟨c,rfl,AD.of_below h.below,λe=>absurd e D⟩
theorem ID.failAt(h:ID hi M num den n w bb tb vl vr ca cc Oa Oc va vb m0 m1 l0 l1 rb lb sb r W){T0 T1 z c}(D:c≠0)(i v):RS hi M num den n w bb tb vl vr m0 m1 T0 T1 z (R (I J c)) (W.setCell ⟨sb,i,N⟩ v):=⟨c,rfl,AD.of_below (h.below.setCell h.sbn v),λe=>absurd e D⟩
end
structure US(hi:Bool)(M num den n:Nat)(w:World)(bb tb:Nat)(vl vr:V)(ca cc:Nat)(Oa Oc:Nat->Prop)(m0 m1:AL)(T0 T1:Nat)(sb c0 c1:Nat)(O0 O1:Nat->Prop)(W:World):Prop where
 bn:BW hi M num den n W bb tb vl vr ca cc Oa Oc [] [] 0 0 0
 st:AI W sb #[.iface (PT hi) (P (S ⟨c0,0,N⟩)),.iface (PT hi) (P (S ⟨c1,0,N⟩))] 229
 s0:BU hi M m0 T0 W c0 O0
 s1:BU hi M m1 T1 W c1 O1
 h0:∀j,O0 j->w.heap.size<=j
 h1:∀j,O1 j->w.heap.size<=j
 ap:∀j,O0 j->¬O1 j
 below:B w.heap.size w W
 sbn:w.heap.size<=sb
section
variable {hi:Bool} {M num den n:Nat} {w:World} {bb tb:Nat} {vl vr:V} {ca cc:Nat} {Oa Oc:Nat->Prop} {m0 m1:AL} {T0 T1 sb c0 c1:Nat} {O0 O1:Nat->Prop} {W W' :World}
theorem US.next(h:US hi M num den n w bb tb vl vr ca cc Oa Oc m0 m1 T0 T1 sb c0 c1 O0 O1 W)(b:B W.heap.size W W'):US hi M num den n w bb tb vl vr ca cc Oa Oc m0 m1 T0 T1 sb c0 c1 O0 O1 W' :=
 ⟨h.bn.next b,h.st.below b h.st.lt,h.s0.next b,h.s1.next b,h.h0,h.h1,h.ap,h.below.trans (b.mono h.below.size),h.sbn⟩
theorem US.fin(h:US hi M num den n w bb tb vl vr ca cc Oa Oc m0 m1 T0 T1 sb c0 c1 O0 O1 W)(hb:bb<w.heap.size)(z):RS hi M num den n w bb tb vl vr m0 m1 T0 T1 z (R (I J 0)) (((W.setCell ⟨bb,3,N⟩ (.iface (PT hi) (P (S ⟨c0,0,N⟩)))).setCell ⟨bb,4,N⟩ (.iface (PT hi) (P (S ⟨c1,0,N⟩)))).setCell ⟨bb,5,N⟩ (I U z)).drew:=by
 have a:AD (λj=>j=bb) W (((W.setCell ⟨bb,3,N⟩ (.iface (PT hi) (P (S ⟨c0,0,N⟩)))).setCell ⟨bb,4,N⟩ (.iface (PT hi) (P (S ⟨c1,0,N⟩)))).setCell ⟨bb,5,N⟩ (I U z)).drew:=(AD.setCell (AD.setCell (AD.setCell (AD.refl (λj=>j=bb) W) ⟨bb,3,N⟩ _ (.inl rfl)) ⟨bb,4,N⟩ _ (.inl rfl)) ⟨bb,5,N⟩ _ (.inl rfl)).drew;have O:∀j,Qf tb vl vr j->¬j=bb:=λj D e=>by
  obtain⟨X,t,G,H⟩:=h.bn.tab.ty j D;rw[e]at G;exact(h.bn.blk.ne G (by rcases H with rfl|rfl<;>decide)) rfl
 refine⟨0,rfl,(AD.of_below (F:=λj=>j=bb) h.below).trans' a (λ_ _ h=>h) (λ_ _ h=>h),λ_=>⟨c0,c1,O0,O1,⟨?_,h.bn.tab.away a O,h.s0.away a λj D e=>h.bn.binNot h.s0 (e▸D),h.s1.away a λj D e=>h.bn.binNot h.s1 (e▸D),h.ap⟩,h.h0,h.h1⟩⟩;exact(((h.bn.blk.set 3 _).set 4 _).set 5 _).drew
theorem ID.to2{va vb l0 l1 rb lb}(h:ID hi M num den n w bb tb vl vr ca cc Oa Oc va vb m0 m1 l0 l1 rb lb sb 2 W):∃c0 c1 O0 O1,US hi M num den n w bb tb vl vr ca cc Oa Oc m0 m1 (AB m0+l0) (AB m1+l1) sb c0 c1 O0 O1 W:=by
 rcases h.st with⟨e,_⟩|⟨e,_⟩|⟨_,c0,O0,c1,O1,O,D,F,H,X,G⟩
 ·omega
 ·omega
 ·exact⟨c0,c1,O0,O1,h.bn,O,D,F,H,X,G,h.below,h.sbn⟩
end
def dh(hi:Bool)(M:Nat)(row:AL)(T:Nat)(w:W)(e:Ending)(w' :W):Prop:=∃(po:Option Addr) (code:Int),e=R (.tuple #[P po,I J code])/\B w.heap.size w w' /\
 (code=0->∃cb O,po=S ⟨cb,0,N⟩/\BU hi M row T w' cb O/\∀j,O j->w.heap.size<=j)
theorem bQ{hi M}(F:1<=M)(G:M<=4096)(w va)(m:AL)(l)(h:w.ownsRow 0 228 2 va m.length (AV m))(d:AT m)(Z:Bh m)(X:∀x∈m,x.1<4096)(Y:AB m+l<=9223372036854775807)(D:∀q,(BE hi M [] (m.take q)).length<=M)(O:BE hi M [] m=m)(H:m.length<=4096):
  C prog (cI hi) #[I J M,va,I U l] w (dh hi M m (AB m+l) w):=by cases hi;exact aZ F G w va m l h d Z X Y D O H;exact aa F G w va m l h d Z X Y D O H
theorem UT{hi M}(G:1<=M)(F:M<=4096)(w va)(m:AL)(l)(h:w.ownsRow 0 228 2 va m.length (AV m))(k:Vh hi M m l):
  C prog 89 #[I J (Dq hi),I J M,va,I U l] w (Y9 hi M m (AB m+l) w):=by
 have Y:=bQ (hi:=hi) G F w va m l h k.rising k.full k.low k.tot k.fit k.same k.len;cases hi
 all_goals
  simp only[cI,Dq,gV,if_true,if_false]at Y⊢;obtain⟨A,i,g⟩:=AF h;subst g;clear h k G F;go_enter func89,ntmps89;go_wp2_with fail;refine Y.mono ?_;rintro e p ⟨po,D,rfl,H,q⟩;have Z:=Zh (Zi H q);clear Y H q;by_cases X:D=0
  ·subst X;go_wp2_with fail;go_ret2;obtain⟨H,q⟩:=Z.out;obtain⟨cb,O,rfl,j,d⟩:=q (by simp);exact⟨_,0,rfl,H,.inr ⟨_,_,rfl⟩,λ_=>⟨cb,O,rfl,j,d⟩⟩
  ·have o:(D==0)=false:=by simp[X]
   have f:(D !=0)=true:=by simp[X]
   go_wp2_with fail;go_ret2;exact⟨_,D,rfl,Z.out.1,.inl rfl,λh=>absurd h X⟩
theorem UU(hi){M num den n w bb tb vl vr ca cc Oa Oc}{m0 m1:AL}{T0 T1 sb c0 c1 O0 O1 W}(h:US hi M num den n w bb tb vl vr ca cc Oa Oc m0 m1 T0 T1 sb c0 c1 O0 O1 W):W.cell? ⟨sb,0,N⟩=S (.iface (PT hi) (P (S ⟨c0,0,N⟩)))/\W.cell? ⟨sb,1,N⟩=S (.iface (PT hi) (P (S ⟨c1,0,N⟩))):=⟨h.st.cell rfl,h.st.cell rfl⟩
theorem bR{X M num den n}(D5:1<=M)(D4:M<=4096)(E1:n<=4096)(w bb tb vl vr ca cc Oa Oc)(h:BW X M num den n w bb tb vl vr ca cc Oa Oc [] [] 0 0 0)
  (va vb)(m0 m1:AL)(l0 l1 z)(oa:w.ownsRow 0 228 2 va m0.length (AV m0))(ob:w.ownsRow 0 228 2 vb m1.length (AV m1))(r0:Vh X M m0 l0)(r1:Vh X M m1 l1)(hT:AB m0+l0+(AB m1+l1)+z<=9223372036854775807):
  Calls prog 76 #[P (S ⟨bb,0,N⟩),.agg #[va,vb],.agg #[I U l0,I U l1],I U z] w (RS X M num den n w bb tb vl vr m0 m1 (AB m0+l0) (AB m1+l1) z):=by
 obtain⟨Aa,u,E5⟩:=AF oa;obtain⟨Ab,pb,FR⟩:=AF ob;subst E5;subst FR;obtain⟨p,Ay⟩:∃n,n=m0.length:=⟨_,rfl⟩;obtain⟨s,Bu⟩:∃n,n=m1.length:=⟨_,rfl⟩;rw[<-Ay]at oa⊢;rw[<-Bu]at ob⊢;have GD:p<=4096:=by have:=r0.len;omega
 have GF:s<=4096:=by have:=r1.len;omega
 have b1:B w.heap.size w (w.alloc (.cells #[.slice Aa p u,.slice Ab s pb] 195)):=Za;have b2:=b1.alloc b1.size (.cells #[I U l0,I U l1] 193);have b3:=b2.alloc b2.size (.cells #[.nilIface,.nilIface] 229);have C0:ID X M num den n w bb tb vl vr ca cc Oa Oc (.slice Aa p u) (.slice Ab s pb) m0 m1 l0 l1 w.heap.size (w.heap.size+1) (w.heap.size+1+1) 0 (((w.alloc (.cells #[.slice Aa p u,.slice Ab s pb] 195)).alloc (.cells #[I U l0,I U l1] 193)).alloc (.cells #[.nilIface,.nilIface] 229)):=
  ⟨h.next b3,((AI.newAt rfl).alloc _).alloc _,(AI.newAt (by simp)).alloc _,by rw[<-Ay];exact AE oa b3 λg hg=>(oa.lt g hg).2,by rw[<-Bu];exact AE ob b3 λg hg=>(ob.lt g hg).2,b3,.inl ⟨rfl,AI.newAt (by simp)⟩,by omega⟩
 have HC:=Zh C0;have HR:=Zh (Zi r0 (Zi r1 (Zi Ay (Zi Bu hT))));have HM:=Zh (Zi D5 (Zi D4 E1));have HB:=Zh (Zi h.blk.lt h);clear h oa ob r0 r1 Ay Bu b1 b2 b3 C0 D5 D4 E1 hT;go_enter func76,ntmps76;go_wp2_with fail;go_loopg [10,12,13,18] 2 (λg _ _ _ i wr=>∃r:Nat,i=I J r/\r<=2/\2-r<=g/\ID X M num den n w bb tb vl vr ca cc Oa Oc (.slice Aa p u) (.slice Ab s pb) m0 m1 l0 l1 w.heap.size (w.heap.size+1) (w.heap.size+1+1) r wr);case atStart=>exact⟨0,rfl,by decide,by decide,HC.out⟩
 case round=>
  clear HC;obtain⟨r,rfl,hr,GG,H⟩:=hrel;by_cases k0:r=0
  ·subst k0;have HX:=Zh H;have x0:wr.cell? ⟨w.heap.size,0,N⟩=S (.slice Aa p u):=H.rows.cell rfl;clear H;go_wp2_with fail;clear x0;go_loopg [12,25] p (λg _ i wr=>∃q:Nat,i=I J q/\q<=p/\p-q<=g/\ID X M num den n w bb tb vl vr ca cc Oa Oc (.slice Aa p u) (.slice Ab s pb) m0 m1 l0 l1 w.heap.size (w.heap.size+1) (w.heap.size+1+1) 0 wr);case atStart=>exact⟨0,rfl,aw _,E _,HX.out⟩
   case round=>
    clear HX;obtain⟨q,rfl,hq,hg,H⟩:=hrel;have HX:=Zh H;by_cases Bs:q<p
    ·have g0:(q:Int)<(p:Int):=by omega
     have Al:q<m0.length:=by rw[<-HR.out.2.2.1];exact Bs
     obtain⟨ix,A0⟩:∃i,i=(m0[q]'Al).1:=⟨_,rfl⟩;obtain⟨ct,Bt⟩:∃i,i=(m0[q]'Al).2:=⟨_,rfl⟩;have O2:=H.oa;rcases AH O2 with⟨Av,Ay,_⟩|⟨g,Fn,Av,B4,A9,_,B0⟩
     ·have:=HR.out.2.2.1;omega
     simp only[V.slice.injEq]at Av;obtain⟨rfl,D0,rfl⟩:=Av;have en:p=m0.length:=HR.out.2.2.1;have O3:wr.ownsRow 0 228 2 (.slice (S ⟨g,0,N⟩) m0.length u) m0.length (AV m0):=by rw[<-en];rw[<-en]at O2;exact O2
     have p0:wr.cell? ⟨g,q*2,N⟩=S (I J ix):=by rw[O3.cellAt _ (by omega),BI m0 q Al,A0]
     have p1:wr.cell? ⟨g,q*2+1,N⟩=S (I U ct):=by rw[O3.cellAt _ (by omega),BT m0 q Al,Bt]
     have J2:Vi X M num den n w bb tb vl vr ca cc Oa Oc (.slice (S ⟨g,0,N⟩) p u) (.slice Ab s pb) m0 m1 l0 l1 w.heap.size (w.heap.size+1) (w.heap.size+1+1) 0 wr.heap.size ix ct (wr.alloc (.cells #[I J ix,I U ct] 228)):=⟨H.next (Za),AI.newAt rfl⟩;obtain⟨rv,A1⟩:∃rv,rv=KX num den n ix:=⟨_,rfl⟩;have AA:=λW (k:Vi X M num den n w bb tb vl vr ca cc Oa Oc (.slice (S ⟨g,0,N⟩) p u) (.slice Ab s pb) m0 m1 l0 l1 w.heap.size (w.heap.size+1) (w.heap.size+1+1) 0 wr.heap.size ix ct W)=>RP W tb vl vr num den n k.lx.bn.tab HM.out.2.2 ix;rw[<-A1]at AA;have A8:=λW=>eV tb W;have t1:decide ((ix:Int)<0)=false:=by first|(simp;done)|(simp;omega)
     have HJ:=Zh J2;clear O2 O3 H J2 B0 B4 A9 D0 en A0 Bt A1;go_upto_region 10 with fail;by_cases hz:rv=0
     ·have z1:((rv:Int)==0)=true:=by simp[hz]
      have z2:(rv==0)=true:=by simp[hz]
      clear hz;refine AG (C:=Vi X M num den n w bb tb vl vr ca cc Oa Oc (.slice (S ⟨g,0,N⟩) p u) (.slice Ab s pb) m0 m1 l0 l1 w.heap.size (w.heap.size+1) (w.heap.size+1+1) 0 wr.heap.size ix ct) (by kernel_rfl) (by kernel_rfl) (HJ.out.next (B.refl _ _).drew) ?_;repeat go_big_quiet_step(exact λ_=>rfl)
      go_big_quiet_want;refine⟨I J ix,λwx t=> ?_,?_⟩
      ·obtain⟨p0,p1⟩:=t.pc;go_simp
      go_big_quiet_on;simp only[Jx,Zp,Zq,Zr];repeat go_big_quiet_step(exact λ_=>rfl)
      go_big_quiet_want;refine⟨.iface 163 (P (S ⟨tb,0,N⟩)),λwx t=> ?_,?_⟩
      ·obtain⟨c0,c1,c2,c3,c4,c5,f3,f4,f5⟩:=Ai t.lx.bn;go_simp
      go_big_quiet_on;simp only[Jx,Zp,Zq,Zr];repeat go_big_quiet_step(exact λ_=>rfl)
      go_big_quiet_want;refine⟨I J ix,λwx t=> ?_,?_⟩
      ·obtain⟨p0,p1⟩:=t.pc;go_simp
      go_big_quiet_on;simp only[Jx,Zp,Zq,Zr];repeat go_big_quiet_step(exact λ_=>rfl)
      go_big_quiet_want;go_big_quiet_op;refine⟨I U rv,λwx t=> ?_,?_⟩
      ·exact(AA wx t).mono λ_ _ hm=>⟨hm.1,hm.2▸t⟩
      go_big_quiet_on;repeat go_big_quiet_step(exact λ_=>rfl)
      refine wpQuiet_nil ?_;intro w5 H5;have HF:=Zh (show RS X M num den n w bb tb vl vr m0 m1 (AB m0+l0) (AB m1+l1) z (R (I J 1)) w5 from H5.lx.fail (by decide));clear H5 AA A8;go_wp2_with fail;go_ret;exact HF.out
     ·have z1:((rv:Int)==0)=false:=by simp[hz]
      have z2:(rv==0)=false:=by simp[hz]
      clear hz;refine AG (C:=Vi X M num den n w bb tb vl vr ca cc Oa Oc (.slice (S ⟨g,0,N⟩) p u) (.slice Ab s pb) m0 m1 l0 l1 w.heap.size (w.heap.size+1) (w.heap.size+1+1) 0 wr.heap.size ix ct) (by kernel_rfl) (by kernel_rfl) (HJ.out.next (B.refl _ _).drew) ?_;repeat go_big_quiet_step(exact λ_=>rfl)
      go_big_quiet_want;refine⟨I J ix,λwx t=> ?_,?_⟩
      ·obtain⟨p0,p1⟩:=t.pc;go_simp
      go_big_quiet_on;simp only[Jx,Zp,Zq,Zr];repeat go_big_quiet_step(exact λ_=>rfl)
      go_big_quiet_want;refine⟨.iface 163 (P (S ⟨tb,0,N⟩)),λwx t=> ?_,?_⟩
      ·obtain⟨c0,c1,c2,c3,c4,c5,f3,f4,f5⟩:=Ai t.lx.bn;go_simp
      go_big_quiet_on;simp only[Jx,Zp,Zq,Zr];repeat go_big_quiet_step(exact λ_=>rfl)
      go_big_quiet_want;refine⟨I J ix,λwx t=> ?_,?_⟩
      ·obtain⟨p0,p1⟩:=t.pc;go_simp
      go_big_quiet_on;simp only[Jx,Zp,Zq,Zr];repeat go_big_quiet_step(exact λ_=>rfl)
      go_big_quiet_want;go_big_quiet_op;refine⟨I U rv,λwx t=> ?_,?_⟩
      ·exact(AA wx t).mono λ_ _ hm=>⟨hm.1,hm.2▸t⟩
      go_big_quiet_on;repeat go_big_quiet_step(exact λ_=>rfl)
      refine wpQuiet_nil ?_;intro w5 H5;have HF:=Zh H5.lx;clear H5 AA A8;go_wp2_with fail;go_roundg (p-(q+1));case measure=>omega
      exact⟨q+1,by go_num,by omega,E _,HF.out⟩
    ·have B1:q=p:=by omega
     have g0:¬(q:Int)<(p:Int):=by omega
     have HK:=H.next (B.refl _ _).drew;have A4:=λW (k:ID X M num den n w bb tb vl vr ca cc Oa Oc (.slice Aa p u) (.slice Ab s pb) m0 m1 l0 l1 w.heap.size (w.heap.size+1) (w.heap.size+1+1) 0 W)=>UT HM.out.1 HM.out.2.1 W (.slice Aa p u) m0 l0 k.oa HR.out.1;clear H B1 Bs hq hg;go_upto_region 14 with fail;have Ax:=A4 _ HK;obtain⟨c0,c1,c2,c3,c4,c5,f3,f4,f5⟩:=Ai HK.bn;have x0:=HK.rows.cell (j:=0) rfl;have y0:=HK.lost.cell (j:=0) rfl;have H5:=Zh HK;clear A4 HK c0 c3 c4 c5 f3 f4 f5;rename_i KK;have Ap:=Zh (show∀(Y:World) (v:V) (D:Int),B wr.drew.heap.size wr.drew Y->(v=.nilIface\/∃T x,v=.iface T x)->(D=0->∃cb O,v=.iface (PT X) (P (S ⟨cb,0,N⟩))/\BU X M m0 (AB m0+l0) Y cb O/\∀j,O j->wr.drew.heap.size<=j)->Y.cell? ⟨w.heap.size+1+1,0,N⟩=S .nilIface/\Y.frozen? ⟨w.heap.size+1+1,0,N⟩=false/\v.cells= #[v]/\(Go.store ⟨w.heap.size+1+1,0,N⟩ v).run prog Y=.ok () (Y.setCell ⟨w.heap.size+1+1,0,N⟩ v)/\(Y.cell? ⟨bb,1,N⟩=S (I J (Dq X))/\Y.cell? ⟨bb,2,N⟩=S (I J M)/\Y.cell? ⟨w.heap.size,0,N⟩=S (.slice Aa p u)/\Y.cell? ⟨w.heap.size+1,0,N⟩=S (I U l0))/\((Y.setCell ⟨w.heap.size+1+1,0,N⟩ v).cell? ⟨bb,1,N⟩=S (I J (Dq X))/\(Y.setCell ⟨w.heap.size+1+1,0,N⟩ v).cell? ⟨bb,2,N⟩=S (I J M)/\(Y.setCell ⟨w.heap.size+1+1,0,N⟩ v).cell? ⟨w.heap.size,0,N⟩=S (.slice Aa p u)/\(Y.setCell ⟨w.heap.size+1+1,0,N⟩ v).cell? ⟨w.heap.size+1,0,N⟩=S (I U l0))/\(D=0->ID X M num den n w bb tb vl vr ca cc Oa Oc (.slice Aa p u) (.slice Ab s pb) m0 m1 l0 l1 w.heap.size (w.heap.size+1) (w.heap.size+1+1) 1 (Y.setCell ⟨w.heap.size+1+1,0,N⟩ v))/\(D≠0->RS X M num den n w bb tb vl vr m0 m1 (AB m0+l0) (AB m1+l1) z (R (I J D)) (Y.setCell ⟨w.heap.size+1+1,0,N⟩ v))from λY v D b6 BX q6=>by
      have H6:=H5.out.next b6;obtain⟨s6,f6⟩:=H6.nilAt (by decide);have H7:=H6.poke 0 v;refine⟨s6,f6,by rcases BX with rfl|⟨T,x,rfl⟩<;>rfl,by rcases BX with rfl|⟨T,x,rfl⟩<;>simp[go_sem,s6,f6],⟨(Ai H6.bn).2.1,(Ai H6.bn).2.2.1,H6.rows.cell rfl,H6.lost.cell rfl⟩,⟨(Ai H7.bn).2.1,(Ai H7.bn).2.2.1,H7.rows.cell rfl,H7.lost.cell rfl⟩,λy=> ?_,λy=>H6.failAt y 0 v⟩;obtain⟨cb,O,rfl,q7,C1⟩:=q6 y;exact H5.out.put0 b6 q7 C1)
     clear H5;have BQ:wr.drew.cell? ⟨bb,1,N⟩=S (I J (Dq X))/\wr.drew.cell? ⟨bb,2,N⟩=S (I J M)/\wr.drew.cell? ⟨w.heap.size,0,N⟩=S (.slice Aa p u)/\wr.drew.cell? ⟨w.heap.size+1,0,N⟩=S (I U l0):=⟨c1,c2,x0,y0⟩;clear c1 c2 x0 y0;obtain⟨W0,Ar⟩:∃W0,W0=wr.drew:=⟨_,rfl⟩;rw[<-Ar]at BQ Ap Ax;obtain⟨c1,c2,x0,y0⟩:=BQ;refine wp_region_any (by kernel_rfl) ?_;try(change wpAny _ _ _ _ _ _ _ (World.drew _))
     iterate 4 (refine Zt 22 (v:= ?_) rfl rfl (by kernel_rfl) (λ_ _ _ h=>h) (by rfl) ?_ ?_;rotate_left;focus (intro wz;go_simp;try with_reducible rfl))
     iterate 3 (refine Zt 23 (v:= ?_) rfl rfl (by kernel_rfl) (λ_ _ _ h=>h) (by rfl) ?_ ?_;rotate_left;focus (intro wz;go_simp;try with_reducible rfl))
     iterate 2 (refine Zt 24 (v:= ?_) rfl rfl (by kernel_rfl) (λ_ _ _ h=>h) (by rfl) ?_ ?_;rotate_left;focus (intro wz;go_simp;try with_reducible rfl))
     iterate 2 (refine Zt 25 (v:= ?_) rfl rfl (by kernel_rfl) (λ_ _ _ h=>h) (by rfl) ?_ ?_;rotate_left;focus (intro wz;go_simp;try with_reducible rfl))
     simp only[gW,gX,gY,Jx,dT,ej,es];rw[<-Ar];have hP:=Zh (show∀(Y:World) (v:V) (D:Int),Y9 X M m0 (AB m0+l0) W0 (R (.tuple #[v,I J D])) Y->PE X M m0 (AB m0+l0) W0 Y v D from λY v D hh=>by
      obtain⟨v',C4,e,h1,h2,h3⟩:=hh;injection e with e;injection e with e;simp at e;obtain⟨rfl,rfl⟩:=e;exact⟨h1,h2,h3⟩)
     refine Gz (λL θ=> [(48,L 4,I J (Dq X)),(52,L 8,I J M),(55,L 11,.slice Aa p u),(58,L 14,I U l0),(59,L 15,.tuple #[θ.1,I J θ.2]),(43,L 16,.tuple #[θ.1,I J θ.2]),(60,L 17,θ.1),(61,L 18,I J θ.2),(62,L 19,P (S ⟨w.heap.size+1+1,0,N⟩)),(13,L 21,I J θ.2)]) (Y8 22 [0,1,2,3,5,6,7,9,10,12,13] W0 (PE X M m0 (AB m0+l0) W0) (w.heap.size+1+1) 0 [4,8,11,14] [16,17,18,21] 15 20) [true,true,true,true,false,true,true,true,false,true,true,false,true,true,false,false,false,false,false,false,false,false] (.nilIface,0) (by kernel_rfl) (by kernel_rfl) rfl (by kernel_rfl) (by kernel_rfl) ?_ ?_ ?_
     ·refine⟨λ_=>rfl,λh=>absurd h (by decide),λh=>absurd h (by decide),λh=>absurd h (by decide),λh=>absurd h (by decide),?_,?_⟩;rotate_left
      ·intro _ j hj;simp only[Q0,RR,or_false]at hj;rcases hj with rfl|rfl|rfl|rfl<;>rfl
      intro j hj;simp only[Q0,RR,or_false]at hj;rcases hj with rfl|rfl|rfl|rfl|rfl|rfl|rfl|rfl|rfl|rfl|rfl<;>rfl
     ·intro L θ W Z i o hi F hd;have E6:i<22:=(List.getElem?_eq_some_iff.1 hi).1;have ht:i∉ [0,1,2,3,5,6,7,9,10,12,13]:=λhm=>by have:=Z.tk i hm;rw[F]at this;cases this
      have Aw:i=4\/i=8\/i=11\/i=14\/i=15\/i=16\/i=17\/i=18\/i=19\/i=20\/i=21:=by
       simp only[Q0,RR,or_false,not_or]at ht;omega
      have hW:∀k,k∈ [4,8,11,14]->L k=false->W=W0:=λk hk hf=>Z.a (by
       cases e:L 15 with
       |false=>rfl
       |true=>have:=Z.e e k hk;rw[hf]at this;cases this)
      clear ht;rcases Aw with rfl|rfl|rfl|rfl|rfl|rfl|rfl|rfl|rfl|rfl|rfl
      ·have m:=NW hi;subst m;have e:=hW 4 (by decide) F;subst e;refine At rfl rfl (EQ rfl ((BF (by simp)).trans rfl) (v:=I J (Dq X)) (by simp[go_sem,c1]) ⟨θ,Aj 0 (by simp only[F];rfl) (by simp) ?_,Z.flag 4 (by decide) (by decide) (λh=>absurd h (by decide))⟩);rfl
      ·have m:=NW hi;subst m;have e:=hW 8 (by decide) F;subst e;refine At rfl rfl (EQ rfl ((BF (by simp)).trans rfl) (v:=I J M) (by simp[go_sem,c2]) ⟨θ,Aj 1 (by simp only[F];rfl) (by simp) ?_,Z.flag 8 (by decide) (by decide) (λh=>absurd h (by decide))⟩);rfl
      ·have m:=NW hi;subst m;have e:=hW 11 (by decide) F;subst e;refine At rfl rfl (EQ rfl ((BF (by simp)).trans rfl) (v:=.slice Aa p u) (by simp[go_sem,x0]) ⟨θ,Aj 2 (by simp only[F];rfl) (by simp) ?_,Z.flag 11 (by decide) (by decide) (λh=>absurd h (by decide))⟩);rfl
      ·have m:=NW hi;subst m;have e:=hW 14 (by decide) F;subst e;refine At rfl rfl (EQ rfl ((BF (by simp)).trans rfl) (v:=I U l0) (by simp[go_sem,y0]) ⟨θ,Aj 3 (by simp only[F];rfl) (by simp) ?_,Z.flag 14 (by decide) (by decide) (λh=>absurd h (by decide))⟩);rfl
      ·have m:=NW hi;subst m;have e:=Z.a F;subst e;have k4:L 4=true:=hd ⟨4,.data⟩ (by simp) rfl;have k8:L 8=true:=hd ⟨8,.data⟩ (by simp) rfl;have B5:L 11=true:=hd ⟨11,.data⟩ (by simp) rfl;have B2:L 14=true:=hd ⟨14,.data⟩ (by simp) rfl;refine At rfl rfl (NZ (f:=89) rfl #[I J (Dq X),I J M,.slice Aa p u,I U l0] ?_ (by kernel_rfl) (Ax.mono λe Y hh=> ?_))
       ·simp only[gZ,fa,gc];rw[Ah (k:=0) (d:=48) (v:=I J (Dq X)) (by simp only[k4];rfl) (by simp) (by simp),Ah (k:=1) (d:=52) (v:=I J M) (by simp only[k8];rfl) (by simp) (by simp),Ah (k:=2) (d:=55) (v:=.slice Aa p u) (by simp only[B5];rfl) (by simp) (by simp),Ah (k:=3) (d:=58) (v:=I U l0) (by simp only[B2];rfl) (by simp) (by simp)]
       ·obtain⟨v,D,rfl,B3⟩:=hh;have hp:=hP.out Y v D ⟨v,D,rfl,B3⟩;have Cp:=Z.f F 16 (by decide);have Cr:=Z.f F 17 (by decide);have C3:=Z.f F 18 (by decide);have Bw:=Z.f F 21 (by decide);refine⟨_,rfl,(v,D),(Lf (k:=4) (by simp only[F];rfl) (by simp)).trans (Nh ?_),Z.called F (by decide) (λi hi=> ?_) hp⟩
        ·simp[KQ,FB,Cp,Cr,C3,Bw]
        ·simp only[Q0,RR,or_false]at hi;rcases hi with rfl|rfl|rfl|rfl<;>assumption
      ·have m:=NW hi;subst m;have l:L 15=true:=hd ⟨15,.data⟩ (by simp) rfl;refine At rfl rfl (RO rfl (Ah (k:=4) (by simp only[l];rfl) (by simp) (by simp)) ⟨θ,Aj 5 (by simp only[F];rfl) (by simp) ?_,Z.flag 16 (by decide) (by decide) (λ_=>l)⟩);rfl
      ·have m:=NW hi;subst m;have Ac:L 16=true:=hd ⟨16,.data⟩ (by simp) rfl;have l:L 15=true:=by
        cases e:L 15 with
        |true=>rfl
        |false=>have:=Z.f e 16 (by decide);rw[Ac]at this;cases this
       refine At rfl rfl (FT rfl (Ah (k:=5) (by simp only[Ac];rfl) (by simp) (by simp)) rfl ⟨θ,Aj 6 (by simp only[F];rfl) (by simp) ?_,Z.flag 17 (by decide) (by decide) (λ_=>l)⟩);rfl
      ·have m:=NW hi;subst m;have Ac:L 16=true:=hd ⟨16,.data⟩ (by simp) rfl;have l:L 15=true:=by
        cases e:L 15 with
        |true=>rfl
        |false=>have:=Z.f e 16 (by decide);rw[Ac]at this;cases this
       refine At rfl rfl (FT rfl (Ah (k:=5) (by simp only[Ac];rfl) (by simp) (by simp)) rfl ⟨θ,Aj 7 (by simp only[F];rfl) (by simp) ?_,Z.flag 18 (by decide) (by decide) (λ_=>l)⟩);rfl
      ·have m:=NW hi;subst m;refine At rfl rfl (Nf rfl ((BF (by simp)).trans rfl) ((BF (by simp)).trans rfl) (v:=P (S ⟨w.heap.size+1+1,0,N⟩)) (by kernel_rfl) ⟨θ,Aj 8 (by simp only[F];rfl) (by simp) ?_,Z.flag 19 (by decide) (by decide) (λh=>absurd h (by decide))⟩);rfl
      ·have m:=NW hi;subst m;have C8:L 19=true:=hd ⟨19,.data⟩ (by simp) rfl;have C9:L 17=true:=hd ⟨17,.data⟩ (by simp) rfl;have l:L 15=true:=hd ⟨15,.chain⟩ (by simp) rfl;obtain⟨p1,p2,p3⟩:=Z.b l F;obtain⟨s6,f6,_,D2,_,_⟩:=Ap.out W θ.1 θ.2 p1 p2 p3;refine At rfl rfl (Nd rfl (Ah (k:=8) (by simp only[C8];rfl) (by simp) (by simp)) (Ah (k:=6) (by simp only[C9];rfl) (by simp) (by simp)) (w' :=W.setCell ⟨w.heap.size+1+1,0,N⟩ θ.1) ?_ ⟨θ,?_,Z.stored F l (by decide)⟩)
       ·rcases p2 with e|⟨T',x',e⟩<;>rw[e]<;>simp[go_sem,s6,f6]
       ·rfl
      ·have m:=NW hi;subst m;have A6:L 18=true:=hd ⟨18,.data⟩ (by simp) rfl;have l:L 15=true:=by
        cases e:L 15 with
        |true=>rfl
        |false=>have:=Z.f e 18 (by decide);rw[A6]at this;cases this
       refine At rfl rfl (MJ rfl (Ah (k:=7) (by simp only[A6];rfl) (by simp) (by simp)) ⟨θ,Aj 9 (by simp only[F];rfl) (by simp) ?_,Z.flag 21 (by decide) (by decide) (λ_=>l)⟩);rfl
     ·intro L θ W Z G;obtain⟨v,D⟩:=θ;obtain⟨Y,⟨p1,p2,p3⟩,rfl⟩:=Z.c (G 20 (by decide));obtain⟨_,_,_,_,_,_,g6,k6⟩:=Ap.out Y v D p1 p2 p3;have h4:=G 4 (by decide);have h8:=G 8 (by decide);have A7:=G 11 (by decide);have A2:=G 14 (by decide);have A3:=G 15 (by decide);have BA:=G 16 (by decide);have Ba:=G 17 (by decide);have Bb:=G 18 (by decide);have BR:=G 19 (by decide);have A5:=G 21 (by decide);simp only[EO,h4,h8,A7,A2,A3,BA,Ba,Bb,BR,A5,bw,gd,if_true,dT,es,ej];clear h4 h8 A7 A2 A3 BA Ba Bb BR A5 Z G hP Ap Ax c1 c2 x0 y0 Ar;refine KK _ _ ?_;by_cases y:D=0
      ·have HN:=Zh (g6 y);have Ck:(D==0)=true:=by simp[y]
       have C2:(D !=0)=false:=by simp[y]
       clear g6 k6 y p1 p2 p3;go_wp2_with fail;go_roundg 1;case measure=>omega
       exact⟨1,by go_num,by decide,by decide,HN.out⟩
      ·have Ck:(D==0)=false:=by simp[y]
       have C2:(D !=0)=true:=by simp[y]
       have HN:=Zh (k6 y);clear g6 k6 y p1 p2 p3;go_wp2_with fail;go_ret;exact HN.out
  ·by_cases k1:r=1
   ·subst k1;clear k0;have HX:=Zh H;have x0:wr.cell? ⟨w.heap.size,1,N⟩=S (.slice Ab s pb):=H.rows.cell rfl;clear H;go_wp2_with fail;clear x0;go_loopg [12,25] s (λg _ i wr=>∃q:Nat,i=I J q/\q<=s/\s-q<=g/\ID X M num den n w bb tb vl vr ca cc Oa Oc (.slice Aa p u) (.slice Ab s pb) m0 m1 l0 l1 w.heap.size (w.heap.size+1) (w.heap.size+1+1) 1 wr);case atStart=>exact⟨0,rfl,aw _,E _,HX.out⟩
    case round=>
     clear HX;obtain⟨q,rfl,hq,hg,H⟩:=hrel;have HX:=Zh H;by_cases Bs:q<s
     ·have g0:(q:Int)<(s:Int):=by omega
      have Al:q<m1.length:=by rw[<-HR.out.2.2.2.1];exact Bs
      obtain⟨ix,A0⟩:∃i,i=(m1[q]'Al).1:=⟨_,rfl⟩;obtain⟨ct,Bt⟩:∃i,i=(m1[q]'Al).2:=⟨_,rfl⟩;have O2:=H.ob;rcases AH O2 with⟨Av,Ay,_⟩|⟨g,Fn,Av,B4,A9,_,B0⟩
      ·have:=HR.out.2.2.2.1;omega
      simp only[V.slice.injEq]at Av;obtain⟨rfl,D0,rfl⟩:=Av;have en:s=m1.length:=HR.out.2.2.2.1;have O3:wr.ownsRow 0 228 2 (.slice (S ⟨g,0,N⟩) m1.length pb) m1.length (AV m1):=by rw[<-en];rw[<-en]at O2;exact O2
      have p0:wr.cell? ⟨g,q*2,N⟩=S (I J ix):=by rw[O3.cellAt _ (by omega),BI m1 q Al,A0]
      have p1:wr.cell? ⟨g,q*2+1,N⟩=S (I U ct):=by rw[O3.cellAt _ (by omega),BT m1 q Al,Bt]
      have J2:Vi X M num den n w bb tb vl vr ca cc Oa Oc (.slice Aa p u) (.slice (S ⟨g,0,N⟩) s pb) m0 m1 l0 l1 w.heap.size (w.heap.size+1) (w.heap.size+1+1) 1 wr.heap.size ix ct (wr.alloc (.cells #[I J ix,I U ct] 228)):=⟨H.next (Za),AI.newAt rfl⟩;obtain⟨rv,A1⟩:∃rv,rv=KX num den n ix:=⟨_,rfl⟩;have AA:=λW (k:Vi X M num den n w bb tb vl vr ca cc Oa Oc (.slice Aa p u) (.slice (S ⟨g,0,N⟩) s pb) m0 m1 l0 l1 w.heap.size (w.heap.size+1) (w.heap.size+1+1) 1 wr.heap.size ix ct W)=>RP W tb vl vr num den n k.lx.bn.tab HM.out.2.2 ix;rw[<-A1]at AA;have A8:=λW=>eV tb W;have t1:decide ((ix:Int)<0)=false:=by first|(simp;done)|(simp;omega)
      have HJ:=Zh J2;clear O2 O3 H J2 B0 B4 A9 D0 en A0 Bt A1;go_upto_region 10 with fail;by_cases hz:rv=0
      ·have z1:((rv:Int)==0)=true:=by simp[hz]
       have z2:(rv==0)=true:=by simp[hz]
       clear hz;refine AG (C:=Vi X M num den n w bb tb vl vr ca cc Oa Oc (.slice Aa p u) (.slice (S ⟨g,0,N⟩) s pb) m0 m1 l0 l1 w.heap.size (w.heap.size+1) (w.heap.size+1+1) 1 wr.heap.size ix ct) (by kernel_rfl) (by kernel_rfl) (HJ.out.next (B.refl _ _).drew) ?_;repeat go_big_quiet_step(exact λ_=>rfl)
       go_big_quiet_want;refine⟨I J ix,λwx t=> ?_,?_⟩
       ·obtain⟨p0,p1⟩:=t.pc;go_simp
       go_big_quiet_on;simp only[Jx,Zp,Zq,Zr];repeat go_big_quiet_step(exact λ_=>rfl)
       go_big_quiet_want;refine⟨.iface 163 (P (S ⟨tb,0,N⟩)),λwx t=> ?_,?_⟩
       ·obtain⟨c0,c1,c2,c3,c4,c5,f3,f4,f5⟩:=Ai t.lx.bn;go_simp
       go_big_quiet_on;simp only[Jx,Zp,Zq,Zr];repeat go_big_quiet_step(exact λ_=>rfl)
       go_big_quiet_want;refine⟨I J ix,λwx t=> ?_,?_⟩
       ·obtain⟨p0,p1⟩:=t.pc;go_simp
       go_big_quiet_on;simp only[Jx,Zp,Zq,Zr];repeat go_big_quiet_step(exact λ_=>rfl)
       go_big_quiet_want;go_big_quiet_op;refine⟨I U rv,λwx t=> ?_,?_⟩
       ·exact(AA wx t).mono λ_ _ hm=>⟨hm.1,hm.2▸t⟩
       go_big_quiet_on;repeat go_big_quiet_step(exact λ_=>rfl)
       refine wpQuiet_nil ?_;intro w5 H5;have HF:=Zh (show RS X M num den n w bb tb vl vr m0 m1 (AB m0+l0) (AB m1+l1) z (R (I J 1)) w5 from H5.lx.fail (by decide));clear H5 AA A8;go_wp2_with fail;go_ret;exact HF.out
      ·have z1:((rv:Int)==0)=false:=by simp[hz]
       have z2:(rv==0)=false:=by simp[hz]
       clear hz;refine AG (C:=Vi X M num den n w bb tb vl vr ca cc Oa Oc (.slice Aa p u) (.slice (S ⟨g,0,N⟩) s pb) m0 m1 l0 l1 w.heap.size (w.heap.size+1) (w.heap.size+1+1) 1 wr.heap.size ix ct) (by kernel_rfl) (by kernel_rfl) (HJ.out.next (B.refl _ _).drew) ?_;repeat go_big_quiet_step(exact λ_=>rfl)
       go_big_quiet_want;refine⟨I J ix,λwx t=> ?_,?_⟩
       ·obtain⟨p0,p1⟩:=t.pc;go_simp
       go_big_quiet_on;simp only[Jx,Zp,Zq,Zr];repeat go_big_quiet_step(exact λ_=>rfl)
       go_big_quiet_want;refine⟨.iface 163 (P (S ⟨tb,0,N⟩)),λwx t=> ?_,?_⟩
       ·obtain⟨c0,c1,c2,c3,c4,c5,f3,f4,f5⟩:=Ai t.lx.bn;go_simp
       go_big_quiet_on;simp only[Jx,Zp,Zq,Zr];repeat go_big_quiet_step(exact λ_=>rfl)
       go_big_quiet_want;refine⟨I J ix,λwx t=> ?_,?_⟩
       ·obtain⟨p0,p1⟩:=t.pc;go_simp
       go_big_quiet_on;simp only[Jx,Zp,Zq,Zr];repeat go_big_quiet_step(exact λ_=>rfl)
       go_big_quiet_want;go_big_quiet_op;refine⟨I U rv,λwx t=> ?_,?_⟩
       ·exact(AA wx t).mono λ_ _ hm=>⟨hm.1,hm.2▸t⟩
       go_big_quiet_on;repeat go_big_quiet_step(exact λ_=>rfl)
       refine wpQuiet_nil ?_;intro w5 H5;have HF:=Zh H5.lx;clear H5 AA A8;go_wp2_with fail;go_roundg (s-(q+1));case measure=>omega
       exact⟨q+1,by go_num,by omega,E _,HF.out⟩
     ·have B1:q=s:=by omega
      have g0:¬(q:Int)<(s:Int):=by omega
      have HK:=H.next (B.refl _ _).drew;have A4:=λW (k:ID X M num den n w bb tb vl vr ca cc Oa Oc (.slice Aa p u) (.slice Ab s pb) m0 m1 l0 l1 w.heap.size (w.heap.size+1) (w.heap.size+1+1) 1 W)=>UT HM.out.1 HM.out.2.1 W (.slice Ab s pb) m1 l1 k.ob HR.out.2.1;clear H B1 Bs hq hg;go_upto_region 14 with fail;have Ax:=A4 _ HK;obtain⟨c0,c1,c2,c3,c4,c5,f3,f4,f5⟩:=Ai HK.bn;have x0:=HK.rows.cell (j:=1) rfl;have y0:=HK.lost.cell (j:=1) rfl;have H5:=Zh HK;clear A4 HK c0 c3 c4 c5 f3 f4 f5;rename_i KK;have Ap:=Zh (show∀(Y:World) (v:V) (D:Int),B wr.drew.heap.size wr.drew Y->(v=.nilIface\/∃T x,v=.iface T x)->(D=0->∃cb O,v=.iface (PT X) (P (S ⟨cb,0,N⟩))/\BU X M m1 (AB m1+l1) Y cb O/\∀j,O j->wr.drew.heap.size<=j)->Y.cell? ⟨w.heap.size+1+1,1,N⟩=S .nilIface/\Y.frozen? ⟨w.heap.size+1+1,1,N⟩=false/\v.cells= #[v]/\(Go.store ⟨w.heap.size+1+1,1,N⟩ v).run prog Y=.ok () (Y.setCell ⟨w.heap.size+1+1,1,N⟩ v)/\(Y.cell? ⟨bb,1,N⟩=S (I J (Dq X))/\Y.cell? ⟨bb,2,N⟩=S (I J M)/\Y.cell? ⟨w.heap.size,1,N⟩=S (.slice Ab s pb)/\Y.cell? ⟨w.heap.size+1,1,N⟩=S (I U l1))/\((Y.setCell ⟨w.heap.size+1+1,1,N⟩ v).cell? ⟨bb,1,N⟩=S (I J (Dq X))/\(Y.setCell ⟨w.heap.size+1+1,1,N⟩ v).cell? ⟨bb,2,N⟩=S (I J M)/\(Y.setCell ⟨w.heap.size+1+1,1,N⟩ v).cell? ⟨w.heap.size,1,N⟩=S (.slice Ab s pb)/\(Y.setCell ⟨w.heap.size+1+1,1,N⟩ v).cell? ⟨w.heap.size+1,1,N⟩=S (I U l1))/\(D=0->ID X M num den n w bb tb vl vr ca cc Oa Oc (.slice Aa p u) (.slice Ab s pb) m0 m1 l0 l1 w.heap.size (w.heap.size+1) (w.heap.size+1+1) 2 (Y.setCell ⟨w.heap.size+1+1,1,N⟩ v))/\(D≠0->RS X M num den n w bb tb vl vr m0 m1 (AB m0+l0) (AB m1+l1) z (R (I J D)) (Y.setCell ⟨w.heap.size+1+1,1,N⟩ v))from λY v D b6 BX q6=>by
       have H6:=H5.out.next b6;obtain⟨s6,f6⟩:=H6.nilAt (by decide);have H7:=H6.poke 1 v;refine⟨s6,f6,by rcases BX with rfl|⟨T,x,rfl⟩<;>rfl,by rcases BX with rfl|⟨T,x,rfl⟩<;>simp[go_sem,s6,f6],⟨(Ai H6.bn).2.1,(Ai H6.bn).2.2.1,H6.rows.cell rfl,H6.lost.cell rfl⟩,⟨(Ai H7.bn).2.1,(Ai H7.bn).2.2.1,H7.rows.cell rfl,H7.lost.cell rfl⟩,λy=> ?_,λy=>H6.failAt y 1 v⟩;obtain⟨cb,O,rfl,q7,C1⟩:=q6 y;exact H5.out.put1 b6 q7 C1)
      clear H5;have BQ:wr.drew.cell? ⟨bb,1,N⟩=S (I J (Dq X))/\wr.drew.cell? ⟨bb,2,N⟩=S (I J M)/\wr.drew.cell? ⟨w.heap.size,1,N⟩=S (.slice Ab s pb)/\wr.drew.cell? ⟨w.heap.size+1,1,N⟩=S (I U l1):=⟨c1,c2,x0,y0⟩;clear c1 c2 x0 y0;obtain⟨W0,Ar⟩:∃W0,W0=wr.drew:=⟨_,rfl⟩;rw[<-Ar]at BQ Ap Ax;obtain⟨c1,c2,x0,y0⟩:=BQ;refine wp_region_any (by kernel_rfl) ?_;try(change wpAny _ _ _ _ _ _ _ (World.drew _))
      iterate 4 (refine Zt 22 (v:= ?_) rfl rfl (by kernel_rfl) (λ_ _ _ h=>h) (by rfl) ?_ ?_;rotate_left;focus (intro wz;go_simp;try with_reducible rfl))
      iterate 3 (refine Zt 23 (v:= ?_) rfl rfl (by kernel_rfl) (λ_ _ _ h=>h) (by rfl) ?_ ?_;rotate_left;focus (intro wz;go_simp;try with_reducible rfl))
      iterate 2 (refine Zt 24 (v:= ?_) rfl rfl (by kernel_rfl) (λ_ _ _ h=>h) (by rfl) ?_ ?_;rotate_left;focus (intro wz;go_simp;try with_reducible rfl))
      iterate 2 (refine Zt 25 (v:= ?_) rfl rfl (by kernel_rfl) (λ_ _ _ h=>h) (by rfl) ?_ ?_;rotate_left;focus (intro wz;go_simp;try with_reducible rfl))
      simp only[gW,gX,gY,Jx,dT,ej,es];rw[<-Ar];have hP:=Zh (show∀(Y:World) (v:V) (D:Int),Y9 X M m1 (AB m1+l1) W0 (R (.tuple #[v,I J D])) Y->PE X M m1 (AB m1+l1) W0 Y v D from λY v D hh=>by
       obtain⟨v',C4,e,h1,h2,h3⟩:=hh;injection e with e;injection e with e;simp at e;obtain⟨rfl,rfl⟩:=e;exact⟨h1,h2,h3⟩)
      refine Gz (λL θ=> [(48,L 4,I J (Dq X)),(52,L 8,I J M),(55,L 11,.slice Ab s pb),(58,L 14,I U l1),(59,L 15,.tuple #[θ.1,I J θ.2]),(43,L 16,.tuple #[θ.1,I J θ.2]),(60,L 17,θ.1),(61,L 18,I J θ.2),(62,L 19,P (S ⟨w.heap.size+1+1,1,N⟩)),(13,L 21,I J θ.2)]) (Y8 22 [0,1,2,3,5,6,7,9,10,12,13] W0 (PE X M m1 (AB m1+l1) W0) (w.heap.size+1+1) 1 [4,8,11,14] [16,17,18,21] 15 20) [true,true,true,true,false,true,true,true,false,true,true,false,true,true,false,false,false,false,false,false,false,false] (.nilIface,0) (by kernel_rfl) (by kernel_rfl) rfl (by kernel_rfl) (by kernel_rfl) ?_ ?_ ?_
      ·refine⟨λ_=>rfl,λh=>absurd h (by decide),λh=>absurd h (by decide),λh=>absurd h (by decide),λh=>absurd h (by decide),?_,?_⟩;rotate_left
       ·intro _ j hj;simp only[Q0,RR,or_false]at hj;rcases hj with rfl|rfl|rfl|rfl<;>rfl
       intro j hj;simp only[Q0,RR,or_false]at hj;rcases hj with rfl|rfl|rfl|rfl|rfl|rfl|rfl|rfl|rfl|rfl|rfl<;>rfl
      ·intro L θ W Z i o hi F hd;have E6:i<22:=(List.getElem?_eq_some_iff.1 hi).1;have ht:i∉ [0,1,2,3,5,6,7,9,10,12,13]:=λhm=>by have:=Z.tk i hm;rw[F]at this;cases this
       have Aw:i=4\/i=8\/i=11\/i=14\/i=15\/i=16\/i=17\/i=18\/i=19\/i=20\/i=21:=by
        simp only[Q0,RR,or_false,not_or]at ht;omega
       have hW:∀k,k∈ [4,8,11,14]->L k=false->W=W0:=λk hk hf=>Z.a (by
        cases e:L 15 with
        |false=>rfl
        |true=>have:=Z.e e k hk;rw[hf]at this;cases this)
       clear ht;rcases Aw with rfl|rfl|rfl|rfl|rfl|rfl|rfl|rfl|rfl|rfl|rfl
       ·have m:=NW hi;subst m;have e:=hW 4 (by decide) F;subst e;refine At rfl rfl (EQ rfl ((BF (by simp)).trans rfl) (v:=I J (Dq X)) (by simp[go_sem,c1]) ⟨θ,Aj 0 (by simp only[F];rfl) (by simp) ?_,Z.flag 4 (by decide) (by decide) (λh=>absurd h (by decide))⟩);rfl
       ·have m:=NW hi;subst m;have e:=hW 8 (by decide) F;subst e;refine At rfl rfl (EQ rfl ((BF (by simp)).trans rfl) (v:=I J M) (by simp[go_sem,c2]) ⟨θ,Aj 1 (by simp only[F];rfl) (by simp) ?_,Z.flag 8 (by decide) (by decide) (λh=>absurd h (by decide))⟩);rfl
       ·have m:=NW hi;subst m;have e:=hW 11 (by decide) F;subst e;refine At rfl rfl (EQ rfl ((BF (by simp)).trans rfl) (v:=.slice Ab s pb) (by simp[go_sem,x0]) ⟨θ,Aj 2 (by simp only[F];rfl) (by simp) ?_,Z.flag 11 (by decide) (by decide) (λh=>absurd h (by decide))⟩);rfl
       ·have m:=NW hi;subst m;have e:=hW 14 (by decide) F;subst e;refine At rfl rfl (EQ rfl ((BF (by simp)).trans rfl) (v:=I U l1) (by simp[go_sem,y0]) ⟨θ,Aj 3 (by simp only[F];rfl) (by simp) ?_,Z.flag 14 (by decide) (by decide) (λh=>absurd h (by decide))⟩);rfl
       ·have m:=NW hi;subst m;have e:=Z.a F;subst e;have k4:L 4=true:=hd ⟨4,.data⟩ (by simp) rfl;have k8:L 8=true:=hd ⟨8,.data⟩ (by simp) rfl;have B5:L 11=true:=hd ⟨11,.data⟩ (by simp) rfl;have B2:L 14=true:=hd ⟨14,.data⟩ (by simp) rfl;refine At rfl rfl (NZ (f:=89) rfl #[I J (Dq X),I J M,.slice Ab s pb,I U l1] ?_ (by kernel_rfl) (Ax.mono λe Y hh=> ?_))
        ·simp only[gZ,fa,gc];rw[Ah (k:=0) (d:=48) (v:=I J (Dq X)) (by simp only[k4];rfl) (by simp) (by simp),Ah (k:=1) (d:=52) (v:=I J M) (by simp only[k8];rfl) (by simp) (by simp),Ah (k:=2) (d:=55) (v:=.slice Ab s pb) (by simp only[B5];rfl) (by simp) (by simp),Ah (k:=3) (d:=58) (v:=I U l1) (by simp only[B2];rfl) (by simp) (by simp)]
        ·obtain⟨v,D,rfl,B3⟩:=hh;have hp:=hP.out Y v D ⟨v,D,rfl,B3⟩;have Cp:=Z.f F 16 (by decide);have Cr:=Z.f F 17 (by decide);have C3:=Z.f F 18 (by decide);have Bw:=Z.f F 21 (by decide);refine⟨_,rfl,(v,D),(Lf (k:=4) (by simp only[F];rfl) (by simp)).trans (Nh ?_),Z.called F (by decide) (λi hi=> ?_) hp⟩
         ·simp[KQ,FB,Cp,Cr,C3,Bw]
         ·simp only[Q0,RR,or_false]at hi;rcases hi with rfl|rfl|rfl|rfl<;>assumption
       ·have m:=NW hi;subst m;have l:L 15=true:=hd ⟨15,.data⟩ (by simp) rfl;refine At rfl rfl (RO rfl (Ah (k:=4) (by simp only[l];rfl) (by simp) (by simp)) ⟨θ,Aj 5 (by simp only[F];rfl) (by simp) ?_,Z.flag 16 (by decide) (by decide) (λ_=>l)⟩);rfl
       ·have m:=NW hi;subst m;have Ac:L 16=true:=hd ⟨16,.data⟩ (by simp) rfl;have l:L 15=true:=by
         cases e:L 15 with
         |true=>rfl
         |false=>have:=Z.f e 16 (by decide);rw[Ac]at this;cases this
        refine At rfl rfl (FT rfl (Ah (k:=5) (by simp only[Ac];rfl) (by simp) (by simp)) rfl ⟨θ,Aj 6 (by simp only[F];rfl) (by simp) ?_,Z.flag 17 (by decide) (by decide) (λ_=>l)⟩);rfl
       ·have m:=NW hi;subst m;have Ac:L 16=true:=hd ⟨16,.data⟩ (by simp) rfl;have l:L 15=true:=by
         cases e:L 15 with
         |true=>rfl
         |false=>have:=Z.f e 16 (by decide);rw[Ac]at this;cases this
        refine At rfl rfl (FT rfl (Ah (k:=5) (by simp only[Ac];rfl) (by simp) (by simp)) rfl ⟨θ,Aj 7 (by simp only[F];rfl) (by simp) ?_,Z.flag 18 (by decide) (by decide) (λ_=>l)⟩);rfl
       ·have m:=NW hi;subst m;refine At rfl rfl (Nf rfl ((BF (by simp)).trans rfl) ((BF (by simp)).trans rfl) (v:=P (S ⟨w.heap.size+1+1,1,N⟩)) (by kernel_rfl) ⟨θ,Aj 8 (by simp only[F];rfl) (by simp) ?_,Z.flag 19 (by decide) (by decide) (λh=>absurd h (by decide))⟩);rfl
       ·have m:=NW hi;subst m;have C8:L 19=true:=hd ⟨19,.data⟩ (by simp) rfl;have C9:L 17=true:=hd ⟨17,.data⟩ (by simp) rfl;have l:L 15=true:=hd ⟨15,.chain⟩ (by simp) rfl;obtain⟨p1,p2,p3⟩:=Z.b l F;obtain⟨s6,f6,_,D2,_,_⟩:=Ap.out W θ.1 θ.2 p1 p2 p3;refine At rfl rfl (Nd rfl (Ah (k:=8) (by simp only[C8];rfl) (by simp) (by simp)) (Ah (k:=6) (by simp only[C9];rfl) (by simp) (by simp)) (w' :=W.setCell ⟨w.heap.size+1+1,1,N⟩ θ.1) ?_ ⟨θ,?_,Z.stored F l (by decide)⟩)
        ·rcases p2 with e|⟨T',x',e⟩<;>rw[e]<;>simp[go_sem,s6,f6]
        ·rfl
       ·have m:=NW hi;subst m;have A6:L 18=true:=hd ⟨18,.data⟩ (by simp) rfl;have l:L 15=true:=by
         cases e:L 15 with
         |true=>rfl
         |false=>have:=Z.f e 18 (by decide);rw[A6]at this;cases this
        refine At rfl rfl (MJ rfl (Ah (k:=7) (by simp only[A6];rfl) (by simp) (by simp)) ⟨θ,Aj 9 (by simp only[F];rfl) (by simp) ?_,Z.flag 21 (by decide) (by decide) (λ_=>l)⟩);rfl
      ·intro L θ W Z G;obtain⟨v,D⟩:=θ;obtain⟨Y,⟨p1,p2,p3⟩,rfl⟩:=Z.c (G 20 (by decide));obtain⟨_,_,_,_,_,_,g6,k6⟩:=Ap.out Y v D p1 p2 p3;have h4:=G 4 (by decide);have h8:=G 8 (by decide);have A7:=G 11 (by decide);have A2:=G 14 (by decide);have A3:=G 15 (by decide);have BA:=G 16 (by decide);have Ba:=G 17 (by decide);have Bb:=G 18 (by decide);have BR:=G 19 (by decide);have A5:=G 21 (by decide);simp only[EO,h4,h8,A7,A2,A3,BA,Ba,Bb,BR,A5,bw,gd,if_true,dT,es,ej];clear h4 h8 A7 A2 A3 BA Ba Bb BR A5 Z G hP Ap Ax c1 c2 x0 y0 Ar;refine KK _ _ ?_;by_cases y:D=0
       ·have HN:=Zh (g6 y);have Ck:(D==0)=true:=by simp[y]
        have C2:(D !=0)=false:=by simp[y]
        clear g6 k6 y p1 p2 p3;go_wp2_with fail;go_roundg 0;case measure=>omega
        exact⟨2,by go_num,by decide,by decide,HN.out⟩
       ·have Ck:(D==0)=false:=by simp[y]
        have C2:(D !=0)=true:=by simp[y]
        have HN:=Zh (k6 y);clear g6 k6 y p1 p2 p3;go_wp2_with fail;go_ret;exact HN.out
   ·have E7:r=2:=by omega
    subst E7;clear k0 k1;obtain⟨d0,d1,O0,O1,H2⟩:=H.to2;clear H;obtain⟨T0,Cs⟩:∃T,T=AB m0+l0:=⟨_,rfl⟩;obtain⟨T1,B9⟩:∃T,T=AB m1+l1:=⟨_,rfl⟩;have D8:T0+T1+z<=9223372036854775807:=by have:=HR.out.2.2.2.2;omega
    rw[<-Cs,<-B9]at H2;have HT:=Zh (Zi Cs B9);have D3:=λW (k:US X M num den n w bb tb vl vr ca cc Oa Oc m0 m1 T0 T1 (w.heap.size+1+1) d0 d1 O0 O1 W)=>Of W d0 O0 m0 T0 k.s0 (by omega);have E0:=λW (k:US X M num den n w bb tb vl vr ca cc Oa Oc m0 m1 T0 T1 (w.heap.size+1+1) d0 d1 O0 O1 W)=>Of W d1 O1 m1 T1 k.s1 (by omega);have E2:=λW=>Og X d0 W;have GA:=λW=>Og X d1 W;have he:=λa W=>(NH X a W).1;have D1:=Zh (λW b=>NY W b T0 T1 z D8);have H3:=H2.next (B.refl _ _).drew;clear H2 Cs B9 D8 HR;have E3:=Zh H3;obtain⟨x0,x1⟩:=UU X H3;clear H3;go_upto_region 18 with fail;rename_i KK;go_region_with(first
     |(go_at_call 90;refine(D1.out _ _ (by simp) (by simp) (by simp)).mono ?_;rintro e w7 ⟨rfl,rfl⟩)
     |((with_reducible refine(D3 _ (Hid.out (by assumption))).mono ?_);rintro e w5 ⟨rfl,b5⟩;have H5:Hid (US X M num den n w bb tb vl vr ca cc Oa Oc m0 m1 T0 T1 (w.heap.size+1+1) d0 d1 O0 O1 w5):=Zh (US.next (Hid.out (by assumption)) b5);obtain⟨E8,E4⟩:=UU X H5.out;clear b5)
     |((with_reducible refine(E0 _ (Hid.out (by assumption))).mono ?_);rintro e Y ⟨rfl,b6⟩;have CL :Hid (US X M num den n w bb tb vl vr ca cc Oa Oc m0 m1 T0 T1 (w.heap.size+1+1) d0 d1 O0 O1 Y):=Zh (US.next (Hid.out (by assumption)) b6);obtain⟨E9,GB⟩:=UU X CL.out;clear b6))
    all_goals(
     refine KK _ _ ?_;have H6:Hid (US X M num den n w bb tb vl vr ca cc Oa Oc m0 m1 T0 T1 (w.heap.size+1+1) d0 d1 O0 O1 (Y.alloc (.cells #[I U T0,I U T1,I U z] 23))):=Zh (CL.out.next (Za));generalize Y.alloc (.cells #[I U T0,I U T1,I U z] 23)=w9 at H6⊢;clear D3 E0 E2 GA D1 x0 x1 E8 E4 E9 GB H5 CL E3 KK;obtain⟨c0,c1,c2,c3,c4,c5,f3,f4,f5⟩:=Ai H6.out.bn;obtain⟨x0,x1⟩:=UU X H6.out;have HF:=Zh (H6.out.fin HB.out.1 z);have GE:bb<w.heap.size:=HB.out.1;have GC:bb≠w.heap.size+1+1:=by omega
     clear H6 c0 c1 c2;go_upto_region 21 with fail;rename_i KK;go_region;all_goals(
      refine KK _ _ ?_;go_wp2_with fail;go_ret;rw[<-HT.out.1,<-HT.out.2];exact HF.out))
def fP(W:World)(b:Nat):Nat->List V->World
 |_,[]=>W
 |j,v::vs=>fP (W.setCell ⟨b,j,N⟩ v) b (j+1) vs
def stA(cs:Array V):Nat->List V->Array V
 |_,[]=>cs
 |j,v::vs=>stA (cs.setIfInBounds j v) (j+1) vs
theorem UV{b T}:∀(D:List V) (j:Nat) {W:World} {F:Array V},AI W b F T->AI (fP W b j D) b (stA F j D) T
 | [],_,_,_,h=>h
 |v::D,j,_,_,h=>UV D (j+1) (h.set j v)
theorem ML{b}:∀(F:List V) (j:Nat) {D W:World} {G:Nat->Prop},G b\/D.heap.size<=b->AD G D W->AD G D (fP W b j F)
 | [],_,_,_,_,_,h=>h
 |v::F,j,_,_,_,hg,h=>ML F (j+1) hg (h.setCell ⟨b,j,N⟩ v hg)
def bS(a0 a1 a2 a3 a4 a5 a6 a7 a8 a9 a10:Int):List Value:=[I J a0,I U a1,I U a2,I J a3,I J a4,I J a5,I U a6,I J a7,I J a8,I J a9,I U a10]
def EZ(W:World)(b:Nat)(a0 a1 a2 a3 a4 a5 a6 a7 a8 a9 a10:Int):World:=fP W b 0 (bS a0 a1 a2 a3 a4 a5 a6 a7 a8 a9 a10)
def BN:Array Value:= #[I J 0,I U 0,I U 0,I J 0,I J 0,I J 0,I U 0,I J 0,I J 0,I J 0,I U 0]
section
variable {a0 a1 a2 a3 a4 a5 a6 a7 a8 a9 a10:Int}
theorem DO{W b T}(h:AI W b #[I J 0,I U 0,I U 0,I J 0,I J 0,I J 0,I U 0,I J 0,I J 0,I J 0,I U 0] T):AI (EZ W b a0 a1 a2 a3 a4 a5 a6 a7 a8 a9 a10) b (Ae a0 a1 a2 a3 a4 a5 a6 a7 a8 a9 a10) T:=by
 have e:stA #[I J 0,I U 0,I U 0,I J 0,I J 0,I J 0,I U 0,I J 0,I J 0,I J 0,I U 0] 0 (bS a0 a1 a2 a3 a4 a5 a6 a7 a8 a9 a10)=Ae a0 a1 a2 a3 a4 a5 a6 a7 a8 a9 a10:=by simp[stA,bS,Ae]
 have:=UV (bS a0 a1 a2 a3 a4 a5 a6 a7 a8 a9 a10) 0 h;rw[e]at this;exact this
theorem Fw(W b):AD (λk=>k=b) W (EZ W b a0 a1 a2 a3 a4 a5 a6 a7 a8 a9 a10):=ML _ _ (.inl rfl) (AD.refl _ _)
theorem CU{W b}(h:AI W b #[I J 0,I U 0,I U 0,I J 0,I J 0,I J 0,I U 0,I J 0,I J 0,I J 0,I U 0] 28):(W.cell? ⟨b,0,N⟩=S (I J 0)/\W.cell? ⟨b,1,N⟩=S (I U 0)/\W.cell? ⟨b,2,N⟩=S (I U 0)/\W.cell? ⟨b,3,N⟩=S (I J 0)/\W.cell? ⟨b,4,N⟩=S (I J 0)/\W.cell? ⟨b,5,N⟩=S (I J 0)/\W.cell? ⟨b,6,N⟩=S (I U 0)/\W.cell? ⟨b,7,N⟩=S (I J 0)/\W.cell? ⟨b,8,N⟩=S (I J 0)/\W.cell? ⟨b,9,N⟩=S (I J 0)/\W.cell? ⟨b,10,N⟩=S (I U 0))/\(W.frozen? ⟨b,0,N⟩=false/\W.frozen? ⟨b,1,N⟩=false/\W.frozen? ⟨b,2,N⟩=false/\W.frozen? ⟨b,3,N⟩=false/\W.frozen? ⟨b,4,N⟩=false/\W.frozen? ⟨b,5,N⟩=false/\W.frozen? ⟨b,6,N⟩=false/\W.frozen? ⟨b,7,N⟩=false/\W.frozen? ⟨b,8,N⟩=false/\W.frozen? ⟨b,9,N⟩=false/\W.frozen? ⟨b,10,N⟩=false):=
 ⟨⟨h.cell rfl,h.cell rfl,h.cell rfl,h.cell rfl,h.cell rfl,h.cell rfl,h.cell rfl,h.cell rfl,h.cell rfl,h.cell rfl,h.cell rfl⟩,⟨h.frozen 0,h.frozen 1,h.frozen 2,h.frozen 3,h.frozen 4,h.frozen 5,h.frozen 6,h.frozen 7,h.frozen 8,h.frozen 9,h.frozen 10⟩⟩
structure MM(w:World)(eb pb:Nat)(cs:Array V)(s:List UInt8)(W:World):Prop where
 eye:CZ W eb s
 cfg:AI W pb cs 28
 res:AI W w.heap.size #[I J 0,I U 0,I U 0,I J 0,I J 0,I J 0,I U 0,I J 0,I J 0,I J 0,I U 0] 28
 away:AD (λk=>k=eb) w W
 ne:pb≠eb/\w.heap.size≠eb/\w.heap.size<pb
theorem MM.look{w D pb G s F W W'}(h:MM w D pb G s W)(e:CZ W' D F)(a:AD (λk=>k=D) W W'):MM w D pb G F W' :=
 ⟨e,h.cfg.away a h.ne.1,h.res.away a h.ne.2.1,h.away.trans' a (λ_ _ h=>h) (λ_ _ h=>h),h.ne⟩
theorem MM.next{w D pb F s W W'}(h:MM w D pb F s W)(b:B W.heap.size W W'):MM w D pb F s W' :=
 ⟨AI.below h.eye b (AI.lt h.eye),h.cfg.below b h.cfg.lt,h.res.below b h.res.lt,h.away.then_below (b.mono h.away.size),h.ne⟩
theorem MN{Q:GX}(C:Cz Q){vals:AM}{T:TypeId}{w W D:World}{X pb:Nat}{d:Array V}{po:Option Addr}{ok:Bool}(h:MM w X pb d [] D)(f:w.heap.size<W.heap.size)
  (Z:ok=true->∃H O,po=S ⟨H,0,N⟩/\Q vals D H O/\∀k,O k->W.heap.size<=k):
  Hs (Ae a0 a1 a2 a3 a4 a5 a6 a7 a8 a9 a10) T (Q vals) w X (R (.tuple #[.agg (Ae a0 a1 a2 a3 a4 a5 a6 a7 a8 a9 a10),.iface T (.agg #[P po]),.bool ok])) (EZ D w.heap.size a0 a1 a2 a3 a4 a5 a6 a7 a8 a9 a10):=by
 refine⟨ok,_,rfl,?_,?_,λF=> ?_⟩
 ·exact h.away.trans' (G:=λk=>k=w.heap.size) (Fw D w.heap.size) (λ_ _ h=>h) λk F e=>by omega
 ·exact AI.away h.eye (Fw D w.heap.size) (by have:=h.ne;omega)
 ·obtain⟨H,O,rfl,q,Y⟩:=Z F;exact⟨H,O,rfl,C.away q (Fw D w.heap.size) (λk F e=>by have:=Y k F;omega),λk F=>by have:=Y k F;omega⟩
theorem Hs.on{Q:GX}(C:Cz Q){vals:AM}{T w D G ok po o}(d:G<w.heap.size)(i:AD (λk=>k=G) (w.alloc o) D)(g:CZ D G [])
  (Z:ok=true->∃X O,po=S ⟨X,0,N⟩/\Q vals D X O/\∀k,O k->(w.alloc o).heap.size<=k):
  Hs (Ae a0 a1 a2 a3 a4 a5 a6 a7 a8 a9 a10) T (Q vals) w G (R (.tuple #[.agg (Ae a0 a1 a2 a3 a4 a5 a6 a7 a8 a9 a10),.iface T (.agg #[P po]),.bool ok])) (EZ D w.heap.size a0 a1 a2 a3 a4 a5 a6 a7 a8 a9 a10):=by
 have l:(w.alloc o).heap.size=w.heap.size+1:=by simp
 have f:AD (λk=>k=G) w D:=(AD.of_below (F:=λk=>k=G) ((B.refl _ w).alloc (E _) o)).trans' i (λ_ _ h=>h) (λ_ _ h=>h);refine⟨ok,po,rfl,?_,?_,λH=> ?_⟩
 ·exact ML _ _ (.inr (E _)) f
 ·exact AI.away g (Fw D w.heap.size) (by omega)
 ·obtain⟨X,O,j,e,Y⟩:=Z H;exact⟨X,O,j,C.away e (Fw D w.heap.size) (λk H=>by have:=Y k H;omega),λk H=>by have:=Y k H;omega⟩
end
end Go.Proofs.YtbejdajkkoapgaaGreatDoor
