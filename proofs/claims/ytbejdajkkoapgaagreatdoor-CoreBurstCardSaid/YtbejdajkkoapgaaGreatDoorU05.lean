/-
  Lemmas and walks for coreBurst.proved, joined and squeezed by a program out of the loose texts J18, B4, P3, Cp, La, Lc, It. Conditions: each theorem states its own.
-/
import Derived.Test.YtbejdajkkoapgaaGreatDoorU04
import Derived.Test.YtbejdajkkoapgaaGreatDoorU03
import Derived.Test.YtbejdajkkoapgaaGreatDoorU01
set_option linter.all false
set_option maxRecDepth 100000
set_option maxHeartbeats 40000000
open Go.RowKit Go.Lib Go.Proofs.Tryz
open Array renaming length_toList->RR
open Go renaming Calls->C,Value->V,World->W
open Go.Act renaming eval->bw,put->V0
open Go.Addr renaming add_lit->fj,mk.injEq->gW
open Go.Ending renaming returned->R
open Go.IntKind renaming i64->J,u64->U,wrap_i64->gZ
open Go.RowKit renaming Below->B
open Go.Value renaming int->I,pointer->P,slice->L,tuple->T
open Int renaming lt_trichotomy->gg
open List renaming append_assoc->ag,dropLast_concat_getLast->gy,drop_length->hZ,drop_of_length_le->gY,filter_cons->gR,flatMap_append->gU,flatMap_cons->dT,getLast_eq_getElem->iA,getLast_mem->gi,length_append->Q0,length_cons->fk,length_drop->NW,length_nil->gT,length_take->Jx,map_append->gu,mem_cons_of_mem->gS,mem_cons_self->fx,mem_of_mem_drop->gX,nil_append->gh,range->gj,range_succ->gm,size_toArray->ej,take_append_of_le_length->fa,take_of_length_le->gQ,take_take->fy,toList_toArray->es
open Nat renaming eq_zero_or_pos->gv,le_refl->E,le_trans->fw,min->aw,min_def->gd,min_self->gc,sub_self->iB,zero_add->fp,zero_le->bh
open Option renaming none->N,some->S,some.injEq->gV
namespace Go.Proofs.YtbejdajkkoapgaaGreatDoor
theorem QD(w Y j O l M v1 Q D)(G l1:AL)(z lo hi)(h:Cm w Y j O l M v1 Q D G l1 z lo hi)(x)(hx:Am x)(h0:x<0)(AA:D=0\/Sg.mag x<=D)(hl:0<=D)(c)(hc:1<=c)(hT:C6 G l1 z+c<=9223372036854775807)(Ap:G.length<4000):
  C prog 236 #[P (S ⟨Y,0,N⟩),I J x,I U c] w λe w' =>e=R (I J 0)/\Xn w Y j O l M v1 Q D (Ak G (MP Q x) c) l1 z (JU (C6 G l1 z) lo x) (JV (C6 G l1 z) hi x) w' :=by
 obtain⟨c0,c1,c2,c3,c4,c5,c6,c7,f5,f6,f7⟩:=h.cells;have r :=hx;unfold Am at r;have ho:=λW=>Sg.of_any x W r.1 r.2;have g1:((c:Int)==0)=false:=by simp;omega
 have Aa:=Cf w Y j O l M v1 Q D G l1 z lo hi h (by omega);have Aw:AB G<=C6 G l1 z:=by unfold C6;omega
 obtain⟨T,Ac⟩:∃T,T=C6 G l1 z:=⟨_,rfl⟩;rw[<-Ac]at Aa hT Aw⊢;have Av:=λW b=>Az W b T c hT;have d:=λW (k:Cm W Y j O l M v1 Q D G l1 z lo hi)=>Xm W k x hx h0;have X:=λW (k:Cm W Y j O l M v1 Q D G l1 z lo hi)=>FX W O M G (MP Q x) k.st0 (by omega);have Ar:=λW (k:Cm W Y j O l M v1 Q D G l1 z (JU T lo x) (JV T hi x))=>Cc W O M G (MP Q x) c k.st0 hc (by omega) (by omega);have g2:D=0\/¬D<Sg.mag x:=AA.imp id (by omega);obtain⟨q,hq⟩:∃q,q=AP G (MP Q x):=⟨_,rfl⟩;rw[<-hq]at X;obtain⟨A,n,v,hv,hn⟩:∃A n v,M=L A n v/\n=G.length:=by
  rcases AH h.st0.own with⟨hv,hn,_⟩|⟨g,v,hv,_⟩
  ·exact⟨N,0,0,hv,hn.symm⟩
  ·exact⟨_,_,_,hv,rfl⟩
 have a:=λW (k:Cm W Y j O l M v1 Q D G l1 z lo hi)=>Ea W O A n v (by rw[<-hv];exact k.st0.cells.2.1);have Ay:¬(4096:Int)<=(n:Int):=by omega
 have HH:=Zh (Zi h Ac);have K:=Zh (Zi Aa (Zi Av (Zi d (Zi X (Zi Ar a)))));generalize Sg.mag x=m at g2 ho;generalize Sg.neg x=ng at ho;generalize MP Q x=ix at*;clear h Ac hl hx r AA hq hv hn Aa Av d X Ar a Ap h0;have g3:0<D/\¬D<m\/¬0<D:=by omega
 clear g2;rcases g3 with⟨g3,g4⟩|g3
 all_goals(
  go_enter func236,ntmps236;go_wp2_with fail;refine(ho _).mono ?_;rintro e w1 ⟨rfl,rfl⟩;go_wp2_with fail;refine K.out.1.mono ?_;rintro e w1 ⟨rfl,b1⟩;have H1:=HH.out.1.next b1;have t:=Zh (Zi H1 b1);clear H1 b1 c0 c1 c2 c3 c4 c5 c6 c7 f5 f6 f7;go_wp2_with fail;refine(K.out.2.1 _ _ (by simp) (by simp)).mono ?_;rintro e w2 ⟨rfl,rfl⟩;have B2:B w1.heap.size w1 (w1.alloc (.cells #[I U T,I U c] 23)):=Za;have H2:=t.out.1.next B2;have d:=K.out.2.2.1 _ H2;have p:=Zh (Zi H2 (t.out.2.trans (B2.mono t.out.2.size)));clear B2 H2 t ho;go_wp2_with fail;refine d.mono ?_;rintro e w3 ⟨rfl,b3⟩;have H3:=p.out.1.next b3;have X:=K.out.2.2.2.1 _ H3;have s:=Zh (Zi H3 (p.out.2.trans (b3.mono p.out.2.size)));clear H3 b3 p d;go_wp2_with fail;refine X.mono ?_;rintro e w4 ⟨rfl,b4⟩;have H4:=s.out.1.next b4;have Ab:=K.out.2.2.2.2.2 _ H4;have i:=Iv w4 Y j O l M v1 Q D G l1 z lo hi H4 (by rw[<-HH.out.2];omega) x x;rw[<-HH.out.2]at i;have u:=Zh (s.out.2.trans (b4.mono s.out.2.size));clear H4 b4 s X;by_cases Ax:q=0
  ·subst Ax;go_wp2_with fail;refine Ab.mono ?_;rintro e w5 ⟨rfl,rfl⟩;clear Ab;go_wp2_with fail;refine i.mono ?_;rintro e w5 ⟨rfl,Z,a5⟩;have H:=K.out.2.2.2.2.1 _ Z;have Al:=Zh (Zi Z ((AD.of_below (F:=Ce Y j O l M v1) u.out).trans' a5 (λ_ _ h=>h) (λk _ e=>.inl e)));clear Z a5 i u;go_wp2_with fail;refine H.mono ?_;rintro e w6 ⟨rfl,v',o,a6,y⟩;have HF:=Zh (Zi o (Zi a6 y));clear H o a6 y;go_wp2_with fail;go_ret;obtain⟨o,a6,y⟩:=HF.out;obtain⟨Z,A5⟩:=Al.out;obtain⟨H6,U6⟩:=Z.add0 o a6 y;refine⟨rfl,v',v1,H6,λk hk=>(U6 k hk).imp id λg=>fw A5.size g,A5.trans' a6 (λ_ _ h=>h) (λk _ e=> ?_)⟩;rcases e with e|e
   ·exact .inr (.inr (.inl e))
   ·exact .inr (.inr (.inr (.inr (.inl e))))
  ·have gq:((q:Int)==0)=false:=by simp;omega
   clear Ab;go_wp2_with fail;refine i.mono ?_;rintro e w5 ⟨rfl,Z,a5⟩;have H:=K.out.2.2.2.2.1 _ Z;have Al:=Zh (Zi Z ((AD.of_below (F:=Ce Y j O l M v1) u.out).trans' a5 (λ_ _ h=>h) (λk _ e=>.inl e)));clear Z a5 i u;go_wp2_with fail;refine H.mono ?_;rintro e w6 ⟨rfl,v',o,a6,y⟩;have HF:=Zh (Zi o (Zi a6 y));clear H o a6 y;go_wp2_with fail;go_ret;obtain⟨o,a6,y⟩:=HF.out;obtain⟨Z,A5⟩:=Al.out;obtain⟨H6,U6⟩:=Z.add0 o a6 y;refine⟨rfl,v',v1,H6,λk hk=>(U6 k hk).imp id λg=>fw A5.size g,A5.trans' a6 (λ_ _ h=>h) (λk _ e=> ?_)⟩;rcases e with e|e
   ·exact .inr (.inr (.inl e))
   ·exact .inr (.inr (.inr (.inr (.inl e)))))
theorem QE(w Y l j O X v1 M D)(K l1:AL)(z lo hi)(h:Cm w Y l j O X v1 M D K l1 z lo hi)(x)(hx:Am x)(h0:0<x)(AA:D=0\/Sg.mag x<=D)(hl:0<=D)(c)(hc:1<=c)(hT:C6 K l1 z+c<=9223372036854775807)(Ap:l1.length<4000):
  C prog 236 #[P (S ⟨Y,0,N⟩),I J x,I U c] w λe w' =>e=R (I J 0)/\Xn w Y l j O X v1 M D K (Ak l1 (MP M x) c) z (JU (C6 K l1 z) lo x) (JV (C6 K l1 z) hi x) w' :=by
 obtain⟨c0,c1,c2,c3,c4,c5,c6,c7,f5,f6,f7⟩:=h.cells;have r :=hx;unfold Am at r;have ho:=λW=>Sg.of_any x W r.1 r.2;have g1:((c:Int)==0)=false:=by simp;omega
 have Aa:=Cf w Y l j O X v1 M D K l1 z lo hi h (by omega);have Aw:AB l1<=C6 K l1 z:=by unfold C6;omega
 obtain⟨T,Ac⟩:∃T,T=C6 K l1 z:=⟨_,rfl⟩;rw[<-Ac]at Aa hT Aw⊢;have Av:=λW b=>Az W b T c hT;have d:=λW (k:Cm W Y l j O X v1 M D K l1 z lo hi)=>Xl W k x hx h0;have Q:=λW (k:Cm W Y l j O X v1 M D K l1 z lo hi)=>FX W O v1 l1 (MP M x) k.st1 (by omega);have Ar:=λW (k:Cm W Y l j O X v1 M D K l1 z (JU T lo x) (JV T hi x))=>Cc W O v1 l1 (MP M x) c k.st1 hc (by omega) (by omega);have g2:D=0\/¬D<Sg.mag x:=AA.imp id (by omega);obtain⟨q,hq⟩:∃q,q=AP l1 (MP M x):=⟨_,rfl⟩;rw[<-hq]at Q;obtain⟨A,n,v,hv,hn⟩:∃A n v,v1=L A n v/\n=l1.length:=by
  rcases AH h.st1.own with⟨hv,hn,_⟩|⟨g,v,hv,_⟩
  ·exact⟨N,0,0,hv,hn.symm⟩
  ·exact⟨_,_,_,hv,rfl⟩
 have a:=λW (k:Cm W Y l j O X v1 M D K l1 z lo hi)=>Ea W O A n v (by rw[<-hv];exact k.st1.cells.2.1);have Ay:¬(4096:Int)<=(n:Int):=by omega
 have HH:=Zh (Zi h Ac);have H:=Zh (Zi Aa (Zi Av (Zi d (Zi Q (Zi Ar a)))));generalize Sg.mag x=m at g2 ho;generalize Sg.neg x=ng at ho;generalize MP M x=ix at*;clear h Ac hl hx r AA hq hv hn Aa Av d Q Ar a Ap h0;have g3:0<D/\¬D<m\/¬0<D:=by omega
 clear g2;rcases g3 with⟨g3,g4⟩|g3
 all_goals(
  go_enter func236,ntmps236;go_wp2_with fail;refine(ho _).mono ?_;rintro e w1 ⟨rfl,rfl⟩;go_wp2_with fail;refine H.out.1.mono ?_;rintro e w1 ⟨rfl,b1⟩;have H1:=HH.out.1.next b1;have t:=Zh (Zi H1 b1);clear H1 b1 c0 c1 c2 c3 c4 c5 c6 c7 f5 f6 f7;go_wp2_with fail;refine(H.out.2.1 _ _ (by simp) (by simp)).mono ?_;rintro e w2 ⟨rfl,rfl⟩;have B2:B w1.heap.size w1 (w1.alloc (.cells #[I U T,I U c] 23)):=Za;have H2:=t.out.1.next B2;have d:=H.out.2.2.1 _ H2;have p:=Zh (Zi H2 (t.out.2.trans (B2.mono t.out.2.size)));clear B2 H2 t ho;go_wp2_with fail;refine d.mono ?_;rintro e w3 ⟨rfl,b3⟩;have H3:=p.out.1.next b3;have Q:=H.out.2.2.2.1 _ H3;have s:=Zh (Zi H3 (p.out.2.trans (b3.mono p.out.2.size)));clear H3 b3 p d;go_wp2_with fail;refine Q.mono ?_;rintro e w4 ⟨rfl,b4⟩;have H4:=s.out.1.next b4;have Ab:=H.out.2.2.2.2.2 _ H4;have i:=Iv w4 Y l j O X v1 M D K l1 z lo hi H4 (by rw[<-HH.out.2];omega) x x;rw[<-HH.out.2]at i;have u:=Zh (s.out.2.trans (b4.mono s.out.2.size));clear H4 b4 s Q;by_cases Ax:q=0
  ·subst Ax;go_wp2_with fail;refine Ab.mono ?_;rintro e w5 ⟨rfl,rfl⟩;clear Ab;go_wp2_with fail;refine i.mono ?_;rintro e w5 ⟨rfl,Z,a5⟩;have G:=H.out.2.2.2.2.1 _ Z;have Al:=Zh (Zi Z ((AD.of_below (F:=Ce Y l j O X v1) u.out).trans' a5 (λ_ _ h=>h) (λk _ e=>.inl e)));clear Z a5 i u;go_wp2_with fail;refine G.mono ?_;rintro e w6 ⟨rfl,v',o,a6,y⟩;have HF:=Zh (Zi o (Zi a6 y));clear G o a6 y;go_wp2_with fail;go_ret;obtain⟨o,a6,y⟩:=HF.out;obtain⟨Z,A5⟩:=Al.out;obtain⟨H6,U6⟩:=Z.add1 o a6 y;refine⟨rfl,X,v',H6,λk hk=>(U6 k hk).imp id λg=>fw A5.size g,A5.trans' a6 (λ_ _ h=>h) (λk _ e=> ?_)⟩;rcases e with e|e
   ·exact .inr (.inr (.inr (.inl e)))
   ·exact .inr (.inr (.inr (.inr (.inr e))))
  ·have gq:((q:Int)==0)=false:=by simp;omega
   clear Ab;go_wp2_with fail;refine i.mono ?_;rintro e w5 ⟨rfl,Z,a5⟩;have G:=H.out.2.2.2.2.1 _ Z;have Al:=Zh (Zi Z ((AD.of_below (F:=Ce Y l j O X v1) u.out).trans' a5 (λ_ _ h=>h) (λk _ e=>.inl e)));clear Z a5 i u;go_wp2_with fail;refine G.mono ?_;rintro e w6 ⟨rfl,v',o,a6,y⟩;have HF:=Zh (Zi o (Zi a6 y));clear G o a6 y;go_wp2_with fail;go_ret;obtain⟨o,a6,y⟩:=HF.out;obtain⟨Z,A5⟩:=Al.out;obtain⟨H6,U6⟩:=Z.add1 o a6 y;refine⟨rfl,X,v',H6,λk hk=>(U6 k hk).imp id λg=>fw A5.size g,A5.trans' a6 (λ_ _ h=>h) (λk _ e=> ?_)⟩;rcases e with e|e
   ·exact .inr (.inr (.inr (.inl e)))
   ·exact .inr (.inr (.inr (.inr (.inr e)))))
def Gr(c:Bool)(a:Int):Int:=if c then a else 0
def By(k a:Int):Int:=Gr (k==1||k==4) a
def Dg(k a:Int):Int:=Gr (k==1) a
def Dh(k a:Int):Int:=Gr (k==1||k==6) a
def Bz(k a:Int):Int:=Gr (k==2) a
def B6(k a:Int):Int:=Gr (k==3) a
def B7(k a:Int):Int:=Gr (k==5) a
theorem Ek{c a}(h:c=true):Gr c a=a:=by unfold Gr;rw[if_pos h]
theorem Bd{c a}(h:c=false):Gr c a=0:=by unfold Gr;rw[h];rfl
theorem cj(w a1 a2 a3 a4 a5 a6 a7 a8 a9 a10):
  C prog 29 #[.agg #[I J 1,I U a1,I U a2,I J a3,I J a4,I J a5,I U a6,I J a7,I J a8,I J a9,I U a10]] w λe w' =>e=R (.agg #[I J 1,I U a1,I U a2,I J a3,I J a4,I J 0,I U 0,I J 0,I J 0,I J 0,I U 0])/\B w.heap.size w w' :=by
 go_enter func29,ntmps29;go_wp2;go_region;all_goals(try go_wp2)
 all_goals(
  refine bodyPost_ret (v:=.agg #[I J 1,I U a1,I U a2,I J a3,I J a4,I J 0,I U 0,I J 0,I J 0,I J 0,I U 0]) (by simp[results,results29,go_sem]) rfl ?_;exact⟨rfl,((((B.refl _ w).alloc (E _) _).alloc (by simp) _).alloc (by simp;omega) _).drew⟩)
theorem ck(w a1 a2 a3 a4 a5 a6 a7 a8 a9 a10):
  C prog 29 #[.agg #[I J 2,I U a1,I U a2,I J a3,I J a4,I J a5,I U a6,I J a7,I J a8,I J a9,I U a10]] w λe w' =>e=R (.agg #[I J 2,I U 0,I U 0,I J 0,I J 0,I J a5,I U a6,I J 0,I J 0,I J 0,I U 0])/\B w.heap.size w w' :=by
 go_enter func29,ntmps29;go_wp2;go_region;all_goals(try go_wp2)
 all_goals(
  refine bodyPost_ret (v:=.agg #[I J 2,I U 0,I U 0,I J 0,I J 0,I J a5,I U a6,I J 0,I J 0,I J 0,I U 0]) (by simp[results,results29,go_sem]) rfl ?_;exact⟨rfl,((((B.refl _ w).alloc (E _) _).alloc (by simp) _).alloc (by simp;omega) _).drew⟩)
theorem cm(w a1 a2 a3 a4 a5 a6 a7 a8 a9 a10):
  C prog 29 #[.agg #[I J 3,I U a1,I U a2,I J a3,I J a4,I J a5,I U a6,I J a7,I J a8,I J a9,I U a10]] w λe w' =>e=R (.agg #[I J 3,I U 0,I U 0,I J 0,I J 0,I J 0,I U 0,I J a7,I J a8,I J 0,I U 0])/\B w.heap.size w w' :=by
 go_enter func29,ntmps29;go_wp2;go_region;all_goals(try go_wp2)
 all_goals(
  refine bodyPost_ret (v:=.agg #[I J 3,I U 0,I U 0,I J 0,I J 0,I J 0,I U 0,I J a7,I J a8,I J 0,I U 0]) (by simp[results,results29,go_sem]) rfl ?_;exact⟨rfl,((((B.refl _ w).alloc (E _) _).alloc (by simp) _).alloc (by simp;omega) _).drew⟩)
theorem cn(w a1 a2 a3 a4 a5 a6 a7 a8 a9 a10):
  C prog 29 #[.agg #[I J 4,I U a1,I U a2,I J a3,I J a4,I J a5,I U a6,I J a7,I J a8,I J a9,I U a10]] w λe w' =>e=R (.agg #[I J 4,I U a1,I U a2,I J 0,I J 0,I J 0,I U 0,I J 0,I J 0,I J 0,I U 0])/\B w.heap.size w w' :=by
 go_enter func29,ntmps29;go_wp2;refine bodyPost_ret (v:=.agg #[I J 4,I U a1,I U a2,I J 0,I J 0,I J 0,I U 0,I J 0,I J 0,I J 0,I U 0]) (by simp[results,results29,go_sem]) rfl ?_;exact⟨rfl,(((B.refl _ w).alloc (E _) _).alloc (by simp) _).alloc (by simp;omega) _⟩
theorem co(w a1 a2 a3 a4 a5 a6 a7 a8 a9 a10):
  C prog 29 #[.agg #[I J 5,I U a1,I U a2,I J a3,I J a4,I J a5,I U a6,I J a7,I J a8,I J a9,I U a10]] w λe w' =>e=R (.agg #[I J 5,I U 0,I U 0,I J 0,I J 0,I J 0,I U 0,I J 0,I J 0,I J a9,I U a10])/\B w.heap.size w w' :=by
 go_enter func29,ntmps29;go_wp2;go_region;all_goals(try go_wp2)
 all_goals(
  refine bodyPost_ret (v:=.agg #[I J 5,I U 0,I U 0,I J 0,I J 0,I J 0,I U 0,I J 0,I J 0,I J a9,I U a10]) (by simp[results,results29,go_sem]) rfl ?_;exact⟨rfl,((((B.refl _ w).alloc (E _) _).alloc (by simp) _).alloc (by simp;omega) _).drew⟩)
theorem cq(w a1 a2 a3 a4 a5 a6 a7 a8 a9 a10):
  C prog 29 #[.agg #[I J 6,I U a1,I U a2,I J a3,I J a4,I J a5,I U a6,I J a7,I J a8,I J a9,I U a10]] w λe w' =>e=R (.agg #[I J 6,I U 0,I U 0,I J 0,I J a4,I J 0,I U 0,I J 0,I J 0,I J 0,I U 0])/\B w.heap.size w w' :=by
 go_enter func29,ntmps29;go_wp2;refine bodyPost_ret (v:=.agg #[I J 6,I U 0,I U 0,I J 0,I J a4,I J 0,I U 0,I J 0,I J 0,I J 0,I U 0]) (by simp[results,results29,go_sem]) rfl ?_;exact⟨rfl,(((B.refl _ w).alloc (E _) _).alloc (by simp) _).alloc (by simp;omega) _⟩
theorem cu(w a0 a1 a2 a3 a4 a5 a6 a7 a8 a9 a10)(F:(a0==1)=false)(A:(a0==2)=false)(H:(a0==3)=false)(D:(a0==4)=false)(G:(a0==5)=false)(K:(a0==6)=false):
  C prog 29 #[.agg #[I J a0,I U a1,I U a2,I J a3,I J a4,I J a5,I U a6,I J a7,I J a8,I J a9,I U a10]] w λe w' =>e=R (.agg #[I J a0,I U 0,I U 0,I J 0,I J 0,I J 0,I U 0,I J 0,I J 0,I J 0,I U 0])/\B w.heap.size w w' :=by
 go_enter func29,ntmps29;go_wp2;refine bodyPost_ret (v:=.agg #[I J a0,I U 0,I U 0,I J 0,I J 0,I J 0,I U 0,I J 0,I J 0,I J 0,I U 0]) (by simp[results,results29,go_sem]) rfl ?_;exact⟨rfl,(((B.refl _ w).alloc (E _) _).alloc (by simp) _).alloc (by simp;omega) _⟩
theorem Xo(w a0 a1 a2 a3 a4 a5 a6 a7 a8 a9 a10):
  C prog 29 #[.agg #[I J a0,I U a1,I U a2,I J a3,I J a4,I J a5,I U a6,I J a7,I J a8,I J a9,I U a10]] w λe w' =>e=R (.agg #[I J a0,I U (By a0 a1),I U (By a0 a2),I J (Dg a0 a3),I J (Dh a0 a4),I J (Bz a0 a5),I U (Bz a0 a6),I J (B6 a0 a7),I J (B6 a0 a8),I J (B7 a0 a9),I U (B7 a0 a10)])/\B w.heap.size w w' :=by
 by_cases H:a0=1
 ·subst H;exact cj w a1 a2 a3 a4 a5 a6 a7 a8 a9 a10
 by_cases D:a0=2
 ·subst D;exact ck w a1 a2 a3 a4 a5 a6 a7 a8 a9 a10
 by_cases Q:a0=3
 ·subst Q;exact cm w a1 a2 a3 a4 a5 a6 a7 a8 a9 a10
 by_cases G:a0=4
 ·subst G;exact cn w a1 a2 a3 a4 a5 a6 a7 a8 a9 a10
 by_cases K:a0=5
 ·subst K;exact co w a1 a2 a3 a4 a5 a6 a7 a8 a9 a10
 by_cases X:a0=6
 ·subst X;exact cq w a1 a2 a3 a4 a5 a6 a7 a8 a9 a10
 have O:(a0==1)=false:=by simp[H]
 have F:(a0==2)=false:=by simp[D]
 have Z:(a0==3)=false:=by simp[Q]
 have M:(a0==4)=false:=by simp[G]
 have Y:(a0==5)=false:=by simp[K]
 have A:(a0==6)=false:=by simp[X]
 have h:=cu w a0 a1 a2 a3 a4 a5 a6 a7 a8 a9 a10 O F Z M Y A;unfold By Dg Dh Bz B6 B7 Gr;rw[O,F,Z,M,Y,A];exact h
def Xp(a0 a1 a2 a3 a4 a5 a6 a7 a8 a9 a10:Int)(T:TypeId)(db:Nat):Array Value:= #[I J a0,I U a1,I U a2,I J a3,I J a4,I J a5,I U a6,I J a7,I J a8,I J a9,I U a10,.iface T (.agg #[P (S ⟨db,0,N⟩)])]
structure Zn(w:World)(b:Nat)(a0 a1 a2 a3 a4 a5 a6 a7 a8 a9 a10:Int)(W:World):Prop where
 blk:AI W b #[I J a0,I U a1,I U a2,I J a3,I J a4,I J a5,I U a6,I J a7,I J a8,I J a9,I U a10] 28
 below:B w.heap.size w W
section
variable {w:World} {b:Nat} {a0 a1 a2 a3 a4 a5 a6 a7 a8 a9 a10:Int} {W W' :World}
theorem Zn.next(h:Zn w b a0 a1 a2 a3 a4 a5 a6 a7 a8 a9 a10 W)(A:B W.heap.size W W'):Zn w b a0 a1 a2 a3 a4 a5 a6 a7 a8 a9 a10 W' :=⟨h.blk.below A h.blk.lt,h.below.trans (A.mono h.below.size)⟩
theorem Zn.drew(h:Zn w b a0 a1 a2 a3 a4 a5 a6 a7 a8 a9 a10 W):Zn w b a0 a1 a2 a3 a4 a5 a6 a7 a8 a9 a10 W.drew:=⟨h.blk.drew,h.below.drew⟩
theorem Zn.cells(h:Zn w b a0 a1 a2 a3 a4 a5 a6 a7 a8 a9 a10 W):W.cell? ⟨b,0,N⟩=S (I J a0)/\W.cell? ⟨b,1,N⟩=S (I U a1)/\W.cell? ⟨b,2,N⟩=S (I U a2)/\W.cell? ⟨b,3,N⟩=S (I J a3)/\W.cell? ⟨b,4,N⟩=S (I J a4)/\W.cell? ⟨b,5,N⟩=S (I J a5)/\W.cell? ⟨b,6,N⟩=S (I U a6)/\W.cell? ⟨b,7,N⟩=S (I J a7)/\W.cell? ⟨b,8,N⟩=S (I J a8)/\W.cell? ⟨b,9,N⟩=S (I J a9)/\W.cell? ⟨b,10,N⟩=S (I U a10):=
 ⟨h.blk.cell rfl,h.blk.cell rfl,h.blk.cell rfl,h.blk.cell rfl,h.blk.cell rfl,h.blk.cell rfl,h.blk.cell rfl,h.blk.cell rfl,h.blk.cell rfl,h.blk.cell rfl,h.blk.cell rfl⟩
end
def Gs(T:TypeId)(Q:W->Nat->(Nat->Prop)->Prop)(ok:Prop)(w:W)(e:Ending)(w' :W):Prop:=∃(v:V) (code:Int),e=R (.tuple #[v,I J code])/\B w.heap.size w w' /\
 (code=0->∃db O,v=.iface T (.agg #[P (S ⟨db,0,N⟩)])/\Q w' db O/\∀k,O k->w.heap.size<=k)/\(ok->code=0)
def eM(a0 a1 a2 a3 a4 a5 a6 a7 a8 a9 a10:Int)(T:TypeId)(Q:W->Nat->(Nat->Prop)->Prop)(ok:Prop)(w:W)(e:Ending)(w' :W):Prop:=∃(po:Option Addr) (code:Int),e=R (.tuple #[P po,I J code])/\B w.heap.size w w' /\
 (code=0->Df a0 a1 a2 a3 a4 a5 a6 a7 a8 a9 a10 a0 (By a0 a1) (By a0 a2) (Dg a0 a3) (Dh a0 a4) (Bz a0 a5) (Bz a0 a6) (B6 a0 a7) (B6 a0 a8) (B7 a0 a9) (B7 a0 a10)=true/\∃kb db O,po=S ⟨kb,0,N⟩/\AI w' kb (Xp a0 a1 a2 a3 a4 a5 a6 a7 a8 a9 a10 T db) 76/\Q w' db O/\(∀k,O k->w.heap.size<=k/\k<kb)/\w.heap.size<=kb)/\(Df a0 a1 a2 a3 a4 a5 a6 a7 a8 a9 a10 a0 (By a0 a1) (By a0 a2) (Dg a0 a3) (Dh a0 a4) (Bz a0 a5) (Bz a0 a6) (B6 a0 a7) (B6 a0 a8) (B7 a0 a9) (B7 a0 a10)=true->ok->code=0)
theorem OJ(w a0 a1 a2 a3 a4 a5 a6 a7 a8 a9 a10 T)(Q:World->Nat->(Nat->Prop)->Prop)(ok:Prop)(hQ:∀W W' Y O,Q W Y O->B W.heap.size W W' ->Q W' Y O)(hL:∀W Y O,Q W Y O->∀k,O k->k<W.heap.size)
  (c:∀W,B w.heap.size w W->Calls prog 30 #[.agg #[I J a0,I U a1,I U a2,I J a3,I J a4,I J a5,I U a6,I J a7,I J a8,I J a9,I U a10]] W (Gs T Q ok W)):
  Calls prog 17 #[.agg #[I J a0,I U a1,I U a2,I J a3,I J a4,I J a5,I U a6,I J a7,I J a8,I J a9,I U a10]] w (eM a0 a1 a2 a3 a4 a5 a6 a7 a8 a9 a10 T Q ok w):=by
 have H:Zn w w.heap.size a0 a1 a2 a3 a4 a5 a6 a7 a8 a9 a10 (w.alloc (.cells #[I J a0,I U a1,I U a2,I J a3,I J a4,I J a5,I U a6,I J a7,I J a8,I J a9,I U a10] 28)):=⟨AI.newAt rfl,Za⟩;have A:=λW=>Xo W a0 a1 a2 a3 a4 a5 a6 a7 a8 a9 a10;have D:=λW=>cC W a0 a1 a2 a3 a4 a5 a6 a7 a8 a9 a10 a0 (By a0 a1) (By a0 a2) (Dg a0 a3) (Dh a0 a4) (Bz a0 a5) (Bz a0 a6) (B6 a0 a7) (B6 a0 a8) (B7 a0 a9) (B7 a0 a10);obtain⟨sm,M⟩:∃b,b=Df a0 a1 a2 a3 a4 a5 a6 a7 a8 a9 a10 a0 (By a0 a1) (By a0 a2) (Dg a0 a3) (Dh a0 a4) (Bz a0 a5) (Bz a0 a6) (B6 a0 a7) (B6 a0 a8) (B7 a0 a9) (B7 a0 a10):=⟨_,rfl⟩;have HS:=Zh M;rw[<-M]at D;generalize hb1:By a0 a1=b1 at A D;generalize hb2:By a0 a2=j at A D;generalize hb3:Dg a0 a3=b3 at A D;generalize hb4:Dh a0 a4=b4 at A D;generalize hb5:Bz a0 a5=b5 at A D;generalize hb6:Bz a0 a6=b6 at A D;generalize hb7:B6 a0 a7=b7 at A D;generalize hb8:B6 a0 a8=b8 at A D;generalize hb9:B7 a0 a9=b9 at A D;generalize hb10:B7 a0 a10=b10 at A D;have HF:=Zh c;clear M c hb1 hb2 hb3 hb4 hb5 hb6 hb7 hb8 hb9 hb10;go_enter func17,ntmps17;go_upto_region 1 with fail;refine AG (C:=Zn w w.heap.size a0 a1 a2 a3 a4 a5 a6 a7 a8 a9 a10) (by kernel_rfl) (by kernel_rfl) H.drew ?_;repeat go_big_quiet_step(exact λ_=>rfl)
 go_big_quiet_want;refine⟨.agg #[I J a0,I U a1,I U a2,I J a3,I J a4,I J a5,I U a6,I J a7,I J a8,I J a9,I U a10],λu d=> ?_,?_⟩
 ·obtain⟨s,m,z,r,k4,t,y,p,o,q,G⟩:=d.cells;go_simp
 go_big_quiet_on;simp only[V0,Zp,Zq,Zr];repeat go_big_quiet_step(exact λ_=>rfl)
 go_big_quiet_want;refine⟨.agg #[I J a0,I U a1,I U a2,I J a3,I J a4,I J a5,I U a6,I J a7,I J a8,I J a9,I U a10],λu d=> ?_,?_⟩
 ·obtain⟨s,m,z,r,k4,t,y,p,o,q,G⟩:=d.cells;go_simp
 go_big_quiet_on;simp only[V0,Zp,Zq,Zr];repeat go_big_quiet_step(exact λ_=>rfl)
 go_big_quiet_want;go_big_quiet_op;refine⟨.agg #[I J a0,I U b1,I U j,I J b3,I J b4,I J b5,I U b6,I J b7,I J b8,I J b9,I U b10],λu d=> ?_,?_⟩
 ·exact(A u).mono λ_ _ hm=>⟨hm.1,d.next hm.2⟩
 go_big_quiet_on;repeat go_big_quiet_step(exact λ_=>rfl)
 refine wpQuiet_nil ?_;intro W1 K;clear D A;have AA:=K.below.size;cases sm with
 |false=>
  have HB:=Zh K.below;clear K;go_wp2_with fail;go_ret2;exact⟨_,1,rfl,HB.out,λh=>absurd h (by decide),λh=>absurd (h.symm.trans HS.out.symm) (by decide)⟩
 |true=>
  obtain⟨s,m,z,r,k4,t,y,p,o,q,G⟩:=K.cells;have c:=HF.out W1 K.below;have HH:=Zh K;clear K;go_wp2_with fail;refine c.mono ?_;rintro e w2 ⟨v,F,rfl,j,h2,g⟩;have X:=HH.out.next j;obtain⟨s,m,z,r,k4,t,y,p,o,q,G⟩:=X.cells;have HT:=Zh (Zi h2 (Zi X HH.out.below.size));have n:=Zh g;clear c h2 X HH j g;by_cases l:F=0
  ·subst l;obtain⟨Y,O,rfl,Z,i⟩:=HT.out.1 rfl;have x:=Zh (Zi Z i);clear Z i;go_wp2_with fail;go_ret2;obtain⟨_,X,hz⟩:=HT.out;obtain⟨Z,i⟩:=x.out;have a:=X.below.size;refine⟨_,0,rfl,X.below.alloc a _,λ_=>⟨HS.out.symm,w2.heap.size,Y,O,rfl,AI.newAt rfl,hQ _ _ _ _ Z (Za),λk hk=>⟨fw hz (i k hk),hL _ _ _ Z k hk⟩,a⟩,λ_ _=>rfl⟩
  ·have Ab:(F==0)=false:=by simp[l]
   have Aa:(F !=0)=true:=by simp[l]
   go_wp2_with fail;go_ret2;exact⟨_,F,rfl,HT.out.2.1.below,λh=>absurd h l,λ_ h=>n.out h⟩
def Ia(l:AM):Prop:=∀x∈l,Am x.1/\1<=x.2/\x.2<=20
theorem Ia.snoc{l:AM}(h:Ia l){x:Int×Nat}(D:Am x.1/\1<=x.2/\x.2<=20):Ia (l++ [x]):=λy A=>by
 rcases List.mem_append.1 A with A|A
 ·exact h y A
 ·rw[List.mem_singleton.1 A];exact D
theorem Ia.le{l:AM}(h:Ia l):l.length<=BH l/\BH l<=20*l.length:=by
 induction l with
 |nil=>exact⟨E _,E _⟩
 |cons x l A=>
  have G:=A λy D=>h y (gS _ D);have F:=(h x (fx ..)).2;simp only[BH,fk];omega
theorem Xq(A)(l:AM):AY (Fa A) l+AY Fb l+AY (hf1 A) l=BH l:=by
 induction l with
 |nil=>rfl
 |cons x l H=>
  simp only[AY,BH];rcases gg x.1 0 with h|h|h
  ·have D:Fa A x.1=S (MP A x.1):=by unfold Fa;rw[if_pos h]
   have F:Fb x.1=none:=by unfold Fb;rw[if_neg (by omega)]
   have G:hf1 A x.1=none:=by unfold hf1;rw[if_neg (by omega)]
   rw[D,F,G];simp;omega
  ·have D:Fa A x.1=none:=by unfold Fa;rw[if_neg (by omega)]
   have F:Fb x.1=S 0:=by unfold Fb;rw[if_pos h]
   have G:hf1 A x.1=none:=by unfold hf1;rw[if_neg (by omega)]
   rw[D,F,G];simp;omega
  ·have D:Fa A x.1=none:=by unfold Fa;rw[if_neg (by omega)]
   have F:Fb x.1=none:=by unfold Fb;rw[if_neg (by omega)]
   have G:hf1 A x.1=S (MP A x.1):=by unfold hf1;rw[if_pos h]
   rw[D,F,G];simp;omega
def Kc(dg:Nat)(lim:Int)(vals:AM)(W:World)(db:Nat)(O:Nat->Prop):Prop:=
 ∃pb s0 s1 v0 v1,Cm W db pb s0 s1 v0 v1 dg lim (BS (Fa dg) vals) (BS (hf1 dg) vals) (AY Fb vals) (DH vals) (DI vals)/\O=Ce db pb s0 s1 v0 v1
theorem El(A)(vals:AM):C6 (BS (Fa A) vals) (BS (hf1 A) vals) (AY Fb vals)=BH vals:=by
 unfold C6;rw[Iw,Iw];exact Xq A vals
theorem QF{vals:AM}(h:Ia vals)(x:Int×Nat):JU (BH vals) (DH vals) x.1=DH (vals++ [x]):=by
 have D:=h.le;rw[U7];unfold JU;by_cases A:vals=[]
 ·subst A;rfl
 ·rw[if_neg A,if_neg];have:1<=vals.length:=by cases vals with|nil=>exact absurd rfl A|cons x l=>simp
  omega
theorem QG{vals:AM}(h:Ia vals)(x:Int×Nat):JV (BH vals) (DI vals) x.1=DI (vals++ [x]):=by
 have D:=h.le;rw[U8];unfold JV;by_cases A:vals=[]
 ·subst A;rfl
 ·rw[if_neg A,if_neg];have:1<=vals.length:=by cases vals with|nil=>exact absurd rfl A|cons x l=>simp
  omega
theorem EL(f)(l:AM)(x:Int×Nat):AY f (l++ [x])=AY f l+(if(f x.1).isSome then x.2 else 0):=by
 rw[DL];simp[AY]
def VA(lim:Int)(x:Int×Nat):Bool:=decide (1<=x.2)&&(decide (lim=0)||decide (Sg.mag x.1<=lim))
theorem Iz(A)(x:Int×Nat):VA A x=true↔1<=x.2/\(A=0\/Sg.mag x.1<=A):=by unfold VA;simp
def JY(Q:AM->W->Nat->(Nat->Prop)->Prop)(P:Int×Nat->Bool)(w:W)(db:Nat)(O:Nat->Prop)(vals:AM)(x:Int×Nat)(e:Ending)(w' :W):Prop:=∃(code:Int) (O' :Nat->Prop),e=R (I J code)/\
 (code=0↔P x=true)/\Q (if P x then vals++ [x]else vals) w' db O' /\BV w O O' /\AD O w w'
theorem Kc.next{D A}{vals:AM}{W W' F O}(h:Kc D A vals W F O)(Q:B W.heap.size W W'):Kc D A vals W' F O:=by
 obtain⟨X,H,K,M,v1,h,G⟩:=h;exact⟨X,H,K,M,v1,h.next Q,G⟩
theorem Cm.lt{w H K D F G v1 O A}{M l1:AL}{z lo hi}(h:Cm w H K D F G v1 O A M l1 z lo hi):∀k,Ce H K D F G v1 k->k<w.heap.size:=by
 rintro k (rfl|rfl|rfl|rfl|e|e)
 ·exact h.blk.lt
 ·exact h.plt
 ·exact h.st0.blk.lt
 ·exact h.st1.blk.lt
 ·exact(h.st0.own.lt k e).2
 ·exact(h.st1.own.lt k e).2
theorem Kc.lt{F A}{vals:AM}{W D O}(h:Kc F A vals W D O):∀k,O k->k<W.heap.size:=by
 obtain⟨M,G,H,K,v1,h,rfl⟩:=h;exact h.lt
theorem Tw(w F A)(q:0<=A)(vals:AM)(d O)(h:Kc F A vals w d O)(t:Ia vals)(y:vals.length<360)(x:Int×Nat)(r:Am x.1)(hc:x.2<=20):
  C prog 236 #[P (S ⟨d,0,N⟩),I J x.1,I U (x.2:Nat)] w (JY (Kc F A) (VA A) w d O vals x):=by
 have v:=h;obtain⟨j,i,k,u,v1,l,rfl⟩:=h;have g:=El F vals;have AA:=t.le;have Y:=QF t x;have Q:=QG t x;by_cases a:x.2=0
 ·refine(by rw[a];exact OG w l x.1:C prog 236 #[P (S ⟨d,0,N⟩),I J x.1,I U (x.2:Nat)] w _).mono ?_;rintro e w' ⟨rfl,rfl⟩;have G:VA A x=false:=by unfold VA;simp[a]
  exact⟨1,_,rfl,by rw[G];simp,by rw[G];exact v,λ_ h=>.inl h,AD.refl _ _⟩
 by_cases z:0<A/\A<Sg.mag x.1
 ·refine(QA w l x.1 r x.2 (by omega) z.1 z.2).mono ?_;rintro e w' ⟨rfl,rfl⟩;have G:VA A x=false:=by
   have M:decide (A=0)=false:=by simp;omega
   have h2:decide (Sg.mag x.1<=A)=false:=by simp;omega
   unfold VA;rw[M,h2];simp
  exact⟨7,_,rfl,by rw[G];simp,by rw[G];exact v,λ_ h=>.inl h,AD.refl _ _⟩
 have G:VA A x=true:=by rw[Iz];omega
 have Z:A=0\/Sg.mag x.1<=A:=by omega
 rcases gg x.1 0 with M|M|M
 ·refine(QD w d j i k u v1 F A _ _ _ _ _ l x.1 r M Z q x.2 (by omega) (by rw[g];omega) (by have:=IQ (Fa F) vals;omega)).mono ?_;rintro e w' ⟨rfl,H,K,D,m,n⟩;refine⟨0,_,rfl,by rw[G];simp,?_,m,n⟩;rw[G,if_pos rfl];refine⟨j,i,k,H,K,?_,rfl⟩;rw[g,Y,Q]at D;rw[C7,C7,EL];have o:Fa F x.1=S (MP F x.1):=by unfold Fa;rw[if_pos M]
  have s:Fb x.1=none:=by unfold Fb;rw[if_neg (by omega)]
  have p:hf1 F x.1=none:=by unfold hf1;rw[if_neg (by omega)]
  unfold Bp;rw[o,s,p];exact D
 ·obtain⟨X,c⟩:=x;simp only at M;subst M;refine(OH w d j i k u v1 F A _ _ _ _ _ l q c (by simp at a;omega) (by rw[g];simp at hc;omega)).mono ?_;rintro e w' ⟨rfl,H,K,D,m,n⟩;refine⟨0,_,rfl,by rw[G];simp,?_,m,n⟩;rw[G,if_pos rfl];refine⟨j,i,k,H,K,?_,rfl⟩;simp only at Y Q;rw[g,Y,Q]at D;rw[C7,C7,EL];exact D
 ·refine(QE w d j i k u v1 F A _ _ _ _ _ l x.1 r M Z q x.2 (by omega) (by rw[g];omega) (by have:=IQ (hf1 F) vals;omega)).mono ?_;rintro e w' ⟨rfl,H,K,D,m,n⟩;refine⟨0,_,rfl,by rw[G];simp,?_,m,n⟩;rw[G,if_pos rfl];refine⟨j,i,k,H,K,?_,rfl⟩;rw[g,Y,Q]at D;rw[C7,C7,EL];have o:Fa F x.1=none:=by unfold Fa;rw[if_neg (by omega)]
  have s:Fb x.1=none:=by unfold Fb;rw[if_neg (by omega)]
  have p:hf1 F x.1=S (MP F x.1):=by unfold hf1;rw[if_pos M]
  unfold Bp;rw[o,s,p];exact D
theorem aS{K A W G H D F}(h:Cm W G H D F (L N 0 0) (L N 0 0) K A [] [] 0 0 0):Kc K A [] W G (Ce G H D F (L N 0 0) (L N 0 0)):=⟨H,D,F,_,_,h,rfl⟩
theorem Mu(A w):(method 524 129 (.agg #[P (S ⟨A,0,N⟩)]) "Put").run prog w=.ok (236,P (S ⟨A,0,N⟩)) w:=by kernel_rfl
theorem QH(A w):(method 524 129 (.agg #[P (S ⟨A,0,N⟩)]) "Quantile").run prog w=.ok (237,P (S ⟨A,0,N⟩)) w:=by kernel_rfl
theorem QI(A w):(method 524 129 (.agg #[P (S ⟨A,0,N⟩)]) "ogive/suite.total").run prog w=.ok (244,.agg #[P (S ⟨A,0,N⟩)]) w:=by kernel_rfl
theorem SI(A w):(method 524 129 (.agg #[P (S ⟨A,0,N⟩)]) "ogive/suite.join").run prog w=.ok (242,.agg #[P (S ⟨A,0,N⟩)]) w:=by kernel_rfl
theorem QJ(A w):(method 524 129 (.agg #[P (S ⟨A,0,N⟩)]) "ogive/suite.write").run prog w=.ok (245,.agg #[P (S ⟨A,0,N⟩)]) w:=by kernel_rfl
theorem QK(w)(M:Sp.Tens w)(D A)(h:D<1\/4<D\/9223372036854775808<A):
  C prog 42 #[.agg #[I J D,I U A]] w λe w' =>e=R (T #[P N,I J 1])/\B w.heap.size w w' :=by
 have G:B w.heap.size w (w.alloc (.cells #[I J D,I U A] 127)):=Za;have H:AI (w.alloc (.cells #[I J D,I U A] 127)) w.heap.size #[I J D,I U A] 127:=AI.newAt rfl;by_cases K:D<1\/4<D
 ·have Z:=λW=>Sp.new_bad D W K;clear h K M H;go_enter func42,ntmps42;go_wp2_with(go_at_call 65;refine(Z _).mono ?_;rintro e Q ⟨rfl,rfl⟩);go_ret2;exact⟨rfl,G⟩
 ·obtain⟨d,rfl⟩:∃d:Nat,D=(d:Int):=⟨D.toNat,by omega⟩;have F:=Sp.new_good d (w.alloc (.cells #[I J d,I U A] 127)) (by omega) (by omega) (M.next G);have f1:9223372036854775808<A:=by omega
  clear h K M;go_enter func42,ntmps42;go_wp2_with fail;refine F.mono ?_;rintro e Q ⟨rfl,O⟩;have X:=H.below O.below H.lt;have a:Q.cell? ⟨w.heap.size,1,N⟩=S (I U A):=X.cell rfl;have Y:=Zh (G.trans (O.below.mono (by simp)));clear O X H F G;go_wp2_with fail;go_ret2;exact⟨rfl,Y.out⟩
theorem SM(w a0 a1 a2 a3 a4 a5 a6 a7 a8 a9 a10)(h:a0≠1/\a0≠2/\a0≠3/\a0≠4/\a0≠5/\a0≠6):
  C prog 30 #[.agg #[I J a0,I U a1,I U a2,I J a3,I J a4,I J a5,I U a6,I J a7,I J a8,I J a9,I U a10]] w (Gs 0 (λ_ _ _=>False) False w):=by
 have H:B w.heap.size w (w.alloc (.cells #[I J a0,I U a1,I U a2,I J a3,I J a4,I J a5,I U a6,I J a7,I J a8,I J a9,I U a10] 28)):=(B.refl _ w).alloc (E _) _;have O:=Zh H;obtain⟨K,A,D,G,M,F⟩:=h;have Y:(a0==1)=false:=by simpa using K
 have Z:(a0==2)=false:=by simpa using A
 have c:(a0==3)=false:=by simpa using D
 have Q:(a0==4)=false:=by simpa using G
 have a:(a0==5)=false:=by simpa using M
 have X:(a0==6)=false:=by simpa using F
 clear H K A D G M F;go_enter func30,ntmps30;go_wp2_with fail;go_ret2;exact⟨_,1,rfl,O.out,λh=>absurd h (by decide),λh=>h.elim⟩
theorem VB{a0 a1 a2 a3 a4 a5 a6 a7 a8 a9 a10}(h:a0≠1/\a0≠2/\a0≠3/\a0≠4/\a0≠5/\a0≠6):Kind (Ae a0 a1 a2 a3 a4 a5 a6 a7 a8 a9 a10) (λ_ _ _ _=>False) (λ_ _=>False) (λ_=>true)where
 next:=λh _=>h
 away:=λh _ _=>h
 lt:=λh=>h.elim
 ty:=λh=>h.elim
 new:=λw _=>(OJ w a0 a1 a2 a3 a4 a5 a6 a7 a8 a9 a10 0 (λ_ _ _=>False) False (λ_ _ _ _ h _=>h) (λ_ _ _ h=>h.elim) λW _=>SM W a0 a1 a2 a3 a4 a5 a6 a7 a8 a9 a10 h).mono λe w' D=>by
  obtain⟨po,A,rfl,F,H,_⟩:=D
  exact⟨po,A,rfl,F,λK=>by
   obtain⟨_,_,_,_,_,_,G,_⟩:=H K
   exact G.elim⟩
 put:=λ_ _ _ _ _ h=>h.elim
 bytes:=λ_ _ _ _ h=>h.elim
 decode:=λ_ _ _ _ h=>h.elim
 join:=λ_ _ _ _ _ _ _ h=>h.elim
open Go.RowKit Go.Lib Go.Shelf
section
variable {α:Type} {f:α->List V}
theorem Fs(A:∀x,(f x).length=3):∀l:List α,(l.flatMap f).length=l.length*3
 | []=>rfl
 |x::l=>by rw[dT,Q0,A,Fs A l,fk];omega
theorem Kd(A:∀x,(f x).length=3):∀(l:List α) (i:Nat),(l.flatMap f).take (i*3)=(l.take i).flatMap f
 | [],i=>by simp
 |x::l,0=>by simp
 |x::l,i+1=>by
  rw[dT,List.take_succ_cons,dT,<-Kd A l i,show(i+1)*3=(f x).length+i*3 by rw[A];omega,List.take_length_add_append]
theorem Ke(A:∀x,(f x).length=3):∀(l:List α) (i:Nat),(l.flatMap f).drop (i*3)=(l.drop i).flatMap f
 | [],i=>by simp
 |x::l,0=>by simp
 |x::l,i+1=>by
  rw[dT,List.drop_succ_cons,<-Ke A l i,show(i+1)*3=(f x).length+i*3 by rw[A];omega,List.drop_length_add_append]
theorem SN(A:∀x,(f x).length=3):∀(l:List α) (i j:Nat) (h:i<l.length),j<3->(l.flatMap f)[i*3+j]?=(f (l[i]'h))[j]?
 | [],i,j,h,_=>by simp at h
 |x::l,0,j,h,hj=>by
  rw[dT,List.getElem?_append_left (by rw[A];omega)]
  simp
 |x::l,i+1,j,h,hj=>by
  rw[dT,List.getElem?_append_right (by rw[A];omega),A,show(i+1)*3+j-3=i*3+j by omega,SN A l i j (by simpa using h) hj]
  rfl
theorem Xr(A:∀x,(f x).length=3)(l:List α)(i)(x:α):(l.take i++x::l.drop i).flatMap f=(l.flatMap f).take (i*3)++(f x++(l.flatMap f).drop (i*3)):=by
 rw[gU,dT,Kd A,Ke A]
theorem Xs(A:∀x,∀u∈f x,u.oneCell' =true)(l:List α):∀u∈l.flatMap f,u.oneCell' =true:=λu D=>by
 obtain⟨x,_,F⟩:=List.mem_flatMap.1 D
 exact A x u F
theorem JZ:∀(l:List α) (i:Nat) (x:α),i<l.length->l.set i x=l.take i++x::l.drop (i+1)
 | [],i,x,h=>by simp at h
 |y::l,0,x,h=>by simp
 |y::l,i+1,x,h=>by rw[List.set_cons_succ,JZ l i x (by simpa using h)];simp
theorem Xt(D:∀x,(f x).length=3)(l:List α)(i j)(x:α)(u)(h:i<l.length)(F:j<3)(H:f x=(f (l[i]'h)).set j u):(l.flatMap f).set (i*3+j) u=(l.set i x).flatMap f:=by
 have K:=Fs D l;have e:l=l.take i++(l[i]'h)::l.drop (i+1):=by rw[List.getElem_cons_drop,List.take_append_drop]
 have G:l.flatMap f=(l.take i).flatMap f++(f (l[i]'h)++(l.drop (i+1)).flatMap f):=by
  conv=>lhs;rw[e,gU,dT]
 have A:((l.take i).flatMap f).length=i*3:=by rw[Fs D,Jx,Nat.min_eq_left (by omega)]
 rw[JZ l i x h,gU,dT,G,List.set_append_right _ _ (by rw[A];omega),A,show i*3+j-i*3=j by omega,List.set_append_left _ _ (by rw[D];exact F),<-H]
end
def EX(cur:Array V)(n i:Nat)(xs:List V):Array Value:=(cur.toList.take ((i+1)*3)++xs.drop (i*3)++cur.toList.drop ((i+1)*3+(xs.drop (i*3)).length)).toArray
def Gt(cur:Array V)(i:Nat)(p:List V):Array Value:=(cur.toList.take (i*3)++p++cur.toList.drop (i*3+p.length)).toArray
theorem KA(A n i D)(h:A.toList.take (n*3)=D)(G:D.length=n*3)(hi:i<n)(F:(n+1)*3<=A.size):(EX A n i D).size=A.size:=by
 unfold EX;have:A.toList.length=A.size:=RR;simp only[ej,Q0,Jx,NW];omega
theorem Hh(A i p)(D:p.length=3)(h:(i+1)*3<=A.size):(Gt A i p).size=A.size:=by
 unfold Gt;have:A.toList.length=A.size:=RR;simp only[ej,Q0,Jx,NW];omega
theorem KB(A n i D p)(h:A.toList.take (n*3)=D)(O:D.length=n*3)(hi:i<n)(H:p.length=3)(M:(n+1)*3<=A.size):
  (Gt (EX A n i D) i p).toList.take ((n+1)*3)=D.take (i*3)++(p++D.drop (i*3)):=by
 have K:A.toList.length=A.size:=RR;have F:(EX A n i D).toList.take (i*3)=D.take (i*3):=by
  unfold EX;rw[es,ag,fa (by rw[Jx];omega),fy,<-h,fy];congr 1;omega
 have G:(EX A n i D).toList.drop (i*3+p.length)=D.drop (i*3)++A.toList.drop ((i+1)*3+(D.drop (i*3)).length):=by
  unfold EX;rw[es,ag,List.drop_append,gY (by rw[Jx];omega),gh,Jx,show i*3+p.length-min ((i+1)*3) A.toList.length=0 from by omega,List.drop_zero]
 unfold Gt;rw[es,F,G,ag,<-ag p,<-ag (D.take (i*3))];rw[fa (by simp only[Q0,Jx,NW];omega)];exact gQ (by simp only[Q0,Jx,NW];omega)
def Ja(cur:Array V)(i:Nat)(ys:List V):Array Value:=(cur.toList.take ((i+1)*3)++ys++cur.toList.drop ((i+1)*3+ys.length)).toArray
theorem K7(A:Array V)(n i:Nat)(D p:List V)(h:A.toList.take (i*3)=D.take (i*3))(M:D.length=n*3)(hi:i<n)(G:p.length=3)(K:(n+1)*3<=A.size):
  (Ja (Gt A i p) i (D.drop (i*3))).toList.take ((n+1)*3)=D.take (i*3)++(p++D.drop (i*3)):=by
 have H:A.toList.length=A.size:=RR;have F:(Gt A i p).toList.take ((i+1)*3)=D.take (i*3)++p:=by
  unfold Gt;rw[es,h,fa (by simp only[Q0,Jx];omega)];exact gQ (by simp only[Q0,Jx];omega)
 unfold Ja;rw[es,F,ag,ag,<-ag p,<-ag (D.take (i*3))];rw[fa (by simp only[Q0,Jx,NW];omega)];exact gQ (by simp only[Q0,Jx,NW];omega)
theorem K8(A i D)(h:(i+1)*3+D.length<=A.size):(Ja A i D).size=A.size:=by
 unfold Ja;have:A.toList.length=A.size:=RR;simp only[ej,Q0,Jx,NW];omega
def CW(p:Nat->Bool)(r:AL):AL:=r.filter λx=>p x.1
theorem Mv(p)(r:AL)(v):AP (CW p r) v=if p v then AP r v else 0:=by
 induction r with
 |nil=>unfold AP CW;simp[Bn]
 |cons x r F=>
  unfold AP CW at F⊢;rw[gR];by_cases D:p x.1=true
  ·rw[if_pos D,AQ,AQ,F];by_cases A:p v=true
   ·rw[if_pos A,if_pos A]
   ·rw[if_neg A,if_neg A,if_neg];simp only[beq_iff_eq];rintro rfl;exact A D
  ·rw[if_neg D,AQ,F];by_cases A:p v=true
   ·rw[if_pos A,if_pos A,if_neg,fp];simp only[beq_iff_eq];rintro rfl;exact D A
   ·rw[if_neg A,if_neg A]
theorem K9{p}{r:AL}(h:AT r):AT (CW p r):=by
 induction r with
 |nil=>trivial
 |cons x r A=>
  unfold CW at A⊢;rw[gR];split
  ·exact⟨λy D=>h.1 y (List.mem_filter.1 D).1,A h.2⟩
  ·exact A h.2
theorem QL{p}{r:AL}(h:Bh r):Bh (CW p r):=λx A=>h x (List.mem_filter.1 A).1
theorem aT(p)(r:AL):(CW p r).length<=r.length:=List.length_filter_le _ _
theorem Hm{r:AL}(h:Bh r)(v):1<=AP r v↔∃x∈r,x.1=v:=by
 induction r with
 |nil=>
  constructor
  ·intro H;have K:AP [] v=0:=rfl;omega
  ·rintro⟨x,G,_⟩;cases G
 |cons x r F=>
  have F:=F λy A=>h y (gS _ A);have G:=h x (fx ..);unfold AP at F⊢;rw[AQ];by_cases e:x.1=v
  ·exact⟨λ_=>⟨x,fx ..,e⟩,λ_=>by rw[if_pos (by simpa using e)];omega⟩
  ·rw[if_neg (by simpa using e),fp];rw[F];constructor
   ·rintro⟨y,A,D⟩;exact⟨y,gS _ A,D⟩
   ·rintro⟨y,A,D⟩;rcases List.mem_cons.1 A with rfl|A
    ·exact absurd D e
    ·exact⟨y,A,D⟩
def BZ(hi:Bool)(most i e:Nat):Bool:=if hi then decide (e+most<=i)else decide (i+most<=e)
def LA(hi:Bool)(i e:Nat):Bool:=if hi then decide (i<e)else decide (e<i)
def BL(hi:Bool)(r:AL):Nat:=if hi then(r.head?.map (·.1)).getD 0 else(r.getLast?.map (·.1)).getD 0
def DW(hi:Bool)(most:Nat)(r:AL):AL:=CW (λi=> !BZ hi most i (BL hi r)) r
def CF(hi:Bool)(most:Nat)(k:AL)(i c:Nat):AL:=
 if k=[]then Ak k i c else if BZ hi most i (BL hi k)then k else if LA hi i (BL hi k)then Ak (CW (λj=> !BZ hi most j i) k) i c else Ak k i c
def BE(hi:Bool)(most:Nat)(k m:AL):AL:=m.foldl (λk x=>CF hi most k x.1 x.2) k
def Mw(hi:Bool)(r:AL)(e:Nat):Prop:=1<=AP r e/\∀v,1<=AP r v->if hi then e<=v else v<=e
theorem Mw.uniq{hi}{r:AL}{a b}(h:Mw hi r a)(k:Mw hi r b):a=b:=by
 have A:=h.2 b k.1;have D:=k.2 a h.1;cases hi<;>simp at A D<;>omega
theorem Em:∀{r:AL},AT r->∀(h:r≠ []) (x),x∈r->x.1<=(r.getLast h).1
 | [],_,h,_,_=>absurd rfl h
 | [y],_,_,x,A=>by rw[List.mem_singleton.1 A];exact E _
 |y::z::r,hr,_,x,A=>by
  rw[List.getLast_cons (by simp)]
  rcases List.mem_cons.1 A with rfl|A
  ·have:=hr.1 _ (gi (l:=z::r) (by simp));omega
  ·exact Em hr.2 (by simp) x A
theorem Hn(hi){r:AL}(H:AT r)(F:Bh r)(D:r≠ []):Mw hi r (BL hi r):=by
 cases hi with
 |true=>
  cases r with
  |nil=>exact absurd rfl D
  |cons x r=>
   refine⟨(Hm F _).2 ⟨x,fx ..,rfl⟩,λv G=> ?_⟩;obtain⟨y,A,rfl⟩:=(Hm F _).1 G;show x.1<=y.1;rcases List.mem_cons.1 A with rfl|A
   ·exact E _
   ·have:=H.1 y A;omega
 |false=>
  have e:BL false r=(r.getLast D).1:=by unfold BL;rw[List.getLast?_eq_some_getLast D];rfl
  rw[e];refine⟨(Hm F _).2 ⟨_,gi D,rfl⟩,λv G=> ?_⟩;obtain⟨y,A,rfl⟩:=(Hm F _).1 G;exact Em H D y A
theorem I0{hi}{r:AL}{e}(D:AT r)(A:Bh r)(h:Mw hi r e):BL hi r=e:=by
 have F:r≠ []:=λG =>by subst G;have K:=h.1;have H:AP [] e=0:=rfl;omega
 exact(Hn hi D A F).uniq h
theorem I1(hi most i)(h:1<=most):BZ hi most i i=false:=by unfold BZ;cases hi<;>simp<;>omega
theorem CG(hi most)(r:AL)(v):AP (DW hi most r) v=if BZ hi most v (BL hi r)then 0 else AP r v:=by
 unfold DW;rw[Mv];cases BZ hi most v (BL hi r)<;>simp
theorem B8{hi most}{r:AL}(h:AT r):AT (DW hi most r):=K9 h
theorem Cg{hi most}{r:AL}(h:Bh r):Bh (DW hi most r):=QL h
theorem Xu(hi most):DW hi most []=[]:=rfl
theorem Xv{hi most}{r:AL}(K:1<=most)(G:AT r)(F:Bh r)(H:r≠ []):DW hi most r≠ []/\BL hi (DW hi most r)=BL hi r:=by
 have h:=Hn hi G F H;have D:Mw hi (DW hi most r) (BL hi r):=by
  refine⟨by rw[CG,I1 hi most _ K];exact h.1,λv A=>h.2 v ?_⟩;rw[CG]at A;split at A
  ·omega
  ·exact A
 refine⟨λe=> ?_,I0 (B8 G) (Cg F) D⟩;rw[e]at D;have M:=D.1;have O:AP [] (BL hi r)=0:=rfl;omega
theorem Tx{hi most}{r:AL}(j:1<=most)(Y:AT r)(X:Bh r)(i c)(k:1<=c):CF hi most (DW hi most r) i c=DW hi most (Ak r i c):=by
 have M:=Bg (v:=i) (c:=c) Y;have O:=Ca (v:=i) X k;by_cases h:r=[]
 ·subst h;unfold CF;rw[Xu,if_pos rfl];show [(i,c)]=DW hi most [(i,c)];have e:BL hi [(i,c)]=i:=by cases hi<;>rfl
  unfold DW CW;rw[e,gR];simp[I1 hi most i j]
 ·obtain⟨m,l⟩:=Xv (hi:=hi) j Y X h;have Z:=Hn hi Y X h;have n:AP r (BL hi r)+0≥1:=Z.1;generalize hE:BL hi r=e at*;have A:∀v,AP (Ak r i c) v=AP r v+if i=v then c else 0:=λv=>Hg r i c v;unfold CF;rw[if_neg m,l];have g:=B8 (hi:=hi) (most:=most) Y;have a:=Cg (hi:=hi) (most:=most) X;have d:∀v,AP (DW hi most r) v=if BZ hi most v e then 0 else AP r v:=λv=>by rw[CG,hE]
  by_cases G:BZ hi most i e=true
  ·rw[if_pos G];have Q:BL hi (Ak r i c)=e:=I0 M O ⟨by rw[A];omega,λv F=>by
    rw[A]at F;by_cases D:i=v
    ·subst D;unfold BZ at G;cases hi<;>simp at G⊢ <;>omega
    ·rw[if_neg D]at F;exact Z.2 v F⟩
   refine FH g a (B8 M) (Cg O) λv=> ?_;rw[d,CG,Q,A];split
   ·rfl
   ·rename_i F;rw[if_neg,Nat.add_zero];rintro rfl;exact F G
  ·rw[if_neg G];by_cases H:LA hi i e=true
   ·rw[if_pos H];have Q:BL hi (Ak r i c)=i:=I0 M O ⟨by rw[A,if_pos rfl];omega,λv F=>by
     rw[A]at F;by_cases D:i=v
     ·subst D;cases hi<;>simp
     ·rw[if_neg D]at F;have:=Z.2 v F;unfold LA at H;cases hi<;>simp at H this⊢ <;>omega⟩
    refine FH (Bg (K9 g)) (Ca (QL a) k) (B8 M) (Cg O) λv=> ?_;rw[Hg,Mv,d,CG,Q,A];by_cases F:BZ hi most v i=true
    ·rw[if_pos F];simp only[F,Bool.not_true,Bool.false_eq_true,if_false,fp];rw[if_neg];rintro rfl;rw[I1 hi most _ j]at F;cases F
    ·have K :BZ hi most v i=false:=by simpa using F
     have D:BZ hi most v e=false:=by
      unfold LA at H;unfold BZ at K ⊢;cases hi<;>simp at H K ⊢ <;>omega
     simp[K,D]
   ·rw[if_neg H];have Q:BL hi (Ak r i c)=e:=I0 M O ⟨by rw[A];omega,λv F=>by
     rw[A]at F;by_cases D:i=v
     ·subst D;unfold LA at H;cases hi<;>simp at H⊢ <;>omega
     ·rw[if_neg D]at F;exact Z.2 v F⟩
    refine FH (Bg g) (Ca a k) (B8 M) (Cg O) λv=> ?_;rw[Hg,d,CG,Q,A];split
    ·rename_i F;rw[if_neg];rintro rfl;exact G F
    ·rfl
theorem LB{hi most}(A:1<=most):∀(m r:AL),AT r->Bh r->Bh m->BE hi most (DW hi most r) m=DW hi most (AZ r m)
 | [],r,_,_,_=>rfl
 |x::m,r,hr,hf,hfm=>by
  have D:=hfm x (fx ..)
  show BE hi most (CF hi most (DW hi most r) x.1 x.2) m=DW hi most (AZ (Ak r x.1 x.2) m)
  rw[Tx A hr hf x.1 x.2 D]
  exact LB A m _ (Bg hr) (Ca hf D) λy F=>hfm y (gS _ F)
theorem QM{hi most}{a b:AL}(l:1<=most)(Q:AT a)(Y:Bh a)(k:AT b)(M:Bh b):DW hi most (AZ a (DW hi most b))=DW hi most (AZ a b):=by
 by_cases X:b=[]
 ·subst X;rfl
 have g:=EK (m:=b) Q;have h:=Fm Y M;have c:=EK (m:=DW hi most b) Q;have O:=Fm Y (Cg (hi:=hi) (most:=most) M);have H:=Hn hi k M X;have G:AZ a b≠ []:=λe=>by
  have:=CR a b (BL hi b);rw[e]at this;have n:AP [] (BL hi b)=0:=rfl;have:=H.1;omega
 have K:=Hn hi g h G;have A:if hi then BL hi (AZ a b)<=BL hi b else BL hi b<=BL hi (AZ a b):=K.2 _ (by rw[CR];have:=H.1;omega);have j:BL hi (AZ a (DW hi most b))=BL hi (AZ a b):=by
  refine I0 c O ⟨?_,λv F=>K.2 v ?_⟩
  ·rw[CR,CG];have Z:=K.1;rw[CR]at Z;by_cases i:1<=AP b (BL hi (AZ a b))
   ·have d:BL hi (AZ a b)=BL hi b:=by
     have:=H.2 _ i;cases hi<;>simp at this A<;>omega
    rw[d,I1 hi most _ l];simp;rw[d]at Z;omega
   ·split<;>omega
  ·rw[CR,CG]at F;rw[CR];split at F<;>omega
 refine FH (B8 c) (Cg O) (B8 g) (Cg h) λv=> ?_;rw[CG,CG,j,CR,CR,CG];split
 ·rfl
 ·rename_i F;split
  ·rename_i D;exfalso;unfold BZ at F D;cases hi<;>simp at F D A<;>omega
  ·rfl
theorem VC{hi most}{a b:AL}(A:1<=most)(F:AT a)(D:Bh a)(H:AT b)(G:Bh b):BE hi most (DW hi most a) (DW hi most b)=DW hi most (AZ a b):=by
 rw[LB A _ _ F D (Cg G),QM A F D H G]
theorem QN{m:AL}(D:AT m)(A:Bh m):AZ [] m=m:=
 FH (EK trivial) (Fm (λx F=>by cases F) A) D A λv=>by rw[CR];show 0+_=_;omega
theorem IR:∀{r:AL} (a n:Nat),AT r->(∀x∈r,a<=x.1/\x.1<a+n)->r.length<=n
 | [],_,_,_,_=>bh _
 |x::r,a,n,hr,h=>by
  obtain⟨D,F⟩:=h x (fx ..)
  have:=IR (r:=r) (x.1+1) (a+n-(x.1+1)) hr.2 λy A=>by
   have:=hr.1 y A
   have:=h y (gS _ A)
   omega
  rw[fk];omega
theorem Ty{hi most}{r:AL}{x:Nat×Nat}(A:x∈DW hi most r):BZ hi most x.1 (BL hi r)=false:=by
 have:=(List.mem_filter.1 A).2;simpa using this
theorem QO{hi most}{r:AL}(Q:1<=most)(H:AT r)(F:Bh r):(DW hi most r).length<=most:=by
 by_cases K:r=[]
 ·subst K;exact bh _
 have M:=Hn hi H F K;cases hi with
 |true=>
  refine IR (BL true r) most (B8 H) λx A=> ?_;have D:=Ty A;have G:=M.2 x.1 ((Hm F _).2 ⟨x,(List.mem_filter.1 A).1,rfl⟩);unfold BZ at D;simp at D G;omega
 |false=>
  have O:∀x∈DW false most r,BL false r+1-most<=x.1/\x.1<BL false r+1-most+most:=λx A=>by
   have D:=Ty A;have G:=M.2 x.1 ((Hm F _).2 ⟨x,(List.mem_filter.1 A).1,rfl⟩);unfold BZ at D;simp at D G;omega
  exact IR _ most (B8 H) O
def KV(a b y:Nat):Nat×Bool:=if y<=a*b/18446744073709551616 then(0,false)else(a*b/y,true)
theorem cz(a b y)(D:1<=y):(KV a b y).1<18446744073709551616:=by
 unfold KV;split
 ·decide
 ·rename_i h;show a*b/y<_;have A:a*b/18446744073709551616<y:=by omega
  rw[Nat.div_lt_iff_lt_mul (by omega)]at A⊢;omega
def aU(num den r:Nat):Nat:=if(KV r den (den-num)).2=false\/9223372036854775808<(KV r den (den-num)).1 then 9223372036854775808 else(KV r den (den-num)).1
def QP(num den low:Nat):Nat×Nat:=if(KV low (den+num) den).2=false\/9223372036854775808<(KV low (den+num) den).1 then(9223372036854775807,9223372036854775808)else(min (KV low (den+num) den).1 9223372036854775807,aU num den (KV low (den+num) den).1)
theorem aV(num den r):aU num den r<=9223372036854775808:=by unfold aU;split<;>omega
theorem Xw(num den A):(QP num den A).1<=9223372036854775807/\(QP num den A).2<=9223372036854775808:=by
 unfold QP;split
 ·exact⟨E _,E _⟩
 ·exact⟨Nat.min_le_right _ _,aV _ _ _⟩
def D9(num den:Nat):Nat->Nat
 |0=>1
 |k+1=>(QP num den (D9 num den k)).2+1
theorem aW(num den k):D9 num den k<=9223372036854775809:=by
 cases k with
 |zero=>show 1<=_;omega
 |succ k=>have:=(Xw num den (D9 num den k)).2;show(QP num den (D9 num den k)).2+1<=_;omega
def Ch(num den n:Nat):List Nat:=(gj n).map (D9 num den)
def Di(num den n:Nat):List Nat:=(gj n).map λk=>(QP num den (D9 num den k)).1
theorem Ho(num den n):(Ch num den n).length=n:=by unfold Ch;simp
theorem Mx(num den n):(Di num den n).length=n:=by unfold Di;simp
theorem SO(num den n):Ch num den (n+1)=Ch num den n++ [D9 num den n]:=by unfold Ch;rw[gm,gu];rfl
theorem SP(num den n):Di num den (n+1)=Di num den n++ [(QP num den (D9 num den n)).1]:=by unfold Di;rw[gm,gu];rfl
def IS(num den n:Nat):Prop:=n<=4096/\9223372036854775808<D9 num den n/\∀j,j<n->D9 num den j<=9223372036854775808
theorem IS.uniq{num den n m}(h:IS num den n)(k:IS num den m):n=m:=by
 rcases Nat.lt_trichotomy n m with e|e|e
 ·have:=k.2.2 n e;have:=h.2.1;omega
 ·exact e
 ·have:=h.2.2 m e;have:=k.2.1;omega
theorem IS.pos{num den n}(h:IS num den n):1<=n:=by
 rcases gv n with rfl|e
 ·have:=h.2.1;have e:D9 num den 0=1:=rfl;omega
 ·exact e
def IT(l:List Nat)(m i j:Nat):Nat:=
 if i<j then if l.getD ((i+j)/2) 0<m then IT l m ((i+j)/2+1) j else IT l m i ((i+j)/2)else i
termination_by j-i
decreasing_by all_goals omega
theorem Tz{l m i j}(h:¬i<j):IT l m i j=i:=by rw[IT,if_neg h]
theorem Xx{l m i j}(h:i<j)(A:l.getD ((i+j)/2) 0<m):IT l m i j=IT l m ((i+j)/2+1) j:=by rw[IT,if_pos h,if_pos A]
theorem QQ{l m i j}(h:i<j)(A:¬l.getD ((i+j)/2) 0<m):IT l m i j=IT l m i ((i+j)/2):=by rw[IT,if_pos h,if_neg A]
theorem LC(l m):∀(d i j:Nat),j-i<=d->i<=j->i<=IT l m i j/\IT l m i j<=j/\∀n,(j=n\/m<=l.getD j 0)->(IT l m i j=n\/m<=l.getD (IT l m i j) 0)
 |d,i,j,hd,hij=>by
  by_cases h:i<j
  ·by_cases A:l.getD ((i+j)/2) 0<m
   ·rw[Xx h A]
    cases d with
    |zero=>omega
    |succ d=>
     have k:=LC l m d ((i+j)/2+1) j (by omega) (by omega)
     exact⟨by omega,k.2.1,k.2.2⟩
   ·rw[QQ h A]
    cases d with
    |zero=>omega
    |succ d=>
     have k:=LC l m d i ((i+j)/2) (by omega) (by omega)
     exact⟨k.1,by omega,λn _=>k.2.2 n (.inr (by omega))⟩
  ·rw[Tz h]
   have:i=j:=by omega
   subst this
   exact⟨E _,E _,λn D=>D⟩
def VD(num den n m:Nat):Bool:=decide (IT (Ch num den n) m 0 n<n)&&((Ch num den n).getD (IT (Ch num den n) m 0 n) 0==m)
def PU(num den n m:Nat):Nat:=if VD num den n m then IT (Ch num den n) m 0 n else IT (Ch num den n) m 0 n-1
theorem VE(num den){n k}(h:k<n):(Ch num den n).getD k 0=D9 num den k:=by
 unfold Ch;rw[List.getD_eq_getElem?_getD,List.getElem?_map,List.getElem?_range h];rfl
theorem T4{num den n m}(F:1<=n)(G:1<=m)(h:VD num den n m=false):1<=IT (Ch num den n) m 0 n:=by
 have k:=LC (Ch num den n) m n 0 n (by omega) (by omega);rcases gv (IT (Ch num den n) m 0 n)with e|e
 ·exfalso;have A:=k.2.2 n (.inl rfl);unfold VD at h;rw[e]at A h;rw[VE num den (show 0<n by omega)]at A h;have D:D9 num den 0=1:=rfl;rw[D]at A h;simp at h;omega
 ·exact e
theorem OK{num den n m}(D:1<=n)(A:1<=m):PU num den n m<n:=by
 have k:=LC (Ch num den n) m n 0 n (by omega) (by omega);unfold PU;split
 ·rename_i h;unfold VD at h;simp at h;exact h.1
 ·rename_i h;have:=T4 (num:=num) (den:=den) D A (by simpa using h);omega
theorem VF(p)(r:AL):AB (CW p r)<=AB r:=by
 unfold AB CW;induction r with
 |nil=>exact E _
 |cons x r A=>
  rw[gR];split
  ·rw[AQ,AQ];simp;omega
  ·rw[AQ];simp;omega
theorem T5{p}{r:AL}(h:∀x∈r,p x.1=true):CW p r=r:=List.filter_eq_self.2 h
theorem OL{p}{x:Nat×Nat}{r:AL}(h:p x.1=false):CW p (x::r)=CW p r:=by unfold CW;rw[gR,if_neg (by rw[h];decide)]
theorem OM{p}{x:Nat×Nat}{r:AL}(h:p x.1=false):CW p (r++ [x])=CW p r:=by unfold CW;rw[List.filter_append,gR,if_neg (by rw[h];decide)];simp
def Fc(hi:Bool)(r:AL):Nat:=BL (!hi) r
def Ds(hi:Bool)(r:AL):AL:=if hi then r.dropLast else r.tail
theorem T6{hi p}{r:AL}(A:r≠ [])(h:p (Fc hi r)=false):CW p (Ds hi r)=CW p r:=by
 cases hi with
 |true=>
  have e:r=r.dropLast++ [r.getLast A]:=(gy A).symm;have D:Fc true r=(r.getLast A).1:=by unfold Fc BL;rw[List.getLast?_eq_some_getLast A];rfl
  show CW p r.dropLast=_;conv=>rhs;rw[e]
  rw[OM (by rw[<-D];exact h)]
 |false=>
  cases r with
  |nil=>exact absurd rfl A
  |cons x r=>exact(OL h).symm
theorem T7{hi most i}{r:AL}(G:AT r)(h:BZ hi most (Fc hi r) i=false):∀x∈r,(!BZ hi most x.1 i)=true:=λx A=>by
 cases hi with
 |true=>
  have D:r≠ []:=λe=>by subst e;cases A
  have F:Fc true r=(r.getLast D).1:=by unfold Fc BL;rw[List.getLast?_eq_some_getLast D];rfl
  have:=Em G D x A
  rw[F]at h
  unfold BZ at h⊢
  simp at h⊢
  omega
 |false=>
  cases r with
  |nil=>cases A
  |cons y r=>
   have F:Fc false (y::r)=y.1:=rfl
   rw[F]at h
   have H:y.1<=x.1:=by
    rcases List.mem_cons.1 A with rfl|A
    ·exact E _
    ·have:=G.1 x A;omega
   unfold BZ at h⊢;simp at h⊢;omega
theorem SQ{hi most}{a b:AL}(A:1<=most)(G:AT a)(D:Bh a)(H:Bh b)(q):(BE hi most (DW hi most a) (b.take q)).length<=most:=by
 have F:Bh (b.take q):=λx K=>H x (List.mem_of_mem_take K);rw[LB A _ _ G D F];exact QO A (EK G) (Fm D F)
theorem F9(hi most)(k m:AL)(x:Nat×Nat):BE hi most k (m++ [x])=CF hi most (BE hi most k m) x.1 x.2:=by unfold BE;rw[List.foldl_append];rfl
def Fd(l:List Nat):List Value:=l.map λx:Nat=>I U x
theorem KC(l m):Fd (l++m)=Fd l++Fd m:=by unfold Fd;simp
theorem LD(l){i}(h:i<l.length):(Fd l)[i]?=S (I U ((l.getD i 0:Nat):Int)):=by
 unfold Fd;rw[List.getElem?_map,List.getD_eq_getElem?_getD,List.getElem?_eq_getElem h];rfl
theorem Gu(l:AL)(x c):l.length<=(Ak l x c).length:=by
 induction l with
 |nil=>exact bh _
 |cons y l A=>
  unfold Ak
  repeat' split
  all_goals simp_all<;>omega
structure Aq(M:Nat)(w:W)(sb:Nat)(v:V)(l:AL):Prop where
 blk:AI w sb #[I J M,v,I U (AB l:Nat)] 115
 own:w.ownsRow 0 228 2 v l.length (AV l)
 rising:AT l
 full:Bh l
theorem Aq.ne{M w sb v}{l:AL}(h:Aq M w sb v l):v.ownBlock≠S sb:=by
 intro D;obtain⟨A,F⟩:=AJ h.own D;exact(h.blk.ne F (by decide)) rfl
theorem Aq.next{M w w' sb v}{l:AL}(h:Aq M w sb v l)(A:B w.heap.size w w'):Aq M w' sb v l:=
 ⟨h.blk.below A h.blk.lt,AE h.own A λg D=>(h.own.lt g D).2,h.rising,h.full⟩
theorem Aq.away{M F w w' sb v}{l:AL}(h:Aq M w sb v l)(A:AD F w w')(G:¬F sb)(D:∀g,v.ownBlock=S g->¬F g):Aq M w' sb v l:=
 ⟨h.blk.away A G,AU h.own A D,h.rising,h.full⟩
theorem Aq.drew{M w sb v}{l:AL}(h:Aq M w sb v l):Aq M w.drew sb v l:=⟨h.blk,h.own,h.rising,h.full⟩
theorem Aq.alloc{M w sb v}{l:AL}(h:Aq M w sb v l)(o):Aq M (w.alloc o) sb v l:=
 h.next ((B.refl _ _).alloc (E _) o)
theorem Aq.other{M w sb v}{l:AL}(h:Aq M w sb v l)(p u)(D:sb≠p.block)(A:v.ownBlock≠S p.block):Aq M (w.setCell p u) sb v l:=
 ⟨h.blk.other p u D,AN h.own p u A,h.rising,h.full⟩
theorem Aq.cells{M w sb v}{l:AL}(h:Aq M w sb v l):w.cell? ⟨sb,0,N⟩=S (I J M)/\w.cell? ⟨sb,1,N⟩=S v/\w.cell? ⟨sb,2,N⟩=S (I U (AB l:Nat))/\w.frozen? ⟨sb,1,N⟩=false/\w.frozen? ⟨sb,2,N⟩=false:=
 ⟨h.blk.cell rfl,h.blk.cell rfl,h.blk.cell rfl,h.blk.frozen 1,h.blk.frozen 2⟩
theorem Kf{M}(w sb v)(l:AL)(h:Aq M w sb v l)(D:l.length<=1000000):
  C prog 177 #[P (S ⟨sb,0,N⟩)] w λe w' =>∃v',e=R v' /\w'.ownsRow w.heap.size 228 2 v' l.length (AV l)/\B w.heap.size w w' :=by
 obtain⟨K,O,Q,f1,X⟩:=h.cells;have G:=Ml w v l h.own D;clear h;go_enter func177,ntmps177;go_wp2_with(go_at_call 185;refine G.mono ?_;rintro e H ⟨v',rfl,A,F⟩);go_ret;exact⟨v',rfl,A,F⟩
theorem SR{M}(hM:M<=4096)(w sb v)(l:AL)(x c)(h:Aq M w sb v l)(hc:1<=c)(hs:AB l+c<=9223372036854775807)(Z:(Ak l x c).length<=M):
  C prog 93 #[P (S ⟨sb,0,N⟩),I J x,I U c] w λe w' =>e=R (I J 0)/\∃v',Aq M w' sb v' (Ak l x c)/\
   AD (λk=>k=sb\/v.ownBlock=S k) w w' /\FA w v v' :=by
 obtain⟨c0,c1,c2,f1,f2⟩:=h.cells;have g1:((c:Int)==0)=false:=by simp;omega
 have Av:=An l x;obtain⟨t,ht⟩:∃t,t=AB l:=⟨_,rfl⟩;have Aa:=λW b h0 h1=>Az W b t c (by omega) h0 h1;have Al:=λ(W:World) (hb:B w.heap.size w W)=>Ie W 0 v l x (h.next hb).own h.rising (by have:=Gu l x c;omega);rw[<-ht]at c2;have H:=Zh h;obtain⟨A,n,o,hv,hn⟩:∃A n o,v=L A n o/\n=l.length:=by
  rcases AH h.own with⟨hv,hn,_⟩|⟨g,o,hv,_⟩
  ·exact⟨N,0,0,hv,hn.symm⟩
  ·exact⟨_,_,_,hv,rfl⟩
 have m:l.length<=M:=fw (Gu l x c) Z;have u:=Zh (show MQ l x=false->¬(M:Int)<=(n:Int)from λhi=>by have:=GV (v:=x) c h.rising (Mm hi);omega);have AA:=Zh (show∀(D O:World) (d:V),B w.heap.size w D->O.ownsRow 0 228 2 d (Ak l x c).length (AV (Ak l x c))->AD (λk=>v.ownBlock=S k) D O->FA D v d->
   (∃v',Aq M ((O.setCell ⟨sb,1,N⟩ d).setCell ⟨sb,2,N⟩ (I U ((t+c:Nat):Int))) sb v' (Ak l x c)/\AD (λk=>k=sb\/v.ownBlock=S k) w ((O.setCell ⟨sb,1,N⟩ d).setCell ⟨sb,2,N⟩ (I U ((t+c:Nat):Int)))/\FA w v v')/\
   O.cell? ⟨sb,1,N⟩=S v/\O.cell? ⟨sb,2,N⟩=S (I U t)/\O.frozen? ⟨sb,1,N⟩=false/\O.frozen? ⟨sb,2,N⟩=false from λD O d Y o2 a2 r=>by
  have Aw:=h.blk.below Y h.blk.lt;have Ar:=h.ne;have G:=Aw.away a2 Ar;have A0:sb<w.heap.size:=h.blk.lt;have Ab:d.ownBlock≠S sb:=by
   intro e;obtain⟨A1,Ap⟩:=AJ o2 e;exact(G.ne Ap (by decide)) rfl
  refine⟨⟨d,⟨?_,AN (AN o2 _ _ Ab) _ _ Ab,Bg h.rising,Ca h.full hc⟩,?_,?_⟩,G.cell rfl,by rw[ht];exact G.cell rfl,G.frozen 1,G.frozen 2⟩
  ·rw[EG,<-ht];exact(G.set 1 d).set 2 _
  ·refine AD.setCell (AD.setCell ?_ _ _ (.inl (.inl rfl))) _ _ (.inl (.inl rfl));exact(AD.of_below (F:=λk=>k=sb\/v.ownBlock=S k) Y).trans' a2 (λk _ hk=>hk) (λk _ hk=>.inr hk)
  ·rcases r with r|⟨k,r,k3⟩
   ·exact .inl r
   ·exact .inr ⟨k,r,fw Y.size k3⟩)
 have a:=Zh (show∀D:World,B w.heap.size w D->C prog 115 #[v,I J x,I U c] D λe w' =>∃v',e=R v' /\w'.ownsRow 0 228 2 v' (Ak l x c).length (AV (Ak l x c))/\
   AD (λk=>v.ownBlock=S k) D w' /\FA D v v' from λD Y=>Pm D v l x c (h.next Y).own h.rising (by omega) hc (by omega))
 have Ac :=Zh Al;have z :=Zh Aa;have Ax:=Zh (show∀D:World,B w.heap.size w D->D.cell? ⟨sb,0,N⟩=S (I J M)/\D.cell? ⟨sb,1,N⟩=S v/\D.cell? ⟨sb,2,N⟩=S (I U t)from λD Y=>⟨(Y.cell (p:=⟨sb,0,N⟩) h.blk.lt).trans c0,(Y.cell (p:=⟨sb,1,N⟩) h.blk.lt).trans c1,(Y.cell (p:=⟨sb,2,N⟩) h.blk.lt).trans c2⟩);subst hv;clear Al Aa h Av hs ht hn hc Z m hM;go_enter func93,ntmps93;go_wp2_with fail;refine(z.out _ _ (by simp) (by simp)).mono ?_;rintro e D ⟨rfl,rfl⟩;have A2:=H.out.blk.lt;have Q:B w.heap.size w (w.alloc (.cells #[I U t,I U c] 23)):=Za;go_wp2_with fail;refine(Ac.out _ Q).mono ?_;rintro e O ⟨rfl,y⟩;have K:=Q.trans (y.mono Q.size);clear y Q;obtain⟨k0,k1,r⟩:=Ax.out O K;have X:∀q,B w.heap.size w (O.drewN q):=λq=>⟨K.os,K.tape,K.output,K.size,K.block⟩
 cases i:MQ l x with
 |true=>
  clear i;go_wp2_with fail;go_quiet(fail);go_wp2_with(go_at_call 115;refine(a.out _ (X _)).mono ?_;rintro e w3 ⟨v3,rfl,s,a3,q3⟩;obtain⟨A3,n3,j⟩:=AF s;subst j;obtain⟨r1,r2,r3,r4,r5⟩:=AA.out _ w3 _ (X _) s a3 q3);go_ret;exact⟨rfl,r1⟩
 |false=>
  have Ay:=u.out i;clear i;go_wp2_with fail;go_quiet(fail);go_wp2_with(go_at_call 115;refine(a.out _ (X _)).mono ?_;rintro e w3 ⟨v3,rfl,s,a3,q3⟩;obtain⟨A3,n3,j⟩:=AF s;subst j;obtain⟨r1,r2,r3,r4,r5⟩:=AA.out _ w3 _ (X _) s a3 q3);go_ret;exact⟨rfl,r1⟩
theorem LE(w)(M:Nat)(G:1<=M)(F:M<=4096):
  C prog 28 #[I J M] w λe w' =>e=R (T #[P (S ⟨w.heap.size,0,N⟩),I J 0])/\w.alloc (.cells #[I J M,L N 0 0,I U 0] 115)=w' :=by
 have D:¬(M:Int)<1:=by omega
 have A:¬(4096:Int)<(M:Int):=by omega
 go_enter func28,ntmps28;go_wp2;go_ret2;exact⟨rfl,rfl⟩
theorem LG(w M)(h:M<1\/4096<M):
  C prog 28 #[I J M] w λe w' =>e=R (T #[P N,I J 1])/\w=w' :=by
 by_cases D:M<1
 ·go_enter func28,ntmps28;go_wp2;go_ret2;exact⟨rfl,rfl⟩
 ·have A:4096<M:=by omega
  clear h;go_enter func28,ntmps28;go_wp2;go_ret2;exact⟨rfl,rfl⟩
theorem Aq.fresh(w:W)(M:Nat):Aq M (w.alloc (.cells #[I J M,L N 0 0,I U 0] 115)) w.heap.size (L N 0 0) []:=
 ⟨AI.newAt rfl,W.ownsRow_nil _ _ _ _,trivial,λx A=>by cases A⟩
def En(hi:Bool)(l:AL):Nat×Nat:=if hi then l.getLast?.getD (0,0)else l.head?.getD (0,0)
theorem T8(hi)(l:AL):(En hi l).1=Fc hi l:=by
 unfold En Fc BL;cases hi with
 |true=>cases h:l.getLast?<;>simp[h]
 |false=>cases h:l.head?<;>simp[h]
theorem Eo{hi}{l:AL}(A:l≠ []):AB l=AB (Ds hi l)+(En hi l).2:=by
 cases hi with
 |true=>
  have e:l=l.dropLast++ [l.getLast A]:=(gy A).symm;have F:En true l=l.getLast A:=by unfold En;rw[List.getLast?_eq_some_getLast A];rfl
  have D:AB l=AB (l.dropLast++ [l.getLast A]):=congrArg AB e;rw[D,F];show _=AB l.dropLast+_;unfold AB;rw[Bv,AQ];simp[Bn]
 |false=>
  cases l with
  |nil=>exact absurd rfl A
  |cons x l=>show AB (x::l)=AB l+x.2;unfold AB;rw[AQ];simp;omega
def SS(hi:Bool)(l:AL):Nat:=if hi then l.length-1 else 0
theorem My(hi){l:AL}(A:l≠ []):Ds hi l=l.take (SS hi l)++l.drop (SS hi l+1):=by
 have:=List.length_pos_iff.2 A;cases hi with
 |true=>show l.dropLast=l.take (l.length-1)++l.drop (l.length-1+1);rw[List.dropLast_eq_take,show l.length-1+1=l.length from by omega,hZ,List.append_nil]
 |false=>show l.tail=l.take 0++l.drop (0+1);rw[List.take_zero,gh,List.drop_one]
theorem ON(hi){l:AL}(A:l≠ []):SS hi l<l.length:=by
 have:=List.length_pos_iff.2 A;unfold SS;cases hi<;>simp<;>omega
theorem QR(hi){l:AL}(A:l≠ []):l[SS hi l]'(ON hi A)=En hi l:=by
 cases hi with
 |true=>
  have D:En true l=l.getLast A:=by unfold En;rw[List.getLast?_eq_some_getLast A];rfl
  rw[D,iA A];rfl
 |false=>
  cases l with
  |nil=>exact absurd rfl A
  |cons x l=>rfl
theorem ST{l m:AL}(h:m.Sublist l)(D:AT l):AT m:=by
 induction h with
 |slnil=>trivial
 |cons x _ A=>exact A D.2
 |cons_cons x h A=>exact⟨λy F=>D.1 y (h.subset F),A D.2⟩
theorem LI(hi)(l:AL):(Ds hi l).Sublist l:=by
 cases hi with
 |true=>exact List.dropLast_sublist l
 |false=>exact List.tail_sublist l
theorem LJ(hi)(l:AL):(Ds hi l).length=l.length-1:=by unfold Ds;cases hi<;>simp
def KD(l:AL):Value:=T #[I J ((BL true l:Nat):Int),I J ((BL false l:Nat):Int),.bool (!l.isEmpty)]
theorem FJ{M}(w sb v)(l:AL)(h:Aq M w sb v l):
  C prog 145 #[P (S ⟨sb,0,N⟩)] w λe w' =>e=R (KD l)/\B w.heap.size w w' :=by
 obtain⟨A,Q,p⟩:=AF h.own;subst p;obtain⟨u,j,r,f1,s⟩:=h.cells;have D:=λW (k:W.cell? ⟨sb,1,N⟩=S (L A l.length Q))=>Ea W sb A l.length Q k;have G:=D w j;by_cases K:l=[]
 ·subst K;clear h;go_enter func145,ntmps145;go_wp2_with(go_at_call 150;refine G.mono ?_;rintro e q ⟨rfl,rfl⟩);go_ret3;exact⟨rfl,B.refl _ _⟩
 ·have m:=List.length_pos_iff.2 K;rcases AH h.own with⟨_,z,_⟩|⟨g,i,X,a,O,_,hg⟩
  ·omega
  simp only[L.injEq]at X;obtain⟨rfl,_,rfl⟩:=X;unfold maxLen at O;have o:w.cell? ⟨g,0,N⟩=S (I J ((BL true l:Nat):Int)):=by
   have k:=h.own.cellAt (0*2) (by omega);rw[BI l 0 m]at k;rw[Nat.zero_mul]at k;rw[k];cases l with
   |nil=>exact absurd rfl K
   |cons x l=>rfl
  have d:w.cell? ⟨g,(l.length-1)*2,N⟩=S (I J ((BL false l:Nat):Int)):=by
   rw[h.own.cellAt _ (by omega),BI l (l.length-1) (by omega)];have e:BL false l=(l.getLast K).1:=by unfold BL;rw[List.getLast?_eq_some_getLast K];rfl
   rw[e,iA K]
  have c:(!l.isEmpty)=true:=by cases l<;>simp_all
  have Z:=Zh (show KD l=T #[I J ((BL true l:Nat):Int),I J ((BL false l:Nat):Int),.bool true] by unfold KD;rw[c]);obtain⟨y,F⟩:∃x:Int,x=((BL true l:Nat):Int):=⟨_,rfl⟩;obtain⟨t,H⟩:∃x:Int,x=((BL false l:Nat):Int):=⟨_,rfl⟩;rw[<-F,<-H]at Z;rw[<-F]at o;rw[<-H]at d;obtain⟨n,Y⟩:∃n,n=l.length:=⟨_,rfl⟩;rw[<-Y]at G j d m a;have g1:((n:Int)==0)=false:=by simp;omega
  have g2:J.wrap ((n:Int)-1)=((n-1:Nat):Int):=by rw[gZ];omega
  rw[Z.out];clear h D K F H Y c;go_enter func145,ntmps145;go_wp2_with(go_at_call 150;refine G.mono ?_;rintro e q ⟨rfl,rfl⟩);go_quiet(fail);go_wp2_with fail;go_ret3;exact⟨rfl,⟨rfl,rfl,rfl,E _,λ_ _=>rfl⟩⟩
theorem LK(w ty g o c A)(O:w.heap[g]?=S (.cells A 228 (0,0)))(D:o+2<=A.size):
  (Builtin.clear_ #[113] ty #[L (S ⟨g,o,N⟩) 1 c]).run prog w=.ok (T #[]) (w.setRow g (A.toList.take o++ [I J 0,I U 0]++A.toList.drop (o+2)).toArray):=by
 have F:=run_storeCells_at prog g o 228 [I J 0,I U 0] 0 A w O (by simpa using D) (λu H=>by simp at H;rcases H with rfl|rfl<;>rfl);obtain⟨X,hi,G,M,K⟩:=info_parts F1;have Q:(Builtin.zeroCells (V.agg #[I J 0,I U 0]).cells 1).toList=[I J 0,I U 0]:=by simp[Builtin.zeroCells,V.cells];rfl
 simp[Builtin.clear_,run_underlying underlying113,zeroValue,typeInfo,hi,G,Q,F]
theorem OO{P:Program}(w:W){o:Oper}{a:Act}{K:Act->W->Prop}{Q:Exit->Act->W->Prop}(s:Operand)(t:TypeId)
  (D:o.op=.call {callee:=.builtin .clear,args:= #[s],argTypes:= #[t]})(A:V)(G:a.eval s=A)
  (v' :V)(w' :W)(F:(Builtin.clear_ #[t] o.type #[A]).run P w=.ok v' w')(h:K (a.put o.dst v') w'):o.wp P a w K Q:=by
 unfold Oper.wp execOp;simp only[D,resolve,invoke,builtin,Sem.run_bind,Sem.run_pure,Result.andThen_ok,List.map_toArray,List.map_cons,List.map_nil,G,F];exact h
theorem CA{P:Program}(w){A}{rest:List Oper}{o a Q}(D:o.guard=N)(s t)
  (H:o.op=.call {callee:=.builtin .clear,args:= #[s],argTypes:= #[t]})(F)(M:a.eval s=F)
  (v' w')(K:(Builtin.clear_ #[t] o.type #[F]).run P w=.ok v' w')(h:wpList P A Q rest (a.put o.dst v') w'):wpList P A Q (o::rest) a w:=
 wpList_plain D λ_ G=>OO w s t H F M v' w' K (G _ _ h)
theorem CB{P:Program}{D o a w K Q}{A:Prop}
  (Y:o.guard=N)(d x G H)(F:o.op=Op.call {callee:=Callee.builtin Builtin.append,args:= #[d,x],argTypes:= #[G,H]})
  (v u)(M:a.eval d=v)(Z:a.eval x=u){v' w'}(X:(Builtin.append_ #[G,H] o.type #[v,u]).run P w=.ok v' w')(c:K (a.put o.dst v') w'):
  if Region.wanted o (yielded D a.tmps)=true then Oper.wp P o a w K Q else A:=by
 have O:Region.wanted o (yielded D a.tmps)=true:=by simp[Region.wanted,Y]
 rw[if_pos O];unfold Oper.wp;simp[execOp,F,resolve,invoke,builtin,M,Z,X,Result.andThen];exact c
def Xy(cur:Array V)(i:Nat)(xs:List V):Array Value:=(cur.toList.take (i*2)++xs.drop ((i+1)*2)++cur.toList.drop (i*2+(xs.drop ((i+1)*2)).length)).toArray
def Xz(cur:Array V)(n:Nat):Array Value:=(cur.toList.take ((n-1)*2)++ [I J 0,I U 0]++cur.toList.drop ((n-1)*2+2)).toArray
theorem QS(A n i D)(G:D.length=n*2)(hi:i<n)(F:n*2<=A.size):(Xy A i D).size=A.size:=by
 have H:A.toList.length=A.size:=RR;unfold Xy;rw[ej];simp only[Q0,Jx,NW];omega
theorem X0(A n)(F:1<=n)(G:n*2<=A.size):(Xz A n).size=A.size:=by
 have D:A.toList.length=A.size:=RR;unfold Xz;rw[ej];simp only[Q0,Jx,NW,fk,gT];omega
theorem X3(A n i D)(h:A.toList.take (n*2)=D)(F:D.length=n*2)(hi:i<n)(H:n*2<=A.size):
  (Xz (Xy A i D) n).toList.take ((n-1)*2)=D.take (i*2)++D.drop ((i+1)*2):=by
 have K:A.toList.length=A.size:=RR;have G:A.toList.take (i*2)=D.take (i*2):=by rw[<-h,fy,show min (i*2) (n*2)=i*2 from by omega]
 unfold Xz;rw[es,ag,fa (by rw[Jx,RR,QS A n i D F hi H];omega),fy,gc];unfold Xy;rw[es,G,fa (by simp only[Q0,Jx,NW];omega)];exact gQ (by simp only[Q0,Jx,NW];omega)
theorem SU(w g n D i)(l:AL)(h:w.ownsRow 0 228 2 (L (S ⟨g,0,N⟩) n D) n (AV l))(Aa:n<=1000000)(v:i<n):
  C prog 152 #[L (S ⟨g,0,N⟩) n D,I J i,I J ((i+1:Nat):Int)] w λe w' =>e=R (L (S ⟨g,0,N⟩) (n-1) D)/\
   w'.ownsRow 0 228 2 (L (S ⟨g,0,N⟩) (n-1) D) (n-1) ((AV l).take (i*2)++(AV l).drop ((i+1)*2))/\AD (λk=>k=g) w w' :=by
 obtain⟨H,h⟩:=h;rcases h with⟨h,_⟩|⟨g',Ab,F,hv,-,t,Ac,Y,Z,G⟩
 ·cases h
 simp only[L.injEq,gV,gW,and_true,true_and]at hv;obtain⟨rfl,rfl⟩:=hv;have hl:F.toList.length=F.size:=RR;obtain⟨M,hA1⟩:∃A,A=Xy F i (AV l):=⟨_,rfl⟩;obtain⟨p,hA2⟩:∃A,A=Xz M n:=⟨_,rfl⟩;have z:M.size=F.size:=by rw[hA1];exact QS F n i _ H v (by omega)
 have s2:p.size=F.size:=by rw[hA2,X0 _ _ (by omega) (by omega),z]
 have y:D<=9223372036854775807:=by unfold maxLen at Y;omega
 obtain⟨i0,hi,s,O,q⟩:=info_parts F1;have Q:∀ty c a,(n=i+1\/a=(⟨g,(i+1)*2,N⟩:Addr))->(Builtin.append_ #[113,113] ty #[L (S ⟨g,0,N⟩) i D,L (S a) (n-(i+1)) c]).run prog w.drew=.ok (L (S ⟨g,0,N⟩) (n-1) D) (w.drew.setRow g M):=λty c a x=>by
  have k:=run_append_room (P:=prog) w.drew 113 ty 228 i0 underlying113 hi g i D F t a (n-(i+1)) c ((AV l).drop ((i+1)*2)) (by rw[NW,H,O];omega)
   (λj u o=>by
    rcases x with x|x
    ·rw[gY (by omega)]at o;cases o
    ·subst x;rw[fj,cell_of_row w.drew g _ F 228 (0,0) t];rw[List.getElem?_drop,<-G,List.getElem?_take]at o;split at o
     ·simpa using o
     ·cases o)
   (λu hu=>Ib l u (gX hu)) (by omega) (by rw[NW,H,O];omega)
  rw[k,hA1,show i+(n-(i+1))=n-1 from by omega,O];rfl
 have X:(w.drew.setRow g M).heap[g]?=S (.cells M 228 (0,0)):=setRow_heap w.drew g F _ 228 _ t;have d:∀ty c,(Builtin.clear_ #[113] ty #[L (S ⟨g,(n-1)*2,N⟩) 1 c]).run prog (w.drew.setRow g M)=.ok (T #[]) ((w.drew.setRow g M).setRow g p):=λty c=>by
  rw[LK _ ty g ((n-1)*2) c M X (by omega),hA2];rfl
 have AA:prog.follows Departure.mixedOrders=true:=by kernel_rfl
 have z0:(0:Int)<=(i:Int)+1:=by omega
 have z1:((i:Int)==(i:Int)+1)=false:=by simp;omega
 have z2:(i:Int)+1<=(n:Int):=by omega
 have z3:(i:Int)<=(i:Int)+1:=by omega
 have z4:¬D=n-1:=by omega
 have z5:n-(n-1)=1:=by omega
 have z6:((n-1:Nat):Int)<=(n:Int):=by omega
 have z7:(n:Int)<=(D:Int):=by omega
 have z8:(i:Int)<=(D:Int):=by omega
 have z9:((i:Int)+1).toNat=i+1:=by omega
 have m:=Zh (show((w.drew.setRow g M).setRow g p).ownsRow 0 228 2 (L (S ⟨g,0,N⟩) (n-1) D) (n-1) ((AV l).take (i*2)++(AV l).drop ((i+1)*2))/\AD (λk=>k=g) w ((w.drew.setRow g M).setRow g p)from by
  refine⟨⟨?_,.inr ⟨g,D,p,rfl,bh _,setRow_heap _ g M _ 228 _ X,by omega,Y,by rw[s2,Z],?_⟩⟩,⟨rfl,rfl,rfl,?_,λk hk hn=> ?_⟩⟩
  ·simp only[Q0,Jx,NW,H];omega
  ·rw[hA2,hA1];exact X3 F n i _ G H v (by omega)
  ·rw[size_setRow,size_setRow];exact E _
  ·rw[setRow_other _ g k p hn];exact setRow_other w.drew g k M hn)
 by_cases hc:D=i+1
 ·have r:n=i+1:=by omega
  have K :=λty=>Q ty 0 ⟨g,0,N⟩ (.inl r);have e1:i+1-1=i:=rfl;have e2:i+1-(i+1)=0:=iB _;clear Q X Z G hA1 hA2 z s2 t H hl hi s O q;subst hc;subst r;rw[e1]at m d⊢;rw[e1,e2]at K;clear z4 z5 z6 z7 e1 e2;go_enter func152,ntmps152;go_wp2_with fail;go_region_law_o (refine CB rfl _ _ 113 113 rfl _ _ (by simp[bw,V0]) (by simp[bw,V0]) (K _) ?_);go_wp2_with(at_builtin;refine CA _ rfl _ _ rfl _ rfl _ _ (d _ _) ?_);go_ret;exact⟨rfl,m.out⟩
 ·have K :=λty=>Q ty (D-(i+1)) _ (.inr rfl);clear Q X Z G hA1 hA2 z s2 t H hl hi s O q;go_enter func152,ntmps152;go_wp2_with fail;go_region_law_o (refine CB rfl _ _ 113 113 rfl _ _ (by simp[bw,V0]) (by simp[bw,V0]) (K _) ?_);go_wp2_with(at_builtin;refine CA _ rfl _ _ rfl _ rfl _ _ (d _ _) ?_);go_ret;exact⟨rfl,m.out⟩
open Go.RowKit Go.Lib Go.Shelf
theorem FK:(prog.info? 202).map (λi=>(i.zero,i.size,i.bytes))=S (S (.agg #[I J 0,I U 0,I U 0]),3,24):=by kernel_rfl
abbrev BM:=Int×Nat×Nat
def CS(x:BM):List Value:=[I J x.1,I U x.2.1,I U x.2.2]
theorem Ft(x:BM):(CS x).length=3:=rfl
def AR(l:List BM):List Value:=l.flatMap CS
theorem GI(l m:List BM):AR (l++m)=AR l++AR m:=gU
theorem I2(l:List BM):(AR l).length=l.length*3:=Fs Ft l
theorem Hp(l:List BM):∀u∈AR l,u.oneCell' =true:=Xs (λx u A=>by simp[CS]at A;rcases A with rfl|rfl|rfl<;>rfl) l
theorem FL(w ty g o A K a F M D G)
  (d:w.heap[g]?=S (.cells D 202 (0,0)))(e:G.length=aw F A*3)
  (O:∀j v,G[j]?=S v->w.cell? (a.add j)=S v)(H:o+G.length<=D.size)(h:∀v∈G,v.oneCell' =true):
  (Builtin.copy_ #[177,177] ty #[L (S ⟨g,o,N⟩) A K,L (S a) F M]).run prog w=
   .ok (goInt (aw F A)) (w.setRow g (D.toList.take o++G++D.toList.drop (o+G.length)).toArray):=by
 have Z:=run_loadCells_list (P:=prog) w a G O;have Q:=run_storeCells_at prog g o 202 G 0 D w d (by simpa using H) h;obtain⟨i,hi,c,X,Y⟩:=info_parts FK;simp[Builtin.copy_,run_underlying underlying177,Builtin.lenOf,Builtin.firstCells,sizeOf,typeInfo,hi,X,<-e,Z,Q]
theorem OP(w v)(l:List BM)(Q)(x:BM)(h:w.ownsRow 0 202 3 v l.length (AR l))(X:l.length<=1000000)(c:AI w Q #[I J x.1,I U x.2.1,I U x.2.2] 202):
  C prog 270 #[v,I J l.length,L (S ⟨Q,0,N⟩) 1 1] w λe w' =>∃v',e=R v' /\w'.ownsRow 0 202 3 v' (l.length+1) (AR (l++ [x]))/\
   AD (λk=>v.ownBlock=S k) w w' /\(v'.ownBlock=v.ownBlock\/v'.ownBlock=S w.heap.size):=by
 obtain⟨r,hi,K,M,G⟩:=info_parts FK;have F:∀j u,(CS x)[j]?=S u->w.cell? ((⟨Q,0,N⟩:Addr).add j)=S u:=by
  intro j u D;rw[fj,fp]
  match j,D with
  |0,D=>simp[CS]at D;subst D;exact c.cell rfl
  |1,D=>simp[CS]at D;subst D;exact c.cell rfl
  |2,D=>simp[CS]at D;subst D;exact c.cell rfl
 have m:=Zh (show∀u∈CS x,u.oneCell' =true from λu t=>by simp[CS]at t;rcases t with rfl|rfl|rfl<;>rfl);have p:=Zh F;have H:=Zh h;have Y:∀(v' :V) (w' :W),w'.ownsRow 0 202 3 v' (l.length+1) (AR l++CS x)->w.grownBy w' v.ownBlock->(v'.ownBlock=v.ownBlock\/v'.ownBlock=S w.heap.size)->
   w'.ownsRow 0 202 3 v' (l.length+1) (AR (l++ [x]))/\AD (λk=>v.ownBlock=S k) w w' /\(v'.ownBlock=v.ownBlock\/v'.ownBlock=S w.heap.size):=λv' w' a b d=>
  ⟨by rw[GI,show AR [x]=CS x from by simp[AR]];exact a,AD.of_grown b λk y=>y,d⟩
 have A:=Zh Y;clear c F Y;rcases AH h with⟨O,Z,_⟩|⟨g,q,O,o,s,_,z⟩
 ·rw[Z]at H A⊢;rw[O]at H A⊢;clear h O Z;go_enter func270,ntmps270;go_wp2_with(at_builtin;refine wpList_append_own_at _ rfl _ _ 177 rfl 0 202 r _ 3 24 underlying177 hi K M G rfl (by decide) _ _ _ rfl H.out ⟨Q,0,N⟩ 1 1 (CS x) rfl rfl p.out m.out (by decide) (by decide) (bh _) ?_;intro v' w' a1 a2 _ a3);go_ret;exact⟨_,rfl,A.out v' w' a1 a2 a3⟩
 ·obtain⟨n,Z⟩:∃n,n=l.length:=⟨_,rfl⟩;rw[<-Z]at H A X o O⊢;rw[O]at H A⊢;clear h O Z;by_cases i:q=n
  ·subst i;go_enter func270,ntmps270;go_wp2_with(at_builtin;refine wpList_append_own_at _ rfl _ _ 177 rfl 0 202 r _ 3 24 underlying177 hi K M G rfl (by decide) _ _ _ rfl H.out ⟨Q,0,N⟩ 1 1 (CS x) rfl rfl p.out m.out ?q1 ?q2 (bh _) ?_);case q1=>unfold maxLen;omega
   case q2=>omega
   intro v' w' a1 a2 _ a3;go_wp2;go_ret;exact⟨_,rfl,A.out v' w' a1 a2 a3⟩
  ·go_enter func270,ntmps270;go_wp2_with(at_builtin;refine wpList_append_own_at _ rfl _ _ 177 rfl 0 202 r _ 3 24 underlying177 hi K M G rfl (by decide) _ _ _ rfl H.out ⟨Q,0,N⟩ 1 1 (CS x) rfl rfl p.out m.out ?q1 ?q2 (bh _) ?_);case q1=>unfold maxLen;omega
   case q2=>omega
   intro v' w' a1 a2 _ a3;go_wp2;go_ret;exact⟨_,rfl,A.out v' w' a1 a2 a3⟩
theorem LL(w g n F i)(l:List BM)(M)(x:BM)(h:w.ownsRow 0 202 3 (L (S ⟨g,0,N⟩) n F) n (AR l))(Ap:n<=1000000)(r:i<n)(a:n+1<=F)(Z:AI w M #[I J x.1,I U x.2.1,I U x.2.2] 202)(m:M≠g):
  C prog 270 #[L (S ⟨g,0,N⟩) n F,I J i,L (S ⟨M,0,N⟩) 1 1] w λe w' =>e=R (L (S ⟨g,0,N⟩) (n+1) F)/\
   w'.ownsRow 0 202 3 (L (S ⟨g,0,N⟩) (n+1) F) (n+1) ((AR l).take (i*3)++(CS x++(AR l).drop (i*3)))/\AD (λk=>k=g) w w' :=by
 obtain⟨K,h⟩:=h;rcases h with⟨h,_⟩|⟨g',Ar,D,hv,-,q,Aw,Q,s,G⟩
 ·cases h
 simp only[L.injEq,gV,gW,and_true,true_and]at hv;obtain⟨rfl,rfl⟩:=hv;have hl:D.toList.length=D.size:=RR;obtain⟨O,hA1⟩:∃A,A=EX D n i (AR l):=⟨_,rfl⟩;obtain⟨d,hA2⟩:∃A,A=Gt O i (CS x):=⟨_,rfl⟩;have z:O.size=D.size:=by rw[hA1];exact KA D n i _ G K r (by omega)
 have s2:d.size=D.size:=by rw[hA2,Hh _ _ _ rfl (by omega),z]
 have v:F<=9223372036854775807:=by unfold maxLen at Q;omega
 have p:∀ty Y sc,(Builtin.copy_ #[177,177] ty #[L (S ⟨g,(i+1)*3,N⟩) (n-i) Y,L (S ⟨g,i*3,N⟩) (n+1-i) sc]).run prog w.drew=.ok (goInt (aw (n+1-i) (n-i))) (w.drew.setRow g O):=λty Y sc=>by
  have k:=FL w.drew ty g ((i+1)*3) (n-i) Y ⟨g,i*3,N⟩ (n+1-i) sc D ((AR l).drop (i*3)) q (by rw[NW,K,show aw (n+1-i) (n-i)=n-i from by simp only[gd];split<;>omega];omega)
   (λj u H=>by
    rw[fj,cell_of_row w.drew g _ D 202 (0,0) q];rw[List.getElem?_drop,<-G,List.getElem?_take]at H;split at H
    ·simpa using H
    ·cases H)
   (by rw[NW,K];omega) (λu t=>Hp l u (gX t))
  rw[k,hA1];rfl
 have c:∀W:World,W.heap=(w.drew.setRow g O).heap->W.heap[g]?=S (.cells O 202 (0,0)):=λW X=>by rw[X];exact setRow_heap w.drew g D _ 202 _ q
 have o:∀W:World,W.heap=(w.drew.setRow g O).heap->∀ty Y,(Builtin.copy_ #[177,177] ty #[L (S ⟨g,i*3,N⟩) (n+1-i) Y,L (S ⟨M,0,N⟩) 1 1]).run prog W=.ok (goInt (aw 1 (n+1-i))) (W.setRow g d):=λW X ty Y=>by
  have hm:aw 1 (n+1-i)=1:=by simp only[gd];split<;>omega
  have k:=FL W ty g (i*3) (n+1-i) Y ⟨M,0,N⟩ 1 1 O (CS x) (c W X) (by rw[hm];rfl)
   (λj u H=>by
    have Aa:W.heap[M]?=w.heap[M]?:=by rw[X];exact setRow_other w.drew g M O m
    rw[fj,fp,World.cell?_of_block (w:=w) Aa]
    match j,H with
    |0,H=>simp[CS]at H;subst H;exact Z.cell rfl
    |1,H=>simp[CS]at H;subst H;exact Z.cell rfl
    |2,H=>simp[CS]at H;subst H;exact Z.cell rfl)
   (by rw[z];show i*3+3<=_;omega) (λu t=>by simp[CS]at t;rcases t with rfl|rfl|rfl<;>rfl)
  rw[k,hA2];rfl
 have Ab:∀lb cb,(callFunc 284 #[L (S ⟨M,0,N⟩) 1 1,L (S ⟨g,(i+1)*3,N⟩) lb cb]).run prog w=.ok (.value (.bool false)) w:=λlb cb=>by
  have y:w.shape? M=S (202,3):=by unfold World.shape?;rw[show w.heap[M]?=_ from Z];rfl
  have AA:w.shape? g=S (202,D.size):=by unfold World.shape?;rw[q]
  rw[run_callFunc_extern func284 (by kernel_rfl) (by kernel_rfl) (by kernel_rfl) (e:=Extern.SlicesOverlaps.overlaps #[177,177] #[4]) (by kernel_rfl),
   Lib.run_overlaps_apart w 177 4 202 underlying177 3 sizeOf202 ⟨M,0,N⟩ ⟨g,(i+1)*3,N⟩ 1 1 lb cb m 202 202 3 D.size y AA (by omega) (Z.frozen 0) (Z.frozen 3)]
  rfl
 have z1:¬((i:Int)=(n:Int)):=by omega
 have z2:¬((F:Int)<(n:Int)+1):=by omega
 have z3:¬(F=i):=by omega
 have z4:¬(F=i+1):=by omega
 have z5:(i:Int)<=(n:Int):=by omega
 have z6:(i:Int)+1<=(n:Int)+1:=by omega
 have Al:=Zh (show∀W:World,W.heap=(w.drew.setRow g O).heap->W.os=w.os->W.tape=w.tape->W.output=w.output->(W.setRow g d).ownsRow 0 202 3 (L (S ⟨g,0,N⟩) (n+1) F) (n+1) ((AR l).take (i*3)++(CS x++(AR l).drop (i*3)))/\AD (λk=>k=g) w (W.setRow g d)from λW X o1 o2 o3=>by
  refine⟨⟨?_,.inr ⟨g,F,d,rfl,bh _,setRow_heap W g O _ 202 _ (c W X),a,Q,by rw[s2,s],?_⟩⟩,⟨o1,o2,o3,?_,λk hk hn=> ?_⟩⟩
  ·simp only[Q0,Jx,NW,K,CS,fk,gT];omega
  ·rw[hA2,hA1];exact KB D n i _ _ G K r rfl (by omega)
  ·rw[size_setRow,X,size_setRow];exact E _
  ·rw[setRow_other W g k d hn,X];exact setRow_other w.drew g k O hn)
 have Ac:prog.follows Departure.mixedOrders=true:=by kernel_rfl
 have Ax:J.wrap ((i:Int)+1)=(i:Int)+1:=by rw[gZ];omega
 have Av:((i:Int)+1).toNat=i+1:=by omega
 have Ay:(0:Int)<=(i:Int)+1:=by omega
 have A0:(i:Int)<=(n:Int)+1:=by omega
 clear c s G hA1 hA2 z s2 q Z K hl;go_enter func270,ntmps270;go_wp2_with(simp only[Ab]);go_region_law_o (refine Go.Proofs.step_copy_runI rfl _ _ 177 177 rfl _ _ (by simp[bw,V0]) (by simp[bw,V0]) (p _ _ _) ?_);go_wp2_with(at_builtin;refine Go.Proofs.wpList_copy_runI _ rfl _ _ 177 177 rfl _ _ rfl rfl (o _ rfl _ _) ?_);go_ret;exact⟨rfl,Al.out _ rfl rfl rfl rfl⟩
theorem MV(w g n F i)(l:List BM)(q)(x:BM)(h:w.ownsRow 0 202 3 (L (S ⟨g,0,N⟩) n F) n (AR l))(BR:n<=1000000)(BA:i<n)(A3:F<n+1)(p:AI w q #[I J x.1,I U x.2.1,I U x.2.2] 202):
  C prog 270 #[L (S ⟨g,0,N⟩) n F,I J i,L (S ⟨q,0,N⟩) 1 1] w λe w' =>∃v',e=R v' /\
   w'.ownsRow 0 202 3 v' (n+1) ((AR l).take (i*3)++(CS x++(AR l).drop (i*3)))/\B w.heap.size w w' /\v'.ownBlock=S w.heap.size:=by
 have K:=λj u (H:(AR l)[j]?=S u)=>(show w.cell? ⟨g,j,N⟩=S u by have:=h.cells (g:=g) rfl j u H;rwa [fj,fp]at this)
 have Ap:g<w.heap.size:=(h.lt g rfl).2;obtain⟨O,h⟩:=h;have Aa:n<=F:=by
  rcases h with⟨h,_⟩|⟨g',BX,Bs,hv,-,hg,Aa,BQ,Bu,Ar⟩
  ·cases h
  ·simp only[L.injEq,gV,gW,and_true,true_and]at hv;obtain⟨rfl,rfl⟩:=hv;exact Aa
 clear h;obtain⟨i0,A7,Aw,Av,AA⟩:=info_parts FK;have Ax:q<w.heap.size:=p.lt;have t:i+(n+1-i)=n+1:=by omega
 have m:(Builtin.firstCells i0.size i (L (S ⟨g,0,N⟩) i F)).run prog w.drew=.ok ((AR l).take (i*3)).toArray w.drew:=by
  rw[Av];exact run_firstCells_some w.drew 3 i ⟨g,0,N⟩ i F ((AR l).take (i*3)) (by rw[Jx];omega) (λj v H=>by
   rw[fj,fp];rw[List.getElem?_take]at H;split at H
   ·exact K j v H
   ·cases H)
 obtain⟨G,hG⟩:∃G,G=grownCap w (n+1) F 202:=⟨_,rfl⟩;obtain⟨D,X⟩:∃D:Array V,D=((AR l).take (i*3)).toArray++Builtin.zeroCells (V.agg #[I J 0,I U 0,I U 0]).cells (n+1-i)++Builtin.zeroCells (V.agg #[I J 0,I U 0,I U 0]).cells (G-(n+1)):=⟨_,rfl⟩;have A9:∀ty,(Builtin.append_ #[177,3] ty #[L (S ⟨g,0,N⟩) i F,I J ((n:Int)+1-(i:Int))]).run prog w=
   .ok (L (S ⟨w.heap.size,0,N⟩) (n+1) G) (w.drew.alloc (.cells D 202)):=λty=>by
  have h:=Lib.run_append_grow_zeros w 177 3 ty 202 i0 _ J J underlying177 underlying3 A7 Aw (S ⟨g,0,N⟩) i F ((AR l).take (i*3)) m (n+1-i) (by omega) (by omega) (by omega) (by omega) (by rw[AA];omega) (by rw[AA,t];exact growslice_fits (by omega) (by omega));rw[t,<-hG,<-X]at h;rw[show(n:Int)+1-(i:Int)=((n+1-i:Nat):Int)from by omega];exact h
 have A4:n+1<=G:=by rw[hG];exact grownCap_ge w _ _ _
 have r:G<=maxLen:=by rw[hG];exact grownCap_le_maxLen w (n+1) F 202 (by unfold maxLen;omega)
 have Ba:G<=9223372036854775807:=by unfold maxLen at r;omega
 have s:D.size=G*3:=by
  rw[X];simp only[Array.size_append,ej,Jx,size_zeroCells,V.cells,O,ej,fk,gT];omega
 have Ac:D.toList.take (i*3)=(AR l).take (i*3):=by
  rw[X];simp only[Array.toList_append,ag];rw[fa (by simp only[Jx];omega)];exact gQ (by simp only[Jx];omega)
 obtain⟨M,hA1⟩:∃A,A=Gt D i (CS x):=⟨_,rfl⟩;obtain⟨y,hA2⟩:∃A,A=Ja M i ((AR l).drop (i*3)):=⟨_,rfl⟩;have s1:M.size=G*3:=by rw[hA1,Hh _ _ _ rfl (by omega),s]
 have s2:y.size=G*3:=by rw[hA2,K8 _ _ _ (by rw[NW,O];omega),s1]
 have Ab:∀W:World,W.heap=(w.drew.alloc (.cells D 202)).heap->W.heap[w.heap.size]?=S (.cells D 202 (0,0)):=λW Y=>by rw[Y];exact heap_alloc_new w.drew _
 have Z:∀W:World,W.heap=(w.drew.alloc (.cells D 202)).heap->∀b o,b<w.heap.size->W.cell? ⟨b,o,N⟩=w.cell? ⟨b,o,N⟩:=λW Y b o p=>World.cell?_of_block (w:=w) (a:=⟨b,o,N⟩) (by rw[Y];exact B.heap_alloc w.drew _ b p);have d:∀W:World,W.heap=(w.drew.alloc (.cells D 202)).heap->∀ty Q,(Builtin.copy_ #[177,177] ty #[L (S ⟨w.heap.size,i*3,N⟩) (n+1-i) Q,L (S ⟨q,0,N⟩) 1 1]).run prog W=.ok (goInt (aw 1 (n+1-i))) (W.setRow w.heap.size M):=λW Y ty Q=>by
  have hm:aw 1 (n+1-i)=1:=by simp only[gd];split<;>omega
  have k:=FL W ty w.heap.size (i*3) (n+1-i) Q ⟨q,0,N⟩ 1 1 D (CS x) (Ab W Y) (by rw[hm];rfl)
   (λj u H=>by
    rw[fj,fp,Z W Y q _ Ax]
    match j,H with
    |0,H=>simp[CS]at H;subst H;exact p.cell rfl
    |1,H=>simp[CS]at H;subst H;exact p.cell rfl
    |2,H=>simp[CS]at H;subst H;exact p.cell rfl)
   (by rw[s];show i*3+3<=_;omega) (λu hu=>by simp[CS]at hu;rcases hu with rfl|rfl|rfl<;>rfl)
  rw[k,hA1];rfl
 have c:∀W:World,W.heap=((w.drew.alloc (.cells D 202)).setRow w.heap.size M).heap->∀ty Q z,(Builtin.copy_ #[177,177] ty #[L (S ⟨w.heap.size,(i+1)*3,N⟩) (n-i) Q,L (S ⟨g,i*3,N⟩) (n-i) z]).run prog W=.ok (goInt (aw (n-i) (n-i))) (W.setRow w.heap.size y):=λW Y ty Q z=>by
  have k:=FL W ty w.heap.size ((i+1)*3) (n-i) Q ⟨g,i*3,N⟩ (n-i) z M ((AR l).drop (i*3)) (by rw[Y];exact setRow_heap (w.drew.alloc _) w.heap.size D _ 202 _ (heap_alloc_new w.drew _)) (by rw[NW,O,show aw (n-i) (n-i)=n-i from gc _];omega)
   (λj u H=>by
    have A6:W.heap[g]?=w.heap[g]?:=by rw[Y,setRow_other (w.drew.alloc _) w.heap.size g M (by omega)];exact B.heap_alloc w.drew _ g Ap
    rw[fj,World.cell?_of_block (w:=w) (a:=⟨g,i*3+j,N⟩) A6];rw[List.getElem?_drop]at H;exact K _ u H)
   (by rw[NW,O,s1];omega) (λu hu=>Hp l u (gX hu))
  rw[k,hA2];rfl
 have A5:=Zh (show∀W:World,W.heap=((w.drew.alloc (.cells D 202)).setRow w.heap.size M).heap->W.os=w.os->W.tape=w.tape->W.output=w.output->(W.setRow w.heap.size y).ownsRow 0 202 3 (L (S ⟨w.heap.size,0,N⟩) (n+1) G) (n+1) ((AR l).take (i*3)++(CS x++(AR l).drop (i*3)))/\B w.heap.size w (W.setRow w.heap.size y)from λW Y o1 o2 o3=>by
  have A0:W.heap[w.heap.size]?=S (.cells M 202 (0,0)):=by rw[Y];exact setRow_heap (w.drew.alloc _) w.heap.size D _ 202 _ (heap_alloc_new w.drew _)
  refine⟨⟨?_,.inr ⟨w.heap.size,G,y,rfl,bh _,setRow_heap W w.heap.size M _ 202 _ A0,A4,r,by rw[s2],?_⟩⟩,⟨o1,o2,o3,?_,λk hk=> ?_⟩⟩
  ·simp only[Q0,Jx,NW,O,CS,fk,gT];omega
  ·rw[hA2,hA1];exact K7 D n i _ _ Ac O BA rfl (by omega)
  ·rw[size_setRow,Y,size_setRow];simp
  ·rw[setRow_other W w.heap.size k y (by omega),Y,setRow_other (w.drew.alloc _) w.heap.size k M (by omega)];exact B.heap_alloc w.drew _ k hk)
 have z1:¬((i:Int)=(n:Int)):=by omega
 have z2:(F:Int)<(n:Int)+1:=by omega
 have z3:¬(G=i):=by omega
 have z4:¬(G=i+1):=by omega
 have z5:¬(F=i):=by omega
 have A8:prog.follows Departure.mixedOrders=true:=by kernel_rfl
 have Bt:J.wrap ((i:Int)+1)=(i:Int)+1:=by rw[gZ];omega
 have Bb:((i:Int)+1).toNat=i+1:=by omega
 have B2:(0:Int)<=(i:Int)+1:=by omega
 have Bw:(i:Int)<=(n:Int):=by omega
 have B1:(i:Int)+1<=(n:Int)+1:=by omega
 have B0:(i:Int)<=(n:Int)+1:=by omega
 have Al :∀ty Q,(Builtin.copy_ #[177,177] ty #[L (S ⟨w.heap.size,i*3,N⟩) (n+1-i) Q,L (S ⟨q,0,N⟩) 1 1]).run prog (w.alloc (.cells D 202)).drew=.ok (goInt (aw 1 (n+1-i))) ((w.alloc (.cells D 202)).drew.setRow w.heap.size M):=λty Q=>d _ rfl ty Q;have Ay :∀ty Q z,(Builtin.copy_ #[177,177] ty #[L (S ⟨w.heap.size,(i+1)*3,N⟩) (n-i) Q,L (S ⟨g,i*3,N⟩) (n-i) z]).run prog ((w.alloc (.cells D 202)).drew.setRow w.heap.size M).drew=.ok (goInt (aw (n-i) (n-i))) (((w.alloc (.cells D 202)).drew.setRow w.heap.size M).drew.setRow w.heap.size y):=λty Q z=>c ((w.alloc (.cells D 202)).drew.setRow w.heap.size M).drew rfl ty Q z;clear d c;clear K t m X hG s Ac hA1 hA2 s1 s2 Ab Z p O r;go_enter func270,ntmps270;go_wp2_with(at_builtin;refine Lib.wpList_append_run _ rfl _ _ _ _ rfl _ _ rfl rfl _ _ (A9 _) ?_);go_region;all_goals(try go_wp2)
 all_goals go_ret
 all_goals obtain⟨f1,f2⟩:=A5.out ((w.alloc (.cells D 202)).drew.setRow w.heap.size M).drew rfl rfl rfl rfl
 all_goals exact⟨_,rfl,f1,f2,rfl⟩
theorem OQ(w v)(l:List BM)(p G)(x:BM)(h:w.ownsRow 0 202 3 v l.length (AR l))(A:l.length<=1000000)(j:p<=l.length)(Q:AI w G #[I J x.1,I U x.2.1,I U x.2.2] 202)(O:v.ownBlock≠S G):
  C prog 270 #[v,I J p,L (S ⟨G,0,N⟩) 1 1] w λe w' =>∃v',e=R v' /\w'.ownsRow 0 202 3 v' (l.length+1) (AR (l.take p++x::l.drop p))/\
   AD (λk=>v.ownBlock=S k) w w' /\FA w v v' :=by
 have c:AR (l.take p++x::l.drop p)=(AR l).take (p*3)++(CS x++(AR l).drop (p*3)):=by
  exact Xr (Ft) l p x
 by_cases i:p=l.length
 ·subst i;refine(OP w v l G x h A Q).mono λe w' ⟨v',M,H,K,D⟩=>⟨v',M,?_,K,?_⟩
  ·rw[List.take_length,hZ];exact H
  ·rcases D with D|D
   ·exact .inl D
   ·exact .inr ⟨_,D,E _⟩
 ·rcases AH h with⟨X,n,_⟩|⟨g,F,X,Z,Y,_,m⟩
  ·omega
  ·subst X;rw[c];by_cases a:l.length+1<=F
   ·refine(LL w g l.length F p l G x h A (by omega) a Q (λe=>O (by rw[e];rfl))).mono λe w' ⟨M,H,K⟩=>⟨_,M,H,?_,.inl rfl⟩
    exact K.mono λk _ d=>by subst d;rfl
   ·exact(MV w g l.length F p l G x h A (by omega) (by omega) Q).mono λe w' ⟨v',M,H,K,D⟩=>⟨v',M,H,AD.of_below K,.inr ⟨_,D,E _⟩⟩
theorem Jb(w ty g o c A)(O:w.heap[g]?=S (.cells A 202 (0,0)))(D:o+3<=A.size):
  (Builtin.clear_ #[177] ty #[L (S ⟨g,o,N⟩) 1 c]).run prog w=.ok (T #[]) (w.setRow g (A.toList.take o++ [I J 0,I U 0,I U 0]++A.toList.drop (o+3)).toArray):=by
 have F:=run_storeCells_at prog g o 202 [I J 0,I U 0,I U 0] 0 A w O (by simpa using D) (λu H=>by simp only[List.mem_cons,List.not_mem_nil,or_false]at H;rcases H with rfl|rfl|rfl<;>rfl);obtain⟨X,hi,G,M,K⟩:=info_parts FK;have Q:(Builtin.zeroCells (V.agg #[I J 0,I U 0,I U 0]).cells 1).toList=[I J 0,I U 0,I U 0]:=by simp[Builtin.zeroCells,V.cells];rfl
 simp[Builtin.clear_,run_underlying underlying177,zeroValue,typeInfo,hi,G,Q,F]
def LM(cur:Array V)(i:Nat)(xs:List V):Array Value:=(cur.toList.take (i*3)++xs.drop ((i+1)*3)++cur.toList.drop (i*3+(xs.drop ((i+1)*3)).length)).toArray
def LN(cur:Array V)(n:Nat):Array Value:=(cur.toList.take ((n-1)*3)++ [I J 0,I U 0,I U 0]++cur.toList.drop ((n-1)*3+3)).toArray
theorem LO(A n i D)(G:D.length=n*3)(hi:i<n)(F:n*3<=A.size):(LM A i D).size=A.size:=by
 have H:A.toList.length=A.size:=RR;unfold LM;rw[ej];simp only[Q0,Jx,NW];omega
theorem SV(A n)(F:1<=n)(G:n*3<=A.size):(LN A n).size=A.size:=by
 have D:A.toList.length=A.size:=RR;unfold LN;rw[ej];simp only[Q0,Jx,NW,fk,gT];omega
theorem SW(A n i D)(h:A.toList.take (n*3)=D)(F:D.length=n*3)(hi:i<n)(H:n*3<=A.size):
  (LN (LM A i D) n).toList.take ((n-1)*3)=D.take (i*3)++D.drop ((i+1)*3):=by
 have K:A.toList.length=A.size:=RR;have G:A.toList.take (i*3)=D.take (i*3):=by rw[<-h,fy,show min (i*3) (n*3)=i*3 from by omega]
 unfold LN;rw[es,ag,fa (by rw[Jx,RR,LO A n i D F hi H];omega),fy,gc];unfold LM;rw[es,G,fa (by simp only[Q0,Jx,NW];omega)];exact gQ (by simp only[Q0,Jx,NW];omega)
theorem OR(w g n D i)(l:List BM)(h:w.ownsRow 0 202 3 (L (S ⟨g,0,N⟩) n D) n (AR l))(Aa:n<=1000000)(v:i<n):
  C prog 271 #[L (S ⟨g,0,N⟩) n D,I J i,I J ((i+1:Nat):Int)] w λe w' =>e=R (L (S ⟨g,0,N⟩) (n-1) D)/\
   w'.ownsRow 0 202 3 (L (S ⟨g,0,N⟩) (n-1) D) (n-1) ((AR l).take (i*3)++(AR l).drop ((i+1)*3))/\AD (λk=>k=g) w w' :=by
 obtain⟨H,h⟩:=h;rcases h with⟨h,_⟩|⟨g',Ab,F,hv,-,t,Ac,Y,Z,G⟩
 ·cases h
 simp only[L.injEq,gV,gW,and_true,true_and]at hv;obtain⟨rfl,rfl⟩:=hv;have hl:F.toList.length=F.size:=RR;obtain⟨M,hA1⟩:∃A,A=LM F i (AR l):=⟨_,rfl⟩;obtain⟨p,hA2⟩:∃A,A=LN M n:=⟨_,rfl⟩;have z:M.size=F.size:=by rw[hA1];exact LO F n i _ H v (by omega)
 have s2:p.size=F.size:=by rw[hA2,SV _ _ (by omega) (by omega),z]
 have y:D<=9223372036854775807:=by unfold maxLen at Y;omega
 obtain⟨i0,hi,s,O,q⟩:=info_parts FK;have Q:∀ty c a,(n=i+1\/a=(⟨g,(i+1)*3,N⟩:Addr))->(Builtin.append_ #[177,177] ty #[L (S ⟨g,0,N⟩) i D,L (S a) (n-(i+1)) c]).run prog w.drew=.ok (L (S ⟨g,0,N⟩) (n-1) D) (w.drew.setRow g M):=λty c a x=>by
  have k:=run_append_room (P:=prog) w.drew 177 ty 202 i0 underlying177 hi g i D F t a (n-(i+1)) c ((AR l).drop ((i+1)*3)) (by rw[NW,H,O];omega)
   (λj u o=>by
    rcases x with x|x
    ·rw[gY (by omega)]at o;cases o
    ·subst x;rw[fj,cell_of_row w.drew g _ F 202 (0,0) t];rw[List.getElem?_drop,<-G,List.getElem?_take]at o;split at o
     ·simpa using o
     ·cases o)
   (λu hu=>Hp l u (gX hu)) (by omega) (by rw[NW,H,O];omega)
  rw[k,hA1,show i+(n-(i+1))=n-1 from by omega,O];rfl
 have X:(w.drew.setRow g M).heap[g]?=S (.cells M 202 (0,0)):=setRow_heap w.drew g F _ 202 _ t;have d:∀ty c,(Builtin.clear_ #[177] ty #[L (S ⟨g,(n-1)*3,N⟩) 1 c]).run prog (w.drew.setRow g M)=.ok (T #[]) ((w.drew.setRow g M).setRow g p):=λty c=>by
  rw[Jb _ ty g ((n-1)*3) c M X (by omega),hA2];rfl
 have AA:prog.follows Departure.mixedOrders=true:=by kernel_rfl
 have z0:(0:Int)<=(i:Int)+1:=by omega
 have z1:((i:Int)==(i:Int)+1)=false:=by simp;omega
 have z2:(i:Int)+1<=(n:Int):=by omega
 have z3:(i:Int)<=(i:Int)+1:=by omega
 have z4:¬D=n-1:=by omega
 have z5:n-(n-1)=1:=by omega
 have z6:((n-1:Nat):Int)<=(n:Int):=by omega
 have z7:(n:Int)<=(D:Int):=by omega
 have z8:(i:Int)<=(D:Int):=by omega
 have z9:((i:Int)+1).toNat=i+1:=by omega
 have m:=Zh (show((w.drew.setRow g M).setRow g p).ownsRow 0 202 3 (L (S ⟨g,0,N⟩) (n-1) D) (n-1) ((AR l).take (i*3)++(AR l).drop ((i+1)*3))/\AD (λk=>k=g) w ((w.drew.setRow g M).setRow g p)from by
  refine⟨⟨?_,.inr ⟨g,D,p,rfl,bh _,setRow_heap _ g M _ 202 _ X,by omega,Y,by rw[s2,Z],?_⟩⟩,⟨rfl,rfl,rfl,?_,λk hk hn=> ?_⟩⟩
  ·simp only[Q0,Jx,NW,H];omega
  ·rw[hA2,hA1];exact SW F n i _ G H v (by omega)
  ·rw[size_setRow,size_setRow];exact E _
  ·rw[setRow_other _ g k p hn];exact setRow_other w.drew g k M hn)
 by_cases hc:D=i+1
 ·have r:n=i+1:=by omega
  have K :=λty=>Q ty 0 ⟨g,0,N⟩ (.inl r);have e1:i+1-1=i:=rfl;have e2:i+1-(i+1)=0:=iB _;clear Q X Z G hA1 hA2 z s2 t H hl hi s O q;subst hc;subst r;rw[e1]at m d⊢;rw[e1,e2]at K;clear z4 z5 z6 z7 e1 e2;go_enter func271,ntmps271;go_wp2_with fail;go_region_law_o (refine CB rfl _ _ 177 177 rfl _ _ (by simp[bw,V0]) (by simp[bw,V0]) (K _) ?_);go_wp2_with(at_builtin;refine CA _ rfl _ _ rfl _ rfl _ _ (d _ _) ?_);go_ret;exact⟨rfl,m.out⟩
 ·have K :=λty=>Q ty (D-(i+1)) _ (.inr rfl);clear Q X Z G hA1 hA2 z s2 t H hl hi s O q;go_enter func271,ntmps271;go_wp2_with fail;go_region_law_o (refine CB rfl _ _ 177 177 rfl _ _ (by simp[bw,V0]) (by simp[bw,V0]) (K _) ?_);go_wp2_with(at_builtin;refine CA _ rfl _ _ rfl _ rfl _ _ (d _ _) ?_);go_ret;exact⟨rfl,m.out⟩
end Go.Proofs.YtbejdajkkoapgaaGreatDoor
