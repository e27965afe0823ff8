/-
  Lemmas and walks for coreBurst.proved, joined and squeezed by a program out of the loose texts Ln, Lb, Lw, Ls, Lj, J11. Conditions: each theorem states its own.
-/
import Derived.Test.YtbejdajkkoapgaaGreatDoorU07
import Derived.Deep.AppendLies
import Derived.Test.YtbejdajkkoapgaaGreatDoorU03
import Derived.Test.YtbejdajkkoapgaaGreatDoorU05
import Derived.Test.YtbejdajkkoapgaaGreatDoorU04
set_option linter.all false
set_option maxRecDepth 100000
set_option maxHeartbeats 40000000
open Go.RowKit Go.Lib Go.Proofs.Tryz
open Bool renaming false_eq_true->ag
open Go renaming Calls->C,Value->V,World->W
open Go.Act renaming put->Jx
open Go.Ending renaming returned->R
open Go.IntKind renaming i64->J,u64->U,wrap_u64->aw
open Go.RowKit renaming Below->B
open Go.Value renaming int->I,pointer->P,slice->L,tuple->T
open List renaming drop_succ_cons->bw,drop_zero->dT,foldl_cons->fx,mem_cons->fp,not_mem_nil->fw,setIfInBounds_toArray->fa,set_cons_succ->fk,set_cons_zero->fj,take_succ_cons->bh,take_zero->V0
open Nat renaming le_of_succ_le->ej,le_refl->E,le_trans->Pa,lt_of_lt_of_le->fy,lt_or_ge->es,zero_le->RR
open Option renaming none->N,some->S,some.inj->NW
namespace Go.Proofs.YtbejdajkkoapgaaGreatDoor
section
variable {a:Act} {w:W} {K:Act->W->Prop} {Q:Exit->Act->W->Prop}
theorem KI{o:Oper}{s:Nat}(D:o.op=.load 160 (.tmp s)){p:Addr}{v:V}(A:a.eval (.tmp s)=P (S p))(F:w.cell? p=S v)(h:K (a.put o.dst v) w):o.wp prog a w K Q:=by
 refine Dl (v:=v) (w' :=w) ?_ h;clear h;generalize a.eval=ev at A⊢;simp[execOp,D,A,F,go_sem]
theorem I8{o:Oper}{s t:Nat}(H:o.op=.store 160 (.tmp s) (.tmp t)){p:Addr}{A:Option Addr}{n c:Nat}(D:a.eval (.tmp s)=P (S p))(F:a.eval (.tmp t)=L A n c)(u:V)(O:w.cell? p=S u)(G:w.frozen? p=false)(h:K (a.put o.dst undef) (w.setCell p (L A n c))):o.wp prog a w K Q:=by
 refine wp_skip (w' :=w.setCell p (L A n c)) ?_ h;clear h;generalize a.eval=ev at D F⊢;simp[execOp,H,D,F,O,G,go_sem]
theorem UA{o:Oper}{s:Nat}(D:o.op=.nilCheck (.tmp s)){p:Addr}(A:a.eval (.tmp s)=P (S p))(h:K (a.put o.dst (P (S p))) w):o.wp prog a w K Q:=by
 refine Dl (v:=P (S p)) (w' :=w) ?_ h;clear h;generalize a.eval=ev at A⊢;simp[execOp,D,A,go_sem]
theorem I9{o:Oper}{s:Nat}(j n:Nat)(D:o.op=.fieldAddr 210 (.tmp s) j)(F:j=1/\n=2\/j=2/\n=3){tb:Nat}(A:a.eval (.tmp s)=P (S ⟨tb,0,N⟩))(h:K (a.put o.dst (P (S ⟨tb,n,N⟩))) w):o.wp prog a w K Q:=by
 refine Dl (v:=P (S ⟨tb,n,N⟩)) (w' :=w) ?_ h;clear h;generalize a.eval=ev at A⊢;rcases F with⟨rfl,rfl⟩|⟨rfl,rfl⟩
 ·simp[execOp,D,A,go_sem]
 ·simp[execOp,D,A,go_sem]
theorem Lg{o:Oper}{s:Nat}(D:o.op=.buildSlice 160 1 #[(0,.tmp s)]){x:Int}(A:a.eval (.tmp s)=I U x)(h:K (a.put o.dst (L (S ⟨w.heap.size,0,N⟩) 1 1)) (w.alloc (.cells #[I U x] 23))):o.wp prog a w K Q:=by
 refine Dl (v:=L (S ⟨w.heap.size,0,N⟩) 1 1) (w' :=w.alloc (.cells #[I U x] 23)) ?_ h;clear h;generalize a.eval=ev at A⊢;simp[execOp,D,A,go_sem]
end
theorem ac:(prog.info? 23).map (λi=>(i.zero,i.size,i.bytes))=S (S (I U 0),1,8):=by kernel_rfl
structure VM(B:Nat)(tb:Nat)(num den k:Nat)(vl vr:V)(W:World):Prop where
 blk:AI W tb #[I U num,I U den,vl,vr] 210
 lows:W.ownsRow B 23 1 vl k (Fd (Ch num den k))
 reps:W.ownsRow B 23 1 vr k (Fd (Di num den k))
 ap:∀g,vl.ownBlock=S g->vr.ownBlock≠S g
theorem VM.next{B tb num den k vl vr W W'}(h:VM B tb num den k vl vr W)(b:Below W.heap.size W W'):VM B tb num den k vl vr W' :=
 ⟨h.blk.below b h.blk.lt,AE h.lows b λg A=>(h.lows.lt g A).2,AE h.reps b λg A=>(h.reps.lt g A).2,h.ap⟩
theorem Jf{L i j}(h:L j=true):FB L i j=true:=by unfold FB;split<;>simp_all
structure dx where
 xl:V
 xr:V
 bA:Nat
 bB:Nat
def PV(L:Nat->Bool)(vl:V)(θ:dx):Value:=if L 8 then θ.xl else vl
def PW(L:Nat->Bool)(vr:V)(θ:dx):Value:=if L 15 then θ.xr else vr
def Zw(b:Bool)(k:Nat):Nat:=if b then k+1 else k
structure KJ(w:World)(tb num den k:Nat)(vl vr:V)(L:Nat->Bool)(θ:dx)(W:World):Prop where
 d1:L 8=true->L 5=true
 d2:L 18=true->L 8=true
 d3:L 15=true->L 12=true
 d4:L 21=true->L 15=true
 blk:AI W tb #[I U num,I U den,if L 18 then θ.xl else vl,if L 21 then θ.xr else vr] 210
 bxA:L 7=true->AI W θ.bA #[I U (D9 num den k:Nat)] 23
 bxB:L 14=true->AI W θ.bB #[I U ((QP num den (D9 num den k)).1:Nat)] 23
 lows:W.ownsRow (w.heap.size+1) 23 1 (PV L vl θ) (Zw (L 8) k) (Fd (Ch num den (Zw (L 8) k)))
 reps:W.ownsRow (w.heap.size+1) 23 1 (PW L vr θ) (Zw (L 15) k) (Fd (Di num den (Zw (L 15) k)))
 ap:∀g,(PV L vl θ).ownBlock=S g->(PW L vr θ).ownBlock≠S g
 nA:L 7=true->(PV L vl θ).ownBlock≠S θ.bA/\(PW L vr θ).ownBlock≠S θ.bA
 nB:L 14=true->(PV L vl θ).ownBlock≠S θ.bB/\(PW L vr θ).ownBlock≠S θ.bB
 below:B w.heap.size w W
 tbn:w.heap.size+1<=tb
 bx:AI W w.heap.size #[I U num,I U den] 25
 tk:∀j∈ [0,1,2,3,4,6,9,10,11,13],L j=true
section
variable {w:World} {tb num den k:Nat} {vl vr:V} {L:Nat->Bool} {θ:dx} {W W' :World}
theorem KJ.tl(h:KJ w tb num den k vl vr L θ W):(PV L vl θ).ownBlock≠S tb:=λe=>by
 obtain⟨A,D⟩:=AJ h.lows e
 exact(h.blk.ne D (by decide)) rfl
theorem KJ.tr(h:KJ w tb num den k vl vr L θ W):(PW L vr θ).ownBlock≠S tb:=λe=>by
 obtain⟨A,D⟩:=AJ h.reps e
 exact(h.blk.ne D (by decide)) rfl
theorem KJ.flag(h:KJ w tb num den k vl vr L θ W)(i)(t:i≠7/\i≠8/\i≠14/\i≠15/\i≠18/\i≠21):KJ w tb num den k vl vr (FB L i) θ W:=by
 have c:FB L i 7=L 7:=CI (by omega);have D:FB L i 8=L 8:=CI (by omega);have F:FB L i 14=L 14:=CI (by omega);have A:FB L i 15=L 15:=CI (by omega);have G:FB L i 18=L 18:=CI (by omega);have O:FB L i 21=L 21:=CI (by omega);have H:∀j,L j=true->FB L i j=true:=λj f=>by unfold FB;split<;>simp_all
 obtain⟨s,m,o,q,k1,k2,r,l,g,b,e,d,p,Z,X,Y⟩:=h;refine⟨λhh=>H _ (s (D▸hh)),λhh=>H _ (m (G▸hh)),λhh=>H _ (o (A▸hh)),λhh=>H _ (q (O▸hh)),?_,?_,?_,?_,?_,?_,?_,?_,p,Z,X,λj f=>H j (Y j f)⟩
 ·rw[G,O];exact k1
 ·rw[c];exact k2
 ·rw[F];exact r
 ·unfold PV at l⊢;rw[D];exact l
 ·unfold PW at g⊢;rw[A];exact g
 ·unfold PV PW at b⊢;rw[D,A];exact b
 ·unfold PV PW at e⊢;rw[c,D,A];exact e
 ·unfold PV PW at d⊢;rw[F,D,A];exact d
theorem KJ.boxA(h:KJ w tb num den k vl vr L θ W)(q:L 7=false):KJ w tb num den k vl vr (FB L 7) {θ with bA:=W.heap.size} (W.alloc (.cells #[I U (D9 num den k:Nat)] 23)):=by
 have b:B W.heap.size W (W.alloc (.cells #[I U (D9 num den k:Nat)] 23)):=Za;obtain⟨o,c,d,l,k1,k2,Z,X,O,f,p,i,Y,H,A,F⟩:=h;refine⟨o,c,d,l,k1.below b k1.lt,λ_=>AI.newAt rfl,λhh=>(Z hh).below b (Z hh).lt,AE X b λg D=>(X.lt g D).2,AE O b λg D=>(O.lt g D).2,f,λ_=>⟨λe=> ?_,λe=> ?_⟩,i,Y.alloc Y.size _,H,A.below b A.lt,λj m=>Jf (F j m)⟩
 ·have G:(PV L vl θ).ownBlock=S W.heap.size:=e;have:=(X.lt _ G).2;omega
 ·have G:(PW L vr θ).ownBlock=S W.heap.size:=e;have:=(O.lt _ G).2;omega
theorem KJ.boxB(h:KJ w tb num den k vl vr L θ W)(q:L 14=false):KJ w tb num den k vl vr (FB L 14) {θ with bB:=W.heap.size} (W.alloc (.cells #[I U ((QP num den (D9 num den k)).1:Nat)] 23)):=by
 have b:B W.heap.size W (W.alloc (.cells #[I U ((QP num den (D9 num den k)).1:Nat)] 23)):=Za;obtain⟨m,Z,c,i,k1,k2,p,X,O,d,f,o,Y,H,A,F⟩:=h;refine⟨m,Z,c,i,k1.below b k1.lt,λhh=>(k2 hh).below b (k2 hh).lt,λ_=>AI.newAt rfl,AE X b λg D=>(X.lt g D).2,AE O b λg D=>(O.lt g D).2,d,f,λ_=>⟨λe=> ?_,λe=> ?_⟩,Y.alloc Y.size _,H,A.below b A.lt,λj l=>Jf (F j l)⟩
 ·have G:(PV L vl θ).ownBlock=S W.heap.size:=e;have:=(X.lt _ G).2;omega
 ·have G:(PW L vr θ).ownBlock=S W.heap.size:=e;have:=(O.lt _ G).2;omega
theorem KJ.appA(h:KJ w tb num den k vl vr L θ W)(c:L 8=false)(v:L 5=true){g O}(o:W'.ownsRow (w.heap.size+1) 23 1 (.slice (S ⟨g,0,N⟩) (k+1) O) (k+1) (Fd (Ch num den k)++ [I U (D9 num den k:Nat)]))(s:W.grownBy W' vl.ownBlock)(D:vl.ownBlock=S g\/g=W.heap.size):
  KJ w tb num den k vl vr (FB L 8) {θ with xl:=.slice (S ⟨g,0,N⟩) (k+1) O} W' :=by
 have G:L 18=false:=by cases e:L 18 with
  |false=>rfl
  |true=>have:=h.d2 e;rw[c]at this;cases this
 have H:=h.tl;have r:=h.tr;obtain⟨d1,d2,u,d4,k1,k2,m,X,p,i,Z,Y,f,b,d,l⟩:=h;have eL:PV L vl θ=vl:=by unfold PV;rw[c];rfl
 rw[eL]at X i Z Y H;rw[c]at X;have a:AD (λj=>vl.ownBlock=S j) W W' :=AD.of_grown s λj A=>A;have t:Fd (Ch num den k)++ [I U (D9 num den k:Nat)]=Fd (Ch num den (k+1)):=by rw[SO,KC];rfl
 rw[t]at o;have F:FB L 8 18=false:=by rw[CI (by decide)];exact G
 have hB:w.heap.size<=W.heap.size:=f.size;refine⟨λ_=>by rw[CI (by decide)];exact v,λhh=>by rw[F]at hh;(cases hh),λhh=>u hh,λhh=>d4 hh,?_,λhh=>(k2 hh).away a (λe=>(Z hh).1 e),λhh=>(m hh).away a (λe=>(Y hh).1 e),o,AU p a λj A e=>i j e A,λj A e=> ?_,λhh=>⟨λe=> ?_,(Z hh).2⟩,λhh=>⟨λe=> ?_,(Y hh).2⟩,f.trans (a.below f.size λj A e=>by have:=(X.lt _ e).1;omega),b,d.away a (λe=>by have:=(X.lt _ e).1;omega),λj A=>Jf (l j A)⟩
 ·have q:=k1.away a H;rw[F,CI (by decide)];rw[G]at q;exact q
 ·have A:S g=S j:=A;injection A with A;subst A;have e:(PW L vr θ).ownBlock=S g:=e;rcases D with x|x
  ·exact i _ x e
  ·have:=(p.lt _ e).2;omega
 ·have e:S g=S θ.bA:=e;injection e with e;rcases D with x|x
  ·exact(Z hh).1 (e▸x)
  ·have:=(k2 hh).lt;omega
 ·have e:S g=S θ.bB:=e;injection e with e;rcases D with x|x
  ·exact(Y hh).1 (e▸x)
  ·have:=(m hh).lt;omega
theorem KJ.appB(h:KJ w tb num den k vl vr L θ W)(c:L 15=false)(h5:L 12=true){g O}(o:W'.ownsRow (w.heap.size+1) 23 1 (.slice (S ⟨g,0,N⟩) (k+1) O) (k+1) (Fd (Di num den k)++ [I U ((QP num den (D9 num den k)).1:Nat)]))(s:W.grownBy W' vr.ownBlock)(D:vr.ownBlock=S g\/g=W.heap.size):
  KJ w tb num den k vl vr (FB L 15) {θ with xr:=.slice (S ⟨g,0,N⟩) (k+1) O} W' :=by
 have H:L 21=false:=by cases e:L 21 with
  |false=>rfl
  |true=>have:=h.d4 e;rw[c]at this;cases this
 have u:=h.tl;have F:=h.tr;obtain⟨v,r,d3,d4,k1,k2,m,p,X,i,Z,Y,f,b,d,l⟩:=h;have eL:PW L vr θ=vr:=by unfold PW;rw[c];rfl
 rw[eL]at X i Z Y F;rw[c]at X;have a:AD (λj=>vr.ownBlock=S j) W W' :=AD.of_grown s λj A=>A;have t:Fd (Di num den k)++ [I U ((QP num den (D9 num den k)).1:Nat)]=Fd (Di num den (k+1)):=by rw[SP,KC];rfl
 rw[t]at o;have G:FB L 15 21=false:=by rw[CI (by decide)];exact H
 have hB:w.heap.size<=W.heap.size:=f.size;refine⟨λhh=>v hh,λhh=>r hh,λ_=>by rw[CI (by decide)];exact h5,λhh=>by rw[G]at hh;(cases hh),?_,λhh=>(k2 hh).away a (λe=>(Z hh).2 e),λhh=>(m hh).away a (λe=>(Y hh).2 e),AU p a λj A e=>i j A e,o,λj A e=> ?_,λhh=>⟨(Z hh).1,λe=> ?_⟩,λhh=>⟨(Y hh).1,λe=> ?_⟩,f.trans (a.below f.size λj A e=>by have:=(X.lt _ e).1;omega),b,d.away a (λe=>by have:=(X.lt _ e).1;omega),λj A=>Jf (l j A)⟩
 ·have q:=k1.away a F;rw[G,CI (by decide)];rw[H]at q;exact q
 ·have e:S g=S j:=e;injection e with e;subst e;have A:(PV L vl θ).ownBlock=S g:=A;rcases D with x|x
  ·exact i _ A x
  ·have:=(p.lt _ A).2;omega
 ·have e:S g=S θ.bA:=e;injection e with e;rcases D with x|x
  ·exact(Z hh).2 (e▸x)
  ·have:=(k2 hh).lt;omega
 ·have e:S g=S θ.bB:=e;injection e with e;rcases D with x|x
  ·exact(Y hh).2 (e▸x)
  ·have:=(m hh).lt;omega
theorem KJ.stA(h:KJ w tb num den k vl vr L θ W)(l:L 18=false)(Y:L 8=true):KJ w tb num den k vl vr (FB L 18) θ (W.setCell ⟨tb,2,N⟩ θ.xl):=by
 have G:=h.tl;have F:=h.tr;obtain⟨i,p,X,f,k1,k2,O,o,m,Z,c,b,d,D,A,H⟩:=h;refine⟨i,λ_=>Y,X,f,?_,λhh=>(k2 hh).other _ _ ((k2 hh).ne k1 (by decide)),λhh=>(O hh).other _ _ ((O hh).ne k1 (by decide)),AN o _ _ G,AN m _ _ F,Z,c,b,?_,D,A.other _ _ (A.ne k1 (by decide)),λj g=>Jf (H j g)⟩
 ·have e:=k1.set 2 θ.xl;rw[EN,CI (by decide)];exact e
 ·exact d.setCell (show w.heap.size<=tb from ej D) _
theorem KJ.stB(h:KJ w tb num den k vl vr L θ W)(l:L 21=false)(Z:L 15=true):KJ w tb num den k vl vr (FB L 21) θ (W.setCell ⟨tb,3,N⟩ θ.xr):=by
 have G:=h.tl;have F:=h.tr;obtain⟨i,X,Y,p,k1,k2,O,o,m,b,d,c,f,D,A,H⟩:=h;refine⟨i,X,Y,λ_=>Z,?_,λhh=>(k2 hh).other _ _ ((k2 hh).ne k1 (by decide)),λhh=>(O hh).other _ _ ((O hh).ne k1 (by decide)),AN o _ _ G,AN m _ _ F,b,d,c,?_,D,A.other _ _ (A.ne k1 (by decide)),λj g=>Jf (H j g)⟩
 ·have e:=k1.set 3 θ.xr;rw[EN,CI (by decide)];exact e
 ·exact f.setCell (show w.heap.size<=tb from ej D) _
end
def DX(tb:Nat)(vl vr:V)(L:Nat->Bool)(θ:dx):List (Nat×Bool×V):=[(33,L 5,vl),(35,L 7,.slice (S ⟨θ.bA,0,N⟩) 1 1),(36,L 8,θ.xl),(40,L 12,vr),(42,L 14,.slice (S ⟨θ.bB,0,N⟩) 1 1),(43,L 15,θ.xr),(44,L 16,P (S ⟨tb,0,N⟩)),(45,L 17,P (S ⟨tb,2,N⟩)),(46,L 19,P (S ⟨tb,0,N⟩)),(47,L 20,P (S ⟨tb,3,N⟩))]
theorem Sl(tb vl vr L)(θ:dx):((DX tb vl vr L θ).map (·.1)).Nodup:=by simp[DX]
def dJ(num den:Nat)(w:W)(e:Ending)(w' :W):Prop:=
 (∃n tb vl vr,IS num den n/\e=R (T #[P (S ⟨tb,0,N⟩),I J 0])/\B w.heap.size w w' /\Gx w' tb vl vr num den n/\∀j,Qf tb vl vr j->w.heap.size<=j)
 \/(∃code:Int,code≠0/\e=R (T #[P N,I J code])/\B w.heap.size w w' /\∀n,¬IS num den n)
theorem YR(num den w)(G:Dk num den=false):
  C prog 63 #[.agg #[I U num,I U den]] w λe w' =>e=R (T #[P N,I J 1])/\B w.heap.size w w' :=by
 have A:=λW=>NC num den W;rw[G]at A;have F:=Zh (show B w.heap.size w (w.alloc (.cells #[I U num,I U den] 25))from Za);clear G;go_enter func63,ntmps63;go_wp2_with fail;refine(A _).mono ?_;rintro e O ⟨rfl,D⟩;have H:=Zh (F.out.trans (D.mono F.out.size));clear A D;go_wp2_with fail;go_ret2;exact⟨rfl,H.out⟩
theorem Qi(num den:Nat)(w)(hg:Dk num den=true):
  C prog 63 #[.agg #[I U num,I U den]] w (dJ num den w):=by
 have Aw:=λW=>NC num den W;rw[hg]at Aw;unfold Dk at hg;simp only[Bool.and_eq_true,decide_eq_true_eq]at hg;have B5:=Zh (λW B9 h=>VJ num den B9 W (by omega) (by omega) (by omega) h);have B0:AI (w.alloc (.cells #[I U num,I U den] 25)) w.heap.size #[I U num,I U den] 25:=AI.newAt rfl;have b0:B w.heap.size w (w.alloc (.cells #[I U num,I U den] 25)):=Za;have H0:=Zh (Zi B0 b0);clear hg B0 b0;go_enter func63,ntmps63;go_wp2_with fail;refine(Aw _).mono ?_;rintro e w1 ⟨rfl,b1⟩;have B1:=H0.out.1.below b1 H0.out.1.lt;have A9:=H0.out.2.trans (b1.mono H0.out.2.size);have c0:w1.cell? ⟨w.heap.size,0,none⟩=S (I U num):=B1.cell rfl;have c1:w1.cell? ⟨w.heap.size,1,none⟩=S (I U den):=B1.cell rfl;have N1:VM (w.heap.size+1) w1.heap.size num den 0 (.slice none 0 0) (.slice none 0 0) (w1.alloc (.cells #[I U num,I U den,.slice none 0 0,.slice none 0 0] 210)):=⟨AI.newAt rfl,World.ownsRow_nil _ _ _ _,World.ownsRow_nil _ _ _ _,λg hg=>by simp[V.ownBlock]at hg⟩;have s:=B1.lt;have H1:=Zh (Zi N1 (Zi (B1.alloc (.cells #[I U num,I U den,.slice none 0 0,.slice none 0 0] 210)) (Zi (A9.alloc A9.size (.cells #[I U num,I U den,.slice none 0 0,.slice none 0 0] 210)) (show w.heap.size+1<=w1.heap.size from s))));clear Aw b1 B1 A9 N1 H0 s;go_wp2_with fail;generalize w1.heap.size=tb at H1⊢;go_loopg [5,6,7] 4097 (λg lo _ _ wr=>∃(k:Nat) (vl vr:V),lo=I U (D9 num den k:Nat)/\k<=4096/\4097-k<=g/\(∀j,j<k->D9 num den j<=9223372036854775808)/\VM (w.heap.size+1) tb num den k vl vr wr/\AI wr w.heap.size #[I U num,I U den] 25/\B w.heap.size w wr/\w.heap.size+1<=tb)
 case atStart=>exact⟨0,.slice none 0 0,.slice none 0 0,rfl,by omega,by omega,λj hj=>by omega,H1.out.1,H1.out.2.1,H1.out.2.2.1,H1.out.2.2.2⟩
 case round=>
  clear H1 c0 c1;obtain⟨k,vl,vr,rfl,hk,Ap,d,N,BX,hB,BQ⟩:=hrel;have A3:=aW num den k;obtain⟨lo,O⟩:∃lo,lo=D9 num den k:=⟨_,rfl⟩;have c0:wr.cell? ⟨w.heap.size,0,none⟩=S (I U num):=BX.cell rfl;have c1:wr.cell? ⟨w.heap.size,1,none⟩=S (I U den):=BX.cell rfl;have n2:wr.cell? ⟨tb,2,none⟩=S vl:=N.blk.cell rfl;obtain⟨Al,cl,A7⟩:=AF N.lows;obtain⟨Ar,cr,Ba⟩:=AF N.reps;by_cases b:lo<=9223372036854775808
  ·have g0:(lo:Int)<=9223372036854775808:=by omega
   by_cases Bu:4096<=k
   ·have g1:(4096:Int)<=(k:Int):=by omega
    have HB:=Zh (show dJ num den w (R (T #[P none,I J 6])) wr from .inr ⟨6,by decide,rfl,hB,λn hn=>by
     rcases es n k with e|e
     ·have:=d n e;have:=hn.2.1;omega
     ·have:n=k:=by have:=hn.1;omega
      subst this;have:=hn.2.1;omega⟩)
    subst A7;rw[<-O];clear N BX hB d A3 O Ap b Bu;go_wp2_with fail;go_ret2;exact HB.out
   ·have g1:¬(4096:Int)<=(k:Int):=by omega
    have Av:=λW=>B5.out W lo (by omega);have HN:=Zh (Zi N (Zi BX (Zi hB d)));have HK:=Zh (Zi O (Zi b (Zi hk Ap)));subst A7;subst Ba;rw[<-O];clear N BX hB d A3 O Ap b hk;go_wp2_with fail;refine(Av _).mono ?_;rintro e w2 ⟨rfl,b2⟩;have N2:=HN.out.1.next b2;have Aa:=HN.out.2.2.1.trans (b2.mono HN.out.2.2.1.size);have AA:=HN.out.2.1.below b2 HN.out.2.1.lt;have H2:=Zh (Zi N2 (Zi AA Aa));obtain⟨rp,A4⟩:∃rp,rp=(QP num den lo).1:=⟨_,rfl⟩;obtain⟨hi,Z⟩:∃hi,hi=(QP num den lo).2:=⟨_,rfl⟩;have Ck:=(Xw num den lo).2;rw[<-A4,<-Z];rw[<-Z]at Ck;have HR:=Zh (Zi A4 Z);clear Av b2 N2 Aa AA A4 Z c0 c1 n2;go_upto_region 9 with fail;refine wp_region_any (by kernel_rfl) ?_;try(change wpAny _ _ _ _ _ _ _ (World.drew _))
    iterate 5 (refine Zt 22 (v:= ?_) rfl rfl (by kernel_rfl) (λ_ _ _ h=>h) (by rfl) ?_ ?_;rotate_left;focus (intro wz;go_simp;try with_reducible rfl))
    refine wpAny_take (i:=6) (v:= ?_) rfl (by kernel_rfl) (by kernel_rfl) (by kernel_rfl) (λ_ _ _ h=>h) (Or.inl ⟨by rfl,?_⟩) ?_;rotate_left
    ·intro wz;go_simp;try with_reducible rfl
    iterate 3 (refine Zt 25 (v:= ?_) rfl rfl (by kernel_rfl) (λ_ _ _ h=>h) (by rfl) ?_ ?_;rotate_left;focus (intro wz;go_simp;try with_reducible rfl))
    refine wpAny_take (i:=13) (v:= ?_) rfl (by kernel_rfl) (by kernel_rfl) (by kernel_rfl) (λ_ _ _ h=>h) (Or.inl ⟨by rfl,?_⟩) ?_;rotate_left
    ·intro wz;go_simp;try with_reducible rfl
    simp only[List.getElem_toArray,List.getElem_cons_zero,List.getElem_cons_succ,Jx,fa,fj,fk];refine Gz (DX tb (.slice Al k cl) (.slice Ar k cr)) (KJ w tb num den k (.slice Al k cl) (.slice Ar k cr)) [true,true,true,true,true,false,true,false,false,true,true,true,false,true,false,false,false,false,false,false,false,false] ⟨.slice none 0 0,.slice none 0 0,0,0⟩ (by kernel_rfl) (by kernel_rfl) rfl (by kernel_rfl) (by kernel_rfl) ?_ ?_ ?_
    ·obtain⟨N2,AA,Aa⟩:=H2.out;have e5:∀j,(λj=> [true,true,true,true,true,false,true,false,false,true,true,true,false,true,false,false,false,false,false,false,false,false].getD j false) j=[true,true,true,true,true,false,true,false,false,true,true,true,false,true,false,false,false,false,false,false,false,false].getD j false:=λ_=>rfl;refine⟨λh=>absurd h (by decide),λh=>absurd h (by decide),λh=>absurd h (by decide),λh=>absurd h (by decide),N2.blk,λh=>absurd h (by decide),λh=>absurd h (by decide),N2.lows,N2.reps,N2.ap,λh=>absurd h (by decide),λh=>absurd h (by decide),Aa.drew,BQ,AA,?_⟩;intro j hj;simp only[fp,fw,or_false]at hj;rcases hj with rfl|rfl|rfl|rfl|rfl|rfl|rfl|rfl|rfl|rfl<;>rfl
    ·intro L θ W H i o hi D t;have Cp:i<22:=(List.getElem?_eq_some_iff.1 hi).1;have ht:i∉ [0,1,2,3,4,6,9,10,11,13]:=λhm=>by have:=H.tk i hm;rw[D]at this;cases this
     have A6:i=5\/i=7\/i=8\/i=12\/i=14\/i=15\/i=16\/i=17\/i=18\/i=19\/i=20\/i=21:=by
      simp only[fp,fw,or_false,not_or]at ht;omega
     obtain⟨i0,B3,BR,s,Bw⟩:=info_parts ac;have G:=Sl tb (.slice Al k cl) (.slice Ar k cr) L θ;have m:=HK.out;have A2:=HR.out;clear ht;rcases A6 with rfl|rfl|rfl|rfl|rfl|rfl|rfl|rfl|rfl|rfl|rfl|rfl
     ·have X:=NW hi;subst X;have l:L 18=false:=by cases e:L 18 with
       |false=>rfl
       |true=>have:=H.d1 (H.d2 e);rw[D]at this;cases this
      have hc:=H.blk.cell (j:=2) (u:=.slice Al k cl) (by rw[l];rfl);refine At rfl rfl (KI rfl ((BF (by simp[DX])).trans rfl) hc ⟨θ,Aj 0 (by simp only[DX,D];rfl) G ?_,H.flag 5 (by decide)⟩);rfl
     ·have X:=NW hi;subst X;have hb:=H.boxA D;rw[<-m.1]at hb;refine At rfl rfl (Lg rfl ((BF (by simp[DX])).trans rfl) ⟨_,Aj 1 (by simp only[DX,D];rfl) G ?_,hb⟩);rfl
     ·have X:=NW hi;subst X;have h5:L 5=true:=t ⟨5,.data⟩ (by simp) rfl;have h7:L 7=true:=t ⟨7,.data⟩ (by simp) rfl;have A:=H.lows;unfold PV Zw at A;rw[D]at A;have r:=H.bxA h7;rw[<-m.1]at r;refine At rfl rfl (wp_append_lies W (.tmp 33) (.tmp 35) 160 rfl (w.heap.size+1) 23 i0 _ 1 8 underlying160 B3 BR s Bw rfl (by decide) (.slice Al k cl) k (Fd (Ch num den k)) (Ah (k:=0) (by simp only[DX,h5];rfl) G (by simp)) A ⟨θ.bA,0,none⟩ 1 1 [I U lo] (Ah (k:=1) (by simp only[DX,h7];rfl) G (by simp)) rfl (World.news_of_block r) (λu hu=>by rw[List.mem_singleton.1 hu];rfl) (by decide) (by unfold maxLen;omega) (by omega) (Pa (show w.heap.size+1<=tb+1 by omega) H.blk.lt) _ rfl ?_);intro g CL w' o' gr A8 B4;rw[m.1]at o';refine⟨_,Aj 2 (by simp only[DX,D];rfl) G ?_,H.appA D h5 o' gr A8⟩;rfl
     ·have X:=NW hi;subst X;have l:L 21=false:=by cases e:L 21 with
       |false=>rfl
       |true=>have:=H.d3 (H.d4 e);rw[D]at this;cases this
      have hc:=H.blk.cell (j:=3) (u:=.slice Ar k cr) (by rw[l];rfl);refine At rfl rfl (KI rfl ((BF (by simp[DX])).trans rfl) hc ⟨θ,Aj 3 (by simp only[DX,D];rfl) G ?_,H.flag 12 (by decide)⟩);rfl
     ·have X:=NW hi;subst X;have hb:=H.boxB D;rw[<-m.1,<-A2.1]at hb;refine At rfl rfl (Lg rfl ((BF (by simp[DX])).trans rfl) ⟨_,Aj 4 (by simp only[DX,D];rfl) G ?_,hb⟩);rfl
     ·have X:=NW hi;subst X;have h5:L 12=true:=t ⟨12,.data⟩ (by simp) rfl;have h7:L 14=true:=t ⟨14,.data⟩ (by simp) rfl;have A:=H.reps;unfold PW Zw at A;rw[D]at A;have r:=H.bxB h7;rw[<-m.1,<-A2.1]at r;refine At rfl rfl (wp_append_lies W (.tmp 40) (.tmp 42) 160 rfl (w.heap.size+1) 23 i0 _ 1 8 underlying160 B3 BR s Bw rfl (by decide) (.slice Ar k cr) k (Fd (Di num den k)) (Ah (k:=3) (by simp only[DX,h5];rfl) G (by simp)) A ⟨θ.bB,0,none⟩ 1 1 [I U rp] (Ah (k:=4) (by simp only[DX,h7];rfl) G (by simp)) rfl (World.news_of_block r) (λu hu=>by rw[List.mem_singleton.1 hu];rfl) (by decide) (by unfold maxLen;omega) (by omega) (Pa (show w.heap.size+1<=tb+1 by omega) H.blk.lt) _ rfl ?_);intro g CL w' o' gr A8 B4;rw[A2.1,m.1]at o';refine⟨_,Aj 5 (by simp only[DX,D];rfl) G ?_,H.appB D h5 o' gr A8⟩;rfl
     ·have X:=NW hi;subst X;refine At rfl rfl (UA rfl ((BF (by simp[DX])).trans rfl) ⟨θ,Aj 6 (by simp only[DX,D];rfl) G ?_,H.flag 16 (by decide)⟩);rfl
     ·have X:=NW hi;subst X;have c:L 16=true:=t ⟨16,.data⟩ (by simp) rfl;refine At rfl rfl (I9 1 2 rfl (.inl ⟨rfl,rfl⟩) (Ah (k:=6) (by simp only[DX,c];rfl) G (by simp)) ⟨θ,Aj 7 (by simp only[DX,D];rfl) G ?_,H.flag 17 (by decide)⟩);rfl
     ·have X:=NW hi;subst X;have f:L 17=true:=t ⟨17,.data⟩ (by simp) rfl;have p:L 8=true:=t ⟨8,.data⟩ (by simp) rfl;have A:=H.lows;unfold PV at A;rw[p]at A;obtain⟨Ax,cx,Ay⟩:=AF A;have q:=H.stA D p;have Y :θ.xl=.slice Ax (Zw true k) cx:=Ay;rw[Y]at q;refine At rfl rfl (I8 rfl (Ah (k:=7) (by simp only[DX,f];rfl) G (by simp)) (Ah (k:=2) (by simp only[DX,p,Y];rfl) G (by simp)) _ (H.blk.cell (j:=2) rfl) (H.blk.frozen 2) ⟨θ,?_,q⟩);rfl
     ·have X:=NW hi;subst X;refine At rfl rfl (UA rfl ((BF (by simp[DX])).trans rfl) ⟨θ,Aj 8 (by simp only[DX,D];rfl) G ?_,H.flag 19 (by decide)⟩);rfl
     ·have X:=NW hi;subst X;have c:L 19=true:=t ⟨19,.data⟩ (by simp) rfl;refine At rfl rfl (I9 2 3 rfl (.inr ⟨rfl,rfl⟩) (Ah (k:=8) (by simp only[DX,c];rfl) G (by simp)) ⟨θ,Aj 9 (by simp only[DX,D];rfl) G ?_,H.flag 20 (by decide)⟩);rfl
     ·have X:=NW hi;subst X;have f:L 20=true:=t ⟨20,.data⟩ (by simp) rfl;have p:L 15=true:=t ⟨15,.data⟩ (by simp) rfl;have A:=H.reps;unfold PW at A;rw[p]at A;obtain⟨Ax,cx,Ay⟩:=AF A;have q:=H.stB D p;have Y :θ.xr=.slice Ax (Zw true k) cx:=Ay;rw[Y]at q;refine At rfl rfl (I8 rfl (Ah (k:=9) (by simp only[DX,f];rfl) G (by simp)) (Ah (k:=5) (by simp only[DX,p,Y];rfl) G (by simp)) _ (H.blk.cell (j:=3) rfl) (H.blk.frozen 3) ⟨θ,?_,q⟩);rfl
    ·intro L θ W H F;have h5:=F 5 (by decide);have h7:=F 7 (by decide);have p:=F 8 (by decide);have Bt:=F 12 (by decide);have BA:=F 14 (by decide);have x:=F 15 (by decide);have c:=F 16 (by decide);have f:=F 17 (by decide);have l:=F 18 (by decide);have Bs:=F 19 (by decide);have Bb:=F 20 (by decide);have B2:=F 21 (by decide);have A5:=H.blk;have O:=H.lows;have Ab:=H.reps;have Ac:=H.ap;unfold PV Zw at O;unfold PW Zw at Ab;unfold PV PW at Ac;rw[p]at O;rw[x]at Ab;rw[p,x]at Ac;rw[l,B2]at A5;have HE:=Zh (show VM (w.heap.size+1) tb num den (k+1) θ.xl θ.xr W/\AI W w.heap.size #[I U num,I U den] 25/\B w.heap.size w W from⟨⟨A5,O,Ab,Ac⟩,H.bx,H.below⟩);simp only[EO,DX,h5,h7,p,Bt,BA,x,c,f,Bs,Bb,fx,List.foldl_nil,if_true,fa,fk,fj];clear H F h5 h7 p Bt BA x c f l Bs Bb B2 A5 O Ab Ac;rename_i KK;refine KK _ _ ?_;have Z:=HR.out.2;have HT:=Zh (show D9 num den (k+1)=hi+1 from by rw[Z,HK.out.1];rfl);clear Z;go_wp2_with fail;go_roundg (4097-(k+1));case measure=>have:=HK.out;omega
     case rel=>exact⟨k+1,θ.xl,θ.xr,by rw[HT.out];go_num,by omega,E _,λj hj=>by
      rcases es j k with e|e
      ·exact HN.out.2.2.2 j e
      ·have e2:j=k:=by omega
       rw[e2,<-HK.out.1];exact HK.out.2.1,HE.out.1,HE.out.2.1,HE.out.2.2,BQ⟩
  ·have g0:¬(lo:Int)<=9223372036854775808:=by omega
   have HB:=Zh (show dJ num den w (R (T #[P (S ⟨tb,0,none⟩),I J 0])) wr from .inl ⟨k,tb,vl,vr,⟨by omega,by omega,d⟩,rfl,hB,⟨N.blk,AO N.lows λ_ _=>RR _,AO N.reps λ_ _=>RR _⟩,by
    rintro j (rfl|e|e)
    ·omega
    ·have:=(N.lows.lt _ e).1;omega
    ·have:=(N.reps.lt _ e).1;omega⟩)
   rw[<-O];clear N BX hB d A3 O Ap b hk c0 c1 n2 A7 Ba;go_wp2_with fail;go_ret2;exact HB.out
def Dq(hi:Bool):Int:=if hi then 1 else 0
def fc(hi:Bool)(M tb ca cc z:Nat):Array Value:= #[.iface 163 (P (S ⟨tb,0,N⟩)),I J (Dq hi),I J M,.iface (PT hi) (P (S ⟨ca,0,N⟩)),.iface (PT hi) (P (S ⟨cc,0,N⟩)),I U z]
structure BW(hi:Bool)(M num den n:Nat)(w:W)(bb tb:Nat)(vl vr:V)(ca cc:Nat)(Oa Oc:Nat->Prop)(k0 k1:AL)(T0 T1 z:Nat):Prop where
 blk:AI w bb (fc hi M tb ca cc z) 220
 tab:Gx w tb vl vr num den n
 s0:BU hi M k0 T0 w ca Oa
 s1:BU hi M k1 T1 w cc Oc
 ap:∀j,Oa j->¬Oc j
def DY(bb tb:Nat)(vl vr:V)(Oa Oc:Nat->Prop)(j:Nat):Prop:=j=bb\/Qf tb vl vr j\/Oa j\/Oc j
section
variable {hi:Bool} {M num den n:Nat} {w w' :W} {bb tb:Nat} {vl vr:V} {ca cc:Nat} {Oa Oc:Nat->Prop} {k0 k1 k2:AL} {T0 T1 T2 z:Nat}
theorem BW.next(h:BW hi M num den n w bb tb vl vr ca cc Oa Oc k0 k1 T0 T1 z)(b:B w.heap.size w w'):BW hi M num den n w' bb tb vl vr ca cc Oa Oc k0 k1 T0 T1 z:=
 ⟨h.blk.below b h.blk.lt,h.tab.next b,h.s0.next b,h.s1.next b,h.ap⟩
theorem BW.away{G}(h:BW hi M num den n w bb tb vl vr ca cc Oa Oc k0 k1 T0 T1 z)(a:AD G w w')(k:∀j,DY bb tb vl vr Oa Oc j->¬G j):BW hi M num den n w' bb tb vl vr ca cc Oa Oc k0 k1 T0 T1 z:=
 ⟨h.blk.away a (k _ (.inl rfl)),h.tab.away a λj A=>k _ (.inr (.inl A)),h.s0.away a λj A=>k _ (.inr (.inr (.inl A))),h.s1.away a λj A=>k _ (.inr (.inr (.inr A))),h.ap⟩
theorem BW.lt(h:BW hi M num den n w bb tb vl vr ca cc Oa Oc k0 k1 T0 T1 z):∀j,DY bb tb vl vr Oa Oc j->j<w.heap.size:=by
 rintro j (rfl|e|e|e)
 ·exact h.blk.lt
 ·exact h.tab.lt j e
 ·exact h.s0.lt j e
 ·exact h.s1.lt j e
theorem BW.ty(h:BW hi M num den n w bb tb vl vr ca cc Oa Oc k0 k1 T0 T1 z):∀j,DY bb tb vl vr Oa Oc j->∃D t,AI w j D t/\(t=220\/t=210\/t=23\/t=CT hi\/t=115\/t=228):=by
 rintro j (rfl|e|e|e)
 ·exact⟨_,_,h.blk,.inl rfl⟩
 ·obtain⟨D,t,F,A⟩:=h.tab.ty j e;exact⟨D,t,F,by rcases A with A|A<;>simp[A]⟩
 ·obtain⟨D,t,F,A⟩:=h.s0.ty j e;exact⟨D,t,F,by rcases A with A|A|A<;>simp[A]⟩
 ·obtain⟨D,t,F,A⟩:=h.s1.ty j e;exact⟨D,t,F,by rcases A with A|A|A<;>simp[A]⟩
theorem BW.cells(h:BW hi M num den n w bb tb vl vr ca cc Oa Oc k0 k1 T0 T1 z):w.cell? ⟨bb,0,N⟩=S (.iface 163 (P (S ⟨tb,0,N⟩)))/\w.cell? ⟨bb,1,N⟩=S (I J (Dq hi))/\w.cell? ⟨bb,2,N⟩=S (I J M)/\w.cell? ⟨bb,3,N⟩=S (.iface (PT hi) (P (S ⟨ca,0,N⟩)))/\w.cell? ⟨bb,4,N⟩=S (.iface (PT hi) (P (S ⟨cc,0,N⟩)))/\w.cell? ⟨bb,5,N⟩=S (I U z)/\w.frozen? ⟨bb,3,N⟩=false/\w.frozen? ⟨bb,4,N⟩=false/\w.frozen? ⟨bb,5,N⟩=false:=
 ⟨h.blk.cell rfl,h.blk.cell rfl,h.blk.cell rfl,h.blk.cell rfl,h.blk.cell rfl,h.blk.cell rfl,h.blk.frozen 3,h.blk.frozen 4,h.blk.frozen 5⟩
theorem BU.not{k:AL}{T F j O Y t}(h:BU hi M k T w F O)(b:AI w j Y t)(D:t≠CT hi/\t≠115/\t≠228):¬O j:=λc=>by
 obtain⟨G,H,Z,X⟩:=h.ty j c
 have e:t=H:=Decidable.byContradiction λA=>(b.ne Z A) rfl
 subst e
 rcases X with e|e|e
 ·exact D.1 e
 ·exact D.2.1 e
 ·exact D.2.2 e
theorem BW.tabNot(h:BW hi M num den n w bb tb vl vr ca cc Oa Oc k0 k1 T0 T1 z){O}{k:AL}{T A}(q:BU hi M k T w A O):∀j,Qf tb vl vr j->¬O j:=λj D=>by
 obtain⟨H,t,G,F⟩:=h.tab.ty j D
 refine q.not G ?_
 rcases F with rfl|rfl<;>cases hi<;>decide
theorem BW.binNot(h:BW hi M num den n w bb tb vl vr ca cc Oa Oc k0 k1 T0 T1 z){O}{k:AL}{T A}(q:BU hi M k T w A O):¬O bb:=q.not h.blk (by cases hi<;>decide)
theorem BW.put0(h:BW hi M num den n w bb tb vl vr ca cc Oa Oc k0 k1 T0 T1 z)(r:Bi hi M w ca Oa k2 T2 w'):∃D,BW hi M num den n w' bb tb vl vr ca cc D Oc k2 k1 T2 T1 z/\BV w (DY bb tb vl vr Oa Oc) (DY bb tb vl vr D Oc)/\AD (DY bb tb vl vr Oa Oc) w w' :=by
 obtain⟨P,O,G,F⟩:=r;refine⟨P,⟨h.blk.away F (h.binNot h.s0),h.tab.away F (h.tabNot h.s0),O,h.s1.away F λj A X=>h.ap j X A,λj A H=> ?_⟩,?_,F.mono λj _ A=>.inr (.inr (.inl A))⟩
 ·rcases G j A with e|e
  ·exact h.ap j e H
  ·have:=h.s1.lt j H;omega
 ·rintro j (e|e|e|e)
  ·exact .inl (.inl e)
  ·exact .inl (.inr (.inl e))
  ·exact(G j e).imp (λe=>.inr (.inr (.inl e))) id
  ·exact .inl (.inr (.inr (.inr e)))
theorem BW.put1(h:BW hi M num den n w bb tb vl vr ca cc Oa Oc k0 k1 T0 T1 z)(r:Bi hi M w cc Oc k2 T2 w'):∃D,BW hi M num den n w' bb tb vl vr ca cc Oa D k0 k2 T0 T2 z/\BV w (DY bb tb vl vr Oa Oc) (DY bb tb vl vr Oa D)/\AD (DY bb tb vl vr Oa Oc) w w' :=by
 obtain⟨P,H,G,F⟩:=r;refine⟨P,⟨h.blk.away F (h.binNot h.s1),h.tab.away F (h.tabNot h.s1),h.s0.away F λj A O=>h.ap j A O,H,λj A X=> ?_⟩,?_,F.mono λj _ A=>.inr (.inr (.inr A))⟩
 ·rcases G j X with e|e
  ·exact h.ap j A e
  ·have:=h.s0.lt j A;omega
 ·rintro j (e|e|e|e)
  ·exact .inl (.inl e)
  ·exact .inl (.inr (.inl e))
  ·exact .inl (.inr (.inr (.inl e)))
  ·exact(G j e).imp (λe=>.inr (.inr (.inr e))) id
theorem BW.zero(h:BW hi M num den n w bb tb vl vr ca cc Oa Oc k0 k1 T0 T1 z)(D:Nat):BW hi M num den n (w.setCell ⟨bb,5,N⟩ (I U D)) bb tb vl vr ca cc Oa Oc k0 k1 T0 T1 D/\AD (DY bb tb vl vr Oa Oc) w (w.setCell ⟨bb,5,N⟩ (I U D)):=by
 have a:AD (λj=>j=bb) w (w.setCell ⟨bb,5,N⟩ (I U D)):=(AD.refl _ _).setCell _ _ (.inl rfl);have H:∀j,Qf tb vl vr j->¬j=bb:=λj A e=>by
  obtain⟨O,t,F,G⟩:=h.tab.ty j A;rw[e]at F;exact(h.blk.ne F (by rcases G with rfl|rfl<;>decide)) rfl
 refine⟨⟨?_,h.tab.away a H,h.s0.away a λj A e=>h.binNot h.s0 (e▸A),h.s1.away a λj A e=>h.binNot h.s1 (e▸A),h.ap⟩,a.mono λj _ e=>.inl e⟩;exact h.blk.set 5 _
end
structure OZ(hi:Bool)(M num den n:Nat)(w:World)(bb tb:Nat)(vl vr:V)(ca cc:Nat)(Oa Oc:Nat->Prop)(k0 k1:AL)(T0 T1 z:Nat)(W:World):Prop where
 bn:BW hi M num den n W bb tb vl vr ca cc Oa Oc k0 k1 T0 T1 z
 below:B w.heap.size w W
theorem OZ.next{hi M num den n w W W' bb tb vl vr ca cc Oa Oc}{k0 k1:AL}{T0 T1 z}(h:OZ hi M num den n w bb tb vl vr ca cc Oa Oc k0 k1 T0 T1 z W)(b:B W.heap.size W W'):OZ hi M num den n w bb tb vl vr ca cc Oa Oc k0 k1 T0 T1 z W' :=⟨h.bn.next b,h.below.trans (b.mono h.below.size)⟩
def ae(hi:Bool):Nat:=if hi then 121 else 123
def UB(hi:Bool):Nat:=if hi then 379 else 383
def Oe(hi:Bool):Nat:=if hi then 380 else 384
def af(hi:Bool):Nat:=if hi then 120 else 122
def eQ(hi:Bool):Nat:=if hi then 234 else 233
def cI(hi:Bool):Nat:=if hi then 111 else 112
def ai(hi:Bool):Nat:=if hi then 109 else 110
theorem Of{hi M}(w A O)(k:AL)(T)(h:BU hi M k T w A O)(D:T<=9223372036854775807):
  C prog (ae hi) #[P (S ⟨A,0,N⟩)] w λe w' =>e=R (I U T)/\B w.heap.size w w' :=by cases hi;exact LV w A O k T h D;exact LW w A O k T h D
theorem UC{hi M}(w A O)(k:AL)(T)(h:BU hi M k T w A O):
  C prog (UB hi) #[P (S ⟨A,0,N⟩)] w λe w' =>e=R (I U ((T-AB k:Nat):Int))/\w=w' :=by cases hi;exact aX w A O k T h;exact aY w A O k T h
theorem Qj{hi M}(w D O)(k:AL)(T)(h:BU hi M k T w D O)(A:k.length<=1000000):
  C prog (Oe hi) #[P (S ⟨D,0,N⟩)] w λe w' =>∃v',e=R v' /\w'.ownsRow w.heap.size 228 2 v' k.length (AV k)/\B w.heap.size w w' :=by cases hi;exact YI w D O k T h A;exact YL w D O k T h A
theorem YS{hi M}(F:1<=M)(X:M<=4096)(w H O)(k:AL)(T)(h:BU hi M k T w H O)(i c)(G:i<4096)(Z:1<=c)(Y:T+c<=9223372036854775807)(A:(CF hi M k i c).length<=M)(D:k.length<=M):
  C prog (af hi) #[P (S ⟨H,0,N⟩),I J i,I U c] w λe w' =>e=R (I J 0)/\Bi hi M w H O (CF hi M k i c) (T+c) w' :=by cases hi;exact YK F X w H O k T h i c G Z Y A D;exact YN F X w H O k T h i c G Z Y A D
theorem dK(hi:Bool){M:Nat}(D:1<=M)(A:M<=4096)(w):
  C prog (ai hi) #[I J M] w λe w' =>∃F O,e=R (T #[P (S ⟨F,0,N⟩),I J 0])/\BU hi M [] 0 w' F O/\B w.heap.size w w' /\∀j,O j->w.heap.size<=j:=by cases hi;exact YJ D A w;exact YM D A w
theorem Sm(hi w M)(h:M<1\/4096<M):
  C prog (ai hi) #[I J M] w λe w' =>e=R (T #[P N,I J 1])/\w=w' :=by cases hi;exact Sd w M h;exact Se w M h
theorem Qk{hi M}(F:1<=M)(H:M<=4096)(w G ob O N)(k m:AL)(T A)(h:BU hi M k T w G O)(g:BU hi M m A w ob N)(Y:T+A<=9223372036854775807)(D:∀q,(BE hi M k (m.take q)).length<=M)(X:m.length<=4096):
  C prog (eQ hi) #[P (S ⟨G,0,none⟩),P (S ⟨ob,0,none⟩)] w λe w' =>e=R (I J 0)/\Bi hi M w G O (BE hi M k m) (T+A) w' :=by cases hi;exact YO F H w G ob O N k m T A h g Y D X;exact YP F H w G ob O N k m T A h g Y D X
theorem Og(hi A w):(method 524 (PT hi) (P (S ⟨A,0,N⟩)) "Total").run prog w=.ok ((ae hi),P (S ⟨A,0,N⟩)) w:=by cases hi<;>kernel_rfl
theorem UD(hi A w):(method 524 (PT hi) (P (S ⟨A,0,N⟩)) "Lost").run prog w=.ok ((UB hi),P (S ⟨A,0,N⟩)) w:=by cases hi<;>kernel_rfl
theorem Ql(hi A w):(method 524 (PT hi) (P (S ⟨A,0,N⟩)) "Pairs").run prog w=.ok ((Oe hi),P (S ⟨A,0,N⟩)) w:=by cases hi<;>kernel_rfl
theorem YT(hi A w):(method 524 (PT hi) (P (S ⟨A,0,N⟩)) "Add").run prog w=.ok ((af hi),P (S ⟨A,0,N⟩)) w:=by cases hi<;>kernel_rfl
theorem NH(hi args w):(callFunc (ae hi) args).run prog w=.ok (.enter (ae hi) args) w/\(callFunc (UB hi) args).run prog w=.ok (.enter (UB hi) args) w/\(callFunc (Oe hi) args).run prog w=.ok (.enter (Oe hi) args) w/\(callFunc (af hi) args).run prog w=.ok (.enter (af hi) args) w:=by cases hi<;>exact⟨by kernel_rfl,by kernel_rfl,by kernel_rfl,by kernel_rfl⟩
theorem Ai{hi M num den n w bb tb vl vr ca cc Oa Oc}{k0 k1:AL}{T0 T1 z}(h:BW hi M num den n w bb tb vl vr ca cc Oa Oc k0 k1 T0 T1 z):w.cell? ⟨bb,0,N⟩=S (.iface 163 (P (S ⟨tb,0,N⟩)))/\w.cell? ⟨bb,1,N⟩=S (I J (Dq hi))/\w.cell? ⟨bb,2,N⟩=S (I J M)/\w.cell? ⟨bb,3,N⟩=S (.iface (PT hi) (P (S ⟨ca,0,N⟩)))/\w.cell? ⟨bb,4,N⟩=S (.iface (PT hi) (P (S ⟨cc,0,N⟩)))/\w.cell? ⟨bb,5,N⟩=S (I U z)/\w.frozen? ⟨bb,3,N⟩=false/\w.frozen? ⟨bb,4,N⟩=false/\w.frozen? ⟨bb,5,N⟩=false:=h.cells
theorem aj(hi:Bool){M:Nat}(A:1<=M)(D:M<=4096)(w):
  C prog 87 #[I J (Dq hi),I J M] w λe w' =>∃F O,e=R (T #[.iface (PT hi) (P (S ⟨F,0,N⟩)),I J 0])/\BU hi M [] 0 w' F O/\B w.heap.size w w' /\∀j,O j->w.heap.size<=j:=by
 have G:=dK hi A D w;clear A D;cases hi
 all_goals
  simp only[ai,Dq,PT,ag,if_true,if_false]at G⊢;go_enter func87,ntmps87;go_wp2_with fail;refine G.mono ?_;rintro e Y ⟨F,O,rfl,q,b,X⟩;have H:=Zh (Zi q (Zi b X));clear G q b X;go_wp2_with fail;go_ret2;exact⟨F,O,rfl,H.out.1,H.out.2.1,H.out.2.2⟩
theorem Qm(hi w M)(h:M<1\/4096<M):
  C prog 87 #[I J (Dq hi),I J M] w λe w' =>(∃v,e=R (T #[v,I J 1]))/\w=w' :=by
 have A:=Sm hi w M h;clear h;cases hi
 all_goals
  simp only[ai,Dq,PT,ag,if_true,if_false]at A⊢;go_enter func87,ntmps87;go_wp2_with fail;refine A.mono ?_;rintro e D ⟨rfl,rfl⟩;clear A;go_wp2_with fail;go_ret2;exact⟨⟨_,rfl⟩,rfl⟩
theorem dL(hi:Bool){M:Nat}(H:1<=M)(O:M<=4096)(w)(tb:Nat)(vl vr)(num den n:Nat)(h:Gx w tb vl vr num den n):
  C prog 64 #[.iface 163 (P (S ⟨tb,0,N⟩)),I J (Dq hi),I J M] w λe w' =>∃bb ca cc Oa Oc,e=R (T #[P (S ⟨bb,0,N⟩),I J 0])/\BW hi M num den n w' bb tb vl vr ca cc Oa Oc [] [] 0 0 0/\B w.heap.size w w' /\w.heap.size<=bb/\(∀j,Oa j->w.heap.size<=j)/\∀j,Oc j->w.heap.size<=j:=by
 have Fa:=λW=>aj hi H O W;cases hi
 all_goals
  simp only[Dq,PT,ag,if_true,if_false]at Fa⊢;have b:=Zh Fa;clear Fa;have m:=Zh h;clear h H O;go_enter func64,ntmps64;go_wp2_with fail;refine(b.out _).mono ?_;rintro e p ⟨ca,Oa,rfl,q1,F,D⟩;have g:=Zh (Zi q1 (Zi F D));clear q1 F D;go_wp2_with fail;refine(b.out _).mono ?_;rintro e c ⟨cc,Oc,rfl,q2,G,A⟩;have i:=Zh (Zi q2 (Zi G A));clear q2 G A b;go_wp2_with fail;go_ret2;obtain⟨q1,F,D⟩:=g.out;obtain⟨q2,G,A⟩:=i.out;have d:=F.size;have X:=F.trans (G.mono d);have f:=X.size;have Y:=λo:Obj=>(B.refl c.heap.size c).alloc (E _) o;refine⟨c.heap.size,ca,cc,Oa,Oc,rfl,⟨AI.newAt rfl,((m.out.next F).next G).next (Y _),(q1.next G).next (Y _),q2.next (Y _),λj Z l=> ?_⟩,X.alloc f _,f,D,λj Z=>Pa d (A j Z)⟩;have:=q1.lt j Z;have:=A j l;omega
theorem Fe{hi M num den n}(w bb tb vl vr ca cc Oa Oc)(k0 k1:AL)(T0 T1 z)(h:BW hi M num den n w bb tb vl vr ca cc Oa Oc k0 k1 T0 T1 z)(o:T0+z+T1<=9223372036854775807):
  Calls prog 91 #[P (S ⟨bb,0,N⟩)] w λe w' =>e=R (I U ((T0+z+T1:Nat):Int))/\B w.heap.size w w' :=by
 have F:=λW (k:OZ hi M num den n w bb tb vl vr ca cc Oa Oc k0 k1 T0 T1 z W)=>Of W ca Oa k0 T0 k.bn.s0 (by omega);have G:=λW (k:OZ hi M num den n w bb tb vl vr ca cc Oa Oc k0 k1 T0 T1 z W)=>Of W cc Oc k1 T1 k.bn.s1 (by omega);have p:=λW=>Og hi ca W;have q:=λW=>Og hi cc W;have v:=λa W=>NH hi a W;obtain⟨a,r⟩:∃a,a=T0+z:=⟨_,rfl⟩;obtain⟨b,O⟩:∃b,b=T0+z+T1:=⟨_,rfl⟩;have u:U.wrap ((T0:Int)+(z:Int))=(a:Int):=by rw[aw];omega
 have t:U.wrap ((a:Int)+(T1:Int))=(b:Int):=by rw[aw];omega
 rw[<-O];have s:=Zh h;clear h r O o;go_enter func91,ntmps91;go_upto_region 3 with fail;refine AG (C:=OZ hi M num den n w bb tb vl vr ca cc Oa Oc k0 k1 T0 T1 z) (by kernel_rfl) (by kernel_rfl) ⟨s.out.next (B.refl _ _).drew,(B.refl _ _).drew⟩ ?_;repeat go_big_quiet_step(exact λ_=>rfl)
 go_big_quiet_want;refine⟨.iface (PT hi) (P (S ⟨ca,0,N⟩)),λD A=> ?_,?_⟩
 ·obtain⟨l,X,Y,d,j,f,i,g,c⟩:=Ai A.bn;go_simp
 go_big_quiet_on;simp only[Jx,Zp,Zq,Zr];repeat go_big_quiet_step(exact λ_=>rfl)
 go_big_quiet_want;go_big_quiet_op;refine⟨I U T0,λD A=> ?_,?_⟩
 ·exact(F D A).mono λ_ _ H=>⟨H.1,A.next H.2⟩
 go_big_quiet_on;repeat go_big_quiet_step(exact λ_=>rfl)
 go_big_quiet_want;refine⟨I U z,λD A=> ?_,?_⟩
 ·obtain⟨l,X,Y,d,j,f,i,g,c⟩:=Ai A.bn;go_simp
 go_big_quiet_on;simp only[Jx,Zp,Zq,Zr];repeat go_big_quiet_step(exact λ_=>rfl)
 go_big_quiet_want;refine⟨.iface (PT hi) (P (S ⟨cc,0,N⟩)),λD A=> ?_,?_⟩
 ·obtain⟨l,X,Y,d,j,f,i,g,c⟩:=Ai A.bn;go_simp
 go_big_quiet_on;simp only[Jx,Zp,Zq,Zr];repeat go_big_quiet_step(exact λ_=>rfl)
 go_big_quiet_want;go_big_quiet_op;refine⟨I U T1,λD A=> ?_,?_⟩
 ·exact(G D A).mono λ_ _ H=>⟨H.1,A.next H.2⟩
 go_big_quiet_on;repeat go_big_quiet_step(exact λ_=>rfl)
 refine wpQuiet_nil ?_;intro W1 Z;have m:=Zh Z.below;clear Z F G;go_wp2_with fail;go_ret;exact⟨rfl,m.out⟩
theorem ak{hi M num den n}(w bb tb vl vr ca cc Oa Oc)(k0 k1:AL)(T0 T1 z)(h:BW hi M num den n w bb tb vl vr ca cc Oa Oc k0 k1 T0 T1 z):
  Calls prog 225 #[P (S ⟨bb,0,N⟩)] w λe w' =>e=R (T #[I U ((T0-AB k0:Nat):Int),I U ((T1-AB k1:Nat):Int)])/\B w.heap.size w w' :=by
 have D:=λW (k:OZ hi M num den n w bb tb vl vr ca cc Oa Oc k0 k1 T0 T1 z W)=>UC W ca Oa k0 T0 k.bn.s0;have F:=λW (k:OZ hi M num den n w bb tb vl vr ca cc Oa Oc k0 k1 T0 T1 z W)=>UC W cc Oc k1 T1 k.bn.s1;have c:=λW=>UD hi ca W;have d:=λW=>UD hi cc W;have s:=λa W=>NH hi a W;obtain⟨a,Y⟩:∃a,a=T0-AB k0:=⟨_,rfl⟩;obtain⟨b,O⟩:∃b,b=T1-AB k1:=⟨_,rfl⟩;rw[<-Y]at D⊢;rw[<-O]at F⊢;have p:=Zh h;clear h Y O;go_enter func225,ntmps225;go_upto_region 3 with fail;refine AG (C:=OZ hi M num den n w bb tb vl vr ca cc Oa Oc k0 k1 T0 T1 z) (by kernel_rfl) (by kernel_rfl) ⟨p.out.next (B.refl _ _).drew,(B.refl _ _).drew⟩ ?_;repeat go_big_quiet_step(exact λ_=>rfl)
 go_big_quiet_want;refine⟨.iface (PT hi) (P (S ⟨ca,0,N⟩)),λG A=> ?_,?_⟩
 ·obtain⟨r,f,g,j,q,l,o,m,i⟩:=Ai A.bn;go_simp
 go_big_quiet_on;simp only[Jx,Zp,Zq,Zr];repeat go_big_quiet_step(exact λ_=>rfl)
 go_big_quiet_want;go_big_quiet_op;refine⟨I U a,λG A=> ?_,?_⟩
 ·exact(D G A).mono λ_ _ H=>⟨H.1,H.2▸A⟩
 go_big_quiet_on;repeat go_big_quiet_step(exact λ_=>rfl)
 go_big_quiet_want;refine⟨.iface (PT hi) (P (S ⟨cc,0,N⟩)),λG A=> ?_,?_⟩
 ·obtain⟨r,f,g,j,q,l,o,m,i⟩:=Ai A.bn;go_simp
 go_big_quiet_on;simp only[Jx,Zp,Zq,Zr];repeat go_big_quiet_step(exact λ_=>rfl)
 go_big_quiet_want;go_big_quiet_op;refine⟨I U b,λG A=> ?_,?_⟩
 ·exact(F G A).mono λ_ _ H=>⟨H.1,H.2▸A⟩
 go_big_quiet_on;repeat go_big_quiet_step(exact λ_=>rfl)
 refine wpQuiet_nil ?_;intro W1 X;have Z:=Zh X.below;clear X D F;go_wp2_with fail;go_ret2;exact⟨rfl,Z.out⟩
theorem am{hi M num den n}(w bb tb vl vr ca cc Oa Oc)(k0 k1:AL)(T0 T1 z)(h:BW hi M num den n w bb tb vl vr ca cc Oa Oc k0 k1 T0 T1 z):
  C prog 227 #[P (S ⟨bb,0,N⟩)] w λe w' =>e=R (I U z)/\w=w' :=by
 obtain⟨Y,Z,A,F,X,G,O,H,D⟩:=Ai h;clear h;go_enter func227,ntmps227;go_wp2_with fail;go_ret;exact⟨rfl,rfl⟩
theorem an{hi M num den n}(w bb tb vl vr ca cc Oa Oc)(k0 k1:AL)(T0 T1 z)(h:BW hi M num den n w bb tb vl vr ca cc Oa Oc k0 k1 T0 T1 z)(O:k0.length<=4096)(c:k1.length<=4096):
  C prog 224 #[P (S ⟨bb,0,N⟩)] w λe w' =>∃a b,e=R (T #[a,b])/\w'.ownsRow 0 228 2 a k0.length (AV k0)/\w'.ownsRow 0 228 2 b k1.length (AV k1)/\B w.heap.size w w' :=by
 obtain⟨c0,r,s,c3,c4,u,f3,x,t⟩:=Ai h;have p:=λW=>Ql hi ca W;have q:=λW=>Ql hi cc W;have he:=λa W=>NH hi a W;have Z:=Zh (show∀W,B w.heap.size w W->_ from λW (k:B w.heap.size w W)=>Qj W ca Oa k0 T0 (h.next k).s0 (by omega));have H:=Zh (show∀W,B w.heap.size w W->_ from λW (k:B w.heap.size w W)=>Qj W cc Oc k1 T1 (h.next k).s1 (by omega));have D:=Zh (show∀W,B w.heap.size w W->_ from λW (k:B w.heap.size w W)=>Zi (Ai (h.next k)).2.2.2.1 (Ai (h.next k)).2.2.2.2.1);have v:=Zh (show B w.heap.size w w.drew from(B.refl _ _).drew);clear h c0 r s u f3 x t O c;go_enter func224,ntmps224;go_upto_region 3 with fail;rename_i o;go_region_with(first
  |((with_reducible refine(Z.out _ (Hid.out (by assumption))).mono ?_);rintro e w2 ⟨f,rfl,j,Y⟩;have l:Hid (B w.heap.size w w2):=Zh (B.trans (Hid.out (by assumption)) (Y.mono (B.size (Hid.out (by assumption)))));obtain⟨d3,d4⟩:=D.out _ l.out;have G:=Zh (Zi j Y);clear j Y)
  |((with_reducible refine(H.out _ (Hid.out (by assumption))).mono ?_);rintro e m ⟨d,rfl,ob,A⟩;have i:Hid (B w.heap.size w m):=Zh (B.trans (Hid.out (by assumption)) (A.mono (B.size (Hid.out (by assumption)))));obtain⟨d5,d6⟩:=D.out _ i.out;have F:=Zh (Zi ob A);clear ob A))
 all_goals(
  refine o _ _ ?_;go_wp2_with fail;go_ret2;first
   |exact⟨f,d,rfl,AE (AO G.out.1 λ_ _=>RR _) F.out.2 (λg X=>(G.out.1.lt g X).2),AO F.out.1 λ_ _=>RR _,i.out⟩
   |exact⟨f,d,rfl,AO G.out.1 λ_ _=>RR _,AE (AO F.out.1 λ_ _=>RR _) G.out.2 (λg X=>(F.out.1.lt g X).2),l.out⟩)
theorem ao{hi M num den n num2 den2 n2}(w bb tb vl vr ca cc Oa Oc)(k0 k1:AL)(T0 T1 z)(h:BW hi M num den n w bb tb vl vr ca cc Oa Oc k0 k1 T0 T1 z)
  (ob ub ul ur da dc Na Nc)(m0 m1:AL)(U0 U1 y)(g:BW hi M num2 den2 n2 w ob ub ul ur da dc Na Nc m0 m1 U0 U1 y):
  C prog 231 #[P (S ⟨bb,0,N⟩),P (S ⟨ob,0,N⟩)] w λe w' =>e=R (.bool true)/\B w.heap.size w w' :=by
 obtain⟨j,p,q,Y,H,Z,i,f,X⟩:=Ai h;obtain⟨O,m,l,A,d,b,F,D,c⟩:=Ai g;have r:((M:Int)==(M:Int))=true:=by simp
 have s:(Dq hi==Dq hi)=true:=by simp
 have o:(M==M)=true:=by simp
 have G:=Zh (B.refl w.heap.size w);clear h g j O Y H Z i f X A d b F D c;go_enter func231,ntmps231;go_upto_region 1 with fail;go_quiet(fail);go_wp2_with fail;go_ret;exact⟨rfl,below_drewN G.out _⟩
theorem eR(A w):(Instr.typeAssert (.iface 246 (P (S ⟨A,0,N⟩))) 216 246 true).run prog w=.ok (T #[P (S ⟨A,0,N⟩),.bool true]) w:=by kernel_rfl
theorem eS(A w):(Instr.typeAssert (.iface 246 (P (S ⟨A,0,N⟩))) 216 246 false).run prog w=.ok (P (S ⟨A,0,N⟩)) w:=by kernel_rfl
theorem YU(w:World)(ca da:Nat)(Q:Ending->World->Prop)(A:C prog 233 #[P (S ⟨ca,0,N⟩),P (S ⟨da,0,N⟩)] w λe w' =>(∃v,e=R v)/\Q e w'):
  C prog 232 #[.iface 246 (P (S ⟨ca,0,N⟩)),.iface 246 (P (S ⟨da,0,N⟩))] w λe w' =>e=R (T #[])/\∃G,Q G w' :=by
 have D:=λW=>(eR ca W)
 have F:=λW=>(eS da W)
 go_enter func232,ntmps232;go_wp2_with fail;refine A.mono ?_;rintro e O ⟨⟨v,rfl⟩,q⟩;have H:=Zh q;clear A q;go_wp2_with fail;refine bodyPost_end (results_none rfl _ _ _) rfl ?_;exact⟨rfl,_,H.out⟩
theorem eT(A w):(Instr.typeAssert (.iface 243 (P (S ⟨A,0,N⟩))) 216 246 true).run prog w=.ok (T #[P N,.bool false]) w:=by kernel_rfl
theorem dM(A w):(Instr.typeAssert (.iface 243 (P (S ⟨A,0,N⟩))) 216 243 true).run prog w=.ok (T #[P (S ⟨A,0,N⟩),.bool true]) w:=by kernel_rfl
theorem eU(A w):(Instr.typeAssert (.iface 243 (P (S ⟨A,0,N⟩))) 216 243 false).run prog w=.ok (P (S ⟨A,0,N⟩)) w:=by kernel_rfl
theorem YV(w:World)(ca da:Nat)(Q:Ending->World->Prop)(A:C prog 234 #[P (S ⟨ca,0,N⟩),P (S ⟨da,0,N⟩)] w λe w' =>(∃v,e=R v)/\Q e w'):
  C prog 232 #[.iface 243 (P (S ⟨ca,0,N⟩)),.iface 243 (P (S ⟨da,0,N⟩))] w λe w' =>e=R (T #[])/\∃H,Q H w' :=by
 have D:=λW=>(eT ca W)
 have G:=λW=>(dM ca W)
 have F:=λW=>(eU da W)
 go_enter func232,ntmps232;go_wp2_with fail;refine A.mono ?_;rintro e X ⟨⟨v,rfl⟩,q⟩;have O:=Zh q;clear A q;go_wp2_with fail;refine bodyPost_end (results_none rfl _ _ _) rfl ?_;exact⟨rfl,_,O.out⟩
theorem Qn{hi:Bool}(w:W)(ca da:Nat)(Q:Ending->W->Prop)(A:C prog (eQ hi) #[P (S ⟨ca,0,N⟩),P (S ⟨da,0,N⟩)] w λe w' =>(∃v,e=R v)/\Q e w'):
  C prog 232 #[.iface (PT hi) (P (S ⟨ca,0,N⟩)),.iface (PT hi) (P (S ⟨da,0,N⟩))] w λe w' =>e=R (T #[])/\∃D,Q D w' :=by cases hi;exact YU w ca da Q A;exact YV w ca da Q A
theorem Sn(tb w):(method 524 163 (P (S ⟨tb,0,N⟩)) "Index").run prog w=.ok (368,P (S ⟨tb,0,N⟩)) w:=by kernel_rfl
theorem eV(tb w):(method 524 163 (P (S ⟨tb,0,N⟩)) "Rep").run prog w=.ok (370,P (S ⟨tb,0,N⟩)) w:=by kernel_rfl
def FC(hi:Bool)(M num den n:Nat)(w:W)(bb tb:Nat)(vl vr:V)(ca cc:Nat)(Oa Oc:Nat->Prop)(k0 k1:AL)(T0 T1 z:Nat)(w' :W):Prop:=
 ∃Oa' Oc',BW hi M num den n w' bb tb vl vr ca cc Oa' Oc' k0 k1 T0 T1 z/\BV w (DY bb tb vl vr Oa Oc) (DY bb tb vl vr Oa' Oc')/\AD (DY bb tb vl vr Oa Oc) w w'
section
variable {hi:Bool} {M num den n:Nat} {w W W' :World} {bb tb:Nat} {vl vr:V} {ca cc:Nat} {Oa Oc:Nat->Prop} {k0 k1 k2 a0 a1:AL} {T0 T1 T2 z A0 A1 y:Nat}
theorem FC.start(h:BW hi M num den n w bb tb vl vr ca cc Oa Oc k0 k1 T0 T1 z)(b:B w.heap.size w W):FC hi M num den n w bb tb vl vr ca cc Oa Oc k0 k1 T0 T1 z W:=⟨Oa,Oc,h.next b,λ_ h=>.inl h,AD.of_below b⟩
theorem FC.next(h:FC hi M num den n w bb tb vl vr ca cc Oa Oc k0 k1 T0 T1 z W)(b:B W.heap.size W W'):FC hi M num den n w bb tb vl vr ca cc Oa Oc k0 k1 T0 T1 z W' :=by
 obtain⟨D,A,G,O,H⟩:=h;exact⟨D,A,G.next b,O,H.trans' (AD.of_below (F:=DY bb tb vl vr Oa Oc) b) (λ_ _ h=>h) (λ_ _ h=>h)⟩
theorem FC.step(h:FC hi M num den n w bb tb vl vr ca cc Oa Oc k0 k1 T0 T1 z W)(g:∀D A,BW hi M num den n W bb tb vl vr ca cc D A k0 k1 T0 T1 z->FC hi M num den n W bb tb vl vr ca cc D A a0 a1 A0 A1 y W'):FC hi M num den n w bb tb vl vr ca cc Oa Oc a0 a1 A0 A1 y W' :=by
 obtain⟨D,A,b,G,H⟩:=h;obtain⟨d,Z,X,Y,O⟩:=g D A b;refine⟨d,Z,X,λj F=> ?_,H.trans' O (λ_ _ h=>h) λj F c=> ?_⟩
 ·rcases Y j F with e|e
  ·exact G j e
  ·exact .inr (Pa H.size e)
 ·rcases G j c with e|e
  ·exact e
  ·omega
theorem BW.rz(h:BW hi M num den n w bb tb vl vr ca cc Oa Oc k0 k1 T0 T1 z)(A):FC hi M num den n w bb tb vl vr ca cc Oa Oc k0 k1 T0 T1 A (w.setCell ⟨bb,5,N⟩ (I U A)):=by
 obtain⟨F,D⟩:=h.zero A;exact⟨Oa,Oc,F,λ_ h=>.inl h,D⟩
end
theorem EB{w W W' P Q A}(s:BV w P Q)(a:AD P w W)(F:BV W Q A)(a2:AD Q W W'):BV w P A/\AD P w W' :=by
 refine⟨λj D=> ?_,a.trans' a2 (λ_ _ h=>h) λj D G=> ?_⟩
 ·rcases F j D with e|e
  ·exact s j e
  ·exact .inr (Pa a.size e)
 ·rcases s j G with e|e
  ·exact e
  ·omega
theorem Ec{w W P}(b:B w.heap.size w W):BV w P P/\AD P w W:=⟨λ_ h=>.inl h,AD.of_below b⟩
theorem dN{w:W}{P Q A:Nat->Prop}(h:∀j,P j->¬A j)(s:BV w P Q)(l:∀j,A j->j<w.heap.size):∀j,Q j->¬A j:=λj F D=>by
 rcases s j F with e|e
 ·exact h j e D
 ·have:=l j D;omega
structure YW(hi:Bool)(M num den n num2 den2 n2:Nat)(w:World)(bb tb:Nat)(vl vr:V)(ca cc:Nat)(Oa Oc:Nat->Prop)(k0 k1:AL)(T0 T1 z:Nat)(ob ub:Nat)(ul ur:V)(da dc:Nat)(Na Nc:Nat->Prop)(m0 m1:AL)(U0 U1 y:Nat)(W:World):Prop where
 b:BW hi M num den n W bb tb vl vr ca cc Oa Oc k0 k1 T0 T1 z
 o:BW hi M num2 den2 n2 W ob ub ul ur da dc Na Nc m0 m1 U0 U1 y
 below:B w.heap.size w W
section
variable {hi:Bool} {M num den n num2 den2 n2:Nat} {w W W' :World} {bb tb:Nat} {vl vr:V} {ca cc:Nat} {Oa Oc:Nat->Prop} {k0 k1 k2:AL} {T0 T1 T2 z:Nat} {ob ub:Nat} {ul ur:V} {da dc:Nat} {Na Nc:Nat->Prop} {m0 m1:AL} {U0 U1 y:Nat}
theorem YW.next(h:YW hi M num den n num2 den2 n2 w bb tb vl vr ca cc Oa Oc k0 k1 T0 T1 z ob ub ul ur da dc Na Nc m0 m1 U0 U1 y W)(b:B W.heap.size W W'):YW hi M num den n num2 den2 n2 w bb tb vl vr ca cc Oa Oc k0 k1 T0 T1 z ob ub ul ur da dc Na Nc m0 m1 U0 U1 y W' :=⟨h.b.next b,h.o.next b,h.below.trans (b.mono h.below.size)⟩
end
theorem So{hi M num den n}(i:1<=M)(v:M<=4096)(hn:1<=n)(Y:n<=4096)(w bb tb vl vr ca cc Oa Oc)(k0 k1:AL)(T0 T1 z)(h:BW hi M num den n w bb tb vl vr ca cc Oa Oc k0 k1 T0 T1 z)(x)(hx:Am x)(AA:x<0)(c)(hc:1<=c)(hT:T0+z+T1+c<=9223372036854775807)(A:(CF hi M k0 (PU num den n (Sg.mag x).toNat) c).length<=M)(t:k0.length<=M):
  C prog 213 #[P (S ⟨bb,0,N⟩),I J x,I U c] w λe w' =>e=R (I J 0)/\FC hi M num den n w bb tb vl vr ca cc Oa Oc (CF hi M k0 (PU num den n (Sg.mag x).toNat) c) k1 (T0+c) T1 z w' :=by
 have D :=hx;unfold Am at D;have ho:=λW=>Sg.of_any x W D.1 D.2;obtain⟨m,hm⟩:∃m,m=(Sg.mag x).toNat:=⟨_,rfl⟩;have u:Sg.mag x=(m:Int):=by have:=Sg.mag_or x;omega
 have X:1<=m:=by have:=Sg.mag_or x;omega
 have p:m<=9223372036854775808:=by have:=Sg.mag_or x;omega
 have g:Sg.neg x=true:=by unfold Sg.neg;simp;omega
 rw[u,g]at ho;rw[<-hm]at A⊢;have f:=Zh (λW (b:B w.heap.size w W)=>ND W tb vl vr num den n (h.next b).tab hn Y m X p);have o:PU num den n m<4096:=fy (OK hn X) Y;generalize PU num den n m=ix at*;have O:=Fe w bb tb vl vr ca cc Oa Oc k0 k1 T0 T1 z h (by omega);obtain⟨T,q⟩:∃T,T=T0+z+T1:=⟨_,rfl⟩;rw[<-q]at O hT;have s:=Zh (λW b=>Az W b T c hT);have g1:((c:Int)==0)=false:=by simp;omega
 have Ac:=λW=>Sn tb W;have Z:=Zh (λW (b:B w.heap.size w W)=>Ai (h.next b));have Al:=λW=>YT hi ca W;have Ap:=λa W=>(NH hi a W).2.2.2;have G:=Zh (λW (b:B w.heap.size w W)=>YS i v W ca Oa k0 T0 (h.next b).s0 ix c o hc (by omega) A t);have Ab:=Zh (show∀W (b:B w.heap.size w W) W2,Bi hi M W ca Oa (CF hi M k0 ix c) (T0+c) W2->FC hi M num den n w bb tb vl vr ca cc Oa Oc (CF hi M k0 ix c) k1 (T0+c) T1 z W2 from λW b W2 r=>by
  obtain⟨Aa,p1,p2,p3⟩:=(h.next b).put0 r;exact⟨Aa,Oc,p1,λj hj=>(p2 j hj).imp id λe=>Pa b.size e,(AD.of_below (F:=DY bb tb vl vr Oa Oc) b).trans' p3 (λ_ _ h=>h) (λ_ _ h=>h)⟩)
 clear h hx D AA hm u X p g q hT hc A t o i v hn Y;go_enter func213,ntmps213;go_wp2_with fail;refine O.mono ?_;rintro e w1 ⟨rfl,b1⟩;have B1:=Zh b1;clear O b1;go_wp2_with fail;refine(s.out _ _ (by simp) (by simp)).mono ?_;rintro e w2 ⟨rfl,rfl⟩;have d:Hid (B w.heap.size w (w1.alloc (.cells #[I U T,I U c] 23))):=Zh (B1.out.alloc B1.out.size _);generalize w1.alloc (.cells #[I U T,I U c] 23)=w2 at d⊢;clear B1 s;go_wp2_with fail;refine(ho _).mono ?_;rintro e w3 ⟨rfl,rfl⟩;obtain⟨c0,c1,c2,c3,c4,c5,f3,f4,f5⟩:=Z.out _ d.out;have H:=f.out _ d.out;clear ho f c1 c2 c3 c4 f3 f4;go_wp2_with fail;refine H.mono ?_;rintro e w3 ⟨rfl,b3⟩;have B3:=Zh (d.out.trans (b3.mono d.out.size));obtain⟨c0,c1,c2,c3,c4,c5,f3,f4,f5⟩:=Z.out _ B3.out;have l:=G.out _ B3.out;clear H b3 d G c0 c1 c2 c5 f3 f4 f5 Z;go_wp2_with fail;refine l.mono ?_;rintro e w4 ⟨rfl,r4⟩;have HR:=Zh (Ab.out w3 B3.out w4 r4);clear l r4;go_wp2_with fail;go_ret;exact⟨rfl,HR.out⟩
theorem Qo{hi M num den n}(j:1<=M)(t:M<=4096)(hn:1<=n)(u:n<=4096)(w bb tb vl vr ca cc Oa Oc)(k0 k1:AL)(T0 T1 z)(h:BW hi M num den n w bb tb vl vr ca cc Oa Oc k0 k1 T0 T1 z)(x)(v:Am x)(p:x=0)(c)(hc:1<=c)(q:T0+z+T1+c<=9223372036854775807):
  C prog 213 #[P (S ⟨bb,0,N⟩),I J x,I U c] w λe w' =>e=R (I J 0)/\FC hi M num den n w bb tb vl vr ca cc Oa Oc k0 k1 T0 T1 (z+c) w' :=by
 have A :=v;unfold Am at A;have l:=λW=>Sg.of_any x W A.1 A.2;obtain⟨m,hm⟩:∃m,m=(Sg.mag x).toNat:=⟨_,rfl⟩;have f:Sg.mag x=(m:Int):=by have:=Sg.mag_or x;omega
 have r:m=0:=by have:=Sg.mag_or x;omega
 have s:m<=9223372036854775808:=by have:=Sg.mag_or x;omega
 have O:Sg.neg x=false:=by unfold Sg.neg;simp;omega
 rw[f,O]at l;subst r;have H:=Zh (λW (b:B w.heap.size w W)=>Si W tb);have F:=Fe w bb tb vl vr ca cc Oa Oc k0 k1 T0 T1 z h (by omega);obtain⟨T,X⟩:∃T,T=T0+z+T1:=⟨_,rfl⟩;rw[<-X]at F q;have Y:=Zh (λW b=>Az W b T c q);have g1:((c:Int)==0)=false:=by simp;omega
 have Aa:=λW=>Sn tb W;have g:=Zh (λW (b:B w.heap.size w W)=>Ai (h.next b));obtain⟨G,Z⟩:∃G,G=z+c:=⟨_,rfl⟩;have Ac:U.wrap ((z:Int)+(c:Int))=(G:Int):=by rw[aw];omega
 rw[<-Z];have i:=Zh (show∀W (b:B w.heap.size w W),FC hi M num den n w bb tb vl vr ca cc Oa Oc k0 k1 T0 T1 G (W.setCell ⟨bb,5,N⟩ (I U G))from λW b=>(FC.start h b).step λAb AA k=>k.rz G);clear h v A p hm f s O X q hc Z j t hn u;go_enter func213,ntmps213;go_wp2_with fail;refine F.mono ?_;rintro e w1 ⟨rfl,b1⟩;have o:=Zh b1;clear F b1;go_wp2_with fail;refine(Y.out _ _ (by simp) (by simp)).mono ?_;rintro e w2 ⟨rfl,rfl⟩;have d:Hid (B w.heap.size w (w1.alloc (.cells #[I U T,I U c] 23))):=Zh (o.out.alloc o.out.size _);generalize w1.alloc (.cells #[I U T,I U c] 23)=w2 at d⊢;clear o Y;go_wp2_with fail;refine(l _).mono ?_;rintro e w3 ⟨rfl,rfl⟩;obtain⟨c0,c1,c2,c3,c4,c5,f3,f4,f5⟩:=g.out _ d.out;have D:=H.out _ d.out;clear l H c1 c2 c3 c4 f3 f4;go_wp2_with fail;refine D.mono ?_;rintro e w3 ⟨rfl,b3⟩;subst b3;have HR:=Zh (i.out w2 d.out);clear D i g d;go_wp2_with fail;go_ret;exact⟨rfl,HR.out⟩
theorem Sr{hi M num den n}(i:1<=M)(v:M<=4096)(hn:1<=n)(Y:n<=4096)(w bb tb vl vr ca cc Oa Oc)(k0 k1:AL)(T0 T1 z)(h:BW hi M num den n w bb tb vl vr ca cc Oa Oc k0 k1 T0 T1 z)(x)(hx:Am x)(AA:0<x)(c)(hc:1<=c)(hT:T0+z+T1+c<=9223372036854775807)(A:(CF hi M k1 (PU num den n (Sg.mag x).toNat) c).length<=M)(t:k1.length<=M):
  C prog 213 #[P (S ⟨bb,0,N⟩),I J x,I U c] w λe w' =>e=R (I J 0)/\FC hi M num den n w bb tb vl vr ca cc Oa Oc k0 (CF hi M k1 (PU num den n (Sg.mag x).toNat) c) T0 (T1+c) z w' :=by
 have D :=hx;unfold Am at D;have ho:=λW=>Sg.of_any x W D.1 D.2;obtain⟨m,hm⟩:∃m,m=(Sg.mag x).toNat:=⟨_,rfl⟩;have u:Sg.mag x=(m:Int):=by have:=Sg.mag_or x;omega
 have X:1<=m:=by have:=Sg.mag_or x;omega
 have p:m<=9223372036854775808:=by have:=Sg.mag_or x;omega
 have g:Sg.neg x=false:=by unfold Sg.neg;simp;omega
 rw[u,g]at ho;rw[<-hm]at A⊢;have f:=Zh (λW (b:B w.heap.size w W)=>ND W tb vl vr num den n (h.next b).tab hn Y m X p);have o:PU num den n m<4096:=fy (OK hn X) Y;generalize PU num den n m=ix at*;have O:=Fe w bb tb vl vr ca cc Oa Oc k0 k1 T0 T1 z h (by omega);obtain⟨T,q⟩:∃T,T=T0+z+T1:=⟨_,rfl⟩;rw[<-q]at O hT;have s:=Zh (λW b=>Az W b T c hT);have g1:((c:Int)==0)=false:=by simp;omega
 have Ac:=λW=>Sn tb W;have Z:=Zh (λW (b:B w.heap.size w W)=>Ai (h.next b));have Al:=λW=>YT hi cc W;have Ap:=λa W=>(NH hi a W).2.2.2;have G:=Zh (λW (b:B w.heap.size w W)=>YS i v W cc Oc k1 T1 (h.next b).s1 ix c o hc (by omega) A t);have Ab:=Zh (show∀W (b:B w.heap.size w W) W2,Bi hi M W cc Oc (CF hi M k1 ix c) (T1+c) W2->FC hi M num den n w bb tb vl vr ca cc Oa Oc k0 (CF hi M k1 ix c) T0 (T1+c) z W2 from λW b W2 r=>by
  obtain⟨Aa,p1,p2,p3⟩:=(h.next b).put1 r;exact⟨Oa,Aa,p1,λj hj=>(p2 j hj).imp id λe=>Pa b.size e,(AD.of_below (F:=DY bb tb vl vr Oa Oc) b).trans' p3 (λ_ _ h=>h) (λ_ _ h=>h)⟩)
 clear h hx D AA hm u X p g q hT hc A t o i v hn Y;go_enter func213,ntmps213;go_wp2_with fail;refine O.mono ?_;rintro e w1 ⟨rfl,b1⟩;have B1:=Zh b1;clear O b1;go_wp2_with fail;refine(s.out _ _ (by simp) (by simp)).mono ?_;rintro e w2 ⟨rfl,rfl⟩;have d:Hid (B w.heap.size w (w1.alloc (.cells #[I U T,I U c] 23))):=Zh (B1.out.alloc B1.out.size _);generalize w1.alloc (.cells #[I U T,I U c] 23)=w2 at d⊢;clear B1 s;go_wp2_with fail;refine(ho _).mono ?_;rintro e w3 ⟨rfl,rfl⟩;obtain⟨c0,c1,c2,c3,c4,c5,f3,f4,f5⟩:=Z.out _ d.out;have H:=f.out _ d.out;clear ho f c1 c2 c3 c4 f3 f4;go_wp2_with fail;refine H.mono ?_;rintro e w3 ⟨rfl,b3⟩;have B3:=Zh (d.out.trans (b3.mono d.out.size));obtain⟨c0,c1,c2,c3,c4,c5,f3,f4,f5⟩:=Z.out _ B3.out;have l:=G.out _ B3.out;clear H b3 d G c0 c1 c2 c5 f3 f4 f5 Z;go_wp2_with fail;refine l.mono ?_;rintro e w4 ⟨rfl,r4⟩;have HR:=Zh (Ab.out w3 B3.out w4 r4);clear l r4;go_wp2_with fail;go_ret;exact⟨rfl,HR.out⟩
theorem Qp(w bb x):
  C prog 213 #[P (S ⟨bb,0,N⟩),I J x,I U 0] w λe w' =>e=R (I J 1)/\w=w' :=by
 go_enter func213,ntmps213;go_wp2_with fail;go_ret;exact⟨rfl,rfl⟩
theorem YX{hi M num den n num2 den2 n2}(Y:1<=M)(m:M<=4096)(w bb tb vl vr ca cc Oa Oc)(k0 k1:AL)(T0 T1 z)(h:BW hi M num den n w bb tb vl vr ca cc Oa Oc k0 k1 T0 T1 z)
  (ob ub ul ur da dc Na Nc)(m0 m1:AL)(U0 U1 y)(g:BW hi M num2 den2 n2 w ob ub ul ur da dc Na Nc m0 m1 U0 U1 y)(X:∀j,DY bb tb vl vr Oa Oc j->¬DY ob ub ul ur Na Nc j)(hT:T0+z+T1+(U0+y+U1)<=9223372036854775807)
  (x:∀q,(BE hi M k0 (m0.take q)).length<=M)(Ar:∀q,(BE hi M k1 (m1.take q)).length<=M)(Ay:m0.length<=4096)(A2:m1.length<=4096):
  Calls prog 229 #[.pointer (S ⟨bb,0,N⟩),.pointer (S ⟨ob,0,N⟩)] w λe w' =>e=R (I J 0)/\FC hi M num den n w bb tb vl vr ca cc Oa Oc (BE hi M k0 m0) (BE hi M k1 m1) (T0+U0) (T1+U1) (z+y) w' :=by
 have Ap:=ao w bb tb vl vr ca cc Oa Oc k0 k1 T0 T1 z h ob ub ul ur da dc Na Nc m0 m1 U0 U1 y g;have H0:YW hi M num den n num2 den2 n2 w bb tb vl vr ca cc Oa Oc k0 k1 T0 T1 z ob ub ul ur da dc Na Nc m0 m1 U0 U1 y w:=⟨h,g,B.refl _ _⟩;have O:=Zh (λW (k:YW hi M num den n num2 den2 n2 w bb tb vl vr ca cc Oa Oc k0 k1 T0 T1 z ob ub ul ur da dc Na Nc m0 m1 U0 U1 y W)=>Fe W bb tb vl vr ca cc Oa Oc k0 k1 T0 T1 z k.b (by omega));have F:=Zh (λW (k:YW hi M num den n num2 den2 n2 w bb tb vl vr ca cc Oa Oc k0 k1 T0 T1 z ob ub ul ur da dc Na Nc m0 m1 U0 U1 y W)=>Fe W ob ub ul ur da dc Na Nc m0 m1 U0 U1 y k.o (by omega));obtain⟨T,AA⟩:∃T,T=T0+z+T1:=⟨_,rfl⟩;obtain⟨A,Aw⟩:∃A,A=U0+y+U1:=⟨_,rfl⟩;rw[<-AA]at O hT;rw[<-Aw]at F hT;have Aa:=Zh (λW b=>Az W b T A hT);obtain⟨u,Al⟩:∃u,u=z+y:=⟨_,rfl⟩;have A9:U.wrap ((z:Int)+(y:Int))=(u:Int):=by rw[aw];omega
 obtain⟨k2,f⟩:∃k2,k2=BE hi M k0 m0:=⟨_,rfl⟩;obtain⟨k3,Z⟩:∃k3,k3=BE hi M k1 m1:=⟨_,rfl⟩;obtain⟨A0,hA0⟩:∃A0,A0=T0+U0:=⟨_,rfl⟩;obtain⟨A1,hA1⟩:∃A1,A1=T1+U1:=⟨_,rfl⟩;rw[<-Al,<-f,<-Z,<-hA0,<-hA1];have G:=Zh (show∀W,YW hi M num den n num2 den2 n2 w bb tb vl vr ca cc Oa Oc k0 k1 T0 T1 z ob ub ul ur da dc Na Nc m0 m1 U0 U1 y W->Calls prog 232 #[.iface (PT hi) (.pointer (S ⟨ca,0,N⟩)),.iface (PT hi) (.pointer (S ⟨da,0,N⟩))] W λe w' =>e=R (.tuple #[])/\∃D,BW hi M num den n w' bb tb vl vr ca cc D Oc k2 k1 A0 T1 z/\BW hi M num2 den2 n2 w' ob ub ul ur da dc Na Nc m0 m1 U0 U1 y/\BV W (DY bb tb vl vr Oa Oc) (DY bb tb vl vr D Oc)/\AD (DY bb tb vl vr Oa Oc) W w' from λW k=>by
  refine(Qn W ca da (λe w' =>Bi hi M W ca Oa (BE hi M k0 m0) (T0+U0) w') ((Qk Y m W ca da Oa Na k0 m0 T0 U0 k.b.s0 k.o.s0 (by omega) x Ay).mono λe w' hh=>⟨⟨_,hh.1⟩,hh.2⟩)).mono λe w' hh=> ?_;obtain⟨he,_,r⟩:=hh;rw[<-f,<-hA0]at r;obtain⟨D,p1,p2,v⟩:=k.b.put0 r;exact⟨he,D,p1,k.o.away v λj d hb=>X j hb d,p2,v⟩)
 have H:=Zh (show∀W D,BW hi M num den n W bb tb vl vr ca cc D Oc k2 k1 A0 T1 z->BW hi M num2 den2 n2 W ob ub ul ur da dc Na Nc m0 m1 U0 U1 y->(∀j,DY bb tb vl vr D Oc j->¬DY ob ub ul ur Na Nc j)->Calls prog 232 #[.iface (PT hi) (.pointer (S ⟨cc,0,N⟩)),.iface (PT hi) (.pointer (S ⟨dc,0,N⟩))] W λe w' =>e=R (.tuple #[])/\∃t,BW hi M num den n w' bb tb vl vr ca cc D t k2 k3 A0 A1 z/\BW hi M num2 den2 n2 w' ob ub ul ur da dc Na Nc m0 m1 U0 U1 y/\BV W (DY bb tb vl vr D Oc) (DY bb tb vl vr D t)/\AD (DY bb tb vl vr D Oc) W w' from λW D kb ko A7=>by
  refine(Qn W cc dc (λe w' =>Bi hi M W cc Oc (BE hi M k1 m1) (T1+U1) w') ((Qk Y m W cc dc Oc Nc k1 m1 T1 U1 kb.s1 ko.s1 (by omega) Ar A2).mono λe w' hh=>⟨⟨_,hh.1⟩,hh.2⟩)).mono λe w' hh=> ?_;obtain⟨he,_,r⟩:=hh;rw[<-Z,<-hA1]at r;obtain⟨t,p1,p2,v⟩:=kb.put1 r;exact⟨he,t,p1,ko.away v λj d hb=>A7 j hb d,p2,v⟩)
 have l:=Zh X;have HG:=Zh (Zi h g);clear h g X hT x Ar Ay A2 AA Aw Al f Z hA0 hA1 Y m;go_enter func229,ntmps229;go_wp2_with fail;refine Ap.mono ?_;rintro e w1 ⟨rfl,b1⟩;have H1:=H0.next b1;have t1:=O.out w1 H1;have H1:=Zh H1;clear Ap b1 H0 O;go_wp2_with fail;refine t1.mono ?_;rintro e w2 ⟨rfl,b2⟩;have H2:=H1.out.next b2;have t2:=F.out w2 H2;have H2:=Zh H2;clear t1 b2 H1 F;go_wp2_with fail;refine t2.mono ?_;rintro e w3 ⟨rfl,b3⟩;have H3:=H2.out.next b3;have H4:Hid (YW hi M num den n num2 den2 n2 w bb tb vl vr ca cc Oa Oc k0 k1 T0 T1 z ob ub ul ur da dc Na Nc m0 m1 U0 U1 y (w3.alloc (.cells #[I U T,I U A] 23))):=Zh (H3.next (Za));clear t2 b3 H2 H3;go_wp2_with fail;refine(Aa.out _ _ (by simp) (by simp)).mono ?_;rintro e w4 ⟨rfl,rfl⟩;generalize w3.alloc (.cells #[I U T,I U A] 23)=w4 at H4⊢;clear Aa;go_upto_region 8 with fail;refine AS 8 (C:=YW hi M num den n num2 den2 n2 w bb tb vl vr ca cc Oa Oc k0 k1 T0 T1 z ob ub ul ur da dc Na Nc m0 m1 U0 U1 y) (by kernel_rfl) (by kernel_rfl) (H4.out.next (B.refl _ _).drew) ?_;simp only[bh,V0,bw,dT];repeat go_big_quiet_step(exact λ_=>rfl)
 go_big_quiet_want;refine⟨.iface (PT hi) (.pointer (S ⟨ca,0,N⟩)),λwx c=> ?_,?_⟩
 ·obtain⟨c0,c1,c2,c3,c4,c5,f3,f4,f5⟩:=Ai c.b;go_simp
 go_big_quiet_on;simp only[Jx,Zp,Zq,Zr];repeat go_big_quiet_step(exact λ_=>rfl)
 go_big_quiet_want;refine⟨.iface (PT hi) (.pointer (S ⟨da,0,N⟩)),λwx c=> ?_,?_⟩
 ·obtain⟨c0,c1,c2,c3,c4,c5,f3,f4,f5⟩:=Ai c.o;go_simp
 go_big_quiet_on;simp only[Jx,Zp,Zq,Zr];repeat go_big_quiet_step(exact λ_=>rfl)
 refine wpQuiet_nil ?_;intro w5 s;have t5:=G.out w5 s;have s:=Zh s;clear G H4;go_wp2_with fail;refine t5.mono ?_;rintro e w6 ⟨rfl,D,p6,o6,s6,a6⟩;obtain⟨p,A3⟩:=EB (Ec (P:=DY bb tb vl vr Oa Oc) s.out.below).1 (Ec s.out.below).2 s6 a6;have Ax:=dN l.out p (λj d=>HG.out.2.lt j d);have H6:YW hi M num den n num2 den2 n2 w6 bb tb vl vr ca cc D Oc k2 k1 A0 T1 z ob ub ul ur da dc Na Nc m0 m1 U0 U1 y w6:=⟨p6,o6,B.refl _ _⟩;have K6:=Zh (Zi p (Zi A3 Ax));clear t5 p6 o6 s6 a6 p A3 Ax s;go_upto_region 9 with fail;refine AS 8 (C:=YW hi M num den n num2 den2 n2 w6 bb tb vl vr ca cc D Oc k2 k1 A0 T1 z ob ub ul ur da dc Na Nc m0 m1 U0 U1 y) (by kernel_rfl) (by kernel_rfl) (H6.next (B.refl _ _).drew) ?_;simp only[bh,V0,bw,dT];repeat go_big_quiet_step(exact λ_=>rfl)
 go_big_quiet_want;refine⟨.iface (PT hi) (.pointer (S ⟨cc,0,N⟩)),λwx c=> ?_,?_⟩
 ·obtain⟨c0,c1,c2,c3,c4,c5,f3,f4,f5⟩:=Ai c.b;go_simp
 go_big_quiet_on;simp only[Jx,Zp,Zq,Zr];repeat go_big_quiet_step(exact λ_=>rfl)
 go_big_quiet_want;refine⟨.iface (PT hi) (.pointer (S ⟨dc,0,N⟩)),λwx c=> ?_,?_⟩
 ·obtain⟨c0,c1,c2,c3,c4,c5,f3,f4,f5⟩:=Ai c.o;go_simp
 go_big_quiet_on;simp only[Jx,Zp,Zq,Zr];repeat go_big_quiet_step(exact λ_=>rfl)
 refine wpQuiet_nil ?_;intro w7 i;have t7:=H.out w7 D i.b i.o K6.out.2.2;have i:=Zh i;clear H H6;go_wp2_with fail;refine t7.mono ?_;rintro e w8 ⟨rfl,t,p8,o8,s8,a8⟩;obtain⟨A5,Av⟩:=EB K6.out.1 K6.out.2.1 (Ec (P:=DY bb tb vl vr D Oc) i.out.below).1 (Ec i.out.below).2;obtain⟨Ac,Ab⟩:=EB A5 Av s8 a8;obtain⟨c0,c1,c2,c3,c4,c5,f3,f4,f5⟩:=Ai p8;obtain⟨_,_,_,_,_,d5,_,_,_⟩:=Ai o8;have A8:bb≠ob:=λe=>l.out bb (.inl rfl) (.inl e);obtain⟨p9,a9⟩:=p8.zero u;obtain⟨A6,A4⟩:=EB Ac Ab (λj d=>.inl d) a9;have HR:=Zh (show FC hi M num den n w bb tb vl vr ca cc Oa Oc k2 k3 A0 A1 u (w8.setCell ⟨bb,5,N⟩ (I U u)).drew from FC.next ⟨D,t,p9,A6,A4⟩ (B.refl _ _).drew);clear t7 p8 o8 s8 a8 A5 Av Ac Ab p9 a9 A6 A4 i K6 c0 c1 c2 c3 c4 f3 f4 l HG;go_upto_region 10 with fail;rename_i KK;go_region_with fail;all_goals(
  refine KK _ _ ?_;go_wp2_with fail;go_ret;exact⟨rfl,HR.out⟩)
def fd(hi:Bool)(M num den bb:Nat)(lo hh:Int):Array Value:= #[P (S ⟨bb,0,N⟩),I U num,I U den,I J (Dq hi),I J M,I J lo,I J hh]
structure Bm(hi:Bool)(M num den n:Nat)(w:W)(lg bb tb:Nat)(vl vr:V)(ca cc:Nat)(Oa Oc:Nat->Prop)(k0 k1:AL)(T0 T1 z:Nat)(lo hh:Int):Prop where
 blk:AI w lg (fd hi M num den bb lo hh) 170
 bn:BW hi M num den n w bb tb vl vr ca cc Oa Oc k0 k1 T0 T1 z
def Dm(lg bb tb:Nat)(vl vr:V)(Oa Oc:Nat->Prop)(j:Nat):Prop:=j=lg\/DY bb tb vl vr Oa Oc j
section
variable {hi:Bool} {M num den n:Nat} {w w' W:World} {lg bb tb:Nat} {vl vr:V} {ca cc:Nat} {Oa Oc:Nat->Prop} {k0 k1 a0 a1:AL} {T0 T1 z A0 A1 y:Nat} {lo hh lo2 hh2:Int}
theorem Bm.next(h:Bm hi M num den n w lg bb tb vl vr ca cc Oa Oc k0 k1 T0 T1 z lo hh)(b:B w.heap.size w w'):Bm hi M num den n w' lg bb tb vl vr ca cc Oa Oc k0 k1 T0 T1 z lo hh:=⟨h.blk.below b h.blk.lt,h.bn.next b⟩
theorem Bm.away{G}(h:Bm hi M num den n w lg bb tb vl vr ca cc Oa Oc k0 k1 T0 T1 z lo hh)(a:AD G w w')(k:∀j,Dm lg bb tb vl vr Oa Oc j->¬G j):Bm hi M num den n w' lg bb tb vl vr ca cc Oa Oc k0 k1 T0 T1 z lo hh:=⟨h.blk.away a (k _ (.inl rfl)),h.bn.away a λj A=>k _ (.inr A)⟩
theorem Bm.lt(h:Bm hi M num den n w lg bb tb vl vr ca cc Oa Oc k0 k1 T0 T1 z lo hh):∀j,Dm lg bb tb vl vr Oa Oc j->j<w.heap.size:=by
 rintro j (rfl|e)
 ·exact h.blk.lt
 ·exact h.bn.lt j e
theorem Bm.ty(h:Bm hi M num den n w lg bb tb vl vr ca cc Oa Oc k0 k1 T0 T1 z lo hh):∀j,Dm lg bb tb vl vr Oa Oc j->∃A t,AI w j A t/\(t=170\/t=220\/t=210\/t=23\/t=CT hi\/t=115\/t=228):=by
 rintro j (rfl|e)
 ·exact⟨_,_,h.blk,.inl rfl⟩
 ·obtain⟨A,t,F,D⟩:=h.bn.ty j e;exact⟨A,t,F,.inr D⟩
theorem Bm.not(h:Bm hi M num den n w lg bb tb vl vr ca cc Oa Oc k0 k1 T0 T1 z lo hh):¬DY bb tb vl vr Oa Oc lg:=λD=>by
 obtain⟨G,t,A,F⟩:=h.bn.ty lg D
 refine(h.blk.ne A ?_) rfl
 rcases F with e|e|e|e|e|e<;>subst e<;>cases hi<;>decide
theorem Bm.cells(h:Bm hi M num den n w lg bb tb vl vr ca cc Oa Oc k0 k1 T0 T1 z lo hh):w.cell? ⟨lg,0,N⟩=S (P (S ⟨bb,0,N⟩))/\w.cell? ⟨lg,1,N⟩=S (I U num)/\w.cell? ⟨lg,2,N⟩=S (I U den)/\w.cell? ⟨lg,3,N⟩=S (I J (Dq hi))/\w.cell? ⟨lg,4,N⟩=S (I J M)/\w.cell? ⟨lg,5,N⟩=S (I J lo)/\w.cell? ⟨lg,6,N⟩=S (I J hh)/\w.frozen? ⟨lg,5,N⟩=false/\w.frozen? ⟨lg,6,N⟩=false:=
 ⟨h.blk.cell rfl,h.blk.cell rfl,h.blk.cell rfl,h.blk.cell rfl,h.blk.cell rfl,h.blk.cell rfl,h.blk.cell rfl,h.blk.frozen 5,h.blk.frozen 6⟩
theorem Bm.ends(h:Bm hi M num den n w lg bb tb vl vr ca cc Oa Oc k0 k1 T0 T1 z lo hh)(a b):Bm hi M num den n ((w.setCell ⟨lg,5,N⟩ (I J a)).setCell ⟨lg,6,N⟩ (I J b)) lg bb tb vl vr ca cc Oa Oc k0 k1 T0 T1 z a b/\AD (λk=>k=lg) w ((w.setCell ⟨lg,5,N⟩ (I J a)).setCell ⟨lg,6,N⟩ (I J b)):=by
 have A:AD (λk=>k=lg) w ((w.setCell ⟨lg,5,N⟩ (I J a)).setCell ⟨lg,6,N⟩ (I J b)):=AD.setCell (AD.setCell (AD.refl (λk=>k=lg) w) ⟨lg,5,N⟩ _ (.inl rfl)) ⟨lg,6,N⟩ _ (.inl rfl);exact⟨⟨(h.blk.set 5 _).set 6 _,h.bn.away A λj D e=>h.not (e▸D)⟩,A⟩
theorem Bm.bins(h:Bm hi M num den n w lg bb tb vl vr ca cc Oa Oc k0 k1 T0 T1 z lo hh)(r:FC hi M num den n w bb tb vl vr ca cc Oa Oc a0 a1 A0 A1 y W):∃D A,Bm hi M num den n W lg bb tb vl vr ca cc D A a0 a1 A0 A1 y lo hh/\BV w (Dm lg bb tb vl vr Oa Oc) (Dm lg bb tb vl vr D A)/\AD (Dm lg bb tb vl vr Oa Oc) w W:=by
 obtain⟨D,A,G,O,F⟩:=r;refine⟨D,A,⟨h.blk.away F h.not,G⟩,?_,F.mono λj _ H=>.inr H⟩;rintro j (e|e)
 ·exact .inl (.inl e)
 ·exact(O j e).imp .inr id
end
theorem BB{hi M num den n w lg bb tb vl vr ca cc Oa Oc}{k0 k1:AL}{T0 T1 z lo hh}(h:Bm hi M num den n w lg bb tb vl vr ca cc Oa Oc k0 k1 T0 T1 z lo hh):w.cell? ⟨lg,0,N⟩=S (P (S ⟨bb,0,N⟩))/\w.cell? ⟨lg,1,N⟩=S (I U num)/\w.cell? ⟨lg,2,N⟩=S (I U den)/\w.cell? ⟨lg,3,N⟩=S (I J (Dq hi))/\w.cell? ⟨lg,4,N⟩=S (I J M)/\w.cell? ⟨lg,5,N⟩=S (I J lo)/\w.cell? ⟨lg,6,N⟩=S (I J hh)/\w.frozen? ⟨lg,5,N⟩=false/\w.frozen? ⟨lg,6,N⟩=false:=h.cells
theorem UE{hi M num den n}(w lg bb tb vl vr ca cc Oa Oc)(k0 k1:AL)(T0 T1 z lo hh)(h:Bm hi M num den n w lg bb tb vl vr ca cc Oa Oc k0 k1 T0 T1 z lo hh):
  C prog 75 #[P (S ⟨lg,0,N⟩)] w λe w' =>e=R (P (S ⟨bb,0,N⟩))/\w=w' :=by
 obtain⟨Y,Z,A,F,X,G,O,D,H⟩:=BB h;clear h;go_enter func75,ntmps75;go_wp2_with fail;go_ret;exact⟨rfl,rfl⟩
theorem VN{hi M num den n}(w lg bb tb vl vr ca cc Oa Oc)(k0 k1:AL)(T0 T1 z lo hh)(h:Bm hi M num den n w lg bb tb vl vr ca cc Oa Oc k0 k1 T0 T1 z lo hh):
  C prog 223 #[P (S ⟨lg,0,N⟩)] w λe w' =>B w.heap.size w w' /\e=R (.agg #[I U num,I U den,I J (Dq hi),I J M]):=by
 obtain⟨Z,b,D,G,Y,H,X,F,O⟩:=BB h;have A:=h.blk.lt;clear h;go_enter func223,ntmps223;go_wp2_with fail;refine bodyPost_ret (v:=.agg #[I U num,I U den,I J (Dq hi),I J M]) (by simp[results,results223,go_sem]) rfl ?_;exact⟨(B.refl _ w).alloc (E _) _,rfl⟩
theorem Oh{hi M num den n}(w lg bb tb vl vr ca cc Oa Oc)(k0 k1:AL)(T0 T1 z lo hh)(h:Bm hi M num den n w lg bb tb vl vr ca cc Oa Oc k0 k1 T0 T1 z lo hh)(r:T0+z+T1<=9223372036854775807)(a b):
  C prog 212 #[P (S ⟨lg,0,N⟩),I J a,I J b] w λe w' =>e=R (.tuple #[])/\Bm hi M num den n w' lg bb tb vl vr ca cc Oa Oc k0 k1 T0 T1 z (JU (T0+z+T1) lo a) (JV (T0+z+T1) hh b)/\AD (λk=>k=lg) w w' :=by
 have c:=Fe w bb tb vl vr ca cc Oa Oc k0 k1 T0 T1 z h.bn r;obtain⟨t,g,i,l,q,m,p,j,o⟩:=BB h;have D:=Zh (show∀(W:World) (Y X :Int),B w.heap.size w W->Bm hi M num den n ((W.setCell ⟨lg,5,N⟩ (I J Y)).setCell ⟨lg,6,N⟩ (I J X)) lg bb tb vl vr ca cc Oa Oc k0 k1 T0 T1 z Y X /\AD (λk=>k=lg) w ((W.setCell ⟨lg,5,N⟩ (I J Y)).setCell ⟨lg,6,N⟩ (I J X))from λW Y X H=>by
  obtain⟨x,u⟩:=(h.next H).ends Y X;exact⟨x,(AD.of_below (F:=λk=>k=lg) H).trans' u (λ_ _ h=>h) (λ_ _ h=>h)⟩)
 have s:=Zh h;obtain⟨T,O⟩:∃T,T=T0+z+T1:=⟨_,rfl⟩;rw[<-O]at c⊢;clear h r O g i l q m p j o;by_cases A:T=0
 ·have g1:((T:Int)==0)=true:=by simp[A]
  have v:(T==0)=true:=by simp[A]
  have d:JU T lo a=a:=by unfold JU;rw[if_pos A]
  have Z:JV T hh b=b:=by unfold JV;rw[if_pos A]
  rw[d,Z];clear A d Z;go_enter func212,ntmps212;go_wp2_with fail;refine c.mono ?_;rintro e f ⟨rfl,G⟩;obtain⟨t,g,i,l,q,m,p,j,o⟩:=BB (s.out.next G);have hF:=Zh (D.out f a b G);clear G D c;go_wp2_with fail;refine bodyPost_ret (results_none rfl _ _ _) rfl ?_;exact⟨rfl,hF.out⟩
 ·have g1:((T:Int)==0)=false:=by simp[A]
  have v:(T==0)=false:=by simp[A]
  have d:JU T lo a=min lo a:=by unfold JU;rw[if_neg A]
  have Z:JV T hh b=max hh b:=by unfold JV;rw[if_neg A]
  rw[d,Z];clear A d Z;go_enter func212,ntmps212;go_wp2_with fail;refine c.mono ?_;rintro e f ⟨rfl,G⟩;obtain⟨t,g,i,l,q,m,p,j,o⟩:=BB (s.out.next G);have hF:=Zh (D.out f.drew (min lo a) (max hh b) G.drew);clear G D c;go_upto_region 2 with fail;go_region;all_goals(try go_wp2)
  all_goals go_end0
  all_goals exact⟨rfl,hF.out⟩
theorem YY{hi M num den n}(w lg bb tb vl vr ca cc Oa Oc)(k0 k1:AL)(T0 T1 z lo hh)(h:Bm hi M num den n w lg bb tb vl vr ca cc Oa Oc k0 k1 T0 T1 z lo hh)(X:T0+z+T1<=9223372036854775807)(G:T0+z+T1=0->lo=0/\hh=0):
  C prog 208 #[P (S ⟨lg,0,N⟩)] w λe w' =>e=R (.tuple #[I J lo,I J hh,.bool (T0+z+T1 !=0)])/\B w.heap.size w w' :=by
 have F:=Fe w bb tb vl vr ca cc Oa Oc k0 k1 T0 T1 z h.bn X;obtain⟨o,Y,b,d,j,f,i,c,g⟩:=BB h;have m:=Zh h;obtain⟨T,D⟩:∃T,T=T0+z+T1:=⟨_,rfl⟩;rw[<-D]at F G⊢;clear h X D Y b d j f i c g;by_cases Z:T=0
 ·obtain⟨rfl,rfl⟩:=G Z;subst Z;clear G;go_enter func208,ntmps208;go_wp2_with fail;refine F.mono ?_;rintro e l ⟨rfl,A⟩;have H:=Zh A;clear A F;go_wp2_with fail;go_ret3;exact⟨rfl,H.out⟩
 ·have p:((T:Int)==0)=false:=by simp;omega
  have O:(T !=0)=true:=by simp;omega
  have q:(T==0)=false:=by simp;omega
  rw[O];clear G O;go_enter func208,ntmps208;go_wp2_with fail;refine F.mono ?_;rintro e l ⟨rfl,A⟩;obtain⟨o,Y,b,d,j,f,i,c,g⟩:=BB (m.out.next A);have H:=Zh A;clear A F;go_wp2_with fail;go_quiet(fail);go_wp2_with fail;go_ret3;exact⟨rfl,below_drewN H.out _⟩
theorem Ss{hi:Bool}{M num den n:Nat}(w)(lg bb tb:Nat)(vl vr)(ca cc:Nat)(Oa Oc)(k0 k1:AL)(T0 T1 z:Nat)(lo hh:Int)(h:Bm hi M num den n w lg bb tb vl vr ca cc Oa Oc k0 k1 T0 T1 z lo hh)(r:T0+z+T1<=9223372036854775807)(x:Int)(c:Nat)(a0 a1:AL)(A0 A1 y:Nat)
  (v:∀W,BW hi M num den n W bb tb vl vr ca cc Oa Oc k0 k1 T0 T1 z->C prog 213 #[P (S ⟨bb,0,N⟩),I J x,I U c] W λe w' =>e=R (I J 0)/\FC hi M num den n W bb tb vl vr ca cc Oa Oc a0 a1 A0 A1 y w'):
  C prog 209 #[P (S ⟨lg,0,N⟩),I J x,I U c] w λe w' =>e=R (I J 0)/\∃G H,Bm hi M num den n w' lg bb tb vl vr ca cc G H a0 a1 A0 A1 y (JU (T0+z+T1) lo x) (JV (T0+z+T1) hh x)/\BV w (Dm lg bb tb vl vr Oa Oc) (Dm lg bb tb vl vr G H)/\AD (Dm lg bb tb vl vr Oa Oc) w w' :=by
 obtain⟨c0,d,f,i,q,l,p,g,m⟩:=BB h;have Z:=Zh (λO=>Oh (w.drewN O) lg bb tb vl vr ca cc Oa Oc k0 k1 T0 T1 z lo hh (h.next (below_drewN (B.refl _ _) O)) r x x);have b:=Zh (show∀O,B w.heap.size w (w.drewN O)from λO=>below_drewN (B.refl _ _) O);have s:=Zh v;clear h v r c0 d f i q g m;go_enter func209,ntmps209;go_upto_region 3 with fail;go_quiet(fail);rename_i nq;have A:=Z.out nq;clear Z l p;go_wp2_with fail;refine A.mono ?_;rintro e w1 ⟨rfl,X,Y⟩;obtain⟨c0,d,f,i,q,l,p,g,m⟩:=BB X;have D:=s.out w1 X.bn;have t:=Zh (Zi X ((AD.of_below (F:=λk=>k=lg) (b.out nq)).trans' Y (λ_ _ h=>h) (λ_ _ h=>h)));clear A X Y b s d f i q l p g m;go_wp2_with fail;refine D.mono ?_;rintro e w2 ⟨rfl,u⟩;have HR:=Zh (show∃G H,Bm hi M num den n w2 lg bb tb vl vr ca cc G H a0 a1 A0 A1 y (JU (T0+z+T1) lo x) (JV (T0+z+T1) hh x)/\BV w (Dm lg bb tb vl vr Oa Oc) (Dm lg bb tb vl vr G H)/\AD (Dm lg bb tb vl vr Oa Oc) w w2 from by
  obtain⟨X,o⟩:=t.out;obtain⟨G,H,p1,p2,p3⟩:=X.bins u;exact⟨G,H,p1,EB (λj hj=>.inl hj) (o.mono λj _ e=>.inl e) p2 p3⟩)
 clear D u t;go_wp2_with fail;go_ret;exact⟨rfl,HR.out⟩
theorem Qq{hi M num den n}(w lg bb tb vl vr ca cc Oa Oc)(k0 k1:AL)(T0 T1 z lo hh)(h:Bm hi M num den n w lg bb tb vl vr ca cc Oa Oc k0 k1 T0 T1 z lo hh)(g:T0+z+T1<=9223372036854775807)(x):
  C prog 209 #[P (S ⟨lg,0,N⟩),I J x,I U 0] w λe w' =>e=R (I J 1)/\Bm hi M num den n w' lg bb tb vl vr ca cc Oa Oc k0 k1 T0 T1 z lo hh/\AD (λk=>k=lg) w w' :=by
 obtain⟨o,Y,Z,b,d,j,m,i,l⟩:=BB h;have O:=Zh (λG=>Oh (w.drewN G) lg bb tb vl vr ca cc Oa Oc k0 k1 T0 T1 z lo hh (h.next (below_drewN (B.refl _ _) G)) g x x);have X:=Zh (show∀G,B w.heap.size w (w.drewN G)from λG=>below_drewN (B.refl _ _) G);have D:=λW=>Qp W bb x;clear h g o Y Z b d i l;go_enter func209,ntmps209;go_upto_region 3 with fail;go_quiet(fail);rename_i nq;have A:=O.out nq;clear O j m;go_wp2_with fail;refine A.mono ?_;rintro e f ⟨rfl,c,H⟩;obtain⟨o,Y,Z,b,d,j,m,i,l⟩:=BB c;have q:=Zh (show Bm hi M num den n ((f.setCell ⟨lg,5,N⟩ (I J lo)).setCell ⟨lg,6,N⟩ (I J hh)) lg bb tb vl vr ca cc Oa Oc k0 k1 T0 T1 z lo hh/\AD (λk=>k=lg) w ((f.setCell ⟨lg,5,N⟩ (I J lo)).setCell ⟨lg,6,N⟩ (I J hh))from by
  obtain⟨r,p⟩:=c.ends lo hh;exact⟨r,((AD.of_below (F:=λk=>k=lg) (X.out nq)).trans' H (λ_ _ h=>h) (λ_ _ h=>h)).trans' p (λ_ _ h=>h) (λ_ _ h=>h)⟩)
 clear A c H X Y Z b d;go_wp2_with fail;refine(D _).mono ?_;rintro e s ⟨rfl,rfl⟩;clear D;go_wp2_with fail;go_ret;exact⟨rfl,q.out⟩
def fN(hi:Bool)(M num den:Nat)(w:W)(e:Ending)(w' :W):Prop:=∃(po:Option Addr) (code:Int),e=R (T #[P po,I J code])/\B w.heap.size w w' /\
 (code=0->∃n lg bb tb vl vr ca cc Oa Oc,po=S ⟨lg,0,N⟩/\IS num den n/\Bm hi M num den n w' lg bb tb vl vr ca cc Oa Oc [] [] 0 0 0 0 0/\∀j,Dm lg bb tb vl vr Oa Oc j->w.heap.size<=j)/\((∃n,IS num den n)->code=0)
theorem VO(w tb s M)(h:s≠0/\s≠1):
  C prog 64 #[.iface 163 (P (S ⟨tb,0,N⟩)),I J s,I J M] w λe w' =>e=R (T #[P N,I J 1])/\w=w' :=by
 obtain⟨D,A⟩:=h;have F:(s !=0)=true:=by simp[D]
 have G:(s !=1)=true:=by simp[A]
 clear D A;go_enter func64,ntmps64;go_wp2_with fail;go_ret2;exact⟨rfl,rfl⟩
structure UF(hi:Bool)(M num den n n2:Nat)(w:World)(lg bb tb:Nat)(vl vr:V)(ca cc:Nat)(Oa Oc:Nat->Prop)(k0 k1:AL)(T0 T1 z:Nat)(lo hh:Int)(og ob ub:Nat)(ul ur:V)(da dc:Nat)(Na Nc:Nat->Prop)(m0 m1:AL)(U0 U1 y:Nat)(lo2 hh2:Int)(W:World):Prop where
 b:Bm hi M num den n W lg bb tb vl vr ca cc Oa Oc k0 k1 T0 T1 z lo hh
 o:Bm hi M num den n2 W og ob ub ul ur da dc Na Nc m0 m1 U0 U1 y lo2 hh2
 below:B w.heap.size w W
section
variable {hi:Bool} {M num den n n2:Nat} {w W W' :World} {lg bb tb:Nat} {vl vr:V} {ca cc:Nat} {Oa Oc:Nat->Prop} {k0 k1:AL} {T0 T1 z:Nat} {lo hh:Int} {og ob ub:Nat} {ul ur:V} {da dc:Nat} {Na Nc:Nat->Prop} {m0 m1:AL} {U0 U1 y:Nat} {lo2 hh2:Int}
theorem UF.next(h:UF hi M num den n n2 w lg bb tb vl vr ca cc Oa Oc k0 k1 T0 T1 z lo hh og ob ub ul ur da dc Na Nc m0 m1 U0 U1 y lo2 hh2 W)(b:B W.heap.size W W'):UF hi M num den n n2 w lg bb tb vl vr ca cc Oa Oc k0 k1 T0 T1 z lo hh og ob ub ul ur da dc Na Nc m0 m1 U0 U1 y lo2 hh2 W' :=⟨h.b.next b,h.o.next b,h.below.trans (b.mono h.below.size)⟩
end
theorem dO{hi M num den n}(w lg bb tb vl vr ca cc Oa Oc)(k0 k1:AL)(T0 T1 z lo hh)(h:Bm hi M num den n w lg bb tb vl vr ca cc Oa Oc k0 k1 T0 T1 z lo hh)(s:T0+z+T1<=9223372036854775807)(a b):
  C prog 77 #[P (S ⟨lg,0,N⟩),I J a,I J b] w λe w' =>∃r:Bool,e=R (.bool r)/\AD (λk=>k=lg) w w' /\(r=true->Bm hi M num den n w' lg bb tb vl vr ca cc Oa Oc k0 k1 T0 T1 z a b):=by
 have G:=Fe w bb tb vl vr ca cc Oa Oc k0 k1 T0 T1 z h.bn s;obtain⟨u,g,i,l,q,m,p,j,o⟩:=BB h;have D:=Zh (show∀(W:World),B w.heap.size w W->Bm hi M num den n ((W.setCell ⟨lg,5,N⟩ (I J a)).setCell ⟨lg,6,N⟩ (I J b)) lg bb tb vl vr ca cc Oa Oc k0 k1 T0 T1 z a b/\AD (λk=>k=lg) w ((W.setCell ⟨lg,5,N⟩ (I J a)).setCell ⟨lg,6,N⟩ (I J b))from λW X=>by
  obtain⟨h1,v⟩:=(h.next X).ends a b;exact⟨h1,(AD.of_below (F:=λk=>k=lg) X).trans' v (λ_ _ h=>h) (λ_ _ h=>h)⟩)
 have t:=Zh h;obtain⟨T,Y⟩:∃T,T=T0+z+T1:=⟨_,rfl⟩;rw[<-Y]at G;clear h s Y g i l q m p j o;by_cases O:T=0
 ·have g1:((T:Int)==0)=true:=by simp[O]
  have x:(T==0)=true:=by simp[O]
  clear O;by_cases d:a=0
  ·subst d;by_cases c:b=0
   ·subst c;go_enter func77,ntmps77;go_wp2_with fail;refine G.mono ?_;rintro e H ⟨rfl,A⟩;obtain⟨u,g,i,l,q,m,p,j,o⟩:=BB (t.out.next A);have hF:=Zh (D.out H A);clear A D G;go_wp2_with fail;go_ret;exact⟨true,rfl,hF.out.2,λ_=>hF.out.1⟩
   ·have f:(b !=0)=true:=by simp[c]
    have g4:(b==0)=false:=by simp[c]
    clear c;go_enter func77,ntmps77;go_wp2_with fail;refine G.mono ?_;rintro e H ⟨rfl,A⟩;have hF:=Zh A;clear A D G;go_wp2_with fail;go_ret;exact⟨false,rfl,AD.of_below hF.out,λh=>absurd h (by decide)⟩
  ·have f:(a !=0)=true:=by simp[d]
   have g4:(a==0)=false:=by simp[d]
   clear d;go_enter func77,ntmps77;go_wp2_with fail;refine G.mono ?_;rintro e H ⟨rfl,A⟩;have hF:=Zh A;clear A D G;go_wp2_with fail;go_ret;exact⟨false,rfl,AD.of_below hF.out,λh=>absurd h (by decide)⟩
 ·have g1:((T:Int)==0)=false:=by simp[O]
  have x:(T==0)=false:=by simp[O]
  clear O;by_cases Z:b<a
  ·have f:decide (b<a)=true:=by simpa using Z
   go_enter func77,ntmps77;go_wp2_with fail;refine G.mono ?_;rintro e H ⟨rfl,A⟩;have hF:=Zh A;clear A D G;go_wp2_with fail;go_ret;exact⟨false,rfl,AD.of_below hF.out,λh=>absurd h (by decide)⟩
  ·have f:decide (b<a)=false:=by simpa using Z
   go_enter func77,ntmps77;go_wp2_with fail;refine G.mono ?_;rintro e H ⟨rfl,A⟩;obtain⟨u,g,i,l,q,m,p,j,o⟩:=BB (t.out.next A);have hF:=Zh (D.out H A);clear A D G;go_wp2_with fail;go_ret;exact⟨true,rfl,hF.out.2,λ_=>hF.out.1⟩
theorem YZ(hi:Bool){M:Nat}(g:1<=M)(r:M<=4096)(w)(num den:Nat)(hg:Dk num den=true):
  C prog 41 #[.agg #[I U num,I U den,I J (Dq hi),I J M]] w (fN hi M num den w):=by
 have B0:AI (w.alloc (.cells #[I U num,I U den,I J (Dq hi),I J M] 120)) w.heap.size #[I U num,I U den,I J (Dq hi),I J M] 120:=AI.newAt rfl;have b0:B w.heap.size w (w.alloc (.cells #[I U num,I U den,I J (Dq hi),I J M] 120)):=Za;have X:=Zh (λW=>Qi num den W hg);have Z:=Zh (λW tb vl vr n (t:Gx W tb vl vr num den n)=>dL hi g r W tb vl vr num den n t);have H:=Zh (Zi B0 b0);clear B0 b0 hg g r;go_enter func41,ntmps41;go_wp2_with fail;refine(X.out _).mono ?_;rintro e d (⟨n,tb,vl,vr,hc,rfl,f,t1,l⟩|⟨A,F,rfl,f,q⟩)
 ·have c:=H.out.1.below f H.out.1.lt;have m:=H.out.2.trans (f.mono H.out.2.size);have c0:d.cell? ⟨w.heap.size,0,N⟩=S (I U num):=c.cell rfl;have c1:d.cell? ⟨w.heap.size,1,N⟩=S (I U den):=c.cell rfl;have c2:d.cell? ⟨w.heap.size,2,N⟩=S (I J (Dq hi)):=c.cell rfl;have c3:d.cell? ⟨w.heap.size,3,N⟩=S (I J M):=c.cell rfl;have O:=Z.out d tb vl vr n t1;have hz:w.heap.size<=(w.alloc (.cells #[I U num,I U den,I J (Dq hi),I J M] 120)).heap.size:=by simp
  have Y:=Zh (Zi c (Zi m (Zi hc (λj hj=>Pa hz (l j hj)))));clear X Z c m f t1 l hc hz H;go_wp2_with fail;refine O.mono ?_;rintro e b ⟨bb,ca,cc,Oa,Oc,rfl,i,x,u,o,s⟩;have p:=Y.out.1.below x Y.out.1.lt;have c0:b.cell? ⟨w.heap.size,0,N⟩=S (I U num):=p.cell rfl;have c1:b.cell? ⟨w.heap.size,1,N⟩=S (I U den):=p.cell rfl;have c2:b.cell? ⟨w.heap.size,2,N⟩=S (I J (Dq hi)):=p.cell rfl;have c3:b.cell? ⟨w.heap.size,3,N⟩=S (I J M):=p.cell rfl;have G:=Y.out.2.1.size;have D:=Y.out.2.1.trans (x.mono G);have v:=Zh (show fN hi M num den w (R (T #[P (S ⟨b.heap.size,0,N⟩),I J 0])) (b.alloc (.cells #[P (S ⟨bb,0,N⟩),I U num,I U den,I J (Dq hi),I J M,I J 0,I J 0] 170))from by
   refine⟨_,0,rfl,D.alloc D.size _,λ_=>⟨n,b.heap.size,bb,tb,vl,vr,ca,cc,Oa,Oc,rfl,Y.out.2.2.1,⟨AI.newAt rfl,i.next (Za)⟩,?_⟩,λ_=>rfl⟩;rintro j (rfl|rfl|e|e|e)
   ·exact D.size
   ·omega
   ·exact Y.out.2.2.2 j e
   ·exact Pa G (o j e)
   ·exact Pa G (s j e))
  clear O p D x i u o s G Y;go_wp2_with fail;go_ret2;exact v.out
 ·have Aa:(A==0)=false:=by simp[F]
  have AA:(A !=0)=true:=by simp[F]
  have v:=Zh (show fN hi M num den w (R (T #[P N,I J A])) d from⟨N,A,rfl,H.out.2.trans (f.mono H.out.2.size),λh=>absurd h F,λ⟨n,hn⟩=>absurd hn (q n)⟩);clear X Z f q H F;go_wp2_with fail;go_ret2;exact v.out
theorem Lh(hi w tb M)(h:M<1\/4096<M):
  C prog 64 #[.iface 163 (P (S ⟨tb,0,N⟩)),I J (Dq hi),I J M] w λe w' =>e=R (T #[P N,I J 1])/\w=w' :=by
 have A:=Qm hi w M h;cases hi
 all_goals
  simp only[Dq,ag,if_true,if_false]at A⊢;clear h;go_enter func64,ntmps64;go_wp2_with fail;refine A.mono ?_;rintro e D ⟨⟨v,rfl⟩,rfl⟩;clear A;go_wp2_with fail;go_ret2;exact⟨rfl,rfl⟩
theorem Oi{hi M num den n}(w lg bb tb vl vr ca cc Oa Oc)(k0 k1:AL)(T0 T1 z lo hh)(h:Bm hi M num den n w lg bb tb vl vr ca cc Oa Oc k0 k1 T0 T1 z lo hh)(n2 og ob ub ul ur da dc Na Nc)(m0 m1:AL)(U0 U1 y lo2 hh2)(g:Bm hi M num den n2 w og ob ub ul ur da dc Na Nc m0 m1 U0 U1 y lo2 hh2)(m:U0+y+U1=0):
  Calls prog 222 #[P (S ⟨lg,0,N⟩),P (S ⟨og,0,N⟩)] w λe w' =>e=R (I J 0)/\B w.heap.size w w' :=by
 have l:UF hi M num den n n2 w lg bb tb vl vr ca cc Oa Oc k0 k1 T0 T1 z lo hh og ob ub ul ur da dc Na Nc m0 m1 U0 U1 y lo2 hh2 w:=⟨h,g,B.refl _ _⟩;have A:=Zh (λW (k:UF hi M num den n n2 w lg bb tb vl vr ca cc Oa Oc k0 k1 T0 T1 z lo hh og ob ub ul ur da dc Na Nc m0 m1 U0 U1 y lo2 hh2 W)=>Fe W ob ub ul ur da dc Na Nc m0 m1 U0 U1 y k.o.bn (by omega));rw[m]at A;clear h g m;go_enter func222,ntmps222;go_upto_region 3 with fail;refine AG (C:=UF hi M num den n n2 w lg bb tb vl vr ca cc Oa Oc k0 k1 T0 T1 z lo hh og ob ub ul ur da dc Na Nc m0 m1 U0 U1 y lo2 hh2) (by kernel_rfl) (by kernel_rfl) (l.next (B.refl _ _).drew) ?_;repeat go_big_quiet_step(exact λ_=>rfl)
 go_big_quiet_want;refine⟨.agg #[I U num,I U den,I J (Dq hi),I J M],λs i=> ?_,?_⟩
 ·obtain⟨q,H,X,Z,O,c,j,Y,d⟩:=BB i.b;go_simp
 go_big_quiet_on;simp only[Jx,Zp,Zq,Zr];repeat go_big_quiet_step(exact λ_=>rfl)
 go_big_quiet_want;refine⟨.agg #[I U num,I U den,I J (Dq hi),I J M],λs i=> ?_,?_⟩
 ·obtain⟨q,H,X,Z,O,c,j,Y,d⟩:=BB i.o;go_simp
 go_big_quiet_on;simp only[Jx,Zp,Zq,Zr];repeat go_big_quiet_step(exact λ_=>rfl)
 refine wpQuiet_nil ?_;intro r F;obtain⟨q,H,X,Z,O,c,j,Y,d⟩:=BB F.o;have D:=A.out r F;have G:=Zh F.below;clear F l A H X Z O c j Y d;go_wp2_with fail;refine D.mono ?_;rintro e t ⟨rfl,p⟩;have f:=Zh (G.out.trans (p.mono G.out.size));clear D p G;go_wp2_with fail;go_ret;exact⟨rfl,f.out⟩
theorem aq{hi M num den n}(Al:1<=M)(A5:M<=4096)(w lg bb tb vl vr ca cc Oa Oc)(k0 k1:AL)(T0 T1 z lo hh)(h:Bm hi M num den n w lg bb tb vl vr ca cc Oa Oc k0 k1 T0 T1 z lo hh)(n2 og ob ub ul ur da dc Na Nc)(m0 m1:AL)(U0 U1 y lo2 hh2)(g:Bm hi M num den n2 w og ob ub ul ur da dc Na Nc m0 m1 U0 U1 y lo2 hh2)(X:∀j,Dm lg bb tb vl vr Oa Oc j->¬Dm og ob ub ul ur Na Nc j)(hT:T0+z+T1+(U0+y+U1)<=9223372036854775807)(hU:1<=U0+y+U1)
  (Ac:∀q,(BE hi M k0 (m0.take q)).length<=M)(Aw:∀q,(BE hi M k1 (m1.take q)).length<=M)(Ay:m0.length<=4096)(A2:m1.length<=4096):
  Calls prog 222 #[.pointer (S ⟨lg,0,N⟩),.pointer (S ⟨og,0,N⟩)] w λe w' =>e=R (I J 0)/\∃v Pc,Bm hi M num den n w' lg bb tb vl vr ca cc v Pc (BE hi M k0 m0) (BE hi M k1 m1) (T0+U0) (T1+U1) (z+y) (JU (T0+z+T1) lo lo2) (JV (T0+z+T1) hh hh2)/\BV w (Dm lg bb tb vl vr Oa Oc) (Dm lg bb tb vl vr v Pc)/\AD (Dm lg bb tb vl vr Oa Oc) w w' :=by
 have H0:UF hi M num den n n2 w lg bb tb vl vr ca cc Oa Oc k0 k1 T0 T1 z lo hh og ob ub ul ur da dc Na Nc m0 m1 U0 U1 y lo2 hh2 w:=⟨h,g,B.refl _ _⟩;have u:=Zh (λW (k:UF hi M num den n n2 w lg bb tb vl vr ca cc Oa Oc k0 k1 T0 T1 z lo hh og ob ub ul ur da dc Na Nc m0 m1 U0 U1 y lo2 hh2 W)=>Fe W ob ub ul ur da dc Na Nc m0 m1 U0 U1 y k.o.bn (by omega));have Ab:=Zh (λW (k:UF hi M num den n n2 w lg bb tb vl vr ca cc Oa Oc k0 k1 T0 T1 z lo hh og ob ub ul ur da dc Na Nc m0 m1 U0 U1 y lo2 hh2 W)=>Oh W lg bb tb vl vr ca cc Oa Oc k0 k1 T0 T1 z lo hh k.b (by omega) lo2 hh2);obtain⟨A,Ax⟩:∃A,A=U0+y+U1:=⟨_,rfl⟩;rw[<-Ax]at u hU;have g1:((A:Int)==0)=false:=by simp;omega
 have g2:(A==0)=false:=by simp;omega
 obtain⟨t,O⟩:∃l,l=JU (T0+z+T1) lo lo2:=⟨_,rfl⟩;obtain⟨Aa,H⟩:∃l,l=JV (T0+z+T1) hh hh2:=⟨_,rfl⟩;rw[<-O,<-H];rw[<-O,<-H]at Ab;have Ap:=Zh (λW (kb:BW hi M num den n W bb tb vl vr ca cc Oa Oc k0 k1 T0 T1 z) (ko:BW hi M num den n2 W ob ub ul ur da dc Na Nc m0 m1 U0 U1 y)=>YX Al A5 W bb tb vl vr ca cc Oa Oc k0 k1 T0 T1 z kb ob ub ul ur da dc Na Nc m0 m1 U0 U1 y ko (λj hj hn=>X j (.inr hj) (.inr hn)) hT Ac Aw Ay A2);have A8:og≠lg:=λe=>X lg (.inl rfl) (.inl e.symm);have A7:=Zh X;clear h g X hT hU Ac Aw Ay A2 Ax O H Al A5;go_enter func222,ntmps222;go_upto_region 3 with fail;refine AG (C:=UF hi M num den n n2 w lg bb tb vl vr ca cc Oa Oc k0 k1 T0 T1 z lo hh og ob ub ul ur da dc Na Nc m0 m1 U0 U1 y lo2 hh2) (by kernel_rfl) (by kernel_rfl) (H0.next (B.refl _ _).drew) ?_;repeat go_big_quiet_step(exact λ_=>rfl)
 go_big_quiet_want;refine⟨.agg #[I U num,I U den,I J (Dq hi),I J M],λx D=> ?_,?_⟩
 ·obtain⟨d,f,Y,i,c,m,r,Z,p⟩:=BB D.b;go_simp
 go_big_quiet_on;simp only[Jx,Zp,Zq,Zr];repeat go_big_quiet_step(exact λ_=>rfl)
 go_big_quiet_want;refine⟨.agg #[I U num,I U den,I J (Dq hi),I J M],λx D=> ?_,?_⟩
 ·obtain⟨d,f,Y,i,c,m,r,Z,p⟩:=BB D.o;go_simp
 go_big_quiet_on;simp only[Jx,Zp,Zq,Zr];repeat go_big_quiet_step(exact λ_=>rfl)
 refine wpQuiet_nil ?_;intro w1 H1;obtain⟨d,f,Y,i,c,m,r,Z,p⟩:=BB H1.o;have Ar:=u.out w1 H1;have H1:=Zh H1;clear H0 u f Y i c m r Z p;go_wp2_with fail;refine Ar.mono ?_;rintro e w2 ⟨rfl,b2⟩;have H2:=H1.out.next b2;clear Ar b2 H1 d;go_upto_region 7 with fail;refine AG (C:=UF hi M num den n n2 w lg bb tb vl vr ca cc Oa Oc k0 k1 T0 T1 z lo hh og ob ub ul ur da dc Na Nc m0 m1 U0 U1 y lo2 hh2) (by kernel_rfl) (by kernel_rfl) (H2.next (B.refl _ _).drew) ?_;repeat go_big_quiet_step(exact λ_=>rfl)
 go_big_quiet_want;refine⟨I J lo,λx D=> ?_,?_⟩
 ·obtain⟨d,f,Y,i,c,m,r,Z,p⟩:=BB D.b;go_simp
 go_big_quiet_on;simp only[Jx,Zp,Zq,Zr];repeat go_big_quiet_step(exact λ_=>rfl)
 go_big_quiet_want;refine⟨I J hh,λx D=> ?_,?_⟩
 ·obtain⟨d,f,Y,i,c,m,r,Z,p⟩:=BB D.b;go_simp
 go_big_quiet_on;simp only[Jx,Zp,Zq,Zr];repeat go_big_quiet_step(exact λ_=>rfl)
 refine wpQuiet_nil ?_;intro w3 H3;clear H2;go_upto_region 8 with fail;refine AS 9 (C:=UF hi M num den n n2 w lg bb tb vl vr ca cc Oa Oc k0 k1 T0 T1 z lo hh og ob ub ul ur da dc Na Nc m0 m1 U0 U1 y lo2 hh2) (by kernel_rfl) (by kernel_rfl) (H3.next (B.refl _ _).drew) ?_;simp only[bh,V0,bw,dT];repeat go_big_quiet_step(exact λ_=>rfl)
 go_big_quiet_want;refine⟨I J lo2,λx D=> ?_,?_⟩
 ·obtain⟨d,f,Y,i,c,m,r,Z,p⟩:=BB D.o;go_simp
 go_big_quiet_on;simp only[Jx,Zp,Zq,Zr];repeat go_big_quiet_step(exact λ_=>rfl)
 go_big_quiet_want;refine⟨I J hh2,λx D=> ?_,?_⟩
 ·obtain⟨d,f,Y,i,c,m,r,Z,p⟩:=BB D.o;go_simp
 go_big_quiet_on;simp only[Jx,Zp,Zq,Zr];repeat go_big_quiet_step(exact λ_=>rfl)
 refine wpQuiet_nil ?_;intro A6 AA;have A3:=Ab.out A6 AA;have H3:=Zh AA;clear Ab AA;go_wp2_with fail;refine A3.mono ?_;rintro e w4 ⟨rfl,L4,a4⟩;have H4:UF hi M num den n n2 w4 lg bb tb vl vr ca cc Oa Oc k0 k1 T0 T1 z t Aa og ob ub ul ur da dc Na Nc m0 m1 U0 U1 y lo2 hh2 w4:=⟨L4,H3.out.o.away a4 λj hj e=>A7.out lg (.inl rfl) (e▸hj),B.refl _ _⟩;have A4:=Zh ((AD.of_below (F:=Dm lg bb tb vl vr Oa Oc) H3.out.below).trans' (G:=λk=>k=lg) a4 (λ_ _ h=>h) (λk _ e=>.inl e));clear A3 L4 a4 H3;go_upto_region 9 with fail;refine AS 8 (C:=UF hi M num den n n2 w4 lg bb tb vl vr ca cc Oa Oc k0 k1 T0 T1 z t Aa og ob ub ul ur da dc Na Nc m0 m1 U0 U1 y lo2 hh2) (by kernel_rfl) (by kernel_rfl) (H4.next (B.refl _ _).drew) ?_;simp only[bh,V0,bw,dT];repeat go_big_quiet_step(exact λ_=>rfl)
 go_big_quiet_want;refine⟨.pointer (S ⟨bb,0,N⟩),λx D=> ?_,?_⟩
 ·obtain⟨d,f,Y,i,c,m,r,Z,p⟩:=BB D.b;go_simp
 go_big_quiet_on;simp only[Jx,Zp,Zq,Zr];repeat go_big_quiet_step(exact λ_=>rfl)
 go_big_quiet_want;refine⟨.pointer (S ⟨ob,0,N⟩),λx D=> ?_,?_⟩
 ·obtain⟨d,f,Y,i,c,m,r,Z,p⟩:=BB D.o;go_simp
 go_big_quiet_on;simp only[Jx,Zp,Zq,Zr];repeat go_big_quiet_step(exact λ_=>rfl)
 refine wpQuiet_nil ?_;intro w5 s;have Av:=Ap.out w5 s.b.bn s.o.bn;have s:=Zh s;clear Ap H4;go_wp2_with fail;refine Av.mono ?_;rintro e w6 ⟨rfl,r6⟩;have HR:=Zh (show∃v Pc,Bm hi M num den n w6 lg bb tb vl vr ca cc v Pc (BE hi M k0 m0) (BE hi M k1 m1) (T0+U0) (T1+U1) (z+y) t Aa/\BV w (Dm lg bb tb vl vr Oa Oc) (Dm lg bb tb vl vr v Pc)/\AD (Dm lg bb tb vl vr Oa Oc) w w6 from by
  obtain⟨v,Pc,p1,p2,p3⟩:=s.out.b.bins r6;obtain⟨s5,a5⟩:=EB (λj hj=>.inl hj) A4.out (Ec (P:=Dm lg bb tb vl vr Oa Oc) s.out.below).1 (Ec s.out.below).2;exact⟨v,Pc,p1,EB s5 a5 p2 p3⟩)
 clear Av r6 s A4;go_wp2_with fail;go_ret;exact⟨rfl,HR.out⟩
theorem Es(l m:AL)(p:Nat×Nat):AZ l (m++ [p])=Ak (AZ l m) p.1 p.2:=by unfold AZ;rw[List.foldl_append];rfl
theorem DS(l m:AL):AB (AZ l m)=AB l+AB m:=Dx _ _ _
theorem Ed(l m:AL):(AZ l m).length<=l.length+m.length:=by
 unfold AZ;induction m generalizing l with
 |nil=>exact E _
 |cons x m A=>
  have:=A (Ak l x.1 x.2);have:=Cb l x.1 x.2;simp only[fx,List.length_cons];omega
theorem ar{l:AL}(h:Bh l)(A:AB l=0):l=[]:=by
 cases l with
 |nil=>rfl
 |cons x l=>
  have:=h x List.mem_cons_self;unfold AB at A;rw[AQ]at A;simp at A;omega
structure Zx(w:World)(db sb:Nat)(v:V)(ob so:Nat)(u:V)(d F:Nat)(lo hi lo2 hi2:Int)(l m:AL)(W:World):Prop where
 dig:Au W db sb v d F lo hi l
 oth:Au W ob so u d F lo2 hi2 m
 below:B w.heap.size w W
theorem Zx.next{w W W' H sb v ob G u d F lo hi lo2 A}{l m:AL}(h:Zx w H sb v ob G u d F lo hi lo2 A l m W)(D:B W.heap.size W W'):Zx w H sb v ob G u d F lo hi lo2 A l m W' :=
 ⟨h.dig.next D,h.oth.next D,h.below.trans (D.mono h.below.size)⟩
theorem Zx.drew{w W D sb v ob G u d F lo hi lo2 A}{l m:AL}(h:Zx w D sb v ob G u d F lo hi lo2 A l m W):Zx w D sb v ob G u d F lo hi lo2 A l m W.drew:=⟨h.dig.drew,h.oth.drew,h.below.drew⟩
structure fe(w:World)(db sb:Nat)(v:V)(d F:Nat)(l' :AL)(lo hi:Int)(m:AL)(vp:V)(W:World):Prop where
 dg:∃v',Au W db sb v' d F lo hi l' /\BV w (Own db sb v) (Own db sb v')/\(∀g,vp.ownBlock=S g->v'.ownBlock≠S g)
 away:AD (Own db sb v) w W
 own:W.ownsRow 0 228 2 vp m.length (AV m)
 ilo:Am lo
 ihi:Am hi
theorem Ya(w G sb v ob j u d F lo hi lo2 X)(l m:AL)(h:Au w G sb v d F lo hi l)(k:Au w ob j u d F lo2 X m)(B4:∀i,Own G sb v i->¬Own ob j u i)
  (h1:1<=d)(h2:d<=24)(h3:1<=F)(h4:F<=64)(Ay:Am lo)(A4:Am hi)(A9:Am lo2)(Bt:Am X)
  (hn:CE d l)(C0:CE d m)(C2:l.length+m.length<=3000)(C1:AB l+AB m<=900000):
  Calls prog 256 #[P (S ⟨G,0,N⟩),P (S ⟨ob,0,N⟩)] w λe w' =>∃l',e=R (I J 0)/\OI w G sb v d F l' w' /\Fq d F (AZ l m) l' :=by
 have H:Zx w G sb v ob j u d F lo hi lo2 X l m w:=⟨h,k,B.refl _ _⟩;have nb:(!(((d:Int)==(d:Int))&&((F:Int)==(F:Int))))=false:=by simp
 have hq:=aQ;have hj:=Kn d l m h.strip.rising h.strip.full hn k.strip.full C0;have Ac:=λW (x:Au W ob j u d F lo2 X m)=>Eb W ob j u d F lo2 X m x;have Aa:=λW (x:Au W G sb v d F lo hi l)=>Eb W G sb v d F lo hi l x;have BA:=λW (x:Au W G sb v d F lo hi l)=>Is W G sb v d F lo hi l x lo2 X A9 Bt Ay A4;have A7:=λW b h0 h1=>Az W b (AB l) (AB m) (by omega) h0 h1;have A8:=λW (x:Au W ob j u d F lo2 X m)=>Cx W j u m x.strip (by omega);have C9:=k.strip.rising;have Bs:=k.strip.full;have B0:=h.lt;have D4:=h.strip.rising;have C4:=h.strip.full;have HD:=Zh h;clear h k;go_enter func256,ntmps256;go_upto_region 3 with fail;refine AG (C:=Zx w G sb v ob j u d F lo hi lo2 X l m) (by kernel_rfl) (by kernel_rfl) H.drew ?_;repeat go_big_quiet_step(exact λ_=>rfl)
 go_big_quiet_want;refine⟨.agg #[I J d,I J F],λwx hx=> ?_,?_⟩
 ·obtain⟨k0,k1,k2,k3,k4,k5,m3,m4,m5⟩:=hx.dig.cells;go_simp
 go_big_quiet_on;simp only[Jx,Zp,Zq,Zr];repeat go_big_quiet_step(exact λ_=>rfl)
 go_big_quiet_want;refine⟨.agg #[I J d,I J F],λwx hx=> ?_,?_⟩
 ·obtain⟨k0,k1,k2,k3,k4,k5,m3,m4,m5⟩:=hx.oth.cells;go_simp
 go_big_quiet_on;simp only[Jx,Zp,Zq,Zr];repeat go_big_quiet_step(exact λ_=>rfl)
 refine wpQuiet_nil ?_;intro W1 H1;clear H;go_wp2_with fail;refine(Ac W1 H1.oth).mono ?_;rintro e w2 ⟨rfl,rfl⟩;by_cases c:AB m=0
 ·have g1:(((AB m:Nat):Int)==0)=true:=by simp[c]
  have Bu:m=[]:=ar Bs c;have HM:=Zh Bu;clear c Bu;go_wp2_with fail;go_ret;exact⟨l,rfl,OI.of_below (lo:=lo) (hi:=hi) HD.out Ay A4 H1.below,by rw[HM.out];exact .refl⟩
 ·have g1:(((AB m:Nat):Int)==0)=false:=by simp[c]
  clear c;go_wp2_with fail;refine(Aa W1 H1.dig).mono ?_;rintro e w2 ⟨rfl,rfl⟩;go_wp2_with fail;refine(Ac W1 H1.oth).mono ?_;rintro e w2 ⟨rfl,rfl⟩;go_wp2_with fail;refine(A7 _ _ (by simp) (by simp)).mono ?_;rintro e w2 ⟨rfl,rfl⟩;have H2:=H1.next ((B.refl _ _).alloc (E _) (.cells #[I U ((AB l:Nat):Int),I U ((AB m:Nat):Int)] 23));generalize W1.alloc (.cells #[I U ((AB l:Nat):Int),I U ((AB m:Nat):Int)] 23)=W2 at H2⊢;clear H1;go_upto_region 10 with fail;obtain⟨k0,k1,k2,k3,k4,k5,m3,m4,m5⟩:=H2.oth.cells;have AA:=BA W2.drew H2.dig.drew;have Av :=Zh H2;clear H2 BA Ac Aa A7;have Ba:∀i,Own ob j u i->¬i=G:=λi hi e=>B4 G (.inl rfl) (e▸hi);have hO:∀r,AD (λk=>k=G) W2.drew r->Au r ob j u d F lo2 X m:=λr t=>Av.out.oth.drew.away t Ba;go_cut [4]from 41 to 50 (λx wx=>x=I J 0/\∃a3 o,Am a3/\Am o/\Au wx G sb v d F a3 o l/\AD (λk=>k=G) W2.drew wx);case first=>
   go_region_with(go_at_call 172;refine AA.mono ?_;rintro e r ⟨rfl,a3,o,i3,j3,D3,t⟩);all_goals(go_wp2_with fail)
   all_goals go_meet
   all_goals exact⟨rfl,a3,o,i3,j3,D3,t⟩
  case rest=>
  obtain⟨rfl,a3,o,i3,j3,D3,t⟩:=hcut;generalize wc=r at D3 t⊢;have O3:=hO r t;obtain⟨n0,n1,n2,n3,n4,n5,s3,s4,s5⟩:=O3.cells;have B3:AD (Own G sb v) w r:=(AD.of_below (F:=Own G sb v) Av.out.below).drew.trans' t (λk _ O=>O) (λk _ O=>.inl O);have D0:w.heap.size<=r.heap.size:=B3.size;clear Av k0 k1 k2 k3 k4 k5 m3 m4 m5 t AA Ba hO;have Ax:=A8 r O3;clear A8;go_wp2_with(go_at_call 177;refine Ax.mono ?_;rintro e w4 ⟨vp,rfl,o4,b4⟩;obtain⟨Ap,cp,Cp⟩:=AF o4;subst Cp);have J4:fe w G sb v d F l a3 o m (L Ap m.length cp) w4:=
   ⟨⟨v,D3.next b4,BV.refl _ _,λg hg e=>by have:=(o4.lt g hg).1;have:=(D3.strip.own.lt g e).2;omega⟩,B3.trans' (AD.of_below b4) (λk _ O=>O) (λk _ O=>O),AO o4 λg _=>RR _,i3,j3⟩
  clear n0 n1 n2 n3 n4 n5 s3 s4 s5 O3 Ax D3 B3 o4 b4 B0;go_loopg [8,57] m.length (λg p i wr=>∃q:Nat,i=I J q/\q<=m.length/\m.length-q<=g/\fe w G sb v d F (AZ l (m.take q)) a3 o m (L Ap m.length cp) wr);case atStart=>exact⟨0,rfl,RR _,E _,by rw[V0];exact J4⟩
  case round=>
   clear J4;obtain⟨q,rfl,hq,hg,A⟩:=hrel;by_cases D:q<m.length
   ·have Ar:=Bs _ (List.getElem_mem D);obtain⟨f,Ab⟩:∃i,i=(m[q]'D).1:=⟨_,rfl⟩;obtain⟨Y,s⟩:∃i,i=(m[q]'D).2:=⟨_,rfl⟩;have A6:AB (m.take q)+Y<=AB m:=by
     have e:m=m.take q++((m[q]'D)::m.drop (q+1)):=by rw[<-List.drop_eq_getElem_cons D,List.take_append_drop]
     have e2:AB m=AB (m.take q)+AB ((m[q]'D)::m.drop (q+1)):=by
      conv=>lhs;rw[e]
      exact Bv _ _ _
     have e3:AB ((m[q]'D)::m.drop (q+1))=(m[q]'D).2+AB (m.drop (q+1)):=by unfold AB;rw[AQ];simp
     omega
    have Cs:=DS l (m.take q);have Aw:=Ed l (m.take q);rw[List.length_take]at Aw;have BX:AZ l (m.take (q+1))=Ak (AZ l (m.take q)) f Y:=by
     rw[List.take_succ_eq_append_getElem D,Es,Ab,s]
    rw[<-s]at Ar;have e0:(AV m)[q*2]?=S (I J f):=by rw[BI m q D,Ab]
    have e1:(AV m)[q*2+1]?=S (I U Y):=by rw[BT m q D,s]
    obtain⟨⟨v1,D1,S1,X1⟩,A1,O1,_,_⟩:=A;generalize AZ l (m.take q)=lq at*;rcases AH O1 with⟨Al,E0,_⟩|⟨g,E1,Al,B5,BR,_,Bw⟩
    ·omega
    ·simp only[L.injEq,true_and]at Al;obtain⟨rfl,rfl⟩:=Al;have c0:wr.cell? ⟨g,q*2,N⟩=S (I J f):=by rw[O1.cellAt _ (by omega)];exact e0
     have c1:wr.cell? ⟨g,q*2+1,N⟩=S (I U Y):=by rw[O1.cellAt _ (by omega)];exact e1
     have B1:(q:Int)<(m.length:Int):=by omega
     have D2:=D1.next ((B.refl _ _).alloc (E _) (.cells #[I J f,I U Y] 228));have B2:=Cc (wr.alloc (.cells #[I J f,I U Y] 228)).drew sb v1 lq f Y D2.drew.strip Ar (by omega) (by omega);obtain⟨k0,k1,k2,k3,k4,k5,m3,m4,m5⟩:=D1.cells;have D8:=D1.blk.lt;have Cr:=Zh (show∀(w5:World) (v5:V),As w5 sb v5 (Ak lq f Y)->AD (λk=>k=sb\/v1.ownBlock=S k) (wr.alloc (.cells #[I J f,I U Y] 228)).drew w5->FA (wr.alloc (.cells #[I J f,I U Y] 228)).drew v1 v5->fe w G sb v d F (AZ l (m.take (q+1))) a3 o m (L (S ⟨g,0,N⟩) m.length cp) w5 from λw5 v5 s5 a5 x5=>by
      obtain⟨y1,y2,y3⟩:=D2.drew.add s5 a5 x5;have CL:wr.heap.size<=(wr.alloc (.cells #[I J f,I U Y] 228)).drew.heap.size:=by simp
      have O2:(wr.alloc (.cells #[I J f,I U Y] 228)).drew.ownsRow 0 228 2 (L (S ⟨g,0,N⟩) m.length cp) m.length (AV m):=(O1.alloc _).drew;have Ck:g≠sb:=by
       obtain⟨C3,BQ⟩:=AJ O1 rfl;exact BQ.ne D1.strip.blk (by decide)
      have Bb:v1.ownBlock≠S g:=X1 g rfl;refine⟨⟨v5,by rw[BX];exact y1,S1.trans (λk O=> ?_) A1.size,λg' Z e=> ?_⟩,(A1.trans' ((AD.of_below (F:=Own G sb v) (Za)).drew) (λk _ O=>O) (λk _ O=>O)).trans' a5 (λk _ O=>O) (λk C8 O=> ?_),AU O2 a5 λg' Z => ?_,i3,j3⟩
      ·rcases y2 k O with y|y
       ·exact .inl y
       ·exact .inr (Pa CL y)
      ·simp[V.ownBlock]at Z;subst Z;rcases x5 with x5|⟨k,x5,x6⟩
       ·exact Bb (x5▸e)
       ·rw[x5]at e;cases e;simp at x6;omega
      ·rcases O with rfl|e
       ·exact .inr (.inl rfl)
       ·rcases S1 k (.inr (.inr e))with y|y
        ·exact y
        ·omega
      ·simp[V.ownBlock]at Z;subst Z;rintro(e|e)
       ·exact Ck e
       ·exact Bb e)
     clear D1 S1 X1 A1 O1 D2 Ab s A6 BX e0 e1 Ar Cs Aw Bw B5 BR;go_upto_region 14 with fail;go_region_with(go_at_call 93;refine B2.mono ?_;rintro e w5 ⟨rfl,v5,s5,a5,x5⟩);all_goals(go_wp2_with fail)
     all_goals(go_roundg (m.length-(q+1)))
     all_goals(first|(exact⟨q+1,by go_num,by omega,E _,Cr.out w5 v5 s5 a5 x5⟩)|omega)
   ·have A2:q=m.length:=by omega
    have B1:¬(q:Int)<(m.length:Int):=by omega
    rw[A2,List.take_length]at A;obtain⟨⟨v1,D1,S1,X1⟩,A1,O1,_,_⟩:=A;have ht:=QC wr G sb v1 d F a3 o _ D1 h1 h2 h3 h4 hj.2.2 (by have:=Ed l m;omega) (by rw[DS];omega);have HX:=Zh (Zi S1 A1);clear A2 D hq hg D1 S1 X1 A1 O1;go_wp2_with(go_at_call 173;refine ht.mono ?_;rintro e w5 ⟨rfl,l5,L5,A5,B9,v5,D5,O5⟩);go_ret;exact⟨l5,rfl,⟨a3,o,B9,v5,D5,i3,j3,HX.out.1.trans O5 HX.out.2.size,HX.out.2.trans' A5 (λk _ O=>O) (λk _ O=>.inl O)⟩,L5⟩
end Go.Proofs.YtbejdajkkoapgaaGreatDoor
