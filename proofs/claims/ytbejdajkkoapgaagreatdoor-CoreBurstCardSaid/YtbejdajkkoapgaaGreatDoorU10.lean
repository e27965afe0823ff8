/-
  Lemmas and walks for coreBurst.proved, joined and squeezed by a program out of the loose texts G3, Rh, G5, Q6, Q4, G6, Q5, QT, Q7. Conditions: each theorem states its own.
-/
import Derived.Test.YtbejdajkkoapgaaGreatDoorU09
import Derived.Test.YtbejdajkkoapgaaGreatDoorU06
import Derived.RangeFuncNested
import Derived.RangeFuncBound
import Derived.RangeFuncCalls
import Derived.RangeFuncBox
import Derived.RangeFuncLeaves
import Derived.Shelf.Abstract
import Derived.Shelf.RegionOpen
import Derived.WalkKit
import Derived.OwnWalkIn
import Derived.TacticsInMore
import Derived.LoopNIn
import Derived.LoopIn
import Derived.Maps.AppendAt
import Derived.Shelf.SortM.Plain
import Derived.Sort.OwnSortedInts
import Derived.Shelf.SlGeneric
import Derived.Ground.SlgmProg
import Derived.StillTail
import Derived.Deep.RegionHeld3
import Derived.RegionTactic
set_option linter.all false
set_option maxRecDepth 100000
set_option maxHeartbeats 40000000
open Go.RowKit Go.Lib Go.Proofs.Tryz
open Array renaming replicate->fy,replicate_succ->gm,replicate_zero->gu
open Bool renaming and_eq_true->V0,or_eq_true->fp
open Go renaming Calls->C,Value->V,World->W
open Go.Act renaming put->Pa
open Go.Ending renaming returned->R
open Go.IntKind renaming i64->J,u64->U,wrap_i64->ej,wrap_u64->fk
open Go.RowKit renaming Below->B
open Go.Value renaming int->I,pointer->P,slice->L,tuple->T
open List renaming all_eq_true->gZ,append_toArray->gy,cons_append->iA,eq_nil_iff_forall_not_mem->iD,eq_nil_of_length_eq_zero->fw,getElem_cons_drop->gR,getElem_mem->NW,getElem_set->gU,length_append->fj,length_cons->bw,length_drop->dT,length_nil->es,length_set->aw,length_take->bh,map_append->gh,map_set->gg,mem_of_mem_drop->gW,mem_of_mem_take->gV,mergeSort_perm->iB,nil_append->hZ,push_toArray->gv,range->RR,size_toArray->gi,take_succ_cons->gc,take_zero->gd
open Nat renaming le_refl->E,lt_of_lt_of_le->fx,lt_of_not_le->gY,lt_or_ge->gT,lt_trans->iC,reduceAdd->gj,reduceSub->gS,strongRecOn->gX,sub_self->gQ,zero_add->fa,zero_le->ag
open Option renaming none->N,some->S,some.inj->Q0,some.injEq->iE
namespace Go.Proofs.YtbejdajkkoapgaaGreatDoor
theorem Yj(l:List BM)(a):AR (l.take a++l.drop (a+1))=(AR l).take (a*3)++(AR l).drop ((a+1)*3):=by
 unfold AR;rw[List.flatMap_append,Kd Ft,Ke Ft]
def az(N:Nat)(l l' :List BM):Prop:=BO l' =BO l/\l'.length<=l.length/\Cv N l'
theorem Yk(l:List BM)(q)(z:BM)(h:q+1<l.length):(l.set (q+1) z).take q++(l.set (q+1) z).drop (q+1)=l.take q++z::l.drop (q+2):=by
 rw[List.take_set_of_le (by omega)];congr 1;rw[List.drop_set,if_neg (by omega),gQ];rw[<-gR h];rfl
theorem Yl{N}(l:List BM)(q)(z:BM)(h:q+1<l.length)(H:Cv N l)(K:Sv N z)(M:z.2.1=(l[q]'(by omega)).2.1+(l[q+1]'h).2.1):az N l ((l.set (q+1) z).take q++(l.set (q+1) z).drop (q+1))/\((l.set (q+1) z).take q++(l.set (q+1) z).drop (q+1)).length=l.length-1:=by
 rw[Yk l q z h];have G:=Hv l q;rw[<-gR (i:=q) (by omega),<-gR (i:=q+1) h]at G;have F:(l.take q++z::l.drop (q+2)).length=l.length-1:=by simp only[fj,bh,bw,dT];omega
 refine⟨⟨?_,by omega,λy D=> ?_⟩,F⟩
 ·rw[DT];simp only[BO]at G⊢;rw[show q+1+1=q+2 from rfl]at G;omega
 ·rcases List.mem_append.1 D with D|D
  ·exact H y (gV D)
  ·rcases List.mem_cons.1 D with rfl|D
   ·exact K
   ·exact H y (gW D)
structure RC(N:Nat)(w:World)(v0:V)(l0:List BM)(A:Option Addr)(n c:Nat)(l:List BM)(W:World):Prop where
 own:W.ownsRow 0 202 3 (L A n c) n (AR l)
 len:n=l.length
 rel:az N l0 l
 away:AD (λk=>v0.ownBlock=S k) w W
 kin:FA w v0 (L A n c)
section
variable {N:Nat} {w W W' :World} {v0:V} {l0 l:List BM} {A:Option Addr} {n c:Nat}
theorem RC.next(h:RC N w v0 l0 A n c l W)(b:B W.heap.size W W'):RC N w v0 l0 A n c l W' :=
 ⟨AE h.own b λg D=>(h.own.lt g D).2,h.len,h.rel,h.away.trans' (AD.of_below b) (λ_ _ h=>h) (λ_ _ h=>h),h.kin⟩
theorem RC.drew(h:RC N w v0 l0 A n c l W):RC N w v0 l0 A n c l W.drew:=h.next (B.refl _ _).drew
theorem RC.set{g q:Nat}(h:RC N w v0 l0 (S ⟨g,0,none⟩) n c l W)(D:q<l.length)(s:Nat):(W.setCell ⟨g,q*3+1,none⟩ (I U s)).ownsRow 0 202 3 (L (S ⟨g,0,none⟩) n c) n (AR (l.set q ((l[q]'D).1,s,(l[q]'D).2.2)))/\AD (λk=>v0.ownBlock=S k) w (W.setCell ⟨g,q*3+1,none⟩ (I U s)):=by
 obtain⟨F,H⟩:=h.own.stored (q*3+1) (I U s);have e:=Xt Ft l q 1 ((l[q]'D).1,s,(l[q]'D).2.2) (I U s) D (by omega) rfl;refine⟨by unfold AR at F⊢;rw[<-e];exact F,AD.setCell h.away ⟨g,q*3+1,none⟩ _ ?_⟩;rcases h.kin with k|⟨k,G,K⟩
 ·exact .inl k.symm
 ·right;have:g=k:=by simpa[V.ownBlock]using G
  show w.heap.size<=g;omega
theorem RC.cut{g m}{D :List BM}{G F}(h:RC N w v0 l0 (S ⟨g,0,none⟩) n c l W)(a1:AD (λk=>v0.ownBlock=S k) w G)(o:F.ownsRow 0 202 3 (L (S ⟨g,0,none⟩) m c) m (AR D))(K:m=D.length)(r:az N l D)(a:AD (λk=>k=g) G F):RC N w v0 l0 (S ⟨g,0,none⟩) m c D F:=by
 refine⟨o,K,⟨r.1.trans h.rel.1,Nat.le_trans r.2.1 h.rel.2.1,r.2.2⟩,a1.trans' a (λ_ _ h=>h) λj O e=> ?_,h.kin⟩;subst e;rcases h.kin with k|⟨i,H,M⟩
 ·exact k.symm
 ·have:j=i:=Q0 H;omega
end
def dy(N:Nat)(w:W)(v0:V)(l0:List BM)(lim:Nat)(a:Act)(wr:W):Prop:=∃(f:Nat->V) (A:Option Addr) (n c:Nat) (i:Int) (l:List BM),a={tmps:= #[L A n c,I U lim,f 2,f 3,f 4,I J i,f 6,f 7,f 8,f 9,f 10,f 11,f 12,f 13,f 14,f 15,f 16,f 17,f 18,f 19,f 20,f 21,f 22,f 23,f 24,f 25,f 26,f 27,f 28,f 29,f 30,f 31,f 32,f 33,f 34,f 35,f 36,f 37,f 38,f 39,f 40,f 41,f 42,f 43,f 44,f 45,f 46,f 47,f 48,f 49,f 50,f 51],defers:=[]}/\ -2<=i/\i<=(n:Int)-2/\RC N w v0 l0 A n c l wr
theorem dy.of{N w wr v0}{l0 l:List BM}{D n c A i a}(S:RC N w v0 l0 A n c l wr)(G: -2<=i)(F:i<=(n:Int)-2)(h:a={tmps:= #[L A n c,I U D,a.tmps.getD 2 undef,a.tmps.getD 3 undef,a.tmps.getD 4 undef,I J i,a.tmps.getD 6 undef,a.tmps.getD 7 undef,a.tmps.getD 8 undef,a.tmps.getD 9 undef,a.tmps.getD 10 undef,a.tmps.getD 11 undef,a.tmps.getD 12 undef,a.tmps.getD 13 undef,a.tmps.getD 14 undef,a.tmps.getD 15 undef,a.tmps.getD 16 undef,a.tmps.getD 17 undef,a.tmps.getD 18 undef,a.tmps.getD 19 undef,a.tmps.getD 20 undef,a.tmps.getD 21 undef,a.tmps.getD 22 undef,a.tmps.getD 23 undef,a.tmps.getD 24 undef,a.tmps.getD 25 undef,a.tmps.getD 26 undef,a.tmps.getD 27 undef,a.tmps.getD 28 undef,a.tmps.getD 29 undef,a.tmps.getD 30 undef,a.tmps.getD 31 undef,a.tmps.getD 32 undef,a.tmps.getD 33 undef,a.tmps.getD 34 undef,a.tmps.getD 35 undef,a.tmps.getD 36 undef,a.tmps.getD 37 undef,a.tmps.getD 38 undef,a.tmps.getD 39 undef,a.tmps.getD 40 undef,a.tmps.getD 41 undef,a.tmps.getD 42 undef,a.tmps.getD 43 undef,a.tmps.getD 44 undef,a.tmps.getD 45 undef,a.tmps.getD 46 undef,a.tmps.getD 47 undef,a.tmps.getD 48 undef,a.tmps.getD 49 undef,a.tmps.getD 50 undef,a.tmps.getD 51 undef],defers:=[]}):dy N w v0 l0 D a wr:=⟨λk=>a.tmps.getD k undef,A,n,c,i,l,h,G,F,S⟩
def fg(N:Nat)(w:W)(v:V)(l:List BM)(e:Ending)(w' :W):Prop:=∃v' l',e=R v' /\w'.ownsRow 0 202 3 v' l'.length (AR l')/\az N l l' /\AD (λk=>v.ownBlock=S k) w w' /\FA w v v'
theorem JG(N)(hN:N<1000000000000000000)(H)(A2:H<=N)(w v0)(l0:List BM)(h:w.ownsRow 0 202 3 v0 l0.length (AR l0))(m:l0.length<=100000)(hl:Cv N l0):
  C prog 266 #[v0,I U H] w (fg N w v0 l0):=by
 obtain⟨s,u,rfl⟩:=AF h;obtain⟨X,d⟩:∃n,n=l0.length:=⟨_,rfl⟩;rw[<-d]at h⊢;have AA:=Zh (show RC N w (L s X u) l0 s X u l0 w from⟨h,d,⟨rfl,E _,hl⟩,AD.refl _ _,.inl rfl⟩);have Ac:=Zh m;have Ap:X<=100000:=by omega
 have z0:J.wrap ((X:Int)-2)=(X:Int)-2:=by rw[ej];omega
 clear h hl d m;go_enter func266,ntmps266;go_wp2_with fail;refine EH 0 (dy N w (L s X u) l0 H) (λa _=>(Ks (a.tmps.getD 5 undef)+2).toNat) rfl ?pass ?first
 case pass=>
  clear AA Ap z0;rintro a' wr ⟨f,A,n,c,i,l,rfl,Aw,Ar,S⟩;have D:=Zh S;have A4:n<=100000:=by have:=S.len;have:=S.rel.2.1;have:=Ac.out;omega
  clear S;by_cases hi:i<1
  ·go_wp2_with fail;simp only[Exit.jump];go_ret;exact⟨_,l,rfl,by rw[<-D.out.len];exact D.out.own,D.out.rel,D.out.away,D.out.kin⟩
  ·obtain⟨q,rfl⟩:∃q:Nat,i=(q:Int):=⟨i.toNat,by omega⟩;have A5:1<=q:=by omega
   have Ax:q+1<n:=by omega
   have O:q+1<l.length:=by rw[<-D.out.len];exact Ax
   rcases AH D.out.own with⟨_,d,_⟩|⟨g,A6,hv,_,_,_,Av⟩
   ·omega
   simp only[L.injEq]at hv;obtain⟨rfl,-,rfl⟩:=hv;obtain⟨y0,y1,y2⟩:=BC D.out.own D.out.len q (by omega);obtain⟨x0,x1,x2⟩:=BC D.out.own D.out.len (q+1) O;have M:=D.out.rel.2.2 _ (NW O);have Q:=D.out.rel.2.2 _ (NW (show q<l.length by omega));obtain⟨x,hx⟩:∃x,x=l[q+1]'O:=⟨_,rfl⟩;obtain⟨y,hy⟩:∃y,y=l[q]'(by omega):=⟨_,rfl⟩;rw[<-hx]at x0 x1 x2 M;rw[<-hy]at y0 y1 y2 Q;have F:=Zh (Zi hx (Zi hy (Zi M Q)));have z1:¬(q:Int)<1:=by omega
   have z2:J.wrap ((q:Int)+1)=((q+1:Nat):Int):=by rw[ej];omega
   have z3:((q+1:Nat):Int)<(n:Int):=by omega
   have z4:(q:Int)<(n:Int):=by omega
   have z5:J.wrap ((q:Int)-1)=((q-1:Nat):Int):=by rw[ej];omega
   have e1:U.wrap ((y.2.1:Int)+(x.2.1:Int))=(y.2.1:Int)+(x.2.1:Int):=by rw[fk];have:=M.2.2;have:=Q.2.2;omega
   have e2:U.wrap ((y.2.1:Int)+(x.2.1:Int)+(x.2.2:Int))=(y.2.1:Int)+(x.2.1:Int)+(x.2.2:Int):=by rw[fk];have:=M.2.2;have:=Q.2.2;omega
   have e3:U.wrap ((x.2.1:Int)+(y.2.1:Int))=((x.2.1+y.2.1:Nat):Int):=by rw[fk];have:=M.2.2;have:=Q.2.2;omega
   have A3:=Av;clear hx hy M Q hi Aw Ar;go_upto_region 4 with fail;go_cut [6]from 13 to 17 (λp Z=>∃b,p=P (some ⟨b,0,none⟩)/\AI Z b #[I J x.1,I U x.2.1,I U x.2.2] 202/\b≠g/\RC N w (L s X u) l0 (some ⟨g,0,none⟩) n c l Z);case first=>
    have HK:=Zh (D.out.next ((B.refl _ wr).alloc (E _) (.cells #[I J x.1,I U x.2.1,I U x.2.2] 202)));have HG:=Zh (show wr.heap.size≠g by omega);clear D;go_wp2_with fail;go_meet;exact⟨_,rfl,AI.newAt rfl,HG.out,HK.out⟩
   case rest=>
    obtain⟨b,rfl,hb,j,S5⟩:=hcut;rename W=>w5;have HX:=Zh (Zi hb (Zi j S5));have x1:w5.cell? ⟨b,1,none⟩=some (I U x.2.1):=hb.cell rfl;have x2:w5.cell? ⟨b,2,none⟩=some (I U x.2.2):=hb.cell rfl;have y1:w5.cell? ⟨g,q*3+1,none⟩=some (I U y.2.1):=by rw[F.out.2.1];exact(BC S5.own S5.len q (by omega)).2.1
    clear hb j S5 D;by_cases hS:y.2.1+x.2.1+x.2.2<=H
    ·have f1:(y.2.1:Int)+(x.2.1:Int)+(x.2.2:Int)<=(H:Int):=by omega
     go_upto_region 5 with fail;go_cut [30]from 18 to 30 (λr Z=>r=.bool true/\AI Z b #[I J x.1,I U x.2.1,I U x.2.2] 202/\b≠g/\RC N w (L s X u) l0 (some ⟨g,0,none⟩) n c l Z);case first=>
      go_quiet(fail);go_wp2_with fail;go_meet;exact⟨rfl,HX.out.1.below (w' :=w5.drewN nq) ⟨rfl,rfl,rfl,E _,λ_ _=>rfl⟩ HX.out.1.lt,HX.out.2.1,HX.out.2.2.next ⟨rfl,rfl,rfl,E _,λ_ _=>rfl⟩⟩
     case rest=>
      obtain⟨rfl,Ay,j,K⟩:=hcut;rename W=>w6;clear HX x1 x2 y1 Ay j;have v:=F.out.2.2.1;obtain⟨z,hz⟩:∃z:BM,z=(x.1,x.2.1+y.2.1,x.2.2):=⟨_,rfl⟩;have x1:w6.cell? ⟨g,(q+1)*3+1,none⟩=some (I U x.2.1):=by rw[F.out.1];exact(BC K.own K.len (q+1) O).2.1
      have y1:w6.cell? ⟨g,q*3+1,none⟩=some (I U y.2.1):=by rw[F.out.2.1];exact(BC K.own K.len q (by omega)).2.1
      have fz:=K.own.frozenAt ((q+1)*3+1);have Aa:=(K.own.lt g rfl).2;have Y:=Zh (K.drew.set (q:=q+1) O (x.2.1+y.2.1));have o:=Zh (Yl l q z O K.rel.2.2 (by rw[hz];exact⟨v.1,by have:=v.2.1;simp only;omega,by simp only;omega⟩) (by rw[hz,<-F.out.1,<-F.out.2.1];simp only;omega));rw[<-F.out.1,<-hz]at Y;have Ab:=Zh K;clear v hz K;go_upto_region 6 with fail;go_cut [42]from 31 to 44 (λ_ Z=>Z.ownsRow 0 202 3 (L (some ⟨g,0,none⟩) n c) n (AR (l.set (q+1) z))/\AD (λk=>(L s X u).ownBlock=some k) w Z);case first=>
       go_region;all_goals(
        go_wp2_with fail;go_meet;exact Y.out)
      case rest=>
       obtain⟨o7,a7⟩:=hcut;rename W=>w7;clear Y x1 y1 fz Aa;have G:=OR w7 g n c q (l.set (q+1) z) o7 (by omega) (by omega);rw[<-Yj]at G;obtain⟨l2,Al⟩:∃l2,l2=(l.set (q+1) z).take q++(l.set (q+1) z).drop (q+1):=⟨_,rfl⟩;rw[<-Al]at G o;have A1:=Zh a7;clear o7 a7 Al;go_wp2_with fail;refine G.mono ?_;rintro e w8 ⟨rfl,o8,a8⟩;have HF:=Zh (Ab.out.cut A1.out o8 (by rw[o.out.2,<-Ab.out.len]) o.out.1 a8);clear G o8 a8;go_wp2_with fail;go_step3;refine⟨rfl,dy.of (i:=((q-1:Nat):Int)) HF.out (by omega) (by omega) (by kernel_rfl),?_⟩;simp[Ks];omega
    ·have f1:¬(y.2.1:Int)+(x.2.1:Int)+(x.2.2:Int)<=(H:Int):=by omega
     go_upto_region 5 with fail;go_cut [30]from 18 to 30 (λr Z=>r=.bool false/\RC N w (L s X u) l0 (some ⟨g,0,none⟩) n c l Z);case first=>
      go_quiet(fail);go_wp2_with fail;go_meet;exact⟨rfl,HX.out.2.2.next (W' :=w5.drewN nq) ⟨rfl,rfl,rfl,E _,λ_ _=>rfl⟩⟩
     case rest=>
      obtain⟨rfl,K⟩:=hcut;rename W=>w6;have HF:=Zh K;clear HX x1 x2 y1 K;go_wp2_with fail;go_step3;refine⟨rfl,dy.of (i:=((q-1:Nat):Int)) HF.out (by omega) (by omega) (by kernel_rfl),?_⟩;simp[Ks];omega
 case first=>
  intro hp;go_wp2_with fail;go_step3;rename_i hK;exact hK _ _ (hp _ _ (dy.of (i:=(X:Int)-2) AA.out (by omega) (by omega) (by kernel_rfl)))
open Go
section
variable {P:Program} {ops:Array Oper} {md:Region.Mode} {C:W->Prop}
def Oq(md:Region.Mode)(ops:Array Oper)(k0 n:Nat):Bool:=(RR n).all λi=>decide (i<k0)||(RR (n+1)).any λj=>decide (i<j)&&Region.waitsFor md ops j i
theorem KM{s n}{D:Array Bool}(z:Oq md ops s n=true)(x:FO md ops n=true)(hn:n<ops.size)(M:HeadInv md ops n D):
  ∀(d i:Nat),n-i=d->s<=i->i<n->D.getD i true=false->∀t,n<=t->t∉Region.ready md ops D:=by
 intro d;induction d using gX with
 |_ d ih=>
  intro i hd y hi Z t ht u;obtain⟨_,r,O,K⟩:=mem_ready.1 u;have Q:t<ops.size:=(Array.getElem?_eq_some_iff.1 O).1;by_cases g:t=n
  ·subst g;have H:=List.all_eq_true.1 z i (List.mem_range.2 hi);simp only[fp,decide_eq_true_eq]at H;obtain⟨j,h,a⟩:=List.any_eq_true.1 (H.resolve_left (by omega));simp only[V0,decide_eq_true_eq]at a;obtain⟨v,Y,e,f,b,G⟩:=Region.waitsFor_spec a.2;have q:j<=t:=by have:=List.mem_range.1 h;omega
   by_cases X:j=t
   ·subst X;have:v=r:=Q0 (Y.symm.trans O);subst this;have F:=K e f b;rw[G,getD_both Z]at F;cases F
   ·cases o:D.getD j false with
    |true=>
     have F:=M.closed j v Y o e f b;rw[G,getD_both Z]at F;cases F
    |false=>
     have k:j<D.size:=by rw[M.size];omega
     exact ih (t-j) (by omega) j rfl (by omega) (by omega) (getD_in k o) t (E _) u
  ·have H:=List.all_eq_true.1 x t (List.mem_range.2 Q);simp only[fp,decide_eq_true_eq]at H;rcases H with H|H
   ·omega
   ·obtain⟨j,h,F⟩:=List.any_eq_true.1 H;simp only[V0,decide_eq_true_eq]at F;have X:=List.mem_range.1 h;obtain⟨o',m,e,f,b,G⟩:=Region.waitsFor_spec F.2;have:o' =r:=Q0 (m.symm.trans O);subst this;have p:=K e f b;rw[G,getD_both (M.tail j F.1 (by omega))]at p;cases p
theorem Ot{k0 n i oi v}{L:Array Bool->Act->Prop}(hi:ops[i]?=S oi)(X:∀(j:Nat) (o:Oper) q b,ops[j]?=S o->o.op≠ .select q b)
  (hs:Oq md ops k0 n=true)(hc:FO md ops n=true)(hn:n<ops.size)(K:k0<=i)(x:i<n)(g:∀s a,L s a->∀j∈Region.ready md ops s,n<=j):
  ∀(f:Nat) (s:Array Bool) (a:Act),HeadInv md ops n s->
   (∀j m,ops[j]?=S m->j≠i->s.getD j true=false->(∀e∈m.after,Region.binds md e=true->e.on≠i)->oi.apart ops m=true)->
   i∈Region.ready md ops s->YieldsIn P ops C oi v a->Gp P md ops C n L f (s.setIfInBounds i true) (a.put oi.dst v)->Gp P md ops C n L (f+1) s a:=by
 intro f;induction f with
 |zero=>
  intro s a M _ Y z H;have O:=(mem_ready.1 Y).1;refine⟨λh=>(by rw[h]at Y;cases Y),λj Z=> ?_⟩;have G:j<n:=gY λh=>KM hs hc hn M _ i rfl K x O j h Z;refine⟨G,?_⟩;by_cases D:j=i
  ·subst D;exact z.qOp hi H
  ·have:=g _ _ H j (ready_mono Z D);omega
 |succ f ih=>
  intro s a M F Y z H;have O:=(mem_ready.1 Y).1;refine⟨λh=>(by rw[h]at Y;cases Y),λj Z=> ?_⟩;have G:j<n:=gY λh=>KM hs hc hn M _ i rfl K x O j h Z;refine⟨G,?_⟩;by_cases D:j=i
  ·subst D;exact z.qOp hi H
  ·obtain⟨Q,m,d,y⟩:=mem_ready.1 Z;have p:∀e∈m.after,Region.binds md e=true->e.on≠i:=λe he hb AA=>by
    have h1:=y e he hb;rw[AA,getD_both O]at h1;cases h1
   have h2:=qOp_put d (F j m d D Q p) (λq b=>X i oi q b hi) (λq b=>X j m q b d) z (H.2 j (ready_mono Z D)).2;refine qOp_mono (λa' h3=>ih (s.setIfInBounds j true) a' (M.set Z G) (λk ok hk K u Aa=>F k ok hk K ?_ Aa) (ready_mono Y (Ne.symm D)) h3.1 ?_) h2
   ·by_cases r:j=k
    ·subst r;exact Q
    ·rw[getD_set_ne true r]at u;exact u
   ·rw[Array.setIfInBounds_comm _ _ D];exact h3.2
theorem Sy{f n}{D:Act->Prop}(F:Region.noSelect ops=true)(p:Oq md ops f n=true)(y:FO md ops n=true)(q:n<ops.size):
  ∀(l:List Oper) (k:Nat) (s:Array Bool) (a:Act),(∀j,j<l.length->l[j]?=ops[k+j]?)->f<=k->k+l.length=n->HeadInv md ops n s->
  Ep md ops n l.length k s=true->wpQuiet P ops C D l a->Gp P md ops C n (λQ e =>(Q =QZ l.length k s/\(Region.ready md ops Q).all (λj=>decide (n<=j))=true)/\D e) l.length s a:=by
 intro l;induction l with
 |nil=>
  intro k s a _ K b _ O h;exact⟨⟨rfl,O⟩,h⟩
 |cons o l x=>
  intro k s a Z K b H O h;have M:ops[k]?=S o:=by simpa using(Z 0 (by simp)).symm
  simp only[bw,Ep,V0]at O;obtain⟨⟨m,g⟩,X⟩:=O;simp only[bw]at b;have G :k∈Region.ready md ops s:=by simpa using m
  have Y:qOp P ops C k (wpQuiet P ops C D l) a:=by unfold qOp;simp only[M];exact h
  obtain⟨v,i,u⟩:=yieldsIn_of_qOp M Y;refine Ot M (Region.noSelect_spec F) p y q K (by omega) (λQ e r j d=> ?_) l.length s a H (Region.free_spec M g) G i ?_
  ·have:=List.all_eq_true.1 r.1.2 j d;simpa using this
  exact x (k+1) _ _ (λj d=>by have:=Z (j+1) (by simp;omega);simpa[Nat.add_assoc,Nat.add_comm 1 j]using this) (by omega) (by omega) (H.set G (by omega)) X u
def Ym(md:Region.Mode)(ops:Array Oper)(n:Nat)(s:Array Bool):Bool:=decide (s.size=ops.size)&&((RR ops.size).all λt=>decide (t<n)||(s.getD t true==false))&&(RR ops.size).all λj=>(s.getD j false==false)||match ops[j]? with|some o=>o.after.toList.all λe=> !Region.binds md e||s.getD e.on false|none=>true
theorem Sz{n}{s:Array Bool}(h:Ym md ops n s=true):HeadInv md ops n s:=by
 simp only[Ym,V0,decide_eq_true_eq,gZ,List.mem_range,fp,beq_iff_eq]at h;obtain⟨⟨X,H⟩,K⟩:=h;refine⟨X,λj Z D G e Q M=> ?_,λt Y F=> ?_⟩
 ·have O:j<ops.size:=(Array.getElem?_eq_some_iff.1 D).1;rcases K j O with h|h
  ·rw[G]at h;cases h
  ·rw[D]at h;simp only[gZ,fp]at h;rcases h e (by simpa using Q)with h|h
   ·rw[M]at h;cases h
   ·exact h
 ·rcases H t (by simpa using F)with h|h
  ·omega
  ·exact h
def cK(md:Region.Mode)(ops:Array Oper)(k0 n:Nat)(s:Array Bool):Bool:=Region.noSelect ops&&decide (n<ops.size)&&decide (k0<=n)&&Oq md ops k0 n&&FO md ops n&&Ym md ops n s&&Ep md ops n (n-k0) k0 s
theorem IW{Q a w}{l:List Oper}{s:Array Bool}{g m}(D n)(d:cK .any l.toArray D n s=true)(o:n-D+g=m)(f:C w)
  (h:wpQuiet P l.toArray C (λb =>∀w',C w' ->wpAny P .any l.toArray Q g (QZ (n-D) D s) b w') ((l.drop D).take (n-D)) a):wpAny P .any l.toArray Q m s a w:=by
 simp only[cK,V0,decide_eq_true_eq]at d;obtain⟨⟨⟨⟨⟨⟨G,Y⟩,v⟩,i⟩,r⟩,K⟩,M⟩:=d;have e :n<l.length:=by simpa using Y
 have F:((l.drop D).take (n-D)).length=n-D:=by simp;omega
 have H:=Sy (md:=.any) G i r Y ((l.drop D).take (n-D)) D s a (λj Z=>by
  have O :j<n-D:=by rw[F]at Z;exact Z
  simp[O,List.getElem?_take,List.getElem?_drop]) (E _) (by rw[F];omega) (Sz K) (by rw[F];exact M) h
 have k:=F6 (Q:=Q) (g:=g) (λu b w' X q=>by
  obtain⟨⟨rfl,_⟩,p⟩:=q;have:=p w' X;rw[F];exact this) _ _ _ _ f H
 rw[F,o]at k;exact k
end
def cL:Prop:=∀(w:W) (v:V) (xs:List Int),w.ownsRow 0 2 1 v xs.length (BG xs)->xs≠ []->xs.length<=1000->
 C prog 264 #[v] w λe w' =>e=R (T #[])/\∃ys,ys.Perm xs/\w'.ownsRow 0 2 1 v ys.length (BG ys)/\AD (λk=>v.ownBlock=S k) w w'
def ED(num den n:Nat):Nat:=if(KV (2*num) n den).2=true then max (KV (2*num) n den).1 1 else n
theorem UI(num den n:Nat)(F:Ki num den=true):ED num den n<=max n 1:=by
 obtain⟨D,H,G⟩:=(Hy num den).1 F;have:=dV num den n G D;unfold ED;split<;>omega
theorem MA(num den n:Nat)(w)(M:Ki num den=true)(a:n<9223372036854775808):
  C prog 102 #[.agg #[I U num,I U den],I U n] w λe w' =>e=R (I U (ED num den n:Nat))/\B w.heap.size w w' :=by
 obtain⟨Y,X,Z⟩:=(Hy num den).1 M;have O:B w.heap.size w (w.alloc (.cells #[I U num,I U den] 25)):=Za;have G:=Je (2*num) n den (w.alloc (.cells #[I U num,I U den] 25)) (by omega) (by omega) (by omega);have K:U.wrap (2*(num:Int))=((2*num:Nat):Int):=by rw[fk];omega
 have F:=Zh O;unfold ED;generalize(KV (2*num) n den).1=t at G⊢;generalize(KV (2*num) n den).2=ok at G⊢;clear M Y X Z O;cases ok with
 |false=>
  go_enter func102,ntmps102;go_wp2_with fail;refine G.mono ?_;rintro e Q ⟨rfl,H⟩;have D:=Zh (F.out.trans (H.mono F.out.size));clear G H F K;go_wp2_with fail;go_ret;exact⟨rfl,D.out⟩
 |true=>
  go_enter func102,ntmps102;go_wp2_with fail;refine G.mono ?_;rintro e Q ⟨rfl,H⟩;have D:=Zh (F.out.trans (H.mono F.out.size));clear G H F K;go_wp2_with fail;go_ret;refine⟨?_,D.out⟩;have:max (t:Int) 1=((max t 1:Nat):Int):=by omega
  simp only[if_true];rw[this];rfl
def CX(sb:Nat)(rv wv:V)(k:Nat):Prop:=k=sb\/rv.ownBlock=S k\/wv.ownBlock=S k
structure IH(w:W)(O:Nat->Prop)(w' :W)(O' :Nat->Prop):Prop where
 away:AD O w w'
 sub:BV w O O'
theorem IH.refl(w O):IH w O w O:=⟨AD.refl _ _,BV.refl _ _⟩
theorem IH.of_below{w w' O}(b:B w.heap.size w w'):IH w O w' O:=⟨AD.of_below b,BV.refl _ _⟩
theorem IH.trans{w D H O G F}(h:IH w O D G)(k:IH D G H F):IH w O H F:=by
 refine⟨h.away.trans' k.away (λ_ _ h=>h) λj K e=> ?_,h.sub.trans k.sub h.away.size⟩;rcases h.sub j e with q|q
 ·exact q
 ·omega
theorem IH.next{w D F O G}(h:IH w O D G)(b:B D.heap.size D F):IH w O F G:=h.trans (IH.of_below b)
structure Ev(num den:Nat)(w:W)(sb:Nat)(rv:V)(row:List BM)(wv:V)(ws:List Int)(t:Nat):Prop where
 blk:AI w sb #[I U num,I U den,rv,wv,I U t] 180
 own:w.ownsRow 0 202 3 rv row.length (AR row)
 wown:w.ownsRow 0 2 1 wv ws.length (BG ws)
section
variable {num den:Nat} {w w' W W1:World} {sb:Nat} {rv rv' wv wv' :V} {row row' :List BM} {ws ws' :List Int} {t t' :Nat}
theorem Ev.ne(h:Ev num den w sb rv row wv ws t):rv.ownBlock≠S sb:=λG=>by
 obtain⟨D,F⟩:=AJ h.own G
 exact(h.blk.ne F (by decide)) rfl
theorem Ev.wne(h:Ev num den w sb rv row wv ws t):wv.ownBlock≠S sb:=λG=>by
 obtain⟨D,F⟩:=AJ h.wown G
 exact(h.blk.ne F (by decide)) rfl
theorem Ev.apart(h:Ev num den w sb rv row wv ws t){g}(G:rv.ownBlock=S g):wv.ownBlock≠S g:=λM=>by
 obtain⟨H,K⟩:=AJ h.wown M
 obtain⟨F,D⟩:=AJ h.own G
 exact(K.ne D (by decide)) rfl
theorem Ev.next(h:Ev num den w sb rv row wv ws t)(b:B w.heap.size w w'):Ev num den w' sb rv row wv ws t:=
 ⟨h.blk.below b h.blk.lt,AE h.own b λg D=>(h.own.lt g D).2,AE h.wown b λg D=>(h.wown.lt g D).2⟩
theorem Ev.away{G}(h:Ev num den w sb rv row wv ws t)(a:AD G w w')(n:∀k,CX sb rv wv k->¬G k):Ev num den w' sb rv row wv ws t:=
 ⟨h.blk.away a (n _ (.inl rfl)),AU h.own a λg D=>n g (.inr (.inl D)),AU h.wown a λg D=>n g (.inr (.inr D))⟩
theorem Ev.drew(h:Ev num den w sb rv row wv ws t):Ev num den w.drew sb rv row wv ws t:=h.next (B.refl _ _).drew
theorem Ev.cells(h:Ev num den w sb rv row wv ws t):w.cell? ⟨sb,0,N⟩=S (I U num)/\w.cell? ⟨sb,1,N⟩=S (I U den)/\w.cell? ⟨sb,2,N⟩=S rv/\w.cell? ⟨sb,3,N⟩=S wv/\w.cell? ⟨sb,4,N⟩=S (I U t)/\w.frozen? ⟨sb,2,N⟩=false/\w.frozen? ⟨sb,3,N⟩=false/\w.frozen? ⟨sb,4,N⟩=false/\sb<w.heap.size:=
 ⟨h.blk.cell rfl,h.blk.cell rfl,h.blk.cell rfl,h.blk.cell rfl,h.blk.cell rfl,h.blk.frozen 2,h.blk.frozen 3,h.blk.frozen 4,h.blk.lt⟩
theorem Ev.rowed(h:Ev num den W sb rv row wv ws t)(a:AD (λk=>rv.ownBlock=S k) W W1)(o:W1.ownsRow 0 202 3 rv' row'.length (AR row'))(n:FA W rv rv'):
  Ev num den (W1.setCell ⟨sb,2,N⟩ rv') sb rv' row' wv ws t/\IH W (CX sb rv wv) (W1.setCell ⟨sb,2,N⟩ rv') (CX sb rv' wv):=by
 have F:AI W1 sb _ 180:=h.blk.away a h.ne;have K:W1.ownsRow 0 2 1 wv ws.length (BG ws):=AU h.wown a λg G M=>h.apart M G;have O:rv'.ownBlock≠S sb:=λQ=>by
  obtain⟨H,X⟩:=AJ o Q;exact(F.ne X (by decide)) rfl
 refine⟨⟨F.set 2 rv',AN o ⟨sb,2,N⟩ rv' O,AN K ⟨sb,2,N⟩ rv' h.wne⟩,AD.setCell (a.mono λi _ e=>.inr (.inl e)) ⟨sb,2,N⟩ rv' (.inl (.inl rfl)),λk D=> ?_⟩;rcases D with D|D|D
 ·exact .inl (.inl D)
 ·rcases n with q|⟨i,q1,q2⟩
  ·exact .inl (.inr (.inl (by rw[<-q];exact D)))
  ·have:i=k:=by rw[q1]at D;exact Q0 D
   exact .inr (by omega)
 ·exact .inl (.inr (.inr D))
theorem Ev.waited(h:Ev num den W sb rv row wv ws t)(a:AD (λk=>wv.ownBlock=S k) W W1)(o:W1.ownsRow 0 2 1 wv ws'.length (BG ws')):
  Ev num den W1 sb rv row wv ws' t/\IH W (CX sb rv wv) W1 (CX sb rv wv):=
 ⟨⟨h.blk.away a h.wne,AU h.own a λg D=>h.apart D,o⟩,a.mono λi _ e=>.inr (.inr e),BV.refl _ _⟩
theorem Ev.empty(h:Ev num den W sb rv row wv ws t):Ev num den (W.setCell ⟨sb,3,N⟩ (L N 0 0)) sb rv row (L N 0 0) [] t/\IH W (CX sb rv wv) (W.setCell ⟨sb,3,N⟩ (L N 0 0)) (CX sb rv (L N 0 0)):=by
 refine⟨⟨h.blk.set 3 _,AN h.own ⟨sb,3,N⟩ _ h.ne,World.ownsRow_nil _ _ _ _⟩,AD.setCell (AD.refl _ _) ⟨sb,3,N⟩ _ (.inl (.inl rfl)),λk D=> ?_⟩;rcases D with D|D|D
 ·exact .inl (.inl D)
 ·exact .inl (.inr (.inl D))
 ·cases D
end
theorem Hz{w:W}{B g n D:Nat}{l:List Int}(h:w.ownsRow B 2 1 (L (S ⟨g,0,N⟩) n D) n (BG l))(G:n=l.length)(i:Nat)(hi:i<l.length):w.cell? ⟨g,i,N⟩=S (I J (l[i]'hi)):=by
 subst G;have F:=h.cellAt i (by omega);rw[Lr l i hi]at F;exact F
structure eX(num den:Nat)(w0:World)(sb:Nat)(rv0:V)(row0:List BM)(wv:V)(ys:List Int)(t q:Nat)(rv:V)(row:List BM)(W:World):Prop where
 gr:Ev num den W sb rv row wv ys t
 st:IH w0 (CX sb rv0 wv) W (CX sb rv wv)
 sum:BO row=BO row0+q
 len:row.length=row0.length+q
 good:∀N,1<=N->(∀x∈ys,Am x)->Cv N row0->Cv N row
theorem eX.step{num den w0 W w5 sb t q H rv v5 wv}{F row l5:List BM}{K}(D:eX num den w0 sb H F wv K t q rv row W)(O:q<K.length)(o:w5.ownsRow 0 202 3 v5 l5.length (AR l5))(r:dW row (K[q]'O) l5)(a:AD (λk=>rv.ownBlock=some k) W w5)(n:FA W rv v5):
  eX num den w0 sb H F wv K t (q+1) v5 l5 (w5.setCell ⟨sb,2,none⟩ v5):=by
 obtain⟨G,S⟩:=D.gr.rowed a o n;exact⟨G,D.st.trans S,by rw[r.1,D.sum];omega,by rw[r.2.1,D.len];omega,λN Q M X=>r.2.2 N Q (M _ (NW O)) (D.good N Q M X)⟩
def fh(num den:Nat)(w:W)(sb:Nat)(rv:V)(row:List BM)(wv:V)(ws:List Int)(t N:Nat)(e:Ending)(w' :W):Prop:=
 e=R (T #[])/\∃rv' row' wv',Ev num den w' sb rv' row' wv' [] t/\IH w (CX sb rv wv) w' (CX sb rv' wv')/\BO row' =BO row+ws.length/\Cv N row'
structure cM(num den:Nat)(w:World)(sb:Nat)(rv:V)(row:List BM)(t:Nat)(W:World):Prop where
 gr:Ev num den W sb rv row (L N 0 0) [] t
 below:B w.heap.size w W
theorem cM.drew{num den w W sb rv}{row:List BM}{t}(h:cM num den w sb rv row t W):cM num den w sb rv row t W.drew:=⟨h.gr.drew,h.below.drew⟩
theorem cM.next{num den w W W' sb rv}{row:List BM}{t}(h:cM num den w sb rv row t W)(b:B W.heap.size W W'):cM num den w sb rv row t W' :=⟨h.gr.next b,h.below.trans (b.mono h.below.size)⟩
theorem VW(HS:cL)(num den:Nat)(hg:Ki num den=true)(w)(sb:Nat)(rv)(row:List BM)(wv ws)(t N:Nat)(h:Ev num den w sb rv row wv ws t)(hN:max t 1<=N)(s:N<=100000)(M:ws.length<=1000)(Aa:row.length<=50000)(G:Cv N row)(o:∀x∈ws,Am x):
  Calls prog 260 #[P (S ⟨sb,0,none⟩)] w (fh num den w sb rv row wv ws t N):=by
 obtain⟨c0,c1,c2,m,c4,f2,f3,f4,cl⟩:=h.cells;by_cases H:ws=[]
 ·subst H;obtain⟨A,c,rfl⟩:=AF h.wown;have Ap:=Zh (show fh num den w sb rv row (L A ([]:List Int).length c) [] t N (R (T #[])) w from⟨rfl,rv,row,_,h,IH.refl _ _,rfl,G⟩);simp only[es]at Ap m⊢;clear h hg hN s M Aa G o HS;go_enter func260,ntmps260;go_wp2_with fail;go_end0;exact Ap.out
 ·obtain⟨g2,c,rfl⟩:∃g2 c,wv=L (S ⟨g2,0,none⟩) ws.length c:=by
   rcases AH h.wown with⟨_,h2,_⟩|⟨g,Av,h1,_⟩
   ·exact absurd (fw h2) H
   ·exact⟨g,Av,h1⟩
  have u:=HS w _ ws h.wown H M;obtain⟨n,hn⟩:∃n,n=ws.length:=⟨_,rfl⟩;have z:=Zh (Zi h (Zi hg (Zi G o)));have Z:=Zh (Zi hn (Zi hN s));have Ax:0<n:=by rw[hn];exact List.length_pos_iff.2 H
  have g0:((n:Int)==0)=false:=by simp;omega
  have Aw:n<=1000:=by omega
  rw[<-hn]at u m;clear h hg hN s M G o H HS hn;go_enter func260,ntmps260;go_wp2_with fail;refine u.mono ?_;rintro e w1 ⟨rfl,y,r,o1,a1⟩;have Al:n=y.length:=by rw[r.length_eq];exact Z.out.1
  rw[Z.out.1]at o1 a1;obtain⟨G1,S1⟩:=z.out.1.waited a1 o1;rw[<-Z.out.1]at G1 S1;have AA:=Zh (show eX num den w1 sb rv row (L (S ⟨g2,0,none⟩) n c) y t 0 rv row w1 from⟨G1,IH.refl _ _,rfl,rfl,λ_ _ _ h=>h⟩);have HY:=Zh (Zi Al (Zi r S1));obtain⟨c0,c1,c2,m,c4,f2,f3,f4,cl⟩:=G1.cells;clear u o1 a1 G1 S1 Al r g0;go_wp2_with fail;go_loopg [24] n (λg i b=>∃(q:Nat) (v' :V) (l' :List BM),i=I J q/\q<=n/\n-q<=g/\eX num den w1 sb rv row (L (S ⟨g2,0,none⟩) n c) y t q v' l' b);case atStart=>exact⟨0,rv,row,rfl,ag _,E _,AA.out⟩
  case round=>
   clear AA c0 c1 c2 m c4 f2 f3 f4 cl;rename World=>b;obtain⟨q,v',l',rfl,hq,hg,D⟩:=hrel;by_cases Ar:q<n
   ·have g1:(q:Int)<(n:Int):=by omega
    have d:q<y.length:=by rw[<-HY.out.1];exact Ar
    have p0:=Hz (by have:=D.gr.wown;rw[<-HY.out.1]at this;exact this) HY.out.1 q d;have hI:∀x∈y,Am x:=λx O=>z.out.2.2.2 x (HY.out.2.1.mem_iff.1 O);have Q:=RB N (by have:=Z.out.2.2;omega) b v' l' (y[q]'d) D.gr.own (by have:=D.len;omega) (D.good N (by have:=Z.out.2.1;omega) hI z.out.2.2.1);have F:=Zh (λw5 v5 l5 a k a5 p=>D.step (w5:=w5) (v5:=v5) (l5:=l5) d a k a5 p);have HB:=Zh (Zi D.gr.blk D.gr.ne);obtain⟨c0,c1,c2,m,c4,f2,f3,f4,cl⟩:=D.gr.cells;generalize y[q]'d=x at p0 Q F;clear D hI;go_wp2_with fail;refine Q.mono ?_;rintro e w5 ⟨v5,l5,rfl,a,k,a5,p⟩;have HJ:=Zh (F.out w5 v5 l5 a k a5 p);have f:=HB.out.1.away a5 HB.out.2;obtain⟨A5,d5,rfl⟩:=AF a;generalize l5.length=m5 at HJ;have y2:w5.cell? ⟨sb,2,none⟩=S v' :=f.cell rfl;have y3:w5.frozen? ⟨sb,2,none⟩=false:=f.frozen 2;have y4:=f.lt;clear Q F c0 c1 c2 m c4 f2 f3 f4 cl p0 a k a5 p f;go_wp2_with fail;go_roundg (n-(q+1));case measure=>omega
    exact⟨q+1,_,l5,by go_num,by omega,E _,HJ.out⟩
   ·have g1:¬(q:Int)<(n:Int):=by omega
    obtain rfl:q=n:=by omega
    obtain⟨G2,S2⟩:=D.gr.empty;have HK:=Zh (Zi D.sum (Zi D.len (Zi D.good (D.st.trans S2))));obtain⟨c0,c1,c2,m,c4,f2,f3,f4,cl⟩:=D.gr.cells;clear D S2;go_upto_region 8 with fail;generalize b.setCell ⟨sb,3,none⟩ (L none 0 0)=w2 at G2 HK⊢;have Y:=λW=>MA num den t W z.out.2.1 (by have:=Z.out.2;omega);have Ac:=UI num den t z.out.2.1;generalize ED num den t=lim at Y Ac;refine wp_region_any (by kernel_rfl) ?_;refine wpAny_take (i:=0) (oi:={dst:=S 41,op:=Op.move (Operand.tmp 0),type:=132,pos:= "greenwald.go:63",after:= #[],guard:=none}) (v:= ?_) rfl (by kernel_rfl) (by kernel_rfl) (by kernel_rfl) (λ_ _ _ h=>h) (Or.inl ⟨by kernel_rfl,?_⟩) ?_;rotate_left
    ·intro wz;go_simp;try with_reducible rfl
    simp only[Pa,Zp,Zq,Zr];refine IW (C:=cM num den w2 sb v' l' t) (g:=4) 1 14 (by kernel_rfl) rfl (cM.drew ⟨G2,B.refl _ _⟩) ?_;clear G2 c0 c1 c2 m c4 f2 f3 f4 cl;simp only[List.drop_succ_cons,List.drop_zero,gc,gd,gS];repeat go_big_quiet_step(exact λ_=>rfl)
    go_big_quiet_want;refine⟨v',λb O=> ?_,?_⟩
    ·obtain⟨d0,d1,d2,d3,d4,_,_,_,dl⟩:=O.gr.cells;go_simp
    go_big_quiet_on;simp only[Pa,Zp,Zq,Zr];repeat go_big_quiet_step(exact λ_=>rfl)
    go_big_quiet_want;refine⟨.agg #[I U num,I U den],λb O=> ?_,?_⟩
    ·obtain⟨d0,d1,d2,d3,d4,_,_,_,dl⟩:=O.gr.cells;go_simp
    go_big_quiet_on;simp only[Pa,Zp,Zq,Zr];repeat go_big_quiet_step(exact λ_=>rfl)
    go_big_quiet_want;refine⟨I U t,λb O=> ?_,?_⟩
    ·obtain⟨d0,d1,d2,d3,d4,_,_,_,dl⟩:=O.gr.cells;go_simp
    go_big_quiet_on;simp only[Pa,Zp,Zq,Zr];repeat go_big_quiet_step(exact λ_=>rfl)
    go_big_quiet_want;go_big_quiet_op;refine⟨I U lim,λb O=> ?_,?_⟩
    ·exact(Y b).mono λ_ _ hm=>⟨hm.1,O.next hm.2⟩
    go_big_quiet_on;repeat go_big_quiet_step(exact λ_=>rfl)
    refine wpQuiet_nil ?_;intro w4 H4;have Ab:=JG N (by have:=Z.out.2;omega) lim (by have:=Z.out.2.1;omega) w4 v' l' H4.gr.own (by have:=HK.out.2.1;omega) (HK.out.2.2.1 N (by have:=Z.out.2.1;omega) (λx O=>z.out.2.2.2 x (HY.out.2.1.mem_iff.1 O)) z.out.2.2.1);have X:=Zh H4;clear H4;refine wpAny_ready (rs:=[14]) (by kernel_rfl) (by simp) ?_;refine AllReady.cons rfl (λK hK=> ?_) AllReady.nil;go_simp;refine Ab.mono ?_;rintro e w5 ⟨v5,l5,rfl,a,k,a5,p⟩;obtain⟨G5,S5⟩:=X.out.gr.rowed a5 a p;have f:=X.out.gr.blk.away a5 X.out.gr.ne;have j:=Zh (show fh num den w sb rv row (L (S ⟨g2,0,none⟩) q c) ws t N (R (T #[])) (w5.setCell ⟨sb,2,none⟩ v5)from
     ⟨rfl,v5,l5,_,G5,HY.out.2.2.trans (HK.out.2.2.2.trans ((IH.of_below X.out.below).trans S5)),by rw[k.1,HK.out.1,Z.out.1],k.2.2⟩)
    obtain⟨A5,d5,rfl⟩:=AF a;generalize l5.length=m5 at j⊢;have y2:w5.cell? ⟨sb,2,none⟩=S v' :=f.cell rfl;have y3:w5.frozen? ⟨sb,2,none⟩=false:=f.frozen 2;have y4:=f.lt;clear Ab G5 S5 f X a k a5 p Y Ac;refine hK _ _ ?_;clear hK K;refine wpAny_take (i:=15) (v:= ?_) rfl (by kernel_rfl) (by kernel_rfl) (by kernel_rfl) (λ_ _ _ h=>h) (Or.inl ⟨by kernel_rfl,?_⟩) ?_;rotate_left
    ·intro wz;go_simp;try with_reducible rfl
    simp only[Pa,Zp,Zq,Zr];refine wpAny_take (i:=16) (v:= ?_) rfl (by kernel_rfl) (by kernel_rfl) (by kernel_rfl) (λ_ _ _ h=>h) (Or.inl ⟨by kernel_rfl,?_⟩) ?_;rotate_left
    ·intro wz;go_simp;try with_reducible rfl
    simp only[Pa,Zp,Zq,Zr];refine wpAny_ready (rs:=[17]) (by kernel_rfl) (by simp) ?_;refine AllReady.cons rfl (λK hK=> ?_) AllReady.nil;go_simp;refine hK _ _ ?_;clear hK K;refine wpAny_done (by kernel_rfl) ?_ _;go_wp2_with fail;go_end0;exact j.out
abbrev DZ:=List (V×List Int)
def Gf(rs:DZ):List Value:=rs.map (·.1)
def Bf(rs:DZ):CM:=rs.map (·.2)
theorem Ag(rs:DZ):(Bf rs).length=rs.length:=List.length_map ..
theorem Kj(rs:DZ)(i)(h:i<rs.length):(Gf rs)[i]?=S (rs[i]'h).1:=by simp[Gf,h]
theorem FP(rs:DZ)(i)(h:i<rs.length):(Bf rs)[i]'(by rw[Ag];exact h)=(rs[i]'h).2:=by simp[Bf]
theorem bC(rs:DZ)(i)(x:V×List Int):Gf (rs.set i x)=(Gf rs).set i x.1:=by unfold Gf;rw[gg]
theorem FQ(rs:DZ)(i)(x:V×List Int):Bf (rs.set i x)=(Bf rs).set i x.2:=by unfold Bf;rw[gg]
theorem MB(a b:DZ):Gf (a++b)=Gf a++Gf b:=gh
theorem Ew(a b:DZ):Bf (a++b)=Bf a++Bf b:=gh
def Yn(x y:V×List Int):Prop:=∀g,x.1.ownBlock=S g->y.1.ownBlock≠S g
theorem Yn.symm{x y:V×List Int}(h:Yn x y):Yn y x:=λg F D=>h g D F
theorem RD{rs:DZ}(h:rs.Pairwise Yn)(i j)(hi:i<rs.length)(D:j<rs.length)(F:i≠j):Yn (rs[i]'hi) (rs[j]'D):=by
 rcases gT i j with e|e
 ·exact List.pairwise_iff_getElem.1 h i j hi D e
 ·exact(List.pairwise_iff_getElem.1 h j i D hi (by omega)).symm
theorem Yo{rs:DZ}(h:rs.Pairwise Yn)(i)(x:V×List Int)(M:∀j (O:j<rs.length),j≠i->Yn x (rs[j]'O)):(rs.set i x).Pairwise Yn:=by
 rw[List.pairwise_iff_getElem];intro a b D G F;rw[aw]at D G;rw[gU,gU];by_cases H:i=a
 ·subst H;rw[if_pos rfl,if_neg (by omega)];exact M b G (by omega)
 ·rw[if_neg H];by_cases K:i=b
  ·subst K;rw[if_pos rfl];exact(M a D (by omega)).symm
  ·rw[if_neg K];exact List.pairwise_iff_getElem.1 h a b D G F
structure DN(wd:Nat)(word:Int)(W:World)(tb pb used:Nat)(rv:V)(rs:DZ)(t:Nat)(lo hi:Int):Prop where
 blk:AI W tb #[I J wd,I U word,P (S ⟨pb,0,N⟩),rv,I U t,I J lo,I J hi] 185
 tape:GY W pb word used
 own:W.ownsRow 0 178 1 rv rs.length (Gf rs)
 row:∀x∈rs,BD W x.1 x.2
 ap:rs.Pairwise Yn
def EE(tb pb:Nat)(rv:V)(rs:DZ)(k:Nat):Prop:=k=tb\/k=pb\/rv.ownBlock=S k\/∃x∈rs,x.1.ownBlock=S k
section
variable {wd:Nat} {word:Int} {w w' W W1:World} {tb pb used used' :Nat} {rv rv' :V} {rs rs' :DZ} {t t' :Nat} {lo hi lo' hi' :Int}
theorem DN.typed(h:DN wd word W tb pb used rv rs t lo hi){k}(D:EE tb pb rv rs k):∃H T,AI W k H T/\(T=185\/T=225\/T=178\/T=2):=by
 rcases D with rfl|rfl|D|⟨x,K,D⟩
 ·exact⟨_,_,h.blk,.inl rfl⟩
 ·exact⟨_,_,h.tape,.inr (.inl rfl)⟩
 ·obtain⟨F,G⟩:=AJ h.own D;exact⟨_,_,G,.inr (.inr (.inl rfl))⟩
 ·obtain⟨F,G⟩:=(h.row x K).blk D;exact⟨_,_,G,.inr (.inr (.inr rfl))⟩
theorem DN.lt(h:DN wd word W tb pb used rv rs t lo hi){k}(D:EE tb pb rv rs k):k<W.heap.size:=by
 obtain⟨_,_,F,_⟩:=h.typed D;exact F.lt
theorem DN.next(h:DN wd word w tb pb used rv rs t lo hi)(b:B w.heap.size w w'):DN wd word w' tb pb used rv rs t lo hi:=
 ⟨h.blk.below b h.blk.lt,AI.below h.tape b (AI.lt h.tape),AE h.own b λg D=>(h.own.lt g D).2,λx F=>(h.row x F).next b,h.ap⟩
theorem DN.away{G}(h:DN wd word w tb pb used rv rs t lo hi)(a:AD G w w')(n:∀k,EE tb pb rv rs k->¬G k):DN wd word w' tb pb used rv rs t lo hi:=
 ⟨h.blk.away a (n _ (.inl rfl)),AI.away h.tape a (n _ (.inr (.inl rfl))),AU h.own a λg D=>n g (.inr (.inr (.inl D))),λx F=>(h.row x F).away a λg D=>n g (.inr (.inr (.inr ⟨x,F,D⟩))),h.ap⟩
theorem DN.cells(h:DN wd word W tb pb used rv rs t lo hi):W.cell? ⟨tb,0,N⟩=S (I J wd)/\W.cell? ⟨tb,1,N⟩=S (I U word)/\W.cell? ⟨tb,2,N⟩=S (P (S ⟨pb,0,N⟩))/\W.cell? ⟨tb,3,N⟩=S rv/\W.cell? ⟨tb,4,N⟩=S (I U t)/\W.cell? ⟨tb,5,N⟩=S (I J lo)/\W.cell? ⟨tb,6,N⟩=S (I J hi)/\W.frozen? ⟨tb,3,N⟩=false/\W.frozen? ⟨tb,4,N⟩=false/\W.frozen? ⟨tb,5,N⟩=false/\W.frozen? ⟨tb,6,N⟩=false/\tb<W.heap.size:=
 ⟨h.blk.cell rfl,h.blk.cell rfl,h.blk.cell rfl,h.blk.cell rfl,h.blk.cell rfl,h.blk.cell rfl,h.blk.cell rfl,h.blk.frozen 3,h.blk.frozen 4,h.blk.frozen 5,h.blk.frozen 6,h.blk.lt⟩
theorem DN.ne_pb(h:DN wd word W tb pb used rv rs t lo hi):tb≠pb:=h.blk.ne (show AI W pb _ 225 from h.tape) (by decide)
theorem DN.rv_tb(h:DN wd word W tb pb used rv rs t lo hi):rv.ownBlock≠S tb:=λG=>by
 obtain⟨D,F⟩:=AJ h.own G
 exact(h.blk.ne F (by decide)) rfl
theorem DN.rv_pb(h:DN wd word W tb pb used rv rs t lo hi):rv.ownBlock≠S pb:=λG=>by
 obtain⟨D,F⟩:=AJ h.own G
 exact((show AI W pb _ 225 from h.tape).ne F (by decide)) rfl
theorem DN.row_tb(h:DN wd word W tb pb used rv rs t lo hi){x:V×List Int}(H:x∈rs):x.1.ownBlock≠S tb:=λF=>by
 obtain⟨D,G⟩:=(h.row x H).blk F
 exact(h.blk.ne G (by decide)) rfl
theorem DN.row_pb(h:DN wd word W tb pb used rv rs t lo hi){x:V×List Int}(H:x∈rs):x.1.ownBlock≠S pb:=λF=>by
 obtain⟨D,G⟩:=(h.row x H).blk F
 exact((show AI W pb _ 225 from h.tape).ne G (by decide)) rfl
theorem DN.row_rv(h:DN wd word W tb pb used rv rs t lo hi){x:V×List Int}(O:x∈rs){g}(K:rv.ownBlock=S g):x.1.ownBlock≠S g:=λH=>by
 obtain⟨G,M⟩:=(h.row x O).blk H
 obtain⟨F,D⟩:=AJ h.own K
 exact(M.ne D (by decide)) rfl
theorem DN.at(h:DN wd word W tb pb used rv rs t lo hi){g n D}(F:rv=L (S ⟨g,0,N⟩) n D)(G:n=rs.length)(i)(hi:i<rs.length):W.cell? ⟨g,i,N⟩=S (rs[i]'hi).1/\W.frozen? ⟨g,i,N⟩=false/\g<W.heap.size:=by
 subst F G;refine⟨?_,h.own.frozenAt i,(h.own.lt g rfl).2⟩;have:=h.own.cellAt i (by omega);rw[Kj rs i hi]at this;exact this
theorem DN.tot(h:DN wd word W tb pb used rv rs t lo hi)(t' :Nat):DN wd word (W.setCell ⟨tb,4,N⟩ (I U (t' :Int))) tb pb used rv rs t' lo hi:=
 ⟨h.blk.set 4 _,AI.other h.tape ⟨tb,4,N⟩ _ (Ne.symm h.ne_pb),AN h.own ⟨tb,4,N⟩ _ h.rv_tb,λx D=>(h.row x D).other ⟨tb,4,N⟩ _ (h.row_tb D),h.ap⟩
theorem DN.low(h:DN wd word W tb pb used rv rs t lo hi)(lo'):DN wd word (W.setCell ⟨tb,5,N⟩ (I J lo')) tb pb used rv rs t lo' hi:=
 ⟨h.blk.set 5 _,AI.other h.tape ⟨tb,5,N⟩ _ (Ne.symm h.ne_pb),AN h.own ⟨tb,5,N⟩ _ h.rv_tb,λx D=>(h.row x D).other ⟨tb,5,N⟩ _ (h.row_tb D),h.ap⟩
theorem DN.high(h:DN wd word W tb pb used rv rs t lo hi)(hi'):DN wd word (W.setCell ⟨tb,6,N⟩ (I J hi')) tb pb used rv rs t lo hi' :=
 ⟨h.blk.set 6 _,AI.other h.tape ⟨tb,6,N⟩ _ (Ne.symm h.ne_pb),AN h.own ⟨tb,6,N⟩ _ h.rv_tb,λx D=>(h.row x D).other ⟨tb,6,N⟩ _ (h.row_tb D),h.ap⟩
theorem DN.coin(h:DN wd word W tb pb used rv rs t lo hi)(k:GY W1 pb word used')(a:AD (λk=>k=pb) W W1):DN wd word W1 tb pb used' rv rs t lo hi:=
 ⟨h.blk.away a h.ne_pb,k,AU h.own a λg D e=>h.rv_pb (by rw[D,e]),λx F=>(h.row x F).away a λg D e=>h.row_pb F (by rw[D,e]),h.ap⟩
theorem DN.grow(h:DN wd word W tb pb used rv rs t lo hi)(a:AD (λk=>rv.ownBlock=S k) W W1)(o:W1.ownsRow 0 178 1 rv' (rs++ [(L N 0 0,([]:List Int))]).length (Gf (rs++ [(L N 0 0,([]:List Int))]))):
  DN wd word (W1.setCell ⟨tb,3,N⟩ rv') tb pb used rv' (rs++ [(L N 0 0,([]:List Int))]) t lo hi:=by
 have G:AI W1 tb _ 185:=h.blk.away a h.rv_tb;have M:AI W1 pb _ 225:=AI.away h.tape a h.rv_pb;have X:rv'.ownBlock≠S tb:=λF=>by
  obtain⟨K,Q⟩:=AJ o F;exact(G.ne Q (by decide)) rfl
 refine⟨G.set 3 _,AI.other M ⟨tb,3,N⟩ _ (Ne.symm h.ne_pb),AN o ⟨tb,3,N⟩ _ X,λx D=> ?_,List.pairwise_append.2 ⟨h.ap,by simp,λx D y O=> ?_⟩⟩
 ·rcases List.mem_append.1 D with D|D
  ·exact((h.row x D).away a λg H e=>h.row_rv D e H).other ⟨tb,3,N⟩ _ (h.row_tb D)
  ·rw[List.mem_singleton.1 D];exact BD.nil _
 ·rw[List.mem_singleton.1 O];intro g H F;cases F
theorem DN.put(h:DN wd word W tb pb used rv rs t lo hi){g n X}(K:rv=L (S ⟨g,0,N⟩) n X)(v:n=rs.length)(i)(D:i<rs.length)(a:AD (λk=>(rs[i]'D).1.ownBlock=S k) W W1){v' xs'}(l:BD W1 v' xs')
  (f:∀k,v'.ownBlock=S k->(rs[i]'D).1.ownBlock=S k\/∀x∈rs,x.1.ownBlock≠S k):
  DN wd word (W1.setCell ⟨g,i,N⟩ v') tb pb used rv (rs.set i (v',xs')) t lo hi:=by
 subst K v;have Y:=NW D;have q:AI W1 tb _ 185:=h.blk.away a (h.row_tb Y);have u:AI W1 pb _ 225:=AI.away h.tape a (h.row_pb Y);have m:=AU h.own a λk G e=>h.row_rv Y G e;have M:tb≠g:=λe=>h.rv_tb (by rw[e];rfl);have d:pb≠g:=λe=>h.rv_pb (by rw[e];rfl);have Q:∀j (F:j<rs.length),j≠i->Yn (v',xs') (rs[j]'F):=λj F H k G=>by
  rcases f k G with e|e
  ·exact RD h.ap i j D F (Ne.symm H) k e
  ·exact e _ (NW F)
 have b:v'.ownBlock≠S g:=λy=>by
  obtain⟨s,z⟩:=l.blk y;obtain⟨p,O⟩:=AJ m (g:=g) rfl;exact(z.ne O (by decide)) rfl
 refine⟨AI.other q ⟨g,i,N⟩ _ M,AI.other u ⟨g,i,N⟩ _ d,?_,λx Z=> ?_,Yo h.ap i _ Q⟩
 ·rw[bC,aw];exact(m.stored i v').1
 ·rcases List.mem_iff_getElem.1 Z with⟨j,F,rfl⟩;rw[aw]at F;rw[gU];by_cases e:i=j
  ·rw[if_pos e];exact l.other ⟨g,i,N⟩ _ b
  ·rw[if_neg e];have o:=NW F;refine((h.row _ o).away a λk G r=> ?_).other ⟨g,i,N⟩ _ (h.row_rv o rfl);exact RD h.ap i j D F e k r G
end
structure ER(wd:Nat)(word:Int)(w0:World)(O0:Nat->Prop)(tb pb used:Nat)(rv:V)(rs:DZ)(t:Nat)(lo hi:Int)(W:World):Prop where
 rq:DN wd word W tb pb used rv rs t lo hi
 st:IH w0 O0 W (EE tb pb rv rs)
section
variable {wd:Nat} {word:Int} {w0 W W1:World} {O0:Nat->Prop} {tb pb used used' :Nat} {rv rv' :V} {rs:DZ} {t:Nat} {lo hi:Int}
theorem ER.next(h:ER wd word w0 O0 tb pb used rv rs t lo hi W)(b:B W.heap.size W W1):ER wd word w0 O0 tb pb used rv rs t lo hi W1:=⟨h.rq.next b,h.st.next b⟩
theorem ER.tot(h:ER wd word w0 O0 tb pb used rv rs t lo hi W)(t'):ER wd word w0 O0 tb pb used rv rs t' lo hi (W.setCell ⟨tb,4,N⟩ (I U (t' :Int))):=
 ⟨h.rq.tot t',h.st.trans ⟨AD.setCell (AD.refl _ _) ⟨tb,4,N⟩ _ (.inl (.inl rfl)),BV.refl _ _⟩⟩
theorem ER.low(h:ER wd word w0 O0 tb pb used rv rs t lo hi W)(lo'):ER wd word w0 O0 tb pb used rv rs t lo' hi (W.setCell ⟨tb,5,N⟩ (I J lo')):=
 ⟨h.rq.low lo',h.st.trans ⟨AD.setCell (AD.refl _ _) ⟨tb,5,N⟩ _ (.inl (.inl rfl)),BV.refl _ _⟩⟩
theorem ER.high(h:ER wd word w0 O0 tb pb used rv rs t lo hi W)(hi'):ER wd word w0 O0 tb pb used rv rs t lo hi' (W.setCell ⟨tb,6,N⟩ (I J hi')):=
 ⟨h.rq.high hi',h.st.trans ⟨AD.setCell (AD.refl _ _) ⟨tb,6,N⟩ _ (.inl (.inl rfl)),BV.refl _ _⟩⟩
theorem ER.coin(h:ER wd word w0 O0 tb pb used rv rs t lo hi W)(k:GY W1 pb word used')(a:AD (λk=>k=pb) W W1):ER wd word w0 O0 tb pb used' rv rs t lo hi W1:=
 ⟨h.rq.coin k a,h.st.trans ⟨a.mono λi _ e=>.inr (.inl e),BV.refl _ _⟩⟩
theorem ER.grow(h:ER wd word w0 O0 tb pb used rv rs t lo hi W)(a:AD (λk=>rv.ownBlock=S k) W W1)(o:W1.ownsRow 0 178 1 rv' (rs++ [(L N 0 0,([]:List Int))]).length (Gf (rs++ [(L N 0 0,([]:List Int))])))(n:FA W rv rv'):
  ER wd word w0 O0 tb pb used rv' (rs++ [(L N 0 0,([]:List Int))]) t lo hi (W1.setCell ⟨tb,3,N⟩ rv'):=by
 refine⟨h.rq.grow a o,h.st.trans ⟨AD.setCell (a.mono λi _ e=>.inr (.inr (.inl e))) ⟨tb,3,N⟩ _ (.inl (.inl rfl)),λk D=> ?_⟩⟩;rcases D with D|D|D|⟨x,F,D⟩
 ·exact .inl (.inl D)
 ·exact .inl (.inr (.inl D))
 ·rcases n with q|⟨i,q1,q2⟩
  ·exact .inl (.inr (.inr (.inl (by rw[<-q];exact D))))
  ·have:i=k:=by rw[q1]at D;exact Q0 D
   exact .inr (by omega)
 ·rcases List.mem_append.1 F with F|F
  ·exact .inl (.inr (.inr (.inr ⟨x,F,D⟩)))
  ·rw[List.mem_singleton.1 F]at D;cases D
theorem ER.put(h:ER wd word w0 O0 tb pb used rv rs t lo hi W){g n H}(G:rv=L (S ⟨g,0,N⟩) n H)(O:n=rs.length)(i)(F:i<rs.length)(a:AD (λk=>(rs[i]'F).1.ownBlock=S k) W W1){v' xs'}(l:BD W1 v' xs')
  (f:∀k,v'.ownBlock=S k->(rs[i]'F).1.ownBlock=S k\/(∀x∈rs,x.1.ownBlock≠S k)/\w0.heap.size<=k):
  ER wd word w0 O0 tb pb used rv (rs.set i (v',xs')) t lo hi (W1.setCell ⟨g,i,N⟩ v'):=by
 refine⟨h.rq.put G O i F a l λk D=>(f k D).imp id (·.1),?_⟩;subst G;have M:AD (EE tb pb (L (S ⟨g,0,N⟩) n H) rs) W (W1.setCell ⟨g,i,N⟩ v'):=AD.setCell (a.mono λj _ e=>.inr (.inr (.inr ⟨_,NW F,e⟩))) ⟨g,i,N⟩ _ (.inl (.inr (.inr (.inl rfl))));refine⟨h.st.away.trans' M (λ_ _ h=>h) λj Q e=> ?_,λk D=> ?_⟩
 ·rcases h.st.sub j e with q|q
  ·exact q
  ·omega
 ·rcases D with D|D|D|⟨x,K,D⟩
  ·exact h.st.sub k (.inl D)
  ·exact h.st.sub k (.inr (.inl D))
  ·exact h.st.sub k (.inr (.inr (.inl D)))
  ·rcases List.mem_or_eq_of_mem_set K with K|rfl
   ·exact h.st.sub k (.inr (.inr (.inr ⟨x,K,D⟩)))
   ·rcases f k D with e|⟨_,e⟩
    ·exact h.st.sub k (.inr (.inr (.inr ⟨_,NW F,e⟩)))
    ·exact .inr e
end
open Go.RowKit Go.Lib Go.Shelf
attribute [local go_sem] Oper.semAt_some
theorem bD(D:List Int)(k:Nat)(h:k<D.length):D.take (k+1)=D.take k++ [D[k]'h]:=List.take_succ_eq_append_getElem h
theorem TA(F:Fence)(n)(h7:F.fn 329)(f:F.round=N)(hn:1<=n)(l s q b off G g K)(X:G=K.length)(d:G<=1000000)(hb:b<q)(D r:List Int->World->Prop)
  (hY:∀H x W,D H W->H.length<G->YieldAt F (n-1) prog l #[I J x] W λe W' =>
   (e=R (.bool true)/\D (H++ [x]) W' /\B q W W')\/(e=R (.bool false)/\r (H++ [x]) W'))
  (W)(AA:W.cell? ⟨s,0,N⟩=S (L (S ⟨b,off,N⟩) G g))(hc:∀j (h:j<K.length),W.cell? ⟨b,off+j,N⟩=S (I J (K[j]'h)))(z:D [] W):
  CallsIn F n prog 329 #[.func (.yield l) #[] #[],P (S ⟨s,0,N⟩)] W λe W' =>(∃v,e=R v)/\
   ((∃u,u=K/\D u W')\/(∃H,(∃k,H=K.take k)/\r H W')):=by
 refine callsIn_of_wp func329 rfl h7 ?_ f;simp only[ntmps329,gi,bw,es,gj,gS,gm,gu,gv,gy,hZ,iA];gi_wp2;gi_loopw [7] (λi wr=>∃k:Nat,k<=G/\i=I J k/\D (K.take k) wr/\B q W wr)
  (λi _=>G-(RowKit.intOf i).toNat)
 case atStart=>exact⟨0,ag _,rfl,z,B.refl _ _⟩
 case round=>
  obtain⟨k,hk,rfl,Q,Z⟩:=hrel;by_cases y:k<G
  ·have M:k<K.length:=by omega
   have a :wr.cell? ⟨b,off+k,N⟩=S (I J (K[k]'M)):=(Z.cell (p:=⟨b,off+k,N⟩) hb).trans (hc k M);have O:=bD K k M;generalize K[k]'M=x at a O;obtain⟨fn,tmps,assign,body,hy,hR⟩:=hY _ x wr Q (by rw[bh];omega);gi_wp2;refine hR.mono ?_;rintro e W3 (⟨rfl,m,o⟩|⟨rfl,Y⟩)
   ·gi_wp2;go_roundw;case rel=>exact⟨k+1,by omega,by simp,by rw[O];exact m,Z.trans o⟩
    case measure=>simp[RowKit.intOf];omega
   ·gi_wp2;refine bodyPost_ret (results_none rfl _ _ _) rfl ?_;exact⟨⟨_,rfl⟩,.inr ⟨_,⟨k+1,O.symm⟩,Y⟩⟩
  ·obtain rfl:k=G:=by omega
   gi_wp2;go_end0;exact⟨⟨_,rfl⟩,.inl ⟨_,rfl,by rw[X,List.take_length]at Q;exact Q⟩⟩
theorem TB(w A F D):
  C prog 319 #[L A F D] w λe w' =>e=R (.func (.func 329) #[] #[P (S ⟨w.heap.size,0,N⟩)])/\w' =w.alloc (.cells #[L A F D] 178):=by
 go_enter func319,ntmps319;go_wp2_with fail;go_ret;exact⟨rfl,rfl⟩
theorem Ou(F:Fence)(n)(g:F.fn 329)(X:F.round=N)(o:1<=n)(K O b off M G)(H:G.length<=1000000)(w)(Z:K<w.heap.size)(Q:O<=w.heap.size)(a:b<O)
  (r:w.cell? ⟨K,0,N⟩=S (L (S ⟨b,off,N⟩) G.length M))(m:∀j (h:j<G.length),w.cell? ⟨b,off+j,N⟩=S (I J (G[j]'h))):
  SeqStopsK F n prog 329 #[P (S ⟨K,0,N⟩)] (λx:Int=> #[I J x]) (B O) (λq=>q=G) (λY=>∃k,Y=G.take k) G.length w:=λl D f W d _ _ i e=>
 TA F n g X o l K O b off G.length M G rfl H a D f i W ((d.cell (p:=⟨K,0,N⟩) Z).trans r) (λj h=>(d.cell (p:=⟨b,off+j,N⟩) (fx a Q)).trans (m j h)) e
theorem Mb(w M b off d O)(f:O.length<=1000000)(y:M<w.heap.size)(hb:b<w.heap.size)(z:w.cell? ⟨M,0,N⟩=S (L (S ⟨b,off,N⟩) O.length d))(hI:∀j (h:j<O.length),w.cell? ⟨b,off+j,N⟩=S (I J (O[j]'h))):
  C prog 333 #[L N 0 0,.func (.func 329) #[] #[P (S ⟨M,0,N⟩)]] w λe w' =>∃v,e=R v/\w'.ownsRow w.heap.size 2 1 v O.length (BG O)/\B w.heap.size w w' :=by
 refine(callsIn_wide (n:=5)).1 ?_;obtain⟨i0,hi,q,s,u⟩:=info_parts NL;have Q:Fence.wide.round=none:=rfl;refine callsIn_of_wp_marks func333 rfl trivial ?_ Q;simp only[ntmps333,gi,bw,es,gj,gS,gm,gu,gv,gy,hZ,iA];gi_wp2;have bO:=Boxed.new w 178 (L N 0 0);have X:B w.heap.size w (w.alloc (.cells #[L N 0 0] 178)):=(B.refl _ w).alloc (E _) _;refine wpIn_rangeFunc_ownF Q (by decide) (gf:=329) (lb:= #[P (S ⟨M,0,N⟩)]) rfl trivial (enters_of func329 (by kernel_rfl) rfl)
  (Ou Fence.wide (5-1) trivial Q (by decide) M w.heap.size b off d O f _ (by simp;omega) (by simp) hb ((X.cell (p:=⟨M,0,N⟩) y).trans z) (λj h=>(X.cell (p:=⟨b,off+j,N⟩) hb).trans (hI j h))) belowK_t (belowK_b (by simp)) (B.refl _ _) (λ_=>rfl)
  (λF W=>(∃v,Boxed W w.heap.size 178 v/\W.ownsRow w.heap.size 2 1 v F.length (BG F)/\True)/\B w.heap.size w W)
  (λ_ _ _=>False)
  (OwnFrom.and (Own.from (holdsRow_own w.heap.size w.heap.size 178 2 1 (λF:List Int=>F.length) (λF=>BG F) (λ_ _=>True)) _) (ownFrom_below (E _) (by simp)))
  (λ_ _ _ _ _ hs _ _=>hs)
  ⟨⟨_,bO,World.ownsRow_nil _ _ _ _,trivial⟩,X⟩
  (λx=>{tmps:= #[L N 0 0,.func (.func 329) #[] #[P (S ⟨M,0,N⟩)],P (S ⟨w.heap.size,0,N⟩),undef,L N 0 0,I J x,.func (.func 329) #[] #[P (S ⟨M,0,N⟩)],I J x,undef,undef,undef,undef,undef],defers:=[]}) ?assign ?body ?done ?stop
 case assign=>
  intro l x W K a;gi_wp2;exact a
 case body=>
  rintro l F x W ⟨⟨v,k,G,-⟩,i⟩ Aa;have z:=k.cell;gi_wp2_with (gi_at_builtin;refine wpListIn_append_own _ rfl _ _ 178 rfl w.heap.size 2 i0 (I J 0) 1 8 underlying178 hi q s u rfl (by decide) _ _ _ rfl (G.alloc _) ⟨W.heap.size,0,N⟩ 1 1 [I J x] rfl rfl (cell_one_new _ _ _) (by simp[V.oneCell']) (by unfold maxLen;omega) (by omega) (by have:=i.size;simp;omega) ?_;intro v' w1 H Y _;obtain⟨g',AA,rfl⟩:=ownsRow_succ H;obtain⟨Z,r,o,m,g⟩:=k.appended (by decide) G i.size (E _) H Y;have Ab:=Z.cell;have hf1:=Z.frozen);exact⟨m,g,⟨_,r,by rw[DU,fj];exact o,trivial⟩,i.trans g⟩
 case done=>
  rintro D ys W hD rfl ⟨⟨v,k,G,-⟩,i⟩ a;have z:=k.cell;gi_wp2;refine⟨by simp,.inl ⟨_,_,rfl,run_takeDeferred a,?_⟩⟩;exact⟨_,results_tmp rfl _ _ _,v,rfl,ownsRow_putObj G _ a rfl,i.trans (belowK_b (w:=w) (E _) W D _ _ (by simp at hD;omega) a rfl rfl)⟩
 case stop=>
  rintro D c F W _ _ h _;exact h.elim
theorem RE(w H b off F D)(G:D.length<=1000000)(K:H<w.heap.size)(a:b<w.heap.size)(Z:w.cell? ⟨H,0,N⟩=S (L (S ⟨b,off,N⟩) D.length F))(Q:∀j (h:j<D.length),w.cell? ⟨b,off+j,N⟩=S (I J (D[j]'h))):
  C prog 328 #[.func (.func 329) #[] #[P (S ⟨H,0,N⟩)]] w λe w' =>∃v,e=R v/\w'.ownsRow w.heap.size 2 1 v D.length (BG D)/\B w.heap.size w w' :=by
 have Y:=Mb w H b off F D G K a Z Q;clear Z Q;go_enter func328,ntmps328;go_wp2_with fail;refine Y.mono ?_;rintro e d ⟨v,rfl,O,M⟩;have X:=Zh (Zi O M);clear Y O M;go_wp2_with fail;go_ret;exact⟨v,rfl,X.out.1,X.out.2⟩
open Go.RowKit Go.Lib Go.Sort
def sort264_ren : Go.Shelf.Ren:=⟨fun|5=>264|8=>191|7=>268|19=>200|20=>144|10=>273|11=>274|12=>275|13=>276|14=>277|15=>278|16=>279|17=>280|18=>281|30=>286|31=>202|32=>203|33=>287|34=>288|35=>289|40=>291|n=>n,fun|23=>178|25=>2|3=>3|32=>64|22=>178|0=>0|44=>62|46=>23|4=>4|36=>309|35=>308|41=>235|5=>5|9=>9|53=>315|57=>318|63=>320|64=>321|n=>n,fun|n=>n⟩
theorem sort264 : Go.Proofs.SlLaysM.n5 Tryz.prog sort264_ren:={
 mixed:=by kernel_rfl
 f5:=⟨f264.name,by decide,func264.trans (congrArg some (by kernel_rfl))⟩
 f7:=⟨f268.name,by decide,func268.trans (congrArg some (by kernel_rfl))⟩
 f8:=func191.trans (congrArg some (by kernel_rfl))
 f10:=⟨f273.name,by decide,func273.trans (congrArg some (by kernel_rfl))⟩
 f11:=⟨f274.name,by decide,func274.trans (congrArg some (by kernel_rfl))⟩
 f12:=⟨f275.name,by decide,func275.trans (congrArg some (by kernel_rfl))⟩
 f13:=⟨f276.name,by decide,func276.trans (congrArg some (by kernel_rfl))⟩
 f14:=⟨f277.name,by decide,func277.trans (congrArg some (by kernel_rfl))⟩
 f15:=⟨f278.name,by decide,func278.trans (congrArg some (by kernel_rfl))⟩
 f16:=⟨f279.name,by decide,func279.trans (congrArg some (by kernel_rfl))⟩
 f17:=⟨f280.name,by decide,func280.trans (congrArg some (by kernel_rfl))⟩
 f18:=⟨f281.name,by decide,func281.trans (congrArg some (by kernel_rfl))⟩
 f19:=func200.trans (congrArg some (by kernel_rfl))
 f20:=func144.trans (congrArg some (by kernel_rfl))
 f30:=⟨f286.name,by decide,func286.trans (congrArg some (by kernel_rfl))⟩
 f31:=func202.trans (congrArg some (by kernel_rfl))
 f32:=func203.trans (congrArg some (by kernel_rfl))
 f33:=⟨f287.name,by decide,func287.trans (congrArg some (by kernel_rfl))⟩
 f34:=⟨f288.name,by decide,func288.trans (congrArg some (by kernel_rfl))⟩
 f35:=⟨f289.name,by decide,func289.trans (congrArg some (by kernel_rfl))⟩
 f40:=⟨f291.name,by decide,func291.trans (congrArg some (by kernel_rfl))⟩
 t0:=underlying0
 a0:=isAgg0
 z0:=sizeOf0
 v0:=zeroValue0
 t3:=underlying3
 a3:=isAgg3
 z3:=sizeOf3
 v3:=zeroValue3
 t4:=underlying4
 a4:=isAgg4
 z4:=sizeOf4
 v4:=zeroValue4
 t5:=underlying5
 a5:=isAgg5
 z5:=sizeOf5
 v5:=zeroValue5
 t9:=underlying9
 a9:=isAgg9
 z9:=sizeOf9
 v9:=zeroValue9
 t22:=underlying178
 a22:=isAgg178
 z22:=sizeOf178
 v22:=zeroValue178
 t23:=underlying178
 a23:=isAgg178
 z23:=sizeOf178
 v23:=zeroValue178
 t25:=underlying2
 a25:=isAgg2
 z25:=sizeOf2
 v25:=zeroValue2
 t32:=underlying64
 a32:=isAgg64
 z32:=sizeOf64
 v32:=zeroValue64
 t35:=underlying308
 a35:=isAgg308
 z35:=sizeOf308
 v35:=zeroValue308
 t36:=underlying309
 a36:=isAgg309
 z36:=sizeOf309
 v36:=zeroValue309
 t41:=underlying235
 a41:=isAgg235
 z41:=sizeOf235
 v41:=zeroValue235
 t44:=underlying62
 a44:=isAgg62
 z44:=sizeOf62
 v44:=zeroValue62
 t46:=underlying23
 a46:=isAgg23
 z46:=sizeOf23
 v46:=zeroValue23
 t53:=underlying315
 a53:=isAgg315
 z53:=sizeOf315
 v53:=zeroValue315
 t57:=underlying318
 a57:=isAgg318
 z57:=sizeOf318
 v57:=zeroValue318
 t63:=underlying320
 a63:=isAgg320
 z63:=sizeOf320
 v63:=zeroValue320
 t64:=underlying321
 a64:=isAgg321
 z64:=sizeOf321
 v64:=zeroValue321 }
theorem eZ:cL:=by
 intro w v F h K Q;obtain⟨g,M,X,rfl,Y,D,m,Z,b,o⟩:=h.2.resolve_left λk=>K (fw k.2);have a:Holds (I J) w g 0 F.toArray:=λj i=>by
  have G :j<F.length:=by simpa using i
  refine⟨?_,?_⟩
  ·rw[fa,Hz h rfl j G];simp[G]
  ·rw[fa];exact h.frozenAt j
 have d:g<w.heap.size:=(Array.getElem?_eq_some_iff.1 D).1;have O:=AnyM.slices_Sort_int sort264 g 0 M F w a d (by omega);change C prog 264 _ _ _ at O;refine O.mono ?_;rintro e w' ⟨rfl,n,os,rfl⟩;have H:=iB F (λx y=>decide (x<=y));refine⟨rfl,F.mergeSort λx y=>decide (x<=y),H,?_,AD.of_grown (grownBy_sortedI _) λk f=>by rw[<-f];rfl⟩;have:=ownsRow_sortedI (n:=n) (os:=os) (e:=2) (base:=0) (ss:=F) (ts:=F.mergeSort λx y=>decide (x<=y)) H.length_eq (ag _) D m Z b;rw[H.length_eq];exact this
theorem ea(w v D)(h:w.ownsRow 0 2 1 v D.length (BG D))(K:D≠ [])(X:D.length<=1000000):
  C prog 264 #[v] w λe w' =>e=R (T #[])/\∃M,M.Perm D/\w'.ownsRow 0 2 1 v M.length (BG M)/\AD (λk=>v.ownBlock=S k) w w' :=by
 obtain⟨g,O,Y,rfl,Z,F,o,a,d,p⟩:=h.2.resolve_left λk=>K (fw k.2);have b:Holds (I J) w g 0 D.toArray:=λj m=>by
  have G :j<D.length:=by simpa using m
  refine⟨?_,?_⟩
  ·rw[fa,Hz h rfl j G];simp[G]
  ·rw[fa];exact h.frozenAt j
 have f:g<w.heap.size:=(Array.getElem?_eq_some_iff.1 F).1;have Q:=AnyM.slices_Sort_int sort264 g 0 O D w b f (by omega);change C prog 264 _ _ _ at Q;refine Q.mono ?_;rintro e w' ⟨rfl,n,os,rfl⟩;have H:=iB D (λx y=>decide (x<=y));refine⟨rfl,D.mergeSort λx y=>decide (x<=y),H,?_,AD.of_grown (grownBy_sortedI _) λk i=>by rw[<-i];rfl⟩;have:=ownsRow_sortedI (n:=n) (os:=os) (e:=2) (base:=0) (ss:=D) (ts:=D.mergeSort λx y=>decide (x<=y)) H.length_eq (ag _) F o a d;rw[H.length_eq];exact this
theorem TC(w H b off G D)(O:D≠ [])(F:D.length<=1000000)(Q:H<w.heap.size)(p:b<w.heap.size)(m:w.cell? ⟨H,0,N⟩=S (L (S ⟨b,off,N⟩) D.length G))(Y:∀j (h:j<D.length),w.cell? ⟨b,off+j,N⟩=S (I J (D[j]'h))):
  C prog 318 #[.func (.func 329) #[] #[P (S ⟨H,0,N⟩)]] w λe w' =>∃v ss,e=R v/\ss.Perm D/\w'.ownsRow w.heap.size 2 1 v ss.length (BG ss)/\B w.heap.size w w' :=by
 have f:=RE w H b off G D F Q p m Y;clear m Y;go_enter func318,ntmps318;go_wp2_with fail;refine f.mono ?_;rintro e o ⟨v,rfl,M,Z⟩;have a:=ea o v D (AO M λ_ _=>ag _) O F;have K:=Zh (Zi M Z);obtain⟨A,c,rfl⟩:=AF M;clear f M Z;go_wp2_with fail;refine a.mono ?_;rintro e i ⟨rfl,ss,X,d,a2⟩;have r:=Zh (show ss.Perm D/\i.ownsRow w.heap.size 2 1 (L A D.length c) ss.length (BG ss)/\B w.heap.size w i from⟨X,AO d λg q=>(K.out.1.lt g q).1,K.out.2.trans (a2.below K.out.2.size λk s e=>by have:=(K.out.1.lt k e).1;omega)⟩);clear a X d a2;go_wp2_with fail;go_ret;exact⟨_,ss,rfl,r.out⟩
def dX(w:W)(n keep:Nat)(xs:List Int)(e:Ending)(w' :W):Prop:=∃(g cap k:Nat) (ss:List Int),e=R (T #[L (S ⟨g,0,N⟩) k k,L (S ⟨g,k,N⟩) (n-k) (cap-k)])/\
 w'.ownsRow w.heap.size 2 1 (L (S ⟨g,0,N⟩) n cap) n (BG ss)/\ss.Perm xs/\keep<=k/\k<=keep+1/\(n-k) % 2=0/\B w.heap.size w w'
theorem VX(w v G D)(h:DF w v G)(a:D+2<=G.length)(Y:G.length<=100000):
  C prog 314 #[v,I J D] w (dX w G.length D G):=by
 obtain⟨n,r⟩:∃n,n=G.length:=⟨_,rfl⟩;rcases h.2.2 with⟨u,_⟩|⟨b,o,c,rfl,hb,Z⟩
 ·rw[u]at a;simp at a
 have m:B w.heap.size w (w.alloc (.cells #[L (S ⟨b,o,N⟩) G.length c] 178)):=Za;have M:=TC (w.alloc (.cells #[L (S ⟨b,o,N⟩) G.length c] 178)) w.heap.size b o c G (by intro e;rw[e]at a;simp at a) (by omega) (by simp) (by simp;omega) ((AI.newAt rfl).cell rfl) (λj hj=>(m.cell (p:=⟨b,o+j,N⟩) hb).trans (Z j hj));have K:=TB w (S ⟨b,o,N⟩) G.length c;have HN:=Zh r;rw[<-r]at a Y M K m⊢;have y:=Zh (Zi m r);clear h m Z r;go_enter func314,ntmps314;go_wp2_with fail;refine K.mono ?_;rintro e w1 ⟨rfl,rfl⟩;clear K;go_wp2_with fail;refine M.mono ?_;rintro e X ⟨v2,ss,rfl,x,O,b2⟩;have d:ss.length=n:=by rw[x.length_eq];exact y.out.2.symm
 rw[d]at O;obtain⟨g,F,rfl⟩:∃g F,v2=L (S ⟨g,0,N⟩) n F:=by
  rcases AH O with⟨_,u,_⟩|⟨g,F,q,_⟩
  ·omega
  ·exact⟨g,F,q⟩
 have z:n<=F:=by
  rcases AH O with⟨_,u,_⟩|⟨g',AA,q,h2,_⟩
  ·omega
  ·simp only[L.injEq]at q;rw[q.2.2];exact h2
 have Q:=Zh (show X.ownsRow w.heap.size 2 1 (L (S ⟨g,0,N⟩) n F) n (BG ss)/\ss.Perm G/\B w.heap.size w X from⟨AO O λg hg=>by have:=(O.lt g hg).1;simp at this;omega,x,y.out.1.trans (b2.mono y.out.1.size)⟩);have e1:max (D:Int) 0=(D:Int):=by omega
 have e2:min (D:Int) (n:Int)=(D:Int):=by omega
 have e3:(n:Int)-(D:Int)=((n-D:Nat):Int):=by omega
 clear M d O b2 x;by_cases H:(n-D) % 2=1
 ·have f1:(((n-D:Nat):Int) % 2==1)=true:=by simp;omega
  obtain⟨k,s⟩:∃k,k=D+1:=⟨_,rfl⟩;have e4:(D:Int)+1=(k:Int):=by omega
  have g1:k<=n:=by omega
  have g2:k<=F:=by omega
  have g3:(k:Int)<=(n:Int):=by omega
  have g4:(k:Int)<=(F:Int):=by omega
  have i:=Zh (show D<=k/\k<=D+1/\(n-k) % 2=0 from by omega);clear s H;go_upto_region 5 with fail;go_quiet(fail);have f:=Zh (show B w.heap.size w (X.drewN nq)/\(X.drewN nq).ownsRow w.heap.size 2 1 (L (S ⟨g,0,N⟩) n F) n (BG ss)from
   ⟨Q.out.2.2.trans ⟨rfl,rfl,rfl,E _,λ_ _=>rfl⟩,Cw Q.out.1 λ_ _=>rfl⟩)
  go_wp2_with fail;go_ret2;exact⟨g,F,k,ss,by first|rfl|simp,f.out.2,Q.out.2.1,i.out.1,i.out.2.1,i.out.2.2,f.out.1⟩
 ·have f1:(((n-D:Nat):Int) % 2==1)=false:=by simp;omega
  have g1:D<=n:=by omega
  have g2:D<=F:=by omega
  have g3:(D:Int)<=(n:Int):=by omega
  have g4:(D:Int)<=(F:Int):=by omega
  have i:=Zh (show(n-D) % 2=0 from by omega);clear H;go_upto_region 5 with fail;go_quiet(fail);have f:=Zh (show B w.heap.size w (X.drewN nq)/\(X.drewN nq).ownsRow w.heap.size 2 1 (L (S ⟨g,0,N⟩) n F) n (BG ss)from
   ⟨Q.out.2.2.trans ⟨rfl,rfl,rfl,E _,λ_ _=>rfl⟩,Cw Q.out.1 λ_ _=>rfl⟩)
  go_wp2_with fail;go_ret2;exact⟨g,F,D,ss,by first|rfl|simp,f.out.2,Q.out.2.1,E _,by omega,i.out,f.out.1⟩
open Go
section
variable {P:Program} {md:Region.Mode} {S:W->Prop}
def Dn(P:Program)(ops:Array Oper)(Q:Exit->Act->W->Prop)(o:Oper):Exit->Act->W->Prop
 | .normal,a,w=>wpList P ops Q [o] a w
 |_,_,_=>False
theorem Dn.out{ops Q o}:¬LetsOut (Dn P ops Q o):=λh=>by
 obtain⟨a,w,h⟩:=h
 exact h
def Yp(md:Region.Mode)(ops:Array Oper)(n:Nat):Bool:=
 decide (n+1=ops.size)&&Region.sinkB md ops n&&Region.chainB md ops n&&(RR ops.size).all (λi=>((ops[i]?).map λo=>o.guard.isNone&&o.after.all λe=>decide (e.on<i)).getD true)
theorem DV{ops:Array Oper}(h:(RR ops.size).all (λi=>((ops[i]?).map λo=>o.guard.isNone&&o.after.all λe=>decide (e.on<i)).getD true)=true){i:Nat}{o:Oper}(F:ops[i]?=some o):o.guard=N/\∀e∈o.after,e.on<i:=by
 have hi:i<ops.size:=(Array.getElem?_eq_some_iff.1 F).1;have D:=List.all_eq_true.1 h i (List.mem_range.2 hi);rw[F]at D;simp only[Option.map_some,Option.getD_some,V0,Option.isNone_iff_eq_none]at D;exact⟨D.1,λe G=>by
  have:=Array.all_eq_true'.1 D.2 e G;simpa using this⟩
theorem Ow{o:Oper}{a:Act}{w:W}{K M :Act->W->Prop}{G Q:Exit->Act->W->Prop}(F:∀a w,K a w->M a w)(H:∀e a w,e≠ .normal->G e a w->Q e a w)(h:o.wp P a w K G):o.wp P a w M Q:=by
 unfold Oper.wp at*;generalize(execOp a.eval o).run P w=r at*;have X:LetsOut G->LetsOut Q:=λ⟨a,w,h⟩=>⟨a,w,H _ _ _ (by simp) h⟩
 cases r with
 |ok n w' =>
  cases n with
  |value v=>exact F _ _ h
  |skip=>exact F _ _ h
  |defer d=>exact F _ _ h
  |enter f args=>
   refine C.mono h λe O D=> ?_;cases e with
   |returned v=>exact F _ _ D
   |panicked c=>exact H _ _ _ (by simp) D
   |outgrown=>exact X D
  |row r args=>exact Rows.mono h λ_ _ D=>F _ _ D
  |_=>exact h
 |halt x w' =>
  cases x with
  |panic v=>exact H _ _ _ (by simp) h
  |_=>exact h
theorem VY{L:Array Bool}{n}(h:∃i,i<n/\L.getD i true=false):∃i,i<n/\L.getD i true=false/\∀j,j<i->L.getD j true=true:=by
 obtain⟨i,hi,h⟩:=h;induction i using gX with
 |_ i ih=>
  by_cases F:∃j,j<i/\L.getD j true=false
  ·obtain⟨j,K,G⟩:=F;exact ih j K (by omega) G
  ·exact⟨i,hi,h,λj D=>by
    cases H:L.getD j true with
    |true=>rfl
    |false=>exact absurd ⟨j,D,H⟩ F⟩
theorem JH{L:Array Bool}{i}(hi:i<L.size)(h:L.getD i true=true):L.getD i false=true:=by
 simp[hi]at h⊢;exact h
section
variable {ops head:Array Oper} {n:Nat} {LH LF:Array Bool}
theorem TD(O:LH.size=n)(K:LF.size=ops.size)(M:n+1=ops.size)(H:∀j,j<n->LF.getD j false=LH.getD j false){j}(F:j<n):LF.getD j true=LH.getD j true:=by
 have D:j<LF.size:=by omega
 have G:j<LH.size:=by omega
 have:=H j F;simp only[Array.getD_eq_getD_getElem?]at this⊢;rw[Array.getElem?_eq_getElem D,Array.getElem?_eq_getElem G]at this⊢;simpa using this
theorem IX(O:LH.size=n)(M:LF.size=ops.size)(X:n+1=ops.size)(Q:∀i,i<n->head[i]?=ops[i]?)
  (K:(RR ops.size).all (λi=>((ops[i]?).map λo=>o.guard.isNone&&o.after.all λe=>decide (e.on<i)).getD true)=true)(H:∀j,j<n->LF.getD j false=LH.getD j false){i}(hi:i<n):
  i∈Region.ready md ops LF↔i∈Region.ready md head LH:=by
 rw[mem_ready,mem_ready,TD O M X H hi,Q i hi];refine and_congr Iff.rfl ⟨?_,?_⟩
 ·rintro⟨o,G,h⟩;exact⟨o,G,λe F D=>by rw[<-H _ (iC ((DV K G).2 e F) hi)];exact h e F D⟩
 ·rintro⟨o,G,h⟩;exact⟨o,G,λe F D=>by rw[H _ (iC ((DV K G).2 e F) hi)];exact h e F D⟩
end
theorem RF{ops head n o Q}(hN:n+1=ops.size)(hs:Region.sinkB md ops n=true)(hc:Region.chainB md ops n=true)
  (Z:(RR ops.size).all (λi=>((ops[i]?).map λo=>o.guard.isNone&&o.after.all λe=>decide (e.on<i)).getD true)=true)(hh:∀i,i<n->head[i]?=ops[i]?)(Ac:head.size=n)(z:ops[n]?=some o):
  ∀(f:Nat) (LH LF:Array Bool) (a:Act) (w:W),LH.size=n->(∀j,j<n->LF.getD j false=LH.getD j false)->HeadInv md ops n LF->
   wpAnyH P md head (Dn P ops Q o) S f LH a w->wpAny P md ops Q (f+1) LF a w:=by
 have d:∀(f:Nat) (LH LF:Array Bool) (a:Act) (w:W),LH.size=n->(∀j,j<n->LF.getD j false=LH.getD j false)->HeadInv md ops n LF->(∀i,i<n->LF.getD i true=true)->
   (Region.ready md head LH=[]->wpList P ops Q [o] a w)->wpAny P md ops Q (f+1) LF a w:=by
  intro f LH LF a w O Y D K h;have s:Region.ready md head LH=[]:=by
   rw[iD];intro i hi;have b:i<n:=by
    obtain⟨_,o',X,_⟩:=mem_ready.1 hi;have:=(Array.getElem?_eq_some_iff.1 X).1;omega
   have G:=((IX O D.size hN hh Z Y b).2 hi);have:=(mem_ready.1 G).1;rw[K i b]at this;cases this
  have M:=h s;have v:n∈Region.ready md ops LF:=by
   rw[mem_ready];refine⟨D.tail n (E _) (by omega),o,z,λe hm _=>JH (by have:=(DV Z z).2 e hm;have:=D.size;omega) (K _ ((DV Z z).2 e hm))⟩
  refine⟨λh0=>(by rw[h0]at v;cases v),λi hi=> ?_⟩;have b:i=n:=by
   obtain⟨G,o',X,_⟩:=mem_ready.1 hi;have h2:=(Array.getElem?_eq_some_iff.1 X).1;rcases gT i n with h3|h3
   ·rw[K i h3]at G;cases G
   ·omega
  subst b;have hg:∀p,Region.wanted o p=true:=λp=>by simp[Region.wanted,(DV Z z).1]
  unfold wpOp;rw[z];simp only[hg,if_true];unfold wpList at M;simp only[hg,if_true]at M;refine M.imp (Oper.wp_mono λa' w' x=>wpAny_done ?_ x _) id;rw[iD];intro j u;obtain⟨G,o',X,_⟩:=mem_ready.1 u;have h2:=(Array.getElem?_eq_some_iff.1 X).1;by_cases y:i=j
  ·subst y;have h3:i<LF.size:=by rw[D.size];exact h2
   simp[h3]at G
  ·rw[getD_set_ne true y,K j (by omega)]at G;cases G
 have F:∀(LH LF:Array Bool),LH.size=n->(∀j,j<n->LF.getD j false=LH.getD j false)->HeadInv md ops n LF->(∃i,i<n/\LF.getD i true=false)->∃i,i<n/\LF.getD i true=false/\i∈Region.ready md ops LF:=by
  intro LH LF O Y D H;obtain⟨i,hi,hu,hm⟩:=VY H;obtain⟨oi,r⟩:∃oi,ops[i]?=some oi:=⟨_,Array.getElem?_eq_getElem (by omega)⟩;exact⟨i,hi,hu,mem_ready.2 ⟨hu,oi,r,λe AA _=>JH (by have:=(DV Z r).2 e AA;have:=D.size;omega) (hm _ ((DV Z r).2 e AA))⟩⟩
 intro f;induction f with
 |zero=>
  intro LH LF a w O Y D h;by_cases H:∃i,i<n/\LF.getD i true=false
  ·obtain⟨i,hi,hu,s⟩:=F LH LF O Y D H;have:=(IX O D.size hN hh Z Y hi).1 s;rw[h.1]at this;cases this
  ·exact d 0 LH LF a w O Y D (λi hi=>by
    cases x:LF.getD i true with
    |true=>rfl
    |false=>exact absurd ⟨i,hi,x⟩ H) λ_=>h.2
 |succ f ih=>
  intro LH LF a w O Y D h;by_cases H:∃i,i<n/\LF.getD i true=false
  ·obtain⟨i,hi,hu,s⟩:=F LH LF O Y D H;refine⟨λh0=>(by rw[h0]at s;cases s),λj u=> ?_⟩;have q:j<n:=by
    rcases gT j n with G|G
    ·exact G
    ·exact absurd u (tail_waits hs hc (by omega) D _ i rfl hi hu j G)
   have M:=h.2 j ((IX O D.size hN hh Z Y q).1 u);obtain⟨_,oj,m,_⟩:=mem_ready.1 u;have hg:∀p,Region.wanted oj p=true:=λp=>by simp[Region.wanted,(DV Z m).1]
   unfold wpOp at M⊢;rw[hh j q,m]at M;rw[m];simp only[hg,if_true]at M⊢;rcases M with M|M
   ·refine .inl (Ow (λa' w' hk=>ih (LH.setIfInBounds j true) (LF.setIfInBounds j true) a' w' (by simp[O]) (λk Ab => ?_) (D.set u q) hk.2) (λe a' w' Aa G=> ?_) M)
    ·by_cases g:j=k
     ·subst g;have G:j<LF.size:=by rw[D.size];omega
      have h2:j<LH.size:=by omega
      simp[G,h2]
     ·rw[getD_set_ne false g,getD_set_ne false g];exact Y k Ab
    ·cases e with
     |normal=>exact absurd rfl Aa
     |_=>exact G.elim
   ·exact absurd M.2 Dn.out
  ·exact d (f+1) LH LF a w O Y D (λi hi=>by
    cases x:LF.getD i true with
    |true=>rfl
    |false=>exact absurd ⟨i,hi,x⟩ H) h.1
theorem Do{id Q a w}{l:List Oper}(n o)(S:W->Prop)(Z:P.follows .mixedOrders=true)(H:Yp .any l.toArray n=true)(X:l[n]?=some o)(b:S w.drew)
  (h:S w.drew->wpAnyH P .any (l.take n).toArray (Dn P l.toArray Q o) S n (fy n false) a w.drew):(Code.region id l.toArray true).wp P Q a w:=by
 simp only[Yp,V0,decide_eq_true_eq]at H;obtain⟨⟨⟨F,Y⟩,d⟩,M⟩:=H;have O:n+1=l.length:=by simpa using F
 refine wp_region_any Z ?_;have D:HeadInv .any l.toArray n (fy l.toArray.size false):=
  ⟨by simp,λj e _ G=>(by rw[getD_replicate_false]at G;cases G),λt _ K=>getD_in (by simpa using K) (getD_replicate_false _ _)⟩
 have:=RF (P:=P) (S:=S) (Q:=Q) (head:=(l.take n).toArray) F Y d M (λi hi=>by simp[hi]) (by simp;omega) (by simpa using X) n (fy n false) (fy l.toArray.size false) a w.drew (by simp) (λj _=>by rw[getD_replicate_false,getD_replicate_false]) D (h b);rw[F]at this;exact this
end
section
variable {wd:Nat} {word:Int} {w0:W} {O0:Nat->Prop} {tb pb used:Nat} {rv:V} {rs:DZ} {t:Nat} {lo hi:Int}
theorem UJ(w)(h:ER wd word w0 O0 tb pb used rv rs t lo hi w)(a b):
  C prog 311 #[P (S ⟨tb,0,N⟩),I J a,I J b] w λe w' =>e=R (T #[])/\∃lo' hi',(lo' =lo\/lo' =a)/\(hi' =hi\/hi' =b)/\ER wd word w0 O0 tb pb used rv rs t lo' hi' w' :=by
 obtain⟨m,o,M,Q,j,X,i,g,d,O,Y,Z⟩:=h.rq.cells;have f:=Zh h;by_cases F:t=0
 ·have K:((t:Int)==0)=true:=by simp[F]
  have D:=Zh ((h.low a).high b);clear h F;go_enter func311,ntmps311;go_wp2_with fail;refine bodyPost_ret (results_none rfl _ _ _) rfl ?_;exact⟨rfl,a,b,.inr rfl,.inr rfl,D.out⟩
 ·have K:((t:Int)==0)=false:=by simp[F]
  have D:=Zh (show∀W,B w.heap.size w W->ER wd word w0 O0 tb pb used rv rs t (min lo a) (max hi b) ((W.setCell ⟨tb,5,N⟩ (I J (min lo a))).setCell ⟨tb,6,N⟩ (I J (max hi b)))from λW k=>((h.next k).low _).high _);clear h F;go_enter func311,ntmps311;go_upto_region 2 with fail;have G:B w.heap.size w w.drew:=(B.refl _ _).drew;have H:=Zh (D.out _ G);clear D G;go_region;all_goals(
   go_wp2_with fail;go_end0;exact⟨rfl,_,_,by omega,by omega,H.out⟩)
end
theorem UK:(prog.info? 178).map (λi=>(i.zero,i.size,i.bytes))=S (S (L N 0 0),1,24):=by kernel_rfl
theorem GS{ops}{rest:List Oper}{o a Q}(H:o.guard=N)(s x)(k:o.op=.call {callee:=.builtin .append,args:= #[s,x],argTypes:= #[183,183]})
  {W B n rv}{rs:DZ}(F:W.ownsRow B 178 1 rv n (Gf rs))(r:B<=W.heap.size)(Z:n<=100000){X:V×List Int}{b}(m:a.eval s=rv)(p:a.eval x=L (S ⟨b,0,N⟩) 1 1)(e:AI W b #[X.1] 178)(G:X.1.oneCell' =true)
  (h:∀A' c' K,K.ownsRow B 178 1 (L A' (n+1) c') (n+1) (Gf (rs++ [X]))->W.grownBy K rv.ownBlock->((L A' (n+1) c').ownBlock=rv.ownBlock\/(L A' (n+1) c').ownBlock=S W.heap.size)->wpList prog ops Q rest (a.put o.dst (L A' (n+1) c')) K):wpList prog ops Q (o::rest) a W:=by
 obtain⟨i,hi,M,O,Y⟩:=info_parts UK;refine wpList_append_own_at _ H s x 183 k B 178 i _ 1 24 underlying183 hi M O Y rfl (by decide) _ _ _ m F ⟨b,0,N⟩ 1 1 (Gf [X]) p rfl ?_ ?_ (by unfold maxLen;omega) (by omega) r ?_
 ·intro j u q;rw[Addr.add_lit,fa];exact e.cell (by simpa[Gf]using q)
 ·intro u d;simp[Gf]at d;rw[d];exact G
 intro v' w' D f _ g;obtain⟨A',c',rfl⟩:=AF D;rw[<-MB]at D;exact h A' c' w' D f g
def bE(wd:Nat)(word:Int)(w:W)(tb pb used:Nat)(rv:V)(rs:DZ)(t:Nat)(lo hi:Int)(e:Ending)(w' :W):Prop:=
 e=R (T #[])/\∃used' rv' rs',ER wd word w (EE tb pb rv rs) tb pb used' rv' rs' t lo hi w' /\Bx (Bf rs')/\wS (Bf rs')=t/\used' <=used+20/\∀x∈rs',x.2.length<wd
theorem DN.shape{wd word W tb pb used rv}{rs:DZ}{t lo hi}(h:DN wd word W tb pb used rv rs t lo hi)(F:rs≠ []):∃g D,rv=L (S ⟨g,0,N⟩) rs.length D:=by
 rcases AH h.own with⟨_,H,_⟩|⟨g,D,G,_⟩
 ·exact absurd (fw H) F
 ·exact⟨g,D,G⟩
theorem MC{rs:DZ}(h:Bx (Bf rs)):rs≠ []:=λe=>h.1 (by rw[e];rfl)
theorem MD{rs:DZ}{t}(h:Bx (Bf rs))(F:wS (Bf rs)=t)(D:t<=7300):rs.length<=14:=by
 have:=JF h F D;rwa [Ag]at this
theorem IA{rs:DZ}{t}(D:wS (Bf rs)=t){x:V×List Int}(F:x∈rs):x.2.length<=t:=by
 rw[<-D];exact Sw _ _ (List.mem_map.2 ⟨x,F,rfl⟩)
theorem TE{rs:DZ}(h:Bx (Bf rs)){x:V×List Int}(D:x∈rs):∀y∈x.2,Am y:=h.2.2 x.2 (List.mem_map.2 ⟨x,D,rfl⟩)
structure fi(wd:Nat)(word:Int)(w:World)(O0:Nat->Prop)(tb pb us t:Nat)(lo hi:Int)(B:Nat)(rs1:DZ)(q gs cs m:Nat)(ss:List Int)(g2 cap2 n2:Nat)(rs2:DZ)(W:World):Prop where
 rq:ER wd word w O0 tb pb us (L (S ⟨g2,0,N⟩) n2 cap2) rs2 t lo hi W
 so:W.ownsRow B 2 1 (L (S ⟨gs,0,N⟩) m cs) m (BG ss)
 lt:∀x∈rs2,∀k,x.1.ownBlock=S k->k<B
 n2:n2=rs2.length
 shape:rs2=rs1/\q+1<rs1.length\/rs2=rs1++ [(L N 0 0,([]:List Int))]/\q+1=rs1.length
 ws:w.heap.size<=B
theorem DF.tail{w B g n F D}(h:w.ownsRow B 2 1 (L (S ⟨g,0,N⟩) n F) n (BG D))(k c)(Q:k<=n)(M:∀y∈D,Am y)(X:n<=1000000):DF w (L (S ⟨g,k,N⟩) (n-k) c) (D.drop k):=by
 have O:n=D.length:=by have:=h.1;rw[BJ]at this;omega
 have G:(D.drop k).length=n-k:=by rw[dT];omega
 refine⟨by rw[G];unfold maxLen;omega,λz K=>M z (gW K),.inr ⟨g,k,c,by rw[G],(h.lt g rfl).2,λi hi=> ?_⟩⟩;have H:=Hz h O (k+i) (by rw[G]at hi;omega);rw[H];simp
theorem Yq{F D:DZ}{q M v K H}{y:V×List Int}(h:D=F/\q+1<F.length\/D=F++ [(L N 0 0,([]:List Int))]/\q+1=F.length)(G:D[q+1]?=S y):
  Bf ((D.set q (M,K)).set (q+1) (v,y.2++H))=Br (Bf F) q K H:=by
 rcases h with⟨rfl,h⟩|⟨rfl,h⟩
 ·rw[FQ,FQ];have e:(Bf D)[q+1]'(by rw[Ag];exact h)=y.2:=by
   rw[FP D _ h];rw[List.getElem?_eq_getElem h]at G;rw[Q0 G]
  rw[<-e];exact NM (Bf D) q K H (by rw[Ag];exact h)
 ·rw[FQ,FQ,Ew];have e:y.2=[]:=by
   rw[List.getElem?_append_right (by omega),h,gQ]at G;simp at G;rw[<-G]
  rw[e];exact L8 (Bf F) q K H (by rw[Ag];exact h)
def Ox(wd q:Nat)(rs:DZ):Prop:=∀i y,rs[i]?=S y->i<q->y.2.length<wd
theorem Ox.up{wd q}{rs:DZ}(h:Ox wd q rs)(D:q<rs.length)(F:(rs[q]'D).2.length<wd):Ox wd (q+1) rs:=λi y hi G=>by
 by_cases e:i=q
 ·subst e
  rw[List.getElem?_eq_getElem D]at hi
  rw[<-Q0 hi];exact F
 ·exact h i y hi (by omega)
theorem Ox.all{wd q}{rs:DZ}(h:Ox wd q rs)(F:rs.length<=q):∀x∈rs,x.2.length<wd:=λx D=>by
 obtain⟨i,hi,e⟩:=List.mem_iff_getElem.1 D
 exact h i x (by rw[List.getElem?_eq_getElem hi,e]) (by omega)
theorem Ox.split{wd q}{D F:DZ}{G u:V×List Int}(h:Ox wd q D)(H:F=D/\q+1<D.length\/F=D++ [(L N 0 0,([]:List Int))]/\q+1=D.length)(K:G.2.length<wd):Ox wd (q+1) ((F.set q G).set (q+1) u):=λi y hi M=>by
 rw[List.getElem?_set_ne (by omega)]at hi
 by_cases e:i=q
 ·subst e
  rw[List.getElem?_set]at hi
  split at hi
  ·split at hi
   ·rw[<-Q0 hi];exact K
   ·cases hi
  ·rename_i h;exact absurd rfl h
 ·rw[List.getElem?_set_ne (Ne.symm e)]at hi
  rcases H with⟨rfl,_⟩|⟨rfl,O⟩
  ·exact h i y hi (by omega)
  ·rw[List.getElem?_append_left (by omega)]at hi
   exact h i y hi (by omega)
theorem ME(wd)(h4:4<=wd)(HU:wd<=64)(word w tb pb used rv)(rs:DZ)(t lo hi)(h:DN wd word w tb pb used rv rs t lo hi)(ok:Bx (Bf rs))(hs:wS (Bf rs)=t)(ht:t<=7300)(hu:used<=1000000000):
  C prog 310 #[P (some ⟨tb,0,N⟩)] w (bE wd word w tb pb used rv rs t lo hi):=by
 have A1:=Zh (Zi (show ER wd word w (EE tb pb rv rs) tb pb used rv rs t lo hi w from⟨h,IH.refl _ _⟩) (Zi ok hs));generalize hO0:EE tb pb rv rs=O0 at A1;have Gd:=Zh hO0;clear h ok hs hO0;go_enter func310,ntmps310;go_wp2_with fail;go_loopg [2] 15 (λg i wx=>∃(q used' :Nat) (rv' :V) (rs' :DZ),i=I J q/\q<=rs'.length/\15-q<=g/\used' <=used+q/\ER wd word w O0 tb pb used' rv' rs' t lo hi wx/\Bx (Bf rs')/\wS (Bf rs')=t/\Hid (Ox wd q rs'));case atStart=>exact⟨0,used,rv,rs,rfl,ag _,E _,E _,A1.out.1,A1.out.2.1,A1.out.2.2,Zh (λi y _ h=>absurd h (Nat.not_lt_zero _))⟩
 case round=>
  clear A1;rename World=>wx;obtain⟨q,us,HO,H,rfl,hq,hg,Hl,S,ok,hs,B0⟩:=hrel;have E9:=MD ok hs ht;obtain⟨g1,Z,rfl⟩:=S.rq.shape (MC ok);obtain⟨n,hn⟩:∃n,n=H.length:=⟨_,rfl⟩;obtain⟨c0,c1,c2,c3,c4,c5,c6,f3,f4,f5,f6,cl⟩:=S.rq.cells;rw[<-hn]at hq E9 c3;by_cases G2:q<n
  ·have e1:(q:Int)<(n:Int):=by omega
   have Ap:q<H.length:=by rw[<-hn];exact G2
   obtain⟨p0,p1,p2⟩:=S.rq.at rfl rfl q Ap;have A3:=NW Ap;have A2:=S.rq.row _ A3;have B2:=IA hs A3;have BX:=TE ok A3;obtain⟨x,hx⟩:∃x,x=H[q]'Ap:=⟨_,rfl⟩;rw[<-hx]at p0 A3 A2 B2 BX;obtain⟨xv,xs⟩:=x;simp only at p0 A2 B2 BX;obtain⟨A,c,rfl⟩:=A2.slice;obtain⟨m,hm⟩:∃m,m=xs.length:=⟨_,rfl⟩;rw[<-hm]at p0 B2;have HX:=Zh (Zi hx (Zi hm (Zi hn (Zi A2 BX))));have HS:=Zh (Zi S (Zi ok hs));clear S ok hs hx hm hn A2 BX A3;by_cases HK:m<wd
   ·have e2:decide ((m:Int)<(wd:Int))=true:=by simp;omega
    go_upto_region 3 with fail;go_quiet(fail);have HF:=Zh (HS.out.1.next (W1:=wx.drewN nq) ⟨rfl,rfl,rfl,E _,λ_ _=>rfl⟩);go_wp2_with fail;go_roundg (15-(q+1));case measure=>omega
    exact⟨q+1,us,(.slice (some ⟨g1,0,N⟩) H.length Z),H,by go_num,by have:=HX.out.2.2.1;omega,E _,by omega,HF.out,HS.out.2.1,HS.out.2.2,Zh (B0.out.up Ap (by rw[<-HX.out.1];have:=HX.out.2.1;simp only;omega))⟩
   ·have e2:decide ((m:Int)<(wd:Int))=false:=by simp;omega
    go_upto_region 3 with fail;go_quiet(fail);have b1:Below wx.heap.size wx (wx.drewN nq):=⟨rfl,rfl,rfl,E _,λ_ _=>rfl⟩;have S1:=HS.out.1.next b1;have B5:BD (wx.drewN nq) _ xs:=HX.out.2.2.2.1.next b1;generalize wx.drewN nq=w1 at S1 B5⊢;clear b1 c0 c1 c2 c3 c4 c5 c6 f3 f4 f5 f6 cl p0 p1 p2;have A0:=Zh S1;have Bu:∀W,Below w1.heap.size w1 W->W.cell? ⟨tb,0,N⟩=some (I J wd)/\W.cell? ⟨tb,3,N⟩=some (.slice (some ⟨g1,0,N⟩) n Z)/\W.cell? ⟨g1,q,N⟩=some (.slice A m c)/\tb<W.heap.size/\g1<W.heap.size:=λW b=>by
     have h1:=(A0.out.next b).rq;obtain⟨c0,c1,c2,c3,_,_,_,_,_,_,_,cl⟩:=h1.cells;obtain⟨p0,p1,p2⟩:=h1.at rfl rfl q Ap;rw[<-HX.out.1,<-HX.out.2.1]at p0;rw[<-HX.out.2.2.1]at c3;exact⟨c0,c3,p0,cl,p2⟩
    have C0:=Zh (Bu _ (Below.refl _ _).drew);have HN:=Zh Bu;obtain⟨kp,D1⟩:∃kp,kp=wd/2:=⟨_,rfl⟩;have GF:(wd:Int)/2=(kp:Int):=by omega
    have E5:(wd:Int).tdiv 2=(kp:Int):=by rw[Int.tdiv_eq_ediv_of_nonneg (by omega)];omega
    have Cr:J.wrap (kp:Int)=(kp:Int):=by rw[ej];omega
    have G8:J.wrap ((wd:Int).tdiv 2)=(kp:Int):=by rw[E5,Cr]
    have B3:=VX w1.drew (.slice A xs.length c) xs kp (DF.of_row (B5.next (Below.refl _ _).drew) HX.out.2.2.2.2) (by have:=HX.out.2.1;omega) (by have:=HX.out.2.1;omega);rw[<-HX.out.2.1]at B3;have B9:=Zh D1;clear Bu S1 B5 D1;go_upto_region 4 with fail;go_region_held3 (λw' =>w'.cell? ⟨tb,0,N⟩=some (I J wd)/\w'.cell? ⟨tb,3,N⟩=some (.slice (some ⟨g1,0,N⟩) n Z)/\w'.cell? ⟨g1,q,N⟩=some (.slice A m c)/\tb<w'.heap.size/\g1<w'.heap.size) (first|exact C0.out|exact HN.out _ (by assumption))
     (first
      |(go_at_call 314;refine B3.mono ?_;rintro e w2 ⟨s,cs,k,ss,rfl,o2,hp,k1,k2,k3,b2⟩;have Bw:Below w1.heap.size w1 w2:=(Below.refl _ _).drew.trans b2))
    have S2:=A0.out.next Bw;have Aa:=Zh (show w1.heap.size<=w2.heap.size/\w.heap.size<=w1.heap.size/\(∀x∈H,∀k,x.1.ownBlock=some k->k<w1.heap.size)/\w2.ownsRow w1.heap.size 2 1 (.slice (some ⟨s,0,N⟩) m cs) m (BG ss)from
     ⟨Bw.size,A0.out.st.away.size,λx hx k hk=>(A0.out.rq.row x hx).lt hk,o2⟩)
    have HP:=Zh (Zi hp (Zi k1 (Zi k2 k3)));have BQ:=Zh S2;generalize hB:w1.heap.size=B at Aa;have c3:=S2.rq.cells.2.2.2.1;have C4:=S2.rq.cells.2.2.2.2.2.2.2.2.2.2.2;rw[<-HX.out.2.2.1]at c3;clear C0 HN A0 B3 Bw o2 b2 hp k1 k2 k3 S2 GF E5 Cr G8;go_upto_if 52 with fail;go_cut [2,3,4,46,52]from 53 to 61 (λi sv rv _ _ wy=>i=I J q/\sv=.slice (some ⟨s,0,N⟩) k k/\rv=.slice (some ⟨s,k,N⟩) (m-k) (cs-k)/\∃G D u z,fi wd word w O0 tb pb us t lo hi B H q s cs m ss G D u z wy);case first=>
     by_cases GB:q+1=n
     ·have f1:((q:Int)+1==(n:Int))=true:=by simp;omega
      have S3:=BQ.out.next ((Below.refl w2.heap.size w2).alloc (E _) (.cells #[.slice N 0 0] 178));have A4:=S3.rq.own;rw[<-HX.out.2.2.1]at A4;have E2:=Zh A4;have GC:=Zh (show∀A' c' w4,w4.ownsRow 0 178 1 (.slice A' (n+1) c') (n+1) (Gf (H++ [(V.slice N 0 0,([]:List Int))]))->(w2.alloc (.cells #[.slice N 0 0] 178)).grownBy w4 (V.slice (some ⟨g1,0,N⟩) n Z).ownBlock->((V.slice A' (n+1) c').ownBlock=(V.slice (some ⟨g1,0,N⟩) n Z).ownBlock\/(V.slice A' (n+1) c').ownBlock=some (w2.alloc (.cells #[.slice N 0 0] 178)).heap.size)->
        (w4.cell? ⟨tb,3,N⟩=some (.slice (some ⟨g1,0,N⟩) n Z)/\w4.frozen? ⟨tb,3,N⟩=false/\tb<w4.heap.size)/\Hid (∃G D u z,fi wd word w O0 tb pb us t lo hi B H q s cs m ss G D u z (w4.setCell ⟨tb,3,N⟩ (.slice A' (n+1) c')))from λA' c' w4 o4 BR k4=>by
       have a4:AD (λk=>(V.slice (some ⟨g1,0,N⟩) n Z).ownBlock=some k) (w2.alloc (.cells #[.slice N 0 0] 178)) w4:=AD.of_grown BR λk hk=>hk;have hl:n+1=(H++ [(V.slice N 0 0,([]:List Int))]).length:=by rw[fj,HX.out.2.2.1];rfl
       have CL:AI w4 tb _ 185:=S3.rq.blk.away (F:=λk=>(V.slice (some ⟨g1,0,N⟩) n Z).ownBlock=some k) a4 (by have:=S3.rq.rv_tb;exact this);have Go :=o4;rw[hl]at Go;have S4:=S3.grow (rv' :=.slice A' (n+1) c') (W1:=w4) a4 (by rw[<-hl];exact o4) (by
        rcases k4 with k4|k4
        ·exact .inl k4
        ·exact .inr ⟨_,k4,E _⟩)
       obtain⟨G,rfl⟩:∃G,A' =some ⟨G,0,N⟩:=by
        rcases AH o4 with⟨_,h0,_⟩|⟨g,Hk,h1,_⟩
        ·omega
        ·simp only[V.slice.injEq]at h1;exact⟨g,h1.1⟩
       have E1:s≠g1:=λe=>by
        obtain⟨A9,hc⟩:=AJ Aa.out.2.2.2 (g:=s) rfl;obtain⟨D0,Bt⟩:=AJ BQ.out.rq.own (g:=g1) rfl;exact(hc.ne Bt (by decide)) e
       have GL:s≠tb:=λe=>by
        obtain⟨A9,hc⟩:=AJ Aa.out.2.2.2 (g:=s) rfl;exact(hc.ne BQ.out.rq.blk (by decide)) e
       refine⟨⟨by rw[HX.out.2.2.1];exact CL.cell rfl,CL.frozen 3,CL.lt⟩,Zh ⟨G,c',n+1,_,S4,?_,λx hx k hk=> ?_,hl,.inr ⟨rfl,by rw[GB,HX.out.2.2.1]⟩,by have:=Aa.out.2.1;exact this⟩⟩
       ·refine AN (AU (AE Aa.out.2.2.2 ((Below.refl w2.heap.size w2).alloc (E _) _) λg hg=>(Aa.out.2.2.2.lt g hg).2) a4 λg hg e=> ?_) ⟨tb,3,N⟩ _ (λe=>GL (by simpa[V.ownBlock]using e));simp only[V.ownBlock,iE]at hg e;omega
       ·rcases List.mem_append.1 hx with hx|hx
        ·exact Aa.out.2.2.1 x hx k hk
        ·rw[List.mem_singleton.1 hx]at hk;cases hk)
      have GK:n<=100000:=by omega
      clear S3 A4;go_wp2_with(at_builtin;refine GS rfl _ _ rfl E2.out (ag _) GK (X:=(.slice N 0 0,[])) rfl rfl (AI.newAt rfl) rfl ?_;intro A' c' w4 o4 BR k4;have G5:=GC.out A' c' w4 o4 BR k4;obtain⟨⟨y3,z3,yl⟩,HG⟩:=G5;clear o4 BR k4 c3 C4);go_meet;exact⟨rfl,rfl,rfl,HG.out⟩
     ·have f1:((q:Int)+1==(n:Int))=false:=by simp;omega
      have HG:=Zh (show∃G D u z,fi wd word w O0 tb pb us t lo hi B H q s cs m ss G D u z w2 from
       ⟨g1,Z,n,H,by rw[HX.out.2.2.1];exact BQ.out,Aa.out.2.2.2,Aa.out.2.2.1,HX.out.2.2.1,.inl ⟨rfl,by rw[<-HX.out.2.2.1];omega⟩,Aa.out.2.1⟩)
      go_wp2_with fail;go_meet;exact⟨rfl,rfl,rfl,HG.out⟩
    case rest=>
     obtain⟨rfl,rfl,rfl,G,D,u,z,HY⟩:=hcut;have Ba:ss.length=m:=by have:=HY.so.1;rw[BJ]at this;omega
     have HL:k+1<=m:=by have:=HP.out.2.2.1;have:=B9.out;omega
     have GH:q+1<u:=by
      rw[HY.n2];rcases HY.shape with⟨e,h⟩|⟨e,h⟩
      ·rw[e];exact h
      ·rw[e,fj];simp;omega
     have Bb:q+1<z.length:=by rw[<-HY.n2];exact GH
     have E1:=(HY.so.lt s rfl).1;have hI:∀y∈ss,Am y:=λy hy=>HX.out.2.2.2.2 y (HP.out.1.mem_iff.1 hy);have S7:=HY.rq.put rfl HY.n2 q (by omega) (W1:=wc) (AD.refl _ _) (v' :=.slice (some ⟨s,0,N⟩) k k) (xs' :=ss.take k) (BD.head HY.so k (by omega)) (λj hj=>by
      have:s=j:=by simpa[V.ownBlock]using hj
      subst this;exact .inr ⟨λx hx e=>by have:=HY.lt x hx s e;omega,by have:=HY.ws;omega⟩)
     have E3:s≠G:=λe=>by
      obtain⟨A9,hc⟩:=AJ HY.so (g:=s) rfl;obtain⟨D0,Bt⟩:=AJ HY.rq.rq.own (g:=G) rfl;exact(hc.ne Bt (by decide)) e
     have hR:=DF.tail (AN HY.so ⟨G,q,N⟩ (.slice (some ⟨s,0,N⟩) k k) (λe=>E3 (by simpa[V.ownBlock]using e))) k (cs-k) (by omega) hI (by omega);obtain⟨d3,G3⟩:=Zi HY.rq.rq.cells.2.2.2.1 HY.rq.rq.cells.2.2.2.2.2.2.2.2.2.2.2;obtain⟨p0,p1,p2⟩:=HY.rq.rq.at rfl HY.n2 q (by omega);generalize(z[q]'(by omega)).1=vq at p0;have HB:q<u:=by omega
     have D5:(q:Int)<(u:Int):=by omega
     have HR:m<=7300:=by omega
     have Ax:=Zh HY;clear HY c3 C4 E1 E3;go_upto_region 8 with fail;generalize wc.setCell ⟨G,q,N⟩ (.slice (some ⟨s,0,N⟩) k k)=W7 at S7 hR⊢;clear d3 G3 p0 p1 p2;obtain⟨M,Ac⟩:∃M,M=z.set q (V.slice (some ⟨s,0,N⟩) k k,ss.take k):=⟨_,rfl⟩;rw[<-Ac]at S7;have D8:M.length=z.length:=by rw[Ac,aw]
     have f:q+1<M.length:=by rw[D8];exact Bb
     have Ab:u=M.length:=by rw[D8];exact Ax.out.n2
     obtain⟨y,hy⟩:∃y,y=M[q+1]'f:=⟨_,rfl⟩;have Aw:z[q+1]?=some y:=by
      rw[hy,List.getElem?_eq_getElem Bb];simp[Ac]
     obtain⟨yv,yx⟩:=y;have A7:=S7.rq.row _ (NW f);rw[<-hy]at A7;simp only at A7;obtain⟨Ay,cy,rfl⟩:=A7.slice;obtain⟨my,Av⟩:∃my,my=yx.length:=⟨_,rfl⟩;have C3:=Zh (Zi Ac (Zi hy (Zi Aw (Zi Av (Zi Ab Ba)))));have b8:Below W7.heap.size W7 W7.drew:=(Below.refl _ _).drew;have S8:=S7.next b8;have C1:=hR.next b8;have A8:∀Ck W,ER wd word w O0 tb pb Ck (.slice (some ⟨G,0,N⟩) u D) M t lo hi W->W.cell? ⟨G,q+1,N⟩=some (.slice Ay my cy)/\W.frozen? ⟨G,q+1,N⟩=false/\(W.cell? ⟨tb,2,N⟩=some (P (some ⟨pb,0,N⟩))/\W.cell? ⟨tb,3,N⟩=some (.slice (some ⟨G,0,N⟩) u D)/\tb<W.heap.size/\G<W.heap.size/\W.cell? ⟨G,q+1,N⟩=some (.slice Ay my cy)):=λCk W h=>by
      obtain⟨c0,c1,c2,c3,_,_,_,_,_,_,_,cl⟩:=h.rq.cells;obtain⟨p0,p1,p2⟩:=h.rq.at rfl Ab (q+1) f;rw[<-hy,<-Av]at p0;exact⟨p0,p1,c2,c3,cl,p2,p0⟩
     have C8:=Zh (A8 us _ S8);have GE:=VU W7.drew pb word us S8.rq.tape (by omega);have GG:s≠pb:=λe=>by
      obtain⟨A9,hc⟩:=AJ Ax.out.so (g:=s) rfl;exact(hc.ne (show AI wc pb _ 225 from Ax.out.rq.rq.tape) (by decide)) e
     have NX:=Zh (show∀w9,GY w9 pb word (us+1)->AD (λk=>k=pb) W7.drew w9->(w9.cell? ⟨G,q+1,N⟩=some (.slice Ay my cy)/\(w9.cell? ⟨tb,2,N⟩=some (P (some ⟨pb,0,N⟩))/\w9.cell? ⟨tb,3,N⟩=some (.slice (some ⟨G,0,N⟩) u D)/\tb<w9.heap.size/\G<w9.heap.size/\w9.cell? ⟨G,q+1,N⟩=some (.slice Ay my cy)))/\Hid (ER wd word w O0 tb pb (us+1) (.slice (some ⟨G,0,N⟩) u D) M t lo hi w9)/\DF w9 (.slice (some ⟨s,k,N⟩) (m-k) (cs-k)) (ss.drop k)from λw9 t9 a9=>by
      have S9:=S8.coin t9 a9;have c:=A8 _ _ S9;refine⟨⟨c.1,c.2.2⟩,Zh S9,?_⟩;obtain⟨h1,h2,h3⟩:=C1;refine⟨h1,h2,h3.imp id ?_⟩;rintro⟨b,o,c',e,E8,hc⟩;have FR:b≠pb:=λe2=>by
       simp only[V.slice.injEq,iE,Addr.mk.injEq]at e;exact GG (e.1.1.trans e2)
      exact⟨b,o,c',e,fx E8 a9.size,λi hi=>by rw[a9.cell (p:=⟨b,_,N⟩) E8 FR];exact hc i hi⟩)
     have G7:=λW b (h:DF W (.slice (some ⟨s,k,N⟩) (m-k) (cs-k)) (ss.drop k))=>VV W _ (ss.drop k) b h (by rw[dT];omega);have HV:=Zh (show∀w9 O,ER wd word w O0 tb pb (us+1) (.slice (some ⟨G,0,N⟩) u D) M t lo hi w9->Below w9.heap.size w9 O->(O.cell? ⟨G,q+1,N⟩=some (.slice Ay my cy)/\(O.cell? ⟨tb,2,N⟩=some (P (some ⟨pb,0,N⟩))/\O.cell? ⟨tb,3,N⟩=some (.slice (some ⟨G,0,N⟩) u D)/\tb<O.heap.size/\G<O.heap.size/\O.cell? ⟨G,q+1,N⟩=some (.slice Ay my cy)))/\Hid (ER wd word w O0 tb pb (us+1) (.slice (some ⟨G,0,N⟩) u D) M t lo hi O)/\BD O (.slice Ay my cy) yx from λw9 O S9 B1=>by
      have d:=S9.next B1;have c:=A8 _ _ d;have hr:=d.rq.row _ (NW f);rw[<-hy]at hr;refine⟨⟨c.1,c.2.2⟩,Zh d,by rw[Av];exact hr⟩)
     have HM:=Zh S8;have HC:¬((q:Int)+1<0):=by omega
     have G9:(0:Int)<=(q:Int)+1:=by omega
     have Hi:J.wrap ((q:Int)+1)=(q:Int)+1:=by rw[ej];omega
     have HD:((q:Int)+1).toNat=q+1:=by omega
     have HZ:(q:Int)+1<(u:Int):=by omega
     have HQ:ss.length<=7300:=by omega
     have Hb:yx.length<=7300:=by
      rcases Ax.out.shape with⟨e,_⟩|⟨e,h⟩
      ·subst e;have:=IA HS.out.2.2 (List.mem_of_getElem? Aw);simp only at this;omega
      ·rw[e,List.getElem?_append_right (by omega),h,gQ]at Aw;have h3:=congrArg (λo=>(Option.map (λp:V×List Int=>p.2.length) o)) Aw;simp at h3;omega
     have HA:=Zh (show∀O Q Y a (ys:List Int) (L:Nat),L=(yx++ys).length->ER wd word w O0 tb pb (us+1) (.slice (some ⟨G,0,N⟩) u D) M t lo hi O->BD Q (.slice Y L a) (yx++ys)->O.grownBy Q (V.slice Ay my cy).ownBlock->((V.slice Y L a).ownBlock=(V.slice Ay my cy).ownBlock\/(V.slice Y L a).ownBlock=some O.heap.size)->
       (Q.cell? ⟨G,q+1,N⟩=some (.slice Ay my cy)/\Q.frozen? ⟨G,q+1,N⟩=false/\(Q.cell? ⟨tb,2,N⟩=some (P (some ⟨pb,0,N⟩))/\Q.cell? ⟨tb,3,N⟩=some (.slice (some ⟨G,0,N⟩) u D)/\tb<Q.heap.size/\G<Q.heap.size/\Q.cell? ⟨G,q+1,N⟩=some (.slice Ay my cy)))/\
       ((Q.setCell ⟨G,q+1,N⟩ (.slice Y L a)).cell? ⟨tb,2,N⟩=some (P (some ⟨pb,0,N⟩))/\(Q.setCell ⟨G,q+1,N⟩ (.slice Y L a)).cell? ⟨tb,3,N⟩=some (.slice (some ⟨G,0,N⟩) u D)/\tb<(Q.setCell ⟨G,q+1,N⟩ (.slice Y L a)).heap.size/\G<(Q.setCell ⟨G,q+1,N⟩ (.slice Y L a)).heap.size)/\
       Hid (ER wd word w O0 tb pb (us+1) (.slice (some ⟨G,0,N⟩) u D) (M.set (q+1) (.slice Y L a,yx++ys)) t lo hi (Q.setCell ⟨G,q+1,N⟩ (.slice Y L a)))from λO Q Y a ys L hL d A5 A6 BA=>by
      have ey:(M[q+1]'f).1=.slice Ay my cy:=by rw[<-hy,Av]
      have Al:AD (λk=>(M[q+1]'f).1.ownBlock=some k) O Q:=AD.of_grown A6 λk hk=>by rw[ey];exact hk
      have B4:=d.put rfl Ab (q+1) f Al A5 (λk hk=>by
       rcases BA with e|e
       ·exact .inl (by rw[ey,<-e];exact hk)
       ·rw[e]at hk;have D2:O.heap.size=k:=by simpa using hk
        subst D2;exact .inr ⟨λx hx e2=>Nat.lt_irrefl _ ((d.rq.row x hx).lt e2),d.st.away.size⟩)
      have hm:=NW f;obtain⟨c0,c1,c2,c3,_,_,_,_,_,_,_,cl⟩:=d.rq.cells;obtain⟨p0,p1,p2⟩:=d.rq.at rfl Ab (q+1) f;obtain⟨d0,d1,d2,d3,_,_,_,_,_,_,_,dl⟩:=B4.rq.cells;obtain⟨_,_,e2⟩:=B4.rq.at rfl (by rw[aw];exact Ab) (q+1) (by rw[aw];exact f);rw[<-hy,<-Av]at p0;have Cs:¬(M[q+1]'f).1.ownBlock=some tb:=d.rq.row_tb hm;have E7:¬(M[q+1]'f).1.ownBlock=some G:=d.rq.row_rv hm rfl;refine⟨⟨(Al.cell (p:=⟨G,_,N⟩) p2 E7).trans p0,?_,(Al.cell (p:=⟨tb,_,N⟩) cl Cs).trans c2,(Al.cell (p:=⟨tb,_,N⟩) cl Cs).trans c3,fx cl Al.size,fx p2 Al.size,(Al.cell (p:=⟨G,_,N⟩) p2 E7).trans p0⟩,⟨d2,d3,dl,e2⟩,Zh B4⟩;obtain⟨A9,hb⟩:=AJ (AU d.rq.own Al λg hg e=>d.rq.row_rv hm hg e) (g:=G) rfl;exact hb.frozen _)
     have E0:=Zh (show∀v ys,Bf (M.set (q+1) (v,yx++ys))=Br (Bf H) q (ss.take k) ys from λv ys=>by
      rw[Ac];exact Yq Ax.out.shape Aw)
     clear S7 S8 hR C1 A7 Ac hy Aw Av Ab Ba A8 b8 D5;obtain⟨p8,-,q8⟩:=C8.out;clear C8;have C8:=Zh q8;clear q8;refine Do 23 _ (λw' =>w'.cell? ⟨tb,2,N⟩=some (P (some ⟨pb,0,N⟩))/\w'.cell? ⟨tb,3,N⟩=some (.slice (some ⟨G,0,N⟩) u D)/\tb<w'.heap.size/\G<w'.heap.size/\w'.cell? ⟨G,q+1,N⟩=some (.slice Ay my cy)) (by kernel_rfl) (by kernel_rfl) rfl C8.out (λAA=> ?_);simp only[gc,gd];iterate 19 (refine Zu 23 (v:= ?_) rfl rfl (by kernel_rfl) (λ_ _ _ h=>h) (by rfl) ?_ AA ?_;rotate_left;focus (intro w Bs;(try dsimp only at Bs);go_simp;try with_reducible rfl);try simp only[Pa,Zp,Zq,Zr])
     refine wpAnyH_ready (rs:=[19]) (by kernel_rfl) (by simp) ?_;refine AllReadyH.cons (o:=_) rfl (λK hK=> ?_) AllReadyH.nil;go_simp;go_at_call 316;refine GE.mono ?_;rintro e w9 ⟨⟨bb,rfl⟩,t9,a9⟩;obtain⟨⟨p9,q9⟩,H9,r9⟩:=NX.out w9 t9 a9;dsimp only;refine hK.out _ _ (by assumption) (λAA=> ?_);clear hK K;try simp only[Pa,Zp,Zq,Zr]
     refine wpAnyH_ready (rs:=[20]) (by kernel_rfl) (by simp) ?_;refine AllReadyH.cons (o:=_) rfl (λK hK=> ?_) AllReadyH.nil;go_simp;go_at_call 315;refine(G7 _ _ r9).mono ?_;rintro e O ⟨HW,ys,rfl,D4,r,C9,B1⟩;obtain⟨⟨HH,Hw⟩,G1,GM⟩:=HV.out _ _ H9.out B1;obtain⟨HT,HI,rfl⟩:=AF D4;have E6:=Zh r;have Hc:ys.length<=8000:=by
      rw[r,dT];split<;>omega
     clear r;dsimp only;refine hK.out _ _ (by assumption) (λAA=> ?_);clear hK K;try simp only[Pa,Zp,Zq,Zr]
     refine wpAnyH_ready (rs:=[21]) (by kernel_rfl) (by simp) ?_;refine AllReadyH.cons (o:=_) rfl (λK hK=> ?_) AllReadyH.nil;refine Ff rfl _ _ 178 rfl underlying178 rfl rfl GM (Ma.of_row (BD.of_owns D4)) (by omega) ?_;intro GA Q A5 A6 BA;obtain⟨Y,a,L,hL,rfl⟩:∃A c L,L=(yx++ys).length/\GA=.slice A L c:=by
      obtain⟨Y,a,e⟩:=A5.slice;exact⟨Y,a,_,rfl,e⟩
     obtain⟨⟨Hj,HJ,Hr⟩,HE,D3⟩:=HA.out _ _ _ _ _ _ hL G1.out A5 A6 BA;clear A5 A6 BA hL;refine hK.out _ _ (by assumption) (λAA=> ?_);clear hK K;try simp only[Pa,Zp,Zq,Zr]
     refine wpAnyH_take (i:=22) (oi:=_) (v:= ?_) rfl (by kernel_rfl) (by kernel_rfl) (by kernel_rfl) (λ_ _ _ h=>h) (Or.inl ⟨by rfl,?_⟩) AA ?_;rotate_left
     ·intro w Bs;try dsimp only at Bs
      go_simp;try with_reducible rfl
     try simp only[Pa,Zp,Zq,Zr]
     refine wpAnyH_done (by kernel_rfl) ?_ _;unfold Dn;have r:=E6.out;have Ba:=C3.out.2.2.2.2.2;have Ar:xs.length=(ss.take k).length+2*ys.length:=by
      have h1:=HP.out.2.2.2;have h2:=HX.out.2.1;rw[dT]at r;rw[bh,<-h2];split at r<;>omega
     have E4:q<(Bf H).length:=by rw[Ag];exact Ap
     have C2:(Bf H)[q]'E4=xs:=by rw[FP H q Ap,<-HX.out.1]
     have hW:=Qx (Bf H) q (ss.take k) ys E4 (by rw[C2];exact Ar);have D2:2<=k:=by have:=HP.out.2.1;have:=B9.out;omega
     have Cp:=Yh (Bf H) q (ss.take k) ys HS.out.2.1 (λe=>by have:=congrArg List.length e;rw[bh,es]at this;omega) (λe=>by rw[e]at Ar;simp only[bh,es]at Ar;have:=HX.out.2.1;omega) (λy hy=>hI y (gV hy)) C9;have HF:=Zh (Zi D3.out (Zi Cp hW));have Fn:q+1<=(M.set (q+1) (V.slice Y L a,yx++ys)).length:=by rw[aw];omega
     clear D3 Cp hW Ar C2 r Ba;go_wp2_with fail;go_roundg (15-(q+1));case measure=>omega
     exact⟨q+1,us+1,_,_,by go_num,Fn,E _,by omega,HF.out.1,by rw[E0.out];exact HF.out.2.1,by rw[E0.out,HF.out.2.2];exact HS.out.2.2,Zh (by rw[C3.out.1];exact B0.out.split Ax.out.shape (by rw[bh];have:=HP.out.2.2.1;have:=B9.out;omega))⟩
  ·have e1:¬(q:Int)<(n:Int):=by omega
   have HF:=Zh (Zi S (Zi ok hs));have G6:H.length<=q:=by omega
   have GD:us<=used+20:=by omega
   rw[<-hn]at HF;clear S ok hs;go_wp2_with fail;go_end0;exact⟨rfl,us,_,H,by rw[Gd.out];exact HF.out.1,HF.out.2.1,HF.out.2.2,GD,B0.out.all G6⟩
end Go.Proofs.YtbejdajkkoapgaaGreatDoor
