/-
  Lemmas and walks for coreBurst.proved, joined and squeezed by a program out of the loose texts J13, B1, Bu, B2, J04, J05. Conditions: each theorem states its own.
-/
import Derived.Test.YtbejdajkkoapgaaGreatDoorU01
import Derived.Deep.LoopGhost
import Derived.Test.YtbejdajkkoapgaaGreatDoorRows
import Derived.WalkKit
import Derived.WalkSpells
import Derived.WalkLawsBesides
import Derived.Deep.Light
import Derived.Lib.Small
import Derived.Lib.Walk
import Derived.Lib.BitFns
import Derived.Lib.Hide
import Derived.Lib.Strings
import Derived.Lib.Slices
import Derived.BigQuiet
import Derived.Deep.QuietTactic
import Derived.Deep.RegionHeld3
import Derived.Deep.CutBlock
import Derived.Deep.CutRange
set_option linter.all false
set_option maxRecDepth 100000
set_option maxHeartbeats 40000000
open Go.RowKit Go.Lib Go.Proofs.Tryz
open Go renaming Calls->C,Value->V,World->W
open Go.Addr renaming add_lit->iJ
open Go.Ending renaming returned->R
open Go.IntKind renaming i64->J,u64->U,wrap_u64->aw
open Go.RowKit renaming Below->B
open Go.Value renaming int->I,pointer->P,slice->L,tuple->T
open Int renaming le_refl->il,mul_comm->iC,mul_ediv_cancel->ij,mul_le_mul->gV,natCast_ediv->es,one_mul->ik,pow_add->ii,toNat_natCast->iD
open List renaming append_assoc->gi,append_nil->gd,cons_append->iE,drop_succ_cons->iI,drop_zero->gW,flatMap_cons->iL,flatMap_nil->iM,length->iB,length_append->RR,length_cons->fa,length_nil->gZ,length_singleton->iK,length_take->gh,nil_append->iF,take_append_drop->iO,take_left->gc,take_succ_cons->iG,take_zero->iH
open Nat renaming add_comm->iV,add_mul->fx,add_sub_cancel->iN,div_add_mod->iY,div_le_self->ie,div_lt_iff_lt_mul->fw,div_mul_le_self->fp,eq_of_testBit_eq->gv,le_div_iff_mul_le->iX,le_refl->E,le_trans->gg,lt_of_le_of_lt->gU,lt_of_lt_of_le->iA,mod_eq_of_lt->gX,mod_eq_sub_div_mul->ej,mod_lt->dT,mod_mul->iU,mod_two_eq_zero_or_one->iP,mul_add->iW,mul_assoc->gS,mul_comm->gT,mul_div_mul_right->iZ,mul_le_mul->fy,mul_le_mul_right->gj,one_le_div_iff->ic,one_le_two_pow->ig,pow_add->V0,pow_le_pow_right->Pa,pow_succ->fk,shiftLeft_eq->bw,shiftLeft_xor_distrib->iT,testBit_lt_two_pow->hZ,testBit_or->iR,testBit_xor->gy,two_pow_add_eq_or_of_lt->gu,two_pow_pos->ag,xor_assoc->Q0,xor_comm->gQ,xor_self->gR,xor_zero->gm,zero_add->fj,zero_le->gY,zero_xor->iQ
open Option renaming none->N,some->S
open UInt8 renaming ofNat->Jx,toNat_lt->bh,toNat_ofNat'->iS
namespace Go.Proofs.YtbejdajkkoapgaaGreatDoor
def CZ(w:W)(eb:Nat)(s:List UInt8):Prop:=AI w eb #[.string (bs s),.bool false] 153
theorem CZ.cells{w A s}(h:CZ w A s):w.cell? ⟨A,0,N⟩=S (.string (bs s))/\w.cell? ⟨A,1,N⟩=S (.bool false)/\w.frozen? ⟨A,0,N⟩=false/\w.frozen? ⟨A,1,N⟩=false/\A<w.heap.size:=
 ⟨AI.cell h rfl,AI.cell h rfl,AI.frozen h 0,AI.frozen h 1,AI.lt h⟩
theorem CZ.set{w A s}(h:CZ w A s)(t):CZ (w.setCell ⟨A,0,N⟩ (.string (bs t))) A t:=AI.set h 0 _
theorem Ij(w A u j):AD (λk=>k=A) w (w.setCell ⟨A,j,N⟩ u):=(AD.refl _ w).setCell _ _ (.inl rfl)
theorem Nx(w s):
  C prog 32 #[.string (bs s)] w λe w' =>e=R (P (S ⟨w.heap.size,0,N⟩))/\w' =w.alloc (.cells #[.string (bs s),.bool false] 153):=by
 go_enter func32,ntmps32;go_wp2;go_ret;exact⟨rfl,rfl⟩
theorem Hd(w A s)(h:CZ w A s):
  C prog 74 #[P (S ⟨A,0,N⟩)] w λe w' =>e=R (.bool false)/\w=w' :=by
 obtain⟨D,F,f0,f1,_⟩:=h.cells;clear h;go_enter func74,ntmps74;go_wp2;go_ret;exact⟨rfl,rfl⟩
theorem Ik(w A)(h:CZ w A []):
  C prog 34 #[P (S ⟨A,0,N⟩)] w λe w' =>e=R (.bool true)/\w=w' :=by
 obtain⟨D,F,f0,f1,_⟩:=h.cells;clear h;go_enter func34,ntmps34;go_wp2;go_ret;exact⟨by simp[Dz],rfl⟩
theorem Ka(w A n s)(h:CZ w A s)(M:n<=s.length)(K:s.length<=4000000000000000000):
  C prog 46 #[P (S ⟨A,0,N⟩),I J n] w λe w' =>e=R (.string (bs (s.take n)))/\w' =w.setCell ⟨A,0,N⟩ (.string (bs (s.drop n))):=by
 obtain⟨F,H,f0,f1,_⟩:=h.cells;clear h;have O:=CY s;have D:(bs s).extract 0 n=bs (s.take n):=by rw[Eh];simp
 have G:(bs s).extract n s.length=bs (s.drop n):=by rw[Eh,List.take_of_length_le (by simp)]
 go_enter func46,ntmps46;go_wp2;go_ret;exact⟨rfl,rfl⟩
theorem R6(u m i:Nat)(S:Int)(D:S=((7*i:Nat):Int))(A:u<2^(7*i))(h:u+m*2^(7*i)<18446744073709551616):bits .or U u (U.wrap ((m:Int)*2^S.toNat))=((u+m*2^(7*i):Nat):Int):=by
 rw[D,iD,show(m:Int)*2^(7*i)=((m*2^(7*i):Nat):Int)from by simp];have:U.wrap ((m*2^(7*i):Nat):Int)=((m*2^(7*i):Nat):Int):=by rw[aw];omega
 rw[this,u64_or_nat _ _ (by omega) (by omega),cT u m _ A]
theorem Ny(y m:Nat)(h:y=m\/y=m+128)(A:m<128):bits .and .u8 y 127=(m:Int):=by
 rw[u8_and _ _ (by omega) (by omega) (by decide) (by decide)];have k:∀x:Fin 256,x.val&&&127=x.val % 128:=by decide
 have:=k ⟨y,by omega⟩;simp only[iD,show(127:Int).toNat=127 from rfl]at this⊢;rw[this];omega
section
open Go
variable {P:Program} {a:Act} {w:W} {Q:Exit->Act->W->Prop}
theorem EH{c rest:Code}(l A)(μ:Act->W->Nat)(G:findLabel c l=S (.seq .skip rest))
  (pass:∀a w,A a w->rest.wp P (Exit.jump l (λF w' =>A F w' /\μ F w' <μ a w) Q) a w)
  (first:(∀a w,A a w->rest.wp P (Exit.jump l A Q) a w)->c.wp P (Exit.jump l A Q) a w):(Code.scope c).wp P Q a w:=
 wp_scope_jumps l A μ G (first λa w h=>Code.wp_mono (λe a w D=>by
  cases e with
  |goto l' =>exact⟨D.1,D.2.1⟩
  |_=>exact D) (pass a w h)) λa w h=>wp_seq (wp_skip (pass a w h))
end
def Ks:V->Int| I _ q=>q|_=>0
def gE(w:W)(eb n L:Nat)(r:List UInt8)(a:Act)(wr:W):Prop:=∃(u m i:Nat) (u7 u8 u9 u10 u11 u12 u13 u14 u15 u16 u17 u18 u19 u20 u21 u22 u23 u24 u25 u26 u27 u28 u29 u30 u31 u32 u33 u34 u35 u36 u37 u38 u39 u40 u41 u42:V),a={tmps:= #[P (S ⟨eb,0,N⟩),I U L,undef,undef,I U 0,I U u,I J ((7*i:Nat):Int),u7,u8,u9,u10,u11,u12,u13,u14,u15,u16,u17,u18,u19,u20,u21,u22,u23,u24,u25,u26,u27,u28,u29,u30,u31,u32,u33,u34,u35,u36,u37,u38,u39,u40,u41,u42,undef,undef,undef,undef,undef,undef],defers:=[]}/\
  i+(AK m).length<=10/\u+m*2^(7*i)=n/\u<2^(7*i)/\(i=0\/1<=m)/\CZ wr eb (AK m++r)/\AD (λk=>k=eb) w wr
theorem DC(w A n L r)(h:CZ w A (AK n++r))(hn:n<=L)(hL:L<18446744073709551616)(hs:r.length<=1000000000):
  C prog 69 #[P (some ⟨A,0,N⟩),I U L] w λe w' =>e=R (I U n)/\CZ w' A r/\AD (λk=>k=A) w w' :=by
 have Ax:=AC n (by omega);go_enter func69,ntmps69;go_wp2;have H:gE w A n L r {tmps:= #[P (some ⟨A,0,N⟩),I U L,undef,undef,I U 0,I U 0,I J 0,undef,undef,undef,undef,undef,undef,undef,undef,undef,undef,undef,undef,undef,undef,undef,undef,undef,undef,undef,undef,undef,undef,undef,undef,undef,undef,undef,undef,undef,undef,undef,undef,undef,undef,undef,undef,undef,undef,undef,undef,undef,undef],defers:=[]} w:=⟨0,n,0,_,_,_,_,_,_,_,_,_,_,_,_,_,_,_,_,_,_,_,_,_,_,_,_,_,_,_,_,_,_,_,_,_,_,_,_,rfl,by omega,by simp,by simp,.inl rfl,h,AD.refl _ _⟩;refine EH 0 (gE w A n L r) (λa' _=>(70-Ks (a'.tmps.getD 6 undef)).toNat) rfl ?pass ?first
 case pass=>
  clear h H;rintro a' wr ⟨u,m,i,u7,u8,u9,u10,u11,u12,u13,u14,u15,u16,u17,u18,u19,u20,u21,u22,u23,u24,u25,u26,u27,u28,u29,u30,u31,u32,u33,u34,u35,u36,u37,u38,u39,u40,u41,u42,rfl,hi,F,f,K,X,g⟩;obtain⟨S,Z⟩:∃S:Int,S=((7*i:Nat):Int):=⟨_,rfl⟩;have Av:1<=(AK m).length:=Ee m;have s0:(0:Int)<=S:=by omega
  have s1:S<=64:=by omega
  rw[<-Z];have HS:=Zh Z;by_cases hm:m<128
  ·have G:=CP (n:=m) (by omega);have M:=Ka wr A 1 (AK m++r) X (by rw[G];simp) (by rw[G];simp;omega);rw[G]at M;simp only[iE,iF,iG,iH,iI,gW]at M;have AA:((Jx m).toNat:Int)=(m:Int):=Js m (by omega);have Ap:(bs [Jx m]).toList.isEmpty=false:=by rw[Dz];rfl
   have s:(bs [Jx m]).size=1:=by rw[CY];rfl
   have Ab:∀h,(bs [Jx m])[0]'h=Jx m:=λ_=>rfl;have Ac:bits .and .u8 m 127=(m:Int):=Ny m m (.inl rfl) hm;have O:u+m*2^(7*i)<18446744073709551616:=by omega
   have v:bits .or U u (U.wrap ((m:Int)*2^S.toNat))=(n:Int):=by
    rw[R6 u m i S Z f O,F]
   have D:=Zh (show CZ (wr.setCell ⟨A,0,N⟩ (.string (bs r))) A r/\AD (λk=>k=A) w (wr.setCell ⟨A,0,N⟩ (.string (bs r)))from⟨X.set r,g.trans' (Ij wr A _ 0) (λk _ d=>d) (λk _ d=>d)⟩);have Ar:(n:Int)<=(L:Int):=by omega
   by_cases Aa:i=9
   ·have f1:(S==63)=true:=by simp;omega
    have t:S=63:=by omega
    have f3:(0:Int)<S:=by omega
    have Al:m=1:=by
     subst Aa;rcases K with h|h
     ·omega
     ·have e:(2:Nat)*2^(7*9)=18446744073709551616:=by decide
      have h2:m*2^(7*9)<2*2^(7*9):=by rw[e];omega
      have:=Nat.lt_of_mul_lt_mul_right h2;omega
    have j:¬(m:Int)=0:=by omega
    have f5:¬(1:Int)<(m:Int):=by omega
    generalize Jx m=b at*;clear Z F f K X g G O Al t;go_wp2_with(go_at_call 46;refine M.mono ?_;rintro e p ⟨rfl,rfl⟩);simp only[Exit.jump];go_ret;exact⟨rfl,D.out⟩
   ·have f1:(S==63)=false:=by simp;omega
    have t:¬S=63:=by omega
    by_cases Aw:i=0
    ·have f3:¬(0:Int)<S:=by omega
     generalize Jx m=b at*;clear Z F f K X g G O;by_cases j:((m:Int)==0)=true
     ·go_wp2_with(go_at_call 46;refine M.mono ?_;rintro e p ⟨rfl,rfl⟩);simp only[Exit.jump];go_ret;exact⟨rfl,D.out⟩
     ·have j:((m:Int)==0)=false:=by simpa using j
      go_wp2_with(go_at_call 46;refine M.mono ?_;rintro e p ⟨rfl,rfl⟩);simp only[Exit.jump];go_ret;exact⟨rfl,D.out⟩
    ·have f3:(0:Int)<S:=by omega
     have j:¬(m:Int)=0:=by omega
     generalize Jx m=b at*;clear Z F f K X g G O;go_wp2_with(go_at_call 46;refine M.mono ?_;rintro e p ⟨rfl,rfl⟩);simp only[Exit.jump];go_ret;exact⟨rfl,D.out⟩
  ·have G:=Da (n:=m) (by omega);have e2:=Ee (m/128);have z:(AK m).length=(AK (m/128)).length+1:=by rw[G,fa]
   have l:(AK (m/128)).length<=10:=by omega
   have M:=Ka wr A 1 (AK m++r) X (by rw[G];simp) (by rw[G];simp;omega);rw[G]at M;simp only[iE,iF,iG,iH,iI,gW]at M;obtain⟨y,hy⟩:∃y,y=m % 128+128:=⟨_,rfl⟩;rw[<-hy]at M;have AA:((Jx y).toNat:Int)=(y:Int):=Js y (by omega);have Ap:(bs [Jx y]).toList.isEmpty=false:=by rw[Dz];rfl
   have s:(bs [Jx y]).size=1:=by rw[CY];rfl
   have Ab:∀h,(bs [Jx y])[0]'h=Jx y:=λ_=>rfl;obtain⟨x,hx⟩:∃x,x=m % 128:=⟨_,rfl⟩;have Ac:bits .and .u8 y 127=(x:Int):=Ny y x (.inr (by omega)) (by omega);have q:=Tm u m (7*i);have o:=Tl u m (7*i) f;rw[<-hx]at q o;obtain⟨u2,c⟩:∃u2,u2=u+x*2^(7*i):=⟨_,rfl⟩;rw[<-c]at q o;have v:bits .or U u (U.wrap ((x:Int)*2^S.toNat))=(u2:Int):=by
    rw[R6 u x i S Z f (by omega),c]
   have D:=Zh (show CZ (wr.setCell ⟨A,0,N⟩ (.string (bs (AK (m/128)++r)))) A (AK (m/128)++r)/\AD (λk=>k=A) w (wr.setCell ⟨A,0,N⟩ (.string (bs (AK (m/128)++r))))from⟨X.set _,g.trans' (Ij wr A _ 0) (λk _ d=>d) (λk _ d=>d)⟩);have f1:(S==63)=false:=by simp;omega
   have t:¬S=63:=by omega
   have j:¬(y:Int)=0:=by omega
   have f5:(128:Int)<=(y:Int):=by omega
   have g1:S+7<=70:=by omega
   have g2:x<128:=by omega
   have g3:u<18446744073709551616:=by omega
   have Y:=Zh (show S+7=((7*(i+1):Nat):Int)/\i+1+(AK (m/128)).length<=10/\u2+m/128*2^(7*(i+1))=n/\u2<2^(7*(i+1))/\1<=m/128 from
    ⟨by omega,by omega,by rw[show 7*(i+1)=7*i+7 from by omega,q,F],by rw[show 7*(i+1)=7*i+7 from by omega];exact o,by omega⟩)
   generalize Jx y=b at*;clear Z F f K X g G e2 z l hy hx q o c;generalize hrest:AK (m/128)++r=rest at*;have HR:=Zh hrest;clear hrest;go_wp2_with(go_at_call 46;refine M.mono ?_;rintro e p ⟨rfl,rfl⟩);go_step3;obtain⟨h1,h2,h3,h4,h5⟩:=Y.out;have h6:=Y.out.1;rw[h1];refine⟨rfl,⟨u2,m/128,i+1,_,_,_,_,_,_,_,_,_,_,_,_,_,_,_,_,_,_,_,_,_,_,_,_,_,_,_,_,_,_,_,_,_,_,_,_,rfl,h2,h3,h4,.inr h5,by rw[HR.out];exact D.out⟩,?_⟩;simp[Ks];have:=HS.out;omega
 case first=>
  intro hp;go_wp2;go_step3;rename_i hK;exact hK _ _ (hp _ _ H)
theorem aB(x):Sg.zagF (Sg.zigF x)=x:=by
 have A:=Sg.zigF_or x;have D:=Sg.zagF_or (Sg.zigF x);omega
theorem DD(w D x r)(h:CZ w D (AK (AX x)++r))(O: -9223372036854775808<=x/\x<=9223372036854775807)(M:r.length<=1000000000):
  C prog 72 #[P (S ⟨D,0,N⟩)] w λe w' =>e=R (I J x)/\CZ w' D r/\AD (λk=>k=D) w w' :=by
 obtain⟨F,Z⟩:=Ao x O;have X:=DC w D (AX x) 18446744073709551615 r h (by omega) (by decide) M;have G:=λA=>Sg.zag_any ((AX x:Nat):Int) A (by omega) (by omega);have e:Sg.zagF ((AX x:Nat):Int)=x:=by rw[<-F,aB]
 rw[e]at G;clear e F h;generalize AX x=n at*;go_enter func72,ntmps72;go_wp2_with(first|(go_at_call 69;refine X.mono ?_;rintro e H ⟨rfl,K,Y⟩)|(go_at_call 88;refine(G _).mono ?_;rintro e H ⟨rfl,rfl⟩));go_ret;exact⟨rfl,K,Y⟩
theorem Bk(w A n L r)(h:CZ w A (AK n++r))(K:n<=L)(O:L<9223372036854775808)(H:r.length<=1000000000):
  C prog 47 #[P (S ⟨A,0,N⟩),I J L] w λe w' =>e=R (I J n)/\CZ w' A r/\AD (λk=>k=A) w w' :=by
 have G:=DC w A n L r h K (by omega) H;clear h;go_enter func47,ntmps47;go_wp2_with(first|(go_at_call 69;refine G.mono ?_;rintro e M ⟨rfl,F,D⟩));go_ret;exact⟨rfl,F,D⟩
theorem He(w A n r)(h:CZ w A (AK n++r))(O:1<=n)(X:n<9223372036854775808)(G:r.length<=1000000000):
  C prog 80 #[P (S ⟨A,0,N⟩)] w λe w' =>e=R (I U n)/\CZ w' A r/\AD (λk=>k=A) w w' :=by
 have H:=DC w A n 9223372036854775807 r h (by omega) (by omega) G;have K:¬(n:Int)=0:=by omega
 clear h;go_enter func80,ntmps80;go_wp2_with(first|(go_at_call 69;refine H.mono ?_;rintro e M ⟨rfl,F,D⟩));go_ret;exact⟨rfl,F,D⟩
theorem W9(a b:Nat)(A:a<4294967296)(D:b<4294967296):bits .xor .u32 a (b:Int)=((a^^^b:Nat):Int):=u32_xor_nat a b A D
theorem eF(a:Nat)(A:a<4294967296):bits .and .u32 a 1=((a % 2:Nat):Int):=by
 rw[show(1:Int)=((1:Nat):Int)from rfl,u32_and_nat a 1 A (by decide),Nat.and_one_is_mod]
theorem XA(w)(c b:Nat)(o:c<4294967296)(q:b<256):
  C prog 70 #[I .u32 c,I .u8 b] w λe w' =>e=R (I .u32 ((Jo c b:Nat):Int))/\w=w' :=by
 have K:=W9 c b o (by omega);have f:Jo c b=Bc 8 (c^^^b):=rfl;rw[f];have d:(c^^^b)<4294967296:=Nat.xor_lt_two_pow (n:=32) (by omega) (by omega);generalize(c^^^b)=z at*;clear f;go_enter func70,ntmps70;go_wp2;go_loopg [0,9] 8 (λg p i wr=>∃k x:Nat,p=I .u32 x/\i=I J k/\k<=8/\8-k<=g/\x<4294967296/\Bc (8-k) x=Bc 8 z/\wr=w);case atStart=>exact⟨0,z,rfl,rfl,by decide,by decide,d,rfl,rfl⟩
 case round=>
  clear d K;obtain⟨k,x,rfl,rfl,s,r,K,F,rfl⟩:=hrel;by_cases l:k<8
  ·have m:(k:Int)<8:=by omega
   have h:=eF x K;have H:Bc (8-k) x=Bc (8-(k+1)) (F2 x):=by rw[show 8-k=(8-(k+1))+1 from by omega];rfl
   have A:=Nu K;by_cases O:x % 2=1
   ·have M:F2 x=(x/2)^^^3988292384:=by unfold F2;rw[if_pos O]
    have Y:=W9 (x/2) 3988292384 (by omega) (by decide);rw[<-M]at Y;have Z:((x:Int)/2)=((x/2:Nat):Int):=by omega
    rw[<-Z]at Y;have D:=Zh (Zi F (Zi H A));rw[O]at h;generalize F2 x=y at*;clear F H A M Z;go_wp2;go_roundg (8-(k+1));case measure=>omega
    exact⟨k+1,y,by first|rfl|(rw[<-Y];rfl),by go_num,by omega,by omega,D.out.2.2,by rw[<-D.out.1,D.out.2.1],rfl⟩
   ·have M:F2 x=x/2:=by unfold F2;rw[if_neg O]
    have j:x % 2=0:=by omega
    rw[j]at h;have D:=Zh (Zi F (Zi H A));clear F H A;go_wp2;go_roundg (8-(k+1));case measure=>omega
    exact⟨k+1,F2 x,by rw[M];go_num,by go_num,by omega,by omega,D.out.2.2,by rw[<-D.out.1,D.out.2.1],rfl⟩
  ·have X:k=8:=by omega
   have m:¬(k:Int)<8:=by omega
   subst X;have G:x=Bc 8 z:=by rw[<-F];rfl
   have D:=Zh G;clear F G;go_wp2;go_ret;exact⟨by rw[D.out];rfl,rfl⟩
theorem eG(n:Nat)(h:n<4294967296):bits .xor .u32 IntKind.u32.max (n:Int)=((4294967295-n:Nat):Int):=by
 rw[show IntKind.u32.max=((4294967295:Nat):Int)from rfl,W9 _ _ (by decide) h,gQ];have e:(BitVec.ofNat 32 n^^^BitVec.allOnes 32).toNat=(~~~BitVec.ofNat 32 n).toNat:=by rw[BitVec.xor_allOnes]
 rw[BitVec.toNat_not,BitVec.toNat_xor,BitVec.toNat_allOnes,BitVec.toNat_ofNat,gX (by omega)]at e;rw[show n^^^4294967295=4294967295-n from e]
theorem eH(s k)(A:k<s.length)(h:k<(bs s).size):(bs s)[k]'h=s[k]'A:=by
 rw[<-cV s k A];simp[ByteArray.get!,bs,A];rfl
theorem Nz(w s)(j:s.length<=1000000000):
  C prog 49 #[.string (bs s)] w λe w' =>e=R (I .u32 ((F3 s:Nat):Int))/\w=w' :=by
 have d:=CY s;have o:=Wt s;obtain⟨m,O⟩:∃m,m=s.length:=⟨_,rfl⟩;have X:=Zh O;rw[<-O]at j d;clear O;go_enter func49,ntmps49;go_wp2;go_loopg [3,4,7] m (λg p u i wr=>∃k x:Nat,p=I .u32 x/\i=I J k/\k<=m/\m-k<=g/\x<4294967296/\x=Zl (s.take k)/\wr=w);case atStart=>exact⟨0,4294967295,rfl,rfl,gY _,E _,by decide,rfl,rfl⟩
 case round=>
  obtain⟨k,x,rfl,rfl,v,t,M,F,rfl⟩:=hrel;have z:=Zh F;by_cases Z:k<m
  ·have f:(k:Int)<(m:Int):=by omega
   have y:k<(bs s).size:=by omega
   have G:k<s.length:=by rw[<-X.out];omega
   have r:=λh=>eH s k G h;have H:=Wv s k G;have K:=XA wr x (s[k]'G).toNat M (bh _);rw[<-F]at H;have D:=Pn (c:=x) M (bh (s[k]'G));have Y:=Zh (Zi H D);generalize s[k]'G=b at*;clear F H D;go_wp2_with(go_at_call 70;refine K.mono ?_;rintro e q ⟨rfl,rfl⟩);go_roundg (m-(k+1));case measure=>omega
   exact⟨k+1,_,rfl,by go_num,by omega,by omega,Y.out.2,Y.out.1.symm,rfl⟩
  ·have f:¬(k:Int)<(m:Int):=by omega
   have A:x=Zl s:=by rw[F,show k=m from by omega,X.out,List.take_length]
   have n:=Zh A;clear F A;go_wp2;go_ret;have l:=eG x M;refine⟨?_,rfl⟩;unfold F3;rw[<-n.out,<-l];rfl
theorem Kt(w)(c:Nat)(O:c<4294967296):
  C prog 48 #[I .u32 c] w λe w' =>e=R (.string (bs (ET c)))/\B w.heap.size w w' :=by
 have F:((c:Int) % 256)=((Jx (c % 256)).toNat:Int):=by rw[Js _ (by omega)];omega
 have K:((c:Int)/256 % 256)=((Jx (c/256 % 256)).toNat:Int):=by rw[Js _ (by omega)];omega
 have G:((c:Int)/65536 % 256)=((Jx (c/65536 % 256)).toNat:Int):=by rw[Js _ (by omega)];omega
 have H:((c:Int)/16777216)=((Jx (c/16777216 % 256)).toNat:Int):=by rw[Js _ (by omega)];omega
 have D:∀A,A=(w.alloc (.cells #[I .u8 ((c:Int) % 256),I .u8 ((c:Int)/256 % 256),I .u8 ((c:Int)/65536 % 256),I .u8 ((c:Int)/16777216)] 5))->(convert 63 9 (L (S ⟨w.heap.size,0,N⟩) 4 4)).run prog A=.ok (.string (bs (ET c))) A:=by
  rintro A rfl;rw[F,K,G,H];exact run_convert_bytes_back (P:=prog) _ 63 9 5 ⟨w.heap.size,0,N⟩ 4 (ET c) underlying63 underlying5 underlying9 (λj M=>by
   rw[iJ,fj];rw[EW]at M;have:j=0\/j=1\/j=2\/j=3:=by omega
   rcases this with rfl|rfl|rfl|rfl<;>exact(AI.newAt rfl).cell rfl)
 have D:=D _ rfl;clear F K G H;generalize bs (ET c)=s at*;go_enter func48,ntmps48;go_wp2;go_ret;exact⟨rfl,Za⟩
theorem XB(w:W)(k:UInt8):(convert 63 9 (L (S ⟨w.heap.size,0,N⟩) 1 1)).run prog (w.alloc (.cells #[I .u8 k.toNat] 5))=.ok (.string (bs [k])) (w.alloc (.cells #[I .u8 k.toNat] 5)):=
 run_convert_bytes_back (P:=prog) _ 63 9 5 ⟨w.heap.size,0,N⟩ 1 [k] underlying63 underlying5 underlying9 (λj A=>by
   rw[iJ,fj]
   have:j=0:=by simpa using A
   subst this
   exact(AI.newAt rfl).cell rfl)
theorem Fi.fresh(w:W):Fi w.heap.size (w.alloc (.cells #[L N 0 0] 109)) w.heap.size (L N (([]:List UInt8).length) 0) []:=
 ⟨AI.newAt rfl,W.ownsRow_nil _ _ _ _,E _⟩
theorem JO(w D A)(hl:A.length<=200000):
  C prog 39 #[I .u8 D.toNat,.string (bs A)] w λe w' =>e=R (T #[.string (bs (AW D A)),I J 0])/\B w.heap.size w w' :=by
 have hz:=CY A;have X:Dt.length=3:=rfl;have S0:=CH.start (Fi.fresh w);have s:=AC A.length (by omega);have M:w.heap.size<=(w.alloc (.cells #[L N 0 0] 109)).heap.size:=by simp
 obtain⟨m,v⟩:∃m,m=A.length:=⟨_,rfl⟩;have l:=Zh v;have c1:=Nw _ _ _ _ _ _ Dt S0.qu M (by decide);rw[<-v]at hl hz s;clear v;go_enter func39,ntmps39;go_wp2_with fail;refine c1.mono ?_;rintro e f ⟨rfl,A1,k1,d⟩;clear c1 M S0;have k:=d.below.size;have o:=Zh d.below;have H:w.heap.size<=f.heap.size:=by simp at k;omega
 have bc:=XB f D;have y:=Nw _ (f.alloc (.cells #[I .u8 D.toNat] 5)) _ _ _ _ [D] (d.qu.alloc _) (by simp;omega) (by simp[Dt]);go_wp2_with fail;refine y.mono ?_;rintro e i ⟨rfl,A2,k2,g⟩;have t:=g.below.size;have u:=Zh g.below;have Z:w.heap.size<=i.heap.size:=by simp at t;omega
 clear y bc d;have c3:=Cd _ (i.alloc (.cells (Dr [m]) 23)) _ i.heap.size 1 _ _ _ [m] (g.qu.alloc _) (by simp;omega) (AI.newAt rfl) (by simp;omega) (by simp only[RR,gZ,iK,fa,iL,iM,X];omega) (by simp);go_wp2_with fail;refine c3.mono ?_;rintro e w3 ⟨rfl,A3,k3,h⟩;have q:=h.below.size;have n:=Zh h.below;have x:w.heap.size<=w3.heap.size:=by simp at q;omega
 clear c3 g;have c4:=Nw _ w3 _ _ _ _ A h.qu (by omega) (by rw[<-l.out];simp only[RR,gZ,iK,fa,iL,iM,X];omega);go_wp2_with fail;refine c4.mono ?_;rintro e c ⟨rfl,A4,k4,b⟩;have AA:=b.below.size;have p:=Zh b.below;have Y:w.heap.size<=c.heap.size:=by omega
 clear c4 h;have hO:([]++Dt++ [D]++List.flatMap AK [m]++A)=Cy D A:=by simp[Cy,l.out]
 rw[hO]at b;have j:=CK D A;rw[<-l.out]at j;have K:=Ii _ c _ _ _ b.qu;have G:=Nz c (Cy D A) (by omega);have F:=Kt c (F3 (Cy D A)) (by unfold F3;omega);go_wp2_with fail;refine K.mono ?_;rintro e w5 ⟨rfl,rfl⟩;go_wp2_with fail;refine G.mono ?_;rintro e w5 ⟨rfl,rfl⟩;go_wp2_with fail;refine F.mono ?_;rintro e w5 ⟨rfl,r⟩;have c5:=Nw _ w5 _ _ _ _ (ET (F3 (Cy D A))) (b.qu.next r) (by have:=r.size;omega) (by rw[EW];omega);go_wp2_with fail;refine c5.mono ?_;rintro e w6 ⟨rfl,A6,k6,z⟩;have O:=Ii _ w6 _ _ _ z.qu;go_wp2_with fail;refine O.mono ?_;rintro e w7 ⟨rfl,rfl⟩;clear K G F c5 O;go_wp2_with fail;go_ret2;have hF:Cy D A++ET (F3 (Cy D A))=AW D A:=rfl;rw[<-hF];refine⟨rfl,?_⟩;have b0:B w.heap.size w (w.alloc (.cells #[L N 0 0] 109)):=(B.refl _ w).alloc (E _) _;exact b0.trans (((((o.out.trans ((B.refl _ f).alloc H _)).trans u.out).trans ((B.refl _ i).alloc Z _)).trans n.out).trans (p.out.trans ((r.mono Y).trans z.below)))
theorem Il(w A n l r)(h:CZ w A (l++r))(D:n=l.length)(F:l.length+r.length<=1000000000):
  C prog 46 #[P (S ⟨A,0,N⟩),I J n] w λe w' =>e=R (.string (bs l))/\CZ w' A r/\AD (λk=>k=A) w w' :=by
 subst D;refine(Ka w A l.length (l++r) h (by simp) (by simp;omega)).mono ?_;rintro e w' ⟨rfl,rfl⟩;rw[gc,List.drop_left];exact⟨rfl,h.set r,Ij _ _ _ _⟩
theorem Po(w G D)(hl:D.length<=200000):
  C prog 31 #[.string (bs (AW G D))] w λe w' =>e=R (T #[I .u8 G.toNat,.string (bs D),I J 0])/\Below w.heap.size w w' :=by
 have AA:Dt.length=3:=rfl;have Ac:=CQ G D;have i:=CK G D;have Ab:=AC D.length (by omega);obtain⟨g,M⟩:∃x,x=ET (F3 (Cy G D)):=⟨_,rfl⟩;have j:g.length=4:=by rw[M];rfl
 have hF:AW G D=Dt++([G]++(AK D.length++(D++g))):=by rw[M];simp[AW,Cy]
 have Ap:(bs (AW G D)).extract 0 (4+(AK D.length).length+D.length)=bs (Cy G D):=by
  rw[<-i,show(Cy G D).length=(AW G D).length-4 from by omega,Eh];simp only[gW,Nat.sub_zero];unfold AW;rw[RR,EW,iN,gc]
 have hz:=CY (AW G D);obtain⟨m,hm⟩:∃m,m=D.length:=⟨_,rfl⟩;have Y:=Nx w (AW G D);have p:CZ (w.alloc (.cells #[.string (bs (AW G D)),.bool false] 153)) w.heap.size (Dt++([G]++(AK D.length++(D++g)))):=by rw[<-hF];exact AI.newAt rfl
 have b:=Il _ _ 3 _ _ p rfl (by simp;omega);have K:=λA=>Nz A (Cy G D) (by omega);have H:=λA=>Kt A (F3 (Cy G D)) (by unfold F3;omega);rw[<-M]at H;have z:∀h,(bs [G])[0]'h=G:=λ_=>rfl;have Aa:(bs [G]).size=1:=by rw[CY];rfl
 have Al:bs Dt={data:= #[79,71,1]}:=rfl;generalize AW G D=F at*;clear hF;go_enter func31,ntmps31;go_wp2_with fail;refine Y.mono ?_;rintro e w1 ⟨rfl,rfl⟩;go_wp2_with fail;refine b.mono ?_;rintro e w1 ⟨rfl,u,y⟩;have X:=Il _ _ 1 _ _ u rfl (by simp;omega);clear Y b p;go_wp2_with fail;refine X.mono ?_;rintro e w2 ⟨rfl,o,A2⟩;have f:=Bk _ _ D.length 262144 _ o (by omega) (by omega) (by simp;omega);clear X u;go_wp2_with fail;refine f.mono ?_;rintro e w3 ⟨rfl,s,A3⟩;have c:=Il _ _ D.length _ _ s rfl (by omega);clear f o;go_wp2_with fail;refine c.mono ?_;rintro e v ⟨rfl,n,A4⟩;have Z :CZ v w.heap.size (g++ []):=by rw[gd];exact n
 have O:=Il _ _ 4 _ _ Z j.symm (by simp;omega);clear c s;go_wp2_with fail;refine O.mono ?_;rintro e w5 ⟨rfl,t,A5⟩;have d:=Ik _ _ t;clear O n;go_wp2_with fail;refine d.mono ?_;rintro e q ⟨rfl,rfl⟩;clear d Z t;go_wp2_with fail;refine(K _).mono ?_;rintro e q ⟨rfl,rfl⟩;go_wp2_with fail;refine(H _).mono ?_;rintro e q ⟨rfl,b6⟩;clear K H;go_wp2_with fail;go_ret3;refine⟨rfl,?_⟩;have l:Below w.heap.size w (w.alloc (.cells #[.string (bs F),.bool false] 153)):=(Below.refl _ w).alloc (E _) _;have r:=((((y.trans' A2 (λ_ _ h=>h) (λ_ _ h=>h)).trans' A3 (λ_ _ h=>h) (λ_ _ h=>h)).trans' A4 (λ_ _ h=>h) (λ_ _ h=>h)).trans' A5 (λ_ _ h=>h) (λ_ _ h=>h)).below (B:=w.heap.size) (by simp) (λk hk e=>by omega);exact(l.trans r).trans (b6.mono (gg l.size r.size))
section
open Go
variable {P:Program} {a:Act} {w:W} {Q:Exit->Act->W->Prop}
def ES(J:Nat->Act->W->Prop)(Q:Exit->Act->W->Prop):Exit->Act->W->Prop
 | .goto l,a,w=>J l a w
 |e,a,w=>Q e a w
theorem MR{c:Code}(A:Nat->Act->W->Prop)(μ:Nat->Act->W->Nat)
  (pass:∀l a w,A l a w->∃rest,findLabel c l=S (.seq .skip rest)/\rest.wp P (ES (λM O w' =>A M O w' /\μ M O w' <μ l a w) Q) a w)
  (first:(∀l a w,A l a w->∃rest,findLabel c l=S (.seq .skip rest)/\rest.wp P (ES A Q) a w)->c.wp P (ES A Q) a w):(Code.scope c).wp P Q a w:=by
 replace first:=first λl a w h=>by
  obtain⟨rest,p,i⟩:=pass l a w h;exact⟨rest,p,Code.wp_mono (λe a w F=>by
   cases e with
   |goto M =>exact F.1
   |_=>exact F) i⟩
 replace pass:∀l a w,A l a w->∃rest,findLabel c l=S rest/\rest.wp P (ES (λM O w' =>A M O w' /\μ M O w' <μ l a w) Q) a w:=λl a w h=>by
  obtain⟨rest,p,i⟩:=pass l a w h;exact⟨_,p,wp_seq (wp_skip i)⟩
 intro b k f;have v:∀l rest,findLabel c l=S rest->gotoIn l (.inScope c::k)=S (.code rest:: .inScope c::k):=λl rest d=>by simp[gotoIn,d]
 have r:∀n l a w rest,findLabel c l=S rest->rest.wp P (ES (λM O w' =>A M O w' /\μ M O w' <μ l a w) Q) a w->μ l a w=n->∃e O w',Q e O w' /\Arrives P (lone (b.at a (.code rest:: .inScope c::k)) f w) b k f e O w' :=by
  intro n;induction n using Nat.strongRecOn with
  |_ n ih=>
   intro l a w rest d s y;obtain⟨e,K,G,F,D⟩:=s b (.inScope c::k) f;cases e with
   |normal=>exact⟨.normal,K,G,F,Steps.trans D (.one step_inScope)⟩
   |exit id=>exact⟨.exit id,K,G,F,λq m=>D q (by simp[exitTo,m])⟩
   |goto M =>
    obtain⟨j,x⟩:=F;obtain⟨X,Z,o⟩:=pass M K G j;obtain⟨g,t,u,Y,H⟩:=ih _ (by omega) M K G X Z o rfl;exact⟨g,t,u,Y,.of_steps (D _ (v M X Z)) H⟩
   |ret=>exact⟨_,K,G,F,D⟩
   |panic ch=>exact⟨_,K,G,F,D⟩
   |outgrown=>exact⟨_,K,G,F,D⟩
 obtain⟨e,K,G,F,D⟩:=first b (.inScope c::k) f
 cases e with
 |normal=>exact⟨.normal,K,G,F,.head step_scope (Steps.trans D (.one step_inScope))⟩
 |exit id=>exact⟨.exit id,K,G,F,λq m=>.head step_scope (D q (by simp[exitTo,m]))⟩
 |goto l=>
  obtain⟨rest,d,s⟩:=pass l K G F;obtain⟨g,t,u,Y,H⟩:=r _ l K G rest d s rfl;exact⟨g,t,u,Y,.of_steps (.head step_scope (D _ (v l rest d))) H⟩
 |ret=>exact⟨_,K,G,F,.of_steps (.one step_scope) D⟩
 |panic ch=>exact⟨_,K,G,F,.of_steps (.one step_scope) D⟩
 |outgrown=>exact⟨_,K,G,F,.of_steps (.one step_scope) D⟩
end
def PS(w:W)(eb:Nat):Option (List UInt8)->Prop
 |some s=>CZ w eb s
 |none=>AI w eb #[.string {data:= #[]},.bool true] 153
theorem PS.blk{w A}{D:Option (List UInt8)}(h:PS w A D):∃b t,AI w A #[.string b,.bool t] 153:=by
 cases D with
 |none=>exact⟨_,_,h⟩
 |some s=>exact⟨_,_,h⟩
theorem PS.lt{w A}{D:Option (List UInt8)}(h:PS w A D):A<w.heap.size:=by
 obtain⟨b,t,h⟩:=h.blk;exact h.lt
theorem In(w A)(b:ByteArray)(t)(h:AI w A #[.string b,.bool t] 153):
  C prog 68 #[P (S ⟨A,0,N⟩)] w λe w' =>e=R (T #[])/\PS w' A N/\AD (λk=>k=A) w w' :=by
 have H:w.cell? ⟨A,0,N⟩=S (.string b):=h.cell rfl;have K:w.cell? ⟨A,1,N⟩=S (.bool t):=h.cell rfl;have f0:w.frozen? ⟨A,0,N⟩=false:=h.frozen 0;have f1:w.frozen? ⟨A,1,N⟩=false:=h.frozen 1;have G:=h.lt;have D:=Zh (show PS ((w.setCell ⟨A,0,N⟩ (.string {data:= #[]})).setCell ⟨A,1,N⟩ (.bool true)) A N/\AD (λk=>k=A) w ((w.setCell ⟨A,0,N⟩ (.string {data:= #[]})).setCell ⟨A,1,N⟩ (.bool true))from⟨(h.set 0 _).set 1 _,AD.setCell (F:=λk=>k=A) (AD.setCell (AD.refl _ w) ⟨A,0,N⟩ _ (.inl rfl)) ⟨A,1,N⟩ _ (.inl rfl)⟩);clear h;go_enter func68,ntmps68;go_wp2_with fail;go_end0;exact⟨rfl,D.out⟩
def cW(w:W)(eb:Nat)(st:Option (List UInt8))(n:Int)(e:Ending)(w' :W):Prop:=∃(out:List UInt8) (st' :Option (List UInt8)),e=R (.string (bs out))/\PS w' eb st' /\AD (λk=>k=eb) w w' /\(st' =N->out=[])/\∀s',st' =S s' ->∃s,st=S s/\s=out++s' /\(out.length:Int)=n
theorem XC(w A n)(h:PS w A N):C prog 46 #[P (S ⟨A,0,N⟩),I J n] w (cW w A N n):=by
 have H:=In w A _ _ h;have X:w.cell? ⟨A,1,N⟩=S (.bool true):=AI.cell h rfl;have O:=h.lt;clear h;go_enter func46,ntmps46;go_wp2_with fail;refine H.mono ?_;rintro e K ⟨rfl,F,D⟩;have G:=Zh (Zi F D);clear H F D;go_wp2_with fail;go_ret;exact⟨[],N,rfl,G.out.1,G.out.2,λ_=>rfl,λM h=>by cases h⟩
theorem aC(w G s n)(h:CZ w G s)(M:n<0\/(s.length:Int)<n):C prog 46 #[P (S ⟨G,0,N⟩),I J n] w (cW w G (S s) n):=by
 have K:=In w G _ _ h;obtain⟨f,g,f0,f1,c⟩:=h.cells;have b:=CY s;obtain⟨m,O⟩:∃m,m=s.length:=⟨_,rfl⟩;rw[<-O]at M b;clear h O;by_cases H:n<0
 ·have Z:decide (n<0)=true:=by simpa using H
  clear M H;go_enter func46,ntmps46;go_wp2_with fail;refine K.mono ?_;rintro e X ⟨rfl,D,A⟩;have F:=Zh (Zi D A);clear K D A;go_wp2_with fail;go_ret;exact⟨[],N,rfl,F.out.1,F.out.2,λ_=>rfl,λY h=>by cases h⟩
 ·have Z:decide (n<0)=false:=by simpa using H
  have d:decide ((m:Int)<n)=true:=by simp;omega
  clear M H;go_enter func46,ntmps46;go_wp2_with fail;refine K.mono ?_;rintro e X ⟨rfl,D,A⟩;have F:=Zh (Zi D A);clear K D A;go_wp2_with fail;go_ret;exact⟨[],N,rfl,F.out.1,F.out.2,λ_=>rfl,λY h=>by cases h⟩
theorem Io(w A)(D:Option (List UInt8))(n)(h:PS w A D)(H:∀s,D=S s->s.length<=1000000000):C prog 46 #[P (S ⟨A,0,N⟩),I J n] w (cW w A D n):=by
 cases D with
 |none=>exact XC w A n h
 |some s=>
  by_cases G:n<0\/(s.length:Int)<n
  ·exact aC w A s n h G
  ·obtain⟨k,rfl⟩:∃k:Nat,n=(k:Int):=⟨n.toNat,by omega⟩;have M:=H s rfl;refine(Ka w A k s h (by omega) (by omega)).mono λe w' F=> ?_;obtain⟨rfl,rfl⟩:=F;exact⟨_,S _,rfl,CZ.set h _,Ij _ _ _ _,(λh=>by cases h),(λK e=>by cases e;exact⟨s,rfl,(iO k s).symm,by rw[gh];omega⟩)⟩
def Gl(u i:Nat)(pre:List UInt8):Prop:=∀m,(1<=m\/i=0)->AK (u+m*2^(7*i))=pre++AK m
theorem Gl.start:Gl 0 0 []:=λm _=>by simp
theorem Gl.last{u i y A}(h:Gl u i A)(F:y<128)(D:1<=y\/i=0):AK (u+y*2^(7*i))=A++ [Jx y]:=by
 rw[h y D,CP F]
theorem Gl.more{u i y A}(h:Gl u i A)(H:128<=y)(F:y<256):Gl (u+(y % 128)*2^(7*i)) (i+1) (A++ [Jx y]):=λm G=>by
 have D:1<=m:=by omega
 have e:=Tm u (y % 128+128*m) (7*i)
 rw[show(y % 128+128*m) % 128=y % 128 by omega,show(y % 128+128*m)/128=m by omega]at e
 rw[show 7*(i+1)=7*i+7 by omega,e,h _ (by omega),Da (by omega),show(y % 128+128*m) % 128+128=y by omega,show(y % 128+128*m)/128=m by omega,gi]
 rfl
theorem br{u i y}(A:u<2^(7*i))(hi:i<=9)(F:y<128)(D:i=9->y<=1):u+y*2^(7*i)<18446744073709551616:=by
 by_cases h:i=9
 ·subst h;have:=D rfl;have e:(2:Nat)^(7*9)=9223372036854775808:=by decide
  rw[e]at A⊢;omega
 ·have H:y*2^(7*i)<=127*2^(7*i):=gj _ (by omega);have G:2^(7*i)<=2^56:=Pa (by decide) (by omega);omega
def eI(w:W)(eb L:Nat)(st:Option (List UInt8))(e:Ending)(w' :W):Prop:=∃(u:Nat) (st' :Option (List UInt8)),e=R (I U u)/\u<=L/\PS w' eb st' /\AD (λk=>k=eb) w w' /\∀s',st' =S s' ->∃s,st=S s/\s=AK u++s'
def XD(w:W)(eb L:Nat)(st0:Option (List UInt8))(l:Nat)(a:Act)(wr:W):Prop:=
 (l=0/\∃(f:Nat->V) (u i:Nat) (st:Option (List UInt8)),a={tmps:= #[P (S ⟨eb,0,N⟩),I U L,undef,undef,I U 0,I U u,I J ((7*i:Nat):Int),f 7,f 8,f 9,f 10,f 11,f 12,f 13,f 14,f 15,f 16,f 17,f 18,f 19,f 20,f 21,f 22,f 23,f 24,f 25,f 26,f 27,f 28,f 29,f 30,f 31,f 32,f 33,f 34,f 35,f 36,f 37,f 38,f 39,f 40,f 41,f 42,f 43,f 44,f 45,f 46,f 47,f 48],defers:=[]}/\
  i<=9/\u<2^(7*i)/\(∀cur,st=S cur->cur.length<=1000000000/\∃s pre,st0=S s/\s=pre++cur/\Gl u i pre)/\PS wr eb st/\AD (λk=>k=eb) w wr)\/
 (l=1/\∃(f:Nat->V) (b:ByteArray) (t:Bool),a={tmps:= #[P (S ⟨eb,0,N⟩),f 1,f 2,f 3,f 4,f 5,f 6,f 7,f 8,f 9,f 10,f 11,f 12,f 13,f 14,f 15,f 16,f 17,f 18,f 19,f 20,f 21,f 22,f 23,f 24,f 25,f 26,f 27,f 28,f 29,f 30,f 31,f 32,f 33,f 34,f 35,f 36,f 37,f 38,f 39,f 40,f 41,f 42,f 43,f 44,f 45,f 46,f 47,f 48],defers:=[]}/\AI wr eb #[.string b,.bool t] 153/\AD (λk=>k=eb) w wr)
theorem XD.zero{w wr G L u i}{F H:Option (List UInt8)}{a}(h:a={tmps:= #[P (S ⟨G,0,N⟩),I U L,undef,undef,I U 0,I U u,I J ((7*i:Nat):Int),a.tmps.getD 7 undef,a.tmps.getD 8 undef,a.tmps.getD 9 undef,a.tmps.getD 10 undef,a.tmps.getD 11 undef,a.tmps.getD 12 undef,a.tmps.getD 13 undef,a.tmps.getD 14 undef,a.tmps.getD 15 undef,a.tmps.getD 16 undef,a.tmps.getD 17 undef,a.tmps.getD 18 undef,a.tmps.getD 19 undef,a.tmps.getD 20 undef,a.tmps.getD 21 undef,a.tmps.getD 22 undef,a.tmps.getD 23 undef,a.tmps.getD 24 undef,a.tmps.getD 25 undef,a.tmps.getD 26 undef,a.tmps.getD 27 undef,a.tmps.getD 28 undef,a.tmps.getD 29 undef,a.tmps.getD 30 undef,a.tmps.getD 31 undef,a.tmps.getD 32 undef,a.tmps.getD 33 undef,a.tmps.getD 34 undef,a.tmps.getD 35 undef,a.tmps.getD 36 undef,a.tmps.getD 37 undef,a.tmps.getD 38 undef,a.tmps.getD 39 undef,a.tmps.getD 40 undef,a.tmps.getD 41 undef,a.tmps.getD 42 undef,a.tmps.getD 43 undef,a.tmps.getD 44 undef,a.tmps.getD 45 undef,a.tmps.getD 46 undef,a.tmps.getD 47 undef,a.tmps.getD 48 undef],defers:=[]})
  (O:i<=9)(K:u<2^(7*i))(Y:∀A,H=S A->A.length<=1000000000/\∃s D,F=S s/\s=D++A/\Gl u i D)(M:PS wr G H)(X:AD (λk=>k=G) w wr):XD w G L F 0 a wr:=.inl ⟨rfl,λk=>a.tmps.getD k undef,u,i,H,h,O,K,Y,M,X⟩
theorem XD.one{w wr A L}{D:Option (List UInt8)}{b:ByteArray}{t a}(h:a={tmps:= #[P (S ⟨A,0,N⟩),a.tmps.getD 1 undef,a.tmps.getD 2 undef,a.tmps.getD 3 undef,a.tmps.getD 4 undef,a.tmps.getD 5 undef,a.tmps.getD 6 undef,a.tmps.getD 7 undef,a.tmps.getD 8 undef,a.tmps.getD 9 undef,a.tmps.getD 10 undef,a.tmps.getD 11 undef,a.tmps.getD 12 undef,a.tmps.getD 13 undef,a.tmps.getD 14 undef,a.tmps.getD 15 undef,a.tmps.getD 16 undef,a.tmps.getD 17 undef,a.tmps.getD 18 undef,a.tmps.getD 19 undef,a.tmps.getD 20 undef,a.tmps.getD 21 undef,a.tmps.getD 22 undef,a.tmps.getD 23 undef,a.tmps.getD 24 undef,a.tmps.getD 25 undef,a.tmps.getD 26 undef,a.tmps.getD 27 undef,a.tmps.getD 28 undef,a.tmps.getD 29 undef,a.tmps.getD 30 undef,a.tmps.getD 31 undef,a.tmps.getD 32 undef,a.tmps.getD 33 undef,a.tmps.getD 34 undef,a.tmps.getD 35 undef,a.tmps.getD 36 undef,a.tmps.getD 37 undef,a.tmps.getD 38 undef,a.tmps.getD 39 undef,a.tmps.getD 40 undef,a.tmps.getD 41 undef,a.tmps.getD 42 undef,a.tmps.getD 43 undef,a.tmps.getD 44 undef,a.tmps.getD 45 undef,a.tmps.getD 46 undef,a.tmps.getD 47 undef,a.tmps.getD 48 undef],defers:=[]})
  (F:AI wr A #[.string b,.bool t] 153)(G:AD (λk=>k=A) w wr):XD w A L D 1 a wr:=.inr ⟨rfl,λk=>a.tmps.getD k undef,b,t,h,F,G⟩
theorem aD(w)(Z L:Nat)(F:Option (List UInt8))(h:PS w Z F)(hL:L<18446744073709551616)(hs:∀s,F=some s->s.length<=1000000000):
  C prog 69 #[P (some ⟨Z,0,N⟩),I U L] w (eI w Z L F):=by
 go_enter func69,ntmps69;go_wp2_with fail;refine MR (XD w Z L F) (λl a' _=>if l=0 then 100-(Ks (a'.tmps.getD 6 undef)).toNat else 0) ?pass ?first
 case pass=>
  clear h hs;rintro l a wr (⟨rfl,f,u,i,st,rfl,hi,hu,g,hE,hA⟩|⟨rfl,f,b,t,rfl,hB,hA⟩)
  ·refine⟨_,rfl,?_⟩;have q:=Io wr Z st 1 hE (λs e=>(g s e).1);obtain⟨S,hS⟩:∃S:Int,S=((7*i:Nat):Int):=⟨_,rfl⟩;have s0:(0:Int)<=S:=by omega
   have s1:S<=63:=by omega
   rw[<-hS];have o:=Zh (Zi g (Zi hA (Zi hS (Zi hi hu))));have A8:u<18446744073709551616:=by have:=br (y:=0) hu hi (by omega) (by omega);omega
   clear hE g hA hS hi hu;go_wp2_with fail;refine q.mono ?_;rintro e w1 ⟨Ay,A7,rfl,m,A5,hn,hg⟩;have hA1:AD (λk=>k=Z) w w1:=o.out.2.1.trans' A5 (λ_ _ h=>h) (λ_ _ h=>h);obtain⟨bb,tt,Ac⟩:=m.blk;have X:=Zh (Zi Ac hA1);clear q Ac A5 hA1;cases A7 with
   |none=>
    obtain rfl:=hn rfl;have e0:bs []={data:= #[]}:=rfl;rw[e0];clear hn hg m;go_wp2_with fail;go_step3;exact⟨XD.one rfl X.out.1 X.out.2,by simp[Ks];omega⟩
   |some s' =>
    obtain⟨s,Av,Ar,Al⟩:=hg s' rfl;obtain⟨c,rfl⟩:∃c,Ay=[c]:=by
     match Ay,Al with
     | [c],_=>exact⟨c,rfl⟩
    obtain⟨y,hy⟩:∃y,y=c.toNat:=⟨_,rfl⟩;have v:y<256:=by rw[hy];exact c.toNat_lt
    have BX:(c.toNat:Int)=(y:Int):=by rw[hy]
    have Ba:(bs [c]).toList.isEmpty=false:=by rw[Dz];rfl
    have A9:(bs [c]).size=1:=by rw[CY];rfl
    have BA:∀h,(bs [c])[0]'h=c:=λ_=>rfl;have BQ:(bs [c]==({data:= #[]}:ByteArray))=false:=by rfl
    obtain⟨x,j⟩:∃x,x=y % 128:=⟨_,rfl⟩;have Ax:bits .and .u8 y 127=(x:Int):=Ny y x (by omega) (by omega);have Aw:Jx y=c:=by rw[hy];exact UInt8.ofNat_toNat
    have HG:=Zh (Zi Av (Zi Ar (Zi Aw (Zi hy j))));have HE:=Zh m;clear hn hg m Av Ar Al Aw hy;by_cases D:S=63/\1<y
    ·obtain⟨h1,h2⟩:=D;have f1:(S==63)=true:=by simp[h1]
     have f2:decide ((1:Int)<(y:Int))=true:=by simp;omega
     clear Ax j h1 h2;go_wp2_with fail;go_step3;exact⟨XD.one rfl X.out.1 X.out.2,by simp[Ks];omega⟩
    by_cases p:y=0/\0<S
    ·obtain⟨h1,h2⟩:=p;subst h1;have f2:decide ((0:Int)<S)=true:=by simp;omega
     clear Ax j;by_cases H:S=63
     ·have f1:(S==63)=true:=by simp[H]
      clear H;go_wp2_with fail;go_step3;exact⟨XD.one rfl X.out.1 X.out.2,by simp[Ks];omega⟩
     ·have f1:(S==63)=false:=by simp[H]
      clear H;go_wp2_with fail;go_step3;exact⟨XD.one rfl X.out.1 X.out.2,by simp[Ks];omega⟩
    have A6:x<128:=by omega
    have Ab:u+x*2^(7*i)<18446744073709551616:=br o.out.2.2.2.2 o.out.2.2.2.1 A6 (λh=>by have:=o.out.2.2.1;omega);obtain⟨u2,O⟩:∃u2,u2=u+x*2^(7*i):=⟨_,rfl⟩;have BR:bits .or U u (U.wrap ((x:Int)*2^S.toNat))=(u2:Int):=by
     rw[R6 u x i S o.out.2.2.1 o.out.2.2.2.2 Ab,O]
    rw[<-O]at Ab;have HU:=Zh O;clear O;by_cases A2:128<=y
    ·have A4:¬S=63:=λh=>D ⟨h,by omega⟩;have f1:(S==63)=false:=by simp[A4]
     have f4:((y:Int)==0)=false:=by simp;omega
     have n:¬(y:Int)=0:=by omega
     have f5:(128:Int)<=(y:Int):=by omega
     have A0:=Zh (show S+7=((7*(i+1):Nat):Int)/\i+1<=9/\u2<2^(7*(i+1))/\∀K,some s' =some K->K.length<=1000000000/\∃s d,F=some s/\s=d++K/\Gl u2 (i+1) d from by
      obtain⟨k1,k2,k3,k4,k5⟩:=o.out;obtain⟨g1,g2,g3,g4,g5⟩:=HG.out;refine⟨by omega,by omega,?_,λK e=> ?_⟩
      ·have:=Tl u y (7*i) k5;rw[HU.out,g5,show 7*(i+1)=7*i+7 by omega];exact this
      ·cases e
       obtain⟨l1,s0,d,l2,l3,l4⟩:=k1 s g1;refine⟨by rw[g2]at l1;simp only[RR,fa,gZ]at l1;omega,s0,d++ [c],l2,by rw[l3,g2,gi],?_⟩;have:=l4.more A2 v;rw[g3,<-g5,<-HU.out]at this;exact this)
     clear j D p;go_wp2_with fail;go_step3;obtain⟨n1,n2,n3,n4⟩:=A0.out;rw[n1];refine⟨XD.zero rfl n2 n3 n4 HE.out X.out.2,?_⟩;simp[Ks];have:=o.out.2.2.1;omega
    ·have A3:x=y:=by omega
     have f5:¬(128:Int)<=(y:Int):=by omega
     have r:=Zh (show∀AA,some s' =some AA ->∃s,F=some s/\s=AK u2++AA from λAA e=>by
      cases e
      obtain⟨k1,k2,k3,k4,k5⟩:=o.out;obtain⟨g1,g2,g3,g4,g5⟩:=HG.out;obtain⟨l1,s0,d,l2,l3,l4⟩:=k1 s g1;refine⟨s0,l2,?_⟩;have:=l4.last (y:=y) (by omega) (by omega);rw[g3,<-A3,<-HU.out]at this;rw[this,l3,g2,gi])
     have G:=In w1 Z bb tt X.out.1;subst A3;by_cases Aa:u2<=L
     ·have f6:(u2:Int)<=(L:Int):=by omega
      by_cases H:S=63
      ·have f1:(S==63)=true:=by simp[H]
       have f2:decide ((1:Int)<(x:Int))=false:=by simp;omega
       have f4:((x:Int)==0)=false:=by simp;omega
       have n:¬(x:Int)=0:=by omega
       clear H j D p G;go_wp2_with fail;simp only[ES];go_ret;exact⟨u2,_,rfl,Aa,HE.out,X.out.2,r.out⟩
      ·have f1:(S==63)=false:=by simp[H]
       by_cases M:x=0
       ·have f4:((x:Int)==0)=true:=by simp[M]
        have f3:decide ((0:Int)<S)=false:=by simp;omega
        clear H j D p G M;go_wp2_with fail;simp only[ES];go_ret;exact⟨u2,_,rfl,Aa,HE.out,X.out.2,r.out⟩
       ·have f4:((x:Int)==0)=false:=by simp[M]
        have n:¬(x:Int)=0:=by omega
        clear H j D p G;go_wp2_with fail;simp only[ES];go_ret;exact⟨u2,_,rfl,Aa,HE.out,X.out.2,r.out⟩
     ·have f6:¬(u2:Int)<=(L:Int):=by omega
      have Ap:∀e A,e=R (T #[])/\PS A Z N/\AD (λk=>k=Z) w1 A->eI w Z L F (R (I U 0)) A:=λe A Y=>⟨0,N,rfl,gY _,Y.2.1,X.out.2.trans' Y.2.2 (λ_ _ h=>h) (λ_ _ h=>h),λs' h=>by cases h⟩
      have z:=Zh Ap;clear Ap;by_cases H:S=63
      ·have f1:(S==63)=true:=by simp[H]
       have f2:decide ((1:Int)<(x:Int))=false:=by simp;omega
       have f4:((x:Int)==0)=false:=by simp;omega
       have n:¬(x:Int)=0:=by omega
       clear H j D p;go_wp2_with fail;go_step3;go_wp2_with fail;refine G.mono ?_;rintro e w2 Y;obtain rfl:=Y.1;have HF:=Zh (z.out _ _ Y);clear G Y;go_wp2_with fail;simp only[ES];go_ret;exact HF.out
      ·have f1:(S==63)=false:=by simp[H]
       by_cases M:x=0
       ·have f4:((x:Int)==0)=true:=by simp[M]
        have f3:decide ((0:Int)<S)=false:=by simp;omega
        clear H j D p M;go_wp2_with fail;go_step3;go_wp2_with fail;refine G.mono ?_;rintro e w2 Y;obtain rfl:=Y.1;have HF:=Zh (z.out _ _ Y);clear G Y;go_wp2_with fail;simp only[ES];go_ret;exact HF.out
       ·have f4:((x:Int)==0)=false:=by simp[M]
        have n:¬(x:Int)=0:=by omega
        clear H j D p;go_wp2_with fail;go_step3;go_wp2_with fail;refine G.mono ?_;rintro e w2 Y;obtain rfl:=Y.1;have HF:=Zh (z.out _ _ Y);clear G Y;go_wp2_with fail;simp only[ES];go_ret;exact HF.out
  ·refine⟨_,rfl,?_⟩;have hs:=In wr Z b t hB;have HA:=Zh hA;clear hB hA;go_wp2_with fail;refine hs.mono ?_;rintro e w1 ⟨rfl,E1,A1⟩;have HE:=Zh (Zi E1 (HA.out.trans' A1 (λ_ _ h=>h) (λ_ _ h=>h)));clear hs E1 A1;go_wp2_with fail;simp only[ES];go_ret;exact⟨0,N,rfl,gY _,HE.out.1,HE.out.2,λs' h=>by cases h⟩
 case first=>
  have HJ:=Zh (show XD w Z L F 0 {tmps:= #[P (some ⟨Z,0,N⟩),I U L,undef,undef,I U 0,I U 0,I J 0,undef,undef,undef,undef,undef,undef,undef,undef,undef,undef,undef,undef,undef,undef,undef,undef,undef,undef,undef,undef,undef,undef,undef,undef,undef,undef,undef,undef,undef,undef,undef,undef,undef,undef,undef,undef,undef,undef,undef,undef,undef,undef],defers:=[]} w from
   .inl ⟨rfl,λ_=>undef,0,0,F,rfl,by omega,by simp,λK e=>⟨hs K e,K,[],e,rfl,Gl.start⟩,h,AD.refl _ _⟩)
  clear h hs;intro hp;go_wp2_with fail;go_step3;rename_i hK;obtain⟨rest,h1,h2⟩:=hp 0 _ _ HJ.out;cases h1
  exact hK _ _ h2
theorem Ug(w)(F L:Nat)(D:Option (List UInt8))(h:PS w F D)(c:L<9223372036854775808)(K:∀s,D=S s->s.length<=1000000000):
  C prog 47 #[P (S ⟨F,0,N⟩),I J L] w λe w' =>∃(u:Nat) (A :Option (List UInt8)),e=R (I J u)/\u<=L/\PS w' F A /\AD (λk=>k=F) w w' /\∀H,A =S H ->∃s,D=S s/\s=AK u++H :=by
 have Y:=aD w F L D h (by omega) K;clear h K;go_enter func47,ntmps47;go_wp2_with fail;refine Y.mono ?_;rintro e b ⟨u,A,rfl,Z,X,M,O⟩;have G:=Zh (Zi X (Zi M O));clear Y X M O;go_wp2_with fail;go_ret;exact⟨u,A,rfl,Z,G.out.1,G.out.2.1,G.out.2.2⟩
theorem over_any(w)(A:Nat)(D:Option (List UInt8))(h:PS w A D):
  C prog 34 #[P (S ⟨A,0,N⟩)] w λe w' =>∃b:Bool,e=R (.bool b)/\w=w' /\(b=true->D=S []):=by
 have H:=h.lt;cases D with
 |none=>
  have G:w.cell? ⟨A,1,N⟩=S (.bool true):=AI.cell h rfl;clear h;go_enter func34,ntmps34;go_wp2_with fail;go_ret;exact⟨false,rfl,rfl,λh=>by cases h⟩
 |some s=>
  cases s with
  |nil=>exact(Ik w A h).mono λe w' F=>⟨true,F.1,F.2,λ_=>rfl⟩
  |cons c s=>
   obtain⟨K,G,f0,f1,_⟩:=CZ.cells h;have O:(bs (c::s)).size=s.length+1:=by rw[CY];rfl
   have M:(bs (c::s)).toList.isEmpty=false:=by rw[Dz];rfl
   generalize bs (c::s)=B at*;clear h;go_enter func34,ntmps34;go_wp2_with fail;go_ret;refine⟨_,rfl,rfl,λh=> ?_⟩;simp_all
theorem XE(x y):F2 (x^^^y)=F2 x^^^F2 y:=by
 unfold F2;rw[Z8,Ws];have A:=iP x;have D:=iP y;rcases A with A|A<;>rcases D with D|D<;>rw[A,D]<;>simp
 ·rw[Q0]
 ·rw[Q0,Q0,gQ (y/2)]
 ·rw[Q0 (x/2),<-Q0 3988292384,gQ 3988292384 (y/2),Q0,gR,gm]
theorem IL:∀(k x y:Nat),Bc k (x^^^y)=Bc k x^^^Bc k y
 |0,_,_=>rfl
 |k+1,x,y=>by unfold Bc;rw[XE,IL k]
theorem IM:∀(j k x:Nat),Bc (j+k) x=Bc k (Bc j x)
 |0,k,x=>by rw[fj];rfl
 |j+1,k,x=>by rw[Nat.add_right_comm];exact IM j k (F2 x)
theorem Uh(x):F2 (2*x)=x:=by
 unfold F2;rw[if_neg (by omega)];omega
theorem F4:∀(k x:Nat),Bc k (x*2^k)=x
 |0,x=>by simp[Bc]
 |k+1,x=>by
  unfold Bc
  rw[show x*2^(k+1)=2*(x*2^k) by rw[fk,<-gS,gT],Uh]
  exact F4 k x
theorem Ui{c}(h:c<4294967296)(A:F2 c=0):c=0:=by
 unfold F2 at A;split at A
 ·exfalso;have e:c/2=3988292384:=by
   have D:c/2^^^3988292384^^^3988292384=0^^^3988292384:=by rw[A]
   rwa [Q0,gR,gm,iQ]at D
  omega
 ·omega
theorem Ju:∀(k:Nat) {c:Nat},c<4294967296->Bc k c=0->c=0
 |0,_,_,h=>h
 |k+1,_,h,hz=>Ui h (Ju k (Nu h) hz)
def MS:List UInt8->Nat
 | []=>0
 |b::l=>b.toNat+256*MS l
theorem Gm(b l):MS (b::l)=b.toNat+256*MS l:=rfl
theorem Ip(a L)(h:a<256):a+256*L=a^^^(L*2^8):=by
 have D:=gu (i:=8) (b:=a) (by omega) L;have A:a|||L*2^8=a^^^(L*2^8):=by
  apply gv;intro i;rw[iR,gy,Nat.testBit_mul_two_pow];by_cases hi:8<=i
  ·have:a.testBit i=false:=hZ (iA (by omega) (Pa (n:=2) (by decide) hi));simp[this]
  ·simp[hi]
 rw[<-A,Nat.or_comm,gT L,<-D];omega
theorem Jv(l):∀c,l.foldl (λc b=>Jo c b.toNat) c=Bc (8*l.length) (c^^^MS l):=by
 induction l with
 |nil=>intro c;simp[MS,Bc]
 |cons b l A=>
  intro c;rw[List.foldl_cons,A,Gm,fa,show 8*(l.length+1)=8+8*l.length by omega,IM,Ip _ _ b.toNat_lt,<-Q0,IL 8 (c^^^b.toNat),F4];rfl
def N3(s:List UInt8):Prop:=∃body,s=body++ET (F3 body)
theorem aE(c)(h:c<4294967296):c^^^(4294967295-c)=4294967295:=by
 have A:=Nat.testBit_two_pow_sub_succ (x:=c) (n:=32) (by omega);apply gv;intro i;rw[gy,show 4294967295-c=2^32-(c+1) by omega,A,show(4294967295:Nat)=2^32-1 by decide,Nat.testBit_two_pow_sub_one];by_cases hi:i<32
 ·simp[hi]
 ·have:c.testBit i=false:=hZ (iA h (show 2^32<=2^i from Pa (by decide) (by omega)));simp[this,hi]
theorem XF(c)(h:c<4294967296):MS (ET c)=c:=by
 simp only[ET,MS,iS];omega
theorem Ku{s}(h:N3 s):Bc (8*s.length) (4294967295^^^MS s)=Bc 32 4294967295:=by
 obtain⟨body,rfl⟩:=h;rw[<-Jv,List.foldl_append,Jv,EW];show Bc 32 (Zl body^^^MS (ET (F3 body)))=_;have A:=Wt body;rw[XF _ (by unfold F3;omega)];unfold F3;rw[aE _ A]
theorem XG{s t}(G:N3 s)(F:N3 t)(A:t.length=s.length)(turn k)(K:0<turn)(D:turn<4294967296)(H:k<=8*s.length)(e:MS t=MS s^^^(turn*2^k)):False:=by
 have a:=Ku G;have b:=Ku F;rw[A,e,<-Q0,IL,a]at b;have c:Bc (8*s.length) (turn*2^k)=0:=by
  have:Bc 32 4294967295^^^(Bc 32 4294967295^^^Bc (8*s.length) (turn*2^k))=0:=by rw[b,gR]
  rwa [<-Q0,gR,iQ]at this
 rw[show 8*s.length=k+(8*s.length-k) by omega,IM,F4]at c;have:=Ju _ D c;omega
theorem To:∀(l:List UInt8) (j b:Nat) (A:j<l.length),b<8->MS (l.set j (l[j]'A^^^Jx (2^b)))=MS l^^^2^(8*j+b)
 |x::l,0,b,A,hb=>by
  rw[List.set_cons_zero,List.getElem_cons_zero,Gm,Gm,Ip _ _ (bh _),Ip _ _ (bh _)]
  have e:(Jx (2^b)).toNat=2^b:=by
   rw[iS];have D:2^b<=2^7:=Pa (by decide) (by omega);exact gX (gU D (by decide))
  rw[UInt8.toNat_xor,e,Nat.mul_zero,fj,Q0,gQ (2^b),<-Q0]
 |x::l,j+1,b,A,hb=>by
  have F:=To l j b (by simpa using A) hb;rw[List.set_cons_succ,List.getElem_cons_succ,Gm,Gm,F,Ip _ _ (bh _),Ip _ _ (bh _)];have e:(MS l^^^2^(8*j+b))*2^8=MS l*2^8^^^2^(8*(j+1)+b):=by
   rw[show 8*(j+1)+b=8*j+b+8 by omega,V0 2 (8*j+b) 8,<-bw,<-bw,<-bw,iT]
  rw[e,Q0]
theorem Uj(turn i k)(h:turn/2^i % 2=1):turn % 2^(i+1)*2^k=turn % 2^i*2^k^^^2^(i+k):=by
 have e:turn % 2^(i+1)=turn % 2^i+2^i:=by
  rw[fk,iU,h];omega
 have D:=gu (i:=i) (b:=turn % 2^i) (dT _ (ag i)) 1;have F:turn % 2^i+2^i=turn % 2^i^^^2^i:=by
  rw[Nat.mul_one]at D;rw[iV,D];apply gv;intro q;rw[iR,gy,Nat.testBit_two_pow];by_cases A:i=q
  ·subst A;have:(turn % 2^i).testBit i=false:=hZ (dT _ (ag i));simp[this]
  ·simp[A]
 rw[e,F,<-bw,iT,bw,bw,<-V0]
theorem N4(turn i)(h:turn/2^i % 2≠1):turn % 2^(i+1)=turn % 2^i:=by
 rw[fk,iU,show turn/2^i % 2=0 by omega];omega
def bu(w:W)(s:List UInt8)(e:Ending)(w' :W):Prop:=∃(k:Nat) (b:ByteArray) (code:Int),e=R (T #[I .u8 k,.string b,I J code])/\B w.heap.size w w' /\(code=0->∃kn ld,s=AW kn ld)
theorem XH{s F A D u}(h:s=Dt++(F++(AK u++(A++D))))(H:F.length=1)(M:A.length=u)(K:D.length=4)(G:ET (F3 (s.take (s.length-4)))=D):∃kn ld,s=AW kn ld:=by
 match F,H with
 | [k],_=>
  refine⟨k,A,?_⟩;have e:s=Cy k A++D:=by rw[h,<-M];unfold Cy;simp
  have O:s.take (s.length-4)=Cy k A:=by
   rw[e,RR,K,iN,gc]
  rw[O]at G;rw[e,<-G];rfl
theorem bv{a b}(h:a≠b):((bs a).toList==b)=false:=by
 rw[Dz];simpa using h
theorem XI(w s)(hs:s.length<=1000000):C prog 31 #[.string (bs s)] w (bu w s):=by
 have j:=Nx w s;have E0:PS (w.alloc (.cells #[.string (bs s),.bool false] 153)) w.heap.size (S s):=AI.newAt rfl;have b0:B w.heap.size w (w.alloc (.cells #[.string (bs s),.bool false] 153)):=(B.refl _ w).alloc (E _) _;have l:=Io _ _ _ 3 E0 (λt e=>by cases e;omega);have v:=Zh b0;have X:=Zh (show∀A,B w.heap.size w A->bu w s (R (T #[I .u8 0,.string {data:= #[]},I J 4])) A from λA b=>⟨0,_,4,rfl,b,λh=>by cases h⟩);have hz:=CY s;obtain⟨n,hn⟩:∃n,n=s.length:=⟨_,rfl⟩;have HN:=Zh hn;rw[<-hn]at hs hz;clear E0 b0 hn;go_enter func31,ntmps31;go_wp2_with fail;refine j.mono ?_;rintro e w1 ⟨rfl,rfl⟩;clear j;go_wp2_with fail;refine l.mono ?_;rintro e w1 ⟨o1,y,rfl,E1,A1,n1,g1⟩;have B1:B w.heap.size w w1:=v.out.trans (A1.below (by simp) λk hk e=>by omega);have F:=Zh B1;clear l A1 B1 v n1;by_cases hm:o1=Dt
 ·subst hm;have Ap:bs Dt={data:= #[79,71,1]}:=rfl;rw[Ap];have l1:∀t,y=S t->t.length<=1000000:=λt e=>by
   obtain⟨f,c,M,_⟩:=g1 t e;cases c
   have:=HN.out;have h3:=congrArg iB M;rw[RR]at h3;omega
  have i:=Io w1 _ y 1 E1 (λt e=>by have:=l1 t e;omega);have A7:=Zh g1;clear g1 E1;go_wp2_with fail;refine i.mono ?_;rintro e w2 ⟨o2,z,rfl,E2,A2,n2,g2⟩;have K:=Zh (F.out.trans (A2.below F.out.size λk hk e=>by omega));have l2:∀t,z=S t->t.length<=1000000:=λt e=>by
   obtain⟨f,c,M,_⟩:=g2 t e;have:=l1 f c;rw[M,RR]at this;omega
  have r:=Ug w2 _ 262144 z E2 (by decide) (λt e=>by have:=l2 t e;omega);have Av:=Zh g2;clear i A2 n2 g2 E2 l1 F;go_wp2_with fail;refine r.mono ?_;rintro e w3 ⟨u,m,rfl,hu,E3,A3,g3⟩;have O:=Zh (K.out.trans (A3.below K.out.size λk hk e=>by omega));have l3:∀t,m=S t->t.length<=1000000:=λt e=>by
   obtain⟨f,c,M⟩:=g3 t e;have:=l2 f c;rw[M,RR]at this;omega
  have Aa:=Io w3 _ m (u:Int) E3 (λt e=>by have:=l3 t e;omega);have A0:=Zh g3;clear r A3 g3 E3 l2 K;go_wp2_with fail;refine Aa.mono ?_;rintro e w4 ⟨o3,g,rfl,E4,A4,n4,g4⟩;have Y:=Zh (O.out.trans (A4.below O.out.size λk hk e=>by omega));have l4:∀t,g=S t->t.length<=1000000:=λt e=>by
   obtain⟨f,c,M,_⟩:=g4 t e;have:=l3 f c;rw[M,RR]at this;omega
  have x:=Io w4 _ g 4 E4 (λt e=>by have:=l4 t e;omega);have Ar:=Zh g4;clear Aa A4 n4 g4 E4 l3 O;go_wp2_with fail;refine x.mono ?_;rintro e w5 ⟨o4,Ab,rfl,E5,A5,n5,g5⟩;have Z:=Zh (Y.out.trans (A5.below Y.out.size λk hk e=>by omega));have q:=over_any w5 _ Ab E5;have Ac:=Zh g5;clear x A5 n5 g5 E5 l4 Y;go_wp2_with fail;refine q.mono ?_;rintro e w6 ⟨b,rfl,rfl,hb⟩;clear q;cases b with
  |false=>
   clear hb;go_wp2_with fail;go_ret3;exact X.out _ Z.out
  |true=>
   have p:=hb rfl;have d:=Zh (show s=Dt++(o2++(AK u++(o3++o4)))/\o2.length=1/\o3.length=u/\o4.length=4 from by
    obtain⟨s4,k1,k2,k3⟩:=Ac.out [] p;obtain⟨s3,k4,k5,k6⟩:=Ar.out s4 k1;obtain⟨s2,k7,k8⟩:=A0.out s3 k4;obtain⟨s1,k9,Aw,Bb⟩:=Av.out s2 k7;obtain⟨s0,A6,Ax,A9⟩:=A7.out s1 k9;cases A6
    rw[gd]at k2;exact⟨by rw[Ax,Aw,k8,k5,k2],by omega,by omega,by omega⟩)
   have Ba:8<=n:=by
    obtain⟨k1,k2,k3,k4⟩:=d.out;have:=congrArg iB k1;have Ay:Dt.length=3:=rfl;simp only[RR,k2,k4,Ay]at this;rw[HN.out];omega
   have BA:(bs s).extract 0 (n-4)=bs (s.take (n-4)):=by rw[Eh];simp
   have G:=Nz w5 (s.take (n-4)) (by rw[gh];omega);have D:=Kt w5 (F3 (s.take (n-4))) (by unfold F3;omega);have BR:J.wrap ((n:Int)-4)=((n-4:Nat):Int):=by rw[IntKind.wrap_i64];omega
   have HF:=Zh (λh=>XH d.out.1 d.out.2.1 d.out.2.2.1 d.out.2.2.2 h);rw[<-HN.out]at HF;have BQ:n-4<=n:=by omega
   obtain⟨o,rfl⟩:∃k,o2=[k]:=by
    have:=d.out.2.1
    match o2,this with
    | [k],_=>exact⟨k,rfl⟩
   have Bs:(bs [o]).size=1:=by rw[CY];rfl
   have A8:∀h,(bs [o])[0]'h=o:=λ_=>rfl;clear hb p;generalize ET (F3 (s.take (n-4)))=fb at D HF;go_wp2_with fail;refine G.mono ?_;rintro e w6 ⟨rfl,rfl⟩;clear G;go_wp2_with fail;refine D.mono ?_;rintro e w7 ⟨rfl,b7⟩;have AA:=Zh (Z.out.trans (b7.mono Z.out.size));clear D b7;by_cases hq:fb=o4
   ·have Al:=Zh (HF.out hq);subst hq;have BX:((bs fb).toList==(bs fb).toList)=true:=by simp
    go_wp2_with fail;go_ret3;exact⟨o.toNat,_,0,rfl,AA.out,λ_=>Al.out⟩
   ·have H:=bv hq;rw[<-Dz o4]at H;go_wp2_with fail;go_ret3;exact X.out _ AA.out
 ·have H:=bv hm;unfold Dt at H;go_wp2_with fail;go_ret3;exact X.out _ F.out
theorem Mp(w s)(K:s.length<=1000000)(h:∀kn ld,s≠AW kn ld):
  C prog 19 #[.string (bs s)] w λe w' =>e=R (T #[P N,I J 4])/\Below w.heap.size w w' :=by
 have D:=XI w s K;generalize hB:bs s=B at D;clear hB;go_enter func19,ntmps19;go_wp2_with fail;refine D.mono ?_;rintro e M ⟨k,b,A,rfl,H,G⟩;have F:(A !=0)=true:=by
  by_cases F:A=0
  ·obtain⟨kn,ld,e⟩:=G F;exact absurd e (h kn ld)
  ·simp[F]
 clear D G h;go_wp2_with fail;go_ret2;exact⟨rfl,H⟩
theorem Iq(kn ld):N3 (AW kn ld):=⟨Cy kn ld,rfl⟩
theorem Pp{kn ld t turn k}(G:t.length=(AW kn ld).length)(K:0<turn)(H:turn<4294967296)(F:k<=8*(AW kn ld).length)(e:MS t=MS (AW kn ld)^^^(turn*2^k)):∀D A,t≠AW D A :=λD A M=>
 XG (Iq kn ld) (by rw[M];exact Iq D A) G turn k K H F e
theorem Uk{kn ld j}(O:ld.length<1000000)(c:j<(AW kn ld).length):∀A D,(AW kn ld).take j≠AW A D :=λA D H=>by
 have e:AW A D ++(AW kn ld).drop j=AW kn ld:=by rw[<-H,iO]
 have Y:=congrArg iB H
 rw[gh,Nat.min_eq_left (by omega)]at Y
 have f:∀k l (r:List UInt8),AW k l++r=Dt++ [k]++(AK l.length++(l++(ET (F3 (Cy k l))++r))):=λk l r=>by unfold AW Cy;simp
 have Z:AW kn ld=AW kn ld++ []:=by rw[gd]
 rw[Z,f,f]at e
 have l1:(Dt++ [A]).length=(Dt++ [kn]).length:=by simp
 have X:=(List.append_inj e l1).2
 have F :D.length<18446744073709551616:=by
  have:=CQ A D;have G:=CK A D;have M:=CQ kn ld;have K:=CK kn ld;have:=AC ld.length (by omega);omega
 obtain⟨G,_⟩:=KU _ _ _ _ X F (by omega);have M:=CQ A D;have K:=CK A D;have d:=CQ kn ld;have b:=CK kn ld;rw[G]at K;omega
set_option maxRecDepth 100000 in
theorem N5:(Lib.len8tab.size:Int)=256:=by
 have:Lib.len8tab.size=256:=by decide
 omega
theorem Ei(k a b:Nat)(A:k<=56)(F:a<=8)(D:b=k+a):RowKit.wrap64 ((k:Int)+RowKit.wrap64 (a:Int))=(b:Int):=by
 unfold RowKit.wrap64;omega
theorem Ul(a:Nat)(A:a<=8):RowKit.wrap64 (RowKit.wrap64 (a:Int))=(a:Int):=by
 unfold RowKit.wrap64;omega
theorem EJ(y)(h:y.toNat<Lib.len8tab.size):((Lib.len8tab[y.toNat]'h).toNat:Int)=Lib.len8 y:=by
 unfold Lib.len8;rw[getElem?_pos Lib.len8tab y.toNat h];rfl
set_option maxRecDepth 1000000 in
theorem Mq(x w)(D:0<=x)(A:x<=18446744073709551615):
  C prog 144 #[I U x] w λe w' =>e=R (I J (Lib.bitLen x.toNat))/\w=w' :=by
 go_enter func144,ntmps144;go_wp2;all_goals first
  |(go_ret;refine⟨congrArg R (congrArg (I J) ?_),rfl⟩;go_light)
  |(exfalso
    go_light;have F:=N5;omega)
 all_goals first
  |(rw[EJ (x/4294967296/65536/256) _,Lib.len8_of (x/4294967296/65536/256) (by omega) (by omega)]
    have e:(x/4294967296/65536/256).toNat=x.toNat/72057594037927936:=by omega
    have l:=Lib.bitLen_le8' (x/4294967296/65536/256) (by omega) (by omega);have s:=Lib.bitLen_shift56 x.toNat (by omega) (by omega);rw[e]at l⊢;exact Ei 56 _ _ (by decide) l s)
  |(rw[EJ (x/4294967296/65536) _,Lib.len8_of (x/4294967296/65536) (by omega) (by omega)]
    have e:(x/4294967296/65536).toNat=x.toNat/281474976710656:=by omega
    have l:=Lib.bitLen_le8' (x/4294967296/65536) (by omega) (by omega);have s:=Lib.bitLen_shift48 x.toNat (by omega) (by omega);rw[e]at l⊢;exact Ei 48 _ _ (by decide) l s)
  |(rw[EJ (x/4294967296/256) _,Lib.len8_of (x/4294967296/256) (by omega) (by omega)]
    have e:(x/4294967296/256).toNat=x.toNat/1099511627776:=by omega
    have l:=Lib.bitLen_le8' (x/4294967296/256) (by omega) (by omega);have s:=Lib.bitLen_shift40 x.toNat (by omega) (by omega);rw[e]at l⊢;exact Ei 40 _ _ (by decide) l s)
  |(rw[EJ (x/4294967296) _,Lib.len8_of (x/4294967296) (by omega) (by omega)]
    have e:(x/4294967296).toNat=x.toNat/4294967296:=by omega
    have l:=Lib.bitLen_le8' (x/4294967296) (by omega) (by omega);have s:=Lib.bitLen_shift32 x.toNat (by omega) (by omega);rw[e]at l⊢;exact Ei 32 _ _ (by decide) l s)
  |(rw[EJ (x/65536/256) _,Lib.len8_of (x/65536/256) (by omega) (by omega)]
    have e:(x/65536/256).toNat=x.toNat/16777216:=by omega
    have l:=Lib.bitLen_le8' (x/65536/256) (by omega) (by omega);have s:=Lib.bitLen_shift24 x.toNat (by omega) (by omega);rw[e]at l⊢;exact Ei 24 _ _ (by decide) l s)
  |(rw[EJ (x/65536) _,Lib.len8_of (x/65536) (by omega) (by omega)]
    have e:(x/65536).toNat=x.toNat/65536:=by omega
    have l:=Lib.bitLen_le8' (x/65536) (by omega) (by omega);have s:=Lib.bitLen_shift16 x.toNat (by omega) (by omega);rw[e]at l⊢;exact Ei 16 _ _ (by decide) l s)
  |(rw[EJ (x/256) _,Lib.len8_of (x/256) (by omega) (by omega)]
    have e:(x/256).toNat=x.toNat/256:=by omega
    have l:=Lib.bitLen_le8' (x/256) (by omega) (by omega);have s:=Lib.bitLen_shift8 x.toNat (by omega) (by omega);rw[e]at l⊢;exact Ei 8 _ _ (by decide) l s)
  |(rw[EJ x _,Lib.len8_of x (by omega) (by omega)]
    have l:=Lib.bitLen_le8' x (by omega) (by omega);exact Ul _ l)
end Go.Proofs.YtbejdajkkoapgaaGreatDoor
namespace Go.Proofs.YtbejdajkkoapgaaGreatDoor.Tr
theorem ret_int{k:IntKind}{a b}(h:a=b):R (I k a)=R (I k b):=by rw[h]
theorem Ic{a b}(h:a=b):R (.bool a)=R (.bool b):=by rw[h]
theorem new_bad(d w)(h:d<1\/24<d):
  C prog 27 #[I J d] w λe w' =>e=R (T #[.agg #[I J 0],I J 1])/\B w.heap.size w w' :=by
 rcases h with h|h
 ·go_enter func27,ntmps27;go_wp2;exact bodyPost_ret (v:=T #[.agg #[I J 0],I J 1]) (by simp[results,results27,go_sem]) rfl ⟨rfl,Za⟩
 ·go_enter func27,ntmps27;go_wp2;exact bodyPost_ret (v:=T #[.agg #[I J 0],I J 1]) (by simp[results,results27,go_sem]) rfl ⟨rfl,Za⟩
theorem new_good(d:Int)(w)(h:1<=d)(A :d<=24):
  C prog 27 #[I J d] w λe w' =>e=R (T #[.agg #[I J d],I J 0])/\B w.heap.size w w' :=by
 go_enter func27,ntmps27;go_wp2;exact bodyPost_ret (v:=T #[.agg #[I J d],I J 0]) (by simp[results,results27,go_sem]) rfl ⟨rfl,Za⟩
def pw(d:Int):Int:=2^d.toNat
theorem Pq(d)(h:1<=d)(A :d<=24):2<=pw d/\pw d<=16777216:=by
 have F:2^1<=2^d.toNat:=Pa (by decide) (by omega);have D:2^d.toNat<=2^24:=Pa (by decide) (by omega);have e:pw d=((2^d.toNat:Nat):Int):=by unfold pw;simp
 rw[e];omega
theorem aF(d)(h:1<=d)(A :d<=24):wrap64 (2^d.toNat)=pw d:=by
 have:=Pq d h A;show wrap64 (pw d)=pw d;unfold wrap64;omega
theorem leaves_any(d w)(h:1<=d)(A :d<=24):
  C prog 97 #[.agg #[I J d]] w λe w' =>e=R (I J (pw d))/\B w.heap.size w w' :=by
 have e:=aF d h A;go_enter func97,ntmps97;go_wp2;go_ret;exact⟨ret_int e,Za⟩
def goodB(d v:Int):Bool:=decide (1<=v)&&decide (v<2*pw d)
theorem goodB_iff(d v):goodB d v=true↔1<=v/\v<2*pw d:=by unfold goodB;simp
theorem good_any(d v:Int)(w)(h:1<=d)(F :d<=24):
  C prog 96 #[.agg #[I J d],I J v] w λe w' =>e=R (.bool (goodB d v))/\B w.heap.size w w' :=by
 have⟨H,K⟩:=Pq d h F;by_cases D:1<=v
 ·have A:=Zh (show decide (v<2*pw d)=goodB d v by unfold goodB;simp[D]);go_enter func96,ntmps96;go_wp2_with(go_at_call 97;refine(leaves_any _ _ (by omega) (by omega)).mono ?_;rintro e w' ⟨rfl,G⟩);go_ret;exact⟨Ic A.out,(Za).trans (G.mono (by simp))⟩
 ·have A:=Zh (show false=goodB d v by unfold goodB;simp[D]);go_enter func96,ntmps96;go_wp2;go_ret;exact⟨Ic A.out,Za⟩
def leafB(d x:Int):Bool:=decide (0<=x)&&decide (x<pw d)
def leafV(d x:Int):Int:=if leafB d x then pw d+x else 0
theorem leafB_iff(d v):leafB d v=true↔0<=v/\v<pw d:=by unfold leafB;simp
theorem leafB_no(d v):leafB d v=false↔¬(0<=v/\v<pw d):=by rw[<-leafB_iff];simp
theorem bcell{A D B}(F:Below B A D):(∀b o,b<B->D.cell? ⟨b,o,N⟩=A.cell? ⟨b,o,N⟩)/\(∀b o,b<B->D.frozen? ⟨b,o,N⟩=A.frozen? ⟨b,o,N⟩):=
 ⟨λb o h=>F.cell (p:=⟨b,o,N⟩) h,λb o h=>F.frozen (p:=⟨b,o,N⟩) h⟩
theorem leaf_any(d x w)(h:1<=d)(M :d<=24)(b:x<=9223372036854775807):
  C prog 99 #[.agg #[I J d],I J x] w λe w' =>e=R (T #[I J (leafV d x),.bool (leafB d x)])/\B w.heap.size w w' :=by
 have⟨Y,Z⟩:=Pq d h M;by_cases K:0<=x
 ·by_cases O:x<pw d
  ·have A:leafB d x=true:=(leafB_iff d x).2 ⟨K,O⟩;have D:leafV d x=pw d+x:=by unfold leafV;rw[if_pos A]
   rw[A,D];clear A D;go_enter func99,ntmps99;go_wp2_with fail;refine(leaves_any _ _ (by omega) (by omega)).mono ?_;rintro e H ⟨rfl,F⟩;obtain⟨f,X⟩:=bcell F;have g:w.heap.size<H.heap.size:=by have:=F.size;simp at this;omega
   go_wp2_with fail;refine(leaves_any _ _ (by omega) (by omega)).mono ?_;rintro e c ⟨rfl,G⟩;go_wp2;go_ret2;exact⟨rfl,((Za).trans (F.mono (by simp))).trans (G.mono (by omega))⟩
  ·have A:leafB d x=false:=(leafB_no d x).2 (by omega);have D:leafV d x=0:=by unfold leafV;rw[A];rfl
   rw[A,D];clear A D;go_enter func99,ntmps99;go_wp2_with fail;refine(leaves_any _ _ (by omega) (by omega)).mono ?_;rintro e H ⟨rfl,F⟩;go_wp2;go_ret2;exact⟨rfl,(Za).trans (F.mono (by simp))⟩
 ·have A:leafB d x=false:=(leafB_no d x).2 (by omega);have D:leafV d x=0:=by unfold leafV;rw[A];rfl
  rw[A,D];clear A D;go_enter func99,ntmps99;go_wp2;go_ret2;exact⟨rfl,Za⟩
def upV(d v:Int):Int:=if goodB d v then v/2 else 0
theorem up_any(d v w)(h:1<=d)(G :d<=24):
  C prog 188 #[.agg #[I J d],I J v] w λe w' =>e=R (I J (upV d v))/\B w.heap.size w w' :=by
 cases D:goodB d v
 ·have A:upV d v=0:=by unfold upV;rw[D];rfl
  rw[A];clear A;go_enter func188,ntmps188;go_wp2_with(go_at_call 96;refine(good_any _ _ _ (by omega) (by omega)).mono ?_;rintro e w' ⟨rfl,F⟩);go_ret;exact⟨rfl,(Za).trans (F.mono (by simp))⟩
 ·have A:upV d v=v/2:=by unfold upV;rw[D];rfl
  have⟨K,O⟩:=Pq d h G;rw[A];clear A;have⟨M,H⟩:=(goodB_iff d v).1 D;go_enter func188,ntmps188;go_wp2_with(go_at_call 96;refine(good_any _ _ _ (by omega) (by omega)).mono ?_;rintro e w' ⟨rfl,F⟩);go_ret;exact⟨rfl,(Za).trans (F.mono (by simp))⟩
def Um(x:Int):Int:=Lib.bitLen x.toNat
def besV(d v:Int):Int:=if goodB d v&& !(v==1)then(if v % 2=0 then v+1 else v-1)else 0
theorem aG(v)(h:0<=v)(O :v<=9223372036854775807):bits .xor J v 1=if v % 2=0 then v+1 else v-1:=by
 show J.wrap ((BitVec.ofInt 64 v^^^BitVec.ofInt 64 1).toNat:Int)=_;obtain⟨n,rfl⟩:=Int.eq_ofNat_of_zero_le h;have K:(BitVec.ofInt 64 (n:Int)).toNat=n:=by
  rw[BitVec.ofInt_natCast,BitVec.toNat_ofNat];exact gX (by omega)
 have F:(BitVec.ofInt 64 1).toNat=1:=by decide
 rw[BitVec.toNat_xor,K,F];have d:(n^^^1)/2^1=n/2^1^^^1/2^1:=Nat.xor_div_two_pow;have m:(n^^^1) % 2^1=n % 2^1^^^1 % 2^1:=Nat.xor_mod_two_pow;have M:1/2^1=0:=by decide
 have G:1 % 2^1=1:=by decide
 rw[M,gm]at d;rw[G]at m;have H:(0:Nat)^^^1=1:=by decide
 have D:(1:Nat)^^^1=0:=by decide
 simp only[IntKind.wrap,IntKind.bits,IntKind.signed];rcases(show n % 2^1=0\/n % 2^1=1 by omega)with A|A
 ·rw[A,H]at m;rw[if_pos (by omega)];simp;omega
 ·rw[A,D]at m;rw[if_neg (by omega)];simp;omega
theorem beside_any(d v w)(h:1<=d)(K :d<=24):
  C prog 187 #[.agg #[I J d],I J v] w λe w' =>e=R (I J (besV d v))/\B w.heap.size w w' :=by
 cases G:goodB d v
 ·have A:besV d v=0:=by unfold besV;rw[G];rfl
  rw[A];clear A;go_enter func187,ntmps187;go_wp2_with(go_at_call 96;refine(good_any _ _ _ (by omega) (by omega)).mono ?_;rintro e w' ⟨rfl,D⟩);go_ret;exact⟨rfl,(Za).trans (D.mono (by simp))⟩
 ·have⟨O,Y⟩:=Pq d h K;have⟨X,M⟩:=(goodB_iff d v).1 G;by_cases F:v=1
  ·have A:besV d v=0:=by unfold besV;rw[G,F];rfl
   have H:(v==1)=true:=beq_iff_eq.2 F;rw[A];clear A F;go_enter func187,ntmps187;go_wp2_with(go_at_call 96;refine(good_any _ _ _ (by omega) (by omega)).mono ?_;rintro e w' ⟨rfl,D⟩);go_ret;exact⟨rfl,(Za).trans (D.mono (by simp))⟩
  ·have H:(v==1)=false:=beq_eq_false_iff_ne.2 F;have A:besV d v=bits .xor J v 1:=by unfold besV;rw[G,H,aG v (by omega) (by omega)];rfl
   rw[A];clear A;go_enter func187,ntmps187;go_wp2_with(go_at_call 96;refine(good_any _ _ _ (by omega) (by omega)).mono ?_;rintro e w' ⟨rfl,D⟩);go_ret;exact⟨rfl,(Za).trans (D.mono (by simp))⟩
end Go.Proofs.YtbejdajkkoapgaaGreatDoor.Tr
namespace Go.Proofs.YtbejdajkkoapgaaGreatDoor
structure Kv(u u1 y1 y0 q r:Nat):Prop where
 eq:q*y1+r=u
 ge:(u*4294967296+u1)/(y1*4294967296+y0)<=q
theorem Jw(u u1 A D)(H:2147483648<=A)(F:u1<4294967296):Kv u u1 A D (u/A) (u-u/A*A):=by
 have G:u/A*A<=u:=fp _ _;refine⟨by omega,?_⟩;have a1:A*4294967296<=A*4294967296+D:=by omega
 have a2:0<A*4294967296:=by omega
 have a3:(u*4294967296+u1)/(A*4294967296+D)<=(u*4294967296+u1)/(A*4294967296):=Nat.div_le_div_left a1 a2;refine gg a3 ?_;rw[gT A,<-Nat.div_div_eq_div_mul];rw[show(u*4294967296+u1)/4294967296=u from by omega];exact E _
theorem Jy(u A D)(F:2147483648<=A)(H:D<4294967296)(G:u<A*4294967296+D):u/A<=4294967297:=by
 rw[Nat.le_iff_lt_add_one,fw (by omega)];omega
theorem Kb(u u1 A D)(F:2147483648<=A)(H:u1<4294967296)(G:u<A*4294967296+D):(u*4294967296+u1)/(A*4294967296+D)<=4294967295:=by
 have:(u*4294967296+u1)/(A*4294967296+D)<4294967296:=by
  rw[fw (by omega)];omega
 omega
theorem Kw{u u1 A D q r}(h:Kv u u1 A D q r)(M:2147483648<=A)(K:u1<4294967296)(O:u<A*4294967296+D)
  (H:4294967296<=q\/4294967296*r+u1<q*D):1<=q/\Kv u u1 A D (q-1) (r+A):=by
 have X:=Kb u u1 A D M K O;have G:(u*4294967296+u1)/(A*4294967296+D)<q:=by
  rcases H with H|H
  ·omega
  ·rw[fw (by omega),iW,<-gS,<-h.eq,fx];omega
 have F:1<=q:=by
  generalize(u*4294967296+u1)/(A*4294967296+D)=z at*;omega
 have e:(q-1)*A+A=q*A:=by
  rw[<-Nat.succ_mul,show(q-1).succ=q from by omega]
 exact⟨F,⟨by have:=h.eq;omega,Nat.le_sub_one_of_lt G⟩⟩
theorem JP{u u1 D A q r}(h:Kv u u1 D A q r)(F:2147483648<=D)(G:q*A<=4294967296*r+u1):q=(u*4294967296+u1)/(D*4294967296+A):=by
 refine Nat.le_antisymm ?_ h.ge;rw[iX (by omega),iW,<-gS,<-h.eq,fx];omega
theorem Jz{u u1 D A q r}(h:Kv u u1 D A q r)(G:2147483648<=D)(F:q<=4294967296)(K:A<4294967296)(H:4294967296<=r):q=(u*4294967296+u1)/(D*4294967296+A):=by
 refine JP h G ?_;have a:q*A<=4294967296*4294967295:=fy F (by omega);omega
theorem R7(u u1 u0 y)(M:1<=y)(q1 A t)(F:q1=(u*4294967296+u1)/y)(O:t=(u*4294967296+u1)-q1*y)(H:A=(t*4294967296+u0)/y):
  q1*4294967296+A=((u*4294967296+u1)*4294967296+u0)/y/\t*4294967296+u0-A*y=((u*4294967296+u1)*4294967296+u0) % y:=by
 have K:t=(u*4294967296+u1) % y:=by rw[O,F,ej]
 have G:=iY (u*4294967296+u1) y;rw[<-F,<-K]at G;have e:(u*4294967296+u1)*4294967296+u0=t*4294967296+u0+y*(q1*4294967296):=by
  rw[<-G,fx (y*q1) t,gS y q1];generalize y*(q1*4294967296)=z;generalize t*4294967296=x;omega
 constructor
 ·have D:0<y:=M;rw[e,Nat.add_mul_div_left _ _ D,<-H,iV]
 ·rw[e,Nat.add_mul_mod_self_left,H,ej]
theorem Mr(n y s):n*2^s/(y*2^s)=n/y/\n*2^s % (y*2^s)/2^s=n % y:=by
 have A:0<2^s:=ag s;constructor
 ·exact iZ _ _ A
 ·rw[Nat.mul_mod_mul_right];exact Nat.mul_div_cancel _ A
end Go.Proofs.YtbejdajkkoapgaaGreatDoor
namespace Go.Proofs.YtbejdajkkoapgaaGreatDoor.Sp
theorem ret_int{k:IntKind}{a b}(h:a=b):R (I k a)=R (I k b):=by rw[h]
theorem Ic{a b}(h:a=b):R (.bool a)=R (.bool b):=by rw[h]
def Drew(w w' :W):Prop:=∃n,w' =w.drewN n
theorem Drew.refl(w):Drew w w:=⟨0,rfl⟩
theorem Drew.of(w n):Drew w (w.drewN n):=⟨n,rfl⟩
theorem fJ:(2:Nat)^64=18446744073709551616:=by decide
def Um(x:Int):Nat:=Lib.bitLen x.toNat
theorem N6(m)(A:m<=18446744073709551615):Um m<=64:=Lib.bitLen_le m.toNat 64 (by decide) (by rw[fJ];omega)
theorem aH(m w)(D:0<=m)(A:m<=18446744073709551615):
  C prog 148 #[I U m] w λe w' =>e=R (T #[I J ((Um m:Int)-1),.bool (m !=0)])/\w=w' :=by
 have F:Lib.bitLen m.toNat<=64:=N6 m A;go_enter func148,ntmps148;go_wp2_with(go_at_call 144;refine(Mq _ _ (by omega) (by omega)).mono ?_;rintro e w' ⟨rfl,rfl⟩);go_ret2;exact⟨rfl,rfl⟩
def sh(L:Nat)(m:Int):Nat:=Um m-1-L
def qF(L:Nat)(m:Int):Int:=m/2^sh L m
def kF(L k:Nat):Int:=(k:Int)*2^L
def idx(L:Nat)(m:Int):Int:=kF L (sh L m)+qF L m
theorem Un(B L:Nat)(m:Int)(w)(H:0<=m)(A:m<=18446744073709551615)(G:L<=14)(K:w.cell? ⟨B,1,N⟩=S (I J L)):
  C prog 142 #[P (S ⟨B,0,N⟩),I U m] w λe w' =>e=R (I J (sh L m))/\w=w' :=by
 have F:=N6 m A;have D:=Zh (show max ((Um m:Int)-1-L) 0=(sh L m:Int) by unfold sh;omega);go_enter func142,ntmps142;go_wp2_with(go_at_call 148;refine(aH _ _ (by omega) (by omega)).mono ?_;rintro e w' ⟨rfl,rfl⟩);go_ret;exact⟨ret_int D.out,rfl⟩
theorem bitLen_pos(x)(h:1<=x)(A :x<2^64):1<=Lib.bitLen x:=by
 have:=Lib.bitLen_half x (by omega) A;omega
theorem bitLen_lo(x)(h:1<=x)(D :x<2^64):2^(Lib.bitLen x-1)<=x:=by
 have F:=bitLen_pos x h D;have G:=Lib.bitLen_le x 64 (by decide) D;refine Nat.le_of_not_lt λA=> ?_;have:=Lib.bitLen_le x (Lib.bitLen x-1) (by omega) A;omega
theorem bitLen_hi(x)(D :x<2^64):x<2^Lib.bitLen x:=by
 refine Nat.lt_of_not_le λA=> ?_;have G:=Lib.bitLen_shift (Lib.bitLen x) x A D;have F:1<=x/2^Lib.bitLen x:=(ic (ag _)).2 A;have H:=bitLen_pos (x/2^Lib.bitLen x) F (gU (ie _ _) D);omega
theorem pow_cast(k):(2:Int)^k=((2^k:Nat):Int):=by simp
theorem eJ(L m)(A:1<=m):qF L m=((m.toNat/2^sh L m:Nat):Int):=by
 unfold qF;rw[pow_cast,es,show((m.toNat:Nat):Int)=m from by omega]
theorem cX(L m)(H:1<=m)(b:m<=9223372036854775808)(c:L<=14):sh L m<=63-L/\1<=qF L m/\qF L m<2*2^L/\(sh L m≠0->2^L<=qF L m):=by
 have F:=bitLen_lo m.toNat (by omega) (by rw[fJ];omega);have O:=bitLen_hi m.toNat (by rw[fJ];omega);have Y:=bitLen_pos m.toNat (by omega) (by rw[fJ];omega);have X:Lib.bitLen m.toNat<=64:=N6 m (by omega);have D:Um m=Lib.bitLen m.toNat:=rfl;rw[eJ L m H,pow_cast];unfold sh;rw[D];have Z:2^(Lib.bitLen m.toNat-1-L)<=2^(Lib.bitLen m.toNat-1):=Pa (by decide) (by omega);have A:=ag (Lib.bitLen m.toNat-1-L);have d:1<=m.toNat/2^(Lib.bitLen m.toNat-1-L):=(ic A).2 (by omega);have K:m.toNat/2^(Lib.bitLen m.toNat-1-L)<2*2^L:=by
  rw[fw A];have:2^Lib.bitLen m.toNat<=2*2^L*2^(Lib.bitLen m.toNat-1-L):=by
   rw[show 2*2^L=2^(L+1)from by rw[fk];omega,<-V0];exact Pa (by decide) (by omega)
  omega
 refine⟨by omega,by omega,by omega,λG=> ?_⟩;have M:2^L<=m.toNat/2^(Lib.bitLen m.toNat-1-L):=by
  rw[iX A,<-V0,show L+(Lib.bitLen m.toNat-1-L)=Lib.bitLen m.toNat-1 from by omega];exact F
 omega
theorem J1(L)(A:L<=14):1<=(2:Int)^L/\(2:Int)^L<=16384:=by
 rw[pow_cast];have F:1<=2^L:=ig;have D:2^L<=2^14:=Pa (by decide) A;omega
theorem XJ(L k)(A:L<=14)(D:k<=63):0<=kF L k/\kF L k<=1032192:=by
 have⟨F,H⟩:=J1 L A;unfold kF;have K:0<=(k:Int)*2^L:=Int.mul_nonneg (by omega) (by omega);have G:(k:Int)*2^L<=63*2^L:=Int.mul_le_mul_of_nonneg_right (by omega) (by omega);omega
theorem idx_bd(L m)(F:1<=m)(D:m<=9223372036854775808)(A:L<=14):1<=idx L m/\idx L m<=1064960:=by
 obtain⟨Y,O,M,_⟩:=cX L m F D A;have⟨H,X⟩:=J1 L A;have⟨G,K⟩:=XJ L (sh L m) A (by omega);unfold idx;omega
theorem XK(L m)(F:1<=m)(D:m<=9223372036854775808)(A:L<=14):wrap64 (wrap64 ((sh L m:Int)*2^L)+wrap64 (m/2^sh L m))=idx L m:=by
 obtain⟨Y,O,M,_⟩:=cX L m F D A;have⟨H,X⟩:=J1 L A;have⟨G,K⟩:=XJ L (sh L m) A (by omega);show wrap64 (wrap64 (kF L (sh L m))+wrap64 (qF L m))=kF L (sh L m)+qF L m;unfold wrap64;omega
theorem index_no(B m w)(h:m=0\/9223372036854775808<m):
  C prog 132 #[P (S ⟨B,0,N⟩),I U m] w λe w' =>e=R (T #[I J 0,.bool false])/\w=w' :=by
 rcases h with h|h
 ·have A:(m==0)=true:=beq_iff_eq.2 h;clear h;go_enter func132,ntmps132;go_wp2;go_ret2;exact⟨rfl,rfl⟩
 ·have A:(m==0)=false:=beq_eq_false_iff_ne.2 (by omega);go_enter func132,ntmps132;go_wp2;go_ret2;exact⟨rfl,rfl⟩
theorem index_yes(B L:Nat)(m:Int)(w)(D:1<=m)(F:m<=9223372036854775808)(A:L<=14)(H:w.cell? ⟨B,1,N⟩=S (I J L)):
  C prog 132 #[P (S ⟨B,0,N⟩),I U m] w λe w' =>e=R (T #[I J (idx L m),.bool true])/\Drew w w' :=by
 obtain⟨O,Y,X,_⟩:=cX L m D F A;have⟨K,M⟩:=J1 L A;have Z:(m==0)=false:=beq_eq_false_iff_ne.2 (by omega);have G:=Zh (XK L m D F A);go_enter func132,ntmps132;go_wp2_with(go_at_call 142;refine(Un _ _ _ _ (by omega) (by omega) A H).mono ?_;rintro e w' ⟨rfl,rfl⟩);go_quiet(fail);go_wp2;go_ret2;exact⟨by rw[G.out];rfl,Drew.of _ _⟩
def Fj(L:Nat):Int:=idx L 9223372036854775808
def GW(L:Nat)(i:Int):Bool:=decide (1<=i)&&decide (i<=Fj L)
def Cl(L:Nat)(i:Int):Nat:=(i/2^L-1).toNat
def Fk(L:Nat)(i:Int):Int:=i-kF L (Cl L i)
def FY(L:Nat)(i:Int):Int:=if GW L i then Fk L i*2^Cl L i else 0
def FF(L:Nat)(i:Int):Int:=if GW L i then min (FY L i+(2^Cl L i-1)) 9223372036854775808 else 0
def repS(L:Nat)(i:Int):Int:=FY L i+(FF L i-FY L i)/2
theorem XL(B L:Nat)(i:Int)(w)(A:L<=14)(G:w.cell? ⟨B,1,N⟩=S (I J L))(hi:GW L i=false):
  C prog 124 #[P (S ⟨B,0,N⟩),I J i] w λe w' =>e=R (T #[I J 0,I U 0,.bool false])/\Drew w w' :=by
 have e:Fj L=idx L 9223372036854775808:=rfl;have⟨H,M⟩:=idx_bd L 9223372036854775808 (by omega) (by omega) A;rw[<-e]at H M;have K:¬(1<=i/\i<=Fj L):=by
  intro D;unfold GW at hi;simp[D.1,D.2]at hi
 have F:=Zh e;clear e hi;by_cases X:1<=i
 ·have O:Fj L<i:=by omega
  go_enter func124,ntmps124;go_wp2_with fail;refine(index_yes _ _ _ _ (by omega) (by omega) A G).mono ?_;rintro e w' ⟨rfl,n,rfl⟩;rw[<-F.out];go_wp2;go_ret3;exact⟨rfl,Drew.of _ _⟩
 ·go_enter func124,ntmps124;go_wp2_with fail;refine(index_yes _ _ _ _ (by omega) (by omega) A G).mono ?_;rintro e w' ⟨rfl,n,rfl⟩;rw[<-F.out];go_wp2;go_ret3;exact⟨rfl,Drew.of _ _⟩
theorem cY(L):sh L 9223372036854775808=63-L:=by
 have:Lib.bitLen 9223372036854775808=64:=by decide+kernel
 show Lib.bitLen (9223372036854775808:Int).toNat-1-L=_;rw[show(9223372036854775808:Int).toNat=9223372036854775808 from rfl,this]
theorem aI(L)(D:L<=14):Fj L=(64-(L:Int))*2^L:=by
 unfold Fj idx kF qF;rw[cY L];have e:(9223372036854775808:Int)=2^L*2^(63-L):=by
  rw[<-ii,show L+(63-L)=63 from by omega];rfl
 have A:(9223372036854775808:Int)/2^(63-L)=2^L:=by
  rw[e];exact ij _ (by have:=Int.pow_pos (n:=2) (m:=63-L) (by decide);omega)
 rw[A,show((63-L:Nat):Int)=63-(L:Int)from by omega,show(64-(L:Int))=(63-L)+1 from by omega,Int.add_mul,ik]
theorem JQ(L i)(G:L<=14)(d:1<=i)(F:i<=Fj L):
  (i<2^L/\Cl L i=0/\Fk L i=i/\i/2^L=0)\/(2^L<=i/\(Cl L i:Int)=i/2^L-1/\1<=i/2^L/\i/2^L<=64-L/\2^L<=Fk L i/\Fk L i<2*2^L/\(i/2^L=64-L->Fk L i=2^L)):=by
 have⟨X,Y⟩:=J1 L G;rw[aI L G]at F;by_cases A:i<2^L
 ·left;have e:i/2^L=0:=Int.ediv_eq_zero_of_lt (by omega) A;have c:Cl L i=0:=by unfold Cl;rw[e];rfl
  refine⟨A,c,?_,e⟩;unfold Fk kF;rw[c];simp
 ·right;have D:(0:Int)<2^L:=by omega
  have O:1<=i/2^L:=(Int.le_ediv_iff_mul_le D).2 (by omega);have H:i/2^L<=64-L:=by
   have:=Int.ediv_le_ediv D F;rw[ij _ (by omega)]at this;exact this
  have K:=Int.mul_ediv_add_emod i (2^L);have b:=Int.emod_nonneg i (show(2:Int)^L≠0 by omega);have Z:=Int.emod_lt_of_pos i D;have c:(Cl L i:Int)=i/2^L-1:=by unfold Cl;omega
  have r:Fk L i=i % 2^L+2^L:=by
   unfold Fk kF;rw[c,Int.sub_mul,ik];have:2^L*(i/2^L)=i/2^L*2^L:=iC _ _;omega
  refine⟨by omega,c,O,H,by omega,by omega,λM=> ?_⟩;rw[M]at K;have:2^L*(64-(L:Int))=(64-(L:Int))*2^L:=iC _ _;omega
theorem XM(L i)(G:L<=14)(D:1<=i)(A:i<=Fj L):max (wrap64 (i/2^L-1)) 0=(Cl L i:Int):=by
 have F:=JQ L i G D A;unfold wrap64;rcases F with⟨_,c,_,e⟩|⟨_,c,K,H,_⟩
 ·rw[e,c];decide
 ·omega
theorem XN(L i)(A:L<=14)(H:1<=i)(F:i<=Fj L)(b:Fj L<=1064960):U.wrap (wrap64 (i-wrap64 ((Cl L i:Int)*2^L)))=Fk L i:=by
 have D:=JQ L i A H F;have⟨O,X⟩:=J1 L A;have G:Cl L i<=63:=by
  rcases D with⟨_,c,_,_⟩|⟨_,c,_,M,_⟩<;>omega
 have⟨K,f⟩:=XJ L (Cl L i) A G;have Z:0<=Fk L i/\Fk L i<=32768:=by
  rcases D with⟨_,_,r,_⟩|⟨_,_,_,_,Y,d,_⟩<;>omega
 have e:Fk L i=i-kF L (Cl L i):=rfl;show U.wrap (wrap64 (i-wrap64 (kF L (Cl L i))))=_;rw[aw];unfold wrap64;omega
theorem Uo(B L:Nat)(i:Int)(w)(A:L<=14)(X:w.cell? ⟨B,1,N⟩=S (I J L))(hi:GW L i=true):
  C prog 124 #[P (S ⟨B,0,N⟩),I J i] w λe w' =>e=R (T #[I J (Cl L i),I U (Fk L i),.bool true])/\Drew w w' :=by
 have e:Fj L=idx L 9223372036854775808:=rfl;have⟨K,F⟩:=idx_bd L 9223372036854775808 (by omega) (by omega) A;rw[<-e]at K F;obtain⟨G,D⟩:1<=i/\i<=Fj L:=by unfold GW at hi;simpa using hi
 have O:=Zh e;have⟨Y,Z⟩:=J1 L A;have H:=Zh (XM L i A G D);have M:=Zh (XN L i A G D F);clear e hi;go_enter func124,ntmps124;go_wp2_with fail;refine(index_yes _ _ _ _ (by omega) (by omega) A X).mono ?_;rintro e w' ⟨rfl,n,rfl⟩;rw[<-O.out];go_wp2;go_quiet(fail);go_wp2;rw[H.out,M.out];go_ret3;exact⟨rfl,⟨n+nq,by rw[W.drewN_drewN]⟩⟩
theorem Tp(L i)(X:L<=14)(hi:GW L i=true):Cl L i<=63-L/\1<=Fk L i/\FY L i=Fk L i*2^Cl L i/\1<=FY L i/\FY L i<=9223372036854775808/\(1:Int)<=2^Cl L i/\(2:Int)^Cl L i<=9223372036854775808:=by
 obtain⟨m,f⟩:1<=i/\i<=Fj L:=by unfold GW at hi;simpa using hi
 have⟨p,s⟩:=J1 L X;have K:=JQ L i X m f;have A:FY L i=Fk L i*2^Cl L i:=by unfold FY;rw[hi];rfl
 have k:Cl L i<=63-L:=by
  rcases K with⟨_,c,_,_⟩|⟨_,c,_,Y,_⟩<;>omega
 have O:1<=Fk L i:=by
  rcases K with⟨_,_,r,_⟩|⟨_,_,_,_,g,j,_⟩<;>omega
 have M:(1:Int)<=2^Cl L i:=by rw[pow_cast];have:=ig (n:=Cl L i);omega
 have Z:(2:Int)^Cl L i<=9223372036854775808:=by
  rw[pow_cast];have:2^Cl L i<=2^63:=Pa (by decide) (by omega);omega
 have H:1<=FY L i:=by
  rw[A];have:=gV O M (by omega) (by omega);omega
 refine⟨k,O,A,H,?_,M,Z⟩;rw[A];have l:(2:Int)^L*2^(63-L)=9223372036854775808:=by
  rw[<-ii,show L+(63-L)=63 from by omega];rfl
 have b:Fk L i<=2^L/\Cl L i<=63-L\/Fk L i<=2*2^L/\Cl L i+1<=63-L:=by
  rcases K with⟨_,c,r,_⟩|⟨_,c,_,Y,g,j,d⟩
  ·left;omega
  ·by_cases h:i/2^L=64-L
   ·left;have:=d h;omega
   ·right;omega
 rcases b with⟨D,F⟩|⟨D,F⟩
 ·have G:(2:Int)^Cl L i<=2^(63-L):=by
   rw[pow_cast,pow_cast];have:2^Cl L i<=2^(63-L):=Pa (by decide) F;omega
  have:=gV D G (by omega) (by omega);omega
 ·have G:2*(2:Int)^Cl L i<=2^(63-L):=by
   rw[pow_cast,pow_cast];have:2^(Cl L i+1)<=2^(63-L):=Pa (by decide) F;rw[fk]at this;omega
  have o:=gV D (il (2^Cl L i)) (by omega) (by omega);have q:=gV (il (2^L)) G (by omega) (by omega);have e:2*2^L*(2:Int)^Cl L i=2^L*(2*2^Cl L i):=by rw[iC 2,Int.mul_assoc]
  omega
theorem XO(B L:Nat)(i:Int)(w)(F:L<=14)(G:w.cell? ⟨B,1,N⟩=S (I J L))(hi:GW L i=false):
  C prog 113 #[P (S ⟨B,0,N⟩),I J i] w λe w' =>e=R (T #[I U (FY L i),I U (FF L i)])/\Drew w w' :=by
 have A:FY L i=0:=by unfold FY;rw[hi];rfl
 have D:FF L i=0:=by unfold FF;rw[hi];rfl
 rw[A,D];clear A D;go_enter func113,ntmps113;go_wp2_with fail;refine(XL _ _ _ _ F G hi).mono ?_;rintro e w' ⟨rfl,n,rfl⟩;go_wp2;go_ret2;exact⟨rfl,Drew.of _ _⟩
theorem Up(B L:Nat)(i:Int)(w)(D:L<=14)(G:w.cell? ⟨B,1,N⟩=S (I J L))(hi:GW L i=true):
  C prog 113 #[P (S ⟨B,0,N⟩),I J i] w λe w' =>e=R (T #[I U (FY L i),I U (FF L i)])/\Drew w w' :=by
 obtain⟨H,Y,A,X,K,M,O⟩:=Tp L i D hi;have f1:U.wrap (Fk L i*2^Cl L i)=FY L i:=by rw[<-A,aw];omega
 have Z:U.wrap (2^Cl L i)=2^Cl L i:=by rw[aw];omega
 have F:=Zh (show min (FY L i+(2^Cl L i-1)) 9223372036854775808=FF L i by unfold FF;rw[hi];rfl);clear A;go_enter func113,ntmps113;go_wp2_with fail;refine(Uo _ _ _ _ D G hi).mono ?_;rintro e w' ⟨rfl,n,rfl⟩;go_wp2;go_quiet(fail);go_wp2;rw[F.out];go_ret2;exact⟨rfl,⟨n+nq,by rw[W.drewN_drewN]⟩⟩
theorem Uq(B L:Nat)(i:Int)(w)(A:L<=14)(D:w.cell? ⟨B,1,N⟩=S (I J L)):
  C prog 113 #[P (S ⟨B,0,N⟩),I J i] w λe w' =>e=R (T #[I U (FY L i),I U (FF L i)])/\Drew w w' :=by
 cases hi:GW L i
 ·exact XO B L i w A D hi
 ·exact Up B L i w A D hi
theorem aJ(L i)(A:L<=14):0<=FY L i/\FY L i<=FF L i/\FF L i<=9223372036854775808:=by
 cases hi:GW L i
 ·have H:FY L i=0:=by unfold FY;rw[hi];rfl
  have D:FF L i=0:=by unfold FF;rw[hi];rfl
  omega
 ·obtain⟨G,X,Y,O,K,M,F⟩:=Tp L i A hi;have D:FF L i=min (FY L i+(2^Cl L i-1)) 9223372036854775808:=by unfold FF;rw[hi];rfl
  omega
theorem rep_any(B L:Nat)(i:Int)(w)(A:L<=14)(D:w.cell? ⟨B,1,N⟩=S (I J L)):
  C prog 92 #[P (S ⟨B,0,N⟩),I J i] w λe w' =>e=R (I U (repS L i))/\Drew w w' :=by
 have⟨a1,a2,a3⟩:=aJ L i A;go_enter func92,ntmps92;go_wp2_with(go_at_call 113;refine(Uq _ _ _ _ A D).mono ?_;rintro e w' ⟨rfl,n,rfl⟩);go_ret;exact⟨ret_int rfl,Drew.of _ _⟩
structure Tens(w:W):Prop where
 c0:w.cell? ⟨0,0,N⟩=S (I U 1)
 c1:w.cell? ⟨0,1,N⟩=S (I U 10)
 c2:w.cell? ⟨0,2,N⟩=S (I U 100)
 c3:w.cell? ⟨0,3,N⟩=S (I U 1000)
 c4:w.cell? ⟨0,4,N⟩=S (I U 10000)
def ten(d:Nat):Int:=10^d
theorem Tens.at{w}(h:Tens w)(d)(A:d<=4):w.cell? ⟨0,d,N⟩=S (I U (ten d)):=by
 rcases(show d=0\/d=1\/d=2\/d=3\/d=4 by omega)with rfl|rfl|rfl|rfl|rfl
 ·exact h.c0
 ·exact h.c1
 ·exact h.c2
 ·exact h.c3
 ·exact h.c4
theorem Tens.lt{w}(h:Tens w):0<w.heap.size:=W.block_lt_of_cell? w _ h.c0
theorem Tens.next{w w'}(h:Tens w)(A:B w.heap.size w w'):Tens w' :=
 ⟨by rw[A.cell (p:=⟨0,0,N⟩) h.lt];exact h.c0,by rw[A.cell (p:=⟨0,1,N⟩) h.lt];exact h.c1,by rw[A.cell (p:=⟨0,2,N⟩) h.lt];exact h.c2,
  by rw[A.cell (p:=⟨0,3,N⟩) h.lt];exact h.c3,by rw[A.cell (p:=⟨0,4,N⟩) h.lt];exact h.c4⟩
theorem Tens.drewN{w}(h:Tens w)(n):Tens (w.drewN n):=
 ⟨by simpa using h.c0,by simpa using h.c1,by simpa using h.c2,by simpa using h.c3,by simpa using h.c4⟩
def logD(d:Nat):Nat:=if d=1 then 4 else if d=2 then 7 else if d=3 then 10 else 14
theorem logD_le(d):4<=logD d/\logD d<=14:=by unfold logD;split<;>(try split)<;>(try split)<;>omega
theorem ten_log(d k)(D:1<=d)(G:d<=4)(F:k<=logD d):decide ((2:Int)^k<ten d)=decide (k<logD d):=by
 have A:∀d:Fin 5,∀k:Fin 15,1<=d.val->k.val<=logD d.val->decide ((2:Int)^k.val<ten d.val)=decide (k.val<logD d.val):=by decide+kernel
 have:=logD_le d;exact A ⟨d,by omega⟩ ⟨k,by omega⟩ D F
structure Sp(w0:W)(B:Nat)(d L:Nat)(w:W):Prop where
 c0:w.cell? ⟨B,0,N⟩=S (I J d)
 c1:w.cell? ⟨B,1,N⟩=S (I J L)
 tens:Tens w
 below:Below w0.heap.size w0 w
 lt:B<w.heap.size
 ge:w0.heap.size<=B
theorem Sp.next{D w w' B d L}(h:Sp D B d L w)(A:Below w.heap.size w w'):Sp D B d L w' :=
 ⟨by rw[A.cell (p:=⟨B,0,N⟩) h.lt];exact h.c0,by rw[A.cell (p:=⟨B,1,N⟩) h.lt];exact h.c1,h.tens.next A,h.below.trans (A.mono h.below.size),iA h.lt A.size,h.ge⟩
theorem Drew.below{w w'}(h:Drew w w'):B w.heap.size w w' :=by obtain⟨n,rfl⟩:=h;exact below_drewN (B.refl _ _) _
theorem Sp.put{A w B d k}(h:Sp A B d k w)(F:0<B):Sp A B d (k+1) (w.setCell ⟨B,1,N⟩ (I J ((k:Int)+1))):=by
 have D:(0:Nat)≠B:=by omega
 exact⟨by simp[go_sem,h.c0],by simp[go_sem,h.c1],⟨by simp[go_sem,h.tens.c0],by simp[go_sem,h.tens.c1],by simp[go_sem,h.tens.c2],by simp[go_sem,h.tens.c3],by simp[go_sem,h.tens.c4]⟩,h.below.setCell h.ge _,by simpa using h.lt,h.ge⟩
theorem new_bad(d w)(h:d<1\/4<d):
  C prog 65 #[I J d] w λe w' =>e=R (T #[P N,I J 1])/\w=w' :=by
 rcases h with h|h
 ·go_enter func65,ntmps65;go_wp2;go_ret2;exact⟨rfl,rfl⟩
 ·go_enter func65,ntmps65;go_wp2;go_ret2;exact⟨rfl,rfl⟩
theorem new_good(d:Nat)(w)(M:1<=d)(D:d<=4)(G:Tens w):
  C prog 65 #[I J d] w λe w' =>e=R (T #[P (S ⟨w.heap.size,0,N⟩),I J 0])/\Sp w w.heap.size d (logD d) w' :=by
 have⟨l,i⟩:=logD_le d;have O:=G.lt;go_enter func65,ntmps65;go_wp2;go_loopw [17] (λ_ wr=>∃k:Nat,k<=logD d/\Sp w w.heap.size d k wr/\wr.frozen? ⟨w.heap.size,1,N⟩=false) (λ_ wr=>logD d-(RowKit.intOf ((wr.cell? ⟨w.heap.size,1,N⟩).getD (I J 0))).toNat);case atStart=>
  refine⟨0,by omega,⟨by simp,by simp,?_,Za,by simp,E _⟩,by simp⟩;exact G.next (Za)
 case round=>
  obtain⟨k,K,H,f⟩:=hrel;have b:=H.c1;have c:=H.tens.at d D;have Y:=H.lt;have m:U.wrap (2^k)=2^k:=by
   have Z:2^k<=2^14:=Pa (by decide) (by omega);have j:(0:Int)<=((2^k:Nat):Int):=Int.natCast_nonneg _;rw[aw,pow_cast];omega
  by_cases A:k<logD d
  ·have h:decide ((2:Int)^k<ten d)=true:=by rw[ten_log d k M D K];simp[A]
   go_wp2_with fail;go_quiet(fail);go_wp2;have X:Sp w w.heap.size d k (wr.drewN nq):=H.next (below_drewN (B.refl _ _) _);have g:(wr.cell? ⟨w.heap.size,1,N⟩).getD (I J 0)=I J k:=by rw[b];rfl
   have F:(((wr.drewN nq).setCell ⟨w.heap.size,1,N⟩ (I J ((k:Int)+1))).cell? ⟨w.heap.size,1,N⟩).getD (I J 0)=I J ((k+1:Nat):Int):=by rw[(X.put O).c1];rfl
   refine⟨⟨k+1,by omega,X.put O,?_⟩,?_⟩
   ·rw[W.frozen?_setCell];simpa using f
   ·rw[g,F];simp[RowKit.intOf];omega
  ·have h:decide ((2:Int)^k<ten d)=false:=by rw[ten_log d k M D K];simp[A]
   obtain rfl:k=logD d:=by omega
   go_wp2_with fail;go_quiet(fail);go_wp2;go_ret2;exact⟨rfl,H.next (below_drewN (B.refl _ _) _)⟩
end Go.Proofs.YtbejdajkkoapgaaGreatDoor.Sp
namespace Go.Proofs.YtbejdajkkoapgaaGreatDoor.Wd
open Sp (Drew)
theorem XP(y:Nat)(w)(h:y<18446744073709551616):
  C prog 135 #[I U y] w λe w' =>e=R (I J ((64-Lib.bitLen y:Nat):Int))/\w=w' :=by
 have A:=Lib.bitLen_le y 64 (by decide) (by simpa using h);have e:(((y:Int)).toNat)=y:=by omega
 go_enter func135,ntmps135;go_wp2_with(go_at_call 144;refine(Mq _ _ (by omega) (by omega)).mono ?_;rintro e w' ⟨rfl,rfl⟩);go_ret;exact⟨Sp.ret_int (by omega),rfl⟩
set_option maxRecDepth 100000 in
theorem Ur(hi lo y:Nat)(w)(h1:hi<y)(h2:y<18446744073709551616)(h3:lo<18446744073709551616):
  C prog 128 #[I U hi,I U lo,I U y] w λe w' =>e=R (.tuple #[I U (((hi*18446744073709551616+lo)/y:Nat):Int),I U (((hi*18446744073709551616+lo) % y:Nat):Int)])/\Drew w w' :=by
 have C8:¬((y:Int)=0):=by omega
 have C4:¬((y:Int)<=(hi:Int)):=by omega
 by_cases k:hi=0
 ·subst k;go_enter func128,ntmps128;go_wp2;go_quiet(fail);go_wp2;go_ret2;refine⟨?_,Sp.Drew.of _ _⟩;have q1:lo/y<=lo:=ie _ _;have q2:U.wrap ((lo:Int)/(y:Int))=((lo/y:Nat):Int):=by rw[<-es];exact wrapN _ (gU q1 h3)
  have q3:((lo:Int) % (y:Int))=((lo % y:Nat):Int):=(Int.natCast_emod lo y).symm;rw[q2,q3,Nat.zero_mul,fj];rfl
 ·have A6 :¬((hi:Int)=0):=by omega
  obtain⟨s,hs⟩:∃s,s=64-Lib.bitLen y:=⟨_,rfl⟩;have B9:=Sp.bitLen_lo y (by omega) (by simpa using h2);have Bt:=Sp.bitLen_hi y (by simpa using h2);have Ck:=Sp.bitLen_pos y (by omega) (by simpa using h2);have C1:=Lib.bitLen_le y 64 (by decide) (by simpa using h2);have Ba:s<=63:=by omega
  have f:=λw=>XP y w h2;rw[<-hs]at f;obtain⟨Y,hY⟩:∃Y,Y=y*2^s:=⟨_,rfl⟩;have Y1:9223372036854775808<=Y:=by
   have:2^(Lib.bitLen y-1)*2^s<=Y:=by rw[hY];exact gj _ B9
   rw[<-V0,show Lib.bitLen y-1+s=63 from by omega]at this;omega
  have Y2:Y<18446744073709551616:=by
   have:Y<2^Lib.bitLen y*2^s:=by rw[hY];exact Nat.mul_lt_mul_of_pos_right Bt (ag _)
   rw[<-V0,show Lib.bitLen y+s=64 from by omega]at this;omega
  have HS:=Zh hs;have Al:=Zh hY;have fY:U.wrap ((y:Int)*2^s)=(Y:Int):=by
   rw[Sp.pow_cast,IC,<-hY];exact wrapN Y Y2
  obtain⟨H,hH⟩:∃H,H=hi*2^s:=⟨_,rfl⟩;have H2:H+2^s<=Y:=by
   rw[hH,hY];have:(hi+1)*2^s<=y*2^s:=gj _ h1;rw[fx]at this;omega
  have fH:U.wrap ((hi:Int)*2^s)=(H:Int):=by
   rw[Sp.pow_cast,IC,<-hH];exact wrapN H (gU (gg (Nat.le_add_right _ _) H2) Y2)
  obtain⟨l,hl⟩:∃l,l=lo/2^(64-s):=⟨_,rfl⟩;have l2:l<2^s:=by
   rw[hl,fw (ag _),<-V0,show s+(64-s)=64 from by omega];simpa using h3
  have fl:(lo:Int)/2^(64-s)=(l:Int):=by rw[Sp.pow_cast,<-es,<-hl]
  obtain⟨u,hu⟩:∃u,u=H+l:=⟨_,rfl⟩;have fu:bits .or U H (l:Int)=(u:Int):=by
   rw[bits_or_u64_nat H l (by omega) (by omega),hu,hH];congr 1;rw[gT hi];exact(gu l2 hi).symm
  obtain⟨L,hL⟩:∃L,L=lo*2^s % 18446744073709551616:=⟨_,rfl⟩;have L2:L<18446744073709551616:=by omega
  have fL:U.wrap ((lo:Int)*2^s)=(L:Int):=by rw[Sp.pow_cast,IC,Jn,<-hL]
  obtain⟨K,A3⟩:∃K,K=Y/4294967296:=⟨_,rfl⟩;obtain⟨X,A2⟩:∃X,X=Y % 4294967296:=⟨_,rfl⟩;obtain⟨u1,B3⟩:∃u1,u1=L/4294967296:=⟨_,rfl⟩;obtain⟨u0,Bu⟩:∃u0,u0=L % 4294967296:=⟨_,rfl⟩;have B4:(Y:Int)/4294967296=(K:Int):=by rw[cS,<-A3]
  have BR:bits .and U Y 4294967295=(X:Int):=by rw[Pi Y Y2,<-A2]
  have BQ:(L:Int)/4294967296=(u1:Int):=by rw[cS,<-B3]
  have Bw:bits .and U L 4294967295=(u0:Int):=by rw[Pi L L2,<-Bu]
  have b1:2147483648<=K:=by omega
  have b2:K<4294967296:=by omega
  have b3:X<4294967296:=by omega
  have b4:u1<4294967296:=by omega
  have b5:u0<4294967296:=by omega
  have eY:K*4294967296+X=Y:=by omega
  have i:u<K*4294967296+X:=by omega
  have N0:=Zh (show u*4294967296+u1=(hi*18446744073709551616+lo)*2^s/4294967296/\(u*4294967296+u1)*4294967296+u0=(hi*18446744073709551616+lo)*2^s by
   have e1:lo*2^s=l*18446744073709551616+L:=by
    have d:=iY (lo*2^s) 18446744073709551616;have:lo*2^s/18446744073709551616=l:=by
     rw[hl,show(18446744073709551616:Nat)=2^(64-s)*2^s from by rw[<-V0,show 64-s+s=64 from by omega]];exact iZ _ _ (ag _)
    rw[this,<-hL]at d;omega
   have e2:(hi*18446744073709551616+lo)*2^s=H*18446744073709551616+lo*2^s:=by rw[fx,hH,Nat.mul_right_comm]
   rw[e2,e1];omega)
  clear hH hl hL hu A3 A2 B3 Bu B9 Bt Ck C1 hs hY;have A5:¬((K:Int)=0):=by omega
  obtain⟨q,hq⟩:∃q,q=u/K:=⟨_,rfl⟩;obtain⟨r,hr⟩:∃r,r=u-q*K:=⟨_,rfl⟩;have qu:q*K<=u:=by rw[hq];exact fp _ _
  have Ab:q<=4294967297:=by rw[hq];exact Jy u K X b1 b3 i
  have hG:=Jw u u1 K X b1 b4;rw[<-hq,<-hr]at hG;have Ax:r<K:=by rw[hr,hq];have:=dT u (show K>0 by omega);rw[ej]at this;exact this
  have fq:U.wrap ((u:Int)/(K:Int))=(q:Int):=by
   rw[<-es,<-hq];exact wrapN q (by omega)
  have A0:U.wrap ((q:Int)*(K:Int))=((q*K:Nat):Int):=by rw[IC];exact wrapN _ (by omega)
  have fr:U.wrap ((u:Int)-((q*K:Nat):Int))=(r:Int):=by
   rw[show(u:Int)-((q*K:Nat):Int)=(r:Int)from by omega];exact wrapN r (by omega)
  clear hq hr;have Cr:((K:Int)==0)=false:=by simp;omega
  obtain⟨Q,hQ⟩:∃Q,Q=(u*4294967296+u1)/(K*4294967296+X):=⟨_,rfl⟩;have HQ:=Zh hQ;clear hQ;have HG:=Zh hG;clear hG;go_enter func128,ntmps128;go_upto_block 0 with(go_at_call 135;refine(f _).mono ?_;rintro e w' ⟨rfl,rfl⟩);go_cut [15,16]from 67 to 85 (λx _ wx=>x=I U (Q:Nat)/\wx=w);case first=>
   go_wp2_with fail;go_loopg [15,16] q (λg x z wr=>∃q r:Nat,q<=g/\x=I U q/\z=I U r/\q<=4294967297/\r<4294967296/\Kv u u1 K X q r/\wr=w);case atStart=>
    have e:(u:Int)-(q:Int)*(K:Int)=(r:Int):=by
     have:=HG.out.eq;rw[IC];omega
    exact⟨q,r,E _,rfl,congrArg (I U) e,Ab,by omega,HG.out,rfl⟩
   case round=>
    clear fY fH fl fu fL B4 BR BQ Bw fq A0 fr Ax qu Ab HG;obtain⟨q,r,Cs,rfl,rfl,p,c,G,rfl⟩:=hrel;have C0:=Zh G;clear f Ba HS Al H2 l2 L2 eY N0 h1 h2 h3 k A6 Y1 Y2 A5;by_cases ht:4294967296<=q\/4294967296*r+u1<q*X
    ·obtain⟨Aw,G'⟩:=Kw G b1 b4 i ht;clear G;obtain⟨b,Av⟩:∃b,b =q-1:=⟨_,rfl⟩;obtain⟨M,Ac⟩:∃M,M =r+K:=⟨_,rfl⟩;rw[<-Av,<-Ac]at G';have Ap:=Zh G';have m1:b <=4294967296:=by omega
     have m2:b <q:=by omega
     have f1:U.wrap ((q:Int)-1)=(b :Int):=by rw[show(q:Int)-1=(b :Int)from by omega];exact wrapN b (by omega)
     have f2:U.wrap ((r:Int)+(K:Int))=(M :Int):=by rw[show(r:Int)+(K:Int)=(M :Int)from by omega];exact wrapN M (by omega)
     have O:4294967296<=M ->b =Q:=λh=>(Jz G' b1 m1 b3 h).trans HQ.out.symm;clear G' Av Ac;have Z:=Zh O;clear O;by_cases j:4294967296<=q
     ·have g1:(4294967296:Int)<=(q:Int):=by omega
      have Ar:decide ((4294967296:Int)<=(q:Int))=true:=by simp;omega
      clear ht p c i b3 b4 j;by_cases AA:4294967296<=M
      ·have g2:(4294967296:Int)<=(M :Int):=by omega
       have m:decide ((4294967296:Int)<=(M :Int))=true:=by simp;omega
       go_wp2_with fail;go_meet;exact⟨congrArg (λn:Nat=>I U n) (Z.out AA),rfl⟩
      ·have g2:¬(4294967296:Int)<=(M :Int):=by omega
       have m:decide ((4294967296:Int)<=(M :Int))=false:=by simp;omega
       go_wp2_with fail;go_roundg b;case measure=>omega
       case rel=>exact⟨b,M,E _,rfl,rfl,by omega,by omega,Ap.out,rfl⟩
     ·have g1:¬(4294967296:Int)<=(q:Int):=by omega
      have Ar:decide ((4294967296:Int)<=(q:Int))=false:=by simp;omega
      have v:q*X<=4294967295*4294967295:=fy (by omega) (by omega);obtain⟨z,k⟩:∃z,z=q*X:=⟨_,rfl⟩;obtain⟨x,hx⟩:∃x,x=4294967296*r+u1:=⟨_,rfl⟩;have p1:U.wrap ((q:Int)*(X:Int))=(z:Int):=by rw[IC,k];exact wrapN _ (by omega)
      have p2:U.wrap (4294967296*(r:Int))=4294967296*(r:Int):=by rw[show 4294967296*(r:Int)=((4294967296*r:Nat):Int)from by omega];exact wrapN _ (by omega)
      have p3:U.wrap (4294967296*(r:Int)+(u1:Int))=(x:Int):=by rw[show 4294967296*(r:Int)+(u1:Int)=(x:Int)from by omega];exact wrapN _ (by omega)
      have g3:(x:Int)<(z:Int):=by omega
      have A8:decide ((x:Int)<(z:Int))=true:=by simp;omega
      clear ht p c i b3 b4 j v k hx;by_cases AA:4294967296<=M
      ·have g2:(4294967296:Int)<=(M :Int):=by omega
       have m:decide ((4294967296:Int)<=(M :Int))=true:=by simp;omega
       go_wp2_with fail;go_meet;exact⟨congrArg (λn:Nat=>I U n) (Z.out AA),rfl⟩
      ·have g2:¬(4294967296:Int)<=(M :Int):=by omega
       have m:decide ((4294967296:Int)<=(M :Int))=false:=by simp;omega
       go_wp2_with fail;go_roundg b;case measure=>omega
       case rel=>exact⟨b,M,E _,rfl,rfl,by omega,by omega,Ap.out,rfl⟩
    ·have A4:q<4294967296:=by omega
     have O:q=Q:=(JP G b1 (by omega)).trans HQ.out.symm;have Z:=Zh O;clear O G;have g1:¬(4294967296:Int)<=(q:Int):=by omega
     have Ar:decide ((4294967296:Int)<=(q:Int))=false:=by simp;omega
     have v:q*X<=4294967295*4294967295:=fy (by omega) (by omega);obtain⟨z,k⟩:∃z,z=q*X:=⟨_,rfl⟩;obtain⟨x,hx⟩:∃x,x=4294967296*r+u1:=⟨_,rfl⟩;have p1:U.wrap ((q:Int)*(X:Int))=(z:Int):=by rw[IC,k];exact wrapN _ (by omega)
     have p2:U.wrap (4294967296*(r:Int))=4294967296*(r:Int):=by rw[show 4294967296*(r:Int)=((4294967296*r:Nat):Int)from by omega];exact wrapN _ (by omega)
     have p3:U.wrap (4294967296*(r:Int)+(u1:Int))=(x:Int):=by rw[show 4294967296*(r:Int)+(u1:Int)=(x:Int)from by omega];exact wrapN _ (by omega)
     have g3:¬(x:Int)<(z:Int):=by omega
     have A8:decide ((x:Int)<(z:Int))=false:=by simp;omega
     clear ht p c i b3 b4 A4 v k hx;go_wp2_with fail;go_meet;exact⟨congrArg (λn:Nat=>I U n) Z.out,rfl⟩
  case rest=>
   obtain⟨rfl,rfl⟩:=hcut;have Aw:Q<=4294967295:=by rw[HQ.out];exact Kb u u1 K X b1 b4 i
   have Ay:Q*Y<=u*4294967296+u1:=by rw[HQ.out,eY];exact fp _ _
   obtain⟨t,ht⟩:∃t,t=u*4294967296+u1-Q*Y:=⟨_,rfl⟩;have o:t<K*4294967296+X:=by
    have:=dT (u*4294967296+u1) (show Y>0 by omega);rw[ej]at this;rw[ht,eY,HQ.out,eY];exact this
   have HT:=Zh ht;obtain⟨a1,A9⟩:∃a,a=u*4294967296 % 18446744073709551616:=⟨_,rfl⟩;obtain⟨a2,B5⟩:∃a,a=(a1+u1) % 18446744073709551616:=⟨_,rfl⟩;obtain⟨a3,BX⟩:∃a,a=Q*Y % 18446744073709551616:=⟨_,rfl⟩;have e1:U.wrap ((u:Int)*4294967296)=(a1:Int):=by rw[show(u:Int)*4294967296=((u*4294967296:Nat):Int)from by omega,Jn,A9]
   have e2:U.wrap ((a1:Int)+(u1:Int))=(a2:Int):=by rw[show(a1:Int)+(u1:Int)=((a1+u1:Nat):Int)from by omega,Jn,B5]
   have e3:U.wrap ((Q:Int)*(Y:Int))=(a3:Int):=by rw[IC,Jn,BX]
   have e4:U.wrap ((a2:Int)-(a3:Int))=(t:Int):=by
    rw[aw];generalize Q*Y=P at*;omega
   obtain⟨q,hq⟩:∃q,q=t/K:=⟨_,rfl⟩;obtain⟨r,hr⟩:∃r,r=t-q*K:=⟨_,rfl⟩;have qu:q*K<=t:=by rw[hq];exact fp _ _
   have Ab:q<=4294967297:=by rw[hq];exact Jy t K X b1 b3 o
   have hG:=Jw t u0 K X b1 b5;rw[<-hq,<-hr]at hG;have Ax:r<K:=by rw[hr,hq];have:=dT t (show K>0 by omega);rw[ej]at this;exact this
   have fq:U.wrap ((t:Int)/(K:Int))=(q:Int):=by
    rw[<-es,<-hq];exact wrapN q (by omega)
   have A0:U.wrap ((q:Int)*(K:Int))=((q*K:Nat):Int):=by rw[IC];exact wrapN _ (by omega)
   have fr:U.wrap ((t:Int)-((q*K:Nat):Int))=(r:Int):=by
    rw[show(t:Int)-((q*K:Nat):Int)=(r:Int)from by omega];exact wrapN r (by omega)
   obtain⟨Q2,BA⟩:∃Q,Q=(t*4294967296+u0)/(K*4294967296+X):=⟨_,rfl⟩;have Aa:=Zh BA;have A1:=Zh hG;have B1:=Zh (show Q*Y<=u*4294967296+u1 from Ay);clear BA hG hq hr ht A9 B5 BX Ay fY fH fl fu fL B4 BR BQ Bw f HG H2 l2 L2 Aw;go_upto_block 2 with fail;go_cut [18,16]from 102 to 120 (λx _ wx=>x=I U (Q2:Nat)/\wx=wc);case first=>
    go_wp2_with fail;go_loopg [18,16] q (λg x z wr=>∃q r:Nat,q<=g/\x=I U q/\z=I U r/\q<=4294967297/\r<4294967296/\Kv t u0 K X q r/\wr=wc);case atStart=>
     have e:(t:Int)-(q:Int)*(K:Int)=(r:Int):=by
      have:=A1.out.eq;rw[IC];omega
     exact⟨q,r,E _,rfl,congrArg (I U) e,Ab,by omega,A1.out,rfl⟩
    case round=>
     clear fq A0 fr Ax qu Ab A1 e1 e2 e3 e4;obtain⟨q,r,Cs,rfl,rfl,p,c,G,rfl⟩:=hrel;have C0:=Zh G;clear Ba HS Al N0 h1 h2 h3 k A6 Y1 Y2 A5 eY HT HQ B1;by_cases ht:4294967296<=q\/4294967296*r+u0<q*X
     ·obtain⟨Aw,G'⟩:=Kw G b1 b5 o ht;clear G;obtain⟨b,Av⟩:∃b,b =q-1:=⟨_,rfl⟩;obtain⟨M,Ac⟩:∃M,M =r+K:=⟨_,rfl⟩;rw[<-Av,<-Ac]at G';have Ap:=Zh G';have m1:b <=4294967296:=by omega
      have m2:b <q:=by omega
      have f1:U.wrap ((q:Int)-1)=(b :Int):=by rw[show(q:Int)-1=(b :Int)from by omega];exact wrapN b (by omega)
      have f2:U.wrap ((r:Int)+(K:Int))=(M :Int):=by rw[show(r:Int)+(K:Int)=(M :Int)from by omega];exact wrapN M (by omega)
      have O:4294967296<=M ->b =Q2:=λh=>(Jz G' b1 m1 b3 h).trans Aa.out.symm;clear G' Av Ac;have Z:=Zh O;clear O;by_cases j:4294967296<=q
      ·have g1:(4294967296:Int)<=(q:Int):=by omega
       have Ar:decide ((4294967296:Int)<=(q:Int))=true:=by simp;omega
       clear ht p c o b3 b5 j;by_cases AA:4294967296<=M
       ·have g2:(4294967296:Int)<=(M :Int):=by omega
        have m:decide ((4294967296:Int)<=(M :Int))=true:=by simp;omega
        go_wp2_with fail;go_meet;exact⟨congrArg (λn:Nat=>I U n) (Z.out AA),rfl⟩
       ·have g2:¬(4294967296:Int)<=(M :Int):=by omega
        have m:decide ((4294967296:Int)<=(M :Int))=false:=by simp;omega
        go_wp2_with fail;go_roundg b;case measure=>omega
        case rel=>exact⟨b,M,E _,rfl,rfl,by omega,by omega,Ap.out,rfl⟩
      ·have g1:¬(4294967296:Int)<=(q:Int):=by omega
       have Ar:decide ((4294967296:Int)<=(q:Int))=false:=by simp;omega
       have v:q*X<=4294967295*4294967295:=fy (by omega) (by omega);obtain⟨z,k⟩:∃z,z=q*X:=⟨_,rfl⟩;obtain⟨x,hx⟩:∃x,x=4294967296*r+u0:=⟨_,rfl⟩;have p1:U.wrap ((q:Int)*(X:Int))=(z:Int):=by rw[IC,k];exact wrapN _ (by omega)
       have p2:U.wrap (4294967296*(r:Int))=4294967296*(r:Int):=by rw[show 4294967296*(r:Int)=((4294967296*r:Nat):Int)from by omega];exact wrapN _ (by omega)
       have p3:U.wrap (4294967296*(r:Int)+(u0:Int))=(x:Int):=by rw[show 4294967296*(r:Int)+(u0:Int)=(x:Int)from by omega];exact wrapN _ (by omega)
       have g3:(x:Int)<(z:Int):=by omega
       have A8:decide ((x:Int)<(z:Int))=true:=by simp;omega
       clear ht p c o b3 b5 j v k hx;by_cases AA:4294967296<=M
       ·have g2:(4294967296:Int)<=(M :Int):=by omega
        have m:decide ((4294967296:Int)<=(M :Int))=true:=by simp;omega
        go_wp2_with fail;go_meet;exact⟨congrArg (λn:Nat=>I U n) (Z.out AA),rfl⟩
       ·have g2:¬(4294967296:Int)<=(M :Int):=by omega
        have m:decide ((4294967296:Int)<=(M :Int))=false:=by simp;omega
        go_wp2_with fail;go_roundg b;case measure=>omega
        case rel=>exact⟨b,M,E _,rfl,rfl,by omega,by omega,Ap.out,rfl⟩
     ·have A4:q<4294967296:=by omega
      have O:q=Q2:=(JP G b1 (by omega)).trans Aa.out.symm;have Z:=Zh O;clear O G;have g1:¬(4294967296:Int)<=(q:Int):=by omega
      have Ar:decide ((4294967296:Int)<=(q:Int))=false:=by simp;omega
      have v:q*X<=4294967295*4294967295:=fy (by omega) (by omega);obtain⟨z,k⟩:∃z,z=q*X:=⟨_,rfl⟩;obtain⟨x,hx⟩:∃x,x=4294967296*r+u0:=⟨_,rfl⟩;have p1:U.wrap ((q:Int)*(X:Int))=(z:Int):=by rw[IC,k];exact wrapN _ (by omega)
      have p2:U.wrap (4294967296*(r:Int))=4294967296*(r:Int):=by rw[show 4294967296*(r:Int)=((4294967296*r:Nat):Int)from by omega];exact wrapN _ (by omega)
      have p3:U.wrap (4294967296*(r:Int)+(u0:Int))=(x:Int):=by rw[show 4294967296*(r:Int)+(u0:Int)=(x:Int)from by omega];exact wrapN _ (by omega)
      have g3:¬(x:Int)<(z:Int):=by omega
      have A8:decide ((x:Int)<(z:Int))=false:=by simp;omega
      clear ht p c o b3 b5 A4 v k hx;go_wp2_with fail;go_meet;exact⟨congrArg (λn:Nat=>I U n) Z.out,rfl⟩
   case rest=>
    obtain⟨rfl,rfl⟩:=hcut;have Aw:Q<=4294967295:=by rw[HQ.out];exact Kb u u1 K X b1 b4 i
    have Cp:Q2<=4294967295:=by rw[Aa.out];exact Kb t u0 K X b1 b5 o
    have Ay:Q2*Y<=t*4294967296+u0:=by rw[Aa.out,eY];exact fp _ _
    have D:=R7 u u1 u0 Y (by omega) Q Q2 t (by rw[HQ.out,eY]) HT.out (by rw[Aa.out,eY]);rw[N0.out.2,Al.out,(Mr _ _ _).1]at D;have CL:t*4294967296+u0-Q2*Y<Y:=by
     have:=dT (t*4294967296+u0) (show Y>0 by omega);rw[ej]at this;rw[Aa.out,eY];exact this
    obtain⟨A,hR⟩:∃A,A=t*4294967296+u0-Q2*Y:=⟨_,rfl⟩;obtain⟨F,hV⟩:∃F,F=Q*4294967296+Q2:=⟨_,rfl⟩;have B2:F=(hi*18446744073709551616+lo)/y:=by rw[hV];exact D.1
    have A7:A/2^s=(hi*18446744073709551616+lo) % y:=by
     rw[hR,Al.out,D.2];exact(Mr _ _ _).2
    obtain⟨c2,Bs⟩:∃a,a=t*4294967296 % 18446744073709551616:=⟨_,rfl⟩;obtain⟨c3,B0⟩:∃a,a=(c2+u0) % 18446744073709551616:=⟨_,rfl⟩;obtain⟨c4,Bb⟩:∃a,a=Q2*Y % 18446744073709551616:=⟨_,rfl⟩;have e1:U.wrap ((Q:Int)*4294967296)=(Q:Int)*4294967296:=by rw[show(Q:Int)*4294967296=((Q*4294967296:Nat):Int)from by omega];exact wrapN _ (by omega)
    have e2:U.wrap ((Q:Int)*4294967296+(Q2:Int))=(F:Int):=by rw[show(Q:Int)*4294967296+(Q2:Int)=(F:Int)from by omega];exact wrapN _ (by omega)
    have C3 :(Q:Int)*4294967296+(Q2:Int)=(F:Int):=by omega
    have C2 :U.wrap (F:Int)=(F:Int):=wrapN _ (by omega);have e3:U.wrap ((t:Int)*4294967296)=(c2:Int):=by rw[show(t:Int)*4294967296=((t*4294967296:Nat):Int)from by omega,Jn,Bs]
    have e4:U.wrap ((c2:Int)+(u0:Int))=(c3:Int):=by rw[show(c2:Int)+(u0:Int)=((c2+u0:Nat):Int)from by omega,Jn,B0]
    have e5:U.wrap ((Q2:Int)*(Y:Int))=(c4:Int):=by rw[IC,Jn,Bb]
    have e6:U.wrap ((c3:Int)-(c4:Int))=(A:Int):=by
     rw[aw];generalize Q2*Y=P at*;omega
    obtain⟨T,hT⟩:∃T,T=A/2^s:=⟨_,rfl⟩;have e7:(A:Int)/2^s=(T:Int):=by rw[Sp.pow_cast,<-es,<-hT]
    rw[<-hT]at A7;have HV:=Zh B2;have HR:=Zh A7;clear hT hV B2 hR A7 Bs B0 Bb D Ay CL HQ Aa HT B1 N0 h1 h2 h3 k A6 Y1 Y2 HS Al b1 b2 b3 b4 b5 eY i A5 qu Ab Ax fq A0 fr o Cr A1 Aw Cp;go_wp2;go_ret2;refine⟨?_,Sp.Drew.refl _⟩;rw[<-HV.out,<-HR.out];rfl
end Go.Proofs.YtbejdajkkoapgaaGreatDoor.Wd
