/-
  Lemmas and walks for coreBurst.proved, joined and squeezed by a program out of the loose texts J06, J08, J09, J15. Conditions: each theorem states its own.
-/
import Derived.Test.YtbejdajkkoapgaaGreatDoorU01
import Derived.Test.YtbejdajkkoapgaaGreatDoorU02
import Derived.Laws.Externs
import Derived.Sort.Statements
import Derived.Deep.Quiet
import Derived.BigQuiet
import Derived.Deep.Cut
import Derived.Deep.LoopGhost
import Derived.Lib.Hide
import Derived.StillTail
import Derived.Laws.AppendOwnNone
import Derived.Deep.RegionLaw
set_option linter.all false
open Go.RowKit Go.Lib Go.Proofs.Tryz
open Bool renaming and_eq_true->ag
open Go renaming Calls->C,Value->V,World->W
open Go.Act renaming put->Jx
open Go.Ending renaming returned->R
open Go.IntKind renaming i64->J,u64->U,wrap_u64->bh
open Go.RowKit renaming Below->B
open Go.Value renaming int->I,pointer->P,slice->L,tuple->T
open List renaming filter_cons->Q0,getElem_mem->gQ,length_append->ej,length_cons->gV,length_filter_le->es,length_take->fx,mem_append->gS,mem_cons_of_mem->Pa,mem_cons_self->fw,mem_singleton->gT,take_append_drop->fy,take_length->dT,take_succ_eq_append_getElem->bw
open Nat renaming add_mul->aw,le_refl->E,le_trans->RR,lt_of_le_of_ne->fj,lt_of_lt_of_le->gR,lt_of_not_le->fa,mul_le_mul_right->fp,mul_lt_mul_of_pos_left->fk,zero_add->gU,zero_le->V0
open Option renaming none->N,some->S
namespace Go.Proofs.YtbejdajkkoapgaaGreatDoor
def off(v:Nat)(i:Nat):Bool:=i !=v&&i !=JN v
def rest(l:AL)(v:Nat):AL:=l.filter λx=>off v x.1
def EU(l:AL)(v:Nat):AL:=Ak (rest l v) (v/2) (AP l v+AP l (JN v))
def DR(F:Nat)(l:AL)(v:Nat):Bool:=v !=1&&AP l v !=0&&decide (AP l v+AP l (JN v)+AP l (v/2)<=AB l/F)
theorem Ir(p q:Nat->Bool)(l:AL):Bn p (l.filter λx=>q x.1)=Bn (λi=>p i&&q i) l:=by
 induction l with
 |nil=>rfl
 |cons x l G=>
  rw[Q0];cases D:q x.1
  ·simp only[AQ,D,<-G];simp
  ·simp only[AQ,D,<-G,if_pos];simp[AQ]
theorem Us(p:Nat->Bool)(v u:Nat)(h:v≠u)(l:AL):Bn (λi=>p i&& !(i !=v&&i !=u)) l=(if p v then AP l v else 0)+(if p u then AP l u else 0):=by
 induction l with
 |nil=>simp[Bn,AP]
 |cons x l H=>
  rw[AQ,H];have G:AP (x::l) v=(if x.1=v then x.2 else 0)+AP l v:=by unfold AP;rw[AQ];simp
  have K:AP (x::l) u=(if x.1=u then x.2 else 0)+AP l u:=by unfold AP;rw[AQ];simp
  rw[G,K];by_cases a:x.1=v
  ·subst a;have:¬x.1=u:=h;cases D:p x.1<;>simp[this]<;>omega
  ·by_cases b:x.1=u
   ·subst b;cases D:p x.1<;>simp[a]<;>omega
   ·simp[a,b]
theorem IN(p)(l:AL)(v)(h:JN v≠v):
  Bn p (EU l v)+((if p v then AP l v else 0)+(if p (JN v)then AP l (JN v)else 0))=Bn p l+(if p (v/2)then AP l v+AP l (JN v)else 0):=by
 unfold EU rest;rw[DB,Ir,PZ p (off v) l];have:=Us p v (JN v) (λe=>h e.symm) l;unfold off;omega
theorem MT{l:AL}(q:Nat×Nat->Bool)(h:AT l):AT (l.filter q):=by
 induction l with
 |nil=>trivial
 |cons x l D=>
  obtain⟨K,G⟩:=h;rw[Q0];split
  ·exact⟨λy H=>K y (List.mem_filter.1 H).1,D G⟩
  ·exact D G
theorem Kx(l:AL)(v)(h:JN v≠v):AB (EU l v)=AB l:=by
 have:=IN (λ_=>true) l v h;unfold AB;simp at this;omega
theorem Ky{l:AL}{v}(h:AP l v≠0):(EU l v).length<=l.length:=by
 have H:(EU l v).length<=(rest l v).length+1:=Cb _ _ _;have G:(rest l v).length<l.length:=by
  unfold rest;refine fj (es _ _) λe=> ?_;have:=List.length_filter_eq_length_iff.1 e;refine h (F0 _ _ λx D=> ?_);have:=this x D;unfold off at this;simp at this⊢;exact this.1
 omega
theorem Ut{d F}{l:AL}{vals:AM}(h:Km d F l vals)(v)(p:1<=v)(Q:v<2*2^d)(K:DR F l v=true):Km d F (EU l v) vals:=by
 unfold DR at K;simp only[ag,bne_iff_ne,ne_eq,decide_eq_true_eq]at K;obtain⟨⟨o,q⟩,n⟩:=K;obtain⟨f,g,i,M⟩:=Rr d v (by omega) Q;obtain⟨u1,u2⟩:=Pb d v (by omega) Q;obtain⟨Z,k⟩:=Pb d (JN v) f g;rw[i]at Z k;have X:AT (rest l v):=MT _ h.rising;have b:Bh (rest l v):=λx D=>h.full x (List.mem_filter.1 D).1;have j:CE d (rest l v):=λx D=>h.nodes x (List.mem_filter.1 D).1;have Y:=Kx l v M;refine⟨⟨Bg X,Ca b (by omega),Fh j (by omega) (by omega),by rw[Y];exact h.total,λy=> ?_,λy=> ?_⟩,λy G H=> ?_⟩
 ·have a:=h.low y;unfold Z6 at*;have e:=IN (λv=>decide ((Wg d v:Int)<=y)) l v M;simp only[decide_eq_true_eq]at e;by_cases c:(Wg d (v/2):Int)<=y
  ·rw[if_pos c,if_pos (by omega),if_pos (by omega)]at e;omega
  ·rw[if_neg c]at e;omega
 ·have a:=h.high y;unfold Ti at*;have e:=IN (λv=>decide ((bq d v:Int)<=y)) l v M;simp only[decide_eq_true_eq]at e;by_cases c:(bq d (v/2):Int)<=y
  ·rw[if_pos c]at e;split at e<;>split at e<;>omega
  ·rw[if_neg c,if_neg (by omega),if_neg (by omega)]at e;omega
 ·rw[Y];rcases Gh X G with G|⟨G,r⟩
  ·exact h.thin y (List.mem_filter.1 G).1 H
  ·have e:AP (rest l v) (v/2)<=AP l (v/2):=by
    unfold AP rest;rw[Ir];exact PY _ _ _ λx _ D=>by simp at D;simp[D.1]
   omega
def JR:AL->Nat
 | []=>0
 |x::l=>x.2*x.1+JR l
theorem aK(l:AL)(v c):JR (Ak l v c)=JR l+c*v:=by
 induction l with
 |nil=>simp[Ak,JR]
 |cons x l D=>
  unfold Ak;split
  ·simp only[JR,D];omega
  ·split
   ·rename_i e;simp only[JR,aw,e];omega
   ·simp only[JR];omega
theorem XQ(l:AL)(v u)(h:v≠u):JR l=JR (l.filter λx=>x.1 !=v&&x.1 !=u)+AP l v*v+AP l u*u:=by
 induction l with
 |nil=>simp[JR,AP,Bn]
 |cons x l H=>
  have D:AP (x::l) v=(if x.1=v then x.2 else 0)+AP l v:=by unfold AP;rw[AQ];simp
  have G:AP (x::l) u=(if x.1=u then x.2 else 0)+AP l u:=by unfold AP;rw[AQ];simp
  rw[D,G,aw,aw,Q0];by_cases a:x.1=v
  ·subst a;have:¬x.1=u:=h;simp[this,JR];omega
  ·by_cases b:x.1=u
   ·subst b;simp[a,JR];omega
   ·simp[a,b,JR];omega
theorem XR{F}{l:AL}{v}(X:1<=v)(D:DR F l v=true)(G:JN v≠v)(H:JN v/2=v/2):JR (EU l v)<JR l:=by
 unfold DR at D;simp only[ag,bne_iff_ne,ne_eq,decide_eq_true_eq]at D;obtain⟨⟨Q,Y⟩,_⟩:=D;have e:=XQ l v (JN v) (λe=>G e.symm);unfold EU;rw[aK];have K:JR (rest l v)=JR (l.filter λx=>x.1 !=v&&x.1 !=JN v):=rfl;rw[K,aw];have Z:AP l v*(v/2)<AP l v*v:=fk (by omega) (by omega);have M:AP l (JN v)*(v/2)<=AP l (JN v)*JN v:=Nat.mul_le_mul_left _ (by omega);omega
def cZ(d:Nat)(x y:Nat×Nat):Bool:=decide (Wg d x.1<Wg d y.1)||(Wg d x.1==Wg d y.1&&decide (y.1<x.1))
def Gn(a b by_:Nat):Nat:=if a*b % by_=0 then a*b/by_ else a*b/by_+1
theorem XS(num n den)(h:num<=den)(K:1<=den):Gn num n den<=n:=by
 unfold Gn;have D:num*n<=den*n:=fp n h;have H:=Nat.div_add_mod (num*n) den;split
 ·exact Nat.div_le_of_le_mul D
 ·rename_i G;refine Nat.succ_le_of_lt (Nat.div_lt_of_lt_mul ?_);refine fj D λe=>G ?_;rw[e];exact Nat.mul_mod_right _ _
def N7(num n den:Nat):Nat:=max (Gn num n den) 1
end Go.Proofs.YtbejdajkkoapgaaGreatDoor
set_option maxRecDepth 100000
set_option maxHeartbeats 40000000
namespace Go.Proofs.YtbejdajkkoapgaaGreatDoor.Wd
open Sp (Drew)
theorem N8{B a w w'}(h:Below B a w)(k:Drew w w'):Below B a w' :=by
 obtain⟨n,rfl⟩:=k;exact⟨h.os,h.tape,h.output,h.size,h.block⟩
theorem MU(x y c:Nat)(D:c<=1)(H:x<18446744073709551616)(G:y<18446744073709551616)(w):
  (callFunc 189 #[I U x,I U y,I U c]).run prog w=
   .ok (.value (T #[I U (((x+y+c) % 18446744073709551616:Nat):Int),I U (((x+y+c)/18446744073709551616:Nat):Int)])) w:=by
 rw[run_callFunc_extern func189 (by kernel_rfl) (by kernel_rfl) (by kernel_rfl) (e:=add64Entry) (by kernel_rfl),run_add64 x y c (by omega) (by omega) (by omega) (by omega)];simp only[Result.andThen];congr 5<;>omega
theorem over_any(hi lo y:Nat)(w)(G:hi<y)(D:y<18446744073709551616)(H:lo<18446744073709551616):
  C prog 117 #[.agg #[I U hi,I U lo],I U y] w λe w' =>e=R (T #[I U (((hi*18446744073709551616+lo)/y:Nat):Int),I U (((hi*18446744073709551616+lo) % y:Nat):Int),.bool true])/\B w.heap.size w w' :=by
 have K:¬(y:Int)<=(hi:Int):=by omega
 go_enter func117,ntmps117;go_wp2_with(go_at_call 128;refine(Ur hi lo y _ G D H).mono ?_;rintro e w' ⟨rfl,n,rfl⟩);go_ret3;exact⟨rfl,N8 (Za) (Drew.of _ _)⟩
theorem good_any(num den:Nat)(w)(h:num<=den)(G:1<=den):
  C prog 179 #[.agg #[I U num,I U den]] w λe w' =>e=R (.bool true)/\B w.heap.size w w' :=by
 have D:(0:Int)<(den:Int):=by omega
 have H:(num:Int)<=(den:Int):=by omega
 go_enter func179,ntmps179;go_wp2;go_ret;exact⟨rfl,Za⟩
theorem times_nat(a b:Nat)(w)(G:a<18446744073709551616)(D:b<18446744073709551616):
  C prog 118 #[I U a,I U b] w λe w' =>e=R (.agg #[I U ((a*b/18446744073709551616:Nat):Int),I U ((a*b % 18446744073709551616:Nat):Int)])/\B w.heap.size w w' :=by
 rw[Tj,Tk];exact times_any a b w (by omega) (by omega) (by omega) (by omega)
theorem XT(a b y:Nat)(w)(o:a<=y)(i:1<=y)(z:y<18446744073709551616)(n:b<18446744073709551616):
  C prog 180 #[I U a,I U b,I U y] w λe w' =>e=R (T #[I U (Gn a b y:Nat),.bool true])/\B w.heap.size w w' :=by
 have Q:=XS a b y o i;have K:a*b/18446744073709551616<y:=by
  rw[Nat.div_lt_iff_lt_mul (by decide)];exact Nat.lt_of_le_of_lt (fp b o) (fk n i)
 have H:a*b % 18446744073709551616<18446744073709551616:=by omega
 have e:a*b/18446744073709551616*18446744073709551616+a*b % 18446744073709551616=a*b:=by omega
 obtain⟨q,Z⟩:∃q,q=a*b/y:=⟨_,rfl⟩;obtain⟨r,X⟩:∃r,r=a*b % y:=⟨_,rfl⟩;have g:=λW=>over_any _ _ y W K z H;rw[e,<-Z,<-X]at g;have j:=λW=>times_nat a b W (by omega) n;have f:Gn a b y=if r=0 then q else q+1:=by unfold Gn;rw[<-Z,<-X]
 by_cases h:r=0
 ·have t:((r:Int)==0)=true:=by simp[h]
  have Y:q=Gn a b y:=by rw[f,if_pos h]
  clear f h Z X e K H Q;have x:=Zh Y;clear Y;go_enter func180,ntmps180;go_wp2_with(first|(go_at_call 118;refine(j _).mono ?_;rintro e s ⟨rfl,D⟩)|(go_at_call 117;refine(g _).mono ?_;rintro e w2 ⟨rfl,G⟩));go_ret2;exact⟨by rw[<-x.out];rfl,D.trans (G.mono D.size)⟩
 ·have t:((r:Int)==0)=false:=by simp[h]
  have Y:q+1=Gn a b y:=by rw[f,if_neg h]
  have M:∀W:World,(callFunc 189 #[I U q,I U 1,I U 0]).run prog W=.ok (.value (T #[I U (Gn a b y:Nat),I U 0])) W:=λW=>by
   have k:=MU q 1 0 (by omega) (by omega) (by omega) W;have p:(q+1+0) % 18446744073709551616=Gn a b y:=by omega
   have u:(q+1+0)/18446744073709551616=0:=by omega
   rw[p,u]at k;exact k
  clear f h Z X e K H Q Y;go_enter func180,ntmps180;go_wp2_with(first|(go_at_call 118;refine(j _).mono ?_;rintro e s ⟨rfl,D⟩)|(go_at_call 117;refine(g _).mono ?_;rintro e w2 ⟨rfl,G⟩)|(simp only[M]));go_ret2;exact⟨rfl,D.trans (G.mono D.size)⟩
theorem place_any(num den n:Nat)(w)(h:num<=den)(K:1<=den)(Q:den<18446744073709551616)(Z:1<=n)(G :n<18446744073709551616):
  C prog 174 #[.agg #[I U num,I U den],I U n] w λe w' =>e=R (T #[I U (N7 num n den:Nat),I J 0])/\B w.heap.size w w' :=by
 have Y:((n:Int)==0)=false:=by simp;omega
 go_enter func174,ntmps174;go_wp2_with(first
  |(go_at_call 179;refine(good_any num den _ h K).mono ?_;rintro e M ⟨rfl,D⟩;obtain⟨X,hf1⟩:=bcell D;have a:w.heap.size<M.heap.size:=by have:=D.size;simp at this;omega)
  |(go_at_call 180;refine(XT num n den _ h K Q G).mono ?_;rintro e b ⟨rfl,H⟩))
 go_ret2;refine⟨by rw[show((N7 num n den:Nat):Int)=max (Gn num n den:Int) 1 from by unfold N7;omega];rfl,?_⟩;exact((Za).trans (D.mono (by simp))).trans (H.mono (by omega))
def goodB(num den:Int):Bool:=(den !=0)&& !decide (den<num)
end Go.Proofs.YtbejdajkkoapgaaGreatDoor.Wd
namespace Go.Proofs.YtbejdajkkoapgaaGreatDoor
theorem N9(d:Nat):Tr.pw (d:Int)=((2^d:Nat):Int):=by unfold Tr.pw;simp
theorem XU(d v:Nat)(h:1<=v)(D :v<2*2^d):Tr.goodB (d:Int) (v:Int)=true:=by
 rw[Tr.goodB_iff,N9];omega
theorem gF(d v:Nat)(h:1<=v)(D :v<2*2^d):Tr.upV (d:Int) (v:Int)=((v/2:Nat):Int):=by
 unfold Tr.upV;rw[XU d v h D];simp
theorem fV(d v:Nat)(h:2<=v)(G :v<2*2^d):Tr.besV (d:Int) (v:Int)=((JN v:Nat):Int):=by
 unfold Tr.besV JN;have e:((v:Int)==1)=false:=by simp;omega
 rw[XU d v (by omega) G,e];by_cases D:v % 2=0
 ·rw[if_pos (by simp),if_pos (by omega),if_pos D];omega
 ·rw[if_pos (by simp),if_neg (by omega),if_neg D];omega
theorem eK(d:Nat):Tr.besV (d:Int) 1=0:=by unfold Tr.besV;simp
theorem bz{C:W->Prop}{x}{K:V->Prop}(h:K x):∃v,(∀w,C w->x=v)/\K v:=⟨x,λ_ _=>rfl,h⟩
theorem AG{P:Program}{C:W->Prop}{id Q a w}{l:List Oper}(D:P.follows .mixedOrders=true)(K:Region.lexB .any l.toArray=true)(G:C w.drew)
  (h:wpQuiet P l.toArray C (λH =>∀w',C w' ->Q .normal H w') l a):(Code.region id l.toArray true).wp P Q a w:=
 wp_region_quiet D K G (by simpa using h)
def Am(x:Int):Prop:= -9223372036854775808<=x/\x<=9223372036854775807
def fW(d F:Nat)(sb:Nat)(lo hi:Int):Array Value:= #[I J d,I J F,I J d,P (S ⟨sb,0,N⟩),I J lo,I J hi]
structure Au(w:W)(db sb:Nat)(v:V)(d F:Nat)(lo hi:Int)(l:AL):Prop where
 blk:AI w db (fW d F sb lo hi) 89
 strip:As w sb v l
def Own(db sb:Nat)(v:V)(k:Nat):Prop:=k=db\/k=sb\/v.ownBlock=S k
section
variable {w w' :W} {db sb:Nat} {v:V} {d F:Nat} {lo hi:Int} {l:AL}
theorem Au.next(h:Au w db sb v d F lo hi l)(D:B w.heap.size w w'):Au w' db sb v d F lo hi l:=⟨h.blk.below D h.blk.lt,h.strip.next D⟩
theorem Au.drew(h:Au w db sb v d F lo hi l):Au w.drew db sb v d F lo hi l:=⟨h.blk,h.strip.drew⟩
theorem Au.away{G}(h:Au w db sb v d F lo hi l)(H:AD G w w')(D:∀k,Own db sb v k->¬G k):Au w' db sb v d F lo hi l:=
 ⟨h.blk.away H (D _ (.inl rfl)),h.strip.away H (D _ (.inr (.inl rfl))) λg K=>D _ (.inr (.inr K))⟩
theorem Au.lt(h:Au w db sb v d F lo hi l):∀k,Own db sb v k->k<w.heap.size:=by
 rintro k (rfl|rfl|D)
 ·exact h.blk.lt
 ·exact h.strip.blk.lt
 ·exact(h.strip.own.lt k D).2
theorem Au.ne(h:Au w db sb v d F lo hi l):db≠sb/\v.ownBlock≠S db:=by
 refine⟨h.blk.ne h.strip.blk (by decide),λe=> ?_⟩;obtain⟨D,G⟩:=AJ h.strip.own e;exact(h.blk.ne G (by decide)) rfl
theorem Au.cells(h:Au w db sb v d F lo hi l):w.cell? ⟨db,0,N⟩=S (I J d)/\w.cell? ⟨db,1,N⟩=S (I J F)/\w.cell? ⟨db,2,N⟩=S (I J d)/\
  w.cell? ⟨db,3,N⟩=S (P (S ⟨sb,0,N⟩))/\w.cell? ⟨db,4,N⟩=S (I J lo)/\w.cell? ⟨db,5,N⟩=S (I J hi)/\
  w.frozen? ⟨db,3,N⟩=false/\w.frozen? ⟨db,4,N⟩=false/\w.frozen? ⟨db,5,N⟩=false:=
 ⟨h.blk.cell rfl,h.blk.cell rfl,h.blk.cell rfl,h.blk.cell rfl,h.blk.cell rfl,h.blk.cell rfl,h.blk.frozen 3,h.blk.frozen 4,h.blk.frozen 5⟩
theorem Au.ends(h:Au w db sb v d F lo hi l)(a b):Au ((w.setCell ⟨db,4,N⟩ (I J a)).setCell ⟨db,5,N⟩ (I J b)) db sb v d F a b l:=by
 obtain⟨D,G⟩:=h.ne;refine⟨?_,(h.strip.other ⟨db,4,N⟩ _ (Ne.symm D) G).other ⟨db,5,N⟩ _ (Ne.symm D) G⟩;have:=(h.blk.set 4 (I J a)).set 5 (I J b);exact this
end
theorem Eb(w db sb v d F lo hi)(l:AL)(h:Au w db sb v d F lo hi l):
  C prog 116 #[P (S ⟨db,0,N⟩)] w λe w' =>e=R (I U (AB l:Nat))/\w=w' :=by
 obtain⟨a,b,G,M,Z,Q,Y,X,K⟩:=h.cells;have D:=Co w sb (AB l) h.strip.cells.2.2.1;clear h;go_enter func116,ntmps116;go_wp2_with(go_at_call 94;refine D.mono ?_;rintro e H ⟨rfl,rfl⟩);go_ret;exact⟨rfl,rfl⟩
theorem Pr(w db sb v d F lo hi)(l:AL)(h:Au w db sb v d F lo hi l)(hF:F<=64):
  C prog 16 #[P (S ⟨db,0,N⟩)] w λe w' =>e=R (I J (4*F:Nat))/\w=w' :=by
 obtain⟨Y,Z,D,H,X,K,Q,M,G⟩:=h.cells;clear h;go_enter func16,ntmps16;go_wp2;go_ret;exact⟨by rw[Int.natCast_mul];rfl,rfl⟩
theorem JS(w db sb v d F lo hi)(l:AL)(h:Au w db sb v d F lo hi l)(hF:1<=F)(M :F<=64)(Q:AB l<18446744073709551616):
  C prog 98 #[P (S ⟨db,0,N⟩)] w λe w' =>e=R (I U (AB l/F:Nat))/\B w.heap.size w w' :=by
 obtain⟨p,r,Y,a,o,b,j,g,Z⟩:=h.cells;have K:=λn=>Eb (w.drewN n) db sb v d F lo hi l (h.next ⟨rfl,rfl,rfl,E _,λ_ _=>rfl⟩);have k:¬((F:Int)=0):=by omega
 have f:((F:Int)==0)=false:=by simp;omega
 obtain⟨t,D⟩:∃t,t=AB l:=⟨_,rfl⟩;rw[<-D]at K Q⊢;obtain⟨q,G⟩:∃q,q=t/F:=⟨_,rfl⟩;have X:q<=t:=by rw[G];exact Nat.div_le_self _ _
 have i:U.wrap ((t:Int)/(F:Int))=(q:Int):=by rw[<-Int.natCast_ediv,<-G];exact Wd.wrapN q (by omega)
 rw[<-G];clear h D G;go_enter func98,ntmps98;go_wp2;go_quiet((go_at_call 116;refine C.quiet_of_same ((K _).mono λe w' H=>⟨H.1,H.2.symm⟩)));go_wp2;go_ret;exact⟨rfl,⟨rfl,rfl,rfl,E _,λ_ _=>rfl⟩⟩
theorem Is(w db sb v d F lo hi)(l:AL)(h:Au w db sb v d F lo hi l)(a b)(g:Am a)(Y:Am b)(f:Am lo)(n:Am hi):
  C prog 172 #[P (S ⟨db,0,N⟩),I J a,I J b] w λe w' =>e=R (T #[])/\∃D G,Am D /\Am G /\Au w' db sb v d F D G l/\AD (λk=>k=db) w w' :=by
 obtain⟨u,x,q,y,t,z,f3,s,r⟩:=h.cells;have X:=Eb w db sb v d F lo hi l h;have K:=Zh (show∀(W:World) (D G :Int),W.heap=w.heap->W.os=w.os->W.tape=w.tape->W.output=w.output->Au ((W.setCell ⟨db,4,N⟩ (I J D)).setCell ⟨db,5,N⟩ (I J G)) db sb v d F D G l/\AD (λk=>k=db) w ((W.setCell ⟨db,4,N⟩ (I J D)).setCell ⟨db,5,N⟩ (I J G))from λW D G Q Z p i=>by
  have H:B w.heap.size w W:=⟨Z,p,i,by rw[Q];exact E _,λk _=>by rw[Q]⟩;exact⟨(h.next H).ends D G,((AD.of_below (F:=λk=>k=db) H).setCell ⟨db,4,N⟩ _ (.inl rfl)).setCell ⟨db,5,N⟩ _ (.inl rfl)⟩)
 clear h;by_cases M:AB l=0
 ·have o:(((AB l:Nat):Int)==0)=true:=by simp[M]
  clear M;go_enter func172,ntmps172;go_wp2_with(go_at_call 116;refine X.mono ?_;rintro e j ⟨rfl,rfl⟩);refine bodyPost_ret (results_none rfl _ _ _) rfl ?_;exact⟨rfl,a,b,g,Y,K.out w a b rfl rfl rfl rfl⟩
 ·have o:(((AB l:Nat):Int)==0)=false:=by simp[M]
  clear M;go_enter func172,ntmps172;go_wp2_with(go_at_call 116;refine X.mono ?_;rintro e j ⟨rfl,rfl⟩);go_region;all_goals(try go_wp2)
  all_goals go_end0
  all_goals exact⟨rfl,min lo a,max hi b,by unfold Am at*;omega,by unfold Am at*;omega,K.out w.drew _ _ rfl rfl rfl rfl⟩
theorem Ps(d F w)(h:¬(1<=d/\d<=24/\1<=F/\F<=64)):
  C prog 15 #[.agg #[I J d,I J F]] w λe w' =>e=R (T #[P N,I J 1])/\Below w.heap.size w w' :=by
 by_cases H:d<1\/24<d
 ·have K:=λW=>Tr.new_bad d W H;clear h H;go_enter func15,ntmps15;go_wp2_with(go_at_call 27;refine(K _).mono ?_;rintro e G ⟨rfl,D⟩);go_ret2;exact⟨rfl,(((Za).trans (D.mono (by simp))).alloc (by have:=D.size;simp at this;omega) _)⟩
 ·have K:=λW=>Tr.new_good d W (by omega) (by omega);by_cases hF:F<1
  ·clear h H;go_enter func15,ntmps15;go_wp2_with(go_at_call 27;refine(K _).mono ?_;rintro e G ⟨rfl,D⟩;have B:=(AI.newAt (w:=w) (n:=w.heap.size) rfl).below D (by simp);have Q:G.cell? ⟨w.heap.size,0,N⟩=S (I J d):=B.cell rfl;have M:G.cell? ⟨w.heap.size,1,N⟩=S (I J F):=B.cell rfl;have z:=B.lt);go_ret2;exact⟨rfl,(((Za).trans (D.mono (by simp))).alloc (by have:=D.size;simp at this;omega) _)⟩
  ·have X:64<F:=by omega
   clear h H;go_enter func15,ntmps15;go_wp2_with(go_at_call 27;refine(K _).mono ?_;rintro e G ⟨rfl,D⟩;have B:=(AI.newAt (w:=w) (n:=w.heap.size) rfl).below D (by simp);have Q:G.cell? ⟨w.heap.size,0,N⟩=S (I J d):=B.cell rfl;have M:G.cell? ⟨w.heap.size,1,N⟩=S (I J F):=B.cell rfl;have z:=B.lt);go_ret2;exact⟨rfl,(((Za).trans (D.mono (by simp))).alloc (by have:=D.size;simp at this;omega) _)⟩
theorem F5(w:W):As (w.alloc (.cells #[I J 4096,L N 0 0,I U 0] 115)) w.heap.size (L N 0 0) []:=
 ⟨AI.newAt rfl,W.ownsRow_nil _ _ _ _,trivial,λx D=>by cases D⟩
theorem Tq(d F:Nat)(w)(X:1<=d)(K:d<=24)(a:1<=F)(Q:F<=64):
  C prog 15 #[.agg #[I J d,I J F]] w λe w' =>∃db sb,e=R (T #[P (some ⟨db,0,N⟩),I J 0])/\Au w' db sb (L N 0 0) d F 0 0 []/\
   w.heap.size<=db/\w.heap.size<=sb/\Below w.heap.size w w' :=by
 have M:=λW=>Tr.new_good (d:Int) W (by omega) (by omega);have h:¬(F:Int)<1:=by omega
 have f:¬64<(F:Int):=by omega
 clear X K a Q;go_enter func15,ntmps15;go_wp2_with(first
  |(go_at_call 27;refine(M _).mono ?_;rintro e D ⟨rfl,H⟩;have B:=(AI.newAt (w:=w) (n:=w.heap.size) rfl).below H (by simp);have g:D.cell? ⟨w.heap.size,0,N⟩=some (I J d):=B.cell rfl;have b:D.cell? ⟨w.heap.size,1,N⟩=some (I J F):=B.cell rfl;have z:=B.lt)
  |(go_at_call 28;refine(G4 _).mono ?_;rintro e i ⟨rfl,rfl⟩))
 go_ret2;have G:Below w.heap.size w D:=(Za).trans (H.mono (by simp));have S:=((F5 (D.alloc (.cells #[I J d] 82))).alloc (.cells #[I J d,I J F,I J d,P (some ⟨D.heap.size+1,0,N⟩),I J 0,I J 0] 89));have Z:(D.alloc (.cells #[I J d] 82)).heap.size=D.heap.size+1:=by simp
 rw[Z]at S;have Y:=G.size;refine⟨D.heap.size+1+1,D.heap.size+1,rfl,⟨AI.newAt (by simp),S⟩,by omega,by omega,?_⟩;exact((G.alloc G.size _).alloc (by simp;omega) _).alloc (by simp;omega) _
structure Zm(w:World)(db sb:Nat)(v:V)(d F:Nat)(lo hi:Int)(l:AL)(W:World):Prop where
 dig:Au W db sb v d F lo hi l
 below:B w.heap.size w W
theorem Zm.next{w W W' db sb v d F lo hi}{l:AL}(h:Zm w db sb v d F lo hi l W)(D:B W.heap.size W W'):Zm w db sb v d F lo hi l W' :=
 ⟨h.dig.next D,h.below.trans (D.mono h.below.size)⟩
theorem Zm.drew{w W db sb v d F lo hi}{l:AL}(h:Zm w db sb v d F lo hi l W):Zm w db sb v d F lo hi l W.drew:=⟨h.dig.drew,h.below.drew⟩
def BV(w:W)(P Q:Nat->Prop):Prop:=∀k,Q k->P k\/w.heap.size<=k
theorem aL(w)(db sb:Nat)(v)(d F:Nat)(lo hi:Int)(l:AL)(x B D:Nat)(h:Au w db sb v d F lo hi l)(h1:1<=d)(h2:d<=24)(h3:1<=F)(h4:F<=64)
  (b:∀W,Calls prog 187 #[.agg #[I J d],I J x] W λe w' =>e=R (I J (B:Nat))/\Below W.heap.size W w')
  (j:∀W,Calls prog 188 #[.agg #[I J d],I J x] W λe w' =>e=R (I J (D:Nat))/\Below W.heap.size W w')
  (Ab:l.length<=4000)(Aa:AB l<=1000000)(Q:x=1\/AP l x=0\/AB l/F<AP l x+AP l B+AP l D):
  Calls prog 178 #[P (S ⟨db,0,N⟩),I J x] w λe w' =>e=R (.bool false)/\Below w.heap.size w w' :=by
 have H:Zm w db sb v d F lo hi l w:=⟨h,Below.refl _ _⟩;have ra:=An l x;have rb:=An l B;have rc:=An l D;have X:=λW (k:Au W db sb v d F lo hi l)=>JS W db sb v d F lo hi l k h3 h4 (by omega);obtain⟨Y,hA1⟩:∃a,a=AP l x:=⟨_,rfl⟩;obtain⟨f,hA2⟩:∃a,a=AP l B:=⟨_,rfl⟩;obtain⟨z,hA3⟩:∃a,a=AP l D:=⟨_,rfl⟩;obtain⟨T,hT⟩:∃a,a=AB l/F:=⟨_,rfl⟩;have HA:=Zh (Zi hA1 (Zi hA2 hA3));rw[<-hT]at X Q;rw[<-hA1,<-hA2,<-hA3]at Q;rw[<-hA1]at ra;rw[<-hA2]at rb;rw[<-hA3]at rc;have Ac:U.wrap ((Y:Int)+(f:Int))=(Y:Int)+(f:Int):=by rw[bh];omega
 have Al:U.wrap ((Y:Int)+(f:Int)+(z:Int))=(Y:Int)+(f:Int)+(z:Int):=by rw[bh];omega
 clear hA1 hA2 hA3 hT h;go_enter func178,ntmps178;go_upto_region 1 with fail;refine AG (C:=Zm w db sb v d F lo hi l) (by kernel_rfl) (by kernel_rfl) H.drew ?_;repeat go_big_quiet_step(exact λ_=>rfl)
 go_big_quiet_want;refine⟨P (S ⟨sb,0,N⟩),λM G=> ?_,?_⟩
 ·obtain⟨o,g,r,n,t,p,i,s,q⟩:=G.dig.cells;go_simp
 go_big_quiet_on;simp only[Jx,Zp,Zq,Zr];repeat go_big_quiet_step(exact λ_=>rfl)
 go_big_quiet_want;go_big_quiet_op;refine⟨I U (AP l x:Nat),λM G=> ?_,?_⟩
 ·exact(FX _ sb v l (x) G.dig.strip (by omega)).mono λ_ _ K=>⟨K.1,G.next K.2⟩
 go_big_quiet_on;repeat go_big_quiet_step(exact λ_=>rfl)
 go_big_quiet_want;refine⟨P (S ⟨sb,0,N⟩),λM G=> ?_,?_⟩
 ·obtain⟨o,g,r,n,t,p,i,s,q⟩:=G.dig.cells;go_simp
 go_big_quiet_on;simp only[Jx,Zp,Zq,Zr];repeat go_big_quiet_step(exact λ_=>rfl)
 go_big_quiet_want;refine⟨.agg #[I J d],λM G=> ?_,?_⟩
 ·obtain⟨o,g,r,n,t,p,i,s,q⟩:=G.dig.cells;go_simp
 go_big_quiet_on;simp only[Jx,Zp,Zq,Zr];repeat go_big_quiet_step(exact λ_=>rfl)
 go_big_quiet_want;go_big_quiet_op;refine⟨I J (B:Nat),λM G=> ?_,?_⟩
 ·exact(b M).mono λ_ _ K=>⟨K.1,G.next K.2⟩
 go_big_quiet_on;repeat go_big_quiet_step(exact λ_=>rfl)
 go_big_quiet_want;go_big_quiet_op;refine⟨I U (AP l B:Nat),λM G=> ?_,?_⟩
 ·exact(FX _ sb v l (B) G.dig.strip (by omega)).mono λ_ _ K=>⟨K.1,G.next K.2⟩
 go_big_quiet_on;repeat go_big_quiet_step(exact λ_=>rfl)
 go_big_quiet_want;refine⟨P (S ⟨sb,0,N⟩),λM G=> ?_,?_⟩
 ·obtain⟨o,g,r,n,t,p,i,s,q⟩:=G.dig.cells;go_simp
 go_big_quiet_on;simp only[Jx,Zp,Zq,Zr];repeat go_big_quiet_step(exact λ_=>rfl)
 go_big_quiet_want;refine⟨.agg #[I J d],λM G=> ?_,?_⟩
 ·obtain⟨o,g,r,n,t,p,i,s,q⟩:=G.dig.cells;go_simp
 go_big_quiet_on;simp only[Jx,Zp,Zq,Zr];repeat go_big_quiet_step(exact λ_=>rfl)
 go_big_quiet_want;go_big_quiet_op;refine⟨I J (D:Nat),λM G=> ?_,?_⟩
 ·exact(j M).mono λ_ _ K=>⟨K.1,G.next K.2⟩
 go_big_quiet_on;repeat go_big_quiet_step(exact λ_=>rfl)
 go_big_quiet_want;go_big_quiet_op;refine⟨I U (AP l D:Nat),λM G=> ?_,?_⟩
 ·exact(FX _ sb v l (D) G.dig.strip (by omega)).mono λ_ _ K=>⟨K.1,G.next K.2⟩
 go_big_quiet_on;repeat go_big_quiet_step(exact λ_=>rfl)
 refine wpQuiet_nil ?_;rw[<-HA.out.1,<-HA.out.2.1,<-HA.out.2.2];intro M u;obtain⟨o,g,r,n,t,p,i,s,q⟩:=u.dig.cells;have hl:=X M u.dig;have Z:=u.below;clear H u X b j;by_cases e1:x=1
 ·have g1:((x:Int)==1)=true:=by simp;omega
  clear e1 Q;go_wp2_with fail;go_ret;exact⟨rfl,Z⟩
 ·have g1:((x:Int)==1)=false:=by simp;omega
  by_cases y:Y=0
  ·have g2:((Y:Int)==0)=true:=by simp[y]
   clear e1 y Q;go_wp2_with fail;go_ret;exact⟨rfl,Z⟩
  ·have g2:((Y:Int)==0)=false:=by simp[y]
   have g3:(T:Int)<(Y:Int)+(f:Int)+(z:Int):=by omega
   have g4:decide ((T:Int)<(Y:Int)+(f:Int)+(z:Int))=true:=by simp;omega
   clear e1 y Q;go_wp2_with(go_at_call 98;refine hl.mono ?_;rintro e w2 ⟨rfl,AA⟩);go_ret;exact⟨rfl,Z.trans (AA.mono Z.size)⟩
theorem XV{m:AL}{i}(c)(h:∀y∈m,y.1<i):Ak m i c=m++ [(i,c)]:=by
 induction m with
 |nil=>rfl
 |cons x m D=>
  unfold Ak;rw[if_pos (h x fw),D λy G=>h y (Pa _ G)];rfl
theorem Pt(l:AL)(f:Nat×Nat->Bool)(k)(D:k<l.length):(l.take (k+1)).filter f=(l.take k).filter f++(if f (l[k]'D)then [l[k]'D]else []):=by
 rw[bw D,List.filter_append];congr 1;simp[Q0]
theorem Uu(l:AL)(f:Nat×Nat->Bool)(h:AT l)(k)(G:k<l.length):∀y∈(l.take k).filter f,y.1<(l[k]'G).1:=by
 intro y H;have D :=(List.mem_filter.1 H).1;obtain⟨i,hi,rfl⟩:=List.getElem_of_mem D;rw[fx]at hi;rw[List.getElem_take];exact Dy h (by omega) G (by omega)
theorem Ej(l:AL)(f:Nat×Nat->Bool):AB (l.filter f)<=AB l:=by
 induction l with
 |nil=>exact E _
 |cons x l D=>
  rw[Q0];unfold AB at*;split
  ·rw[AQ,AQ];omega
  ·rw[AQ];omega
theorem Fl(l:AL)(k):AB (l.take k)<=AB l:=by
 have h:AB (l.take k++l.drop k)=AB (l.take k)+AB (l.drop k):=Bv _ _ _;rw[fy]at h;omega
structure Wh(w:World)(db sb:Nat)(v:V)(d F:Nat)(lo hi:Int)(l:AL)(sn:Nat)(vk:V)(m:AL)(vp:V)(W:World):Prop where
 dig:Au W db sb v d F lo hi l
 below:B w.heap.size w W
 st:As W sn vk m
 own:W.ownsRow 0 228 2 vp l.length (AV l)
 lt:∀k,Own db sb v k->k<w.heap.size
 fresh:w.heap.size<=sn/\∀g,vk.ownBlock=S g->w.heap.size<=g
 apart:∀g,vp.ownBlock=S g->g≠sn/\vk.ownBlock≠S g
section
variable {w W W' :World} {db sb:Nat} {v:V} {d F:Nat} {lo hi:Int} {l:AL} {sn:Nat} {vk:V} {m:AL} {vp:V}
theorem Wh.next(h:Wh w db sb v d F lo hi l sn vk m vp W)(D:B W.heap.size W W'):Wh w db sb v d F lo hi l sn vk m vp W' :=
 ⟨h.dig.next D,h.below.trans (D.mono h.below.size),h.st.next D,AE h.own D λg G=>(h.own.lt g G).2,h.lt,h.fresh,h.apart⟩
theorem Wh.drew(h:Wh w db sb v d F lo hi l sn vk m vp W):Wh w db sb v d F lo hi l sn vk m vp W.drew:=⟨h.dig.drew,h.below.drew,h.st.drew,h.own.drew,h.lt,h.fresh,h.apart⟩
theorem Wh.add{v'}{Q :AL}(h:Wh w db sb v d F lo hi l sn vk m vp W)(Y:As W' sn v' Q)(M:AD (λk=>k=sn\/vk.ownBlock=S k) W W')(D:FA W vk v'):Wh w db sb v d F lo hi l sn v' Q vp W' :=by
 have H:∀k,k<w.heap.size->¬(k=sn\/vk.ownBlock=S k):=by
  rintro k D (rfl|X)
  ·have:=h.fresh.1;omega
  ·have:=h.fresh.2 k X;omega
 refine⟨h.dig.away M λk D=>H k (h.lt k D),h.below.trans (M.below h.below.size H),Y,AU h.own M λg G=> ?_,h.lt,⟨h.fresh.1,λg G=> ?_⟩,λg G=>⟨(h.apart g G).1,λe=> ?_⟩⟩
 ·rintro(e|e)
  ·exact(h.apart g G).1 e
  ·exact(h.apart g G).2 e
 ·rcases D with D|⟨k,D,K⟩
  ·exact h.fresh.2 g (D▸G)
  ·rw[D]at G;cases G;exact RR h.below.size K
 ·rcases D with D|⟨k,D,K⟩
  ·exact(h.apart g G).2 (D▸e)
  ·rw[D]at e;cases e;have:=(h.own.lt g G).2;omega
end
structure ce(w:World)(db sb:Nat)(v:V)(d F:Nat)(lo hi:Int)(l:AL)(sn:Nat)(vk:V)(m:AL)(vp:V)(b ix ct:Nat)(W:World):Prop where
 lf:Wh w db sb v d F lo hi l sn vk m vp W
 p0:W.cell? ⟨b,0,N⟩=S (I J ix)
 p1:W.cell? ⟨b,1,N⟩=S (I U ct)
theorem ce.next{w W W' db sb v d F lo hi}{l:AL}{sn vk}{m:AL}{vp b G H}(h:ce w db sb v d F lo hi l sn vk m vp b G H W)(D:B W.heap.size W W'):ce w db sb v d F lo hi l sn vk m vp b G H W' :=
 ⟨h.lf.next D,(D.cell (p:=⟨b,0,N⟩) (block_lt_of_cell (a:=⟨b,0,N⟩) h.p0)).trans h.p0,(D.cell (p:=⟨b,1,N⟩) (block_lt_of_cell (a:=⟨b,1,N⟩) h.p1)).trans h.p1⟩
theorem XW(w)(db sb:Nat)(v)(d F:Nat)(lo hi:Int)(l:AL)(x B D:Nat)(h:Au w db sb v d F lo hi l)(h1:1<=d)(h2:d<=24)(h3:1<=F)(h4:F<=64)
  (Aa:∀W,Calls prog 187 #[.agg #[I J d],I J x] W λe w' =>e=R (I J (B:Nat))/\Below W.heap.size W w')
  (B2:∀W,Calls prog 188 #[.agg #[I J d],I J x] W λe w' =>e=R (I J (D:Nat))/\Below W.heap.size W w')
  (C2:l.length<=4000)(C1:AB l<=1000000)(C8:x≠1)(CL:AP l x≠0)(Z:AP l x+AP l B+AP l D<=AB l/F):
  Calls prog 178 #[P (S ⟨db,0,N⟩),I J x] w λe w' =>e=R (.bool true)/\
   ∃Bt v',Au w' db Bt v' d F lo hi (Ak (l.filter λy=>y.1 !=x&&y.1 !=B) D (AP l x+AP l B))/\w.heap.size<=Bt /\(∀g,v'.ownBlock=S g->w.heap.size<=g)/\AD (λk=>k=db) w w' :=by
 have H:Zm w db sb v d F lo hi l w:=⟨h,Below.refl _ _⟩;have ra:=An l x;have rb:=An l B;have rc:=An l D;have Al:=h.strip.rising;have BQ:=h.strip.full;have BR:=h.lt;have Ac:=λW (k:Au W db sb v d F lo hi l)=>JS W db sb v d F lo hi l k h3 h4 (by omega);obtain⟨A1,hA1⟩:∃a,a=AP l x:=⟨_,rfl⟩;obtain⟨A2,hA2⟩:∃a,a=AP l B:=⟨_,rfl⟩;obtain⟨A3,hA3⟩:∃a,a=AP l D:=⟨_,rfl⟩;obtain⟨T,hT⟩:∃a,a=AB l/F:=⟨_,rfl⟩;have AA:=λW (k:Au W db sb v d F lo hi l)=>FX W sb v l x k.strip (by omega);have Ab:=λW (k:Au W db sb v d F lo hi l)=>FX W sb v l B k.strip (by omega);have Ar:=λW (k:Au W db sb v d F lo hi l)=>FX W sb v l D k.strip (by omega);rw[<-hA1]at AA ra CL Z⊢;rw[<-hA2]at Ab rb Z⊢;rw[<-hA3]at Ar rc Z;rw[<-hT]at Ac Z;have C3:U.wrap ((A1:Int)+(A2:Int))=(A1:Int)+(A2:Int):=by rw[bh];omega
 have C4:U.wrap ((A1:Int)+(A2:Int)+(A3:Int))=(A1:Int)+(A2:Int)+(A3:Int):=by rw[bh];omega
 have j:=λW (k:Au W db sb v d F lo hi l)=>Cx W sb v l k.strip (by omega);have g1:((x:Int)==1)=false:=by simp;omega
 have g2:((A1:Int)==0)=false:=by simp;omega
 have g3:¬(T:Int)<(A1:Int)+(A2:Int)+(A3:Int):=by omega
 have g4:decide ((T:Int)<(A1:Int)+(A2:Int)+(A3:Int))=false:=by simp;omega
 clear hA1 hA2 hA3 hT h;go_enter func178,ntmps178;go_upto_region 1 with fail;refine AG (C:=Zm w db sb v d F lo hi l) (by kernel_rfl) (by kernel_rfl) H.drew ?_;repeat go_big_quiet_step(exact λ_=>rfl)
 go_big_quiet_want;refine⟨P (S ⟨sb,0,N⟩),λQ G=> ?_,?_⟩
 ·obtain⟨k0,k1,z,o,k4,r,m3,n,u⟩:=G.dig.cells;go_simp
 go_big_quiet_on;simp only[Jx,Zp,Zq,Zr];repeat go_big_quiet_step(exact λ_=>rfl)
 go_big_quiet_want;go_big_quiet_op;refine⟨I U (A1:Nat),λQ G=> ?_,?_⟩
 ·exact(AA _ G.dig).mono λ_ _ X=>⟨X.1,G.next X.2⟩
 go_big_quiet_on;repeat go_big_quiet_step(exact λ_=>rfl)
 go_big_quiet_want;refine⟨P (S ⟨sb,0,N⟩),λQ G=> ?_,?_⟩
 ·obtain⟨k0,k1,z,o,k4,r,m3,n,u⟩:=G.dig.cells;go_simp
 go_big_quiet_on;simp only[Jx,Zp,Zq,Zr];repeat go_big_quiet_step(exact λ_=>rfl)
 go_big_quiet_want;refine⟨.agg #[I J d],λQ G=> ?_,?_⟩
 ·obtain⟨k0,k1,z,o,k4,r,m3,n,u⟩:=G.dig.cells;go_simp
 go_big_quiet_on;simp only[Jx,Zp,Zq,Zr];repeat go_big_quiet_step(exact λ_=>rfl)
 go_big_quiet_want;go_big_quiet_op;refine⟨I J (B:Nat),λQ G=> ?_,?_⟩
 ·exact(Aa Q).mono λ_ _ X=>⟨X.1,G.next X.2⟩
 go_big_quiet_on;repeat go_big_quiet_step(exact λ_=>rfl)
 go_big_quiet_want;go_big_quiet_op;refine⟨I U (A2:Nat),λQ G=> ?_,?_⟩
 ·exact(Ab _ G.dig).mono λ_ _ X=>⟨X.1,G.next X.2⟩
 go_big_quiet_on;repeat go_big_quiet_step(exact λ_=>rfl)
 go_big_quiet_want;refine⟨P (S ⟨sb,0,N⟩),λQ G=> ?_,?_⟩
 ·obtain⟨k0,k1,z,o,k4,r,m3,n,u⟩:=G.dig.cells;go_simp
 go_big_quiet_on;simp only[Jx,Zp,Zq,Zr];repeat go_big_quiet_step(exact λ_=>rfl)
 go_big_quiet_want;refine⟨.agg #[I J d],λQ G=> ?_,?_⟩
 ·obtain⟨k0,k1,z,o,k4,r,m3,n,u⟩:=G.dig.cells;go_simp
 go_big_quiet_on;simp only[Jx,Zp,Zq,Zr];repeat go_big_quiet_step(exact λ_=>rfl)
 go_big_quiet_want;go_big_quiet_op;refine⟨I J (D:Nat),λQ G=> ?_,?_⟩
 ·exact(B2 Q).mono λ_ _ X=>⟨X.1,G.next X.2⟩
 go_big_quiet_on;repeat go_big_quiet_step(exact λ_=>rfl)
 go_big_quiet_want;go_big_quiet_op;refine⟨I U (A3:Nat),λQ G=> ?_,?_⟩
 ·exact(Ar _ G.dig).mono λ_ _ X=>⟨X.1,G.next X.2⟩
 go_big_quiet_on;repeat go_big_quiet_step(exact λ_=>rfl)
 refine wpQuiet_nil ?_;intro Q s;clear H;obtain⟨k0,k1,z,o,k4,r,m3,n,u⟩:=s.dig.cells;go_wp2_with fail;refine(Ac Q s.dig).mono ?_;rintro e w2 ⟨rfl,BX⟩;have H2:=s.next BX;clear k0 k1 z o k4 r m3 n u s BX Ac AA Ab Ar;go_wp2_with fail;refine(G4 _).mono ?_;rintro e w3 ⟨rfl,rfl⟩;have H3:=H2.next ((Below.refl _ _).alloc (E _) (.cells #[I J 4096,.slice N 0 0,I U 0] 115));have S3:=F5 w2;have A7:w.heap.size<=w2.heap.size:=H2.below.size;generalize w2.heap.size=sn at S3 A7⊢;generalize w2.alloc (.cells #[I J 4096,.slice N 0 0,I U 0] 115)=W3 at H3 S3⊢;clear H2;obtain⟨k0,k1,z,o,k4,r,m3,n,u⟩:=H3.dig.cells;go_wp2_with fail;refine(j W3 H3.dig).mono ?_;rintro e w4 ⟨vp,rfl,BA,Aw⟩;have L4:Wh w db sb v d F lo hi l sn (.slice N 0 0) [] vp w4:=
  ⟨H3.dig.next Aw,H3.below.trans (Aw.mono H3.below.size),S3.next Aw,AO BA λg _=>V0 _,BR,⟨A7,λg hg=>by cases hg⟩,λg hg=>⟨λe=>by have:=(BA.lt g hg).1;have:=S3.blk.lt;omega,λe=>by cases e⟩⟩
 clear k0 k1 z o k4 r m3 n u H3 S3 j BA Aw;obtain⟨Ap,cp,Ck⟩:=AF L4.own;subst Ck;clear BR A7 g1 g2 g3 g4 Z;go_wp2_with fail;go_loopg [11,66] l.length (λg p i wr=>∃k vk,i=I J (k:Nat)/\k<=l.length/\l.length-k<=g/\Wh w db sb v d F lo hi l sn vk ((l.take k).filter λy=>y.1 !=x&&y.1 !=B) (.slice Ap l.length cp) wr);case atStart=>exact⟨0,.slice N 0 0,rfl,V0 _,E _,L4⟩
 case round=>
  clear L4;obtain⟨k,vk,rfl,hk,hg,L⟩:=hrel;by_cases K :k<l.length
  ·have Cr:=Ej (l.take k) λy=>y.1 !=x&&y.1 !=B;have C9:=Fl l k;have A8:((l.take k).filter λy=>y.1 !=x&&y.1 !=B).length<4096:=by
    have:=es (λy=>y.1 !=x&&y.1 !=B) (l.take k);rw[fx]at this;omega
   have Ax:=Pt l (λy=>y.1 !=x&&y.1 !=B) k K;have A4:=Uu l (λy=>y.1 !=x&&y.1 !=B) Al k K;have A6:=BQ _ (gQ K);obtain⟨M,Av⟩:∃i,i=(l[k]'K).1:=⟨_,rfl⟩;obtain⟨f,A9⟩:∃i,i=(l[k]'K).2:=⟨_,rfl⟩;have C0:f<=AB l:=by
    have:=An l M;rw[Av,Be Al (gQ K)]at this;omega
   have Ba:(l[k]'K)=(M,f):=by rw[Av,A9]
   rw[Ba]at Ax A4 A6;simp only at Ax A4 A6;have e0:(AV l)[k*2]?=S (I J M):=by rw[BI l k K,Av]
   have e1:(AV l)[k*2+1]?=S (I U f):=by rw[BT l k K,A9]
   generalize X:((l.take k).filter λy=>y.1 !=x&&y.1 !=B)=m at*;generalize hmm:((l.take (k+1)).filter λy=>y.1 !=x&&y.1 !=B)=m' at*;rcases AH L.own with⟨A5,D0,_⟩|⟨g,D1,A5,B5,Bu,_,B3⟩
   ·omega
   ·simp only[V.slice.injEq,true_and]at A5;obtain⟨rfl,rfl⟩:=A5;have c0:wr.cell? ⟨g,k*2,N⟩=S (I J M):=by rw[L.own.cellAt _ (by omega)];exact e0
    have c1:wr.cell? ⟨g,k*2+1,N⟩=S (I U f):=by rw[L.own.cellAt _ (by omega)];exact e1
    have L1:=L.next ((Below.refl _ _).alloc (E _) (.cells #[I J M,I U f] 228));have B1:=AI.new wr #[I J M,I U f] 228;have B4:(k:Int)<(l.length:Int):=by omega
    have t:=Zh (Zi Ax (Zi X hmm));clear L Av A9 Ba e0 e1 Ax X hmm B5 Bu B3;go_upto_region 8 with fail;generalize wr.heap.size=b at B1⊢;generalize wr.alloc (.cells #[I J M,I U f] 228)=W1 at L1 B1⊢;have HC:ce w db sb v d F lo hi l sn vk m (.slice (S ⟨g,0,N⟩) l.length cp) b M f W1.drew:=⟨L1.drew,B1.drew.cell rfl,B1.drew.cell rfl⟩;clear L1 B1 c0 c1;by_cases hA:M=x
    ·have gA:((M:Int) !=(x:Int))=false:=by simp[hA]
     have Cp:((M:Int)==(x:Int))=true:=by simp[hA]
     have B9:(M==x)=true:=by simp[hA]
     have Y :m' =m:=by rw[t.out.1];simp[hA]
     have HM:=Zh Y;clear hA Y;refine AG (C:=ce w db sb v d F lo hi l sn vk m (.slice (S ⟨g,0,N⟩) l.length cp) b M f) (by kernel_rfl) (by kernel_rfl) HC ?_;repeat go_big_quiet_step(exact λ_=>rfl)
     go_big_quiet_want;refine⟨I J M,λQ G=> ?_,?_⟩
     ·have q0:=G.p0;go_simp
     go_big_quiet_on;simp only[Jx,Zp,Zq,Zr];repeat go_big_quiet_step(exact λ_=>rfl)
     refine wpQuiet_nil ?_;intro Q s;clear HC;go_wp2_with fail;go_roundg (l.length-(k+1));case measure=>omega
     case rel=>exact⟨k+1,vk,by go_num,by omega,E _,by rw[t.out.2.2,HM.out];exact s.lf⟩
    ·have gA:((M:Int) !=(x:Int))=true:=by simp;omega
     have Cp:((M:Int)==(x:Int))=false:=by simp;omega
     have B9:(M==x)=false:=by simp;omega
     by_cases hB:M=B
     ·have gB:((M:Int) !=(B:Int))=false:=by simp[hB]
      have Cs:((M:Int)==(B:Int))=true:=by simp[hB]
      have Y :m' =m:=by rw[t.out.1];simp[hB]
      have HM:=Zh Y;clear hA hB Y;refine AG (C:=ce w db sb v d F lo hi l sn vk m (.slice (S ⟨g,0,N⟩) l.length cp) b M f) (by kernel_rfl) (by kernel_rfl) HC ?_;repeat go_big_quiet_step(exact λ_=>rfl)
      go_big_quiet_want;refine⟨I J M,λQ G=> ?_,?_⟩
      ·have q0:=G.p0;go_simp
      go_big_quiet_on;simp only[Jx,Zp,Zq,Zr];repeat go_big_quiet_step(exact λ_=>rfl)
      go_big_quiet_want;refine⟨I J M,λQ G=> ?_,?_⟩
      ·have q0:=G.p0;go_simp
      go_big_quiet_on;simp only[Jx,Zp,Zq,Zr];repeat go_big_quiet_step(exact λ_=>rfl)
      go_big_quiet_want;refine⟨.agg #[I J d],λQ G=> ?_,?_⟩
      ·obtain⟨k0,k1,z,o,k4,r,m3,n,u⟩:=G.lf.dig.cells;go_simp
      go_big_quiet_on;simp only[Jx,Zp,Zq,Zr];repeat go_big_quiet_step(exact λ_=>rfl)
      go_big_quiet_want;go_big_quiet_op;refine⟨I J (B:Nat),λQ G=> ?_,?_⟩
      ·exact(Aa Q).mono λ_ _ X=>⟨X.1,G.next X.2⟩
      go_big_quiet_on;repeat go_big_quiet_step(exact λ_=>rfl)
      refine wpQuiet_nil ?_;intro Q s;clear HC;go_wp2_with fail;go_roundg (l.length-(k+1));case measure=>omega
      case rel=>exact⟨k+1,vk,by go_num,by omega,E _,by rw[t.out.2.2,HM.out];exact s.lf⟩
     ·have gB:((M:Int) !=(B:Int))=true:=by simp;omega
      have Cs:((M:Int)==(B:Int))=false:=by simp;omega
      have Y :m' =m++ [(M,f)]:=by rw[t.out.1];simp[hA,hB]
      have A0 :Ak m M f=m' :=by rw[Y,XV f A4]
      have HM:=Zh A0;clear hA hB Y A0;refine AG (C:=ce w db sb v d F lo hi l sn vk m (.slice (S ⟨g,0,N⟩) l.length cp) b M f) (by kernel_rfl) (by kernel_rfl) HC ?_;repeat go_big_quiet_step(exact λ_=>rfl)
      go_big_quiet_want;refine⟨I J M,λQ G=> ?_,?_⟩
      ·have q0:=G.p0;go_simp
      go_big_quiet_on;simp only[Jx,Zp,Zq,Zr];repeat go_big_quiet_step(exact λ_=>rfl)
      go_big_quiet_want;refine⟨I J M,λQ G=> ?_,?_⟩
      ·have q0:=G.p0;go_simp
      go_big_quiet_on;simp only[Jx,Zp,Zq,Zr];repeat go_big_quiet_step(exact λ_=>rfl)
      go_big_quiet_want;refine⟨.agg #[I J d],λQ G=> ?_,?_⟩
      ·obtain⟨k0,k1,z,o,k4,r,m3,n,u⟩:=G.lf.dig.cells;go_simp
      go_big_quiet_on;simp only[Jx,Zp,Zq,Zr];repeat go_big_quiet_step(exact λ_=>rfl)
      go_big_quiet_want;go_big_quiet_op;refine⟨I J (B:Nat),λQ G=> ?_,?_⟩
      ·exact(Aa Q).mono λ_ _ X=>⟨X.1,G.next X.2⟩
      go_big_quiet_on;repeat go_big_quiet_step(exact λ_=>rfl)
      refine wpQuiet_nil ?_;intro Q s;clear HC;have q0:=s.p0;have q1:=s.p1;have q:=Cc Q sn vk m M f s.lf.st A6 (by omega) A8;rw[HM.out]at q;go_wp2_with(go_at_call 93;refine q.mono ?_;rintro e w5 ⟨rfl,v5,s5,a5,i5⟩);have L5:=s.lf.add s5 a5 i5;go_roundg (l.length-(k+1));case measure=>omega
      case rel=>exact⟨k+1,v5,by go_num,by omega,E _,by rw[t.out.2.2];exact L5⟩
  ·have Bb:k=l.length:=by omega
   have B4:¬(k:Int)<(l.length:Int):=by omega
   rw[Bb,dT]at L;obtain⟨k0,k1,z,o,k4,r,m3,n,u⟩:=L.dig.cells;have Cr:=Ej l λy=>y.1 !=x&&y.1 !=B;have A8:(l.filter λy=>y.1 !=x&&y.1 !=B).length<4096:=by
    have:=es (λy=>y.1 !=x&&y.1 !=B) l;omega
   clear Bb K hk hg;go_wp2_with fail;refine(B2 wr).mono ?_;rintro e w5 ⟨rfl,Bs⟩;have L5:=L.next Bs;clear k0 k1 z o k4 r m3 n u L Bs;have q:=Cc w5 sn vk _ D (A1+A2) L5.st (by omega) (by omega) A8;rw[Int.natCast_add]at q;go_wp2_with fail;refine q.mono ?_;rintro e w6 ⟨rfl,v6,s6,a6,i6⟩;have L6:=L5.add s6 a6 i6;clear L5 s6 a6 i6 q;obtain⟨k0,k1,z,o,k4,r,m3,n,u⟩:=L6.dig.cells;have Bw:db≠sn:=by have:=L6.lt db (.inl rfl);have:=L6.fresh.1;omega
   have B0:v6.ownBlock≠S db:=λe=>by have:=L6.lt db (.inl rfl);have:=L6.fresh.2 db e;omega
   have Ay:Au (w6.setCell ⟨db,3,N⟩ (P (S ⟨sn,0,N⟩))) db sn v6 d F lo hi (Ak (l.filter λy=>y.1 !=x&&y.1 !=B) D (A1+A2)):=
    ⟨L6.dig.blk.set 3 (P (S ⟨sn,0,N⟩)),L6.st.other ⟨db,3,N⟩ _ (Ne.symm Bw) B0⟩
   have HF:=Zh (Zi Ay (Zi L6.fresh ((AD.of_below (F:=λk=>k=db) L6.below).setCell ⟨db,3,N⟩ (P (S ⟨sn,0,N⟩)) (.inl rfl))));clear Ay Bw B0 L6;go_wp2_with fail;go_ret;exact⟨rfl,sn,v6,HF.out.1,HF.out.2.1.1,HF.out.2.1.2,HF.out.2.2⟩
theorem XX(w)(db sb:Nat)(v)(d F:Nat)(lo hi:Int)(l:AL)(x:Nat)(h:Au w db sb v d F lo hi l)(r:1<=d)(o:d<=24)(t:1<=F)(q:F<=64)
  (u:1<=x)(X :x<2*2^d)(Q:l.length<=4000)(M:AB l<=1000000):
  C prog 178 #[P (S ⟨db,0,N⟩),I J x] w λe w' =>e=R (.bool (DR F l x))/\
   ∃H v',Au w' db H v' d F lo hi (if DR F l x then EU l x else l)/\BV w (Own db sb v) (Own db H v')/\AD (λk=>k=db) w w' :=by
 have b:∀B D:Nat,(∀W,C prog 187 #[.agg #[I J d],I J x] W λe w' =>e=R (I J (B:Nat))/\Below W.heap.size W w')->
   (∀W,C prog 188 #[.agg #[I J d],I J x] W λe w' =>e=R (I J (D:Nat))/\Below W.heap.size W w')->
   (x≠1->B=JN x/\D=x/2)->C prog 178 #[P (S ⟨db,0,N⟩),I J x] w λe w' =>e=R (.bool (DR F l x))/\
   ∃H v',Au w' db H v' d F lo hi (if DR F l x then EU l x else l)/\BV w (Own db sb v) (Own db H v')/\AD (λk=>k=db) w w' :=by
  intro B D p s f;by_cases j:x≠1/\AP l x≠0/\AP l x+AP l B+AP l D<=AB l/F
  ·obtain⟨G,K,Z⟩:=j;obtain⟨rfl,rfl⟩:=f G;have Y:DR F l x=true:=by unfold DR;simp[G,K,Z]
   rw[Y];refine(XW w db sb v d F lo hi l x _ _ h r o t q p s Q M G K Z).mono λe w' ⟨n,H,v',a1,a2,a3,a4⟩=>⟨n,H,v',a1,?_,a4⟩
   rintro k (rfl|rfl|i)
   ·exact .inl (.inl rfl)
   ·exact .inr a2
   ·exact .inr (a3 k i)
  ·have Y:DR F l x=false:=by
    unfold DR;by_cases G:x=1
    ·simp[G]
    ·obtain⟨rfl,rfl⟩:=f G;by_cases K:AP l x=0
     ·simp[K]
     ·have:¬AP l x+AP l (JN x)+AP l (x/2)<=AB l/F:=λZ=>j ⟨G,K,Z⟩;simp[K,this]
   rw[Y];refine(aL w db sb v d F lo hi l x B D h r o t q p s Q M ?_).mono λe w' ⟨n,a⟩=>⟨n,sb,v,h.next a,λk i=>.inl i,AD.of_below a⟩
   by_cases G:x=1
   ·exact .inl G
   ·by_cases K:AP l x=0
    ·exact .inr (.inl K)
    ·exact .inr (.inr (fa λZ=>j ⟨G,K,Z⟩))
 by_cases G:x=1
 ·refine b 0 0 (λW=> ?_) (λW=> ?_) (λg=>absurd G g)
  ·have k:=Tr.beside_any (d:Int) (x:Int) W (by omega) (by omega);rw[G,show((1:Nat):Int)=1 from rfl,eK]at k;rw[G];exact k
  ·have k:=Tr.up_any (d:Int) (x:Int) W (by omega) (by omega);rw[gF d x u X,G]at k;rw[G];exact k
 ·refine b (JN x) (x/2) (λW=> ?_) (λW=> ?_) (λ_=>⟨rfl,rfl⟩)
  ·have k:=Tr.beside_any (d:Int) (x:Int) W (by omega) (by omega);rw[fV d x (by omega) X]at k;exact k
  ·have k:=Tr.up_any (d:Int) (x:Int) W (by omega) (by omega);rw[gF d x u X]at k;exact k
def IF(w:W)(v:V)(l:AM):Prop:=
 l.length<=maxLen/\((l=[]/\∃A c,v=L A 0 c)\/∃b o c,v=L (S ⟨b,o,N⟩) l.length c/\b<w.heap.size/\
  ∀i (h:i<l.length),w.cell? ⟨b,o+i*2,N⟩=S (I J (l[i]'h).1)/\w.cell? ⟨b,o+i*2+1,N⟩=S (I U ((l[i]'h).2:Nat)))
theorem IF.below{w w' v}{l:AM}(h:IF w v l)(G:B w.heap.size w w'):IF w' v l:=by
 obtain⟨K,H⟩:=h;refine⟨K,H.imp id ?_⟩;rintro⟨b,o,c,rfl,D,M⟩;exact⟨b,o,c,rfl,gR D G.size,λi hi=>by rw[G.cell (p:=⟨b,_,N⟩) D,G.cell (p:=⟨b,_,N⟩) D];exact M i hi⟩
theorem XY(l:AM)(x q)(h:q<l.length):Mg (l.take (q+1)) x=Mg (l.take q) x+(if(l[q]'h).1<=x then(l[q]'h).2 else 0):=by
 rw[bw h,Dw];simp[Mg]
theorem J7(l:AM)(x q):Mg (l.take q) x<=Mg l x:=by
 conv=>rhs;rw[<-fy q l,Dw]
 omega
theorem R8(l:AM)(x):Mg l x<=BH l:=by
 induction l with
 |nil=>exact E _
 |cons v l D=>simp only[Mg,BH];split<;>omega
theorem up_any(w v)(l:AM)(x)(h:IF w v l)(hl:BH l<1000000000):
  Calls prog 10 #[v,I J x] w λe w' =>e=R (I U (Mg l x:Nat))/\B w.heap.size w w' :=by
 obtain⟨A,c,Q⟩:∃A c,v=L A l.length c:=by
  rcases h.2 with⟨rfl,A,c,rfl⟩|⟨b,o,c,rfl,_⟩
  ·exact⟨A,c,rfl⟩
  ·exact⟨_,c,rfl⟩
 subst Q;obtain⟨m,Y⟩:∃m,m=l.length:=⟨_,rfl⟩;have t:=Zh Y;have HH:=Zh h;have r:m<=maxLen:=by rw[Y];exact h.1
 unfold maxLen at r;rw[<-Y];have k:=R8 l x;clear Y h;go_enter func10,ntmps10;go_wp2;go_loopg [5,10] m (λg n i wr=>∃q:Nat,i=I J q/\n=I U ((Mg (l.take q) x:Nat):Int)/\q<=m/\m-q<=g/\B w.heap.size w wr);case atStart=>exact⟨0,rfl,rfl,V0 _,E _,B.refl _ _⟩
 case round=>
  obtain⟨q,rfl,rfl,hq,hg,H⟩:=hrel;by_cases f:q<m
  ·have g1:(q:Int)<(m:Int):=by omega
   have D:q<l.length:=by rw[<-t.out];exact f
   rcases HH.out.2 with⟨rfl,_⟩|⟨b,o,c',Q,s,hc⟩
   ·simp at D
   ·simp only[L.injEq]at Q;obtain⟨rfl,_,rfl⟩:=Q;obtain⟨c0,c1⟩:=hc q D;rw[<-H.cell (p:=⟨b,_,N⟩) s]at c0 c1;have G:=XY l x q D;have AA:=J7 l x (q+1);have M:=J7 l x q;have y:=H.size;generalize hX:(l[q]'D).1=X at*;generalize hC:(l[q]'D).2=C at*;have HX:=Zh (Zi hX hC);obtain⟨u,a⟩:∃u,u=Mg (l.take q) x:=⟨_,rfl⟩;rw[<-a]at G M⊢;have Z:=Zh H;clear hX hC H hc;by_cases z:X<=x
    ·rw[if_pos z]at G;have j:=Zh G;have hs:u+C<18446744073709551616:=by omega
     clear G a;go_wp2;go_roundg (m-(q+1));case measure=>omega
     exact⟨q+1,by go_num,by rw[j.out];go_num,by omega,by omega,Z.out.alloc y _⟩
    ·rw[if_neg z]at G;have j:=Zh G;clear G a;go_wp2;go_roundg (m-(q+1));case measure=>omega
     exact⟨q+1,by go_num,by rw[j.out];go_num,by omega,by omega,Z.out.alloc y _⟩
  ·have g1:¬(q:Int)<(m:Int):=by omega
   have K:l.take q=l:=by rw[show q=l.length by have:=t.out;omega,dT]
   rw[K];have Z:=Zh H;clear H K k;go_wp2;go_ret;exact⟨rfl,Z.out⟩
abbrev DG:=List (AM×Bool)
def Dd(w:W)(v:V)(L:DG):Prop:=
 L.length<=maxLen/\((L=[]/\∃A c,v=.slice A 0 c)\/∃b o c,v=.slice (S ⟨b,o,N⟩) L.length c/\b<w.heap.size/\
  ∀i (h:i<L.length),∃u,w.cell? ⟨b,o+i*2,N⟩=S u/\w.cell? ⟨b,o+i*2+1,N⟩=S (.bool (L[i]'h).2)/\IF w u (L[i]'h).1)
theorem Dd.below{w w' v}{L:DG}(h:Dd w v L)(G:B w.heap.size w w'):Dd w' v L:=by
 obtain⟨Q,K⟩:=h;refine⟨Q,K.imp id ?_⟩;rintro⟨b,o,c,rfl,D,Y⟩;exact⟨b,o,c,rfl,gR D G.size,λi hi=>by
  obtain⟨u,H,X,M⟩:=Y i hi;exact⟨u,by rw[G.cell (p:=⟨b,_,N⟩) D];exact H,by rw[G.cell (p:=⟨b,_,N⟩) D];exact X,M.below G⟩⟩
theorem Dd.slice{w v}{L:DG}(h:Dd w v L):∃A c,v=.slice A L.length c:=by
 rcases h.2 with⟨rfl,A,c,rfl⟩|⟨b,o,c,rfl,_⟩
 ·exact⟨A,c,rfl⟩
 ·exact⟨_,c,rfl⟩
theorem IF.slice{w v}{l:AM}(h:IF w v l):∃A c,v=L A l.length c:=by
 rcases h.2 with⟨rfl,A,c,rfl⟩|⟨b,o,c,rfl,_⟩
 ·exact⟨A,c,rfl⟩
 ·exact⟨_,c,rfl⟩
def fK(l:AM):Prop:=l.length<=30/\∀x∈l,x.2<=20
def OC(L:DG):Prop:=L.length<=12/\∀x∈L,fK x.1
def cf(w:W)(L:DG)(a0 a2:Int)(e:Ending)(w' :W):Prop:=∃g:Bool,e=R (.bool g)/\B w.heap.size w w' /\(g=false->OC L/\(a0=1->a2<=100))
theorem Uv(w v)(L:DG)(h:Dd w v L)(a0 a1 a2 a3 a4 a5 a6 a7 a8 a9 a10):
  Calls prog 7 #[.agg #[I J a0,I U a1,I U a2,I J a3,I J a4,I J a5,I U a6,I J a7,I J a8,I J a9,I U a10],v] w (cf w L a0 a2):=by
 obtain⟨A,c,hv⟩:=h.slice;subst hv;obtain⟨m,hm⟩:∃m,m=L.length:=⟨_,rfl⟩;have HM:=Zh hm;have HH:=Zh h;have Al:m<=maxLen:=by rw[hm];exact h.1
 unfold maxLen at Al;rw[<-hm];clear hm h;have b0:B w.heap.size w (w.alloc (.cells #[I J a0,I U a1,I U a2,I J a3,I J a4,I J a5,I U a6,I J a7,I J a8,I J a9,I U a10] 28)):=Za;have k0:AI (w.alloc (.cells #[I J a0,I U a1,I U a2,I J a3,I J a4,I J a5,I U a6,I J a7,I J a8,I J a9,I U a10] 28)) w.heap.size #[I J a0,I U a1,I U a2,I J a3,I J a4,I J a5,I U a6,I J a7,I J a8,I J a9,I U a10] 28:=AI.newAt rfl;go_enter func7,ntmps7;go_wp2;go_loopg [11] m (λg i wr=>∃q:Nat,i=I J q/\q<=m/\m-q<=g/\B w.heap.size w wr/\AI wr w.heap.size #[I J a0,I U a1,I U a2,I J a3,I J a4,I J a5,I U a6,I J a7,I J a8,I J a9,I U a10] 28/\∀x∈L.take q,fK x.1);case atStart=>exact⟨0,rfl,V0 _,E _,b0,k0,λx H=>by simp at H⟩
 case round=>
  clear b0 k0;obtain⟨q,rfl,hq,hg,f,k,hf⟩:=hrel;have HF:=Zh hf;clear hf;by_cases Ac:q<m
  ·have g1:(q:Int)<(m:Int):=by omega
   have D:q<L.length:=by rw[<-HM.out];exact Ac
   rcases HH.out.2 with⟨rfl,_⟩|⟨b,o,c',hv,Ax,hc⟩
   ·simp at D
   ·simp only[V.slice.injEq]at hv;obtain⟨rfl,_,rfl⟩:=hv;obtain⟨u,c0,c1,Z⟩:=hc q D;rw[<-f.cell (p:=⟨b,_,N⟩) Ax]at c0 c1;obtain⟨A',Y,hu⟩:=Z.slice;subst hu;have HV:=Zh Z;have hz:=f.size;obtain⟨n,hn⟩:∃n,n=(L[q]'D).1.length:=⟨_,rfl⟩;have HN:=Zh hn;have Aw:n<=maxLen:=by rw[hn];exact Z.1
    unfold maxLen at Aw;rw[<-hn]at c0;generalize(L[q]'D).2=bt at*;have j:=Zh f;have hK:=Zh k;clear hn Z hc f k;have SB:B w.heap.size w (wr.alloc (.cells #[.slice A' n Y,.bool bt] 55)):=j.out.alloc hz _;have SK:AI (wr.alloc (.cells #[.slice A' n Y,.bool bt] 55)) w.heap.size #[I J a0,I U a1,I U a2,I J a3,I J a4,I J a5,I U a6,I J a7,I J a8,I J a9,I U a10] 28:=AI.alloc hK.out _;have Ay:=hK.out.lt;have SL:AI (wr.alloc (.cells #[.slice A' n Y,.bool bt] 55)) wr.heap.size #[.slice A' n Y,.bool bt] 55:=AI.newAt rfl;by_cases A2:30<n
    ·have g2:(30:Int)<(n:Int):=by omega
     go_wp2;go_ret;exact⟨true,rfl,SB,λh=>by cases h⟩
    ·have g2:¬(30:Int)<(n:Int):=by omega
     clear SL;go_wp2_with fail;go_loopg [22] n (λg2 i2 w2=>∃r:Nat,i2=I J r/\r<=n/\n-r<=g2/\B w.heap.size w w2/\AI w2 w.heap.size #[I J a0,I U a1,I U a2,I J a3,I J a4,I J a5,I U a6,I J a7,I J a8,I J a9,I U a10] 28/\∀x∈(L[q]'D).1.take r,x.2<=20);case atStart=>exact⟨0,rfl,V0 _,E _,SB,SK,λx H=>by simp at H⟩
     case round=>
      clear SB SK;obtain⟨r,rfl,hr,A0,G,M,t⟩:=hrel;have Q:=Zh t;clear t;by_cases Ab:r<n
      ·have g3:(r:Int)<(n:Int):=by omega
       have K:r<(L[q]'D).1.length:=by rw[<-HN.out];exact Ab
       rcases HV.out.2 with⟨h0,_⟩|⟨b',o',c3,AA,Ap,y⟩
       ·rw[h0]at K;simp at K
       ·simp only[V.slice.injEq]at AA;obtain⟨rfl,_,rfl⟩:=AA;obtain⟨d0,d1⟩:=y r K;rw[<-G.cell (p:=⟨b',_,N⟩) Ap]at d0 d1;have Ar:=G.size;obtain⟨C,hC⟩:∃C,C=((L[q]'D).1[r]'K).2:=⟨_,rfl⟩;have HC:=Zh hC;rw[<-hC]at d1;generalize((L[q]'D).1[r]'K).1=X at d0;have z:B w.heap.size w (wr.alloc (.cells #[I J X,I U C] 59)):=G.alloc Ar _;have Av:AI (wr.alloc (.cells #[I J X,I U C] 59)) w.heap.size #[I J a0,I U a1,I U a2,I J a3,I J a4,I J a5,I U a6,I J a7,I J a8,I J a9,I U a10] 28:=AI.alloc M _;have s:=Zh G;have Aa:=Zh M;clear hC y G M;by_cases A1:20<C
        ·have g4:(20:Int)<(C:Int):=by omega
         go_wp2;go_ret;exact⟨true,rfl,z,λh=>by cases h⟩
        ·have g4:¬(20:Int)<(C:Int):=by omega
         go_wp2;go_roundg (n-(r+1));case measure=>omega
         refine⟨r+1,by go_num,by omega,by omega,z,Av,?_⟩;intro x H;rw[bw K,gS,gT]at H;rcases H with H|rfl
         ·exact Q.out x H
         ·have:=HC.out;omega
      ·have g3:¬(r:Int)<(n:Int):=by omega
       have s:=Zh G;have Aa:=Zh M;clear G M;go_wp2;go_roundg (m-(q+1));case measure=>omega
       refine⟨q+1,by go_num,by omega,by omega,s.out,Aa.out,?_⟩;intro x H;rw[bw D,gS,gT]at H;rcases H with H|rfl
       ·exact HF.out x H
       ·refine⟨by rw[<-HN.out];omega,?_⟩;have:=Q.out;rw[show r=(L[q]'D).1.length by have:=HN.out;omega,dT]at this;exact this
  ·have g1:¬(q:Int)<(m:Int):=by omega
   have Q:=Zh (show∀x∈L,fK x.1 by have:=HF.out;rw[show q=L.length by have:=HM.out;omega,dT]at this;exact this);have HC:=Zh (show wr.cell? ⟨w.heap.size,0,N⟩=S (I J a0)/\wr.cell? ⟨w.heap.size,2,N⟩=S (I U a2)from⟨k.cell rfl,k.cell rfl⟩);obtain⟨k0,k2⟩:=HC.out;have j:=Zh f;have e:∀g:Bool,(g=false->m<=12/\(a0=1->a2<=100))->(g=false->OC L/\(a0=1->a2<=100)):=λg h hg=>⟨⟨by rw[<-HM.out];exact(h hg).1,Q.out⟩,(h hg).2⟩
   have a:=Zh e;clear f k HC HF Q e hq hg;by_cases e1:12<m
   ·have f1:decide ((12:Int)<(m:Int))=true:=by simp;omega
    go_wp2_with fail;go_ret;exact⟨true,rfl,j.out,λh=>by cases h⟩
   ·have f1:decide ((12:Int)<(m:Int))=false:=by simp;omega
    by_cases e2:a0=1
    ·have f2:(a0==1)=true:=by simp[e2]
     have HE:=Zh e2;clear e2;by_cases e3:100<a2
     ·have f3:decide ((100:Int)<a2)=true:=by simp;omega
      go_wp2_with fail;go_ret;exact⟨true,rfl,j.out,λh=>by cases h⟩
     ·have f3:decide ((100:Int)<a2)=false:=by simp;omega
      go_wp2_with fail;go_ret;exact⟨false,rfl,j.out,a.out false λ_=>⟨by omega,λ_=>by omega⟩⟩
    ·have f2:(a0==1)=false:=by simp[e2]
     go_wp2_with fail;go_ret;exact⟨false,rfl,j.out,a.out false λ_=>⟨by omega,λh=>absurd h e2⟩⟩
open Go
section
variable {P:Program} {ops:Array Oper} {md:Region.Mode} {C:W->Prop}
def Gp(P:Program)(md:Region.Mode)(ops:Array Oper)(C:W->Prop)(n:Nat)(L:Array Bool->Act->Prop):Nat->Array Bool->Act->Prop
 |0,s,a=>L s a
 |f+1,s,a=>Region.ready md ops s≠ []/\∀i∈Region.ready md ops s,i<n/\qOp P ops C i (Gp P md ops C n L f (s.setIfInBounds i true)) a
theorem F6{n g}{L:Array Bool->Act->Prop}{Q}(Y:∀s a w,C w->L s a->wpAny P md ops Q g s a w):
  ∀(f:Nat) (s:Array Bool) (a:Act) (w:W),C w->Gp P md ops C n L f s a->wpAny P md ops Q (f+g) s a w:=by
 intro f;induction f with
 |zero=>intro s a w D h;rw[gU];exact Y s a w D h
 |succ f M=>
  intro s a w D h;rw[show f+1+g=(f+g)+1 from by omega];exact⟨λH=>absurd H h.1,λi hi=>wpOp_of_qOp D (λX w' G K =>M _ X w' G K) (h.2 i hi).2⟩
theorem Pu{n i oi v}{L:Array Bool->Act->Prop}(hi:ops[i]?=S oi)(Y:∀(j:Nat) (o:Oper) u b,ops[j]?=S o->o.op≠ .select u b)
  (hs:Region.sinkB md ops n=true)(hc:Region.chainB md ops n=true)(hn:n<ops.size)(z:i<n)(q:∀s a,L s a->∀j∈Region.ready md ops s,n<=j):
  ∀(f:Nat) (s:Array Bool) (a:Act),HeadInv md ops n s->
   (∀j r,ops[j]?=S r->j≠i->s.getD j true=false->(∀e∈r.after,Region.binds md e=true->e.on≠i)->oi.apart ops r=true)->
   i∈Region.ready md ops s->YieldsIn P ops C oi v a->Gp P md ops C n L f (s.setIfInBounds i true) (a.put oi.dst v)->Gp P md ops C n L (f+1) s a:=by
 intro f;induction f with
 |zero=>
  intro s a M _ Z hy H;have Q:=(mem_ready.1 Z).1;refine⟨λh=>(by rw[h]at Z;cases Z),λj g=> ?_⟩;have K:j<n:=fa λh=>tail_waits hs hc hn M _ i rfl z Q j h g;refine⟨K,?_⟩;by_cases D:j=i
  ·subst D;exact hy.qOp hi H
  ·have:=q _ _ H j (ready_mono g D);omega
 |succ f ih=>
  intro s a M G Z hy H;have Q:=(mem_ready.1 Z).1;refine⟨λh=>(by rw[h]at Z;cases Z),λj g=> ?_⟩;have K:j<n:=fa λh=>tail_waits hs hc hn M _ i rfl z Q j h g;refine⟨K,?_⟩;by_cases D:j=i
  ·subst D;exact hy.qOp hi H
  ·obtain⟨X,r,p,AA⟩:=mem_ready.1 g;have t:∀e∈r.after,Region.binds md e=true->e.on≠i:=λe he hb Aa=>by
    have h1:=AA e he hb;rw[Aa,getD_both Q]at h1;cases h1
   have h2:=qOp_put p (G j r p D X t) (λu b=>Y i oi u b hi) (λu b=>Y j r u b p) hy (H.2 j (ready_mono g D)).2;refine qOp_mono (λa' h3=>ih (s.setIfInBounds j true) a' (M.set g K) (λk ok hk Ac y Ab=>G k ok hk Ac ?_ Ab) (ready_mono Z (Ne.symm D)) h3.1 ?_) h2
   ·by_cases x:j=k
    ·subst x;exact X
    ·rw[getD_set_ne true x]at y;exact y
   ·rw[Array.setIfInBounds_comm _ _ D];exact h3.2
theorem Uw{n g}{D:Act->Prop}(G:Region.noSelect ops=true)(t:Region.sinkB md ops n=true)(hc:Region.chainB md ops n=true)(u:n<ops.size):
  ∀(l:List Oper) (k:Nat) (s:Array Bool) (a:Act),(∀j,j<l.length->l[j]?=ops[k+j]?)->k+l.length=n->HeadInv md ops n s->
  Region.lexHead md ops g l.length k s=true->wpQuiet P ops C D l a->Gp P md ops C n (λe i =>Region.seqB md ops g n e =true/\D i) l.length s a:=by
 intro l;induction l with
 |nil=>
  intro k s a _ Z _ M h;have b :k=n:=by simpa using Z
  rw[b]at M;exact⟨M,h⟩
 |cons o l x=>
  intro k s a f Z K M h;have Q:ops[k]?=S o:=by simpa using(f 0 (by simp)).symm
  simp only[gV,Region.lexHead,ag]at M;obtain⟨⟨r,p⟩,X⟩:=M;simp only[gV]at Z;have H :k∈Region.ready md ops s:=by simpa using r
  have Y:qOp P ops C k (wpQuiet P ops C D l) a:=by unfold qOp;simp only[Q];exact h
  obtain⟨v,q,z⟩:=yieldsIn_of_qOp Q Y;refine Pu Q (Region.noSelect_spec G) t hc u (by omega) (λe i y=>seqB_ready y.1) l.length s a K (Region.free_spec Q p) H q ?_;exact x (k+1) _ _ (λj hj=>by have:=f (j+1) (by simp;omega);simpa[Nat.add_assoc,Nat.add_comm 1 j]using this) (by omega) (K.set H (by omega)) X z
theorem AS{id Q a w}{l:List Oper}(n)(y:P.follows .mixedOrders=true)(p:Region.lexTailB .any l.toArray n=true)(q:C w.drew)
  (h:wpQuiet P l.toArray C (λZ =>∀w',C w' ->wpList P l.toArray Q (l.drop n) Z w') (l.take n) a):(Code.region id l.toArray true).wp P Q a w:=by
 simp only[Region.lexTailB,ag,decide_eq_true_eq]at p;obtain⟨⟨⟨⟨M,i⟩,x⟩,z⟩,K⟩:=p;have u :n<l.length:=by simpa using i
 have D:(l.take n).length=n:=by simp;omega
 have X:(l.drop n).length=l.toArray.size-n:=by simp
 have G:HeadInv .any l.toArray n (Array.replicate l.toArray.size false):=
  ⟨by simp,λj oj _ f=>(by rw[getD_replicate_false]at f;cases f),λt _ r=>getD_in (by simpa using r) (getD_replicate_false _ _)⟩
 have H:=Uw (md:=.any) (g:=l.toArray.size-n) M x z i (l.take n) 0 _ a (λj o=>by
  have b :j<n:=by rw[D]at o;exact o
  simp[b]) (by simpa using D) G (by rw[D];exact K) h
 refine wp_region_any y ?_;have k:=F6 (Q:=Q) (g:=l.toArray.size-n) (λs Z w' Y e=>by
  have:=wpAny_of_seq (md:=.any) (Q' :=Q) (l.drop n) n s Z w' (λj=>by simp[List.getElem?_drop]) (by rw[X];exact e.1) (e.2 w' Y);rwa [X]at this) _ _ _ _ q H
 rw[D,show n+(l.toArray.size-n)=l.toArray.size from by omega]at k;exact k
end
def Ae(a0 a1 a2 a3 a4 a5 a6 a7 a8 a9 a10:Int):Array Value:= #[I J a0,I U a1,I U a2,I J a3,I J a4,I J a5,I U a6,I J a7,I J a8,I J a9,I U a10]
def DK(l:AM):Prop:=∀x∈l,Am x.1/\x.2<=20
def OD(Sk:W->Nat->(Nat->Prop)->AM->Prop)(vals:AM)(w:W)(e:Ending)(w' :W):Prop:=∃(po:Option Addr) (code:Int),e=R (T #[P po,I J code])/\B w.heap.size w w' /\
 (code=0->∃kb O,po=S ⟨kb,0,N⟩/\Sk w' kb O vals/\∀k,O k->w.heap.size<=k)
def Ux(Sk:W->Nat->(Nat->Prop)->AM->Prop)(P:Int×Nat->Bool)(w:W)(kb:Nat)(O:Nat->Prop)(vals:AM)(x:Int×Nat)(e:Ending)(w' :W):Prop:=∃(code:Int) (O' :Nat->Prop),e=R (I J code)/\
 (code=0↔P x=true)/\Sk w' kb O' (if P x then vals++ [x]else vals)/\BV w O O' /\AD O w w'
def XZ(Sk:W->Nat->(Nat->Prop)->AM->Prop)(w:W)(kb:Nat)(O:Nat->Prop)(vals more:AM)(e:Ending)(w' :W):Prop:=∃(code:Int) (O' :Nat->Prop),e=R (I J code)/\
 (code=0->Sk w' kb O' (vals++more))/\BV w O O' /\AD O w w'
def cg(Enc:List UInt8->AM->Prop)(vals:AM)(w:W)(e:Ending)(w' :W):Prop:=∃s,e=R (.string (bs s))/\Enc s vals/\B w.heap.size w w'
structure Kind(cv:Array V)(Sk:W->Nat->(Nat->Prop)->AM->Prop)(Enc:List UInt8->AM->Prop)(P:Int×Nat->Bool):Prop where
 next:∀{w w' :W} {kb:Nat} {O:Nat->Prop} {vals:AM},Sk w kb O vals->B w.heap.size w w' ->Sk w' kb O vals
 away:∀{w w' :W} {kb:Nat} {O G:Nat->Prop} {vals:AM},Sk w kb O vals->AD G w w' ->(∀k,O k->¬G k)->Sk w' kb O vals
 lt:∀{w:W} {kb:Nat} {O:Nat->Prop} {vals:AM},Sk w kb O vals->∀k,O k->k<w.heap.size
 ty:∀{w:W} {kb:Nat} {O:Nat->Prop} {vals:AM},Sk w kb O vals->∀k,O k->∀cs,¬AI w k cs 59/\¬AI w k cs 34
 new:∀w,Sp.Tens w->C prog 17 #[.agg cv] w (OD Sk [] w)
 put:∀(w:W) (kb:Nat) (O:Nat->Prop) (vals:AM) (x:Int×Nat),Sk w kb O vals->DK vals->vals.length<30->Am x.1->x.2<=20->C prog 18 #[.pointer (S ⟨kb,0,none⟩),I J x.1,I U (x.2:Nat)] w (Ux Sk P w kb O vals x)
 bytes:∀(w:W) (kb:Nat) (O:Nat->Prop) (vals:AM),Sk w kb O vals->DK vals->vals.length<=360->C prog 14 #[.pointer (S ⟨kb,0,none⟩)] w (cg Enc vals w)
 decode:∀(w:W) (s:List UInt8) (vals:AM),Sp.Tens w->Enc s vals->DK vals->vals.length<=360->C prog 19 #[.string (bs s)] w (OD Sk vals w)
 join:∀(w:W) (kb nb:Nat) (O N:Nat->Prop) (vals more:AM),Sk w kb O vals->Sk w nb N more->(∀k,O k->¬N k)->DK vals->DK more->vals.length+more.length<=360->
  C prog 22 #[.pointer (S ⟨kb,0,none⟩),.pointer (S ⟨nb,0,none⟩)] w (XZ Sk w kb O vals more)
theorem Kind.drew{cv}{Sk:W->Nat->(Nat->Prop)->AM->Prop}{Enc:List UInt8->AM->Prop}{P:Int×Nat->Bool}(K:Kind cv Sk Enc P){w kb O}{vals:AM}(h:Sk w kb O vals):Sk w.drew kb O vals:=
 K.next h (B.refl _ _).drew
def R9(x:Int×Nat):List Value:=[I J x.1,I U x.2]
def De(l:AM):List Value:=l.flatMap R9
theorem Iu(l m:AM):De (l++m)=De l++De m:=List.flatMap_append
theorem OE(l:AM):(De l).length=l.length*2:=by
 induction l with
 |nil=>rfl
 |cons x l D=>unfold De at D⊢;rw[List.flatMap_cons,ej,D];simp[R9];omega
theorem Uy(l:AM):∀u∈De l,u.oneCell' =true:=λu D=>by
 unfold De at D
 obtain⟨x,_,G⟩:=List.mem_flatMap.1 D
 simp[R9]at G
 rcases G with rfl|rfl<;>rfl
theorem Xa:(prog.info? 59).map (λi=>(i.zero,i.size,i.bytes))=S (S (.agg #[I J 0,I U 0]),2,16):=by kernel_rfl
structure Wi(Sk:World->Nat->(Nat->Prop)->AM->Prop)(w:World)(kb:Nat)(O:Nat->Prop)(sv vals:AM)(A:Option Addr)(c:Nat)(lf:Array V)(W:World):Prop where
 sk:Sk W kb O sv
 own:W.ownsRow w.heap.size 59 2 (L A vals.length c) vals.length (De vals)
 below:B w.heap.size w W
 new:∀k,O k->w.heap.size+2<=k
 leaf:AI W (w.heap.size+1) lf 55
section
variable {cv:Array V} {Sk:World->Nat->(Nat->Prop)->AM->Prop} {Enc:List UInt8->AM->Prop} {P:Int×Nat->Bool} {w:World} {kb:Nat} {O:Nat->Prop} {sv vals:AM} {A:Option Addr} {c:Nat} {lf:Array V} {W W' :World}
theorem Wi.ap(K:Kind cv Sk Enc P)(h:Wi Sk w kb O sv vals A c lf W):∀g,(L A vals.length c).ownBlock=S g->¬O g:=λg H G=>by
 obtain⟨D,M⟩:=AJ h.own H
 exact(K.ty h.sk g G D).1 M
theorem Wi.next(K:Kind cv Sk Enc P)(h:Wi Sk w kb O sv vals A c lf W)(D:B W.heap.size W W'):Wi Sk w kb O sv vals A c lf W' :=
 ⟨K.next h.sk D,AE h.own D λg G=>(h.own.lt g G).2,h.below.trans (D.mono h.below.size),h.new,h.leaf.below D h.leaf.lt⟩
theorem Wi.put(K:Kind cv Sk Enc P)(h:Wi Sk w kb O sv vals A c lf W){Q}{H :AM}(Y:Sk W' kb Q H)(G:BV W O Q)(M:AD O W W'):Wi Sk w kb Q H vals A c lf W' :=by
 have Z:=h.leaf.lt;refine⟨Y,AU h.own M (h.ap K),h.below.trans (M.below h.below.size λk X D=>by have:=h.new k D;omega),λk X=> ?_,h.leaf.away M λD=>by have:=h.new _ D;omega⟩;rcases G k X with D|D
 ·exact h.new k D
 ·omega
theorem SC(K:Kind cv Sk Enc P){ops}{rest:List Oper}{o a Q}(Z:o.guard=N)(s x)(z:o.op=.call {callee:=.builtin .append,args:= #[s,x],argTypes:= #[35,35]})
  (S:Wi Sk w kb O sv vals A c lf W)(n:vals.length<=100000)(X:Int)(C:Nat)(hs:a.eval s=L A vals.length c)(hx:a.eval x=L (some ⟨W.heap.size,0,N⟩) 1 1)
  (h:∀A' c' M,Wi Sk w kb O sv (vals++ [(X,C)]) A' c' lf M->wpList prog ops Q rest (a.put o.dst (L A' (vals++ [(X,C)]).length c')) M):
  wpList prog ops Q (o::rest) a (W.alloc (.cells #[I J X,I U C] 59)):=by
 obtain⟨i0,hi,g,i,b⟩:=info_parts Xa;have t:=S.below.size;have G:=S.next K ((B.refl _ _).alloc (E _) (.cells #[I J X,I U C] 59));refine wpList_append_own _ Z s x 35 z w.heap.size 59 i0 _ 2 16 underlying35 hi g i b rfl (by decide) _ _ _ hs G.own _ 1 1 (R9 (X,C)) hx rfl ?_ ?_ (by unfold maxLen;omega) (by omega) (by simp;omega) ?_
 ·intro j y hj;rw[Addr.add_lit,gU];exact(AI.newAt rfl).cell (by simpa[R9]using hj)
 ·intro y p;simp[R9]at p;rcases p with rfl|rfl<;>rfl
 intro v' M D H _;have e1:vals.length+1=(vals++ [(X,C)]).length:=by simp
 have r:De vals++R9 (X,C)=De (vals++ [(X,C)]):=by rw[Iu];rfl
 rw[e1,r]at D;obtain⟨A',c',hv⟩:=AF D;subst hv;have f:AD (λk=>(L A vals.length c).ownBlock=some k) (W.alloc (.cells #[I J X,I U C] 59)) M:=AD.of_grown H λk Y=>Y;refine h A' c' M ⟨K.away G.sk f λk q Y=>G.ap K k Y q,D,G.below.trans (f.below (by simp;omega) λk Y e=>by have:=(S.own.lt k e).1;omega),S.new,G.leaf.away f λe=> ?_⟩;obtain⟨u,hc⟩:=AJ G.own e;exact(hc.ne G.leaf (by decide)) rfl
end
structure It where
 kb:Nat
 own:Nat->Prop
 vals:AM
def FZ(rk:List Nat):List Value:=rk.map λk=>P (S ⟨k,0,N⟩)
theorem J9(a b):FZ (a++b)=FZ a++FZ b:=List.map_append
theorem FG(a):(FZ a).length=a.length:=by simp[FZ]
theorem Pv(a):∀u∈FZ a,u.oneCell' =true:=λu D=>by
 unfold FZ at D
 obtain⟨k,_,rfl⟩:=List.mem_map.1 D
 rfl
theorem Kz(a i)(h:i<a.length):(FZ a)[i]?=S (P (S ⟨a[i]'h,0,N⟩)):=by simp[FZ,h]
theorem Xb:(prog.info? 34).map (λi=>(i.zero,i.size,i.bytes))=S (S (P N),1,8):=by kernel_rfl
structure IG(Sk:World->Nat->(Nat->Prop)->AM->Prop)(w:World)(cv:Array V)(ks:List It)(rk:List Nat)(al:AM)(rv av:V)(W:World):Prop where
 sk:∀x∈ks,Sk W x.kb x.own x.vals
 ap:ks.Pairwise λx y=>∀k,x.own k->¬y.own k
 new:∀x∈ks,∀k,x.own k->w.heap.size+1<=k
 row:W.ownsRow w.heap.size 34 1 rv rk.length (FZ rk)
 all:W.ownsRow w.heap.size 59 2 av al.length (De al)
 below:B w.heap.size w W
 cfg:AI W w.heap.size cv 28
section
variable {cv:Array V} {Sk:World->Nat->(Nat->Prop)->AM->Prop} {Enc:List UInt8->AM->Prop} {P:Int×Nat->Bool} {w:World} {ks:List It} {rk:List Nat} {al:AM} {rv av:V} {W W' :World}
theorem IG.next(K:Kind cv Sk Enc P)(h:IG Sk w cv ks rk al rv av W)(D:B W.heap.size W W'):IG Sk w cv ks rk al rv av W' :=
 ⟨λx H=>K.next (h.sk x H) D,h.ap,h.new,AE h.row D λg G=>(h.row.lt g G).2,AE h.all D λg G=>(h.all.lt g G).2,h.below.trans (D.mono h.below.size),h.cfg.below D h.cfg.lt⟩
theorem IG.drew(h:IG Sk w cv ks rk al rv av W)(K:Kind cv Sk Enc P):IG Sk w cv ks rk al rv av W.drew:=h.next K (B.refl _ _).drew
theorem IG.add(K:Kind cv Sk Enc P)(h:IG Sk w cv ks rk al rv av W)(Z:B W.heap.size W W')(y:It)(Y:Sk W' y.kb y.own y.vals)(Q:∀k,y.own k->W.heap.size<=k):IG Sk w cv (ks++ [y]) rk al rv av W' :=by
 have M :=h.next K Z;have X:=h.cfg.lt;refine⟨λx D=> ?_,List.pairwise_append.2 ⟨h.ap,by simp,λx D z X k H G=> ?_⟩,λx D k H=> ?_,M.row,M.all,M.below,M.cfg⟩
 ·rcases List.mem_append.1 D with D|D
  ·exact M.sk x D
  ·rw[List.mem_singleton.1 D];exact Y
 ·rw[List.mem_singleton.1 X]at G;have b:=K.lt (h.sk x D) k H;have a:=Q k G;omega
 ·rcases List.mem_append.1 D with D|D
  ·exact h.new x D k H
  ·rw[List.mem_singleton.1 D]at H;have:=Q k H;omega
theorem IG.rowTo(K:Kind cv Sk Enc P)(h:IG Sk w cv ks rk al rv av W){G rv'}(b:W'.ownsRow w.heap.size 34 1 rv' G.length (FZ G))(Y:W.grownBy W' rv.ownBlock):IG Sk w cv ks G al rv' av W' :=by
 have Q:AD (λk=>rv.ownBlock=S k) W W' :=AD.of_grown Y λk M=>M;refine⟨λx a=>K.away (h.sk x a) Q λk M e=> ?_,h.ap,h.new,b,AU h.all Q λg Y e=> ?_,h.below.trans (Q.below h.below.size λk M e=>by have:=(h.row.lt k e).1;omega),h.cfg.away Q λe=> ?_⟩
 ·obtain⟨D,H⟩:=AJ h.row e;exact(K.ty (h.sk x a) k M D).2 H
 ·obtain⟨D,H⟩:=AJ h.row e;obtain⟨Z,X⟩:=AJ h.all Y;exact(H.ne X (by decide)) rfl
 ·obtain⟨D,H⟩:=AJ h.row e;exact(H.ne h.cfg (by decide)) rfl
theorem IG.allTo(K:Kind cv Sk Enc P)(h:IG Sk w cv ks rk al rv av W){G :AM}{H}(f:W'.ownsRow w.heap.size 59 2 H G.length (De G))(Z:W.grownBy W' av.ownBlock):IG Sk w cv ks rk G rv H W' :=by
 have X:AD (λk=>av.ownBlock=S k) W W' :=AD.of_grown Z λk Q=>Q;refine⟨λx b=>K.away (h.sk x b) X λk Q e=> ?_,h.ap,h.new,AU h.row X λg Z e=> ?_,f,h.below.trans (X.below h.below.size λk Q e=>by have:=(h.all.lt k e).1;omega),h.cfg.away X λe=> ?_⟩
 ·obtain⟨D,M⟩:=AJ h.all e;exact(K.ty (h.sk x b) k Q D).1 M
 ·obtain⟨D,M⟩:=AJ h.all e;obtain⟨a,Y⟩:=AJ h.row Z;exact(M.ne Y (by decide)) rfl
 ·obtain⟨D,M⟩:=AJ h.all e;exact(M.ne h.cfg (by decide)) rfl
theorem IG.rowNew(h:IG Sk w cv ks rk al rv av W){D rv'}(G:W.ownsRow w.heap.size 34 1 rv' D.length (FZ D)):IG Sk w cv ks D al rv' av W:=⟨h.sk,h.ap,h.new,G,h.all,h.below,h.cfg⟩
theorem IG.join(K:Kind cv Sk Enc P){H G:List It}{x y:It}(h:IG Sk w cv (H++x::y::G) rk al rv av W){s}{vs:AM}(hs:Sk W' x.kb s vs)(f:BV W x.own s)(n:AD x.own W W'):IG Sk w cv (H++⟨x.kb,s,vs⟩::G) rk al rv av W' :=by
 have D:=h.cfg.lt;have r:x∈H++x::y::G:=by simp
 have a:=List.pairwise_append.1 h.ap;have b:=List.pairwise_cons.1 a.2.1;have p:=List.pairwise_cons.1 b.2;have q:=h.sk x r;have X:∀z∈H,z∈H++x::y::G:=λz D=>List.mem_append_left _ D;have M:∀z∈G,z∈H++x::y::G:=λz D=>List.mem_append_right _ (Pa _ (Pa _ D));have o:∀z,z∈H++x::y::G->(∀k,z.own k->¬x.own k)->∀k,z.own k->¬s k:=λz D hd k Y t=>by
  rcases f k t with e|e
  ·exact hd k Y e
  ·have:=K.lt (h.sk z D) k Y;omega
 have i:∀z∈H,∀k,z.own k->¬x.own k:=λz D=>a.2.2 z D x (fw ..);have Z:∀z∈G,∀k,z.own k->¬x.own k:=λz D k Y e=>b.1 z (Pa _ D) k e Y;refine⟨λz D=> ?_,List.pairwise_append.2 ⟨a.1,List.pairwise_cons.2 ⟨λz D k t Y=>o z (M z D) (Z z D) k Y t,p.2⟩,λz D u hu=> ?_⟩,λz Q k Y=> ?_,AU h.row n λg hg e=> ?_,AU h.all n λg hg e=> ?_,h.below.trans (n.below h.below.size λk Y e=>by have:=h.new x r k e;omega),h.cfg.away n λe=>by have:=h.new x r _ e;omega⟩
 ·rcases List.mem_append.1 D with D|D
  ·exact K.away (h.sk z (X z D)) n (i z D)
  ·rcases List.mem_cons.1 D with rfl|D
   ·exact hs
   ·exact K.away (h.sk z (M z D)) n (Z z D)
 ·rcases List.mem_cons.1 hu with rfl|hu
  ·exact o z (X z D) (i z D)
  ·exact a.2.2 z D u (Pa _ (Pa _ hu))
 ·rcases List.mem_append.1 Q with Q |Q
  ·exact h.new z (X z Q) k Y
  ·rcases List.mem_cons.1 Q with rfl|Q
   ·rcases f k Y with e|e
    ·exact h.new x r k e
    ·omega
   ·exact h.new z (M z Q) k Y
 ·obtain⟨j,hc⟩:=AJ h.row hg;exact(K.ty q g e j).2 hc
 ·obtain⟨j,hc⟩:=AJ h.all hg;exact(K.ty q g e j).1 hc
theorem Pw(K:Kind cv Sk Enc P){ops}{rest:List Oper}{o a Q}(b:o.guard=N)(s x)(ho:o.op=.call {callee:=.builtin .append,args:= #[s,x],argTypes:= #[68,68]})
  {X k}(S:IG Sk w cv ks rk al rv av W)(B)(z:w.heap.size<=B)(r:B<=W.heap.size)(M:W.ownsRow B 34 1 k X.length (FZ X))(G p c)(y:X.length+G.length<=100000)(hs:a.eval s=k)(hx:a.eval x=L (some p) G.length c)
  (hc:∀i (h:i<G.length),W.cell? (p.add i)=some (.pointer (some ⟨G[i]'h,0,N⟩)))
  (h:∀A' c' Y,IG Sk w cv ks (X++G) al (L A' (X++G).length c') av Y->Y.ownsRow B 34 1 (L A' (X++G).length c') (X++G).length (FZ (X++G))->W.grownBy Y k.ownBlock->wpList prog ops Q rest (a.put o.dst (L A' (X++G).length c')) Y):wpList prog ops Q (o::rest) a W:=by
 obtain⟨i0,hi,e,n,q⟩:=info_parts Xb;have S1:=S.rowNew (AO M λg f=>RR z (M.lt g f).1);refine wpList_append_own _ b s x 68 ho B 34 i0 _ 1 8 underlying68 hi e n q rfl (by decide) _ _ _ hs M p G.length c (FZ G) hx (by rw[FG];omega) ?_ (Pv G) (by unfold maxLen;omega) (by omega) r ?_
 ·intro j u t;have Z:j<G.length:=by have:=(List.getElem?_eq_some_iff.1 t).1;rwa [FG]at this
  rw[Kz G j Z]at t;rw[hc j Z];exact t
 intro v' Y D H _;rw[<-J9,<-ej]at D;obtain⟨A',c',hv⟩:=AF D;subst hv;exact h A' c' Y (S1.rowTo K (AO D λg f=>RR z (D.lt g f).1) H) D H
theorem Hf(K:Kind cv Sk Enc P){ops o a L Q}{D:Prop}(k:o.guard=none)(s x)(ho:o.op=.call {callee:=.builtin .append,args:= #[s,x],argTypes:= #[68,68]})
  {f r}(S:IG Sk w cv ks rk al rv av W)(B)(hB:w.heap.size<=B)(AA:B<=W.heap.size)(M:W.ownsRow B 34 1 r f.length (FZ f))(Y y n c)(hn:Y.length=n)(H N)(b:f++Y=H)(hN:H.length=N)(Aa:f.length+Y.length<=100000)(hs:a.eval s=r)(hx:a.eval x=.slice (some y) n c)
  (hc:∀i (h:i<Y.length),W.cell? (y.add i)=some (.pointer (some ⟨Y[i]'h,0,none⟩)))
  (h:∀A' c' Z,IG Sk w cv ks H al (.slice A' N c') av Z/\Z.ownsRow B 34 1 (.slice A' N c') H.length (FZ H)/\W.grownBy Z r.ownBlock->L (a.put o.dst (.slice A' N c')) Z):
  if Region.wanted o (yielded ops a.tmps)=true then Oper.wp prog o a W L Q else D:=by
 have hw:Region.wanted o (yielded ops a.tmps)=true:=by simp[Region.wanted,k]
 rw[if_pos hw];subst hn b hN;obtain⟨i0,hi,p,t,z⟩:=info_parts Xb;have S1:=S.rowNew (AO M λg q=>RR hB (M.lt g q).1);refine wp_append_own W s x 68 ho B 34 i0 _ 1 8 underlying68 hi p t z rfl (by decide) _ _ _ hs M y Y.length c (FZ Y) hx (by rw[FG];omega) ?_ (Pv Y) (by unfold maxLen;omega) (by omega) AA ?_
 ·intro j u hj;have e:j<Y.length:=by have:=(List.getElem?_eq_some_iff.1 hj).1;rwa [FG]at this
  rw[Kz Y j e]at hj;rw[hc j e];exact hj
 intro v' Z G X _;rw[<-J9,<-ej]at G;obtain⟨A',c',hv⟩:=AF G;subst hv;exact h A' c' Z ⟨S1.rowTo K (AO G λg q=>RR hB (G.lt g q).1) X,G,X⟩
theorem Px(K:Kind cv Sk Enc P){ops}{rest:List Oper}{o a Q}(H:o.guard=N)(s x)(n:o.op=.call {callee:=.builtin .append,args:= #[s,x],argTypes:= #[35,35]})
  (S:IG Sk w cv ks rk al rv av W){m:AM}{t}(r:W.ownsRow 0 59 2 t m.length (De m))(i:al.length+m.length<=100000)(p:a.eval s=av)(q:a.eval x=t)
  (h:∀A' c' M,IG Sk w cv ks rk (al++m) rv (L A' (al++m).length c') M->wpList prog ops Q rest (a.put o.dst (L A' (al++m).length c')) M):wpList prog ops Q (o::rest) a W:=by
 obtain⟨k,hi,X,Z,b⟩:=info_parts Xa;rcases AH r with⟨rfl,f,y⟩|⟨g,Y,rfl,f,y,h3,h4⟩
 ·have:m=[]:=List.eq_nil_of_length_eq_zero f;subst this;rw[List.append_nil]at h;obtain⟨A',c',e⟩:=AF S.all;subst e;exact wpList_append_own_none H s x 35 n w.heap.size 59 k 2 underlying35 hi _ al.length (De al) p S.all q (h A' c' W S)
 ·refine wpList_append_own _ H s x 35 n w.heap.size 59 k _ 2 16 underlying35 hi X Z b rfl (by decide) _ _ _ p S.all ⟨g,0,N⟩ m.length Y (De m) q (OE m) ?_ (Uy m) (by unfold maxLen;omega) (by omega) S.below.size ?_
  ·intro j u z;exact r.cells rfl j u z
  intro v' M D G _;rw[<-Iu,<-ej]at D;obtain⟨A',c',e⟩:=AF D;subst e;exact h A' c' M (S.allTo K D G)
end
end Go.Proofs.YtbejdajkkoapgaaGreatDoor
