/-
  Lemmas and walks for coreBurst.proved, joined and squeezed by a program out of the loose texts Le, Lp, Lm, J14, Lt, Lu, Ri. Conditions: each theorem states its own.
-/
import Derived.Test.YtbejdajkkoapgaaGreatDoorU06
import Derived.Test.YtbejdajkkoapgaaGreatDoorU02
import Derived.Test.YtbejdajkkoapgaaGreatDoorU01
import Derived.Test.YtbejdajkkoapgaaGreatDoorU05
import Derived.Test.YtbejdajkkoapgaaGreatDoorU03
set_option linter.all false
set_option maxRecDepth 100000
set_option maxHeartbeats 40000000
open Go.RowKit Go.Lib Go.Proofs.Tryz
open Bool renaming false_eq_true->fa
open Go renaming Calls->C,Value->V,World->W
open Go.Ending renaming returned->R
open Go.IntKind renaming i64->J,u64->U,wrap_i64->fj,wrap_u64->NW
open Go.RowKit renaming Below->B
open Go.Value renaming int->I,pointer->P,slice->L,tuple->T
open List renaming append_nil->es,flatMap_cons->fp,flatMap_nil->fw,foldl_cons->V0,getElem_mem->Pa,length_append->ag,mem_cons_of_mem->gQ,mem_cons_self->dT,take_length->bw,take_succ_eq_append_getElem->aw,take_zero->bh
open Nat renaming le_refl->E,le_trans->Q0,lt_or_ge->fx,lt_succ_self->ej,zero_le->RR
open Option renaming getD_some->fy,none->N,some->S,some.injEq->fk
namespace Go.Proofs.YtbejdajkkoapgaaGreatDoor
theorem NA:KD []=T #[I J 0,I J 0,.bool false]:=rfl
theorem LU{l:AL}(D:l≠ []):KD l=T #[I J ((BL true l:Nat):Int),I J ((BL false l:Nat):Int),.bool true]:=by
 have A:(!l.isEmpty)=true:=by cases l<;>simp_all
 unfold KD;rw[A]
theorem I5{hi}{l:AL}(A:l≠ [])(h:∀x∈l,x.1<4096):BL hi l<4096:=by
 cases hi with
 |true=>cases l with
  |nil=>exact absurd rfl A
  |cons x l=>exact h x dT
 |false=>
  have e:BL false l=(l.getLast A).1:=by unfold BL;rw[List.getLast?_eq_some_getLast A];rfl
  rw[e];exact h _ (List.getLast_mem A)
theorem YH(hi){l:AL}(A:l≠ []):(Ds hi l).length<l.length:=by
 have:=List.length_pos_iff.2 A;rw[LJ];omega
theorem cE(w)(cb i e M:Nat)(Y:w.cell? ⟨cb,0,N⟩=S (I J M))(A:1<=M)(D:M<=4096)(hi:i<4096)(F:e<4096):
  C prog 140 #[P (S ⟨cb,0,N⟩),I J i,I J e] w λr w' =>r=R (.bool (BZ false M i e))/\w=w' :=by
 have G:U.wrap (e:Int)=(e:Int):=by rw[NW];omega
 have K:U.wrap (i:Int)=(i:Int):=by rw[NW];omega
 have H:U.wrap (M:Int)=(M:Int):=by rw[NW];omega
 by_cases g:(i:Int)<(e:Int)
 ·have X:U.wrap ((e:Int)-(i:Int))=(e:Int)-(i:Int):=by rw[NW];omega
  have f:BZ false M i e=decide ((M:Int)<=(e:Int)-(i:Int)):=by
   unfold BZ;simp only[fa,if_false,if_true];exact decide_eq_decide.2 (by omega)
  rw[f];clear f A D hi F;go_enter func140,ntmps140;go_wp2_with fail;go_ret;exact⟨rfl,rfl⟩
 ·have f:BZ false M i e=false:=by unfold BZ;simp;omega
  rw[f];clear f A D hi F;go_enter func140,ntmps140;go_wp2_with fail;go_ret;exact⟨rfl,rfl⟩
theorem eO{M}(w cb sb v)(k:AL)(T)(S:DM false M w cb sb v k T):
  C prog 139 #[P (some ⟨cb,0,N⟩)] w λr w' =>r=R (.tuple #[I J ((BL false k:Nat):Int),.bool (!k.isEmpty)])/\B w.heap.size w w' :=by
 obtain⟨G,H,K,X⟩:=S.cells;have A:=FJ w sb v k S.st;unfold KD at A;generalize((BL true k:Nat):Int)=x0 at*;generalize((BL false k:Nat):Int)=x1 at*;generalize(!k.isEmpty)=ne at*;clear S;go_enter func139,ntmps139;go_wp2_with(go_at_call 145;refine A.mono ?_;rintro e F ⟨rfl,D⟩);go_ret2;exact⟨rfl,D⟩
theorem dE{M:Nat}(Av:1<=M)(Ay:M<=4096)(w)(cb:Nat)(O)(k:AL)(T:Nat)(h:BU false M k T w cb O)(i:Nat)(Ab:i<4096)(t:k.length<=1000000)(hT:T<=9223372036854775807):
  C prog 141 #[P (some ⟨cb,0,N⟩),I J i] w λe w' =>e=R (.tuple #[])/\Bi false M w cb O (CW (λj=> !BZ false M j i) k) T w' :=by
 have R0:=Bi.start h;have y:=Zh (Zi Ab (Zi t hT));clear h Ab t hT;go_enter func141,ntmps141;go_wp2_with fail;go_loopg [4,5,6,7,8] k.length (λg _ _ _ _ _ wr=>∃A,Bi false M w cb O A T wr/\CW (λj=> !BZ false M j i) A =CW (λj=> !BZ false M j i) k/\A.length<=g/\A.length<=k.length);case atStart=>exact⟨k,R0,rfl,E _,E _⟩
 case round=>
  clear R0;obtain⟨A,hR,hc,hg,Ap⟩:=hrel;have q:=Zh hR;obtain⟨O',⟨sb,v,S,rfl⟩,hs,ha⟩:=hR;obtain⟨c0,c1,c2,f2⟩:=S.cells;have D:=FJ wr sb v A S.st;by_cases a:A =[]
  ·subst a;rw[NA]at D;have HC:=Zh hc;clear S hs ha hc c2 f2;go_wp2_with(go_at_call 145;refine D.mono ?_;rintro e Y ⟨rfl,K⟩);refine bodyPost_ret (results_none rfl _ _ _) rfl ?_;exact⟨rfl,HC.out▸q.out.next K⟩
  ·rw[LU a]at D;have X:=S.low;have x:Fc false A <4096:=I5 a X;obtain⟨fr,H⟩:∃fr,fr=Fc false A :=⟨_,rfl⟩;have hx:((BL true A :Nat):Int)=(fr:Int):=by rw[H];rfl
   rw[hx]at D;generalize((BL false A :Nat):Int)=x1 at D;rw[<-H]at x;have ho:=λW (c:W.cell? ⟨cb,0,N⟩=some (I J M))=>cE W cb fr i M c Av Ay x y.out.1;obtain⟨fb,Z⟩:∃fb,fb=BZ false M fr i:=⟨_,rfl⟩;rw[<-Z]at ho;have S0:=Zh (Zi S (Zi hs ha));have HC:=Zh hc;cases fb with
   |false=>
    have u:=T5 (p:=λj=> !BZ false M j i) (T7 S.st.rising (by rw[<-H];exact Z.symm));have f:=Zh (show∀W,B wr.heap.size wr W->Bi false M w cb O (CW (λj=> !BZ false M j i) k) T W from λW b=>by
     have e:A =CW (λj=> !BZ false M j i) k:=u.symm.trans HC.out;exact e▸q.out.next b)
    clear S hs ha hc c2 f2 u q HC H Z hx X a;go_wp2_with fail;refine D.mono ?_;rintro e Y ⟨rfl,K⟩;have o:=ho Y ((S0.out.1.next K).cells.1);clear ho D;have HB:=Zh K;clear K;go_wp2_with fail;refine o.mono ?_;rintro e G ⟨rfl,rfl⟩;go_wp2_with fail;refine bodyPost_ret (results_none rfl _ _ _) rfl ?_;exact⟨rfl,f.out _ HB.out⟩
   |true=>
    have Aw:=S.le;have Ac:=Eo (hi:=false) a;have Aa:A.length<=1000000:=by have:=y.out;omega
    have Ax:T<=9223372036854775807:=y.out.2.2;have d:=λW (b:B wr.heap.size wr W)=>Qc W sb v A (S.next b).st a Aa (by omega);rw[<-H]at d;obtain⟨ct,AA⟩:∃ct,ct=(En false A).2:=⟨_,rfl⟩;rw[<-AA]at d Ac;obtain⟨l1,z⟩:∃l1,l1=T-AB A :=⟨_,rfl⟩;obtain⟨l2,Al⟩:∃l2,l2=l1+ct:=⟨_,rfl⟩;have A0:U.wrap ((l1:Int)+(ct:Int))=(l2:Int):=by rw[NW];omega
    have s:CW (λj=> !BZ false M j i) (Ds false A)=CW (λj=> !BZ false M j i) k:=(T6 a (by rw[<-H,<-Z];rfl)).trans hc;have Ar:=YH false a;have f:=Zh (show∀(Y G:World) (v2:V) (ob:Obj),B wr.heap.size wr Y->Aq M G sb v2 (Ds false A)->AD (λj=>j=sb\/v.ownBlock=some j) Y G->FA Y v v2->
      ∃W,W=G.alloc ob/\Bi false M w cb O (Ds false A) T (W.setCell ⟨cb,2,N⟩ (I U l2)).drew/\W.drew.cell? ⟨cb,2,N⟩=some (I U l1)/\W.drew.frozen? ⟨cb,2,N⟩=false from λY G v2 ob K s2 a2 q2=>by
     have b2:B G.heap.size G (G.alloc ob):=(B.refl _ _).alloc (E _) ob;have S1:=S0.out.1.next K;obtain⟨k1,k2,k3,k4,k5⟩:=S1.cut a (s2.next b2) (a2.trans' (AD.of_below (F:=λj=>j=sb\/v.ownBlock=some j) b2) (λ_ _ h=>h) (λ_ _ h=>h)) q2;rw[<-AA,<-z,<-Al]at k1 k3;rw[<-z]at k4;exact⟨_,rfl,Bi.made S0.out.2.2 S0.out.2.1 K k1 (λj hj=>k2 j hj) k3 (B.refl _ _).drew,k4,k5⟩)
    have HG:=Zh (Zi s (Zi Ar (Zi hg Ap)));clear S hs ha hc c2 f2 Aw Ac Aa Ax s Ar q HC hg Ap z Al AA H Z hx X a;go_wp2_with fail;refine D.mono ?_;rintro e Y ⟨rfl,K⟩;have S1:=S0.out.1.next K;obtain⟨c0,c1,c2,f2⟩:=S1.cells;have o:=ho Y c0;have r:=d Y K;have HF:=Zh (λG v2 ob=>f.out Y G v2 ob K);clear ho D f d S1 K c2 f2;go_wp2_with fail;refine o.mono ?_;rintro e G ⟨rfl,rfl⟩;clear o;go_wp2_with fail;refine r.mono ?_;rintro e G ⟨rfl,v2,s2,a2,q2⟩;obtain⟨W,hW,r1,r2,r3⟩:=HF.out G v2 (.cells #[I J fr,I U ct] 228) s2 a2 q2;have p1:W.drew.cell? ⟨G.heap.size,1,N⟩=some (I U ct):=by rw[hW];exact(AI.newAt rfl:AI (G.alloc (.cells #[I J fr,I U ct] 228)) G.heap.size _ 228).cell rfl
    have HR:=Zh r1;clear r HF s2 a2 q2 r1 c0 c1;go_upto_region 3 with fail;rw[<-hW];clear hW;rename_i KK;go_region_with fail;all_goals(
     refine KK _ _ ?_;go_wp2_with fail;go_roundg (Ds false A).length;case measure=>have:=HG.out;omega
     case rel=>exact⟨Ds false A,HR.out,HG.out.1,E _,by have:=HG.out;omega⟩)
theorem cF(w)(cb i e M:Nat)(Y:w.cell? ⟨cb,0,N⟩=S (I J M))(A:1<=M)(D:M<=4096)(hi:i<4096)(F:e<4096):
  C prog 137 #[P (S ⟨cb,0,N⟩),I J i,I J e] w λr w' =>r=R (.bool (BZ true M i e))/\w=w' :=by
 have G:U.wrap (e:Int)=(e:Int):=by rw[NW];omega
 have K:U.wrap (i:Int)=(i:Int):=by rw[NW];omega
 have H:U.wrap (M:Int)=(M:Int):=by rw[NW];omega
 by_cases g:(e:Int)<(i:Int)
 ·have X:U.wrap ((i:Int)-(e:Int))=(i:Int)-(e:Int):=by rw[NW];omega
  have f:BZ true M i e=decide ((M:Int)<=(i:Int)-(e:Int)):=by
   unfold BZ;simp only[fa,if_false,if_true];exact decide_eq_decide.2 (by omega)
  rw[f];clear f A D hi F;go_enter func137,ntmps137;go_wp2_with fail;go_ret;exact⟨rfl,rfl⟩
 ·have f:BZ true M i e=false:=by unfold BZ;simp;omega
  rw[f];clear f A D hi F;go_enter func137,ntmps137;go_wp2_with fail;go_ret;exact⟨rfl,rfl⟩
theorem eP{M}(w cb sb v)(k:AL)(T)(S:DM true M w cb sb v k T):
  C prog 136 #[P (some ⟨cb,0,N⟩)] w λr w' =>r=R (.tuple #[I J ((BL true k:Nat):Int),.bool (!k.isEmpty)])/\B w.heap.size w w' :=by
 obtain⟨G,H,K,X⟩:=S.cells;have A:=FJ w sb v k S.st;unfold KD at A;generalize((BL true k:Nat):Int)=x0 at*;generalize((BL false k:Nat):Int)=x1 at*;generalize(!k.isEmpty)=ne at*;clear S;go_enter func136,ntmps136;go_wp2_with(go_at_call 145;refine A.mono ?_;rintro e F ⟨rfl,D⟩);go_ret2;exact⟨rfl,D⟩
theorem dF{M:Nat}(Av:1<=M)(Ay:M<=4096)(w)(cb:Nat)(O)(k:AL)(T:Nat)(h:BU true M k T w cb O)(i:Nat)(Ab:i<4096)(t:k.length<=1000000)(hT:T<=9223372036854775807):
  C prog 138 #[P (some ⟨cb,0,N⟩),I J i] w λe w' =>e=R (.tuple #[])/\Bi true M w cb O (CW (λj=> !BZ true M j i) k) T w' :=by
 have R0:=Bi.start h;have y:=Zh (Zi Ab (Zi t hT));clear h Ab t hT;go_enter func138,ntmps138;go_wp2_with fail;go_loopg [4,5,6,7,8] k.length (λg _ _ _ _ _ wr=>∃A,Bi true M w cb O A T wr/\CW (λj=> !BZ true M j i) A =CW (λj=> !BZ true M j i) k/\A.length<=g/\A.length<=k.length);case atStart=>exact⟨k,R0,rfl,E _,E _⟩
 case round=>
  clear R0;obtain⟨A,hR,hc,hg,Ap⟩:=hrel;have q:=Zh hR;obtain⟨O',⟨sb,v,S,rfl⟩,hs,ha⟩:=hR;obtain⟨c0,c1,c2,f2⟩:=S.cells;have D:=FJ wr sb v A S.st;by_cases a:A =[]
  ·subst a;rw[NA]at D;have HC:=Zh hc;clear S hs ha hc c2 f2;go_wp2_with(go_at_call 145;refine D.mono ?_;rintro e Y ⟨rfl,K⟩);refine bodyPost_ret (results_none rfl _ _ _) rfl ?_;exact⟨rfl,HC.out▸q.out.next K⟩
  ·rw[LU a]at D;have X:=S.low;have x:Fc true A <4096:=I5 a X;obtain⟨fr,H⟩:∃fr,fr=Fc true A :=⟨_,rfl⟩;have hx:((BL false A :Nat):Int)=(fr:Int):=by rw[H];rfl
   rw[hx]at D;generalize((BL true A :Nat):Int)=x1 at D;rw[<-H]at x;have ho:=λW (c:W.cell? ⟨cb,0,N⟩=some (I J M))=>cF W cb fr i M c Av Ay x y.out.1;obtain⟨fb,Z⟩:∃fb,fb=BZ true M fr i:=⟨_,rfl⟩;rw[<-Z]at ho;have S0:=Zh (Zi S (Zi hs ha));have HC:=Zh hc;cases fb with
   |false=>
    have u:=T5 (p:=λj=> !BZ true M j i) (T7 S.st.rising (by rw[<-H];exact Z.symm));have f:=Zh (show∀W,B wr.heap.size wr W->Bi true M w cb O (CW (λj=> !BZ true M j i) k) T W from λW b=>by
     have e:A =CW (λj=> !BZ true M j i) k:=u.symm.trans HC.out;exact e▸q.out.next b)
    clear S hs ha hc c2 f2 u q HC H Z hx X a;go_wp2_with fail;refine D.mono ?_;rintro e Y ⟨rfl,K⟩;have o:=ho Y ((S0.out.1.next K).cells.1);clear ho D;have HB:=Zh K;clear K;go_wp2_with fail;refine o.mono ?_;rintro e G ⟨rfl,rfl⟩;go_wp2_with fail;refine bodyPost_ret (results_none rfl _ _ _) rfl ?_;exact⟨rfl,f.out _ HB.out⟩
   |true=>
    have Aw:=S.le;have Ac:=Eo (hi:=true) a;have Aa:A.length<=1000000:=by have:=y.out;omega
    have Ax:T<=9223372036854775807:=y.out.2.2;have d:=λW (b:B wr.heap.size wr W)=>Sc W sb v A (S.next b).st a Aa (by omega);rw[<-H]at d;obtain⟨ct,AA⟩:∃ct,ct=(En true A).2:=⟨_,rfl⟩;rw[<-AA]at d Ac;obtain⟨l1,z⟩:∃l1,l1=T-AB A :=⟨_,rfl⟩;obtain⟨l2,Al⟩:∃l2,l2=l1+ct:=⟨_,rfl⟩;have A0:U.wrap ((l1:Int)+(ct:Int))=(l2:Int):=by rw[NW];omega
    have s:CW (λj=> !BZ true M j i) (Ds true A)=CW (λj=> !BZ true M j i) k:=(T6 a (by rw[<-H,<-Z];rfl)).trans hc;have Ar:=YH true a;have f:=Zh (show∀(Y G:World) (v2:V) (ob:Obj),B wr.heap.size wr Y->Aq M G sb v2 (Ds true A)->AD (λj=>j=sb\/v.ownBlock=some j) Y G->FA Y v v2->
      ∃W,W=G.alloc ob/\Bi true M w cb O (Ds true A) T (W.setCell ⟨cb,2,N⟩ (I U l2)).drew/\W.drew.cell? ⟨cb,2,N⟩=some (I U l1)/\W.drew.frozen? ⟨cb,2,N⟩=false from λY G v2 ob K s2 a2 q2=>by
     have b2:B G.heap.size G (G.alloc ob):=(B.refl _ _).alloc (E _) ob;have S1:=S0.out.1.next K;obtain⟨k1,k2,k3,k4,k5⟩:=S1.cut a (s2.next b2) (a2.trans' (AD.of_below (F:=λj=>j=sb\/v.ownBlock=some j) b2) (λ_ _ h=>h) (λ_ _ h=>h)) q2;rw[<-AA,<-z,<-Al]at k1 k3;rw[<-z]at k4;exact⟨_,rfl,Bi.made S0.out.2.2 S0.out.2.1 K k1 (λj hj=>k2 j hj) k3 (B.refl _ _).drew,k4,k5⟩)
    have HG:=Zh (Zi s (Zi Ar (Zi hg Ap)));clear S hs ha hc c2 f2 Aw Ac Aa Ax s Ar q HC hg Ap z Al AA H Z hx X a;go_wp2_with fail;refine D.mono ?_;rintro e Y ⟨rfl,K⟩;have S1:=S0.out.1.next K;obtain⟨c0,c1,c2,f2⟩:=S1.cells;have o:=ho Y c0;have r:=d Y K;have HF:=Zh (λG v2 ob=>f.out Y G v2 ob K);clear ho D f d S1 K c2 f2;go_wp2_with fail;refine o.mono ?_;rintro e G ⟨rfl,rfl⟩;clear o;go_wp2_with fail;refine r.mono ?_;rintro e G ⟨rfl,v2,s2,a2,q2⟩;obtain⟨W,hW,r1,r2,r3⟩:=HF.out G v2 (.cells #[I J fr,I U ct] 228) s2 a2 q2;have p1:W.drew.cell? ⟨G.heap.size,1,N⟩=some (I U ct):=by rw[hW];exact(AI.newAt rfl:AI (G.alloc (.cells #[I J fr,I U ct] 228)) G.heap.size _ 228).cell rfl
    have HR:=Zh r1;clear r HF s2 a2 q2 r1 c0 c1;go_upto_region 3 with fail;rw[<-hW];clear hW;rename_i KK;go_region_with fail;all_goals(
     refine KK _ _ ?_;go_wp2_with fail;go_roundg (Ds true A).length;case measure=>have:=HG.out;omega
     case rel=>exact⟨Ds true A,HR.out,HG.out.1,E _,by have:=HG.out;omega⟩)
theorem EA{hi M}(D:M<=4096){w wr cb sb v}{k:AL}{T O}(S:DM hi M wr cb sb v k T)(K:BV w O (DJ cb sb v))(Z:AD O w wr)(i c)(F:i<4096)(d:1<=c)(g:T+c<=9223372036854775807)(A:(Ak k i c).length<=M):
  C prog 93 #[P (some ⟨sb,0,N⟩),I J i,I U c] wr λe w' =>e=R (I J 0)/\Bi hi M w cb O (Ak k i c) (T+c) w' :=by
 have b:=S.le;refine(SR D wr sb v k i c S.st d (by omega) A).mono λe w' H=> ?_;obtain⟨Y,f,a,a2,q2⟩:=H;obtain⟨G,k2,X⟩:=S.adds F a a2 q2;exact⟨Y,Bi.made Z K (B.refl _ _) G k2 X (B.refl _ _)⟩
theorem cG{M}(Ac:1<=M)(t:M<=4096)(w cb O)(k:AL)(T)(h:BU false M k T w cb O)(i c)(p:i<4096)(hc:1<=c)(hT:T+c<=9223372036854775807)(A:(CF false M k i c).length<=M)(Ax:k.length<=M):
  C prog 131 #[P (some ⟨cb,0,N⟩),I J i,I U c] w λe w' =>e=R (.tuple #[])/\Bi false M w cb O (CF false M k i c) (T+c) w' :=by
 have hQ:=Zh h;obtain⟨sb,v,S,rfl⟩:=h;have H:=eO w cb sb v k T S;have HS:=Zh S;have u:=S.le;by_cases hn:k=[]
 ·subst hn;have o:CF false M [] i c=Ak [] i c:=by unfold CF;rw[if_pos rfl]
  rw[o]at A⊢;have Z:=Zh (show∀W,B w.heap.size w W->_ from λW (b:B w.heap.size w W)=>EA t (HS.out.next b) (λj x=>.inl x) (AD.of_below (F:=DJ cb sb v) b) i c p hc hT A);have hb:(!(([]:AL).isEmpty))=false:=rfl;rw[hb]at H;clear S u o;go_enter func131,ntmps131;go_wp2_with fail;refine H.mono ?_;rintro e f ⟨rfl,Y⟩;have X:=Z.out f Y;obtain⟨y,c1,c2,f2⟩:=(HS.out.next Y).cells;clear H Z Y y c2 f2;go_wp2_with fail;refine X.mono ?_;rintro e w2 ⟨rfl,r2⟩;have HR:=Zh r2;clear X r2;go_wp2_with fail;refine bodyPost_end (results_none rfl _ _ _) rfl ?_;exact⟨rfl,HR.out⟩
 ·have hb:(!k.isEmpty)=true:=by cases k<;>simp_all
  have Aa:BL false k<4096:=I5 hn S.low;rw[hb]at H;obtain⟨en,K⟩:∃en,en=BL false k:=⟨_,rfl⟩;rw[<-K]at H Aa;have ho:=λW (c:W.cell? ⟨cb,0,N⟩=some (I J M))=>cE W cb i en M c Ac t p Aa;by_cases G:BZ false M i en=true
  ·have o:CF false M k i c=k:=by unfold CF;rw[if_neg hn,if_pos (by rw[<-K];exact G)]
   rw[o];rw[G]at ho;obtain⟨l1,Ab⟩:∃l1,l1=T-AB k:=⟨_,rfl⟩;obtain⟨l2,Ap⟩:∃l2,l2=l1+c:=⟨_,rfl⟩;have Aw:U.wrap ((l1:Int)+(c:Int))=(l2:Int):=by rw[NW];omega
   have q:=Zh (show∀W,B w.heap.size w W->Bi false M w cb (DJ cb sb v) k (T+c) (W.setCell ⟨cb,2,N⟩ (I U l2))from λW b=>by
    obtain⟨k1,k2⟩:=(HS.out.next b).lose (c:=c);rw[<-Ab,<-Ap]at k1 k2;exact Bi.made (AD.refl _ _) (λj x=>.inl x) b k1 (λj x=>.inl x) k2 (B.refl _ _))
   have Al:=λW b=>Ab▸(HS.out.next (w' :=W) b).cells.2.2.1;have AA :=Zh Al;clear S u o G A hb hn Ab Ap K Al;go_enter func131,ntmps131;go_wp2_with fail;refine H.mono ?_;rintro e f ⟨rfl,Y⟩;obtain⟨y,c1,Av,f2⟩:=(HS.out.next Y).cells;have c2:=AA.out f Y;have d:=ho f y;clear Av AA;have HF:=Zh (q.out f Y);clear H ho Y q;go_wp2_with fail;refine d.mono ?_;rintro e w2 ⟨rfl,rfl⟩;go_wp2_with fail;refine bodyPost_ret (results_none rfl _ _ _) rfl ?_;exact⟨rfl,HF.out⟩
  ·have a :BZ false M i en=false:=by simpa using G
   rw[a]at ho;by_cases D:LA false i en=true
   ·have o:CF false M k i c=Ak (CW (λj=> !BZ false M j i) k) i c:=by unfold CF;rw[if_neg hn,if_neg (by rw[<-K];exact G),if_pos (by rw[<-K];exact D)]
    rw[o]at A⊢;have g:(en:Int)<(i:Int):=by unfold LA at D;simp at D;omega
    have Ar:=Zh (show∀W,B w.heap.size w W->_ from λW (b:B w.heap.size w W)=>dE Ac t W cb (DJ cb sb v) k T (hQ.out.next b) i p (by omega) (by omega));have q:=Zh (show∀W W2,B w.heap.size w W->Bi false M W cb (DJ cb sb v) (CW (λj=> !BZ false M j i) k) T W2->∃s,W2.cell? ⟨cb,1,N⟩=some (P (some ⟨s,0,N⟩))/\C prog 93 #[P (some ⟨s,0,N⟩),I J i,I U c] W2 λe w' =>e=R (I J 0)/\Bi false M w cb (DJ cb sb v) (Ak (CW (λj=> !BZ false M j i) k) i c) (T+c) w' from λW W2 b r=>by
     obtain⟨O',⟨s,v2,S2,rfl⟩,hs,ha⟩:=r;refine⟨s,S2.cells.2.1,EA t S2 (λj x=>(hs j x).imp id λe=>Q0 b.size e) ((AD.of_below (F:=DJ cb sb v) b).trans' ha (λ_ _ h=>h) (λ_ _ h=>h)) i c p hc hT A⟩)
    clear S u o G a D A hb hn K;go_enter func131,ntmps131;go_wp2_with fail;refine H.mono ?_;rintro e f ⟨rfl,Y⟩;obtain⟨y,c1,c2,f2⟩:=(HS.out.next Y).cells;have d:=ho f y;have z:=Ar.out f Y;have HF:=Zh (λW2=>q.out f W2 Y);clear H ho Y q Ar y c1 c2 f2;go_wp2_with fail;refine d.mono ?_;rintro e w2 ⟨rfl,rfl⟩;clear d;go_wp2_with fail;refine z.mono ?_;rintro e w2 ⟨rfl,r2⟩;obtain⟨s,c1,X⟩:=HF.out w2 r2;clear z HF r2;go_wp2_with fail;refine X.mono ?_;rintro e w3 ⟨rfl,r3⟩;have HR:=Zh r3;clear X r3;go_wp2_with fail;refine bodyPost_end (results_none rfl _ _ _) rfl ?_;exact⟨rfl,HR.out⟩
   ·have o:CF false M k i c=Ak k i c:=by unfold CF;rw[if_neg hn,if_neg (by rw[<-K];exact G),if_neg (by rw[<-K];exact D)]
    rw[o]at A⊢;have g:¬(en:Int)<(i:Int):=by unfold LA at D;simp at D;omega
    have Z:=Zh (show∀W,B w.heap.size w W->_ from λW (b:B w.heap.size w W)=>EA t (HS.out.next b) (λj x=>.inl x) (AD.of_below (F:=DJ cb sb v) b) i c p hc hT A);clear S u o G a D A hb hn K;go_enter func131,ntmps131;go_wp2_with fail;refine H.mono ?_;rintro e f ⟨rfl,Y⟩;obtain⟨y,c1,c2,f2⟩:=(HS.out.next Y).cells;have d:=ho f y;have X:=Z.out f Y;clear H ho Y Z y c2 f2;go_wp2_with fail;refine d.mono ?_;rintro e w2 ⟨rfl,rfl⟩;clear d;go_wp2_with fail;refine X.mono ?_;rintro e w3 ⟨rfl,r3⟩;have HR:=Zh r3;clear X r3;go_wp2_with fail;refine bodyPost_end (results_none rfl _ _ _) rfl ?_;exact⟨rfl,HR.out⟩
theorem LV{M}(w cb O)(k:AL)(T)(h:BU false M k T w cb O)(a:T<=9223372036854775807):
  C prog 123 #[P (some ⟨cb,0,N⟩)] w λe w' =>e=R (I U T)/\B w.heap.size w w' :=by
 obtain⟨sb,v,S,rfl⟩:=h;obtain⟨d,f,F,Y⟩:=S.cells;have A:=S.le;obtain⟨t,D⟩:∃t,t=AB k:=⟨_,rfl⟩;have X:=λW (c:W.cell? ⟨sb,2,N⟩=some (I U t))=>Co W sb t c;have K:w.cell? ⟨sb,2,N⟩=some (I U t):=by rw[D];exact S.st.cells.2.2.1
 rw[<-D]at F A;obtain⟨l,G⟩:∃l,l=T-t:=⟨_,rfl⟩;rw[<-G]at F;have b:U.wrap ((t:Int)+(l:Int))=(T:Int):=by rw[NW];omega
 have Z:=Zh (B.refl w.heap.size w);clear S G D A d Y a;go_enter func123,ntmps123;go_upto_region 3 with fail;go_quiet((go_at_call 94;refine C.quiet_of_same ((X _ (by simpa using K)).mono λe w' H=>⟨H.1,H.2.symm⟩)));go_wp2_with fail;go_ret;exact⟨rfl,below_drewN Z.out _⟩
theorem aX{M}(w cb O)(k:AL)(T)(h:BU false M k T w cb O):
  C prog 383 #[P (some ⟨cb,0,N⟩)] w λe w' =>e=R (I U ((T-AB k:Nat):Int))/\w=w' :=by
 obtain⟨sb,v,S,rfl⟩:=h;obtain⟨D,F,G,A⟩:=S.cells;clear S D F A;go_enter func383,ntmps383;go_wp2_with fail;go_ret;exact⟨rfl,rfl⟩
theorem YI{M}(w cb O)(k:AL)(T)(h:BU false M k T w cb O)(D:k.length<=1000000):
  C prog 384 #[P (some ⟨cb,0,N⟩)] w λe w' =>∃v',e=R v' /\w'.ownsRow w.heap.size 228 2 v' k.length (AV k)/\B w.heap.size w w' :=by
 obtain⟨sb,v,S,rfl⟩:=h;obtain⟨X,Z,G,K⟩:=S.cells;have H:=Kf w sb v k S.st D;clear S X G K;go_enter func384,ntmps384;go_wp2_with(go_at_call 177;refine H.mono ?_;rintro e Y ⟨v',rfl,A,F⟩);go_ret;exact⟨v',rfl,A,F⟩
theorem YJ{M:Nat}(A:1<=M)(D:M<=4096)(w):
  C prog 110 #[I J M] w λe w' =>∃cb O,e=R (T #[P (some ⟨cb,0,N⟩),I J 0])/\BU false M [] 0 w' cb O/\B w.heap.size w w' /\∀j,O j->w.heap.size<=j:=by
 have X:=LE w M A D;have F:B w.heap.size w (w.alloc (.cells #[I J M,L N 0 0,I U 0] 115)):=Za;have G:B w.heap.size w ((w.alloc (.cells #[I J M,L N 0 0,I U 0] 115)).alloc (.cells #[I J M,P (some ⟨w.heap.size,0,N⟩),I U 0] 257)):=F.alloc F.size _;have S:DM false M ((w.alloc (.cells #[I J M,L N 0 0,I U 0] 115)).alloc (.cells #[I J M,P (some ⟨w.heap.size,0,N⟩),I U 0] 257)) (w.heap.size+1) w.heap.size (L N 0 0) [] 0:=
  ⟨AI.newAt (by simp),(Aq.fresh w M).alloc _,E _,λx K=>by cases K⟩
 have H:=Zh (Zi G S);clear F G S A D;go_enter func110,ntmps110;go_wp2_with(go_at_call 28;refine X.mono ?_;rintro e Y ⟨rfl,rfl⟩);go_ret2;refine⟨w.heap.size+1,DJ (w.heap.size+1) w.heap.size (L N 0 0),?_,⟨_,_,H.out.2,rfl⟩,H.out.1,?_⟩
 ·simp
 ·rintro j (rfl|rfl|e)
  ·omega
  ·omega
  ·simp[V.ownBlock]at e
theorem Sd(w M)(h:M<1\/4096<M):
  C prog 110 #[I J M] w λe w' =>e=R (T #[P N,I J 1])/\w=w' :=by
 have A:=LG w M h;clear h;go_enter func110,ntmps110;go_wp2_with(go_at_call 28;refine A.mono ?_;rintro e D ⟨rfl,rfl⟩);go_ret2;exact⟨rfl,rfl⟩
theorem YK{M}(K:1<=M)(Z:M<=4096)(w cb O)(k:AL)(T)(h:BU false M k T w cb O)(i c)(Y:i<4096)(o:1<=c)(f:T+c<=9223372036854775807)(A:(CF false M k i c).length<=M)(X:k.length<=M):
  C prog 122 #[.pointer (S ⟨cb,0,N⟩),I J i,I U c] w λe w' =>e=R (I J 0)/\Bi false M w cb O (CF false M k i c) (T+c) w' :=by
 have H:=LV w cb O k T h (by omega);have G:=λW b=>Az W b T c f;have g1:((c:Int)==0)=false:=by simp;omega
 have a:=Zh (show∀W,B w.heap.size w W->C prog 131 #[.pointer (S ⟨cb,0,N⟩),I J i,I U c] W λe w' =>e=R (.tuple #[])/\Bi false M w cb O (CF false M k i c) (T+c) w' from λW b=>(cG K Z W cb O k T (h.next b) i c Y o f A X).mono λe w' r=>⟨r.1,by
  obtain⟨P,x,t,s⟩:=r.2;exact⟨P,x,λj u=>(t j u).imp id λe=>Q0 b.size e,(AD.of_below (F:=O) b).trans' s (λ_ _ h=>h) (λ_ _ h=>h)⟩⟩)
 have D :=Zh G;clear h G A X o f K Z Y;go_enter func122,ntmps122;go_wp2_with fail;refine H.mono ?_;rintro e y ⟨rfl,p⟩;have d:=Zh p;clear H p;go_wp2_with fail;refine(D.out _ _ (by simp) (by simp)).mono ?_;rintro e w2 ⟨rfl,rfl⟩;have q:=a.out _ (d.out.alloc d.out.size (.cells #[I U T,I U c] 23));clear a D d;go_wp2_with fail;refine q.mono ?_;rintro e z ⟨rfl,g⟩;have v:=Zh g;clear q g;go_wp2_with fail;go_ret;exact⟨rfl,v.out⟩
theorem cH{M}(Ac:1<=M)(t:M<=4096)(w cb O)(k:AL)(T)(h:BU true M k T w cb O)(i c)(p:i<4096)(hc:1<=c)(hT:T+c<=9223372036854775807)(A:(CF true M k i c).length<=M)(Ax:k.length<=M):
  C prog 130 #[P (some ⟨cb,0,N⟩),I J i,I U c] w λe w' =>e=R (.tuple #[])/\Bi true M w cb O (CF true M k i c) (T+c) w' :=by
 have hQ:=Zh h;obtain⟨sb,v,S,rfl⟩:=h;have H:=eP w cb sb v k T S;have HS:=Zh S;have u:=S.le;by_cases hn:k=[]
 ·subst hn;have o:CF true M [] i c=Ak [] i c:=by unfold CF;rw[if_pos rfl]
  rw[o]at A⊢;have Z:=Zh (show∀W,B w.heap.size w W->_ from λW (b:B w.heap.size w W)=>EA t (HS.out.next b) (λj x=>.inl x) (AD.of_below (F:=DJ cb sb v) b) i c p hc hT A);have hb:(!(([]:AL).isEmpty))=false:=rfl;rw[hb]at H;clear S u o;go_enter func130,ntmps130;go_wp2_with fail;refine H.mono ?_;rintro e f ⟨rfl,Y⟩;have X:=Z.out f Y;obtain⟨y,c1,c2,f2⟩:=(HS.out.next Y).cells;clear H Z Y y c2 f2;go_wp2_with fail;refine X.mono ?_;rintro e w2 ⟨rfl,r2⟩;have HR:=Zh r2;clear X r2;go_wp2_with fail;refine bodyPost_end (results_none rfl _ _ _) rfl ?_;exact⟨rfl,HR.out⟩
 ·have hb:(!k.isEmpty)=true:=by cases k<;>simp_all
  have Aa:BL true k<4096:=I5 hn S.low;rw[hb]at H;obtain⟨en,K⟩:∃en,en=BL true k:=⟨_,rfl⟩;rw[<-K]at H Aa;have ho:=λW (c:W.cell? ⟨cb,0,N⟩=some (I J M))=>cF W cb i en M c Ac t p Aa;by_cases G:BZ true M i en=true
  ·have o:CF true M k i c=k:=by unfold CF;rw[if_neg hn,if_pos (by rw[<-K];exact G)]
   rw[o];rw[G]at ho;obtain⟨l1,Ab⟩:∃l1,l1=T-AB k:=⟨_,rfl⟩;obtain⟨l2,Ap⟩:∃l2,l2=l1+c:=⟨_,rfl⟩;have Aw:U.wrap ((l1:Int)+(c:Int))=(l2:Int):=by rw[NW];omega
   have q:=Zh (show∀W,B w.heap.size w W->Bi true M w cb (DJ cb sb v) k (T+c) (W.setCell ⟨cb,2,N⟩ (I U l2))from λW b=>by
    obtain⟨k1,k2⟩:=(HS.out.next b).lose (c:=c);rw[<-Ab,<-Ap]at k1 k2;exact Bi.made (AD.refl _ _) (λj x=>.inl x) b k1 (λj x=>.inl x) k2 (B.refl _ _))
   have Al:=λW b=>Ab▸(HS.out.next (w' :=W) b).cells.2.2.1;have AA :=Zh Al;clear S u o G A hb hn Ab Ap K Al;go_enter func130,ntmps130;go_wp2_with fail;refine H.mono ?_;rintro e f ⟨rfl,Y⟩;obtain⟨y,c1,Av,f2⟩:=(HS.out.next Y).cells;have c2:=AA.out f Y;have d:=ho f y;clear Av AA;have HF:=Zh (q.out f Y);clear H ho Y q;go_wp2_with fail;refine d.mono ?_;rintro e w2 ⟨rfl,rfl⟩;go_wp2_with fail;refine bodyPost_ret (results_none rfl _ _ _) rfl ?_;exact⟨rfl,HF.out⟩
  ·have a :BZ true M i en=false:=by simpa using G
   rw[a]at ho;by_cases D:LA true i en=true
   ·have o:CF true M k i c=Ak (CW (λj=> !BZ true M j i) k) i c:=by unfold CF;rw[if_neg hn,if_neg (by rw[<-K];exact G),if_pos (by rw[<-K];exact D)]
    rw[o]at A⊢;have g:(i:Int)<(en:Int):=by unfold LA at D;simp at D;omega
    have Ar:=Zh (show∀W,B w.heap.size w W->_ from λW (b:B w.heap.size w W)=>dF Ac t W cb (DJ cb sb v) k T (hQ.out.next b) i p (by omega) (by omega));have q:=Zh (show∀W W2,B w.heap.size w W->Bi true M W cb (DJ cb sb v) (CW (λj=> !BZ true M j i) k) T W2->∃s,W2.cell? ⟨cb,1,N⟩=some (P (some ⟨s,0,N⟩))/\C prog 93 #[P (some ⟨s,0,N⟩),I J i,I U c] W2 λe w' =>e=R (I J 0)/\Bi true M w cb (DJ cb sb v) (Ak (CW (λj=> !BZ true M j i) k) i c) (T+c) w' from λW W2 b r=>by
     obtain⟨O',⟨s,v2,S2,rfl⟩,hs,ha⟩:=r;refine⟨s,S2.cells.2.1,EA t S2 (λj x=>(hs j x).imp id λe=>Q0 b.size e) ((AD.of_below (F:=DJ cb sb v) b).trans' ha (λ_ _ h=>h) (λ_ _ h=>h)) i c p hc hT A⟩)
    clear S u o G a D A hb hn K;go_enter func130,ntmps130;go_wp2_with fail;refine H.mono ?_;rintro e f ⟨rfl,Y⟩;obtain⟨y,c1,c2,f2⟩:=(HS.out.next Y).cells;have d:=ho f y;have z:=Ar.out f Y;have HF:=Zh (λW2=>q.out f W2 Y);clear H ho Y q Ar y c1 c2 f2;go_wp2_with fail;refine d.mono ?_;rintro e w2 ⟨rfl,rfl⟩;clear d;go_wp2_with fail;refine z.mono ?_;rintro e w2 ⟨rfl,r2⟩;obtain⟨s,c1,X⟩:=HF.out w2 r2;clear z HF r2;go_wp2_with fail;refine X.mono ?_;rintro e w3 ⟨rfl,r3⟩;have HR:=Zh r3;clear X r3;go_wp2_with fail;refine bodyPost_end (results_none rfl _ _ _) rfl ?_;exact⟨rfl,HR.out⟩
   ·have o:CF true M k i c=Ak k i c:=by unfold CF;rw[if_neg hn,if_neg (by rw[<-K];exact G),if_neg (by rw[<-K];exact D)]
    rw[o]at A⊢;have g:¬(i:Int)<(en:Int):=by unfold LA at D;simp at D;omega
    have Z:=Zh (show∀W,B w.heap.size w W->_ from λW (b:B w.heap.size w W)=>EA t (HS.out.next b) (λj x=>.inl x) (AD.of_below (F:=DJ cb sb v) b) i c p hc hT A);clear S u o G a D A hb hn K;go_enter func130,ntmps130;go_wp2_with fail;refine H.mono ?_;rintro e f ⟨rfl,Y⟩;obtain⟨y,c1,c2,f2⟩:=(HS.out.next Y).cells;have d:=ho f y;have X:=Z.out f Y;clear H ho Y Z y c2 f2;go_wp2_with fail;refine d.mono ?_;rintro e w2 ⟨rfl,rfl⟩;clear d;go_wp2_with fail;refine X.mono ?_;rintro e w3 ⟨rfl,r3⟩;have HR:=Zh r3;clear X r3;go_wp2_with fail;refine bodyPost_end (results_none rfl _ _ _) rfl ?_;exact⟨rfl,HR.out⟩
theorem LW{M}(w cb O)(k:AL)(T)(h:BU true M k T w cb O)(a:T<=9223372036854775807):
  C prog 121 #[P (some ⟨cb,0,N⟩)] w λe w' =>e=R (I U T)/\B w.heap.size w w' :=by
 obtain⟨sb,v,S,rfl⟩:=h;obtain⟨d,f,F,Y⟩:=S.cells;have A:=S.le;obtain⟨t,D⟩:∃t,t=AB k:=⟨_,rfl⟩;have X:=λW (c:W.cell? ⟨sb,2,N⟩=some (I U t))=>Co W sb t c;have K:w.cell? ⟨sb,2,N⟩=some (I U t):=by rw[D];exact S.st.cells.2.2.1
 rw[<-D]at F A;obtain⟨l,G⟩:∃l,l=T-t:=⟨_,rfl⟩;rw[<-G]at F;have b:U.wrap ((t:Int)+(l:Int))=(T:Int):=by rw[NW];omega
 have Z:=Zh (B.refl w.heap.size w);clear S G D A d Y a;go_enter func121,ntmps121;go_upto_region 3 with fail;go_quiet((go_at_call 94;refine C.quiet_of_same ((X _ (by simpa using K)).mono λe w' H=>⟨H.1,H.2.symm⟩)));go_wp2_with fail;go_ret;exact⟨rfl,below_drewN Z.out _⟩
theorem aY{M}(w cb O)(k:AL)(T)(h:BU true M k T w cb O):
  C prog 379 #[P (some ⟨cb,0,N⟩)] w λe w' =>e=R (I U ((T-AB k:Nat):Int))/\w=w' :=by
 obtain⟨sb,v,S,rfl⟩:=h;obtain⟨D,F,G,A⟩:=S.cells;clear S D F A;go_enter func379,ntmps379;go_wp2_with fail;go_ret;exact⟨rfl,rfl⟩
theorem YL{M}(w cb O)(k:AL)(T)(h:BU true M k T w cb O)(D:k.length<=1000000):
  C prog 380 #[P (some ⟨cb,0,N⟩)] w λe w' =>∃v',e=R v' /\w'.ownsRow w.heap.size 228 2 v' k.length (AV k)/\B w.heap.size w w' :=by
 obtain⟨sb,v,S,rfl⟩:=h;obtain⟨X,Z,G,K⟩:=S.cells;have H:=Kf w sb v k S.st D;clear S X G K;go_enter func380,ntmps380;go_wp2_with(go_at_call 177;refine H.mono ?_;rintro e Y ⟨v',rfl,A,F⟩);go_ret;exact⟨v',rfl,A,F⟩
theorem YM{M:Nat}(A:1<=M)(D:M<=4096)(w):
  C prog 109 #[I J M] w λe w' =>∃cb O,e=R (T #[P (some ⟨cb,0,N⟩),I J 0])/\BU true M [] 0 w' cb O/\B w.heap.size w w' /\∀j,O j->w.heap.size<=j:=by
 have X:=LE w M A D;have F:B w.heap.size w (w.alloc (.cells #[I J M,L N 0 0,I U 0] 115)):=Za;have G:B w.heap.size w ((w.alloc (.cells #[I J M,L N 0 0,I U 0] 115)).alloc (.cells #[I J M,P (some ⟨w.heap.size,0,N⟩),I U 0] 255)):=F.alloc F.size _;have S:DM true M ((w.alloc (.cells #[I J M,L N 0 0,I U 0] 115)).alloc (.cells #[I J M,P (some ⟨w.heap.size,0,N⟩),I U 0] 255)) (w.heap.size+1) w.heap.size (L N 0 0) [] 0:=
  ⟨AI.newAt (by simp),(Aq.fresh w M).alloc _,E _,λx K=>by cases K⟩
 have H:=Zh (Zi G S);clear F G S A D;go_enter func109,ntmps109;go_wp2_with(go_at_call 28;refine X.mono ?_;rintro e Y ⟨rfl,rfl⟩);go_ret2;refine⟨w.heap.size+1,DJ (w.heap.size+1) w.heap.size (L N 0 0),?_,⟨_,_,H.out.2,rfl⟩,H.out.1,?_⟩
 ·simp
 ·rintro j (rfl|rfl|e)
  ·omega
  ·omega
  ·simp[V.ownBlock]at e
theorem Se(w M)(h:M<1\/4096<M):
  C prog 109 #[I J M] w λe w' =>e=R (T #[P N,I J 1])/\w=w' :=by
 have A:=LG w M h;clear h;go_enter func109,ntmps109;go_wp2_with(go_at_call 28;refine A.mono ?_;rintro e D ⟨rfl,rfl⟩);go_ret2;exact⟨rfl,rfl⟩
theorem YN{M}(K:1<=M)(Z:M<=4096)(w cb O)(k:AL)(T)(h:BU true M k T w cb O)(i c)(Y:i<4096)(o:1<=c)(f:T+c<=9223372036854775807)(A:(CF true M k i c).length<=M)(X:k.length<=M):
  C prog 120 #[.pointer (S ⟨cb,0,N⟩),I J i,I U c] w λe w' =>e=R (I J 0)/\Bi true M w cb O (CF true M k i c) (T+c) w' :=by
 have H:=LW w cb O k T h (by omega);have G:=λW b=>Az W b T c f;have g1:((c:Int)==0)=false:=by simp;omega
 have a:=Zh (show∀W,B w.heap.size w W->C prog 130 #[.pointer (S ⟨cb,0,N⟩),I J i,I U c] W λe w' =>e=R (.tuple #[])/\Bi true M w cb O (CF true M k i c) (T+c) w' from λW b=>(cH K Z W cb O k T (h.next b) i c Y o f A X).mono λe w' r=>⟨r.1,by
  obtain⟨P,x,t,s⟩:=r.2;exact⟨P,x,λj u=>(t j u).imp id λe=>Q0 b.size e,(AD.of_below (F:=O) b).trans' s (λ_ _ h=>h) (λ_ _ h=>h)⟩⟩)
 have D :=Zh G;clear h G A X o f K Z Y;go_enter func120,ntmps120;go_wp2_with fail;refine H.mono ?_;rintro e y ⟨rfl,p⟩;have d:=Zh p;clear H p;go_wp2_with fail;refine(D.out _ _ (by simp) (by simp)).mono ?_;rintro e w2 ⟨rfl,rfl⟩;have q:=a.out _ (d.out.alloc d.out.size (.cells #[I U T,I U c] 23));clear a D d;go_wp2_with fail;refine q.mono ?_;rintro e z ⟨rfl,g⟩;have v:=Zh g;clear q g;go_wp2_with fail;go_ret;exact⟨rfl,v.out⟩
theorem Qd(w v)(l:AL)(M)(h:w.ownsRow 0 228 2 v l.length (AV l))(hr:AT l)(hf:Bh l)(hc:∀x∈l,x.2<=9223372036854775807)(hl:l.length<=1000000):
  C prog 119 #[v,I J M] w λe w' =>e=R (.bool (decide ((l.length:Int)<=M)))/\B w.heap.size w w' :=by
 obtain⟨A,Al,hv⟩:=AF h;subst hv;obtain⟨n,hn⟩:∃n,n=l.length:=⟨_,rfl⟩;have H:=Zh (Zi h (Zi hr (Zi hf (Zi hc hl))));rw[<-hn];have HN:=Zh hn;have Av:n<=1000000:=by omega
 clear h hr hf hc hl hn;go_enter func119,ntmps119;go_wp2_with fail;go_loopg [5,6,9] n (λg _ _ i wr=>∃q:Nat,i=I J q/\q<=n/\n-q<=g/\B w.heap.size w wr);case atStart=>exact⟨0,rfl,RR _,E _,B.refl _ _⟩
 case round=>
  obtain⟨q,rfl,hq,z,Y⟩:=hrel;by_cases F:q<n
  ·have g0:(q:Int)<(n:Int):=by omega
   have D:q<l.length:=by rw[<-HN.out];exact F
   obtain⟨f,G⟩:∃i,i=(l[q]'D).1:=⟨_,rfl⟩;obtain⟨d,K⟩:∃i,i=(l[q]'D).2:=⟨_,rfl⟩;have t:=H.out.2.2.1 _ (Pa D);have s:=H.out.2.2.2.1 _ (Pa D);rw[<-K]at t s;have O:=AE H.out.1 Y λg z=>(H.out.1.lt g z).2;rcases AH O with⟨c,Ar,_⟩|⟨g,Aa,c,j,X,_,o⟩
   ·omega
   simp only[L.injEq]at c;obtain⟨rfl,Ap,rfl⟩:=c;have p0:wr.cell? ⟨g,q*2,N⟩=S (I J f):=by rw[O.cellAt _ (by omega),BI l q D,G]
   have p1:wr.cell? ⟨g,q*2+1,N⟩=S (I U d):=by rw[O.cellAt _ (by omega),BT l q D,K]
   have t1:((d:Int)==0)=false:=by simp;omega
   have t2:decide ((9223372036854775807:Int)<(d:Int))=false:=by simp;omega
   have B1:=Zh (show B w.heap.size w (wr.alloc (.cells #[I J f,I U d] 228))from Y.alloc Y.size _);have Ac:=Y.size;have Ab:=F;clear t s
   match q,D,F with
   |0,D,F=>
    clear O o j X G K Y;go_wp2_with fail;go_quiet(fail);go_wp2_with fail;go_roundg (n-1);case measure=>omega
    exact⟨1,by go_num,by omega,E _,below_drewN B1.out _⟩
   |r+1,D,F=>
    have Z:r<l.length:=by omega
    have a:=Dy H.out.2.1 Z D (ej r);rw[<-G]at a;obtain⟨u,b⟩:∃i,i=(l[r]'Z).1:=⟨_,rfl⟩;rw[<-b]at a;have d0:wr.cell? ⟨g,r*2,N⟩=S (I J u):=by rw[O.cellAt _ (by omega),BI l r Z,b]
    have f1:(r:Int)<(n:Int):=by omega
    have f2:r<n:=by omega
    have f3:(0:Int)<=(r:Int):=by omega
    have f4:J.wrap (r:Int)=(r:Int):=by have:=H.out.2.2.2.2;rw[fj];omega
    have f5:(r:Int)+1<(n:Int):=by omega
    have t3:decide ((f:Int)<=(u:Int))=false:=by simp;omega
    have t4:decide (f<=u)=false:=by simp;omega
    have AA:g<wr.heap.size:=(O.lt g rfl).2;have e0:(wr.alloc (.cells #[I J f,I U d] 228)).cell? ⟨g,r*2,N⟩=S (I J u):=by
     rw[((B.refl wr.heap.size wr).alloc (E _) (.cells #[I J f,I U d] 228)).cell (p:=⟨g,r*2,N⟩) AA];exact d0
    clear O o j X G K a b Y d0;go_wp2_with fail;go_quiet(fail);go_wp2_with fail;go_roundg (n-(r+1+1));case measure=>omega
    exact⟨r+1+1,by go_num,by omega,E _,below_drewN B1.out _⟩
  ·have y:q=n:=by omega
   subst y;have g0:¬(q:Int)<(q:Int):=by omega
   have HB:=Zh Y;clear Y F hq z;go_wp2_with fail;go_ret;exact⟨rfl,HB.out⟩
structure GN(hi:Bool)(M:Nat)(w:World)(cb:Nat)(O:Nat->Prop)(k:AL)(T:Nat)(vp:V)(m:AL)(W:World):Prop where
 st:∃O',BU hi M k T W cb O' /\BV w O O' /\AD O w W/\∀g,vp.ownBlock=S g->¬O' g
 own:W.ownsRow 0 228 2 vp m.length (AV m)
section
variable {hi:Bool} {M:Nat} {w:World} {cb:Nat} {O:Nat->Prop} {k k2:AL} {T T2:Nat} {vp:V} {m:AL} {W W' :World}
theorem GN.next(h:GN hi M w cb O k T vp m W)(b:B W.heap.size W W'):GN hi M w cb O k T vp m W' :=by
 obtain⟨⟨D,K,G,Y,H⟩,A⟩:=h;exact⟨⟨D,K.next b,G,Y.trans' (AD.of_below (F:=O) b) (λ_ _ h=>h) (λ_ _ h=>h),H⟩,AE A b λg X=>(A.lt g X).2⟩
theorem GN.call(h:GN hi M w cb O k T vp m W){f:FuncId}{args r}(c:∀A,BU hi M k T W cb A ->C prog f args W λe w' =>e=r/\Bi hi M W cb A k2 T2 w'):C prog f args W λe w' =>e=r/\GN hi M w cb O k2 T2 vp m w' :=by
 obtain⟨A,a,F,Y,K⟩:=h.st;refine(c A a).mono λe w' X=>⟨X.1,?_⟩
 obtain⟨P,d,G,D⟩:=X.2;refine⟨⟨P,d,λj Z=> ?_,Y.trans' D (λ_ _ h=>h) λj Z b=> ?_,λg H i=> ?_⟩,AU h.own D K⟩
 ·rcases G j Z with e|e
  ·exact F j e
  ·exact .inr (Q0 Y.size e)
 ·rcases F j b with e|e
  ·exact e
  ·omega
 ·rcases G g i with e|e
  ·exact K g H e
  ·have:=(h.own.lt g H).2;omega
theorem GN.toR(h:GN hi M w cb O k T vp m W):Bi hi M w cb O k T W:=by
 obtain⟨G,A,F,D,H⟩:=h.st;exact⟨G,A,F,D⟩
theorem Bi.toL(h:Bi hi M w cb O k T W)(b:B W.heap.size W W')(o:W'.ownsRow W.heap.size 228 2 vp m.length (AV m)):GN hi M w cb O k T vp m W' :=by
 obtain⟨K,A,D,G⟩:=h;exact⟨⟨K,A.next b,D,G.trans' (AD.of_below (F:=O) b) (λ_ _ h=>h) (λ_ _ h=>h),λg H X=>by have:=(o.lt g H).1;have:=A.lt g X;omega⟩,AO o λg _=>RR _⟩
theorem Bi.lose(h:Bi hi M w cb O k T W):∃l,l=T-AB k/\W.cell? ⟨cb,2,N⟩=some (I U l)/\W.frozen? ⟨cb,2,N⟩=false/\∀c A:Nat,A=l+c->Bi hi M w cb O k (T+c) (W.setCell ⟨cb,2,N⟩ (I U A)):=by
 obtain⟨Y,⟨sb,v,S,rfl⟩,F,H⟩:=h;obtain⟨Z,a,G,K⟩:=S.cells;refine⟨_,rfl,G,K,λc A e=> ?_⟩;obtain⟨D,k2⟩:=S.lose (c:=c);rw[<-e]at D k2;exact Bi.made H F (B.refl _ _) D (λj X=>.inl X) k2 (B.refl _ _)
end
theorem GO{m:AL}{q}(A:q<m.length):AB (m.take (q+1))=AB (m.take q)+(m[q]'A).2/\AB (m.take q)+(m[q]'A).2<=AB m:=by
 have e:m=m.take q++((m[q]'A)::m.drop (q+1)):=by rw[<-List.drop_eq_getElem_cons A,List.take_append_drop]
 have F:AB m=AB (m.take q)+AB ((m[q]'A)::m.drop (q+1)):=by
  conv=>lhs;rw[e]
  exact Bv _ _ _
 have D:AB ((m[q]'A)::m.drop (q+1))=(m[q]'A).2+AB (m.drop (q+1)):=by unfold AB;rw[AQ];simp
 refine⟨?_,by omega⟩;rw[aw A];show Bn _ _=_;rw[Bv];have:Bn (λ_=>true) [m[q]'A]=(m[q]'A).2:=by rw[AQ];simp[Bn]
 rw[this];rfl
theorem YO{M}(Ab:1<=M)(Av:M<=4096)(w cb ob O N)(k m:AL)(T A)(h:BU false M k T w cb O)(g:BU false M m A w ob N)(hT:T+A<=9223372036854775807)(H:∀q,(BE false M k (m.take q)).length<=M)(Aw:m.length<=4096):
  C prog 233 #[.pointer (some ⟨cb,0,none⟩),.pointer (some ⟨ob,0,none⟩)] w λe w' =>e=R (I J 0)/\Bi false M w cb O (BE false M k m) (T+A) w' :=by
 have Aa:=Zh (λW (b:B w.heap.size w W)=>LV W cb O k T (h.next b) (by omega));have Z:=Zh (λW (b:B w.heap.size w W)=>LV W ob N m A (g.next b) (by omega));have AA:=Zh (λW b=>Az W b T A hT);obtain⟨rm,fm,lm,xm⟩:=g.rising;have a:=Zh (Zi hT (Zi H (Zi Aw (Zi fm (Zi lm xm)))));have HG:=Zh (Zi h g);have f:=H 0;rw[bh]at f;have HM:=Zh (Zi Ab (Zi Av f));obtain⟨sb,v,S,hO⟩:=h;obtain⟨so,u,P,hN⟩:=g;obtain⟨c0,_,_,_⟩:=S.cells;obtain⟨d0,_,_,_⟩:=P.cells;have HP:=Zh P;obtain⟨l,hl⟩:∃l,l=A-AB m:=⟨_,rfl⟩;have HL:=Zh hl;have e0:((M:Int) !=(M:Int))=false:=by simp
 obtain⟨n,hn⟩:∃n,n=m.length:=⟨_,rfl⟩;have HN:=Zh hn;have A6:n<=4096:=by omega
 have Ay:=Zh (show∀W,B w.heap.size w W->W.cell? ⟨ob,1,none⟩=some (.pointer (some ⟨so,0,none⟩))/\W.cell? ⟨ob,2,none⟩=some (I U l)/\∀W',B w.heap.size w W' ->C prog 177 #[.pointer (some ⟨so,0,none⟩)] W' λe w' =>∃vp,e=R vp/\w'.ownsRow W'.heap.size 228 2 vp m.length (AV m)/\B W'.heap.size W' w' from λW b=>by
  have k:=(P.next b).cells;refine⟨k.2.1,by rw[hl];exact k.2.2.1,λW' b' =>Kf W' so u m (P.next b').st (by omega)⟩)
 clear S P hO hN hT H Aw fm lm xm rm hl hn Ab Av f;have z:=Zh (show∀n,B w.heap.size w (w.drewN n)from λn=>below_drewN (B.refl _ _) n);go_enter func233,ntmps233;go_wp2_with fail;go_quiet(fail);rename_i nq;have x:=z.out nq;have t1:=Aa.out _ x;have x:=Zh x;clear z c0 d0 Aa;go_wp2_with fail;refine t1.mono ?_;rintro e w1 ⟨rfl,b1⟩;have y:=x.out.trans (b1.mono x.out.size);have t2:=Z.out _ y;have y:=Zh y;clear x t1 b1 Z;go_wp2_with fail;refine t2.mono ?_;rintro e w2 ⟨rfl,b2⟩;have B3:=Zh (y.out.trans (b2.mono y.out.size));clear y t2 b2;go_wp2_with fail;refine(AA.out _ _ (by simp) (by simp)).mono ?_;rintro e w3 ⟨rfl,rfl⟩;have B4:Hid (B w.heap.size w (w2.alloc (.cells #[I U T,I U A] 23))):=Zh (B3.out.alloc B3.out.size _);generalize w2.alloc (.cells #[I U T,I U A] 23)=w4 at B4⊢;obtain⟨c1,c2,c3⟩:=Ay.out w4 B4.out;have t3:=c3 w4 B4.out;clear B3 AA c3 Ay;go_wp2_with fail;refine t3.mono ?_;rintro e w5 ⟨vp,rfl,o5,b5⟩;have J5:GN false M w cb O k T vp m w5:=((Bi.start HG.out.1).next B4.out).toL b5 o5;obtain⟨Ap,cp,Ax⟩:=AF o5;rw[<-HN.out]at Ax;subst Ax;have HJ:=Zh J5;clear J5 o5 b5 t3 B4 c1 c2;go_wp2_with fail;go_loopg [9,48] n (λg p i wr=>∃q:Nat,i=I J q/\q<=n/\n-q<=g/\GN false M w cb O (BE false M k (m.take q)) (T+AB (m.take q)) (L Ap n cp) m wr);case atStart=>exact⟨0,rfl,RR _,E _,by rw[bh];exact HJ.out⟩
 case round=>
  clear HJ;obtain⟨q,rfl,hq,hg,D⟩:=hrel;have HJ:=Zh D;by_cases Ar:q<n
  ·have g0:(q:Int)<(n:Int):=by omega
   have F:q<m.length:=by rw[<-HN.out];exact Ar
   obtain⟨ix,X⟩:∃i,i=(m[q]'F).1:=⟨_,rfl⟩;obtain⟨ct,K⟩:∃i,i=(m[q]'F).2:=⟨_,rfl⟩;obtain⟨T1,T2⟩:=GO F;rw[<-K]at T1 T2;have o:=a.out.2.2.2.1 _ (Pa F);have d:=a.out.2.2.2.2.2 _ (Pa F);rw[<-K]at o;rw[<-X]at d;have j:BE false M k (m.take (q+1))=CF false M (BE false M k (m.take q)) ix ct:=by
    rw[aw F,F9,X,K]
   have Y:=a.out.2.1 q;have G:=a.out.2.1 (q+1);rw[j]at G;have hU:=a.out.1;have c:=a.out.2.2.2.2.1;rcases AH D.own with⟨s,A5,_⟩|⟨g,A4,s,A0,Ac,_,A1⟩
   ·omega
   simp only[L.injEq]at s;obtain⟨rfl,A3,rfl⟩:=s;have O2:=D.own;have en:n=m.length:=HN.out;rw[en]at O2;clear en;have p0:wr.cell? ⟨g,q*2,none⟩=some (I J ix):=by rw[O2.cellAt _ (by omega),BI m q F,X]
   have p1:wr.cell? ⟨g,q*2+1,none⟩=some (I U ct):=by rw[O2.cellAt _ (by omega),BT m q F,K]
   have J2:=D.next ((B.refl _ _).alloc (E _) (.cells #[I J ix,I U ct] 228));have t:=J2.call (r:=R (.tuple #[])) λO' A2 =>cG HM.out.1 HM.out.2.1 _ cb O' _ _ A2 ix ct d o (by omega) G Y;rw[<-j,show T+AB (m.take q)+ct=T+AB (m.take (q+1))from by omega]at t;clear A3 O2 D J2 A1 A0 Ac X K j Y G hU c T1 T2 o d;go_wp2_with fail;refine t.mono ?_;rintro e w6 ⟨rfl,J6⟩;have HK:=Zh J6;clear t J6;go_wp2_with fail;go_roundg (n-(q+1));case measure=>omega
   exact⟨q+1,by go_num,by omega,E _,HK.out⟩
  ·have Al:q=n:=by omega
   have g0:¬(q:Int)<(n:Int):=by omega
   rw[Al,HN.out,bw]at D;obtain⟨l1,Y,k1,k2,k3⟩:=D.toR.lose;obtain⟨l2,G⟩:∃l2,l2=l1+l:=⟨_,rfl⟩;have hU:=a.out.1;have c:=a.out.2.2.2.2.1;have A7:U.wrap ((l1:Int)+(l:Int))=(l2:Int):=by have:=HL.out;rw[NW];omega
   have k4:=k3 l l2 G;rw[HL.out,show T+AB m+(A-AB m)=T+A from by omega]at k4;have HK:=Zh k4;clear D HJ Y k3 G hU c k4 Al Ar hq hg;go_wp2_with fail;go_ret;exact⟨rfl,HK.out⟩
def Sf(M:Nat)(row:AL)(T:Nat)(w:W)(e:Ending)(w' :W):Prop:=∃(po:Option Addr) (code:Int),e=R (.tuple #[P po,I J code])/\B w.heap.size w w' /\
 (code=0->∃cb O,po=S ⟨cb,0,N⟩/\BU false M row T w' cb O/\∀j,O j->w.heap.size<=j)
theorem aZ{M}(AA:1<=M)(Aw:M<=4096)(w va)(m:AL)(l)(h:w.ownsRow 0 228 2 va m.length (AV m))(rm:AT m)(fm:Bh m)(xm:∀x∈m,x.1<4096)(hT:AB m+l<=9223372036854775807)(s:∀q,(BE false M [] (m.take q)).length<=M)(u:BE false M [] m=m)(A5:m.length<=4096):
  C prog 112 #[I J M,va,I U l] w (Sf M m (AB m+l) w):=by
 obtain⟨A,f,hv⟩:=AF h;subst hv;have A2:=YJ AA Aw w;have A6:∀x∈m,x.2<=9223372036854775807:=λx hx=>by
  have:=Be rm hx;have:=An m x.1;omega
 have v:=Zh (λW (b:Below w.heap.size w W)=>Qd W (L A m.length f) m (M:Int) (AE h b λg a=>(h.lt g a).2) rm fm A6 (by omega));have A7:=Zh (λW b (t:Nat) (ht:t+l<=9223372036854775807)=>Az W b t l ht);obtain⟨n,hn⟩:∃n,n=m.length:=⟨_,rfl⟩;have HN:=Zh hn;have Bb:n<=4096:=by omega
 have X:=Zh (Zi hT (Zi s (Zi A5 (Zi fm (Zi xm (Zi u h))))));have HM:=Zh (Zi AA Aw);rw[<-hn]at v⊢;clear h rm fm xm hT s u A5 hn AA Aw A6;go_enter func112,ntmps112;go_wp2_with fail;refine A2.mono ?_;rintro e w1 ⟨cb,O,rfl,Q1,b1,o⟩;have A4:=v.out w1 b1;have K:=Zh (Zi Q1 (Zi b1 o));clear A2 Q1 b1 o v;go_wp2_with fail;refine A4.mono ?_;rintro e w2 ⟨rfl,b2⟩;have J2:GN false M w1 cb O [] 0 (L A m.length f) m w2:=⟨⟨O,K.out.1.next b2,λj u=>.inl u,AD.of_below b2,λg a o=>by have:=(X.out.2.2.2.2.2.2.lt g a).2;have:=K.out.2.2 g o;omega⟩,AE (AE X.out.2.2.2.2.2.2 K.out.2.1 λg a=>(X.out.2.2.2.2.2.2.lt g a).2) b2 λg a=>by have:=(X.out.2.2.2.2.2.2.lt g a).2;have:=K.out.2.1.size;omega⟩;have Al:=Zh (show∀k T W,GN false M w1 cb O k T (L A m.length f) m W->Below w.heap.size w W from λk T W G=>by
  obtain⟨O',q1,q2,q3,q4⟩:=G.st;exact K.out.2.1.trans (q3.below (B:=w.heap.size) K.out.2.1.size λj u o=>by have:=K.out.2.2 j o;omega))
 rw[<-HN.out]at J2 Al;have HJ:=Zh J2;clear A4 b2 J2;by_cases d:(n:Int)<=(M:Int)
 ·have hd:decide ((n:Int)<=(M:Int))=true:=by simpa using d
  rw[hd];go_wp2_with fail;go_loopg [11,28] n (λg p i wr=>∃q:Nat,i=I J q/\q<=n/\n-q<=g/\GN false M w1 cb O (BE false M [] (m.take q)) (AB (m.take q)) (L A n f) m wr);case atStart=>exact⟨0,rfl,RR _,E _,by rw[bh];exact HJ.out⟩
  case round=>
   clear HJ hd d;obtain⟨q,rfl,hq,a,G⟩:=hrel;by_cases A8:q<n
   ·have g0:(q:Int)<(n:Int):=by omega
    have H:q<m.length:=by rw[<-HN.out];exact A8
    obtain⟨ix,Z⟩:∃i,i=(m[q]'H).1:=⟨_,rfl⟩;obtain⟨ct,Y⟩:∃i,i=(m[q]'H).2:=⟨_,rfl⟩;obtain⟨T1,T2⟩:=GO H;rw[<-Y]at T1 T2;have Ay:=X.out.2.2.2.1 _ (Pa H);have Aa:=X.out.2.2.2.2.1 _ (Pa H);rw[<-Y]at Ay;rw[<-Z]at Aa;have Ac:BE false M [] (m.take (q+1))=CF false M (BE false M [] (m.take q)) ix ct:=by
     rw[aw H,F9,Z,Y]
    have Ab:=X.out.2.1 q;have Ar:=X.out.2.1 (q+1);rw[Ac]at Ar;have hU:=X.out.1;rcases AH G.own with⟨Av,Ba,_⟩|⟨g,BX,Av,BA,A1,_,A9⟩
    ·omega
    simp only[L.injEq]at Av;obtain⟨rfl,BR,rfl⟩:=Av;have O2:=G.own;have en:n=m.length:=HN.out;rw[en]at O2;clear en;have p0:wr.cell? ⟨g,q*2,N⟩=S (I J ix):=by rw[O2.cellAt _ (by omega),BI m q H,Z]
    have p1:wr.cell? ⟨g,q*2+1,N⟩=S (I U ct):=by rw[O2.cellAt _ (by omega),BT m q H,Y]
    have J2:=G.next ((Below.refl _ _).alloc (E _) (.cells #[I J ix,I U ct] 228));have Ax:=J2.call (r:=R (I J 0)) λO' BQ =>YK HM.out.1 HM.out.2 _ cb O' _ _ BQ ix ct Aa Ay (by omega) Ar Ab;rw[<-Ac,show AB (m.take q)+ct=AB (m.take (q+1))from by omega]at Ax;clear BR O2 G J2 A9 BA A1 Z Y Ac Ab Ar hU T1 T2 Ay Aa;go_wp2_with fail;refine Ax.mono ?_;rintro e w6 ⟨rfl,J6⟩;have HK:=Zh J6;clear Ax J6;go_wp2_with fail;go_roundg (n-(q+1));case measure=>omega
    exact⟨q+1,by go_num,by omega,E _,HK.out⟩
   ·have A3:q=n:=by omega
    have g0:¬(q:Int)<(n:Int):=by omega
    rw[A3,HN.out,bw,X.out.2.2.2.2.2.1]at G;obtain⟨O',q1,q2,q3,q4⟩:=G.st;have z:=LV wr cb O' m (AB m) q1 (by have:=X.out.1;omega);have FR:=Zh (show∀W,Below wr.heap.size wr W->W.cell? ⟨cb,2,N⟩=S (I U 0)/\W.frozen? ⟨cb,2,N⟩=false/\Sf M m (AB m+l) w (R (.tuple #[.pointer (S ⟨cb,0,N⟩),I J 0])) (W.setCell ⟨cb,2,N⟩ (I U l))/\∀po c,c≠0->Sf M m (AB m+l) w (R (.tuple #[.pointer po,I J c])) W from λW b=>by
     have D:Bi false M w1 cb O m (AB m) W:=⟨O',q1.next b,q2,q3.trans' (AD.of_below (F:=O) b) (λ_ _ h=>h) (λ_ _ h=>h)⟩;obtain⟨l1,Ab,k1,k2,k3⟩:=D.lose;have hb:Below w.heap.size w W:=Al.out _ _ W (by rw[HN.out];exact G.next b);have z0:l1=0:=by omega
     rw[z0]at k1;have k4:=k3 l l (by omega);refine⟨k1,k2,⟨_,0,rfl,?_,λ_=> ?_⟩,λpo c hc=>⟨po,c,rfl,hb,λh=>absurd h hc⟩⟩
     ·obtain⟨P,p1,p2,p3⟩:=k4;exact K.out.2.1.trans (p3.below (B:=w.heap.size) K.out.2.1.size λj u o=>by have:=K.out.2.2 j o;omega)
     ·obtain⟨P,p1,p2,p3⟩:=k4;refine⟨cb,P,rfl,p1,λj u=> ?_⟩;rcases p2 j u with e|e
      ·exact K.out.2.2 j e
      ·exact Q0 K.out.2.1.size e)
    obtain⟨t,ht⟩:∃t,t=AB m:=⟨_,rfl⟩;have y:=X.out.1;rw[<-ht]at z y;have A0:=λW b=>A7.out W b t y;clear G q1 q2 q3 q4 A3 A8 hq a ht y A7;go_wp2_with fail;refine z.mono ?_;rintro e w3 ⟨rfl,b3⟩;have Ap:=Zh b3;clear z b3;go_wp2_with fail;refine(A0 _ _ (by simp) (by simp)).mono ?_;rintro e w4 ⟨rfl,rfl⟩;obtain⟨r1,r2,r3,r4⟩:=FR.out _ (Ap.out.alloc Ap.out.size (.cells #[I U t,I U l] 23));have HR:=Zh (Zi r3 r4);clear A0 Ap r3 r4 FR;by_cases h0:0<(l:Int)
    ·have d1:decide (0<(l:Int))=true:=by simpa using h0
     have d0:decide (0<l)=true:=by simpa using h0
     by_cases hz:n=0
     ·subst hz;clear h0;go_wp2_with fail;go_ret2;exact HR.out.2 _ _ (by decide)
     ·have d2:((n:Int)==0)=false:=by simp;omega
      have d3:(n==0)=false:=by simp;omega
      clear h0 hz;go_wp2_with fail;go_ret2;exact HR.out.1
    ·have d1:decide (0<(l:Int))=false:=by simpa using h0
     have d0:decide (0<l)=false:=by simpa using h0
     clear h0;go_wp2_with fail;go_ret2;exact HR.out.1
 ·have hd:decide ((n:Int)<=(M:Int))=false:=by simpa using d
  rw[hd];have HB:=Zh (Al.out _ _ _ HJ.out);clear hd d;go_wp2_with fail;go_ret2;exact⟨N,1,rfl,HB.out,λh=>absurd h (by decide)⟩
theorem YP{M}(Ab:1<=M)(Av:M<=4096)(w cb ob O N)(k m:AL)(T A)(h:BU true M k T w cb O)(g:BU true M m A w ob N)(hT:T+A<=9223372036854775807)(H:∀q,(BE true M k (m.take q)).length<=M)(Aw:m.length<=4096):
  C prog 234 #[.pointer (some ⟨cb,0,none⟩),.pointer (some ⟨ob,0,none⟩)] w λe w' =>e=R (I J 0)/\Bi true M w cb O (BE true M k m) (T+A) w' :=by
 have Aa:=Zh (λW (b:B w.heap.size w W)=>LW W cb O k T (h.next b) (by omega));have Z:=Zh (λW (b:B w.heap.size w W)=>LW W ob N m A (g.next b) (by omega));have AA:=Zh (λW b=>Az W b T A hT);obtain⟨rm,fm,lm,xm⟩:=g.rising;have a:=Zh (Zi hT (Zi H (Zi Aw (Zi fm (Zi lm xm)))));have HG:=Zh (Zi h g);have f:=H 0;rw[bh]at f;have HM:=Zh (Zi Ab (Zi Av f));obtain⟨sb,v,S,hO⟩:=h;obtain⟨so,u,P,hN⟩:=g;obtain⟨c0,_,_,_⟩:=S.cells;obtain⟨d0,_,_,_⟩:=P.cells;have HP:=Zh P;obtain⟨l,hl⟩:∃l,l=A-AB m:=⟨_,rfl⟩;have HL:=Zh hl;have e0:((M:Int) !=(M:Int))=false:=by simp
 obtain⟨n,hn⟩:∃n,n=m.length:=⟨_,rfl⟩;have HN:=Zh hn;have A6:n<=4096:=by omega
 have Ay:=Zh (show∀W,B w.heap.size w W->W.cell? ⟨ob,1,none⟩=some (.pointer (some ⟨so,0,none⟩))/\W.cell? ⟨ob,2,none⟩=some (I U l)/\∀W',B w.heap.size w W' ->C prog 177 #[.pointer (some ⟨so,0,none⟩)] W' λe w' =>∃vp,e=R vp/\w'.ownsRow W'.heap.size 228 2 vp m.length (AV m)/\B W'.heap.size W' w' from λW b=>by
  have k:=(P.next b).cells;refine⟨k.2.1,by rw[hl];exact k.2.2.1,λW' b' =>Kf W' so u m (P.next b').st (by omega)⟩)
 clear S P hO hN hT H Aw fm lm xm rm hl hn Ab Av f;have z:=Zh (show∀n,B w.heap.size w (w.drewN n)from λn=>below_drewN (B.refl _ _) n);go_enter func234,ntmps234;go_wp2_with fail;go_quiet(fail);rename_i nq;have x:=z.out nq;have t1:=Aa.out _ x;have x:=Zh x;clear z c0 d0 Aa;go_wp2_with fail;refine t1.mono ?_;rintro e w1 ⟨rfl,b1⟩;have y:=x.out.trans (b1.mono x.out.size);have t2:=Z.out _ y;have y:=Zh y;clear x t1 b1 Z;go_wp2_with fail;refine t2.mono ?_;rintro e w2 ⟨rfl,b2⟩;have B3:=Zh (y.out.trans (b2.mono y.out.size));clear y t2 b2;go_wp2_with fail;refine(AA.out _ _ (by simp) (by simp)).mono ?_;rintro e w3 ⟨rfl,rfl⟩;have B4:Hid (B w.heap.size w (w2.alloc (.cells #[I U T,I U A] 23))):=Zh (B3.out.alloc B3.out.size _);generalize w2.alloc (.cells #[I U T,I U A] 23)=w4 at B4⊢;obtain⟨c1,c2,c3⟩:=Ay.out w4 B4.out;have t3:=c3 w4 B4.out;clear B3 AA c3 Ay;go_wp2_with fail;refine t3.mono ?_;rintro e w5 ⟨vp,rfl,o5,b5⟩;have J5:GN true M w cb O k T vp m w5:=((Bi.start HG.out.1).next B4.out).toL b5 o5;obtain⟨Ap,cp,Ax⟩:=AF o5;rw[<-HN.out]at Ax;subst Ax;have HJ:=Zh J5;clear J5 o5 b5 t3 B4 c1 c2;go_wp2_with fail;go_loopg [9,48] n (λg p i wr=>∃q:Nat,i=I J q/\q<=n/\n-q<=g/\GN true M w cb O (BE true M k (m.take q)) (T+AB (m.take q)) (L Ap n cp) m wr);case atStart=>exact⟨0,rfl,RR _,E _,by rw[bh];exact HJ.out⟩
 case round=>
  clear HJ;obtain⟨q,rfl,hq,hg,D⟩:=hrel;have HJ:=Zh D;by_cases Ar:q<n
  ·have g0:(q:Int)<(n:Int):=by omega
   have F:q<m.length:=by rw[<-HN.out];exact Ar
   obtain⟨ix,X⟩:∃i,i=(m[q]'F).1:=⟨_,rfl⟩;obtain⟨ct,K⟩:∃i,i=(m[q]'F).2:=⟨_,rfl⟩;obtain⟨T1,T2⟩:=GO F;rw[<-K]at T1 T2;have o:=a.out.2.2.2.1 _ (Pa F);have d:=a.out.2.2.2.2.2 _ (Pa F);rw[<-K]at o;rw[<-X]at d;have j:BE true M k (m.take (q+1))=CF true M (BE true M k (m.take q)) ix ct:=by
    rw[aw F,F9,X,K]
   have Y:=a.out.2.1 q;have G:=a.out.2.1 (q+1);rw[j]at G;have hU:=a.out.1;have c:=a.out.2.2.2.2.1;rcases AH D.own with⟨s,A5,_⟩|⟨g,A4,s,A0,Ac,_,A1⟩
   ·omega
   simp only[L.injEq]at s;obtain⟨rfl,A3,rfl⟩:=s;have O2:=D.own;have en:n=m.length:=HN.out;rw[en]at O2;clear en;have p0:wr.cell? ⟨g,q*2,none⟩=some (I J ix):=by rw[O2.cellAt _ (by omega),BI m q F,X]
   have p1:wr.cell? ⟨g,q*2+1,none⟩=some (I U ct):=by rw[O2.cellAt _ (by omega),BT m q F,K]
   have J2:=D.next ((B.refl _ _).alloc (E _) (.cells #[I J ix,I U ct] 228));have t:=J2.call (r:=R (.tuple #[])) λO' A2 =>cH HM.out.1 HM.out.2.1 _ cb O' _ _ A2 ix ct d o (by omega) G Y;rw[<-j,show T+AB (m.take q)+ct=T+AB (m.take (q+1))from by omega]at t;clear A3 O2 D J2 A1 A0 Ac X K j Y G hU c T1 T2 o d;go_wp2_with fail;refine t.mono ?_;rintro e w6 ⟨rfl,J6⟩;have HK:=Zh J6;clear t J6;go_wp2_with fail;go_roundg (n-(q+1));case measure=>omega
   exact⟨q+1,by go_num,by omega,E _,HK.out⟩
  ·have Al:q=n:=by omega
   have g0:¬(q:Int)<(n:Int):=by omega
   rw[Al,HN.out,bw]at D;obtain⟨l1,Y,k1,k2,k3⟩:=D.toR.lose;obtain⟨l2,G⟩:∃l2,l2=l1+l:=⟨_,rfl⟩;have hU:=a.out.1;have c:=a.out.2.2.2.2.1;have A7:U.wrap ((l1:Int)+(l:Int))=(l2:Int):=by have:=HL.out;rw[NW];omega
   have k4:=k3 l l2 G;rw[HL.out,show T+AB m+(A-AB m)=T+A from by omega]at k4;have HK:=Zh k4;clear D HJ Y k3 G hU c k4 Al Ar hq hg;go_wp2_with fail;go_ret;exact⟨rfl,HK.out⟩
def Sh(M:Nat)(row:AL)(T:Nat)(w:W)(e:Ending)(w' :W):Prop:=∃(po:Option Addr) (code:Int),e=R (.tuple #[P po,I J code])/\B w.heap.size w w' /\
 (code=0->∃cb O,po=S ⟨cb,0,N⟩/\BU true M row T w' cb O/\∀j,O j->w.heap.size<=j)
theorem aa{M}(AA:1<=M)(Aw:M<=4096)(w va)(m:AL)(l)(h:w.ownsRow 0 228 2 va m.length (AV m))(rm:AT m)(fm:Bh m)(xm:∀x∈m,x.1<4096)(hT:AB m+l<=9223372036854775807)(s:∀q,(BE true M [] (m.take q)).length<=M)(u:BE true M [] m=m)(A5:m.length<=4096):
  C prog 111 #[I J M,va,I U l] w (Sh M m (AB m+l) w):=by
 obtain⟨A,f,hv⟩:=AF h;subst hv;have A2:=YM AA Aw w;have A6:∀x∈m,x.2<=9223372036854775807:=λx hx=>by
  have:=Be rm hx;have:=An m x.1;omega
 have v:=Zh (λW (b:Below w.heap.size w W)=>Qd W (L A m.length f) m (M:Int) (AE h b λg a=>(h.lt g a).2) rm fm A6 (by omega));have A7:=Zh (λW b (t:Nat) (ht:t+l<=9223372036854775807)=>Az W b t l ht);obtain⟨n,hn⟩:∃n,n=m.length:=⟨_,rfl⟩;have HN:=Zh hn;have Bb:n<=4096:=by omega
 have X:=Zh (Zi hT (Zi s (Zi A5 (Zi fm (Zi xm (Zi u h))))));have HM:=Zh (Zi AA Aw);rw[<-hn]at v⊢;clear h rm fm xm hT s u A5 hn AA Aw A6;go_enter func111,ntmps111;go_wp2_with fail;refine A2.mono ?_;rintro e w1 ⟨cb,O,rfl,Q1,b1,o⟩;have A4:=v.out w1 b1;have K:=Zh (Zi Q1 (Zi b1 o));clear A2 Q1 b1 o v;go_wp2_with fail;refine A4.mono ?_;rintro e w2 ⟨rfl,b2⟩;have J2:GN true M w1 cb O [] 0 (L A m.length f) m w2:=⟨⟨O,K.out.1.next b2,λj u=>.inl u,AD.of_below b2,λg a o=>by have:=(X.out.2.2.2.2.2.2.lt g a).2;have:=K.out.2.2 g o;omega⟩,AE (AE X.out.2.2.2.2.2.2 K.out.2.1 λg a=>(X.out.2.2.2.2.2.2.lt g a).2) b2 λg a=>by have:=(X.out.2.2.2.2.2.2.lt g a).2;have:=K.out.2.1.size;omega⟩;have Al:=Zh (show∀k T W,GN true M w1 cb O k T (L A m.length f) m W->Below w.heap.size w W from λk T W G=>by
  obtain⟨O',q1,q2,q3,q4⟩:=G.st;exact K.out.2.1.trans (q3.below (B:=w.heap.size) K.out.2.1.size λj u o=>by have:=K.out.2.2 j o;omega))
 rw[<-HN.out]at J2 Al;have HJ:=Zh J2;clear A4 b2 J2;by_cases d:(n:Int)<=(M:Int)
 ·have hd:decide ((n:Int)<=(M:Int))=true:=by simpa using d
  rw[hd];go_wp2_with fail;go_loopg [11,28] n (λg p i wr=>∃q:Nat,i=I J q/\q<=n/\n-q<=g/\GN true M w1 cb O (BE true M [] (m.take q)) (AB (m.take q)) (L A n f) m wr);case atStart=>exact⟨0,rfl,RR _,E _,by rw[bh];exact HJ.out⟩
  case round=>
   clear HJ hd d;obtain⟨q,rfl,hq,a,G⟩:=hrel;by_cases A8:q<n
   ·have g0:(q:Int)<(n:Int):=by omega
    have H:q<m.length:=by rw[<-HN.out];exact A8
    obtain⟨ix,Z⟩:∃i,i=(m[q]'H).1:=⟨_,rfl⟩;obtain⟨ct,Y⟩:∃i,i=(m[q]'H).2:=⟨_,rfl⟩;obtain⟨T1,T2⟩:=GO H;rw[<-Y]at T1 T2;have Ay:=X.out.2.2.2.1 _ (Pa H);have Aa:=X.out.2.2.2.2.1 _ (Pa H);rw[<-Y]at Ay;rw[<-Z]at Aa;have Ac:BE true M [] (m.take (q+1))=CF true M (BE true M [] (m.take q)) ix ct:=by
     rw[aw H,F9,Z,Y]
    have Ab:=X.out.2.1 q;have Ar:=X.out.2.1 (q+1);rw[Ac]at Ar;have hU:=X.out.1;rcases AH G.own with⟨Av,Ba,_⟩|⟨g,BX,Av,BA,A1,_,A9⟩
    ·omega
    simp only[L.injEq]at Av;obtain⟨rfl,BR,rfl⟩:=Av;have O2:=G.own;have en:n=m.length:=HN.out;rw[en]at O2;clear en;have p0:wr.cell? ⟨g,q*2,N⟩=S (I J ix):=by rw[O2.cellAt _ (by omega),BI m q H,Z]
    have p1:wr.cell? ⟨g,q*2+1,N⟩=S (I U ct):=by rw[O2.cellAt _ (by omega),BT m q H,Y]
    have J2:=G.next ((Below.refl _ _).alloc (E _) (.cells #[I J ix,I U ct] 228));have Ax:=J2.call (r:=R (I J 0)) λO' BQ =>YN HM.out.1 HM.out.2 _ cb O' _ _ BQ ix ct Aa Ay (by omega) Ar Ab;rw[<-Ac,show AB (m.take q)+ct=AB (m.take (q+1))from by omega]at Ax;clear BR O2 G J2 A9 BA A1 Z Y Ac Ab Ar hU T1 T2 Ay Aa;go_wp2_with fail;refine Ax.mono ?_;rintro e w6 ⟨rfl,J6⟩;have HK:=Zh J6;clear Ax J6;go_wp2_with fail;go_roundg (n-(q+1));case measure=>omega
    exact⟨q+1,by go_num,by omega,E _,HK.out⟩
   ·have A3:q=n:=by omega
    have g0:¬(q:Int)<(n:Int):=by omega
    rw[A3,HN.out,bw,X.out.2.2.2.2.2.1]at G;obtain⟨O',q1,q2,q3,q4⟩:=G.st;have z:=LW wr cb O' m (AB m) q1 (by have:=X.out.1;omega);have FR:=Zh (show∀W,Below wr.heap.size wr W->W.cell? ⟨cb,2,N⟩=S (I U 0)/\W.frozen? ⟨cb,2,N⟩=false/\Sh M m (AB m+l) w (R (.tuple #[.pointer (S ⟨cb,0,N⟩),I J 0])) (W.setCell ⟨cb,2,N⟩ (I U l))/\∀po c,c≠0->Sh M m (AB m+l) w (R (.tuple #[.pointer po,I J c])) W from λW b=>by
     have D:Bi true M w1 cb O m (AB m) W:=⟨O',q1.next b,q2,q3.trans' (AD.of_below (F:=O) b) (λ_ _ h=>h) (λ_ _ h=>h)⟩;obtain⟨l1,Ab,k1,k2,k3⟩:=D.lose;have hb:Below w.heap.size w W:=Al.out _ _ W (by rw[HN.out];exact G.next b);have z0:l1=0:=by omega
     rw[z0]at k1;have k4:=k3 l l (by omega);refine⟨k1,k2,⟨_,0,rfl,?_,λ_=> ?_⟩,λpo c hc=>⟨po,c,rfl,hb,λh=>absurd h hc⟩⟩
     ·obtain⟨P,p1,p2,p3⟩:=k4;exact K.out.2.1.trans (p3.below (B:=w.heap.size) K.out.2.1.size λj u o=>by have:=K.out.2.2 j o;omega)
     ·obtain⟨P,p1,p2,p3⟩:=k4;refine⟨cb,P,rfl,p1,λj u=> ?_⟩;rcases p2 j u with e|e
      ·exact K.out.2.2 j e
      ·exact Q0 K.out.2.1.size e)
    obtain⟨t,ht⟩:∃t,t=AB m:=⟨_,rfl⟩;have y:=X.out.1;rw[<-ht]at z y;have A0:=λW b=>A7.out W b t y;clear G q1 q2 q3 q4 A3 A8 hq a ht y A7;go_wp2_with fail;refine z.mono ?_;rintro e w3 ⟨rfl,b3⟩;have Ap:=Zh b3;clear z b3;go_wp2_with fail;refine(A0 _ _ (by simp) (by simp)).mono ?_;rintro e w4 ⟨rfl,rfl⟩;obtain⟨r1,r2,r3,r4⟩:=FR.out _ (Ap.out.alloc Ap.out.size (.cells #[I U t,I U l] 23));have HR:=Zh (Zi r3 r4);clear A0 Ap r3 r4 FR;by_cases h0:0<(l:Int)
    ·have d1:decide (0<(l:Int))=true:=by simpa using h0
     have d0:decide (0<l)=true:=by simpa using h0
     by_cases hz:n=0
     ·subst hz;clear h0;go_wp2_with fail;go_ret2;exact HR.out.2 _ _ (by decide)
     ·have d2:((n:Int)==0)=false:=by simp;omega
      have d3:(n==0)=false:=by simp;omega
      clear h0 hz;go_wp2_with fail;go_ret2;exact HR.out.1
    ·have d1:decide (0<(l:Int))=false:=by simpa using h0
     have d0:decide (0<l)=false:=by simpa using h0
     clear h0;go_wp2_with fail;go_ret2;exact HR.out.1
 ·have hd:decide ((n:Int)<=(M:Int))=false:=by simpa using d
  rw[hd];have HB:=Zh (Al.out _ _ _ HJ.out);clear hd d;go_wp2_with fail;go_ret2;exact⟨N,1,rfl,HB.out,λh=>absurd h (by decide)⟩
theorem Fi.drew{B w D v A}(h:Fi B w D v A):Fi B w.drew D v A:=⟨h.blk,h.own,h.base⟩
theorem CH.drew{B w F A c D wr}(h:CH B w F A c D wr):CH B w F A c D wr.drew:=⟨h.qu.drew,h.below.drew,h.keep⟩
theorem Qe(x:Nat):AX (x:Int)=2*x:=by unfold AX;have:=Sg.zigF_or (x:Int);omega
theorem Bj(l:AL)(i)(h:i<l.length):CJ l i=(l[i]'h).1:=by unfold CJ;rw[List.getD_eq_getElem?_getD,List.getElem?_eq_getElem h];rfl
theorem Dj(l:AL)(i)(h:i<l.length):C5 l i=(l[i]'h).2:=by unfold C5;rw[List.getD_eq_getElem?_getD,List.getElem?_eq_getElem h];rfl
theorem LX{w W B g n D}{l:AL}{A}(h:w.ownsRow B 228 2 (L (S ⟨g,0,N⟩) n D) l.length (AV l))(K:AI w g A 228)(H:AI W g A 228)(i)(hi:i<l.length):
  W.cell? ⟨g,i*2,N⟩=S (I J (CJ l i:Int))/\W.cell? ⟨g,i*2+1,N⟩=S (I U (C5 l i:Int)):=by
 have e:∀j,W.cell? ⟨g,j,N⟩=w.cell? ⟨g,j,N⟩:=λj=>by rw[cell_of_row w g j A 228 (0,0) K,cell_of_row W g j A 228 (0,0) H]
 have X:=h.1;rcases AH h with⟨Y,Z,_⟩|⟨a,F,G,_⟩
 ·omega
 ·simp only[L.injEq,fk,Addr.mk.injEq]at G;obtain⟨⟨rfl,_⟩,rfl,rfl⟩:=G;rw[e,e,h.cellAt _ (by omega),h.cellAt _ (by omega),Bj l i hi,Dj l i hi];exact⟨BI l i hi,BT l i hi⟩
theorem I6(B w Z A c1 G v B2)(l:AL)(h:Fi B w Z (L A G.length c1) G)(hB:B<=w.heap.size)(ho:w.ownsRow B2 228 2 v l.length (AV l))
  (hl:l.length<=4096)(hr:AT l)(hx:∀x∈l,x.1<9000000000000000000/\x.2<18446744073709551616)(A0:G.length<=100000):
  C prog 228 #[P (some ⟨Z,0,N⟩),v] w λe w' =>e=R (T #[])/\∃A' c',CH B w Z A' c' (G++Dc l) w' :=by
 obtain⟨Av,cv,hv⟩:=AF ho;subst hv;obtain⟨m,hm⟩:∃m,m=l.length:=⟨_,rfl⟩;have HM:=Zh hm;rw[<-hm]at hl ho⊢;have S0:=CH.start h;have c1:=Cd B (w.alloc (.cells (Dr [m]) 23)) Z w.heap.size 1 A c1 G [m] (h.alloc _) (by simp;omega) (AI.newAt rfl) (by simp;omega) (by have:=AC m (by omega);simp;omega) (by simp);have HX:=Zh hx;have HR:=Zh hr;clear hm hx hr;go_enter func228,ntmps228;go_wp2_with fail;refine c1.mono ?_;rintro e w1 ⟨rfl,A1,k1,S1⟩;clear c1;have S1:=(S0.alloc hB (.cells (Dr [m]) 23)).trans S1;have BX:=AC m (by omega);simp only[fp,fw,es]at S1;go_wp2_with fail;go_loopg [4,5,14] m (λg _ _ i wr=>∃(q:Nat) (A:Option Addr) (c:Nat) (F:List UInt8),i=I J q/\q<=m/\m-q<=g/\F=G++AK m++Ef l q/\F.length<=100010+20*q/\CH B w Z A c F wr);case atStart=>exact⟨0,A1,k1,_,rfl,RR _,E _,by rw[Jr,es],by rw[ag];omega,S1⟩
 case round=>
  clear S1 S0 h;obtain⟨q,A,c,F,rfl,hq,hg,j,Al,S⟩:=hrel;by_cases Aa:q<m
  ·have d:q<l.length:=by rw[<-HM.out];exact Aa
   have g1:(q:Int)<(m:Int):=by omega
   rcases AH ho with⟨h0,hn,_⟩|⟨g,BR,hv,_,_,_,A6⟩
   ·omega
   simp only[L.injEq,true_and]at hv;obtain⟨rfl,rfl⟩:=hv;obtain⟨Ax,s⟩:=AJ ho rfl;have D:∀W,CH B w Z A c F W->∀i,i<m->W.cell? ⟨g,i*2,N⟩=some (I J (CJ l i:Int))/\W.cell? ⟨g,i*2+1,N⟩=some (I U (C5 l i:Int)):=λW hW i hi=>
    LX (by rw[HM.out]at ho;exact ho) s (hW.keep g Ax 228 (by decide) (by decide) s) i (by rw[<-HM.out];exact hi)
   have f:=HX.out _ (Pa d);rw[<-Bj l q d,<-Dj l q d]at f;have Ap:Ef l (q+1)=Ef l q++AK (Db l q)++AK (C5 l q):=by rw[Jq];simp[Jp]
   obtain⟨c0,c1⟩:=D wr S q Aa;have p:=S.alloc hB (.cells #[I J (CJ l q:Int),I U (C5 l q:Int)] 228);have AA:B<=(wr.alloc (.cells #[I J (CJ l q:Int),I U (C5 l q:Int)] 228)).heap.size:=Q0 hB p.below.size;have PB:AI (wr.alloc (.cells #[I J (CJ l q:Int),I U (C5 l q:Int)] 228)) wr.heap.size #[I J (CJ l q:Int),I U (C5 l q:Int)] 228:=AI.newAt rfl;have p0:(wr.alloc (.cells #[I J (CJ l q:Int),I U (C5 l q:Int)] 228)).cell? ⟨wr.heap.size,0,N⟩=some (I J (CJ l q:Int)):=PB.cell rfl;have BA:=AC (C5 l q) f.2;have A4:F.length<=200000:=by omega
   have Ar:∀(B' :Nat) (b:World) (t:Option Addr) (k2:Nat) (n:Nat),n=Db l q->n<18446744073709551616->CH B w Z t k2 (F++AK n) b->
     ∀w3 y k3,CH B (b.alloc (.cells (Dr [C5 l q]) 23)) Z y k3 (F++AK n++ [C5 l q].flatMap AK) w3->
     ∃(q' :Nat) (A:Option Addr) (c:Nat) (F:List UInt8),I J ((q:Int)+1)=I J (q' :Int)/\q' <=m/\m-q' <=m-(q+1)/\F=G++AK m++Ef l q' /\F.length<=100010+20*q' /\CH B w Z A c F w3:=λB' b t k2 n hn K S2 w3 y k3 S3=>by
    have o:=AC n K;refine⟨q+1,y,k3,F++AK n++AK (C5 l q),by go_num,by omega,by omega,?_,?_,?_⟩
    ·rw[Ap,j,hn];simp only[List.append_assoc]
    ·simp only[ag];omega
    ·simp only[fp,fw,es]at S3;exact(S2.alloc hB _).trans S3
   have HF:=Zh Ar;clear Ar Ap j Al;by_cases Ay:q=0
   ·subst Ay;have A5:CJ l 0<9000000000000000000:=f.1;have c2:=IK B ((wr.alloc (.cells #[I J (CJ l 0:Int),I U (C5 l 0:Int)] 228)).alloc (.cells (IJ [(CJ l 0:Int)]) 2)) Z (wr.heap.size+1) 1 A c F [(CJ l 0:Int)] (p.qu.alloc _) (by simp at AA⊢;omega) (AI.newAt (by simp)) (by simp;omega) (by simp;omega) (by simp);have a:2*CJ l 0=Db l 0:=by unfold Db;rfl
    have Aw:BP [(CJ l 0:Int)]=AK (2*CJ l 0):=by simp[BP,Qe]
    rw[Aw]at c2;have HS:=Zh a;go_wp2_with fail;refine c2.mono ?_;rintro e b ⟨rfl,t,k2,S2⟩;clear c2 a Aw;have u:=S2.keep wr.heap.size _ 228 (by decide) (by decide) (PB.alloc _);have H :=(p.alloc hB (.cells (IJ [(CJ l 0:Int)]) 2)).trans S2;have p1:b.cell? ⟨wr.heap.size,1,N⟩=some (I U (C5 l 0:Int)):=u.cell rfl;have K:2*CJ l 0<18446744073709551616:=by omega
    have o:=AC _ K;have c3:=Cd B (b.alloc (.cells (Dr [C5 l 0]) 23)) Z b.heap.size 1 t k2 _ [C5 l 0] (H.qu.alloc _) (by have:=H.below.size;simp;omega) (AI.newAt rfl) (by simp;omega) (by simp;omega) (by simp);go_wp2_with fail;refine c3.mono ?_;rintro e w3 ⟨rfl,y,k3,S3⟩;clear c3;go_wp2_with fail;go_roundg (m-(0+1));case measure=>omega
    exact HF.out B b t k2 _ HS.out K H w3 y k3 S3
   ·obtain⟨r,rfl⟩:∃r,q=r+1:=⟨q-1,by omega⟩;have Ab:r<l.length:=by omega
    have z:=Dy HR.out Ab d (ej r);rw[<-Bj l r Ab,<-Bj l (r+1) d]at z;have a:CJ l (r+1)-CJ l r-1=Db l (r+1):=by unfold Db;rw[if_neg (by omega)];rfl
    obtain⟨X,hX⟩:∃X,X=CJ l (r+1):=⟨_,rfl⟩;obtain⟨Y,hY⟩:∃Y,Y=CJ l r:=⟨_,rfl⟩;obtain⟨n,hn⟩:∃n,n=X-Y-1:=⟨_,rfl⟩;rw[<-hX,<-hY,<-hn]at a;rw[<-hX,<-hY]at z;rw[<-hX]at f;have A7:X<9000000000000000000:=f.1;have BQ:Y<X:=z;have A8:(X:Int)-(Y:Int)-1=(n:Int):=by omega
    have K:n<18446744073709551616:=by omega
    have o:=AC _ K;rw[<-hX]at p PB p0 c0 AA;have SD:CH B w Z A c F (wr.alloc (.cells #[I J X,I U (C5 l (r+1):Int)] 228)).drew:=p.drew;have c2:=Cd B ((wr.alloc (.cells #[I J X,I U (C5 l (r+1):Int)] 228)).alloc (.cells (Dr [n]) 23)).drew Z (wr.heap.size+1) 1 A c F [n] (p.alloc hB _).drew.qu (by simp at AA⊢;omega) (AI.newAt (by simp)) (by simp;omega) (by simp;omega) (by simp);obtain⟨d0,d1⟩:=D _ p r (by omega);rw[<-hY]at d0;clear d1;have HS:=Zh (Zi a (Zi hX D));clear a hX hY hn D;go_upto_region 6 with fail;have f1:(r:Int)<(m:Int):=by omega
    have f2:r<m:=by omega
    have f3:(0:Int)<=(r:Int):=by omega
    have f4:J.wrap (r:Int)=(r:Int):=by rw[fj];omega
    have f5:U.wrap (X:Int)=(X:Int):=by rw[NW];omega
    have f6:U.wrap (Y:Int)=(Y:Int):=by rw[NW];omega
    have f7:U.wrap ((X:Int)-(Y:Int))=(X:Int)-(Y:Int):=by rw[NW];omega
    have f8:U.wrap (n:Int)=(n:Int):=by rw[NW];omega
    go_region_with(go_at_call 62;refine c2.mono ?_;rintro e b ⟨rfl,t,k2,S2⟩);all_goals(
     clear c2;have u:=S2.keep wr.heap.size _ 228 (by decide) (by decide) (PB.alloc _);have H :=(p.alloc hB (.cells (Dr [n]) 23)).drew.trans S2;have p1:b.cell? ⟨wr.heap.size,1,N⟩=some (I U (C5 l (r+1):Int)):=u.cell rfl;simp only[fp,fw,es]at H;have c3:=Cd B (b.alloc (.cells (Dr [C5 l (r+1)]) 23)) Z b.heap.size 1 t k2 _ [C5 l (r+1)] (H.qu.alloc _) (by have:=H.below.size;simp;omega) (AI.newAt rfl) (by simp;omega) (by simp;omega) (by simp);go_wp2_with fail;refine c3.mono ?_;rintro e w3 ⟨rfl,y,k3,S3⟩;clear c3;go_wp2_with fail;go_roundg (m-(r+1+1));case measure=>omega
     exact HF.out B b t k2 _ HS.out.1 K H w3 y k3 S3)
  ·have Ac:q=m:=by omega
   have A9:¬(q:Int)<(m:Int):=by omega
   have HS:=Zh S;have he:F=G++Dc l:=by rw[j,Ac,HM.out];simp[Dc]
   have HE:=Zh he;clear S Ac hq Aa he j;go_wp2;go_end0;have S:=HS.out;rw[HE.out]at S;exact⟨rfl,_,_,S⟩
theorem AD.then_below{F w W A}(h:AD F w W)(k:B w.heap.size W A):AD F w A:=
 ⟨k.os.trans h.os,k.tape.trans h.tape,k.output.trans h.output,Q0 h.size k.size,λi hi D=>(k.block i hi).trans (h.block i hi D)⟩
structure VI(w:W)(eb:Nat)(s:List UInt8)(A:Option Addr)(q c:Nat)(lq:AL)(wr:W):Prop where
 own:wr.ownsRow w.heap.size 228 2 (L A q c) q (AV lq)
 eye:CZ wr eb s
 away:AD (λk=>k=eb) w wr
 lt:eb<w.heap.size
theorem VI.alloc{w F s A q c}{D:AL}{wr}(h:VI w F s A q c D wr)(o):VI w F s A q c D (wr.alloc o):=
 ⟨AE h.own ((B.refl wr.heap.size wr).alloc (E _) o) λg G=>(h.own.lt g G).2,AI.alloc h.eye o,h.away.alloc o,h.lt⟩
theorem VI.look{w D s G A q c}{H:AL}{wr F}(h:VI w D s A q c H wr)(e:CZ F D G)(a:AD (λk=>k=D) wr F):VI w D G A q c H F:=
 ⟨AU h.own a λg K e=>by have:=(h.own.lt g K).1;have:=h.lt;omega,e,h.away.trans' a (λ_ _ h=>h) (λ_ _ h=>h),h.lt⟩
theorem VI.set{w F s A q c}{G:AL}{wr}(h:VI w F s A q c G wr)(D j u)(K:(L A q c).ownBlock≠S D)(H:w.heap.size<=D):VI w F s A q c G (wr.setCell ⟨D,j,N⟩ u):=
 ⟨AN h.own _ _ K,AI.other h.eye _ _ (by have:=h.lt;show F≠D;omega),h.away.setCell _ _ (.inr H),h.lt⟩
theorem KF{G}{rest:List Oper}{o a Q}(Y:o.guard=N)(s x)(v:o.op=.call {callee:=.builtin .append,args:= #[s,x],argTypes:= #[113,113]})
  {w}{K:Nat}{t A}{q c:Nat}{f:AL}{W}(S:VI w K t A q c f W)(g:q<=100000)(X C:Nat)(z:a.eval s=L A q c)(hx:a.eval x=L (some ⟨W.heap.size,0,N⟩) 1 1)
  (h:∀A' c' H,VI w K t A' (q+1) c' (f++ [(X,C)]) H->wpList prog G Q rest (a.put o.dst (L A' (q+1) c')) H):
  wpList prog G Q (o::rest) a (W.alloc (.cells #[I J X,I U C] 228)):=by
 obtain⟨u,hi,Z,b,d⟩:=info_parts F1;have r:=S.away.size;refine wpList_append_own _ Y s x 113 v w.heap.size 228 u _ 2 16 underlying113 hi Z b d rfl (by decide) _ _ _ z (S.alloc _).own _ 1 1 [I J X,I U C] hx rfl ?_ ?_ (by unfold maxLen;omega) (by omega) (by simp;omega) ?_
 ·intro j y hj;rw[Addr.add_lit,Nat.zero_add];exact(AI.newAt rfl).cell (by simpa using hj)
 ·intro y i;simp at i;rcases i with rfl|rfl<;>rfl
 intro v' H F D _;obtain⟨A',c',hv⟩:=AF F;subst hv;refine h A' c' H ⟨by rw[FD];exact F,?_,?_,S.lt⟩
 ·exact(D.block K (Nat.lt_of_lt_of_le S.lt (by simp;omega)) (λe=>by have:=(S.own.lt K e.symm).1;have:=S.lt;omega)).trans (AI.alloc S.eye _)
 ·exact(S.away.alloc _).then_below ((B.refl w.heap.size _).grown D (by simp;omega) (λk p=>(S.own.lt k p).1))
theorem LY(l:AL)(i)(h:i<l.length):Db l i<=2*CJ l 0+CJ l i:=by unfold Db;split<;>omega
theorem NB(l:AL)(h:∀i,i<l.length->Db l i<18446744073709551616/\C5 l i<18446744073709551616):∀n k,l.length-k=n->k<=l.length->(EI l k).length<=20*n
 |0,k,hn,hk=>by rw[show k=l.length from by omega,Mo];simp
 |n+1,k,hn,hk=>by
  have F:=NB l h n (k+1) (by omega) (by omega)
  obtain⟨A,D⟩:=h k (by omega)
  have a:=AC _ A
  have b:=AC _ D
  rw[Kq l k (by omega)]
  unfold Jp
  simp only[ag]
  omega
theorem I7(w F M)(l:AL)(rest)(h:CZ w F (Dc l++rest))(hl:l.length<=M)(hM:M<=100000)(hr:AT l)(hx:∀x∈l,x.1<4000000000000000000/\1<=x.2/\x.2<9223372036854775808)(Av:rest.length<=1000000):
  Calls prog 73 #[P (some ⟨F,0,N⟩),I J M] w λe w' =>∃v,e=R v/\w'.ownsRow w.heap.size 228 2 v l.length (AV l)/\CZ w' F rest/\AD (λk=>k=F) w w' :=by
 obtain⟨m,hm⟩:∃m,m=l.length:=⟨_,rfl⟩;have HM:=Zh hm;have Ba:=AC m (by omega);have Aa:∀k,k<=l.length->(EI l k).length<=20*(l.length-k):=λk hk=>NB l (λi hi=>by
  have K:=hx _ (Pa hi);have:=LY l i hi;rw[<-Dj l i hi,<-Bj l i hi]at K;have:=hx _ (Pa (show 0<l.length by omega));rw[<-Bj l 0 (by omega)]at this;omega) _ k rfl hk
 have e0:Dc l++rest=AK m++(EI l 0++rest):=by rw[hm,Rz];simp[Dc]
 rw[e0]at h;have c1:=Bk w F m M (EI l 0++rest) h (by omega) (by omega) (by have:=Aa 0 (by omega);simp only[ag];omega);have HR:=Zh hr;have HX:=Zh hx;have Ax:=h.lt;have A7:=Zh Aa;rw[<-hm]at hl⊢;clear e0 hr hx hm Aa;go_enter func73,ntmps73;go_wp2_with fail;refine c1.mono ?_;rintro e w1 ⟨rfl,E1,A1⟩;clear c1;have S1:VI w F (EI l 0++rest) N 0 0 [] w1:=⟨World.ownsRow_nil _ _ _ _,E1,A1,Ax⟩;clear E1 A1 h;go_wp2_with fail;go_loopg [5,6,7,8,12] m (λg Aw _ _ _ i wr=>∃(q:Nat) (A:Option Addr) (c:Nat),i=I J q/\Aw=.slice A q c/\q<=m/\m-q<=g/\VI w F (EI l q++rest) A q c (l.take q) wr);case atStart=>exact⟨0,N,0,rfl,rfl,RR _,E _,by simpa using S1⟩
 case round=>
  clear S1;obtain⟨q,A,c,rfl,rfl,hq,hg,S⟩:=hrel;by_cases Ar:q<m
  ·have D:q<l.length:=by rw[<-HM.out];exact Ar
   have g1:(q:Int)<(m:Int):=by omega
   have K:=HX.out _ (Pa D);rw[<-Bj l q D,<-Dj l q D]at K;have j:l.take (q+1)=l.take q++ [(CJ l q,C5 l q)]:=by rw[aw D,Bj l q D,Dj l q D]
   have Ac:=A7.out (q+1) (by omega);have A4:(EI l (q+1)++rest).length<=3000000:=by rw[ag];have:=HM.out;omega
   have A6:EI l q++rest=AK (Db l q)++(AK (C5 l q)++(EI l (q+1)++rest)):=by rw[Kq l q D];simp[Jp]
   rw[A6]at S;have HT:=Zh j;obtain⟨X,z⟩:∃X,X=CJ l q:=⟨_,rfl⟩;obtain⟨C,hC⟩:∃C,C=C5 l q:=⟨_,rfl⟩;rw[<-z,<-hC]at HT K;rw[<-hC]at S;generalize hr2:EI l (q+1)++rest=r2 at*;have Ap:=Zh hr2;clear hr2;obtain⟨A9,u,t⟩:=K;have B2:=AC C (by omega);have Z:=S.alloc (.cells #[I J 0,I U 0] 228);have PB:AI (wr.alloc (.cells #[I J 0,I U 0] 228)) wr.heap.size #[I J 0,I U 0] 228:=AI.newAt rfl;have p:(V.slice A q c).ownBlock≠some wr.heap.size:=λe=>by have:=(S.own.lt _ e).2;omega
   have f:w.heap.size<=wr.heap.size:=S.away.size;have o:wr.heap.size≠F:=by have:=S.lt;omega
   by_cases A0:q=0
   ·subst A0;have s:Db l 0=AX (X:Int):=by rw[Qe];unfold Db;rw[if_pos rfl,z]
    rw[s]at Z S;clear z hC s;have c2:=DD _ F (X:Int) _ Z.eye (by omega) (by simp only[ag];omega);go_wp2_with fail;refine c2.mono ?_;rintro e w2 ⟨rfl,E2,A2⟩;have d:=PB.away A2 o;have S3:=(Z.look E2 A2).set wr.heap.size 0 (I J X) p f;have p0:w2.cell? ⟨wr.heap.size,0,N⟩=some (I J 0):=d.cell rfl;have pf:=d.frozen 0;have P3:=d.set 0 (I J X);clear c2;have c3:=He _ F C r2 S3.eye u t (by omega);go_wp2_with fail;refine c3.mono ?_;rintro e a ⟨rfl,E3,A3⟩;clear c3;have b:=P3.away A3 o;have S4:=(S3.look E3 A3).set wr.heap.size 1 (I U C) p f;have p4:a.cell? ⟨wr.heap.size,1,N⟩=some (I U 0):=b.cell rfl;have Al:=b.frozen 1;have P5:=b.set 1 (I U C);have c4:=Hd _ F _ S4.eye;go_wp2_with fail;refine c4.mono ?_;rintro e w4 ⟨rfl,rfl⟩;clear c4;have p5:(a.setCell ⟨wr.heap.size,1,N⟩ (I U C)).cell? ⟨wr.heap.size,0,N⟩=some (I J X):=P5.cell rfl;have p6:(a.setCell ⟨wr.heap.size,1,N⟩ (I U C)).cell? ⟨wr.heap.size,1,N⟩=some (I U C):=P5.cell rfl;generalize a.setCell ⟨wr.heap.size,1,N⟩ (I U C)=W at*;have SH:=Zh S4;clear S Z S3 S4 d P3 b P5 PB A2 A3 E2 E3 p0 pf p4 Al;go_wp2_with(at_builtin;refine KF rfl _ _ rfl SH.out (by omega) X C rfl rfl ?_);intro A5 c5 w5 S5;have Ab:=Zh S5;clear S5;go_wp2;go_roundg (m-(0+1));case measure=>omega
    exact⟨0+1,A5,c5,by go_num,rfl,by omega,by omega,by rw[HT.out,Ap.out];simpa using Ab.out⟩
   ·obtain⟨r,rfl⟩:∃r,q=r+1:=⟨q-1,by omega⟩;have y:r<l.length:=by omega
    have G:=Dy HR.out y D (ej r);rw[<-Bj l r y,<-Bj l (r+1) D]at G;have H:Db l (r+1)=CJ l (r+1)-CJ l r-1:=by unfold Db;rw[if_neg (by omega)];rfl
    obtain⟨Y,hY⟩:∃Y,Y=CJ l r:=⟨_,rfl⟩;obtain⟨n,hn⟩:∃n,n=Db l (r+1):=⟨_,rfl⟩;rw[<-z,<-hY]at G;rw[<-z,<-hY,<-hn]at H;have B4:Y<X:=G;have Bs:(Y:Int)+(n:Int)+1=(X:Int):=by omega
    obtain⟨L,hL⟩:∃L:Nat,L=9223372036854775806-Y:=⟨_,rfl⟩;have B1:(9223372036854775806:Int)-(Y:Int)=(L:Int):=by omega
    have Ay:n<=L:=by omega
    have B3:L<9223372036854775807:=by omega
    have BR:n<4000000000000000000:=by omega
    have BA:Y<4000000000000000000:=by omega
    have A8:Y+n+1<4000000000000000000:=by omega
    have BX:¬(Y:Int)=9223372036854775807:=by omega
    rw[<-hn]at Z S;rcases AH Z.own with⟨h0,Bu,_⟩|⟨g,B5,hv,Bt,B0,B9,Bb⟩
    ·omega
    simp only[V.slice.injEq,true_and]at hv;obtain⟨rfl,rfl⟩:=hv;have k0:(wr.alloc (.cells #[I J 0,I U 0] 228)).cell? ⟨g,r*2,N⟩=some (I J Y):=by
     rw[Z.own.cellAt _ (by omega),BI _ r (by rw[List.length_take];omega),hY,List.getElem_take,Bj l r y]
    have c2:=DC _ F n L _ Z.eye Ay (by omega) (by simp only[ag];omega);have HY:=Zh (Zi z (Zi hY (Zi hn H)));clear z hC hY hn H hL G;have BQ:(0:Int)<=(r:Int):=by omega
    go_wp2_with fail;refine c2.mono ?_;rintro e w2 ⟨rfl,E2,A2⟩;have d:=PB.away A2 o;have S3:=(Z.look E2 A2).set wr.heap.size 0 (I J X) p f;have p0:w2.cell? ⟨wr.heap.size,0,N⟩=some (I J 0):=d.cell rfl;have pf:=d.frozen 0;have P3:=d.set 0 (I J X);clear c2;have c3:=He _ F C r2 S3.eye u t (by omega);go_wp2_with fail;refine c3.mono ?_;rintro e a ⟨rfl,E3,A3⟩;clear c3;have b:=P3.away A3 o;have S4:=(S3.look E3 A3).set wr.heap.size 1 (I U C) p f;have p4:a.cell? ⟨wr.heap.size,1,N⟩=some (I U 0):=b.cell rfl;have Al:=b.frozen 1;have P5:=b.set 1 (I U C);have c4:=Hd _ F _ S4.eye;go_wp2_with fail;refine c4.mono ?_;rintro e w4 ⟨rfl,rfl⟩;clear c4;have p5:(a.setCell ⟨wr.heap.size,1,N⟩ (I U C)).cell? ⟨wr.heap.size,0,N⟩=some (I J X):=P5.cell rfl;have p6:(a.setCell ⟨wr.heap.size,1,N⟩ (I U C)).cell? ⟨wr.heap.size,1,N⟩=some (I U C):=P5.cell rfl;generalize a.setCell ⟨wr.heap.size,1,N⟩ (I U C)=W at*;have SH:=Zh S4;clear S Z S3 S4 d P3 b P5 PB A2 A3 E2 E3 p0 pf p4 Al;go_wp2_with(at_builtin;refine KF rfl _ _ rfl SH.out (by omega) X C rfl rfl ?_);intro A5 c5 w5 S5;have Ab:=Zh S5;clear S5;go_wp2;go_roundg (m-(r+1+1));case measure=>omega
    exact⟨r+1+1,A5,c5,by go_num,rfl,by omega,by omega,by rw[HT.out,Ap.out];exact Ab.out⟩
  ·have AA:q=m:=by omega
   have Bw:¬(q:Int)<(m:Int):=by omega
   have Ac:EI l q=[]:=by rw[AA,HM.out,Mo]
   have j:l.take q=l:=by rw[AA,HM.out,bw]
   rw[Ac,j,List.nil_append]at S;have HS:=Zh S;subst AA;clear S Ar Ac j;go_wp2;go_ret;exact⟨_,rfl,HS.out.own,HS.out.eye,HS.out.away⟩
theorem ab(hi lo y:Nat)(w)(A:y<=hi):
  C prog 117 #[.agg #[I U hi,I U lo],I U y] w λe w' =>e=R (T #[I U 0,I U 0,.bool false])/\B w.heap.size w w' :=by
 have D:(y:Int)<=(hi:Int):=by omega
 go_enter func117,ntmps117;go_wp2_with fail;go_ret3;exact⟨rfl,Za⟩
theorem Je(a b y:Nat)(w)(c:a<18446744073709551616)(Y:b<18446744073709551616)(Z:y<18446744073709551616):
  C prog 108 #[I U a,I U b,I U y] w λe w' =>e=R (T #[I U ((KV a b y).1:Nat),.bool (KV a b y).2])/\B w.heap.size w w' :=by
 have H:=λW=>Wd.times_nat a b W c Y;by_cases h:y<=a*b/18446744073709551616
 ·have G:=λW=>ab (a*b/18446744073709551616) (a*b % 18446744073709551616) y W h;have e:KV a b y=(0,false):=by unfold KV;rw[if_pos h]
  rw[e];clear e h;go_enter func108,ntmps108;go_wp2_with(first|(go_at_call 118;refine(H _).mono ?_;rintro e X ⟨rfl,A⟩)|(go_at_call 117;refine(G _).mono ?_;rintro e d ⟨rfl,D⟩));go_ret2;exact⟨rfl,A.trans (D.mono A.size)⟩
 ·have F:a*b % 18446744073709551616<18446744073709551616:=by omega
  have G:=λW=>Wd.over_any (a*b/18446744073709551616) (a*b % 18446744073709551616) y W (by omega) Z F;have e:a*b/18446744073709551616*18446744073709551616+a*b % 18446744073709551616=a*b:=by omega
  rw[e]at G;have K:KV a b y=(a*b/y,true):=by unfold KV;rw[if_neg h]
  rw[K];generalize a*b/y=q at*;generalize a*b % y=r at*;clear K e h F;go_enter func108,ntmps108;go_wp2_with(first|(go_at_call 118;refine(H _).mono ?_;rintro e X ⟨rfl,A⟩)|(go_at_call 117;refine(G _).mono ?_;rintro e d ⟨rfl,D⟩));go_ret2;exact⟨rfl,A.trans (D.mono A.size)⟩
def Dk(num den:Int):Bool:=decide (0<num)&&decide (num<den)&&decide (den<=2147483648)
theorem NC(num den w):
  C prog 85 #[.agg #[I U num,I U den]] w λe w' =>e=R (.bool (Dk num den))/\B w.heap.size w w' :=by
 unfold Dk;by_cases A:0<num
 ·by_cases D:num<den
  ·have e:(decide (0<num)&&decide (num<den)&&decide (den<=2147483648))=decide (den<=2147483648):=by simp[A,D]
   rw[e];clear e;go_enter func85,ntmps85;go_wp2_with fail;go_ret;exact⟨rfl,Za⟩
  ·have e:(decide (0<num)&&decide (num<den)&&decide (den<=2147483648))=false:=by simp[A,D]
   rw[e];clear e;go_enter func85,ntmps85;go_wp2_with fail;go_ret;exact⟨rfl,Za⟩
 ·have e:(decide (0<num)&&decide (num<den)&&decide (den<=2147483648))=false:=by simp[A]
  rw[e];clear e;go_enter func85,ntmps85;go_wp2_with fail;go_ret;exact⟨rfl,Za⟩
theorem VJ(num den F:Nat)(w)(z:1<=num)(v:num<den)(x:den<=2147483648)(c:F<=9223372036854775809):
  C prog 86 #[.agg #[I U num,I U den],I U F] w λe w' =>e=R (T #[I U ((QP num den F).1:Nat),I U ((QP num den F).2:Nat)])/\B w.heap.size w w' :=by
 have r:AI (w.alloc (.cells #[I U num,I U den] 25)) w.heap.size #[I U num,I U den] 25:=AI.newAt rfl;have p:B w.heap.size w (w.alloc (.cells #[I U num,I U den] 25)):=Za;have hf1:=λW=>Je F (den+num) den W (by omega) (by omega) (by omega);have Z:=cz F (den+num) den (by omega);have e1:U.wrap ((den:Int)+(num:Int))=((den+num:Nat):Int):=by rw[NW];omega
 have e2:U.wrap ((den:Int)-(num:Int))=((den-num:Nat):Int):=by rw[NW];omega
 unfold QP aU;obtain⟨q1,u⟩:∃q,q=(KV F (den+num) den).1:=⟨_,rfl⟩;obtain⟨o1,s⟩:∃q,q=(KV F (den+num) den).2:=⟨_,rfl⟩;rw[<-u]at hf1 Z⊢;rw[<-s]at hf1⊢;have A:=λW=>Je q1 den (den-num) W Z (by omega) (by omega);obtain⟨q2,d⟩:∃q,q=(KV q1 den (den-num)).1:=⟨_,rfl⟩;obtain⟨o2,h⟩:∃q,q=(KV q1 den (den-num)).2:=⟨_,rfl⟩;rw[<-d]at A⊢;rw[<-h]at A⊢;have X:=Zh (Zi r p);clear u s d h Z r p z v x c;have f:((min q1 9223372036854775807:Nat):Int)=min (q1:Int) 9223372036854775807:=by omega
 cases o1 with
 |false=>
  rw[if_pos (.inl rfl)];go_enter func86,ntmps86;go_wp2_with fail;refine(hf1 _).mono ?_;rintro e G ⟨rfl,D⟩;have Y:=Zh D;clear hf1 A D;go_wp2_with fail;go_ret2;exact⟨rfl,X.out.2.trans (Y.out.mono (by simp))⟩
 |true=>
  by_cases t:9223372036854775808<q1
  ·rw[if_pos (.inr t)];have k2:(9223372036854775808:Int)<(q1:Int):=by omega
   clear t;go_enter func86,ntmps86;go_wp2_with fail;refine(hf1 _).mono ?_;rintro e G ⟨rfl,D⟩;have Y:=Zh D;clear hf1 A D;go_wp2_with fail;go_ret2;exact⟨rfl,X.out.2.trans (Y.out.mono (by simp))⟩
  ·rw[if_neg (by simp;omega)];have k2:¬(9223372036854775808:Int)<(q1:Int):=by omega
   rw[f];have a:=Zh (show∀G b,B (w.alloc (.cells #[I U num,I U den] 25)).heap.size (w.alloc (.cells #[I U num,I U den] 25)) G->B G.heap.size G b->B w.heap.size w b from λG b D K=>by
    have k:=X.out.2.trans (D.mono (by simp));exact k.trans (K.mono k.size))
   cases o2 with
   |false=>
    rw[if_pos (.inl rfl)];go_enter func86,ntmps86;go_wp2_with fail;refine(hf1 _).mono ?_;rintro e G ⟨rfl,D⟩;have H:=X.out.1.below D X.out.1.lt;have g:G.cell? ⟨w.heap.size,0,N⟩=S (I U num):=H.cell rfl;have i:G.cell? ⟨w.heap.size,1,N⟩=S (I U den):=H.cell rfl;have Y:=Zh D;clear hf1 D H;go_wp2_with fail;refine(A _).mono ?_;rintro e b ⟨rfl,K⟩;have j:=Zh (a.out _ _ Y.out K);clear A K g i;go_wp2_with fail;go_ret2;exact⟨rfl,j.out⟩
   |true=>
    by_cases o:9223372036854775808<q2
    ·rw[if_pos (.inr o)];have y:(9223372036854775808:Int)<(q2:Int):=by omega
     clear o;go_enter func86,ntmps86;go_wp2_with fail;refine(hf1 _).mono ?_;rintro e G ⟨rfl,D⟩;have H:=X.out.1.below D X.out.1.lt;have g:G.cell? ⟨w.heap.size,0,N⟩=S (I U num):=H.cell rfl;have i:G.cell? ⟨w.heap.size,1,N⟩=S (I U den):=H.cell rfl;have Y:=Zh D;clear hf1 D H;go_wp2_with fail;refine(A _).mono ?_;rintro e b ⟨rfl,K⟩;have j:=Zh (a.out _ _ Y.out K);clear A K g i;go_wp2_with fail;go_ret2;exact⟨rfl,j.out⟩
    ·rw[if_neg (by simp;omega)];have y:¬(9223372036854775808:Int)<(q2:Int):=by omega
     clear o;go_enter func86,ntmps86;go_wp2_with fail;refine(hf1 _).mono ?_;rintro e G ⟨rfl,D⟩;have H:=X.out.1.below D X.out.1.lt;have g:G.cell? ⟨w.heap.size,0,N⟩=S (I U num):=H.cell rfl;have i:G.cell? ⟨w.heap.size,1,N⟩=S (I U den):=H.cell rfl;have Y:=Zh D;clear hf1 D H;go_wp2_with fail;refine(A _).mono ?_;rintro e b ⟨rfl,K⟩;have j:=Zh (a.out _ _ Y.out K);clear A K g i;go_wp2_with fail;go_ret2;exact⟨rfl,j.out⟩
structure Gx(w:W)(tb:Nat)(vl vr:V)(num den n:Nat):Prop where
 blk:AI w tb #[I U num,I U den,vl,vr] 210
 lows:w.ownsRow 0 23 1 vl n (Fd (Ch num den n))
 reps:w.ownsRow 0 23 1 vr n (Fd (Di num den n))
def Qf(tb:Nat)(vl vr:V)(j:Nat):Prop:=j=tb\/vl.ownBlock=S j\/vr.ownBlock=S j
section
variable {w w' :W} {tb:Nat} {vl vr:V} {num den n:Nat}
theorem Gx.next(h:Gx w tb vl vr num den n)(b:B w.heap.size w w'):Gx w' tb vl vr num den n:=⟨h.blk.below b h.blk.lt,AE h.lows b λg A=>(h.lows.lt g A).2,AE h.reps b λg A=>(h.reps.lt g A).2⟩
theorem Gx.away{G}(h:Gx w tb vl vr num den n)(a:AD G w w')(k:∀j,Qf tb vl vr j->¬G j):Gx w' tb vl vr num den n:=
 ⟨h.blk.away a (k _ (.inl rfl)),AU h.lows a λg A=>k _ (.inr (.inl A)),AU h.reps a λg A=>k _ (.inr (.inr A))⟩
theorem Gx.lt(h:Gx w tb vl vr num den n):∀j,Qf tb vl vr j->j<w.heap.size:=by
 rintro j (rfl|e|e)
 ·exact h.blk.lt
 ·exact(h.lows.lt _ e).2
 ·exact(h.reps.lt _ e).2
theorem Gx.ty(h:Gx w tb vl vr num den n):∀j,Qf tb vl vr j->∃F t,AI w j F t/\(t=210\/t=23):=by
 rintro j (rfl|e|e)
 ·exact⟨_,_,h.blk,.inl rfl⟩
 ·obtain⟨A,D⟩:=AJ h.lows e;exact⟨_,_,D,.inr rfl⟩
 ·obtain⟨A,D⟩:=AJ h.reps e;exact⟨_,_,D,.inr rfl⟩
end
theorem dG(x w):C prog 373 #[I U x] w λe w' =>e=R (.bool false)/\w=w' :=by
 have e:(x !=x)=false:=by simp
 go_enter func373,ntmps373;go_wp2_with fail;go_ret;exact⟨rfl,rfl⟩
theorem dH(x w):C prog 374 #[I U x] w λe w' =>e=R (.bool false)/\w=w' :=by
 have e:(x !=x)=false:=by simp
 go_enter func374,ntmps374;go_wp2_with fail;go_ret;exact⟨rfl,rfl⟩
theorem dI(a b w):C prog 372 #[I U a,I U b] w λe w' =>e=R (.bool (decide (a<b)))/\w=w' :=by
 have A:=λx W=>dH x W;go_enter func372,ntmps372;go_wp2_with(go_at_call 374;refine(A _ _).mono ?_;rintro e D ⟨rfl,rfl⟩);go_ret;exact⟨rfl,rfl⟩
def KG(l:List Nat)(m n:Nat):Bool:=decide (IT l m 0 n<n)&&(l.getD (IT l m 0 n) 0==m)
theorem VK(w v l)(h:w.ownsRow 0 23 1 v l.length (Fd l))(h1:1<=l.length)(s:l.length<=1000000)(m:Nat):
  C prog 371 #[v,I U m] w λe w' =>e=R (T #[I J (IT l m 0 l.length:Nat),.bool (KG l m l.length)])/\B w.heap.size w w' :=by
 rcases AH h with⟨_,h0,_⟩|⟨g,Ab,hv,AA,r,_,Aa⟩
 ·omega
 subst hv;have hc:∀i,i<l.length->w.cell? ⟨g,i,N⟩=S (I U ((l.getD i 0:Nat):Int)):=λi hi=>by rw[h.cellAt _ (by omega)];exact LD l hi
 have Hc:=Zh hc;obtain⟨n,X⟩:∃n,n=l.length:=⟨_,rfl⟩;have HN:=Zh X;rw[<-X]at s h1⊢;have hg:g<w.heap.size:=(h.lt g rfl).2;clear h hc X AA r Aa;have A:=λW a b=>dI a b W;have u:=λW a=>dG a W;go_enter func371,ntmps371;go_wp2;go_loopg [7,8,9] n (λk a b _ wr=>∃lo hi:Nat,a=I J lo/\b=I J hi/\lo<=hi/\hi<=n/\IT l m 0 n=IT l m lo hi/\hi-lo<=k/\B w.heap.size w wr);case atStart=>exact⟨0,n,rfl,rfl,RR _,E _,rfl,by omega,B.refl _ _⟩
 case round=>
  obtain⟨lo,hi,rfl,rfl,k1,k2,p,k4,Z⟩:=hrel;obtain⟨D,hf1⟩:=Wd.bcell Z;by_cases F:lo<hi
  ·have f:(lo+hi)/2<l.length:=by rw[<-HN.out];omega
   obtain⟨d,Y⟩:∃d,d=(lo+hi)/2:=⟨_,rfl⟩;have t:=Hc.out _ f;rw[<-D g _ hg,<-Y]at t;obtain⟨a,K⟩:∃a,a=l.getD d 0:=⟨_,rfl⟩;rw[<-K]at t;have e1:((lo:Int)+(hi:Int))/2=(d:Int):=by omega
   have e2:(lo:Int)<(hi:Int):=by omega
   have m1:d<n:=by omega
   have z:=Zh Y;by_cases H:a<m
   ·have G:IT l m lo hi=IT l m (d+1) hi:=by rw[Xx F (by rw[<-Y,<-K];exact H),<-Y]
    have c:∀W,C prog 372 #[I U a,I U m] W λe w' =>e=R (.bool true)/\W=w' :=λW=>by
     have k:=A W a m;rw[show decide ((a:Int)<(m:Int))=true by simpa using H]at k;exact k
    have j:=Zh (p.trans G);clear G p K H Y f D hf1 A;go_wp2_with(go_at_call 372;refine(c _).mono ?_;rintro e w1 ⟨rfl,rfl⟩);go_roundg (hi-(d+1));case measure=>have:=z.out;omega
    case rel=>exact⟨d+1,hi,by go_num,rfl,by have:=z.out;omega,k2,j.out,E _,Z⟩
   ·have G:IT l m lo hi=IT l m lo d:=by rw[QQ F (by rw[<-Y,<-K];exact H),<-Y]
    have c:∀W,C prog 372 #[I U a,I U m] W λe w' =>e=R (.bool false)/\W=w' :=λW=>by
     have k:=A W a m;rw[show decide ((a:Int)<(m:Int))=false by simpa using H]at k;exact k
    have j:=Zh (p.trans G);clear G p K H Y f D hf1 A;go_wp2_with(go_at_call 372;refine(c _).mono ?_;rintro e w1 ⟨rfl,rfl⟩);go_roundg (d-lo);case measure=>have:=z.out;omega
    case rel=>exact⟨lo,d,rfl,rfl,by have:=z.out;omega,by omega,j.out,E _,Z⟩
  ·have e2:¬(lo:Int)<(hi:Int):=by omega
   have G:IT l m 0 n=lo:=p.trans (Tz F);have j:=Zh G;clear p;by_cases X:lo<n
   ·have f:lo<l.length:=by rw[<-HN.out];exact X
    have t:=Hc.out _ f;rw[<-D g _ hg]at t;obtain⟨a,K⟩:∃a,a=l.getD lo 0:=⟨_,rfl⟩;rw[<-K]at t;have HA:=Zh K;have g2:(lo:Int)<(n:Int):=by omega
    have o:decide (lo<n)=true:=by simpa using X
    have y:=Zh Z;by_cases x:a=m
    ·have q1:((a:Int)==(m:Int))=true:=by simp[x]
     have q2:KG l m n=true:=by unfold KG;rw[G,o,<-K];simp[x]
     have q:=Zh q2;clear q2 x K D hf1 f G Z o X F k1 k2 k4 A;go_wp2_with(go_at_call 373;refine(u _ _).mono ?_;rintro e w1 ⟨rfl,rfl⟩);go_ret2;exact⟨by rw[j.out,q.out];rfl,y.out⟩
    ·have q1:((a:Int)==(m:Int))=false:=by simp;omega
     have q2:KG l m n=false:=by unfold KG;rw[G,o,<-K];simp;omega
     have q:=Zh q2;clear q2 x K D hf1 f G Z o X F k1 k2 k4 A;go_wp2_with(go_at_call 373;refine(u _ _).mono ?_;rintro e w1 ⟨rfl,rfl⟩);go_ret2;exact⟨by rw[j.out,q.out];rfl,y.out⟩
   ·have g2:¬(lo:Int)<(n:Int):=by omega
    have o:decide (lo<n)=false:=by simpa using X
    have q2:KG l m n=false:=by unfold KG;rw[G,o];rfl
    have q:=Zh q2;have y:=Zh Z;clear q2 D hf1 G Z o X F k1 k2 k4 A;go_wp2_with fail;go_ret2;exact⟨by rw[j.out,q.out];rfl,y.out⟩
theorem Si(w tb):
  C prog 368 #[P (S ⟨tb,0,N⟩),I U 0] w λe w' =>e=R (T #[I J 0,.bool false])/\w=w' :=by
 go_enter func368,ntmps368;go_wp2_with fail;go_ret2;exact⟨rfl,rfl⟩
theorem ND(w)(tb:Nat)(vl vr)(num den n:Nat)(h:Gx w tb vl vr num den n)(H:1<=n)(f:n<=4096)(m:Nat)(a:1<=m)(Y:m<=9223372036854775808):
  C prog 368 #[P (S ⟨tb,0,N⟩),I U m] w λe w' =>e=R (T #[I J (PU num den n m:Nat),.bool true])/\B w.heap.size w w' :=by
 have v:w.cell? ⟨tb,2,N⟩=S vl:=h.blk.cell rfl;have s:((m:Int)==0)=false:=by simp;omega
 have u:¬(9223372036854775808:Int)<(m:Int):=by omega
 have D:=VK w vl (Ch num den n) (by rw[Ho];exact h.lows) (by rw[Ho];exact H) (by rw[Ho];omega) m;rw[Ho]at D;obtain⟨A,o,i⟩:=AF h.lows;subst i;have G:=T4 (num:=num) (den:=den) H a;have Z:KG (Ch num den n) m n=VD num den n m:=rfl;rw[Z]at D;unfold PU;clear Z;have j:=(LC (Ch num den n) m n 0 n (by omega) (by omega)).2.1;generalize IT (Ch num den n) m 0 n=p at*;generalize VD num den n m=b at*;clear h H a Y;cases b with
 |true=>
  clear G;go_enter func368,ntmps368;go_wp2_with fail;refine D.mono ?_;rintro e d ⟨rfl,F⟩;have X:=Zh F;clear D F;go_wp2_with fail;go_ret2;exact⟨rfl,X.out⟩
 |false=>
  have r:=G rfl;have c:J.wrap ((p:Int)-1)=((p-1:Nat):Int):=by rw[fj];omega
  obtain⟨q,K⟩:∃q,q=p-1:=⟨_,rfl⟩;have t:J.wrap ((p:Int)-1)=(q:Int):=by rw[c,K]
  have g:=Zh K;clear G c K r;go_enter func368,ntmps368;go_wp2_with fail;refine D.mono ?_;rintro e d ⟨rfl,F⟩;have X:=Zh F;clear D F;go_wp2_with fail;go_ret2;exact⟨by rw[g.out];rfl,X.out⟩
def KX(num den n i:Nat):Nat:=if i<n then(Di num den n).getD i 0 else 0
theorem rep_any(w)(tb:Nat)(vl vr)(num den n:Nat)(h:Gx w tb vl vr num den n)(Z:n<=4096)(i:Nat):
  C prog 370 #[P (S ⟨tb,0,N⟩),I J i] w λe w' =>e=R (I U (KX num den n i:Nat))/\B w.heap.size w w' :=by
 have j:w.cell? ⟨tb,3,N⟩=S vr:=h.blk.cell rfl;obtain⟨A,a,F⟩:=AF h.reps;subst F;have f:¬(i:Int)<0:=by omega
 have X:=Zh (B.refl w.heap.size w);by_cases hi:i<n
 ·have e:KX num den n i=(Di num den n).getD i 0:=by unfold KX;rw[if_pos hi]
  rcases AH h.reps with⟨_,b,_⟩|⟨g,K,F,G,D,_,H⟩
  ·omega
  simp only[L.injEq,true_and]at F;obtain⟨rfl,rfl⟩:=F;have d:w.cell? ⟨g,i,N⟩=S (I U (((Di num den n).getD i 0:Nat):Int)):=by rw[h.reps.cellAt _ (by omega)];exact LD _ (by rw[Mx];exact hi)
  rw[e];generalize(Di num den n).getD i 0=r at*;have Y:¬(n:Int)<=(i:Int):=by omega
  have c:(i:Int)<(n:Int):=by omega
  clear h e G D H;go_enter func370,ntmps370;go_wp2_with fail;go_ret;exact⟨rfl,X.out⟩
 ·have e:KX num den n i=0:=by unfold KX;rw[if_neg hi]
  rw[e];have Y:(n:Int)<=(i:Int):=by omega
  clear h e;go_enter func370,ntmps370;go_wp2_with fail;go_ret;exact⟨rfl,X.out⟩
def FB(L:Nat->Bool)(i j:Nat):Bool:=if j=i then true else L j
theorem EN(L i):FB L i i=true:=by simp[FB]
theorem CI{L i j}(h:j≠i):FB L i j=L j:=by simp[FB,h]
def Er:Nat->(Nat->Bool)->Nat
 |0,_=>0
 |n+1,b=>(if b n then 0 else 1)+Er n b
theorem KH{L M}:∀n,(∀j,j<n->L j=M j)->Er n L=Er n M
 |0,_=>rfl
 |n+1,h=>by
  simp only[Er,h n (ej n),KH n λj A=>h j (by omega)]
theorem NF{L i}:∀n,i<n->L i=false->Er n (FB L i)+1=Er n L
 |n+1,hi,h=>by
  rcases fx i n with e|e
  ·have D:=NF (L:=L) n e h
   simp only[Er,CI (L:=L) (i:=i) (j:=n) (by omega)]
   omega
  ·have A:i=n:=by omega
   subst A
   have:Er i (FB L i)=Er i L:=KH i λj F=>CI (by omega)
   simp only[Er,EN,h,this]
   simp;omega
theorem LZ{L}:∀n,Er n L=0->∀i,i<n->L i=true
 |n+1,h,i,hi=>by
  simp only[Er]at h
  rcases fx i n with e|e
  ·exact LZ n (by omega) i e
  ·have D:i=n:=by omega
   subst D
   cases A:L i with
   |true=>rfl
   |false=>rw[A]at h;simp at h
def YQ(l:List Oper):Bool:=(List.range l.length).all λi=>((l[i]?).map (·.after.all λe=> !Region.binds .any e||decide (e.on<i))).getD true
theorem NG{l:List Oper}(h:YQ l=true){i o}(hi:l[i]?=S o):∀e∈o.after,Region.binds .any e=true->e.on<i:=λe H G=>by
 unfold YQ at h
 have F:i<l.length:=(List.getElem?_eq_some_iff.1 hi).1
 have A:=List.all_eq_true.1 h i (List.mem_range.2 F)
 rw[hi]at A
 simp only[Option.map_some,fy]at A
 have D:=Array.all_eq_true'.1 A e H
 rw[G]at D
 simpa using D
section
variable {P:Program} {l:List Oper} {Q:Exit->Act->W->Prop}
theorem VL(K:(Nat->Bool)->Act->W->Prop)(X:YQ l=true)
  (d:∀L a w,K L a w->∀i o,l[i]?=S o->L i=false->(∀e∈o.after,Region.binds .any e=true->L e.on=true)->wpOp P l.toArray Q i (λv w' =>K (FB L i) v w') a w)
  (Y:∀L a w,K L a w->(∀i,i<l.length->L i=true)->Q .normal a w):∀(fuel:Nat) (A:Array Bool) (L:Nat->Bool) (a:Act) (w:W),A.size=l.length->(∀j,j<l.length->A.getD j false=L j)->Er l.length L<=fuel->K L a w->wpAny P .any l.toArray Q fuel A a w:=by
 have b:∀(A:Array Bool) (L:Nat->Bool),A.size=l.length->(∀j,j<l.length->A.getD j false=L j)->Region.ready .any l.toArray A=[]->∀i,i<l.length->L i=true:=λA L u H g i=>by
  refine Nat.strongRecOn i λi y hi=> ?_;cases G:L i with
  |true=>rfl
  |false=>
   exfalso;have hm:i∈Region.ready .any l.toArray A:=by
    refine mem_ready.2 ⟨?_,l[i]'hi,by simp,λe s q=> ?_⟩
    ·have D:=H i hi;rw[G]at D;rw[Array.getD_eq_getD_getElem?,Array.getElem?_eq_getElem (by omega)]at D⊢;exact D
    ·have D:=NG X (List.getElem?_eq_getElem hi) e s q;have F:=y e.on D (by omega);rw[H _ (by omega)];exact F
   rw[g]at hm;cases hm
 intro fuel;induction fuel with
 |zero=>
  intro A L a w u H z t;have Z:=LZ _ (Nat.le_zero.1 z);refine⟨?_,Y L a w t Z⟩;cases g:Region.ready .any l.toArray A with
  |nil=>rfl
  |cons j rest=>
   exfalso;have x:j∈Region.ready .any l.toArray A:=by rw[g];exact dT
   obtain⟨D,o,r,_⟩:=mem_ready.1 x;have f:j<l.length:=by simpa using(Array.getElem?_eq_some_iff.1 r).1
   have F:=H j f;rw[Z j f]at F;rw[Array.getD_eq_getD_getElem?,Array.getElem?_eq_getElem (by omega)]at D F;simp only[fy]at D F;rw[D]at F;cases F
 |succ fuel y=>
  intro A L a w u H z t;refine⟨λg=>Y L a w t (b A L u H g),λi hi=> ?_⟩;obtain⟨D,o,r,hd⟩:=mem_ready.1 hi;have p:i<l.length:=by simpa using(Array.getElem?_eq_some_iff.1 r).1
  have G:L i=false:=by
   rw[<-H i p];rw[Array.getD_eq_getD_getElem?,Array.getElem?_eq_getElem (by omega)]at D⊢;exact D
  have h :l[i]?=S o:=by simpa using r
  refine wpOp_mono (λv w' h' => ?_) (d L a w t i o h G λe s q=> ?_)
  ·refine y (A.setIfInBounds i true) (FB L i) v w' (by simp[u]) (λj x=> ?_) ?_ h'
   ·by_cases c:j=i
    ·subst c;rw[EN,Array.getD_eq_getD_getElem?,Array.getElem?_setIfInBounds_self_of_lt (by omega)];rfl
    ·rw[CI c,<-H j x,Array.getD_eq_getD_getElem?,Array.getD_eq_getD_getElem?,Array.getElem?_setIfInBounds_ne (Ne.symm c)]
   ·have:=NF l.length p G;omega
  ·have F:=hd e s q;have h3:=NG X h e s q;rw[H _ (by omega)]at F;exact F
theorem At{A i o}(hi:A[i]?=S o)(F:o.guard=N){a w K}(h:o.wp P a w K Q):wpOp P A Q i K a w:=by
 unfold wpOp;rw[hi];have D:Region.wanted o (yielded A a.tmps)=true:=by simp[Region.wanted,F]
 simp only[D,if_true];exact .inl h
theorem Dl{o a w w' v K}(A:(execOp a.eval o).run P w=.ok (.value v) w')(h:K (a.put o.dst v) w'):o.wp P a w K Q:=by
 unfold Oper.wp;rw[A];exact h
theorem wp_skip{o a w w' K}(A:(execOp a.eval o).run P w=.ok .skip w')(h:K (a.put o.dst undef) w'):o.wp P a w K Q:=by
 unfold Oper.wp;rw[A];exact h
def EO(a0:Act)(t:List (Nat×Bool×V)):Act:={a0 with tmps:=t.foldl (λarr e=>if e.2.1 then arr.setIfInBounds e.1 e.2.2 else arr) a0.tmps}
theorem Gy{d}(t:List (Nat×Bool×V))(h:∀e∈t,e.1≠d):∀A:Array V,(t.foldl (λA e=>if e.2.1 then A.setIfInBounds e.1 e.2.2 else A) A)[d]?=A[d]?:=by
 induction t with
 |nil=>intro A;rfl
 |cons e t D=>
  intro A;rw[V0,D λx F=>h x (gQ _ F)];split
  ·exact Array.getElem?_setIfInBounds_ne (h e dT)
  ·rfl
theorem Qg{d v}:∀(t:List (Nat×Bool×V)) (k:Nat),t[k]?=S (d,true,v)->(t.map (·.1)).Nodup->∀A:Array V,d<A.size->(t.foldl (λA e=>if e.2.1 then A.setIfInBounds e.1 e.2.2 else A) A)[d]?=S v
 | [],k,h,_,_,_=>by simp at h
 |e::t,0,h,hn,A,hd=>by
  simp only[List.getElem?_cons_zero,fk]at h
  subst h
  rw[V0,Gy t λx F e=>by
   have D:=(List.nodup_cons.1 hn).1
   exact D (List.mem_map.2 ⟨x,F,e⟩)]
  simp[hd]
 |e::t,k+1,h,hn,A,hd=>by
  rw[V0]
  refine Qg t k (by simpa using h) (List.nodup_cons.1 hn).2 _ ?_
  split<;>simpa using hd
theorem Qh{d u v}:∀(t:List (Nat×Bool×V)) (k:Nat),t[k]?=S (d,false,u)->(t.map (·.1)).Nodup->∀A:Array V,(t.foldl (λA e=>if e.2.1 then A.setIfInBounds e.1 e.2.2 else A) A).setIfInBounds d v=((t.set k (d,true,v)).foldl (λA e=>if e.2.1 then A.setIfInBounds e.1 e.2.2 else A) A)
 | [],k,h,_,_=>by simp at h
 |e::t,0,h,hn,A=>by
  simp only[List.getElem?_cons_zero,fk]at h
  subst h
  have K:=(List.nodup_cons.1 hn).1
  rw[List.set_cons_zero,V0,V0]
  simp only[fa,if_false,if_true]
  have F:∀(t:List (Nat×Bool×V)),(∀x∈t,x.1≠d)->∀A:Array V,(t.foldl (λA e=>if e.2.1 then A.setIfInBounds e.1 e.2.2 else A) A).setIfInBounds d v=t.foldl (λA e=>if e.2.1 then A.setIfInBounds e.1 e.2.2 else A) (A.setIfInBounds d v):=λt=>by
   induction t with
   |nil=>intro _ A;rfl
   |cons x t H=>
    intro D A
    rw[V0,V0,H λy G=>D y (gQ _ G)]
    split
    ·rw[Array.setIfInBounds_comm _ _ (D x dT)]
    ·rfl
  exact F t (λx D e=>K (List.mem_map.2 ⟨x,D,e⟩)) A
 |e::t,k+1,h,hn,A=>by
  rw[List.set_cons_succ,V0,V0]
  exact Qh t k (by simpa using h) (List.nodup_cons.1 hn).2 _
theorem Lf{a0}{t:List (Nat×Bool×V)}{k d:Nat}{u v}(D:t[k]?=S (d,false,u))(A:(t.map (·.1)).Nodup):(EO a0 t).put (S d) v=EO a0 (t.set k (d,true,v)):=by
 unfold EO Act.put;simp only[];rw[Qh t k D A]
theorem Ah{a0}{t:List (Nat×Bool×V)}{k d:Nat}{v}(F:t[k]?=S (d,true,v))(A:(t.map (·.1)).Nodup)(D:d<a0.tmps.size):(EO a0 t).eval (.tmp d)=v:=by
 unfold EO Act.eval;simp only[];rw[Array.getD_eq_getD_getElem?,Qg t k F A _ D];rfl
theorem BF{a0}{t:List (Nat×Bool×V)}{d}(h:∀e∈t,e.1≠d):(EO a0 t).eval (.tmp d)=a0.eval (.tmp d):=by
 unfold EO Act.eval;simp only[];rw[Array.getD_eq_getD_getElem?,Gy t h,<-Array.getD_eq_getD_getElem?]
theorem Sj{Θ:Type}(D:(Nat->Bool)->Θ->List (Nat×Bool×V))(Z:(Nat->Bool)->Θ->W->Prop)(K)(c:Θ){fuel}{A:Array Bool}{a w}(G:YQ l=true)
  (r:A.size=l.length)(s:∀j,j<l.length->A.getD j false=K j)(p:Er l.length K<=fuel)(q:EO a (D K c)=a)(g:Z K c w)
  (F:∀L θ w,Z L θ w->∀i o,l[i]?=S o->L i=false->(∀e∈o.after,Region.binds .any e=true->L e.on=true)->wpOp P l.toArray Q i (λY w' =>∃d,Y =EO a (D (FB L i) d)/\Z (FB L i) d w') (EO a (D L θ)) w)
  (H:∀L θ w,Z L θ w->(∀i,i<l.length->L i=true)->Q .normal (EO a (D L θ)) w):wpAny P .any l.toArray Q fuel A a w:=by
 refine VL (λL Y w' =>∃θ,Y =EO a (D L θ)/\Z L θ w') G ?_ ?_ fuel A K a w r s p ⟨c,q.symm,g⟩
 ·rintro L Y w' ⟨θ,rfl,h⟩ i o hi b f;exact F L θ w' h i o hi b f
 ·rintro L Y w' ⟨θ,rfl,h⟩ X;exact H L θ w' h X
theorem Gz{Θ:Type}(D:(Nat->Bool)->Θ->List (Nat×Bool×V))(X:(Nat->Bool)->Θ->W->Prop)(G:List Bool)(Y:Θ){fuel:Nat}{A:Array Bool}{a w}(g:A=G.toArray)(H:YQ l=true)
  (h:G.length=l.length)(f:Nat.ble (Er l.length (λj=>G.getD j false)) fuel=true)(b:EO a (D (λj=>G.getD j false) Y)=a)(d:X (λj=>G.getD j false) Y w)
  (F:∀L θ w,X L θ w->∀i o,l[i]?=S o->L i=false->(∀e∈o.after,Region.binds .any e=true->L e.on=true)->wpOp P l.toArray Q i (λc w' =>∃Z,c =EO a (D (FB L i) Z)/\X (FB L i) Z w') (EO a (D L θ)) w)
  (K:∀L θ w,X L θ w->(∀i,i<l.length->L i=true)->Q .normal (EO a (D L θ)) w):wpAny P .any l.toArray Q fuel A a w:=by
 subst g;refine Sj D X (λj=>G.getD j false) Y H (by simpa using h) (λj p=> ?_) (Nat.le_of_ble_eq_true f) b d F K;rw[Array.getD_eq_getD_getElem?,List.getElem?_toArray,<-List.getD_eq_getElem?_getD]
theorem Aj{a0}{t A :List (Nat×Bool×V)}(k){d u v}(D:t[k]?=S (d,false,u))(G:(t.map (·.1)).Nodup)(F:t.set k (d,true,v)=A):(EO a0 t).put (S d) v=EO a0 A :=by
 subst F;exact Lf D G
end
end Go.Proofs.YtbejdajkkoapgaaGreatDoor
