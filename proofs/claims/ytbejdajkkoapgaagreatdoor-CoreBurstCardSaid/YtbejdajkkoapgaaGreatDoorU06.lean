/-
  Lemmas and walks for coreBurst.proved, joined and squeezed by a program out of the loose texts Im, M1, M2, Rt, M3, M4, Ld, Lk. Conditions: each theorem states its own.
-/
import Derived.Test.YtbejdajkkoapgaaGreatDoorU05
import Derived.Test.YtbejdajkkoapgaaGreatDoorU04
import Derived.Test.YtbejdajkkoapgaaGreatDoorU03
import Derived.Test.YtbejdajkkoapgaaGreatDoorU02
set_option linter.all false
set_option maxRecDepth 100000
set_option maxHeartbeats 40000000
open Go.RowKit Go.Lib Go.Proofs.Tryz
open Array renaming length_toList->es,replicate->gV
open Bool renaming and_eq_true->fy
open Go renaming Calls->C,Value->V,World->W
open Go.Act renaming eval->fa,put->NW
open Go.Addr renaming add_lit->ag,mk.injEq->gS
open Go.Ending renaming returned->R
open Go.IntKind renaming i64->J,u64->U,wrap_i64->bw,wrap_u64->fj
open Go.RowKit renaming Below->B
open Go.Value renaming int->I,pointer->P,slice->L,tuple->T
open List renaming append_assoc->gY,flatMap_append->gX,getElem_cons_drop->gW,getElem_mem->gQ,length_append->V0,length_cons->bh,length_drop->Pa,length_nil->fw,length_take->Q0,mem_of_mem_drop->fp,mem_of_mem_take->gj,range->gh,size_toArray->fx,take_append_of_le_length->gU,take_of_length_le->gZ,take_take->gd,toList_toArray->gg
open Nat renaming le_refl->E,le_trans->ej,lt_of_not_le->gi,min->RR,min_def->gT,min_self->gc,zero_add->fk,zero_le->aw
open Option renaming map->gm,none->N,some->S,some.inj->dT,some.injEq->gR
namespace Go.Proofs.YtbejdajkkoapgaaGreatDoor
open Go.RowKit Go.Lib Go.Shelf
theorem FM:(prog.info? 207).map (λi=>(i.zero,i.size,i.bytes))=S (S (.agg #[I U 0,I J 0,I J 0]),3,24):=by kernel_rfl
abbrev Af:=Nat×Int×Int
def Ci(x:Af):List Value:=[I U x.1,I J x.2.1,I J x.2.2]
theorem Fu(x:Af):(Ci x).length=3:=rfl
def Ad(l:List Af):List Value:=l.flatMap Ci
theorem GJ(l m:List Af):Ad (l++m)=Ad l++Ad m:=gX
theorem OS(l:List Af):(Ad l).length=l.length*3:=Fs Fu l
theorem Hq(l:List Af):∀u∈Ad l,u.oneCell' =true:=Xs (λx u A=>by simp[Ci]at A;rcases A with rfl|rfl|rfl<;>rfl) l
theorem FN(w ty g o A K a F Q D G)
  (e:w.heap[g]?=S (.cells D 207 (0,0)))(f:G.length=RR F A*3)
  (X:∀j v,G[j]?=S v->w.cell? (a.add j)=S v)(H:o+G.length<=D.size)(h:∀v∈G,v.oneCell' =true):
  (Builtin.copy_ #[186,186] ty #[L (S ⟨g,o,N⟩) A K,L (S a) F Q]).run prog w=
   .ok (goInt (RR F A)) (w.setRow g (D.toList.take o++G++D.toList.drop (o+G.length)).toArray):=by
 have c:=run_loadCells_list (P:=prog) w a G X;have Y:=run_storeCells_at prog g o 207 G 0 D w e (by simpa using H) h;obtain⟨i,hi,d,Z,b⟩:=info_parts FM;simp[Builtin.copy_,run_underlying underlying186,Builtin.lenOf,Builtin.firstCells,sizeOf,typeInfo,hi,Z,<-f,c,Y]
theorem OT(w v)(l:List Af)(Y)(x:Af)(h:w.ownsRow 0 207 3 v l.length (Ad l))(Z:l.length<=1000000)(i:AI w Y #[I U x.1,I J x.2.1,I J x.2.2] 207):
  C prog 354 #[v,I J l.length,L (S ⟨Y,0,N⟩) 1 1] w λe w' =>∃v',e=R v' /\w'.ownsRow 0 207 3 v' (l.length+1) (Ad (l++ [x]))/\
   AD (λk=>v.ownBlock=S k) w w' /\(v'.ownBlock=v.ownBlock\/v'.ownBlock=S w.heap.size):=by
 obtain⟨s,hi,K,Q,G⟩:=info_parts FM;have F:∀j u,(Ci x)[j]?=S u->w.cell? ((⟨Y,0,N⟩:Addr).add j)=S u:=by
  intro j u D;rw[ag,fk]
  match j,D with
  |0,D=>simp[Ci]at D;subst D;exact i.cell rfl
  |1,D=>simp[Ci]at D;subst D;exact i.cell rfl
  |2,D=>simp[Ci]at D;subst D;exact i.cell rfl
 have o:=Zh (show∀u∈Ci x,u.oneCell' =true from λu hu=>by simp[Ci]at hu;rcases hu with rfl|rfl|rfl<;>rfl);have q:=Zh F;have H:=Zh h;have c:∀(v' :V) (w' :W),w'.ownsRow 0 207 3 v' (l.length+1) (Ad l++Ci x)->w.grownBy w' v.ownBlock->(v'.ownBlock=v.ownBlock\/v'.ownBlock=S w.heap.size)->
   w'.ownsRow 0 207 3 v' (l.length+1) (Ad (l++ [x]))/\AD (λk=>v.ownBlock=S k) w w' /\(v'.ownBlock=v.ownBlock\/v'.ownBlock=S w.heap.size):=λv' w' a b d=>
  ⟨by rw[GJ,show Ad [x]=Ci x from by simp[Ad]];exact a,AD.of_grown b λk hk=>hk,d⟩
 have A:=Zh c;clear i F c;rcases AH h with⟨X,f,_⟩|⟨g,r,X,p,z,_,hg⟩
 ·rw[f]at H A⊢;rw[X]at H A⊢;clear h X f;go_enter func354,ntmps354;go_wp2_with(at_builtin;refine wpList_append_own_at _ rfl _ _ 186 rfl 0 207 s _ 3 24 underlying186 hi K Q G rfl (by decide) _ _ _ rfl H.out ⟨Y,0,N⟩ 1 1 (Ci x) rfl rfl q.out o.out (by decide) (by decide) (aw _) ?_;intro v' w' a1 a2 _ a3);go_ret;exact⟨_,rfl,A.out v' w' a1 a2 a3⟩
 ·obtain⟨n,f⟩:∃n,n=l.length:=⟨_,rfl⟩;rw[<-f]at H A Z p X⊢;rw[X]at H A⊢;clear h X f;by_cases m:r=n
  ·subst m;go_enter func354,ntmps354;go_wp2_with(at_builtin;refine wpList_append_own_at _ rfl _ _ 186 rfl 0 207 s _ 3 24 underlying186 hi K Q G rfl (by decide) _ _ _ rfl H.out ⟨Y,0,N⟩ 1 1 (Ci x) rfl rfl q.out o.out ?q1 ?q2 (aw _) ?_);case q1=>unfold maxLen;omega
   case q2=>omega
   intro v' w' a1 a2 _ a3;go_wp2;go_ret;exact⟨_,rfl,A.out v' w' a1 a2 a3⟩
  ·go_enter func354,ntmps354;go_wp2_with(at_builtin;refine wpList_append_own_at _ rfl _ _ 186 rfl 0 207 s _ 3 24 underlying186 hi K Q G rfl (by decide) _ _ _ rfl H.out ⟨Y,0,N⟩ 1 1 (Ci x) rfl rfl q.out o.out ?q1 ?q2 (aw _) ?_);case q1=>unfold maxLen;omega
   case q2=>omega
   intro v' w' a1 a2 _ a3;go_wp2;go_ret;exact⟨_,rfl,A.out v' w' a1 a2 a3⟩
theorem LP(w g n F i)(l:List Af)(Q)(x:Af)(h:w.ownsRow 0 207 3 (L (S ⟨g,0,N⟩) n F) n (Ad l))(Av:n<=1000000)(r:i<n)(c:n+1<=F)(b:AI w Q #[I U x.1,I J x.2.1,I J x.2.2] 207)(m:Q≠g):
  C prog 354 #[L (S ⟨g,0,N⟩) n F,I J i,L (S ⟨Q,0,N⟩) 1 1] w λe w' =>e=R (L (S ⟨g,0,N⟩) (n+1) F)/\
   w'.ownsRow 0 207 3 (L (S ⟨g,0,N⟩) (n+1) F) (n+1) ((Ad l).take (i*3)++(Ci x++(Ad l).drop (i*3)))/\AD (λk=>k=g) w w' :=by
 obtain⟨K,h⟩:=h;rcases h with⟨h,_⟩|⟨g',Aw,D,hv,-,q,Ay,Y,s,G⟩
 ·cases h
 simp only[L.injEq,gR,gS,and_true,true_and]at hv;obtain⟨rfl,rfl⟩:=hv;have hl:D.toList.length=D.size:=es;obtain⟨X,hA1⟩:∃A,A=EX D n i (Ad l):=⟨_,rfl⟩;obtain⟨f,hA2⟩:∃A,A=Gt X i (Ci x):=⟨_,rfl⟩;have s1:X.size=D.size:=by rw[hA1];exact KA D n i _ G K r (by omega)
 have s2:f.size=D.size:=by rw[hA2,Hh _ _ _ rfl (by omega),s1]
 have AA:F<=9223372036854775807:=by unfold maxLen at Y;omega
 have p:∀ty a sc,(Builtin.copy_ #[186,186] ty #[L (S ⟨g,(i+1)*3,N⟩) (n-i) a,L (S ⟨g,i*3,N⟩) (n+1-i) sc]).run prog w.drew=.ok (goInt (RR (n+1-i) (n-i))) (w.drew.setRow g X):=λty a sc=>by
  have k:=FN w.drew ty g ((i+1)*3) (n-i) a ⟨g,i*3,N⟩ (n+1-i) sc D ((Ad l).drop (i*3)) q (by rw[Pa,K,show RR (n+1-i) (n-i)=n-i from by simp only[gT];split<;>omega];omega)
   (λj u H=>by
    rw[ag,cell_of_row w.drew g _ D 207 (0,0) q];rw[List.getElem?_drop,<-G,List.getElem?_take]at H;split at H
    ·simpa using H
    ·cases H)
   (by rw[Pa,K];omega) (λu z=>Hq l u (fp z))
  rw[k,hA1];rfl
 have d:∀W:World,W.heap=(w.drew.setRow g X).heap->W.heap[g]?=S (.cells X 207 (0,0)):=λW Z=>by rw[Z];exact setRow_heap w.drew g D _ 207 _ q
 have o:∀W:World,W.heap=(w.drew.setRow g X).heap->∀ty a,(Builtin.copy_ #[186,186] ty #[L (S ⟨g,i*3,N⟩) (n+1-i) a,L (S ⟨Q,0,N⟩) 1 1]).run prog W=.ok (goInt (RR 1 (n+1-i))) (W.setRow g f):=λW Z ty a=>by
  have hm:RR 1 (n+1-i)=1:=by simp only[gT];split<;>omega
  have k:=FN W ty g (i*3) (n+1-i) a ⟨Q,0,N⟩ 1 1 X (Ci x) (d W Z) (by rw[hm];rfl)
   (λj u H=>by
    have Ac:W.heap[Q]?=w.heap[Q]?:=by rw[Z];exact setRow_other w.drew g Q X m
    rw[ag,fk,World.cell?_of_block (w:=w) Ac]
    match j,H with
    |0,H=>simp[Ci]at H;subst H;exact b.cell rfl
    |1,H=>simp[Ci]at H;subst H;exact b.cell rfl
    |2,H=>simp[Ci]at H;subst H;exact b.cell rfl)
   (by rw[s1];show i*3+3<=_;omega) (λu z=>by simp[Ci]at z;rcases z with rfl|rfl|rfl<;>rfl)
  rw[k,hA2];rfl
 have Al:∀lb cb,(callFunc 356 #[L (S ⟨Q,0,N⟩) 1 1,L (S ⟨g,(i+1)*3,N⟩) lb cb]).run prog w=.ok (.value (.bool false)) w:=λlb cb=>by
  have Aa:w.shape? Q=S (207,3):=by unfold World.shape?;rw[show w.heap[Q]?=_ from b];rfl
  have Ab:w.shape? g=S (207,D.size):=by unfold World.shape?;rw[q]
  rw[run_callFunc_extern func356 (by kernel_rfl) (by kernel_rfl) (by kernel_rfl) (e:=Extern.SlicesOverlaps.overlaps #[186,186] #[4]) (by kernel_rfl),
   Lib.run_overlaps_apart w 186 4 207 underlying186 3 sizeOf207 ⟨Q,0,N⟩ ⟨g,(i+1)*3,N⟩ 1 1 lb cb m 207 207 3 D.size Aa Ab (by omega) (b.frozen 0) (b.frozen 3)]
  rfl
 have z1:¬((i:Int)=(n:Int)):=by omega
 have z2:¬((F:Int)<(n:Int)+1):=by omega
 have z3:¬(F=i):=by omega
 have z4:¬(F=i+1):=by omega
 have z5:(i:Int)<=(n:Int):=by omega
 have z6:(i:Int)+1<=(n:Int)+1:=by omega
 have Ar:=Zh (show∀W:World,W.heap=(w.drew.setRow g X).heap->W.os=w.os->W.tape=w.tape->W.output=w.output->(W.setRow g f).ownsRow 0 207 3 (L (S ⟨g,0,N⟩) (n+1) F) (n+1) ((Ad l).take (i*3)++(Ci x++(Ad l).drop (i*3)))/\AD (λk=>k=g) w (W.setRow g f)from λW Z o1 o2 o3=>by
  refine⟨⟨?_,.inr ⟨g,F,f,rfl,aw _,setRow_heap W g X _ 207 _ (d W Z),c,Y,by rw[s2,s],?_⟩⟩,⟨o1,o2,o3,?_,λk hk hn=> ?_⟩⟩
  ·simp only[V0,Q0,Pa,K,Ci,bh,fw];omega
  ·rw[hA2,hA1];exact KB D n i _ _ G K r rfl (by omega)
  ·rw[size_setRow,Z,size_setRow];exact E _
  ·rw[setRow_other W g k f hn,Z];exact setRow_other w.drew g k X hn)
 have Ap:prog.follows Departure.mixedOrders=true:=by kernel_rfl
 have A0:J.wrap ((i:Int)+1)=(i:Int)+1:=by rw[bw];omega
 have Ax:((i:Int)+1).toNat=i+1:=by omega
 have A3:(0:Int)<=(i:Int)+1:=by omega
 have A4:(i:Int)<=(n:Int)+1:=by omega
 clear d s G hA1 hA2 s1 s2 q b K hl;go_enter func354,ntmps354;go_wp2_with(simp only[Al]);go_region_law_o (refine Go.Proofs.step_copy_runI rfl _ _ 186 186 rfl _ _ (by simp[fa,NW]) (by simp[fa,NW]) (p _ _ _) ?_);go_wp2_with(at_builtin;refine Go.Proofs.wpList_copy_runI _ rfl _ _ 186 186 rfl _ _ rfl rfl (o _ rfl _ _) ?_);go_ret;exact⟨rfl,Ar.out _ rfl rfl rfl rfl⟩
theorem MW(w g n F i)(l:List Af)(r)(x:Af)(h:w.ownsRow 0 207 3 (L (S ⟨g,0,N⟩) n F) n (Ad l))(BX:n<=1000000)(BQ:i<n)(A4:F<n+1)(q:AI w r #[I U x.1,I J x.2.1,I J x.2.2] 207):
  C prog 354 #[L (S ⟨g,0,N⟩) n F,I J i,L (S ⟨r,0,N⟩) 1 1] w λe w' =>∃v',e=R v' /\
   w'.ownsRow 0 207 3 v' (n+1) ((Ad l).take (i*3)++(Ci x++(Ad l).drop (i*3)))/\B w.heap.size w w' /\v'.ownBlock=S w.heap.size:=by
 have K:=λj u (H:(Ad l)[j]?=S u)=>(show w.cell? ⟨g,j,N⟩=S u by have:=h.cells (g:=g) rfl j u H;rwa [ag,fk]at this)
 have Ar:g<w.heap.size:=(h.lt g rfl).2;obtain⟨X,h⟩:=h;have Ab:n<=F:=by
  rcases h with⟨h,_⟩|⟨g',Ba,Bt,hv,-,hg,Ab,BR,Bw,Av⟩
  ·cases h
  ·simp only[L.injEq,gR,gS,and_true,true_and]at hv;obtain⟨rfl,rfl⟩:=hv;exact Ab
 clear h;obtain⟨i0,A8,Ax,Aw,Aa⟩:=info_parts FM;have Ay:r<w.heap.size:=q.lt;have AA:i+(n+1-i)=n+1:=by omega
 have p:(Builtin.firstCells i0.size i (L (S ⟨g,0,N⟩) i F)).run prog w.drew=.ok ((Ad l).take (i*3)).toArray w.drew:=by
  rw[Aw];exact run_firstCells_some w.drew 3 i ⟨g,0,N⟩ i F ((Ad l).take (i*3)) (by rw[Q0];omega) (λj v H=>by
   rw[ag,fk];rw[List.getElem?_take]at H;split at H
   ·exact K j v H
   ·cases H)
 obtain⟨G,hG⟩:∃G,G=grownCap w (n+1) F 207:=⟨_,rfl⟩;obtain⟨D,Z⟩:∃D:Array V,D=((Ad l).take (i*3)).toArray++Builtin.zeroCells (V.agg #[I U 0,I J 0,I J 0]).cells (n+1-i)++Builtin.zeroCells (V.agg #[I U 0,I J 0,I J 0]).cells (G-(n+1)):=⟨_,rfl⟩;have BA:∀ty,(Builtin.append_ #[186,3] ty #[L (S ⟨g,0,N⟩) i F,I J ((n:Int)+1-(i:Int))]).run prog w=
   .ok (L (S ⟨w.heap.size,0,N⟩) (n+1) G) (w.drew.alloc (.cells D 207)):=λty=>by
  have h:=Lib.run_append_grow_zeros w 186 3 ty 207 i0 _ J J underlying186 underlying3 A8 Ax (S ⟨g,0,N⟩) i F ((Ad l).take (i*3)) p (n+1-i) (by omega) (by omega) (by omega) (by omega) (by rw[Aa];omega) (by rw[Aa,AA];exact growslice_fits (by omega) (by omega));rw[AA,<-hG,<-Z]at h;rw[show(n:Int)+1-(i:Int)=((n+1-i:Nat):Int)from by omega];exact h
 have A5:n+1<=G:=by rw[hG];exact grownCap_ge w _ _ _
 have s:G<=maxLen:=by rw[hG];exact grownCap_le_maxLen w (n+1) F 207 (by unfold maxLen;omega)
 have Bb:G<=9223372036854775807:=by unfold maxLen at s;omega
 have z:D.size=G*3:=by
  rw[Z];simp only[Array.size_append,fx,Q0,size_zeroCells,V.cells,X,fx,bh,fw];omega
 have Al:D.toList.take (i*3)=(Ad l).take (i*3):=by
  rw[Z];simp only[Array.toList_append,gY];rw[gU (by simp only[Q0];omega)];exact gZ (by simp only[Q0];omega)
 obtain⟨Q,hA1⟩:∃A,A=Gt D i (Ci x):=⟨_,rfl⟩;obtain⟨A2,hA2⟩:∃A,A=Ja Q i ((Ad l).drop (i*3)):=⟨_,rfl⟩;have s1:Q.size=G*3:=by rw[hA1,Hh _ _ _ rfl (by omega),z]
 have s2:A2.size=G*3:=by rw[hA2,K8 _ _ _ (by rw[Pa,X];omega),s1]
 have Ac:∀W:World,W.heap=(w.drew.alloc (.cells D 207)).heap->W.heap[w.heap.size]?=S (.cells D 207 (0,0)):=λW c=>by rw[c];exact heap_alloc_new w.drew _
 have d:∀W:World,W.heap=(w.drew.alloc (.cells D 207)).heap->∀b o,b<w.heap.size->W.cell? ⟨b,o,N⟩=w.cell? ⟨b,o,N⟩:=λW c b o q=>World.cell?_of_block (w:=w) (a:=⟨b,o,N⟩) (by rw[c];exact B.heap_alloc w.drew _ b q);have m:∀W:World,W.heap=(w.drew.alloc (.cells D 207)).heap->∀ty Y,(Builtin.copy_ #[186,186] ty #[L (S ⟨w.heap.size,i*3,N⟩) (n+1-i) Y,L (S ⟨r,0,N⟩) 1 1]).run prog W=.ok (goInt (RR 1 (n+1-i))) (W.setRow w.heap.size Q):=λW c ty Y=>by
  have hm:RR 1 (n+1-i)=1:=by simp only[gT];split<;>omega
  have k:=FN W ty w.heap.size (i*3) (n+1-i) Y ⟨r,0,N⟩ 1 1 D (Ci x) (Ac W c) (by rw[hm];rfl)
   (λj u H=>by
    rw[ag,fk,d W c r _ Ay]
    match j,H with
    |0,H=>simp[Ci]at H;subst H;exact q.cell rfl
    |1,H=>simp[Ci]at H;subst H;exact q.cell rfl
    |2,H=>simp[Ci]at H;subst H;exact q.cell rfl)
   (by rw[z];show i*3+3<=_;omega) (λu hu=>by simp[Ci]at hu;rcases hu with rfl|rfl|rfl<;>rfl)
  rw[k,hA1];rfl
 have f:∀W:World,W.heap=((w.drew.alloc (.cells D 207)).setRow w.heap.size Q).heap->∀ty Y sc,(Builtin.copy_ #[186,186] ty #[L (S ⟨w.heap.size,(i+1)*3,N⟩) (n-i) Y,L (S ⟨g,i*3,N⟩) (n-i) sc]).run prog W=.ok (goInt (RR (n-i) (n-i))) (W.setRow w.heap.size A2):=λW c ty Y sc=>by
  have k:=FN W ty w.heap.size ((i+1)*3) (n-i) Y ⟨g,i*3,N⟩ (n-i) sc Q ((Ad l).drop (i*3)) (by rw[c];exact setRow_heap (w.drew.alloc _) w.heap.size D _ 207 _ (heap_alloc_new w.drew _)) (by rw[Pa,X,show RR (n-i) (n-i)=n-i from gc _];omega)
   (λj u H=>by
    have A7:W.heap[g]?=w.heap[g]?:=by rw[c,setRow_other (w.drew.alloc _) w.heap.size g Q (by omega)];exact B.heap_alloc w.drew _ g Ar
    rw[ag,World.cell?_of_block (w:=w) (a:=⟨g,i*3+j,N⟩) A7];rw[List.getElem?_drop]at H;exact K _ u H)
   (by rw[Pa,X,s1];omega) (λu hu=>Hq l u (fp hu))
  rw[k,hA2];rfl
 have A6:=Zh (show∀W:World,W.heap=((w.drew.alloc (.cells D 207)).setRow w.heap.size Q).heap->W.os=w.os->W.tape=w.tape->W.output=w.output->(W.setRow w.heap.size A2).ownsRow 0 207 3 (L (S ⟨w.heap.size,0,N⟩) (n+1) G) (n+1) ((Ad l).take (i*3)++(Ci x++(Ad l).drop (i*3)))/\B w.heap.size w (W.setRow w.heap.size A2)from λW c o1 o2 o3=>by
  have A3:W.heap[w.heap.size]?=S (.cells Q 207 (0,0)):=by rw[c];exact setRow_heap (w.drew.alloc _) w.heap.size D _ 207 _ (heap_alloc_new w.drew _)
  refine⟨⟨?_,.inr ⟨w.heap.size,G,A2,rfl,aw _,setRow_heap W w.heap.size Q _ 207 _ A3,A5,s,by rw[s2],?_⟩⟩,⟨o1,o2,o3,?_,λk hk=> ?_⟩⟩
  ·simp only[V0,Q0,Pa,X,Ci,bh,fw];omega
  ·rw[hA2,hA1];exact K7 D n i _ _ Al X BQ rfl (by omega)
  ·rw[size_setRow,c,size_setRow];simp
  ·rw[setRow_other W w.heap.size k A2 (by omega),c,setRow_other (w.drew.alloc _) w.heap.size k Q (by omega)];exact B.heap_alloc w.drew _ k hk)
 have z1:¬((i:Int)=(n:Int)):=by omega
 have z2:(F:Int)<(n:Int)+1:=by omega
 have z3:¬(G=i):=by omega
 have z4:¬(G=i+1):=by omega
 have z5:¬(F=i):=by omega
 have A9:prog.follows Departure.mixedOrders=true:=by kernel_rfl
 have Bu:J.wrap ((i:Int)+1)=(i:Int)+1:=by rw[bw];omega
 have Bs:((i:Int)+1).toNat=i+1:=by omega
 have B3:(0:Int)<=(i:Int)+1:=by omega
 have B0:(i:Int)<=(n:Int):=by omega
 have B2:(i:Int)+1<=(n:Int)+1:=by omega
 have B1:(i:Int)<=(n:Int)+1:=by omega
 have Ap :∀ty Y,(Builtin.copy_ #[186,186] ty #[L (S ⟨w.heap.size,i*3,N⟩) (n+1-i) Y,L (S ⟨r,0,N⟩) 1 1]).run prog (w.alloc (.cells D 207)).drew=.ok (goInt (RR 1 (n+1-i))) ((w.alloc (.cells D 207)).drew.setRow w.heap.size Q):=λty Y=>m _ rfl ty Y;have A0 :∀ty Y sc,(Builtin.copy_ #[186,186] ty #[L (S ⟨w.heap.size,(i+1)*3,N⟩) (n-i) Y,L (S ⟨g,i*3,N⟩) (n-i) sc]).run prog ((w.alloc (.cells D 207)).drew.setRow w.heap.size Q).drew=.ok (goInt (RR (n-i) (n-i))) (((w.alloc (.cells D 207)).drew.setRow w.heap.size Q).drew.setRow w.heap.size A2):=λty Y sc=>f ((w.alloc (.cells D 207)).drew.setRow w.heap.size Q).drew rfl ty Y sc;clear m f;clear K AA p Z hG z Al hA1 hA2 s1 s2 Ac d q X s;go_enter func354,ntmps354;go_wp2_with(at_builtin;refine Lib.wpList_append_run _ rfl _ _ _ _ rfl _ _ rfl rfl _ _ (BA _) ?_);go_region;all_goals(try go_wp2)
 all_goals go_ret
 all_goals obtain⟨f1,f2⟩:=A6.out ((w.alloc (.cells D 207)).drew.setRow w.heap.size Q).drew rfl rfl rfl rfl
 all_goals exact⟨_,rfl,f1,f2,rfl⟩
theorem OU(w v)(l:List Af)(p G)(x:Af)(h:w.ownsRow 0 207 3 v l.length (Ad l))(A:l.length<=1000000)(j:p<=l.length)(Y:AI w G #[I U x.1,I J x.2.1,I J x.2.2] 207)(X:v.ownBlock≠S G):
  C prog 354 #[v,I J p,L (S ⟨G,0,N⟩) 1 1] w λe w' =>∃v',e=R v' /\w'.ownsRow 0 207 3 v' (l.length+1) (Ad (l.take p++x::l.drop p))/\
   AD (λk=>v.ownBlock=S k) w w' /\FA w v v' :=by
 have d:Ad (l.take p++x::l.drop p)=(Ad l).take (p*3)++(Ci x++(Ad l).drop (p*3)):=by
  exact Xr (Fu) l p x
 by_cases i:p=l.length
 ·subst i;refine(OT w v l G x h A Y).mono λe w' ⟨v',Q,H,K,D⟩=>⟨v',Q,?_,K,?_⟩
  ·rw[List.take_length,List.drop_length];exact H
  ·rcases D with D|D
   ·exact .inl D
   ·exact .inr ⟨_,D,E _⟩
 ·rcases AH h with⟨Z,n,_⟩|⟨g,F,Z,b,a,_,m⟩
  ·omega
  ·subst Z;rw[d];by_cases c:l.length+1<=F
   ·refine(LP w g l.length F p l G x h A (by omega) c Y (λe=>X (by rw[e];rfl))).mono λe w' ⟨Q,H,K⟩=>⟨_,Q,H,?_,.inl rfl⟩
    exact K.mono λk _ f=>by subst f;rfl
   ·exact(MW w g l.length F p l G x h A (by omega) (by omega) Y).mono λe w' ⟨v',Q,H,K,D⟩=>⟨v',Q,H,AD.of_below K,.inr ⟨_,D,E _⟩⟩
theorem Jc(w ty g o c A)(X:w.heap[g]?=S (.cells A 207 (0,0)))(D:o+6<=A.size):
  (Builtin.clear_ #[186] ty #[L (S ⟨g,o,N⟩) 2 c]).run prog w=.ok (T #[]) (w.setRow g (A.toList.take o++ [I U 0,I J 0,I J 0,I U 0,I J 0,I J 0]++A.toList.drop (o+6)).toArray):=by
 have F:=run_storeCells_at prog g o 207 [I U 0,I J 0,I J 0,I U 0,I J 0,I J 0] 0 A w X (by simpa using D) (λu H=>by simp only[List.mem_cons,List.not_mem_nil,or_false]at H;rcases H with rfl|rfl|rfl|rfl|rfl|rfl<;>rfl);obtain⟨Z,hi,G,Q,K⟩:=info_parts FM;have Y:(Builtin.zeroCells (V.agg #[I U 0,I J 0,I J 0]).cells 2).toList=[I U 0,I J 0,I J 0,I U 0,I J 0,I J 0]:=by simp[Builtin.zeroCells,V.cells];rfl
 simp[Builtin.clear_,run_underlying underlying186,zeroValue,typeInfo,hi,G,Y,F]
def LQ(cur:Array V)(i:Nat)(xs:List V):Array Value:=(cur.toList.take (i*3)++xs.drop ((i+2)*3)++cur.toList.drop (i*3+(xs.drop ((i+2)*3)).length)).toArray
def LR(cur:Array V)(n:Nat):Array Value:=(cur.toList.take ((n-2)*3)++ [I U 0,I J 0,I J 0,I U 0,I J 0,I J 0]++cur.toList.drop ((n-2)*3+6)).toArray
theorem LS(A n i D)(G:D.length=n*3)(hi:i+1<n)(F:n*3<=A.size):(LQ A i D).size=A.size:=by
 have H:A.toList.length=A.size:=es;unfold LQ;rw[fx];simp only[V0,Q0,Pa];omega
theorem SY(A n)(F:2<=n)(G:n*3<=A.size):(LR A n).size=A.size:=by
 have D:A.toList.length=A.size:=es;unfold LR;rw[fx];simp only[V0,Q0,Pa,bh,fw];omega
theorem SZ(A n i D)(h:A.toList.take (n*3)=D)(F:D.length=n*3)(hi:i+1<n)(H:n*3<=A.size):
  (LR (LQ A i D) n).toList.take ((n-2)*3)=D.take (i*3)++D.drop ((i+2)*3):=by
 have K:A.toList.length=A.size:=es;have G:A.toList.take (i*3)=D.take (i*3):=by rw[<-h,gd,show min (i*3) (n*3)=i*3 from by omega]
 unfold LR;rw[gg,gY,gU (by rw[Q0,es,LS A n i D F hi H];omega),gd,gc];unfold LQ;rw[gg,G,gU (by simp only[V0,Q0,Pa];omega)];exact gZ (by simp only[V0,Q0,Pa];omega)
theorem OV(w)(g n D i:Nat)(l:List Af)(h:w.ownsRow 0 207 3 (L (S ⟨g,0,N⟩) n D) n (Ad l))(Ac:n<=1000000)(AA:i+1<n):
  C prog 352 #[L (S ⟨g,0,N⟩) n D,I J i,I J ((i+2:Nat):Int)] w λe w' =>e=R (L (S ⟨g,0,N⟩) (n-2) D)/\
   w'.ownsRow 0 207 3 (L (S ⟨g,0,N⟩) (n-2) D) (n-2) ((Ad l).take (i*3)++(Ad l).drop ((i+2)*3))/\AD (λk=>k=g) w w' :=by
 obtain⟨H,h⟩:=h;rcases h with⟨h,_⟩|⟨g',Al,F,hv,-,z,Ap,b,d,G⟩
 ·cases h
 simp only[L.injEq,gR,gS,and_true,true_and]at hv;obtain⟨rfl,rfl⟩:=hv;have hl:F.toList.length=F.size:=es;obtain⟨Q,hA1⟩:∃A,A=LQ F i (Ad l):=⟨_,rfl⟩;obtain⟨p,hA2⟩:∃A,A=LR Q n:=⟨_,rfl⟩;have s1:Q.size=F.size:=by rw[hA1];exact LS F n i _ H AA (by omega)
 have s2:p.size=F.size:=by rw[hA2,SY _ _ (by omega) (by omega),s1]
 have Aa:D<=9223372036854775807:=by unfold maxLen at b;omega
 obtain⟨i0,hi,s,X,q⟩:=info_parts FM;have Y:∀ty c a,(n=i+2\/a=(⟨g,(i+2)*3,N⟩:Addr))->(Builtin.append_ #[186,186] ty #[L (S ⟨g,0,N⟩) i D,L (S a) (n-(i+2)) c]).run prog w.drew=.ok (L (S ⟨g,0,N⟩) (n-2) D) (w.drew.setRow g Q):=λty c a ha=>by
  have k:=run_append_room (P:=prog) w.drew 186 ty 207 i0 underlying186 hi g i D F z a (n-(i+2)) c ((Ad l).drop ((i+2)*3)) (by rw[Pa,H,X];omega)
   (λj u o=>by
    rcases ha with ha|ha
    ·rw[List.drop_of_length_le (by omega)]at o;cases o
    ·subst ha;rw[ag,cell_of_row w.drew g _ F 207 (0,0) z];rw[List.getElem?_drop,<-G,List.getElem?_take]at o;split at o
     ·simpa using o
     ·cases o)
   (λu hu=>Hq l u (fp hu)) (by omega) (by rw[Pa,H,X];omega)
  rw[k,hA1,show i+(n-(i+2))=n-2 from by omega,X];rfl
 have Z:(w.drew.setRow g Q).heap[g]?=S (.cells Q 207 (0,0)):=setRow_heap w.drew g F _ 207 _ z;have f:∀ty c,(Builtin.clear_ #[186] ty #[L (S ⟨g,(n-2)*3,N⟩) 2 c]).run prog (w.drew.setRow g Q)=.ok (T #[]) ((w.drew.setRow g Q).setRow g p):=λty c=>by
  rw[Jc _ ty g ((n-2)*3) c Q Z (by omega),hA2];rfl
 have Ab:prog.follows Departure.mixedOrders=true:=by kernel_rfl
 have z0:(0:Int)<=(i:Int)+2:=by omega
 have z1:((i:Int)==(i:Int)+2)=false:=by simp;omega
 have z2:(i:Int)+2<=(n:Int):=by omega
 have z3:(i:Int)<=(i:Int)+2:=by omega
 have z4:¬D=n-2:=by omega
 have z5:n-(n-2)=2:=by omega
 have z6:((n-2:Nat):Int)<=(n:Int):=by omega
 have z7:(n:Int)<=(D:Int):=by omega
 have z8:(i:Int)<=(D:Int):=by omega
 have z9:((i:Int)+2).toNat=i+2:=by omega
 have m:=Zh (show((w.drew.setRow g Q).setRow g p).ownsRow 0 207 3 (L (S ⟨g,0,N⟩) (n-2) D) (n-2) ((Ad l).take (i*3)++(Ad l).drop ((i+2)*3))/\AD (λk=>k=g) w ((w.drew.setRow g Q).setRow g p)from by
  refine⟨⟨?_,.inr ⟨g,D,p,rfl,aw _,setRow_heap _ g Q _ 207 _ Z,by omega,b,by rw[s2,d],?_⟩⟩,⟨rfl,rfl,rfl,?_,λk hk hn=> ?_⟩⟩
  ·simp only[V0,Q0,Pa,H];omega
  ·rw[hA2,hA1];exact SZ F n i _ G H AA (by omega)
  ·rw[size_setRow,size_setRow];exact E _
  ·rw[setRow_other _ g k p hn];exact setRow_other w.drew g k Q hn)
 by_cases hc:D=i+2
 ·have r:n=i+2:=by omega
  have K :=λty=>Y ty 0 ⟨g,0,N⟩ (.inl r);have e1:i+2-2=i:=rfl;have e2:i+2-(i+2)=0:=Nat.sub_self _;clear Y Z d G hA1 hA2 s1 s2 z H hl hi s X q;subst hc;subst r;rw[e1]at m f⊢;rw[e1,e2]at K;clear z4 z5 z6 z7 e1 e2;go_enter func352,ntmps352;go_wp2_with fail;go_region_law_o (refine CB rfl _ _ 186 186 rfl _ _ (by simp[fa,NW]) (by simp[fa,NW]) (K _) ?_);go_wp2_with(at_builtin;refine CA _ rfl _ _ rfl _ rfl _ _ (f _ _) ?_);go_ret;exact⟨rfl,m.out⟩
 ·have K :=λty=>Y ty (D-(i+2)) _ (.inr rfl);clear Y Z d G hA1 hA2 s1 s2 z H hl hi s X q;go_enter func352,ntmps352;go_wp2_with fail;go_region_law_o (refine CB rfl _ _ 186 186 rfl _ _ (by simp[fa,NW]) (by simp[fa,NW]) (K _) ?_);go_wp2_with(at_builtin;refine CA _ rfl _ _ rfl _ rfl _ _ (f _ _) ?_);go_ret;exact⟨rfl,m.out⟩
def X8(x y:Af):Int:=if x.2.1<y.2.1 then-1 else if x.2.1=y.2.1 then(if x.2.2<y.2.2 then-1 else if x.2.2=y.2.2 then 0 else 1)else 1
theorem Jd(x y:Af)(w):
  C prog 107 #[.agg #[I U x.1,I J x.2.1,I J x.2.2],.agg #[I U y.1,I J y.2.1,I J y.2.2]] w λe w' =>e=R (I J (X8 x y))/\B w.heap.size w w' :=by
 obtain⟨n,a,b⟩:=x;obtain⟨m,c,d⟩:=y;unfold X8;have A:B w.heap.size w ((w.alloc (.cells #[I U n,I J a,I J b] 207)).alloc (.cells #[I U m,I J c,I J d] 207)):=(Za).alloc (by simp) _;have K:=Zh A;clear A;by_cases D:a<c
 ·rw[if_pos D];have f1:decide (a<c)=true:=by simp[D]
  clear D;go_enter func107,ntmps107;go_wp2_with fail;go_ret;exact⟨rfl,K.out⟩
 ·rw[if_neg D];have f1:decide (a<c)=false:=by simp[D]
  by_cases F:a=c
  ·rw[if_pos F];have Q:(a==c)=true:=by simp[F]
   clear D F;by_cases H:b<d
   ·rw[if_pos H];have Y:decide (b<d)=true:=by simp[H]
    clear H;go_enter func107,ntmps107;go_wp2_with fail;go_ret;exact⟨rfl,K.out⟩
   ·rw[if_neg H];have Y:decide (b<d)=false:=by simp[H]
    clear H;by_cases G:b=d
    ·rw[if_pos G];have X:(b==d)=true:=by simp[G]
     clear G;go_enter func107,ntmps107;go_wp2_with fail;go_ret;exact⟨rfl,K.out⟩
    ·rw[if_neg G];have X:(b==d)=false:=by simp[G]
     clear G;go_enter func107,ntmps107;go_wp2_with fail;go_ret;exact⟨rfl,K.out⟩
  ·rw[if_neg F];have Q:(a==c)=false:=by simp[F]
   clear D F;go_enter func107,ntmps107;go_wp2_with fail;go_ret;exact⟨rfl,K.out⟩
theorem Bq{w:W}{B g n F:Nat}{l:List Af}(h:w.ownsRow B 207 3 (L (S ⟨g,0,N⟩) n F) n (Ad l))(K:n=l.length)(i:Nat)(hi:i<l.length):
  w.cell? ⟨g,i*3,N⟩=S (I U ((l[i]'hi).1:Int))/\w.cell? ⟨g,i*3+1,N⟩=S (I J (l[i]'hi).2.1)/\w.cell? ⟨g,i*3+2,N⟩=S (I J (l[i]'hi).2.2):=by
 subst K;have e:=λj (H:j<3)=>SN Fu l i j hi H;have G:=h.cellAt (i*3+0) (by omega);have D:=h.cellAt (i*3+1) (by omega);have A:=h.cellAt (i*3+2) (by omega);unfold Ad at G D A;rw[e 0 (by omega)]at G;rw[e 1 (by omega)]at D;rw[e 2 (by omega)]at A;exact⟨G,D,A⟩
structure QU(w:World)(x:Af)(W:World):Prop where
 below:B w.heap.size w W
 box:AI W w.heap.size #[I U x.1,I J x.2.1,I J x.2.2] 207
theorem QU.next{w W W'}{x:Af}(h:QU w x W)(b:B W.heap.size W W'):QU w x W' :=⟨h.below.trans (b.mono h.below.size),h.box.below b h.box.lt⟩
theorem QU.drew{w W}{x:Af}(h:QU w x W):QU w x W.drew:=h.next (B.refl _ _).drew
theorem QU.start(w)(x:Af):QU w x (w.alloc (.cells #[I U x.1,I J x.2.1,I J x.2.2] 207)):=⟨Za,AI.newAt rfl⟩
theorem QU.cells{w W}{x:Af}(h:QU w x W):W.cell? ⟨w.heap.size,0,N⟩=S (I U x.1)/\W.cell? ⟨w.heap.size,1,N⟩=S (I J x.2.1)/\W.cell? ⟨w.heap.size,2,N⟩=S (I J x.2.2):=⟨h.box.cell rfl,h.box.cell rfl,h.box.cell rfl⟩
theorem QU.old{w W}{x:Af}(h:QU w x W){g}(A:g<w.heap.size)(o):W.cell? ⟨g,o,N⟩=w.cell? ⟨g,o,N⟩:=h.below.cell (p:=⟨g,o,N⟩) A
theorem QV(x:Af)(w):
  C prog 353 #[L N 0 0,.agg #[I U x.1,I J x.2.1,I J x.2.2],.func (.func 107) #[] #[]] w λe w' =>e=R (T #[I J 0,.bool false])/\B w.heap.size w w' :=by
 have A:=Zh (QU.start w x);go_enter func353,ntmps353;go_wp2;refine wp_loop_rounds 1 ?_;rw[rounds_succ];go_wp2_with fail;go_quiet(fail);go_wp2_with fail;go_ret2;exact⟨rfl,A.out.below.trans ⟨rfl,rfl,rfl,E _,λ_ _=>rfl⟩⟩
def VG(n:Nat)(w:W)(e:Ending)(w' :W):Prop:=∃(p:Nat) (is:Bool),e=R (T #[I J p,.bool is])/\p<=n/\(is=true->p<n)/\B w.heap.size w w'
theorem QW(w B g e)(l:List Af)(x:Af)(h:w.ownsRow B 207 3 (L (S ⟨g,0,N⟩) l.length e) l.length (Ad l))(X:l.length<=1000000):
  Calls prog 353 #[L (S ⟨g,0,N⟩) l.length e,.agg #[I U x.1,I J x.2.1,I J x.2.2],.func (.func 107) #[] #[]] w (VG l.length w):=by
 have Hc:=Zh (λi hi=>Bq h rfl i hi);have K:g<w.heap.size:=(h.lt g rfl).2;obtain⟨n,p⟩:∃n,n=l.length:=⟨_,rfl⟩;have u:=Zh p;have H0:=Zh (QU.start w x);rw[<-p]at X⊢;clear h p;go_enter func353,ntmps353;go_wp2;go_loopg [9,10] n (λk a b wr=>∃lo hi:Nat,a=I J lo/\b=I J hi/\lo<=hi/\hi<=n/\hi-lo<=k/\QU w x wr);case atStart=>exact⟨0,n,rfl,rfl,aw _,E _,by omega,H0.out⟩
 case round=>
  clear H0;obtain⟨lo,hi,rfl,rfl,h1,h2,h3,hB⟩:=hrel;have s:=Zh hB;clear hB;by_cases AA:lo<hi
  ·have F:(lo+hi)/2<l.length:=by rw[<-u.out];omega
   obtain⟨m,H⟩:∃m,m=(lo+hi)/2:=⟨_,rfl⟩;rw[<-H]at F;obtain⟨d,j,Z⟩:=Hc.out m F;have D:=λW=>Jd (l[m]'F) x W;obtain⟨y,o⟩:∃y,y=l[m]'F:=⟨_,rfl⟩;rw[<-o]at d j Z D;have e1:((lo:Int)+(hi:Int))/2=(m:Int):=by omega
   have e2:(lo:Int)<(hi:Int):=by omega
   have m1:m<n:=by omega
   have q:=Zh H;clear H o;obtain⟨z,Y⟩:∃z,z=X8 y x:=⟨_,rfl⟩;rw[<-Y]at D;clear Y;go_upto_region 5 with fail;refine AG (C:=QU w x) (by kernel_rfl) (by kernel_rfl) s.out.drew ?_;repeat go_big_quiet_step(exact λ_=>rfl)
   go_big_quiet_want;refine⟨.agg #[I U y.1,I J y.2.1,I J y.2.2],λG A=> ?_,?_⟩
   ·have c:=A.old K (m*3);have f:=A.old K (m*3+1);have Q:=A.old K (m*3+2);rw[d]at c;rw[j]at f;rw[Z]at Q;go_simp
   go_big_quiet_on;simp only[NW,Zp,Zq,Zr];repeat go_big_quiet_step(exact λ_=>rfl)
   go_big_quiet_want;refine⟨.agg #[I U x.1,I J x.2.1,I J x.2.2],λG A=> ?_,?_⟩
   ·obtain⟨c,f,Q⟩:=A.cells;go_simp
   go_big_quiet_on;simp only[NW,Zp,Zq,Zr];repeat go_big_quiet_step(exact λ_=>rfl)
   go_big_quiet_want;go_big_quiet_op;refine⟨I J z,λG A=> ?_,?_⟩
   ·exact(D G).mono λ_ _ F=>⟨F.1,A.next F.2⟩
   go_big_quiet_on;repeat go_big_quiet_step(exact λ_=>rfl)
   refine wpQuiet_nil ?_;intro w1 r;by_cases Aa:z<0
   ·go_wp2_with fail;go_roundg (hi-(m+1));case measure=>have:=q.out;omega
    case rel=>exact⟨m+1,hi,by go_num,rfl,by have:=q.out;omega,h2,E _,r⟩
   ·go_wp2_with fail;go_roundg (m-lo);case measure=>have:=q.out;omega
    case rel=>exact⟨lo,m,rfl,rfl,by have:=q.out;omega,by omega,E _,r⟩
  ·have e2:¬(lo:Int)<(hi:Int):=by omega
   by_cases p:lo<n
   ·have F:lo<l.length:=by rw[<-u.out];omega
    obtain⟨d,j,Z⟩:=Hc.out lo F;have D:=λW=>Jd (l[lo]'F) x W;obtain⟨y,o⟩:∃y,y=l[lo]'F:=⟨_,rfl⟩;rw[<-o]at d j Z D;obtain⟨z,Y⟩:∃z,z=X8 y x:=⟨_,rfl⟩;rw[<-Y]at D;have g2:decide ((lo:Int)<(n:Int))=true:=by simp;omega
    clear Y o F;go_upto_region 8 with fail;refine AG (C:=QU w x) (by kernel_rfl) (by kernel_rfl) s.out.drew ?_;repeat go_big_quiet_step(exact λ_=>rfl)
    go_big_quiet_want;refine⟨.agg #[I U y.1,I J y.2.1,I J y.2.2],λG A=> ?_,?_⟩
    ·have c:=A.old K (lo*3);have f:=A.old K (lo*3+1);have Q:=A.old K (lo*3+2);rw[d]at c;rw[j]at f;rw[Z]at Q;go_simp
    go_big_quiet_on;simp only[NW,Zp,Zq,Zr];repeat go_big_quiet_step(exact λ_=>rfl)
    go_big_quiet_want;refine⟨.agg #[I U x.1,I J x.2.1,I J x.2.2],λG A=> ?_,?_⟩
    ·obtain⟨c,f,Q⟩:=A.cells;go_simp
    go_big_quiet_on;simp only[NW,Zp,Zq,Zr];repeat go_big_quiet_step(exact λ_=>rfl)
    go_big_quiet_want;go_big_quiet_op;refine⟨I J z,λG A=> ?_,?_⟩
    ·exact(D G).mono λ_ _ F=>⟨F.1,A.next F.2⟩
    go_big_quiet_on;repeat go_big_quiet_step(exact λ_=>rfl)
    refine wpQuiet_nil ?_;intro w1 r;go_wp2_with fail;go_ret2;exact⟨lo,_,rfl,by omega,λ_=>p,r.below⟩
   ·have g2:decide ((lo:Int)<(n:Int))=false:=by simp;omega
    go_wp2_with fail;go_quiet(fail);go_wp2_with fail;go_ret2;exact⟨lo,false,rfl,by omega,(λh=>by cases h),s.out.below.trans ⟨rfl,rfl,rfl,E _,λ_ _=>rfl⟩⟩
theorem QX(w B v)(l:List Af)(x:Af)(h:w.ownsRow B 207 3 v l.length (Ad l))(A:l.length<=1000000):
  C prog 353 #[v,.agg #[I U x.1,I J x.2.1,I J x.2.2],.func (.func 107) #[] #[]] w (VG l.length w):=by
 rcases AH h with⟨rfl,H,_⟩|⟨g,D,rfl,_,_,_,K⟩
 ·obtain rfl:l=[]:=List.eq_nil_of_length_eq_zero H;exact(QV x w).mono λe w' ⟨G,F⟩=>⟨0,false,G,E _,λh=>(by cases h),F⟩
 ·exact QW w B g D l x h A
theorem Mz:prog.fieldsOf 103= #[{name:= "Hi",type:=23,offset:=0,embedded:=false,tag:= "",pkgPath:= "",byteOffset:=0},{name:= "Lo",type:=23,offset:=1,embedded:=false,tag:= "",pkgPath:= "",byteOffset:=8}]:=by
 unfold Program.fieldsOf;rw[underlying103]
theorem X9:prog.eqGuardType prog.depth 103=false:=by kernel_rfl
theorem YA:prog.stoodInHeld 103=false:=by kernel_rfl
theorem dA(w a b c d):(binOp .eql 103 (.agg #[I U a,I U b]) (.agg #[I U c,I U d])).run prog w=.ok (.bool ((a==c)&&(b==d))) w:=by
 have A:prog.underlying 103=S (.struct (prog.fieldsOf 103)):=by rw[Mz,underlying103]
 have G:=λw=>isAgg23 w;rw[run_eql_struct,show(10000:Nat)=9999+1 from rfl,run_equalIn_agg w 9999 103 _ _ A YA,Mz];simp[Op.eqFields,part,G,run_equalIn_int (P:=prog) _ 9998 23 U U _ _ underlying23];by_cases F:a=c<;>by_cases D:b=d<;>simp[F,D]
theorem QY(a b c d w):
  C prog 355 #[.agg #[I U a,I U b],.agg #[I U c,I U d]] w λe w' =>e=R (I J (Wd.cmpD a b c d))/\B w.heap.size w w' :=by
 have H:=Zh (show B w.heap.size w ((w.alloc (.cells #[I U a,I U b] 103)).alloc (.cells #[I U c,I U d] 103))from(Za).alloc (by simp) _);have Q:=λw=>dA w a b c d;have Z:=X9;by_cases A:a=c
 ·have f1:(a==c)=true:=by simp[A]
  have Y:decide (a<c)=false:=by simp[A]
  by_cases G:b=d
  ·have K:(b==d)=true:=by simp[G]
   have D:Wd.cmpD a b c d=0:=by unfold Wd.cmpD Wd.lessB;rw[if_pos A];simp[A,G]
   rw[D];rw[f1,K]at Q;clear D A G f1 Y K;go_enter func355,ntmps355;go_wp2_with fail;go_ret;exact⟨rfl,H.out⟩
  ·have K:(b==d)=false:=by simp[G]
   rw[f1,K]at Q;by_cases F:b<d
   ·have X:decide (b<d)=true:=by simp[F]
    have D:Wd.cmpD a b c d= -1:=by unfold Wd.cmpD Wd.lessB;rw[if_pos A];simp[F]
    rw[D];clear D A G F;go_enter func355,ntmps355;go_wp2_with fail;go_ret;exact⟨rfl,H.out⟩
   ·have X:decide (b<d)=false:=by simp[F]
    have D:Wd.cmpD a b c d=1:=by unfold Wd.cmpD Wd.lessB;rw[if_pos A];simp[F,G]
    rw[D];clear D A G F;go_enter func355,ntmps355;go_wp2_with fail;go_ret;exact⟨rfl,H.out⟩
 ·have f1:(a==c)=false:=by simp[A]
  rw[f1]at Q;by_cases F:a<c
  ·have X:decide (a<c)=true:=by simp[F]
   have D:Wd.cmpD a b c d= -1:=by unfold Wd.cmpD Wd.lessB;rw[if_neg A];simp[F]
   rw[D];clear D A F;go_enter func355,ntmps355;go_wp2_with fail;go_ret;exact⟨rfl,H.out⟩
  ·have X:decide (a<c)=false:=by simp[F]
   have D:Wd.cmpD a b c d=1:=by unfold Wd.cmpD Wd.lessB;rw[if_neg A];simp[F,A]
   rw[D];clear D A F;go_enter func355,ntmps355;go_wp2_with fail;go_ret;exact⟨rfl,H.out⟩
def OW(x:Int):Prop:=0<=x/\x<=18446744073709551615
theorem OW.wrap(x):OW (U.wrap x):=by rw[fj];unfold OW;omega
structure Wj(w:World)(a b c d:Int)(W:World):Prop where
 p:AI W w.heap.size #[I U a,I U b] 25
 q:AI W (w.heap.size+1) #[I U c,I U d] 25
 below:B w.heap.size w W
theorem Wj.next{w W W' a b c d}(h:Wj w a b c d W)(k:B W.heap.size W W'):Wj w a b c d W' :=⟨h.p.below k h.p.lt,h.q.below k h.q.lt,h.below.trans (k.mono h.below.size)⟩
theorem Wj.drew{w W a b c d}(h:Wj w a b c d W):Wj w a b c d W.drew:=h.next (B.refl _ _).drew
theorem Wj.cells{w W a b c d}(h:Wj w a b c d W):W.cell? ⟨w.heap.size,0,N⟩=S (I U a)/\W.cell? ⟨w.heap.size,1,N⟩=S (I U b)/\W.cell? ⟨w.heap.size+1,0,N⟩=S (I U c)/\W.cell? ⟨w.heap.size+1,1,N⟩=S (I U d):=⟨h.p.cell rfl,h.p.cell rfl,h.q.cell rfl,h.q.cell rfl⟩
theorem Wj.start(w a b c d):Wj w a b c d ((w.alloc (.cells #[I U a,I U b] 25)).alloc (.cells #[I U c,I U d] 25)):=
 ⟨AI.alloc (AI.newAt rfl) _,AI.newAt (by simp),(Za).alloc (by simp) _⟩
theorem VH(a b c d)(m:OW a)(f:OW b)(n:OW c)(K:OW d)(w):
  Calls prog 351 #[.agg #[I U a,I U b],.agg #[I U c,I U d]] w λe w' =>∃r:Bool,e=R (.bool r)/\B w.heap.size w w' :=by
 have Y:=Zh (Wj.start w a b c d);by_cases G:b=0
 ·have f1:(b==0)=true:=by simp[G]
  clear G;go_enter func351,ntmps351;go_wp2_with fail;go_ret;exact⟨false,rfl,Y.out.below⟩
 ·have f1:(b==0)=false:=by simp[G]
  by_cases H:d=0
  ·have p:(d==0)=true:=by simp[H]
   clear G H;go_enter func351,ntmps351;go_wp2_with fail;go_ret;exact⟨true,rfl,Y.out.below⟩
  ·have p:(d==0)=false:=by simp[H]
   clear G H;have i:=λW=>Wd.times_any a d W m.1 m.2 K.1 K.2;have j:=λW=>Wd.times_any c b W n.1 n.2 f.1 f.2;have Z:=λW=>QY (Wd.hiD a d) (Wd.loD a d) (Wd.hiD c b) (Wd.loD c b) W;generalize Wd.hiD a d=p1 at*;generalize Wd.loD a d=p2 at*;generalize Wd.hiD c b=q1 at*;generalize Wd.loD c b=q2 at*;generalize Wd.cmpD p1 p2 q1 q2=z at*;clear m f n K;go_enter func351,ntmps351;go_upto_region 5 with fail;refine AG (C:=Wj w a b c d) (by kernel_rfl) (by kernel_rfl) Y.out.drew ?_;repeat go_big_quiet_step(exact λ_=>rfl)
   go_big_quiet_want;refine⟨I U a,λD A=> ?_,?_⟩
   ·obtain⟨h,g,Q,X⟩:=A.cells;go_simp
   go_big_quiet_on;simp only[NW,Zp,Zq,Zr];repeat go_big_quiet_step(exact λ_=>rfl)
   go_big_quiet_want;refine⟨I U d,λD A=> ?_,?_⟩
   ·obtain⟨h,g,Q,X⟩:=A.cells;go_simp
   go_big_quiet_on;simp only[NW,Zp,Zq,Zr];repeat go_big_quiet_step(exact λ_=>rfl)
   go_big_quiet_want;go_big_quiet_op;refine⟨.agg #[I U p1,I U p2],λD A=> ?_,?_⟩
   ·exact(i D).mono λ_ _ F=>⟨F.1,A.next F.2⟩
   go_big_quiet_on;repeat go_big_quiet_step(exact λ_=>rfl)
   go_big_quiet_want;refine⟨I U c,λD A=> ?_,?_⟩
   ·obtain⟨h,g,Q,X⟩:=A.cells;go_simp
   go_big_quiet_on;simp only[NW,Zp,Zq,Zr];repeat go_big_quiet_step(exact λ_=>rfl)
   go_big_quiet_want;refine⟨I U b,λD A=> ?_,?_⟩
   ·obtain⟨h,g,Q,X⟩:=A.cells;go_simp
   go_big_quiet_on;simp only[NW,Zp,Zq,Zr];repeat go_big_quiet_step(exact λ_=>rfl)
   go_big_quiet_want;go_big_quiet_op;refine⟨.agg #[I U q1,I U q2],λD A=> ?_,?_⟩
   ·exact(j D).mono λ_ _ F=>⟨F.1,A.next F.2⟩
   go_big_quiet_on;repeat go_big_quiet_step(exact λ_=>rfl)
   go_big_quiet_want;go_big_quiet_op;refine⟨I J z,λD A=> ?_,?_⟩
   ·exact(Z D).mono λ_ _ F=>⟨F.1,A.next F.2⟩
   go_big_quiet_on;repeat go_big_quiet_step(exact λ_=>rfl)
   refine wpQuiet_nil ?_;intro q o;go_wp2_with fail;go_ret;exact⟨_,rfl,o.below⟩
open Go
section
variable {P:Program} {ops:Array Oper} {md:Region.Mode} {C:W->Prop}
def FO(md:Region.Mode)(ops:Array Oper)(n:Nat):Bool:=(gh ops.size).all λt=>decide (t<=n)||(gh t).any λj=>decide (n<=j)&&Region.waitsFor md ops t j
theorem KE{n}{A:Array Bool}(hs:Region.sinkB md ops n=true)(hc:FO md ops n=true)(hn:n<ops.size)(H:HeadInv md ops n A):
  ∀(d i:Nat),n-i=d->i<n->A.getD i true=false->∀t,n<=t->t∉Region.ready md ops A:=by
 intro d;induction d using Nat.strongRecOn with
 |_ d ih=>
  intro i hd hi a t ht q;obtain⟨_,u,K,G⟩:=mem_ready.1 q;have Y:t<ops.size:=(Array.getElem?_eq_some_iff.1 K).1;by_cases h:t=n
  ·subst h;have Q:=List.all_eq_true.1 hs i (List.mem_range.2 hi);obtain⟨j,o,b⟩:=List.any_eq_true.1 Q;simp only[fy,decide_eq_true_eq]at b;obtain⟨z,Z,e,f,c,F⟩:=Region.waitsFor_spec b.2;have s:j<=t:=by have:=List.mem_range.1 o;omega
   by_cases X:j=t
   ·subst X;have:z=u:=dT (Z.symm.trans K);subst this;have D:=G e f c;rw[F,getD_both a]at D;cases D
   ·cases p:A.getD j false with
    |true=>
     have D:=H.closed j z Z p e f c;rw[F,getD_both a]at D;cases D
    |false=>
     have g:j<A.size:=by rw[H.size];omega
     exact ih (t-j) (by omega) j rfl (by omega) (getD_in g p) t (E _) q
  ·have Q:=List.all_eq_true.1 hc t (List.mem_range.2 Y);simp only[Bool.or_eq_true,decide_eq_true_eq]at Q;rcases Q with Q|Q
   ·omega
   ·obtain⟨j,o,D⟩:=List.any_eq_true.1 Q;simp only[fy,decide_eq_true_eq]at D;have X:=List.mem_range.1 o;obtain⟨o',m,e,f,c,F⟩:=Region.waitsFor_spec D.2;have:o' =u:=dT (m.symm.trans K);subst this;have r:=G e f c;rw[F,getD_both (H.tail j D.1 (by omega))]at r;cases r
theorem OX{n i oi v}{L:Array Bool->Act->Prop}(hi:ops[i]?=S oi)(X:∀(j:Nat) (o:Oper) p b,ops[j]?=S o->o.op≠ .select p b)
  (hs:Region.sinkB md ops n=true)(hc:FO md ops n=true)(hn:n<ops.size)(u:i<n)(d:∀s a,L s a->∀j∈Region.ready md ops s,n<=j):
  ∀(f:Nat) (s:Array Bool) (a:Act),HeadInv md ops n s->
   (∀j g,ops[j]?=S g->j≠i->s.getD j true=false->(∀e∈g.after,Region.binds md e=true->e.on≠i)->oi.apart ops g=true)->
   i∈Region.ready md ops s->YieldsIn P ops C oi v a->Gp P md ops C n L f (s.setIfInBounds i true) (a.put oi.dst v)->Gp P md ops C n L (f+1) s a:=by
 intro f;induction f with
 |zero=>
  intro s a G _ Y hy H;have K:=(mem_ready.1 Y).1;refine⟨λh=>(by rw[h]at Y;cases Y),λj Z=> ?_⟩;have F:j<n:=gi λh=>KE hs hc hn G _ i rfl u K j h Z;refine⟨F,?_⟩;by_cases A:j=i
  ·subst A;exact hy.qOp hi H
  ·have:=d _ _ H j (ready_mono Z A);omega
 |succ f ih=>
  intro s a G D Y hy H;have K:=(mem_ready.1 Y).1;refine⟨λh=>(by rw[h]at Y;cases Y),λj Z=> ?_⟩;have F:j<n:=gi λh=>KE hs hc hn G _ i rfl u K j h Z;refine⟨F,?_⟩;by_cases A:j=i
  ·subst A;exact hy.qOp hi H
  ·obtain⟨Q,g,c,z⟩:=mem_ready.1 Z;have m:∀e∈g.after,Region.binds md e=true->e.on≠i:=λe he hb AA=>by
    have h1:=z e he hb;rw[AA,getD_both K]at h1;cases h1
   have h2:=qOp_put c (D j g c A Q m) (λp b=>X i oi p b hi) (λp b=>X j g p b c) hy (H.2 j (ready_mono Z A)).2;refine qOp_mono (λa' h3=>ih (s.setIfInBounds j true) a' (G.set Z F) (λk ok hk Ab r Aa=>D k ok hk Ab ?_ Aa) (ready_mono Y (Ne.symm A)) h3.1 ?_) h2
   ·by_cases q:j=k
    ·subst q;exact Q
    ·rw[getD_set_ne true q]at r;exact r
   ·rw[Array.setIfInBounds_comm _ _ A];exact h3.2
def Ep(md:Region.Mode)(ops:Array Oper)(n:Nat):Nat->Nat->Array Bool->Bool
 |0,_,s=>(Region.ready md ops s).all λj=>decide (n<=j)
 |f+1,k,s=>(Region.ready md ops s).contains k&&Region.free md ops s k&&Ep md ops n f (k+1) (s.setIfInBounds k true)
def QZ:Nat->Nat->Array Bool->Array Bool
 |0,_,s=>s
 |f+1,k,s=>QZ f (k+1) (s.setIfInBounds k true)
theorem Sa{n}{A:Act->Prop}(D:Region.noSelect ops=true)(i:Region.sinkB md ops n=true)(u:FO md ops n=true)(m:n<ops.size):
  ∀(l:List Oper) (k:Nat) (s:Array Bool) (a:Act),(∀j,j<l.length->l[j]?=ops[k+j]?)->k+l.length=n->HeadInv md ops n s->
  Ep md ops n l.length k s=true->wpQuiet P ops C A l a->Gp P md ops C n (λQ d =>(Q =QZ l.length k s/\(Region.ready md ops Q).all (λj=>decide (n<=j))=true)/\A d) l.length s a:=by
 intro l;induction l with
 |nil=>
  intro k s a _ b _ K h;exact⟨⟨rfl,K⟩,h⟩
 |cons o l p=>
  intro k s a Z b G K h;have H:ops[k]?=S o:=by simpa using(Z 0 (by simp)).symm
  simp only[bh,Ep,fy]at K;obtain⟨⟨g,e⟩,X⟩:=K;simp only[bh]at b;have F :k∈Region.ready md ops s:=by simpa using g
  have Y:qOp P ops C k (wpQuiet P ops C A l) a:=by unfold qOp;simp only[H];exact h
  obtain⟨v,f,r⟩:=yieldsIn_of_qOp H Y;refine OX H (Region.noSelect_spec D) i u m (by omega) (λQ d q j c=> ?_) l.length s a G (Region.free_spec H e) F f ?_
  ·have:=List.all_eq_true.1 q.1.2 j c;simpa using this
  exact p (k+1) _ _ (λj c=>by have:=Z (j+1) (by simp;omega);simpa[Nat.add_assoc,Nat.add_comm 1 j]using this) (by omega) (G.set F (by omega)) X r
def cD(md:Region.Mode)(ops:Array Oper)(n:Nat):Bool:=Region.noSelect ops&&decide (n<ops.size)&&Region.sinkB md ops n&&FO md ops n&&Ep md ops n n 0 (gV ops.size false)
theorem Gv{id Q a w}{l:List Oper}(n g)(p:P.follows .mixedOrders=true)(d:cD .any l.toArray n=true)(o:n+g=l.length)(f:C w.drew)
  (h:wpQuiet P l.toArray C (λc =>∀w',C w' ->wpAny P .any l.toArray Q g (QZ n 0 (gV l.length false)) c w') (l.take n) a):(Code.region id l.toArray true).wp P Q a w:=by
 simp only[cD,fy,decide_eq_true_eq]at d;obtain⟨⟨⟨⟨D,Z⟩,m⟩,u⟩,G⟩:=d;have e :n<l.length:=by simpa using Z
 have A:(l.take n).length=n:=by simp;omega
 have F:HeadInv .any l.toArray n (gV l.toArray.size false):=
  ⟨by simp,λj z _ Y=>(by rw[getD_replicate_false]at Y;cases Y),λt _ i=>getD_in (by simpa using i) (getD_replicate_false _ _)⟩
 have H:=Sa (md:=.any) D m u Z (l.take n) 0 _ a (λj b=>by
  have X :j<n:=by rw[A]at b;exact b
  simp[X]) (by simpa using A) F (by rw[A];exact G) h
 refine wp_region_any p ?_;have k:=F6 (Q:=Q) (g:=g) (λs c w' K r=>by
  obtain⟨⟨rfl,_⟩,q⟩:=r;have:=q w' K;rw[A];simpa using this) _ _ _ _ f H
 rw[A,o,show l.length=l.toArray.size from by simp]at k;exact k
end
def Bl:List Af->Nat
 | []=>0
 |x::l=>x.1+Bl l
theorem EM(l m:List Af):Bl (l++m)=Bl l+Bl m:=by
 induction l with
 |nil=>simp[Bl]
 |cons x l A=>simp only[List.cons_append,Bl,A];omega
theorem Gw{l:List Af}{x:Af}(h:x∈l):x.1<=Bl l:=by
 induction l with
 |nil=>cases h
 |cons y l A=>
  simp only[Bl];rcases List.mem_cons.1 h with rfl|h
  ·omega
  ·have:=A h;omega
theorem Fv(l:List Af)(p):Bl (l.take p)+Bl (l.drop p)=Bl l:=by rw[<-EM,List.take_append_drop]
theorem YB(l:List Af)(p)(x:Af)(h:p<l.length):Bl (l.set p x)+(l[p]'h).1=Bl l+x.1:=by
 have A:=Fv l p;rw[<-gW h]at A;rw[JZ l p x h,EM];simp only[Bl]at A⊢;omega
structure I3(most:Nat)(w:W)(sb:Nat)(v:V)(l:List Af)(t:Nat):Prop where
 blk:AI w sb #[I J most,v,I U t] 188
 own:w.ownsRow 0 207 3 v l.length (Ad l)
section
variable {most:Nat} {w w' :W} {sb:Nat} {v:V} {l:List Af} {t:Nat}
theorem I3.ne(h:I3 most w sb v l t):v.ownBlock≠S sb:=λF=>by
 obtain⟨A,D⟩:=AJ h.own F
 exact(h.blk.ne D (by decide)) rfl
theorem I3.next(h:I3 most w sb v l t)(b:B w.heap.size w w'):I3 most w' sb v l t:=⟨h.blk.below b h.blk.lt,AE h.own b λg A=>(h.own.lt g A).2⟩
theorem I3.away{G}(h:I3 most w sb v l t)(a:AD G w w')(A:¬G sb)(D:∀g,v.ownBlock=S g->¬G g):I3 most w' sb v l t:=⟨h.blk.away a A,AU h.own a D⟩
theorem I3.cells(h:I3 most w sb v l t):w.cell? ⟨sb,0,N⟩=S (I J most)/\w.cell? ⟨sb,1,N⟩=S v/\w.cell? ⟨sb,2,N⟩=S (I U t)/\w.frozen? ⟨sb,1,N⟩=false/\w.frozen? ⟨sb,2,N⟩=false/\sb<w.heap.size:=
 ⟨h.blk.cell rfl,h.blk.cell rfl,h.blk.cell rfl,h.blk.frozen 1,h.blk.frozen 2,h.blk.lt⟩
end
theorem YC{most}(w sb v)(l:List Af)(t i)(h:I3 most w sb v l t)(hi:i+1<l.length)(G:l.length<=1000000)(H):
  C prog 350 #[P (S ⟨sb,0,N⟩),I J i,I U H] w λe w' =>∃a b:Int,e=R (.agg #[I U a,I U b])/\OW a/\OW b/\Below w.heap.size w w' :=by
 rcases AH h.own with⟨_,D,_⟩|⟨g,j,Y,Q,F,_,s⟩
 ·omega
 obtain⟨n,D⟩:∃n,n=l.length:=⟨_,rfl⟩;rw[<-D]at Y hi G;subst Y;have K:=h.own;rw[<-D]at K;have m:=(Bq K D i (by omega)).1;have c:=(Bq K D (i+1) (by omega)).1;obtain⟨r,z,q,_,_,Z⟩:=h.cells;generalize(l[i]'(by omega)).1=N0 at m;generalize(l[i+1]'(by omega)).1=N1 at c;have o:(i:Int)<(n:Int):=by omega
 have u:((i+1:Nat):Int)<(n:Int):=by omega
 have z3:J.wrap ((i:Int)+1)=((i+1:Nat):Int):=by rw[bw];omega
 have X:Below w.heap.size w (w.alloc (.cells #[I U 0,I U 0] 25)):=Za;have f:=Zh X;clear h K D Q F X;go_enter func350,ntmps350;go_wp2_with fail;go_quiet(fail);go_wp2_with fail;have u1:=OW.wrap ((N0:Int)+(N1:Int));generalize U.wrap ((N0:Int)+(N1:Int))=A at u1⊢;have u2:=OW.wrap (min H (U.wrap (U.wrap ((t:Int)-H)-A))+1);generalize U.wrap (min H (U.wrap (U.wrap ((t:Int)-H)-A))+1)=B at u2⊢;have d:Below w.heap.size w ((w.alloc (.cells #[I U 0,I U 0] 25)).drewN nq):=f.out.trans ⟨rfl,rfl,rfl,E _,λ_ _=>rfl⟩;exact bodyPost_ret (v:=.agg #[I U A,I U B]) (by simp[results,results350,go_sem]) rfl ⟨A,B,rfl,u1,u2,(d.setCell (p:=⟨w.heap.size,0,N⟩) (E _) _).setCell (p:=⟨w.heap.size,1,N⟩) (E _) _⟩
def Kg(x:Af):Prop:=1<=x.1/\Am x.2.1/\Am x.2.2
def Sb(l:List Af)(x:Af)(l' :List Af):Prop:=Bl l' =Bl l+x.1/\l'.length<=l.length+1/\((∀y∈l,Kg y)->Kg x->∀y∈l',Kg y)
theorem YD(l:List Af)(x:Af)(p)(h:p<l.length):Sb l x (l.set p ((l[p]'h).1+x.1,(l[p]'h).2)):=by
 have F:=YB l p ((l[p]'h).1+x.1,(l[p]'h).2) h;refine⟨by simp only at F;omega,by simp,λD G y A=> ?_⟩;rcases List.mem_or_eq_of_mem_set A with A|rfl
 ·exact D y A
 ·have:=D _ (gQ h);exact⟨by have:=this.1;simp only;omega,this.2⟩
theorem YE(l:List Af)(x:Af)(p)(h:p<=l.length):Sb l x (l.take p++x::l.drop p):=by
 have G:=Fv l p;refine⟨by rw[EM];simp only[Bl];omega,by simp only[V0,Q0,bh,Pa];omega,λD F y A=> ?_⟩;rcases List.mem_append.1 A with A|A
 ·exact D y (gj A)
 ·rcases List.mem_cons.1 A with rfl|A
  ·exact F
  ·exact D y (fp A)
structure KW(most:Nat)(w:World)(sb:Nat)(v:V)(l:List Af)(t:Nat)(x:Af)(v0:V)(W:World):Prop where
 lm:I3 most W sb v l t
 box:AI W w.heap.size #[I U x.1,I J x.2.1,I J x.2.2] 207
 size:w.heap.size<=W.heap.size
 away:AD (λk=>k=sb\/v0.ownBlock=S k) w W
 kin:FA w v0 v
 old:∀g,v.ownBlock=S g->g≠w.heap.size
section
variable {most:Nat} {w W W' :World} {sb:Nat} {v v0:V} {l:List Af} {t:Nat} {x:Af}
theorem KW.start(h:I3 most w sb v l t):KW most w sb v l t x v (w.alloc (.cells #[I U x.1,I J x.2.1,I J x.2.2] 207)):=
 ⟨h.next (Za),AI.newAt rfl,by simp,AD.of_below (Za),.inl rfl,λg A=>by have:=(h.own.lt g A).2;omega⟩
theorem KW.next(h:KW most w sb v l t x v0 W)(b:B W.heap.size W W'):KW most w sb v l t x v0 W' :=
 ⟨h.lm.next b,h.box.below b h.box.lt,ej h.size b.size,h.away.trans' (AD.of_below b) (λ_ _ h=>h) (λ_ _ h=>h),h.kin,h.old⟩
theorem KW.drew(h:KW most w sb v l t x v0 W):KW most w sb v l t x v0 W.drew:=h.next (B.refl _ _).drew
theorem KW.cells(h:KW most w sb v l t x v0 W):(W.cell? ⟨sb,0,N⟩=S (I J most)/\W.cell? ⟨sb,1,N⟩=S v/\W.cell? ⟨sb,2,N⟩=S (I U t)/\W.frozen? ⟨sb,1,N⟩=false/\W.frozen? ⟨sb,2,N⟩=false/\sb<W.heap.size)/\
  W.cell? ⟨w.heap.size,0,N⟩=S (I U x.1)/\W.cell? ⟨w.heap.size,1,N⟩=S (I J x.2.1)/\W.cell? ⟨w.heap.size,2,N⟩=S (I J x.2.2):=⟨h.lm.cells,h.box.cell rfl,h.box.cell rfl,h.box.cell rfl⟩
theorem KW.ne(h:KW most w sb v l t x v0 W):sb≠w.heap.size:=h.lm.blk.ne h.box (by decide)
theorem KW.total(h:KW most w sb v l t x v0 W)(A):KW most w sb v l A x v0 (W.setCell ⟨sb,2,N⟩ (I U (A :Int))):=
 ⟨⟨h.lm.blk.set 2 _,AN h.lm.own ⟨sb,2,N⟩ _ h.lm.ne⟩,h.box.other ⟨sb,2,N⟩ _ (Ne.symm h.ne),by simp;exact h.size,AD.setCell h.away ⟨sb,2,N⟩ _ (.inl (.inl rfl)),h.kin,h.old⟩
theorem KW.turned{g n A}(h:KW most w sb (L (S ⟨g,0,N⟩) n A) l t x v0 W)(Q:n=l.length)(p)(F:p<l.length)(z):KW most w sb (L (S ⟨g,0,N⟩) n A) (l.set p (z,(l[p]'F).2)) t x v0 (W.setCell ⟨g,p*3,N⟩ (I U z)):=by
 have G:sb≠g:=λe=>h.lm.ne (by rw[e];rfl);have D:w.heap.size≠g:=λe=>h.old g rfl e.symm;have K:=h.lm.own;rw[<-Q]at K;obtain⟨H,Y⟩:=K.stored (p*3) (I U z);have e:=Xt Fu l p 0 (z,(l[p]'F).2) (I U z) F (by omega) rfl;rw[Nat.add_zero]at e;refine⟨⟨h.lm.blk.other ⟨g,p*3,N⟩ _ G,?_⟩,h.box.other ⟨g,p*3,N⟩ _ D,by simp;exact h.size,?_,h.kin,h.old⟩
 ·rw[List.length_set,<-Q];unfold Ad at H⊢;rw[<-e];exact H
 ·refine AD.setCell h.away ⟨g,p*3,N⟩ _ ?_;rcases h.kin with k|⟨k,X,Z⟩
  ·exact .inl (.inr k.symm)
  ·right;have:g=k:=by simpa[V.ownBlock]using X
   show w.heap.size<=g;omega
theorem KW.put(h:KW most w sb v l t x v0 W){F A v'}{K :List Af}(a:AD (λk=>v.ownBlock=S k) (W.alloc F) A)(o:A.ownsRow 0 207 3 v' K.length (Ad K))(k:FA (W.alloc F) v v'):
  KW most w sb v' K t x v0 (A.setCell ⟨sb,1,N⟩ v')/\A.cell? ⟨sb,1,N⟩=S v/\A.frozen? ⟨sb,1,N⟩=false:=by
 have G:AI A sb #[I J most,v,I U t] 188:=(h.lm.blk.alloc F).away a h.lm.ne;have Q:=h.box.lt;have Y:=h.lm.blk.lt;have c:=h.size;have Z:AI A w.heap.size #[I U x.1,I J x.2.1,I J x.2.2] 207:=(h.box.alloc F).away a λe=>h.old _ e rfl;have d:W.heap.size<=(W.alloc F).heap.size:=by simp
 have b:v'.ownBlock≠S sb:=λe=>by
  rcases k with k|⟨j,D,k2⟩
  ·exact h.lm.ne (by rw[<-k];exact e)
  ·have:j=sb:=by rw[D]at e;exact dT e
   omega
 refine⟨⟨⟨G.set 1 _,AN o ⟨sb,1,N⟩ _ b⟩,Z.other ⟨sb,1,N⟩ _ (Ne.symm h.ne),by simp;have:=a.size;omega,?_,?_,λg H=> ?_⟩,G.cell rfl,G.frozen 1⟩
 ·have X:AD (λk=>k=sb\/v0.ownBlock=S k) w A:=(h.away.trans' (AD.of_below ((B.refl _ W).alloc (E _) F)) (λ_ _ h=>h) (λ_ _ h=>h)).trans' a (λ_ _ h=>h) λj f e=>by
   rcases h.kin with k|⟨i,D,k2⟩
   ·exact .inr (by rw[<-k];exact e)
   ·have:i=j:=by rw[D]at e;exact dT e
    omega
  exact AD.setCell X ⟨sb,1,N⟩ _ (.inl (.inl rfl))
 ·rcases k with k|⟨j,D,k2⟩
  ·rcases h.kin with q|q
   ·exact .inl (by rw[k,q])
   ·exact .inr (by rw[k];exact q)
  ·exact .inr ⟨j,D,by omega⟩
 ·rcases k with k|⟨j,D,k2⟩
  ·exact h.old g (by rw[<-k];exact H)
  ·have:j=g:=by rw[D]at H;exact dT H
   omega
end
def fZ(most:Nat)(w:W)(sb:Nat)(v:V)(l:List Af)(t:Nat)(x:Af)(e:Ending)(w' :W):Prop:=e=R (T #[])/\∃v' l',I3 most w' sb v' l' (t+x.1)/\Sb l x l' /\AD (λk=>k=sb\/v.ownBlock=S k) w w' /\FA w v v'
theorem OY{most}(w sb v)(l:List Af)(t)(x:Af)(h:I3 most w sb v l t)(Z:l.length<=100000)(hT:Bl l+x.1<=9223372036854775807)(Ap:t+x.1<=9223372036854775807):
  Calls prog 349 #[P (S ⟨sb,0,N⟩),.agg #[I U x.1,I J x.2.1,I J x.2.2]] w (fZ most w sb v l t x):=by
 obtain⟨A,c,rfl⟩:=AF h.own;obtain⟨n,hn⟩:∃n,n=l.length:=⟨_,rfl⟩;rw[<-hn]at h⊢;have H0:=Zh (KW.start (x:=x) h);have X:=Zh (Zi hn hT);have e5:U.wrap ((t:Int)+(x.1:Int))=((t+x.1:Nat):Int):=by rw[fj];omega
 have H:=Zh e5;clear h hn hT e5;go_enter func349,ntmps349;go_upto_region 1 with fail;refine Gv 5 6 (C:=KW most w sb (L A n c) l t x (L A n c)) (by kernel_rfl) (by kernel_rfl) rfl H0.out.drew ?_;clear H0;simp only[List.take_succ_cons,List.take_zero];repeat go_big_quiet_step(exact λ_=>rfl)
 go_big_quiet_want;refine⟨L A n c,λm hx=> ?_,?_⟩
 ·obtain⟨⟨o,q,j,_,_,dl⟩,_⟩:=hx.cells;go_simp
 go_big_quiet_on;simp only[NW,Zp,Zq,Zr];repeat go_big_quiet_step(exact λ_=>rfl)
 go_big_quiet_want;refine⟨.agg #[I U x.1,I J x.2.1,I J x.2.2],λm hx=> ?_,?_⟩
 ·obtain⟨_,o,q,j⟩:=hx.cells;go_simp
 go_big_quiet_on;simp only[NW,Zp,Zq,Zr];repeat go_big_quiet_step(exact λ_=>rfl)
 refine wpQuiet_nil ?_;intro w1 H1;have hs:=QX w1 0 _ l x H1.lm.own (by omega);have s:=Zh H1;clear H1;refine wpAny_ready (rs:=[5]) (by kernel_rfl) (by simp) ?_;refine AllReady.cons rfl (λK hK=> ?_) AllReady.nil;go_simp;refine hs.mono ?_;rintro e w2 ⟨p,is,rfl,hp,f,b2⟩;have Y:=Zh (s.out.next b2);clear hs b2 s;refine hK _ _ ?_;clear hK K;refine wpAny_take (i:=6) (v:= ?_) rfl (by kernel_rfl) (by kernel_rfl) (by kernel_rfl) (λ_ _ _ h=>h) (Or.inl ⟨by kernel_rfl,?_⟩) ?_;rotate_left
 ·intro wz;go_simp;try with_reducible rfl
 simp only[NW,Zp,Zq,Zr];refine wpAny_take (i:=7) (v:= ?_) rfl (by kernel_rfl) (by kernel_rfl) (by kernel_rfl) (λ_ _ _ h=>h) (Or.inl ⟨by kernel_rfl,?_⟩) ?_;rotate_left
 ·intro wz;go_simp;try with_reducible rfl
 simp only[NW,Zp,Zq,Zr];refine wpAny_take (i:=8) (v:= ?_) rfl (by kernel_rfl) (by kernel_rfl) (by kernel_rfl) (λ_ _ _ h=>h) (Or.inl ⟨by kernel_rfl,?_⟩) ?_;rotate_left
 ·intro wz;go_simp;try with_reducible rfl
 simp only[NW,Zp,Zq,Zr];refine wpAny_take (i:=9) (v:= ?_) rfl (by kernel_rfl) (by kernel_rfl) (by kernel_rfl) (λ_ _ _ h=>h) (Or.inl ⟨by kernel_rfl,?_⟩) ?_;rotate_left
 ·intro wz;go_simp;try with_reducible rfl
 simp only[NW,Zp,Zq,Zr];refine wpAny_take (i:=10) (v:= ?_) rfl (by kernel_rfl) (by kernel_rfl) (by kernel_rfl) (λ_ _ _ h=>h) (Or.inl ⟨by kernel_rfl,?_⟩) ?_;rotate_left
 ·intro wz;go_simp;try with_reducible rfl
 simp only[NW,Zp,Zq,Zr];refine wpAny_done (by kernel_rfl) ?_ _;cases is with
 |true=>
  have Ab:=f rfl;have G:p<l.length:=Ab;clear hp f;go_upto_region 3 with fail;go_cut [15]from 16 to 28 (λ_ m=>∃v' b,KW most w sb v' b t x (L A n c) m/\Sb l x b);case first=>
   have a:=Y.out.lm.own;rcases AH a with⟨_,Ar,_⟩|⟨g,Av,hv,_,_,_,hg⟩
   ·have:=X.out.1;omega
   simp only[L.injEq]at hv;obtain⟨rfl,_,rfl⟩:=hv;rw[<-X.out.1]at a;have p0:=(Bq a X.out.1 p G).1;have f0:=a.frozenAt (p*3);obtain⟨⟨o,q,j,d3,d4,dl⟩,q0,q1,q2⟩:=Y.out.cells;have r:=Gw (gQ G);have hT:=X.out.2;have F:=Zh (Zi (Y.out.drew.turned X.out.1 p G ((l[p]'G).1+x.1)) (YD l x p G));have Al:sb≠g:=λe=>Y.out.lm.ne (by rw[e];rfl);generalize(l[p]'G).1=N0 at*;have z1:(p:Int)<(n:Int):=by omega
   obtain⟨z,hz⟩:∃z,z=N0+x.1:=⟨_,rfl⟩;have z2:U.wrap ((N0:Int)+(x.1:Int))=(z:Int):=by rw[fj];omega
   rw[<-hz]at F;clear a r hT hz H Y;go_region;all_goals(
    go_wp2_with fail;go_meet;exact⟨_,_,F.out.1,F.out.2⟩)
  case rest=>
   obtain⟨v1,l1,Q,u⟩:=hcut;rename W=>w3;obtain⟨⟨o,q,j,d3,d4,dl⟩,q0,q1,q2⟩:=Q.cells;have Aa:=Zh (Ne.symm Q.ne);have F:=Zh (Zi (Q.drew.total (t+x.1)) u);have AA:=Q.ne;have e5:=H.out;clear Q u H;go_upto_region 5 with fail;go_region;all_goals(
    go_wp2_with fail;go_end0;exact⟨rfl,v1,l1,F.out.1.lm,F.out.2,F.out.1.away,F.out.1.kin⟩)
 |false=>
  clear f;go_upto_region 4 with fail;go_cut [15]from 29 to 39 (λ_ m=>∃v' b,KW most w sb v' b t x (L A n c) m/\Sb l x b);case first=>
   have a:=Y.out.lm.own;obtain⟨⟨o,q,j,d3,d4,dl⟩,q0,q1,q2⟩:=Y.out.cells;have Ac:=Zh Z;have D:=OU (w2.drew.alloc (.cells #[I U x.1,I J x.2.1,I J x.2.2] 207)) (L A n c) l p w2.heap.size x (Y.out.drew.next (Za)).lm.own (by have:=X.out.1;omega) (by have:=X.out.1;omega) (AI.newAt rfl) (λe=>by have:=(a.lt _ e).2;omega);have HI:=Zh (YE l x p (by have:=X.out.1;omega));have z1:(p:Int)<=(n:Int):=by have:=X.out.1;omega
   have e6:l.length+1=(l.take p++x::l.drop p).length:=by simp only[V0,Q0,bh,Pa];have:=X.out.1;omega
   rw[e6]at D;generalize l.take p++x::l.drop p=b at D HI;obtain⟨m',d⟩:∃m',m' =b.length:=⟨_,rfl⟩;have HM:=Zh d;rw[<-d]at D;clear a Z hp e6 H d;go_region_with(go_at_call 354;refine D.mono ?_;rintro e w3 ⟨v',rfl,o3,a3,k3⟩;obtain⟨A',c',rfl⟩:=AF o3;obtain⟨H4,s1,s2⟩:=Y.out.drew.put a3 (by rw[<-HM.out];exact o3) k3;have HH:=Zh H4;clear H4 o3 a3 k3 D);all_goals(
    go_wp2_with fail;go_meet;exact⟨_,_,HH.out,HI.out⟩)
  case rest=>
   obtain⟨v1,l1,Q,u⟩:=hcut;rename W=>w3;obtain⟨⟨o,q,j,d3,d4,dl⟩,q0,q1,q2⟩:=Q.cells;have Aa:=Zh (Ne.symm Q.ne);have F:=Zh (Zi (Q.drew.total (t+x.1)) u);have AA:=Q.ne;have e5:=H.out;clear Q u H;go_upto_region 5 with fail;go_region;all_goals(
    go_wp2_with fail;go_end0;exact⟨rfl,v1,l1,F.out.1.lm,F.out.2,F.out.1.away,F.out.1.kin⟩)
def Zv(l l' :List Af):Prop:=Bl l' =Bl l/\l'.length<=l.length/\((∀y∈l,Kg y)->∀y∈l',Kg y)
theorem Zv.refl(l:List Af):Zv l l:=⟨rfl,E _,λh=>h⟩
theorem Zv.trans{l m n:List Af}(h:Zv l m)(k:Zv m n):Zv l n:=⟨k.1.trans h.1,ej k.2.1 h.2.1,λg=>k.2.2 (h.2.2 g)⟩
def I4(x y:Af):Af:=(x.1+y.1,x.2.1,max x.2.2 y.2.2)
theorem Kg.mrg{x y:Af}(h:Kg x)(k:Kg y):Kg (I4 x y):=by
 obtain⟨G,A,H⟩:=h;obtain⟨D,k2,F⟩:=k;refine⟨by unfold I4;simp only;omega,A,?_⟩;unfold I4 Am at*;simp only;omega
theorem Qa(l:List Af)(a)(h:a+1<l.length):Bl (l.take a++l.drop (a+2))+((l[a]'(by omega)).1+(l[a+1]'h).1)=Bl l:=by
 have A:=Fv l a;rw[<-gW (i:=a) (by omega),<-gW (i:=a+1) h]at A;rw[EM];simp only[Bl]at A;rw[show a+1+1=a+2 from rfl]at A;omega
theorem dB(l:List Af)(a)(h:a+1<l.length)(D :List Af)(k:Sb (l.take a++l.drop (a+2)) (I4 (l[a]'(by omega)) (l[a+1]'h)) D):Zv l D /\D.length<l.length:=by
 obtain⟨F,k2,G⟩:=k;have K:=Qa l a h;have H:(l.take a++l.drop (a+2)).length=l.length-2:=by simp only[V0,Q0,Pa];omega
 rw[H]at k2;refine⟨⟨by rw[F];unfold I4;simp only;omega,by omega,λg=>G (λy A=> ?_) ((g _ (gQ _)).mrg (g _ (gQ _)))⟩,by omega⟩;rcases List.mem_append.1 A with A|A
 ·exact g y (gj A)
 ·exact g y (fp A)
structure T9(most:Nat)(w:World)(sb:Nat)(v0:V)(l0:List Af)(v:V)(l:List Af)(t:Nat)(W:World):Prop where
 lm:I3 most W sb v l t
 away:AD (λk=>k=sb\/v0.ownBlock=S k) w W
 kin:FA w v0 v
 rel:Zv l0 l
 tot:Bl l=t
section
variable {most:Nat} {w W W' :World} {sb:Nat} {v0 v:V} {l0 l:List Af} {t:Nat}
theorem T9.next(h:T9 most w sb v0 l0 v l t W)(b:B W.heap.size W W'):T9 most w sb v0 l0 v l t W' :=
 ⟨h.lm.next b,h.away.trans' (AD.of_below b) (λ_ _ h=>h) (λ_ _ h=>h),h.kin,h.rel,h.tot⟩
theorem T9.size(h:T9 most w sb v0 l0 v l t W):w.heap.size<=W.heap.size:=h.away.size
theorem T9.over{v1}{l1:List Af}(h:T9 most w sb v0 l0 v l t W)(k:I3 most W' sb v1 l1 t)(a:AD (λk=>k=sb\/v.ownBlock=S k) W W')(n:FA W v v1)(r:Zv l l1):T9 most w sb v0 l0 v1 l1 t W' :=by
 refine⟨k,h.away.trans' a (λ_ _ h=>h) λj F e=> ?_,?_,h.rel.trans r,by rw[r.1];exact h.tot⟩
 ·rcases e with e|e
  ·exact .inl e
  ·rcases h.kin with q|⟨i,q1,q2⟩
   ·exact .inr (by rw[<-q];exact e)
   ·have:i=j:=by rw[q1]at e;exact dT e
    omega
 ·rcases n with n|⟨j,A,D⟩
  ·rcases h.kin with q|q
   ·exact .inl (by rw[n,q])
   ·exact .inr (by rw[n];exact q)
  ·exact .inr ⟨j,A,ej h.size D⟩
end
structure Wk(most:Nat)(sb bb:Nat)(v:V)(l:List Af)(t:Nat)(W0 W:World):Prop where
 lm:I3 most W sb v l t
 box:∃x y:Int,AI W bb #[I U x,I U y] 25/\OW x/\OW y
 below:B W0.heap.size W0 W
 at0:W0.heap.size<=bb
section
variable {most:Nat} {W0 W W' :World} {sb bb:Nat} {v:V} {l:List Af} {t:Nat}
theorem Wk.next(h:Wk most sb bb v l t W0 W)(b:B W.heap.size W W'):Wk most sb bb v l t W0 W' :=by
 obtain⟨x,y,k,D,A⟩:=h.box;exact⟨h.lm.next b,⟨x,y,k.below b k.lt,D,A⟩,h.below.trans (b.mono h.below.size),h.at0⟩
theorem Wk.set(h:Wk most sb bb v l t W0 W){x y}(H:OW x)(D:OW y):Wk most sb bb v l t W0 ((W.setCell ⟨bb,0,N⟩ (I U x)).setCell ⟨bb,1,N⟩ (I U y)):=by
 obtain⟨Q,K,k,_,_⟩:=h.box;have a:AD (λk=>k=bb) W ((W.setCell ⟨bb,0,N⟩ (I U x)).setCell ⟨bb,1,N⟩ (I U y)):=AD.setCell (AD.setCell (AD.refl (λk=>k=bb) W) ⟨bb,0,N⟩ _ (.inl rfl)) ⟨bb,1,N⟩ _ (.inl rfl);exact⟨h.lm.away a (h.lm.blk.ne k (by decide)) λg F e=>by obtain⟨A,G⟩:=AJ h.lm.own F;exact(G.ne k (by decide)) e,⟨x,y,(k.set 0 _).set 1 _,H,D⟩,h.below.trans (a.below h.below.size λj X e=>by have:=h.at0;omega),h.at0⟩
end
theorem YF(l:List Af)(a):Ad (l.take a++l.drop (a+2))=(Ad l).take (a*3)++(Ad l).drop ((a+2)*3):=by
 unfold Ad;rw[gX,Kd Fu,Ke Fu]
structure LT(most:Nat)(sb pa pb:Nat)(x y:Af)(v0 v:V)(l:List Af)(t:Nat)(W0 W:World):Prop where
 lm:I3 most W sb v l t
 ba:AI W pa #[I U x.1,I J x.2.1,I J x.2.2] 207
 bb:AI W pb #[I U y.1,I J y.2.1,I J y.2.2] 207
 away:AD (λk=>k=sb\/v0.ownBlock=S k) W0 W
 kin:FA W0 v0 v
 na:v.ownBlock≠S pa
 nb:v.ownBlock≠S pb
section
variable {most:Nat} {W0 W W' :World} {sb pa pb:Nat} {x y:Af} {v0 v:V} {l:List Af} {t:Nat}
theorem LT.next(h:LT most sb pa pb x y v0 v l t W0 W)(b:B W.heap.size W W'):LT most sb pa pb x y v0 v l t W0 W' :=
 ⟨h.lm.next b,h.ba.below b h.ba.lt,h.bb.below b h.bb.lt,h.away.trans' (AD.of_below b) (λ_ _ h=>h) (λ_ _ h=>h),h.kin,h.na,h.nb⟩
theorem LT.drew(h:LT most sb pa pb x y v0 v l t W0 W):LT most sb pa pb x y v0 v l t W0 W.drew:=h.next (B.refl _ _).drew
theorem LT.nea(h:LT most sb pa pb x y v0 v l t W0 W):sb≠pa:=h.lm.blk.ne h.ba (by decide)
theorem LT.neb(h:LT most sb pa pb x y v0 v l t W0 W):sb≠pb:=h.lm.blk.ne h.bb (by decide)
theorem LT.cells(h:LT most sb pa pb x y v0 v l t W0 W):(W.cell? ⟨pa,0,N⟩=S (I U x.1)/\W.cell? ⟨pa,1,N⟩=S (I J x.2.1)/\W.cell? ⟨pa,2,N⟩=S (I J x.2.2))/\(W.cell? ⟨pb,0,N⟩=S (I U y.1)/\W.cell? ⟨pb,1,N⟩=S (I J y.2.1)/\W.cell? ⟨pb,2,N⟩=S (I J y.2.2)):=⟨⟨h.ba.cell rfl,h.ba.cell rfl,h.ba.cell rfl⟩,h.bb.cell rfl,h.bb.cell rfl,h.bb.cell rfl⟩
theorem LT.cut{g n A m}(h:LT most sb pa pb x y v0 (L (S ⟨g,0,N⟩) n A) l t W0 W){D}{H :List Af}(a:AD (λk=>k=g) W D)(o:D.ownsRow 0 207 3 (L (S ⟨g,0,N⟩) m A) H.length (Ad H)):
  LT most sb pa pb x y v0 (L (S ⟨g,0,N⟩) m A) H t W0 (D.setCell ⟨sb,1,N⟩ (L (S ⟨g,0,N⟩) m A))/\D.cell? ⟨sb,1,N⟩=S (L (S ⟨g,0,N⟩) n A)/\D.frozen? ⟨sb,1,N⟩=false:=by
 have F:sb≠g:=λe=>h.lm.ne (by rw[e];rfl);have G:AI D sb #[I J most,L (S ⟨g,0,N⟩) n A,I U t] 188:=h.lm.blk.away a F;have X:pa≠g:=λe=>h.na (by rw[e];rfl);have Q:pb≠g:=λe=>h.nb (by rw[e];rfl);refine⟨⟨⟨G.set 1 _,AN o ⟨sb,1,N⟩ _ λe=>F (dT e).symm⟩,(h.ba.away a X).other ⟨sb,1,N⟩ _ (Ne.symm h.nea),(h.bb.away a Q).other ⟨sb,1,N⟩ _ (Ne.symm h.neb),?_,h.kin,h.na,h.nb⟩,G.cell rfl,G.frozen 1⟩;refine AD.setCell (h.away.trans' a (λ_ _ h=>h) λj Y e=> ?_) ⟨sb,1,N⟩ _ (.inl (.inl rfl));subst e;rcases h.kin with k|⟨i,K,k2⟩
 ·exact .inr k.symm
 ·have:j=i:=dT K;omega
theorem LT.total(h:LT most sb pa pb x y v0 v l t W0 W)(A):LT most sb pa pb x y v0 v l A W0 (W.setCell ⟨sb,2,N⟩ (I U (A :Int))):=
 ⟨⟨h.lm.blk.set 2 _,AN h.lm.own ⟨sb,2,N⟩ _ h.lm.ne⟩,h.ba.other ⟨sb,2,N⟩ _ (Ne.symm h.nea),h.bb.other ⟨sb,2,N⟩ _ (Ne.symm h.neb),AD.setCell h.away ⟨sb,2,N⟩ _ (.inl (.inl rfl)),h.kin,h.na,h.nb⟩
end
def dC:V->Nat| L _ n _=>n|_=>0
def eN(most:Nat)(w:W)(sb:Nat)(v0:V)(l0:List Af)(t:Nat)(a:Act)(wr:W):Prop:=∃(f:Nat->V) (v:V) (l:List Af),a={tmps:= #[P (S ⟨sb,0,N⟩),f 1,f 2,f 3,f 4,f 5,f 6,f 7,f 8,f 9,f 10,f 11,f 12,f 13,f 14,f 15,f 16,f 17,f 18,f 19,f 20,f 21,f 22,f 23,f 24,f 25,f 26,f 27,f 28,f 29,f 30,f 31,f 32,f 33,f 34,f 35,f 36,f 37,f 38,f 39,f 40,f 41,f 42,f 43,f 44,f 45,f 46,f 47,f 48,f 49,f 50,f 51,f 52,f 53,f 54,f 55,f 56,f 57,f 58,f 59,f 60,f 61,f 62,f 63,f 64,f 65,f 66,f 67,f 68,f 69,f 70,f 71,f 72,f 73,f 74,f 75,f 76,f 77,f 78,f 79,f 80,f 81,f 82,f 83,f 84,f 85,f 86,f 87,f 88,f 89,f 90,f 91,f 92,f 93,f 94,f 95,f 96,f 97,f 98,f 99,f 100,f 101,f 102,f 103,f 104,f 105],defers:=[]}/\T9 most w sb v0 l0 v l t wr
theorem eN.of{most w wr sb v0 v}{l0 l:List Af}{t a}(S:T9 most w sb v0 l0 v l t wr)(h:a={tmps:= #[P (some ⟨sb,0,N⟩),a.tmps.getD 1 undef,a.tmps.getD 2 undef,a.tmps.getD 3 undef,a.tmps.getD 4 undef,a.tmps.getD 5 undef,a.tmps.getD 6 undef,a.tmps.getD 7 undef,a.tmps.getD 8 undef,a.tmps.getD 9 undef,a.tmps.getD 10 undef,a.tmps.getD 11 undef,a.tmps.getD 12 undef,a.tmps.getD 13 undef,a.tmps.getD 14 undef,a.tmps.getD 15 undef,a.tmps.getD 16 undef,a.tmps.getD 17 undef,a.tmps.getD 18 undef,a.tmps.getD 19 undef,a.tmps.getD 20 undef,a.tmps.getD 21 undef,a.tmps.getD 22 undef,a.tmps.getD 23 undef,a.tmps.getD 24 undef,a.tmps.getD 25 undef,a.tmps.getD 26 undef,a.tmps.getD 27 undef,a.tmps.getD 28 undef,a.tmps.getD 29 undef,a.tmps.getD 30 undef,a.tmps.getD 31 undef,a.tmps.getD 32 undef,a.tmps.getD 33 undef,a.tmps.getD 34 undef,a.tmps.getD 35 undef,a.tmps.getD 36 undef,a.tmps.getD 37 undef,a.tmps.getD 38 undef,a.tmps.getD 39 undef,a.tmps.getD 40 undef,a.tmps.getD 41 undef,a.tmps.getD 42 undef,a.tmps.getD 43 undef,a.tmps.getD 44 undef,a.tmps.getD 45 undef,a.tmps.getD 46 undef,a.tmps.getD 47 undef,a.tmps.getD 48 undef,a.tmps.getD 49 undef,a.tmps.getD 50 undef,a.tmps.getD 51 undef,a.tmps.getD 52 undef,a.tmps.getD 53 undef,a.tmps.getD 54 undef,a.tmps.getD 55 undef,a.tmps.getD 56 undef,a.tmps.getD 57 undef,a.tmps.getD 58 undef,a.tmps.getD 59 undef,a.tmps.getD 60 undef,a.tmps.getD 61 undef,a.tmps.getD 62 undef,a.tmps.getD 63 undef,a.tmps.getD 64 undef,a.tmps.getD 65 undef,a.tmps.getD 66 undef,a.tmps.getD 67 undef,a.tmps.getD 68 undef,a.tmps.getD 69 undef,a.tmps.getD 70 undef,a.tmps.getD 71 undef,a.tmps.getD 72 undef,a.tmps.getD 73 undef,a.tmps.getD 74 undef,a.tmps.getD 75 undef,a.tmps.getD 76 undef,a.tmps.getD 77 undef,a.tmps.getD 78 undef,a.tmps.getD 79 undef,a.tmps.getD 80 undef,a.tmps.getD 81 undef,a.tmps.getD 82 undef,a.tmps.getD 83 undef,a.tmps.getD 84 undef,a.tmps.getD 85 undef,a.tmps.getD 86 undef,a.tmps.getD 87 undef,a.tmps.getD 88 undef,a.tmps.getD 89 undef,a.tmps.getD 90 undef,a.tmps.getD 91 undef,a.tmps.getD 92 undef,a.tmps.getD 93 undef,a.tmps.getD 94 undef,a.tmps.getD 95 undef,a.tmps.getD 96 undef,a.tmps.getD 97 undef,a.tmps.getD 98 undef,a.tmps.getD 99 undef,a.tmps.getD 100 undef,a.tmps.getD 101 undef,a.tmps.getD 102 undef,a.tmps.getD 103 undef,a.tmps.getD 104 undef,a.tmps.getD 105 undef],defers:=[]}):eN most w sb v0 l0 t a wr:=⟨λi=>a.tmps.getD i undef,v,l,h,S⟩
def dD(most:Nat)(w:W)(sb:Nat)(v0:V)(l0:List Af)(t:Nat)(e:Ending)(w' :W):Prop:=e=R (T #[])/\∃v l,T9 most w sb v0 l0 v l t w' /\l.length<=most
theorem M0{most}(w sb v0)(l0:List Af)(t)(h:I3 most w sb v0 l0 t)(h2:2<=most)(A1:l0.length<=100000)(ht:Bl l0=t)(hT:t<=9223372036854775807):
  C prog 348 #[P (some ⟨sb,0,N⟩)] w (dD most w sb v0 l0 t):=by
 have Bs:=Zh (show T9 most w sb v0 l0 v0 l0 t w from⟨h,AD.refl _ _,.inl rfl,Zv.refl _,ht⟩);clear h ht;go_enter func348,ntmps348;go_wp2_with fail;refine EH 0 (eN most w sb v0 l0 t) (λ_ wr=>((wr.cell? ⟨sb,1,N⟩).map dC).getD 0) rfl ?pass ?first
 case pass=>
  clear Bs;rintro a' wr ⟨f,v,l,rfl,S⟩;obtain⟨A,c,rfl⟩:=AF S.lm.own;obtain⟨n,hn⟩:∃n,n=l.length:=⟨_,rfl⟩;have HS:=Zh S;have D:=Zh (Zi hn (show l.length<=100000 from ej S.rel.2.1 A1));obtain⟨u,b,m,f1,s,cl⟩:=S.lm.cells;rw[<-hn]at b;clear S hn A1;by_cases hm:n<=most
  ·have z0:(n:Int)<=(most:Int):=by omega
   go_wp2_with fail;go_quiet(fail);go_wp2_with fail;simp only[Exit.jump];refine bodyPost_ret (results_none rfl _ _ _) rfl ?_;have S:=HS.out.next (W' :=wr.drewN nq) ⟨rfl,rfl,rfl,E _,λ_ _=>rfl⟩;exact⟨rfl,_,_,S,by have:=D.out.1;omega⟩
  ·have z0:¬(n:Int)<=(most:Int):=by omega
   go_wp2_with fail;go_quiet(fail);go_upto_region 1 with fail;have S1:T9 most w sb v0 l0 (L A l.length c) l t (wr.drewN nq):=HS.out.next ⟨rfl,rfl,rfl,E _,λ_ _=>rfl⟩;have Aa:(gm dC (wr.cell? ⟨sb,1,N⟩)).getD 0=n:=by rw[b];rfl
   have B9:=Zh Aa;clear u b m f1 s cl HS Aa;generalize wr.drewN nq=W1 at S1⊢;rw[<-D.out.1]at S1;have HS:=Zh S1;obtain⟨u,b,m,f1,s,cl⟩:=S1.lm.cells;clear S1;go_cut [2,3,4]from 19 to 19 (λp x y Z=>∃bb,p=P (some ⟨bb,0,N⟩)/\x=I J (-1)/\y=I U 0/\Wk most sb bb (L A n c) l t W1 Z);case first=>
    have hk:Wk most sb W1.heap.size (L A n c) l t W1 (W1.alloc (.cells #[I U 0,I U 0] 25)):=⟨HS.out.lm.next (Za),⟨0,0,AI.newAt rfl,by unfold OW;omega,by unfold OW;omega⟩,Za,E _⟩;have HK:=Zh hk;clear hk;go_wp2_with fail;go_meet;exact⟨_,rfl,rfl,rfl,HK.out⟩
   case rest=>
    obtain⟨bb,rfl,rfl,rfl,HP⟩:=hcut;clear u b m f1 s cl;rename W=>W2;obtain⟨u,b,m,f1,s,cl⟩:=HP.lm.cells;have Bt:=Zh HP;have Cs:2<n:=by omega
    have Cr:J.wrap ((n:Int)-1)=((n-1:Nat):Int):=by rw[bw];have:=D.out;omega
    clear HP;go_wp2_with fail;go_loopg [3,4,26] n (λg x y i Z=>∃(q:Nat) (a ah:Int),x=I J a/\y=I U ah/\i=I J q/\q<=n-1/\n-1-q<=g/\(q=0/\a= -1\/∃p:Nat,a=(p:Int)/\p<q)/\Wk most sb bb (L A n c) l t W1 Z);case atStart=>exact⟨0,-1,0,rfl,rfl,rfl,aw _,by omega,.inl ⟨rfl,rfl⟩,Bt.out⟩
    case round=>
     clear Bt u b m f1 s cl;rename W=>Z;obtain⟨q,a,ah,rfl,rfl,rfl,hq,hg,ha,HL⟩:=hrel;by_cases C0:q<n-1
     ·have g1:(q:Int)<((n-1:Nat):Int):=by omega
      have A7:=YC Z sb _ l t q HL.lm (by have:=D.out;omega) (by have:=D.out;omega) ah;have A8:=Zh HL;clear HL;go_upto_region 5 with fail;go_cut [6]from 29 to 32 (λp o=>∃(cb:Nat) (x y:Int),p=P (some ⟨cb,0,N⟩)/\AI o cb #[I U x,I U y] 25/\OW x/\OW y/\Wk most sb bb (L A n c) l t W1 o);case first=>
       go_wp2_with fail;refine A7.mono ?_;rintro e w3 ⟨x,y,rfl,hx,hy,b3⟩;have Ay:B w3.heap.size w3 (w3.alloc (.cells #[I U x,I U y] 25)):=Za;have HK:=Zh ((A8.out.next b3).next Ay);clear A7 Ay A8 b3;go_wp2_with fail;go_meet;exact⟨_,x,y,rfl,AI.newAt rfl,hx,hy,HK.out⟩
      case rest=>
       obtain⟨cb,x,y,rfl,z,hx,hy,H3⟩:=hcut;clear A7 A8;rename W=>w4;have H4:=Zh H3;have F:=Zh z;clear H3 z;go_upto_region 6 with fail;go_cut [39]from 33 to 39 (λp o=>∃r:Bool,p=.bool r/\(r=false->∃p' :Nat,a=(p' :Int)/\p' <q)/\Wk most sb bb (L A n c) l t W1 o/\AI o cb #[I U x,I U y] 25);case first=>
        rcases ha with⟨rfl,rfl⟩|⟨p,rfl,B3⟩
        ·go_wp2_with fail;go_meet;exact⟨true,rfl,λh=>(by cases h),H4.out,F.out⟩
        ·obtain⟨bx,Ax,Q,BQ,BR⟩:=H4.out.box;have k0:w4.cell? ⟨cb,0,N⟩=some (I U x):=F.out.cell rfl;have k1:w4.cell? ⟨cb,1,N⟩=some (I U y):=F.out.cell rfl;have m0:w4.cell? ⟨bb,0,N⟩=some (I U bx):=Q.cell rfl;have m1:w4.cell? ⟨bb,1,N⟩=some (I U Ax):=Q.cell rfl;have B2:=VH x y bx Ax hx hy BQ BR w4
         have g2:¬(p:Int)<0:=by omega
         clear Q;go_wp2_with fail;refine B2.mono ?_;rintro e w5 ⟨r,rfl,b5⟩;have H5:=Zh (Zi (H4.out.next b5) (F.out.below b5 F.out.lt));clear B2 k0 k1 m0 m1 b5;go_wp2_with fail;go_meet;exact⟨r,rfl,λ_=>⟨p,rfl,B3⟩,H5.out.1,H5.out.2⟩
       case rest=>
        obtain⟨r,rfl,hr,H5,z⟩:=hcut;rename W=>w6;clear H4 F ha;cases r with
        |false=>
         obtain⟨p',rfl,Ck⟩:=hr rfl;clear hr z hx hy;obtain⟨u,b,m,f1,s,cl⟩:=H5.lm.cells;have Ab:q<l.length:=by have:=D.out;omega
         rcases AH H5.lm.own with⟨_,B0,_⟩|⟨g,B4,hv,_,_,_,A6⟩
         ·omega
         simp only[L.injEq]at hv;obtain⟨rfl,-,rfl⟩:=hv;have K:=H5.lm.own;rw[<-D.out.1]at K;have p0:=(Bq K D.out.1 q Ab).1;generalize(l[q]'Ab).1=N0 at p0;have g3:(q:Int)<(n:Int):=by omega
         have CL:q<=100000:=by have:=D.out;omega
         have H9:=Zh H5;clear H5 K;go_wp2_with fail;go_roundg (n-1-(q+1));case measure=>omega
         exact⟨q+1,(p' :Int),_,rfl,rfl,by go_num,by omega,by omega,.inr ⟨p',rfl,by omega⟩,H9.out⟩
        |true=>
         clear hr;have F:=Zh z;have H6:=Zh H5;clear z H5;go_upto_region 7 with fail;go_cut [3]from 40 to 41 (λp o=>p=I J q/\Wk most sb bb (L A n c) l t W1 o);case first=>
          obtain⟨bx,Ax,Q,BQ,BR⟩:=H6.out.box;have k0:w6.cell? ⟨cb,0,N⟩=some (I U x):=F.out.cell rfl;have k1:w6.cell? ⟨cb,1,N⟩=some (I U y):=F.out.cell rfl;have m0:w6.cell? ⟨bb,0,N⟩=some (I U bx):=Q.cell rfl;have m1:w6.cell? ⟨bb,1,N⟩=some (I U Ax):=Q.cell rfl;have n0:w6.frozen? ⟨bb,0,N⟩=false:=Q.frozen 0;have n1:w6.frozen? ⟨bb,1,N⟩=false:=Q.frozen 1;have HK:=Zh (H6.out.set hx hy);clear Q;go_wp2_with fail;go_meet;exact⟨rfl,HK.out⟩
         case rest=>
          obtain⟨rfl,H7⟩:=hcut;rename W=>w7;clear H6 F hx hy;obtain⟨u,b,m,f1,s,cl⟩:=H7.lm.cells;have Ab:q<l.length:=by have:=D.out;omega
          rcases AH H7.lm.own with⟨_,B0,_⟩|⟨g,B4,hv,_,_,_,A6⟩
          ·omega
          simp only[L.injEq]at hv;obtain⟨rfl,-,rfl⟩:=hv;have K:=H7.lm.own;rw[<-D.out.1]at K;have p0:=(Bq K D.out.1 q Ab).1;generalize(l[q]'Ab).1=N0 at p0;have g3:(q:Int)<(n:Int):=by omega
          have CL:q<=100000:=by have:=D.out;omega
          have H9:=Zh H7;clear H7 K;go_wp2_with fail;go_roundg (n-1-(q+1));case measure=>omega
          exact⟨q+1,(q:Int),_,rfl,rfl,by go_num,by omega,by omega,.inr ⟨q,rfl,by omega⟩,H9.out⟩
     ·have g1:¬(q:Int)<((n-1:Nat):Int):=by omega
      obtain⟨p,rfl,B3⟩:∃p:Nat,a=(p:Int)/\p<q:=by
       rcases ha with⟨h0,_⟩|h
       ·omega
       ·exact h
      have Av:p+1<l.length:=by have:=D.out;omega
      have Cp:p<=100000:=by have:=D.out;omega
      clear ha hg;rcases AH HL.lm.own with⟨_,B0,_⟩|⟨g,B4,hv,_,_,_,A6⟩
      ·omega
      simp only[L.injEq]at hv;obtain⟨rfl,-,rfl⟩:=hv;have K:=HL.lm.own;rw[<-D.out.1]at K;obtain⟨p0,p1,p2⟩:=Bq K D.out.1 p (by omega);obtain⟨q0,q1,q2⟩:=Bq K D.out.1 (p+1) Av;have AA:=Qa l p Av;have A4:=Zh (λl' k=>dB l p Av l' k);obtain⟨X,hX⟩:∃X,X=l[p]'(by omega):=⟨_,rfl⟩;obtain⟨Y,hY⟩:∃Y,Y=l[p+1]'Av:=⟨_,rfl⟩;rw[<-hX]at p0 p1 p2 AA;rw[<-hY]at q0 q1 q2 AA;rw[<-hX,<-hY]at A4;clear hX hY;have Al:=HS.out.tot;have z1:(p:Int)<(n:Int):=by omega
      have z2:((p+1:Nat):Int)<(n:Int):=by omega
      have z3:J.wrap ((p:Int)+1)=((p+1:Nat):Int):=by rw[bw];omega
      have z4:J.wrap ((p:Int)+2)=((p+2:Nat):Int):=by rw[bw];omega
      have A2:X.1+Y.1<=t/\Bl (l.take p++l.drop (p+2))+(X.1+Y.1)=t:=by omega
      obtain⟨u,b,m,f1,s,cl⟩:=HL.lm.cells;have BA:=Zh (show LT most sb Z.heap.size (Z.heap.size+1) X Y (L (some ⟨g,0,N⟩) n c) (L (some ⟨g,0,N⟩) n c) l t W1 ((Z.drew.alloc (.cells #[I U X.1,I J X.2.1,I J X.2.2] 207)).alloc (.cells #[I U Y.1,I J Y.2.1,I J Y.2.2] 207))from
       have hb:B Z.heap.size Z ((Z.drew.alloc (.cells #[I U X.1,I J X.2.1,I J X.2.2] 207)).alloc (.cells #[I U Y.1,I J Y.2.1,I J Y.2.2] 207)):=((B.refl _ _).drew.alloc (E _) _).alloc (by simp) _
       ⟨HL.lm.next hb,AI.alloc (AI.newAt rfl) _,AI.newAt (by simp),(AD.of_below HL.below).trans' (AD.of_below hb) (λ_ _ h=>h) (λ_ _ h=>h),.inl rfl,λe=>by have:=(K.lt _ e).2;omega,λe=>by have:=(K.lt _ e).2;omega⟩)
      have Ba:=Zh (show LT most sb (Z.heap.size+1) Z.heap.size X Y (L (some ⟨g,0,N⟩) n c) (L (some ⟨g,0,N⟩) n c) l t W1 ((Z.drew.alloc (.cells #[I U Y.1,I J Y.2.1,I J Y.2.2] 207)).alloc (.cells #[I U X.1,I J X.2.1,I J X.2.2] 207))from
       have hb:B Z.heap.size Z ((Z.drew.alloc (.cells #[I U Y.1,I J Y.2.1,I J Y.2.2] 207)).alloc (.cells #[I U X.1,I J X.2.1,I J X.2.2] 207)):=((B.refl _ _).drew.alloc (E _) _).alloc (by simp) _
       ⟨HL.lm.next hb,AI.newAt (by simp),AI.alloc (AI.newAt rfl) _,(AD.of_below HL.below).trans' (AD.of_below hb) (λ_ _ h=>h) (λ_ _ h=>h),.inl rfl,λe=>by have:=(K.lt _ e).2;omega,λe=>by have:=(K.lt _ e).2;omega⟩)
      have H:=Zh A2;clear HL K AA Al A2;go_upto_region 10 with fail;go_cut [7,8]from 53 to 67 (λpa pb o=>∃ba b2,pa=P (some ⟨ba,0,N⟩)/\pb=P (some ⟨b2,0,N⟩)/\LT most sb ba b2 X Y (L (some ⟨g,0,N⟩) n c) (L (some ⟨g,0,N⟩) n c) l t W1 o);case first=>
       go_region;all_goals(
        go_wp2_with fail;go_meet;first
         |exact⟨_,_,rfl,rfl,BA.out⟩
         |exact⟨_,_,rfl,rfl,Ba.out⟩)
      case rest=>
       obtain⟨ba,b2,rfl,rfl,HT⟩:=hcut;rename W=>w8;clear BA Ba p0 p1 p2 q0 q1 q2 u b m f1 s cl A6;obtain⟨u,b,m,f1,s,cl⟩:=HT.lm.cells;have K:=HT.lm.own;rw[<-D.out.1]at K;have G:=OV w8 g n c p l K (by have:=D.out;omega) (by have:=D.out;omega);rw[<-YF]at G;obtain⟨m2,Bw⟩:∃m2,m2=n-2:=⟨_,rfl⟩;have e2:m2=(l.take p++l.drop (p+2)).length:=by simp only[V0,Q0,Pa];have:=D.out;omega
       rw[<-Bw]at G;obtain⟨l2,B1⟩:∃l2,l2=l.take p++l.drop (p+2):=⟨_,rfl⟩;rw[<-B1]at G e2 H A4;have Bu:=Zh HT;have Bb:=Zh (Zi e2 (show m2<=n by omega));clear K HT Bw B1 e2;go_upto_region 11 with fail;go_cut [76]from 68 to 78 (λ_ o=>LT most sb ba b2 X Y (L (some ⟨g,0,N⟩) n c) (L (some ⟨g,0,N⟩) m2 c) l2 t W1 o);case first=>
        go_wp2_with fail;refine G.mono ?_;rintro e w9 ⟨rfl,o9,a9⟩;obtain⟨HK,s1,s2⟩:=Bu.out.cut a9 (by rw[<-Bb.out.1];exact o9);have B5:=Zh HK;clear G o9 a9 HK;go_wp2_with fail;go_meet;exact B5.out
       case rest=>
        rename W=>w9;have Aw:=Zh hcut;clear G Bu u b m f1 s cl hcut;obtain⟨u,b,m,f1,s,cl⟩:=Aw.out.lm.cells;obtain⟨⟨d0,d1,d2⟩,e0,e1,e2⟩:=Aw.out.cells;have z5:U.wrap ((X.1:Int)+(Y.1:Int))=((X.1+Y.1:Nat):Int):=by rw[fj];have:=H.out;omega
        have z6:U.wrap ((t:Int)-((X.1+Y.1:Nat):Int))=((t-(X.1+Y.1):Nat):Int):=by rw[fj];have:=H.out;omega
        obtain⟨t2,Al⟩:∃t2,t2=t-(X.1+Y.1):=⟨_,rfl⟩;obtain⟨s2,Ac⟩:∃s2,s2=X.1+Y.1:=⟨_,rfl⟩;have A9:=Zh (Zi Al Ac);rw[<-Ac]at z5 z6;rw[Ac,<-Al,<-Ac]at z6;have HK:=Zh (Aw.out.drew.total t2);clear Al Ac;go_upto_region 12 with fail;go_cut [88]from 79 to 90 (λ_ o=>LT most sb ba b2 X Y (L (some ⟨g,0,N⟩) n c) (L (some ⟨g,0,N⟩) m2 c) l2 t2 W1 o);case first=>
         go_region;all_goals(
          go_wp2_with fail;go_meet;exact HK.out)
        case rest=>
         rename W=>w10;have d:=Zh hcut;clear Aw HK u b m f1 s cl hcut d0 d1 d2 e0 e1 e2 z6;obtain⟨⟨d0,d1,d2⟩,e0,e1,e2⟩:=d.out.cells;have Ap:=OY w10 sb _ l2 t2 (I4 X Y) d.out.lm (by have:=Bb.out;have:=D.out;omega) (by unfold I4;simp only;have:=H.out;omega) (by unfold I4;simp only;have:=H.out;have:=A9.out;omega);have Ar:((I4 X Y).1:Int)=(s2:Int)/\(I4 X Y).2.1=X.2.1/\(I4 X Y).2.2=max X.2.2 Y.2.2:=⟨by have:=A9.out.2;unfold I4;simp only;omega,rfl,rfl⟩;rw[Ar.1,Ar.2.1,Ar.2.2]at Ap;clear Ar;go_wp2_with fail;refine Ap.mono ?_;rintro e BX ⟨rfl,v',l',H',R',A',K'⟩;have A0:T9 most w sb v0 l0 v' l' t BX/\(gm dC (BX.cell? ⟨sb,1,N⟩)).getD 0<n:=by
          obtain⟨r1,r2⟩:=A4.out l' R';have et:t2+(I4 X Y).1=t:=by unfold I4;simp only;have:=H.out;have:=A9.out;omega
          rw[et]at H';refine⟨HS.out.over H' (d.out.away.trans' A' (λ_ _ h=>h) λj hj e=> ?_) ?_ r1,?_⟩
          ·rcases e with e|e
           ·exact .inl e
           ·exact .inr e
          ·rcases K' with k|⟨j,k1,k2⟩
           ·exact .inl k
           ·exact .inr ⟨j,k1,ej d.out.away.size k2⟩
          ·have hc:=H'.cells.2.1;obtain⟨A5,c5,rfl⟩:=AF H'.own;rw[hc];have:=D.out.1;show l'.length<n;omega
         have A3:=Zh A0;clear Ap H' R' A' K' A0;go_wp2_with fail;go_step3;refine⟨rfl,eN.of A3.out.1 (by kernel_rfl),?_⟩;rw[B9.out];exact A3.out.2
 case first=>
  intro hp;go_wp2_with fail;go_step3;rename_i hK;exact hK _ _ (hp _ _ (eN.of Bs.out (by kernel_rfl)))
def CT(hi:Bool):TypeId:=if hi then 255 else 257
def PT(hi:Bool):TypeId:=if hi then 243 else 246
structure DM(hi:Bool)(M:Nat)(w:W)(cb sb:Nat)(v:V)(k:AL)(T:Nat):Prop where
 blk:AI w cb #[I J M,P (S ⟨sb,0,N⟩),I U ((T-AB k:Nat):Int)] (CT hi)
 st:Aq M w sb v k
 le:AB k<=T
 low:∀x∈k,x.1<4096
def DJ(cb sb:Nat)(v:V)(j:Nat):Prop:=j=cb\/j=sb\/v.ownBlock=S j
theorem YG(hi):CT hi≠115/\CT hi≠228/\CT hi≠59/\CT hi≠34/\CT hi≠76/\CT hi≠170/\CT hi≠220/\CT hi≠210/\CT hi≠23:=by cases hi<;>decide
section
variable {hi:Bool} {M:Nat} {w w' :W} {cb sb:Nat} {v:V} {k:AL} {T:Nat}
theorem DM.next(h:DM hi M w cb sb v k T)(b:B w.heap.size w w'):DM hi M w' cb sb v k T:=⟨h.blk.below b h.blk.lt,h.st.next b,h.le,h.low⟩
theorem DM.away{G}(h:DM hi M w cb sb v k T)(a:AD G w w')(n:∀j,DJ cb sb v j->¬G j):DM hi M w' cb sb v k T:=
 ⟨h.blk.away a (n _ (.inl rfl)),h.st.away a (n _ (.inr (.inl rfl))) λg A=>n _ (.inr (.inr A)),h.le,h.low⟩
theorem DM.ne1(h:DM hi M w cb sb v k T):cb≠sb:=h.blk.ne h.st.blk (YG hi).1
theorem DM.ne2(h:DM hi M w cb sb v k T):v.ownBlock≠S cb:=λD=>by
 obtain⟨A,F⟩:=AJ h.st.own D
 exact(h.blk.ne F λe=>(YG hi).2.1 e) rfl
theorem DM.lt(h:DM hi M w cb sb v k T):∀j,DJ cb sb v j->j<w.heap.size:=by
 rintro j (rfl|rfl|e)
 ·exact h.blk.lt
 ·exact h.st.blk.lt
 ·exact(h.st.own.lt _ e).2
theorem DM.ty(h:DM hi M w cb sb v k T):∀j,DJ cb sb v j->∃F t,AI w j F t/\(t=CT hi\/t=115\/t=228):=by
 rintro j (rfl|rfl|e)
 ·exact⟨_,_,h.blk,.inl rfl⟩
 ·exact⟨_,_,h.st.blk,.inr (.inl rfl)⟩
 ·obtain⟨A,D⟩:=AJ h.st.own e;exact⟨_,_,D,.inr (.inr rfl)⟩
theorem DM.cells(h:DM hi M w cb sb v k T):w.cell? ⟨cb,0,N⟩=S (I J M)/\w.cell? ⟨cb,1,N⟩=S (P (S ⟨sb,0,N⟩))/\w.cell? ⟨cb,2,N⟩=S (I U ((T-AB k:Nat):Int))/\w.frozen? ⟨cb,2,N⟩=false:=
 ⟨h.blk.cell rfl,h.blk.cell rfl,h.blk.cell rfl,h.blk.frozen 2⟩
theorem DM.adds{i c A}(h:DM hi M w cb sb v k T)(F:i<4096)(s:Aq M w' sb A (Ak k i c))(a:AD (λj=>j=sb\/v.ownBlock=S j) w w')(q:FA w v A):
  DM hi M w' cb sb A (Ak k i c) (T+c)/\(∀j,DJ cb sb A j->DJ cb sb v j\/w.heap.size<=j)/\AD (DJ cb sb v) w w' :=by
 have K:=h.le;refine⟨⟨?_,s,by rw[EG];omega,λx H=> ?_⟩,?_,a.mono λj _ D=>.inr D⟩
 ·rw[EG,show T+c-(AB k+c)=T-AB k from by omega];exact h.blk.away a λD=>by
   rcases D with e|e
   ·exact h.ne1 e
   ·exact h.ne2 e
 ·rcases Gg H with e|e
  ·exact h.low x e
  ·rw[e];exact F
 ·rintro j (rfl|rfl|e)
  ·exact .inl (.inl rfl)
  ·exact .inl (.inr (.inl rfl))
  ·rcases q with q|⟨g,q,G⟩
   ·exact .inl (.inr (.inr (q▸e)))
   ·rw[q]at e;injection e with e;exact .inr (e▸G)
theorem DM.lose{c}(h:DM hi M w cb sb v k T):DM hi M (w.setCell ⟨cb,2,N⟩ (I U ((T-AB k+c:Nat):Int))) cb sb v k (T+c)/\AD (DJ cb sb v) w (w.setCell ⟨cb,2,N⟩ (I U ((T-AB k+c:Nat):Int))):=by
 have A:=h.le;refine⟨⟨?_,h.st.other _ _ (Ne.symm h.ne1) h.ne2,by omega,h.low⟩,(AD.refl _ _).setCell _ _ (.inl (.inl rfl))⟩;rw[show T+c-AB k=T-AB k+c from by omega];exact h.blk.set 2 _
theorem DM.cut{A}(h:DM hi M w cb sb v k T)(Q:k≠ [])(s:Aq M w' sb A (Ds hi k))(a:AD (λj=>j=sb\/v.ownBlock=S j) w w')(q:FA w v A):
  DM hi M (w'.setCell ⟨cb,2,N⟩ (I U ((T-AB k+(En hi k).2:Nat):Int))) cb sb A (Ds hi k) T/\(∀j,DJ cb sb A j->DJ cb sb v j\/w.heap.size<=j)/\AD (DJ cb sb v) w (w'.setCell ⟨cb,2,N⟩ (I U ((T-AB k+(En hi k).2:Nat):Int)))/\
  w'.cell? ⟨cb,2,N⟩=S (I U ((T-AB k:Nat):Int))/\w'.frozen? ⟨cb,2,N⟩=false:=by
 have c:=h.le;have b:=Eo (hi:=hi) Q;have D:=h.blk.away a λF=>by
   rcases F with e|e
   ·exact h.ne1 e
   ·exact h.ne2 e
 have Y:A.ownBlock≠S cb:=λX=>by
  obtain⟨H,Z⟩:=AJ s.own X;exact(D.ne Z λe=>(YG hi).2.1 e) rfl
 refine⟨⟨?_,s.other _ _ (Ne.symm h.ne1) Y,by omega,λx K=>h.low x ((LI hi k).subset K)⟩,?_,(a.mono λj _ F=>.inr F).setCell _ _ (.inl (.inl rfl)),D.cell rfl,D.frozen 2⟩
 ·rw[show T-AB (Ds hi k)=T-AB k+(En hi k).2 from by omega];exact D.set 2 _
 ·rintro j (rfl|rfl|e)
  ·exact .inl (.inl rfl)
  ·exact .inl (.inr (.inl rfl))
  ·rcases q with q|⟨g,q,G⟩
   ·exact .inl (.inr (.inr (q▸e)))
   ·rw[q]at e;injection e with e;exact .inr (e▸G)
end
def BU(hi:Bool)(M:Nat)(k:AL)(T:Nat)(w:W)(cb:Nat)(O:Nat->Prop):Prop:=∃sb v,DM hi M w cb sb v k T/\O=DJ cb sb v
def Bi(hi:Bool)(M:Nat)(w:W)(cb:Nat)(O:Nat->Prop)(k:AL)(T:Nat)(w' :W):Prop:=∃O',BU hi M k T w' cb O' /\BV w O O' /\AD O w w'
section
variable {hi:Bool} {M:Nat} {w w' w2:W} {cb:Nat} {k k2:AL} {T T2:Nat} {O O2:Nat->Prop}
theorem BU.next(h:BU hi M k T w cb O)(b:B w.heap.size w w'):BU hi M k T w' cb O:=by
 obtain⟨sb,v,h,rfl⟩:=h;exact⟨sb,v,h.next b,rfl⟩
theorem BU.away{G}(h:BU hi M k T w cb O)(a:AD G w w')(n:∀j,O j->¬G j):BU hi M k T w' cb O:=by
 obtain⟨sb,v,h,rfl⟩:=h;exact⟨sb,v,h.away a n,rfl⟩
theorem BU.lt(h:BU hi M k T w cb O):∀j,O j->j<w.heap.size:=by
 obtain⟨sb,v,h,rfl⟩:=h;exact h.lt
theorem BU.ty(h:BU hi M k T w cb O):∀j,O j->∃A t,AI w j A t/\(t=CT hi\/t=115\/t=228):=by
 obtain⟨sb,v,h,rfl⟩:=h;exact h.ty
theorem BU.rising(h:BU hi M k T w cb O):AT k/\Bh k/\AB k<=T/\∀x∈k,x.1<4096:=by
 obtain⟨sb,v,h,rfl⟩:=h;exact⟨h.st.rising,h.st.full,h.le,h.low⟩
theorem Bi.start(h:BU hi M k T w cb O):Bi hi M w cb O k T w:=⟨O,h,λj A=>.inl A,AD.refl _ _⟩
theorem Bi.next(h:Bi hi M w cb O k T w2)(b:B w2.heap.size w2 w'):Bi hi M w cb O k T w' :=by
 obtain⟨H,A,G,D⟩:=h;exact⟨H,A.next b,G,D.trans' (AD.of_below (F:=O) b) (λ_ _ h=>h) (λ_ _ h=>h)⟩
theorem Bi.made{wr D H sb v A G}(X:AD O w wr)(Q:BV w O (DJ cb sb v))(b:B wr.heap.size wr D)(q:DM hi M w2 cb A G k2 T2)(q2:∀j,DJ cb A G j->DJ cb sb v j\/D.heap.size<=j)(Z:AD (DJ cb sb v) D w2)(K:B w2.heap.size w2 H):Bi hi M w cb O k2 T2 H:=by
 have c:w.heap.size<=D.heap.size:=ej X.size b.size;have a1:AD O w D:=X.trans' (AD.of_below (F:=O) b) (λ_ _ h=>h) (λ_ _ h=>h);have a2:AD O w w2:=a1.trans' Z (λ_ _ h=>h) λj Y a=>by
  rcases Q j a with e|e
  ·exact e
  ·omega
 refine⟨DJ cb A G,⟨A,G,q.next K,rfl⟩,λj Y=> ?_,a2.trans' (AD.of_below (F:=O) K) (λ_ _ h=>h) (λ_ _ h=>h)⟩;rcases q2 j Y with e|e
 ·exact Q j e
 ·exact .inr (ej c e)
end
theorem Qb{M}(w sb v)(l:AL)(h:Aq M w sb v l)(p)(hp:p<l.length)(c:l.length<=1000000)(hs:AB l<=9223372036854775807)(Y X)(hx:l[p]'hp=(Y,X))(G :AL)(Av :G =l.take p++l.drop (p+1))(Z:AB l=AB G +X)(d:G.Sublist l)(Aa:G.length=l.length-1):
  C prog 151 #[P (S ⟨sb,0,N⟩),I J p] w λe w' =>e=R (T #[.agg #[I J Y,I U X],.bool true])/\∃v2,Aq M w' sb v2 G /\AD (λj=>j=sb\/v.ownBlock=S j) w w' /\FA w v v2:=by
 obtain⟨c0,c1,c2,f1,f2⟩:=h.cells;have AA:=h.ne;have H:=Zh h;rcases AH h.own with⟨_,h0,_⟩|⟨g,A,hv,Ax,Ay,_,hg⟩
 ·omega
 subst hv;have e0:w.cell? ⟨g,p*2,N⟩=S (I J Y):=by rw[h.own.cellAt _ (by omega),BI l p hp,hx]
 have e1:w.cell? ⟨g,p*2+1,N⟩=S (I U X):=by rw[h.own.cellAt _ (by omega),BT l p hp,hx]
 have K:=Zh (show∀W,B w.heap.size w W->C prog 152 #[L (S ⟨g,0,N⟩) l.length A,I J p,I J ((p:Int)+1)] W λe w' =>e=R (L (S ⟨g,0,N⟩) (l.length-1) A)/\
   w'.ownsRow 0 228 2 (L (S ⟨g,0,N⟩) (l.length-1) A) (l.length-1) ((AV l).take (p*2)++(AV l).drop ((p+1)*2))/\AD (λk=>k=g) W w' from λW b=>by
  have k:=SU W g l.length A p l (h.next b).own c hp;have ec:((p+1:Nat):Int)=(p:Int)+1:=by omega
  rw[ec]at k;exact k)
 have Al:(AV l).take (p*2)++(AV l).drop ((p+1)*2)=AV G :=by rw[Av,FD,Mi,<-Mj]
 obtain⟨t',m⟩:∃t',t' =AB G :=⟨_,rfl⟩;rw[<-m]at Z;have A1:U.wrap ((AB l:Int)-(X:Int))=(t' :Int):=by rw[fj];omega
 have q:sb≠g:=λe=>AA (by rw[e];rfl);have A0:=h.blk.lt;have r:=Zh (show∀W D,B w.heap.size w W->AD (λk=>k=g) W D->w.heap.size+1<W.heap.size->W.cell? ⟨w.heap.size+1,0,N⟩=S (I J Y)->W.cell? ⟨w.heap.size+1,1,N⟩=S (I U X)->W.cell? ⟨w.heap.size,0,N⟩=S (I J 0)->W.cell? ⟨w.heap.size,1,N⟩=S (I U 0)->W.frozen? ⟨w.heap.size,0,N⟩=false->W.frozen? ⟨w.heap.size,1,N⟩=false->
   D.cell? ⟨sb,1,N⟩=S (L (S ⟨g,0,N⟩) l.length A)/\D.cell? ⟨sb,2,N⟩=S (I U (AB l:Int))/\D.frozen? ⟨sb,1,N⟩=false/\D.frozen? ⟨sb,2,N⟩=false/\D.cell? ⟨w.heap.size+1,0,N⟩=S (I J Y)/\D.cell? ⟨w.heap.size+1,1,N⟩=S (I U X)/\D.cell? ⟨w.heap.size,0,N⟩=S (I J 0)/\D.cell? ⟨w.heap.size,1,N⟩=S (I U 0)/\D.frozen? ⟨w.heap.size,0,N⟩=false/\D.frozen? ⟨w.heap.size,1,N⟩=false from λW D b a Ab k0 k1 k2 k3 k4 k5=>by
  have B2:=(h.blk.below b h.blk.lt).away a q;refine⟨B2.cell rfl,B2.cell rfl,B2.frozen 1,B2.frozen 2,?_,?_,?_,?_,?_,?_⟩
  ·exact(a.cell (p:=⟨w.heap.size+1,0,N⟩) Ab (show¬w.heap.size+1=g by omega)).trans k0
  ·exact(a.cell (p:=⟨w.heap.size+1,1,N⟩) Ab (show¬w.heap.size+1=g by omega)).trans k1
  ·exact(a.cell (p:=⟨w.heap.size,0,N⟩) (show w.heap.size<_ by omega) (show¬w.heap.size=g by omega)).trans k2
  ·exact(a.cell (p:=⟨w.heap.size,1,N⟩) (show w.heap.size<_ by omega) (show¬w.heap.size=g by omega)).trans k3
  ·exact(a.frozen (p:=⟨w.heap.size,0,N⟩) (show w.heap.size<_ by omega) (show¬w.heap.size=g by omega)).trans k4
  ·exact(a.frozen (p:=⟨w.heap.size,1,N⟩) (show w.heap.size<_ by omega) (show¬w.heap.size=g by omega)).trans k5)
 obtain⟨n,hn⟩:∃n,n=l.length:=⟨_,rfl⟩;have A2:0<n:=by omega
 have gn:((n:Int)==0)=false:=by simp;omega
 have gp:(p:Int)<(n:Int):=by omega
 have gw:J.wrap ((p:Int)+1)=(p:Int)+1:=by rw[bw];omega
 rw[<-hn]at c1 K r Ax;have HN:=Zh hn;have HL:=Zh Aa;have HS:=Zh d;have HT:=Zh m;clear h AA Av hx hs c hp Z d hn Aa m;obtain⟨W0,Q⟩:∃W0,W0=(w.alloc (.cells #[I J 0,I U 0] 228)).alloc (.cells #[I J Y,I U X] 228):=⟨_,rfl⟩;have u:B w.heap.size w W0:=by rw[Q];exact((B.refl _ w).alloc (E _) _).alloc (by simp) _
 have Z0:AI W0 w.heap.size #[I J 0,I U 0] 228:=by rw[Q];exact(AI.newAt rfl).alloc _
 have Z1:AI W0 (w.heap.size+1) #[I J Y,I U X] 228:=by rw[Q];exact AI.newAt (by simp)
 have K0:=H.out.next u;obtain⟨d0,d1,d2,d3,d4⟩:=K0.cells;rw[<-HN.out]at d1;have z0:=Z1.cell (j:=0) rfl;have z1:=Z1.cell (j:=1) rfl;have z2:=Z0.cell (j:=0) rfl;have z3:=Z0.cell (j:=1) rfl;have z4:=Z0.frozen 0;have z5:=Z0.frozen 1;have Ac:=K.out W0.drew u.drew;have Ap:=Zh (λD a=>r.out W0.drew D u.drew a Z1.lt z0 z1 z2 z3 z4 z5);have z:=Zh (show∀D,D.ownsRow 0 228 2 (L (S ⟨g,0,N⟩) (n-1) A) (n-1) ((AV l).take (p*2)++(AV l).drop ((p+1)*2))->AD (λk=>k=g) W0.drew D->
   ∀W3:World,W3=((((D.setCell ⟨sb,1,N⟩ (L (S ⟨g,0,N⟩) (n-1) A)).setCell ⟨sb,2,N⟩ (I U (t' :Int))).setCell ⟨w.heap.size,0,N⟩ (I J Y)).setCell ⟨w.heap.size,1,N⟩ (I U X))->∃v2,Aq M W3 sb v2 G /\AD (λj=>j=sb\/(L (S ⟨g,0,N⟩) n A).ownBlock=S j) w W3/\FA w (L (S ⟨g,0,N⟩) n A) v2 from λD o a W3 s=>by
  have Ar:n-1=G.length:=by rw[HL.out,HN.out]
  have o' :D.ownsRow 0 228 2 (L (S ⟨g,0,N⟩) G.length A) G.length (AV G):=by rw[Al,Ar]at o;exact o
  have i:(L (S ⟨g,0,N⟩) G.length A).ownBlock≠S sb:=λe=>by injection e with e;exact q e.symm
  have f:(L (S ⟨g,0,N⟩) G.length A).ownBlock≠S w.heap.size:=λe=>by injection e with e;have e:g=w.heap.size:=e;omega
  have S2:=((H.out.next u).drew.blk.away a q);rw[Ar]at s;refine⟨L (S ⟨g,0,N⟩) G.length A,?_,?_,.inl rfl⟩
  ·rw[s];refine⟨?_,AN (AN (AN (AN o' _ _ i) _ _ i) _ _ f) _ _ f,ST HS.out H.out.rising,λx hx=>H.out.full x (HS.out.subset hx)⟩;rw[<-HT.out];exact(((S2.set 1 _).set 2 _).other _ _ (show sb≠w.heap.size by omega)).other _ _ (show sb≠w.heap.size by omega)
  ·rw[s];refine AD.setCell (AD.setCell (AD.setCell (AD.setCell ?_ _ _ (.inl (.inl rfl))) _ _ (.inl (.inl rfl))) _ _ (.inr (E _))) _ _ (.inr (E _));exact(AD.of_below (F:=λj=>j=sb\/(L (S ⟨g,0,N⟩) n A).ownBlock=S j) u.drew).trans' a (λk _ hk=>hk) (λk _ hk=>.inr (by rw[hk];rfl)))
 clear r K;go_enter func151,ntmps151;go_wp2_with fail;rw[<-Q];clear Q c0 c1 c2 f1 f2 d0 e0 e1 Z0 Z1 K0 u gn Al;rename_i KK;go_region_with(go_at_call 152;refine Ac.mono ?_;rintro e w1 ⟨rfl,o1,a1⟩;obtain⟨r1,r2,r3,r4,r5,r6,r7,r8,r9,Aw⟩:=Ap.out _ a1);all_goals(
  refine KK _ _ ?_;clear Ac;go_wp2_with fail;refine bodyPost_ret (v:=T #[.agg #[I J Y,I U X],.bool true]) (by simp[results,results151,go_sem,r7,r8,r9,Aw]) rfl ⟨rfl,?_⟩;rw[<-HN.out];exact z.out w1 o1 a1 _ rfl)
theorem Qc{M}(w sb v)(l:AL)(h:Aq M w sb v l)(K:l≠ [])(H:l.length<=1000000)(m:AB l<=9223372036854775807):
  C prog 147 #[P (S ⟨sb,0,N⟩)] w λe w' =>e=R (T #[.agg #[I J ((Fc false l:Nat):Int),I U ((En false l).2:Nat)],.bool true])/\∃D,Aq M w' sb D (Ds false l)/\AD (λj=>j=sb\/v.ownBlock=S j) w w' /\FA w v D:=by
 have o:=List.length_pos_iff.2 K;have b:=QR false K;have i:En false l=(Fc false l,(En false l).2):=by rw[<-T8]
 rw[i]at b;have X:B w.heap.size w (w.alloc (.cells #[I J 0,I U 0] 228)):=(B.refl _ w).alloc (E _) _;have d:C prog 151 #[P (S ⟨sb,0,N⟩),I J 0] (w.alloc (.cells #[I J 0,I U 0] 228)) _:=Qb _ sb v l (h.next X) (SS false l) (ON false K) H m (Fc false l) (En false l).2 b (Ds false l) (My false K) (Eo K) (LI false l) (LJ false l);obtain⟨c0,c1,c2,f1,f2⟩:=h.cells;have Y:=h.blk.lt;obtain⟨A,AA,q⟩:=AF h.own;have f:=Zh (show∀(G:W) (D:V),Aq M G sb D (Ds false l)->AD (λj=>j=sb\/v.ownBlock=S j) (w.alloc (.cells #[I J 0,I U 0] 228)) G->FA (w.alloc (.cells #[I J 0,I U 0] 228)) v D->
   (∀u1 u2,∃D,Aq M ((G.setCell ⟨w.heap.size,0,N⟩ u1).setCell ⟨w.heap.size,1,N⟩ u2) sb D (Ds false l)/\AD (λj=>j=sb\/v.ownBlock=S j) w ((G.setCell ⟨w.heap.size,0,N⟩ u1).setCell ⟨w.heap.size,1,N⟩ u2)/\FA w v D)/\
   G.cell? ⟨w.heap.size,0,N⟩=S (I J 0)/\G.cell? ⟨w.heap.size,1,N⟩=S (I U 0)/\G.frozen? ⟨w.heap.size,0,N⟩=false/\G.frozen? ⟨w.heap.size,1,N⟩=false from λG D s a k=>by
  have Z:AI G w.heap.size #[I J 0,I U 0] 228:=(AI.newAt rfl).away a λr=>by
   rcases r with e|e
   ·omega
   ·have:=(h.own.lt _ e).2;omega
  have Q:D.ownBlock≠S w.heap.size:=λe=>by
   rcases k with k|⟨g,k,c⟩
   ·rw[k]at e;have:=(h.own.lt _ e).2;omega
   ·rw[k]at e;injection e with e;simp at c;omega
  refine⟨λu1 u2=>⟨D,(s.other _ _ (show sb≠w.heap.size by omega) Q).other _ _ (show sb≠w.heap.size by omega) Q,?_,?_⟩,Z.cell rfl,Z.cell rfl,Z.frozen 0,Z.frozen 1⟩
  ·refine AD.setCell (AD.setCell ?_ _ _ (.inr (E _))) _ _ (.inr (E _));exact(AD.of_below (F:=λj=>j=sb\/v.ownBlock=S j) X).trans' a (λ_ _ h=>h) (λ_ _ h=>h)
  ·rcases k with k|⟨g,k,c⟩
   ·exact .inl k
   ·exact .inr ⟨g,k,by simp at c;omega⟩)
 subst q;generalize Fc false l=ix at*;generalize(En false l).2=ct at*;clear b i H m K Y X h;go_enter func147,ntmps147;go_wp2_with(go_at_call 151;refine d.mono ?_;rintro e G ⟨rfl,D,s2,a2,k2⟩;obtain⟨p,u,r2,n,z⟩:=f.out G D s2 a2 k2);exact bodyPost_ret (v:=T #[.agg #[I J ix,I U ct],.bool true]) (by simp[results,results147,go_sem,u,r2,n,z]) rfl ⟨rfl,p _ _⟩
theorem Sc{M}(w sb v)(l:AL)(h:Aq M w sb v l)(K:l≠ [])(H:l.length<=1000000)(i:AB l<=9223372036854775807):
  C prog 146 #[P (S ⟨sb,0,N⟩)] w λe w' =>e=R (T #[.agg #[I J ((Fc true l:Nat):Int),I U ((En true l).2:Nat)],.bool true])/\∃D,Aq M w' sb D (Ds true l)/\AD (λj=>j=sb\/v.ownBlock=S j) w w' /\FA w v D:=by
 have n:=List.length_pos_iff.2 K;have Y:=QR true K;have f:En true l=(Fc true l,(En true l).2):=by rw[<-T8]
 rw[f]at Y;have X:B w.heap.size w (w.alloc (.cells #[I J 0,I U 0] 228)):=(B.refl _ w).alloc (E _) _;have c:C prog 151 #[P (S ⟨sb,0,N⟩),I J ((l.length-1:Nat):Int)] (w.alloc (.cells #[I J 0,I U 0] 228)) _:=Qb _ sb v l (h.next X) (SS true l) (ON true K) H i (Fc true l) (En true l).2 Y (Ds true l) (My true K) (Eo K) (LI true l) (LJ true l);obtain⟨c0,c1,c2,f1,f2⟩:=h.cells;have p:=h.blk.lt;obtain⟨A,AA,q⟩:=AF h.own;have g2:J.wrap ((l.length:Int)-1)=((l.length-1:Nat):Int):=by rw[bw];omega
 have d:=Zh (show∀(G:W) (D:V),Aq M G sb D (Ds true l)->AD (λj=>j=sb\/v.ownBlock=S j) (w.alloc (.cells #[I J 0,I U 0] 228)) G->FA (w.alloc (.cells #[I J 0,I U 0] 228)) v D->
   (∀u1 u2,∃D,Aq M ((G.setCell ⟨w.heap.size,0,N⟩ u1).setCell ⟨w.heap.size,1,N⟩ u2) sb D (Ds true l)/\AD (λj=>j=sb\/v.ownBlock=S j) w ((G.setCell ⟨w.heap.size,0,N⟩ u1).setCell ⟨w.heap.size,1,N⟩ u2)/\FA w v D)/\
   G.cell? ⟨w.heap.size,0,N⟩=S (I J 0)/\G.cell? ⟨w.heap.size,1,N⟩=S (I U 0)/\G.frozen? ⟨w.heap.size,0,N⟩=false/\G.frozen? ⟨w.heap.size,1,N⟩=false from λG D s a k=>by
  have Z:AI G w.heap.size #[I J 0,I U 0] 228:=(AI.newAt rfl).away a λr=>by
   rcases r with e|e
   ·omega
   ·have:=(h.own.lt _ e).2;omega
  have Q:D.ownBlock≠S w.heap.size:=λe=>by
   rcases k with k|⟨g,k,b⟩
   ·rw[k]at e;have:=(h.own.lt _ e).2;omega
   ·rw[k]at e;injection e with e;simp at b;omega
  refine⟨λu1 u2=>⟨D,(s.other _ _ (show sb≠w.heap.size by omega) Q).other _ _ (show sb≠w.heap.size by omega) Q,?_,?_⟩,Z.cell rfl,Z.cell rfl,Z.frozen 0,Z.frozen 1⟩
  ·refine AD.setCell (AD.setCell ?_ _ _ (.inr (E _))) _ _ (.inr (E _));exact(AD.of_below (F:=λj=>j=sb\/v.ownBlock=S j) X).trans' a (λ_ _ h=>h) (λ_ _ h=>h)
  ·rcases k with k|⟨g,k,b⟩
   ·exact .inl k
   ·exact .inr ⟨g,k,by simp at b;omega⟩)
 subst q;generalize Fc true l=ix at*;generalize(En true l).2=ct at*;clear Y f H i K X h;go_enter func146,ntmps146;go_wp2_with fail;refine c.mono ?_;rintro e G ⟨rfl,D,s2,a2,k2⟩;obtain⟨o,u,r2,m,z⟩:=d.out G D s2 a2 k2;go_wp2_with fail;exact bodyPost_ret (v:=T #[.agg #[I J ix,I U ct],.bool true]) (by simp[results,results146,go_sem,u,r2,m,z]) rfl ⟨rfl,o _ _⟩
end Go.Proofs.YtbejdajkkoapgaaGreatDoor
