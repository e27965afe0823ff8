/-
  Lemmas and walks for coreBurst.proved, joined and squeezed by a program out of the loose texts J16, B3, J17, J10. Conditions: each theorem states its own.
-/
import Derived.Test.YtbejdajkkoapgaaGreatDoorU03
import Derived.Deep.LoopGhost
import Derived.Test.YtbejdajkkoapgaaGreatDoorU02
import Derived.Laws.IdiomStrings
import Derived.Test.YtbejdajkkoapgaaGreatDoorU01
import Derived.Laws.StructEq
set_option linter.all false
set_option maxRecDepth 100000
set_option maxHeartbeats 40000000
open Go.RowKit Go.Lib Go.Proofs.Tryz
open Go renaming Calls->C,Value->V,World->W
open Go.Act renaming put->gT
open Go.Addr renaming add_lit->gR
open Go.Ending renaming returned->R
open Go.IntKind renaming i64->J,u64->U,wrap_i64->gc,wrap_u64->fa
open Go.RowKit renaming Below->B
open Go.Value renaming int->I,pointer->P,slice->L,tuple->T
open Int renaming le_refl->bh,natCast_add->ej,natCast_nonneg->gS,tmod_eq_emod_of_nonneg->fj
open List renaming cons_append->aw,drop_eq_getElem_cons->gY,flatMap_append->fx,flatMap_cons->gZ,foldl_append->es,foldl_cons->Pa,getElem_mem->bw,length_append->fk,length_cons->gX,length_drop->gd,length_filter_le->fw,length_map->dT,length_set->gi,length_take->gQ,map_cons->gg,mem_cons_of_mem->ag,mem_cons_self->NW,mem_of_mem_take->gV,nil_append->gh,take_of_length_le->gW,take_succ_eq_append_getElem->gU
open Nat renaming le_refl->E,le_trans->RR,lt_of_lt_of_le->Q0,mod_eq_of_lt->gm,pow_le_pow_right->gj,zero_add->fy,zero_le->V0
open Option renaming none->N,some->S
open UInt8 renaming ofNat->fp
namespace Go.Proofs.YtbejdajkkoapgaaGreatDoor
def cA(Sk:W->Nat->(Nat->Prop)->AM->Prop)(P:Int×Nat->Bool)(l:AM)(w:W)(e:Ending)(w' :W):Prop:=∃(po:Option Addr) (vv:V) (ok:Bool),e=R (T #[.pointer po,vv,.bool ok])/\B w.heap.size w w' /\
 (ok=true->∃kb O,po=S ⟨kb,0,N⟩/\Sk w' kb O (l.filter P)/\w'.ownsRow 0 59 2 vv (l.filter P).length (De (l.filter P))/\∀k,O k->w.heap.size<=k)
theorem Uz{α:Type}(P:α->Bool)(l:List α)(q)(h:q<l.length):(l.take (q+1)).filter P=(l.take q).filter P++(if P (l[q]'h)then [l[q]'h]else []):=by
 rw[gU h,List.filter_append];congr 1;by_cases A:P (l[q]'h)=true
 ·simp[A]
 ·simp[A]
section
variable {Sk:W->Nat->(Nat->Prop)->AM->Prop} {Enc:List UInt8->AM->Prop} {P:Int×Nat->Bool} {a0 a1 a2 a3 a4 a5 a6 a7 a8 a9 a10:Int}
theorem Xc(K:Kind (Ae a0 a1 a2 a3 a4 a5 a6 a7 a8 a9 a10) Sk Enc P)(w)(ht:Sp.Tens w)(v)(l:AM)(bt)(hv:IF w v l)(hl:fK l)(hi:DK l):
  Calls prog 21 #[.agg #[I J a0,I U a1,I U a2,I J a3,I J a4,I J a5,I U a6,I J a7,I J a8,I J a9,I U a10],.agg #[v,.bool bt]] w (cA Sk P l w):=by
 obtain⟨Av,cv,BQ⟩:=hv.slice;subst BQ;obtain⟨n,hn⟩:∃n,n=l.length:=⟨_,rfl⟩;have HN:=Zh hn;have HV:=Zh hv;have BR:n<=30:=by rw[hn];exact hl.1
 rw[<-hn];have D:=λW (k:B w.heap.size w W)=>K.new W (ht.next k);unfold Ae at D;have A6:w.heap.size+1=(w.alloc (.cells #[I J a0,I U a1,I U a2,I J a3,I J a4,I J a5,I U a6,I J a7,I J a8,I J a9,I U a10] 28)).heap.size:=by simp
 have L0:AI ((w.alloc (.cells #[I J a0,I U a1,I U a2,I J a3,I J a4,I J a5,I U a6,I J a7,I J a8,I J a9,I U a10] 28)).alloc (.cells #[L Av n cv,.bool bt] 55)) (w.heap.size+1) #[L Av n cv,.bool bt] 55:=AI.newAt A6;have Aw:B w.heap.size w ((w.alloc (.cells #[I J a0,I U a1,I U a2,I J a3,I J a4,I J a5,I U a6,I J a7,I J a8,I J a9,I U a10] 28)).alloc (.cells #[L Av n cv,.bool bt] 55)):=((B.refl _ w).alloc (E _) _).alloc (by simp) _;have HL:=Zh (Zi L0 Aw);clear hn hv L0 Aw A6;go_enter func21,ntmps21;go_wp2_with fail;refine(D _ HL.out.2).mono ?_;rintro e w1 ⟨po,a,rfl,b1,h1⟩;clear D;obtain⟨L0,b0⟩:=HL.out;have L1:=L0.below b1 L0.lt;have B1:=b0.trans (b1.mono b0.size);have F:=Zh (show a=0->∃y O,po=some ⟨y,0,N⟩/\Wi Sk w y O [] [] N 0 #[L Av n cv,.bool bt] w1 from λhc=>by
  obtain⟨y,O,A7,H,hO⟩:=h1 hc;exact⟨y,O,A7,H,World.ownsRow_nil _ _ _ _,B1,λk hk=>by have:=hO k hk;simp at this;omega,L1⟩)
 have HB:=Zh B1;clear h1 L0 L1 b0 b1 HL B1;by_cases hc:a=0
 ·subst hc;obtain⟨y,O,rfl,S⟩:=F.out rfl;clear F HB;have c0:w1.cell? ⟨w.heap.size+1,0,N⟩=some (L Av n cv):=S.leaf.cell rfl;go_wp2_with fail;go_loopg [9,24] n (λg r i wr=>∃(q:Nat) (A:Option Addr) (c:Nat) (O:Nat->Prop),i=I J q/\q<=n/\n-q<=g/\r=L A ((l.take q).filter P).length c/\Wi Sk w y O ((l.take q).filter P) ((l.take q).filter P) A c #[L Av n cv,.bool bt] wr);case atStart=>exact⟨0,N,0,O,rfl,V0 _,E _,rfl,S⟩
  case round=>
   clear S c0;obtain⟨q,A,c,O,rfl,hq,hg,rfl,S⟩:=hrel;have Al:((l.take q).filter P).length<=q:=RR (fw _ _) (List.length_take_le _ _);by_cases A8:q<n
   ·have g1:(q:Int)<(n:Int):=by omega
    have d:q<l.length:=by rw[<-HN.out];exact A8
    rcases HV.out.2 with⟨rfl,_⟩|⟨b,o,c',A4,BA,A5⟩
    ·simp at d
    simp only[L.injEq]at A4;obtain⟨rfl,_,rfl⟩:=A4;obtain⟨d0,d1⟩:=A5 q d;rw[<-S.below.cell (p:=⟨b,_,N⟩) BA]at d0 d1;have AA:=Uz P l q d;have m:=hi _ (bw d);have Q:DK ((l.take q).filter P):=λx hx=>hi x (gV (List.mem_filter.1 hx).1);obtain⟨x,hx⟩:∃x,x=l[q]'d:=⟨_,rfl⟩;rw[<-hx]at d0 d1 AA m;obtain⟨X,C⟩:=x;simp only at d0 d1 m;have S1:=S.next K ((B.refl _ _).alloc (E _) (.cells #[I J X,I U C] 59));have f:=K.put _ y O _ (X,C) S1.sk Q (by omega) m.1 m.2;obtain⟨vs,Y⟩:∃vs,vs=(l.take q).filter P:=⟨_,rfl⟩;rw[<-Y]at S S1 f AA Al⊢;have X1:AI (wr.alloc (.cells #[I J X,I U C] 59)) wr.heap.size #[I J X,I U C] 59:=AI.newAt rfl;have HF:=Zh AA;clear hx Y AA A5 S Q;have A9:=X1.lt;go_wp2_with fail;refine f.mono ?_;rintro e w2 ⟨G,j,rfl,u,H,Aa,Ab⟩;have S2:=S1.put K H Aa Ab;have X2:=X1.away Ab λhO=>(K.ty S1.sk _ hO _).1 X1;have x0:w2.cell? ⟨wr.heap.size,0,N⟩=some (I J X):=X2.cell rfl;have x1:w2.cell? ⟨wr.heap.size,1,N⟩=some (I U C):=X2.cell rfl;clear f H Aa Ab X1 X2 S1;by_cases hP:P (X,C)=true
    ·have h0:G=0:=u.2 hP;subst h0;rw[if_pos hP]at S2;rw[if_pos hP]at HF;have F:=Zh S2;clear S2 u;go_wp2_with(at_builtin;refine SC K rfl _ _ rfl F.out (by omega) X C rfl rfl ?_);intro A3 c3 w3 S3;have H3:=Zh S3;clear S3;go_wp2_with fail;go_roundg (n-(q+1));case measure=>omega
     exact⟨q+1,A3,c3,j,by go_num,by omega,by omega,by rw[HF.out];simp,by rw[HF.out];exact H3.out⟩
    ·have h0:¬G=0:=λh=>hP (u.1 h);have h1:(G==0)=false:=by simp[h0]
     rw[if_neg hP]at S2;rw[if_neg hP,List.append_nil]at HF;have F:=Zh S2;clear S2 u;go_wp2_with fail;go_roundg (n-(q+1));case measure=>omega
     exact⟨q+1,A,c,j,by go_num,by omega,by omega,by rw[HF.out],by rw[HF.out];exact F.out⟩
   ·have g1:¬(q:Int)<(n:Int):=by omega
    have Ap:l.take q=l:=by rw[show q=l.length by have:=HN.out;omega,List.take_length]
    rw[Ap]at S Al⊢;have Q:DK (l.filter P):=λx hx=>hi x (List.mem_filter.1 hx).1;generalize Y:l.filter P=vs at S Al Q⊢;have HW:=Zh Y;have c1:wr.cell? ⟨w.heap.size+1,1,N⟩=some (.bool bt):=S.leaf.cell rfl;clear Ap Y;have A1:=Zh (show∀(W:World) (M :Nat) (j :Nat->Prop) (vv:V) (e:Ending),e=R (T #[.pointer (some ⟨M,0,N⟩),vv,.bool true])->B w.heap.size w W->Sk W M j vs->W.ownsRow 0 59 2 vv vs.length (De vs)->(∀k,j k->w.heap.size<=k)->cA Sk P l w e W from
     λW M j vv e he hb hs hv ho=>⟨_,_,true,he,hb,λ_=>⟨M,j,rfl,by rw[HW.out];exact hs,by rw[HW.out];exact hv,ho⟩⟩)
    cases bt with
    |false=>
     have F:=Zh S;clear S;go_wp2_with fail;go_ret3;exact A1.out _ y O _ _ rfl F.out.below F.out.sk (AO F.out.own λ_ _=>V0 _) λk hk=>by have:=F.out.new k hk;omega
    |true=>
     have Ax:=K.bytes wr y O vs S.sk Q (by omega);have F:=Zh S;clear S;go_wp2_with fail;refine Ax.mono ?_;rintro e w2 ⟨s,rfl,Ar,b2⟩;have A2:=K.decode w2 s vs (ht.next (F.out.below.trans (b2.mono F.out.below.size))) Ar Q (by omega);have Ac:=Zh (F.out.next K b2);clear Ax F b2;go_wp2_with fail;refine A2.mono ?_;rintro e w3 ⟨po,Z,rfl,b3,h3⟩;have Ay:=Zh (Zi (Ac.out.next K b3) (Zi h3 Ac.out.below.size));clear A2 Ac b3 h3;by_cases A0:Z=0
     ·subst A0;go_wp2_with fail;go_ret3;obtain⟨s1,h3,hz⟩:=Ay.out;obtain⟨M,j,rfl,H,D⟩:=h3 (by first|rfl|trivial);exact A1.out _ M j _ _ rfl s1.below H (AO s1.own λ_ _=>V0 _) λk hk=>by have:=D k hk;omega
     ·have h0:(Z==0)=false:=by simp[A0]
      go_wp2_with fail;go_ret3;exact⟨_,_,false,rfl,Ay.out.1.below,λh=>by cases h⟩
 ·have BX:(a !=0)=true:=by simp[hc]
  go_wp2_with fail;go_ret3;exact⟨N,_,false,rfl,HB.out,λh=>by cases h⟩
end
theorem IP{W b a0 a1 a2 a3 a4 a5 a6 a7 a8 a9 a10}(h:AI W b (Ae a0 a1 a2 a3 a4 a5 a6 a7 a8 a9 a10) 28):W.cell? ⟨b,0,N⟩=S (I J a0)/\W.cell? ⟨b,1,N⟩=S (I U a1)/\W.cell? ⟨b,2,N⟩=S (I U a2)/\W.cell? ⟨b,3,N⟩=S (I J a3)/\W.cell? ⟨b,4,N⟩=S (I J a4)/\W.cell? ⟨b,5,N⟩=S (I J a5)/\
  W.cell? ⟨b,6,N⟩=S (I U a6)/\W.cell? ⟨b,7,N⟩=S (I J a7)/\W.cell? ⟨b,8,N⟩=S (I J a8)/\W.cell? ⟨b,9,N⟩=S (I J a9)/\W.cell? ⟨b,10,N⟩=S (I U a10):=
 ⟨h.cell rfl,h.cell rfl,h.cell rfl,h.cell rfl,h.cell rfl,h.cell rfl,h.cell rfl,h.cell rfl,h.cell rfl,h.cell rfl,h.cell rfl⟩
theorem aM(z:Int)(n:Nat)(G:1<n)(h:n<=1000):∃t:Nat,wrap64 ((U.wrap z).tmod ((n:Int)-1))=(t:Int)/\t+1<n:=by
 have A:0<=U.wrap z:=by rw[fa];omega
 rw[fj A];have F:=Int.emod_nonneg (U.wrap z) (b:=(n:Int)-1) (by omega);have D:=Int.emod_lt_of_pos (U.wrap z) (b:=(n:Int)-1) (by omega);generalize U.wrap z % ((n:Int)-1)=y at*;refine⟨y.toNat,?_,by omega⟩;unfold wrap64;omega
theorem Xd{α:Type}(A D:List α)(a b:α)(t)(h:A.length=t):(A++a::b::D).take (t+1)++(A++a::b::D).drop (t+2)=A++a::D:=by
 subst h;have F:(A++a::b::D).take (A.length+1)=A++ [a]:=by
  rw[show A++a::b::D=(A++ [a])++b::D by simp,show A.length+1=(A++ [a]).length by simp,List.take_left]
 have G:(A++a::b::D).drop (A.length+2)=D:=by
  rw[show A++a::b::D=(A++ [a,b])++D by simp,show A.length+2=(A++ [a,b]).length by simp,List.drop_left]
 rw[F,G];simp
def DF(w:W)(v:V)(zs:List Int):Prop:=
 zs.length<=maxLen/\(∀z∈zs,Am z)/\((zs=[]/\∃A c,v=L A 0 c)\/∃b o c,v=L (S ⟨b,o,N⟩) zs.length c/\b<w.heap.size/\∀i (h:i<zs.length),w.cell? ⟨b,o+i,N⟩=S (I J (zs[i]'h)))
theorem DF.slice{w v D}(h:DF w v D):∃A c,v=L A D.length c:=by
 rcases h.2.2 with⟨rfl,A,c,rfl⟩|⟨b,o,c,rfl,_⟩
 ·exact⟨A,c,rfl⟩
 ·exact⟨_,c,rfl⟩
def Du(P:Int×Nat->Bool)(L:DG)(q:Nat):AM:=(L.take q).flatMap λx=>x.1.filter P
theorem K2(P:Int×Nat->Bool)(L:DG)(q)(h:q<L.length):Du P L (q+1)=Du P L q++(L[q]'h).1.filter P:=by
 unfold Du;rw[gU h,fx];simp
theorem JT(P:Int×Nat->Bool)(L:DG)(A:OC L)(q):(Du P L q).length<=30*q:=by
 induction q with
 |zero=>simp[Du]
 |succ q D=>
  by_cases h:q<L.length
  ·rw[K2 P L q h,fk];have G:=(A.2 _ (bw h)).1;have F:=fw P (L[q]'h).1;omega
  ·have:Du P L (q+1)=Du P L q:=by unfold Du;rw[gW (by omega),gW (by omega)]
   rw[this];omega
theorem Py(P:Int×Nat->Bool)(L:DG)(hi:∀x∈L,DK x.1)(q):DK (Du P L q):=λy A=>by
 unfold Du at A
 obtain⟨x,D,A⟩:=List.mem_flatMap.1 A
 exact hi x (gV D) y (List.mem_filter.1 A).1
def cB(Sk:W->Nat->(Nat->Prop)->AM->Prop)(P:Int×Nat->Bool)(L:DG)(w:W)(e:Ending)(w' :W):Prop:=∃(po:Option Addr) (vv:V) (ok:Bool),e=R (T #[.pointer po,vv,.bool ok])/\B w.heap.size w w' /\
 (ok=true->∃kb O,po=S ⟨kb,0,N⟩/\Sk w' kb O (Du P L L.length)/\w'.ownsRow 0 59 2 vv (Du P L L.length).length (De (Du P L L.length))/\∀k,O k->w.heap.size<=k)
section
variable {Sk:W->Nat->(Nat->Prop)->AM->Prop} {Enc:List UInt8->AM->Prop} {P:Int×Nat->Bool} {a0 a1 a2 a3 a4 a5 a6 a7 a8 a9 a10:Int}
theorem Xe(K:Kind (Ae a0 a1 a2 a3 a4 a5 a6 a7 a8 a9 a10) Sk Enc P)(w)(ht:Sp.Tens w)(v pv)(L:DG)(zs)(hv:Dd w v L)(hp:DF w pv zs)(hL:OC L)(hi:∀x∈L,DK x.1):
  Calls prog 9 #[.agg #[I J a0,I U a1,I U a2,I J a3,I J a4,I J a5,I U a6,I J a7,I J a8,I J a9,I U a10],v,pv] w (cB Sk P L w):=by
 obtain⟨Av,cv,HD⟩:=hv.slice;subst HD;obtain⟨Ap,cp,HC⟩:=hp.slice;subst HC;obtain⟨m,hm⟩:∃m,m=L.length:=⟨_,rfl⟩;have HM:=Zh hm;have HV:=Zh hv;have HP:=Zh hp;have Hb:m<=12:=by rw[hm];exact hL.1
 rw[<-hm];obtain⟨pn,B1⟩:∃pn,pn=zs.length:=⟨_,rfl⟩;have G3:=Zh B1;have G9:pn<=maxLen:=by rw[B1];exact hp.1
 unfold maxLen at G9;rw[<-B1];have C0:AI (w.alloc (.cells #[I J a0,I U a1,I U a2,I J a3,I J a4,I J a5,I U a6,I J a7,I J a8,I J a9,I U a10] 28)) w.heap.size (Ae a0 a1 a2 a3 a4 a5 a6 a7 a8 a9 a10) 28:=AI.newAt rfl;have S0:IG Sk w (Ae a0 a1 a2 a3 a4 a5 a6 a7 a8 a9 a10) [] [] [] (.slice N 0 0) (.slice N 0 0) (w.alloc (.cells #[I J a0,I U a1,I U a2,I J a3,I J a4,I J a5,I U a6,I J a7,I J a8,I J a9,I U a10] 28)):=
  ⟨λx hx=>by simp at hx,List.Pairwise.nil,λx hx=>by simp at hx,World.ownsRow_nil _ _ _ _,World.ownsRow_nil _ _ _ _,Za,C0⟩
 have HO:=Zh ht;clear hm hv hp B1 C0 ht;go_enter func9,ntmps9;go_wp2_with fail;go_loopg [9,10,20] m (λg r a i wr=>∃(q:Nat) (X:List It) (A:List Nat) (c:AM) (Ar Aa:Option Addr) (cr ca:Nat),i=I J q/\q<=m/\m-q<=g/\r=.slice Ar A.length cr/\a=.slice Aa c.length ca/\IG Sk w (Ae a0 a1 a2 a3 a4 a5 a6 a7 a8 a9 a10) X A c (.slice Ar A.length cr) (.slice Aa c.length ca) wr/\A=X.map It.kb/\c=Du P L q/\X.length=q/\X.flatMap It.vals=Du P L q);case atStart=>exact⟨0,[],[],[],N,N,0,0,rfl,V0 _,E _,rfl,rfl,S0,rfl,rfl,rfl,rfl⟩
 case round=>
  clear S0;obtain⟨q,X,A,c,Ar,Aa,cr,ca,rfl,hq,hg,rfl,rfl,S,D,B4,Z,E5⟩:=hrel;have HK:=Zh (Zi D (Zi B4 (Zi Z E5)));have d:A.length=q:=by rw[D,dT,Z]
  have GM:=Zh d;clear Z E5 D B4 d;by_cases GK:q<m
  ·have g1:(q:Int)<(m:Int):=by omega
   have Y:q<L.length:=by rw[<-HM.out];exact GK
   rcases HV.out.2 with⟨rfl,_⟩|⟨b,o,c',GD,HW,GE⟩
   ·simp at Y
   simp only[V.slice.injEq]at GD;obtain⟨rfl,_,rfl⟩:=GD;obtain⟨u,d0,d1,C4⟩:=GE q Y;rw[<-S.below.cell (p:=⟨b,_,N⟩) HW]at d0 d1;have C2:=C4.below S.below;obtain⟨A',E1,hu⟩:=C4.slice;subst hu;have Bw:=hL.2 _ (bw Y);have A1:=hi _ (bw Y);have Ba:=K2 P L q Y;have A8:=JT P L hL q;have E6:=fw P (L[q]'Y).1;have Ac:=Bw.1;generalize(L[q]'Y).2=bt at*;generalize(L[q]'Y).1=lf at*;obtain⟨n,hn⟩:∃n,n=lf.length:=⟨_,rfl⟩;have S1:=S.next K ((B.refl _ _).alloc (E _) (.cells #[.slice A' lf.length E1,.bool bt] 55));have s:=Xc K (wr.alloc (.cells #[.slice A' lf.length E1,.bool bt] 55)) (HO.out.next (S.below.alloc S.below.size _)) _ lf bt (C2.below (Za)) Bw A1;rw[<-hn]at s S1 d0;obtain⟨k0,k1,k2,k3,k4,k5,k6,k7,k8,k9,Hi⟩:=IP S1.cfg;have Hc:=S1.cfg.lt;have Q:=Zh (Zi Ba (Zi A8 (Zi E6 Ac)));have D4:=Zh S1;clear hn C4 C2 Bw A1 Ba A8 E6 Ac GE S S1;go_wp2_with fail;refine s.mono ?_;rintro e w2 ⟨po,vv,ok,rfl,b2,h2⟩;have E8:=Zh b2;clear s b2;cases ok with
   |false=>
    clear h2;go_wp2_with fail;go_ret3;exact⟨N,_,false,rfl,(D4.out.next K E8.out).below,λh=>by cases h⟩
   |true=>
    obtain⟨kb,O,rfl,A7,B0,C1⟩:=h2 rfl;have S2:=D4.out.add K E8.out ⟨kb,O,lf.filter P⟩ A7 C1;have H2:=Zh S2;have D0:=Zh B0;clear A7 C1 S2 B0 h2;have d:=GM.out;have B3:c.length<=30*q:=by rw[HK.out.2.1];exact Q.out.2.1
    have GB:(lf.filter P).length<=30:=RR Q.out.2.2.1 Q.out.2.2.2;have HH:=Zh (Zi d (Zi B3 GB));clear d B3 GB;have SA:=H2.out.next K ((B.refl _ _).alloc (E _) (.cells #[.pointer (some ⟨kb,0,N⟩)] 34));have Bt:=Zh SA;clear SA;go_wp2_with(at_builtin;refine Pw K rfl _ _ rfl Bt.out w.heap.size (E _) Bt.out.below.size Bt.out.row [kb] ⟨w2.heap.size,0,N⟩ 1 (by have:=HH.out.1;simp;omega) rfl rfl (λi hi=> ?_) ?_)
    ·have:i=0:=by simpa using hi
     subst this;exact(AI.newAt rfl).cell rfl
    intro A3 c3 w3 S3 _ E4;have G5:w3.ownsRow 0 59 2 vv (lf.filter P).length (De (lf.filter P)):=(D0.out.alloc _).kept E4 (by
     rcases B0:vv.ownBlock with _|g
     ·exact .inl rfl
     ·refine .inr λe=> ?_;obtain⟨D5,hc⟩:=AJ (D0.out.alloc (.cells #[.pointer (some ⟨kb,0,N⟩)] 34)) B0;obtain⟨HZ,B2⟩:=AJ Bt.out.row e.symm;exact(hc.ne B2 (by decide)) rfl)
    have Gd:=Zh S3;have D3:=Zh G5;clear E4 S3 G5 D0 Bt;go_wp2_with(at_builtin;refine Px K rfl _ _ rfl Gd.out D3.out (by have:=HH.out.2;omega) rfl rfl ?_);intro A4 c4 w4 S4;have HQ:=Zh S4;clear S4 Gd D3;go_wp2_with fail;go_roundg (m-(q+1));case measure=>omega
    obtain⟨e1,e2,e3,e4⟩:=HK.out;refine⟨q+1,X++ [⟨kb,O,lf.filter P⟩],A++ [kb],c++lf.filter P,A3,A4,c3,c4,by go_num,by omega,by omega,by simp,by simp,by simp only[fk,gX,List.length_nil,fy];exact HQ.out,by rw[e1];simp,by rw[e2,Q.out.1],by simp[e3],by rw[fx,e4,Q.out.1];simp⟩
  ·have E2:q=m:=by omega
   have g1:¬(q:Int)<(m:Int):=by omega
   obtain⟨e1,e2,e3,e4⟩:=HK.out;rw[E2]at e2 e3 e4;have A8:=JT P L hL m;have Aw:=Py P L hi m;rw[<-e2]at e4 A8 Aw;have C9:=Zh (Zi e2 (Zi A8 Aw));have BR:X.length<=12:=by omega
   have HE:=Zh (Zi e1 (Zi e4 BR));have Q:=Zh S;have Cr:∀x∈X,DK x.vals:=λx hx y hy=>Aw y (by rw[<-e4];exact List.mem_flatMap.2 ⟨x,hx,hy⟩);have HA:=Zh Cr;clear e1 e2 e3 e4 A8 Aw S E2 HK BR Cr GM GK hg;have d:A.length<=12:=by rw[HE.out.1,dT];exact HE.out.2.2
   go_wp2_with fail;go_loopg [9,16] A.length (λg r k wr=>∃(AA:List It) (Ab:List Nat) (n2 kk:Nat) (A2:Option Addr) (c2:Nat),k=I J kk/\kk+g<=100/\r=.slice A2 n2 c2/\n2=Ab.length/\n2<=g/\n2<=12/\IG Sk w (Ae a0 a1 a2 a3 a4 a5 a6 a7 a8 a9 a10) AA Ab c (.slice A2 n2 c2) (.slice Aa c.length ca) wr/\Ab=AA.map It.kb/\AA.flatMap It.vals=c);case atStart=>exact⟨X,A,A.length,0,Ar,cr,rfl,by omega,rfl,rfl,E _,d,Q.out,HE.out.1,HE.out.2.1⟩
   case round=>
    clear Q HE HA d;obtain⟨X,A,n,kk,Ar,cr,rfl,Hl,rfl,hn,hg,HY,S,D,M⟩:=hrel;have HE:=Zh (Zi hn (Zi D M));clear hn D M;by_cases HF:1<n
    ·have f1:(1:Int)<(n:Int):=by omega
     have Q:=Zh S;have f3:(1:Int)<=(n:Int)-1:=by omega
     have f4:U.wrap ((n:Int)-1)=(n:Int)-1:=by rw[fa];omega
     clear S;go_upto_if 49 with fail;go_cut [17,49]from 50 to 60 (λx _ wx=>(∃t:Nat,x=I J t/\t+1<n)/\wx=wr);case first=>
      by_cases HN:kk<pn
      ·have f2:(kk:Int)<(pn:Int):=by omega
       rcases HP.out.2.2 with⟨h0,_⟩|⟨b2,o2,c2,FR,G7,B2⟩
       ·have:=G3.out;rw[h0]at this;simp at this;omega
       simp only[V.slice.injEq]at FR;obtain⟨rfl,_,rfl⟩:=FR;have GF:kk<zs.length:=by rw[<-G3.out];exact HN
       have d0:=B2 kk GF;rw[<-Q.out.below.cell (p:=⟨b2,_,N⟩) G7]at d0;generalize zs[kk]'GF=z at d0;have hz:=Zh (aM z n HF (by omega));clear B2;go_wp2_with fail;go_meet;refine⟨?_,rfl⟩;obtain⟨t,h1,h2⟩:=hz.out;exact⟨t,congrArg (I J) h1,h2⟩
      ·have f2:¬(kk:Int)<(pn:Int):=by omega
       go_wp2_with fail;go_meet;exact⟨⟨0,rfl,by omega⟩,rfl⟩
     case rest=>
      obtain⟨⟨t,rfl,ht⟩,rfl⟩:=hcut;have S:=Q.out;clear Q f3 f4;obtain⟨hn,D,M⟩:=HE.out;have Z:X.length=n:=by rw[hn,D,dT]
      obtain⟨Bs,x,y,Ax,HB,Bu⟩:∃(Bs:List It) (x y:It) (Ax:List It),X=Bs++x::y::Ax/\Bs.length=t:=by
       have h1:t<X.length:=by omega
       have h2:t+1<X.length:=by omega
       refine⟨X.take t,X[t],X[t+1],X.drop (t+2),?_,by simp;omega⟩;conv=>lhs;rw[<-List.take_append_drop t X]
       rw[gY h1,gY h2]
      subst HB;rcases AH S.row with⟨_,h0,_⟩|⟨g,HT,Bb,GH,G8,GG,A0⟩
      ·omega
      simp only[V.slice.injEq]at Bb;obtain⟨rfl,D2,rfl⟩:=Bb;have j:wc.ownsRow w.heap.size 34 1 (.slice (some ⟨g,0,N⟩) A.length cr) A.length (FZ A):=by
       have:=S.row;rwa [hn]at this
      have F:∀i (h:i<A.length),wc.cell? ⟨g,i,N⟩=some (.pointer (some ⟨A[i]'h,0,N⟩)):=λi h=>by
       rw[j.cellAt i (by omega)];exact Kz A i h
      have c1:wc.cell? ⟨g,t,N⟩=some (.pointer (some ⟨x.kb,0,N⟩)):=by
       rw[F t (by omega)];simp[D,<-Bu]
      have c2:wc.cell? ⟨g,t+1,N⟩=some (.pointer (some ⟨y.kb,0,N⟩)):=by
       rw[F (t+1) (by omega)];simp[D,<-Bu]
      have A1:∀z∈Bs++x::y::Ax,DK z.vals:=λz hz u hu=>C9.out.2.2 u (by rw[<-M];exact List.mem_flatMap.2 ⟨z,hz,hu⟩);have CL:x.vals.length+y.vals.length<=360:=by
       have h1:=C9.out.2.1;rw[<-M,fx,gZ,gZ]at h1;simp only[fk]at h1;omega
      have B5:∀k,x.own k->¬y.own k:=(List.pairwise_cons.1 (List.pairwise_append.1 S.ap).2.1).1 y (NW ..);have l:=K.join wc.drew x.kb y.kb x.own y.own x.vals y.vals (K.drew (S.sk x (by simp))) (K.drew (S.sk y (by simp))) B5 (A1 x (by simp)) (A1 y (by simp)) CL;have Q:=Zh (Zi S (Zi F (Zi GG A0)));have C3:=Zh (Zi Bu (Zi hn (Zi D M)));clear S A1 CL B5 hn D M D2 Z F HE j;have g2:(t:Int)<(n:Int):=by omega
      have g3:(t:Int)+1<(n:Int):=by omega
      obtain⟨w1,G6⟩:∃w1,w1=wc:=⟨_,rfl⟩;subst G6;go_upto_region 18 with fail;go_cut [71]from 61 to 70 (λv wx=>∃(G:Int) (O' :Nat->Prop),v=.bool (G !=0)/\(G=0->Sk wx x.kb O' (x.vals++y.vals))/\BV w1.drew x.own O' /\AD x.own w1.drew wx);case first=>
       refine AS 9 (C:=λW=>W=w1.drew) (by kernel_rfl) (by kernel_rfl) rfl ?_;simp only[List.take_succ_cons,List.take_zero,List.drop_succ_cons,List.drop_zero];repeat go_big_quiet_step(exact λ_=>rfl)
       refine wpQuiet_nil ?_;intro w2 HG;subst HG;go_wp2_with fail;refine l.mono ?_;rintro e w3 ⟨G,O',rfl,GL⟩;have HJ:=Zh GL;clear GL l;go_wp2_with fail;go_meet;exact⟨G,O',rfl,HJ.out⟩
      case rest=>
      obtain⟨G,O',rfl,A7,BQ,Ay⟩:=hcut;clear l c1 c2;have SD:=Q.out.1.drew K;have D1:∀k,x.own k->w.heap.size+1<=k:=Q.out.1.new x (by simp);have BA:=Zh (SD.below.trans (Ay.below SD.below.size λk hk e=>by have:=D1 k e;omega));by_cases E9:G=0
      ·subst E9;have SJ:=SD.join K (A7 (by first|rfl|trivial)) BQ Ay;have HI:¬x.own g:=λe=>by
        obtain⟨D5,hc⟩:=AJ SD.row rfl;exact(K.ty (SD.sk x (by simp)) g e D5).2 hc
       have F:∀i (h:i<A.length),wc.cell? ⟨g,i,N⟩=some (.pointer (some ⟨A[i]'h,0,N⟩)):=λi h=>by
        rw[Ay.cell (p:=⟨g,i,N⟩) Q.out.2.2.2 HI];exact Q.out.2.1 i h
       have A0:g<wc.heap.size:=Q0 Q.out.2.2.2 Ay.size;have E0:(wc.alloc (.cells #[] 34)).drew.ownsRow wc.heap.size 34 1 (.slice (some ⟨wc.heap.size,0,N⟩) 0 0) ([]:List Nat).length (FZ []):=
        World.ownsRow_made wc #[] 0 (E _) (V0 _) rfl
       have D8:=(SJ.next K ((B.refl _ _).alloc (E _) (.cells #[] 34))).drew K;have HX:=Zh (Zi F (Zi E0 D8));clear F E0 D8 SJ SD A7 BQ Ay;have HR:A.length=n:=by rw[<-C3.out.2.1]
       have g4:(t:Int)+2<=(n:Int):=by omega
       have g5:(n:Int)<=(cr:Int):=by omega
       have g6:(t:Int)+1<=(cr:Int):=by omega
       have g7:t+1<=cr:=by omega
       have g8:t+2<=n:=by omega
       have g9:n<=cr:=by omega
       have i1:((t:Int)+1).toNat=t+1:=by omega
       have i2:((t:Int)+2).toNat=t+2:=by omega
       have v1:J.wrap ((t:Int)+1)=(t:Int)+1:=by rw[gc];omega
       have v2:J.wrap ((t:Int)+2)=(t:Int)+2:=by rw[gc];omega
       have v3:(0:Int)<=(t:Int)+1:=by omega
       have v4:(0:Int)<=(t:Int)+2:=by omega
       go_upto_region 20 with fail;have GC:(A.take (t+1)).length=t+1:=by rw[gQ];omega
       have Go:(A.drop (t+2)).length=n-(t+2):=by rw[gd];omega
       have H:=Zh (Zi GC Go);clear GC Go HR;have E3:=Zh (show∀i (h:i<(A.take (t+1)).length),(wc.alloc (.cells #[] 34)).drew.cell? ((⟨g,0,N⟩:Addr).add i)=some (.pointer (some ⟨(A.take (t+1))[i]'h,0,N⟩))from λi h=>by
        rw[gQ]at h;have hb:B wc.heap.size wc (wc.alloc (.cells #[] 34)).drew:=((B.refl _ wc).alloc (E _) _).drew;rw[gR,fy,hb.cell (p:=⟨g,i,N⟩) A0,HX.out.1 i (by omega),List.getElem_take])
       have E7:=Zh (show∀(o:Nat) (w5:World),(o=t+2\/A.drop (t+2)=[])->(wc.alloc (.cells #[] 34)).drew.grownBy w5 (V.slice (some ⟨wc.heap.size,0,N⟩) 0 0).ownBlock->∀i (h:i<(A.drop (t+2)).length),w5.cell? ((⟨g,o,N⟩:Addr).add i)=some (.pointer (some ⟨(A.drop (t+2))[i]'h,0,N⟩))from λo w5 ho hg i h=>by
        rcases ho with rfl|ho
        ·have hb:B wc.heap.size wc (wc.alloc (.cells #[] 34)).drew:=((B.refl _ wc).alloc (E _) _).drew;have HU:=hg.block g (Q0 A0 hb.size) (λe=>by have e' :g=wc.heap.size:=Option.some.inj e;omega);have hl:t+2+i<A.length:=by rw[gd]at h;omega
         rw[gR,World.cell?_of_block (w:=(wc.alloc (.cells #[] 34)).drew) HU,hb.cell (p:=⟨g,t+2+i,N⟩) A0,HX.out.1 (t+2+i) hl,List.getElem_drop]
        ·rw[ho]at h;simp at h)
       have Al:wc.heap.size<=(wc.alloc (.cells #[] 34)).drew.heap.size:=by show wc.heap.size<=(wc.alloc (.cells #[] 34)).heap.size;simp
       have Cp:([]:List Nat).length+(A.take (t+1)).length<=100000:=by rw[H.out.1];simp;omega
       have B9:(A.take (t+1)).length+(A.drop (t+2)).length<=100000:=by rw[H.out.1,H.out.2];omega
       have Ck:(A.take (t+1)++A.drop (t+2)).length=n-1:=by rw[fk,H.out.1,H.out.2];omega
       have BX:=Zh Ck;clear Ck;have G2:=Zh (show∀(A6:Option Addr) (c6:Nat) (w6:World),IG Sk w (Ae a0 a1 a2 a3 a4 a5 a6 a7 a8 a9 a10) (Bs++⟨x.kb,O',x.vals++y.vals⟩::Ax) (A.take (t+1)++A.drop (t+2)) c (.slice A6 (n-1) c6) (.slice Aa c.length ca) w6->
         ∃(AA:List It) (Ab:List Nat) (n2 k2:Nat) (A2:Option Addr) (c2:Nat),I J ((kk:Int)+1)=I J k2/\k2+(n-1)<=100/\V.slice A6 (n-1) c6=.slice A2 n2 c2/\n2=Ab.length/\n2<=n-1/\n2<=12/\IG Sk w (Ae a0 a1 a2 a3 a4 a5 a6 a7 a8 a9 a10) AA Ab c (.slice A2 n2 c2) (.slice Aa c.length ca) w6/\Ab=AA.map It.kb/\AA.flatMap It.vals=c from λA6 c6 w6 S6=>by
        obtain⟨p1,p2,p3,p4⟩:=C3.out;refine⟨_,_,n-1,kk+1,A6,c6,by go_num,by omega,rfl,BX.out.symm,E _,by omega,S6,?_,?_⟩
        ·rw[p3,List.map_append,gg,gg,Xd _ _ _ _ t (by rw[dT];exact p1)];simp
        ·rw[<-p4];simp)
       by_cases Hj:cr=t+2
       ·have Fn:A.drop (t+2)=[]:=List.drop_eq_nil_of_le (by rw[<-C3.out.2.1];omega);have HL:=Zh Fn;clear Fn;go_region_law (first
         |(refine Hf K rfl _ _ rfl HX.out.2.2 wc.heap.size BA.out.size Al HX.out.2.1 (A.take (t+1)) ⟨g,0,N⟩ (t+1) _ H.out.1 (A.take (t+1)) (t+1) (gh _) H.out.1 Cp rfl rfl E3.out ?_
           rintro A5 c5 w5 ⟨S5,o5,A9⟩;have H5:=Zh (Zi S5 (Zi o5 A9));clear S5 o5 A9)
         |(refine Hf K rfl _ _ rfl H5.out.1 wc.heap.size BA.out.size (RR Al H5.out.2.2.size) H5.out.2.1 (A.drop (t+2)) ⟨g,0,N⟩ (n-(t+2)) _ H.out.2 (A.take (t+1)++A.drop (t+2)) (n-1) rfl BX.out B9 rfl rfl (E7.out 0 w5 (.inr HL.out) H5.out.2.2) ?_
           rintro A6 c6 w6 ⟨S6,o6,C8⟩;have H6:=Zh S6;clear S6 o6 C8))
        all_goals(
         go_wp2_with fail;go_roundg (n-1);case measure=>omega
         exact G2.out A6 c6 w6 H6.out)
       ·go_region_law (first
         |(refine Hf K rfl _ _ rfl HX.out.2.2 wc.heap.size BA.out.size Al HX.out.2.1 (A.take (t+1)) ⟨g,0,N⟩ (t+1) _ H.out.1 (A.take (t+1)) (t+1) (gh _) H.out.1 Cp rfl rfl E3.out ?_
           rintro A5 c5 w5 ⟨S5,o5,A9⟩;have H5:=Zh (Zi S5 (Zi o5 A9));clear S5 o5 A9)
         |(refine Hf K rfl _ _ rfl H5.out.1 wc.heap.size BA.out.size (RR Al H5.out.2.2.size) H5.out.2.1 (A.drop (t+2)) ⟨g,t+2,N⟩ (n-(t+2)) _ H.out.2 (A.take (t+1)++A.drop (t+2)) (n-1) rfl BX.out B9 rfl rfl (E7.out (t+2) w5 (.inl rfl) H5.out.2.2) ?_
           rintro A6 c6 w6 ⟨S6,o6,C8⟩;have H6:=Zh S6;clear S6 o6 C8))
        all_goals(
         go_wp2_with fail;go_roundg (n-1);case measure=>omega
         exact G2.out A6 c6 w6 H6.out)
      ·have Hk:(G !=0)=true:=by simp[E9]
       clear A7 BQ Ay SD;go_wp2_with fail;go_ret3;exact⟨N,_,false,rfl,BA.out,λh=>by cases h⟩
    ·have f1:¬(1:Int)<(n:Int):=by omega
     by_cases G1:n=0
     ·subst G1;have Q:=Zh S;clear S;go_wp2_with fail;go_ret3;exact⟨N,_,false,rfl,Q.out.below,λh=>by cases h⟩
     ·have Cs :n=1:=by omega
      have f2:(0:Int)<(n:Int):=by omega
      have f3:0<n:=by omega
      have f4:((n:Int)==0)=false:=by simp;omega
      obtain⟨hn,D,M⟩:=HE.out;have Z:X.length=1:=by rw[<-dT (f:=It.kb),<-D,<-hn];exact Cs
      obtain⟨x,rfl⟩:=List.length_eq_one_iff.1 Z;rcases AH S.row with⟨_,h0,_⟩|⟨g,HT,Bb,GH,G8,GG,A0⟩
      ·omega
      simp only[V.slice.injEq]at Bb;obtain⟨rfl,D2,rfl⟩:=Bb;have j:wr.ownsRow w.heap.size 34 1 (.slice (some ⟨g,0,N⟩) A.length cr) A.length (FZ A):=by
       have:=S.row;rwa [hn]at this
      have c1:wr.cell? ⟨g,0,N⟩=some (.pointer (some ⟨x.kb,0,N⟩)):=by
       rw[j.cellAt 0 (by omega),D];rfl
      have GA:=Zh (show cB Sk P L w (R (T #[.pointer (some ⟨x.kb,0,N⟩),.slice Aa c.length ca,.bool true])) wr from by
       have e:c=Du P L L.length:=by rw[C9.out.1,HM.out]
       have e2:x.vals=Du P L L.length:=by rw[<-e,<-M];simp
       refine⟨_,_,true,rfl,S.below,λ_=>⟨x.kb,x.own,rfl,?_,?_,λk hk=>Nat.le_of_succ_le (S.new x (by simp) k hk)⟩⟩
       ·rw[<-e2];exact S.sk x (by simp)
       ·rw[<-e];exact AO S.all λ_ _=>V0 _)
      clear S M D hn Z j D2 HE Cs G1;go_wp2_with fail;go_ret3;exact GA.out
end
theorem Pz{w w' v D}(h:DF w v D)(hb:B w.heap.size w w'):DF w' v D:=by
 obtain⟨G,F,H⟩:=h;refine⟨G,F,H.imp id ?_⟩;rintro⟨b,o,c,rfl,A,K⟩;exact⟨b,o,c,rfl,Q0 A hb.size,λi hi=>by rw[hb.cell (p:=⟨b,_,N⟩) A];exact K i hi⟩
structure aN(w:World)(g n:Nat)(t:List UInt8)(W:World):Prop where
 len:t.length=n
 cell:∀j (h:j<t.length),W.cell? ⟨g,j,N⟩=S (I .u8 ((t[j]'h).toNat:Int))/\W.frozen? ⟨g,j,N⟩=false
 lt:g<W.heap.size
 new:w.heap.size<=g
 below:B w.heap.size w W
section
variable {w W:World} {g n:Nat} {t:List UInt8}
theorem aN.at(h:aN w g n t W)(j)(A:j<n):W.cell? ⟨g,j,N⟩=S (I .u8 ((t[j]'(by rw[h.len];exact A)).toNat:Int)):=(h.cell j (by rw[h.len];exact A)).1
theorem aN.set(h:aN w g n t W)(j b)(H:j<n):aN w g n (t.set j b) (W.setCell ⟨g,j,N⟩ (I .u8 b.toNat)):=by
 refine⟨by rw[gi];exact h.len,λi hi=> ?_,by simp[World.setCell];exact h.lt,h.new,h.below.setCell (p:=⟨g,j,N⟩) h.new _⟩;have A:i<t.length:=by rw[gi]at hi;exact hi
 obtain⟨D,F⟩:=h.cell i A;refine⟨?_,by rw[World.frozen?_setCell];exact F⟩;by_cases e:j=i
 ·subst e;rw[World.cell?_setCell_same' W ⟨g,j,N⟩ _ (by rw[D];rfl)];simp
 ·rw[World.cell?_setCell_other (w:=W) (a:=⟨g,j,N⟩) (b:=⟨g,i,N⟩) (h:=λG=>e (by injection G)),D,List.getElem_set_ne e]
end
theorem aN.start(w D)(hb:B w.heap.size w D)(s A C)(F:C=bytesRow (bs s) A):aN w D.heap.size s.length s (D.drew.alloc (.cells C 5 (C.size,C.size+1))):=by
 have G:(D.drew.alloc (.cells C 5 (C.size,C.size+1))).heap[D.heap.size]?=S (.cells C 5 (C.size,C.size+1)):=heap_alloc_new D.drew _;have H:s.length<=C.size:=by
  rw[F];have:=bytesRow_at (bs s) A;by_cases h:s.length=0
  ·omega
  ·have M:=this (s.length-1) (by simp[bs];omega);have:=(Array.getElem?_eq_some_iff.1 M).1;omega
 refine⟨rfl,λj K=>⟨?_,?_⟩,by simp,hb.size,hb.drew.alloc hb.size _⟩
 ·rw[cell_of_row _ _ _ _ _ _ G,F,bytesRow_at (bs s) A j (by simp[bs];exact K)];simp[bs]
 ·unfold W.frozen?;rw[G];simp;omega
theorem Xf(z:Int)(n:Nat)(F:8<=n)(h:n<=200000):∃k:Nat,wrap64 ((U.wrap z).tmod (8*(n:Int)-31))=(k:Int)/\k+31<8*n:=by
 have D:0<=U.wrap z/\U.wrap z<18446744073709551616:=by rw[fa];omega
 obtain⟨u,A⟩:∃u:Nat,U.wrap z=(u:Int):=⟨(U.wrap z).toNat,by omega⟩;rw[A];refine⟨u % (8*n-31),?_,?_⟩
 ·have e:(8*(n:Int)-31)=((8*n-31:Nat):Int):=by omega
  have:=Nat.mod_lt u (show 0<8*n-31 by omega);rw[e,fj (by omega),<-Int.natCast_emod];unfold wrap64;omega
 ·have:=Nat.mod_lt u (show 0<8*n-31 by omega);omega
theorem ci(a:UInt8)(b:Nat)(hb:b<8):bits .xor .u8 a.toNat ((2:Int)^b % 256)=((a^^^fp (2^b)).toNat:Int):=by
 have G:=a.toNat_lt;obtain⟨p,D⟩:∃p,p=2^b:=⟨_,rfl⟩;have A:p<256:=by
  have K:2^b<=2^7:=gj (by decide) (by omega);omega
 have F:((2:Int)^b % 256)=(p:Int):=by
  rw[show(2:Int)^b=((2^b:Nat):Int) by simp,<-D];omega
 have H:(fp (2^b)).toNat=p:=by rw[UInt8.toNat_ofNat',<-D];exact gm A
 rw[F,UInt8.toNat_xor,H,u8_xor_nat _ _ G A]
section
variable {Sk:W->Nat->(Nat->Prop)->AM->Prop} {Enc:List UInt8->AM->Prop} {P:Int×Nat->Bool} {a0 a1 a2 a3 a4 a5 a6 a7 a8 a9 a10:Int}
structure fM(w:World)(a0 a1 a2 a3 a4 a5 a6 a7 a8 a9 a10:Int)(W:World):Prop where
 cfg:AI W w.heap.size (Ae a0 a1 a2 a3 a4 a5 a6 a7 a8 a9 a10) 28
 below:B w.heap.size w W
theorem fM.next{w W W'}(h:fM w a0 a1 a2 a3 a4 a5 a6 a7 a8 a9 a10 W)(hb:B W.heap.size W W'):fM w a0 a1 a2 a3 a4 a5 a6 a7 a8 a9 a10 W' :=⟨h.cfg.below hb h.cfg.lt,h.below.trans (hb.mono h.below.size)⟩
theorem DP(c:∀W,Sp.Tens W->Calls prog 6 #[] W λe w' =>e=R (.bool true)/\B W.heap.size W w')(K:Kind (Ae a0 a1 a2 a3 a4 a5 a6 a7 a8 a9 a10) Sk Enc P)(hE:∀s vals,Enc s vals->DK vals->vals.length<=360->∃kn ld,s=AW kn ld/\ld.length<=190000)
  (w)(ht:Sp.Tens w)(v pv)(L:DG)(zs)(A6 :Int)(turn:Nat)(X:turn<4294967296)(hv:Dd w v L)(hp:DF w pv zs)(hI:∀x∈L,∀y∈x.1,Am y.1):
  Calls prog 5 #[.agg #[I J a0,I U a1,I U a2,I J a3,I J a4,I J a5,I U a6,I J a7,I J a8,I J a9,I U a10],v,pv,I J A6,I .u32 turn] w λe w' =>e=R (.bool true)/\B w.heap.size w w' :=by
 obtain⟨w0,d⟩:∃w0,w0=(w.alloc (.cells #[I J a0,I U a1,I U a2,I J a3,I J a4,I J a5,I U a6,I J a7,I J a8,I J a9,I U a10] 28)):=⟨_,rfl⟩;have C0:fM w a0 a1 a2 a3 a4 a5 a6 a7 a8 a9 a10 w0:=by
  rw[d];exact⟨AI.newAt rfl,(B.refl _ w).alloc (E _) _⟩
 have p:=c w0 (ht.next C0.below);have HV:=Zh (Zi hv (Zi hp hI));obtain⟨Av,cv,Ba⟩:=hv.slice;obtain⟨Ap,cp,BA⟩:=hp.slice;subst Ba;subst BA;obtain⟨m,hm⟩:∃m,m=L.length:=⟨_,rfl⟩;have HM:=Zh hm;have BX:m<=maxLen:=by rw[hm];exact hv.1
 unfold maxLen at BX;have A4:=Zh ht;rw[<-hm];clear hv hp hI ht hm;rw[d]at p;go_enter func5,ntmps5;go_wp2_with fail;refine p.mono ?_;rintro e w1 ⟨rfl,b1⟩;rw[<-d]at b1;have C1:=C0.next b1;clear p b1 C0 d;obtain⟨k0,k1,k2,k3,k4,k5,k6,k7,k8,k9,h⟩:=IP C1.cfg;have Aa:=Uv w1 _ L (HV.out.1.below C1.below) a0 a1 a2 a3 a4 a5 a6 a7 a8 a9 a10;rw[<-HM.out]at Aa;go_wp2_with fail;refine Aa.mono ?_;rintro e w2 ⟨g,rfl,b2,hg⟩;have C2:=C1.next b2;clear Aa b2 k0 k1 k2 k3 k4 k5 k6 k7 k8 k9 h C1;obtain⟨k0,k1,k2,k3,k4,k5,k6,k7,k8,k9,h⟩:=IP C2.cfg;have A:=Zh C2;clear C2;cases g with
 |true=>
  clear hg;go_wp2_with fail;go_ret;exact⟨rfl,A.out.below⟩
 |false=>
  by_cases A1:turn=0
  ·have f0:((turn:Int)==0)=true:=by simp[A1]
   clear hg;go_wp2_with fail;go_ret;exact⟨rfl,A.out.below⟩
  have f0:((turn:Int)==0)=false:=by simp[A1]
  obtain⟨D,_⟩:=hg rfl;have o:∀x∈L,DK x.1:=λx hx y hy=>⟨HV.out.2.2 x hx y hy,(D.2 x hx).2 y hy⟩
  have Aw:=Pz HV.out.2.1 A.out.below;have l:=Xe K w2 (A4.out.next A.out.below) _ _ L zs (HV.out.1.below A.out.below) Aw D o;rw[<-HM.out]at l;have Bb:m<=12:=by rw[HM.out];exact D.1
  have HF:=Zh (Zi D o);have HK:=Zh (Zi K hE);clear hg D o Aw K hE;go_wp2_with fail;refine l.mono ?_;rintro e w4 ⟨po,vv,ok,rfl,b4,h4⟩;have C4:=A.out.next b4;clear l b4 k0 k1 k2 k3 k4 k5 k6 k7 k8 k9 h;have r:=Zh C4;cases ok with
  |false=>
   clear C4 A h4;go_wp2_with fail;go_ret;exact⟨rfl,r.out.below⟩
  |true=>
   obtain⟨kb,O,rfl,Ac,-,-⟩:=h4 rfl;have Z:=Py P L HF.out.2 L.length;have Q:(Du P L L.length).length<=360:=by have:=JT P L HF.out.1 L.length;have:=HF.out.1.1;omega
   have A7:=HK.out.1.bytes w4 kb O _ Ac Z Q;have BR:=Zh (λs e=>HK.out.2 s _ e Z Q);clear C4 A h4 Ac Z Q;go_wp2_with fail;refine A7.mono ?_;rintro e w5 ⟨s,rfl,he,b5⟩;obtain⟨kn,ld,hs,A0⟩:=BR.out s he;have A3:s.length<=200000:=by
    rw[hs,CQ,CK];have:=AC ld.length (by omega);omega
   have A5:8<=s.length:=by rw[hs,CQ,CK];omega
   have HS:=Zh (Zi hs A0);have BQ:=Zh (r.out.below.trans (b5.mono r.out.below.size));have M:=run_bytes_of_string (P:=prog) w5 9 63 5 (bs s) underlying9 underlying63 underlying5;have Ar:=CY s;rw[Ar]at M;generalize grownCap w5 s.length 0 5=cap at M;obtain⟨C,hC⟩:∃C,C=bytesRow (bs s) cap:=⟨_,rfl⟩;have AA:=aN.start w w5 BQ.out s cap C hC;rw[<-hC]at M;generalize w5.drew.alloc (.cells C 5 (C.size,C.size+1))=w6 at M AA;have f:=Zh AA;obtain⟨n,hn⟩:∃n,n=s.length:=⟨_,rfl⟩;have HN:=Zh hn;rw[<-hn]at A3 A5 Ar M f;obtain⟨k,hk,Bw⟩:=Xf A6 n A5 A3;generalize w5.heap.size=gB at M f;clear A7 he b5 hs A0 hC AA hn;go_wp2_with fail;go_loopg [17] 32 (λg i wr=>∃(q:Nat) (t:List UInt8),i=I J q/\q<=32/\32-q<=g/\aN w gB n t wr/\MS t=MS s^^^(turn % 2^q*2^k));case atStart=>exact⟨0,s,rfl,by decide,E _,f.out,by simp[Nat.mod_one]⟩
   case round=>
    clear f;rename World=>wx;obtain⟨q,t,rfl,hq,hg,S,F⟩:=hrel;by_cases Bt:q<32
    ·have g1:(q:Int)<32:=by omega
     have G:((turn:Int)/2^q)=((turn/2^q:Nat):Int):=by simp
     by_cases H:turn/2^q % 2=1
     ·have f1:(((turn:Int)/2^q).tmod 2==1)=true:=by
       rw[G,fj (gS _)];simp;omega
      have a:(k+q)/8<n:=by omega
      have c0:=S.at ((k+q)/8) a;have z0:=(S.cell ((k+q)/8) (by rw[S.len];exact a)).2;have hx:=ci (t[(k+q)/8]'(by rw[S.len];exact a)) ((k+q) % 8) (by omega);have Y:=Zh (Zi (S.set ((k+q)/8) ((t[(k+q)/8]'(by rw[S.len];exact a))^^^fp (2^((k+q) % 8))) a) (show MS (t.set ((k+q)/8) ((t[(k+q)/8]'(by rw[S.len];exact a))^^^fp (2^((k+q) % 8))))=MS s^^^(turn % 2^(q+1)*2^k)from by
       rw[To t ((k+q)/8) ((k+q) % 8) (by rw[S.len];exact a) (by omega),F,Uj turn q k H,Nat.xor_assoc,show 8*((k+q)/8)+(k+q) % 8=q+k by omega]))
      generalize t[(k+q)/8]'(by rw[S.len];exact a)=b at c0 hx Y;have Bu:=S.lt;clear G H S F;go_wp2_with fail;go_roundg (32-(q+1));case measure=>omega
      exact⟨q+1,_,by go_num,by omega,E _,Y.out.1,Y.out.2⟩
     ·have f1:(((turn:Int)/2^q).tmod 2==1)=false:=by
       rw[G,fj (gS _)];simp;omega
      have A9:=Zh S;have Al:=Zh (Zi F H);clear G H S F;go_wp2_with fail;go_roundg (32-(q+1));case measure=>omega
      exact⟨q+1,t,by go_num,by omega,E _,A9.out,by rw[N4 turn q Al.out.2];exact Al.out.1⟩
    ·have g1:¬(q:Int)<32:=by omega
     obtain rfl:q=32:=by omega
     rw[gm X]at F;have A2:=Pp (kn:=kn) (ld:=ld) (t:=t) (turn:=turn) (k:=k) (by rw[<-HS.out.1,S.len];exact HN.out) (by omega) X (by rw[<-HS.out.1,<-HN.out];omega) (by rw[<-HS.out.1];exact F);have hcut:=Uk (kn:=kn) (ld:=ld) (j:=k/8) (by have:=HS.out.2;omega) (by rw[<-HS.out.1,<-HN.out];omega);rw[<-HS.out.1]at hcut;have Ax:=Mp wx t (by rw[S.len];omega) A2;have Ab:=λW=>Mp W (s.take (k/8)) (by rw[gQ];omega) hcut;have B0:(bs s).extract 0 (k/8)=bs (s.take (k/8)):=by rw[Eh];simp
     have Bs:k/8<=n:=by omega
     have u:=run_convert_bytes_back (P:=prog) wx 63 9 5 ⟨gB,0,N⟩ cap t underlying63 underlying5 underlying9 (λj a=>by
      rw[gR,fy];exact(S.cell j a).1)
     rw[S.len]at u;have HB:=Zh S.below;clear S F A2 hcut;change(convert 63 9 _).run prog wx=.ok (.string (bs t)) wx at u;go_wp2_with fail;refine Ax.mono ?_;rintro e w7 ⟨rfl,b7⟩;have Ay:=Zh (HB.out.trans (b7.mono HB.out.size));clear Ax b7 u;go_wp2_with fail;refine(Ab _).mono ?_;rintro e w8 ⟨rfl,b8⟩;have A8:=Zh (Ay.out.trans (b8.mono Ay.out.size));clear Ab b8;go_wp2_with fail;go_ret;exact⟨rfl,A8.out⟩
end
theorem U2(d:Nat)(w)(Q:1<=d)(G:d<=4)(M:Sp.Tens w):
  C prog 65 #[I J d] w λe w' =>e=R (T #[P (S ⟨w.heap.size,0,N⟩),I J 0])/\Sp.Sp w w.heap.size d (Sp.logD d) w' /\∃F,AI w' w.heap.size F 222:=by
 have⟨m,j⟩:=Sp.logD_le d;have X:=M.lt;go_enter func65,ntmps65;go_wp2;go_loopw [17] (λ_ wr=>∃k:Nat,k<=Sp.logD d/\Sp.Sp w w.heap.size d k wr/\wr.frozen? ⟨w.heap.size,1,N⟩=false/\∃F,AI wr w.heap.size F 222) (λ_ wr=>Sp.logD d-(RowKit.intOf ((wr.cell? ⟨w.heap.size,1,N⟩).getD (I J 0))).toNat);case atStart=>
  refine⟨0,by omega,⟨by simp,by simp,?_,Za,by simp,E _⟩,by simp,_,AI.newAt rfl⟩;exact M.next (Za)
 case round=>
  obtain⟨k,O,H,f,F,D⟩:=hrel;have b:=H.c1;have c:=H.tens.at d G;have Z:=H.lt;have D:=Zh D;have o:U.wrap (2^k)=2^k:=by
   have a:2^k<=2^14:=gj (by decide) (by omega);have l:(0:Int)<=((2^k:Nat):Int):=gS _;rw[fa,Sp.pow_cast];omega
  by_cases A:k<Sp.logD d
  ·have i:decide ((2:Int)^k<Sp.ten d)=true:=by rw[Sp.ten_log d k Q G O];simp[A]
   go_wp2_with fail;go_quiet(fail);go_wp2;have Y:Sp.Sp w w.heap.size d k (wr.drewN nq):=H.next (below_drewN (B.refl _ _) _);have h:(wr.cell? ⟨w.heap.size,1,N⟩).getD (I J 0)=I J k:=by rw[b];rfl
   have K:(((wr.drewN nq).setCell ⟨w.heap.size,1,N⟩ (I J ((k:Int)+1))).cell? ⟨w.heap.size,1,N⟩).getD (I J 0)=I J ((k+1:Nat):Int):=by rw[(Y.put X).c1];rfl
   refine⟨⟨k+1,by omega,Y.put X,?_,_,(D.out.below (below_drewN (B.refl _ _) _) D.out.lt).set 1 _⟩,?_⟩
   ·rw[W.frozen?_setCell];simpa using f
   ·rw[h,K];simp[RowKit.intOf];omega
  ·have i:decide ((2:Int)^k<Sp.ten d)=false:=by rw[Sp.ten_log d k Q G O];simp[A]
   obtain rfl:k=Sp.logD d:=by omega
   go_wp2_with fail;go_quiet(fail);go_wp2;go_ret2;exact⟨rfl,H.next (below_drewN (B.refl _ _) _),F,D.out.below (below_drewN (B.refl _ _) _) D.out.lt⟩
def dw(dg:Nat)(lim:Int)(pb:Nat)(p0 p1:V)(z:Nat)(lo hi:Int):Array Value:= #[I J dg,I U lim,P (S ⟨pb,0,N⟩),p0,p1,I U z,I J lo,I J hi]
structure Xg(w:World)(hb pb dg:Nat)(lim:Int)(p0 p1:V)(W:World):Prop where
 blk:AI W hb (dw dg lim pb p0 p1 0 0 0) 176
 span:W.cell? ⟨pb,1,N⟩=S (I J (Sp.logD dg:Nat))
 plt:pb<W.heap.size
 pty:∃ps,AI W pb ps 222
 ne:pb≠hb
 below:B w.heap.size w W
 hbg:w.heap.size<=hb
 pbg:w.heap.size<=pb
section
variable {w:World} {hb pb dg:Nat} {lim:Int} {p0 p1:V} {W W' :World}
theorem Xg.next(h:Xg w hb pb dg lim p0 p1 W)(b:B W.heap.size W W'):Xg w hb pb dg lim p0 p1 W' :=
 ⟨h.blk.below b h.blk.lt,by rw[b.cell (p:=⟨pb,1,N⟩) h.plt];exact h.span,Q0 h.plt b.size,h.pty.imp λ_ k=>k.below b h.plt,h.ne,h.below.trans (b.mono h.below.size),h.hbg,h.pbg⟩
theorem Xg.set0(h:Xg w hb pb dg lim p0 p1 W)(u):Xg w hb pb dg lim u p1 (W.setCell ⟨hb,3,N⟩ u):=
 ⟨h.blk.set 3 u,by rw[((AD.refl (λk=>k=hb) W).setCell ⟨hb,3,N⟩ u (.inl rfl)).cell (p:=⟨pb,1,N⟩) h.plt h.ne];exact h.span,by simpa using h.plt,h.pty.imp λ_ k=>k.other ⟨hb,3,N⟩ u h.ne,h.ne,h.below.setCell h.hbg _,h.hbg,h.pbg⟩
theorem Xg.set1(h:Xg w hb pb dg lim p0 p1 W)(u):Xg w hb pb dg lim p0 u (W.setCell ⟨hb,4,N⟩ u):=
 ⟨h.blk.set 4 u,by rw[((AD.refl (λk=>k=hb) W).setCell ⟨hb,4,N⟩ u (.inl rfl)).cell (p:=⟨pb,1,N⟩) h.plt h.ne];exact h.span,by simpa using h.plt,h.pty.imp λ_ k=>k.other ⟨hb,4,N⟩ u h.ne,h.ne,h.below.setCell h.hbg _,h.hbg,h.pbg⟩
end
structure Cm(w:W)(hb pb s0 s1:Nat)(v0 v1:V)(dg:Nat)(lim:Int)(l0 l1:AL)(z:Nat)(lo hi:Int):Prop where
 blk:AI w hb (dw dg lim pb (P (S ⟨s0,0,N⟩)) (P (S ⟨s1,0,N⟩)) z lo hi) 176
 span:w.cell? ⟨pb,1,N⟩=S (I J (Sp.logD dg:Nat))
 plt:pb<w.heap.size
 pty:∃ps,AI w pb ps 222
 pne:pb≠hb/\pb≠s0/\pb≠s1/\v0.ownBlock≠S pb/\v1.ownBlock≠S pb
 st0:As w s0 v0 l0
 st1:As w s1 v1 l1
 ap:s0≠s1/\∀g,v0.ownBlock=S g->v1.ownBlock≠S g
section
variable {w w' :W} {hb pb s0 s1:Nat} {v0 v1:V} {dg:Nat} {lim:Int} {l0 l1:AL} {z:Nat} {lo hi:Int}
theorem Cm.next(h:Cm w hb pb s0 s1 v0 v1 dg lim l0 l1 z lo hi)(b:B w.heap.size w w'):Cm w' hb pb s0 s1 v0 v1 dg lim l0 l1 z lo hi:=
 ⟨h.blk.below b h.blk.lt,by rw[b.cell (p:=⟨pb,1,N⟩) h.plt];exact h.span,Q0 h.plt b.size,h.pty.imp λ_ k=>k.below b h.plt,h.pne,h.st0.next b,h.st1.next b,h.ap⟩
def Ce(hb pb s0 s1:Nat)(v0 v1:V)(k:Nat):Prop:=k=hb\/k=pb\/k=s0\/k=s1\/v0.ownBlock=S k\/v1.ownBlock=S k
theorem Cm.away{G}(h:Cm w hb pb s0 s1 v0 v1 dg lim l0 l1 z lo hi)(b:AD G w w')(A:∀k,Ce hb pb s0 s1 v0 v1 k->¬G k):Cm w' hb pb s0 s1 v0 v1 dg lim l0 l1 z lo hi:=
 ⟨h.blk.away b (A _ (.inl rfl)),by rw[b.cell (p:=⟨pb,1,N⟩) h.plt (A _ (.inr (.inl rfl)))];exact h.span,Q0 h.plt b.size,h.pty.imp λ_ k=>k.away b (A _ (.inr (.inl rfl))),h.pne,h.st0.away b (A _ (.inr (.inr (.inl rfl)))) λg D=>A _ (.inr (.inr (.inr (.inr (.inl D))))),
  h.st1.away b (A _ (.inr (.inr (.inr (.inl rfl))))) λg D=>A _ (.inr (.inr (.inr (.inr (.inr D))))),h.ap⟩
theorem Cm.drew(h:Cm w hb pb s0 s1 v0 v1 dg lim l0 l1 z lo hi):Cm w.drew hb pb s0 s1 v0 v1 dg lim l0 l1 z lo hi:=h.next (B.refl _ _).drew
theorem Cm.cells(h:Cm w hb pb s0 s1 v0 v1 dg lim l0 l1 z lo hi):w.cell? ⟨hb,0,N⟩=S (I J dg)/\w.cell? ⟨hb,1,N⟩=S (I U lim)/\w.cell? ⟨hb,2,N⟩=S (P (S ⟨pb,0,N⟩))/\w.cell? ⟨hb,3,N⟩=S (P (S ⟨s0,0,N⟩))/\
  w.cell? ⟨hb,4,N⟩=S (P (S ⟨s1,0,N⟩))/\w.cell? ⟨hb,5,N⟩=S (I U z)/\w.cell? ⟨hb,6,N⟩=S (I J lo)/\w.cell? ⟨hb,7,N⟩=S (I J hi)/\
  w.frozen? ⟨hb,5,N⟩=false/\w.frozen? ⟨hb,6,N⟩=false/\w.frozen? ⟨hb,7,N⟩=false:=
 ⟨h.blk.cell rfl,h.blk.cell rfl,h.blk.cell rfl,h.blk.cell rfl,h.blk.cell rfl,h.blk.cell rfl,h.blk.cell rfl,h.blk.cell rfl,h.blk.frozen 5,h.blk.frozen 6,h.blk.frozen 7⟩
end
theorem Ts(w)(u:Sp.Tens w)(dg:Nat)(lim:Int)(h1:1<=dg)(h2:dg<=4)(AA:0<=lim)(hl:lim<=9223372036854775808):
  C prog 42 #[.agg #[I J dg,I U lim]] w λe w' =>∃hb pb s0 s1,e=R (T #[P (S ⟨hb,0,N⟩),I J 0])/\Cm w' hb pb s0 s1 (L N 0 0) (L N 0 0) dg lim [] [] 0 0 0/\
   w.heap.size<=hb/\w.heap.size<=pb/\w.heap.size<=s0/\w.heap.size<=s1/\B w.heap.size w w' :=by
 have b:B w.heap.size w (w.alloc (.cells #[I J dg,I U lim] 127)):=Za;have d:AI (w.alloc (.cells #[I J dg,I U lim] 127)) w.heap.size #[I J dg,I U lim] 127:=AI.newAt rfl;have O:=U2 dg (w.alloc (.cells #[I J dg,I U lim] 127)) h1 h2 (u.next b);clear u;go_enter func42,ntmps42;go_wp2_with fail;refine O.mono ?_;rintro e D ⟨rfl,Q,s⟩;have j:=d.below Q.below d.lt;have c0:D.cell? ⟨w.heap.size,0,N⟩=S (I J dg):=j.cell rfl;have c1:D.cell? ⟨w.heap.size,1,N⟩=S (I U lim):=j.cell rfl;have f1:¬9223372036854775808<lim:=by omega
 have v:(w.alloc (.cells #[I J dg,I U lim] 127)).heap.size=w.heap.size+1:=by simp
 have r:=Q.c1;have l:=Q.lt;have a:=Q.below;rw[v]at r l a s;have Z:B w.heap.size w D:=b.trans (a.mono (by omega));have f:Xg w D.heap.size (w.heap.size+1) dg lim (P N) (P N) (D.alloc (.cells (dw dg lim (w.heap.size+1) (P N) (P N) 0 0 0) 176)):=by
  refine⟨AI.newAt rfl,?_,by simp;omega,s.imp λ_ k=>k.alloc _,by omega,Z.alloc Z.size _,Z.size,by omega⟩;rw[((B.refl _ D).alloc (E _) (.cells (dw dg lim (w.heap.size+1) (P N) (P N) 0 0 0) 176)).cell (p:=⟨w.heap.size+1,1,N⟩) l];exact r
 have Ab:=Z.size;clear O Q d j b r a v s;go_wp2_with fail;generalize w.heap.size+1=pb at f l⊢;have G:=Zh f;clear f;go_loopg [7,25,28,29,30,31,32,33,34,35,36] 2 (λg _ i _ _ _ _ _ _ _ _ _ wr=>∃(k:Nat) (p0 p1:V),i=I J k/\k<=2/\2-k<=g/\Xg w D.heap.size pb dg lim p0 p1 wr/\
  (k=0\/∃s0,p0=P (S ⟨s0,0,N⟩)/\As wr s0 (L N 0 0) []/\D.heap.size<s0/\pb≠s0/\(k=1\/∃s1,p1=P (S ⟨s1,0,N⟩)/\As wr s1 (L N 0 0) []/\s0<s1/\pb≠s1)))
 case atStart=>exact⟨0,_,_,rfl,by decide,by decide,G.out,.inl rfl⟩
 case round=>
  clear G;obtain⟨k,p0,p1,rfl,hk,y,H,A⟩:=hrel;have c3:wr.cell? ⟨D.heap.size,3,N⟩=S p0:=H.blk.cell rfl;have c4:wr.cell? ⟨D.heap.size,4,N⟩=S p1:=H.blk.cell rfl;have f3:=H.blk.frozen 3;have f4:=H.blk.frozen 4;have m:=H.blk.lt;have Aa:=H.plt;have G:=Zh (Zi H A);clear H;by_cases k0:k=0
  ·subst k0;clear A;go_upto_region 8 with fail;go_region_with(go_at_call 28;refine(G4 _).mono ?_;rintro e w2 ⟨rfl,rfl⟩);all_goals(
    have X:As ((wr.setCell ⟨D.heap.size,3,N⟩ (P (S ⟨wr.heap.size,0,N⟩))).alloc (.cells #[I J 4096,L N 0 0,I U 0] 115)).drew wr.heap.size (L N 0 0) []:=by
     have:=F5 (wr.setCell ⟨D.heap.size,3,N⟩ (P (S ⟨wr.heap.size,0,N⟩)));rw[show(wr.setCell ⟨D.heap.size,3,N⟩ (P (S ⟨wr.heap.size,0,N⟩))).heap.size=wr.heap.size by simp]at this;exact this.drew
    have M:=((G.out.1.set0 (P (S ⟨wr.heap.size,0,N⟩))).next ((B.refl _ _).alloc (E _) (.cells #[I J 4096,L N 0 0,I U 0] 115))).next (B.refl _ _).drew;have K:=Zh (Zi X M);clear X M;go_wp2_with fail;go_roundg 1;case measure=>omega
    exact⟨1,_,p1,by go_num,by decide,by decide,K.out.2,.inr ⟨_,rfl,K.out.1,m,by omega,.inl rfl⟩⟩)
  ·by_cases k1:k=1
   ·subst k1;rcases A with h|⟨s0,rfl,F,g0,c,_⟩
    ·exact absurd h k0
    have q:=F.blk.lt;have HT:=Zh F;clear F;go_upto_region 8 with fail;go_region_with(go_at_call 28;refine(G4 _).mono ?_;rintro e w2 ⟨rfl,rfl⟩);all_goals(
     have X:As ((wr.setCell ⟨D.heap.size,4,N⟩ (P (S ⟨wr.heap.size,0,N⟩))).alloc (.cells #[I J 4096,L N 0 0,I U 0] 115)).drew wr.heap.size (L N 0 0) []:=by
      have:=F5 (wr.setCell ⟨D.heap.size,4,N⟩ (P (S ⟨wr.heap.size,0,N⟩)));rw[show(wr.setCell ⟨D.heap.size,4,N⟩ (P (S ⟨wr.heap.size,0,N⟩))).heap.size=wr.heap.size by simp]at this;exact this.drew
     have M:=((G.out.1.set1 (P (S ⟨wr.heap.size,0,N⟩))).next ((B.refl _ _).alloc (E _) (.cells #[I J 4096,L N 0 0,I U 0] 115))).next (B.refl _ _).drew;have Y :=((HT.out.other ⟨D.heap.size,4,N⟩ (P (S ⟨wr.heap.size,0,N⟩)) (by simp;omega) (by simp[V.ownBlock])).next ((B.refl _ _).alloc (E _) (.cells #[I J 4096,L N 0 0,I U 0] 115))).drew;have K:=Zh (Zi X (Zi M Y));clear X M Y;go_wp2_with fail;go_roundg 0;case measure=>omega
     exact⟨2,_,_,by go_num,by decide,by decide,K.out.2.1,.inr ⟨s0,rfl,K.out.2.2,g0,c,.inr ⟨_,rfl,K.out.1,q,by omega⟩⟩⟩)
   ·have o:k=2:=by omega
    subst o;rcases A with h|⟨s0,rfl,F,g0,c,h|⟨s1,rfl,x,g1,n1⟩⟩
    ·omega
    ·omega
    have HF:=Zh (Zi F x);clear F x c3 c4 f3 f4;go_wp2_with fail;go_ret2;have H:=G.out.1;have g2:=H.hbg;refine⟨D.heap.size,pb,s0,s1,rfl,⟨H.blk,H.span,H.plt,H.pty,⟨H.ne,c,n1,by simp[V.ownBlock],by simp[V.ownBlock]⟩,HF.out.1,HF.out.2,by omega,λg y=>by simp[V.ownBlock]at y⟩,g2,H.pbg,by omega,by omega,H.below⟩
structure gK(w:World)(hb pb s0 s1:Nat)(v0 v1:V)(dg:Nat)(lim:Int)(l0 l1:AL)(z:Nat)(lo hi:Int)(W:World):Prop where
 hd:Cm W hb pb s0 s1 v0 v1 dg lim l0 l1 z lo hi
 below:B w.heap.size w W
def C6(l0 l1:AL)(z:Nat):Nat:=AB l0+z+AB l1
theorem Cf(w hb pb s0 s1 v0 v1 dg lim)(l0 l1:AL)(z lo hi)(h:Cm w hb pb s0 s1 v0 v1 dg lim l0 l1 z lo hi)(X:C6 l0 l1 z<=9223372036854775807):
  Calls prog 95 #[P (S ⟨hb,0,N⟩)] w λe w' =>e=R (I U (C6 l0 l1 z:Nat))/\B w.heap.size w w' :=by
 obtain⟨D,O⟩:∃D,D=AB l0:=⟨_,rfl⟩;obtain⟨F,M⟩:∃F,F=AB l1:=⟨_,rfl⟩;unfold C6 at X⊢;have G:=λW (k:Cm W hb pb s0 s1 v0 v1 dg lim l0 l1 z lo hi)=>Co W s0 (AB l0) k.st0.cells.2.2.1;have H:=λW (k:Cm W hb pb s0 s1 v0 v1 dg lim l0 l1 z lo hi)=>Co W s1 (AB l1) k.st1.cells.2.2.1;rw[<-O]at G X⊢;rw[<-M]at H X⊢;have m:U.wrap ((D:Int)+(z:Int))=((D+z:Nat):Int):=by rw[<-ej];exact Wd.wrapN _ (by omega)
 have b:U.wrap (((D+z:Nat):Int)+(F:Int))=((D+z+F:Nat):Int):=by rw[<-ej];exact Wd.wrapN _ (by omega)
 have u:=Zh (Zi m b);clear O M m b;go_enter func95,ntmps95;go_upto_region 3 with fail;refine AG (C:=gK w hb pb s0 s1 v0 v1 dg lim l0 l1 z lo hi) (by kernel_rfl) (by kernel_rfl) ⟨h.drew,(B.refl _ _).drew⟩ ?_;clear h;repeat go_big_quiet_step(exact λ_=>rfl)
 go_big_quiet_want;refine⟨P (S ⟨s0,0,N⟩),λK A=> ?_,?_⟩
 ·obtain⟨r,a,c,i,p,j,o,Z,f,l,Y⟩:=A.hd.cells;go_simp
 go_big_quiet_on;simp only[gT,Zp,Zq,Zr];repeat go_big_quiet_step(exact λ_=>rfl)
 go_big_quiet_want;go_big_quiet_op;refine⟨I U D,λK A=> ?_,?_⟩
 ·exact(G K A.hd).mono λ_ _ Q=>⟨Q.1,Q.2▸A⟩
 go_big_quiet_on;repeat go_big_quiet_step(exact λ_=>rfl)
 go_big_quiet_want;refine⟨I U z,λK A=> ?_,?_⟩
 ·obtain⟨r,a,c,i,p,j,o,Z,f,l,Y⟩:=A.hd.cells;go_simp
 go_big_quiet_on;simp only[gT,Zp,Zq,Zr];repeat go_big_quiet_step(exact λ_=>rfl)
 go_big_quiet_want;refine⟨P (S ⟨s1,0,N⟩),λK A=> ?_,?_⟩
 ·obtain⟨r,a,c,i,p,j,o,Z,f,l,Y⟩:=A.hd.cells;go_simp
 go_big_quiet_on;simp only[gT,Zp,Zq,Zr];repeat go_big_quiet_step(exact λ_=>rfl)
 go_big_quiet_want;go_big_quiet_op;refine⟨I U F,λK A=> ?_,?_⟩
 ·exact(H K A.hd).mono λ_ _ Q=>⟨Q.1,Q.2▸A⟩
 go_big_quiet_on;repeat go_big_quiet_step(exact λ_=>rfl)
 refine wpQuiet_nil ?_;intro W1 d;have s:=Zh d.below;clear d G H;go_wp2_with fail;go_ret;refine⟨?_,s.out⟩;have e:((D:Int)+(z:Int)+(F:Int))=((D+z+F:Nat):Int):=by omega
 exact congrArg (λq=>R (I U q)) e
theorem Cm.neb{w hb pb s0 s1 v0 v1 dg lim}{l0 l1:AL}{z lo hi}(h:Cm w hb pb s0 s1 v0 v1 dg lim l0 l1 z lo hi):s0≠hb/\s1≠hb/\v0.ownBlock≠S hb/\v1.ownBlock≠S hb:=by
 refine⟨h.st0.blk.ne h.blk (by decide),h.st1.blk.ne h.blk (by decide),λe=> ?_,λe=> ?_⟩
 ·obtain⟨A,D⟩:=AJ h.st0.own e;exact(h.blk.ne D (by decide)) rfl
 ·obtain⟨A,D⟩:=AJ h.st1.own e;exact(h.blk.ne D (by decide)) rfl
theorem Cm.turn{w hb pb s0 s1 v0 v1 dg lim}{l0 l1:AL}{z z' lo hi lo' hi'}(h:Cm w hb pb s0 s1 v0 v1 dg lim l0 l1 z lo hi)(j u)
  (e:(dw dg lim pb (P (S ⟨s0,0,N⟩)) (P (S ⟨s1,0,N⟩)) z lo hi).setIfInBounds j u=dw dg lim pb (P (S ⟨s0,0,N⟩)) (P (S ⟨s1,0,N⟩)) z' lo' hi'):Cm (w.setCell ⟨hb,j,N⟩ u) hb pb s0 s1 v0 v1 dg lim l0 l1 z' lo' hi' :=by
 obtain⟨F,G,H,D⟩:=h.neb;have A:=h.blk.set j u;rw[e]at A;refine⟨A,?_,by simpa using h.plt,h.pty.imp λ_ k=>k.other ⟨hb,j,N⟩ u h.pne.1,h.pne,h.st0.other _ _ F H,h.st1.other _ _ G D,h.ap⟩;rw[((AD.refl (λk=>k=hb) w).setCell ⟨hb,j,N⟩ u (.inl rfl)).cell (p:=⟨pb,1,N⟩) h.plt h.pne.1];exact h.span
def JU(T:Nat)(lo a:Int):Int:=if T=0 then a else min lo a
def JV(T:Nat)(hi a:Int):Int:=if T=0 then a else max hi a
theorem Iv(w hb pb s0 s1 v0 v1 dg lim)(l0 l1:AL)(z lo hi)(h:Cm w hb pb s0 s1 v0 v1 dg lim l0 l1 z lo hi)(d:C6 l0 l1 z<=9223372036854775807)(a b):
  C prog 239 #[P (S ⟨hb,0,N⟩),I J a,I J b] w λe w' =>e=R (T #[])/\Cm w' hb pb s0 s1 v0 v1 dg lim l0 l1 z (JU (C6 l0 l1 z) lo a) (JV (C6 l0 l1 z) hi b)/\AD (λk=>k=hb) w w' :=by
 have X:=Cf w hb pb s0 s1 v0 v1 dg lim l0 l1 z lo hi h d;have A:=Zh (show∀(W:World) (Q O :Int),B w.heap.size w W->Cm ((W.setCell ⟨hb,6,N⟩ (I J Q)).setCell ⟨hb,7,N⟩ (I J O)) hb pb s0 s1 v0 v1 dg lim l0 l1 z Q O /\AD (λk=>k=hb) w ((W.setCell ⟨hb,6,N⟩ (I J Q)).setCell ⟨hb,7,N⟩ (I J O))from λW Q O H=>
  ⟨((h.next H).turn 6 _ rfl).turn 7 _ rfl,((AD.of_below (F:=λk=>k=hb) H).setCell ⟨hb,6,N⟩ _ (.inl rfl)).setCell ⟨hb,7,N⟩ _ (.inl rfl)⟩)
 have Z:=Zh h;clear h;by_cases D:C6 l0 l1 z=0
 ·have l:(((C6 l0 l1 z:Nat):Int)==0)=true:=by simp[D]
  have M:JU (C6 l0 l1 z) lo a=a:=by unfold JU;rw[if_pos D]
  have K:JV (C6 l0 l1 z) hi b=b:=by unfold JV;rw[if_pos D]
  rw[M,K];clear D M K;go_enter func239,ntmps239;go_wp2_with fail;refine X.mono ?_;rintro e Y ⟨rfl,G⟩;obtain⟨u,i,j,o,s,p,r,f,m,q,c⟩:=(Z.out.next G).cells;have hF:=Zh (A.out Y a b G);clear G A X;go_wp2_with fail;refine bodyPost_ret (results_none rfl _ _ _) rfl ?_;exact⟨rfl,hF.out⟩
 ·have l:(((C6 l0 l1 z:Nat):Int)==0)=false:=by simp[D]
  have M:JU (C6 l0 l1 z) lo a=min lo a:=by unfold JU;rw[if_neg D]
  have K:JV (C6 l0 l1 z) hi b=max hi b:=by unfold JV;rw[if_neg D]
  rw[M,K];clear D M K;go_enter func239,ntmps239;go_wp2_with fail;refine X.mono ?_;rintro e Y ⟨rfl,G⟩;obtain⟨u,i,j,o,s,p,r,f,m,q,c⟩:=(Z.out.next G).cells;have hF:=Zh (A.out Y.drew (min lo a) (max hi b) G.drew);clear G A X;go_upto_region 2 with fail;go_region;all_goals(try go_wp2)
  all_goals go_end0
  all_goals exact⟨rfl,hF.out⟩
theorem FH:∀{l m:AL},AT l->Bh l->AT m->Bh m->(∀v,AP l v=AP m v)->l=m
 | [],[],_,_,_,_,_=>rfl
 | [],y::m,_,_,rm,fm,h=>by
  have M:=h y.1
  rw[Be rm (NW ..)]at M
  have Q:=fm y (NW ..)
  have Y:AP [] y.1=0:=rfl
  omega
 |x::l,[],rl,fl,_,_,h=>by
  have M:=h x.1
  rw[Be rl (NW ..)]at M
  have Q:=fl x (NW ..)
  have Y:AP [] x.1=0:=rfl
  omega
 |x::l,y::m,rl,fl,rm,fm,h=>by
  have D:=h x.1
  have O:=h y.1
  rw[Be rl (NW ..)]at D
  rw[Be rm (NW ..)]at O
  have b:=fl x (NW ..)
  have c:=fm y (NW ..)
  have e:x.1=y.1:=by
   rcases Nat.lt_trichotomy x.1 y.1 with F|Z|G
   ·exfalso;rw[Fg (l:=y::m) (v:=x.1)]at D
    ·omega
    ·intro z A;rcases List.mem_cons.1 A with rfl|A
     ·exact F
     ·have:=rm.1 z A;omega
   ·exact Z
   ·exfalso;rw[Fg (l:=x::l) (v:=y.1)]at O
    ·omega
    ·intro z A;rcases List.mem_cons.1 A with rfl|A
     ·exact G
     ·have:=rl.1 z A;omega
  have a:x.2=y.2:=by
   rw[e]at D;rw[Be rm (NW ..)]at D;exact D
  have H:x=y:=Prod.ext e a;subst H;have X:∀v,AP l v=AP m v:=λv=>by
   by_cases K:x.1=v
   ·subst K;rw[Fg (l:=l) rl.1,Fg (l:=m) rm.1]
   ·have:=h v;rwa [FW K,FW K]at this
  rw[FH rl.2 (λz A=>fl z (ag _ A)) rm.2 (λz A=>fm z (ag _ A)) X]
theorem Hg(l:AL)(i c v):AP (Ak l i c) v=AP l v+(if i=v then c else 0):=by
 unfold AP;rw[DB];simp
theorem EK{l m:AL}(h:AT l):AT (AZ l m):=by
 unfold AZ;induction m generalizing l with
 |nil=>exact h
 |cons x m A=>exact A (Bg h)
theorem Fm{l m:AL}(h:Bh l)(k:Bh m):Bh (AZ l m):=by
 unfold AZ;induction m generalizing l with
 |nil=>exact h
 |cons x m A=>exact A (Ca h (k x (NW ..))) λz D=>k z (ag _ D)
def Bp(f:Int->Option Nat)(l:AL)(x:Int×Nat):AL:=match f x.1 with
 |some i=>Ak l i x.2
 |none=>l
def BS(f:Int->Option Nat)(vals:AM):AL:=vals.foldl (Bp f) []
def JW(f:Int->Option Nat)(v:Nat):AM->Nat
 | []=>0
 |x::l=>(if f x.1=S v then x.2 else 0)+JW f v l
theorem C7(f)(vals:AM)(x:Int×Nat):BS f (vals++ [x])=Bp f (BS f vals) x:=by unfold BS;rw[es];rfl
theorem U3(f)(l:AL)(x:Int×Nat)(v):AP (Bp f l x) v=AP l v+(if f x.1=S v then x.2 else 0):=by
 unfold Bp;cases h:f x.1 with
 |none=>simp
 |some i=>simp only[Hg,Option.some.injEq]
theorem SE(f v)(vals:AM):∀l,AP (vals.foldl (Bp f) l) v=AP l v+JW f v vals:=by
 induction vals with
 |nil=>intro l;rfl
 |cons x vals A=>intro l;rw[Pa,A,U3];simp only[JW];omega
theorem Gq(f)(vals:AM)(v):AP (BS f vals) v=JW f v vals:=by
 unfold BS;rw[SE];have:AP [] v=0:=rfl;omega
theorem SF{f}{l:AL}{x:Int×Nat}(h:AT l):AT (Bp f l x):=by
 unfold Bp;split
 ·exact Bg h
 ·exact h
theorem Xh{f}{l:AL}{x:Int×Nat}(h:Bh l)(A:1<=x.2):Bh (Bp f l x):=by
 unfold Bp;split
 ·exact Ca h A
 ·exact h
theorem BK(f)(vals:AM):AT (BS f vals):=by
 unfold BS;suffices∀l,AT l->AT (vals.foldl (Bp f) l)from this [] trivial;induction vals with
 |nil=>exact λl h=>h
 |cons x vals A=>exact λl h=>A _ (SF h)
theorem Cq(f)(vals:AM)(A:∀x∈vals,1<=x.2):Bh (BS f vals):=by
 unfold BS;suffices∀l,Bh l->Bh (vals.foldl (Bp f) l)from this [] λx G=>by cases G
 induction vals with
 |nil=>exact λl h=>h
 |cons x vals F=>exact λl h=>F (λy D=>A y (ag _ D)) _ (Xh h (A x (NW ..)))
theorem P6(f v)(a b:AM):JW f v (a++b)=JW f v a+JW f v b:=by
 induction a with
 |nil=>simp[JW]
 |cons x a A=>rw[aw];simp only[JW,A];omega
theorem U4(f v){a b:AM}(h:a.Perm b):JW f v a=JW f v b:=by
 induction h with
 |nil=>rfl
 |cons x _ A=>simp only[JW,A]
 |swap x y l=>simp only[JW];omega
 |trans _ _ h1 h2=>exact h1.trans h2
theorem F7(f){a b:AM}(h:a.Perm b)(A:∀x∈a,1<=x.2):BS f a=BS f b:=
 FH (BK f a) (Cq f a A) (BK f b) (Cq f b λx D=>A x (h.mem_iff.2 D)) λv=>by rw[Gq,Gq,U4 f v h]
theorem CR(l m:AL)(v):AP (AZ l m) v=AP l v+AP m v:=Dx _ _ _
theorem F8(f)(a b:AM)(A:∀x∈a,1<=x.2)(hb:∀x∈b,1<=x.2):BS f (a++b)=AZ (BS f a) (BS f b):=
 FH (BK f _) (Cq f _ λx D=>(List.mem_append.1 D).elim (A x) (hb x)) (EK (BK f a)) (Fm (Cq f a A) (Cq f b hb)) λv=>by
  rw[CR,Gq,Gq,Gq,P6]
theorem aO(f)(l:AL)(x:Int×Nat):(Bp f l x).length<=l.length+1:=by
 unfold Bp;split
 ·exact Cb _ _ _
 ·omega
theorem IQ(f)(vals:AM):(BS f vals).length<=vals.length:=by
 unfold BS;suffices∀l:AL,(vals.foldl (Bp f) l).length<=l.length+vals.length by simpa using this []
 induction vals with
 |nil=>exact λl=>E _
 |cons x vals A=>exact λl=>by rw[Pa,gX];have:=A (Bp f l x);have:=aO f l x;omega
def AY(f:Int->Option Nat):AM->Nat
 | []=>0
 |x::l=>(if(f x.1).isSome then x.2 else 0)+AY f l
theorem U5(f)(l:AL)(x:Int×Nat):AB (Bp f l x)=AB l+(if(f x.1).isSome then x.2 else 0):=by
 unfold Bp AB;cases h:f x.1 with
 |none=>simp
 |some i=>simp only[DB];simp
theorem Iw(f)(vals:AM):AB (BS f vals)=AY f vals:=by
 unfold BS;suffices∀l,AB (vals.foldl (Bp f) l)=AB l+AY f vals by rw[this];show 0+_=_;omega
 induction vals with
 |nil=>exact λl=>rfl
 |cons x vals A=>exact λl=>by rw[Pa,A,U5];simp only[AY];omega
theorem Xi(f)(vals:AM):∀y∈BS f vals,∃x∈vals,f x.1=S y.1:=by
 unfold BS;suffices∀l:AL,∀y∈vals.foldl (Bp f) l,y∈vals.foldl (Bp f) l->(∃z∈l,z.1=y.1)\/∃x∈vals,f x.1=S y.1 from λy D=>by
  rcases this [] y D D with⟨z,A,_⟩|h
  ·cases A
  ·exact h
 induction vals with
 |nil=>exact λl y D _=>.inl ⟨y,D,rfl⟩
 |cons x vals K=>
  intro l y D _;rw[Pa]at D;rcases K _ y D D with⟨z,A,F⟩|⟨M,G,H⟩
  ·unfold Bp at A;split at A
   ·rename_i i hi;rcases Gg A with A|A
    ·exact .inl ⟨z,A,F⟩
    ·exact .inr ⟨x,NW ..,by rw[hi,<-F,A]⟩
   ·exact .inl ⟨z,A,F⟩
  ·exact .inr ⟨M,ag _ G,H⟩
def DH:AM->Int
 | []=>0
 |x::l=>l.foldl (λa y=>min a y.1) x.1
def DI:AM->Int
 | []=>0
 |x::l=>l.foldl (λa y=>max a y.1) x.1
theorem D6(x:Int×Nat)(l:AM):DH (x::l)=l.foldl (λa y=>min a y.1) x.1:=rfl
theorem D7(x:Int×Nat)(l:AM):DI (x::l)=l.foldl (λa y=>max a y.1) x.1:=rfl
theorem U7(l:AM)(x:Int×Nat):DH (l++ [x])=if l=[]then x.1 else min (DH l) x.1:=by
 cases l with
 |nil=>rfl
 |cons y l=>rw[if_neg (by simp),aw,D6,D6,es];rfl
theorem U8(l:AM)(x:Int×Nat):DI (l++ [x])=if l=[]then x.1 else max (DI l) x.1:=by
 cases l with
 |nil=>rfl
 |cons y l=>rw[if_neg (by simp),aw,D7,D7,es];rfl
theorem Tt(l:AM):∀a b:Int,l.foldl (λa y=>min a y.1) (min a b)=min a (l.foldl (λa y=>min a y.1) b):=by
 induction l with
 |nil=>intro a b;rfl
 |cons x l A=>intro a b;rw[Pa,Pa,<-A];congr 1;omega
theorem Tu(l:AM):∀a b:Int,l.foldl (λa y=>max a y.1) (max a b)=max a (l.foldl (λa y=>max a y.1) b):=by
 induction l with
 |nil=>intro a b;rfl
 |cons x l A=>intro a b;rw[Pa,Pa,<-A];congr 1;omega
theorem P8(a b:AM)(A:a≠ [])(hb:b≠ []):DH (a++b)=min (DH a) (DH b):=by
 cases a with
 |nil=>exact absurd rfl A
 |cons x a=>
  cases b with
  |nil=>exact absurd rfl hb
  |cons y b=>rw[aw,D6,D6,D6,es,Pa,Tt]
theorem P9(a b:AM)(A:a≠ [])(hb:b≠ []):DI (a++b)=max (DI a) (DI b):=by
 cases a with
 |nil=>exact absurd rfl A
 |cons x a=>
  cases b with
  |nil=>exact absurd rfl hb
  |cons y b=>rw[aw,D7,D7,D7,es,Pa,Tu]
theorem Xj(x y:Int×Nat)(l:AM):DH (x::y::l)=min x.1 (DH (y::l)):=by rw[D6,D6,Pa,Tt]
theorem Xk(x y:Int×Nat)(l:AM):DI (x::y::l)=max x.1 (DI (y::l)):=by rw[D7,D7,Pa,Tu]
theorem Fo:∀(l:AM),l≠ []->(∃x∈l,x.1=DH l)/\∀x∈l,DH l<=x.1
 | [],h=>absurd rfl h
 | [x],_=>⟨⟨x,NW ..,rfl⟩,λy F=>by rw[List.mem_singleton.1 F];exact bh _⟩
 |x::y::l,_=>by
  obtain⟨⟨z,G,K⟩,D⟩:=Fo (y::l) (by simp)
  rw[Xj]
  refine⟨?_,λu A=> ?_⟩
  ·by_cases H:x.1<=DH (y::l)
   ·exact⟨x,NW ..,by omega⟩
   ·exact⟨z,ag _ G,by omega⟩
  ·rcases List.mem_cons.1 A with rfl|A
   ·omega
   ·have:=D u A;omega
theorem Fp:∀(l:AM),l≠ []->(∃x∈l,x.1=DI l)/\∀x∈l,x.1<=DI l
 | [],h=>absurd rfl h
 | [x],_=>⟨⟨x,NW ..,rfl⟩,λy F=>by rw[List.mem_singleton.1 F];exact bh _⟩
 |x::y::l,_=>by
  obtain⟨⟨z,G,K⟩,D⟩:=Fp (y::l) (by simp)
  rw[Xk]
  refine⟨?_,λu A=> ?_⟩
  ·by_cases H:DI (y::l)<=x.1
   ·exact⟨x,NW ..,by omega⟩
   ·exact⟨z,ag _ G,by omega⟩
  ·rcases List.mem_cons.1 A with rfl|A
   ·omega
   ·have:=D u A;omega
theorem Ms{a b:AM}(h:a.Perm b):DH a=DH b:=by
 by_cases A:a=[]
 ·subst A;rw[h.nil_eq]
 ·have hb:b≠ []:=λe=>by subst e;exact A h.symm.nil_eq.symm
  obtain⟨⟨x,H,K⟩,G⟩:=Fo a A;obtain⟨⟨y,F,M⟩,D⟩:=Fo b hb;have:=G y (h.mem_iff.2 F);have:=D x (h.mem_iff.1 H);omega
theorem Mt{a b:AM}(h:a.Perm b):DI a=DI b:=by
 by_cases A:a=[]
 ·subst A;rw[h.nil_eq]
 ·have hb:b≠ []:=λe=>by subst e;exact A h.symm.nil_eq.symm
  obtain⟨⟨x,H,K⟩,G⟩:=Fp a A;obtain⟨⟨y,F,M⟩,D⟩:=Fp b hb;have:=G y (h.mem_iff.2 F);have:=D x (h.mem_iff.1 H);omega
theorem FI(f){a b:AM}(h:a.Perm b):AY f a=AY f b:=by
 induction h with
 |nil=>rfl
 |cons x _ A=>simp only[AY,A]
 |swap x y l=>simp only[AY];omega
 |trans _ _ h1 h2=>exact h1.trans h2
theorem DL(f)(a b:AM):AY f (a++b)=AY f a+AY f b:=by
 induction a with
 |nil=>simp[AY]
 |cons x a A=>rw[aw];simp only[AY,A];omega
def MP(dg:Nat)(x:Int):Nat:=(Sp.idx (Sp.logD dg) (Sg.mag x)).toNat
theorem OF(dg x)(A:Am x)(G:x≠0):Sp.idx (Sp.logD dg) (Sg.mag x)=(MP dg x:Int)/\1<=MP dg x/\MP dg x<=1064960:=by
 unfold Am at A;have F:=Sg.mag_or x;have D:=Sp.idx_bd (Sp.logD dg) (Sg.mag x) (by omega) (by omega) (Sp.logD_le dg).2;unfold MP;omega
def Fa(dg:Nat)(x:Int):Option Nat:=if x<0 then S (MP dg x)else N
def hf1(dg:Nat)(x:Int):Option Nat:=if 0<x then S (MP dg x)else N
def Fb(x:Int):Option Nat:=if x=0 then S 0 else N
section
variable {w w' :W} {hb pb s0 s1:Nat} {v0 v1:V} {dg:Nat} {lim:Int} {l0 l1:AL} {z:Nat} {lo hi:Int}
theorem U9(w)(h:Cm w hb pb s0 s1 v0 v1 dg lim l0 l1 z lo hi):
  C prog 238 #[P (S ⟨hb,0,N⟩),I J 0] w λe w' =>e=R (T #[P (S ⟨s1,0,N⟩),I J 0,.bool false])/\B w.heap.size w w' :=by
 obtain⟨Q,a,F,H,Z,K,Y,X,G,M,O⟩:=h.cells;have A:=λW=>Sg.of_any 0 W (by decide) (by decide);rw[Sg.mag_pos (bh 0),Sg.neg_no (bh 0)]at A;have hi:=λW=>Sp.index_no pb 0 W (.inl rfl);clear h;go_enter func238,ntmps238;go_wp2_with(first|(go_at_call 215;refine(A _).mono ?_;rintro e D ⟨rfl,rfl⟩)|(go_at_call 132;refine(hi _).mono ?_;rintro e D ⟨rfl,rfl⟩));go_ret3;exact⟨rfl,B.refl _ _⟩
theorem Xl(w)(h:Cm w hb pb s0 s1 v0 v1 dg lim l0 l1 z lo hi)(x)(G:Am x)(Y:0<x):
  C prog 238 #[P (S ⟨hb,0,N⟩),I J x] w λe w' =>e=R (T #[P (S ⟨s1,0,N⟩),I J (MP dg x:Nat),.bool true])/\B w.heap.size w w' :=by
 obtain⟨X,b,M,c,Q,d,j,a,O,f,K⟩:=h.cells;have A :=G;unfold Am at A;have F:=λW=>Sg.of_any x W A.1 A.2;have i:=Sg.mag_or x;have hi:=Sp.index_yes pb (Sp.logD dg) (Sg.mag x) w (by omega) (by omega) (Sp.logD_le dg).2 h.span;rw[(OF dg x G (by omega)).1]at hi;rw[Sg.neg_no (Int.le_of_lt Y)]at F;have H:=λW (k:B w.heap.size w W)=>(h.next k).cells;clear h i A;go_enter func238,ntmps238;go_wp2_with fail;refine(F _).mono ?_;rintro e v ⟨rfl,rfl⟩;go_wp2_with fail;refine hi.mono ?_;rintro e l ⟨rfl,D⟩;have Z:=Zh D.below;obtain⟨k0,u,r,m,s,o,k6,k7,q,y,p⟩:=H l D.below;clear D H hi F X b M c Q d j a O f K;go_wp2_with fail;go_ret3;exact⟨rfl,Z.out⟩
theorem Xm(w)(h:Cm w hb pb s0 s1 v0 v1 dg lim l0 l1 z lo hi)(x)(G:Am x)(Y:x<0):
  C prog 238 #[P (S ⟨hb,0,N⟩),I J x] w λe w' =>e=R (T #[P (S ⟨s0,0,N⟩),I J (MP dg x:Nat),.bool true])/\B w.heap.size w w' :=by
 obtain⟨X,b,M,c,Q,d,j,a,O,f,K⟩:=h.cells;have A :=G;unfold Am at A;have F:=λW=>Sg.of_any x W A.1 A.2;have i:=Sg.mag_or x;have hi:=Sp.index_yes pb (Sp.logD dg) (Sg.mag x) w (by omega) (by omega) (Sp.logD_le dg).2 h.span;rw[(OF dg x G (by omega)).1]at hi;rw[Sg.neg_yes Y]at F;have H:=λW (k:B w.heap.size w W)=>(h.next k).cells;clear h i A;go_enter func238,ntmps238;go_wp2_with fail;refine(F _).mono ?_;rintro e v ⟨rfl,rfl⟩;go_wp2_with fail;refine hi.mono ?_;rintro e l ⟨rfl,D⟩;have Z:=Zh D.below;obtain⟨k0,u,r,m,s,o,k6,k7,q,y,p⟩:=H l D.below;clear D H hi F X b M c Q d j a O f K;go_wp2_with fail;go_ret3;exact⟨rfl,Z.out⟩
theorem Ix{a b u v}{l m:AL}(h:As w a u l)(k:As w b v m):u.ownBlock≠S b:=λe=>by
 obtain⟨A,D⟩:=AJ h.own e
 exact(k.blk.ne D (by decide)) rfl
theorem Cm.add0(h:Cm w hb pb s0 s1 v0 v1 dg lim l0 l1 z lo hi){v'}{M :AL}(X:As w' s0 v' M)(G:AD (λk=>k=s0\/v0.ownBlock=S k) w w')(Z:FA w v0 v'):
  Cm w' hb pb s0 s1 v' v1 dg lim M l1 z lo hi/\BV w (Ce hb pb s0 s1 v0 v1) (Ce hb pb s0 s1 v' v1):=by
 obtain⟨Y,d,b,c⟩:=h.neb;obtain⟨p0,p1,Q,K,O⟩:=h.pne;have D :∀k,v'.ownBlock=S k->v0.ownBlock=S k\/w.heap.size<=k:=λk A =>by
  rcases Z with e|⟨f,e,g⟩
  ·exact .inl (e▸A)
  ·rw[e]at A;injection A with A;subst A;exact .inr g
 have a:=Ix h.st0 h.st1;refine⟨⟨h.blk.away G (by rintro(e|e);exact Y e.symm;exact b e),?_,Q0 h.plt G.size,h.pty.imp λ_ k=>k.away G (by rintro(e|e);exact p1 e;exact K e),⟨p0,p1,Q,λe=> ?_,O⟩,X,h.st1.away G (by rintro(e|e);exact h.ap.1 e.symm;exact a e) (λg H=> ?_),h.ap.1,λg H F=> ?_⟩,?_⟩
 ·rw[G.cell (p:=⟨pb,1,N⟩) h.plt (by rintro(e|e);exact p1 e;exact K e)];exact h.span
 ·rcases D pb e with e|e
  ·exact K e
  ·have:=h.plt;omega
 ·rintro(e|e)
  ·subst e;exact Ix h.st1 h.st0 H
  ·exact h.ap.2 g e H
 ·rcases D g H with e|e
  ·exact h.ap.2 g e F
  ·have:=(h.st1.own.lt g F).2;omega
 ·rintro k (e|e|e|e|e|e)
  ·exact .inl (.inl e)
  ·exact .inl (.inr (.inl e))
  ·exact .inl (.inr (.inr (.inl e)))
  ·exact .inl (.inr (.inr (.inr (.inl e))))
  ·exact(D k e).imp (λe=>.inr (.inr (.inr (.inr (.inl e))))) id
  ·exact .inl (.inr (.inr (.inr (.inr (.inr e)))))
theorem Cm.add1(h:Cm w hb pb s0 s1 v0 v1 dg lim l0 l1 z lo hi){v'}{O :AL}(Y:As w' s1 v' O)(G:AD (λk=>k=s1\/v1.ownBlock=S k) w w')(Z:FA w v1 v'):
  Cm w' hb pb s0 s1 v0 v' dg lim l0 O z lo hi/\BV w (Ce hb pb s0 s1 v0 v1) (Ce hb pb s0 s1 v0 v'):=by
 obtain⟨c,a,d,X⟩:=h.neb;obtain⟨p0,p1,M,Q,H⟩:=h.pne;have D :∀k,v'.ownBlock=S k->v1.ownBlock=S k\/w.heap.size<=k:=λk A =>by
  rcases Z with e|⟨f,e,g⟩
  ·exact .inl (e▸A)
  ·rw[e]at A;injection A with A;subst A;exact .inr g
 have b:=Ix h.st1 h.st0;refine⟨⟨h.blk.away G (by rintro(e|e);exact a e.symm;exact X e),?_,Q0 h.plt G.size,h.pty.imp λ_ k=>k.away G (by rintro(e|e);exact M e;exact H e),⟨p0,p1,M,Q,λe=> ?_⟩,h.st0.away G (by rintro(e|e);exact h.ap.1 e;exact b e) (λg F=> ?_),Y,h.ap.1,λg F K=> ?_⟩,?_⟩
 ·rw[G.cell (p:=⟨pb,1,N⟩) h.plt (by rintro(e|e);exact M e;exact H e)];exact h.span
 ·rcases D pb e with e|e
  ·exact H e
  ·have:=h.plt;omega
 ·rintro(e|e)
  ·subst e;exact Ix h.st0 h.st1 F
  ·exact h.ap.2 g F e
 ·rcases D g K with e|e
  ·exact h.ap.2 g F e
  ·have:=(h.st0.own.lt g F).2;omega
 ·rintro k (e|e|e|e|e|e)
  ·exact .inl (.inl e)
  ·exact .inl (.inr (.inl e))
  ·exact .inl (.inr (.inr (.inl e)))
  ·exact .inl (.inr (.inr (.inr (.inl e))))
  ·exact .inl (.inr (.inr (.inr (.inr (.inl e)))))
  ·exact(D k e).imp (λe=>.inr (.inr (.inr (.inr (.inr e))))) id
end
section
variable {hb pb s0 s1:Nat} {v0 v1:V} {dg:Nat} {lim:Int} {l0 l1:AL} {z:Nat} {lo hi:Int}
theorem OG(w)(h:Cm w hb pb s0 s1 v0 v1 dg lim l0 l1 z lo hi)(x):
  C prog 236 #[P (S ⟨hb,0,N⟩),I J x,I U 0] w λe w' =>e=R (I J 1)/\w=w' :=by
 clear h;go_enter func236,ntmps236;go_wp2_with fail;go_ret;exact⟨rfl,rfl⟩
theorem QA(w)(h:Cm w hb pb s0 s1 v0 v1 dg lim l0 l1 z lo hi)(x:Int)(A:Am x)(c:Nat)(G:1<=c)(Y:0<lim)(F:lim<Sg.mag x):
  C prog 236 #[P (S ⟨hb,0,N⟩),I J x,I U c] w λe w' =>e=R (I J 7)/\w=w' :=by
 obtain⟨i,j,H,Q,f,X,d,b,O,Z,a⟩:=h.cells;unfold Am at A;have D:=λW=>Sg.of_any x W A.1 A.2;have M:((c:Int)==0)=false:=by simp;omega
 generalize Sg.mag x=m at F D;generalize Sg.neg x=ng at D;clear h G A;go_enter func236,ntmps236;go_wp2_with(go_at_call 215;refine(D _).mono ?_;rintro e K ⟨rfl,rfl⟩);go_ret;exact⟨rfl,rfl⟩
def Xn(w:World)(hb pb s0 s1:Nat)(v0 v1:V)(dg:Nat)(lim:Int)(l0' l1' :AL)(z' :Nat)(lo' hi' :Int)(W:World):Prop:=
 ∃v0' v1',Cm W hb pb s0 s1 v0' v1' dg lim l0' l1' z' lo' hi' /\BV w (Ce hb pb s0 s1 v0 v1) (Ce hb pb s0 s1 v0' v1')/\AD (Ce hb pb s0 s1 v0 v1) w W
end
theorem OH(w hb pb s0 s1 v0 v1 dg lim)(l0 l1:AL)(z lo hi)(h:Cm w hb pb s0 s1 v0 v1 dg lim l0 l1 z lo hi)(hl:0<=lim)(c)(hc:1<=c)(q:C6 l0 l1 z+c<=9223372036854775807):
  C prog 236 #[P (S ⟨hb,0,N⟩),I J 0,I U c] w λe w' =>e=R (I J 0)/\Xn w hb pb s0 s1 v0 v1 dg lim l0 l1 (z+c) (JU (C6 l0 l1 z) lo 0) (JV (C6 l0 l1 z) hi 0) w' :=by
 obtain⟨c0,c1,v,c3,c4,c5,c6,c7,f5,f6,u⟩:=h.cells;have d:=λW=>Sg.of_any 0 W (by decide) (by decide);rw[Sg.mag_pos (bh 0),Sg.neg_no (bh 0)]at d;have g1:((c:Int)==0)=false:=by simp;omega
 have g2:¬lim<0:=by omega
 have H:=Cf w hb pb s0 s1 v0 v1 dg lim l0 l1 z lo hi h (by omega);obtain⟨T,D⟩:∃T,T=C6 l0 l1 z:=⟨_,rfl⟩;have AA:z<=T:=by rw[D];unfold C6;omega
 rw[<-D]at H q⊢;have O:=λW b=>Az W b T c q;have f:U.wrap ((z:Int)+(c:Int))=((z+c:Nat):Int):=by rw[<-ej];exact Wd.wrapN _ (by omega)
 have Y:=Zh (Zi h (Zi f D));have x:=h.blk.lt;by_cases g3:0<lim;all_goals(
  clear h f D hl;go_enter func236,ntmps236;go_wp2_with fail;refine(d _).mono ?_;rintro e X ⟨rfl,rfl⟩;go_wp2_with fail;refine H.mono ?_;rintro e X ⟨rfl,i⟩;have o:=Y.out.1.next i;have G:=Zh (Zi o i);clear o i H c0 c1 v c3 c4 c5 c6 c7 f5 f6 u;go_wp2_with fail;refine(O _ _ (by simp) (by simp)).mono ?_;rintro e w2 ⟨rfl,rfl⟩;have l:B X.heap.size X (X.alloc (.cells #[I U T,I U c] 23)):=Za;have j:=G.out.1.next l;have M:=U9 _ j;have A:=Zh (Zi j (G.out.2.trans (l.mono G.out.2.size)));clear l j G O d;go_wp2_with fail;refine M.mono ?_;rintro e y ⟨rfl,Z⟩;have s:=A.out.1.next Z;have K:=Iv y hb pb s0 s1 v0 v1 dg lim l0 l1 z lo hi s (by rw[<-Y.out.2.2];omega) 0 0;rw[<-Y.out.2.2]at K;have Q:=Zh (A.out.2.trans (Z.mono A.out.2.size));clear s Z A M;go_wp2_with fail;refine K.mono ?_;rintro e w4 ⟨rfl,a,a4⟩;obtain⟨k0,k1,k2,k3,k4,k5,k6,k7,m5,m6,m7⟩:=a.cells;have m:=a.turn (z' :=z+c) (lo' :=JU T lo 0) (hi' :=JV T hi 0) 5 (I U ((z+c:Nat):Int)) rfl;have r:AD (Ce hb pb s0 s1 v0 v1) w (w4.setCell ⟨hb,5,N⟩ (I U ((z+c:Nat):Int))):=((AD.of_below (F:=Ce hb pb s0 s1 v0 v1) Q.out).trans' a4 (λ_ _ h=>h) (λk _ e=>.inl e)).setCell ⟨hb,5,N⟩ _ (.inl (.inl rfl));have p:=Zh (Zi m r);clear a a4 m r K Q;have f:=Y.out.2.1;go_wp2_with fail;go_ret;exact⟨rfl,v0,v1,by simpa[ej]using p.out.1,λ_ h=>.inl h,by simpa[ej]using p.out.2⟩)
inductive Fq(d F:Nat)(l:AL):AL->Prop
 |refl:Fq d F l l
 |step {l' :AL} (h:Fq d F l l') (x:Nat) (h1:1<=x) (h2:x<2*2^d) (hb:DR F l' x=true):Fq d F l (EU l' x)
theorem JX{F}{l:AL}{x}(A:1<=x)(h:DR F l x=true):2<=x/\AP l x≠0:=by
 unfold DR at h;simp only[Bool.and_eq_true,bne_iff_ne,ne_eq,decide_eq_true_eq]at h;omega
theorem SG{d F}{l:AL}{x}(H:CE d l)(G:1<=x)(K:x<2*2^d)(h:DR F l x=true):CE d (EU l x):=by
 obtain⟨M,_⟩:=JX G h;have D:CE d (rest l x):=λy A=>H y (List.mem_filter.1 A).1;exact Fh D (by omega) (by omega)
theorem Fq.keeps{d F}{l A :AL}(h:Fq d F l A)(O:CE d l):CE d A /\AB A =AB l/\A.length<=l.length:=by
 induction h with
 |refl=>exact⟨O,rfl,E _⟩
 |step h x h1 h2 hb ih=>
  obtain⟨D,M,K⟩:=ih;obtain⟨G,H⟩:=JX h1 hb;exact⟨SG D h1 h2 hb,by rw[Kx _ _ (Rr d x G h2).2.2.2,M],RR (Ky H) K⟩
theorem Fq.qinv{d F}{l A :AL}{vals:AM}(h:Fq d F l A)(D:Km d F l vals):Km d F A vals:=by
 induction h with
 |refl=>exact D
 |step h x h1 h2 hb ih=>exact Ut ih x h1 h2 hb
def Sq(w:World)(db sb:Nat)(v:V)(d F:Nat)(lo hi:Int)(l l' :AL)(W:World):Prop:=
 Fq d F l l' /\AD (λk=>k=db) w W/\∃sb' v',Au W db sb' v' d F lo hi l' /\BV w (Own db sb v) (Own db sb' v')
theorem BV.refl(w P):BV w P P:=λ_ h=>.inl h
theorem BV.trans{w W P Q A}(h:BV w P Q)(k:BV W Q A)(F:w.heap.size<=W.heap.size):BV w P A:=λi hi=>by
 rcases k i hi with D|D
 ·exact h i D
 ·exact .inr (RR F D)
theorem QB(w G sb v d F lo hi)(l:AL)(h:Au w G sb v d F lo hi l)(h1:1<=d)(h2:d<=24)(h3:1<=F)(h4:F<=64)
  (hn:CE d l)(BA:l.length<=4000)(A9:AB l<=1000000):
  C prog 171 #[P (S ⟨G,0,N⟩)] w λe w' =>e=R (T #[])/\∃l',Sq w G sb v d F lo hi l l' w' :=by
 have Z:Sq w G sb v d F lo hi l l w:=⟨.refl,AD.refl _ _,sb,v,h,BV.refl _ _⟩;clear h;go_enter func171,ntmps171;go_wp2_with fail;go_loopg [2,3,4] (2*JR l+1) (λg m r i wr=>∃(D:Bool) (l' :AL),m=.bool D/\Sq w G sb v d F lo hi l l' wr/\2*JR l' +(if D then 1 else 0)<=g);case atStart=>exact⟨true,l,rfl,Z,by simp⟩
 case round=>
  clear Z;obtain⟨D,l1,rfl,Z,hg⟩:=hrel;cases D with
  |false=>
   go_wp2_with fail;refine bodyPost_end (results_none rfl _ _ _) rfl ?_;exact⟨rfl,l1,Z⟩
  |true=>
   obtain⟨f,AA,Ar,v1,X,Al⟩:=Z;obtain⟨kn,kt,kl⟩:=f.keeps hn;obtain⟨c0,c1,c2,c3,c4,c5,f3,f4,f5⟩:=X.cells;have hp:=Cx wr Ar v1 l1 X.strip (by omega);have BX :2*JR l1+1<=gk:=by simpa using hg
   have HD:=Zh (Zi X (Zi Al (Zi AA f)));clear hg X Al AA f c0 c1 c2 c4 c5 f3 f4 f5;go_wp2_with(go_at_call 177;refine hp.mono ?_;rintro e w2 ⟨vp,rfl,o2,b2⟩;obtain⟨Ap,cp,A8⟩:=AF o2;subst A8);have A5:Sq w G sb v d F lo hi l l1 w2:=⟨HD.out.2.2.2,HD.out.2.2.1.trans' (AD.of_below b2) (λk _ M=>M) (λk _ M=>M),Ar,v1,HD.out.1.next b2,HD.out.2.1⟩;have A4:w2.ownsRow 0 228 2 (L Ap l1.length cp) l1.length (AV l1):=AO o2 λg _=>V0 _;clear HD hp o2 b2 c3;go_loopg [2,4] l1.length (λg m i wr=>∃(D:Bool) (A:AL) (q:Nat),m=.bool D/\i=I J ((q:Int)-1)/\q<=g/\q<=l1.length/\Sq w G sb v d F lo hi l A wr/\
    wr.ownsRow 0 228 2 (L Ap l1.length cp) l1.length (AV l1)/\(D=false->A=l1)/\(D=true->JR A<JR l1))
   case atStart=>exact⟨false,l1,l1.length,rfl,by first|rfl|(congr 1;done),E _,E _,A5,A4,λ_=>rfl,λh=>by cases h⟩
   case round=>
    clear A5 A4;obtain⟨D,A,q,rfl,rfl,Ab,Aw,Z,s,H,K⟩:=hrel
    match q,Ab,Aw with
    |0,_,_=>
     have HH:=Zh (Zi Z (Zi H K));clear Z H K s;go_wp2_with fail;go_roundg (2*JR A+(if D then 1 else 0));case measure=>
      cases D with
      |true=>have:=HH.out.2.2 rfl;simp;omega
      |false=>have:=HH.out.2.1 rfl;rw[this];simp;omega
     case rel=>exact⟨D,A,rfl,HH.out.1,E _⟩
    |j+1,Ab,Aw=>
     obtain⟨O,p,A1,v2,b,Av⟩:=Z;obtain⟨jn,jt,jl⟩:=O.keeps hn;have hj:j<l1.length:=by omega
     obtain⟨u,x2⟩:=kn _ (bw hj);obtain⟨x,hx⟩:∃x,x=(l1[j]'hj).1:=⟨_,rfl⟩;have e0:(AV l1)[j*2]?=S (I J x):=by rw[BI l1 j hj,hx]
     rw[<-hx]at u x2;have Q:=XX wr G A1 v2 d F lo hi A x b h1 h2 h3 h4 u x2 (by omega) (by omega);rcases AH s with⟨o,Bb,_⟩|⟨g,Ba,o,A6,Ac,_,A7⟩
     ·omega
     ·simp only[L.injEq,true_and]at o;obtain⟨rfl,rfl⟩:=o;have c0:wr.cell? ⟨g,j*2,N⟩=S (I J x):=by rw[s.cellAt _ (by omega)];exact e0
      have Aa:g≠G:=by
       obtain⟨BR,A2⟩:=AJ s rfl;exact A2.ne b.blk (by decide)
      have Ay:((j+1:Nat):Int)-1=(j:Int):=by omega
      have Bs:(0:Int)<=(j:Int):=by omega
      have BQ:(j:Int)<(l1.length:Int):=by omega
      have ew:wrap64 ((j:Int)-1)=(j:Int)-1:=by unfold wrap64;omega
      have A0:∀w5:W,(∃Y v',Au w5 G Y v' d F lo hi (if DR F A x then EU A x else A)/\BV wr (Own G A1 v2) (Own G Y v')/\AD (λk=>k=G) wr w5)->
        Sq w G sb v d F lo hi l (if DR F A x then EU A x else A) w5/\w5.ownsRow 0 228 2 (L (S ⟨g,0,N⟩) l1.length cp) l1.length (AV l1):=by
       rintro w5 ⟨Y,v',d5,s5,a5⟩;refine⟨⟨?_,p.trans' a5 (λk _ M=>M) (λk _ M=>M),Y,v',d5,Av.trans s5 p.size⟩,AU s a5 λk M=> ?_⟩
       ·split
        ·rename_i hb;exact .step O x u x2 hb
        ·exact O
       ·simp[V.ownBlock]at M;subst M;exact Aa
      have a:DR F A x=true->JR (EU A x)<JR A:=λhb=>by
       obtain⟨y1,_⟩:=JX u hb;have Ax:=Rr d x y1 x2;exact XR u hb Ax.2.2.2 Ax.2.2.1
      have A3:JR A<=JR l1:=by
       cases D with
       |true=>exact Nat.le_of_lt (K rfl)
       |false=>rw[H rfl];exact E _
      have y:=Zh (Zi A0 (Zi a (Zi A3 (Zi H K))));rw[Ay];clear O p b Av jn jt jl hj u x2 hx e0 s A6 Ac A7 Aa Ay A0 a A3 H K kn kt kl;cases hb:DR F A x with
      |true=>
       rw[hb]at Q;have HB:=Zh hb;clear hb;go_wp2_with(go_at_call 178;refine Q.mono ?_;rintro e w5 ⟨rfl,c⟩);obtain⟨k1,k2⟩:=y.out.1 w5 (by rw[HB.out];exact c);rw[if_pos HB.out]at k1;go_roundg j;case measure=>omega
       case rel=>exact⟨true,EU A x,j,rfl,by go_num,E _,by omega,k1,k2,(λh=>by cases h),λ_=>Q0 (y.out.2.1 HB.out) y.out.2.2.1⟩
      |false=>
       rw[hb]at Q;have HB:=Zh hb;clear hb;go_wp2_with(go_at_call 178;refine Q.mono ?_;rintro e w5 ⟨rfl,c⟩);obtain⟨k1,k2⟩:=y.out.1 w5 (by rw[HB.out];exact c);rw[HB.out,if_neg (by decide)]at k1;go_roundg j;case measure=>omega
       case rel=>exact⟨D,A,j,rfl,by go_num,E _,by omega,k1,k2,y.out.2.2.2.1,y.out.2.2.2.2⟩
theorem QC(w D sb v d F lo hi)(l:AL)(h:Au w D sb v d F lo hi l)(j:1<=d)(b:d<=24)(f:1<=F)(Y:F<=64)
  (o:CE d l)(H:l.length<=4000)(G:AB l<=1000000):
  C prog 173 #[P (S ⟨D,0,N⟩)] w λe w' =>e=R (T #[])/\∃X,Sq w D sb v d F lo hi l X w' :=by
 have m:Sq w D sb v d F lo hi l l w:=⟨.refl,AD.refl _ _,sb,v,h,BV.refl _ _⟩;obtain⟨u,x,p,y,s,c5,f3,r,q⟩:=h.cells;obtain⟨A,c,Z⟩:=AF h.strip.own;have M:=Ea w sb A l.length c (by rw[<-Z];exact h.strip.cells.2.1);have O:=Pr w D sb v d F lo hi l h Y;have K:=QB w D sb v d F lo hi l h j b f Y o H G;clear h Z;by_cases a:4*F<l.length
 ·have k:((4*F:Nat):Int)<(l.length:Int):=by omega
  clear a;go_enter func173,ntmps173;go_wp2_with(first|(go_at_call 150;refine M.mono ?_;rintro e Q ⟨rfl,rfl⟩)|(go_at_call 16;refine O.mono ?_;rintro e Q ⟨rfl,rfl⟩)|(go_at_call 171;refine K.mono ?_;rintro e Q ⟨rfl,X,i⟩));go_end0;exact⟨rfl,X,i⟩
 ·have k:¬((4*F:Nat):Int)<(l.length:Int):=by omega
  clear a K;go_enter func173,ntmps173;go_wp2_with(first|(go_at_call 150;refine M.mono ?_;rintro e Q ⟨rfl,rfl⟩)|(go_at_call 16;refine O.mono ?_;rintro e Q ⟨rfl,rfl⟩));go_end0;exact⟨rfl,l,m⟩
def OI(w:World)(db sb:Nat)(v:V)(d F:Nat)(l' :AL)(W:World):Prop:=
 ∃lo' hi' sb' v',Au W db sb' v' d F lo' hi' l' /\Am lo' /\Am hi' /\BV w (Own db sb v) (Own db sb' v')/\AD (Own db sb v) w W
theorem OI.of_below{w W A sb v d F lo hi}{l:AL}(h:Au w A sb v d F lo hi l)(G:Am lo)(D:Am hi)(hb:B w.heap.size w W):OI w A sb v d F l W:=
 ⟨lo,hi,sb,v,h.next hb,G,D,BV.refl _ _,AD.of_below hb⟩
theorem Au.add{w W D sb v v' d F lo hi}{l K :AL}(h:Au w D sb v d F lo hi l)(M:As W sb v' K)(H:AD (λk=>k=sb\/v.ownBlock=S k) w W)(A:FA w v v'):
  Au W D sb v' d F lo hi K /\BV w (Own D sb v) (Own D sb v')/\AD (Own D sb v) w W:=by
 obtain⟨O,X⟩:=h.ne;refine⟨⟨h.blk.away H ?_,M⟩,?_,H.mono λk _ A=> ?_⟩
 ·rintro(e|e)
  ·exact O e
  ·exact X e
 ·rintro k (rfl|rfl|e)
  ·exact .inl (.inl rfl)
  ·exact .inl (.inr (.inl rfl))
  ·rcases A with A|⟨j,Q,G⟩
   ·exact .inl (.inr (.inr (A▸e)))
   ·rw[Q]at e;cases e;exact .inr G
 ·rcases A with rfl|e
  ·exact .inr (.inl rfl)
  ·exact .inr (.inr e)
theorem aP(w)(H sb:Nat)(v)(d F:Nat)(lo hi:Int)(l:AL)(h:Au w H sb v d F lo hi l)(h1:1<=d)(h2:d<=24)(h3:1<=F)(h4:F<=64)(O:Am lo)(Q:Am hi)
  (hn:CE d l)(Aw:l.length<=3000)(Av:AB l<=900000)(x:Int)(hx:Am x)(c:Nat)(hc:c<=1000):
  C prog 169 #[P (S ⟨H,0,N⟩),I J x,I U c] w λe w' =>∃(G:Int) (l' :AL),e=R (I J G)/\OI w H sb v d F l' w' /\
   ((G=0/\0<=x/\x<((2^d:Nat):Int)/\1<=c/\Fq d F (Ak l (2^d+x.toNat) c) l')\/(G≠0/\l' =l/\¬(0<=x/\x<((2^d:Nat):Int)/\1<=c))):=by
 obtain⟨c0,c1,u,c3,c4,c5,f3,f4,f5⟩:=h.cells;by_cases K:c=0
 ·have g1:((c:Int)==0)=true:=by simp[K]
  have Z:=Zh h;have HC:=Zh K;clear h K;go_enter func169,ntmps169;go_wp2_with fail;go_ret;exact⟨1,l,rfl,OI.of_below Z.out O Q (B.refl _ _),.inr ⟨by decide,rfl,λhh=>by have:=HC.out;omega⟩⟩
 ·have g1:((c:Int)==0)=false:=by simp[K]
  have A:=Tr.leaf_any (d:Int) x w (by omega) (by omega) hx.2;by_cases Y:0<=x/\x<((2^d:Nat):Int)
  ·have M:Tr.leafB (d:Int) x=true:=by rw[Tr.leafB_iff,N9];exact Y
   have i:Tr.leafV (d:Int) x=((2^d+x.toNat:Nat):Int):=by unfold Tr.leafV;rw[if_pos M,N9];omega
   rw[M,i]at A;obtain⟨y,hy⟩:∃y,y=2^d+x.toNat:=⟨_,rfl⟩;have q:1<=y:=by have:=Nat.one_le_two_pow (n:=d);omega
   have AA:y<2*2^d:=by omega
   rw[<-hy]at A⊢;have Aa:=λW b h0 h1=>Az W b (AB l) c (by omega) h0 h1;have Al:=λW (k:Au W H sb v d F lo hi l)=>Eb W H sb v d F lo hi l k;have Ap:=λW (k:Au W H sb v d F lo hi l)=>Is W H sb v d F lo hi l k x x hx hx O Q;have Ab:=λW a b (k:Au W H sb v d F a b l)=>Cc W sb v l y c k.strip (by omega) (by omega) (by omega);have j:(Ak l y c).length<=4000:=by have:=Cb l y c;omega
   have f:AB (Ak l y c)<=1000000:=by rw[EV];omega
   have Ac:=λW a b v' (k:Au W H sb v' d F a b (Ak l y c))=>QC W H sb v' d F a b _ k h1 h2 h3 h4 (Fh hn q AA) j f;have HR:=Zh (Zi Y (show 1<=c by omega));have Z:=Zh h;clear h M i Y hy j f;go_enter func169,ntmps169;go_wp2_with fail;refine A.mono ?_;rintro e m ⟨rfl,X⟩;have D1:=Z.out.next X;clear A c0 c1 u c3 c4 c5 f3 f4 f5;go_wp2_with fail;refine(Al m D1).mono ?_;rintro e p ⟨rfl,rfl⟩;go_wp2_with fail;refine(Aa _ _ (by simp) (by simp)).mono ?_;rintro e p ⟨rfl,rfl⟩;have o:B w.heap.size w (m.alloc (.cells #[I U ((AB l:Nat):Int),I U c] 23)):=X.alloc X.size _;have D2:=Z.out.next o;generalize m.alloc (.cells #[I U ((AB l:Nat):Int),I U c] 23)=p at D2 o⊢;clear D1 X;go_wp2_with fail;refine(Ap p D2).mono ?_;rintro e w3 ⟨rfl,a3,z3,i3,j3,D3,A3⟩;obtain⟨c0,c1,u,c3,c4,c5,f3,f4,f5⟩:=D3.cells;go_wp2_with fail;refine(Ab w3 a3 z3 D3).mono ?_;rintro e w4 ⟨rfl,v4,S4,A4,K4⟩;obtain⟨D4,O4,B4⟩:=D3.add S4 A4 K4;clear c0 c1 u c3 c4 c5 f3 f4 f5;go_wp2_with fail;refine(Ac w4 a3 z3 v4 D4).mono ?_;rintro e w5 ⟨rfl,l5,L5,A5,r,v5,D5,O5⟩;go_wp2_with fail;go_ret;refine⟨0,l5,rfl,⟨a3,z3,r,v5,D5,i3,j3,?_,?_⟩,.inl ⟨rfl,HR.out.1.1,HR.out.1.2,HR.out.2,L5⟩⟩
   ·have Ar:p.heap.size<=w3.heap.size:=A3.size;have s3:w.heap.size<=w3.heap.size:=RR o.size Ar;have s4:w.heap.size<=w4.heap.size:=RR s3 A4.size;refine BV.trans (BV.trans (BV.refl w _) O4 s3) O5 s4
   ·refine AD.trans' (AD.trans' (AD.trans' (AD.of_below (F:=Own H sb v) o) A3 (λk _ D=>D) (λk _ D=>.inl D)) B4 (λk _ D=>D) (λk _ D=>D)) A5 (λk _ D=>D) (λk _ D=>.inl D)
  ·have M:Tr.leafB (d:Int) x=false:=by rw[Tr.leafB_no,N9];exact Y
   have s:=Zh Y;have i:Tr.leafV (d:Int) x=0:=by unfold Tr.leafV;rw[M];rfl
   rw[M,i]at A;have Z:=Zh h;clear h M i Y;go_enter func169,ntmps169;go_wp2_with(go_at_call 99;refine A.mono ?_;rintro e m ⟨rfl,X⟩);go_ret;exact⟨7,l,rfl,OI.of_below Z.out O Q X,.inr ⟨by decide,rfl,λhh=>s.out ⟨hh.1,hh.2.1⟩⟩⟩
theorem Fr:prog.fieldsOf 25= #[{name:= "Num",type:=23,offset:=0,embedded:=false,tag:= "",pkgPath:= "",byteOffset:=0},{name:= "Den",type:=23,offset:=1,embedded:=false,tag:= "",pkgPath:= "",byteOffset:=8}]:=by
 unfold Program.fieldsOf;rw[underlying25]
theorem aQ:prog.eqGuardType prog.depth 51=false:=by kernel_rfl
theorem aR:prog.stoodInHeld 28=false:=by kernel_rfl
theorem Tv:prog.stoodInHeld 25=false:=by kernel_rfl
theorem fX(w n a b c d):(Op.equalIn (n+2) 25 (.agg #[I U a,I U b]) (.agg #[I U c,I U d])).run prog w=.ok ((a==c)&&(b==d)) w:=by
 have A:prog.underlying 25=S (.struct (prog.fieldsOf 25)):=by rw[Fr,underlying25]
 have G:=λw=>isAgg23 w;rw[run_equalIn_agg w (n+1) 25 _ _ A Tv,Fr];simp[Op.eqFields,part,G,run_equalIn_int (P:=prog) _ n 23 U U _ _ underlying23];by_cases F:a=c<;>by_cases D:b=d<;>simp[F,D]
theorem Iy:prog.fieldsOf 28= #[{name:= "Kind",type:=22,offset:=0,embedded:=false,tag:= "",pkgPath:= "",byteOffset:=0},{name:= "Part",type:=25,offset:=1,embedded:=false,tag:= "",pkgPath:= "",byteOffset:=8},{name:= "Side",type:=26,offset:=3,embedded:=false,tag:= "",pkgPath:= "",byteOffset:=24},{name:= "Most",type:=3,offset:=4,embedded:=false,tag:= "",pkgPath:= "",byteOffset:=32},{name:= "Digits",type:=3,offset:=5,embedded:=false,tag:= "",pkgPath:= "",byteOffset:=40},{name:= "Limit",type:=23,offset:=6,embedded:=false,tag:= "",pkgPath:= "",byteOffset:=48},{name:= "Depth",type:=3,offset:=7,embedded:=false,tag:= "",pkgPath:= "",byteOffset:=56},{name:= "Factor",type:=3,offset:=8,embedded:=false,tag:= "",pkgPath:= "",byteOffset:=64},{name:= "Width",type:=3,offset:=9,embedded:=false,tag:= "",pkgPath:= "",byteOffset:=72},{name:= "Word",type:=23,offset:=10,embedded:=false,tag:= "",pkgPath:= "",byteOffset:=80}]:=by
 unfold Program.fieldsOf;rw[underlying28]
def Df(a0 a1 a2 a3 a4 a5 a6 a7 a8 a9 a10 b0 b1 b2 b3 b4 b5 b6 b7 b8 b9 b10:Int):Bool:=(a0==b0)&&(a1==b1)&&(a2==b2)&&(a3==b3)&&(a4==b4)&&(a5==b5)&&(a6==b6)&&(a7==b7)&&(a8==b8)&&(a9==b9)&&(a10==b10)
theorem cC(w a0 a1 a2 a3 a4 a5 a6 a7 a8 a9 a10 d Q X c b Z a Y e f M):(binOp .neq 28 (.agg #[I J a0,I U a1,I U a2,I J a3,I J a4,I J a5,I U a6,I J a7,I J a8,I J a9,I U a10]) (.agg #[I J d,I U Q,I U X,I J c,I J b,I J Z,I U a,I J Y,I J e,I J f,I U M])).run prog w=.ok (.bool !(Df a0 a1 a2 a3 a4 a5 a6 a7 a8 a9 a10 d Q X c b Z a Y e f M)) w:=by
 have O:prog.underlying 28=S (.struct (prog.fieldsOf 28)):=by rw[Iy,underlying28]
 have K:=λw=>isAgg3 w;have H:=λw=>isAgg22 w;have D:=λw=>isAgg23 w;have A:=λw=>isAgg25 w;have F:=λw=>isAgg26 w;have G:=λw=>sizeOf25 w;rw[run_neq_struct,show(10000:Nat)=9999+1 from rfl,run_equalIn_agg w 9999 28 _ _ O aR,Iy];simp[Op.eqFields,part,K,H,D,A,F,G,fX _ 9997,run_equalIn_int (P:=prog) _ 9998 3 J J _ _ underlying3,run_equalIn_int (P:=prog) _ 9998 22 J J _ _ underlying22,run_equalIn_int (P:=prog) _ 9998 23 U U _ _ underlying23,run_equalIn_int (P:=prog) _ 9998 26 J J _ _ underlying26];clear O K H D A F G;unfold Df;by_cases h:a1=Q<;>by_cases i:a2=X<;>simp only[h,i,not_true,not_false_iff,imp_false,forall_const,if_true,if_false]<;>(repeat' split)<;>simp_all
end Go.Proofs.YtbejdajkkoapgaaGreatDoor
