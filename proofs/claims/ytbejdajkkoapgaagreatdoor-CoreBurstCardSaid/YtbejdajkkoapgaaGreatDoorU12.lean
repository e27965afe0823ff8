/-
  Lemmas and walks for coreBurst.proved, joined and squeezed by a program out of the loose texts GB, GC, GD, GE, Hw, GG, M7, GK, GH, M8. Conditions: each theorem states its own.
-/
import Derived.Test.YtbejdajkkoapgaaGreatDoorU11
import Derived.Deep.RegionHeld3
import Derived.BigQuiet
import Derived.Test.YtbejdajkkoapgaaGreatDoorU05
import Derived.Test.YtbejdajkkoapgaaGreatDoorU07
import Derived.Test.YtbejdajkkoapgaaGreatDoorU09
import Derived.Test.YtbejdajkkoapgaaGreatDoorU02
set_option linter.all false
set_option maxRecDepth 100000
set_option maxHeartbeats 40000000
open Go.RowKit Go.Lib Go.Proofs.Tryz
open Go renaming Calls->C,Value->V,World->W
open Go.Act renaming put->V0
open Go.Addr renaming add_lit->bw
open Go.Ending renaming returned->R
open Go.IntKind renaming i64->J,u64->U,wrap_u64->Pa
open Go.RowKit renaming Below->B
open Go.Value renaming int->I,pointer->P,slice->L,tuple->T
open List renaming append_assoc->fj,append_nil->gU,eq_nil_of_length_eq_zero->es,flatMap_append->gT,flatMap_cons->bh,flatMap_nil->fk,getElem_mem->RR,length_append->Q0,length_cons->ej,mem_cons_of_mem->gQ,mem_cons_self->gR,nil_append->gS,not_mem_nil->fw,take_length->fx,take_of_length_le->fp,take_succ_eq_append_getElem->fa
open Nat renaming le_refl->E,le_trans->ag,lt_of_lt_of_le->aw,zero_add->dT,zero_le->NW
open Option renaming none->N,some->S,some.inj->fy
namespace Go.Proofs.YtbejdajkkoapgaaGreatDoor
theorem RJ(num den:Nat)(H:Ki num den=true)(w)(D:List BM)(F)(t:Nat)(hs:BO D+F.length=t)(u:Cv (max t 1) D)(hf:F.length<16)(hI:∀x∈F,Am x)(p:t<=50000)
  (W A1)(O:Nat)(A2)(K:Nat)(b:B w.heap.size w W)(i:W.ownsRow w.heap.size 202 3 (L A1 D.length O) D.length (AR D))(f:W.ownsRow w.heap.size 2 1 (L A2 F.length K) F.length (BG F)):
  C prog 260 #[P (S ⟨W.heap.size,0,N⟩)] (W.alloc (.cells #[I U num,I U den,L A1 D.length O,L A2 F.length K,I U t] 180)) λe w' =>e=R (T #[])/\∃v l,w'.cell? ⟨W.heap.size,2,N⟩=S v/\W.heap.size<w'.heap.size/\w'.ownsRow w.heap.size 202 3 v l.length (AR l)/\BO l=t/\Cv (max t 1) l/\B w.heap.size w w' :=by
 have d:B W.heap.size W (W.alloc (.cells #[I U num,I U den,L A1 D.length O,L A2 F.length K,I U t] 180)):=Za;have G:Ev num den (W.alloc (.cells #[I U num,I U den,L A1 D.length O,L A2 F.length K,I U t] 180)) W.heap.size (L A1 D.length O) D (L A2 F.length K) F t:=
  ⟨AI.newAt rfl,AO (AE i d λg H=>(i.lt g H).2) (λ_ _=>NW _),AO (AE f d λg H=>(f.lt g H).2) (λ_ _=>NW _)⟩
 refine(IY H G hs u hI p (by omega)).mono ?_;rintro e w3 ⟨rfl,a,Y,s,Z,m⟩;have o:∀k,CX W.heap.size (L A1 D.length O) (L A2 F.length K) k->w.heap.size<=k:=λk Q=>by
  rcases Q with rfl|Q|Q
  ·exact b.size
  ·exact(i.lt k Q).1
  ·exact(f.lt k Q).1
 have j:B w.heap.size w w3:=(b.trans (d.mono b.size)).trans (m.away.below (by have:=b.size;simp;omega) λk Q h=>by have:=o k h;omega);refine⟨rfl,a,Y,Z.gr.blk.cell rfl,Z.gr.blk.lt,AO Z.gr.own λg H=> ?_,by have:=Z.sum;simpa using this,Z.all,j⟩;rcases m.sub g (.inr (.inl H))with h|h
 ·exact o g h
 ·have:=b.size;simp at h;omega
theorem O8(num den:Nat)(D:Ki num den=true)(w)(sb:Nat)(f)(F:List BM)(Z i)(t:Nat)(S:Zz num den w sb f F Z i t)(ht:t<=50000):
  C prog 301 #[P (some ⟨sb,0,N⟩)] w λe w' =>∃v' l',e=R v' /\w'.ownsRow w.heap.size 202 3 v' l'.length (AR l')/\BO l' =t/\Cv (max t 1) l' /\B w.heap.size w w' :=by
 have Q:=λW (b:B w.heap.size w W)=>IU W f F (AE S.gr.own b λg D=>(S.gr.own.lt g D).2) (by have:=Cj F S.all;have:=S.sum;omega);have O:=λW (b:B w.heap.size w W)=>IV W Z i (AE S.gr.wown b λg D=>(S.gr.wown.lt g D).2) (by have:=S.few;omega);have Y:=Zh (λW (b:B w.heap.size w W)=>(show W.cell? ⟨sb,0,N⟩=some (I U num)/\W.cell? ⟨sb,1,N⟩=some (I U den)/\W.cell? ⟨sb,2,N⟩=some f/\W.cell? ⟨sb,3,N⟩=some Z/\W.cell? ⟨sb,4,N⟩=some (I U t)/\sb<W.heap.size from
  ⟨(S.gr.next b).cells.1,(S.gr.next b).cells.2.1,(S.gr.next b).cells.2.2.1,(S.gr.next b).cells.2.2.2.1,(S.gr.next b).cells.2.2.2.2.1,(S.gr.next b).blk.lt⟩))
 have a:=Zh (λW W' (b:B w.heap.size w W) (b' :B W.heap.size W W')=>b.trans (b'.mono b.size));have G:=Zh (RJ num den D w F i t S.sum S.all S.few S.in64 ht);clear S D;go_enter func301,ntmps301;go_upto_region 1 with fail;have h:B w.heap.size w w.drew:=(B.refl _ _).drew;have o:=Zh (Y.out _ h);go_region_held3 (λw' =>w'.cell? ⟨sb,0,N⟩=some (I U num)/\w'.cell? ⟨sb,1,N⟩=some (I U den)/\w'.cell? ⟨sb,2,N⟩=some f/\w'.cell? ⟨sb,3,N⟩=some Z/\w'.cell? ⟨sb,4,N⟩=some (I U t)/\sb<w'.heap.size) (first|exact o.out|exact Y.out _ (by assumption)|exact Y.out _ (a.out _ _ (by assumption) (Za)))
  (first
   |(go_at_call 103;refine(Q _ (by assumption)).mono ?_;rintro e w1 ⟨v1,rfl,H,s⟩;have p:=a.out _ _ h s;obtain⟨A1,k1,rfl⟩:=AF H)
   |(go_at_call 104;refine(O _ (by assumption)).mono ?_;rintro e w2 ⟨v2,rfl,d,j⟩;have B2:=a.out _ _ p j;obtain⟨A2,k2,rfl⟩:=AF d))
 have u:=AO (base' :=w.heap.size) (AE H j λg D=>(H.lt g D).2) λg D=>ag h.size (H.lt g D).1;have k:=AO (base' :=w.heap.size) d λg D=>ag p.size (d.lt g D).1;have K:=G.out _ _ _ _ _ B2 u k;clear Q O Y a G o H d s j u k;go_wp2_with fail;refine K.mono ?_;rintro e w3 ⟨rfl,v3,l3,d2,dl,m⟩;have HH:=Zh m;clear K m;go_wp2_with fail;go_ret;exact⟨v3,l3,rfl,HH.out⟩
theorem IZ{G}{rest:List Oper}{o a Q}(H:o.guard=N)(s x)(k:o.op=.call {callee:=.builtin .append,args:= #[s,x],argTypes:= #[177,177]})
  {W B n c}{l:List BM}{A}(F:W.ownsRow B 202 3 (L A n c) n (AR l))(hB:B<=W.heap.size)(d:n<=100000){X:BM}{b}(m:a.eval s=L A n c)(p:a.eval x=L (S ⟨b,0,N⟩) 1 1)(hb:AI W b #[I J X.1,I U X.2.1,I U X.2.2] 202)
  (h:∀A' c' K,K.ownsRow B 202 3 (L A' (n+1) c') (n+1) (AR (l++ [X]))->W.grownBy K (L A n c).ownBlock->((L A' (n+1) c').ownBlock=(L A n c).ownBlock\/(L A' (n+1) c').ownBlock=S W.heap.size)->wpList prog G Q rest (a.put o.dst (L A' (n+1) c')) K):wpList prog G Q (o::rest) a W:=by
 obtain⟨i,hi,O,Y,Z⟩:=info_parts FK;refine wpList_append_own_at _ H s x 177 k B 202 i _ 3 24 underlying177 hi O Y Z rfl (by decide) _ _ _ m F ⟨b,0,N⟩ 1 1 (CS X) p rfl ?_ ?_ (by unfold maxLen;omega) (by omega) hB ?_
 ·intro j u hj;rw[bw,dT];exact hb.cell (by simpa[CS]using hj)
 ·intro u e;simp[CS]at e;rcases e with rfl|rfl|rfl<;>rfl
 intro v' w' D f _ g;obtain⟨A',c',rfl⟩:=AF D;rw[show AR l++CS X=AR (l++ [X]) by rw[GI];simp[AR]]at D;exact h A' c' w' D f g
structure RK(w:World)(M:Nat)(l:List BM)(q:Nat)(A:Option Addr)(c:Nat)(l' :List BM)(W:World):Prop where
 own:W.ownsRow w.heap.size 202 3 (L A q c) q (AR l')
 len:q=l'.length
 sum:BO l' =BO (l.take q)
 good:Cv M l'
 below:B w.heap.size w W
structure Wl(w:World)(M:Nat)(l:List BM)(q:Nat)(A:Option Addr)(c:Nat)(l' :List BM)(pb:Nat)(y:BM)(W:World):Prop where
 s:RK w M l q A c l' W
 box:AI W pb #[I J y.1,I U y.2.1,I U y.2.2] 202
 nb:(L A q c).ownBlock≠S pb
 nw:w.heap.size<=pb
section
variable {w W W' :World} {M:Nat} {l:List BM} {q:Nat} {A:Option Addr} {c:Nat} {l' :List BM} {pb:Nat} {y:BM}
theorem RK.start(w M)(l:List BM):RK w M l 0 N 0 [] w:=⟨World.ownsRow_nil _ _ _ _,rfl,rfl,λy D=>absurd D fw,B.refl _ _⟩
theorem RK.next(h:RK w M l q A c l' W)(b:B W.heap.size W W'):RK w M l q A c l' W' :=⟨AE h.own b λg D=>(h.own.lt g D).2,h.len,h.sum,h.good,h.below.trans (b.mono h.below.size)⟩
theorem Wl.next(h:Wl w M l q A c l' pb y W)(b:B W.heap.size W W'):Wl w M l q A c l' pb y W' :=⟨h.s.next b,h.box.below b h.box.lt,h.nb,h.nw⟩
theorem Wl.cells(h:Wl w M l q A c l' pb y W):W.cell? ⟨pb,0,N⟩=S (I J y.1)/\W.cell? ⟨pb,1,N⟩=S (I U y.2.1)/\W.cell? ⟨pb,2,N⟩=S (I U y.2.2)/\W.frozen? ⟨pb,2,N⟩=false/\pb<W.heap.size:=⟨h.box.cell rfl,h.box.cell rfl,h.box.cell rfl,h.box.frozen 2,h.box.lt⟩
theorem Wl.slack(h:Wl w M l q A c l' pb y W)(s):Wl w M l q A c l' pb (y.1,y.2.1,s) (W.setCell ⟨pb,2,N⟩ (I U s)):=
 ⟨⟨AN h.s.own ⟨pb,2,N⟩ _ h.nb,h.s.len,h.s.sum,h.s.good,h.s.below.setCell (p:=⟨pb,2,N⟩) h.nw _⟩,h.box.set 2 _,h.nb,h.nw⟩
theorem RK.grown{A' c'}{x:BM}(h:RK w M l q A c l' W)(O:Sv M y)(Q:BO (l.take (q+1))=BO (l.take q)+x.2.1)(K:y.2.1=x.2.1){G W1}(b:B W.heap.size W G)(o:W1.ownsRow w.heap.size 202 3 (L A' (q+1) c') (q+1) (AR (l' ++ [y])))(g:G.grownBy W1 (L A q c).ownBlock):RK w M l (q+1) A' c' (l' ++ [y]) W1:=by
 have F:=h.next b;refine⟨o,by rw[Q0,<-h.len];rfl,?_,λz D=> ?_,F.below.grown g F.below.size λk H=>(F.own.lt k H).1⟩
 ·rw[DT,h.sum,Q,<-K];simp[BO]
 ·rcases List.mem_append.1 D with D|D
  ·exact h.good z D
  ·rw[List.mem_singleton.1 D];exact O
end
def UP(w:W)(M:Nat)(l:List BM)(e:Ending)(w' :W):Prop:=∃A c l',e=R (L A l.length c)/\RK w M l l.length A c l' w'
theorem RK.all{w M}{l l' :List BM}{A c W}(h:RK w M l l.length A c l' W):W.ownsRow w.heap.size 202 3 (L A l.length c) l'.length (AR l')/\BO l' =BO l/\l'.length=l.length:=by
 refine⟨by rw[<-h.len];exact h.own,by rw[h.sum,fx],h.len.symm⟩
theorem NR{D F M}{x o:BM}(O:Sv D x)(G:Sv F o)(a:D+F<=M):Sv M (x.1,x.2.1,x.2.2+(o.2.1+o.2.2-1)):=by
 obtain⟨K,H,d⟩:=O;obtain⟨Q,Y,Z⟩:=G;refine⟨K,H,?_⟩;show x.2.1+(x.2.2+(o.2.1+o.2.2-1))<=M;omega
theorem bL(w Na Nb M)(hM:Na+Nb<=M)(hN:M<=1000000)(v1 v2)(l D:List BM)(bx)(Aa:w.ownsRow 0 202 3 v1 l.length (AR l))(Ap:w.ownsRow 0 202 3 v2 D.length (AR D))(A7:AI w bx #[v2] 177)(hl:l.length<=100000)(BA:D.length<=100000)(ha:Cv Na l)(hb:Cv Nb D):
  C prog 302 #[v1,v2,.func (.func 303) #[] #[P (some ⟨bx,0,N⟩)]] w (UP w M l):=by
 obtain⟨A0,c0,rfl⟩:=AF Aa;obtain⟨A2,c2,rfl⟩:=AF Ap;obtain⟨m,hm⟩:∃m,m=l.length:=⟨_,rfl⟩;obtain⟨m2,Ab⟩:∃m2,m2=D.length:=⟨_,rfl⟩;have d:=Zh (Zi Aa (Zi hm ha));have H:=Zh (Zi Ap (Zi A7 (Zi Ab hb)));have A3:=Zh (RK.start w M l);have HM:=Zh hM;rw[<-hm]at hl⊢;rw[<-Ab]at BA⊢;clear Aa Ap A7 ha hb hm Ab hM;go_enter func302,ntmps302;go_wp2_with fail;go_loopg [7,13] m (λg s i Q=>∃(q:Nat) (A:Option Addr) (c:Nat) (l' :List BM),i=I J q/\q<=m/\m-q<=g/\s=L A q c/\RK w M l q A c l' Q);case atStart=>exact⟨0,N,0,[],rfl,NW _,E _,rfl,A3.out⟩
 case round=>
  clear A3;rename W=>Q;obtain⟨q,A,c,l',rfl,hq,hg,rfl,S⟩:=hrel;by_cases Ba:q<m
  ·have g1:(q:Int)<(m:Int):=by omega
   have Z:q<l.length:=by rw[<-d.out.2.1];exact Ba
   rcases AH d.out.1 with⟨_,Bw,_⟩|⟨g0,B1,hv,_,_,_,Bb⟩
   ·omega
   simp only[L.injEq]at hv;obtain⟨rfl,-,rfl⟩:=hv;have h:=AE d.out.1 S.below λg hg=>(d.out.1.lt g hg).2;rw[<-d.out.2.1]at h;obtain⟨p0,p1,p2⟩:=BC h d.out.2.1 q Z;have f:=d.out.2.2 _ (RR Z);have AA:=Dp l q Z;generalize l[q]'Z=x at p0 p1 p2 f AA;have b4:B Q.heap.size Q (Q.alloc (.cells #[I J x.1,I U x.2.1,I U x.2.2] 202)):=Za;have k:=S.below.trans (b4.mono S.below.size);have Al:=bK (Q.alloc (.cells #[I J x.1,I U x.2.1,I U x.2.2] 202)) bx 0 _ D x.1 (H.out.2.1.below k H.out.2.1.lt) (AE H.out.1 k λg hg=>(H.out.1.lt g hg).2) (by have:=H.out.2.2.1;omega);rw[<-H.out.2.2.1]at Al;have X4:Wl w M l q A c l' Q.heap.size x (Q.alloc (.cells #[I J x.1,I U x.2.1,I U x.2.2] 202)):=⟨S.next b4,AI.newAt rfl,λe=>by have:=(S.own.lt _ e).2;omega,S.below.size⟩;have A5:=Zh X4;have HD:=Zh (Zi f AA);clear h AA f b4 k X4 S;go_wp2_with fail;refine Al.mono ?_;rintro e w5 ⟨p,rfl,hp,b5⟩;have X5:=A5.out.next b5;have Aw:=X5.s.below;generalize Q.heap.size=pb at X5⊢;obtain⟨x0,x1,x2,f2,xl⟩:=X5.cells;have Ac:=Zh X5;have G:=AE H.out.1 Aw λg hg=>(H.out.1.lt g hg).2;have Y:=Zh G;clear Al b5 A5 X5 Aw G p0 p1 p2;go_upto_if 24 with fail;go_cut [7,9,10,13,24]from 25 to 40 (λs pv _ i _ wy=>s=L A q c/\pv=P (some ⟨pb,0,N⟩)/\i=I J q/\∃y:BM,y.2.1=x.2.1/\Sv M y/\Wl w M l q A c l' pb y wy);case first=>
    by_cases BR:p<m2
    ·have g2:(p:Int)<(m2:Int):=by omega
     have j:p<D.length:=by rw[<-H.out.2.2.1];exact BR
     rcases AH Y.out with⟨_,Bw,_⟩|⟨g5,B0,A8,_,_,_,Av⟩
     ·omega
     simp only[L.injEq]at A8;obtain⟨rfl,-,rfl⟩:=A8;have G:=Y.out;rw[<-H.out.2.2.1]at G;obtain⟨o0,o1,o2⟩:=BC G H.out.2.2.1 p j;have K:=H.out.2.2.2 _ (RR j);have F:=NR HD.out.1 K HM.out;generalize D[p]'j=o at o0 o1 o2 K F;obtain⟨a,ha⟩:∃a,a=o.2.1:=⟨_,rfl⟩;obtain⟨b,hb⟩:∃b,b=o.2.2:=⟨_,rfl⟩;obtain⟨t,ht⟩:∃t,t=x.2.2:=⟨_,rfl⟩;have ga:1<=a:=by rw[ha];exact K.2.1
     have gb:a+b<=Nb:=by rw[ha,hb];exact K.2.2
     have gt:t<=Na:=by rw[ht];have:=HD.out.1.2.2;omega
     have gM:=HM.out;rw[<-ha]at o1 F;rw[<-hb]at o2 F;rw[<-ht]at x2 F;obtain⟨u,hu⟩:∃u,u=a+b:=⟨_,rfl⟩;obtain⟨v,hv⟩:∃v,v=u-1:=⟨_,rfl⟩;obtain⟨z,hz⟩:∃z,z=t+v:=⟨_,rfl⟩;have e1:U.wrap ((a:Int)+(b:Int))=(u:Int):=by rw[Pa];omega
     have e2:U.wrap ((u:Int)-1)=(v:Int):=by rw[Pa];omega
     have e3:U.wrap ((t:Int)+(v:Int))=(z:Int):=by rw[Pa];omega
     have Ax:t+(a+b-1)=z:=by omega
     rw[Ax]at F;have A4:=Zh F;have g0:(0:Int)<=(p:Int):=by omega
     clear o0 K F ha hb ht hu hv hz Ax G Y ga gb gt gM Bb Av;go_upto_region 7 with fail;have BQ:=Zh ((Ac.out.next (B.refl _ w5).drew).slack z);go_region;all_goals(
      clear e1 e2 e3;go_wp2_with fail;go_meet;exact⟨rfl,rfl,rfl,(x.1,x.2.1,z),rfl,A4.out,BQ.out⟩)
    ·have g2:¬(p:Int)<(m2:Int):=by omega
     have Bs:=Zh (show Sv M x from HD.out.1.mono (by have:=HM.out;omega));go_wp2_with fail;go_meet;exact⟨rfl,rfl,rfl,x,rfl,Bs.out,Ac.out⟩
   case rest=>
    obtain⟨rfl,rfl,rfl,y,Ar,A6,X6⟩:=hcut;rename W=>w6;clear Ac Y x0 x1 x2 f2 xl;obtain⟨x0,x1,x2,f2,xl⟩:=X6.cells;have b7:B w6.heap.size w6 (w6.alloc (.cells #[I J y.1,I U y.2.1,I U y.2.2] 202)):=Za;have S7:=X6.s.next b7;have Ay:=S7.below.size;have BX:=Zh Ay;have A9:=Zh S7;have O:=Zh (Zi X6.s (Zi b7 (Zi Ar A6)));have Bu:q<=100000:=by omega
    clear X6 b7 S7 Ay Ar A6;go_wp2_with(at_builtin;refine IZ rfl _ _ rfl A9.out.own BX.out Bu rfl rfl (AI.newAt rfl) ?_);intro A' c' w8 o8 g8 _;have S8:=O.out.1.grown O.out.2.2.2 HD.out.2 O.out.2.2.1 O.out.2.1 o8 g8;have Bt:=Zh S8;clear S8 o8 g8 A9 O x0 x1 x2 f2 xl;go_wp2_with fail;go_roundg (m-(q+1));case measure=>omega
    exact⟨q+1,A',c',_,by go_num,by omega,E _,rfl,Bt.out⟩
  ·have g1:¬(q:Int)<(m:Int):=by omega
   obtain rfl:q=m:=by omega
   have HF:=Zh (show UP w M l (R (L A q c)) Q from⟨A,c,l',by rw[<-d.out.2.1],by rw[<-d.out.2.1];exact S⟩);clear S;go_wp2_with fail;go_ret;exact HF.out
theorem bM(w Na Nb M)(hM:Na+Nb<=M)(hN:M<=1000000)(v1 v2)(l D:List BM)(bx)(Aa:w.ownsRow 0 202 3 v1 l.length (AR l))(Ap:w.ownsRow 0 202 3 v2 D.length (AR D))(A7:AI w bx #[v2] 177)(hl:l.length<=100000)(BA:D.length<=100000)(ha:Cv Na l)(hb:Cv Nb D):
  C prog 302 #[v1,v2,.func (.func 305) #[] #[P (some ⟨bx,0,N⟩)]] w (UP w M l):=by
 obtain⟨A0,c0,rfl⟩:=AF Aa;obtain⟨A2,c2,rfl⟩:=AF Ap;obtain⟨m,hm⟩:∃m,m=l.length:=⟨_,rfl⟩;obtain⟨m2,Ab⟩:∃m2,m2=D.length:=⟨_,rfl⟩;have d:=Zh (Zi Aa (Zi hm ha));have H:=Zh (Zi Ap (Zi A7 (Zi Ab hb)));have A3:=Zh (RK.start w M l);have HM:=Zh hM;rw[<-hm]at hl⊢;rw[<-Ab]at BA⊢;clear Aa Ap A7 ha hb hm Ab hM;go_enter func302,ntmps302;go_wp2_with fail;go_loopg [7,13] m (λg s i Q=>∃(q:Nat) (A:Option Addr) (c:Nat) (l' :List BM),i=I J q/\q<=m/\m-q<=g/\s=L A q c/\RK w M l q A c l' Q);case atStart=>exact⟨0,N,0,[],rfl,NW _,E _,rfl,A3.out⟩
 case round=>
  clear A3;rename W=>Q;obtain⟨q,A,c,l',rfl,hq,hg,rfl,S⟩:=hrel;by_cases Ba:q<m
  ·have g1:(q:Int)<(m:Int):=by omega
   have Z:q<l.length:=by rw[<-d.out.2.1];exact Ba
   rcases AH d.out.1 with⟨_,Bw,_⟩|⟨g0,B1,hv,_,_,_,Bb⟩
   ·omega
   simp only[L.injEq]at hv;obtain⟨rfl,-,rfl⟩:=hv;have h:=AE d.out.1 S.below λg hg=>(d.out.1.lt g hg).2;rw[<-d.out.2.1]at h;obtain⟨p0,p1,p2⟩:=BC h d.out.2.1 q Z;have f:=d.out.2.2 _ (RR Z);have AA:=Dp l q Z;generalize l[q]'Z=x at p0 p1 p2 f AA;have b4:B Q.heap.size Q (Q.alloc (.cells #[I J x.1,I U x.2.1,I U x.2.2] 202)):=Za;have k:=S.below.trans (b4.mono S.below.size);have Al:=Yy (Q.alloc (.cells #[I J x.1,I U x.2.1,I U x.2.2] 202)) bx 0 _ D x.1 (H.out.2.1.below k H.out.2.1.lt) (AE H.out.1 k λg hg=>(H.out.1.lt g hg).2) (by have:=H.out.2.2.1;omega);rw[<-H.out.2.2.1]at Al;have X4:Wl w M l q A c l' Q.heap.size x (Q.alloc (.cells #[I J x.1,I U x.2.1,I U x.2.2] 202)):=⟨S.next b4,AI.newAt rfl,λe=>by have:=(S.own.lt _ e).2;omega,S.below.size⟩;have A5:=Zh X4;have HD:=Zh (Zi f AA);clear h AA f b4 k X4 S;go_wp2_with fail;refine Al.mono ?_;rintro e w5 ⟨p,rfl,hp,b5⟩;have X5:=A5.out.next b5;have Aw:=X5.s.below;generalize Q.heap.size=pb at X5⊢;obtain⟨x0,x1,x2,f2,xl⟩:=X5.cells;have Ac:=Zh X5;have G:=AE H.out.1 Aw λg hg=>(H.out.1.lt g hg).2;have Y:=Zh G;clear Al b5 A5 X5 Aw G p0 p1 p2;go_upto_if 24 with fail;go_cut [7,9,10,13,24]from 25 to 40 (λs pv _ i _ wy=>s=L A q c/\pv=P (some ⟨pb,0,N⟩)/\i=I J q/\∃y:BM,y.2.1=x.2.1/\Sv M y/\Wl w M l q A c l' pb y wy)
   case first=>
    by_cases BR:p<m2
    ·have g2:(p:Int)<(m2:Int):=by omega
     have j:p<D.length:=by rw[<-H.out.2.2.1];exact BR
     rcases AH Y.out with⟨_,Bw,_⟩|⟨g5,B0,A8,_,_,_,Av⟩
     ·omega
     simp only[L.injEq]at A8;obtain⟨rfl,-,rfl⟩:=A8;have G:=Y.out;rw[<-H.out.2.2.1]at G;obtain⟨o0,o1,o2⟩:=BC G H.out.2.2.1 p j;have K:=H.out.2.2.2 _ (RR j);have F:=NR HD.out.1 K HM.out;generalize D[p]'j=o at o0 o1 o2 K F;obtain⟨a,ha⟩:∃a,a=o.2.1:=⟨_,rfl⟩;obtain⟨b,hb⟩:∃b,b=o.2.2:=⟨_,rfl⟩;obtain⟨t,ht⟩:∃t,t=x.2.2:=⟨_,rfl⟩;have ga:1<=a:=by rw[ha];exact K.2.1
     have gb:a+b<=Nb:=by rw[ha,hb];exact K.2.2
     have gt:t<=Na:=by rw[ht];have:=HD.out.1.2.2;omega
     have gM:=HM.out;rw[<-ha]at o1 F;rw[<-hb]at o2 F;rw[<-ht]at x2 F;obtain⟨u,hu⟩:∃u,u=a+b:=⟨_,rfl⟩;obtain⟨v,hv⟩:∃v,v=u-1:=⟨_,rfl⟩;obtain⟨z,hz⟩:∃z,z=t+v:=⟨_,rfl⟩;have e1:U.wrap ((a:Int)+(b:Int))=(u:Int):=by rw[Pa];omega
     have e2:U.wrap ((u:Int)-1)=(v:Int):=by rw[Pa];omega
     have e3:U.wrap ((t:Int)+(v:Int))=(z:Int):=by rw[Pa];omega
     have Ax:t+(a+b-1)=z:=by omega
     rw[Ax]at F;have A4:=Zh F;have g0:(0:Int)<=(p:Int):=by omega
     clear o0 K F ha hb ht hu hv hz Ax G Y ga gb gt gM Bb Av;go_upto_region 7 with fail;have BQ:=Zh ((Ac.out.next (B.refl _ w5).drew).slack z);go_region;all_goals(
      clear e1 e2 e3;go_wp2_with fail;go_meet;exact⟨rfl,rfl,rfl,(x.1,x.2.1,z),rfl,A4.out,BQ.out⟩)
    ·have g2:¬(p:Int)<(m2:Int):=by omega
     have Bs:=Zh (show Sv M x from HD.out.1.mono (by have:=HM.out;omega));go_wp2_with fail;go_meet;exact⟨rfl,rfl,rfl,x,rfl,Bs.out,Ac.out⟩
   case rest=>
    obtain⟨rfl,rfl,rfl,y,Ar,A6,X6⟩:=hcut;rename W=>w6;clear Ac Y x0 x1 x2 f2 xl;obtain⟨x0,x1,x2,f2,xl⟩:=X6.cells;have b7:B w6.heap.size w6 (w6.alloc (.cells #[I J y.1,I U y.2.1,I U y.2.2] 202)):=Za;have S7:=X6.s.next b7;have Ay:=S7.below.size;have BX:=Zh Ay;have A9:=Zh S7;have O:=Zh (Zi X6.s (Zi b7 (Zi Ar A6)));have Bu:q<=100000:=by omega
    clear X6 b7 S7 Ay Ar A6;go_wp2_with(at_builtin;refine IZ rfl _ _ rfl A9.out.own BX.out Bu rfl rfl (AI.newAt rfl) ?_);intro A' c' w8 o8 g8 _;have S8:=O.out.1.grown O.out.2.2.2 HD.out.2 O.out.2.2.1 O.out.2.1 o8 g8;have Bt:=Zh S8;clear S8 o8 g8 A9 O x0 x1 x2 f2 xl;go_wp2_with fail;go_roundg (m-(q+1));case measure=>omega
    exact⟨q+1,A',c',_,by go_num,by omega,E _,rfl,Bt.out⟩
  ·have g1:¬(q:Int)<(m:Int):=by omega
   obtain rfl:q=m:=by omega
   have HF:=Zh (show UP w M l (R (L A q c)) Q from⟨A,c,l',by rw[<-d.out.2.1],by rw[<-d.out.2.1];exact S⟩);clear S;go_wp2_with fail;go_ret;exact HF.out
theorem JI{O o a K Q}{D:Prop}(Z:o.guard=N)(s x)(ho:o.op=.call {callee:=.builtin .append,args:= #[s,x],argTypes:= #[177,177]})
  {W B n c}{l:List BM}{A}(H:W.ownsRow B 202 3 (L A n c) n (AR l))(hB:B<=W.heap.size)(i:n<=100000){X:BM}{b}(hs:a.eval s=L A n c)(hx:a.eval x=L (S ⟨b,0,N⟩) 1 1)(hb:AI W b #[I J X.1,I U X.2.1,I U X.2.2] 202)
  (h:∀A' c' d,d.ownsRow B 202 3 (L A' (n+1) c') (n+1) (AR (l++ [X]))->W.grownBy d (L A n c).ownBlock->((L A' (n+1) c').ownBlock=(L A n c).ownBlock\/(L A' (n+1) c').ownBlock=S W.heap.size)->K (a.put o.dst (L A' (n+1) c')) d):
  if Region.wanted o (yielded O a.tmps)=true then Oper.wp prog o a W K Q else D:=by
 have hw:Region.wanted o (yielded O a.tmps)=true:=by simp[Region.wanted,Z]
 rw[if_pos hw];obtain⟨i0,hi,e,f,g⟩:=info_parts FK;have F:∀j u,(CS X)[j]?=S u->W.cell? ((⟨b,0,N⟩:Addr).add j)=S u:=by
  intro j u hj;rw[bw,dT];exact hb.cell (by simpa[CS]using hj)
 have Y:∀u∈CS X,u.oneCell' =true:=by
  intro u k;simp[CS]at k;rcases k with rfl|rfl|rfl<;>rfl
 obtain⟨v',w',hr,G,m,_,p⟩:=run_append_own_at (P:=prog) W B 177 o.type 202 i0 _ 3 24 underlying177 hi e f g rfl (by decide) _ _ _ H ⟨b,0,N⟩ 1 1 (CS X) rfl F Y (by unfold maxLen;omega) (by omega) hB;obtain⟨A',c',rfl⟩:=AF G;rw[show AR l++CS X=AR (l++ [X]) by rw[GI];simp[AR]]at G;unfold Oper.wp execOp;simp only[ho,resolve,invoke,builtin,Sem.run_bind,Sem.run_pure,Result.andThen_ok,List.map_toArray,List.map_cons,List.map_nil,hs,hx,hr];exact h A' c' w' G m p
def NS(W:World)(v:V)(A:Option Addr)(n c:Nat)(l:List BM):Prop:=n=l.length/\n<=c/\(l≠ []->∃g o,A=S ⟨g,o,N⟩/\g<W.heap.size/\v.ownBlock≠S g/\
 ∀i (h:i<l.length),W.cell? ⟨g,o+i*3,N⟩=S (I J (l[i]'h).1)/\W.cell? ⟨g,o+i*3+1,N⟩=S (I U ((l[i]'h).2.1:Int))/\W.cell? ⟨g,o+i*3+2,N⟩=S (I U ((l[i]'h).2.2:Int)))
def Mc(A:Option Addr)(c:Nat):Option Addr:=if c=1 then A else A.map (·.add 3)
theorem O9(A n c)(h:1<=n)(w):(Instr.sliceAt 177 (L A n c) (S (I J 1)) N N).run prog w=.ok (L (Mc A c) (n-1) (c-1)) w:=by
 have D:(sizeOf 202).run prog w=.ok 3 w:=by kernel_rfl
 rw[run_sliceAt_slice w 177 _ _ _ _ underlying177,run_slice_l w 177 A n c underlying177 J 1 (by omega) (by omega)];have F:prog.elem 177=202:=by kernel_rfl
 rw[F,D];simp[Result.andThen,sliced,Mc]
section
variable {W W' W1:World} {v v' :V} {A:Option Addr} {n c:Nat} {l:List BM} {x:BM}
theorem NS.of_block(h:NS W v A n c l)(hb:∀g,v.ownBlock≠S g->g<W.heap.size->W'.heap[g]?=W.heap[g]?)(Q:W.heap.size<=W'.heap.size)(K:∀g,g<W.heap.size->v.ownBlock≠S g->v'.ownBlock≠S g):NS W' v' A n c l:=by
 refine⟨h.1,h.2.1,λD=> ?_⟩;obtain⟨g,o,e,F,H,O⟩:=h.2.2 D;have G:=λj=>World.cell?_of_block (w:=W) (w' :=W') (a:=⟨g,j,N⟩) (hb g H F);exact⟨g,o,e,aw F Q,K g F H,λi hi=>by rw[G,G,G];exact O i hi⟩
theorem NS.next(h:NS W v A n c l)(b:B W.heap.size W W'):NS W' v A n c l:=h.of_block (λg _ D=>b.block g D) b.size (λ_ _ h=>h)
theorem NS.grown(h:NS W v A n c l)(b:B W.heap.size W W1)(g:W1.grownBy W' v.ownBlock)(k:v'.ownBlock=v.ownBlock\/v'.ownBlock=S W1.heap.size):NS W' v' A n c l:=by
 have H:=h.next b;have a:AD (λk=>v.ownBlock=S k) W1 W' :=AD.of_grown g λk G=>G;refine H.of_block (λi hi D=>a.block i D hi) a.size λi hi F=> ?_;rcases k with k|k
 ·rw[k];exact F
 ·rw[k];intro e;have:=fy e;omega
theorem NS.tail(h:NS W v A n c (x::l)):NS W v (Mc A c) (n-1) (c-1) l:=by
 obtain⟨H,Z,Q⟩:=h;obtain⟨g,o,rfl,G,O,F⟩:=Q (by simp);rw[ej]at H;refine⟨by omega,by omega,λD=> ?_⟩;have Y:=List.length_pos_iff.2 D;refine⟨g,o+3,by unfold Mc;rw[if_neg (by omega)];simp[bw],G,O,λi hi=> ?_⟩;have K:=F (i+1) (by rw[ej];omega);rw[show o+3+i*3=o+(i+1)*3 by omega];exact K
theorem NS.of_own{B}(h:W.ownsRow B 202 3 (L A n c) n (AR l))(H:v.ownBlock=N):NS W v A n c l:=by
 have G:n=l.length:=by have:=h.1;rw[I2]at this;omega
 rcases AH h with⟨D,Z,_⟩|⟨g,Q,D,O,Y,a,K⟩
 ·simp only[L.injEq]at D;refine⟨G,by omega,λF=>absurd (es (by omega)) F⟩
 ·simp only[L.injEq]at D;obtain⟨rfl,-,rfl⟩:=D;refine⟨G,O,λ_=>⟨g,0,rfl,K,by rw[H];simp,λi hi=> ?_⟩⟩;rw[dT];exact BC h G i hi
theorem NS.head(h:NS W v A n c l)(Q:0<n):∃g o x l',l=x::l' /\A=S ⟨g,o,N⟩/\g<W.heap.size/\v.ownBlock≠S g/\W.cell? ⟨g,o,N⟩=S (I J x.1)/\W.cell? ⟨g,o+1,N⟩=S (I U x.2.1)/\W.cell? ⟨g,o+2,N⟩=S (I U x.2.2):=by
 obtain⟨G,O,K⟩:=h;cases l with
 |nil=>simp at G;omega
 |cons x l=>
  obtain⟨g,o,e,F,H,D⟩:=K (by simp);have:=D 0 (by simp);simp only[Nat.zero_mul,Nat.add_zero,List.getElem_cons_zero]at this;exact⟨g,o,x,l,rfl,e,F,H,this⟩
end
structure PX(w:World)(M T L:Nat)(A1:Option Addr)(n1 c1:Nat)(l1:List BM)(A2:Option Addr)(n2 c2:Nat)(l2:List BM)(A:Option Addr)(n c:Nat)(lo:List BM)(W:World):Prop where
 r1:NS W (.slice A n c) A1 n1 c1 l1
 r2:NS W (.slice A n c) A2 n2 c2 l2
 own:W.ownsRow w.heap.size 202 3 (.slice A n c) n (AR lo)
 hn:n=lo.length
 sum:BO lo+BO l1+BO l2=T
 len:n+n1+n2=L
 g1:Cv M l1
 g2:Cv M l2
 go:Cv M lo
 below:B w.heap.size w W
section
variable {w W W' W1:World} {M T L:Nat} {A1:Option Addr} {n1 c1:Nat} {l1:List BM} {A2:Option Addr} {n2 c2:Nat} {l2:List BM} {A:Option Addr} {n c:Nat} {lo:List BM} {x:BM} {A' :Option Addr} {c' :Nat}
theorem PX.next(h:PX w M T L A1 n1 c1 l1 A2 n2 c2 l2 A n c lo W)(b:B W.heap.size W W'):PX w M T L A1 n1 c1 l1 A2 n2 c2 l2 A n c lo W' :=
 ⟨h.r1.next b,h.r2.next b,AE h.own b λg D=>(h.own.lt g D).2,h.hn,h.sum,h.len,h.g1,h.g2,h.go,h.below.trans (b.mono h.below.size)⟩
theorem PX.first(h:PX w M T L A1 n1 c1 (x::l1) A2 n2 c2 l2 A n c lo W)(b:B W.heap.size W W1)(o:W'.ownsRow w.heap.size 202 3 (.slice A' (n+1) c') (n+1) (AR (lo++ [x])))(g:W1.grownBy W' (V.slice A n c).ownBlock)(k:(V.slice A' (n+1) c').ownBlock=(V.slice A n c).ownBlock\/(V.slice A' (n+1) c').ownBlock=S W1.heap.size):
  PX w M T L (Mc A1 c1) (n1-1) (c1-1) l1 A2 n2 c2 l2 A' (n+1) c' (lo++ [x]) W' :=by
 have F:=h.next b;have G:=h.r1.1;rw[ej]at G;refine⟨(h.r1.grown b g k).tail,h.r2.grown b g k,o,by rw[Q0,<-h.hn];rfl,?_,by have:=h.len;omega,λy D=>h.g1 y (gQ _ D),h.g2,λy D=> ?_,F.below.grown g F.below.size λk H=>(F.own.lt k H).1⟩
 ·have:=h.sum;rw[DT];simp only[BO]at this⊢;omega
 ·rcases List.mem_append.1 D with D|D
  ·exact h.go y D
  ·rw[List.mem_singleton.1 D];exact h.g1 x (gR ..)
theorem PX.swap(h:PX w M T L A1 n1 c1 l1 A2 n2 c2 l2 A n c lo W):PX w M T L A2 n2 c2 l2 A1 n1 c1 l1 A n c lo W:=
 ⟨h.r2,h.r1,h.own,h.hn,by have:=h.sum;omega,by have:=h.len;omega,h.g2,h.g1,h.go,h.below⟩
theorem PX.second(h:PX w M T L A1 n1 c1 l1 A2 n2 c2 (x::l2) A n c lo W)(b:B W.heap.size W W1)(o:W'.ownsRow w.heap.size 202 3 (.slice A' (n+1) c') (n+1) (AR (lo++ [x])))(g:W1.grownBy W' (V.slice A n c).ownBlock)(k:(V.slice A' (n+1) c').ownBlock=(V.slice A n c).ownBlock\/(V.slice A' (n+1) c').ownBlock=S W1.heap.size):
  PX w M T L A1 n1 c1 l1 (Mc A2 c2) (n2-1) (c2-1) l2 A' (n+1) c' (lo++ [x]) W' :=(h.swap.first b o g k).swap
end
def Yz(w:W)(M T L:Nat)(e:Ending)(w' :W):Prop:=∃v' l',e=R v' /\w'.ownsRow w.heap.size 202 3 v' l'.length (AR l')/\BO l' =T/\l'.length=L/\Cv M l' /\B w.heap.size w w'
theorem Vd(w Na Nb M)(hM:Na+Nb<=M)(hN:M<=1000000)(v1 v2)(la lb:List BM)(A6:w.ownsRow 0 202 3 v1 la.length (AR la))(A5:w.ownsRow 0 202 3 v2 lb.length (AR lb))(B3:la.length<=40000)(B5:lb.length<=40000)(ha:Cv Na la)(hb:Cv Nb lb):
  C prog 300 #[v1,v2] w (Yz w M (BO la+BO lb) (la.length+lb.length)):=by
 have b0:B w.heap.size w ((w.alloc (.cells #[v1] 177)).alloc (.cells #[v2] 177)):=(Za).alloc (by simp) _;have BR:AI ((w.alloc (.cells #[v1] 177)).alloc (.cells #[v2] 177)) w.heap.size #[v1] 177:=AI.alloc (AI.newAt rfl) _;have A7:AI ((w.alloc (.cells #[v1] 177)).alloc (.cells #[v2] 177)) (w.heap.size+1) #[v2] 177:=AI.newAt (by simp);have BQ:=bL ((w.alloc (.cells #[v1] 177)).alloc (.cells #[v2] 177)) Na Nb M hM hN v1 v2 la lb (w.heap.size+1) (AE A6 b0 λg hg=>(A6.lt g hg).2) (AE A5 b0 λg hg=>(A5.lt g hg).2) A7 (by omega) (by omega) ha hb;have A9:=Zh (λW (b:B w.heap.size w W) (h:AI W w.heap.size #[v1] 177)=>bM W Nb Na M (by omega) hN v2 v1 lb la w.heap.size (AE A5 b λg hg=>(A5.lt g hg).2) (AE A6 b λg hg=>(A6.lt g hg).2) h (by omega) (by omega) hb ha);obtain⟨T,hT⟩:∃T,T=BO la+BO lb:=⟨_,rfl⟩;obtain⟨L,hL⟩:∃L,L=la.length+lb.length:=⟨_,rfl⟩;have Cs:L<=80000:=by omega
 obtain⟨ma,Bt⟩:∃m,m=la.length:=⟨_,rfl⟩;obtain⟨mb,Bu⟩:∃m,m=lb.length:=⟨_,rfl⟩;have HT:=Zh (Zi hT (Zi hL (Zi Bt Bu)));rw[<-hT,<-hL];obtain⟨A1,c1,rfl⟩:=AF A6;obtain⟨A2,c2,rfl⟩:=AF A5;rw[<-Bt]at BQ BR A7 A9 b0⊢;rw[<-Bu]at BQ BR A7 A9 b0⊢;have HB:=Zh (Zi b0 (Zi BR A7));clear A6 A5 BR A7 ha hb hT hL Bt Bu hM hN B3 B5 b0;go_enter func300,ntmps300;go_wp2_with fail;refine BQ.mono ?_;rintro e w2 ⟨A3,c3,l3,rfl,P3⟩;have Q:B w.heap.size w w2:=HB.out.1.trans (P3.below.mono HB.out.1.size);have x1:AI w2 w.heap.size _ 177:=HB.out.2.1.below P3.below HB.out.2.1.lt;have x2:AI w2 (w.heap.size+1) _ 177:=HB.out.2.2.below P3.below HB.out.2.2.lt;have B2:=A9.out w2 Q x1;have y1:w2.cell? ⟨w.heap.size,0,N⟩=some (.slice A1 ma c1):=x1.cell rfl;have y2:w2.cell? ⟨w.heap.size+1,0,N⟩=some (.slice A2 mb c2):=x2.cell rfl;have Cr:=x1.lt;have B4:=x2.lt;have Ba:=Zh (Zi P3 Q);rw[<-HT.out.2.2.1]at Ba⊢;clear BQ P3 Q x1 x2 A9;go_wp2_with fail;refine B2.mono ?_;rintro e w3 ⟨A4,c4,l4,rfl,P4⟩;have Bs:=Zh (show PX w M T L A3 ma c3 l3 A4 mb c4 l4 N 0 0 [] w3 from by
  obtain⟨P3,Q⟩:=Ba.out;obtain⟨B0,Cp,Ck⟩:=(show RK _ M la la.length A3 c3 l3 w2 from by rw[<-HT.out.2.2.1];exact P3).all;obtain⟨B1,CL,B9⟩:=P4.all;have h1:=HT.out.2.2.1;have h2:=HT.out.2.2.2;rw[Ck,<-h1]at B0;rw[B9,<-h2]at B1;exact⟨(NS.of_own B0 rfl).next P4.below,NS.of_own B1 rfl,World.ownsRow_nil _ _ _ _,rfl,by rw[Cp,CL];simp[BO];exact HT.out.1.symm,by rw[h1,h2,HT.out.2.1];omega,P3.good,P4.good,λy hy=>absurd hy fw,Q.trans (P4.below.mono Q.size)⟩)
 rw[<-HT.out.2.2.2];clear B2 P4 Ba HB y1 y2 Cr B4;go_wp2_with fail;go_loopg [5,6,7] L (λg f s o wx=>∃(A1:Option Addr) (n1 c1:Nat) (l1:List BM) (A2:Option Addr) (n2 c2:Nat) (l2:List BM) (A:Option Addr) (n c:Nat) (lo:List BM),f=.slice A1 n1 c1/\s=.slice A2 n2 c2/\o=.slice A n c/\n1+n2<=g/\PX w M T L A1 n1 c1 l1 A2 n2 c2 l2 A n c lo wx);case atStart=>exact⟨A3,ma,c3,l3,A4,mb,c4,l4,N,0,0,[],rfl,rfl,rfl,by have:=Bs.out.len;omega,Bs.out⟩
 case round=>
  clear Bs;rename World=>wx;obtain⟨A1,n1,c1,l1,A2,n2,c2,l2,A,n,c,lo,rfl,rfl,rfl,hg,S⟩:=hrel;have Bw:=S.len;have HS:=Zh S;by_cases h1:n1=0
  ·by_cases h2:n2=0
   ·subst h1;subst h2;have HF:=Zh (show Yz w M T L (R (.slice A n c)) wx from by
     have e1:l1=[]:=es S.r1.1.symm;have e2:l2=[]:=es S.r2.1.symm;have hs:=S.sum;rw[e1,e2]at hs;exact⟨_,lo,rfl,by rw[<-S.hn];exact S.own,by simpa[BO]using hs,by rw[<-S.hn];omega,S.go,S.below⟩)
    clear S HS Bw;go_wp2_with fail;go_ret;exact HF.out
   ·subst h1;have d1:decide ((0:Int)<(n2:Int))=true:=by simp;omega
    have d2:((n2:Int)==0)=false:=by simp;omega
    have d3:(0:Int)<(n2:Int):=by omega
    have d4:0<n2:=by omega
    have d5:(n2==0)=false:=by simp;omega
    clear S;go_upto_region 5 with fail;go_quiet(fail);have j:B wx.heap.size wx (wx.drewN nq):=⟨rfl,rfl,rfl,E _,λ_ _=>rfl⟩;have S1:=HS.out.next j;clear j d1 d2 d5;generalize wx.drewN nq=w1 at S1⊢;obtain⟨H,Y,y,Ap,Ac,Ab,D,O,q0,q1,q2⟩:=S1.r2.head (by omega);subst Ac;subst Ab;have u:=O9 (some ⟨H,Y,N⟩) n2 c2 (by omega);obtain⟨k1,d⟩:∃k,k=n2-1:=⟨_,rfl⟩;obtain⟨k2,Z⟩:∃k,k=c2-1:=⟨_,rfl⟩;obtain⟨k3,a⟩:∃k,k=Mc (some ⟨H,Y,N⟩) c2:=⟨_,rfl⟩;have HK:=Zh (Zi d (Zi Z a));have A8 :k1+1=n2:=by omega
    rw[<-d,<-Z,<-a]at u;clear d Z a;have BX:(1:Int)<=(n2:Int):=by omega
    have Q:B w1.heap.size w1 (w1.drew.alloc (.cells #[I J y.1,I U y.2.1,I U y.2.2] 202)):=(B.refl w1.heap.size w1).drew.alloc (E _) _;have S2:=S1.next Q;have C0:=Zh (show w1.drew.cell? ⟨H,Y,N⟩=some (I J y.1)/\w1.drew.cell? ⟨H,Y+1,N⟩=some (I U y.2.1)/\w1.drew.cell? ⟨H,Y+2,N⟩=some (I U y.2.2)from⟨q0,q1,q2⟩);have C9:=Zh (show(w1.drew.alloc (.cells #[I J y.1,I U y.2.1,I U y.2.2] 202)).cell? ⟨H,Y,N⟩=some (I J y.1)/\(w1.drew.alloc (.cells #[I J y.1,I U y.2.1,I U y.2.2] 202)).cell? ⟨H,Y+1,N⟩=some (I U y.2.1)/\(w1.drew.alloc (.cells #[I J y.1,I U y.2.1,I U y.2.2] 202)).cell? ⟨H,Y+2,N⟩=some (I U y.2.2)from
     ⟨(Q.cell (p:=⟨H,_,N⟩) D).trans q0,(Q.cell (p:=⟨H,_,N⟩) D).trans q1,(Q.cell (p:=⟨H,_,N⟩) D).trans q2⟩)
    have Ar:=Zh (show∀A' c' K,K.ownsRow w.heap.size 202 3 (.slice A' (n+1) c') (n+1) (AR (lo++ [y]))->(w1.drew.alloc (.cells #[I J y.1,I U y.2.1,I U y.2.2] 202)).grownBy K (V.slice A n c).ownBlock->((V.slice A' (n+1) c').ownBlock=(V.slice A n c).ownBlock\/(V.slice A' (n+1) c').ownBlock=some (w1.drew.alloc (.cells #[I J y.1,I U y.2.1,I U y.2.2] 202)).heap.size)->
      (K.cell? ⟨H,Y,N⟩=some (I J y.1)/\K.cell? ⟨H,Y+1,N⟩=some (I U y.2.1)/\K.cell? ⟨H,Y+2,N⟩=some (I U y.2.2))/\Hid (PX w M T L A1 0 c1 l1 k3 k1 k2 Ap A' (n+1) c' (lo++ [y]) K)from λA' c' K o9 g9 n9=>by
     have a9:AD (λk=>(V.slice A n c).ownBlock=some k) _ K:=AD.of_grown g9 λk hk=>hk;have F:=aw D Q.size;refine⟨⟨(a9.cell (p:=⟨H,_,N⟩) F O).trans C9.out.1,(a9.cell (p:=⟨H,_,N⟩) F O).trans C9.out.2.1,(a9.cell (p:=⟨H,_,N⟩) F O).trans C9.out.2.2⟩,?_⟩;have r:=S1.second Q o9 g9 n9;rw[<-HK.out.1,<-HK.out.2.1,<-HK.out.2.2]at r;exact Zh r)
    have Aa:=Zh S2.own;have Av:=Zh S2.below.size;have A0:n<=100000:=by have:=S2.len;omega
    have AA:AI (w1.drew.alloc (.cells #[I J y.1,I U y.2.1,I U y.2.2] 202)) w1.heap.size #[I J y.1,I U y.2.1,I U y.2.2] 202:=AI.newAt rfl;have Aw:=Zh AA;clear AA Q S1 S2 D O q0 q1 q2 HS;go_upto_region 7 with fail;go_region_held3 (λw' =>w'.cell? ⟨H,Y,N⟩=some (I J y.1)/\w'.cell? ⟨H,Y+1,N⟩=some (I U y.2.1)/\w'.cell? ⟨H,Y+2,N⟩=some (I U y.2.2)) (first|exact C0.out|exact C9.out|assumption)
     ((refine JI rfl _ _ rfl Aa.out Av.out A0 rfl rfl Aw.out ?_;intro A' c' K o9 g9 n9;have Ax:=Ar.out A' c' K o9 g9 n9;obtain⟨Bb,Ay⟩:=Ax;clear o9 g9 n9))
    all_goals(
     clear u;go_wp2_with fail;go_roundg (0+k1);case measure=>omega
     exact⟨A1,0,c1,l1,k3,k1,k2,Ap,A',n+1,c',_,rfl,rfl,rfl,by omega,Ay.out⟩)
  ·have d1:decide ((0:Int)<(n1:Int))=true:=by simp;omega
   have d3:(0:Int)<(n1:Int):=by omega
   have d4:0<n1:=by omega
   have d6:decide (0<n1)=true:=by simp;omega
   by_cases h2:n2=0
   ·subst h2;clear S;go_upto_region 5 with fail;go_quiet(fail);have j:B wx.heap.size wx (wx.drewN nq):=⟨rfl,rfl,rfl,E _,λ_ _=>rfl⟩;have S1:=HS.out.next j;clear j d1 d6;generalize wx.drewN nq=w1 at S1⊢;obtain⟨G,i,x,Al,Ac,Ab,D,O,q0,q1,q2⟩:=S1.r1.head (by omega);subst Ac;subst Ab;have u:=O9 (some ⟨G,i,N⟩) n1 c1 (by omega);obtain⟨k1,d⟩:∃k,k=n1-1:=⟨_,rfl⟩;obtain⟨k2,Z⟩:∃k,k=c1-1:=⟨_,rfl⟩;obtain⟨k3,a⟩:∃k,k=Mc (some ⟨G,i,N⟩) c1:=⟨_,rfl⟩;have HK:=Zh (Zi d (Zi Z a));have A8 :k1+1=n1:=by omega
    rw[<-d,<-Z,<-a]at u;clear d Z a;have BX:(1:Int)<=(n1:Int):=by omega
    have Q:B w1.heap.size w1 (w1.drew.alloc (.cells #[I J x.1,I U x.2.1,I U x.2.2] 202)):=(B.refl w1.heap.size w1).drew.alloc (E _) _;have S2:=S1.next Q;have C0:=Zh (show w1.drew.cell? ⟨G,i,N⟩=some (I J x.1)/\w1.drew.cell? ⟨G,i+1,N⟩=some (I U x.2.1)/\w1.drew.cell? ⟨G,i+2,N⟩=some (I U x.2.2)from⟨q0,q1,q2⟩);have C9:=Zh (show(w1.drew.alloc (.cells #[I J x.1,I U x.2.1,I U x.2.2] 202)).cell? ⟨G,i,N⟩=some (I J x.1)/\(w1.drew.alloc (.cells #[I J x.1,I U x.2.1,I U x.2.2] 202)).cell? ⟨G,i+1,N⟩=some (I U x.2.1)/\(w1.drew.alloc (.cells #[I J x.1,I U x.2.1,I U x.2.2] 202)).cell? ⟨G,i+2,N⟩=some (I U x.2.2)from
     ⟨(Q.cell (p:=⟨G,_,N⟩) D).trans q0,(Q.cell (p:=⟨G,_,N⟩) D).trans q1,(Q.cell (p:=⟨G,_,N⟩) D).trans q2⟩)
    have Ar:=Zh (show∀A' c' K,K.ownsRow w.heap.size 202 3 (.slice A' (n+1) c') (n+1) (AR (lo++ [x]))->(w1.drew.alloc (.cells #[I J x.1,I U x.2.1,I U x.2.2] 202)).grownBy K (V.slice A n c).ownBlock->((V.slice A' (n+1) c').ownBlock=(V.slice A n c).ownBlock\/(V.slice A' (n+1) c').ownBlock=some (w1.drew.alloc (.cells #[I J x.1,I U x.2.1,I U x.2.2] 202)).heap.size)->
      (K.cell? ⟨G,i,N⟩=some (I J x.1)/\K.cell? ⟨G,i+1,N⟩=some (I U x.2.1)/\K.cell? ⟨G,i+2,N⟩=some (I U x.2.2))/\Hid (PX w M T L k3 k1 k2 Al A2 0 c2 l2 A' (n+1) c' (lo++ [x]) K)from λA' c' K o9 g9 n9=>by
     have a9:AD (λk=>(V.slice A n c).ownBlock=some k) _ K:=AD.of_grown g9 λk hk=>hk;have F:=aw D Q.size;refine⟨⟨(a9.cell (p:=⟨G,_,N⟩) F O).trans C9.out.1,(a9.cell (p:=⟨G,_,N⟩) F O).trans C9.out.2.1,(a9.cell (p:=⟨G,_,N⟩) F O).trans C9.out.2.2⟩,?_⟩;have r:=S1.first Q o9 g9 n9
     rw[<-HK.out.1,<-HK.out.2.1,<-HK.out.2.2]at r;exact Zh r)
    have Aa:=Zh S2.own;have Av:=Zh S2.below.size;have A0:n<=100000:=by have:=S2.len;omega
    have AA:AI (w1.drew.alloc (.cells #[I J x.1,I U x.2.1,I U x.2.2] 202)) w1.heap.size #[I J x.1,I U x.2.1,I U x.2.2] 202:=AI.newAt rfl;have Aw:=Zh AA;clear AA Q S1 S2 D O q0 q1 q2 HS;go_upto_region 6 with fail;go_region_held3 (λw' =>w'.cell? ⟨G,i,N⟩=some (I J x.1)/\w'.cell? ⟨G,i+1,N⟩=some (I U x.2.1)/\w'.cell? ⟨G,i+2,N⟩=some (I U x.2.2)) (first|exact C0.out|exact C9.out|assumption)
     ((refine JI rfl _ _ rfl Aa.out Av.out A0 rfl rfl Aw.out ?_;intro A' c' K o9 g9 n9;have Ax:=Ar.out A' c' K o9 g9 n9;obtain⟨Bb,Ay⟩:=Ax;clear o9 g9 n9))
    all_goals(
     clear u;go_wp2_with fail;go_roundg (k1+0);case measure=>omega
     exact⟨k3,k1,k2,Al,A2,0,c2,l2,A',n+1,c',_,rfl,rfl,rfl,by omega,Ay.out⟩)
   ·have d2:((n2:Int)==0)=false:=by simp;omega
    have d5:(n2==0)=false:=by simp;omega
    have d7:(0:Int)<(n2:Int):=by omega
    have d8:0<n2:=by omega
    obtain⟨G,i,x,Al,ex,eA,-,-,q0,q1,q2⟩:=S.r1.head d4;obtain⟨H,Y,y,Ap,ey,eB,-,-,z0,z1,z2⟩:=S.r2.head d8;subst ex eA ey eB;by_cases BA:x.1<=y.1
    ·have d9:decide (x.1<=y.1)=true:=by simpa using BA
     clear S BA;go_upto_region 5 with fail;go_quiet(fail);have j:B wx.heap.size wx (wx.drewN nq):=⟨rfl,rfl,rfl,E _,λ_ _=>rfl⟩;have S1:=HS.out.next j;clear j d1 d2 d5 d6 d9 q0 q1 q2 z0 z1 z2;generalize wx.drewN nq=w1 at S1⊢;obtain⟨gz,oz,xz,lz,Ac,Ab,D,O,q0,q1,q2⟩:=S1.r1.head (by omega);obtain⟨rfl,rfl⟩:x=xz/\Al=lz:=by simpa using Ac
     obtain⟨rfl,rfl⟩:G=gz/\i=oz:=by simpa using Ab
     clear Ac Ab;have u:=O9 (some ⟨G,i,N⟩) n1 c1 (by omega);obtain⟨k1,d⟩:∃k,k=n1-1:=⟨_,rfl⟩;obtain⟨k2,Z⟩:∃k,k=c1-1:=⟨_,rfl⟩;obtain⟨k3,a⟩:∃k,k=Mc (some ⟨G,i,N⟩) c1:=⟨_,rfl⟩;have HK:=Zh (Zi d (Zi Z a));have A8 :k1+1=n1:=by omega
     rw[<-d,<-Z,<-a]at u;clear d Z a;have BX:(1:Int)<=(n1:Int):=by omega
     have Q:B w1.heap.size w1 (w1.drew.alloc (.cells #[I J x.1,I U x.2.1,I U x.2.2] 202)):=(B.refl w1.heap.size w1).drew.alloc (E _) _;have S2:=S1.next Q;have C0:=Zh (show w1.drew.cell? ⟨G,i,N⟩=some (I J x.1)/\w1.drew.cell? ⟨G,i+1,N⟩=some (I U x.2.1)/\w1.drew.cell? ⟨G,i+2,N⟩=some (I U x.2.2)from⟨q0,q1,q2⟩);have C9:=Zh (show(w1.drew.alloc (.cells #[I J x.1,I U x.2.1,I U x.2.2] 202)).cell? ⟨G,i,N⟩=some (I J x.1)/\(w1.drew.alloc (.cells #[I J x.1,I U x.2.1,I U x.2.2] 202)).cell? ⟨G,i+1,N⟩=some (I U x.2.1)/\(w1.drew.alloc (.cells #[I J x.1,I U x.2.1,I U x.2.2] 202)).cell? ⟨G,i+2,N⟩=some (I U x.2.2)from
      ⟨(Q.cell (p:=⟨G,_,N⟩) D).trans q0,(Q.cell (p:=⟨G,_,N⟩) D).trans q1,(Q.cell (p:=⟨G,_,N⟩) D).trans q2⟩)
     have Ar:=Zh (show∀A' c' K,K.ownsRow w.heap.size 202 3 (.slice A' (n+1) c') (n+1) (AR (lo++ [x]))->(w1.drew.alloc (.cells #[I J x.1,I U x.2.1,I U x.2.2] 202)).grownBy K (V.slice A n c).ownBlock->((V.slice A' (n+1) c').ownBlock=(V.slice A n c).ownBlock\/(V.slice A' (n+1) c').ownBlock=some (w1.drew.alloc (.cells #[I J x.1,I U x.2.1,I U x.2.2] 202)).heap.size)->
       (K.cell? ⟨G,i,N⟩=some (I J x.1)/\K.cell? ⟨G,i+1,N⟩=some (I U x.2.1)/\K.cell? ⟨G,i+2,N⟩=some (I U x.2.2))/\Hid (PX w M T L k3 k1 k2 Al (some ⟨H,Y,N⟩) n2 c2 (y::Ap) A' (n+1) c' (lo++ [x]) K)from λA' c' K o9 g9 n9=>by
      have a9:AD (λk=>(V.slice A n c).ownBlock=some k) _ K:=AD.of_grown g9 λk hk=>hk;have F:=aw D Q.size;refine⟨⟨(a9.cell (p:=⟨G,_,N⟩) F O).trans C9.out.1,(a9.cell (p:=⟨G,_,N⟩) F O).trans C9.out.2.1,(a9.cell (p:=⟨G,_,N⟩) F O).trans C9.out.2.2⟩,?_⟩;have r:=S1.first Q o9 g9 n9
      rw[<-HK.out.1,<-HK.out.2.1,<-HK.out.2.2]at r;exact Zh r)
     have Aa:=Zh S2.own;have Av:=Zh S2.below.size;have A0:n<=100000:=by have:=S2.len;omega
     have AA:AI (w1.drew.alloc (.cells #[I J x.1,I U x.2.1,I U x.2.2] 202)) w1.heap.size #[I J x.1,I U x.2.1,I U x.2.2] 202:=AI.newAt rfl;have Aw:=Zh AA;clear AA Q S1 S2 D O q0 q1 q2 HS;go_upto_region 6 with fail;go_region_held3 (λw' =>w'.cell? ⟨G,i,N⟩=some (I J x.1)/\w'.cell? ⟨G,i+1,N⟩=some (I U x.2.1)/\w'.cell? ⟨G,i+2,N⟩=some (I U x.2.2)) (first|exact C0.out|exact C9.out|assumption)
      ((refine JI rfl _ _ rfl Aa.out Av.out A0 rfl rfl Aw.out ?_;intro A' c' K o9 g9 n9;have Ax:=Ar.out A' c' K o9 g9 n9;obtain⟨Bb,Ay⟩:=Ax;clear o9 g9 n9))
     all_goals(
      clear u;go_wp2_with fail;go_roundg (k1+n2);case measure=>omega
      exact⟨k3,k1,k2,Al,_,n2,c2,_,A',n+1,c',_,rfl,rfl,rfl,by omega,Ay.out⟩)
    ·have d9:decide (x.1<=y.1)=false:=by simpa using BA
     clear S BA;go_upto_region 5 with fail;go_quiet(fail);have j:B wx.heap.size wx (wx.drewN nq):=⟨rfl,rfl,rfl,E _,λ_ _=>rfl⟩;have S1:=HS.out.next j;clear j d1 d2 d5 d6 d9 q0 q1 q2 z0 z1 z2;generalize wx.drewN nq=w1 at S1⊢;obtain⟨gz,oz,xz,lz,Ac,Ab,D,O,q0,q1,q2⟩:=S1.r2.head (by omega);obtain⟨rfl,rfl⟩:y=xz/\Ap=lz:=by simpa using Ac
     obtain⟨rfl,rfl⟩:H=gz/\Y=oz:=by simpa using Ab
     clear Ac Ab;have u:=O9 (some ⟨H,Y,N⟩) n2 c2 (by omega);obtain⟨k1,d⟩:∃k,k=n2-1:=⟨_,rfl⟩;obtain⟨k2,Z⟩:∃k,k=c2-1:=⟨_,rfl⟩;obtain⟨k3,a⟩:∃k,k=Mc (some ⟨H,Y,N⟩) c2:=⟨_,rfl⟩;have HK:=Zh (Zi d (Zi Z a));have A8 :k1+1=n2:=by omega
     rw[<-d,<-Z,<-a]at u;clear d Z a;have BX:(1:Int)<=(n2:Int):=by omega
     have Q:B w1.heap.size w1 (w1.drew.alloc (.cells #[I J y.1,I U y.2.1,I U y.2.2] 202)):=(B.refl w1.heap.size w1).drew.alloc (E _) _;have S2:=S1.next Q;have C0:=Zh (show w1.drew.cell? ⟨H,Y,N⟩=some (I J y.1)/\w1.drew.cell? ⟨H,Y+1,N⟩=some (I U y.2.1)/\w1.drew.cell? ⟨H,Y+2,N⟩=some (I U y.2.2)from⟨q0,q1,q2⟩);have C9:=Zh (show(w1.drew.alloc (.cells #[I J y.1,I U y.2.1,I U y.2.2] 202)).cell? ⟨H,Y,N⟩=some (I J y.1)/\(w1.drew.alloc (.cells #[I J y.1,I U y.2.1,I U y.2.2] 202)).cell? ⟨H,Y+1,N⟩=some (I U y.2.1)/\(w1.drew.alloc (.cells #[I J y.1,I U y.2.1,I U y.2.2] 202)).cell? ⟨H,Y+2,N⟩=some (I U y.2.2)from
      ⟨(Q.cell (p:=⟨H,_,N⟩) D).trans q0,(Q.cell (p:=⟨H,_,N⟩) D).trans q1,(Q.cell (p:=⟨H,_,N⟩) D).trans q2⟩)
     have Ar:=Zh (show∀A' c' K,K.ownsRow w.heap.size 202 3 (.slice A' (n+1) c') (n+1) (AR (lo++ [y]))->(w1.drew.alloc (.cells #[I J y.1,I U y.2.1,I U y.2.2] 202)).grownBy K (V.slice A n c).ownBlock->((V.slice A' (n+1) c').ownBlock=(V.slice A n c).ownBlock\/(V.slice A' (n+1) c').ownBlock=some (w1.drew.alloc (.cells #[I J y.1,I U y.2.1,I U y.2.2] 202)).heap.size)->
       (K.cell? ⟨H,Y,N⟩=some (I J y.1)/\K.cell? ⟨H,Y+1,N⟩=some (I U y.2.1)/\K.cell? ⟨H,Y+2,N⟩=some (I U y.2.2))/\Hid (PX w M T L (some ⟨G,i,N⟩) n1 c1 (x::Al) k3 k1 k2 Ap A' (n+1) c' (lo++ [y]) K)from λA' c' K o9 g9 n9=>by
      have a9:AD (λk=>(V.slice A n c).ownBlock=some k) _ K:=AD.of_grown g9 λk hk=>hk;have F:=aw D Q.size;refine⟨⟨(a9.cell (p:=⟨H,_,N⟩) F O).trans C9.out.1,(a9.cell (p:=⟨H,_,N⟩) F O).trans C9.out.2.1,(a9.cell (p:=⟨H,_,N⟩) F O).trans C9.out.2.2⟩,?_⟩;have r:=S1.second Q o9 g9 n9;rw[<-HK.out.1,<-HK.out.2.1,<-HK.out.2.2]at r;exact Zh r)
     have Aa:=Zh S2.own;have Av:=Zh S2.below.size;have A0:n<=100000:=by have:=S2.len;omega
     have AA:AI (w1.drew.alloc (.cells #[I J y.1,I U y.2.1,I U y.2.2] 202)) w1.heap.size #[I J y.1,I U y.2.1,I U y.2.2] 202:=AI.newAt rfl;have Aw:=Zh AA;clear AA Q S1 S2 D O q0 q1 q2 HS;go_upto_region 7 with fail;go_region_held3 (λw' =>w'.cell? ⟨H,Y,N⟩=some (I J y.1)/\w'.cell? ⟨H,Y+1,N⟩=some (I U y.2.1)/\w'.cell? ⟨H,Y+2,N⟩=some (I U y.2.2)) (first|exact C0.out|exact C9.out|assumption)
      ((refine JI rfl _ _ rfl Aa.out Av.out A0 rfl rfl Aw.out ?_;intro A' c' K o9 g9 n9;have Ax:=Ar.out A' c' K o9 g9 n9;obtain⟨Bb,Ay⟩:=Ax;clear o9 g9 n9))
     all_goals(
      clear u;go_wp2_with fail;go_roundg (n1+k1);case measure=>omega
      exact⟨_,n1,c1,_,k3,k1,k2,Ap,A',n+1,c',_,rfl,rfl,rfl,by omega,Ay.out⟩)
theorem ee(w a b c d):(binOp .neq 25 (.agg #[I U a,I U b]) (.agg #[I U c,I U d])).run prog w=.ok (.bool !((a==c)&&(b==d))) w:=by
 have D:prog.underlying 25=S (.struct (prog.fieldsOf 25)):=by rw[Fr,underlying25]
 have H:=λw=>isAgg23 w;rw[run_neq_struct,show(10000:Nat)=9999+1 from rfl,run_equalIn_agg w 9999 25 _ _ D Tv,Fr];simp[Op.eqFields,part,H,run_equalIn_int (P:=prog) _ 9998 23 U U _ _ underlying23];by_cases G:a=c<;>by_cases F:b=d<;>simp[G,F]
theorem RL{t}{l:List BM}(h:Cv (max t 1) l)(G:BO l=t):Cv t l:=by
 by_cases F:t=0
 ·have:=Cj l h;have e:l=[]:=es (by omega);subst e;intro y D;cases D
 ·rwa [Nat.max_eq_left (by omega)]at h
theorem Ev.joined{num den:Nat}{W W1}{sb:Nat}{O rv' H}{K D :List BM}{Z}{t:Nat}(h:Ev num den W sb O K H Z t)(b:B W.heap.size W W1)(o:W1.ownsRow W.heap.size 202 3 rv' D.length (AR D))(z)(Q :Nat)(f:z=I U (Q :Int)):
  (W1.cell? ⟨sb,0,N⟩=S (I U num)/\W1.cell? ⟨sb,1,N⟩=S (I U den)/\W1.cell? ⟨sb,2,N⟩=S O/\W1.cell? ⟨sb,4,N⟩=S (I U t)/\W1.frozen? ⟨sb,2,N⟩=false/\W1.frozen? ⟨sb,4,N⟩=false/\sb<W1.heap.size)/\
  AI (W1.setCell ⟨sb,2,N⟩ rv') sb #[I U num,I U den,rv',H,I U t] 180/\
  AI ((W1.setCell ⟨sb,2,N⟩ rv').setCell ⟨sb,4,N⟩ z) sb #[I U num,I U den,rv',H,z] 180/\
  Ev num den ((W1.setCell ⟨sb,2,N⟩ rv').setCell ⟨sb,4,N⟩ z) sb rv' D H Z Q /\IH W (CX sb O H) ((W1.setCell ⟨sb,2,N⟩ rv').setCell ⟨sb,4,N⟩ z) (CX sb rv' H):=by
 subst f;have F:=h.next b;have e:=h.blk.lt;have Y:rv'.ownBlock≠S sb:=λd=>by have:=(o.lt sb d).1;omega
 have a :W1.ownsRow 0 202 3 rv' D.length (AR D):=AO o λ_ _=>NW _;refine⟨⟨F.blk.cell rfl,F.blk.cell rfl,F.blk.cell rfl,F.blk.cell rfl,F.blk.frozen 2,F.blk.frozen 4,F.blk.lt⟩,F.blk.set 2 rv',(F.blk.set 2 rv').set 4 _,⟨(F.blk.set 2 rv').set 4 _,AN (AN a ⟨sb,2,N⟩ rv' Y) ⟨sb,4,N⟩ _ Y,AN (AN F.wown ⟨sb,2,N⟩ rv' F.wne) ⟨sb,4,N⟩ _ F.wne⟩,?_,λk G=> ?_⟩
 ·exact AD.setCell (AD.setCell (AD.of_below b) ⟨sb,2,N⟩ rv' (.inl (.inl rfl))) ⟨sb,4,N⟩ _ (.inl (.inl rfl))
 ·rcases G with G|G|G
  ·exact .inl (.inl G)
  ·exact .inr (o.lt k G).1
  ·exact .inl (.inr (.inr G))
theorem bN(num den:Nat)(Ay:Ki num den=true)(w)(vals D:AM)(db ob:Nat)(O N)(h:Oz num den vals w db O)(k:Oz num den D w ob N)(BQ:∀i,O i->¬N i)(hv:DK vals)(A9:DK D)(Ba:vals.length+D.length<=360):
  C prog 297 #[P (S ⟨db,0,none⟩),P (S ⟨ob,0,none⟩)] w (Dv (Oz num den) w db O vals D):=by
 obtain⟨rv,C3,wv,ws,h,rfl⟩:=h;obtain⟨Bs,s,BX,Bt,k,rfl⟩:=k;have Bu:=Bo vals hv;have BA:=Bo D A9;have m:=Zh (Cn vals D);obtain⟨t,ht⟩:∃t,t=BH vals:=⟨_,rfl⟩;obtain⟨u,hu⟩:∃u,u=BH D:=⟨_,rfl⟩;rw[<-ht]at h Bu m;rw[<-hu]at k BA m;have hb:t+u<=7200:=by omega
 obtain⟨c0,c1,c2,c3,c4,f2,f3,f4,cl⟩:=h.gr.cells;obtain⟨d0,d1,d2,d3,d4,e2,e3,e4,dl⟩:=k.gr.cells;obtain⟨n,hn⟩:∃n,n=t+u:=⟨_,rfl⟩;have Ar:=λW b h0 h1=>Az W b t u (by omega) h0 h1;simp only[<-hn]at Ar;have Cr:n<=7200:=by omega
 have o:=Zh hn;have Ab:=λW=>ee W (num:Int) (den:Int) (num:Int) (den:Int);simp only[beq_self_eq_true,Bool.and_self,Bool.not_true]at Ab;have HH:=Zh h;have HK:=Zh k;have HA:=Zh (Zi BQ Ay);clear h k BQ Ay hv A9 Ba Bu BA ht hu hn;go_enter func297,ntmps297;go_upto_region 3 with fail;go_quiet(fail);go_upto_region 5 with fail;have b1:B w.heap.size w (w.drewN nq):=⟨rfl,rfl,rfl,E _,λ_ _=>rfl⟩;have j:=Zh b1;generalize w.drewN nq=w1 at b1 j⊢;clear c0 c1 c2 c3 c4 f2 f3 f4 cl d0 d1 d2 d3 d4 e2 e3 e4 dl Ab;obtain⟨c0,c1,c2,c3,c4,f2,f3,f4,cl⟩:=(HH.out.next b1).gr.cells;obtain⟨d0,d1,d2,d3,d4,e2,e3,e4,dl⟩:=(HK.out.next b1).gr.cells;clear b1 c0 c1 c2 c3 f2 f3 f4 d0 d1 d2 d3 e2 e3 e4;go_cut [5,6]from 25 to 37 (λx y wx=>x=I U n/\y=.bool true/\B w.heap.size w wx);case first=>
  have AA:B w.heap.size w (w1.drew.alloc (.cells #[I U t,I U u] 23)):=j.out.trans (((B.refl _ w1).drew.alloc (E _) _).mono j.out.size);have B0:=Zh AA;clear AA j;go_region_with(go_at_call 90;refine(Ar _ _ (by simp) (by simp)).mono ?_;rintro e w2 ⟨rfl,rfl⟩);all_goals(
   go_wp2_with fail;go_meet;exact⟨rfl,rfl,B0.out⟩)
 case rest=>
  obtain⟨rfl,rfl,b2⟩:=hcut;rename World=>w2;clear c4 cl d4 dl Ar j;have S2:=HH.out.next b2;have A6:=IY HA.out.2 S2.gr S2.sum S2.all S2.in64 (by omega) (by have:=S2.few;omega);have A8:=Zh b2;clear b2 S2;go_wp2_with fail;refine A6.mono ?_;rintro e G ⟨rfl,K,Aa,Q,S3,T3⟩;have K3:Zz num den G ob Bs s BX Bt u:=by
   have k2:=HK.out.next A8.out;exact⟨k2.gr.away T3.away λi hi hO=>HA.out.1 i hO hi,k2.sum,k2.all,k2.few,k2.in64⟩
  have b3:B G.heap.size G G.drew:=(B.refl _ _).drew;have A0:=O8 num den HA.out.2 G.drew ob Bs s BX Bt u (K3.next b3) (by omega);have f:=Zh (Zi S3 ((IH.of_below (O:=CX db rv wv) A8.out).trans T3));have Y:=λW (b:B G.heap.size G W)=>(S3.gr.next b).cells;have C0:=Zh (show G.drew.cell? ⟨db,2,none⟩=S K/\db<G.drew.heap.size from⟨(Y _ b3).2.2.1,(Y _ b3).2.2.2.2.2.2.2.2⟩);have HC:=Zh (λW (b:B G.heap.size G W)=>(show W.cell? ⟨db,2,none⟩=S K/\db<W.heap.size from⟨(Y W b).2.2.1,(Y W b).2.2.2.2.2.2.2.2⟩));have BR:=Zh (λW (b:B G.heap.size G W) v4 l4 (o4:W.ownsRow G.heap.size 202 3 v4 l4.length (AR l4)) (s4:BO l4=u) (a4:Cv (max u 1) l4)=>Vd W t u n (Nat.le_of_eq o.out.symm) (by omega) K v4 Aa l4 (S3.gr.next b).own (AO o4 λ_ _=>NW _) (by have:=Cj Aa S3.all;have:=S3.sum;omega) (by have:=Cj l4 a4;omega) (RL S3.all (by have:=S3.sum;simpa using this)) (RL a4 s4));clear A6 S3 T3 K3 b3 Y;go_upto_region 9 with fail;go_region_held3 (λw' =>w'.cell? ⟨db,2,none⟩=S K/\db<w'.heap.size) (first|exact C0.out|assumption)
   (first
    |(go_at_call 301;refine A0.mono ?_;rintro e w4 ⟨v4,l4,rfl,o4,s4,a4,b4⟩;have p:B G.heap.size G w4:=(B.refl _ _).drew.trans b4;have Bb:=BR.out w4 p v4 l4 o4 s4 a4;have c4:=HC.out w4 p;have Z:=Zh p;have Bw:=Zh s4;obtain⟨A4,k4,rfl⟩:=AF o4;clear o4 s4 a4 p b4)
    |(go_at_call 300;refine Bb.mono ?_;rintro e w5 ⟨v5,l5,rfl,o5,s5,n5,a5,b5⟩;have c5:=HC.out w5 (Z.out.trans (b5.mono Z.out.size));have a:=Zh (Zi o5 (Zi s5 (Zi n5 (Zi a5 b5))));obtain⟨A5,k5,rfl⟩:=AF o5;clear o5 s5 n5 a5 b5))
  have Al:=MA num den n w5 HA.out.2 (by omega);have Av:=UI num den n HA.out.2;generalize ED num den n=lim at Al Av;have B5:=Zh (Z.out.trans (a.out.2.2.2.2.mono Z.out.size));have Cp:l5.length<=20000:=by
   have:=a.out.2.2.1;have h1:=Cj l5 a.out.2.2.2.1;have h2:=a.out.2.1;have h3:=f.out.1.sum;have h4:=o.out;have h5:=Bw.out;simp at h3;omega
  have B1:=Zh (λW (b:B w5.heap.size w5 W)=>JG (max n 1) (by omega) lim Av W _ l5 (AO (AE a.out.1 b λg hg=>(a.out.1.lt g hg).2) λ_ _=>NW _) (by omega) (a.out.2.2.2.1.mono (Nat.le_max_left _ _)));have HJ:=Zh (show∀w6 (b:B w5.heap.size w5 w6) F H (d:List BM),F.ownsRow 0 202 3 H d.length (AR d)->AD (λk=>(L A5 l5.length k5).ownBlock=S k) w6 F->FA w6 (L A5 l5.length k5) H->
    (F.cell? ⟨db,0,none⟩=S (I U num)/\F.cell? ⟨db,1,none⟩=S (I U den)/\db<F.heap.size)/\
    ((F.setCell ⟨db,2,none⟩ H).cell? ⟨db,0,none⟩=S (I U num)/\(F.setCell ⟨db,2,none⟩ H).cell? ⟨db,1,none⟩=S (I U den)/\db<(F.setCell ⟨db,2,none⟩ H).heap.size)/\
    (((F.setCell ⟨db,2,none⟩ H).setCell ⟨db,4,none⟩ (I U n)).cell? ⟨db,0,none⟩=S (I U num)/\((F.setCell ⟨db,2,none⟩ H).setCell ⟨db,4,none⟩ (I U n)).cell? ⟨db,1,none⟩=S (I U den)/\db<((F.setCell ⟨db,2,none⟩ H).setCell ⟨db,4,none⟩ (I U n)).heap.size)/\
    (F.cell? ⟨db,2,none⟩=S K/\F.cell? ⟨db,4,none⟩=S (I U t)/\F.frozen? ⟨db,2,none⟩=false/\F.frozen? ⟨db,4,none⟩=false)/\
    Hid (Ev num den ((F.setCell ⟨db,2,none⟩ H).setCell ⟨db,4,none⟩ (I U n)) db H d Q [] n/\IH G (CX db K Q) ((F.setCell ⟨db,2,none⟩ H).setCell ⟨db,4,none⟩ (I U n)) (CX db H Q))from λw6 b F H d o7 a7 k7=>by
   have C1:=Z.out.size;have C2:=a.out.2.2.2.2.size;have Cs:=b.size;have Ck:B G.heap.size G w6:=B5.out.trans (b.mono B5.out.size);have B9:B G.heap.size G F:=Ck.trans (a7.below (by omega) λk hk e=>by have:=(a.out.1.lt k e).1;omega);have CL:F.ownsRow G.heap.size 202 3 H d.length (AR d):=AO o7 λg hg=>by
    rcases k7 with e|⟨i,e,hi⟩
    ·have:=(a.out.1.lt g (by rw[<-e];exact hg)).1;omega
    ·rw[e]at hg;have:=fy hg;omega
   obtain⟨⟨q0,q1,q2,q4,r2,r4,ql⟩,Ax,Ap,hg,B3⟩:=f.out.1.gr.joined B9 CL (I U n) n rfl;exact⟨⟨q0,q1,ql⟩,⟨Ax.cell rfl,Ax.cell rfl,Ax.lt⟩,⟨Ap.cell rfl,Ap.cell rfl,Ap.lt⟩,⟨q2,q4,r2,r4⟩,Zh ⟨hg,B3⟩⟩)
  have B4:=Zh (λW (b:B w5.heap.size w5 W)=>(show W.cell? ⟨db,0,none⟩=S (I U num)/\W.cell? ⟨db,1,none⟩=S (I U den)/\db<W.heap.size from by
   have h:=f.out.1.gr.next (B5.out.trans (b.mono B5.out.size));exact⟨h.cells.1,h.cells.2.1,h.blk.lt⟩))
  obtain⟨q0,q1,ql⟩:=B4.out w5 (B.refl _ _);clear Av c4 c5 C0 HC BR A0 Bb Cp;go_wp2_with fail;refine Al.mono ?_;rintro e w6 ⟨rfl,b6⟩;have A3:=B1.out w6 b6;have B2:=Zh b6;clear Al b6 q0 q1 ql B1;go_wp2_with fail;refine A3.mono ?_;rintro e F ⟨H,d,rfl,o7,r7,a7,k7⟩;have hj:=HJ.out w6 B2.out F H d o7 a7 k7;have Aw:=Zh r7;obtain⟨A7,c7,rfl⟩:=AF o7;obtain⟨⟨-,-,ql⟩,C8,C9,⟨y2,y4,z2,z4⟩,Ac⟩:=hj;clear A3 o7 r7 a7 k7 C8 C9;have HF:=Zh (show Dv (Oz num den) w db (CX db rv wv) vals D (R (I J 0)) ((F.setCell ⟨db,2,none⟩ (L A7 d.length c7)).setCell ⟨db,4,none⟩ (I U n))from by
   have st:=f.out.2.trans Ac.out.2;refine⟨0,CX db (L A7 d.length c7) Q,rfl,λ_=>⟨_,d,Q,[],?_,rfl⟩,st.sub,st.away⟩;have e:BH (vals++D)=n:=by rw[m.out,o.out]
   rw[e];refine⟨Ac.out.1,?_,Aw.out.2.2,by simp,by simp⟩;have h3:=f.out.1.sum;simp at h3;rw[Aw.out.1,a.out.2.1,o.out,h3,Bw.out];simp)
  clear Ac Aw;go_wp2_with fail;go_ret;exact HF.out
theorem Ve(w hb pb s0 s1 v0 v1 dg lim)(l0 l1:AL)(z lo hi)(h:Cm w hb pb s0 s1 v0 v1 dg lim l0 l1 z lo hi)(Y:C6 l0 l1 z<=9223372036854775807)(H:C6 l0 l1 z=0->lo=0/\hi=0):
  C prog 235 #[P (S ⟨hb,0,N⟩)] w λe w' =>e=R (.tuple #[I J lo,I J hi,.bool (C6 l0 l1 z !=0)])/\B w.heap.size w w' :=by
 have D:=Cf w hb pb s0 s1 v0 v1 dg lim l0 l1 z lo hi h Y;obtain⟨T,G⟩:∃T,T=C6 l0 l1 z:=⟨_,rfl⟩;rw[<-G]at D H⊢;have a:=Zh h;clear h G Y;by_cases O:T=0
 ·obtain⟨rfl,rfl⟩:=H O;subst O;clear H;go_enter func235,ntmps235;go_wp2_with fail;refine D.mono ?_;rintro e Z ⟨rfl,F⟩;have K:=Zh F;clear F D;go_wp2_with fail;go_ret3;exact⟨rfl,K.out⟩
 ·have k:((T:Int)==0)=false:=by simp;omega
  have Q:(T !=0)=true:=by simp;omega
  rw[Q];clear H Q;go_enter func235,ntmps235;go_wp2_with fail;refine D.mono ?_;rintro e Z ⟨rfl,F⟩;obtain⟨i,c1,c2,m,g,o,s,j,f,p,d⟩:=(a.out.next F).cells;have K:=Zh F;clear F D;go_wp2_with fail;go_quiet(fail);go_wp2_with fail;go_ret3;exact⟨rfl,below_drewN K.out _⟩
theorem Y0(w hb pb s0 s1 v0 v1 dg lim)(l0 l1:AL)(z lo hi)(h:Cm w hb pb s0 s1 v0 v1 dg lim l0 l1 z lo hi):
  C prog 249 #[P (S ⟨hb,0,N⟩)] w λe w' =>e=R (I U z)/\w=w' :=by
 obtain⟨Z,c1,c2,F,Y,G,Q,O,D,H,K⟩:=h.cells;clear h;go_enter func249,ntmps249;go_wp2_with fail;go_ret;exact⟨rfl,rfl⟩
theorem TF(w hb pb s0 s1 v0 v1 dg lim)(l0 l1:AL)(z lo hi)(h:Cm w hb pb s0 s1 v0 v1 dg lim l0 l1 z lo hi):
  C prog 248 #[P (S ⟨hb,0,N⟩)] w λe w' =>B w.heap.size w w' /\e=R (.agg #[I J dg,I U lim]):=by
 obtain⟨a,c1,c2,G,Z,H,Y,Q,F,K,O⟩:=h.cells;have D:=h.blk.lt;clear h;go_enter func248,ntmps248;go_wp2_with fail;refine bodyPost_ret (v:=.agg #[I J dg,I U lim]) (by simp[results,results248,go_sem]) rfl ?_;refine⟨?_,rfl⟩;exact(B.refl _ w).alloc (E _) _
theorem Y3(w hb pb s0 s1 v0 v1 dg lim)(l0 l1:AL)(z lo hi)(h:Cm w hb pb s0 s1 v0 v1 dg lim l0 l1 z lo hi)(K:l0.length<=4000)(d:l1.length<=4000):
  C prog 247 #[P (S ⟨hb,0,N⟩)] w λe w' =>∃a b,e=R (T #[a,b])/\w'.ownsRow 0 228 2 a l0.length (AV l0)/\w'.ownsRow 0 228 2 b l1.length (AV l1)/\B w.heap.size w w' :=by
 obtain⟨c0,c1,c2,c3,c4,c5,c6,u,f5,f6,s⟩:=h.cells;have Z:=Zh (show∀W,B w.heap.size w W->_ from λW (k:B w.heap.size w W)=>Cx W s0 v0 l0 (h.next k).st0 (by omega));have H:=Zh (show∀W,B w.heap.size w W->_ from λW (k:B w.heap.size w W)=>Cx W s1 v1 l1 (h.next k).st1 (by omega));have D:=Zh (show∀W,B w.heap.size w W->_ from λW (k:B w.heap.size w W)=>Zi (h.next k).cells.2.2.2.1 (h.next k).cells.2.2.2.2.1);have AA:=Zh (show B w.heap.size w w.drew from(B.refl _ _).drew);clear h c0 c1 c2 c5 c6 u f5 f6 s K d;go_enter func247,ntmps247;go_upto_region 3 with fail;rename_i p;go_region_with(first
  |(go_at_call 177;(with_reducible refine(Z.out _ (Hid.out (by assumption))).mono ?_);rintro e w2 ⟨va,rfl,j,Y⟩;have m:Hid (B w.heap.size w w2):=Zh (B.trans (Hid.out (by assumption)) (Y.mono (B.size (Hid.out (by assumption)))));obtain⟨d3,d4⟩:=D.out _ m.out;have G:=Zh (Zi j Y);clear j Y)
  |(go_at_call 177;(with_reducible refine(H.out _ (Hid.out (by assumption))).mono ?_);rintro e o ⟨vb,rfl,f,O⟩;have i:Hid (B w.heap.size w o):=Zh (B.trans (Hid.out (by assumption)) (O.mono (B.size (Hid.out (by assumption)))));obtain⟨d5,d6⟩:=D.out _ i.out;have F:=Zh (Zi f O);clear f O))
 all_goals(
  refine p _ _ ?_;go_wp2_with fail;go_ret2;first
   |exact⟨va,vb,rfl,AE (AO G.out.1 λ_ _=>NW _) F.out.2 (λg Q=>(G.out.1.lt g Q).2),AO F.out.1 λ_ _=>NW _,i.out⟩
   |exact⟨va,vb,rfl,AO G.out.1 λ_ _=>NW _,AE (AO F.out.1 λ_ _=>NW _) G.out.2 (λg Q=>(F.out.1.lt g Q).2),m.out⟩)
theorem CH.nextH{B w qb A c out wr H}(h:CH B w qb A c out wr)(O:B<=w.heap.size)(b:Below wr.heap.size wr H):CH B w qb A c out H:=
 ⟨h.qu.next b,h.below.trans (b.mono (ag O h.below.size)),λG F T K D hb=>(h.keep G F T K D hb).below b (h.keep G F T K D hb).lt⟩
theorem CH.owns{B w qb A c out W}(h:CH B w qb A c out W){b v n xs}(o:w.ownsRow b 228 2 v n xs):W.ownsRow b 228 2 v n xs:=
 Cw o λg G=>by
  obtain⟨D,F⟩:=AJ o G
  exact(h.keep g D 228 (by decide) (by decide) F).trans F.symm
structure Md(B:Nat)(w:World)(hb pb s0 s1:Nat)(v0 v1:V)(dg:Nat)(lim:Int)(l0 l1:AL)(z:Nat)(lo hi:Int)(va vb:V)(qb:Nat)(A:Option Addr)(c:Nat)(out:List UInt8)(b:Nat)(W:World):Prop where
 nas:CH B w qb A c out W
 hd:Cm w hb pb s0 s1 v0 v1 dg lim l0 l1 z lo hi
 blk:AI W b #[P (S ⟨hb,0,N⟩)] 129
 hB:B<=w.heap.size
 own:∀k,Ce hb pb s0 s1 v0 v1 k->k<B
 ra:W.ownsRow 0 228 2 va l0.length (AV l0)
 rb:W.ownsRow 0 228 2 vb l1.length (AV l1)
section
variable {B:Nat} {w:World} {hb pb s0 s1:Nat} {v0 v1:V} {dg:Nat} {lim:Int} {l0 l1:AL} {z:Nat} {lo hi:Int} {va vb:V} {qb:Nat} {A:Option Addr} {c:Nat} {out:List UInt8} {b:Nat} {W W' :World}
theorem Md.hdW(h:Md B w hb pb s0 s1 v0 v1 dg lim l0 l1 z lo hi va vb qb A c out b W):Cm W hb pb s0 s1 v0 v1 dg lim l0 l1 z lo hi:=by
 have F:AD (λk=>B<=k) w W:=⟨h.nas.below.os,h.nas.below.tape,h.nas.below.output,h.nas.below.size,λk _ G=>h.nas.below.block k (by omega)⟩;exact h.hd.away F λk D=>by have:=h.own k D;omega
theorem Md.next(h:Md B w hb pb s0 s1 v0 v1 dg lim l0 l1 z lo hi va vb qb A c out b W)(k:Below W.heap.size W W'):Md B w hb pb s0 s1 v0 v1 dg lim l0 l1 z lo hi va vb qb A c out b W' :=
 ⟨h.nas.nextH h.hB k,h.hd,h.blk.below k h.blk.lt,h.hB,h.own,AE h.ra k λg D=>(h.ra.lt g D).2,AE h.rb k λg D=>(h.rb.lt g D).2⟩
theorem Md.drew(h:Md B w hb pb s0 s1 v0 v1 dg lim l0 l1 z lo hi va vb qb A c out b W):Md B w hb pb s0 s1 v0 v1 dg lim l0 l1 z lo hi va vb qb A c out b W.drew:=h.next (Below.refl _ _).drew
theorem Md.put{A' c' D}(h:Md B w hb pb s0 s1 v0 v1 dg lim l0 l1 z lo hi va vb qb A c out b W)(k:CH B W qb A' c' D W'):Md B w hb pb s0 s1 v0 v1 dg lim l0 l1 z lo hi va vb qb A' c' D b W' :=
 ⟨h.nas.trans k,h.hd,k.keep _ _ _ (by decide) (by decide) h.blk,h.hB,h.own,k.owns h.ra,k.owns h.rb⟩
theorem Md.cell(h:Md B w hb pb s0 s1 v0 v1 dg lim l0 l1 z lo hi va vb qb A c out b W):W.cell? ⟨b,0,N⟩=S (P (S ⟨hb,0,N⟩)):=h.blk.cell rfl
theorem Md.size(h:Md B w hb pb s0 s1 v0 v1 dg lim l0 l1 z lo hi va vb qb A c out b W):B<=W.heap.size:=ag h.hB h.nas.below.size
end
theorem TG(u v w):(Instr.field 127 (.agg #[u,v]) 0).run prog w=.ok u w:=by kernel_rfl
theorem TH(u v w):(Instr.field 127 (.agg #[u,v]) 1).run prog w=.ok v w:=by kernel_rfl
theorem ef(a):[a].flatMap AK=AK a:=by simp
theorem PA(a b):BP [a,b]=AK (AX a)++AK (AX b):=by simp[BP]
theorem PC(a b):[a,b].flatMap AK=AK a++AK b:=by simp
def NT(dg lim zl zh z:Nat)(l0 l1:AL):List UInt8:=AK dg++AK lim++(AK zl++AK zh)++AK z++Dc l0++Dc l1
def TI(l:AL):Prop:=l.length<=3000/\AT l/\∀x∈l,x.1<9000000000000000000/\x.2<18446744073709551616
theorem CN(l:AL)(h:TI l):(Dc l).length<=10+20*l.length:=by
 obtain⟨K,O,F⟩:=h;have a5:=AC l.length (by omega);unfold Dc;rw[Q0];have D:∀j,CJ l j<9000000000000000000:=λj=>by
  by_cases G:j<l.length
  ·rw[Bj l j G];exact(F _ (RR G)).1
  ·unfold CJ;rw[List.getD_eq_getElem?_getD,List.getElem?_eq_none (by omega)];simp
 have:=Kr l l.length λi hi=>by
  have K:=LY l i hi;have Q:=D 0;have Y:=D i;have H:=(F _ (RR hi)).2;rw[Dj l i hi];refine⟨?_,H⟩;unfold Db;split<;>omega
 omega
theorem Vf(B:Nat)(w)(hb pb s0 s1:Nat)(v0 v1)(dg ED:Nat)(l0 l1:AL)(z:Nat)(lo hi:Int)(qb:Nat)(A)(c:Nat)(hq:Fi B w qb (L A ([]:List UInt8).length c) [])(hB:B<=w.heap.size)(h:Cm w hb pb s0 s1 v0 v1 dg (ED:Int) l0 l1 z lo hi)(Q:∀k,Ce hb pb s0 s1 v0 v1 k->k<B)
  (Bb:dg<=4)(Ax:ED<18446744073709551616)(hT:C6 l0 l1 z<=9223372036854775807)(u:C6 l0 l1 z=0->lo=0/\hi=0)(AA:Am lo)(Ap:Am hi)(w0:TI l0)(d:TI l1):
  C prog 245 #[.agg #[P (S ⟨hb,0,N⟩)],P (S ⟨qb,0,N⟩)] w λe w' =>e=R (T #[])/\∃A' c',CH B w qb A' c' (NT dg ED (AX lo) (AX hi) z l0 l1) w' :=by
 have S0:CH B w qb A c [] w:=CH.start hq;have b0:Below w.heap.size w (w.alloc (.cells #[P (S ⟨hb,0,N⟩)] 129)):=Za;have hz:z<=C6 l0 l1 z:=by unfold C6;omega
 have he:=Ve _ hb pb s0 s1 v0 v1 dg ED l0 l1 z lo hi (h.next b0) hT u;have Al:=λW (k:Below w.heap.size w W)=>Y3 W hb pb s0 s1 v0 v1 dg ED l0 l1 z lo hi (h.next k) (by have:=w0.1;omega) (by have:=d.1;omega);have BX:AI (w.alloc (.cells #[P (S ⟨hb,0,N⟩)] 129)) w.heap.size #[P (S ⟨hb,0,N⟩)] 129:=AI.newAt rfl;have MK:=Zh (show∀W va vb,Below w.heap.size w W->AI W w.heap.size #[P (S ⟨hb,0,N⟩)] 129->W.ownsRow 0 228 2 va l0.length (AV l0)->W.ownsRow 0 228 2 vb l1.length (AV l1)->Md B w hb pb s0 s1 v0 v1 dg ED l0 l1 z lo hi va vb qb A c [] w.heap.size W from
  λW va vb k A4 ra rb=>⟨S0.nextH hB k,h,A4,hB,Q,ra,rb⟩)
 have Y:=Zh (Zi w0 (Zi d (Zi (CN l0 w0) (CN l1 d))));generalize(C6 l0 l1 z !=0)=tb at he;have Bu:=AC dg (by omega);have Bw:=AC ED Ax;have B3:=AC (AX lo) (Ao lo AA).2;have B0:=AC (AX hi) (Ao hi Ap).2;have Bs:=AC z (by omega);have Bt:U.wrap (dg:Int)=(dg:Int):=by rw[Pa];omega
 have D:=Zh (Zi b0 BX);clear S0 Q hq h b0 BX w0 d u;go_enter func245,ntmps245;go_wp2_with fail;refine he.mono ?_;rintro e d ⟨rfl,b1⟩;have B1:=D.out.1.trans (b1.mono D.out.1.size);have X1:=D.out.2.below b1 D.out.2.lt;have k0:d.cell? ⟨w.heap.size,0,N⟩=S (P (S ⟨hb,0,N⟩)):=X1.cell rfl;have s:=Al d B1;have F:=Zh (Zi B1 X1);clear he b1 B1 X1 D Al;go_wp2_with fail;refine s.mono ?_;rintro e w2 ⟨va,vb,rfl,ra,rb,g⟩;have C2:=MK.out w2 va vb (F.out.1.trans (g.mono F.out.1.size)) (F.out.2.below g F.out.2.lt) ra rb;obtain⟨Aa,ca,BQ⟩:=AF ra;obtain⟨Ab,cb,Ba⟩:=AF rb;subst BQ;subst Ba;obtain⟨n0,a⟩:∃n,n=l0.length:=⟨_,rfl⟩;obtain⟨n1,Z⟩:∃n,n=l1.length:=⟨_,rfl⟩;have HN:=Zh (Zi a Z);rw[<-a,<-Z]at C2⊢;generalize w.heap.size=pb1 at C2⊢k0;clear s ra rb g F MK k0 a Z;go_upto_region 3 with fail;have C3:=C2.drew;have c3:=C3.cell;have O:=λW (k:Md B w hb pb s0 s1 v0 v1 dg ED l0 l1 z lo hi (L Aa n0 ca) (L Ab n1 cb) qb A c [] pb1 W)=>TF W hb pb s0 s1 v0 v1 dg ED l0 l1 z lo hi k.hdW;have BA:=λW=>TG (I J dg) (I U ED) W;have A3:=λW=>TH (I J dg) (I U ED) W;have H:=λW (k:Md B w hb pb s0 s1 v0 v1 dg ED l0 l1 z lo hi (L Aa n0 ca) (L Ab n1 cb) qb A c [] pb1 W)=>Cd B (W.alloc (.cells (Dr [dg,ED]) 23)) qb W.heap.size 2 A c [] [dg,ED] (k.nas.qu.alloc _) (by have:=k.size;simp;omega) (AI.newAt rfl)
  (λn hn=>by simp at hn;omega) (by simp;omega) (by simp)
 clear C2;rename_i KK;go_region_with(first
  |(go_at_call 248;(with_reducible refine(O _ (by assumption)).mono ?_);rintro e w2 ⟨g,rfl⟩;have H2:=Md.next (h:=by assumption) g;have k2:=H2.cell;clear g)
  |(go_at_call 62;refine(H _ (by assumption)).mono ?_;rintro e w5 ⟨rfl,A5,k5,S5⟩;have m:=Md.put (Md.next (h:=by assumption) (Za)) S5;clear S5))
 all_goals(
  clear O H BA A3 c3 C3;refine KK _ _ ?_;rw[PC,gS]at m;have K:=IK B (w5.alloc (.cells (IJ [lo,hi]) 2)) qb w5.heap.size 2 A5 k5 (AK dg++AK ED) [lo,hi] (m.nas.qu.alloc _) (by have:=m.size;simp;omega) (AI.newAt rfl)
   (λx hx=>by simp at hx;rcases hx with rfl|rfl;exact AA;exact Ap) (by simp;omega) (by simp)
  go_wp2_with fail;refine K.mono ?_;rintro e w6 ⟨rfl,A6,k6,S6⟩;have i:=(m.next (Za)).put S6;have c6:=i.cell;rw[PA]at i;have Av:=Y0 w6 hb pb s0 s1 v0 v1 dg ED l0 l1 z lo hi i.hdW;have G:=Zh i;clear K S6 m i;go_wp2_with fail;refine Av.mono ?_;rintro e w7 ⟨rfl,rfl⟩;have A0:=Cd B (w6.alloc (.cells (Dr [z]) 23)) qb w6.heap.size 1 A6 k6 (AK dg++AK ED++(AK (AX lo)++AK (AX hi))) [z] (G.out.nas.qu.alloc _) (by have:=G.out.size;simp;omega) (AI.newAt rfl)
   (λn hn=>by simp at hn;omega) (by simp;omega) (by simp)
  clear Av;go_wp2_with fail;refine A0.mono ?_;rintro e w8 ⟨rfl,A8,k8,S8⟩;have f:=(G.out.next (Za)).put S8;rw[ef]at f;have Ay:=I6 B w8 qb A8 k8 (AK dg++AK ED++(AK (AX lo)++AK (AX hi))++AK z) _ _ l0 f.nas.qu f.size f.ra (by have:=Y.out.1.1;omega) Y.out.1.2.1 Y.out.1.2.2 (by simp;omega);have Ac:=Zh f;clear A0 S8 f G c6;go_wp2_with fail;refine Ay.mono ?_;rintro e w9 ⟨rfl,A9,k9,S9⟩;have p:=Ac.out.put S9;have j:=I6 B w9 qb A9 k9 (AK dg++AK ED++(AK (AX lo)++AK (AX hi))++AK z++Dc l0) _ _ l1 p.nas.qu p.size p.rb (by have:=Y.out.2.1.1;omega) Y.out.2.1.2.1 Y.out.2.1.2.2 (by have:=Y.out.2.2.1;have:=Y.out.1.1;simp;omega);have Aw:=Zh p;clear Ay S9 p Ac;go_wp2_with fail;refine j.mono ?_;rintro e B2 ⟨rfl,A7,o,Ar⟩;have BR:=Zh (Aw.out.put Ar);clear j Ar Aw;go_wp2_with fail;go_end0;exact⟨rfl,A7,o,BR.out.nas⟩)
theorem CH.lrow{B w qb A c out wr v xs}(h:CH B w qb A c out wr)(l:BD w v xs):BD wr v xs:=by
 rcases l with l|⟨g,F,D,rfl,hb,G⟩
 ·exact .inl l
 ·exact .inr ⟨g,F,D,rfl,h.keep _ _ _ (by decide) (by decide) hb,G⟩
theorem NU(B w qb v A c1 out xs)(h:Fi B w qb (L A out.length c1) out)(hB:B<=w.heap.size)(hb:BD w v xs)
  (hn:∀x∈xs,Am x)(hl:out.length+10*xs.length<=1000000000)(d:xs.length<=1000000):
  C prog 226 #[P (some ⟨qb,0,N⟩),v] w λe w' =>e=R (T #[])/\∃A' c',CH B w qb A' c' (out++BP xs) w' :=by
 have o:CH B w qb A c1 out w:=CH.start h;obtain⟨A0,Aa,rfl⟩:=hb.slice;have HN:=Zh hn;have HB:=Zh hb;clear h hb hn;obtain⟨m,j⟩:∃m,m=xs.length:=⟨_,rfl⟩;have s:=Zh j;rw[<-j]at d hl⊢;clear j;go_enter func226,ntmps226;go_wp2;go_loopg [5,8] m (λg p i wr=>∃(q:Nat) (A:Option Addr) (c:Nat) (K:List UInt8),i=I J q/\q<=m/\m-q<=g/\K=out++BP (xs.take q)/\K.length<=out.length+10*q/\CH B w qb A c K wr);case atStart=>exact⟨0,A,c1,out,rfl,NW _,E _,by simp[BP],by omega,o⟩
 case round=>
  clear o;obtain⟨q,A,c,K,rfl,hq,hg,G,AA,S⟩:=hrel;by_cases Z:q<m
  ·have k:(q:Int)<(m:Int):=by omega
   have D:q<xs.length:=by rw[<-s.out];exact Z
   have F:=S.lrow HB.out;rcases F.shape with⟨_,h0⟩|⟨lb,Ac,hv,Ap,_⟩
   ·rw[h0]at D;simp at D
   simp only[L.injEq]at hv;obtain⟨rfl,-,rfl⟩:=hv;have c0:wr.cell? ⟨lb,q,N⟩=some (I J (xs[q]'D)):=F.cellAt q D;have H:=HN.out _ (RR D);have O:BP (xs.take (q+1))=BP (xs.take q)++AK (AX (xs[q]'D)):=by unfold BP;rw[fa D,gT];simp
   generalize hu:(xs[q]'D)=u at*;have HT:=Zh (show K++AK (AX u)=out++BP (xs.take (q+1)) by rw[O,G,fj]);obtain⟨z1,a⟩:=Ao u H;have z3:=AC _ a;have hz:=Sg.zig_any u wr H.1 H.2;rw[z1]at hz;have Ab:=S.below.size;have Q:=Cd B (wr.alloc (.cells (Dr [AX u]) 23)) qb wr.heap.size 1 A c K [AX u] (S.qu.alloc _) (by simp;omega) (AI.newAt rfl) (by simpa using a) (by simp;omega) (by simp);have f:=Zh (S.alloc hB (.cells (Dr [AX u]) 23));have Al:(AK (AX u)).length<=10:=z3;clear O G hu H z1 a z3 S F;go_wp2_with(first|(go_at_call 230;refine hz.mono ?_;rintro e w3 ⟨rfl,rfl⟩)|(go_at_call 62;refine Q.mono ?_;rintro e w3 ⟨rfl,A3,c3,S3⟩));go_roundg (m-(q+1));case measure=>omega
   simp only[bh,fk,gU]at S3;exact⟨q+1,A3,c3,_,by go_num,by omega,by omega,HT.out,by rw[Q0];omega,f.out.trans S3⟩
  ·have Y:q=m:=by omega
   have k:¬(q:Int)<(m:Int):=by omega
   have f:=Zh S;have he:K=out++BP xs:=by rw[G,Y,s.out,fx]
   have HE:=Zh he;clear S Y hq Z he G;go_wp2;go_end0;have S:=f.out;rw[HE.out]at S;exact⟨rfl,_,_,S⟩
def Gb(x:Af):List UInt8:=AK (AX x.2.1)++AK (AX x.2.2)++AK x.1
def MH(most:Nat)(l:List Af):List UInt8:=AK most++AK l.length++l.flatMap Gb
theorem RM(x:Af)(h:Kg x)(D:x.1<18446744073709551616):(Gb x).length<=30:=by
 have G:=AC (AX x.2.1) (Ao _ h.2.1).2;have F:=AC (AX x.2.2) (Ao _ h.2.2).2;have H:=AC x.1 D;unfold Gb;simp only[Q0];omega
theorem CH.owns3{B w qb A c out wr}(h:CH B w qb A c out wr){T k n xs v}(Z:T≠5)(O:T≠109)(o:w.ownsRow 0 T k v n xs):wr.ownsRow 0 T k v n xs:=by
 obtain⟨Y,G⟩:=o;refine⟨Y,G.imp id ?_⟩;rintro⟨g,F,D,Q,hb,K,H⟩;exact⟨g,F,D,Q,hb,h.keep g D T Z O K,H⟩
structure UQ(B:Nat)(w:World)(most db:Nat)(v:V)(l:List Af)(t:Nat)(vl:V)(qb:Nat)(A:Option Addr)(c:Nat)(out:List UInt8)(b:Nat)(W:World):Prop where
 nas:CH B w qb A c out W
 lm:I3 most w db v l t
 blk:AI W b #[P (S ⟨db,0,N⟩)] 148
 hB:B<=w.heap.size
 own:∀k,KY db v k->k<B
 row:W.ownsRow 0 207 3 vl l.length (Ad l)
section
variable {B:Nat} {w:World} {most db:Nat} {v:V} {l:List Af} {t:Nat} {vl:V} {qb:Nat} {A:Option Addr} {c:Nat} {out:List UInt8} {b:Nat} {W W' :World}
theorem UQ.lmW(h:UQ B w most db v l t vl qb A c out b W):I3 most W db v l t:=by
 have D:AD (λk=>B<=k) w W:=⟨h.nas.below.os,h.nas.below.tape,h.nas.below.output,h.nas.below.size,λk _ G=>h.nas.below.block k (by omega)⟩;exact h.lm.away D (by have:=h.own db (.inl rfl);omega) λg F=>by have:=h.own g (.inr F);omega
theorem UQ.next(h:UQ B w most db v l t vl qb A c out b W)(k:Below W.heap.size W W'):UQ B w most db v l t vl qb A c out b W' :=
 ⟨h.nas.nextH h.hB k,h.lm,h.blk.below k h.blk.lt,h.hB,h.own,AE h.row k λg D=>(h.row.lt g D).2⟩
theorem UQ.put{A' c' D}(h:UQ B w most db v l t vl qb A c out b W)(k:CH B W qb A' c' D W'):UQ B w most db v l t vl qb A' c' D b W' :=
 ⟨h.nas.trans k,h.lm,k.keep _ _ _ (by decide) (by decide) h.blk,h.hB,h.own,k.owns3 (by decide) (by decide) h.row⟩
theorem UQ.cell(h:UQ B w most db v l t vl qb A c out b W):W.cell? ⟨b,0,N⟩=S (P (S ⟨db,0,N⟩)):=h.blk.cell rfl
theorem UQ.size(h:UQ B w most db v l t vl qb A c out b W):B<=W.heap.size:=ag h.hB h.nas.below.size
end
theorem Y4(most)(BQ:most<=64)(B w db v)(l:List Af)(t qb A c)(hq:Fi B w qb (.slice A ([]:List UInt8).length c) [])(hB:B<=w.heap.size)(h:I3 most w db v l t)(o:∀k,KY db v k->k<B)
  (hl:l.length<=64)(hg:∀y∈l,Kg y/\y.1<18446744073709551616):
  C prog 363 #[.agg #[P (S ⟨db,0,N⟩)],P (S ⟨qb,0,N⟩)] w λe w' =>e=R (T #[])/\∃A' c',CH B w qb A' c' (MH most l) w' :=by
 have S0:CH B w qb A c [] w:=CH.start hq;have b0:Below w.heap.size w (w.alloc (.cells #[P (S ⟨db,0,N⟩)] 148)):=Za;have Ab:=NK (h.next b0) (by omega);have BX:AI (w.alloc (.cells #[P (S ⟨db,0,N⟩)] 148)) w.heap.size #[P (S ⟨db,0,N⟩)] 148:=AI.newAt rfl;have O:=Zh (Zi b0 BX);have MK:=Zh (show∀W vl,Below w.heap.size w W->AI W w.heap.size #[P (S ⟨db,0,N⟩)] 148->W.ownsRow 0 207 3 vl l.length (Ad l)->UQ B w most db v l t vl qb A c [] w.heap.size W from λW vl k hb u=>⟨S0.nextH hB k,h,hb,hB,o,u⟩);have HG:=Zh hg;have k1:=AC most (by omega);obtain⟨m,Z⟩:∃m,m=l.length:=⟨_,rfl⟩;have k2:=AC m (by omega);have H:=Zh Z;rw[<-Z]at hl;have A9:U.wrap (most:Int)=(most:Int):=by rw[Pa];omega
 have A5:U.wrap (m:Int)=(m:Int):=by rw[Pa];omega
 clear S0 b0 BX hq h o hg;go_enter func363,ntmps363;go_wp2_with fail;refine Ab.mono ?_;rintro e w1 ⟨vl,rfl,u,b1⟩;have f:=MK.out w1 vl (O.out.1.trans (b1.mono O.out.1.size)) (O.out.2.below b1 O.out.2.lt) (AO u λ_ _=>NW _);obtain⟨Al,cl,A0⟩:=AF u;subst A0;rw[<-Z]at f⊢;generalize w.heap.size=pb at f⊢;have k0:=f.cell;have Ap:=VS f.lmW;have D:=Cd B (w1.alloc (.cells (Dr [most,m]) 23)) qb w1.heap.size 2 A c [] [most,m] (f.nas.qu.alloc _) (by have:=f.size;simp;omega) (AI.newAt rfl) (λn hn=>by simp at hn;omega) (by simp;omega) (by simp);have Ac:=Zh f;clear Ab u b1 O MK f Z;go_wp2_with fail;refine Ap.mono ?_;rintro e w2 ⟨rfl,rfl⟩;clear Ap;go_wp2_with fail;refine D.mono ?_;rintro e w3 ⟨rfl,A3,k3,S3⟩;have L3:=(Ac.out.next (Za)).put S3;rw[PC,gS]at L3;have Av:=Zh L3;clear D S3 L3 Ac k0;go_wp2_with fail;go_loopg [22] m (λg i K=>∃(q:Nat) (A:Option Addr) (c:Nat) (out:List UInt8),i=I J q/\q<=m/\m-q<=g/\out=AK most++AK m++(l.take q).flatMap Gb/\out.length<=20+30*q/\UQ B w most db v l t (.slice Al m cl) qb A c out pb K);case atStart=>exact⟨0,A3,k3,_,rfl,NW _,E _,by simp,by simp only[Q0];omega,Av.out⟩
 case round=>
  clear Av;rename World=>K;obtain⟨q,A,c,out,rfl,hq,hg,F,Ay,L⟩:=hrel;by_cases Ax:q<m
  ·have g1:(q:Int)<(m:Int):=by omega
   have Q:q<l.length:=by rw[<-H.out];exact Ax
   have Y:=L.row;rcases AH Y with⟨h1,h2,_⟩|⟨g2,Ba,hv,_,_,_,BA⟩
   ·omega
   simp only[V.slice.injEq]at hv;obtain⟨rfl,-,rfl⟩:=hv;rw[<-H.out]at Y;obtain⟨p0,p1,p2⟩:=Bq Y H.out q Q;obtain⟨G,a⟩:=HG.out _ (RR Q);have p:(l.take (q+1)).flatMap Gb=(l.take q).flatMap Gb++Gb (l[q]'Q):=by rw[fa Q,gT];simp
   have d:=RM _ G a;generalize l[q]'Q=x at p0 p1 p2 G a p d;have b4:Below K.heap.size K (K.alloc (.cells #[I U x.1,I J x.2.1,I J x.2.2] 207)):=Za;have L4:=L.next b4;have A8:=L.size;have j:=IK B ((K.alloc (.cells #[I U x.1,I J x.2.1,I J x.2.2] 207)).alloc (.cells (IJ [x.2.1,x.2.2]) 2)) qb (K.heap.size+1) 2 A c out [x.2.1,x.2.2] (L4.nas.qu.alloc _) (by simp;omega) (AI.newAt (by simp)) (λy hy=>by simp at hy;rcases hy with rfl|rfl;exact G.2.1;exact G.2.2) (by simp;omega) (by simp);have HX:=Zh (show AI ((K.alloc (.cells #[I U x.1,I J x.2.1,I J x.2.2] 207)).alloc (.cells (IJ [x.2.1,x.2.2]) 2)) K.heap.size #[I U x.1,I J x.2.1,I J x.2.2] 207 from AI.alloc (AI.newAt rfl) _);have Ar:=Zh (L4.next ((Below.refl _ _).alloc (E _) (.cells (IJ [x.2.1,x.2.2]) 2)));have HT:=Zh (show out++(AK (AX x.2.1)++AK (AX x.2.2))++AK x.1=AK most++AK m++(l.take (q+1)).flatMap Gb by rw[p,F];unfold Gb;simp only[fj]);have HD:=Zh (Zi G a);have AA:(out++(AK (AX x.2.1)++AK (AX x.2.2))++AK x.1).length<=20+30*(q+1):=by unfold Gb at d;simp only[Q0]at d⊢;omega
   have Aw:=Zh AA;clear Y G a p d b4 L4 L AA F;go_wp2_with fail;refine j.mono ?_;rintro e w6 ⟨rfl,A6,k6,S6⟩;have L6:=Ar.out.put S6;rw[PA]at L6;have X6:=S6.keep _ _ _ (by decide) (by decide) HX.out;have m0:w6.cell? ⟨K.heap.size,0,N⟩=S (I U x.1):=X6.cell rfl;have D:=Cd B (w6.alloc (.cells (Dr [x.1]) 23)) qb w6.heap.size 1 A6 k6 _ [x.1] (L6.nas.qu.alloc _) (by have:=L6.size;simp;omega) (AI.newAt rfl) (λn hn=>by simp at hn;have:=HD.out.2;omega) (by have:=Aw.out;simp only[Q0,bh,fk,List.length_nil]at this⊢;omega) (by simp);have Aa:=Zh L6;have BR:=X6.lt;clear j S6 X6 L6 Ar HX p0 p1 p2;go_wp2_with fail;refine D.mono ?_;rintro e w7 ⟨rfl,A7,k7,S7⟩;have L7:=(Aa.out.next (Za)).put S7;simp only[bh,fk,gU]at L7;have A4:=Zh L7;clear D S7 L7 Aa m0;go_wp2_with fail;go_roundg (m-(q+1));case measure=>omega
   exact⟨q+1,A7,k7,_,by go_num,by omega,E _,HT.out,Aw.out,A4.out⟩
  ·have g1:¬(q:Int)<(m:Int):=by omega
   have s:l.take q=l:=fp (by have:=H.out;omega);have HF:=Zh (show CH B w qb A c (MH most l) K from by
    have:=L.nas;rw[F,s,H.out]at this;exact this)
   clear L F s;go_wp2_with fail;go_end0;exact⟨rfl,A,c,HF.out⟩
structure de(num den:Nat)(w:World)(xb sb:Nat)(W:World):Prop where
 blk:AI W sb #[I U num,I U den,L N 0 0,L N 0 0,I U 0] 180
 bx:AI W xb #[I U num,I U den] 25
 below:B w.heap.size w W
 nsb:w.heap.size<=sb
section
variable {num den:Nat} {w:World} {xb sb:Nat} {W W' W2:World}
theorem de.next(h:de num den w xb sb W)(b:B W.heap.size W W'):de num den w xb sb W' :=⟨h.blk.below b h.blk.lt,h.bx.below b h.bx.lt,h.below.trans (b.mono h.below.size),h.nsb⟩
theorem de.fin{v1 G}{D:List BM}{H}(h:de num den w xb sb W)(b:B W.heap.size W W2)(Q:W2.ownsRow W.heap.size 202 3 v1 D.length (AR D))(O:W2.ownsRow W.heap.size 2 1 G H.length (BG H))(z)(T:Nat)(a:z=I U T):
  (W2.cell? ⟨sb,2,N⟩=S (L N 0 0)/\W2.cell? ⟨sb,3,N⟩=S (L N 0 0)/\W2.cell? ⟨sb,4,N⟩=S (I U 0)/\W2.frozen? ⟨sb,2,N⟩=false/\W2.frozen? ⟨sb,3,N⟩=false/\W2.frozen? ⟨sb,4,N⟩=false/\sb<W2.heap.size)/\
  Ev num den (((W2.setCell ⟨sb,2,N⟩ v1).setCell ⟨sb,3,N⟩ G).setCell ⟨sb,4,N⟩ z) sb v1 D G H T/\B w.heap.size w (((W2.setCell ⟨sb,2,N⟩ v1).setCell ⟨sb,3,N⟩ G).setCell ⟨sb,4,N⟩ z)/\∀k,CX sb v1 G k->w.heap.size<=k:=by
 subst a;have F:=h.next b;have Z:=h.blk.lt;have f:=h.below.size;have n1:v1.ownBlock≠S sb:=λe=>by have:=(Q.lt sb e).1;omega
 have n2:G.ownBlock≠S sb:=λe=>by have:=(O.lt sb e).1;omega
 have d:W2.ownsRow 0 202 3 v1 D.length (AR D):=AO Q λ_ _=>NW _;have Y:W2.ownsRow 0 2 1 G H.length (BG H):=AO O λ_ _=>NW _;refine⟨⟨F.blk.cell rfl,F.blk.cell rfl,F.blk.cell rfl,F.blk.frozen 2,F.blk.frozen 3,F.blk.frozen 4,F.blk.lt⟩,⟨((F.blk.set 2 _).set 3 _).set 4 _,AN (AN (AN d ⟨sb,2,N⟩ _ n1) ⟨sb,3,N⟩ _ n1) ⟨sb,4,N⟩ _ n1,AN (AN (AN Y ⟨sb,2,N⟩ _ n2) ⟨sb,3,N⟩ _ n2) ⟨sb,4,N⟩ _ n2⟩,((F.below.setCell (p:=⟨sb,2,N⟩) h.nsb _).setCell (p:=⟨sb,3,N⟩) h.nsb _).setCell (p:=⟨sb,4,N⟩) h.nsb _,?_⟩;rintro k (rfl|K|K)
 ·exact h.nsb
 ·have:=(Q.lt k K).1;omega
 ·have:=(O.lt k K).1;omega
end
def UR(num den:Nat)(w:W)(row:List BM)(ws:List Int)(e:Ending)(w' :W):Prop:=∃(po:Option Addr) (code:Int),e=R (T #[P po,I J code])/\B w.heap.size w w' /\
 (code=0->∃sb rv wv,po=S ⟨sb,0,N⟩/\Ev num den w' sb rv row wv ws (BO row+ws.length)/\∀k,CX sb rv wv k->w.heap.size<=k)
theorem df(num den:Nat)(F:Ki num den=true)(w v wv)(D:List BM)(Y)(Z:w.ownsRow 0 202 3 v D.length (AR D))(hw:w.ownsRow 0 2 1 wv Y.length (BG Y))(N:Nat)(hN:N<=100000)(H:Cv N D)(hs:BO D<=50000)(hf:Y.length<16):
  C prog 81 #[.agg #[I U num,I U den],v,wv] w (UR num den w D Y):=by
 have BR:D.length<=50000:=by have:=Cj D H;omega
 have b0:B w.heap.size w (w.alloc (.cells #[I U num,I U den] 25)):=Za;have x0:AI (w.alloc (.cells #[I U num,I U den] 25)) w.heap.size #[I U num,I U den] 25:=AI.newAt rfl;have Av:=RI (w.alloc (.cells #[I U num,I U den] 25)) num den F;obtain⟨A,c,rfl⟩:=AF Z;obtain⟨A2,c2,rfl⟩:=AF hw;obtain⟨m,hm⟩:∃m,m=D.length:=⟨_,rfl⟩;obtain⟨Q,Aa⟩:∃Q,Q=Y.length:=⟨_,rfl⟩;obtain⟨T,hT⟩:∃T,T=BO D:=⟨_,rfl⟩;have d:=Zh (Zi Z (Zi hm (Zi H hT)));have HW:=Zh (Zi hw Aa);have HG:=Zh F;have j:=Zh (λW (b:B w.heap.size w W)=>MG W 0 _ D (AE Z b λg G=>(Z.lt g G).2) (by omega) (by omega));have s:=Zh (λW (b:B w.heap.size w W)=>Vc W N _ D (AE Z b λg G=>(Z.lt g G).2) (by omega) (by omega) H (by omega));have AA:=Zh (λW (b:B w.heap.size w W)=>IU W _ D (AE Z b λg G=>(Z.lt g G).2) (by omega));have Ab:=Zh (λW (b:B w.heap.size w W)=>IV W _ Y (AE hw b λg G=>(hw.lt g G).2) (by omega));rw[<-hm]at j s AA BR⊢;rw[<-Aa]at Ab hf⊢;rw[<-hT]at j hs;have K:=Zh (Zi b0 x0);clear Z hw hm Aa hT H b0 x0 F;go_enter func81,ntmps81;go_wp2_with fail;refine Av.mono ?_;rintro e w1 ⟨sb,rfl,G1,b1,BA⟩;have L1:de num den w w.heap.size sb w1:=⟨G1.blk,K.out.2.below b1 K.out.2.lt,K.out.1.trans (b1.mono K.out.1.size),by have:=K.out.1.size;omega⟩;have Ap:=j.out w1 L1.below;have A5:=Zh L1
 clear Av G1 b1 BA L1 K j;go_wp2_with fail;refine Ap.mono ?_;rintro e w2 ⟨rfl,b2⟩;have L2:=A5.out.next b2;have e1:U.wrap (Q:Int)=(Q:Int):=by rw[Pa];omega
 have L3:=L2.next ((B.refl w2.heap.size w2).alloc (E _) (.cells #[I U T,I U Q] 23));have Al:=λW b h0 h1=>Az W b T Q (by omega) h0 h1;have A4:=s.out _ L3.below;have Ax:=Zh L3;clear Ap b2 A5 L2 L3 s;go_wp2_with fail;refine(Al _ _ (by simp) (by simp)).mono ?_;rintro e w3 ⟨rfl,rfl⟩;clear Al e1;go_wp2_with fail;refine A4.mono ?_;rintro e w4 ⟨⟨b,rfl⟩,b4⟩;have L4:=Ax.out.next b4;have o:=Zh L4;have f:=MA num den T w4 HG.out (by omega);have k0:w4.cell? ⟨w.heap.size,0,none⟩=S (I U num):=L4.bx.cell rfl;have k1:w4.cell? ⟨w.heap.size,1,none⟩=S (I U den):=L4.bx.cell rfl;have kl:=L4.bx.lt;have BX:¬(16:Int)<=(Q:Int):=by omega
 have Ac :¬16<=Q:=by omega
 generalize ED num den T=lim at f;clear A4 b4 Ax L4;cases b with
 |false=>
  have HF:=Zh (show UR num den w D Y (R (.tuple #[P none,I J 1])) w4 from⟨none,1,rfl,o.out.below,λh=>by cases h⟩);clear f k0 k1 kl;go_wp2_with fail;go_ret2;exact HF.out
 |true=>
  go_wp2_with fail;refine f.mono ?_;rintro e w5 ⟨rfl,b5⟩;have Ar:=Zh (o.out.next b5);clear f b5 k0 k1 kl o BX Ac;go_wp2_with fail;go_loopg [56] m (λg i wx=>∃q:Nat,i=I J q/\q<=m/\m-q<=g/\de num den w w.heap.size sb wx);case atStart=>exact⟨0,rfl,NW _,E _,Ar.out⟩
  case round=>
   clear Ar;rename World=>wx;obtain⟨q,rfl,hq,G,L⟩:=hrel;by_cases BQ:q<m
   ·have g1:(q:Int)<(m:Int):=by omega
    have p:q<D.length:=by rw[<-d.out.2.1];exact BQ
    rcases AH d.out.1 with⟨_,Bt,_⟩|⟨g0,Bs,hv,_,_,_,Bb⟩
    ·omega
    simp only[V.slice.injEq]at hv;obtain⟨rfl,-,rfl⟩:=hv;have k:=AE d.out.1 L.below λg G=>(d.out.1.lt g G).2;rw[<-d.out.2.1]at k;obtain⟨p0,p1,p2⟩:=BC k d.out.2.1 q p;have F:=(d.out.2.2.1 _ (RR p)).2.2;generalize D[q]'p=x at p0 p1 p2 F;obtain⟨a,ha⟩:∃a,a=x.2.1:=⟨_,rfl⟩;obtain⟨b,hb⟩:∃b,b=x.2.2:=⟨_,rfl⟩;obtain⟨X,hX⟩:∃X,X=x.1:=⟨_,rfl⟩;rw[<-hX]at p0;rw[<-ha]at p1 F;rw[<-hb]at p2 F;obtain⟨u,hu⟩:∃u,u=a+b:=⟨_,rfl⟩;have e1:U.wrap ((a:Int)+(b:Int))=(u:Int):=by rw[Pa];omega
    have A0:=Zh (L.next ((B.refl wx.heap.size wx).alloc (E _) (.cells #[I J X,I U a,I U b] 202)));have hR:=L.below;clear L k ha hb hX hu F hR;by_cases Ba:lim<u
    ·have g2:(lim:Int)<(u:Int):=by omega
     have HF:=Zh (show UR num den w D Y (R (.tuple #[P none,I J 1])) (wx.alloc (.cells #[I J X,I U a,I U b] 202))from⟨none,1,rfl,A0.out.below,λh=>by cases h⟩);go_wp2_with fail;go_ret2;exact HF.out
    ·have g2:¬(lim:Int)<(u:Int):=by omega
     go_wp2_with fail;go_roundg (m-(q+1));case measure=>omega
     exact⟨q+1,by go_num,by omega,E _,A0.out⟩
   ·have g1:¬(q:Int)<(m:Int):=by omega
    have A9:=AA.out wx L.below;have HL:=Zh L;clear L AA;go_wp2_with fail;refine A9.mono ?_;rintro e w6 ⟨v1,rfl,o1,b6⟩;have A3:=Ab.out w6 (HL.out.next b6).below;obtain⟨A6,k6,rfl⟩:=AF o1;have O:=Zh (Zi o1 b6);clear A9 o1 b6 Ab;go_wp2_with fail;refine A3.mono ?_;rintro e w7 ⟨v2,rfl,o2,b7⟩;have e7:U.wrap ((T:Int)+(Q:Int))=((T+Q:Nat):Int):=by rw[Pa];omega
    have Aw:=HL.out.fin (O.out.2.trans (b7.mono O.out.2.size)) (by rw[<-d.out.2.1];exact AE O.out.1 b7 λg G=>(O.out.1.lt g G).2) (by rw[<-HW.out.2];exact AO o2 λg G=>ag O.out.2.size (o2.lt g G).1) (I U ((T:Int)+(Q:Int))) (BO D+Y.length) (by rw[<-d.out.2.2.2,<-HW.out.2];simp);obtain⟨A7,k7,rfl⟩:=AF o2;obtain⟨⟨y2,y3,y4,z2,z3,z4,yl⟩,hf1,A8,Ay⟩:=Aw;have HF:=Zh (show UR num den w D Y (R (.tuple #[P (S ⟨sb,0,none⟩),I J 0])) (((w7.setCell ⟨sb,2,none⟩ (.slice A6 m k6)).setCell ⟨sb,3,none⟩ (.slice A7 Q k7)).setCell ⟨sb,4,none⟩ (I U ((T:Int)+(Q:Int))))from
     ⟨_,0,rfl,A8,λ_=>⟨sb,_,_,rfl,hf1,Ay⟩⟩)
    clear A3 o2 b7 O HL hf1 A8 Ay e7;go_wp2_with fail;go_ret2;exact HF.out
theorem CO:∀(l:List Int),(∀x∈l,Am x)->(BP l).length<=10*l.length
 | [],_=>by simp[BP]
 |x::l,h=>by
  have D:=CO l λy F=>h y (gQ _ F)
  have G:=AC (AX x) (Ao x (h x (gR ..))).2
  unfold BP at D⊢
  rw[bh,Q0,ej]
  omega
structure eg(w:World)(eb:Nat)(xs:List Int)(q:Nat)(A:Option Addr)(c:Nat)(r:List UInt8)(W:World):Prop where
 eye:CZ W eb (BP (xs.drop q)++r)
 own:W.ownsRow w.heap.size 2 1 (L A q c) q (BG (xs.take q))
 away:AD (λk=>k=eb) w W
section
variable {w:World} {eb:Nat} {xs:List Int} {q:Nat} {A:Option Addr} {c:Nat} {r:List UInt8} {W W' W1:World}
theorem eg.look{s}(h:eg w eb xs q A c r W)(e:CZ W' eb s)(a:AD (λk=>k=eb) W W')(D:eb<w.heap.size):CZ W' eb s/\W'.ownsRow w.heap.size 2 1 (L A q c) q (BG (xs.take q))/\AD (λk=>k=eb) w W' :=
 ⟨e,AU h.own a λg F G =>by have:=(h.own.lt g F).1;omega,h.away.trans' a (λ_ _ h=>h) (λ_ _ h=>h)⟩
end
theorem RN(w eb xs r)(h:CZ w eb (BP xs++r))(hI:∀x∈xs,Am x)(hn:xs.length<=1000)(hs:r.length<=900000000):
  C prog 82 #[P (some ⟨eb,0,N⟩),I J xs.length] w λe w' =>∃v,e=R v/\w'.ownsRow w.heap.size 2 1 v xs.length (BG xs)/\CZ w' eb r/\AD (λk=>k=eb) w w' :=by
 have u:=AI.lt h;have Y:=Zh (show eg w eb xs 0 N 0 r w from⟨by simpa using h,W.ownsRow_nil _ _ _ _,AD.refl _ _⟩);obtain⟨m,hm⟩:∃m,m=xs.length:=⟨_,rfl⟩;have O:=Zh (Zi hm hI);rw[<-hm]at hn⊢;clear h hm hI;go_enter func82,ntmps82;go_wp2_with fail;go_loopg [5,8] m (λg s i Q=>∃(q:Nat) (A:Option Addr) (c:Nat),i=I J q/\q<=m/\m-q<=g/\s=L A q c/\eg w eb xs q A c r Q);case atStart=>exact⟨0,N,0,rfl,NW _,E _,rfl,Y.out⟩
 case round=>
  clear Y;rename W=>Q;obtain⟨q,A,c,rfl,hq,hg,rfl,S⟩:=hrel;by_cases p:q<m
  ·have g1:(q:Int)<(m:Int):=by omega
   have D:q<xs.length:=by rw[<-O.out.1];exact p
   have H:xs.take (q+1)=xs.take q++ [xs[q]'D]:=fa D;have a:BP (xs.drop q)++r=AK (AX (xs[q]'D))++(BP (xs.drop (q+1))++r):=by
    rw[<-List.getElem_cons_drop D];unfold BP;rw[bh,fj]
   have o:=O.out.2 _ (RR D);have j:=CO (xs.drop (q+1)) λy hy=>O.out.2 y (List.mem_of_mem_drop hy);have Aa:(xs.drop (q+1)).length<=1000:=by rw[List.length_drop];have:=O.out.1;omega
   have d:=S.eye;rw[a]at d;generalize xs[q]'D=x at H d o;have hr:=DD Q eb x _ d o (by rw[Q0];omega);have HT:=Zh H;have HS:=Zh S;clear H a o j Aa d S;go_wp2_with fail;refine hr.mono ?_;rintro e K ⟨rfl,E2,A2⟩;obtain⟨E3,o3,A3⟩:=HS.out.look E2 A2 u;have Z:=Hd K eb _ E3;have F:=Zh (Zi E3 (Zi o3 A3));clear hr E2 A2 E3 o3 A3 HS;go_wp2_with fail;refine Z.mono ?_;rintro e w3 ⟨rfl,rfl⟩;have b4:B K.heap.size K (K.alloc (.cells #[I J x] 2)):=Za;have f:=Zh (AE F.out.2.1 b4 λg hg=>(F.out.2.1.lt g hg).2);have G:=Zh (show CZ (K.alloc (.cells #[I J x] 2)) eb (BP (xs.drop (q+1))++r)/\AD (λk=>k=eb) w (K.alloc (.cells #[I J x] 2))from⟨AI.alloc F.out.1 _,F.out.2.2.alloc _⟩);have hB:w.heap.size<=(K.alloc (.cells #[I J x] 2)).heap.size:=G.out.2.size;have HB:=Zh hB;have Ab:q<=1000000:=by omega
   clear Z b4 hB;go_wp2_with(at_builtin;refine KL rfl _ _ rfl f.out HB.out Ab rfl rfl (AI.newAt rfl) ?_);intro A' c' w5 o5 g5;have AA:=Zh (show eg w eb xs (q+1) A' c' r w5 from by
    have a5:AD (λk=>(L A q c).ownBlock=some k) _ w5:=AD.of_grown g5 λk hk=>hk;refine⟨AI.away G.out.1 a5 λe=>by have:=(f.out.lt eb e).1;omega,by rw[HT.out];exact o5,G.out.2.trans' a5 (λ_ _ h=>h) λk hk e=> ?_⟩;have:=(f.out.lt k e).1;omega)
   clear o5 g5 f G F HB;go_wp2_with fail;go_roundg (m-(q+1));case measure=>omega
   exact⟨q+1,A',c',by go_num,by omega,E _,rfl,AA.out⟩
  ·have g1:¬(q:Int)<(m:Int):=by omega
   obtain rfl:q=m:=by omega
   have HF:=Zh (show Q.ownsRow w.heap.size 2 1 (L A q c) q (BG xs)/\CZ Q eb r/\AD (λk=>k=eb) w Q from by
    obtain⟨h1,h2,h3⟩:=S;rw[List.drop_of_length_le (by have:=O.out.1;omega)]at h1;rw[fp (by have:=O.out.1;omega)]at h2;exact⟨h2,h1,h3⟩)
   clear S;go_wp2_with fail;go_ret;exact⟨_,rfl,HF.out⟩
theorem Y5{H o a K Q}{D:Prop}(O:o.guard=N)(s x)(p:o.op=.call {callee:=.builtin .append,args:= #[s,x],argTypes:= #[186,186]})
  {W B n c}{l:List Af}{A}(G:W.ownsRow B 207 3 (L A n c) n (Ad l))(hB:B<=W.heap.size)(f:n<=100000){X:Af}{b}(hs:a.eval s=L A n c)(hx:a.eval x=L (S ⟨b,0,N⟩) 1 1)(hb:AI W b #[I U X.1,I J X.2.1,I J X.2.2] 207)
  (h:∀A' c' Y,Y.ownsRow B 207 3 (L A' (n+1) c') (n+1) (Ad (l++ [X]))->W.grownBy Y (L A n c).ownBlock->K (a.put o.dst (L A' (n+1) c')) Y):
  if Region.wanted o (yielded H a.tmps)=true then Oper.wp prog o a W K Q else D:=by
 have m:Region.wanted o (yielded H a.tmps)=true:=by simp[Region.wanted,O]
 rw[if_pos m];obtain⟨k,hi,Z,d,e⟩:=info_parts FM;refine wp_append_own W s x 186 p B 207 k _ 3 24 underlying186 hi Z d e rfl (by decide) _ _ _ hs G ⟨b,0,N⟩ 1 1 (Ci X) hx rfl ?_ ?_ (by unfold maxLen;omega) (by omega) hB ?_
 ·intro j u hj;rw[bw,dT];exact hb.cell (by simpa[Ci]using hj)
 ·intro u g;simp[Ci]at g;rcases g with rfl|rfl|rfl<;>rfl
 intro v' w' F i _;obtain⟨A',c',rfl⟩:=AF F;rw[show Ad l++Ci X=Ad (l++ [X]) by rw[GJ];simp[Ad]]at F;exact h A' c' w' F i
structure LdS(most:Nat)(w:World)(sb:Nat)(v:V)(l:List Af)(t:Nat)(W:World):Prop where
 lm:I3 most W sb v l t
 below:B w.heap.size w W
 nsb:w.heap.size<=sb
 nv:∀g,v.ownBlock=S g->w.heap.size<=g
structure PD(most:Nat)(w:World)(sb:Nat)(v:V)(l:List Af)(t:Nat)(pb:Nat)(X:Af)(W:World):Prop extends LdS most w sb v l t W where
 box:AI W pb #[I U X.1,I J X.2.1,I J X.2.2] 207
 nb:v.ownBlock≠S pb
section
variable {most:Nat} {w W W' :World} {sb:Nat} {v:V} {l:List Af} {t pb:Nat} {X:Af}
theorem LdS.next(h:LdS most w sb v l t W)(b:B W.heap.size W W'):LdS most w sb v l t W' :=⟨h.lm.next b,h.below.trans (b.mono h.below.size),h.nsb,h.nv⟩
theorem PD.next(h:PD most w sb v l t pb X W)(b:B W.heap.size W W'):PD most w sb v l t pb X W' :=⟨h.toLdS.next b,h.box.below b h.box.lt,h.nb⟩
theorem PD.drew(h:PD most w sb v l t pb X W):PD most w sb v l t pb X W.drew:=h.next (B.refl _ _).drew
theorem PD.cells(h:PD most w sb v l t pb X W):W.cell? ⟨pb,0,N⟩=S (I U X.1)/\W.cell? ⟨pb,1,N⟩=S (I J X.2.1)/\W.cell? ⟨pb,2,N⟩=S (I J X.2.2):=⟨h.box.cell rfl,h.box.cell rfl,h.box.cell rfl⟩
theorem PD.ne(h:PD most w sb v l t pb X W):sb≠pb:=h.lm.blk.ne h.box (by decide)
theorem PD.grown{A' c' D}(h:PD most w sb v l t pb X W){O F}(d:D =(l++ [X]).length)(o:F.ownsRow w.heap.size 207 3 (L A' D c') D (Ad (l++ [X])))(g:(W.alloc O).grownBy F v.ownBlock):
  AI F sb #[I J most,v,I U t] 188/\LdS most w sb (L A' D c') (l++ [X]) (t+X.1) ((F.setCell ⟨sb,1,N⟩ (L A' D c')).setCell ⟨sb,2,N⟩ (I U ((t+X.1:Nat):Int)))/\LdS most w sb (L A' D c') (l++ [X]) (t+X.1) ((F.setCell ⟨sb,2,N⟩ (I U ((t+X.1:Nat):Int))).setCell ⟨sb,1,N⟩ (L A' D c')):=by
 have a1:AD (λk=>v.ownBlock=S k) (W.alloc O) F:=AD.of_grown g λk Q=>Q;have hb:AI F sb #[I J most,v,I U t] 188:=(h.lm.blk.alloc O).away a1 h.lm.ne;have G:(L A' D c').ownBlock≠S sb:=λe=>by
  obtain⟨a,f⟩:=AJ o e;exact(f.ne hb (by decide)) rfl
 have K:∀g,(L A' D c').ownBlock=S g->w.heap.size<=g:=λg Z=>(o.lt g Z).1;have H:B w.heap.size w F:=h.below.trans ((((B.refl W.heap.size W).alloc (E _) O).mono h.below.size).trans (a1.below (by have:=h.below.size;simp;omega) λk Q e=>by have:=h.nv k e;omega));have Y :F.ownsRow 0 207 3 (L A' D c') (l++ [X]).length (Ad (l++ [X])):=by rw[<-d];exact AO o λ_ _=>NW _
 refine⟨hb,⟨⟨(hb.set 1 _).set 2 _,AN (AN Y ⟨sb,1,N⟩ _ G) ⟨sb,2,N⟩ _ G⟩,(H.setCell (p:=⟨sb,1,N⟩) h.nsb _).setCell (p:=⟨sb,2,N⟩) h.nsb _,h.nsb,K⟩,⟨⟨(hb.set 2 _).set 1 _,AN (AN Y ⟨sb,2,N⟩ _ G) ⟨sb,1,N⟩ _ G⟩,(H.setCell (p:=⟨sb,2,N⟩) h.nsb _).setCell (p:=⟨sb,1,N⟩) h.nsb _,h.nsb,K⟩⟩
end
def eh(most:Nat)(w:W)(l:List Af)(e:Ending)(w' :W):Prop:=∃(po:Option Addr) (code:Int),e=R (T #[P po,I J code])/\B w.heap.size w w' /\(code=0->∃sb v,po=S ⟨sb,0,N⟩/\LdS most w sb v l (Bl l) w' /\l.length<=most)
theorem bP(most:Nat)(h1:2<=most)(h2:most<=64)(w va)(l:List Af)(Ay:w.ownsRow 0 207 3 va l.length (Ad l))(hl:l.length<=64)(o:∀y∈l,Kg y)(hT:Bl l<=9223372036854775807):
  Calls prog 84 #[I J most,va] w (eh most w l):=by
 have BA:=NJ w most h1 h2;obtain⟨A0,c0,rfl⟩:=AF Ay;obtain⟨m,A4⟩:∃m,m=l.length:=⟨_,rfl⟩;have Al:=Zh Ay;have HG:=Zh o;have O:=Zh (Zi A4 hT);rw[<-A4]at hl⊢;have Ab:=Zh (show LdS most w w.heap.size (L N 0 0) (l.take 0) (Bl (l.take 0)) (w.alloc (.cells #[I J most,L N 0 0,I U 0] 188))from⟨⟨AI.newAt rfl,World.ownsRow_nil _ _ _ _⟩,Za,E _,λg o=>by cases o⟩);clear Ay o hT A4 h1;go_enter func84,ntmps84;go_wp2_with fail;refine BA.mono ?_;rintro e w1 ⟨rfl,rfl⟩;clear BA;go_wp2_with fail;generalize w.alloc (.cells #[I J most,L N 0 0,I U 0] 188)=w1 at Ab⊢;generalize hsb:w.heap.size=sb at Ab⊢;have C1:=Zh hsb;clear hsb;go_loopg [22] m (λg i G=>∃(q:Nat) (A:Option Addr) (c:Nat),i=I J q/\q<=m/\m-q<=g/\LdS most w sb (L A q c) (l.take q) (Bl (l.take q)) G);case atStart=>exact⟨0,N,0,rfl,NW _,E _,Ab.out⟩
 case round=>
  clear Ab;rename World=>G;obtain⟨q,A,c,rfl,hq,o,S⟩:=hrel;by_cases B2:q<m
  ·have g1:(q:Int)<(m:Int):=by omega
   have d:q<l.length:=by rw[<-O.out.1];exact B2
   have Bt:=S.below;have A5:=AE Al.out Bt λg o=>(Al.out.lt g o).2;rcases AH Al.out with⟨_,C0,_⟩|⟨g0,C3,hv,_,_,_,Cp⟩
   ·omega
   simp only[L.injEq]at hv;obtain⟨rfl,-,rfl⟩:=hv;have K:=Al.out;rw[<-O.out.1]at K A5;obtain⟨p0,p1,p2⟩:=Bq A5 O.out.1 q d;have f:l.take (q+1)=l.take q++ [l[q]'d]:=fa d;have A7:=Ex l q d;have B1:=Fv l (q+1);have AA:=HG.out _ (RR d);obtain⟨X,hX⟩:∃X,X=l[q]'d:=⟨_,rfl⟩;rw[<-hX]at p0 p1 p2 f A7 AA;have Aa:=Zh (Zi f (Zi A7 AA));have Bu:Bl (l.take q)+X.1<=9223372036854775807:=by have:=O.out.2;omega
   have Ax:¬(X.1:Int)=0:=by have:=AA.1;omega
   have Ap:=Zh S;have Ck:=E G.heap.size;clear S Bt A5 hX f A7 B1 AA;go_upto_region 6 with fail;go_cut [8,9]from 24 to 26 (λi p wy=>i=I J q/\∃pb,p=P (some ⟨pb,0,N⟩)/\PD most w sb (L A q c) (l.take q) (Bl (l.take q)) pb X wy);case first=>
    have HK:=Zh (show PD most w sb (L A q c) (l.take q) (Bl (l.take q)) G.heap.size X (G.alloc (.cells #[I U X.1,I J X.2.1,I J X.2.2] 207))from⟨Ap.out.next (Za),AI.newAt rfl,λe=>by have:=(Ap.out.lm.own.lt _ e).2;omega⟩);clear Ap K;go_wp2_with fail;go_meet;exact⟨rfl,_,rfl,HK.out⟩
   case rest=>
    obtain⟨rfl,pb,rfl,H4⟩:=hcut;rename World=>w4;have HX:=Zh H4;obtain⟨Z,a,Q⟩:=H4.cells;obtain⟨d0,d1,d2,e1,e2,dl⟩:=H4.lm.cells;clear p0 p1 p2 H4 Ap;obtain⟨T,A3⟩:∃T,T=Bl (l.take q):=⟨_,rfl⟩;rw[<-A3]at d2 Bu;have Bb:=Zh A3;have A6:=λW b h0 h1=>Az W b T X.1 Bu h0 h1;clear A3;go_upto_region 7 with fail;go_cut [10,11]from 27 to 37 (λn ok wy=>n=I U ((T+X.1:Nat):Int)/\ok=.bool true/\PD most w sb (L A q c) (l.take q) (Bl (l.take q)) pb X wy);case first=>
     have HK:=Zh (HX.out.drew.next ((B.refl _ _).alloc (E _) (.cells #[I U T,I U X.1] 23)));clear HX K;go_region_with(go_at_call 90;refine(A6 _ _ (by simp) (by simp)).mono ?_;rintro e w5 ⟨rfl,rfl⟩);all_goals(
      go_wp2_with fail;go_meet;exact⟨rfl,rfl,HK.out⟩)
    case rest=>
     obtain⟨rfl,rfl,H5⟩:=hcut;rename World=>w5;clear HX;have HX:=Zh H5;clear Z a Q d0 d1 d2 e1 e2 dl A6 H5;go_upto_region 8 with fail;go_cut [65]from 38 to 65 (λr wy=>∃b:Bool,r=.bool b/\PD most w sb (L A q c) (l.take q) (Bl (l.take q)) pb X wy);case first=>
      have f0:((X.1:Int)==0)=false:=by simp;omega
      by_cases u:X.2.2<X.2.1
      ·have f1:decide (X.2.2<X.2.1)=true:=by simp[u]
       clear u Ax;refine AG (C:=PD most w sb (L A q c) (l.take q) (Bl (l.take q)) pb X) (by kernel_rfl) (by kernel_rfl) HX.out.drew ?_;repeat go_big_quiet_step(exact λ_=>rfl)
       go_big_quiet_want;refine⟨I U X.1,λG D=> ?_,?_⟩
       ·obtain⟨Z,a,Q⟩:=D.cells;go_simp
       go_big_quiet_on;simp only[V0,Zp,Zq,Zr];repeat go_big_quiet_step(exact λ_=>rfl)
       go_big_quiet_want;refine⟨I J X.2.1,λG D=> ?_,?_⟩
       ·obtain⟨Z,a,Q⟩:=D.cells;go_simp
       go_big_quiet_on;simp only[V0,Zp,Zq,Zr];repeat go_big_quiet_step(exact λ_=>rfl)
       go_big_quiet_want;refine⟨I J X.2.2,λG D=> ?_,?_⟩
       ·obtain⟨Z,a,Q⟩:=D.cells;go_simp
       go_big_quiet_on;simp only[V0,Zp,Zq,Zr];repeat go_big_quiet_step(exact λ_=>rfl)
       refine wpQuiet_nil ?_;intro w6 H;have F:=Zh H;clear H HX;go_wp2_with fail;go_meet;exact⟨_,rfl,F.out⟩
      ·have f1:decide (X.2.2<X.2.1)=false:=by simp[u]
       by_cases Cs:q=0
       ·have f2:decide ((0:Int)<(q:Int))=false:=by simp;omega
        have B5:decide (0<q)=false:=by simp;omega
        clear u Ax;refine AG (C:=PD most w sb (L A q c) (l.take q) (Bl (l.take q)) pb X) (by kernel_rfl) (by kernel_rfl) HX.out.drew ?_;repeat go_big_quiet_step(exact λ_=>rfl)
        go_big_quiet_want;refine⟨I U X.1,λG D=> ?_,?_⟩
        ·obtain⟨Z,a,Q⟩:=D.cells;go_simp
        go_big_quiet_on;simp only[V0,Zp,Zq,Zr];repeat go_big_quiet_step(exact λ_=>rfl)
        go_big_quiet_want;refine⟨I J X.2.1,λG D=> ?_,?_⟩
        ·obtain⟨Z,a,Q⟩:=D.cells;go_simp
        go_big_quiet_on;simp only[V0,Zp,Zq,Zr];repeat go_big_quiet_step(exact λ_=>rfl)
        go_big_quiet_want;refine⟨I J X.2.2,λG D=> ?_,?_⟩
        ·obtain⟨Z,a,Q⟩:=D.cells;go_simp
        go_big_quiet_on;simp only[V0,Zp,Zq,Zr];repeat go_big_quiet_step(exact λ_=>rfl)
        refine wpQuiet_nil ?_;intro w6 H;have F:=Zh H;clear H HX;go_wp2_with fail;go_meet;exact⟨_,rfl,F.out⟩
       ·have f2:decide ((0:Int)<(q:Int))=true:=by simp;omega
        have B5:decide (0<q)=true:=by simp;omega
        have B0:q-1<l.length:=by omega
        obtain⟨Y,hY⟩:∃Y,Y=l[q-1]'B0:=⟨_,rfl⟩;have f3:J.wrap ((q:Int)-1)=((q-1:Nat):Int):=by rw[IntKind.wrap_i64];omega
        have f4:((q-1:Nat):Int)<(m:Int):=by omega
        have HY:=Zh (show∀W,B w.heap.size w W->W.cell? ⟨g0,(q-1)*3,N⟩=some (I U Y.1)/\W.cell? ⟨g0,(q-1)*3+1,N⟩=some (I J Y.2.1)/\W.cell? ⟨g0,(q-1)*3+2,N⟩=some (I J Y.2.2)from λW b=>by
         rw[hY];exact Bq (AE K b λg o=>(K.lt g o).2) O.out.1 (q-1) B0)
        have Ba:=λW=>Jd Y X W;generalize X8 Y X=z at Ba;clear u Ax hY K;refine AG (C:=PD most w sb (L A q c) (l.take q) (Bl (l.take q)) pb X) (by kernel_rfl) (by kernel_rfl) HX.out.drew ?_;repeat go_big_quiet_step(exact λ_=>rfl)
        go_big_quiet_want;refine⟨I U X.1,λG D=> ?_,?_⟩
        ·obtain⟨Z,a,Q⟩:=D.cells;go_simp
        go_big_quiet_on;simp only[V0,Zp,Zq,Zr];repeat go_big_quiet_step(exact λ_=>rfl)
        go_big_quiet_want;refine⟨I J X.2.1,λG D=> ?_,?_⟩
        ·obtain⟨Z,a,Q⟩:=D.cells;go_simp
        go_big_quiet_on;simp only[V0,Zp,Zq,Zr];repeat go_big_quiet_step(exact λ_=>rfl)
        go_big_quiet_want;refine⟨I J X.2.2,λG D=> ?_,?_⟩
        ·obtain⟨Z,a,Q⟩:=D.cells;go_simp
        go_big_quiet_on;simp only[V0,Zp,Zq,Zr];repeat go_big_quiet_step(exact λ_=>rfl)
        go_big_quiet_want;refine⟨.agg #[I U Y.1,I J Y.2.1,I J Y.2.2],λG D=> ?_,?_⟩
        ·obtain⟨y0,y1,y2⟩:=HY.out G D.below;go_simp
        go_big_quiet_on;simp only[V0,Zp,Zq,Zr];repeat go_big_quiet_step(exact λ_=>rfl)
        go_big_quiet_want;refine⟨.agg #[I U X.1,I J X.2.1,I J X.2.2],λG D=> ?_,?_⟩
        ·obtain⟨Z,a,Q⟩:=D.cells;go_simp
        go_big_quiet_on;simp only[V0,Zp,Zq,Zr];repeat go_big_quiet_step(exact λ_=>rfl)
        go_big_quiet_want;go_big_quiet_op;refine⟨I J z,λG D=> ?_,?_⟩
        ·exact(Ba G).mono λ_ _ hm=>⟨hm.1,D.next hm.2⟩
        go_big_quiet_on;repeat go_big_quiet_step(exact λ_=>rfl)
        refine wpQuiet_nil ?_;intro w6 H;have F:=Zh H;clear H HX;go_wp2_with fail;go_meet;exact⟨_,rfl,F.out⟩
     case rest=>
      obtain⟨b,rfl,H⟩:=hcut;rename World=>w6;have F:=Zh H;clear HX;cases b with
      |true=>
       clear H K;go_wp2_with fail;go_ret2;exact⟨N,1,rfl,F.out.below,λh=>by cases h⟩
      |false=>
       obtain⟨Z,a,Q⟩:=H.cells;obtain⟨d0,d1,d2,e1,e2,dl⟩:=H.lm.cells;have CL:=H.ne;have A6:=H.box.lt;rw[<-Bb.out]at d2;have Aw:(l.take q).length=q:=by rw[List.length_take];omega
       have ho:=H.lm.own;rw[Aw]at ho;have BX:=AO (base' :=w.heap.size) ho H.nv;have Ac:=Zh (Zi BX Aw);clear H ho BX Aw K;go_upto_region 10 with fail;have Bs:q<=100000:=by omega
       have B4:=Zh (ag (show w.heap.size<=w6.heap.size from F.out.below.size) (E _));have Av:w.heap.size<=(w6.drew.alloc (.cells #[I U X.1,I J X.2.1,I J X.2.2] 207)).heap.size:=by have:=B4.out;simp;omega
       have s:(w6.drew.alloc (.cells #[I U X.1,I J X.2.1,I J X.2.2] 207)).ownsRow w.heap.size 207 3 (L A q c) q (Ad (l.take q)):=AE Ac.out.1 ((B.refl w6.heap.size w6).drew.alloc (E _) _) λg o=>(Ac.out.1.lt g o).2;have A8:=Zh s;have Ar:AI (w6.drew.alloc (.cells #[I U X.1,I J X.2.1,I J X.2.2] 207)) w6.heap.size #[I U X.1,I J X.2.1,I J X.2.2] 207:=AI.newAt rfl;have Bw:=Zh Ar;have A9:=Zh Av;have e9:q+1=(l.take q++ [X]).length:=by rw[Q0,Ac.out.2];rfl
       have B3:=Zh e9;have k:=Zh (show∀W A' c',LdS most w sb (L A' (q+1) c') (l.take q++ [X]) (Bl (l.take q)+X.1) W->LdS most w sb (L A' (q+1) c') (l.take (q+1)) (Bl (l.take (q+1))) W from λW A' c' h=>by rw[Aa.out.1]at*;rw[<-Aa.out.1,Aa.out.2.1,Aa.out.1];exact h);clear s Ar Av e9;go_region_law (refine Y5 rfl _ _ rfl A8.out A9.out Bs rfl rfl Bw.out ?_;rintro A' c' w9 o9 g9;obtain⟨B9,L9,M9⟩:=F.out.drew.grown B3.out o9 g9;have t0:=B9.cell (j:=1) rfl;have t1:=B9.cell (j:=2) rfl;have t2:=B9.frozen 1;have t3:=B9.frozen 2;have BQ:=Zh (Zi L9 M9);clear B9 L9 M9 o9 g9);all_goals(
        have HZ:=Zh (k.out _ A' c' BQ.out.1);have BR:=Zh (k.out _ A' c' BQ.out.2);rw[<-Bb.out]at HZ BR;clear F Ac Z a Q d0 d1 d2 e1 e2 dl t0 t1 t2 t3;go_wp2_with fail;go_roundg (m-(q+1));case measure=>omega
        first
         |exact⟨q+1,A',c',by go_num,by omega,E _,HZ.out⟩
         |exact⟨q+1,A',c',by go_num,by omega,E _,BR.out⟩)
  ·have g1:¬(q:Int)<(m:Int):=by omega
   have Cr:q=m:=by omega
   have f:l.take q=l:=fp (by have:=O.out.1;omega);rw[f]at S;have HS:=Zh S;clear S f;by_cases C2:most<m
   ·have g2:(most:Int)<(m:Int):=by omega
    go_wp2_with fail;go_ret2;exact⟨N,1,rfl,HS.out.below,λh=>by cases h⟩
   ·have g2:¬(most:Int)<(m:Int):=by omega
    go_wp2_with fail;go_ret2;exact⟨_,0,rfl,HS.out.below,λ_=>⟨sb,_,rfl,HS.out,by have:=O.out.1;omega⟩⟩
end Go.Proofs.YtbejdajkkoapgaaGreatDoor
