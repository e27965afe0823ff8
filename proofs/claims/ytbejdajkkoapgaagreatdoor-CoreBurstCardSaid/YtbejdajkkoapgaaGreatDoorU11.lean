/-
  Lemmas and walks for coreBurst.proved, joined and squeezed by a program out of the loose texts Q8, Q9, M6, R1, R3, G7, G8, G9, GA. Conditions: each theorem states its own.
-/
import Derived.Test.YtbejdajkkoapgaaGreatDoorU10
import Derived.Test.YtbejdajkkoapgaaGreatDoorU09
import Derived.Deep.RegionLaw
set_option linter.all false
set_option maxRecDepth 100000
set_option maxHeartbeats 40000000
open Go.RowKit Go.Lib Go.Proofs.Tryz
open Go renaming Calls->C,Value->V,World->W
open Go.Act renaming put->NW
open Go.Addr renaming add_lit->gS
open Go.Ending renaming returned->R
open Go.IntKind renaming i64->J,u64->U,wrap_u64->RR
open Go.RowKit renaming Below->B
open Go.Value renaming int->I,pointer->P,slice->L,tuple->T
open Int renaming toNat_natCast->gT
open List renaming Pairwise.nil->fy,eq_nil_of_length_eq_zero->fa,getElem_mem->Q0,length_append->ag,length_singleton->fx,not_mem_nil->fj,pairwise_singleton->fk,take_of_length_le->aw,take_succ_cons->bw,take_succ_eq_append_getElem->ej,take_zero->dT
open Nat renaming add_assoc->V0,le_refl->E,le_trans->gQ,lt_of_lt_of_le->bh,mul_comm->gU,sub_self->fp,zero_add->fw,zero_le->Pa
open Option renaming map->gR,none->N,some->S,some.inj->es
namespace Go.Proofs.YtbejdajkkoapgaaGreatDoor
def Oy(wd:Nat)(word:Int)(vals:AM)(W:World)(db:Nat)(O:Nat->Prop):Prop:=
 ∃pb used rv rs lo hi,DN wd word W db pb used rv rs (BH vals) lo hi/\Bx (Bf rs)/\wS (Bf rs)=BH vals/\(∀x∈rs,x.2.length<wd)/\used<=64*BH vals+64/\Am lo/\Am hi/\O=EE db pb rv rs
theorem NQ(wd word):Cz (Oy wd word)where
 next:=by
  rintro W W' db O vals ⟨pb,used,rv,rs,lo,hi,h,H,D,M,F,K,Q,rfl⟩ b
  exact⟨pb,used,rv,rs,lo,hi,h.next b,H,D,M,F,K,Q,rfl⟩
 away:=by
  rintro W W' db O G vals ⟨pb,used,rv,rs,lo,hi,h,H,D,M,F,K,Q,rfl⟩ a n
  exact⟨pb,used,rv,rs,lo,hi,h.away a n,H,D,M,F,K,Q,rfl⟩
 lt:=by
  rintro W db O vals ⟨pb,used,rv,rs,lo,hi,h,H,D,M,F,K,Q,rfl⟩ k Y
  exact h.lt Y
 ty:=by
  rintro W db O vals ⟨pb,used,rv,rs,lo,hi,h,H,D,M,F,K,Q,rfl⟩ k Y e
  obtain⟨d,t,X,Z⟩:=h.typed Y
  refine⟨λh=>(X.ne h ?_) rfl,λh=>(X.ne h ?_) rfl,λh=>(X.ne h ?_) rfl⟩<;>rcases Z with rfl|rfl|rfl|rfl<;>decide
section
variable {wd:Nat} {word:Int} {w0 w10 w11 W:World} {O0:Nat->Prop} {tb pb us used:Nat} {rv:V} {g2 n2 cap2:Nat} {rs rs3:DZ} {t:Nat} {lo hi:Int}
theorem ER.st0(h:DN wd word W tb pb us rv rs t lo hi):ER wd word W (EE tb pb rv rs) tb pb us rv rs t lo hi W:=⟨h,IH.refl _ _⟩
theorem ER.andThen{W1 us' rv'}{D :DZ}{t' lo' hi'}(h:ER wd word w0 O0 tb pb us rv rs t lo hi W)(k:ER wd word W (EE tb pb rv rs) tb pb us' rv' D t' lo' hi' W1):ER wd word w0 O0 tb pb us' rv' D t' lo' hi' W1:=⟨k.rq,h.st.trans k.st⟩
theorem KN(D:ER wd word w0 O0 tb pb us (L (S ⟨g2,0,N⟩) n2 cap2) rs3 t lo hi w10)(K:n2=rs3.length)(j)(F:j<rs3.length){O H Y s}(ey:rs3[j]'F=(O,Y))(d:BD w11 H (Y++s))(X:w10.grownBy w11 O.ownBlock)(a:H.ownBlock=O.ownBlock\/H.ownBlock=S w10.heap.size):
  (w11.cell? ⟨tb,3,N⟩=S (L (S ⟨g2,0,N⟩) n2 cap2)/\w11.cell? ⟨g2,j,N⟩=S O/\tb<w11.heap.size/\g2<w11.heap.size)/\w11.frozen? ⟨g2,j,N⟩=false/\
  ER wd word w0 O0 tb pb us (L (S ⟨g2,0,N⟩) n2 cap2) (rs3.set j (H,Y++s)) t lo hi (w11.setCell ⟨g2,j,N⟩ H):=by
 have M:(rs3[j]'F).1=O:=by rw[ey]
 have G:AD (λk=>(rs3[j]'F).1.ownBlock=S k) w10 w11:=AD.of_grown X λk Q=>by rw[M];exact Q
 have f:=D.put rfl K j F G d (λk Q=>by
  rcases a with e|e
  ·exact .inl (by rw[M,<-e];exact Q)
  ·rw[e]at Q;have b:w10.heap.size=k:=by simpa using Q
   subst b;exact .inr ⟨λx hx y=>Nat.lt_irrefl _ ((D.rq.row x hx).lt y),D.st.away.size⟩)
 have i:=Q0 F;obtain⟨c0,c1,c2,c3,_,_,_,_,_,_,_,r⟩:=D.rq.cells;obtain⟨p0,p1,o⟩:=D.rq.at rfl K j F;have Z:¬(rs3[j]'F).1.ownBlock=S tb:=D.rq.row_tb i;have h:¬(rs3[j]'F).1.ownBlock=S g2:=D.rq.row_rv i rfl;refine⟨⟨(G.cell (p:=⟨tb,_,N⟩) r Z).trans c3,((G.cell (p:=⟨g2,_,N⟩) o h).trans p0).trans (by rw[M]),bh r G.size,bh o G.size⟩,?_,f⟩;obtain⟨z,u⟩:=AJ (AU D.rq.own G λg hg e=>D.rq.row_rv i hg e) (g:=g2) rfl;exact u.frozen _
theorem FSx(S:DN wd word W tb pb us (L (some ⟨g2,0,N⟩) n2 cap2) rs3 t lo hi)(F:n2=rs3.length)(j)(D:j<rs3.length){G K}(X:rs3[j]'D=(G,K)):
  (W.cell? ⟨tb,3,N⟩=some (L (some ⟨g2,0,N⟩) n2 cap2)/\W.cell? ⟨g2,j,N⟩=some G/\tb<W.heap.size/\g2<W.heap.size)/\BD W G K:=by
 obtain⟨a,b,c2,Y,_,_,_,_,_,_,_,O⟩:=S.cells;obtain⟨H,Z,Q⟩:=S.at rfl F j D;have M:=S.row _ (Q0 D);rw[X]at H M;exact⟨⟨Y,H,O,Q⟩,M⟩
end
theorem Jk(wd:Nat)(F:wd<=100)(w)(tb:Nat)(D:w.cell? ⟨tb,0,N⟩=S (I J wd)):
  C prog 105 #[P (S ⟨tb,0,N⟩)] w λe w' =>e=R (I U ((wd*1024:Nat):Int))/\w=w' :=by
 have G:tb<w.heap.size:=W.block_lt_of_cell? w _ D;go_enter func105,ntmps105;go_wp2_with fail;go_ret;refine⟨?_,rfl⟩;congr 2
theorem dY(wd)(h4:4<=wd)(B9:wd<=64)(word w)(vals:AM)(db O)(h:Oy wd word vals w db O)(hv:DK vals)(Cs:vals.length<30)(x:Int×Nat)(hx:Am x.1)(hc:x.2<=20):
  Calls prog 307 #[P (some ⟨db,0,N⟩),I J x.1,I U (x.2:Nat)] w (JY (Oy wd word) Hu w db O vals x):=by
 have h0:=h;obtain⟨pb,used,rv,rs,lo,hi,h,z,M,Aa,BA,AA,Ac,rfl⟩:=h;obtain⟨X,C⟩:=x;have B4:=Bo vals hv;by_cases hz:C=0
 ·subst hz;have hP:Hu (X,0)=false:=by unfold Hu;simp
  have a:=Zh (show JY (Oy wd word) Hu w db (EE db pb rv rs) vals (X,0) (R (I J 1)) w from⟨1,_,rfl,by rw[hP];simp,by rw[hP];exact h0,λ_ h=>.inl h,AD.refl _ _⟩);clear h h0 z M Aa BA AA Ac hP;go_enter func307,ntmps307;go_wp2_with fail;go_ret;exact a.out
 ·have hP:Hu (X,C)=true:=by unfold Hu;simp;omega
  have g1:((C:Int)==0)=false:=by simp[hz]
  have g2:¬((1024:Int)<(C:Int)):=by simp only at hc;omega
  obtain⟨t,ht⟩:∃t,t=BH vals:=⟨_,rfl⟩;have Q:=Zh (show BH (vals++ [(X,C)])=t+C by rw[ht,Cn];simp[BH]);rw[<-ht]at h M B4 BA;simp only at hx hc⊢;have C2:t<=600:=by omega
  obtain⟨mm,Bu⟩:∃mm,mm=wd*1024:=⟨_,rfl⟩;have g3:¬(((mm-t:Nat):Int)<(C:Int)):=by omega
  have g4:U.wrap ((mm:Int)-(t:Int))=((mm-t:Nat):Int):=by rw[RR];omega
  have Aw:=λW c0=>Jk wd (by omega) W db c0;rw[<-Bu]at Aw;obtain⟨c0,c1,c2,c3,c4,c5,c6,f3,f4,f5,f6,cl⟩:=h.cells;have HH:=Zh (Zi h (Zi z (Zi M (Zi Aa (Zi AA Ac)))));have HP:=Zh hP;have Ap:=Zh hx;clear h h0 z M Aa AA Ac hP ht hv Bu hx;go_enter func307,ntmps307;go_upto_region 7 with fail;go_quiet((go_at_call 105;refine Calls.quiet_of_same ((Aw _ (by simpa using c0)).mono λe w' hh=>⟨hh.1,hh.2.symm⟩)));have b1:B w.heap.size w (w.drewN nq):=⟨rfl,rfl,rfl,E _,λ_ _=>rfl⟩;have S1:=(ER.st0 HH.out.1).next b1;have Ar:=UJ (w.drewN nq) S1 X X;have A1:=Zh S1;generalize w.drewN nq=w1 at A1 Ar⊢;clear c0 c1 c2 c3 c4 c5 c6 f3 f4 f5 f6 cl Aw b1 S1;go_wp2_with fail;refine Ar.mono ?_;rintro e w2 ⟨rfl,G,H,f,r,S2⟩;have HI:=Zh (show Am G/\Am H from⟨by rcases f with rfl|rfl;exact HH.out.2.2.2.2.1;exact Ap.out,by rcases r with rfl|rfl;exact HH.out.2.2.2.2.2;exact Ap.out⟩);have Ba:=Zh S2;clear Ar S2 f r g3 g4;go_wp2_with fail;go_loopg [31] C (λg i k=>∃(q us:Nat) (rv' :V) (Z :DZ),i=I U q/\q<=C/\C-q<=g/\us<=used+20*q/\ER wd word w (EE db pb rv rs) db pb us rv' Z (t+q) G H k/\Bx (Bf Z)/\wS (Bf Z)=t+q/\Hid (∀x∈Z,x.2.length<wd));case atStart=>exact⟨0,used,rv,rs,rfl,Pa _,E _,E _,Ba.out,HH.out.2.1,HH.out.2.2.1,Zh HH.out.2.2.2.1⟩
  case round=>
   clear A1 Ba;rename World=>k;obtain⟨q,us,D2,rs1,rfl,hq,hg,C0,S,ok,M,CL⟩:=hrel;obtain⟨g1,cap1,rfl⟩:=S.rq.shape (MC ok);obtain⟨n,s⟩:∃n,n=rs1.length:=⟨_,rfl⟩;by_cases D4:q<C
   ·have e1:(q:Int)<(C:Int):=by omega
    have B5:0<n:=by rw[s];exact List.length_pos_iff.2 (MC ok)
    have F:0<rs1.length:=by rw[<-s];exact B5
    obtain⟨T,hT⟩:∃T,T=t+q:=⟨_,rfl⟩;rw[<-hT]at S M;obtain⟨⟨yv,yx⟩,ey⟩:∃y,rs1[0]'F=y:=⟨_,rfl⟩;have D3:yx.length<=700:=by
     have:=IA M (Q0 F);rw[ey]at this;simp only at this;omega
    rw[<-s]at S;obtain⟨C8,Bb⟩:=FSx S.rq s 0 F ey;obtain⟨A0,c0,rfl⟩:=Bb.slice;have D0:(0:Int)<(n:Int):=by omega
    have S8:=S.next ((B.refl _ k).drew);obtain⟨Bt,-⟩:=FSx S8.rq s 0 F ey;have B1:=Zh Bt;have S9:=S8.next ((B.refl _ k.drew).alloc (E _) (.cells #[I J X] 2));obtain⟨C9,r9⟩:=FSx S9.rq s 0 F ey;have Cp:=Zh C9;have Ck:=Zh S9;have A3:= @Ma.one (k.drew.alloc (.cells #[I J X] 2)) k.drew.heap.size X (AI.newAt rfl);have A6:=Zh (Zi ok M);have HN:=Zh (Zi s hT);have C4:T<=620:=by omega
    clear S S8 S9 C8 Bt C9 Bb ok M s hT;go_upto_region 12 with fail;refine Do 14 _ (λw' =>w'.cell? ⟨db,3,N⟩=some (.slice (some ⟨g1,0,N⟩) n cap1)/\w'.cell? ⟨g1,0,N⟩=some (.slice A0 yx.length c0)/\db<w'.heap.size/\g1<w'.heap.size) (by kernel_rfl) (by kernel_rfl) rfl B1.out (λD=> ?_);simp only[bw,dT];iterate 11 (refine Zu 14 (v:= ?_) rfl rfl (by kernel_rfl) (λ_ _ _ h=>h) (by rfl) ?_ D ?_;rotate_left;focus (intro w Ab;(try dsimp only at Ab);go_simp;try with_reducible rfl);try simp only[NW,Zp,Zq,Zr])
    refine wpAnyH_ready (rs:=[11]) (by kernel_rfl) (by simp) ?_;refine AllReadyH.cons (o:=_) rfl (λK hK=> ?_) AllReadyH.nil;go_simp;refine hK.out _ _ (by exact Cp.out) (λD=> ?_);clear hK K;try simp only[NW,Zp,Zq,Zr]
    refine wpAnyH_ready (rs:=[12]) (by kernel_rfl) (by simp) ?_;refine AllReadyH.cons (o:=_) rfl (λK hK=> ?_) AllReadyH.nil;refine Ff rfl _ _ 178 rfl underlying178 rfl rfl r9 A3 (by simp;omega) ?_;intro B3 w11 Ax BQ BR;obtain⟨A2,A9,L,hL,rfl⟩:∃A c L,L=(yx++ [X]).length/\B3=.slice A L c:=by
     obtain⟨A2,A9,e⟩:=Ax.slice;exact⟨A2,A9,_,rfl,e⟩
    obtain⟨B2,D1,Bw⟩:=KN Ck.out HN.out.1 0 F ey Ax BQ BR;have Bs:=Zh Bw;have C1:g1<w11.heap.size:=B2.2.2.2;clear Ax BQ BR hL Bw;refine hK.out _ _ (by assumption) (λD=> ?_);clear hK K;try simp only[NW,Zp,Zq,Zr]
    refine wpAnyH_take (i:=13) (oi:=_) (v:= ?_) rfl (by kernel_rfl) (by kernel_rfl) (by kernel_rfl) (λ_ _ _ h=>h) (Or.inl ⟨by rfl,?_⟩) D ?_;rotate_left
    ·intro w Ab;try dsimp only at Ab
     go_simp;try with_reducible rfl
    try simp only[NW,Zp,Zq,Zr]
    refine wpAnyH_done (by kernel_rfl) ?_ _;unfold Dn;have Y:0<(Bf rs1).length:=by rw[Ag];exact F
    have Ay:(Bf rs1)[0]'Y=yx:=by rw[FP rs1 0 F,ey]
    have u:=UG (Bf rs1) 0 [X] Y A6.out.1 (λy hy=>by rw[List.mem_singleton.1 hy];exact Ap.out);have hW:=Oo (Bf rs1) 0 [X] Y;rw[Ay]at u hW;have Av:=Bs.out;obtain⟨d0,d1,d2,d3,d4,d5,d6,k3,k4,k5,k6,dl⟩:=Av.rq.cells;have Al:=Av.tot (T+1);have A8:=ME wd h4 B9 word _ db pb us _ _ (T+1) G H Al.rq (by rw[FQ];exact u) (by rw[FQ,hW,A6.out.2];simp) (by omega) (by omega);have j:=Zh Al;have e5:U.wrap ((T:Int)+1)=((T+1:Nat):Int):=by rw[RR];omega
    clear Bs Av Al u hW Ay;go_wp2_with fail;refine A8.mono ?_;rintro e C3 ⟨rfl,A5,A7,BX,A4,d,b,Cr,p⟩;have HF:=Zh (Zi (j.out.andThen A4) (Zi d (Zi b p)));clear A8 A4 d b p j;go_wp2_with fail;go_roundg (C-(q+1));case measure=>omega
    exact⟨q+1,A5,A7,BX,by go_num,by omega,E _,by omega,by rw[<-V0,<-HN.out.2];exact HF.out.1,HF.out.2.1,by rw[<-V0,<-HN.out.2];exact HF.out.2.2.1,Zh HF.out.2.2.2⟩
   ·have e1:¬(q:Int)<(C:Int):=by omega
    have B0:q=C:=by omega
    subst B0;have a:JY (Oy wd word) Hu w db (EE db pb rv rs) vals (X,q) (R (I J 0)) k:=by
     refine⟨0,_,rfl,by rw[HP.out];simp,?_,S.st.sub,S.st.away⟩;rw[HP.out];refine⟨pb,us,_,rs1,G,H,?_,ok,?_,CL.out,?_,HI.out.1,HI.out.2,rfl⟩
     ·show DN wd word k db pb us _ rs1 (BH (vals++ [(X,q)])) G H;rw[Q.out];exact S.rq
     ·show wS (Bf rs1)=BH (vals++ [(X,q)]);rw[Q.out];exact M
     ·show us<=64*BH (vals++ [(X,q)])+64;rw[Q.out];omega
    have HF:=Zh a;clear a S ok M;go_wp2_with fail;go_ret;exact HF.out
theorem UL(w v l)(h:BD w v l)(G:l.length<=1000000):
  C prog 104 #[v] w λe w' =>∃v',e=R v' /\w'.ownsRow w.heap.size 2 1 v' l.length (BG l)/\B w.heap.size w w' :=by
 have i:∀(w:W) (a:Option Addr) (n c K c' :Nat),(binOp .eql 178 (L a n c) (L N K c')).run prog w=.ok (.bool a.isNone) w:=λw a n c K c' =>Lib.run_eql_slice_nil w _ _ a n c K c' underlying178;rcases h.shape with⟨rfl,rfl⟩|⟨g,O,rfl,x,Y,b⟩
 ·go_enter func104,ntmps104;go_wp2;go_ret;exact⟨_,rfl,W.ownsRow_nil _ _ _ _,B.refl _ _⟩
 ·have H:=Zh (h.next ((B.refl _ w).alloc (E _) (.cells #[] 2)));clear h;obtain⟨o,hi,M,Q,X⟩:=info_parts NL;obtain⟨n,Z⟩:∃n,n=l.length:=⟨_,rfl⟩;rw[<-Z]at G Y⊢;have p:=Zh Z;clear Z;go_enter func104,ntmps104;go_wp2_with(at_builtin;refine wpList_append_own _ rfl _ _ 178 rfl w.heap.size 2 o _ 1 8 underlying178 hi M Q X rfl (by decide) _ _ _ rfl (W.ownsRow_made w #[] 0 (E _) (Pa _) (by simp)) ⟨g,0,N⟩ n O (BG l) rfl ?qc1 ?qc2 ?qc3 ?qc4 ?qc5 ?qc6 ?_);case qc1=>rw[BJ,p.out,Nat.mul_one]
  case qc2=>
   intro j u r;exact H.out.cells j u r
  case qc3=>exact JE l
  case qc4=>unfold maxLen;omega
  case qc5=>omega
  case qc6=>simp
  intro v' s F D d;go_wp2;go_ret;refine⟨v',rfl,by simpa using F,?_⟩;exact((B.refl _ w).alloc (E _) _).grown D (by simp) (by intro k f;simp[V.ownBlock]at f;omega)
structure Yr(w:World)(n:Nat)(A:Option Addr)(c:Nat)(rsN:DZ)(W:World):Prop where
 len:n=rsN.length
 own:W.ownsRow w.heap.size 178 1 (L A n c) n (Gf rsN)
 row:∀x∈rsN,BD W x.1 x.2
 new:∀x∈rsN,∀k,x.1.ownBlock=S k->w.heap.size<=k
 ap:rsN.Pairwise Yn
 below:B w.heap.size w W
section
variable {w W W' :World} {n:Nat} {A:Option Addr} {c:Nat} {rsN:DZ}
theorem Yr.next(h:Yr w n A c rsN W)(b:B W.heap.size W W'):Yr w n A c rsN W' :=
 ⟨h.len,AE h.own b λg D=>(h.own.lt g D).2,λx F=>(h.row x F).next b,h.new,h.ap,h.below.trans (b.mono h.below.size)⟩
theorem Yr.start(w):Yr w 0 N 0 [] w:=⟨rfl,World.ownsRow_nil _ _ _ _,λ_ D=>absurd D fj,λ_ D=>absurd D fj,fy,B.refl _ _⟩
theorem Yr.grown{A' c'}{X:V×List Int}(h:Yr w n A c rsN W)(l:BD W X.1 X.2)(f:∀k,X.1.ownBlock=S k->w.heap.size<=k/\∀x∈rsN,x.1.ownBlock≠S k){W1}(b:B W.heap.size W W1)
  (o:W'.ownsRow w.heap.size 178 1 (L A' (n+1) c') (n+1) (Gf (rsN++ [X])))(g:W1.grownBy W' (L A n c).ownBlock):Yr w (n+1) A' c' (rsN++ [X]) W' :=by
 have G:=h.next b;have a:AD (λk=>(L A n c).ownBlock=S k) W1 W' :=AD.of_grown g λk F=>F;have H:∀x:V×List Int,BD W1 x.1 x.2->∀i,x.1.ownBlock=S i->¬(L A n c).ownBlock=S i:=λx Q i hi e=>by
  obtain⟨O,d⟩:=Q.blk hi;obtain⟨M,K⟩:=AJ G.own e;exact(d.ne K (by decide)) rfl
 refine⟨by rw[ag,h.len];rfl,o,λx D=> ?_,λx D k F=> ?_,List.pairwise_append.2 ⟨h.ap,fk _ _,λx D y Y=> ?_⟩,G.below.grown g G.below.size λk F=>(G.own.lt k F).1⟩
 ·rcases List.mem_append.1 D with D|D
  ·exact(G.row x D).away a (H x (G.row x D))
  ·rw[List.mem_singleton.1 D];exact(l.next b).away a (H X (l.next b))
 ·rcases List.mem_append.1 D with D|D
  ·exact h.new x D k F
  ·rw[List.mem_singleton.1 D]at F;exact(f k F).1
 ·rw[List.mem_singleton.1 Y];intro i hi Z;exact(f i Z).2 x D hi
end
theorem RG(wd word w tb pb us rv)(rs:DZ)(t lo hi)(h:DN wd word w tb pb us rv rs t lo hi)(Y:rs≠ [])(f:rs.length<=1000)(Q:∀x∈rs,x.2.length<=100000):
  C prog 340 #[P (some ⟨tb,0,N⟩)] w λe w' =>∃n A c rsN,e=R (L A n c)/\Yr w n A c rsN w' /\Bf rsN=Bf rs:=by
 obtain⟨g,Ac,rfl⟩:=h.shape Y;obtain⟨c0,c1,c2,c3,c4,c5,c6,f3,f4,f5,f6,cl⟩:=h.cells;obtain⟨n,hn⟩:∃n,n=rs.length:=⟨_,rfl⟩;rw[<-hn]at f c3;have u:=Zh (Zi h (Zi hn Q));clear h hn Q Y;go_enter func340,ntmps340;go_wp2_with fail;go_loopg [3,13] n (λg s i j=>∃(q:Nat) (A:Option Addr) (c:Nat) (rsN:DZ),i=I J q/\q<=n/\n-q<=g/\s=L A q c/\Yr w q A c rsN j/\Hid (Bf rsN=(Bf rs).take q));case atStart=>exact⟨0,N,0,[],rfl,Pa _,E _,rfl,Yr.start w,Zh (by simp[Bf])⟩
 case round=>
  rename W=>j;obtain⟨q,A,c,rsN,rfl,hq,hg,rfl,S,HR⟩:=hrel;by_cases Aa:q<n
  ·have e1:(q:Int)<(n:Int):=by omega
   have D:q<rs.length:=by rw[<-u.out.2.1];exact Aa
   have h1:=u.out.1.next S.below;obtain⟨p0,p1,p2⟩:=h1.at rfl rfl q D;have b:=h1.row _ (Q0 D);have hl:=u.out.2.2 _ (Q0 D);have O:(Bf rs).take (q+1)=(Bf rs).take q++ [(rs[q]'D).2]:=by
    rw[ej (by rw[Ag];exact D),FP rs q D]
   obtain⟨⟨yv,M⟩,ey⟩:∃y,rs[q]'D=y:=⟨_,rfl⟩;rw[ey]at p0 b hl O;simp only at p0 b hl O;have d:=UL j yv M b (by omega);obtain⟨Ay,cy,rfl⟩:=b.slice;have p:=Zh S;have HT:=Zh O;clear S h1 b O c0 c1 c2 c3 c4 c5 c6 f3 f4 f5 f6;go_wp2_with fail;refine d.mono ?_;rintro e z ⟨a,rfl,o2,b2⟩;have H:∀k,a.ownBlock=some k->j.heap.size<=k:=λk o=>(o2.lt k o).1;have l2:BD z a M:=BD.of_owns o2;have S2:=p.out.next b2;have S3:=S2.next ((B.refl _ z).alloc (E _) (.cells #[a] 178));have F:=Zh (Zi S2 (Zi S3 (Zi l2 (show∀k,a.ownBlock=some k->w.heap.size<=k/\∀x∈rsN,x.1.ownBlock≠some k from λk o=>⟨gQ p.out.below.size (H k o),λx hx e=>by
    have:=(p.out.row x hx).lt e;have:=H k o;omega⟩))))
   have Z:w.heap.size<=(z.alloc (.cells #[a] 178)).heap.size:=S3.below.size;have Ab:=Zh Z;obtain⟨r,K,rfl⟩:=l2.slice;have q5:q<=100000:=by omega
   clear d o2 b2 H l2 S2 S3 Z p;go_wp2_with(at_builtin;refine GS rfl _ _ rfl F.out.2.1.own Ab.out q5 (X:=(L r M.length K,M)) rfl rfl (AI.newAt rfl) rfl ?_);intro A' c' w4 o4 g4 k4;have S4:=F.out.1.grown (X:=(L r M.length K,M)) F.out.2.2.1 F.out.2.2.2 ((B.refl _ z).alloc (E _) (.cells #[L r M.length K] 178)) o4 g4;have AA:=Zh S4;clear o4 g4 k4 S4 F;go_wp2_with fail;go_roundg (n-(q+1));case measure=>omega
   exact⟨q+1,A',c',rsN++ [(L r M.length K,M)],by go_num,by omega,E _,rfl,AA.out,Zh (by rw[Ew,HR.out,HT.out];rfl)⟩
  ·have e1:¬(q:Int)<(n:Int):=by omega
   have G:=HR.out;rw[aw (by rw[Ag];have:=u.out.2.1;omega)]at G;have HF:=Zh (Zi S G);clear S G;go_wp2_with fail;go_ret;exact⟨q,A,c,rfl,rsN,HF.out.1,HF.out.2⟩
theorem VZ(wd:Nat)(word:Int)(w)(tb:Nat)(H:w.cell? ⟨tb,0,N⟩=S (I J wd))(M:w.cell? ⟨tb,1,N⟩=S (I U word)):
  C prog 341 #[P (S ⟨tb,0,N⟩)] w λe w' =>e=R (.agg #[I J wd,I U word])/\B w.heap.size w w' :=by
 have K:tb<w.heap.size:=W.block_lt_of_cell? w _ H;go_enter func341,ntmps341;go_wp2_with fail;have D:AI (w.alloc (.cells #[I J wd,I U word] 141)) w.heap.size #[I J wd,I U word] 141:=AI.newAt rfl;have F:=D.cell (j:=0) rfl;have G:=D.cell (j:=1) rfl;refine bodyPost_ret (v:=.agg #[I J wd,I U word]) ?_ rfl ⟨rfl,Za⟩;simp[results,results341,go_sem,F,G]
theorem bF(w tb pb word us)(c2:w.cell? ⟨tb,2,N⟩=S (P (S ⟨pb,0,N⟩)))(D:GY w pb word us):
  C prog 342 #[P (S ⟨tb,0,N⟩)] w λe w' =>e=R (I J us)/\w=w' :=by
 have H:tb<w.heap.size:=W.block_lt_of_cell? w _ c2;have F:=VT w pb word us D;clear D;go_enter func342,ntmps342;go_wp2_with fail;refine F.mono ?_;rintro e G ⟨rfl,rfl⟩;clear F;go_wp2_with fail;go_ret;exact⟨rfl,rfl⟩
theorem Ys(w)(tb:Nat)(t:Nat)(lo hi:Int)(G:w.cell? ⟨tb,4,N⟩=S (I U t))(K:w.cell? ⟨tb,5,N⟩=S (I J lo))(M:w.cell? ⟨tb,6,N⟩=S (I J hi)):
  C prog 306 #[P (S ⟨tb,0,N⟩)] w λe w' =>(∃lo' hi' b,e=R (T #[I J lo',I J hi',.bool b])/\(lo' =lo\/lo' =0)/\(hi' =hi\/hi' =0))/\B w.heap.size w w' :=by
 have H:tb<w.heap.size:=W.block_lt_of_cell? w _ G;by_cases D:t=0
 ·have F:((t:Int)==0)=true:=by simp[D]
  go_enter func306,ntmps306;go_wp2_with fail;refine bodyPost_ret (v:=T #[I J 0,I J 0,.bool false]) (by simp[results,results306,go_sem]) rfl ?_;exact⟨⟨0,0,false,rfl,.inr rfl,.inr rfl⟩,B.refl _ _⟩
 ·have F:((t:Int)==0)=false:=by simp[D]
  go_enter func306,ntmps306;go_upto_region 3 with fail;go_quiet(fail);go_wp2_with fail;refine bodyPost_ret (v:=T #[I J lo,I J hi,.bool true]) (by simp[results,results306,go_sem]) rfl ?_;exact⟨⟨lo,hi,true,rfl,.inl rfl,.inl rfl⟩,⟨rfl,rfl,rfl,E _,λ_ _=>rfl⟩⟩
theorem bG(w):(Instr.makeSlice 183 (I J 1) (I J 1)).run prog w=.ok (L (S ⟨w.heap.size,0,N⟩) 1 1) (w.alloc (.cells #[L N 0 0] 178)):=by kernel_rfl
def ed(wd:Int)(word:Int)(w:W)(e:Ending)(w' :W):Prop:=∃(po:Option Addr) (code:Int),e=R (T #[P po,I J code])/\B w.heap.size w w' /\(code=0↔4<=wd/\wd<=64/\wd.tmod 4=0)/\
 (code=0->∃tb pb g,po=S ⟨tb,0,N⟩/\DN wd.toNat word w' tb pb 0 (L (S ⟨g,0,N⟩) 1 1) [(L N 0 0,[])] 0 0 0/\w.heap.size<=tb/\w.heap.size<=pb/\w.heap.size<=g)
theorem UM{w W wd word}(tb pb g)(H:4<=wd/\wd<=64/\wd.tmod 4=0)(F:AI W tb #[I J wd,I U word,P (S ⟨pb,0,N⟩),L (S ⟨g,0,N⟩) 1 1,I U 0,I J 0,I J 0] 185)(D:AI W pb #[I U word,I J 0] 225)(G:AI W g #[L N 0 0] 178)(b:B w.heap.size w W)
  (l1:w.heap.size<=tb)(O:w.heap.size<=pb)(K:w.heap.size<=g):ed wd word w (R (T #[P (S ⟨tb,0,N⟩),I J 0])) W:=by
 have e:((wd.toNat:Nat):Int)=wd:=by omega
 refine⟨_,0,rfl,b,⟨λ_=>H,λ_=>rfl⟩,λ_=>⟨tb,pb,g,rfl,⟨?_,D,?_,?_,fk _ _⟩,l1,O,K⟩⟩
 ·rw[e];exact F
 ·exact⟨rfl,.inr ⟨g,1,#[L N 0 0],rfl,Pa _,G,E _,by decide,rfl,rfl⟩⟩
 ·intro x M;rw[List.mem_singleton.1 M];exact BD.nil _
theorem Yt(w wd word):
  C prog 44 #[.agg #[I J wd,I U word]] w (ed wd word w):=by
 by_cases D:4<=wd/\wd<=64/\wd.tmod 4=0
 ·obtain⟨a1,a2,a3⟩:=D;have g1:¬(wd<4):=by omega
  have g2:¬((64:Int)<wd):=by omega
  go_enter func44,ntmps44;go_upto_region 3 with fail;have Q:((w.alloc (.cells #[I J wd,I U word] 141)).drew).cell? ⟨w.heap.size,0,N⟩=S (I J wd):=AI.cell (AI.drew (AI.newAt rfl)) rfl;have K:((w.alloc (.cells #[I J wd,I U word] 141)).drew).cell? ⟨w.heap.size,1,N⟩=S (I U word):=AI.cell (AI.drew (AI.newAt rfl)) rfl;have a:B w.heap.size w ((w.alloc (.cells #[I J wd,I U word] 141)).drew):=(Za).drew;have M:w.heap.size<((w.alloc (.cells #[I J wd,I U word] 141)).drew).heap.size:=by simp
  have F:=λW=>Yi W word;have G:=bG;go_region_held3 (λw' =>w'.cell? ⟨w.heap.size,0,N⟩=S (I J wd)/\w'.cell? ⟨w.heap.size,1,N⟩=S (I U word)/\w.heap.size<w'.heap.size) (simp[*,World.cell?_alloc_some,World.cell?_setCell_far]<;>omega)
   (first|(go_at_call 67;refine(F _).mono ?_;rintro e w' ⟨rfl,rfl⟩;dsimp only))
  all_goals(clear Q K F G;go_wp2_with fail;go_ret2)
  ·exact UM (w.heap.size+1+1+1) (w.heap.size+1) (w.heap.size+1+1) ⟨a1,a2,a3⟩ (AI.drew (AI.newAt (by simp))) (AI.drew (AI.alloc (AI.alloc (AI.newAt (by simp)) _) _)) (AI.drew (AI.alloc (AI.newAt (by simp)) _)) (((((Za).alloc (by simp) _).alloc (by simp;omega) _).alloc (by simp;omega) _).drew) (by omega) (by omega) (by omega)
  ·exact UM (w.heap.size+1+1+1) (w.heap.size+1+1) (w.heap.size+1) ⟨a1,a2,a3⟩ (AI.drew (AI.newAt (by simp))) (AI.drew (AI.alloc (AI.newAt (by simp)) _)) (AI.drew (AI.alloc (AI.alloc (AI.newAt (by simp)) _) _)) (((((Za).alloc (by simp) _).alloc (by simp;omega) _).alloc (by simp;omega) _).drew) (by omega) (by omega) (by omega)
 ·by_cases X:wd<4
  ·go_enter func44,ntmps44;go_wp2_with fail;go_ret2;exact⟨N,1,rfl,Za,⟨λh=>absurd h (by decide),λh=>absurd h D⟩,λh=>absurd h (by decide)⟩
  ·by_cases Y:(64:Int)<wd
   ·go_enter func44,ntmps44;go_wp2_with fail;go_ret2;exact⟨N,1,rfl,Za,⟨λh=>absurd h (by decide),λh=>absurd h D⟩,λh=>absurd h (by decide)⟩
   ·have H:(wd.tmod 4==0)=false:=by
     simp only[beq_eq_false_iff_ne,ne_eq];exact λe=>D ⟨by omega,by omega,e⟩
    have Z:(wd % 4 !=0)=true:=by
     rw[<-Int.tmod_eq_emod_of_nonneg (by omega)];simp only[bne,H,Bool.not_false]
    have O:=Zh D;clear D;go_enter func44,ntmps44;go_wp2_with fail;go_ret2;exact⟨N,1,rfl,Za,⟨λh=>absurd h (by decide),λh=>absurd h O.out⟩,λh=>absurd h (by decide)⟩
structure Zy(most:Nat)(db:Nat)(w0:World)(v0:V)(l0 m:List Af)(t0 q:Nat)(g2 c2:Nat)(v:V)(l:List Af)(W:World):Prop where
 lm:I3 most W db v l (t0+Bl (m.take q))
 st:Ga db w0 v0 W v
 row:m≠ []->W.ownsRow 0 207 3 (L (S ⟨g2,0,N⟩) m.length c2) m.length (Ad m)
 sum:Bl l=t0+Bl (m.take q)
 len:l.length<=l0.length+q
 good:(∀y∈l0,Kg y)->(∀y∈m,Kg y)->∀y∈l,Kg y
 far:m≠ []->g2≠db/\v0.ownBlock≠S g2/\g2<w0.heap.size
theorem Ex(m:List Af)(q)(h:q<m.length):Bl (m.take (q+1))=Bl (m.take q)+(m[q]'h).1:=by
 rw[ej h,EM];simp[Bl]
section
variable {most db:Nat} {w0:World} {v0:V} {l0 m:List Af} {t0 q g2 c2:Nat} {v:V} {l:List Af} {W W' :World}
theorem Zy.next(h:Zy most db w0 v0 l0 m t0 q g2 c2 v l W)(b:B W.heap.size W W'):Zy most db w0 v0 l0 m t0 q g2 c2 v l W' :=
 ⟨h.lm.next b,h.st.next b,λe=>AE (h.row e) b λg D=>((h.row e).lt g D).2,h.sum,h.len,h.good,h.far⟩
theorem Zy.far1(h:Zy most db w0 v0 l0 m t0 q g2 c2 v l W)(e:m≠ []):¬(g2=db\/v.ownBlock=S g2):=by
 obtain⟨f1,D,F⟩:=h.far e;rintro(k|k)
 ·exact f1 k
 ·rcases h.st.kin with n|⟨i,n1,n2⟩
  ·exact D (by rw[<-n];exact k)
  ·have:i=g2:=by rw[n1]at k;exact es k
   omega
theorem Zy.step{v1}{l1:List Af}{F}(h:Zy most db w0 v0 l0 m t0 q g2 c2 v l W)(D:q<m.length)(b:B W.heap.size W F)(k:I3 most W' db v1 l1 (t0+Bl (m.take q)+(m[q]'D).1))(r:Sb l (m[q]'D) l1)(a:AD (λk=>k=db\/v.ownBlock=S k) F W')(n:FA F v v1):Zy most db w0 v0 l0 m t0 (q+1) g2 c2 v1 l1 W' :=by
 have e:=Ex m q D;have G:=h.next b;refine⟨by rw[e,<-V0];exact k,G.st.trans ⟨a,n⟩,λH =>AU (G.row H) a λg M=> ?_,by rw[r.1,h.sum,e];omega,by have:=r.2.1;have:=h.len;omega,λg1 K=>r.2.2 (h.good g1 K) (K _ (Q0 D)),h.far⟩;have:g=g2:=by simpa[V.ownBlock]using M.symm
 subst this;exact G.far1 H
end
theorem bH(most)(hm:2<=most)(Ay:most<=64)(w)(vals F:AM)(db ob O N)(h:Om most vals w db O)(k:Om most F w ob N)(A2:∀i,O i->¬N i)(hv:DK vals)(Ab:DK F)(Ap:vals.length+F.length<=360):
  C prog 364 #[P (S ⟨db,0,none⟩),P (S ⟨ob,0,none⟩)] w (Dv (Om most) w db O vals F):=by
 obtain⟨v,l,h,hs,hg,hl,rfl⟩:=h;obtain⟨v2,H,k,ks,kg,kl,rfl⟩:=k;have A0:=Bo vals hv;have Ac:=Bo F Ab;obtain⟨c0,c1,c2,f1,f2,cl⟩:=h.cells;obtain⟨d0,d1,d2,e1,e2,dl⟩:=k.cells;have M:=Zh (Cn vals F);obtain⟨t,ht⟩:∃t,t=BH vals:=⟨_,rfl⟩;obtain⟨u,hu⟩:∃u,u=BH F:=⟨_,rfl⟩;rw[<-ht]at h hs A0 c2 M;rw[<-hu]at k ks Ac d2 M;have hb:t+u<=7200:=by omega
 have Aa:=λW b h0 h1=>Az W b t u (by omega) h0 h1;have p:((most:Int) !=(most:Int))=false:=by simp
 have s:=Zh (Zi h (Zi hs (Zi hg hl)));have r:=Zh (Zi k (Zi ks (Zi kg kl)));have HM:=Zh (Zi hm Ay);clear h hs hg hl k ks kg kl hm Ay A2 hv Ab Ap A0 Ac ht hu;go_enter func364,ntmps364;go_wp2_with fail;go_quiet(fail);go_upto_region 5 with fail;have b1:B w.heap.size w (w.drewN nq):=⟨rfl,rfl,rfl,E _,λ_ _=>rfl⟩;have Z:=Zh b1;generalize w.drewN nq=w1 at b1 Z⊢;clear c0 c1 c2 f1 f2 cl d0 d1 d2 e1 e2 dl;obtain⟨c0,c1,c2,f1,f2,cl⟩:=(s.out.1.next b1).cells;obtain⟨d0,d1,d2,e1,e2,dl⟩:=(r.out.1.next b1).cells;clear b1;go_cut [5,6]from 26 to 38 (λx y j=>x=I U ((t+u:Nat):Int)/\y=.bool true/\B w.heap.size w j);case first=>
  have o:B w.heap.size w (w1.drew.alloc (.cells #[I U t,I U u] 23)):=Z.out.trans (((B.refl _ w1).drew.alloc (E _) _).mono Z.out.size);have Aw:=Zh o;clear o Z p;go_region_with(go_at_call 90;refine(Aa _ _ (by simp) (by simp)).mono ?_;rintro e w2 ⟨rfl,rfl⟩);all_goals(
   go_wp2_with fail;go_meet;exact⟨rfl,rfl,Aw.out⟩)
 case rest=>
  obtain⟨rfl,rfl,b2⟩:=hcut;rename World=>w2;clear c0 c1 c2 f1 f2 cl d0 d1 d2 e1 e2 dl Aa p Z;have Q:=NK (r.out.1.next b2) (by have:=r.out.2.2.2;have:=HM.out.2;omega);have f:=Zh b2;clear b2;go_wp2_with fail;refine Q.mono ?_;rintro e w3 ⟨v3,rfl,o3,b3⟩;obtain⟨A3,k3,rfl⟩:=AF o3;obtain⟨m,z⟩:∃m,m=H.length:=⟨_,rfl⟩;have B3:B w.heap.size w w3:=f.out.trans (b3.mono f.out.size);obtain⟨g2,d⟩:∃g2,H≠ []->A3=S ⟨g2,0,none⟩:=by
   rcases AH o3 with⟨h1,h2,_⟩|⟨g,A9,h1,_⟩
   ·exact⟨0,λe=>absurd (fa h2) e⟩
   ·simp only[L.injEq]at h1;exact⟨g,λ_=>h1.1⟩
  have Al:=Zh (show Zy most db w3 v l H t 0 g2 k3 v l w3 from by
   refine⟨by simpa[Bl]using s.out.1.next B3,Ga.refl _ _ _,λe=> ?_,by simpa[Bl]using s.out.2.1,by omega,λh _=>h,λe=> ?_⟩
   ·have:=AO (base' :=0) o3 (λ_ _=>Pa _);rw[d e]at this;exact this
   ·have e1:=o3.lt g2 (by rw[d e];rfl);have e2:=s.out.1.blk.lt;have e3:=f.out.size;exact⟨by omega,λe4=>by have:=(s.out.1.own.lt g2 e4).2;omega,e1.2⟩)
  have A1:=Zh B3;have Y:=Zh (Zi z d);have A8:m<=64:=by have:=r.out.2.2.2;have:=HM.out.2;omega
  rw[<-z];clear Q o3 b3 B3 z d f;go_wp2_with fail;go_loopg [44] m (λg i j=>∃(q:Nat) (v' :V) (l' :List Af),i=I J q/\q<=m/\m-q<=g/\Zy most db w3 v l H t q g2 k3 v' l' j);case atStart=>exact⟨0,v,l,rfl,Pa _,E _,Al.out⟩
  case round=>
   clear Al;rename World=>j;obtain⟨q,v',l',rfl,hq,hg,D⟩:=hrel;by_cases A7:q<m
   ·have g1:(q:Int)<(m:Int):=by omega
    have G:q<H.length:=by rw[<-Y.out.1];exact A7
    have AA:H≠ []:=λe=>by rw[e]at G;simp at G
    obtain rfl:A3=S ⟨g2,0,none⟩:=Y.out.2 AA;have hr:=D.row AA;rw[<-Y.out.1]at hr;obtain⟨p0,p1,p2⟩:=Bq hr Y.out.1 q G;have b4:B j.heap.size j (j.alloc (.cells #[I U ((H[q]'G).1:Int),I J (H[q]'G).2.1,I J (H[q]'G).2.2] 207)):=Za;have Ar:=Ex H q G;have A6:=Fv H (q+1);have a:=OY _ db v' l' (t+Bl (H.take q)) (H[q]'G) (D.next b4).lm (by have:=D.len;have:=s.out.2.2.2;have:=HM.out.2;omega) (by have:=D.sum;have:=r.out.2.1;omega) (by have:=r.out.2.1;omega);have K:=Zh (λw5 v5 l5 k5 r5 a5 n5=>D.step (v1:=v5) (l1:=l5) (W' :=w5) G b4 k5 r5 a5 n5);generalize H[q]'G=x at p0 p1 p2 a K Ar;clear hr b4 D Ar A6;go_wp2_with fail;refine a.mono ?_;rintro e w5 ⟨rfl,v5,l5,H5,R5,A5,K5⟩;have HJ:=Zh (K.out w5 v5 l5 H5 R5 A5 K5);clear a H5 R5 A5 K5 K;go_wp2_with fail;go_roundg (m-(q+1));case measure=>omega
    exact⟨q+1,v5,l5,by go_num,by omega,E _,HJ.out⟩
   ·have g1:¬(q:Int)<(m:Int):=by omega
    have Ax:H.take q=H:=aw (by have:=Y.out.1;omega);have X:=D.sum;have Q:=D.lm;rw[Ax,r.out.2.1]at X Q;have Av:=M0 j db v' l' (t+u) Q HM.out.1 (by have:=D.len;have:=s.out.2.2.2;have:=HM.out.2;omega) X (by omega);have HG:=Zh (Zi (D.good s.out.2.2.1 r.out.2.2.1) ((Ga.of_below (sb:=db) (v:=v) A1.out).trans D.st));clear X Q D Ax;go_wp2_with fail;refine Av.mono ?_;rintro e w6 ⟨rfl,v6,l6,S6,A4⟩;have st:=HG.out.2.trans ⟨S6.away,S6.kin⟩;have HF:=Zh (show Dv (Om most) w db (KY db v) vals F (R (I J 0)) w6 from⟨0,KY db v6,rfl,λ_=>⟨v6,l6,by rw[M.out];exact S6.lm,by rw[M.out];exact S6.tot,S6.rel.2.2 HG.out.1,A4,rfl⟩,st.sub,st.away⟩);clear Av S6 st;go_wp2_with fail;go_ret;exact HF.out
theorem Va(D w):(Instr.typeAssert (.iface 148 (.agg #[P (S ⟨D,0,N⟩)])) 74 148 false).run prog w=.ok (.agg #[P (S ⟨D,0,N⟩)]) w:=by kernel_rfl
theorem Yu(D w):(Instr.field 148 (.agg #[P (S ⟨D,0,N⟩)]) 0).run prog w=.ok (P (S ⟨D,0,N⟩)) w:=by kernel_rfl
theorem RH(w db F Q)(G:∀W,B w.heap.size w W->Calls prog 364 #[P (S ⟨db,0,N⟩),P (S ⟨F,0,N⟩)] W λe w' =>(∃D,e=R (I J D))/\Q e w'):
  Calls prog 360 #[.agg #[P (S ⟨db,0,N⟩)],.iface 148 (.agg #[P (S ⟨F,0,N⟩)])] w (Qt Q):=by
 have H:VQ w w.heap.size db 148 (w.alloc (.cells #[P (S ⟨db,0,N⟩)] 148)):=⟨AI.newAt rfl,Za⟩;have b:=Va F;have d:=Yu F;have X:=Zh G;clear G;go_enter func360,ntmps360;go_upto_region 1 with fail;refine AS 5 (C:=VQ w w.heap.size db 148) (by kernel_rfl) (by kernel_rfl) H.drew ?_;simp only[bw,dT,List.drop_succ_cons,List.drop_zero];repeat go_big_quiet_step(exact λ_=>rfl)
 go_big_quiet_want;refine⟨P (S ⟨db,0,N⟩),λY a=> ?_,?_⟩
 ·have f:Y.cell? ⟨w.heap.size,0,N⟩=S (P (S ⟨db,0,N⟩)):=a.blk.cell rfl;go_simp
 go_big_quiet_on;simp only[NW,Zp,Zq,Zr];repeat go_big_quiet_step(exact λ_=>rfl)
 refine wpQuiet_nil ?_;intro O K;have M:=X.out O K.below;clear H K;go_wp2_with fail;refine M.mono ?_;rintro e g ⟨⟨D,rfl⟩,q⟩;have Z:=Zh q;clear M q;go_wp2_with fail;go_ret;exact Z.out
structure Vb(wd:Nat)(word:Int)(w:World)(O0:Nat->Prop)(db pb us T:Nat)(lo hi:Int)(n:Nat)(A:Option Addr)(c:Nat)(rsN:DZ)(g1 cap1 n1:Nat)(rs1:DZ)(W:World):Prop where
 rq:ER wd word w O0 db pb us (L (S ⟨g1,0,N⟩) n1 cap1) rs1 T lo hi W
 hn1:n1=rs1.length
 own:W.ownsRow 0 178 1 (L A n c) n (Gf rsN)
 row:∀x∈rsN,BD W x.1 x.2
 dis:∀k,EE db pb (L (S ⟨g1,0,N⟩) n1 cap1) rs1 k->¬((L A n c).ownBlock=S k\/∃x∈rsN,x.1.ownBlock=S k)
section
variable {wd:Nat} {word:Int} {w W W' :World} {O0:Nat->Prop} {db pb us us' T:Nat} {lo hi:Int} {n:Nat} {A:Option Addr} {c:Nat} {rsN:DZ} {g1 cap1 n1 g2 cap2 n2:Nat} {rs1 rs2:DZ}
theorem Vb.clt(h:Vb wd word w O0 db pb us T lo hi n A c rsN g1 cap1 n1 rs1 W){k}(D:(L A n c).ownBlock=S k\/∃x∈rsN,x.1.ownBlock=S k):k<W.heap.size:=by
 rcases D with D|⟨x,F,D⟩
 ·exact(h.own.lt k D).2
 ·exact(h.row x F).lt D
theorem Vb.step(h:Vb wd word w O0 db pb us T lo hi n A c rsN g1 cap1 n1 rs1 W)(k:ER wd word W (EE db pb (L (S ⟨g1,0,N⟩) n1 cap1) rs1) db pb us' (L (S ⟨g2,0,N⟩) n2 cap2) rs2 T lo hi W')(H:n2=rs2.length):Vb wd word w O0 db pb us' T lo hi n A c rsN g2 cap2 n2 rs2 W' :=
 ⟨h.rq.andThen k,H,AU h.own k.st.away λg D e=>h.dis g e (.inl D),λx G=>(h.row x G).away k.st.away λg D e=>h.dis g e (.inr ⟨x,G,D⟩),λi hi F=>by
  rcases k.st.sub i hi with e|e
  ·exact h.dis i e F
  ·have:=h.clt F;omega⟩
theorem Vb.next(h:Vb wd word w O0 db pb us T lo hi n A c rsN g1 cap1 n1 rs1 W)(b:B W.heap.size W W'):Vb wd word w O0 db pb us T lo hi n A c rsN g1 cap1 n1 rs1 W' :=h.step ((ER.st0 h.rq.rq).next b) h.hn1
end
theorem UN{l:CM}(h:Bx l)(q)(D:q<l.length)(F:q≠0):l[q]'D≠ []:=by
 obtain⟨a,b,c⟩:=h;cases l with
 |nil=>exact absurd rfl a
 |cons y l=>
  obtain⟨i,rfl⟩:∃i,q=i+1:=⟨q-1,by omega⟩;exact b _ (by simp only[List.tail_cons,List.getElem_cons_succ];exact Q0 _)
theorem Yv{rs1 rs2:DZ}{q v Z G D}(h:rs2=rs1/\q<rs1.length\/rs2=rs1++ [(L N 0 0,([]:List Int))]/\q=rs1.length)(K:rs2[q]?=S (Z,G))(F:Bx (Bf rs1))(H:∀y∈D,Am y)(M:q≠0->D≠ []):
  Bx (Bf (rs2.set q (v,G++D)))/\wS (Bf (rs2.set q (v,G++D)))=wS (Bf rs1)+2^q*D.length:=by
 rcases h with⟨rfl,h⟩|⟨rfl,h⟩
 ·have O:q<(Bf rs2).length:=by rw[Ag];exact h
  have e:(Bf rs2)[q]'O=G:=by
   rw[FP rs2 _ h];rw[List.getElem?_eq_getElem h]at K;rw[es K]
  have Y:=UG (Bf rs2) q D O F H;have X:=Oo (Bf rs2) q D O;rw[e]at Y X;rw[FQ];exact⟨Y,X⟩
 ·have e:G=[]:=by
   rw[List.getElem?_append_right (by omega),h,fp]at K;have b:=congrArg (λo=>(gR (λp:V×List Int=>p.2.length) o)) K;simp at b;exact fa (by omega)
  have a:Bf ((rs1++ [(L N 0 0,([]:List Int))]).set q (v,G++D))=Bf rs1++ [D]:=by
   rw[FQ,Ew,e,h,List.nil_append];rw[List.set_append_right _ _ (by rw[Ag];exact E _)];rw[Ag,fp];rfl
  rw[a];have Q:q≠0:=λe=>F.1 (fa (by rw[Ag];omega));refine⟨ay _ D F H (M Q),?_⟩;rw[Jj,Ag,<-h];simp[wS]
theorem bI(wd)(h4:4<=wd)(HC:wd<=64)(word w)(vals Y:AM)(db j O N)(h:Oy wd word vals w db O)(k:Oy wd word Y w j N)(GA:∀i,O i->¬N i)(hv:DK vals)(E9:DK Y)(HZ:vals.length+Y.length<=360):
  C prog 339 #[P (some ⟨db,0,none⟩),P (some ⟨j,0,none⟩)] w (Dv (Oy wd word) w db O vals Y):=by
 have h0:=h;obtain⟨pb,used,rv,rs,lo,hi,h,D2,hs,D5,HP,D3,E2,rfl⟩:=h;obtain⟨qb,Aw,D0,rs2,Aa,AA,k,A9,Bw,C1,GG,Bt,Bs,rfl⟩:=k;have HB:=Bo vals hv;have C3:=Bo Y E9;obtain⟨t,ht⟩:∃t,t=BH vals:=⟨_,rfl⟩;obtain⟨Z,B5⟩:∃Z,Z=BH Y:=⟨_,rfl⟩;have Hl:t+Z<=7200:=by omega
 have d:=Zh (show BH (vals++Y)=t+Z by rw[ht,B5,Cn]);rw[<-ht]at h hs HP;rw[<-B5]at k Bw;obtain⟨c0,c1,c2,c3,c4,c5,c6,f3,f4,f5,f6,cl⟩:=h.cells;obtain⟨d0,d1,d2,d3,d4,d5,d6,-,-,-,-,dl⟩:=k.cells;have HH:=Zh (Zi h (Zi D2 (Zi hs (Zi D5 (Zi D3 E2)))));have HK:=Zh (Zi k (Zi A9 (Zi Bw (Zi Bt Bs))));have HM:=Zh GA;have HV:=Zh (Zi h0 ht);clear h D2 hs D5 D3 E2 k A9 Bw C1 Bt Bs GA h0 ht B5 hv E9 HB C3 GG;obtain⟨mm,GD⟩:∃mm,mm=wd*1024:=⟨_,rfl⟩;have B9:=λW c0=>Jk wd (by omega) W db c0;rw[<-GD]at B9;clear GD;go_enter func339,ntmps339;go_upto_region 3 with fail;go_quiet(fail);have b1:B w.heap.size w (w.drewN nq):=⟨rfl,rfl,rfl,E _,λ_ _=>rfl⟩;have h1:=HH.out.1.next b1;have k1:=HK.out.1.next b1;have Ab:=Zh b1;clear c0 c1 c2 c3 c4 c5 c6 f3 f4 f5 f6 cl d0 d1 d2 d3 d4 d5 d6 dl b1;generalize w.drewN nq=w1 at Ab h1 k1⊢;obtain⟨c0,c1,c2,c3,c4,c5,c6,f3,f4,f5,f6,cl⟩:=h1.cells;obtain⟨d0,d1,d2,d3,d4,d5,d6,-,-,-,-,dl⟩:=k1.cells;have A5:=Zh (Zi h1 k1);clear h1 k1;by_cases hz:Z=0
 ·have g1:((Z:Int)==0)=true:=by simp[hz]
  have E7:Dv (Oy wd word) w db (EE db pb rv rs) vals Y (R (I J 0)) w1:=by
   refine⟨0,EE db pb rv rs,rfl,λ_=> ?_,λ_ h=>.inl h,AD.of_below Ab.out⟩;obtain⟨h1,h2,h3,h5,h6,h7⟩:=HH.out;refine⟨pb,used,rv,rs,lo,hi,?_,h2,?_,h5,?_,h6,h7,rfl⟩
   ·rw[d.out,hz];exact A5.out.1
   ·rw[d.out,hz];exact h3
   ·rw[d.out];omega
  have HF:=Zh E7;clear E7;go_wp2_with fail;go_ret;exact HF.out
 ·have g1:((Z:Int)==0)=false:=by simp[hz]
  obtain⟨D,hD⟩:∃D,U.wrap ((mm:Int)-(t:Int))=D:=⟨_,rfl⟩;go_upto_region 7 with fail;go_quiet((go_at_call 105;refine C.quiet_of_same ((B9 _ (by simpa using c0)).mono λe w' hh=>⟨hh.1,hh.2.symm⟩)));have b2:B w1.heap.size w1 (w1.drewN nq):=⟨rfl,rfl,rfl,E _,λ_ _=>rfl⟩;have S2:=(ER.st0 A5.out.1).next b2;have k2:=A5.out.2.next b2;have B2:=Zh (Ab.out.trans (b2.mono Ab.out.size));clear c0 c1 c2 c3 c4 c5 c6 f3 f4 f5 f6 cl d0 d1 d2 d3 d4 d5 d6 dl B9 b2 A5;generalize w1.drewN nq=w2 at B2 S2 k2⊢;by_cases g2:D<(Z:Int)
  ·have HF:=Zh (show Dv (Oy wd word) w db (EE db pb rv rs) vals Y (R (I J 6)) w2 from⟨6,EE db pb rv rs,rfl,λh=>absurd h (by decide),λ_ h=>.inl h,AD.of_below B2.out⟩);clear S2 k2 Ab;go_wp2_with fail;go_ret;exact HF.out
  ·obtain⟨d0,d1,d2,d3,d4,d5,d6,-,-,-,-,dl⟩:=k2.cells;have Cs:=(ER.st0 HH.out.1).next B2.out;have S3:=Cs.next ((B.refl _ w2).mono (E _)).drew;have GL:=UJ w2.drew S3 Aa AA;have KO:=Zh (show∀W us' rv' C9 t' lo' hi',ER wd word w (EE db pb rv rs) db pb us' rv' C9 t' lo' hi' W->DN wd word W j qb Aw D0 rs2 Z Aa AA from λW us' rv' C9 t' lo' hi' S=>HK.out.1.away S.st.away λi hi hO=>HM.out i hO hi);have C2:=Zh (show w2.drew.cell? ⟨j,5,none⟩=some (I J Aa)/\w2.drew.cell? ⟨j,6,none⟩=some (I J AA)/\j<w2.drew.heap.size from⟨d5,d6,dl⟩);clear d0 d1 d2 d3 d4 d5 d6 dl Cs S3 S2 k2 Ab;go_upto_region 9 with fail;go_region_held3 (λw' =>w'.cell? ⟨j,5,none⟩=some (I J Aa)/\w'.cell? ⟨j,6,none⟩=some (I J AA)/\j<w'.heap.size) (first|exact C2.out|assumption)
    (first
     |(go_at_call 311;refine GL.mono ?_;rintro e w3 ⟨rfl,f,z,Ba,Bu,S3⟩;have k3:=KO.out _ _ _ _ _ _ _ S3;have q3:w3.cell? ⟨j,5,none⟩=some (I J Aa)/\w3.cell? ⟨j,6,none⟩=some (I J AA)/\j<w3.heap.size:=⟨k3.cells.2.2.2.2.2.1,k3.cells.2.2.2.2.2.2.1,k3.blk.lt⟩;dsimp only))
   have HI:=Zh (show Am f/\Am z from⟨by rcases Ba with rfl|rfl;exact HH.out.2.2.2.2.1;exact HK.out.2.2.2.1,by rcases Bu with rfl|rfl;exact HH.out.2.2.2.2.2;exact HK.out.2.2.2.2⟩);have S4:=S3.next ((B.refl _ w3).mono (E _)).drew;have k4:=KO.out _ _ _ _ _ _ _ S4;obtain⟨c0,c1,c2,c3,c4,c5,c6,f3,f4,f5,f6,cl⟩:=S4.rq.cells;have C4:=Zh (show w3.drew.cell? ⟨db,4,none⟩=some (I U t)/\w3.drew.cell? ⟨j,4,none⟩=some (I U Z)/\db<w3.drew.heap.size/\j<w3.drew.heap.size from⟨c4,k4.cells.2.2.2.2.1,cl,k4.blk.lt⟩);have Ap :=(S3.tot (t+Z)).next ((B.refl _ (w3.setCell ⟨db,4,none⟩ (I U ((t+Z:Nat):Int)))).drew);rw[show((t+Z:Nat):Int)=(t:Int)+(Z:Int) by omega]at Ap;have E4:=Zh Ap;clear Ap;have e5:U.wrap ((t:Int)+(Z:Int))=((t+Z:Nat):Int):=by rw[RR];omega
   clear GL S3 Ba Bu k3 q3 S4 k4 c0 c1 c2 c3 c5 c6 f3 f5 f6 C2;go_upto_region 10 with fail;refine Do 11 _ (λw' =>w'.cell? ⟨db,4,none⟩=some (I U t)/\w'.cell? ⟨j,4,none⟩=some (I U Z)/\db<w'.heap.size/\j<w'.heap.size) (by kernel_rfl) (by kernel_rfl) rfl C4.out (λH=> ?_);simp only[bw,dT];iterate 11 (refine Zu 11 (v:= ?_) rfl rfl (by kernel_rfl) (λ_ _ _ h=>h) (by rfl) ?_ H ?_;rotate_left;focus (intro w M;(try dsimp only at M);go_simp;try with_reducible rfl);try simp only[NW,Zp,Zq,Zr])
   refine wpAnyH_done (by kernel_rfl) ?_ _;unfold Dn;go_upto_region 11 with fail;have A4:=E4.out;have k5:=KO.out _ _ _ _ _ _ _ A4;generalize(w3.setCell ⟨db,4,none⟩ (I U ((t:Int)+(Z:Int)))).drew=w5 at A4 k5⊢;have HA:=MD HK.out.2.1 HK.out.2.2.1 (by omega);have E8:=RG wd word w5 j qb Aw D0 rs2 Z Aa AA k5 (MC HK.out.2.1) (by omega) (λx hx=>by have:=IA HK.out.2.2.1 hx;omega);obtain⟨g1,cap1,G1⟩:=HH.out.1.shape (MC HH.out.2.1);subst G1;have HS:=Zh A4;clear A4 k5 E4 C4 c4 f4 cl;go_wp2_with fail;refine E8.mono ?_;rintro e w6 ⟨n,A,c,rsN,rfl,CL,B3⟩;have S6:=HS.out.next CL.below;have HU:n=rs2.length:=by rw[CL.len,<-Ag,B3,Ag]
   obtain⟨O1,B4⟩:∃O1,EE db pb (.slice (some ⟨g1,0,none⟩) rs.length cap1) rs=O1:=⟨_,rfl⟩;have J6:Vb wd word w O1 db pb used (t+Z) f z n A c rsN g1 cap1 rs.length rs w6:=⟨by rw[<-B4];exact S6,rfl,AO CL.own λ_ _=>Pa _,CL.row,λi hi hc=>by
    have h1:=HS.out.rq.lt hi;rcases hc with hc|⟨x,hx,hc⟩
    ·have:=(CL.own.lt i hc).1;omega
    ·have:=CL.new x hx i hc;omega⟩
   have E6:=Zh J6;have G2:=Zh B4;have HN:=Zh (Zi B3 CL.len);have Hj:n<=14:=by omega
   clear E8 CL S6 J6 B3 HU HS B4;go_wp2_with fail;go_loopg [69] n (λg i wx=>∃(q g1 cap1 n1:Nat) (rs1:DZ),i=I J q/\q<=n/\n-q<=g/\Vb wd word w O1 db pb used (t+Z) f z n A c rsN g1 cap1 n1 rs1 wx/\Bx (Bf rs1)/\wS (Bf rs1)=t+wS ((Bf rsN).take q)/\q<=n1);case atStart=>exact⟨0,g1,cap1,rs.length,rs,rfl,Pa _,E _,E6.out,HH.out.2.1,HH.out.2.2.1,Pa _⟩
   case round=>
    clear E6;rename World=>wx;obtain⟨q,g3,b,n3,rs3,rfl,hq,hg,G,ok,hs,Hb⟩:=hrel;by_cases HE:q<n
    ·have e1:(q:Int)<(n:Int):=by omega
     have a:q<rsN.length:=by rw[<-HN.out.2];exact HE
     have Cp:q<(Bf rsN).length:=by rw[Ag];exact a
     have Al:=UH (Bf rsN) q Cp;have GE:=GR (Bf rsN) (q+1);have BQ:=GR (Bf rsN) q;have D4:wS (Bf rsN)=Z:=by rw[HN.out.1];exact HK.out.2.2.1
     rw[D4]at GE BQ;have D8:wS (Bf rs3)<=7300:=by rw[hs];omega
     have GM:=MD ok rfl D8;rw[<-G.hn1]at GM;obtain⟨gA,rfl⟩:∃gA,A=some ⟨gA,0,none⟩:=by
      rcases AH G.own with⟨_,h0,_⟩|⟨g,HQ,h1,_⟩
      ·omega
      ·simp only[V.slice.injEq]at h1;exact⟨g,h1.1⟩
     have pN:=G.own.cellAt q (by omega);rw[Kj rsN q a]at pN;have Hx:=(G.own.lt gA rfl).2;have r:=G.row _ (Q0 a);have Ac:(Bf rsN)[q]'Cp=(rsN[q]'a).2:=FP rsN q a;have A1:Bx (Bf rsN):=by rw[HN.out.1];exact HK.out.2.1
     have A7:=TE A1 (Q0 a);have G5:=IA HK.out.2.2.1 (x:=((rsN[q]'a).1,(rsN[q]'a).2));obtain⟨⟨xv,xs⟩,ex⟩:∃x,rsN[q]'a=x:=⟨_,rfl⟩;rw[ex]at pN r Ac A7;simp only at pN r Ac A7;obtain⟨Ax,cx,rfl⟩:=r.slice;have BX:q≠0->xs≠ []:=λG7 e=>UN A1 q Cp G7 (by rw[Ac,e]);have Hw:xs.length<=7200:=by
      have h1:xs∈Bf rs2:=by rw[<-HN.out.1,<-Ac];exact Q0 _
      have:=Sw _ _ h1;rw[HK.out.2.2.1]at this;omega
     obtain⟨c0,c1,c2,c3,c4,c5,c6,f3,f4,f5,f6,cl⟩:=G.rq.rq.cells;have HX:=Zh (Zi A7 BX);have HW:=Zh (Zi Al (Zi Ac (Zi hs ok)));have HO:=Zh ex;have s:=Zh G;clear D4 Al GE BQ r Ac A1 A7 G5 BX G ok hs c0 c1 c2 c4 c5 c6 f4 f5 f6 ex;go_upto_if 80 with fail;go_cut [5,6,69,74,79,80]from 81 to 89 (λh xv i _ _ _ wy=>h=I J q/\xv=.slice Ax xs.length cx/\i=I J q/\∃g2 cap2 n2 Q,Vb wd word w O1 db pb used (t+Z) f z n (some ⟨gA,0,none⟩) c rsN g2 cap2 n2 Q wy/\(Q=rs3/\q<rs3.length\/Q=rs3++ [(V.slice none 0 0,([]:List Int))]/\q=rs3.length));case first=>
      by_cases B0:q=n3
      ·subst B0;have f1:((q:Int)==(q:Int))=true:=by simp
       have S0:=(ER.st0 s.out.rq.rq).next ((B.refl wx.heap.size wx).alloc (E _) (.cells #[.slice none 0 0] 178));have J0:=s.out.next ((B.refl wx.heap.size wx).alloc (E _) (.cells #[.slice none 0 0] 178));have B1:=s.out.hn1;have A0:=S0.rq.own;rw[<-B1]at A0;have FR:=Zh A0;have G6:=Zh (show∀A' c' w4,w4.ownsRow 0 178 1 (.slice A' (q+1) c') (q+1) (Gf (rs3++ [(V.slice none 0 0,([]:List Int))]))->(wx.alloc (.cells #[.slice none 0 0] 178)).grownBy w4 (V.slice (some ⟨g3,0,none⟩) q b).ownBlock->((V.slice A' (q+1) c').ownBlock=(V.slice (some ⟨g3,0,none⟩) q b).ownBlock\/(V.slice A' (q+1) c').ownBlock=some (wx.alloc (.cells #[.slice none 0 0] 178)).heap.size)->
         (w4.cell? ⟨db,3,none⟩=some (.slice (some ⟨g3,0,none⟩) q b)/\w4.frozen? ⟨db,3,none⟩=false/\db<w4.heap.size)/\Hid (∃g2 cap2 n2 Q,Vb wd word w O1 db pb used (t+Z) f z n (some ⟨gA,0,none⟩) c rsN g2 cap2 n2 Q (w4.setCell ⟨db,3,none⟩ (.slice A' (q+1) c'))/\(Q=rs3/\q<rs3.length\/Q=rs3++ [(V.slice none 0 0,([]:List Int))]/\q=rs3.length))from λA' c' w4 o4 A6 k4=>by
        have a4:AD (λk=>(V.slice (some ⟨g3,0,none⟩) q b).ownBlock=some k) (wx.alloc (.cells #[.slice none 0 0] 178)) w4:=AD.of_grown A6 λk hk=>hk;have hl:q+1=(rs3++ [(V.slice none 0 0,([]:List Int))]).length:=by rw[ag,B1];rfl
        have Cr:AI w4 db _ 185:=S0.rq.blk.away (F:=λk=>(V.slice (some ⟨g3,0,none⟩) q b).ownBlock=some k) a4 (by have:=S0.rq.rv_tb;exact this);have S4:=S0.grow (rv' :=.slice A' (q+1) c') (W1:=w4) a4 (by rw[<-hl];exact o4) (by
         rcases k4 with k4|k4
         ·exact .inl k4
         ·exact .inr ⟨_,k4,E _⟩)
        obtain⟨g2,rfl⟩:∃g2,A' =some ⟨g2,0,none⟩:=by
         rcases AH o4 with⟨_,h0,_⟩|⟨g,HQ,h1,_⟩
         ·omega
         ·simp only[V.slice.injEq]at h1;exact⟨g,h1.1⟩
        exact⟨⟨Cr.cell rfl,Cr.frozen 3,Cr.lt⟩,Zh ⟨g2,c',q+1,_,s.out.step S4 hl,.inr ⟨rfl,by omega⟩⟩⟩)
       have HD:q<=100000:=by omega
       clear S0 J0 A0 B1;go_wp2_with(at_builtin;refine GS rfl _ _ rfl FR.out (Pa _) HD (X:=(.slice none 0 0,[])) rfl rfl (AI.newAt rfl) rfl ?_;intro A' c' w4 o4 A6 k4;have HR:=G6.out A' c' w4 o4 A6 k4;obtain⟨⟨y3,z3,yl⟩,HG⟩:=HR;clear o4 A6 k4 c3 cl);go_meet;exact⟨rfl,rfl,rfl,HG.out⟩
      ·have f1:((q:Int)==(n3:Int))=false:=by simp;omega
       have HG:=Zh (show∃g2 cap2 n2 Q,Vb wd word w O1 db pb used (t+Z) f z n (some ⟨gA,0,none⟩) c rsN g2 cap2 n2 Q wx/\(Q=rs3/\q<rs3.length\/Q=rs3++ [(V.slice none 0 0,([]:List Int))]/\q=rs3.length)from
        ⟨g3,b,n3,rs3,s.out,.inl ⟨rfl,by rw[<-s.out.hn1];omega⟩⟩)
       go_wp2_with fail;go_meet;exact⟨rfl,rfl,rfl,HG.out⟩
     case rest=>
      obtain⟨rfl,rfl,rfl,g2,cap2,n2,Q,G,A2⟩:=hcut;have u:q<Q.length:=by
       rcases A2 with⟨rfl,h⟩|⟨rfl,h⟩
       ·exact h
       ·rw[ag];simp;omega
      have GC:q<n2:=by rw[G.hn1];exact u
      have Hi:(q:Int)<(n2:Int):=by omega
      obtain⟨⟨yv,yx⟩,ey⟩:∃y,Q[q]'u=y:=⟨_,rfl⟩;have Ar:Q[q]?=some (yv,yx):=by rw[List.getElem?_eq_getElem u,ey]
      have Hr:yx.length<=7300:=by
       rcases A2 with⟨e,_⟩|⟨e,h⟩
       ·subst e;have:=IA rfl (List.mem_of_getElem? Ar);simp only at this;omega
       ·rw[e,List.getElem?_append_right (by omega),h,fp]at Ar;have h3:=congrArg (λo=>(gR (λp:V×List Int=>p.2.length) o)) Ar;simp at h3;omega
      have S8:=(ER.st0 G.rq.rq).next (B.refl wc.heap.size wc).drew;have J8:=G.next (B.refl wc.heap.size wc).drew;obtain⟨GB,r8⟩:=FSx S8.rq G.hn1 q u ey;obtain⟨Ay,cy,rfl⟩:=r8.slice;have C8:=Zh GB;have r:=J8.row _ (Q0 a);rw[HO.out]at r;have Gd:=Ma.of_row r;have HL:=Zh S8;have HJ:=Zh (Zi G A2);have G9:=Zh (λv=>Yv (v:=v) A2 Ar HW.out.2.2.2 HX.out.1 HX.out.2);have Go:q+1<=n2:=GC;clear S8 J8 GB r G A2 Ar c3 f3 cl;have GK:yx.length+xs.length<=1000000:=by omega
      go_upto_region 16 with fail;refine Do 15 _ (λw' =>w'.cell? ⟨db,3,none⟩=some (.slice (some ⟨g2,0,none⟩) n2 cap2)/\w'.cell? ⟨g2,q,none⟩=some (.slice Ay yx.length cy)/\db<w'.heap.size/\g2<w'.heap.size) (by kernel_rfl) (by kernel_rfl) rfl C8.out (λH=> ?_);simp only[bw,dT];refine wpAnyH_take (i:=0) (oi:={dst:=some 90,op:=Op.move (Operand.tmp 0),type:=137,pos:= "req.go:118",after:= #[],guard:=none}) (v:= ?_) rfl (by kernel_rfl) (by kernel_rfl) (by kernel_rfl) (λ_ _ _ h=>h) (Or.inl ⟨by rfl,?_⟩) H ?_;rotate_left
      ·intro w M;try dsimp only at M
       go_simp;try with_reducible rfl
      try simp only[NW,Zp,Zq,Zr]
      refine wpAnyH_take (i:=1) (oi:={dst:=some 91,op:=Op.nilCheck (Operand.tmp 90),type:=0,pos:= "req.go:118",after:= #[{on:=0,ground:=Ground.data}],guard:=none}) (v:= ?_) rfl (by kernel_rfl) (by kernel_rfl) (by kernel_rfl) (λ_ _ _ h=>h) (Or.inl ⟨by rfl,?_⟩) H ?_;rotate_left
      ·intro w M;try dsimp only at M
       go_simp;try with_reducible rfl
      try simp only[NW,Zp,Zq,Zr]
      refine wpAnyH_take (i:=2) (oi:={dst:=some 92,op:=Op.fieldAddr 185 (Operand.tmp 91) 2,type:=0,pos:= "req.go:118",after:= #[{on:=1,ground:=Ground.data}],guard:=none}) (v:= ?_) rfl (by kernel_rfl) (by kernel_rfl) (by kernel_rfl) (λ_ _ _ h=>h) (Or.inl ⟨by rfl,?_⟩) H ?_;rotate_left
      ·intro w M;try dsimp only at M
       go_simp;try with_reducible rfl
      try simp only[NW,Zp,Zq,Zr]
      refine wpAnyH_take (i:=3) (oi:={dst:=some 93,op:=Op.load 183 (Operand.tmp 92),type:=183,pos:= "req.go:118",after:= #[{on:=2,ground:=Ground.data}],guard:=none}) (v:= ?_) rfl (by kernel_rfl) (by kernel_rfl) (by kernel_rfl) (λ_ _ _ h=>h) (Or.inl ⟨by rfl,?_⟩) H ?_;rotate_left
      ·intro w M;try dsimp only at M
       go_simp;try with_reducible rfl
      try simp only[NW,Zp,Zq,Zr]
      refine wpAnyH_take (i:=4) (oi:={dst:=some 94,op:=Op.move (Operand.tmp 5),type:=3,pos:= "req.go:118",after:= #[],guard:=none}) (v:= ?_) rfl (by kernel_rfl) (by kernel_rfl) (by kernel_rfl) (λ_ _ _ h=>h) (Or.inl ⟨by rfl,?_⟩) H ?_;rotate_left
      ·intro w M;try dsimp only at M
       go_simp;try with_reducible rfl
      try simp only[NW,Zp,Zq,Zr]
      refine wpAnyH_take (i:=5) (oi:={dst:=some 95,op:=Op.move (Operand.tmp 0),type:=137,pos:= "req.go:118",after:= #[],guard:=none}) (v:= ?_) rfl (by kernel_rfl) (by kernel_rfl) (by kernel_rfl) (λ_ _ _ h=>h) (Or.inl ⟨by rfl,?_⟩) H ?_;rotate_left
      ·intro w M;try dsimp only at M
       go_simp;try with_reducible rfl
      try simp only[NW,Zp,Zq,Zr]
      refine wpAnyH_take (i:=6) (oi:={dst:=some 96,op:=Op.nilCheck (Operand.tmp 95),type:=0,pos:= "req.go:118",after:= #[{on:=5,ground:=Ground.data}],guard:=none}) (v:= ?_) rfl (by kernel_rfl) (by kernel_rfl) (by kernel_rfl) (λ_ _ _ h=>h) (Or.inl ⟨by rfl,?_⟩) H ?_;rotate_left
      ·intro w M;try dsimp only at M
       go_simp;try with_reducible rfl
      try simp only[NW,Zp,Zq,Zr]
      refine wpAnyH_take (i:=7) (oi:={dst:=some 97,op:=Op.fieldAddr 185 (Operand.tmp 96) 2,type:=0,pos:= "req.go:118",after:= #[{on:=6,ground:=Ground.data}],guard:=none}) (v:= ?_) rfl (by kernel_rfl) (by kernel_rfl) (by kernel_rfl) (λ_ _ _ h=>h) (Or.inl ⟨by rfl,?_⟩) H ?_;rotate_left
      ·intro w M;try dsimp only at M
       go_simp;try with_reducible rfl
      try simp only[NW,Zp,Zq,Zr]
      refine wpAnyH_take (i:=8) (oi:={dst:=some 98,op:=Op.load 183 (Operand.tmp 97),type:=183,pos:= "req.go:118",after:= #[{on:=7,ground:=Ground.data}],guard:=none}) (v:= ?_) rfl (by kernel_rfl) (by kernel_rfl) (by kernel_rfl) (λ_ _ _ h=>h) (Or.inl ⟨by rfl,?_⟩) H ?_;rotate_left
      ·intro w M;try dsimp only at M
       go_simp;try with_reducible rfl
      try simp only[NW,Zp,Zq,Zr]
      refine wpAnyH_take (i:=9) (oi:={dst:=some 99,op:=Op.move (Operand.tmp 5),type:=3,pos:= "req.go:118",after:= #[],guard:=none}) (v:= ?_) rfl (by kernel_rfl) (by kernel_rfl) (by kernel_rfl) (λ_ _ _ h=>h) (Or.inl ⟨by rfl,?_⟩) H ?_;rotate_left
      ·intro w M;try dsimp only at M
       go_simp;try with_reducible rfl
      try simp only[NW,Zp,Zq,Zr]
      refine wpAnyH_take (i:=10) (oi:={dst:=some 100,op:=Op.indexAddr 183 (Operand.tmp 98) (Operand.tmp 99),type:=0,pos:= "req.go:118",after:= #[{on:=8,ground:=Ground.data},{on:=9,ground:=Ground.data}],guard:=none}) (v:= ?_) rfl (by kernel_rfl) (by kernel_rfl) (by kernel_rfl) (λ_ _ _ h=>h) (Or.inl ⟨by rfl,?_⟩) H ?_;rotate_left
      ·intro w M;try dsimp only at M
       go_simp;try with_reducible rfl
      try simp only[NW,Zp,Zq,Zr]
      refine wpAnyH_take (i:=11) (oi:={dst:=some 101,op:=Op.load 178 (Operand.tmp 100),type:=178,pos:= "req.go:118",after:= #[{on:=10,ground:=Ground.data}],guard:=none}) (v:= ?_) rfl (by kernel_rfl) (by kernel_rfl) (by kernel_rfl) (λ_ _ _ h=>h) (Or.inl ⟨by rfl,?_⟩) H ?_;rotate_left
      ·intro w M;try dsimp only at M
       go_simp;try with_reducible rfl
      try simp only[NW,Zp,Zq,Zr]
      refine wpAnyH_take (i:=12) (oi:={dst:=some 102,op:=Op.move (Operand.tmp 6),type:=178,pos:= "req.go:118",after:= #[],guard:=none}) (v:= ?_) rfl (by kernel_rfl) (by kernel_rfl) (by kernel_rfl) (λ_ _ _ h=>h) (Or.inl ⟨by rfl,?_⟩) H ?_;rotate_left
      ·intro w M;try dsimp only at M
       go_simp;try with_reducible rfl
      try simp only[NW,Zp,Zq,Zr]
      refine wpAnyH_ready (rs:=[13]) (by kernel_rfl) (by simp) ?_;refine AllReadyH.cons (o:={dst:=some 103,op:=Op.call {callee:=Callee.builtin Builtin.append,args:= #[Operand.tmp 101,Operand.tmp 102],argTypes:= #[178,178]},type:=178,pos:= "req.go:118",after:= #[{on:=11,ground:=Ground.data},{on:=12,ground:=Ground.data}],guard:=none}) rfl (λK hK=> ?_) AllReadyH.nil;refine Ff rfl _ _ 178 rfl underlying178 rfl rfl r8 Gd GK ?_;intro G3 w11 Ck C0 D1;obtain⟨A3,A8,L,hL,rfl⟩:∃A c L,L=(yx++xs).length/\G3=.slice A L c:=by
       obtain⟨A3,A8,e⟩:=Ck.slice;exact⟨A3,A8,_,rfl,e⟩
      obtain⟨HT,Hk,GH⟩:=KN HL.out HJ.out.1.hn1 q u ey Ck C0 D1;have E1:=Zh GH;have Hc:g2<w11.heap.size:=HT.2.2.2;clear Ck C0 D1 hL GH;refine hK.out _ _ (by assumption) (λH=> ?_);clear hK K;try simp only[NW,Zp,Zq,Zr]
      refine wpAnyH_take (i:=14) (oi:={dst:=some 104,op:=Op.indexAddr 183 (Operand.tmp 93) (Operand.tmp 94),type:=0,pos:= "req.go:118",after:= #[{on:=3,ground:=Ground.data},{on:=4,ground:=Ground.data},{on:=0,ground:=Ground.phase},{on:=1,ground:=Ground.phase},{on:=2,ground:=Ground.phase},{on:=3,ground:=Ground.phase},{on:=4,ground:=Ground.phase},{on:=5,ground:=Ground.phase},{on:=6,ground:=Ground.phase},{on:=7,ground:=Ground.phase},{on:=8,ground:=Ground.phase},{on:=9,ground:=Ground.phase},{on:=10,ground:=Ground.phase},{on:=11,ground:=Ground.phase},{on:=12,ground:=Ground.phase},{on:=13,ground:=Ground.phase}],guard:=none}) (v:= ?_) rfl (by kernel_rfl) (by kernel_rfl) (by kernel_rfl) (λ_ _ _ h=>h) (Or.inl ⟨by rfl,?_⟩) H ?_;rotate_left
      ·intro w M;try dsimp only at M
       go_simp;try with_reducible rfl
      try simp only[NW,Zp,Zq,Zr]
      refine wpAnyH_done (by kernel_rfl) ?_ _;unfold Dn;obtain⟨p1,p2⟩:=G9.out (.slice A3 L A8);have Al:=HW.out.1;rw[HW.out.2.1]at Al;have hJ:=HJ.out.1.step E1.out (by rw[List.length_set];exact HJ.out.1.hn1);have HF:=Zh (Zi hJ (Zi p1 (show wS (Bf (Q.set q (V.slice A3 L A8,yx++xs)))=t+wS ((Bf rsN).take (q+1)) by rw[p2,HW.out.2.2.1,Al];omega)));clear p1 p2 Al hJ E1;go_wp2_with fail;go_roundg (n-(q+1));case measure=>omega
      exact⟨q+1,g2,cap2,n2,_,by go_num,by omega,E _,HF.out.1,HF.out.2.1,HF.out.2.2,Go⟩
    ·have e1:¬(q:Int)<(n:Int):=by omega
     have B0:q=n:=by omega
     rw[aw (by rw[Ag,<-HN.out.2];omega),HN.out.1,HK.out.2.2.1]at hs;have GF:=ME wd h4 HC word wx db pb used _ rs3 (t+Z) f z G.rq.rq ok hs (by omega) (by omega);have s:=Zh G;clear G ok hs B0;go_wp2_with fail;refine GF.mono ?_;rintro e G8 ⟨rfl,E5,Fn,E0,E3,Bb,BA,HY,BR⟩;have Av:=s.out.rq.andThen E3;rw[<-G2.out]at Av;have HF:=Zh (show Dv (Oy wd word) w db (EE db pb (.slice (some ⟨g1,0,none⟩) rs.length cap1) rs) vals Y (R (I J 0)) G8 from
      ⟨0,_,rfl,λ_=>⟨pb,E5,Fn,E0,f,z,by rw[d.out];exact Av.rq,Bb,by rw[d.out];exact BA,BR,by rw[d.out];omega,HI.out.1,HI.out.2,rfl⟩,Av.st.sub,Av.st.away⟩)
     clear GF E3 Bb BA BR Av;go_wp2_with fail;go_ret;exact HF.out
theorem Yw{M o a K Q}{D:Prop}(Y:o.guard=N)(s x)(ho:o.op=.call {callee:=.builtin .append,args:= #[s,x],argTypes:= #[183,183]})
  {W B n rv}{rs:DZ}(H:W.ownsRow B 178 1 rv n (Gf rs))(hB:B<=W.heap.size)(g:n<=100000){X:V×List Int}{b}(hs:a.eval s=rv)(hx:a.eval x=L (S ⟨b,0,N⟩) 1 1)(k:AI W b #[X.1] 178)(O:X.1.oneCell' =true)
  (h:∀A' c' Z,Z.ownsRow B 178 1 (L A' (n+1) c') (n+1) (Gf (rs++ [X]))->W.grownBy Z rv.ownBlock->((L A' (n+1) c').ownBlock=rv.ownBlock\/(L A' (n+1) c').ownBlock=S W.heap.size)->K (a.put o.dst (L A' (n+1) c')) Z):
  if Region.wanted o (yielded M a.tmps)=true then Oper.wp prog o a W K Q else D:=by
 have hw:Region.wanted o (yielded M a.tmps)=true:=by simp[Region.wanted,Y]
 rw[if_pos hw];obtain⟨z,hi,d,e,f⟩:=info_parts UK;have F:∀j u,(Gf [X])[j]?=S u->W.cell? ((⟨b,0,N⟩:Addr).add j)=S u:=by
  intro j u hj;rw[gS,fw];exact k.cell (by simpa[Gf]using hj)
 have y:∀u∈Gf [X],u.oneCell' =true:=by
  intro u i;simp[Gf]at i;rw[i];exact O
 obtain⟨v',w',hr,G,p,_,r⟩:=run_append_own_at (P:=prog) W B 183 o.type 178 z _ 1 24 underlying183 hi d e f rfl (by decide) _ _ _ H ⟨b,0,N⟩ 1 1 (Gf [X]) rfl F y (by unfold maxLen;omega) (by omega) hB;obtain⟨A',c',rfl⟩:=AF G;rw[<-MB]at G;unfold Oper.wp execOp;simp only[ho,resolve,invoke,builtin,Sem.run_bind,Sem.run_pure,Result.andThen_ok,List.map_toArray,List.map_cons,List.map_nil,hs,hx,hr];exact h A' c' w' G p r
structure Rp(wd wn:Nat)(w:World)(xb tb pb q:Nat)(A:Option Addr)(c:Nat)(rs1:DZ)(T:Nat)(W:World):Prop where
 rq:DN wd (wn:Int) W tb pb 0 (L A q c) rs1 T 0 0
 bx:AI W xb #[I J wd,I U wn] 141
 below:B w.heap.size w W
 new:∀k,EE tb pb (L A q c) rs1 k->w.heap.size<=k
 len:q=rs1.length
section
variable {wd wn:Nat} {w:World} {xb tb pb q:Nat} {A:Option Addr} {c:Nat} {rs1:DZ} {T:Nat} {W W' W0 W1:World}
theorem Rp.next(h:Rp wd wn w xb tb pb q A c rs1 T W)(b:B W.heap.size W W'):Rp wd wn w xb tb pb q A c rs1 T W' :=⟨h.rq.next b,h.bx.below b h.bx.lt,h.below.trans (b.mono h.below.size),h.new,h.len⟩
theorem Rp.drew(h:Rp wd wn w xb tb pb q A c rs1 T W):Rp wd wn w xb tb pb q A c rs1 T W.drew:=h.next (B.refl _ _).drew
theorem DN.clear{word us rv}{rs:DZ}{t lo hi}(h:DN wd word W tb pb us rv rs t lo hi):DN wd word (W.setCell ⟨tb,3,N⟩ (L N 0 0)) tb pb us (L N 0 0) [] t lo hi:=
 ⟨h.blk.set 3 _,AI.other h.tape ⟨tb,3,N⟩ _ (Ne.symm h.ne_pb),World.ownsRow_nil _ _ _ _,λx D=>absurd D fj,fy⟩
theorem Rp.push{A'}{c' :Nat}{X:V×List Int}(h:Rp wd wn w xb tb pb q A c rs1 T W)(b:B W.heap.size W W0)(l:BD W0 X.1 X.2)(f:∀k,X.1.ownBlock=S k->W.heap.size<=k)
  (o:W1.ownsRow 0 178 1 (L A' (q+1) c') (q+1) (Gf (rs1++ [X])))(g:W0.grownBy W1 (L A q c).ownBlock)(kk:(L A' (q+1) c').ownBlock=(L A q c).ownBlock\/(L A' (q+1) c').ownBlock=S W0.heap.size)(z)(r :Nat)(hz:z=I U (r :Int)):
  (W1.cell? ⟨tb,3,N⟩=S (L A q c)/\W1.cell? ⟨tb,4,N⟩=S (I U T)/\W1.frozen? ⟨tb,3,N⟩=false/\W1.frozen? ⟨tb,4,N⟩=false/\tb<W1.heap.size)/\
  Rp wd wn w xb tb pb (q+1) A' c' (rs1++ [X]) r ((W1.setCell ⟨tb,3,N⟩ (L A' (q+1) c')).setCell ⟨tb,4,N⟩ z):=by
 subst hz;have G:=(h.next b).rq;have u:=b.size;have Y:=h.below.size;have a:AD (λk=>(L A q c).ownBlock=S k) W0 W1:=AD.of_grown g λk F=>F;have H:AI W1 tb _ 185:=G.blk.away a G.rv_tb;have hp:AI W1 pb _ 225:=AI.away G.tape a G.rv_pb;have AA:=h.rq.blk.lt;have Q:∀k,X.1.ownBlock=S k->¬(L A q c).ownBlock=S k:=λk F e=>by
  have:=(h.rq.own.lt k e).2;have:=f k F;omega
 have s:(L A' (q+1) c').ownBlock≠S tb:=λd=>by
  obtain⟨Z,j⟩:=AJ o d;exact(H.ne j (by decide)) rfl
 have O:X.1.ownBlock≠S tb:=λe=>by have:=f tb e;omega
 have K:AI W1 xb _ 141:=(h.next b).bx.away a λe=>by
  obtain⟨Z,j⟩:=AJ G.own e;exact(j.ne (h.next b).bx (by decide)) rfl
 have M:xb≠tb:=K.ne H (by decide);have row' :∀x∈rs1++ [X],BD W1 x.1 x.2/\x.1.ownBlock≠S tb:=λx D=>by
  rcases List.mem_append.1 D with D|D
  ·exact⟨(G.row x D).away a λg hg e=>G.row_rv D e hg,G.row_tb D⟩
  ·rw[List.mem_singleton.1 D];exact⟨l.away a Q,O⟩
 refine⟨⟨H.cell rfl,H.cell rfl,H.frozen 3,H.frozen 4,H.lt⟩,⟨⟨(H.set 3 _).set 4 _,AI.other (AI.other hp ⟨tb,3,N⟩ _ (Ne.symm G.ne_pb)) ⟨tb,4,N⟩ _ (Ne.symm G.ne_pb),?_,λx D=>((row' x D).1.other ⟨tb,3,N⟩ _ (row' x D).2).other ⟨tb,4,N⟩ _ (row' x D).2,List.pairwise_append.2 ⟨h.rq.ap,fk _ _,λx D y hy=> ?_⟩⟩,AI.other (AI.other K ⟨tb,3,N⟩ _ M) ⟨tb,4,N⟩ _ M,?_,λk F=> ?_,by rw[ag,<-h.len];rfl⟩⟩
 ·have e:(rs1++ [X]).length=q+1:=by rw[ag,<-h.len];rfl
  rw[e];exact AN (AN o ⟨tb,3,N⟩ _ s) ⟨tb,4,N⟩ _ s
 ·rw[List.mem_singleton.1 hy];intro i hi d;have:=f i d;have:=(h.rq.row x D).lt hi;omega
 ·have h1:B w.heap.size w W1:=(h.below.trans (b.mono Y)).trans (a.below (by omega) λk F e=>by have:=h.new k (.inr (.inr (.inl e)));omega);exact(h1.setCell (p:=⟨tb,3,N⟩) (h.new tb (.inl rfl)) _).setCell (p:=⟨tb,4,N⟩) (h.new tb (.inl rfl)) _
 ·rcases F with F|F|F|⟨x,D,F⟩
  ·exact h.new k (.inl F)
  ·exact h.new k (.inr (.inl F))
  ·rcases kk with e|e
   ·exact h.new k (.inr (.inr (.inl (by rw[<-e];exact F))))
   ·have:W0.heap.size=k:=by rw[e]at F;exact es F
    omega
  ·rcases List.mem_append.1 D with D|D
   ·exact h.new k (.inr (.inr (.inr ⟨x,D,F⟩)))
   ·rw[List.mem_singleton.1 D]at F;have:=f k F;omega
theorem Rp.fin(h:Rp wd wn w xb tb pb q A c rs1 T W)(u:Nat)(lo hi:Int):
  DN wd (wn:Int) (((W.setCell ⟨pb,1,N⟩ (I J u)).setCell ⟨tb,5,N⟩ (I J lo)).setCell ⟨tb,6,N⟩ (I J hi)) tb pb u (L A q c) rs1 T lo hi/\B w.heap.size w (((W.setCell ⟨pb,1,N⟩ (I J u)).setCell ⟨tb,5,N⟩ (I J lo)).setCell ⟨tb,6,N⟩ (I J hi))/\
  AI (W.setCell ⟨pb,1,N⟩ (I J u)) tb #[I J wd,I U wn,P (S ⟨pb,0,N⟩),L A q c,I U T,I J 0,I J 0] 185:=by
 have D:DN wd (wn:Int) (W.setCell ⟨pb,1,N⟩ (I J u)) tb pb u (L A q c) rs1 T 0 0:=h.rq.coin (AI.set h.rq.tape 1 _) (AD.setCell (AD.refl _ _) ⟨pb,1,N⟩ _ (.inl rfl));have F:=(h.below.setCell (p:=⟨pb,1,N⟩) (h.new pb (.inr (.inl rfl))) (I J u));exact⟨(D.low lo).high hi,(F.setCell (p:=⟨tb,5,N⟩) (h.new tb (.inl rfl)) _).setCell (p:=⟨tb,6,N⟩) (h.new tb (.inl rfl)) _,D.blk⟩
end
def UO(wd wn:Nat)(w:W)(u:Nat)(lo hi:Int)(rows:CM)(e:Ending)(w' :W):Prop:=∃(po:Option Addr) (code:Int),e=R (T #[P po,I J code])/\B w.heap.size w w' /\
 (code=0->∃tb pb rv rs',po=S ⟨tb,0,N⟩/\DN wd (wn:Int) w' tb pb u rv rs' (wS rows) lo hi/\Bf rs' =rows/\∀k,EE tb pb rv rs' k->w.heap.size<=k)
theorem bJ(wd wn:Nat)(BR:4<=wd/\wd<=64/\(wd:Int).tmod 4=0)(w)(n:Nat)(Av)(cv:Nat)(rsN:DZ)(A4:w.ownsRow 0 178 1 (L Av n cv) n (Gf rsN))(B5:∀x∈rsN,BD w x.1 x.2)(Ac:Bx (Bf rsN))(Bw:∀x∈rsN,x.2.length<wd)(hT:wS (Bf rsN)<=7300)(u:Nat)(lo hi:Int)(A2:n=rsN.length):
  C prog 83 #[.agg #[I J wd,I U wn],L Av n cv,I J u,I J lo,I J hi] w (UO wd wn w u lo hi (Bf rsN)):=by
 have A5:=MD Ac rfl hT;have Bs:=MC Ac;have E7:1<=n:=by rw[A2];exact List.length_pos_iff.2 Bs
 have E4:n<=14:=by rw[A2];exact A5
 have b0:B w.heap.size w (w.alloc (.cells #[I J wd,I U wn] 141)):=Za;have x0:AI (w.alloc (.cells #[I J wd,I U wn] 141)) w.heap.size #[I J wd,I U wn] 141:=AI.newAt rfl;have B3:=Yt (w.alloc (.cells #[I J wd,I U wn] 141)) (wd:Int) (wn:Int);have z:=Zh (Zi A4 (Zi B5 (Zi Ac (Zi Bw (Zi hT A2)))));have y:=Zh (Zi b0 x0);have C0:=Zh BR;have E3:wd<=64:=BR.2.1;clear A4 B5 Ac Bw hT A2 b0 x0 BR A5 Bs;go_enter func83,ntmps83;go_wp2_with fail;refine B3.mono ?_;rintro e w1 ⟨po,B1,rfl,Q,A3,f⟩;obtain rfl:B1=0:=A3.2 (by have:=C0.out;omega);obtain⟨tb,pb,g,rfl,RQ,l1,l2,l3⟩:=f rfl;rw[gT]at RQ;obtain⟨H,c1,c2,c3,c4,c5,c6,s,f4,f5,f6,cl⟩:=RQ.cells;have A0:=Zh (show Rp wd wn w w.heap.size tb pb 0 N 0 [] 0 (w1.setCell ⟨tb,3,N⟩ (L N 0 0))from by
  have hs:=y.out.1.size;have E8:=y.out.2.lt;refine⟨RQ.clear,AI.other (y.out.2.below Q y.out.2.lt) ⟨tb,3,N⟩ _ (by show w.heap.size≠tb;omega),(y.out.1.trans (Q.mono hs)).setCell (p:=⟨tb,3,N⟩) (by show w.heap.size<=tb;omega) _,λk hk=> ?_,rfl⟩;rcases hk with rfl|rfl|hk|⟨x,hx,hk⟩
  ·omega
  ·omega
  ·cases hk
  ·cases hx)
 have g1:¬(n:Int)<1:=by omega
 have g2:¬(16:Int)<(n:Int):=by omega
 have g3:¬(u:Int)<0:=by omega
 have E0 :decide ((n:Int)<1)=false:=by simp;omega
 have Cs :decide ((16:Int)<(n:Int))=false:=by simp;omega
 have C1:¬n<1:=by omega
 have E1:¬16<n:=by omega
 have C2:¬n=0:=by omega
 clear B3 Q A3 f RQ l1 l2 l3 y;go_wp2_with fail;generalize w1.setCell ⟨tb,3,N⟩ (L N 0 0)=w2 at A0⊢;generalize w.heap.size=xb at A0⊢;clear H c1 c2 c3 c4 c5 c6 s f4 f5 f6 cl g1 g2 E0 Cs C1 E1 C2 g3;go_loopg [43] n (λg i F=>∃(q:Nat) (A:Option Addr) (c:Nat) (rs1:DZ) (T:Nat),i=I J q/\q<=n/\n-q<=g/\Rp wd wn w xb tb pb q A c rs1 T F/\Hid (Bf rs1=(Bf rsN).take q/\T=wS ((Bf rsN).take q)));case atStart=>exact⟨0,N,0,[],0,rfl,Pa _,E _,A0.out,Zh ⟨by simp[Bf],by simp[wS]⟩⟩
 case round=>
  clear A0;rename World=>F;obtain⟨q,A,c,rs1,T,rfl,hq,hg,S,HR⟩:=hrel;by_cases D8:q<n
  ·have e1:(q:Int)<(n:Int):=by omega
   have G:q<rsN.length:=by rw[<-z.out.2.2.2.2.2];exact D8
   have Aw:q<(Bf rsN).length:=by rw[Ag];exact G
   have AA:=UH (Bf rsN) q Aw;have C8:=GR (Bf rsN) (q+1);obtain⟨gA,rfl⟩:∃gA,Av=some ⟨gA,0,N⟩:=by
    rcases AH z.out.1 with⟨_,h0,_⟩|⟨g,FR,f,_⟩
    ·omega
    ·simp only[L.injEq]at f;exact⟨g,f.1⟩
   have BX:=AE z.out.1 S.below λg hg=>(z.out.1.lt g hg).2;have pN:=BX.cellAt q (by omega);rw[Kj rsN q G]at pN;have D0:=(BX.lt gA rfl).2;have Al:=(z.out.2.1 _ (Q0 G)).next S.below;have Ba:=z.out.2.2.2.1 _ (Q0 G);have A1:(Bf rsN)[q]'Aw=(rsN[q]'G).2:=FP rsN q G;have Ar:(Bf rsN).take (q+1)=(Bf rsN).take q++ [(rsN[q]'G).2]:=by rw[ej Aw,A1]
   have d:q≠0->(rsN[q]'G).2≠ []:=λh0 e=>UN z.out.2.2.1 q Aw h0 (by rw[A1];exact e);rw[A1]at AA;obtain⟨⟨xv,xs⟩,ex⟩:∃x,rsN[q]'G=x:=⟨_,rfl⟩;rw[ex]at pN Al Ar Ba AA d;simp only at pN Al Ar Ba AA d;obtain⟨Ax,cx,rfl⟩:=Al.slice;obtain⟨m,hm⟩:∃m,m=xs.length:=⟨_,rfl⟩;rw[<-hm]at pN Ba AA;obtain⟨M,hM⟩:∃M,M=m*2^q:=⟨_,rfl⟩;have E6:T+M<=7300:=by
    have f:=HR.out.2;have h2:=z.out.2.2.2.2.1;rw[gU]at hM;omega
   have B9:U.wrap ((m:Int)*2^q)=(M:Int):=by
    have e:(m:Int)*2^q=(M:Int):=by rw[hM];simp
    rw[e,RR];omega
   have D1:Op.shift .shl U m J q=pure (I U M):=by
    rw[shift_shl U J m (q:Int) (by omega) (by show(q:Int)<=64;omega),gT,B9]
   have C3:U.wrap (m:Int)=(m:Int):=by rw[RR];omega
   have A8:=λW b h0 f=>Az W b T M (by omega) h0 f;obtain⟨T2,Ay⟩:∃T2,T2=T+M:=⟨_,rfl⟩;simp only[<-Ay]at A8;have Bt:=Zh (show(∀v,Bf (rs1++ [(v,xs)])=(Bf rsN).take (q+1))/\T2=wS ((Bf rsN).take (q+1))from⟨λv=>by rw[Ew,HR.out.1,Ar];rfl,by rw[AA,Ay,HR.out.2,hM,gU]⟩);have HX:=Zh (Zi hm (show q≠0->m≠0 from λh0 e=>d h0 (fa (by omega))));have D5:=Zh (show∀W,B w.heap.size w W->BD W (L Ax xs.length cx) xs from λW b=>by
    have:=(z.out.2.1 _ (Q0 G)).next b;rw[ex]at this;exact this)
   have HS:=Zh S;obtain⟨H,c1,c2,c3,c4,c5,c6,s,f4,f5,f6,cl⟩:=S.rq.cells;have E5:(m:Int)<(wd:Int):=by omega
   clear AA C8 BX Al A1 Ar hM d S hm ex;go_upto_region 10 with fail;go_cut [16,17]from 48 to 61 (λnn ok wy=>nn=I U T2/\ok=.bool true/\Rp wd wn w xb tb pb q A c rs1 T wy);case first=>
    have HK:=Zh (HS.out.drew.next ((B.refl _ _).alloc (E _) (.cells #[I U T,I U M] 23)));clear HS Ay;go_region_with(go_at_call 90;refine(A8 _ _ (by simp) (by simp)).mono ?_;rintro e w5 ⟨rfl,rfl⟩);all_goals(
     go_wp2_with fail;go_meet;exact⟨rfl,rfl,HK.out⟩)
   case rest=>
    obtain⟨rfl,rfl,S5⟩:=hcut;rename World=>w5;clear HS A8 D1 B9 C3 H c1 c2 c3 c4 c5 c6 s f4 f5 f6 cl pN D0 Ay;have x0:w5.cell? ⟨xb,0,N⟩=some (I J wd):=S5.bx.cell rfl;have xl:=S5.bx.lt;have Ap:=Zh S5;have Cp:decide ((wd:Int)<=(m:Int))=false:=by simp;omega
    have B4:decide (wd<=m)=false:=by simp;omega
    clear S5;go_upto_region 11 with fail;go_cut [86]from 62 to 86 (λr wy=>r=.bool false/\Rp wd wn w xb tb pb q A c rs1 T wy);case first=>
     by_cases BQ:q=0
     ·have f1:decide ((0:Int)<(q:Int))=false:=by simp;omega
      have D4:decide (0<q)=false:=by simp;omega
      clear BQ;go_wp2_with fail;go_meet;exact⟨rfl,Ap.out⟩
     ·have f1:decide ((0:Int)<(q:Int))=true:=by simp;omega
      have D4:decide (0<q)=true:=by simp;omega
      have Cr:=HX.out.2 BQ;have s:((m:Int)==0)=false:=by simp;omega
      have Fn:(m==0)=false:=by simp;omega
      clear BQ Cr;by_cases B2:q+1=n
      ·have f2:((q:Int)==(n:Int)-1)=true:=by simp;omega
       clear B2;go_wp2_with fail;go_meet;exact⟨rfl,Ap.out⟩
      ·have f2:((q:Int)==(n:Int)-1)=false:=by simp;omega
       clear B2;go_wp2_with fail;go_meet;exact⟨rfl,Ap.out⟩
    case rest=>
     obtain⟨rfl,S6⟩:=hcut;rename World=>w6;clear Ap x0 xl Cp B4;obtain⟨H,c1,c2,c3,c4,c5,c6,s,f4,f5,f6,cl⟩:=S6.rq.cells;have Bb:=UL w6.drew _ xs (D5.out _ (S6.below.trans (((B.refl w6.heap.size w6).drew).mono S6.below.size))) (by have:=HX.out.1;omega);rw[<-HX.out.1]at Bb;have D3:=Zh (show∀a o c7,B w6.heap.size w6 a->a.ownsRow w6.heap.size 2 1 (L o m c7) m (BG xs)->
       (a.cell? ⟨tb,3,N⟩=some (L A q c)/\tb<a.heap.size)/\Hid ((a.alloc (.cells #[L o m c7] 178)).ownsRow 0 178 1 (L A q c) q (Gf rs1)/\∀A' c' w9,w9.ownsRow 0 178 1 (L A' (q+1) c') (q+1) (Gf (rs1++ [(L o m c7,xs)]))->(a.alloc (.cells #[L o m c7] 178)).grownBy w9 (L A q c).ownBlock->((L A' (q+1) c').ownBlock=(L A q c).ownBlock\/(L A' (q+1) c').ownBlock=some (a.alloc (.cells #[L o m c7] 178)).heap.size)->
        (w9.cell? ⟨tb,3,N⟩=some (L A q c)/\w9.cell? ⟨tb,4,N⟩=some (I U T)/\w9.frozen? ⟨tb,3,N⟩=false/\w9.frozen? ⟨tb,4,N⟩=false/\tb<w9.heap.size)/\
        Hid (Rp wd wn w xb tb pb (q+1) A' c' (rs1++ [(L o m c7,xs)]) T2 ((w9.setCell ⟨tb,3,N⟩ (L A' (q+1) c')).setCell ⟨tb,4,N⟩ (I U T2))))from λa o c7 b7 o7=>by
      have S7:=S6.next b7;have ba:B a.heap.size a (a.alloc (.cells #[L o m c7] 178)):=Za;have S8:=S7.next ba;have b8:=b7.trans (ba.mono b7.size);refine⟨⟨S7.rq.cells.2.2.2.1,S7.rq.blk.lt⟩,Zh ⟨by have:=S8.rq.own;rw[<-S8.len]at this;exact this,λA' c' w9 o9 g9 k9=> ?_⟩⟩;have C4:BD a (L o m c7) xs:=by
       have h:=HX.out.1;rw[h]at o7⊢;exact BD.of_owns o7
      have r:=S6.push (A' :=A') (c' :=c') (X:=(L o m c7,xs)) b8 (C4.next ba) (λk hk=>(o7.lt k hk).1) o9 g9 k9 (I U T2) T2 rfl;exact⟨r.1,Zh r.2⟩)
     have E2:q<=100000:=by omega
     clear S6 H c1 c2 c4 c5 c6 s f4 f5 f6;go_upto_region 13 with fail;go_region_law (first
      |(go_simp;go_at_call 104;refine Bb.mono ?_;rintro e a ⟨v7,rfl,o7,b7⟩;obtain⟨o,c7,rfl⟩:=AF o7;try dsimp only;have D2:=D3.out a o c7 ((B.refl w6.heap.size w6).drew.trans b7) o7;obtain⟨⟨d3,dl⟩,CL⟩:=D2;clear o7 b7)
      |(refine Yw rfl _ _ rfl CL.out.1 (Pa _) E2 (X:=(L o m c7,xs)) rfl rfl (AI.newAt rfl) rfl ?_;intro A' c' w9 o9 g9 k9;have C9:=CL.out.2 A' c' w9 o9 g9 k9;obtain⟨⟨y3,y4,z3,z4,yl⟩,HG⟩:=C9;clear o9 g9 k9))
     all_goals(
      clear Bb;go_wp2_with fail;go_roundg (n-(q+1));case measure=>omega
      exact⟨q+1,A',c',_,T2,by go_num,by omega,E _,HG.out,Zh ⟨Bt.out.1 _,Bt.out.2⟩⟩)
  ·have e1:¬(q:Int)<(n:Int):=by omega
   obtain rfl:q=n:=by omega
   have HS:=Zh S;obtain⟨H,c1,c2,c3,c4,c5,c6,s,f4,f5,f6,cl⟩:=S.rq.cells;have E9:T<=7300:=by
    have:=HR.out.2;rw[aw (by rw[Ag];have:=z.out.2.2.2.2.2;omega)]at this;have:=z.out.2.2.2.2.1;omega
   obtain⟨mm,Ck⟩:∃mm,mm=wd*1024:=⟨_,rfl⟩;have O:=λW H=>Jk wd (by omega) W tb H;rw[<-Ck]at O;have HF:=Zh (show∀W,B F.heap.size F W->UO wd wn w u lo hi (Bf rsN) (R (.tuple #[P N,I J 1])) W from λW b=>⟨N,1,rfl,(HS.out.next b).below,λh=>by cases h⟩);clear S Ck;by_cases k1:mm<T
   ·have d1:decide ((mm:Int)<(T:Int))=true:=by simp;omega
    have BA:decide (mm<T)=true:=by simp;omega
    go_upto_region 15 with fail;go_quiet((go_at_call 105;refine C.quiet_of_same ((O _ (by simpa using H)).mono λe w' Y=>⟨Y.1,Y.2.symm⟩)));have Q:B F.heap.size F (F.drewN nq):=⟨rfl,rfl,rfl,E _,λ_ _=>rfl⟩;have Z:=Zh (HF.out _ Q);go_wp2_with fail;go_ret2;exact Z.out
   ·have d1:decide ((mm:Int)<(T:Int))=false:=by simp;omega
    have BA:decide (mm<T)=false:=by simp;omega
    by_cases k2:hi<lo
    ·have d2:decide (hi<lo)=true:=by simp;omega
     go_upto_region 15 with fail;go_quiet((go_at_call 105;refine C.quiet_of_same ((O _ (by simpa using H)).mono λe w' Y=>⟨Y.1,Y.2.symm⟩)));have Q:B F.heap.size F (F.drewN nq):=⟨rfl,rfl,rfl,E _,λ_ _=>rfl⟩;have Z:=Zh (HF.out _ Q);go_wp2_with fail;go_ret2;exact Z.out
    ·have d2:decide (hi<lo)=false:=by simp;omega
     by_cases k3:T=0
     ·have d3:((T:Int)==0)=true:=by simp;omega
      have A9:(T==0)=true:=by simp;omega
      by_cases k4:lo=0
      ·have d4:(lo !=0)=false:=by simp;omega
       have Bu:(lo==0)=true:=by simp;omega
       by_cases k5:hi=0
       ·have d5:(hi !=0)=false:=by simp;omega
        have B0:(hi==0)=true:=by simp;omega
        clear k1 k2 k3 k4 k5;go_upto_region 15 with fail;go_quiet((go_at_call 105;refine C.quiet_of_same ((O _ (by simpa using H)).mono λe w' Y=>⟨Y.1,Y.2.symm⟩)));have Q:B F.heap.size F (F.drewN nq):=⟨rfl,rfl,rfl,E _,λ_ _=>rfl⟩;have S1:=HS.out.next Q;generalize F.drewN nq=w3 at S1⊢;clear Q H c1 c2 c3 c4 c5 c6 s f4 f5 f6 cl O HF d1 BA d2 d3 A9 d4 Bu d5 B0;obtain⟨H,c1,c2,c3,c4,c5,c6,s,f4,f5,f6,cl⟩:=S1.rq.cells;have Ab:=NN w3 pb (wn:Int) 0 u S1.rq.tape;have K:=Zh (S1.fin u lo hi);have A6:=Zh S1;clear S1;go_wp2_with fail;refine Ab.mono ?_;rintro e w4 ⟨rfl,rfl⟩;have D:=K.out.2.2;have d5:=D.cell (j:=5) rfl;have d6:=D.cell (j:=6) rfl;have e5:=D.frozen 5;have e6:=D.frozen 6;have dl:=D.lt;have Aa:=Zh (show UO wd wn w u lo hi (Bf rsN) (R (.tuple #[P (some ⟨tb,0,N⟩),I J 0])) (((w3.setCell ⟨pb,1,N⟩ (I J u)).setCell ⟨tb,5,N⟩ (I J lo)).setCell ⟨tb,6,N⟩ (I J hi))from by
         have hl:(Bf rsN).take q=Bf rsN:=aw (by rw[Ag];have:=z.out.2.2.2.2.2;omega);have f:=K.out.1;rw[HR.out.2,hl]at f;exact⟨_,0,rfl,K.out.2.1,λ_=>⟨tb,pb,_,rs1,rfl,f,by rw[HR.out.1,hl],A6.out.new⟩⟩)
        generalize w3.setCell ⟨pb,1,N⟩ (I J u)=w4 at Aa d5 d6 e5 e6 dl⊢;clear Ab K D H c1 c2 c3 c4 c5 c6 s f4 f5 f6 cl;go_wp2_with fail;go_ret2;exact Aa.out
       ·have d5:(hi !=0)=true:=by simp;omega
        have B0:(hi==0)=false:=by simp;omega
        clear k1 k2 k3 k4 k5;go_upto_region 15 with fail;go_quiet((go_at_call 105;refine C.quiet_of_same ((O _ (by simpa using H)).mono λe w' Y=>⟨Y.1,Y.2.symm⟩)));have Q:B F.heap.size F (F.drewN nq):=⟨rfl,rfl,rfl,E _,λ_ _=>rfl⟩;have Z:=Zh (HF.out _ Q);go_wp2_with fail;go_ret2;exact Z.out
      ·have d4:(lo !=0)=true:=by simp;omega
       have Bu:(lo==0)=false:=by simp;omega
       clear k1 k2 k3 k4;go_upto_region 15 with fail;go_quiet((go_at_call 105;refine C.quiet_of_same ((O _ (by simpa using H)).mono λe w' Y=>⟨Y.1,Y.2.symm⟩)));have Q:B F.heap.size F (F.drewN nq):=⟨rfl,rfl,rfl,E _,λ_ _=>rfl⟩;have Z:=Zh (HF.out _ Q);go_wp2_with fail;go_ret2;exact Z.out
     ·have d3:((T:Int)==0)=false:=by simp;omega
      have A9:(T==0)=false:=by simp;omega
      clear k1 k2 k3;go_upto_region 15 with fail;go_quiet((go_at_call 105;refine C.quiet_of_same ((O _ (by simpa using H)).mono λe w' Y=>⟨Y.1,Y.2.symm⟩)));have Q:B F.heap.size F (F.drewN nq):=⟨rfl,rfl,rfl,E _,λ_ _=>rfl⟩;have S1:=HS.out.next Q;generalize F.drewN nq=w3 at S1⊢;clear Q H c1 c2 c3 c4 c5 c6 s f4 f5 f6 cl O HF d1 BA d2 d3 A9;obtain⟨H,c1,c2,c3,c4,c5,c6,s,f4,f5,f6,cl⟩:=S1.rq.cells;have Ab:=NN w3 pb (wn:Int) 0 u S1.rq.tape;have K:=Zh (S1.fin u lo hi);have A6:=Zh S1;clear S1;go_wp2_with fail;refine Ab.mono ?_;rintro e w4 ⟨rfl,rfl⟩;have D:=K.out.2.2;have d5:=D.cell (j:=5) rfl;have d6:=D.cell (j:=6) rfl;have e5:=D.frozen 5;have e6:=D.frozen 6;have dl:=D.lt;have Aa:=Zh (show UO wd wn w u lo hi (Bf rsN) (R (.tuple #[P (some ⟨tb,0,N⟩),I J 0])) (((w3.setCell ⟨pb,1,N⟩ (I J u)).setCell ⟨tb,5,N⟩ (I J lo)).setCell ⟨tb,6,N⟩ (I J hi))from by
       have hl:(Bf rsN).take q=Bf rsN:=aw (by rw[Ag];have:=z.out.2.2.2.2.2;omega);have f:=K.out.1;rw[HR.out.2,hl]at f;exact⟨_,0,rfl,K.out.2.1,λ_=>⟨tb,pb,_,rs1,rfl,f,by rw[HR.out.1,hl],A6.out.new⟩⟩)
      generalize w3.setCell ⟨pb,1,N⟩ (I J u)=w4 at Aa d5 d6 e5 e6 dl⊢;clear Ab K D H c1 c2 c3 c4 c5 c6 s f4 f5 f6 cl;go_wp2_with fail;go_ret2;exact Aa.out
theorem MF{G}{rest:List Oper}{o a Q}(H:o.guard=N)(s x)(k:o.op=.call {callee:=.builtin .append,args:= #[s,x],argTypes:= #[178,178]})
  {W n c ws A}(F:W.ownsRow 0 2 1 (L A n c) n (BG ws))(Z:n<=100000){X b}(p:a.eval s=L A n c)(r:a.eval x=L (S ⟨b,0,N⟩) 1 1)(e:AI W b #[I J X] 2)
  (h:∀A' c' K,K.ownsRow 0 2 1 (L A' (n+1) c') (n+1) (BG (ws++ [X]))->W.grownBy K (L A n c).ownBlock->((L A' (n+1) c').ownBlock=(L A n c).ownBlock\/(L A' (n+1) c').ownBlock=S W.heap.size)->wpList prog G Q rest (a.put o.dst (L A' (n+1) c')) K):wpList prog G Q (o::rest) a W:=by
 obtain⟨i,hi,M,O,Y⟩:=info_parts NL;refine wpList_append_own_at _ H s x 178 k 0 2 i _ 1 8 underlying178 hi M O Y rfl (by decide) _ _ _ p F ⟨b,0,N⟩ 1 1 (BG [X]) r rfl ?_ ?_ (by unfold maxLen;omega) (by omega) (Pa _) ?_
 ·intro j u y;rw[gS,fw];exact e.cell (by simpa[BG]using y)
 ·intro u d;simp[BG]at d;rcases d with rfl;rfl
 intro v' w' D f _ g;obtain⟨A',c',rfl⟩:=AF D;rw[<-DU]at D;exact h A' c' w' D f g
section
variable {num den:Nat} {w w' W W0 W1:World} {sb:Nat} {rv rv' wv wv' :V} {row row' :List BM} {ws ws' :List Int} {t t' :Nat}
theorem Ev.pushed(h:Ev num den W sb rv row wv ws t)(b:B W.heap.size W W0)(a:AD (λk=>wv.ownBlock=S k) W0 W1)(o:W1.ownsRow 0 2 1 wv' ws'.length (BG ws'))(n:wv'.ownBlock=wv.ownBlock\/wv'.ownBlock=S W0.heap.size)(z)(t' :Nat)(O:z=I U (t' :Int)):
  (W1.cell? ⟨sb,3,N⟩=S wv/\W1.cell? ⟨sb,4,N⟩=S (I U t)/\W1.frozen? ⟨sb,3,N⟩=false/\W1.frozen? ⟨sb,4,N⟩=false/\sb<W1.heap.size)/\
  Ev num den ((W1.setCell ⟨sb,3,N⟩ wv').setCell ⟨sb,4,N⟩ z) sb rv row wv' ws' t' /\IH W (CX sb rv wv) ((W1.setCell ⟨sb,3,N⟩ wv').setCell ⟨sb,4,N⟩ z) (CX sb rv wv'):=by
 subst O;have d:=b.size;have H:=h.next b;have G:AI W1 sb _ 180:=H.blk.away a H.wne;have X:W1.ownsRow 0 202 3 rv row.length (AR row):=AU H.own a λg M=>H.apart M;have K:wv'.ownBlock≠S sb:=λY=>by
  obtain⟨Q,Z⟩:=AJ o Y;exact(G.ne Z (by decide)) rfl
 refine⟨⟨G.cell rfl,G.cell rfl,G.frozen 3,G.frozen 4,G.lt⟩,⟨(G.set 3 wv').set 4 _,AN (AN X ⟨sb,3,N⟩ wv' h.ne) ⟨sb,4,N⟩ _ h.ne,AN (AN o ⟨sb,3,N⟩ wv' K) ⟨sb,4,N⟩ _ K⟩,?_,λk D=> ?_⟩
 ·refine AD.setCell (AD.setCell ?_ ⟨sb,3,N⟩ wv' (.inl (.inl rfl))) ⟨sb,4,N⟩ _ (.inl (.inl rfl));exact(AD.of_below (F:=CX sb rv wv) b).trans' a (λ_ _ h=>h) (λ_ _ h=>.inr (.inr h))
 ·rcases D with D|D|D
  ·exact .inl (.inl D)
  ·exact .inl (.inr (.inl D))
  ·rcases n with q|q
   ·exact .inl (.inr (.inr (by rw[<-q];exact D)))
   ·have:W0.heap.size=k:=by rw[q]at D;exact es D
    exact .inr (by omega)
end
structure Zz(num den:Nat)(W:World)(sb:Nat)(rv:V)(row:List BM)(wv:V)(ws:List Int)(t:Nat):Prop where
 gr:Ev num den W sb rv row wv ws t
 sum:BO row+ws.length=t
 all:Cv (max t 1) row
 few:ws.length<16
 in64:∀x∈ws,Am x
def Oz(num den:Nat)(vals:AM)(W:World)(db:Nat)(O:Nat->Prop):Prop:=
 ∃rv row wv ws,Zz num den W db rv row wv ws (BH vals)/\O=CX db rv wv
theorem Zz.next{num den W W' sb rv wv}{row:List BM}{ws t}(h:Zz num den W sb rv row wv ws t)(b:B W.heap.size W W'):Zz num den W' sb rv row wv ws t:=⟨h.gr.next b,h.sum,h.all,h.few,h.in64⟩
theorem KP(num den):Cz (Oz num den)where
 next:=by
  rintro W W' db O vals ⟨rv,row,wv,ws,h,rfl⟩ b
  exact⟨rv,row,wv,ws,h.next b,rfl⟩
 away:=by
  rintro W W' db O G vals ⟨rv,row,wv,ws,h,rfl⟩ a n
  exact⟨rv,row,wv,ws,⟨h.gr.away a n,h.sum,h.all,h.few,h.in64⟩,rfl⟩
 lt:=by
  rintro W db O vals ⟨rv,row,wv,ws,h,rfl⟩ k (rfl|D|D)
  ·exact h.gr.blk.lt
  ·exact(h.gr.own.lt k D).2
  ·exact(h.gr.wown.lt k D).2
 ty:=by
  rintro W db O vals ⟨rv,row,wv,ws,h,rfl⟩ k D Y
  have K:∃F t,AI W k F t/\(t=180\/t=202\/t=2):=by
   rcases D with rfl|D|D
   ·exact⟨_,_,h.gr.blk,.inl rfl⟩
   ·obtain⟨H,Q⟩:=AJ h.gr.own D
    exact⟨_,_,Q,.inr (.inl rfl)⟩
   ·obtain⟨H,Q⟩:=AJ h.gr.wown D
    exact⟨_,_,Q,.inr (.inr rfl)⟩
  obtain⟨F,t,M,X⟩:=K
  refine⟨λh=>(M.ne h ?_) rfl,λh=>(M.ne h ?_) rfl,λh=>(M.ne h ?_) rfl⟩<;>rcases X with rfl|rfl|rfl<;>decide
def fO(num den:Nat)(w0:World)(sb:Nat)(O:Nat->Prop)(t:Nat)(W:World):Prop:=∃rv row wv ws,Zz num den W sb rv row wv ws t/\IH w0 O W (CX sb rv wv)
theorem IY{num den:Nat}{W}{sb:Nat}{rv wv}{row:List BM}{ws}{t:Nat}(O:Ki num den=true)(Q:Ev num den W sb rv row wv ws t)(G:BO row+ws.length=t)(F:Cv (max t 1) row)(D:∀x∈ws,Am x)(Z:t<=50000)(H:ws.length<=1000):
  C prog 260 #[P (S ⟨sb,0,N⟩)] W λe w' =>e=R (T #[])/\∃rv' row' wv',Zz num den w' sb rv' row' wv' [] t/\IH W (CX sb rv wv) w' (CX sb rv' wv'):=by
 refine(VW eZ num den O W sb rv row wv ws t (max t 1) Q (E _) (by omega) H (by have:=Cj row F;omega) F D).mono ?_;rintro e w' ⟨rfl,rv',row',wv',Y,K,M,X⟩;exact⟨rfl,rv',row',wv',⟨Y,by simpa[M]using G,X,by simp,by simp⟩,K⟩
theorem dZ(num den:Nat)(Y:Ki num den=true)(w)(vals:AM)(db:Nat)(O)(h:Oz num den vals w db O)(hv:DK vals)(p:vals.length<360)(x:Int×Nat)(s:Am x.1)(hc:x.2<=20):
  Calls prog 261 #[P (some ⟨db,0,N⟩),I J x.1,I U (x.2:Nat)] w (JY (Oz num den) Hu w db O vals x):=by
 have h0:=h;obtain⟨rv,row,wv,ws,h,rfl⟩:=h;obtain⟨X,C⟩:=x;have Ac:=Bo vals hv;by_cases hz:C=0
 ·subst hz;have f:Hu (X,0)=false:=by unfold Hu;simp
  have Aw:=Zh (show JY (Oz num den) Hu w db (CX db rv wv) vals (X,0) (R (I J 1)) w from⟨1,_,rfl,by rw[f];simp,by rw[f];exact h0,λ_ h=>.inl h,AD.refl _ _⟩);clear h h0 f Y;go_enter func261,ntmps261;go_wp2_with fail;go_ret;exact Aw.out
 ·have f:Hu (X,C)=true:=by unfold Hu;simp;omega
  have g1:((C:Int)==0)=false:=by simp[hz]
  have g2:decide ((1024:Int)<(C:Int))=false:=by simp;simp only at hc;omega
  simp only at s hc⊢;obtain⟨c0,c1,c2,c3,c4,f2,f3,f4,cl⟩:=h.gr.cells;obtain⟨t,ht⟩:∃t,t=BH vals:=⟨_,rfl⟩;have Ap:=Zh (show BH (vals++ [(X,C)])=t+C by rw[ht,Cn];simp[BH]);rw[<-ht]at h Ac c4;have A2:t+C<=7220:=by omega
  have Al:=λW b h0 h1=>Az W b t C (by omega) h0 h1;have b0:B w.heap.size w (w.alloc (.cells #[I U t,I U C] 23)):=Za;have j:=Zh (show fO num den w db (CX db rv wv) (t+0) (w.alloc (.cells #[I U t,I U C] 23))from⟨rv,row,wv,ws,h.next b0,IH.of_below b0⟩);have HP:=Zh (Zi f (Zi Y s));clear h h0 f Ac p hv ht b0 hz Y s;go_enter func261,ntmps261;go_wp2_with fail;refine(Al _ _ (by simp) (by simp)).mono ?_;rintro e w1 ⟨rfl,rfl⟩;clear Al c0 c1 c2 c3 c4 f2 f3 f4 cl;go_wp2_with fail;go_loopg [31] C (λg i K=>∃q:Nat,i=I U q/\q<=C/\C-q<=g/\fO num den w db (CX db rv wv) (t+q) K);case atStart=>exact⟨0,rfl,Pa _,E _,j.out⟩
  case round=>
   clear j;rename World=>K;obtain⟨q,rfl,hq,hg,H,F,Ab,D,S,T⟩:=hrel;by_cases A1:q<C
   ·have g3:(q:Int)<(C:Int):=by omega
    have e1:U.wrap ((q:Int)+1)=((q+1:Nat):Int):=by rw[RR];omega
    have e2:U.wrap (((t+q:Nat):Int)+1)=((t+q+1:Nat):Int):=by rw[RR];omega
    obtain⟨c0,c1,c2,c3,c4,f2,f3,f4,cl⟩:=S.gr.cells;obtain⟨A,c,rfl⟩:=AF S.gr.wown;obtain⟨n,M⟩:∃n,n=D.length:=⟨_,rfl⟩;have Av:=S.gr.wown;have b1:B K.heap.size K (K.alloc (.cells #[I J X] 2)):=Za;have Z:=(S.gr.next b1).wown;rw[<-M]at c3 Z;have Ar:=Zh Z;have A0:n<16:=by rw[M];exact S.few
    have AA:=Zh (show∀A' c' G,G.ownsRow 0 2 1 (L A' (n+1) c') (n+1) (BG (D++ [X]))->(K.alloc (.cells #[I J X] 2)).grownBy G (L A n c).ownBlock->((L A' (n+1) c').ownBlock=(L A n c).ownBlock\/(L A' (n+1) c').ownBlock=some (K.alloc (.cells #[I J X] 2)).heap.size)->
      (G.cell? ⟨db,3,N⟩=some (L A n c)/\G.cell? ⟨db,4,N⟩=some (I U ((t+q:Nat):Int))/\G.frozen? ⟨db,3,N⟩=false/\G.frozen? ⟨db,4,N⟩=false/\db<G.heap.size)/\
      Hid (Ev num den ((G.setCell ⟨db,3,N⟩ (L A' (n+1) c')).setCell ⟨db,4,N⟩ (I U ((t+q+1:Nat):Int))) db H F (L A' (n+1) c') (D++ [X]) (t+q+1)/\IH K (CX db H (L A n c)) ((G.setCell ⟨db,3,N⟩ (L A' (n+1) c')).setCell ⟨db,4,N⟩ (I U ((t+q+1:Nat):Int))) (CX db H (L A' (n+1) c')))from λA' c' G o g k=>by
     have r:=S.gr.pushed (wv' :=L A' (n+1) c') (ws' :=D++ [X]) (W1:=G) b1 (AD.of_grown g λk hk=>by rw[M]at hk;exact hk) (by rw[ag,fx,<-M];exact o) (by rw[<-M];exact k) (I U ((t+q+1:Nat):Int)) (t+q+1) rfl;rw[<-M]at r;exact⟨r.1,Zh r.2⟩)
    have d:=Zh (Zi S.sum (Zi S.all (Zi S.in64 (Zi M (show IH w (CX db rv wv) K (CX db H (L A n c)) by rw[M];exact T)))));clear S T Av Z b1 M;have z:(D++ [X]).length=n+1:=by rw[ag,fx,d.out.2.2.2.1]
    have Q:=Zh (show BO F+(D++ [X]).length=t+q+1/\Cv (max (t+q+1) 1) F/\(∀x∈D++ [X],Am x)/\(D++ [X]).length=n+1 from⟨by rw[ag,fx,<-V0,d.out.1],d.out.2.1.mono (by omega),λx s=>by
     rcases List.mem_append.1 s with h|h
     ·exact d.out.2.2.1 x h
     ·rw[List.mem_singleton.1 h];exact HP.out.2.2,z⟩)
    clear z;by_cases A3:16<=n+1
    ·have g4:(16:Int)<=((n+1:Nat):Int):=by omega
     have g5:(16:Int)<=(n:Int)+1:=by omega
     go_wp2_with(at_builtin;refine MF rfl _ _ rfl Ar.out (by omega) rfl rfl (AI.newAt rfl) ?_;intro A' c' G o2 g2 u;have a:=AA.out A' c' G o2 g2 u;obtain⟨⟨y3,y4,z3,z4,yl⟩,HG⟩:=a;clear o2 g2 u c0 c1 c2 c3 c4 f2 f3 f4 cl);have Aa:=IY HP.out.2.1 HG.out.1 Q.out.1 Q.out.2.1 Q.out.2.2.1 (by omega) (by rw[Q.out.2.2.2];omega);refine Aa.mono ?_;rintro e w3 ⟨rfl,Ay,y,Ax,S3,T3⟩;have HJ:=Zh (show fO num den w db (CX db rv wv) (t+(q+1)) w3 from⟨Ay,y,Ax,[],by rw[<-V0];exact S3,d.out.2.2.2.2.trans (HG.out.2.trans T3)⟩);clear Aa S3 T3;go_wp2_with fail;go_roundg (C-(q+1));case measure=>omega
     exact⟨q+1,by go_num,by omega,E _,HJ.out⟩
    ·have g4:¬(16:Int)<=((n+1:Nat):Int):=by omega
     have g5:¬(16:Int)<=(n:Int)+1:=by omega
     go_wp2_with(at_builtin;refine MF rfl _ _ rfl Ar.out (by omega) rfl rfl (AI.newAt rfl) ?_;intro A' c' G o2 g2 u;have a:=AA.out A' c' G o2 g2 u;obtain⟨⟨y3,y4,z3,z4,yl⟩,HG⟩:=a;clear o2 g2 u c0 c1 c2 c3 c4 f2 f3 f4 cl);have HJ:=Zh (show fO num den w db (CX db rv wv) (t+(q+1)) ((G.setCell ⟨db,3,N⟩ (L A' (n+1) c')).setCell ⟨db,4,N⟩ (I U ((t+q+1:Nat):Int)))from
      ⟨H,F,_,D++ [X],⟨by rw[<-V0];exact HG.out.1,by rw[<-V0];exact Q.out.1,by rw[<-V0];exact Q.out.2.1,by rw[Q.out.2.2.2];omega,Q.out.2.2.1⟩,d.out.2.2.2.2.trans HG.out.2⟩)
     go_roundg (C-(q+1));case measure=>omega
     exact⟨q+1,by go_num,by omega,E _,HJ.out⟩
   ·have g3:¬(q:Int)<(C:Int):=by omega
    obtain rfl:q=C:=by omega
    have HF:=Zh (show JY (Oz num den) Hu w db (CX db rv wv) vals (X,q) (R (I J 0)) K from by
     refine⟨0,CX db H Ab,rfl,by rw[HP.out.1];simp,?_,T.sub,T.away⟩;rw[HP.out.1];show Oz num den (vals++ [(X,q)]) K db _;exact⟨H,F,Ab,D,by rw[Ap.out];exact S,rfl⟩)
    clear S T;go_wp2_with fail;go_ret;exact HF.out
theorem RI(w)(num den:Nat)(Q:Ki num den=true):
  C prog 43 #[.agg #[I U num,I U den]] w λe w' =>∃sb,e=R (T #[P (S ⟨sb,0,N⟩),I J 0])/\Ev num den w' sb (L N 0 0) [] (L N 0 0) [] 0/\B w.heap.size w w' /\w.heap.size<=sb:=by
 have Y:B w.heap.size w (w.alloc (.cells #[I U num,I U den] 25)):=Za;have D:=NP num den (w.alloc (.cells #[I U num,I U den] 25));rw[Q]at D;have X:(w.alloc (.cells #[I U num,I U den] 25)).cell? ⟨w.heap.size,0,N⟩=S (I U num):=(AI.newAt rfl).cell rfl;have G:(w.alloc (.cells #[I U num,I U den] 25)).cell? ⟨w.heap.size,1,N⟩=S (I U den):=(AI.newAt rfl).cell rfl;have K:=Zh Y;have M:=Zh (Zi X G);clear Q Y X G;go_enter func43,ntmps43;go_wp2_with fail;refine D.mono ?_;rintro e O ⟨rfl,H⟩;have a:O.cell? ⟨w.heap.size,0,N⟩=S (I U num):=(H.cell (p:=⟨w.heap.size,0,N⟩) (by simp)).trans M.out.1;have Z:O.cell? ⟨w.heap.size,1,N⟩=S (I U den):=(H.cell (p:=⟨w.heap.size,1,N⟩) (by simp)).trans M.out.2;have F:=Zh (K.out.trans (H.mono K.out.size));clear D H K M;go_wp2_with fail;go_ret2;exact⟨_,rfl,⟨AI.newAt rfl,W.ownsRow_nil _ _ _ _,W.ownsRow_nil _ _ _ _⟩,F.out.alloc F.out.size _,F.out.size⟩
theorem Yx(w)(num den:Nat)(M:Ki num den=false):
  C prog 43 #[.agg #[I U num,I U den]] w λe w' =>e=R (T #[P N,I J 1])/\B w.heap.size w w' :=by
 have K:B w.heap.size w (w.alloc (.cells #[I U num,I U den] 25)):=Za;have D:=NP num den (w.alloc (.cells #[I U num,I U den] 25));rw[M]at D;have F:=Zh K;clear M K;go_enter func43,ntmps43;go_wp2_with fail;refine D.mono ?_;rintro e O ⟨rfl,H⟩;have G:=Zh (F.out.trans (H.mono F.out.size));clear D H F;go_wp2_with fail;go_ret2;exact⟨rfl,G.out⟩
theorem Dp(m:List BM)(q)(h:q<m.length):BO (m.take (q+1))=BO (m.take q)+(m[q]'h).2.1:=by
 rw[ej h,DT];simp[BO]
theorem MG(w B v)(l:List BM)(h:w.ownsRow B 202 3 v l.length (AR l))(M:l.length<=100000)(r:BO l<=9223372036854775807):
  C prog 100 #[v] w λe w' =>e=R (T #[I U (BO l:Int),.bool true])/\Below w.heap.size w w' :=by
 obtain⟨A,c,rfl⟩:=AF h;obtain⟨n,k⟩:∃n,n=l.length:=⟨_,rfl⟩;have F:=Zh (Zi h (Zi k r));rw[<-k]at M⊢;clear h k r;go_enter func100,ntmps100;go_wp2_with fail;go_loopg [4,5,10] n (λg s ok i X=>∃q:Nat,i=I J q/\s=I U (BO (l.take q):Int)/\ok=.bool true/\q<=n/\n-q<=g/\Below w.heap.size w X);case atStart=>exact⟨0,rfl,by simp[BO],rfl,Pa _,E _,Below.refl _ _⟩
 case round=>
  rename World=>X;obtain⟨q,rfl,rfl,rfl,hq,p,G⟩:=hrel;by_cases f:q<n
  ·have g1:(q:Int)<(n:Int):=by omega
   have H:q<l.length:=by rw[<-F.out.2.1];exact f
   rcases AH F.out.1 with⟨_,h2,_⟩|⟨g,AA,Y,_,_,_,j⟩
   ·omega
   simp only[L.injEq]at Y;obtain⟨rfl,-,-⟩:=Y;have a:=AE F.out.1 G λg p=>(F.out.1.lt g p).2;rw[<-F.out.2.1]at a;obtain⟨p0,p1,u⟩:=BC a F.out.2.1 q H;have D:=Dp l q H;have d:=Hv l (q+1);generalize l[q]'H=x at p0 p1 u D;have y:g<X.heap.size:=bh j G.size;have hT:=F.out.2.2;obtain⟨t,o⟩:∃t,t=BO (l.take q):=⟨_,rfl⟩;rw[<-o]at D⊢;have K:=λW b z Y=>Az W b t x.2.1 (by omega) z Y;have HS:=Zh D;have Q:Below w.heap.size w ((X.alloc (.cells #[I J x.1,I U x.2.1,I U x.2.2] 202)).alloc (.cells #[I U t,I U x.2.1] 23)):=
    (G.alloc G.size _).alloc (gQ G.size (by simp)) _
   have Z:=Zh Q;clear a D d o hT G Q;go_wp2_with fail;refine(K _ _ (by simp) (by simp)).mono ?_;rintro e w1 ⟨rfl,rfl⟩;clear K;go_wp2_with fail;go_roundg (n-(q+1));case measure=>omega
   exact⟨q+1,by go_num,by rw[HS.out];push_cast;rfl,rfl,by omega,E _,Z.out⟩
  ·have g1:¬(q:Int)<(n:Int):=by omega
   have O:l.take q=l:=aw (by have:=F.out.2.1;omega);rw[O];have HB:=Zh G;clear G O;go_wp2_with fail;go_ret2;exact⟨rfl,HB.out⟩
theorem Vc(w N v)(l:List BM)(h:w.ownsRow 0 202 3 v l.length (AR l))(X:l.length<=100000)(hs:BO l<=9223372036854775807)(Z:Cv N l)(hN:N<=1000000):
  C prog 101 #[v] w λe w' =>(∃b,e=R (.bool b))/\B w.heap.size w w' :=by
 have K:=MG w 0 v l h X hs;obtain⟨A,c,rfl⟩:=AF h;obtain⟨n,hn⟩:∃n,n=l.length:=⟨_,rfl⟩;obtain⟨T,hT⟩:∃T,T=BO l:=⟨_,rfl⟩;have F:=Zh (Zi h (Zi hn (Zi hs (Zi Z hT))));rw[<-hn]at X K⊢;rw[<-hT]at K;clear h hn hs Z hT;go_enter func101,ntmps101;go_wp2_with fail;refine K.mono ?_;rintro e w1 ⟨rfl,b1⟩;have k:=Zh b1;clear K b1;go_wp2_with fail;go_loopg [5,6,17] n (λg s _ i M=>∃q:Nat,i=I J q/\s=I U (BO (l.take q):Int)/\q<=n/\n-q<=g/\B w.heap.size w M);case atStart=>exact⟨0,rfl,by simp[BO],Pa _,E _,k.out⟩
 case round=>
  clear k;rename World=>M;obtain⟨q,rfl,rfl,hq,u,Q⟩:=hrel;by_cases Ap:q<n
  ·have g1:(q:Int)<(n:Int):=by omega
   have G:q<l.length:=by rw[<-F.out.2.1];exact Ap
   rcases AH F.out.1 with⟨_,h2,_⟩|⟨g,AA,f,_,_,_,p⟩
   ·omega
   simp only[L.injEq]at f;obtain⟨rfl,-,-⟩:=f;have Y:=AE F.out.1 Q λg u=>(F.out.1.lt g u).2;rw[<-F.out.2.1]at Y;obtain⟨p0,z,r⟩:=BC Y F.out.2.1 q G;have O:=Dp l q G;have Ac:=Hv l (q+1);have a:=F.out.2.2.2.1 _ (Q0 G);have HP:=Zh (show 0<q->∃y:BM,M.cell? ⟨g,(q-1)*3,none⟩=S (I J y.1)from λh=>⟨l[q-1]'(by omega),(BC Y F.out.2.1 (q-1) (by omega)).1⟩);generalize l[q]'G=x at p0 z r O a;have Av:g<M.heap.size:=bh p Q.size;have Ab:=F.out.2.2.2.2;have Al:=F.out.2.2.1;obtain⟨t,ht⟩:∃t,t=BO (l.take q):=⟨_,rfl⟩;rw[<-ht]at O⊢;have e1:U.wrap ((t:Int)+(x.2.1:Int))=(t:Int)+(x.2.1:Int):=by rw[RR];omega
   have e3:((x.2.1:Int)==0)=false:=by have:=a.2.1;simp;omega
   have o:B w.heap.size w (M.alloc (.cells #[I J x.1,I U x.2.1,I U x.2.2] 202)):=Q.alloc Q.size _;have d:=Zh (Zi O o);clear Y O Ac ht Q o Ab Al a;have HE:∀W:World,B w.heap.size w W->(∃b,R (.bool false)=R (.bool b))/\B w.heap.size w W:=λW h=>⟨⟨_,rfl⟩,h⟩
   cases k1:decide (U.wrap ((T:Int)-((t:Int)+(x.2.1:Int)))<(x.2.2:Int))with
   |true=>
    go_upto_region 9 with fail;go_quiet(fail);have H:=Zh (show B w.heap.size w ((M.alloc (.cells #[I J x.1,I U x.2.1,I U x.2.2] 202)).drewN nq)from d.out.2.trans ⟨rfl,rfl,rfl,E _,λ_ _=>rfl⟩);go_wp2_with fail;go_ret;exact HE _ H.out
   |false=>
    by_cases Aa:0<q
    ·obtain⟨y,hy⟩:=HP.out Aa;have f1:decide ((0:Int)<(q:Int))=true:=by simp;omega
     have j:decide (0<q)=true:=by simp;omega
     have f2:J.wrap ((q:Int)-1)=((q-1:Nat):Int):=by rw[IntKind.wrap_i64];omega
     have f3:((q-1:Nat):Int)<(n:Int):=by omega
     have Ax:q-1<n:=by omega
     cases k2:decide (x.1<y.1)with
     |true=>
      go_upto_region 9 with fail;go_quiet(fail);have H:=Zh (show B w.heap.size w ((M.alloc (.cells #[I J x.1,I U x.2.1,I U x.2.2] 202)).drewN nq)from d.out.2.trans ⟨rfl,rfl,rfl,E _,λ_ _=>rfl⟩);go_wp2_with fail;go_ret;exact HE _ H.out
     |false=>
      go_upto_region 9 with fail;go_quiet(fail);have H:=Zh (show B w.heap.size w ((M.alloc (.cells #[I J x.1,I U x.2.1,I U x.2.2] 202)).drewN nq)from d.out.2.trans ⟨rfl,rfl,rfl,E _,λ_ _=>rfl⟩);go_wp2_with fail;go_roundg (n-(q+1));case measure=>omega
      exact⟨q+1,by go_num,by rw[d.out.1];push_cast;rfl,by omega,E _,H.out⟩
    ·have f1:decide ((0:Int)<(q:Int))=false:=by simp;omega
     have j:decide (0<q)=false:=by simp;omega
     go_upto_region 9 with fail;go_quiet(fail);have H:=Zh (show B w.heap.size w ((M.alloc (.cells #[I J x.1,I U x.2.1,I U x.2.2] 202)).drewN nq)from d.out.2.trans ⟨rfl,rfl,rfl,E _,λ_ _=>rfl⟩);go_wp2_with fail;go_roundg (n-(q+1));case measure=>omega
     exact⟨q+1,by go_num,by rw[d.out.1];push_cast;rfl,by omega,E _,H.out⟩
  ·have g1:¬(q:Int)<(n:Int):=by omega
   have D:=Zh Q;by_cases Ar:n=0
   ·subst Ar;clear Q;go_wp2_with fail;go_ret;first|exact⟨.inl rfl,D.out⟩|exact⟨.inr rfl,D.out⟩|exact⟨⟨_,rfl⟩,D.out⟩
   ·have G:0<l.length:=by rw[<-F.out.2.1];omega
    rcases AH F.out.1 with⟨_,h2,_⟩|⟨g,AA,f,_,_,_,p⟩
    ·have:=F.out.2.1;omega
    simp only[L.injEq]at f;obtain⟨rfl,-,-⟩:=f;have Y:=AE F.out.1 Q λg u=>(F.out.1.lt g u).2;rw[<-F.out.2.1]at Y;obtain⟨p0,z,r⟩:=BC Y F.out.2.1 0 G;generalize l[0]'G=x at p0 z r;simp only[Nat.zero_mul,fw]at p0 z r;have f0:((n:Int)==0)=false:=by simp;omega
    have f1:(0:Int)<(n:Int):=by omega
    have j:0<n:=by omega
    have Aw:decide (0<n)=true:=by simp;omega
    clear Q Y G;cases k1:((x.2.1:Int)==1)with
    |false=>
     go_wp2_with fail;go_ret;first|exact⟨.inl rfl,D.out⟩|exact⟨.inr rfl,D.out⟩|exact⟨⟨_,rfl⟩,D.out⟩
    |true=>
     cases k2:((x.2.2:Int)==0)with
     |false=>
      go_wp2_with fail;go_ret;first|exact⟨.inl rfl,D.out⟩|exact⟨.inr rfl,D.out⟩|exact⟨⟨_,rfl⟩,D.out⟩
     |true=>
      go_wp2_with fail;go_ret;first|exact⟨.inl rfl,D.out⟩|exact⟨.inr rfl,D.out⟩|exact⟨⟨_,rfl⟩,D.out⟩
def fo(a x:Int):Int:=if x<=a then 1 else-1
theorem dd(y:BM)(x w):
  C prog 304 #[.agg #[I J y.1,I U y.2.1,I U y.2.2],I J x] w λe w' =>e=R (I J (fo y.1 x))/\B w.heap.size w w' :=by
 obtain⟨a,b,c⟩:=y;unfold fo;by_cases h:x<=a
 ·rw[if_pos h];go_enter func304,ntmps304;go_wp2;go_ret;exact⟨rfl,Za⟩
 ·rw[if_neg h];go_enter func304,ntmps304;go_wp2;go_ret;exact⟨rfl,Za⟩
theorem O6(fv:Fn)(lb:Array V)(O:Int->Int)(x)(K:∀(y:BM) W,C prog 304 #[.agg #[I J y.1,I U y.2.1,I U y.2.2],I J x] W λe w' =>e=R (I J (O y.1))/\Below W.heap.size W w')
  (w B g Z)(l:List BM)(h:w.ownsRow B 202 3 (L (S ⟨g,0,N⟩) l.length Z) l.length (AR l))(X:l.length<=1000000):
  C prog 282 #[L (S ⟨g,0,N⟩) l.length Z,I J x,.func (.func 304) #[] #[]] w (VG l.length w):=by
 have s:=Zh (λi hi=>BC h rfl i hi);have r:g<w.heap.size:=(h.lt g rfl).2;obtain⟨n,f⟩:∃n,n=l.length:=⟨_,rfl⟩;have o:=Zh f;rw[<-f]at X⊢;clear h f;go_enter func282,ntmps282;go_wp2;go_loopg [9,10] n (λk a b wr=>∃lo hi:Nat,a=I J lo/\b=I J hi/\lo<=hi/\hi<=n/\hi-lo<=k/\Below w.heap.size w wr);case atStart=>exact⟨0,n,rfl,rfl,Pa _,E _,by omega,Below.refl _ _⟩
 case round=>
  obtain⟨lo,hi,rfl,rfl,h1,u,h3,M⟩:=hrel;obtain⟨G,hf1⟩:=Wd.bcell M;by_cases AA:lo<hi
  ·have H:(lo+hi)/2<l.length:=by rw[<-o.out];omega
   obtain⟨m,Q⟩:∃m,m=(lo+hi)/2:=⟨_,rfl⟩;rw[<-Q]at H;obtain⟨Y,d,c2⟩:=s.out m H;have D:=λW=>K (l[m]'H) W;generalize l[m]'H=y at Y d c2 D;rw[<-G g _ r]at Y d c2;have e1:((lo:Int)+(hi:Int))/2=(m:Int):=by omega
   have e2:(lo:Int)<(hi:Int):=by omega
   have m1:m<n:=by omega
   have j:=Zh Q;generalize O y.1=z at D;clear Q G hf1;by_cases Aa:z<0
   ·go_wp2_with(go_at_call 304;refine(D _).mono ?_;rintro e p ⟨rfl,F⟩);go_roundg (hi-(m+1));case measure=>have:=j.out;omega
    case rel=>exact⟨m+1,hi,by go_num,rfl,by have:=j.out;omega,u,E _,M.trans (F.mono M.size)⟩
   ·go_wp2_with(go_at_call 304;refine(D _).mono ?_;rintro e p ⟨rfl,F⟩);go_roundg (m-lo);case measure=>have:=j.out;omega
    case rel=>exact⟨lo,m,rfl,rfl,by have:=j.out;omega,by omega,E _,M.trans (F.mono M.size)⟩
  ·have e2:¬(lo:Int)<(hi:Int):=by omega
   by_cases f:lo<n
   ·have H:lo<l.length:=by rw[<-o.out];omega
    obtain⟨Y,d,c2⟩:=s.out lo H;have D:=λW=>K (l[lo]'H) W;generalize l[lo]'H=y at Y d c2 D;rw[<-G g _ r]at Y d c2;generalize O y.1=z at D;have g2:(lo:Int)<(n:Int):=by omega
    clear G hf1 H;go_wp2_with(go_at_call 304;refine(D _).mono ?_;rintro e p ⟨rfl,F⟩);go_ret2;exact⟨lo,_,rfl,by omega,λ_=>f,M.trans (F.mono M.size)⟩
   ·have g2:¬(lo:Int)<(n:Int):=by omega
    clear G hf1;go_wp2_with fail;go_ret2;exact⟨lo,false,rfl,by omega,(λh=>by cases h),M⟩
theorem O7(x w):
  C prog 282 #[L N 0 0,I J x,.func (.func 304) #[] #[]] w λe w' =>e=R (T #[I J 0,.bool false])/\w=w' :=by
 go_enter func282,ntmps282;go_wp2;refine wp_loop_rounds 1 ?_;rw[rounds_succ];go_wp2_with fail;go_ret2;exact⟨rfl,rfl⟩
theorem bK(w G B v)(l:List BM)(x)(H:AI w G #[v] 177)(h:w.ownsRow B 202 3 v l.length (AR l))(F:l.length<=1000000):
  C prog 303 #[I J x,P (S ⟨G,0,N⟩)] w (Sx l.length w):=by
 have d:w.cell? ⟨G,0,N⟩=S v:=H.cell rfl;have X:=H.lt;have D:C prog 282 #[v,I J x,.func (.func 304) #[] #[]] w (VG l.length w):=by
  rcases AH h with⟨rfl,Y,_⟩|⟨g,K,rfl,_⟩
  ·rw[Y];refine(O7 x w).mono ?_;rintro e w' ⟨rfl,rfl⟩;exact⟨0,false,rfl,E _,(λh=>by cases h),Below.refl _ _⟩
  ·exact O6 (.func 304) #[] (λa=>fo a x) x (λy W=>dd y x W) w B g K l h F
 obtain⟨A,c,rfl⟩:=AF h;clear H h;go_enter func303,ntmps303;go_wp2_with fail;refine D.mono ?_;rintro e Z ⟨p,b,rfl,M,_,O⟩;have Q:=Zh (Zi M O);clear D M O;go_wp2_with fail;go_ret;exact⟨p,rfl,Q.out.1,Q.out.2⟩
theorem Yy(w G B v)(l:List BM)(x)(H:AI w G #[v] 177)(h:w.ownsRow B 202 3 v l.length (AR l))(F:l.length<=1000000):
  C prog 305 #[I J x,P (S ⟨G,0,N⟩)] w (Sx l.length w):=by
 have Y:w.cell? ⟨G,0,N⟩=S v:=H.cell rfl;have Q:=H.lt;have D:=NO w B v l x h F;obtain⟨A,c,rfl⟩:=AF h;clear H h;go_enter func305,ntmps305;go_wp2_with fail;refine D.mono ?_;rintro e X ⟨p,rfl,O,K⟩;have M:=Zh (Zi O K);clear D O K;go_wp2_with fail;go_ret;exact⟨p,rfl,M.out.1,M.out.2⟩
end Go.Proofs.YtbejdajkkoapgaaGreatDoor
