/-
  The given card CoreBurst: for every input the law returns true, and the arguments read afterwards as before. Conditions: none (the table of tens is tied to the program by the given tie).
-/
import Derived.Test.YtbejdajkkoapgaaGreatDoorU16
import Derived.Test.YtbejdajkkoapgaaGreatDoorU15
import Derived.Test.YtbejdajkkoapgaaGreatDoorCards
import Derived.Test.YtbejdajkkoapgaaGreatDoorFu
open Go.RowKit Go.Lib Go.Proofs.Tryz
open Go renaming Value->V,World->W
open Go.IntKind renaming i64->J,u64->U
open Go.RowKit renaming Below->B
open Go.Value renaming int->I
open Option renaming none->N,some->S,some.inj->Jx
namespace Go.Proofs.YtbejdajkkoapgaaGreatDoor.coreBurst
open Go.ChangeShapes Go.WideShapes Go.ChangeAt Go.RowKit
theorem own:ownKnob prog.godebug=none:=by kernel_rfl
theorem JL:laidOutB prog=true:=by kernel_rfl
theorem Zj(os:Os)(args:Array V):laidMetH prog Rows.coreBurstRow.laid ((W.doorLaid prog 400 os).forCall (λ_ _=>0) ⟨#[],args,[]⟩).memory:=
 laidMetH_of_parts3 (fuel:=8) (laidMet_of_run' 8 (by kernel_rfl) (by kernel_rfl)) (by kernel_rfl) (by kernel_rfl)
set_option maxRecDepth 100000 in
theorem lifted(os:Os)(G:os.Started)(H:Type)(enc:TypeId×V->H):
  ReturnsInHanded {} checked os 5 .any (λw args=>(Rows.coreBurstSpec.pre enc prog f5 [] false w args/\laidMetH prog Rows.coreBurstRow.laid w)/\sizedMet enc prog f5 (OpenSpec.ofChange Rows.coreBurstSpec) false w args)
   (Rows.coreBurstSpec.post enc prog f5 false true false false):=by
 refine returnsInHanded_of_change_and (C:=checked) (X:=λw _=>laidMetH prog Rows.coreBurstRow.laid w) (λ_ _ _ hh h=>h.of_heap hh) own G (by kernel_rfl) func5
  (ChangeSpec.witness_shaped (enc:=enc) (C:=checked) (os:=os) (X:=λw _=>laidMetH prog Rows.coreBurstRow.laid w) false (W.doorLaid prog 400 os) #[.agg #[I J 0,I U 0,I U 0,I J 0,I J 0,I J 0,I U 0,I J 0,I J 0,I J 0,I U 0],.slice N 0 0,.slice N 0 0,I J 0,I .u32 0] 8 rfl (W.shaped_of_RefB (by kernel_rfl) (by kernel_rfl)) (by kernel_rfl) (by kernel_rfl) (by kernel_rfl) (Zj os _)) ?_
 intro A base args ds gs cZ K hW _ _ hL _;have D:∀(j:Nat) t v,f5.params[j]?=S t->args[j]?=S v->V.okWide prog A .any base t v:=K;have b :=hW;obtain⟨p,q,hA0,hV,rfl,Fb,Ax⟩:=hW;have hA:DataW.TrodAll enc prog A 0 (λ_=>true) true f5.params.toList args.toList ds p:=hA0;rw[params5]at hA D;obtain⟨u,Al,d0,Aa,p0,q0,i,rfl,rfl,h0,r0⟩:=trodAll_cons hA;obtain⟨v1,AA,d1,Ac,p1,q1,rfl,rfl,rfl,h1,r1⟩:=trodAll_cons r0;obtain⟨O,Aw,d2,Ap,p2,q2,rfl,rfl,rfl,l,r2⟩:=trodAll_cons r1;obtain⟨v3,Av,d3,Ar,p3,q3,rfl,rfl,rfl,r,r3⟩:=trodAll_cons r2;obtain⟨v4,Ab,d4,Ay,p4,q4,rfl,rfl,rfl,o,r4⟩:=trodAll_cons r3;obtain⟨rfl,rfl,rfl⟩:=trodAll_nil r4;obtain rfl:args= #[u,v1,O,v3,v4]:=by cases args;simp_all
 obtain⟨rfl,rfl⟩:=trodVars_none hV;have k0:=h0;have Q:∀x∈p0,x.block<A.heap.size:=by obtain⟨m,F⟩:=k0;exact DataW.trod_lt m _ _ _ F
 have k1:=h1;have f:∀x∈p1,x.block<A.heap.size:=by obtain⟨m,F⟩:=k1;exact DataW.trod_lt m _ _ _ F
 have s:=l;have g:∀x∈p2,x.block<A.heap.size:=by obtain⟨m,F⟩:=s;exact DataW.trod_lt m _ _ _ F
 have n:=r;have k:∀x∈p3,x.block<A.heap.size:=by obtain⟨m,F⟩:=n;exact DataW.trod_lt m _ _ _ F
 have z:=o;have c:∀x∈p4,x.block<A.heap.size:=by obtain⟨m,F⟩:=z;exact DataW.trod_lt m _ _ _ F
 obtain⟨c0,c1,c2,c3,c4,c5,c6,c7,c8,c9,a,rfl,u0,u1,u2,u3,u4,u5,u6,u7,u8,u9,u10⟩:=ZQ (D 0 28 u rfl rfl) h0;obtain⟨A1,l1,m1,e1⟩:=okWide_slice underlying29 (D 1 29 v1 rfl rfl);obtain⟨L,d,Y⟩:∃L:DG,Dd A v1 L/\∀x∈L,∀y∈x.1,Am y.1:=by obtain⟨m,F⟩:=h1;rw[e1]at F⊢;exact Rd (by simpa[V.cells]using F)
 obtain⟨A2,l2,m2,e2⟩:=okWide_slice underlying30 (D 2 30 O rfl rfl);obtain⟨z2,Z⟩:∃zs:List Int,DF A O zs:=by obtain⟨m,F⟩:=l;rw[e2]at F⊢;exact TY (by simpa[V.cells]using F)
 obtain⟨a3,rfl,_,_,w3⟩:=open_int underlying3 (D 3 3 v3 rfl rfl) r;obtain⟨a4,rfl,_,_,w4⟩:=open_int underlying62 (D 4 62 v4 rfl rfl) o;clear hA0 K;refine(Tg c0 c1 c2 c3 c4 c5 c6 c7 c8 c9 a v1 O L z2 a3 a4 u1 u2 u6 u10 w4 A (PK hL) d Z Y).mono λe W' ⟨he,M⟩=> ?_;subst he;exact⟨_,rfl,_,_,_,[],_,[],b,(trodAll_cons_mk (shut_bool underlying4 _) trodAll_mk0),(trodAll_cons_mk (B.trod JL (by kernel_rfl) (of_decide_eq_true (by kernel_rfl)) k0 M Q) (trodAll_cons_mk (B.trod JL (by kernel_rfl) (of_decide_eq_true (by kernel_rfl)) k1 M f) (trodAll_cons_mk (B.trod JL (by kernel_rfl) (of_decide_eq_true (by kernel_rfl)) s M g) (trodAll_cons_mk (B.trod JL (by kernel_rfl) (of_decide_eq_true (by kernel_rfl)) n M k) (trodAll_cons_mk (B.trod JL (by kernel_rfl) (of_decide_eq_true (by kernel_rfl)) z M c) trodAll_mk0))))),rfl,M.frame _,λh=>by cases h⟩
theorem Wf:Rows.CoreBurstSaid:=
 OpenClaim.holds_of_wide 5 f5 rfl rfl rfl rfl rfl rfl rfl ⟨rfl,rfl,rfl,rfl,rfl⟩ rfl rfl rfl rfl rfl (by kernel_rfl) func5 facts.coreBurst.closed
  (of_decide_eq_true (by kernel_rfl)) (by unfold Func.isWrapper;first|(rw[if_pos (by decide+kernel)];kernel_rfl)|(rw[if_neg (by decide+kernel)];exact⟨rfl,rfl⟩))
  (λos A H enc _=>lifted os A H enc)
theorem proved:Rows.CoreBurstCardSaid:=
 Claim7.holds_tied_plain_at .later [] [.data] true Rows.coreBurstCard.stood.harness true
  Wf (λ_ h=>by cases h) (by kernel_rfl) (λ_ h=>by cases h) coreBurst_row_tie rfl ⟨rfl,rfl⟩ (by kernel_rfl) rfl
  (λf K H D=>by
   obtain rfl:f=5:=Jx (H.symm.trans (show prog.funcNamed Rows.coreBurstRow.func=S 5 by kernel_rfl))
   obtain rfl:K=f5:=(Jx (func5.symm.trans D)).symm
   exact⟨by kernel_rfl,λj t F=>by
    rw[params5]at F
    have G:t∈ [28,29,30,3,62]:=by simpa using Array.mem_of_getElem? F
    have A:([28,29,30,3,62].all λu=> !prog.wantsStandIn u)=true:=by kernel_rfl
    exact(show prog.wantsStandIn t=false by simpa using List.all_eq_true.1 A t G)⟩)
  (by kernel_rfl)
#print axioms proved
end Go.Proofs.YtbejdajkkoapgaaGreatDoor.coreBurst
