/-
  THE STATEMENT of the law TopLeak, where what it reads is small: it returns true, whatever it is given; the listed variables as the program lays them. By the prover.
-/
import Derived.Test.YtbmbnippbldmfaaGreatDoorRaLTopLeak
import Derived.Test.YtbmbnippbldmfaaGreatDoorRaP
import Derived.Test.YtbmbnippbldmfaaGreatDoorCards
import Derived.Test.YtbmbnippbldmfaaGreatDoorTie
import Derived.Deep.DeepHandedRow
import Derived.Lay
set_option maxHeartbeats 64000000
namespace Go.Proofs.YtbmbnippbldmfaaGreatDoor.topLeakTop
open Go.Proofs.Tryz
open Go.ChangeMaps (open_string shut_string)
open Go.ChangeShapes Go.WideShapes Go.ChangeAt Go.RowKit
open Go.Fw (Kept Cal str Ret)
set_option maxRecDepth 100000 in
theorem contract (H:Type) (enc:TypeId×Value→H) (W:World) (base:Nat) (args:Array Value) (ds gs:List (DataW H)) (before:List MemPlace)
  (hval:∀(j:Nat) t v,Tryz.f8.params[j]?=some t→args[j]?=some v→Value.okWide prog W .any base t v)
  (hW:DataW.Whole enc prog Tryz.f8.params.toList Rows.topLeakSpec.vars false W args.toList ds gs before) (hk:Rows.uptoSmall H (ds++gs)=true) (hL:laidMetH prog Rows.topLeakUptoRow.laid W):
  Calls prog 8 args W fun e W'=> ∃v,e=.returned v∧Rows.topLeakSpec.post enc prog Tryz.f8 false true false false W args v W':=by
 have hC:=B36 hL (by kernel_rfl) (by kernel_rfl);have hT:B1I (Go.Fw.A6s W):=C6m hL (by kernel_rfl) (by kernel_rfl);clear hL;have hW':=hW;obtain⟨p,q,hA0,hV,rfl,hfz,hnd⟩:=hW;have hA:DataW.TrodAll enc prog W 0 (fun _=>true) true Tryz.f8.params.toList args.toList ds p:=hA0;rw[Tryz.params8]at hA hval;obtain⟨v0,vs0,d0,ds0,p0,q0,hargs,rfl,rfl,h0,r0⟩:=trodAll_cons hA;obtain⟨v1,vs1,d1,ds1,p1,q1,hx1,rfl,rfl,h1,r1⟩:=trodAll_cons r0;obtain⟨v2,vs2,d2,ds2,p2,q2,hx2,rfl,rfl,h2,r2⟩:=trodAll_cons r1;obtain⟨rfl,rfl,rfl⟩:=trodAll_nil r2;obtain rfl:args= #[v0,v1,v2]:=by cases args;simp_all
 obtain⟨rfl,rfl⟩:=trodVars_none hV;obtain⟨s0,rfl,rfl,rfl,hm0⟩:=open_int underlying3 (hval 0 3 v0 rfl rfl) h0;obtain⟨s1,rfl,rfl,rfl,hm1⟩:=open_int underlying3 (hval 1 3 v1 rfl rfl) h1;obtain⟨s2,rfl,rfl,rfl,hm2⟩:=open_int underlying3 (hval 2 3 v2 rfl rfl) h2;have hlt:=hW'.lt;clear hA0;simp only[List.append_nil]at hW' hk;refine((B2h (sp_tleak s0 s1 s2 (Go.Fw.A6s W)    hC hT)).run).mono fun e W' he=>?_
 cases e
 case returned v=>
  obtain⟨rfl,hg⟩:=he;refine⟨_,rfl,B01 (pv:= []) hW' (fun _ _ _=>trodAll_cons_mk (shut_bool underlying4 _) trodAll_mk0) (trodAll_cons_mk (Below.trod A7c (by kernel_rfl) (of_decide_eq_true (by kernel_rfl)) h0 (A47 hg) (fun x hx=>hlt x (by first|exact absurd hx (by simp)|simp[hx]))) (trodAll_cons_mk (Below.trod A7c (by kernel_rfl) (of_decide_eq_true (by kernel_rfl)) h1 (A47 hg) (fun x hx=>hlt x (by first|exact absurd hx (by simp)|simp[hx]))) (trodAll_cons_mk (Below.trod A7c (by kernel_rfl) (of_decide_eq_true (by kernel_rfl)) h2 (A47 hg) (fun x hx=>hlt x (by first|exact absurd hx (by simp)|simp[hx]))) trodAll_mk0))) (fun _ _=>rfl) hg⟩
 all_goals exact he.elim
noncomputable def laidWorld (os:Os):World:=World.laidAll prog os Rows.topLeakUptoRow.laid
theorem laid_met (os:Os):laidMet prog Rows.topLeakUptoRow.laid ((laidWorld os).forCall (fun _ _=>0) ⟨#[], #[.int .i64 0,.int .i64 0,.int .i64 0],[]⟩).memory:=
 laidMet_laidAll _ (by kernel_rfl) (by kernel_rfl)
theorem reads (os:Os) {H:Type} (enc:TypeId×Value→H):∃places,DataW.whole enc prog ((laidWorld os).forCall (fun _ _=>0) ⟨#[], #[.int .i64 0,.int .i64 0,.int .i64 0],[]⟩).memory Tryz.f8.params.toList Rows.topLeakSpec.vars false (#[.int .i64 0,.int .i64 0,.int .i64 0]:Array Value).toList 8=some ([.lit (.int .i64 0),.lit (.int .i64 0),.lit (.int .i64 0)],[],places):=
 ⟨[],by kernel_rfl⟩
set_option maxRecDepth 100000 in
theorem lifted (os:Os) (started:os.Started) (H:Type) (enc:TypeId×Value→H) (F:Stop.Interp):
  ReturnsInHanded {} Tryz.checked os 8 .any ((Rows.OpenSpec.upto Rows.topLeakSpec).preRow enc prog Tryz.f8 Rows.topLeakUptoRow.domain false Rows.topLeakUptoRow.laid) (((Rows.OpenSpec.upto Rows.topLeakSpec).at F).post enc prog Tryz.f8 false true false false):=by
 obtain⟨places,hx⟩:=reads os enc;refine returnsInHanded_of_row (C:=Tryz.checked) (s:=Rows.OpenSpec.upto Rows.topLeakSpec) A8a started (by kernel_rfl) func8
  (witness_row_at (enc:=enc) (C:=Tryz.checked) false (laidWorld os) #[.int .i64 0,.int .i64 0,.int .i64 0] (World.laidAll_os _ _ _) (by kernel_rfl) (by kernel_rfl) (by kernel_rfl)
   (OpenSpec.preRow_of_cond 8 hx (by kernel_rfl) (fun k hk=>by cases hk;kernel_rfl) (by kernel_rfl) (laid_met os))) ?_
 intro W base args ds gs before hval hW _ hcond _ hL _ _;exact contract H enc W base args ds gs before hval hW (hcond _ rfl) hL
theorem facts:joinedFacts Tryz.pinned.checked.prog 8 Tryz.f8 (Rows.OpenSpec.upto Rows.topLeakSpec).bare Rows.topLeakUptoRow=true:=by
 unfold joinedFacts
 simp only[Bool.and_eq_true];repeat' apply And.intro
 all_goals as_aux_lemma=>kernel_rfl
theorem said:Rows.TopLeakUptoSaid:=
 OpenClaim.holds_of_cond 8 Tryz.f8 rfl rfl rfl rfl rfl rfl rfl ⟨rfl,rfl,rfl,rfl,rfl⟩ rfl rfl rfl rfl rfl (by kernel_rfl) func8 facts
  (of_decide_eq_true (by kernel_rfl)) (by unfold Func.isWrapper;first|(rw[if_pos (by decide+kernel)];kernel_rfl)|(rw[if_neg (by decide+kernel)];exact⟨rfl,rfl⟩))
  (fun os started H enc _ F=>by rw[OpenClaim.pre_eq_preRow];exact lifted os started H enc F)
theorem plain (f : FuncId) (fn : Func) (hf : Tryz.pinned.checked.prog.funcNamed "undertone/undertop.TopLeak" = some f) (hfn : Tryz.pinned.checked.prog.funcs[f]? = some fn) :
  true=Tryz.pinned.checked.prog.looks []∧∀(j:Nat) t,fn.params[j]?=some t→Tryz.pinned.checked.prog.wantsStandIn t=false:=by
 obtain rfl : f = 8 := Option.some.inj ((show prog.funcNamed "undertone/undertop.TopLeak" = some 8 by kernel_rfl).symm.trans hf) |>.symm
 obtain rfl:fn=Tryz.f8:=(Option.some.inj (func8.symm.trans hfn)).symm;refine⟨by kernel_rfl,fun j t ht=>?_⟩
 rw[Tryz.params8]at ht;have hm:=Array.mem_of_getElem? ht;simp only[List.mem_toArray,List.mem_cons,List.not_mem_nil,or_false]at hm;rcases hm with rfl|rfl|rfl
 ·exact(show prog.wantsStandIn 3=false by kernel_rfl)
 ·exact(show prog.wantsStandIn 3=false by kernel_rfl)
 ·exact(show prog.wantsStandIn 3=false by kernel_rfl)
theorem proved:Rows.TopLeakUptoCardSaid:=
 Claim7.holds_tied_plain_at .later [] _ _ _ _ said (fun _ h=>by cases h) (by kernel_rfl) (fun _ h=>by cases h) topLeakUpto_row_tie rfl ⟨rfl,rfl⟩ (by kernel_rfl) rfl plain (by kernel_rfl)
end Go.Proofs.YtbmbnippbldmfaaGreatDoor.topLeakTop
