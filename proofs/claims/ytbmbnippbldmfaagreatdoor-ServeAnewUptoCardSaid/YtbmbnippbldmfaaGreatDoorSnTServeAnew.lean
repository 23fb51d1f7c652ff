/-
  THE STATEMENT of the law ServeAnew, where what it reads is small: it returns true, whatever it is given; the listed variables as the program lays them. By the prover.
-/
import Derived.Test.YtbmbnippbldmfaaGreatDoorSn27
import Derived.Test.YtbmbnippbldmfaaGreatDoorSnP
import Derived.Test.YtbmbnippbldmfaaGreatDoorCards
import Derived.Test.YtbmbnippbldmfaaGreatDoorTie
import Derived.Deep.DeepHandedRow
import Derived.Lay
set_option maxHeartbeats 64000000
namespace Go.Proofs.YtbmbnippbldmfaaGreatDoor.serveAnewTop
open Go.Proofs.Tryz
open Go.ChangeMaps (open_string shut_string)
open Go.ChangeShapes Go.WideShapes Go.ChangeAt Go.RowKit
open Go.Fw (Kept Cal str Ret)
set_option maxRecDepth 100000 in
theorem contract (H:Type) (enc:TypeId×Value→H) (W:World) (base:Nat) (args:Array Value) (ds gs:List (DataW H)) (before:List MemPlace)
  (hval:∀(j:Nat) t v,Tryz.f7.params[j]?=some t→args[j]?=some v→Value.okWide prog W .any base t v)
  (hW:DataW.Whole enc prog Tryz.f7.params.toList Rows.serveAnewSpec.vars false W args.toList ds gs before) (hk:Rows.uptoSmall H (ds++gs)=true) (hL:laidMetH prog Rows.serveAnewUptoRow.laid W):
  Calls prog 7 args W fun e W'=> ∃v,e=.returned v∧Rows.serveAnewSpec.post enc prog Tryz.f7 false true false false W args v W':=by
 have hC:=C4W hL (by kernel_rfl) (by kernel_rfl);have hT:A8B (Go.Fw.A4X W):=C7C hL (by kernel_rfl) (by kernel_rfl);clear hL;have hW':=hW;obtain⟨p,q,hA0,hV,rfl,hfz,hnd⟩:=hW;have hA:DataW.TrodAll enc prog W 0 (fun _=>true) true Tryz.f7.params.toList args.toList ds p:=hA0;rw[Tryz.params7]at hA hval;obtain⟨v0,vs0,d0,ds0,p0,q0,hargs,rfl,rfl,h0,r0⟩:=trodAll_cons hA;obtain⟨v1,vs1,d1,ds1,p1,q1,hx1,rfl,rfl,h1,r1⟩:=trodAll_cons r0;obtain⟨rfl,rfl,rfl⟩:=trodAll_nil r1;obtain rfl:args= #[v0,v1]:=by cases args;simp_all
 obtain⟨rfl,rfl⟩:=trodVars_none hV;have hv0:=hval 0 70 v0 rfl rfl;have hv1:=hval 1 72 v1 rfl rfl;have hlt:=hW'.lt;clear hA0;simp only[List.append_nil]at hW' hk;have hk0:Rows.uptoBulk d0≤1048576:=Nat.le_trans (A9l (l:= [d0,d1]) (by simp)) (by simpa[Rows.uptoSmall] using hk);obtain⟨a0,s0,c0,xs0,rfl,hr0,ht0,hf0,hb0⟩:=C1A hv0 h0 hk0;have hk1:Rows.uptoBulk d1≤1048576:=Nat.le_trans (A9l (l:= [d0,d1]) (by simp)) (by simpa[Rows.uptoSmall] using hk);obtain⟨s1,cs1,rfl,⟨a1,c1,rfl,hr1⟩,hb1⟩:=C3L hv1 h1 hk1;refine((C37 (C4a s0 s1 (Go.Fw.A4X W) hr0 ht0 (fun q hq=>Nat.le_trans (hf0 q hq) (by omega)) (by omega) hr1 (by omega) hC hT)).run).mono fun e W' he=>?_
 cases e
 case returned v=>
  obtain⟨rfl,hg⟩:=he;refine⟨_,rfl,B9t (pv:= []) hW' (fun _ _ _=>trodAll_cons_mk (shut_bool underlying4 _) trodAll_mk0) (trodAll_cons_mk (Below.trod B7e (by kernel_rfl) (of_decide_eq_true (by kernel_rfl)) h0 (B3i hg) (fun x hx=>hlt x (by first|exact absurd hx (by simp)|simp[hx]))) (trodAll_cons_mk (Below.trod B7e (by kernel_rfl) (of_decide_eq_true (by kernel_rfl)) h1 (B3i hg) (fun x hx=>hlt x (by first|exact absurd hx (by simp)|simp[hx]))) trodAll_mk0)) (fun _ _=>rfl) hg⟩
 all_goals exact he.elim
noncomputable def laidWorld (os:Os):World:=World.laidAll prog os Rows.serveAnewUptoRow.laid
theorem laid_met (os:Os):laidMet prog Rows.serveAnewUptoRow.laid ((laidWorld os).forCall (fun _ _=>0) ⟨#[], #[.slice none 0 0,.agg #[.int .i64 0,.int .i64 0,.int .i64 0,.int .i64 0,.string .empty,.slice none 0 0]],[]⟩).memory:=
 laidMet_laidAll _ (by kernel_rfl) (by kernel_rfl)
theorem reads (os:Os) {H:Type} (enc:TypeId×Value→H):∃places,DataW.whole enc prog ((laidWorld os).forCall (fun _ _=>0) ⟨#[], #[.slice none 0 0,.agg #[.int .i64 0,.int .i64 0,.int .i64 0,.int .i64 0,.string .empty,.slice none 0 0]],[]⟩).memory Tryz.f7.params.toList Rows.serveAnewSpec.vars false (#[.slice none 0 0,.agg #[.int .i64 0,.int .i64 0,.int .i64 0,.int .i64 0,.string .empty,.slice none 0 0]]:Array Value).toList 8=some ([.nil,.agg [.lit (.int .i64 0),.lit (.int .i64 0),.lit (.int .i64 0),.lit (.int .i64 0),.lit (.string []),.nil]],[],places):=
 ⟨[],by kernel_rfl⟩
set_option maxRecDepth 100000 in
theorem lifted (os:Os) (started:os.Started) (H:Type) (enc:TypeId×Value→H) (F:Stop.Interp):
  ReturnsInHanded {} Tryz.checked os 7 .any ((Rows.OpenSpec.upto Rows.serveAnewSpec).preRow enc prog Tryz.f7 Rows.serveAnewUptoRow.domain false Rows.serveAnewUptoRow.laid) (((Rows.OpenSpec.upto Rows.serveAnewSpec).at F).post enc prog Tryz.f7 false true false false):=by
 obtain⟨places,hx⟩:=reads os enc;refine returnsInHanded_of_row (C:=Tryz.checked) (s:=Rows.OpenSpec.upto Rows.serveAnewSpec) B7B started (by kernel_rfl) func7
  (witness_row_at (enc:=enc) (C:=Tryz.checked) false (laidWorld os) #[.slice none 0 0,.agg #[.int .i64 0,.int .i64 0,.int .i64 0,.int .i64 0,.string .empty,.slice none 0 0]] (World.laidAll_os _ _ _) (by kernel_rfl) (by kernel_rfl) (by kernel_rfl)
   (OpenSpec.preRow_of_cond 8 hx (by kernel_rfl) (fun k hk=>by cases hk;kernel_rfl) (by kernel_rfl) (laid_met os))) ?_
 intro W base args ds gs before hval hW _ hcond _ hL _ _;exact contract H enc W base args ds gs before hval hW (hcond _ rfl) hL
theorem facts:joinedFacts Tryz.pinned.checked.prog 7 Tryz.f7 (Rows.OpenSpec.upto Rows.serveAnewSpec).bare Rows.serveAnewUptoRow=true:=by
 unfold joinedFacts
 simp only[Bool.and_eq_true];repeat' apply And.intro
 all_goals as_aux_lemma=>kernel_rfl
theorem said:Rows.ServeAnewUptoSaid:=
 OpenClaim.holds_of_cond 7 Tryz.f7 rfl rfl rfl rfl rfl rfl rfl ⟨rfl,rfl,rfl,rfl,rfl⟩ rfl rfl rfl rfl rfl (by kernel_rfl) func7 facts
  (of_decide_eq_true (by kernel_rfl)) (by unfold Func.isWrapper;first|(rw[if_pos (by decide+kernel)];kernel_rfl)|(rw[if_neg (by decide+kernel)];exact⟨rfl,rfl⟩))
  (fun os started H enc _ F=>by rw[OpenClaim.pre_eq_preRow];exact lifted os started H enc F)
theorem plain (f : FuncId) (fn : Func) (hf : Tryz.pinned.checked.prog.funcNamed "undertone/underlaw12.ServeAnew" = some f) (hfn : Tryz.pinned.checked.prog.funcs[f]? = some fn) :
  true=Tryz.pinned.checked.prog.looks []∧∀(j:Nat) t,fn.params[j]?=some t→Tryz.pinned.checked.prog.wantsStandIn t=false:=by
 obtain rfl : f = 7 := Option.some.inj ((show prog.funcNamed "undertone/underlaw12.ServeAnew" = some 7 by kernel_rfl).symm.trans hf) |>.symm
 obtain rfl:fn=Tryz.f7:=(Option.some.inj (func7.symm.trans hfn)).symm;refine⟨by kernel_rfl,fun j t ht=>?_⟩
 rw[Tryz.params7]at ht;have hm:=Array.mem_of_getElem? ht;simp only[List.mem_toArray,List.mem_cons,List.not_mem_nil,or_false]at hm;rcases hm with rfl|rfl
 ·exact(show prog.wantsStandIn 70=false by kernel_rfl)
 ·exact(show prog.wantsStandIn 72=false by kernel_rfl)
theorem proved:Rows.ServeAnewUptoCardSaid:=
 Claim7.holds_tied_plain_at .later [] _ _ _ _ said (fun _ h=>by cases h) (by kernel_rfl) (fun _ h=>by cases h) serveAnewUpto_row_tie rfl ⟨rfl,rfl⟩ (by kernel_rfl) rfl plain (by kernel_rfl)
end Go.Proofs.YtbmbnippbldmfaaGreatDoor.serveAnewTop
