/- Own work: texts TopRunSecret, one behind the other. -/
import Derived.Test.YtfjdfdgpkncpfaaGreatDoorQb28
import Derived.Test.YtfjdfdgpkncpfaaGreatDoorCards
import Derived.Test.YtfjdfdgpkncpfaaGreatDoorTie
import Derived.Deep.DeepHandedRow
import Derived.Lay
set_option maxHeartbeats 64000000
section
namespace Go.Proofs.YtfjdfdgpkncpfaaGreatDoor.runSecretTop
open Go.Proofs.Tryz
open Go.ChangeShapes Go.WideShapes Go.ChangeAt Go.RowKit
open Go.Fw (Kept Cal str Ret)
open Go.ChangeMaps (open_string shut_string)
set_option maxRecDepth 100000 in
theorem contract (H:Type) (enc:TypeId×Value→H) (W:World) (base:Nat) (args:Array Value) (ds gs:List (DataW H)) (before:List MemPlace)
  (hval:∀(j:Nat) t v,Tryz.f7.params[j]?=some t→args[j]?=some v→Value.okWide prog W .any base t v)
  (hW:DataW.Whole enc prog Tryz.f7.params.toList Rows.runSecretSpec.vars false W args.toList ds gs before) (hk:Rows.uptoSmall H (ds++gs)=true) (hL:laidMetH prog Rows.runSecretUptoRow.laid W):
  Calls prog 7 args W fun e W'=> ∃v,e=.returned v∧Rows.runSecretSpec.post enc prog Tryz.f7 false true false false W args v W':=by
 have hC:=B0v hL (by kernel_rfl) (by kernel_rfl)
 clear hL
 have hW':=hW
 obtain⟨p,q,hA0,hV,rfl,hfz,hnd⟩:=hW
 have hA:DataW.TrodAll enc prog W 0 (fun _=>true) true Tryz.f7.params.toList args.toList ds p:=hA0
 rw[Tryz.params7] at hA hval
 obtain⟨v0,vs0,d0,ds0,p0,q0,hargs,rfl,rfl,h0,r0⟩:=trodAll_cons hA
 obtain⟨v1,vs1,d1,ds1,p1,q1,hx1,rfl,rfl,h1,r1⟩:=trodAll_cons r0
 obtain⟨v2,vs2,d2,ds2,p2,q2,hx2,rfl,rfl,h2,r2⟩:=trodAll_cons r1
 obtain⟨v3,vs3,d3,ds3,p3,q3,hx3,rfl,rfl,h3,r3⟩:=trodAll_cons r2
 obtain⟨v4,vs4,d4,ds4,p4,q4,hx4,rfl,rfl,h4,r4⟩:=trodAll_cons r3
 obtain⟨rfl,rfl,rfl⟩:=trodAll_nil r4
 obtain rfl:args= #[v0,v1,v2,v3,v4]:=by cases args;simp_all
 obtain⟨rfl,rfl⟩:=trodVars_none hV
 obtain⟨s0,rfl,rfl,rfl,hm0⟩:=open_string underlying9 (hval 0 9 v0 rfl rfl) h0
 obtain⟨s1,rfl,rfl,rfl,hm1⟩:=open_string underlying9 (hval 1 9 v1 rfl rfl) h1
 obtain⟨a2,s2,c2,rfl,hr2,hl2⟩:=A7C (hval 2 33 v2 rfl rfl) h2
 obtain⟨a3,s3,c3,rfl,hr3,hl3⟩:=A7C (hval 3 33 v3 rfl rfl) h3
 obtain⟨s4,rfl,rfl,rfl,hm4⟩:=open_int underlying3 (hval 4 3 v4 rfl rfl) h4
 have hlt:=hW'.lt
 clear hA0
 simp only[List.append_nil] at hW' hk
 have hb0:s0.data.toList.length≤1048576:=A5o hk (by simp)
 have hb1:s1.data.toList.length≤1048576:=A5o hk (by simp)
 have hk2:Rows.uptoBulk d2≤1048576:=Nat.le_trans (A4n (l:= [.lit (.string s0.data.toList),.lit (.string s1.data.toList),d2,d3,.lit (.int .i64 s4)]) (by simp)) (by simpa[Rows.uptoSmall] using hk)
 have hk3:Rows.uptoBulk d3≤1048576:=Nat.le_trans (A4n (l:= [.lit (.string s0.data.toList),.lit (.string s1.data.toList),d2,d3,.lit (.int .i64 s4)]) (by simp)) (by simpa[Rows.uptoSmall] using hk)
 refine((A9k (B3R s0.data.toList s1.data.toList s2 s3 s4 a2 c2 a3 c3 (Go.Fw.A36 W) (by omega) (by omega) (by omega) (by omega) hC hr2 hr3)).run).mono fun e W' he=>?_
 cases e
 case returned v=>
  obtain⟨rfl,hg⟩:=he
  refine⟨_,rfl,A6n (pv:= []) hW' (fun _ _ _=>trodAll_cons_mk (shut_bool underlying4 _) trodAll_mk0) (trodAll_cons_mk (Below.trod A1E (by kernel_rfl) (of_decide_eq_true (by kernel_rfl)) h0 (A0O hg) (fun x hx=>hlt x (by first|exact absurd hx (by simp)|simp[hx]))) (trodAll_cons_mk (Below.trod A1E (by kernel_rfl) (of_decide_eq_true (by kernel_rfl)) h1 (A0O hg) (fun x hx=>hlt x (by first|exact absurd hx (by simp)|simp[hx]))) (trodAll_cons_mk (Below.trod A1E (by kernel_rfl) (of_decide_eq_true (by kernel_rfl)) h2 (A0O hg) (fun x hx=>hlt x (by first|exact absurd hx (by simp)|simp[hx]))) (trodAll_cons_mk (Below.trod A1E (by kernel_rfl) (of_decide_eq_true (by kernel_rfl)) h3 (A0O hg) (fun x hx=>hlt x (by first|exact absurd hx (by simp)|simp[hx]))) (trodAll_cons_mk (Below.trod A1E (by kernel_rfl) (of_decide_eq_true (by kernel_rfl)) h4 (A0O hg) (fun x hx=>hlt x (by first|exact absurd hx (by simp)|simp[hx]))) trodAll_mk0))))) (fun _ _=>rfl) hg⟩
 all_goals exact he.elim
noncomputable def laidWorld (os:Os):World:=World.laidAll prog os Rows.runSecretUptoRow.laid
theorem laid_met (os:Os):laidMet prog Rows.runSecretUptoRow.laid ((laidWorld os).forCall (fun _ _=>0) ⟨#[], #[.string .empty,.string .empty,.slice none 0 0,.slice none 0 0,.int .i64 0],[]⟩).memory:=
 laidMet_laidAll _ (by kernel_rfl) (by kernel_rfl)
theorem reads (os:Os) {H:Type} (enc:TypeId×Value→H):∃places,DataW.whole enc prog ((laidWorld os).forCall (fun _ _=>0) ⟨#[], #[.string .empty,.string .empty,.slice none 0 0,.slice none 0 0,.int .i64 0],[]⟩).memory Tryz.f7.params.toList Rows.runSecretSpec.vars false (#[.string .empty,.string .empty,.slice none 0 0,.slice none 0 0,.int .i64 0]:Array Value).toList 8=some ([.lit (.string []),.lit (.string []),.nil,.nil,.lit (.int .i64 0)],[],places):=
 ⟨[],by kernel_rfl⟩
set_option maxRecDepth 100000 in
theorem lifted (os:Os) (started:os.Started) (H:Type) (enc:TypeId×Value→H) (F:Stop.Interp):
  ReturnsInHanded {} Tryz.checked os 7 .any ((Rows.OpenSpec.upto Rows.runSecretSpec).preRow enc prog Tryz.f7 Rows.runSecretUptoRow.domain false Rows.runSecretUptoRow.laid) (((Rows.OpenSpec.upto Rows.runSecretSpec).at F).post enc prog Tryz.f7 false true false false):=by
 obtain⟨places,hx⟩:=reads os enc
 refine returnsInHanded_of_row (C:=Tryz.checked) (s:=Rows.OpenSpec.upto Rows.runSecretSpec) A5y started (by kernel_rfl) func7
  (witness_row_at (enc:=enc) (C:=Tryz.checked) false (laidWorld os) #[.string .empty,.string .empty,.slice none 0 0,.slice none 0 0,.int .i64 0] (World.laidAll_os _ _ _) (by kernel_rfl) (by kernel_rfl) (by kernel_rfl)
   (OpenSpec.preRow_of_cond 8 hx (by kernel_rfl) (fun k hk=>by cases hk;kernel_rfl) (by kernel_rfl) (laid_met os))) ?_
 intro W base args ds gs before hval hW _ hcond _ hL _ _
 exact contract H enc W base args ds gs before hval hW (hcond _ rfl) hL
theorem said:Rows.RunSecretUptoSaid:=
 OpenClaim.holds_of_cond 7 Tryz.f7 rfl rfl rfl rfl rfl rfl rfl ⟨rfl,rfl,rfl,rfl,rfl⟩ rfl rfl rfl rfl rfl (by kernel_rfl) func7 (by kernel_rfl)
  (of_decide_eq_true (by kernel_rfl)) (by unfold Func.isWrapper;first|(rw[if_pos (by decide+kernel)];kernel_rfl)|(rw[if_neg (by decide+kernel)];exact⟨rfl,rfl⟩))
  (fun os started H enc _ F=>by rw[OpenClaim.pre_eq_preRow];exact lifted os started H enc F)
theorem plain (f : FuncId) (fn : Func) (hf : Tryz.pinned.checked.prog.funcNamed "undertone/underlaw7.RunSecret" = some f) (hfn : Tryz.pinned.checked.prog.funcs[f]? = some fn) :
  true=Tryz.pinned.checked.prog.looks []∧∀(j:Nat) t,fn.params[j]?=some t→Tryz.pinned.checked.prog.wantsStandIn t=false:=by
 obtain rfl : f = 7 := Option.some.inj ((show prog.funcNamed "undertone/underlaw7.RunSecret" = some 7 by kernel_rfl).symm.trans hf) |>.symm
 obtain rfl:fn=Tryz.f7:=(Option.some.inj (func7.symm.trans hfn)).symm
 refine⟨by kernel_rfl,fun j t ht=>?_⟩
 rw[Tryz.params7] at ht
 have hm:=Array.mem_of_getElem? ht
 simp only[List.mem_toArray,List.mem_cons,List.not_mem_nil,or_false] at hm
 rcases hm with rfl|rfl|rfl|rfl|rfl
 ·exact(show prog.wantsStandIn 9=false by kernel_rfl)
 ·exact(show prog.wantsStandIn 9=false by kernel_rfl)
 ·exact(show prog.wantsStandIn 33=false by kernel_rfl)
 ·exact(show prog.wantsStandIn 33=false by kernel_rfl)
 ·exact(show prog.wantsStandIn 3=false by kernel_rfl)
theorem proved:Rows.RunSecretUptoCardSaid:=
 Claim7.holds_tied_plain_at .later [] _ _ _ _ said (fun _ h=>by cases h) (by kernel_rfl) (fun _ h=>by cases h) runSecretUpto_row_tie rfl ⟨rfl,rfl⟩ (by kernel_rfl) rfl plain (by kernel_rfl)
end Go.Proofs.YtfjdfdgpkncpfaaGreatDoor.runSecretTop
end
