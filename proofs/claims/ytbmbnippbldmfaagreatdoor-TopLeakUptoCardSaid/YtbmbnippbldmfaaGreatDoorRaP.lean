/- Own work: what opens statements. -/
import Derived.Test.YtbmbnippbldmfaaGreatDoorRa23
import Derived.Test.YtbmbnippbldmfaaGreatDoorRows
import Derived.WalkKit
import Derived.ProofKit
import Derived.OpenShut
import Derived.ShutString
import Derived.JoinedCond
import Derived.MakeChecks
import Derived.LaidSub
import Derived.Lay
import Derived.Stop.LaidErr
import Derived.Carry
import Derived.Deep.Slices
import Derived.ChangeSlices
import Derived.Lib.LaidTab
set_option maxHeartbeats 64000000
namespace Go.Proofs.YtbmbnippbldmfaaGreatDoor
open Go.Proofs.Tryz
open Go.ChangeMaps (open_string shut_string)
open Go.ChangeShapes Go.WideShapes Go.ChangeAt Go.RowKit
open Go.Fw (Kept Cal str Ret)
theorem A8a:ownKnob prog.godebug=none:=by kernel_rfl
theorem C2V {W W':World} (h:Kept [] W W') (may:MemPlace->Prop):W.keptBut W' may:=by
 refine⟨h.os,h.output,fun i hi=>?_⟩
 rw[h.blk i hi (by simp)];rcases hh:W.heap[i]? with _|o
 ·trivial
 ·cases o
  case cells c t fr=>exact⟨rfl,rfl,rfl,fun _ _=>rfl⟩
  case map es clock=>exact Or.inr ⟨rfl,rfl⟩
  all_goals rfl
theorem C9m {H:Type}{enc:TypeId×Value->H}{P:Program}{f:Func}{s:ChangeSpec}{apart fresh handsOn:Bool}{W W':World}{args:Array Value}{v:Value}{ds gs:List (DataW H)}{before pa pv:List MemPlace}
  (hW:DataW.Whole enc P f.params.toList s.vars apart W args.toList ds gs before)
  (hres:∀(b:Nat) (sp:Nat->Bool) (hd:Bool),DataW.TrodAll enc P W' b sp hd f.resultTypes.toList (v.resultList f.resultTypes.size) (s.fn H (ds++gs)).results [])
  (hargs:∀sp:Nat->Bool,(∀p∈before,sp p.block=true)->DataW.TrodAll enc P W' 0 sp true f.params.toList args.toList (s.fn H (ds++gs)).args pa)
  (hvars:∀sp:Nat->Bool,(∀p∈before,sp p.block=true)->DataW.TrodVars enc P W' sp s.vars (s.fn H (ds++gs)).vars pv)
  (hk:Kept [] W W'):s.post enc P f apart fresh handsOn false W args v W':=by
 have hold:∀p∈before,(fun b=>decide (b<W.heap.size)) p.block=true:=fun p hp=>by simpa using hW.lt p hp
 exact⟨ds,gs,before,[],pa,pv,hW,hres _ _ _,hargs _ hold,hvars _ hold,C2V hk _,fun h=>by cases h⟩
theorem C97 {H:Type} (d:DataW H):1<=Rows.uptoBulk d:=by
 cases d with
 |lit l=>cases l<;>simp[Rows.uptoBulk]
 |nil=>simp[Rows.uptoBulk]
 |ptr d=>simp[Rows.uptoBulk]
 |slice elems spare=>simp[Rows.uptoBulk]
 |agg parts=>simp[Rows.uptoBulk]
 |iface t d=>simp[Rows.uptoBulk]
 |map entries=>simp[Rows.uptoBulk]
 |held h=>simp[Rows.uptoBulk]
theorem B2s {H:Type}{d:DataW H}{l:List (DataW H)} (h:d∈l):Rows.uptoBulk d<=Rows.uptoBulkAll l:=by
 induction l with
 |nil=>cases h
 |cons x r ih=>
  simp only[Rows.uptoBulkAll];cases W9.1 h with
  |inl e=>subst e;omega
  |inr e=>have:=ih e;omega
theorem A9Z {H:Type}{l:List (DataW H)} (hk:Rows.uptoSmall H l=true) {s:List UInt8} (h:DataW.lit (.string s)∈l):s.length<=1048576:=by
 have h1:Rows.uptoBulkAll l<=1048576:=by simpa[Rows.uptoSmall] using hk
 have h2:=B2s h;simp only[Rows.uptoBulk]at h2;omega
end Go.Proofs.YtbmbnippbldmfaaGreatDoor
namespace Go.Proofs.YtbmbnippbldmfaaGreatDoor
open Go.Proofs.Tryz
open Go.Fw
open Go.RowKit
theorem C7R : "*" ++ "errors.errorString" = "*errors.errorString" := by decide
theorem D6R (u : TypeId) (h : prog.typeName? 3 u = some "*errors.errorString") : u = 314 :=
 typeName_ptr_named (nm := "errors.errorString") (by rw [C7R]; kernel_rfl) (by kernel_rfl) (by decide) u (by rw [C7R]; exact h)
theorem B36 {l:List (String×DataW Unit)}{W:World} (h:laidMetH prog l W) (hp:(l.all fun x=>x.2.handleName?.isNone)=true)
  (he : l.filter (fun x => x.1 == "strconv.ErrRange") = [("strconv.ErrRange", Rows.laid_strconv_ErrRange)]) : Conv (A6s W) := by
 rw[MakeChecks.laidMetH_plain _ _ _ hp]at h;have h1 := h.filter (fun x => x.1 == "strconv.ErrRange");rw[he]at h1;obtain⟨a,s,hv,_⟩:=laid_sentinel (g:=5) h1 (by kernel_rfl) (ti:=154) (by kernel_rfl) underlying154 D6R underlying314 underlying316 rfl rfl underlying9 (by kernel_rfl) (by kernel_rfl);have hg : prog.globalNamed "strconv.ErrRange" = some 5 := by kernel_rfl
 simp only[World.var?,hg,A2i]at hv;split at hv
 ·rename_i cs ty fr hw
  obtain rfl:=Z8 hv;exact⟨_,_,_,_,_,hw,rfl⟩
 ·cases hv
theorem B2h {f:FuncId}{args:Array Value}{v:Value}{W:World} (h:CalM prog f args (A6s W) [] (fun u _ H'=>u=v∧H'= [])):Cal prog f args W (fun u W'=>u=v∧Kept [] W W'):=
 (h.run W (Mem.start (B9v W))).mono (fun _ _ ⟨_,_,⟨h1,_⟩,h2⟩=>⟨h1,h2.kept⟩)
end Go.Proofs.YtbmbnippbldmfaaGreatDoor
namespace Go.Proofs.YtbmbnippbldmfaaGreatDoor
open Go.Proofs.Tryz
open Go.ChangeShapes Go.WideShapes Go.ChangeAt Go.RowKit
open Go.Fw
theorem B8b {W:World}{ty sz n cap:Nat}{a:Addr}{xs:List Value} (hl:xs.length=n *sz) (hsz:0<sz) (hnc:n<=cap) (hc:∀j v,xs[j]?=some v->W.cell? (a.add j)=some v):RowI (A6s W) ty sz (.slice (some a) n cap) n xs:=by
 refine⟨hl,some a,cap,rfl,hnc,fun hn=>?_⟩
 have h0:0<xs.length:=by rw[hl];exact Nat.mul_pos hn hsz
 have hx:=hc 0 xs[0] (F9 h0);obtain⟨b,off,sp⟩:=a;have e0:(⟨b,off,sp⟩:Addr).add 0=⟨b,off,sp⟩:=rfl;rw[e0]at hx;cases hh:W.heap[b]? with
 |none=>simp[World.cell?,hh]at hx
 |some o=>
  cases o with
  |cells c t fr=>
   cases sp with
   |some s=>simp[World.cell?,hh]at hx
   |none=>
    refine⟨b,off,c,(t,fr),rfl,hh,fun j u hj=>?_⟩
    have h2:=hc j u hj;rw[Addr.add_lit]at h2;simpa[World.cell?,hh] using h2
  |_=>simp[World.cell?,hh]at hx
theorem B5H {H:Type}:∀(l:List (DataW H)),l.length<=Rows.uptoBulkAll l
 | []=>by simp
 |d::r=>by
  have h1:=B5H r;have h2:=C97 d;simp only[E9,Rows.uptoBulkAll];omega
section
variable {H:Type}{enc:TypeId×Value->H}{W:World}
set_option maxRecDepth 100000 in
theorem B9G {v:Value}{d:DataW H}{p:List MemPlace}{b0:Nat} (hval:Value.okWide prog W .any b0 35 v) (h:DataW.Trod enc prog W 0 (fun _=>true) true 35 v d p):
  ∃(a:Option Addr) (zs:List Int) (cap:Nat),v=.slice a zs.length cap/\RowI (A6s W) 3 1 (.slice a zs.length cap) zs.length (zs.map (fun n=> .int .i64 n))/\zs.length<=Rows.uptoBulk d:=by
 obtain⟨a0,len,cap,rfl⟩:=okWide_slice underlying35 hval;obtain⟨A8s,hf⟩:=h;rcases open_ints underlying35 underlying3 (by kernel_rfl) hf with ⟨hcs,hx⟩|⟨a,len',cap',zs,hcs,_,hl,hm,hz,hx,hcell,hwz⟩
 ·simp[Value.cells]at hcs
  obtain⟨rfl,rfl,rfl⟩:=hcs;exact⟨none,[],0,rfl,A1L _ _ _ _ _,H9 _⟩
 ·simp[Value.cells]at hcs
  obtain⟨rfl,rfl,rfl⟩:=hcs;simp only[if_true]at hz;have hbl:(zs.take len).length=len:=by rw[P9];omega
  refine⟨some a,zs.take len,cap,by rw[hbl],?_,?_⟩
  ·rw[hbl]
   refine B8b (by rw[P7,P9];omega) (by decide) hl (fun j u hj=>?_)
   rw[Y6,A2M]at hj;split at hj
   ·rename_i hjl
    have hjz:j<zs.length:=by omega
    rw[F9 hjz]at hj;have h3:=hcell j hjz;rw[N9,F9 hjz]at h3;rw[h3];simpa using hj
   ·cases hj
  ·rw[hbl]
   simp only[Prod.mk.injEq]at hx;rw[hx.1];have h4:=B5H (lits (H:=H) .i64 (zs.take len));have h5:(lits (H:=H) .i64 (zs.take len)).length=len:=by rw[lits,P7,P9];omega
   simp only[Rows.uptoBulk];omega
theorem two {α:Type}{l:List α} (h:l.length=2):∃a b,l= [a,b]:=by
 match l,h with
 | [a,b],_=>exact⟨a,b,rfl⟩
end
theorem A7c:laidOutB prog=true:=by kernel_rfl
theorem A47 {W W':World} (h:Kept [] W W'):Below W.heap.size W W':=⟨h.os,h.tape,h.output,h.size,fun k hk=>h.blk k hk (by simp)⟩
theorem B01 {H:Type}{enc:TypeId×Value->H}{P:Program}{f:Func}{s:ChangeSpec}{apart fresh handsOn:Bool}{W W':World}{args:Array Value}{v:Value}{ds gs:List (DataW H)}{before pa pv:List MemPlace}
  (hW:DataW.Whole enc P f.params.toList s.vars apart W args.toList ds gs before)
  (hres:∀(b:Nat) (sp:Nat->Bool) (hd:Bool),DataW.TrodAll enc P W' b sp hd f.resultTypes.toList (v.resultList f.resultTypes.size) (s.fn H (ds++gs)).results [])
  (hargs:DataW.TrodAll enc P W' 0 (fun b=>decide (b<W.heap.size)) true f.params.toList args.toList (s.fn H (ds++gs)).args pa)
  (hvars:∀sp:Nat->Bool,(∀p∈before,sp p.block=true)->DataW.TrodVars enc P W' sp s.vars (s.fn H (ds++gs)).vars pv)
  (hk:Kept [] W W'):s.post enc P f apart fresh handsOn false W args v W':=by
 have hold:∀p∈before,(fun b=>decide (b<W.heap.size)) p.block=true:=fun p hp=>by simpa using hW.lt p hp
 exact⟨ds,gs,before,[],pa,pv,hW,hres _ _ _,hargs,hvars _ hold,C2V hk _,fun h=>by cases h⟩
theorem C6m {l:List (String×DataW Unit)}{W:World} (h:laidMetH prog l W) (hp:(l.all fun x=>x.2.handleName?.isNone)=true)
  (he : l.filter (fun x => x.1 == "internal/strconv.uint64pow10") = [("internal/strconv.uint64pow10", Rows.laid_internal_strconv_uint64pow10)]) :
  ∃ty fr,A6s W 1=some (.cells (Lib.pow10Tab.map fun z=>Value.int .u64 z).toArray ty fr):=by
 rw[MakeChecks.laidMetH_plain _ _ _ hp]at h;have h1 := h.filter (fun x => x.1 == "internal/strconv.uint64pow10");rw[he]at h1;have hd:(Rows.laid_internal_strconv_uint64pow10:DataW Unit)=Lib.tabData .u64 Lib.pow10Tab:=by kernel_rfl
 rw[hd]at h1;have hg : prog.globalNamed "internal/strconv.uint64pow10" = some 1 := by kernel_rfl
 have hv:=Lib.tabIs_of_head (g:=1) hg (t:=296) (by kernel_rfl) underlying296 underlying250 (by kernel_rfl) (by kernel_rfl) h1;unfold Lib.TabIs at hv
 simp only[World.var?,hg,A2i]at hv;split at hv
 ·rename_i cs ty fr hw
  obtain rfl:=Z8 hv;exact⟨_,_,hw⟩
 ·cases hv
section
variable {H:Type}{enc:TypeId×Value→H}{W:World}
set_option maxRecDepth 100000 in
theorem D31 {A8s:Nat}{cs:List Value}{x:DataW H×List MemPlace} (h:DataW.trod enc prog W 0 (fun _=>true) true A8s 35 cs=some x):
  ∃(a:Option Addr) (zs:List Int) (cap:Nat),cs= [.slice a zs.length cap]∧RowI (A6s W) 3 1 (.slice a zs.length cap) zs.length (zs.flatMap C2n):=by
 rcases open_ints underlying35 underlying3 (by kernel_rfl) h with ⟨rfl,hx⟩|⟨a,len,cap,zs,rfl,_,hl,hm,hz,hx,hcell,_⟩
 ·exact⟨none,[],0,rfl,A1L _ _ _ _ _⟩
 ·simp only[if_true]at hz
  have hbl:(zs.take len).length=len:=by rw[P9];omega
  refine⟨some a,zs.take len,cap,by rw[hbl],?_⟩
  rw[hbl,show (zs.take len).flatMap C2n=(zs.take len).map (Value.int .i64) from B9p _ _];refine B8b (by rw[P7,P9];omega) (by decide) hl (fun j u hj=>?_)
  rw[Y6,A2M]at hj;split at hj
  ·rename_i hjl
   have hjz:j<zs.length:=by omega
   rw[F9 hjz]at hj;have h3:=hcell j hjz;rw[N9,F9 hjz]at h3;rw[h3];simpa using hj
  ·cases hj
theorem six {α:Type}{l:List α} (h:l.length=6):∃a b c d e f,l= [a,b,c,d,e,f]:=by
 match l,h with
 | [a,b,c,d,e,f],_=>exact⟨a,b,c,d,e,f,rfl⟩
set_option maxRecDepth 100000 in
theorem B3t {A8s:Nat}{cs:List Value}{x:DataW H×List MemPlace} (h:DataW.trod enc prog W 0 (fun _=>true) true A8s 72 cs=some x) (hl:cs.length=6):
  ∃q:Sp.Qn,B25 (A6s W) q cs∧q.text.length≤Rows.uptoBulk x.1:=by
 obtain⟨xs,n,_,rfl,_,hlen,hf⟩:=DataW.trod_struct underlying72 h;obtain⟨x0,x1,x2,x3,x4,x5,rfl⟩:=six hlen;obtain⟨c0,c1,c2,c3,c4,c5,rfl⟩:=six hl;have k3:prog.cellsOf 3=1:=by kernel_rfl
 have k9:prog.cellsOf 9=1:=by kernel_rfl
 have k39:prog.cellsOf 35=1:=by kernel_rfl
 have f0:DataW.trod enc prog W 0 (fun _=>true) true n 3 (([c0,c1,c2,c3,c4,c5].drop 0).take (prog.cellsOf 3))=some x0:=hf 0 _ rfl;have f1:DataW.trod enc prog W 0 (fun _=>true) true n 3 (([c0,c1,c2,c3,c4,c5].drop 1).take (prog.cellsOf 3))=some x1:=hf 1 _ rfl;have f2:DataW.trod enc prog W 0 (fun _=>true) true n 3 (([c0,c1,c2,c3,c4,c5].drop 2).take (prog.cellsOf 3))=some x2:=hf 2 _ rfl;have f3:DataW.trod enc prog W 0 (fun _=>true) true n 3 (([c0,c1,c2,c3,c4,c5].drop 3).take (prog.cellsOf 3))=some x3:=hf 3 _ rfl;have f4:DataW.trod enc prog W 0 (fun _=>true) true n 9 (([c0,c1,c2,c3,c4,c5].drop 4).take (prog.cellsOf 9))=some x4:=hf 4 _ rfl;have f5:DataW.trod enc prog W 0 (fun _=>true) true n 35 (([c0,c1,c2,c3,c4,c5].drop 5).take (prog.cellsOf 35))=some x5:=hf 5 _ rfl;rw[k3]at f0 f1 f2 f3;rw[k9]at f4;rw[k39]at f5;obtain⟨z0,e0,_,_⟩:=DataW.trod_int underlying3 f0;obtain⟨z1,e1,_,_⟩:=DataW.trod_int underlying3 f1;obtain⟨z2,e2,_,_⟩:=DataW.trod_int underlying3 f2;obtain⟨z3,e3,_,_⟩:=DataW.trod_int underlying3 f3;obtain⟨s,e4,g4,_⟩:=DataW.trod_string underlying9 f4;obtain⟨a,zs,cap,e5,hr⟩:=D31 f5;simp only[A2t,List.drop_succ_cons,A09,Z9,A4b,and_true]at e0 e1 e2 e3 e4 e5;subst e0;subst e1;subst e2;subst e3;subst e4;subst e5;refine⟨⟨z0,z1,z2,z3,s.data.toList,zs⟩,⟨a,cap,rfl,hr⟩,?_⟩
 have h1:=B2s (d:=x4.1) (l:= [x0.1,x1.1,x2.1,x3.1,x4.1,x5.1]) (by simp);rw[g4]at h1;simp only[Rows.uptoBulk]at h1;simp only[Rows.uptoBulk,U4,A5K,g4];omega
end
end Go.Proofs.YtbmbnippbldmfaaGreatDoor
