/- Own work: what opens statements. -/
import Derived.Test.YtbmbnippbldmfaaGreatDoorSn27
import Derived.Test.YtbmbnippbldmfaaGreatDoorRows
import Derived.WalkKit
import Derived.ProofKit
import Derived.OpenShut
import Derived.ShutString
import Derived.JoinedCond
import Derived.MakeChecks
import Derived.LaidSub
import Derived.Lay
import Derived.Stop.LaidErr
import Derived.Carry
import Derived.Deep.Slices
import Derived.ChangeSlices
import Derived.Lib.LaidTab
set_option maxHeartbeats 64000000
namespace Go.Proofs.YtbmbnippbldmfaaGreatDoor
open Go.Proofs.Tryz
open Go.ChangeMaps (open_string shut_string)
open Go.ChangeShapes Go.WideShapes Go.ChangeAt Go.RowKit
open Go.Fw (Kept Cal str Ret)
theorem B7B:ownKnob prog.godebug=none:=by kernel_rfl
theorem C3i {W W':World} (h:Kept [] W W') (may:MemPlace->Prop):W.keptBut W' may:=by
 refine⟨h.os,h.output,fun i hi=>?_⟩
 rw[h.blk i hi (by simp)];rcases hh:W.heap[i]? with _|o
 ·trivial
 ·cases o
  case cells c t fr=>exact⟨rfl,rfl,rfl,fun _ _=>rfl⟩
  case map es clock=>exact Or.inr ⟨rfl,rfl⟩
  all_goals rfl
theorem C2q {H:Type} (d:DataW H):1<=Rows.uptoBulk d:=by
 cases d with
 |lit l=>cases l<;>simp[Rows.uptoBulk]
 |nil=>simp[Rows.uptoBulk]
 |ptr d=>simp[Rows.uptoBulk]
 |slice elems spare=>simp[Rows.uptoBulk]
 |agg parts=>simp[Rows.uptoBulk]
 |iface t d=>simp[Rows.uptoBulk]
 |map entries=>simp[Rows.uptoBulk]
 |held h=>simp[Rows.uptoBulk]
theorem A9l {H:Type}{d:DataW H}{l:List (DataW H)} (h:d∈l):Rows.uptoBulk d<=Rows.uptoBulkAll l:=by
 induction l with
 |nil=>cases h
 |cons x r ih=>
  simp only[Rows.uptoBulkAll];cases V8.1 h with
  |inl e=>subst e;omega
  |inr e=>have:=ih e;omega
end Go.Proofs.YtbmbnippbldmfaaGreatDoor
namespace Go.Proofs.YtbmbnippbldmfaaGreatDoor
open Go.Proofs.Tryz
open Go.Fw
open Go.RowKit
theorem C0z : "*" ++ "errors.errorString" = "*errors.errorString" := by decide
theorem C7m (u : TypeId) (h : prog.typeName? 3 u = some "*errors.errorString") : u = 314 :=
 typeName_ptr_named (nm := "errors.errorString") (by rw [C0z]; kernel_rfl) (by kernel_rfl) (by decide) u (by rw [C0z]; exact h)
theorem C4W {l:List (String×DataW Unit)}{W:World} (h:laidMetH prog l W) (hp:(l.all fun x=>x.2.handleName?.isNone)=true)
  (he : l.filter (fun x => x.1 == "strconv.ErrRange") = [("strconv.ErrRange", Rows.laid_strconv_ErrRange)]) : Conv (A4X W) := by
 rw[MakeChecks.laidMetH_plain _ _ _ hp]at h;have h1 := h.filter (fun x => x.1 == "strconv.ErrRange");rw[he]at h1;obtain⟨a,s,hv,_⟩:=laid_sentinel (g:=5) h1 (by kernel_rfl) (ti:=154) (by kernel_rfl) underlying154 C7m underlying314 underlying316 rfl rfl underlying9 (by kernel_rfl) (by kernel_rfl);have hg : prog.globalNamed "strconv.ErrRange" = some 5 := by kernel_rfl
 simp only[World.var?,hg,A1m]at hv;split at hv
 ·rename_i cs ty fr hw
  obtain rfl:=A0Y hv;exact⟨_,_,_,_,_,hw,rfl⟩
 ·cases hv
theorem C37 {f:FuncId}{args:Array Value}{v:Value}{W:World} (h:CalM prog f args (A4X W) [] (fun u _ H'=>u=v∧H'= [])):Cal prog f args W (fun u W'=>u=v∧Kept [] W W'):=
 (h.run W (Mem.start (B4z W))).mono (fun _ _ ⟨_,_,⟨h1,_⟩,h2⟩=>⟨h1,h2.kept⟩)
end Go.Proofs.YtbmbnippbldmfaaGreatDoor
namespace Go.Proofs.YtbmbnippbldmfaaGreatDoor
open Go.Proofs.Tryz
open Go.ChangeShapes Go.WideShapes Go.ChangeAt Go.RowKit
open Go.Fw
theorem B3C {W:World}{ty sz n cap:Nat}{a:Addr}{xs:List Value} (hl:xs.length=n *sz) (hsz:0<sz) (hnc:n<=cap) (hc:∀j v,xs[j]?=some v->W.cell? (a.add j)=some v):RowI (A4X W) ty sz (.slice (some a) n cap) n xs:=by
 refine⟨hl,some a,cap,rfl,hnc,fun hn=>?_⟩
 have h0:0<xs.length:=by rw[hl];exact Nat.mul_pos hn hsz
 have hx:=hc 0 xs[0] (G6 h0);obtain⟨b,off,sp⟩:=a;have e0:(⟨b,off,sp⟩:Addr).add 0=⟨b,off,sp⟩:=rfl;rw[e0]at hx;cases hh:W.heap[b]? with
 |none=>simp[World.cell?,hh]at hx
 |some o=>
  cases o with
  |cells c t fr=>
   cases sp with
   |some s=>simp[World.cell?,hh]at hx
   |none=>
    refine⟨b,off,c,(t,fr),rfl,hh,fun j u hj=>?_⟩
    have h2:=hc j u hj;rw[Addr.add_lit]at h2;simpa[World.cell?,hh] using h2
  |_=>simp[World.cell?,hh]at hx
theorem B1Q {H:Type}:∀(l:List (DataW H)),l.length<=Rows.uptoBulkAll l
 | []=>by simp
 |d::r=>by
  have h1:=B1Q r;have h2:=C2q d;simp only[F8,Rows.uptoBulkAll];omega
section
variable {H:Type}{enc:TypeId×Value->H}{W:World}
theorem two {α:Type}{l:List α} (h:l.length=2):∃a b,l= [a,b]:=by
 match l,h with
 | [a,b],_=>exact⟨a,b,rfl⟩
end
theorem B7e:laidOutB prog=true:=by kernel_rfl
theorem B3i {W W':World} (h:Kept [] W W'):Below W.heap.size W W':=⟨h.os,h.tape,h.output,h.size,fun k hk=>h.blk k hk (by simp)⟩
theorem B9t {H:Type}{enc:TypeId×Value->H}{P:Program}{f:Func}{s:ChangeSpec}{apart fresh handsOn:Bool}{W W':World}{args:Array Value}{v:Value}{ds gs:List (DataW H)}{before pa pv:List MemPlace}
  (hW:DataW.Whole enc P f.params.toList s.vars apart W args.toList ds gs before)
  (hres:∀(b:Nat) (sp:Nat->Bool) (hd:Bool),DataW.TrodAll enc P W' b sp hd f.resultTypes.toList (v.resultList f.resultTypes.size) (s.fn H (ds++gs)).results [])
  (hargs:DataW.TrodAll enc P W' 0 (fun b=>decide (b<W.heap.size)) true f.params.toList args.toList (s.fn H (ds++gs)).args pa)
  (hvars:∀sp:Nat->Bool,(∀p∈before,sp p.block=true)->DataW.TrodVars enc P W' sp s.vars (s.fn H (ds++gs)).vars pv)
  (hk:Kept [] W W'):s.post enc P f apart fresh handsOn false W args v W':=by
 have hold:∀p∈before,(fun b=>decide (b<W.heap.size)) p.block=true:=fun p hp=>by simpa using hW.lt p hp
 exact⟨ds,gs,before,[],pa,pv,hW,hres _ _ _,hargs,hvars _ hold,C3i hk _,fun h=>by cases h⟩
theorem C7C {l:List (String×DataW Unit)}{W:World} (h:laidMetH prog l W) (hp:(l.all fun x=>x.2.handleName?.isNone)=true)
  (he : l.filter (fun x => x.1 == "internal/strconv.uint64pow10") = [("internal/strconv.uint64pow10", Rows.laid_internal_strconv_uint64pow10)]) :
  ∃ty fr,A4X W 1=some (.cells (Lib.pow10Tab.map fun z=>Value.int .u64 z).toArray ty fr):=by
 rw[MakeChecks.laidMetH_plain _ _ _ hp]at h;have h1 := h.filter (fun x => x.1 == "internal/strconv.uint64pow10");rw[he]at h1;have hd:(Rows.laid_internal_strconv_uint64pow10:DataW Unit)=Lib.tabData .u64 Lib.pow10Tab:=by kernel_rfl
 rw[hd]at h1;have hg : prog.globalNamed "internal/strconv.uint64pow10" = some 1 := by kernel_rfl
 have hv:=Lib.tabIs_of_head (g:=1) hg (t:=296) (by kernel_rfl) underlying296 underlying250 (by kernel_rfl) (by kernel_rfl) h1;unfold Lib.TabIs at hv
 simp only[World.var?,hg,A1m]at hv;split at hv
 ·rename_i cs ty fr hw
  obtain rfl:=A0Y hv;exact⟨_,_,hw⟩
 ·cases hv
section
variable {H:Type}{enc:TypeId×Value→H}{W:World}
set_option maxRecDepth 100000 in
theorem C5a {A6S:Nat}{cs:List Value}{x:DataW H×List MemPlace} (h:DataW.trod enc prog W 0 (fun _=>true) true A6S 35 cs=some x):
  ∃(a:Option Addr) (zs:List Int) (cap:Nat),cs= [.slice a zs.length cap]∧RowI (A4X W) 3 1 (.slice a zs.length cap) zs.length (zs.flatMap C2G):=by
 rcases open_ints underlying35 underlying3 (by kernel_rfl) h with ⟨rfl,hx⟩|⟨a,len,cap,zs,rfl,_,hl,hm,hz,hx,hcell,_⟩
 ·exact⟨none,[],0,rfl,A0W _ _ _ _ _⟩
 ·simp only[if_true]at hz
  have hbl:(zs.take len).length=len:=by rw[Q4];omega
  refine⟨some a,zs.take len,cap,by rw[hbl],?_⟩
  rw[hbl,show (zs.take len).flatMap C2G=(zs.take len).map (Value.int .i64) from B4u _ _];refine B3C (by rw[A0g,Q4];omega) (by decide) hl (fun j u hj=>?_)
  rw[A0f,A1L]at hj;split at hj
  ·rename_i hjl
   have hjz:j<zs.length:=by omega
   rw[G6 hjz]at hj;have h3:=hcell j hjz;rw[O4,G6 hjz]at h3;rw[h3];simpa using hj
  ·cases hj
theorem six {α:Type}{l:List α} (h:l.length=6):∃a b c d e f,l= [a,b,c,d,e,f]:=by
 match l,h with
 | [a,b,c,d,e,f],_=>exact⟨a,b,c,d,e,f,rfl⟩
set_option maxRecDepth 100000 in
theorem C2m {A6S:Nat}{cs:List Value}{x:DataW H×List MemPlace} (h:DataW.trod enc prog W 0 (fun _=>true) true A6S 72 cs=some x) (hl:cs.length=6):
  ∃q:Sp.Qn,A7g (A4X W) q cs∧q.text.length≤Rows.uptoBulk x.1:=by
 obtain⟨xs,n,_,rfl,_,hlen,hf⟩:=DataW.trod_struct underlying72 h;obtain⟨x0,x1,x2,x3,x4,x5,rfl⟩:=six hlen;obtain⟨c0,c1,c2,c3,c4,c5,rfl⟩:=six hl;have k3:prog.cellsOf 3=1:=by kernel_rfl
 have k9:prog.cellsOf 9=1:=by kernel_rfl
 have k39:prog.cellsOf 35=1:=by kernel_rfl
 have f0:DataW.trod enc prog W 0 (fun _=>true) true n 3 (([c0,c1,c2,c3,c4,c5].drop 0).take (prog.cellsOf 3))=some x0:=hf 0 _ rfl;have f1:DataW.trod enc prog W 0 (fun _=>true) true n 3 (([c0,c1,c2,c3,c4,c5].drop 1).take (prog.cellsOf 3))=some x1:=hf 1 _ rfl;have f2:DataW.trod enc prog W 0 (fun _=>true) true n 3 (([c0,c1,c2,c3,c4,c5].drop 2).take (prog.cellsOf 3))=some x2:=hf 2 _ rfl;have f3:DataW.trod enc prog W 0 (fun _=>true) true n 3 (([c0,c1,c2,c3,c4,c5].drop 3).take (prog.cellsOf 3))=some x3:=hf 3 _ rfl;have f4:DataW.trod enc prog W 0 (fun _=>true) true n 9 (([c0,c1,c2,c3,c4,c5].drop 4).take (prog.cellsOf 9))=some x4:=hf 4 _ rfl;have f5:DataW.trod enc prog W 0 (fun _=>true) true n 35 (([c0,c1,c2,c3,c4,c5].drop 5).take (prog.cellsOf 35))=some x5:=hf 5 _ rfl;rw[k3]at f0 f1 f2 f3;rw[k9]at f4;rw[k39]at f5;obtain⟨z0,e0,_,_⟩:=DataW.trod_int underlying3 f0;obtain⟨z1,e1,_,_⟩:=DataW.trod_int underlying3 f1;obtain⟨z2,e2,_,_⟩:=DataW.trod_int underlying3 f2;obtain⟨z3,e3,_,_⟩:=DataW.trod_int underlying3 f3;obtain⟨s,e4,g4,_⟩:=DataW.trod_string underlying9 f4;obtain⟨a,zs,cap,e5,hr⟩:=C5a f5;simp only[A2o,List.drop_succ_cons,A1l,Z9,A27,and_true]at e0 e1 e2 e3 e4 e5;subst e0;subst e1;subst e2;subst e3;subst e4;subst e5;refine⟨⟨z0,z1,z2,z3,s.data.toList,zs⟩,⟨a,cap,rfl,hr⟩,?_⟩
 have h1:=A9l (d:=x4.1) (l:= [x0.1,x1.1,x2.1,x3.1,x4.1,x5.1]) (by simp);rw[g4]at h1;simp only[Rows.uptoBulk]at h1;simp only[Rows.uptoBulk,X8,List.map_nil,g4];omega
theorem B2S {I:P6}{C:Nat→List Value}:∀(n:Nat),(∀i,i<n→∃q:Sp.Qn,A7g I q (C i)∧q.text.length≤1048576)→∃qs:List Sp.Qn,qs.length=n∧A1d I qs ((List.range n).flatMap C)∧∀q∈qs,q.text.length≤1048576
 |0,_=>⟨[],rfl,rfl,fun q hq=>by cases hq⟩
 |n+1,h=>by
  obtain⟨qs,h1,h2,h3⟩:=B2S n (fun i hi=>h i (by omega));obtain⟨q,g1,g2⟩:=h n (by omega);refine⟨qs++ [q],by rw[E9,h1];rfl,?_,fun x hx=>?_⟩
  ·rw[A1O,X9]
   have:=A1d.snoc g1 h2;simpa using this
  ·rcases A0d.1 hx with hx|hx
   ·exact h3 x hx
   ·obtain rfl:=A0v.1 hx
    exact g2
set_option maxRecDepth 100000 in
theorem C1A {v:Value}{d:DataW H}{p:List MemPlace}{b0:Nat} (hval:Value.okWide prog W .any b0 70 v) (h:DataW.Trod enc prog W 0 (fun _=>true) true 70 v d p) (hk:Rows.uptoBulk d≤1048576):
  ∃(a:Option Addr) (qs:List Sp.Qn) (cap:Nat) (xs:List Value),v=.slice a qs.length cap∧RowI (A4X W) 72 6 (.slice a qs.length cap) qs.length xs∧A1d (A4X W) qs xs∧(∀q∈qs,q.text.length≤1048576)∧qs.length≤Rows.uptoBulk d:=by
 obtain⟨a0,len,cap,rfl⟩:=okWide_slice underlying70 hval;obtain⟨A6S,hf⟩:=h;have k41:prog.cellsOf 72=6:=by kernel_rfl
 rcases Go.Deep.open_slice underlying70 hf with ⟨hcs,hx⟩|⟨a,len',cap',m,n,D,Pl,hcs,_,hl,hm,hmm,hx,hel⟩
 ·simp[Value.cells]at hcs
  obtain⟨rfl,rfl,rfl⟩:=hcs;exact⟨none,[],0,[],rfl,A0W _ _ _ _ _,rfl,fun q hq=>(by cases hq),H7 _⟩
 ·simp[Value.cells]at hcs
  obtain⟨rfl,rfl,rfl⟩:=hcs;simp only[if_true]at hmm;rw[k41]at hel;have hDk:∀i,i<len→Rows.uptoBulk (D i)≤1048576:=fun i hi=>by
   simp only[Prod.mk.injEq]at hx;have h1:=A9l (d:=D i) (l:=(List.range len).map D) (A0x.2 ⟨i,A18.2 hi,rfl⟩);rw[hx.1]at hk;simp only[Rows.uptoBulk]at hk;omega
  have hC:∀i,∃c:List Value,c.length=6∧(i<len→(∀j u,c[j]?=some u→W.cell? ((a.add (i *6)).add j)=some u)∧∃q:Sp.Qn,A7g (A4X W) q c∧q.text.length≤1048576):=fun i=>by
   by_cases hi:i<len
   ·obtain⟨cs',g1,g2⟩:=hel i (by omega)
    obtain⟨_,g3,g4⟩:=World.cells?_some g1;refine⟨cs',g3,fun _=>⟨fun j u hj=>?_,let ⟨q,h1,h2⟩:=C2m g2 g3;⟨q,h1,A0J h2 (hDk i hi)⟩⟩⟩
    rw[g4 j (by have:=(A0t.1 hj).1;omega)];exact hj
   ·exact⟨List.replicate 6 (.bool false),by simp,fun h=>absurd h hi⟩
  have ⟨C,hC⟩:=Classical.axiomOfChoice hC;obtain⟨qs,q1,q2,q3⟩:=B2S (I:=A4X W) (C:=C) len (fun i hi=>((hC i).2 hi).2);subst q1;refine⟨some a,qs,cap,_,rfl,B3C (by rw[q2.len]) (by decide) hl (fun j u hj=>?_),q2,q3,?_⟩
  ·have hjl:=(A0t.1 hj).1
   rw[q2.len]at hjl;have hi:j / 6<qs.length:=by omega
   have hfl:=B1n C 6 (fun i=>(hC i).1) (List.range qs.length) (j / 6) (j / 6) (List.getElem?_range hi);have hju:(C (j / 6))[j % 6]?=some u:=by
    rw[←hfl,A1L,if_pos (Nat.mod_lt _ (by decide)),A14,show j / 6 *6+j % 6=j by omega];exact hj
   have h7:=((hC (j / 6)).2 hi).1 _ _ hju;obtain⟨b,off,sp⟩:=a;have e1:((⟨b,off,sp⟩:Addr).add (j / 6 *6)).add (j % 6)=(⟨b,off,sp⟩:Addr).add j:=by
    unfold Addr.add
    by_cases h1:j / 6 *6=0
    ·rw[if_pos h1,show j % 6=j by omega]
    ·rw[if_neg h1,if_neg (show ¬j=0 by omega)]
     by_cases h2:j % 6=0
     ·rw[if_pos h2,show j / 6 *6=j by omega]
     ·rw[if_neg h2]
      simp only[Addr.mk.injEq,true_and,and_true];omega
   rw[←e1];exact h7
  ·simp only[Prod.mk.injEq]at hx
   rw[hx.1];have h4:=B1Q ((List.range qs.length).map D);rw[A0g,List.length_range]at h4;simp only[Rows.uptoBulk];omega
set_option maxRecDepth 100000 in
theorem C3L {v:Value}{d:DataW H}{p:List MemPlace}{b0:Nat} (hval:Value.okWide prog W .any b0 72 v) (h:DataW.Trod enc prog W 0 (fun _=>true) true 72 v d p) (hk:Rows.uptoBulk d≤1048576):
  ∃(q:Sp.Qn) (cs:List Value),v=.agg cs.toArray∧A7g (A4X W) q cs∧q.text.length≤1048576:=by
 obtain⟨cs,rfl,hsz⟩:=okWide_struct underlying72 hval;obtain⟨A6S,hf⟩:=h;have k41:prog.cellsOf 72=6:=by kernel_rfl
 rw[k41]at hsz;obtain⟨l⟩:=cs;obtain⟨q,h1,h2⟩:=C2m (by simpa[Value.cells] using hf) hsz;exact⟨q,l,rfl,h1,A0J h2 hk⟩
end
end Go.Proofs.YtbmbnippbldmfaaGreatDoor
