/- Own work. -/
import Derived.Calls
import Derived.Tactics
import Derived.WalkKit
import Derived.Lib.Strings
import Derived.KernelRfl
import Derived.Laws.AppendOwn
import Derived.Laws.CopyRow
set_option maxHeartbeats 64000000
abbrev A3k:= @List.findIdx?_eq_some_iff_getElem
abbrev A5Z:= @Array.getElem?_setIfInBounds_ne
abbrev A05:= @List.eq_nil_of_length_eq_zero
abbrev A26:= @List.take_append_of_le_length
abbrev B0b:= @Array.getD_eq_getD_getElem?
abbrev A8D:= @List.perm_append_comm_assoc
abbrev B0c:= @Array.getElem?_eq_some_iff
abbrev N9:= @List.getD_eq_getElem?_getD
abbrev A2B:= @List.getElem?_append_right
abbrev A4P:= @List.getElem?_append_left
abbrev B0J:= @Array.mapM_eq_mapM_toList
abbrev A0D:= @List.getElem?_eq_some_iff
abbrev A7A:= @List.mem_of_find?_eq_some
abbrev A4m:= @List.findIdx?_eq_none_iff
abbrev A3Q:= @List.drop_eq_getElem_cons
abbrev A3y:= @List.pairwise_iff_getElem
abbrev B0K:= @List.sublist_append_right
abbrev F9:= @List.getElem?_eq_getElem
abbrev B0L:= @Array.setIfInBounds_comm
abbrev B0M:= @List.sublist_append_left
abbrev A49:= @Int.eq_ofNat_of_zero_le
abbrev A02:= @List.getElem?_cons_succ
abbrev A08:= @List.getElem?_cons_zero
abbrev B3H:= @List.pairwise_singleton
abbrev A0W:= @List.take_of_length_le
abbrev A6H:= @List.drop_of_length_le
abbrev A7B:= @List.getElem?_set_self
abbrev A5L:= @Nat.eq_of_beq_eq_true
abbrev A4n:= @List.getElem?_toArray
abbrev A7C:= @List.mem_iff_getElem?
abbrev A1m:= @List.mem_append_right
abbrev A1n:= @List.getElem?_eq_none
abbrev A3l:= @List.contains_iff_mem
abbrev A0X:= @List.length_singleton
abbrev A1o:= @List.perm_append_comm
abbrev A23:= @List.take_append_drop
abbrev A4o:= @Array.getElem?_modify
abbrev A3z:= @List.singleton_append
abbrev A4p:= @List.length_filter_le
abbrev A4q:= @Nat.le_of_ble_eq_true
abbrev B0N:= @Array.getElem?_toList
abbrev A5a:= @Nat.mul_le_mul_right
abbrev Z4:= @List.mem_cons_of_mem
abbrev A1E:= @List.mem_append_left
abbrev A03:= @List.mem_of_getElem?
abbrev A5M:= @List.getElem?_set_ne
abbrev A7D:= @List.mem_of_mem_take
abbrev A3R:= @List.pairwise_append
abbrev A7E:= @List.getElem?_zipIdx
abbrev A5b:= @Array.length_toList
abbrev X0:= @List.flatMap_append
abbrev A1F:= @List.takeWhile_cons
abbrev A09:= @List.take_succ_cons
abbrev A24:= @List.length_pos_iff
abbrev A4r:= @List.mem_map_of_mem
abbrev A2r:= @List.getElem_of_mem
abbrev B0O:= @List.replicate_succ
abbrev A8U:= @Array.ext_getElem?
abbrev A3m:= @List.getElem?_drop
abbrev A0q:= @List.mem_singleton
abbrev O4:= @List.mem_cons_self
abbrev A8V:= @List.filter_append
abbrev D9:= @List.length_append
abbrev A8W:= @List.mem_filterMap
abbrev A3A:= @Bool.false_eq_true
abbrev A6I:= @Nat.eq_zero_or_pos
abbrev A6J:= @List.findIdx?_cons
abbrev B0P:= @List.set_cons_succ
abbrev A2M:= @List.getElem?_take
abbrev A17:= @List.pairwise_cons
abbrev B0Q:= @List.set_cons_zero
abbrev X4:= @Option.some.injEq
abbrev B0R:= @List.size_toArray
abbrev J5:= @List.append_assoc
abbrev A5c:= @List.foldl_append
abbrev Y6:= @List.getElem?_map
abbrev A2N:= @List.take_add_one
abbrev A0c:= @List.flatMap_cons
abbrev B0S:= @List.any_eq_false
abbrev A1R:= @Int.toNat_natCast
abbrev A3B:= @List.ext_getElem?
abbrev A25:= @List.getElem?_set
abbrev A7F:= @Nat.lt_succ_of_le
abbrev A5N:= @List.Sublist.refl
abbrev A6K:= @List.nodup_append
abbrev B0T:= @Nat.le_of_lt_succ
abbrev A2i:= @Option.bind_some
abbrev B0U:= @Array.toList_inj
abbrev Q3:= @Bool.and_eq_true
abbrev A2O:= @List.all_eq_true
abbrev E9:= @List.length_cons
abbrev O1:= @List.getElem_mem
abbrev A3S:= @List.mem_flatMap
abbrev Q8:= @List.cons_append
abbrev A6L:= @List.drop_append
abbrev A8X:= @List.take_append
abbrev A0v:= @List.length_drop
abbrev A8Y:= @List.any_eq_true
abbrev V7:= @List.take_length
abbrev P9:= @List.length_take
abbrev A9s:= @Bool.not_eq_true
abbrev A73:= @Nat.le_add_right
abbrev A40:= @List.drop_length
abbrev A9t:= @List.flatMap_nil
abbrev A3r:= @List.prefix_refl
abbrev A06:= @Bool.eq_iff_iff
abbrev A07:= @List.foldl_cons
abbrev Y5:= @List.mem_append
abbrev J4:= @List.append_nil
abbrev V5:= @List.map_append
abbrev L9:= @List.nil_append
abbrev A28:= @List.range_succ
abbrev A1f:= @Bool.or_eq_true
abbrev A5G:= @List.all_append
abbrev A4a:= @List.find?_cons
abbrev A1g:= @Option.map_some
abbrev Z8:= @Option.some.inj
abbrev A29:= @List.length_set
abbrev A1O:= @Nat.min_eq_left
abbrev A4b:= @List.cons.injEq
abbrev A5H:= @List.set_append
abbrev P7:= @List.length_map
abbrev A74:= @List.nodup_cons
abbrev A75:= @Nat.testBit_and
abbrev A1P:= @List.mem_range
abbrev A2t:= @List.drop_zero
abbrev A5I:= @Bool.false_and
abbrev A76:= @List.nodup_nil
abbrev Z9:= @List.take_zero
abbrev A41:= @List.take_take
abbrev A4c:= @List.drop_drop
abbrev U4:= @List.map_cons
abbrev A77:= @List.sum_cons
abbrev W9:= @List.mem_cons
abbrev A78:= @Bool.not_true
abbrev A3M:= @Bool.true_and
abbrev A3a:= @Nat.add_assoc
abbrev A42:= @List.all_cons
abbrev U9:= @Nat.lt_or_ge
abbrev A1A:= @Nat.le_trans
abbrev A2S:= @Nat.add_zero
abbrev V9:= @Nat.zero_add
abbrev A14:= @Nat.zero_mul
abbrev Y7:= @List.mem_map
abbrev A2T:= @Nat.add_comm
abbrev A4d:= @Nat.sub_self
abbrev A5J:= @Nat.succ_mul
abbrev A3s:= @List.map_map
abbrev A5K:= @List.map_nil
abbrev H7:= @Nat.le_refl
abbrev A2u:= @Nat.add_mul
abbrev H9:= @Nat.zero_le
abbrev A4e:= @Nat.mul_one
abbrev A2U:= @Nat.blt_eq
namespace Go.Fw
open Go
abbrev Log:=List (Nat×Value)
def lk:Log->Nat->Option Value
 | [],_=>none
 |(d,v)::l,t=>bif Nat.beq t d then some v else lk l t
def ev (l:Log):Operand->Option Value
 | .tmp t=>lk l t
 | .const v=>some v
 | .global g=>some (.pointer (some ⟨g,0,none⟩))
 | .func f=>some (.func (.func f) #[] #[])
structure Fits (N:Nat) (ds:List Deferred) (l:Log) (a:Act):Prop where
 size:a.tmps.size=N
 defs:a.defers=ds
 vals:∀t v,lk l t=some v->a.tmps[t]?=some v
theorem Fits.ev {N:Nat}{ds:List Deferred}{l:Log}{a:Act} (h:Fits N ds l a) {x:Operand}{v:Value} (hx:ev l x=some v):a.eval x=v:=by
 cases x with
 |tmp t=>
  have:=h.vals t v hx;simp only[Act.eval,B0b,this,Option.getD_some]
 |const c=>simpa[Fw.ev,Act.eval] using hx
 |global g=>simpa[Fw.ev,Act.eval] using hx
 |func f=>simpa[Fw.ev,Act.eval] using hx
theorem Fits.put {N:Nat}{ds:List Deferred}{l:Log}{a:Act} (h:Fits N ds l a) {d:Nat} (hd:Nat.blt d N=true) (v:Value):
  Fits N ds ((d,v)::l) (a.put (some d) v):=by
 have hd':d<N:=by simpa[A2U] using hd
 refine⟨by simp[Act.put,h.size],h.defs,fun t u hu=>?_⟩
 simp only[lk]at hu;simp only[Act.put];cases hb:Nat.beq t d with
 |true=>
  rw[hb]at hu;have:t=d:=A5L hb;subst this;simp only[cond_true,X4]at hu;subst hu;have:t<a.tmps.size:=by rw[h.size];exact hd'
  simp[this]
 |false=>
  rw[hb]at hu;have hne:d≠t:=fun e=>by subst e;simp at hb
  simp only[cond_false]at hu;rw[A5Z hne];exact h.vals t u hu
def Sub (l' l:Log):Prop:= ∀t v,lk l' t=some v->lk l t=some v
def Has (l:Log):Log->Prop
 | []=>True
 |(d,v)::l'=>lk l d=some v/\Has l l'
theorem Has.sub {l:Log}:∀ {l':Log},Has l l'->Sub l' l
 | [],_=>fun t v h=>by simp[lk]at h
 |(d,u)::l',⟨h1,h2⟩=>fun t v h=>by
  simp only[lk]at h;cases hb:Nat.beq t d with
  |true=>rw[hb]at h;have:=A5L hb;subst this;simp at h;subst h;exact h1
  |false=>rw[hb]at h;exact h2.sub t v (by simpa using h)
theorem Fits.sub {N:Nat}{ds:List Deferred}{l l':Log}{a:Act} (h:Fits N ds l a) (hs:Sub l' l):Fits N ds l' a:=
 ⟨h.size,h.defs,fun t v hv=>h.vals t v (hs t v hv)⟩
section
variable {P:Program}{N:Nat}{ds:List Deferred}
structure WC (P:Program) (N:Nat) (ds:List Deferred) (c:Code) (Q:Exit->Act->World->Prop) (l:Log) (w:World):Prop where
 run:∀a,Fits N ds l a->c.wp P Q a w
structure WL (P:Program) (N:Nat) (ds:List Deferred) (ops:Array Oper) (Q:Exit->Act->World->Prop) (os:List Oper) (l:Log) (w:World):Prop where
 run:∀a,Fits N ds l a->wpList P ops Q os a w
structure At (N:Nat) (ds:List Deferred) (Q:Exit->Act->World->Prop) (e:Exit) (l:Log) (w:World):Prop where
 run:∀a,Fits N ds l a->Q e a w
variable {Q:Exit->Act->World->Prop}{l l':Log}{w w':World}{ops:Array Oper}{os:List Oper}
theorem E8 {x y:Code} (h:WC P N ds x (Exit.then (fun a w=>y.wp P Q a w) Q) l w):WC P N ds (.seq x y) Q l w:=
 ⟨fun a ha=>wp_seq (wp_mono (h.run a ha) fun _ _ _ q=>q)⟩
theorem D3g {x y:Code}{α:Type} (L:α->Log) (J:α->World->Prop)
  (h:WC P N ds x (Exit.then (fun a w=> ∃x,Fits N ds (L x) a/\J x w) Q) l w)
  (k:∀x w,J x w->WC P N ds y Q (L x) w):WC P N ds (.seq x y) Q l w:=
 ⟨fun a ha=>wp_seq (wp_mono (h.run a ha) (fun e a w q=>by
  cases e<;>first|exact q|(obtain⟨x,hx,hj⟩:=q;exact(k x w hj).run a hx)))⟩
theorem B1p (id:Nat) {ops:Array Oper}{dr:Bool}{x y:Code}{α:Type} (L:α->Log) (J:α->World->Prop)
  (h:WC P N ds (.seq (.region id ops dr) x) (Exit.then (fun a w=> ∃x,Fits N ds (L x) a/\J x w) Q) l w)
  (k:∀x w,J x w->WC P N ds y Q (L x) w):WC P N ds (.seq (.seq (.region id ops dr) x) y) Q l w:=D3g L J h k
theorem F6 {id:Nat}{c:Code} (h:WC P N ds c (Exit.inBlock id Q) l w):WC P N ds (.block id c) Q l w:=⟨fun a ha=>wp_block (h.run a ha)⟩
theorem G7 (h:At N ds Q .normal l w):WC P N ds .skip Q l w:=⟨fun a ha=>wp_skip (h.run a ha)⟩
theorem J3 (h:At N ds Q .ret l w):WC P N ds .ret Q l w:=⟨fun a ha=>wp_ret (h.run a ha)⟩
theorem O8 {id:Nat} (h:At N ds Q (.exit id) l w):WC P N ds (.exit id) Q l w:=⟨fun a ha=>wp_exit (h.run a ha)⟩
theorem A2e {c:Operand}{x y:Code}{b:Bool} (hc:ev l c=some (.bool b):=by rfl) (ht:b=true->WC P N ds x Q l w) (hf:b=false->WC P N ds y Q l w):
  WC P N ds (.cond c x y) Q l w:=⟨fun a ha=>wp_cond_split (ha.ev hc) (fun h=>(ht h).run a ha) (fun h=>(hf h).run a ha)⟩
theorem H5 {c:Operand}{x y:Code} (ht:WC P N ds x Q l w) (hc:ev l c=some (.bool true):=by rfl)  :
  WC P N ds (.cond c x y) Q l w:=⟨fun a ha=>wp_cond_true (ha.ev hc) (ht.run a ha)⟩
theorem F7 {c:Operand}{x y:Code} (hf:WC P N ds y Q l w) (hc:ev l c=some (.bool false):=by rfl)  :
  WC P N ds (.cond c x y) Q l w:=⟨fun a ha=>wp_cond_false (ha.ev hc) (hf.run a ha)⟩
theorem A8 {id:Nat} (h:WL P N ds ops Q ops.toList l w):WC P N ds (.region id ops false) Q l w:=⟨fun a ha=>wp_region_list (h.run a ha)⟩
theorem U3 {c:Code}{α:Type} (L:α->Log) (J:α->World->Prop) (μ:α->Nat) (x₀:α) (hl:Has l (L x₀)) (hw:J x₀ w)
  (round:∀x w,J x w->WC P N ds c (Exit.then (fun a w=> ∃y,Fits N ds (L y) a/\J y w/\μ y<μ x) Q) (L x) w):
  WC P N ds (.loop c) Q l w:=by
 refine⟨fun a ha b k cs=>?_⟩
 have key:∀n x a w,μ x=n->Fits N ds (L x) a->J x w->
   ∃e a' w',Q e a' w'/\Arrives P (lone (b.at a (.code c:: .inLoop c::k)) cs w) b k cs e a' w':=by
  intro n;induction n using Nat.strongRecOn with
  |_ n ih=>
   intro x a w hn hL hI;obtain⟨e,a₁,w₁,hq,harr⟩:=(round x w hI).run a hL b (.inLoop c::k) cs;cases e with
   |normal=>
    obtain⟨y,hL₁,hI₁,hlt⟩:=hq;obtain⟨e₂,a₂,w₂,hq₂,harr₂⟩:=ih (μ y) (hn ▸ hlt) y a₁ w₁ rfl hL₁ hI₁;exact⟨e₂,a₂,w₂,hq₂,.of_steps (Steps.trans harr (.one step_inLoop)) harr₂⟩
   |exit id=>exact⟨_,a₁,w₁,hq,.pass (x:=.inLoop c) rfl (fun _ _=> .inl (by simp)) harr⟩
   |goto l=>exact⟨_,a₁,w₁,hq,.pass (x:=.inLoop c) rfl (fun _ _=> .inl (by simp)) harr⟩
   |ret=>exact⟨_,a₁,w₁,hq,.pass (x:=.inLoop c) rfl (fun _ _=> .inl (by simp)) harr⟩
   |panic ch=>exact⟨_,a₁,w₁,hq,.pass (x:=.inLoop c) rfl (fun _ _=> .inl (by simp)) harr⟩
   |outgrown=>exact⟨_,a₁,w₁,hq,.pass (x:=.inLoop c) rfl (fun _ _=> .inl (by simp)) harr⟩
 obtain⟨e,a',w',hq,harr⟩:=key _ x₀ a w rfl (ha.sub hl.sub) hw;exact⟨e,a',w',hq,.of_steps (.one step_loop) harr⟩
theorem E5 (h:At N ds Q .normal l w):WL P N ds ops Q [] l w:=⟨fun a ha=>wpList_nil (h.run a ha)⟩
theorem A7 {y:Code} (h:WC P N ds y Q l w):At N ds (Exit.then (fun a w=>y.wp P Q a w) Q) .normal l w:=⟨fun a ha=>h.run a ha⟩
theorem L6 {α:Type}{L:α->Log}{J:α->World->Prop}{μ:α->Nat}{n:Nat} (y:α) (hl:Has l (L y)) (hw:J y w) (hm:μ y<n):
  At N ds (Exit.then (fun a w=> ∃y,Fits N ds (L y) a/\J y w/\μ y<n) Q) .normal l w:=⟨fun _ ha=>⟨y,ha.sub hl.sub,hw,hm⟩⟩
theorem A0V {α:Type}{L:α->Log}{J:α->World->Prop} (y:α) (hl:Has l (L y)) (hw:J y w):
  At N ds (Exit.then (fun a w=> ∃x,Fits N ds (L x) a/\J x w) Q) .normal l w:=⟨fun _ ha=>⟨y,ha.sub hl.sub,hw⟩⟩
theorem H8 {K:Act->World->Prop} (h:At N ds Q .ret l w):At N ds (Exit.then K Q) .ret l w:=⟨fun a ha=>h.run a ha⟩
theorem H6 {K:Act->World->Prop}{id:Nat} (h:At N ds Q (.exit id) l w):At N ds (Exit.then K Q) (.exit id) l w:=⟨fun a ha=>h.run a ha⟩
theorem D7 {id:Nat} (h:At N ds Q .normal l w):At N ds (Exit.inBlock id Q) .normal l w:=⟨fun a ha=>h.run a ha⟩
theorem O5 {id:Nat} (h:At N ds Q .ret l w):At N ds (Exit.inBlock id Q) .ret l w:=⟨fun a ha=>h.run a ha⟩
theorem G9 {id:Nat} (h:At N ds Q .normal l w):At N ds (Exit.inBlock id Q) (.exit id) l w:=
 ⟨fun a ha=>by simp only[Exit.inBlock,if_true];exact h.run a ha⟩
theorem Z5 {id id':Nat} (h:At N ds Q (.exit id') l w) (hne:Nat.beq id' id=false:=by rfl)  :At N ds (Exit.inBlock id Q) (.exit id') l w:=
 ⟨fun a ha=>by
  have:id'≠id:=fun e=>by subst e;simp at hne
  simp only[Exit.inBlock,this,if_false];exact h.run a ha⟩
def Ret (Post:Value->World->Prop):Ending->World->Prop
 | .returned v,w=>Post v w
 |_,_=>False
structure Cal (P:Program) (f:FuncId) (args:Array Value) (w:World) (Post:Value->World->Prop):Prop where
 run:Calls P f args w (Ret Post)
theorem Cal.mono {f:FuncId}{args:Array Value}{Post Post':Value->World->Prop} (h:Cal P f args w Post) (hp:∀v w,Post v w->Post' v w):Cal P f args w Post':=
 ⟨Calls.mono h.run (fun e w q=>by cases e<;>first|exact hp _ _ q|exact q)⟩
theorem J7 {fn:Func}{t:Nat}{v:Value}{Post:Value->World->Prop} (h:Post v w) (hr:fn.results= #[.tmp t]:=by rfl) (hv:lk l t=some v:=by rfl)  :
  At N [] (bodyPost P fn (Ret Post)) .ret l w:=⟨fun a ha=>
 ⟨ha.defs,v,by rw[results_tmp hr];simp[ha.vals t v hv],h⟩⟩
theorem A4E {fn:Func}{t u:Nat}{v x:Value}{Post:Value->World->Prop} (h:Post (.tuple #[v,x]) w) (hr:fn.results= #[.tmp t,.tmp u]:=by rfl) (hv:lk l t=some v:=by rfl) (hx:lk l u=some x:=by rfl)
   :At N [] (bodyPost P fn (Ret Post)) .ret l w:=⟨fun a ha=>
 ⟨ha.defs,_,by rw[results_tmp2 hr];simp[ha.vals t v hv,ha.vals u x hx],h⟩⟩
theorem A69 {fn:Func}{Post:Value->World->Prop} (h:Post (.tuple #[]) w) (hr:fn.results= #[]:=by rfl)  :
  At N [] (bodyPost P fn (Ret Post)) .ret l w:=⟨fun _ ha=>⟨ha.defs,_,results_none hr _ _ _,h⟩⟩
theorem A0p {fn:Func}{Post:Value->World->Prop} (h:Post (.tuple #[]) w) (hr:fn.results= #[]:=by rfl)  :
  At N [] (bodyPost P fn (Ret Post)) .normal l w:=⟨fun _ ha=>⟨ha.defs,_,results_none hr _ _ _,h⟩⟩
theorem B3y (args:Array Value) (n:Nat) (l:Log) (h:∀t v,lk l t=some v->args[t]?=some v):
  Fits (args.size+n) [] l { tmps:=args++Array.replicate n undef,defers:= []}:=by
 refine⟨by simp,rfl,fun t v hv=>?_⟩
 have h1:=h t v hv;have h2:t<args.size:=by
  rcases U9 t args.size with h3|h3
  ·exact h3
  ·simp[Array.getElem?_eq_none h3]at h1
 show (args++Array.replicate n undef)[t]?=some v
 rw[Array.getElem?_append_left h2];exact h1
theorem C1Y:∀t u,lk [] t=some u->(#[]:Array Value)[t]?=some u:=fun t u h=>by simp[lk]at h
theorem A0Z {v:Value}:∀t u,lk [(0,v)] t=some u-> #[v][t]?=some u:=fun t u h=>by
 match t,h with
 |0,h=>simpa[lk] using h
 |t+1,h=>cases h
theorem A1x {v0 v1:Value}:∀t u,lk [(0,v0),(1,v1)] t=some u-> #[v0,v1][t]?=some u:=fun t u h=>by
 match t,h with
 |0,h=>simpa[lk] using h
 |1,h=>have h':some v1=some u:=h;simpa using h'
 |t+2,h=>cases h
theorem A4x {v0 v1 v2:Value}:∀t u,lk [(0,v0),(1,v1),(2,v2)] t=some u-> #[v0,v1,v2][t]?=some u:=fun t u h=>by
 match t,h with
 |0,h=>simpa[lk] using h
 |1,h=>have h':some v1=some u:=h;simpa using h'
 |2,h=>have h':some v2=some u:=h;simpa using h'
 |t+3,h=>cases h
theorem B6Y {v0 v1 v2 v3:Value}:∀t u,lk [(0,v0),(1,v1),(2,v2),(3,v3)] t=some u-> #[v0,v1,v2,v3][t]?=some u:=fun t u h=>by
 match t,h with
 |0,h=>simpa[lk] using h
 |1,h=>have h':some v1=some u:=h;simpa using h'
 |2,h=>have h':some v2=some u:=h;simpa using h'
 |3,h=>have h':some v3=some u:=h;simpa using h'
 |t+4,h=>cases h
theorem enter {f:FuncId}{fn:Func}{c:Code}{args:Array Value}{Post:Value->World->Prop} (hf:P.funcs[f]?=some fn) (hb:fn.body=some c)
  (l:Log) (hl:∀t v,lk l t=some v->args[t]?=some v) (hN:N=args.size+(fn.ntmps-args.size))
  (h:WC P N [] c (bodyPost P fn (Ret Post)) l w):Cal P f args w Post:=
 ⟨calls_of_wp hf hb (h.run _ (by rw[hN];exact B3y _ _ _ hl))⟩
end
def X9 (ops:Array Oper) (l:Log) (o:Oper):Option Bool:=
 match o.guard with
 |none=>some true
 |some (j,b)=>match (ops[j]?).bind (·.dst) with
  |none=>some false
  |some t=>match lk l t with
   |some (.bool x)=>some (x==b)
   |some (.tuple _)=>some false
   |_=>none
section
variable {P:Program}{N:Nat}{ds:List Deferred}{Q:Exit->Act->World->Prop}{l l':Log}{w w':World}{ops:Array Oper}{os:List Oper}{o:Oper}
theorem A4V {a:Act} (h:Fits N ds l a) {b:Bool} (hw:X9 ops l o=some b):Region.wanted o (yielded ops a.tmps)=b:=by
 unfold X9 at hw
 unfold Region.wanted yielded
 split at hw
 ·rename_i hg;simp only[X4]at hw;simp[hg, <-hw]
 ·rename_i j c hg
  simp only[hg];split at hw
  ·rename_i hj;simp only[X4]at hw;simp[hj, <-hw]
  ·rename_i t hj
   simp only[hj,A2i];split at hw
   ·rename_i x hx
    simp only[X4]at hw;simp[h.vals _ _ hx, <-hw]
   ·rename_i x hx
    simp only[X4]at hw;simp[h.vals _ _ hx, <-hw]
   ·cases hw
theorem B6e (hw:X9 ops l o=some true) (h:∀a,Fits N ds l a->o.wp P a w (fun a' w'=>wpList P ops Q os a' w') Q):WL P N ds ops Q (o::os) l w:=
 ⟨fun a ha=>by
  unfold wpList
  rw[A4V ha hw];exact .inl (h a ha)⟩
theorem X6 {d:Nat}{v:Value} (hd:o.dst=some d) (hw:X9 ops l o=some true) (hN:Nat.blt d N=true)
  (hrun:∀a,Fits N ds l a->(execOp a.eval o).run P w=.ok (.value v) w')
  (k:WL P N ds ops Q os ((d,v)::l) w'):WL P N ds ops Q (o::os) l w:=
 B6e hw fun a ha=>by
  unfold Oper.wp
  rw[hrun a ha,Oper.upon_value,hd];exact k.run _ (ha.put hN v)
theorem A0z {d:Nat} (k:WL P N ds ops Q os ((d,undef)::l) w) (hd:o.dst=some d:=by rfl) (hw:X9 ops l o=some false:=by rfl) (hN:Nat.blt d N=true:=by rfl)
   :WL P N ds ops Q (o::os) l w:=⟨fun a ha=>by
 unfold wpList
 rw[A4V ha hw,hd];exact k.run _ (ha.put hN _)⟩
theorem A3u {j:Nat}{b:Bool}{c:Bool}{t:Nat} (_hg:o.guard=some (j,c):=by rfl) (_ht:(ops[j]?).bind (·.dst)=some t:=by rfl) (hb:lk l t=some (.bool b):=by rfl)
  (h1:b=true->WL P N ds ops Q (o::os) ((t,.bool true)::l) w) (h0:b=false->WL P N ds ops Q (o::os) ((t,.bool false)::l) w):
  WL P N ds ops Q (o::os) l w:=by
 have key:∀c,b=c->WL P N ds ops Q (o::os) ((t,.bool c)::l) w->WL P N ds ops Q (o::os) l w:=fun c e h=>⟨fun a ha=>by
  subst e;refine h.run a ⟨ha.size,ha.defs,fun s v hv=>?_⟩
  simp only[lk]at hv;cases hs:Nat.beq s t with
  |true=>rw[hs]at hv;have:=A5L hs;subst this;simp at hv;subst hv;exact ha.vals _ _ hb
  |false=>rw[hs]at hv;exact ha.vals _ _ (by simpa using hv)⟩
 cases hb':b with
 |true=>exact key true hb' (h1 hb')
 |false=>exact key false hb' (h0 hb')
theorem O3 {j:Nat}{p:Prop} [Decidable p] {c:Bool}{t:Nat} (hg:o.guard=some (j,c):=by rfl) (ht:(ops[j]?).bind (·.dst)=some t:=by rfl) (hb:lk l t=some (.bool (decide p)):=by rfl)
  (h1:p->WL P N ds ops Q (o::os) ((t,.bool true)::l) w) (h0:¬p->WL P N ds ops Q (o::os) ((t,.bool false)::l) w):
  WL P N ds ops Q (o::os) l w:=
 A3u hg ht hb (fun h=>h1 (of_decide_eq_true h)) (fun h=>h0 (of_decide_eq_false h))
theorem C9 {c:Operand}{x y:Code}{p:Prop} [Decidable p] (hc:ev l c=some (.bool (decide p)):=by rfl) (ht:p->WC P N ds x Q l w) (hf:¬p->WC P N ds y Q l w):
  WC P N ds (.cond c x y) Q l w:=A2e hc (fun h=>ht (of_decide_eq_true h)) (fun h=>hf (of_decide_eq_false h))
variable {d:Nat}{ty:TypeId}{pos:String}{af:Array Edge}{g:Option (Nat×Bool)}
theorem D8 {x:Operand}{v:Value} (k:WL P N ds ops Q os ((d,v)::l) w) (hw:X9 ops l ⟨some d,.move x,ty,pos,af,g⟩=some true:=by rfl) (hN:Nat.blt d N=true:=by rfl) (hx:ev l x=some v:=by rfl)
   :WL P N ds ops Q (⟨some d,.move x,ty,pos,af,g⟩::os) l w:=
 X6 rfl hw hN (fun a ha=>by simp[execOp,ha.ev hx]) k
theorem D6 {x:Operand}{v:Value} (k:WL P N ds ops Q os ((d,v)::l) w) (hw:X9 ops l ⟨some d,.assign x,ty,pos,af,g⟩=some true:=by rfl) (hN:Nat.blt d N=true:=by rfl) (hx:ev l x=some v:=by rfl)
   :WL P N ds ops Q (⟨some d,.assign x,ty,pos,af,g⟩::os) l w:=
 X6 rfl hw hN (fun a ha=>by simp[execOp,ha.ev hx]) k
theorem O0 {c x y:Operand}{v:Value} (k:WL P N ds ops Q os ((d,v)::l) w) (hw:X9 ops l ⟨some d,.pick c x y,ty,pos,af,g⟩=some true:=by rfl) (hN:Nat.blt d N=true:=by rfl)
  (hc:ev l c=some (.bool true):=by rfl) (hx:ev l x=some v:=by rfl)  :WL P N ds ops Q (⟨some d,.pick c x y,ty,pos,af,g⟩::os) l w:=
 X6 rfl hw hN (fun a ha=>by simp[execOp,ha.ev hc,ha.ev hx,asBool]) k
theorem N7 {c x y:Operand}{v:Value} (k:WL P N ds ops Q os ((d,v)::l) w) (hw:X9 ops l ⟨some d,.pick c x y,ty,pos,af,g⟩=some true:=by rfl) (hN:Nat.blt d N=true:=by rfl)
  (hc:ev l c=some (.bool false):=by rfl) (hy:ev l y=some v:=by rfl)  :WL P N ds ops Q (⟨some d,.pick c x y,ty,pos,af,g⟩::os) l w:=
 X6 rfl hw hN (fun a ha=>by simp[execOp,ha.ev hc,ha.ev hy,asBool]) k
theorem A4F {α:Type} [BEq α] [LawfulBEq α] [DecidableEq α] (a b:α):(a==b)=decide (a=b):=by rw[A06];simp
section
variable {t t':TypeId}{x y:Operand}{ik:IntKind}
theorem J8 {a b:Int} (k:WL P N ds ops Q os ((d,.bool (decide (a<b)))::l) w) (hw:X9 ops l ⟨some d,.binOp .lss t x y t',ty,pos,af,g⟩=some true:=by rfl) (hN:Nat.blt d N=true:=by rfl) (hx:ev l x=some (.int ik a):=by rfl) (hy:ev l y=some (.int ik b):=by rfl)
   :WL P N ds ops Q (⟨some d,.binOp .lss t x y t',ty,pos,af,g⟩::os) l w:=
 X6 rfl hw hN (fun c hc=>by simp[execOp,hc.ev hx,hc.ev hy,eqGuard,binOp,Op.intCmp]) k
theorem A82 {a b:Int} (k:WL P N ds ops Q os ((d,.bool (decide (a<=b)))::l) w) (hw:X9 ops l ⟨some d,.binOp .leq t x y t',ty,pos,af,g⟩=some true:=by rfl) (hN:Nat.blt d N=true:=by rfl) (hx:ev l x=some (.int ik a):=by rfl) (hy:ev l y=some (.int ik b):=by rfl)
   :WL P N ds ops Q (⟨some d,.binOp .leq t x y t',ty,pos,af,g⟩::os) l w:=
 X6 rfl hw hN (fun c hc=>by simp[execOp,hc.ev hx,hc.ev hy,eqGuard,binOp,Op.intCmp]) k
theorem A1H {a b:Int} (k:WL P N ds ops Q os ((d,.bool (decide (b<a)))::l) w) (hw:X9 ops l ⟨some d,.binOp .gtr t x y t',ty,pos,af,g⟩=some true:=by rfl) (hN:Nat.blt d N=true:=by rfl) (hx:ev l x=some (.int ik a):=by rfl) (hy:ev l y=some (.int ik b):=by rfl)
   :WL P N ds ops Q (⟨some d,.binOp .gtr t x y t',ty,pos,af,g⟩::os) l w:=
 X6 rfl hw hN (fun c hc=>by simp[execOp,hc.ev hx,hc.ev hy,eqGuard,binOp,Op.intCmp]) k
theorem A11 {a b:Int} (k:WL P N ds ops Q os ((d,.bool (decide (b<=a)))::l) w) (hw:X9 ops l ⟨some d,.binOp .geq t x y t',ty,pos,af,g⟩=some true:=by rfl) (hN:Nat.blt d N=true:=by rfl) (hx:ev l x=some (.int ik a):=by rfl) (hy:ev l y=some (.int ik b):=by rfl)
   :WL P N ds ops Q (⟨some d,.binOp .geq t x y t',ty,pos,af,g⟩::os) l w:=
 X6 rfl hw hN (fun c hc=>by simp[execOp,hc.ev hx,hc.ev hy,eqGuard,binOp,Op.intCmp]) k
theorem O6 {a b:Int} (k:WL P N ds ops Q os ((d,.bool (decide (a=b)))::l) w) (hw:X9 ops l ⟨some d,.binOp .eql t x y t',ty,pos,af,g⟩=some true:=by rfl) (hN:Nat.blt d N=true:=by rfl) (hx:ev l x=some (.int ik a):=by rfl) (hy:ev l y=some (.int ik b):=by rfl)
   :WL P N ds ops Q (⟨some d,.binOp .eql t x y t',ty,pos,af,g⟩::os) l w:=
 X6 rfl hw hN (fun c hc=>by simp[execOp,hc.ev hx,hc.ev hy,eqGuard,binOp,Op.intCmp,A4F]) k
theorem A0w {a b:Int} (k:WL P N ds ops Q os ((d,.bool (decide (a≠b)))::l) w) (hw:X9 ops l ⟨some d,.binOp .neq t x y t',ty,pos,af,g⟩=some true:=by rfl) (hN:Nat.blt d N=true:=by rfl) (hx:ev l x=some (.int ik a):=by rfl) (hy:ev l y=some (.int ik b):=by rfl)
   :WL P N ds ops Q (⟨some d,.binOp .neq t x y t',ty,pos,af,g⟩::os) l w:=
 X6 rfl hw hN (fun c hc=>by simp[execOp,hc.ev hx,hc.ev hy,eqGuard,binOp,Op.intCmp,A4F,bne]) k
end
end
structure Kept (X:List Nat) (w w':World):Prop where
 os:w'.os=w.os
 tape:w'.tape=w.tape
 output:w'.output=w.output
 size:w.heap.size≤w'.heap.size
 blk:∀k,k<w.heap.size→k∉X→w'.heap[k]?=w.heap[k]?
theorem A3n {w:World}{b:Nat}{o:Obj} (h:w.heap[b]?=some o):b<w.heap.size:=(B0c.1 h).1
theorem Kept.refl (X:List Nat) (w:World):Kept X w w:=⟨rfl,rfl,rfl,H7 _,fun _ _ _=>rfl⟩
theorem Kept.trans {X:List Nat}{a b c:World} (h:Kept X a b) (k:Kept X b c):Kept X a c:=
 ⟨k.os.trans h.os,k.tape.trans h.tape,k.output.trans h.output,A1A h.size k.size,
  fun i hi hx=>(k.blk i (Nat.lt_of_lt_of_le hi h.size) hx).trans (h.blk i hi hx)⟩
theorem Kept.mono {X Y:List Nat}{a b:World} (h:Kept X a b) (hs:∀x,x∈X→x∈Y∨a.heap.size≤x):Kept Y a b:=
 ⟨h.os,h.tape,h.output,h.size,fun i hi hy=>h.blk i hi (fun hx=>(hs i hx).elim hy (fun h2=>absurd hi (Nat.not_lt.2 h2)))⟩
theorem Kept.step {X Y:List Nat}{a b c:World} (h:Kept X a b) (k:Kept Y b c) (hs:∀x,x∈Y→x∈X∨a.heap.size≤x):Kept X a c:=
 ⟨k.os.trans h.os,k.tape.trans h.tape,k.output.trans h.output,A1A h.size k.size,
  fun i hi hx=>(k.blk i (Nat.lt_of_lt_of_le hi h.size) (fun hy=>(hs i hy).elim hx (fun h2=>absurd hi (Nat.not_lt.2 h2)))).trans (h.blk i hi hx)⟩
theorem Kept.step0 {X:List Nat}{a b c:World} (h:Kept X a b) (k:Kept [] b c):Kept X a c:=h.step k (fun _ hx=>by cases hx)
theorem Kept.get {X:List Nat}{w w':World} (h:Kept X w w') {b:Nat}{o:Obj} (hb:w.heap[b]?=some o) (hx:b∉X):w'.heap[b]?=some o:=
 (h.blk b (A3n hb) hx).trans hb
theorem Kept.get0 {w w':World} (h:Kept [] w w') {b:Nat}{o:Obj} (hb:w.heap[b]?=some o):w'.heap[b]?=some o:=h.get hb (by simp)
theorem Kept.alloc (w:World) (o:Obj):Kept [] w (w.alloc o):=⟨rfl,rfl,rfl,by simp,fun k hk _=>heap_alloc_old w o hk⟩
theorem Kept.drew (w:World):Kept [] w w.drew:=⟨rfl,rfl,rfl,H7 _,fun _ _ _=>rfl⟩
theorem Kept.of_grown {w w':World}{r:Option Nat} (h:w.grownBy w' r):Kept r.toList w w':=
 ⟨h.os,h.tape,h.output,h.size,fun k hk hx=>h.block k hk (fun e=>hx (by rw[←e];simp))⟩
theorem Kept.own {w w':World}{X:List Nat} (h:Kept X w w') {base e size n:Nat}{v:Value}{xs:List Value} (ho:w.ownsRow base e size v n xs)
  (hx:∀g,v.ownBlock=some g→g∉X):w'.ownsRow base e size v n xs:=by
 refine⟨ho.1,?_⟩
 rcases ho.2 with hn|⟨g,cap,cur,rfl,hb,hg,rest⟩
 ·exact .inl hn
 ·exact .inr ⟨g,cap,cur,rfl,hb,h.get hg (hx g rfl),rest⟩
theorem A51 {w:World}{base base' e size n:Nat}{v:Value}{xs:List Value} (ho:w.ownsRow base e size v n xs) (h:base'≤base):w.ownsRow base' e size v n xs:=by
 refine⟨ho.1,?_⟩
 rcases ho.2 with hn|⟨g,cap,cur,rfl,hb,hg,rest⟩
 ·exact .inl hn
 ·exact .inr ⟨g,cap,cur,rfl,by omega,hg,rest⟩
abbrev P8:=Nat→Option Obj
def Inv (I:P8) (w:World):Prop:= ∀b o,I b=some o→w.heap[b]?=some o
def Le (I I':P8):Prop:= ∀b o,I b=some o→I' b=some o
def P8.add (I:P8) (b:Nat) (o:Obj):P8:=fun k=>if k=b then some o else I k
theorem Le.refl (I:P8):Le I I:=fun _ _ h=>h
theorem Le.trans {a b c:P8} (h:Le a b) (k:Le b c):Le a c:=fun _ _ x=>k _ _ (h _ _ x)
theorem Inv.fresh {I:P8}{w:World} (h:Inv I w) {b:Nat} (hb:w.heap.size≤b):I b=none:=by
 cases hi:I b with
 |none=>rfl
 |some o=>exact absurd (A3n (h b o hi)) (by omega)
theorem Inv.kept {I:P8}{w w':World}{X:List Nat} (h:Inv I w) (k:Kept X w w') (hx:∀x,x∈X→I x=none):Inv I w':=fun b o hb=>
 k.get (h b o hb) (fun hm=>by rw[hx b hm]at hb;cases hb)
theorem Inv.kept0 {I:P8}{w w':World} (h:Inv I w) (k:Kept [] w w'):Inv I w':=h.kept k (fun _ hx=>by cases hx)
theorem Inv.add {I:P8}{w:World} (h:Inv I w) {b:Nat}{o:Obj} (hb:w.heap[b]?=some o):Inv (I.add b o) w:=fun k u hk=>by
 unfold P8.add at hk
 split at hk
 ·rename_i e;subst e;simp at hk;subst hk;exact hb
 ·exact h k u hk
theorem Le.add {I:P8}{b:Nat}{o:Obj} (h:I b=none):Le I (I.add b o):=fun k u hk=>by
 unfold P8.add
 split
 ·rename_i e;subst e;rw[h]at hk;cases hk
 ·exact hk
theorem P8.add_self (I:P8) (b:Nat) (o:Obj):(I.add b o) b=some o:=by simp[P8.add]
def A9M:TypeDesc→Bool
 | .struct _| .array _ _=>true
 |_=>false
class TyStr (P:Program) (t:TypeId):Prop where out:P.underlying t=some .string
class TySlice (P:Program) (t:TypeId) (e:outParam TypeId):Prop where out:P.underlying t=some (.slice e)
class Elem (P:Program) (e:TypeId) (size bytes:outParam Nat):Prop where
 out:∃i z,P.info? e=some i∧i.zero=some z∧i.size=size∧i.bytes=bytes∧z.cells.size=size∧0<size
class Own (P : Program) (f : FuncId) : Prop where out : ∃ fn, P.funcs[f]? = some fn ∧ (fn.name == "runtime.NumGoroutine") = false ∧ fn.body.isNone = false
class TyOne (P:Program) (t:TypeId):Prop where out:∃d,P.underlying t=some d∧A9M d=false
class TyAgg (P:Program) (t:TypeId) (size:outParam Nat):Prop where out:∃d i,P.underlying t=some d∧A9M d=true∧P.info? t=some i∧i.size=size
abbrev str (s:List UInt8):Value:=.string ⟨s.toArray⟩
theorem A4h (s:List UInt8):ByteArray.size ⟨s.toArray⟩=s.length:=B0R
theorem D5c (s:List UInt8) (i:Nat) (h:i<s.length):(⟨s.toArray⟩:ByteArray)[i]?=some (s.getD i 0):=by
 have h1:i<(⟨s.toArray⟩:ByteArray).size:=by rw[A4h];exact h
 rw[getElem?_pos (⟨s.toArray⟩:ByteArray) i h1];simp[F9 h]
 rfl
section
variable {P:Program}{N:Nat}{ds:List Deferred}{Q:Exit→Act→World→Prop}{l l':Log}{w w':World}{ops:Array Oper}{os:List Oper}{o:Oper}
variable {d:Nat}{ty:TypeId}{pos:String}{af:Array Edge}{g:Option (Nat×Bool)}{t t':TypeId}{x y:Operand}
theorem A0m [TyStr P t] {s:List UInt8} (k:WL P N ds ops Q os ((d,.int .i64 (s.length:Int))::l) w) (hw:X9 ops l ⟨some d,.call ⟨.builtin .len, #[x], #[t]⟩,ty,pos,af,g⟩=some true:=by rfl) (hN:Nat.blt d N=true:=by rfl)
  (hx:ev l x=some (str s):=by rfl)  :
  WL P N ds ops Q (⟨some d,.call ⟨.builtin .len, #[x], #[t]⟩,ty,pos,af,g⟩::os) l w:=
 X6 rfl hw hN (fun a ha=>by
  have h1:=run_underlying (P:=P) (w:=w) (TyStr.out (P:=P) (t:=t));simp[execOp,resolve,invoke,builtin,Builtin.len_,ha.ev hx,h1,goInt,A4h]) k
theorem G6 {e:TypeId} [TySlice P t e] {b:Option Addr}{n c:Nat} (k:WL P N ds ops Q os ((d,.int .i64 (n:Int))::l) w) (hw:X9 ops l ⟨some d,.call ⟨.builtin .len, #[x], #[t]⟩,ty,pos,af,g⟩=some true:=by rfl) (hN:Nat.blt d N=true:=by rfl)
  (hx:ev l x=some (.slice b n c):=by rfl)  :
  WL P N ds ops Q (⟨some d,.call ⟨.builtin .len, #[x], #[t]⟩,ty,pos,af,g⟩::os) l w:=
 X6 rfl hw hN (fun a ha=>by
  have h1:=run_underlying (P:=P) (w:=w) (TySlice.out (P:=P) (t:=t));simp[execOp,resolve,invoke,builtin,Builtin.len_,ha.ev hx,h1,goInt]) k
theorem A2n [TyStr P t] {s:List UInt8}{n:Int} (k:WL P N ds ops Q os ((d,.int .u8 ((s.getD n.toNat 0).toNat:Int))::l) w) (hw:X9 ops l ⟨some d,.index t x y,ty,pos,af,g⟩=some true:=by rfl) (hN:Nat.blt d N=true:=by rfl)
  (hx:ev l x=some (str s):=by rfl) (hy:ev l y=some (.int .i64 n):=by rfl) (h0:0≤n:=by omega) (h1:n<s.length:=by omega)
   :
  WL P N ds ops Q (⟨some d,.index t x y,ty,pos,af,g⟩::os) l w:=
 X6 rfl hw hN (fun a ha=>by
  have h2:=run_underlying (P:=P) (w:=w) (TyStr.out (P:=P) (t:=t));have h3:n.toNat<s.length:=by omega
  simp[execOp,Instr.index,ha.ev hx,ha.ev hy,h2,asIntOf,h0,D5c s _ h3]) k
theorem A9A (s:List UInt8) (a b:Nat):ByteArray.extract ⟨s.toArray⟩ a b=⟨((s.drop a).take (b-a)).toArray⟩:=by
 have h:=Lib.extract_data ⟨s.toArray⟩ a b;apply ByteArray.ext
 apply B0U.1
 rw[h]
theorem B1j (s u:List UInt8):(⟨s.toArray⟩:ByteArray)++⟨u.toArray⟩=⟨(s++u).toArray⟩:=by
 apply ByteArray.ext
 simp
theorem B1k (s:List UInt8):ByteArray.toList ⟨s.toArray⟩=s:=by simp
theorem A8u [TyStr P t] {s:List UInt8}{z:Operand}{a b:Int} (k:WL P N ds ops Q os ((d,str ((s.drop a.toNat).take (b.toNat-a.toNat)))::l) w) (hw:X9 ops l ⟨some d,.slice t x (some y) (some z) none,ty,pos,af,g⟩=some true:=by rfl) (hN:Nat.blt d N=true:=by rfl)
  (hx:ev l x=some (str s):=by rfl) (hy:ev l y=some (.int .i64 a):=by rfl) (hz:ev l z=some (.int .i64 b):=by rfl) (h0:0≤a∧a≤b∧b≤s.length:=by omega)
   :
  WL P N ds ops Q (⟨some d,.slice t x (some y) (some z) none,ty,pos,af,g⟩::os) l w:=
 X6 rfl hw hN (fun c hc=>by
  obtain⟨i,rfl⟩:=A49 h0.1;obtain⟨j,rfl⟩:=A49 (Int.le_trans h0.1 h0.2.1);have h2:=run_underlying (P:=P) (w:=w) (TyStr.out (P:=P) (t:=t));have h3:i≤j:=by omega
  have h4:j≤s.length:=by omega
  simp[execOp,Instr.sliceAt,Instr.slice,Instr.sliceBounds,Instr.sliceBound,hc.ev hx,hc.ev hy,hc.ev hz,h2,asIntOf,A4h,A9A,h3,h4]) k
theorem A9P [TyStr P t] {s:List UInt8}{a:Int} (k:WL P N ds ops Q os ((d,str (s.drop a.toNat))::l) w) (hw:X9 ops l ⟨some d,.slice t x (some y) none none,ty,pos,af,g⟩=some true:=by rfl) (hN:Nat.blt d N=true:=by rfl)
  (hx:ev l x=some (str s):=by rfl) (hy:ev l y=some (.int .i64 a):=by rfl) (h0:0≤a∧a≤s.length:=by omega)
   :
  WL P N ds ops Q (⟨some d,.slice t x (some y) none none,ty,pos,af,g⟩::os) l w:=
 X6 rfl hw hN (fun c hc=>by
  have h2:=run_underlying (P:=P) (w:=w) (TyStr.out (P:=P) (t:=t));have h4:(s.drop a.toNat).take (s.length-a.toNat)=s.drop a.toNat:=A0W (by simp);simp[execOp,Instr.sliceAt,Instr.slice,Instr.sliceBounds,Instr.sliceBound,hc.ev hx,hc.ev hy,h2,asIntOf,h0,A4h,A9A,h4]) k
theorem A0g {s u:List UInt8} (k:WL P N ds ops Q os ((d,.bool (decide (s=u)))::l) w) (hw:X9 ops l ⟨some d,.binOp .eql t x y t',ty,pos,af,g⟩=some true:=by rfl) (hN:Nat.blt d N=true:=by rfl)
  (hx:ev l x=some (str s):=by rfl) (hy:ev l y=some (str u):=by rfl)  :
  WL P N ds ops Q (⟨some d,.binOp .eql t x y t',ty,pos,af,g⟩::os) l w:=
 X6 rfl hw hN (fun c hc=>by simp[execOp,hc.ev hx,hc.ev hy,eqGuard,binOp,Op.stringOp];exact A4F s u) k
theorem A0t {s u:List UInt8} (k:WL P N ds ops Q os ((d,.bool (decide (s≠u)))::l) w) (hw:X9 ops l ⟨some d,.binOp .neq t x y t',ty,pos,af,g⟩=some true:=by rfl) (hN:Nat.blt d N=true:=by rfl)
  (hx:ev l x=some (str s):=by rfl) (hy:ev l y=some (str u):=by rfl)  :
  WL P N ds ops Q (⟨some d,.binOp .neq t x y t',ty,pos,af,g⟩::os) l w:=
 X6 rfl hw hN (fun c hc=>by simp[execOp,hc.ev hx,hc.ev hy,eqGuard,binOp,Op.stringOp];exact A4F s u) k
theorem X5 {s u:List UInt8} (k:WL P N ds ops Q os ((d,str (s++u))::l) w) (hw:X9 ops l ⟨some d,.binOp .add t x y t',ty,pos,af,g⟩=some true:=by rfl) (hN:Nat.blt d N=true:=by rfl)
  (hx:ev l x=some (str s):=by rfl) (hy:ev l y=some (str u):=by rfl) (h:s.length+u.length≤9223372036854775807)  :
  WL P N ds ops Q (⟨some d,.binOp .add t x y t',ty,pos,af,g⟩::os) l w:=
 X6 rfl hw hN (fun c hc=>by
  have h1:¬((s.length+u.length:Nat):Int)>IntKind.i64.max:=by simp[IntKind.max,IntKind.bits,IntKind.signed];omega
  simp only[execOp,hc.ev hx,hc.ev hy,eqGuard,binOp,Op.stringOp,A4h,B1j,if_neg h1];simp) k
theorem O9 {a b:Int} (k:WL P N ds ops Q os ((d,.int .i64 (a+b))::l) w) (hw:X9 ops l ⟨some d,.binOp .add t x y t',ty,pos,af,g⟩=some true:=by rfl) (hN:Nat.blt d N=true:=by rfl)
  (hx:ev l x=some (.int .i64 a):=by rfl) (hy:ev l y=some (.int .i64 b):=by rfl) (h: -9223372036854775808≤a+b∧a+b≤9223372036854775807:=by omega)
   :WL P N ds ops Q (⟨some d,.binOp .add t x y t',ty,pos,af,g⟩::os) l w:=
 X6 rfl hw hN (fun c hc=>by simp[execOp,hc.ev hx,hc.ev hy,eqGuard,binOp,Op.intArith,IntWalk.i64_in _ h]) k
theorem A5e {a b:Int} (k:WL P N ds ops Q os ((d,.int .i64 (a-b))::l) w) (hw:X9 ops l ⟨some d,.binOp .sub t x y t',ty,pos,af,g⟩=some true:=by rfl) (hN:Nat.blt d N=true:=by rfl)
  (hx:ev l x=some (.int .i64 a):=by rfl) (hy:ev l y=some (.int .i64 b):=by rfl) (h: -9223372036854775808≤a-b∧a-b≤9223372036854775807:=by omega)
   :WL P N ds ops Q (⟨some d,.binOp .sub t x y t',ty,pos,af,g⟩::os) l w:=
 X6 rfl hw hN (fun c hc=>by simp[execOp,hc.ev hx,hc.ev hy,eqGuard,binOp,Op.intArith,IntWalk.i64_in _ h]) k
theorem A0h {b:Bool} (k:WL P N ds ops Q os ((d,.bool (!b))::l) w) (hw:X9 ops l ⟨some d,.unOp .not t x,ty,pos,af,g⟩=some true:=by rfl) (hN:Nat.blt d N=true:=by rfl)
  (hx:ev l x=some (.bool b):=by rfl)  :WL P N ds ops Q (⟨some d,.unOp .not t x,ty,pos,af,g⟩::os) l w:=
 X6 rfl hw hN (fun c hc=>by simp[execOp,hc.ev hx,Op.unary]) k
theorem Y8 {n:Nat}{vs:List Value}{v:Value} (k:WL P N ds ops Q os ((d,v)::l) w) (hw:X9 ops l ⟨some d,.extract x n,ty,pos,af,g⟩=some true:=by rfl) (hN:Nat.blt d N=true:=by rfl)
  (hx:ev l x=some (.tuple vs.toArray):=by rfl) (hv:vs[n]?=some v:=by rfl)  :WL P N ds ops Q (⟨some d,.extract x n,ty,pos,af,g⟩::os) l w:=
 X6 rfl hw hN (fun c hc=>by simp[execOp,hc.ev hx,Instr.extract,hv]) k
def evs (l:Log):List Operand→Option (List Value)
 | []=>some []
 |x::xs=>match ev l x,evs l xs with
  |some v,some vs=>some (v::vs)
  |_,_=>none
theorem Fits.evs {a:Act} (h:Fits N ds l a):∀ {xs:List Operand}{vs:List Value},evs l xs=some vs→xs.map a.eval=vs
 | [],vs,hv=>by simp[Fw.evs]at hv;simp[←hv]
 |x::xs,vs,hv=>by
  simp only[Fw.evs]at hv;split at hv
  ·rename_i v us h1 h2
   simp only[X4]at hv;rw[←hv,U4,h.ev h1,h.evs h2]
  ·cases hv
theorem C4h {f:FuncId}{args:Array Value}{Post:Value→World→Prop} (hw:X9 ops l o=some true)
  (hrun:∀a,Fits N ds l a→(execOp a.eval o).run P w=.ok (.enter f args) w) (hc:Cal P f args w Post)
  (k:∀v w',Post v w'→∀a,Fits N ds l a→wpList P ops Q os (a.put o.dst v) w'):WL P N ds ops Q (o::os) l w:=
 B6e hw fun a ha=>by
  unfold Oper.wp
  rw[hrun a ha,Oper.upon_enter];exact Calls.mono hc.run (fun e w' q=>by
   cases e with
   |returned v=>exact k v w' q a ha
   |panicked c=>exact q.elim
   |outgrown=>exact q.elim)
theorem A3L {f:FuncId} [Own P f] (args:Array Value):(callFunc f args).run P w=.ok (.enter f args) w:=by
 obtain⟨fn,h1,h2,h3⟩:=Own.out (P:=P) (f:=f);simp only[beq_eq_false_iff_ne]at h2;have h4:¬fn.body=none:=fun e=>by simp[e]at h3
 simp[callFunc,h1,h2,h4]
theorem A0r {f:FuncId} [Own P f] {xs:List Operand}{tys:Array TypeId}{vs:List Value}{Post:Value→World→Prop}
  (hw:X9 ops l ⟨some d,.call ⟨.value (.func f),xs.toArray,tys⟩,ty,pos,af,g⟩=some true:=by rfl) (hN:Nat.blt d N=true:=by rfl)
  (hx:evs l xs=some vs:=by rfl) (hc:Cal P f vs.toArray w Post) (k:∀v w',Post v w'→WL P N ds ops Q os ((d,v)::l) w'):
  WL P N ds ops Q (⟨some d,.call ⟨.value (.func f),xs.toArray,tys⟩,ty,pos,af,g⟩::os) l w:=
 C4h hw (fun a ha=>by
  have:=ha.evs hx;simp[execOp,resolve,invoke,Act.eval,Deferred.ofValue,this,A3L]) hc (fun v w' hp a ha=>(k v w' hp).run _ (ha.put hN v))
theorem B0g {c:Operand}{f:FuncId} [Own P f] {xs:List Operand}{tys:Array TypeId}{vs ca:List Value}{Post:Value→World→Prop}
  (hw:X9 ops l ⟨some d,.call ⟨.value c,xs.toArray,tys⟩,ty,pos,af,g⟩=some true:=by rfl) (hN:Nat.blt d N=true:=by rfl)
  (hf:ev l c=some (.func (.func f) #[] ca.toArray):=by rfl) (hx:evs l xs=some vs:=by rfl) (hc:Cal P f (vs++ca).toArray w Post) (k:∀v w',Post v w'→WL P N ds ops Q os ((d,v)::l) w'):
  WL P N ds ops Q (⟨some d,.call ⟨.value c,xs.toArray,tys⟩,ty,pos,af,g⟩::os) l w:=
 C4h hw (fun a ha=>by
  have:=ha.evs hx;simp[execOp,resolve,invoke,ha.ev hf,Deferred.ofValue,this,A3L]) hc (fun v w' hp a ha=>(k v w' hp).run _ (ha.put hN v))
theorem A2v {f:FuncId}{xs:List Operand}{vs:List Value} (k:WL P N ds ops Q os ((d,.func (.func f) #[] vs.toArray)::l) w) (hw:X9 ops l ⟨some d,.makeFunc (.func f) #[] xs.toArray,ty,pos,af,g⟩=some true:=by rfl) (hN:Nat.blt d N=true:=by rfl)
  (hx:evs l xs=some vs:=by rfl)  :
  WL P N ds ops Q (⟨some d,.makeFunc (.func f) #[] xs.toArray,ty,pos,af,g⟩::os) l w:=
 X6 rfl hw hN (fun a ha=>by
  have:=ha.evs hx;simp[execOp,Instr.makeFunc,this]) k
theorem D1J {v:Value} (hw:X9 ops l ⟨some d,.box t x,ty,pos,af,g⟩=some true:=by rfl) (hN:Nat.blt d N=true:=by rfl) (hx:ev l x=some v:=by rfl)
  (k:∀b w',b=w.heap.size→w'.heap[b]?=some (.cells v.cells t (0,0))→Kept [] w w'→WL P N ds ops Q os ((d,.pointer (some ⟨b,0,none⟩))::l) w'):
  WL P N ds ops Q (⟨some d,.box t x,ty,pos,af,g⟩::os) l w:=
 X6 (w':=w.alloc (.cells v.cells t (0,0))) rfl hw hN (fun a ha=>by
  simp[execOp,Instr.box,newVar,newRow,newObj,ha.ev hx];rfl) (k w.heap.size _ rfl (heap_alloc_new w _) (Kept.alloc w _))
theorem A3I {b off:Nat}{c:Array Value}{e:TypeId}{fr:Nat×Nat}{v:Value} (hb:w.heap[b]?=some (.cells c e fr)) (hc:c[off]?=some v):w.cell? ⟨b,off,none⟩=some v:=by
 simp[World.cell?,hb,hc]
theorem A55 {dd:TypeDesc} (h:P.underlying t=some dd):(isAgg t).run P w=.ok (A9M dd) w:=by
 have h3:=run_underlying (P:=P) (w:=w) h;simp only[isAgg];cases dd<;>simp[h3,A9M]
theorem A1K [TyOne P t] {b off:Nat}{c:Array Value}{e:TypeId}{fr:Nat×Nat}{v:Value} (hw:X9 ops l ⟨some d,.load t x,ty,pos,af,g⟩=some true:=by rfl) (hN:Nat.blt d N=true:=by rfl)
  (hx:ev l x=some (.pointer (some ⟨b,off,none⟩)):=by rfl) (hb:w.heap[b]?=some (.cells c e fr):=by assumption) (hc:c[off]?=some v:=by rfl)
  (k:WL P N ds ops Q os ((d,v)::l) w):WL P N ds ops Q (⟨some d,.load t x,ty,pos,af,g⟩::os) l w:=
 X6 rfl hw hN (fun a ha=>by
  obtain⟨dd,h1,h2⟩:=TyOne.out (P:=P) (t:=t);have h4:=A3I hb hc;simp[execOp,Instr.loadAt,Instr.sureAddr,loadVar,A55 h1,h2,ha.ev hx,load,Sem.run,h4]) k
end
class Fld (P:Program) (t:TypeId) (i:Nat) (off:outParam Nat):Prop where
 out:∃fs f inf,P.underlying t=some (.struct fs)∧fs[i]?=some f∧f.offset=off∧P.info? f.type=some inf∧inf.size≠0
def D5H (P:Program) (e:TypeId) (size bytes:Nat):Bool:=
 match P.info? e with
 |some i=>match i.zero with
  |some z=>i.size==size && i.bytes==bytes && z.cells.size==size && Nat.blt 0 size
  |none=>false
 |none=>false
theorem Elem.of {P:Program}{e:TypeId}{size bytes:Nat} (h:D5H P e size bytes=true:=by kernel_rfl):Elem P e size bytes:=by
 unfold D5H at h
 split at h
 ·rename_i i hi
  split at h
  ·rename_i z hz
   simp only[Q3,beq_iff_eq,A2U]at h;exact⟨i,z,hi,hz,h.1.1.1,h.1.1.2,h.1.2,h.2⟩
  ·cases h
 ·cases h
def D8c (P:Program) (t:TypeId):Bool:=match P.underlying t with
 |some d=> !A9M d
 |none=>false
theorem TyOne.of {P:Program}{t:TypeId} (h:D8c P t=true:=by kernel_rfl):TyOne P t:=by
 unfold D8c at h
 split at h
 ·rename_i d hd;exact⟨d,hd,by simpa using h⟩
 ·cases h
def D7I (P:Program) (t:TypeId) (size:Nat):Bool:=match P.underlying t,P.info? t with
 |some d,some i=>A9M d && i.size==size
 |_,_=>false
theorem TyAgg.of {P:Program}{t:TypeId}{size:Nat} (h:D7I P t size=true:=by kernel_rfl):TyAgg P t size:=by
 unfold D7I at h
 split at h
 ·rename_i d i hd hi;simp only[Q3,beq_iff_eq]at h;exact⟨d,i,hd,h.1,hi,h.2⟩
 ·cases h
def D8e (P:Program) (f:FuncId):Bool:=match P.funcs[f]? with
 | some fn => !(fn.name == "runtime.NumGoroutine") && !fn.body.isNone
 |none=>false
theorem Own.of {P:Program}{f:FuncId} (h:D8e P f=true:=by kernel_rfl):Own P f:=by
 unfold D8e at h
 split at h
 ·rename_i fn hf;simp only[Q3,Bool.not_eq_true']at h;exact⟨fn,hf,h.1,h.2⟩
 ·cases h
def D70 (P:Program) (t:TypeId) (i off:Nat):Bool:=match P.underlying t with
 |some (.struct fs)=>match fs[i]? with
  |some f=>f.offset==off && (match P.info? f.type with|some inf=>inf.size !=0|none=>false)
  |none=>false
 |_=>false
theorem Fld.of {P:Program}{t:TypeId}{i off:Nat} (h:D70 P t i off=true:=by kernel_rfl):Fld P t i off:=by
 unfold D70 at h
 split at h
 ·rename_i fs hd
  split at h
  ·rename_i f hf
   simp only[Q3,beq_iff_eq]at h;obtain⟨h1,h2⟩:=h;split at h2
   ·rename_i inf hi;exact⟨fs,f,inf,hd,hf,h1,hi,by simpa using h2⟩
   ·cases h2
  ·cases h
 ·cases h
class StructT (P:Program) (t:TypeId) (places:outParam (List (Nat×Nat))) (zero:outParam (List Value)):Prop where
 out:∃fs,P.underlying t=some (.struct fs)∧(fs.toList.mapM fun f=>(P.info? f.type).map fun i=>(f.offset,i.size))=some places∧
  (P.info? t).bind (·.zero)=some (.agg zero.toArray)
def C7C (P:Program) (t:TypeId):Option (List (Nat×Nat)):=match P.underlying t with
 |some (.struct fs)=>fs.toList.mapM fun f=>(P.info? f.type).map fun i=>(f.offset,i.size)
 |_=>none
theorem StructT.of {P:Program}{t:TypeId}{places:List (Nat×Nat)}{zero:List Value} (h:C7C P t=some places:=by kernel_rfl) (hz:(P.info? t).bind (·.zero)=some (.agg zero.toArray):=by kernel_rfl):
  StructT P t places zero:=by
 unfold C7C at h
 split at h
 ·rename_i fs hd;exact⟨fs,hd,h,hz⟩
 ·cases h
def bld (places:List (Nat×Nat)) (cs:List Value):List (Nat×Value)→Option (List Value)
 | []=>some cs
 |(i,v)::ps=>match places[i]? with
  |some (off,n)=>bif Nat.beq v.cells.toList.length n && Nat.ble (off+n) cs.length then bld places (cs.take off++(v.cells.toList++cs.drop (off+n))) ps else none
  |none=>none
section
variable {P:Program}{N:Nat}{ds:List Deferred}{Q:Exit→Act→World→Prop}{l l':Log}{w w':World}{ops:Array Oper}{os:List Oper}{o:Oper}
variable {d:Nat}{ty:TypeId}{pos:String}{af:Array Edge}{g:Option (Nat×Bool)}{t t':TypeId}{x y:Operand}
theorem Kept.setRow {b:Nat}{c:Array Value}{e:TypeId}{fr:Nat×Nat} (_hb:w.heap[b]?=some (.cells c e fr)) (c':Array Value):Kept [b] w (w.setRow b c'):=
 ⟨rfl,rfl,rfl,by simp,fun k _ hx=>setRow_other w b k c' (by simpa using hx)⟩
theorem A8x {b off n by_:Nat} [Elem P t n by_] {c:Array Value}{e:TypeId} (v:Value) (hb:w.heap[b]?=some (.cells c e (0,0))) (hn:v.cells.size=n) (ho:off+n≤c.size)
  (h1:v.cells.toList.all (·.oneCell')=true):
  (storeVar t ⟨b,off,none⟩ v).run P w=.ok () (w.setRow b (c.toList.take off++v.cells.toList++c.toList.drop (off+n)).toArray):=by
 obtain⟨i,z,hi,_,hs,_,_,_⟩:=Elem.out (P:=P) (e:=t);have h2:=run_storeCells_at P b off e v.cells.toList 0 c w hb (by simp[hn];omega) (fun u hu=>A2O.1 h1 u hu);simp only[A2S,A5b,hn]at h2;simp[storeVar,sizeOf,typeInfo,hi,hs,hn,h2]
theorem B7U {b off n by_:Nat} [Elem P t n by_] {c:Array Value}{e:TypeId}{v:Value}{dst:Option Nat} (hd:dst=none) (hw:X9 ops l ⟨dst,.store t x y,ty,pos,af,g⟩=some true)
  (hx:ev l x=some (.pointer (some ⟨b,off,none⟩))) (hy:ev l y=some v) (hb:w.heap[b]?=some (.cells c e (0,0))) (hn:v.cells.size=n) (ho:off+n≤c.size)
  (h1:v.cells.toList.all (·.oneCell')=true)
  (k:∀w',w'.heap[b]?=some (.cells (c.toList.take off++v.cells.toList++c.toList.drop (off+n)).toArray e (0,0))→Kept [b] w w'→WL P N ds ops Q os l w'):
  WL P N ds ops Q (⟨dst,.store t x y,ty,pos,af,g⟩::os) l w:=
 B6e hw fun a ha=>by
  have h2:=A8x (P:=P) (t:=t) v hb hn ho h1;subst hd;simp only[Oper.wp,execOp,Instr.storeAt,Instr.sureAddr,ha.ev hx,ha.ev hy];simp only[Sem.run_bind,Sem.run_pure,Result.andThen,h2,Oper.upon_skip,Act.put];exact(k _ (setRow_heap w b c _ e (0,0) hb) (Kept.setRow hb _)).run _ ha
def B3f:Operand→Nat→Bool
 | .tmp t,d=> !(Nat.beq t d)
 |_,_=>true
theorem D0s {d:Nat}{v u:Value}{x:Operand} (h:B3f x d=true) (hx:ev l x=some v):ev ((d,u)::l) x=some v:=by
 cases x with
 |tmp t=>
  have:Nat.beq t d=false:=by simpa[B3f] using h
  simp only[ev,lk,this,cond_false];exact hx
 |const c=>exact hx
 |global c=>exact hx
 |func c=>exact hx
theorem D1N {n by_:Nat} [Elem P t n by_] {v:Value}{ty':TypeId}{pos':String}{af':Array Edge} (hN:Nat.blt d N=true:=by rfl)
  (hy:ev l y=some v:=by rfl) (hne:B3f y d=true:=by rfl) (hn:v.cells.size=n:=by rfl) (h1:v.cells.toList.all (·.oneCell')=true:=by rfl)
  (k:∀b w',b=w.heap.size→w'.heap[b]?=some (.cells v.cells t (0,0))→Kept [] w w'→WL P N ds ops Q os ((d,.pointer (some ⟨b,0,none⟩))::l) w'):
  WL P N ds ops Q (⟨some d,.alloc t,ty,pos,af,none⟩::⟨none,.store t (.tmp d) y,ty',pos',af',none⟩::os) l w:=by
 obtain⟨i,z,hi,hz,hs,_,hzc,_⟩:=Elem.out (P:=P) (e:=t);refine X6 (w':=w.alloc (.cells z.cells t (0,0))) (v:=.pointer (some ⟨w.heap.size,0,none⟩)) rfl rfl hN (fun a ha=>?_) ?_
 ·simp[execOp,Instr.alloc,newVar,newRow,newObj,zeroValue,typeInfo,hi,hz];rfl
 ·have hy':ev ((d,.pointer (some ⟨w.heap.size,0,none⟩))::l) y=some v:=D0s hne hy
  refine B7U (off:=0) rfl rfl (by simp[ev,lk]) hy' (heap_alloc_new w _) hn (by rw[hzc];omega) h1 (fun w' hb hk=>?_)
  refine k w.heap.size w' rfl ?_ ((Kept.alloc w _).step hk (fun x hx=> .inr (by simp at hx;omega)))
  have e1:List.drop (0+n) z.cells.toList= []:=by rw[V9, ←hzc];simp
  rw[hb,e1];simp
theorem D5 {i off:Nat} [Fld P t i off] {b o':Nat} (k:WL P N ds ops Q os ((d,.pointer (some ⟨b,o'+off,none⟩))::l) w) (hw:X9 ops l ⟨some d,.fieldAddr t x i,ty,pos,af,g⟩=some true:=by rfl) (hN:Nat.blt d N=true:=by rfl)
  (hx:ev l x=some (.pointer (some ⟨b,o',none⟩)):=by rfl)  :
  WL P N ds ops Q (⟨some d,.fieldAddr t x i,ty,pos,af,g⟩::os) l w:=
 X6 rfl hw hN (fun a ha=>by
  obtain⟨fs,f,inf,h1,h2,h3,h4,h5⟩:=Fld.out (P:=P) (t:=t) (i:=i);have h6:=run_underlying (P:=P) (w:=w) h1;simp[execOp,Instr.fieldAt,Instr.sureAddr,ha.ev hx,h6,h2,fieldPlace,sizeOf,typeInfo,h4,h5,h3,Addr.add_lit]) k
theorem Y3 {e:TypeId}{sz by_:Nat} [TySlice P t e] [Elem P e sz by_] {b o' n cp:Nat}{i:Int} (hw:X9 ops l ⟨some d,.indexAddr t x y,ty,pos,af,g⟩=some true:=by rfl) (hN:Nat.blt d N=true:=by rfl)
  (hx:ev l x=some (.slice (some ⟨b,o',none⟩) n cp):=by rfl) (hy:ev l y=some (.int .i64 i):=by rfl) (h0:0≤i:=by omega) (h1:i<n:=by omega)
  (k:WL P N ds ops Q os ((d,.pointer (some ⟨b,o'+i.toNat *sz,none⟩))::l) w):
  WL P N ds ops Q (⟨some d,.indexAddr t x y,ty,pos,af,g⟩::os) l w:=
 X6 rfl hw hN (fun a ha=>by
  obtain⟨inf,z,hi,_,hs,_,_,_⟩:=Elem.out (P:=P) (e:=e);have h6:=run_underlying (P:=P) (w:=w) (TySlice.out (P:=P) (t:=t));simp[execOp,Instr.indexAt,asIntOf,ha.ev hx,ha.ev hy,h6,h0,h1,sizeOf,typeInfo,hi,hs,Addr.add_lit]) k
theorem B7S {n:Nat} [TyAgg P t n] {b off:Nat}{c:Array Value}{e:TypeId}{fr:Nat×Nat}{vs:List Value} (hw:X9 ops l ⟨some d,.load t x,ty,pos,af,g⟩=some true:=by rfl) (hN:Nat.blt d N=true:=by rfl)
  (hx:ev l x=some (.pointer (some ⟨b,off,none⟩)):=by rfl) (hb:w.heap[b]?=some (.cells c e fr)) (hl:vs.length=n:=by rfl) (hc:∀j v,vs[j]?=some v→c[off+j]?=some v)
  (k:WL P N ds ops Q os ((d,.agg vs.toArray)::l) w):WL P N ds ops Q (⟨some d,.load t x,ty,pos,af,g⟩::os) l w:=
 X6 rfl hw hN (fun a ha=>by
  obtain⟨dd,i,h1,h2,h3,h4⟩:=TyAgg.out (P:=P) (t:=t);have h5:=run_loadCells_list (P:=P) w ⟨b,off,none⟩ vs (fun j v hv=>by rw[Addr.add_lit];exact A3I hb (hc j v hv));rw[hl]at h5;simp[execOp,Instr.loadAt,Instr.sureAddr,loadVar,A55 h1,h2,ha.ev hx,sizeOf,typeInfo,h3,h4,h5]) k
def evp (l:Log):List (Nat×Operand)→Option (List (Nat×Value))
 | []=>some []
 |(i,x)::xs=>match ev l x,evp l xs with
  |some v,some vs=>some ((i,v)::vs)
  |_,_=>none
theorem Fits.evp {a:Act} (h:Fits N ds l a):∀ {xs:List (Nat×Operand)}{vs:List (Nat×Value)},evp l xs=some vs→xs.map (fun (i,x)=>(i,a.eval x))=vs
 | [],vs,hv=>by simp[Fw.evp]at hv;simp[←hv]
 |(i,x)::xs,vs,hv=>by
  simp only[Fw.evp]at hv;split at hv
  ·rename_i v us h1 h2
   simp only[X4]at hv;rw[←hv,U4,h.evp h2];simp only[h.ev h1]
  ·cases hv
theorem B4e (off:Nat):∀(us:List Value) (m:Nat) (cs:Array Value),∀j:Nat,
  ((us.zipIdx m).foldl (fun (cs:Array Value) (p:Value×Nat)=>cs.setIfInBounds (off+p.2) p.1) cs)[j]?=if off+m≤j∧j<off+m+us.length∧j<cs.size then us[j-(off+m)]? else cs[j]?
 | [],m,cs,j=>by
  rw[if_neg (by simp only[List.length_nil];omega)];rfl
 |v::us,m,cs,j=>by
  rw[List.zipIdx_cons,A07,B4e off us (m+1)];simp only[Array.size_setIfInBounds,E9];by_cases h1:off+m=j
  ·subst h1
   rw[if_neg (by omega)];by_cases h2:off+m<cs.size
   ·rw[if_pos (by omega)];simp[h2]
   ·rw[if_neg (by omega)];simp[h2]
  ·rw[A5Z h1]
   by_cases h2:off+(m+1)≤j∧j<off+(m+1)+us.length∧j<cs.size
   ·rw[if_pos h2,if_pos (by omega),show j-(off+m)=(j-(off+(m+1)))+1 by omega,A02]
   ·rw[if_neg h2,if_neg (by omega)]
theorem C53 {P:Program}{w:World}{t:TypeId}{i:TypeInfo} (h:P.info? t=some i):(sizeOf t).run P w=.ok i.size w:=by simp[sizeOf,typeInfo,h]
theorem A86 {P:Program} (w:World):∀(fs:List Field) (places:List (Nat×Nat)),(fs.mapM fun f=>(P.info? f.type).map fun i=>(f.offset,i.size))=some places→
  (fs.mapM (m:=Sem) fun f=>do pure (f.offset, ←sizeOf f.type)).run P w=.ok places w
 | [],places,h=>by simp at h;simp[h]
 |f::fs,places,h=>by
  rw[List.mapM_cons]at h ⊢;cases hf:P.info? f.type with
  |none=>simp[hf]at h
  |some i=>
   cases hr:(fs.mapM fun f=>(P.info? f.type).map fun i=>(f.offset,i.size)) with
   |none=>simp[hf,hr]at h
   |some r=>
    have:=A86 w fs r hr;simp[hf,hr]at h
    have h2:=C53 (w:=w) hf;simp only[Sem.run_bind,h2,Result.andThen,Sem.run_pure,this, ←h]
theorem B1W (places:List (Nat×Nat)):∀(ps:List (Nat×Value)) (cs r:List Value),bld places cs ps=some r→Instr.fill (places.toArray[·]?) cs.toArray ps=some r.toArray
 | [],cs,r,h=>by simp[bld]at h;simp[Instr.fill,h]
 |(i,v)::ps,cs,r,h=>by
  simp only[bld]at h;split at h
  ·rename_i off n hp
   have hp':places.toArray[i]?=some (off,n):=by simpa using hp
   cases hc:(Nat.beq v.cells.toList.length n && Nat.ble (off+n) cs.length) with
   |false=>rw[hc]at h;cases h
   |true=>
    rw[hc]at h;simp only[cond_true]at h;simp only[Q3,Nat.beq_eq,Nat.ble_eq,A5b]at hc;have ih:=B1W places ps _ _ h;rw[Instr.fill,hp'];simp only
    rw[if_neg (by simp[hc.1];omega)];rw[←ih]
    congr 1
    apply A8U
    intro j;rw[←Array.foldl_toList,Array.toList_zipIdx];rw[B4e];simp only[A4n,B0R,A5b,A2S,hc.1];by_cases h1:j<off
    ·rw[if_neg (by omega),A4P (by simp;omega)]
     simp[h1]
    ·by_cases h2:j<off+n
     ·rw[if_pos (by omega),A2B (by simp;omega),A4P (by simp;omega)]
      congr 1
      simp;omega
     ·rw[if_neg (by omega),A2B (by simp;omega),A2B (by simp;omega),A3m]
      congr 1
      simp;omega
  ·cases h
theorem Y0 {places:List (Nat×Nat)}{zero:List Value} [StructT P t places zero] {ps:List (Nat×Operand)}{vs:List (Nat×Value)}{r:List Value}
  (k:WL P N ds ops Q os ((d,.agg r.toArray)::l) w) (hw:X9 ops l ⟨some d,.build t ps.toArray,ty,pos,af,g⟩=some true:=by rfl) (hN:Nat.blt d N=true:=by rfl)
  (hx:evp l ps=some vs:=by rfl) (hr:bld places zero vs=some r:=by rfl)  :
  WL P N ds ops Q (⟨some d,.build t ps.toArray,ty,pos,af,g⟩::os) l w:=
 X6 rfl hw hN (fun a ha=>by
  have e1:=ha.evp hx;obtain⟨fs,h1,h2,h3⟩:=StructT.out (P:=P) (t:=t);have h4:=run_underlying (P:=P) (w:=w) h1;have h5:=A86 (P:=P) w _ _ h2;have h6:=B1W places vs zero r hr;simp only[bind_pure_comp]at h5;simp only[A4n]at h6;cases hi:P.info? t with
  |none=>simp[hi]at h3
  |some i=>
   simp only[hi,A2i]at h3;simp[execOp,Instr.build,e1,zeroValue,typeInfo,hi,h3,h4,B0J,h5,Value.cells,h6]) k
theorem C2D {sz:Nat}{u:Value} (hu:u.cells.size=sz) (cs:Array Value) (hc:cs.size=sz):Instr.fill (fun i=>some (i *sz,sz)) cs [(0,u)]=some u.cells:=by
 simp only[Instr.fill,hu,A14];rw[if_neg (by simp[hc])]
 congr 1
 apply A8U
 intro j;rw[←Array.foldl_toList,Array.toList_zipIdx,B4e];by_cases h:j<sz
 ·rw[if_pos (by simp[hu,hc,h])];simp
 ·rw[if_neg (by simp[hu,hc,h])]
  rw[Array.getElem?_eq_none (by omega),Array.getElem?_eq_none (by omega)]
theorem A85 {e:TypeId}{sz by_:Nat} [TySlice P t e] [he:Elem P e sz by_] {v:Value}{base n:Nat}{xs:List Value} (hown:w.ownsRow base e sz v n xs)
  (a:Addr) (m c:Nat) (news:List Value) (hl:news.length=m *sz) (hnews:∀j u,news[j]?=some u→w.cell? (a.add j)=some u) (h1:∀u∈news,u.oneCell'=true)
  (h63:n+m≤9223372036854775807) (hbytes:(n+m) *by_≤140737488355328) (hbase:base≤w.heap.size) (ty:TypeId):
  ∃v' w',(Builtin.append_ #[t,t] ty #[v,.slice (some a) m c]).run P w=.ok v' w'∧w'.ownsRow base e sz v' (n+m) (xs++news)∧Kept v.ownBlock.toList w w'∧
   (v'.ownBlock=v.ownBlock∨∃g,v'.ownBlock=some g∧w.heap.size≤g):=by
 obtain⟨i,z,hi,hz,hs,hby,hzc,hpos⟩:=he.out;have ht:=TySlice.out (P:=P) (t:=t);have hm63:n+m≤maxLen:=by unfold maxLen;exact h63
 rcases hown.2 with ⟨rfl,rfl⟩|⟨g,cap,cur,rfl,hbg,hg,hnc,hcm,hcs,htake⟩
 ·have hx:xs= []:=A05 (by simpa using hown.1)
  subst hx;obtain⟨v',w',hr,ho,hk,_⟩:=run_append_own (P:=P) w w.heap.size t ty e i z sz by_ ht hi hz hs hby hzc hpos (.slice none 0 0) 0 [] (World.ownsRow_nil w _ _ _) a m c news hl hnews h1 hm63 hbytes (H7 _);refine⟨v',w',hr,A51 ho hbase,Kept.of_grown hk,?_⟩
  cases hv:v'.ownBlock with
  |none=>exact .inl (by simp[Value.ownBlock])
  |some g=>exact .inr ⟨g,rfl,(ho.lt g hv).1⟩
 ·obtain⟨v',w',hr,ho,hk,_⟩:=run_append_own (P:=P) w base t ty e i z sz by_ ht hi hz hs hby hzc hpos _ n xs hown a m c news hl hnews h1 hm63 hbytes hbase
  refine⟨v',w',hr,ho,Kept.of_grown hk,?_⟩
  subst hs;subst hby;by_cases hroom:n+m≤cap
  ·have hfit:n *i.size+news.length≤cur.size:=by rw[hl,hcs, ←A2u];exact A5a _ hroom
   have hr2:=run_append_room (P:=P) w t ty e i ht hi g n cap cur hg a m c news hl hnews h1 hroom hfit;rw[hr]at hr2;injection hr2 with e1 _
   exact .inl (by rw[e1];rfl)
  ·have holds:∀j u,xs[j]?=some u→w.cell? ((⟨g,0,none⟩:Addr).add j)=some u:=hown.cells (g:=g) rfl
   have hr2:=run_append_grow (P:=P) w t ty e i z ht hi hz ⟨g,0,none⟩ n cap xs hown.1 holds a m c news hl hnews (by omega) (by omega) (growslice_fits (by omega) hbytes);rw[hr]at hr2;injection hr2 with e1 _
   exact .inr ⟨w.heap.size,by rw[e1];rfl,H7 _⟩
theorem A7I {e:TypeId}{sz by_:Nat} [TySlice P t e] [Elem P e sz by_] {d1:Nat}{s:Operand}{v u:Value}{base n:Nat}{xs:List Value}
  {ty':TypeId}{pos':String}{af':Array Edge} (hN1:Nat.blt d1 N=true:=by rfl) (hN:Nat.blt d N=true:=by rfl)
  (hs:ev l s=some v:=by rfl) (hne:B3f s d1=true:=by rfl) (hx:ev l x=some u:=by rfl) (hown:w.ownsRow base e sz v n xs) (hu:u.cells.size=sz:=by rfl) (h1:u.cells.toList.all (·.oneCell')=true:=by rfl)
  (hsz:sz≤1024:=by omega) (hlen:(n+1) *by_≤140737488355328:=by omega) (hl':n+1≤9223372036854775807:=by omega) (hbase:base≤w.heap.size)
  (k:∀v' w',w'.ownsRow base e sz v' (n+1) (xs++u.cells.toList)→Kept v.ownBlock.toList w w'→(v'.ownBlock=v.ownBlock∨∃g,v'.ownBlock=some g∧w.heap.size≤g)→
   WL P N ds ops Q os ((d,v')::(d1,.slice (some ⟨w.heap.size,0,none⟩) 1 1)::l) w'):
  WL P N ds ops Q (⟨some d1,.buildSlice t 1 #[(0,x)],ty,pos,af,none⟩::⟨some d,.call ⟨.builtin .append, #[s,.tmp d1], #[t,t]⟩,ty',pos',af',none⟩::os) l w:=by
 obtain⟨i,z,hi,hz,hs',hby,hzc,hpos⟩:=Elem.out (P:=P) (e:=e);have h6:=fun w=>run_underlying (P:=P) (w:=w) (TySlice.out (P:=P) (t:=t))
 have hs2:ev ((d1,.slice (some ⟨w.heap.size,0,none⟩) 1 1)::l) s=some v:=D0s hne hs;have hown2:(w.alloc (.cells u.cells e (0,0))).ownsRow base e sz v n xs:=hown.alloc _;obtain⟨v',w',hr,ho,hk,hb⟩:=A85 (P:=P) (t:=t) hown2 ⟨w.heap.size,0,none⟩ 1 1 u.cells.toList (by simp[hu]) (fun j r hj=>by
   rw[Addr.add_lit];exact A3I (heap_alloc_new w _) (by simpa using hj)) (fun r hr=>A2O.1 h1 r hr) hl' hlen (by simp;omega) ty'
 refine X6 (w':=w.alloc (.cells u.cells e (0,0))) (v:=.slice (some ⟨w.heap.size,0,none⟩) 1 1) rfl rfl hN1 (fun a ha=>?_) ?_
 ·have hz0:¬(2 ^ 24<sz):=by omega
  have hz1:¬(sz=0):=by omega
  have hf:=C2D hu ((Array.range sz).map (z.cells[· % z.cells.size]!)) (by simp);simp[execOp,Instr.buildSlice,h6,sizeOf,typeInfo,hi,hs',zeroValue,hz,ha.ev hx,hz0,hz1,hf,newRow,newObj]
  rfl
 ·refine X6 (w':=w') (v:=v') rfl rfl hN (fun a ha=>?_) ?_
  ·have e1:=ha.ev hs2
   have e2:a.eval (.tmp d1)=.slice (some ⟨w.heap.size,0,none⟩) 1 1:=ha.ev (by simp[ev,lk]);simp[execOp,resolve,invoke,builtin,e1,e2,hr]
  ·have hk2:Kept v.ownBlock.toList w w':=((Kept.alloc w _).mono (fun _ h=>by cases h)).trans hk
   exact k v' w' ho hk2 (hb.imp_right fun ⟨g,h1,h2⟩=>⟨g,h1,by simp at h2;omega⟩)
end
end Go.Fw
