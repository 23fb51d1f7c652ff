/- Own work. -/
import Derived.Calls
import Derived.Tactics
import Derived.WalkKit
import Derived.Lib.Strings
import Derived.KernelRfl
import Derived.Laws.AppendOwn
import Derived.Laws.CopyRow
set_option maxHeartbeats 64000000
abbrev A2q:= @List.findIdx?_eq_some_iff_getElem
abbrev A5n:= @Array.getElem?_setIfInBounds_ne
abbrev A00:= @List.eq_nil_of_length_eq_zero
abbrev A11:= @List.take_append_of_le_length
abbrev A7o:= @Array.getD_eq_getD_getElem?
abbrev A6e:= @List.perm_append_comm_assoc
abbrev A7p:= @Array.getElem?_eq_some_iff
abbrev O4:= @List.getD_eq_getElem?_getD
abbrev A19:= @List.getElem?_append_right
abbrev A3r:= @List.getElem?_append_left
abbrev A7O:= @Array.mapM_eq_mapM_toList
abbrev A0t:= @List.getElem?_eq_some_iff
abbrev B0f:= @List.mem_of_find?_eq_some
abbrev A3L:= @List.findIdx?_eq_none_iff
abbrev A6t:= @List.drop_eq_getElem_cons
abbrev A2c:= @List.pairwise_iff_getElem
abbrev A7P:= @List.sublist_append_right
abbrev G6:= @List.getElem?_eq_getElem
abbrev A7Q:= @Array.setIfInBounds_comm
abbrev A7R:= @List.sublist_append_left
abbrev A5o:= @Int.eq_ofNat_of_zero_le
abbrev A0E:= @List.getElem?_cons_succ
abbrev A0A:= @List.getElem?_cons_zero
abbrev B0g:= @List.pairwise_singleton
abbrev A0u:= @List.take_of_length_le
abbrev A4A:= @List.drop_of_length_le
abbrev A5p:= @List.getElem?_set_self
abbrev A3O:= @Nat.eq_of_beq_eq_true
abbrev A2O:= @List.getElem?_toArray
abbrev A7S:= @List.mem_iff_getElem?
abbrev A12:= @List.mem_append_right
abbrev A07:= @List.getElem?_eq_none
abbrev A6u:= @List.contains_iff_mem
abbrev A1I:= @List.length_singleton
abbrev A0P:= @List.perm_append_comm
abbrev A3e:= @List.take_append_drop
abbrev A2P:= @Array.getElem?_modify
abbrev A7T:= @List.singleton_append
abbrev A3P:= @List.length_filter_le
abbrev A13:= @Nat.le_of_ble_eq_true
abbrev A7U:= @Array.getElem?_toList
abbrev A3Q:= @Nat.mul_le_mul_right
abbrev A0Q:= @List.mem_cons_of_mem
abbrev A1J:= @List.mem_append_left
abbrev A0B:= @List.mem_of_getElem?
abbrev A3R:= @List.getElem?_set_ne
abbrev A7V:= @List.mem_of_mem_take
abbrev A2t:= @List.pairwise_append
abbrev A6v:= @List.getElem?_zipIdx
abbrev A5q:= @Array.length_toList
abbrev X9:= @List.flatMap_append
abbrev A5r:= @List.takeWhile_cons
abbrev A1l:= @List.take_succ_cons
abbrev A3S:= @List.length_pos_iff
abbrev A5s:= @List.mem_map_of_mem
abbrev A1K:= @List.getElem_of_mem
abbrev A6w:= @Array.ext_getElem?
abbrev A14:= @List.getElem?_drop
abbrev A0v:= @List.mem_singleton
abbrev Q7:= @List.mem_cons_self
abbrev A7W:= @List.filter_append
abbrev E9:= @List.length_append
abbrev A6x:= @List.mem_filterMap
abbrev A6y:= @Bool.false_eq_true
abbrev A4B:= @Nat.eq_zero_or_pos
abbrev A6z:= @List.findIdx?_cons
abbrev A7X:= @List.set_cons_succ
abbrev A1L:= @List.getElem?_take
abbrev A1u:= @List.pairwise_cons
abbrev A7Y:= @List.set_cons_zero
abbrev U3:= @Option.some.injEq
abbrev O3:= @List.append_assoc
abbrev A5t:= @List.foldl_append
abbrev A0f:= @List.getElem?_map
abbrev A3f:= @List.take_add_one
abbrev A0a:= @List.flatMap_cons
abbrev A6A:= @List.any_eq_false
abbrev A1v:= @Int.toNat_natCast
abbrev A3T:= @List.ext_getElem?
abbrev A2d:= @List.getElem?_set
abbrev A5u:= @Nat.lt_succ_of_le
abbrev A5v:= @List.Sublist.refl
abbrev A5w:= @List.nodup_append
abbrev A7Z:= @Nat.le_of_lt_succ
abbrev A1m:= @Option.bind_some
abbrev A70:= @Array.toList_inj
abbrev U9:= @Bool.and_eq_true
abbrev A2Q:= @List.all_eq_true
abbrev F8:= @List.length_cons
abbrev O7:= @List.getElem_mem
abbrev A6B:= @List.mem_flatMap
abbrev Y0:= @List.cons_append
abbrev A5x:= @List.drop_append
abbrev A6C:= @List.take_append
abbrev A0r:= @List.length_drop
abbrev A71:= @List.any_eq_true
abbrev V5:= @List.take_length
abbrev Q4:= @List.length_take
abbrev A6D:= @List.drop_length
abbrev A2u:= @List.prefix_refl
abbrev A2I:= @Bool.eq_iff_iff
abbrev A1f:= @List.foldl_cons
abbrev A0d:= @List.mem_append
abbrev J3:= @List.append_nil
abbrev Y8:= @List.map_append
abbrev P5:= @List.nil_append
abbrev A1O:= @List.range_succ
abbrev A5K:= @List.all_append
abbrev A3J:= @List.find?_cons
abbrev A17:= @Option.map_some
abbrev A0Y:= @Option.some.inj
abbrev A2n:= @List.length_set
abbrev A1g:= @Nat.min_eq_left
abbrev A27:= @List.cons.injEq
abbrev A5L:= @List.set_append
abbrev A0g:= @List.length_map
abbrev A18:= @List.mem_range
abbrev A2o:= @List.drop_zero
abbrev Z9:= @List.take_zero
abbrev A28:= @List.take_take
abbrev A5M:= @List.drop_drop
abbrev X8:= @List.map_cons
abbrev A5N:= @List.sum_cons
abbrev V8:= @List.mem_cons
abbrev A5O:= @Bool.true_and
abbrev A3K:= @Nat.add_assoc
abbrev U0:= @Nat.lt_or_ge
abbrev A0J:= @Nat.le_trans
abbrev A1P:= @Nat.add_zero
abbrev V6:= @Nat.zero_add
abbrev A1n:= @Nat.zero_mul
abbrev A0x:= @List.mem_map
abbrev A3M:= @Nat.add_comm
abbrev A3N:= @Nat.sub_self
abbrev G9:= @Nat.le_refl
abbrev A1Q:= @Nat.add_mul
abbrev H7:= @Nat.zero_le
abbrev A2J:= @Nat.mul_one
abbrev A1x:= @Nat.blt_eq
namespace Go.Fw
open Go
abbrev Log:=List (Nat×Value)
def lk:Log->Nat->Option Value
 | [],_=>none
 |(d,v)::l,t=>bif Nat.beq t d then some v else lk l t
def ev (l:Log):Operand->Option Value
 | .tmp t=>lk l t
 | .const v=>some v
 | .global g=>some (.pointer (some ⟨g,0,none⟩))
 | .func f=>some (.func (.func f) #[] #[])
structure Fits (N:Nat) (ds:List Deferred) (l:Log) (a:Act):Prop where
 size:a.tmps.size=N
 defs:a.defers=ds
 vals:∀t v,lk l t=some v->a.tmps[t]?=some v
theorem Fits.ev {N:Nat}{ds:List Deferred}{l:Log}{a:Act} (h:Fits N ds l a) {x:Operand}{v:Value} (hx:ev l x=some v):a.eval x=v:=by
 cases x with
 |tmp t=>
  have:=h.vals t v hx;simp only[Act.eval,A7o,this,Option.getD_some]
 |const c=>simpa[Fw.ev,Act.eval] using hx
 |global g=>simpa[Fw.ev,Act.eval] using hx
 |func f=>simpa[Fw.ev,Act.eval] using hx
theorem Fits.put {N:Nat}{ds:List Deferred}{l:Log}{a:Act} (h:Fits N ds l a) {d:Nat} (hd:Nat.blt d N=true) (v:Value):
  Fits N ds ((d,v)::l) (a.put (some d) v):=by
 have hd':d<N:=by simpa[A1x] using hd
 refine⟨by simp[Act.put,h.size],h.defs,fun t u hu=>?_⟩
 simp only[lk]at hu;simp only[Act.put];cases hb:Nat.beq t d with
 |true=>
  rw[hb]at hu;have:t=d:=A3O hb;subst this;simp only[cond_true,U3]at hu;subst hu;have:t<a.tmps.size:=by rw[h.size];exact hd'
  simp[this]
 |false=>
  rw[hb]at hu;have hne:d≠t:=fun e=>by subst e;simp at hb
  simp only[cond_false]at hu;rw[A5n hne];exact h.vals t u hu
def Sub (l' l:Log):Prop:= ∀t v,lk l' t=some v->lk l t=some v
def Has (l:Log):Log->Prop
 | []=>True
 |(d,v)::l'=>lk l d=some v/\Has l l'
theorem Has.sub {l:Log}:∀ {l':Log},Has l l'->Sub l' l
 | [],_=>fun t v h=>by simp[lk]at h
 |(d,u)::l',⟨h1,h2⟩=>fun t v h=>by
  simp only[lk]at h;cases hb:Nat.beq t d with
  |true=>rw[hb]at h;have:=A3O hb;subst this;simp at h;subst h;exact h1
  |false=>rw[hb]at h;exact h2.sub t v (by simpa using h)
theorem Fits.sub {N:Nat}{ds:List Deferred}{l l':Log}{a:Act} (h:Fits N ds l a) (hs:Sub l' l):Fits N ds l' a:=
 ⟨h.size,h.defs,fun t v hv=>h.vals t v (hs t v hv)⟩
section
variable {P:Program}{N:Nat}{ds:List Deferred}
structure WC (P:Program) (N:Nat) (ds:List Deferred) (c:Code) (Q:Exit->Act->World->Prop) (l:Log) (w:World):Prop where
 run:∀a,Fits N ds l a->c.wp P Q a w
structure WL (P:Program) (N:Nat) (ds:List Deferred) (ops:Array Oper) (Q:Exit->Act->World->Prop) (os:List Oper) (l:Log) (w:World):Prop where
 run:∀a,Fits N ds l a->wpList P ops Q os a w
structure At (N:Nat) (ds:List Deferred) (Q:Exit->Act->World->Prop) (e:Exit) (l:Log) (w:World):Prop where
 run:∀a,Fits N ds l a->Q e a w
variable {Q:Exit->Act->World->Prop}{l l':Log}{w w':World}{ops:Array Oper}{os:List Oper}
theorem E8 {x y:Code} (h:WC P N ds x (Exit.then (fun a w=>y.wp P Q a w) Q) l w):WC P N ds (.seq x y) Q l w:=
 ⟨fun a ha=>wp_seq (wp_mono (h.run a ha) fun _ _ _ q=>q)⟩
theorem C7R {x y:Code}{α:Type} (L:α->Log) (J:α->World->Prop)
  (h:WC P N ds x (Exit.then (fun a w=> ∃x,Fits N ds (L x) a/\J x w) Q) l w)
  (k:∀x w,J x w->WC P N ds y Q (L x) w):WC P N ds (.seq x y) Q l w:=
 ⟨fun a ha=>wp_seq (wp_mono (h.run a ha) (fun e a w q=>by
  cases e<;>first|exact q|(obtain⟨x,hx,hj⟩:=q;exact(k x w hj).run a hx)))⟩
theorem B0p (id:Nat) {ops:Array Oper}{dr:Bool}{x y:Code}{α:Type} (L:α->Log) (J:α->World->Prop)
  (h:WC P N ds (.seq (.region id ops dr) x) (Exit.then (fun a w=> ∃x,Fits N ds (L x) a/\J x w) Q) l w)
  (k:∀x w,J x w->WC P N ds y Q (L x) w):WC P N ds (.seq (.seq (.region id ops dr) x) y) Q l w:=C7R L J h k
theorem F5 {id:Nat}{c:Code} (h:WC P N ds c (Exit.inBlock id Q) l w):WC P N ds (.block id c) Q l w:=⟨fun a ha=>wp_block (h.run a ha)⟩
theorem G5 (h:At N ds Q .normal l w):WC P N ds .skip Q l w:=⟨fun a ha=>wp_skip (h.run a ha)⟩
theorem H8 (h:At N ds Q .ret l w):WC P N ds .ret Q l w:=⟨fun a ha=>wp_ret (h.run a ha)⟩
theorem P9 {id:Nat} (h:At N ds Q (.exit id) l w):WC P N ds (.exit id) Q l w:=⟨fun a ha=>wp_exit (h.run a ha)⟩
theorem A8r {c:Operand}{x y:Code}{b:Bool} (hc:ev l c=some (.bool b):=by rfl) (ht:b=true->WC P N ds x Q l w) (hf:b=false->WC P N ds y Q l w):
  WC P N ds (.cond c x y) Q l w:=⟨fun a ha=>wp_cond_split (ha.ev hc) (fun h=>(ht h).run a ha) (fun h=>(hf h).run a ha)⟩
theorem H6 {c:Operand}{x y:Code} (ht:WC P N ds x Q l w) (hc:ev l c=some (.bool true):=by rfl)  :
  WC P N ds (.cond c x y) Q l w:=⟨fun a ha=>wp_cond_true (ha.ev hc) (ht.run a ha)⟩
theorem F7 {c:Operand}{x y:Code} (hf:WC P N ds y Q l w) (hc:ev l c=some (.bool false):=by rfl)  :
  WC P N ds (.cond c x y) Q l w:=⟨fun a ha=>wp_cond_false (ha.ev hc) (hf.run a ha)⟩
theorem A8 {id:Nat} (h:WL P N ds ops Q ops.toList l w):WC P N ds (.region id ops false) Q l w:=⟨fun a ha=>wp_region_list (h.run a ha)⟩
theorem U2 {c:Code}{α:Type} (L:α->Log) (J:α->World->Prop) (μ:α->Nat) (x₀:α) (hl:Has l (L x₀)) (hw:J x₀ w)
  (round:∀x w,J x w->WC P N ds c (Exit.then (fun a w=> ∃y,Fits N ds (L y) a/\J y w/\μ y<μ x) Q) (L x) w):
  WC P N ds (.loop c) Q l w:=by
 refine⟨fun a ha b k cs=>?_⟩
 have key:∀n x a w,μ x=n->Fits N ds (L x) a->J x w->
   ∃e a' w',Q e a' w'/\Arrives P (lone (b.at a (.code c:: .inLoop c::k)) cs w) b k cs e a' w':=by
  intro n;induction n using Nat.strongRecOn with
  |_ n ih=>
   intro x a w hn hL hI;obtain⟨e,a₁,w₁,hq,harr⟩:=(round x w hI).run a hL b (.inLoop c::k) cs;cases e with
   |normal=>
    obtain⟨y,hL₁,hI₁,hlt⟩:=hq;obtain⟨e₂,a₂,w₂,hq₂,harr₂⟩:=ih (μ y) (hn ▸ hlt) y a₁ w₁ rfl hL₁ hI₁;exact⟨e₂,a₂,w₂,hq₂,.of_steps (Steps.trans harr (.one step_inLoop)) harr₂⟩
   |exit id=>exact⟨_,a₁,w₁,hq,.pass (x:=.inLoop c) rfl (fun _ _=> .inl (by simp)) harr⟩
   |goto l=>exact⟨_,a₁,w₁,hq,.pass (x:=.inLoop c) rfl (fun _ _=> .inl (by simp)) harr⟩
   |ret=>exact⟨_,a₁,w₁,hq,.pass (x:=.inLoop c) rfl (fun _ _=> .inl (by simp)) harr⟩
   |panic ch=>exact⟨_,a₁,w₁,hq,.pass (x:=.inLoop c) rfl (fun _ _=> .inl (by simp)) harr⟩
   |outgrown=>exact⟨_,a₁,w₁,hq,.pass (x:=.inLoop c) rfl (fun _ _=> .inl (by simp)) harr⟩
 obtain⟨e,a',w',hq,harr⟩:=key _ x₀ a w rfl (ha.sub hl.sub) hw;exact⟨e,a',w',hq,.of_steps (.one step_loop) harr⟩
theorem D9 (h:At N ds Q .normal l w):WL P N ds ops Q [] l w:=⟨fun a ha=>wpList_nil (h.run a ha)⟩
theorem A7 {y:Code} (h:WC P N ds y Q l w):At N ds (Exit.then (fun a w=>y.wp P Q a w) Q) .normal l w:=⟨fun a ha=>h.run a ha⟩
theorem L9 {α:Type}{L:α->Log}{J:α->World->Prop}{μ:α->Nat}{n:Nat} (y:α) (hl:Has l (L y)) (hw:J y w) (hm:μ y<n):
  At N ds (Exit.then (fun a w=> ∃y,Fits N ds (L y) a/\J y w/\μ y<n) Q) .normal l w:=⟨fun _ ha=>⟨y,ha.sub hl.sub,hw,hm⟩⟩
theorem A02 {α:Type}{L:α->Log}{J:α->World->Prop} (y:α) (hl:Has l (L y)) (hw:J y w):
  At N ds (Exit.then (fun a w=> ∃x,Fits N ds (L x) a/\J x w) Q) .normal l w:=⟨fun _ ha=>⟨y,ha.sub hl.sub,hw⟩⟩
theorem G8 {K:Act->World->Prop} (h:At N ds Q .ret l w):At N ds (Exit.then K Q) .ret l w:=⟨fun a ha=>h.run a ha⟩
theorem H9 {K:Act->World->Prop}{id:Nat} (h:At N ds Q (.exit id) l w):At N ds (Exit.then K Q) (.exit id) l w:=⟨fun a ha=>h.run a ha⟩
theorem D7 {id:Nat} (h:At N ds Q .normal l w):At N ds (Exit.inBlock id Q) .normal l w:=⟨fun a ha=>h.run a ha⟩
theorem O1 {id:Nat} (h:At N ds Q .ret l w):At N ds (Exit.inBlock id Q) .ret l w:=⟨fun a ha=>h.run a ha⟩
theorem H5 {id:Nat} (h:At N ds Q .normal l w):At N ds (Exit.inBlock id Q) (.exit id) l w:=
 ⟨fun a ha=>by simp only[Exit.inBlock,if_true];exact h.run a ha⟩
theorem A1E {id id':Nat} (h:At N ds Q (.exit id') l w) (hne:Nat.beq id' id=false:=by rfl)  :At N ds (Exit.inBlock id Q) (.exit id') l w:=
 ⟨fun a ha=>by
  have:id'≠id:=fun e=>by subst e;simp at hne
  simp only[Exit.inBlock,this,if_false];exact h.run a ha⟩
def Ret (Post:Value->World->Prop):Ending->World->Prop
 | .returned v,w=>Post v w
 |_,_=>False
structure Cal (P:Program) (f:FuncId) (args:Array Value) (w:World) (Post:Value->World->Prop):Prop where
 run:Calls P f args w (Ret Post)
theorem Cal.mono {f:FuncId}{args:Array Value}{Post Post':Value->World->Prop} (h:Cal P f args w Post) (hp:∀v w,Post v w->Post' v w):Cal P f args w Post':=
 ⟨Calls.mono h.run (fun e w q=>by cases e<;>first|exact hp _ _ q|exact q)⟩
theorem J9 {fn:Func}{t:Nat}{v:Value}{Post:Value->World->Prop} (h:Post v w) (hr:fn.results= #[.tmp t]:=by rfl) (hv:lk l t=some v:=by rfl)  :
  At N [] (bodyPost P fn (Ret Post)) .ret l w:=⟨fun a ha=>
 ⟨ha.defs,v,by rw[results_tmp hr];simp[ha.vals t v hv],h⟩⟩
theorem A1T {fn:Func}{t u:Nat}{v x:Value}{Post:Value->World->Prop} (h:Post (.tuple #[v,x]) w) (hr:fn.results= #[.tmp t,.tmp u]:=by rfl) (hv:lk l t=some v:=by rfl) (hx:lk l u=some x:=by rfl)
   :At N [] (bodyPost P fn (Ret Post)) .ret l w:=⟨fun a ha=>
 ⟨ha.defs,_,by rw[results_tmp2 hr];simp[ha.vals t v hv,ha.vals u x hx],h⟩⟩
theorem A4U {fn:Func}{Post:Value->World->Prop} (h:Post (.tuple #[]) w) (hr:fn.results= #[]:=by rfl)  :
  At N [] (bodyPost P fn (Ret Post)) .ret l w:=⟨fun _ ha=>⟨ha.defs,_,results_none hr _ _ _,h⟩⟩
theorem X0 {fn:Func}{Post:Value->World->Prop} (h:Post (.tuple #[]) w) (hr:fn.results= #[]:=by rfl)  :
  At N [] (bodyPost P fn (Ret Post)) .normal l w:=⟨fun _ ha=>⟨ha.defs,_,results_none hr _ _ _,h⟩⟩
theorem B0a (args:Array Value) (n:Nat) (l:Log) (h:∀t v,lk l t=some v->args[t]?=some v):
  Fits (args.size+n) [] l { tmps:=args++Array.replicate n undef,defers:= []}:=by
 refine⟨by simp,rfl,fun t v hv=>?_⟩
 have h1:=h t v hv;have h2:t<args.size:=by
  rcases U0 t args.size with h3|h3
  ·exact h3
  ·simp[Array.getElem?_eq_none h3]at h1
 show (args++Array.replicate n undef)[t]?=some v
 rw[Array.getElem?_append_left h2];exact h1
theorem C6l:∀t u,lk [] t=some u->(#[]:Array Value)[t]?=some u:=fun t u h=>by simp[lk]at h
theorem A0I {v:Value}:∀t u,lk [(0,v)] t=some u-> #[v][t]?=some u:=fun t u h=>by
 match t,h with
 |0,h=>simpa[lk] using h
 |t+1,h=>cases h
theorem A0T {v0 v1:Value}:∀t u,lk [(0,v0),(1,v1)] t=some u-> #[v0,v1][t]?=some u:=fun t u h=>by
 match t,h with
 |0,h=>simpa[lk] using h
 |1,h=>have h':some v1=some u:=h;simpa using h'
 |t+2,h=>cases h
theorem A3C {v0 v1 v2:Value}:∀t u,lk [(0,v0),(1,v1),(2,v2)] t=some u-> #[v0,v1,v2][t]?=some u:=fun t u h=>by
 match t,h with
 |0,h=>simpa[lk] using h
 |1,h=>have h':some v1=some u:=h;simpa using h'
 |2,h=>have h':some v2=some u:=h;simpa using h'
 |t+3,h=>cases h
theorem B2R {v0 v1 v2 v3:Value}:∀t u,lk [(0,v0),(1,v1),(2,v2),(3,v3)] t=some u-> #[v0,v1,v2,v3][t]?=some u:=fun t u h=>by
 match t,h with
 |0,h=>simpa[lk] using h
 |1,h=>have h':some v1=some u:=h;simpa using h'
 |2,h=>have h':some v2=some u:=h;simpa using h'
 |3,h=>have h':some v3=some u:=h;simpa using h'
 |t+4,h=>cases h
theorem enter {f:FuncId}{fn:Func}{c:Code}{args:Array Value}{Post:Value->World->Prop} (hf:P.funcs[f]?=some fn) (hb:fn.body=some c)
  (l:Log) (hl:∀t v,lk l t=some v->args[t]?=some v) (hN:N=args.size+(fn.ntmps-args.size))
  (h:WC P N [] c (bodyPost P fn (Ret Post)) l w):Cal P f args w Post:=
 ⟨calls_of_wp hf hb (h.run _ (by rw[hN];exact B0a _ _ _ hl))⟩
end
def U4 (ops:Array Oper) (l:Log) (o:Oper):Option Bool:=
 match o.guard with
 |none=>some true
 |some (j,b)=>match (ops[j]?).bind (·.dst) with
  |none=>some false
  |some t=>match lk l t with
   |some (.bool x)=>some (x==b)
   |some (.tuple _)=>some false
   |_=>none
section
variable {P:Program}{N:Nat}{ds:List Deferred}{Q:Exit->Act->World->Prop}{l l':Log}{w w':World}{ops:Array Oper}{os:List Oper}{o:Oper}
theorem A23 {a:Act} (h:Fits N ds l a) {b:Bool} (hw:U4 ops l o=some b):Region.wanted o (yielded ops a.tmps)=b:=by
 unfold U4 at hw
 unfold Region.wanted yielded
 split at hw
 ·rename_i hg;simp only[U3]at hw;simp[hg, <-hw]
 ·rename_i j c hg
  simp only[hg];split at hw
  ·rename_i hj;simp only[U3]at hw;simp[hj, <-hw]
  ·rename_i t hj
   simp only[hj,A1m];split at hw
   ·rename_i x hx
    simp only[U3]at hw;simp[h.vals _ _ hx, <-hw]
   ·rename_i x hx
    simp only[U3]at hw;simp[h.vals _ _ hx, <-hw]
   ·cases hw
theorem B45 (hw:U4 ops l o=some true) (h:∀a,Fits N ds l a->o.wp P a w (fun a' w'=>wpList P ops Q os a' w') Q):WL P N ds ops Q (o::os) l w:=
 ⟨fun a ha=>by
  unfold wpList
  rw[A23 ha hw];exact .inl (h a ha)⟩
theorem U6 {d:Nat}{v:Value} (hd:o.dst=some d) (hw:U4 ops l o=some true) (hN:Nat.blt d N=true)
  (hrun:∀a,Fits N ds l a->(execOp a.eval o).run P w=.ok (.value v) w')
  (k:WL P N ds ops Q os ((d,v)::l) w'):WL P N ds ops Q (o::os) l w:=
 B45 hw fun a ha=>by
  unfold Oper.wp
  rw[hrun a ha,Oper.upon_value,hd];exact k.run _ (ha.put hN v)
theorem A0N {d:Nat} (k:WL P N ds ops Q os ((d,undef)::l) w) (hd:o.dst=some d:=by rfl) (hw:U4 ops l o=some false:=by rfl) (hN:Nat.blt d N=true:=by rfl)
   :WL P N ds ops Q (o::os) l w:=⟨fun a ha=>by
 unfold wpList
 rw[A23 ha hw,hd];exact k.run _ (ha.put hN _)⟩
theorem B3S {j:Nat}{b:Bool}{c:Bool}{t:Nat} (_hg:o.guard=some (j,c):=by rfl) (_ht:(ops[j]?).bind (·.dst)=some t:=by rfl) (hb:lk l t=some (.bool b):=by rfl)
  (h1:b=true->WL P N ds ops Q (o::os) ((t,.bool true)::l) w) (h0:b=false->WL P N ds ops Q (o::os) ((t,.bool false)::l) w):
  WL P N ds ops Q (o::os) l w:=by
 have key:∀c,b=c->WL P N ds ops Q (o::os) ((t,.bool c)::l) w->WL P N ds ops Q (o::os) l w:=fun c e h=>⟨fun a ha=>by
  subst e;refine h.run a ⟨ha.size,ha.defs,fun s v hv=>?_⟩
  simp only[lk]at hv;cases hs:Nat.beq s t with
  |true=>rw[hs]at hv;have:=A3O hs;subst this;simp at hv;subst hv;exact ha.vals _ _ hb
  |false=>rw[hs]at hv;exact ha.vals _ _ (by simpa using hv)⟩
 cases hb':b with
 |true=>exact key true hb' (h1 hb')
 |false=>exact key false hb' (h0 hb')
theorem N8 {j:Nat}{p:Prop} [Decidable p] {c:Bool}{t:Nat} (hg:o.guard=some (j,c):=by rfl) (ht:(ops[j]?).bind (·.dst)=some t:=by rfl) (hb:lk l t=some (.bool (decide p)):=by rfl)
  (h1:p->WL P N ds ops Q (o::os) ((t,.bool true)::l) w) (h0:¬p->WL P N ds ops Q (o::os) ((t,.bool false)::l) w):
  WL P N ds ops Q (o::os) l w:=
 B3S hg ht hb (fun h=>h1 (of_decide_eq_true h)) (fun h=>h0 (of_decide_eq_false h))
theorem D5 {c:Operand}{x y:Code}{p:Prop} [Decidable p] (hc:ev l c=some (.bool (decide p)):=by rfl) (ht:p->WC P N ds x Q l w) (hf:¬p->WC P N ds y Q l w):
  WC P N ds (.cond c x y) Q l w:=A8r hc (fun h=>ht (of_decide_eq_true h)) (fun h=>hf (of_decide_eq_false h))
variable {d:Nat}{ty:TypeId}{pos:String}{af:Array Edge}{g:Option (Nat×Bool)}
theorem D8 {x:Operand}{v:Value} (k:WL P N ds ops Q os ((d,v)::l) w) (hw:U4 ops l ⟨some d,.move x,ty,pos,af,g⟩=some true:=by rfl) (hN:Nat.blt d N=true:=by rfl) (hx:ev l x=some v:=by rfl)
   :WL P N ds ops Q (⟨some d,.move x,ty,pos,af,g⟩::os) l w:=
 U6 rfl hw hN (fun a ha=>by simp[execOp,ha.ev hx]) k
theorem D6 {x:Operand}{v:Value} (k:WL P N ds ops Q os ((d,v)::l) w) (hw:U4 ops l ⟨some d,.assign x,ty,pos,af,g⟩=some true:=by rfl) (hN:Nat.blt d N=true:=by rfl) (hx:ev l x=some v:=by rfl)
   :WL P N ds ops Q (⟨some d,.assign x,ty,pos,af,g⟩::os) l w:=
 U6 rfl hw hN (fun a ha=>by simp[execOp,ha.ev hx]) k
theorem O9 {c x y:Operand}{v:Value} (k:WL P N ds ops Q os ((d,v)::l) w) (hw:U4 ops l ⟨some d,.pick c x y,ty,pos,af,g⟩=some true:=by rfl) (hN:Nat.blt d N=true:=by rfl)
  (hc:ev l c=some (.bool true):=by rfl) (hx:ev l x=some v:=by rfl)  :WL P N ds ops Q (⟨some d,.pick c x y,ty,pos,af,g⟩::os) l w:=
 U6 rfl hw hN (fun a ha=>by simp[execOp,ha.ev hc,ha.ev hx,asBool]) k
theorem L8 {c x y:Operand}{v:Value} (k:WL P N ds ops Q os ((d,v)::l) w) (hw:U4 ops l ⟨some d,.pick c x y,ty,pos,af,g⟩=some true:=by rfl) (hN:Nat.blt d N=true:=by rfl)
  (hc:ev l c=some (.bool false):=by rfl) (hy:ev l y=some v:=by rfl)  :WL P N ds ops Q (⟨some d,.pick c x y,ty,pos,af,g⟩::os) l w:=
 U6 rfl hw hN (fun a ha=>by simp[execOp,ha.ev hc,ha.ev hy,asBool]) k
theorem A4s {α:Type} [BEq α] [LawfulBEq α] [DecidableEq α] (a b:α):(a==b)=decide (a=b):=by rw[A2I];simp
section
variable {t t':TypeId}{x y:Operand}{ik:IntKind}
theorem J6 {a b:Int} (k:WL P N ds ops Q os ((d,.bool (decide (a<b)))::l) w) (hw:U4 ops l ⟨some d,.binOp .lss t x y t',ty,pos,af,g⟩=some true:=by rfl) (hN:Nat.blt d N=true:=by rfl) (hx:ev l x=some (.int ik a):=by rfl) (hy:ev l y=some (.int ik b):=by rfl)
   :WL P N ds ops Q (⟨some d,.binOp .lss t x y t',ty,pos,af,g⟩::os) l w:=
 U6 rfl hw hN (fun c hc=>by simp[execOp,hc.ev hx,hc.ev hy,eqGuard,binOp,Op.intCmp]) k
theorem A6I {a b:Int} (k:WL P N ds ops Q os ((d,.bool (decide (a<=b)))::l) w) (hw:U4 ops l ⟨some d,.binOp .leq t x y t',ty,pos,af,g⟩=some true:=by rfl) (hN:Nat.blt d N=true:=by rfl) (hx:ev l x=some (.int ik a):=by rfl) (hy:ev l y=some (.int ik b):=by rfl)
   :WL P N ds ops Q (⟨some d,.binOp .leq t x y t',ty,pos,af,g⟩::os) l w:=
 U6 rfl hw hN (fun c hc=>by simp[execOp,hc.ev hx,hc.ev hy,eqGuard,binOp,Op.intCmp]) k
theorem A0F {a b:Int} (k:WL P N ds ops Q os ((d,.bool (decide (b<a)))::l) w) (hw:U4 ops l ⟨some d,.binOp .gtr t x y t',ty,pos,af,g⟩=some true:=by rfl) (hN:Nat.blt d N=true:=by rfl) (hx:ev l x=some (.int ik a):=by rfl) (hy:ev l y=some (.int ik b):=by rfl)
   :WL P N ds ops Q (⟨some d,.binOp .gtr t x y t',ty,pos,af,g⟩::os) l w:=
 U6 rfl hw hN (fun c hc=>by simp[execOp,hc.ev hx,hc.ev hy,eqGuard,binOp,Op.intCmp]) k
theorem A04 {a b:Int} (k:WL P N ds ops Q os ((d,.bool (decide (b<=a)))::l) w) (hw:U4 ops l ⟨some d,.binOp .geq t x y t',ty,pos,af,g⟩=some true:=by rfl) (hN:Nat.blt d N=true:=by rfl) (hx:ev l x=some (.int ik a):=by rfl) (hy:ev l y=some (.int ik b):=by rfl)
   :WL P N ds ops Q (⟨some d,.binOp .geq t x y t',ty,pos,af,g⟩::os) l w:=
 U6 rfl hw hN (fun c hc=>by simp[execOp,hc.ev hx,hc.ev hy,eqGuard,binOp,Op.intCmp]) k
theorem N9 {a b:Int} (k:WL P N ds ops Q os ((d,.bool (decide (a=b)))::l) w) (hw:U4 ops l ⟨some d,.binOp .eql t x y t',ty,pos,af,g⟩=some true:=by rfl) (hN:Nat.blt d N=true:=by rfl) (hx:ev l x=some (.int ik a):=by rfl) (hy:ev l y=some (.int ik b):=by rfl)
   :WL P N ds ops Q (⟨some d,.binOp .eql t x y t',ty,pos,af,g⟩::os) l w:=
 U6 rfl hw hN (fun c hc=>by simp[execOp,hc.ev hx,hc.ev hy,eqGuard,binOp,Op.intCmp,A4s]) k
theorem A0y {a b:Int} (k:WL P N ds ops Q os ((d,.bool (decide (a≠b)))::l) w) (hw:U4 ops l ⟨some d,.binOp .neq t x y t',ty,pos,af,g⟩=some true:=by rfl) (hN:Nat.blt d N=true:=by rfl) (hx:ev l x=some (.int ik a):=by rfl) (hy:ev l y=some (.int ik b):=by rfl)
   :WL P N ds ops Q (⟨some d,.binOp .neq t x y t',ty,pos,af,g⟩::os) l w:=
 U6 rfl hw hN (fun c hc=>by simp[execOp,hc.ev hx,hc.ev hy,eqGuard,binOp,Op.intCmp,A4s,bne]) k
end
end
structure Kept (X:List Nat) (w w':World):Prop where
 os:w'.os=w.os
 tape:w'.tape=w.tape
 output:w'.output=w.output
 size:w.heap.size≤w'.heap.size
 blk:∀k,k<w.heap.size→k∉X→w'.heap[k]?=w.heap[k]?
theorem A2v {w:World}{b:Nat}{o:Obj} (h:w.heap[b]?=some o):b<w.heap.size:=(A7p.1 h).1
theorem Kept.refl (X:List Nat) (w:World):Kept X w w:=⟨rfl,rfl,rfl,G9 _,fun _ _ _=>rfl⟩
theorem Kept.trans {X:List Nat}{a b c:World} (h:Kept X a b) (k:Kept X b c):Kept X a c:=
 ⟨k.os.trans h.os,k.tape.trans h.tape,k.output.trans h.output,A0J h.size k.size,
  fun i hi hx=>(k.blk i (Nat.lt_of_lt_of_le hi h.size) hx).trans (h.blk i hi hx)⟩
theorem Kept.mono {X Y:List Nat}{a b:World} (h:Kept X a b) (hs:∀x,x∈X→x∈Y∨a.heap.size≤x):Kept Y a b:=
 ⟨h.os,h.tape,h.output,h.size,fun i hi hy=>h.blk i hi (fun hx=>(hs i hx).elim hy (fun h2=>absurd hi (Nat.not_lt.2 h2)))⟩
theorem Kept.step {X Y:List Nat}{a b c:World} (h:Kept X a b) (k:Kept Y b c) (hs:∀x,x∈Y→x∈X∨a.heap.size≤x):Kept X a c:=
 ⟨k.os.trans h.os,k.tape.trans h.tape,k.output.trans h.output,A0J h.size k.size,
  fun i hi hx=>(k.blk i (Nat.lt_of_lt_of_le hi h.size) (fun hy=>(hs i hy).elim hx (fun h2=>absurd hi (Nat.not_lt.2 h2)))).trans (h.blk i hi hx)⟩
theorem Kept.step0 {X:List Nat}{a b c:World} (h:Kept X a b) (k:Kept [] b c):Kept X a c:=h.step k (fun _ hx=>by cases hx)
theorem Kept.get {X:List Nat}{w w':World} (h:Kept X w w') {b:Nat}{o:Obj} (hb:w.heap[b]?=some o) (hx:b∉X):w'.heap[b]?=some o:=
 (h.blk b (A2v hb) hx).trans hb
theorem Kept.get0 {w w':World} (h:Kept [] w w') {b:Nat}{o:Obj} (hb:w.heap[b]?=some o):w'.heap[b]?=some o:=h.get hb (by simp)
theorem Kept.alloc (w:World) (o:Obj):Kept [] w (w.alloc o):=⟨rfl,rfl,rfl,by simp,fun k hk _=>heap_alloc_old w o hk⟩
theorem Kept.drew (w:World):Kept [] w w.drew:=⟨rfl,rfl,rfl,G9 _,fun _ _ _=>rfl⟩
theorem Kept.of_grown {w w':World}{r:Option Nat} (h:w.grownBy w' r):Kept r.toList w w':=
 ⟨h.os,h.tape,h.output,h.size,fun k hk hx=>h.block k hk (fun e=>hx (by rw[←e];simp))⟩
theorem Kept.own {w w':World}{X:List Nat} (h:Kept X w w') {base e size n:Nat}{v:Value}{xs:List Value} (ho:w.ownsRow base e size v n xs)
  (hx:∀g,v.ownBlock=some g→g∉X):w'.ownsRow base e size v n xs:=by
 refine⟨ho.1,?_⟩
 rcases ho.2 with hn|⟨g,cap,cur,rfl,hb,hg,rest⟩
 ·exact .inl hn
 ·exact .inr ⟨g,cap,cur,rfl,hb,h.get hg (hx g rfl),rest⟩
theorem A32 {w:World}{base base' e size n:Nat}{v:Value}{xs:List Value} (ho:w.ownsRow base e size v n xs) (h:base'≤base):w.ownsRow base' e size v n xs:=by
 refine⟨ho.1,?_⟩
 rcases ho.2 with hn|⟨g,cap,cur,rfl,hb,hg,rest⟩
 ·exact .inl hn
 ·exact .inr ⟨g,cap,cur,rfl,by omega,hg,rest⟩
abbrev P6:=Nat→Option Obj
def Inv (I:P6) (w:World):Prop:= ∀b o,I b=some o→w.heap[b]?=some o
def Le (I I':P6):Prop:= ∀b o,I b=some o→I' b=some o
def P6.add (I:P6) (b:Nat) (o:Obj):P6:=fun k=>if k=b then some o else I k
theorem Le.refl (I:P6):Le I I:=fun _ _ h=>h
theorem Le.trans {a b c:P6} (h:Le a b) (k:Le b c):Le a c:=fun _ _ x=>k _ _ (h _ _ x)
theorem Inv.fresh {I:P6}{w:World} (h:Inv I w) {b:Nat} (hb:w.heap.size≤b):I b=none:=by
 cases hi:I b with
 |none=>rfl
 |some o=>exact absurd (A2v (h b o hi)) (by omega)
theorem Inv.kept {I:P6}{w w':World}{X:List Nat} (h:Inv I w) (k:Kept X w w') (hx:∀x,x∈X→I x=none):Inv I w':=fun b o hb=>
 k.get (h b o hb) (fun hm=>by rw[hx b hm]at hb;cases hb)
theorem Inv.kept0 {I:P6}{w w':World} (h:Inv I w) (k:Kept [] w w'):Inv I w':=h.kept k (fun _ hx=>by cases hx)
theorem Inv.add {I:P6}{w:World} (h:Inv I w) {b:Nat}{o:Obj} (hb:w.heap[b]?=some o):Inv (I.add b o) w:=fun k u hk=>by
 unfold P6.add at hk
 split at hk
 ·rename_i e;subst e;simp at hk;subst hk;exact hb
 ·exact h k u hk
theorem Le.add {I:P6}{b:Nat}{o:Obj} (h:I b=none):Le I (I.add b o):=fun k u hk=>by
 unfold P6.add
 split
 ·rename_i e;subst e;rw[h]at hk;cases hk
 ·exact hk
theorem P6.add_self (I:P6) (b:Nat) (o:Obj):(I.add b o) b=some o:=by simp[P6.add]
def A7L:TypeDesc→Bool
 | .struct _| .array _ _=>true
 |_=>false
class TyStr (P:Program) (t:TypeId):Prop where out:P.underlying t=some .string
class TySlice (P:Program) (t:TypeId) (e:outParam TypeId):Prop where out:P.underlying t=some (.slice e)
class Elem (P:Program) (e:TypeId) (size bytes:outParam Nat):Prop where
 out:∃i z,P.info? e=some i∧i.zero=some z∧i.size=size∧i.bytes=bytes∧z.cells.size=size∧0<size
class Own (P : Program) (f : FuncId) : Prop where out : ∃ fn, P.funcs[f]? = some fn ∧ (fn.name == "runtime.NumGoroutine") = false ∧ fn.body.isNone = false
class TyOne (P:Program) (t:TypeId):Prop where out:∃d,P.underlying t=some d∧A7L d=false
class TyAgg (P:Program) (t:TypeId) (size:outParam Nat):Prop where out:∃d i,P.underlying t=some d∧A7L d=true∧P.info? t=some i∧i.size=size
abbrev str (s:List UInt8):Value:=.string ⟨s.toArray⟩
theorem A2h (s:List UInt8):ByteArray.size ⟨s.toArray⟩=s.length:=List.size_toArray
theorem C53 (s:List UInt8) (i:Nat) (h:i<s.length):(⟨s.toArray⟩:ByteArray)[i]?=some (s.getD i 0):=by
 have h1:i<(⟨s.toArray⟩:ByteArray).size:=by rw[A2h];exact h
 rw[getElem?_pos (⟨s.toArray⟩:ByteArray) i h1];simp[G6 h]
 rfl
section
variable {P:Program}{N:Nat}{ds:List Deferred}{Q:Exit→Act→World→Prop}{l l':Log}{w w':World}{ops:Array Oper}{os:List Oper}{o:Oper}
variable {d:Nat}{ty:TypeId}{pos:String}{af:Array Edge}{g:Option (Nat×Bool)}{t t':TypeId}{x y:Operand}
theorem A0G [TyStr P t] {s:List UInt8} (k:WL P N ds ops Q os ((d,.int .i64 (s.length:Int))::l) w) (hw:U4 ops l ⟨some d,.call ⟨.builtin .len, #[x], #[t]⟩,ty,pos,af,g⟩=some true:=by rfl) (hN:Nat.blt d N=true:=by rfl)
  (hx:ev l x=some (str s):=by rfl)  :
  WL P N ds ops Q (⟨some d,.call ⟨.builtin .len, #[x], #[t]⟩,ty,pos,af,g⟩::os) l w:=
 U6 rfl hw hN (fun a ha=>by
  have h1:=run_underlying (P:=P) (w:=w) (TyStr.out (P:=P) (t:=t));simp[execOp,resolve,invoke,builtin,Builtin.len_,ha.ev hx,h1,goInt,A2h]) k
theorem G7 {e:TypeId} [TySlice P t e] {b:Option Addr}{n c:Nat} (k:WL P N ds ops Q os ((d,.int .i64 (n:Int))::l) w) (hw:U4 ops l ⟨some d,.call ⟨.builtin .len, #[x], #[t]⟩,ty,pos,af,g⟩=some true:=by rfl) (hN:Nat.blt d N=true:=by rfl)
  (hx:ev l x=some (.slice b n c):=by rfl)  :
  WL P N ds ops Q (⟨some d,.call ⟨.builtin .len, #[x], #[t]⟩,ty,pos,af,g⟩::os) l w:=
 U6 rfl hw hN (fun a ha=>by
  have h1:=run_underlying (P:=P) (w:=w) (TySlice.out (P:=P) (t:=t));simp[execOp,resolve,invoke,builtin,Builtin.len_,ha.ev hx,h1,goInt]) k
theorem A1s [TyStr P t] {s:List UInt8}{n:Int} (k:WL P N ds ops Q os ((d,.int .u8 ((s.getD n.toNat 0).toNat:Int))::l) w) (hw:U4 ops l ⟨some d,.index t x y,ty,pos,af,g⟩=some true:=by rfl) (hN:Nat.blt d N=true:=by rfl)
  (hx:ev l x=some (str s):=by rfl) (hy:ev l y=some (.int .i64 n):=by rfl) (h0:0≤n:=by omega) (h1:n<s.length:=by omega)
   :
  WL P N ds ops Q (⟨some d,.index t x y,ty,pos,af,g⟩::os) l w:=
 U6 rfl hw hN (fun a ha=>by
  have h2:=run_underlying (P:=P) (w:=w) (TyStr.out (P:=P) (t:=t));have h3:n.toNat<s.length:=by omega
  simp[execOp,Instr.index,ha.ev hx,ha.ev hy,h2,asIntOf,h0,C53 s _ h3]) k
theorem A4P (s:List UInt8) (a b:Nat):ByteArray.extract ⟨s.toArray⟩ a b=⟨((s.drop a).take (b-a)).toArray⟩:=by
 have h:=Lib.extract_data ⟨s.toArray⟩ a b;apply ByteArray.ext
 apply A70.1
 rw[h]
theorem A8n (s u:List UInt8):(⟨s.toArray⟩:ByteArray)++⟨u.toArray⟩=⟨(s++u).toArray⟩:=by
 apply ByteArray.ext
 simp
theorem A8o (s:List UInt8):ByteArray.toList ⟨s.toArray⟩=s:=by simp
theorem B0S [TyStr P t] {s:List UInt8}{z:Operand}{a b:Int} (k:WL P N ds ops Q os ((d,str ((s.drop a.toNat).take (b.toNat-a.toNat)))::l) w) (hw:U4 ops l ⟨some d,.slice t x (some y) (some z) none,ty,pos,af,g⟩=some true:=by rfl) (hN:Nat.blt d N=true:=by rfl)
  (hx:ev l x=some (str s):=by rfl) (hy:ev l y=some (.int .i64 a):=by rfl) (hz:ev l z=some (.int .i64 b):=by rfl) (h0:0≤a∧a≤b∧b≤s.length:=by omega)
   :
  WL P N ds ops Q (⟨some d,.slice t x (some y) (some z) none,ty,pos,af,g⟩::os) l w:=
 U6 rfl hw hN (fun c hc=>by
  obtain⟨i,rfl⟩:=A5o h0.1;obtain⟨j,rfl⟩:=A5o (Int.le_trans h0.1 h0.2.1);have h2:=run_underlying (P:=P) (w:=w) (TyStr.out (P:=P) (t:=t));have h3:i≤j:=by omega
  have h4:j≤s.length:=by omega
  simp[execOp,Instr.sliceAt,Instr.slice,Instr.sliceBounds,Instr.sliceBound,hc.ev hx,hc.ev hy,hc.ev hz,h2,asIntOf,A2h,A4P,h3,h4]) k
theorem A7d [TyStr P t] {s:List UInt8}{a:Int} (k:WL P N ds ops Q os ((d,str (s.drop a.toNat))::l) w) (hw:U4 ops l ⟨some d,.slice t x (some y) none none,ty,pos,af,g⟩=some true:=by rfl) (hN:Nat.blt d N=true:=by rfl)
  (hx:ev l x=some (str s):=by rfl) (hy:ev l y=some (.int .i64 a):=by rfl) (h0:0≤a∧a≤s.length:=by omega)
   :
  WL P N ds ops Q (⟨some d,.slice t x (some y) none none,ty,pos,af,g⟩::os) l w:=
 U6 rfl hw hN (fun c hc=>by
  have h2:=run_underlying (P:=P) (w:=w) (TyStr.out (P:=P) (t:=t));have h4:(s.drop a.toNat).take (s.length-a.toNat)=s.drop a.toNat:=A0u (by simp);simp[execOp,Instr.sliceAt,Instr.slice,Instr.sliceBounds,Instr.sliceBound,hc.ev hx,hc.ev hy,h2,asIntOf,h0,A2h,A4P,h4]) k
theorem V9 {s u:List UInt8} (k:WL P N ds ops Q os ((d,.bool (decide (s=u)))::l) w) (hw:U4 ops l ⟨some d,.binOp .eql t x y t',ty,pos,af,g⟩=some true:=by rfl) (hN:Nat.blt d N=true:=by rfl)
  (hx:ev l x=some (str s):=by rfl) (hy:ev l y=some (str u):=by rfl)  :
  WL P N ds ops Q (⟨some d,.binOp .eql t x y t',ty,pos,af,g⟩::os) l w:=
 U6 rfl hw hN (fun c hc=>by simp[execOp,hc.ev hx,hc.ev hy,eqGuard,binOp,Op.stringOp];exact A4s s u) k
theorem A08 {s u:List UInt8} (k:WL P N ds ops Q os ((d,.bool (decide (s≠u)))::l) w) (hw:U4 ops l ⟨some d,.binOp .neq t x y t',ty,pos,af,g⟩=some true:=by rfl) (hN:Nat.blt d N=true:=by rfl)
  (hx:ev l x=some (str s):=by rfl) (hy:ev l y=some (str u):=by rfl)  :
  WL P N ds ops Q (⟨some d,.binOp .neq t x y t',ty,pos,af,g⟩::os) l w:=
 U6 rfl hw hN (fun c hc=>by simp[execOp,hc.ev hx,hc.ev hy,eqGuard,binOp,Op.stringOp];exact A4s s u) k
theorem A6G {s u:List UInt8} (k:WL P N ds ops Q os ((d,str (s++u))::l) w) (hw:U4 ops l ⟨some d,.binOp .add t x y t',ty,pos,af,g⟩=some true:=by rfl) (hN:Nat.blt d N=true:=by rfl)
  (hx:ev l x=some (str s):=by rfl) (hy:ev l y=some (str u):=by rfl) (h:s.length+u.length≤9223372036854775807)  :
  WL P N ds ops Q (⟨some d,.binOp .add t x y t',ty,pos,af,g⟩::os) l w:=
 U6 rfl hw hN (fun c hc=>by
  have h1:¬((s.length+u.length:Nat):Int)>IntKind.i64.max:=by simp[IntKind.max,IntKind.bits,IntKind.signed];omega
  simp only[execOp,hc.ev hx,hc.ev hy,eqGuard,binOp,Op.stringOp,A2h,A8n,if_neg h1];simp) k
theorem P7 {a b:Int} (k:WL P N ds ops Q os ((d,.int .i64 (a+b))::l) w) (hw:U4 ops l ⟨some d,.binOp .add t x y t',ty,pos,af,g⟩=some true:=by rfl) (hN:Nat.blt d N=true:=by rfl)
  (hx:ev l x=some (.int .i64 a):=by rfl) (hy:ev l y=some (.int .i64 b):=by rfl) (h: -9223372036854775808≤a+b∧a+b≤9223372036854775807:=by omega)
   :WL P N ds ops Q (⟨some d,.binOp .add t x y t',ty,pos,af,g⟩::os) l w:=
 U6 rfl hw hN (fun c hc=>by simp[execOp,hc.ev hx,hc.ev hy,eqGuard,binOp,Op.intArith,IntWalk.i64_in _ h]) k
theorem A3i {a b:Int} (k:WL P N ds ops Q os ((d,.int .i64 (a-b))::l) w) (hw:U4 ops l ⟨some d,.binOp .sub t x y t',ty,pos,af,g⟩=some true:=by rfl) (hN:Nat.blt d N=true:=by rfl)
  (hx:ev l x=some (.int .i64 a):=by rfl) (hy:ev l y=some (.int .i64 b):=by rfl) (h: -9223372036854775808≤a-b∧a-b≤9223372036854775807:=by omega)
   :WL P N ds ops Q (⟨some d,.binOp .sub t x y t',ty,pos,af,g⟩::os) l w:=
 U6 rfl hw hN (fun c hc=>by simp[execOp,hc.ev hx,hc.ev hy,eqGuard,binOp,Op.intArith,IntWalk.i64_in _ h]) k
theorem Y9 {b:Bool} (k:WL P N ds ops Q os ((d,.bool (!b))::l) w) (hw:U4 ops l ⟨some d,.unOp .not t x,ty,pos,af,g⟩=some true:=by rfl) (hN:Nat.blt d N=true:=by rfl)
  (hx:ev l x=some (.bool b):=by rfl)  :WL P N ds ops Q (⟨some d,.unOp .not t x,ty,pos,af,g⟩::os) l w:=
 U6 rfl hw hN (fun c hc=>by simp[execOp,hc.ev hx,Op.unary]) k
theorem W9 {n:Nat}{vs:List Value}{v:Value} (k:WL P N ds ops Q os ((d,v)::l) w) (hw:U4 ops l ⟨some d,.extract x n,ty,pos,af,g⟩=some true:=by rfl) (hN:Nat.blt d N=true:=by rfl)
  (hx:ev l x=some (.tuple vs.toArray):=by rfl) (hv:vs[n]?=some v:=by rfl)  :WL P N ds ops Q (⟨some d,.extract x n,ty,pos,af,g⟩::os) l w:=
 U6 rfl hw hN (fun c hc=>by simp[execOp,hc.ev hx,Instr.extract,hv]) k
def evs (l:Log):List Operand→Option (List Value)
 | []=>some []
 |x::xs=>match ev l x,evs l xs with
  |some v,some vs=>some (v::vs)
  |_,_=>none
theorem Fits.evs {a:Act} (h:Fits N ds l a):∀ {xs:List Operand}{vs:List Value},evs l xs=some vs→xs.map a.eval=vs
 | [],vs,hv=>by simp[Fw.evs]at hv;simp[←hv]
 |x::xs,vs,hv=>by
  simp only[Fw.evs]at hv;split at hv
  ·rename_i v us h1 h2
   simp only[U3]at hv;rw[←hv,X8,h.ev h1,h.evs h2]
  ·cases hv
theorem B8h {f:FuncId}{args:Array Value}{Post:Value→World→Prop} (hw:U4 ops l o=some true)
  (hrun:∀a,Fits N ds l a→(execOp a.eval o).run P w=.ok (.enter f args) w) (hc:Cal P f args w Post)
  (k:∀v w',Post v w'→∀a,Fits N ds l a→wpList P ops Q os (a.put o.dst v) w'):WL P N ds ops Q (o::os) l w:=
 B45 hw fun a ha=>by
  unfold Oper.wp
  rw[hrun a ha,Oper.upon_enter];exact Calls.mono hc.run (fun e w' q=>by
   cases e with
   |returned v=>exact k v w' q a ha
   |panicked c=>exact q.elim
   |outgrown=>exact q.elim)
theorem A2m {f:FuncId} [Own P f] (args:Array Value):(callFunc f args).run P w=.ok (.enter f args) w:=by
 obtain⟨fn,h1,h2,h3⟩:=Own.out (P:=P) (f:=f);simp only[beq_eq_false_iff_ne]at h2;have h4:¬fn.body=none:=fun e=>by simp[e]at h3
 simp[callFunc,h1,h2,h4]
theorem A0k {f:FuncId} [Own P f] {xs:List Operand}{tys:Array TypeId}{vs:List Value}{Post:Value→World→Prop}
  (hw:U4 ops l ⟨some d,.call ⟨.value (.func f),xs.toArray,tys⟩,ty,pos,af,g⟩=some true:=by rfl) (hN:Nat.blt d N=true:=by rfl)
  (hx:evs l xs=some vs:=by rfl) (hc:Cal P f vs.toArray w Post) (k:∀v w',Post v w'→WL P N ds ops Q os ((d,v)::l) w'):
  WL P N ds ops Q (⟨some d,.call ⟨.value (.func f),xs.toArray,tys⟩,ty,pos,af,g⟩::os) l w:=
 B8h hw (fun a ha=>by
  have:=ha.evs hx;simp[execOp,resolve,invoke,Act.eval,Deferred.ofValue,this,A2m]) hc (fun v w' hp a ha=>(k v w' hp).run _ (ha.put hN v))
theorem A7s {c:Operand}{f:FuncId} [Own P f] {xs:List Operand}{tys:Array TypeId}{vs ca:List Value}{Post:Value→World→Prop}
  (hw:U4 ops l ⟨some d,.call ⟨.value c,xs.toArray,tys⟩,ty,pos,af,g⟩=some true:=by rfl) (hN:Nat.blt d N=true:=by rfl)
  (hf:ev l c=some (.func (.func f) #[] ca.toArray):=by rfl) (hx:evs l xs=some vs:=by rfl) (hc:Cal P f (vs++ca).toArray w Post) (k:∀v w',Post v w'→WL P N ds ops Q os ((d,v)::l) w'):
  WL P N ds ops Q (⟨some d,.call ⟨.value c,xs.toArray,tys⟩,ty,pos,af,g⟩::os) l w:=
 B8h hw (fun a ha=>by
  have:=ha.evs hx;simp[execOp,resolve,invoke,ha.ev hf,Deferred.ofValue,this,A2m]) hc (fun v w' hp a ha=>(k v w' hp).run _ (ha.put hN v))
theorem A1o {f:FuncId}{xs:List Operand}{vs:List Value} (k:WL P N ds ops Q os ((d,.func (.func f) #[] vs.toArray)::l) w) (hw:U4 ops l ⟨some d,.makeFunc (.func f) #[] xs.toArray,ty,pos,af,g⟩=some true:=by rfl) (hN:Nat.blt d N=true:=by rfl)
  (hx:evs l xs=some vs:=by rfl)  :
  WL P N ds ops Q (⟨some d,.makeFunc (.func f) #[] xs.toArray,ty,pos,af,g⟩::os) l w:=
 U6 rfl hw hN (fun a ha=>by
  have:=ha.evs hx;simp[execOp,Instr.makeFunc,this]) k
theorem C3H {v:Value} (hw:U4 ops l ⟨some d,.box t x,ty,pos,af,g⟩=some true:=by rfl) (hN:Nat.blt d N=true:=by rfl) (hx:ev l x=some v:=by rfl)
  (k:∀b w',b=w.heap.size→w'.heap[b]?=some (.cells v.cells t (0,0))→Kept [] w w'→WL P N ds ops Q os ((d,.pointer (some ⟨b,0,none⟩))::l) w'):
  WL P N ds ops Q (⟨some d,.box t x,ty,pos,af,g⟩::os) l w:=
 U6 (w':=w.alloc (.cells v.cells t (0,0))) rfl hw hN (fun a ha=>by
  simp[execOp,Instr.box,newVar,newRow,newObj,ha.ev hx];rfl) (k w.heap.size _ rfl (heap_alloc_new w _) (Kept.alloc w _))
theorem A2j {b off:Nat}{c:Array Value}{e:TypeId}{fr:Nat×Nat}{v:Value} (hb:w.heap[b]?=some (.cells c e fr)) (hc:c[off]?=some v):w.cell? ⟨b,off,none⟩=some v:=by
 simp[World.cell?,hb,hc]
theorem A36 {dd:TypeDesc} (h:P.underlying t=some dd):(isAgg t).run P w=.ok (A7L dd) w:=by
 have h3:=run_underlying (P:=P) (w:=w) h;simp only[isAgg];cases dd<;>simp[h3,A7L]
theorem A44 [TyOne P t] {b off:Nat}{c:Array Value}{e:TypeId}{fr:Nat×Nat}{v:Value} (hw:U4 ops l ⟨some d,.load t x,ty,pos,af,g⟩=some true:=by rfl) (hN:Nat.blt d N=true:=by rfl)
  (hx:ev l x=some (.pointer (some ⟨b,off,none⟩)):=by rfl) (hb:w.heap[b]?=some (.cells c e fr):=by assumption) (hc:c[off]?=some v:=by rfl)
  (k:WL P N ds ops Q os ((d,v)::l) w):WL P N ds ops Q (⟨some d,.load t x,ty,pos,af,g⟩::os) l w:=
 U6 rfl hw hN (fun a ha=>by
  obtain⟨dd,h1,h2⟩:=TyOne.out (P:=P) (t:=t);have h4:=A2j hb hc;simp[execOp,Instr.loadAt,Instr.sureAddr,loadVar,A36 h1,h2,ha.ev hx,load,Sem.run,h4]) k
end
class Fld (P:Program) (t:TypeId) (i:Nat) (off:outParam Nat):Prop where
 out:∃fs f inf,P.underlying t=some (.struct fs)∧fs[i]?=some f∧f.offset=off∧P.info? f.type=some inf∧inf.size≠0
def C6n (P:Program) (e:TypeId) (size bytes:Nat):Bool:=
 match P.info? e with
 |some i=>match i.zero with
  |some z=>i.size==size && i.bytes==bytes && z.cells.size==size && Nat.blt 0 size
  |none=>false
 |none=>false
theorem Elem.of {P:Program}{e:TypeId}{size bytes:Nat} (h:C6n P e size bytes=true:=by kernel_rfl):Elem P e size bytes:=by
 unfold C6n at h
 split at h
 ·rename_i i hi
  split at h
  ·rename_i z hz
   simp only[U9,beq_iff_eq,A1x]at h;exact⟨i,z,hi,hz,h.1.1.1,h.1.1.2,h.1.2,h.2⟩
  ·cases h
 ·cases h
def C8s (P:Program) (t:TypeId):Bool:=match P.underlying t with
 |some d=> !A7L d
 |none=>false
theorem TyOne.of {P:Program}{t:TypeId} (h:C8s P t=true:=by kernel_rfl):TyOne P t:=by
 unfold C8s at h
 split at h
 ·rename_i d hd;exact⟨d,hd,by simpa using h⟩
 ·cases h
def C79 (P:Program) (t:TypeId) (size:Nat):Bool:=match P.underlying t,P.info? t with
 |some d,some i=>A7L d && i.size==size
 |_,_=>false
theorem TyAgg.of {P:Program}{t:TypeId}{size:Nat} (h:C79 P t size=true:=by kernel_rfl):TyAgg P t size:=by
 unfold C79 at h
 split at h
 ·rename_i d i hd hi;simp only[U9,beq_iff_eq]at h;exact⟨d,i,hd,h.1,hi,h.2⟩
 ·cases h
def C8u (P:Program) (f:FuncId):Bool:=match P.funcs[f]? with
 | some fn => !(fn.name == "runtime.NumGoroutine") && !fn.body.isNone
 |none=>false
theorem Own.of {P:Program}{f:FuncId} (h:C8u P f=true:=by kernel_rfl):Own P f:=by
 unfold C8u at h
 split at h
 ·rename_i fn hf;simp only[U9,Bool.not_eq_true']at h;exact⟨fn,hf,h.1,h.2⟩
 ·cases h
def C8j (P:Program) (t:TypeId) (i off:Nat):Bool:=match P.underlying t with
 |some (.struct fs)=>match fs[i]? with
  |some f=>f.offset==off && (match P.info? f.type with|some inf=>inf.size !=0|none=>false)
  |none=>false
 |_=>false
theorem Fld.of {P:Program}{t:TypeId}{i off:Nat} (h:C8j P t i off=true:=by kernel_rfl):Fld P t i off:=by
 unfold C8j at h
 split at h
 ·rename_i fs hd
  split at h
  ·rename_i f hf
   simp only[U9,beq_iff_eq]at h;obtain⟨h1,h2⟩:=h;split at h2
   ·rename_i inf hi;exact⟨fs,f,inf,hd,hf,h1,hi,by simpa using h2⟩
   ·cases h2
  ·cases h
 ·cases h
class StructT (P:Program) (t:TypeId) (places:outParam (List (Nat×Nat))) (zero:outParam (List Value)):Prop where
 out:∃fs,P.underlying t=some (.struct fs)∧(fs.toList.mapM fun f=>(P.info? f.type).map fun i=>(f.offset,i.size))=some places∧
  (P.info? t).bind (·.zero)=some (.agg zero.toArray)
def C0r (P:Program) (t:TypeId):Option (List (Nat×Nat)):=match P.underlying t with
 |some (.struct fs)=>fs.toList.mapM fun f=>(P.info? f.type).map fun i=>(f.offset,i.size)
 |_=>none
theorem StructT.of {P:Program}{t:TypeId}{places:List (Nat×Nat)}{zero:List Value} (h:C0r P t=some places:=by kernel_rfl) (hz:(P.info? t).bind (·.zero)=some (.agg zero.toArray):=by kernel_rfl):
  StructT P t places zero:=by
 unfold C0r at h
 split at h
 ·rename_i fs hd;exact⟨fs,hd,h,hz⟩
 ·cases h
def bld (places:List (Nat×Nat)) (cs:List Value):List (Nat×Value)→Option (List Value)
 | []=>some cs
 |(i,v)::ps=>match places[i]? with
  |some (off,n)=>bif Nat.beq v.cells.toList.length n && Nat.ble (off+n) cs.length then bld places (cs.take off++(v.cells.toList++cs.drop (off+n))) ps else none
  |none=>none
section
variable {P:Program}{N:Nat}{ds:List Deferred}{Q:Exit→Act→World→Prop}{l l':Log}{w w':World}{ops:Array Oper}{os:List Oper}{o:Oper}
variable {d:Nat}{ty:TypeId}{pos:String}{af:Array Edge}{g:Option (Nat×Bool)}{t t':TypeId}{x y:Operand}
theorem Kept.setRow {b:Nat}{c:Array Value}{e:TypeId}{fr:Nat×Nat} (_hb:w.heap[b]?=some (.cells c e fr)) (c':Array Value):Kept [b] w (w.setRow b c'):=
 ⟨rfl,rfl,rfl,by simp,fun k _ hx=>setRow_other w b k c' (by simpa using hx)⟩
theorem A58 {b off n by_:Nat} [Elem P t n by_] {c:Array Value}{e:TypeId} (v:Value) (hb:w.heap[b]?=some (.cells c e (0,0))) (hn:v.cells.size=n) (ho:off+n≤c.size)
  (h1:v.cells.toList.all (·.oneCell')=true):
  (storeVar t ⟨b,off,none⟩ v).run P w=.ok () (w.setRow b (c.toList.take off++v.cells.toList++c.toList.drop (off+n)).toArray):=by
 obtain⟨i,z,hi,_,hs,_,_,_⟩:=Elem.out (P:=P) (e:=t);have h2:=run_storeCells_at P b off e v.cells.toList 0 c w hb (by simp[hn];omega) (fun u hu=>A2Q.1 h1 u hu);simp only[A1P,A5q,hn]at h2;simp[storeVar,sizeOf,typeInfo,hi,hs,hn,h2]
theorem B7x {b off n by_:Nat} [Elem P t n by_] {c:Array Value}{e:TypeId}{v:Value}{dst:Option Nat} (hd:dst=none) (hw:U4 ops l ⟨dst,.store t x y,ty,pos,af,g⟩=some true)
  (hx:ev l x=some (.pointer (some ⟨b,off,none⟩))) (hy:ev l y=some v) (hb:w.heap[b]?=some (.cells c e (0,0))) (hn:v.cells.size=n) (ho:off+n≤c.size)
  (h1:v.cells.toList.all (·.oneCell')=true)
  (k:∀w',w'.heap[b]?=some (.cells (c.toList.take off++v.cells.toList++c.toList.drop (off+n)).toArray e (0,0))→Kept [b] w w'→WL P N ds ops Q os l w'):
  WL P N ds ops Q (⟨dst,.store t x y,ty,pos,af,g⟩::os) l w:=
 B45 hw fun a ha=>by
  have h2:=A58 (P:=P) (t:=t) v hb hn ho h1;subst hd;simp only[Oper.wp,execOp,Instr.storeAt,Instr.sureAddr,ha.ev hx,ha.ev hy];simp only[Sem.run_bind,Sem.run_pure,Result.andThen,h2,Oper.upon_skip,Act.put];exact(k _ (setRow_heap w b c _ e (0,0) hb) (Kept.setRow hb _)).run _ ha
def A9S:Operand→Nat→Bool
 | .tmp t,d=> !(Nat.beq t d)
 |_,_=>true
theorem C2I {d:Nat}{v u:Value}{x:Operand} (h:A9S x d=true) (hx:ev l x=some v):ev ((d,u)::l) x=some v:=by
 cases x with
 |tmp t=>
  have:Nat.beq t d=false:=by simpa[A9S] using h
  simp only[ev,lk,this,cond_false];exact hx
 |const c=>exact hx
 |global c=>exact hx
 |func c=>exact hx
theorem C3K {n by_:Nat} [Elem P t n by_] {v:Value}{ty':TypeId}{pos':String}{af':Array Edge} (hN:Nat.blt d N=true:=by rfl)
  (hy:ev l y=some v:=by rfl) (hne:A9S y d=true:=by rfl) (hn:v.cells.size=n:=by rfl) (h1:v.cells.toList.all (·.oneCell')=true:=by rfl)
  (k:∀b w',b=w.heap.size→w'.heap[b]?=some (.cells v.cells t (0,0))→Kept [] w w'→WL P N ds ops Q os ((d,.pointer (some ⟨b,0,none⟩))::l) w'):
  WL P N ds ops Q (⟨some d,.alloc t,ty,pos,af,none⟩::⟨none,.store t (.tmp d) y,ty',pos',af',none⟩::os) l w:=by
 obtain⟨i,z,hi,hz,hs,_,hzc,_⟩:=Elem.out (P:=P) (e:=t);refine U6 (w':=w.alloc (.cells z.cells t (0,0))) (v:=.pointer (some ⟨w.heap.size,0,none⟩)) rfl rfl hN (fun a ha=>?_) ?_
 ·simp[execOp,Instr.alloc,newVar,newRow,newObj,zeroValue,typeInfo,hi,hz];rfl
 ·have hy':ev ((d,.pointer (some ⟨w.heap.size,0,none⟩))::l) y=some v:=C2I hne hy
  refine B7x (off:=0) rfl rfl (by simp[ev,lk]) hy' (heap_alloc_new w _) hn (by rw[hzc];omega) h1 (fun w' hb hk=>?_)
  refine k w.heap.size w' rfl ?_ ((Kept.alloc w _).step hk (fun x hx=> .inr (by simp at hx;omega)))
  have e1:List.drop (0+n) z.cells.toList= []:=by rw[V6, ←hzc];simp
  rw[hb,e1];simp
theorem C9 {i off:Nat} [Fld P t i off] {b o':Nat} (k:WL P N ds ops Q os ((d,.pointer (some ⟨b,o'+off,none⟩))::l) w) (hw:U4 ops l ⟨some d,.fieldAddr t x i,ty,pos,af,g⟩=some true:=by rfl) (hN:Nat.blt d N=true:=by rfl)
  (hx:ev l x=some (.pointer (some ⟨b,o',none⟩)):=by rfl)  :
  WL P N ds ops Q (⟨some d,.fieldAddr t x i,ty,pos,af,g⟩::os) l w:=
 U6 rfl hw hN (fun a ha=>by
  obtain⟨fs,f,inf,h1,h2,h3,h4,h5⟩:=Fld.out (P:=P) (t:=t) (i:=i);have h6:=run_underlying (P:=P) (w:=w) h1;simp[execOp,Instr.fieldAt,Instr.sureAddr,ha.ev hx,h6,h2,fieldPlace,sizeOf,typeInfo,h4,h5,h3,Addr.add_lit]) k
theorem A0L {e:TypeId}{sz by_:Nat} [TySlice P t e] [Elem P e sz by_] {b o' n cp:Nat}{i:Int} (hw:U4 ops l ⟨some d,.indexAddr t x y,ty,pos,af,g⟩=some true:=by rfl) (hN:Nat.blt d N=true:=by rfl)
  (hx:ev l x=some (.slice (some ⟨b,o',none⟩) n cp):=by rfl) (hy:ev l y=some (.int .i64 i):=by rfl) (h0:0≤i:=by omega) (h1:i<n:=by omega)
  (k:WL P N ds ops Q os ((d,.pointer (some ⟨b,o'+i.toNat *sz,none⟩))::l) w):
  WL P N ds ops Q (⟨some d,.indexAddr t x y,ty,pos,af,g⟩::os) l w:=
 U6 rfl hw hN (fun a ha=>by
  obtain⟨inf,z,hi,_,hs,_,_,_⟩:=Elem.out (P:=P) (e:=e);have h6:=run_underlying (P:=P) (w:=w) (TySlice.out (P:=P) (t:=t));simp[execOp,Instr.indexAt,asIntOf,ha.ev hx,ha.ev hy,h6,h0,h1,sizeOf,typeInfo,hi,hs,Addr.add_lit]) k
theorem B3q {n:Nat} [TyAgg P t n] {b off:Nat}{c:Array Value}{e:TypeId}{fr:Nat×Nat}{vs:List Value} (hw:U4 ops l ⟨some d,.load t x,ty,pos,af,g⟩=some true:=by rfl) (hN:Nat.blt d N=true:=by rfl)
  (hx:ev l x=some (.pointer (some ⟨b,off,none⟩)):=by rfl) (hb:w.heap[b]?=some (.cells c e fr)) (hl:vs.length=n:=by rfl) (hc:∀j v,vs[j]?=some v→c[off+j]?=some v)
  (k:WL P N ds ops Q os ((d,.agg vs.toArray)::l) w):WL P N ds ops Q (⟨some d,.load t x,ty,pos,af,g⟩::os) l w:=
 U6 rfl hw hN (fun a ha=>by
  obtain⟨dd,i,h1,h2,h3,h4⟩:=TyAgg.out (P:=P) (t:=t);have h5:=run_loadCells_list (P:=P) w ⟨b,off,none⟩ vs (fun j v hv=>by rw[Addr.add_lit];exact A2j hb (hc j v hv));rw[hl]at h5;simp[execOp,Instr.loadAt,Instr.sureAddr,loadVar,A36 h1,h2,ha.ev hx,sizeOf,typeInfo,h3,h4,h5]) k
def evp (l:Log):List (Nat×Operand)→Option (List (Nat×Value))
 | []=>some []
 |(i,x)::xs=>match ev l x,evp l xs with
  |some v,some vs=>some ((i,v)::vs)
  |_,_=>none
theorem Fits.evp {a:Act} (h:Fits N ds l a):∀ {xs:List (Nat×Operand)}{vs:List (Nat×Value)},evp l xs=some vs→xs.map (fun (i,x)=>(i,a.eval x))=vs
 | [],vs,hv=>by simp[Fw.evp]at hv;simp[←hv]
 |(i,x)::xs,vs,hv=>by
  simp only[Fw.evp]at hv;split at hv
  ·rename_i v us h1 h2
   simp only[U3]at hv;rw[←hv,X8,h.evp h2];simp only[h.ev h1]
  ·cases hv
theorem B0H (off:Nat):∀(us:List Value) (m:Nat) (cs:Array Value),∀j:Nat,
  ((us.zipIdx m).foldl (fun (cs:Array Value) (p:Value×Nat)=>cs.setIfInBounds (off+p.2) p.1) cs)[j]?=if off+m≤j∧j<off+m+us.length∧j<cs.size then us[j-(off+m)]? else cs[j]?
 | [],m,cs,j=>by
  rw[if_neg (by simp only[List.length_nil];omega)];rfl
 |v::us,m,cs,j=>by
  rw[List.zipIdx_cons,A1f,B0H off us (m+1)];simp only[Array.size_setIfInBounds,F8];by_cases h1:off+m=j
  ·subst h1
   rw[if_neg (by omega)];by_cases h2:off+m<cs.size
   ·rw[if_pos (by omega)];simp[h2]
   ·rw[if_neg (by omega)];simp[h2]
  ·rw[A5n h1]
   by_cases h2:off+(m+1)≤j∧j<off+(m+1)+us.length∧j<cs.size
   ·rw[if_pos h2,if_pos (by omega),show j-(off+m)=(j-(off+(m+1)))+1 by omega,A0E]
   ·rw[if_neg h2,if_neg (by omega)]
theorem B9x {P:Program}{w:World}{t:TypeId}{i:TypeInfo} (h:P.info? t=some i):(sizeOf t).run P w=.ok i.size w:=by simp[sizeOf,typeInfo,h]
theorem A6L {P:Program} (w:World):∀(fs:List Field) (places:List (Nat×Nat)),(fs.mapM fun f=>(P.info? f.type).map fun i=>(f.offset,i.size))=some places→
  (fs.mapM (m:=Sem) fun f=>do pure (f.offset, ←sizeOf f.type)).run P w=.ok places w
 | [],places,h=>by simp at h;simp[h]
 |f::fs,places,h=>by
  rw[List.mapM_cons]at h ⊢;cases hf:P.info? f.type with
  |none=>simp[hf]at h
  |some i=>
   cases hr:(fs.mapM fun f=>(P.info? f.type).map fun i=>(f.offset,i.size)) with
   |none=>simp[hf,hr]at h
   |some r=>
    have:=A6L w fs r hr;simp[hf,hr]at h
    have h2:=B9x (w:=w) hf;simp only[Sem.run_bind,h2,Result.andThen,Sem.run_pure,this, ←h]
theorem A8V (places:List (Nat×Nat)):∀(ps:List (Nat×Value)) (cs r:List Value),bld places cs ps=some r→Instr.fill (places.toArray[·]?) cs.toArray ps=some r.toArray
 | [],cs,r,h=>by simp[bld]at h;simp[Instr.fill,h]
 |(i,v)::ps,cs,r,h=>by
  simp only[bld]at h;split at h
  ·rename_i off n hp
   have hp':places.toArray[i]?=some (off,n):=by simpa using hp
   cases hc:(Nat.beq v.cells.toList.length n && Nat.ble (off+n) cs.length) with
   |false=>rw[hc]at h;cases h
   |true=>
    rw[hc]at h;simp only[cond_true]at h;simp only[U9,Nat.beq_eq,Nat.ble_eq,A5q]at hc;have ih:=A8V places ps _ _ h;rw[Instr.fill,hp'];simp only
    rw[if_neg (by simp[hc.1];omega)];rw[←ih]
    congr 1
    apply A6w
    intro j;rw[←Array.foldl_toList,Array.toList_zipIdx];rw[B0H];simp only[A2O,List.size_toArray,A5q,A1P,hc.1];by_cases h1:j<off
    ·rw[if_neg (by omega),A3r (by simp;omega)]
     simp[h1]
    ·by_cases h2:j<off+n
     ·rw[if_pos (by omega),A19 (by simp;omega),A3r (by simp;omega)]
      congr 1
      simp;omega
     ·rw[if_neg (by omega),A19 (by simp;omega),A19 (by simp;omega),A14]
      congr 1
      simp;omega
  ·cases h
theorem Q3 {places:List (Nat×Nat)}{zero:List Value} [StructT P t places zero] {ps:List (Nat×Operand)}{vs:List (Nat×Value)}{r:List Value}
  (k:WL P N ds ops Q os ((d,.agg r.toArray)::l) w) (hw:U4 ops l ⟨some d,.build t ps.toArray,ty,pos,af,g⟩=some true:=by rfl) (hN:Nat.blt d N=true:=by rfl)
  (hx:evp l ps=some vs:=by rfl) (hr:bld places zero vs=some r:=by rfl)  :
  WL P N ds ops Q (⟨some d,.build t ps.toArray,ty,pos,af,g⟩::os) l w:=
 U6 rfl hw hN (fun a ha=>by
  have e1:=ha.evp hx;obtain⟨fs,h1,h2,h3⟩:=StructT.out (P:=P) (t:=t);have h4:=run_underlying (P:=P) (w:=w) h1;have h5:=A6L (P:=P) w _ _ h2;have h6:=A8V places vs zero r hr;simp only[bind_pure_comp]at h5;simp only[A2O]at h6;cases hi:P.info? t with
  |none=>simp[hi]at h3
  |some i=>
   simp only[hi,A1m]at h3;simp[execOp,Instr.build,e1,zeroValue,typeInfo,hi,h3,h4,A7O,h5,Value.cells,h6]) k
theorem B61 {sz:Nat}{u:Value} (hu:u.cells.size=sz) (cs:Array Value) (hc:cs.size=sz):Instr.fill (fun i=>some (i *sz,sz)) cs [(0,u)]=some u.cells:=by
 simp only[Instr.fill,hu,A1n];rw[if_neg (by simp[hc])]
 congr 1
 apply A6w
 intro j;rw[←Array.foldl_toList,Array.toList_zipIdx,B0H];by_cases h:j<sz
 ·rw[if_pos (by simp[hu,hc,h])];simp
 ·rw[if_neg (by simp[hu,hc,h])]
  rw[Array.getElem?_eq_none (by omega),Array.getElem?_eq_none (by omega)]
theorem A6K {e:TypeId}{sz by_:Nat} [TySlice P t e] [he:Elem P e sz by_] {v:Value}{base n:Nat}{xs:List Value} (hown:w.ownsRow base e sz v n xs)
  (a:Addr) (m c:Nat) (news:List Value) (hl:news.length=m *sz) (hnews:∀j u,news[j]?=some u→w.cell? (a.add j)=some u) (h1:∀u∈news,u.oneCell'=true)
  (h63:n+m≤9223372036854775807) (hbytes:(n+m) *by_≤140737488355328) (hbase:base≤w.heap.size) (ty:TypeId):
  ∃v' w',(Builtin.append_ #[t,t] ty #[v,.slice (some a) m c]).run P w=.ok v' w'∧w'.ownsRow base e sz v' (n+m) (xs++news)∧Kept v.ownBlock.toList w w'∧
   (v'.ownBlock=v.ownBlock∨∃g,v'.ownBlock=some g∧w.heap.size≤g):=by
 obtain⟨i,z,hi,hz,hs,hby,hzc,hpos⟩:=he.out;have ht:=TySlice.out (P:=P) (t:=t);have hm63:n+m≤maxLen:=by unfold maxLen;exact h63
 rcases hown.2 with ⟨rfl,rfl⟩|⟨g,cap,cur,rfl,hbg,hg,hnc,hcm,hcs,htake⟩
 ·have hx:xs= []:=A00 (by simpa using hown.1)
  subst hx;obtain⟨v',w',hr,ho,hk,_⟩:=run_append_own (P:=P) w w.heap.size t ty e i z sz by_ ht hi hz hs hby hzc hpos (.slice none 0 0) 0 [] (World.ownsRow_nil w _ _ _) a m c news hl hnews h1 hm63 hbytes (G9 _);refine⟨v',w',hr,A32 ho hbase,Kept.of_grown hk,?_⟩
  cases hv:v'.ownBlock with
  |none=>exact .inl (by simp[Value.ownBlock])
  |some g=>exact .inr ⟨g,rfl,(ho.lt g hv).1⟩
 ·obtain⟨v',w',hr,ho,hk,_⟩:=run_append_own (P:=P) w base t ty e i z sz by_ ht hi hz hs hby hzc hpos _ n xs hown a m c news hl hnews h1 hm63 hbytes hbase
  refine⟨v',w',hr,ho,Kept.of_grown hk,?_⟩
  subst hs;subst hby;by_cases hroom:n+m≤cap
  ·have hfit:n *i.size+news.length≤cur.size:=by rw[hl,hcs, ←A1Q];exact A3Q _ hroom
   have hr2:=run_append_room (P:=P) w t ty e i ht hi g n cap cur hg a m c news hl hnews h1 hroom hfit;rw[hr]at hr2;injection hr2 with e1 _
   exact .inl (by rw[e1];rfl)
  ·have holds:∀j u,xs[j]?=some u→w.cell? ((⟨g,0,none⟩:Addr).add j)=some u:=hown.cells (g:=g) rfl
   have hr2:=run_append_grow (P:=P) w t ty e i z ht hi hz ⟨g,0,none⟩ n cap xs hown.1 holds a m c news hl hnews (by omega) (by omega) (growslice_fits (by omega) hbytes);rw[hr]at hr2;injection hr2 with e1 _
   exact .inr ⟨w.heap.size,by rw[e1];rfl,G9 _⟩
theorem A75 {e:TypeId}{sz by_:Nat} [TySlice P t e] [Elem P e sz by_] {d1:Nat}{s:Operand}{v u:Value}{base n:Nat}{xs:List Value}
  {ty':TypeId}{pos':String}{af':Array Edge} (hN1:Nat.blt d1 N=true:=by rfl) (hN:Nat.blt d N=true:=by rfl)
  (hs:ev l s=some v:=by rfl) (hne:A9S s d1=true:=by rfl) (hx:ev l x=some u:=by rfl) (hown:w.ownsRow base e sz v n xs) (hu:u.cells.size=sz:=by rfl) (h1:u.cells.toList.all (·.oneCell')=true:=by rfl)
  (hsz:sz≤1024:=by omega) (hlen:(n+1) *by_≤140737488355328:=by omega) (hl':n+1≤9223372036854775807:=by omega) (hbase:base≤w.heap.size)
  (k:∀v' w',w'.ownsRow base e sz v' (n+1) (xs++u.cells.toList)→Kept v.ownBlock.toList w w'→(v'.ownBlock=v.ownBlock∨∃g,v'.ownBlock=some g∧w.heap.size≤g)→
   WL P N ds ops Q os ((d,v')::(d1,.slice (some ⟨w.heap.size,0,none⟩) 1 1)::l) w'):
  WL P N ds ops Q (⟨some d1,.buildSlice t 1 #[(0,x)],ty,pos,af,none⟩::⟨some d,.call ⟨.builtin .append, #[s,.tmp d1], #[t,t]⟩,ty',pos',af',none⟩::os) l w:=by
 obtain⟨i,z,hi,hz,hs',hby,hzc,hpos⟩:=Elem.out (P:=P) (e:=e);have h6:=fun w=>run_underlying (P:=P) (w:=w) (TySlice.out (P:=P) (t:=t))
 have hs2:ev ((d1,.slice (some ⟨w.heap.size,0,none⟩) 1 1)::l) s=some v:=C2I hne hs;have hown2:(w.alloc (.cells u.cells e (0,0))).ownsRow base e sz v n xs:=hown.alloc _;obtain⟨v',w',hr,ho,hk,hb⟩:=A6K (P:=P) (t:=t) hown2 ⟨w.heap.size,0,none⟩ 1 1 u.cells.toList (by simp[hu]) (fun j r hj=>by
   rw[Addr.add_lit];exact A2j (heap_alloc_new w _) (by simpa using hj)) (fun r hr=>A2Q.1 h1 r hr) hl' hlen (by simp;omega) ty'
 refine U6 (w':=w.alloc (.cells u.cells e (0,0))) (v:=.slice (some ⟨w.heap.size,0,none⟩) 1 1) rfl rfl hN1 (fun a ha=>?_) ?_
 ·have hz0:¬(2 ^ 24<sz):=by omega
  have hz1:¬(sz=0):=by omega
  have hf:=B61 hu ((Array.range sz).map (z.cells[· % z.cells.size]!)) (by simp);simp[execOp,Instr.buildSlice,h6,sizeOf,typeInfo,hi,hs',zeroValue,hz,ha.ev hx,hz0,hz1,hf,newRow,newObj]
  rfl
 ·refine U6 (w':=w') (v:=v') rfl rfl hN (fun a ha=>?_) ?_
  ·have e1:=ha.ev hs2
   have e2:a.eval (.tmp d1)=.slice (some ⟨w.heap.size,0,none⟩) 1 1:=ha.ev (by simp[ev,lk]);simp[execOp,resolve,invoke,builtin,e1,e2,hr]
  ·have hk2:Kept v.ownBlock.toList w w':=((Kept.alloc w _).mono (fun _ h=>by cases h)).trans hk
   exact k v' w' ho hk2 (hb.imp_right fun ⟨g,h1,h2⟩=>⟨g,h1,by simp at h2;omega⟩)
end
end Go.Fw
