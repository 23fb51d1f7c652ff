/- Own work: texts FwM2, FwM3, one behind the other. -/
import Derived.Test.YtfjdfdgpkncpfaaGreatDoorQc3
set_option maxHeartbeats 64000000
namespace Go.Fw
open Go
structure CalR (P:Program) (f:FuncId) (args:Array Value) (I:U0) (H:List HItem) (v:Value):Prop where
 run:∀w,Inv I w->(∀h∈H,h.ok w)->Cal P f args w (fun u w'=>u=v/\Kept [] w w')
theorem CalM.of {P:Program}{f:FuncId}{args:Array Value}{I:U0}{H:List HItem}{Post:Value->U0->List HItem->Prop}
  (h:∀w E,Mem E I H w->Cal P f args w (fun v w'=> ∃I' H',Post v I' H'/\Mem E I' H' w')):CalM P f args I H Post:=⟨fun w hm=>h w _ hm⟩
def A7z (w:World):U0:=fun b=>w.heap[b]?
theorem A9M (w:World):Inv (A7z w) w:=fun _ _ h=>h
theorem B5Z {I:U0}{w:World} (h:Inv I w):Le I (A7z w):=fun b o hb=>h b o hb
theorem A5n {w:World}{b ty:Nat}{c:Array Value}{fr:Nat×Nat} (h:HItem.ok w (.obj b (.cells c ty fr))):PtrI (A7z w) b 0 ty c.toList:=
 ⟨c,(ty,fr),h,fun j u hj=>by rw[Y6];simpa using hj⟩
theorem A9N {w:World}{ty sz n:Nat}{v:Value}{xs:List Value} (h:HItem.ok w (.row v ty sz n xs)):RowI (A7z w) ty sz v n xs:=
 A6z h (fun _ _ _ h=>h)
theorem CalR.of {P:Program}{f:FuncId}{args:Array Value}{I:U0}{H:List HItem}{v:Value}
  (h:∀w J,Mem ⟨w,[],J⟩ J [] w->Le I J->(∀h∈H,h.ok w)->J=A7z w->Cal P f args w (fun u w'=>u=v/\Kept [] w w')):CalR P f args I H v:=
 ⟨fun w hI hH=>h w (A7z w) (Mem.start (A9M w)) (B5Z hI) hH rfl⟩
theorem CalR.le {P:Program}{f:FuncId}{args:Array Value}{I I':U0}{H:List HItem}{v:Value} (h:CalR P f args I H v) (hl:Le I I'):CalR P f args I' H v:=
 ⟨fun w hI=>h.run w (fun b o hb=>hI b o (hl b o hb))⟩
theorem B0Z {G:List HItem}:∀h∈([]:List HItem),h∈G:=fun _ h=>by cases h
section
variable {P:Program}{N:Nat}{ds:List Deferred}{Q:Exit->Act->World->Prop}{K:Act->World->Prop}{KV:Act->Prop}{X:List Nat}{l l':Log}{w w':World}{ops:Array Oper}{os:List Oper}{o:Oper}
variable {d:Nat}{ty:TypeId}{pos:String}{af:Array Edge}{g:Option (Nat×Bool)}{t t':TypeId}{x y:Operand}
variable {E:Ent}{I I':U0}{H H' G:List HItem}
theorem CalR.now {f:FuncId}{args:Array Value}{v:Value} (hc:CalR P f args I H v) (hm:Mem E I G w) (hs:∀h∈H,h∈G):Cal P f args w (fun u w'=>u=v/\Kept [] w w'):=
 hc.run w hm.inv (fun h hh=>hm.ok h (hs h hh))
theorem P9 {f:FuncId} [Own P f] {xs:List Operand}{tys:Array TypeId}{vs:List Value}{v:Value} (k:∀w',Mem E I G w'->WL P N ds ops Q os ((d,v)::l) w') (hm:Mem E I G w)
  (hw:O8 ops l ⟨some d,.call ⟨.value (.func f),xs.toArray,tys⟩,ty,pos,af,g⟩=some true:=by rfl) (hN:Nat.blt d N=true:=by rfl)
  (hx:evs l xs=some vs:=by rfl) (hs:∀h∈H,h∈G:=by first|exact B0Z|exact B3D|exact B3E|exact B3F|exact B3G|exact B3H|exact B3I|exact B3J|exact B3K|exact B3L) (hc:CalR P f vs.toArray I H v)
   :
  WL P N ds ops Q (⟨some d,.call ⟨.value (.func f),xs.toArray,tys⟩,ty,pos,af,g⟩::os) l w:=
 X6 hw hN hx (hc.now hm hs) (fun u w' ⟨h1,h2⟩=>by subst h1;exact k w' (hm.kept0 h2))
theorem Y0 {f:FuncId} [Own P f] {xs:List Operand}{tys:Array TypeId}{vs:List Value}{v:Value} (k:WQ P N ds ops w K os ((d,v)::l)) (hm:Mem E I G w)
  (hw:O8 ops l ⟨some d,.call ⟨.value (.func f),xs.toArray,tys⟩,ty,pos,af,g⟩=some true:=by rfl) (hN:Nat.blt d N=true:=by rfl)
  (hx:evs l xs=some vs:=by rfl) (hs:∀h∈H,h∈G:=by first|exact B0Z|exact B3D|exact B3E|exact B3F|exact B3G|exact B3H|exact B3I|exact B3J|exact B3K|exact B3L) (hc:CalR P f vs.toArray I H v)
   :
  WQ P N ds ops w K (⟨some d,.call ⟨.value (.func f),xs.toArray,tys⟩,ty,pos,af,g⟩::os) l:=
 B6N rfl hw hN (fun w' a ha=>by
  have:=ha.evs hx;simp[execOp,resolve,invoke,Act.eval,Deferred.ofValue,this,A2B]) (fun w' hk=>hc.now (hm.kept0 hk) hs) k
theorem J8 [TyOne P t] {i b off:Nat}{c:List Value}{e:TypeId}{fr:Nat×Nat}{v:Value} (k:WQ P N ds ops w K os ((d,v)::l)) (hm:Mem E I H w) (hw:O8 ops l ⟨some d,.load t x,ty,pos,af,g⟩=some true:=by rfl) (hN:Nat.blt d N=true:=by rfl)
  (hx:ev l x=some (.pointer (some ⟨b,off,none⟩)):=by rfl) (hb:H[i]?=some (.obj b (.cells c.toArray e fr)):=by first|exact gt0|exact gt1|exact gt2|exact gt3|exact gt4|exact gt5|exact gt6) (hc:c[off]?=some v:=by rfl)
   :WQ P N ds ops w K (⟨some d,.load t x,ty,pos,af,g⟩::os) l:=
 A1i hw hN hx (hm.get hb) (by simpa using hc) k
theorem U1 [TyOne P t] {b off j tc:Nat}{cs:List Value}{v:Value} (k:WQ P N ds ops w K os ((d,v)::l)) (hm:Mem E I H w) (hw:O8 ops l ⟨some d,.load t x,ty,pos,af,g⟩=some true:=by rfl) (hN:Nat.blt d N=true:=by rfl)
  (hx:ev l x=some (.pointer (some ⟨b,off+j,none⟩)):=by rfl) (hp:PtrI I b off tc cs:=by assumption) (hc:cs[j]?=some v:=by rfl)
   :WQ P N ds ops w K (⟨some d,.load t x,ty,pos,af,g⟩::os) l:=by
 obtain⟨c,fr,h1,h2⟩:=hp;exact A1i hw hN hx (hm.inv _ _ h1) (h2 j v hc) k
theorem B6a {n:Nat} [TyAgg P t n] {i b off:Nat}{c:Array Value}{e:TypeId}{fr:Nat×Nat}{vs:List Value} (hm:Mem E I H w) (hw:O8 ops l ⟨some d,.load t x,ty,pos,af,g⟩=some true) (hN:Nat.blt d N=true)
  (hx:ev l x=some (.pointer (some ⟨b,off,none⟩))) (hb:H[i]?=some (.obj b (.cells c e fr))) (hc:(c.toList.drop off).take n=vs) (hl:vs.length=n)
  (k:WQ P N ds ops w K os ((d,.agg vs.toArray)::l)):WQ P N ds ops w K (⟨some d,.load t x,ty,pos,af,g⟩::os) l:=
 B4h hw hN hx (hm.get hb) hl (fun j v hv=>by
  rw[<-hc,A1H]at hv;split at hv
  ·rw[A1f]at hv;simpa using hv
  ·cases hv) k
theorem A0A {n:Nat} [TyAgg P t n] {b off tc:Nat}{cs:List Value} (k:WQ P N ds ops w K os ((d,.agg cs.toArray)::l)) (hm:Mem E I H w) (hw:O8 ops l ⟨some d,.load t x,ty,pos,af,g⟩=some true:=by rfl) (hN:Nat.blt d N=true:=by rfl)
  (hx:ev l x=some (.pointer (some ⟨b,off,none⟩)):=by rfl) (hp:PtrI I b off tc cs:=by assumption) (hc:cs.length=n:=by rfl)
   :WQ P N ds ops w K (⟨some d,.load t x,ty,pos,af,g⟩::os) l:=by
 obtain⟨c,fr,h1,h2⟩:=hp;exact B4h hw hN hx (hm.inv _ _ h1) hc h2 k
theorem A5E {e:TypeId}{sz by_:Nat} [TySlice P t e] [Elem P e sz by_] {a:Option Addr}{n cp:Nat}{i:Int}{xs:List Value} (k:∀b off,PtrI I b off e ((xs.drop (i.toNat *sz)).take sz)->WQ P N ds ops w K os ((d,.pointer (some ⟨b,off,none⟩))::l)) (hw:O8 ops l ⟨some d,.indexAddr t x y,ty,pos,af,g⟩=some true:=by rfl) (hN:Nat.blt d N=true:=by rfl)
  (hx:ev l x=some (.slice a n cp):=by rfl) (hy:ev l y=some (.int .i64 i):=by rfl) (hr:RowI I e sz (.slice a n cp) n xs) (h0:0<=i:=by omega) (h1:i<n:=by omega)
   :
  WQ P N ds ops w K (⟨some d,.indexAddr t x y,ty,pos,af,g⟩::os) l:=by
 obtain⟨b,off,rfl,hp⟩:=hr.at_ i.toNat (by omega);exact A0e hw hN hx hy h0 h1 (k b _ hp)
theorem A0h {α:Type}{enc:α->List Value}{e:TypeId}{sz by_:Nat} [TySlice P t e] [Elem P e sz by_] {a:Option Addr}{n cp:Nat}{i:Int}{xs:List α}{z:α} (k:∀b off,PtrI I b off e (enc z)->WQ P N ds ops w K os ((d,.pointer (some ⟨b,off,none⟩))::l)) (hw:O8 ops l ⟨some d,.indexAddr t x y,ty,pos,af,g⟩=some true:=by rfl) (hN:Nat.blt d N=true:=by rfl)
  (hx:ev l x=some (.slice a n cp):=by rfl) (hy:ev l y=some (.int .i64 i):=by rfl) (hr:RowI I e sz (.slice a n cp) n (xs.flatMap enc)) (he:∀a,(enc a).length=sz) (h0:0<=i:=by omega) (h1:i<n:=by omega) (hz:xs[i.toNat]?=some z)
   :
  WQ P N ds ops w K (⟨some d,.indexAddr t x y,ty,pos,af,g⟩::os) l:=by
 obtain⟨b,off,rfl,hp⟩:=hr.flat he hz (by omega);exact A0e hw hN hx hy h0 h1 (k b _ hp)
end
theorem B3D {R:List HItem}{a:HItem}:∀h∈ [a],h∈a::R:=by simp
theorem B3E {R:List HItem}{a x:HItem}:∀h∈ [a],h∈x::a::R:=by simp
theorem B3F {R:List HItem}{a x y:HItem}:∀h∈ [a],h∈x::y::a::R:=by simp
theorem B3G {R:List HItem}{a x y z:HItem}:∀h∈ [a],h∈x::y::z::a::R:=by simp
theorem B3H {R:List HItem}{a b:HItem}:∀h∈ [a,b],h∈a::b::R:=by simp
theorem B3I {R:List HItem}{a b x:HItem}:∀h∈ [a,b],h∈x::a::b::R:=by simp
theorem B3J {R:List HItem}{a b x y:HItem}:∀h∈ [a,b],h∈x::y::a::b::R:=by simp
theorem B3K {R:List HItem}{a b x y z:HItem}:∀h∈ [a,b],h∈x::y::z::a::b::R:=by simp
theorem B3L {R:List HItem}{a b x y z u:HItem}:∀h∈ [a,b],h∈x::y::z::u::a::b::R:=by simp
theorem pm2_4 {R:List HItem}{a b x y z u:HItem}:(x::y::z::u::a::b::R).Perm ([a,b]++(x::y::z::u::R)):=by
 simpa using (A1o (l₁:= [x,y,z,u]) (l₂:= [a,b])).append_right R
theorem pm0 {H:List HItem}:H.Perm ([]++H):=.refl _
theorem pm1_0 {R:List HItem}{a:HItem}:(a::R).Perm ([a]++R):=.refl _
theorem pm1_1 {R:List HItem}{a x:HItem}:(x::a::R).Perm ([a]++(x::R)):=.swap _ _ _
theorem pm1_2 {R:List HItem}{a x y:HItem}:(x::y::a::R).Perm ([a]++(x::y::R)):=((List.Perm.swap a y R).cons x).trans (.swap _ _ _)
theorem pm1_3 {R:List HItem}{a x y z:HItem}:(x::y::z::a::R).Perm ([a]++(x::y::z::R)):=(pm1_2.cons x).trans (.swap _ _ _)
theorem pm2_0 {R:List HItem}{a b:HItem}:(a::b::R).Perm ([a,b]++R):=.refl _
theorem pm2_1 {R:List HItem}{a b x:HItem}:(x::a::b::R).Perm ([a,b]++(x::R)):=(List.Perm.swap a x _).trans ((List.Perm.swap b x R).cons a)
theorem pm2_2 {R:List HItem}{a b x y:HItem}:(x::y::a::b::R).Perm ([a,b]++(x::y::R)):=(pm2_1.cons x).trans pm2_1
theorem pm2_3 {R:List HItem}{a b x y z:HItem}:(x::y::z::a::b::R).Perm ([a,b]++(x::y::z::R)):=(pm2_2.cons x).trans pm2_1
theorem pm3_0 {R:List HItem}{a b c:HItem}:(a::b::c::R).Perm ([a,b,c]++R):=.refl _
theorem pm3_1 {R:List HItem}{a b c x:HItem}:(x::a::b::c::R).Perm ([a,b,c]++(x::R)):=by
 simpa using (A1o (l₁:= [x]) (l₂:= [a,b,c])).append_right R
theorem pm3_2 {R:List HItem}{a b c x y:HItem}:(x::y::a::b::c::R).Perm ([a,b,c]++(x::y::R)):=by
 simpa using (A1o (l₁:= [x,y]) (l₂:= [a,b,c])).append_right R
theorem gt0 {α:Type}{a:α}{l:List α}:(a::l)[0]?=some a:=rfl
theorem gt1 {α:Type}{a b:α}{l:List α}:(a::b::l)[1]?=some b:=rfl
theorem gt2 {α:Type}{a b c:α}{l:List α}:(a::b::c::l)[2]?=some c:=rfl
theorem gt3 {α:Type}{a b c d:α}{l:List α}:(a::b::c::d::l)[3]?=some d:=rfl
theorem gt4 {α:Type}{a b c d e:α}{l:List α}:(a::b::c::d::e::l)[4]?=some e:=rfl
theorem A67 {α:Type}:∀(H:List α) (k:Nat) (x:α),H[k]?=some x->H.Perm (x::H.eraseIdx k)
 | [],_,_,h=>by simp at h
 |a::H,0,x,h=>by
  simp only[A0S,U5]at h;subst h;exact .refl _
 |a::H,k+1,x,h=>((A67 H k x (by simpa using h)).cons a).trans (.swap _ _ _)
theorem Mem.front {E:Ent}{I:U0}{H:List HItem}{w:World} (hm:Mem E I H w) (k:Nat) {x:HItem} (h:H[k]?=some x):Mem E I (x::H.eraseIdx k) w:=by
 exact hm.perm (A67 H k x h)
section
variable {P:Program}{N:Nat}{ds:List Deferred}{Q:Exit->Act->World->Prop}{K:Act->World->Prop}{l l':Log}{w w':World}{ops:Array Oper}{os:List Oper}{o:Oper}
variable {d:Nat}{ty:TypeId}{pos:String}{af:Array Edge}{g:Option (Nat×Bool)}{t t':TypeId}{x y z:Operand}
variable {E:Ent}{I I':U0}{H H' R:List HItem}
theorem B4k {c:List Value}{off:Nat}{v:Value} (h:Nat.blt off c.length=true):c.take off++([v]++c.drop (off+1))=c.set off v:=by
 have h':off<c.length:=by simpa[A1x] using h
 rw[List.set_eq_take_append_cons_drop,if_pos h'];rfl
theorem J6 {i b off by_:Nat} [Elem P t 1 by_] {c:List Value}{e:TypeId}{v:Value}{dst:Option Nat} (hm:Mem E I H w) (hd:dst=none:=by rfl) (hw:O8 ops l ⟨dst,.store t x y,ty,pos,af,g⟩=some true:=by rfl)
  (hx:ev l x=some (.pointer (some ⟨b,off,none⟩)):=by rfl) (hy:ev l y=some v:=by rfl) (hb:H[i]?=some (.obj b (.cells c.toArray e (0,0))):=by first|exact gt0|exact gt1|exact gt2|exact gt3|exact gt4|exact gt5|exact gt6) (hn:v.cells.toList= [v]:=by rfl) (ho:Nat.blt off c.length=true:=by rfl)
  (h1:v.oneCell'=true:=by rfl)
  (k:∀w',Mem E I (H.set i (.obj b (.cells (c.set off v).toArray e (0,0)))) w'->WL P N ds ops Q os l w'):
  WL P N ds ops Q (⟨dst,.store t x y,ty,pos,af,g⟩::os) l w:=by
 refine B0z (n:=1) hm hd hw hx hy hb (by rw[hn];rfl) ?_ (by rw[hn];simp[h1]) (fun w' hm'=>?_)
 ·have:off<c.length:=by simpa[A1x] using ho
  simp;omega
 ·rw[hn,B4k ho]at hm'
  exact k w' hm'
theorem O4 {i b n by_:Nat} [Elem P t n by_] {c vs:List Value}{e:TypeId}{dst:Option Nat} (k:∀w',Mem E I (H.set i (.obj b (.cells vs.toArray e (0,0)))) w'->WL P N ds ops Q os l w') (hm:Mem E I H w) (hd:dst=none:=by rfl) (hw:O8 ops l ⟨dst,.store t x y,ty,pos,af,g⟩=some true:=by rfl)
  (hx:ev l x=some (.pointer (some ⟨b,0,none⟩)):=by rfl) (hy:ev l y=some (.agg vs.toArray):=by rfl) (hb:H[i]?=some (.obj b (.cells c.toArray e (0,0))):=by first|exact gt0|exact gt1|exact gt2|exact gt3|exact gt4|exact gt5|exact gt6) (hn:vs.length=n:=by rfl) (ho:c.length=n:=by rfl)
  (h1:vs.all (·.oneCell')=true:=by rfl)
   :
  WL P N ds ops Q (⟨dst,.store t x y,ty,pos,af,g⟩::os) l w:=by
 refine B0z (n:=n) hm hd hw hx hy hb (by simpa[Value.cells] using hn) (by simp[ho]) (by simpa[Value.cells] using h1) (fun w' hm'=>k w' ?_)
 have e1:c.drop (0+n)= []:=by rw[Y6, <-ho];simp
 rw[e1]at hm';simpa[Value.cells] using hm'
theorem A1y {i b off n by_:Nat} [Elem P t n by_] {c vs:List Value}{e:TypeId}{dst:Option Nat} (k:∀w',Mem E I (H.set i (.obj b (.cells (c.take off++(vs++c.drop (off+n))).toArray e (0,0)))) w'->WL P N ds ops Q os l w') (hm:Mem E I H w) (hd:dst=none:=by rfl) (hw:O8 ops l ⟨dst,.store t x y,ty,pos,af,g⟩=some true:=by rfl)
  (hx:ev l x=some (.pointer (some ⟨b,off,none⟩)):=by rfl) (hy:ev l y=some (.agg vs.toArray):=by rfl) (hb:H[i]?=some (.obj b (.cells c.toArray e (0,0))):=by first|exact gt0|exact gt1|exact gt2|exact gt3|exact gt4|exact gt5|exact gt6) (hn:vs.length=n:=by rfl) (ho:Nat.ble (off+n) c.length=true:=by rfl)
  (h1:vs.all (·.oneCell')=true:=by rfl)
   :
  WL P N ds ops Q (⟨dst,.store t x y,ty,pos,af,g⟩::os) l w:=by
 refine B0z (n:=n) hm hd hw hx hy hb (by simpa[Value.cells] using hn) ho (by simpa[Value.cells] using h1) (fun w' hm'=>k w' ?_)
 simpa[Value.cells] using hm'
theorem O1 {n:Nat} [TyAgg P t n] {i b:Nat}{c:List Value}{e:TypeId}{fr:Nat×Nat} (k:WL P N ds ops Q os ((d,.agg c.toArray)::l) w) (hm:Mem E I H w) (hw:O8 ops l ⟨some d,.load t x,ty,pos,af,g⟩=some true:=by rfl) (hN:Nat.blt d N=true:=by rfl)
  (hx:ev l x=some (.pointer (some ⟨b,0,none⟩)):=by rfl) (hb:H[i]?=some (.obj b (.cells c.toArray e fr)):=by first|exact gt0|exact gt1|exact gt2|exact gt3|exact gt4|exact gt5|exact gt6) (hl:c.length=n:=by rfl)
   :WL P N ds ops Q (⟨some d,.load t x,ty,pos,af,g⟩::os) l w:=
 B0y (vs:=c) hm hw hN hx hb (by rw[<-hl];simp) hl k
theorem A0x {n:Nat} [TyAgg P t n] {i b:Nat}{c:List Value}{e:TypeId}{fr:Nat×Nat} (k:WQ P N ds ops w K os ((d,.agg c.toArray)::l)) (hm:Mem E I H w) (hw:O8 ops l ⟨some d,.load t x,ty,pos,af,g⟩=some true:=by rfl) (hN:Nat.blt d N=true:=by rfl)
  (hx:ev l x=some (.pointer (some ⟨b,0,none⟩)):=by rfl) (hb:H[i]?=some (.obj b (.cells c.toArray e fr)):=by first|exact gt0|exact gt1|exact gt2|exact gt3|exact gt4|exact gt5|exact gt6) (hl:c.length=n:=by rfl)
   :WQ P N ds ops w K (⟨some d,.load t x,ty,pos,af,g⟩::os) l:=
 B6a (vs:=c) hm hw hN hx hb (by rw[<-hl];simp) hl k
theorem V6 {pl:List (Nat×Nat)}{z:List Value} [hS:StructT P t pl z] {n by_:Nat} [Elem P t n by_] (k:∀b w',Mem E I (.obj b (.cells z.toArray t (0,0))::H) w'->WL P N ds ops Q os ((d,.pointer (some ⟨b,0,none⟩))::l) w') (hm:Mem E I H w) (hw:O8 ops l ⟨some d,.alloc t,ty,pos,af,g⟩=some true:=by rfl) (hN:Nat.blt d N=true:=by rfl)
   :
  WL P N ds ops Q (⟨some d,.alloc t,ty,pos,af,g⟩::os) l w:=by
 obtain⟨_,_,_,h3⟩:=hS.out;exact B7a hm hw hN h3 k
theorem A0z {v:Value}{vs:List Value} (k:∀b w',Mem E I (.obj b (.cells vs.toArray t (0,0))::H) w'->WL P N ds ops Q os ((d,.pointer (some ⟨b,0,none⟩))::l) w') (hm:Mem E I H w) (hw:O8 ops l ⟨some d,.box t x,ty,pos,af,g⟩=some true:=by rfl) (hN:Nat.blt d N=true:=by rfl) (hx:ev l x=some v:=by rfl) (hv:v.cells=vs.toArray:=by rfl)
   :
  WL P N ds ops Q (⟨some d,.box t x,ty,pos,af,g⟩::os) l w:=
 B6i hw hN hx (fun b w' hb hh hk=>k b w' (hm.add hk (by rw[<-hv];exact hh) (fun b' hb'=>by simp only[HItem.blk,U5]at hb';omega)))
theorem A0j {n by_:Nat} [Elem P t n by_] {vs:List Value}{ty':TypeId}{pos':String}{af':Array Edge} (k:∀b w',Mem E I (.obj b (.cells vs.toArray t (0,0))::H) w'->WL P N ds ops Q os ((d,.pointer (some ⟨b,0,none⟩))::l) w') (hm:Mem E I H w) (hN:Nat.blt d N=true:=by rfl)
  (hy:ev l y=some (.agg vs.toArray):=by rfl) (hne:A7C y d=true:=by rfl) (hn:vs.length=n:=by rfl) (h1:vs.all (·.oneCell')=true:=by rfl)
   :
  WL P N ds ops Q (⟨some d,.alloc t,ty,pos,af,none⟩::⟨none,.store t (.tmp d) y,ty',pos',af',none⟩::os) l w:=
 B84 hm hN hy hne (by simpa[Value.cells] using hn) (by simpa[Value.cells] using h1) (fun b w' hm'=>k b w' (by simpa[Value.cells] using hm'))
theorem A3A {e:TypeId}{sz by_:Nat} [TySlice P t e] [Elem P e sz by_] {d1 i:Nat}{s:Operand}{v u:Value}{n:Nat}{xs us:List Value}
  {ty':TypeId}{pos':String}{af':Array Edge} (k:∀a cp b1 w',Mem E I (H.set i (.row (.slice a (n+1) cp) e sz (n+1) (xs++us))) w'->WL P N ds ops Q os ((d,.slice a (n+1) cp)::(d1,.slice (some ⟨b1,0,none⟩) 1 1)::l) w') (hm:Mem E I H w) (hN1:Nat.blt d1 N=true:=by rfl) (hN:Nat.blt d N=true:=by rfl)
  (hs:ev l s=some v:=by rfl) (hne:A7C s d1=true:=by rfl) (hx:ev l x=some u:=by rfl) (hi:H[i]?=some (.row v e sz n xs):=by first|exact gt0|exact gt1|exact gt2|exact gt3|exact gt4|exact gt5|exact gt6) (hus:u.cells.toList=us:=by rfl) (hu:us.length=sz:=by rfl) (h1:us.all (·.oneCell')=true:=by rfl)
  (hsz:Nat.ble sz 1024=true:=by rfl) (hlen:(n+1) *by_<=140737488355328:=by omega) (h63:n+1<=9223372036854775807:=by omega)
   :
  WL P N ds ops Q (⟨some d1,.buildSlice t 1 #[(0,x)],ty,pos,af,none⟩::⟨some d,.call ⟨.builtin .append, #[s,.tmp d1], #[t,t]⟩,ty',pos',af',none⟩::os) l w:=by
 subst hus;refine B4X hm hN1 hN hs hne hx hi hu h1 hsz hlen h63 (fun v' b1 w' hm'=>?_)
 have hlt:i<H.length:=(Z8.1 hi).1;obtain⟨a,cp,rfl⟩:=A4r (hm'.getRow (i:=i) (by rw[A2w];simp[hlt];exact⟨rfl,rfl,rfl,rfl,rfl⟩));exact k a cp b1 w' hm'
theorem A0H [TyOne P t] {b off tc:Nat}{cs:List Value}{v:Value} (k:WL P N ds ops Q os ((d,v)::l) w) (hm:Mem E I H w) (hw:O8 ops l ⟨some d,.load t x,ty,pos,af,g⟩=some true:=by rfl) (hN:Nat.blt d N=true:=by rfl)
  (hx:ev l x=some (.pointer (some ⟨b,off,none⟩)):=by rfl) (hp:PtrI I b off tc cs:=by assumption) (hc:cs[0]?=some v:=by rfl)
   :WL P N ds ops Q (⟨some d,.load t x,ty,pos,af,g⟩::os) l w:=by
 obtain⟨c,fr,h1,h2⟩:=hp;exact A0q hw hN hx (hm.inv _ _ h1) (h2 0 v hc) k
theorem A0N [TyOne P t] {b off tc:Nat}{cs:List Value}{v:Value} (k:WQ P N ds ops w K os ((d,v)::l)) (hm:Mem E I H w) (hw:O8 ops l ⟨some d,.load t x,ty,pos,af,g⟩=some true:=by rfl) (hN:Nat.blt d N=true:=by rfl)
  (hx:ev l x=some (.pointer (some ⟨b,off,none⟩)):=by rfl) (hp:PtrI I b off tc cs:=by assumption) (hc:cs[0]?=some v:=by rfl)
   :WQ P N ds ops w K (⟨some d,.load t x,ty,pos,af,g⟩::os) l:=by
 obtain⟨c,fr,h1,h2⟩:=hp;exact A1i hw hN hx (hm.inv _ _ h1) (h2 0 v hc) k
theorem gt5 {α:Type}{a b c d e f:α}{l:List α}:(a::b::c::d::e::f::l)[5]?=some f:=rfl
theorem gt6 {α:Type}{a b c d e f g:α}{l:List α}:(a::b::c::d::e::f::g::l)[6]?=some g:=rfl
theorem V3 {fn:Func}{i tr n b:Nat}{tc:TypeId} [TyAgg P tc n] {c:List Value}{e:TypeId}{fr:Nat×Nat}{Post:Value->World->Prop} (h:Post (.agg c.toArray) w) (hm:Mem E I H w) (hr:fn.results= #[.cell tr tc]:=by rfl)
  (hx:lk l tr=some (.pointer (some ⟨b,0,none⟩)):=by rfl) (hb:H[i]?=some (.obj b (.cells c.toArray e fr)):=by first|exact gt0|exact gt1|exact gt2|exact gt3|exact gt4|exact gt5|exact gt6) (hl:c.length=n:=by rfl)
   :At N [] (bodyPost P fn (Ret Post)) .ret l w:=
 B2K hr hx (hm.get hb) hl (fun j v hv=>by simpa using hv) h
theorem A0k {fn:Func}{i tr u n b:Nat}{tc:TypeId} [TyAgg P tc n] {c:List Value}{e:TypeId}{fr:Nat×Nat}{xv:Value}{Post:Value->World->Prop} (h:Post (.tuple #[.agg c.toArray,xv]) w) (hm:Mem E I H w) (hr:fn.results= #[.cell tr tc,.tmp u]:=by rfl)
  (hx:lk l tr=some (.pointer (some ⟨b,0,none⟩)):=by rfl) (hu:lk l u=some xv:=by rfl) (hb:H[i]?=some (.obj b (.cells c.toArray e fr)):=by first|exact gt0|exact gt1|exact gt2|exact gt3|exact gt4|exact gt5|exact gt6) (hl:c.length=n:=by rfl)
   :At N [] (bodyPost P fn (Ret Post)) .ret l w:=
 B1n hr hx hu (hm.get hb) hl (fun j v hv=>by simpa using hv) h
end
end Go.Fw
