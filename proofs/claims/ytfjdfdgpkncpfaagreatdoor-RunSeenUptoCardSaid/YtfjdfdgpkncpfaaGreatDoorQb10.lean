/- Own work: texts RunA, SpecRun2, RunB, SpecSort, SpecEff, one behind the other. -/
import Derived.Test.YtfjdfdgpkncpfaaGreatDoorQb9
set_option maxHeartbeats 64000000
section
namespace Go.Fw
open Go
section
variable {P:Program}{N:Nat}{ds:List Deferred}{Q:Exit→Act→World→Prop}{l:Log}{w:World}{ops:Array Oper}{os:List Oper}
variable {d:Nat}{ty:TypeId}{pos:String}{af:Array Edge}{g:Option (Nat×Bool)}{t t':TypeId}{x y:Operand}
theorem A66 (n:Int):IntKind.i64.wrap n=Sp.w64 n:=by rw[IntKind.wrap_i64];rfl
theorem B8J {a b:Int} (hw:P7 ops l ⟨some d,.binOp .add t x y t',ty,pos,af,g⟩=some true) (hN:Nat.blt d N=true)
  (hx:ev l x=some (.int .i64 a)) (hy:ev l y=some (.int .i64 b))
  (k:WL P N ds ops Q os ((d,.int .i64 (Sp.w64 (a+b)))::l) w):WL P N ds ops Q (⟨some d,.binOp .add t x y t',ty,pos,af,g⟩::os) l w:=
 O9 rfl hw hN (fun c hc=>by simp[execOp,hc.ev hx,hc.ev hy,eqGuard,binOp,Op.intArith,A66]) k
theorem B8L {a b:Int} (hw:P7 ops l ⟨some d,.binOp .sub t x y t',ty,pos,af,g⟩=some true) (hN:Nat.blt d N=true)
  (hx:ev l x=some (.int .i64 a)) (hy:ev l y=some (.int .i64 b))
  (k:WL P N ds ops Q os ((d,.int .i64 (Sp.w64 (a-b)))::l) w):WL P N ds ops Q (⟨some d,.binOp .sub t x y t',ty,pos,af,g⟩::os) l w:=
 O9 rfl hw hN (fun c hc=>by simp[execOp,hc.ev hx,hc.ev hy,eqGuard,binOp,Op.intArith,A66]) k
theorem B8K {a b:Int} (hw:P7 ops l ⟨some d,.binOp .mul t x y t',ty,pos,af,g⟩=some true) (hN:Nat.blt d N=true)
  (hx:ev l x=some (.int .i64 a)) (hy:ev l y=some (.int .i64 b))
  (k:WL P N ds ops Q os ((d,.int .i64 (Sp.w64 (a *b)))::l) w):WL P N ds ops Q (⟨some d,.binOp .mul t x y t',ty,pos,af,g⟩::os) l w:=
 O9 rfl hw hN (fun c hc=>by simp[execOp,hc.ev hx,hc.ev hy,eqGuard,binOp,Op.intArith,A66]) k
end
end Go.Fw
namespace Go.Sp
theorem B1b (m:MR):m.step.ev=m.ev:=by
 rw[MR.step]
 split
 ·rfl
 ·split<;>rfl
theorem A5t {n:List UInt8}:∀ {l:List Cl},(∀(j:Nat) (y:Cl),l[j]?=some y→y.name≠n)→A1S l n=none
 | [],_=>rfl
 |a::l,h=>by
  rw[A1S,A5t (l:=l) (fun j y hy=>h (j+1) y (by rw[List.getElem?_cons_succ];exact hy))]
  dsimp only
  rw[if_neg (h 0 a rfl)]
theorem A9V {n:List UInt8}:∀ {l:List Cl}{i:Nat}{x:Cl},l[i]?=some x→x.name=n→(∀(j:Nat) (y:Cl),i<j→l[j]?=some y→y.name≠n)→A1S l n=some i
 | [],_,_,h,_,_=>by simp at h
 |a::l,0,x,h,hn,hno=>by
  simp only[List.getElem?_cons_zero,Option.some.injEq] at h
  subst h
  rw[A1S,A5t (fun j y hy=>hno (j+1) y (by omega) (by rw[List.getElem?_cons_succ];exact hy))]
  dsimp only
  rw[if_pos hn]
 |a::l,i+1,x,h,hn,hno=>by
  rw[List.getElem?_cons_succ] at h
  rw[A1S,A9V h hn (fun j y hj hy=>hno (j+1) y (by omega) (by rw[List.getElem?_cons_succ];exact hy))]
end Go.Sp
namespace Go.Proofs.YtfjdfdgpkncpfaaGreatDoor
open Go.Proofs.Tryz
open Go.Fw
abbrev A0Q (e:Sp.Ev):List Value:= [str e.ch,.int .i64 e.n]
abbrev A5p (c:Sp.Cl):List Value:= [str c.name,.int .i64 c.n]
theorem A8P:∀ {sc:List Sp.Cl}{i:Nat}{p:Sp.Cl},sc[i]?=some p→(sc.flatMap A5p)[i *2]?=some (str p.name)∧(sc.flatMap A5p)[i *2+1]?=some (.int .i64 p.n)
 | [],i,p,h=>by simp at h
 |a::sc,0,p,h=>by
  simp only[List.getElem?_cons_zero,Option.some.injEq] at h
  subst h
  exact⟨rfl,rfl⟩
 |a::sc,i+1,p,h=>by
  rw[List.getElem?_cons_succ] at h
  obtain⟨h1,h2⟩:=A8P h
  rw[show (i+1) *2=i *2+2 by omega]
  exact⟨h1,h2⟩
theorem A9S:∀ {sc:List Sp.Cl}{i:Nat}{p:Sp.Cl} (v:Int),sc[i]?=some p→(sc.flatMap A5p).set (i *2+1) (.int .i64 v)=(sc.set i ⟨p.name,v⟩).flatMap A5p
 | [],i,p,v,h=>by simp at h
 |a::sc,0,p,v,h=>by
  simp only[List.getElem?_cons_zero,Option.some.injEq] at h
  subst h;rfl
 |a::sc,i+1,p,v,h=>by
  rw[List.getElem?_cons_succ] at h
  have:=A9S v h
  rw[show (i+1) *2+1=(i *2+1)+2 by omega,List.set_cons_succ,List.flatMap_cons,List.flatMap_cons, ←this];rfl
theorem B5d (sc:List Sp.Cl):(sc.flatMap A5p).length=sc.length *2:=by
 induction sc with
 |nil=>rfl
 |cons a sc ih=>
  rw[List.flatMap_cons,List.length_append,ih]
  show 2+sc.length *2=(sc.length+1) *2
  omega
abbrev A87 (bm bf:Nat) (m:Sp.MR) (ea:Option Addr) (ep deep:Nat):HItem:=.cell bm [ptr bf,.slice ea m.ev.length ep,nt m.steps,nt deep,nt m.err] 98
abbrev A35 (m:Sp.MR) (ea:Option Addr) (ep:Nat):HItem:=.row (.slice ea m.ev.length ep) 35 2 m.ev.length (m.ev.flatMap A0Q)
abbrev A5Y (br bm:Nat) (sc:List Sp.Cl) (sa:Option Addr) (sp:Nat) (back:Int):HItem:=.cell br [ptr bm,.slice sa sc.length sp,.int .i64 back] 149
abbrev A53 (sc:List Sp.Cl) (sa:Option Addr) (sp:Nat):HItem:=.row (.slice sa sc.length sp) 151 2 sc.length (sc.flatMap A5p)
theorem B3L {bm bf:Nat}{m:Sp.MR}{ea:Option Addr}{ep deep:Nat} (hs:m.steps≤3000) (I:O5):
  CalM prog 119 #[ptr bm] I [A87 bm bf m ea ep deep] (fun v _ H'=>v=.bool m.go∧H'= [A87 bm bf m.step ea ep deep]):=by
 refine CalM.of fun w E hm=>enter (N:=23) func119 rfl [(0,ptr bm)] Z4 rfl ?_
 by_cases h1:m.err=0
 ·by_cases h2:m.steps=3000
  ·have hg:m.go=false:=by rw[Sp.MR.go,decide_eq_true h1,decide_eq_false (by omega)];rfl
   have hst:m.step= { m with err:=11}:=by rw[Sp.MR.step,if_neg (by omega),if_neg (by omega)]
   rw[hg,hst]
   repeat' (first|refine H6 ?_ hm|(refine J6 hm (k:=?_);clear hm;intro _ hm;try simp only[F7] at hm)|refine D7 ?_|refine D5 ?_|refine L8 ?_|refine X9 ?_|refine E8 ?_|refine C9 ?_|refine D8 ?_|refine A7 ?_|refine G5 ?_|refine E5 ?_|refine A8 ?_|refine F8 ?_|refine G8 ?_|refine H5 ?_|(refine D6 (ht:=fun _=>?_) (hf:=fun _=>?_)<;>(try first|contradiction|(exfalso;omega))))
   all_goals try first|omega|contradiction
   exact⟨I,_,⟨rfl,rfl⟩,hm⟩
  ·have hg:m.go=true:=by rw[Sp.MR.go,decide_eq_true h1,decide_eq_true (by omega)];rfl
   have hst:m.step= { m with steps:=m.steps+1}:=by rw[Sp.MR.step,if_neg (by omega),if_pos (by omega)]
   rw[hg,hst]
   repeat' (first|refine H6 ?_ hm|(refine J6 hm (k:=?_);clear hm;intro _ hm;try simp only[F7] at hm)|refine D7 ?_|refine D5 ?_|refine L8 ?_|refine X9 ?_|refine E8 ?_|refine Q4 ?_|refine C9 ?_|refine D8 ?_|refine A7 ?_|refine E5 ?_|refine A8 ?_|refine F8 ?_|refine G8 ?_|refine H5 ?_|(refine D6 (ht:=fun _=>?_) (hf:=fun _=>?_)<;>(try first|contradiction|(exfalso;omega))))
   all_goals try first|omega|contradiction
   exact⟨I,_,⟨rfl,rfl⟩,hm⟩
 ·have hg:m.go=false:=by rw[Sp.MR.go,decide_eq_false h1];rfl
  have hst:m.step=m:=by rw[Sp.MR.step,if_pos h1]
  rw[hg,hst]
  repeat' (first|refine H6 ?_ hm|refine D7 ?_|refine D5 ?_|refine X9 ?_|refine E8 ?_|refine C9 ?_|refine D8 ?_|refine A7 ?_|refine G5 ?_|refine E5 ?_|refine A8 ?_|refine G8 ?_|refine H5 ?_|(refine D6 (ht:=fun _=>?_) (hf:=fun _=>?_)<;>(try first|contradiction|(exfalso;omega))))
  all_goals try first|omega|contradiction
  exact⟨I,_,⟨rfl,rfl⟩,hm⟩
theorem B9B {br bm:Nat}{sc:List Sp.Cl}{sa:Option Addr}{sp:Nat}{back:Int} (nm:List UInt8) (I:O5) (hl:sc.length≤1000000000):
  CalM prog 121 #[ptr br,str nm] I [A5Y br bm sc sa sp back,A53 sc sa sp] (fun v _ H'=>
   (∃i p b,sc[i]?=some p∧Sp.A1S sc nm=some i∧sa=some ⟨b,0,none⟩∧v=.pointer (some ⟨b,i *2,none⟩)∧H'= [A5Y br bm sc sa sp back,A53 sc sa sp])∨
   (Sp.A1S sc nm=none∧∃bl,v=ptr bl∧H'= [.cell bl [str [],.int .i64 0] 151,A5Y br bm sc sa sp back,A53 sc sa sp])):=by
 refine CalM.of fun w E hm=>enter (N:=34) func121 rfl [(0,ptr br),(1,str nm)] A0B rfl ?_
 repeat' (first|refine H6 ?_ hm|refine D7 ?_|refine D5 ?_|refine G7 ?_|refine E8 ?_|refine A3M ?_|refine C9 ?_|refine D8 ?_|refine A7 ?_|refine E5 ?_|refine A8 ?_|refine E9 ?_)
 refine U4 (fun x:Nat=> [(0,ptr br),(1,str nm),(5,.int .i64 ((x:Int)-1))])
  (fun x w'=>Mem E I [A5Y br bm sc sa sp back,A53 sc sa sp] w'∧x≤sc.length∧∀m y,x≤m→sc[m]?=some y→y.name≠nm) (fun x=>x) sc.length (by exact⟨rfl,rfl,rfl,trivial⟩)
  ⟨hm,Nat.le_refl _,fun m y hm hy=>by rw[List.getElem?_eq_none hm] at hy;cases hy⟩ ?_
 clear hm
 rintro x w1 ⟨hm,hx,hno⟩
 try dsimp only at hm hx hno ⊢
 cases x with
 |zero=>
  repeat' (first|(refine A0t (d:=33) ?_ hm;clear hm;intro b33 _ hm)|refine D7 ?_|refine D5 ?_|refine A0i ?_|refine Q9 ?_|refine D8 ?_|refine A7 ?_|refine G9 ?_|refine G6 ?_|refine E5 ?_|refine A8 ?_|refine O4 ?_|refine G8 ?_|refine H5 ?_|refine F6 ?_)
  all_goals try omega
  exact⟨I,_,.inr ⟨Sp.A5t (fun j y hy=>hno j y (Nat.zero_le _) hy),b33,rfl,rfl⟩,hm⟩
 |succ i=>
  have hg:sc[i]?=some sc[i]:=List.getElem?_eq_getElem hx
  generalize sc[i]=p at hg
  rw[show ((i+1:Nat):Int)-1=(i:Int) by omega]
  obtain⟨b,rfl⟩:=(hm.front 1 gt1).rowAddr (by omega)
  obtain⟨q1,q2⟩:=A8P hg
  by_cases hn:p.name=nm
  ·skip
   repeat' (first|(refine A1j (i:=1) (d:=23) hm (by rfl) (by rfl) (by rfl) gt1 (by rw[Nat.zero_add,Nat.add_zero];exact q1) ?_)|refine H6 ?_ hm|refine D7 ?_|refine D5 ?_|refine A0i ?_|refine U0 ?_|refine E8 ?_|refine C9 ?_|refine Z8 (k:=?_)|refine D8 ?_|refine A7 ?_|refine G5 ?_|refine O8 ?_|refine E5 ?_|refine A8 ?_|refine E9 ?_|refine F8 ?_|refine G8 ?_|refine H5 ?_|refine F9 ?_|(refine D6 (ht:=fun _=>?_) (hf:=fun _=>?_)<;>(try first|contradiction|(exfalso;omega))))
   all_goals try first|omega|contradiction
   exact⟨I,_,.inl ⟨i,p,b,hg,Sp.A9V hg hn (fun j y hj hy=>hno j y (by omega) hy),rfl,by rw[Nat.zero_add,Int.toNat_natCast],rfl⟩,hm⟩
  ·skip
   repeat' (first|(refine A1j (i:=1) (d:=23) hm (by rfl) (by rfl) (by rfl) gt1 (by rw[Nat.zero_add,Nat.add_zero];exact q1) ?_)|refine H6 ?_ hm|refine D7 ?_|refine D5 ?_|refine A0i ?_|refine U0 ?_|refine E8 ?_|refine A3M ?_|refine C9 ?_|refine Z8 (k:=?_)|refine D8 ?_|refine A7 ?_|refine D9 ?_|refine E5 ?_|refine A8 ?_|refine E9 ?_|refine F8 ?_|refine F9 ?_|(refine D6 (ht:=fun _=>?_) (hf:=fun _=>?_)<;>(try first|contradiction|(exfalso;omega))))
   all_goals try first|omega|contradiction
   refine J9 (i:Nat) (by exact⟨rfl,rfl,rfl,trivial⟩) ⟨hm,by omega,fun m y hm hy=>?_⟩ (by omega)
   rcases Nat.lt_or_ge i m with h|h
   ·exact hno m y h hy
   ·obtain rfl:m=i:=by omega
    rw[hg] at hy
    obtain rfl:=Option.some.inj hy
    exact hn
theorem C1v (nm:List UInt8) (a b:Int) (I:O5):CalM prog 150 #[str nm,.int .i64 a,.int .i64 b] I [] (fun v _ H'=>v=.int .i64 (Sp.opR nm a b)∧H'= []):=by
 refine CalM.of fun w E hm=>enter (N:=33) func150 rfl [(0,str nm),(1,.int .i64 a),(2,.int .i64 b)] A3h rfl ?_
 rw[Sp.opR]
 by_cases h1:nm= [43]
 ·rw[if_pos h1]
  repeat' (first|(refine B8J (by rfl) (by rfl) (by rfl) (by rfl) ?_)|refine D7 ?_|refine D5 ?_|refine U0 ?_|refine D8 ?_|refine A7 ?_|refine G5 ?_|refine O8 ?_|refine E5 ?_|refine A8 ?_|refine E9 ?_|refine G8 ?_|refine H5 ?_|(refine D6 (ht:=fun _=>?_) (hf:=fun _=>?_)<;>(try first|contradiction|(exfalso;omega))))
  all_goals try first|omega|contradiction
  exact⟨I,_,⟨rfl,rfl⟩,hm⟩
 rw[if_neg h1]
 by_cases h2:nm= [45]
 ·rw[if_pos h2]
  repeat' (first|(refine B8L (by rfl) (by rfl) (by rfl) (by rfl) ?_)|refine D7 ?_|refine D5 ?_|refine U0 ?_|refine D8 ?_|refine A7 ?_|refine G5 ?_|refine O8 ?_|refine E5 ?_|refine A8 ?_|refine E9 ?_|refine G8 ?_|refine H5 ?_|(refine D6 (ht:=fun _=>?_) (hf:=fun _=>?_)<;>(try first|contradiction|(exfalso;omega))))
  all_goals try first|omega|contradiction
  exact⟨I,_,⟨rfl,rfl⟩,hm⟩
 rw[if_neg h2]
 by_cases h3:nm= [42]
 ·rw[if_pos h3]
  repeat' (first|(refine B8K (by rfl) (by rfl) (by rfl) (by rfl) ?_)|refine D7 ?_|refine D5 ?_|refine U0 ?_|refine D8 ?_|refine A7 ?_|refine G5 ?_|refine O8 ?_|refine E5 ?_|refine A8 ?_|refine E9 ?_|refine G8 ?_|refine H5 ?_|(refine D6 (ht:=fun _=>?_) (hf:=fun _=>?_)<;>(try first|contradiction|(exfalso;omega))))
  all_goals try first|omega|contradiction
  exact⟨I,_,⟨rfl,rfl⟩,hm⟩
 rw[if_neg h3]
 by_cases h4:nm= [60]
 ·rw[if_pos h4]
  by_cases h5:a<b
  ·rw[if_pos h5]
   repeat' (first|refine D7 ?_|refine D5 ?_|refine J5 ?_|refine U0 ?_|refine D8 ?_|refine A7 ?_|refine G5 ?_|refine D9 ?_|refine E5 ?_|refine A8 ?_|refine E9 ?_|refine G8 ?_|refine H5 ?_|(refine D6 (ht:=fun _=>?_) (hf:=fun _=>?_)<;>(try first|contradiction|(exfalso;omega))))
   all_goals try first|omega|contradiction
   exact⟨I,_,⟨rfl,rfl⟩,hm⟩
  ·rw[if_neg h5]
   repeat' (first|refine D7 ?_|refine D5 ?_|refine J5 ?_|refine U0 ?_|refine D8 ?_|refine A7 ?_|refine D9 ?_|refine E5 ?_|refine A8 ?_|refine E9 ?_|refine F8 ?_|refine G8 ?_|refine H5 ?_|(refine D6 (ht:=fun _=>?_) (hf:=fun _=>?_)<;>(try first|contradiction|(exfalso;omega))))
   all_goals try first|omega|contradiction
   exact⟨I,_,⟨rfl,rfl⟩,hm⟩
 rw[if_neg h4]
 by_cases h5:a=b
 ·rw[if_pos h5]
  repeat' (first|refine D7 ?_|refine D5 ?_|refine L8 ?_|refine U0 ?_|refine D8 ?_|refine A7 ?_|refine G5 ?_|refine D9 ?_|refine E5 ?_|refine A8 ?_|refine E9 ?_|refine G8 ?_|refine H5 ?_|(refine D6 (ht:=fun _=>?_) (hf:=fun _=>?_)<;>(try first|contradiction|(exfalso;omega))))
  all_goals try first|omega|contradiction
  exact⟨I,_,⟨rfl,rfl⟩,hm⟩
 ·rw[if_neg h5]
  repeat' (first|refine D7 ?_|refine D5 ?_|refine L8 ?_|refine U0 ?_|refine D8 ?_|refine A7 ?_|refine D9 ?_|refine E5 ?_|refine A8 ?_|refine E9 ?_|refine F8 ?_|refine G8 ?_|refine H5 ?_|(refine D6 (ht:=fun _=>?_) (hf:=fun _=>?_)<;>(try first|contradiction|(exfalso;omega))))
  all_goals try first|omega|contradiction
  exact⟨I,_,⟨rfl,rfl⟩,hm⟩
end Go.Proofs.YtfjdfdgpkncpfaaGreatDoor
end
section
namespace Go.Sp
structure MR.To (m m':MR):Prop where
 top:m'.steps≤3000
 up:m.steps≤m'.steps
 ev:m.steps+m'.ev.length≤m'.steps+m.ev.length
theorem MR.To.refl {m:MR} (h:m.steps≤3000):m.To m:=⟨h,Nat.le_refl _,Nat.le_refl _⟩
theorem MR.To.trans {a b c:MR} (h:a.To b) (g:b.To c):a.To c:=⟨g.top,Nat.le_trans h.up g.up,by have:=h.ev;have:=g.ev;omega⟩
theorem A5T {m:MR} (h:m.steps≤3000):m.To m.step:=by
 rw[MR.step]
 split
 ·exact .refl h
 ·split
  ·exact⟨by dsimp only;omega,by dsimp only;omega,by dsimp only;omega⟩
  ·exact⟨h,Nat.le_refl _,Nat.le_refl _⟩
theorem A8s {m:MR} (h:m.go=true):m.step= { m with steps:=m.steps+1}∧m.err=0∧m.steps<3000:=by
 simp only[MR.go,Bool.and_eq_true,decide_eq_true_eq] at h
 rw[MR.step,if_neg (by omega),if_pos h.2]
 exact⟨rfl,h⟩
def A3u (C:A0X):Prop:= ∀(nm:List UInt8) (args:List Int) (m:MR),m.steps≤3000→m.To (C nm args m).2
section
variable {C:A0X}
theorem B6I (C:A0X) (sc:List Cl) (e:Ex) (m:MR):exR C sc e m=if m.go=false then (0,m.step) else if e.kind=1 then ((e.n:Int),m.step) else if e.kind=2 then (B15 sc e.name,m.step) else
  if e.kind=3 then (opR e.name ((A0e C sc e.args m.step).1.getD 0 0) ((A0e C sc e.args m.step).1.getD 1 0),(A0e C sc e.args m.step).2) else C e.name (A0e C sc e.args m.step).1 (A0e C sc e.args m.step).2:=by
 cases e;rw[exR];rfl
mutual
theorem A7k (hC:A3u C) (sc:List Cl):∀(e:Ex) (m:MR),m.steps≤3000→m.To (exR C sc e m).2
 | .mk k nm n args f t,m,h=>by
  have h1:=A5T h
  have h2:=A8l hC sc args m.step h1.top
  rw[exR]
  split
  ·exact h1
  ·split
   ·exact h1
   ·split
    ·exact h1
    ·split
     ·exact h1.trans h2
     ·exact(h1.trans h2).trans (hC _ _ _ h2.top)
theorem A8l (hC:A3u C) (sc:List Cl):∀(l:List Ex) (m:MR),m.steps≤3000→m.To (A0e C sc l m).2
 | [],m,h=>by rw[A0e];exact .refl h
 |e::l,m,h=>by
  rw[A0e]
  have h1:=A7k hC sc e m h
  exact h1.trans (A8l hC sc l _ h1.top)
 end
theorem B1T (sc:List Cl):∀(l r:List Ex) (m:MR),A0e C sc (l++r) m=((A0e C sc l m).1++(A0e C sc r (A0e C sc l m).2).1,(A0e C sc r (A0e C sc l m).2).2)
 | [],r,m=>by rw[List.nil_append,A0e];rfl
 |e::l,r,m=>by rw[List.cons_append,A0e,A0e,B1T sc l r];rfl
theorem B5h (sc:List Cl) {l:List Ex}{k:Nat}{e:Ex} (h:l[k]?=some e) (m:MR):
  A0e C sc (l.take (k+1)) m=((A0e C sc (l.take k) m).1++ [(exR C sc e (A0e C sc (l.take k) m).2).1],(exR C sc e (A0e C sc (l.take k) m).2).2):=by
 rw[P9 h,B1T,A0e,A0e]
theorem A2x (sc:List Cl):∀(l:List Ex) (m:MR),(A0e C sc l m).1.length=l.length
 | [],m=>by rw[A0e];rfl
 |e::l,m=>by rw[A0e,List.length_cons,A2x sc l,List.length_cons]
theorem B6L {sc:List Cl}{l:List Ex}{e1 e2:Ex} (h:l.length=2) (h1:l[0]?=some e1) (h2:l[1]?=some e2) (m:MR):
  A0e C sc l m=([(exR C sc e1 m).1,(exR C sc e2 (exR C sc e1 m).2).1],(exR C sc e2 (exR C sc e1 m).2).2):=by
 match l,h,h1,h2 with
 | [a,b],_,h1,h2=>
  obtain rfl:=Option.some.inj h1
  obtain rfl:=Option.some.inj h2
  rw[A0e,A0e,A0e]
structure SR.To (c:Nat) (s s':SR):Prop where
 m:s.m.To s'.m
 lo:s.sc.length≤s'.sc.length
 hi:s'.sc.length≤s.sc.length+c
theorem SR.To.mono {c c':Nat}{s s':SR} (h:SR.To c s s') (hc:c≤c'):SR.To c' s s':=⟨h.m,h.lo,by have:=h.hi;omega⟩
theorem SR.To.same {s:SR}{m:MR} (h:s.m.To m) (c:Nat):SR.To c s { s with m:=m}:=⟨h,Nat.le_refl _,by dsimp only;omega⟩
def B4d (c:Nat) (b:SR→SR):Prop:= ∀s,s.m.steps≤3000→SR.To c s (b s)∧((b s).m.err=0→(b s).sc.length=s.sc.length)
theorem B2d {c:Nat}{f:List Cl→MR→Int×MR}{b:SR→SR} (hf:∀(sc:List Cl) (m:MR),m.steps≤3000→m.To (f sc m).2) (hb:B4d c b):∀(k:Nat) (s:SR),s.m.steps≤3000→SR.To c s (A0F f b k s)
 |0,s,h=>by rw[A0F];exact⟨.refl h,Nat.le_refl _,by omega⟩
 |k+1,s,h=>by
  rw[A0F]
  have h1:=A5T h
  have h2:=hf s.sc s.m.step h1.top
  split
  ·exact .same h1 c
  ·split
   ·have h3:=hb { s with m:=(f s.sc s.m.step).2} h2.top
    have h4:=B2d hf hb k _ h3.1.m.top
    by_cases he:(b { s with m:=(f s.sc s.m.step).2}).m.err=0
    ·have h5:=h3.2 he
     refine⟨((h1.trans h2).trans h3.1.m).trans h4.m,?_,?_⟩
     ·have:=h4.lo;dsimp only at h5;omega
     ·have:=h4.hi;dsimp only at h5;omega
    ·have key:∀k (s:SR),s.m.err≠0→A0F f b k s=s:=by
      intro k s hs
      cases k with
      |zero=>rw[A0F]
      |succ k=>
       rw[A0F,if_pos (by rw[MR.go,decide_eq_false hs];rfl),MR.step,if_pos hs]
     rw[key _ _ he]
     exact⟨(h1.trans h2).trans h3.1.m,h3.1.lo,h3.1.hi⟩
   ·exact .same (h1.trans h2) c
theorem A9l (sc:List Cl) (n:List UInt8) (v:Int):(A7J sc n v).length=sc.length:=by
 rw[A7J]
 split
 ·rw[List.length_set]
 ·rfl
theorem A9m {c:Nat}{s:SR}{r:SR×Bool} (h:SR.To c s r.1) (he:r.2=false→r.1.m.err≠0):SR.To c s (A04 s.sc.length r)∧((A04 s.sc.length r).m.err=0→(A04 s.sc.length r).sc.length=s.sc.length):=by
 rw[A04]
 have:=h.lo
 have:=h.hi
 split
 ·have hl:(r.1.sc.take s.sc.length).length=s.sc.length:=by rw[List.length_take];omega
  exact⟨⟨h.m,by dsimp only;omega,by dsimp only;omega⟩,fun _=>hl⟩
 ·rename_i hr
  exact⟨h,fun h0=>absurd h0 (he (by simpa using hr))⟩
mutual
theorem B4Y (hC:A3u C):∀(x:Stm) (s:SR),s.m.steps≤3000→SR.To x.cnt s (A3S C x s)
 | .mk k nm a lb o e thn els f t,s,h=>by
  have h1:=A5T h
  have h2:=A7k hC s.sc e s.m.step h1.top
  have h3:=h1.trans h2
  have hT:B4d (N7 thn) (fun s=>A04 s.sc.length (goR C thn s)):=fun s h=>A9m (A6f hC thn s h).1 (A6f hC thn s h).2
  have hE:B4d (N7 els) (fun s=>A04 s.sc.length (goR C els s)):=fun s h=>A9m (A6f hC els s h).1 (A6f hC els s h).2
  rw[A3S,Stm.cnt]
  split
  ·exact(B2d (fun sc m h=>A7k hC sc e m h) hT 3001 s h).mono (by omega)
  ·split
   ·exact .same h1 _
   ·split
    ·exact .same h3 _
    ·split
     ·exact⟨h3,by dsimp only;rw[List.length_append];omega,by dsimp only;rw[List.length_append,List.length_singleton];omega⟩
     ·split
      ·exact⟨h3,by dsimp only;rw[A9l];omega,by dsimp only;rw[A9l];omega⟩
      ·rename_i hg _ _ _
       have hg:=A8s (by simpa using hg)
       split
       ·refine⟨⟨h3.top,h3.up,?_⟩,Nat.le_refl _,by dsimp only;omega⟩
        dsimp only
        rw[List.length_append,List.length_singleton]
        have:=h2.ev
        rw[hg.1] at this ⊢
        dsimp only at this ⊢
        omega
       ·split
        ·exact⟨h3,Nat.le_refl _,by dsimp only;omega⟩
        ·split
         ·split
          ·have:=(hT { s with m:=(exR C s.sc e s.m.step).2} h3.top).1
           exact⟨h3.trans this.m,this.lo,by have:=this.hi;dsimp only at this ⊢;omega⟩
          ·have:=(hE { s with m:=(exR C s.sc e s.m.step).2} h3.top).1
           exact⟨h3.trans this.m,this.lo,by have:=this.hi;dsimp only at this ⊢;omega⟩
         ·exact .same h3 _
theorem A6f (hC:A3u C):∀(l:List Stm) (s:SR),s.m.steps≤3000→SR.To (N7 l) s (goR C l s).1∧((goR C l s).2=false→(goR C l s).1.m.err≠0)
 | [],s,h=>by rw[goR];exact⟨⟨.refl h,Nat.le_refl _,by dsimp only;omega⟩,fun h=>(by cases h)⟩
 |x::l,s,h=>by
  rw[goR,N7]
  split
  ·rename_i he
   exact⟨⟨.refl h,Nat.le_refl _,by dsimp only;omega⟩,fun _=>he⟩
  ·have h1:=B4Y hC x s h
   obtain⟨h2,h3⟩:=A6f hC l _ h1.m.top
   exact⟨⟨h1.m.trans h2.m,by have:=h1.lo;have:=h2.lo;omega,by have:=h1.hi;have:=h2.hi;omega⟩,h3⟩
 end
theorem B0t (hC:A3u C) (l:List Stm) (s:SR) (h:s.m.steps≤3000):SR.To (N7 l) s (A30 C l s)∧((A30 C l s).m.err=0→(A30 C l s).sc.length=s.sc.length):=
 A9m (A6f hC l s h).1 (A6f hC l s h).2
end
theorem A4o (its:List Itm):∀d,A3u (A0v its d)
 |0=>fun nm args m h=>by
  rw[A0v]
  split
  ·exact .refl h
  ·exact⟨h,Nat.le_refl _,Nat.le_refl _⟩
 |d+1=>fun nm args m h=>by
  rw[A0v]
  split
  ·exact .refl h
  ·split
   ·exact .refl h
   ·exact(B0t (A4o its d) _ ⟨_,0,m⟩ h).1.m
def okE (its:List Itm):PE:=fun k nm _ na _ _=>k=1∨k=2∨(k=3∧na=2)∨(k=4∧∃j,Q8 its 2 nm=some j∧(N9 its j).params.length=na)
end Go.Sp
end
section
namespace Go.Proofs.YtfjdfdgpkncpfaaGreatDoor
open Go.Proofs.Tryz
open Go.Fw
theorem _root_.Go.Fw.pmR4 {a b c d:HItem}{R:List HItem}:(a::b::c::d::R).Perm ([a,b,c,d]++R):=.refl _
theorem _root_.Go.Fw.pmR41 {x a b c d:HItem}{R:List HItem}:(x::a::b::c::d::R).Perm ([a,b,c,d]++(x::R)):=
 (List.Perm.swap a x _).trans (((List.Perm.swap b x _).trans (((List.Perm.swap c x _).trans ((List.Perm.swap d x R).cons c)).cons b)).cons a)
theorem _root_.Go.Fw.pmRL {x:HItem}{A:List HItem}:(A++ [x]).Perm (x::A):=List.perm_append_comm
abbrev RSt (br bm bf:Nat) (sc:List Sp.Cl) (back:Int) (m:Sp.MR) (sa:Option Addr) (sp:Nat) (va:Option Addr) (vp deep:Nat):List HItem:=
 [A5Y br bm sc sa sp back,A53 sc sa sp,A87 bm bf m va vp deep,A35 m va vp]
abbrev A6K (l:List Int):List Value:=l.map (fun n=> .int .i64 n)
def B1p (I:O5) (its:List Sp.Itm) (C:Sp.A0X) (bm bf deep:Nat):Prop:=
 ∀(J:O5) (nm:List UInt8) (args:List Int) (m:Sp.MR) (va:Option Addr) (vp:Nat) (aa:Option Addr) (ac:Nat),Le I J→(∃j,Sp.Q8 its 2 nm=some j∧(Sp.N9 its j).params.length=args.length)→
  RowI J 3 1 (.slice aa args.length ac) args.length (A6K args)→m.steps≤3000→m.ev.length≤m.steps→
  CalM prog 42 #[ptr bm,str nm,.slice aa args.length ac] J [A87 bm bf m va vp deep,A35 m va vp]
   (fun v _ H'=>v=.int .i64 (C nm args m).1∧∃va' vp',H'= [A87 bm bf (C nm args m).2 va' vp' deep,A35 (C nm args m).2 va' vp'])
structure RunX where
 k:Nat
 I:O5
 va:Option Addr
 vp:Nat
 aa:Option Addr
 ac:Nat
section
variable {I0:O5}{its:List Sp.Itm}{C:Sp.A0X}{br bm bf deep:Nat}
theorem B7J (hW:B1p I0 its C bm bf deep) (hC:Sp.A3u C):∀(n:Nat) (e:Sp.Ex),SizeOf.sizeOf e≤n→e.small→e.all (Sp.okE its)→
  ∀(I:O5) (b o tc:Nat) (ea:Option Addr) (ec:Nat) (ys:List Value) (sc:List Sp.Cl) (back:Int) (m:Sp.MR) (sa:Option Addr) (sp:Nat) (va:Option Addr) (vp:Nat),Le I0 I→m.steps≤3000→m.ev.length≤m.steps→sc.length≤1000000000→
  PtrI I b o tc (A0d e ea ec)→RowI I 107 6 (.slice ea e.args.length ec) e.args.length ys→V5 I e.args ys→
  CalM prog 120 #[ptr br,.pointer (some ⟨b,o,none⟩)] I (RSt br bm bf sc back m sa sp va vp deep)
   (fun v _ H'=>v=.int .i64 (Sp.exR C sc e m).1∧∃va' vp',H'=RSt br bm bf sc back (Sp.exR C sc e m).2 sa sp va' vp' deep):=by
 intro n
 induction n with
 |zero=>intro e h;cases e;simp at h
 |succ n ih=>
 intro e hsz hsm hok I b o tc ea ec ys sc back m sa sp va vp hle0 hst hev hsc hp hr hx
 obtain⟨hal,hasm⟩:=Sp.A2q hsm
 obtain⟨hnode,hargs⟩:=Sp.Ex.all_node hok
 refine CalM.of fun w E hm=>enter (N:=89) func120 rfl [(0,ptr br),(1,.pointer (some ⟨b,o,none⟩))] A0B rfl ?_
 have hS:=fun (J:O5)=>B3L (bm:=bm) (bf:=bf) (m:=m) (ea:=va) (ep:=vp) (deep:=deep) hst J
 have hto:=Sp.A5T hst
 have hse:=Sp.B1b m
 have heq:=Sp.B6I C sc e m
 have hexs:=Sp.A8l hC sc e.args m.step hto.top
 obtain⟨r,hr0⟩:∃r,r=Sp.exR C sc e m:=⟨_,rfl⟩
 rw[←hr0] at heq ⊢
 clear hr0
 generalize hm1:m.step=m1 at hS hto hse heq hexs
 have hevr:A35 m1 va vp=A35 m va vp:=by unfold A35;rw[hse]
 have hev1:m1.ev.length≤m1.steps:=by have:=hto.ev;have:=hto.up;omega
 cases hgo:m.go with
 |false=>
  rw[hgo,if_pos rfl] at heq
  subst heq
  rw[hgo] at hS
  repeat' (first|(refine F5 (d:=13) ?_ hm (hp:=pm1_2) (hc:=hS _);clear hm;rintro _ I2 _ _ ⟨rfl,rfl⟩ hleI2 hm;try simp only[F7] at hm;rw[←hevr] at hm)|refine H6 ?_ hm|refine D7 ?_|refine D5 ?_|refine U9 ?_|refine E8 ?_|refine C9 ?_|refine D8 ?_|refine A7 ?_|refine G5 ?_|refine E5 ?_|refine A8 ?_|refine G8 ?_|refine H5 ?_|refine F9 ?_)
  all_goals try first|omega|contradiction
  exact⟨I2,_,⟨rfl,va,vp,rfl⟩,hm.perm pm2_1⟩
 |true=>
 rw[hgo,if_neg (by simp)] at heq
 rw[hgo] at hS
 by_cases k1:e.kind=1
 ·rw[if_pos k1] at heq
  subst heq
  repeat' (first|(refine F5 (d:=13) ?_ hm (hp:=pm1_2) (hc:=hS _);clear hm;rintro _ I2 _ _ ⟨rfl,rfl⟩ hleI2 hm;try simp only[F7] at hm;rw[←hevr] at hm;have hp2:=hp.le hleI2)|refine H6 ?_ hm|refine H9 ?_ hm|refine D7 ?_|refine D5 ?_|refine L8 ?_|refine U9 ?_|refine E8 ?_|refine C9 ?_|refine D8 ?_|refine A7 ?_|refine G5 ?_|refine O8 ?_|refine E5 ?_|refine A8 ?_|refine E9 ?_|refine F8 ?_|refine G8 ?_|refine H5 ?_|refine F6 ?_|(refine D6 (ht:=fun _=>?_) (hf:=fun _=>?_)<;>(try first|contradiction|(exfalso;omega))))
  all_goals try first|omega|contradiction
  exact⟨I2,_,⟨rfl,va,vp,rfl⟩,hm.perm pm2_1⟩
 rw[if_neg k1] at heq
 by_cases k2:e.kind=2
 ·rw[if_pos k2] at heq
  have hG:=fun (J:O5)=>B9B (br:=br) (bm:=bm) (sc:=sc) (sa:=sa) (sp:=sp) (back:=back) e.name J hsc
  rw[Sp.B15] at heq
  repeat' (first|(refine F5 (d:=13) ?_ hm (hp:=pm1_2) (hc:=hS _);clear hm;rintro _ I2 _ _ ⟨rfl,rfl⟩ hleI2 hm;try simp only[F7] at hm;rw[←hevr] at hm;have hp2:=hp.le hleI2)|(refine F5 (d:=32) ?_ hm (hp:=pm2_1) (hc:=hG _);clear hm;rintro _ I3 _ _ (⟨i,p,b2,hgi,hfl,rfl,rfl,rfl⟩|⟨hfl,bl,rfl,rfl⟩) hleI3 hm<;>try simp only[F7] at hm)|(refine A1j (i:=1) (d:=35) hm (by rfl) (by rfl) (by rfl) gt1 (by exact(A8P hgi).2) ?_)|refine H6 ?_ hm|refine H9 ?_ hm|refine D7 ?_|refine D5 ?_|refine L8 ?_|refine U9 ?_|refine E8 ?_|refine C9 ?_|refine D8 ?_|refine A7 ?_|refine G5 ?_|refine O8 ?_|refine E5 ?_|refine A8 ?_|refine E9 ?_|refine F8 ?_|refine G8 ?_|refine H5 ?_|refine F6 ?_|(refine D6 (ht:=fun _=>?_) (hf:=fun _=>?_)<;>(try first|contradiction|(exfalso;omega))))
  all_goals try first|omega|contradiction
  ·rw[hfl] at heq
   have hd:sc.getD i ⟨[],0⟩=p:=by rw[List.getD_eq_getElem?_getD,hgi];rfl
   dsimp only at heq
   rw[hd] at heq
   subst heq
   exact⟨I3,_,⟨rfl,va,vp,rfl⟩,hm⟩
  ·rw[hfl] at heq
   subst heq
   exact⟨I3,_,⟨rfl,va,vp,rfl⟩,hm.tl⟩
 rw[if_neg k2] at heq
 by_cases k3:e.kind=3
 ·rw[if_pos k3] at heq
  have h2:e.args.length=2:=by
   rcases hnode with h|h|h|h
   ·exact absurd h k1
   ·exact absurd h k2
   ·exact h.2
   ·omega
  have g0:e.args[0]?=some e.args[0]:=List.getElem?_eq_getElem (by omega)
  have g1:e.args[1]?=some e.args[1]:=List.getElem?_eq_getElem (by omega)
  have z0:=Sp.A12 (List.getElem_mem (l:=e.args) (n:=0) (by omega))
  have z1:=Sp.A12 (List.getElem_mem (l:=e.args) (n:=1) (by omega))
  have w0:=Sp.A0G hasm g0
  have w1:=Sp.A0G hasm g1
  have a0:=Sp.A3z hargs g0
  have a1:=Sp.A3z hargs g1
  obtain⟨ea0,ec0,ys0,hc0,hr0,hx0⟩:=(hx.get g0).out
  obtain⟨ea1,ec1,ys1,hc1,hr1,hx1⟩:=(hx.get g1).out
  have hexs2:=Sp.B6L (C:=C) (sc:=sc) h2 g0 g1 m1
  rw[hexs2] at heq
  generalize e.args[0]=e0 at g0 z0 w0 a0 hc0 hr0 hx0 heq hexs2
  generalize e.args[1]=e1 at g1 z1 w1 a1 hc1 hr1 hx1 heq hexs2
  have hE0:=fun (J:O5) (mm:Le I J) (b o tc:Nat) (hpt:PtrI J b o tc (A0d e0 ea0 ec0))=>ih e0 (by omega) w0 a0 J b o tc ea0 ec0 ys0 sc back m1 sa sp va vp (hle0.trans mm) hto.top hev1 hsc hpt (hr0.le mm) (V5.le mm _ _ hx0)
  have t0:=Sp.A7k hC sc e0 m1 hto.top
  generalize Sp.exR C sc e0 m1=r0 at hE0 t0 heq
  have hE1:=fun (J:O5) (mm:Le I J) (va:Option Addr) (vp b o tc:Nat) (hpt:PtrI J b o tc (A0d e1 ea1 ec1))=>ih e1 (by omega) w1 a1 J b o tc ea1 ec1 ys1 sc back r0.2 sa sp va vp (hle0.trans mm) t0.top (by have:=t0.ev;omega) hsc hpt (hr1.le mm) (V5.le mm _ _ hx1)
  generalize Sp.exR C sc e1 r0.2=r1 at hE1 heq
  have hop:=fun (J:O5)=>C1v e.name r0.1 r1.1 J
  have hrl:∀J,Le I J→RowI J 107 6 (.slice ea e.args.length ec) e.args.length ys:=fun J mm=>hr.le mm
  rw[h2] at hrl
  have hp':PtrI I b o tc [nt e.kind,str e.name,nt e.n,.slice ea 2 ec,nt e.fr,nt e.to]:=by rw[←h2];exact hp
  replace heq:r=(Sp.opR e.name r0.1 r1.1,r1.2):=heq
  subst heq
  repeat' (first|(refine F5 (d:=13) ?_ hm (hp:=pm1_2) (hc:=hS _);clear hm;rintro _ I2 _ _ ⟨rfl,rfl⟩ hleI2 hm;try simp only[F7] at hm;rw[←hevr] at hm;replace hm:=hm.perm pm2_1;have hp2:=hp'.le hleI2)|(refine A0I (id:=9) (hm.perm pmR4) [0,1,2,3,4,5,7,8,9,10,11,12] [6,13] 14 (h:=?_);clear hm;intro wd hR hm)|(refine A0T (d:=43) ?_ (hr:=hrl _ hleI2);intro b0 o0 hp0;rw[show ((0:Int).toNat *6)=0 *6 from rfl,hc0] at hp0)|(refine A0T (d:=50) ?_ (hr:=hrl _ hleI2);intro b1 o1 hp1;rw[show ((1:Int).toNat *6)=1 *6 from rfl,hc1] at hp1)|(refine Z7 (d:=44) ?_ hm (hp:=pmR4) (hc:=hE0 I2 hleI2 _ _ _ hp0);clear hm;rintro _ I3 _ _ ⟨rfl,va3,vp3,rfl⟩ hleI3 hm;try simp only[F7] at hm)|(refine Z7 (d:=51) ?_ hm (hp:=pmR4) (hc:=hE1 I3 (hleI2.trans hleI3) va3 vp3 _ _ _ (hp1.le hleI3));clear hm;rintro _ I4 _ _ ⟨rfl,va4,vp4,rfl⟩ hleI4 hm;try simp only[F7] at hm;have hp4:=(hp2.le hleI3).le hleI4)|(refine F5 (d:=58) ?_ hm (hp:=pm0) (hc:=hop _);clear hm;rintro _ I5 _ _ ⟨rfl,rfl⟩ hleI5 hm;try simp only[F7] at hm)|refine A0C ?_ hR|(refine A1l ?_;replace hm:=hR.back hm;clear hR;try simp only[F7] at hm)|refine H6 ?_ hm|refine H9 ?_ hm|refine D7 ?_|refine D5 ?_|refine L8 ?_|refine U9 ?_|refine E8 ?_|refine C9 ?_|refine D8 ?_|refine A7 ?_|refine G5 ?_|refine O8 ?_|refine E5 ?_|refine A8 ?_|refine E9 ?_|refine F8 ?_|refine G8 ?_|refine H5 ?_|refine F6 ?_|(refine D6 (ht:=fun _=>?_) (hf:=fun _=>?_)<;>(try first|contradiction|(exfalso;omega)))|refine A0P ?_|refine X5 ?_|refine Q3 ?_|refine A0s ?_)
  all_goals try first|omega|contradiction
  exact⟨I5,_,⟨rfl,va4,vp4,rfl⟩,hm⟩
 rw[if_neg k3] at heq
 have h4:e.kind=4∧∃j,Sp.Q8 its 2 e.name=some j∧(Sp.N9 its j).params.length=e.args.length:=by
  rcases hnode with h|h|h|h
  ·exact absurd h k1
  ·exact absurd h k2
  ·exact absurd h.1 k3
  ·exact h
 obtain⟨k4,hfound⟩:=h4
 have hal2:e.args.length≤64:=hal
 repeat' (first|(refine F5 (d:=13) ?_ hm (hp:=pm1_2) (hc:=hS _);clear hm;rintro _ I2 _ _ ⟨rfl,rfl⟩ hleI2 hm;try simp only[F7] at hm;rw[←hevr] at hm;replace hm:=hm.perm pm2_1;have hp2:=hp.le hleI2)|refine Z5 11 ?_|refine H6 ?_ hm|refine H9 ?_ hm|refine D7 ?_|refine D5 ?_|refine L8 ?_|refine U9 ?_|refine E8 ?_|refine C9 ?_|refine D8 ?_|refine A7 ?_|refine D9 ?_|refine E5 ?_|refine A8 ?_|refine E9 ?_|refine F8 ?_|refine F6 ?_|(refine D6 (ht:=fun _=>?_) (hf:=fun _=>?_)<;>(try first|contradiction|(exfalso;omega))))
 all_goals try first|omega|contradiction
 refine⟨?_⟩
 repeat' (first|refine H9 ?_ hm|refine D7 ?_|refine D5 ?_|refine G7 ?_|refine E8 ?_|refine C9 ?_|refine D8 ?_|refine A7 ?_|refine E5 ?_|refine A8 ?_|refine E9 ?_)
 all_goals try first|omega|contradiction
 have hm:=hm.nil 3 1
 refine U4 (fun x:RunX=> [(0,ptr br),(1,.pointer (some ⟨b,o,none⟩)),(7,.slice x.aa x.k x.ac),(63,nt e.args.length),(64,nt x.k)])
  (fun x w'=>Mem E x.I (.row (.slice x.aa x.k x.ac) 3 1 x.k (A6K (Sp.A0e C sc (e.args.take x.k) m1).1)::RSt br bm bf sc back (Sp.A0e C sc (e.args.take x.k) m1).2 sa sp x.va x.vp deep) w'∧Le I2 x.I∧x.k≤e.args.length) (fun x=>e.args.length-x.k) ⟨0,I2,va,vp,none,0⟩
  (by exact⟨rfl,rfl,rfl,rfl,rfl,trivial⟩) ⟨by dsimp only;rw[List.take_zero,Sp.A0e];exact hm,Le.refl _,Nat.zero_le _⟩ ?_
 clear hm
 rintro⟨k,I3,va3,vp3,aa3,ac3⟩ w3 ⟨hm,hle3,hk⟩
 dsimp only at hm hle3 hk ⊢
 have hp3:=hp2.le hle3
 have hle13:=hleI2.trans hle3
 have hrow:=hr.le hle13
 by_cases hlt:k<e.args.length
 ·have hg:e.args[k]?=some e.args[k]:=List.getElem?_eq_getElem hlt
  have hsz2:=Sp.A12 (List.getElem_mem hlt)
  have hsm2:=Sp.A0G hasm hg
  have hok2:=Sp.A3z hargs hg
  obtain⟨ea2,ec2,ys2,hc2,hr2,hx2⟩:=(hx.get hg).out
  generalize e.args[k]=y at hg hsz2 hsm2 hok2 hc2 hr2 hx2
  have hstp:=Sp.B5h (C:=C) sc hg m1
  have htk:=Sp.A8l hC sc (e.args.take k) m1 hto.top
  have hln:=Sp.A2x (C:=C) sc (e.args.take k) m1
  rw[List.length_take,Nat.min_eq_left hk] at hln
  generalize Sp.A0e C sc (e.args.take k) m1=q at hm hstp htk hln
  have hE:=fun (b o tc:Nat) (hpt:PtrI I3 b o tc (A0d y ea2 ec2))=>ih y (by omega) hsm2 hok2 I3 b o tc ea2 ec2 ys2 sc back q.2 sa sp va3 vp3 (hle0.trans hle13) htk.top (by have:=htk.ev;omega) hsc hpt (hr2.le hle13) (V5.le hle13 _ _ hx2)
  generalize Sp.exR C sc y q.2=r2 at hE hstp
  repeat' (first|(refine L6 (d:=74) ?_ (hr:=hrow);intro bt ot hpt;rw[show ((k:Int).toNat *6)=k *6 from rfl,hc2] at hpt)|(refine F5 (d:=75) ?_ hm (hp:=pmR41) (hc:=hE _ _ _ hpt);clear hm;rintro _ I4 _ _ ⟨rfl,va4,vp4,rfl⟩ hleI4 hm;try simp only[F7] at hm)|(refine A2b (d:=77) ?_ hm;clear hm;intro a77 cp77 _ _ hm;try simp only[F7] at hm)|refine H9 ?_ hm|refine D7 ?_|refine D5 ?_|refine J5 ?_|refine E8 ?_|refine Q4 ?_|refine C9 ?_|refine D8 ?_|refine A7 ?_|refine D9 ?_|refine E5 ?_|refine A8 ?_|refine E9 ?_|refine F8 ?_|(refine D6 (ht:=fun _=>?_) (hf:=fun _=>?_)<;>(try first|contradiction|(exfalso;omega))))
  all_goals try first|omega|contradiction
  refine J9 (⟨k+1,I4,va4,vp4,a77,cp77⟩:RunX) (by exact⟨rfl,rfl,rfl,rfl,rfl,trivial⟩) ⟨?_,hle3.trans hleI4,by dsimp only;omega⟩ (by dsimp only;omega)
  dsimp only
  rw[hstp,A6K,List.map_append]
  exact hm.perm (pmRL (A:= [_,_,_,_]))
 ·obtain rfl:k=e.args.length:=by omega
  rw[List.take_length] at hm
  have hln:=Sp.A2x (C:=C) sc e.args m1
  generalize Sp.A0e C sc e.args m1=q at hm hexs heq hln
  subst heq
  repeat' (first|refine Z5 17 ?_|refine J5 ?_|refine D8 ?_|refine A7 ?_|refine G9 ?_|refine G6 ?_|refine E5 ?_|refine A8 ?_|refine O4 ?_|(refine D6 (ht:=fun _=>?_) (hf:=fun _=>?_)<;>(try first|contradiction|(exfalso;omega))))
  all_goals try first|omega|contradiction
  obtain⟨I4,hle4,hm4,hra⟩:=hm.freeze
  clear hm
  have hm:=hm4
  clear hm4
  have hp4:=hp3.le hle4
  rw[←hln] at hra
  rw[←hln] at hfound
  have hCall:=hW I4 e.name q.1 q.2 va3 vp3 aa3 ac3 ((hle0.trans hle13).trans hle4) hfound hra hexs.top (by have:=hexs.ev;omega)
  rw[hln] at hCall
  refine⟨?_⟩
  repeat' (first|(refine A0I (id:=17) (hm.perm pm2_2) [0,1,2,3,4,5,6,7,8] [9] 10 (h:=?_);clear hm;intro wd hR hm)|(refine Z7 (d:=88) ?_ hm (hp:=pm2_0) (hc:=hCall);clear hm;rintro _ I5 _ _ ⟨rfl,va5,vp5,rfl⟩ hleI5 hm;try simp only[F7] at hm)|refine Y7 ?_ hR|refine A0C ?_ hR|(refine A1l ?_;replace hm:=hR.back hm;clear hR;try simp only[F7] at hm)|refine D5 ?_|refine D8 ?_|refine A7 ?_|refine G8 ?_|refine H5 ?_|refine A0P ?_|refine X5 ?_|refine Q3 ?_|refine A0s ?_)
  all_goals try first|omega|contradiction
  exact⟨I5,_,⟨rfl,va5,vp5,rfl⟩,hm.perm pm2_2.symm⟩
end
end Go.Proofs.YtfjdfdgpkncpfaaGreatDoor
end
section
namespace Go.Sp
abbrev Nm:=List UInt8
theorem A3J (a:Nm):¬a<a:=List.lt_irrefl a
theorem A7A {a b c:Nm} (h:a<b) (k:b<c):a<c:=List.lt_trans h k
theorem B8I (a b:Nm):a<b∨a=b∨b<a:=by
 rcases Decidable.em (a<b) with h|h
 ·exact .inl h
 ·rcases Decidable.em (b<a) with k|k
  ·exact .inr (.inr k)
  ·exact .inr (.inl (List.le_antisymm (List.not_lt.1 k) (List.not_lt.1 h)))
theorem B5H {a b:Nm} (h:a<b):¬b<a:=fun k=>A3J a (A7A h k)
def Srt (l:List Nm):Prop:=l.Pairwise (· < ·)
theorem Srt.nil:Srt []:=List.Pairwise.nil
theorem A6W:∀ {a b:List Nm},Srt a→Srt b→(∀x,x∈a↔x∈b)→a=b
 | [],[],_,_,_=>rfl
 | [],y::b,_,_,h=>absurd ((h y).2 List.mem_cons_self) (by simp)
 |x::a,[],_,_,h=>absurd ((h x).1 List.mem_cons_self) (by simp)
 |x::a,y::b,ha,hb,h=>by
  obtain⟨ha1,ha2⟩:=List.pairwise_cons.1 ha
  obtain⟨hb1,hb2⟩:=List.pairwise_cons.1 hb
  have hx:=(h x).1 List.mem_cons_self
  have hy:=(h y).2 List.mem_cons_self
  have e:x=y:=by
   rcases List.mem_cons.1 hx with e|hx
   ·exact e
   ·rcases List.mem_cons.1 hy with e|hy
    ·exact e.symm
    ·exact absurd (ha1 y hy) (B5H (hb1 x hx))
  subst e
  congr 1
  refine A6W ha2 hb2 (fun z=>⟨fun hz=>?_,fun hz=>?_⟩)
  ·rcases List.mem_cons.1 ((h z).1 (List.mem_cons_of_mem _ hz)) with e|h1
   ·subst e;exact absurd (ha1 z hz) (A3J z)
   ·exact h1
  ·rcases List.mem_cons.1 ((h z).2 (List.mem_cons_of_mem _ hz)) with e|h1
   ·subst e;exact absurd (hb1 z hz) (A3J z)
   ·exact h1
def A4Q (s:Nm):List Nm→List Nm
 | []=> [s]
 |x::l=>if x<s then x::A4Q s l else s::x::l
def A1P (l:List Nm) (s:Nm):List Nm:=if s= []∨s∈l then l else A4Q s l
theorem A6J (s x:Nm):∀(l:List Nm),x∈A4Q s l↔x=s∨x∈l
 | []=>by simp[A4Q]
 |y::l=>by
  rw[A4Q]
  split
  ·rw[List.mem_cons,A6J s x l,List.mem_cons]
   constructor
   ·rintro(h|h|h)
    ·exact .inr (.inl h)
    ·exact .inl h
    ·exact .inr (.inr h)
   ·rintro(h|h|h)
    ·exact .inr (.inl h)
    ·exact .inl h
    ·exact .inr (.inr h)
  ·simp
theorem A83 {s:Nm}:∀ {l:List Nm},Srt l→s∉l→Srt (A4Q s l)
 | [],_,_=>by rw[A4Q];exact List.pairwise_singleton _ _
 |y::l,h,hs=>by
  obtain⟨h1,h2⟩:=List.pairwise_cons.1 h
  rw[A4Q]
  split
  ·rename_i hy
   refine List.pairwise_cons.2 ⟨fun z hz=>?_,A83 h2 (fun hm=>hs (List.mem_cons_of_mem _ hm))⟩
   rcases(A6J s z l).1 hz with rfl|hz
   ·exact hy
   ·exact h1 z hz
  ·rename_i hy
   have hsy:s<y:=by
    rcases B8I s y with h|h|h
    ·exact h
    ·subst h;exact absurd List.mem_cons_self hs
    ·exact absurd h hy
   refine List.pairwise_cons.2 ⟨fun z hz=>?_,h⟩
   rcases List.mem_cons.1 hz with rfl|hz
   ·exact hsy
   ·exact A7A hsy (h1 z hz)
theorem A5u (s:Nm):∀(l:List Nm),(A4Q s l).length=l.length+1
 | []=>rfl
 |y::l=>by
  rw[A4Q]
  split
  ·rw[List.length_cons,A5u s l,List.length_cons]
  ·rfl
theorem B4z {s:Nm}:∀ {l:List Nm}{k:Nat},k≤l.length→(∀j x,j<k→l[j]?=some x→x<s)→(∀x,l[k]?=some x→¬x<s)→A4Q s l=l.take k++s::l.drop k
 | [],k,hk,_,_=>by
  obtain rfl:k=0:=by simpa using hk
  rfl
 |y::l,0,_,_,h2=>by
  rw[A4Q,if_neg (h2 y rfl)];rfl
 |y::l,k+1,hk,h1,h2=>by
  rw[A4Q,if_pos (h1 0 y (by omega) rfl),List.take_succ_cons,List.drop_succ_cons,List.cons_append]
  congr 1
  refine B4z (by simpa using hk) (fun j x hj hx=>h1 (j+1) x (by omega) (by simpa using hx)) (fun x hx=>h2 x (by simpa using hx))
theorem A5h (l:List Nm) (s x:Nm):x∈A1P l s↔x∈l∨(x=s∧s≠ []):=by
 rw[A1P]
 split
 ·rename_i h
  constructor
  ·exact .inl
  ·rintro(h1|⟨rfl,h1⟩)
   ·exact h1
   ·rcases h with h|h
    ·exact absurd h h1
    ·exact h
 ·rename_i h
  rw[A6J]
  constructor
  ·rintro(rfl|h1)
   ·exact .inr ⟨rfl,fun e=>h (.inl e)⟩
   ·exact .inl h1
  ·rintro(h1|⟨rfl,_⟩)
   ·exact .inr h1
   ·exact .inl rfl
theorem A5i {l:List Nm} (h:Srt l) (s:Nm):Srt (A1P l s):=by
 rw[A1P]
 split
 ·exact h
 ·rename_i h1
  exact A83 h (fun hm=>h1 (.inr hm))
theorem A6u (l:List Nm) (s:Nm):l.length≤(A1P l s).length∧(A1P l s).length≤l.length+1:=by
 rw[A1P]
 split
 ·omega
 ·rw[A5u];omega
theorem A7d {l:List Nm}{s:Nm} (h:s= []∨s∈l):A1P l s=l:=by rw[A1P,if_pos h]
theorem B6e {l:List Nm}{s:Nm} (h:¬(s= []∨s∈l)):A1P l s=A4Q s l:=by rw[A1P,if_neg h]
def A2Y (a b:List Nm):List Nm:=b.foldl A1P a
theorem A7t:∀(b a:List Nm) (x:Nm),x∈A2Y a b↔x∈a∨(x∈b∧x≠ [])
 | [],a,x=>by simp[A2Y]
 |y::b,a,x=>by
  show x∈A2Y (A1P a y) b↔_
  rw[A7t b,A5h,List.mem_cons]
  constructor
  ·rintro((h|⟨rfl,h⟩)|⟨h,k⟩)
   ·exact .inl h
   ·exact .inr ⟨.inl rfl,h⟩
   ·exact .inr ⟨.inr h,k⟩
  ·rintro(h|⟨rfl|h,k⟩)
   ·exact .inl (.inl h)
   ·exact .inl (.inr ⟨rfl,k⟩)
   ·exact .inr ⟨h,k⟩
theorem A7u:∀(b:List Nm) {a:List Nm},Srt a→Srt (A2Y a b)
 | [],_,h=>h
 |y::b,_,h=>A7u b (A5i h y)
theorem A6h:∀(b:List Nm) {a:List Nm},(∀x∈b,x∈a)→A2Y a b=a
 | [],_,_=>rfl
 |y::b,a,h=>by
  show A2Y (A1P a y) b=a
  rw[A7d (.inr (h y List.mem_cons_self))]
  exact A6h b (fun x hx=>h x (List.mem_cons_of_mem _ hx))
theorem B3u {a b:List Nm}{k:Nat}{x:Nm} (h:b[k]?=some x):A2Y a (b.take (k+1))=A1P (A2Y a (b.take k)) x:=by
 rw[P9 h,A2Y,List.foldl_append];rfl
theorem A43 {a u:List Nm} (ha:Srt a) (h:∀x∈a,x∈u):a.length≤u.length:=by
 induction a generalizing u with
 |nil=>exact Nat.zero_le _
 |cons x a ih=>
  obtain⟨h1,h2⟩:=List.pairwise_cons.1 ha
  have hx:=h x List.mem_cons_self
  have:=ih (u:=u.erase x) h2 (fun y hy=>(List.mem_erase_of_ne (fun e=>A3J x (by have h2:=h1 y hy;rw[e] at h2;exact h2))).2 (h y (List.mem_cons_of_mem _ hy)))
  rw[List.length_erase_of_mem hx] at this
  have:=List.length_pos_of_mem hx
  rw[List.length_cons];omega
theorem B2K {a b:List Nm} (ha:Srt a) (hb:Srt b) (h:∀x∈a,x∈b) (hl:b.length≤a.length):a=b:=by
 refine A6W ha hb (fun x=>⟨h x,fun hx=>?_⟩)
 refine Decidable.byContradiction (fun hn=>?_)
 have h1:=A43 (a:=A4Q x a) (u:=b) (A83 ha hn) (fun y hy=>by
  rcases(A6J x y a).1 hy with rfl|hy
  ·exact hx
  ·exact h y hy)
 rw[A5u] at h1
 omega
mutual
def exE:Ex→List Nm→List Nm
 | .mk k nm _ args _ _,c=>A2n args (if k=4 then A1P c nm else c)
def A2n:List Ex→List Nm→List Nm
 | [],c=>c
 |e::es,c=>A2n es (exE e c)
 end
mutual
def A3q:Stm→List Nm×List Nm→List Nm×List Nm
 | .mk k nm _ _ _ e thn els _ _,q=>Z9 els (Z9 thn (if k=5 then A1P q.1 nm else q.1,exE e q.2))
def Z9:List Stm→List Nm×List Nm→List Nm×List Nm
 | [],q=>q
 |x::xs,q=>Z9 xs (A3q x q)
 end
def A2M (it:Itm):List Nm×List Nm:=Z9 it.body ([],[])
theorem B9R (e:Ex) (c:List Nm):exE e c=A2n e.args (if e.kind=4 then A1P c e.name else c):=by cases e;rw[exE];rfl
theorem B86 (x:Stm) (q:List Nm×List Nm):A3q x q=Z9 x.els (Z9 x.thn (if x.kind=5 then A1P q.1 x.name else q.1,exE x.e q.2)):=by cases x;rw[A3q];rfl
theorem B1R:∀(l r:List Ex) (c:List Nm),A2n (l++r) c=A2n r (A2n l c)
 | [],r,c=>by rw[List.nil_append,A2n]
 |e::l,r,c=>by rw[List.cons_append,A2n,A2n,B1R l r]
theorem B0j:∀(l r:List Stm) (q:List Nm×List Nm),Z9 (l++r) q=Z9 r (Z9 l q)
 | [],r,q=>by rw[List.nil_append,Z9]
 |e::l,r,q=>by rw[List.cons_append,Z9,Z9,B0j l r]
theorem B5f {l:List Ex}{k:Nat}{e:Ex} (h:l[k]?=some e) (c:List Nm):A2n (l.take (k+1)) c=exE e (A2n (l.take k) c):=by
 rw[P9 h,B1R,A2n,A2n]
theorem B3U {l:List Stm}{k:Nat}{x:Stm} (h:l[k]?=some x) (q:List Nm×List Nm):Z9 (l.take (k+1)) q=A3q x (Z9 (l.take k) q):=by
 rw[P9 h,B0j,Z9,Z9]
mutual
theorem B0z:∀(e:Ex) {c:List Nm},Srt c→Srt (exE e c)
 | .mk k nm n args f t,c,h=>by
  rw[exE]
  refine A8T args ?_
  split
  ·exact A5i h nm
  ·exact h
theorem A8T:∀(l:List Ex) {c:List Nm},Srt c→Srt (A2n l c)
 | [],c,h=>by rw[A2n];exact h
 |e::l,c,h=>by rw[A2n];exact A8T l (B0z e h)
 end
mutual
theorem B7T:∀(x:Stm) {q:List Nm×List Nm},Srt q.1∧Srt q.2→Srt (A3q x q).1∧Srt (A3q x q).2
 | .mk k nm a lb o e thn els f t,q,h=>by
  rw[A3q]
  refine A3s els (A3s thn ⟨?_,B0z e h.2⟩)
  dsimp only
  split
  ·exact A5i h.1 nm
  ·exact h.1
theorem A3s:∀(l:List Stm) {q:List Nm×List Nm},Srt q.1∧Srt q.2→Srt (Z9 l q).1∧Srt (Z9 l q).2
 | [],q,h=>by rw[Z9];exact h
 |x::l,q,h=>by rw[Z9];exact A3s l (B7T x h)
 end
mutual
theorem B6E:∀(e:Ex) (c:List Nm),c.length≤(exE e c).length∧(exE e c).length≤c.length+e.cnt
 | .mk k nm n args f t,c=>by
  rw[exE,Ex.cnt]
  have h1:=A6u c nm
  have h2:=B3d args (if k=4 then A1P c nm else c)
  split at h2<;>rename_i hk
  ·rw[if_pos hk];omega
  ·rw[if_neg hk];omega
theorem B3d:∀(l:List Ex) (c:List Nm),c.length≤(A2n l c).length∧(A2n l c).length≤c.length+A0b l
 | [],c=>by rw[A2n,A0b];omega
 |e::l,c=>by
  rw[A2n,A0b]
  have h1:=B6E e c
  have h2:=B3d l (exE e c)
  omega
 end
mutual
theorem C0p:∀(x:Stm) (q:List Nm×List Nm),q.1.length+q.2.length≤(A3q x q).1.length+(A3q x q).2.length∧(A3q x q).1.length+(A3q x q).2.length≤q.1.length+q.2.length+x.cnt
 | .mk k nm a lb o e thn els f t,q=>by
  rw[A3q,Stm.cnt]
  have h1:=A6u q.1 nm
  have h2:=B6E e q.2
  have h3:=A5U thn (if k=5 then A1P q.1 nm else q.1,exE e q.2)
  have h4:=A5U els (Z9 thn (if k=5 then A1P q.1 nm else q.1,exE e q.2))
  generalize Z9 els (Z9 thn (if k=5 then A1P q.1 nm else q.1,exE e q.2))=r4 at h4 ⊢
  generalize Z9 thn (if k=5 then A1P q.1 nm else q.1,exE e q.2)=r3 at h3 h4
  split at h3
  ·dsimp only at h3;omega
  ·dsimp only at h3;omega
theorem A5U:∀(l:List Stm) (q:List Nm×List Nm),q.1.length+q.2.length≤(Z9 l q).1.length+(Z9 l q).2.length∧(Z9 l q).1.length+(Z9 l q).2.length≤q.1.length+q.2.length+N7 l
 | [],q=>by rw[Z9,N7];omega
 |x::l,q=>by
  rw[Z9,N7]
  have h1:=C0p x q
  have h2:=A5U l (A3q x q)
  omega
 end
def A1T (its:List Itm) (i:Nat):List Nm:=if (N9 its i).kind=2 then (A2M (N9 its i)).1 else []
def A3b (its:List Itm) (l:List Nm):List Nat:=l.filterMap (Q8 its 2)
def A0J (its:List Itm) (i:Nat):List Nat:=if (N9 its i).kind=2 then A3b its (A2M (N9 its i)).2 else []
def A1K (its:List Itm):List (List Nm):=(List.range its.length).map (A1T its)
def A6T (its:List Itm) (rows:List (List Nm)) (i:Nat):List Nm:=(A0J its i).foldl (fun a k=>A2Y a (rows.getD k [])) (rows.getD i [])
def A00 (its:List Itm) (rows:List (List Nm)) (i:Nat):List (List Nm):=rows.set i (A6T its rows i)
def A07 (its:List Itm) (rows:List (List Nm)):List (List Nm):=(List.range its.length).foldl (A00 its) rows
def A1M (its:List Itm):Nat→List (List Nm)→List (List Nm)
 |0,r=>r
 |n+1,r=>if A07 its r=r then r else A1M its n (A07 its r)
def A4D (r:List (List Nm)):Nat:=(r.map List.length).sum
def A1t (its:List Itm):List Nm:=(A1K its).flatten
def A3v (its:List Itm):List (List Nm):=A1M its (its.length *(A1t its).length+1) (A1K its)
def A3k (its:List Itm) (i:Nat):List Nm:=(A3v its).getD i []
structure RowsE (its:List Itm) (r:List (List Nm)):Prop where
 len:r.length=its.length
 srt:∀a∈r,Srt a
 of:∀a∈r,∀x∈a,x∈A1t its
 ne:∀a∈r,[]∉a
def LeE (r s:List (List Nm)):Prop:=r.length=s.length∧∀i x,x∈r.getD i []→x∈s.getD i []
theorem LeE.refl (r:List (List Nm)):LeE r r:=⟨rfl,fun _ _ h=>h⟩
theorem LeE.trans {r s t:List (List Nm)} (h:LeE r s) (k:LeE s t):LeE r t:=⟨h.1.trans k.1,fun i x hx=>k.2 i x (h.2 i x hx)⟩
theorem B14 {α:Type}{l:List α}{i:Nat}{d:α} (h:i<l.length):l.getD i d∈l:=by
 rw[List.getD_eq_getElem?_getD,List.getElem?_eq_getElem h];exact List.getElem_mem h
theorem A4r {α:Type}{l:List α}{i:Nat}{d:α} (h:l.length≤i):l.getD i d=d:=by
 rw[List.getD_eq_getElem?_getD,List.getElem?_eq_none h];rfl
theorem A2Q {α:Type}{l:List α}{i:Nat}{d a:α} (h:i<l.length):(l.set i a).getD i d=a:=by
 rw[List.getD_eq_getElem?_getD,List.getElem?_set_self h];rfl
theorem getD_set_ne {α:Type}{l:List α}{i j:Nat}{d a:α} (h:i≠j):(l.set i a).getD j d=l.getD j d:=by
 rw[List.getD_eq_getElem?_getD,List.getElem?_set_ne h,List.getD_eq_getElem?_getD]
mutual
theorem B6F:∀(e:Ex) {c:List Nm},[]∉c→[]∉exE e c
 | .mk k nm n args f t,c,h=>by
  rw[exE]
  refine B4v args ?_
  split
  ·rw[A5h];rintro(h1|⟨h1,h2⟩)
   ·exact h h1
   ·exact h2 h1.symm
  ·exact h
theorem B4v:∀(l:List Ex) {c:List Nm},[]∉c→[]∉A2n l c
 | [],c,h=>by rw[A2n];exact h
 |e::l,c,h=>by rw[A2n];exact B4v l (B6F e h)
 end
mutual
theorem B88:∀(x:Stm) {q:List Nm×List Nm},[]∉q.1∧[]∉q.2→[]∉(A3q x q).1∧[]∉(A3q x q).2
 | .mk k nm a lb o e thn els f t,q,h=>by
  rw[A3q]
  refine A6Z els (A6Z thn ⟨?_,B6F e h.2⟩)
  dsimp only
  split
  ·rw[A5h];rintro(h1|⟨h1,h2⟩)
   ·exact h.1 h1
   ·exact h2 h1.symm
  ·exact h.1
theorem A6Z:∀(l:List Stm) {q:List Nm×List Nm},[]∉q.1∧[]∉q.2→[]∉(Z9 l q).1∧[]∉(Z9 l q).2
 | [],q,h=>by rw[Z9];exact h
 |x::l,q,h=>by rw[Z9];exact A6Z l (B88 x h)
 end
theorem B8M (it:Itm): []∉(A2M it).1∧[]∉(A2M it).2:=A6Z _ ⟨by simp,by simp⟩
theorem B7w (it:Itm):Srt (A2M it).1∧Srt (A2M it).2:=A3s _ ⟨Srt.nil,Srt.nil⟩
theorem A6g (its:List Itm):(A1K its).length=its.length:=by rw[A1K,List.length_map,List.length_range]
theorem A82 (its:List Itm) {i:Nat} (h:i<its.length):(A1K its).getD i []=A1T its i:=by
 rw[A1K,List.getD_eq_getElem?_getD,List.getElem?_map,List.getElem?_range h];rfl
theorem A6o (its:List Itm):RowsE its (A1K its):=by
 have key:∀a∈A1K its,∃i,a=A1T its i:=fun a ha=>by
  obtain⟨i,_,rfl⟩:=List.mem_map.1 ha
  exact⟨i,rfl⟩
 refine⟨A6g its,fun a ha=>?_,fun a ha x hx=>List.mem_flatten.2 ⟨a,ha,hx⟩,fun a ha=>?_⟩
 ·obtain⟨i,rfl⟩:=key a ha
  rw[A1T]
  split
  ·exact(B7w _).1
  ·exact Srt.nil
 ·obtain⟨i,rfl⟩:=key a ha
  rw[A1T]
  split
  ·exact(B8M _).1
  ·simp
theorem A5R (rows:List (List Nm)):∀(l:List Nat) (a:List Nm),Srt a→(∀x,x∈l.foldl (fun a k=>A2Y a (rows.getD k [])) a↔x∈a∨∃k∈l,x∈rows.getD k []∧x≠ [])∧Srt (l.foldl (fun a k=>A2Y a (rows.getD k [])) a)
 | [],a,h=>⟨fun x=>by simp,h⟩
 |k::l,a,h=>by
  rw[List.foldl_cons]
  obtain⟨h1,h2⟩:=A5R rows l (A2Y a (rows.getD k [])) (A7u _ h)
  refine⟨fun x=>?_,h2⟩
  rw[h1,A7t]
  constructor
  ·rintro((h|h)|⟨j,hj,h⟩)
   ·exact .inl h
   ·exact .inr ⟨k,List.mem_cons_self,h⟩
   ·exact .inr ⟨j,List.mem_cons_of_mem _ hj,h⟩
  ·rintro(h|⟨j,hj,h⟩)
   ·exact .inl (.inl h)
   ·rcases List.mem_cons.1 hj with rfl|hj
    ·exact .inl (.inr h)
    ·exact .inr ⟨j,hj,h⟩
theorem RowsE.getD {its:List Itm}{r:List (List Nm)} (h:RowsE its r) (i:Nat):Srt (r.getD i [])∧(∀x∈r.getD i [],x∈A1t its)∧[]∉r.getD i []:=by
 rcases Nat.lt_or_ge i r.length with hi|hi
 ·have:=B14 (d:= []) hi
  exact⟨h.srt _ this,h.of _ this,h.ne _ this⟩
 ·rw[A4r hi];exact⟨Srt.nil,by simp,by simp⟩
theorem A4y {its:List Itm}{r:List (List Nm)} (h:RowsE its r) (i:Nat) (x:Nm):x∈A6T its r i↔x∈r.getD i []∨∃k∈A0J its i,x∈r.getD k []:=by
 rw[A6T,(A5R r (A0J its i) (r.getD i []) (h.getD i).1).1]
 constructor
 ·rintro(h1|⟨k,hk,h1,_⟩)
  ·exact .inl h1
  ·exact .inr ⟨k,hk,h1⟩
 ·rintro(h1|⟨k,hk,h1⟩)
  ·exact .inl h1
  ·exact .inr ⟨k,hk,h1,fun e=>(h.getD k).2.2 (by rw[←e];exact h1)⟩
theorem RowsE.step {its:List Itm}{r:List (List Nm)} (h:RowsE its r) (i:Nat):RowsE its (A00 its r i)∧LeE r (A00 its r i):=by
 have hs:Srt (A6T its r i):=(A5R r (A0J its i) (r.getD i []) (h.getD i).1).2
 have hm:∀a∈A00 its r i,a∈r∨a=A6T its r i:=fun a ha=>List.mem_or_eq_of_mem_set ha
 refine⟨⟨by rw[A00,List.length_set,h.len],fun a ha=>?_,fun a ha x hx=>?_,fun a ha hx=>?_⟩,⟨by rw[A00,List.length_set],fun j x hx=>?_⟩⟩
 ·rcases hm a ha with h1|rfl
  ·exact h.srt a h1
  ·exact hs
 ·rcases hm a ha with h1|rfl
  ·exact h.of a h1 x hx
  ·rcases(A4y h i x).1 hx with h1|⟨k,_,h1⟩
   ·exact(h.getD i).2.1 x h1
   ·exact(h.getD k).2.1 x h1
 ·rcases hm a ha with h1|rfl
  ·exact h.ne a h1 hx
  ·rcases(A4y h i []).1 hx with h1|⟨k,_,h1⟩
   ·exact(h.getD i).2.2 h1
   ·exact(h.getD k).2.2 h1
 ·by_cases e:i=j
  ·subst e
   rcases Nat.lt_or_ge i r.length with hi|hi
   ·rw[A00,A2Q hi];exact(A4y h i x).2 (.inl hx)
   ·rw[A4r hi] at hx;cases hx
  ·rw[A00,getD_set_ne e];exact hx
theorem RowsE.folds {its:List Itm}:∀(l:List Nat) {r:List (List Nm)},RowsE its r→RowsE its (l.foldl (A00 its) r)∧LeE r (l.foldl (A00 its) r)
 | [],r,h=>⟨h,LeE.refl r⟩
 |i::l,r,h=>by
  obtain⟨h1,h2⟩:=h.step i
  obtain⟨h3,h4⟩:=RowsE.folds l h1
  exact⟨h3,h2.trans h4⟩
theorem RowsE.round {its:List Itm}{r:List (List Nm)} (h:RowsE its r):RowsE its (A07 its r)∧LeE r (A07 its r):=h.folds _
theorem B2a {its:List Itm}{r s:List (List Nm)} (hr:RowsE its r) (hs:RowsE its s) (h:LeE r s) (k:LeE s r):r=s:=by
 refine List.ext_getElem? (fun i=>?_)
 rcases Nat.lt_or_ge i r.length with hi|hi
 ·have h1:=A6W (hr.getD i).1 (hs.getD i).1 (fun x=>⟨h.2 i x,k.2 i x⟩)
  rw[List.getElem?_eq_getElem hi,List.getElem?_eq_getElem (by rw[←h.1];exact hi)]
  rw[List.getD_eq_getElem?_getD,List.getElem?_eq_getElem hi,List.getD_eq_getElem?_getD,List.getElem?_eq_getElem (by rw[←h.1];exact hi)] at h1
  exact congrArg some h1
 ·rw[List.getElem?_eq_none hi,List.getElem?_eq_none (by rw[←h.1];exact hi)]
theorem A9W {its:List Itm}:∀(l:List Nat) {r:List (List Nm)},RowsE its r→l.foldl (A00 its) r=r→∀i∈l,A00 its r i=r
 | [],_,_,_,i,hi=>by cases hi
 |j::l,r,h,e,i,hi=>by
  rw[List.foldl_cons] at e
  obtain⟨h1,h2⟩:=h.step j
  obtain⟨h3,h4⟩:=RowsE.folds l h1
  rw[e] at h4
  have hj:A00 its r j=r:=(B2a h h1 h2 h4).symm
  rcases List.mem_cons.1 hi with rfl|hi
  ·exact hj
  ·rw[hj] at e;exact A9W l h e i hi
end Go.Sp
end
