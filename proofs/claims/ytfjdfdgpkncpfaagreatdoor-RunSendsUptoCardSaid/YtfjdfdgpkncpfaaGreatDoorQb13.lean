/- Own work: texts PLex, PpB, PpC, SpecAtoi, one behind the other. -/
import Derived.Test.YtfjdfdgpkncpfaaGreatDoorQb12
import Derived.Lib.AtoiAll
set_option maxHeartbeats 64000000
section
namespace Go.Proofs.YtfjdfdgpkncpfaaGreatDoor
open Go.Proofs.Tryz
open Go.Fw
theorem A6A (c:UInt8) (w:World):
  Cal prog 109 #[.int .u8 (c.toNat:Int)] w fun v w'=>v=.bool (Sp.A1U c)∧w'=w:=by
 refine enter (N:=21) func109 rfl [(0,.int .u8 (c.toNat:Int))] Z4 rfl ?_
 repeat' (first|refine D7 ?_|refine D5 ?_|refine J8 ?_|refine J3 ?_|refine B3C ?_|refine A0i ?_|refine L8 ?_|refine Y1 ?_|(refine O0 (h1:=fun _=>?_) (h0:=fun _=>?_)<;>(try first|contradiction|(exfalso;omega)))|refine D8 ?_|refine A7 ?_|refine E5 ?_|refine A8 ?_|refine G8 ?_|refine H5 ?_)
 all_goals (refine⟨congrArg Value.bool ?_,rfl⟩;unfold Sp.A1U;rw[Bool.eq_iff_iff];simp;omega)
theorem A8j (c:UInt8) (w:World):
  Cal prog 110 #[.int .u8 (c.toNat:Int)] w fun v w'=>v=.bool (Sp.A1Z c)∧w'=w:=by
 refine enter (N:=9) func110 rfl [(0,.int .u8 (c.toNat:Int))] Z4 rfl ?_
 repeat' (first|refine D7 ?_|refine D5 ?_|refine J8 ?_|refine J3 ?_|refine B3C ?_|refine A0i ?_|refine Y1 ?_|(refine O0 (h1:=fun _=>?_) (h0:=fun _=>?_)<;>(try first|contradiction|(exfalso;omega)))|refine D8 ?_|refine A7 ?_|refine E5 ?_|refine A8 ?_|refine G8 ?_|refine H5 ?_)
 all_goals (refine⟨congrArg Value.bool ?_,rfl⟩;unfold Sp.A1Z;rw[Bool.eq_iff_iff];simp;omega)
theorem B4l (c:UInt8) (w:World):
  Cal prog 144 #[.int .u8 (c.toNat:Int)] w fun v w'=>v=.bool (Sp.A5M c)∧w'=w:=by
 refine enter (N:=13) func144 rfl [(0,.int .u8 (c.toNat:Int))] Z4 rfl ?_
 repeat' (first|refine D7 ?_|refine D5 ?_|refine J8 ?_|refine J3 ?_|refine L8 ?_|refine Y1 ?_|(refine O0 (h1:=fun _=>?_) (h0:=fun _=>?_)<;>(try first|contradiction|(exfalso;omega)))|refine D8 ?_|refine A7 ?_|refine E5 ?_|refine A8 ?_|refine G8 ?_|refine H5 ?_)
 all_goals (refine⟨congrArg Value.bool ?_,rfl⟩;unfold Sp.A5M;rw[Bool.eq_iff_iff];simp;omega)
theorem B9M (c:UInt8) (w:World):
  Cal prog 147 #[.int .u8 (c.toNat:Int)] w fun v w'=>v=.bool (Sp.A7r c)∧w'=w:=by
 refine enter (N:=12) func147 rfl [(0,.int .u8 (c.toNat:Int))] Z4 rfl ?_
 repeat' (first|refine D7 ?_|refine D5 ?_|refine D8 ?_|refine A7 ?_|refine E5 ?_|refine A8 ?_|refine E9 ?_)
 refine U4 (fun k=> [(0,.int .u8 (c.toNat:Int)),(4,.int .i64 ((k:Nat):Int))]) (fun k w'=>w'=w∧k≤12∧∀j,j<k→Sp.B0i.getD j 0≠c) (fun k=>12-k) 0 ⟨rfl,rfl,trivial⟩ ⟨rfl,by omega,by omega⟩ ?_
 rintro k w ⟨rfl,hk,hn⟩
 repeat' (first|refine D7 ?_|refine D5 ?_|refine J5 ?_|refine L8 ?_|refine Q4 ?_|refine A0o ?_|refine D8 ?_|refine A7 ?_|refine G5 ?_|refine G9 ?_|refine D9 ?_|refine O8 ?_|refine G6 ?_|refine E5 ?_|refine A8 ?_|refine E9 ?_|refine F8 ?_|refine O4 ?_|refine G8 ?_|refine H5 ?_|(refine D6 (ht:=fun _=>?_) (hf:=fun _=>?_)<;>(try first|contradiction|(exfalso;omega))))
 ·refine⟨congrArg Value.bool (Eq.symm ?_),rfl⟩
  rename_i h1 h2
  have h3:Sp.B0i.getD k 0=c:=toNat_inj h2
  have h4:k<Sp.B0i.length:=by simp[Sp.B0i];omega
  unfold Sp.A7r
  rw[List.any_eq_true]
  refine⟨c,?_,by simp⟩
  rw[←h3,List.getD_eq_getElem?_getD,List.getElem?_eq_getElem h4]
  exact List.getElem_mem h4
 ·rename_i h1 h2
  refine J9 (k+1) ⟨rfl,rfl,trivial⟩ ⟨rfl,by omega,fun j hj=>?_⟩ (by omega)
  by_cases hjk:j=k
  ·subst hjk;exact fun e=>h2 (by rw[←e];rfl)
  ·exact hn j (by omega)
 ·refine⟨congrArg Value.bool (Eq.symm ?_),rfl⟩
  rename_i h1
  obtain rfl:k=12:=by omega
  unfold Sp.A7r
  rw[List.any_eq_false]
  intro x hx
  obtain⟨j,hj,rfl⟩:=List.mem_iff_getElem.1 hx
  have:=hn j (by simpa[Sp.B0i] using hj)
  rw[List.getD_eq_getElem?_getD,List.getElem?_eq_getElem hj] at this
  simpa using this
theorem B6p (c:UInt8) (w:World):
  Cal prog 145 #[.int .u8 (c.toNat:Int)] w fun v w'=>v=.bool (Sp.B0N c)∧w'=w:=by
 refine enter (N:=5) func145 rfl [(0,.int .u8 (c.toNat:Int))] Z4 rfl ?_
 repeat' (first|refine D7 ?_|refine D5 ?_|refine X9 ?_|refine D8 ?_|refine A7 ?_|refine E5 ?_|refine A8 ?_|refine G8 ?_|refine H5 ?_)
 all_goals (refine⟨congrArg Value.bool ?_,rfl⟩;unfold Sp.B0N;rw[Bool.eq_iff_iff];simp;omega)
theorem B6n (c:UInt8) (w:World):
  Cal prog 146 #[.int .u8 (c.toNat:Int)] w fun v w'=>v=.bool (Sp.A3c c)∧w'=w:=by
 refine enter (N:=9) func146 rfl [(0,.int .u8 (c.toNat:Int))] Z4 rfl ?_
 repeat' (first|(refine Q7 (hc:=by exact A6A c _) (k:=?_);rintro _ _ ⟨rfl,rfl⟩)|(refine Q7 (hc:=by exact A8j c _) (k:=?_);rintro _ _ ⟨rfl,rfl⟩)|refine D7 ?_|refine D5 ?_|refine J8 ?_|refine J3 ?_|refine Y1 ?_|(refine A4H (h1:=fun _=>?_) (h0:=fun _=>?_)<;>(fail_if_success contradiction))|refine D8 ?_|refine A7 ?_|refine E5 ?_|refine A8 ?_|refine G8 ?_|refine H5 ?_)
 all_goals (refine⟨congrArg Value.bool ?_,rfl⟩;unfold Sp.A3c;simp[*])
theorem B0u (fi:FuncId) [Own prog fi] (F:UInt8→Bool) (hF:∀c w,Cal prog fi #[.int .u8 (c.toNat:Int)] w fun v w'=>v=.bool (F c)∧w'=w)
  (s:List UInt8) (hs:s≠ []) (hl:s.length≤9223372036854775807) (b:Nat) (w:World) (hb:w.heap[b]?=some (.cells (str s).cells 9 (0,0))):
  Cal prog 143 #[.func (.func fi) #[] #[],.pointer (some ⟨b,0,none⟩)] w fun v w'=>v=.int .i64 (Sp.run F s.tail:Int)∧w'=w:=by
 have hs':0<s.length:=List.length_pos_iff.2 hs
 refine enter (N:=19) func143 rfl [(0,.func (.func fi) #[] #[]),(1,.pointer (some ⟨b,0,none⟩))] A0B rfl ?_
 repeat' (first|refine D5 ?_|refine D8 ?_|refine A7 ?_|refine E5 ?_|refine A8 ?_|refine E9 ?_)
 refine U4 (fun k=> [(0,.func (.func fi) #[] #[]),(1,.pointer (some ⟨b,0,none⟩)),(4,.int .i64 ((k:Nat):Int))])
  (fun k w'=>w'=w∧1≤k∧k≤s.length∧∀j,1≤j→j<k→F (s.getD j 0)=true) (fun k=>s.length-k) 1 ⟨rfl,rfl,rfl,trivial⟩ ⟨rfl,by omega,by omega,by omega⟩ ?_
 rintro k w ⟨rfl,hk0,hk,hn⟩
 repeat' (first|(refine A4w (hc:=by exact hF _ _) (k:=?_);rintro _ _ ⟨rfl,rfl⟩)|refine D7 ?_|refine D5 ?_|refine J8 ?_|refine J3 ?_|refine J5 ?_|refine A0Z ?_|refine Q4 ?_|refine A0o ?_|refine A21 (k:=?_)|refine Y1 ?_|(refine O0 (h1:=fun _=>?_) (h0:=fun _=>?_)<;>(try first|contradiction|(exfalso;omega)))|refine D8 ?_|refine A7 ?_|refine G9 ?_|refine D9 ?_|refine G6 ?_|refine E5 ?_|refine A8 ?_|refine E9 ?_|refine F8 ?_|refine O4 ?_|refine G8 ?_|refine H5 ?_|refine F6 ?_|refine A5a (ht:=fun _=>?_) (hf:=fun _=>?_))
 ·rename_i h1 h2
  refine J9 (k+1) ⟨rfl,rfl,rfl,trivial⟩ ⟨rfl,by omega,by omega,fun j h3 h4=>?_⟩ (by omega)
  by_cases hjk:j=k
  ·subst hjk;exact h2
  ·exact hn j h3 (by omega)
 ·rename_i h1 h2
  refine⟨?_,rfl⟩
  rw[Sp.B7L F s k hk0 hn hk (.inr h2)]
 ·rename_i h1
  refine⟨?_,rfl⟩
  rw[Sp.B7L F s k hk0 hn hk (.inl (by omega))]
theorem C0S (s:List UInt8) (hs:s≠ []) (hl:s.length≤9223372036854775807) (w:World):
  Cal prog 115 #[str s] w fun v w'=>v=.tuple #[.int .i64 ((Sp.one s).1:Int),.int .i64 ((Sp.one s).2:Int)]∧Kept [] w w':=by
 have hs':0<s.length:=List.length_pos_iff.2 hs
 refine enter (N:=32) func115 rfl [(0,str s)] Z4 rfl ?_
 repeat' (first|(refine B7s (k:=?_);intro b w1 hbe hb hk)|(refine Q7 (hc:=by exact B4l _ _) (k:=?_);rintro _ _ ⟨rfl,rfl⟩)|(refine Q7 (hc:=by exact A6A _ _) (k:=?_);rintro _ _ ⟨rfl,rfl⟩)|(refine Q7 (hc:=by exact A8j _ _) (k:=?_);rintro _ _ ⟨rfl,rfl⟩)|(refine Q7 (hc:=by exact B9M _ _) (k:=?_);rintro _ _ ⟨rfl,rfl⟩)|(refine A4w (hc:=by exact B0u _ Sp.A5M B4l s hs hl _ _ (by assumption)) (k:=?_);rintro _ _ ⟨rfl,rfl⟩)|(refine A4w (hc:=by exact B0u _ Sp.B0N B6p s hs hl _ _ (by assumption)) (k:=?_);rintro _ _ ⟨rfl,rfl⟩)|(refine A4w (hc:=by exact B0u _ Sp.A3c B6n s hs hl _ _ (by assumption)) (k:=?_);rintro _ _ ⟨rfl,rfl⟩)|(refine A4w (hc:=by exact B0u _ Sp.A1Z A8j s hs hl _ _ (by assumption)) (k:=?_);rintro _ _ ⟨rfl,rfl⟩)|refine D7 ?_|refine D5 ?_|refine L8 ?_|refine A0r ?_|refine A0o ?_|refine A21 (k:=?_)|refine D8 ?_|refine A7 ?_|refine G5 ?_|refine D9 ?_|refine O8 ?_|refine E5 ?_|refine A8 ?_|refine E9 ?_|refine F8 ?_|refine G8 ?_|refine B4k ?_|(refine D6 (ht:=fun _=>?_) (hf:=fun _=>?_)<;>(try first|contradiction|(exfalso;omega)))|refine A5a (ht:=fun _=>?_) (hf:=fun _=>?_))
 all_goals
  refine⟨?_,hk⟩
  cases s with
  |nil=>exact absurd rfl hs
  |cons c r=>
   simp only[List.getD_cons_zero,Int.toNat_zero,List.tail_cons] at *
   have e:∀m:Nat,((m:Int)=35↔m=35):=fun m=>by omega
   simp_all [Sp.one]
structure TokLoop where
 at_:Nat
 out:Value
 acc:List Sp.Tok
theorem B1H (s:List UInt8) (hl:s.length≤1099511627776) (w:World):
  Cal prog 89 #[str s] w fun v w'=>w'.ownsRow w.heap.size 81 3 v (Sp.O3 s).length ((Sp.O3 s).flatMap A1Q)∧Kept [] w w':=by
 refine enter (N:=36) func89 rfl [(0,str s)] Z4 rfl ?_
 repeat' (first|refine D5 ?_|refine D8 ?_|refine A7 ?_|refine E5 ?_|refine A8 ?_|refine E9 ?_)
 refine U4 (fun x:TokLoop=> [(0,str s),(3,x.out),(4,.int .i64 (x.at_:Int))])
  (fun x w'=>x.at_≤s.length∧x.acc.length≤x.at_∧x.acc++Sp.A2P s x.at_=Sp.O3 s∧w'.ownsRow w.heap.size 81 3 x.out x.acc.length (x.acc.flatMap A1Q)∧Kept [] w w')
  (fun x=>s.length-x.at_) ⟨0,.slice none 0 0,[]⟩ ⟨rfl,rfl,rfl,trivial⟩ ⟨by simp,by simp,by simp[Sp.A4E],World.ownsRow_nil _ _ _ _,Kept.refl _ _⟩ ?_
 rintro⟨k,out,acc⟩ w1 ⟨hk,hacc,heq,hown,hkept⟩
 dsimp only at hk hacc heq hown hkept ⊢
 have hone:=fun h:s.drop k≠ []=>Sp.A3K _ h
 have hstep:=fun h:k<s.length=>Sp.A26 s k h
 repeat' (first|(refine Q7 (hc:=by exact C0S (s.drop k) (by simp;omega) (by simp;omega) _) (k:=?_);rintro _ w2 ⟨rfl,hk2⟩;have h1:=hone (by simp;omega);simp only[List.length_drop] at h1)|(refine A6l (hown:=by exact hk2.own hown (by simp)) (hbase:=by have:=hkept.size;have:=hk2.size;omega) (k:=?_);intro v3 w3 hown3 hk3 hb3)|refine D7 ?_|refine D5 ?_|refine J5 ?_|refine A2L ?_|refine A0Z ?_|refine V9 ?_|refine Q4 ?_|refine B0P ?_|refine A9F ?_|refine Q9 ?_|refine D8 ?_|refine A7 ?_|refine G9 ?_|refine D9 ?_|refine G6 ?_|refine E5 ?_|refine A8 ?_|refine E9 ?_|refine F8 ?_|refine O4 ?_|refine G8 ?_|refine H5 ?_|(refine D6 (ht:=fun _=>?_) (hf:=fun _=>?_)<;>(try first|contradiction|(exfalso;omega))))
 ·rename_i h0 h2
  have hst:=hstep (by omega)
  rw[if_pos (by omega)] at hst
  refine J9 (⟨k+(Sp.one (s.drop k)).2,v3,acc++ [⟨(Sp.one (s.drop k)).1,(s.drop k).take (Sp.one (s.drop k)).2,k⟩]⟩:TokLoop) (by exact⟨rfl,rfl,rfl,trivial⟩) ?_ ?_
  ·refine⟨by dsimp only;omega,by simp;omega,by rw[←heq,hst];simp,?_,?_⟩
   ·have e:((k:Int)+((Sp.one (s.drop k)).2:Int)).toNat-(k:Int).toNat=(Sp.one (s.drop k)).2:=by omega
    rw[e] at hown3
    simpa[A1Q,List.flatMap_append,Value.cells] using hown3
   ·exact(hkept.step0 hk2).step hk3 (fun x hx=> .inr (by
     cases ho:out.ownBlock with
     |none=>simp[ho] at hx
     |some g=>simp[ho] at hx;subst hx;exact(hown.lt _ ho).1))
  ·dsimp only;omega
 ·rename_i h0 h2
  have hst:=hstep (by omega)
  rw[if_neg (by omega),List.nil_append] at hst
  refine J9 (⟨k+(Sp.one (s.drop k)).2,out,acc⟩:TokLoop) (by exact⟨rfl,rfl,rfl,trivial⟩) ?_ ?_
  ·exact⟨by dsimp only;omega,by dsimp only;omega,by rw[←heq,hst],hk2.own hown (by simp),hkept.step0 hk2⟩
  ·dsimp only;omega
 ·rename_i h0
  rw[Sp.A3U s k (by omega),List.append_nil] at heq
  rw[←heq]
  exact⟨hown,hkept⟩
theorem C0T (w:World):Cal prog 81 #[] w fun v w'=>w'.ownsRow w.heap.size 9 1 v 9 (Sp.A22.map str)∧Kept [] w w':=by
 refine enter (N:=2) func81 rfl [] B9o rfl ?_
 repeat' (first|(refine A4h (by rfl) (by rfl) (by rfl) (by rfl) (by rfl) (by decide) ?_;intro b w1 hbe hb hk)|refine D5 ?_|refine D8 ?_|refine A7 ?_|refine E5 ?_|refine A8 ?_|refine G8 ?_|refine H5 ?_)
 exact⟨B0S hb (by rfl) (by omega) (by decide),hk⟩
theorem B9N (s:List UInt8) (hl:s.length≤9223372036854775807) (w:World):Cal prog 82 #[str s] w fun v w'=>v=.bool (Sp.A7M s)∧w'=w:=by
 refine enter (N:=36) func82 rfl [(0,str s)] Z4 rfl ?_
 repeat' (first|(refine Q7 (hc:=by exact A6A _ _) (k:=?_);rintro _ w ⟨rfl,rfl⟩)|refine D7 ?_|refine D5 ?_|refine J8 ?_|refine J3 ?_|refine J5 ?_|refine A2L ?_|refine A0Z ?_|refine U9 ?_|refine A0o ?_|refine Y1 ?_|(refine O0 (h1:=fun _=>?_) (h0:=fun _=>?_)<;>(try first|contradiction|(exfalso;omega)))|refine D8 ?_|refine A7 ?_|refine G5 ?_|refine E5 ?_|refine A8 ?_|refine E9 ?_|refine F8 ?_|refine G8 ?_|refine H5 ?_|refine F9 ?_|refine A5a (ht:=fun _=>?_) (hf:=fun _=>?_))
 ·refine⟨?_,rfl⟩;rename_i h;rw[show Sp.A7M s=false by simp[Sp.A7M];omega]
 ·refine⟨?_,rfl⟩;rename_i h h1;rw[show Sp.A7M s=false by simp[Sp.A7M];omega]
 ·refine⟨?_,rfl⟩;rename_i h h1 h2;have h2':Sp.A1U (s.getD 0 0)=false:=by simpa using h2
  rw[show Sp.A7M s=false by unfold Sp.A7M;rw[h2'];simp]
 ·rename_i h0 h1 h2
  have h2':Sp.A1U (s.getD 0 0)=true:=by simpa using h2
  refine U4 (fun k=> [(0,str s),(19,.int .i64 (s.length:Int)),(20,.int .i64 ((k:Nat):Int))]) (fun k w'=>w'=w∧k≤s.length∧∀j,j<k→Sp.A3c (s.getD j 0)=true) (fun k=>s.length-k) 0 ⟨rfl,rfl,rfl,trivial⟩ ⟨rfl,by omega,by omega⟩ ?_
  rintro k w ⟨rfl,hk,hn⟩
  repeat' (first|(refine Q7 (hc:=by exact A6A _ _) (k:=?_);rintro _ w ⟨rfl,rfl⟩)|(refine Q7 (hc:=by exact A8j _ _) (k:=?_);rintro _ w ⟨rfl,rfl⟩)|refine D7 ?_|refine D5 ?_|refine J8 ?_|refine J3 ?_|refine J5 ?_|refine U9 ?_|refine Q4 ?_|refine A0o ?_|refine Y1 ?_|(refine A4H (h1:=fun _=>?_) (h0:=fun _=>?_)<;>(fail_if_success contradiction))|refine D8 ?_|refine A7 ?_|refine G5 ?_|refine G9 ?_|refine D9 ?_|refine O8 ?_|refine G6 ?_|refine E5 ?_|refine A8 ?_|refine E9 ?_|refine F8 ?_|refine O4 ?_|refine G8 ?_|refine H5 ?_|refine F6 ?_|(refine D6 (ht:=fun _=>?_) (hf:=fun _=>?_)<;>(try first|contradiction|(exfalso;omega)))|refine A5a (ht:=fun _=>?_) (hf:=fun _=>?_))
  ·rename_i h3 h4 h5
   refine⟨?_,rfl⟩
   rw[B9k (k:=k) (by omega) (by simp at h4 h5;simp[Sp.A3c,h4,h5])]
  ·rename_i h3 h4 h5
   refine J9 (k+1) (by exact⟨rfl,rfl,rfl,trivial⟩) ⟨rfl,by omega,fun j hj=>?_⟩ (by omega)
   by_cases hjk:j=k
   ·subst hjk;simp at h5;simp[Sp.A3c,h5]
   ·exact hn j (by omega)
  ·rename_i h3 h4
   refine J9 (k+1) (by exact⟨rfl,rfl,rfl,trivial⟩) ⟨rfl,by omega,fun j hj=>?_⟩ (by omega)
   by_cases hjk:j=k
   ·subst hjk;simp at h4;simp[Sp.A3c,h4]
   ·exact hn j (by omega)
  ·rename_i h3
   refine⟨?_,rfl⟩
   have ha:s.all Sp.A3c=true:=(Sp.B4g _ _).2 (fun j hj=>hn j (by omega))
   rw[show Sp.A7M s=true by unfold Sp.A7M;rw[h2',ha];simp;omega]
theorem A58 (s:List UInt8) (hl:s.length≤9223372036854775807) (w:World):Cal prog 52 #[str s] w fun v w'=>v=.bool (Sp.name s)∧Kept [] w w':=by
 refine enter (N:=17) func52 rfl [(0,str s)] Z4 rfl ?_
 repeat' (first|(refine Q7 (hc:=by exact C0T _) (k:=?_);rintro _ w1 ⟨hown,hk1⟩;obtain⟨g,cap,cur,rfl,hbg,hg,hcap,hcur,_⟩:=B2u hown (by decide))|refine D7 ?_|refine D5 ?_|refine G7 ?_|refine D8 ?_|refine A7 ?_|refine E5 ?_|refine A8 ?_|refine E9 ?_)
 refine U4 (fun k=> [(0,str s),(5,.slice (some ⟨g,0,none⟩) 9 cap),(6,.int .i64 9),(7,.int .i64 ((k:Nat):Int))]) (fun k w'=>w'=w1∧k≤9∧∀j,j<k→s≠Sp.A22.getD j []) (fun k=>9-k) 0 ⟨rfl,rfl,rfl,rfl,trivial⟩ ⟨rfl,by omega,by omega⟩ ?_
 rintro k w1 ⟨rfl,hk,hn⟩
 have hcell:k<9→cur[0+(k:Int).toNat *1]?=some (str (Sp.A22.getD k [])):=fun h=>hcur _ _ (by
  have h9:k<Sp.A22.length:=h
  simp[List.getD_eq_getElem?_getD,List.getElem?_eq_getElem h9])
 repeat' (first|(refine A21 (hc:=by exact hcell (by omega)) (k:=?_))|(refine Q7 (hc:=by exact B9N s hl _) (k:=?_);rintro _ w ⟨rfl,rfl⟩)|refine D7 ?_|refine D5 ?_|refine J5 ?_|refine U0 ?_|refine Q4 ?_|refine Z8 (k:=?_)|refine D8 ?_|refine A7 ?_|refine G5 ?_|refine G9 ?_|refine D9 ?_|refine O8 ?_|refine G6 ?_|refine E5 ?_|refine A8 ?_|refine E9 ?_|refine F8 ?_|refine O4 ?_|refine G8 ?_|refine H5 ?_|(refine D6 (ht:=fun _=>?_) (hf:=fun _=>?_)<;>(try first|contradiction|(exfalso;omega))))
 ·rename_i h0 h1
  refine⟨?_,hk1⟩
  have h9:k<Sp.A22.length:=show k<9 by omega
  have:Sp.A22.any (fun w=>decide (s=w))=true:=by
   rw[List.any_eq_true]
   exact⟨_,List.getElem_mem h9,by rw[h1,List.getD_eq_getElem?_getD,List.getElem?_eq_getElem h9];simp⟩
  simp only[Sp.name,this,Bool.not_true,Bool.false_and]
 ·rename_i h0 h1
  refine J9 (k+1) (by exact⟨rfl,rfl,rfl,rfl,trivial⟩) ⟨rfl,by omega,fun j hj=>?_⟩ (by omega)
  by_cases hjk:j=k
  ·subst hjk;exact h1
  ·exact hn j (by omega)
 ·rename_i h0
  refine⟨?_,hk1⟩
  have:Sp.A22.any (fun w=>decide (s=w))=false:=by
   rw[List.any_eq_false]
   intro x hx
   obtain⟨j,hj,rfl⟩:=List.mem_iff_getElem.1 hx
   have:=hn j (by have:j<9:=hj;omega)
   rw[List.getD_eq_getElem?_getD,List.getElem?_eq_getElem hj] at this
   simpa using this
  simp only[Sp.name,this,Bool.not_false,Bool.true_and]
structure CLoop where
 at_:Nat
 out:Value
 acc:List Nat
theorem B9L (s:List UInt8) (hl:s.length≤1099511627776) (w:World):
  Cal prog 62 #[str s] w fun v w'=>w'.ownsRow w.heap.size 3 1 v (Sp.U2 s).length ((Sp.U2 s).flatMap A1q)∧Kept [] w w':=by
 refine enter (N:=53) func62 rfl [(0,str s)] Z4 rfl ?_
 repeat' (first|(refine Q7 (hc:=by exact B1H s hl _) (k:=?_);rintro tv w1 ⟨htv,hk1⟩;obtain⟨ta,tc,rfl⟩:=A3o htv)|refine D7 ?_|refine D5 ?_|refine G7 ?_|refine D8 ?_|refine A7 ?_|refine E5 ?_|refine A8 ?_|refine E9 ?_)
 have htl:=A4F s
 refine U4 (fun x:CLoop=> [(0,str s),(3,x.out),(8,.slice ta (Sp.O3 s).length tc),(9,.int .i64 ((Sp.O3 s).length:Int)),(10,.int .i64 (x.at_:Int))])
  (fun x w'=>x.at_≤(Sp.O3 s).length∧x.acc.length≤x.at_∧x.acc=((Sp.O3 s).take x.at_).foldl (Sp.A0m s) []∧w'.ownsRow w1.heap.size 3 1 x.out x.acc.length (x.acc.flatMap A1q)∧Kept [] w1 w')
  (fun x=>(Sp.O3 s).length-x.at_) ⟨0,.slice none 0 0,[]⟩ ⟨rfl,rfl,rfl,rfl,rfl,trivial⟩ ⟨by simp,by simp,by simp,World.ownsRow_nil _ _ _ _,Kept.refl _ _⟩ ?_
 rintro⟨k,out,acc⟩ w2 ⟨hk,hacc,heq,hown,hkept⟩
 dsimp only at hk hacc heq hown hkept ⊢
 by_cases hlt:k<(Sp.O3 s).length
 ·obtain⟨g,cap,cur,htve,hbg,hg,hcap,hcur,hsz⟩:=B2u htv (by omega)
  injection htve with e1 e2 e3
  subst e1
  have hg2:=hkept.get0 hg
  have htok:(Sp.O3 s)[k]?=some (Sp.O3 s)[k]:=List.getElem?_eq_getElem hlt
  have hok:=Sp.A1u s _ (List.getElem_mem hlt)
  have hfold:=Sp.B5p (Sp.A0m s) [] _ _ _ htok
  have hcell:∀(j:Nat) (v:Value),(A1Q (Sp.O3 s)[k])[j]?=some v→cur[0+(k:Int).toNat *3+j]?=some v:=fun j v hv=>by
   rw[show 0+(k:Int).toNat *3+j=k *3+j by omega]
   exact hcur _ _ (B28 _ _ _ htok j v hv)
  generalize (Sp.O3 s)[k]=t at htok hok hfold hcell
  have hp1:=hok.pos
  obtain⟨oa,oc,rfl⟩:=A3o hown
  repeat' (first|(refine A9a (vs:=A1Q t) (hb:=hg2) (hc:=hcell) (k:=?_))|(refine B7u (k:=?_);intro b w3 hbe hb hkb)|(refine A6l (hown:=by exact hkb.own hown (by simp)) (hbase:=by have:=hkept.size;have:=hkb.size;omega) (k:=?_);intro v3 w4 hown3 hk3 hb3)|refine D7 ?_|refine D5 ?_|refine J8 ?_|refine J3 ?_|refine J5 ?_|refine L8 ?_|refine U0 ?_|refine G7 ?_|refine Q4 ?_|refine A3M ?_|refine A0o ?_|refine C9 ?_|refine Z8 (k:=?_)|refine A21 (k:=?_)|refine Y1 ?_|(refine O0 (h1:=fun _=>?_) (h0:=fun _=>?_)<;>(try first|contradiction|(exfalso;omega)))|refine D8 ?_|refine A7 ?_|refine D9 ?_|refine E5 ?_|refine A8 ?_|refine E9 ?_|refine F8 ?_|refine F9 ?_|(refine D6 (ht:=fun _=>?_) (hf:=fun _=>?_)<;>(try first|contradiction|(exfalso;omega))))
  all_goals
   have e10:((t.pos:Int)-1).toNat=t.pos-1:=by omega
   rw[←heq] at hfold
  all_goals first
   |(have hst:Sp.A18 s t=true∨acc= []:=by
      simp only[Sp.A18,Bool.and_eq_true,Bool.or_eq_true,decide_eq_true_eq, ←e10]
      simp only[Sp.wFn,Sp.B73]
      first
       |exact .inr (List.eq_nil_of_length_eq_zero (by omega))
       |exact .inl ⟨⟨by omega,.inl (by assumption)⟩,by omega⟩
       |exact .inl ⟨⟨by omega,.inr (by assumption)⟩,by omega⟩
     rw[Sp.A0m,if_pos hst] at hfold
     refine J9 (⟨k+1,v3,acc++ [t.pos]⟩:CLoop) (by exact⟨rfl,rfl,rfl,rfl,rfl,trivial⟩) ?_ (by dsimp only;omega)
     refine⟨by dsimp only;omega,by simp;omega,hfold.symm,?_,?_⟩
     ·simpa[A1q,List.flatMap_append,Value.cells,A1Q] using hown3
     ·exact(hkept.step0 hkb).step hk3 (fun x hx=> .inr (by
      cases oa with
      |none=>simp[Value.ownBlock] at hx
      |some a=>simp[Value.ownBlock] at hx;subst hx;exact(hown.lt _ rfl).1)))
   |(have hst:¬(Sp.A18 s t=true∨acc= []):=by
      rintro(h|h)
      ·simp only[Sp.A18,Bool.and_eq_true,Bool.or_eq_true,decide_eq_true_eq, ←e10] at h
       simp only[Sp.wFn,Sp.B73] at h
       obtain⟨⟨h1,h2⟩,h3⟩:=h
       rcases h2 with h2|h2<;>first|omega|exact absurd h2 (by assumption)
      ·have h0:acc.length=0:=by rw[h];rfl
       omega
     rw[Sp.A0m,if_neg hst] at hfold
     refine J9 (⟨k+1,.slice oa acc.length oc,acc⟩:CLoop) (by exact⟨rfl,rfl,rfl,rfl,rfl,trivial⟩) ?_ (by dsimp only;omega)
     exact⟨by dsimp only;omega,by dsimp only;omega,hfold.symm,hkb.own hown (by simp),hkept.step0 hkb⟩)
 ·have hkk:k=(Sp.O3 s).length:=by omega
  have hcs:Sp.U2 s=acc:=by rw[heq,hkk,List.take_length];rfl
  repeat' (first|refine D7 ?_|refine D5 ?_|refine J5 ?_|refine D8 ?_|refine A7 ?_|refine G9 ?_|refine G6 ?_|refine E5 ?_|refine A8 ?_|refine O4 ?_|refine G8 ?_|refine H5 ?_|(refine D6 (ht:=fun _=>?_) (hf:=fun _=>?_)<;>(try first|contradiction|(exfalso;omega))))
  rw[hcs]
  exact⟨A3p hown hk1.size,hk1.trans hkept⟩
abbrev ToQ (pb:Nat) (la:Option Addr) (lc:Nat) (T:Sp.Src) (deep:Nat) (I:O5) (s:Sp.St) (val:Value):Value→O5→List HItem→Prop:=
 fun v I' H'=>v=val∧I=I'∧∃da dc,H'=QSt pb la lc T s deep da dc
theorem B1t (pb:Nat) (la:Option Addr) (lc:Nat) (T:Sp.Src) (s:Sp.St) (g:Sp.Dg) (deep:Nat) (da:Option Addr) (dc:Nat):
  [.obj pb (.cells [.slice la T.l.length lc,nt s.i,nt T.size,.slice da (s.ds.length+1) dc,nt deep].toArray 177 (0,0)),.row (.slice da (s.ds.length+1) dc) 92 4 (s.ds.length+1) (s.ds.flatMap A3w++A3w g)]=QSt pb la lc T ⟨s.i,s.ds++ [g]⟩ deep da dc:=by
 simp[List.flatMap_append]
section
variable {I:O5}{pb deep lc dc:Nat}{la da:Option Addr}{T:Sp.Src}
theorem A0f (s:Sp.St) (t:List UInt8) (_ht:t≠ []) (hr:A1o I T la lc) (hT:Ok T) (hi:s.i≤T.l.length):
  CalM prog 90 #[ptr pb,str t] I (QSt pb la lc T s deep da dc) (ToQ pb la lc T deep I (if T.is s.i t=true then s.next else s) (.bool (T.is s.i t))):=by
 refine CalM.of fun w E hm=>enter (N:=28) func90 rfl [(0,ptr pb),(1,str t)] A0B rfl ?_
 have h2:=hT.size
 have h3:=hT.len
 by_cases hq:T.is s.i t=true
 ·have hlt:=Sp.is_lt hq
  have hte:(T.tok s.i).text=t:=by simp only[Sp.Src.is,Bool.and_eq_true,decide_eq_true_eq] at hq;exact hq.2
  rw[if_pos hq,hq]
  have hpk:=A06 (pb:=pb) (deep:=deep) (da:=da) (dc:=dc) s hr
  rw[hte] at hpk
  repeat' (first|(refine V3 ?_ hm (hc:=hpk))|refine H6 ?_ hm|refine P8 ?_ hm|(refine J6 hm (k:=?_);clear hm;intro _ hm;try simp only[F7] at hm)|refine D7 ?_|refine D5 ?_|refine E8 ?_|refine Q4 ?_|refine C9 ?_|refine D8 ?_|refine A7 ?_|refine E5 ?_|refine A8 ?_|refine F8 ?_|refine G8 ?_|refine H5 ?_|refine O6 ?_|(refine W9 ?_;intro _ hkq;replace hm:=hm.kept0 hkq;clear hkq)|(refine D6 (ht:=fun _=>?_) (hf:=fun _=>?_)<;>(try first|contradiction|(exfalso;omega)))|refine U3 ?_|refine A0p ?_|refine A39 ?_|refine A0A ?_|refine O1 ?_|refine J4 ?_|refine H7 ?_|(refine U6 (fun _=>?_) (h1:=fun _=>?_)<;>(try first|contradiction|(exfalso;omega))))
  all_goals try (exfalso;first|omega|simp_all;done)
  exact⟨I,_,⟨rfl,rfl,da,dc,rfl⟩,hm⟩
 ·rw[if_neg hq,show T.is s.i t=false by simpa using hq]
  by_cases hlt:s.i<T.l.length
  ·have hte:(T.tok s.i).text≠t:=by
    intro e;exact hq (by simp[Sp.Src.is,hlt,e])
   repeat' (first|(refine V3 ?_ hm (hc:=A06 s hr))|refine D5 ?_|refine D8 ?_|refine A7 ?_|refine G5 ?_|refine E5 ?_|refine A8 ?_|refine G8 ?_|refine H5 ?_|refine O6 ?_|(refine W9 ?_;intro _ hkq;replace hm:=hm.kept0 hkq;clear hkq)|refine F9 ?_|refine U3 ?_|refine V8 ?_|refine A0A ?_|refine A2k ?_|(refine U6 (fun _=>?_) (h1:=fun _=>?_)<;>(try first|contradiction|(exfalso;omega))))
   all_goals try (exfalso;first|omega|simp_all;done)
   all_goals exact⟨I,_,⟨rfl,rfl,da,dc,rfl⟩,hm⟩
  ·have hei:s.i=T.l.length:=by omega
   repeat' (first|(refine V3 ?_ hm (hc:=A06 s hr))|refine P8 ?_ hm|refine D5 ?_|refine D8 ?_|refine A7 ?_|refine G5 ?_|refine E5 ?_|refine A8 ?_|refine G8 ?_|refine H5 ?_|refine O6 ?_|(refine W9 ?_;intro _ hkq;replace hm:=hm.kept0 hkq;clear hkq)|refine F9 ?_|(refine D6 (ht:=fun _=>?_) (hf:=fun _=>?_)<;>(try first|contradiction|(exfalso;omega)))|refine U3 ?_|refine V8 ?_|refine A0p ?_|refine A39 ?_|refine A0A ?_|refine O1 ?_|refine J4 ?_|refine H7 ?_|refine A2k ?_|(refine U6 (fun _=>?_) (h1:=fun _=>?_)<;>(try first|contradiction|(exfalso;omega))))
   all_goals try (exfalso;first|omega|simp_all;done)
   all_goals exact⟨I,_,⟨rfl,rfl,da,dc,rfl⟩,hm⟩
theorem A2c (s:Sp.St) (e:Nat) (hr:A1o I T la lc) (hT:Ok T) (hi:s.i≤T.l.length) (hd:s.ds.length<1099511627776):
  CalM prog 96 #[ptr pb,nt e] I (QSt pb la lc T s deep da dc) (ToQ pb la lc T deep I (s.bad T e) (.tuple #[])):=by
 refine CalM.of fun w E hm=>enter (N:=59) func96 rfl [(0,ptr pb),(1,nt e)] A0B rfl ?_
 have h1:=hT.at_ s.i
 have h2:=hT.size
 have h3:=hT.len
 by_cases hlt:s.i<T.l.length
 ·have htk:=A14 hlt
  repeat' (first|(refine A0n ?_ (hr:=by exact hr) (he:=by intro _;rfl) (hz:=by exact htk);intro b1 o1 hp1)|(refine A0I (id:=3) (hm.perm pm1_1) [0,1,2,3,4,5,7,8,9] [6,10,11,12,13] 14 (h:=?_);clear hm;intro wd hR hm)|(refine A2A (d:=53) ?_ hR hm (hc:=A06 s hr);clear hm;intro _ hm)|(refine A2A (d:=49) ?_ hR hm (hc:=A0k s hr);clear hm;intro _ hm)|refine Y7 ?_ hR|refine A5O ?_ hm|(refine A1N (d:=56) ?_ hm;clear hm;intro a56 cp56 _ _ hm;replace hm:=hR.back hm;clear hR;try simp only[F7] at hm)|refine H6 ?_ hm|refine P8 ?_ hm|refine X8 ?_ hm|(refine J6 hm (k:=?_);clear hm;intro _ hm;try simp only[F7] at hm)|refine D7 ?_|refine D5 ?_|refine E8 ?_|refine C9 ?_|refine D8 ?_|refine A7 ?_|refine E5 ?_|refine A8 ?_|refine X3 ?_|refine O6 ?_|(refine W9 ?_;intro _ hkq;replace hm:=hm.kept0 hkq;clear hkq)|(refine D6 (ht:=fun _=>?_) (hf:=fun _=>?_)<;>(try first|contradiction|(exfalso;omega)))|refine U3 ?_|refine A1f ?_|refine A03 ?_|refine B5R ?_|refine O1 ?_|refine J4 ?_|refine A9h ?_|refine H7 ?_|refine A0P ?_|refine X5 ?_|refine Q3 ?_|refine A0s ?_)
  exact⟨I,_,⟨rfl,rfl,_,_,B1t _ _ _ _ _ ⟨_,_,_,_⟩ _ _ _⟩,hm.swap⟩
 ·have he:T.tok s.i=⟨0,[],T.size⟩:=Sp.A2S (by omega)
  rw[Sp.St.bad,he]
  have hpk:=A06 (pb:=pb) (deep:=deep) (da:=da) (dc:=dc) s hr
  have hhr:=A0k (pb:=pb) (deep:=deep) (da:=da) (dc:=dc) s hr
  rw[he] at hpk hhr
  repeat' (first|(refine A0I (id:=3) (hm.perm pm1_1) [0,1,2,3,4,5,7,8,9] [6,10,11,12,13] 14 (h:=?_);clear hm;intro wd hR hm)|(refine A2A (d:=53) ?_ hR hm (hc:=hpk);clear hm;intro _ hm)|(refine A2A (d:=49) ?_ hR hm (hc:=hhr);clear hm;intro _ hm)|refine Y7 ?_ hR|refine A5O ?_ hm|(refine A1N (d:=56) ?_ hm;clear hm;intro a56 cp56 _ _ hm;replace hm:=hR.back hm;clear hR;try simp only[F7] at hm)|refine H6 ?_ hm|refine P8 ?_ hm|(refine J6 hm (k:=?_);clear hm;intro _ hm;try simp only[F7] at hm)|refine D7 ?_|refine D5 ?_|refine E8 ?_|refine C9 ?_|refine D8 ?_|refine A7 ?_|refine E5 ?_|refine A8 ?_|refine F8 ?_|refine X3 ?_|refine O6 ?_|(refine W9 ?_;intro _ hkq;replace hm:=hm.kept0 hkq;clear hkq)|(refine D6 (ht:=fun _=>?_) (hf:=fun _=>?_)<;>(try first|contradiction|(exfalso;omega)))|refine U3 ?_|refine A03 ?_|refine O1 ?_|refine J4 ?_|refine H7 ?_|refine A0P ?_|refine X5 ?_|refine Q3 ?_|refine A0s ?_)
  exact⟨I,_,⟨rfl,rfl,_,_,B1t _ _ _ _ _ ⟨_,_,_,_⟩ _ _ _⟩,hm.swap⟩
end
end Go.Proofs.YtfjdfdgpkncpfaaGreatDoor
end
section
namespace Go.Sp
theorem C1x (n:Nat) (hn:n<256) (q:Nat) (hq:q<8):(n:Int).fdiv (2 ^ q)=((n / 2 ^ q:Nat):Int)∧(n / 2 ^ q) &&& 1=(bit n q).toNat∧(n|||2 ^ q)=(if bit n q=true then n else n+2 ^ q)∧(n|||2 ^ q)<256:=by
 revert hq;revert q;revert hn;revert n;decide+kernel
theorem C1u (q:Nat) (hq:q<8):(1:Int) *2 ^ q=((2 ^ q:Nat):Int)∧2 ^ q<256:=by
 revert hq;revert q;decide+kernel
end Go.Sp
namespace Go.Proofs.YtfjdfdgpkncpfaaGreatDoor
open Go.Proofs.Tryz
open Go.Fw
structure QLab where
 f:Nat
 n:Nat
 s:Sp.St
 da:Option Addr
 dc:Nat
section
variable {I:O5}{pb deep lc dc:Nat}{la da:Option Addr}{T:Sp.Src}
theorem A1k (s:Sp.St) (t:List UInt8) (ht:t≠ []) (hr:A1o I T la lc) (hT:Ok T) (hd:s.ds.length<1099511627776) (hi:s.i≤T.l.length):
  CalM prog 94 #[ptr pb,str t] I (QSt pb la lc T s deep da dc) (ToQ pb la lc T deep I (s.need T t).2 (.bool (s.need T t).1)):=by
 refine CalM.of fun w E hm=>enter (N:=10) func94 rfl [(0,ptr pb),(1,str t)] A0B rfl ?_
 have he:=A0f (pb:=pb) (deep:=deep) (da:=da) (dc:=dc) s t ht hr hT hi
 rw[Sp.St.need]
 by_cases hq:T.is s.i t=true
 ·rw[if_pos hq,hq] at he
  rw[if_pos hq]
  repeat' (first|(refine F5 ?_ hm (hc:=he);clear hm;rintro _ _ _ _ ⟨rfl,rfl,da1,dc1,rfl⟩ hle hm;try simp only[F7] at hm)|refine D7 ?_|refine D5 ?_|refine D8 ?_|refine A7 ?_|refine G5 ?_|refine E5 ?_|refine A8 ?_|refine G8 ?_|refine H5 ?_|refine F9 ?_)
  exact⟨I,_,⟨rfl,rfl,da1,dc1,rfl⟩,hm⟩
 ·rw[if_neg hq,show T.is s.i t=false by simpa using hq] at he
  rw[if_neg hq]
  repeat' (first|(refine F5 ?_ hm (hc:=he);clear hm;rintro _ _ _ _ ⟨rfl,rfl,da1,dc1,rfl⟩ hle hm;try simp only[F7] at hm)|(refine F5 ?_ hm (hc:=A2c s 2 hr hT hi hd);clear hm;rintro _ _ _ _ ⟨rfl,rfl,da2,dc2,rfl⟩ hle hm;try simp only[F7] at hm)|refine D7 ?_|refine D5 ?_|refine D8 ?_|refine A7 ?_|refine E5 ?_|refine A8 ?_|refine F8 ?_|refine G8 ?_|refine H5 ?_|refine F6 ?_)
  exact⟨I,_,⟨rfl,rfl,da2,dc2,rfl⟩,hm⟩
theorem A5z (s:Sp.St) (hr:A1o I T la lc) (hT:Ok T) (hd:s.ds.length<1099511627776) (hi:s.i≤T.l.length):
  CalM prog 93 #[ptr pb] I (QSt pb la lc T s deep da dc) (ToQ pb la lc T deep I (s.named T).2 (str (s.named T).1)):=by
 refine CalM.of fun w E hm=>enter (N:=55) func93 rfl [(0,ptr pb)] Z4 rfl ?_
 have h1:=hT.at_ s.i
 have h2:=hT.size
 have h3:=hT.len
 rw[Sp.St.named]
 have hn:=A58 (T.tok s.i).text (by omega)
 by_cases hname:Sp.name (T.tok s.i).text=true
 ·rw[if_pos hname]
  rw[hname] at hn
  have hlt:=Sp.A0W (Sp.A3m hname)
  repeat' (first|(refine L9 ?_ hm (hc:=A06 s hr);clear hm;intro _ hm)|(refine Q7 (hc:=by exact hn _) (k:=?_);rintro _ _ ⟨rfl,hk⟩;replace hm:=hm.kept0 hk)|refine H6 ?_ hm|(refine J6 hm (k:=?_);clear hm;intro _ hm;try simp only[F7] at hm)|refine D7 ?_|refine D5 ?_|refine U9 ?_|refine E8 ?_|refine Q4 ?_|refine C9 ?_|refine D8 ?_|refine A7 ?_|refine E5 ?_|refine A8 ?_|refine F8 ?_|refine G8 ?_|refine H5 ?_|refine F6 ?_)
  exact⟨I,_,⟨rfl,rfl,da,dc,rfl⟩,hm⟩
 ·have hname':Sp.name (T.tok s.i).text=false:=by simpa using hname
  rw[if_neg hname]
  rw[hname'] at hn
  by_cases hk:(T.tok s.i).kind=1
  ·rw[if_pos hk]
   have hlt:=Sp.A76 (T:=T) (i:=s.i) (by omega)
   have hbi:(s.bad T 7).i=s.i:=rfl
   have htk:=A14 hlt
   repeat' (first|(refine L9 ?_ hm (hc:=A06 s hr);clear hm;intro _ hm)|(refine Q7 (hc:=by exact hn _) (k:=?_);rintro _ _ ⟨rfl,hk2⟩;replace hm:=hm.kept0 hk2)|(refine A0n ?_ (hr:=by exact hr) (he:=by intro _;rfl) (hz:=by exact htk);intro b1 o1 hp1)|(refine F5 ?_ hm (hc:=A2c s 7 hr hT hi hd);clear hm;rintro _ _ _ _ ⟨rfl,rfl,da2,dc2,rfl⟩ hle hm;try simp only[F7] at hm)|refine H6 ?_ hm|refine P8 ?_ hm|refine X8 ?_ hm|(refine J6 hm (k:=?_);clear hm;intro _ hm;try simp only[F7] at hm)|refine D7 ?_|refine D5 ?_|refine U9 ?_|refine E8 ?_|refine Q4 ?_|refine C9 ?_|refine D8 ?_|refine A7 ?_|refine G5 ?_|refine E5 ?_|refine A8 ?_|refine G8 ?_|refine H5 ?_|refine O6 ?_|(refine W9 ?_;intro _ hkq;replace hm:=hm.kept0 hkq;clear hkq)|refine F9 ?_|(refine D6 (ht:=fun _=>?_) (hf:=fun _=>?_)<;>(try first|contradiction|(exfalso;omega)))|refine U3 ?_|refine V8 ?_|refine A03 ?_|refine A39 ?_|refine O1 ?_|refine J4 ?_|refine H7 ?_|(refine U6 (fun _=>?_) (h1:=fun _=>?_)<;>(try first|contradiction|(exfalso;omega))))
   all_goals try omega
   exact⟨I,_,⟨rfl,rfl,da2,dc2,rfl⟩,hm⟩
  ·rw[if_neg hk]
   by_cases hlt:s.i<T.l.length
   ·have htk:=A14 hlt
    repeat' (first|(refine L9 ?_ hm (hc:=A06 s hr);clear hm;intro _ hm)|(refine Q7 (hc:=by exact hn _) (k:=?_);rintro _ _ ⟨rfl,hk2⟩;replace hm:=hm.kept0 hk2)|(refine A0n ?_ (hr:=by exact hr) (he:=by intro _;rfl) (hz:=by exact htk);intro b1 o1 hp1)|(refine F5 ?_ hm (hc:=A2c s 2 hr hT hi hd);clear hm;rintro _ _ _ _ ⟨rfl,rfl,da2,dc2,rfl⟩ hle hm;try simp only[F7] at hm)|refine P8 ?_ hm|refine X8 ?_ hm|refine D7 ?_|refine D5 ?_|refine U9 ?_|refine D8 ?_|refine A7 ?_|refine G5 ?_|refine E5 ?_|refine A8 ?_|refine F8 ?_|refine G8 ?_|refine H5 ?_|refine O6 ?_|(refine W9 ?_;intro _ hkq;replace hm:=hm.kept0 hkq;clear hkq)|refine F9 ?_|(refine D6 (ht:=fun _=>?_) (hf:=fun _=>?_)<;>(try first|contradiction|(exfalso;omega)))|refine U3 ?_|refine V8 ?_|refine A03 ?_|refine A39 ?_|refine O1 ?_|refine J4 ?_|refine H7 ?_|(refine U6 (fun _=>?_) (h1:=fun _=>?_)<;>(try first|contradiction|(exfalso;omega))))
    all_goals try omega
    exact⟨I,_,⟨rfl,rfl,da2,dc2,rfl⟩,hm⟩
   ·skip
    repeat' (first|(refine L9 ?_ hm (hc:=A06 s hr);clear hm;intro _ hm)|(refine Q7 (hc:=by exact hn _) (k:=?_);rintro _ _ ⟨rfl,hk2⟩;replace hm:=hm.kept0 hk2)|(refine F5 ?_ hm (hc:=A2c s 2 hr hT hi hd);clear hm;rintro _ _ _ _ ⟨rfl,rfl,da2,dc2,rfl⟩ hle hm;try simp only[F7] at hm)|refine P8 ?_ hm|refine D7 ?_|refine D5 ?_|refine U9 ?_|refine D8 ?_|refine A7 ?_|refine G5 ?_|refine E5 ?_|refine A8 ?_|refine F8 ?_|refine G8 ?_|refine H5 ?_|refine O6 ?_|(refine W9 ?_;intro _ hkq;replace hm:=hm.kept0 hkq;clear hkq)|refine F9 ?_|refine F6 ?_|refine U3 ?_|refine A0p ?_|refine A03 ?_|refine O1 ?_|refine J4 ?_|refine H7 ?_|refine A2k ?_|(refine U6 (fun _=>?_) (h1:=fun _=>?_)<;>(try first|contradiction|(exfalso;omega))))
    all_goals try omega
    exact⟨I,_,⟨rfl,rfl,da2,dc2,rfl⟩,hm⟩
theorem A8p (s:Sp.St) (hr:A1o I T la lc) (hT:Ok T) (hi:s.i≤T.l.length) (hd:s.ds.length+2 *(T.l.length-s.i)+2≤1099511627776):
  CalM prog 95 #[ptr pb] I (QSt pb la lc T s deep da dc) (ToQ pb la lc T deep I (Sp.lab T s).2 (nt (Sp.lab T s).1)):=by
 refine CalM.of fun w E hm=>enter (N:=61) func95 rfl [(0,ptr pb)] Z4 rfl ?_
 have h2:=hT.size
 have h3:=hT.len
 have hn:=A1k (pb:=pb) (deep:=deep) (da:=da) (dc:=dc) s [123] (by simp) hr hT (by omega) hi
 rw[Sp.lab]
 rw[Sp.St.need] at hn
 by_cases hq:T.is s.i [123]=true
 case neg=>
  rw[if_neg hq]
  rw[if_neg hq] at hn
  repeat' (first|(refine F5 ?_ hm (hc:=hn);clear hm;rintro _ _ _ _ ⟨rfl,rfl,da',dc',rfl⟩ hle hm;try simp only[F7] at hm)|refine D7 ?_|refine D5 ?_|refine U9 ?_|refine D8 ?_|refine A7 ?_|refine G5 ?_|refine E5 ?_|refine A8 ?_|refine G8 ?_|refine H5 ?_|refine F9 ?_)
  exact⟨I,_,⟨rfl,rfl,da',dc',rfl⟩,hm⟩
 rw[if_pos hq]
 rw[if_pos hq] at hn
 have hlt:=Sp.is_lt hq
 repeat' (first|(refine F5 ?_ hm (hc:=hn);clear hm;rintro _ _ _ _ ⟨rfl,rfl,da',dc',rfl⟩ hle hm;try simp only[F7] at hm)|refine D7 ?_|refine D5 ?_|refine U9 ?_|refine D8 ?_|refine A7 ?_|refine E5 ?_|refine A8 ?_|refine E9 ?_|refine F8 ?_|refine F6 ?_)
 refine U4 (fun x:QLab=> [(0,ptr pb),(3,nt x.n)])
  (fun x w'=>Mem E I (QSt pb la lc T x.s deep x.da x.dc) w'∧Sp.A8c T x.f x.n x.s=Sp.A8c T (T.l.length+1) 0 s.next∧T.l.length-x.s.i<x.f∧x.s.i≤T.l.length∧x.n<256∧x.s.ds.length+2 *(T.l.length-x.s.i)+1≤1099511627776)
  (fun x=>T.l.length-x.s.i) ⟨T.l.length+1,0,s.next,da',dc'⟩ (by exact⟨rfl,rfl,trivial⟩) ⟨hm,rfl,by dsimp only;omega,by dsimp only;rw[Sp.J7];omega,by simp,by dsimp only;rw[Sp.J7,Sp.Y3];omega⟩ ?_
 clear hm hn
 rintro⟨f,n,s2,da2,dc2⟩ w2 ⟨hm,hL,hf,hi2,hn2,hr2⟩
 dsimp only at hm hL hf hi2 hn2 hr2 ⊢
 obtain⟨f,rfl⟩:∃f',f=f'+1:=⟨f-1,by omega⟩
 rw[Sp.A8c] at hL
 have hqe:=A0f (pb:=pb) (deep:=deep) (da:=da2) (dc:=dc2) s2 [125] (by simp) hr hT hi2
 by_cases hend:T.is s2.i [125]=true
 ·rw[if_pos hend] at hL
  rw[←hL]
  rw[if_pos hend,hend] at hqe
  have hlt2:=Sp.is_lt hend
  repeat' (first|(refine F5 ?_ hm (hc:=hqe);clear hm;rintro _ _ _ _ ⟨rfl,rfl,da3,dc3,rfl⟩ hle hm;try simp only[F7] at hm)|refine D7 ?_|refine D5 ?_|refine U9 ?_|refine D8 ?_|refine A7 ?_|refine G9 ?_|refine G6 ?_|refine E5 ?_|refine A8 ?_|refine O4 ?_|refine G8 ?_|refine H5 ?_|refine F6 ?_)
  exact⟨I,_,⟨rfl,rfl,da3,dc3,rfl⟩,hm⟩
 have hend':T.is s2.i [125]=false:=by simpa using hend
 rw[if_neg hend] at hL
 rw[if_neg hend,hend'] at hqe
 dsimp only at hL
 have h1:=hT.at_ s2.i
 have htg:Sp.B52 (T.tok s2.i).text=decide ((T.tok s2.i).text.length=1∧97≤((T.tok s2.i).text.getD (0:Int).toNat 0).toNat∧((T.tok s2.i).text.getD (0:Int).toNat 0).toNat≤104):=by
  rw[Sp.B52,Bool.decide_and,Bool.decide_and];rfl
 by_cases hgood:Sp.B52 (T.tok s2.i).text=true
 case neg=>
  have hgood':Sp.B52 (T.tok s2.i).text=false:=by simpa using hgood
  rw[hgood'] at hL
  simp only[Bool.not_false,if_true] at hL
  rw[←hL]
  rw[htg,decide_eq_false_iff_not] at hgood'
  repeat' (first|(refine F5 ?_ hm (hc:=hqe);clear hm;rintro _ _ _ _ ⟨rfl,rfl,da4,dc4,rfl⟩ hle hm;try simp only[F7] at hm)|(refine L9 ?_ hm (hc:=A06 s2 hr);clear hm;intro _ hm)|(refine F5 ?_ hm (hc:=A2c s2 2 hr hT hi2 (by omega));clear hm;rintro _ _ _ _ ⟨rfl,rfl,da3,dc3,rfl⟩ hle hm;try simp only[F7] at hm)|refine D7 ?_|refine D5 ?_|refine J8 ?_|refine J3 ?_|refine J5 ?_|refine A2L ?_|refine X9 ?_|refine A0Z ?_|refine U9 ?_|refine A0o ?_|refine Y1 ?_|(refine O0 (h1:=fun _=>?_) (h0:=fun _=>?_)<;>(try first|contradiction|(exfalso;omega)))|refine D8 ?_|refine A7 ?_|refine G5 ?_|refine O8 ?_|refine E5 ?_|refine A8 ?_|refine E9 ?_|refine F8 ?_|refine G8 ?_|refine H5 ?_|refine F9 ?_|(refine D6 (ht:=fun _=>?_) (hf:=fun _=>?_)<;>(try first|contradiction|(exfalso;omega))))
  all_goals first
   |exact⟨I,_,⟨rfl,rfl,da3,dc3,rfl⟩,hm⟩
   |(exfalso;omega)
 rw[hgood] at hL
 have hlt2:s2.i<T.l.length:=Sp.A0W (by intro e;rw[e] at hgood;revert hgood;decide)
 rw[htg,decide_eq_true_eq] at hgood
 have hce:(T.tok s2.i).text.getD (0:Int).toNat 0=(T.tok s2.i).text.getD 0 0:=rfl
 rw[hce] at hgood
 generalize hcc:(T.tok s2.i).text.getD 0 0=c at hgood hL hce
 obtain⟨q,hqq⟩:∃q,q=c.toNat-97:=⟨_,rfl⟩
 rw[←hqq] at hL
 have hq8:q<8:=by omega
 obtain⟨hfd,hb1,hor,hor2⟩:=Sp.C1x n hn2 q hq8
 obtain⟨hp1,hp2⟩:=Sp.C1u q hq8
 have hbq:((c.toNat:Int)-97).toNat=q:=by omega
 have hdl:n / 2 ^ q≤n:=Nat.div_le_self _ _
 simp only[Bool.not_true,Bool.false_eq_true,if_false] at hL
 generalize n / 2 ^ q=m at hfd hb1 hdl
 obtain⟨s3,hs3⟩:∃s3,s3=(if Sp.bit n q=true then s2.bad T 7 else s2):=⟨_,rfl⟩
 rw[←hs3] at hL
 have hs3i:s3.i=s2.i:=by rw[hs3];split<;>rfl
 have hs3d:s3.ds.length≤s2.ds.length+1:=by rw[hs3];split<;>simp[Sp.St.bad]
 rw[←hor] at hL
 have hni:s3.next.i=s3.i+1:=rfl
 have hnd:s3.next.ds.length=s3.ds.length:=rfl
 have hnn:s3.next.next.i=s3.i+1+1:=rfl
 have hnnd:s3.next.next.ds.length=s3.ds.length:=rfl
 have hmc:=fun da dc=>A1k (pb:=pb) (deep:=deep) (da:=da) (dc:=dc) s3.next [44] (by simp) hr hT (by omega) (by omega)
 rw[Sp.St.need] at hmc
 have hpk:=fun da dc=>A06 (pb:=pb) (deep:=deep) (da:=da) (dc:=dc) s3.next hr
 have tel:=fun da dc=>A2c (pb:=pb) (deep:=deep) (da:=da) (dc:=dc) s2 7 hr hT hi2 (by omega)
 have hor':((n:Int).toNat|||(((2 ^ q:Nat):Int)).toNat)=(n|||2 ^ q):=rfl
 generalize 2 ^ q=pq at hp1 hp2 hor2 hor hL hor'
 generalize n|||pq=n1 at hor2 hor hL hor'
 repeat' (first|(refine A6r 9 (fun _:QLab=> [(0,ptr pb),(3,nt n),(4,str (T.tok s2.i).text)]) (fun x w'=>Mem E I (QSt pb la lc T s3 deep x.da x.dc) w') ?_ ?_)|(refine F5 ?_ hm (hc:=hqe);clear hm;rintro _ _ _ _ ⟨rfl,rfl,da4,dc4,rfl⟩ hle hm;try simp only[F7] at hm)|(refine L9 (d:=12) ?_ hm (hc:=A06 s2 hr);clear hm;intro _ hm)|(refine A0o ?_;rw[hce])|refine D7 ?_|refine D5 ?_|refine J3 ?_|refine J5 ?_|refine A2L ?_|refine X9 ?_|refine A0Z ?_|refine U9 ?_|refine A4x ?_|(refine O0 (h1:=fun _=>?_) (h0:=fun _=>?_)<;>(try first|contradiction|(exfalso;omega)))|refine D8 ?_|refine A7 ?_|refine E5 ?_|refine A8 ?_|refine E9 ?_|refine F8 ?_|refine F9 ?_|(refine D6 (ht:=fun _=>?_) (hf:=fun _=>?_)<;>(try first|contradiction|(exfalso;omega))))
 all_goals try omega
 ·cases hb:Sp.bit n q with
  |true=>
   rw[hb] at hb1 hs3
   rw[if_pos rfl] at hs3
   subst hs3
   repeat' (first|(refine F5 ?_ hm (hc:=tel _ _);clear hm;rintro _ _ _ _ ⟨rfl,rfl,da3,dc3,rfl⟩ hle hm;try simp only[F7] at hm)|(refine B7t (k:=?_);rw[hbq,hfd])|(refine B3B ?_;rw[show ((m:Int).toNat &&& (1:Int).toNat)=1 from hb1])|refine D7 ?_|refine L8 ?_|refine D8 ?_|refine A7 ?_|refine A8 ?_|refine F9 ?_)
   all_goals try omega
   exact Y6 (⟨0,0,s2,da3,dc3⟩:QLab) (by exact⟨rfl,rfl,rfl,trivial⟩) hm
  |false=>
   rw[hb] at hb1 hs3
   rw[if_neg (by simp)] at hs3
   subst hs3
   repeat' (first|(refine B7t (k:=?_);rw[hbq,hfd])|(refine B3B ?_;rw[show ((m:Int).toNat &&& (1:Int).toNat)=0 from hb1])|refine L8 ?_|refine D8 ?_|refine A7 ?_|refine F8 ?_|refine F6 ?_)
   all_goals try omega
   exact Y6 (⟨0,0,s3,da4,dc4⟩:QLab) (by exact⟨rfl,rfl,rfl,trivial⟩) hm
 clear hm hqe tel
 rintro⟨_,_,_,da5,dc5⟩ w3 hm
 dsimp only at hm ⊢
 by_cases e1:T.is s3.next.i [125]=true
 ·rw[if_pos e1] at hL
  have e1t:(T.tok s3.next.i).text= [125]:=by simp only[Sp.Src.is,Bool.and_eq_true,decide_eq_true_eq] at e1;exact e1.2
  have hlt5:=Sp.is_lt e1
  rw[e1t] at hpk
  repeat' (first|(refine L9 ?_ hm (hc:=hpk _ _);clear hm;intro _ hm)|(refine A0o ?_;rw[hce])|(refine B0O (h':=by rw[hbq,hp1];omega) (k:=?_);rw[hbq,hp1])|(refine B2q ?_;rw[hor'])|refine H6 ?_ hm|(refine J6 hm (k:=?_);clear hm;intro _ hm;try simp only[F7] at hm)|refine D7 ?_|refine D5 ?_|refine J3 ?_|refine A0x ?_|refine E8 ?_|refine Q4 ?_|refine A4x ?_|refine C9 ?_|refine Y1 ?_|refine D8 ?_|refine A7 ?_|refine D9 ?_|refine E5 ?_|refine A8 ?_|refine F8 ?_|refine F6 ?_)
  all_goals try first|omega|contradiction
  exact J9 (⟨f,n1,s3.next,da5,dc5⟩:QLab) (by exact⟨rfl,rfl,trivial⟩) ⟨hm,hL,by dsimp only;omega,by dsimp only;omega,hor2,by dsimp only;omega⟩ (by dsimp only;omega)
 rw[if_neg e1] at hL
 by_cases e2:T.is s3.next.i [44]=true
 ·rw[if_pos e2] at hL hmc
  have e1t:(T.tok s3.next.i).text= [44]:=by simp only[Sp.Src.is,Bool.and_eq_true,decide_eq_true_eq] at e2;exact e2.2
  have hlt5:=Sp.is_lt e2
  rw[e1t] at hpk
  repeat' (first|(refine L9 ?_ hm (hc:=hpk _ _);clear hm;intro _ hm)|(refine F5 ?_ hm (hc:=hmc _ _);clear hm;rintro _ _ _ _ ⟨rfl,rfl,da6,dc6,rfl⟩ hle hm;try simp only[F7] at hm)|(refine A0o ?_;rw[hce])|(refine B0O (h':=by rw[hbq,hp1];omega) (k:=?_);rw[hbq,hp1])|(refine B2q ?_;rw[hor'])|refine H6 ?_ hm|(refine J6 hm (k:=?_);clear hm;intro _ hm;try simp only[F7] at hm)|refine D7 ?_|refine D5 ?_|refine J8 ?_|refine A0x ?_|refine U9 ?_|refine E8 ?_|refine Q4 ?_|refine A4x ?_|refine C9 ?_|refine D8 ?_|refine A7 ?_|refine D9 ?_|refine E5 ?_|refine A8 ?_|refine F8 ?_|refine F6 ?_)
  all_goals try first|omega|contradiction
  exact J9 (⟨f,n1,s3.next.next,da6,dc6⟩:QLab) (by exact⟨rfl,rfl,trivial⟩) ⟨hm,hL,by dsimp only;omega,by dsimp only;omega,hor2,by dsimp only;omega⟩ (by dsimp only;omega)
 rw[if_neg e2] at hL hmc
 have e1t:s3.next.i<T.l.length→(T.tok s3.next.i).text≠ [125]:=fun h e=>e1 (by simp[Sp.Src.is,h,e])
 rw[←hL]
 by_cases hlt6:s3.next.i<T.l.length
 ·have e1t:=e1t hlt6
  repeat' (first|(refine L9 ?_ hm (hc:=hpk _ _);clear hm;intro _ hm)|(refine F5 ?_ hm (hc:=hmc _ _);clear hm;rintro _ _ _ _ ⟨rfl,rfl,da6,dc6,rfl⟩ hle hm;try simp only[F7] at hm)|(refine A0o ?_;rw[hce])|(refine B0O (h':=by rw[hbq,hp1];omega) (k:=?_);rw[hbq,hp1])|(refine B2q ?_;rw[hor'])|refine H6 ?_ hm|(refine J6 hm (k:=?_);clear hm;intro _ hm;try simp only[F7] at hm)|refine D7 ?_|refine D5 ?_|refine J8 ?_|refine A0x ?_|refine U9 ?_|refine E8 ?_|refine Q4 ?_|refine A4x ?_|refine C9 ?_|(refine O0 (h1:=fun _=>?_) (h0:=fun _=>?_)<;>(try first|contradiction|(exfalso;omega)))|refine D8 ?_|refine A7 ?_|refine G5 ?_|refine O8 ?_|refine E5 ?_|refine A8 ?_|refine G8 ?_|refine H5 ?_|refine F9 ?_)
  all_goals try first|omega|contradiction
  exact⟨I,_,⟨rfl,rfl,da6,dc6,rfl⟩,hm⟩
 ·rw[Sp.A2S (by omega:T.l.length≤s3.next.i)] at hpk
  repeat' (first|(refine L9 ?_ hm (hc:=hpk _ _);clear hm;intro _ hm)|(refine F5 ?_ hm (hc:=hmc _ _);clear hm;rintro _ _ _ _ ⟨rfl,rfl,da6,dc6,rfl⟩ hle hm;try simp only[F7] at hm)|(refine A0o ?_;rw[hce])|(refine B0O (h':=by rw[hbq,hp1];omega) (k:=?_);rw[hbq,hp1])|(refine B2q ?_;rw[hor'])|refine H6 ?_ hm|(refine J6 hm (k:=?_);clear hm;intro _ hm;try simp only[F7] at hm)|refine D7 ?_|refine D5 ?_|refine J8 ?_|refine A0x ?_|refine U9 ?_|refine E8 ?_|refine Q4 ?_|refine A4x ?_|refine C9 ?_|refine D8 ?_|refine A7 ?_|refine G5 ?_|refine O8 ?_|refine E5 ?_|refine A8 ?_|refine G8 ?_|refine H5 ?_|refine F9 ?_)
  all_goals try first|omega|contradiction
  exact⟨I,_,⟨rfl,rfl,da6,dc6,rfl⟩,hm⟩
theorem B8N (t:List UInt8) (w:World):Cal prog 184 #[str t] w fun v w'=>v=nt (Sp.A0l t)∧w'=w:=by
 refine enter (N:=12) func184 rfl [(0,str t)] Z4 rfl ?_
 rw[Sp.A0l]
 by_cases h1:t= [61]
 ·subst h1
  repeat' (first|refine D7 ?_|refine D5 ?_|refine U0 ?_|refine D8 ?_|refine A7 ?_|refine G5 ?_|refine O8 ?_|refine E5 ?_|refine A8 ?_|refine E9 ?_|refine F8 ?_|refine G8 ?_|refine H5 ?_|refine F9 ?_)
  exact⟨rfl,rfl⟩
 by_cases h2:t= [60]
 ·subst h2
  repeat' (first|refine D7 ?_|refine D5 ?_|refine U0 ?_|refine D8 ?_|refine A7 ?_|refine G5 ?_|refine O8 ?_|refine E5 ?_|refine A8 ?_|refine E9 ?_|refine G8 ?_|refine H5 ?_|refine F9 ?_|refine F6 ?_)
  exact⟨rfl,rfl⟩
 by_cases h3:t= [43]
 ·subst h3
  repeat' (first|refine D7 ?_|refine D5 ?_|refine U0 ?_|refine D8 ?_|refine A7 ?_|refine G5 ?_|refine O8 ?_|refine E5 ?_|refine A8 ?_|refine E9 ?_|refine F8 ?_|refine G8 ?_|refine H5 ?_|refine F9 ?_|refine F6 ?_)
  exact⟨rfl,rfl⟩
 by_cases h4:t= [45]
 ·subst h4
  repeat' (first|refine D7 ?_|refine D5 ?_|refine U0 ?_|refine D8 ?_|refine A7 ?_|refine G5 ?_|refine O8 ?_|refine E5 ?_|refine A8 ?_|refine E9 ?_|refine G8 ?_|refine H5 ?_|refine F9 ?_|refine F6 ?_)
  exact⟨rfl,rfl⟩
 by_cases h5:t= [42]
 ·subst h5
  repeat' (first|refine D7 ?_|refine D5 ?_|refine U0 ?_|refine D8 ?_|refine A7 ?_|refine G5 ?_|refine O8 ?_|refine E5 ?_|refine A8 ?_|refine E9 ?_|refine G8 ?_|refine H5 ?_|refine F9 ?_|refine F6 ?_)
  exact⟨rfl,rfl⟩
 rw[if_neg (by simp[h1,h2]),if_neg (by simp[h3,h4]),if_neg h5]
 repeat' (first|refine D7 ?_|refine D5 ?_|refine U0 ?_|refine D8 ?_|refine A7 ?_|refine D9 ?_|refine E5 ?_|refine A8 ?_|refine E9 ?_|refine F8 ?_|refine G8 ?_|refine H5 ?_|(refine D6 (ht:=fun _=>?_) (hf:=fun _=>?_)<;>(try first|contradiction|(exfalso;omega))))
 all_goals first|exact⟨rfl,rfl⟩|(exfalso;simp_all;done)
abbrev A8z (pb:Nat) (la:Option Addr) (lc:Nat) (T:Sp.Src) (deep:Nat) (r:Sp.Ex×Sp.St):Value→O5→List HItem→Prop:=
 fun v I' H'=>(∃ea ec xs,v=.agg [nt r.1.kind,str r.1.name,nt r.1.n,.slice ea r.1.args.length ec,nt r.1.fr,nt r.1.to].toArray∧RowI I' 107 6 (.slice ea r.1.args.length ec) r.1.args.length xs∧V5 I' r.1.args xs)∧
  ∃da dc,H'=QSt pb la lc T r.2 deep da dc
theorem B3E (s:Sp.St) (e:Nat) (hr:A1o I T la lc) (hT:Ok T) (hi:s.i≤T.l.length) (hd:s.ds.length<1099511627776):
  CalM prog 195 #[ptr pb,nt e] I (QSt pb la lc T s deep da dc) (A8z pb la lc T deep (Sp.A52 T s e)):=by
 refine CalM.of fun w E hm=>enter (N:=13) func195 rfl [(0,ptr pb),(1,nt e)] A0B rfl ?_
 repeat' (first|(refine F5 ?_ hm (hc:=A2c s e hr hT hi hd);clear hm;rintro _ _ _ _ ⟨rfl,rfl,da',dc',rfl⟩ hle hm;try simp only[F7] at hm)|(refine L9 ?_ hm (hc:=A0k (s.bad T e) hr);clear hm;intro _ hm)|(refine V6 (d:=4) ?_ hm;clear hm;intro b4 _ hm)|(refine N8 ?_ hm;clear hm;intro _ hm;try simp only[F7] at hm)|refine Y9 ?_ hm|refine D7 ?_|refine Q9 ?_|refine D8 ?_|refine A7 ?_|refine E5 ?_|refine A8 ?_|refine G8 ?_)
 exact⟨I,_,⟨⟨none,0,[],rfl,A0z _ _ _ _ _,.nil⟩,da',dc',rfl⟩,hm.left (H:= [_,_])⟩
end
end Go.Proofs.YtfjdfdgpkncpfaaGreatDoor
end
section
namespace Go.Sp
def A2G (n:Nat) (c:UInt8):Nat:=if n≤1000000000 then 10 *n+(c.toNat-48) else n
theorem B5c (t:List UInt8):A2l t=t.foldl A2G 0:=rfl
theorem B1L:∀(r:List UInt8) (a:Nat),a≤r.foldl A2G a
 | [],a=>Nat.le_refl _
 |c::r,a=>by
  rw[List.foldl_cons]
  have:=B1L r (A2G a c)
  have:a≤A2G a c:=by rw[A2G];split<;>omega
  omega
theorem A9R:∀(r:List UInt8) (a:Nat),1000000000<a→r.foldl A2G a=a
 | [],a,_=>rfl
 |c::r,a,h=>by rw[List.foldl_cons,A2G,if_neg (by omega)];exact A9R r a h
theorem A9u:∀(r:List UInt8) (a:Nat),(∀c∈r,48≤c.toNat∧c.toNat≤57)→r.foldl A2G a≤1000000000→Lib.parseUint10 a r=.ok (r.foldl A2G a)
 | [],a,_,_=>rfl
 |c::r,a,hd,h=>by
  rw[List.foldl_cons] at h ⊢
  have hc:=hd c List.mem_cons_self
  have ha:a≤1000000000:=by
   have:=B1L r (A2G a c)
   have:a≤A2G a c:=by rw[A2G];split<;>omega
   omega
  have e:A2G a c=a *10+(c.toNat-48):=by rw[A2G,if_pos ha];omega
  rw[Lib.parseUint10,if_pos hc,if_neg (by omega),if_neg (by omega), ←e]
  exact A9u r _ (fun c hc=>hd c (List.mem_cons_of_mem _ hc)) h
theorem B2T:∀(r:List UInt8) (a:Nat),(∀c∈r,48≤c.toNat∧c.toNat≤57)→1000000000<r.foldl A2G a→Lib.parseUint10 a r=.range∨∃u,1000000000<u∧Lib.parseUint10 a r=.ok u
 | [],a,_,h=> .inr ⟨a,h,rfl⟩
 |c::r,a,hd,h=>by
  rw[List.foldl_cons] at h
  have hc:=hd c List.mem_cons_self
  rw[Lib.parseUint10,if_pos hc]
  split
  ·exact .inl rfl
  ·split
   ·exact .inl rfl
   ·refine B2T r _ (fun c hc=>hd c (List.mem_cons_of_mem _ hc)) ?_
    by_cases ha:a≤1000000000
    ·have e:A2G a c=a *10+(c.toNat-48):=by rw[A2G,if_pos ha];omega
     rw[←e];exact h
    ·rw[A9R r _ (by omega)];omega
theorem B1E (t:List UInt8) (hn:1≤t.length) (hd:∀c∈t,48≤c.toNat∧c.toNat≤57):
  (A2l t≤1000000000→Lib.atoiAll t=.ok (A2l t:Int))∧(1000000000<A2l t→Lib.atoiAll t=.range∨∃v:Int,1000000000<v∧Lib.atoiAll t=.ok v):=by
 rw[B5c]
 cases t with
 |nil=>simp at hn
 |cons c r=>
  have hc:=hd c List.mem_cons_self
  have hp:Lib.parseMag (if c.toNat=43∨c.toNat=45 then r else c::r)=Lib.parseUint10 0 (c::r):=by
   rw[if_neg (by omega),Lib.parseMag,if_neg (by simp)]
  have hneg:¬c.toNat=45:=by omega
  constructor
  ·intro h
   have h1:=A9u (c::r) 0 hd h
   simp only[Lib.atoiAll]
   rw[hp,h1]
   generalize (c::r).foldl A2G 0=d at h ⊢
   simp only[hneg]
   simp
   omega
  ·intro h
   simp only[Lib.atoiAll]
   rw[hp]
   rcases B2T (c::r) 0 hd h with h1|⟨u,hu,h1⟩
   ·rw[h1];exact .inl rfl
   ·rw[h1]
    simp only[hneg]
    by_cases h2:9223372036854775808≤u
    ·exact .inl (by simp[h2])
    ·exact .inr ⟨(u:Int),by omega,by simp[h2]⟩
end Go.Sp
end
