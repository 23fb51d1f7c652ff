/- Own work. -/
import Derived.Test.YtfgmppgjopchoaaGreatDoorSw14
import Derived.Lib.AppendStr
import Derived.Lib.Builder
import Derived.Lib.UnsafeStr
import Derived.Laws.Externs
import Derived.Lib.Split
import Derived.Lib.Join
set_option maxHeartbeats 64000000
namespace Go.Sp
theorem AllTwo.snoc {α β:Type}{R:α->β->Prop}:∀ {l:List α}{r:List β}{a:α}{b:β},AllTwo R l r->R a b->AllTwo R (l++ [a]) (r++ [b])
 |_,_,_,_,.nil,h=> .cons h .nil
 |_,_,_,_,.cons h1 t1,h=> .cons h1 (t1.snoc h)
structure ItI (x:Itm):Prop where
 small:x.small
 body:Y0 B0O B08 x.body
 cnt:Q4 x.body<=400000000
 lets:(A1c x.body).Nodup
 none:0∉A1c x.body
theorem B5U {its:List Itm}{it:Itm} (hlab:A3b its) (hb:Y0 B0O B08 it.body) (hp:∀p∈it.params,p.label<256):∀(k f:Nat),B06 its it k f<256
 |0,_=>by show 0<256;omega
 |k+1,f=>(B5l hlab hb hp (B5U hlab hb hp k)).1 f
mutual
theorem C1D (o:Lab):∀(x:Stm),(A97 o x).cnt=x.cnt
 | .mk k nm a lb op e thn els f t=>by rw[A97,Stm.cnt,Stm.cnt,A9C o thn,A9C o els]
theorem A9C (o:Lab):∀(l:List Stm),Q4 (A2h o l)=Q4 l
 | []=>by rw[A2h]
 |x::l=>by rw[A2h,Q4,Q4,C1D o x,A9C o l]
end
theorem AllTwo.mem {α β:Type}{R:α->β->Prop}:∀ {l:List α}{r:List β},AllTwo R l r->∀b∈r,∃a∈l,R a b
 |_,_,.nil,b,h=>by cases h
 |_,_,.cons h t,b,hb=>by
  rcases U8.1 hb with rfl|hb
  ·exact⟨_,Q5,h⟩
  ·obtain⟨a,h1,h2⟩:=t.mem b hb
   exact⟨a,A0L _ h1,h2⟩
section
variable {its g:List Itm}
end
theorem C3V (src:List UInt8) (at_:Int) (h:src.length<=1048576):ItI (item src at_)/\(item src at_).label<256/\∀p∈(item src at_).params,p.label<256:=by
 have hA:=B3B (src:=src) (p:=B0O) (q:=B08) (r:=fun p=>p.label<256) (t:=fun _=>True) at_ ⟨trivial,fun _=>trivial,fun _ _ _ _=>trivial,fun _ _=>trivial,fun _ _ _ _ _ _=>trivial,fun _ _ _ _ _ _ _ _ _ _ _ _ _ _ _ _=>trivial⟩
  ⟨by show 0<256;omega,fun _ _ lb _ _ h=>A5x h,fun _ _ _=>(by show 0<256;omega),fun _ _ _ _=>(by show 0<256;omega),fun _ _ _=>(by show 0<256;omega)⟩ (fun _ lb h=>A5x h) (fun _=>trivial)
 have hc:=B04 src at_;have hl:=C1P src at_;exact⟨⟨A4B src at_ h,hA.body,by omega,hl.1,hl.2⟩,A5x hA.label,hA.params⟩
theorem B7w (s:List UInt8):(∀x∈J7 s,ItI x)/\A3b (J7 s)/\(J7 s).length<=30:=by
 by_cases h0:Y4 s=0
 ·have hl:s.length<=4000/\(Y7 s).length<=30:=by
   rw[Y4]at h0;split at h0
   ·cases h0
   ·split at h0
    ·cases h0
    ·omega
  have key:∀x∈J7 s,ItI x/\x.label<256/\∀p∈x.params,p.label<256:=fun x hx=>by
   rw[J7,if_pos h0,A3M]at hx;obtain⟨j,_,rfl⟩:=A0x.1 hx;exact C3V _ _ (by rw[A1d,P6,A0r];omega)
  exact⟨fun x hx=>(key x hx).1,fun x hx=>(key x hx).2,by rw[J7,if_pos h0];simp[A3M,hl.2]⟩
 ·rw[J7,if_neg h0]
  exact⟨fun x hx=>(by cases hx),fun x hx=>(by cases hx),H7 _⟩
end Go.Sp
namespace Go.Sp
open Go.Lib (itoa decDigits nDigits decDigits_length nDigits_small nDigits_big)
theorem C0P:∀(k u:Nat),u<10 ^ (k+1)->nDigits u<=k+1
 |0,u,h=>by rw[nDigits_small (by simpa using h)];exact H6 _
 |k+1,u,h=>by
  by_cases h1:u<10
  ·rw[nDigits_small h1];omega
  ·rw[nDigits_big h1]
   have:=C0P k (u / 10) (by rw[Nat.pow_succ]at h;omega);omega
theorem B9o {n:Nat} (h:n<=1000000000):(itoa (n:Int)).length<=10:=by
 rw[itoa,if_neg (by omega),decDigits_length,A1j];exact C0P 9 n (by have:(10:Nat) ^ (9+1)=10000000000:=(by decide);omega)
theorem B4F:∀(l:List UInt8),(A4Y l).length<=2 *l.length
 | []=>by simp[A4Y]
 | [c]=>by simp[A4Y]
 |c::d::l=>by have:=B4F (d::l);simp only[A4Y,F9]at this |-;omega
theorem A5D (n:Nat):(A4H n).length<=18:=by
 have h:=B4F ((A4K n).map A5o);have h2:(A4K n).length<=8:=by have:=A3T (bit n) (List.range 8);simpa[A4K] using this
 rw[A0h]at h;rw[A4H,F9,E9,A1w];omega
theorem A3Y {t:List UInt8} (h:name t=true):t.length<=12:=by
 rw[name,V5,B0I]at h;simp only[V5,decide_eq_true_eq]at h;omega
theorem B79 (b:Bool) (t:List UInt8):(B1c b t).length<=t.length+2:=by
 rw[B1c];split
 ·simp
 ·omega
theorem C1s (ws:List (List UInt8)) (k:Nat):(A3I ws k).length<=2 *k+((ws.take k).map List.length).sum:=by
 induction k with
 |zero=>simp[A3I]
 |succ k ih=>
  rw[A6u,E9,E9];have h1:(if 0<k then [44,32] else []:List UInt8).length<=2:=by split<;>simp
  have h2:((ws.take k).map List.length).sum+(ws.getD k []).length=((ws.take (k+1)).map List.length).sum:=by
   rw[A3i,Y8,List.sum_append,O5];cases ws[k]? <;>simp
  omega
theorem C2C {nm:List UInt8} (h:A1l nm≠0):nm.length<=1:=by
 rw[A1l]at h;split at h
 ·rename_i h1;rcases h1 with rfl|rfl<;>simp
 ·split at h
  ·rename_i h1;rcases h1 with rfl|rfl<;>simp
  ·split at h
   ·rename_i h1;subst h1;simp
   ·exact absurd rfl h
mutual
theorem B5M:∀(e:Ex) {d l:Nat},e.fitE d l->(exW e).length+2<=32 *e.cnt
 | .mk k nm n args f t,d,l,h=>by
  rw[Ex.fitE]at h;rw[exW,Ex.cnt];rcases h.2 with ⟨rfl,_,h1,rfl⟩|⟨rfl,h1,_,rfl⟩|⟨rfl,h1,_,h2,h3⟩|⟨rfl,h1,_,h2,h3⟩
  ·rw[if_pos rfl]
   have:=B9o h1;omega
  ·rw[if_neg (by decide),if_neg (by decide),if_pos rfl]
   have:=A3Y h1;omega
  ·rw[if_neg (by decide),if_neg (by decide),if_neg (by decide),if_pos rfl]
   have g1:=A3Y h1;have g2:=C1s (A4U args) args.length;have g3:=B7u args h3;rw[A0q (by rw[B0Z,A0h];exact H6 _)]at g2;simp only[E9,F9,List.length_nil];omega
  ·rw[if_neg (by decide),if_pos rfl]
   have g1:=C2C h1
   match args,h2 with
   | [a,b],_=>
    have g3:=B73 [a,b] h3;have p1:=B79 (decide (A3F ([a,b].getD 0 default)<A26 nm)) ((A4U [a,b]).getD 0 []);have p2:=B79 (decide (A3F ([a,b].getD 1 default)<A26 nm+1)) ((A4U [a,b]).getD 1 []);have e1:(A4U [a,b]).getD 0 []=exW a:=A88 rfl;have e2:(A4U [a,b]).getD 1 []=exW b:=A88 rfl;rw[B0Z]at g3;simp only[X7,List.map_nil,A5X,List.sum_nil]at g3;rw[e1]at p1;rw[e2]at p2;simp only[E9,F9,List.length_nil,e1,e2];omega
theorem B7u:∀(l:List Ex) {d:Nat},A2k l d->((A4U l).map List.length).sum+2 *l.length<=32 *A03 l
 | [],_,_=>by rw[A4U];simp
 |e::es,d,h=>by
  rw[A2k]at h;have h1:=B5M e h.1;have h2:=B7u es h.2;rw[A4U,A03,X7,A5X,F9];omega
theorem B73:∀(l:List Ex) {d n:Nat},A3D l d n->((A4U l).map List.length).sum<=32 *A03 l
 | [],_,_,_=>by rw[A4U];simp
 |e::es,d,n,h=>by
  rw[A3D]at h;have h1:=B5M e h.1;have h2:=B73 es h.2;rw[A4U,A03,X7,A5X];omega
 end
mutual
theorem C40:∀(x:Stm) {d:Nat} (k:Nat),x.fitS d->k<=d->d<=12->(B6x x k).length<=160 *x.cnt
 | .mk kd nm a lb o e thn els f t,d,k,h,hk,hd=>by
  rw[Stm.fitS]at h;obtain⟨h1,h2⟩:=h;have g1:=B5M e h1;have g2:=B2R k;have g3:=A5D lb;have g4:(if o=true then [] else [58,32]++A4H lb:List UInt8).length<=20:=by
   split
   ·simp
   ·rw[E9]
    show 2+_<=20
    omega
  rw[B6x,Stm.cnt];rcases h2 with ⟨rfl,hn,_⟩|⟨rfl,hn,_⟩|⟨rfl,hn,_⟩|⟨rfl,_⟩|⟨rfl,_⟩|⟨hk2,hn,_,_,hd2,_,_,ht,he⟩
  ·have:=A3Y hn
   rw[if_pos rfl];simp only[E9,F9,List.length_nil]at g4 |-;omega
  ·have:=A3Y hn
   rw[if_neg (by decide),if_pos rfl];simp only[E9,F9,List.length_nil];omega
  ·have:=A3Y hn
   rw[if_neg (by decide),if_neg (by decide),if_pos rfl];simp only[E9,F9,List.length_nil];omega
  ·rw[if_neg (by decide),if_neg (by decide),if_neg (by decide),if_pos rfl]
   simp only[E9,F9,List.length_nil];omega
  ·rw[if_neg (by decide),if_neg (by decide),if_neg (by decide),if_neg (by decide),if_pos rfl]
   simp only[E9,F9,List.length_nil];omega
  ·have q1:=A9U thn (k+1) ht (by omega) (by omega)
   have q2:=A9U els (k+1) he (by omega) (by omega);have hkd:kd=3\/kd=4:=by omega
   rw[if_neg (by omega),if_neg (by omega),if_neg (by omega),if_neg (by omega),if_neg (by omega),if_pos hkd];have w1:(if kd=4 then [119,104,105,108,101,32] else [105,102,32]:List UInt8).length<=6:=by split<;>simp
   have w2:(if 0<els.length then [32,101,108,115,101,32]++([123,10]++A3d els (k+1)++pad k++ [125]) else []:List UInt8).length<=9+(A3d els (k+1)).length+(pad k).length:=by
    split
    ·simp only[E9,F9,List.length_nil]
     omega
    ·simp
   simp only[E9,F9,List.length_nil]at w1 w2 |-;omega
theorem A9U:∀(l:List Stm) {d:Nat} (k:Nat),A0N l d->k<=d->d<=12->(A3d l k).length<=160 *Q4 l
 | [],_,_,_,_,_=>by rw[A3d];simp
 |x::xs,d,k,h,hk,hd=>by
  rw[A0N]at h;have h1:=C40 x k h.1 hk hd;have h2:=A9U xs k h.2 hk hd;rw[A3d,Q4,E9];omega
 end
theorem B4E (ws:List (List UInt8)) {m:Nat} (h:∀w∈ws,w.length<=m):∀k,(A3I ws k).length<=k *(m+2)
 |0=>by simp[A3I]
 |k+1=>by
  have h1:(if 0<k then [44,32] else []:List UInt8).length<=2:=by split<;>simp
  have h2:(ws.getD k []).length<=m:=by
   rw[O5];cases e:ws[k]? with
   |none=>simp
   |some w=>exact h w (A0J e)
  have h3:=B4E ws h k;rw[A6u,E9,E9,Nat.succ_mul];omega
theorem B5p {l:List Rf} (h:∀p∈l,name p.name=true):∀k,(A7M l k).length<=k *19
 |0=>by simp[A7M]
 |k+1=>by
  have h1:(if k=0 then [32,115,101,110,100,115,32] else [44,32]:List UInt8).length<=7:=by split<;>simp
  have h2:(l.getD k ⟨[],0⟩).name.length<=12:=by
   rw[O5];cases e:l[k]? with
   |none=>simp
   |some w=>exact A3Y (h w (A0J e))
  have h3:=B5p h k;rw[B0C,E9,E9,Nat.succ_mul];omega
theorem C4z {l:List Par} (h:∀p∈l,name p.name=true/\p.label<256):∀w∈B0e l,w.length<=32:=fun w hw=>by
 obtain⟨p,hp,rfl⟩:=A0x.1 hw;have h1:=A3Y (h p hp).1;have h2:=A5D p.label;simp only[E9,F9,List.length_nil];omega
theorem C1O {it:Itm} (h:it.fitI):(A99 it).length<=400+160 *Q4 it.body:=by
 have h1:=A3Y h.named;have h2:=A5D it.label;have h3:=B4E _ (C4z h.params.2) it.params.length;have h4:=B5p h.sends.2 it.sends.length;have h5:=A9U it.body 1 h.body.2 (H6 _) (by decide);have h6:=B2R 0;have h7:=h.params.1;have h8:=h.sends.1;rw[A99];split
 ·simp only[E9,F9,List.length_nil]
  omega
 ·split
  ·rw[B1B]
   simp only[E9,F9,List.length_nil,W9];omega
  ·simp
theorem B4N {m:Nat}:∀ {its:List Itm},(∀it∈its,it.fitI/\Q4 it.body<=m)->(A28 its).length<=its.length *(400+160 *m)
 | [],_=>by simp[A28]
 |it::its,h=>by
  have h1:=B4N (fun x hx=>h x (A0L _ hx));obtain⟨h2,h3⟩:=h it Q5;have h4:=C1O h2;rw[A28,A0b,E9,F9,Nat.succ_mul];rw[A28]at h1;omega
end Go.Sp
namespace Go.Sp
mutual
theorem C1E {o:Lab} (ho:∀f,o f<256):∀(x:Stm) {d:Nat},x.fitS d->(A97 o x).fitS d
 | .mk k nm a lb op e thn els f t,d,h=>by
  rw[Stm.fitS]at h;rw[A97,Stm.fitS];refine⟨h.1,?_⟩
  rcases h.2 with ⟨rfl,h1,h2,h3,rfl,rfl⟩|⟨rfl,h1,h2,rfl,rfl,rfl⟩|⟨rfl,h1,h2,rfl,rfl,rfl⟩|⟨rfl,h1,h2,rfl,rfl,rfl⟩|⟨rfl,h1,h2,rfl,rfl,rfl,h3⟩|⟨hk,h1,h2,rfl,h3,h4,h5,h6,h7⟩
  ·refine .inl ⟨rfl,h1,?_,fun e=>(by rw[if_pos rfl]at e;cases e),rfl,rfl⟩
   split
   ·exact ho f
   ·exact h2
  ·exact .inr (.inl ⟨rfl,h1,by rw[if_neg (by decide)];exact h2,by rw[if_neg (by decide)],rfl,rfl⟩)
  ·exact .inr (.inr (.inl ⟨rfl,h1,by rw[if_neg (by decide)];exact h2,by rw[if_neg (by decide)],rfl,rfl⟩))
  ·exact .inr (.inr (.inr (.inl ⟨rfl,h1,by rw[if_neg (by decide)];exact h2,by rw[if_neg (by decide)],rfl,rfl⟩)))
  ·exact .inr (.inr (.inr (.inr (.inl ⟨rfl,h1,by rw[if_neg (by decide)];exact h2,by rw[if_neg (by decide)],rfl,rfl,h3⟩))))
  ·have hk1:k≠1:=by omega
   refine .inr (.inr (.inr (.inr (.inr ⟨?_,h1,by rw[if_neg (fun e=>hk1 e.1)];exact h2,by rw[if_neg hk1],h3,by rw[A4L];exact h4,by rw[A4L];exact h5,A9D ho thn h6,A9D ho els h7⟩))))
   rcases hk with hk|⟨hk,rfl⟩
   ·exact .inl hk
   ·exact .inr ⟨hk,rfl⟩
theorem A9D {o:Lab} (ho:∀f,o f<256):∀(l:List Stm) {d:Nat},A0N l d->A0N (A2h o l) d
 | [],d,_=>by rw[A2h,A0N];trivial
 |x::l,d,h=>by
  rw[A0N]at h;rw[A2h,A0N];exact⟨C1E ho x h.1,A9D ho l h.2⟩
 end
theorem C5V {o:Lab} (ho:∀f,o f<256) {it:Itm} (h:it.fitI):(itI o it).fitI:=by
 refine⟨h.named,h.label,?_,h.params,h.sends,?_,h.none⟩
 ·rcases h.kind with hk|⟨h1,h2,h3,h4⟩
  ·exact .inl hk
  ·exact .inr ⟨h1,h2,h3,by show A2h o it.body= [];rw[h4];rfl⟩
 ·show (A2h o it.body).length<=40/\A0N (A2h o it.body) 1
  rw[A4L];exact⟨h.body.1,A9D ho _ h.body.2⟩
theorem C3z (s:List UInt8) (hb:A8Z (J7 s)=false):∀it∈J7 s,it.fitI:=fun it hit=>by
 have hd:it.diags= []:=by
  rw[A8Z,A6M]at hb;have:=hb it hit;simpa using this
 rw[J7]at hit;split at hit
 ·rw[A3M,A0x]at hit
  obtain⟨j,_,rfl⟩:=hit;exact B4Y _ _ hd
 ·cases hit
theorem B9r (s:List UInt8) (hb:A8Z (J7 s)=false) {r:List Itm} (h:B1u (J7 s) r):(∀y∈r,y.fitI)/\(A28 r).length<=100000000000000:=by
 obtain⟨hI,hL,hfew⟩:=B7w s;have key:∀y∈r,y.fitI/\Q4 y.body<=400000000:=fun y hy=>by
  obtain⟨x,hx,hxy⟩:=AllTwo.mem h y hy;have hx1:=C3z s hb x hx;have hx2:=hI x hx;by_cases k2:x.kind=2
  ·obtain⟨o,⟨⟨k,rfl⟩,_⟩,rfl⟩:=hxy.1 k2
   refine⟨C5V (B5U hL hx2.body (hL x hx).2 k) hx1,?_⟩
   show Q4 (A2h _ x.body)<=_
   rw[A9C];exact hx2.cnt
  ·rw[hxy.2 k2];exact⟨hx1,hx2.cnt⟩
 refine⟨fun y hy=>(key y hy).1,?_⟩
 have h1:=B4N (its:=r) (m:=400000000) key;have h2:=AllTwo.len h;rw[h2]at h1;have h3:(J7 s).length *(400+160 *400000000)<=30 *(400+160 *400000000):=A3U _ hfew;omega
end Go.Sp
namespace Go.Fw
open Go.Sp
open Go
section
variable {P:Program}{t t':TypeId}{w:World}
theorem B4q {e:TypeId} [TySlice P t e] [TyStr P t'] [he:Elem P e 1 1] (hz:(P.info? e).bind (·.zero)=some (.int .u8 0)) {v:Value}{base n:Nat}{xs:List Value} (hown:w.ownsRow base e 1 v n xs) (s:List UInt8)
  (hbytes:n+s.length≤140737488355328) (hbase:base≤w.heap.size) (ty:TypeId):
  ∃v' w',(Builtin.append_ #[t,t'] ty #[v,str s]).run P w=.ok v' w'∧w'.ownsRow base e 1 v' (n+s.length) (xs++s.map (fun c=>Value.int .u8 c.toNat))∧Kept v.ownBlock.toList w w'∧
   (v'.ownBlock=v.ownBlock∨∃g,v'.ownBlock=some g∧w.heap.size≤g):=by
 obtain⟨inf,z,hinf,hzz,hs,hby,_,_⟩:=he.out;have hz2:inf.zero=some (.int .u8 0):=by simpa[hinf] using hz
 have hsz:(⟨s.toArray⟩:ByteArray).size=s.length:=A2i s;have ht:=TySlice.out (P:=P) (t:=t);have hu:=TyStr.out (P:=P) (t:=t');have hm63:n+(⟨s.toArray⟩:ByteArray).size≤maxLen:=by unfold maxLen;rw[hsz];omega
 have hst:Lib.strCells ⟨s.toArray⟩=s.map (fun c=>Value.int .u8 c.toNat):=rfl;rcases hown.2 with ⟨rfl,rfl⟩|⟨g,cap,cur,rfl,hbg,hg,hnc,hcm,hcs,htake⟩
 ·have hx:xs= []:=A07 (by simpa using hown.1)
  subst hx;obtain⟨v',w',hr,ho,hk,_⟩:=Lib.run_append_own_string (P:=P) (w:=w) w.heap.size t t' ty e inf ht hu hinf hz2 hs hby (.slice none 0 0) 0 [] (World.ownsRow_nil w _ _ _) ⟨s.toArray⟩ hm63 (by rw[hsz];omega) (H6 _);rw[hsz,hst]at ho;refine⟨v',w',hr,A35 ho hbase,Kept.of_grown hk,?_⟩
  cases hv:v'.ownBlock with
  |none=>exact .inl (by simp[Value.ownBlock])
  |some g=>exact .inr ⟨g,rfl,(ho.lt g hv).1⟩
 ·obtain⟨v',w',hr,ho,hk,_⟩:=Lib.run_append_own_string (P:=P) (w:=w) base t t' ty e inf ht hu hinf hz2 hs hby _ n xs hown ⟨s.toArray⟩ hm63 (by rw[hsz];omega) hbase
  have ho2:=ho;rw[hsz,hst]at ho2;refine⟨v',w',hr,ho2,Kept.of_grown hk,?_⟩
  by_cases hroom:n+(⟨s.toArray⟩:ByteArray).size≤cap
  ·have hr2:=Lib.run_append_room_string (P:=P) w t t' ty e inf ht hu hinf hs g n cap cur hg ⟨s.toArray⟩ hroom (by rw[hcs,A2M];exact hroom)
   rw[hr]at hr2;injection hr2 with e1 _
   exact .inl (by rw[e1];rfl)
  ·have holds:∀j u,xs[j]?=some u→w.cell? ((⟨g,0,none⟩:Addr).add j)=some u:=hown.cells (g:=g) rfl
   have hr2:=Lib.run_append_grow_string (P:=P) w t t' ty e inf _ ht hu hinf hzz ⟨g,0,none⟩ n cap xs (by rw[hs];exact hown.1) holds ⟨s.toArray⟩ (by omega) (by rw[hsz];omega) (growslice_fits (by omega) (by rw[hby,hsz];omega));rw[hr]at hr2;injection hr2 with e1 _
   exact .inr ⟨w.heap.size,by rw[e1];rfl,H6 _⟩
end
section
variable {P:Program}{N:Nat}{ds:List Deferred}{X:List Nat}{Q:Exit→Act→World→Prop}{l:Log}{w w' w0:World}{os os' tail:List Oper}{ops:Array Oper}{E:Ent}{I I0:P7}{G R H:List HItem}{o:Oper}{K:Act→Prop}
variable {d:Nat}{ty:TypeId}{pos:String}{af:Array Edge}{g:Option (Nat×Bool)}{t t':TypeId}{x y z:Operand}
theorem C7F {e:TypeId} [TySlice P t e] [TyStr P t'] [Elem P e 1 1] (hz:(P.info? e).bind (·.zero)=some (.int .u8 0)) {i n:Nat}{v:Value}{xs:List Value}{s:List UInt8} (hm:Mem E I H w)
  (hw:U7 ops l ⟨some d,.call ⟨.builtin .append, #[x,y], #[t,t']⟩,ty,pos,af,g⟩=some true) (hN:Nat.blt d N=true)
  (hx:ev l x=some v) (hy:ev l y=some (str s)) (hi:H[i]?=some (.row v e 1 n xs)) (hlen:n+s.length≤140737488355328)
  (k:∀a cp w',Mem E I (H.set i (.row (.slice a (n+s.length) cp) e 1 (n+s.length) (xs++s.map (fun c=>Value.int .u8 c.toNat)))) w'→WL P N ds ops Q os ((d,.slice a (n+s.length) cp)::l) w'):
  WL P N ds ops Q (⟨some d,.call ⟨.builtin .append, #[x,y], #[t,t']⟩,ty,pos,af,g⟩::os) l w:=by
 obtain⟨v',w',hrun,ho,hk,hb⟩:=B4q (P:=P) (t:=t) (t':=t') hz (hm.getRow hi) s hlen (H7 _) ty;have hm':=hm.turn (h':=.row v' e 1 (n+s.length) (xs++s.map (fun c=>Value.int .u8 c.toNat))) hi hk ho hb;have hlt:i<H.length:=(A0y.1 hi).1;obtain⟨a,cp',rfl⟩:=A4u (hm'.getRow (i:=i) (by rw[A2f];simp[hlt];exact⟨rfl,rfl,rfl,rfl,rfl⟩));refine U6 (w':=w') (v:=.slice a (n+s.length) cp') rfl hw hN (fun c hc=>?_) (k a cp' w' hm')
 simp[execOp,resolve,invoke,builtin,hc.ev hx,hc.ev hy]
 rw[show str s=Value.string ⟨s.toArray⟩ from rfl,hrun];rfl
theorem C4n {te e:TypeId}{b off:Nat}{c:Array Value}{fr:Nat×Nat} (ht:P.underlying t=some (.pointer te)) (ht':P.underlying t'=some .unsafePointer) (hs:((P.info? te).map (fun j=>Nat.blt 0 j.size))=some true)
  (hw:U7 ops l ⟨some d,.convert t t' x,ty,pos,af,g⟩=some true) (hN:Nat.blt d N=true) (hx:ev l x=some (.pointer (some ⟨b,off,none⟩))) (hb:w.heap[b]?=some (.cells c e fr)) (ho:off<c.size)
  (k:WL P N ds ops Q os ((d,.pointer (some ⟨b,off,none⟩))::l) w):WL P N ds ops Q (⟨some d,.convert t t' x,ty,pos,af,g⟩::os) l w:=
 U6 rfl hw hN (fun a ha=>by
  cases hj:P.info? te with
  |none=>simp[hj]at hs
  |some j=>
   have hj0:j.size≠0:=by
    simp only[hj,A1T,U4,A1E]at hs;omega
   have h:=Lib.run_to_unsafe (P:=P) w ⟨b,off,none⟩ ht ht' hj hj0 (e:=e) (cells:=c.size) (by simp[World.shape?,hb]) ho;simp[execOp,ha.ev hx,h]) k
theorem B9H {u e:TypeId}{b off:Nat}{c:Array Value}{fr:Nat×Nat} (ht:P.underlying t=some .unsafePointer) (ht':P.underlying t'=some (.pointer u)) (hu:(P.info? u).isSome=true)
  (hw:U7 ops l ⟨some d,.convert t t' x,ty,pos,af,g⟩=some true) (hN:Nat.blt d N=true) (hx:ev l x=some (.pointer (some ⟨b,off,none⟩))) (hb:w.heap[b]?=some (.cells c e fr)) (hl:liesAt P P.depth e (c.size / P.cellsOf e) off u 1=true)
  (k:WL P N ds ops Q os ((d,.pointer (some ⟨b,off,none⟩))::l) w):WL P N ds ops Q (⟨some d,.convert t t' x,ty,pos,af,g⟩::os) l w:=
 U6 rfl hw hN (fun a ha=>by
  cases hj:P.info? u with
  |none=>simp[hj]at hu
  |some j=>
   have h:=Lib.run_from_unsafe (P:=P) w ⟨b,off,none⟩ ht ht' hj (e:=e) (cells:=c.size) (by simp[World.shape?,hb]) hl;simp[execOp,ha.ev hx,h]) k
theorem C4m {f : FuncId} {fn : Func} {xs : List Operand} {tys : Array TypeId} {v : Value} (hf : P.funcs[f]? = some fn) (hname : (fn.name == "runtime.NumGoroutine") = false) (hb : fn.body.isNone = true) (hn : Extern.findNext fn = none) (he : Extern.find fn = some Extern.AbiNoEscape.same)
  (hw:U7 ops l ⟨some d,.call ⟨.value (.func f),xs.toArray,tys⟩,ty,pos,af,g⟩=some true) (hN:Nat.blt d N=true) (hx:evs l xs=some [v])
  (k:WL P N ds ops Q os ((d,v)::l) w):WL P N ds ops Q (⟨some d,.call ⟨.value (.func f),xs.toArray,tys⟩,ty,pos,af,g⟩::os) l w:=
 U6 rfl hw hN (fun a ha=>by
  have h1:=ha.evs hx;have h2:=run_callFunc_extern hf hname hb hn he #[v] w;rw[Lib.run_noEscape]at h2;simp[execOp,resolve,invoke,Act.eval,Deferred.ofValue,h1,h2,Result.andThen]) k
theorem B3N {te:TypeId} (hp:P.underlying t=some (.pointer te)) (hs:(P.info? te).isSome=true) {a:Addr} (hw:U7 ops l ⟨some d,.binOp .neq t x y t',ty,pos,af,g⟩=some true) (hN:Nat.blt d N=true) (hx:ev l x=some (.pointer (some a))) (hy:ev l y=some (.pointer (some a)))
  (k:WL P N ds ops Q os ((d,.bool false)::l) w):WL P N ds ops Q (⟨some d,.binOp .neq t x y t',ty,pos,af,g⟩::os) l w:=
 U6 rfl hw hN (fun c hc=>by
  cases hj:P.info? te with
  |none=>simp[hj]at hs
  |some j=>
   have h:=Lib.run_neq_ptr_same (P:=P) w a hp hj;simp[execOp,hc.ev hx,hc.ev hy,eqGuard,h]) k
theorem B8F {a:Addr}{n c:Nat} (hw:U7 ops l ⟨some d,.call ⟨.builtin .unsafeSliceData, #[x], #[t]⟩,ty,pos,af,g⟩=some true) (hN:Nat.blt d N=true)
  (hx:ev l x=some (.slice (some a) n c)) (hc:c≠0) (k:WV P N ds ops X w K os ((d,.pointer (some a))::l)):
  WV P N ds ops X w K (⟨some d,.call ⟨.builtin .unsafeSliceData, #[x], #[t]⟩,ty,pos,af,g⟩::os) l:=
 A12 rfl hw hN (fun w' hkq b ha=>by
  have h1:=Lib.run_unsafeSliceData_row (P:=P) w' #[t] ty a n c hc;simp[execOp,resolve,invoke,builtin,ha.ev hx,h1]) k
theorem B6D {n c:Nat} (hw:U7 ops l ⟨some d,.call ⟨.builtin .unsafeSliceData, #[x], #[t]⟩,ty,pos,af,g⟩=some true) (hN:Nat.blt d N=true)
  (hx:ev l x=some (.slice none n c)) (k:WV P N ds ops X w K os ((d,.pointer none)::l)):
  WV P N ds ops X w K (⟨some d,.call ⟨.builtin .unsafeSliceData, #[x], #[t]⟩,ty,pos,af,g⟩::os) l:=
 A12 rfl hw hN (fun w' hkq b ha=>by
  have h1:=Lib.run_unsafeSliceData_nil (P:=P) w' #[t] ty n c;simp[execOp,resolve,invoke,builtin,ha.ev hx,h1]) k
theorem B9D (hm:Mem ⟨w0,X,I0⟩ I H w) {q:Option Addr} (hw:U7 ops l ⟨some d,.call ⟨.builtin .unsafeString, #[x,y], #[t,t']⟩,ty,pos,af,g⟩=some true) (hN:Nat.blt d N=true)
  (hx:ev l x=some (.pointer q)) (hy:ev l y=some (.int .i64 0)) (k:WS P N ds ops Q X w0 os' tail ((d,str [])::l) w):
  WS P N ds ops Q X w0 (⟨some d,.call ⟨.builtin .unsafeString, #[x,y], #[t,t']⟩,ty,pos,af,g⟩::os') tail l w:=
 A32 (v:=str []) rfl hw hN (fun a ha=>by
  have h1:=Lib.run_unsafeString_none (P:=P) w t t' ty q;simp[execOp,resolve,invoke,builtin,ha.ev hx,ha.ev hy,h1]
  rfl) hm.kept k
theorem C12 {e:TypeId} (hp:P.underlying t=some (.pointer e)) (hc:P.cellsOf e=1) {b n cap:Nat}{s:List UInt8} (hm:Mem ⟨w0,X,I0⟩ I (.row (.slice (some ⟨b,0,none⟩) n cap) e 1 n (s.map (fun c=>Value.int .u8 c.toNat))::H) w)
  (hw:U7 ops l ⟨some d,.call ⟨.builtin .unsafeString, #[x,y], #[t,t']⟩,ty,pos,af,g⟩=some true) (hN:Nat.blt d N=true)
  (hx:ev l x=some (.pointer (some ⟨b,0,none⟩))) (hy:ev l y=some (.int .i64 (n:Int))) (hs:s≠ []) (hsn:s.length=n)
  (k:∀w',Mem ⟨w0,X,I0⟩ I H w'→WS P N ds ops Q X w0 os' tail ((d,str s)::l) w'):
  WS P N ds ops Q X w0 (⟨some d,.call ⟨.builtin .unsafeString, #[x,y], #[t,t']⟩,ty,pos,af,g⟩::os') tail l w:=by
 subst hsn;have h0:0<s.length:=A3W.2 hs;obtain⟨b',cp,cur,hv,hm2,hcp,hcm,hsz,ht⟩:=hm.openRow h0;injection hv with e1 _ e3
 injection e1 with e1
 injection e1 with e1
 subst e1;subst e3;have hg:=hm2.ok _ Q5;have hg':w.heap[b]?=some (.cells cur e (0,0)):=hg;rw[A2M]at hsz;rw[A2M]at ht;have hrun:=Lib.run_unsafeString_row (P:=P) w t t' ty e hp hc b cur.size (by simp[World.shape?,hg']) s hs (by omega) (by unfold maxLen at hcm;omega) (fun j c hj=>by
  rw[Addr.add_lit];refine A2z hg' ?_
  have h1:(cur.toList.take s.length)[j]?=some (.int .u8 c.toNat):=by rw[ht,A0e,hj];rfl
  rw[A1z]at h1;split at h1
  ·simpa using h1
  ·cases h1)
 have hk:Kept [b] w (w.freeze ⟨b,0,none⟩ s.length):=by
  have hn0:s.length≠0:=by omega
  rw[World.freeze,if_neg hn0];refine⟨rfl,rfl,rfl,by simp,fun q hq hqb=>?_⟩
  have hne:b≠q:=fun e=>hqb (by rw[e];exact Q5)
  simp[A2S,hne]
 have hm':Mem ⟨w0,X,I0⟩ I H (w.freeze ⟨b,0,none⟩ s.length):=hm2.tl.keptX hk (fun q hq=>by
   obtain rfl:q=b:=by simpa using hq
   exact hm2.born _ Q5 q rfl) (fun q hq=>by
   obtain rfl:q=b:=by simpa using hq
   exact hm2.free _ Q5 q rfl) (fun h hh q hq hqb=>by
   obtain rfl:q=b:=by simpa using hqb
   exact(A1A.1 hm2.dist).1 h hh q rfl hq)
 exact A32 (v:=str s) rfl hw hN (fun a ha=>by
  simp[execOp,resolve,invoke,builtin,ha.ev hx,ha.ev hy,hrun]) hm'.kept (k _ hm')
end
end Go.Fw
namespace Go.Sp
def C9z:List UInt8:= [102,110,32,102,40,41,58,32,123,125,32,123,32,114,101,116,117,114,110,32,49,59,32,125]
def B8p:List Qn:= [⟨1,1,0,0,C9z,[]⟩,⟨2,2,20,21,[50],[]⟩,⟨3,8,0,0,[102],[]⟩]
theorem C2w:((rpQ A1b B8p).getD 0 A65).fresh=1/\((rpQ A1b B8p).getD 2 A65).id=3/\((rpQ A1b B8p).getD 2 A65).ran.n=2:=by decide+kernel
def C7a:List UInt8:= [99,104,97,110,32,99,58,32,123,97,125,59,10,102,110,32,102,40,120,58,32,123,97,44,98,125,41,58,32,123,125,32,115,101,110,100,115,32,99,32,123,32,115,101,110,100,32,99,32,120,59,32,125]
def B5x:List Qn:= [⟨0,1,0,0,C7a,[]⟩,⟨0,3,0,0,[],[]⟩]
theorem C0g:(((rpQ A1b B5x).getD 1 A65).dgs.map (·.err))= [9]:=by decide+kernel
end Go.Sp
namespace Go.Proofs
open Go.Proofs.Tryz
open Go.Sp
open Go.Fw
theorem _root_.Go.Fw.pmL7 {f r m a b c d:HItem}{T:List HItem}:(f::r::m::a::b::c::d::T).Perm ((T++ [f,r,m])++ [a,b,c,d]):=by
 rw[O4];exact A0R (l₁:= [f,r,m,a,b,c,d])
theorem _root_.Go.Fw.pmL4 {a b c d:HItem}{T:List HItem}:(a::b::c::d::T).Perm (T++ [a,b,c,d]):=A0R (l₁:= [a,b,c,d])
theorem _root_.Go.Fw.pmIcT {r c f m:HItem}{T:List HItem}:(r::c::f::m::T).Perm (c::f::r::m::T):=(A0R (l₁:= [r]) (l₂:= [c,f])).append_right (m::T)
theorem _root_.Go.Fw.pmSw {a b:HItem}{T:List HItem}:(a::b::T).Perm (b::a::T):=.swap _ _ _
def A36 (l:List Sp.Par):List Loc:=l.map (fun p=>(⟨p.name,p.label,none⟩,.pointer none))
theorem A9n (l:List Sp.Par):(A36 l).map (·.1)=B2j l:=by rw[A36,B2j,List.map_map];rfl
theorem B6g {l:List Sp.Par}{j:Nat}{p:Sp.Par} (h:l[j]?=some p):A36 (l.take (j+1))=A36 (l.take j)++ [(⟨p.name,p.label,none⟩,.pointer none)]:=by
 rw[Q9 h,A36,Y8];rfl
abbrev InT (bd bf:Nat) (sc:List Loc) (o:Sp.Lab) (more:Bool) (sa:Option Addr) (sp bo:Nat) (zs:A1S) (T:List HItem):List HItem:=
 .cell bd [ptr bf,.slice sa sc.length sp,.map (some bo),.bool more] 184:: .row (.slice sa sc.length sp) 186 3 sc.length (sc.flatMap (A4d o)):: .mz bo zs::T
structure LbX where
 k:Nat
 I:P7
 a:Option Addr
 cp:Nat
 xs:List Value
 r:List Sp.Itm
structure LbR where
 I:P7
 sc:List Loc
 o:Sp.Lab
 more:Bool
 sa:Option Addr
 sp:Nat
 zs:A1S
structure LbP where
 j:Nat
 sa:Option Addr
 sp:Nat
abbrev C7i (its:List Sp.Itm):Value->P7->List HItem->Prop:=fun v J H'=>H'= []/\∃ra rp xs r,B1u its r/\v=.agg [.slice ra r.length rp].toArray/\RowI J 64 10 (.slice ra r.length rp) r.length xs/\A5j J r xs
theorem C3O {its:List Sp.Itm} (hlab:A3b its) (hI:∀x∈its,Sp.ItI x) (I:P7) (a:Option Addr) (cp:Nat) (xs:List Value) (hfe:FE I its a cp xs):
  CalM prog 59 #[.agg [.slice a its.length cp].toArray] I [] (C7i its):=by
 have hfew:=hfe.few;refine CalM.of fun w E hm=>enter (N:=72) func59 rfl [(0,.agg [.slice a its.length cp].toArray)] A0G rfl ?_
 repeat' (first|refine A0K 2 ?_|refine A0P (d:=1) ?_ hm;clear hm;intro b1 _ hm|refine S9 (d:=2) ?_ hm;clear hm;intro b2 _ hm|refine S9 (d:=3) ?_ hm;clear hm;intro b3 _ hm|refine D9 ?_|refine A7 ?_|refine E5 ?_|refine A8 ?_)
 obtain⟨I1,hle1,hm1,hpf⟩:=(hm.perm (A0R (l₁:= [_,_]) (l₂:= [_]))).freezeO;clear hm;have hm:=hm1;clear hm1;have hfe1:=hfe.le hle1;refine⟨?_⟩
 repeat' (first|refine J5 ?_ hm|refine D8 ?_|refine G7 ?_|refine C9 ?_|refine D9 ?_|refine A7 ?_|refine A8 ?_|refine F5 ?_)
 have hm:=(hm.nil 64 10).swap;refine U0 (fun x:LbX=> [(1,ptr b1),(2,ptr b2),(3,ptr b3),(10,.slice a its.length cp),(11,nt its.length),(12,nt x.k)])
  (fun x w'=>Mem E x.I [.cell b3 [.slice x.a x.r.length x.cp] 25,B3A x.r.length x.a x.cp x.xs,.cell b2 [.slice none 0 0] 25] w'/\Le I1 x.I/\x.k<=its.length/\Sp.AllTwo (C1p its) (its.take x.k) x.r/\A5j x.I x.r x.xs) (fun x=>its.length-x.k) ⟨0,I1,none,0,[],[]⟩
  (by exact⟨rfl,rfl,rfl,rfl,rfl,rfl,trivial⟩) ⟨hm,Le.refl _,H7 _,.nil,rfl⟩ ?_
 clear hm;rintro⟨k,I2,ra,rp,rx,r⟩ w2 ⟨hm,hle2,hk,hall,hits⟩;dsimp only at hm hle2 hk hall hits |-;have hfe2:=hfe1.le hle2;have hpf2:=hpf.le hle2;have hri:=hfe2.row;have hrl:=hall.len;rw[P6,A1h hk]at hrl;by_cases hlt:k<its.length
 ·have hg:its[k]?=some its[k]:=G6 hlt
  have htk:=Q9 hg;obtain⟨cs,hcs,hat,hl10⟩:=hfe2.get hg;have hIt:=hI _ (O6 hlt);have hpl:=(hlab _ (O6 hlt)).2;generalize its[k]=it at hg hat hIt hpl htk;have hOw:=C85 it hIt.small I2 cs hat
  have hpn:=hIt.small.params;have hbn:=hIt.small.body;obtain⟨ap0,cp0,as0,cs0,ab0,cb0,ad0,cd0,xb0,rfl,_⟩:=hat
  repeat' (first|refine N7 (d:=14) ?_ (hr:=hri);intro bt ot hpt;rw[show ((k:Int).toNat *10)=k *10 from rfl,hcs]at hpt|refine F6 (d:=17) ?_ hm (hp:=pm0) (hc:=hOw);clear hm;rintro _ I3 _ _ ⟨ap,cp',as_,cs',ab,cb,ad,cd,Hb,rfl,rfl,hO,hrs,hrd⟩ hleI3 hm;replace hm:=hm.perm A0R|refine A0K 6 ?_|refine Y1 (d:=5) ?_ hm;clear hm;intro b5 _ hm|refine X5 ?_ hm|refine X0 ?_ hm|refine N9 ?_ hm;clear hm;intro _ hm;try simp only[F8]at hm|refine J6 ?_|refine D9 ?_|refine A7 ?_|refine E5 ?_|refine A8 ?_|refine F5 ?_|refine G5 ?_|(refine D5 (ht:=fun _=>?_) (hf:=fun _=>?_)<;>try first|contradiction|omega))
  obtain⟨I4,hle4,hm4,hrp⟩:=(hm.perm (pmL4.trans (.refl _))).freeze;clear hm;have hm:=hm4.perm pmL4.symm;clear hm4;have hle24:Le I2 I4:=hleI3.trans hle4;have hO4:=hO.le hle4;have hrs4:=hrs.le hle4;have hrd4:=hrd.le hle4;have hpf4:=hpf2.le hle24;have hfe4:=hfe2.le hle24;have hits4:=hits.le hle24;refine⟨?_⟩
  by_cases k2:it.kind=2
  ·skip
   repeat' (first|refine B1R (d:=21) ?_ hm;clear hm;intro b21 _ hm|refine A0P (d:=23) ?_ hm;clear hm;intro b23 _ hm|refine J4 ?_ hm|refine D6 ?_|refine O0 ?_|refine C9 ?_|refine Q3 ?_|refine D9 ?_|refine A7 ?_|refine E5 ?_|refine A8 ?_|refine F5 ?_|(refine D5 (ht:=fun _=>?_) (hf:=fun _=>?_)<;>try first|contradiction|omega))
   have hm:=(hm.nil 186 3).perm pmSw;refine U0 (fun _:LbR=> [(1,ptr b1),(2,ptr b2),(3,ptr b3),(5,ptr b5),(6,ptr b23),(10,.slice a its.length cp),(11,nt its.length),(12,nt k)])
    (fun x w'=>Mem E x.I (InT b23 b1 x.sc x.o x.more x.sa x.sp b21 x.zs (.cell b5 (A1F it.kind it.name it.label (.slice ap it.params.length cp') (.slice as_ it.sends.length cs') (.slice ab it.body.length cb) it.at_ it.size it.mark (.slice ad it.diags.length cd)) 64:: .cell b3 [.slice ra r.length rp] 25::B3A r.length ra rp rx:: .cell b2 [.slice none 0 0] 25::Hb)) w'/\
     Le I4 x.I/\OpenZ x.zs x.o/\(∃kk,x.o=B06 its it kk)/\(x.more=false->A47 its it x.o=(x.o,false)))
    (fun x=>2 *B12 (A1c it.body) x.o+(if x.more=true then 1 else 0)) ⟨I4,[],fun _=>0,true,none,0,[]⟩
    (by exact⟨rfl,rfl,rfl,rfl,rfl,rfl,rfl,rfl,trivial⟩) ⟨hm,Le.refl _,OpenZ.nil,⟨0,rfl⟩,fun h=>(by cases h)⟩ ?_
   clear hm;rintro⟨I5,sc,o,more,sa,sp,zs⟩ w5 ⟨hm,hle5,hz,⟨kk,hkk⟩,hfix⟩;dsimp only at hm hle5 hz hkk hfix |-;have hok:∀f,o f<256:=fun f=>by rw[hkk];exact B5U hlab hIt.body hpl kk f
   obtain⟨hr1,hr2,hr3⟩:=B5l (o:=o) hlab hIt.body hpl hok;cases more with
   |false=>
    repeat' (first|refine A0K 17 ?_|refine J4 ?_ hm|refine D8 ?_|refine E8 ?_|refine C9 ?_|refine D9 ?_|refine A7 ?_|refine H8 ?_|refine G9 ?_|refine E5 ?_|refine A8 ?_|refine P8 ?_|refine F7 ?_)
    obtain⟨I6,hle6,hm6,hpd⟩:=hm.freezeO;obtain⟨I7,hle7,hm7,hmz⟩:=Mem.freezeMZ hm6.tl;clear hm hm6;have hm:=hm7;clear hm7;have hF:=C7E (bd:=b23) (bo:=b21) hz _ it.body (H6 _) (by omega) hIt.small.stms I7 ab cb Hb (hpd.le hle7) hmz (((hO4.le hle5).le hle6).le hle7);refine⟨?_⟩
    repeat' (first|refine F6 (d:=63) ?_ hm (hp:=pmL4) (hc:=hF);clear hm;rintro _ I8 H1 _ ⟨rfl,hO8⟩ hleI8 hm;replace hm:=hm.perm pmL4.symm|refine A0K 18 ?_|refine J4 ?_ hm|refine D8 ?_|refine C9 ?_|refine D9 ?_|refine A7 ?_|refine A8 ?_)
    obtain⟨I9,xb9,hle9,hm9,hrb,hxb⟩:=hO8.freeze (hm.perm pmL4);clear hm;have hm:=hm9;clear hm9;have hle49:Le I4 I9:=(((hle5.trans hle6).trans hle7).trans hleI8).trans hle9;have hit:A57 I9 (Sp.itI o it) (A1F it.kind it.name it.label (.slice ap it.params.length cp') (.slice as_ it.sends.length cs') (.slice ab it.body.length cb) it.at_ it.size it.mark (.slice ad it.diags.length cd)):=
     ⟨ap,cp',as_,cs',ab,cb,ad,cd,xb9,by show _=A1F it.kind it.name it.label _ _ (.slice ab (A2h o it.body).length cb) it.at_ it.size it.mark _;rw[A4L];rfl,hrp.le hle49,hrs4.le hle49,hrb,hxb,hrd4.le hle49⟩
    refine⟨?_⟩
    repeat' (first|refine A2b (d:=68) ?_ hm;clear hm;intro a68 cp68 _ _ hm;try simp only[F8]at hm|refine J4 ?_ hm|refine X5 ?_ hm|refine O8 hm (k:=?_);clear hm;intro _ hm;try simp only[F8]at hm|refine D8 ?_|refine P5 ?_|refine C9 ?_|refine D9 ?_|refine A7 ?_|refine D7 ?_|refine A8 ?_)
    refine L8 (⟨k+1,I9,a68,cp68,_,r++ [Sp.itI o it]⟩:LbX) (by exact⟨rfl,rfl,rfl,rfl,rfl,rfl,trivial⟩) ⟨?_,(hle2.trans hle24).trans hle49,by dsimp only;omega,by dsimp only;rw[htk];exact hall.snoc ⟨fun _=>⟨o,⟨⟨kk,hkk⟩,hfix rfl⟩,rfl⟩,fun h=>absurd k2 h⟩,(hits4.le hle49).snoc hit⟩ (by dsimp only;omega)
    dsimp only[B3A];rw[E9];exact hm.tl
   |true=>
    repeat' (first|refine A0K 11 ?_|refine J4 ?_ hm|refine O8 hm (k:=?_);clear hm;intro _ hm;try simp only[F8]at hm|refine D8 ?_|refine E8 ?_|refine C9 ?_|refine D9 ?_|refine A7 ?_|refine E5 ?_|refine A8 ?_|refine F5 ?_|refine G5 ?_|refine H5 ?_)
    have hm:=((hm.perm pmSw).tl.nil 186 3).perm pmSw;have hrp5:=hrp.le hle5;have hO5:=hO4.le hle5;refine⟨?_⟩
    repeat' (first|refine J4 ?_ hm|refine D8 ?_|refine G7 ?_|refine C9 ?_|refine D9 ?_|refine A7 ?_|refine A8 ?_|refine F5 ?_)
    refine U0 (fun x:LbP=> [(1,ptr b1),(2,ptr b2),(3,ptr b3),(5,ptr b5),(6,ptr b23),(10,.slice a its.length cp),(11,nt its.length),(12,nt k),(35,.slice ap it.params.length cp'),(36,nt it.params.length),(37,nt x.j)])
     (fun x w'=>Mem E I5 (InT b23 b1 (A36 (it.params.take x.j)) o false x.sa x.sp b21 zs (.cell b5 (A1F it.kind it.name it.label (.slice ap it.params.length cp') (.slice as_ it.sends.length cs') (.slice ab it.body.length cb) it.at_ it.size it.mark (.slice ad it.diags.length cd)) 64:: .cell b3 [.slice ra r.length rp] 25::B3A r.length ra rp rx:: .cell b2 [.slice none 0 0] 25::Hb)) w'/\x.j<=it.params.length)
     (fun x=>it.params.length-x.j) ⟨0,none,0⟩ (by exact⟨rfl,rfl,rfl,rfl,rfl,rfl,rfl,rfl,rfl,rfl,rfl,trivial⟩) ⟨hm,H7 _⟩ ?_
    clear hm;rintro⟨j,sa1,sp1⟩ w6 ⟨hm,hj⟩;dsimp only at hm hj |-;have hpl1:(A36 (it.params.take j)).length=j:=by rw[A36,A0h,P6];omega
    by_cases hlj:j<it.params.length
    ·have hgp:it.params[j]?=some it.params[j]:=G6 hlj
     have hstp:=B6g hgp;generalize it.params[j]=p at hgp hstp;repeat' (first|refine Q8 (d:=39) (enc:=A2Q) (z:=p) ?_ (hr:=hrp5) (he:=fun _=>rfl) (hz:=by exact hgp);intro bz oz hpz|refine A0p (id:=14) (hm.perm pm1_2) [0,1,2,3,4,5,6,7,8,9] [10,11] 12 (h:=?_);clear hm;intro wd hR hm|refine Y9 ?_ hR|refine A1X (d:=52) ?_ hm;clear hm;intro a52 cp52 _ _ hm;replace hm:=hR.back hm;clear hR;try simp only[F8]at hm|refine Y1 (d:=8) ?_ hm;clear hm;intro b8 _ hm|refine X0 ?_ hm|refine O8 hm (k:=?_);clear hm;intro _ hm;try simp only[F8]at hm|refine D8 ?_|refine J6 ?_|refine E8 ?_|refine P5 ?_|refine C9 ?_|refine D9 ?_|refine A7 ?_|refine D7 ?_|refine E5 ?_|refine A8 ?_|refine F5 ?_|refine G5 ?_|(refine D5 (ht:=fun _=>?_) (hf:=fun _=>?_)<;>try first|contradiction|omega)|refine Z5 ?_|refine O7 ?_|refine L6 ?_|refine A2P ?_|refine A0c ?_)
     refine L8 (⟨j+1,a52,cp52⟩:LbP) (by exact⟨rfl,rfl,rfl,rfl,rfl,rfl,rfl,rfl,rfl,rfl,rfl,trivial⟩) ⟨?_,by dsimp only;omega⟩ (by dsimp only;omega)
     dsimp only[InT];rw[hstp,Y3,E9];exact(hm.perm pmIcT).tl
    ·obtain rfl:j=it.params.length:=by omega
     rw[V7]at hm;have hq:(A2d its it.body ((A36 it.params).map (·.1)) 0 (o,false)).2=A47 its it o:=by rw[A9n];rfl
     have hB:CalM prog 80 #[ptr b23,.slice ab it.body.length cb,nt 0] I5 (Hb++B0k b23 b1 (A36 it.params) o false sa1 sp1 b21 zs) _:=CalM.lend (QJ:=fun J=> ∃xb,RowI J 127 15 (.slice ab it.body.length cb) it.body.length xb/\X9 J it.body xb)
      (fun E w hmm=>by
       obtain⟨J,xbJ,hleJ,hmJ,hrJ,hxJ⟩:=hO5.freeze hmm;exact⟨J,hleJ,hmJ,xbJ,hrJ,hxJ⟩)
      (fun J m ⟨xb,h1,h2⟩=>C5S (bd:=b23) (bf:=b1) (bo:=b21) hlab _ it.body (H6 _) (by omega) hIt.small.stms hIt.body J ab cb xb (A36 it.params) 0 (o,false) sa1 sp1 zs (by omega) hok
       (by rw[A9n];exact B3R hpl) (by have:=hIt.cnt;rw[A36,A0h];omega) (by rw[A9n,B5d];exact hIt.lets)
       (fun q hq=>by obtain⟨p,_,rfl⟩:=A0x.1 hq;exact .inl ⟨rfl,rfl⟩) hz ((hfe4.le hle5).le m) ((hpf4.le hle5).le m) h1 h2)
     rw[hq]at hB;repeat' (first|refine F6 (d:=59) ?_ hm (hp:=pmL7) (hc:=hB);clear hm;rintro _ I6 _ _ ⟨_,rfl,rfl,sa6,sp6,zs6,hz6,rfl⟩ hleI6 hm;replace hm:=hm.perm pmL7.symm|refine J4 ?_ hm|refine D8 ?_|refine J6 ?_|refine C9 ?_|refine D9 ?_|refine A7 ?_|refine H8 ?_|refine D7 ?_|refine G9 ?_|refine E5 ?_|refine A8 ?_|refine P8 ?_|(refine D5 (ht:=fun _=>?_) (hf:=fun _=>?_)<;>try first|contradiction|omega))
     refine L8 (⟨I6,A36 it.params,(A47 its it o).1,(A47 its it o).2,sa6,sp6,zs6⟩:LbR) (by exact⟨rfl,rfl,rfl,rfl,rfl,rfl,rfl,rfl,trivial⟩) ⟨hm,hle5.trans hleI6,hz6,⟨kk+1,by rw[hkk];rfl⟩,fun h=>?_⟩ ?_
     ·dsimp only at h |-
      have h3:=hr3 h;rw[h3];exact Prod.ext h3 h
     ·dsimp only
      cases hb:(A47 its it o).2 with
      |true=>have:=hr2 hb;rw[if_pos rfl];omega
      |false=>rw[hr3 hb,if_neg (by decide),if_pos rfl];omega
  ·obtain⟨I5,xb5,hle5,hm5,hrb,hxb⟩:=hO4.freeze (hm.perm pmL4)
   clear hm;have hm:=hm5;clear hm5;have hit:A57 I5 it (A1F it.kind it.name it.label (.slice ap it.params.length cp') (.slice as_ it.sends.length cs') (.slice ab it.body.length cb) it.at_ it.size it.mark (.slice ad it.diags.length cd)):=
    ⟨ap,cp',as_,cs',ab,cb,ad,cd,xb5,rfl,hrp.le hle5,hrs4.le hle5,hrb,hxb,hrd4.le hle5⟩
   repeat' (first|refine A2b (d:=68) ?_ hm;clear hm;intro a68 cp68 _ _ hm;try simp only[F8]at hm|refine J4 ?_ hm|refine X5 ?_ hm|refine O8 hm (k:=?_);clear hm;intro _ hm;try simp only[F8]at hm|refine D8 ?_|refine O0 ?_|refine P5 ?_|refine C9 ?_|refine D9 ?_|refine A7 ?_|refine D7 ?_|refine A8 ?_|refine G5 ?_|(refine D5 (ht:=fun _=>?_) (hf:=fun _=>?_)<;>try first|contradiction|omega))
   refine L8 (⟨k+1,I5,a68,cp68,_,r++ [it]⟩:LbX) (by exact⟨rfl,rfl,rfl,rfl,rfl,rfl,trivial⟩) ⟨?_,(hle2.trans hle24).trans hle5,by dsimp only;omega,by dsimp only;rw[htk];exact hall.snoc ⟨fun h=>absurd h k2,fun _=>rfl⟩,(hits4.le hle5).snoc hit⟩ (by dsimp only;omega)
   dsimp only[B3A];rw[E9];exact hm.tl
 ·obtain rfl:k=its.length:=by omega
  rw[V7]at hall;repeat' (first|refine X5 ?_ hm|refine N9 ?_ hm;clear hm;intro _ hm;try simp only[F8]at hm|refine Y6 ?_ hm|refine J6 ?_|refine D9 ?_|refine A7 ?_|refine H8 ?_|refine G9 ?_|refine E5 ?_|refine A8 ?_|refine P8 ?_|refine H9 ?_|(refine D5 (ht:=fun _=>?_) (hf:=fun _=>?_)<;>try first|contradiction|omega))
  obtain⟨I3,hle3,hm3,hrow3⟩:=(hm.perm pmSw).freeze;exact⟨I3,[],⟨rfl,ra,rp,rx,r,hall,rfl,hrow3,hits.le hle3⟩,hm3.left (H:= [])⟩
end Go.Proofs
