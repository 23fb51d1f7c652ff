/- Own work. -/
import Derived.Test.YtbmbnippbldmfaaGreatDoorSn14
import Derived.Lib.AppendStr
import Derived.Lib.Builder
import Derived.Lib.UnsafeStr
import Derived.Laws.Externs
import Derived.Lib.Split
import Derived.Lib.Join
set_option maxHeartbeats 64000000
namespace Go.Sp
theorem A7j (o:Lab) (l:List Stm):A2f o l=l.map (A9O o):=by
 induction l with
 |nil=>rw[A2f];rfl
 |cons x l ih=>rw[A2f,ih];rfl
theorem A4J (o:Lab) (l:List Stm):(A2f o l).length=l.length:=by rw[A7j,A0g]
theorem C01 (o:Lab) (l r:List Stm):A2f o (l++r)=A2f o l++A2f o r:=by rw[A7j,A7j,A7j,Y8]
theorem C2D {α:Type}{l:List α}{k:Nat}{x:α} (h:l[k]?=some x):l.drop k=x::l.drop (k+1):=by
 obtain⟨hk,e⟩:=A0t.1 h;rw[<-e];exact A6t hk
def B80 (o:Lab) (y:Stm):Nat:=if y.kind=1/\y.opn=true then o y.fr else y.label
def B9j (y:Stm):Bool:=if y.kind=1 then false else y.opn
theorem C2Y (o:Lab) (y:Stm):A9O o y=.mk y.kind y.name y.at_ (B80 o y) (B9j y) y.e (A2f o y.thn) (A2f o y.els) y.fr y.to:=by cases y;rw[A9O];rfl
theorem AllTwo.snoc {α β:Type}{R:α->β->Prop}:∀ {l:List α}{r:List β}{a:α}{b:β},AllTwo R l r->R a b->AllTwo R (l++ [a]) (r++ [b])
 |_,_,_,_,.nil,h=> .cons h .nil
 |_,_,_,_,.cons h1 t1,h=> .cons h1 (t1.snoc h)
structure ItI (x:Itm):Prop where
 small:x.small
 body:X7 B0w B0P x.body
 cnt:P8 x.body<=400000000
 lets:(A1a x.body).Nodup
 none:0∉A1a x.body
theorem B5p {its:List Itm}{it:Itm} (hlab:A26 its) (hb:X7 B0w B0P it.body) (hp:∀p∈it.params,p.label<256):∀(k f:Nat),B0N its it k f<256
 |0,_=>by show 0<256;omega
 |k+1,f=>(B4R hlab hb hp (B5p hlab hb hp k)).1 f
mutual
theorem C02 (o:Lab):∀(x:Stm),(A9O o x).cnt=x.cnt
 | .mk k nm a lb op e thn els f t=>by rw[A9O,Stm.cnt,Stm.cnt,A9m o thn,A9m o els]
theorem A9m (o:Lab):∀(l:List Stm),P8 (A2f o l)=P8 l
 | []=>by rw[A2f]
 |x::l=>by rw[A2f,P8,P8,C02 o x,A9m o l]
end
theorem AllTwo.mem {α β:Type}{R:α->β->Prop}:∀ {l:List α}{r:List β},AllTwo R l r->∀b∈r,∃a∈l,R a b
 |_,_,.nil,b,h=>by cases h
 |_,_,.cons h t,b,hb=>by
  rcases V8.1 hb with rfl|hb
  ·exact⟨_,Q7,h⟩
  ·obtain⟨a,h1,h2⟩:=t.mem b hb
   exact⟨a,A0Q _ h1,h2⟩
section
variable {its g:List Itm}
end
theorem C3g (src:List UInt8) (at_:Int) (h:src.length<=1048576):ItI (item src at_)/\(item src at_).label<256/\∀p∈(item src at_).params,p.label<256:=by
 have hA:=B3f (src:=src) (p:=B0w) (q:=B0P) (r:=fun p=>p.label<256) (t:=fun _=>True) at_ ⟨trivial,fun _=>trivial,fun _ _ _ _=>trivial,fun _ _=>trivial,fun _ _ _ _ _ _=>trivial,fun _ _ _ _ _ _ _ _ _ _ _ _ _ _ _ _=>trivial⟩
  ⟨by show 0<256;omega,fun _ _ lb _ _ h=>A5u h,fun _ _ _=>(by show 0<256;omega),fun _ _ _ _=>(by show 0<256;omega),fun _ _ _=>(by show 0<256;omega)⟩ (fun _ lb h=>A5u h) (fun _=>trivial)
 have hc:=B0L src at_;have hl:=C1e src at_;exact⟨⟨A4z src at_ h,hA.body,by omega,hl.1,hl.2⟩,A5u hA.label,hA.params⟩
theorem B60 (s:List UInt8):(∀x∈J7 s,ItI x)/\A26 (J7 s)/\(J7 s).length<=30:=by
 by_cases h0:Z5 s=0
 ·have hl:s.length<=4000/\(Y2 s).length<=30:=by
   rw[Z5]at h0;split at h0
   ·cases h0
   ·split at h0
    ·cases h0
    ·omega
  have key:∀x∈J7 s,ItI x/\x.label<256/\∀p∈x.params,p.label<256:=fun x hx=>by
   rw[J7,if_pos h0,A3I]at hx;obtain⟨j,_,rfl⟩:=A0x.1 hx;exact C3g _ _ (by rw[A1b,Q4,A0r];omega)
  exact⟨fun x hx=>(key x hx).1,fun x hx=>(key x hx).2,by rw[J7,if_pos h0];simp[A3I,hl.2]⟩
 ·rw[J7,if_neg h0]
  exact⟨fun x hx=>(by cases hx),fun x hx=>(by cases hx),H7 _⟩
end Go.Sp
namespace Go.Sp
open Go.Lib (itoa decDigits nDigits decDigits_length nDigits_small nDigits_big)
theorem C0k:∀(k u:Nat),u<10 ^ (k+1)->nDigits u<=k+1
 |0,u,h=>by rw[nDigits_small (by simpa using h)];exact G9 _
 |k+1,u,h=>by
  by_cases h1:u<10
  ·rw[nDigits_small h1];omega
  ·rw[nDigits_big h1]
   have:=C0k k (u / 10) (by rw[Nat.pow_succ]at h;omega);omega
theorem B8W {n:Nat} (h:n<=1000000000):(itoa (n:Int)).length<=10:=by
 rw[itoa,if_neg (by omega),decDigits_length,A1v];exact C0k 9 n (by have:(10:Nat) ^ (9+1)=10000000000:=(by decide);omega)
theorem B4g:∀(l:List UInt8),(A4V l).length<=2 *l.length
 | []=>by simp[A4V]
 | [c]=>by simp[A4V]
 |c::d::l=>by have:=B4g (d::l);simp only[A4V,F8]at this |-;omega
theorem A5z (n:Nat):(A4F n).length<=18:=by
 have h:=B4g ((A4I n).map A5m);have h2:(A4I n).length<=8:=by have:=A3P (bit n) (List.range 8);simpa[A4I] using this
 rw[A0g]at h;rw[A4F,F8,E9,A1I];omega
theorem A3U {t:List UInt8} (h:name t=true):t.length<=12:=by
 rw[name,U9,B0q]at h;simp only[U9,decide_eq_true_eq]at h;omega
theorem B7H (b:Bool) (t:List UInt8):(B0T b t).length<=t.length+2:=by
 rw[B0T];split
 ·simp
 ·omega
theorem C0R (ws:List (List UInt8)) (k:Nat):(A3F ws k).length<=2 *k+((ws.take k).map List.length).sum:=by
 induction k with
 |zero=>simp[A3F]
 |succ k ih=>
  rw[A6j,E9,E9];have h1:(if 0<k then [44,32] else []:List UInt8).length<=2:=by split<;>simp
  have h2:((ws.take k).map List.length).sum+(ws.getD k []).length=((ws.take (k+1)).map List.length).sum:=by
   rw[A3f,Y8,List.sum_append,O4];cases ws[k]? <;>simp
  omega
theorem C11 {nm:List UInt8} (h:A1i nm≠0):nm.length<=1:=by
 rw[A1i]at h;split at h
 ·rename_i h1;rcases h1 with rfl|rfl<;>simp
 ·split at h
  ·rename_i h1;rcases h1 with rfl|rfl<;>simp
  ·split at h
   ·rename_i h1;subst h1;simp
   ·exact absurd rfl h
mutual
theorem B5i:∀(e:Ex) {d l:Nat},e.fitE d l->(exW e).length+2<=32 *e.cnt
 | .mk k nm n args f t,d,l,h=>by
  rw[Ex.fitE]at h;rw[exW,Ex.cnt];rcases h.2 with ⟨rfl,_,h1,rfl⟩|⟨rfl,h1,_,rfl⟩|⟨rfl,h1,_,h2,h3⟩|⟨rfl,h1,_,h2,h3⟩
  ·rw[if_pos rfl]
   have:=B8W h1;omega
  ·rw[if_neg (by decide),if_neg (by decide),if_pos rfl]
   have:=A3U h1;omega
  ·rw[if_neg (by decide),if_neg (by decide),if_neg (by decide),if_pos rfl]
   have g1:=A3U h1;have g2:=C0R (A4S args) args.length;have g3:=B6Y args h3;rw[A0u (by rw[B0G,A0g];exact G9 _)]at g2;simp only[E9,F8,List.length_nil];omega
  ·rw[if_neg (by decide),if_pos rfl]
   have g1:=C11 h1
   match args,h2 with
   | [a,b],_=>
    have g3:=B7A [a,b] h3;have p1:=B7H (decide (A3B ([a,b].getD 0 default)<A22 nm)) ((A4S [a,b]).getD 0 []);have p2:=B7H (decide (A3B ([a,b].getD 1 default)<A22 nm+1)) ((A4S [a,b]).getD 1 []);have e1:(A4S [a,b]).getD 0 []=exW a:=A8U rfl;have e2:(A4S [a,b]).getD 1 []=exW b:=A8U rfl;rw[B0G]at g3;simp only[X8,List.map_nil,A5N,List.sum_nil]at g3;rw[e1]at p1;rw[e2]at p2;simp only[E9,F8,List.length_nil,e1,e2];omega
theorem B6Y:∀(l:List Ex) {d:Nat},A2k l d->((A4S l).map List.length).sum+2 *l.length<=32 *A03 l
 | [],_,_=>by rw[A4S];simp
 |e::es,d,h=>by
  rw[A2k]at h;have h1:=B5i e h.1;have h2:=B6Y es h.2;rw[A4S,A03,X8,A5N,F8];omega
theorem B7A:∀(l:List Ex) {d n:Nat},A3z l d n->((A4S l).map List.length).sum<=32 *A03 l
 | [],_,_,_=>by rw[A4S];simp
 |e::es,d,n,h=>by
  rw[A3z]at h;have h1:=B5i e h.1;have h2:=B7A es h.2;rw[A4S,A03,X8,A5N];omega
 end
mutual
theorem C4m:∀(x:Stm) {d:Nat} (k:Nat),x.fitS d->k<=d->d<=12->(B55 x k).length<=160 *x.cnt
 | .mk kd nm a lb o e thn els f t,d,k,h,hk,hd=>by
  rw[Stm.fitS]at h;obtain⟨h1,h2⟩:=h;have g1:=B5i e h1;have g2:=B2x k;have g3:=A5z lb;have g4:(if o=true then [] else [58,32]++A4F lb:List UInt8).length<=20:=by
   split
   ·simp
   ·rw[E9]
    show 2+_<=20
    omega
  rw[B55,Stm.cnt];rcases h2 with ⟨rfl,hn,_⟩|⟨rfl,hn,_⟩|⟨rfl,hn,_⟩|⟨rfl,_⟩|⟨rfl,_⟩|⟨hk2,hn,_,_,hd2,_,_,ht,he⟩
  ·have:=A3U hn
   rw[if_pos rfl];simp only[E9,F8,List.length_nil]at g4 |-;omega
  ·have:=A3U hn
   rw[if_neg (by decide),if_pos rfl];simp only[E9,F8,List.length_nil];omega
  ·have:=A3U hn
   rw[if_neg (by decide),if_neg (by decide),if_pos rfl];simp only[E9,F8,List.length_nil];omega
  ·rw[if_neg (by decide),if_neg (by decide),if_neg (by decide),if_pos rfl]
   simp only[E9,F8,List.length_nil];omega
  ·rw[if_neg (by decide),if_neg (by decide),if_neg (by decide),if_neg (by decide),if_pos rfl]
   simp only[E9,F8,List.length_nil];omega
  ·have q1:=A9F thn (k+1) ht (by omega) (by omega)
   have q2:=A9F els (k+1) he (by omega) (by omega);have hkd:kd=3\/kd=4:=by omega
   rw[if_neg (by omega),if_neg (by omega),if_neg (by omega),if_neg (by omega),if_neg (by omega),if_pos hkd];have w1:(if kd=4 then [119,104,105,108,101,32] else [105,102,32]:List UInt8).length<=6:=by split<;>simp
   have w2:(if 0<els.length then [32,101,108,115,101,32]++([123,10]++A29 els (k+1)++pad k++ [125]) else []:List UInt8).length<=9+(A29 els (k+1)).length+(pad k).length:=by
    split
    ·simp only[E9,F8,List.length_nil]
     omega
    ·simp
   simp only[E9,F8,List.length_nil]at w1 w2 |-;omega
theorem A9F:∀(l:List Stm) {d:Nat} (k:Nat),A0M l d->k<=d->d<=12->(A29 l k).length<=160 *P8 l
 | [],_,_,_,_,_=>by rw[A29];simp
 |x::xs,d,k,h,hk,hd=>by
  rw[A0M]at h;have h1:=C4m x k h.1 hk hd;have h2:=A9F xs k h.2 hk hd;rw[A29,P8,E9];omega
 end
theorem B4f (ws:List (List UInt8)) {m:Nat} (h:∀w∈ws,w.length<=m):∀k,(A3F ws k).length<=k *(m+2)
 |0=>by simp[A3F]
 |k+1=>by
  have h1:(if 0<k then [44,32] else []:List UInt8).length<=2:=by split<;>simp
  have h2:(ws.getD k []).length<=m:=by
   rw[O4];cases e:ws[k]? with
   |none=>simp
   |some w=>exact h w (A0B e)
  have h3:=B4f ws h k;rw[A6j,E9,E9,Nat.succ_mul];omega
theorem B4V {l:List Rf} (h:∀p∈l,name p.name=true):∀k,(A7y l k).length<=k *19
 |0=>by simp[A7y]
 |k+1=>by
  have h1:(if k=0 then [32,115,101,110,100,115,32] else [44,32]:List UInt8).length<=7:=by split<;>simp
  have h2:(l.getD k ⟨[],0⟩).name.length<=12:=by
   rw[O4];cases e:l[k]? with
   |none=>simp
   |some w=>exact A3U (h w (A0B e))
  have h3:=B4V h k;rw[B0l,E9,E9,Nat.succ_mul];omega
theorem C3V {l:List Par} (h:∀p∈l,name p.name=true/\p.label<256):∀w∈A9V l,w.length<=32:=fun w hw=>by
 obtain⟨p,hp,rfl⟩:=A0x.1 hw;have h1:=A3U (h p hp).1;have h2:=A5z p.label;simp only[E9,F8,List.length_nil];omega
theorem C1d {it:Itm} (h:it.fitI):(A9Q it).length<=400+160 *P8 it.body:=by
 have h1:=A3U h.named;have h2:=A5z it.label;have h3:=B4f _ (C3V h.params.2) it.params.length;have h4:=B4V h.sends.2 it.sends.length;have h5:=A9F it.body 1 h.body.2 (G9 _) (by decide);have h6:=B2x 0;have h7:=h.params.1;have h8:=h.sends.1;rw[A9Q];split
 ·simp only[E9,F8,List.length_nil]
  omega
 ·split
  ·rw[B1j]
   simp only[E9,F8,List.length_nil,V6];omega
  ·simp
theorem B4n {m:Nat}:∀ {its:List Itm},(∀it∈its,it.fitI/\P8 it.body<=m)->(A24 its).length<=its.length *(400+160 *m)
 | [],_=>by simp[A24]
 |it::its,h=>by
  have h1:=B4n (fun x hx=>h x (A0Q _ hx));obtain⟨h2,h3⟩:=h it Q7;have h4:=C1d h2;rw[A24,A0a,E9,F8,Nat.succ_mul];rw[A24]at h1;omega
end Go.Sp
namespace Go.Sp
mutual
theorem C03 {o:Lab} (ho:∀f,o f<256):∀(x:Stm) {d:Nat},x.fitS d->(A9O o x).fitS d
 | .mk k nm a lb op e thn els f t,d,h=>by
  rw[Stm.fitS]at h;rw[A9O,Stm.fitS];refine⟨h.1,?_⟩
  rcases h.2 with ⟨rfl,h1,h2,h3,rfl,rfl⟩|⟨rfl,h1,h2,rfl,rfl,rfl⟩|⟨rfl,h1,h2,rfl,rfl,rfl⟩|⟨rfl,h1,h2,rfl,rfl,rfl⟩|⟨rfl,h1,h2,rfl,rfl,rfl,h3⟩|⟨hk,h1,h2,rfl,h3,h4,h5,h6,h7⟩
  ·refine .inl ⟨rfl,h1,?_,fun e=>(by rw[if_pos rfl]at e;cases e),rfl,rfl⟩
   split
   ·exact ho f
   ·exact h2
  ·exact .inr (.inl ⟨rfl,h1,by rw[if_neg (by decide)];exact h2,by rw[if_neg (by decide)],rfl,rfl⟩)
  ·exact .inr (.inr (.inl ⟨rfl,h1,by rw[if_neg (by decide)];exact h2,by rw[if_neg (by decide)],rfl,rfl⟩))
  ·exact .inr (.inr (.inr (.inl ⟨rfl,h1,by rw[if_neg (by decide)];exact h2,by rw[if_neg (by decide)],rfl,rfl⟩)))
  ·exact .inr (.inr (.inr (.inr (.inl ⟨rfl,h1,by rw[if_neg (by decide)];exact h2,by rw[if_neg (by decide)],rfl,rfl,h3⟩))))
  ·have hk1:k≠1:=by omega
   refine .inr (.inr (.inr (.inr (.inr ⟨?_,h1,by rw[if_neg (fun e=>hk1 e.1)];exact h2,by rw[if_neg hk1],h3,by rw[A4J];exact h4,by rw[A4J];exact h5,A9n ho thn h6,A9n ho els h7⟩))))
   rcases hk with hk|⟨hk,rfl⟩
   ·exact .inl hk
   ·exact .inr ⟨hk,rfl⟩
theorem A9n {o:Lab} (ho:∀f,o f<256):∀(l:List Stm) {d:Nat},A0M l d->A0M (A2f o l) d
 | [],d,_=>by rw[A2f,A0M];trivial
 |x::l,d,h=>by
  rw[A0M]at h;rw[A2f,A0M];exact⟨C03 ho x h.1,A9n ho l h.2⟩
 end
theorem C5b {o:Lab} (ho:∀f,o f<256) {it:Itm} (h:it.fitI):(itI o it).fitI:=by
 refine⟨h.named,h.label,?_,h.params,h.sends,?_,h.none⟩
 ·rcases h.kind with hk|⟨h1,h2,h3,h4⟩
  ·exact .inl hk
  ·exact .inr ⟨h1,h2,h3,by show A2f o it.body= [];rw[h4];rfl⟩
 ·show (A2f o it.body).length<=40/\A0M (A2f o it.body) 1
  rw[A4J];exact⟨h.body.1,A9n ho _ h.body.2⟩
theorem C2U (s:List UInt8) (hb:A8L (J7 s)=false):∀it∈J7 s,it.fitI:=fun it hit=>by
 have hd:it.diags= []:=by
  rw[A8L,A6A]at hb;have:=hb it hit;simpa using this
 rw[J7]at hit;split at hit
 ·rw[A3I,A0x]at hit
  obtain⟨j,_,rfl⟩:=hit;exact B4w _ _ hd
 ·cases hit
theorem B8Z (s:List UInt8) (hb:A8L (J7 s)=false) {r:List Itm} (h:B1d (J7 s) r):(∀y∈r,y.fitI)/\(A24 r).length<=100000000000000:=by
 obtain⟨hI,hL,hfew⟩:=B60 s;have key:∀y∈r,y.fitI/\P8 y.body<=400000000:=fun y hy=>by
  obtain⟨x,hx,hxy⟩:=AllTwo.mem h y hy;have hx1:=C2U s hb x hx;have hx2:=hI x hx;by_cases k2:x.kind=2
  ·obtain⟨o,⟨⟨k,rfl⟩,_⟩,rfl⟩:=hxy.1 k2
   refine⟨C5b (B5p hL hx2.body (hL x hx).2 k) hx1,?_⟩
   show P8 (A2f _ x.body)<=_
   rw[A9m];exact hx2.cnt
  ·rw[hxy.2 k2];exact⟨hx1,hx2.cnt⟩
 refine⟨fun y hy=>(key y hy).1,?_⟩
 have h1:=B4n (its:=r) (m:=400000000) key;have h2:=AllTwo.len h;rw[h2]at h1;have h3:(J7 s).length *(400+160 *400000000)<=30 *(400+160 *400000000):=A3Q _ hfew;omega
end Go.Sp
namespace Go.Fw
open Go.Sp
open Go
section
variable {P:Program}{t t':TypeId}{w:World}
theorem B31 {e:TypeId} [TySlice P t e] [TyStr P t'] [he:Elem P e 1 1] (hz:(P.info? e).bind (·.zero)=some (.int .u8 0)) {v:Value}{base n:Nat}{xs:List Value} (hown:w.ownsRow base e 1 v n xs) (s:List UInt8)
  (hbytes:n+s.length≤140737488355328) (hbase:base≤w.heap.size) (ty:TypeId):
  ∃v' w',(Builtin.append_ #[t,t'] ty #[v,str s]).run P w=.ok v' w'∧w'.ownsRow base e 1 v' (n+s.length) (xs++s.map (fun c=>Value.int .u8 c.toNat))∧Kept v.ownBlock.toList w w'∧
   (v'.ownBlock=v.ownBlock∨∃g,v'.ownBlock=some g∧w.heap.size≤g):=by
 obtain⟨inf,z,hinf,hzz,hs,hby,_,_⟩:=he.out;have hz2:inf.zero=some (.int .u8 0):=by simpa[hinf] using hz
 have hsz:(⟨s.toArray⟩:ByteArray).size=s.length:=A2h s;have ht:=TySlice.out (P:=P) (t:=t);have hu:=TyStr.out (P:=P) (t:=t');have hm63:n+(⟨s.toArray⟩:ByteArray).size≤maxLen:=by unfold maxLen;rw[hsz];omega
 have hst:Lib.strCells ⟨s.toArray⟩=s.map (fun c=>Value.int .u8 c.toNat):=rfl;rcases hown.2 with ⟨rfl,rfl⟩|⟨g,cap,cur,rfl,hbg,hg,hnc,hcm,hcs,htake⟩
 ·have hx:xs= []:=A00 (by simpa using hown.1)
  subst hx;obtain⟨v',w',hr,ho,hk,_⟩:=Lib.run_append_own_string (P:=P) (w:=w) w.heap.size t t' ty e inf ht hu hinf hz2 hs hby (.slice none 0 0) 0 [] (World.ownsRow_nil w _ _ _) ⟨s.toArray⟩ hm63 (by rw[hsz];omega) (G9 _);rw[hsz,hst]at ho;refine⟨v',w',hr,A32 ho hbase,Kept.of_grown hk,?_⟩
  cases hv:v'.ownBlock with
  |none=>exact .inl (by simp[Value.ownBlock])
  |some g=>exact .inr ⟨g,rfl,(ho.lt g hv).1⟩
 ·obtain⟨v',w',hr,ho,hk,_⟩:=Lib.run_append_own_string (P:=P) (w:=w) base t t' ty e inf ht hu hinf hz2 hs hby _ n xs hown ⟨s.toArray⟩ hm63 (by rw[hsz];omega) hbase
  have ho2:=ho;rw[hsz,hst]at ho2;refine⟨v',w',hr,ho2,Kept.of_grown hk,?_⟩
  by_cases hroom:n+(⟨s.toArray⟩:ByteArray).size≤cap
  ·have hr2:=Lib.run_append_room_string (P:=P) w t t' ty e inf ht hu hinf hs g n cap cur hg ⟨s.toArray⟩ hroom (by rw[hcs,A2J];exact hroom)
   rw[hr]at hr2;injection hr2 with e1 _
   exact .inl (by rw[e1];rfl)
  ·have holds:∀j u,xs[j]?=some u→w.cell? ((⟨g,0,none⟩:Addr).add j)=some u:=hown.cells (g:=g) rfl
   have hr2:=Lib.run_append_grow_string (P:=P) w t t' ty e inf _ ht hu hinf hzz ⟨g,0,none⟩ n cap xs (by rw[hs];exact hown.1) holds ⟨s.toArray⟩ (by omega) (by rw[hsz];omega) (growslice_fits (by omega) (by rw[hby,hsz];omega));rw[hr]at hr2;injection hr2 with e1 _
   exact .inr ⟨w.heap.size,by rw[e1];rfl,G9 _⟩
end
section
variable {P:Program}{N:Nat}{ds:List Deferred}{X:List Nat}{Q:Exit→Act→World→Prop}{l:Log}{w w' w0:World}{os os' tail:List Oper}{ops:Array Oper}{E:Ent}{I I0:P6}{G R H:List HItem}{o:Oper}{K:Act→Prop}
variable {d:Nat}{ty:TypeId}{pos:String}{af:Array Edge}{g:Option (Nat×Bool)}{t t':TypeId}{x y z:Operand}
theorem C6Y {e:TypeId} [TySlice P t e] [TyStr P t'] [Elem P e 1 1] (hz:(P.info? e).bind (·.zero)=some (.int .u8 0)) {i n:Nat}{v:Value}{xs:List Value}{s:List UInt8} (hm:Mem E I H w)
  (hw:U4 ops l ⟨some d,.call ⟨.builtin .append, #[x,y], #[t,t']⟩,ty,pos,af,g⟩=some true) (hN:Nat.blt d N=true)
  (hx:ev l x=some v) (hy:ev l y=some (str s)) (hi:H[i]?=some (.row v e 1 n xs)) (hlen:n+s.length≤140737488355328)
  (k:∀a cp w',Mem E I (H.set i (.row (.slice a (n+s.length) cp) e 1 (n+s.length) (xs++s.map (fun c=>Value.int .u8 c.toNat)))) w'→WL P N ds ops Q os ((d,.slice a (n+s.length) cp)::l) w'):
  WL P N ds ops Q (⟨some d,.call ⟨.builtin .append, #[x,y], #[t,t']⟩,ty,pos,af,g⟩::os) l w:=by
 obtain⟨v',w',hrun,ho,hk,hb⟩:=B31 (P:=P) (t:=t) (t':=t') hz (hm.getRow hi) s hlen (H7 _) ty;have hm':=hm.turn (h':=.row v' e 1 (n+s.length) (xs++s.map (fun c=>Value.int .u8 c.toNat))) hi hk ho hb;have hlt:i<H.length:=(A0t.1 hi).1;obtain⟨a,cp',rfl⟩:=A3D (hm'.getRow (i:=i) (by rw[A2d];simp[hlt];exact⟨rfl,rfl,rfl,rfl,rfl⟩));refine U6 (w':=w') (v:=.slice a (n+s.length) cp') rfl hw hN (fun c hc=>?_) (k a cp' w' hm')
 simp[execOp,resolve,invoke,builtin,hc.ev hx,hc.ev hy]
 rw[show str s=Value.string ⟨s.toArray⟩ from rfl,hrun];rfl
theorem C3J {te e:TypeId}{b off:Nat}{c:Array Value}{fr:Nat×Nat} (ht:P.underlying t=some (.pointer te)) (ht':P.underlying t'=some .unsafePointer) (hs:((P.info? te).map (fun j=>Nat.blt 0 j.size))=some true)
  (hw:U4 ops l ⟨some d,.convert t t' x,ty,pos,af,g⟩=some true) (hN:Nat.blt d N=true) (hx:ev l x=some (.pointer (some ⟨b,off,none⟩))) (hb:w.heap[b]?=some (.cells c e fr)) (ho:off<c.size)
  (k:WL P N ds ops Q os ((d,.pointer (some ⟨b,off,none⟩))::l) w):WL P N ds ops Q (⟨some d,.convert t t' x,ty,pos,af,g⟩::os) l w:=
 U6 rfl hw hN (fun a ha=>by
  cases hj:P.info? te with
  |none=>simp[hj]at hs
  |some j=>
   have hj0:j.size≠0:=by
    simp only[hj,A17,U3,A1x]at hs;omega
   have h:=Lib.run_to_unsafe (P:=P) w ⟨b,off,none⟩ ht ht' hj hj0 (e:=e) (cells:=c.size) (by simp[World.shape?,hb]) ho;simp[execOp,ha.ev hx,h]) k
theorem B9f {u e:TypeId}{b off:Nat}{c:Array Value}{fr:Nat×Nat} (ht:P.underlying t=some .unsafePointer) (ht':P.underlying t'=some (.pointer u)) (hu:(P.info? u).isSome=true)
  (hw:U4 ops l ⟨some d,.convert t t' x,ty,pos,af,g⟩=some true) (hN:Nat.blt d N=true) (hx:ev l x=some (.pointer (some ⟨b,off,none⟩))) (hb:w.heap[b]?=some (.cells c e fr)) (hl:liesAt P P.depth e (c.size / P.cellsOf e) off u 1=true)
  (k:WL P N ds ops Q os ((d,.pointer (some ⟨b,off,none⟩))::l) w):WL P N ds ops Q (⟨some d,.convert t t' x,ty,pos,af,g⟩::os) l w:=
 U6 rfl hw hN (fun a ha=>by
  cases hj:P.info? u with
  |none=>simp[hj]at hu
  |some j=>
   have h:=Lib.run_from_unsafe (P:=P) w ⟨b,off,none⟩ ht ht' hj (e:=e) (cells:=c.size) (by simp[World.shape?,hb]) hl;simp[execOp,ha.ev hx,h]) k
theorem C3I {f : FuncId} {fn : Func} {xs : List Operand} {tys : Array TypeId} {v : Value} (hf : P.funcs[f]? = some fn) (hname : (fn.name == "runtime.NumGoroutine") = false) (hb : fn.body.isNone = true) (hn : Extern.findNext fn = none) (he : Extern.find fn = some Extern.AbiNoEscape.same)
  (hw:U4 ops l ⟨some d,.call ⟨.value (.func f),xs.toArray,tys⟩,ty,pos,af,g⟩=some true) (hN:Nat.blt d N=true) (hx:evs l xs=some [v])
  (k:WL P N ds ops Q os ((d,v)::l) w):WL P N ds ops Q (⟨some d,.call ⟨.value (.func f),xs.toArray,tys⟩,ty,pos,af,g⟩::os) l w:=
 U6 rfl hw hN (fun a ha=>by
  have h1:=ha.evs hx;have h2:=run_callFunc_extern hf hname hb hn he #[v] w;rw[Lib.run_noEscape]at h2;simp[execOp,resolve,invoke,Act.eval,Deferred.ofValue,h1,h2,Result.andThen]) k
theorem B3r {te:TypeId} (hp:P.underlying t=some (.pointer te)) (hs:(P.info? te).isSome=true) {a:Addr} (hw:U4 ops l ⟨some d,.binOp .neq t x y t',ty,pos,af,g⟩=some true) (hN:Nat.blt d N=true) (hx:ev l x=some (.pointer (some a))) (hy:ev l y=some (.pointer (some a)))
  (k:WL P N ds ops Q os ((d,.bool false)::l) w):WL P N ds ops Q (⟨some d,.binOp .neq t x y t',ty,pos,af,g⟩::os) l w:=
 U6 rfl hw hN (fun c hc=>by
  cases hj:P.info? te with
  |none=>simp[hj]at hs
  |some j=>
   have h:=Lib.run_neq_ptr_same (P:=P) w a hp hj;simp[execOp,hc.ev hx,hc.ev hy,eqGuard,h]) k
theorem B8e {a:Addr}{n c:Nat} (hw:U4 ops l ⟨some d,.call ⟨.builtin .unsafeSliceData, #[x], #[t]⟩,ty,pos,af,g⟩=some true) (hN:Nat.blt d N=true)
  (hx:ev l x=some (.slice (some a) n c)) (hc:c≠0) (k:WV P N ds ops X w K os ((d,.pointer (some a))::l)):
  WV P N ds ops X w K (⟨some d,.call ⟨.builtin .unsafeSliceData, #[x], #[t]⟩,ty,pos,af,g⟩::os) l:=
 A1y rfl hw hN (fun w' hkq b ha=>by
  have h1:=Lib.run_unsafeSliceData_row (P:=P) w' #[t] ty a n c hc;simp[execOp,resolve,invoke,builtin,ha.ev hx,h1]) k
theorem B6a {n c:Nat} (hw:U4 ops l ⟨some d,.call ⟨.builtin .unsafeSliceData, #[x], #[t]⟩,ty,pos,af,g⟩=some true) (hN:Nat.blt d N=true)
  (hx:ev l x=some (.slice none n c)) (k:WV P N ds ops X w K os ((d,.pointer none)::l)):
  WV P N ds ops X w K (⟨some d,.call ⟨.builtin .unsafeSliceData, #[x], #[t]⟩,ty,pos,af,g⟩::os) l:=
 A1y rfl hw hN (fun w' hkq b ha=>by
  have h1:=Lib.run_unsafeSliceData_nil (P:=P) w' #[t] ty n c;simp[execOp,resolve,invoke,builtin,ha.ev hx,h1]) k
theorem B9b (hm:Mem ⟨w0,X,I0⟩ I H w) {q:Option Addr} (hw:U4 ops l ⟨some d,.call ⟨.builtin .unsafeString, #[x,y], #[t,t']⟩,ty,pos,af,g⟩=some true) (hN:Nat.blt d N=true)
  (hx:ev l x=some (.pointer q)) (hy:ev l y=some (.int .i64 0)) (k:WS P N ds ops Q X w0 os' tail ((d,str [])::l) w):
  WS P N ds ops Q X w0 (⟨some d,.call ⟨.builtin .unsafeString, #[x,y], #[t,t']⟩,ty,pos,af,g⟩::os') tail l w:=
 A3Z (v:=str []) rfl hw hN (fun a ha=>by
  have h1:=Lib.run_unsafeString_none (P:=P) w t t' ty q;simp[execOp,resolve,invoke,builtin,ha.ev hx,ha.ev hy,h1]
  rfl) hm.kept k
theorem C1q {e:TypeId} (hp:P.underlying t=some (.pointer e)) (hc:P.cellsOf e=1) {b n cap:Nat}{s:List UInt8} (hm:Mem ⟨w0,X,I0⟩ I (.row (.slice (some ⟨b,0,none⟩) n cap) e 1 n (s.map (fun c=>Value.int .u8 c.toNat))::H) w)
  (hw:U4 ops l ⟨some d,.call ⟨.builtin .unsafeString, #[x,y], #[t,t']⟩,ty,pos,af,g⟩=some true) (hN:Nat.blt d N=true)
  (hx:ev l x=some (.pointer (some ⟨b,0,none⟩))) (hy:ev l y=some (.int .i64 (n:Int))) (hs:s≠ []) (hsn:s.length=n)
  (k:∀w',Mem ⟨w0,X,I0⟩ I H w'→WS P N ds ops Q X w0 os' tail ((d,str s)::l) w'):
  WS P N ds ops Q X w0 (⟨some d,.call ⟨.builtin .unsafeString, #[x,y], #[t,t']⟩,ty,pos,af,g⟩::os') tail l w:=by
 subst hsn;have h0:0<s.length:=A3S.2 hs;obtain⟨b',cp,cur,hv,hm2,hcp,hcm,hsz,ht⟩:=hm.openRow h0;injection hv with e1 _ e3
 injection e1 with e1
 injection e1 with e1
 subst e1;subst e3;have hg:=hm2.ok _ Q7;have hg':w.heap[b]?=some (.cells cur e (0,0)):=hg;rw[A2J]at hsz;rw[A2J]at ht;have hrun:=Lib.run_unsafeString_row (P:=P) w t t' ty e hp hc b cur.size (by simp[World.shape?,hg']) s hs (by omega) (by unfold maxLen at hcm;omega) (fun j c hj=>by
  rw[Addr.add_lit];refine A2j hg' ?_
  have h1:(cur.toList.take s.length)[j]?=some (.int .u8 c.toNat):=by rw[ht,A0f,hj];rfl
  rw[A1L]at h1;split at h1
  ·simpa using h1
  ·cases h1)
 have hk:Kept [b] w (w.freeze ⟨b,0,none⟩ s.length):=by
  have hn0:s.length≠0:=by omega
  rw[World.freeze,if_neg hn0];refine⟨rfl,rfl,rfl,by simp,fun q hq hqb=>?_⟩
  have hne:b≠q:=fun e=>hqb (by rw[e];exact Q7)
  simp[A2P,hne]
 have hm':Mem ⟨w0,X,I0⟩ I H (w.freeze ⟨b,0,none⟩ s.length):=hm2.tl.keptX hk (fun q hq=>by
   obtain rfl:q=b:=by simpa using hq
   exact hm2.born _ Q7 q rfl) (fun q hq=>by
   obtain rfl:q=b:=by simpa using hq
   exact hm2.free _ Q7 q rfl) (fun h hh q hq hqb=>by
   obtain rfl:q=b:=by simpa using hqb
   exact(A1u.1 hm2.dist).1 h hh q rfl hq)
 exact A3Z (v:=str s) rfl hw hN (fun a ha=>by
  simp[execOp,resolve,invoke,builtin,ha.ev hx,ha.ev hy,hrun]) hm'.kept (k _ hm')
end
end Go.Fw
namespace Go.Sp
def C8Y:List UInt8:= [102,110,32,102,40,41,58,32,123,125,32,123,32,114,101,116,117,114,110,32,49,59,32,125]
def B7Y:List Qn:= [⟨1,1,0,0,C8Y,[]⟩,⟨2,2,20,21,[50],[]⟩,⟨3,8,0,0,[102],[]⟩]
theorem C1U:((rpQ A2g B7Y).getD 0 A9d).fresh=1/\((rpQ A2g B7Y).getD 2 A9d).id=3/\((rpQ A2g B7Y).getD 2 A9d).ran.n=2:=by decide+kernel
end Go.Sp
namespace Go.Proofs
open Go.Proofs.Tryz
open Go.Sp
open Go.Fw
theorem A3o {x1 c x2:List Value}{n j:Nat} (h1:x1.length=n) (hj:j<c.length):(x1++(c++x2))[n+j]?=c[j]? :=by
 rw[A19 (by omega),show n+j-x1.length=j by omega,A3r hj]
theorem C0i {x1 c x2:List Value}{n j:Nat} (h1:x1.length=n) (hj:j<c.length):n+j<(x1++(c++x2)).length:=by
 rw[E9,E9];omega
theorem B7o {x1 c x2:List Value}{n j:Nat}{v:Value} (h1:x1.length=n) (hj:j<c.length):(x1++(c++x2)).set (n+j) v=x1++(c.set j v++x2):=by
 rw[A5L,if_neg (by omega),show n+j-x1.length=j by omega,A5L,if_pos hj]
structure FlW where
 k:Nat
 I:P6
 xs:List Value
 Hs:List HItem
abbrev C6B (o:Sp.Lab) (l:List Sp.Stm) (a:Option Addr) (c:Nat):Value->P6->List HItem->Prop:=fun v J H'=>v=.tuple #[]/\A8G J (A2f o l) a c H'
theorem _root_.Go.Fw.pmRow {x:HItem}{H:List HItem}:(x::H).Perm ([x]++H):=.refl _
theorem C6X {bd bo:Nat}{zs:A1N}{o:Sp.Lab}{f0 f1 f3:Value} (hz:OpenZ zs o):∀(n:Nat) (l:List Sp.Stm),SizeOf.sizeOf l<=n->l.length<=64->A0i l->∀(I:P6) (a:Option Addr) (c:Nat) (H:List HItem),PtrI I bd 0 119 [f0,f1,.map (some bo),f3]->B36 I bo zs->A8G I l a c H->
  CalM prog 50 #[ptr bd,.slice a l.length c] I H (C6B o l a c):=by
 intro n;induction n with
 |zero=>intro l h;cases l<;>simp at h
 |succ n ih=>
 intro l hsz hll hsm I a c H hpd hmz hO;obtain⟨xs,Hs,rfl,hC⟩:=hO;refine CalM.of fun w E hm=>enter (N:=53) func50 rfl [(0,ptr bd),(1,.slice a l.length c)] A0T rfl ?_
 repeat' (first|refine D8 ?_|refine G7 ?_|refine D9 ?_|refine A7 ?_|refine E8 ?_|refine A8 ?_|refine F5 ?_)
 refine U2 (fun x:FlW=> [(0,ptr bd),(1,.slice a l.length c),(7,nt l.length),(8,nt x.k)])
  (fun x w'=>Mem E x.I (B70 l.length a c x.xs::x.Hs) w'/\Le I x.I/\A1r x.I (A2f o (l.take x.k)++l.drop x.k) x.xs x.Hs/\x.k<=l.length)
  (fun x=>l.length-x.k) ⟨0,I,xs,Hs⟩ (by exact⟨rfl,rfl,rfl,rfl,trivial⟩) ⟨hm,Le.refl _,by dsimp only;rw[Z9,A2f,P5,A2o];exact hC,H7 _⟩ ?_
 clear hm hC;rintro⟨k,I1,xs1,Hs1⟩ w2 ⟨hm,hle1,hC,hk⟩;dsimp only at hm hle1 hC hk |-;have hpd1:=hpd.le hle1;have hmz1:=hmz.le hle1;by_cases hlt:k<l.length
 ·have hg:l[k]?=some l[k]:=G6 hlt
  have hme:=A3w (O7 hlt);have hsm2:=A1D hsm hg;generalize l[k]=y at hg hsm2 hme;rw[C2D hg]at hC;obtain⟨s1,s2,s3,s4,s5⟩:=A1S hsm2;obtain⟨z1,z2⟩:=A5T (s:=y);obtain⟨x1,x2,G1,G2,rfl,rfl,hC1,hC2⟩:=hC.part;obtain⟨cy,x3,G3,G4,rfl,rfl,hY,hC3⟩:=hC2.uncons;have hl1:=hC1.len;rw[A4J,Q4,A1g hk]at hl1;obtain⟨ea,ec,ex,a1,c1,a2,c2,H1,H2,rfl,hr,hx,rfl,hO1,hO2⟩:=hY.out;obtain⟨gb,rfl⟩:=hm.rowAddr (by omega);have hct:=fun (J:P6) (m:Le I1 J)=>ih y.thn (by omega) s2 s3 J a1 c1 H1 (hpd1.le m) (hmz1.le m) (hO1.le m)
  have hcl:=fun (J:P6) (m:Le I1 J)=>ih y.els (by omega) s4 s5 J a2 c2 H2 (hpd1.le m) (hmz1.le m) (hO2.le m)
  have hoff:∀j:Nat,0+(k:Int).toNat *15+j=k *15+j:=fun j=>by rw[A1v];omega
  have htk:A2f o (l.take (k+1))=A2f o (l.take k)++ [A9O o y]:=by rw[Q8 hg,C01,A7j o [y]];rfl
  have hY2:∀(I3:P6) (H1' H2':List HItem),Le I1 I3->A8G I3 (A2f o y.thn) a1 c1 H1'->A8G I3 (A2f o y.els) a2 c2 H2'->
    StO I3 (A9O o y) (A2K y.kind y.name y.at_ (B80 o y) (B9j y) y.e ea ec (.slice a1 y.thn.length c1) (.slice a2 y.els.length c2) y.fr y.to) (H1'++H2'):=fun I3 H1' H2' m o1 o2=>by
   have h:=StO.of (I:=I3) (k:=y.kind) (a:=y.at_) (lb:=B80 o y) (f:=y.fr) (t:=y.to) (nm:=y.name) (o:=B9j y) (e:=y.e) (thn:=A2f o y.thn) (els:=A2f o y.els) (hr.le m) (Y7.le m _ _ hx) o1 o2;rw[A4J,A4J]at h;rw[C2Y];exact h
  by_cases hlet:y.kind=1/\y.opn=true
  ·have e1:B80 o y=o y.fr:=by rw[B80,if_pos hlet]
   have e2:B9j y=false:=by rw[B9j,if_pos hlet.1]
   rw[e1,e2]at hY2;have hlk:=hz.get y.fr;have hk1:=hlet.1;have ho:=hlet.2;rw[ho]at hm;repeat' (first|refine A20 (off:=k *15+0) (d:=17) hm (by rfl) (by rfl) (by rw[<-hoff];rfl) (by rw[A3o hl1 (by simp)];rfl) ?_|refine A20 (off:=k *15+4) (d:=23) hm (by rfl) (by rfl) (by rw[<-hoff];rfl) (by rw[A3o hl1 (by simp)];rfl) ?_|refine A1k (id:=5) (hm.perm pmRow) [0,1,2,3,4,5,6,7,8] 14 (h:=?_);clear hm;intro wd hR hm|refine B9c (i:=0) (off:=k *15+13) (d:=34) hm (by rfl) (by rfl) (by rw[<-hoff];rfl) gt0 (by rw[A3o hl1 (by simp)];rfl) ?_|refine B8X (d:=35) hm hmz1 (by rfl) (by rfl) (by rfl) (by rfl) A66 ?_;rw[hlk]|refine B8m (d:=36) hm.kept (by rfl) (by rfl) (by rfl) ?_|refine B08 (d:=37) hm.kept (by rfl) (by rfl) (by rfl) ?_|refine B7u (off:=k *15+4) hm (by rfl) (by rfl) (by rw[<-hoff];rfl) (by rfl) (by rfl) (by rfl) (C0i hl1 (by simp)) ?_;clear hm;intro _ hm;rw[B7o hl1 (by simp)]at hm;simp only[A7Y,A7X]at hm|refine B3m (off:=k *15+3) hm (by rfl) (by rfl) (by rw[<-hoff];rfl) (by rfl) (by rfl) (by rfl) (C0i hl1 (by simp)) ?_;clear hm;intro _ hm;rw[B7o hl1 (by simp)]at hm;simp only[A7Y,A7X]at hm|refine A1j (i:=9) ?_ (by decide+kernel)|refine A1j (i:=10) ?_ (by decide+kernel)|refine A1j (i:=11) ?_ (by decide+kernel)|refine A1j (i:=12) ?_ (by decide+kernel)|refine A1j (i:=13) ?_ (by decide+kernel)|refine A5a (by decide+kernel) ?_;replace hm:=(hR.back hm).perm pmRow.symm;clear hR|refine A20 (off:=k *15+11) (d:=44) hm (by rfl) (by rfl) (by rw[<-hoff];rfl) (by rw[A3o hl1 (by simp)];rfl) ?_|refine A20 (off:=k *15+12) (d:=50) hm (by rfl) (by rfl) (by rw[<-hoff];rfl) (by rw[A3o hl1 (by simp)];rfl) ?_|refine F6 (d:=45) ?_ hm (hp:=B3Z) (hc:=hct I1 (Le.refl _));clear hm;rintro _ I2 H1' _ ⟨rfl,ho4⟩ hleI2 hm;replace hm:=hm.perm B3Z.symm|refine F6 (d:=51) ?_ hm (hp:=B3Z.trans C5B) (hc:=hcl I2 hleI2);clear hm;rintro _ I3 H2' _ ⟨rfl,ho5⟩ hleI3 hm;replace hm:=hm.perm C7f|refine A0c ?_ hR|refine B09 ?_|refine D8 ?_|refine D6 ?_|refine O9 ?_|refine J6 ?_|refine N9 ?_|refine E5 ?_|refine P7 ?_|refine C9 ?_|refine A0L (k:=?_)|(refine N8 (h1:=fun _=>?_) (h0:=fun _=>?_)<;>try first|contradiction|omega)|refine D9 ?_|refine A7 ?_|refine D7 ?_|refine E8 ?_|refine A8 ?_|refine F5 ?_|refine G5 ?_|refine H6 ?_|(refine D5 (ht:=fun _=>?_) (hf:=fun _=>?_)<;>try first|contradiction|omega)|refine Z4 ?_|refine O5 ?_|refine J8 ?_)
   refine L9 (⟨k+1,I3,_,_⟩:FlW) (by exact⟨rfl,rfl,rfl,rfl,trivial⟩) ⟨hm,(hle1.trans hleI2).trans hleI3,?_,by dsimp only;omega⟩ (by dsimp only;omega)
   dsimp only
   rw[htk,O3];exact(A1r.le (hleI2.trans hleI3) _ _ _ hC1).app ((A1r.one (hY2 I3 H1' H2' (hleI2.trans hleI3) (ho4.le hleI3) ho5)).app (A1r.le (hleI2.trans hleI3) _ _ _ hC3))
  ·have e1:B80 o y=y.label:=by rw[B80,if_neg hlet]
   have e2:B9j y=y.opn:=by
    rw[B9j];split
    ·rename_i h1
     cases ho:y.opn with
     |true=>exact absurd ⟨h1,ho⟩ hlet
     |false=>rfl
    ·rfl
   rw[e1,e2]at hY2;by_cases hk1:y.kind=1
   ·have ho:y.opn=false:=by
     cases ho:y.opn with
     |true=>exact absurd ⟨hk1,ho⟩ hlet
     |false=>rfl
    rw[ho]at hm hY2;repeat' (first|refine A20 (off:=k *15+0) (d:=17) hm (by rfl) (by rfl) (by rw[<-hoff];rfl) (by rw[A3o hl1 (by simp)];rfl) ?_|refine A20 (off:=k *15+4) (d:=23) hm (by rfl) (by rfl) (by rw[<-hoff];rfl) (by rw[A3o hl1 (by simp)];rfl) ?_|refine A20 (off:=k *15+11) (d:=44) hm (by rfl) (by rfl) (by rw[<-hoff];rfl) (by rw[A3o hl1 (by simp)];rfl) ?_|refine A20 (off:=k *15+12) (d:=50) hm (by rfl) (by rfl) (by rw[<-hoff];rfl) (by rw[A3o hl1 (by simp)];rfl) ?_|refine F6 (d:=45) ?_ hm (hp:=B3Z) (hc:=hct I1 (Le.refl _));clear hm;rintro _ I2 H1' _ ⟨rfl,ho4⟩ hleI2 hm;replace hm:=hm.perm B3Z.symm|refine F6 (d:=51) ?_ hm (hp:=B3Z.trans C5B) (hc:=hcl I2 hleI2);clear hm;rintro _ I3 H2' _ ⟨rfl,ho5⟩ hleI3 hm;replace hm:=hm.perm C7f|refine D8 ?_|refine D6 ?_|refine O9 ?_|refine J6 ?_|refine N9 ?_|refine E5 ?_|refine P7 ?_|refine C9 ?_|refine A0L (k:=?_)|(refine N8 (h1:=fun _=>?_) (h0:=fun _=>?_)<;>try first|contradiction|omega)|refine D9 ?_|refine A7 ?_|refine D7 ?_|refine E8 ?_|refine A8 ?_|refine F5 ?_|refine G5 ?_|refine F7 ?_|(refine D5 (ht:=fun _=>?_) (hf:=fun _=>?_)<;>try first|contradiction|omega))
    refine L9 (⟨k+1,I3,_,_⟩:FlW) (by exact⟨rfl,rfl,rfl,rfl,trivial⟩) ⟨hm,(hle1.trans hleI2).trans hleI3,?_,by dsimp only;omega⟩ (by dsimp only;omega)
    dsimp only
    rw[htk,O3];exact(A1r.le (hleI2.trans hleI3) _ _ _ hC1).app ((A1r.one (hY2 I3 H1' H2' (hleI2.trans hleI3) (ho4.le hleI3) ho5)).app (A1r.le (hleI2.trans hleI3) _ _ _ hC3))
   ·skip
    repeat' (first|refine A20 (off:=k *15+0) (d:=17) hm (by rfl) (by rfl) (by rw[<-hoff];rfl) (by rw[A3o hl1 (by simp)];rfl) ?_|refine A20 (off:=k *15+11) (d:=44) hm (by rfl) (by rfl) (by rw[<-hoff];rfl) (by rw[A3o hl1 (by simp)];rfl) ?_|refine A20 (off:=k *15+12) (d:=50) hm (by rfl) (by rfl) (by rw[<-hoff];rfl) (by rw[A3o hl1 (by simp)];rfl) ?_|refine F6 (d:=45) ?_ hm (hp:=B3Z) (hc:=hct I1 (Le.refl _));clear hm;rintro _ I2 H1' _ ⟨rfl,ho4⟩ hleI2 hm;replace hm:=hm.perm B3Z.symm|refine F6 (d:=51) ?_ hm (hp:=B3Z.trans C5B) (hc:=hcl I2 hleI2);clear hm;rintro _ I3 H2' _ ⟨rfl,ho5⟩ hleI3 hm;replace hm:=hm.perm C7f|refine D8 ?_|refine D6 ?_|refine L8 ?_|refine J6 ?_|refine N9 ?_|refine E5 ?_|refine P7 ?_|refine C9 ?_|refine A0L (k:=?_)|refine A0N ?_|(refine N8 (h1:=fun _=>?_) (h0:=fun _=>?_)<;>try first|contradiction|omega)|refine D9 ?_|refine A7 ?_|refine D7 ?_|refine E8 ?_|refine A8 ?_|refine F5 ?_|refine G5 ?_|refine F7 ?_|(refine D5 (ht:=fun _=>?_) (hf:=fun _=>?_)<;>try first|contradiction|omega))
    refine L9 (⟨k+1,I3,_,_⟩:FlW) (by exact⟨rfl,rfl,rfl,rfl,trivial⟩) ⟨hm,(hle1.trans hleI2).trans hleI3,?_,by dsimp only;omega⟩ (by dsimp only;omega)
    dsimp only
    rw[htk,O3];exact(A1r.le (hleI2.trans hleI3) _ _ _ hC1).app ((A1r.one (hY2 I3 H1' H2' (hleI2.trans hleI3) (ho4.le hleI3) ho5)).app (A1r.le (hleI2.trans hleI3) _ _ _ hC3))
 ·obtain rfl:k=l.length:=by omega
  rw[V5,A6D,J3]at hC;repeat' (first|refine J6 ?_|refine D9 ?_|refine A7 ?_|refine H9 ?_|refine H5 ?_|refine E8 ?_|refine A8 ?_|refine P9 ?_|refine X0 ?_|(refine D5 (ht:=fun _=>?_) (hf:=fun _=>?_)<;>try first|contradiction|omega))
  exact⟨I1,_,⟨rfl,xs1,Hs1,by rw[A4J],hC⟩,hm⟩
theorem _root_.Go.Fw.pmL7 {f r m a b c d:HItem}{T:List HItem}:(f::r::m::a::b::c::d::T).Perm ((T++ [f,r,m])++ [a,b,c,d]):=by
 rw[O3];exact A0P (l₁:= [f,r,m,a,b,c,d])
theorem _root_.Go.Fw.pmL4 {a b c d:HItem}{T:List HItem}:(a::b::c::d::T).Perm (T++ [a,b,c,d]):=A0P (l₁:= [a,b,c,d])
theorem _root_.Go.Fw.pmIcT {r c f m:HItem}{T:List HItem}:(r::c::f::m::T).Perm (c::f::r::m::T):=(A0P (l₁:= [r]) (l₂:= [c,f])).append_right (m::T)
theorem _root_.Go.Fw.pmSw {a b:HItem}{T:List HItem}:(a::b::T).Perm (b::a::T):=.swap _ _ _
def A33 (l:List Sp.Par):List Loc:=l.map (fun p=>(⟨p.name,p.label,none⟩,.pointer none))
theorem A89 (l:List Sp.Par):(A33 l).map (·.1)=B1Y l:=by rw[A33,B1Y,List.map_map];rfl
theorem B5N {l:List Sp.Par}{j:Nat}{p:Sp.Par} (h:l[j]?=some p):A33 (l.take (j+1))=A33 (l.take j)++ [(⟨p.name,p.label,none⟩,.pointer none)]:=by
 rw[Q8 h,A33,Y8];rfl
abbrev InT (bd bf:Nat) (sc:List Loc) (o:Sp.Lab) (more:Bool) (sa:Option Addr) (sp bo:Nat) (zs:A1N) (T:List HItem):List HItem:=
 .cell bd [ptr bf,.slice sa sc.length sp,.map (some bo),.bool more] 119:: .row (.slice sa sc.length sp) 122 3 sc.length (sc.flatMap (A4a o)):: .mz bo zs::T
structure LbX where
 k:Nat
 I:P6
 a:Option Addr
 cp:Nat
 xs:List Value
 r:List Sp.Itm
structure LbR where
 I:P6
 sc:List Loc
 o:Sp.Lab
 more:Bool
 sa:Option Addr
 sp:Nat
 zs:A1N
structure LbP where
 j:Nat
 sa:Option Addr
 sp:Nat
abbrev C6C (its:List Sp.Itm):Value->P6->List HItem->Prop:=fun v J H'=>H'= []/\∃ra rp xs r,B1d its r/\v=.agg [.slice ra r.length rp].toArray/\RowI J 43 10 (.slice ra r.length rp) r.length xs/\A5f J r xs
theorem C29 {its:List Sp.Itm} (hlab:A26 its) (hI:∀x∈its,Sp.ItI x) (I:P6) (a:Option Addr) (cp:Nat) (xs:List Value) (hfe:FE I its a cp xs):
  CalM prog 20 #[.agg [.slice a its.length cp].toArray] I [] (C6C its):=by
 have hfew:=hfe.few;refine CalM.of fun w E hm=>enter (N:=72) func20 rfl [(0,.agg [.slice a its.length cp].toArray)] A0I rfl ?_
 repeat' (first|refine A0H 2 ?_|refine A0K (d:=1) ?_ hm;clear hm;intro b1 _ hm|refine U1 (d:=2) ?_ hm;clear hm;intro b2 _ hm|refine U1 (d:=3) ?_ hm;clear hm;intro b3 _ hm|refine D9 ?_|refine A7 ?_|refine E8 ?_|refine A8 ?_)
 obtain⟨I1,hle1,hm1,hpf⟩:=(hm.perm (A0P (l₁:= [_,_]) (l₂:= [_]))).freezeO;clear hm;have hm:=hm1;clear hm1;have hfe1:=hfe.le hle1;refine⟨?_⟩
 repeat' (first|refine J5 ?_ hm|refine D8 ?_|refine G7 ?_|refine C9 ?_|refine D9 ?_|refine A7 ?_|refine A8 ?_|refine F5 ?_)
 have hm:=(hm.nil 43 10).swap;refine U2 (fun x:LbX=> [(1,ptr b1),(2,ptr b2),(3,ptr b3),(10,.slice a its.length cp),(11,nt its.length),(12,nt x.k)])
  (fun x w'=>Mem E x.I [.cell b3 [.slice x.a x.r.length x.cp] 25,B3e x.r.length x.a x.cp x.xs,.cell b2 [.slice none 0 0] 25] w'/\Le I1 x.I/\x.k<=its.length/\Sp.AllTwo (C0N its) (its.take x.k) x.r/\A5f x.I x.r x.xs) (fun x=>its.length-x.k) ⟨0,I1,none,0,[],[]⟩
  (by exact⟨rfl,rfl,rfl,rfl,rfl,rfl,trivial⟩) ⟨hm,Le.refl _,H7 _,.nil,rfl⟩ ?_
 clear hm;rintro⟨k,I2,ra,rp,rx,r⟩ w2 ⟨hm,hle2,hk,hall,hits⟩;dsimp only at hm hle2 hk hall hits |-;have hfe2:=hfe1.le hle2;have hpf2:=hpf.le hle2;have hri:=hfe2.row;have hrl:=hall.len;rw[Q4,A1g hk]at hrl;by_cases hlt:k<its.length
 ·have hg:its[k]?=some its[k]:=G6 hlt
  have htk:=Q8 hg;obtain⟨cs,hcs,hat,hl10⟩:=hfe2.get hg;have hIt:=hI _ (O7 hlt);have hpl:=(hlab _ (O7 hlt)).2;generalize its[k]=it at hg hat hIt hpl htk;have hOw:=C8r it hIt.small I2 cs hat
  have hpn:=hIt.small.params;have hbn:=hIt.small.body;obtain⟨ap0,cp0,as0,cs0,ab0,cb0,ad0,cd0,xb0,rfl,_⟩:=hat
  repeat' (first|refine O0 (d:=14) ?_ (hr:=hri);intro bt ot hpt;rw[show ((k:Int).toNat *10)=k *10 from rfl,hcs]at hpt|refine F6 (d:=17) ?_ hm (hp:=pm0) (hc:=hOw);clear hm;rintro _ I3 _ _ ⟨ap,cp',as_,cs',ab,cb,ad,cd,Hb,rfl,rfl,hO,hrs,hrd⟩ hleI3 hm;replace hm:=hm.perm A0P|refine A0H 6 ?_|refine Y5 (d:=5) ?_ hm;clear hm;intro b5 _ hm|refine Y1 ?_ hm|refine X3 ?_ hm|refine N7 ?_ hm;clear hm;intro _ hm;try simp only[F9]at hm|refine J6 ?_|refine D9 ?_|refine A7 ?_|refine E8 ?_|refine A8 ?_|refine F5 ?_|refine G5 ?_|(refine D5 (ht:=fun _=>?_) (hf:=fun _=>?_)<;>try first|contradiction|omega))
  obtain⟨I4,hle4,hm4,hrp⟩:=(hm.perm (pmL4.trans (.refl _))).freeze;clear hm;have hm:=hm4.perm pmL4.symm;clear hm4;have hle24:Le I2 I4:=hleI3.trans hle4;have hO4:=hO.le hle4;have hrs4:=hrs.le hle4;have hrd4:=hrd.le hle4;have hpf4:=hpf2.le hle24;have hfe4:=hfe2.le hle24;have hits4:=hits.le hle24;refine⟨?_⟩
  by_cases k2:it.kind=2
  ·skip
   repeat' (first|refine B1x (d:=21) ?_ hm;clear hm;intro b21 _ hm|refine A0K (d:=23) ?_ hm;clear hm;intro b23 _ hm|refine J4 ?_ hm|refine D6 ?_|refine N9 ?_|refine C9 ?_|refine Q3 ?_|refine D9 ?_|refine A7 ?_|refine E8 ?_|refine A8 ?_|refine F5 ?_|(refine D5 (ht:=fun _=>?_) (hf:=fun _=>?_)<;>try first|contradiction|omega))
   have hm:=(hm.nil 122 3).perm pmSw;refine U2 (fun _:LbR=> [(1,ptr b1),(2,ptr b2),(3,ptr b3),(5,ptr b5),(6,ptr b23),(10,.slice a its.length cp),(11,nt its.length),(12,nt k)])
    (fun x w'=>Mem E x.I (InT b23 b1 x.sc x.o x.more x.sa x.sp b21 x.zs (.cell b5 (A1z it.kind it.name it.label (.slice ap it.params.length cp') (.slice as_ it.sends.length cs') (.slice ab it.body.length cb) it.at_ it.size it.mark (.slice ad it.diags.length cd)) 43:: .cell b3 [.slice ra r.length rp] 25::B3e r.length ra rp rx:: .cell b2 [.slice none 0 0] 25::Hb)) w'/\
     Le I4 x.I/\OpenZ x.zs x.o/\(∃kk,x.o=B0N its it kk)/\(x.more=false->A45 its it x.o=(x.o,false)))
    (fun x=>2 *B1G (A1a it.body) x.o+(if x.more=true then 1 else 0)) ⟨I4,[],fun _=>0,true,none,0,[]⟩
    (by exact⟨rfl,rfl,rfl,rfl,rfl,rfl,rfl,rfl,trivial⟩) ⟨hm,Le.refl _,OpenZ.nil,⟨0,rfl⟩,fun h=>(by cases h)⟩ ?_
   clear hm;rintro⟨I5,sc,o,more,sa,sp,zs⟩ w5 ⟨hm,hle5,hz,⟨kk,hkk⟩,hfix⟩;dsimp only at hm hle5 hz hkk hfix |-;have hok:∀f,o f<256:=fun f=>by rw[hkk];exact B5p hlab hIt.body hpl kk f
   obtain⟨hr1,hr2,hr3⟩:=B4R (o:=o) hlab hIt.body hpl hok;cases more with
   |false=>
    repeat' (first|refine A0H 17 ?_|refine J4 ?_ hm|refine D8 ?_|refine E5 ?_|refine C9 ?_|refine D9 ?_|refine A7 ?_|refine H9 ?_|refine H5 ?_|refine E8 ?_|refine A8 ?_|refine P9 ?_|refine F7 ?_)
    obtain⟨I6,hle6,hm6,hpd⟩:=hm.freezeO;obtain⟨I7,hle7,hm7,hmz⟩:=Mem.freezeMZ hm6.tl;clear hm hm6;have hm:=hm7;clear hm7;have hF:=C6X (bd:=b23) (bo:=b21) hz _ it.body (G9 _) (by omega) hIt.small.stms I7 ab cb Hb (hpd.le hle7) hmz (((hO4.le hle5).le hle6).le hle7);refine⟨?_⟩
    repeat' (first|refine F6 (d:=63) ?_ hm (hp:=pmL4) (hc:=hF);clear hm;rintro _ I8 H1 _ ⟨rfl,hO8⟩ hleI8 hm;replace hm:=hm.perm pmL4.symm|refine A0H 18 ?_|refine J4 ?_ hm|refine D8 ?_|refine C9 ?_|refine D9 ?_|refine A7 ?_|refine A8 ?_)
    obtain⟨I9,xb9,hle9,hm9,hrb,hxb⟩:=hO8.freeze (hm.perm pmL4);clear hm;have hm:=hm9;clear hm9;have hle49:Le I4 I9:=(((hle5.trans hle6).trans hle7).trans hleI8).trans hle9;have hit:A5W I9 (Sp.itI o it) (A1z it.kind it.name it.label (.slice ap it.params.length cp') (.slice as_ it.sends.length cs') (.slice ab it.body.length cb) it.at_ it.size it.mark (.slice ad it.diags.length cd)):=
     ⟨ap,cp',as_,cs',ab,cb,ad,cd,xb9,by show _=A1z it.kind it.name it.label _ _ (.slice ab (A2f o it.body).length cb) it.at_ it.size it.mark _;rw[A4J];rfl,hrp.le hle49,hrs4.le hle49,hrb,hxb,hrd4.le hle49⟩
    refine⟨?_⟩
    repeat' (first|refine A2l (d:=68) ?_ hm;clear hm;intro a68 cp68 _ _ hm;try simp only[F9]at hm|refine J4 ?_ hm|refine Y1 ?_ hm|refine O6 hm (k:=?_);clear hm;intro _ hm;try simp only[F9]at hm|refine D8 ?_|refine P7 ?_|refine C9 ?_|refine D9 ?_|refine A7 ?_|refine D7 ?_|refine A8 ?_)
    refine L9 (⟨k+1,I9,a68,cp68,_,r++ [Sp.itI o it]⟩:LbX) (by exact⟨rfl,rfl,rfl,rfl,rfl,rfl,trivial⟩) ⟨?_,(hle2.trans hle24).trans hle49,by dsimp only;omega,by dsimp only;rw[htk];exact hall.snoc ⟨fun _=>⟨o,⟨⟨kk,hkk⟩,hfix rfl⟩,rfl⟩,fun h=>absurd k2 h⟩,(hits4.le hle49).snoc hit⟩ (by dsimp only;omega)
    dsimp only[B3e];rw[E9];exact hm.tl
   |true=>
    repeat' (first|refine A0H 11 ?_|refine J4 ?_ hm|refine O6 hm (k:=?_);clear hm;intro _ hm;try simp only[F9]at hm|refine D8 ?_|refine E5 ?_|refine C9 ?_|refine D9 ?_|refine A7 ?_|refine E8 ?_|refine A8 ?_|refine F5 ?_|refine G5 ?_|refine H6 ?_)
    have hm:=((hm.perm pmSw).tl.nil 122 3).perm pmSw;have hrp5:=hrp.le hle5;have hO5:=hO4.le hle5;refine⟨?_⟩
    repeat' (first|refine J4 ?_ hm|refine D8 ?_|refine G7 ?_|refine C9 ?_|refine D9 ?_|refine A7 ?_|refine A8 ?_|refine F5 ?_)
    refine U2 (fun x:LbP=> [(1,ptr b1),(2,ptr b2),(3,ptr b3),(5,ptr b5),(6,ptr b23),(10,.slice a its.length cp),(11,nt its.length),(12,nt k),(35,.slice ap it.params.length cp'),(36,nt it.params.length),(37,nt x.j)])
     (fun x w'=>Mem E I5 (InT b23 b1 (A33 (it.params.take x.j)) o false x.sa x.sp b21 zs (.cell b5 (A1z it.kind it.name it.label (.slice ap it.params.length cp') (.slice as_ it.sends.length cs') (.slice ab it.body.length cb) it.at_ it.size it.mark (.slice ad it.diags.length cd)) 43:: .cell b3 [.slice ra r.length rp] 25::B3e r.length ra rp rx:: .cell b2 [.slice none 0 0] 25::Hb)) w'/\x.j<=it.params.length)
     (fun x=>it.params.length-x.j) ⟨0,none,0⟩ (by exact⟨rfl,rfl,rfl,rfl,rfl,rfl,rfl,rfl,rfl,rfl,rfl,trivial⟩) ⟨hm,H7 _⟩ ?_
    clear hm;rintro⟨j,sa1,sp1⟩ w6 ⟨hm,hj⟩;dsimp only at hm hj |-;have hpl1:(A33 (it.params.take j)).length=j:=by rw[A33,A0g,Q4];omega
    by_cases hlj:j<it.params.length
    ·have hgp:it.params[j]?=some it.params[j]:=G6 hlj
     have hstp:=B5N hgp;generalize it.params[j]=p at hgp hstp;repeat' (first|refine Q9 (d:=39) (enc:=A2N) (z:=p) ?_ (hr:=hrp5) (he:=fun _=>rfl) (hz:=by exact hgp);intro bz oz hpz|refine A0m (id:=14) (hm.perm pm1_2) [0,1,2,3,4,5,6,7,8,9] [10,11] 12 (h:=?_);clear hm;intro wd hR hm|refine Y3 ?_ hR|refine A1U (d:=52) ?_ hm;clear hm;intro a52 cp52 _ _ hm;replace hm:=hR.back hm;clear hR;try simp only[F9]at hm|refine Y5 (d:=8) ?_ hm;clear hm;intro b8 _ hm|refine X3 ?_ hm|refine O6 hm (k:=?_);clear hm;intro _ hm;try simp only[F9]at hm|refine D8 ?_|refine J6 ?_|refine E5 ?_|refine P7 ?_|refine C9 ?_|refine D9 ?_|refine A7 ?_|refine D7 ?_|refine E8 ?_|refine A8 ?_|refine F5 ?_|refine G5 ?_|(refine D5 (ht:=fun _=>?_) (hf:=fun _=>?_)<;>try first|contradiction|omega)|refine Z4 ?_|refine O5 ?_|refine J8 ?_|refine A2M ?_|refine A0b ?_)
     refine L9 (⟨j+1,a52,cp52⟩:LbP) (by exact⟨rfl,rfl,rfl,rfl,rfl,rfl,rfl,rfl,rfl,rfl,rfl,trivial⟩) ⟨?_,by dsimp only;omega⟩ (by dsimp only;omega)
     dsimp only[InT];rw[hstp,X9,E9];exact(hm.perm pmIcT).tl
    ·obtain rfl:j=it.params.length:=by omega
     rw[V5]at hm;have hq:(A2b its it.body ((A33 it.params).map (·.1)) 0 (o,false)).2=A45 its it o:=by rw[A89];rfl
     have hB:CalM prog 49 #[ptr b23,.slice ab it.body.length cb,nt 0] I5 (Hb++A92 b23 b1 (A33 it.params) o false sa1 sp1 b21 zs) _:=CalM.lend (QJ:=fun J=> ∃xb,RowI J 111 15 (.slice ab it.body.length cb) it.body.length xb/\X6 J it.body xb)
      (fun E w hmm=>by
       obtain⟨J,xbJ,hleJ,hmJ,hrJ,hxJ⟩:=hO5.freeze hmm;exact⟨J,hleJ,hmJ,xbJ,hrJ,hxJ⟩)
      (fun J m ⟨xb,h1,h2⟩=>C48 (bd:=b23) (bf:=b1) (bo:=b21) hlab _ it.body (G9 _) (by omega) hIt.small.stms hIt.body J ab cb xb (A33 it.params) 0 (o,false) sa1 sp1 zs (by omega) hok
       (by rw[A89];exact B3w hpl) (by have:=hIt.cnt;rw[A33,A0g];omega) (by rw[A89,B4K];exact hIt.lets)
       (fun q hq=>by obtain⟨p,_,rfl⟩:=A0x.1 hq;exact .inl ⟨rfl,rfl⟩) hz ((hfe4.le hle5).le m) ((hpf4.le hle5).le m) h1 h2)
     rw[hq]at hB;repeat' (first|refine F6 (d:=59) ?_ hm (hp:=pmL7) (hc:=hB);clear hm;rintro _ I6 _ _ ⟨_,rfl,rfl,sa6,sp6,zs6,hz6,rfl⟩ hleI6 hm;replace hm:=hm.perm pmL7.symm|refine J4 ?_ hm|refine D8 ?_|refine J6 ?_|refine C9 ?_|refine D9 ?_|refine A7 ?_|refine H9 ?_|refine D7 ?_|refine H5 ?_|refine E8 ?_|refine A8 ?_|refine P9 ?_|(refine D5 (ht:=fun _=>?_) (hf:=fun _=>?_)<;>try first|contradiction|omega))
     refine L9 (⟨I6,A33 it.params,(A45 its it o).1,(A45 its it o).2,sa6,sp6,zs6⟩:LbR) (by exact⟨rfl,rfl,rfl,rfl,rfl,rfl,rfl,rfl,trivial⟩) ⟨hm,hle5.trans hleI6,hz6,⟨kk+1,by rw[hkk];rfl⟩,fun h=>?_⟩ ?_
     ·dsimp only at h |-
      have h3:=hr3 h;rw[h3];exact Prod.ext h3 h
     ·dsimp only
      cases hb:(A45 its it o).2 with
      |true=>have:=hr2 hb;rw[if_pos rfl];omega
      |false=>rw[hr3 hb,if_neg (by decide),if_pos rfl];omega
  ·obtain⟨I5,xb5,hle5,hm5,hrb,hxb⟩:=hO4.freeze (hm.perm pmL4)
   clear hm;have hm:=hm5;clear hm5;have hit:A5W I5 it (A1z it.kind it.name it.label (.slice ap it.params.length cp') (.slice as_ it.sends.length cs') (.slice ab it.body.length cb) it.at_ it.size it.mark (.slice ad it.diags.length cd)):=
    ⟨ap,cp',as_,cs',ab,cb,ad,cd,xb5,rfl,hrp.le hle5,hrs4.le hle5,hrb,hxb,hrd4.le hle5⟩
   repeat' (first|refine A2l (d:=68) ?_ hm;clear hm;intro a68 cp68 _ _ hm;try simp only[F9]at hm|refine J4 ?_ hm|refine Y1 ?_ hm|refine O6 hm (k:=?_);clear hm;intro _ hm;try simp only[F9]at hm|refine D8 ?_|refine N9 ?_|refine P7 ?_|refine C9 ?_|refine D9 ?_|refine A7 ?_|refine D7 ?_|refine A8 ?_|refine G5 ?_|(refine D5 (ht:=fun _=>?_) (hf:=fun _=>?_)<;>try first|contradiction|omega))
   refine L9 (⟨k+1,I5,a68,cp68,_,r++ [it]⟩:LbX) (by exact⟨rfl,rfl,rfl,rfl,rfl,rfl,trivial⟩) ⟨?_,(hle2.trans hle24).trans hle5,by dsimp only;omega,by dsimp only;rw[htk];exact hall.snoc ⟨fun h=>absurd h k2,fun _=>rfl⟩,(hits4.le hle5).snoc hit⟩ (by dsimp only;omega)
   dsimp only[B3e];rw[E9];exact hm.tl
 ·obtain rfl:k=its.length:=by omega
  rw[V5]at hall;repeat' (first|refine Y1 ?_ hm|refine N7 ?_ hm;clear hm;intro _ hm;try simp only[F9]at hm|refine Y4 ?_ hm|refine J6 ?_|refine D9 ?_|refine A7 ?_|refine H9 ?_|refine H5 ?_|refine E8 ?_|refine A8 ?_|refine P9 ?_|refine H8 ?_|(refine D5 (ht:=fun _=>?_) (hf:=fun _=>?_)<;>try first|contradiction|omega))
  obtain⟨I3,hle3,hm3,hrow3⟩:=(hm.perm pmSw).freeze;exact⟨I3,[],⟨rfl,ra,rp,rx,r,hall,rfl,hrow3,hits.le hle3⟩,hm3.left (H:= [])⟩
end Go.Proofs
