import Derived.Test.YtpjihhgjbbihkaaGreatDoorPart2
import Derived.WideKeyEntry
namespace Go.Proofs.YtpjihhgjbbihkaaGreatDoor
open Go.Proofs.Tryz
set_option maxRecDepth 100000
open Go.Dk
attribute [local irreducible] IntKind.wrap
theorem _root_.Go.Dk.Hp.j6 {w0 w:World}{F:Nat→Prop}{L M:List cH}{a b c:cH}(H:Hp w0 F w (a::b::c::L) M):Hp w0 F w [a,b,c] M:=by
 have hm:∀ s,s ∈ [a,b,c]→s ∈ a::b::c::L:=fun s hs=>by
  have:s ∈ [a,b,c]++L:=List.mem_append_left _ hs;exact this
 exact ⟨H.keeps,fun s hs=>H.ok s (hm s hs),fun s hs=>H.lt s (hm s hs),fun s hs=>H.new s (hm s hs),(List.pairwise_append.1 (show List.Pairwise _ ([a,b,c]++L) from H.dis)).1,H.rok,H.rlt,fun q d s hs=>H.rdis q d s (hm s hs)⟩
theorem _root_.Go.Dk.Hp.py {w0 w:World}{F:Nat→Prop}{L M:List cH}{g l sz:Nat}{e:TypeId}{cs:Array Value}(H:Hp w0 F w (an g e cs::L) M)(hs:cs.size=l*sz)(b:l≤maxLen):Hp w0 F w (own e sz (.slice (some ⟨g,0,none⟩) l l) l cs.toList::L) M:=
 H.re (fun h=>⟨by simpa using hs,.inr ⟨g,l,cs,rfl,Nat.zero_le _,h,Nat.le_refl _,b,hs,by rw[← hs];exact List.take_length⟩⟩) (fun x a=>by
  have a:some g=some x:=a;injection a with a;exact a.symm)
theorem fJ {P:Program}{w:World}{k:Value→World→Prop}{g:Nat}{t ty:TypeId}{cs:Array Value}(h:(an g t cs).ok w)(cs':List Value)(a:cP P ty=some true)(hs:bE P ty=some cs'.length)(b:∀ (j:Nat) v,cs'[j]?=some v→cs[j]?=some v)(c:k (.agg cs'.toArray) w):fb P ty (ah g) w k:=
 iq cs' a hs (fun j v d=>by rw[addr_add,Nat.zero_add,aQ h];exact b j v d) c
def Mf (cols:Int)(R:a7)(m:Nat)(G:List Int)(s e:Int):Prop:=
 (cD cols R=false∧G=[]∧s=0∧e=1)∨(cD cols R=true∧g_ R=true∧G=[]∧s=0∧e=7)∨
 (cD cols R=true∧g_ R=false∧e=6∧s=m∧G=[]∧m<2^cols.toNat)∨
 (cD cols R=true∧g_ R=false∧e=0∧(0≤s∧s≤m)∧(∃ b,G=a8 cols.toNat b)∧eX cols.toNat R (G.length:Int)∧aJ R G)
def nO (n:Int)(a:Option Addr)(c c3:Nat)(t:Value)(b:Value × Value):Array Value:=(gD n (.slice a c c3,t)++gD n b).toArray
theorem Mg:enters prog 89=true:=by kernel_rfl
set_option maxHeartbeats 4000000 in
theorem O2 (cols:Int)(R:a7)(v1:Value)(m:Nat)(S:Nat→Prop)(w:World)(hl:R.length≤1000000)(hlr:∀ r ∈ R,r.length≤1000000000)(hm:m≤1000000000)(hc:cD cols R=true→cols≤4000)(h1:ez S v1 R w)(hS:∀ g,S g→g<w.heap.size) :
  bw prog 89 [mv cols v1,.int .i64 (m:Int)] w fun v w'=>∃ B d G s e,v=.tuple #[.slice B G.length d,.int .i64 s,.int .i64 e]∧Mf cols R m G s e∧eE w w' (own 3 1 (.slice B G.length d) G.length (aA G)):=by
 refine ar (N:=110) func89 Mg rfl rfl rfl (by simp) ?_;have H:=pv h1 hS;have h1':j5 w v1 R:=bj.mono h1 hS;obtain ⟨A,ca,hv⟩:=h1.form;subst hv;refine ak (γ:=Nat) (fun g2=>[(2,(ah g2))]) (fun g2 w'=>Hp w ab w' [an g2 137 (mc cols (.slice A R.length ca))] [bj S (.slice A R.length ca) R]) ?_ ?_
 ·refine H.box 137 (mv _ _) (cs:=mc _ _) rfl ?_;clear H;intro g1 w1 H;exact ⟨g1,⟨rfl,trivial⟩,H⟩
 clear H;rintro g2 u w1 H;refine ak (γ:=Option Addr × Nat × List Int × Int) (fun (B,d,G,e)=>[(7,.slice B G.length d),(8,.int .i64 e)]) (fun (B,d,G,e) w'=>BR cols R G e∧Hp w ab w' [own 3 1 (.slice B G.length d) G.length (aA G),an g2 137 (mc cols (.slice A R.length ca))] [bj S (.slice A R.length ca) R]) ?_ ?_
 ·refine H.ai 0 rfl aL az ?_;refine aj (N2 cols R _ S _ (by omega) hlr (H.ro 0 rfl) (H.rlt _ (.head _))) ?_;rintro _ w2 ⟨B,d,G,e,rfl,hG,I⟩;exact ⟨(B,d,G,e),⟨rfl,rfl,trivial⟩,hG,H.bq I⟩
 clear H;rintro ⟨U,V,best,e⟩ u w2 ⟨hG,H⟩;refine aw (fun w'=>(e=0)∧Hp w ab w' [own 3 1 (.slice U best.length V) best.length (aA best),an g2 137 (mc cols (.slice A R.length ca))] [bj S (.slice A R.length ca) R]) ?_ ?_
 ·refine df (fun he=>?_) (fun he=>?_)
  ·refine ⟨none,0,[],0,e,rfl,?_,((H.bx 3 1).only).out⟩;rcases hG with ⟨h1,_,h3⟩ | ⟨h1,h2,_,h3⟩ | ⟨_,_,h3,_⟩
   ·exact .inl ⟨h1,rfl,rfl,h3⟩
   ·exact .inr (.inl ⟨h1,h2,rfl,rfl,h3⟩)
   ·exact absurd h3 he
  ·exact ⟨(),trivial,he,H⟩
 clear H;rintro ⟨⟩ u w3 ⟨he,H⟩;obtain ⟨hr',hb',gl,hgl,hGe⟩:cD cols R=true∧g_ R=false∧∃ l,mO R l∧best=a8 cols.toNat l:=by
  rcases hG with ⟨_,_,h3⟩ | ⟨_,_,_,h3⟩ | ⟨h1,h2,_,h3⟩
  ·omega
  ·omega
  ·exact ⟨h1,h2,h3⟩
 clear hG;have hright:=gC.1 hr';obtain ⟨n,rfl⟩:∃ n:Nat,cols=n:=⟨cols.toNat,by have:=hright.ge;omega⟩;rw[Int.toNat_natCast] at hGe;have hn30:=hc hr';have hbare:[] ∉ R:=fun h=>by rw[kA.2 h] at hb';cases hb'
 have hsolve:aJ R best:=by rw[hGe];exact mM hright (uN hgl)
 have F:best.length≤4000:=by have:=fz n gl;rw[hGe];omega
 refine ak (γ:=Unit) (fun _=>[(1,.int .i64 (m:Int))]) (fun _ w'=>Hp.cl H w') ?_ ?_
 ·refine J0 ?_;exact ⟨(),⟨rfl,trivial⟩,H⟩
 rintro ⟨⟩ u w3 H1;replace H:Hp _ _ _ _ _:=H1;clear H1;refine ak (γ:=Nat) (fun g9=>[(9,.slice (some ⟨g9,0,none⟩) 1 1)]) (fun g9 w'=>Hp w ab w' [own 184 3 (.slice (some ⟨g9,0,none⟩) 1 1) 1 (flat (gD n) [(.slice A R.length ca,.slice none 0 0)]),own 3 1 (.slice U best.length V) best.length (aA best),an g2 137 (mc n (.slice A R.length ca))] [bj S (.slice A R.length ca) R]) ?_ ?_
 ·refine H.ai 1 rfl aL az ?_;refine bJ ?_;refine H.bf hH (cs:=(gD n (.slice A R.length ca,.slice none 0 0)).toArray) (by decide) (by decide) (by kernel_rfl) ?_;clear H;intro g9 w4 H;exact ⟨g9,⟨rfl,trivial⟩,H.py (l:=1) (sz:=3) rfl (by unfold maxLen;omega)⟩
 clear H;rintro g9 u w4 H;refine ak (γ:=Unit) (fun _=>[(10,.int .i64 0)]) (fun _ w'=>Hp.cl H w') ⟨(),⟨rfl,trivial⟩,H⟩ ?_;rintro ⟨⟩ u w5 H1;replace H:Hp _ _ _ _ _:=H1;clear H1;have Hs:∃ (Y Sb:Nat→Prop),Hp w ab w5 [own 184 3 (.slice (some ⟨g9,0,none⟩) 1 1) 1 (flat (gD n) [(.slice A R.length ca,.slice none 0 0)]),an g2 137 (mc n (.slice A R.length ca))] [jf Y [(.slice A R.length ca,.slice none 0 0)] [(R,[])],sl Sb (.slice U best.length V) 1 best.length (aA best)]:=by
  have p:=(H.front 1 rfl).freeze;have hb:=iH (p.ro 0 rfl);have hmR:=p.ro 1 rfl;refine ⟨C9 [own 3 1 (.slice U best.length V) best.length (aA best),bj S (.slice A R.length ca) R],fun g=>(Value.slice U best.length V).ownBlock=some g,?_⟩;have H3:=p.px (sl (fun g=>(Value.slice U best.length V).ownBlock=some g) (.slice U best.length V) 1 best.length (aA best)) (fun g hg=>⟨_,.head _,hg⟩) hb;have H4:=H3.px (jf (C9 [own 3 1 (.slice U best.length V) best.length (aA best),bj S (.slice A R.length ca) R]) [(.slice A R.length ca,.slice none 0 0)] [(R,[])]) (fun g ⟨s,hs,hg⟩=>⟨s,.tail _ hs,hg⟩)
   ((fl.nil _ _).snoc (bj.mono hmR fun g hg=>⟨_,.tail _ (.head _),hg⟩) rfl ⟨rfl,none,0,rfl,Nat.le_refl _,.inl rfl⟩)
  exact H4.ey fun r hr=>by
   rcases List.mem_cons.1 hr with rfl | hr
   ·exact .head _
   ·rw[List.mem_singleton] at hr;subst hr;exact .tail _ (.head _)
 clear H;obtain ⟨Y,Sb0,H⟩:=Hs;refine ak (γ:=Option Addr × Nat × List Int × Nat) (fun (B,d,best,k)=>[(7,.slice B best.length d),(10,.int .i64 (k:Int))]) (fun (B,d,best,k) w'=>(k≤m∧best.length≤4000∧fQ n R best k [])∧(∃ Sb,Hp w ab w' [an g2 137 (mc n (.slice A R.length ca))] [sl Sb (.slice B best.length d) 1 best.length (aA best)])) ?_ ?_
 ·refine uX (γ:=Option Addr × Nat × List (Value × Value) × uH × List Int × Option Addr × Nat × Nat × (Nat→Prop) × (Nat→Prop)) _ rfl
   (fun (A9,d9,ts,_,best,U,V,k,_)=>[(9,.slice A9 ts.length d9),(7,.slice U best.length V),(10,.int .i64 (k:Int))])
   (fun (A9,d9,ts,st,best,U,V,k,Y,Sb) w'=>((best.length≤4000∧k≤m)∧fQ n R best k st)∧Hp w ab w' [own 184 3 (.slice A9 ts.length d9) ts.length (flat (gD n) ts),an g2 137 (mc n (.slice A R.length ca))] [jf Y ts st,sl Sb (.slice U best.length V) 1 best.length (aA best)])
   (fun (_,_,_,st,_)=>qc n st) (some ⟨g9,0,none⟩,1,[(.slice A R.length ca,.slice none 0 0)],[(R,[])],best,U,V,0,Y,Sb0) ⟨rfl,rfl,rfl,trivial⟩ ⟨⟨⟨F,Nat.zero_le _⟩,CR hright hsolve⟩,H⟩ ?_
  clear H hsolve hGe he F;rintro ⟨A9,d9,ts,st,best,U,V,k,Y,Sb⟩ u w6 ⟨⟨⟨F,hkm⟩,hfew⟩,H⟩;have hstk:fl Y w6 ts st:=H.ro 0 rfl;have hlen:=hstk.1;refine ay underlying185 ?_;refine au (fun h7=>?_) (fun h7=>?_)
  ·rcases List.eq_nil_or_concat ts with rfl | ⟨f,a,hts⟩
   ·simp at h7
   rcases List.eq_nil_or_concat st with rfl | ⟨C,x,hst⟩
   ·simp at hlen;rw[hlen] at h7;simp at h7
   rw[List.concat_eq_append] at hts hst;subst hts;subst hst;obtain ⟨hstk0,hma,Bx,cx,hax,hslx⟩:=hstk.pop;have hl0:f.length=C.length:=hstk0.1;obtain ⟨Ax,D,hax1⟩:=hma.form;obtain ⟨a1,a2⟩:=a;simp only at hax hax1;subst hax;subst hax1;have hxr:=hfew.right x (by simp);have hxl:x.1.length≤1000000:=Nat.le_trans (hfew.rows x (by simp)) hl;have hxT:x.2.length≤20000000:=by
    have h1:=hfew.len x (by simp);have h2:(n+1)*n≤4001*4000:=Nat.mul_le_mul (by omega) (by omega);omega
   have hhi:f.length≤4001:=by have:=hfew.high C.length x (by simp);omega
   have hxlr:∀ r ∈ x.1,r.length≤1000000000:=fun r hr=>by have:=oE hxr hr;omega
   have hxb:cD n x.1=true:=gC.2 hxr;have hlts:(f++[(Value.slice Ax x.1.length D,Value.slice Bx x.2.length cx)]).length=f.length+1:=by simp
   have hw1:IntKind.i64.wrap (((f++[(Value.slice Ax x.1.length D,Value.slice Bx x.2.length cx)]).length:Int) - 1)=(f.length:Int):=by rw[hlts,aH (by omega) (by omega)];omega
   refine ak (γ:=Nat) (fun g11=>[(11,(ah g11))]) (fun g11 w'=>Hp w ab w' [an g11 184 (gD n (.slice Ax x.1.length D,.slice Bx x.2.length cx)).toArray,own 184 3 (.slice A9 (f++[(Value.slice Ax x.1.length D,Value.slice Bx x.2.length cx)]).length d9) (f++[(Value.slice Ax x.1.length D,Value.slice Bx x.2.length cx)]).length (flat (gD n) (f++[(Value.slice Ax x.1.length D,Value.slice Bx x.2.length cx)])),an g2 137 (mc n (.slice A R.length ca))] [jf Y (f++[(Value.slice Ax x.1.length D,Value.slice Bx x.2.length cx)]) (C++[x]),sl Sb (.slice U best.length V) 1 best.length (aA best)]) ?_ ?_
   ·obtain ⟨g9',rfl⟩:=jT (H.get 0 rfl) (by omega);refine ay underlying185 ?_;refine ao underlying185 (s:=3) wM f.length hw1 (by omega) (o':=0+f.length*3) rfl ?_;refine H.gu 0 rfl (yE n) JZ wM f.length (by omega) (a:=(Value.slice Ax x.1.length D,Value.slice Bx x.2.length cx)) (by simp) ?_;refine H.alloc 184 Hb rfl ?_;clear H;intro g11 w7 H;refine H.storeAll 0 rfl wM rfl (fun v hv=>by simp[gD] at hv;rcases hv with rfl | rfl | rfl <;> rfl) ?_;clear H;intro w8 H;exact ⟨g11,⟨rfl,trivial⟩,H⟩
   clear H hstk hstk0 hma hslx;rintro g11 u w7 H;refine ak (γ:=Option Addr × Nat) (fun (A9,d9)=>[(9,.slice A9 f.length d9)]) (fun (A9,d9) w'=>Hp w ab w' [an g11 184 (gD n (.slice Ax x.1.length D,.slice Bx x.2.length cx)).toArray,own 184 3 (.slice A9 f.length d9) f.length (flat (gD n) f),an g2 137 (mc n (.slice A R.length ca))] [jf Y (f++[(Value.slice Ax x.1.length D,Value.slice Bx x.2.length cx)]) (C++[x]),sl Sb (.slice U best.length V) 1 best.length (aA best)]) ?_ ?_
   ·refine ay underlying185 ?_;refine H.Ha 1 hH rfl hw1 (by omega) (by omega) ?_;have e:(flat (gD n) (f++[(Value.slice Ax x.1.length D,Value.slice Bx x.2.length cx)])).take (f.length*3)=flat (gD n) f:=by
     rw[de,List.take_left' (dd (yE n) f)]
    rw[e];clear H;intro A' c' H;exact ⟨(A',c'),⟨rfl,trivial⟩,H⟩
   clear H;rintro ⟨A9,d9⟩ u w8 H;have hpart:∀ (j:Nat) (v:Value),([.int .i64 (n:Int),.slice Ax x.1.length D]:List Value)[j]?=some v→(gD n (.slice Ax x.1.length D,.slice Bx x.2.length cx)).toArray[j]?=some v:=fun j v hj=>by
    match j,hj with
    | 0,hj=>exact hj
    | 1,hj=>exact hj
    | j+2,hj=>simp at hj
   have Z:fl Y w8 (f++[(Value.slice Ax x.1.length D,Value.slice Bx x.2.length cx)]) (C++[x]):=H.ro 0 rfl;have hmx:ez Y (.slice Ax x.1.length D) x.1 w8:=Z.pop.2.1;have hSl:∀ g,Y g→g<w8.heap.size:=H.rlt _ (.head _);refine aw (fun w'=>g_ x.1=false∧Hp.cl H w') ?_ ?_
   ·refine aa (BS _) ?_;refine fJ (H.get 0 rfl) [.int .i64 (n:Int),.slice Ax x.1.length D] aL az hpart ?_;refine aj (Me n x.1 _ _ (by omega) (bj.mono hmx hSl)) ?_;rintro _ w9 ⟨rfl,hk⟩;replace H:=H.same hk;clear hk;refine aE (fun hb=>?_) (fun hb=>?_)
    ·have hb':[] ∈ x.1:=kA.1 (by simpa using hb);have Z:fl Y w9 (f++[(Value.slice Ax x.1.length D,Value.slice Bx x.2.length cx)]) (C++[x]):=H.ro 0 rfl;have p:=((H.forget).px (jf Y f C) (fun g hg=>⟨_,.head _,hg⟩) Z.pop.1).ey (M':=[jf Y f C,sl Sb (.slice U best.length V) 1 best.length (aA best)]) (fun r hr=>by
      rcases List.mem_cons.1 hr with rfl | hr
      ·exact .head _
      ·rw[List.mem_singleton] at hr;subst hr;exact .tail _ (.tail _ (.head _)))
     exact ⟨(A9,d9,f,C,best,U,V,k,Y,Sb),qd n C x,⟨rfl,rfl,rfl,trivial⟩,⟨⟨F,hkm⟩,EN hfew hb'⟩,p⟩
    ·exact ⟨(),trivial,by simpa using hb,H⟩
   rintro ⟨⟩ u w9 ⟨hxbare,H1⟩;replace H:Hp w ab w9 [an g11 184 (gD n (.slice Ax x.1.length D,.slice Bx x.2.length cx)).toArray,own 184 3 (.slice A9 f.length d9) f.length (flat (gD n) f),an g2 137 (mc n (.slice A R.length ca))] [jf Y (f++[(Value.slice Ax x.1.length D,Value.slice Bx x.2.length cx)]) (C++[x]),sl Sb (.slice U best.length V) 1 best.length (aA best)]:=H1;clear H1 Z hmx hSl;obtain ⟨e1,e2,e3,e4⟩:=BO hxb;have hEi:=kb hxr;have hEb:[] ∉ (c_ n (x.1,[])).1:=p_ (s:=(x.1,[])) (fun h=>by rw[kA.2 h] at hxbare;cases hxbare) _;have hEl:(c_ n (x.1,[])).1.length≤x.1.length:=oD (s:=(x.1,[])) _;have hTl:=fz n (c_ n (x.1,[])).2;have hdone:=EO hfew;have hcut:=G1 hfew;have hbr:=fun c=>zY hfew (c:=c);have hc89:=fun u hS0 h=>OP n x.1 (.slice Ax x.1.length D) Y u (by omega) hxlr h hS0;rw[e1,e2,e3,e4] at hc89;have hEr:=hEi.right;clear hEi e1 e2 e3 e4;generalize (c_ n (x.1,[])).1=E at *;generalize a8 n (c_ n (x.1,[])).2=i at *;have z:∀ r ∈ E,r.length≤1000000000:=fun r hr=>by have:=oE hEr hr;omega
   have hEL:E.length≤1000000:=by omega
   have hT15:(x.2++i).length=x.2.length+i.length:=List.length_append;refine ak (γ:=Option Addr × Nat × Nat × Option Addr × Nat × (Nat→Prop)) (fun (B12,d12,g13,_)=>[(12,.slice B12 i.length d12),(13,(ah g13))])
    (fun (B12,d12,g13,AE,cE,X) w'=>Hp w ab w' [an g13 137 (mc n (.slice AE E.length cE)),own 3 1 (.slice B12 i.length d12) i.length (aA i),an g11 184 (gD n (.slice Ax x.1.length D,.slice Bx x.2.length cx)).toArray,own 184 3 (.slice A9 f.length d9) f.length (flat (gD n) f),an g2 137 (mc n (.slice A R.length ca))] [bj X (.slice AE E.length cE) E,jf Y (f++[(Value.slice Ax x.1.length D,Value.slice Bx x.2.length cx)]) (C++[x]),sl Sb (.slice U best.length V) 1 best.length (aA best)]) ?_ ?_
   ·refine aa (BS _) ?_;refine fJ (H.get 0 rfl) [.int .i64 (n:Int),.slice Ax x.1.length D] aL az hpart ?_;have Z:fl Y w9 (f++[(Value.slice Ax x.1.length D,Value.slice Bx x.2.length cx)]) (C++[x]):=H.ro 0 rfl;refine aj (hc89 _ (H.rlt _ (.head _)) Z.pop.2.1) ?_;rintro _ w10 ⟨B12,d12,v',X,rfl,p,hS1⟩;obtain ⟨AE,cE,hvE⟩:=(p.ro 0 rfl).form;subst hvE;have H3:=H.merge p (fun r hr g hg=>by
     rw[List.mem_singleton] at hr;subst hr;exact (hS1 g hg).imp id fun h=>⟨_,.head _,h⟩)
    clear H p;refine H3.alloc 137 dP rfl ?_;clear H3;intro g13 w11 H;refine H.storeAll 0 rfl az rfl (fun v hv=>da v hv) ?_;clear H;intro w12 H;exact ⟨(B12,d12,g13,AE,cE,X),⟨rfl,rfl,trivial⟩,H⟩
   clear H hc89;rintro ⟨B12,d12,g13,AE,cE,X⟩ u w10 H;refine ak (γ:=Option Addr × Nat) (fun (q,d15)=>[(15,.slice q (x.2++i).length d15)]) (fun (q,d15) w'=>Hp w ab w' [an g13 137 (mc n (.slice AE E.length cE)),own 184 3 (.slice A9 f.length d9) f.length (flat (gD n) f),an g2 137 (mc n (.slice A R.length ca))] [own 3 1 (.slice q (x.2++i).length d15) (x.2++i).length (aA (x.2++i)),bj X (.slice AE E.length cE) E,jf Y (f++[(Value.slice Ax x.1.length D,Value.slice Bx x.2.length cx)]) (C++[x]),sl Sb (.slice U best.length V) 1 best.length (aA best)]) ?_ ?_
   ·refine Hp.dr H dH ?_;clear H;intro g14 w13 H;refine aa (Hc _) ?_;refine H.load 3 rfl iP rfl ?_;have Z:fl Y w13 (f++[(Value.slice Ax x.1.length D,Value.slice Bx x.2.length cx)]) (C++[x]):=H.ro 1 rfl;obtain ⟨_,_,Bx',cx',hax,hslx⟩:=Z.pop;injection hax with hax1 _ hax2;subst hax1;subst hax2;refine Hp.b_ H 0 dH rfl (sl.mono hslx (H.rlt _ (.tail _ (.head _)))) (cV _) (by omega) (by omega) ?_;clear H;intro A15 d15 w14 H;refine H.kO 0 dH rfl (bB (H.get 2 rfl)) (cV _) (by omega) (by omega) ?_;clear H;intro q d15 w15 H;rw[← hT15,← qj] at H;replace H:=H.freeze;exact ⟨(q,d15),⟨by rw[hT15];rfl,trivial⟩,(((H.front 4 rfl).front 4 rfl).front 2 rfl).j6⟩
   clear H;rintro ⟨q,d15⟩ u w11 H;have hM1:∀ (u:World) (L:List cH),Hp w ab u L [own 3 1 (.slice q (x.2++i).length d15) (x.2++i).length (aA (x.2++i)),bj X (.slice AE E.length cE) E,jf Y (f++[(Value.slice Ax x.1.length D,Value.slice Bx x.2.length cx)]) (C++[x]),sl Sb (.slice U best.length V) 1 best.length (aA best)]→Hp w ab u L [jf Y f C,sl Sb (.slice U best.length V) 1 best.length (aA best)]:=fun u L H=>by
    have Z:fl Y u (f++[(Value.slice Ax x.1.length D,Value.slice Bx x.2.length cx)]) (C++[x]):=H.ro 2 rfl;refine (H.px (jf Y f C) (fun g hg=>⟨_,.tail _ (.tail _ (.head _)),hg⟩) Z.pop.1).ey fun r hr=>?_;rcases List.mem_cons.1 hr with rfl | hr
    ·exact .head _
    ·rw[List.mem_singleton] at hr;subst hr;exact .tail _ (.tail _ (.tail _ (.tail _ (.head _))))
   have hM2:∀ (u:World) (L:List cH),Hp w ab u L [own 3 1 (.slice q (x.2++i).length d15) (x.2++i).length (aA (x.2++i)),bj X (.slice AE E.length cE) E,jf Y (f++[(Value.slice Ax x.1.length D,Value.slice Bx x.2.length cx)]) (C++[x]),sl Sb (.slice U best.length V) 1 best.length (aA best)]→Hp w ab u L [jf Y f C,sl (fun g=>(Value.slice q (x.2++i).length d15).ownBlock=some g) (.slice q (x.2++i).length d15) 1 (x.2++i).length (aA (x.2++i))]:=fun u L H=>by
    have Z:fl Y u (f++[(Value.slice Ax x.1.length D,Value.slice Bx x.2.length cx)]) (C++[x]):=H.ro 2 rfl;have h15:=iH (H.ro 0 rfl);have p:=H.px (sl (fun g=>(Value.slice q (x.2++i).length d15).ownBlock=some g) (.slice q (x.2++i).length d15) 1 (x.2++i).length (aA (x.2++i))) (fun g hg=>⟨_,.head _,hg⟩) h15;refine (p.px (jf Y f C) (fun g hg=>⟨_,.tail _ (.tail _ (.tail _ (.head _))),hg⟩) Z.pop.1).ey fun r hr=>?_;rcases List.mem_cons.1 hr with rfl | hr
    ·exact .head _
    ·rw[List.mem_singleton] at hr;subst hr;exact .tail _ (.head _)
   refine ak (γ:=Unit) (fun _=>[(7,.slice U best.length V)]) (fun _ w'=>0<E.length∧Hp w ab w' [an g13 137 (mc n (.slice AE E.length cE)),own 184 3 (.slice A9 f.length d9) f.length (flat (gD n) f),an g2 137 (mc n (.slice A R.length ca))] [own 3 1 (.slice q (x.2++i).length d15) (x.2++i).length (aA (x.2++i)),bj X (.slice AE E.length cE) E,jf Y (f++[(Value.slice Ax x.1.length D,Value.slice Bx x.2.length cx)]) (C++[x]),sl Sb (.slice U best.length V) 1 best.length (aA best)]) ?_ ?_
   ·refine aa (cB _) ?_;refine H.load 0 rfl eA rfl ?_;refine ay underlying135 ?_;refine cg (fun h10=>?_) (fun h10=>?_)
    ·have hE0:E=[]:=List.length_eq_zero_iff.1 (by omega);have hd:=hdone hE0;refine ay underlying75 ?_;refine ay underlying75 ?_;refine au (fun h11=>?_) (fun h11=>?_)
     ·rw[if_pos (by omega)] at hd;exact ⟨(A9,d9,f,C,x.2++i,q,d15,k,Y,_),qd n C x,⟨rfl,rfl,rfl,trivial⟩,⟨⟨by omega,hkm⟩,hd⟩,hM2 _ _ H.forget⟩
     ·rw[if_neg (by omega)] at hd;exact ⟨(A9,d9,f,C,best,U,V,k,Y,Sb),qd n C x,⟨rfl,rfl,rfl,trivial⟩,⟨⟨F,hkm⟩,hd⟩,hM1 _ _ H.forget⟩
    ·exact ⟨(),⟨rfl,trivial⟩,by omega,H⟩
   clear H hdone;rintro ⟨⟩ u w12 ⟨hE0,H⟩;have hbl:=qa E [];have hw2:IntKind.i64.wrap (((x.2++i).length:Int)+((eG E []:Nat):Int))=(((x.2++i).length+eG E []:Nat):Int):=by rw[aH (by omega) (by omega)];omega
   refine aw (fun w'=>Hp w ab w' [an g13 137 (mc n (.slice AE E.length cE)),own 184 3 (.slice A9 f.length d9) f.length (flat (gD n) f),an g2 137 (mc n (.slice A R.length ca))] [own 3 1 (.slice q (x.2++i).length d15) (x.2++i).length (aA (x.2++i)),bj X (.slice AE E.length cE) E,jf Y (f++[(Value.slice Ax x.1.length D,Value.slice Bx x.2.length cx)]) (C++[x]),sl Sb (.slice U best.length V) 1 best.length (aA best)]) ?_ ?_
   ·refine ay underlying75 ?_;refine H.ai 0 rfl aL az ?_;refine aj (N1 n E _ _ (by omega) z (bj.mono (H.ro 1 rfl) (H.rlt _ (.tail _ (.head _))))) ?_;rintro _ w13 ⟨rfl,hk⟩;replace H:=H.same hk;clear hk;refine ay underlying75 ?_;refine au (fun h12=>?_) (fun h12=>?_)
    ·rw[hw2] at h12;exact ⟨(A9,d9,f,C,best,U,V,k,Y,Sb),qd n C x,⟨rfl,rfl,rfl,trivial⟩,⟨⟨F,hkm⟩,hcut (by omega)⟩,hM1 _ _ H.forget⟩
    ·exact ⟨(),trivial,H⟩
   clear H hcut;rintro ⟨⟩ u w13 H;refine aw (fun w'=>k+1≤m∧Hp w ab w' [an g13 137 (mc n (.slice AE E.length cE)),own 184 3 (.slice A9 f.length d9) f.length (flat (gD n) f),an g2 137 (mc n (.slice A R.length ca))] [own 3 1 (.slice q (x.2++i).length d15) (x.2++i).length (aA (x.2++i)),bj X (.slice AE E.length cE) E,jf Y (f++[(Value.slice Ax x.1.length D,Value.slice Bx x.2.length cx)]) (C++[x]),sl Sb (.slice U best.length V) 1 best.length (aA best)]) ?_ ?_
   ·refine cg (fun h13=>?_) (fun h13=>?_)
    ·have h13:(k:Int)=(m:Int):=h13;refine ⟨none,0,[],m,6,by rw[← h13];rfl,?_,((H.bx 3 1).only).out⟩;refine .inr (.inr (.inl ⟨hr',hb',rfl,rfl,rfl,?_⟩));rw[Int.toNat_natCast];have:=hfew.steps;have:=Nat.one_le_two_pow (n:=n);omega
    ·have h13:(k:Int)≠(m:Int):=h13;exact ⟨(),trivial,by omega,H⟩
   clear H;rintro ⟨⟩ u w14 ⟨hk1,H⟩;refine ak (γ:=Unit) (fun _=>[(10,.int .i64 ((k+1:Nat):Int))]) (fun _ w'=>Hp w ab w' [an g13 137 (mc n (.slice AE E.length cE)),own 184 3 (.slice A9 f.length d9) f.length (flat (gD n) f),an g2 137 (mc n (.slice A R.length ca))] [own 3 1 (.slice q (x.2++i).length d15) (x.2++i).length (aA (x.2++i)),bj X (.slice AE E.length cE) E,jf Y (f++[(Value.slice Ax x.1.length D,Value.slice Bx x.2.length cx)]) (C++[x]),sl Sb (.slice U best.length V) 1 best.length (aA best)]) ⟨(),⟨up (by omega),trivial⟩,H⟩ ?_;clear H;rintro ⟨⟩ u w15 H;refine ak (γ:=Int) (fun c=>[(16,.int .i64 c)]) (fun c w'=>pt E c∧Hp w ab w' [an g13 137 (mc n (.slice AE E.length cE)),own 184 3 (.slice A9 f.length d9) f.length (flat (gD n) f),an g2 137 (mc n (.slice A R.length ca))] [own 3 1 (.slice q (x.2++i).length d15) (x.2++i).length (aA (x.2++i)),bj X (.slice AE E.length cE) E,jf Y (f++[(Value.slice Ax x.1.length D,Value.slice Bx x.2.length cx)]) (C++[x]),sl Sb (.slice U best.length V) 1 best.length (aA best)]) ?_ ?_
   ·refine H.ai 0 rfl aL az ?_;refine aj (c124 n n E _ _ (by omega) z hEr (bj.mono (H.ro 1 rfl) (H.rlt _ (.tail _ (.head _))))) ?_;rintro _ w16 ⟨c,rfl,hb,hk⟩;replace H:=H.same hk;clear hk;exact ⟨c,⟨rfl,trivial⟩,hb (yD hEb hE0),H⟩
   clear H;rintro c u w16 ⟨hbusy,H⟩;obtain ⟨J,_,K⟩:=hbr c (BI hbusy);clear hbr;have M:∀ (A17:Option Addr) (d17:Nat) (t:Option Addr) (d14:Nat) (v3 v8:Value) (S3 S8:Nat→Prop) (u:World),Hp w ab u [own 184 3 (.slice A17 (f.length+2) d17) (f.length+2) (flat (gD n) f++(gD n (v3,Value.slice q (x.2++i).length d15)++gD n (v8,Value.slice t ((x.2++i).length+1) d14))),own 3 1 (.slice t ((x.2++i).length+1) d14) ((x.2++i).length+1) (aA (x.2++i)++[.int .i64 c]),an g2 137 (mc n (.slice A R.length ca))]
     [bj S8 v8 (aI E c),bj S3 v3 (bn E c),own 3 1 (.slice q (x.2++i).length d15) (x.2++i).length (aA (x.2++i)),bj X (.slice AE E.length cE) E,jf Y (f++[(Value.slice Ax x.1.length D,Value.slice Bx x.2.length cx)]) (C++[x]),sl Sb (.slice U best.length V) 1 best.length (aA best)]→
     ∃ S' O,Hp w ab u [own 184 3 (.slice A17 (f++[(v3,Value.slice q (x.2++i).length d15),(v8,Value.slice t ((x.2++i).length+1) d14)]).length d17) (f++[(v3,Value.slice q (x.2++i).length d15),(v8,Value.slice t ((x.2++i).length+1) d14)]).length (flat (gD n) (f++[(v3,Value.slice q (x.2++i).length d15),(v8,Value.slice t ((x.2++i).length+1) d14)])),an g2 137 (mc n (.slice A R.length ca))]
      [jf S' (f++[(v3,Value.slice q (x.2++i).length d15),(v8,Value.slice t ((x.2++i).length+1) d14)]) (C++[(bn E c,x.2++i),(aI E c,(x.2++i)++[c])]),sl O (.slice U best.length V) 1 best.length (aA best)]:=by
    intro A17 d17 t d14 v3 v8 S3 S8 u H;have el:(f++[(v3,Value.slice q (x.2++i).length d15),(v8,Value.slice t ((x.2++i).length+1) d14)]).length=f.length+2:=by simp
    have ef:flat (gD n) (f++[(v3,Value.slice q (x.2++i).length d15),(v8,Value.slice t ((x.2++i).length+1) d14)])=flat (gD n) f++(gD n (v3,.slice q (x.2++i).length d15)++gD n (v8,.slice t ((x.2++i).length+1) d14)):=by simp only[flat,List.flatMap_append,List.flatMap_cons,List.flatMap_nil,List.append_nil]
    rw[el,ef];have eT:(x.2++i).length+1=((x.2++i)++[c]).length:=(show ∀ l:List Int,l.length+1=(l++[c]).length from fun l=>by simp) _;have p:=(H.front 1 rfl).freeze;have h14:=iH (p.ro 0 rfl);have h8:ez S8 v8 (aI E c) u:=p.ro 1 rfl;have h3:ez S3 v3 (bn E c) u:=p.ro 2 rfl;have h15:=iH (p.ro 3 rfl);have Z:fl Y u (f++[(Value.slice Ax x.1.length D,Value.slice Bx x.2.length cx)]) (C++[x]):=p.ro 5 rfl;have e0:∀ (a b:Value × Value),f++[a,b]=(f++[a])++[b]:=fun a b=>by simp
    have e0':∀ (a b:a7 × List Int),C++[a,b]=(C++[a])++[b]:=fun a b=>by simp
    have hok:fl (C9 [own 3 1 (.slice t ((x.2++i).length+1) d14) ((x.2++i).length+1) (aA (x.2++i)++[Value.int .i64 c]),bj S8 v8 (aI E c),bj S3 v3 (bn E c),own 3 1 (.slice q (x.2++i).length d15) (x.2++i).length (aA (x.2++i)),bj X (.slice AE E.length cE) E,jf Y (f++[(Value.slice Ax x.1.length D,Value.slice Bx x.2.length cx)]) (C++[x]),sl Sb (.slice U best.length V) 1 best.length (aA best)]) u (f++[(v3,Value.slice q (x.2++i).length d15),(v8,Value.slice t ((x.2++i).length+1) d14)]) (C++[(bn E c,x.2++i),(aI E c,(x.2++i)++[c])]):=by
     rw[e0,e0'];refine fl.snoc (a:=(v8,_)) (x:=(aI E c,_)) (fl.snoc (a:=(v3,_)) (x:=(bn E c,_)) (Z.pop.1.mono fun g hg=>⟨_,.tail _ (.tail _ (.tail _ (.tail _ (.tail _ (.head _))))),hg⟩) (bj.mono h3 fun g hg=>⟨_,.tail _ (.tail _ (.head _)),hg⟩) rfl (sl.mono h15 fun g hg=>⟨_,.tail _ (.tail _ (.tail _ (.head _))),hg⟩)) (bj.mono h8 fun g hg=>⟨_,.tail _ (.head _),hg⟩) (B:=t) (c:=d14) (by rw[← eT]) ?_;rw[← eT,ir];exact sl.mono h14 fun g hg=>⟨_,.head _,hg⟩
    have H4:=p.px (jf (C9 [own 3 1 (.slice t ((x.2++i).length+1) d14) ((x.2++i).length+1) (aA (x.2++i)++[Value.int .i64 c]),bj S8 v8 (aI E c),bj S3 v3 (bn E c),own 3 1 (.slice q (x.2++i).length d15) (x.2++i).length (aA (x.2++i)),bj X (.slice AE E.length cE) E,jf Y (f++[(Value.slice Ax x.1.length D,Value.slice Bx x.2.length cx)]) (C++[x]),sl Sb (.slice U best.length V) 1 best.length (aA best)]) (f++[(v3,Value.slice q (x.2++i).length d15),(v8,Value.slice t ((x.2++i).length+1) d14)]) (C++[(bn E c,x.2++i),(aI E c,(x.2++i)++[c])])) (fun g hg=>hg) hok;refine ⟨(C9 [own 3 1 (.slice t ((x.2++i).length+1) d14) ((x.2++i).length+1) (aA (x.2++i)++[Value.int .i64 c]),bj S8 v8 (aI E c),bj S3 v3 (bn E c),own 3 1 (.slice q (x.2++i).length d15) (x.2++i).length (aA (x.2++i)),bj X (.slice AE E.length cE) E,jf Y (f++[(Value.slice Ax x.1.length D,Value.slice Bx x.2.length cx)]) (C++[x]),sl Sb (.slice U best.length V) 1 best.length (aA best)]),Sb,H4.ey fun r hr=>?_⟩;rcases List.mem_cons.1 hr with rfl | hr
    ·exact .head _
    ·rw[List.mem_singleton] at hr;subst hr;exact .tail _ (.tail _ (.tail _ (.tail _ (.tail _ (.tail _ (.tail _ (.head _)))))))
   have o:∀ (A3:Option Addr) (l3 c3:Nat) (A8:Option Addr) (l8 c8:Nat) (t:Option Addr) (l14 d14:Nat),∀ v ∈ (nO n A3 l3 c3 (.slice q (x.2++i).length d15) (.slice A8 l8 c8,.slice t l14 d14)).toList,v.oneCell'=true:=fun A3 l3 c3 A8 l8 c8 t l14 d14 v hv=>by
    simp[nO,gD] at hv;rcases hv with rfl | rfl | rfl | rfl | rfl | rfl <;> rfl
   have hdl:=EY E c;have hwlE:=rY E c;refine ix (fun u=>Hp w ab u [an g13 137 (mc n (.slice AE E.length cE))] [own 3 1 (.slice q (x.2++i).length d15) (x.2++i).length (aA (x.2++i)),bj X (.slice AE E.length cE) E,jf Y (f++[(Value.slice Ax x.1.length D,Value.slice Bx x.2.length cx)]) (C++[x]),sl Sb (.slice U best.length V) 1 best.length (aA best)])
    [([3,8,9,11,13,14,16,17],[0,1,2,4,6,7,10,12,3,5,8,9,11,13,14,15,16,17,18]),([3,8,9,13,11,14,16,17],[0,1,2,4,6,7,10,12,3,5,8,9,13,11,14,15,16,17,18]),([3,8,13,9,11,14,16,17],[0,1,2,4,6,7,10,12,3,5,8,13,9,11,14,15,16,17,18]),([3,9,8,11,13,14,16,17],[0,1,2,4,6,7,10,12,3,5,9,8,11,13,14,15,16,17,18]),([3,9,8,13,11,14,16,17],[0,1,2,4,6,7,10,12,3,5,9,8,13,11,14,15,16,17,18]),([3,9,13,8,11,14,16,17],[0,1,2,4,6,7,10,12,3,5,9,13,8,11,14,15,16,17,18]),([3,13,8,9,11,14,16,17],[0,1,2,4,6,7,10,12,3,5,13,8,9,11,14,15,16,17,18]),([3,13,9,8,11,14,16,17],[0,1,2,4,6,7,10,12,3,5,13,9,8,11,14,15,16,17,18]),([9,3,8,11,13,14,16,17],[0,1,2,4,6,7,10,12,9,3,5,8,11,13,14,15,16,17,18]),([9,3,8,13,11,14,16,17],[0,1,2,4,6,7,10,12,9,3,5,8,13,11,14,15,16,17,18]),([9,3,13,8,11,14,16,17],[0,1,2,4,6,7,10,12,9,3,5,13,8,11,14,15,16,17,18]),([9,13,3,8,11,14,16,17],[0,1,2,4,6,7,10,12,9,13,3,5,8,11,14,15,16,17,18]),([13,3,8,9,11,14,16,17],[0,1,2,4,6,7,10,12,13,3,5,8,9,11,14,15,16,17,18]),([13,3,9,8,11,14,16,17],[0,1,2,4,6,7,10,12,13,3,5,9,8,11,14,15,16,17,18]),([13,9,3,8,11,14,16,17],[0,1,2,4,6,7,10,12,13,9,3,5,8,11,14,15,16,17,18])] eO (by kernel_rfl) ((H.front 0 rfl).only.same (aS.drew _)) ?_
   replace H:=(H.same (aS.drew _));intro y hy;simp only[List.mem_cons,List.not_mem_nil,or_false] at hy;rcases hy with rfl | rfl | rfl | rfl | rfl | rfl | rfl | rfl | rfl | rfl | rfl | rfl | rfl | rfl | rfl
   ·refine quiet _ (fun w H=>H.ai 0 rfl aL az ae) ?_;refine quiet _ (fun w H=>H.ai 0 rfl aL az ae) ?_;refine aj (pw n E c _ X _ (by omega) z (H.ro 1 rfl) (H.rlt _ (.tail _ (.head _)))) ?_;rintro _ w39 ⟨v3,rfl,I⟩;obtain ⟨S3,p,_⟩:=H.gm (.tail _ (.head _)) I;clear H;have H:=p;clear p;obtain ⟨A3,c3,Q⟩:=(H.ro 0 rfl).form;subst Q;refine ⟨.inl (H.front 0 rfl).only.aq,?_⟩;refine quiet _ (fun w H=>bJ ae) ?_;refine aj (oT n E c _ X _ (by omega) z (H.ro 2 rfl) (H.rlt _ (.tail _ (.tail _ (.head _))))) ?_;rintro _ w41 ⟨v8,rfl,I⟩;obtain ⟨S8,p,_⟩:=H.gm (.tail _ (.tail _ (.head _))) I;clear H;have H:=p;clear p;obtain ⟨A8,c8,T⟩:=(H.ro 0 rfl).form;subst T;refine ⟨.inl (H.front 0 rfl).only.aq.aq,?_⟩;refine Hp.dr H dH ?_;clear H;intro g9 w42 H;refine ⟨.inl (H.front 1 rfl).only.aq.aq,?_⟩;refine Hp.b_ H 0 dH rfl (bB (H.ro 2 rfl)) (cV _) (by omega) (by omega) ?_;clear H;intro A11 d11 w43 H;refine ⟨.inl (H.front 1 rfl).only.aq.aq,?_⟩;refine H.aX dH rfl ?_;clear H;intro gc w44 H;refine ⟨.inl (H.front 2 rfl).only.aq.aq,?_⟩;refine H.aG 1 0 dH rfl rfl rfl (fun u hu=>by rw[List.mem_singleton.1 hu];rfl) (by omega) (by omega) ?_;clear H;intro t d14 w45 H;refine ⟨.inl (H.front 2 rfl).only.aq.aq,?_⟩;refine quiet _ (fun w H=>bJ ae) ?_;refine H.bf hH (cs:=nO n A3 (bn E c).length c3 (.slice q (x.2++i).length d15) (.slice A8 (aI E c).length c8,.slice t ((x.2++i).length+1) d14)) (by decide) (by decide) (by kernel_rfl) ?_;clear H;intro g16 w47 H;refine ⟨.inl (H.front 3 rfl).only.aq.aq,?_⟩;refine H.aG 4 0 hH rfl rfl rfl (o _ _ _ _ _ _ _ _ _) (by omega) (by omega) ?_;clear H;intro A17 d17 w48 H;refine ⟨.inl (H.front 3 rfl).only.aq.aq,?_⟩;obtain ⟨S',O,H'⟩:=M _ _ _ _ _ _ _ _ _ ((((H.front 5 rfl).front 3 rfl).front 5 rfl).j6);exact ⟨(_,_,_,_,best,U,V,k+1,S',O),K,⟨by simp;rfl,rfl,rfl,trivial⟩,⟨⟨F,by omega⟩,J⟩,H'⟩
   ·refine quiet _ (fun w H=>H.ai 0 rfl aL az ae) ?_;refine quiet _ (fun w H=>H.ai 0 rfl aL az ae) ?_;refine aj (pw n E c _ X _ (by omega) z (H.ro 1 rfl) (H.rlt _ (.tail _ (.head _)))) ?_;rintro _ w39 ⟨v3,rfl,I⟩;obtain ⟨S3,p,_⟩:=H.gm (.tail _ (.head _)) I;clear H;have H:=p;clear p;obtain ⟨A3,c3,Q⟩:=(H.ro 0 rfl).form;subst Q;refine ⟨.inl (H.front 0 rfl).only.aq,?_⟩;refine quiet _ (fun w H=>bJ ae) ?_;refine aj (oT n E c _ X _ (by omega) z (H.ro 2 rfl) (H.rlt _ (.tail _ (.tail _ (.head _))))) ?_;rintro _ w41 ⟨v8,rfl,I⟩;obtain ⟨S8,p,_⟩:=H.gm (.tail _ (.tail _ (.head _))) I;clear H;have H:=p;clear p;obtain ⟨A8,c8,T⟩:=(H.ro 0 rfl).form;subst T;refine ⟨.inl (H.front 0 rfl).only.aq.aq,?_⟩;refine Hp.dr H dH ?_;clear H;intro g9 w42 H;refine ⟨.inl (H.front 1 rfl).only.aq.aq,?_⟩;refine H.aX dH rfl ?_;clear H;intro gc w43 H;refine ⟨.inl (H.front 2 rfl).only.aq.aq,?_⟩;refine Hp.b_ H 1 dH rfl (bB (H.ro 2 rfl)) (cV _) (by omega) (by omega) ?_;clear H;intro A11 d11 w44 H;refine ⟨.inl (H.front 2 rfl).only.aq.aq,?_⟩;refine H.aG 1 0 dH rfl rfl rfl (fun u hu=>by rw[List.mem_singleton.1 hu];rfl) (by omega) (by omega) ?_;clear H;intro t d14 w45 H;refine ⟨.inl (H.front 2 rfl).only.aq.aq,?_⟩;refine quiet _ (fun w H=>bJ ae) ?_;refine H.bf hH (cs:=nO n A3 (bn E c).length c3 (.slice q (x.2++i).length d15) (.slice A8 (aI E c).length c8,.slice t ((x.2++i).length+1) d14)) (by decide) (by decide) (by kernel_rfl) ?_;clear H;intro g16 w47 H;refine ⟨.inl (H.front 3 rfl).only.aq.aq,?_⟩;refine H.aG 4 0 hH rfl rfl rfl (o _ _ _ _ _ _ _ _ _) (by omega) (by omega) ?_;clear H;intro A17 d17 w48 H;refine ⟨.inl (H.front 3 rfl).only.aq.aq,?_⟩;obtain ⟨S',O,H'⟩:=M _ _ _ _ _ _ _ _ _ ((((H.front 5 rfl).front 3 rfl).front 5 rfl).j6);exact ⟨(_,_,_,_,best,U,V,k+1,S',O),K,⟨by simp;rfl,rfl,rfl,trivial⟩,⟨⟨F,by omega⟩,J⟩,H'⟩
   ·refine quiet _ (fun w H=>H.ai 0 rfl aL az ae) ?_;refine quiet _ (fun w H=>H.ai 0 rfl aL az ae) ?_;refine aj (pw n E c _ X _ (by omega) z (H.ro 1 rfl) (H.rlt _ (.tail _ (.head _)))) ?_;rintro _ w39 ⟨v3,rfl,I⟩;obtain ⟨S3,p,_⟩:=H.gm (.tail _ (.head _)) I;clear H;have H:=p;clear p;obtain ⟨A3,c3,Q⟩:=(H.ro 0 rfl).form;subst Q;refine ⟨.inl (H.front 0 rfl).only.aq,?_⟩;refine quiet _ (fun w H=>bJ ae) ?_;refine aj (oT n E c _ X _ (by omega) z (H.ro 2 rfl) (H.rlt _ (.tail _ (.tail _ (.head _))))) ?_;rintro _ w41 ⟨v8,rfl,I⟩;obtain ⟨S8,p,_⟩:=H.gm (.tail _ (.tail _ (.head _))) I;clear H;have H:=p;clear p;obtain ⟨A8,c8,T⟩:=(H.ro 0 rfl).form;subst T;refine ⟨.inl (H.front 0 rfl).only.aq.aq,?_⟩;refine H.aX dH rfl ?_;clear H;intro gc w42 H;refine ⟨.inl (H.front 1 rfl).only.aq.aq,?_⟩;refine Hp.dr H dH ?_;clear H;intro g9 w43 H;refine ⟨.inl (H.front 2 rfl).only.aq.aq,?_⟩;refine Hp.b_ H 0 dH rfl (bB (H.ro 2 rfl)) (cV _) (by omega) (by omega) ?_;clear H;intro A11 d11 w44 H;refine ⟨.inl (H.front 2 rfl).only.aq.aq,?_⟩;refine H.aG 0 1 dH rfl rfl rfl (fun u hu=>by rw[List.mem_singleton.1 hu];rfl) (by omega) (by omega) ?_;clear H;intro t d14 w45 H;refine ⟨.inl (H.front 2 rfl).only.aq.aq,?_⟩;refine quiet _ (fun w H=>bJ ae) ?_;refine H.bf hH (cs:=nO n A3 (bn E c).length c3 (.slice q (x.2++i).length d15) (.slice A8 (aI E c).length c8,.slice t ((x.2++i).length+1) d14)) (by decide) (by decide) (by kernel_rfl) ?_;clear H;intro g16 w47 H;refine ⟨.inl (H.front 3 rfl).only.aq.aq,?_⟩;refine H.aG 4 0 hH rfl rfl rfl (o _ _ _ _ _ _ _ _ _) (by omega) (by omega) ?_;clear H;intro A17 d17 w48 H;refine ⟨.inl (H.front 3 rfl).only.aq.aq,?_⟩;obtain ⟨S',O,H'⟩:=M _ _ _ _ _ _ _ _ _ ((((H.front 5 rfl).front 2 rfl).front 5 rfl).j6);exact ⟨(_,_,_,_,best,U,V,k+1,S',O),K,⟨by simp;rfl,rfl,rfl,trivial⟩,⟨⟨F,by omega⟩,J⟩,H'⟩
   ·refine quiet _ (fun w H=>H.ai 0 rfl aL az ae) ?_;refine quiet _ (fun w H=>H.ai 0 rfl aL az ae) ?_;refine aj (pw n E c _ X _ (by omega) z (H.ro 1 rfl) (H.rlt _ (.tail _ (.head _)))) ?_;rintro _ w39 ⟨v3,rfl,I⟩;obtain ⟨S3,p,_⟩:=H.gm (.tail _ (.head _)) I;clear H;have H:=p;clear p;obtain ⟨A3,c3,Q⟩:=(H.ro 0 rfl).form;subst Q;refine ⟨.inl (H.front 0 rfl).only.aq,?_⟩;refine quiet _ (fun w H=>bJ ae) ?_;refine Hp.dr H dH ?_;clear H;intro g9 w41 H;refine ⟨.inl (H.front 1 rfl).only.aq,?_⟩;refine aj (oT n E c _ X _ (by omega) z (H.ro 2 rfl) (H.rlt _ (.tail _ (.tail _ (.head _))))) ?_;rintro _ w42 ⟨v8,rfl,I⟩;obtain ⟨S8,p,_⟩:=H.gm (.tail _ (.tail _ (.head _))) I;clear H;have H:=p;clear p;obtain ⟨A8,c8,T⟩:=(H.ro 0 rfl).form;subst T;refine ⟨.inl (H.front 1 rfl).only.aq.aq,?_⟩;refine Hp.b_ H 0 dH rfl (bB (H.ro 2 rfl)) (cV _) (by omega) (by omega) ?_;clear H;intro A11 d11 w43 H;refine ⟨.inl (H.front 1 rfl).only.aq.aq,?_⟩;refine H.aX dH rfl ?_;clear H;intro gc w44 H;refine ⟨.inl (H.front 2 rfl).only.aq.aq,?_⟩;refine H.aG 1 0 dH rfl rfl rfl (fun u hu=>by rw[List.mem_singleton.1 hu];rfl) (by omega) (by omega) ?_;clear H;intro t d14 w45 H;refine ⟨.inl (H.front 2 rfl).only.aq.aq,?_⟩;refine quiet _ (fun w H=>bJ ae) ?_;refine H.bf hH (cs:=nO n A3 (bn E c).length c3 (.slice q (x.2++i).length d15) (.slice A8 (aI E c).length c8,.slice t ((x.2++i).length+1) d14)) (by decide) (by decide) (by kernel_rfl) ?_;clear H;intro g16 w47 H;refine ⟨.inl (H.front 3 rfl).only.aq.aq,?_⟩;refine H.aG 4 0 hH rfl rfl rfl (o _ _ _ _ _ _ _ _ _) (by omega) (by omega) ?_;clear H;intro A17 d17 w48 H;refine ⟨.inl (H.front 3 rfl).only.aq.aq,?_⟩;obtain ⟨S',O,H'⟩:=M _ _ _ _ _ _ _ _ _ ((((H.front 5 rfl).front 3 rfl).front 5 rfl).j6);exact ⟨(_,_,_,_,best,U,V,k+1,S',O),K,⟨by simp;rfl,rfl,rfl,trivial⟩,⟨⟨F,by omega⟩,J⟩,H'⟩
   ·refine quiet _ (fun w H=>H.ai 0 rfl aL az ae) ?_;refine quiet _ (fun w H=>H.ai 0 rfl aL az ae) ?_;refine aj (pw n E c _ X _ (by omega) z (H.ro 1 rfl) (H.rlt _ (.tail _ (.head _)))) ?_;rintro _ w39 ⟨v3,rfl,I⟩;obtain ⟨S3,p,_⟩:=H.gm (.tail _ (.head _)) I;clear H;have H:=p;clear p;obtain ⟨A3,c3,Q⟩:=(H.ro 0 rfl).form;subst Q;refine ⟨.inl (H.front 0 rfl).only.aq,?_⟩;refine quiet _ (fun w H=>bJ ae) ?_;refine Hp.dr H dH ?_;clear H;intro g9 w41 H;refine ⟨.inl (H.front 1 rfl).only.aq,?_⟩;refine aj (oT n E c _ X _ (by omega) z (H.ro 2 rfl) (H.rlt _ (.tail _ (.tail _ (.head _))))) ?_;rintro _ w42 ⟨v8,rfl,I⟩;obtain ⟨S8,p,_⟩:=H.gm (.tail _ (.tail _ (.head _))) I;clear H;have H:=p;clear p;obtain ⟨A8,c8,T⟩:=(H.ro 0 rfl).form;subst T;refine ⟨.inl (H.front 1 rfl).only.aq.aq,?_⟩;refine H.aX dH rfl ?_;clear H;intro gc w43 H;refine ⟨.inl (H.front 2 rfl).only.aq.aq,?_⟩;refine Hp.b_ H 1 dH rfl (bB (H.ro 2 rfl)) (cV _) (by omega) (by omega) ?_;clear H;intro A11 d11 w44 H;refine ⟨.inl (H.front 2 rfl).only.aq.aq,?_⟩;refine H.aG 1 0 dH rfl rfl rfl (fun u hu=>by rw[List.mem_singleton.1 hu];rfl) (by omega) (by omega) ?_;clear H;intro t d14 w45 H;refine ⟨.inl (H.front 2 rfl).only.aq.aq,?_⟩;refine quiet _ (fun w H=>bJ ae) ?_;refine H.bf hH (cs:=nO n A3 (bn E c).length c3 (.slice q (x.2++i).length d15) (.slice A8 (aI E c).length c8,.slice t ((x.2++i).length+1) d14)) (by decide) (by decide) (by kernel_rfl) ?_;clear H;intro g16 w47 H;refine ⟨.inl (H.front 3 rfl).only.aq.aq,?_⟩;refine H.aG 4 0 hH rfl rfl rfl (o _ _ _ _ _ _ _ _ _) (by omega) (by omega) ?_;clear H;intro A17 d17 w48 H;refine ⟨.inl (H.front 3 rfl).only.aq.aq,?_⟩;obtain ⟨S',O,H'⟩:=M _ _ _ _ _ _ _ _ _ ((((H.front 5 rfl).front 3 rfl).front 5 rfl).j6);exact ⟨(_,_,_,_,best,U,V,k+1,S',O),K,⟨by simp;rfl,rfl,rfl,trivial⟩,⟨⟨F,by omega⟩,J⟩,H'⟩
   ·refine quiet _ (fun w H=>H.ai 0 rfl aL az ae) ?_;refine quiet _ (fun w H=>H.ai 0 rfl aL az ae) ?_;refine aj (pw n E c _ X _ (by omega) z (H.ro 1 rfl) (H.rlt _ (.tail _ (.head _)))) ?_;rintro _ w39 ⟨v3,rfl,I⟩;obtain ⟨S3,p,_⟩:=H.gm (.tail _ (.head _)) I;clear H;have H:=p;clear p;obtain ⟨A3,c3,Q⟩:=(H.ro 0 rfl).form;subst Q;refine ⟨.inl (H.front 0 rfl).only.aq,?_⟩;refine quiet _ (fun w H=>bJ ae) ?_;refine Hp.dr H dH ?_;clear H;intro g9 w41 H;refine ⟨.inl (H.front 1 rfl).only.aq,?_⟩;refine H.aX dH rfl ?_;clear H;intro gc w42 H;refine ⟨.inl (H.front 2 rfl).only.aq,?_⟩;refine aj (oT n E c _ X _ (by omega) z (H.ro 2 rfl) (H.rlt _ (.tail _ (.tail _ (.head _))))) ?_;rintro _ w43 ⟨v8,rfl,I⟩;obtain ⟨S8,p,_⟩:=H.gm (.tail _ (.tail _ (.head _))) I;clear H;have H:=p;clear p;obtain ⟨A8,c8,T⟩:=(H.ro 0 rfl).form;subst T;refine ⟨.inl (H.front 2 rfl).only.aq.aq,?_⟩;refine Hp.b_ H 1 dH rfl (bB (H.ro 2 rfl)) (cV _) (by omega) (by omega) ?_;clear H;intro A11 d11 w44 H;refine ⟨.inl (H.front 2 rfl).only.aq.aq,?_⟩;refine H.aG 1 0 dH rfl rfl rfl (fun u hu=>by rw[List.mem_singleton.1 hu];rfl) (by omega) (by omega) ?_;clear H;intro t d14 w45 H;refine ⟨.inl (H.front 2 rfl).only.aq.aq,?_⟩;refine quiet _ (fun w H=>bJ ae) ?_;refine H.bf hH (cs:=nO n A3 (bn E c).length c3 (.slice q (x.2++i).length d15) (.slice A8 (aI E c).length c8,.slice t ((x.2++i).length+1) d14)) (by decide) (by decide) (by kernel_rfl) ?_;clear H;intro g16 w47 H;refine ⟨.inl (H.front 3 rfl).only.aq.aq,?_⟩;refine H.aG 4 0 hH rfl rfl rfl (o _ _ _ _ _ _ _ _ _) (by omega) (by omega) ?_;clear H;intro A17 d17 w48 H;refine ⟨.inl (H.front 3 rfl).only.aq.aq,?_⟩;obtain ⟨S',O,H'⟩:=M _ _ _ _ _ _ _ _ _ ((((H.front 5 rfl).front 3 rfl).front 5 rfl).j6);exact ⟨(_,_,_,_,best,U,V,k+1,S',O),K,⟨by simp;rfl,rfl,rfl,trivial⟩,⟨⟨F,by omega⟩,J⟩,H'⟩
   ·refine quiet _ (fun w H=>H.ai 0 rfl aL az ae) ?_;refine quiet _ (fun w H=>H.ai 0 rfl aL az ae) ?_;refine aj (pw n E c _ X _ (by omega) z (H.ro 1 rfl) (H.rlt _ (.tail _ (.head _)))) ?_;rintro _ w39 ⟨v3,rfl,I⟩;obtain ⟨S3,p,_⟩:=H.gm (.tail _ (.head _)) I;clear H;have H:=p;clear p;obtain ⟨A3,c3,Q⟩:=(H.ro 0 rfl).form;subst Q;refine ⟨.inl (H.front 0 rfl).only.aq,?_⟩;refine quiet _ (fun w H=>bJ ae) ?_;refine H.aX dH rfl ?_;clear H;intro gc w41 H;refine ⟨.inl (H.front 1 rfl).only.aq,?_⟩;refine aj (oT n E c _ X _ (by omega) z (H.ro 2 rfl) (H.rlt _ (.tail _ (.tail _ (.head _))))) ?_;rintro _ w42 ⟨v8,rfl,I⟩;obtain ⟨S8,p,_⟩:=H.gm (.tail _ (.tail _ (.head _))) I;clear H;have H:=p;clear p;obtain ⟨A8,c8,T⟩:=(H.ro 0 rfl).form;subst T;refine ⟨.inl (H.front 1 rfl).only.aq.aq,?_⟩;refine Hp.dr H dH ?_;clear H;intro g9 w43 H;refine ⟨.inl (H.front 2 rfl).only.aq.aq,?_⟩;refine Hp.b_ H 0 dH rfl (bB (H.ro 2 rfl)) (cV _) (by omega) (by omega) ?_;clear H;intro A11 d11 w44 H;refine ⟨.inl (H.front 2 rfl).only.aq.aq,?_⟩;refine H.aG 0 1 dH rfl rfl rfl (fun u hu=>by rw[List.mem_singleton.1 hu];rfl) (by omega) (by omega) ?_;clear H;intro t d14 w45 H;refine ⟨.inl (H.front 2 rfl).only.aq.aq,?_⟩;refine quiet _ (fun w H=>bJ ae) ?_;refine H.bf hH (cs:=nO n A3 (bn E c).length c3 (.slice q (x.2++i).length d15) (.slice A8 (aI E c).length c8,.slice t ((x.2++i).length+1) d14)) (by decide) (by decide) (by kernel_rfl) ?_;clear H;intro g16 w47 H;refine ⟨.inl (H.front 3 rfl).only.aq.aq,?_⟩;refine H.aG 4 0 hH rfl rfl rfl (o _ _ _ _ _ _ _ _ _) (by omega) (by omega) ?_;clear H;intro A17 d17 w48 H;refine ⟨.inl (H.front 3 rfl).only.aq.aq,?_⟩;obtain ⟨S',O,H'⟩:=M _ _ _ _ _ _ _ _ _ ((((H.front 5 rfl).front 2 rfl).front 5 rfl).j6);exact ⟨(_,_,_,_,best,U,V,k+1,S',O),K,⟨by simp;rfl,rfl,rfl,trivial⟩,⟨⟨F,by omega⟩,J⟩,H'⟩
   ·refine quiet _ (fun w H=>H.ai 0 rfl aL az ae) ?_;refine quiet _ (fun w H=>H.ai 0 rfl aL az ae) ?_;refine aj (pw n E c _ X _ (by omega) z (H.ro 1 rfl) (H.rlt _ (.tail _ (.head _)))) ?_;rintro _ w39 ⟨v3,rfl,I⟩;obtain ⟨S3,p,_⟩:=H.gm (.tail _ (.head _)) I;clear H;have H:=p;clear p;obtain ⟨A3,c3,Q⟩:=(H.ro 0 rfl).form;subst Q;refine ⟨.inl (H.front 0 rfl).only.aq,?_⟩;refine quiet _ (fun w H=>bJ ae) ?_;refine H.aX dH rfl ?_;clear H;intro gc w41 H;refine ⟨.inl (H.front 1 rfl).only.aq,?_⟩;refine Hp.dr H dH ?_;clear H;intro g9 w42 H;refine ⟨.inl (H.front 2 rfl).only.aq,?_⟩;refine aj (oT n E c _ X _ (by omega) z (H.ro 2 rfl) (H.rlt _ (.tail _ (.tail _ (.head _))))) ?_;rintro _ w43 ⟨v8,rfl,I⟩;obtain ⟨S8,p,_⟩:=H.gm (.tail _ (.tail _ (.head _))) I;clear H;have H:=p;clear p;obtain ⟨A8,c8,T⟩:=(H.ro 0 rfl).form;subst T;refine ⟨.inl (H.front 2 rfl).only.aq.aq,?_⟩;refine Hp.b_ H 0 dH rfl (bB (H.ro 2 rfl)) (cV _) (by omega) (by omega) ?_;clear H;intro A11 d11 w44 H;refine ⟨.inl (H.front 2 rfl).only.aq.aq,?_⟩;refine H.aG 0 1 dH rfl rfl rfl (fun u hu=>by rw[List.mem_singleton.1 hu];rfl) (by omega) (by omega) ?_;clear H;intro t d14 w45 H;refine ⟨.inl (H.front 2 rfl).only.aq.aq,?_⟩;refine quiet _ (fun w H=>bJ ae) ?_;refine H.bf hH (cs:=nO n A3 (bn E c).length c3 (.slice q (x.2++i).length d15) (.slice A8 (aI E c).length c8,.slice t ((x.2++i).length+1) d14)) (by decide) (by decide) (by kernel_rfl) ?_;clear H;intro g16 w47 H;refine ⟨.inl (H.front 3 rfl).only.aq.aq,?_⟩;refine H.aG 4 0 hH rfl rfl rfl (o _ _ _ _ _ _ _ _ _) (by omega) (by omega) ?_;clear H;intro A17 d17 w48 H;refine ⟨.inl (H.front 3 rfl).only.aq.aq,?_⟩;obtain ⟨S',O,H'⟩:=M _ _ _ _ _ _ _ _ _ ((((H.front 5 rfl).front 2 rfl).front 5 rfl).j6);exact ⟨(_,_,_,_,best,U,V,k+1,S',O),K,⟨by simp;rfl,rfl,rfl,trivial⟩,⟨⟨F,by omega⟩,J⟩,H'⟩
   ·refine quiet _ (fun w H=>H.ai 0 rfl aL az ae) ?_;refine quiet _ (fun w H=>H.ai 0 rfl aL az ae) ?_;refine Hp.dr H dH ?_;clear H;intro g9 w39 H;refine ⟨.inl (H.front 1 rfl).only,?_⟩;refine aj (pw n E c _ X _ (by omega) z (H.ro 1 rfl) (H.rlt _ (.tail _ (.head _)))) ?_;rintro _ w40 ⟨v3,rfl,I⟩;obtain ⟨S3,p,_⟩:=H.gm (.tail _ (.head _)) I;clear H;have H:=p;clear p;obtain ⟨A3,c3,Q⟩:=(H.ro 0 rfl).form;subst Q;refine ⟨.inl (H.front 1 rfl).only.aq,?_⟩;refine quiet _ (fun w H=>bJ ae) ?_;refine aj (oT n E c _ X _ (by omega) z (H.ro 2 rfl) (H.rlt _ (.tail _ (.tail _ (.head _))))) ?_;rintro _ w42 ⟨v8,rfl,I⟩;obtain ⟨S8,p,_⟩:=H.gm (.tail _ (.tail _ (.head _))) I;clear H;have H:=p;clear p;obtain ⟨A8,c8,T⟩:=(H.ro 0 rfl).form;subst T;refine ⟨.inl (H.front 1 rfl).only.aq.aq,?_⟩;refine Hp.b_ H 0 dH rfl (bB (H.ro 2 rfl)) (cV _) (by omega) (by omega) ?_;clear H;intro A11 d11 w43 H;refine ⟨.inl (H.front 1 rfl).only.aq.aq,?_⟩;refine H.aX dH rfl ?_;clear H;intro gc w44 H;refine ⟨.inl (H.front 2 rfl).only.aq.aq,?_⟩;refine H.aG 1 0 dH rfl rfl rfl (fun u hu=>by rw[List.mem_singleton.1 hu];rfl) (by omega) (by omega) ?_;clear H;intro t d14 w45 H;refine ⟨.inl (H.front 2 rfl).only.aq.aq,?_⟩;refine quiet _ (fun w H=>bJ ae) ?_;refine H.bf hH (cs:=nO n A3 (bn E c).length c3 (.slice q (x.2++i).length d15) (.slice A8 (aI E c).length c8,.slice t ((x.2++i).length+1) d14)) (by decide) (by decide) (by kernel_rfl) ?_;clear H;intro g16 w47 H;refine ⟨.inl (H.front 3 rfl).only.aq.aq,?_⟩;refine H.aG 4 0 hH rfl rfl rfl (o _ _ _ _ _ _ _ _ _) (by omega) (by omega) ?_;clear H;intro A17 d17 w48 H;refine ⟨.inl (H.front 3 rfl).only.aq.aq,?_⟩;obtain ⟨S',O,H'⟩:=M _ _ _ _ _ _ _ _ _ ((((H.front 5 rfl).front 3 rfl).front 5 rfl).j6);exact ⟨(_,_,_,_,best,U,V,k+1,S',O),K,⟨by simp;rfl,rfl,rfl,trivial⟩,⟨⟨F,by omega⟩,J⟩,H'⟩
   ·refine quiet _ (fun w H=>H.ai 0 rfl aL az ae) ?_;refine quiet _ (fun w H=>H.ai 0 rfl aL az ae) ?_;refine Hp.dr H dH ?_;clear H;intro g9 w39 H;refine ⟨.inl (H.front 1 rfl).only,?_⟩;refine aj (pw n E c _ X _ (by omega) z (H.ro 1 rfl) (H.rlt _ (.tail _ (.head _)))) ?_;rintro _ w40 ⟨v3,rfl,I⟩;obtain ⟨S3,p,_⟩:=H.gm (.tail _ (.head _)) I;clear H;have H:=p;clear p;obtain ⟨A3,c3,Q⟩:=(H.ro 0 rfl).form;subst Q;refine ⟨.inl (H.front 1 rfl).only.aq,?_⟩;refine quiet _ (fun w H=>bJ ae) ?_;refine aj (oT n E c _ X _ (by omega) z (H.ro 2 rfl) (H.rlt _ (.tail _ (.tail _ (.head _))))) ?_;rintro _ w42 ⟨v8,rfl,I⟩;obtain ⟨S8,p,_⟩:=H.gm (.tail _ (.tail _ (.head _))) I;clear H;have H:=p;clear p;obtain ⟨A8,c8,T⟩:=(H.ro 0 rfl).form;subst T;refine ⟨.inl (H.front 1 rfl).only.aq.aq,?_⟩;refine H.aX dH rfl ?_;clear H;intro gc w43 H;refine ⟨.inl (H.front 2 rfl).only.aq.aq,?_⟩;refine Hp.b_ H 1 dH rfl (bB (H.ro 2 rfl)) (cV _) (by omega) (by omega) ?_;clear H;intro A11 d11 w44 H;refine ⟨.inl (H.front 2 rfl).only.aq.aq,?_⟩;refine H.aG 1 0 dH rfl rfl rfl (fun u hu=>by rw[List.mem_singleton.1 hu];rfl) (by omega) (by omega) ?_;clear H;intro t d14 w45 H;refine ⟨.inl (H.front 2 rfl).only.aq.aq,?_⟩;refine quiet _ (fun w H=>bJ ae) ?_;refine H.bf hH (cs:=nO n A3 (bn E c).length c3 (.slice q (x.2++i).length d15) (.slice A8 (aI E c).length c8,.slice t ((x.2++i).length+1) d14)) (by decide) (by decide) (by kernel_rfl) ?_;clear H;intro g16 w47 H;refine ⟨.inl (H.front 3 rfl).only.aq.aq,?_⟩;refine H.aG 4 0 hH rfl rfl rfl (o _ _ _ _ _ _ _ _ _) (by omega) (by omega) ?_;clear H;intro A17 d17 w48 H;refine ⟨.inl (H.front 3 rfl).only.aq.aq,?_⟩;obtain ⟨S',O,H'⟩:=M _ _ _ _ _ _ _ _ _ ((((H.front 5 rfl).front 3 rfl).front 5 rfl).j6);exact ⟨(_,_,_,_,best,U,V,k+1,S',O),K,⟨by simp;rfl,rfl,rfl,trivial⟩,⟨⟨F,by omega⟩,J⟩,H'⟩
   ·refine quiet _ (fun w H=>H.ai 0 rfl aL az ae) ?_;refine quiet _ (fun w H=>H.ai 0 rfl aL az ae) ?_;refine Hp.dr H dH ?_;clear H;intro g9 w39 H;refine ⟨.inl (H.front 1 rfl).only,?_⟩;refine aj (pw n E c _ X _ (by omega) z (H.ro 1 rfl) (H.rlt _ (.tail _ (.head _)))) ?_;rintro _ w40 ⟨v3,rfl,I⟩;obtain ⟨S3,p,_⟩:=H.gm (.tail _ (.head _)) I;clear H;have H:=p;clear p;obtain ⟨A3,c3,Q⟩:=(H.ro 0 rfl).form;subst Q;refine ⟨.inl (H.front 1 rfl).only.aq,?_⟩;refine quiet _ (fun w H=>bJ ae) ?_;refine H.aX dH rfl ?_;clear H;intro gc w42 H;refine ⟨.inl (H.front 2 rfl).only.aq,?_⟩;refine aj (oT n E c _ X _ (by omega) z (H.ro 2 rfl) (H.rlt _ (.tail _ (.tail _ (.head _))))) ?_;rintro _ w43 ⟨v8,rfl,I⟩;obtain ⟨S8,p,_⟩:=H.gm (.tail _ (.tail _ (.head _))) I;clear H;have H:=p;clear p;obtain ⟨A8,c8,T⟩:=(H.ro 0 rfl).form;subst T;refine ⟨.inl (H.front 2 rfl).only.aq.aq,?_⟩;refine Hp.b_ H 1 dH rfl (bB (H.ro 2 rfl)) (cV _) (by omega) (by omega) ?_;clear H;intro A11 d11 w44 H;refine ⟨.inl (H.front 2 rfl).only.aq.aq,?_⟩;refine H.aG 1 0 dH rfl rfl rfl (fun u hu=>by rw[List.mem_singleton.1 hu];rfl) (by omega) (by omega) ?_;clear H;intro t d14 w45 H;refine ⟨.inl (H.front 2 rfl).only.aq.aq,?_⟩;refine quiet _ (fun w H=>bJ ae) ?_;refine H.bf hH (cs:=nO n A3 (bn E c).length c3 (.slice q (x.2++i).length d15) (.slice A8 (aI E c).length c8,.slice t ((x.2++i).length+1) d14)) (by decide) (by decide) (by kernel_rfl) ?_;clear H;intro g16 w47 H;refine ⟨.inl (H.front 3 rfl).only.aq.aq,?_⟩;refine H.aG 4 0 hH rfl rfl rfl (o _ _ _ _ _ _ _ _ _) (by omega) (by omega) ?_;clear H;intro A17 d17 w48 H;refine ⟨.inl (H.front 3 rfl).only.aq.aq,?_⟩;obtain ⟨S',O,H'⟩:=M _ _ _ _ _ _ _ _ _ ((((H.front 5 rfl).front 3 rfl).front 5 rfl).j6);exact ⟨(_,_,_,_,best,U,V,k+1,S',O),K,⟨by simp;rfl,rfl,rfl,trivial⟩,⟨⟨F,by omega⟩,J⟩,H'⟩
   ·refine quiet _ (fun w H=>H.ai 0 rfl aL az ae) ?_;refine quiet _ (fun w H=>H.ai 0 rfl aL az ae) ?_;refine Hp.dr H dH ?_;clear H;intro g9 w39 H;refine ⟨.inl (H.front 1 rfl).only,?_⟩;refine H.aX dH rfl ?_;clear H;intro gc w40 H;refine ⟨.inl (H.front 2 rfl).only,?_⟩;refine aj (pw n E c _ X _ (by omega) z (H.ro 1 rfl) (H.rlt _ (.tail _ (.head _)))) ?_;rintro _ w41 ⟨v3,rfl,I⟩;obtain ⟨S3,p,_⟩:=H.gm (.tail _ (.head _)) I;clear H;have H:=p;clear p;obtain ⟨A3,c3,Q⟩:=(H.ro 0 rfl).form;subst Q;refine ⟨.inl (H.front 2 rfl).only.aq,?_⟩;refine quiet _ (fun w H=>bJ ae) ?_;refine aj (oT n E c _ X _ (by omega) z (H.ro 2 rfl) (H.rlt _ (.tail _ (.tail _ (.head _))))) ?_;rintro _ w43 ⟨v8,rfl,I⟩;obtain ⟨S8,p,_⟩:=H.gm (.tail _ (.tail _ (.head _))) I;clear H;have H:=p;clear p;obtain ⟨A8,c8,T⟩:=(H.ro 0 rfl).form;subst T;refine ⟨.inl (H.front 2 rfl).only.aq.aq,?_⟩;refine Hp.b_ H 1 dH rfl (bB (H.ro 2 rfl)) (cV _) (by omega) (by omega) ?_;clear H;intro A11 d11 w44 H;refine ⟨.inl (H.front 2 rfl).only.aq.aq,?_⟩;refine H.aG 1 0 dH rfl rfl rfl (fun u hu=>by rw[List.mem_singleton.1 hu];rfl) (by omega) (by omega) ?_;clear H;intro t d14 w45 H;refine ⟨.inl (H.front 2 rfl).only.aq.aq,?_⟩;refine quiet _ (fun w H=>bJ ae) ?_;refine H.bf hH (cs:=nO n A3 (bn E c).length c3 (.slice q (x.2++i).length d15) (.slice A8 (aI E c).length c8,.slice t ((x.2++i).length+1) d14)) (by decide) (by decide) (by kernel_rfl) ?_;clear H;intro g16 w47 H;refine ⟨.inl (H.front 3 rfl).only.aq.aq,?_⟩;refine H.aG 4 0 hH rfl rfl rfl (o _ _ _ _ _ _ _ _ _) (by omega) (by omega) ?_;clear H;intro A17 d17 w48 H;refine ⟨.inl (H.front 3 rfl).only.aq.aq,?_⟩;obtain ⟨S',O,H'⟩:=M _ _ _ _ _ _ _ _ _ ((((H.front 5 rfl).front 3 rfl).front 5 rfl).j6);exact ⟨(_,_,_,_,best,U,V,k+1,S',O),K,⟨by simp;rfl,rfl,rfl,trivial⟩,⟨⟨F,by omega⟩,J⟩,H'⟩
   ·refine quiet _ (fun w H=>H.ai 0 rfl aL az ae) ?_;refine quiet _ (fun w H=>H.ai 0 rfl aL az ae) ?_;refine H.aX dH rfl ?_;clear H;intro gc w39 H;refine ⟨.inl (H.front 1 rfl).only,?_⟩;refine aj (pw n E c _ X _ (by omega) z (H.ro 1 rfl) (H.rlt _ (.tail _ (.head _)))) ?_;rintro _ w40 ⟨v3,rfl,I⟩;obtain ⟨S3,p,_⟩:=H.gm (.tail _ (.head _)) I;clear H;have H:=p;clear p;obtain ⟨A3,c3,Q⟩:=(H.ro 0 rfl).form;subst Q;refine ⟨.inl (H.front 1 rfl).only.aq,?_⟩;refine quiet _ (fun w H=>bJ ae) ?_;refine aj (oT n E c _ X _ (by omega) z (H.ro 2 rfl) (H.rlt _ (.tail _ (.tail _ (.head _))))) ?_;rintro _ w42 ⟨v8,rfl,I⟩;obtain ⟨S8,p,_⟩:=H.gm (.tail _ (.tail _ (.head _))) I;clear H;have H:=p;clear p;obtain ⟨A8,c8,T⟩:=(H.ro 0 rfl).form;subst T;refine ⟨.inl (H.front 1 rfl).only.aq.aq,?_⟩;refine Hp.dr H dH ?_;clear H;intro g9 w43 H;refine ⟨.inl (H.front 2 rfl).only.aq.aq,?_⟩;refine Hp.b_ H 0 dH rfl (bB (H.ro 2 rfl)) (cV _) (by omega) (by omega) ?_;clear H;intro A11 d11 w44 H;refine ⟨.inl (H.front 2 rfl).only.aq.aq,?_⟩;refine H.aG 0 1 dH rfl rfl rfl (fun u hu=>by rw[List.mem_singleton.1 hu];rfl) (by omega) (by omega) ?_;clear H;intro t d14 w45 H;refine ⟨.inl (H.front 2 rfl).only.aq.aq,?_⟩;refine quiet _ (fun w H=>bJ ae) ?_;refine H.bf hH (cs:=nO n A3 (bn E c).length c3 (.slice q (x.2++i).length d15) (.slice A8 (aI E c).length c8,.slice t ((x.2++i).length+1) d14)) (by decide) (by decide) (by kernel_rfl) ?_;clear H;intro g16 w47 H;refine ⟨.inl (H.front 3 rfl).only.aq.aq,?_⟩;refine H.aG 4 0 hH rfl rfl rfl (o _ _ _ _ _ _ _ _ _) (by omega) (by omega) ?_;clear H;intro A17 d17 w48 H;refine ⟨.inl (H.front 3 rfl).only.aq.aq,?_⟩;obtain ⟨S',O,H'⟩:=M _ _ _ _ _ _ _ _ _ ((((H.front 5 rfl).front 2 rfl).front 5 rfl).j6);exact ⟨(_,_,_,_,best,U,V,k+1,S',O),K,⟨by simp;rfl,rfl,rfl,trivial⟩,⟨⟨F,by omega⟩,J⟩,H'⟩
   ·refine quiet _ (fun w H=>H.ai 0 rfl aL az ae) ?_;refine quiet _ (fun w H=>H.ai 0 rfl aL az ae) ?_;refine H.aX dH rfl ?_;clear H;intro gc w39 H;refine ⟨.inl (H.front 1 rfl).only,?_⟩;refine aj (pw n E c _ X _ (by omega) z (H.ro 1 rfl) (H.rlt _ (.tail _ (.head _)))) ?_;rintro _ w40 ⟨v3,rfl,I⟩;obtain ⟨S3,p,_⟩:=H.gm (.tail _ (.head _)) I;clear H;have H:=p;clear p;obtain ⟨A3,c3,Q⟩:=(H.ro 0 rfl).form;subst Q;refine ⟨.inl (H.front 1 rfl).only.aq,?_⟩;refine quiet _ (fun w H=>bJ ae) ?_;refine Hp.dr H dH ?_;clear H;intro g9 w42 H;refine ⟨.inl (H.front 2 rfl).only.aq,?_⟩;refine aj (oT n E c _ X _ (by omega) z (H.ro 2 rfl) (H.rlt _ (.tail _ (.tail _ (.head _))))) ?_;rintro _ w43 ⟨v8,rfl,I⟩;obtain ⟨S8,p,_⟩:=H.gm (.tail _ (.tail _ (.head _))) I;clear H;have H:=p;clear p;obtain ⟨A8,c8,T⟩:=(H.ro 0 rfl).form;subst T;refine ⟨.inl (H.front 2 rfl).only.aq.aq,?_⟩;refine Hp.b_ H 0 dH rfl (bB (H.ro 2 rfl)) (cV _) (by omega) (by omega) ?_;clear H;intro A11 d11 w44 H;refine ⟨.inl (H.front 2 rfl).only.aq.aq,?_⟩;refine H.aG 0 1 dH rfl rfl rfl (fun u hu=>by rw[List.mem_singleton.1 hu];rfl) (by omega) (by omega) ?_;clear H;intro t d14 w45 H;refine ⟨.inl (H.front 2 rfl).only.aq.aq,?_⟩;refine quiet _ (fun w H=>bJ ae) ?_;refine H.bf hH (cs:=nO n A3 (bn E c).length c3 (.slice q (x.2++i).length d15) (.slice A8 (aI E c).length c8,.slice t ((x.2++i).length+1) d14)) (by decide) (by decide) (by kernel_rfl) ?_;clear H;intro g16 w47 H;refine ⟨.inl (H.front 3 rfl).only.aq.aq,?_⟩;refine H.aG 4 0 hH rfl rfl rfl (o _ _ _ _ _ _ _ _ _) (by omega) (by omega) ?_;clear H;intro A17 d17 w48 H;refine ⟨.inl (H.front 3 rfl).only.aq.aq,?_⟩;obtain ⟨S',O,H'⟩:=M _ _ _ _ _ _ _ _ _ ((((H.front 5 rfl).front 2 rfl).front 5 rfl).j6);exact ⟨(_,_,_,_,best,U,V,k+1,S',O),K,⟨by simp;rfl,rfl,rfl,trivial⟩,⟨⟨F,by omega⟩,J⟩,H'⟩
   ·refine quiet _ (fun w H=>H.ai 0 rfl aL az ae) ?_;refine quiet _ (fun w H=>H.ai 0 rfl aL az ae) ?_;refine H.aX dH rfl ?_;clear H;intro gc w39 H;refine ⟨.inl (H.front 1 rfl).only,?_⟩;refine Hp.dr H dH ?_;clear H;intro g9 w40 H;refine ⟨.inl (H.front 2 rfl).only,?_⟩;refine aj (pw n E c _ X _ (by omega) z (H.ro 1 rfl) (H.rlt _ (.tail _ (.head _)))) ?_;rintro _ w41 ⟨v3,rfl,I⟩;obtain ⟨S3,p,_⟩:=H.gm (.tail _ (.head _)) I;clear H;have H:=p;clear p;obtain ⟨A3,c3,Q⟩:=(H.ro 0 rfl).form;subst Q;refine ⟨.inl (H.front 2 rfl).only.aq,?_⟩;refine quiet _ (fun w H=>bJ ae) ?_;refine aj (oT n E c _ X _ (by omega) z (H.ro 2 rfl) (H.rlt _ (.tail _ (.tail _ (.head _))))) ?_;rintro _ w43 ⟨v8,rfl,I⟩;obtain ⟨S8,p,_⟩:=H.gm (.tail _ (.tail _ (.head _))) I;clear H;have H:=p;clear p;obtain ⟨A8,c8,T⟩:=(H.ro 0 rfl).form;subst T;refine ⟨.inl (H.front 2 rfl).only.aq.aq,?_⟩;refine Hp.b_ H 0 dH rfl (bB (H.ro 2 rfl)) (cV _) (by omega) (by omega) ?_;clear H;intro A11 d11 w44 H;refine ⟨.inl (H.front 2 rfl).only.aq.aq,?_⟩;refine H.aG 0 1 dH rfl rfl rfl (fun u hu=>by rw[List.mem_singleton.1 hu];rfl) (by omega) (by omega) ?_;clear H;intro t d14 w45 H;refine ⟨.inl (H.front 2 rfl).only.aq.aq,?_⟩;refine quiet _ (fun w H=>bJ ae) ?_;refine H.bf hH (cs:=nO n A3 (bn E c).length c3 (.slice q (x.2++i).length d15) (.slice A8 (aI E c).length c8,.slice t ((x.2++i).length+1) d14)) (by decide) (by decide) (by kernel_rfl) ?_;clear H;intro g16 w47 H;refine ⟨.inl (H.front 3 rfl).only.aq.aq,?_⟩;refine H.aG 4 0 hH rfl rfl rfl (o _ _ _ _ _ _ _ _ _) (by omega) (by omega) ?_;clear H;intro A17 d17 w48 H;refine ⟨.inl (H.front 3 rfl).only.aq.aq,?_⟩;obtain ⟨S',O,H'⟩:=M _ _ _ _ _ _ _ _ _ ((((H.front 5 rfl).front 2 rfl).front 5 rfl).j6);exact ⟨(_,_,_,_,best,U,V,k+1,S',O),K,⟨by simp;rfl,rfl,rfl,trivial⟩,⟨⟨F,by omega⟩,J⟩,H'⟩
  ·obtain rfl:ts=[]:=List.length_eq_zero_iff.1 (by omega);obtain rfl:st=[]:=List.length_eq_zero_iff.1 (by simpa using hlen.symm);exact ⟨(U,V,best,k),⟨rfl,rfl,trivial⟩,⟨by omega,F,hfew⟩,Sb,((H.front 1 rfl).only).aq⟩
 ·clear H;rintro ⟨B,d,best,k⟩ u w6 ⟨⟨hk,F,hfew⟩,Sb,H⟩;have hsl:=H.ro 0 rfl;have hend:=G2 hright hfew;refine aa (iQ _) ?_;refine H.load 0 rfl aF rfl ?_;refine aj (c127 n best B d _ (by omega) (by omega) (sl.mono hsl (H.rlt _ (.head _)))) ?_;rintro _ w7 ⟨B2,d2,rfl,I⟩;replace H:=H.bq I;exact ⟨B2,d2,a8 n best,k,0,rfl,.inr (.inr (.inr ⟨hr',hb',rfl,⟨by omega,by omega⟩,⟨best,by rw[Int.toNat_natCast]⟩,by rw[Int.toNat_natCast];exact hend.1,hend.2⟩)),(H.only).out⟩
end Go.Proofs.YtpjihhgjbbihkaaGreatDoor
namespace Go.Dk
def cq (a b:Nat):Prop:=∀ p,a.testBit p=true→b.testBit p=true
theorem E0 {a b:Nat}(d:a<2^256):bU a b=0↔cq a b:=by
 rw[iw];constructor
 ·intro h p c;have:=h p;rw[bX d,c,Bool.true_and] at this;simpa using this
 ·intro h p;rw[bX d]
  cases c:a.testBit p with
  | false=>rfl
  | true=>rw[h p c];rfl
theorem hK {a b:Nat}(c:a<2^256):(bU a b==0)=true↔cq a b:=by rw[beq_iff_eq,E0 c]
theorem cq.refl (a:Nat):cq a a:=fun _ h=>h
theorem cq.trans {a b c:Nat}(h:cq a b)(d:cq b c):cq a c:=fun p e=>d p (h p e)
structure dX where
 n:Nat
 on:List Nat
 may:List Nat
structure cL (S:dX):Prop where
 n8:S.n≤8
 some:1≤S.on.length
 few:S.on.length≤4
 len:S.may.length=S.on.length
 onlt:∀ a ∈ S.on,a<2^256
 maylt:∀ a ∈ S.may,a<2^256
 sub:∀ (j a b:Nat),S.on[j]?=Option.some a→S.may[j]?=Option.some b→cq a b
 all:∀ b ∈ S.may,cq b (bp S.n)
def gT (m i:Nat):Nat:=m &&&(255 - 2^i)
theorem ra {m:Nat}(hm:m<256)(i:Nat):gT m i<256:=dh hm _
theorem BT {m i:Nat}(hi:i<8)(j:Nat)(a:j<8):(gT m i).testBit j=(m.testBit j&& !decide (i=j)):=by
 have h:2^i<256:=show 2^i<2^8 from Nat.pow_lt_pow_right (by decide) hi;unfold gT;rw[Nat.testBit_and,iE h,Nat.testBit_two_pow,decide_eq_true a,Bool.true_and]
def C_ (m v:Nat)(s:Nat)(n:Nat):Bool:=dJ m v n&&(bU (bd m v n) s==0)
def iR (S:dX)(m v:Nat):Nat:=mkSet (fun j=>C_ m v (S.may.getD j 0) S.n) S.may.length
theorem rb (S:dX)(m v j:Nat):(iR S m v).testBit j=(decide (j<S.may.length)&&C_ m v (S.may.getD j 0) S.n):=bW _ _ _
theorem yF {S:dX}(h:S.may.length≤4)(m v:Nat):iR S m v<16:=Nat.lt_of_lt_of_le (fa _ _) (show 2^S.may.length≤2^4 from Nat.pow_le_pow_right (by decide) h)
def se (S:dX)(m v o:Nat):Bool:=decide (0<o)&&(o &&&(255 - iR S m v)==0)
end Go.Dk
namespace Go.Proofs.YtpjihhgjbbihkaaGreatDoor
open Go.Proofs.Tryz
open Go.Dk
set_option maxRecDepth 100000
attribute [local irreducible] IntKind.wrap
theorem J1:enters prog 131=true:=by kernel_rfl
theorem c131 (m v i:Nat)(hm:m<256)(c:v<256)(hi:i<8)(w:World):bw prog 131 [cv m v,.int .i64 (i:Int)] w fun r w'=>r=cv (gT m i) (v &&&gT m i)∧aT w w':=by
 refine ar (N:=19) func131 J1 rfl rfl rfl (by simp) ?_;have H:=Hp.aC w;have g:2^i<256:=show 2^i<2^8 from Nat.pow_lt_pow_right (by decide) hi;have a:=ra hm i;refine ak (γ:=Nat × Nat) (fun (g2,g4)=>[(2,(ah g2)),(4,(ah g4))]) (fun (g2,g4) w'=>Hp w ab w' [an g4 48 (cc 0 0),an g2 48 (cc m v)] []) ?_ ?_
 ·refine H.box 48 (cv _ _) (cs:=cc m v) rfl ?_;clear H;intro g2 d H;refine H.alloc 48 (cs:=cc 0 0) fj rfl ?_;clear H;intro g4 e H;exact ⟨(g2,g4),⟨rfl,rfl,trivial⟩,H⟩
 clear H;rintro ⟨g2,g4⟩ u d H;have h:0≤(i:Int):=by omega
 have j:(i:Int)<8:=by omega
 refine aw (fun w'=>Hp w ab w' [an g4 48 (cc 0 0),an g2 48 (cc (gT m i) v)] []) ?_ ?_
 ·iterate 3 refine ag rfl ?_
  refine ag (decide_eq_true (by assumption)) ?_;refine H.draw eO (by kernel_rfl) ?_;clear H;intro k H;refine quiet _ (fun w H=>aa (cj _) ae) ?_;refine quiet _ (fun w H=>H.load 1 rfl b5 rfl ae) ?_;refine quiet _ (fun w H=>cf (by omega) ae) ?_;refine quiet _ (fun w H=>jD (by first | assumption | omega | (repeat' (first | assumption | refine dh ?_ _ | refine xor_lt8 ?_ ?_ | refine or_lt8 ?_ ?_))) (by first | assumption | omega | (repeat' (first | assumption | refine dh ?_ _ | refine xor_lt8 ?_ ?_ | refine or_lt8 ?_ ?_))) ae) ?_;refine quiet _ (fun w H=>aa (cj _) ae) ?_;refine H.store 1 rfl j4 (Nat.le_of_ble_eq_true rfl) rfl ?_;clear H;intro f H;refine ⟨.inr rfl,?_⟩;exact ⟨(),trivial,H⟩
 clear H;rintro ⟨⟩ u e H;refine H.ai 1 rfl bz aO ?_;refine aj (NQ (gT m i) v a c _) ?_;rintro _ l ⟨rfl,b⟩;replace H:=H.same b;clear b;refine H.bR 0 rfl ?_;clear H;intro n H;refine H.ai 0 rfl bz aO ?_;refine ⟨rfl,?_⟩;exact ⟨rfl,H.keeps⟩
theorem J2:enters prog 160=true:=by kernel_rfl
theorem c160 (m v s:Nat)(hm:m<256)(i:v<256)(n:Nat)(w:World):bw prog 160 [cv m v,sv s,.int .i64 (n:Int)] w fun r w'=>r=.bool (C_ m v s n)∧aT w w':=by
 refine ar (N:=22) func160 J2 rfl rfl rfl (by simp) ?_;have H:=Hp.aC w;refine ak (γ:=Nat × Nat) (fun (g3,g4)=>[(3,(ah g3)),(4,(ah g4)),(6,.bool false)]) (fun (g3,g4) w'=>Hp w ab w' [an g4 86 (sc s),an g3 48 (cc m v)] []) ?_ ?_
 ·refine H.box 48 (cv _ _) (cs:=cc m v) rfl ?_;clear H;intro g3 g H;refine H.box 86 (sv s) (cs:=sc s) rfl ?_;clear H;intro g4 h H;exact ⟨(g3,g4),⟨rfl,rfl,rfl,trivial⟩,H⟩
 clear H;rintro ⟨g3,g4⟩ u g H;have c:=NR m v hm i (n:Int) g;rw[Int.toNat_natCast] at c;refine ak (γ:=Nat × Nat × Int) (fun (g7,_,e)=>[(7,(ah g7)),(8,.int .i64 e)]) (fun (g7,d,e) w'=>((dJ m v n=false∧e=1∧d=0)∨(dJ m v n=true∧e=0∧d=bd m v n))∧Hp w ab w' [an g7 86 (sc d),an g4 86 (sc s),an g3 48 (cc m v)] []) ?_ ?_
 ·refine H.ai 1 rfl bz aO ?_;refine aj c ?_;rintro _ h ⟨rfl,b⟩;replace H:=H.same b;clear b c
  cases f:dJ m v n with
  | false=>
   refine H.alloc 86 (cs:=sc 0) br aY ?_;clear H;intro g7 j H;refine H.aW 0 rfl ?_;clear H;intro k H;exact ⟨(g7,0,1),⟨rfl,rfl,trivial⟩,.inl ⟨rfl,rfl,rfl⟩,H⟩
  | true=>
   refine H.alloc 86 (cs:=sc 0) br aY ?_;clear H;intro g7 j H;refine H.aW 0 rfl ?_;clear H;intro k H;exact ⟨(g7,bd m v n,0),⟨rfl,rfl,trivial⟩,.inr ⟨rfl,rfl,rfl⟩,H⟩
 clear H c;rintro ⟨g7,d,e⟩ u h ⟨a,H⟩;unfold C_;rcases a with ⟨f,rfl,rfl⟩ | ⟨f,rfl,rfl⟩
 ·rw[f]
  iterate 4 refine af rfl ?_
  exact ⟨rfl,H.keeps⟩
 ·rw[f];have l:=pP m v n;refine ag rfl ?_;refine H.ai 0 rfl aD av ?_;refine ag rfl ?_;refine H.ai 1 rfl aD av ?_;refine ag rfl ?_;refine aj (c85 _ _ l _) ?_;rintro _ o ⟨rfl,b⟩;replace H:=H.same b;clear b;refine ag rfl ?_;exact ⟨rfl,H.keeps⟩
end Go.Proofs.YtpjihhgjbbihkaaGreatDoor
namespace Go.Dk
theorem yG (a b:Nat)(c:a<9223372036854775808)(d:b<9223372036854775808):bits .xor .i64 (a:Int) (b:Int)=((a ^^^ b:Nat):Int):=by
 have e:a ^^^ b<2^63:=Nat.xor_lt_two_pow c d;show IntKind.i64.wrap ((BitVec.ofInt 64 (a:Int) ^^^ BitVec.ofInt 64 (b:Int)).toNat:Int)=_;rw[BitVec.toNat_xor,oo a c,oo b d,IntKind.wrap_i64];omega
theorem rZ {P:Program}{t:TypeId}{xo yo:Operand}{w:World}{kk:Value→World→Prop}{a b:Nat}(c:a<9223372036854775808)(d:b<9223372036854775808)(h:kk (.int .i64 ((a ^^^ b:Nat):Int)) w):cW P .xor t xo yo (.int .i64 (a:Int)) (.int .i64 (b:Int)) w kk:=
 Bz (by rw[yG a b c d];exact h)
def dm (s n m v:Nat):Nat→Nat × Nat
 | 0=>(m,v)
 | k+1=>if C_ (gT (dm s n m v k).1 k) ((dm s n m v k).2 &&&gT (dm s n m v k).1 k) s n then (gT (dm s n m v k).1 k,(dm s n m v k).2 &&&gT (dm s n m v k).1 k) else dm s n m v k
theorem yH {s n m v:Nat}(hm:m<256)(a:v<256):∀ k,(dm s n m v k).1<256∧(dm s n m v k).2<256
 | 0=>⟨hm,a⟩
 | k+1=>by
  have h:=yH (s:=s) (n:=n) hm a k;unfold dm;split
  ·exact ⟨ra h.1 k,dh h.2 _⟩
  ·exact h
def cS (s i:Nat):Nat:=rE fun p=>s.testBit p||s.testBit (p ^^^ 2^i)
theorem sy {p i:Nat}(a:p<256)(hi:i<8):p ^^^ 2^i<256:=Nat.xor_lt_two_pow (n:=8) a (Nat.pow_lt_pow_right (by decide) hi)
theorem flip_flip (p i:Nat):p ^^^ 2^i ^^^ 2^i=p:=by rw[Nat.xor_assoc,Nat.xor_self,Nat.xor_zero]
theorem yI {s i:Nat}(hs:s<2^256)(hi:i<8):cS s i=s |||fW ((cI s).map (· ^^^ 2^i)):=by
 have c:fW ((cI s).map (· ^^^ 2^i))<2^256:=pN fun p a=>by
  obtain ⟨q,b,rfl⟩:=List.mem_map.1 a;exact sy (ck.1 b).1 hi
 refine n_ (dp _) (IE hs c) fun p a=>?_;unfold cS;rw[bO,decide_eq_true a,Bool.true_and,Nat.testBit_or,fH]
 congr 1
 rw[Bool.eq_iff_iff,decide_eq_true_eq,List.mem_map];constructor
 ·intro h;exact ⟨_,ck.2 ⟨sy a hi,h⟩,flip_flip p i⟩
 ·rintro ⟨q,b,rfl⟩;rw[flip_flip];exact (ck.1 b).2
end Go.Dk
namespace Go.Proofs.YtpjihhgjbbihkaaGreatDoor
open Go.Proofs.Tryz
open Go.Dk
set_option maxRecDepth 100000
attribute [local irreducible] IntKind.wrap
theorem J3:enters prog 129=true:=by kernel_rfl
theorem N3 (m v s:Nat)(hm:m<256)(p:v<256)(n:Nat)(D:n≤8)(h:C_ m v s n=true)(w:World) :
  bw prog 129 [cv m v,sv s,.int .i64 (n:Int)] w fun r w'=>r=.tuple #[cv (dm s n m v n).1 (dm s n m v n).2,.int .i64 0]∧aT w w':=by
 refine ar (N:=30) func129 J3 rfl rfl rfl (by simp) ?_;have H:=Hp.aC w;refine ak (γ:=Nat × Nat × Nat) (fun (g3,g4,g6)=>[(3,(ah g3)),(4,(ah g4)),(6,(ah g6)),(7,.int .i64 0)]) (fun (g3,g4,g6) w'=>Hp w ab w' [an g6 48 (cc 0 0),an g4 86 (sc s),an g3 48 (cc m v)] []) ?_ ?_
 ·refine H.box 48 (cv _ _) (cs:=cc m v) rfl ?_;clear H;intro g3 q H;refine H.box 86 (sv s) (cs:=sc s) rfl ?_;clear H;intro g4 t H;refine H.alloc 48 (cs:=cc 0 0) fj rfl ?_;clear H;intro g6 f H;exact ⟨(g3,g4,g6),⟨rfl,rfl,rfl,rfl,trivial⟩,H⟩
 clear H;rintro ⟨g3,g4,g6⟩ u q H;refine aw (fun w'=>Hp w ab w' [an g6 48 (cc 0 0),an g4 86 (sc s),an g3 48 (cc m v)] []) ?_ ?_
 ·have g:=c160 m v s hm p n q;rw[h] at g;refine H.ai 2 rfl bz aO ?_;refine H.ai 1 rfl aD av ?_;refine aj g ?_;clear g;rintro _ t ⟨rfl,i⟩;replace H:=H.same i;clear i;refine af rfl ?_;exact ⟨(),trivial,H⟩
 clear H;rintro ⟨⟩ u t H;refine aw (fun w'=>Hp w ab w' [an g6 48 (cc 0 0),an g4 86 (sc s),an g3 48 (cc (dm s n m v n).1 (dm s n m v n).2)] []) ?_ ?_
 ·refine ax (γ:=Nat) (fun k=>[(17,.int .i64 (k:Int))]) (fun k w'=>k≤n∧Hp w ab w' [an g6 48 (cc 0 0),an g4 86 (sc s),an g3 48 (cc (dm s n m v k).1 (dm s n m v k).2)] []) (fun k=>n - k) 0 ⟨rfl,trivial⟩ ⟨Nat.zero_le _,H⟩ ?_;clear H;rintro k u f ⟨i,H⟩;obtain ⟨b,d⟩:=yH (s:=s) (n:=n) hm p k;have a:dm s n m v (k+1)=if C_ (gT (dm s n m v k).1 k) ((dm s n m v k).2 &&&gT (dm s n m v k).1 k) s n then (gT (dm s n m v k).1 k,(dm s n m v k).2 &&&gT (dm s n m v k).1 k) else dm s n m v k:=rfl;generalize j:dm s n m v k=c at b d a H;obtain ⟨m',e⟩:=c;replace H:Hp w ab f [an g6 48 (cc 0 0),an g4 86 (sc s),an g3 48 (cc m' e)] []:=H;simp only at b d a;refine au (fun x=>?_) (fun x=>?_)
  ·refine aw (fun w'=>Hp w ab w' [an g6 48 (cc 0 0),an g4 86 (sc s),an g3 48 (cc (dm s n m v (k+1)).1 (dm s n m v (k+1)).2)] []) ?_ ?_
   ·refine ak (γ:=Unit) (fun _=>[(8,.int .i64 (k:Int))]) (fun _ w'=>Hp w ab w' [an g6 48 (cc 0 0),an g4 86 (sc s),an g3 48 (cc m' e)] []) ⟨(),⟨rfl,trivial⟩,H⟩ ?_;clear H;rintro ⟨⟩ u y H;refine ak (γ:=Nat) (fun g9=>[(9,(ah g9))]) (fun g9 w'=>Hp w ab w' [an g9 48 (cc (gT m' k) (e &&&gT m' k)),an g6 48 (cc 0 0),an g4 86 (sc s),an g3 48 (cc m' e)] []) ?_ ?_
    ·refine H.ai 2 rfl bz aO ?_;refine aj (c131 m' e k b d (by omega) _) ?_;rintro _ z ⟨rfl,l⟩;replace H:=H.same l;refine H.alloc 48 (cs:=cc 0 0) fj rfl ?_;clear H;intro g9 A H;refine H.bR 0 rfl ?_;clear H;intro B H;exact ⟨g9,⟨rfl,trivial⟩,H⟩
    clear H;rintro g9 u z H;refine H.ai 0 rfl bz aO ?_;refine H.ai 2 rfl aD av ?_;refine aj (c160 _ _ s (ra b k) (dh d _) n _) ?_;rintro _ A ⟨rfl,o⟩;replace H:=H.same o;rw[a]
    cases hb:C_ (gT m' k) (e &&&gT m' k) s n with
    | true=>
     refine ag rfl ?_;refine H.ai 0 rfl bz aO ?_;refine H.bR 3 rfl ?_;clear H;intro C H;exact ⟨(),trivial,by rw[if_pos rfl];exact H.forget⟩
    | false=>
     refine af rfl ?_;exact ⟨(),trivial,by rw[if_neg (by decide)];exact H.forget⟩
   ·clear H;rintro ⟨⟩ u y H;exact ⟨k+1,by show n - (k+1)<n - k;omega,⟨up (by omega),trivial⟩,by show k+1≤n;omega,H⟩
  ·have:k=n:=by omega
   subst this;exact ⟨(),trivial,by rw[j];exact H⟩
 clear H;rintro ⟨⟩ u f H;refine H.ai 2 rfl bz aO ?_;refine H.bR 0 rfl ?_;clear H;intro B H;refine H.ai 0 rfl bz aO ?_;refine ⟨rfl,?_⟩;exact ⟨rfl,H.keeps⟩
theorem J4:enters prog 188=true:=by kernel_rfl
theorem N4 (s i:Nat)(one:Bool)(hi:i<8)(w:World):bw prog 188 [sv s,.int .i64 (i:Int),.bool one] w fun r w'=>r=sv (cS (cK s i one) i)∧aT w w':=by
 refine ar (N:=31) func188 J4 rfl rfl rfl (by simp) ?_;have H:=Hp.aC w;refine ak (γ:=Nat × Nat) (fun (g3,g6)=>[(3,(ah g3)),(6,(ah g6))]) (fun (g3,g6) w'=>Hp w ab w' [an g6 86 (sc 0),an g3 86 (sc s)] []) ?_ ?_
 ·refine H.box 86 (sv s) (cs:=sc s) rfl ?_;clear H;intro g3 m H;refine H.alloc 86 (cs:=sc 0) br aY ?_;clear H;intro g6 d H;exact ⟨(g3,g6),⟨rfl,rfl,trivial⟩,H⟩
 clear H;rintro ⟨g3,g6⟩ u m H;have n:=xG s i one;generalize e:cK s i one=h at n;refine ak (γ:=Nat) (fun g7=>[(7,(ah g7))]) (fun g7 w'=>Hp w ab w' [an g7 86 (sc h),an g6 86 (sc 0),an g3 86 (sc s)] []) ?_ ?_
 ·refine H.ai 1 rfl aD av ?_;have o:=yh s i one hi m;rw[e] at o;refine aj o ?_;rintro _ y ⟨rfl,q⟩;replace H:=H.same q;refine H.alloc 86 (cs:=sc 0) br aY ?_;clear H;intro g7 d H;refine H.aW 0 rfl ?_;clear H;intro f H;exact ⟨g7,⟨rfl,trivial⟩,H⟩
 clear H;rintro g7 u y H;refine ak (γ:=Nat) (fun g8=>[(8,(ah g8))]) (fun g8 w'=>Hp w ab w' [an g8 86 (sc h),an g7 86 (sc h),an g6 86 (sc 0)] []) ?_ ?_
 ·refine H.ai 0 rfl aD av ?_;refine H.alloc 86 (cs:=sc 0) br aY ?_;clear H;intro g8 d H;refine H.aW 0 rfl ?_;clear H;intro f H;exact ⟨g8,⟨rfl,trivial⟩,H.b7 [0,1,2] (by decide) rfl⟩
 clear H;rintro g8 u d H;have D:2^i<256:=show 2^i<2^8 from Nat.pow_lt_pow_right (by decide) hi;refine aw (fun w'=>Hp w ab w' [an g8 86 (sc (cS h i)),an g6 86 (sc 0)] []) ?_ ?_
 ·refine H.ai 1 rfl aD av ?_;refine aj (Ej h _) ?_;rintro _ f ⟨A,c,rfl,t⟩;replace H:=H.bq t;clear t;refine ay underlying75 ?_;have j:=eK h 256;refine ax (γ:=Nat) (fun k=>[(19,.int .i64 (k:Int))]) (fun k w'=>k≤(cI h).length∧Hp w ab w' [own 3 1 (.slice A (cI h).length c) (cI h).length (ints (cI h)),an g8 86 (sc (h |||fW (((cI h).take k).map (· ^^^ 2^i)))),an g6 86 (sc 0)] []) (fun k=>(cI h).length - k) 0 ⟨rfl,trivial⟩ ⟨Nat.zero_le _,by rw[List.take_zero,List.map_nil,fW,Nat.or_zero];exact H.b7 [0,1,3] (by decide) rfl⟩ ?_;clear H;rintro k u z ⟨q,H⟩;refine au (fun B=>?_) (fun B=>?_)
  ·have a:k<(cI h).length:=by omega
   refine aw (fun w'=>Hp w ab w' [own 3 1 (.slice A (cI h).length c) (cI h).length (ints (cI h)),an g8 86 (sc (h |||fW (((cI h).take (k+1)).map (· ^^^ 2^i)))),an g6 86 (sc 0)] []) ?_ ?_
   ·obtain ⟨g,rfl⟩:=H.lY 0 rfl (by omega);have v:(cI h)[k]<256:=(ck.1 (List.getElem_mem a)).1;have x:(cI h).take (k+1)=(cI h).take k++[(cI h)[k]]:=(List.take_append_getElem a).symm;have b:=eP a;generalize (cI h)[k]=p at v x b;refine ak (γ:=Unit) (fun _=>[(10,.int .i64 (p:Int))]) (fun _ w'=>Hp w ab w' [own 3 1 (.slice (some ⟨g,0,none⟩) (cI h).length c) (cI h).length (ints (cI h)),an g8 86 (sc (h |||fW (((cI h).take k).map (· ^^^ 2^i)))),an g6 86 (sc 0)] []) ?_ ?_
    ·refine ao underlying75 bc k rfl a (by omega) (o':=k) ?_;refine H.ec 0 rfl aF b ?_;exact ⟨(),⟨rfl,trivial⟩,H⟩
    clear H;rintro ⟨⟩ u C H;refine H.draw eO (by kernel_rfl) ?_;clear H;intro E H;refine quiet _ (fun w H=>H.ai 1 rfl aD av ae) ?_;refine quiet _ (fun w H=>c6 (by omega) ae) ?_;refine quiet _ (fun w H=>rZ (by omega) (by omega) ae) ?_;refine aj (pZ _ _ (sy v hi) _) ?_;rintro _ F ⟨rfl,l⟩;replace H:=H.same l;refine ⟨.inl H,?_⟩;refine H.aW 1 rfl ?_;clear H;intro G H;refine ⟨.inr rfl,?_⟩;rw[x,List.map_append,List.map_cons,List.map_nil,kF,← Nat.or_assoc];exact ⟨(),trivial,H⟩
   ·clear H;rintro ⟨⟩ u C H;exact ⟨k+1,by show (cI h).length - (k+1)<(cI h).length - k;omega,⟨up (by simp only[cI] at a;omega),trivial⟩,by show k+1≤(cI h).length;omega,H⟩
  ·have:k=(cI h).length:=by omega
   subst this;rw[List.take_length,← yI n hi] at H;exact ⟨(),trivial,H.forget⟩
 clear H;rintro ⟨⟩ u f H;refine H.ai 0 rfl aD av ?_;refine H.aW 1 rfl ?_;clear H;intro z H;refine H.ai 1 rfl aD av ?_;exact ⟨rfl,rfl,H.keeps⟩
theorem J5:enters prog 176=true:=by kernel_rfl
theorem N5 (h i:Nat)(o:h<2^256)(hi:i<8)(w:World):bw prog 176 [sv h,.int .i64 (i:Int)] w fun r w'=>r=sv (cS h i)∧aT w w':=by
 refine ar (N:=24) func176 J5 rfl rfl rfl (by simp) ?_;have H:=Hp.aC w;refine ak (γ:=Nat × Nat) (fun (g7,g4)=>[(2,(ah g7)),(4,(ah g4))]) (fun (g7,g4) w'=>Hp w ab w' [an g4 86 (sc 0),an g7 86 (sc h)] []) ?_ ?_
 ·refine H.box 86 (sv h) (cs:=sc h) rfl ?_;clear H;intro g3 q H;refine H.alloc 86 (cs:=sc 0) br aY ?_;clear H;intro g6 f H;exact ⟨(g3,g6),⟨rfl,rfl,trivial⟩,H⟩
 clear H;rintro ⟨g7,g4⟩ u q H;refine ak (γ:=Nat) (fun g5=>[(5,(ah g5))]) (fun g5 w'=>Hp w ab w' [an g5 86 (sc h),an g7 86 (sc h),an g4 86 (sc 0)] []) ?_ ?_
 ·refine H.ai 1 rfl aD av ?_;refine H.alloc 86 (cs:=sc 0) br aY ?_;clear H;intro g8 f H;refine H.aW 0 rfl ?_;clear H;intro j H;exact ⟨g8,⟨rfl,trivial⟩,H.b7 [0,2,1] (by decide) rfl⟩
 clear H;rintro g5 u f H;have x:2^i<256:=show 2^i<2^8 from Nat.pow_lt_pow_right (by decide) hi;refine aw (fun w'=>Hp w ab w' [an g5 86 (sc (cS h i)),an g4 86 (sc 0)] []) ?_ ?_
 ·refine H.ai 1 rfl aD av ?_;refine aj (Ej h _) ?_;rintro _ j ⟨A,c,rfl,l⟩;replace H:=H.bq l;clear l;refine ay underlying75 ?_;have d:=eK h 256;refine ax (γ:=Nat) (fun k=>[(12,.int .i64 (k:Int))]) (fun k w'=>k≤(cI h).length∧Hp w ab w' [own 3 1 (.slice A (cI h).length c) (cI h).length (ints (cI h)),an g5 86 (sc (h |||fW (((cI h).take k).map (· ^^^ 2^i)))),an g4 86 (sc 0)] []) (fun k=>(cI h).length - k) 0 ⟨rfl,trivial⟩ ⟨Nat.zero_le _,by rw[List.take_zero,List.map_nil,fW,Nat.or_zero];exact H.b7 [0,1,3] (by decide) rfl⟩ ?_;clear H;rintro k u s ⟨y,H⟩;refine au (fun t=>?_) (fun t=>?_)
  ·have a:k<(cI h).length:=by omega
   refine aw (fun w'=>Hp w ab w' [own 3 1 (.slice A (cI h).length c) (cI h).length (ints (cI h)),an g5 86 (sc (h |||fW (((cI h).take (k+1)).map (· ^^^ 2^i)))),an g4 86 (sc 0)] []) ?_ ?_
   ·obtain ⟨g,rfl⟩:=H.lY 0 rfl (by omega);have m:(cI h)[k]<256:=(ck.1 (List.getElem_mem a)).1;have n:(cI h).take (k+1)=(cI h).take k++[(cI h)[k]]:=(List.take_append_getElem a).symm;have b:=eP a;generalize (cI h)[k]=p at m n b;refine ak (γ:=Unit) (fun _=>[(7,.int .i64 (p:Int))]) (fun _ w'=>Hp w ab w' [own 3 1 (.slice (some ⟨g,0,none⟩) (cI h).length c) (cI h).length (ints (cI h)),an g5 86 (sc (h |||fW (((cI h).take k).map (· ^^^ 2^i)))),an g4 86 (sc 0)] []) ?_ ?_
    ·refine ao underlying75 bc k rfl a (by omega) (o':=k) ?_;refine H.ec 0 rfl aF b ?_;exact ⟨(),⟨rfl,trivial⟩,H⟩
    clear H;rintro ⟨⟩ u v H;refine H.draw eO (by kernel_rfl) ?_;clear H;intro z H;refine quiet _ (fun w H=>H.ai 1 rfl aD av ae) ?_;refine quiet _ (fun w H=>c6 (by omega) ae) ?_;refine quiet _ (fun w H=>rZ (by omega) (by omega) ae) ?_;refine aj (pZ _ _ (sy m hi) _) ?_;rintro _ B ⟨rfl,e⟩;replace H:=H.same e;refine ⟨.inl H,?_⟩;refine H.aW 1 rfl ?_;clear H;intro C H;refine ⟨.inr rfl,?_⟩;rw[n,List.map_append,List.map_cons,List.map_nil,kF,← Nat.or_assoc];exact ⟨(),trivial,H⟩
   ·clear H;rintro ⟨⟩ u v H;exact ⟨k+1,by show (cI h).length - (k+1)<(cI h).length - k;omega,⟨up (by simp only[cI] at a;omega),trivial⟩,by show k+1≤(cI h).length;omega,H⟩
  ·have:k=(cI h).length:=by omega
   subst this;rw[List.take_length,← yI o hi] at H;exact ⟨(),trivial,H.forget⟩
 clear H;rintro ⟨⟩ u j H;refine H.ai 0 rfl aD av ?_;refine H.aW 1 rfl ?_;clear H;intro s H;refine H.ai 1 rfl aD av ?_;exact ⟨rfl,rfl,H.keeps⟩
end Go.Proofs.YtpjihhgjbbihkaaGreatDoor
namespace Go.Dk
theorem Hp.cY {P:Program}{w0 w:World}{F:Nat→Prop}{L M:List cH}{k:Value→World→Prop}(H:Hp w0 F w L M)(n:Nat){g o:Nat}{t ty:TypeId}{cs:Array Value}(c:L[n]?=some (an g t cs))(cs':List Value)(a:cP P ty=some true)(hs:bE P ty=some cs'.length)(d:∀ (j:Nat) v,cs'[j]?=some v→cs[o+j]?=some v)(h:k (.agg cs'.toArray) w):fb P ty (.pointer (some ⟨g,o,none⟩)) w k:=
 iq cs' a hs (fun j v e=>by
  have b:(⟨g,o,none⟩:Addr).add j=⟨g,o+j,none⟩:=by unfold Addr.add;split <;> simp_all
  rw[b,aQ (H.get n c)];exact d j v e) h
end Go.Dk
namespace Go.Proofs.YtpjihhgjbbihkaaGreatDoor
open Go.Proofs.Tryz
open Go.Dk
set_option maxRecDepth 100000
attribute [local irreducible] IntKind.wrap
def bK (s:Nat):List Value:=(sc s).toList
theorem bP (s:Nat):(bK s).length=4:=rfl
def bo (n:Nat)(a b:Value):Array Value:=#[.int .i64 (n:Int),a,b]
def r4 (n:Nat)(a b:Value):Value:=.agg (bo n a b)
def eo (m v o:Nat):Array Value:=#[.int .u8 (m:Int),.int .u8 (v:Int),.int .u8 (o:Int)]
def oU (m v o:Nat):Value:=.agg (eo m v o)
structure fY (w:World) (S:dX) (Bo:Option Addr) (co:Nat) (Bm:Option Addr) (cm:Nat):Prop where
 on:Sl w (.slice Bo S.on.length co) 4 S.on.length (flat bK S.on)
 may:Sl w (.slice Bm S.may.length cm) 4 S.may.length (flat bK S.may)
theorem fY.same {w w':World}{S:dX}{Bo Bm:Option Addr}{co cm:Nat}(h:fY w S Bo co Bm cm)(a:aT w w'):fY w' S Bo co Bm cm:=⟨h.on.same a,h.may.same a⟩
theorem dw:cP prog 41=some true:=by kernel_rfl
theorem bL:bE prog 41=some 3:=by kernel_rfl
theorem dS:cP prog 39=some false:=by kernel_rfl
theorem tH:bE prog 39=some 1:=by kernel_rfl
theorem gV:cP prog 50=some true:=by kernel_rfl
theorem aZ:bE prog 50=some 3:=by kernel_rfl
theorem jz:eL prog 50=some (oU 0 0 0):=by kernel_rfl
theorem iS (g:Nat)(w:World):(Instr.fieldAt 41 (ah g) 0).run prog w=.ok (ah g) w:=by kernel_rfl
theorem fR (g:Nat)(w:World):(Instr.fieldAt 41 (ah g) 1).run prog w=.ok (.pointer (some ⟨g,1,none⟩)) w:=by kernel_rfl
theorem fS (g:Nat)(w:World):(Instr.fieldAt 41 (ah g) 2).run prog w=.ok (.pointer (some ⟨g,2,none⟩)) w:=by kernel_rfl
theorem fT (g o:Nat)(w:World):(Instr.fieldAt 50 (.pointer (some ⟨g,o,none⟩)) 0).run prog w=.ok (.pointer (some ⟨g,o,none⟩)) w:=by kernel_rfl
theorem dt (g o:Nat)(w:World):(Instr.fieldAt 50 (.pointer (some ⟨g,o,none⟩)) 1).run prog w=.ok (.pointer (some ⟨g,o+2,none⟩)) w:=by kernel_rfl
theorem dT (m v o:Nat):∀ u ∈ (eo m v o).toList,u.oneCell'=true:=by
 intro u hu;simp[eo] at hu;rcases hu with rfl | rfl | rfl <;> rfl
theorem lC {l:List Nat}{j:Nat}(h:j<l.length):∃ a,l[j]?=some a∧a ∈ l:=⟨_,List.getElem?_eq_getElem h,List.getElem_mem h⟩
theorem Mh:enters prog 54=true:=by kernel_rfl
theorem He {S:dX}(I:cL S)(Bo:Option Addr)(co:Nat)(Bm:Option Addr)(cm:Nat)(w:World)(y:fY w S Bo co Bm cm) :
  bw prog 54 [r4 S.n (.slice Bo S.on.length co) (.slice Bm S.may.length cm)] w fun r w'=>r=.bool true∧aT w w':=by
 refine ar (N:=63) func54 Mh rfl rfl rfl (by simp) ?_;have H:=Hp.aC w;obtain ⟨n,on,may⟩:=S;obtain ⟨z,J,K,hlen,d,c,f,g⟩:=I;simp only at z J K hlen d c f g y;obtain ⟨q,o⟩:=y;simp only at q o;refine ak (γ:=Nat) (fun g1=>[(1,(ah g1)),(2,.bool false)]) (fun g1 w'=>Hp w ab w' [an g1 41 (bo n (.slice Bo on.length co) (.slice Bm may.length cm))] []) ?_ ?_
 ·refine H.box 41 _ (cs:=bo n (.slice Bo on.length co) (.slice Bm may.length cm)) rfl ?_;clear H;intro g1 M H;exact ⟨g1,⟨rfl,rfl,trivial⟩,H⟩
 clear H;rintro g1 u M H;refine ak (γ:=Nat) (fun g3=>[(3,(ah g3)),(4,.int .i64 0)]) (fun g3 w'=>Hp w ab w' [an g3 86 (sc (bp n)),an g1 41 (bo n (.slice Bo on.length co) (.slice Bm may.length cm))] []) ?_ ?_
 ·refine aa (iS _) ?_;refine H.load 0 rfl aF rfl ?_;refine aj (ow n z _) ?_;rintro _ O ⟨rfl,h⟩;replace H:=H.same h;clear h;refine H.alloc 86 (cs:=sc 0) br aY ?_;clear H;intro g3 Q H;refine H.aW 0 rfl ?_;clear H;intro B H;exact ⟨g3,⟨rfl,rfl,trivial⟩,H⟩
 clear H;rintro g3 u O H;refine aw (fun w'=>Hp w ab w' [an g3 86 (sc (bp n)),an g1 41 (bo n (.slice Bo on.length co) (.slice Bm may.length cm))] []) ?_ ?_
 ·have V:¬ (on.length:Int)<1:=by omega
  have X:¬ (4:Int)<on.length:=by omega
  have Y:¬ (on.length:Int)≠may.length:=by omega
  refine af rfl ?_;refine aa (fR _) ?_;refine af rfl ?_;refine H.load 1 rfl dS rfl ?_;refine af rfl ?_;refine ay underlying39 ?_
  iterate 2 refine af rfl ?_
  refine af (decide_eq_false (by assumption)) ?_;refine aa (fR _) ?_;refine af (decide_eq_false (by assumption)) ?_;refine H.load 1 rfl dS rfl ?_;refine af (decide_eq_false (by assumption)) ?_;refine ay underlying39 ?_
  iterate 3 refine af (decide_eq_false (by assumption)) ?_
  refine aa (fR _) ?_;refine af (decide_eq_false (by assumption)) ?_;refine H.load 1 rfl dS rfl ?_;refine af (decide_eq_false (by assumption)) ?_;refine ay underlying39 ?_;refine af (decide_eq_false (by assumption)) ?_;refine aa (fS _) ?_;refine af (decide_eq_false (by assumption)) ?_;refine H.load 1 rfl dS rfl ?_;refine af (decide_eq_false (by assumption)) ?_;refine ay underlying39 ?_
  iterate 2 refine af (decide_eq_false (by assumption)) ?_
  refine af (bne_eq_false_iff_eq.2 (by omega)) ?_;exact ⟨(),trivial,H⟩
 clear H;rintro ⟨⟩ u Q H;refine aw (fun w'=>Hp w ab w' [an g3 86 (sc (bp n)),an g1 41 (bo n (.slice Bo on.length co) (.slice Bm may.length cm))] []) ?_ ?_
 ·refine aa (fR _) ?_;refine H.load 1 rfl dS rfl ?_;refine ay underlying39 ?_;refine ax (γ:=Nat) (fun i=>[(39,.int .i64 (i:Int))]) (fun i w'=>i≤on.length∧Hp w ab w' [an g3 86 (sc (bp n)),an g1 41 (bo n (.slice Bo on.length co) (.slice Bm may.length cm))] []) (fun i=>on.length - i) 0 ⟨rfl,trivial⟩ ⟨Nat.zero_le _,H⟩ ?_;clear H;rintro i u B ⟨hi,H⟩;refine au (fun T=>?_) (fun T=>?_)
  ·obtain ⟨a,C,k⟩:=lC (l:=on) (j:=i) (by omega);obtain ⟨b,s,e⟩:=lC (l:=may) (j:=i) (by omega);obtain ⟨D,t,rfl⟩:=q.A (by omega);obtain ⟨E,p,rfl⟩:=o.A (by omega);refine aw (fun w'=>Hp w ab w' [an g3 86 (sc (bp n)),an g1 41 (bo n (.slice (some ⟨D,t,none⟩) on.length co) (.slice (some ⟨E,p,none⟩) may.length cm))] []) ?_ ?_
   ·refine ak (γ:=Nat) (fun g6=>[(5,.int .i64 (i:Int)),(6,(ah g6))]) (fun g6 w'=>Hp w ab w' [an g6 86 (sc a),an g3 86 (sc (bp n)),an g1 41 (bo n (.slice (some ⟨D,t,none⟩) on.length co) (.slice (some ⟨E,p,none⟩) may.length cm))] []) ?_ ?_
    ·refine ao underlying39 av i rfl (by omega) (o':=t+i*4) (by omega) ?_;refine Sl.cA H q bP aD av i rfl C ?_;refine H.alloc 86 (cs:=sc 0) br aY ?_;clear H;intro g6 F H;refine H.aW (b:=a) 0 rfl ?_;clear H;intro G H;exact ⟨g6,⟨rfl,rfl,trivial⟩,H⟩
    clear H;rintro g6 u F H;have v:=(hK (d a k)).2 (f i a b C s);have x:=(hK (c b e)).2 (g b e);refine H.draw eO (by kernel_rfl) ?_;clear H;intro G H;refine quiet _ (fun w H=>H.ai 0 rfl aD av ae) ?_;refine quiet _ (fun w H=>aa (fS _) ae) ?_;refine quiet _ (fun w H=>H.load 2 rfl dS rfl ae) ?_;refine quiet _ (fun w H=>ao underlying39 av i rfl (by omega) (o':=p+i*4) (by omega) ae) ?_;refine quiet (sv b) (fun w H=>Sl.cA H o bP aD av i rfl s ae) ?_;have m:=c85 a b (d a k) G;rw[v] at m;refine aj m ?_;clear m;rintro _ Z ⟨rfl,h⟩;replace H:=H.same h;clear h;refine ⟨.inl H,?_⟩;have m:=fun u=>c85 b (bp n) (c b e) u;rw[x] at m;refine af rfl ?_;refine quiet _ (fun w H=>aa (fS _) ae) ?_;refine af rfl ?_;refine quiet _ (fun w H=>H.load 2 rfl dS rfl ae) ?_
    iterate 2 refine af rfl ?_
    refine quiet _ (fun w H=>ao underlying39 av i rfl (by omega) (o':=p+i*4) (by omega) ae) ?_;refine af rfl ?_;refine quiet (sv b) (fun w H=>Sl.cA H o bP aD av i rfl s ae) ?_;refine af rfl ?_;refine quiet _ (fun w H=>H.ai 1 rfl aD av ae) ?_;refine af rfl ?_;refine aj (m _) ?_;rintro _ U ⟨rfl,h⟩;replace H:=H.same h;clear h;refine ⟨.inl H,?_⟩
    iterate 3 refine af rfl ?_
    exact ⟨(),trivial,H.forget⟩
   ·clear H;rintro ⟨⟩ u F H;exact ⟨i+1,by show on.length - (i+1)<on.length - i;omega,⟨up (by omega),trivial⟩,by show i+1≤on.length;omega,H⟩
  ·exact ⟨(),trivial,H⟩
 clear H;rintro ⟨⟩ u B H;exact ⟨rfl,H.keeps⟩
end Go.Proofs.YtpjihhgjbbihkaaGreatDoor
namespace Go.Dk
theorem Da (f:Nat→Bool)(k:Nat):mkSet f k |||2^k=mkSet f k+2^k:=by
 have a:=fa f k;rw[Nat.or_comm];have:=Nat.two_pow_add_eq_or_of_lt a 1;simp at this;omega
end Go.Dk
namespace Go.Proofs.YtpjihhgjbbihkaaGreatDoor
open Go.Proofs.Tryz
open Go.Dk
set_option maxRecDepth 100000
attribute [local irreducible] IntKind.wrap
theorem J6:enters prog 132=true:=by kernel_rfl
theorem J7 {S:dX}(g:cL S)(m v:Nat)(hm:m<256)(F:v<256)(c:Value)(Bm:Option Addr)(cm:Nat)(w:World)(k:Sl w (.slice Bm S.may.length cm) 4 S.may.length (flat bK S.may))(G:c.oneCell'=true) :
  bw prog 132 [r4 S.n c (.slice Bm S.may.length cm),cv m v] w fun r w'=>r=.int .u8 ((iR S m v:Nat):Int)∧aT w w':=by
 refine ar (N:=27) func132 J6 rfl rfl rfl (by simp) ?_;have H:=Hp.aC w;have I:S.may.length≤4:=by rw[g.len];exact g.few
 have o:=g.n8;unfold iR;obtain ⟨n,on,may⟩:=S;simp only at I k o;simp only;generalize p:(fun j=>C_ m v (may.getD j 0) n)=f;have q:∀ j a,may[j]?=some a→f j=C_ m v a n:=fun j a h=>by rw[← p];simp only[List.getD_eq_getElem?_getD,h];rfl
 refine ak (γ:=Nat × Nat) (fun (g2,g3)=>[(2,(ah g2)),(3,(ah g3)),(4,.int .u8 0)]) (fun (g2,g3) w'=>Hp w ab w' [an g3 48 (cc m v),an g2 41 (bo n c (.slice Bm may.length cm))] []) ?_ ?_
 ·refine H.box 41 _ (cs:=bo n c (.slice Bm may.length cm)) rfl ?_;clear H;intro g2 J H;refine H.box 48 (cv _ _) (cs:=cc m v) rfl ?_;clear H;intro g3 K H;exact ⟨(g2,g3),⟨rfl,rfl,rfl,trivial⟩,H⟩
 clear H;rintro ⟨g2,g3⟩ u J H;refine ak (γ:=Unit) (fun _=>[(5,.int .u8 0)]) (fun _ w'=>Hp w ab w' [an g3 48 (cc m v),an g2 41 (bo n c (.slice Bm may.length cm))] []) ⟨(),⟨rfl,trivial⟩,H⟩ ?_;clear H;rintro ⟨⟩ u K H;refine ak (γ:=Unit) (fun _=>[(5,.int .u8 ((mkSet f may.length:Nat):Int))]) (fun _ w'=>Hp w ab w' [] []) ?_ ?_
 ·refine aa (fS _) ?_;refine H.load 1 rfl dS rfl ?_;refine ay underlying39 ?_;refine ax (γ:=Nat) (fun i=>[(11,.int .i64 (i:Int)),(5,.int .u8 ((mkSet f i:Nat):Int))]) (fun i w'=>i≤may.length∧Hp w ab w' [an g3 48 (cc m v),an g2 41 (bo n c (.slice Bm may.length cm))] []) (fun i=>may.length - i) 0 ⟨rfl,rfl,trivial⟩ ⟨Nat.zero_le _,H⟩ ?_;clear H;rintro i u M ⟨hi,H⟩;refine au (fun O=>?_) (fun O=>?_)
  ·obtain ⟨a,z,B⟩:=lC (l:=may) (j:=i) (by omega);obtain ⟨C,s,rfl⟩:=k.A (by omega);have t:mkSet f i<16:=Nat.lt_of_lt_of_le (fa _ _) (show 2^i≤2^4 from Nat.pow_le_pow_right (by decide) (by omega));have d:=Da f i;have e:mkSet f (i+1)=mkSet f i+if f i then 2^i else 0:=rfl;have y:=q i a z;generalize mkSet f i=x at t d e;refine ak (γ:=Unit) (fun _=>[(5,.int .u8 ((mkSet f (i+1):Nat):Int))]) (fun _ w'=>Hp w ab w' [an g3 48 (cc m v),an g2 41 (bo n c (.slice (some ⟨C,s,none⟩) may.length cm))] []) ?_ ?_
   ·refine ak (γ:=Nat) (fun g7=>[(6,.int .i64 (i:Int)),(7,(ah g7))]) (fun g7 w'=>Hp w ab w' [an g7 86 (sc a),an g3 48 (cc m v),an g2 41 (bo n c (.slice (some ⟨C,s,none⟩) may.length cm))] []) ?_ ?_
    ·refine ao underlying39 av i rfl (by omega) (o':=s+i*4) (by omega) ?_;refine Sl.cA H k bP aD av i rfl z ?_;refine H.alloc 86 (cs:=sc 0) br aY ?_;clear H;intro g6 D H;refine H.aW (b:=a) 0 rfl ?_;clear H;intro Q H;exact ⟨g6,⟨rfl,rfl,trivial⟩,H⟩
    clear H;rintro g7 u D H;refine H.ai 1 rfl bz aO ?_;refine H.ai 0 rfl aD av ?_;refine aa (iS _) ?_;refine H.load 2 rfl aF rfl ?_;refine aj (c160 m v a hm F n _) ?_;rintro _ Q ⟨rfl,E⟩;replace H:=H.same E;clear E;rw[e,y]
    cases C_ m v a n with
    | true=>
     have T:x+2^i<256:=by have:2^i≤2^4:=Nat.pow_le_pow_right (by decide) (by omega);omega
     refine ag rfl ?_;refine cf (by omega) ?_;refine jk (by omega) (by omega) ?_;exact ⟨(),⟨by rw[if_pos rfl,← d];rfl,trivial⟩,H.forget⟩
    | false=>
     refine af rfl ?_;exact ⟨(),⟨by rw[if_neg (by decide),Nat.add_zero];rfl,trivial⟩,H.forget⟩
   ·clear H;rintro ⟨⟩ u D H;exact ⟨i+1,by show may.length - (i+1)<may.length - i;omega,⟨up (by omega),rfl,trivial⟩,by show i+1≤may.length;omega,H⟩
  ·have:i=may.length:=by omega
   subst this;exact ⟨(),⟨rfl,trivial⟩,(H.forget).forget⟩
 clear H;rintro ⟨⟩ u M H;exact ⟨rfl,H.keeps⟩
theorem J8:enters prog 130=true:=by kernel_rfl
theorem c130 {S:dX}(c:cL S)(m v o:Nat)(hm:m<256)(g:v<256)(q:o<256)(Bo:Option Addr)(co:Nat)(Bm:Option Addr)(cm:Nat)(w:World)(e:fY w S Bo co Bm cm) :
  bw prog 130 [r4 S.n (.slice Bo S.on.length co) (.slice Bm S.may.length cm),oU m v o] w fun r w'=>r=.bool (se S m v o)∧aT w w':=by
 refine ar (N:=22) func130 J8 rfl rfl rfl (by simp) ?_;have H:=Hp.aC w;have h:S.may.length≤4:=by rw[c.len];exact c.few
 have i:=yF h m v;refine ak (γ:=Nat × Nat) (fun (g2,g3)=>[(2,(ah g2)),(3,(ah g3)),(4,.bool false)]) (fun (g2,g3) w'=>Hp w ab w' [an g3 50 (eo m v o),an g2 41 (bo S.n (.slice Bo S.on.length co) (.slice Bm S.may.length cm))] []) ?_ ?_
 ·refine H.box 41 _ (cs:=bo S.n (.slice Bo S.on.length co) (.slice Bm S.may.length cm)) rfl ?_;clear H;intro g2 k H;refine H.box 50 (oU m v o) (cs:=eo m v o) rfl ?_;clear H;intro g3 l H;exact ⟨(g2,g3),⟨rfl,rfl,rfl,trivial⟩,H⟩
 clear H;rintro ⟨g2,g3⟩ u k H;refine H.draw eO (by kernel_rfl) ?_;clear H;intro l H;refine quiet _ (fun w H=>H.ai 1 rfl dw bL ae) ?_;refine aj (He c Bo co Bm cm _ (e.same H.keeps)) ?_;rintro _ s ⟨rfl,a⟩;replace H:=H.same a;clear a;refine ⟨.inl H,?_⟩;unfold se;by_cases f:0<o
 ·rw[decide_eq_true f];have d:(0:Int)<o:=by omega
  refine ag rfl ?_;refine quiet _ (fun w H=>aa (dt _ _) ae) ?_;refine ag rfl ?_;refine quiet _ (fun w H=>H.load 0 rfl b5 rfl ae) ?_
  iterate 2 refine ag rfl ?_
  refine ag (decide_eq_true (by assumption)) ?_;refine quiet _ (fun w H=>aa (dt _ _) ae) ?_;refine ag (decide_eq_true (by assumption)) ?_;refine quiet _ (fun w H=>H.load 0 rfl b5 rfl ae) ?_;refine ag (decide_eq_true (by assumption)) ?_;refine quiet _ (fun w H=>H.ai 1 rfl dw bL ae) ?_;refine ag (decide_eq_true (by assumption)) ?_;refine quiet _ (fun w H=>aa (fT _ _) ae) ?_;refine ag (decide_eq_true (by assumption)) ?_;refine quiet (cv m v) (fun w H=>H.cY 0 rfl [.int .u8 (m:Int),.int .u8 (v:Int)] bz aO (fun j u b=>by match j,b with | 0,b=>exact b | 1,b=>exact b) ae) ?_;refine ag (decide_eq_true (by assumption)) ?_;refine aj (J7 c m v hm g _ Bm cm _ (e.may.same H.keeps) rfl) ?_;rintro _ p ⟨rfl,a⟩;replace H:=H.same a;clear a;refine ⟨.inl H,?_⟩;refine ag (decide_eq_true (by assumption)) ?_;refine quiet _ (fun w H=>jD (by omega) (by omega) ae) ?_
  iterate 2 refine ag (decide_eq_true (by assumption)) ?_
  refine ⟨congrArg Value.bool ?_,H.keeps⟩;rw[Bool.true_and,Bool.eq_iff_iff,beq_iff_eq,beq_iff_eq];omega
 ·rw[decide_eq_false f];have d:¬ (0:Int)<o:=by omega
  refine ag rfl ?_;refine quiet _ (fun w H=>aa (dt _ _) ae) ?_;refine ag rfl ?_;refine quiet _ (fun w H=>H.load 0 rfl b5 rfl ae) ?_
  iterate 2 refine ag rfl ?_
  iterate 9 refine af (decide_eq_false (by assumption)) ?_
  exact ⟨rfl,H.keeps⟩
end Go.Proofs.YtpjihhgjbbihkaaGreatDoor
namespace Go.Dk
def ba (S:dX)(m v o:Nat):Nat→Nat × Nat
 | 0=>(m,v)
 | k+1=>if se S (gT (ba S m v o k).1 k) ((ba S m v o k).2 &&&gT (ba S m v o k).1 k) o then (gT (ba S m v o k).1 k,(ba S m v o k).2 &&&gT (ba S m v o k).1 k) else ba S m v o k
theorem ql {S:dX}{m v o:Nat}(hm:m<256)(a:v<256):∀ k,(ba S m v o k).1<256∧(ba S m v o k).2<256
 | 0=>⟨hm,a⟩
 | k+1=>by
  have h:=ql (S:=S) (o:=o) hm a k;unfold ba;split
  ·exact ⟨ra h.1 k,dh h.2 _⟩
  ·exact h
end Go.Dk
namespace Go.Proofs.YtpjihhgjbbihkaaGreatDoor
open Go.Proofs.Tryz
open Go.Dk
set_option maxRecDepth 100000
attribute [local irreducible] IntKind.wrap
theorem qm {m v o:Nat}{w:World}{kk:Value→World→Prop}(h:kk (oU m v o) w):b8 prog 50 [(0,cv m v),(1,.int .u8 (o:Int))] w kk:=
 bt (fun w=>by kernel_rfl) h
theorem Mi:enters prog 91=true:=by kernel_rfl
theorem c91 {S:dX}(i:cL S)(m v o:Nat)(hm:m<256)(s:v<256)(C:o<256)(h:se S m v o=true)(Bo:Option Addr)(co:Nat)(Bm:Option Addr)(cm:Nat)(w:World)(t:fY w S Bo co Bm cm) :
  bw prog 91 [r4 S.n (.slice Bo S.on.length co) (.slice Bm S.may.length cm),oU m v o] w fun r w'=>
   r=.tuple #[oU (ba S m v o S.n).1 (ba S m v o S.n).2 (iR S (ba S m v o S.n).1 (ba S m v o S.n).2),.int .i64 0]∧aT w w':=by
 refine ar (N:=36) func91 Mi rfl rfl rfl (by simp) ?_;have H:=Hp.aC w;have G:=i.n8;have O:S.may.length≤4:=by rw[i.len];exact i.few
 refine ak (γ:=Nat × Nat × Nat) (fun (g2,g3,g4)=>[(2,(ah g2)),(3,(ah g3)),(4,(ah g4)),(5,.int .i64 0)]) (fun (g2,g3,g4) w'=>Hp w ab w' [an g4 50 (eo 0 0 0),an g3 50 (eo m v o),an g2 41 (bo S.n (.slice Bo S.on.length co) (.slice Bm S.may.length cm))] []) ?_ ?_
 ·refine H.box 41 _ (cs:=bo S.n (.slice Bo S.on.length co) (.slice Bm S.may.length cm)) rfl ?_;clear H;intro g2 I H;refine H.box 50 (oU m v o) (cs:=eo m v o) rfl ?_;clear H;intro g3 D H;refine H.alloc 50 (cs:=eo 0 0 0) jz rfl ?_;clear H;intro g4 p H;exact ⟨(g2,g3,g4),⟨rfl,rfl,rfl,rfl,trivial⟩,H⟩
 clear H;rintro ⟨g2,g3,g4⟩ u I H;refine aw (fun w'=>Hp w ab w' [an g4 50 (eo 0 0 0),an g3 50 (eo m v o),an g2 41 (bo S.n (.slice Bo S.on.length co) (.slice Bm S.may.length cm))] []) ?_ ?_
 ·have y:=fun u=>c130 i m v o hm s C Bo co Bm cm u;rw[h] at y;refine H.ai 2 rfl dw bL ?_;refine H.ai 1 rfl gV aZ ?_;refine aj (y _ (t.same H.keeps)) ?_;clear y;rintro _ D ⟨rfl,l⟩;replace H:=H.same l;clear l;refine af rfl ?_;exact ⟨(),trivial,H⟩
 clear H;rintro ⟨⟩ u D H;refine aw (fun w'=>Hp w ab w' [an g4 50 (eo 0 0 0),an g3 50 (eo (ba S m v o S.n).1 (ba S m v o S.n).2 o),an g2 41 (bo S.n (.slice Bo S.on.length co) (.slice Bm S.may.length cm))] []) ?_ ?_
 ·refine aa (iS _) ?_;refine H.load 2 rfl aF rfl ?_;refine ax (γ:=Nat) (fun k=>[(15,.int .i64 (k:Int))]) (fun k w'=>k≤S.n∧Hp w ab w' [an g4 50 (eo 0 0 0),an g3 50 (eo (ba S m v o k).1 (ba S m v o k).2 o),an g2 41 (bo S.n (.slice Bo S.on.length co) (.slice Bm S.may.length cm))] []) (fun k=>S.n - k) 0 ⟨rfl,trivial⟩ ⟨Nat.zero_le _,H⟩ ?_;clear H;rintro k u p ⟨l,H⟩;obtain ⟨a,b⟩:=ql (S:=S) (o:=o) hm s k;have f:ba S m v o (k+1)=if se S (gT (ba S m v o k).1 k) ((ba S m v o k).2 &&&gT (ba S m v o k).1 k) o then (gT (ba S m v o k).1 k,(ba S m v o k).2 &&&gT (ba S m v o k).1 k) else ba S m v o k:=rfl;generalize z:ba S m v o k=c at a b f H;obtain ⟨m',d⟩:=c;replace H:Hp w ab p [an g4 50 (eo 0 0 0),an g3 50 (eo m' d o),an g2 41 (bo S.n (.slice Bo S.on.length co) (.slice Bm S.may.length cm))] []:=H;simp only at a b f;refine au (fun J=>?_) (fun J=>?_)
  ·refine aw (fun w'=>Hp w ab w' [an g4 50 (eo 0 0 0),an g3 50 (eo (ba S m v o (k+1)).1 (ba S m v o (k+1)).2 o),an g2 41 (bo S.n (.slice Bo S.on.length co) (.slice Bm S.may.length cm))] []) ?_ ?_
   ·refine ak (γ:=Unit) (fun _=>[(6,.int .i64 (k:Int))]) (fun _ w'=>Hp w ab w' [an g4 50 (eo 0 0 0),an g3 50 (eo m' d o),an g2 41 (bo S.n (.slice Bo S.on.length co) (.slice Bm S.may.length cm))] []) ⟨(),⟨rfl,trivial⟩,H⟩ ?_;clear H;rintro ⟨⟩ u q H;refine ak (γ:=Nat) (fun g9=>[(7,(ah g9))]) (fun g9 w'=>Hp w ab w' [an g9 50 (eo (gT m' k) (d &&&gT m' k) o),an g4 50 (eo 0 0 0),an g3 50 (eo m' d o),an g2 41 (bo S.n (.slice Bo S.on.length co) (.slice Bm S.may.length cm))] []) ?_ ?_
    ·refine ix (fun u=>Hp w ab u [an g4 50 (eo 0 0 0),an g3 50 (eo m' d o),an g2 41 (bo S.n (.slice Bo S.on.length co) (.slice Bm S.may.length cm))] []) [([3,7,8],[0,1,2,4,5,3,6,7,8]),([7,3,8],[0,1,2,4,5,7,3,6,8])] eO (by kernel_rfl) (H.same (aS.drew _)) ?_;replace H:=H.same (aS.drew _);generalize q.drew=E at H;intro x F;simp only[List.mem_cons,List.not_mem_nil,or_false] at F;rcases F with rfl | rfl
     ·refine quiet _ (fun w H=>aa (fT _ _) ae) ?_;refine quiet (cv m' d) (fun w H=>H.cY 1 rfl [.int .u8 (m':Int),.int .u8 (d:Int)] bz aO (fun j u e=>by match j,e with | 0,e=>exact e | 1,e=>exact e) ae) ?_;refine quiet _ (fun w H=>aa (dt _ _) ae) ?_;refine quiet _ (fun w H=>H.load 1 rfl b5 rfl ae) ?_;refine aj (c131 m' d k a b (by omega) _) ?_;rintro _ A ⟨rfl,g⟩;replace H:=H.same g;clear g;refine ⟨.inl H,?_⟩;refine quiet _ (fun w H=>qm ae) ?_;refine H.alloc 50 (cs:=eo 0 0 0) jz rfl ?_;clear H;intro g9 Q H;refine ⟨.inl H.forget,?_⟩;refine H.storeAll 0 rfl aZ rfl (dT _ _ _) ?_;clear H;intro K H;refine ⟨.inl H.forget,?_⟩;exact ⟨g9,⟨rfl,trivial⟩,H⟩
     ·refine quiet _ (fun w H=>aa (fT _ _) ae) ?_;refine quiet (cv m' d) (fun w H=>H.cY 1 rfl [.int .u8 (m':Int),.int .u8 (d:Int)] bz aO (fun j u e=>by match j,e with | 0,e=>exact e | 1,e=>exact e) ae) ?_;refine quiet _ (fun w H=>aa (dt _ _) ae) ?_;refine quiet _ (fun w H=>H.load 1 rfl b5 rfl ae) ?_;refine H.alloc 50 (cs:=eo 0 0 0) jz rfl ?_;clear H;intro g9 A H;refine ⟨.inl H.forget,?_⟩;refine aj (c131 m' d k a b (by omega) _) ?_;rintro _ M ⟨rfl,g⟩;replace H:=H.same g;clear g;refine ⟨.inl H.forget,?_⟩;refine quiet _ (fun w H=>qm ae) ?_;refine H.storeAll 0 rfl aZ rfl (dT _ _ _) ?_;clear H;intro K H;refine ⟨.inl H.forget,?_⟩;exact ⟨g9,⟨rfl,trivial⟩,H⟩
    clear H;rintro g9 u E H;refine H.ai 3 rfl dw bL ?_;refine H.ai 0 rfl gV aZ ?_;refine aj (c130 i _ _ o (ra a k) (dh b _) C Bo co Bm cm _ (t.same H.keeps)) ?_;rintro _ A ⟨rfl,B⟩;replace H:=H.same B;rw[f]
    cases hb:se S (gT m' k) (d &&&gT m' k) o with
    | true=>
     refine ag rfl ?_;refine H.ai 0 rfl gV aZ ?_;refine H.storeAll 2 rfl aZ rfl (dT _ _ _) ?_;clear H;intro M H;exact ⟨(),trivial,by rw[if_pos rfl];exact H.forget⟩
    | false=>
     refine af rfl ?_;exact ⟨(),trivial,by rw[if_neg (by decide)];exact H.forget⟩
   ·clear H;rintro ⟨⟩ u q H;exact ⟨k+1,by show S.n - (k+1)<S.n - k;omega,⟨up (by omega),trivial⟩,by show k+1≤S.n;omega,H⟩
  ·have:k=S.n:=by omega
   subst this;exact ⟨(),trivial,by rw[z];exact H⟩
 clear H;rintro ⟨⟩ u p H;obtain ⟨a,b⟩:=ql (S:=S) (o:=o) hm s S.n;generalize ba S m v o S.n=c at a b H;obtain ⟨m',d⟩:=c;replace H:Hp w ab p [an g4 50 (eo 0 0 0),an g3 50 (eo m' d o),an g2 41 (bo S.n (.slice Bo S.on.length co) (.slice Bm S.may.length cm))] []:=H;simp only at a b;refine aw (fun w'=>Hp w ab w' [an g4 50 (eo 0 0 0),an g3 50 (eo m' d (iR S m' d)),an g2 41 (bo S.n (.slice Bo S.on.length co) (.slice Bm S.may.length cm))] []) ?_ ?_
 ·refine H.ai 2 rfl dw bL ?_;refine aa (fT _ _) ?_;refine H.cY 1 rfl [.int .u8 (m':Int),.int .u8 (d:Int)] bz aO (fun j u e=>by match j,e with | 0,e=>exact e | 1,e=>exact e) ?_;refine aj (J7 i m' d a b _ Bm cm _ (t.may.same H.keeps) rfl) ?_;rintro _ q ⟨rfl,l⟩;replace H:=H.same l;refine aa (dt _ _) ?_;refine H.store 1 rfl j4 (Nat.le_of_ble_eq_true rfl) rfl ?_;clear H;intro A H;exact ⟨(),trivial,H⟩
 clear H;rintro ⟨⟩ u q H;refine H.ai 1 rfl gV aZ ?_;refine H.storeAll 0 rfl aZ rfl (dT _ _ _) ?_;clear H;intro E H;refine H.ai 0 rfl gV aZ ?_;refine ⟨rfl,?_⟩;exact ⟨rfl,H.keeps⟩
end Go.Proofs.YtpjihhgjbbihkaaGreatDoor
namespace Go.Dk
abbrev Rw:=Nat × Nat × Nat
structure gE (n k:Nat) (x:Rw):Prop where
 m:x.1<256
 v:x.2.1<256
 o:x.2.2<256
 right:dJ x.1 x.2.1 n=true
 some:0<x.2.2
 few:x.2.2<2^k
def fU (n out:Nat)(l:List Rw):Nat:=l.foldl (fun s x=>if x.2.2.testBit out then s |||bd x.1 x.2.1 n else s) 0
theorem Db (n out:Nat)(l:List Rw)(x:Rw):fU n out (l++[x])=if x.2.2.testBit out then fU n out l |||bd x.1 x.2.1 n else fU n out l:=by
 unfold fU;rw[List.foldl_append];rfl
theorem vu (n out p:Nat):∀ (l:List Rw) (s:Nat),(l.foldl (fun s x=>if x.2.2.testBit out then s |||bd x.1 x.2.1 n else s) s).testBit p=true↔s.testBit p=true∨∃ x ∈ l,x.2.2.testBit out=true∧(bd x.1 x.2.1 n).testBit p=true
 | [],s=>by simp
 | x::l,s=>by
  rw[List.foldl_cons,vu n out p l]
  cases hx:x.2.2.testBit out with
  | true=>simp[hx,or_assoc]
  | false=>simp[hx]
theorem fG {n out p:Nat}{l:List Rw}:(fU n out l).testBit p=true↔∃ x ∈ l,x.2.2.testBit out=true∧(bd x.1 x.2.1 n).testBit p=true:=by
 unfold fU;rw[vu];simp
theorem wN (n out:Nat)(l:List Rw):fU n out l<2^256:=by
 refine Nat.lt_pow_two_of_testBit _ fun p a=>?_;rw[Bool.eq_false_iff];intro h;obtain ⟨x,_,_,h⟩:=fG.1 h;rw[kE (pP _ _ _) a] at h
 cases h
def bA (S:dX)(l:List Rw):Bool:=(List.range S.on.length).all fun j=>(bU (S.on.getD j 0) (fU S.n j l)==0)&&(bU (fU S.n j l) (S.may.getD j 0)==0)
end Go.Dk
namespace Go.Proofs.YtpjihhgjbbihkaaGreatDoor
open Go.Proofs.Tryz
open Go.Dk
set_option maxRecDepth 100000
attribute [local irreducible] IntKind.wrap
def a6 (x:Rw):List Value:=[.int .u8 (x.1:Int),.int .u8 (x.2.1:Int),.int .u8 (x.2.2:Int)]
theorem bl (x:Rw):(a6 x).length=3:=rfl
theorem iT {l:List Rw}{j:Nat}(h:j<l.length):∃ x,l[j]?=some x∧x ∈ l:=⟨_,List.getElem?_eq_getElem h,List.getElem_mem h⟩
theorem iU {α:Type}{l:List α}{j:Nat}{x:α}(h:l[j]?=some x):l.take (j+1)=l.take j++[x]:=by rw[List.take_add_one,h];rfl
theorem Mj:enters prog 59=true:=by kernel_rfl
theorem c59 {S:dX}(h:cL S)(l:List Rw)(z:∀ x ∈ l,gE S.n S.on.length x)(B:l.length≤9223372036854775807)(Bo:Option Addr)(co:Nat)(a:Value)(C:a.oneCell'=true)(A:Option Addr)(c:Nat)(w:World)(O:Sl w (.slice Bo S.on.length co) 4 S.on.length (flat bK S.on))(k:Sl w (.slice A l.length c) 3 l.length (flat a6 l)) :
  bw prog 59 [r4 S.n (.slice Bo S.on.length co) a,.slice A l.length c] w fun r w'=>r=.bool true∧aT w w':=by
 refine ar (N:=35) func59 Mj rfl rfl rfl (by simp) ?_;have H:=Hp.aC w;have Q:=h.n8;have D:=h.few;refine ak (γ:=Nat) (fun g2=>[(2,(ah g2)),(4,.bool false)]) (fun g2 w'=>Hp w ab w' [an g2 41 (bo S.n (.slice Bo S.on.length co) a)] []) ?_ ?_
 ·refine H.box 41 _ (cs:=bo S.n (.slice Bo S.on.length co) a) rfl ?_;clear H;intro g2 E H;exact ⟨g2,⟨rfl,rfl,trivial⟩,H⟩
 clear H;rintro g2 u E H;refine aw (fun w'=>Hp w ab w' [an g2 41 (bo S.n (.slice Bo S.on.length co) a)] []) ?_ ?_
 ·refine ay underlying44 ?_;refine ax (γ:=Nat) (fun i=>[(9,.int .i64 (i:Int))]) (fun i w'=>i≤l.length∧Hp w ab w' [an g2 41 (bo S.n (.slice Bo S.on.length co) a)] []) (fun i=>l.length - i) 0 ⟨rfl,trivial⟩ ⟨Nat.zero_le _,H⟩ ?_;clear H;rintro i u F ⟨hi,H⟩;refine au (fun G=>?_) (fun G=>?_)
  ·obtain ⟨x,I,d⟩:=iT (l:=l) (j:=i) (by omega);obtain ⟨hm,p,J,q,b,e⟩:=z x d;obtain ⟨m,v,o⟩:=x;simp only at hm p J q b e;obtain ⟨T,K,rfl⟩:=k.A (by omega);refine aw (fun w'=>Hp w ab w' [an g2 41 (bo S.n (.slice Bo S.on.length co) a)] []) ?_ ?_
   ·refine ak (γ:=Nat) (fun g6=>[(6,(ah g6))]) (fun g6 w'=>Hp w ab w' [an g6 50 (eo m v o),an g2 41 (bo S.n (.slice Bo S.on.length co) a)] []) ?_ ?_
    ·refine ao underlying44 aZ i rfl (by omega) (o':=K+i*3) (by omega) ?_;refine Sl.cA H k bl gV aZ i rfl I ?_;refine H.alloc 50 (cs:=eo 0 0 0) jz rfl ?_;clear H;intro g6 s H;refine H.storeAll (cs':=eo m v o) 0 rfl aZ rfl (dT _ _ _) ?_;clear H;intro t H;exact ⟨g6,⟨rfl,trivial⟩,H⟩
    clear H;rintro g6 u s H;have M:2^S.on.length≤2^4:=Nat.pow_le_pow_right (by decide) D;have U:((o:Int)==0)=false:=by rw[beq_eq_false_iff_ne];omega
    have V:¬ ((2^S.on.length:Nat):Int)≤o:=by omega
    refine H.draw eO (by kernel_rfl) ?_;clear H;intro t H;refine quiet _ (fun w H=>aa (fT _ _) ae) ?_;refine quiet (cv m v) (fun w H=>H.cY 0 rfl [.int .u8 (m:Int),.int .u8 (v:Int)] bz aO (fun j u f=>by match j,f with | 0,f=>exact f | 1,f=>exact f) ae) ?_;refine quiet _ (fun w H=>aa (iS _) ae) ?_;refine quiet _ (fun w H=>H.load 1 rfl aF rfl ae) ?_;have g:=c75 m v hm p (S.n:Int) t;rw[q] at g;refine aj g ?_;clear g;rintro _ X ⟨rfl,y⟩;replace H:=H.same y;clear y;refine ⟨.inl H,?_⟩;refine af rfl ?_;refine quiet _ (fun w H=>aa (dt _ _) ae) ?_;refine af rfl ?_;refine quiet _ (fun w H=>H.load 0 rfl b5 rfl ae) ?_
    iterate 2 refine af rfl ?_
    refine af (by assumption) ?_;refine quiet _ (fun w H=>aa (dt _ _) ae) ?_;refine af (by assumption) ?_;refine quiet _ (fun w H=>H.load 0 rfl b5 rfl ae) ?_;refine af (by assumption) ?_;refine quiet _ (fun w H=>iK (by kernel_rfl) underlying3 (by omega) (by omega) ae) ?_;refine af (by assumption) ?_;refine quiet _ (fun w H=>aa (fR _) ae) ?_;refine af (by assumption) ?_;refine quiet _ (fun w H=>H.load 1 rfl dS rfl ae) ?_;refine af (by assumption) ?_;refine quiet _ (fun w H=>ay underlying39 ae) ?_;refine af (by assumption) ?_;refine quiet _ (fun w H=>c6 (by omega) ae) ?_
    iterate 2 refine af (by assumption) ?_
    refine af (decide_eq_false (by assumption)) ?_;exact ⟨(),trivial,H.forget⟩
   ·clear H;rintro ⟨⟩ u s H;exact ⟨i+1,by show l.length - (i+1)<l.length - i;omega,⟨congrArg (Value.int .i64) (aH (x:=((i:Int)+1)) (by omega) (by omega)),trivial⟩,by show i+1≤l.length;omega,H⟩
  ·exact ⟨(),trivial,H⟩
 clear H;rintro ⟨⟩ u F H;exact ⟨rfl,H.keeps⟩
theorem J9:enters prog 133=true:=by kernel_rfl
theorem N6 (n out:Nat)(Q:n≤8)(q:out<4)(l:List Rw){kk:Nat}(E:∀ x ∈ l,gE n kk x)(F:l.length≤1000000)(A:Option Addr)(c:Nat)(w:World)(s:Sl w (.slice A l.length c) 3 l.length (flat a6 l)) :
  bw prog 133 [.slice A l.length c,.int .i64 (n:Int),.int .i64 (out:Int)] w fun r w'=>r=.tuple #[sv (fU n out l),.int .i64 0]∧aT w w':=by
 refine ar (N:=56) func133 J9 rfl rfl rfl (by simp) ?_;have H:=Hp.aC w;refine ak (γ:=Nat) (fun g6=>[(6,(ah g6)),(7,.int .i64 0)]) (fun g6 w'=>Hp w ab w' [an g6 86 (sc 0)] []) ?_ ?_
 ·refine H.alloc 86 (cs:=sc 0) br aY ?_;clear H;intro g6 t H;exact ⟨g6,⟨rfl,rfl,trivial⟩,H⟩
 clear H;rintro g6 u t H;refine aw (fun w'=>Hp w ab w' [an g6 86 (sc 0)] []) ?_ ?_
 ·have S:¬ (n:Int)<0:=by omega
  have T:¬ (8:Int)<n:=by omega
  have U:¬ (out:Int)<0:=by omega
  have V:¬ (4:Int)≤out:=by omega
  iterate 3 refine af rfl ?_
  iterate 3 refine af (decide_eq_false (by assumption)) ?_
  iterate 3 refine af rfl ?_
  refine af (decide_eq_false (by assumption)) ?_;exact ⟨(),trivial,H⟩
 clear H;rintro ⟨⟩ u G H;refine ak (γ:=Nat) (fun g8=>[(8,(ah g8))]) (fun g8 w'=>Hp w ab w' [an g8 86 (sc 0),an g6 86 (sc 0)] []) ?_ ?_
 ·refine H.alloc 86 (cs:=sc 0) br aY ?_;clear H;intro g8 t H;exact ⟨g8,⟨rfl,trivial⟩,H⟩
 clear H;rintro g8 u G H;refine aw (fun w'=>Hp w ab w' [an g8 86 (sc (fU n out l)),an g6 86 (sc 0)] []) ?_ ?_
 ·refine ay underlying44 ?_;refine ax (γ:=Nat) (fun i=>[(30,.int .i64 (i:Int))]) (fun i w'=>i≤l.length∧Hp w ab w' [an g8 86 (sc (fU n out (l.take i))),an g6 86 (sc 0)] []) (fun i=>l.length - i) 0 ⟨rfl,trivial⟩ ⟨Nat.zero_le _,H⟩ ?_;clear H;rintro i u I ⟨hi,H⟩;refine au (fun J=>?_) (fun J=>?_)
  ·obtain ⟨x,y,e⟩:=iT (l:=l) (j:=i) (by omega);have a:=Db n out (l.take i) x;rw[← iU y] at a;obtain ⟨hm,z,B,C,d,f⟩:=E x e;obtain ⟨m,v,o⟩:=x;simp only at hm z B C d f a;obtain ⟨X,K,rfl⟩:=s.A (by omega);generalize fU n out (l.take i)=s0 at H a;refine aw (fun w'=>Hp w ab w' [an g8 86 (sc (fU n out (l.take (i+1)))),an g6 86 (sc 0)] []) ?_ ?_
   ·refine ak (γ:=Nat) (fun g10=>[(10,(ah g10))]) (fun g10 w'=>Hp w ab w' [an g10 50 (eo m v o),an g8 86 (sc s0),an g6 86 (sc 0)] []) ?_ ?_
    ·refine ao underlying44 aZ i rfl (by omega) (o':=K+i*3) (by omega) ?_;refine Sl.cA H s bl gV aZ i rfl y ?_;refine H.alloc 50 (cs:=eo 0 0 0) jz rfl ?_;clear H;intro g10 h H;refine H.storeAll (cs':=eo m v o) 0 rfl aZ rfl (dT _ _ _) ?_;clear H;intro D H;exact ⟨g10,⟨rfl,trivial⟩,H⟩
    clear H;rintro g10 u h H;refine ak (γ:=Nat) (fun g11=>[(11,(ah g11)),(12,.int .i64 0)]) (fun g11 w'=>Hp w ab w' [an g11 86 (sc (bd m v n)),an g10 50 (eo m v o),an g8 86 (sc s0),an g6 86 (sc 0)] []) ?_ ?_
    ·refine aa (fT _ _) ?_;refine H.cY 0 rfl [.int .u8 (m:Int),.int .u8 (v:Int)] bz aO (fun j u g=>by match j,g with | 0,g=>exact g | 1,g=>exact g) ?_;have p:=NR m v hm z (n:Int) h;rw[C,if_pos rfl,Int.toNat_natCast] at p;refine aj p ?_;clear p;rintro _ D ⟨rfl,k⟩;replace H:=H.same k;clear k;refine H.alloc 86 (cs:=sc 0) br aY ?_;clear H;intro g11 M H;refine H.aW 0 rfl ?_;clear H;intro O H;exact ⟨g11,⟨rfl,rfl,trivial⟩,H⟩
    clear H;rintro g11 u D H;refine aw (fun w'=>Hp w ab w' [an g11 86 (sc (bd m v n)),an g10 50 (eo m v o),an g8 86 (sc s0),an g6 86 (sc 0)] []) ?_ ?_
    ·refine af rfl ?_;exact ⟨(),trivial,H⟩
    clear H;rintro ⟨⟩ u M H;refine aa (dt _ _) ?_;refine H.load 1 rfl b5 rfl ?_;refine e7 (by omega) ?_;refine dV (b:=1) (Nat.lt_of_le_of_lt (Nat.div_le_self _ _) B) (by omega) ?_;rw[a]
    cases hob:o.testBit out with
    | true=>
     refine ag ((cG o out).trans hob) ?_;refine H.ai 2 rfl aD av ?_;refine H.ai 0 rfl aD av ?_;refine aj (LF _ _ _) ?_;rintro _ O ⟨rfl,k⟩;replace H:=H.same k;refine H.aW 2 rfl ?_;clear H;intro Y H;exact ⟨(),trivial,by rw[if_pos rfl];exact H.forget.forget⟩
    | false=>
     refine af ((cG o out).trans hob) ?_;exact ⟨(),trivial,by rw[if_neg (by decide)];exact H.forget.forget⟩
   ·clear H;rintro ⟨⟩ u h H;exact ⟨i+1,by show l.length - (i+1)<l.length - i;omega,⟨up (by omega),trivial⟩,by show i+1≤l.length;omega,H⟩
  ·have:i=l.length:=by omega
   subst this;exact ⟨(),trivial,by rw[List.take_length] at H;exact H⟩
 clear H;rintro ⟨⟩ u I H;refine H.ai 0 rfl aD av ?_;refine H.aW 1 rfl ?_;clear H;intro h H;refine H.ai 1 rfl aD av ?_;exact ⟨rfl,rfl,H.keeps⟩
theorem Mk:enters prog 92=true:=by kernel_rfl
theorem OQ {S:dX}(k:cL S)(l:List Rw)(J:∀ x ∈ l,gE S.n S.on.length x)(y:l.length≤1000000)(Bo:Option Addr)(co:Nat)(Bm:Option Addr)(cm:Nat)(A:Option Addr)(c:Nat)(w:World)(g:fY w S Bo co Bm cm)(K:Sl w (.slice A l.length c) 3 l.length (flat a6 l)) :
  bw prog 92 [r4 S.n (.slice Bo S.on.length co) (.slice Bm S.may.length cm),.slice A l.length c] w fun r w'=>r=.bool (bA S l)∧aT w w':=by
 refine ar (N:=49) func92 Mk rfl rfl rfl (by simp) ?_;have H:=Hp.aC w;have Z:=k.n8;have h4:=k.few;have a0:=k.len;refine ak (γ:=Nat) (fun g2=>[(2,(ah g2)),(4,.bool false)]) (fun g2 w'=>Hp w ab w' [an g2 41 (bo S.n (.slice Bo S.on.length co) (.slice Bm S.may.length cm))] []) ?_ ?_
 ·refine H.box 41 _ (cs:=bo S.n (.slice Bo S.on.length co) (.slice Bm S.may.length cm)) rfl ?_;clear H;intro g2 w1 H;exact ⟨g2,⟨rfl,rfl,trivial⟩,H⟩
 clear H;rintro g2 u w1 H;refine aw (fun w'=>Hp w ab w' [an g2 41 (bo S.n (.slice Bo S.on.length co) (.slice Bm S.may.length cm))] []) ?_ ?_
 ·refine H.ai 0 rfl dw bL ?_;refine aj (He k Bo co Bm cm _ (g.same H.keeps)) ?_;rintro _ w3 ⟨rfl,d⟩;replace H:=H.same d;clear d;refine af rfl ?_;refine H.ai 0 rfl dw bL ?_
  iterate 2 refine af rfl ?_
  refine aj (c59 k l J (by omega) Bo co _ rfl A c _ (g.on.same H.keeps) (K.same H.keeps)) ?_;rintro _ w10 ⟨rfl,d⟩;replace H:=H.same d;clear d
  iterate 3 refine af rfl ?_
  exact ⟨(),trivial,H⟩
 clear H;rintro ⟨⟩ u w2 H;have m:bA S l=(List.range S.on.length).all fun j=>(bU (S.on.getD j 0) (fU S.n j l)==0)&&(bU (fU S.n j l) (S.may.getD j 0)==0):=rfl;refine aw (fun w'=>bA S l=true∧Hp w ab w' [] []) ?_ ?_
 ·refine aa (fR _) ?_;refine H.load 0 rfl dS rfl ?_;refine ay underlying39 ?_;refine ax (γ:=Nat) (fun i=>[(21,.int .i64 (i:Int))]) (fun i w'=>(i≤S.on.length∧∀ j,j<i→((bU (S.on.getD j 0) (fU S.n j l)==0)&&(bU (fU S.n j l) (S.may.getD j 0)==0))=true)∧Hp w ab w' [an g2 41 (bo S.n (.slice Bo S.on.length co) (.slice Bm S.may.length cm))] []) (fun i=>S.on.length - i) 0 ⟨rfl,trivial⟩ ⟨⟨Nat.zero_le _,fun j h=>absurd h (Nat.not_lt_zero _)⟩,H⟩ ?_;clear H;rintro i u w4 ⟨⟨hi,f⟩,H⟩;refine au (fun h7=>?_) (fun h7=>?_)
  ·obtain ⟨a,M,o⟩:=lC (l:=S.on) (j:=i) (by omega);obtain ⟨b,z,O⟩:=lC (l:=S.may) (j:=i) (by omega);have Q:S.on.getD i 0=a:=by rw[List.getD_eq_getElem?_getD,M];rfl
   have T:S.may.getD i 0=b:=by rw[List.getD_eq_getElem?_getD,z];rfl
   obtain ⟨B,t,rfl⟩:=g.on.A (by omega);obtain ⟨D,p,rfl⟩:=g.may.A (by omega);refine aw (fun w'=>((bU a (fU S.n i l)==0)&&(bU (fU S.n i l) b==0))=true∧Hp w ab w' [an g2 41 (bo S.n (.slice (some ⟨B,t,none⟩) S.on.length co) (.slice (some ⟨D,p,none⟩) S.may.length cm))] []) ?_ ?_
   ·refine ak (γ:=Nat) (fun g6=>[(5,.int .i64 (i:Int)),(6,(ah g6))]) (fun g6 w'=>Hp w ab w' [an g6 86 (sc a),an g2 41 (bo S.n (.slice (some ⟨B,t,none⟩) S.on.length co) (.slice (some ⟨D,p,none⟩) S.may.length cm))] []) ?_ ?_
    ·refine ao underlying39 av i rfl (by omega) (o':=t+i*4) (by omega) ?_;refine Sl.cA H g.on bP aD av i rfl M ?_;refine H.alloc 86 (cs:=sc 0) br aY ?_;clear H;intro g6 U H;refine H.aW (b:=a) 0 rfl ?_;clear H;intro V H;exact ⟨g6,⟨rfl,rfl,trivial⟩,H⟩
    clear H;rintro g6 u U H;have q:=wN S.n i l;refine ak (γ:=Nat) (fun g7=>[(7,(ah g7))]) (fun g7 w'=>Hp w ab w' [an g7 86 (sc (fU S.n i l)),an g6 86 (sc a),an g2 41 (bo S.n (.slice (some ⟨B,t,none⟩) S.on.length co) (.slice (some ⟨D,p,none⟩) S.may.length cm))] []) ?_ ?_
    ·refine aa (iS _) ?_;refine H.load 1 rfl aF rfl ?_;refine aj (N6 S.n i Z (by omega) l J y A c _ (K.same H.keeps)) ?_;rintro _ V ⟨rfl,d⟩;replace H:=H.same d;clear d;refine H.alloc 86 (cs:=sc 0) br aY ?_;clear H;intro g7 X H;refine H.aW 0 rfl ?_;clear H;intro w8 H;exact ⟨g7,⟨rfl,trivial⟩,H⟩
    clear H;rintro g7 u V H;generalize E:fU S.n i l=C at q H;have e:((bU a C==0)&&(bU C b==0))=false→bA S l=false:=fun h=>by
     rw[m,List.all_eq_false];exact ⟨i,List.mem_range.2 (by omega),by rw[Q,T,E,h];decide⟩
    refine H.draw eO (by kernel_rfl) ?_;clear H;intro X H;refine quiet _ (fun w H=>H.ai 1 rfl aD av ae) ?_;refine quiet _ (fun w H=>H.ai 0 rfl aD av ae) ?_;refine aj (c85 a C (k.onlt a o) X) ?_;rintro _ w8 ⟨rfl,d⟩;replace H:=H.same d;clear d;refine ⟨.inl H,?_⟩
    cases h1:(bU a C==0) with
    | false=>
     rw[h1] at e
     iterate 10 refine ag rfl ?_
     refine ⟨congrArg Value.bool ?_,H.keeps⟩;exact (e rfl).symm
    | true=>
     rw[h1] at e;have v:=fun u=>c85 C b q u
     cases h2:(bU C b==0) with
     | false=>
      rw[h2] at e v;refine af rfl ?_;refine quiet _ (fun w H=>H.ai 0 rfl aD av ae) ?_;refine af rfl ?_;refine quiet _ (fun w H=>aa (fS _) ae) ?_;refine af rfl ?_;refine quiet _ (fun w H=>H.load 2 rfl dS rfl ae) ?_
      iterate 2 refine af rfl ?_
      refine quiet _ (fun w H=>ao underlying39 av i rfl (by omega) (o':=p+i*4) (by omega) ae) ?_;refine af rfl ?_;refine quiet (sv b) (fun w H=>Sl.cA H g.may bP aD av i rfl z ae) ?_;refine af rfl ?_;refine aj (v _) ?_;rintro _ F ⟨rfl,d⟩;replace H:=H.same d;clear d;refine ⟨.inl H,?_⟩
      iterate 2 refine af rfl ?_
      refine ag rfl ?_;refine ⟨congrArg Value.bool ?_,H.keeps⟩;exact (e rfl).symm
     | true=>
      rw[h2] at v;refine af rfl ?_;refine quiet _ (fun w H=>H.ai 0 rfl aD av ae) ?_;refine af rfl ?_;refine quiet _ (fun w H=>aa (fS _) ae) ?_;refine af rfl ?_;refine quiet _ (fun w H=>H.load 2 rfl dS rfl ae) ?_
      iterate 2 refine af rfl ?_
      refine quiet _ (fun w H=>ao underlying39 av i rfl (by omega) (o':=p+i*4) (by omega) ae) ?_;refine af rfl ?_;refine quiet (sv b) (fun w H=>Sl.cA H g.may bP aD av i rfl z ae) ?_;refine af rfl ?_;refine aj (v _) ?_;rintro _ F ⟨rfl,d⟩;replace H:=H.same d;clear d;refine ⟨.inl H,?_⟩
      iterate 3 refine af rfl ?_
      exact ⟨(),trivial,rfl,H.forget.forget⟩
   ·clear H;rintro ⟨⟩ u U ⟨G,H⟩;exact ⟨i+1,by show S.on.length - (i+1)<S.on.length - i;omega,⟨up (by omega),trivial⟩,⟨by show i+1≤S.on.length;omega,fun j Y=>by
     by_cases I:j=i
     ·subst I;rw[Q,T];exact G
     ·exact f j (by omega)⟩,H⟩
  ·exact ⟨(),trivial,by rw[m,List.all_eq_true];exact fun j Y=>f j (by have:=List.mem_range.1 Y;omega),H.forget⟩
 clear H;rintro ⟨⟩ u w4 ⟨s,H⟩;exact ⟨congrArg Value.bool s.symm,H.keeps⟩
end Go.Proofs.YtpjihhgjbbihkaaGreatDoor
namespace Go.Dk
def uP (n s j:Nat):Prop:=∀ p,p<2^n→s.testBit (p ^^^ 2^j)=s.testBit p
def dn (n:Nat)(L:List (Nat × Nat)):Nat:=L.foldl (fun s c=>s |||bd c.1 c.2 n) 0
theorem An (n:Nat)(L:List (Nat × Nat))(c:Nat × Nat):dn n (L++[c])=dn n L |||bd c.1 c.2 n:=by
 unfold dn;rw[List.foldl_append];rfl
theorem vw (n p:Nat):∀ (L:List (Nat × Nat)) (s:Nat),(L.foldl (fun s c=>s |||bd c.1 c.2 n) s).testBit p=true↔s.testBit p=true∨∃ c ∈ L,(bd c.1 c.2 n).testBit p=true
 | [],s=>by simp
 | c::L,s=>by
  rw[List.foldl_cons,vw n p L];simp[or_assoc]
theorem dU {n p:Nat}{L:List (Nat × Nat)}:(dn n L).testBit p=true↔∃ c ∈ L,(bd c.1 c.2 n).testBit p=true:=by
 unfold dn;rw[vw];simp
structure gF (n i:Nat) (c:Nat × Nat):Prop where
 lt:c.1<2^n
 sub:c.2 &&&c.1=c.2
 from_:∀ j,j<i→c.1.testBit j=false
structure kR (n i on may:Nat) (L:List (Nat × Nat)):Prop where
 cubes:∀ c ∈ L,gF n i c
 uI:cq (dn n L) may
 out:cq on (dn n L)
 len:L.length≤3^(n - i)
theorem kR.none {n i may:Nat}:kR n i 0 may []:=
 ⟨fun c h=>by simp at h,fun p h=>by obtain ⟨c,a,_⟩:=dU.1 h;simp at a,fun p h=>by simp at h,Nat.zero_le _⟩
theorem gG {n p:Nat}(a:n≤8):(bp n).testBit p=decide (p<2^n):=by
 have b:2^n≤2^8:=Nat.pow_le_pow_right (by decide) a;unfold bp;rw[bO];by_cases h:p<2^n
 ·rw[decide_eq_true h,decide_eq_true (show p<256 by omega)];rfl
 ·rw[decide_eq_false h,Bool.and_false]
theorem kR.all {n i on:Nat}(a:n≤8)(b:cq on (bp n)):kR n i on (bp n) [(0,0)]:=by
 have e:∀ p,(dn n [(0,0)]).testBit p=true↔p<2^n:=fun p=>by
  rw[dU];simp only[List.mem_singleton,exists_eq_left];rw[bD a];simp
 refine ⟨fun c f=>?_,fun p d=>?_,fun p d=>?_,Nat.one_le_pow _ _ (by decide)⟩
 ·rw[List.mem_singleton] at f;subst f;exact ⟨Nat.two_pow_pos _,rfl,fun j _=>by simp⟩
 ·rw[gG a,decide_eq_true ((e p).1 d)]
 ·have:=b p d;rw[gG a,decide_eq_true_eq] at this;exact (e p).2 this
theorem fA {s n p:Nat}(a:n≤8)(hs:cq s (bp n))(b:s.testBit p=true):p<2^n:=by
 have:=hs p b
 rwa [gG a,decide_eq_true_eq] at this
theorem mR {n p i:Nat}(hi:i<n)(a:p<2^n):p ^^^ 2^i<2^n:=Nat.xor_lt_two_pow a (Nat.pow_lt_pow_right (by decide) hi)
theorem jV {s n i:Nat}(a:n≤8)(hs:cq s (bp n))(hi:i<n)(one:Bool){p:Nat}(b:p<2^n):(cS (cK s i one) i).testBit p=s.testBit (if p.testBit i=one then p else p ^^^ 2^i):=by
 have f:2^n≤2^8:=Nat.pow_le_pow_right (by decide) a;have g:=mR hi b;have e:(p ^^^ 2^i).testBit i= !p.testBit i:=by rw[Nat.testBit_xor,Nat.testBit_two_pow];simp
 unfold cS cK;rw[bO,bO,bO,decide_eq_true (show p<256 by omega),decide_eq_true (show p ^^^ 2^i<256 by omega),e];by_cases h:p.testBit i=one
 ·rw[if_pos h,h]
  cases one <;> simp
 ·rw[if_neg h];have c:(!p.testBit i)=one:=by cases hb:p.testBit i <;> cases one <;> simp_all
  rw[c];have d:(p.testBit i==one)=false:=by rw[beq_eq_false_iff_ne];exact h
  rw[d];simp
theorem mj {s n i:Nat}(b:n≤8)(hs:cq s (bp n))(hi:i<n)(one:Bool):cq (cS (cK s i one) i) (bp n):=fun p a=>by
 unfold cS cK at a;rw[bO,bO,bO] at a;simp only[Bool.and_eq_true,Bool.or_eq_true] at a;rw[gG b,decide_eq_true_eq];rcases a.2 with h | h
 ·exact fA b hs h.2.1
 ·have:=mR hi (fA b hs h.2.1)
  rwa [flip_flip] at this
theorem nP {s n i:Nat}(c:n≤8)(hs:cq s (bp n))(hi:i<n)(one:Bool){j:Nat}(f:j<i→uP n s j)(g:j≤i):uP n (cS (cK s i one) i) j:=fun p a=>by
 have b:j<n:=by omega
 have k:=mR b a;rw[jV c hs hi one k,jV c hs hi one a];by_cases he:j=i
 ·subst he;have e:(p ^^^ 2^j).testBit j= !p.testBit j:=by rw[Nat.testBit_xor,Nat.testBit_two_pow];simp
  rw[e];by_cases h:p.testBit j=one
  ·rw[if_pos h,if_neg (by rw[h];cases one <;> decide),flip_flip]
  ·rw[if_neg h,if_pos (by cases l:p.testBit j <;> cases one <;> simp_all)]
 ·have e:(p ^^^ 2^j).testBit i=p.testBit i:=by rw[Nat.testBit_xor,Nat.testBit_two_pow];simp[he]
  rw[e];have d:=f (by omega);by_cases h:p.testBit i=one
  ·rw[if_pos h,if_pos h];exact d p a
  ·rw[if_neg h,if_neg h,Nat.xor_assoc,Nat.xor_comm (2^j),← Nat.xor_assoc];exact d _ (mR hi a)
theorem tI {n a b j:Nat}(c:a<2^256)(e:uP n a j)(f:uP n b j):uP n (bU a b) j:=fun p d=>by
 rw[bX c,bX c,e p d,f p d]
theorem BU {n a b j:Nat}(d:uP n a j)(e:uP n b j):uP n (a &&&b) j:=fun p c=>by
 rw[Nat.testBit_and,Nat.testBit_and,d p c,e p c]
theorem J_ {n a b j:Nat}(d:uP n a j)(e:uP n b j):uP n (a |||b) j:=fun p c=>by
 rw[Nat.testBit_or,Nat.testBit_or,d p c,e p c]
theorem yJ {n i:Nat}(o:n≤8){L:List (Nat × Nat)}(h:∀ c ∈ L,gF n i c){j:Nat}(q:j<i)(a:j<n):uP n (dn n L) j:=fun p d=>by
 have key:∀ p,p<2^n→(dn n L).testBit p=true→(dn n L).testBit (p ^^^ 2^j)=true:=fun p d f=>by
  obtain ⟨c,m,b⟩:=dU.1 f;obtain ⟨t,r,s⟩:=h c m;refine dU.2 ⟨c,m,?_⟩;rw[bD o,ji r] at b ⊢;refine ⟨mR a d,fun k g=>?_⟩;rw[Nat.testBit_xor,Nat.testBit_two_pow];have l:¬ j=k:=fun e=>by subst e;rw[s j q] at g;cases g
  simp[l,b.2 k g]
 rw[Bool.eq_iff_iff];constructor
 ·intro f;have:=key _ (mR a d) f
  rwa [flip_flip] at this
 ·exact key p d
theorem BV {n s:Nat}(d:n≤8)(hs:cq s (bp n))(h:∀ j,j<n→uP n s j)(r:s≠0):s=bp n:=by
 have f:s<2^256:=by
  refine Nat.lt_pow_two_of_testBit _ fun p a=>?_;rw[Bool.eq_false_iff];intro b;have:=fA d hs b;have t:2^n≤2^8:=Nat.pow_le_pow_right (by decide) d;omega
 obtain ⟨q,o⟩:∃ q,s.testBit q=true:=by
  refine Classical.byContradiction fun g=>r (iw.2 fun i=>?_);rw[Bool.eq_false_iff];exact fun b=>g ⟨i,b⟩
 have l:=fA d hs o;have key:∀ k,k≤n→∀ p,p<2^n→(∀ j,k≤j→p.testBit j=q.testBit j)→s.testBit p=true:=fun k=>by
  induction k with
  | zero=>intro _ p a c;rw[show p=q from Nat.eq_of_testBit_eq fun j=>c j (Nat.zero_le _)];exact o
  | succ k ih=>
   intro u p a c;by_cases b:p.testBit k=q.testBit k
   ·exact ih (by omega) p a fun j m=>by
     by_cases he:j=k
     ·subst he;exact b
     ·exact c j (by omega)
   ·rw[← h k (by omega) p a];refine ih (by omega) _ (mR (by omega) a) fun j m=>?_;rw[Nat.testBit_xor,Nat.testBit_two_pow];by_cases he:j=k
    ·subst he
     cases h1:p.testBit j <;> cases t:q.testBit j <;> simp_all
    ·have:¬ k=j:=fun e=>he e.symm;simp[this,c j (by omega)]
 refine Nat.eq_of_testBit_eq fun p=>?_;rw[gG d];by_cases a:p<2^n
 ·rw[decide_eq_true a];exact key n (Nat.le_refl _) p a fun j c=>by rw[cC a c,cC l c]
 ·rw[decide_eq_false a,Bool.eq_false_iff];exact fun b=>a (fA d hs b)
def du (i:Nat)(b:Bool)(c:Nat × Nat):Nat × Nat:=(c.1 |||2^i,c.2 |||(if b then 2^i else 0))
theorem rf {n i:Nat}(hi:i<n)(b:Bool){c:Nat × Nat}(h:gF n (i+1) c):gF n i (du i b c):=by
 obtain ⟨a,d,e⟩:=h;refine ⟨Nat.or_lt_two_pow a (Nat.pow_lt_pow_right (by decide) hi),?_,fun j f=>?_⟩
 ·have hs:=fun j=>congrArg (fun x=>x.testBit j) d;simp only[Nat.testBit_and] at hs;refine Nat.eq_of_testBit_eq fun j=>?_;unfold du;simp only[Nat.testBit_and,Nat.testBit_or];have:=hs j
  cases b
  ·simp only[Bool.false_eq_true,if_false,Nat.zero_testBit,Bool.or_false]
   cases hv:c.2.testBit j <;> simp_all
  ·simp only[if_true,Nat.testBit_two_pow]
   cases hv:c.2.testBit j <;> cases hm:c.1.testBit j <;> simp_all
 ·unfold du;simp only[Nat.testBit_or,Nat.testBit_two_pow];rw[e j (by omega)];simp;omega
theorem yK {n i:Nat}(q:n≤8)(hi:i<n)(b:Bool){c:Nat × Nat}(h:gF n (i+1) c){p:Nat}:(bd (du i b c).1 (du i b c).2 n).testBit p=true↔(bd c.1 c.2 n).testBit p=true∧p.testBit i=b:=by
 have r:=rf hi b h;have d:c.1.testBit i=false:=h.from_ i (by omega);have f:c.2.testBit i=false:=by
  have:=congrArg (fun x=>x.testBit i) h.sub;simp only[Nat.testBit_and,d,Bool.and_false] at this;exact this.symm
 rw[bD q,bD q,ji r.sub,ji h.sub];constructor
 ·rintro ⟨k,g⟩;refine ⟨⟨k,fun j a=>?_⟩,?_⟩
  ·have:=g j (by unfold du;simp[Nat.testBit_or,a]);rw[this];unfold du;have l:¬ i=j:=fun e=>by subst e;rw[d] at a;cases a
   cases b <;> simp[Nat.testBit_or,Nat.testBit_two_pow,l]
  ·have:=g i (by unfold du;simp[Nat.testBit_or,Nat.testBit_two_pow]);rw[this];unfold du
   cases b <;> simp[Nat.testBit_or,Nat.testBit_two_pow,f]
 ·rintro ⟨⟨k,g⟩,m⟩;refine ⟨k,fun j a=>?_⟩;by_cases he:i=j
  ·subst he;rw[m];unfold du
   cases b <;> simp[Nat.testBit_or,Nat.testBit_two_pow,f]
  ·have o:c.1.testBit j=true:=by
    unfold du at a;simpa [Nat.testBit_or,Nat.testBit_two_pow,he] using a
   rw[g j o];unfold du
   cases b <;> simp[Nat.testBit_or,Nat.testBit_two_pow,he]
theorem kf {n p:Nat}{L M:List (Nat × Nat)}:(dn n (L++M)).testBit p=true↔(dn n L).testBit p=true∨(dn n M).testBit p=true:=by
 rw[dU,dU,dU];constructor
 ·rintro ⟨c,b,a⟩;rcases List.mem_append.1 b with h | h
  ·exact .inl ⟨c,h,a⟩
  ·exact .inr ⟨c,h,a⟩
 ·rintro (⟨c,b,a⟩ | ⟨c,b,a⟩)
  ·exact ⟨c,List.mem_append_left _ b,a⟩
  ·exact ⟨c,List.mem_append_right _ b,a⟩
theorem qn {n i:Nat}(f:n≤8)(hi:i<n)(b:Bool){L:List (Nat × Nat)}(h:∀ c ∈ L,gF n (i+1) c){p:Nat}:(dn n (L.map (du i b))).testBit p=true↔(dn n L).testBit p=true∧p.testBit i=b:=by
 rw[dU,dU];constructor
 ·rintro ⟨c,g,e⟩;obtain ⟨d,a,rfl⟩:=List.mem_map.1 g;have:=(yK f hi b (h d a)).1 e;exact ⟨⟨d,a,this.1⟩,this.2⟩
 ·rintro ⟨⟨d,a,e⟩,j⟩;exact ⟨_,List.mem_map.2 ⟨d,a,rfl⟩,(yK f hi b (h d a)).2 ⟨e,j⟩⟩
theorem E1 {n i on may:Nat}(f:n≤8)(hi:i<n)(x:cq on may)(g:cq may (bp n)){t u L2:List (Nat × Nat)}(m:kR n (i+1) (bU (cS (cK on i false) i) (cS (cK may i true) i)) (cS (cK may i false) i) t)(o:kR n (i+1) (bU (cS (cK on i true) i) (cS (cK may i false) i)) (cS (cK may i true) i) u)(q:kR n (i+1) (bU (cS (cK on i false) i) (dn n t) |||bU (cS (cK on i true) i) (dn n u)) (cS (cK may i false) i &&&cS (cK may i true) i) L2) :
  kR n i on may (t.map (du i false)++u.map (du i true)++L2):=by
 have k:cq on (bp n):=x.trans g;have v:∀ b p,p<2^n→p.testBit i=b→(cS (cK may i b) i).testBit p=may.testBit p:=fun b p a e=>by rw[jV f g hi b a,if_pos e]
 have z:∀ b p,p<2^n→p.testBit i=b→(cS (cK on i b) i).testBit p=on.testBit p:=fun b p a e=>by rw[jV f k hi b a,if_pos e]
 have lo:∀ b,cS (cK on i b) i<2^256:=fun b=>dp _;have w:∀ b,cq (cS (cK may i b) i) (bp n):=fun b=>mj f g hi b;refine ⟨fun c l=>?_,fun p a=>?_,fun p a=>?_,?_⟩
 ·rw[List.mem_append,List.mem_append] at l;rcases l with (l | l) | l
  ·obtain ⟨d,y,rfl⟩:=List.mem_map.1 l;exact rf hi _ (m.cubes d y)
  ·obtain ⟨d,y,rfl⟩:=List.mem_map.1 l;exact rf hi _ (o.cubes d y)
  ·have:=q.cubes c l;exact ⟨this.lt,this.sub,fun j A=>this.from_ j (by omega)⟩
 ·rw[kf,kf,qn f hi _ m.cubes,qn f hi _ o.cubes] at a;rcases a with (⟨a,e⟩ | ⟨a,e⟩) | a
  ·have h:=m.uI p a
   rwa [v false p (fA f (w _) h) e] at h
  ·have h:=o.uI p a
   rwa [v true p (fA f (w _) h) e] at h
  ·have h:=q.uI p a;rw[Nat.testBit_and,Bool.and_eq_true] at h
   cases e:p.testBit i with
   | false=>rw[← v false p (fA f (w _) h.1) e];exact h.1
   | true=>rw[← v true p (fA f (w _) h.2) e];exact h.2
 ·have r:=fA f k a;rw[kf,kf,qn f hi _ m.cubes,qn f hi _ o.cubes]
  cases e:p.testBit i with
  | false=>
   have s:=z false p r e;rw[a] at s
   cases hh:(dn n t).testBit p with
   | true=>exact .inl (.inl ⟨rfl,rfl⟩)
   | false=>exact .inr (q.out p (by rw[Nat.testBit_or,bX (lo _),s,hh];rfl))
  | true=>
   have s:=z true p r e;rw[a] at s
   cases hh:(dn n u).testBit p with
   | true=>exact .inl (.inr ⟨rfl,rfl⟩)
   | false=>exact .inr (q.out p (by rw[Nat.testBit_or,bX (lo true),s,hh];simp))
 ·have a0:=m.len;have B:=o.len;have a2:=q.len;rw[List.length_append,List.length_append,List.length_map,List.length_map,show n - i=(n - (i+1))+1 by omega,Nat.pow_succ];omega
theorem E2 {n i on may:Nat}(j:n≤8)(hi:i<n)(e:cq on may)(a:cq may (bp n)){k l:List (Nat × Nat)}(o:kR n (i+1) (bU (cS (cK on i false) i) (cS (cK may i true) i)) (cS (cK may i false) i) k)(q:kR n (i+1) (bU (cS (cK on i true) i) (cS (cK may i false) i)) (cS (cK may i true) i) l) :
  cq (bU (cS (cK on i false) i) (dn n k) |||bU (cS (cK on i true) i) (dn n l)) (cS (cK may i false) i &&&cS (cK may i true) i):=by
 have c:cq on (bp n):=e.trans a;have lo:∀ b,cS (cK on i b) i<2^256:=fun b=>dp _;have m:∀ b,cq (cS (cK on i b) i) (cS (cK may i b) i):=fun b p d=>by
  have f:=fA j (mj j c hi b) d;rw[jV j c hi b f] at d;rw[jV j a hi b f];exact e _ d
 intro p d;rw[Nat.testBit_or,bX (lo _),bX (lo _),Bool.or_eq_true,Bool.and_eq_true,Bool.and_eq_true] at d;rw[Nat.testBit_and,Bool.and_eq_true];rcases d with ⟨g,h⟩ | ⟨g,h⟩
 ·refine ⟨m _ p g,?_⟩
  cases hm:(cS (cK may i true) i).testBit p with
  | true=>rfl
  | false=>
   have:=o.out p (by rw[bX (lo _),g,hm];rfl);rw[this] at h
   cases h
 ·refine ⟨?_,m _ p g⟩
  cases hm:(cS (cK may i false) i).testBit p with
  | true=>rfl
  | false=>
   have:=q.out p (by rw[bX (lo _),g,hm];rfl);rw[this] at h
   cases h
theorem yL {n i on may:Nat}(g:n≤8)(hi:i<n)(e:cq on may)(a:cq may (bp n))(b c:Bool):cq (bU (cS (cK on i b) i) (cS (cK may i c) i)) (cS (cK may i b) i):=fun p h=>by
 have d:cq on (bp n):=e.trans a;rw[bX (show cS (cK on i b) i<2^256 from dp _),Bool.and_eq_true] at h;have f:=fA g (mj g d hi b) h.1;have j:=h.1;rw[jV g d hi b f] at j;rw[jV g a hi b f];exact e _ j
theorem gF.BW {n i:Nat}(a:n≤8){c:Nat × Nat}(h:gF n i c):c.1<256∧c.2<256:=by
 have b:2^n≤2^8:=Nat.pow_le_pow_right (by decide) a;have:=h.lt;have:=sub_lt h.lt h.sub;omega
theorem gF.right {n i:Nat}(a:n≤8){c:Nat × Nat}(h:gF n i c):dJ c.1 c.2 n=true:=by
 obtain ⟨b,d⟩:=h.BW a;rw[ep b d];exact ⟨by omega,by omega,by rw[Int.toNat_natCast];exact h.lt,h.sub⟩
end Go.Dk
namespace Go.Proofs.YtpjihhgjbbihkaaGreatDoor
open Go.Proofs.Tryz
open Go.Dk
set_option maxRecDepth 100000
attribute [local irreducible] IntKind.wrap
def bZ (c:Nat × Nat):List Value:=[.int .u8 (c.1:Int),.int .u8 (c.2:Int)]
theorem fq (c:Nat × Nat):(bZ c).length=2:=rfl
theorem E3 (c:Nat × Nat):∀ v ∈ bZ c,v.oneCell'=true:=wq c.1 c.2
def hY (n:Nat):Array Value:=#[.int .i64 (n:Int),.int .u64 (word (bp n) 0:Int),.int .u64 (word (bp n) 1:Int),.int .u64 (word (bp n) 2:Int),.int .u64 (word (bp n) 3:Int)]
def yM (n:Nat):Value:=.agg (hY n)
theorem Ao:cP prog 223=some true:=by kernel_rfl
theorem wO:bE prog 223=some 5:=by kernel_rfl
theorem Hf (g:Nat)(w:World):(Instr.fieldAt 223 (ah g) 0).run prog w=.ok (ah g) w:=by kernel_rfl
theorem BX (g:Nat)(w:World):(Instr.fieldAt 223 (ah g) 1).run prog w=.ok (.pointer (some ⟨g,1,none⟩)) w:=by kernel_rfl
theorem E4:cP prog 146=some false:=by kernel_rfl
theorem Hg:bE prog 146=some 1:=by kernel_rfl
theorem wP:qI prog 146 48 (cv 0 0) 2 2:=⟨underlying146,by kernel_rfl,rfl,by decide⟩
theorem rh {l:List (Nat × Nat)}{j:Nat}(h:j<l.length):∃ x,l[j]?=some x∧x ∈ l:=⟨_,List.getElem?_eq_getElem h,List.getElem_mem h⟩
theorem Ka:enters prog 190=true:=by kernel_rfl
theorem N7 (n i0:Nat)(h:n≤8)(L:List (Nat × Nat))(i:∀ c ∈ L,gF n i0 c)(F:L.length≤1000000)(A:Option Addr)(c:Nat)(w:World)(o:Sl w (.slice A L.length c) 2 L.length (flat bZ L)) :
  bw prog 190 [yM n,.slice A L.length c] w fun r w'=>r=sv (dn n L)∧aT w w':=by
 refine ar (N:=28) func190 Ka rfl rfl rfl (by simp) ?_;have H:=Hp.aC w;refine ak (γ:=Nat × Nat) (fun (g2,g4)=>[(2,(ah g2)),(4,(ah g4))]) (fun (g2,g4) w'=>Hp w ab w' [an g4 86 (sc 0),an g2 223 (hY n)] []) ?_ ?_
 ·refine H.box 223 (yM n) (cs:=hY n) rfl ?_;clear H;intro g2 z H;refine H.alloc 86 (cs:=sc 0) br aY ?_;clear H;intro g4 p H;exact ⟨(g2,g4),⟨rfl,rfl,trivial⟩,H⟩
 clear H;rintro ⟨g2,g4⟩ u z H;refine ak (γ:=Nat) (fun g5=>[(5,(ah g5))]) (fun g5 w'=>Hp w ab w' [an g5 86 (sc 0),an g4 86 (sc 0),an g2 223 (hY n)] []) ?_ ?_
 ·refine H.alloc 86 (cs:=sc 0) br aY ?_;clear H;intro g5 p H;exact ⟨g5,⟨rfl,trivial⟩,H⟩
 clear H;rintro g5 u p H;refine aw (fun w'=>Hp w ab w' [an g5 86 (sc (dn n L)),an g4 86 (sc 0)] []) ?_ ?_
 ·refine ay underlying146 ?_;refine ax (γ:=Nat) (fun k=>[(12,.int .i64 (k:Int))]) (fun k w'=>k≤L.length∧Hp w ab w' [an g5 86 (sc (dn n (L.take k))),an g4 86 (sc 0),an g2 223 (hY n)] []) (fun k=>L.length - k) 0 ⟨rfl,trivial⟩ ⟨Nat.zero_le _,H⟩ ?_;clear H;rintro k u B ⟨e,H⟩;refine au (fun C=>?_) (fun C=>?_)
  ·obtain ⟨x,q,b⟩:=rh (l:=L) (j:=k) (by omega);have a:=An n (L.take k) x;rw[← iU q] at a;obtain ⟨hm,s⟩:=(i x b).BW h;have t:=(i x b).right h;obtain ⟨m,v⟩:=x;simp only at hm s t a;obtain ⟨G,D,rfl⟩:=o.A (by omega);generalize dn n (L.take k)=s0 at H a;refine aw (fun w'=>Hp w ab w' [an g5 86 (sc (dn n (L.take (k+1)))),an g4 86 (sc 0),an g2 223 (hY n)] []) ?_ ?_
   ·refine ak (γ:=Nat) (fun g7=>[(7,(ah g7))]) (fun g7 w'=>Hp w ab w' [an g7 48 (cc m v),an g5 86 (sc s0),an g4 86 (sc 0),an g2 223 (hY n)] []) ?_ ?_
    ·refine ao underlying146 aO k rfl (by omega) (o':=D+k*2) (by omega) ?_;refine Sl.cA H o fq bz aO k rfl q ?_;refine H.alloc 48 (cs:=cc 0 0) fj rfl ?_;clear H;intro g7 f H;refine H.bR (c:=m) (d:=v) 0 rfl ?_;clear H;intro y H;exact ⟨g7,⟨rfl,trivial⟩,H⟩
    clear H;rintro g7 u f H;refine ak (γ:=Nat) (fun g8=>[(8,(ah g8))]) (fun g8 w'=>Hp w ab w' [an g8 86 (sc (bd m v n)),an g5 86 (sc s0),an g4 86 (sc 0),an g2 223 (hY n)] []) ?_ ?_
    ·refine H.ai 0 rfl bz aO ?_;refine aa (Hf _) ?_;refine H.load 3 rfl aF rfl ?_;have g:=NR m v hm s (n:Int) f;rw[t,if_pos rfl,Int.toNat_natCast] at g;refine aj g ?_;clear g;rintro _ y ⟨rfl,e⟩;replace H:=H.same e;clear e;refine H.alloc 86 (cs:=sc 0) br aY ?_;clear H;intro g8 I H;refine H.aW 0 rfl ?_;clear H;intro E H;exact ⟨g8,⟨rfl,trivial⟩,H.b7 [0,2,3,4] (by decide) rfl⟩
    clear H;rintro g8 u y H;refine H.ai 1 rfl aD av ?_;refine H.ai 0 rfl aD av ?_;refine aj (LF _ _ _) ?_;rintro _ E ⟨rfl,e⟩;replace H:=H.same e;refine H.aW 1 rfl ?_;clear H;intro J H;exact ⟨(),trivial,by rw[a];exact H.forget⟩
   ·clear H;rintro ⟨⟩ u f H;exact ⟨k+1,by show L.length - (k+1)<L.length - k;omega,⟨up (by omega),trivial⟩,by show k+1≤L.length;omega,H⟩
  ·have:k=L.length:=by omega
   subst this;rw[List.take_length] at H;exact ⟨(),trivial,H.b7 [0,1] (by decide) rfl⟩
 clear H;rintro ⟨⟩ u B H;refine H.ai 0 rfl aD av ?_;refine H.aW 1 rfl ?_;clear H;intro f H;refine H.ai 1 rfl aD av ?_;exact ⟨rfl,rfl,H.keeps⟩
end Go.Proofs.YtpjihhgjbbihkaaGreatDoor
namespace Go.Dk
theorem sf {P:Program}{t:TypeId}{xo yo:Operand}{w:World}{kk:Value→World→Prop}{a:IntKind}{n:Nat}(h:kk (.int .u8 ((0:Nat):Int)) w):cW P .shl t xo yo (.int .u8 0) (.int a (n:Int)) w kk:=by
 refine sj (by omega) ?_;rw[Int.zero_mul];exact h
end Go.Dk
namespace Go.Proofs.YtpjihhgjbbihkaaGreatDoor
open Go.Proofs.Tryz
open Go.Dk
set_option maxRecDepth 100000
attribute [local irreducible] IntKind.wrap
def a2 (f:Bool→Nat):Array Value:=(bK (f false)++bK (f true)).toArray
def bN (b:Bool):Nat:=if b then 1 else 0
theorem lD (f:Bool→Nat)(b:Bool):∀ (j:Nat) v,(bK (f b))[j]?=some v→(a2 f)[bN b*4+j]?=some v:=fun j v a=>by
 have c:=(List.getElem?_eq_some_iff.1 a).1;rw[bP] at c;unfold a2;rw[List.getElem?_toArray]
 cases b with
 | false=>rw[show bN false*4+j=j by unfold bN;simp,List.getElem?_append_left (by rw[bP];exact c)];exact a
 | true=>rw[show bN true*4+j=4+j by unfold bN;simp,List.getElem?_append_right (by rw[bP];omega),bP,Nat.add_sub_cancel_left];exact a
def tJ (n i:Nat)(on may:Nat):Prop:=cq on may∧cq may (bp n)∧(∀ j,j<i→uP n on j)∧(∀ j,j<i→uP n may j)∧on<2^256
def Ap (n i:Nat):Prop:=∀ (on may:Nat) (w:World),tJ n i on may→bw prog 159 [yM n,sv on,sv may,.int .i64 (i:Int)] w fun r w'=>
 ∃ A c L,r=.slice A L.length c∧kR n i on may L∧eE w w' (own 48 2 (.slice A L.length c) L.length (flat bZ L))
theorem wQ:eL prog 241=some (.agg (a2 fun _=>0)):=by kernel_rfl
theorem Kb:enters prog 189=true:=by kernel_rfl
theorem Ml {n i:Nat}(t:n≤8)(hi:i<n)(I:Ap n (i+1))(b:Bool)(on may:Bool→Nat)(rest:Nat)(out:List (Nat × Nat))(g1 g2 g3 g4 g5 g6:Nat)(B:Option Addr)(co:Nat)(w0 w:World)(X:List cH)(o:tJ n (i+1) (bU (on b) (may !b)) (may b))(h:on b<2^256)(J:out.length≤100000)(H:Hp w0 ab w (an g5 86 (sc rest)::an g6 146 #[.slice B out.length co]::own 48 2 (.slice B out.length co) out.length (flat bZ out)::an g1 223 (hY n)::an g2 241 (a2 on)::an g3 241 (a2 may)::an g4 3 #[.int .i64 (i:Int)]::X) []) :
  bw prog 189 ([.int .i64 (bN b:Int)]++[(ah g1),(ah g2),(ah g3),(ah g4),(ah g5),(ah g6)]) w fun v w'=>
   v=.tuple #[]∧∃ l K M,kR n (i+1) (bU (on b) (may !b)) (may b) l∧
    Hp w0 ab w' (an g5 86 (sc (rest |||bU (on b) (dn n l)))::an g6 146 #[.slice K (out++l.map (du i b)).length M]::own 48 2 (.slice K (out++l.map (du i b)).length M) (out++l.map (du i b)).length (flat bZ (out++l.map (du i b)))::an g1 223 (hY n)::an g2 241 (a2 on)::an g3 241 (a2 may)::an g4 3 #[.int .i64 (i:Int)]::X) []:=by
 refine ar (N:=60) func189 Kb rfl rfl rfl (by simp) ?_;have e:bN b<2:=by unfold bN;cases b <;> decide
 have p:bN (!b)<2:=by unfold bN;cases b <;> decide
 have f:IntKind.i64.wrap (1 - (bN b:Int))=(bN (!b):Int):=by
  cases b <;> (unfold bN;rw[aH (by simp) (by simp)];rfl)
 have q:IntKind.i64.wrap ((i:Int)+1)=((i+1:Nat):Int):=by rw[aH (by omega) (by omega)];omega
 refine ak (γ:=Option Addr × Nat × List (Nat × Nat)) (fun (A,c,l)=>[(8,.slice A l.length c)]) (fun (A,c,l) w'=>kR n (i+1) (bU (on b) (may !b)) (may b) l∧Hp w0 ab w' (own 48 2 (.slice A l.length c) l.length (flat bZ l)::an g5 86 (sc rest)::an g6 146 #[.slice B out.length co]::own 48 2 (.slice B out.length co) out.length (flat bZ out)::an g1 223 (hY n)::an g2 241 (a2 on)::an g3 241 (a2 may)::an g4 3 #[.int .i64 (i:Int)]::X) []) ?_ ?_
 ·refine H.draw eO (by kernel_rfl) ?_;clear H;intro V H;refine quiet (yM n) (fun w H=>H.ai 3 rfl Ao wO ae) ?_;refine quiet _ (fun w H=>aK underlying241 av (bN b) rfl e (o':=bN b*4) (by omega) ae) ?_;refine quiet (sv (on b)) (fun w H=>H.cY 4 rfl (bK (on b)) aD av (lD on b) ae) ?_;refine quiet _ (fun w H=>aK underlying241 av (bN (!b)) f p (o':=bN (!b)*4) (by omega) ae) ?_;refine quiet (sv (may !b)) (fun w H=>H.cY 5 rfl (bK (may !b)) aD av (lD may !b) ae) ?_;refine aj (ND (on b) (may !b) h _) ?_;rintro _ z ⟨rfl,g⟩;replace H:=H.same g;refine ⟨.inl H,?_⟩;refine quiet _ (fun w H=>aK underlying241 av (bN b) rfl e (o':=bN b*4) (by omega) ae) ?_;refine quiet (sv (may b)) (fun w H=>H.cY 5 rfl (bK (may b)) aD av (lD may b) ae) ?_;refine quiet _ (fun w H=>H.load 6 rfl aF rfl ae) ?_;have Q:=I (bU (on b) (may !b)) (may b) z o;rw[← q] at Q;refine aj Q ?_;rintro _ S ⟨A,c,l,rfl,a,t⟩;replace H:=H.bq t;refine ⟨.inl H.forget,?_⟩;exact ⟨(A,c,l),⟨rfl,trivial⟩,a,H⟩
 clear H;rintro ⟨A,c,l⟩ u V ⟨a,H⟩;have Y:l.length≤6561:=Nat.le_trans a.len (by have:=Nat.pow_le_pow_right (show 0<3 by decide) (show n - (i+1)≤8 by omega);omega);refine aw (fun w'=>Hp w0 ab w' (own 48 2 (.slice A l.length c) l.length (flat bZ l)::an g5 86 (sc (rest |||bU (on b) (dn n l)))::an g6 146 #[.slice B out.length co]::own 48 2 (.slice B out.length co) out.length (flat bZ out)::an g1 223 (hY n)::an g2 241 (a2 on)::an g3 241 (a2 may)::an g4 3 #[.int .i64 (i:Int)]::X) []) ?_ ?_
 ·refine H.draw eO (by kernel_rfl) ?_;clear H;intro z H;refine quiet _ (fun w H=>H.ai 1 rfl aD av ae) ?_;refine quiet _ (fun w H=>aK underlying241 av (bN b) rfl e (o':=bN b*4) (by omega) ae) ?_;refine quiet (sv (on b)) (fun w H=>H.cY 5 rfl (bK (on b)) aD av (lD on b) ae) ?_;refine quiet (yM n) (fun w H=>H.ai 4 rfl Ao wO ae) ?_;refine aj (N7 n (i+1) t l a.cubes (by omega) A c _ (bB (H.get 0 rfl))) ?_;rintro _ S ⟨rfl,g⟩;replace H:=H.same g;refine ⟨.inl H,?_⟩;refine aj (ND (on b) _ h _) ?_;rintro _ T ⟨rfl,g⟩;replace H:=H.same g;refine ⟨.inl H,?_⟩;refine aj (LF _ _ _) ?_;rintro _ C ⟨rfl,g⟩;replace H:=H.same g;refine ⟨.inl H,?_⟩;refine H.aW 1 rfl ?_;clear H;intro y H;refine ⟨.inr rfl,?_⟩;exact ⟨(),trivial,H⟩
 clear H;rintro ⟨⟩ u z H;generalize D:rest |||bU (on b) (dn n l)=rest' at H;refine ay underlying146 ?_;refine ax (γ:=Nat × Option Addr × Nat) (fun (k,_)=>[(37,.int .i64 (k:Int))]) (fun (k,B,co) w'=>k≤l.length∧Hp w0 ab w' (own 48 2 (.slice A l.length c) l.length (flat bZ l)::an g5 86 (sc rest')::an g6 146 #[.slice B (out++(l.take k).map (du i b)).length co]::own 48 2 (.slice B (out++(l.take k).map (du i b)).length co) (out++(l.take k).map (du i b)).length (flat bZ (out++(l.take k).map (du i b)))::an g1 223 (hY n)::an g2 241 (a2 on)::an g3 241 (a2 may)::an g4 3 #[.int .i64 (i:Int)]::X) []) (fun (k,_)=>l.length - k) (0,B,co) ⟨rfl,trivial⟩ ⟨Nat.zero_le _,by rw[List.take_zero,List.map_nil,List.append_nil];exact H⟩ ?_;clear H;rintro ⟨k,B,co⟩ u S ⟨g,H⟩;refine au (fun Z=>?_) (fun Z=>?_)
 ·obtain ⟨x,U,r⟩:=rh (l:=l) (j:=k) (by omega);have s:=a.cubes x r;obtain ⟨hm,hv⟩:=s.BW t;have E:out++(l.take (k+1)).map (du i b)=(out++(l.take k).map (du i b))++[du i b x]:=by rw[iU U,List.map_append,List.append_assoc];rfl
  have F:(out++(l.take k).map (du i b)).length≤110000:=by rw[List.length_append,List.length_map,List.length_take];omega
  refine ak (γ:=Option Addr × Nat) (fun _=>[]) (fun (B,co) w'=>Hp w0 ab w' (own 48 2 (.slice A l.length c) l.length (flat bZ l)::an g5 86 (sc rest')::an g6 146 #[.slice B (out++(l.take (k+1)).map (du i b)).length co]::own 48 2 (.slice B (out++(l.take (k+1)).map (du i b)).length co) (out++(l.take (k+1)).map (du i b)).length (flat bZ (out++(l.take (k+1)).map (du i b)))::an g1 223 (hY n)::an g2 241 (a2 on)::an g3 241 (a2 may)::an g4 3 #[.int .i64 (i:Int)]::X) []) ?_ ?_
  ·rw[E];generalize out++(l.take k).map (du i b)=O at H F;obtain ⟨m,v⟩:=x;simp only at hm hv;have h2:2^i<256:=show 2^i<2^8 from Nat.pow_lt_pow_right (by decide) (by omega);obtain ⟨G,rfl⟩:=H.lY 0 rfl (by omega);refine ak (γ:=Nat) (fun g10=>[(10,(ah g10))]) (fun g10 w'=>Hp w0 ab w' (an g10 48 (cc m v)::own 48 2 (.slice (some ⟨G,0,none⟩) l.length c) l.length (flat bZ l)::an g5 86 (sc rest')::an g6 146 #[.slice B (O).length co]::own 48 2 (.slice B (O).length co) (O).length (flat bZ (O))::an g1 223 (hY n)::an g2 241 (a2 on)::an g3 241 (a2 may)::an g4 3 #[.int .i64 (i:Int)]::X) []) ?_ ?_
   ·refine ao underlying146 aO k rfl (by omega) (o':=k*2) (by omega) ?_;refine H.gu 0 rfl fq bz aO k rfl U ?_;refine H.alloc 48 (cs:=cc 0 0) fj rfl ?_;clear H;intro g10 C H;refine H.bR (c:=m) (d:=v) 0 rfl ?_;clear H;intro y H;exact ⟨g10,⟨rfl,trivial⟩,H⟩
   clear H;rintro g10 u T H;refine aw (fun w'=>Hp w0 ab w' (an g10 48 (cc (du i b (m,v)).1 v)::own 48 2 (.slice (some ⟨G,0,none⟩) l.length c) l.length (flat bZ l)::an g5 86 (sc rest')::an g6 146 #[.slice B (O).length co]::own 48 2 (.slice B (O).length co) (O).length (flat bZ (O))::an g1 223 (hY n)::an g2 241 (a2 on)::an g3 241 (a2 may)::an g4 3 #[.int .i64 (i:Int)]::X) []) ?_ ?_
   ·refine H.draw eO (by kernel_rfl) ?_;clear H;intro C H;refine quiet _ (fun w H=>aa (cj _) ae) ?_;refine quiet _ (fun w H=>H.load 0 rfl b5 rfl ae) ?_;refine quiet _ (fun w H=>H.load 8 rfl aF rfl ae) ?_;refine quiet _ (fun w H=>cf (by omega) ae) ?_;refine quiet _ (fun w H=>jk (by omega) (by omega) ae) ?_;refine quiet _ (fun w H=>aa (cj _) ae) ?_;refine H.store 0 rfl j4 (by show 0<2;decide) rfl ?_;clear H;intro y H;refine ⟨.inr rfl,?_⟩;exact ⟨(),trivial,H⟩
   clear H;rintro ⟨⟩ u C H;refine aw (fun w'=>Hp w0 ab w' (an g10 48 (cc (du i b (m,v)).1 (du i b (m,v)).2)::own 48 2 (.slice (some ⟨G,0,none⟩) l.length c) l.length (flat bZ l)::an g5 86 (sc rest')::an g6 146 #[.slice B (O).length co]::own 48 2 (.slice B (O).length co) (O).length (flat bZ (O))::an g1 223 (hY n)::an g2 241 (a2 on)::an g3 241 (a2 may)::an g4 3 #[.int .i64 (i:Int)]::X) []) ?_ ?_
   ·refine H.draw eO (by kernel_rfl) ?_;clear H;intro y H;clear f e p o h I a
    cases b with
    | false=>
     refine quiet _ (fun w H=>aa (fO _) ae) ?_;refine quiet _ (fun w H=>H.load 0 rfl b5 rfl ae) ?_;refine quiet _ (fun w H=>j_ (by kernel_rfl) underlying5 (by decide) (by decide) ae) ?_;refine quiet _ (fun w H=>H.load 8 rfl aF rfl ae) ?_;refine quiet _ (fun w H=>sf ae) ?_;refine quiet _ (fun w H=>jk (b:=0) (by omega) (by omega) ae) ?_;refine quiet _ (fun w H=>aa (fO _) ae) ?_;refine H.store 0 rfl j4 (Nat.le_of_ble_eq_true rfl) rfl ?_;clear H;intro w11 H;refine ⟨.inr rfl,?_⟩;exact ⟨(),trivial,H⟩
    | true=>
     refine quiet _ (fun w H=>aa (fO _) ae) ?_;refine quiet _ (fun w H=>H.load 0 rfl b5 rfl ae) ?_;refine quiet _ (fun w H=>j_ (by kernel_rfl) underlying5 (by decide) (by decide) ae) ?_;refine quiet _ (fun w H=>H.load 8 rfl aF rfl ae) ?_;refine quiet _ (fun w H=>cf (by omega) ae) ?_;refine quiet _ (fun w H=>jk (by first | assumption | omega | (repeat' (first | assumption | refine dh ?_ _ | refine xor_lt8 ?_ ?_ | refine or_lt8 ?_ ?_))) (by first | assumption | omega | (repeat' (first | assumption | refine dh ?_ _ | refine xor_lt8 ?_ ?_ | refine or_lt8 ?_ ?_))) ae) ?_;refine quiet _ (fun w H=>aa (fO _) ae) ?_;refine H.store 0 rfl j4 (Nat.le_of_ble_eq_true rfl) rfl ?_;clear H;intro w16 H;refine ⟨.inr rfl,?_⟩;exact ⟨(),trivial,H⟩
   clear H;rintro ⟨⟩ u y H;refine H.load 3 rfl E4 rfl ?_;refine H.ai 0 rfl bz aO ?_;refine H.bf wP (cs:=cc (du i b (m,v)).1 (du i b (m,v)).2) (by decide) (by decide) (by kernel_rfl) ?_;clear H;intro g20 w7 H;refine H.aG 5 0 wP rfl rfl rfl (wq _ _) (by omega) (by omega) ?_;clear H;intro B2 d2 w8 H;refine H.store 4 rfl Hg (by show 0<1;decide) rfl ?_;clear H;intro w9 H;have e1:(O++[du i b (m,v)]).length=O.length+1:=by rw[List.length_append];rfl
   have e2:flat bZ (O++[du i b (m,v)])=flat bZ O++bZ (du i b (m,v)):=de ..;exact ⟨(B2,d2),trivial,by rw[e1,e2];exact H.forget.forget⟩
  ·clear H;rintro ⟨B,co⟩ u T H;exact ⟨(k+1,B,co),by show l.length - (k+1)<l.length - k;omega,⟨up (by omega),trivial⟩,by show k+1≤l.length;omega,H⟩
 ·have:k=l.length:=by omega
  subst this;rw[List.take_length] at H;exact ⟨rfl,l,B,co,a,by rw[D];exact H.forget⟩
end Go.Proofs.YtpjihhgjbbihkaaGreatDoor
namespace Go.Dk
theorem Hp.fK {P:Program}{w0 w:World}{F:Nat→Prop}{L M:List cH}{k:Value→World→Prop}(H:Hp w0 F w L M)(n:Nat){g o:Nat}{t ty:TypeId}{cs cs' cs2:Array Value}(a:L[n]?=some (an g t cs))(hs:bE P ty=some cs'.size)(hlen:o+cs'.size≤cs.size)(d:∀ v ∈ cs'.toList,v.oneCell'=true)(e:cs2=(cs.toList.take o++cs'.toList++cs.toList.drop (o+cs'.size)).toArray)(h:∀ w',Hp w0 F w' (L.set n (an g t cs2)) M→k undef w'):im P ty (.pointer (some ⟨g,o,none⟩)) (.agg cs') w k:=by
 have f:w.heap[g]?=some (.cells cs t (0,0)):=H.get n a;obtain ⟨w',i,c,b⟩:=kH (P:=P) cs'.toList w cs o f (by simp;omega) d;unfold im;refine ⟨w',?_,h _ (H.nc n a _ c ?_ ?_)⟩
 ·have:storeCells ⟨g,o,none⟩ cs'.toList 0=storeCells ⟨g,0,none⟩ cs'.toList o:=kM g o cs'.toList 0;simp[Instr.storeAt,Instr.sureAddr,storeVar,Value.cells,run_sizeOf hs,this,i]
 ·show w'.heap[g]?=_;rw[b,e];simp
 ·rintro x rfl;refine ⟨?_,.inl rfl⟩;exact Nat.lt_of_lt_of_le (jj (H.get n a)) c.size
end Go.Dk
namespace Go.Proofs.YtpjihhgjbbihkaaGreatDoor
open Go.Proofs.Tryz
open Go.Dk
set_option maxRecDepth 100000
attribute [local irreducible] IntKind.wrap
def Hh (f:Bool→Nat)(b:Bool)(s:Nat):Bool→Nat:=fun c=>if c=b then s else f c
theorem E5 (f:Bool→Nat)(b:Bool)(s:Nat):a2 (Hh f b s)=((a2 f).toList.take (bN b*4)++(sc s).toList++(a2 f).toList.drop (bN b*4+(sc s).size)).toArray:=by
 cases b <;> rfl
theorem wR (f:Bool→Nat):(a2 f).size=8:=rfl
def aV (s i:Nat):Bool→Nat:=fun b=>cS (cK s i b) i
theorem tK {n i on may:Nat}(l:n≤8)(hi:i<n)(h:tJ n i on may)(b c:Bool):tJ n (i+1) (bU (aV on i b) (aV may i c)) (aV may i b):=by
 obtain ⟨f,a,g,e,o⟩:=h;have k:cq on (bp n):=f.trans a;have i1:∀ d j,j<i+1→uP n (aV on i d) j:=fun d j m=>nP l k hi d (fun h=>g j h) (by omega);have i2:∀ d j,j<i+1→uP n (aV may i d) j:=fun d j m=>nP l a hi d (fun h=>e j h) (by omega);exact ⟨yL l hi f a b c,mj l a hi b,fun j m=>tI (dp _) (i1 b j m) (i2 c j m),i2 b,pM _ _⟩
theorem Aq {n i on may:Nat}(e:n≤8)(hi:i<n)(h:tJ n i on may){l m:List (Nat × Nat)}(o:kR n (i+1) (bU (aV on i false) (aV may i true)) (aV may i false) l)(q:kR n (i+1) (bU (aV on i true) (aV may i false)) (aV may i true) m) :
  tJ n (i+1) (bU (aV on i false) (dn n l) |||bU (aV on i true) (dn n m)) (aV may i false &&&aV may i true):=by
 obtain ⟨f,a,g,c,s⟩:=h;have k:cq on (bp n):=f.trans a;have i1:∀ d j,j<i+1→uP n (aV on i d) j:=fun d j b=>nP e k hi d (fun h=>g j h) (by omega);have i2:∀ d j,j<i+1→uP n (aV may i d) j:=fun d j b=>nP e a hi d (fun h=>c j h) (by omega);refine ⟨E2 e hi f a o q,fun p r=>mj e a hi false p ?_,fun j b=>J_ (tI (dp _) (i1 _ j b) (yJ e o.cubes b (by omega))) (tI (dp _) (i1 _ j b) (yJ e q.cubes b (by omega))),fun j b=>BU (i2 _ j b) (i2 _ j b),IE (pM _ _) (pM _ _)⟩;rw[Nat.testBit_and,Bool.and_eq_true] at r;exact r.1
theorem vx (l:List (Nat × Nat)):∀ v ∈ flat bZ l,v.oneCell'=true:=fun v a=>by
 unfold flat at a;obtain ⟨x,_,b⟩:=List.mem_flatMap.1 a;exact E3 x v b
theorem Hi:eL prog 146=some (.slice none 0 0):=by kernel_rfl
theorem Kc:enters prog 159=true:=by kernel_rfl
theorem c159 (n:Nat)(m:n≤8):∀ (f i:Nat),i≤n→n - i<f→Ap n i
 | 0,i,_,h=>absurd h (Nat.not_lt_zero _)
 | f+1,i,hi,hf=>fun on may w q=>by
  have K:i<n→Ap n (i+1):=fun h=>c159 n m f (i+1) (by omega) (by omega);obtain ⟨y,z,M,t,D⟩:=q;have Q:may<2^256:=Nat.lt_pow_two_of_testBit _ fun p hp=>by
   rw[Bool.eq_false_iff];intro Y;have:=fA m z Y;have h2:2^n≤2^8:=Nat.pow_le_pow_right (by decide) m;omega
  refine ar (N:=61) func159 Kc rfl rfl rfl (by simp) ?_;have H:=Hp.aC w;refine ak (γ:=Nat × Nat × Nat × Nat) (fun (g4,g5,g6,g7)=>[(4,(ah g4)),(5,(ah g5)),(6,(ah g6)),(7,(ah g7)),(8,.slice none 0 0)]) (fun (g4,g5,g6,g7) w'=>Hp w ab w' [an g7 3 #[.int .i64 (i:Int)],an g6 86 (sc may),an g5 86 (sc on),an g4 223 (hY n)] []) ?_ ?_
  ·refine H.box 223 (yM n) (cs:=hY n) rfl ?_;clear H;intro g4 w1 H;refine H.box 86 (sv on) (cs:=sc on) rfl ?_;clear H;intro g5 w2 H;refine H.box 86 (sv may) (cs:=sc may) rfl ?_;clear H;intro g6 w3 H;refine H.box 3 (.int .i64 (i:Int)) (cs:=#[.int .i64 (i:Int)]) rfl ?_;clear H;intro g7 V H;exact ⟨(g4,g5,g6,g7),⟨rfl,rfl,rfl,rfl,rfl,trivial⟩,H⟩
  clear H;rintro ⟨g4,g5,g6,g7⟩ u w1 H;by_cases Z:on=0
  ·subst Z;refine H.ai 2 rfl aD av ?_;refine ov ?_;refine fI (by decide) (by decide) ?_;refine ag rfl ?_;exact ⟨none,0,[],rfl,kR.none,(H.bx 48 2).only.out⟩
  have S:(on==0)=false:=by rw[beq_eq_false_iff_ne];exact Z
  by_cases h1:may=bp n
  ·subst h1;refine H.ai 2 rfl aD av ?_;refine ov ?_;refine fI D (by decide) ?_;refine af S ?_;refine H.ai 1 rfl aD av ?_;refine aa (BX _) ?_;refine H.cY 3 rfl (bK (bp n)) aD av (fun j v d=>by match j,d with | 0,d=>exact d | 1,d=>exact d | 2,d=>exact d | 3,d=>exact d) ?_;refine fI (j7 n) (j7 n) ?_;refine ag (beq_self_eq_true _) ?_;refine l9 ?_;refine H.bf wP (cs:=cc 0 0) (by decide) (by decide) (by kernel_rfl) ?_;clear H;intro g20 V H;exact ⟨some ⟨g20,0,none⟩,1,[(0,0)],rfl,kR.all m y,(H.py (l:=1) (sz:=2) rfl (by unfold maxLen;omega)).only.out⟩
  have e:i<n:=by
   refine Nat.lt_of_le_of_ne hi fun he=>?_;subst he;have E:may≠0:=fun E=>by
    subst E;exact Z (iw.2 fun p=>by
     rw[Bool.eq_false_iff];intro Y;have:=y p Y;simp at this)
   exact h1 (BV m z t E)
  have K:=K e;have hbm:(may==bp n)=false:=by rw[beq_eq_false_iff_ne];exact h1
  refine aw (fun w'=>Hp w ab w' [an g7 3 #[.int .i64 (i:Int)],an g6 86 (sc may),an g5 86 (sc on),an g4 223 (hY n)] []) ?_ ?_
  ·refine H.ai 2 rfl aD av ?_;refine ov ?_;refine fI D (by decide) ?_;refine af S ?_;refine H.ai 1 rfl aD av ?_;refine aa (BX _) ?_;refine H.cY 3 rfl (bK (bp n)) aD av (fun j v d=>by match j,d with | 0,d=>exact d | 1,d=>exact d | 2,d=>exact d | 3,d=>exact d) ?_;refine fI Q (j7 n) ?_;refine af hbm ?_;exact ⟨(),trivial,H⟩
  clear H;rintro ⟨⟩ u w2 H;refine ak (γ:=Nat × Nat) (fun (g9,g10)=>[(9,(ah g9)),(10,(ah g10))]) (fun (g9,g10) w'=>Hp w ab w' [an g9 241 (a2 fun _=>0),an g10 241 (a2 fun _=>0),an g7 3 #[.int .i64 (i:Int)],an g6 86 (sc may),an g5 86 (sc on),an g4 223 (hY n)] []) ?_ ?_
  ·refine H.alloc 241 (cs:=a2 fun _=>0) wQ rfl ?_;clear H;intro g9 w3 H;refine H.alloc 241 (cs:=a2 fun _=>0) wQ rfl ?_;clear H;intro g10 V H;exact ⟨(g9,g10),⟨rfl,rfl,trivial⟩,H.front 1 rfl⟩
  clear H;rintro ⟨g9,g10⟩ u w3 H;refine aw (fun w'=>Hp w ab w' [an g9 241 (a2 (aV on i)),an g10 241 (a2 (aV may i)),an g7 3 #[.int .i64 (i:Int)],an g6 86 (sc may),an g5 86 (sc on),an g4 223 (hY n)] []) ?_ ?_
  ·refine ax (γ:=Nat × (Bool→Nat) × (Bool→Nat)) (fun (k,_)=>[(26,.int .i64 (k:Int))]) (fun (k,f,g) w'=>(k≤2∧∀ b,bN b<k→f b=aV on i b∧g b=aV may i b)∧Hp w ab w' [an g9 241 (a2 f),an g10 241 (a2 g),an g7 3 #[.int .i64 (i:Int)],an g6 86 (sc may),an g5 86 (sc on),an g4 223 (hY n)] []) (fun (k,_)=>2 - k) (0,fun _=>0,fun _=>0) ⟨rfl,trivial⟩ ⟨⟨Nat.zero_le _,fun b h=>absurd h (Nat.not_lt_zero _)⟩,H⟩ ?_;clear H;rintro ⟨k,f,g⟩ u V ⟨⟨hk,F⟩,H⟩;refine au (fun h7=>?_) (fun h7=>?_)
   ·obtain ⟨b,rfl⟩:∃ b,k=bN b:=by
     have:k=0∨k=1:=by omega
     rcases this with rfl | rfl
     ·exact ⟨false,rfl⟩
     ·exact ⟨true,rfl⟩
    have T:bN b<2:=by unfold bN;cases b <;> decide
    refine aw (fun w'=>Hp w ab w' [an g9 241 (a2 (Hh f b (aV on i b))),an g10 241 (a2 (Hh g b (aV may i b))),an g7 3 #[.int .i64 (i:Int)],an g6 86 (sc may),an g5 86 (sc on),an g4 223 (hY n)] []) ?_ ?_
    ·refine ak (γ:=Unit) (fun _=>[(11,.int .i64 (bN b:Int))]) (fun _ w'=>Hp w ab w' [an g9 241 (a2 f),an g10 241 (a2 g),an g7 3 #[.int .i64 (i:Int)],an g6 86 (sc may),an g5 86 (sc on),an g4 223 (hY n)] []) ⟨(),⟨rfl,trivial⟩,H⟩ ?_;clear H;rintro ⟨⟩ u w5 H;have A:∀ s u,bw prog 188 [sv s,.int .i64 (i:Int),.bool (((bN b:Nat):Int)==1)] u fun r w'=>r=sv (aV s i b)∧aT u w':=fun s u=>by cases b <;> exact N4 s i _ (by omega) u
     refine H.fp [an g7 3 #[.int .i64 (i:Int)],an g6 86 (sc may),an g5 86 (sc on),an g4 223 (hY n)] (fun u H=>H.forget.forget) eO (by kernel_rfl) ?_;clear H;intro w6 H;refine quiet _ (fun w H=>H.ai 2 rfl aD av ae) ?_;refine quiet _ (fun w H=>H.load 0 rfl aF rfl ae) ?_;refine aj (A on _) ?_;rintro _ w7 ⟨rfl,hk7⟩;replace H:=H.same hk7;refine ⟨.inl H.forget.forget,?_⟩;refine quiet _ (fun w H=>H.ai 1 rfl aD av ae) ?_;refine quiet _ (fun w H=>H.load 0 rfl aF rfl ae) ?_;refine aj (A may _) ?_;rintro _ w8 ⟨rfl,hk8⟩;replace H:=H.same hk8;refine ⟨.inl H.forget.forget,?_⟩;refine quiet _ (fun w H=>aK underlying241 av (bN b) rfl T (o':=bN b*4) (by omega) ae) ?_;refine H.fK 0 rfl av (by rw[wR];show bN b*4+4≤8;omega) (fx _) (E5 f b _) ?_;clear H;intro w9 H;refine ⟨.inl H.forget.forget,?_⟩;refine quiet _ (fun w H=>aK underlying241 av (bN b) rfl T (o':=bN b*4) (by omega) ae) ?_;refine H.fK 1 rfl av (by rw[wR];show bN b*4+4≤8;omega) (fx _) (E5 g b _) ?_;clear H;intro w10 H;refine ⟨.inl H.forget.forget,?_⟩;exact ⟨(),trivial,H⟩
    ·clear H;rintro ⟨⟩ u w5 H;exact ⟨(bN b+1,Hh f b (aV on i b),Hh g b (aV may i b)),by show 2 - (bN b+1)<2 - bN b;omega,⟨up (by omega),trivial⟩,⟨by show bN b+1≤2;omega,fun c A=>by
      unfold Hh;by_cases he:c=b
      ·subst he;simp
      ·rw[if_neg he,if_neg he];refine F c ?_;have A:bN c<bN b+1:=A
       cases b <;> cases c <;> simp_all[bN]⟩,H⟩
   ·have X:f=aV on i:=funext fun b=>(F b (by unfold bN;cases b <;> simp <;> omega)).1;have e2:g=aV may i:=funext fun b=>(F b (by unfold bN;cases b <;> simp <;> omega)).2;subst X;subst e2;exact ⟨(),trivial,H⟩
  clear H;rintro ⟨⟩ u V H;refine ak (γ:=Nat) (fun g12=>[(12,(ah g12))]) (fun g12 w'=>Hp w ab w' [an g12 146 #[.slice none 0 0],an g9 241 (a2 (aV on i)),an g10 241 (a2 (aV may i)),an g7 3 #[.int .i64 (i:Int)],an g6 86 (sc may),an g5 86 (sc on),an g4 223 (hY n)] []) ?_ ?_
  ·refine H.alloc 146 (cs:=#[.slice none 0 0]) Hi rfl ?_;clear H;intro g12 w5 H;exact ⟨g12,⟨rfl,trivial⟩,H⟩
  clear H;rintro g12 u w5 H;refine ak (γ:=Nat) (fun g13=>[(13,(ah g13))]) (fun g13 w'=>Hp w ab w' [an g13 86 (sc (0)),an g12 146 #[.slice none (([]:List (Nat × Nat))).length 0],own 48 2 (.slice none (([]:List (Nat × Nat))).length 0) (([]:List (Nat × Nat))).length (flat bZ (([]:List (Nat × Nat)))),an g4 223 (hY n),an g9 241 (a2 (aV on i)),an g10 241 (a2 (aV may i)),an g7 3 #[.int .i64 (i:Int)],an g6 86 (sc may),an g5 86 (sc on)] []) ?_ ?_
  ·refine H.alloc 86 (cs:=sc 0) br aY ?_;clear H;intro g13 w6 H;have H:=H.bx 48 2;exact ⟨g13,⟨rfl,trivial⟩,H.b7 [1,2,0,8,3,4,5,6,7] (by decide) rfl⟩
  clear H;rintro g13 u w6 H;refine ak (γ:=Unit) (fun _=>[(14,.func (.func 189) #[] ([(ah g4),(ah g9),(ah g10),(ah g7),(ah g13),(ah g12)]:List Value).toArray)]) (fun _ w'=>Hp w ab w' [an g13 86 (sc (0)),an g12 146 #[.slice none (([]:List (Nat × Nat))).length 0],own 48 2 (.slice none (([]:List (Nat × Nat))).length 0) (([]:List (Nat × Nat))).length (flat bZ (([]:List (Nat × Nat)))),an g4 223 (hY n),an g9 241 (a2 (aV on i)),an g10 241 (a2 (aV may i)),an g7 3 #[.int .i64 (i:Int)],an g6 86 (sc may),an g5 86 (sc on)] []) ?_ ?_
  ·refine nN ?_;exact ⟨(),⟨rfl,trivial⟩,H⟩
  clear H;rintro ⟨⟩ u w7 H;have q:tJ n i on may:=⟨y,z,M,t,D⟩;refine ak (γ:=List (Nat × Nat) × Option Addr × Nat) (fun _=>[]) (fun (l,B,c) w'=>kR n (i+1) (bU (aV on i false) (aV may i true)) (aV may i false) l∧Hp w ab w' [an g13 86 (sc (bU (aV on i false) (dn n l))),an g12 146 #[.slice B (l.map (du i false)).length c],own 48 2 (.slice B (l.map (du i false)).length c) (l.map (du i false)).length (flat bZ (l.map (du i false))),an g4 223 (hY n),an g9 241 (a2 (aV on i)),an g10 241 (a2 (aV may i)),an g7 3 #[.int .i64 (i:Int)],an g6 86 (sc may),an g5 86 (sc on)] []) ?_ ?_
  ·refine ff (Ml m e K false (aV on i) (aV may i) 0 [] g4 g9 g10 g7 g13 g12 none 0 w w7 [an g6 86 (sc may),an g5 86 (sc on)] (tK m e q false true) (dp _) (by simp) H) ?_;rintro _ w8 ⟨rfl,l,B,c,a,H⟩;rw[Nat.zero_or,List.nil_append] at H;exact ⟨(l,B,c),trivial,a,H⟩
  clear H;rintro ⟨o,B,c⟩ u w8 ⟨G,H⟩;have hl0:o.length≤6561:=Nat.le_trans G.len (by have:=Nat.pow_le_pow_right (show 0<3 by decide) (show n - (i+1)≤8 by omega);omega);refine ak (γ:=List (Nat × Nat) × Option Addr × Nat) (fun _=>[]) (fun (l,B,c) w'=>kR n (i+1) (bU (aV on i true) (aV may i false)) (aV may i true) l∧Hp w ab w' [an g13 86 (sc (bU (aV on i false) (dn n o) |||bU (aV on i true) (dn n l))),an g12 146 #[.slice B (o.map (du i false)++l.map (du i true)).length c],own 48 2 (.slice B (o.map (du i false)++l.map (du i true)).length c) (o.map (du i false)++l.map (du i true)).length (flat bZ (o.map (du i false)++l.map (du i true))),an g4 223 (hY n),an g9 241 (a2 (aV on i)),an g10 241 (a2 (aV may i)),an g7 3 #[.int .i64 (i:Int)],an g6 86 (sc may),an g5 86 (sc on)] []) ?_ ?_
  ·refine ff (Ml m e K true (aV on i) (aV may i) _ (o.map (du i false)) g4 g9 g10 g7 g13 g12 B c w w8 [an g6 86 (sc may),an g5 86 (sc on)] (tK m e q true false) (dp _) (by rw[List.length_map];omega) H) ?_;rintro _ w9 ⟨rfl,l,B,c,a,H⟩;exact ⟨(l,B,c),trivial,a,H⟩
  clear H;rintro ⟨J,B,c⟩ u w9 ⟨I,H⟩;have hl1:J.length≤6561:=Nat.le_trans I.len (by have:=Nat.pow_le_pow_right (show 0<3 by decide) (show n - (i+1)≤8 by omega);omega);have U:IntKind.i64.wrap ((i:Int)+1)=((i+1:Nat):Int):=by rw[aH (by omega) (by omega)];omega
  have hlo:(o.map (du i false)++J.map (du i true)).length≤20000:=by rw[List.length_append,List.length_map,List.length_map];omega
  have x:∀ L2,kR n (i+1) (bU (aV on i false) (dn n o) |||bU (aV on i true) (dn n J)) (aV may i false &&&aV may i true) L2→kR n i on may (o.map (du i false)++J.map (du i true)++L2):=fun L2 h2=>E1 m e y z G I h2;have C:=Aq m e q G I;generalize bU (aV on i false) (dn n o) |||bU (aV on i true) (dn n J)=rest at H x C;generalize o.map (du i false)++J.map (du i true)=O at H x hlo;have p1:=lD (aV may i) false;have p2:=lD (aV may i) true;refine H.fp [an g13 86 (sc rest),an g12 146 #[.slice B O.length c],an g4 223 (hY n),an g9 241 (a2 (aV on i)),an g10 241 (a2 (aV may i)),an g7 3 #[.int .i64 (i:Int)],an g6 86 (sc may),an g5 86 (sc on)] (fun u H=>(H.front 2 rfl).forget) eO (by kernel_rfl) ?_;clear H;intro w10 H;refine quiet _ (fun w H=>H.load 1 rfl E4 rfl ae) ?_;refine quiet (yM n) (fun w H=>H.ai 2 rfl Ao wO ae) ?_;refine quiet _ (fun w H=>H.ai 0 rfl aD av ae) ?_;refine quiet _ (fun w H=>aK underlying241 av 0 rfl (by decide) (o':=0) rfl ae) ?_;refine quiet (sv (aV may i false)) (fun w H=>H.cY 4 rfl (bK (aV may i false)) aD av p1 ae) ?_;refine quiet _ (fun w H=>aK underlying241 av 1 rfl (by decide) (o':=4) rfl ae) ?_;refine quiet (sv (aV may i true)) (fun w H=>H.cY 4 rfl (bK (aV may i true)) aD av p2 ae) ?_;refine aj (c53 _ _ _) ?_;rintro _ w11 ⟨rfl,hk⟩;replace H:=H.same hk;refine ⟨.inl (H.front 2 rfl).forget,?_⟩;refine quiet _ (fun w H=>H.load 5 rfl aF rfl ae) ?_;have A:=K rest (aV may i false &&&aV may i true) w11 C;rw[← U] at A;refine aj A ?_;rintro _ w12 ⟨A2,c2,L2,rfl,a,m⟩;replace H:=H.bq m;refine ⟨.inl (H.forget.front 2 rfl).forget,?_⟩;have hl2:L2.length≤6561:=Nat.le_trans a.len (by have:=Nat.pow_le_pow_right (show 0<3 by decide) (show n - (i+1)≤8 by omega);omega);refine H.kO 3 wP rfl (bB (H.get 0 rfl)) (vx L2) (by omega) (by omega) ?_;clear H;intro A3 d3 w13 H;refine ⟨.inl (H.forget.front 2 rfl).forget,?_⟩;have X:(O++L2).length=O.length+L2.length:=List.length_append;have e2:flat bZ (O++L2)=flat bZ O++flat bZ L2:=by unfold flat;rw[List.flatMap_append]
  have H:Hp w ab w13 [own 48 2 (.slice A3 (O.length+L2.length) d3) (O.length+L2.length) (flat bZ O++flat bZ L2)] []:=H.b7 [3] (by decide) rfl;exact ⟨A3,d3,O++L2,by rw[X];rfl,x L2 a,by rw[X,e2];exact H.out⟩
def jF (c:Nat × Nat):Value:=cv c.1 c.2
theorem E6 {a b c d:Nat}:cv a b=cv c d↔a=c∧b=d:=by
 unfold cv cc;constructor
 ·intro h;injection h with h;have h:=congrArg Array.toList h;simp at h;omega
 ·rintro ⟨rfl,rfl⟩;rfl
theorem sA (a b:Nat × Nat)(h:jF a=jF b):a=b:=by
 obtain ⟨c,d⟩:=E6.1 h;exact Prod.ext c d
def Mm (v:Value):Prop:=∃ c,v=jF c
theorem Hj (a b:Nat)(em:Bool)(w:World):(Instr.checkKey em 10000 48 (cv a b)).run prog w=.ok () w:=by kernel_rfl
theorem yN (w:World)(a b:Nat):∀ (es:List MapEntry) (i:Nat),(∀ e ∈ es,Mm e.key)→
  ((Instr.findAsking 48 (cv a b) es i).run prog w=.ok none w∧∀ e ∈ es,e.key≠cv a b)∨∃ j e,(Instr.findAsking 48 (cv a b) es i).run prog w=.ok (some (i+j,e.val)) w∧es[j]?=some e∧e.key=cv a b
 | [],i,_=>.inl ⟨by simp[Instr.findAsking],by simp⟩
 | e::es,i,h=>by
  obtain ⟨⟨f,g⟩,he⟩:=h e (.head _);have he:e.key=cv f g:=he;have k:=yl a b f g w;by_cases l:a=f∧b=g
  ·obtain ⟨rfl,rfl⟩:=l;exact .inr ⟨0,e,by simp[Instr.findAsking,he,k],rfl,he⟩
  ·have p:(a==f&&b==g)=false:=by
    rw[Bool.eq_false_iff];intro c;simp at c;exact l c
   rw[p] at k;have m:e.key≠cv a b:=fun c=>l (by rw[he,E6] at c;exact ⟨c.1.symm,c.2.symm⟩);rcases yN w a b es (i+1) (fun x d=>h x (.tail _ d)) with ⟨n,o⟩ | ⟨j,q,n,o,r⟩
   ·refine .inl ⟨by simp[Instr.findAsking,he,k,n],fun x d=>?_⟩;rcases List.mem_cons.1 d with rfl | d
    ·exact m
    ·exact o x d
   ·exact .inr ⟨j+1,q,by simp[Instr.findAsking,he,k,n];omega,by simpa using o,r⟩
theorem N8:KL prog 48 Mm where
 check:=by rintro w em _ ⟨⟨a,b⟩,rfl⟩;exact Hj a b em w
 find:=by
  rintro w _ ⟨⟨a,b⟩,rfl⟩ es he
  cases es with
  | nil=>exact .inl ⟨by simp[Instr.findKey,run_underlying underlying48,Instr.findNow],by simp⟩
  | cons e es=>
   have d:∀ c,Instr.findNow (.struct c) (cv a b) (e::es) 0=none:=fun c=>rfl;have:=yN w a b (e::es) 0 he;simp only[Nat.zero_add] at this;show (_∨_);simp only[Instr.findKey,Sem.run_bind,run_underlying underlying48,Result.andThen_ok,jF,d];exact this
 stays:=by
  rintro w _ ⟨⟨a,b⟩,rfl⟩;have:Instr.sameBits 10000 (cv a b) (cv a b)=true:=by
   show (_&&_)=true;simp[Instr.sameBits,cc]
  simp[Instr.keyThatStays,jF,this]
theorem sh:ld prog 189 48 4 jF Value.bool (.bool false):=⟨underlying189,N8.mono fun _ ⟨n,h⟩=>⟨n,h⟩,sA,by kernel_rfl⟩
def wS (x:Rw):Value:=oU x.1 x.2.1 x.2.2
theorem E7 {a b c d e f:Nat}:oU a b c=oU d e f↔a=d∧b=e∧c=f:=by
 unfold oU eo;constructor
 ·intro h;injection h with h;have h:=congrArg Array.toList h;simp at h;omega
 ·rintro ⟨rfl,rfl,rfl⟩;rfl
theorem Hk (a b:Rw)(h:wS a=wS b):a=b:=by
 obtain ⟨c,d,e⟩:=E7.1 h;exact Prod.ext c (Prod.ext d e)
def Mn (v:Value):Prop:=∃ c,v=wS c
theorem As (e:Nat)(a b c d:Nat)(w:World):(Op.equalIn (e+2) 48 (cv a b) (cv c d)).run prog w=.ok (a==c&&b==d) w:=by
 unfold cv;rw[Op.equalIn];have i0:=dN underlying5 e (a:Int) (c:Int);have i1:=dN underlying5 e (b:Int) (d:Int);have g:∀ (x y:Nat) w,(Go.part 5 (cc x y) 0).run prog w=.ok (.int .u8 (x:Int)) w:=fun x y w=>gv b5 rfl w;have h:∀ (x y:Nat) w,(Go.part 5 (cc x y) 1).run prog w=.ok (.int .u8 (y:Int)) w:=fun x y w=>gv b5 rfl w;have e0:((a:Int)==(c:Int))=(a==c):=by rw[Bool.eq_iff_iff,beq_iff_eq,beq_iff_eq,Int.natCast_inj]
 have i:((b:Int)==(d:Int))=(b==d):=by rw[Bool.eq_iff_iff,beq_iff_eq,beq_iff_eq,Int.natCast_inj]
 rw[e0] at i0;rw[i] at i1;generalize (a==c)=b0 at *;generalize (b==d)=b1 at *;have f:Tryz.prog.stoodInHeld 48=false:=by kernel_rfl
 simp only[Sem.run_bind,run_underlying underlying48,Result.andThen_ok,Go.Dk.run_sizeOf aO,run_program,f]
 cases b0 <;> cases b1 <;> simp[g,h,i0,i1]
theorem E8 (a b c e f d:Nat)(w:World):(Op.equal 50 (oU a b c) (oU e f d)).run prog w=.ok ((a==e&&b==f)&&c==d) w:=by
 have i:∀ g,(Op.equalIn (g+3) 50 (oU a b c) (oU e f d)).run prog w=.ok ((a==e&&b==f)&&c==d) w:=by
  intro g;unfold oU;rw[Op.equalIn];have i0:=fun w=>As g a b e f w;have i1:=dN underlying5 (g+1) (c:Int) (d:Int);have j:∀ (x y z:Nat) w,(Go.part 48 (eo x y z) 0).run prog w=.ok (cv x y) w:=fun x y z w=>by kernel_rfl
  have k:∀ (x y z:Nat) w,(Go.part 5 (eo x y z) 2).run prog w=.ok (.int .u8 (z:Int)) w:=fun x y z w=>gv b5 rfl w;have e0:((c:Int)==(d:Int))=(c==d):=by rw[Bool.eq_iff_iff,beq_iff_eq,beq_iff_eq,Int.natCast_inj]
  rw[e0] at i1;generalize (a==e&&b==f)=b0 at *;generalize (c==d)=b1 at *;have h:Tryz.prog.stoodInHeld 50=false:=by kernel_rfl
  simp only[Sem.run_bind,run_underlying underlying50,Result.andThen_ok,Go.Dk.run_sizeOf aZ,run_program,h]
  cases b0 <;> cases b1 <;> simp[j,k,i0,i1]
 exact i 9997
theorem Hl (a b c:Nat)(em:Bool)(w:World):(Instr.checkKey em 10000 50 (oU a b c)).run prog w=.ok () w:=by kernel_rfl
theorem yO (w:World)(a b c:Nat):∀ (es:List MapEntry) (i:Nat),(∀ e ∈ es,Mn e.key)→
  ((Instr.findAsking 50 (oU a b c) es i).run prog w=.ok none w∧∀ e ∈ es,e.key≠oU a b c)∨∃ j e,(Instr.findAsking 50 (oU a b c) es i).run prog w=.ok (some (i+j,e.val)) w∧es[j]?=some e∧e.key=oU a b c
 | [],i,_=>.inl ⟨by simp[Instr.findAsking],by simp⟩
 | e::es,i,h=>by
  obtain ⟨⟨g,k,l⟩,he⟩:=h e (.head _);have he:e.key=oU g k l:=he;have m:=E8 a b c g k l w;by_cases n:a=g∧b=k∧c=l
  ·obtain ⟨rfl,rfl,rfl⟩:=n;exact .inr ⟨0,e,by simp[Instr.findAsking,he,m],rfl,he⟩
  ·have r:((a==g&&b==k)&&c==l)=false:=by
    rw[Bool.eq_false_iff];intro d;simp at d;exact n ⟨d.1.1,d.1.2,d.2⟩
   rw[r] at m;have o:e.key≠oU a b c:=fun d=>n (by rw[he,E7] at d;exact ⟨d.1.symm,d.2.1.symm,d.2.2.symm⟩);rcases yO w a b c es (i+1) (fun x f=>h x (.tail _ f)) with ⟨p,q⟩ | ⟨j,s,p,q,t⟩
   ·refine .inl ⟨by simp[Instr.findAsking,he,m,p],fun x f=>?_⟩;rcases List.mem_cons.1 f with rfl | f
    ·exact o
    ·exact q x f
   ·exact .inr ⟨j+1,s,by simp[Instr.findAsking,he,m,p];omega,by simpa using q,t⟩
theorem N9:KL prog 50 Mn where
 check:=by rintro w em _ ⟨⟨a,b,c⟩,rfl⟩;exact Hl a b c em w
 find:=by
  rintro w _ ⟨⟨a,b,c⟩,rfl⟩ es he
  cases es with
  | nil=>exact .inl ⟨by simp[Instr.findKey,run_underlying underlying50,Instr.findNow],by simp⟩
  | cons e es=>
   have f:∀ d,Instr.findNow (.struct d) (oU a b c) (e::es) 0=none:=fun d=>rfl;have:=yO w a b c (e::es) 0 he;simp only[Nat.zero_add] at this;show (_∨_);simp only[Instr.findKey,Sem.run_bind,run_underlying underlying50,Result.andThen_ok,wS,f];exact this
 stays:=by
  rintro w _ ⟨⟨a,b,c⟩,rfl⟩;have:Instr.sameBits 10000 (oU a b c) (oU a b c)=true:=by
   show (_&&_)=true;simp[Instr.sameBits,eo]
  simp[Instr.keyThatStays,wS,this]
theorem Kd:ld prog 145 50 4 wS Value.bool (.bool false):=⟨underlying145,N9.mono fun _ ⟨n,h⟩=>⟨n,h⟩,Hk,by kernel_rfl⟩
end Go.Proofs.YtpjihhgjbbihkaaGreatDoor
namespace Go.Dk
theorem kg {m v i:Nat}:(v &&&gT m i) &&&gT m i=v &&&gT m i:=by rw[Nat.and_assoc,Nat.and_self]
theorem mS {m n:Nat}(hm:m<2^n)(i:Nat):gT m i<2^n:=Nat.lt_of_le_of_lt Nat.and_le_left hm
theorem tL {m v n i:Nat}(b:n≤8)(hs:v &&&m=v):cq (bd m v n) (bd (gT m i) (v &&&gT m i) n):=fun p a=>by
 rw[bD b] at a ⊢;refine ⟨a.1,?_⟩;unfold gT;rw[← Nat.and_assoc,a.2,← Nat.and_assoc,hs]
theorem sB {m v s n:Nat}(a:n≤8)(hm:m<2^n)(hs:v &&&m=v):C_ m v s n=true↔cq (bd m v n) s:=by
 have b:2^n≤2^8:=Nat.pow_le_pow_right (by decide) a;have c:=sub_lt hm hs;unfold C_;rw[(ep (by omega) (by omega)).2 ⟨by omega,by omega,by rw[Int.toNat_natCast];exact hm,hs⟩,Bool.true_and,hK (pP _ _ _)]
theorem tM {s n m v:Nat}(a:n≤8)(hm:m<2^n)(hs:v &&&m=v)(hw:cq (bd m v n) s):∀ k,(dm s n m v k).1<2^n∧(dm s n m v k).2 &&&(dm s n m v k).1=(dm s n m v k).2∧cq (bd (dm s n m v k).1 (dm s n m v k).2 n) s∧cq (bd m v n) (bd (dm s n m v k).1 (dm s n m v k).2 n)
 | 0=>⟨hm,hs,hw,cq.refl _⟩
 | k+1=>by
  obtain ⟨b,c,e,d⟩:=tM a hm hs hw k;unfold dm;split
  ·rename_i h;exact ⟨mS b k,kg,(sB a (mS b k) kg).1 h,d.trans (tL a c)⟩
  ·exact ⟨b,c,e,d⟩
structure j2 (S:dX) (x:Rw):Prop where
 lt:x.1<2^S.n
 sub:x.2.1 &&&x.1=x.2.1
 some:0<x.2.2
 few:x.2.2<2^S.on.length
 uI:∀ (j b:Nat),x.2.2.testBit j=true→S.may[j]?=Option.some b→cq (bd x.1 x.2.1 S.n) b
theorem j2.ok {S:dX}(a:cL S){x:Rw}(h:j2 S x):gE S.n S.on.length x:=by
 have c:2^S.n≤2^8:=Nat.pow_le_pow_right (by decide) a.n8;have d:2^S.on.length≤2^4:=Nat.pow_le_pow_right (by decide) a.few;have hm:=h.lt;have e:=sub_lt h.lt h.sub;have b:=h.few;exact ⟨by omega,by omega,by omega,(ep (by omega) (by omega)).2 ⟨by omega,by have:=a.n8;omega,by rw[Int.toNat_natCast];exact hm,h.sub⟩,h.some,b⟩
theorem qo {S:dX}(a:cL S){m v:Nat}(hm:m<2^S.n)(hs:v &&&m=v)(j:Nat):(iR S m v).testBit j=true↔∃ b,S.may[j]?=Option.some b∧cq (bd m v S.n) b:=by
 rw[rb,Bool.and_eq_true,decide_eq_true_eq];constructor
 ·rintro ⟨c,hw⟩;refine ⟨S.may[j],List.getElem?_eq_getElem c,?_⟩;rw[List.getD_eq_getElem?_getD,List.getElem?_eq_getElem c] at hw;exact (sB a.n8 hm hs).1 hw
 ·rintro ⟨b,d,hw⟩;refine ⟨(List.getElem?_eq_some_iff.1 d).1,?_⟩;rw[List.getD_eq_getElem?_getD,d];exact (sB a.n8 hm hs).2 hw
theorem tN {S:dX}(d:cL S){m v o:Nat}(hm:m<2^S.n)(hs:v &&&m=v)(l:o<256):se S m v o=true↔j2 S (m,v,o):=by
 have f:S.may.length≤4:=by rw[d.len];exact d.few
 have p:=yF f m v;unfold se;rw[Bool.and_eq_true,decide_eq_true_eq,beq_iff_eq,iw];constructor
 ·rintro ⟨q,h⟩;have key:∀ j,o.testBit j=true→(iR S m v).testBit j=true:=fun j a=>by
   have k:=h j;have g:j<8:=by
    rcases Nat.lt_or_ge j 8 with h | h
    ·exact h
    ·rw[eg l h] at a;cases a
   rw[Nat.testBit_and,iE (by omega),a,decide_eq_true g] at k;simpa using k
  refine ⟨hm,hs,q,?_,fun j b a i=>?_⟩
  ·refine Nat.lt_pow_two_of_testBit _ fun j a=>?_;rw[Bool.eq_false_iff];intro i;have:=key j i;rw[rb,Bool.and_eq_true,decide_eq_true_eq,d.len] at this;omega
  ·obtain ⟨r,c,hw⟩:=(qo d hm hs j).1 (key j a);rw[i] at c;injection c with c;subst c;exact hw
 ·intro h;refine ⟨h.some,fun j=>?_⟩;rw[Nat.testBit_and,iE (by omega)]
  cases a:o.testBit j with
  | false=>rfl
  | true=>
   have e:j<S.may.length:=by
    rw[d.len];refine Nat.lt_of_not_le fun hle=>?_;rw[cC h.few hle] at a
    cases a
   have:=(qo d hm hs j).2 ⟨S.may[j],List.getElem?_eq_getElem e,h.uI j _ a (List.getElem?_eq_getElem e)⟩;rw[this];simp
theorem qp {S:dX}(a:cL S){m v o:Nat}(h:j2 S (m,v,o)):∀ k,j2 S ((ba S m v o k).1,(ba S m v o k).2,o)∧cq (bd m v S.n) (bd (ba S m v o k).1 (ba S m v o k).2 S.n)
 | 0=>⟨h,cq.refl _⟩
 | k+1=>by
  obtain ⟨b,c⟩:=qp a h k;have d:o<256:=(h.ok a).o;unfold ba;split
  ·rename_i hw;exact ⟨(tN a (mS b.lt k) kg d).1 hw,c.trans (tL a.n8 b.sub)⟩
  ·exact ⟨b,c⟩
theorem BY {S:dX}(e:cL S){m v o:Nat}(h:j2 S (m,v,o)):j2 S (m,v,iR S m v)∧∀ j,o.testBit j=true→(iR S m v).testBit j=true:=by
 have key:∀ j,o.testBit j=true→(iR S m v).testBit j=true:=fun j a=>by
  have d:j<S.may.length:=by
   rw[e.len];refine Nat.lt_of_not_le fun hle=>?_;rw[cC h.few hle] at a
   cases a
  exact (qo e h.lt h.sub j).2 ⟨S.may[j],List.getElem?_eq_getElem d,h.uI j _ a (List.getElem?_eq_getElem d)⟩
 refine ⟨⟨h.lt,h.sub,Nat.pos_of_ne_zero fun g=>?_,?_,fun j b a f=>?_⟩,key⟩
 ·have:o=0:=iw.2 fun j=>by
   rw[Bool.eq_false_iff];intro f;have a:=key j f;rw[show iR S m v=0 from g] at a;simp at a
  have:=h.some;simp only at this;omega
 ·refine Nat.lt_pow_two_of_testBit _ fun j a=>?_;rw[rb,decide_eq_false (by rw[e.len];omega)];rfl
 ·obtain ⟨i,c,hw⟩:=(qo e h.lt h.sub j).1 a;rw[f] at c;injection c with c;subst c;exact hw
structure Au (n on may:Nat) (G:List (Nat × Nat)):Prop where
 lt:∀ c ∈ G,c.1<2^n∧c.2 &&&c.1=c.2∧cq (bd c.1 c.2 n) may
 out:cq on (dn n G)
end Go.Dk
namespace Go.Proofs.YtpjihhgjbbihkaaGreatDoor
open Go.Proofs.Tryz
open Go.Dk
set_option maxRecDepth 100000
attribute [local irreducible] IntKind.wrap
theorem E9 {n:Nat}{w:World}{kk:Value→World→Prop}(h:kk (yM n) w):b8 prog 223 [(0,.int .i64 (n:Int)),(1,sv (bp n))] w kk:=
 bt (fun w=>by kernel_rfl) h
theorem Ke:enters prog 128=true:=by kernel_rfl
theorem N_ (n on may:Nat)(p:n≤8)(e:cq on may)(f:cq may (bp n))(b:on<2^256)(a:may<2^256)(w:World) :
  bw prog 128 [sv on,sv may,.int .i64 (n:Int)] w fun r w'=>∃ A c L,r=.tuple #[.slice A L.length c,.int .i64 0]∧kR n 0 on may L∧eE w w' (own 48 2 (.slice A L.length c) L.length (flat bZ L)):=by
 refine ar (N:=35) func128 Ke rfl rfl rfl (by simp) ?_;have H:=Hp.aC w;refine ak (γ:=Nat × Nat) (fun (g3,g4)=>[(3,(ah g3)),(4,(ah g4)),(6,.slice none 0 0),(7,.int .i64 0)]) (fun (g3,g4) w'=>Hp w ab w' [an g4 86 (sc may),an g3 86 (sc on)] []) ?_ ?_
 ·refine H.box 86 (sv on) (cs:=sc on) rfl ?_;clear H;intro g3 s H;refine H.box 86 (sv may) (cs:=sc may) rfl ?_;clear H;intro g4 q H;exact ⟨(g3,g4),⟨rfl,rfl,rfl,rfl,trivial⟩,H⟩
 clear H;rintro ⟨g3,g4⟩ u s H;refine ak (γ:=Nat) (fun g8=>[(8,(ah g8)),(9,.int .i64 0)]) (fun g8 w'=>Hp w ab w' [an g8 86 (sc (bp n)),an g4 86 (sc may),an g3 86 (sc on)] []) ?_ ?_
 ·refine aj (ow n p _) ?_;rintro _ q ⟨rfl,d⟩;replace H:=H.same d;refine H.alloc 86 (cs:=sc 0) br aY ?_;clear H;intro g8 t H;refine H.aW 0 rfl ?_;clear H;intro v H;exact ⟨g8,⟨rfl,rfl,trivial⟩,H⟩
 clear H;rintro g8 u q H;refine aw (fun w'=>Hp w ab w' [an g8 86 (sc (bp n)),an g4 86 (sc may),an g3 86 (sc on)] []) ?_ ?_
 ·have l:=(hK b).2 e;have m:=(hK a).2 f;have g:=fun u=>c85 on may b u;rw[l] at g;have i:=fun u=>c85 may (bp n) a u;rw[m] at i;refine af rfl ?_;refine H.ai 2 rfl aD av ?_;refine af rfl ?_;refine H.ai 1 rfl aD av ?_;refine af rfl ?_;refine aj (g _) ?_;rintro _ x ⟨rfl,d⟩;replace H:=H.same d;clear d
  iterate 3 refine af rfl ?_
  refine H.ai 1 rfl aD av ?_;refine af rfl ?_;refine H.ai 0 rfl aD av ?_;refine af rfl ?_;refine aj (i _) ?_;rintro _ y ⟨rfl,d⟩;replace H:=H.same d;clear d
  iterate 3 refine af rfl ?_
  exact ⟨(),trivial,H⟩
 clear H;rintro ⟨⟩ u t H;refine H.ai 0 rfl aD av ?_;refine E9 ?_;refine H.ai 2 rfl aD av ?_;refine H.ai 1 rfl aD av ?_;refine aj (c159 n p (n+1) 0 (Nat.zero_le _) (by omega) on may _ ⟨e,f,fun j h=>absurd h (Nat.not_lt_zero _),fun j h=>absurd h (Nat.not_lt_zero _),b⟩) ?_;rintro _ v ⟨A,c,L,rfl,k,o⟩;replace H:=H.bq o;exact ⟨A,c,L,rfl,k,H.only.out⟩
theorem Mo:enters prog 90=true:=by kernel_rfl
theorem O3 (n on may:Nat)(F:n≤8)(T:cq on may)(U:cq may (bp n))(V:on<2^256)(J:may<2^256)(w:World) :
  bw prog 90 [sv on,sv may,.int .i64 (n:Int)] w fun r w'=>∃ A c G,r=.tuple #[.slice A G.length c,.int .i64 0]∧Au n on may G∧G.length≤6561∧eE w w' (own 48 2 (.slice A G.length c) G.length (flat bZ G)):=by
 refine ar (N:=52) func90 Mo rfl rfl rfl (by simp) ?_;have H:=Hp.aC w;have h2:2^n≤2^8:=Nat.pow_le_pow_right (by decide) F;refine ak (γ:=Nat × Nat) (fun (g3,g4)=>[(3,(ah g3)),(4,(ah g4)),(6,.slice none 0 0),(7,.int .i64 0)]) (fun (g3,g4) w'=>Hp w ab w' [an g4 86 (sc may),an g3 86 (sc on)] []) ?_ ?_
 ·refine H.box 86 (sv on) (cs:=sc on) rfl ?_;clear H;intro g3 w1 H;refine H.box 86 (sv may) (cs:=sc may) rfl ?_;clear H;intro g4 w2 H;exact ⟨(g3,g4),⟨rfl,rfl,rfl,rfl,trivial⟩,H⟩
 clear H;rintro ⟨g3,g4⟩ u w1 H;refine ak (γ:=Option Addr × Nat × List (Nat × Nat)) (fun (A,c,L)=>[(8,.slice A L.length c),(9,.int .i64 0)]) (fun (A,c,L) w'=>kR n 0 on may L∧Hp w ab w' [own 48 2 (.slice A L.length c) L.length (flat bZ L),an g4 86 (sc may)] []) ?_ ?_
 ·refine H.ai 1 rfl aD av ?_;refine H.ai 0 rfl aD av ?_;refine aj (N_ n on may F T U V J _) ?_;rintro _ w2 ⟨A,c,L,rfl,a,X⟩;replace H:=H.bq X;exact ⟨(A,c,L),⟨rfl,rfl,trivial⟩,a,H.b7 [0,1] (by decide) rfl⟩
 clear H;rintro ⟨A,c,L⟩ u w2 ⟨a,H⟩;have hll:L.length≤6561:=Nat.le_trans a.len (by have:=Nat.pow_le_pow_right (show 0<3 by decide) (show n - 0≤8 by omega);omega);refine aw (fun w'=>Hp w ab w' [own 48 2 (.slice A L.length c) L.length (flat bZ L),an g4 86 (sc may)] []) ?_ ?_
 ·refine af rfl ?_;exact ⟨(),trivial,H⟩
 clear H;rintro ⟨⟩ u w3 H;refine ak (γ:=Nat) (fun r=>[(10,.map (some r))]) (fun r w'=>Hp w ab w' [aP jF Value.bool r [],own 48 2 (.slice A L.length c) L.length (flat bZ L),an g4 86 (sc may)] []) ?_ ?_
 ·refine H.makeMap jF Value.bool ?_;clear H;intro r w4 H;exact ⟨r,⟨rfl,trivial⟩,H⟩
 clear H;rintro r u w4 H;refine ak (γ:=Unit) (fun _=>[(11,.slice none 0 0)]) (fun _ w'=>Hp w ab w' [own 48 2 (.slice none 0 0) 0 [],aP jF Value.bool r [],own 48 2 (.slice A L.length c) L.length (flat bZ L),an g4 86 (sc may)] []) ⟨(),⟨rfl,trivial⟩,H.bx 48 2⟩ ?_;clear H;rintro ⟨⟩ u w5 H;refine ak (γ:=List (Nat × Nat) × Option Addr × Nat) (fun (G,B,d)=>[(11,.slice B G.length d)]) (fun (G,B,d) w'=>(Au n on may G∧G.length≤6561)∧Hp w ab w' [own 48 2 (.slice B G.length d) G.length (flat bZ G)] []) ?_ ?_
 ·refine ay underlying146 ?_;refine ax (γ:=Nat × List (Nat × Nat) × Option Addr × Nat × List ((Nat × Nat) × Bool)) (fun (k,G,B,d,_)=>[(29,.int .i64 (k:Int)),(11,.slice B G.length d)]) (fun (k,G,B,d,l) w'=>(k≤L.length∧(∀ x ∈ G,x.1<2^n∧x.2 &&&x.1=x.2∧cq (bd x.1 x.2 n) may)∧(∀ x ∈ L.take k,dm may n x.1 x.2 n ∈ G)∧G.length≤k∧∀ x,(bS l x).getD false=decide (x ∈ G))∧Hp w ab w' [own 48 2 (.slice B G.length d) G.length (flat bZ G),aP jF Value.bool r l,own 48 2 (.slice A L.length c) L.length (flat bZ L),an g4 86 (sc may)] []) (fun (k,_)=>L.length - k) (0,[],none,0,[]) ⟨rfl,rfl,trivial⟩ ⟨⟨Nat.zero_le _,fun x h=>by simp at h,fun x h=>by simp at h,Nat.le_refl _,fun x=>by rw[sW];simp⟩,H⟩ ?_;clear H;rintro ⟨k,G,B,d,l⟩ u w6 ⟨⟨hk,D,f,o,e⟩,H⟩;refine au (fun h7=>?_) (fun h7=>?_)
  ·obtain ⟨x,I,E⟩:=rh (l:=L) (j:=k) (by omega);have b:=a.cubes x E;obtain ⟨hm,hv⟩:=b.BW F;have t:cq (bd x.1 x.2 n) may:=fun p K=>a.uI p (dU.2 ⟨x,E,K⟩);have q:=tM F b.lt b.sub t n;have M:=(sB F b.lt b.sub).2 t;have Y:=iU I;refine ak (γ:=List (Nat × Nat) × Option Addr × Nat × List ((Nat × Nat) × Bool)) (fun (G,B,d,_)=>[(11,.slice B G.length d)]) (fun (G,B,d,l) w'=>((∀ x ∈ G,x.1<2^n∧x.2 &&&x.1=x.2∧cq (bd x.1 x.2 n) may)∧(∀ x ∈ L.take (k+1),dm may n x.1 x.2 n ∈ G)∧G.length≤k+1∧∀ x,(bS l x).getD false=decide (x ∈ G))∧Hp w ab w' [own 48 2 (.slice B G.length d) G.length (flat bZ G),aP jF Value.bool r l,own 48 2 (.slice A L.length c) L.length (flat bZ L),an g4 86 (sc may)] []) ?_ ?_
   ·rw[Y];obtain ⟨m,v⟩:=x;simp only at hm hv M q;obtain ⟨gA,rfl⟩:=H.lY 2 rfl (by omega);refine ak (γ:=Nat) (fun g13=>[(13,(ah g13))]) (fun g13 w'=>Hp w ab w' [an g13 48 (cc m v),own 48 2 (.slice B G.length d) G.length (flat bZ G),aP jF Value.bool r l,own 48 2 (.slice (some ⟨gA,0,none⟩) L.length c) L.length (flat bZ L),an g4 86 (sc may)] []) ?_ ?_
    ·refine ao underlying146 aO k rfl (by omega) (o':=k*2) (by omega) ?_;refine H.gu 2 rfl fq bz aO k rfl I ?_;refine H.alloc 48 (cs:=cc 0 0) fj rfl ?_;clear H;intro g13 w7 H;refine H.bR (c:=m) (d:=v) 0 rfl ?_;clear H;intro w8 H;exact ⟨g13,⟨rfl,trivial⟩,H⟩
    clear H;rintro g13 u w7 H;have O:=N3 m v may hm hv n F M;generalize Z:dm may n m v n=g at q O;have Q:∀ S:List (Nat × Nat),(∀ y ∈ G,y ∈ S)→g ∈ S→∀ y ∈ L.take k++[(m,v)],dm may n y.1 y.2 n ∈ S:=fun S h1 h2 y i=>by
     rcases List.mem_append.1 i with i | i
     ·exact h1 _ (f y i)
     ·rw[List.mem_singleton] at i;subst i;rw[Z];exact h2
    refine ak (γ:=Nat) (fun g14=>[(14,(ah g14))]) (fun g14 w'=>Hp w ab w' [an g14 48 (cc g.1 g.2),own 48 2 (.slice B G.length d) G.length (flat bZ G),aP jF Value.bool r l,own 48 2 (.slice (some ⟨gA,0,none⟩) L.length c) L.length (flat bZ L),an g4 86 (sc may)] []) ?_ ?_
    ·refine H.ai 0 rfl bz aO ?_;refine H.ai 4 rfl aD av ?_;refine aj (O _) ?_;rintro _ w8 ⟨rfl,a0⟩;replace H:=H.same a0;refine H.alloc 48 (cs:=cc 0 0) fj rfl ?_;clear H;intro g14 w9 H;refine H.bR (c:=g.1) (d:=g.2) 0 rfl ?_;clear H;intro a1 H;exact ⟨g14,⟨rfl,trivial⟩,H.b7 [0,2,3,4,5] (by decide) rfl⟩
    clear H;rintro g14 u w8 H;have z:=e g;refine H.ai 0 rfl bz aO ?_;by_cases s:g ∈ G
    ·rw[decide_eq_true s] at z;refine en (H.get 2 rfl) sh g (v:=.bool true) (by revert z;cases bS l g <;> simp) ?_;refine af rfl ?_;exact ⟨(G,B,d,l),⟨rfl,trivial⟩,⟨D,Q G (fun y h=>h) s,by show G.length≤k+1;omega,e⟩,H.forget⟩
    ·rw[decide_eq_false s] at z;refine en (H.get 2 rfl) sh g (v:=.bool false) (by revert z;cases bS l g <;> simp) ?_;refine ag rfl ?_;refine H.ai 0 rfl bz aO ?_;refine H.iI 2 rfl sh g true ?_;clear H;intro w9 H;refine H.ai 0 rfl bz aO ?_;refine H.bf wP (cs:=cc g.1 g.2) (by decide) (by decide) (by kernel_rfl) ?_;clear H;intro g20 a1 H;refine H.aG 2 0 wP rfl rfl rfl (wq _ _) (by omega) (by omega) ?_;clear H;intro B2 d2 w11 H;have e1:(G++[g]).length=G.length+1:=by rw[List.length_append];rfl
     have e2:flat bZ (G++[g])=flat bZ G++bZ g:=de ..;refine ⟨(G++[g],B2,d2,dZ l g true),⟨by rw[e1];rfl,trivial⟩,⟨fun y i=>?_,Q _ (fun y h=>List.mem_append_left _ h) (List.mem_append_right _ (List.mem_singleton.2 rfl)),by show (G++[g]).length≤k+1;omega,fun y=>?_⟩,by rw[e1,e2];exact H.forget.forget⟩
     ·rcases List.mem_append.1 i with i | i
      ·exact D y i
      ·rw[List.mem_singleton] at i;subst i;exact ⟨q.1,q.2.1,q.2.2.1⟩
     ·rw[fg];by_cases C:y=g
      ·rw[if_pos C,C];simp
      ·rw[if_neg C,e y];simp[C]
   ·clear H D f o e;rintro ⟨G,B,d,l⟩ u w7 ⟨⟨D,f,o,e⟩,H⟩;exact ⟨(k+1,G,B,d,l),by show L.length - (k+1)<L.length - k;omega,⟨up (by omega),rfl,trivial⟩,⟨by show k+1≤L.length;omega,D,f,o,e⟩,H⟩
  ·have:k=L.length:=by omega
   subst this;rw[List.take_length] at f;refine ⟨(G,B,d),⟨rfl,trivial⟩,⟨⟨D,fun p K=>?_⟩,by omega⟩,H.only⟩;obtain ⟨x,I,a2⟩:=dU.1 (a.out p K);have b:=a.cubes x I;have t:cq (bd x.1 x.2 n) may:=fun p K=>a.uI p (dU.2 ⟨x,I,K⟩);exact dU.2 ⟨_,f x I,(tM F b.lt b.sub t n).2.2.2 p a2⟩
 clear H;rintro ⟨G,B,d⟩ u w6 ⟨⟨D,o⟩,H⟩;exact ⟨B,d,G,rfl,D,o,H.out⟩
end Go.Proofs.YtpjihhgjbbihkaaGreatDoor
namespace Go.Dk
section
variable {P:Program} {w0 w:World} {F:Nat→Prop} {L M:List cH} {kk:Value→World→Prop}
theorem vy {t e:TypeId}{sz l c i g:Nat}{kd:IntKind}{j:Int}(a:P.underlying t=some (.slice e))(b:bE P e=some sz)(d:j=(i:Int))(hi:i≤l)(f:l≤c)(k:0<c)(h:kk (.slice (some ⟨g,0,none⟩) i c) w):eY P t (.slice (some ⟨g,0,none⟩) l c) none (some (.int kd j)) none w kk:=by
 subst d;unfold eY;refine ⟨_,w,?_,h⟩;rw[run_sliceAt_slice w t _ _ _ _ (elemOf a),run_slice_h w t (some ⟨g,0,none⟩) l c (elemOf a) kd (i:Int) (by omega) (by omega),nD a,run_sizeOf b];show Result.ok (sliced (some ⟨g,0,none⟩) 0 i c sz) w=_;unfold sliced;rw[if_neg (by omega)];simp[addr_add]
theorem Hp.Dc (H:Hp w0 F w L M)(n:Nat){t e ty:TypeId}{z:Value}{sz b l c i g:Nat}{xs:List Value}{p:Array Bool}(T:qI P t e z sz b)(m:L[n]?=some (own e sz (.slice (some ⟨g,0,none⟩) l c) l xs))(hi:i<l)(j:∀ u ∈ xs,u.oneCell'=true)(E:l*b≤140737488355328)(G:l<1152921504606846976)(h:∀ A d w',Hp w0 F w' (L.set n (own e sz (.slice A (l - 1) d) (l - 1) (xs.take (i*sz)++xs.drop ((i+1)*sz)))) M→kk (.slice A (l - 1) d) w') :
  bV P .append #[t,t] ty p [.slice (some ⟨g,0,none⟩) i c,sliced (some ⟨g,0,none⟩) (i+1) l c sz] w kk:=by
 obtain ⟨U,I,J,K,V⟩:=T.parts;have q:=bB (H.get n m);obtain ⟨X,Y,N,k⟩:=l7 T.und T.size q (i:=i+1) (by omega);rw[N];obtain ⟨hlen,f⟩:=H.get n m;rcases f with ⟨C,J⟩ | ⟨Z,cap,cur,C,r,O,Q,hm,s,o⟩
 ·omega
 injection C with v1 _ v2;injection v1 with v1;injection v1 with v1 _ _;subst v1;subst v2;have hmul:=Nat.mul_le_mul_right sz (show i≤l by omega);have a:(own e sz (.slice (some ⟨g,0,none⟩) i c) i (xs.take (i*sz))).ok w:=by
  refine ⟨by rw[List.length_take,hlen];omega,.inr ⟨g,c,cur,rfl,r,O,by omega,hm,s,?_⟩⟩;rw[← o,List.take_take,Nat.min_eq_left hmul]
 have S:=H.nc n m (own e sz (.slice (some ⟨g,0,none⟩) i c) i (xs.take (i*sz))) (aS.refl _ _) a (fun x o=>⟨(World.ownsRow.lt (w:=w) (base:=0) a x o).2,.inl o⟩);have v:(L.set n (own e sz (.slice (some ⟨g,0,none⟩) i c) i (xs.take (i*sz))))[n]?=some (own e sz (.slice (some ⟨g,0,none⟩) i c) i (xs.take (i*sz))):=by
  rw[List.getElem?_set,if_pos rfl,if_pos (List.getElem?_eq_some_iff.1 m).1]
 have hle:l - (i+1)=l - 1 - i:=by omega
 have y:i+(l - 1 - i)=l - 1:=by omega
 rw[hle] at k ⊢;have B:(i+(l - 1 - i))*b≤140737488355328:=by rw[y];exact Nat.le_trans (Nat.mul_le_mul_right b (by omega)) E
 refine S.kO n T v k (fun u hu=>j u (List.mem_of_mem_drop hu)) B (by omega) ?_;intro A d w' D;rw[List.set_set,y] at D;have:=h A d w' D;rw[y];exact this
end
def iu (o out:Nat):Nat:=o &&&(255 - 2^out)
def bh (l:List Rw)(i out:Nat):List Rw:=
 match l[i]? with
 | some x=>if iu x.2.2 out=0 then l.take i++l.drop (i+1) else l.set i (x.1,x.2.1,iu x.2.2 out)
 | none=>l
theorem oH {α:Type}{enc:α→List Value}{sz:Nat}(he:∀ a,(enc a).length=sz):∀ (l:List α) (i:Nat),flat enc (l.take i)=(flat enc l).take (i*sz)
 | [],i=>by simp[flat]
 | a::l,0=>by simp[flat]
 | a::l,i+1=>by
  have b:=oH he l i;have e:flat enc (a::l)=enc a++flat enc l:=rfl;rw[List.take_succ_cons,e,Nat.succ_mul,Nat.add_comm,List.take_append,he,Nat.add_sub_cancel_left,← b,List.take_of_length_le (l:=enc a) (by rw[he];omega)];rfl
theorem oI {α:Type}{enc:α→List Value}{sz:Nat}(he:∀ a,(enc a).length=sz):∀ (l:List α) (i:Nat),flat enc (l.drop i)=(flat enc l).drop (i*sz)
 | [],i=>by simp[flat]
 | a::l,0=>by simp
 | a::l,i+1=>by
  have b:=oI he l i;have e:flat enc (a::l)=enc a++flat enc l:=rfl;rw[List.drop_succ_cons,e,Nat.succ_mul,Nat.add_comm,List.drop_append,he,Nat.add_sub_cancel_left,← b,List.drop_of_length_le (l:=enc a) (by rw[he];omega)];rfl
end Go.Dk
namespace Go.Proofs.YtpjihhgjbbihkaaGreatDoor
open Go.Proofs.Tryz
open Go.Dk
set_option maxRecDepth 100000
attribute [local irreducible] IntKind.wrap
theorem vz:qI prog 44 50 (oU 0 0 0) 3 3:=⟨underlying44,by kernel_rfl,rfl,by decide⟩
theorem ml (l:List Rw):∀ v ∈ flat a6 l,v.oneCell'=true:=fun v a=>by
 unfold flat at a;obtain ⟨x,_,b⟩:=List.mem_flatMap.1 a;exact dT x.1 x.2.1 x.2.2 v b
theorem Mp:enters prog 93=true:=by kernel_rfl
theorem c93 (l:List Rw)(i out:Nat)(hi:i<l.length)(f:out<8)(z:∀ x ∈ l,x.2.2<256)(C:l.length≤1000000)(A:Option Addr)(c:Nat)(w:World)(E:Sl w (.slice A l.length c) 3 l.length (flat a6 l)) :
  bw prog 93 [.slice A l.length c,.int .i64 (i:Int),.int .i64 (out:Int)] w fun r w'=>∃ D d,r=.slice D (bh l i out).length d∧eE w w' (own 50 3 (.slice D (bh l i out).length d) (bh l i out).length (flat a6 (bh l i out))):=by
 refine ar (N:=36) func93 Mp rfl rfl rfl (by simp) ?_;have H:=Hp.aC w;obtain ⟨x,n,j⟩:=iT hi;have p:=z x j;have q:bh l i out=if iu x.2.2 out=0 then l.take i++l.drop (i+1) else l.set i (x.1,x.2.1,iu x.2.2 out):=by unfold bh;rw[n]
 rw[q];obtain ⟨m,v,o⟩:=x;simp only at p;have Q:2^out<256:=show 2^out<2^8 from Nat.pow_lt_pow_right (by decide) f;refine ak (γ:=Unit) (fun _=>[(6,.slice none 0 0)]) (fun _ w'=>Hp w ab w' [] []) ⟨(),⟨rfl,trivial⟩,H⟩ ?_;clear H;rintro ⟨⟩ u S H;refine ak (γ:=Nat × Nat) (fun (g,d)=>[(7,.slice (some ⟨g,0,none⟩) l.length d)]) (fun (g,d) w'=>(l.length≤d)∧Hp w ab w' [own 50 3 (.slice (some ⟨g,0,none⟩) l.length d) l.length (flat a6 l)] []) ?_ ?_
 ·refine Hp.dr H vz ?_;clear H;intro g20 F H;refine Hp.b_ H 0 vz rfl (E.same H.keeps) (ml l) (by omega) (by omega) ?_;clear H;intro T d1 G H;obtain ⟨g,rfl⟩:=H.lY 0 rfl (by omega);have t:l.length≤d1:=by
   obtain ⟨U,V,e,h⟩:=fh (H.get 0 rfl);injection e with _ _ e;omega
  exact ⟨(g,d1),⟨rfl,trivial⟩,t,H⟩
 clear H;rintro ⟨g,d⟩ u F ⟨t,H⟩;have a:(l.set i (m,v,iu o out))[i]?=some (m,v,iu o out):=by rw[List.getElem?_set];simp[hi]
 have b:(l.set i (m,v,iu o out)).length=l.length:=List.length_set;refine ak (γ:=Option Addr × Nat × List Rw) (fun (B,d,R)=>[(7,.slice B R.length d)]) (fun (B,d,R) w'=>R=(if iu o out=0 then l.take i++l.drop (i+1) else l.set i (m,v,iu o out))∧Hp w ab w' [own 50 3 (.slice B R.length d) R.length (flat a6 R)] []) ?_ ?_
 ·refine H.draw eO (by kernel_rfl) ?_;clear H;intro G H;refine quiet _ (fun w H=>ao underlying44 aZ i rfl hi (o':=0+i*3) rfl ae) ?_;refine quiet _ (fun w H=>aa (dt _ _) ae) ?_;refine quiet (.int .u8 (o:Int)) (fun w H=>H.kL 0 rfl bl b5 i 2 (by omega) n rfl ae) ?_;refine quiet _ (fun w H=>cf (by omega) ae) ?_;refine quiet _ (fun w H=>jD (by omega) (by omega) ae) ?_;refine quiet _ (fun w H=>ao underlying44 aZ i rfl hi (o':=0+i*3) rfl ae) ?_;refine quiet _ (fun w H=>aa (dt _ _) ae) ?_;refine H.rM 0 (m,v,iu o out) rfl bl j4 i 2 (by omega) n (by decide) rfl rfl ?_;clear H;intro I H;refine ⟨.inr rfl,?_⟩;generalize s:l.set i (m,v,iu o out)=L at H a b ⊢;refine ao underlying44 aZ i rfl hi (o':=0+i*3) rfl ?_;refine aa (dt _ _) ?_;refine H.kL 0 rfl bl b5 i 2 (by omega) a (u:=.int .u8 ((iu o out:Nat):Int)) rfl ?_;by_cases y:iu o out=0
  ·refine ag (by rw[beq_iff_eq];omega) ?_;refine H.fp [] (fun u H=>H.forget) eO (by kernel_rfl) ?_;clear H;intro X H;refine quiet _ (fun w H=>vy (i:=i) underlying44 aZ rfl (by omega) (by omega) (by omega) ae) ?_;have hw:IntKind.i64.wrap ((i:Int)+1)=((i+1:Nat):Int):=by rw[aH (by omega) (by omega)];omega
   refine quiet _ (fun w H=>sk (i:=i+1) (sz:=3) (l:=l.length) (c:=d) (A:=some ⟨g,0,none⟩) underlying44 aZ hw (by omega) ae) ?_;refine H.Dc 0 vz rfl hi (ml L) (by omega) (by omega) ?_;clear H;intro J d2 Y H;refine ⟨.inl H.forget,?_⟩;have k:(l.take i++l.drop (i+1)).length=l.length - 1:=by simp;omega
   have K:(flat a6 L).take (i*3)++(flat a6 L).drop ((i+1)*3)=flat a6 (l.take i++l.drop (i+1)):=by
    rw[← oH bl,← oI bl,← s,List.take_set_of_le (Nat.le_refl _),List.drop_set_of_lt (by omega)];unfold flat;rw[List.flatMap_append]
   refine ⟨(J,d2,l.take i++l.drop (i+1)),⟨by rw[k];rfl,trivial⟩,(if_pos y).symm,?_⟩;rw[k,← K];exact H
  ·refine af (by rw[beq_eq_false_iff_ne];omega) ?_;exact ⟨(some ⟨g,0,none⟩,d,L),⟨by rw[b];rfl,trivial⟩,(if_neg y).symm,by rw[b];exact H⟩
 clear H;rintro ⟨B,M,R⟩ u I ⟨O,H⟩;subst O;exact ⟨B,M,rfl,H.out⟩
end Go.Proofs.YtpjihhgjbbihkaaGreatDoor
namespace Go.Dk
def nQ (S:dX)(m v o:Nat):Rw:=((ba S m v o S.n).1,(ba S m v o S.n).2,iR S (ba S m v o S.n).1 (ba S m v o S.n).2)
theorem qq {S:dX}(a:cL S){m v o:Nat}(h:j2 S (m,v,o)):j2 S (nQ S m v o)∧cq (bd m v S.n) (bd (nQ S m v o).1 (nQ S m v o).2.1 S.n)∧∀ j,o.testBit j=true→(nQ S m v o).2.2.testBit j=true:=by
 obtain ⟨b,c⟩:=qp a h S.n;obtain ⟨d,e⟩:=BY a b;exact ⟨d,c,e⟩
structure ri (S:dX) (k:Nat) (R:List Rw):Prop where
 uI:∀ x ∈ R,j2 S x
 out:∀ i a,i<k→S.on[i]?=some a→cq a (fU S.n i R)
theorem Kf {S:dX}(f:cL S){i:Nat}{a:Nat}{m v:Nat}(d:S.may[i]?=some a)(hm:m<2^S.n)(hs:v &&&m=v)(hw:cq (bd m v S.n) a):j2 S (m,v,2^i):=by
 have hi:i<S.on.length:=by rw[← f.len];exact (List.getElem?_eq_some_iff.1 d).1
 refine ⟨hm,hs,Nat.pow_pos (by decide),Nat.pow_lt_pow_right (by decide) hi,fun j b e c=>?_⟩;rw[Nat.testBit_two_pow,decide_eq_true_eq] at e;subst e;rw[d] at c;injection c with c;subst c;exact hw
end Go.Dk
namespace Go.Proofs.YtpjihhgjbbihkaaGreatDoor
open Go.Proofs.Tryz
open Go.Dk
set_option maxRecDepth 100000
attribute [local irreducible] IntKind.wrap
theorem Mq:enters prog 57=true:=by kernel_rfl
theorem O4 {S:dX}(s:cL S)(Bo:Option Addr)(co:Nat)(Bm:Option Addr)(cm:Nat)(w:World)(hA:fY w S Bo co Bm cm) :
  bw prog 57 [r4 S.n (.slice Bo S.on.length co) (.slice Bm S.may.length cm)] w fun r w'=>∃ A c R,r=.tuple #[.slice A R.length c,.int .i64 0]∧ri S S.on.length R∧R.length≤26244∧eE w w' (own 50 3 (.slice A R.length c) R.length (flat a6 R)):=by
 refine ar (N:=66) func57 Mq rfl rfl rfl (by simp) ?_;have H:=Hp.aC w;have hn8:=s.n8;have hml:S.may.length=S.on.length:=s.len;have h4:=s.few;obtain ⟨D,t,rfl⟩:=hA.on.A (by have:=s.some;omega);obtain ⟨E,C,rfl⟩:=hA.may.A (by have:=s.some;omega);refine ak (γ:=Nat) (fun g1=>[(1,(ah g1))]) (fun g1 w'=>Hp w ab w' [an g1 41 (bo S.n (.slice (some ⟨D,t,none⟩) S.on.length co) (.slice (some ⟨E,C,none⟩) S.may.length cm))] []) ?_ ?_
 ·refine H.box 41 _ (cs:=bo S.n (.slice (some ⟨D,t,none⟩) S.on.length co) (.slice (some ⟨E,C,none⟩) S.may.length cm)) rfl ?_;clear H;intro g1 w1 H;exact ⟨g1,⟨rfl,trivial⟩,H⟩
 clear H;rintro g1 u w1 H;refine aw (fun w'=>Hp w ab w' [an g1 41 (bo S.n (.slice (some ⟨D,t,none⟩) S.on.length co) (.slice (some ⟨E,C,none⟩) S.may.length cm))] []) ?_ ?_
 ·refine H.ai 0 rfl dw bL ?_;refine aj (He s _ co _ cm _ (hA.same H.keeps)) ?_;rintro _ w2 ⟨rfl,hk⟩;replace H:=H.same hk;refine af rfl ?_;exact ⟨(),trivial,H⟩
 clear H;rintro ⟨⟩ u w2 H;refine ak (γ:=Nat) (fun r=>[(4,.map (some r))]) (fun r w'=>Hp w ab w' [aP wS Value.bool r [],an g1 41 (bo S.n (.slice (some ⟨D,t,none⟩) S.on.length co) (.slice (some ⟨E,C,none⟩) S.may.length cm))] []) ?_ ?_
 ·refine H.makeMap wS Value.bool ?_;clear H;intro r w4 H;exact ⟨r,⟨rfl,trivial⟩,H⟩
 clear H;rintro r u w3 H;refine ak (γ:=Unit) (fun _=>[(5,.slice none 0 0)]) (fun _ w'=>Hp w ab w' [own 50 3 (.slice none 0 0) 0 [],aP wS Value.bool r [],an g1 41 (bo S.n (.slice (some ⟨D,t,none⟩) S.on.length co) (.slice (some ⟨E,C,none⟩) S.may.length cm))] []) ⟨(),⟨rfl,trivial⟩,H.bx 50 3⟩ ?_;clear H;rintro ⟨⟩ u w4 H;refine ak (γ:=List Rw × Option Addr × Nat) (fun (R,B,d)=>[(5,.slice B R.length d)]) (fun (R,B,d) w'=>(ri S S.on.length R∧R.length≤26244)∧Hp w ab w' [own 50 3 (.slice B R.length d) R.length (flat a6 R)] []) ?_ ?_
 ·refine aa (fR _) ?_;refine H.load 2 rfl dS rfl ?_;refine ay underlying39 ?_;refine ax (γ:=Nat × List Rw × Option Addr × Nat × List (Rw × Bool)) (fun (k,R,B,d,_)=>[(21,.int .i64 (k:Int)),(5,.slice B R.length d)]) (fun (k,R,B,d,l) w'=>(k≤S.on.length∧ri S k R∧R.length≤k*6561∧∀ x,(bS l x).getD false=decide (x ∈ R))∧Hp w ab w' [own 50 3 (.slice B R.length d) R.length (flat a6 R),aP wS Value.bool r l,an g1 41 (bo S.n (.slice (some ⟨D,t,none⟩) S.on.length co) (.slice (some ⟨E,C,none⟩) S.may.length cm))] []) (fun (k,_)=>S.on.length - k) (0,[],none,0,[]) ⟨rfl,rfl,trivial⟩ ⟨⟨Nat.zero_le _,⟨fun x h=>by simp at h,fun i a h=>absurd h (Nat.not_lt_zero _)⟩,Nat.zero_le _,fun x=>by rw[sW];simp⟩,H⟩ ?_;clear H;rintro ⟨k,R,B,d,l⟩ u w6 ⟨⟨hk,hP,I,f⟩,H⟩;refine au (fun h7=>?_) (fun h7=>?_)
  ·obtain ⟨a,ha,hain⟩:=lC (l:=S.on) (j:=k) (by omega);obtain ⟨b,hb,hbin⟩:=lC (l:=S.may) (j:=k) (by omega);have halt:=s.onlt a hain;have hblt:=s.maylt b hbin;have hab:=s.sub k a b ha hb;have hball:=s.all b hbin;refine ak (γ:=List Rw × Option Addr × Nat × List (Rw × Bool)) (fun (R,B,d,_)=>[(5,.slice B R.length d)]) (fun (R,B,d,l) w'=>(ri S (k+1) R∧R.length≤(k+1)*6561∧∀ x,(bS l x).getD false=decide (x ∈ R))∧Hp w ab w' [own 50 3 (.slice B R.length d) R.length (flat a6 R),aP wS Value.bool r l,an g1 41 (bo S.n (.slice (some ⟨D,t,none⟩) S.on.length co) (.slice (some ⟨E,C,none⟩) S.may.length cm))] []) ?_ ?_
   ·refine ak (γ:=Nat) (fun g7=>[(7,(ah g7)),(6,.int .i64 (k:Int))]) (fun g7 w'=>Hp w ab w' [an g7 86 (sc a),own 50 3 (.slice B R.length d) R.length (flat a6 R),aP wS Value.bool r l,an g1 41 (bo S.n (.slice (some ⟨D,t,none⟩) S.on.length co) (.slice (some ⟨E,C,none⟩) S.may.length cm))] []) ?_ ?_
    ·refine ao underlying39 av k rfl (by omega) (o':=t+k*4) (by omega) ?_;refine Sl.cA H hA.on bP aD av k rfl ha ?_;refine H.alloc 86 (cs:=sc 0) br aY ?_;clear H;intro g7 w7 H;refine H.aW (b:=a) 0 rfl ?_;clear H;intro w8 H;exact ⟨g7,⟨rfl,rfl,trivial⟩,H⟩
    clear H;rintro g7 u w7 H;refine ak (γ:=Option Addr × Nat × List (Nat × Nat)) (fun (A,c,G)=>[(8,.slice A G.length c)]) (fun (A,c,G) w'=>(Au S.n a b G∧G.length≤6561)∧Hp w ab w' [own 48 2 (.slice A G.length c) G.length (flat bZ G),own 50 3 (.slice B R.length d) R.length (flat a6 R),aP wS Value.bool r l,an g1 41 (bo S.n (.slice (some ⟨D,t,none⟩) S.on.length co) (.slice (some ⟨E,C,none⟩) S.may.length cm))] []) ?_ ?_
    ·refine H.draw eO (by kernel_rfl) ?_;clear H;intro w8 H;refine quiet _ (fun w H=>H.ai 0 rfl aD av ae) ?_;refine quiet _ (fun w H=>aa (fS _) ae) ?_;refine quiet _ (fun w H=>H.load 3 rfl dS rfl ae) ?_;refine quiet _ (fun w H=>ao underlying39 av k rfl (by omega) (o':=C+k*4) (by omega) ae) ?_;refine quiet (sv b) (fun w H=>Sl.cA H hA.may bP aD av k rfl hb ae) ?_;refine quiet _ (fun w H=>aa (iS _) ae) ?_;refine quiet _ (fun w H=>H.load 3 rfl aF rfl ae) ?_;refine aj (O3 S.n a b hn8 hab hball halt hblt _) ?_;rintro _ w9 ⟨A,c,G,rfl,hG,hGl,hn'⟩;replace H:=H.bq hn';refine ⟨.inl H.forget,?_⟩;exact ⟨(A,c,G),⟨rfl,trivial⟩,⟨hG,hGl⟩,H.b7 [0,2,3,4] (by decide) rfl⟩
    clear H;rintro ⟨A,c,G⟩ u w8 ⟨⟨hG,hGl⟩,H⟩;refine ay underlying146 ?_;have hlts:∀ x ∈ G,j2 S (x.1,x.2,2^k):=fun x J=>Kf s hb (hG.lt x J).1 (hG.lt x J).2.1 (hG.lt x J).2.2;refine ax (γ:=Nat × List Rw × Option Addr × Nat × List (Rw × Bool)) (fun (i,R,B,d,_)=>[(40,.int .i64 (i:Int)),(5,.slice B R.length d)]) (fun (i,e,B,d,l) w'=>(i≤G.length∧(∀ x ∈ e,j2 S x)∧(∀ x ∈ R,x ∈ e)∧(∀ x ∈ G.take i,nQ S x.1 x.2 (2^k) ∈ e)∧e.length≤R.length+i∧∀ x,(bS l x).getD false=decide (x ∈ e))∧Hp w ab w' [own 48 2 (.slice A G.length c) G.length (flat bZ G),own 50 3 (.slice B e.length d) e.length (flat a6 e),aP wS Value.bool r l,an g1 41 (bo S.n (.slice (some ⟨D,t,none⟩) S.on.length co) (.slice (some ⟨E,C,none⟩) S.may.length cm))] []) (fun (i,_)=>G.length - i) (0,R,B,d,l) ⟨rfl,rfl,trivial⟩ ⟨⟨Nat.zero_le _,hP.uI,fun x h=>h,fun x h=>by simp at h,Nat.le_refl _,f⟩,H⟩ ?_;clear H f;rintro ⟨i,e,B,d,l⟩ u w9 ⟨⟨hi,F,g,q,hlen,f⟩,H⟩;refine au (fun h7=>?_) (fun h7=>?_)
    ·obtain ⟨x,J,hxin⟩:=rh (l:=G) (j:=i) (by omega);have htk:=iU J;have K:=hlts x hxin;have V:=K.ok s;have hok:=qq s K;obtain ⟨m,v⟩:=x;have hm:=V.m;have hv:=V.v;simp only at hm hv;refine ak (γ:=List Rw × Option Addr × Nat × List (Rw × Bool)) (fun (R,B,d,_)=>[(5,.slice B R.length d)]) (fun (e,B,d,l) w'=>((∀ x ∈ e,j2 S x)∧(∀ x ∈ R,x ∈ e)∧(∀ x ∈ G.take (i+1),nQ S x.1 x.2 (2^k) ∈ e)∧e.length≤R.length+(i+1)∧∀ x,(bS l x).getD false=decide (x ∈ e))∧Hp w ab w' [own 48 2 (.slice A G.length c) G.length (flat bZ G),own 50 3 (.slice B e.length d) e.length (flat a6 e),aP wS Value.bool r l,an g1 41 (bo S.n (.slice (some ⟨D,t,none⟩) S.on.length co) (.slice (some ⟨E,C,none⟩) S.may.length cm))] []) ?_ ?_
     ·rw[htk];have M:∀ R2:List Rw,(∀ y ∈ e,y ∈ R2)→nQ S m v (2^k) ∈ R2→∀ y ∈ G.take i++[(m,v)],nQ S y.1 y.2 (2^k) ∈ R2:=fun R2 h1 h2 y hy=>by
       rcases List.mem_append.1 hy with hy | hy
       ·exact h1 _ (q y hy)
       ·rw[List.mem_singleton] at hy;subst hy;exact h2
      obtain ⟨gA,rfl⟩:=H.lY 0 rfl (by omega);refine ak (γ:=Nat) (fun g11=>[(11,(ah g11))]) (fun g11 w'=>Hp w ab w' [an g11 48 (cc m v),own 48 2 (.slice (some ⟨gA,0,none⟩) G.length c) G.length (flat bZ G),own 50 3 (.slice B e.length d) e.length (flat a6 e),aP wS Value.bool r l,an g1 41 (bo S.n (.slice (some ⟨D,t,none⟩) S.on.length co) (.slice (some ⟨E,C,none⟩) S.may.length cm))] []) ?_ ?_
      ·refine ao underlying146 aO i rfl (by omega) (o':=i*2) (by omega) ?_;refine H.gu 0 rfl fq bz aO i rfl J ?_;refine H.alloc 48 (cs:=cc 0 0) fj rfl ?_;clear H;intro g11 w10 H;refine H.bR (c:=m) (d:=v) 0 rfl ?_;clear H;intro w11 H;exact ⟨g11,⟨rfl,trivial⟩,H⟩
      clear H;rintro g11 u w10 H;have X:=fun u (h:fY u S (some ⟨D,t,none⟩) co (some ⟨E,C,none⟩) cm)=>c91 s m v (2^k) hm hv V.o ((tN s K.lt K.sub V.o).2 K) _ co _ cm u h;have hfold:oU (ba S m v (2^k) S.n).1 (ba S m v (2^k) S.n).2 (iR S (ba S m v (2^k) S.n).1 (ba S m v (2^k) S.n).2)=wS (nQ S m v (2^k)):=rfl;simp only[hfold] at X;generalize nQ S m v (2^k)=y at hok X M;refine ak (γ:=Nat) (fun g12=>[(12,(ah g12))]) (fun g12 w'=>Hp w ab w' [an g12 50 (eo y.1 y.2.1 y.2.2),own 48 2 (.slice (some ⟨gA,0,none⟩) G.length c) G.length (flat bZ G),own 50 3 (.slice B e.length d) e.length (flat a6 e),aP wS Value.bool r l,an g1 41 (bo S.n (.slice (some ⟨D,t,none⟩) S.on.length co) (.slice (some ⟨E,C,none⟩) S.may.length cm))] []) ?_ ?_
      ·refine ix (fun u=>Hp w ab u [an g11 48 (cc m v),own 48 2 (.slice (some ⟨gA,0,none⟩) G.length c) G.length (flat bZ G),own 50 3 (.slice B e.length d) e.length (flat a6 e),aP wS Value.bool r l,an g1 41 (bo S.n (.slice (some ⟨D,t,none⟩) S.on.length co) (.slice (some ⟨E,C,none⟩) S.may.length cm))] []) [([5,9,10],[0,1,2,3,4,5,6,7,9,10,8,11]),([9,5,10],[0,1,2,3,4,9,5,6,7,10,8,11])] eO (by kernel_rfl) (H.same (aS.drew _)) ?_;replace H:=H.same (aS.drew _);generalize w10.drew=w11 at H;intro z O;simp only[List.mem_cons,List.not_mem_nil,or_false] at O;rcases O with rfl | rfl
       ·refine quiet _ (fun w H=>H.ai 4 rfl dw bL ae) ?_;refine quiet _ (fun w H=>H.ai 0 rfl bz aO ae) ?_;refine quiet _ (fun w H=>cf (by omega) ae) ?_;refine quiet _ (fun w H=>qm ae) ?_;refine aj (X _ (hA.same H.keeps)) ?_;rintro _ w12 ⟨rfl,Q⟩;replace H:=H.same Q;clear Q;refine ⟨.inl H,?_⟩;refine H.alloc 50 (cs:=eo 0 0 0) jz rfl ?_;clear H;intro g12 w13 H;refine ⟨.inl H.forget,?_⟩;refine H.storeAll (cs':=eo y.1 y.2.1 y.2.2) 0 rfl aZ rfl (dT _ _ _) ?_;clear H;intro w14 H;refine ⟨.inl H.forget,?_⟩;exact ⟨g12,⟨rfl,trivial⟩,H.b7 [0,2,3,4,5] (by decide) rfl⟩
       ·refine quiet _ (fun w H=>H.ai 4 rfl dw bL ae) ?_;refine quiet _ (fun w H=>H.ai 0 rfl bz aO ae) ?_;refine quiet _ (fun w H=>cf (by omega) ae) ?_;refine quiet _ (fun w H=>qm ae) ?_;refine H.alloc 50 (cs:=eo 0 0 0) jz rfl ?_;clear H;intro g12 w13 H;refine ⟨.inl H.forget,?_⟩;refine aj (X _ (hA.same H.keeps)) ?_;rintro _ w12 ⟨rfl,Q⟩;replace H:=H.same Q;clear Q;refine ⟨.inl H.forget,?_⟩;refine H.storeAll (cs':=eo y.1 y.2.1 y.2.2) 0 rfl aZ rfl (dT _ _ _) ?_;clear H;intro w14 H;refine ⟨.inl H.forget,?_⟩;exact ⟨g12,⟨rfl,trivial⟩,H.b7 [0,2,3,4,5] (by decide) rfl⟩
      clear H;rintro g12 u w11 H;have Y:=f y;refine H.ai 0 rfl gV aZ ?_;by_cases T:y ∈ e
      ·rw[decide_eq_true T] at Y;refine en (H.get 3 rfl) Kd y (v:=.bool true) (by revert Y;cases bS l y <;> simp) ?_;refine af rfl ?_;exact ⟨(e,B,d,l),⟨rfl,trivial⟩,⟨F,g,M e (fun y h=>h) T,by show e.length≤R.length+(i+1);omega,f⟩,H.forget⟩
      ·rw[decide_eq_false T] at Y;refine en (H.get 3 rfl) Kd y (v:=.bool false) (by revert Y;cases bS l y <;> simp) ?_;refine ag rfl ?_;refine H.ai 0 rfl gV aZ ?_;refine H.iI 3 rfl Kd y true ?_;clear H;intro w12 H;refine H.ai 0 rfl gV aZ ?_;refine H.bf vz (cs:=eo y.1 y.2.1 y.2.2) (by decide) (by decide) (by kernel_rfl) ?_;clear H;intro g20 w13 H;refine H.aG 3 0 vz rfl rfl rfl (dT _ _ _) (by omega) (by omega) ?_;clear H;intro B2 d2 w14 H;have e1:(e++[y]).length=e.length+1:=by rw[List.length_append];rfl
       have e2:flat a6 (e++[y])=flat a6 e++a6 y:=de ..;refine ⟨(e++[y],B2,d2,dZ l y true),⟨by rw[e1];rfl,trivial⟩,⟨fun z O=>?_,fun z O=>List.mem_append_left _ (g z O),M _ (fun y h=>List.mem_append_left _ h) (List.mem_append_right _ (List.mem_singleton.2 rfl)),by show (e++[y]).length≤R.length+(i+1);omega,fun z=>?_⟩,by rw[e1,e2];exact H.forget.forget⟩
       ·rcases List.mem_append.1 O with O | O
        ·exact F z O
        ·rw[List.mem_singleton] at O;subst O;exact hok.1
       ·rw[fg];by_cases Z:z=y
        ·rw[if_pos Z,Z];simp
        ·rw[if_neg Z,f z];simp[Z]
     ·clear H F g q hlen f;rintro ⟨e,B,d,l⟩ u w10 ⟨⟨F,g,q,hlen,f⟩,H⟩;exact ⟨(i+1,e,B,d,l),by show G.length - (i+1)<G.length - i;omega,⟨up (by omega),rfl,trivial⟩,⟨by show i+1≤G.length;omega,F,g,q,hlen,f⟩,H⟩
    ·have:i=G.length:=by omega
     subst this;rw[List.take_length] at q;refine ⟨(e,B,d,l),⟨rfl,trivial⟩,⟨⟨F,fun j a' hj U p hp=>?_⟩,by show e.length≤(k+1)*6561;omega,f⟩,H.forget⟩;rw[fG];rcases Nat.lt_or_ge j k with hjk | hjk
     ·obtain ⟨x,J,h1,h2⟩:=fG.1 (hP.out j a' hjk U p hp);exact ⟨x,g x J,h1,h2⟩
     ·obtain rfl:j=k:=by omega
      rw[ha] at U;injection U with U;subst U;obtain ⟨x,J,hxp⟩:=dU.1 (hG.out p hp);have h:=qq s (hlts x J);exact ⟨_,q x J,h.2.2 j (by rw[Nat.testBit_two_pow];simp),h.2.1 p hxp⟩
   ·clear H hP I f;rintro ⟨R,B,d,l⟩ u w7 ⟨⟨hP,I,f⟩,H⟩;exact ⟨(k+1,R,B,d,l),by show S.on.length - (k+1)<S.on.length - k;omega,⟨up (by omega),rfl,trivial⟩,⟨by show k+1≤S.on.length;omega,hP,I,f⟩,H⟩
  ·have:k=S.on.length:=by omega
   subst this;exact ⟨(R,B,d),⟨rfl,trivial⟩,⟨hP,by omega⟩,H.only⟩
 clear H;rintro ⟨R,B,d⟩ u w6 ⟨⟨hP,I⟩,H⟩;exact ⟨B,d,R,rfl,hP,I,H.out⟩
end Go.Proofs.YtpjihhgjbbihkaaGreatDoor
namespace Go.Dk
theorem mm {o out:Nat}(c:o<256)(a:out<8)(j:Nat):(iu o out).testBit j=(o.testBit j&& !decide (j=out)):=by
 rcases Nat.lt_or_ge j 8 with b | b
 ·have:=BT (m:=o) a j b;unfold gT at this;unfold iu;rw[this];by_cases h:out=j
  ·subst h;simp
  ·simp[h,Ne.symm h]
 ·unfold iu;rw[Nat.testBit_and,eg c b];simp
structure Kg (x' x:Rw):Prop where
 m:x'.1=x.1
 v:x'.2.1=x.2.1
 o:∀ j,x'.2.2.testBit j=true→x.2.2.testBit j=true
theorem E_ {l:List Rw}{i out:Nat}(t:∀ x ∈ l,x.2.2<256)(d:out<8)(hi:i<l.length){n o p:Nat} :
  (fU n o (bh l i out)).testBit p=true↔∃ j x,l[j]?=some x∧x.2.2.testBit o=true∧(bd x.1 x.2.1 n).testBit p=true∧¬ (j=i∧o=out):=by
 rw[fG];obtain ⟨⟨m,v,r⟩,q⟩:∃ x,l[i]=x:=⟨_,rfl⟩;have k:l[i]?=some (m,v,r):=by rw[List.getElem?_eq_getElem hi,q]
 have f:=t _ (List.mem_of_getElem? k);unfold bh;rw[k];simp only;split
 ·rename_i u;constructor
  ·rintro ⟨x,c,b,e⟩;rcases List.mem_append.1 c with c | c
   ·obtain ⟨j,a⟩:=List.getElem?_of_mem c;rw[List.getElem?_take] at a;split at a
    ·rename_i w;exact ⟨j,x,a,b,e,by omega⟩
    ·cases a
   ·obtain ⟨j,a⟩:=List.getElem?_of_mem c;rw[List.getElem?_drop] at a;exact ⟨_,x,a,b,e,by omega⟩
  ·rintro ⟨j,x,a,b,e,s⟩;refine ⟨x,List.mem_append.2 ?_,b,e⟩;rcases Nat.lt_trichotomy j i with h | h | h
   ·exact .inl (List.mem_of_getElem? (i:=j) (by rw[List.getElem?_take,if_pos h];exact a))
   ·subst h;rw[k] at a;injection a with a;subst a;have:=mm f d o;rw[u] at this;simp only at b;rw[b] at this;simp at this;exact absurd ⟨rfl,this⟩ s
   ·refine .inr (List.mem_of_getElem? (i:=j - (i+1)) ?_);rw[List.getElem?_drop,show i+1+(j - (i+1))=j by omega];exact a
 ·constructor
  ·rintro ⟨x,c,b,e⟩;obtain ⟨j,a⟩:=List.getElem?_of_mem c;rw[List.getElem?_set] at a;split at a
   ·rename_i g;subst g;injection a with a;subst a;simp only at b e;rw[mm f d,Bool.and_eq_true] at b;exact ⟨i,_,k,b.1,e,by have:=b.2;simp at this;omega⟩
   ·exact ⟨j,x,a,b,e,by omega⟩
  ·rintro ⟨j,x,a,b,e,s⟩;by_cases g:j=i
   ·subst g;rw[k] at a;injection a with a;subst a;refine ⟨(m,v,iu r out),List.mem_of_getElem? (i:=j) (by rw[List.getElem?_set,if_pos rfl,if_pos hi]),?_,e⟩;simp only at b ⊢;rw[mm f d,b];simp;omega
   ·exact ⟨x,List.mem_of_getElem? (i:=j) (by rw[List.getElem?_set,if_neg (by omega)];exact a),b,e⟩
theorem gH {S:dX}(g:cL S){l:List Rw}:bA S l=true↔∀ (j a b:Nat),S.on[j]?=some a→S.may[j]?=some b→cq a (fU S.n j l)∧cq (fU S.n j l) b:=by
 unfold bA;rw[List.all_eq_true];constructor
 ·intro h j a b c f;have d:=(List.getElem?_eq_some_iff.1 c).1;have:=h j (List.mem_range.2 d);rw[List.getD_eq_getElem?_getD,c,List.getD_eq_getElem?_getD,f,Bool.and_eq_true] at this;have i:=g.onlt a (List.mem_of_getElem? c);exact ⟨(hK i).1 this.1,(hK (wN _ _ _)).1 this.2⟩
 ·intro h j d;have d:=List.mem_range.1 d;obtain ⟨a,c,e⟩:=Go.Proofs.YtpjihhgjbbihkaaGreatDoor.lC (l:=S.on) d;obtain ⟨b,f,_⟩:=Go.Proofs.YtpjihhgjbbihkaaGreatDoor.lC (l:=S.may) (j:=j) (by rw[g.len];exact d);have:=h j a b c f;rw[List.getD_eq_getElem?_getD,c,List.getD_eq_getElem?_getD,f,Bool.and_eq_true];exact ⟨(hK (g.onlt a e)).2 this.1,(hK (wN _ _ _)).2 this.2⟩
theorem yP {S:dX}(f:cL S){l c:List Rw}(h:∀ j p,(fU S.n j c).testBit p=true→(fU S.n j l).testBit p=true)(hm:∀ (j b:Nat),S.may[j]?=some b→cq (fU S.n j l) b)(d:bA S c=true):bA S l=true:=by
 rw[gH f] at d ⊢;intro j a b g e;exact ⟨fun p i=>h j p ((d j a b g e).1 p i),hm j b e⟩
def Dd (j:Nat)(b l:List Rw):Prop:=∀ a x',b[a]?=some x'→∃ i x,l[i]?=some x∧Kg x' x∧(i=j→a=j)
theorem Hm {l b:List Rw}{j out:Nat}(h:Dd j b l)(g:∀ x ∈ l,x.2.2<256)(c:∀ x ∈ b,x.2.2<256)(a:out<8)(k:j<l.length)(d:j<b.length){n o p:Nat}(e:(fU n o (bh b j out)).testBit p=true):(fU n o (bh l j out)).testBit p=true:=by
 rw[E_ c a d] at e;rw[E_ g a k];obtain ⟨q,x',r,s,t,u⟩:=e;obtain ⟨i,x,g1,g2,g3⟩:=h q x' r;refine ⟨i,x,g1,g2.o o s,by rw[← g2.m,← g2.v];exact t,fun f=>u ⟨g3 f.1,f.2⟩⟩
theorem Kg.refl (x:Rw):Kg x x:=⟨rfl,rfl,fun _ h=>h⟩
theorem Hn {l:List Rw}{i out j:Nat}(g:∀ x ∈ l,x.2.2<256)(b:out<8)(hi:i<l.length)(n:j<i):Dd j (bh l i out) l:=by
 intro f x' a;obtain ⟨⟨m,v,k⟩,c⟩:∃ x,l[i]=x:=⟨_,rfl⟩;have d:l[i]?=some (m,v,k):=by rw[List.getElem?_eq_getElem hi,c]
 have e:=g _ (List.mem_of_getElem? d);unfold bh at a;rw[d] at a;simp only at a;split at a
 ·rw[List.getElem?_append,List.length_take,Nat.min_eq_left (by omega)] at a;split at a
  ·rename_i h;rw[List.getElem?_take,if_pos h] at a;exact ⟨f,x',a,Kg.refl _,id⟩
  ·rw[List.getElem?_drop] at a;exact ⟨_,x',a,Kg.refl _,fun h=>by omega⟩
 ·rw[List.getElem?_set] at a;split at a
  ·rename_i h;injection a with a;subst a h;exact ⟨i,_,d,⟨rfl,rfl,fun j h=>by rw[mm e b,Bool.and_eq_true] at h;exact h.1⟩,id⟩
  ·exact ⟨f,x',a,Kg.refl _,id⟩
theorem Fa {l:List Rw}{i out j:Nat}(f:∀ x ∈ l,x.2.2<256)(b:out<8)(hi:i<l.length)(h:(bh l i out).length=l.length):Dd j (bh l i out) l:=by
 intro g x' a;obtain ⟨⟨m,v,k⟩,c⟩:∃ x,l[i]=x:=⟨_,rfl⟩;have d:l[i]?=some (m,v,k):=by rw[List.getElem?_eq_getElem hi,c]
 have e:=f _ (List.mem_of_getElem? d);unfold bh at a h;rw[d] at a h;simp only at a h;split at a
 ·rename_i n;rw[if_pos n] at h;simp at h;omega
 ·rw[List.getElem?_set] at a;split at a
  ·rename_i h;injection a with a;subst a h;exact ⟨i,_,d,⟨rfl,rfl,fun j h=>by rw[mm e b,Bool.and_eq_true] at h;exact h.1⟩,id⟩
  ·exact ⟨g,x',a,Kg.refl _,id⟩
theorem Kh {l:List Rw}{i out:Nat}(hi:i<l.length):(bh l i out).length=l.length∨(bh l i out).length+1=l.length:=by
 unfold bh;rw[List.getElem?_eq_getElem hi];simp only;split
 ·exact .inr (by simp;omega)
 ·exact .inl List.length_set
theorem Ki {l:List Rw}{i out:Nat}(hi:i<l.length){x:Rw}(a:x ∈ bh l i out):x ∈ l∨∃ y ∈ l,iu y.2.2 out≠0∧x=(y.1,y.2.1,iu y.2.2 out):=by
 unfold bh at a;rw[List.getElem?_eq_getElem hi] at a;simp only at a;split at a
 ·rcases List.mem_append.1 a with h | h
  ·exact .inl (List.mem_of_mem_take h)
  ·exact .inl (List.mem_of_mem_drop h)
 ·rename_i b;rcases List.mem_or_eq_of_mem_set a with h | h
  ·exact .inl h
  ·exact .inr ⟨_,List.getElem_mem hi,b,h⟩
theorem Mr {n k:Nat}{l:List Rw}(a:∀ x ∈ l,gE n k x){i out:Nat}(hi:i<l.length):∀ x ∈ bh l i out,gE n k x:=by
 intro x b;rcases Ki hi b with h | ⟨y,c,d,rfl⟩
 ·exact a x h
 ·have h:=a y c;have hle:iu y.2.2 out≤y.2.2:=Nat.and_le_left;have:=h.o;have:=h.few;exact ⟨h.m,h.v,by show iu y.2.2 out<256;omega,h.right,Nat.pos_of_ne_zero d,by show iu y.2.2 out<2^k;omega⟩
theorem Kj {S:dX}{l:List Rw}(b:∀ x ∈ l,x.2.2<256){i out:Nat}(a:out<8)(hi:i<l.length)(j p:Nat)(h:(fU S.n j (bh l i out)).testBit p=true):(fU S.n j l).testBit p=true:=by
 rw[E_ b a hi] at h;obtain ⟨f,x,c,d,e,_⟩:=h;exact fG.2 ⟨x,List.mem_of_getElem? c,d,e⟩
def nR (S:dX)(l:List Rw)(i:Nat):Prop:=∀ (j:Nat) (x:Rw) (out:Nat),j<i→l[j]?=some x→x.2.2.testBit out=true→bA S (bh l j out)=false
theorem yQ {S:dX}(d:cL S){l c:List Rw}{j out:Nat}(n:Dd j c l)(i:∀ x ∈ l,x.2.2<256)(e:∀ x ∈ c,x.2.2<256)(q:bA S l=true)(a:out<8)(k:j<l.length)(f:j<c.length)(h:bA S (bh l j out)=false):bA S (bh c j out)=false:=by
 rw[Bool.eq_false_iff] at h ⊢;intro r;refine h (yP d (fun o p=>Hm n i e a k f) (fun o b m p s=>?_) r);have g:o<S.on.length:=by rw[← d.len];exact (List.getElem?_eq_some_iff.1 m).1
 exact ((gH d).1 q o _ b (List.getElem?_eq_getElem g) m).2 p (Kj i a k o p s)
theorem rj (p i:Nat):((((p / 2^i &&&1:Nat):Int)==0):Bool)= !p.testBit i:=by
 have h:=cG p i;rw[Nat.and_one_is_mod] at h ⊢;rcases Nat.mod_two_eq_zero_or_one (p / 2^i) with e | e
 ·rw[e] at h ⊢;rw[← h];rfl
 ·rw[e] at h ⊢;rw[← h];rfl
theorem Fb {l:List Rw}{i out j:Nat}(hi:i<l.length)(a:j<i):(bh l i out)[j]?=l[j]?:=by
 unfold bh;rw[List.getElem?_eq_getElem hi];simp only;split
 ·rw[List.getElem?_append,List.length_take,Nat.min_eq_left (by omega),if_pos a,List.getElem?_take,if_pos a]
 ·rw[List.getElem?_set,if_neg (by omega)]
def wT (S:dX)(a i k:Nat)(R:List Rw):Prop:=
 (R.length=a∧i<a∧∀ (x:Rw) (out:Nat),out<k→R[i]?=some x→x.2.2.testBit out=true→bA S (bh R i out)=false)∨R.length+1=a
end Go.Dk
namespace Go.Proofs.YtpjihhgjbbihkaaGreatDoor
open Go.Proofs.Tryz
open Go.Dk
set_option maxRecDepth 100000
attribute [local irreducible] IntKind.wrap
theorem Ms:enters prog 58=true:=by kernel_rfl
theorem O5 {S:dX}(V:cL S)(l:List Rw)(hl:∀ x ∈ l,gE S.n S.on.length x)(hll:l.length≤1000000)(hc:bA S l=true)(Bo:Option Addr)(co:Nat)(Bm:Option Addr)(cm:Nat)(A:Option Addr)(c:Nat)(w:World)(hA:fY w S Bo co Bm cm)(hR:Sl w (.slice A l.length c) 3 l.length (flat a6 l)) :
  bw prog 58 [r4 S.n (.slice Bo S.on.length co) (.slice Bm S.may.length cm),.slice A l.length c] w fun r w'=>∃ B d R,r=.tuple #[.slice B R.length d,.int .i64 0]∧(R.length≤l.length∧(∀ x ∈ R,gE S.n S.on.length x)∧bA S R=true∧nR S R R.length)∧eE w w' (own 50 3 (.slice B R.length d) R.length (flat a6 R)):=by
 refine ar (N:=61) func58 Ms rfl rfl rfl (by simp) ?_;have H:=Hp.aC w;have hn8:=V.n8;have hml:S.may.length=S.on.length:=V.len;have h4:=V.few;refine ak (γ:=Nat) (fun g2=>[(2,(ah g2))]) (fun g2 w'=>Hp w ab w' [an g2 41 (bo S.n (.slice Bo S.on.length co) (.slice Bm S.may.length cm))] []) ?_ ?_
 ·refine H.box 41 _ (cs:=bo S.n (.slice Bo S.on.length co) (.slice Bm S.may.length cm)) rfl ?_;clear H;intro g2 w1 H;exact ⟨g2,⟨rfl,trivial⟩,H⟩
 clear H;rintro g2 u w1 H;refine aw (fun w'=>Hp w ab w' [an g2 41 (bo S.n (.slice Bo S.on.length co) (.slice Bm S.may.length cm))] []) ?_ ?_
 ·have G:=fun u h1 h2=>OQ V l hl hll Bo co Bm cm A c u h1 h2;rw[hc] at G;refine H.ai 0 rfl dw bL ?_;refine aj (G _ (hA.same H.keeps) (hR.same H.keeps)) ?_;rintro _ w2 ⟨rfl,hk⟩;replace H:=H.same hk;refine af rfl ?_;exact ⟨(),trivial,H⟩
 clear H;rintro ⟨⟩ u w2 H;refine ak (γ:=Option Addr × Nat) (fun (B,d)=>[(6,.slice B l.length d)]) (fun (B,d) w'=>Hp w ab w' [own 50 3 (.slice B l.length d) l.length (flat a6 l),an g2 41 (bo S.n (.slice Bo S.on.length co) (.slice Bm S.may.length cm))] []) ?_ ?_
 ·refine Hp.dr H vz ?_;clear H;intro g20 w3 H;refine Hp.b_ H 0 vz rfl (hR.same H.keeps) (ml l) (by omega) (by omega) ?_;clear H;intro A1 d1 w4 H;exact ⟨(A1,d1),⟨rfl,trivial⟩,H⟩
 clear H;rintro ⟨B,d⟩ u w3 H;refine ak (γ:=List Rw × Option Addr × Nat) (fun (R,B,d)=>[(6,.slice B R.length d)]) (fun (R,B,d) w'=>(R.length≤l.length∧(∀ x ∈ R,gE S.n S.on.length x)∧bA S R=true∧nR S R R.length)∧Hp w ab w' [own 50 3 (.slice B R.length d) R.length (flat a6 R)] []) ?_ ?_
 ·refine ax (γ:=Nat × List Rw × Option Addr × Nat) (fun (i,R,B,d)=>[(7,.int .i64 (i:Int)),(6,.slice B R.length d)]) (fun (i,R,B,d) w'=>(i≤R.length∧R.length≤l.length∧(∀ x ∈ R,gE S.n S.on.length x)∧bA S R=true∧nR S R i)∧Hp w ab w' [own 50 3 (.slice B R.length d) R.length (flat a6 R),an g2 41 (bo S.n (.slice Bo S.on.length co) (.slice Bm S.may.length cm))] []) (fun (i,R,_)=>R.length - i) (0,l,B,d) ⟨rfl,rfl,trivial⟩ ⟨⟨Nat.zero_le _,Nat.le_refl _,hl,hc,fun j x out h=>absurd h (Nat.not_lt_zero _)⟩,H⟩ ?_;clear H;rintro ⟨i,R,B,d⟩ u w6 ⟨⟨hi,hRl,hok,O,E⟩,H⟩;refine ay underlying44 ?_;refine au (fun h7=>?_) (fun h7=>?_)
  ·refine ak (γ:=Unit) (fun _=>[(8,.int .i64 (R.length:Int))]) (fun _ w'=>Hp w ab w' [own 50 3 (.slice B R.length d) R.length (flat a6 R),an g2 41 (bo S.n (.slice Bo S.on.length co) (.slice Bm S.may.length cm))] []) ?_ ?_
   ·refine ay underlying44 ?_;exact ⟨(),⟨rfl,trivial⟩,H⟩
   clear H;rintro ⟨⟩ u w7 H;refine ak (γ:=List Rw × Option Addr × Nat) (fun (R,B,d)=>[(6,.slice B R.length d)]) (fun (a,B,d) w'=>((a.length=R.length∨a.length+1=R.length)∧(∀ x ∈ a,gE S.n S.on.length x)∧bA S a=true∧nR S a i∧wT S R.length i S.on.length a)∧Hp w ab w' [own 50 3 (.slice B a.length d) a.length (flat a6 a),an g2 41 (bo S.n (.slice Bo S.on.length co) (.slice Bm S.may.length cm))] []) ?_ ?_
   ·refine aa (fR _) ?_;refine H.load 1 rfl dS rfl ?_;refine ay underlying39 ?_;refine ax (γ:=Nat × List Rw × Option Addr × Nat) (fun (k,R,B,d)=>[(27,.int .i64 (k:Int)),(6,.slice B R.length d)]) (fun (k,a,B,d) w'=>(k≤S.on.length∧(∀ x ∈ a,gE S.n S.on.length x)∧bA S a=true∧nR S a i∧wT S R.length i k a)∧Hp w ab w' [own 50 3 (.slice B a.length d) a.length (flat a6 a),an g2 41 (bo S.n (.slice Bo S.on.length co) (.slice Bm S.may.length cm))] []) (fun (k,_)=>S.on.length - k) (0,R,B,d) ⟨rfl,rfl,trivial⟩ ⟨⟨Nat.zero_le _,hok,O,E,.inl ⟨rfl,by omega,fun x out h=>absurd h (Nat.not_lt_zero _)⟩⟩,H⟩ ?_;clear H;rintro ⟨k,a,B,d⟩ u w8 ⟨⟨hk,g,p,f,s⟩,H⟩;refine au (fun h8=>?_) (fun h8=>?_)
    ·refine ak (γ:=List Rw × Option Addr × Nat) (fun (R,B,d)=>[(6,.slice B R.length d)]) (fun (a,B,d) w'=>((∀ x ∈ a,gE S.n S.on.length x)∧bA S a=true∧nR S a i∧wT S R.length i (k+1) a)∧Hp w ab w' [own 50 3 (.slice B a.length d) a.length (flat a6 a),an g2 41 (bo S.n (.slice Bo S.on.length co) (.slice Bm S.may.length cm))] []) ?_ ?_
     ·refine ak (γ:=Unit) (fun _=>[(9,.int .i64 (k:Int))]) (fun _ w'=>Hp w ab w' [own 50 3 (.slice B a.length d) a.length (flat a6 a),an g2 41 (bo S.n (.slice Bo S.on.length co) (.slice Bm S.may.length cm))] []) ⟨(),⟨rfl,trivial⟩,H⟩ ?_;clear H;rintro ⟨⟩ u w9 H;rcases s with ⟨I,X,Y⟩ | I
      ·obtain ⟨x,J,hxin⟩:=iT (l:=a) (j:=i) (by omega);have hxo:=g x hxin;have C:¬ (a.length:Int)<(R.length:Int):=by omega
       obtain ⟨gB,rfl⟩:=H.lY 0 rfl (by omega);obtain ⟨m,v,o⟩:=x;have K:=hxo.o;simp only at K;have e2:=rj o k;by_cases hb:o.testBit k=true
       ·refine ay underlying44 ?_
        iterate 3 refine af (decide_eq_false C) ?_
        refine ao underlying44 aZ i rfl (by omega) (o':=0+i*3) rfl ?_;refine af (decide_eq_false C) ?_;refine aa (dt _ _) ?_;refine af (decide_eq_false C) ?_;refine H.kL 0 rfl bl b5 i 2 (by omega) J (u:=.int .u8 (o:Int)) rfl ?_
        iterate 2 refine af (decide_eq_false C) ?_
        refine e7 (by omega) ?_;refine af (decide_eq_false C) ?_;refine dV (b:=1) (Nat.lt_of_le_of_lt (Nat.div_le_self _ _) K) (by omega) ?_
        iterate 1 refine af (decide_eq_false C) ?_
        refine af (decide_eq_false (by assumption)) ?_;refine af (by simp only[*,Bool.not_false,Bool.not_true]) ?_;refine aj (c93 a i k (by omega) (by omega) (fun x h=>(g x h).o) (by omega) _ d _ (bB (H.get 0 rfl))) ?_;rintro _ w10 ⟨D,e,rfl,hn'⟩;replace H:=H.bq hn';have Z:=Kh (l:=a) (i:=i) (out:=k) (by omega);have M:=Mr (n:=S.n) (k:=S.on.length) (l:=a) g (i:=i) (out:=k) (by omega);have z:∀ x ∈ a,x.2.2<256:=fun x h=>(g x h).o;have a0:k<8:=by omega
        have hfl:∀ j,j<i→Dd j (bh a i k) a:=fun j hj=>Hn z a0 (by omega) hj;have hfs:(bh a i k).length=a.length→Dd i (bh a i k) a:=fun h=>Fa z a0 (by omega) h;have hnm:(bh a i k).length=a.length→(bh a i k)[i]?=some (m,v,iu o k):=fun h=>by
         unfold bh at h ⊢;rw[J] at h ⊢;simp only at h ⊢;split at h
         ·simp at h;omega
         ·rename_i h0;rw[if_neg h0,List.getElem?_set,if_pos rfl,if_pos (by omega)]
        generalize hT:bh a i k=T at H Z M hfl hfs hnm;have F:∀ x ∈ T,x.2.2<256:=fun x h=>(M x h).o;have G:=fun u h1 h2=>OQ V T M (by omega) Bo co Bm cm D e u h1 h2;refine H.ai 2 rfl dw bL ?_;refine aj (G _ (hA.same H.keeps) (bB (H.get 0 rfl))) ?_;rintro _ w12 ⟨rfl,Q⟩;replace H:=H.same Q;clear Q
        cases hcT:bA S T with
        | true=>
         refine ag rfl ?_;refine ⟨(T,D,e),⟨rfl,trivial⟩,⟨M,hcT,fun j y out hj t q=>?_,?_⟩,H.b7 [0,2] (by decide) rfl⟩
         ·rw[← hT,Fb (by omega) hj] at t;exact yQ V (hfl j hj) z F p (by have:=(g y (List.mem_of_getElem? t)).few;refine Nat.lt_of_not_le fun hle=>?_;rw[eg (g y (List.mem_of_getElem? t)).o hle] at q;cases q) (by omega) (by rcases Z with h | h <;> omega) (f j y out hj t q)
         ·rcases Z with h | h
          ·refine .inl ⟨by omega,X,fun y out U t q=>?_⟩;rw[hnm h] at t;injection t with t;subst t;simp only at q;rw[mm K a0,Bool.and_eq_true] at q;have hne:out≠k:=by have:=q.2;simp at this;exact this
           exact yQ V (hfs h) z F p (by omega) (by omega) (by omega) (Y _ out (by omega) J q.1)
          ·exact .inr (by omega)
        | false=>
         refine af rfl ?_;refine ⟨(a,some ⟨gB,0,none⟩,d),⟨rfl,trivial⟩,⟨g,p,f,.inl ⟨I,X,fun y out U t q=>?_⟩⟩,H.forget⟩;rcases Nat.lt_or_ge out k with h | h
         ·exact Y y out h t q
         ·obtain rfl:out=k:=by omega
          rw[hT];exact hcT
       ·refine ay underlying44 ?_
        iterate 3 refine af (decide_eq_false C) ?_
        refine ao underlying44 aZ i rfl (by omega) (o':=0+i*3) rfl ?_;refine af (decide_eq_false C) ?_;refine aa (dt _ _) ?_;refine af (decide_eq_false C) ?_;refine H.kL 0 rfl bl b5 i 2 (by omega) J (u:=.int .u8 (o:Int)) rfl ?_
        iterate 2 refine af (decide_eq_false C) ?_
        refine e7 (by omega) ?_;refine af (decide_eq_false C) ?_;refine dV (b:=1) (Nat.lt_of_le_of_lt (Nat.div_le_self _ _) K) (by omega) ?_
        iterate 1 refine af (decide_eq_false C) ?_
        refine af (decide_eq_false (by assumption)) ?_;refine ag (by simp only[*,Bool.not_false,Bool.not_true]) ?_;refine ⟨(a,some ⟨gB,0,none⟩,d),⟨rfl,trivial⟩,⟨g,p,f,.inl ⟨I,X,fun y out U t q=>?_⟩⟩,H⟩;rcases Nat.lt_or_ge out k with h | h
        ·exact Y y out h t q
        ·obtain rfl:out=k:=by omega
         rw[J] at t;injection t with t;subst t;exact absurd q hb
      ·have C:(a.length:Int)<(R.length:Int):=by omega
       refine ay underlying44 ?_
       iterate 10 refine ag (decide_eq_true (by assumption)) ?_
       refine ag rfl ?_;exact ⟨(a,B,d),⟨rfl,trivial⟩,⟨g,p,f,.inr I⟩,H⟩
     ·clear H g p f s;rintro ⟨a,B,d⟩ u w9 ⟨⟨g,p,f,s⟩,H⟩;exact ⟨(k+1,a,B,d),by show S.on.length - (k+1)<S.on.length - k;omega,⟨up (by omega),rfl,trivial⟩,⟨by show k+1≤S.on.length;omega,g,p,f,s⟩,H⟩
    ·have:k=S.on.length:=by omega
     subst this;exact ⟨(a,B,d),⟨rfl,trivial⟩,⟨by rcases s with h | h;exact .inl h.1;exact .inr h,g,p,f,s⟩,H⟩
   clear H;rintro ⟨a,B',d'⟩ u w8 ⟨⟨hlen,g,p,f,s⟩,H⟩;refine ay underlying44 ?_;refine cg (fun h9=>?_) (fun h9=>?_)
   ·rcases s with ⟨h1,h2,h3⟩ | h1
    ·refine ⟨(i+1,a,B',d'),by show a.length - (i+1)<R.length - i;omega,⟨up (by omega),rfl,trivial⟩,⟨by show i+1≤a.length;omega,by show a.length≤l.length;omega,g,p,fun j x out hj J K=>?_⟩,H⟩;rcases Nat.lt_or_ge j i with h | h
     ·exact f j x out h J K
     ·obtain rfl:j=i:=by omega
      refine h3 x out (Nat.lt_of_not_le fun hle=>?_) J K;rw[cC (g x (List.mem_of_getElem? J)).few hle] at K
      cases K
    ·omega
   ·exact ⟨(i,a,B',d'),by show a.length - i<R.length - i;omega,⟨rfl,rfl,trivial⟩,⟨by show i≤a.length;omega,by show a.length≤l.length;omega,g,p,f⟩,H⟩
  ·have:i=R.length:=by omega
   subst this;exact ⟨(R,B,d),⟨rfl,trivial⟩,⟨hRl,hok,O,E⟩,H.only⟩
 clear H;rintro ⟨R,B,d⟩ u w6 ⟨hP,H⟩;exact ⟨B,d,R,rfl,hP,H.out⟩
end Go.Proofs.YtpjihhgjbbihkaaGreatDoor
namespace Go.Dk
set_option maxRecDepth 100000
open Go.MapKept (Stamped)
section
variable {α β:Type} {ka:α→Value} {vb:β→Value} {z:Value} {P:Program} {t kt et:TypeId} {w0 w:World} {F:Nat→Prop} {L M:List cH} {k kk:Value→World→Prop} {l:List (α × β)} {r:Nat}
def BZ (w:World)(r st:Nat)(v:Value):Prop:=∃ (es:Array MapEntry) (clock j:Nat) (e:MapEntry),w.heap[r]?=some (.map es clock)∧es[j]?=some e∧e.born=st∧e.key=v
theorem De [DecidableEq α]{a:α}{b:β}(e:(eM l).Nodup)(h:bS l a=some b):dZ l a b=l:=by
 obtain ⟨j,d⟩:=mJ h;rw[yc e d];exact List.ext_getElem? fun i=>by
  rw[List.getElem?_set];by_cases c:j=i
  ·subst c;rw[if_pos rfl,if_pos (List.getElem?_eq_some_iff.1 d).1,d]
  ·rw[if_neg c]
theorem Hp.mapEntry {d0:β}[DecidableEq α](H:Hp w0 F w L M)(n:Nat)(p:L[n]?=some (aP ka vb r l))(W:ld P t kt et ka vb (vb d0))(a:α)(h:∀ b st w',Hp w0 F w' (L.set n (aP ka vb r (dZ l a b))) M→BZ w' r st (ka a)→k (.tuple #[vb b,.int .i64 (st:Int)]) w'):oe P t (.map (some r)) (ka a) w k:=by
 obtain ⟨es,clock,d,hs,o⟩:=H.get n p;unfold oe;rcases lZ W hs o a w with ⟨q,s,u⟩ | ⟨j,e,b0,q,he,f,z,A,s⟩
 ·have x:=MapKept.stamped_push (val:=vb d0) hs u;have c:=MapKept.heap_set (o':=.map (es.push { key:=ka a,val:=vb d0,born:=clock }) (clock+1)) d;refine ⟨_,_,?_,h d0 clock _ (l5 H n p d x ?_) ⟨_,_,es.size,{ key:=ka a,val:=vb d0,born:=clock },c.1,by simp,rfl,rfl⟩⟩
  ·simp[Instr.mapEntry,run_underlying W.und,MapKept.run_getObj_map d,W.key.check w _ ⟨a,rfl⟩,q,lX W.zero,MapKept.run_setObj_map _ d,Result.andThen,goInt]
  ·simp[dZ,s,o]
 ·have y:=W.key.stays w (v:=ka a) ⟨a,rfl⟩;have g:es.modify j (fun e=>{ e with key:=ka a })=es:=by
   apply Array.ext';apply List.ext_getElem?;intro i;simp only[Array.getElem?_toList,Array.getElem?_modify];by_cases m:j=i
   ·subst m;rw[if_pos rfl,he,← f];rfl
   ·rw[if_neg m]
  have c:=MapKept.heap_set (o':=.map es clock) d;refine ⟨_,_,?_,h b0 e.born _ (l5 H n p d hs ?_) ⟨_,_,j,e,c.1,he,rfl,f⟩⟩
  ·simp[Instr.mapEntry,run_underlying W.und,MapKept.run_getObj_map d,W.key.check w _ ⟨a,rfl⟩,q,he,f,y,g,A,MapKept.run_setObj_map _ d,Result.andThen,goInt]
  ·rw[De (jm W.inj hs o) s];exact o
theorem Hp.entryStore [DecidableEq α](H:Hp w0 F w L M)(n:Nat)(G:L[n]?=some (aP ka vb r l))(W:ld P t kt et ka vb z)(a:α)(b:β){st:Nat}{i:Int}(hi:i=(st:Int))(A:BZ w r st (ka a))(h:∀ w',Hp w0 F w' (L.set n (aP ka vb r (dZ l a b))) M→k undef w'):lf P t (.map (some r)) (.int .i64 i) (vb b) w k:=by
 subst hi;obtain ⟨es,clock,v,hs,B⟩:=H.get n G;obtain ⟨I,y,j,e,d,he,f,c⟩:=A;rw[v] at d;injection d with d;injection d with J K;subst J K;subst f;unfold lf;have o:es.toList[j]?=some e:=by simpa using he
 have q:es.findIdx? (fun x=>((x.born:Nat):Int)==((e.born:Nat):Int))=some j:=by
  rw[WideElems.findIdx_arr];exact WideElems.findIdx_born hs.2.1 o
 obtain ⟨p,N,C⟩:∃ p,l[j]?=some p∧(e.key,e.val)=(ka p.1,vb p.2):=by
  have g:=congrArg (·[j]?) B;simp only[List.getElem?_map,o,Option.map_some] at g
  cases hj:l[j]? with
  | none=>rw[hj] at g;cases g
  | some p=>rw[hj] at g;injection g with g;exact ⟨p,rfl,g⟩
 obtain ⟨D,O⟩:=p;obtain rfl:D=a:=W.inj _ _ (by rw[← c];exact (congrArg Prod.fst C).symm);have s:es.modify j (fun e=>{ e with val:=vb b })=es.modify j (fun e=>{ e with key:=ka D,val:=vb b }):=by
  apply Array.ext';apply List.ext_getElem?;intro i;simp only[Array.getElem?_toList,Array.getElem?_modify];by_cases m:j=i
  ·subst m;rw[he,← c];simp
  ·rw[if_neg m,if_neg m]
 have E:=MapKept.stamped_modify hs j (fun e=>{ e with key:=ka D,val:=vb b }) (fun _ _=>rfl) (fun Q _ u=>by rw[he] at u;cases u;exact c.symm);refine ⟨_,?_,h _ (l5 H n G v E (rL (jm W.inj hs B) B N))⟩;simp[Instr.entryStore,MapKept.run_getObj_map v,asInt,asIntOf,q,s,MapKept.run_setObj_map _ v,Result.andThen]
end
end Go.Dk
namespace Go.Proofs.YtpjihhgjbbihkaaGreatDoor
open Go.Proofs.Tryz
open Go.Dk
set_option maxRecDepth 100000
attribute [local irreducible] IntKind.wrap
theorem Fc {g:Nat}{t:TypeId}{cs:Array Value}{w w':World}(h:(an g t cs).ok w)(a:aT w w'):(an g t cs).ok w':=
 (an g t cs).bQ _ _ (fun x b=>by obtain rfl:x=g:=b;exact a.old x (jj h) id) h
theorem Kk:enters prog 206=true:=by kernel_rfl
theorem c206 (a b m v g:Nat)(w:World)(d:(an g 48 (cc m v)).ok w) :
  bw prog 206 [cv a b,(ah g)] w fun r w'=>(∃ b,r=.bool b)∧aT w w':=by
 refine ar (N:=23) func206 Kk rfl rfl rfl (by simp) ?_;have H:=Hp.aC w;refine ak (γ:=Nat) (fun g2=>[(2,(ah g2)),(1,(ah g))]) (fun g2 w'=>Hp w ab w' [an g2 48 (cc a b)] []) ?_ ?_
 ·refine H.box 48 _ (cs:=cc a b) rfl ?_;clear H;intro g2 e H;exact ⟨g2,⟨rfl,rfl,trivial⟩,H⟩
 clear H;rintro g2 u e H;have c:=Fc d H.keeps;by_cases f:(a:Int)<m
 ·refine aa (cj _) ?_;refine H.load 0 (i:=0) rfl b5 rfl ?_;refine aa (cj _) ?_;refine aB (u:=.int .u8 (m:Int)) b5 ((aQ c 0).trans rfl) ?_
  iterate 8 refine ag (decide_eq_true (by assumption)) ?_
  exact ⟨⟨_,rfl⟩,H.keeps⟩
 ·by_cases h:(a:Int)=m
  ·refine aa (cj _) ?_;refine H.load 0 (i:=0) rfl b5 rfl ?_;refine aa (cj _) ?_;refine aB (u:=.int .u8 (m:Int)) b5 ((aQ c 0).trans rfl) ?_;refine af (decide_eq_false (by assumption)) ?_;refine aa (cj _) ?_;refine af (decide_eq_false (by assumption)) ?_;refine H.load 0 (i:=0) rfl b5 rfl ?_;refine af (decide_eq_false (by assumption)) ?_;refine aa (cj _) ?_;refine af (decide_eq_false (by assumption)) ?_;refine aB (u:=.int .u8 (m:Int)) b5 ((aQ c 0).trans rfl) ?_
   iterate 2 refine af (decide_eq_false (by assumption)) ?_
   refine ag (beq_iff_eq.2 (by assumption)) ?_;refine aa (fO _) ?_;refine ag (beq_iff_eq.2 (by assumption)) ?_;refine H.load 0 (i:=1) rfl b5 rfl ?_;refine ag (beq_iff_eq.2 (by assumption)) ?_;refine aa (fO _) ?_;refine ag (beq_iff_eq.2 (by assumption)) ?_;refine aB (u:=.int .u8 (v:Int)) b5 ((aQ c 1).trans rfl) ?_;refine ag (beq_iff_eq.2 (by assumption)) ?_;refine af (decide_eq_false (by assumption)) ?_;refine ag (beq_iff_eq.2 (by assumption)) ?_;refine af (decide_eq_false (by assumption)) ?_;exact ⟨⟨_,rfl⟩,H.keeps⟩
  ·refine aa (cj _) ?_;refine H.load 0 (i:=0) rfl b5 rfl ?_;refine aa (cj _) ?_;refine aB (u:=.int .u8 (m:Int)) b5 ((aQ c 0).trans rfl) ?_;refine af (decide_eq_false (by assumption)) ?_;refine aa (cj _) ?_;refine af (decide_eq_false (by assumption)) ?_;refine H.load 0 (i:=0) rfl b5 rfl ?_;refine af (decide_eq_false (by assumption)) ?_;refine aa (cj _) ?_;refine af (decide_eq_false (by assumption)) ?_;refine aB (u:=.int .u8 (m:Int)) b5 ((aQ c 0).trans rfl) ?_
   iterate 2 refine af (decide_eq_false (by assumption)) ?_
   iterate 5 refine af (beq_eq_false_iff_ne.2 (by assumption)) ?_
   refine af (decide_eq_false (by assumption)) ?_;refine af (beq_eq_false_iff_ne.2 (by assumption)) ?_;refine af (decide_eq_false (by assumption)) ?_;exact ⟨⟨_,rfl⟩,H.keeps⟩
theorem _root_.Go.Dk.Hp.wU {w0 w:World}{F:Nat→Prop}{L M:List cH}{g l sz:Nat}{e:TypeId}{cs:Array Value}(H:Hp w0 F w (an g e cs::L) M)(hs:cs.size=l*sz)(b:l≤maxLen):Hp w0 F w (own e sz (.slice (some ⟨g,0,none⟩) l l) l cs.toList::L) M:=
 H.re (fun h=>⟨by simpa using hs,.inr ⟨g,l,cs,rfl,Nat.zero_le _,h,Nat.le_refl _,b,hs,by rw[← hs];exact List.take_length⟩⟩) (fun x a=>by
  have a:some g=some x:=a;injection a with a;exact a.symm)
theorem Kl:enters prog 187=true:=by kernel_rfl
theorem Oa (L:List (Nat × Nat))(m v:Nat)(s:L.length≤1000000)(A:Option Addr)(c:Nat)(w:World)(f:Sl w (.slice A L.length c) 2 L.length (flat bZ L)) :
  bw prog 187 [.slice A L.length c,cv m v] w fun r w'=>∃ B d i,i≤L.length∧r=.slice B (L.take i++(m,v)::L.drop i).length d∧eE w w' (own 48 2 (.slice B (L.take i++(m,v)::L.drop i).length d) (L.take i++(m,v)::L.drop i).length (flat bZ (L.take i++(m,v)::L.drop i))):=by
 refine ar (N:=35) func187 Kl rfl rfl rfl (by simp) ?_;have H:=Hp.aC w;refine ak (γ:=Nat) (fun g3=>[(3,(ah g3))]) (fun g3 w'=>Hp w ab w' [an g3 48 (cc m v)] []) ?_ ?_
 ·refine H.box 48 _ (cs:=cc m v) rfl ?_;clear H;intro g3 t H;exact ⟨g3,⟨rfl,trivial⟩,H⟩
 clear H;rintro g3 u t H;refine ak (γ:=Unit) (fun _=>[(5,.func (.func 206) #[] #[(ah g3)])]) (fun _ w'=>Hp w ab w' [an g3 48 (cc m v)] []) ?_ ?_
 ·refine nN ?_;exact ⟨(),⟨rfl,trivial⟩,H⟩
 clear H;rintro ⟨⟩ u Q H;refine ak (γ:=Nat) (fun i=>[(6,.int .i64 (i:Int))]) (fun i w'=>i≤L.length∧Hp w ab w' [an g3 48 (cc m v)] []) ?_ ?_
 ·refine ay underlying146 ?_;exact ⟨L.length,⟨rfl,trivial⟩,Nat.le_refl _,H⟩
 clear H;rintro i0 u S ⟨g,H⟩;refine ak (γ:=Nat) (fun i=>[(6,.int .i64 (i:Int))]) (fun i w'=>i≤L.length∧Hp w ab w' [an g3 48 (cc m v)] []) ?_ ?_
 ·refine ax (γ:=Nat) (fun i=>[(6,.int .i64 (i:Int))]) (fun i w'=>i≤L.length∧Hp w ab w' [an g3 48 (cc m v)] []) (fun i=>i) i0 ⟨rfl,trivial⟩ ⟨g,H⟩ ?_;clear H;rintro i u y ⟨hi,H⟩;by_cases T:(0:Int)<(i:Int)
  ·obtain ⟨U,z,rfl⟩:=f.A (by omega);obtain ⟨x,C,_⟩:=rh (l:=L) (j:=i - 1) (by omega);obtain ⟨a,b⟩:=x;have hw:IntKind.i64.wrap ((i:Int) - 1)=((i - 1:Nat):Int):=by rw[aH (by omega) (by omega)];omega
   iterate 5 refine ag (decide_eq_true (by assumption)) ?_
   refine ao underlying146 aO (i - 1) hw (by omega) (o':=z+(i - 1)*2) (by omega) ?_;refine ag (decide_eq_true (by assumption)) ?_;refine Sl.cA H f fq bz aO (i - 1) rfl C ?_;refine ag (decide_eq_true (by assumption)) ?_;refine ff (cap:=[(ah g3)]) (c206 a b m v g3 _ (H.get 0 rfl)) ?_;rintro _ D ⟨⟨E,rfl⟩,q⟩;replace H:=H.same q;clear q
   cases E with
   | true=>
    iterate 2 refine ag (decide_eq_true (by assumption)) ?_
    refine af rfl ?_;exact ⟨i,⟨rfl,trivial⟩,hi,H⟩
   | false=>
    iterate 2 refine ag (decide_eq_true (by assumption)) ?_
    refine ag rfl ?_;exact ⟨i - 1,by show i - 1<i;omega,⟨by rw[← hw];rfl,trivial⟩,by show i - 1≤L.length;omega,H⟩
  ·iterate 9 refine af (decide_eq_false (by assumption)) ?_
   refine af rfl ?_;exact ⟨i,⟨rfl,trivial⟩,hi,H⟩
 clear H;rintro i u y ⟨hi,H⟩;obtain ⟨F,G,k,n⟩:=l6 f (i:=i) hi;obtain ⟨I,c2,J,o⟩:=l7 underlying146 aO f (i:=i) hi;have p:i≤c:=Nat.le_trans hi (by obtain ⟨_,V,X,e,h,_⟩:=f;injection e with _ _ e;omega);have K:flat bZ (L.take i++(m,v)::L.drop i)=(flat bZ L).take (i*2)++(bZ (m,v)++(flat bZ L).drop (i*2)):=by
  rw[← oH fq,← oI fq];unfold flat;rw[List.flatMap_append,List.flatMap_cons]
 have M:(L.take i++(m,v)::L.drop i).length=i+(1+(L.length - i)):=by simp;omega
 refine H.fp [an g3 48 (cc m v)] (fun u H=>H) eO (by kernel_rfl) ?_;clear H;intro D H;refine quiet (.slice F i i) (fun w H=>by rw[← G];exact s_ underlying146 aO rfl rfl p ae) ?_;refine quiet _ (fun w H=>H.ai 0 rfl bz aO ae) ?_;refine H.bf wP (cs:=cc m v) (by decide) (by decide) (by kernel_rfl) ?_;clear H;intro g20 Y H;refine ⟨.inl H.forget,?_⟩;refine quiet (.slice I (L.length - i) c2) (fun w H=>by rw[← J];exact sk underlying146 aO rfl hi ae) ?_;replace H:=H.wU (l:=1) (sz:=2) rfl (by unfold maxLen;omega);refine H.kO 0 wP rfl (o.same H.keeps) (fun u hu=>vx L u (List.mem_of_mem_drop hu)) (by omega) (by omega) ?_;clear H;intro Z d3 w7 H;refine ⟨.inl H.forget,?_⟩;refine H.qX wP (n.same H.keeps) (bB (H.get 0 rfl)) k (by omega) (by omega) (by omega) ?_;clear H;intro O d4 w8 H;refine ⟨.inl H.forget.forget,?_⟩;refine ⟨some ⟨O,0,none⟩,d4,i,hi,?_⟩;rw[M,K];exact ⟨rfl,H.out⟩
end Go.Proofs.YtpjihhgjbbihkaaGreatDoor
namespace Go.Dk
theorem qs {m i:Nat}(hm:m<256)(hi:i<8)(j:Nat):(gT m i).testBit j=(m.testBit j&& !decide (i=j)):=by
 rcases Nat.lt_or_ge j 8 with a | a
 ·exact BT hi j a
 ·rw[eg hm a,eg (ra hm i) a];rfl
def vA (m:Nat):Nat→Nat
 | 0=>0
 | k+1=>vA m k+(m.testBit k).toNat
theorem toNat_le (b:Bool):b.toNat≤1:=by cases b <;> decide
theorem Av (m:Nat):∀ k,vA m k≤k
 | 0=>Nat.le_refl _
 | k+1=>by
  have a:=Av m k;have b:=toNat_le (m.testBit k);unfold vA;omega
theorem yR {m:Nat}:∀ {k},vA m k=k→∀ j,j<k→m.testBit j=true
 | 0,_,j,a=>absurd a (Nat.not_lt_zero _)
 | k+1,h,j,a=>by
  have c:=Av m k;have d:=toNat_le (m.testBit k);unfold vA at h;rcases Nat.lt_succ_iff_lt_or_eq.1 a with b | b
  ·exact yR (by omega) j b
  ·subst b
   cases hb:m.testBit j with
   | true=>rfl
   | false=>rw[hb] at h;simp at h;omega
theorem wV {m:Nat}:∀ {k},(∀ j,j<k→m.testBit j=true)→vA m k=k
 | 0,_=>rfl
 | k+1,h=>by
  unfold vA;rw[wV (k:=k) fun j a=>h j (by omega),h k (by omega)];rfl
theorem Ho {m k:Nat}(h:vA m k<k):∃ j,j<k∧m.testBit j=false:=by
 refine Classical.byContradiction fun a=>?_;have:=wV (m:=m) (k:=k) fun j b=>by
  cases hb:m.testBit j with
  | true=>rfl
  | false=>exact absurd ⟨j,b,hb⟩ a
 omega
theorem Aw {m m' i:Nat}(h:∀ j,m'.testBit j=(m.testBit j||decide (j=i)))(hi:m.testBit i=false):∀ k,vA m' k=vA m k+(if i<k then 1 else 0)
 | 0=>rfl
 | k+1=>by
  unfold vA;rw[Aw h hi k,h k];by_cases a:k=i
  ·subst a;rw[hi];simp
  ·rw[decide_eq_false a,Bool.or_false];by_cases b:i<k
   ·rw[if_pos b,if_pos (by omega)];omega
   ·rw[if_neg b,if_neg (by omega)];omega
structure Ay (n s:Nat) (x:Nat × Nat):Prop where
 lt:x.1<2^n
 sub:x.2 &&&x.1=x.2
 cI:cq (bd x.1 x.2 n) s
def tO (x:Nat × Nat)(i:Nat):Nat × Nat:=(gT x.1 i,x.2 &&&gT x.1 i)
def Gu (x:Nat × Nat)(i:Nat):Nat × Nat:=(x.1,x.2 ^^^ 2^i)
theorem Fe {m v i:Nat}(hs:v &&&m=v)(hi:m.testBit i=true):(v ^^^ 2^i) &&&m=v ^^^ 2^i:=by
 rw[Nat.and_xor_distrib_right,hs]
 congr 1
 apply Nat.eq_of_testBit_eq;intro j;rw[Nat.testBit_and,Nat.testBit_two_pow];by_cases h:i=j
 ·subst h;simp[hi]
 ·simp[h]
theorem Az {n m v i p:Nat}(d:n≤8)(hm:m<2^n)(hs:v &&&m=v)(hi:i<n)(f:m.testBit i=true) :
  (bd (gT m i) (v &&&gT m i) n).testBit p=true↔(bd m v n).testBit p=true∨(bd m (v ^^^ 2^i) n).testBit p=true:=by
 have g:2^n≤2^8:=Nat.pow_le_pow_right (by decide) d;have hw:=fun j=>qs (m:=m) (i:=i) (by omega) (by omega) j;rw[bD d,bD d,bD d,← and_or_left,ji kg,ji hs,ji (Fe hs f)];refine and_congr_right fun _=>?_;have e:∀ j,(v ^^^ 2^i).testBit j=(v.testBit j ^^ decide (i=j)):=fun j=>by rw[Nat.testBit_xor,Nat.testBit_two_pow]
 constructor
 ·intro h;by_cases c:p.testBit i=v.testBit i
  ·refine .inl fun j b=>?_;by_cases a:i=j
   ·subst a;exact c
   ·have:=h j (by rw[hw,b];simp[a]);rw[this,Nat.testBit_and,hw,b];simp[a]
  ·refine .inr fun j b=>?_;rw[e];by_cases a:i=j
   ·subst a;revert c
    cases p.testBit i <;> cases v.testBit i <;> simp
   ·have:=h j (by rw[hw,b];simp[a]);rw[this,Nat.testBit_and,hw,b];simp[a]
 ·intro h j b;rw[hw,Bool.and_eq_true] at b;have a:¬ i=j:=by have:=b.2;simpa using this
  rw[Nat.testBit_and,hw,b.1,decide_eq_false a];rcases h with h | h
  ·rw[h j b.1];simp
  ·rw[h j b.1,e,decide_eq_false a];simp
theorem Ay.wW {n s:Nat}{x:Nat × Nat}{i:Nat}(c:n≤8)(hm:x.1<2^n)(hs:x.2 &&&x.1=x.2)(hi:i<n)(b:x.1.testBit i=true):Ay n s (tO x i)↔Ay n s x∧Ay n s (Gu x i):=by
 constructor
 ·intro h;exact ⟨⟨hm,hs,fun p a=>h.cI p ((Az c hm hs hi b).2 (.inl a))⟩,⟨hm,Fe hs b,fun p a=>h.cI p ((Az c hm hs hi b).2 (.inr a))⟩⟩
 ·rintro ⟨d,e⟩;refine ⟨mS hm i,kg,fun p a=>?_⟩;rcases (Az c hm hs hi b).1 a with h | h
  ·exact d.cI p h
  ·exact e.cI p h
def Lv (n s t:Nat)(x:Nat × Nat):Prop:=Ay n s x∧vA x.1 n+t=n
theorem Mt {n m i:Nat}(b:n≤8)(hm:m<2^n)(hi:i<n)(c:m.testBit i=true):vA m n=vA (gT m i) n+1:=by
 have d:2^n≤2^8:=Nat.pow_le_pow_right (by decide) b;have hw:=fun j=>qs (m:=m) (i:=i) (by omega) (by omega) j;rw[Aw (m:=gT m i) (m':=m) (i:=i) (fun j=>?_) (by rw[hw];simp) n,if_pos hi];rw[hw];by_cases a:i=j
 ·subst a;simp[c]
 ·simp[a,Ne.symm a]
theorem Lv.next {n s t:Nat}(o:n≤8){y:Nat × Nat}:Lv n s (t+1) y↔∃ x i,Lv n s t x∧i<n∧x.1.testBit i=true∧Lv n s t (Gu x i)∧y=tO x i:=by
 have w:2^n≤2^8:=Nat.pow_le_pow_right (by decide) o;constructor
 ·rintro ⟨b,A⟩;obtain ⟨i,hi,c⟩:=Ho (m:=y.1) (k:=n) (by omega);have B:=b.lt;have p:2^i<2^n:=Nat.pow_lt_pow_right (by decide) hi;have q:y.1 |||2^i<2^n:=Nat.or_lt_two_pow b.lt p;have a:∀ j,(y.1 |||2^i).testBit j=(y.1.testBit j||decide (j=i)):=fun j=>by
   rw[Nat.testBit_or,Nat.testBit_two_pow];by_cases h:i=j
   ·simp[h]
   ·simp[h,Ne.symm h]
  have d:(y.1 |||2^i).testBit i=true:=by rw[a];simp
  have e:y.2 &&&(y.1 |||2^i)=y.2:=by
   apply Nat.eq_of_testBit_eq;intro j;rw[Nat.testBit_and,a];have:=congrArg (fun z=>z.testBit j) b.sub;simp only[Nat.testBit_and] at this;revert this
   cases y.2.testBit j <;> cases y.1.testBit j <;> simp
  have f:tO (y.1 |||2^i,y.2) i=y:=by
   have r:gT (y.1 |||2^i) i=y.1:=by
    apply Nat.eq_of_testBit_eq;intro j;rw[qs (by omega) (by omega),a];by_cases h:i=j
    ·subst h;simp[c]
    ·simp[h,Ne.symm h]
   unfold tO;simp only;rw[r,b.sub]
  have u:vA (y.1 |||2^i) n=vA y.1 n+1:=by rw[Aw a c n,if_pos hi]
  have g:=(Ay.wW (s:=s) (x:=(y.1 |||2^i,y.2)) o q e hi d).1 (by rw[f];exact b);exact ⟨(y.1 |||2^i,y.2),i,⟨g.1,by show vA (y.1 |||2^i) n+t=n;omega⟩,hi,d,⟨g.2,by show vA (y.1 |||2^i) n+t=n;omega⟩,f.symm⟩
 ·rintro ⟨x,i,l,hi,c,v,rfl⟩;refine ⟨(Ay.wW o l.1.lt l.1.sub hi c).2 ⟨l.1,v.1⟩,?_⟩;have:=Mt o l.1.lt hi c;have:=l.2;show vA (gT x.1 i) n+(t+1)=n;omega
def nS (n s:Nat)(x:Nat × Nat):Prop:=Ay n s x∧∀ i,i<n→x.1.testBit i=true→¬ Ay n s (tO x i)
def Used (n s t:Nat)(x:Nat × Nat):Prop:=∃ i,i<n∧x.1.testBit i=true∧Lv n s t (Gu x i)
theorem Lv.IN {n s t:Nat}(b:n≤8){x:Nat × Nat}(h:Lv n s t x):nS n s x↔¬ Used n s t x:=by
 constructor
 ·rintro ⟨_,c⟩ ⟨i,hi,a,d⟩;exact c i hi a ((Ay.wW b h.1.lt h.1.sub hi a).2 ⟨h.1,d.1⟩)
 ·intro hu;refine ⟨h.1,fun i hi a e=>hu ⟨i,hi,a,((Ay.wW b h.1.lt h.1.sub hi a).1 e).2,h.2⟩⟩
theorem Lv.zero {n s:Nat}(e:n≤8)(hs:cq s (bp n)){x:Nat × Nat}:Lv n s 0 x↔x.1=2^n - 1∧s.testBit x.2=true:=by
 constructor
 ·rintro ⟨a,b⟩;have i:=yR (m:=x.1) (k:=n) (by omega);refine ⟨?_,a.cI x.2 ((bD e).2 ⟨sub_lt a.lt a.sub,a.sub⟩)⟩;apply Nat.eq_of_testBit_eq;intro j;rw[Nat.testBit_two_pow_sub_one];by_cases c:j<n
  ·rw[i j c];simp[c]
  ·rw[Nat.testBit_lt_two_pow (Nat.lt_of_lt_of_le a.lt (Nat.pow_le_pow_right (by decide) (by omega)))];simp[c]
 ·rintro ⟨d,g⟩;have f:x.2<2^n:=by have:=hs _ g;rw[gG e] at this;simpa using this
  have h:0<2^n:=Nat.pow_pos (by decide);refine ⟨⟨by rw[d];omega,by rw[d,Nat.and_two_pow_sub_one_eq_mod,Nat.mod_eq_of_lt f],fun p b=>?_⟩,?_⟩
  ·rw[bD e,d,Nat.and_two_pow_sub_one_eq_mod] at b;rw[Nat.mod_eq_of_lt b.1] at b;rw[b.2];exact g
  ·rw[d,wV fun j c=>by rw[Nat.testBit_two_pow_sub_one];simp[c],Nat.add_zero]
theorem Lv.le {n s t:Nat}{x:Nat × Nat}(h:Lv n s t x):t≤n:=by have:=h.2;omega
def gn (l:List ((Nat × Nat) × Bool))(Q:Nat × Nat→Prop):Prop:=∀ x,(Q x∧bS l x=some true)∨(¬ Q x∧bS l x=none)
theorem gn.nil:gn [] fun _=>False:=fun _=>.inr ⟨id,rfl⟩
theorem gn.congr {l:List ((Nat × Nat) × Bool)}{Q Q':Nat × Nat→Prop}(h:gn l Q)(e:∀ x,Q x↔Q' x):gn l Q':=fun x=>by rw[← e x];exact h x
theorem gn.yes {l:List ((Nat × Nat) × Bool)}{Q:Nat × Nat→Prop}(h:gn l Q){x:Nat × Nat}(a:Q x):bS l x=some true:=by
 rcases h x with ⟨_,h⟩ | ⟨h,_⟩
 ·exact h
 ·exact absurd a h
theorem gn.no {l:List ((Nat × Nat) × Bool)}{Q:Nat × Nat→Prop}(h:gn l Q){x:Nat × Nat}(a:¬ Q x):bS l x=none:=by
 rcases h x with ⟨h,_⟩ | ⟨_,h⟩
 ·exact absurd h a
 ·exact h
theorem gn.add {l:List ((Nat × Nat) × Bool)}{Q:Nat × Nat→Prop}(h:gn l Q)(a:Nat × Nat):gn (dZ l a true) fun x=>Q x∨x=a:=fun x=>by
 rw[fg];by_cases b:x=a
 ·rw[if_pos b];exact .inl ⟨.inr b,rfl⟩
 ·rw[if_neg b];rcases h x with ⟨c,d⟩ | ⟨c,d⟩
  ·exact .inl ⟨.inl c,d⟩
  ·exact .inr ⟨fun e=>e.elim c b,d⟩
theorem gn.Jw {l:List ((Nat × Nat) × Bool)}{Q:Nat × Nat→Prop}(h:gn l Q)(a:Nat × Nat)(b:Bool):gn (dZ (dZ l a b) a true) fun x=>Q x∨x=a:=fun x=>by
 rw[fg,fg];by_cases c:x=a
 ·rw[if_pos c];exact .inl ⟨.inr c,rfl⟩
 ·rw[if_neg c,if_neg c];rcases h x with ⟨d,e⟩ | ⟨d,e⟩
  ·exact .inl ⟨.inl d,e⟩
  ·exact .inr ⟨fun f=>f.elim d c,e⟩
theorem gn.mem {l:List ((Nat × Nat) × Bool)}{Q:Nat × Nat→Prop}(h:gn l Q)(f:(eM l).Nodup){a:Nat × Nat}{b:Bool}(hm:(a,b) ∈ l):b=true∧Q a:=by
 have d:=jQ f hm;rcases h a with ⟨e,c⟩ | ⟨e,c⟩
 ·rw[d] at c;injection c with c;exact ⟨c,e⟩
 ·rw[d] at c;cases c
theorem gn.all {l:List ((Nat × Nat) × Bool)}{Q:Nat × Nat→Prop}(h:gn l Q){a:Nat × Nat}(b:Q a):(a,true) ∈ l:=by
 obtain ⟨j,c⟩:=mJ (h.yes b);exact List.mem_of_getElem? c
theorem gn.Ff {l:List ((Nat × Nat) × Bool)}{Q:Nat × Nat→Prop}(h:gn l Q)(d:(eM l).Nodup):l=[]↔∀ x,¬ Q x:=by
 constructor
 ·rintro rfl x e;have:=h.all e;simp at this
 ·intro c
  cases l with
  | nil=>rfl
  | cons p l=>exact absurd (h.mem d (a:=p.1) (b:=p.2) (.head _)).2 (c _)
theorem yS {n:Nat}{L:List (Nat × Nat)}(c:L.Nodup)(h:∀ x ∈ L,x.1<2^n∧x.2<2^n):L.length≤2^n*2^n:=by
 have:=kQ (a:=L) (b:=(List.range (2^n)).flatMap fun a=>(List.range (2^n)).map fun b=>(a,b)) c (fun x d=>by
  have:=h x d;exact List.mem_flatMap.2 ⟨x.1,List.mem_range.2 this.1,List.mem_map.2 ⟨x.2,List.mem_range.2 this.2,rfl⟩⟩)
 refine Nat.le_trans this (Nat.le_of_eq ?_);rw[List.length_flatMap];simp[List.map_const']
end Go.Dk
namespace Go.Proofs.YtpjihhgjbbihkaaGreatDoor
open Go.Proofs.Tryz
open Go.Dk
set_option maxRecDepth 100000
attribute [local irreducible] IntKind.wrap
theorem wX {s p:Nat}(hs:s<2^256):p ∈ cI s↔s.testBit p=true:=by
 constructor
 ·intro h;exact (ck.1 h).2
 ·intro h;refine ck.2 ⟨Nat.lt_of_not_le fun hle=>?_,h⟩;rw[kE hs hle] at h
  cases h
theorem yT {m v:Nat}{w:World}{kk:Value→World→Prop}(h:kk (cv m v) w):b8 prog 48 [(0,.int .u8 (m:Int)),(1,.int .u8 (v:Int))] w kk:=
 bt (fun w=>by kernel_rfl) h
def vB (n s t:Nat)(D:List ((Nat × Nat) × Bool))(y:Nat × Nat):Prop:=∃ x i,(x,true) ∈ D∧i<n∧x.1.testBit i=true∧Lv n s t (Gu x i)∧y=tO x i
def vC (n s t:Nat)(D:List ((Nat × Nat) × Bool))(y:Nat × Nat):Prop:=(y,true) ∈ D∧Used n s t y
theorem AA {n s t:Nat}{D:List ((Nat × Nat) × Bool)}{x y:Nat × Nat}:vB n s t (D++[(x,true)]) y↔vB n s t D y∨∃ i,i<n∧x.1.testBit i=true∧Lv n s t (Gu x i)∧y=tO x i:=by
 constructor
 ·rintro ⟨z,i,a,b⟩;rcases List.mem_append.1 a with a | a
  ·exact .inl ⟨z,i,a,b⟩
  ·have:=List.mem_singleton.1 a;injection this with this;subst this;exact .inr ⟨i,b⟩
 ·rintro (⟨z,i,a,b⟩ | ⟨i,b⟩)
  ·exact ⟨z,i,List.mem_append_left _ a,b⟩
  ·exact ⟨x,i,List.mem_append_right _ (List.mem_singleton.2 rfl),b⟩
theorem AB {n s t:Nat}{D:List ((Nat × Nat) × Bool)}{x y:Nat × Nat}:vC n s t (D++[(x,true)]) y↔vC n s t D y∨(y=x∧Used n s t x):=by
 constructor
 ·rintro ⟨a,b⟩;rcases List.mem_append.1 a with a | a
  ·exact .inl ⟨a,b⟩
  ·have:=List.mem_singleton.1 a;injection this with this;subst this;exact .inr ⟨rfl,b⟩
 ·rintro (⟨a,b⟩ | ⟨rfl,b⟩)
  ·exact ⟨List.mem_append_left _ a,b⟩
  ·exact ⟨List.mem_append_right _ (List.mem_singleton.2 rfl),b⟩
theorem Km:enters prog 151=true:=by kernel_rfl
set_option maxHeartbeats 4000000 in
theorem Ob (n s:Nat)(hn:n≤7)(hs:cq s (bp n))(a2:s<2^256)(w:World) :
  bw prog 151 [sv s,.int .i64 (n:Int)] w fun r w'=>∃ A c L,r=.tuple #[.slice A L.length c,.int .i64 0]∧(∀ x,x ∈ L↔nS n s x)∧L.Nodup∧eE w w' (own 48 2 (.slice A L.length c) L.length (flat bZ L)):=by
 refine ar (N:=105) func151 Km rfl rfl rfl (by simp) ?_;have H:=Hp.aC w;have h2n:2^n≤2^7:=Nat.pow_le_pow_right (by decide) hn;have h1n:1≤2^n:=Nat.pow_pos (by decide);refine ak (γ:=Nat) (fun g2=>[(2,(ah g2))]) (fun g2 w'=>Hp w ab w' [an g2 86 (sc s)] []) ?_ ?_
 ·refine H.box 86 (sv s) (cs:=sc s) rfl ?_;clear H;intro g2 w1 H;exact ⟨g2,⟨rfl,trivial⟩,H⟩
 clear H;rintro g2 u w1 H;refine ak (γ:=Nat) (fun g6=>[(6,(ah g6)),(7,.int .i64 0)]) (fun g6 w'=>Hp w ab w' [an g6 86 (sc (bp n)),an g2 86 (sc s)] []) ?_ ?_
 ·refine aj (ow n (by omega) _) ?_;rintro _ w2 ⟨rfl,E⟩;replace H:=H.same E;refine H.alloc 86 (cs:=sc 0) br aY ?_;clear H;intro g6 w3 H;refine H.aW 0 rfl ?_;clear H;intro w4 H;exact ⟨g6,⟨rfl,rfl,trivial⟩,H⟩
 clear H;rintro g6 u w2 H;refine aw (fun w'=>Hp w ab w' [an g6 86 (sc (bp n)),an g2 86 (sc s)] []) ?_ ?_
 ·have hs1:=(hK a2).2 hs;have hc1:=fun u=>c85 s (bp n) a2 u;rw[hs1] at hc1;refine af rfl ?_;refine H.ai 1 rfl aD av ?_;refine af rfl ?_;refine H.ai 0 rfl aD av ?_;refine af rfl ?_;refine aj (hc1 _) ?_;rintro _ w11 ⟨rfl,E⟩;replace H:=H.same E;clear E
  iterate 3 refine af rfl ?_
  exact ⟨(),trivial,H⟩
 clear H;rintro ⟨⟩ u w3 H;refine ak (γ:=Nat) (fun r=>[(8,.map (some r))]) (fun r w'=>Hp w ab w' [aP jF Value.bool r [],an g2 86 (sc s)] []) ?_ ?_
 ·refine H.makeMap jF Value.bool ?_;clear H;intro r w4 H;exact ⟨r,⟨rfl,trivial⟩,H.b7 [0,2] (by decide) rfl⟩
 clear H;rintro r u w4 H;refine ak (γ:=List ((Nat × Nat) × Bool)) (fun _=>[]) (fun l w'=>gn l (Lv n s 0)∧Hp w ab w' [aP jF Value.bool r l] []) ?_ ?_
 ·have hpl:(cI s).length≤256:=eK s 256;refine H.ai 1 rfl aD av ?_;refine aj (Ej s _) ?_;rintro _ w5 ⟨A,c,rfl,a3⟩;replace H:=H.bq a3;refine ay underlying75 ?_;refine ax (γ:=Nat × List ((Nat × Nat) × Bool)) (fun (i,_)=>[(35,.int .i64 (i:Int))]) (fun (i,l) w'=>(i≤(cI s).length∧gn l (fun x=>x.1=2^n - 1∧x.2 ∈ (cI s).take i))∧Hp w ab w' [own 3 1 (.slice A (cI s).length c) (cI s).length (ints (cI s)),aP jF Value.bool r l] []) (fun (i,_)=>(cI s).length - i) (0,[]) ⟨rfl,trivial⟩ ⟨⟨Nat.zero_le _,gn.nil.congr fun x=>by simp⟩,H.b7 [0,1] (by decide) rfl⟩ ?_;clear H;rintro ⟨i,l⟩ u w6 ⟨⟨hi,F⟩,H⟩;refine au (fun h7=>?_) (fun h7=>?_)
  ·refine ak (γ:=List ((Nat × Nat) × Bool)) (fun _=>[]) (fun l w'=>gn l (fun x=>x.1=2^n - 1∧x.2 ∈ (cI s).take (i+1))∧Hp w ab w' [own 3 1 (.slice A (cI s).length c) (cI s).length (ints (cI s)),aP jF Value.bool r l] []) ?_ ?_
   ·obtain ⟨gA,rfl⟩:=H.lY 0 rfl (by omega);have Y:i<(cI s).length:=by omega
    obtain ⟨p,hp⟩:∃ p,(cI s)[i]=p:=⟨_,rfl⟩;have hp256:p<256:=El (hp ▸ List.getElem_mem Y);have htk:(cI s).take (i+1)=(cI s).take i++[p]:=iU (by rw[List.getElem?_eq_getElem Y,hp]);refine ak (γ:=Unit) (fun _=>[(10,.int .i64 (p:Int))]) (fun _ w'=>Hp w ab w' [own 3 1 (.slice (some ⟨gA,0,none⟩) (cI s).length c) (cI s).length (ints (cI s)),aP jF Value.bool r l] []) ?_ ?_
    ·refine ao underlying75 bc i rfl Y (o':=i) (by omega) ?_;refine H.ec 0 rfl aF (eP Y) ?_;rw[hp];exact ⟨(),⟨rfl,trivial⟩,H⟩
    clear H;rintro ⟨⟩ u w7 H;have hw1:IntKind.u8.wrap (((2^n:Nat):Int) - 1)=((2^n - 1:Nat):Int):=by rw[IntKind.wrap_u8];omega
    have hw2:IntKind.u8.wrap (p:Int)=(p:Int):=by rw[IntKind.wrap_u8];omega
    refine cf hn ?_;refine j_ (by kernel_rfl) underlying5 (by omega) (by omega) ?_;rw[hw1];refine yT ?_;refine H.iI 1 rfl sh (2^n - 1,p) true ?_;clear H;intro w8 H;refine ⟨dZ l (2^n - 1,p) true,trivial,(F.add (2^n - 1,p)).congr fun x=>?_,H⟩;rw[htk,List.mem_append,List.mem_singleton];constructor
    ·rintro (h | rfl)
     ·exact ⟨h.1,.inl h.2⟩
     ·exact ⟨rfl,.inr rfl⟩
    ·rintro ⟨j,h | h⟩
     ·exact .inl ⟨j,h⟩
     ·exact .inr (Prod.ext j h)
   ·clear H F;rintro l u w7 ⟨F,H⟩;exact ⟨(i+1,l),by show (cI s).length - (i+1)<(cI s).length - i;omega,⟨up (by omega),trivial⟩,⟨by show i+1≤(cI s).length;omega,F⟩,H⟩
  ·have:i=(cI s).length:=by omega
   subst this;rw[List.take_length] at F;exact ⟨l,trivial,F.congr fun x=>by rw[Lv.zero (by omega) hs,wX a2],H.forget⟩
 clear H;rintro l0 u w5 ⟨hl0,H⟩;refine ak (γ:=Unit) (fun _=>[(11,.slice none 0 0)]) (fun _ w'=>Hp w ab w' [aP jF Value.bool r l0,own 48 2 (.slice none 0 0) 0 []] []) ⟨(),⟨rfl,trivial⟩,(H.bx 48 2).b7 [1,0] (by decide) rfl⟩ ?_;clear H;rintro ⟨⟩ u w6 H;refine ak (γ:=List (Nat × Nat) × Option Addr × Nat) (fun (L,B,d)=>[(11,.slice B L.length d)]) (fun (L,B,d) w'=>((∀ x,x ∈ L↔nS n s x)∧L.Nodup)∧Hp w ab w' [own 48 2 (.slice B L.length d) L.length (flat bZ L)] []) ?_ ?_
 ·refine ax (γ:=Nat × Nat × List ((Nat × Nat) × Bool) × List (Nat × Nat) × Option Addr × Nat) (fun (_,r,_,L,B,d)=>[(8,.map (some r)),(11,.slice B L.length d)]) (fun (t,r,l,L,B,d) w'=>(gn l (Lv n s t)∧(∀ x,x ∈ L↔∃ O,O<t∧Lv n s O x∧nS n s x)∧L.Nodup)∧Hp w ab w' [aP jF Value.bool r l,own 48 2 (.slice B L.length d) L.length (flat bZ L)] []) (fun (t,_)=>n+1 - t) (0,r,l0,[],none,0) ⟨rfl,rfl,trivial⟩ ⟨⟨hl0,fun x=>by simp,List.nodup_nil⟩,H⟩ ?_;clear H hl0;rintro ⟨t,r,l,L,B,d⟩ u w7 ⟨⟨F,hL,Z⟩,H⟩;have I:=pj (H.get 0 rfl) sA;refine H.I7 0 rfl sh ?_;refine au (fun h7=>?_) (fun h7=>?_)
  ·have htn:t≤n:=by
    cases a0:l with
    | nil=>rw[a0] at h7;simp at h7
    | cons p l'=>exact ((F.mem I (a:=p.1) (b:=p.2) (by rw[a0];exact .head _)).2).le
   refine ak (γ:=Nat × Nat) (fun (J,Q)=>[(12,.map (some J)),(13,.map (some Q))]) (fun (J,Q) w'=>Hp w ab w' [aP jF Value.bool r l,aP jF Value.bool J [],aP jF Value.bool Q [],own 48 2 (.slice B L.length d) L.length (flat bZ L)] []) ?_ ?_
   ·refine H.makeMap jF Value.bool ?_;clear H;intro J w8 H;refine H.makeMap jF Value.bool ?_;clear H;intro Q w9 H;exact ⟨(J,Q),⟨rfl,rfl,trivial⟩,H.b7 [2,1,0,3] (by decide) rfl⟩
   clear H;rintro ⟨J,Q⟩ u w8 H;refine ak (γ:=List ((Nat × Nat) × Bool) × List ((Nat × Nat) × Bool)) (fun _=>[]) (fun (o,z) w'=>(gn o (Lv n s (t+1))∧gn z (fun x=>Lv n s t x∧Used n s t x))∧Hp w ab w' [aP jF Value.bool r l,aP jF Value.bool J o,aP jF Value.bool Q z,own 48 2 (.slice B L.length d) L.length (flat bZ L)] []) ?_ ?_
   ·refine H.rangeMap (k0:=48) (e0:=4) underlying189 ?_;clear H;intro it w9 H;refine ax (γ:=List ((Nat × Nat) × Bool) × List ((Nat × Nat) × Bool) × List ((Nat × Nat) × Bool)) (fun _=>[]) (fun (D,o,z) w'=>(D.Nodup∧(∀ p ∈ D,p ∈ l)∧gn o (vB n s t D)∧gn z (vC n s t D))∧Hp w ab w' [pn jF Value.bool r it l D,aP jF Value.bool J o,aP jF Value.bool Q z,own 48 2 (.slice B L.length d) L.length (flat bZ L)] []) (fun (D,_)=>l.length - D.length) ([],[],[]) trivial ⟨⟨List.nodup_nil,by simp,gn.nil.congr fun x=>by simp[vB],gn.nil.congr fun x=>by simp[vC]⟩,H⟩ ?_;clear H;rintro ⟨D,o,z⟩ u w10 ⟨⟨a4,S,C,q⟩,H⟩;refine H.wk 0 rfl sA (fun a b h=>by injection h) (fun V=>?_) (fun x b w11 hm a1 H2=>?_)
    ·refine af rfl ?_;refine ⟨(o,z),trivial,⟨C.congr fun y=>?_,q.congr fun y=>?_⟩,H.Cy⟩
     ·rw[Lv.next (by omega)];constructor
      ·rintro ⟨x,i,j,g⟩;exact ⟨x,i,(F.mem I (S _ j)).2,g⟩
      ·rintro ⟨x,i,j,g⟩;exact ⟨x,i,V _ (F.all j),g⟩
     ·constructor
      ·rintro ⟨j,g⟩;exact ⟨(F.mem I (S _ j)).2,g⟩
      ·rintro ⟨j,g⟩;exact ⟨V _ (F.all j),g⟩
    ·clear H;have H:=H2;clear H2;obtain ⟨rfl,K⟩:=F.mem I hm;refine ag rfl ?_;have f:(D++[(x,true)]).Nodup∧(∀ p ∈ D++[(x,true)],p ∈ l):=by
      refine ⟨?_,fun k E=>?_⟩
      ·rw[List.nodup_append];refine ⟨a4,by simp,fun x K y hy=>?_⟩;obtain rfl:=List.mem_singleton.1 hy;exact fun e=>a1 (e ▸ K)
      ·rcases List.mem_append.1 E with E | E
       ·exact S k E
       ·obtain rfl:=List.mem_singleton.1 E;exact hm
     have hlen:D.length<l.length:=by
      have:=kQ f.1 f.2;simp at this;omega
     obtain ⟨m,v⟩:=x;have hmn:=K.1.lt;have hvn:=sub_lt K.1.lt K.1.sub;simp only at hmn hvn;refine ak (γ:=Nat) (fun g14=>[(14,(ah g14))]) (fun g14 w'=>Hp w ab w' [an g14 48 (cc m v),pn jF Value.bool r it l (D++[((m,v),true)]),aP jF Value.bool J o,aP jF Value.bool Q z,own 48 2 (.slice B L.length d) L.length (flat bZ L)] []) ?_ ?_
     ·refine nC (H.get 0 rfl) ?_;refine H.alloc 48 (cs:=cc 0 0) fj rfl ?_;clear H;intro g14 w12 H;refine H.bR (c:=m) (d:=v) 0 rfl ?_;clear H;intro w13 H;exact ⟨g14,⟨rfl,trivial⟩,H⟩
     clear H;rintro g14 u w12 H;refine ax (γ:=Nat × List ((Nat × Nat) × Bool) × List ((Nat × Nat) × Bool)) (fun (k,_)=>[(59,.int .i64 (k:Int))]) (fun (k,o,z) w'=>(k≤n∧gn o (fun y=>vB n s t D y∨∃ i,i<k∧m.testBit i=true∧Lv n s t (Gu (m,v) i)∧y=tO (m,v) i)∧gn z (fun y=>vC n s t D y∨(y=(m,v)∧∃ i,i<k∧m.testBit i=true∧Lv n s t (Gu (m,v) i))))∧Hp w ab w' [an g14 48 (cc m v),pn jF Value.bool r it l (D++[((m,v),true)]),aP jF Value.bool J o,aP jF Value.bool Q z,own 48 2 (.slice B L.length d) L.length (flat bZ L)] []) (fun (k,_)=>n - k) (0,o,z) ⟨rfl,trivial⟩ ⟨⟨Nat.zero_le _,C.congr fun y=>by simp,q.congr fun y=>by simp⟩,H⟩ ?_;clear H C q;rintro ⟨k,o,z⟩ u w13 ⟨⟨E,C,q⟩,H⟩;refine au (fun h8=>?_) (fun h8=>?_)
     ·refine ak (γ:=List ((Nat × Nat) × Bool) × List ((Nat × Nat) × Bool)) (fun _=>[]) (fun (o,z) w'=>(gn o (fun y=>vB n s t D y∨∃ i,i<k+1∧m.testBit i=true∧Lv n s t (Gu (m,v) i)∧y=tO (m,v) i)∧gn z (fun y=>vC n s t D y∨(y=(m,v)∧∃ i,i<k+1∧m.testBit i=true∧Lv n s t (Gu (m,v) i))))∧Hp w ab w' [an g14 48 (cc m v),pn jF Value.bool r it l (D++[((m,v),true)]),aP jF Value.bool J o,aP jF Value.bool Q z,own 48 2 (.slice B L.length d) L.length (flat bZ L)] []) ?_ ?_
      ·have h2k:2^k<256:=show 2^k<2^8 from Nat.pow_lt_pow_right (by decide) (by omega);refine ak (γ:=Unit) (fun _=>[(15,.int .i64 (k:Int))]) (fun _ w'=>Hp w ab w' [an g14 48 (cc m v),pn jF Value.bool r it l (D++[((m,v),true)]),aP jF Value.bool J o,aP jF Value.bool Q z,own 48 2 (.slice B L.length d) L.length (flat bZ L)] []) ⟨(),⟨rfl,trivial⟩,H⟩ ?_;clear H;rintro ⟨⟩ u w14 H;refine ak (γ:=Nat) (fun g16=>[(16,(ah g16))]) (fun g16 w'=>Hp w ab w' [an g16 48 (cc m (v ^^^ 2^k)),an g14 48 (cc m v),pn jF Value.bool r it l (D++[((m,v),true)]),aP jF Value.bool J o,aP jF Value.bool Q z,own 48 2 (.slice B L.length d) L.length (flat bZ L)] []) ?_ ?_
       ·refine H.draw eO (by kernel_rfl) ?_;clear H;intro w15 H;refine quiet _ (fun w H=>aa (cj _) ae) ?_;refine quiet _ (fun w H=>H.load 0 rfl b5 rfl ae) ?_;refine quiet _ (fun w H=>aa (fO _) ae) ?_;refine quiet _ (fun w H=>H.load 0 rfl b5 rfl ae) ?_;refine quiet _ (fun w H=>cf (by omega) ae) ?_;refine quiet _ (fun w H=>zK (by omega) h2k ae) ?_;refine quiet _ (fun w H=>yT ae) ?_;refine H.alloc 48 (cs:=cc 0 0) fj rfl ?_;clear H;intro g16 w16 H;refine ⟨.inl H.forget,?_⟩;refine H.bR (c:=m) (d:=v ^^^ 2^k) 0 rfl ?_;clear H;intro w17 H;refine ⟨.inl H.forget,?_⟩;exact ⟨g16,⟨rfl,trivial⟩,H⟩
       clear H;rintro g16 u w15 H;have hst:=cG m k;have T:m<256:=by omega
       by_cases hb:m.testBit k=true
       ·rw[hb] at hst;by_cases hf:Lv n s t (Gu (m,v) k)
        ·have hlk:((bS l (m,v ^^^ 2^k)).map Value.bool).getD (.bool false)=.bool true:=by rw[show bS l (m,v ^^^ 2^k)=some true from F.yes hf];rfl
         refine aa (cj _) ?_;refine H.load 1 rfl b5 rfl ?_;refine e7 (by omega) ?_;refine dV (b:=1) (Nat.lt_of_le_of_lt (Nat.div_le_self _ _) T) (by omega) ?_
         iterate 2 refine ag (by assumption) ?_
         refine H.ai 0 rfl bz aO ?_;refine ag (by assumption) ?_;refine en (pY (H.get 2 rfl)) sh (m,v ^^^ 2^k) hlk ?_;refine ag (by assumption) ?_;refine ag rfl ?_;refine H.fp [an g14 48 (cc m v)] (fun u H=>H.b7 [1] (by decide) rfl) eO (by kernel_rfl) ?_;clear H;intro w24 H;refine quiet _ (fun w H=>H.ai 0 rfl bz aO ae) ?_;refine aj (c131 _ _ _ (by first | assumption | omega | decide) (by first | assumption | omega | decide) (by first | assumption | omega | decide) _) ?_;rintro _ w26 ⟨rfl,E⟩;replace H:=H.same E;clear E;refine ⟨.inl (H.b7 [1] (by decide) rfl),?_⟩;refine quiet _ (fun w H=>H.ai 0 rfl bz aO ae) ?_;refine H.mapEntry (d0:=false) 3 rfl sh (gT m k,v &&&gT m k) ?_;clear H;intro b0 st w27 H hstm;refine ⟨.inl (H.b7 [1] (by decide) rfl),?_⟩;refine H.entryStore 3 rfl sh (gT m k,v &&&gT m k) true rfl hstm ?_;clear H;intro w28 H;refine ⟨.inl (H.b7 [1] (by decide) rfl),?_⟩;refine H.iI 4 rfl sh (m,v) true ?_;clear H;intro w29 H;refine ⟨.inl (H.b7 [1] (by decide) rfl),?_⟩;refine ⟨(dZ (dZ o (gT m k,v &&&gT m k) b0) (gT m k,v &&&gT m k) true,dZ z (m,v) true),trivial,⟨(C.Jw (gT m k,v &&&gT m k) b0).congr fun y=>?_,(q.add (m,v)).congr fun y=>?_⟩,H.b7 [1,2,3,4,5] (by decide) rfl⟩
         ·rw[or_assoc];refine or_congr_right ?_;constructor
          ·rintro (⟨i,j,g⟩ | rfl)
           ·exact ⟨i,by omega,g⟩
           ·exact ⟨k,by omega,hb,hf,rfl⟩
          ·rintro ⟨i,j,g,M,h4⟩;rcases Nat.lt_succ_iff_lt_or_eq.1 j with h | h
           ·exact .inl ⟨i,h,g,M,h4⟩
           ·subst h;exact .inr h4
         ·rw[or_assoc];refine or_congr_right ?_;constructor
          ·rintro (⟨h0,i,j,g⟩ | rfl)
           ·exact ⟨h0,i,by omega,g⟩
           ·exact ⟨rfl,k,by omega,hb,hf⟩
          ·rintro ⟨h0,_⟩;exact .inr h0
        ·have hlk:((bS l (m,v ^^^ 2^k)).map Value.bool).getD (.bool false)=.bool false:=by rw[show bS l (m,v ^^^ 2^k)=none from F.no hf];rfl
         refine aa (cj _) ?_;refine H.load 1 rfl b5 rfl ?_;refine e7 (by omega) ?_;refine dV (b:=1) (Nat.lt_of_le_of_lt (Nat.div_le_self _ _) T) (by omega) ?_
         iterate 2 refine ag (by assumption) ?_
         refine H.ai 0 rfl bz aO ?_;refine ag (by assumption) ?_;refine en (pY (H.get 2 rfl)) sh (m,v ^^^ 2^k) hlk ?_;refine ag (by assumption) ?_;refine af rfl ?_;refine ⟨(o,z),trivial,⟨C.congr fun y=>?_,q.congr fun y=>?_⟩,H.forget⟩
         ·refine or_congr_right ⟨fun ⟨i,j,g⟩=>⟨i,by omega,g⟩,fun ⟨i,j,g,M,h4⟩=>?_⟩;rcases Nat.lt_succ_iff_lt_or_eq.1 j with h | h
          ·exact ⟨i,h,g,M,h4⟩
          ·subst h;exact absurd M hf
         ·refine or_congr_right (and_congr_right fun _=>⟨fun ⟨i,j,g⟩=>⟨i,by omega,g⟩,fun ⟨i,j,g,M⟩=>?_⟩);rcases Nat.lt_succ_iff_lt_or_eq.1 j with h | h
          ·exact ⟨i,h,g,M⟩
          ·subst h;exact absurd M hf
       ·rw[show m.testBit k=false by simpa using hb] at hst;refine aa (cj _) ?_;refine H.load 1 rfl b5 rfl ?_;refine e7 (by omega) ?_;refine dV (b:=1) (Nat.lt_of_le_of_lt (Nat.div_le_self _ _) T) (by omega) ?_
        iterate 4 refine af (by assumption) ?_
        refine af rfl ?_;refine ⟨(o,z),trivial,⟨C.congr fun y=>?_,q.congr fun y=>?_⟩,H.forget⟩
        ·refine or_congr_right ⟨fun ⟨i,j,g⟩=>⟨i,by omega,g⟩,fun ⟨i,j,g,M⟩=>?_⟩;rcases Nat.lt_succ_iff_lt_or_eq.1 j with h | h
         ·exact ⟨i,h,g,M⟩
         ·subst h;exact absurd g hb
        ·refine or_congr_right (and_congr_right fun _=>⟨fun ⟨i,j,g⟩=>⟨i,by omega,g⟩,fun ⟨i,j,g,M⟩=>?_⟩);rcases Nat.lt_succ_iff_lt_or_eq.1 j with h | h
         ·exact ⟨i,h,g,M⟩
         ·subst h;exact absurd g hb
      ·clear H C q;rintro ⟨o,z⟩ u w14 ⟨⟨C,q⟩,H⟩;exact ⟨(k+1,o,z),by show n - (k+1)<n - k;omega,⟨up (by omega),trivial⟩,⟨by show k+1≤n;omega,C,q⟩,H⟩
     ·have:k=n:=by omega
      subst this;refine ⟨(D++[((m,v),true)],o,z),by show l.length - (D++[((m,v),true)]).length<l.length - D.length;simp;omega,trivial,⟨f.1,f.2,C.congr fun y=>?_,q.congr fun y=>?_⟩,H.forget⟩
      ·rw[AA]
      ·rw[AB];rfl
   clear H;rintro ⟨o,z⟩ u w9 ⟨⟨C,q⟩,H⟩;have hcub:∀ L':List (Nat × Nat),(∀ x ∈ L',Ay n s x)→L'.Nodup→L'.length≤1000000:=fun L' j g=>by
    have M:=yS (n:=n) g fun x K=>⟨(j x K).lt,sub_lt (j x K).lt (j x K).sub⟩;have h4:=Nat.mul_le_mul h2n h2n;omega
   refine ak (γ:=List (Nat × Nat) × Option Addr × Nat) (fun (L',B,d)=>[(11,.slice B L'.length d)]) (fun (L',B,d) w'=>((∀ x,x ∈ L'↔x ∈ L∨(Lv n s t x∧¬ Used n s t x))∧L'.Nodup)∧Hp w ab w' [aP jF Value.bool J o,own 48 2 (.slice B L'.length d) L'.length (flat bZ L')] []) ?_ ?_
   ·refine H.rangeMap (k0:=48) (e0:=4) underlying189 ?_;clear H;intro it w10 H;refine ax (γ:=List ((Nat × Nat) × Bool) × List (Nat × Nat) × Option Addr × Nat) (fun (_,L',B,d)=>[(11,.slice B L'.length d)]) (fun (D,L',B,d) w'=>(D.Nodup∧(∀ p ∈ D,p ∈ l)∧(∀ x,x ∈ L'↔x ∈ L∨((x,true) ∈ D∧¬ Used n s t x))∧L'.Nodup)∧Hp w ab w' [pn jF Value.bool r it l D,aP jF Value.bool J o,aP jF Value.bool Q z,own 48 2 (.slice B L'.length d) L'.length (flat bZ L')] []) (fun (D,_)=>l.length - D.length) ([],L,B,d) ⟨rfl,trivial⟩ ⟨⟨List.nodup_nil,by simp,fun x=>by simp,Z⟩,H⟩ ?_;clear H;rintro ⟨D,L',B',d'⟩ u w11 ⟨⟨a4,S,U,G⟩,H⟩;refine H.wk 0 rfl sA (fun a b h=>by injection h) (fun V=>?_) (fun x b w12 hm a1 H2=>?_)
    ·refine af rfl ?_;refine ⟨(L',B',d'),⟨rfl,trivial⟩,⟨fun x=>(U x).trans (or_congr_right (and_congr_left fun _=>⟨fun h=>(F.mem I (S _ h)).2,fun h=>V _ (F.all h)⟩)),G⟩,H.b7 [1,3] (by decide) rfl⟩
    ·clear H;have H:=H2;clear H2;obtain ⟨rfl,K⟩:=F.mem I hm;refine ag rfl ?_;have f:(D++[(x,true)]).Nodup∧(∀ p ∈ D++[(x,true)],p ∈ l):=by
      refine ⟨?_,fun k E=>?_⟩
      ·rw[List.nodup_append];refine ⟨a4,by simp,fun x K y hy=>?_⟩;obtain rfl:=List.mem_singleton.1 hy;exact fun e=>a1 (e ▸ K)
      ·rcases List.mem_append.1 E with E | E
       ·exact S k E
       ·obtain rfl:=List.mem_singleton.1 E;exact hm
     have hlen:D.length<l.length:=by
      have:=kQ f.1 f.2;simp at this;omega
     have X:l.length - (D++[(x,true)]).length<l.length - D.length:=by simp;omega
     have hsn:∀ y,(y,true) ∈ D++[(x,true)]↔(y,true) ∈ D∨y=x:=fun y=>by simp
     have a0:L'.length≤1000000:=hcub L' (fun y hy=>by
      rcases (U y).1 hy with h | h
      ·obtain ⟨_,_,h,_⟩:=(hL y).1 h;exact h.1
      ·exact (F.mem I (S _ h.1)).2.1) G
     have hxn:x ∉ L':=fun h=>by
      rcases (U x).1 h with h | h
      ·obtain ⟨O,j,g,_⟩:=(hL x).1 h;have M:=g.2;have h4:=K.2;omega
      ·exact a1 h.1
     refine ak (γ:=Nat) (fun g17=>[(17,(ah g17))]) (fun g17 w'=>Hp w ab w' [an g17 48 (cc x.1 x.2),pn jF Value.bool r it l (D++[(x,true)]),aP jF Value.bool J o,aP jF Value.bool Q z,own 48 2 (.slice B' L'.length d') L'.length (flat bZ L')] []) ?_ ?_
     ·refine nC (H.get 0 rfl) ?_;refine H.alloc 48 (cs:=cc 0 0) fj rfl ?_;clear H;intro g17 w13 H;refine H.bR (c:=x.1) (d:=x.2) 0 rfl ?_;clear H;intro w14 H;exact ⟨g17,⟨rfl,trivial⟩,H⟩
     clear H;rintro g17 u w13 H;refine H.ai 0 rfl bz aO ?_;by_cases hu:Used n s t x
     ·refine en (H.get 3 rfl) sh x (v:=.bool true) (by rw[q.yes ⟨K,hu⟩];rfl) ?_;refine af rfl ?_;refine ⟨(D++[(x,true)],L',B',d'),X,⟨rfl,trivial⟩,⟨f.1,f.2,fun y=>(U y).trans (or_congr_right ?_),G⟩,H.forget⟩;rw[hsn];exact ⟨fun h=>⟨.inl h.1,h.2⟩,fun h=>⟨h.1.elim id fun e=>absurd (e ▸ hu) h.2,h.2⟩⟩
     ·refine en (H.get 3 rfl) sh x (v:=.bool false) (by rw[q.no fun h=>hu h.2];rfl) ?_;refine ag rfl ?_;refine H.ai 0 rfl bz aO ?_;refine aj (Oa L' x.1 x.2 a0 B' d' _ (bB (H.get 4 rfl))) ?_;rintro _ w14 ⟨B2,d2,i,hi,rfl,a3⟩;replace H:=H.bq a3;refine ⟨(D++[(x,true)],L'.take i++x::L'.drop i,B2,d2),X,⟨rfl,trivial⟩,⟨f.1,f.2,fun y=>?_,?_⟩,H.b7 [2,3,4,0] (by decide) rfl⟩
      ·have hmem:y ∈ L'.take i++x::L'.drop i↔y ∈ L'∨y=x:=by
        rw[List.mem_append,List.mem_cons];have:=List.take_append_drop i L';constructor
        ·rintro (h | h | h)
         ·exact .inl (List.mem_of_mem_take h)
         ·exact .inr h
         ·exact .inl (List.mem_of_mem_drop h)
        ·rintro (h | h)
         ·rw[← this,List.mem_append] at h;rcases h with h | h
          ·exact .inl h
          ·exact .inr (.inr h)
         ·exact .inr (.inl h)
       rw[hmem,U,hsn,or_assoc];refine or_congr_right ⟨fun h=>?_,fun h=>?_⟩
       ·rcases h with h | h
        ·exact ⟨.inl h.1,h.2⟩
        ·exact ⟨.inr h,h ▸ hu⟩
       ·rcases h.1 with j | j
        ·exact .inl ⟨j,h.2⟩
        ·exact .inr j
      ·have hp:(L'.take i++x::L'.drop i).Perm (x::L'):=by
        have:=List.perm_middle (a:=x) (l₁:=L'.take i) (l₂:=L'.drop i)
        rwa [List.take_append_drop] at this
       exact hp.nodup_iff.2 (List.nodup_cons.2 ⟨hxn,G⟩)
   clear H;rintro ⟨L',B',d'⟩ u w10 ⟨⟨U,G⟩,H⟩;refine ⟨(t+1,J,o,L',B',d'),by show n+1 - (t+1)<n+1 - t;omega,⟨rfl,rfl,trivial⟩,⟨C,fun x=>(U x).trans ?_,G⟩,H⟩;rw[hL x];constructor
   ·rintro (⟨O,j,g⟩ | ⟨j,g⟩)
    ·exact ⟨O,by omega,g⟩
    ·exact ⟨t,by omega,j,(j.IN (by omega)).2 g⟩
   ·rintro ⟨O,j,g,M⟩;rcases Nat.lt_succ_iff_lt_or_eq.1 j with h | h
    ·exact .inl ⟨O,h,g,M⟩
    ·subst h;exact .inr ⟨g,(g.IN (by omega)).1 M⟩
  ·have hl00:l=[]:=List.eq_nil_of_length_eq_zero (by omega);have hno:=(F.Ff I).1 hl00;have hno':∀ O x,t≤O→¬ Lv n s O x:=fun O=>by
    induction O with
    | zero=>
     intro x ht;obtain rfl:t=0:=by omega
     exact hno x
    | succ O ih=>
     intro x ht K;rcases Nat.lt_or_ge O t with h | h
     ·obtain rfl:t=O+1:=by omega
      exact hno x K
     ·obtain ⟨y,i,hy,_⟩:=(Lv.next (by omega)).1 K;exact ih y h hy
   refine ⟨(L,B,d),⟨rfl,trivial⟩,⟨fun x=>(hL x).trans ⟨fun ⟨_,_,_,h⟩=>h,fun h=>?_⟩,Z⟩,H.b7 [1] (by decide) rfl⟩;have hpc:=Av x.1 n;have hlv:Lv n s (n - vA x.1 n) x:=⟨h.1,by omega⟩;refine ⟨_,Nat.lt_of_not_le fun hle=>hno' _ x hle hlv,hlv,h⟩
 clear H;rintro ⟨L,B,d⟩ u w7 ⟨⟨hL,Z⟩,H⟩;exact ⟨B,d,L,rfl,hL,Z,H.out⟩
theorem Kn:enters prog 153=true:=by kernel_rfl
theorem Oc (x y:Rw)(w:World):bw prog 153 [oU x.1 x.2.1 x.2.2,oU y.1 y.2.1 y.2.2] w fun r w'=>(∃ b,r=.bool b)∧aT w w':=by
 refine ar (N:=38) func153 Kn rfl rfl rfl (by simp) ?_;have H:=Hp.aC w;obtain ⟨a,b,c⟩:=x;obtain ⟨d,e,f⟩:=y;refine ak (γ:=Nat × Nat) (fun (g2,g3)=>[(2,(ah g2)),(3,(ah g3))]) (fun (g2,g3) w'=>Hp w ab w' [an g3 50 (eo d e f),an g2 50 (eo a b c)] []) ?_ ?_
 ·refine H.box 50 _ (cs:=eo a b c) rfl ?_;clear H;intro g2 g H;refine H.box 50 _ (cs:=eo d e f) rfl ?_;clear H;intro g3 h H;exact ⟨(g2,g3),⟨rfl,rfl,trivial⟩,H⟩
 clear H;rintro ⟨g2,g3⟩ u g H;by_cases j:(c:Int)=f
 ·by_cases k:(a:Int)=d
  ·refine aa (dt _ _) ?_;refine H.load 1 (i:=2) rfl b5 rfl ?_;refine aa (dt _ _) ?_;refine H.load 0 (i:=2) rfl b5 rfl ?_;refine af (bne_eq_false_iff_eq.2 (by omega)) ?_;refine aa (fT _ _) ?_;refine aa (cj _) ?_;refine H.load 1 (i:=0) rfl b5 rfl ?_;refine aa (fT _ _) ?_;refine aa (cj _) ?_;refine H.load 0 (i:=0) rfl b5 rfl ?_;refine af (bne_eq_false_iff_eq.2 (by omega)) ?_;refine aa (fT _ _) ?_;refine aa (fO _) ?_;refine H.load 1 (i:=1) rfl b5 rfl ?_;refine aa (fT _ _) ?_;refine aa (fO _) ?_;refine H.load 0 (i:=1) rfl b5 rfl ?_;exact ⟨⟨_,rfl⟩,H.keeps⟩
  ·refine aa (dt _ _) ?_;refine H.load 1 (i:=2) rfl b5 rfl ?_;refine aa (dt _ _) ?_;refine H.load 0 (i:=2) rfl b5 rfl ?_;refine af (bne_eq_false_iff_eq.2 (by omega)) ?_;refine aa (fT _ _) ?_;refine aa (cj _) ?_;refine H.load 1 (i:=0) rfl b5 rfl ?_;refine aa (fT _ _) ?_;refine aa (cj _) ?_;refine H.load 0 (i:=0) rfl b5 rfl ?_;refine ag (bne_iff_ne.2 (by omega)) ?_;refine aa (fT _ _) ?_;refine aa (cj _) ?_;refine H.load 1 (i:=0) rfl b5 rfl ?_;refine aa (fT _ _) ?_;refine aa (cj _) ?_;refine H.load 0 (i:=0) rfl b5 rfl ?_;exact ⟨⟨_,rfl⟩,H.keeps⟩
 ·refine aa (dt _ _) ?_;refine H.load 1 (i:=2) rfl b5 rfl ?_;refine aa (dt _ _) ?_;refine H.load 0 (i:=2) rfl b5 rfl ?_;refine ag (bne_iff_ne.2 (by omega)) ?_;refine aa (dt _ _) ?_;refine H.load 1 (i:=2) rfl b5 rfl ?_;refine aa (dt _ _) ?_;refine H.load 0 (i:=2) rfl b5 rfl ?_;exact ⟨⟨_,rfl⟩,H.keeps⟩
theorem Fg {α:Type}{enc:α→List Value}{sz:Nat}(he:∀ a,(enc a).length=sz)(R:List α)(x:α)(i:Nat):flat enc (R.take i++x::R.drop i)=(flat enc R).take (i*sz)++(enc x++(flat enc R).drop (i*sz)):=by
 rw[← oH he,← oI he];unfold flat;rw[List.flatMap_append,List.flatMap_cons]
theorem Ko:enters prog 152=true:=by kernel_rfl
theorem c152 (L:List Rw)(T:L.length≤1000000)(A:Option Addr)(c:Nat)(w:World)(D:Sl w (.slice A L.length c) 3 L.length (flat a6 L)) :
  bw prog 152 [.slice A L.length c,.func (.func 153) #[] #[]] w fun r w'=>∃ B d R,R.Perm L∧r=.slice B R.length d∧eE w w' (own 50 3 (.slice B R.length d) R.length (flat a6 R)):=by
 refine ar (N:=44) func152 Ko rfl rfl rfl (by simp) ?_;have H:=Hp.aC w;refine aw (fun w'=>Hp w ab w' [] []) ⟨(),trivial,H⟩ ?_;clear H;rintro ⟨⟩ u w1 H;refine ak (γ:=Unit) (fun _=>[(5,.slice none 0 0)]) (fun _ w'=>Hp w ab w' [own 50 3 (.slice none 0 0) 0 []] []) ⟨(),⟨rfl,trivial⟩,H.bx 50 3⟩ ?_;clear H;rintro ⟨⟩ u w2 H;refine ak (γ:=List Rw × Option Addr × Nat) (fun (R,B,d)=>[(5,.slice B R.length d)]) (fun (R,B,d) w'=>R.Perm L∧Hp w ab w' [own 50 3 (.slice B R.length d) R.length (flat a6 R)] []) ?_ ?_
 ·refine ay underlying44 ?_;refine ax (γ:=Nat × List Rw × Option Addr × Nat) (fun (k,R,B,d)=>[(11,.int .i64 (k:Int)),(5,.slice B R.length d)]) (fun (k,R,B,d) w'=>(k≤L.length∧R.Perm (L.take k))∧Hp w ab w' [own 50 3 (.slice B R.length d) R.length (flat a6 R)] []) (fun (k,_)=>L.length - k) (0,[],none,0) ⟨rfl,rfl,trivial⟩ ⟨⟨Nat.zero_le _,by simp⟩,H⟩ ?_;clear H;rintro ⟨k,R,B,d⟩ u U ⟨⟨V,b⟩,H⟩;have n:R.length=k:=by rw[b.length_eq,List.length_take,Nat.min_eq_left V]
  refine au (fun X=>?_) (fun X=>?_)
  ·obtain ⟨gA,Y,rfl⟩:=D.A (by omega);obtain ⟨x,E,F⟩:=iT (l:=L) (j:=k) (by omega);have o:=iU E;refine ak (γ:=List Rw × Option Addr × Nat) (fun (R,B,d)=>[(5,.slice B R.length d)]) (fun (R,B,d) w'=>R.Perm (L.take (k+1))∧Hp w ab w' [own 50 3 (.slice B R.length d) R.length (flat a6 R)] []) ?_ ?_
   ·refine ak (γ:=Nat) (fun g7=>[(7,(ah g7))]) (fun g7 w'=>Hp w ab w' [an g7 50 (eo x.1 x.2.1 x.2.2),own 50 3 (.slice B R.length d) R.length (flat a6 R)] []) ?_ ?_
    ·refine ao underlying44 aZ k rfl (by omega) (o':=Y+k*3) (by omega) ?_;refine Sl.cA H D bl gV aZ k rfl E ?_;refine H.alloc 50 (cs:=eo 0 0 0) jz rfl ?_;clear H;intro g7 G H;refine H.storeAll (cs':=eo x.1 x.2.1 x.2.2) 0 rfl aZ rfl (dT _ _ _) ?_;clear H;intro Z H;exact ⟨g7,⟨rfl,trivial⟩,H⟩
    clear H;rintro g7 u G H;refine ak (γ:=Nat) (fun i=>[(8,.int .i64 (i:Int))]) (fun i w'=>i≤R.length∧Hp w ab w' [an g7 50 (eo x.1 x.2.1 x.2.2),own 50 3 (.slice B R.length d) R.length (flat a6 R)] []) ?_ ?_
    ·refine ay underlying44 ?_;exact ⟨R.length,⟨rfl,trivial⟩,Nat.le_refl _,H⟩
    clear H;rintro i0 u Z ⟨p,H⟩;refine ak (γ:=Nat) (fun i=>[(8,.int .i64 (i:Int))]) (fun i w'=>i≤R.length∧Hp w ab w' [an g7 50 (eo x.1 x.2.1 x.2.2),own 50 3 (.slice B R.length d) R.length (flat a6 R)] []) ?_ ?_
    ·refine ax (γ:=Nat) (fun i=>[(8,.int .i64 (i:Int))]) (fun i w'=>i≤R.length∧Hp w ab w' [an g7 50 (eo x.1 x.2.1 x.2.2),own 50 3 (.slice B R.length d) R.length (flat a6 R)] []) (fun i=>i) i0 ⟨rfl,trivial⟩ ⟨p,H⟩ ?_;clear H;rintro i u w6 ⟨hi,H⟩;by_cases h0:(0:Int)<(i:Int)
     ·obtain ⟨gB,rfl⟩:=H.lY 1 rfl (by omega);obtain ⟨y,hy,_⟩:=iT (l:=R) (j:=i - 1) (by omega);have hw:IntKind.i64.wrap ((i:Int) - 1)=((i - 1:Nat):Int):=by rw[aH (by omega) (by omega)];omega
      refine H.draw eO (by kernel_rfl) ?_;clear H;intro I H
      iterate 2 refine ag (decide_eq_true (by assumption)) ?_
      refine quiet _ (fun w H=>H.ai 0 rfl gV aZ ae) ?_
      iterate 4 refine ag (decide_eq_true (by assumption)) ?_
      refine quiet _ (fun w H=>ao underlying44 aZ (i - 1) hw (by omega) (o':=(i - 1)*3) (by omega) ae) ?_;refine ag (decide_eq_true (by assumption)) ?_;refine quiet _ (fun w H=>H.gu 1 rfl bl gV aZ (i - 1) rfl hy ae) ?_;refine ag (decide_eq_true (by assumption)) ?_;refine aj (Oc x y _) ?_;rintro _ w8 ⟨⟨bb,rfl⟩,m⟩;replace H:=H.same m;clear m;refine ⟨.inl H,?_⟩
      cases bb with
      | true=>
       iterate 1 refine ag (decide_eq_true (by assumption)) ?_
       refine ag rfl ?_;exact ⟨i - 1,by show i - 1<i;omega,⟨by rw[← hw];rfl,trivial⟩,by show i - 1≤R.length;omega,H⟩
      | false=>
       iterate 1 refine ag (decide_eq_true (by assumption)) ?_
       refine af rfl ?_;exact ⟨i,⟨rfl,trivial⟩,hi,H⟩
     ·refine H.draw eO (by kernel_rfl) ?_;clear H;intro I H
      iterate 9 refine af (decide_eq_false (by assumption)) ?_
      refine af rfl ?_;exact ⟨i,⟨rfl,trivial⟩,hi,H⟩
    clear H;rintro i u w6 ⟨hi,H⟩;have f:=bB (H.get 1 rfl);obtain ⟨J,K,q,s⟩:=l6 f (i:=i) hi;obtain ⟨M,c2,O,t⟩:=l7 underlying44 aZ f (i:=i) hi;have v:i≤d:=Nat.le_trans hi (by obtain ⟨_,Q,c',e,h,_⟩:=f;injection e with _ _ e;omega);have v1:∀ w',(own 50 3 (.slice B R.length d) R.length (flat a6 R)).ok w'→Sl w' (.slice J i i) 3 i ((flat a6 R).take (i*3)):=fun w' h=>by
     obtain ⟨Q,g,_,z⟩:=l6 (bB h) (i:=i) hi;rw[K] at g;injection g with g _ _;rw[g];exact z
    have v2:∀ w',(own 50 3 (.slice B R.length d) R.length (flat a6 R)).ok w'→Sl w' (.slice M (R.length - i) c2) 3 (R.length - i) ((flat a6 R).drop (i*3)):=fun w' h=>by
     obtain ⟨Q,c',g,z⟩:=l7 underlying44 aZ (bB h) (i:=i) hi;rw[O] at g;injection g with g _ C;rw[g,C];exact z
    have S:(R.take i++x::R.drop i).length=i+(1+(R.length - i)):=by simp;omega
    have hf:=Fg bl R x i;clear s t f;refine H.fp [an g7 50 (eo x.1 x.2.1 x.2.2),own 50 3 (.slice B R.length d) R.length (flat a6 R)] (fun u H=>H) eO (by kernel_rfl) ?_;clear H;intro I H;refine quiet (.slice J i i) (fun w H=>by rw[← K];exact s_ underlying44 aZ rfl rfl v ae) ?_;refine quiet _ (fun w H=>H.ai 0 rfl gV aZ ae) ?_;refine H.bf vz (cs:=eo x.1 x.2.1 x.2.2) (by decide) (by decide) (by kernel_rfl) ?_;clear H;intro g20 w8 H;refine ⟨.inl H.forget,?_⟩;refine quiet (.slice M (R.length - i) c2) (fun w H=>by rw[← O];exact sk underlying44 aZ rfl hi ae) ?_;replace H:=H.wU (l:=1) (sz:=3) rfl (by unfold maxLen;omega);refine H.kO 0 vz rfl (v2 _ (H.get 2 rfl)) (fun u hu=>ml R u (List.mem_of_mem_drop hu)) (by omega) (by omega) ?_;clear H;intro A3 d3 w9 H;refine ⟨.inl H.forget,?_⟩;refine H.qX vz (v1 _ (H.get 2 rfl)) (bB (H.get 0 rfl)) q (by omega) (by omega) (by omega) ?_;clear H;intro A4 d4 w10 H;refine ⟨.inl H.forget.forget,?_⟩;refine ⟨(R.take i++x::R.drop i,some ⟨A4,0,none⟩,d4),⟨by rw[S];rfl,trivial⟩,?_,?_⟩
    ·rw[o];refine (List.perm_middle (a:=x) (l₁:=R.take i) (l₂:=R.drop i)).trans ?_;rw[List.take_append_drop];exact ((b.cons x).trans (List.perm_append_singleton x (L.take k)).symm)
    ·rw[S,hf];exact H.only
   ·clear H b n;rintro ⟨R,B,d⟩ u G ⟨b,H⟩;exact ⟨(k+1,R,B,d),by show L.length - (k+1)<L.length - k;omega,⟨up (by omega),rfl,trivial⟩,⟨by show k+1≤L.length;omega,b⟩,H⟩
  ·have:k=L.length:=by omega
   subst this;rw[List.take_length] at b;exact ⟨(R,B,d),⟨rfl,trivial⟩,b,H⟩
 clear H;rintro ⟨R,B,d⟩ u U ⟨b,H⟩;exact ⟨B,d,R,b,rfl,H.out⟩
end Go.Proofs.YtpjihhgjbbihkaaGreatDoor
