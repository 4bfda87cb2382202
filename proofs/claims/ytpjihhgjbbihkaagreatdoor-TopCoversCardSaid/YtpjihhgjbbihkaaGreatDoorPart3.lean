import Derived.Test.YtpjihhgjbbihkaaGreatDoorPart2
import Derived.WideKeyEntry
namespace Go.Proofs.YtpjihhgjbbihkaaGreatDoor
open Go.Proofs.Tryz
set_option maxRecDepth 100000
open Go.Dk
attribute [local irreducible] IntKind.wrap
theorem _root_.Go.Dk.Hp.j9 {w0 w:World}{F:Nat→Prop}{L M:List cS}{a b c:cS}(H:Hp w0 F w (a::b::c::L) M):Hp w0 F w [a,b,c] M:=by
 have hm:∀ s,s ∈ [a,b,c]→s ∈ a::b::c::L:=fun s hs=>by
  have:s ∈ [a,b,c]++L:=List.mem_append_left _ hs;exact this
 exact ⟨H.keeps,fun s hs=>H.ok s (hm s hs),fun s hs=>H.lt s (hm s hs),fun s hs=>H.new s (hm s hs),(List.pairwise_append.1 (show List.Pairwise _ ([a,b,c]++L) from H.dis)).1,H.rok,H.rlt,fun q d s hs=>H.rdis q d s (hm s hs)⟩
theorem _root_.Go.Dk.Hp.pF {w0 w:World}{F:Nat→Prop}{L M:List cS}{g l sz:Nat}{e:TypeId}{cs:Array Value}(H:Hp w0 F w (an g e cs::L) M)(hs:cs.size=l*sz)(b:l≤maxLen):Hp w0 F w (own e sz (.slice (some ⟨g,0,none⟩) l l) l cs.toList::L) M:=
 H.re (fun h=>⟨by simpa using hs,.inr ⟨g,l,cs,rfl,Nat.zero_le _,h,Nat.le_refl _,b,hs,by rw[← hs];exact List.take_length⟩⟩) (fun x a=>by
  have a:some g=some x:=a;injection a with a;exact a.symm)
theorem fT {P:Program}{w:World}{k:Value→World→Prop}{g:Nat}{t ty:TypeId}{cs:Array Value}(h:(an g t cs).ok w)(cs':List Value)(a:cW P ty=some true)(hs:bF P ty=some cs'.length)(b:∀ (j:Nat) v,cs'[j]?=some v→cs[j]?=some v)(c:k (.agg cs'.toArray) w):fu P ty (ah g) w k:=
 iB cs' a hs (fun j v d=>by rw[addr_add,Nat.zero_add,aQ h];exact b j v d) c
def Mv (cols:Int)(R:a6)(m:Nat)(G:List Int)(s e:Int):Prop:=
 (cN cols R=false∧G=[]∧s=0∧e=1)∨(cN cols R=true∧ij R=true∧G=[]∧s=0∧e=7)∨
 (cN cols R=true∧ij R=false∧e=6∧s=m∧G=[]∧m<2^cols.toNat)∨
 (cN cols R=true∧ij R=false∧e=0∧(0≤s∧s≤m)∧(∃ b,G=a7 cols.toNat b)∧ff cols.toNat R (G.length:Int)∧aK R G)
def nZ (n:Int)(a:Option Addr)(c c3:Nat)(t:Value)(b:Value × Value):Array Value:=(gN n (.slice a c c3,t)++gN n b).toArray
theorem Mw:enters prog 89=true:=by kernel_rfl
set_option maxHeartbeats 4000000 in
theorem Pk (cols:Int)(R:a6)(v1:Value)(m:Nat)(S:Nat→Prop)(w:World)(hl:R.length≤1000000)(hlr:∀ r ∈ R,r.length≤1000000000)(hm:m≤1000000000)(hc:cN cols R=true→cols≤4000)(h1:eG S v1 R w)(hS:∀ g,S g→g<w.heap.size) :
  bz prog 89 [mv cols v1,.int .i64 (m:Int)] w fun v w'=>∃ B d G s e,v=.tuple #[.slice B G.length d,.int .i64 s,.int .i64 e]∧Mv cols R m G s e∧eW w w' (own 3 1 (.slice B G.length d) G.length (aA G)):=by
 refine ar (N:=110) func89 Mw rfl rfl rfl (by simp) ?_;have H:=pC h1 hS;have h1':j8 w v1 R:=bh.mono h1 hS;obtain ⟨A,ca,hv⟩:=h1.form;subst hv;refine ak (γ:=Nat) (fun g2=>[(2,(ah g2))]) (fun g2 w'=>Hp w ab w' [an g2 137 (mc cols (.slice A R.length ca))] [bh S (.slice A R.length ca) R]) ?_ ?_
 ·refine H.box 137 (mv _ _) (cs:=mc _ _) rfl ?_;clear H;intro g1 w1 H;exact ⟨g1,⟨rfl,trivial⟩,H⟩
 clear H;rintro g2 u w1 H;refine ak (γ:=Option Addr × Nat × List Int × Int) (fun (B,d,G,e)=>[(7,.slice B G.length d),(8,.int .i64 e)]) (fun (B,d,G,e) w'=>BW cols R G e∧Hp w ab w' [own 3 1 (.slice B G.length d) G.length (aA G),an g2 137 (mc cols (.slice A R.length ca))] [bh S (.slice A R.length ca) R]) ?_ ?_
 ·refine H.ai 0 rfl aN az ?_;refine aj (Om cols R _ S _ (by omega) hlr (H.ro 0 rfl) (H.rlt _ (.head _))) ?_;rintro _ w2 ⟨B,d,G,e,rfl,hG,I⟩;exact ⟨(B,d,G,e),⟨rfl,rfl,trivial⟩,hG,H.bq I⟩
 clear H;rintro ⟨U,V,best,e⟩ u w2 ⟨hG,H⟩;refine aw (fun w'=>(e=0)∧Hp w ab w' [own 3 1 (.slice U best.length V) best.length (aA best),an g2 137 (mc cols (.slice A R.length ca))] [bh S (.slice A R.length ca) R]) ?_ ?_
 ·refine dq (fun he=>?_) (fun he=>?_)
  ·refine ⟨none,0,[],0,e,rfl,?_,((H.bC 3 1).only).out⟩;rcases hG with ⟨h1,_,h3⟩ | ⟨h1,h2,_,h3⟩ | ⟨_,_,h3,_⟩
   ·exact .inl ⟨h1,rfl,rfl,h3⟩
   ·exact .inr (.inl ⟨h1,h2,rfl,rfl,h3⟩)
   ·exact absurd h3 he
  ·exact ⟨(),trivial,he,H⟩
 clear H;rintro ⟨⟩ u w3 ⟨he,H⟩;obtain ⟨hr',hb',gl,hgl,hGe⟩:cN cols R=true∧ij R=false∧∃ l,m_ R l∧best=a7 cols.toNat l:=by
  rcases hG with ⟨_,_,h3⟩ | ⟨_,_,_,h3⟩ | ⟨h1,h2,_,h3⟩
  ·omega
  ·omega
  ·exact ⟨h1,h2,h3⟩
 clear hG;have hright:=gL.1 hr';obtain ⟨n,rfl⟩:∃ n:Nat,cols=n:=⟨cols.toNat,by have:=hright.ge;omega⟩;rw[Int.toNat_natCast] at hGe;have hn30:=hc hr';have hbare:[] ∉ R:=fun h=>by rw[kD.2 h] at hb';cases hb'
 have hsolve:aK R best:=by rw[hGe];exact mY hright (uT hgl)
 have F:best.length≤4000:=by have:=fK n gl;rw[hGe];omega
 refine ak (γ:=Unit) (fun _=>[(1,.int .i64 (m:Int))]) (fun _ w'=>Hp.cl H w') ?_ ?_
 ·refine Ka ?_;exact ⟨(),⟨rfl,trivial⟩,H⟩
 rintro ⟨⟩ u w3 H1;replace H:Hp _ _ _ _ _:=H1;clear H1;refine ak (γ:=Nat) (fun g9=>[(9,.slice (some ⟨g9,0,none⟩) 1 1)]) (fun g9 w'=>Hp w ab w' [own 184 3 (.slice (some ⟨g9,0,none⟩) 1 1) 1 (flat (gN n) [(.slice A R.length ca,.slice none 0 0)]),own 3 1 (.slice U best.length V) best.length (aA best),an g2 137 (mc n (.slice A R.length ca))] [bh S (.slice A R.length ca) R]) ?_ ?_
 ·refine H.ai 1 rfl aN az ?_;refine bK ?_;refine H.bk ik (cs:=(gN n (.slice A R.length ca,.slice none 0 0)).toArray) (by decide) (by decide) (by kernel_rfl) ?_;clear H;intro g9 w4 H;exact ⟨g9,⟨rfl,trivial⟩,H.pF (l:=1) (sz:=3) rfl (by unfold maxLen;omega)⟩
 clear H;rintro g9 u w4 H;refine ak (γ:=Unit) (fun _=>[(10,.int .i64 0)]) (fun _ w'=>Hp.cl H w') ⟨(),⟨rfl,trivial⟩,H⟩ ?_;rintro ⟨⟩ u w5 H1;replace H:Hp _ _ _ _ _:=H1;clear H1;have Hs:∃ (Y Sb:Nat→Prop),Hp w ab w5 [own 184 3 (.slice (some ⟨g9,0,none⟩) 1 1) 1 (flat (gN n) [(.slice A R.length ca,.slice none 0 0)]),an g2 137 (mc n (.slice A R.length ca))] [jl Y [(.slice A R.length ca,.slice none 0 0)] [(R,[])],sl Sb (.slice U best.length V) 1 best.length (aA best)]:=by
  have p:=(H.front 1 rfl).freeze;have hb:=iQ (p.ro 0 rfl);have hmR:=p.ro 1 rfl;refine ⟨Dj [own 3 1 (.slice U best.length V) best.length (aA best),bh S (.slice A R.length ca) R],fun g=>(Value.slice U best.length V).ownBlock=some g,?_⟩;have H3:=p.pE (sl (fun g=>(Value.slice U best.length V).ownBlock=some g) (.slice U best.length V) 1 best.length (aA best)) (fun g hg=>⟨_,.head _,hg⟩) hb;have H4:=H3.pE (jl (Dj [own 3 1 (.slice U best.length V) best.length (aA best),bh S (.slice A R.length ca) R]) [(.slice A R.length ca,.slice none 0 0)] [(R,[])]) (fun g ⟨s,hs,hg⟩=>⟨s,.tail _ hs,hg⟩)
   ((fB.nil _ _).snoc (bh.mono hmR fun g hg=>⟨_,.tail _ (.head _),hg⟩) rfl ⟨rfl,none,0,rfl,Nat.le_refl _,.inl rfl⟩)
  exact H4.eD fun r hr=>by
   rcases List.mem_cons.1 hr with rfl | hr
   ·exact .head _
   ·rw[List.mem_singleton] at hr;subst hr;exact .tail _ (.head _)
 clear H;obtain ⟨Y,Sb0,H⟩:=Hs;refine ak (γ:=Option Addr × Nat × List Int × Nat) (fun (B,d,best,k)=>[(7,.slice B best.length d),(10,.int .i64 (k:Int))]) (fun (B,d,best,k) w'=>(k≤m∧best.length≤4000∧f_ n R best k [])∧(∃ Sb,Hp w ab w' [an g2 137 (mc n (.slice A R.length ca))] [sl Sb (.slice B best.length d) 1 best.length (aA best)])) ?_ ?_
 ·refine u7 (γ:=Option Addr × Nat × List (Value × Value) × uP × List Int × Option Addr × Nat × Nat × (Nat→Prop) × (Nat→Prop)) _ rfl
   (fun (A9,d9,ts,_,best,U,V,k,_)=>[(9,.slice A9 ts.length d9),(7,.slice U best.length V),(10,.int .i64 (k:Int))])
   (fun (A9,d9,ts,st,best,U,V,k,Y,Sb) w'=>((best.length≤4000∧k≤m)∧f_ n R best k st)∧Hp w ab w' [own 184 3 (.slice A9 ts.length d9) ts.length (flat (gN n) ts),an g2 137 (mc n (.slice A R.length ca))] [jl Y ts st,sl Sb (.slice U best.length V) 1 best.length (aA best)])
   (fun (_,_,_,st,_)=>qj n st) (some ⟨g9,0,none⟩,1,[(.slice A R.length ca,.slice none 0 0)],[(R,[])],best,U,V,0,Y,Sb0) ⟨rfl,rfl,rfl,trivial⟩ ⟨⟨⟨F,Nat.zero_le _⟩,C3 hright hsolve⟩,H⟩ ?_
  clear H hsolve hGe he F;rintro ⟨A9,d9,ts,st,best,U,V,k,Y,Sb⟩ u w6 ⟨⟨⟨F,hkm⟩,hfew⟩,H⟩;have hstk:fB Y w6 ts st:=H.ro 0 rfl;have hlen:=hstk.1;refine ay underlying185 ?_;refine au (fun h7=>?_) (fun h7=>?_)
  ·rcases List.eq_nil_or_concat ts with rfl | ⟨f,a,hts⟩
   ·simp at h7
   rcases List.eq_nil_or_concat st with rfl | ⟨C,x,hst⟩
   ·simp at hlen;rw[hlen] at h7;simp at h7
   rw[List.concat_eq_append] at hts hst;subst hts;subst hst;obtain ⟨hstk0,hma,Bx,cx,hax,hslx⟩:=hstk.pop;have hl0:f.length=C.length:=hstk0.1;obtain ⟨Ax,D,hax1⟩:=hma.form;obtain ⟨a1,a2⟩:=a;simp only at hax hax1;subst hax;subst hax1;have hxr:=hfew.right x (by simp);have hxl:x.1.length≤1000000:=Nat.le_trans (hfew.rows x (by simp)) hl;have hxT:x.2.length≤20000000:=by
    have h1:=hfew.len x (by simp);have h2:(n+1)*n≤4001*4000:=Nat.mul_le_mul (by omega) (by omega);omega
   have hhi:f.length≤4001:=by have:=hfew.high C.length x (by simp);omega
   have hxlr:∀ r ∈ x.1,r.length≤1000000000:=fun r hr=>by have:=oN hxr hr;omega
   have hxb:cN n x.1=true:=gL.2 hxr;have hlts:(f++[(Value.slice Ax x.1.length D,Value.slice Bx x.2.length cx)]).length=f.length+1:=by simp
   have hw1:IntKind.i64.wrap (((f++[(Value.slice Ax x.1.length D,Value.slice Bx x.2.length cx)]).length:Int) - 1)=(f.length:Int):=by rw[hlts,aH (by omega) (by omega)];omega
   refine ak (γ:=Nat) (fun g11=>[(11,(ah g11))]) (fun g11 w'=>Hp w ab w' [an g11 184 (gN n (.slice Ax x.1.length D,.slice Bx x.2.length cx)).toArray,own 184 3 (.slice A9 (f++[(Value.slice Ax x.1.length D,Value.slice Bx x.2.length cx)]).length d9) (f++[(Value.slice Ax x.1.length D,Value.slice Bx x.2.length cx)]).length (flat (gN n) (f++[(Value.slice Ax x.1.length D,Value.slice Bx x.2.length cx)])),an g2 137 (mc n (.slice A R.length ca))] [jl Y (f++[(Value.slice Ax x.1.length D,Value.slice Bx x.2.length cx)]) (C++[x]),sl Sb (.slice U best.length V) 1 best.length (aA best)]) ?_ ?_
   ·obtain ⟨g9',rfl⟩:=jV (H.get 0 rfl) (by omega);refine ay underlying185 ?_;refine aq underlying185 (s:=3) wQ f.length hw1 (by omega) (o':=0+f.length*3) rfl ?_;refine H.eE 0 rfl (yJ n) J_ wQ f.length (by omega) (a:=(Value.slice Ax x.1.length D,Value.slice Bx x.2.length cx)) (by simp) ?_;refine H.alloc 184 Ht rfl ?_;clear H;intro g11 w7 H;refine H.storeAll 0 rfl wQ rfl (fun v hv=>by simp[gN] at hv;rcases hv with rfl | rfl | rfl <;> rfl) ?_;clear H;intro w8 H;exact ⟨g11,⟨rfl,trivial⟩,H⟩
   clear H hstk hstk0 hma hslx;rintro g11 u w7 H;refine ak (γ:=Option Addr × Nat) (fun (A9,d9)=>[(9,.slice A9 f.length d9)]) (fun (A9,d9) w'=>Hp w ab w' [an g11 184 (gN n (.slice Ax x.1.length D,.slice Bx x.2.length cx)).toArray,own 184 3 (.slice A9 f.length d9) f.length (flat (gN n) f),an g2 137 (mc n (.slice A R.length ca))] [jl Y (f++[(Value.slice Ax x.1.length D,Value.slice Bx x.2.length cx)]) (C++[x]),sl Sb (.slice U best.length V) 1 best.length (aA best)]) ?_ ?_
   ·refine ay underlying185 ?_;refine H.Hr 1 ik rfl hw1 (by omega) (by omega) ?_;have e:(flat (gN n) (f++[(Value.slice Ax x.1.length D,Value.slice Bx x.2.length cx)])).take (f.length*3)=flat (gN n) f:=by
     rw[dD,List.take_left' (dp (yJ n) f)]
    rw[e];clear H;intro A' c' H;exact ⟨(A',c'),⟨rfl,trivial⟩,H⟩
   clear H;rintro ⟨A9,d9⟩ u w8 H;have hpart:∀ (j:Nat) (v:Value),([.int .i64 (n:Int),.slice Ax x.1.length D]:List Value)[j]?=some v→(gN n (.slice Ax x.1.length D,.slice Bx x.2.length cx)).toArray[j]?=some v:=fun j v hj=>by
    match j,hj with
    | 0,hj=>exact hj
    | 1,hj=>exact hj
    | j+2,hj=>simp at hj
   have Z:fB Y w8 (f++[(Value.slice Ax x.1.length D,Value.slice Bx x.2.length cx)]) (C++[x]):=H.ro 0 rfl;have hmx:eG Y (.slice Ax x.1.length D) x.1 w8:=Z.pop.2.1;have hSl:∀ g,Y g→g<w8.heap.size:=H.rlt _ (.head _);refine aw (fun w'=>ij x.1=false∧Hp.cl H w') ?_ ?_
   ·refine aa (BX _) ?_;refine fT (H.get 0 rfl) [.int .i64 (n:Int),.slice Ax x.1.length D] aN az hpart ?_;refine aj (Mu n x.1 _ _ (by omega) (bh.mono hmx hSl)) ?_;rintro _ w9 ⟨rfl,hk⟩;replace H:=H.same hk;clear hk;refine aF (fun hb=>?_) (fun hb=>?_)
    ·have hb':[] ∈ x.1:=kD.1 (by simpa using hb);have Z:fB Y w9 (f++[(Value.slice Ax x.1.length D,Value.slice Bx x.2.length cx)]) (C++[x]):=H.ro 0 rfl;have p:=((H.forget).pE (jl Y f C) (fun g hg=>⟨_,.head _,hg⟩) Z.pop.1).eD (M':=[jl Y f C,sl Sb (.slice U best.length V) 1 best.length (aA best)]) (fun r hr=>by
      rcases List.mem_cons.1 hr with rfl | hr
      ·exact .head _
      ·rw[List.mem_singleton] at hr;subst hr;exact .tail _ (.tail _ (.head _)))
     exact ⟨(A9,d9,f,C,best,U,V,k,Y,Sb),ql n C x,⟨rfl,rfl,rfl,trivial⟩,⟨⟨F,hkm⟩,E6 hfew hb'⟩,p⟩
    ·exact ⟨(),trivial,by simpa using hb,H⟩
   rintro ⟨⟩ u w9 ⟨hxbare,H1⟩;replace H:Hp w ab w9 [an g11 184 (gN n (.slice Ax x.1.length D,.slice Bx x.2.length cx)).toArray,own 184 3 (.slice A9 f.length d9) f.length (flat (gN n) f),an g2 137 (mc n (.slice A R.length ca))] [jl Y (f++[(Value.slice Ax x.1.length D,Value.slice Bx x.2.length cx)]) (C++[x]),sl Sb (.slice U best.length V) 1 best.length (aA best)]:=H1;clear H1 Z hmx hSl;obtain ⟨e1,e2,e3,e4⟩:=BU hxb;have hEi:=ki hxr;have hEb:[] ∉ (dm n (x.1,[])).1:=qf (s:=(x.1,[])) (fun h=>by rw[kD.2 h] at hxbare;cases hxbare) _;have hEl:(dm n (x.1,[])).1.length≤x.1.length:=oL (s:=(x.1,[])) _;have hTl:=fK n (dm n (x.1,[])).2;have hdone:=E7 hfew;have hcut:=Hg hfew;have hbr:=fun c=>z6 hfew (c:=c);have hc89:=fun u hS0 h=>O8 n x.1 (.slice Ax x.1.length D) Y u (by omega) hxlr h hS0;rw[e1,e2,e3,e4] at hc89;have hEr:=hEi.right;clear hEi e1 e2 e3 e4;generalize (dm n (x.1,[])).1=E at *;generalize a7 n (dm n (x.1,[])).2=i at *;have z:∀ r ∈ E,r.length≤1000000000:=fun r hr=>by have:=oN hEr hr;omega
   have hEL:E.length≤1000000:=by omega
   have hT15:(x.2++i).length=x.2.length+i.length:=List.length_append;refine ak (γ:=Option Addr × Nat × Nat × Option Addr × Nat × (Nat→Prop)) (fun (B12,d12,g13,_)=>[(12,.slice B12 i.length d12),(13,(ah g13))])
    (fun (B12,d12,g13,AE,cE,X) w'=>Hp w ab w' [an g13 137 (mc n (.slice AE E.length cE)),own 3 1 (.slice B12 i.length d12) i.length (aA i),an g11 184 (gN n (.slice Ax x.1.length D,.slice Bx x.2.length cx)).toArray,own 184 3 (.slice A9 f.length d9) f.length (flat (gN n) f),an g2 137 (mc n (.slice A R.length ca))] [bh X (.slice AE E.length cE) E,jl Y (f++[(Value.slice Ax x.1.length D,Value.slice Bx x.2.length cx)]) (C++[x]),sl Sb (.slice U best.length V) 1 best.length (aA best)]) ?_ ?_
   ·refine aa (BX _) ?_;refine fT (H.get 0 rfl) [.int .i64 (n:Int),.slice Ax x.1.length D] aN az hpart ?_;have Z:fB Y w9 (f++[(Value.slice Ax x.1.length D,Value.slice Bx x.2.length cx)]) (C++[x]):=H.ro 0 rfl;refine aj (hc89 _ (H.rlt _ (.head _)) Z.pop.2.1) ?_;rintro _ w10 ⟨B12,d12,v',X,rfl,p,hS1⟩;obtain ⟨AE,cE,hvE⟩:=(p.ro 0 rfl).form;subst hvE;have H3:=H.merge p (fun r hr g hg=>by
     rw[List.mem_singleton] at hr;subst hr;exact (hS1 g hg).imp id fun h=>⟨_,.head _,h⟩)
    clear H p;refine H3.alloc 137 ed rfl ?_;clear H3;intro g13 w11 H;refine H.storeAll 0 rfl az rfl (fun v hv=>dn v hv) ?_;clear H;intro w12 H;exact ⟨(B12,d12,g13,AE,cE,X),⟨rfl,rfl,trivial⟩,H⟩
   clear H hc89;rintro ⟨B12,d12,g13,AE,cE,X⟩ u w10 H;refine ak (γ:=Option Addr × Nat) (fun (q,d15)=>[(15,.slice q (x.2++i).length d15)]) (fun (q,d15) w'=>Hp w ab w' [an g13 137 (mc n (.slice AE E.length cE)),own 184 3 (.slice A9 f.length d9) f.length (flat (gN n) f),an g2 137 (mc n (.slice A R.length ca))] [own 3 1 (.slice q (x.2++i).length d15) (x.2++i).length (aA (x.2++i)),bh X (.slice AE E.length cE) E,jl Y (f++[(Value.slice Ax x.1.length D,Value.slice Bx x.2.length cx)]) (C++[x]),sl Sb (.slice U best.length V) 1 best.length (aA best)]) ?_ ?_
   ·refine Hp.dI H dU ?_;clear H;intro g14 w13 H;refine aa (Hu _) ?_;refine H.load 3 rfl iX rfl ?_;have Z:fB Y w13 (f++[(Value.slice Ax x.1.length D,Value.slice Bx x.2.length cx)]) (C++[x]):=H.ro 1 rfl;obtain ⟨_,_,Bx',cx',hax,hslx⟩:=Z.pop;injection hax with hax1 _ hax2;subst hax1;subst hax2;refine Hp.ct H 0 dU rfl (sl.mono hslx (H.rlt _ (.tail _ (.head _)))) (de _) (by omega) (by omega) ?_;clear H;intro A15 d15 w14 H;refine H.kR 0 dU rfl (bB (H.get 2 rfl)) (de _) (by omega) (by omega) ?_;clear H;intro q d15 w15 H;rw[← hT15,← qq] at H;replace H:=H.freeze;exact ⟨(q,d15),⟨by rw[hT15];rfl,trivial⟩,(((H.front 4 rfl).front 4 rfl).front 2 rfl).j9⟩
   clear H;rintro ⟨q,d15⟩ u w11 H;have hM1:∀ (u:World) (L:List cS),Hp w ab u L [own 3 1 (.slice q (x.2++i).length d15) (x.2++i).length (aA (x.2++i)),bh X (.slice AE E.length cE) E,jl Y (f++[(Value.slice Ax x.1.length D,Value.slice Bx x.2.length cx)]) (C++[x]),sl Sb (.slice U best.length V) 1 best.length (aA best)]→Hp w ab u L [jl Y f C,sl Sb (.slice U best.length V) 1 best.length (aA best)]:=fun u L H=>by
    have Z:fB Y u (f++[(Value.slice Ax x.1.length D,Value.slice Bx x.2.length cx)]) (C++[x]):=H.ro 2 rfl;refine (H.pE (jl Y f C) (fun g hg=>⟨_,.tail _ (.tail _ (.head _)),hg⟩) Z.pop.1).eD fun r hr=>?_;rcases List.mem_cons.1 hr with rfl | hr
    ·exact .head _
    ·rw[List.mem_singleton] at hr;subst hr;exact .tail _ (.tail _ (.tail _ (.tail _ (.head _))))
   have hM2:∀ (u:World) (L:List cS),Hp w ab u L [own 3 1 (.slice q (x.2++i).length d15) (x.2++i).length (aA (x.2++i)),bh X (.slice AE E.length cE) E,jl Y (f++[(Value.slice Ax x.1.length D,Value.slice Bx x.2.length cx)]) (C++[x]),sl Sb (.slice U best.length V) 1 best.length (aA best)]→Hp w ab u L [jl Y f C,sl (fun g=>(Value.slice q (x.2++i).length d15).ownBlock=some g) (.slice q (x.2++i).length d15) 1 (x.2++i).length (aA (x.2++i))]:=fun u L H=>by
    have Z:fB Y u (f++[(Value.slice Ax x.1.length D,Value.slice Bx x.2.length cx)]) (C++[x]):=H.ro 2 rfl;have h15:=iQ (H.ro 0 rfl);have p:=H.pE (sl (fun g=>(Value.slice q (x.2++i).length d15).ownBlock=some g) (.slice q (x.2++i).length d15) 1 (x.2++i).length (aA (x.2++i))) (fun g hg=>⟨_,.head _,hg⟩) h15;refine (p.pE (jl Y f C) (fun g hg=>⟨_,.tail _ (.tail _ (.tail _ (.head _))),hg⟩) Z.pop.1).eD fun r hr=>?_;rcases List.mem_cons.1 hr with rfl | hr
    ·exact .head _
    ·rw[List.mem_singleton] at hr;subst hr;exact .tail _ (.head _)
   refine ak (γ:=Unit) (fun _=>[(7,.slice U best.length V)]) (fun _ w'=>0<E.length∧Hp w ab w' [an g13 137 (mc n (.slice AE E.length cE)),own 184 3 (.slice A9 f.length d9) f.length (flat (gN n) f),an g2 137 (mc n (.slice A R.length ca))] [own 3 1 (.slice q (x.2++i).length d15) (x.2++i).length (aA (x.2++i)),bh X (.slice AE E.length cE) E,jl Y (f++[(Value.slice Ax x.1.length D,Value.slice Bx x.2.length cx)]) (C++[x]),sl Sb (.slice U best.length V) 1 best.length (aA best)]) ?_ ?_
   ·refine aa (cH _) ?_;refine H.load 0 rfl eH rfl ?_;refine ay underlying135 ?_;refine ck (fun h10=>?_) (fun h10=>?_)
    ·have hE0:E=[]:=List.length_eq_zero_iff.1 (by omega);have hd:=hdone hE0;refine ay underlying75 ?_;refine ay underlying75 ?_;refine au (fun h11=>?_) (fun h11=>?_)
     ·rw[if_pos (by omega)] at hd;exact ⟨(A9,d9,f,C,x.2++i,q,d15,k,Y,_),ql n C x,⟨rfl,rfl,rfl,trivial⟩,⟨⟨by omega,hkm⟩,hd⟩,hM2 _ _ H.forget⟩
     ·rw[if_neg (by omega)] at hd;exact ⟨(A9,d9,f,C,best,U,V,k,Y,Sb),ql n C x,⟨rfl,rfl,rfl,trivial⟩,⟨⟨F,hkm⟩,hd⟩,hM1 _ _ H.forget⟩
    ·exact ⟨(),⟨rfl,trivial⟩,by omega,H⟩
   clear H hdone;rintro ⟨⟩ u w12 ⟨hE0,H⟩;have hbl:=qg E [];have hw2:IntKind.i64.wrap (((x.2++i).length:Int)+((eO E []:Nat):Int))=(((x.2++i).length+eO E []:Nat):Int):=by rw[aH (by omega) (by omega)];omega
   refine aw (fun w'=>Hp w ab w' [an g13 137 (mc n (.slice AE E.length cE)),own 184 3 (.slice A9 f.length d9) f.length (flat (gN n) f),an g2 137 (mc n (.slice A R.length ca))] [own 3 1 (.slice q (x.2++i).length d15) (x.2++i).length (aA (x.2++i)),bh X (.slice AE E.length cE) E,jl Y (f++[(Value.slice Ax x.1.length D,Value.slice Bx x.2.length cx)]) (C++[x]),sl Sb (.slice U best.length V) 1 best.length (aA best)]) ?_ ?_
   ·refine ay underlying75 ?_;refine H.ai 0 rfl aN az ?_;refine aj (Ol n E _ _ (by omega) z (bh.mono (H.ro 1 rfl) (H.rlt _ (.tail _ (.head _))))) ?_;rintro _ w13 ⟨rfl,hk⟩;replace H:=H.same hk;clear hk;refine ay underlying75 ?_;refine au (fun h12=>?_) (fun h12=>?_)
    ·rw[hw2] at h12;exact ⟨(A9,d9,f,C,best,U,V,k,Y,Sb),ql n C x,⟨rfl,rfl,rfl,trivial⟩,⟨⟨F,hkm⟩,hcut (by omega)⟩,hM1 _ _ H.forget⟩
    ·exact ⟨(),trivial,H⟩
   clear H hcut;rintro ⟨⟩ u w13 H;refine aw (fun w'=>k+1≤m∧Hp w ab w' [an g13 137 (mc n (.slice AE E.length cE)),own 184 3 (.slice A9 f.length d9) f.length (flat (gN n) f),an g2 137 (mc n (.slice A R.length ca))] [own 3 1 (.slice q (x.2++i).length d15) (x.2++i).length (aA (x.2++i)),bh X (.slice AE E.length cE) E,jl Y (f++[(Value.slice Ax x.1.length D,Value.slice Bx x.2.length cx)]) (C++[x]),sl Sb (.slice U best.length V) 1 best.length (aA best)]) ?_ ?_
   ·refine ck (fun h13=>?_) (fun h13=>?_)
    ·have h13:(k:Int)=(m:Int):=h13;refine ⟨none,0,[],m,6,by rw[← h13];rfl,?_,((H.bC 3 1).only).out⟩;refine .inr (.inr (.inl ⟨hr',hb',rfl,rfl,rfl,?_⟩));rw[Int.toNat_natCast];have:=hfew.steps;have:=Nat.one_le_two_pow (n:=n);omega
    ·have h13:(k:Int)≠(m:Int):=h13;exact ⟨(),trivial,by omega,H⟩
   clear H;rintro ⟨⟩ u w14 ⟨hk1,H⟩;refine ak (γ:=Unit) (fun _=>[(10,.int .i64 ((k+1:Nat):Int))]) (fun _ w'=>Hp w ab w' [an g13 137 (mc n (.slice AE E.length cE)),own 184 3 (.slice A9 f.length d9) f.length (flat (gN n) f),an g2 137 (mc n (.slice A R.length ca))] [own 3 1 (.slice q (x.2++i).length d15) (x.2++i).length (aA (x.2++i)),bh X (.slice AE E.length cE) E,jl Y (f++[(Value.slice Ax x.1.length D,Value.slice Bx x.2.length cx)]) (C++[x]),sl Sb (.slice U best.length V) 1 best.length (aA best)]) ⟨(),⟨up (by omega),trivial⟩,H⟩ ?_;clear H;rintro ⟨⟩ u w15 H;refine ak (γ:=Int) (fun c=>[(16,.int .i64 c)]) (fun c w'=>pB E c∧Hp w ab w' [an g13 137 (mc n (.slice AE E.length cE)),own 184 3 (.slice A9 f.length d9) f.length (flat (gN n) f),an g2 137 (mc n (.slice A R.length ca))] [own 3 1 (.slice q (x.2++i).length d15) (x.2++i).length (aA (x.2++i)),bh X (.slice AE E.length cE) E,jl Y (f++[(Value.slice Ax x.1.length D,Value.slice Bx x.2.length cx)]) (C++[x]),sl Sb (.slice U best.length V) 1 best.length (aA best)]) ?_ ?_
   ·refine H.ai 0 rfl aN az ?_;refine aj (c124 n n E _ _ (by omega) z hEr (bh.mono (H.ro 1 rfl) (H.rlt _ (.tail _ (.head _))))) ?_;rintro _ w16 ⟨c,rfl,hb,hk⟩;replace H:=H.same hk;clear hk;exact ⟨c,⟨rfl,trivial⟩,hb (yI hEb hE0),H⟩
   clear H;rintro c u w16 ⟨hbusy,H⟩;obtain ⟨J,_,K⟩:=hbr c (BN hbusy);clear hbr;have M:∀ (A17:Option Addr) (d17:Nat) (t:Option Addr) (d14:Nat) (v3 v8:Value) (S3 S8:Nat→Prop) (u:World),Hp w ab u [own 184 3 (.slice A17 (f.length+2) d17) (f.length+2) (flat (gN n) f++(gN n (v3,Value.slice q (x.2++i).length d15)++gN n (v8,Value.slice t ((x.2++i).length+1) d14))),own 3 1 (.slice t ((x.2++i).length+1) d14) ((x.2++i).length+1) (aA (x.2++i)++[.int .i64 c]),an g2 137 (mc n (.slice A R.length ca))]
     [bh S8 v8 (aI E c),bh S3 v3 (bo E c),own 3 1 (.slice q (x.2++i).length d15) (x.2++i).length (aA (x.2++i)),bh X (.slice AE E.length cE) E,jl Y (f++[(Value.slice Ax x.1.length D,Value.slice Bx x.2.length cx)]) (C++[x]),sl Sb (.slice U best.length V) 1 best.length (aA best)]→
     ∃ S' O,Hp w ab u [own 184 3 (.slice A17 (f++[(v3,Value.slice q (x.2++i).length d15),(v8,Value.slice t ((x.2++i).length+1) d14)]).length d17) (f++[(v3,Value.slice q (x.2++i).length d15),(v8,Value.slice t ((x.2++i).length+1) d14)]).length (flat (gN n) (f++[(v3,Value.slice q (x.2++i).length d15),(v8,Value.slice t ((x.2++i).length+1) d14)])),an g2 137 (mc n (.slice A R.length ca))]
      [jl S' (f++[(v3,Value.slice q (x.2++i).length d15),(v8,Value.slice t ((x.2++i).length+1) d14)]) (C++[(bo E c,x.2++i),(aI E c,(x.2++i)++[c])]),sl O (.slice U best.length V) 1 best.length (aA best)]:=by
    intro A17 d17 t d14 v3 v8 S3 S8 u H;have el:(f++[(v3,Value.slice q (x.2++i).length d15),(v8,Value.slice t ((x.2++i).length+1) d14)]).length=f.length+2:=by simp
    have ef:flat (gN n) (f++[(v3,Value.slice q (x.2++i).length d15),(v8,Value.slice t ((x.2++i).length+1) d14)])=flat (gN n) f++(gN n (v3,.slice q (x.2++i).length d15)++gN n (v8,.slice t ((x.2++i).length+1) d14)):=by simp only[flat,List.flatMap_append,List.flatMap_cons,List.flatMap_nil,List.append_nil]
    rw[el,ef];have eT:(x.2++i).length+1=((x.2++i)++[c]).length:=(show ∀ l:List Int,l.length+1=(l++[c]).length from fun l=>by simp) _;have p:=(H.front 1 rfl).freeze;have h14:=iQ (p.ro 0 rfl);have h8:eG S8 v8 (aI E c) u:=p.ro 1 rfl;have h3:eG S3 v3 (bo E c) u:=p.ro 2 rfl;have h15:=iQ (p.ro 3 rfl);have Z:fB Y u (f++[(Value.slice Ax x.1.length D,Value.slice Bx x.2.length cx)]) (C++[x]):=p.ro 5 rfl;have e0:∀ (a b:Value × Value),f++[a,b]=(f++[a])++[b]:=fun a b=>by simp
    have e0':∀ (a b:a6 × List Int),C++[a,b]=(C++[a])++[b]:=fun a b=>by simp
    have hok:fB (Dj [own 3 1 (.slice t ((x.2++i).length+1) d14) ((x.2++i).length+1) (aA (x.2++i)++[Value.int .i64 c]),bh S8 v8 (aI E c),bh S3 v3 (bo E c),own 3 1 (.slice q (x.2++i).length d15) (x.2++i).length (aA (x.2++i)),bh X (.slice AE E.length cE) E,jl Y (f++[(Value.slice Ax x.1.length D,Value.slice Bx x.2.length cx)]) (C++[x]),sl Sb (.slice U best.length V) 1 best.length (aA best)]) u (f++[(v3,Value.slice q (x.2++i).length d15),(v8,Value.slice t ((x.2++i).length+1) d14)]) (C++[(bo E c,x.2++i),(aI E c,(x.2++i)++[c])]):=by
     rw[e0,e0'];refine fB.snoc (a:=(v8,_)) (x:=(aI E c,_)) (fB.snoc (a:=(v3,_)) (x:=(bo E c,_)) (Z.pop.1.mono fun g hg=>⟨_,.tail _ (.tail _ (.tail _ (.tail _ (.tail _ (.head _))))),hg⟩) (bh.mono h3 fun g hg=>⟨_,.tail _ (.tail _ (.head _)),hg⟩) rfl (sl.mono h15 fun g hg=>⟨_,.tail _ (.tail _ (.tail _ (.head _))),hg⟩)) (bh.mono h8 fun g hg=>⟨_,.tail _ (.head _),hg⟩) (B:=t) (c:=d14) (by rw[← eT]) ?_;rw[← eT,iC];exact sl.mono h14 fun g hg=>⟨_,.head _,hg⟩
    have H4:=p.pE (jl (Dj [own 3 1 (.slice t ((x.2++i).length+1) d14) ((x.2++i).length+1) (aA (x.2++i)++[Value.int .i64 c]),bh S8 v8 (aI E c),bh S3 v3 (bo E c),own 3 1 (.slice q (x.2++i).length d15) (x.2++i).length (aA (x.2++i)),bh X (.slice AE E.length cE) E,jl Y (f++[(Value.slice Ax x.1.length D,Value.slice Bx x.2.length cx)]) (C++[x]),sl Sb (.slice U best.length V) 1 best.length (aA best)]) (f++[(v3,Value.slice q (x.2++i).length d15),(v8,Value.slice t ((x.2++i).length+1) d14)]) (C++[(bo E c,x.2++i),(aI E c,(x.2++i)++[c])])) (fun g hg=>hg) hok;refine ⟨(Dj [own 3 1 (.slice t ((x.2++i).length+1) d14) ((x.2++i).length+1) (aA (x.2++i)++[Value.int .i64 c]),bh S8 v8 (aI E c),bh S3 v3 (bo E c),own 3 1 (.slice q (x.2++i).length d15) (x.2++i).length (aA (x.2++i)),bh X (.slice AE E.length cE) E,jl Y (f++[(Value.slice Ax x.1.length D,Value.slice Bx x.2.length cx)]) (C++[x]),sl Sb (.slice U best.length V) 1 best.length (aA best)]),Sb,H4.eD fun r hr=>?_⟩;rcases List.mem_cons.1 hr with rfl | hr
    ·exact .head _
    ·rw[List.mem_singleton] at hr;subst hr;exact .tail _ (.tail _ (.tail _ (.tail _ (.tail _ (.tail _ (.tail _ (.head _)))))))
   have o:∀ (A3:Option Addr) (l3 c3:Nat) (A8:Option Addr) (l8 c8:Nat) (t:Option Addr) (l14 d14:Nat),∀ v ∈ (nZ n A3 l3 c3 (.slice q (x.2++i).length d15) (.slice A8 l8 c8,.slice t l14 d14)).toList,v.oneCell'=true:=fun A3 l3 c3 A8 l8 c8 t l14 d14 v hv=>by
    simp[nZ,gN] at hv;rcases hv with rfl | rfl | rfl | rfl | rfl | rfl <;> rfl
   have hdl:=Fg E c;have hwlE:=sd E c;refine gH (fun u=>Hp w ab u [an g13 137 (mc n (.slice AE E.length cE))] [own 3 1 (.slice q (x.2++i).length d15) (x.2++i).length (aA (x.2++i)),bh X (.slice AE E.length cE) E,jl Y (f++[(Value.slice Ax x.1.length D,Value.slice Bx x.2.length cx)]) (C++[x]),sl Sb (.slice U best.length V) 1 best.length (aA best)])
    [([3,8,9,11,13,14,16,17],[0,1,2,4,6,7,10,12,3,5,8,9,11,13,14,15,16,17,18]),([3,8,9,13,11,14,16,17],[0,1,2,4,6,7,10,12,3,5,8,9,13,11,14,15,16,17,18]),([3,8,13,9,11,14,16,17],[0,1,2,4,6,7,10,12,3,5,8,13,9,11,14,15,16,17,18]),([3,9,8,11,13,14,16,17],[0,1,2,4,6,7,10,12,3,5,9,8,11,13,14,15,16,17,18]),([3,9,8,13,11,14,16,17],[0,1,2,4,6,7,10,12,3,5,9,8,13,11,14,15,16,17,18]),([3,9,13,8,11,14,16,17],[0,1,2,4,6,7,10,12,3,5,9,13,8,11,14,15,16,17,18]),([3,13,8,9,11,14,16,17],[0,1,2,4,6,7,10,12,3,5,13,8,9,11,14,15,16,17,18]),([3,13,9,8,11,14,16,17],[0,1,2,4,6,7,10,12,3,5,13,9,8,11,14,15,16,17,18]),([9,3,8,11,13,14,16,17],[0,1,2,4,6,7,10,12,9,3,5,8,11,13,14,15,16,17,18]),([9,3,8,13,11,14,16,17],[0,1,2,4,6,7,10,12,9,3,5,8,13,11,14,15,16,17,18]),([9,3,13,8,11,14,16,17],[0,1,2,4,6,7,10,12,9,3,5,13,8,11,14,15,16,17,18]),([9,13,3,8,11,14,16,17],[0,1,2,4,6,7,10,12,9,13,3,5,8,11,14,15,16,17,18]),([13,3,8,9,11,14,16,17],[0,1,2,4,6,7,10,12,13,3,5,8,9,11,14,15,16,17,18]),([13,3,9,8,11,14,16,17],[0,1,2,4,6,7,10,12,13,3,5,9,8,11,14,15,16,17,18]),([13,9,3,8,11,14,16,17],[0,1,2,4,6,7,10,12,13,9,3,5,8,11,14,15,16,17,18])] eN (by kernel_rfl) ((H.front 0 rfl).only.same (aS.drew _)) ?_
   replace H:=(H.same (aS.drew _));intro y hy;simp only[List.mem_cons,List.not_mem_nil,or_false] at hy;rcases hy with rfl | rfl | rfl | rfl | rfl | rfl | rfl | rfl | rfl | rfl | rfl | rfl | rfl | rfl | rfl
   ·refine quiet _ (fun w H=>H.ai 0 rfl aN az af) ?_;refine quiet _ (fun w H=>H.ai 0 rfl aN az af) ?_;refine aj (pD n E c _ X _ (by omega) z (H.ro 1 rfl) (H.rlt _ (.tail _ (.head _)))) ?_;rintro _ w39 ⟨v3,rfl,I⟩;obtain ⟨S3,p,_⟩:=H.gv (.tail _ (.head _)) I;clear H;have H:=p;clear p;obtain ⟨A3,c3,Q⟩:=(H.ro 0 rfl).form;subst Q;refine ⟨.inl (H.front 0 rfl).only.ao,?_⟩;refine quiet _ (fun w H=>bK af) ?_;refine aj (o5 n E c _ X _ (by omega) z (H.ro 2 rfl) (H.rlt _ (.tail _ (.tail _ (.head _))))) ?_;rintro _ w41 ⟨v8,rfl,I⟩;obtain ⟨S8,p,_⟩:=H.gv (.tail _ (.tail _ (.head _))) I;clear H;have H:=p;clear p;obtain ⟨A8,c8,T⟩:=(H.ro 0 rfl).form;subst T;refine ⟨.inl (H.front 0 rfl).only.ao.ao,?_⟩;refine Hp.dI H dU ?_;clear H;intro g9 w42 H;refine ⟨.inl (H.front 1 rfl).only.ao.ao,?_⟩;refine Hp.ct H 0 dU rfl (bB (H.ro 2 rfl)) (de _) (by omega) (by omega) ?_;clear H;intro A11 d11 w43 H;refine ⟨.inl (H.front 1 rfl).only.ao.ao,?_⟩;refine H.aY dU rfl ?_;clear H;intro gc w44 H;refine ⟨.inl (H.front 2 rfl).only.ao.ao,?_⟩;refine H.aG 1 0 dU rfl rfl rfl (fun u hu=>by rw[List.mem_singleton.1 hu];rfl) (by omega) (by omega) ?_;clear H;intro t d14 w45 H;refine ⟨.inl (H.front 2 rfl).only.ao.ao,?_⟩;refine quiet _ (fun w H=>bK af) ?_;refine H.bk ik (cs:=nZ n A3 (bo E c).length c3 (.slice q (x.2++i).length d15) (.slice A8 (aI E c).length c8,.slice t ((x.2++i).length+1) d14)) (by decide) (by decide) (by kernel_rfl) ?_;clear H;intro g16 w47 H;refine ⟨.inl (H.front 3 rfl).only.ao.ao,?_⟩;refine H.aG 4 0 ik rfl rfl rfl (o _ _ _ _ _ _ _ _ _) (by omega) (by omega) ?_;clear H;intro A17 d17 w48 H;refine ⟨.inl (H.front 3 rfl).only.ao.ao,?_⟩;obtain ⟨S',O,H'⟩:=M _ _ _ _ _ _ _ _ _ ((((H.front 5 rfl).front 3 rfl).front 5 rfl).j9);exact ⟨(_,_,_,_,best,U,V,k+1,S',O),K,⟨by simp;rfl,rfl,rfl,trivial⟩,⟨⟨F,by omega⟩,J⟩,H'⟩
   ·refine quiet _ (fun w H=>H.ai 0 rfl aN az af) ?_;refine quiet _ (fun w H=>H.ai 0 rfl aN az af) ?_;refine aj (pD n E c _ X _ (by omega) z (H.ro 1 rfl) (H.rlt _ (.tail _ (.head _)))) ?_;rintro _ w39 ⟨v3,rfl,I⟩;obtain ⟨S3,p,_⟩:=H.gv (.tail _ (.head _)) I;clear H;have H:=p;clear p;obtain ⟨A3,c3,Q⟩:=(H.ro 0 rfl).form;subst Q;refine ⟨.inl (H.front 0 rfl).only.ao,?_⟩;refine quiet _ (fun w H=>bK af) ?_;refine aj (o5 n E c _ X _ (by omega) z (H.ro 2 rfl) (H.rlt _ (.tail _ (.tail _ (.head _))))) ?_;rintro _ w41 ⟨v8,rfl,I⟩;obtain ⟨S8,p,_⟩:=H.gv (.tail _ (.tail _ (.head _))) I;clear H;have H:=p;clear p;obtain ⟨A8,c8,T⟩:=(H.ro 0 rfl).form;subst T;refine ⟨.inl (H.front 0 rfl).only.ao.ao,?_⟩;refine Hp.dI H dU ?_;clear H;intro g9 w42 H;refine ⟨.inl (H.front 1 rfl).only.ao.ao,?_⟩;refine H.aY dU rfl ?_;clear H;intro gc w43 H;refine ⟨.inl (H.front 2 rfl).only.ao.ao,?_⟩;refine Hp.ct H 1 dU rfl (bB (H.ro 2 rfl)) (de _) (by omega) (by omega) ?_;clear H;intro A11 d11 w44 H;refine ⟨.inl (H.front 2 rfl).only.ao.ao,?_⟩;refine H.aG 1 0 dU rfl rfl rfl (fun u hu=>by rw[List.mem_singleton.1 hu];rfl) (by omega) (by omega) ?_;clear H;intro t d14 w45 H;refine ⟨.inl (H.front 2 rfl).only.ao.ao,?_⟩;refine quiet _ (fun w H=>bK af) ?_;refine H.bk ik (cs:=nZ n A3 (bo E c).length c3 (.slice q (x.2++i).length d15) (.slice A8 (aI E c).length c8,.slice t ((x.2++i).length+1) d14)) (by decide) (by decide) (by kernel_rfl) ?_;clear H;intro g16 w47 H;refine ⟨.inl (H.front 3 rfl).only.ao.ao,?_⟩;refine H.aG 4 0 ik rfl rfl rfl (o _ _ _ _ _ _ _ _ _) (by omega) (by omega) ?_;clear H;intro A17 d17 w48 H;refine ⟨.inl (H.front 3 rfl).only.ao.ao,?_⟩;obtain ⟨S',O,H'⟩:=M _ _ _ _ _ _ _ _ _ ((((H.front 5 rfl).front 3 rfl).front 5 rfl).j9);exact ⟨(_,_,_,_,best,U,V,k+1,S',O),K,⟨by simp;rfl,rfl,rfl,trivial⟩,⟨⟨F,by omega⟩,J⟩,H'⟩
   ·refine quiet _ (fun w H=>H.ai 0 rfl aN az af) ?_;refine quiet _ (fun w H=>H.ai 0 rfl aN az af) ?_;refine aj (pD n E c _ X _ (by omega) z (H.ro 1 rfl) (H.rlt _ (.tail _ (.head _)))) ?_;rintro _ w39 ⟨v3,rfl,I⟩;obtain ⟨S3,p,_⟩:=H.gv (.tail _ (.head _)) I;clear H;have H:=p;clear p;obtain ⟨A3,c3,Q⟩:=(H.ro 0 rfl).form;subst Q;refine ⟨.inl (H.front 0 rfl).only.ao,?_⟩;refine quiet _ (fun w H=>bK af) ?_;refine aj (o5 n E c _ X _ (by omega) z (H.ro 2 rfl) (H.rlt _ (.tail _ (.tail _ (.head _))))) ?_;rintro _ w41 ⟨v8,rfl,I⟩;obtain ⟨S8,p,_⟩:=H.gv (.tail _ (.tail _ (.head _))) I;clear H;have H:=p;clear p;obtain ⟨A8,c8,T⟩:=(H.ro 0 rfl).form;subst T;refine ⟨.inl (H.front 0 rfl).only.ao.ao,?_⟩;refine H.aY dU rfl ?_;clear H;intro gc w42 H;refine ⟨.inl (H.front 1 rfl).only.ao.ao,?_⟩;refine Hp.dI H dU ?_;clear H;intro g9 w43 H;refine ⟨.inl (H.front 2 rfl).only.ao.ao,?_⟩;refine Hp.ct H 0 dU rfl (bB (H.ro 2 rfl)) (de _) (by omega) (by omega) ?_;clear H;intro A11 d11 w44 H;refine ⟨.inl (H.front 2 rfl).only.ao.ao,?_⟩;refine H.aG 0 1 dU rfl rfl rfl (fun u hu=>by rw[List.mem_singleton.1 hu];rfl) (by omega) (by omega) ?_;clear H;intro t d14 w45 H;refine ⟨.inl (H.front 2 rfl).only.ao.ao,?_⟩;refine quiet _ (fun w H=>bK af) ?_;refine H.bk ik (cs:=nZ n A3 (bo E c).length c3 (.slice q (x.2++i).length d15) (.slice A8 (aI E c).length c8,.slice t ((x.2++i).length+1) d14)) (by decide) (by decide) (by kernel_rfl) ?_;clear H;intro g16 w47 H;refine ⟨.inl (H.front 3 rfl).only.ao.ao,?_⟩;refine H.aG 4 0 ik rfl rfl rfl (o _ _ _ _ _ _ _ _ _) (by omega) (by omega) ?_;clear H;intro A17 d17 w48 H;refine ⟨.inl (H.front 3 rfl).only.ao.ao,?_⟩;obtain ⟨S',O,H'⟩:=M _ _ _ _ _ _ _ _ _ ((((H.front 5 rfl).front 2 rfl).front 5 rfl).j9);exact ⟨(_,_,_,_,best,U,V,k+1,S',O),K,⟨by simp;rfl,rfl,rfl,trivial⟩,⟨⟨F,by omega⟩,J⟩,H'⟩
   ·refine quiet _ (fun w H=>H.ai 0 rfl aN az af) ?_;refine quiet _ (fun w H=>H.ai 0 rfl aN az af) ?_;refine aj (pD n E c _ X _ (by omega) z (H.ro 1 rfl) (H.rlt _ (.tail _ (.head _)))) ?_;rintro _ w39 ⟨v3,rfl,I⟩;obtain ⟨S3,p,_⟩:=H.gv (.tail _ (.head _)) I;clear H;have H:=p;clear p;obtain ⟨A3,c3,Q⟩:=(H.ro 0 rfl).form;subst Q;refine ⟨.inl (H.front 0 rfl).only.ao,?_⟩;refine quiet _ (fun w H=>bK af) ?_;refine Hp.dI H dU ?_;clear H;intro g9 w41 H;refine ⟨.inl (H.front 1 rfl).only.ao,?_⟩;refine aj (o5 n E c _ X _ (by omega) z (H.ro 2 rfl) (H.rlt _ (.tail _ (.tail _ (.head _))))) ?_;rintro _ w42 ⟨v8,rfl,I⟩;obtain ⟨S8,p,_⟩:=H.gv (.tail _ (.tail _ (.head _))) I;clear H;have H:=p;clear p;obtain ⟨A8,c8,T⟩:=(H.ro 0 rfl).form;subst T;refine ⟨.inl (H.front 1 rfl).only.ao.ao,?_⟩;refine Hp.ct H 0 dU rfl (bB (H.ro 2 rfl)) (de _) (by omega) (by omega) ?_;clear H;intro A11 d11 w43 H;refine ⟨.inl (H.front 1 rfl).only.ao.ao,?_⟩;refine H.aY dU rfl ?_;clear H;intro gc w44 H;refine ⟨.inl (H.front 2 rfl).only.ao.ao,?_⟩;refine H.aG 1 0 dU rfl rfl rfl (fun u hu=>by rw[List.mem_singleton.1 hu];rfl) (by omega) (by omega) ?_;clear H;intro t d14 w45 H;refine ⟨.inl (H.front 2 rfl).only.ao.ao,?_⟩;refine quiet _ (fun w H=>bK af) ?_;refine H.bk ik (cs:=nZ n A3 (bo E c).length c3 (.slice q (x.2++i).length d15) (.slice A8 (aI E c).length c8,.slice t ((x.2++i).length+1) d14)) (by decide) (by decide) (by kernel_rfl) ?_;clear H;intro g16 w47 H;refine ⟨.inl (H.front 3 rfl).only.ao.ao,?_⟩;refine H.aG 4 0 ik rfl rfl rfl (o _ _ _ _ _ _ _ _ _) (by omega) (by omega) ?_;clear H;intro A17 d17 w48 H;refine ⟨.inl (H.front 3 rfl).only.ao.ao,?_⟩;obtain ⟨S',O,H'⟩:=M _ _ _ _ _ _ _ _ _ ((((H.front 5 rfl).front 3 rfl).front 5 rfl).j9);exact ⟨(_,_,_,_,best,U,V,k+1,S',O),K,⟨by simp;rfl,rfl,rfl,trivial⟩,⟨⟨F,by omega⟩,J⟩,H'⟩
   ·refine quiet _ (fun w H=>H.ai 0 rfl aN az af) ?_;refine quiet _ (fun w H=>H.ai 0 rfl aN az af) ?_;refine aj (pD n E c _ X _ (by omega) z (H.ro 1 rfl) (H.rlt _ (.tail _ (.head _)))) ?_;rintro _ w39 ⟨v3,rfl,I⟩;obtain ⟨S3,p,_⟩:=H.gv (.tail _ (.head _)) I;clear H;have H:=p;clear p;obtain ⟨A3,c3,Q⟩:=(H.ro 0 rfl).form;subst Q;refine ⟨.inl (H.front 0 rfl).only.ao,?_⟩;refine quiet _ (fun w H=>bK af) ?_;refine Hp.dI H dU ?_;clear H;intro g9 w41 H;refine ⟨.inl (H.front 1 rfl).only.ao,?_⟩;refine aj (o5 n E c _ X _ (by omega) z (H.ro 2 rfl) (H.rlt _ (.tail _ (.tail _ (.head _))))) ?_;rintro _ w42 ⟨v8,rfl,I⟩;obtain ⟨S8,p,_⟩:=H.gv (.tail _ (.tail _ (.head _))) I;clear H;have H:=p;clear p;obtain ⟨A8,c8,T⟩:=(H.ro 0 rfl).form;subst T;refine ⟨.inl (H.front 1 rfl).only.ao.ao,?_⟩;refine H.aY dU rfl ?_;clear H;intro gc w43 H;refine ⟨.inl (H.front 2 rfl).only.ao.ao,?_⟩;refine Hp.ct H 1 dU rfl (bB (H.ro 2 rfl)) (de _) (by omega) (by omega) ?_;clear H;intro A11 d11 w44 H;refine ⟨.inl (H.front 2 rfl).only.ao.ao,?_⟩;refine H.aG 1 0 dU rfl rfl rfl (fun u hu=>by rw[List.mem_singleton.1 hu];rfl) (by omega) (by omega) ?_;clear H;intro t d14 w45 H;refine ⟨.inl (H.front 2 rfl).only.ao.ao,?_⟩;refine quiet _ (fun w H=>bK af) ?_;refine H.bk ik (cs:=nZ n A3 (bo E c).length c3 (.slice q (x.2++i).length d15) (.slice A8 (aI E c).length c8,.slice t ((x.2++i).length+1) d14)) (by decide) (by decide) (by kernel_rfl) ?_;clear H;intro g16 w47 H;refine ⟨.inl (H.front 3 rfl).only.ao.ao,?_⟩;refine H.aG 4 0 ik rfl rfl rfl (o _ _ _ _ _ _ _ _ _) (by omega) (by omega) ?_;clear H;intro A17 d17 w48 H;refine ⟨.inl (H.front 3 rfl).only.ao.ao,?_⟩;obtain ⟨S',O,H'⟩:=M _ _ _ _ _ _ _ _ _ ((((H.front 5 rfl).front 3 rfl).front 5 rfl).j9);exact ⟨(_,_,_,_,best,U,V,k+1,S',O),K,⟨by simp;rfl,rfl,rfl,trivial⟩,⟨⟨F,by omega⟩,J⟩,H'⟩
   ·refine quiet _ (fun w H=>H.ai 0 rfl aN az af) ?_;refine quiet _ (fun w H=>H.ai 0 rfl aN az af) ?_;refine aj (pD n E c _ X _ (by omega) z (H.ro 1 rfl) (H.rlt _ (.tail _ (.head _)))) ?_;rintro _ w39 ⟨v3,rfl,I⟩;obtain ⟨S3,p,_⟩:=H.gv (.tail _ (.head _)) I;clear H;have H:=p;clear p;obtain ⟨A3,c3,Q⟩:=(H.ro 0 rfl).form;subst Q;refine ⟨.inl (H.front 0 rfl).only.ao,?_⟩;refine quiet _ (fun w H=>bK af) ?_;refine Hp.dI H dU ?_;clear H;intro g9 w41 H;refine ⟨.inl (H.front 1 rfl).only.ao,?_⟩;refine H.aY dU rfl ?_;clear H;intro gc w42 H;refine ⟨.inl (H.front 2 rfl).only.ao,?_⟩;refine aj (o5 n E c _ X _ (by omega) z (H.ro 2 rfl) (H.rlt _ (.tail _ (.tail _ (.head _))))) ?_;rintro _ w43 ⟨v8,rfl,I⟩;obtain ⟨S8,p,_⟩:=H.gv (.tail _ (.tail _ (.head _))) I;clear H;have H:=p;clear p;obtain ⟨A8,c8,T⟩:=(H.ro 0 rfl).form;subst T;refine ⟨.inl (H.front 2 rfl).only.ao.ao,?_⟩;refine Hp.ct H 1 dU rfl (bB (H.ro 2 rfl)) (de _) (by omega) (by omega) ?_;clear H;intro A11 d11 w44 H;refine ⟨.inl (H.front 2 rfl).only.ao.ao,?_⟩;refine H.aG 1 0 dU rfl rfl rfl (fun u hu=>by rw[List.mem_singleton.1 hu];rfl) (by omega) (by omega) ?_;clear H;intro t d14 w45 H;refine ⟨.inl (H.front 2 rfl).only.ao.ao,?_⟩;refine quiet _ (fun w H=>bK af) ?_;refine H.bk ik (cs:=nZ n A3 (bo E c).length c3 (.slice q (x.2++i).length d15) (.slice A8 (aI E c).length c8,.slice t ((x.2++i).length+1) d14)) (by decide) (by decide) (by kernel_rfl) ?_;clear H;intro g16 w47 H;refine ⟨.inl (H.front 3 rfl).only.ao.ao,?_⟩;refine H.aG 4 0 ik rfl rfl rfl (o _ _ _ _ _ _ _ _ _) (by omega) (by omega) ?_;clear H;intro A17 d17 w48 H;refine ⟨.inl (H.front 3 rfl).only.ao.ao,?_⟩;obtain ⟨S',O,H'⟩:=M _ _ _ _ _ _ _ _ _ ((((H.front 5 rfl).front 3 rfl).front 5 rfl).j9);exact ⟨(_,_,_,_,best,U,V,k+1,S',O),K,⟨by simp;rfl,rfl,rfl,trivial⟩,⟨⟨F,by omega⟩,J⟩,H'⟩
   ·refine quiet _ (fun w H=>H.ai 0 rfl aN az af) ?_;refine quiet _ (fun w H=>H.ai 0 rfl aN az af) ?_;refine aj (pD n E c _ X _ (by omega) z (H.ro 1 rfl) (H.rlt _ (.tail _ (.head _)))) ?_;rintro _ w39 ⟨v3,rfl,I⟩;obtain ⟨S3,p,_⟩:=H.gv (.tail _ (.head _)) I;clear H;have H:=p;clear p;obtain ⟨A3,c3,Q⟩:=(H.ro 0 rfl).form;subst Q;refine ⟨.inl (H.front 0 rfl).only.ao,?_⟩;refine quiet _ (fun w H=>bK af) ?_;refine H.aY dU rfl ?_;clear H;intro gc w41 H;refine ⟨.inl (H.front 1 rfl).only.ao,?_⟩;refine aj (o5 n E c _ X _ (by omega) z (H.ro 2 rfl) (H.rlt _ (.tail _ (.tail _ (.head _))))) ?_;rintro _ w42 ⟨v8,rfl,I⟩;obtain ⟨S8,p,_⟩:=H.gv (.tail _ (.tail _ (.head _))) I;clear H;have H:=p;clear p;obtain ⟨A8,c8,T⟩:=(H.ro 0 rfl).form;subst T;refine ⟨.inl (H.front 1 rfl).only.ao.ao,?_⟩;refine Hp.dI H dU ?_;clear H;intro g9 w43 H;refine ⟨.inl (H.front 2 rfl).only.ao.ao,?_⟩;refine Hp.ct H 0 dU rfl (bB (H.ro 2 rfl)) (de _) (by omega) (by omega) ?_;clear H;intro A11 d11 w44 H;refine ⟨.inl (H.front 2 rfl).only.ao.ao,?_⟩;refine H.aG 0 1 dU rfl rfl rfl (fun u hu=>by rw[List.mem_singleton.1 hu];rfl) (by omega) (by omega) ?_;clear H;intro t d14 w45 H;refine ⟨.inl (H.front 2 rfl).only.ao.ao,?_⟩;refine quiet _ (fun w H=>bK af) ?_;refine H.bk ik (cs:=nZ n A3 (bo E c).length c3 (.slice q (x.2++i).length d15) (.slice A8 (aI E c).length c8,.slice t ((x.2++i).length+1) d14)) (by decide) (by decide) (by kernel_rfl) ?_;clear H;intro g16 w47 H;refine ⟨.inl (H.front 3 rfl).only.ao.ao,?_⟩;refine H.aG 4 0 ik rfl rfl rfl (o _ _ _ _ _ _ _ _ _) (by omega) (by omega) ?_;clear H;intro A17 d17 w48 H;refine ⟨.inl (H.front 3 rfl).only.ao.ao,?_⟩;obtain ⟨S',O,H'⟩:=M _ _ _ _ _ _ _ _ _ ((((H.front 5 rfl).front 2 rfl).front 5 rfl).j9);exact ⟨(_,_,_,_,best,U,V,k+1,S',O),K,⟨by simp;rfl,rfl,rfl,trivial⟩,⟨⟨F,by omega⟩,J⟩,H'⟩
   ·refine quiet _ (fun w H=>H.ai 0 rfl aN az af) ?_;refine quiet _ (fun w H=>H.ai 0 rfl aN az af) ?_;refine aj (pD n E c _ X _ (by omega) z (H.ro 1 rfl) (H.rlt _ (.tail _ (.head _)))) ?_;rintro _ w39 ⟨v3,rfl,I⟩;obtain ⟨S3,p,_⟩:=H.gv (.tail _ (.head _)) I;clear H;have H:=p;clear p;obtain ⟨A3,c3,Q⟩:=(H.ro 0 rfl).form;subst Q;refine ⟨.inl (H.front 0 rfl).only.ao,?_⟩;refine quiet _ (fun w H=>bK af) ?_;refine H.aY dU rfl ?_;clear H;intro gc w41 H;refine ⟨.inl (H.front 1 rfl).only.ao,?_⟩;refine Hp.dI H dU ?_;clear H;intro g9 w42 H;refine ⟨.inl (H.front 2 rfl).only.ao,?_⟩;refine aj (o5 n E c _ X _ (by omega) z (H.ro 2 rfl) (H.rlt _ (.tail _ (.tail _ (.head _))))) ?_;rintro _ w43 ⟨v8,rfl,I⟩;obtain ⟨S8,p,_⟩:=H.gv (.tail _ (.tail _ (.head _))) I;clear H;have H:=p;clear p;obtain ⟨A8,c8,T⟩:=(H.ro 0 rfl).form;subst T;refine ⟨.inl (H.front 2 rfl).only.ao.ao,?_⟩;refine Hp.ct H 0 dU rfl (bB (H.ro 2 rfl)) (de _) (by omega) (by omega) ?_;clear H;intro A11 d11 w44 H;refine ⟨.inl (H.front 2 rfl).only.ao.ao,?_⟩;refine H.aG 0 1 dU rfl rfl rfl (fun u hu=>by rw[List.mem_singleton.1 hu];rfl) (by omega) (by omega) ?_;clear H;intro t d14 w45 H;refine ⟨.inl (H.front 2 rfl).only.ao.ao,?_⟩;refine quiet _ (fun w H=>bK af) ?_;refine H.bk ik (cs:=nZ n A3 (bo E c).length c3 (.slice q (x.2++i).length d15) (.slice A8 (aI E c).length c8,.slice t ((x.2++i).length+1) d14)) (by decide) (by decide) (by kernel_rfl) ?_;clear H;intro g16 w47 H;refine ⟨.inl (H.front 3 rfl).only.ao.ao,?_⟩;refine H.aG 4 0 ik rfl rfl rfl (o _ _ _ _ _ _ _ _ _) (by omega) (by omega) ?_;clear H;intro A17 d17 w48 H;refine ⟨.inl (H.front 3 rfl).only.ao.ao,?_⟩;obtain ⟨S',O,H'⟩:=M _ _ _ _ _ _ _ _ _ ((((H.front 5 rfl).front 2 rfl).front 5 rfl).j9);exact ⟨(_,_,_,_,best,U,V,k+1,S',O),K,⟨by simp;rfl,rfl,rfl,trivial⟩,⟨⟨F,by omega⟩,J⟩,H'⟩
   ·refine quiet _ (fun w H=>H.ai 0 rfl aN az af) ?_;refine quiet _ (fun w H=>H.ai 0 rfl aN az af) ?_;refine Hp.dI H dU ?_;clear H;intro g9 w39 H;refine ⟨.inl (H.front 1 rfl).only,?_⟩;refine aj (pD n E c _ X _ (by omega) z (H.ro 1 rfl) (H.rlt _ (.tail _ (.head _)))) ?_;rintro _ w40 ⟨v3,rfl,I⟩;obtain ⟨S3,p,_⟩:=H.gv (.tail _ (.head _)) I;clear H;have H:=p;clear p;obtain ⟨A3,c3,Q⟩:=(H.ro 0 rfl).form;subst Q;refine ⟨.inl (H.front 1 rfl).only.ao,?_⟩;refine quiet _ (fun w H=>bK af) ?_;refine aj (o5 n E c _ X _ (by omega) z (H.ro 2 rfl) (H.rlt _ (.tail _ (.tail _ (.head _))))) ?_;rintro _ w42 ⟨v8,rfl,I⟩;obtain ⟨S8,p,_⟩:=H.gv (.tail _ (.tail _ (.head _))) I;clear H;have H:=p;clear p;obtain ⟨A8,c8,T⟩:=(H.ro 0 rfl).form;subst T;refine ⟨.inl (H.front 1 rfl).only.ao.ao,?_⟩;refine Hp.ct H 0 dU rfl (bB (H.ro 2 rfl)) (de _) (by omega) (by omega) ?_;clear H;intro A11 d11 w43 H;refine ⟨.inl (H.front 1 rfl).only.ao.ao,?_⟩;refine H.aY dU rfl ?_;clear H;intro gc w44 H;refine ⟨.inl (H.front 2 rfl).only.ao.ao,?_⟩;refine H.aG 1 0 dU rfl rfl rfl (fun u hu=>by rw[List.mem_singleton.1 hu];rfl) (by omega) (by omega) ?_;clear H;intro t d14 w45 H;refine ⟨.inl (H.front 2 rfl).only.ao.ao,?_⟩;refine quiet _ (fun w H=>bK af) ?_;refine H.bk ik (cs:=nZ n A3 (bo E c).length c3 (.slice q (x.2++i).length d15) (.slice A8 (aI E c).length c8,.slice t ((x.2++i).length+1) d14)) (by decide) (by decide) (by kernel_rfl) ?_;clear H;intro g16 w47 H;refine ⟨.inl (H.front 3 rfl).only.ao.ao,?_⟩;refine H.aG 4 0 ik rfl rfl rfl (o _ _ _ _ _ _ _ _ _) (by omega) (by omega) ?_;clear H;intro A17 d17 w48 H;refine ⟨.inl (H.front 3 rfl).only.ao.ao,?_⟩;obtain ⟨S',O,H'⟩:=M _ _ _ _ _ _ _ _ _ ((((H.front 5 rfl).front 3 rfl).front 5 rfl).j9);exact ⟨(_,_,_,_,best,U,V,k+1,S',O),K,⟨by simp;rfl,rfl,rfl,trivial⟩,⟨⟨F,by omega⟩,J⟩,H'⟩
   ·refine quiet _ (fun w H=>H.ai 0 rfl aN az af) ?_;refine quiet _ (fun w H=>H.ai 0 rfl aN az af) ?_;refine Hp.dI H dU ?_;clear H;intro g9 w39 H;refine ⟨.inl (H.front 1 rfl).only,?_⟩;refine aj (pD n E c _ X _ (by omega) z (H.ro 1 rfl) (H.rlt _ (.tail _ (.head _)))) ?_;rintro _ w40 ⟨v3,rfl,I⟩;obtain ⟨S3,p,_⟩:=H.gv (.tail _ (.head _)) I;clear H;have H:=p;clear p;obtain ⟨A3,c3,Q⟩:=(H.ro 0 rfl).form;subst Q;refine ⟨.inl (H.front 1 rfl).only.ao,?_⟩;refine quiet _ (fun w H=>bK af) ?_;refine aj (o5 n E c _ X _ (by omega) z (H.ro 2 rfl) (H.rlt _ (.tail _ (.tail _ (.head _))))) ?_;rintro _ w42 ⟨v8,rfl,I⟩;obtain ⟨S8,p,_⟩:=H.gv (.tail _ (.tail _ (.head _))) I;clear H;have H:=p;clear p;obtain ⟨A8,c8,T⟩:=(H.ro 0 rfl).form;subst T;refine ⟨.inl (H.front 1 rfl).only.ao.ao,?_⟩;refine H.aY dU rfl ?_;clear H;intro gc w43 H;refine ⟨.inl (H.front 2 rfl).only.ao.ao,?_⟩;refine Hp.ct H 1 dU rfl (bB (H.ro 2 rfl)) (de _) (by omega) (by omega) ?_;clear H;intro A11 d11 w44 H;refine ⟨.inl (H.front 2 rfl).only.ao.ao,?_⟩;refine H.aG 1 0 dU rfl rfl rfl (fun u hu=>by rw[List.mem_singleton.1 hu];rfl) (by omega) (by omega) ?_;clear H;intro t d14 w45 H;refine ⟨.inl (H.front 2 rfl).only.ao.ao,?_⟩;refine quiet _ (fun w H=>bK af) ?_;refine H.bk ik (cs:=nZ n A3 (bo E c).length c3 (.slice q (x.2++i).length d15) (.slice A8 (aI E c).length c8,.slice t ((x.2++i).length+1) d14)) (by decide) (by decide) (by kernel_rfl) ?_;clear H;intro g16 w47 H;refine ⟨.inl (H.front 3 rfl).only.ao.ao,?_⟩;refine H.aG 4 0 ik rfl rfl rfl (o _ _ _ _ _ _ _ _ _) (by omega) (by omega) ?_;clear H;intro A17 d17 w48 H;refine ⟨.inl (H.front 3 rfl).only.ao.ao,?_⟩;obtain ⟨S',O,H'⟩:=M _ _ _ _ _ _ _ _ _ ((((H.front 5 rfl).front 3 rfl).front 5 rfl).j9);exact ⟨(_,_,_,_,best,U,V,k+1,S',O),K,⟨by simp;rfl,rfl,rfl,trivial⟩,⟨⟨F,by omega⟩,J⟩,H'⟩
   ·refine quiet _ (fun w H=>H.ai 0 rfl aN az af) ?_;refine quiet _ (fun w H=>H.ai 0 rfl aN az af) ?_;refine Hp.dI H dU ?_;clear H;intro g9 w39 H;refine ⟨.inl (H.front 1 rfl).only,?_⟩;refine aj (pD n E c _ X _ (by omega) z (H.ro 1 rfl) (H.rlt _ (.tail _ (.head _)))) ?_;rintro _ w40 ⟨v3,rfl,I⟩;obtain ⟨S3,p,_⟩:=H.gv (.tail _ (.head _)) I;clear H;have H:=p;clear p;obtain ⟨A3,c3,Q⟩:=(H.ro 0 rfl).form;subst Q;refine ⟨.inl (H.front 1 rfl).only.ao,?_⟩;refine quiet _ (fun w H=>bK af) ?_;refine H.aY dU rfl ?_;clear H;intro gc w42 H;refine ⟨.inl (H.front 2 rfl).only.ao,?_⟩;refine aj (o5 n E c _ X _ (by omega) z (H.ro 2 rfl) (H.rlt _ (.tail _ (.tail _ (.head _))))) ?_;rintro _ w43 ⟨v8,rfl,I⟩;obtain ⟨S8,p,_⟩:=H.gv (.tail _ (.tail _ (.head _))) I;clear H;have H:=p;clear p;obtain ⟨A8,c8,T⟩:=(H.ro 0 rfl).form;subst T;refine ⟨.inl (H.front 2 rfl).only.ao.ao,?_⟩;refine Hp.ct H 1 dU rfl (bB (H.ro 2 rfl)) (de _) (by omega) (by omega) ?_;clear H;intro A11 d11 w44 H;refine ⟨.inl (H.front 2 rfl).only.ao.ao,?_⟩;refine H.aG 1 0 dU rfl rfl rfl (fun u hu=>by rw[List.mem_singleton.1 hu];rfl) (by omega) (by omega) ?_;clear H;intro t d14 w45 H;refine ⟨.inl (H.front 2 rfl).only.ao.ao,?_⟩;refine quiet _ (fun w H=>bK af) ?_;refine H.bk ik (cs:=nZ n A3 (bo E c).length c3 (.slice q (x.2++i).length d15) (.slice A8 (aI E c).length c8,.slice t ((x.2++i).length+1) d14)) (by decide) (by decide) (by kernel_rfl) ?_;clear H;intro g16 w47 H;refine ⟨.inl (H.front 3 rfl).only.ao.ao,?_⟩;refine H.aG 4 0 ik rfl rfl rfl (o _ _ _ _ _ _ _ _ _) (by omega) (by omega) ?_;clear H;intro A17 d17 w48 H;refine ⟨.inl (H.front 3 rfl).only.ao.ao,?_⟩;obtain ⟨S',O,H'⟩:=M _ _ _ _ _ _ _ _ _ ((((H.front 5 rfl).front 3 rfl).front 5 rfl).j9);exact ⟨(_,_,_,_,best,U,V,k+1,S',O),K,⟨by simp;rfl,rfl,rfl,trivial⟩,⟨⟨F,by omega⟩,J⟩,H'⟩
   ·refine quiet _ (fun w H=>H.ai 0 rfl aN az af) ?_;refine quiet _ (fun w H=>H.ai 0 rfl aN az af) ?_;refine Hp.dI H dU ?_;clear H;intro g9 w39 H;refine ⟨.inl (H.front 1 rfl).only,?_⟩;refine H.aY dU rfl ?_;clear H;intro gc w40 H;refine ⟨.inl (H.front 2 rfl).only,?_⟩;refine aj (pD n E c _ X _ (by omega) z (H.ro 1 rfl) (H.rlt _ (.tail _ (.head _)))) ?_;rintro _ w41 ⟨v3,rfl,I⟩;obtain ⟨S3,p,_⟩:=H.gv (.tail _ (.head _)) I;clear H;have H:=p;clear p;obtain ⟨A3,c3,Q⟩:=(H.ro 0 rfl).form;subst Q;refine ⟨.inl (H.front 2 rfl).only.ao,?_⟩;refine quiet _ (fun w H=>bK af) ?_;refine aj (o5 n E c _ X _ (by omega) z (H.ro 2 rfl) (H.rlt _ (.tail _ (.tail _ (.head _))))) ?_;rintro _ w43 ⟨v8,rfl,I⟩;obtain ⟨S8,p,_⟩:=H.gv (.tail _ (.tail _ (.head _))) I;clear H;have H:=p;clear p;obtain ⟨A8,c8,T⟩:=(H.ro 0 rfl).form;subst T;refine ⟨.inl (H.front 2 rfl).only.ao.ao,?_⟩;refine Hp.ct H 1 dU rfl (bB (H.ro 2 rfl)) (de _) (by omega) (by omega) ?_;clear H;intro A11 d11 w44 H;refine ⟨.inl (H.front 2 rfl).only.ao.ao,?_⟩;refine H.aG 1 0 dU rfl rfl rfl (fun u hu=>by rw[List.mem_singleton.1 hu];rfl) (by omega) (by omega) ?_;clear H;intro t d14 w45 H;refine ⟨.inl (H.front 2 rfl).only.ao.ao,?_⟩;refine quiet _ (fun w H=>bK af) ?_;refine H.bk ik (cs:=nZ n A3 (bo E c).length c3 (.slice q (x.2++i).length d15) (.slice A8 (aI E c).length c8,.slice t ((x.2++i).length+1) d14)) (by decide) (by decide) (by kernel_rfl) ?_;clear H;intro g16 w47 H;refine ⟨.inl (H.front 3 rfl).only.ao.ao,?_⟩;refine H.aG 4 0 ik rfl rfl rfl (o _ _ _ _ _ _ _ _ _) (by omega) (by omega) ?_;clear H;intro A17 d17 w48 H;refine ⟨.inl (H.front 3 rfl).only.ao.ao,?_⟩;obtain ⟨S',O,H'⟩:=M _ _ _ _ _ _ _ _ _ ((((H.front 5 rfl).front 3 rfl).front 5 rfl).j9);exact ⟨(_,_,_,_,best,U,V,k+1,S',O),K,⟨by simp;rfl,rfl,rfl,trivial⟩,⟨⟨F,by omega⟩,J⟩,H'⟩
   ·refine quiet _ (fun w H=>H.ai 0 rfl aN az af) ?_;refine quiet _ (fun w H=>H.ai 0 rfl aN az af) ?_;refine H.aY dU rfl ?_;clear H;intro gc w39 H;refine ⟨.inl (H.front 1 rfl).only,?_⟩;refine aj (pD n E c _ X _ (by omega) z (H.ro 1 rfl) (H.rlt _ (.tail _ (.head _)))) ?_;rintro _ w40 ⟨v3,rfl,I⟩;obtain ⟨S3,p,_⟩:=H.gv (.tail _ (.head _)) I;clear H;have H:=p;clear p;obtain ⟨A3,c3,Q⟩:=(H.ro 0 rfl).form;subst Q;refine ⟨.inl (H.front 1 rfl).only.ao,?_⟩;refine quiet _ (fun w H=>bK af) ?_;refine aj (o5 n E c _ X _ (by omega) z (H.ro 2 rfl) (H.rlt _ (.tail _ (.tail _ (.head _))))) ?_;rintro _ w42 ⟨v8,rfl,I⟩;obtain ⟨S8,p,_⟩:=H.gv (.tail _ (.tail _ (.head _))) I;clear H;have H:=p;clear p;obtain ⟨A8,c8,T⟩:=(H.ro 0 rfl).form;subst T;refine ⟨.inl (H.front 1 rfl).only.ao.ao,?_⟩;refine Hp.dI H dU ?_;clear H;intro g9 w43 H;refine ⟨.inl (H.front 2 rfl).only.ao.ao,?_⟩;refine Hp.ct H 0 dU rfl (bB (H.ro 2 rfl)) (de _) (by omega) (by omega) ?_;clear H;intro A11 d11 w44 H;refine ⟨.inl (H.front 2 rfl).only.ao.ao,?_⟩;refine H.aG 0 1 dU rfl rfl rfl (fun u hu=>by rw[List.mem_singleton.1 hu];rfl) (by omega) (by omega) ?_;clear H;intro t d14 w45 H;refine ⟨.inl (H.front 2 rfl).only.ao.ao,?_⟩;refine quiet _ (fun w H=>bK af) ?_;refine H.bk ik (cs:=nZ n A3 (bo E c).length c3 (.slice q (x.2++i).length d15) (.slice A8 (aI E c).length c8,.slice t ((x.2++i).length+1) d14)) (by decide) (by decide) (by kernel_rfl) ?_;clear H;intro g16 w47 H;refine ⟨.inl (H.front 3 rfl).only.ao.ao,?_⟩;refine H.aG 4 0 ik rfl rfl rfl (o _ _ _ _ _ _ _ _ _) (by omega) (by omega) ?_;clear H;intro A17 d17 w48 H;refine ⟨.inl (H.front 3 rfl).only.ao.ao,?_⟩;obtain ⟨S',O,H'⟩:=M _ _ _ _ _ _ _ _ _ ((((H.front 5 rfl).front 2 rfl).front 5 rfl).j9);exact ⟨(_,_,_,_,best,U,V,k+1,S',O),K,⟨by simp;rfl,rfl,rfl,trivial⟩,⟨⟨F,by omega⟩,J⟩,H'⟩
   ·refine quiet _ (fun w H=>H.ai 0 rfl aN az af) ?_;refine quiet _ (fun w H=>H.ai 0 rfl aN az af) ?_;refine H.aY dU rfl ?_;clear H;intro gc w39 H;refine ⟨.inl (H.front 1 rfl).only,?_⟩;refine aj (pD n E c _ X _ (by omega) z (H.ro 1 rfl) (H.rlt _ (.tail _ (.head _)))) ?_;rintro _ w40 ⟨v3,rfl,I⟩;obtain ⟨S3,p,_⟩:=H.gv (.tail _ (.head _)) I;clear H;have H:=p;clear p;obtain ⟨A3,c3,Q⟩:=(H.ro 0 rfl).form;subst Q;refine ⟨.inl (H.front 1 rfl).only.ao,?_⟩;refine quiet _ (fun w H=>bK af) ?_;refine Hp.dI H dU ?_;clear H;intro g9 w42 H;refine ⟨.inl (H.front 2 rfl).only.ao,?_⟩;refine aj (o5 n E c _ X _ (by omega) z (H.ro 2 rfl) (H.rlt _ (.tail _ (.tail _ (.head _))))) ?_;rintro _ w43 ⟨v8,rfl,I⟩;obtain ⟨S8,p,_⟩:=H.gv (.tail _ (.tail _ (.head _))) I;clear H;have H:=p;clear p;obtain ⟨A8,c8,T⟩:=(H.ro 0 rfl).form;subst T;refine ⟨.inl (H.front 2 rfl).only.ao.ao,?_⟩;refine Hp.ct H 0 dU rfl (bB (H.ro 2 rfl)) (de _) (by omega) (by omega) ?_;clear H;intro A11 d11 w44 H;refine ⟨.inl (H.front 2 rfl).only.ao.ao,?_⟩;refine H.aG 0 1 dU rfl rfl rfl (fun u hu=>by rw[List.mem_singleton.1 hu];rfl) (by omega) (by omega) ?_;clear H;intro t d14 w45 H;refine ⟨.inl (H.front 2 rfl).only.ao.ao,?_⟩;refine quiet _ (fun w H=>bK af) ?_;refine H.bk ik (cs:=nZ n A3 (bo E c).length c3 (.slice q (x.2++i).length d15) (.slice A8 (aI E c).length c8,.slice t ((x.2++i).length+1) d14)) (by decide) (by decide) (by kernel_rfl) ?_;clear H;intro g16 w47 H;refine ⟨.inl (H.front 3 rfl).only.ao.ao,?_⟩;refine H.aG 4 0 ik rfl rfl rfl (o _ _ _ _ _ _ _ _ _) (by omega) (by omega) ?_;clear H;intro A17 d17 w48 H;refine ⟨.inl (H.front 3 rfl).only.ao.ao,?_⟩;obtain ⟨S',O,H'⟩:=M _ _ _ _ _ _ _ _ _ ((((H.front 5 rfl).front 2 rfl).front 5 rfl).j9);exact ⟨(_,_,_,_,best,U,V,k+1,S',O),K,⟨by simp;rfl,rfl,rfl,trivial⟩,⟨⟨F,by omega⟩,J⟩,H'⟩
   ·refine quiet _ (fun w H=>H.ai 0 rfl aN az af) ?_;refine quiet _ (fun w H=>H.ai 0 rfl aN az af) ?_;refine H.aY dU rfl ?_;clear H;intro gc w39 H;refine ⟨.inl (H.front 1 rfl).only,?_⟩;refine Hp.dI H dU ?_;clear H;intro g9 w40 H;refine ⟨.inl (H.front 2 rfl).only,?_⟩;refine aj (pD n E c _ X _ (by omega) z (H.ro 1 rfl) (H.rlt _ (.tail _ (.head _)))) ?_;rintro _ w41 ⟨v3,rfl,I⟩;obtain ⟨S3,p,_⟩:=H.gv (.tail _ (.head _)) I;clear H;have H:=p;clear p;obtain ⟨A3,c3,Q⟩:=(H.ro 0 rfl).form;subst Q;refine ⟨.inl (H.front 2 rfl).only.ao,?_⟩;refine quiet _ (fun w H=>bK af) ?_;refine aj (o5 n E c _ X _ (by omega) z (H.ro 2 rfl) (H.rlt _ (.tail _ (.tail _ (.head _))))) ?_;rintro _ w43 ⟨v8,rfl,I⟩;obtain ⟨S8,p,_⟩:=H.gv (.tail _ (.tail _ (.head _))) I;clear H;have H:=p;clear p;obtain ⟨A8,c8,T⟩:=(H.ro 0 rfl).form;subst T;refine ⟨.inl (H.front 2 rfl).only.ao.ao,?_⟩;refine Hp.ct H 0 dU rfl (bB (H.ro 2 rfl)) (de _) (by omega) (by omega) ?_;clear H;intro A11 d11 w44 H;refine ⟨.inl (H.front 2 rfl).only.ao.ao,?_⟩;refine H.aG 0 1 dU rfl rfl rfl (fun u hu=>by rw[List.mem_singleton.1 hu];rfl) (by omega) (by omega) ?_;clear H;intro t d14 w45 H;refine ⟨.inl (H.front 2 rfl).only.ao.ao,?_⟩;refine quiet _ (fun w H=>bK af) ?_;refine H.bk ik (cs:=nZ n A3 (bo E c).length c3 (.slice q (x.2++i).length d15) (.slice A8 (aI E c).length c8,.slice t ((x.2++i).length+1) d14)) (by decide) (by decide) (by kernel_rfl) ?_;clear H;intro g16 w47 H;refine ⟨.inl (H.front 3 rfl).only.ao.ao,?_⟩;refine H.aG 4 0 ik rfl rfl rfl (o _ _ _ _ _ _ _ _ _) (by omega) (by omega) ?_;clear H;intro A17 d17 w48 H;refine ⟨.inl (H.front 3 rfl).only.ao.ao,?_⟩;obtain ⟨S',O,H'⟩:=M _ _ _ _ _ _ _ _ _ ((((H.front 5 rfl).front 2 rfl).front 5 rfl).j9);exact ⟨(_,_,_,_,best,U,V,k+1,S',O),K,⟨by simp;rfl,rfl,rfl,trivial⟩,⟨⟨F,by omega⟩,J⟩,H'⟩
  ·obtain rfl:ts=[]:=List.length_eq_zero_iff.1 (by omega);obtain rfl:st=[]:=List.length_eq_zero_iff.1 (by simpa using hlen.symm);exact ⟨(U,V,best,k),⟨rfl,rfl,trivial⟩,⟨by omega,F,hfew⟩,Sb,((H.front 1 rfl).only).ao⟩
 ·clear H;rintro ⟨B,d,best,k⟩ u w6 ⟨⟨hk,F,hfew⟩,Sb,H⟩;have hsl:=H.ro 0 rfl;have hend:=Hh hright hfew;refine aa (iY _) ?_;refine H.load 0 rfl aE rfl ?_;refine aj (c127 n best B d _ (by omega) (by omega) (sl.mono hsl (H.rlt _ (.head _)))) ?_;rintro _ w7 ⟨B2,d2,rfl,I⟩;replace H:=H.bq I;exact ⟨B2,d2,a7 n best,k,0,rfl,.inr (.inr (.inr ⟨hr',hb',rfl,⟨by omega,by omega⟩,⟨best,by rw[Int.toNat_natCast]⟩,by rw[Int.toNat_natCast];exact hend.1,hend.2⟩)),(H.only).out⟩
end Go.Proofs.YtpjihhgjbbihkaaGreatDoor
namespace Go.Dk
def cu (a b:Nat):Prop:=∀ p,a.testBit p=true→b.testBit p=true
theorem Fi {a b:Nat}(d:a<2^256):bQ a b=0↔cu a b:=by
 rw[iE];constructor
 ·intro h p c;have:=h p;rw[bO d,c,Bool.true_and] at this;simpa using this
 ·intro h p;rw[bO d]
  cases c:a.testBit p with
  | false=>rfl
  | true=>rw[h p c];rfl
theorem il {a b:Nat}(c:a<2^256):(bQ a b==0)=true↔cu a b:=by rw[beq_iff_eq,Fi c]
theorem cu.refl (a:Nat):cu a a:=fun _ h=>h
theorem cu.trans {a b c:Nat}(h:cu a b)(d:cu b c):cu a c:=fun p e=>d p (h p e)
structure er where
 n:Nat
 on:List Nat
 may:List Nat
structure cF (S:er):Prop where
 n8:S.n≤8
 some:1≤S.on.length
 few:S.on.length≤4
 len:S.may.length=S.on.length
 onlt:∀ a ∈ S.on,a<2^256
 maylt:∀ a ∈ S.may,a<2^256
 sub:∀ (j a b:Nat),S.on[j]?=Option.some a→S.may[j]?=Option.some b→cu a b
 all:∀ b ∈ S.may,cu b (bu S.n)
def fq (m i:Nat):Nat:=m &&&(255 - 2^i)
theorem lT {m:Nat}(hm:m<256)(i:Nat):fq m i<256:=cf hm _
theorem qs {m i:Nat}(hi:i<8)(j:Nat)(a:j<8):(fq m i).testBit j=(m.testBit j&& !decide (i=j)):=by
 have h:2^i<256:=show 2^i<2^8 from Nat.pow_lt_pow_right (by decide) hi;unfold fq;rw[Nat.testBit_and,iN h,Nat.testBit_two_pow,decide_eq_true a,Bool.true_and]
def yK (m v:Nat)(s:Nat)(n:Nat):Bool:=dr m v n&&(bQ (bc m v n) s==0)
def iI (S:er)(m v:Nat):Nat:=mkSet (fun j=>yK m v (S.may.getD j 0) S.n) S.may.length
theorem rp (S:er)(m v j:Nat):(iI S m v).testBit j=(decide (j<S.may.length)&&yK m v (S.may.getD j 0) S.n):=bZ _ _ _
theorem yL {S:er}(h:S.may.length≤4)(m v:Nat):iI S m v<16:=Nat.lt_of_lt_of_le (ft _ _) (show 2^S.may.length≤2^4 from Nat.pow_le_pow_right (by decide) h)
def sw (S:er)(m v o:Nat):Bool:=decide (0<o)&&(o &&&(255 - iI S m v)==0)
end Go.Dk
namespace Go.Proofs.YtpjihhgjbbihkaaGreatDoor
open Go.Proofs.Tryz
open Go.Dk
set_option maxRecDepth 100000
attribute [local irreducible] IntKind.wrap
theorem Kb:enters prog 131=true:=by kernel_rfl
theorem c131 (m v i:Nat)(hm:m<256)(c:v<256)(hi:i<8)(w:World):bz prog 131 [cv m v,.int .i64 (i:Int)] w fun r w'=>r=cv (fq m i) (v &&&fq m i)∧aT w w':=by
 refine ar (N:=19) func131 Kb rfl rfl rfl (by simp) ?_;have H:=Hp.aC w;have g:2^i<256:=show 2^i<2^8 from Nat.pow_lt_pow_right (by decide) hi;have a:=lT hm i;refine ak (γ:=Nat × Nat) (fun (g2,g4)=>[(2,(ah g2)),(4,(ah g4))]) (fun (g2,g4) w'=>Hp w ab w' [an g4 48 (cc 0 0),an g2 48 (cc m v)] []) ?_ ?_
 ·refine H.box 48 (cv _ _) (cs:=cc m v) rfl ?_;clear H;intro g2 d H;refine H.alloc 48 (cs:=cc 0 0) fA rfl ?_;clear H;intro g4 e H;exact ⟨(g2,g4),⟨rfl,rfl,trivial⟩,H⟩
 clear H;rintro ⟨g2,g4⟩ u d H;have h:0≤(i:Int):=by omega
 have j:(i:Int)<8:=by omega
 refine aw (fun w'=>Hp w ab w' [an g4 48 (cc 0 0),an g2 48 (cc (fq m i) v)] []) ?_ ?_
 ·iterate 3 refine ag rfl ?_
  refine ag (decide_eq_true (by assumption)) ?_;refine H.draw eN (by kernel_rfl) ?_;clear H;intro k H;refine quiet _ (fun w H=>aa (cn _) af) ?_;refine quiet _ (fun w H=>H.load 1 rfl b7 rfl af) ?_;refine quiet _ (fun w H=>cj (by omega) af) ?_;refine quiet _ (fun w H=>jF (by first | assumption | omega | (repeat' (first | assumption | refine cf ?_ _ | refine xor_lt8 ?_ ?_ | refine or_lt8 ?_ ?_))) (by first | assumption | omega | (repeat' (first | assumption | refine cf ?_ _ | refine xor_lt8 ?_ ?_ | refine or_lt8 ?_ ?_))) af) ?_;refine quiet _ (fun w H=>aa (cn _) af) ?_;refine H.store 1 rfl kT (Nat.le_of_ble_eq_true rfl) rfl ?_;clear H;intro f H;refine ⟨.inr rfl,?_⟩;exact ⟨(),trivial,H⟩
 clear H;rintro ⟨⟩ u e H;refine H.ai 1 rfl bl aJ ?_;refine aj (N8 (fq m i) v a c _) ?_;rintro _ l ⟨rfl,b⟩;replace H:=H.same b;clear b;refine H.bT 0 rfl ?_;clear H;intro n H;refine H.ai 0 rfl bl aJ ?_;refine ⟨rfl,?_⟩;exact ⟨rfl,H.keeps⟩
theorem Kc:enters prog 160=true:=by kernel_rfl
theorem c160 (m v s:Nat)(hm:m<256)(i:v<256)(n:Nat)(w:World):bz prog 160 [cv m v,sv s,.int .i64 (n:Int)] w fun r w'=>r=.bool (yK m v s n)∧aT w w':=by
 refine ar (N:=22) func160 Kc rfl rfl rfl (by simp) ?_;have H:=Hp.aC w;refine ak (γ:=Nat × Nat) (fun (g3,g4)=>[(3,(ah g3)),(4,(ah g4)),(6,.bool false)]) (fun (g3,g4) w'=>Hp w ab w' [an g4 86 (sc s),an g3 48 (cc m v)] []) ?_ ?_
 ·refine H.box 48 (cv _ _) (cs:=cc m v) rfl ?_;clear H;intro g3 g H;refine H.box 86 (sv s) (cs:=sc s) rfl ?_;clear H;intro g4 h H;exact ⟨(g3,g4),⟨rfl,rfl,rfl,trivial⟩,H⟩
 clear H;rintro ⟨g3,g4⟩ u g H;have c:=N9 m v hm i (n:Int) g;rw[Int.toNat_natCast] at c;refine ak (γ:=Nat × Nat × Int) (fun (g7,_,e)=>[(7,(ah g7)),(8,.int .i64 e)]) (fun (g7,d,e) w'=>((dr m v n=false∧e=1∧d=0)∨(dr m v n=true∧e=0∧d=bc m v n))∧Hp w ab w' [an g7 86 (sc d),an g4 86 (sc s),an g3 48 (cc m v)] []) ?_ ?_
 ·refine H.ai 1 rfl bl aJ ?_;refine aj c ?_;rintro _ h ⟨rfl,b⟩;replace H:=H.same b;clear b c
  cases f:dr m v n with
  | false=>
   refine H.alloc 86 (cs:=sc 0) br aZ ?_;clear H;intro g7 j H;refine H.aV 0 rfl ?_;clear H;intro k H;exact ⟨(g7,0,1),⟨rfl,rfl,trivial⟩,.inl ⟨rfl,rfl,rfl⟩,H⟩
  | true=>
   refine H.alloc 86 (cs:=sc 0) br aZ ?_;clear H;intro g7 j H;refine H.aV 0 rfl ?_;clear H;intro k H;exact ⟨(g7,bc m v n,0),⟨rfl,rfl,trivial⟩,.inr ⟨rfl,rfl,rfl⟩,H⟩
 clear H c;rintro ⟨g7,d,e⟩ u h ⟨a,H⟩;unfold yK;rcases a with ⟨f,rfl,rfl⟩ | ⟨f,rfl,rfl⟩
 ·rw[f]
  iterate 4 refine ae rfl ?_
  exact ⟨rfl,H.keeps⟩
 ·rw[f];have l:=pT m v n;refine ag rfl ?_;refine H.ai 0 rfl aD av ?_;refine ag rfl ?_;refine H.ai 1 rfl aD av ?_;refine ag rfl ?_;refine aj (c85 _ _ l _) ?_;rintro _ o ⟨rfl,b⟩;replace H:=H.same b;clear b;refine ag rfl ?_;exact ⟨rfl,H.keeps⟩
end Go.Proofs.YtpjihhgjbbihkaaGreatDoor
namespace Go.Dk
theorem yM (a b:Nat)(c:a<9223372036854775808)(d:b<9223372036854775808):bits .xor .i64 (a:Int) (b:Int)=((a ^^^ b:Nat):Int):=by
 have e:a ^^^ b<2^63:=Nat.xor_lt_two_pow c d;show IntKind.i64.wrap ((BitVec.ofInt 64 (a:Int) ^^^ BitVec.ofInt 64 (b:Int)).toNat:Int)=_;rw[BitVec.toNat_xor,oE a c,oE b d,IntKind.wrap_i64];omega
theorem se {P:Program}{t:TypeId}{xo yo:Operand}{w:World}{kk:Value→World→Prop}{a b:Nat}(c:a<9223372036854775808)(d:b<9223372036854775808)(h:kk (.int .i64 ((a ^^^ b:Nat):Int)) w):da P .xor t xo yo (.int .i64 (a:Int)) (.int .i64 (b:Int)) w kk:=
 BC (by rw[yM a b c d];exact h)
def dv (s n m v:Nat):Nat→Nat × Nat
 | 0=>(m,v)
 | k+1=>if yK (fq (dv s n m v k).1 k) ((dv s n m v k).2 &&&fq (dv s n m v k).1 k) s n then (fq (dv s n m v k).1 k,(dv s n m v k).2 &&&fq (dv s n m v k).1 k) else dv s n m v k
theorem yN {s n m v:Nat}(hm:m<256)(a:v<256):∀ k,(dv s n m v k).1<256∧(dv s n m v k).2<256
 | 0=>⟨hm,a⟩
 | k+1=>by
  have h:=yN (s:=s) (n:=n) hm a k;unfold dv;split
  ·exact ⟨lT h.1 k,cf h.2 _⟩
  ·exact h
def cZ (s i:Nat):Nat:=o_ fun p=>s.testBit p||s.testBit (p ^^^ 2^i)
theorem sI {p i:Nat}(a:p<256)(hi:i<8):p ^^^ 2^i<256:=Nat.xor_lt_two_pow (n:=8) a (Nat.pow_lt_pow_right (by decide) hi)
theorem flip_flip (p i:Nat):p ^^^ 2^i ^^^ 2^i=p:=by rw[Nat.xor_assoc,Nat.xor_self,Nat.xor_zero]
theorem yO {s i:Nat}(hs:s<2^256)(hi:i<8):cZ s i=s |||gg ((cT s).map (· ^^^ 2^i)):=by
 have c:gg ((cT s).map (· ^^^ 2^i))<2^256:=pR fun p a=>by
  obtain ⟨q,b,rfl⟩:=List.mem_map.1 a;exact sI (cq.1 b).1 hi
 refine j_ (cw _) (IS hs c) fun p a=>?_;unfold cZ;rw[bn,decide_eq_true a,Bool.true_and,Nat.testBit_or,fR]
 congr 1
 rw[Bool.eq_iff_iff,decide_eq_true_eq,List.mem_map];constructor
 ·intro h;exact ⟨_,cq.2 ⟨sI a hi,h⟩,flip_flip p i⟩
 ·rintro ⟨q,b,rfl⟩;rw[flip_flip];exact (cq.1 b).2
end Go.Dk
namespace Go.Proofs.YtpjihhgjbbihkaaGreatDoor
open Go.Proofs.Tryz
open Go.Dk
set_option maxRecDepth 100000
attribute [local irreducible] IntKind.wrap
theorem Kd:enters prog 129=true:=by kernel_rfl
theorem On (m v s:Nat)(hm:m<256)(p:v<256)(n:Nat)(D:n≤8)(h:yK m v s n=true)(w:World) :
  bz prog 129 [cv m v,sv s,.int .i64 (n:Int)] w fun r w'=>r=.tuple #[cv (dv s n m v n).1 (dv s n m v n).2,.int .i64 0]∧aT w w':=by
 refine ar (N:=30) func129 Kd rfl rfl rfl (by simp) ?_;have H:=Hp.aC w;refine ak (γ:=Nat × Nat × Nat) (fun (g3,g4,g6)=>[(3,(ah g3)),(4,(ah g4)),(6,(ah g6)),(7,.int .i64 0)]) (fun (g3,g4,g6) w'=>Hp w ab w' [an g6 48 (cc 0 0),an g4 86 (sc s),an g3 48 (cc m v)] []) ?_ ?_
 ·refine H.box 48 (cv _ _) (cs:=cc m v) rfl ?_;clear H;intro g3 q H;refine H.box 86 (sv s) (cs:=sc s) rfl ?_;clear H;intro g4 t H;refine H.alloc 48 (cs:=cc 0 0) fA rfl ?_;clear H;intro g6 f H;exact ⟨(g3,g4,g6),⟨rfl,rfl,rfl,rfl,trivial⟩,H⟩
 clear H;rintro ⟨g3,g4,g6⟩ u q H;refine aw (fun w'=>Hp w ab w' [an g6 48 (cc 0 0),an g4 86 (sc s),an g3 48 (cc m v)] []) ?_ ?_
 ·have g:=c160 m v s hm p n q;rw[h] at g;refine H.ai 2 rfl bl aJ ?_;refine H.ai 1 rfl aD av ?_;refine aj g ?_;clear g;rintro _ t ⟨rfl,i⟩;replace H:=H.same i;clear i;refine ae rfl ?_;exact ⟨(),trivial,H⟩
 clear H;rintro ⟨⟩ u t H;refine aw (fun w'=>Hp w ab w' [an g6 48 (cc 0 0),an g4 86 (sc s),an g3 48 (cc (dv s n m v n).1 (dv s n m v n).2)] []) ?_ ?_
 ·refine ax (γ:=Nat) (fun k=>[(17,.int .i64 (k:Int))]) (fun k w'=>k≤n∧Hp w ab w' [an g6 48 (cc 0 0),an g4 86 (sc s),an g3 48 (cc (dv s n m v k).1 (dv s n m v k).2)] []) (fun k=>n - k) 0 ⟨rfl,trivial⟩ ⟨Nat.zero_le _,H⟩ ?_;clear H;rintro k u f ⟨i,H⟩;obtain ⟨b,d⟩:=yN (s:=s) (n:=n) hm p k;have a:dv s n m v (k+1)=if yK (fq (dv s n m v k).1 k) ((dv s n m v k).2 &&&fq (dv s n m v k).1 k) s n then (fq (dv s n m v k).1 k,(dv s n m v k).2 &&&fq (dv s n m v k).1 k) else dv s n m v k:=rfl;generalize j:dv s n m v k=c at b d a H;obtain ⟨m',e⟩:=c;replace H:Hp w ab f [an g6 48 (cc 0 0),an g4 86 (sc s),an g3 48 (cc m' e)] []:=H;simp only at b d a;refine au (fun x=>?_) (fun x=>?_)
  ·refine aw (fun w'=>Hp w ab w' [an g6 48 (cc 0 0),an g4 86 (sc s),an g3 48 (cc (dv s n m v (k+1)).1 (dv s n m v (k+1)).2)] []) ?_ ?_
   ·refine ak (γ:=Unit) (fun _=>[(8,.int .i64 (k:Int))]) (fun _ w'=>Hp w ab w' [an g6 48 (cc 0 0),an g4 86 (sc s),an g3 48 (cc m' e)] []) ⟨(),⟨rfl,trivial⟩,H⟩ ?_;clear H;rintro ⟨⟩ u y H;refine ak (γ:=Nat) (fun g9=>[(9,(ah g9))]) (fun g9 w'=>Hp w ab w' [an g9 48 (cc (fq m' k) (e &&&fq m' k)),an g6 48 (cc 0 0),an g4 86 (sc s),an g3 48 (cc m' e)] []) ?_ ?_
    ·refine H.ai 2 rfl bl aJ ?_;refine aj (c131 m' e k b d (by omega) _) ?_;rintro _ z ⟨rfl,l⟩;replace H:=H.same l;refine H.alloc 48 (cs:=cc 0 0) fA rfl ?_;clear H;intro g9 A H;refine H.bT 0 rfl ?_;clear H;intro B H;exact ⟨g9,⟨rfl,trivial⟩,H⟩
    clear H;rintro g9 u z H;refine H.ai 0 rfl bl aJ ?_;refine H.ai 2 rfl aD av ?_;refine aj (c160 _ _ s (lT b k) (cf d _) n _) ?_;rintro _ A ⟨rfl,o⟩;replace H:=H.same o;rw[a]
    cases hb:yK (fq m' k) (e &&&fq m' k) s n with
    | true=>
     refine ag rfl ?_;refine H.ai 0 rfl bl aJ ?_;refine H.bT 3 rfl ?_;clear H;intro C H;exact ⟨(),trivial,by rw[if_pos rfl];exact H.forget⟩
    | false=>
     refine ae rfl ?_;exact ⟨(),trivial,by rw[if_neg (by decide)];exact H.forget⟩
   ·clear H;rintro ⟨⟩ u y H;exact ⟨k+1,by show n - (k+1)<n - k;omega,⟨up (by omega),trivial⟩,by show k+1≤n;omega,H⟩
  ·have:k=n:=by omega
   subst this;exact ⟨(),trivial,by rw[j];exact H⟩
 clear H;rintro ⟨⟩ u f H;refine H.ai 2 rfl bl aJ ?_;refine H.bT 0 rfl ?_;clear H;intro B H;refine H.ai 0 rfl bl aJ ?_;refine ⟨rfl,?_⟩;exact ⟨rfl,H.keeps⟩
theorem Ke:enters prog 188=true:=by kernel_rfl
theorem Oo (s i:Nat)(one:Bool)(hi:i<8)(w:World):bz prog 188 [sv s,.int .i64 (i:Int),.bool one] w fun r w'=>r=sv (cZ (cU s i one) i)∧aT w w':=by
 refine ar (N:=31) func188 Ke rfl rfl rfl (by simp) ?_;have H:=Hp.aC w;refine ak (γ:=Nat × Nat) (fun (g3,g6)=>[(3,(ah g3)),(6,(ah g6))]) (fun (g3,g6) w'=>Hp w ab w' [an g6 86 (sc 0),an g3 86 (sc s)] []) ?_ ?_
 ·refine H.box 86 (sv s) (cs:=sc s) rfl ?_;clear H;intro g3 m H;refine H.alloc 86 (cs:=sc 0) br aZ ?_;clear H;intro g6 d H;exact ⟨(g3,g6),⟨rfl,rfl,trivial⟩,H⟩
 clear H;rintro ⟨g3,g6⟩ u m H;have n:=xN s i one;generalize e:cU s i one=h at n;refine ak (γ:=Nat) (fun g7=>[(7,(ah g7))]) (fun g7 w'=>Hp w ab w' [an g7 86 (sc h),an g6 86 (sc 0),an g3 86 (sc s)] []) ?_ ?_
 ·refine H.ai 1 rfl aD av ?_;have o:=yl s i one hi m;rw[e] at o;refine aj o ?_;rintro _ y ⟨rfl,q⟩;replace H:=H.same q;refine H.alloc 86 (cs:=sc 0) br aZ ?_;clear H;intro g7 d H;refine H.aV 0 rfl ?_;clear H;intro f H;exact ⟨g7,⟨rfl,trivial⟩,H⟩
 clear H;rintro g7 u y H;refine ak (γ:=Nat) (fun g8=>[(8,(ah g8))]) (fun g8 w'=>Hp w ab w' [an g8 86 (sc h),an g7 86 (sc h),an g6 86 (sc 0)] []) ?_ ?_
 ·refine H.ai 0 rfl aD av ?_;refine H.alloc 86 (cs:=sc 0) br aZ ?_;clear H;intro g8 d H;refine H.aV 0 rfl ?_;clear H;intro f H;exact ⟨g8,⟨rfl,trivial⟩,H.b9 [0,1,2] (by decide) rfl⟩
 clear H;rintro g8 u d H;have D:2^i<256:=show 2^i<2^8 from Nat.pow_lt_pow_right (by decide) hi;refine aw (fun w'=>Hp w ab w' [an g8 86 (sc (cZ h i)),an g6 86 (sc 0)] []) ?_ ?_
 ·refine H.ai 1 rfl aD av ?_;refine aj (Ez h _) ?_;rintro _ f ⟨A,c,rfl,t⟩;replace H:=H.bq t;clear t;refine ay underlying75 ?_;have j:=eS h 256;refine ax (γ:=Nat) (fun k=>[(19,.int .i64 (k:Int))]) (fun k w'=>k≤(cT h).length∧Hp w ab w' [own 3 1 (.slice A (cT h).length c) (cT h).length (ints (cT h)),an g8 86 (sc (h |||gg (((cT h).take k).map (· ^^^ 2^i)))),an g6 86 (sc 0)] []) (fun k=>(cT h).length - k) 0 ⟨rfl,trivial⟩ ⟨Nat.zero_le _,by rw[List.take_zero,List.map_nil,gg,Nat.or_zero];exact H.b9 [0,1,3] (by decide) rfl⟩ ?_;clear H;rintro k u z ⟨q,H⟩;refine au (fun B=>?_) (fun B=>?_)
  ·have a:k<(cT h).length:=by omega
   refine aw (fun w'=>Hp w ab w' [own 3 1 (.slice A (cT h).length c) (cT h).length (ints (cT h)),an g8 86 (sc (h |||gg (((cT h).take (k+1)).map (· ^^^ 2^i)))),an g6 86 (sc 0)] []) ?_ ?_
   ·obtain ⟨g,rfl⟩:=H.kM 0 rfl (by omega);have v:(cT h)[k]<256:=(cq.1 (List.getElem_mem a)).1;have x:(cT h).take (k+1)=(cT h).take k++[(cT h)[k]]:=(List.take_append_getElem a).symm;have b:=eZ a;generalize (cT h)[k]=p at v x b;refine ak (γ:=Unit) (fun _=>[(10,.int .i64 (p:Int))]) (fun _ w'=>Hp w ab w' [own 3 1 (.slice (some ⟨g,0,none⟩) (cT h).length c) (cT h).length (ints (cT h)),an g8 86 (sc (h |||gg (((cT h).take k).map (· ^^^ 2^i)))),an g6 86 (sc 0)] []) ?_ ?_
    ·refine aq underlying75 a_ k rfl a (by omega) (o':=k) ?_;refine H.eJ 0 rfl aE b ?_;exact ⟨(),⟨rfl,trivial⟩,H⟩
    clear H;rintro ⟨⟩ u C H;refine H.draw eN (by kernel_rfl) ?_;clear H;intro E H;refine quiet _ (fun w H=>H.ai 1 rfl aD av af) ?_;refine quiet _ (fun w H=>dk (by omega) af) ?_;refine quiet _ (fun w H=>se (by omega) (by omega) af) ?_;refine aj (p8 _ _ (sI v hi) _) ?_;rintro _ F ⟨rfl,l⟩;replace H:=H.same l;refine ⟨.inl H,?_⟩;refine H.aV 1 rfl ?_;clear H;intro G H;refine ⟨.inr rfl,?_⟩;rw[x,List.map_append,List.map_cons,List.map_nil,kI,← Nat.or_assoc];exact ⟨(),trivial,H⟩
   ·clear H;rintro ⟨⟩ u C H;exact ⟨k+1,by show (cT h).length - (k+1)<(cT h).length - k;omega,⟨up (by simp only[cT] at a;omega),trivial⟩,by show k+1≤(cT h).length;omega,H⟩
  ·have:k=(cT h).length:=by omega
   subst this;rw[List.take_length,← yO n hi] at H;exact ⟨(),trivial,H.forget⟩
 clear H;rintro ⟨⟩ u f H;refine H.ai 0 rfl aD av ?_;refine H.aV 1 rfl ?_;clear H;intro z H;refine H.ai 1 rfl aD av ?_;exact ⟨rfl,rfl,H.keeps⟩
theorem Kf:enters prog 176=true:=by kernel_rfl
theorem Oq (h i:Nat)(o:h<2^256)(hi:i<8)(w:World):bz prog 176 [sv h,.int .i64 (i:Int)] w fun r w'=>r=sv (cZ h i)∧aT w w':=by
 refine ar (N:=24) func176 Kf rfl rfl rfl (by simp) ?_;have H:=Hp.aC w;refine ak (γ:=Nat × Nat) (fun (g7,g4)=>[(2,(ah g7)),(4,(ah g4))]) (fun (g7,g4) w'=>Hp w ab w' [an g4 86 (sc 0),an g7 86 (sc h)] []) ?_ ?_
 ·refine H.box 86 (sv h) (cs:=sc h) rfl ?_;clear H;intro g3 q H;refine H.alloc 86 (cs:=sc 0) br aZ ?_;clear H;intro g6 f H;exact ⟨(g3,g6),⟨rfl,rfl,trivial⟩,H⟩
 clear H;rintro ⟨g7,g4⟩ u q H;refine ak (γ:=Nat) (fun g5=>[(5,(ah g5))]) (fun g5 w'=>Hp w ab w' [an g5 86 (sc h),an g7 86 (sc h),an g4 86 (sc 0)] []) ?_ ?_
 ·refine H.ai 1 rfl aD av ?_;refine H.alloc 86 (cs:=sc 0) br aZ ?_;clear H;intro g8 f H;refine H.aV 0 rfl ?_;clear H;intro j H;exact ⟨g8,⟨rfl,trivial⟩,H.b9 [0,2,1] (by decide) rfl⟩
 clear H;rintro g5 u f H;have x:2^i<256:=show 2^i<2^8 from Nat.pow_lt_pow_right (by decide) hi;refine aw (fun w'=>Hp w ab w' [an g5 86 (sc (cZ h i)),an g4 86 (sc 0)] []) ?_ ?_
 ·refine H.ai 1 rfl aD av ?_;refine aj (Ez h _) ?_;rintro _ j ⟨A,c,rfl,l⟩;replace H:=H.bq l;clear l;refine ay underlying75 ?_;have d:=eS h 256;refine ax (γ:=Nat) (fun k=>[(12,.int .i64 (k:Int))]) (fun k w'=>k≤(cT h).length∧Hp w ab w' [own 3 1 (.slice A (cT h).length c) (cT h).length (ints (cT h)),an g5 86 (sc (h |||gg (((cT h).take k).map (· ^^^ 2^i)))),an g4 86 (sc 0)] []) (fun k=>(cT h).length - k) 0 ⟨rfl,trivial⟩ ⟨Nat.zero_le _,by rw[List.take_zero,List.map_nil,gg,Nat.or_zero];exact H.b9 [0,1,3] (by decide) rfl⟩ ?_;clear H;rintro k u s ⟨y,H⟩;refine au (fun t=>?_) (fun t=>?_)
  ·have a:k<(cT h).length:=by omega
   refine aw (fun w'=>Hp w ab w' [own 3 1 (.slice A (cT h).length c) (cT h).length (ints (cT h)),an g5 86 (sc (h |||gg (((cT h).take (k+1)).map (· ^^^ 2^i)))),an g4 86 (sc 0)] []) ?_ ?_
   ·obtain ⟨g,rfl⟩:=H.kM 0 rfl (by omega);have m:(cT h)[k]<256:=(cq.1 (List.getElem_mem a)).1;have n:(cT h).take (k+1)=(cT h).take k++[(cT h)[k]]:=(List.take_append_getElem a).symm;have b:=eZ a;generalize (cT h)[k]=p at m n b;refine ak (γ:=Unit) (fun _=>[(7,.int .i64 (p:Int))]) (fun _ w'=>Hp w ab w' [own 3 1 (.slice (some ⟨g,0,none⟩) (cT h).length c) (cT h).length (ints (cT h)),an g5 86 (sc (h |||gg (((cT h).take k).map (· ^^^ 2^i)))),an g4 86 (sc 0)] []) ?_ ?_
    ·refine aq underlying75 a_ k rfl a (by omega) (o':=k) ?_;refine H.eJ 0 rfl aE b ?_;exact ⟨(),⟨rfl,trivial⟩,H⟩
    clear H;rintro ⟨⟩ u v H;refine H.draw eN (by kernel_rfl) ?_;clear H;intro z H;refine quiet _ (fun w H=>H.ai 1 rfl aD av af) ?_;refine quiet _ (fun w H=>dk (by omega) af) ?_;refine quiet _ (fun w H=>se (by omega) (by omega) af) ?_;refine aj (p8 _ _ (sI m hi) _) ?_;rintro _ B ⟨rfl,e⟩;replace H:=H.same e;refine ⟨.inl H,?_⟩;refine H.aV 1 rfl ?_;clear H;intro C H;refine ⟨.inr rfl,?_⟩;rw[n,List.map_append,List.map_cons,List.map_nil,kI,← Nat.or_assoc];exact ⟨(),trivial,H⟩
   ·clear H;rintro ⟨⟩ u v H;exact ⟨k+1,by show (cT h).length - (k+1)<(cT h).length - k;omega,⟨up (by simp only[cT] at a;omega),trivial⟩,by show k+1≤(cT h).length;omega,H⟩
  ·have:k=(cT h).length:=by omega
   subst this;rw[List.take_length,← yO o hi] at H;exact ⟨(),trivial,H.forget⟩
 clear H;rintro ⟨⟩ u j H;refine H.ai 0 rfl aD av ?_;refine H.aV 1 rfl ?_;clear H;intro s H;refine H.ai 1 rfl aD av ?_;exact ⟨rfl,rfl,H.keeps⟩
end Go.Proofs.YtpjihhgjbbihkaaGreatDoor
namespace Go.Dk
theorem Hp.cB {P:Program}{w0 w:World}{F:Nat→Prop}{L M:List cS}{k:Value→World→Prop}(H:Hp w0 F w L M)(n:Nat){g o:Nat}{t ty:TypeId}{cs:Array Value}(c:L[n]?=some (an g t cs))(cs':List Value)(a:cW P ty=some true)(hs:bF P ty=some cs'.length)(d:∀ (j:Nat) v,cs'[j]?=some v→cs[o+j]?=some v)(h:k (.agg cs'.toArray) w):fu P ty (.pointer (some ⟨g,o,none⟩)) w k:=
 iB cs' a hs (fun j v e=>by
  have b:(⟨g,o,none⟩:Addr).add j=⟨g,o+j,none⟩:=by unfold Addr.add;split <;> simp_all
  rw[b,aQ (H.get n c)];exact d j v e) h
end Go.Dk
namespace Go.Proofs.YtpjihhgjbbihkaaGreatDoor
open Go.Proofs.Tryz
open Go.Dk
set_option maxRecDepth 100000
attribute [local irreducible] IntKind.wrap
def bL (s:Nat):List Value:=(sc s).toList
theorem bW (s:Nat):(bL s).length=4:=rfl
def bp (n:Nat)(a b:Value):Array Value:=#[.int .i64 (n:Int),a,b]
def sf (n:Nat)(a b:Value):Value:=.agg (bp n a b)
def dc (m v o:Nat):Array Value:=#[.int .u8 (m:Int),.int .u8 (v:Int),.int .u8 (o:Int)]
def mA (m v o:Nat):Value:=.agg (dc m v o)
structure gi (w:World) (S:er) (Bo:Option Addr) (co:Nat) (Bm:Option Addr) (cm:Nat):Prop where
 on:Sl w (.slice Bo S.on.length co) 4 S.on.length (flat bL S.on)
 may:Sl w (.slice Bm S.may.length cm) 4 S.may.length (flat bL S.may)
theorem gi.same {w w':World}{S:er}{Bo Bm:Option Addr}{co cm:Nat}(h:gi w S Bo co Bm cm)(a:aT w w'):gi w' S Bo co Bm cm:=⟨h.on.same a,h.may.same a⟩
theorem dz:cW prog 41=some true:=by kernel_rfl
theorem bH:bF prog 41=some 3:=by kernel_rfl
theorem eo:cW prog 39=some false:=by kernel_rfl
theorem tU:bF prog 39=some 1:=by kernel_rfl
theorem fo:cW prog 50=some true:=by kernel_rfl
theorem aX:bF prog 50=some 3:=by kernel_rfl
theorem ic:eU prog 50=some (mA 0 0 0):=by kernel_rfl
theorem iD (g:Nat)(w:World):(Instr.fieldAt 41 (ah g) 0).run prog w=.ok (ah g) w:=by kernel_rfl
theorem ie (g:Nat)(w:World):(Instr.fieldAt 41 (ah g) 1).run prog w=.ok (.pointer (some ⟨g,1,none⟩)) w:=by kernel_rfl
theorem fL (g:Nat)(w:World):(Instr.fieldAt 41 (ah g) 2).run prog w=.ok (.pointer (some ⟨g,2,none⟩)) w:=by kernel_rfl
theorem fC (g o:Nat)(w:World):(Instr.fieldAt 50 (.pointer (some ⟨g,o,none⟩)) 0).run prog w=.ok (.pointer (some ⟨g,o,none⟩)) w:=by kernel_rfl
theorem dh (g o:Nat)(w:World):(Instr.fieldAt 50 (.pointer (some ⟨g,o,none⟩)) 1).run prog w=.ok (.pointer (some ⟨g,o+2,none⟩)) w:=by kernel_rfl
theorem dA (m v o:Nat):∀ u ∈ (dc m v o).toList,u.oneCell'=true:=by
 intro u hu;simp[dc] at hu;rcases hu with rfl | rfl | rfl <;> rfl
theorem mB {l:List Nat}{j:Nat}(h:j<l.length):∃ a,l[j]?=some a∧a ∈ l:=⟨_,List.getElem?_eq_getElem h,List.getElem_mem h⟩
theorem Mx:enters prog 54=true:=by kernel_rfl
theorem Hv {S:er}(I:cF S)(Bo:Option Addr)(co:Nat)(Bm:Option Addr)(cm:Nat)(w:World)(y:gi w S Bo co Bm cm) :
  bz prog 54 [sf S.n (.slice Bo S.on.length co) (.slice Bm S.may.length cm)] w fun r w'=>r=.bool true∧aT w w':=by
 refine ar (N:=63) func54 Mx rfl rfl rfl (by simp) ?_;have H:=Hp.aC w;obtain ⟨n,on,may⟩:=S;obtain ⟨z,J,K,hlen,d,c,f,g⟩:=I;simp only at z J K hlen d c f g y;obtain ⟨q,o⟩:=y;simp only at q o;refine ak (γ:=Nat) (fun g1=>[(1,(ah g1)),(2,.bool false)]) (fun g1 w'=>Hp w ab w' [an g1 41 (bp n (.slice Bo on.length co) (.slice Bm may.length cm))] []) ?_ ?_
 ·refine H.box 41 _ (cs:=bp n (.slice Bo on.length co) (.slice Bm may.length cm)) rfl ?_;clear H;intro g1 M H;exact ⟨g1,⟨rfl,rfl,trivial⟩,H⟩
 clear H;rintro g1 u M H;refine ak (γ:=Nat) (fun g3=>[(3,(ah g3)),(4,.int .i64 0)]) (fun g3 w'=>Hp w ab w' [an g3 86 (sc (bu n)),an g1 41 (bp n (.slice Bo on.length co) (.slice Bm may.length cm))] []) ?_ ?_
 ·refine aa (iD _) ?_;refine H.load 0 rfl aE rfl ?_;refine aj (oI n z _) ?_;rintro _ O ⟨rfl,h⟩;replace H:=H.same h;clear h;refine H.alloc 86 (cs:=sc 0) br aZ ?_;clear H;intro g3 Q H;refine H.aV 0 rfl ?_;clear H;intro B H;exact ⟨g3,⟨rfl,rfl,trivial⟩,H⟩
 clear H;rintro g3 u O H;refine aw (fun w'=>Hp w ab w' [an g3 86 (sc (bu n)),an g1 41 (bp n (.slice Bo on.length co) (.slice Bm may.length cm))] []) ?_ ?_
 ·have V:¬ (on.length:Int)<1:=by omega
  have X:¬ (4:Int)<on.length:=by omega
  have Y:¬ (on.length:Int)≠may.length:=by omega
  refine ae rfl ?_;refine aa (ie _) ?_;refine ae rfl ?_;refine H.load 1 rfl eo rfl ?_;refine ae rfl ?_;refine ay underlying39 ?_
  iterate 2 refine ae rfl ?_
  refine ae (decide_eq_false (by assumption)) ?_;refine aa (ie _) ?_;refine ae (decide_eq_false (by assumption)) ?_;refine H.load 1 rfl eo rfl ?_;refine ae (decide_eq_false (by assumption)) ?_;refine ay underlying39 ?_
  iterate 3 refine ae (decide_eq_false (by assumption)) ?_
  refine aa (ie _) ?_;refine ae (decide_eq_false (by assumption)) ?_;refine H.load 1 rfl eo rfl ?_;refine ae (decide_eq_false (by assumption)) ?_;refine ay underlying39 ?_;refine ae (decide_eq_false (by assumption)) ?_;refine aa (fL _) ?_;refine ae (decide_eq_false (by assumption)) ?_;refine H.load 1 rfl eo rfl ?_;refine ae (decide_eq_false (by assumption)) ?_;refine ay underlying39 ?_
  iterate 2 refine ae (decide_eq_false (by assumption)) ?_
  refine ae (bne_eq_false_iff_eq.2 (by omega)) ?_;exact ⟨(),trivial,H⟩
 clear H;rintro ⟨⟩ u Q H;refine aw (fun w'=>Hp w ab w' [an g3 86 (sc (bu n)),an g1 41 (bp n (.slice Bo on.length co) (.slice Bm may.length cm))] []) ?_ ?_
 ·refine aa (ie _) ?_;refine H.load 1 rfl eo rfl ?_;refine ay underlying39 ?_;refine ax (γ:=Nat) (fun i=>[(39,.int .i64 (i:Int))]) (fun i w'=>i≤on.length∧Hp w ab w' [an g3 86 (sc (bu n)),an g1 41 (bp n (.slice Bo on.length co) (.slice Bm may.length cm))] []) (fun i=>on.length - i) 0 ⟨rfl,trivial⟩ ⟨Nat.zero_le _,H⟩ ?_;clear H;rintro i u B ⟨hi,H⟩;refine au (fun T=>?_) (fun T=>?_)
  ·obtain ⟨a,C,k⟩:=mB (l:=on) (j:=i) (by omega);obtain ⟨b,s,e⟩:=mB (l:=may) (j:=i) (by omega);obtain ⟨D,t,rfl⟩:=q.A (by omega);obtain ⟨E,p,rfl⟩:=o.A (by omega);refine aw (fun w'=>Hp w ab w' [an g3 86 (sc (bu n)),an g1 41 (bp n (.slice (some ⟨D,t,none⟩) on.length co) (.slice (some ⟨E,p,none⟩) may.length cm))] []) ?_ ?_
   ·refine ak (γ:=Nat) (fun g6=>[(5,.int .i64 (i:Int)),(6,(ah g6))]) (fun g6 w'=>Hp w ab w' [an g6 86 (sc a),an g3 86 (sc (bu n)),an g1 41 (bp n (.slice (some ⟨D,t,none⟩) on.length co) (.slice (some ⟨E,p,none⟩) may.length cm))] []) ?_ ?_
    ·refine aq underlying39 av i rfl (by omega) (o':=t+i*4) (by omega) ?_;refine Sl.dj H q bW aD av i rfl C ?_;refine H.alloc 86 (cs:=sc 0) br aZ ?_;clear H;intro g6 F H;refine H.aV (b:=a) 0 rfl ?_;clear H;intro G H;exact ⟨g6,⟨rfl,rfl,trivial⟩,H⟩
    clear H;rintro g6 u F H;have v:=(il (d a k)).2 (f i a b C s);have x:=(il (c b e)).2 (g b e);refine H.draw eN (by kernel_rfl) ?_;clear H;intro G H;refine quiet _ (fun w H=>H.ai 0 rfl aD av af) ?_;refine quiet _ (fun w H=>aa (fL _) af) ?_;refine quiet _ (fun w H=>H.load 2 rfl eo rfl af) ?_;refine quiet _ (fun w H=>aq underlying39 av i rfl (by omega) (o':=p+i*4) (by omega) af) ?_;refine quiet (sv b) (fun w H=>Sl.dj H o bW aD av i rfl s af) ?_;have m:=c85 a b (d a k) G;rw[v] at m;refine aj m ?_;clear m;rintro _ Z ⟨rfl,h⟩;replace H:=H.same h;clear h;refine ⟨.inl H,?_⟩;have m:=fun u=>c85 b (bu n) (c b e) u;rw[x] at m;refine ae rfl ?_;refine quiet _ (fun w H=>aa (fL _) af) ?_;refine ae rfl ?_;refine quiet _ (fun w H=>H.load 2 rfl eo rfl af) ?_
    iterate 2 refine ae rfl ?_
    refine quiet _ (fun w H=>aq underlying39 av i rfl (by omega) (o':=p+i*4) (by omega) af) ?_;refine ae rfl ?_;refine quiet (sv b) (fun w H=>Sl.dj H o bW aD av i rfl s af) ?_;refine ae rfl ?_;refine quiet _ (fun w H=>H.ai 1 rfl aD av af) ?_;refine ae rfl ?_;refine aj (m _) ?_;rintro _ U ⟨rfl,h⟩;replace H:=H.same h;clear h;refine ⟨.inl H,?_⟩
    iterate 3 refine ae rfl ?_
    exact ⟨(),trivial,H.forget⟩
   ·clear H;rintro ⟨⟩ u F H;exact ⟨i+1,by show on.length - (i+1)<on.length - i;omega,⟨up (by omega),trivial⟩,by show i+1≤on.length;omega,H⟩
  ·exact ⟨(),trivial,H⟩
 clear H;rintro ⟨⟩ u B H;exact ⟨rfl,H.keeps⟩
end Go.Proofs.YtpjihhgjbbihkaaGreatDoor
namespace Go.Dk
theorem Dl (f:Nat→Bool)(k:Nat):mkSet f k |||2^k=mkSet f k+2^k:=by
 have a:=ft f k;rw[Nat.or_comm];have:=Nat.two_pow_add_eq_or_of_lt a 1;simp at this;omega
end Go.Dk
namespace Go.Proofs.YtpjihhgjbbihkaaGreatDoor
open Go.Proofs.Tryz
open Go.Dk
set_option maxRecDepth 100000
attribute [local irreducible] IntKind.wrap
theorem Kg:enters prog 132=true:=by kernel_rfl
theorem Kh {S:er}(g:cF S)(m v:Nat)(hm:m<256)(F:v<256)(c:Value)(Bm:Option Addr)(cm:Nat)(w:World)(k:Sl w (.slice Bm S.may.length cm) 4 S.may.length (flat bL S.may))(G:c.oneCell'=true) :
  bz prog 132 [sf S.n c (.slice Bm S.may.length cm),cv m v] w fun r w'=>r=.int .u8 ((iI S m v:Nat):Int)∧aT w w':=by
 refine ar (N:=27) func132 Kg rfl rfl rfl (by simp) ?_;have H:=Hp.aC w;have I:S.may.length≤4:=by rw[g.len];exact g.few
 have o:=g.n8;unfold iI;obtain ⟨n,on,may⟩:=S;simp only at I k o;simp only;generalize p:(fun j=>yK m v (may.getD j 0) n)=f;have q:∀ j a,may[j]?=some a→f j=yK m v a n:=fun j a h=>by rw[← p];simp only[List.getD_eq_getElem?_getD,h];rfl
 refine ak (γ:=Nat × Nat) (fun (g2,g3)=>[(2,(ah g2)),(3,(ah g3)),(4,.int .u8 0)]) (fun (g2,g3) w'=>Hp w ab w' [an g3 48 (cc m v),an g2 41 (bp n c (.slice Bm may.length cm))] []) ?_ ?_
 ·refine H.box 41 _ (cs:=bp n c (.slice Bm may.length cm)) rfl ?_;clear H;intro g2 J H;refine H.box 48 (cv _ _) (cs:=cc m v) rfl ?_;clear H;intro g3 K H;exact ⟨(g2,g3),⟨rfl,rfl,rfl,trivial⟩,H⟩
 clear H;rintro ⟨g2,g3⟩ u J H;refine ak (γ:=Unit) (fun _=>[(5,.int .u8 0)]) (fun _ w'=>Hp w ab w' [an g3 48 (cc m v),an g2 41 (bp n c (.slice Bm may.length cm))] []) ⟨(),⟨rfl,trivial⟩,H⟩ ?_;clear H;rintro ⟨⟩ u K H;refine ak (γ:=Unit) (fun _=>[(5,.int .u8 ((mkSet f may.length:Nat):Int))]) (fun _ w'=>Hp w ab w' [] []) ?_ ?_
 ·refine aa (fL _) ?_;refine H.load 1 rfl eo rfl ?_;refine ay underlying39 ?_;refine ax (γ:=Nat) (fun i=>[(11,.int .i64 (i:Int)),(5,.int .u8 ((mkSet f i:Nat):Int))]) (fun i w'=>i≤may.length∧Hp w ab w' [an g3 48 (cc m v),an g2 41 (bp n c (.slice Bm may.length cm))] []) (fun i=>may.length - i) 0 ⟨rfl,rfl,trivial⟩ ⟨Nat.zero_le _,H⟩ ?_;clear H;rintro i u M ⟨hi,H⟩;refine au (fun O=>?_) (fun O=>?_)
  ·obtain ⟨a,z,B⟩:=mB (l:=may) (j:=i) (by omega);obtain ⟨C,s,rfl⟩:=k.A (by omega);have t:mkSet f i<16:=Nat.lt_of_lt_of_le (ft _ _) (show 2^i≤2^4 from Nat.pow_le_pow_right (by decide) (by omega));have d:=Dl f i;have e:mkSet f (i+1)=mkSet f i+if f i then 2^i else 0:=rfl;have y:=q i a z;generalize mkSet f i=x at t d e;refine ak (γ:=Unit) (fun _=>[(5,.int .u8 ((mkSet f (i+1):Nat):Int))]) (fun _ w'=>Hp w ab w' [an g3 48 (cc m v),an g2 41 (bp n c (.slice (some ⟨C,s,none⟩) may.length cm))] []) ?_ ?_
   ·refine ak (γ:=Nat) (fun g7=>[(6,.int .i64 (i:Int)),(7,(ah g7))]) (fun g7 w'=>Hp w ab w' [an g7 86 (sc a),an g3 48 (cc m v),an g2 41 (bp n c (.slice (some ⟨C,s,none⟩) may.length cm))] []) ?_ ?_
    ·refine aq underlying39 av i rfl (by omega) (o':=s+i*4) (by omega) ?_;refine Sl.dj H k bW aD av i rfl z ?_;refine H.alloc 86 (cs:=sc 0) br aZ ?_;clear H;intro g6 D H;refine H.aV (b:=a) 0 rfl ?_;clear H;intro Q H;exact ⟨g6,⟨rfl,rfl,trivial⟩,H⟩
    clear H;rintro g7 u D H;refine H.ai 1 rfl bl aJ ?_;refine H.ai 0 rfl aD av ?_;refine aa (iD _) ?_;refine H.load 2 rfl aE rfl ?_;refine aj (c160 m v a hm F n _) ?_;rintro _ Q ⟨rfl,E⟩;replace H:=H.same E;clear E;rw[e,y]
    cases yK m v a n with
    | true=>
     have T:x+2^i<256:=by have:2^i≤2^4:=Nat.pow_le_pow_right (by decide) (by omega);omega
     refine ag rfl ?_;refine cj (by omega) ?_;refine jq (by omega) (by omega) ?_;exact ⟨(),⟨by rw[if_pos rfl,← d];rfl,trivial⟩,H.forget⟩
    | false=>
     refine ae rfl ?_;exact ⟨(),⟨by rw[if_neg (by decide),Nat.add_zero];rfl,trivial⟩,H.forget⟩
   ·clear H;rintro ⟨⟩ u D H;exact ⟨i+1,by show may.length - (i+1)<may.length - i;omega,⟨up (by omega),rfl,trivial⟩,by show i+1≤may.length;omega,H⟩
  ·have:i=may.length:=by omega
   subst this;exact ⟨(),⟨rfl,trivial⟩,(H.forget).forget⟩
 clear H;rintro ⟨⟩ u M H;exact ⟨rfl,H.keeps⟩
theorem Ki:enters prog 130=true:=by kernel_rfl
theorem c130 {S:er}(c:cF S)(m v o:Nat)(hm:m<256)(g:v<256)(q:o<256)(Bo:Option Addr)(co:Nat)(Bm:Option Addr)(cm:Nat)(w:World)(e:gi w S Bo co Bm cm) :
  bz prog 130 [sf S.n (.slice Bo S.on.length co) (.slice Bm S.may.length cm),mA m v o] w fun r w'=>r=.bool (sw S m v o)∧aT w w':=by
 refine ar (N:=22) func130 Ki rfl rfl rfl (by simp) ?_;have H:=Hp.aC w;have h:S.may.length≤4:=by rw[c.len];exact c.few
 have i:=yL h m v;refine ak (γ:=Nat × Nat) (fun (g2,g3)=>[(2,(ah g2)),(3,(ah g3)),(4,.bool false)]) (fun (g2,g3) w'=>Hp w ab w' [an g3 50 (dc m v o),an g2 41 (bp S.n (.slice Bo S.on.length co) (.slice Bm S.may.length cm))] []) ?_ ?_
 ·refine H.box 41 _ (cs:=bp S.n (.slice Bo S.on.length co) (.slice Bm S.may.length cm)) rfl ?_;clear H;intro g2 k H;refine H.box 50 (mA m v o) (cs:=dc m v o) rfl ?_;clear H;intro g3 l H;exact ⟨(g2,g3),⟨rfl,rfl,rfl,trivial⟩,H⟩
 clear H;rintro ⟨g2,g3⟩ u k H;refine H.draw eN (by kernel_rfl) ?_;clear H;intro l H;refine quiet _ (fun w H=>H.ai 1 rfl dz bH af) ?_;refine aj (Hv c Bo co Bm cm _ (e.same H.keeps)) ?_;rintro _ s ⟨rfl,a⟩;replace H:=H.same a;clear a;refine ⟨.inl H,?_⟩;unfold sw;by_cases f:0<o
 ·rw[decide_eq_true f];have d:(0:Int)<o:=by omega
  refine ag rfl ?_;refine quiet _ (fun w H=>aa (dh _ _) af) ?_;refine ag rfl ?_;refine quiet _ (fun w H=>H.load 0 rfl b7 rfl af) ?_
  iterate 2 refine ag rfl ?_
  refine ag (decide_eq_true (by assumption)) ?_;refine quiet _ (fun w H=>aa (dh _ _) af) ?_;refine ag (decide_eq_true (by assumption)) ?_;refine quiet _ (fun w H=>H.load 0 rfl b7 rfl af) ?_;refine ag (decide_eq_true (by assumption)) ?_;refine quiet _ (fun w H=>H.ai 1 rfl dz bH af) ?_;refine ag (decide_eq_true (by assumption)) ?_;refine quiet _ (fun w H=>aa (fC _ _) af) ?_;refine ag (decide_eq_true (by assumption)) ?_;refine quiet (cv m v) (fun w H=>H.cB 0 rfl [.int .u8 (m:Int),.int .u8 (v:Int)] bl aJ (fun j u b=>by match j,b with | 0,b=>exact b | 1,b=>exact b) af) ?_;refine ag (decide_eq_true (by assumption)) ?_;refine aj (Kh c m v hm g _ Bm cm _ (e.may.same H.keeps) rfl) ?_;rintro _ p ⟨rfl,a⟩;replace H:=H.same a;clear a;refine ⟨.inl H,?_⟩;refine ag (decide_eq_true (by assumption)) ?_;refine quiet _ (fun w H=>jF (by omega) (by omega) af) ?_
  iterate 2 refine ag (decide_eq_true (by assumption)) ?_
  refine ⟨congrArg Value.bool ?_,H.keeps⟩;rw[Bool.true_and,Bool.eq_iff_iff,beq_iff_eq,beq_iff_eq];omega
 ·rw[decide_eq_false f];have d:¬ (0:Int)<o:=by omega
  refine ag rfl ?_;refine quiet _ (fun w H=>aa (dh _ _) af) ?_;refine ag rfl ?_;refine quiet _ (fun w H=>H.load 0 rfl b7 rfl af) ?_
  iterate 2 refine ag rfl ?_
  iterate 9 refine ae (decide_eq_false (by assumption)) ?_
  exact ⟨rfl,H.keeps⟩
end Go.Proofs.YtpjihhgjbbihkaaGreatDoor
namespace Go.Dk
def ba (S:er)(m v o:Nat):Nat→Nat × Nat
 | 0=>(m,v)
 | k+1=>if sw S (fq (ba S m v o k).1 k) ((ba S m v o k).2 &&&fq (ba S m v o k).1 k) o then (fq (ba S m v o k).1 k,(ba S m v o k).2 &&&fq (ba S m v o k).1 k) else ba S m v o k
theorem qt {S:er}{m v o:Nat}(hm:m<256)(a:v<256):∀ k,(ba S m v o k).1<256∧(ba S m v o k).2<256
 | 0=>⟨hm,a⟩
 | k+1=>by
  have h:=qt (S:=S) (o:=o) hm a k;unfold ba;split
  ·exact ⟨lT h.1 k,cf h.2 _⟩
  ·exact h
end Go.Dk
namespace Go.Proofs.YtpjihhgjbbihkaaGreatDoor
open Go.Proofs.Tryz
open Go.Dk
set_option maxRecDepth 100000
attribute [local irreducible] IntKind.wrap
theorem lH {m v o:Nat}{w:World}{kk:Value→World→Prop}(h:kk (mA m v o) w):b6 prog 50 [(0,cv m v),(1,.int .u8 (o:Int))] w kk:=
 bx (fun w=>by kernel_rfl) h
theorem My:enters prog 91=true:=by kernel_rfl
theorem c91 {S:er}(i:cF S)(m v o:Nat)(hm:m<256)(s:v<256)(C:o<256)(h:sw S m v o=true)(Bo:Option Addr)(co:Nat)(Bm:Option Addr)(cm:Nat)(w:World)(t:gi w S Bo co Bm cm) :
  bz prog 91 [sf S.n (.slice Bo S.on.length co) (.slice Bm S.may.length cm),mA m v o] w fun r w'=>
   r=.tuple #[mA (ba S m v o S.n).1 (ba S m v o S.n).2 (iI S (ba S m v o S.n).1 (ba S m v o S.n).2),.int .i64 0]∧aT w w':=by
 refine ar (N:=36) func91 My rfl rfl rfl (by simp) ?_;have H:=Hp.aC w;have G:=i.n8;have O:S.may.length≤4:=by rw[i.len];exact i.few
 refine ak (γ:=Nat × Nat × Nat) (fun (g2,g3,g4)=>[(2,(ah g2)),(3,(ah g3)),(4,(ah g4)),(5,.int .i64 0)]) (fun (g2,g3,g4) w'=>Hp w ab w' [an g4 50 (dc 0 0 0),an g3 50 (dc m v o),an g2 41 (bp S.n (.slice Bo S.on.length co) (.slice Bm S.may.length cm))] []) ?_ ?_
 ·refine H.box 41 _ (cs:=bp S.n (.slice Bo S.on.length co) (.slice Bm S.may.length cm)) rfl ?_;clear H;intro g2 I H;refine H.box 50 (mA m v o) (cs:=dc m v o) rfl ?_;clear H;intro g3 D H;refine H.alloc 50 (cs:=dc 0 0 0) ic rfl ?_;clear H;intro g4 p H;exact ⟨(g2,g3,g4),⟨rfl,rfl,rfl,rfl,trivial⟩,H⟩
 clear H;rintro ⟨g2,g3,g4⟩ u I H;refine aw (fun w'=>Hp w ab w' [an g4 50 (dc 0 0 0),an g3 50 (dc m v o),an g2 41 (bp S.n (.slice Bo S.on.length co) (.slice Bm S.may.length cm))] []) ?_ ?_
 ·have y:=fun u=>c130 i m v o hm s C Bo co Bm cm u;rw[h] at y;refine H.ai 2 rfl dz bH ?_;refine H.ai 1 rfl fo aX ?_;refine aj (y _ (t.same H.keeps)) ?_;clear y;rintro _ D ⟨rfl,l⟩;replace H:=H.same l;clear l;refine ae rfl ?_;exact ⟨(),trivial,H⟩
 clear H;rintro ⟨⟩ u D H;refine aw (fun w'=>Hp w ab w' [an g4 50 (dc 0 0 0),an g3 50 (dc (ba S m v o S.n).1 (ba S m v o S.n).2 o),an g2 41 (bp S.n (.slice Bo S.on.length co) (.slice Bm S.may.length cm))] []) ?_ ?_
 ·refine aa (iD _) ?_;refine H.load 2 rfl aE rfl ?_;refine ax (γ:=Nat) (fun k=>[(15,.int .i64 (k:Int))]) (fun k w'=>k≤S.n∧Hp w ab w' [an g4 50 (dc 0 0 0),an g3 50 (dc (ba S m v o k).1 (ba S m v o k).2 o),an g2 41 (bp S.n (.slice Bo S.on.length co) (.slice Bm S.may.length cm))] []) (fun k=>S.n - k) 0 ⟨rfl,trivial⟩ ⟨Nat.zero_le _,H⟩ ?_;clear H;rintro k u p ⟨l,H⟩;obtain ⟨a,b⟩:=qt (S:=S) (o:=o) hm s k;have f:ba S m v o (k+1)=if sw S (fq (ba S m v o k).1 k) ((ba S m v o k).2 &&&fq (ba S m v o k).1 k) o then (fq (ba S m v o k).1 k,(ba S m v o k).2 &&&fq (ba S m v o k).1 k) else ba S m v o k:=rfl;generalize z:ba S m v o k=c at a b f H;obtain ⟨m',d⟩:=c;replace H:Hp w ab p [an g4 50 (dc 0 0 0),an g3 50 (dc m' d o),an g2 41 (bp S.n (.slice Bo S.on.length co) (.slice Bm S.may.length cm))] []:=H;simp only at a b f;refine au (fun J=>?_) (fun J=>?_)
  ·refine aw (fun w'=>Hp w ab w' [an g4 50 (dc 0 0 0),an g3 50 (dc (ba S m v o (k+1)).1 (ba S m v o (k+1)).2 o),an g2 41 (bp S.n (.slice Bo S.on.length co) (.slice Bm S.may.length cm))] []) ?_ ?_
   ·refine ak (γ:=Unit) (fun _=>[(6,.int .i64 (k:Int))]) (fun _ w'=>Hp w ab w' [an g4 50 (dc 0 0 0),an g3 50 (dc m' d o),an g2 41 (bp S.n (.slice Bo S.on.length co) (.slice Bm S.may.length cm))] []) ⟨(),⟨rfl,trivial⟩,H⟩ ?_;clear H;rintro ⟨⟩ u q H;refine ak (γ:=Nat) (fun g9=>[(7,(ah g9))]) (fun g9 w'=>Hp w ab w' [an g9 50 (dc (fq m' k) (d &&&fq m' k) o),an g4 50 (dc 0 0 0),an g3 50 (dc m' d o),an g2 41 (bp S.n (.slice Bo S.on.length co) (.slice Bm S.may.length cm))] []) ?_ ?_
    ·refine gH (fun u=>Hp w ab u [an g4 50 (dc 0 0 0),an g3 50 (dc m' d o),an g2 41 (bp S.n (.slice Bo S.on.length co) (.slice Bm S.may.length cm))] []) [([3,7,8],[0,1,2,4,5,3,6,7,8]),([7,3,8],[0,1,2,4,5,7,3,6,8])] eN (by kernel_rfl) (H.same (aS.drew _)) ?_;replace H:=H.same (aS.drew _);generalize q.drew=E at H;intro x F;simp only[List.mem_cons,List.not_mem_nil,or_false] at F;rcases F with rfl | rfl
     ·refine quiet _ (fun w H=>aa (fC _ _) af) ?_;refine quiet (cv m' d) (fun w H=>H.cB 1 rfl [.int .u8 (m':Int),.int .u8 (d:Int)] bl aJ (fun j u e=>by match j,e with | 0,e=>exact e | 1,e=>exact e) af) ?_;refine quiet _ (fun w H=>aa (dh _ _) af) ?_;refine quiet _ (fun w H=>H.load 1 rfl b7 rfl af) ?_;refine aj (c131 m' d k a b (by omega) _) ?_;rintro _ A ⟨rfl,g⟩;replace H:=H.same g;clear g;refine ⟨.inl H,?_⟩;refine quiet _ (fun w H=>lH af) ?_;refine H.alloc 50 (cs:=dc 0 0 0) ic rfl ?_;clear H;intro g9 Q H;refine ⟨.inl H.forget,?_⟩;refine H.storeAll 0 rfl aX rfl (dA _ _ _) ?_;clear H;intro K H;refine ⟨.inl H.forget,?_⟩;exact ⟨g9,⟨rfl,trivial⟩,H⟩
     ·refine quiet _ (fun w H=>aa (fC _ _) af) ?_;refine quiet (cv m' d) (fun w H=>H.cB 1 rfl [.int .u8 (m':Int),.int .u8 (d:Int)] bl aJ (fun j u e=>by match j,e with | 0,e=>exact e | 1,e=>exact e) af) ?_;refine quiet _ (fun w H=>aa (dh _ _) af) ?_;refine quiet _ (fun w H=>H.load 1 rfl b7 rfl af) ?_;refine H.alloc 50 (cs:=dc 0 0 0) ic rfl ?_;clear H;intro g9 A H;refine ⟨.inl H.forget,?_⟩;refine aj (c131 m' d k a b (by omega) _) ?_;rintro _ M ⟨rfl,g⟩;replace H:=H.same g;clear g;refine ⟨.inl H.forget,?_⟩;refine quiet _ (fun w H=>lH af) ?_;refine H.storeAll 0 rfl aX rfl (dA _ _ _) ?_;clear H;intro K H;refine ⟨.inl H.forget,?_⟩;exact ⟨g9,⟨rfl,trivial⟩,H⟩
    clear H;rintro g9 u E H;refine H.ai 3 rfl dz bH ?_;refine H.ai 0 rfl fo aX ?_;refine aj (c130 i _ _ o (lT a k) (cf b _) C Bo co Bm cm _ (t.same H.keeps)) ?_;rintro _ A ⟨rfl,B⟩;replace H:=H.same B;rw[f]
    cases hb:sw S (fq m' k) (d &&&fq m' k) o with
    | true=>
     refine ag rfl ?_;refine H.ai 0 rfl fo aX ?_;refine H.storeAll 2 rfl aX rfl (dA _ _ _) ?_;clear H;intro M H;exact ⟨(),trivial,by rw[if_pos rfl];exact H.forget⟩
    | false=>
     refine ae rfl ?_;exact ⟨(),trivial,by rw[if_neg (by decide)];exact H.forget⟩
   ·clear H;rintro ⟨⟩ u q H;exact ⟨k+1,by show S.n - (k+1)<S.n - k;omega,⟨up (by omega),trivial⟩,by show k+1≤S.n;omega,H⟩
  ·have:k=S.n:=by omega
   subst this;exact ⟨(),trivial,by rw[z];exact H⟩
 clear H;rintro ⟨⟩ u p H;obtain ⟨a,b⟩:=qt (S:=S) (o:=o) hm s S.n;generalize ba S m v o S.n=c at a b H;obtain ⟨m',d⟩:=c;replace H:Hp w ab p [an g4 50 (dc 0 0 0),an g3 50 (dc m' d o),an g2 41 (bp S.n (.slice Bo S.on.length co) (.slice Bm S.may.length cm))] []:=H;simp only at a b;refine aw (fun w'=>Hp w ab w' [an g4 50 (dc 0 0 0),an g3 50 (dc m' d (iI S m' d)),an g2 41 (bp S.n (.slice Bo S.on.length co) (.slice Bm S.may.length cm))] []) ?_ ?_
 ·refine H.ai 2 rfl dz bH ?_;refine aa (fC _ _) ?_;refine H.cB 1 rfl [.int .u8 (m':Int),.int .u8 (d:Int)] bl aJ (fun j u e=>by match j,e with | 0,e=>exact e | 1,e=>exact e) ?_;refine aj (Kh i m' d a b _ Bm cm _ (t.may.same H.keeps) rfl) ?_;rintro _ q ⟨rfl,l⟩;replace H:=H.same l;refine aa (dh _ _) ?_;refine H.store 1 rfl kT (Nat.le_of_ble_eq_true rfl) rfl ?_;clear H;intro A H;exact ⟨(),trivial,H⟩
 clear H;rintro ⟨⟩ u q H;refine H.ai 1 rfl fo aX ?_;refine H.storeAll 0 rfl aX rfl (dA _ _ _) ?_;clear H;intro E H;refine H.ai 0 rfl fo aX ?_;refine ⟨rfl,?_⟩;exact ⟨rfl,H.keeps⟩
end Go.Proofs.YtpjihhgjbbihkaaGreatDoor
namespace Go.Dk
abbrev Rw:=Nat × Nat × Nat
structure im (n k:Nat) (x:Rw):Prop where
 m:x.1<256
 v:x.2.1<256
 o:x.2.2<256
 right:dr x.1 x.2.1 n=true
 some:0<x.2.2
 few:x.2.2<2^k
def hK (n out:Nat)(l:List Rw):Nat:=l.foldl (fun s x=>if x.2.2.testBit out then s |||bc x.1 x.2.1 n else s) 0
theorem Dm (n out:Nat)(l:List Rw)(x:Rw):hK n out (l++[x])=if x.2.2.testBit out then hK n out l |||bc x.1 x.2.1 n else hK n out l:=by
 unfold hK;rw[List.foldl_append];rfl
theorem vC (n out p:Nat):∀ (l:List Rw) (s:Nat),(l.foldl (fun s x=>if x.2.2.testBit out then s |||bc x.1 x.2.1 n else s) s).testBit p=true↔s.testBit p=true∨∃ x ∈ l,x.2.2.testBit out=true∧(bc x.1 x.2.1 n).testBit p=true
 | [],s=>by simp
 | x::l,s=>by
  rw[List.foldl_cons,vC n out p l]
  cases hx:x.2.2.testBit out with
  | true=>simp[hx,or_assoc]
  | false=>simp[hx]
theorem gQ {n out p:Nat}{l:List Rw}:(hK n out l).testBit p=true↔∃ x ∈ l,x.2.2.testBit out=true∧(bc x.1 x.2.1 n).testBit p=true:=by
 unfold hK;rw[vC];simp
theorem wR (n out:Nat)(l:List Rw):hK n out l<2^256:=by
 refine Nat.lt_pow_two_of_testBit _ fun p a=>?_;rw[Bool.eq_false_iff];intro h;obtain ⟨x,_,_,h⟩:=gQ.1 h;rw[kH (pT _ _ _) a] at h
 cases h
def bD (S:er)(l:List Rw):Bool:=(List.range S.on.length).all fun j=>(bQ (S.on.getD j 0) (hK S.n j l)==0)&&(bQ (hK S.n j l) (S.may.getD j 0)==0)
end Go.Dk
namespace Go.Proofs.YtpjihhgjbbihkaaGreatDoor
open Go.Proofs.Tryz
open Go.Dk
set_option maxRecDepth 100000
attribute [local irreducible] IntKind.wrap
def bd (x:Rw):List Value:=[.int .u8 (x.1:Int),.int .u8 (x.2.1:Int),.int .u8 (x.2.2:Int)]
theorem bR (x:Rw):(bd x).length=3:=rfl
theorem lU {l:List Rw}{j:Nat}(h:j<l.length):∃ x,l[j]?=some x∧x ∈ l:=⟨_,List.getElem?_eq_getElem h,List.getElem_mem h⟩
theorem iZ {α:Type}{l:List α}{j:Nat}{x:α}(h:l[j]?=some x):l.take (j+1)=l.take j++[x]:=by rw[List.take_add_one,h];rfl
theorem Mz:enters prog 59=true:=by kernel_rfl
theorem c59 {S:er}(h:cF S)(l:List Rw)(z:∀ x ∈ l,im S.n S.on.length x)(B:l.length≤9223372036854775807)(Bo:Option Addr)(co:Nat)(a:Value)(C:a.oneCell'=true)(A:Option Addr)(c:Nat)(w:World)(O:Sl w (.slice Bo S.on.length co) 4 S.on.length (flat bL S.on))(k:Sl w (.slice A l.length c) 3 l.length (flat bd l)) :
  bz prog 59 [sf S.n (.slice Bo S.on.length co) a,.slice A l.length c] w fun r w'=>r=.bool true∧aT w w':=by
 refine ar (N:=35) func59 Mz rfl rfl rfl (by simp) ?_;have H:=Hp.aC w;have Q:=h.n8;have D:=h.few;refine ak (γ:=Nat) (fun g2=>[(2,(ah g2)),(4,.bool false)]) (fun g2 w'=>Hp w ab w' [an g2 41 (bp S.n (.slice Bo S.on.length co) a)] []) ?_ ?_
 ·refine H.box 41 _ (cs:=bp S.n (.slice Bo S.on.length co) a) rfl ?_;clear H;intro g2 E H;exact ⟨g2,⟨rfl,rfl,trivial⟩,H⟩
 clear H;rintro g2 u E H;refine aw (fun w'=>Hp w ab w' [an g2 41 (bp S.n (.slice Bo S.on.length co) a)] []) ?_ ?_
 ·refine ay underlying44 ?_;refine ax (γ:=Nat) (fun i=>[(9,.int .i64 (i:Int))]) (fun i w'=>i≤l.length∧Hp w ab w' [an g2 41 (bp S.n (.slice Bo S.on.length co) a)] []) (fun i=>l.length - i) 0 ⟨rfl,trivial⟩ ⟨Nat.zero_le _,H⟩ ?_;clear H;rintro i u F ⟨hi,H⟩;refine au (fun G=>?_) (fun G=>?_)
  ·obtain ⟨x,I,d⟩:=lU (l:=l) (j:=i) (by omega);obtain ⟨hm,p,J,q,b,e⟩:=z x d;obtain ⟨m,v,o⟩:=x;simp only at hm p J q b e;obtain ⟨T,K,rfl⟩:=k.A (by omega);refine aw (fun w'=>Hp w ab w' [an g2 41 (bp S.n (.slice Bo S.on.length co) a)] []) ?_ ?_
   ·refine ak (γ:=Nat) (fun g6=>[(6,(ah g6))]) (fun g6 w'=>Hp w ab w' [an g6 50 (dc m v o),an g2 41 (bp S.n (.slice Bo S.on.length co) a)] []) ?_ ?_
    ·refine aq underlying44 aX i rfl (by omega) (o':=K+i*3) (by omega) ?_;refine Sl.dj H k bR fo aX i rfl I ?_;refine H.alloc 50 (cs:=dc 0 0 0) ic rfl ?_;clear H;intro g6 s H;refine H.storeAll (cs':=dc m v o) 0 rfl aX rfl (dA _ _ _) ?_;clear H;intro t H;exact ⟨g6,⟨rfl,trivial⟩,H⟩
    clear H;rintro g6 u s H;have M:2^S.on.length≤2^4:=Nat.pow_le_pow_right (by decide) D;have U:((o:Int)==0)=false:=by rw[beq_eq_false_iff_ne];omega
    have V:¬ ((2^S.on.length:Nat):Int)≤o:=by omega
    refine H.draw eN (by kernel_rfl) ?_;clear H;intro t H;refine quiet _ (fun w H=>aa (fC _ _) af) ?_;refine quiet (cv m v) (fun w H=>H.cB 0 rfl [.int .u8 (m:Int),.int .u8 (v:Int)] bl aJ (fun j u f=>by match j,f with | 0,f=>exact f | 1,f=>exact f) af) ?_;refine quiet _ (fun w H=>aa (iD _) af) ?_;refine quiet _ (fun w H=>H.load 1 rfl aE rfl af) ?_;have g:=c75 m v hm p (S.n:Int) t;rw[q] at g;refine aj g ?_;clear g;rintro _ X ⟨rfl,y⟩;replace H:=H.same y;clear y;refine ⟨.inl H,?_⟩;refine ae rfl ?_;refine quiet _ (fun w H=>aa (dh _ _) af) ?_;refine ae rfl ?_;refine quiet _ (fun w H=>H.load 0 rfl b7 rfl af) ?_
    iterate 2 refine ae rfl ?_
    refine ae (by assumption) ?_;refine quiet _ (fun w H=>aa (dh _ _) af) ?_;refine ae (by assumption) ?_;refine quiet _ (fun w H=>H.load 0 rfl b7 rfl af) ?_;refine ae (by assumption) ?_;refine quiet _ (fun w H=>eF (by kernel_rfl) underlying3 (by omega) (by omega) af) ?_;refine ae (by assumption) ?_;refine quiet _ (fun w H=>aa (ie _) af) ?_;refine ae (by assumption) ?_;refine quiet _ (fun w H=>H.load 1 rfl eo rfl af) ?_;refine ae (by assumption) ?_;refine quiet _ (fun w H=>ay underlying39 af) ?_;refine ae (by assumption) ?_;refine quiet _ (fun w H=>dk (by omega) af) ?_
    iterate 2 refine ae (by assumption) ?_
    refine ae (decide_eq_false (by assumption)) ?_;exact ⟨(),trivial,H.forget⟩
   ·clear H;rintro ⟨⟩ u s H;exact ⟨i+1,by show l.length - (i+1)<l.length - i;omega,⟨congrArg (Value.int .i64) (aH (x:=((i:Int)+1)) (by omega) (by omega)),trivial⟩,by show i+1≤l.length;omega,H⟩
  ·exact ⟨(),trivial,H⟩
 clear H;rintro ⟨⟩ u F H;exact ⟨rfl,H.keeps⟩
theorem Kj:enters prog 133=true:=by kernel_rfl
theorem Ot (n out:Nat)(Q:n≤8)(q:out<4)(l:List Rw){kk:Nat}(E:∀ x ∈ l,im n kk x)(F:l.length≤1000000)(A:Option Addr)(c:Nat)(w:World)(s:Sl w (.slice A l.length c) 3 l.length (flat bd l)) :
  bz prog 133 [.slice A l.length c,.int .i64 (n:Int),.int .i64 (out:Int)] w fun r w'=>r=.tuple #[sv (hK n out l),.int .i64 0]∧aT w w':=by
 refine ar (N:=56) func133 Kj rfl rfl rfl (by simp) ?_;have H:=Hp.aC w;refine ak (γ:=Nat) (fun g6=>[(6,(ah g6)),(7,.int .i64 0)]) (fun g6 w'=>Hp w ab w' [an g6 86 (sc 0)] []) ?_ ?_
 ·refine H.alloc 86 (cs:=sc 0) br aZ ?_;clear H;intro g6 t H;exact ⟨g6,⟨rfl,rfl,trivial⟩,H⟩
 clear H;rintro g6 u t H;refine aw (fun w'=>Hp w ab w' [an g6 86 (sc 0)] []) ?_ ?_
 ·have S:¬ (n:Int)<0:=by omega
  have T:¬ (8:Int)<n:=by omega
  have U:¬ (out:Int)<0:=by omega
  have V:¬ (4:Int)≤out:=by omega
  iterate 3 refine ae rfl ?_
  iterate 3 refine ae (decide_eq_false (by assumption)) ?_
  iterate 3 refine ae rfl ?_
  refine ae (decide_eq_false (by assumption)) ?_;exact ⟨(),trivial,H⟩
 clear H;rintro ⟨⟩ u G H;refine ak (γ:=Nat) (fun g8=>[(8,(ah g8))]) (fun g8 w'=>Hp w ab w' [an g8 86 (sc 0),an g6 86 (sc 0)] []) ?_ ?_
 ·refine H.alloc 86 (cs:=sc 0) br aZ ?_;clear H;intro g8 t H;exact ⟨g8,⟨rfl,trivial⟩,H⟩
 clear H;rintro g8 u G H;refine aw (fun w'=>Hp w ab w' [an g8 86 (sc (hK n out l)),an g6 86 (sc 0)] []) ?_ ?_
 ·refine ay underlying44 ?_;refine ax (γ:=Nat) (fun i=>[(30,.int .i64 (i:Int))]) (fun i w'=>i≤l.length∧Hp w ab w' [an g8 86 (sc (hK n out (l.take i))),an g6 86 (sc 0)] []) (fun i=>l.length - i) 0 ⟨rfl,trivial⟩ ⟨Nat.zero_le _,H⟩ ?_;clear H;rintro i u I ⟨hi,H⟩;refine au (fun J=>?_) (fun J=>?_)
  ·obtain ⟨x,y,e⟩:=lU (l:=l) (j:=i) (by omega);have a:=Dm n out (l.take i) x;rw[← iZ y] at a;obtain ⟨hm,z,B,C,d,f⟩:=E x e;obtain ⟨m,v,o⟩:=x;simp only at hm z B C d f a;obtain ⟨X,K,rfl⟩:=s.A (by omega);generalize hK n out (l.take i)=s0 at H a;refine aw (fun w'=>Hp w ab w' [an g8 86 (sc (hK n out (l.take (i+1)))),an g6 86 (sc 0)] []) ?_ ?_
   ·refine ak (γ:=Nat) (fun g10=>[(10,(ah g10))]) (fun g10 w'=>Hp w ab w' [an g10 50 (dc m v o),an g8 86 (sc s0),an g6 86 (sc 0)] []) ?_ ?_
    ·refine aq underlying44 aX i rfl (by omega) (o':=K+i*3) (by omega) ?_;refine Sl.dj H s bR fo aX i rfl y ?_;refine H.alloc 50 (cs:=dc 0 0 0) ic rfl ?_;clear H;intro g10 h H;refine H.storeAll (cs':=dc m v o) 0 rfl aX rfl (dA _ _ _) ?_;clear H;intro D H;exact ⟨g10,⟨rfl,trivial⟩,H⟩
    clear H;rintro g10 u h H;refine ak (γ:=Nat) (fun g11=>[(11,(ah g11)),(12,.int .i64 0)]) (fun g11 w'=>Hp w ab w' [an g11 86 (sc (bc m v n)),an g10 50 (dc m v o),an g8 86 (sc s0),an g6 86 (sc 0)] []) ?_ ?_
    ·refine aa (fC _ _) ?_;refine H.cB 0 rfl [.int .u8 (m:Int),.int .u8 (v:Int)] bl aJ (fun j u g=>by match j,g with | 0,g=>exact g | 1,g=>exact g) ?_;have p:=N9 m v hm z (n:Int) h;rw[C,if_pos rfl,Int.toNat_natCast] at p;refine aj p ?_;clear p;rintro _ D ⟨rfl,k⟩;replace H:=H.same k;clear k;refine H.alloc 86 (cs:=sc 0) br aZ ?_;clear H;intro g11 M H;refine H.aV 0 rfl ?_;clear H;intro O H;exact ⟨g11,⟨rfl,rfl,trivial⟩,H⟩
    clear H;rintro g11 u D H;refine aw (fun w'=>Hp w ab w' [an g11 86 (sc (bc m v n)),an g10 50 (dc m v o),an g8 86 (sc s0),an g6 86 (sc 0)] []) ?_ ?_
    ·refine ae rfl ?_;exact ⟨(),trivial,H⟩
    clear H;rintro ⟨⟩ u M H;refine aa (dh _ _) ?_;refine H.load 1 rfl b7 rfl ?_;refine fj (by omega) ?_;refine eg (b:=1) (Nat.lt_of_le_of_lt (Nat.div_le_self _ _) B) (by omega) ?_;rw[a]
    cases hob:o.testBit out with
    | true=>
     refine ag ((cQ o out).trans hob) ?_;refine H.ai 2 rfl aD av ?_;refine H.ai 0 rfl aD av ?_;refine aj (LU _ _ _) ?_;rintro _ O ⟨rfl,k⟩;replace H:=H.same k;refine H.aV 2 rfl ?_;clear H;intro Y H;exact ⟨(),trivial,by rw[if_pos rfl];exact H.forget.forget⟩
    | false=>
     refine ae ((cQ o out).trans hob) ?_;exact ⟨(),trivial,by rw[if_neg (by decide)];exact H.forget.forget⟩
   ·clear H;rintro ⟨⟩ u h H;exact ⟨i+1,by show l.length - (i+1)<l.length - i;omega,⟨up (by omega),trivial⟩,by show i+1≤l.length;omega,H⟩
  ·have:i=l.length:=by omega
   subst this;exact ⟨(),trivial,by rw[List.take_length] at H;exact H⟩
 clear H;rintro ⟨⟩ u I H;refine H.ai 0 rfl aD av ?_;refine H.aV 1 rfl ?_;clear H;intro h H;refine H.ai 1 rfl aD av ?_;exact ⟨rfl,rfl,H.keeps⟩
theorem MA:enters prog 92=true:=by kernel_rfl
theorem O9 {S:er}(k:cF S)(l:List Rw)(J:∀ x ∈ l,im S.n S.on.length x)(y:l.length≤1000000)(Bo:Option Addr)(co:Nat)(Bm:Option Addr)(cm:Nat)(A:Option Addr)(c:Nat)(w:World)(g:gi w S Bo co Bm cm)(K:Sl w (.slice A l.length c) 3 l.length (flat bd l)) :
  bz prog 92 [sf S.n (.slice Bo S.on.length co) (.slice Bm S.may.length cm),.slice A l.length c] w fun r w'=>r=.bool (bD S l)∧aT w w':=by
 refine ar (N:=49) func92 MA rfl rfl rfl (by simp) ?_;have H:=Hp.aC w;have Z:=k.n8;have h4:=k.few;have a0:=k.len;refine ak (γ:=Nat) (fun g2=>[(2,(ah g2)),(4,.bool false)]) (fun g2 w'=>Hp w ab w' [an g2 41 (bp S.n (.slice Bo S.on.length co) (.slice Bm S.may.length cm))] []) ?_ ?_
 ·refine H.box 41 _ (cs:=bp S.n (.slice Bo S.on.length co) (.slice Bm S.may.length cm)) rfl ?_;clear H;intro g2 w1 H;exact ⟨g2,⟨rfl,rfl,trivial⟩,H⟩
 clear H;rintro g2 u w1 H;refine aw (fun w'=>Hp w ab w' [an g2 41 (bp S.n (.slice Bo S.on.length co) (.slice Bm S.may.length cm))] []) ?_ ?_
 ·refine H.ai 0 rfl dz bH ?_;refine aj (Hv k Bo co Bm cm _ (g.same H.keeps)) ?_;rintro _ w3 ⟨rfl,d⟩;replace H:=H.same d;clear d;refine ae rfl ?_;refine H.ai 0 rfl dz bH ?_
  iterate 2 refine ae rfl ?_
  refine aj (c59 k l J (by omega) Bo co _ rfl A c _ (g.on.same H.keeps) (K.same H.keeps)) ?_;rintro _ w10 ⟨rfl,d⟩;replace H:=H.same d;clear d
  iterate 3 refine ae rfl ?_
  exact ⟨(),trivial,H⟩
 clear H;rintro ⟨⟩ u w2 H;have m:bD S l=(List.range S.on.length).all fun j=>(bQ (S.on.getD j 0) (hK S.n j l)==0)&&(bQ (hK S.n j l) (S.may.getD j 0)==0):=rfl;refine aw (fun w'=>bD S l=true∧Hp w ab w' [] []) ?_ ?_
 ·refine aa (ie _) ?_;refine H.load 0 rfl eo rfl ?_;refine ay underlying39 ?_;refine ax (γ:=Nat) (fun i=>[(21,.int .i64 (i:Int))]) (fun i w'=>(i≤S.on.length∧∀ j,j<i→((bQ (S.on.getD j 0) (hK S.n j l)==0)&&(bQ (hK S.n j l) (S.may.getD j 0)==0))=true)∧Hp w ab w' [an g2 41 (bp S.n (.slice Bo S.on.length co) (.slice Bm S.may.length cm))] []) (fun i=>S.on.length - i) 0 ⟨rfl,trivial⟩ ⟨⟨Nat.zero_le _,fun j h=>absurd h (Nat.not_lt_zero _)⟩,H⟩ ?_;clear H;rintro i u w4 ⟨⟨hi,f⟩,H⟩;refine au (fun h7=>?_) (fun h7=>?_)
  ·obtain ⟨a,M,o⟩:=mB (l:=S.on) (j:=i) (by omega);obtain ⟨b,z,O⟩:=mB (l:=S.may) (j:=i) (by omega);have Q:S.on.getD i 0=a:=by rw[List.getD_eq_getElem?_getD,M];rfl
   have T:S.may.getD i 0=b:=by rw[List.getD_eq_getElem?_getD,z];rfl
   obtain ⟨B,t,rfl⟩:=g.on.A (by omega);obtain ⟨D,p,rfl⟩:=g.may.A (by omega);refine aw (fun w'=>((bQ a (hK S.n i l)==0)&&(bQ (hK S.n i l) b==0))=true∧Hp w ab w' [an g2 41 (bp S.n (.slice (some ⟨B,t,none⟩) S.on.length co) (.slice (some ⟨D,p,none⟩) S.may.length cm))] []) ?_ ?_
   ·refine ak (γ:=Nat) (fun g6=>[(5,.int .i64 (i:Int)),(6,(ah g6))]) (fun g6 w'=>Hp w ab w' [an g6 86 (sc a),an g2 41 (bp S.n (.slice (some ⟨B,t,none⟩) S.on.length co) (.slice (some ⟨D,p,none⟩) S.may.length cm))] []) ?_ ?_
    ·refine aq underlying39 av i rfl (by omega) (o':=t+i*4) (by omega) ?_;refine Sl.dj H g.on bW aD av i rfl M ?_;refine H.alloc 86 (cs:=sc 0) br aZ ?_;clear H;intro g6 U H;refine H.aV (b:=a) 0 rfl ?_;clear H;intro V H;exact ⟨g6,⟨rfl,rfl,trivial⟩,H⟩
    clear H;rintro g6 u U H;have q:=wR S.n i l;refine ak (γ:=Nat) (fun g7=>[(7,(ah g7))]) (fun g7 w'=>Hp w ab w' [an g7 86 (sc (hK S.n i l)),an g6 86 (sc a),an g2 41 (bp S.n (.slice (some ⟨B,t,none⟩) S.on.length co) (.slice (some ⟨D,p,none⟩) S.may.length cm))] []) ?_ ?_
    ·refine aa (iD _) ?_;refine H.load 1 rfl aE rfl ?_;refine aj (Ot S.n i Z (by omega) l J y A c _ (K.same H.keeps)) ?_;rintro _ V ⟨rfl,d⟩;replace H:=H.same d;clear d;refine H.alloc 86 (cs:=sc 0) br aZ ?_;clear H;intro g7 X H;refine H.aV 0 rfl ?_;clear H;intro w8 H;exact ⟨g7,⟨rfl,trivial⟩,H⟩
    clear H;rintro g7 u V H;generalize E:hK S.n i l=C at q H;have e:((bQ a C==0)&&(bQ C b==0))=false→bD S l=false:=fun h=>by
     rw[m,List.all_eq_false];exact ⟨i,List.mem_range.2 (by omega),by rw[Q,T,E,h];decide⟩
    refine H.draw eN (by kernel_rfl) ?_;clear H;intro X H;refine quiet _ (fun w H=>H.ai 1 rfl aD av af) ?_;refine quiet _ (fun w H=>H.ai 0 rfl aD av af) ?_;refine aj (c85 a C (k.onlt a o) X) ?_;rintro _ w8 ⟨rfl,d⟩;replace H:=H.same d;clear d;refine ⟨.inl H,?_⟩
    cases h1:(bQ a C==0) with
    | false=>
     rw[h1] at e
     iterate 10 refine ag rfl ?_
     refine ⟨congrArg Value.bool ?_,H.keeps⟩;exact (e rfl).symm
    | true=>
     rw[h1] at e;have v:=fun u=>c85 C b q u
     cases h2:(bQ C b==0) with
     | false=>
      rw[h2] at e v;refine ae rfl ?_;refine quiet _ (fun w H=>H.ai 0 rfl aD av af) ?_;refine ae rfl ?_;refine quiet _ (fun w H=>aa (fL _) af) ?_;refine ae rfl ?_;refine quiet _ (fun w H=>H.load 2 rfl eo rfl af) ?_
      iterate 2 refine ae rfl ?_
      refine quiet _ (fun w H=>aq underlying39 av i rfl (by omega) (o':=p+i*4) (by omega) af) ?_;refine ae rfl ?_;refine quiet (sv b) (fun w H=>Sl.dj H g.may bW aD av i rfl z af) ?_;refine ae rfl ?_;refine aj (v _) ?_;rintro _ F ⟨rfl,d⟩;replace H:=H.same d;clear d;refine ⟨.inl H,?_⟩
      iterate 2 refine ae rfl ?_
      refine ag rfl ?_;refine ⟨congrArg Value.bool ?_,H.keeps⟩;exact (e rfl).symm
     | true=>
      rw[h2] at v;refine ae rfl ?_;refine quiet _ (fun w H=>H.ai 0 rfl aD av af) ?_;refine ae rfl ?_;refine quiet _ (fun w H=>aa (fL _) af) ?_;refine ae rfl ?_;refine quiet _ (fun w H=>H.load 2 rfl eo rfl af) ?_
      iterate 2 refine ae rfl ?_
      refine quiet _ (fun w H=>aq underlying39 av i rfl (by omega) (o':=p+i*4) (by omega) af) ?_;refine ae rfl ?_;refine quiet (sv b) (fun w H=>Sl.dj H g.may bW aD av i rfl z af) ?_;refine ae rfl ?_;refine aj (v _) ?_;rintro _ F ⟨rfl,d⟩;replace H:=H.same d;clear d;refine ⟨.inl H,?_⟩
      iterate 3 refine ae rfl ?_
      exact ⟨(),trivial,rfl,H.forget.forget⟩
   ·clear H;rintro ⟨⟩ u U ⟨G,H⟩;exact ⟨i+1,by show S.on.length - (i+1)<S.on.length - i;omega,⟨up (by omega),trivial⟩,⟨by show i+1≤S.on.length;omega,fun j Y=>by
     by_cases I:j=i
     ·subst I;rw[Q,T];exact G
     ·exact f j (by omega)⟩,H⟩
  ·exact ⟨(),trivial,by rw[m,List.all_eq_true];exact fun j Y=>f j (by have:=List.mem_range.1 Y;omega),H.forget⟩
 clear H;rintro ⟨⟩ u w4 ⟨s,H⟩;exact ⟨congrArg Value.bool s.symm,H.keeps⟩
end Go.Proofs.YtpjihhgjbbihkaaGreatDoor
namespace Go.Dk
def uV (n s j:Nat):Prop:=∀ p,p<2^n→s.testBit (p ^^^ 2^j)=s.testBit p
def dw (n:Nat)(L:List (Nat × Nat)):Nat:=L.foldl (fun s c=>s |||bc c.1 c.2 n) 0
theorem Aq (n:Nat)(L:List (Nat × Nat))(c:Nat × Nat):dw n (L++[c])=dw n L |||bc c.1 c.2 n:=by
 unfold dw;rw[List.foldl_append];rfl
theorem vD (n p:Nat):∀ (L:List (Nat × Nat)) (s:Nat),(L.foldl (fun s c=>s |||bc c.1 c.2 n) s).testBit p=true↔s.testBit p=true∨∃ c ∈ L,(bc c.1 c.2 n).testBit p=true
 | [],s=>by simp
 | c::L,s=>by
  rw[List.foldl_cons,vD n p L];simp[or_assoc]
theorem ee {n p:Nat}{L:List (Nat × Nat)}:(dw n L).testBit p=true↔∃ c ∈ L,(bc c.1 c.2 n).testBit p=true:=by
 unfold dw;rw[vD];simp
structure gS (n i:Nat) (c:Nat × Nat):Prop where
 lt:c.1<2^n
 sub:c.2 &&&c.1=c.2
 from_:∀ j,j<i→c.1.testBit j=false
structure kV (n i on may:Nat) (L:List (Nat × Nat)):Prop where
 cubes:∀ c ∈ L,gS n i c
 qz:cu (dw n L) may
 out:cu on (dw n L)
 len:L.length≤3^(n - i)
theorem kV.none {n i may:Nat}:kV n i 0 may []:=
 ⟨fun c h=>by simp at h,fun p h=>by obtain ⟨c,a,_⟩:=ee.1 h;simp at a,fun p h=>by simp at h,Nat.zero_le _⟩
theorem gT {n p:Nat}(a:n≤8):(bu n).testBit p=decide (p<2^n):=by
 have b:2^n≤2^8:=Nat.pow_le_pow_right (by decide) a;unfold bu;rw[bn];by_cases h:p<2^n
 ·rw[decide_eq_true h,decide_eq_true (show p<256 by omega)];rfl
 ·rw[decide_eq_false h,Bool.and_false]
theorem kV.all {n i on:Nat}(a:n≤8)(b:cu on (bu n)):kV n i on (bu n) [(0,0)]:=by
 have e:∀ p,(dw n [(0,0)]).testBit p=true↔p<2^n:=fun p=>by
  rw[ee];simp only[List.mem_singleton,exists_eq_left];rw[bP a];simp
 refine ⟨fun c f=>?_,fun p d=>?_,fun p d=>?_,Nat.one_le_pow _ _ (by decide)⟩
 ·rw[List.mem_singleton] at f;subst f;exact ⟨Nat.two_pow_pos _,rfl,fun j _=>by simp⟩
 ·rw[gT a,decide_eq_true ((e p).1 d)]
 ·have:=b p d;rw[gT a,decide_eq_true_eq] at this;exact (e p).2 this
theorem gm {s n p:Nat}(a:n≤8)(hs:cu s (bu n))(b:s.testBit p=true):p<2^n:=by
 have:=hs p b
 rwa [gT a,decide_eq_true_eq] at this
theorem nc {n p i:Nat}(hi:i<n)(a:p<2^n):p ^^^ 2^i<2^n:=Nat.xor_lt_two_pow a (Nat.pow_lt_pow_right (by decide) hi)
theorem jY {s n i:Nat}(a:n≤8)(hs:cu s (bu n))(hi:i<n)(one:Bool){p:Nat}(b:p<2^n):(cZ (cU s i one) i).testBit p=s.testBit (if p.testBit i=one then p else p ^^^ 2^i):=by
 have f:2^n≤2^8:=Nat.pow_le_pow_right (by decide) a;have g:=nc hi b;have e:(p ^^^ 2^i).testBit i= !p.testBit i:=by rw[Nat.testBit_xor,Nat.testBit_two_pow];simp
 unfold cZ cU;rw[bn,bn,bn,decide_eq_true (show p<256 by omega),decide_eq_true (show p ^^^ 2^i<256 by omega),e];by_cases h:p.testBit i=one
 ·rw[if_pos h,h]
  cases one <;> simp
 ·rw[if_neg h];have c:(!p.testBit i)=one:=by cases hb:p.testBit i <;> cases one <;> simp_all
  rw[c];have d:(p.testBit i==one)=false:=by rw[beq_eq_false_iff_ne];exact h
  rw[d];simp
theorem mD {s n i:Nat}(b:n≤8)(hs:cu s (bu n))(hi:i<n)(one:Bool):cu (cZ (cU s i one) i) (bu n):=fun p a=>by
 unfold cZ cU at a;rw[bn,bn,bn] at a;simp only[Bool.and_eq_true,Bool.or_eq_true] at a;rw[gT b,decide_eq_true_eq];rcases a.2 with h | h
 ·exact gm b hs h.2.1
 ·have:=nc hi (gm b hs h.2.1)
  rwa [flip_flip] at this
theorem n5 {s n i:Nat}(c:n≤8)(hs:cu s (bu n))(hi:i<n)(one:Bool){j:Nat}(f:j<i→uV n s j)(g:j≤i):uV n (cZ (cU s i one) i) j:=fun p a=>by
 have b:j<n:=by omega
 have k:=nc b a;rw[jY c hs hi one k,jY c hs hi one a];by_cases he:j=i
 ·subst he;have e:(p ^^^ 2^j).testBit j= !p.testBit j:=by rw[Nat.testBit_xor,Nat.testBit_two_pow];simp
  rw[e];by_cases h:p.testBit j=one
  ·rw[if_pos h,if_neg (by rw[h];cases one <;> decide),flip_flip]
  ·rw[if_neg h,if_pos (by cases l:p.testBit j <;> cases one <;> simp_all)]
 ·have e:(p ^^^ 2^j).testBit i=p.testBit i:=by rw[Nat.testBit_xor,Nat.testBit_two_pow];simp[he]
  rw[e];have d:=f (by omega);by_cases h:p.testBit i=one
  ·rw[if_pos h,if_pos h];exact d p a
  ·rw[if_neg h,if_neg h,Nat.xor_assoc,Nat.xor_comm (2^j),← Nat.xor_assoc];exact d _ (nc hi a)
theorem tV {n a b j:Nat}(c:a<2^256)(e:uV n a j)(f:uV n b j):uV n (bQ a b) j:=fun p d=>by
 rw[bO c,bO c,e p d,f p d]
theorem BY {n a b j:Nat}(d:uV n a j)(e:uV n b j):uV n (a &&&b) j:=fun p c=>by
 rw[Nat.testBit_and,Nat.testBit_and,d p c,e p c]
theorem Kk {n a b j:Nat}(d:uV n a j)(e:uV n b j):uV n (a |||b) j:=fun p c=>by
 rw[Nat.testBit_or,Nat.testBit_or,d p c,e p c]
theorem yP {n i:Nat}(o:n≤8){L:List (Nat × Nat)}(h:∀ c ∈ L,gS n i c){j:Nat}(q:j<i)(a:j<n):uV n (dw n L) j:=fun p d=>by
 have key:∀ p,p<2^n→(dw n L).testBit p=true→(dw n L).testBit (p ^^^ 2^j)=true:=fun p d f=>by
  obtain ⟨c,m,b⟩:=ee.1 f;obtain ⟨t,r,s⟩:=h c m;refine ee.2 ⟨c,m,?_⟩;rw[bP o,jn r] at b ⊢;refine ⟨nc a d,fun k g=>?_⟩;rw[Nat.testBit_xor,Nat.testBit_two_pow];have l:¬ j=k:=fun e=>by subst e;rw[s j q] at g;cases g
  simp[l,b.2 k g]
 rw[Bool.eq_iff_iff];constructor
 ·intro f;have:=key _ (nc a d) f
  rwa [flip_flip] at this
 ·exact key p d
theorem BZ {n s:Nat}(d:n≤8)(hs:cu s (bu n))(h:∀ j,j<n→uV n s j)(r:s≠0):s=bu n:=by
 have f:s<2^256:=by
  refine Nat.lt_pow_two_of_testBit _ fun p a=>?_;rw[Bool.eq_false_iff];intro b;have:=gm d hs b;have t:2^n≤2^8:=Nat.pow_le_pow_right (by decide) d;omega
 obtain ⟨q,o⟩:∃ q,s.testBit q=true:=by
  refine Classical.byContradiction fun g=>r (iE.2 fun i=>?_);rw[Bool.eq_false_iff];exact fun b=>g ⟨i,b⟩
 have l:=gm d hs o;have key:∀ k,k≤n→∀ p,p<2^n→(∀ j,k≤j→p.testBit j=q.testBit j)→s.testBit p=true:=fun k=>by
  induction k with
  | zero=>intro _ p a c;rw[show p=q from Nat.eq_of_testBit_eq fun j=>c j (Nat.zero_le _)];exact o
  | succ k ih=>
   intro u p a c;by_cases b:p.testBit k=q.testBit k
   ·exact ih (by omega) p a fun j m=>by
     by_cases he:j=k
     ·subst he;exact b
     ·exact c j (by omega)
   ·rw[← h k (by omega) p a];refine ih (by omega) _ (nc (by omega) a) fun j m=>?_;rw[Nat.testBit_xor,Nat.testBit_two_pow];by_cases he:j=k
    ·subst he
     cases h1:p.testBit j <;> cases t:q.testBit j <;> simp_all
    ·have:¬ k=j:=fun e=>he e.symm;simp[this,c j (by omega)]
 refine Nat.eq_of_testBit_eq fun p=>?_;rw[gT d];by_cases a:p<2^n
 ·rw[decide_eq_true a];exact key n (Nat.le_refl _) p a fun j c=>by rw[cK a c,cK l c]
 ·rw[decide_eq_false a,Bool.eq_false_iff];exact fun b=>a (gm d hs b)
def dB (i:Nat)(b:Bool)(c:Nat × Nat):Nat × Nat:=(c.1 |||2^i,c.2 |||(if b then 2^i else 0))
theorem rq {n i:Nat}(hi:i<n)(b:Bool){c:Nat × Nat}(h:gS n (i+1) c):gS n i (dB i b c):=by
 obtain ⟨a,d,e⟩:=h;refine ⟨Nat.or_lt_two_pow a (Nat.pow_lt_pow_right (by decide) hi),?_,fun j f=>?_⟩
 ·have hs:=fun j=>congrArg (fun x=>x.testBit j) d;simp only[Nat.testBit_and] at hs;refine Nat.eq_of_testBit_eq fun j=>?_;unfold dB;simp only[Nat.testBit_and,Nat.testBit_or];have:=hs j
  cases b
  ·simp only[Bool.false_eq_true,if_false,Nat.zero_testBit,Bool.or_false]
   cases hv:c.2.testBit j <;> simp_all
  ·simp only[if_true,Nat.testBit_two_pow]
   cases hv:c.2.testBit j <;> cases hm:c.1.testBit j <;> simp_all
 ·unfold dB;simp only[Nat.testBit_or,Nat.testBit_two_pow];rw[e j (by omega)];simp;omega
theorem yQ {n i:Nat}(q:n≤8)(hi:i<n)(b:Bool){c:Nat × Nat}(h:gS n (i+1) c){p:Nat}:(bc (dB i b c).1 (dB i b c).2 n).testBit p=true↔(bc c.1 c.2 n).testBit p=true∧p.testBit i=b:=by
 have r:=rq hi b h;have d:c.1.testBit i=false:=h.from_ i (by omega);have f:c.2.testBit i=false:=by
  have:=congrArg (fun x=>x.testBit i) h.sub;simp only[Nat.testBit_and,d,Bool.and_false] at this;exact this.symm
 rw[bP q,bP q,jn r.sub,jn h.sub];constructor
 ·rintro ⟨k,g⟩;refine ⟨⟨k,fun j a=>?_⟩,?_⟩
  ·have:=g j (by unfold dB;simp[Nat.testBit_or,a]);rw[this];unfold dB;have l:¬ i=j:=fun e=>by subst e;rw[d] at a;cases a
   cases b <;> simp[Nat.testBit_or,Nat.testBit_two_pow,l]
  ·have:=g i (by unfold dB;simp[Nat.testBit_or,Nat.testBit_two_pow]);rw[this];unfold dB
   cases b <;> simp[Nat.testBit_or,Nat.testBit_two_pow,f]
 ·rintro ⟨⟨k,g⟩,m⟩;refine ⟨k,fun j a=>?_⟩;by_cases he:i=j
  ·subst he;rw[m];unfold dB
   cases b <;> simp[Nat.testBit_or,Nat.testBit_two_pow,f]
  ·have o:c.1.testBit j=true:=by
    unfold dB at a;simpa [Nat.testBit_or,Nat.testBit_two_pow,he] using a
   rw[g j o];unfold dB
   cases b <;> simp[Nat.testBit_or,Nat.testBit_two_pow,he]
theorem km {n p:Nat}{L M:List (Nat × Nat)}:(dw n (L++M)).testBit p=true↔(dw n L).testBit p=true∨(dw n M).testBit p=true:=by
 rw[ee,ee,ee];constructor
 ·rintro ⟨c,b,a⟩;rcases List.mem_append.1 b with h | h
  ·exact .inl ⟨c,h,a⟩
  ·exact .inr ⟨c,h,a⟩
 ·rintro (⟨c,b,a⟩ | ⟨c,b,a⟩)
  ·exact ⟨c,List.mem_append_left _ b,a⟩
  ·exact ⟨c,List.mem_append_right _ b,a⟩
theorem qu {n i:Nat}(f:n≤8)(hi:i<n)(b:Bool){L:List (Nat × Nat)}(h:∀ c ∈ L,gS n (i+1) c){p:Nat}:(dw n (L.map (dB i b))).testBit p=true↔(dw n L).testBit p=true∧p.testBit i=b:=by
 rw[ee,ee];constructor
 ·rintro ⟨c,g,e⟩;obtain ⟨d,a,rfl⟩:=List.mem_map.1 g;have:=(yQ f hi b (h d a)).1 e;exact ⟨⟨d,a,this.1⟩,this.2⟩
 ·rintro ⟨⟨d,a,e⟩,j⟩;exact ⟨_,List.mem_map.2 ⟨d,a,rfl⟩,(yQ f hi b (h d a)).2 ⟨e,j⟩⟩
theorem Fj {n i on may:Nat}(f:n≤8)(hi:i<n)(x:cu on may)(g:cu may (bu n)){t u L2:List (Nat × Nat)}(m:kV n (i+1) (bQ (cZ (cU on i false) i) (cZ (cU may i true) i)) (cZ (cU may i false) i) t)(o:kV n (i+1) (bQ (cZ (cU on i true) i) (cZ (cU may i false) i)) (cZ (cU may i true) i) u)(q:kV n (i+1) (bQ (cZ (cU on i false) i) (dw n t) |||bQ (cZ (cU on i true) i) (dw n u)) (cZ (cU may i false) i &&&cZ (cU may i true) i) L2) :
  kV n i on may (t.map (dB i false)++u.map (dB i true)++L2):=by
 have k:cu on (bu n):=x.trans g;have v:∀ b p,p<2^n→p.testBit i=b→(cZ (cU may i b) i).testBit p=may.testBit p:=fun b p a e=>by rw[jY f g hi b a,if_pos e]
 have z:∀ b p,p<2^n→p.testBit i=b→(cZ (cU on i b) i).testBit p=on.testBit p:=fun b p a e=>by rw[jY f k hi b a,if_pos e]
 have lo:∀ b,cZ (cU on i b) i<2^256:=fun b=>cw _;have w:∀ b,cu (cZ (cU may i b) i) (bu n):=fun b=>mD f g hi b;refine ⟨fun c l=>?_,fun p a=>?_,fun p a=>?_,?_⟩
 ·rw[List.mem_append,List.mem_append] at l;rcases l with (l | l) | l
  ·obtain ⟨d,y,rfl⟩:=List.mem_map.1 l;exact rq hi _ (m.cubes d y)
  ·obtain ⟨d,y,rfl⟩:=List.mem_map.1 l;exact rq hi _ (o.cubes d y)
  ·have:=q.cubes c l;exact ⟨this.lt,this.sub,fun j A=>this.from_ j (by omega)⟩
 ·rw[km,km,qu f hi _ m.cubes,qu f hi _ o.cubes] at a;rcases a with (⟨a,e⟩ | ⟨a,e⟩) | a
  ·have h:=m.qz p a
   rwa [v false p (gm f (w _) h) e] at h
  ·have h:=o.qz p a
   rwa [v true p (gm f (w _) h) e] at h
  ·have h:=q.qz p a;rw[Nat.testBit_and,Bool.and_eq_true] at h
   cases e:p.testBit i with
   | false=>rw[← v false p (gm f (w _) h.1) e];exact h.1
   | true=>rw[← v true p (gm f (w _) h.2) e];exact h.2
 ·have r:=gm f k a;rw[km,km,qu f hi _ m.cubes,qu f hi _ o.cubes]
  cases e:p.testBit i with
  | false=>
   have s:=z false p r e;rw[a] at s
   cases hh:(dw n t).testBit p with
   | true=>exact .inl (.inl ⟨rfl,rfl⟩)
   | false=>exact .inr (q.out p (by rw[Nat.testBit_or,bO (lo _),s,hh];rfl))
  | true=>
   have s:=z true p r e;rw[a] at s
   cases hh:(dw n u).testBit p with
   | true=>exact .inl (.inr ⟨rfl,rfl⟩)
   | false=>exact .inr (q.out p (by rw[Nat.testBit_or,bO (lo true),s,hh];simp))
 ·have a0:=m.len;have B:=o.len;have a2:=q.len;rw[List.length_append,List.length_append,List.length_map,List.length_map,show n - i=(n - (i+1))+1 by omega,Nat.pow_succ];omega
theorem Fk {n i on may:Nat}(j:n≤8)(hi:i<n)(e:cu on may)(a:cu may (bu n)){k l:List (Nat × Nat)}(o:kV n (i+1) (bQ (cZ (cU on i false) i) (cZ (cU may i true) i)) (cZ (cU may i false) i) k)(q:kV n (i+1) (bQ (cZ (cU on i true) i) (cZ (cU may i false) i)) (cZ (cU may i true) i) l) :
  cu (bQ (cZ (cU on i false) i) (dw n k) |||bQ (cZ (cU on i true) i) (dw n l)) (cZ (cU may i false) i &&&cZ (cU may i true) i):=by
 have c:cu on (bu n):=e.trans a;have lo:∀ b,cZ (cU on i b) i<2^256:=fun b=>cw _;have m:∀ b,cu (cZ (cU on i b) i) (cZ (cU may i b) i):=fun b p d=>by
  have f:=gm j (mD j c hi b) d;rw[jY j c hi b f] at d;rw[jY j a hi b f];exact e _ d
 intro p d;rw[Nat.testBit_or,bO (lo _),bO (lo _),Bool.or_eq_true,Bool.and_eq_true,Bool.and_eq_true] at d;rw[Nat.testBit_and,Bool.and_eq_true];rcases d with ⟨g,h⟩ | ⟨g,h⟩
 ·refine ⟨m _ p g,?_⟩
  cases hm:(cZ (cU may i true) i).testBit p with
  | true=>rfl
  | false=>
   have:=o.out p (by rw[bO (lo _),g,hm];rfl);rw[this] at h
   cases h
 ·refine ⟨?_,m _ p g⟩
  cases hm:(cZ (cU may i false) i).testBit p with
  | true=>rfl
  | false=>
   have:=q.out p (by rw[bO (lo _),g,hm];rfl);rw[this] at h
   cases h
theorem yR {n i on may:Nat}(g:n≤8)(hi:i<n)(e:cu on may)(a:cu may (bu n))(b c:Bool):cu (bQ (cZ (cU on i b) i) (cZ (cU may i c) i)) (cZ (cU may i b) i):=fun p h=>by
 have d:cu on (bu n):=e.trans a;rw[bO (show cZ (cU on i b) i<2^256 from cw _),Bool.and_eq_true] at h;have f:=gm g (mD g d hi b) h.1;have j:=h.1;rw[jY g d hi b f] at j;rw[jY g a hi b f];exact e _ j
theorem gS.B0 {n i:Nat}(a:n≤8){c:Nat × Nat}(h:gS n i c):c.1<256∧c.2<256:=by
 have b:2^n≤2^8:=Nat.pow_le_pow_right (by decide) a;have:=h.lt;have:=sub_lt h.lt h.sub;omega
theorem gS.right {n i:Nat}(a:n≤8){c:Nat × Nat}(h:gS n i c):dr c.1 c.2 n=true:=by
 obtain ⟨b,d⟩:=h.B0 a;rw[dJ b d];exact ⟨by omega,by omega,by rw[Int.toNat_natCast];exact h.lt,h.sub⟩
end Go.Dk
namespace Go.Proofs.YtpjihhgjbbihkaaGreatDoor
open Go.Proofs.Tryz
open Go.Dk
set_option maxRecDepth 100000
attribute [local irreducible] IntKind.wrap
def b8 (c:Nat × Nat):List Value:=[.int .u8 (c.1:Int),.int .u8 (c.2:Int)]
theorem fF (c:Nat × Nat):(b8 c).length=2:=rfl
theorem Fl (c:Nat × Nat):∀ v ∈ b8 c,v.oneCell'=true:=wy c.1 c.2
def iq (n:Nat):Array Value:=#[.int .i64 (n:Int),.int .u64 (word (bu n) 0:Int),.int .u64 (word (bu n) 1:Int),.int .u64 (word (bu n) 2:Int),.int .u64 (word (bu n) 3:Int)]
def yS (n:Nat):Value:=.agg (iq n)
theorem As:cW prog 223=some true:=by kernel_rfl
theorem wS:bF prog 223=some 5:=by kernel_rfl
theorem Hw (g:Nat)(w:World):(Instr.fieldAt 223 (ah g) 0).run prog w=.ok (ah g) w:=by kernel_rfl
theorem B1 (g:Nat)(w:World):(Instr.fieldAt 223 (ah g) 1).run prog w=.ok (.pointer (some ⟨g,1,none⟩)) w:=by kernel_rfl
theorem Fm:cW prog 146=some false:=by kernel_rfl
theorem Hx:bF prog 146=some 1:=by kernel_rfl
theorem wT:qR prog 146 48 (cv 0 0) 2 2:=⟨underlying146,by kernel_rfl,rfl,by decide⟩
theorem rr {l:List (Nat × Nat)}{j:Nat}(h:j<l.length):∃ x,l[j]?=some x∧x ∈ l:=⟨_,List.getElem?_eq_getElem h,List.getElem_mem h⟩
theorem Kl:enters prog 190=true:=by kernel_rfl
theorem Ou (n i0:Nat)(h:n≤8)(L:List (Nat × Nat))(i:∀ c ∈ L,gS n i0 c)(F:L.length≤1000000)(A:Option Addr)(c:Nat)(w:World)(o:Sl w (.slice A L.length c) 2 L.length (flat b8 L)) :
  bz prog 190 [yS n,.slice A L.length c] w fun r w'=>r=sv (dw n L)∧aT w w':=by
 refine ar (N:=28) func190 Kl rfl rfl rfl (by simp) ?_;have H:=Hp.aC w;refine ak (γ:=Nat × Nat) (fun (g2,g4)=>[(2,(ah g2)),(4,(ah g4))]) (fun (g2,g4) w'=>Hp w ab w' [an g4 86 (sc 0),an g2 223 (iq n)] []) ?_ ?_
 ·refine H.box 223 (yS n) (cs:=iq n) rfl ?_;clear H;intro g2 z H;refine H.alloc 86 (cs:=sc 0) br aZ ?_;clear H;intro g4 p H;exact ⟨(g2,g4),⟨rfl,rfl,trivial⟩,H⟩
 clear H;rintro ⟨g2,g4⟩ u z H;refine ak (γ:=Nat) (fun g5=>[(5,(ah g5))]) (fun g5 w'=>Hp w ab w' [an g5 86 (sc 0),an g4 86 (sc 0),an g2 223 (iq n)] []) ?_ ?_
 ·refine H.alloc 86 (cs:=sc 0) br aZ ?_;clear H;intro g5 p H;exact ⟨g5,⟨rfl,trivial⟩,H⟩
 clear H;rintro g5 u p H;refine aw (fun w'=>Hp w ab w' [an g5 86 (sc (dw n L)),an g4 86 (sc 0)] []) ?_ ?_
 ·refine ay underlying146 ?_;refine ax (γ:=Nat) (fun k=>[(12,.int .i64 (k:Int))]) (fun k w'=>k≤L.length∧Hp w ab w' [an g5 86 (sc (dw n (L.take k))),an g4 86 (sc 0),an g2 223 (iq n)] []) (fun k=>L.length - k) 0 ⟨rfl,trivial⟩ ⟨Nat.zero_le _,H⟩ ?_;clear H;rintro k u B ⟨e,H⟩;refine au (fun C=>?_) (fun C=>?_)
  ·obtain ⟨x,q,b⟩:=rr (l:=L) (j:=k) (by omega);have a:=Aq n (L.take k) x;rw[← iZ q] at a;obtain ⟨hm,s⟩:=(i x b).B0 h;have t:=(i x b).right h;obtain ⟨m,v⟩:=x;simp only at hm s t a;obtain ⟨G,D,rfl⟩:=o.A (by omega);generalize dw n (L.take k)=s0 at H a;refine aw (fun w'=>Hp w ab w' [an g5 86 (sc (dw n (L.take (k+1)))),an g4 86 (sc 0),an g2 223 (iq n)] []) ?_ ?_
   ·refine ak (γ:=Nat) (fun g7=>[(7,(ah g7))]) (fun g7 w'=>Hp w ab w' [an g7 48 (cc m v),an g5 86 (sc s0),an g4 86 (sc 0),an g2 223 (iq n)] []) ?_ ?_
    ·refine aq underlying146 aJ k rfl (by omega) (o':=D+k*2) (by omega) ?_;refine Sl.dj H o fF bl aJ k rfl q ?_;refine H.alloc 48 (cs:=cc 0 0) fA rfl ?_;clear H;intro g7 f H;refine H.bT (c:=m) (d:=v) 0 rfl ?_;clear H;intro y H;exact ⟨g7,⟨rfl,trivial⟩,H⟩
    clear H;rintro g7 u f H;refine ak (γ:=Nat) (fun g8=>[(8,(ah g8))]) (fun g8 w'=>Hp w ab w' [an g8 86 (sc (bc m v n)),an g5 86 (sc s0),an g4 86 (sc 0),an g2 223 (iq n)] []) ?_ ?_
    ·refine H.ai 0 rfl bl aJ ?_;refine aa (Hw _) ?_;refine H.load 3 rfl aE rfl ?_;have g:=N9 m v hm s (n:Int) f;rw[t,if_pos rfl,Int.toNat_natCast] at g;refine aj g ?_;clear g;rintro _ y ⟨rfl,e⟩;replace H:=H.same e;clear e;refine H.alloc 86 (cs:=sc 0) br aZ ?_;clear H;intro g8 I H;refine H.aV 0 rfl ?_;clear H;intro E H;exact ⟨g8,⟨rfl,trivial⟩,H.b9 [0,2,3,4] (by decide) rfl⟩
    clear H;rintro g8 u y H;refine H.ai 1 rfl aD av ?_;refine H.ai 0 rfl aD av ?_;refine aj (LU _ _ _) ?_;rintro _ E ⟨rfl,e⟩;replace H:=H.same e;refine H.aV 1 rfl ?_;clear H;intro J H;exact ⟨(),trivial,by rw[a];exact H.forget⟩
   ·clear H;rintro ⟨⟩ u f H;exact ⟨k+1,by show L.length - (k+1)<L.length - k;omega,⟨up (by omega),trivial⟩,by show k+1≤L.length;omega,H⟩
  ·have:k=L.length:=by omega
   subst this;rw[List.take_length] at H;exact ⟨(),trivial,H.b9 [0,1] (by decide) rfl⟩
 clear H;rintro ⟨⟩ u B H;refine H.ai 0 rfl aD av ?_;refine H.aV 1 rfl ?_;clear H;intro f H;refine H.ai 1 rfl aD av ?_;exact ⟨rfl,rfl,H.keeps⟩
end Go.Proofs.YtpjihhgjbbihkaaGreatDoor
namespace Go.Dk
theorem sx {P:Program}{t:TypeId}{xo yo:Operand}{w:World}{kk:Value→World→Prop}{a:IntKind}{n:Nat}(h:kk (.int .u8 ((0:Nat):Int)) w):da P .shl t xo yo (.int .u8 0) (.int a (n:Int)) w kk:=by
 refine sB (by omega) ?_;rw[Int.zero_mul];exact h
end Go.Dk
namespace Go.Proofs.YtpjihhgjbbihkaaGreatDoor
open Go.Proofs.Tryz
open Go.Dk
set_option maxRecDepth 100000
attribute [local irreducible] IntKind.wrap
def a2 (f:Bool→Nat):Array Value:=(bL (f false)++bL (f true)).toArray
def bN (b:Bool):Nat:=if b then 1 else 0
theorem lI (f:Bool→Nat)(b:Bool):∀ (j:Nat) v,(bL (f b))[j]?=some v→(a2 f)[bN b*4+j]?=some v:=fun j v a=>by
 have c:=(List.getElem?_eq_some_iff.1 a).1;rw[bW] at c;unfold a2;rw[List.getElem?_toArray]
 cases b with
 | false=>rw[show bN false*4+j=j by unfold bN;simp,List.getElem?_append_left (by rw[bW];exact c)];exact a
 | true=>rw[show bN true*4+j=4+j by unfold bN;simp,List.getElem?_append_right (by rw[bW];omega),bW,Nat.add_sub_cancel_left];exact a
def tW (n i:Nat)(on may:Nat):Prop:=cu on may∧cu may (bu n)∧(∀ j,j<i→uV n on j)∧(∀ j,j<i→uV n may j)∧on<2^256
def Au (n i:Nat):Prop:=∀ (on may:Nat) (w:World),tW n i on may→bz prog 159 [yS n,sv on,sv may,.int .i64 (i:Int)] w fun r w'=>
 ∃ A c L,r=.slice A L.length c∧kV n i on may L∧eW w w' (own 48 2 (.slice A L.length c) L.length (flat b8 L))
theorem wU:eU prog 241=some (.agg (a2 fun _=>0)):=by kernel_rfl
theorem Km:enters prog 189=true:=by kernel_rfl
theorem MB {n i:Nat}(t:n≤8)(hi:i<n)(I:Au n (i+1))(b:Bool)(on may:Bool→Nat)(rest:Nat)(out:List (Nat × Nat))(g1 g2 g3 g4 g5 g6:Nat)(B:Option Addr)(co:Nat)(w0 w:World)(X:List cS)(o:tW n (i+1) (bQ (on b) (may !b)) (may b))(h:on b<2^256)(J:out.length≤100000)(H:Hp w0 ab w (an g5 86 (sc rest)::an g6 146 #[.slice B out.length co]::own 48 2 (.slice B out.length co) out.length (flat b8 out)::an g1 223 (iq n)::an g2 241 (a2 on)::an g3 241 (a2 may)::an g4 3 #[.int .i64 (i:Int)]::X) []) :
  bz prog 189 ([.int .i64 (bN b:Int)]++[(ah g1),(ah g2),(ah g3),(ah g4),(ah g5),(ah g6)]) w fun v w'=>
   v=.tuple #[]∧∃ l K M,kV n (i+1) (bQ (on b) (may !b)) (may b) l∧
    Hp w0 ab w' (an g5 86 (sc (rest |||bQ (on b) (dw n l)))::an g6 146 #[.slice K (out++l.map (dB i b)).length M]::own 48 2 (.slice K (out++l.map (dB i b)).length M) (out++l.map (dB i b)).length (flat b8 (out++l.map (dB i b)))::an g1 223 (iq n)::an g2 241 (a2 on)::an g3 241 (a2 may)::an g4 3 #[.int .i64 (i:Int)]::X) []:=by
 refine ar (N:=60) func189 Km rfl rfl rfl (by simp) ?_;have e:bN b<2:=by unfold bN;cases b <;> decide
 have p:bN (!b)<2:=by unfold bN;cases b <;> decide
 have f:IntKind.i64.wrap (1 - (bN b:Int))=(bN (!b):Int):=by
  cases b <;> (unfold bN;rw[aH (by simp) (by simp)];rfl)
 have q:IntKind.i64.wrap ((i:Int)+1)=((i+1:Nat):Int):=by rw[aH (by omega) (by omega)];omega
 refine ak (γ:=Option Addr × Nat × List (Nat × Nat)) (fun (A,c,l)=>[(8,.slice A l.length c)]) (fun (A,c,l) w'=>kV n (i+1) (bQ (on b) (may !b)) (may b) l∧Hp w0 ab w' (own 48 2 (.slice A l.length c) l.length (flat b8 l)::an g5 86 (sc rest)::an g6 146 #[.slice B out.length co]::own 48 2 (.slice B out.length co) out.length (flat b8 out)::an g1 223 (iq n)::an g2 241 (a2 on)::an g3 241 (a2 may)::an g4 3 #[.int .i64 (i:Int)]::X) []) ?_ ?_
 ·refine H.draw eN (by kernel_rfl) ?_;clear H;intro V H;refine quiet (yS n) (fun w H=>H.ai 3 rfl As wS af) ?_;refine quiet _ (fun w H=>aL underlying241 av (bN b) rfl e (o':=bN b*4) (by omega) af) ?_;refine quiet (sv (on b)) (fun w H=>H.cB 4 rfl (bL (on b)) aD av (lI on b) af) ?_;refine quiet _ (fun w H=>aL underlying241 av (bN (!b)) f p (o':=bN (!b)*4) (by omega) af) ?_;refine quiet (sv (may !b)) (fun w H=>H.cB 5 rfl (bL (may !b)) aD av (lI may !b) af) ?_;refine aj (NV (on b) (may !b) h _) ?_;rintro _ z ⟨rfl,g⟩;replace H:=H.same g;refine ⟨.inl H,?_⟩;refine quiet _ (fun w H=>aL underlying241 av (bN b) rfl e (o':=bN b*4) (by omega) af) ?_;refine quiet (sv (may b)) (fun w H=>H.cB 5 rfl (bL (may b)) aD av (lI may b) af) ?_;refine quiet _ (fun w H=>H.load 6 rfl aE rfl af) ?_;have Q:=I (bQ (on b) (may !b)) (may b) z o;rw[← q] at Q;refine aj Q ?_;rintro _ S ⟨A,c,l,rfl,a,t⟩;replace H:=H.bq t;refine ⟨.inl H.forget,?_⟩;exact ⟨(A,c,l),⟨rfl,trivial⟩,a,H⟩
 clear H;rintro ⟨A,c,l⟩ u V ⟨a,H⟩;have Y:l.length≤6561:=Nat.le_trans a.len (by have:=Nat.pow_le_pow_right (show 0<3 by decide) (show n - (i+1)≤8 by omega);omega);refine aw (fun w'=>Hp w0 ab w' (own 48 2 (.slice A l.length c) l.length (flat b8 l)::an g5 86 (sc (rest |||bQ (on b) (dw n l)))::an g6 146 #[.slice B out.length co]::own 48 2 (.slice B out.length co) out.length (flat b8 out)::an g1 223 (iq n)::an g2 241 (a2 on)::an g3 241 (a2 may)::an g4 3 #[.int .i64 (i:Int)]::X) []) ?_ ?_
 ·refine H.draw eN (by kernel_rfl) ?_;clear H;intro z H;refine quiet _ (fun w H=>H.ai 1 rfl aD av af) ?_;refine quiet _ (fun w H=>aL underlying241 av (bN b) rfl e (o':=bN b*4) (by omega) af) ?_;refine quiet (sv (on b)) (fun w H=>H.cB 5 rfl (bL (on b)) aD av (lI on b) af) ?_;refine quiet (yS n) (fun w H=>H.ai 4 rfl As wS af) ?_;refine aj (Ou n (i+1) t l a.cubes (by omega) A c _ (bB (H.get 0 rfl))) ?_;rintro _ S ⟨rfl,g⟩;replace H:=H.same g;refine ⟨.inl H,?_⟩;refine aj (NV (on b) _ h _) ?_;rintro _ T ⟨rfl,g⟩;replace H:=H.same g;refine ⟨.inl H,?_⟩;refine aj (LU _ _ _) ?_;rintro _ C ⟨rfl,g⟩;replace H:=H.same g;refine ⟨.inl H,?_⟩;refine H.aV 1 rfl ?_;clear H;intro y H;refine ⟨.inr rfl,?_⟩;exact ⟨(),trivial,H⟩
 clear H;rintro ⟨⟩ u z H;generalize D:rest |||bQ (on b) (dw n l)=rest' at H;refine ay underlying146 ?_;refine ax (γ:=Nat × Option Addr × Nat) (fun (k,_)=>[(37,.int .i64 (k:Int))]) (fun (k,B,co) w'=>k≤l.length∧Hp w0 ab w' (own 48 2 (.slice A l.length c) l.length (flat b8 l)::an g5 86 (sc rest')::an g6 146 #[.slice B (out++(l.take k).map (dB i b)).length co]::own 48 2 (.slice B (out++(l.take k).map (dB i b)).length co) (out++(l.take k).map (dB i b)).length (flat b8 (out++(l.take k).map (dB i b)))::an g1 223 (iq n)::an g2 241 (a2 on)::an g3 241 (a2 may)::an g4 3 #[.int .i64 (i:Int)]::X) []) (fun (k,_)=>l.length - k) (0,B,co) ⟨rfl,trivial⟩ ⟨Nat.zero_le _,by rw[List.take_zero,List.map_nil,List.append_nil];exact H⟩ ?_;clear H;rintro ⟨k,B,co⟩ u S ⟨g,H⟩;refine au (fun Z=>?_) (fun Z=>?_)
 ·obtain ⟨x,U,r⟩:=rr (l:=l) (j:=k) (by omega);have s:=a.cubes x r;obtain ⟨hm,hv⟩:=s.B0 t;have E:out++(l.take (k+1)).map (dB i b)=(out++(l.take k).map (dB i b))++[dB i b x]:=by rw[iZ U,List.map_append,List.append_assoc];rfl
  have F:(out++(l.take k).map (dB i b)).length≤110000:=by rw[List.length_append,List.length_map,List.length_take];omega
  refine ak (γ:=Option Addr × Nat) (fun _=>[]) (fun (B,co) w'=>Hp w0 ab w' (own 48 2 (.slice A l.length c) l.length (flat b8 l)::an g5 86 (sc rest')::an g6 146 #[.slice B (out++(l.take (k+1)).map (dB i b)).length co]::own 48 2 (.slice B (out++(l.take (k+1)).map (dB i b)).length co) (out++(l.take (k+1)).map (dB i b)).length (flat b8 (out++(l.take (k+1)).map (dB i b)))::an g1 223 (iq n)::an g2 241 (a2 on)::an g3 241 (a2 may)::an g4 3 #[.int .i64 (i:Int)]::X) []) ?_ ?_
  ·rw[E];generalize out++(l.take k).map (dB i b)=O at H F;obtain ⟨m,v⟩:=x;simp only at hm hv;have h2:2^i<256:=show 2^i<2^8 from Nat.pow_lt_pow_right (by decide) (by omega);obtain ⟨G,rfl⟩:=H.kM 0 rfl (by omega);refine ak (γ:=Nat) (fun g10=>[(10,(ah g10))]) (fun g10 w'=>Hp w0 ab w' (an g10 48 (cc m v)::own 48 2 (.slice (some ⟨G,0,none⟩) l.length c) l.length (flat b8 l)::an g5 86 (sc rest')::an g6 146 #[.slice B (O).length co]::own 48 2 (.slice B (O).length co) (O).length (flat b8 (O))::an g1 223 (iq n)::an g2 241 (a2 on)::an g3 241 (a2 may)::an g4 3 #[.int .i64 (i:Int)]::X) []) ?_ ?_
   ·refine aq underlying146 aJ k rfl (by omega) (o':=k*2) (by omega) ?_;refine H.eE 0 rfl fF bl aJ k rfl U ?_;refine H.alloc 48 (cs:=cc 0 0) fA rfl ?_;clear H;intro g10 C H;refine H.bT (c:=m) (d:=v) 0 rfl ?_;clear H;intro y H;exact ⟨g10,⟨rfl,trivial⟩,H⟩
   clear H;rintro g10 u T H;refine aw (fun w'=>Hp w0 ab w' (an g10 48 (cc (dB i b (m,v)).1 v)::own 48 2 (.slice (some ⟨G,0,none⟩) l.length c) l.length (flat b8 l)::an g5 86 (sc rest')::an g6 146 #[.slice B (O).length co]::own 48 2 (.slice B (O).length co) (O).length (flat b8 (O))::an g1 223 (iq n)::an g2 241 (a2 on)::an g3 241 (a2 may)::an g4 3 #[.int .i64 (i:Int)]::X) []) ?_ ?_
   ·refine H.draw eN (by kernel_rfl) ?_;clear H;intro C H;refine quiet _ (fun w H=>aa (cn _) af) ?_;refine quiet _ (fun w H=>H.load 0 rfl b7 rfl af) ?_;refine quiet _ (fun w H=>H.load 8 rfl aE rfl af) ?_;refine quiet _ (fun w H=>cj (by omega) af) ?_;refine quiet _ (fun w H=>jq (by omega) (by omega) af) ?_;refine quiet _ (fun w H=>aa (cn _) af) ?_;refine H.store 0 rfl kT (by show 0<2;decide) rfl ?_;clear H;intro y H;refine ⟨.inr rfl,?_⟩;exact ⟨(),trivial,H⟩
   clear H;rintro ⟨⟩ u C H;refine aw (fun w'=>Hp w0 ab w' (an g10 48 (cc (dB i b (m,v)).1 (dB i b (m,v)).2)::own 48 2 (.slice (some ⟨G,0,none⟩) l.length c) l.length (flat b8 l)::an g5 86 (sc rest')::an g6 146 #[.slice B (O).length co]::own 48 2 (.slice B (O).length co) (O).length (flat b8 (O))::an g1 223 (iq n)::an g2 241 (a2 on)::an g3 241 (a2 may)::an g4 3 #[.int .i64 (i:Int)]::X) []) ?_ ?_
   ·refine H.draw eN (by kernel_rfl) ?_;clear H;intro y H;clear f e p o h I a
    cases b with
    | false=>
     refine quiet _ (fun w H=>aa (fY _) af) ?_;refine quiet _ (fun w H=>H.load 0 rfl b7 rfl af) ?_;refine quiet _ (fun w H=>kg (by kernel_rfl) underlying5 (by decide) (by decide) af) ?_;refine quiet _ (fun w H=>H.load 8 rfl aE rfl af) ?_;refine quiet _ (fun w H=>sx af) ?_;refine quiet _ (fun w H=>jq (b:=0) (by omega) (by omega) af) ?_;refine quiet _ (fun w H=>aa (fY _) af) ?_;refine H.store 0 rfl kT (Nat.le_of_ble_eq_true rfl) rfl ?_;clear H;intro w11 H;refine ⟨.inr rfl,?_⟩;exact ⟨(),trivial,H⟩
    | true=>
     refine quiet _ (fun w H=>aa (fY _) af) ?_;refine quiet _ (fun w H=>H.load 0 rfl b7 rfl af) ?_;refine quiet _ (fun w H=>kg (by kernel_rfl) underlying5 (by decide) (by decide) af) ?_;refine quiet _ (fun w H=>H.load 8 rfl aE rfl af) ?_;refine quiet _ (fun w H=>cj (by omega) af) ?_;refine quiet _ (fun w H=>jq (by first | assumption | omega | (repeat' (first | assumption | refine cf ?_ _ | refine xor_lt8 ?_ ?_ | refine or_lt8 ?_ ?_))) (by first | assumption | omega | (repeat' (first | assumption | refine cf ?_ _ | refine xor_lt8 ?_ ?_ | refine or_lt8 ?_ ?_))) af) ?_;refine quiet _ (fun w H=>aa (fY _) af) ?_;refine H.store 0 rfl kT (Nat.le_of_ble_eq_true rfl) rfl ?_;clear H;intro w16 H;refine ⟨.inr rfl,?_⟩;exact ⟨(),trivial,H⟩
   clear H;rintro ⟨⟩ u y H;refine H.load 3 rfl Fm rfl ?_;refine H.ai 0 rfl bl aJ ?_;refine H.bk wT (cs:=cc (dB i b (m,v)).1 (dB i b (m,v)).2) (by decide) (by decide) (by kernel_rfl) ?_;clear H;intro g20 w7 H;refine H.aG 5 0 wT rfl rfl rfl (wy _ _) (by omega) (by omega) ?_;clear H;intro B2 d2 w8 H;refine H.store 4 rfl Hx (by show 0<1;decide) rfl ?_;clear H;intro w9 H;have e1:(O++[dB i b (m,v)]).length=O.length+1:=by rw[List.length_append];rfl
   have e2:flat b8 (O++[dB i b (m,v)])=flat b8 O++b8 (dB i b (m,v)):=dD ..;exact ⟨(B2,d2),trivial,by rw[e1,e2];exact H.forget.forget⟩
  ·clear H;rintro ⟨B,co⟩ u T H;exact ⟨(k+1,B,co),by show l.length - (k+1)<l.length - k;omega,⟨up (by omega),trivial⟩,by show k+1≤l.length;omega,H⟩
 ·have:k=l.length:=by omega
  subst this;rw[List.take_length] at H;exact ⟨rfl,l,B,co,a,by rw[D];exact H.forget⟩
end Go.Proofs.YtpjihhgjbbihkaaGreatDoor
namespace Go.Dk
theorem Hp.fU {P:Program}{w0 w:World}{F:Nat→Prop}{L M:List cS}{k:Value→World→Prop}(H:Hp w0 F w L M)(n:Nat){g o:Nat}{t ty:TypeId}{cs cs' cs2:Array Value}(a:L[n]?=some (an g t cs))(hs:bF P ty=some cs'.size)(hlen:o+cs'.size≤cs.size)(d:∀ v ∈ cs'.toList,v.oneCell'=true)(e:cs2=(cs.toList.take o++cs'.toList++cs.toList.drop (o+cs'.size)).toArray)(h:∀ w',Hp w0 F w' (L.set n (an g t cs2)) M→k undef w'):iA P ty (.pointer (some ⟨g,o,none⟩)) (.agg cs') w k:=by
 have f:w.heap[g]?=some (.cells cs t (0,0)):=H.get n a;obtain ⟨w',i,c,b⟩:=kK (P:=P) cs'.toList w cs o f (by simp;omega) d;unfold iA;refine ⟨w',?_,h _ (H.nv n a _ c ?_ ?_)⟩
 ·have:storeCells ⟨g,o,none⟩ cs'.toList 0=storeCells ⟨g,0,none⟩ cs'.toList o:=kP g o cs'.toList 0;simp[Instr.storeAt,Instr.sureAddr,storeVar,Value.cells,run_sizeOf hs,this,i]
 ·show w'.heap[g]?=_;rw[b,e];simp
 ·rintro x rfl;refine ⟨?_,.inl rfl⟩;exact Nat.lt_of_lt_of_le (jo (H.get n a)) c.size
end Go.Dk
namespace Go.Proofs.YtpjihhgjbbihkaaGreatDoor
open Go.Proofs.Tryz
open Go.Dk
set_option maxRecDepth 100000
attribute [local irreducible] IntKind.wrap
def Hy (f:Bool→Nat)(b:Bool)(s:Nat):Bool→Nat:=fun c=>if c=b then s else f c
theorem Fo (f:Bool→Nat)(b:Bool)(s:Nat):a2 (Hy f b s)=((a2 f).toList.take (bN b*4)++(sc s).toList++(a2 f).toList.drop (bN b*4+(sc s).size)).toArray:=by
 cases b <;> rfl
theorem wV (f:Bool→Nat):(a2 f).size=8:=rfl
def aW (s i:Nat):Bool→Nat:=fun b=>cZ (cU s i b) i
theorem tX {n i on may:Nat}(l:n≤8)(hi:i<n)(h:tW n i on may)(b c:Bool):tW n (i+1) (bQ (aW on i b) (aW may i c)) (aW may i b):=by
 obtain ⟨f,a,g,e,o⟩:=h;have k:cu on (bu n):=f.trans a;have i1:∀ d j,j<i+1→uV n (aW on i d) j:=fun d j m=>n5 l k hi d (fun h=>g j h) (by omega);have i2:∀ d j,j<i+1→uV n (aW may i d) j:=fun d j m=>n5 l a hi d (fun h=>e j h) (by omega);exact ⟨yR l hi f a b c,mD l a hi b,fun j m=>tV (cw _) (i1 b j m) (i2 c j m),i2 b,nC _ _⟩
theorem Av {n i on may:Nat}(e:n≤8)(hi:i<n)(h:tW n i on may){l m:List (Nat × Nat)}(o:kV n (i+1) (bQ (aW on i false) (aW may i true)) (aW may i false) l)(q:kV n (i+1) (bQ (aW on i true) (aW may i false)) (aW may i true) m) :
  tW n (i+1) (bQ (aW on i false) (dw n l) |||bQ (aW on i true) (dw n m)) (aW may i false &&&aW may i true):=by
 obtain ⟨f,a,g,c,s⟩:=h;have k:cu on (bu n):=f.trans a;have i1:∀ d j,j<i+1→uV n (aW on i d) j:=fun d j b=>n5 e k hi d (fun h=>g j h) (by omega);have i2:∀ d j,j<i+1→uV n (aW may i d) j:=fun d j b=>n5 e a hi d (fun h=>c j h) (by omega);refine ⟨Fk e hi f a o q,fun p r=>mD e a hi false p ?_,fun j b=>Kk (tV (cw _) (i1 _ j b) (yP e o.cubes b (by omega))) (tV (cw _) (i1 _ j b) (yP e q.cubes b (by omega))),fun j b=>BY (i2 _ j b) (i2 _ j b),IS (nC _ _) (nC _ _)⟩;rw[Nat.testBit_and,Bool.and_eq_true] at r;exact r.1
theorem vE (l:List (Nat × Nat)):∀ v ∈ flat b8 l,v.oneCell'=true:=fun v a=>by
 unfold flat at a;obtain ⟨x,_,b⟩:=List.mem_flatMap.1 a;exact Fl x v b
theorem Hz:eU prog 146=some (.slice none 0 0):=by kernel_rfl
theorem Kn:enters prog 159=true:=by kernel_rfl
theorem c159 (n:Nat)(m:n≤8):∀ (f i:Nat),i≤n→n - i<f→Au n i
 | 0,i,_,h=>absurd h (Nat.not_lt_zero _)
 | f+1,i,hi,hf=>fun on may w q=>by
  have K:i<n→Au n (i+1):=fun h=>c159 n m f (i+1) (by omega) (by omega);obtain ⟨y,z,M,t,D⟩:=q;have Q:may<2^256:=Nat.lt_pow_two_of_testBit _ fun p hp=>by
   rw[Bool.eq_false_iff];intro Y;have:=gm m z Y;have h2:2^n≤2^8:=Nat.pow_le_pow_right (by decide) m;omega
  refine ar (N:=61) func159 Kn rfl rfl rfl (by simp) ?_;have H:=Hp.aC w;refine ak (γ:=Nat × Nat × Nat × Nat) (fun (g4,g5,g6,g7)=>[(4,(ah g4)),(5,(ah g5)),(6,(ah g6)),(7,(ah g7)),(8,.slice none 0 0)]) (fun (g4,g5,g6,g7) w'=>Hp w ab w' [an g7 3 #[.int .i64 (i:Int)],an g6 86 (sc may),an g5 86 (sc on),an g4 223 (iq n)] []) ?_ ?_
  ·refine H.box 223 (yS n) (cs:=iq n) rfl ?_;clear H;intro g4 w1 H;refine H.box 86 (sv on) (cs:=sc on) rfl ?_;clear H;intro g5 w2 H;refine H.box 86 (sv may) (cs:=sc may) rfl ?_;clear H;intro g6 w3 H;refine H.box 3 (.int .i64 (i:Int)) (cs:=#[.int .i64 (i:Int)]) rfl ?_;clear H;intro g7 V H;exact ⟨(g4,g5,g6,g7),⟨rfl,rfl,rfl,rfl,rfl,trivial⟩,H⟩
  clear H;rintro ⟨g4,g5,g6,g7⟩ u w1 H;by_cases Z:on=0
  ·subst Z;refine H.ai 2 rfl aD av ?_;refine oH ?_;refine fS (by decide) (by decide) ?_;refine ag rfl ?_;exact ⟨none,0,[],rfl,kV.none,(H.bC 48 2).only.out⟩
  have S:(on==0)=false:=by rw[beq_eq_false_iff_ne];exact Z
  by_cases h1:may=bu n
  ·subst h1;refine H.ai 2 rfl aD av ?_;refine oH ?_;refine fS D (by decide) ?_;refine ae S ?_;refine H.ai 1 rfl aD av ?_;refine aa (B1 _) ?_;refine H.cB 3 rfl (bL (bu n)) aD av (fun j v d=>by match j,d with | 0,d=>exact d | 1,d=>exact d | 2,d=>exact d | 3,d=>exact d) ?_;refine fS (kb n) (kb n) ?_;refine ag (beq_self_eq_true _) ?_;refine mo ?_;refine H.bk wT (cs:=cc 0 0) (by decide) (by decide) (by kernel_rfl) ?_;clear H;intro g20 V H;exact ⟨some ⟨g20,0,none⟩,1,[(0,0)],rfl,kV.all m y,(H.pF (l:=1) (sz:=2) rfl (by unfold maxLen;omega)).only.out⟩
  have e:i<n:=by
   refine Nat.lt_of_le_of_ne hi fun he=>?_;subst he;have E:may≠0:=fun E=>by
    subst E;exact Z (iE.2 fun p=>by
     rw[Bool.eq_false_iff];intro Y;have:=y p Y;simp at this)
   exact h1 (BZ m z t E)
  have K:=K e;have hbm:(may==bu n)=false:=by rw[beq_eq_false_iff_ne];exact h1
  refine aw (fun w'=>Hp w ab w' [an g7 3 #[.int .i64 (i:Int)],an g6 86 (sc may),an g5 86 (sc on),an g4 223 (iq n)] []) ?_ ?_
  ·refine H.ai 2 rfl aD av ?_;refine oH ?_;refine fS D (by decide) ?_;refine ae S ?_;refine H.ai 1 rfl aD av ?_;refine aa (B1 _) ?_;refine H.cB 3 rfl (bL (bu n)) aD av (fun j v d=>by match j,d with | 0,d=>exact d | 1,d=>exact d | 2,d=>exact d | 3,d=>exact d) ?_;refine fS Q (kb n) ?_;refine ae hbm ?_;exact ⟨(),trivial,H⟩
  clear H;rintro ⟨⟩ u w2 H;refine ak (γ:=Nat × Nat) (fun (g9,g10)=>[(9,(ah g9)),(10,(ah g10))]) (fun (g9,g10) w'=>Hp w ab w' [an g9 241 (a2 fun _=>0),an g10 241 (a2 fun _=>0),an g7 3 #[.int .i64 (i:Int)],an g6 86 (sc may),an g5 86 (sc on),an g4 223 (iq n)] []) ?_ ?_
  ·refine H.alloc 241 (cs:=a2 fun _=>0) wU rfl ?_;clear H;intro g9 w3 H;refine H.alloc 241 (cs:=a2 fun _=>0) wU rfl ?_;clear H;intro g10 V H;exact ⟨(g9,g10),⟨rfl,rfl,trivial⟩,H.front 1 rfl⟩
  clear H;rintro ⟨g9,g10⟩ u w3 H;refine aw (fun w'=>Hp w ab w' [an g9 241 (a2 (aW on i)),an g10 241 (a2 (aW may i)),an g7 3 #[.int .i64 (i:Int)],an g6 86 (sc may),an g5 86 (sc on),an g4 223 (iq n)] []) ?_ ?_
  ·refine ax (γ:=Nat × (Bool→Nat) × (Bool→Nat)) (fun (k,_)=>[(26,.int .i64 (k:Int))]) (fun (k,f,g) w'=>(k≤2∧∀ b,bN b<k→f b=aW on i b∧g b=aW may i b)∧Hp w ab w' [an g9 241 (a2 f),an g10 241 (a2 g),an g7 3 #[.int .i64 (i:Int)],an g6 86 (sc may),an g5 86 (sc on),an g4 223 (iq n)] []) (fun (k,_)=>2 - k) (0,fun _=>0,fun _=>0) ⟨rfl,trivial⟩ ⟨⟨Nat.zero_le _,fun b h=>absurd h (Nat.not_lt_zero _)⟩,H⟩ ?_;clear H;rintro ⟨k,f,g⟩ u V ⟨⟨hk,F⟩,H⟩;refine au (fun h7=>?_) (fun h7=>?_)
   ·obtain ⟨b,rfl⟩:∃ b,k=bN b:=by
     have:k=0∨k=1:=by omega
     rcases this with rfl | rfl
     ·exact ⟨false,rfl⟩
     ·exact ⟨true,rfl⟩
    have T:bN b<2:=by unfold bN;cases b <;> decide
    refine aw (fun w'=>Hp w ab w' [an g9 241 (a2 (Hy f b (aW on i b))),an g10 241 (a2 (Hy g b (aW may i b))),an g7 3 #[.int .i64 (i:Int)],an g6 86 (sc may),an g5 86 (sc on),an g4 223 (iq n)] []) ?_ ?_
    ·refine ak (γ:=Unit) (fun _=>[(11,.int .i64 (bN b:Int))]) (fun _ w'=>Hp w ab w' [an g9 241 (a2 f),an g10 241 (a2 g),an g7 3 #[.int .i64 (i:Int)],an g6 86 (sc may),an g5 86 (sc on),an g4 223 (iq n)] []) ⟨(),⟨rfl,trivial⟩,H⟩ ?_;clear H;rintro ⟨⟩ u w5 H;have A:∀ s u,bz prog 188 [sv s,.int .i64 (i:Int),.bool (((bN b:Nat):Int)==1)] u fun r w'=>r=sv (aW s i b)∧aT u w':=fun s u=>by cases b <;> exact Oo s i _ (by omega) u
     refine H.fE [an g7 3 #[.int .i64 (i:Int)],an g6 86 (sc may),an g5 86 (sc on),an g4 223 (iq n)] (fun u H=>H.forget.forget) eN (by kernel_rfl) ?_;clear H;intro w6 H;refine quiet _ (fun w H=>H.ai 2 rfl aD av af) ?_;refine quiet _ (fun w H=>H.load 0 rfl aE rfl af) ?_;refine aj (A on _) ?_;rintro _ w7 ⟨rfl,hk7⟩;replace H:=H.same hk7;refine ⟨.inl H.forget.forget,?_⟩;refine quiet _ (fun w H=>H.ai 1 rfl aD av af) ?_;refine quiet _ (fun w H=>H.load 0 rfl aE rfl af) ?_;refine aj (A may _) ?_;rintro _ w8 ⟨rfl,hk8⟩;replace H:=H.same hk8;refine ⟨.inl H.forget.forget,?_⟩;refine quiet _ (fun w H=>aL underlying241 av (bN b) rfl T (o':=bN b*4) (by omega) af) ?_;refine H.fU 0 rfl av (by rw[wV];show bN b*4+4≤8;omega) (fI _) (Fo f b _) ?_;clear H;intro w9 H;refine ⟨.inl H.forget.forget,?_⟩;refine quiet _ (fun w H=>aL underlying241 av (bN b) rfl T (o':=bN b*4) (by omega) af) ?_;refine H.fU 1 rfl av (by rw[wV];show bN b*4+4≤8;omega) (fI _) (Fo g b _) ?_;clear H;intro w10 H;refine ⟨.inl H.forget.forget,?_⟩;exact ⟨(),trivial,H⟩
    ·clear H;rintro ⟨⟩ u w5 H;exact ⟨(bN b+1,Hy f b (aW on i b),Hy g b (aW may i b)),by show 2 - (bN b+1)<2 - bN b;omega,⟨up (by omega),trivial⟩,⟨by show bN b+1≤2;omega,fun c A=>by
      unfold Hy;by_cases he:c=b
      ·subst he;simp
      ·rw[if_neg he,if_neg he];refine F c ?_;have A:bN c<bN b+1:=A
       cases b <;> cases c <;> simp_all[bN]⟩,H⟩
   ·have X:f=aW on i:=funext fun b=>(F b (by unfold bN;cases b <;> simp <;> omega)).1;have e2:g=aW may i:=funext fun b=>(F b (by unfold bN;cases b <;> simp <;> omega)).2;subst X;subst e2;exact ⟨(),trivial,H⟩
  clear H;rintro ⟨⟩ u V H;refine ak (γ:=Nat) (fun g12=>[(12,(ah g12))]) (fun g12 w'=>Hp w ab w' [an g12 146 #[.slice none 0 0],an g9 241 (a2 (aW on i)),an g10 241 (a2 (aW may i)),an g7 3 #[.int .i64 (i:Int)],an g6 86 (sc may),an g5 86 (sc on),an g4 223 (iq n)] []) ?_ ?_
  ·refine H.alloc 146 (cs:=#[.slice none 0 0]) Hz rfl ?_;clear H;intro g12 w5 H;exact ⟨g12,⟨rfl,trivial⟩,H⟩
  clear H;rintro g12 u w5 H;refine ak (γ:=Nat) (fun g13=>[(13,(ah g13))]) (fun g13 w'=>Hp w ab w' [an g13 86 (sc (0)),an g12 146 #[.slice none (([]:List (Nat × Nat))).length 0],own 48 2 (.slice none (([]:List (Nat × Nat))).length 0) (([]:List (Nat × Nat))).length (flat b8 (([]:List (Nat × Nat)))),an g4 223 (iq n),an g9 241 (a2 (aW on i)),an g10 241 (a2 (aW may i)),an g7 3 #[.int .i64 (i:Int)],an g6 86 (sc may),an g5 86 (sc on)] []) ?_ ?_
  ·refine H.alloc 86 (cs:=sc 0) br aZ ?_;clear H;intro g13 w6 H;have H:=H.bC 48 2;exact ⟨g13,⟨rfl,trivial⟩,H.b9 [1,2,0,8,3,4,5,6,7] (by decide) rfl⟩
  clear H;rintro g13 u w6 H;refine ak (γ:=Unit) (fun _=>[(14,.func (.func 189) #[] ([(ah g4),(ah g9),(ah g10),(ah g7),(ah g13),(ah g12)]:List Value).toArray)]) (fun _ w'=>Hp w ab w' [an g13 86 (sc (0)),an g12 146 #[.slice none (([]:List (Nat × Nat))).length 0],own 48 2 (.slice none (([]:List (Nat × Nat))).length 0) (([]:List (Nat × Nat))).length (flat b8 (([]:List (Nat × Nat)))),an g4 223 (iq n),an g9 241 (a2 (aW on i)),an g10 241 (a2 (aW may i)),an g7 3 #[.int .i64 (i:Int)],an g6 86 (sc may),an g5 86 (sc on)] []) ?_ ?_
  ·refine nY ?_;exact ⟨(),⟨rfl,trivial⟩,H⟩
  clear H;rintro ⟨⟩ u w7 H;have q:tW n i on may:=⟨y,z,M,t,D⟩;refine ak (γ:=List (Nat × Nat) × Option Addr × Nat) (fun _=>[]) (fun (l,B,c) w'=>kV n (i+1) (bQ (aW on i false) (aW may i true)) (aW may i false) l∧Hp w ab w' [an g13 86 (sc (bQ (aW on i false) (dw n l))),an g12 146 #[.slice B (l.map (dB i false)).length c],own 48 2 (.slice B (l.map (dB i false)).length c) (l.map (dB i false)).length (flat b8 (l.map (dB i false))),an g4 223 (iq n),an g9 241 (a2 (aW on i)),an g10 241 (a2 (aW may i)),an g7 3 #[.int .i64 (i:Int)],an g6 86 (sc may),an g5 86 (sc on)] []) ?_ ?_
  ·refine fx (MB m e K false (aW on i) (aW may i) 0 [] g4 g9 g10 g7 g13 g12 none 0 w w7 [an g6 86 (sc may),an g5 86 (sc on)] (tX m e q false true) (cw _) (by simp) H) ?_;rintro _ w8 ⟨rfl,l,B,c,a,H⟩;rw[Nat.zero_or,List.nil_append] at H;exact ⟨(l,B,c),trivial,a,H⟩
  clear H;rintro ⟨o,B,c⟩ u w8 ⟨G,H⟩;have hl0:o.length≤6561:=Nat.le_trans G.len (by have:=Nat.pow_le_pow_right (show 0<3 by decide) (show n - (i+1)≤8 by omega);omega);refine ak (γ:=List (Nat × Nat) × Option Addr × Nat) (fun _=>[]) (fun (l,B,c) w'=>kV n (i+1) (bQ (aW on i true) (aW may i false)) (aW may i true) l∧Hp w ab w' [an g13 86 (sc (bQ (aW on i false) (dw n o) |||bQ (aW on i true) (dw n l))),an g12 146 #[.slice B (o.map (dB i false)++l.map (dB i true)).length c],own 48 2 (.slice B (o.map (dB i false)++l.map (dB i true)).length c) (o.map (dB i false)++l.map (dB i true)).length (flat b8 (o.map (dB i false)++l.map (dB i true))),an g4 223 (iq n),an g9 241 (a2 (aW on i)),an g10 241 (a2 (aW may i)),an g7 3 #[.int .i64 (i:Int)],an g6 86 (sc may),an g5 86 (sc on)] []) ?_ ?_
  ·refine fx (MB m e K true (aW on i) (aW may i) _ (o.map (dB i false)) g4 g9 g10 g7 g13 g12 B c w w8 [an g6 86 (sc may),an g5 86 (sc on)] (tX m e q true false) (cw _) (by rw[List.length_map];omega) H) ?_;rintro _ w9 ⟨rfl,l,B,c,a,H⟩;exact ⟨(l,B,c),trivial,a,H⟩
  clear H;rintro ⟨J,B,c⟩ u w9 ⟨I,H⟩;have hl1:J.length≤6561:=Nat.le_trans I.len (by have:=Nat.pow_le_pow_right (show 0<3 by decide) (show n - (i+1)≤8 by omega);omega);have U:IntKind.i64.wrap ((i:Int)+1)=((i+1:Nat):Int):=by rw[aH (by omega) (by omega)];omega
  have hlo:(o.map (dB i false)++J.map (dB i true)).length≤20000:=by rw[List.length_append,List.length_map,List.length_map];omega
  have x:∀ L2,kV n (i+1) (bQ (aW on i false) (dw n o) |||bQ (aW on i true) (dw n J)) (aW may i false &&&aW may i true) L2→kV n i on may (o.map (dB i false)++J.map (dB i true)++L2):=fun L2 h2=>Fj m e y z G I h2;have C:=Av m e q G I;generalize bQ (aW on i false) (dw n o) |||bQ (aW on i true) (dw n J)=rest at H x C;generalize o.map (dB i false)++J.map (dB i true)=O at H x hlo;have p1:=lI (aW may i) false;have p2:=lI (aW may i) true;refine H.fE [an g13 86 (sc rest),an g12 146 #[.slice B O.length c],an g4 223 (iq n),an g9 241 (a2 (aW on i)),an g10 241 (a2 (aW may i)),an g7 3 #[.int .i64 (i:Int)],an g6 86 (sc may),an g5 86 (sc on)] (fun u H=>(H.front 2 rfl).forget) eN (by kernel_rfl) ?_;clear H;intro w10 H;refine quiet _ (fun w H=>H.load 1 rfl Fm rfl af) ?_;refine quiet (yS n) (fun w H=>H.ai 2 rfl As wS af) ?_;refine quiet _ (fun w H=>H.ai 0 rfl aD av af) ?_;refine quiet _ (fun w H=>aL underlying241 av 0 rfl (by decide) (o':=0) rfl af) ?_;refine quiet (sv (aW may i false)) (fun w H=>H.cB 4 rfl (bL (aW may i false)) aD av p1 af) ?_;refine quiet _ (fun w H=>aL underlying241 av 1 rfl (by decide) (o':=4) rfl af) ?_;refine quiet (sv (aW may i true)) (fun w H=>H.cB 4 rfl (bL (aW may i true)) aD av p2 af) ?_;refine aj (c53 _ _ _) ?_;rintro _ w11 ⟨rfl,hk⟩;replace H:=H.same hk;refine ⟨.inl (H.front 2 rfl).forget,?_⟩;refine quiet _ (fun w H=>H.load 5 rfl aE rfl af) ?_;have A:=K rest (aW may i false &&&aW may i true) w11 C;rw[← U] at A;refine aj A ?_;rintro _ w12 ⟨A2,c2,L2,rfl,a,m⟩;replace H:=H.bq m;refine ⟨.inl (H.forget.front 2 rfl).forget,?_⟩;have hl2:L2.length≤6561:=Nat.le_trans a.len (by have:=Nat.pow_le_pow_right (show 0<3 by decide) (show n - (i+1)≤8 by omega);omega);refine H.kR 3 wT rfl (bB (H.get 0 rfl)) (vE L2) (by omega) (by omega) ?_;clear H;intro A3 d3 w13 H;refine ⟨.inl (H.forget.front 2 rfl).forget,?_⟩;have X:(O++L2).length=O.length+L2.length:=List.length_append;have e2:flat b8 (O++L2)=flat b8 O++flat b8 L2:=by unfold flat;rw[List.flatMap_append]
  have H:Hp w ab w13 [own 48 2 (.slice A3 (O.length+L2.length) d3) (O.length+L2.length) (flat b8 O++flat b8 L2)] []:=H.b9 [3] (by decide) rfl;exact ⟨A3,d3,O++L2,by rw[X];rfl,x L2 a,by rw[X,e2];exact H.out⟩
def jH (c:Nat × Nat):Value:=cv c.1 c.2
theorem Fp {a b c d:Nat}:cv a b=cv c d↔a=c∧b=d:=by
 unfold cv cc;constructor
 ·intro h;injection h with h;have h:=congrArg Array.toList h;simp at h;omega
 ·rintro ⟨rfl,rfl⟩;rfl
theorem sJ (a b:Nat × Nat)(h:jH a=jH b):a=b:=by
 obtain ⟨c,d⟩:=Fp.1 h;exact Prod.ext c d
def MC (v:Value):Prop:=∃ c,v=jH c
theorem HA (a b:Nat)(em:Bool)(w:World):(Instr.checkKey em 10000 48 (cv a b)).run prog w=.ok () w:=by kernel_rfl
theorem yT (w:World)(a b:Nat):∀ (es:List MapEntry) (i:Nat),(∀ e ∈ es,MC e.key)→
  ((Instr.findAsking 48 (cv a b) es i).run prog w=.ok none w∧∀ e ∈ es,e.key≠cv a b)∨∃ j e,(Instr.findAsking 48 (cv a b) es i).run prog w=.ok (some (i+j,e.val)) w∧es[j]?=some e∧e.key=cv a b
 | [],i,_=>.inl ⟨by simp[Instr.findAsking],by simp⟩
 | e::es,i,h=>by
  obtain ⟨⟨f,g⟩,he⟩:=h e (.head _);have he:e.key=cv f g:=he;have k:=yq a b f g w;by_cases l:a=f∧b=g
  ·obtain ⟨rfl,rfl⟩:=l;exact .inr ⟨0,e,by simp[Instr.findAsking,he,k],rfl,he⟩
  ·have p:(a==f&&b==g)=false:=by
    rw[Bool.eq_false_iff];intro c;simp at c;exact l c
   rw[p] at k;have m:e.key≠cv a b:=fun c=>l (by rw[he,Fp] at c;exact ⟨c.1.symm,c.2.symm⟩);rcases yT w a b es (i+1) (fun x d=>h x (.tail _ d)) with ⟨n,o⟩ | ⟨j,q,n,o,r⟩
   ·refine .inl ⟨by simp[Instr.findAsking,he,k,n],fun x d=>?_⟩;rcases List.mem_cons.1 d with rfl | d
    ·exact m
    ·exact o x d
   ·exact .inr ⟨j+1,q,by simp[Instr.findAsking,he,k,n];omega,by simpa using o,r⟩
theorem Ov:KL prog 48 MC where
 check:=by rintro w em _ ⟨⟨a,b⟩,rfl⟩;exact HA a b em w
 find:=by
  rintro w _ ⟨⟨a,b⟩,rfl⟩ es he
  cases es with
  | nil=>exact .inl ⟨by simp[Instr.findKey,run_underlying underlying48,Instr.findNow],by simp⟩
  | cons e es=>
   have d:∀ c,Instr.findNow (.struct c) (cv a b) (e::es) 0=none:=fun c=>rfl;have:=yT w a b (e::es) 0 he;simp only[Nat.zero_add] at this;show (_∨_);simp only[Instr.findKey,Sem.run_bind,run_underlying underlying48,Result.andThen_ok,jH,d];exact this
 stays:=by
  rintro w _ ⟨⟨a,b⟩,rfl⟩;have:Instr.sameBits 10000 (cv a b) (cv a b)=true:=by
   show (_&&_)=true;simp[Instr.sameBits,cc]
  simp[Instr.keyThatStays,jH,this]
theorem sy:lh prog 189 48 4 jH Value.bool (.bool false):=⟨underlying189,Ov.mono fun _ ⟨n,h⟩=>⟨n,h⟩,sJ,by kernel_rfl⟩
def wW (x:Rw):Value:=mA x.1 x.2.1 x.2.2
theorem Fq {a b c d e f:Nat}:mA a b c=mA d e f↔a=d∧b=e∧c=f:=by
 unfold mA dc;constructor
 ·intro h;injection h with h;have h:=congrArg Array.toList h;simp at h;omega
 ·rintro ⟨rfl,rfl,rfl⟩;rfl
theorem HB (a b:Rw)(h:wW a=wW b):a=b:=by
 obtain ⟨c,d,e⟩:=Fq.1 h;exact Prod.ext c (Prod.ext d e)
def MD (v:Value):Prop:=∃ c,v=wW c
theorem Aw (e:Nat)(a b c d:Nat)(w:World):(Op.equalIn (e+2) 48 (cv a b) (cv c d)).run prog w=.ok (a==c&&b==d) w:=by
 unfold cv;rw[Op.equalIn];have i0:=d_ underlying5 e (a:Int) (c:Int);have i1:=d_ underlying5 e (b:Int) (d:Int);have g:∀ (x y:Nat) w,(Go.part 5 (cc x y) 0).run prog w=.ok (.int .u8 (x:Int)) w:=fun x y w=>gI b7 rfl w;have h:∀ (x y:Nat) w,(Go.part 5 (cc x y) 1).run prog w=.ok (.int .u8 (y:Int)) w:=fun x y w=>gI b7 rfl w;have e0:((a:Int)==(c:Int))=(a==c):=by rw[Bool.eq_iff_iff,beq_iff_eq,beq_iff_eq,Int.natCast_inj]
 have i:((b:Int)==(d:Int))=(b==d):=by rw[Bool.eq_iff_iff,beq_iff_eq,beq_iff_eq,Int.natCast_inj]
 rw[e0] at i0;rw[i] at i1;generalize (a==c)=b0 at *;generalize (b==d)=b1 at *;have f:Tryz.prog.stoodInHeld 48=false:=by kernel_rfl
 simp only[Sem.run_bind,run_underlying underlying48,Result.andThen_ok,Go.Dk.run_sizeOf aJ,run_program,f]
 cases b0 <;> cases b1 <;> simp[g,h,i0,i1]
theorem yU (a b c e f d:Nat)(w:World):(Op.equal 50 (mA a b c) (mA e f d)).run prog w=.ok ((a==e&&b==f)&&c==d) w:=by
 have i:∀ g,(Op.equalIn (g+3) 50 (mA a b c) (mA e f d)).run prog w=.ok ((a==e&&b==f)&&c==d) w:=by
  intro g;unfold mA;rw[Op.equalIn];have i0:=fun w=>Aw g a b e f w;have i1:=d_ underlying5 (g+1) (c:Int) (d:Int);have j:∀ (x y z:Nat) w,(Go.part 48 (dc x y z) 0).run prog w=.ok (cv x y) w:=fun x y z w=>by kernel_rfl
  have k:∀ (x y z:Nat) w,(Go.part 5 (dc x y z) 2).run prog w=.ok (.int .u8 (z:Int)) w:=fun x y z w=>gI b7 rfl w;have e0:((c:Int)==(d:Int))=(c==d):=by rw[Bool.eq_iff_iff,beq_iff_eq,beq_iff_eq,Int.natCast_inj]
  rw[e0] at i1;generalize (a==e&&b==f)=b0 at *;generalize (c==d)=b1 at *;have h:Tryz.prog.stoodInHeld 50=false:=by kernel_rfl
  simp only[Sem.run_bind,run_underlying underlying50,Result.andThen_ok,Go.Dk.run_sizeOf aX,run_program,h]
  cases b0 <;> cases b1 <;> simp[j,k,i0,i1]
 exact i 9997
theorem HC (a b c:Nat)(em:Bool)(w:World):(Instr.checkKey em 10000 50 (mA a b c)).run prog w=.ok () w:=by kernel_rfl
theorem yV (w:World)(a b c:Nat):∀ (es:List MapEntry) (i:Nat),(∀ e ∈ es,MD e.key)→
  ((Instr.findAsking 50 (mA a b c) es i).run prog w=.ok none w∧∀ e ∈ es,e.key≠mA a b c)∨∃ j e,(Instr.findAsking 50 (mA a b c) es i).run prog w=.ok (some (i+j,e.val)) w∧es[j]?=some e∧e.key=mA a b c
 | [],i,_=>.inl ⟨by simp[Instr.findAsking],by simp⟩
 | e::es,i,h=>by
  obtain ⟨⟨g,k,l⟩,he⟩:=h e (.head _);have he:e.key=mA g k l:=he;have m:=yU a b c g k l w;by_cases n:a=g∧b=k∧c=l
  ·obtain ⟨rfl,rfl,rfl⟩:=n;exact .inr ⟨0,e,by simp[Instr.findAsking,he,m],rfl,he⟩
  ·have r:((a==g&&b==k)&&c==l)=false:=by
    rw[Bool.eq_false_iff];intro d;simp at d;exact n ⟨d.1.1,d.1.2,d.2⟩
   rw[r] at m;have o:e.key≠mA a b c:=fun d=>n (by rw[he,Fq] at d;exact ⟨d.1.symm,d.2.1.symm,d.2.2.symm⟩);rcases yV w a b c es (i+1) (fun x f=>h x (.tail _ f)) with ⟨p,q⟩ | ⟨j,s,p,q,t⟩
   ·refine .inl ⟨by simp[Instr.findAsking,he,m,p],fun x f=>?_⟩;rcases List.mem_cons.1 f with rfl | f
    ·exact o
    ·exact q x f
   ·exact .inr ⟨j+1,s,by simp[Instr.findAsking,he,m,p];omega,by simpa using q,t⟩
theorem Ow:KL prog 50 MD where
 check:=by rintro w em _ ⟨⟨a,b,c⟩,rfl⟩;exact HC a b c em w
 find:=by
  rintro w _ ⟨⟨a,b,c⟩,rfl⟩ es he
  cases es with
  | nil=>exact .inl ⟨by simp[Instr.findKey,run_underlying underlying50,Instr.findNow],by simp⟩
  | cons e es=>
   have f:∀ d,Instr.findNow (.struct d) (mA a b c) (e::es) 0=none:=fun d=>rfl;have:=yV w a b c (e::es) 0 he;simp only[Nat.zero_add] at this;show (_∨_);simp only[Instr.findKey,Sem.run_bind,run_underlying underlying50,Result.andThen_ok,wW,f];exact this
 stays:=by
  rintro w _ ⟨⟨a,b,c⟩,rfl⟩;have:Instr.sameBits 10000 (mA a b c) (mA a b c)=true:=by
   show (_&&_)=true;simp[Instr.sameBits,dc]
  simp[Instr.keyThatStays,wW,this]
theorem Ko:lh prog 145 50 4 wW Value.bool (.bool false):=⟨underlying145,Ow.mono fun _ ⟨n,h⟩=>⟨n,h⟩,HB,by kernel_rfl⟩
end Go.Proofs.YtpjihhgjbbihkaaGreatDoor
namespace Go.Dk
theorem ko {m v i:Nat}:(v &&&fq m i) &&&fq m i=v &&&fq m i:=by rw[Nat.and_assoc,Nat.and_self]
theorem nf {m n:Nat}(hm:m<2^n)(i:Nat):fq m i<2^n:=Nat.lt_of_le_of_lt Nat.and_le_left hm
theorem tY {m v n i:Nat}(b:n≤8)(hs:v &&&m=v):cu (bc m v n) (bc (fq m i) (v &&&fq m i) n):=fun p a=>by
 rw[bP b] at a ⊢;refine ⟨a.1,?_⟩;unfold fq;rw[← Nat.and_assoc,a.2,← Nat.and_assoc,hs]
theorem oR {m v s n:Nat}(a:n≤8)(hm:m<2^n)(hs:v &&&m=v):yK m v s n=true↔cu (bc m v n) s:=by
 have b:2^n≤2^8:=Nat.pow_le_pow_right (by decide) a;have c:=sub_lt hm hs;unfold yK;rw[(dJ (by omega) (by omega)).2 ⟨by omega,by omega,by rw[Int.toNat_natCast];exact hm,hs⟩,Bool.true_and,il (pT _ _ _)]
theorem tZ {s n m v:Nat}(a:n≤8)(hm:m<2^n)(hs:v &&&m=v)(hw:cu (bc m v n) s):∀ k,(dv s n m v k).1<2^n∧(dv s n m v k).2 &&&(dv s n m v k).1=(dv s n m v k).2∧cu (bc (dv s n m v k).1 (dv s n m v k).2 n) s∧cu (bc m v n) (bc (dv s n m v k).1 (dv s n m v k).2 n)
 | 0=>⟨hm,hs,hw,cu.refl _⟩
 | k+1=>by
  obtain ⟨b,c,e,d⟩:=tZ a hm hs hw k;unfold dv;split
  ·rename_i h;exact ⟨nf b k,ko,(oR a (nf b k) ko).1 h,d.trans (tY a c)⟩
  ·exact ⟨b,c,e,d⟩
structure jZ (S:er) (x:Rw):Prop where
 lt:x.1<2^S.n
 sub:x.2.1 &&&x.1=x.2.1
 some:0<x.2.2
 few:x.2.2<2^S.on.length
 qz:∀ (j b:Nat),x.2.2.testBit j=true→S.may[j]?=Option.some b→cu (bc x.1 x.2.1 S.n) b
theorem jZ.ok {S:er}(a:cF S){x:Rw}(h:jZ S x):im S.n S.on.length x:=by
 have c:2^S.n≤2^8:=Nat.pow_le_pow_right (by decide) a.n8;have d:2^S.on.length≤2^4:=Nat.pow_le_pow_right (by decide) a.few;have hm:=h.lt;have e:=sub_lt h.lt h.sub;have b:=h.few;exact ⟨by omega,by omega,by omega,(dJ (by omega) (by omega)).2 ⟨by omega,by have:=a.n8;omega,by rw[Int.toNat_natCast];exact hm,h.sub⟩,h.some,b⟩
theorem n6 {S:er}(a:cF S){m v:Nat}(hm:m<2^S.n)(hs:v &&&m=v)(j:Nat):(iI S m v).testBit j=true↔∃ b,S.may[j]?=Option.some b∧cu (bc m v S.n) b:=by
 rw[rp,Bool.and_eq_true,decide_eq_true_eq];constructor
 ·rintro ⟨c,hw⟩;refine ⟨S.may[j],List.getElem?_eq_getElem c,?_⟩;rw[List.getD_eq_getElem?_getD,List.getElem?_eq_getElem c] at hw;exact (oR a.n8 hm hs).1 hw
 ·rintro ⟨b,d,hw⟩;refine ⟨(List.getElem?_eq_some_iff.1 d).1,?_⟩;rw[List.getD_eq_getElem?_getD,d];exact (oR a.n8 hm hs).2 hw
theorem t_ {S:er}(d:cF S){m v o:Nat}(hm:m<2^S.n)(hs:v &&&m=v)(l:o<256):sw S m v o=true↔jZ S (m,v,o):=by
 have f:S.may.length≤4:=by rw[d.len];exact d.few
 have p:=yL f m v;unfold sw;rw[Bool.and_eq_true,decide_eq_true_eq,beq_iff_eq,iE];constructor
 ·rintro ⟨q,h⟩;have key:∀ j,o.testBit j=true→(iI S m v).testBit j=true:=fun j a=>by
   have k:=h j;have g:j<8:=by
    rcases Nat.lt_or_ge j 8 with h | h
    ·exact h
    ·rw[ew l h] at a;cases a
   rw[Nat.testBit_and,iN (by omega),a,decide_eq_true g] at k;simpa using k
  refine ⟨hm,hs,q,?_,fun j b a i=>?_⟩
  ·refine Nat.lt_pow_two_of_testBit _ fun j a=>?_;rw[Bool.eq_false_iff];intro i;have:=key j i;rw[rp,Bool.and_eq_true,decide_eq_true_eq,d.len] at this;omega
  ·obtain ⟨r,c,hw⟩:=(n6 d hm hs j).1 (key j a);rw[i] at c;injection c with c;subst c;exact hw
 ·intro h;refine ⟨h.some,fun j=>?_⟩;rw[Nat.testBit_and,iN (by omega)]
  cases a:o.testBit j with
  | false=>rfl
  | true=>
   have e:j<S.may.length:=by
    rw[d.len];refine Nat.lt_of_not_le fun hle=>?_;rw[cK h.few hle] at a
    cases a
   have:=(n6 d hm hs j).2 ⟨S.may[j],List.getElem?_eq_getElem e,h.qz j _ a (List.getElem?_eq_getElem e)⟩;rw[this];simp
theorem qv {S:er}(a:cF S){m v o:Nat}(h:jZ S (m,v,o)):∀ k,jZ S ((ba S m v o k).1,(ba S m v o k).2,o)∧cu (bc m v S.n) (bc (ba S m v o k).1 (ba S m v o k).2 S.n)
 | 0=>⟨h,cu.refl _⟩
 | k+1=>by
  obtain ⟨b,c⟩:=qv a h k;have d:o<256:=(h.ok a).o;unfold ba;split
  ·rename_i hw;exact ⟨(t_ a (nf b.lt k) ko d).1 hw,c.trans (tY a.n8 b.sub)⟩
  ·exact ⟨b,c⟩
theorem B5 {S:er}(e:cF S){m v o:Nat}(h:jZ S (m,v,o)):jZ S (m,v,iI S m v)∧∀ j,o.testBit j=true→(iI S m v).testBit j=true:=by
 have key:∀ j,o.testBit j=true→(iI S m v).testBit j=true:=fun j a=>by
  have d:j<S.may.length:=by
   rw[e.len];refine Nat.lt_of_not_le fun hle=>?_;rw[cK h.few hle] at a
   cases a
  exact (n6 e h.lt h.sub j).2 ⟨S.may[j],List.getElem?_eq_getElem d,h.qz j _ a (List.getElem?_eq_getElem d)⟩
 refine ⟨⟨h.lt,h.sub,Nat.pos_of_ne_zero fun g=>?_,?_,fun j b a f=>?_⟩,key⟩
 ·have:o=0:=iE.2 fun j=>by
   rw[Bool.eq_false_iff];intro f;have a:=key j f;rw[show iI S m v=0 from g] at a;simp at a
  have:=h.some;simp only at this;omega
 ·refine Nat.lt_pow_two_of_testBit _ fun j a=>?_;rw[rp,decide_eq_false (by rw[e.len];omega)];rfl
 ·obtain ⟨i,c,hw⟩:=(n6 e h.lt h.sub j).1 a;rw[f] at c;injection c with c;subst c;exact hw
structure Ay (n on may:Nat) (G:List (Nat × Nat)):Prop where
 lt:∀ c ∈ G,c.1<2^n∧c.2 &&&c.1=c.2∧cu (bc c.1 c.2 n) may
 out:cu on (dw n G)
end Go.Dk
namespace Go.Proofs.YtpjihhgjbbihkaaGreatDoor
open Go.Proofs.Tryz
open Go.Dk
set_option maxRecDepth 100000
attribute [local irreducible] IntKind.wrap
theorem Fs {n:Nat}{w:World}{kk:Value→World→Prop}(h:kk (yS n) w):b6 prog 223 [(0,.int .i64 (n:Int)),(1,sv (bu n))] w kk:=
 bx (fun w=>by kernel_rfl) h
theorem Kp:enters prog 128=true:=by kernel_rfl
theorem Ox (n on may:Nat)(p:n≤8)(e:cu on may)(f:cu may (bu n))(b:on<2^256)(a:may<2^256)(w:World) :
  bz prog 128 [sv on,sv may,.int .i64 (n:Int)] w fun r w'=>∃ A c L,r=.tuple #[.slice A L.length c,.int .i64 0]∧kV n 0 on may L∧eW w w' (own 48 2 (.slice A L.length c) L.length (flat b8 L)):=by
 refine ar (N:=35) func128 Kp rfl rfl rfl (by simp) ?_;have H:=Hp.aC w;refine ak (γ:=Nat × Nat) (fun (g3,g4)=>[(3,(ah g3)),(4,(ah g4)),(6,.slice none 0 0),(7,.int .i64 0)]) (fun (g3,g4) w'=>Hp w ab w' [an g4 86 (sc may),an g3 86 (sc on)] []) ?_ ?_
 ·refine H.box 86 (sv on) (cs:=sc on) rfl ?_;clear H;intro g3 s H;refine H.box 86 (sv may) (cs:=sc may) rfl ?_;clear H;intro g4 q H;exact ⟨(g3,g4),⟨rfl,rfl,rfl,rfl,trivial⟩,H⟩
 clear H;rintro ⟨g3,g4⟩ u s H;refine ak (γ:=Nat) (fun g8=>[(8,(ah g8)),(9,.int .i64 0)]) (fun g8 w'=>Hp w ab w' [an g8 86 (sc (bu n)),an g4 86 (sc may),an g3 86 (sc on)] []) ?_ ?_
 ·refine aj (oI n p _) ?_;rintro _ q ⟨rfl,d⟩;replace H:=H.same d;refine H.alloc 86 (cs:=sc 0) br aZ ?_;clear H;intro g8 t H;refine H.aV 0 rfl ?_;clear H;intro v H;exact ⟨g8,⟨rfl,rfl,trivial⟩,H⟩
 clear H;rintro g8 u q H;refine aw (fun w'=>Hp w ab w' [an g8 86 (sc (bu n)),an g4 86 (sc may),an g3 86 (sc on)] []) ?_ ?_
 ·have l:=(il b).2 e;have m:=(il a).2 f;have g:=fun u=>c85 on may b u;rw[l] at g;have i:=fun u=>c85 may (bu n) a u;rw[m] at i;refine ae rfl ?_;refine H.ai 2 rfl aD av ?_;refine ae rfl ?_;refine H.ai 1 rfl aD av ?_;refine ae rfl ?_;refine aj (g _) ?_;rintro _ x ⟨rfl,d⟩;replace H:=H.same d;clear d
  iterate 3 refine ae rfl ?_
  refine H.ai 1 rfl aD av ?_;refine ae rfl ?_;refine H.ai 0 rfl aD av ?_;refine ae rfl ?_;refine aj (i _) ?_;rintro _ y ⟨rfl,d⟩;replace H:=H.same d;clear d
  iterate 3 refine ae rfl ?_
  exact ⟨(),trivial,H⟩
 clear H;rintro ⟨⟩ u t H;refine H.ai 0 rfl aD av ?_;refine Fs ?_;refine H.ai 2 rfl aD av ?_;refine H.ai 1 rfl aD av ?_;refine aj (c159 n p (n+1) 0 (Nat.zero_le _) (by omega) on may _ ⟨e,f,fun j h=>absurd h (Nat.not_lt_zero _),fun j h=>absurd h (Nat.not_lt_zero _),b⟩) ?_;rintro _ v ⟨A,c,L,rfl,k,o⟩;replace H:=H.bq o;exact ⟨A,c,L,rfl,k,H.only.out⟩
theorem ME:enters prog 90=true:=by kernel_rfl
theorem Pl (n on may:Nat)(F:n≤8)(T:cu on may)(U:cu may (bu n))(V:on<2^256)(J:may<2^256)(w:World) :
  bz prog 90 [sv on,sv may,.int .i64 (n:Int)] w fun r w'=>∃ A c G,r=.tuple #[.slice A G.length c,.int .i64 0]∧Ay n on may G∧G.length≤6561∧eW w w' (own 48 2 (.slice A G.length c) G.length (flat b8 G)):=by
 refine ar (N:=52) func90 ME rfl rfl rfl (by simp) ?_;have H:=Hp.aC w;have h2:2^n≤2^8:=Nat.pow_le_pow_right (by decide) F;refine ak (γ:=Nat × Nat) (fun (g3,g4)=>[(3,(ah g3)),(4,(ah g4)),(6,.slice none 0 0),(7,.int .i64 0)]) (fun (g3,g4) w'=>Hp w ab w' [an g4 86 (sc may),an g3 86 (sc on)] []) ?_ ?_
 ·refine H.box 86 (sv on) (cs:=sc on) rfl ?_;clear H;intro g3 w1 H;refine H.box 86 (sv may) (cs:=sc may) rfl ?_;clear H;intro g4 w2 H;exact ⟨(g3,g4),⟨rfl,rfl,rfl,rfl,trivial⟩,H⟩
 clear H;rintro ⟨g3,g4⟩ u w1 H;refine ak (γ:=Option Addr × Nat × List (Nat × Nat)) (fun (A,c,L)=>[(8,.slice A L.length c),(9,.int .i64 0)]) (fun (A,c,L) w'=>kV n 0 on may L∧Hp w ab w' [own 48 2 (.slice A L.length c) L.length (flat b8 L),an g4 86 (sc may)] []) ?_ ?_
 ·refine H.ai 1 rfl aD av ?_;refine H.ai 0 rfl aD av ?_;refine aj (Ox n on may F T U V J _) ?_;rintro _ w2 ⟨A,c,L,rfl,a,X⟩;replace H:=H.bq X;exact ⟨(A,c,L),⟨rfl,rfl,trivial⟩,a,H.b9 [0,1] (by decide) rfl⟩
 clear H;rintro ⟨A,c,L⟩ u w2 ⟨a,H⟩;have hll:L.length≤6561:=Nat.le_trans a.len (by have:=Nat.pow_le_pow_right (show 0<3 by decide) (show n - 0≤8 by omega);omega);refine aw (fun w'=>Hp w ab w' [own 48 2 (.slice A L.length c) L.length (flat b8 L),an g4 86 (sc may)] []) ?_ ?_
 ·refine ae rfl ?_;exact ⟨(),trivial,H⟩
 clear H;rintro ⟨⟩ u w3 H;refine ak (γ:=Nat) (fun r=>[(10,.map (some r))]) (fun r w'=>Hp w ab w' [aP jH Value.bool r [],own 48 2 (.slice A L.length c) L.length (flat b8 L),an g4 86 (sc may)] []) ?_ ?_
 ·refine H.makeMap jH Value.bool ?_;clear H;intro r w4 H;exact ⟨r,⟨rfl,trivial⟩,H⟩
 clear H;rintro r u w4 H;refine ak (γ:=Unit) (fun _=>[(11,.slice none 0 0)]) (fun _ w'=>Hp w ab w' [own 48 2 (.slice none 0 0) 0 [],aP jH Value.bool r [],own 48 2 (.slice A L.length c) L.length (flat b8 L),an g4 86 (sc may)] []) ⟨(),⟨rfl,trivial⟩,H.bC 48 2⟩ ?_;clear H;rintro ⟨⟩ u w5 H;refine ak (γ:=List (Nat × Nat) × Option Addr × Nat) (fun (G,B,d)=>[(11,.slice B G.length d)]) (fun (G,B,d) w'=>(Ay n on may G∧G.length≤6561)∧Hp w ab w' [own 48 2 (.slice B G.length d) G.length (flat b8 G)] []) ?_ ?_
 ·refine ay underlying146 ?_;refine ax (γ:=Nat × List (Nat × Nat) × Option Addr × Nat × List ((Nat × Nat) × Bool)) (fun (k,G,B,d,_)=>[(29,.int .i64 (k:Int)),(11,.slice B G.length d)]) (fun (k,G,B,d,l) w'=>(k≤L.length∧(∀ x ∈ G,x.1<2^n∧x.2 &&&x.1=x.2∧cu (bc x.1 x.2 n) may)∧(∀ x ∈ L.take k,dv may n x.1 x.2 n ∈ G)∧G.length≤k∧∀ x,(bU l x).getD false=decide (x ∈ G))∧Hp w ab w' [own 48 2 (.slice B G.length d) G.length (flat b8 G),aP jH Value.bool r l,own 48 2 (.slice A L.length c) L.length (flat b8 L),an g4 86 (sc may)] []) (fun (k,_)=>L.length - k) (0,[],none,0,[]) ⟨rfl,rfl,trivial⟩ ⟨⟨Nat.zero_le _,fun x h=>by simp at h,fun x h=>by simp at h,Nat.le_refl _,fun x=>by rw[td];simp⟩,H⟩ ?_;clear H;rintro ⟨k,G,B,d,l⟩ u w6 ⟨⟨hk,D,f,o,e⟩,H⟩;refine au (fun h7=>?_) (fun h7=>?_)
  ·obtain ⟨x,I,E⟩:=rr (l:=L) (j:=k) (by omega);have b:=a.cubes x E;obtain ⟨hm,hv⟩:=b.B0 F;have t:cu (bc x.1 x.2 n) may:=fun p K=>a.qz p (ee.2 ⟨x,E,K⟩);have q:=tZ F b.lt b.sub t n;have M:=(oR F b.lt b.sub).2 t;have Y:=iZ I;refine ak (γ:=List (Nat × Nat) × Option Addr × Nat × List ((Nat × Nat) × Bool)) (fun (G,B,d,_)=>[(11,.slice B G.length d)]) (fun (G,B,d,l) w'=>((∀ x ∈ G,x.1<2^n∧x.2 &&&x.1=x.2∧cu (bc x.1 x.2 n) may)∧(∀ x ∈ L.take (k+1),dv may n x.1 x.2 n ∈ G)∧G.length≤k+1∧∀ x,(bU l x).getD false=decide (x ∈ G))∧Hp w ab w' [own 48 2 (.slice B G.length d) G.length (flat b8 G),aP jH Value.bool r l,own 48 2 (.slice A L.length c) L.length (flat b8 L),an g4 86 (sc may)] []) ?_ ?_
   ·rw[Y];obtain ⟨m,v⟩:=x;simp only at hm hv M q;obtain ⟨gA,rfl⟩:=H.kM 2 rfl (by omega);refine ak (γ:=Nat) (fun g13=>[(13,(ah g13))]) (fun g13 w'=>Hp w ab w' [an g13 48 (cc m v),own 48 2 (.slice B G.length d) G.length (flat b8 G),aP jH Value.bool r l,own 48 2 (.slice (some ⟨gA,0,none⟩) L.length c) L.length (flat b8 L),an g4 86 (sc may)] []) ?_ ?_
    ·refine aq underlying146 aJ k rfl (by omega) (o':=k*2) (by omega) ?_;refine H.eE 2 rfl fF bl aJ k rfl I ?_;refine H.alloc 48 (cs:=cc 0 0) fA rfl ?_;clear H;intro g13 w7 H;refine H.bT (c:=m) (d:=v) 0 rfl ?_;clear H;intro w8 H;exact ⟨g13,⟨rfl,trivial⟩,H⟩
    clear H;rintro g13 u w7 H;have O:=On m v may hm hv n F M;generalize Z:dv may n m v n=g at q O;have Q:∀ S:List (Nat × Nat),(∀ y ∈ G,y ∈ S)→g ∈ S→∀ y ∈ L.take k++[(m,v)],dv may n y.1 y.2 n ∈ S:=fun S h1 h2 y i=>by
     rcases List.mem_append.1 i with i | i
     ·exact h1 _ (f y i)
     ·rw[List.mem_singleton] at i;subst i;rw[Z];exact h2
    refine ak (γ:=Nat) (fun g14=>[(14,(ah g14))]) (fun g14 w'=>Hp w ab w' [an g14 48 (cc g.1 g.2),own 48 2 (.slice B G.length d) G.length (flat b8 G),aP jH Value.bool r l,own 48 2 (.slice (some ⟨gA,0,none⟩) L.length c) L.length (flat b8 L),an g4 86 (sc may)] []) ?_ ?_
    ·refine H.ai 0 rfl bl aJ ?_;refine H.ai 4 rfl aD av ?_;refine aj (O _) ?_;rintro _ w8 ⟨rfl,a0⟩;replace H:=H.same a0;refine H.alloc 48 (cs:=cc 0 0) fA rfl ?_;clear H;intro g14 w9 H;refine H.bT (c:=g.1) (d:=g.2) 0 rfl ?_;clear H;intro a1 H;exact ⟨g14,⟨rfl,trivial⟩,H.b9 [0,2,3,4,5] (by decide) rfl⟩
    clear H;rintro g14 u w8 H;have z:=e g;refine H.ai 0 rfl bl aJ ?_;by_cases s:g ∈ G
    ·rw[decide_eq_true s] at z;refine ez (H.get 2 rfl) sy g (v:=.bool true) (by revert z;cases bU l g <;> simp) ?_;refine ae rfl ?_;exact ⟨(G,B,d,l),⟨rfl,trivial⟩,⟨D,Q G (fun y h=>h) s,by show G.length≤k+1;omega,e⟩,H.forget⟩
    ·rw[decide_eq_false s] at z;refine ez (H.get 2 rfl) sy g (v:=.bool false) (by revert z;cases bU l g <;> simp) ?_;refine ag rfl ?_;refine H.ai 0 rfl bl aJ ?_;refine H.iR 2 rfl sy g true ?_;clear H;intro w9 H;refine H.ai 0 rfl bl aJ ?_;refine H.bk wT (cs:=cc g.1 g.2) (by decide) (by decide) (by kernel_rfl) ?_;clear H;intro g20 a1 H;refine H.aG 2 0 wT rfl rfl rfl (wy _ _) (by omega) (by omega) ?_;clear H;intro B2 d2 w11 H;have e1:(G++[g]).length=G.length+1:=by rw[List.length_append];rfl
     have e2:flat b8 (G++[g])=flat b8 G++b8 g:=dD ..;refine ⟨(G++[g],B2,d2,ek l g true),⟨by rw[e1];rfl,trivial⟩,⟨fun y i=>?_,Q _ (fun y h=>List.mem_append_left _ h) (List.mem_append_right _ (List.mem_singleton.2 rfl)),by show (G++[g]).length≤k+1;omega,fun y=>?_⟩,by rw[e1,e2];exact H.forget.forget⟩
     ·rcases List.mem_append.1 i with i | i
      ·exact D y i
      ·rw[List.mem_singleton] at i;subst i;exact ⟨q.1,q.2.1,q.2.2.1⟩
     ·rw[fy];by_cases C:y=g
      ·rw[if_pos C,C];simp
      ·rw[if_neg C,e y];simp[C]
   ·clear H D f o e;rintro ⟨G,B,d,l⟩ u w7 ⟨⟨D,f,o,e⟩,H⟩;exact ⟨(k+1,G,B,d,l),by show L.length - (k+1)<L.length - k;omega,⟨up (by omega),rfl,trivial⟩,⟨by show k+1≤L.length;omega,D,f,o,e⟩,H⟩
  ·have:k=L.length:=by omega
   subst this;rw[List.take_length] at f;refine ⟨(G,B,d),⟨rfl,trivial⟩,⟨⟨D,fun p K=>?_⟩,by omega⟩,H.only⟩;obtain ⟨x,I,a2⟩:=ee.1 (a.out p K);have b:=a.cubes x I;have t:cu (bc x.1 x.2 n) may:=fun p K=>a.qz p (ee.2 ⟨x,I,K⟩);exact ee.2 ⟨_,f x I,(tZ F b.lt b.sub t n).2.2.2 p a2⟩
 clear H;rintro ⟨G,B,d⟩ u w6 ⟨⟨D,o⟩,H⟩;exact ⟨B,d,G,rfl,D,o,H.out⟩
end Go.Proofs.YtpjihhgjbbihkaaGreatDoor
namespace Go.Dk
section
variable {P:Program} {w0 w:World} {F:Nat→Prop} {L M:List cS} {kk:Value→World→Prop}
theorem vF {t e:TypeId}{sz l c i g:Nat}{kd:IntKind}{j:Int}(a:P.underlying t=some (.slice e))(b:bF P e=some sz)(d:j=(i:Int))(hi:i≤l)(f:l≤c)(k:0<c)(h:kk (.slice (some ⟨g,0,none⟩) i c) w):fg P t (.slice (some ⟨g,0,none⟩) l c) none (some (.int kd j)) none w kk:=by
 subst d;unfold fg;refine ⟨_,w,?_,h⟩;rw[run_sliceAt_slice w t _ _ _ _ (elemOf a),run_slice_h w t (some ⟨g,0,none⟩) l c (elemOf a) kd (i:Int) (by omega) (by omega),nP a,run_sizeOf b];show Result.ok (sliced (some ⟨g,0,none⟩) 0 i c sz) w=_;unfold sliced;rw[if_neg (by omega)];simp[addr_add]
theorem Hp.Dn (H:Hp w0 F w L M)(n:Nat){t e ty:TypeId}{z:Value}{sz b l c i g:Nat}{xs:List Value}{p:Array Bool}(T:qR P t e z sz b)(m:L[n]?=some (own e sz (.slice (some ⟨g,0,none⟩) l c) l xs))(hi:i<l)(j:∀ u ∈ xs,u.oneCell'=true)(E:l*b≤140737488355328)(G:l<1152921504606846976)(h:∀ A d w',Hp w0 F w' (L.set n (own e sz (.slice A (l - 1) d) (l - 1) (xs.take (i*sz)++xs.drop ((i+1)*sz)))) M→kk (.slice A (l - 1) d) w') :
  bX P .append #[t,t] ty p [.slice (some ⟨g,0,none⟩) i c,sliced (some ⟨g,0,none⟩) (i+1) l c sz] w kk:=by
 obtain ⟨U,I,J,K,V⟩:=T.parts;have q:=bB (H.get n m);obtain ⟨X,Y,N,k⟩:=mn T.und T.size q (i:=i+1) (by omega);rw[N];obtain ⟨hlen,f⟩:=H.get n m;rcases f with ⟨C,J⟩ | ⟨Z,cap,cur,C,r,O,Q,hm,s,o⟩
 ·omega
 injection C with v1 _ v2;injection v1 with v1;injection v1 with v1 _ _;subst v1;subst v2;have hmul:=Nat.mul_le_mul_right sz (show i≤l by omega);have a:(own e sz (.slice (some ⟨g,0,none⟩) i c) i (xs.take (i*sz))).ok w:=by
  refine ⟨by rw[List.length_take,hlen];omega,.inr ⟨g,c,cur,rfl,r,O,by omega,hm,s,?_⟩⟩;rw[← o,List.take_take,Nat.min_eq_left hmul]
 have S:=H.nv n m (own e sz (.slice (some ⟨g,0,none⟩) i c) i (xs.take (i*sz))) (aS.refl _ _) a (fun x o=>⟨(World.ownsRow.lt (w:=w) (base:=0) a x o).2,.inl o⟩);have v:(L.set n (own e sz (.slice (some ⟨g,0,none⟩) i c) i (xs.take (i*sz))))[n]?=some (own e sz (.slice (some ⟨g,0,none⟩) i c) i (xs.take (i*sz))):=by
  rw[List.getElem?_set,if_pos rfl,if_pos (List.getElem?_eq_some_iff.1 m).1]
 have hle:l - (i+1)=l - 1 - i:=by omega
 have y:i+(l - 1 - i)=l - 1:=by omega
 rw[hle] at k ⊢;have B:(i+(l - 1 - i))*b≤140737488355328:=by rw[y];exact Nat.le_trans (Nat.mul_le_mul_right b (by omega)) E
 refine S.kR n T v k (fun u hu=>j u (List.mem_of_mem_drop hu)) B (by omega) ?_;intro A d w' D;rw[List.set_set,y] at D;have:=h A d w' D;rw[y];exact this
end
def kW (o out:Nat):Nat:=o &&&(255 - 2^out)
def bt (l:List Rw)(i out:Nat):List Rw:=
 match l[i]? with
 | some x=>if kW x.2.2 out=0 then l.take i++l.drop (i+1) else l.set i (x.1,x.2.1,kW x.2.2 out)
 | none=>l
theorem oS {α:Type}{enc:α→List Value}{sz:Nat}(he:∀ a,(enc a).length=sz):∀ (l:List α) (i:Nat),flat enc (l.take i)=(flat enc l).take (i*sz)
 | [],i=>by simp[flat]
 | a::l,0=>by simp[flat]
 | a::l,i+1=>by
  have b:=oS he l i;have e:flat enc (a::l)=enc a++flat enc l:=rfl;rw[List.take_succ_cons,e,Nat.succ_mul,Nat.add_comm,List.take_append,he,Nat.add_sub_cancel_left,← b,List.take_of_length_le (l:=enc a) (by rw[he];omega)];rfl
theorem oT {α:Type}{enc:α→List Value}{sz:Nat}(he:∀ a,(enc a).length=sz):∀ (l:List α) (i:Nat),flat enc (l.drop i)=(flat enc l).drop (i*sz)
 | [],i=>by simp[flat]
 | a::l,0=>by simp
 | a::l,i+1=>by
  have b:=oT he l i;have e:flat enc (a::l)=enc a++flat enc l:=rfl;rw[List.drop_succ_cons,e,Nat.succ_mul,Nat.add_comm,List.drop_append,he,Nat.add_sub_cancel_left,← b,List.drop_of_length_le (l:=enc a) (by rw[he];omega)];rfl
end Go.Dk
namespace Go.Proofs.YtpjihhgjbbihkaaGreatDoor
open Go.Proofs.Tryz
open Go.Dk
set_option maxRecDepth 100000
attribute [local irreducible] IntKind.wrap
theorem zx:qR prog 44 50 (mA 0 0 0) 3 3:=⟨underlying44,by kernel_rfl,rfl,by decide⟩
theorem oU (l:List Rw):∀ v ∈ flat bd l,v.oneCell'=true:=fun v a=>by
 unfold flat at a;obtain ⟨x,_,b⟩:=List.mem_flatMap.1 a;exact dA x.1 x.2.1 x.2.2 v b
theorem MF:enters prog 93=true:=by kernel_rfl
theorem c93 (l:List Rw)(i out:Nat)(hi:i<l.length)(f:out<8)(z:∀ x ∈ l,x.2.2<256)(C:l.length≤1000000)(A:Option Addr)(c:Nat)(w:World)(E:Sl w (.slice A l.length c) 3 l.length (flat bd l)) :
  bz prog 93 [.slice A l.length c,.int .i64 (i:Int),.int .i64 (out:Int)] w fun r w'=>∃ D d,r=.slice D (bt l i out).length d∧eW w w' (own 50 3 (.slice D (bt l i out).length d) (bt l i out).length (flat bd (bt l i out))):=by
 refine ar (N:=36) func93 MF rfl rfl rfl (by simp) ?_;have H:=Hp.aC w;obtain ⟨x,n,j⟩:=lU hi;have p:=z x j;have q:bt l i out=if kW x.2.2 out=0 then l.take i++l.drop (i+1) else l.set i (x.1,x.2.1,kW x.2.2 out):=by unfold bt;rw[n]
 rw[q];obtain ⟨m,v,o⟩:=x;simp only at p;have Q:2^out<256:=show 2^out<2^8 from Nat.pow_lt_pow_right (by decide) f;refine ak (γ:=Unit) (fun _=>[(6,.slice none 0 0)]) (fun _ w'=>Hp w ab w' [] []) ⟨(),⟨rfl,trivial⟩,H⟩ ?_;clear H;rintro ⟨⟩ u S H;refine ak (γ:=Nat × Nat) (fun (g,d)=>[(7,.slice (some ⟨g,0,none⟩) l.length d)]) (fun (g,d) w'=>(l.length≤d)∧Hp w ab w' [own 50 3 (.slice (some ⟨g,0,none⟩) l.length d) l.length (flat bd l)] []) ?_ ?_
 ·refine Hp.dI H zx ?_;clear H;intro g20 F H;refine Hp.ct H 0 zx rfl (E.same H.keeps) (oU l) (by omega) (by omega) ?_;clear H;intro T d1 G H;obtain ⟨g,rfl⟩:=H.kM 0 rfl (by omega);have t:l.length≤d1:=by
   obtain ⟨U,V,e,h⟩:=fz (H.get 0 rfl);injection e with _ _ e;omega
  exact ⟨(g,d1),⟨rfl,trivial⟩,t,H⟩
 clear H;rintro ⟨g,d⟩ u F ⟨t,H⟩;have a:(l.set i (m,v,kW o out))[i]?=some (m,v,kW o out):=by rw[List.getElem?_set];simp[hi]
 have b:(l.set i (m,v,kW o out)).length=l.length:=List.length_set;refine ak (γ:=Option Addr × Nat × List Rw) (fun (B,d,R)=>[(7,.slice B R.length d)]) (fun (B,d,R) w'=>R=(if kW o out=0 then l.take i++l.drop (i+1) else l.set i (m,v,kW o out))∧Hp w ab w' [own 50 3 (.slice B R.length d) R.length (flat bd R)] []) ?_ ?_
 ·refine H.draw eN (by kernel_rfl) ?_;clear H;intro G H;refine quiet _ (fun w H=>aq underlying44 aX i rfl hi (o':=0+i*3) rfl af) ?_;refine quiet _ (fun w H=>aa (dh _ _) af) ?_;refine quiet (.int .u8 (o:Int)) (fun w H=>H.mU 0 rfl bR b7 i 2 (by omega) n rfl af) ?_;refine quiet _ (fun w H=>cj (by omega) af) ?_;refine quiet _ (fun w H=>jF (by omega) (by omega) af) ?_;refine quiet _ (fun w H=>aq underlying44 aX i rfl hi (o':=0+i*3) rfl af) ?_;refine quiet _ (fun w H=>aa (dh _ _) af) ?_;refine H.ya 0 (m,v,kW o out) rfl bR kT i 2 (by omega) n (by decide) rfl rfl ?_;clear H;intro I H;refine ⟨.inr rfl,?_⟩;generalize s:l.set i (m,v,kW o out)=L at H a b ⊢;refine aq underlying44 aX i rfl hi (o':=0+i*3) rfl ?_;refine aa (dh _ _) ?_;refine H.mU 0 rfl bR b7 i 2 (by omega) a (u:=.int .u8 ((kW o out:Nat):Int)) rfl ?_;by_cases y:kW o out=0
  ·refine ag (by rw[beq_iff_eq];omega) ?_;refine H.fE [] (fun u H=>H.forget) eN (by kernel_rfl) ?_;clear H;intro X H;refine quiet _ (fun w H=>vF (i:=i) underlying44 aX rfl (by omega) (by omega) (by omega) af) ?_;have hw:IntKind.i64.wrap ((i:Int)+1)=((i+1:Nat):Int):=by rw[aH (by omega) (by omega)];omega
   refine quiet _ (fun w H=>sC (i:=i+1) (sz:=3) (l:=l.length) (c:=d) (A:=some ⟨g,0,none⟩) underlying44 aX hw (by omega) af) ?_;refine H.Dn 0 zx rfl hi (oU L) (by omega) (by omega) ?_;clear H;intro J d2 Y H;refine ⟨.inl H.forget,?_⟩;have k:(l.take i++l.drop (i+1)).length=l.length - 1:=by simp;omega
   have K:(flat bd L).take (i*3)++(flat bd L).drop ((i+1)*3)=flat bd (l.take i++l.drop (i+1)):=by
    rw[← oS bR,← oT bR,← s,List.take_set_of_le (Nat.le_refl _),List.drop_set_of_lt (by omega)];unfold flat;rw[List.flatMap_append]
   refine ⟨(J,d2,l.take i++l.drop (i+1)),⟨by rw[k];rfl,trivial⟩,(if_pos y).symm,?_⟩;rw[k,← K];exact H
  ·refine ae (by rw[beq_eq_false_iff_ne];omega) ?_;exact ⟨(some ⟨g,0,none⟩,d,L),⟨by rw[b];rfl,trivial⟩,(if_neg y).symm,by rw[b];exact H⟩
 clear H;rintro ⟨B,M,R⟩ u I ⟨O,H⟩;subst O;exact ⟨B,M,rfl,H.out⟩
end Go.Proofs.YtpjihhgjbbihkaaGreatDoor
namespace Go.Dk
def n7 (S:er)(m v o:Nat):Rw:=((ba S m v o S.n).1,(ba S m v o S.n).2,iI S (ba S m v o S.n).1 (ba S m v o S.n).2)
theorem qw {S:er}(a:cF S){m v o:Nat}(h:jZ S (m,v,o)):jZ S (n7 S m v o)∧cu (bc m v S.n) (bc (n7 S m v o).1 (n7 S m v o).2.1 S.n)∧∀ j,o.testBit j=true→(n7 S m v o).2.2.testBit j=true:=by
 obtain ⟨b,c⟩:=qv a h S.n;obtain ⟨d,e⟩:=B5 a b;exact ⟨d,c,e⟩
structure ru (S:er) (k:Nat) (R:List Rw):Prop where
 qz:∀ x ∈ R,jZ S x
 out:∀ i a,i<k→S.on[i]?=some a→cu a (hK S.n i R)
theorem Kq {S:er}(f:cF S){i:Nat}{a:Nat}{m v:Nat}(d:S.may[i]?=some a)(hm:m<2^S.n)(hs:v &&&m=v)(hw:cu (bc m v S.n) a):jZ S (m,v,2^i):=by
 have hi:i<S.on.length:=by rw[← f.len];exact (List.getElem?_eq_some_iff.1 d).1
 refine ⟨hm,hs,Nat.pow_pos (by decide),Nat.pow_lt_pow_right (by decide) hi,fun j b e c=>?_⟩;rw[Nat.testBit_two_pow,decide_eq_true_eq] at e;subst e;rw[d] at c;injection c with c;subst c;exact hw
end Go.Dk
namespace Go.Proofs.YtpjihhgjbbihkaaGreatDoor
open Go.Proofs.Tryz
open Go.Dk
set_option maxRecDepth 100000
attribute [local irreducible] IntKind.wrap
theorem MG:enters prog 57=true:=by kernel_rfl
theorem Pm {S:er}(s:cF S)(Bo:Option Addr)(co:Nat)(Bm:Option Addr)(cm:Nat)(w:World)(hA:gi w S Bo co Bm cm) :
  bz prog 57 [sf S.n (.slice Bo S.on.length co) (.slice Bm S.may.length cm)] w fun r w'=>∃ A c R,r=.tuple #[.slice A R.length c,.int .i64 0]∧ru S S.on.length R∧R.length≤26244∧eW w w' (own 50 3 (.slice A R.length c) R.length (flat bd R)):=by
 refine ar (N:=66) func57 MG rfl rfl rfl (by simp) ?_;have H:=Hp.aC w;have hn8:=s.n8;have hml:S.may.length=S.on.length:=s.len;have h4:=s.few;obtain ⟨D,t,rfl⟩:=hA.on.A (by have:=s.some;omega);obtain ⟨E,C,rfl⟩:=hA.may.A (by have:=s.some;omega);refine ak (γ:=Nat) (fun g1=>[(1,(ah g1))]) (fun g1 w'=>Hp w ab w' [an g1 41 (bp S.n (.slice (some ⟨D,t,none⟩) S.on.length co) (.slice (some ⟨E,C,none⟩) S.may.length cm))] []) ?_ ?_
 ·refine H.box 41 _ (cs:=bp S.n (.slice (some ⟨D,t,none⟩) S.on.length co) (.slice (some ⟨E,C,none⟩) S.may.length cm)) rfl ?_;clear H;intro g1 w1 H;exact ⟨g1,⟨rfl,trivial⟩,H⟩
 clear H;rintro g1 u w1 H;refine aw (fun w'=>Hp w ab w' [an g1 41 (bp S.n (.slice (some ⟨D,t,none⟩) S.on.length co) (.slice (some ⟨E,C,none⟩) S.may.length cm))] []) ?_ ?_
 ·refine H.ai 0 rfl dz bH ?_;refine aj (Hv s _ co _ cm _ (hA.same H.keeps)) ?_;rintro _ w2 ⟨rfl,hk⟩;replace H:=H.same hk;refine ae rfl ?_;exact ⟨(),trivial,H⟩
 clear H;rintro ⟨⟩ u w2 H;refine ak (γ:=Nat) (fun r=>[(4,.map (some r))]) (fun r w'=>Hp w ab w' [aP wW Value.bool r [],an g1 41 (bp S.n (.slice (some ⟨D,t,none⟩) S.on.length co) (.slice (some ⟨E,C,none⟩) S.may.length cm))] []) ?_ ?_
 ·refine H.makeMap wW Value.bool ?_;clear H;intro r w4 H;exact ⟨r,⟨rfl,trivial⟩,H⟩
 clear H;rintro r u w3 H;refine ak (γ:=Unit) (fun _=>[(5,.slice none 0 0)]) (fun _ w'=>Hp w ab w' [own 50 3 (.slice none 0 0) 0 [],aP wW Value.bool r [],an g1 41 (bp S.n (.slice (some ⟨D,t,none⟩) S.on.length co) (.slice (some ⟨E,C,none⟩) S.may.length cm))] []) ⟨(),⟨rfl,trivial⟩,H.bC 50 3⟩ ?_;clear H;rintro ⟨⟩ u w4 H;refine ak (γ:=List Rw × Option Addr × Nat) (fun (R,B,d)=>[(5,.slice B R.length d)]) (fun (R,B,d) w'=>(ru S S.on.length R∧R.length≤26244)∧Hp w ab w' [own 50 3 (.slice B R.length d) R.length (flat bd R)] []) ?_ ?_
 ·refine aa (ie _) ?_;refine H.load 2 rfl eo rfl ?_;refine ay underlying39 ?_;refine ax (γ:=Nat × List Rw × Option Addr × Nat × List (Rw × Bool)) (fun (k,R,B,d,_)=>[(21,.int .i64 (k:Int)),(5,.slice B R.length d)]) (fun (k,R,B,d,l) w'=>(k≤S.on.length∧ru S k R∧R.length≤k*6561∧∀ x,(bU l x).getD false=decide (x ∈ R))∧Hp w ab w' [own 50 3 (.slice B R.length d) R.length (flat bd R),aP wW Value.bool r l,an g1 41 (bp S.n (.slice (some ⟨D,t,none⟩) S.on.length co) (.slice (some ⟨E,C,none⟩) S.may.length cm))] []) (fun (k,_)=>S.on.length - k) (0,[],none,0,[]) ⟨rfl,rfl,trivial⟩ ⟨⟨Nat.zero_le _,⟨fun x h=>by simp at h,fun i a h=>absurd h (Nat.not_lt_zero _)⟩,Nat.zero_le _,fun x=>by rw[td];simp⟩,H⟩ ?_;clear H;rintro ⟨k,R,B,d,l⟩ u w6 ⟨⟨hk,hP,I,f⟩,H⟩;refine au (fun h7=>?_) (fun h7=>?_)
  ·obtain ⟨a,ha,hain⟩:=mB (l:=S.on) (j:=k) (by omega);obtain ⟨b,hb,hbin⟩:=mB (l:=S.may) (j:=k) (by omega);have halt:=s.onlt a hain;have hblt:=s.maylt b hbin;have hab:=s.sub k a b ha hb;have hball:=s.all b hbin;refine ak (γ:=List Rw × Option Addr × Nat × List (Rw × Bool)) (fun (R,B,d,_)=>[(5,.slice B R.length d)]) (fun (R,B,d,l) w'=>(ru S (k+1) R∧R.length≤(k+1)*6561∧∀ x,(bU l x).getD false=decide (x ∈ R))∧Hp w ab w' [own 50 3 (.slice B R.length d) R.length (flat bd R),aP wW Value.bool r l,an g1 41 (bp S.n (.slice (some ⟨D,t,none⟩) S.on.length co) (.slice (some ⟨E,C,none⟩) S.may.length cm))] []) ?_ ?_
   ·refine ak (γ:=Nat) (fun g7=>[(7,(ah g7)),(6,.int .i64 (k:Int))]) (fun g7 w'=>Hp w ab w' [an g7 86 (sc a),own 50 3 (.slice B R.length d) R.length (flat bd R),aP wW Value.bool r l,an g1 41 (bp S.n (.slice (some ⟨D,t,none⟩) S.on.length co) (.slice (some ⟨E,C,none⟩) S.may.length cm))] []) ?_ ?_
    ·refine aq underlying39 av k rfl (by omega) (o':=t+k*4) (by omega) ?_;refine Sl.dj H hA.on bW aD av k rfl ha ?_;refine H.alloc 86 (cs:=sc 0) br aZ ?_;clear H;intro g7 w7 H;refine H.aV (b:=a) 0 rfl ?_;clear H;intro w8 H;exact ⟨g7,⟨rfl,rfl,trivial⟩,H⟩
    clear H;rintro g7 u w7 H;refine ak (γ:=Option Addr × Nat × List (Nat × Nat)) (fun (A,c,G)=>[(8,.slice A G.length c)]) (fun (A,c,G) w'=>(Ay S.n a b G∧G.length≤6561)∧Hp w ab w' [own 48 2 (.slice A G.length c) G.length (flat b8 G),own 50 3 (.slice B R.length d) R.length (flat bd R),aP wW Value.bool r l,an g1 41 (bp S.n (.slice (some ⟨D,t,none⟩) S.on.length co) (.slice (some ⟨E,C,none⟩) S.may.length cm))] []) ?_ ?_
    ·refine H.draw eN (by kernel_rfl) ?_;clear H;intro w8 H;refine quiet _ (fun w H=>H.ai 0 rfl aD av af) ?_;refine quiet _ (fun w H=>aa (fL _) af) ?_;refine quiet _ (fun w H=>H.load 3 rfl eo rfl af) ?_;refine quiet _ (fun w H=>aq underlying39 av k rfl (by omega) (o':=C+k*4) (by omega) af) ?_;refine quiet (sv b) (fun w H=>Sl.dj H hA.may bW aD av k rfl hb af) ?_;refine quiet _ (fun w H=>aa (iD _) af) ?_;refine quiet _ (fun w H=>H.load 3 rfl aE rfl af) ?_;refine aj (Pl S.n a b hn8 hab hball halt hblt _) ?_;rintro _ w9 ⟨A,c,G,rfl,hG,hGl,hn'⟩;replace H:=H.bq hn';refine ⟨.inl H.forget,?_⟩;exact ⟨(A,c,G),⟨rfl,trivial⟩,⟨hG,hGl⟩,H.b9 [0,2,3,4] (by decide) rfl⟩
    clear H;rintro ⟨A,c,G⟩ u w8 ⟨⟨hG,hGl⟩,H⟩;refine ay underlying146 ?_;have hlts:∀ x ∈ G,jZ S (x.1,x.2,2^k):=fun x J=>Kq s hb (hG.lt x J).1 (hG.lt x J).2.1 (hG.lt x J).2.2;refine ax (γ:=Nat × List Rw × Option Addr × Nat × List (Rw × Bool)) (fun (i,R,B,d,_)=>[(40,.int .i64 (i:Int)),(5,.slice B R.length d)]) (fun (i,e,B,d,l) w'=>(i≤G.length∧(∀ x ∈ e,jZ S x)∧(∀ x ∈ R,x ∈ e)∧(∀ x ∈ G.take i,n7 S x.1 x.2 (2^k) ∈ e)∧e.length≤R.length+i∧∀ x,(bU l x).getD false=decide (x ∈ e))∧Hp w ab w' [own 48 2 (.slice A G.length c) G.length (flat b8 G),own 50 3 (.slice B e.length d) e.length (flat bd e),aP wW Value.bool r l,an g1 41 (bp S.n (.slice (some ⟨D,t,none⟩) S.on.length co) (.slice (some ⟨E,C,none⟩) S.may.length cm))] []) (fun (i,_)=>G.length - i) (0,R,B,d,l) ⟨rfl,rfl,trivial⟩ ⟨⟨Nat.zero_le _,hP.qz,fun x h=>h,fun x h=>by simp at h,Nat.le_refl _,f⟩,H⟩ ?_;clear H f;rintro ⟨i,e,B,d,l⟩ u w9 ⟨⟨hi,F,g,q,hlen,f⟩,H⟩;refine au (fun h7=>?_) (fun h7=>?_)
    ·obtain ⟨x,J,hxin⟩:=rr (l:=G) (j:=i) (by omega);have htk:=iZ J;have K:=hlts x hxin;have V:=K.ok s;have hok:=qw s K;obtain ⟨m,v⟩:=x;have hm:=V.m;have hv:=V.v;simp only at hm hv;refine ak (γ:=List Rw × Option Addr × Nat × List (Rw × Bool)) (fun (R,B,d,_)=>[(5,.slice B R.length d)]) (fun (e,B,d,l) w'=>((∀ x ∈ e,jZ S x)∧(∀ x ∈ R,x ∈ e)∧(∀ x ∈ G.take (i+1),n7 S x.1 x.2 (2^k) ∈ e)∧e.length≤R.length+(i+1)∧∀ x,(bU l x).getD false=decide (x ∈ e))∧Hp w ab w' [own 48 2 (.slice A G.length c) G.length (flat b8 G),own 50 3 (.slice B e.length d) e.length (flat bd e),aP wW Value.bool r l,an g1 41 (bp S.n (.slice (some ⟨D,t,none⟩) S.on.length co) (.slice (some ⟨E,C,none⟩) S.may.length cm))] []) ?_ ?_
     ·rw[htk];have M:∀ R2:List Rw,(∀ y ∈ e,y ∈ R2)→n7 S m v (2^k) ∈ R2→∀ y ∈ G.take i++[(m,v)],n7 S y.1 y.2 (2^k) ∈ R2:=fun R2 h1 h2 y hy=>by
       rcases List.mem_append.1 hy with hy | hy
       ·exact h1 _ (q y hy)
       ·rw[List.mem_singleton] at hy;subst hy;exact h2
      obtain ⟨gA,rfl⟩:=H.kM 0 rfl (by omega);refine ak (γ:=Nat) (fun g11=>[(11,(ah g11))]) (fun g11 w'=>Hp w ab w' [an g11 48 (cc m v),own 48 2 (.slice (some ⟨gA,0,none⟩) G.length c) G.length (flat b8 G),own 50 3 (.slice B e.length d) e.length (flat bd e),aP wW Value.bool r l,an g1 41 (bp S.n (.slice (some ⟨D,t,none⟩) S.on.length co) (.slice (some ⟨E,C,none⟩) S.may.length cm))] []) ?_ ?_
      ·refine aq underlying146 aJ i rfl (by omega) (o':=i*2) (by omega) ?_;refine H.eE 0 rfl fF bl aJ i rfl J ?_;refine H.alloc 48 (cs:=cc 0 0) fA rfl ?_;clear H;intro g11 w10 H;refine H.bT (c:=m) (d:=v) 0 rfl ?_;clear H;intro w11 H;exact ⟨g11,⟨rfl,trivial⟩,H⟩
      clear H;rintro g11 u w10 H;have X:=fun u (h:gi u S (some ⟨D,t,none⟩) co (some ⟨E,C,none⟩) cm)=>c91 s m v (2^k) hm hv V.o ((t_ s K.lt K.sub V.o).2 K) _ co _ cm u h;have hfold:mA (ba S m v (2^k) S.n).1 (ba S m v (2^k) S.n).2 (iI S (ba S m v (2^k) S.n).1 (ba S m v (2^k) S.n).2)=wW (n7 S m v (2^k)):=rfl;simp only[hfold] at X;generalize n7 S m v (2^k)=y at hok X M;refine ak (γ:=Nat) (fun g12=>[(12,(ah g12))]) (fun g12 w'=>Hp w ab w' [an g12 50 (dc y.1 y.2.1 y.2.2),own 48 2 (.slice (some ⟨gA,0,none⟩) G.length c) G.length (flat b8 G),own 50 3 (.slice B e.length d) e.length (flat bd e),aP wW Value.bool r l,an g1 41 (bp S.n (.slice (some ⟨D,t,none⟩) S.on.length co) (.slice (some ⟨E,C,none⟩) S.may.length cm))] []) ?_ ?_
      ·refine gH (fun u=>Hp w ab u [an g11 48 (cc m v),own 48 2 (.slice (some ⟨gA,0,none⟩) G.length c) G.length (flat b8 G),own 50 3 (.slice B e.length d) e.length (flat bd e),aP wW Value.bool r l,an g1 41 (bp S.n (.slice (some ⟨D,t,none⟩) S.on.length co) (.slice (some ⟨E,C,none⟩) S.may.length cm))] []) [([5,9,10],[0,1,2,3,4,5,6,7,9,10,8,11]),([9,5,10],[0,1,2,3,4,9,5,6,7,10,8,11])] eN (by kernel_rfl) (H.same (aS.drew _)) ?_;replace H:=H.same (aS.drew _);generalize w10.drew=w11 at H;intro z O;simp only[List.mem_cons,List.not_mem_nil,or_false] at O;rcases O with rfl | rfl
       ·refine quiet _ (fun w H=>H.ai 4 rfl dz bH af) ?_;refine quiet _ (fun w H=>H.ai 0 rfl bl aJ af) ?_;refine quiet _ (fun w H=>cj (by omega) af) ?_;refine quiet _ (fun w H=>lH af) ?_;refine aj (X _ (hA.same H.keeps)) ?_;rintro _ w12 ⟨rfl,Q⟩;replace H:=H.same Q;clear Q;refine ⟨.inl H,?_⟩;refine H.alloc 50 (cs:=dc 0 0 0) ic rfl ?_;clear H;intro g12 w13 H;refine ⟨.inl H.forget,?_⟩;refine H.storeAll (cs':=dc y.1 y.2.1 y.2.2) 0 rfl aX rfl (dA _ _ _) ?_;clear H;intro w14 H;refine ⟨.inl H.forget,?_⟩;exact ⟨g12,⟨rfl,trivial⟩,H.b9 [0,2,3,4,5] (by decide) rfl⟩
       ·refine quiet _ (fun w H=>H.ai 4 rfl dz bH af) ?_;refine quiet _ (fun w H=>H.ai 0 rfl bl aJ af) ?_;refine quiet _ (fun w H=>cj (by omega) af) ?_;refine quiet _ (fun w H=>lH af) ?_;refine H.alloc 50 (cs:=dc 0 0 0) ic rfl ?_;clear H;intro g12 w13 H;refine ⟨.inl H.forget,?_⟩;refine aj (X _ (hA.same H.keeps)) ?_;rintro _ w12 ⟨rfl,Q⟩;replace H:=H.same Q;clear Q;refine ⟨.inl H.forget,?_⟩;refine H.storeAll (cs':=dc y.1 y.2.1 y.2.2) 0 rfl aX rfl (dA _ _ _) ?_;clear H;intro w14 H;refine ⟨.inl H.forget,?_⟩;exact ⟨g12,⟨rfl,trivial⟩,H.b9 [0,2,3,4,5] (by decide) rfl⟩
      clear H;rintro g12 u w11 H;have Y:=f y;refine H.ai 0 rfl fo aX ?_;by_cases T:y ∈ e
      ·rw[decide_eq_true T] at Y;refine ez (H.get 3 rfl) Ko y (v:=.bool true) (by revert Y;cases bU l y <;> simp) ?_;refine ae rfl ?_;exact ⟨(e,B,d,l),⟨rfl,trivial⟩,⟨F,g,M e (fun y h=>h) T,by show e.length≤R.length+(i+1);omega,f⟩,H.forget⟩
      ·rw[decide_eq_false T] at Y;refine ez (H.get 3 rfl) Ko y (v:=.bool false) (by revert Y;cases bU l y <;> simp) ?_;refine ag rfl ?_;refine H.ai 0 rfl fo aX ?_;refine H.iR 3 rfl Ko y true ?_;clear H;intro w12 H;refine H.ai 0 rfl fo aX ?_;refine H.bk zx (cs:=dc y.1 y.2.1 y.2.2) (by decide) (by decide) (by kernel_rfl) ?_;clear H;intro g20 w13 H;refine H.aG 3 0 zx rfl rfl rfl (dA _ _ _) (by omega) (by omega) ?_;clear H;intro B2 d2 w14 H;have e1:(e++[y]).length=e.length+1:=by rw[List.length_append];rfl
       have e2:flat bd (e++[y])=flat bd e++bd y:=dD ..;refine ⟨(e++[y],B2,d2,ek l y true),⟨by rw[e1];rfl,trivial⟩,⟨fun z O=>?_,fun z O=>List.mem_append_left _ (g z O),M _ (fun y h=>List.mem_append_left _ h) (List.mem_append_right _ (List.mem_singleton.2 rfl)),by show (e++[y]).length≤R.length+(i+1);omega,fun z=>?_⟩,by rw[e1,e2];exact H.forget.forget⟩
       ·rcases List.mem_append.1 O with O | O
        ·exact F z O
        ·rw[List.mem_singleton] at O;subst O;exact hok.1
       ·rw[fy];by_cases Z:z=y
        ·rw[if_pos Z,Z];simp
        ·rw[if_neg Z,f z];simp[Z]
     ·clear H F g q hlen f;rintro ⟨e,B,d,l⟩ u w10 ⟨⟨F,g,q,hlen,f⟩,H⟩;exact ⟨(i+1,e,B,d,l),by show G.length - (i+1)<G.length - i;omega,⟨up (by omega),rfl,trivial⟩,⟨by show i+1≤G.length;omega,F,g,q,hlen,f⟩,H⟩
    ·have:i=G.length:=by omega
     subst this;rw[List.take_length] at q;refine ⟨(e,B,d,l),⟨rfl,trivial⟩,⟨⟨F,fun j a' hj U p hp=>?_⟩,by show e.length≤(k+1)*6561;omega,f⟩,H.forget⟩;rw[gQ];rcases Nat.lt_or_ge j k with hjk | hjk
     ·obtain ⟨x,J,h1,h2⟩:=gQ.1 (hP.out j a' hjk U p hp);exact ⟨x,g x J,h1,h2⟩
     ·obtain rfl:j=k:=by omega
      rw[ha] at U;injection U with U;subst U;obtain ⟨x,J,hxp⟩:=ee.1 (hG.out p hp);have h:=qw s (hlts x J);exact ⟨_,q x J,h.2.2 j (by rw[Nat.testBit_two_pow];simp),h.2.1 p hxp⟩
   ·clear H hP I f;rintro ⟨R,B,d,l⟩ u w7 ⟨⟨hP,I,f⟩,H⟩;exact ⟨(k+1,R,B,d,l),by show S.on.length - (k+1)<S.on.length - k;omega,⟨up (by omega),rfl,trivial⟩,⟨by show k+1≤S.on.length;omega,hP,I,f⟩,H⟩
  ·have:k=S.on.length:=by omega
   subst this;exact ⟨(R,B,d),⟨rfl,trivial⟩,⟨hP,by omega⟩,H.only⟩
 clear H;rintro ⟨R,B,d⟩ u w6 ⟨⟨hP,I⟩,H⟩;exact ⟨B,d,R,rfl,hP,I,H.out⟩
end Go.Proofs.YtpjihhgjbbihkaaGreatDoor
namespace Go.Dk
theorem mE {o out:Nat}(c:o<256)(a:out<8)(j:Nat):(kW o out).testBit j=(o.testBit j&& !decide (j=out)):=by
 rcases Nat.lt_or_ge j 8 with b | b
 ·have:=qs (m:=o) a j b;unfold fq at this;unfold kW;rw[this];by_cases h:out=j
  ·subst h;simp
  ·simp[h,Ne.symm h]
 ·unfold kW;rw[Nat.testBit_and,ew c b];simp
structure Kr (x' x:Rw):Prop where
 m:x'.1=x.1
 v:x'.2.1=x.2.1
 o:∀ j,x'.2.2.testBit j=true→x.2.2.testBit j=true
theorem Ft {l:List Rw}{i out:Nat}(t:∀ x ∈ l,x.2.2<256)(d:out<8)(hi:i<l.length){n o p:Nat} :
  (hK n o (bt l i out)).testBit p=true↔∃ j x,l[j]?=some x∧x.2.2.testBit o=true∧(bc x.1 x.2.1 n).testBit p=true∧¬ (j=i∧o=out):=by
 rw[gQ];obtain ⟨⟨m,v,r⟩,q⟩:∃ x,l[i]=x:=⟨_,rfl⟩;have k:l[i]?=some (m,v,r):=by rw[List.getElem?_eq_getElem hi,q]
 have f:=t _ (List.mem_of_getElem? k);unfold bt;rw[k];simp only;split
 ·rename_i u;constructor
  ·rintro ⟨x,c,b,e⟩;rcases List.mem_append.1 c with c | c
   ·obtain ⟨j,a⟩:=List.getElem?_of_mem c;rw[List.getElem?_take] at a;split at a
    ·rename_i w;exact ⟨j,x,a,b,e,by omega⟩
    ·cases a
   ·obtain ⟨j,a⟩:=List.getElem?_of_mem c;rw[List.getElem?_drop] at a;exact ⟨_,x,a,b,e,by omega⟩
  ·rintro ⟨j,x,a,b,e,s⟩;refine ⟨x,List.mem_append.2 ?_,b,e⟩;rcases Nat.lt_trichotomy j i with h | h | h
   ·exact .inl (List.mem_of_getElem? (i:=j) (by rw[List.getElem?_take,if_pos h];exact a))
   ·subst h;rw[k] at a;injection a with a;subst a;have:=mE f d o;rw[u] at this;simp only at b;rw[b] at this;simp at this;exact absurd ⟨rfl,this⟩ s
   ·refine .inr (List.mem_of_getElem? (i:=j - (i+1)) ?_);rw[List.getElem?_drop,show i+1+(j - (i+1))=j by omega];exact a
 ·constructor
  ·rintro ⟨x,c,b,e⟩;obtain ⟨j,a⟩:=List.getElem?_of_mem c;rw[List.getElem?_set] at a;split at a
   ·rename_i g;subst g;injection a with a;subst a;simp only at b e;rw[mE f d,Bool.and_eq_true] at b;exact ⟨i,_,k,b.1,e,by have:=b.2;simp at this;omega⟩
   ·exact ⟨j,x,a,b,e,by omega⟩
  ·rintro ⟨j,x,a,b,e,s⟩;by_cases g:j=i
   ·subst g;rw[k] at a;injection a with a;subst a;refine ⟨(m,v,kW r out),List.mem_of_getElem? (i:=j) (by rw[List.getElem?_set,if_pos rfl,if_pos hi]),?_,e⟩;simp only at b ⊢;rw[mE f d,b];simp;omega
   ·exact ⟨x,List.mem_of_getElem? (i:=j) (by rw[List.getElem?_set,if_neg (by omega)];exact a),b,e⟩
theorem gU {S:er}(g:cF S){l:List Rw}:bD S l=true↔∀ (j a b:Nat),S.on[j]?=some a→S.may[j]?=some b→cu a (hK S.n j l)∧cu (hK S.n j l) b:=by
 unfold bD;rw[List.all_eq_true];constructor
 ·intro h j a b c f;have d:=(List.getElem?_eq_some_iff.1 c).1;have:=h j (List.mem_range.2 d);rw[List.getD_eq_getElem?_getD,c,List.getD_eq_getElem?_getD,f,Bool.and_eq_true] at this;have i:=g.onlt a (List.mem_of_getElem? c);exact ⟨(il i).1 this.1,(il (wR _ _ _)).1 this.2⟩
 ·intro h j d;have d:=List.mem_range.1 d;obtain ⟨a,c,e⟩:=Go.Proofs.YtpjihhgjbbihkaaGreatDoor.mB (l:=S.on) d;obtain ⟨b,f,_⟩:=Go.Proofs.YtpjihhgjbbihkaaGreatDoor.mB (l:=S.may) (j:=j) (by rw[g.len];exact d);have:=h j a b c f;rw[List.getD_eq_getElem?_getD,c,List.getD_eq_getElem?_getD,f,Bool.and_eq_true];exact ⟨(il (g.onlt a e)).2 this.1,(il (wR _ _ _)).2 this.2⟩
theorem yW {S:er}(f:cF S){l c:List Rw}(h:∀ j p,(hK S.n j c).testBit p=true→(hK S.n j l).testBit p=true)(hm:∀ (j b:Nat),S.may[j]?=some b→cu (hK S.n j l) b)(d:bD S c=true):bD S l=true:=by
 rw[gU f] at d ⊢;intro j a b g e;exact ⟨fun p i=>h j p ((d j a b g e).1 p i),hm j b e⟩
def Dp (j:Nat)(b l:List Rw):Prop:=∀ a x',b[a]?=some x'→∃ i x,l[i]?=some x∧Kr x' x∧(i=j→a=j)
theorem HD {l b:List Rw}{j out:Nat}(h:Dp j b l)(g:∀ x ∈ l,x.2.2<256)(c:∀ x ∈ b,x.2.2<256)(a:out<8)(k:j<l.length)(d:j<b.length){n o p:Nat}(e:(hK n o (bt b j out)).testBit p=true):(hK n o (bt l j out)).testBit p=true:=by
 rw[Ft c a d] at e;rw[Ft g a k];obtain ⟨q,x',r,s,t,u⟩:=e;obtain ⟨i,x,g1,g2,g3⟩:=h q x' r;refine ⟨i,x,g1,g2.o o s,by rw[← g2.m,← g2.v];exact t,fun f=>u ⟨g3 f.1,f.2⟩⟩
theorem Kr.refl (x:Rw):Kr x x:=⟨rfl,rfl,fun _ h=>h⟩
theorem HE {l:List Rw}{i out j:Nat}(g:∀ x ∈ l,x.2.2<256)(b:out<8)(hi:i<l.length)(n:j<i):Dp j (bt l i out) l:=by
 intro f x' a;obtain ⟨⟨m,v,k⟩,c⟩:∃ x,l[i]=x:=⟨_,rfl⟩;have d:l[i]?=some (m,v,k):=by rw[List.getElem?_eq_getElem hi,c]
 have e:=g _ (List.mem_of_getElem? d);unfold bt at a;rw[d] at a;simp only at a;split at a
 ·rw[List.getElem?_append,List.length_take,Nat.min_eq_left (by omega)] at a;split at a
  ·rename_i h;rw[List.getElem?_take,if_pos h] at a;exact ⟨f,x',a,Kr.refl _,id⟩
  ·rw[List.getElem?_drop] at a;exact ⟨_,x',a,Kr.refl _,fun h=>by omega⟩
 ·rw[List.getElem?_set] at a;split at a
  ·rename_i h;injection a with a;subst a h;exact ⟨i,_,d,⟨rfl,rfl,fun j h=>by rw[mE e b,Bool.and_eq_true] at h;exact h.1⟩,id⟩
  ·exact ⟨f,x',a,Kr.refl _,id⟩
theorem Fu {l:List Rw}{i out j:Nat}(f:∀ x ∈ l,x.2.2<256)(b:out<8)(hi:i<l.length)(h:(bt l i out).length=l.length):Dp j (bt l i out) l:=by
 intro g x' a;obtain ⟨⟨m,v,k⟩,c⟩:∃ x,l[i]=x:=⟨_,rfl⟩;have d:l[i]?=some (m,v,k):=by rw[List.getElem?_eq_getElem hi,c]
 have e:=f _ (List.mem_of_getElem? d);unfold bt at a h;rw[d] at a h;simp only at a h;split at a
 ·rename_i n;rw[if_pos n] at h;simp at h;omega
 ·rw[List.getElem?_set] at a;split at a
  ·rename_i h;injection a with a;subst a h;exact ⟨i,_,d,⟨rfl,rfl,fun j h=>by rw[mE e b,Bool.and_eq_true] at h;exact h.1⟩,id⟩
  ·exact ⟨g,x',a,Kr.refl _,id⟩
theorem Ks {l:List Rw}{i out:Nat}(hi:i<l.length):(bt l i out).length=l.length∨(bt l i out).length+1=l.length:=by
 unfold bt;rw[List.getElem?_eq_getElem hi];simp only;split
 ·exact .inr (by simp;omega)
 ·exact .inl List.length_set
theorem Kt {l:List Rw}{i out:Nat}(hi:i<l.length){x:Rw}(a:x ∈ bt l i out):x ∈ l∨∃ y ∈ l,kW y.2.2 out≠0∧x=(y.1,y.2.1,kW y.2.2 out):=by
 unfold bt at a;rw[List.getElem?_eq_getElem hi] at a;simp only at a;split at a
 ·rcases List.mem_append.1 a with h | h
  ·exact .inl (List.mem_of_mem_take h)
  ·exact .inl (List.mem_of_mem_drop h)
 ·rename_i b;rcases List.mem_or_eq_of_mem_set a with h | h
  ·exact .inl h
  ·exact .inr ⟨_,List.getElem_mem hi,b,h⟩
theorem MH {n k:Nat}{l:List Rw}(a:∀ x ∈ l,im n k x){i out:Nat}(hi:i<l.length):∀ x ∈ bt l i out,im n k x:=by
 intro x b;rcases Kt hi b with h | ⟨y,c,d,rfl⟩
 ·exact a x h
 ·have h:=a y c;have hle:kW y.2.2 out≤y.2.2:=Nat.and_le_left;have:=h.o;have:=h.few;exact ⟨h.m,h.v,by show kW y.2.2 out<256;omega,h.right,Nat.pos_of_ne_zero d,by show kW y.2.2 out<2^k;omega⟩
theorem Ku {S:er}{l:List Rw}(b:∀ x ∈ l,x.2.2<256){i out:Nat}(a:out<8)(hi:i<l.length)(j p:Nat)(h:(hK S.n j (bt l i out)).testBit p=true):(hK S.n j l).testBit p=true:=by
 rw[Ft b a hi] at h;obtain ⟨f,x,c,d,e,_⟩:=h;exact gQ.2 ⟨x,List.mem_of_getElem? c,d,e⟩
def pG (S:er)(l:List Rw)(i:Nat):Prop:=∀ (j:Nat) (x:Rw) (out:Nat),j<i→l[j]?=some x→x.2.2.testBit out=true→bD S (bt l j out)=false
theorem yX {S:er}(d:cF S){l c:List Rw}{j out:Nat}(n:Dp j c l)(i:∀ x ∈ l,x.2.2<256)(e:∀ x ∈ c,x.2.2<256)(q:bD S l=true)(a:out<8)(k:j<l.length)(f:j<c.length)(h:bD S (bt l j out)=false):bD S (bt c j out)=false:=by
 rw[Bool.eq_false_iff] at h ⊢;intro r;refine h (yW d (fun o p=>HD n i e a k f) (fun o b m p s=>?_) r);have g:o<S.on.length:=by rw[← d.len];exact (List.getElem?_eq_some_iff.1 m).1
 exact ((gU d).1 q o _ b (List.getElem?_eq_getElem g) m).2 p (Ku i a k o p s)
theorem ry (p i:Nat):((((p / 2^i &&&1:Nat):Int)==0):Bool)= !p.testBit i:=by
 have h:=cQ p i;rw[Nat.and_one_is_mod] at h ⊢;rcases Nat.mod_two_eq_zero_or_one (p / 2^i) with e | e
 ·rw[e] at h ⊢;rw[← h];rfl
 ·rw[e] at h ⊢;rw[← h];rfl
theorem Fv {l:List Rw}{i out j:Nat}(hi:i<l.length)(a:j<i):(bt l i out)[j]?=l[j]?:=by
 unfold bt;rw[List.getElem?_eq_getElem hi];simp only;split
 ·rw[List.getElem?_append,List.length_take,Nat.min_eq_left (by omega),if_pos a,List.getElem?_take,if_pos a]
 ·rw[List.getElem?_set,if_neg (by omega)]
def wX (S:er)(a i k:Nat)(R:List Rw):Prop:=
 (R.length=a∧i<a∧∀ (x:Rw) (out:Nat),out<k→R[i]?=some x→x.2.2.testBit out=true→bD S (bt R i out)=false)∨R.length+1=a
end Go.Dk
namespace Go.Proofs.YtpjihhgjbbihkaaGreatDoor
open Go.Proofs.Tryz
open Go.Dk
set_option maxRecDepth 100000
attribute [local irreducible] IntKind.wrap
theorem MI:enters prog 58=true:=by kernel_rfl
theorem Pn {S:er}(V:cF S)(l:List Rw)(hl:∀ x ∈ l,im S.n S.on.length x)(hll:l.length≤1000000)(hc:bD S l=true)(Bo:Option Addr)(co:Nat)(Bm:Option Addr)(cm:Nat)(A:Option Addr)(c:Nat)(w:World)(hA:gi w S Bo co Bm cm)(hR:Sl w (.slice A l.length c) 3 l.length (flat bd l)) :
  bz prog 58 [sf S.n (.slice Bo S.on.length co) (.slice Bm S.may.length cm),.slice A l.length c] w fun r w'=>∃ B d R,r=.tuple #[.slice B R.length d,.int .i64 0]∧(R.length≤l.length∧(∀ x ∈ R,im S.n S.on.length x)∧bD S R=true∧pG S R R.length)∧eW w w' (own 50 3 (.slice B R.length d) R.length (flat bd R)):=by
 refine ar (N:=61) func58 MI rfl rfl rfl (by simp) ?_;have H:=Hp.aC w;have hn8:=V.n8;have hml:S.may.length=S.on.length:=V.len;have h4:=V.few;refine ak (γ:=Nat) (fun g2=>[(2,(ah g2))]) (fun g2 w'=>Hp w ab w' [an g2 41 (bp S.n (.slice Bo S.on.length co) (.slice Bm S.may.length cm))] []) ?_ ?_
 ·refine H.box 41 _ (cs:=bp S.n (.slice Bo S.on.length co) (.slice Bm S.may.length cm)) rfl ?_;clear H;intro g2 w1 H;exact ⟨g2,⟨rfl,trivial⟩,H⟩
 clear H;rintro g2 u w1 H;refine aw (fun w'=>Hp w ab w' [an g2 41 (bp S.n (.slice Bo S.on.length co) (.slice Bm S.may.length cm))] []) ?_ ?_
 ·have G:=fun u h1 h2=>O9 V l hl hll Bo co Bm cm A c u h1 h2;rw[hc] at G;refine H.ai 0 rfl dz bH ?_;refine aj (G _ (hA.same H.keeps) (hR.same H.keeps)) ?_;rintro _ w2 ⟨rfl,hk⟩;replace H:=H.same hk;refine ae rfl ?_;exact ⟨(),trivial,H⟩
 clear H;rintro ⟨⟩ u w2 H;refine ak (γ:=Option Addr × Nat) (fun (B,d)=>[(6,.slice B l.length d)]) (fun (B,d) w'=>Hp w ab w' [own 50 3 (.slice B l.length d) l.length (flat bd l),an g2 41 (bp S.n (.slice Bo S.on.length co) (.slice Bm S.may.length cm))] []) ?_ ?_
 ·refine Hp.dI H zx ?_;clear H;intro g20 w3 H;refine Hp.ct H 0 zx rfl (hR.same H.keeps) (oU l) (by omega) (by omega) ?_;clear H;intro A1 d1 w4 H;exact ⟨(A1,d1),⟨rfl,trivial⟩,H⟩
 clear H;rintro ⟨B,d⟩ u w3 H;refine ak (γ:=List Rw × Option Addr × Nat) (fun (R,B,d)=>[(6,.slice B R.length d)]) (fun (R,B,d) w'=>(R.length≤l.length∧(∀ x ∈ R,im S.n S.on.length x)∧bD S R=true∧pG S R R.length)∧Hp w ab w' [own 50 3 (.slice B R.length d) R.length (flat bd R)] []) ?_ ?_
 ·refine ax (γ:=Nat × List Rw × Option Addr × Nat) (fun (i,R,B,d)=>[(7,.int .i64 (i:Int)),(6,.slice B R.length d)]) (fun (i,R,B,d) w'=>(i≤R.length∧R.length≤l.length∧(∀ x ∈ R,im S.n S.on.length x)∧bD S R=true∧pG S R i)∧Hp w ab w' [own 50 3 (.slice B R.length d) R.length (flat bd R),an g2 41 (bp S.n (.slice Bo S.on.length co) (.slice Bm S.may.length cm))] []) (fun (i,R,_)=>R.length - i) (0,l,B,d) ⟨rfl,rfl,trivial⟩ ⟨⟨Nat.zero_le _,Nat.le_refl _,hl,hc,fun j x out h=>absurd h (Nat.not_lt_zero _)⟩,H⟩ ?_;clear H;rintro ⟨i,R,B,d⟩ u w6 ⟨⟨hi,hRl,hok,O,E⟩,H⟩;refine ay underlying44 ?_;refine au (fun h7=>?_) (fun h7=>?_)
  ·refine ak (γ:=Unit) (fun _=>[(8,.int .i64 (R.length:Int))]) (fun _ w'=>Hp w ab w' [own 50 3 (.slice B R.length d) R.length (flat bd R),an g2 41 (bp S.n (.slice Bo S.on.length co) (.slice Bm S.may.length cm))] []) ?_ ?_
   ·refine ay underlying44 ?_;exact ⟨(),⟨rfl,trivial⟩,H⟩
   clear H;rintro ⟨⟩ u w7 H;refine ak (γ:=List Rw × Option Addr × Nat) (fun (R,B,d)=>[(6,.slice B R.length d)]) (fun (a,B,d) w'=>((a.length=R.length∨a.length+1=R.length)∧(∀ x ∈ a,im S.n S.on.length x)∧bD S a=true∧pG S a i∧wX S R.length i S.on.length a)∧Hp w ab w' [own 50 3 (.slice B a.length d) a.length (flat bd a),an g2 41 (bp S.n (.slice Bo S.on.length co) (.slice Bm S.may.length cm))] []) ?_ ?_
   ·refine aa (ie _) ?_;refine H.load 1 rfl eo rfl ?_;refine ay underlying39 ?_;refine ax (γ:=Nat × List Rw × Option Addr × Nat) (fun (k,R,B,d)=>[(27,.int .i64 (k:Int)),(6,.slice B R.length d)]) (fun (k,a,B,d) w'=>(k≤S.on.length∧(∀ x ∈ a,im S.n S.on.length x)∧bD S a=true∧pG S a i∧wX S R.length i k a)∧Hp w ab w' [own 50 3 (.slice B a.length d) a.length (flat bd a),an g2 41 (bp S.n (.slice Bo S.on.length co) (.slice Bm S.may.length cm))] []) (fun (k,_)=>S.on.length - k) (0,R,B,d) ⟨rfl,rfl,trivial⟩ ⟨⟨Nat.zero_le _,hok,O,E,.inl ⟨rfl,by omega,fun x out h=>absurd h (Nat.not_lt_zero _)⟩⟩,H⟩ ?_;clear H;rintro ⟨k,a,B,d⟩ u w8 ⟨⟨hk,g,p,f,s⟩,H⟩;refine au (fun h8=>?_) (fun h8=>?_)
    ·refine ak (γ:=List Rw × Option Addr × Nat) (fun (R,B,d)=>[(6,.slice B R.length d)]) (fun (a,B,d) w'=>((∀ x ∈ a,im S.n S.on.length x)∧bD S a=true∧pG S a i∧wX S R.length i (k+1) a)∧Hp w ab w' [own 50 3 (.slice B a.length d) a.length (flat bd a),an g2 41 (bp S.n (.slice Bo S.on.length co) (.slice Bm S.may.length cm))] []) ?_ ?_
     ·refine ak (γ:=Unit) (fun _=>[(9,.int .i64 (k:Int))]) (fun _ w'=>Hp w ab w' [own 50 3 (.slice B a.length d) a.length (flat bd a),an g2 41 (bp S.n (.slice Bo S.on.length co) (.slice Bm S.may.length cm))] []) ⟨(),⟨rfl,trivial⟩,H⟩ ?_;clear H;rintro ⟨⟩ u w9 H;rcases s with ⟨I,X,Y⟩ | I
      ·obtain ⟨x,J,hxin⟩:=lU (l:=a) (j:=i) (by omega);have hxo:=g x hxin;have C:¬ (a.length:Int)<(R.length:Int):=by omega
       obtain ⟨gB,rfl⟩:=H.kM 0 rfl (by omega);obtain ⟨m,v,o⟩:=x;have K:=hxo.o;simp only at K;have e2:=ry o k;by_cases hb:o.testBit k=true
       ·refine ay underlying44 ?_
        iterate 3 refine ae (decide_eq_false C) ?_
        refine aq underlying44 aX i rfl (by omega) (o':=0+i*3) rfl ?_;refine ae (decide_eq_false C) ?_;refine aa (dh _ _) ?_;refine ae (decide_eq_false C) ?_;refine H.mU 0 rfl bR b7 i 2 (by omega) J (u:=.int .u8 (o:Int)) rfl ?_
        iterate 2 refine ae (decide_eq_false C) ?_
        refine fj (by omega) ?_;refine ae (decide_eq_false C) ?_;refine eg (b:=1) (Nat.lt_of_le_of_lt (Nat.div_le_self _ _) K) (by omega) ?_
        iterate 1 refine ae (decide_eq_false C) ?_
        refine ae (decide_eq_false (by assumption)) ?_;refine ae (by simp only[*,Bool.not_false,Bool.not_true]) ?_;refine aj (c93 a i k (by omega) (by omega) (fun x h=>(g x h).o) (by omega) _ d _ (bB (H.get 0 rfl))) ?_;rintro _ w10 ⟨D,e,rfl,hn'⟩;replace H:=H.bq hn';have Z:=Ks (l:=a) (i:=i) (out:=k) (by omega);have M:=MH (n:=S.n) (k:=S.on.length) (l:=a) g (i:=i) (out:=k) (by omega);have z:∀ x ∈ a,x.2.2<256:=fun x h=>(g x h).o;have a0:k<8:=by omega
        have hfl:∀ j,j<i→Dp j (bt a i k) a:=fun j hj=>HE z a0 (by omega) hj;have hfs:(bt a i k).length=a.length→Dp i (bt a i k) a:=fun h=>Fu z a0 (by omega) h;have hnm:(bt a i k).length=a.length→(bt a i k)[i]?=some (m,v,kW o k):=fun h=>by
         unfold bt at h ⊢;rw[J] at h ⊢;simp only at h ⊢;split at h
         ·simp at h;omega
         ·rename_i h0;rw[if_neg h0,List.getElem?_set,if_pos rfl,if_pos (by omega)]
        generalize hT:bt a i k=T at H Z M hfl hfs hnm;have F:∀ x ∈ T,x.2.2<256:=fun x h=>(M x h).o;have G:=fun u h1 h2=>O9 V T M (by omega) Bo co Bm cm D e u h1 h2;refine H.ai 2 rfl dz bH ?_;refine aj (G _ (hA.same H.keeps) (bB (H.get 0 rfl))) ?_;rintro _ w12 ⟨rfl,Q⟩;replace H:=H.same Q;clear Q
        cases hcT:bD S T with
        | true=>
         refine ag rfl ?_;refine ⟨(T,D,e),⟨rfl,trivial⟩,⟨M,hcT,fun j y out hj t q=>?_,?_⟩,H.b9 [0,2] (by decide) rfl⟩
         ·rw[← hT,Fv (by omega) hj] at t;exact yX V (hfl j hj) z F p (by have:=(g y (List.mem_of_getElem? t)).few;refine Nat.lt_of_not_le fun hle=>?_;rw[ew (g y (List.mem_of_getElem? t)).o hle] at q;cases q) (by omega) (by rcases Z with h | h <;> omega) (f j y out hj t q)
         ·rcases Z with h | h
          ·refine .inl ⟨by omega,X,fun y out U t q=>?_⟩;rw[hnm h] at t;injection t with t;subst t;simp only at q;rw[mE K a0,Bool.and_eq_true] at q;have hne:out≠k:=by have:=q.2;simp at this;exact this
           exact yX V (hfs h) z F p (by omega) (by omega) (by omega) (Y _ out (by omega) J q.1)
          ·exact .inr (by omega)
        | false=>
         refine ae rfl ?_;refine ⟨(a,some ⟨gB,0,none⟩,d),⟨rfl,trivial⟩,⟨g,p,f,.inl ⟨I,X,fun y out U t q=>?_⟩⟩,H.forget⟩;rcases Nat.lt_or_ge out k with h | h
         ·exact Y y out h t q
         ·obtain rfl:out=k:=by omega
          rw[hT];exact hcT
       ·refine ay underlying44 ?_
        iterate 3 refine ae (decide_eq_false C) ?_
        refine aq underlying44 aX i rfl (by omega) (o':=0+i*3) rfl ?_;refine ae (decide_eq_false C) ?_;refine aa (dh _ _) ?_;refine ae (decide_eq_false C) ?_;refine H.mU 0 rfl bR b7 i 2 (by omega) J (u:=.int .u8 (o:Int)) rfl ?_
        iterate 2 refine ae (decide_eq_false C) ?_
        refine fj (by omega) ?_;refine ae (decide_eq_false C) ?_;refine eg (b:=1) (Nat.lt_of_le_of_lt (Nat.div_le_self _ _) K) (by omega) ?_
        iterate 1 refine ae (decide_eq_false C) ?_
        refine ae (decide_eq_false (by assumption)) ?_;refine ag (by simp only[*,Bool.not_false,Bool.not_true]) ?_;refine ⟨(a,some ⟨gB,0,none⟩,d),⟨rfl,trivial⟩,⟨g,p,f,.inl ⟨I,X,fun y out U t q=>?_⟩⟩,H⟩;rcases Nat.lt_or_ge out k with h | h
        ·exact Y y out h t q
        ·obtain rfl:out=k:=by omega
         rw[J] at t;injection t with t;subst t;exact absurd q hb
      ·have C:(a.length:Int)<(R.length:Int):=by omega
       refine ay underlying44 ?_
       iterate 10 refine ag (decide_eq_true (by assumption)) ?_
       refine ag rfl ?_;exact ⟨(a,B,d),⟨rfl,trivial⟩,⟨g,p,f,.inr I⟩,H⟩
     ·clear H g p f s;rintro ⟨a,B,d⟩ u w9 ⟨⟨g,p,f,s⟩,H⟩;exact ⟨(k+1,a,B,d),by show S.on.length - (k+1)<S.on.length - k;omega,⟨up (by omega),rfl,trivial⟩,⟨by show k+1≤S.on.length;omega,g,p,f,s⟩,H⟩
    ·have:k=S.on.length:=by omega
     subst this;exact ⟨(a,B,d),⟨rfl,trivial⟩,⟨by rcases s with h | h;exact .inl h.1;exact .inr h,g,p,f,s⟩,H⟩
   clear H;rintro ⟨a,B',d'⟩ u w8 ⟨⟨hlen,g,p,f,s⟩,H⟩;refine ay underlying44 ?_;refine ck (fun h9=>?_) (fun h9=>?_)
   ·rcases s with ⟨h1,h2,h3⟩ | h1
    ·refine ⟨(i+1,a,B',d'),by show a.length - (i+1)<R.length - i;omega,⟨up (by omega),rfl,trivial⟩,⟨by show i+1≤a.length;omega,by show a.length≤l.length;omega,g,p,fun j x out hj J K=>?_⟩,H⟩;rcases Nat.lt_or_ge j i with h | h
     ·exact f j x out h J K
     ·obtain rfl:j=i:=by omega
      refine h3 x out (Nat.lt_of_not_le fun hle=>?_) J K;rw[cK (g x (List.mem_of_getElem? J)).few hle] at K
      cases K
    ·omega
   ·exact ⟨(i,a,B',d'),by show a.length - i<R.length - i;omega,⟨rfl,rfl,trivial⟩,⟨by show i≤a.length;omega,by show a.length≤l.length;omega,g,p,f⟩,H⟩
  ·have:i=R.length:=by omega
   subst this;exact ⟨(R,B,d),⟨rfl,trivial⟩,⟨hRl,hok,O,E⟩,H.only⟩
 clear H;rintro ⟨R,B,d⟩ u w6 ⟨hP,H⟩;exact ⟨B,d,R,rfl,hP,H.out⟩
end Go.Proofs.YtpjihhgjbbihkaaGreatDoor
namespace Go.Dk
set_option maxRecDepth 100000
open Go.MapKept (Stamped)
section
variable {α β:Type} {ka:α→Value} {vb:β→Value} {z:Value} {P:Program} {t kt et:TypeId} {w0 w:World} {F:Nat→Prop} {L M:List cS} {k kk:Value→World→Prop} {l:List (α × β)} {r:Nat}
def B6 (w:World)(r st:Nat)(v:Value):Prop:=∃ (es:Array MapEntry) (clock j:Nat) (e:MapEntry),w.heap[r]?=some (.map es clock)∧es[j]?=some e∧e.born=st∧e.key=v
theorem Dq [DecidableEq α]{a:α}{b:β}(e:(eX l).Nodup)(h:bU l a=some b):ek l a b=l:=by
 obtain ⟨j,d⟩:=mV h;rw[yf e d];exact List.ext_getElem? fun i=>by
  rw[List.getElem?_set];by_cases c:j=i
  ·subst c;rw[if_pos rfl,if_pos (List.getElem?_eq_some_iff.1 d).1,d]
  ·rw[if_neg c]
theorem Hp.mapEntry {d0:β}[DecidableEq α](H:Hp w0 F w L M)(n:Nat)(p:L[n]?=some (aP ka vb r l))(W:lh P t kt et ka vb (vb d0))(a:α)(h:∀ b st w',Hp w0 F w' (L.set n (aP ka vb r (ek l a b))) M→B6 w' r st (ka a)→k (.tuple #[vb b,.int .i64 (st:Int)]) w'):ow P t (.map (some r)) (ka a) w k:=by
 obtain ⟨es,clock,d,hs,o⟩:=H.get n p;unfold ow;rcases mj W hs o a w with ⟨q,s,u⟩ | ⟨j,e,b0,q,he,f,z,A,s⟩
 ·have x:=MapKept.stamped_push (val:=vb d0) hs u;have c:=MapKept.heap_set (o':=.map (es.push { key:=ka a,val:=vb d0,born:=clock }) (clock+1)) d;refine ⟨_,_,?_,h d0 clock _ (ml H n p d x ?_) ⟨_,_,es.size,{ key:=ka a,val:=vb d0,born:=clock },c.1,by simp,rfl,rfl⟩⟩
  ·simp[Instr.mapEntry,run_underlying W.und,MapKept.run_getObj_map d,W.key.check w _ ⟨a,rfl⟩,q,mi W.zero,MapKept.run_setObj_map _ d,Result.andThen,goInt]
  ·simp[ek,s,o]
 ·have y:=W.key.stays w (v:=ka a) ⟨a,rfl⟩;have g:es.modify j (fun e=>{ e with key:=ka a })=es:=by
   apply Array.ext';apply List.ext_getElem?;intro i;simp only[Array.getElem?_toList,Array.getElem?_modify];by_cases m:j=i
   ·subst m;rw[if_pos rfl,he,← f];rfl
   ·rw[if_neg m]
  have c:=MapKept.heap_set (o':=.map es clock) d;refine ⟨_,_,?_,h b0 e.born _ (ml H n p d hs ?_) ⟨_,_,j,e,c.1,he,rfl,f⟩⟩
  ·simp[Instr.mapEntry,run_underlying W.und,MapKept.run_getObj_map d,W.key.check w _ ⟨a,rfl⟩,q,he,f,y,g,A,MapKept.run_setObj_map _ d,Result.andThen,goInt]
  ·rw[Dq (js W.inj hs o) s];exact o
theorem Hp.entryStore [DecidableEq α](H:Hp w0 F w L M)(n:Nat)(G:L[n]?=some (aP ka vb r l))(W:lh P t kt et ka vb z)(a:α)(b:β){st:Nat}{i:Int}(hi:i=(st:Int))(A:B6 w r st (ka a))(h:∀ w',Hp w0 F w' (L.set n (aP ka vb r (ek l a b))) M→k undef w'):ll P t (.map (some r)) (.int .i64 i) (vb b) w k:=by
 subst hi;obtain ⟨es,clock,v,hs,B⟩:=H.get n G;obtain ⟨I,y,j,e,d,he,f,c⟩:=A;rw[v] at d;injection d with d;injection d with J K;subst J K;subst f;unfold ll;have o:es.toList[j]?=some e:=by simpa using he
 have q:es.findIdx? (fun x=>((x.born:Nat):Int)==((e.born:Nat):Int))=some j:=by
  rw[WideElems.findIdx_arr];exact WideElems.findIdx_born hs.2.1 o
 obtain ⟨p,N,C⟩:∃ p,l[j]?=some p∧(e.key,e.val)=(ka p.1,vb p.2):=by
  have g:=congrArg (·[j]?) B;simp only[List.getElem?_map,o,Option.map_some] at g
  cases hj:l[j]? with
  | none=>rw[hj] at g;cases g
  | some p=>rw[hj] at g;injection g with g;exact ⟨p,rfl,g⟩
 obtain ⟨D,O⟩:=p;obtain rfl:D=a:=W.inj _ _ (by rw[← c];exact (congrArg Prod.fst C).symm);have s:es.modify j (fun e=>{ e with val:=vb b })=es.modify j (fun e=>{ e with key:=ka D,val:=vb b }):=by
  apply Array.ext';apply List.ext_getElem?;intro i;simp only[Array.getElem?_toList,Array.getElem?_modify];by_cases m:j=i
  ·subst m;rw[he,← c];simp
  ·rw[if_neg m,if_neg m]
 have E:=MapKept.stamped_modify hs j (fun e=>{ e with key:=ka D,val:=vb b }) (fun _ _=>rfl) (fun Q _ u=>by rw[he] at u;cases u;exact c.symm);refine ⟨_,?_,h _ (ml H n G v E (rV (js W.inj hs B) B N))⟩;simp[Instr.entryStore,MapKept.run_getObj_map v,asInt,asIntOf,q,s,MapKept.run_setObj_map _ v,Result.andThen]
end
end Go.Dk
namespace Go.Proofs.YtpjihhgjbbihkaaGreatDoor
open Go.Proofs.Tryz
open Go.Dk
set_option maxRecDepth 100000
attribute [local irreducible] IntKind.wrap
theorem Fw {g:Nat}{t:TypeId}{cs:Array Value}{w w':World}(h:(an g t cs).ok w)(a:aT w w'):(an g t cs).ok w':=
 (an g t cs).bS _ _ (fun x b=>by obtain rfl:x=g:=b;exact a.old x (jo h) id) h
theorem Kv:enters prog 206=true:=by kernel_rfl
theorem c206 (a b m v g:Nat)(w:World)(d:(an g 48 (cc m v)).ok w) :
  bz prog 206 [cv a b,(ah g)] w fun r w'=>(∃ b,r=.bool b)∧aT w w':=by
 refine ar (N:=23) func206 Kv rfl rfl rfl (by simp) ?_;have H:=Hp.aC w;refine ak (γ:=Nat) (fun g2=>[(2,(ah g2)),(1,(ah g))]) (fun g2 w'=>Hp w ab w' [an g2 48 (cc a b)] []) ?_ ?_
 ·refine H.box 48 _ (cs:=cc a b) rfl ?_;clear H;intro g2 e H;exact ⟨g2,⟨rfl,rfl,trivial⟩,H⟩
 clear H;rintro g2 u e H;have c:=Fw d H.keeps;by_cases f:(a:Int)<m
 ·refine aa (cn _) ?_;refine H.load 0 (i:=0) rfl b7 rfl ?_;refine aa (cn _) ?_;refine aB (u:=.int .u8 (m:Int)) b7 ((aQ c 0).trans rfl) ?_
  iterate 8 refine ag (decide_eq_true (by assumption)) ?_
  exact ⟨⟨_,rfl⟩,H.keeps⟩
 ·by_cases h:(a:Int)=m
  ·refine aa (cn _) ?_;refine H.load 0 (i:=0) rfl b7 rfl ?_;refine aa (cn _) ?_;refine aB (u:=.int .u8 (m:Int)) b7 ((aQ c 0).trans rfl) ?_;refine ae (decide_eq_false (by assumption)) ?_;refine aa (cn _) ?_;refine ae (decide_eq_false (by assumption)) ?_;refine H.load 0 (i:=0) rfl b7 rfl ?_;refine ae (decide_eq_false (by assumption)) ?_;refine aa (cn _) ?_;refine ae (decide_eq_false (by assumption)) ?_;refine aB (u:=.int .u8 (m:Int)) b7 ((aQ c 0).trans rfl) ?_
   iterate 2 refine ae (decide_eq_false (by assumption)) ?_
   refine ag (beq_iff_eq.2 (by assumption)) ?_;refine aa (fY _) ?_;refine ag (beq_iff_eq.2 (by assumption)) ?_;refine H.load 0 (i:=1) rfl b7 rfl ?_;refine ag (beq_iff_eq.2 (by assumption)) ?_;refine aa (fY _) ?_;refine ag (beq_iff_eq.2 (by assumption)) ?_;refine aB (u:=.int .u8 (v:Int)) b7 ((aQ c 1).trans rfl) ?_;refine ag (beq_iff_eq.2 (by assumption)) ?_;refine ae (decide_eq_false (by assumption)) ?_;refine ag (beq_iff_eq.2 (by assumption)) ?_;refine ae (decide_eq_false (by assumption)) ?_;exact ⟨⟨_,rfl⟩,H.keeps⟩
  ·refine aa (cn _) ?_;refine H.load 0 (i:=0) rfl b7 rfl ?_;refine aa (cn _) ?_;refine aB (u:=.int .u8 (m:Int)) b7 ((aQ c 0).trans rfl) ?_;refine ae (decide_eq_false (by assumption)) ?_;refine aa (cn _) ?_;refine ae (decide_eq_false (by assumption)) ?_;refine H.load 0 (i:=0) rfl b7 rfl ?_;refine ae (decide_eq_false (by assumption)) ?_;refine aa (cn _) ?_;refine ae (decide_eq_false (by assumption)) ?_;refine aB (u:=.int .u8 (m:Int)) b7 ((aQ c 0).trans rfl) ?_
   iterate 2 refine ae (decide_eq_false (by assumption)) ?_
   iterate 5 refine ae (beq_eq_false_iff_ne.2 (by assumption)) ?_
   refine ae (decide_eq_false (by assumption)) ?_;refine ae (beq_eq_false_iff_ne.2 (by assumption)) ?_;refine ae (decide_eq_false (by assumption)) ?_;exact ⟨⟨_,rfl⟩,H.keeps⟩
theorem _root_.Go.Dk.Hp.wY {w0 w:World}{F:Nat→Prop}{L M:List cS}{g l sz:Nat}{e:TypeId}{cs:Array Value}(H:Hp w0 F w (an g e cs::L) M)(hs:cs.size=l*sz)(b:l≤maxLen):Hp w0 F w (own e sz (.slice (some ⟨g,0,none⟩) l l) l cs.toList::L) M:=
 H.re (fun h=>⟨by simpa using hs,.inr ⟨g,l,cs,rfl,Nat.zero_le _,h,Nat.le_refl _,b,hs,by rw[← hs];exact List.take_length⟩⟩) (fun x a=>by
  have a:some g=some x:=a;injection a with a;exact a.symm)
theorem Kw:enters prog 187=true:=by kernel_rfl
theorem Oy (L:List (Nat × Nat))(m v:Nat)(s:L.length≤1000000)(A:Option Addr)(c:Nat)(w:World)(f:Sl w (.slice A L.length c) 2 L.length (flat b8 L)) :
  bz prog 187 [.slice A L.length c,cv m v] w fun r w'=>∃ B d i,i≤L.length∧r=.slice B (L.take i++(m,v)::L.drop i).length d∧eW w w' (own 48 2 (.slice B (L.take i++(m,v)::L.drop i).length d) (L.take i++(m,v)::L.drop i).length (flat b8 (L.take i++(m,v)::L.drop i))):=by
 refine ar (N:=35) func187 Kw rfl rfl rfl (by simp) ?_;have H:=Hp.aC w;refine ak (γ:=Nat) (fun g3=>[(3,(ah g3))]) (fun g3 w'=>Hp w ab w' [an g3 48 (cc m v)] []) ?_ ?_
 ·refine H.box 48 _ (cs:=cc m v) rfl ?_;clear H;intro g3 t H;exact ⟨g3,⟨rfl,trivial⟩,H⟩
 clear H;rintro g3 u t H;refine ak (γ:=Unit) (fun _=>[(5,.func (.func 206) #[] #[(ah g3)])]) (fun _ w'=>Hp w ab w' [an g3 48 (cc m v)] []) ?_ ?_
 ·refine nY ?_;exact ⟨(),⟨rfl,trivial⟩,H⟩
 clear H;rintro ⟨⟩ u Q H;refine ak (γ:=Nat) (fun i=>[(6,.int .i64 (i:Int))]) (fun i w'=>i≤L.length∧Hp w ab w' [an g3 48 (cc m v)] []) ?_ ?_
 ·refine ay underlying146 ?_;exact ⟨L.length,⟨rfl,trivial⟩,Nat.le_refl _,H⟩
 clear H;rintro i0 u S ⟨g,H⟩;refine ak (γ:=Nat) (fun i=>[(6,.int .i64 (i:Int))]) (fun i w'=>i≤L.length∧Hp w ab w' [an g3 48 (cc m v)] []) ?_ ?_
 ·refine ax (γ:=Nat) (fun i=>[(6,.int .i64 (i:Int))]) (fun i w'=>i≤L.length∧Hp w ab w' [an g3 48 (cc m v)] []) (fun i=>i) i0 ⟨rfl,trivial⟩ ⟨g,H⟩ ?_;clear H;rintro i u y ⟨hi,H⟩;by_cases T:(0:Int)<(i:Int)
  ·obtain ⟨U,z,rfl⟩:=f.A (by omega);obtain ⟨x,C,_⟩:=rr (l:=L) (j:=i - 1) (by omega);obtain ⟨a,b⟩:=x;have hw:IntKind.i64.wrap ((i:Int) - 1)=((i - 1:Nat):Int):=by rw[aH (by omega) (by omega)];omega
   iterate 5 refine ag (decide_eq_true (by assumption)) ?_
   refine aq underlying146 aJ (i - 1) hw (by omega) (o':=z+(i - 1)*2) (by omega) ?_;refine ag (decide_eq_true (by assumption)) ?_;refine Sl.dj H f fF bl aJ (i - 1) rfl C ?_;refine ag (decide_eq_true (by assumption)) ?_;refine fx (cap:=[(ah g3)]) (c206 a b m v g3 _ (H.get 0 rfl)) ?_;rintro _ D ⟨⟨E,rfl⟩,q⟩;replace H:=H.same q;clear q
   cases E with
   | true=>
    iterate 2 refine ag (decide_eq_true (by assumption)) ?_
    refine ae rfl ?_;exact ⟨i,⟨rfl,trivial⟩,hi,H⟩
   | false=>
    iterate 2 refine ag (decide_eq_true (by assumption)) ?_
    refine ag rfl ?_;exact ⟨i - 1,by show i - 1<i;omega,⟨by rw[← hw];rfl,trivial⟩,by show i - 1≤L.length;omega,H⟩
  ·iterate 9 refine ae (decide_eq_false (by assumption)) ?_
   refine ae rfl ?_;exact ⟨i,⟨rfl,trivial⟩,hi,H⟩
 clear H;rintro i u y ⟨hi,H⟩;obtain ⟨F,G,k,n⟩:=mm f (i:=i) hi;obtain ⟨I,c2,J,o⟩:=mn underlying146 aJ f (i:=i) hi;have p:i≤c:=Nat.le_trans hi (by obtain ⟨_,V,X,e,h,_⟩:=f;injection e with _ _ e;omega);have K:flat b8 (L.take i++(m,v)::L.drop i)=(flat b8 L).take (i*2)++(b8 (m,v)++(flat b8 L).drop (i*2)):=by
  rw[← oS fF,← oT fF];unfold flat;rw[List.flatMap_append,List.flatMap_cons]
 have M:(L.take i++(m,v)::L.drop i).length=i+(1+(L.length - i)):=by simp;omega
 refine H.fE [an g3 48 (cc m v)] (fun u H=>H) eN (by kernel_rfl) ?_;clear H;intro D H;refine quiet (.slice F i i) (fun w H=>by rw[← G];exact tq underlying146 aJ rfl rfl p af) ?_;refine quiet _ (fun w H=>H.ai 0 rfl bl aJ af) ?_;refine H.bk wT (cs:=cc m v) (by decide) (by decide) (by kernel_rfl) ?_;clear H;intro g20 Y H;refine ⟨.inl H.forget,?_⟩;refine quiet (.slice I (L.length - i) c2) (fun w H=>by rw[← J];exact sC underlying146 aJ rfl hi af) ?_;replace H:=H.wY (l:=1) (sz:=2) rfl (by unfold maxLen;omega);refine H.kR 0 wT rfl (o.same H.keeps) (fun u hu=>vE L u (List.mem_of_mem_drop hu)) (by omega) (by omega) ?_;clear H;intro Z d3 w7 H;refine ⟨.inl H.forget,?_⟩;refine H.q8 wT (n.same H.keeps) (bB (H.get 0 rfl)) k (by omega) (by omega) (by omega) ?_;clear H;intro O d4 w8 H;refine ⟨.inl H.forget.forget,?_⟩;refine ⟨some ⟨O,0,none⟩,d4,i,hi,?_⟩;rw[M,K];exact ⟨rfl,H.out⟩
end Go.Proofs.YtpjihhgjbbihkaaGreatDoor
namespace Go.Dk
theorem qx {m i:Nat}(hm:m<256)(hi:i<8)(j:Nat):(fq m i).testBit j=(m.testBit j&& !decide (i=j)):=by
 rcases Nat.lt_or_ge j 8 with a | a
 ·exact qs hi j a
 ·rw[ew hm a,ew (lT hm i) a];rfl
def vG (m:Nat):Nat→Nat
 | 0=>0
 | k+1=>vG m k+(m.testBit k).toNat
theorem toNat_le (b:Bool):b.toNat≤1:=by cases b <;> decide
theorem Az (m:Nat):∀ k,vG m k≤k
 | 0=>Nat.le_refl _
 | k+1=>by
  have a:=Az m k;have b:=toNat_le (m.testBit k);unfold vG;omega
theorem yY {m:Nat}:∀ {k},vG m k=k→∀ j,j<k→m.testBit j=true
 | 0,_,j,a=>absurd a (Nat.not_lt_zero _)
 | k+1,h,j,a=>by
  have c:=Az m k;have d:=toNat_le (m.testBit k);unfold vG at h;rcases Nat.lt_succ_iff_lt_or_eq.1 a with b | b
  ·exact yY (by omega) j b
  ·subst b
   cases hb:m.testBit j with
   | true=>rfl
   | false=>rw[hb] at h;simp at h;omega
theorem wZ {m:Nat}:∀ {k},(∀ j,j<k→m.testBit j=true)→vG m k=k
 | 0,_=>rfl
 | k+1,h=>by
  unfold vG;rw[wZ (k:=k) fun j a=>h j (by omega),h k (by omega)];rfl
theorem HF {m k:Nat}(h:vG m k<k):∃ j,j<k∧m.testBit j=false:=by
 refine Classical.byContradiction fun a=>?_;have:=wZ (m:=m) (k:=k) fun j b=>by
  cases hb:m.testBit j with
  | true=>rfl
  | false=>exact absurd ⟨j,b,hb⟩ a
 omega
theorem AA {m m' i:Nat}(h:∀ j,m'.testBit j=(m.testBit j||decide (j=i)))(hi:m.testBit i=false):∀ k,vG m' k=vG m k+(if i<k then 1 else 0)
 | 0=>rfl
 | k+1=>by
  unfold vG;rw[AA h hi k,h k];by_cases a:k=i
  ·subst a;rw[hi];simp
  ·rw[decide_eq_false a,Bool.or_false];by_cases b:i<k
   ·rw[if_pos b,if_pos (by omega)];omega
   ·rw[if_neg b,if_neg (by omega)];omega
structure AB (n s:Nat) (x:Nat × Nat):Prop where
 lt:x.1<2^n
 sub:x.2 &&&x.1=x.2
 cT:cu (bc x.1 x.2 n) s
def ua (x:Nat × Nat)(i:Nat):Nat × Nat:=(fq x.1 i,x.2 &&&fq x.1 i)
def GN (x:Nat × Nat)(i:Nat):Nat × Nat:=(x.1,x.2 ^^^ 2^i)
theorem Fx {m v i:Nat}(hs:v &&&m=v)(hi:m.testBit i=true):(v ^^^ 2^i) &&&m=v ^^^ 2^i:=by
 rw[Nat.and_xor_distrib_right,hs]
 congr 1
 apply Nat.eq_of_testBit_eq;intro j;rw[Nat.testBit_and,Nat.testBit_two_pow];by_cases h:i=j
 ·subst h;simp[hi]
 ·simp[h]
theorem AD {n m v i p:Nat}(d:n≤8)(hm:m<2^n)(hs:v &&&m=v)(hi:i<n)(f:m.testBit i=true) :
  (bc (fq m i) (v &&&fq m i) n).testBit p=true↔(bc m v n).testBit p=true∨(bc m (v ^^^ 2^i) n).testBit p=true:=by
 have g:2^n≤2^8:=Nat.pow_le_pow_right (by decide) d;have hw:=fun j=>qx (m:=m) (i:=i) (by omega) (by omega) j;rw[bP d,bP d,bP d,← and_or_left,jn ko,jn hs,jn (Fx hs f)];refine and_congr_right fun _=>?_;have e:∀ j,(v ^^^ 2^i).testBit j=(v.testBit j ^^ decide (i=j)):=fun j=>by rw[Nat.testBit_xor,Nat.testBit_two_pow]
 constructor
 ·intro h;by_cases c:p.testBit i=v.testBit i
  ·refine .inl fun j b=>?_;by_cases a:i=j
   ·subst a;exact c
   ·have:=h j (by rw[hw,b];simp[a]);rw[this,Nat.testBit_and,hw,b];simp[a]
  ·refine .inr fun j b=>?_;rw[e];by_cases a:i=j
   ·subst a;revert c
    cases p.testBit i <;> cases v.testBit i <;> simp
   ·have:=h j (by rw[hw,b];simp[a]);rw[this,Nat.testBit_and,hw,b];simp[a]
 ·intro h j b;rw[hw,Bool.and_eq_true] at b;have a:¬ i=j:=by have:=b.2;simpa using this
  rw[Nat.testBit_and,hw,b.1,decide_eq_false a];rcases h with h | h
  ·rw[h j b.1];simp
  ·rw[h j b.1,e,decide_eq_false a];simp
theorem AB.w_ {n s:Nat}{x:Nat × Nat}{i:Nat}(c:n≤8)(hm:x.1<2^n)(hs:x.2 &&&x.1=x.2)(hi:i<n)(b:x.1.testBit i=true):AB n s (ua x i)↔AB n s x∧AB n s (GN x i):=by
 constructor
 ·intro h;exact ⟨⟨hm,hs,fun p a=>h.cT p ((AD c hm hs hi b).2 (.inl a))⟩,⟨hm,Fx hs b,fun p a=>h.cT p ((AD c hm hs hi b).2 (.inr a))⟩⟩
 ·rintro ⟨d,e⟩;refine ⟨nf hm i,ko,fun p a=>?_⟩;rcases (AD c hm hs hi b).1 a with h | h
  ·exact d.cT p h
  ·exact e.cT p h
def Lv (n s t:Nat)(x:Nat × Nat):Prop:=AB n s x∧vG x.1 n+t=n
theorem MJ {n m i:Nat}(b:n≤8)(hm:m<2^n)(hi:i<n)(c:m.testBit i=true):vG m n=vG (fq m i) n+1:=by
 have d:2^n≤2^8:=Nat.pow_le_pow_right (by decide) b;have hw:=fun j=>qx (m:=m) (i:=i) (by omega) (by omega) j;rw[AA (m:=fq m i) (m':=m) (i:=i) (fun j=>?_) (by rw[hw];simp) n,if_pos hi];rw[hw];by_cases a:i=j
 ·subst a;simp[c]
 ·simp[a,Ne.symm a]
theorem Lv.next {n s t:Nat}(o:n≤8){y:Nat × Nat}:Lv n s (t+1) y↔∃ x i,Lv n s t x∧i<n∧x.1.testBit i=true∧Lv n s t (GN x i)∧y=ua x i:=by
 have w:2^n≤2^8:=Nat.pow_le_pow_right (by decide) o;constructor
 ·rintro ⟨b,A⟩;obtain ⟨i,hi,c⟩:=HF (m:=y.1) (k:=n) (by omega);have B:=b.lt;have p:2^i<2^n:=Nat.pow_lt_pow_right (by decide) hi;have q:y.1 |||2^i<2^n:=Nat.or_lt_two_pow b.lt p;have a:∀ j,(y.1 |||2^i).testBit j=(y.1.testBit j||decide (j=i)):=fun j=>by
   rw[Nat.testBit_or,Nat.testBit_two_pow];by_cases h:i=j
   ·simp[h]
   ·simp[h,Ne.symm h]
  have d:(y.1 |||2^i).testBit i=true:=by rw[a];simp
  have e:y.2 &&&(y.1 |||2^i)=y.2:=by
   apply Nat.eq_of_testBit_eq;intro j;rw[Nat.testBit_and,a];have:=congrArg (fun z=>z.testBit j) b.sub;simp only[Nat.testBit_and] at this;revert this
   cases y.2.testBit j <;> cases y.1.testBit j <;> simp
  have f:ua (y.1 |||2^i,y.2) i=y:=by
   have r:fq (y.1 |||2^i) i=y.1:=by
    apply Nat.eq_of_testBit_eq;intro j;rw[qx (by omega) (by omega),a];by_cases h:i=j
    ·subst h;simp[c]
    ·simp[h,Ne.symm h]
   unfold ua;simp only;rw[r,b.sub]
  have u:vG (y.1 |||2^i) n=vG y.1 n+1:=by rw[AA a c n,if_pos hi]
  have g:=(AB.w_ (s:=s) (x:=(y.1 |||2^i,y.2)) o q e hi d).1 (by rw[f];exact b);exact ⟨(y.1 |||2^i,y.2),i,⟨g.1,by show vG (y.1 |||2^i) n+t=n;omega⟩,hi,d,⟨g.2,by show vG (y.1 |||2^i) n+t=n;omega⟩,f.symm⟩
 ·rintro ⟨x,i,l,hi,c,v,rfl⟩;refine ⟨(AB.w_ o l.1.lt l.1.sub hi c).2 ⟨l.1,v.1⟩,?_⟩;have:=MJ o l.1.lt hi c;have:=l.2;show vG (fq x.1 i) n+(t+1)=n;omega
def n9 (n s:Nat)(x:Nat × Nat):Prop:=AB n s x∧∀ i,i<n→x.1.testBit i=true→¬ AB n s (ua x i)
def Used (n s t:Nat)(x:Nat × Nat):Prop:=∃ i,i<n∧x.1.testBit i=true∧Lv n s t (GN x i)
theorem Lv.I0 {n s t:Nat}(b:n≤8){x:Nat × Nat}(h:Lv n s t x):n9 n s x↔¬ Used n s t x:=by
 constructor
 ·rintro ⟨_,c⟩ ⟨i,hi,a,d⟩;exact c i hi a ((AB.w_ b h.1.lt h.1.sub hi a).2 ⟨h.1,d.1⟩)
 ·intro hu;refine ⟨h.1,fun i hi a e=>hu ⟨i,hi,a,((AB.w_ b h.1.lt h.1.sub hi a).1 e).2,h.2⟩⟩
theorem Lv.zero {n s:Nat}(e:n≤8)(hs:cu s (bu n)){x:Nat × Nat}:Lv n s 0 x↔x.1=2^n - 1∧s.testBit x.2=true:=by
 constructor
 ·rintro ⟨a,b⟩;have i:=yY (m:=x.1) (k:=n) (by omega);refine ⟨?_,a.cT x.2 ((bP e).2 ⟨sub_lt a.lt a.sub,a.sub⟩)⟩;apply Nat.eq_of_testBit_eq;intro j;rw[Nat.testBit_two_pow_sub_one];by_cases c:j<n
  ·rw[i j c];simp[c]
  ·rw[Nat.testBit_lt_two_pow (Nat.lt_of_lt_of_le a.lt (Nat.pow_le_pow_right (by decide) (by omega)))];simp[c]
 ·rintro ⟨d,g⟩;have f:x.2<2^n:=by have:=hs _ g;rw[gT e] at this;simpa using this
  have h:0<2^n:=Nat.pow_pos (by decide);refine ⟨⟨by rw[d];omega,by rw[d,Nat.and_two_pow_sub_one_eq_mod,Nat.mod_eq_of_lt f],fun p b=>?_⟩,?_⟩
  ·rw[bP e,d,Nat.and_two_pow_sub_one_eq_mod] at b;rw[Nat.mod_eq_of_lt b.1] at b;rw[b.2];exact g
  ·rw[d,wZ fun j c=>by rw[Nat.testBit_two_pow_sub_one];simp[c],Nat.add_zero]
theorem Lv.le {n s t:Nat}{x:Nat × Nat}(h:Lv n s t x):t≤n:=by have:=h.2;omega
def gw (l:List ((Nat × Nat) × Bool))(Q:Nat × Nat→Prop):Prop:=∀ x,(Q x∧bU l x=some true)∨(¬ Q x∧bU l x=none)
theorem gw.nil:gw [] fun _=>False:=fun _=>.inr ⟨id,rfl⟩
theorem gw.congr {l:List ((Nat × Nat) × Bool)}{Q Q':Nat × Nat→Prop}(h:gw l Q)(e:∀ x,Q x↔Q' x):gw l Q':=fun x=>by rw[← e x];exact h x
theorem gw.yes {l:List ((Nat × Nat) × Bool)}{Q:Nat × Nat→Prop}(h:gw l Q){x:Nat × Nat}(a:Q x):bU l x=some true:=by
 rcases h x with ⟨_,h⟩ | ⟨h,_⟩
 ·exact h
 ·exact absurd a h
theorem gw.no {l:List ((Nat × Nat) × Bool)}{Q:Nat × Nat→Prop}(h:gw l Q){x:Nat × Nat}(a:¬ Q x):bU l x=none:=by
 rcases h x with ⟨h,_⟩ | ⟨_,h⟩
 ·exact absurd h a
 ·exact h
theorem gw.add {l:List ((Nat × Nat) × Bool)}{Q:Nat × Nat→Prop}(h:gw l Q)(a:Nat × Nat):gw (ek l a true) fun x=>Q x∨x=a:=fun x=>by
 rw[fy];by_cases b:x=a
 ·rw[if_pos b];exact .inl ⟨.inr b,rfl⟩
 ·rw[if_neg b];rcases h x with ⟨c,d⟩ | ⟨c,d⟩
  ·exact .inl ⟨.inl c,d⟩
  ·exact .inr ⟨fun e=>e.elim c b,d⟩
theorem gw.JH {l:List ((Nat × Nat) × Bool)}{Q:Nat × Nat→Prop}(h:gw l Q)(a:Nat × Nat)(b:Bool):gw (ek (ek l a b) a true) fun x=>Q x∨x=a:=fun x=>by
 rw[fy,fy];by_cases c:x=a
 ·rw[if_pos c];exact .inl ⟨.inr c,rfl⟩
 ·rw[if_neg c,if_neg c];rcases h x with ⟨d,e⟩ | ⟨d,e⟩
  ·exact .inl ⟨.inl d,e⟩
  ·exact .inr ⟨fun f=>f.elim d c,e⟩
theorem gw.mem {l:List ((Nat × Nat) × Bool)}{Q:Nat × Nat→Prop}(h:gw l Q)(f:(eX l).Nodup){a:Nat × Nat}{b:Bool}(hm:(a,b) ∈ l):b=true∧Q a:=by
 have d:=jS f hm;rcases h a with ⟨e,c⟩ | ⟨e,c⟩
 ·rw[d] at c;injection c with c;exact ⟨c,e⟩
 ·rw[d] at c;cases c
theorem gw.all {l:List ((Nat × Nat) × Bool)}{Q:Nat × Nat→Prop}(h:gw l Q){a:Nat × Nat}(b:Q a):(a,true) ∈ l:=by
 obtain ⟨j,c⟩:=mV (h.yes b);exact List.mem_of_getElem? c
theorem gw.Fy {l:List ((Nat × Nat) × Bool)}{Q:Nat × Nat→Prop}(h:gw l Q)(d:(eX l).Nodup):l=[]↔∀ x,¬ Q x:=by
 constructor
 ·rintro rfl x e;have:=h.all e;simp at this
 ·intro c
  cases l with
  | nil=>rfl
  | cons p l=>exact absurd (h.mem d (a:=p.1) (b:=p.2) (.head _)).2 (c _)
theorem yZ {n:Nat}{L:List (Nat × Nat)}(c:L.Nodup)(h:∀ x ∈ L,x.1<2^n∧x.2<2^n):L.length≤2^n*2^n:=by
 have:=kU (a:=L) (b:=(List.range (2^n)).flatMap fun a=>(List.range (2^n)).map fun b=>(a,b)) c (fun x d=>by
  have:=h x d;exact List.mem_flatMap.2 ⟨x.1,List.mem_range.2 this.1,List.mem_map.2 ⟨x.2,List.mem_range.2 this.2,rfl⟩⟩)
 refine Nat.le_trans this (Nat.le_of_eq ?_);rw[List.length_flatMap];simp[List.map_const']
end Go.Dk
namespace Go.Proofs.YtpjihhgjbbihkaaGreatDoor
open Go.Proofs.Tryz
open Go.Dk
set_option maxRecDepth 100000
attribute [local irreducible] IntKind.wrap
theorem xa {s p:Nat}(hs:s<2^256):p ∈ cT s↔s.testBit p=true:=by
 constructor
 ·intro h;exact (cq.1 h).2
 ·intro h;refine cq.2 ⟨Nat.lt_of_not_le fun hle=>?_,h⟩;rw[kH hs hle] at h
  cases h
theorem y2 {m v:Nat}{w:World}{kk:Value→World→Prop}(h:kk (cv m v) w):b6 prog 48 [(0,.int .u8 (m:Int)),(1,.int .u8 (v:Int))] w kk:=
 bx (fun w=>by kernel_rfl) h
def vH (n s t:Nat)(D:List ((Nat × Nat) × Bool))(y:Nat × Nat):Prop:=∃ x i,(x,true) ∈ D∧i<n∧x.1.testBit i=true∧Lv n s t (GN x i)∧y=ua x i
def vI (n s t:Nat)(D:List ((Nat × Nat) × Bool))(y:Nat × Nat):Prop:=(y,true) ∈ D∧Used n s t y
theorem AF {n s t:Nat}{D:List ((Nat × Nat) × Bool)}{x y:Nat × Nat}:vH n s t (D++[(x,true)]) y↔vH n s t D y∨∃ i,i<n∧x.1.testBit i=true∧Lv n s t (GN x i)∧y=ua x i:=by
 constructor
 ·rintro ⟨z,i,a,b⟩;rcases List.mem_append.1 a with a | a
  ·exact .inl ⟨z,i,a,b⟩
  ·have:=List.mem_singleton.1 a;injection this with this;subst this;exact .inr ⟨i,b⟩
 ·rintro (⟨z,i,a,b⟩ | ⟨i,b⟩)
  ·exact ⟨z,i,List.mem_append_left _ a,b⟩
  ·exact ⟨x,i,List.mem_append_right _ (List.mem_singleton.2 rfl),b⟩
theorem AG {n s t:Nat}{D:List ((Nat × Nat) × Bool)}{x y:Nat × Nat}:vI n s t (D++[(x,true)]) y↔vI n s t D y∨(y=x∧Used n s t x):=by
 constructor
 ·rintro ⟨a,b⟩;rcases List.mem_append.1 a with a | a
  ·exact .inl ⟨a,b⟩
  ·have:=List.mem_singleton.1 a;injection this with this;subst this;exact .inr ⟨rfl,b⟩
 ·rintro (⟨a,b⟩ | ⟨rfl,b⟩)
  ·exact ⟨List.mem_append_left _ a,b⟩
  ·exact ⟨List.mem_append_right _ (List.mem_singleton.2 rfl),b⟩
theorem Kx:enters prog 151=true:=by kernel_rfl
set_option maxHeartbeats 4000000 in
theorem Oz (n s:Nat)(hn:n≤7)(hs:cu s (bu n))(a2:s<2^256)(w:World) :
  bz prog 151 [sv s,.int .i64 (n:Int)] w fun r w'=>∃ A c L,r=.tuple #[.slice A L.length c,.int .i64 0]∧(∀ x,x ∈ L↔n9 n s x)∧L.Nodup∧eW w w' (own 48 2 (.slice A L.length c) L.length (flat b8 L)):=by
 refine ar (N:=105) func151 Kx rfl rfl rfl (by simp) ?_;have H:=Hp.aC w;have h2n:2^n≤2^7:=Nat.pow_le_pow_right (by decide) hn;have h1n:1≤2^n:=Nat.pow_pos (by decide);refine ak (γ:=Nat) (fun g2=>[(2,(ah g2))]) (fun g2 w'=>Hp w ab w' [an g2 86 (sc s)] []) ?_ ?_
 ·refine H.box 86 (sv s) (cs:=sc s) rfl ?_;clear H;intro g2 w1 H;exact ⟨g2,⟨rfl,trivial⟩,H⟩
 clear H;rintro g2 u w1 H;refine ak (γ:=Nat) (fun g6=>[(6,(ah g6)),(7,.int .i64 0)]) (fun g6 w'=>Hp w ab w' [an g6 86 (sc (bu n)),an g2 86 (sc s)] []) ?_ ?_
 ·refine aj (oI n (by omega) _) ?_;rintro _ w2 ⟨rfl,E⟩;replace H:=H.same E;refine H.alloc 86 (cs:=sc 0) br aZ ?_;clear H;intro g6 w3 H;refine H.aV 0 rfl ?_;clear H;intro w4 H;exact ⟨g6,⟨rfl,rfl,trivial⟩,H⟩
 clear H;rintro g6 u w2 H;refine aw (fun w'=>Hp w ab w' [an g6 86 (sc (bu n)),an g2 86 (sc s)] []) ?_ ?_
 ·have hs1:=(il a2).2 hs;have hc1:=fun u=>c85 s (bu n) a2 u;rw[hs1] at hc1;refine ae rfl ?_;refine H.ai 1 rfl aD av ?_;refine ae rfl ?_;refine H.ai 0 rfl aD av ?_;refine ae rfl ?_;refine aj (hc1 _) ?_;rintro _ w11 ⟨rfl,E⟩;replace H:=H.same E;clear E
  iterate 3 refine ae rfl ?_
  exact ⟨(),trivial,H⟩
 clear H;rintro ⟨⟩ u w3 H;refine ak (γ:=Nat) (fun r=>[(8,.map (some r))]) (fun r w'=>Hp w ab w' [aP jH Value.bool r [],an g2 86 (sc s)] []) ?_ ?_
 ·refine H.makeMap jH Value.bool ?_;clear H;intro r w4 H;exact ⟨r,⟨rfl,trivial⟩,H.b9 [0,2] (by decide) rfl⟩
 clear H;rintro r u w4 H;refine ak (γ:=List ((Nat × Nat) × Bool)) (fun _=>[]) (fun l w'=>gw l (Lv n s 0)∧Hp w ab w' [aP jH Value.bool r l] []) ?_ ?_
 ·have hpl:(cT s).length≤256:=eS s 256;refine H.ai 1 rfl aD av ?_;refine aj (Ez s _) ?_;rintro _ w5 ⟨A,c,rfl,a3⟩;replace H:=H.bq a3;refine ay underlying75 ?_;refine ax (γ:=Nat × List ((Nat × Nat) × Bool)) (fun (i,_)=>[(35,.int .i64 (i:Int))]) (fun (i,l) w'=>(i≤(cT s).length∧gw l (fun x=>x.1=2^n - 1∧x.2 ∈ (cT s).take i))∧Hp w ab w' [own 3 1 (.slice A (cT s).length c) (cT s).length (ints (cT s)),aP jH Value.bool r l] []) (fun (i,_)=>(cT s).length - i) (0,[]) ⟨rfl,trivial⟩ ⟨⟨Nat.zero_le _,gw.nil.congr fun x=>by simp⟩,H.b9 [0,1] (by decide) rfl⟩ ?_;clear H;rintro ⟨i,l⟩ u w6 ⟨⟨hi,F⟩,H⟩;refine au (fun h7=>?_) (fun h7=>?_)
  ·refine ak (γ:=List ((Nat × Nat) × Bool)) (fun _=>[]) (fun l w'=>gw l (fun x=>x.1=2^n - 1∧x.2 ∈ (cT s).take (i+1))∧Hp w ab w' [own 3 1 (.slice A (cT s).length c) (cT s).length (ints (cT s)),aP jH Value.bool r l] []) ?_ ?_
   ·obtain ⟨gA,rfl⟩:=H.kM 0 rfl (by omega);have Y:i<(cT s).length:=by omega
    obtain ⟨p,hp⟩:∃ p,(cT s)[i]=p:=⟨_,rfl⟩;have hp256:p<256:=EC (hp ▸ List.getElem_mem Y);have htk:(cT s).take (i+1)=(cT s).take i++[p]:=iZ (by rw[List.getElem?_eq_getElem Y,hp]);refine ak (γ:=Unit) (fun _=>[(10,.int .i64 (p:Int))]) (fun _ w'=>Hp w ab w' [own 3 1 (.slice (some ⟨gA,0,none⟩) (cT s).length c) (cT s).length (ints (cT s)),aP jH Value.bool r l] []) ?_ ?_
    ·refine aq underlying75 a_ i rfl Y (o':=i) (by omega) ?_;refine H.eJ 0 rfl aE (eZ Y) ?_;rw[hp];exact ⟨(),⟨rfl,trivial⟩,H⟩
    clear H;rintro ⟨⟩ u w7 H;have hw1:IntKind.u8.wrap (((2^n:Nat):Int) - 1)=((2^n - 1:Nat):Int):=by rw[IntKind.wrap_u8];omega
    have hw2:IntKind.u8.wrap (p:Int)=(p:Int):=by rw[IntKind.wrap_u8];omega
    refine cj hn ?_;refine kg (by kernel_rfl) underlying5 (by omega) (by omega) ?_;rw[hw1];refine y2 ?_;refine H.iR 1 rfl sy (2^n - 1,p) true ?_;clear H;intro w8 H;refine ⟨ek l (2^n - 1,p) true,trivial,(F.add (2^n - 1,p)).congr fun x=>?_,H⟩;rw[htk,List.mem_append,List.mem_singleton];constructor
    ·rintro (h | rfl)
     ·exact ⟨h.1,.inl h.2⟩
     ·exact ⟨rfl,.inr rfl⟩
    ·rintro ⟨j,h | h⟩
     ·exact .inl ⟨j,h⟩
     ·exact .inr (Prod.ext j h)
   ·clear H F;rintro l u w7 ⟨F,H⟩;exact ⟨(i+1,l),by show (cT s).length - (i+1)<(cT s).length - i;omega,⟨up (by omega),trivial⟩,⟨by show i+1≤(cT s).length;omega,F⟩,H⟩
  ·have:i=(cT s).length:=by omega
   subst this;rw[List.take_length] at F;exact ⟨l,trivial,F.congr fun x=>by rw[Lv.zero (by omega) hs,xa a2],H.forget⟩
 clear H;rintro l0 u w5 ⟨hl0,H⟩;refine ak (γ:=Unit) (fun _=>[(11,.slice none 0 0)]) (fun _ w'=>Hp w ab w' [aP jH Value.bool r l0,own 48 2 (.slice none 0 0) 0 []] []) ⟨(),⟨rfl,trivial⟩,(H.bC 48 2).b9 [1,0] (by decide) rfl⟩ ?_;clear H;rintro ⟨⟩ u w6 H;refine ak (γ:=List (Nat × Nat) × Option Addr × Nat) (fun (L,B,d)=>[(11,.slice B L.length d)]) (fun (L,B,d) w'=>((∀ x,x ∈ L↔n9 n s x)∧L.Nodup)∧Hp w ab w' [own 48 2 (.slice B L.length d) L.length (flat b8 L)] []) ?_ ?_
 ·refine ax (γ:=Nat × Nat × List ((Nat × Nat) × Bool) × List (Nat × Nat) × Option Addr × Nat) (fun (_,r,_,L,B,d)=>[(8,.map (some r)),(11,.slice B L.length d)]) (fun (t,r,l,L,B,d) w'=>(gw l (Lv n s t)∧(∀ x,x ∈ L↔∃ O,O<t∧Lv n s O x∧n9 n s x)∧L.Nodup)∧Hp w ab w' [aP jH Value.bool r l,own 48 2 (.slice B L.length d) L.length (flat b8 L)] []) (fun (t,_)=>n+1 - t) (0,r,l0,[],none,0) ⟨rfl,rfl,trivial⟩ ⟨⟨hl0,fun x=>by simp,List.nodup_nil⟩,H⟩ ?_;clear H hl0;rintro ⟨t,r,l,L,B,d⟩ u w7 ⟨⟨F,hL,Z⟩,H⟩;have I:=pt (H.get 0 rfl) sJ;refine H.Ji 0 rfl sy ?_;refine au (fun h7=>?_) (fun h7=>?_)
  ·have htn:t≤n:=by
    cases a0:l with
    | nil=>rw[a0] at h7;simp at h7
    | cons p l'=>exact ((F.mem I (a:=p.1) (b:=p.2) (by rw[a0];exact .head _)).2).le
   refine ak (γ:=Nat × Nat) (fun (J,Q)=>[(12,.map (some J)),(13,.map (some Q))]) (fun (J,Q) w'=>Hp w ab w' [aP jH Value.bool r l,aP jH Value.bool J [],aP jH Value.bool Q [],own 48 2 (.slice B L.length d) L.length (flat b8 L)] []) ?_ ?_
   ·refine H.makeMap jH Value.bool ?_;clear H;intro J w8 H;refine H.makeMap jH Value.bool ?_;clear H;intro Q w9 H;exact ⟨(J,Q),⟨rfl,rfl,trivial⟩,H.b9 [2,1,0,3] (by decide) rfl⟩
   clear H;rintro ⟨J,Q⟩ u w8 H;refine ak (γ:=List ((Nat × Nat) × Bool) × List ((Nat × Nat) × Bool)) (fun _=>[]) (fun (o,z) w'=>(gw o (Lv n s (t+1))∧gw z (fun x=>Lv n s t x∧Used n s t x))∧Hp w ab w' [aP jH Value.bool r l,aP jH Value.bool J o,aP jH Value.bool Q z,own 48 2 (.slice B L.length d) L.length (flat b8 L)] []) ?_ ?_
   ·refine H.rangeMap (k0:=48) (e0:=4) underlying189 ?_;clear H;intro it w9 H;refine ax (γ:=List ((Nat × Nat) × Bool) × List ((Nat × Nat) × Bool) × List ((Nat × Nat) × Bool)) (fun _=>[]) (fun (D,o,z) w'=>(D.Nodup∧(∀ p ∈ D,p ∈ l)∧gw o (vH n s t D)∧gw z (vI n s t D))∧Hp w ab w' [pw jH Value.bool r it l D,aP jH Value.bool J o,aP jH Value.bool Q z,own 48 2 (.slice B L.length d) L.length (flat b8 L)] []) (fun (D,_)=>l.length - D.length) ([],[],[]) trivial ⟨⟨List.nodup_nil,by simp,gw.nil.congr fun x=>by simp[vH],gw.nil.congr fun x=>by simp[vI]⟩,H⟩ ?_;clear H;rintro ⟨D,o,z⟩ u w10 ⟨⟨a4,S,C,q⟩,H⟩;refine H.wv 0 rfl sJ (fun a b h=>by injection h) (fun V=>?_) (fun x b w11 hm a1 H2=>?_)
    ·refine ae rfl ?_;refine ⟨(o,z),trivial,⟨C.congr fun y=>?_,q.congr fun y=>?_⟩,H.CH⟩
     ·rw[Lv.next (by omega)];constructor
      ·rintro ⟨x,i,j,g⟩;exact ⟨x,i,(F.mem I (S _ j)).2,g⟩
      ·rintro ⟨x,i,j,g⟩;exact ⟨x,i,V _ (F.all j),g⟩
     ·constructor
      ·rintro ⟨j,g⟩;exact ⟨(F.mem I (S _ j)).2,g⟩
      ·rintro ⟨j,g⟩;exact ⟨V _ (F.all j),g⟩
    ·clear H;have H:=H2;clear H2;obtain ⟨rfl,K⟩:=F.mem I hm;refine ag rfl ?_;have f:(D++[(x,true)]).Nodup∧(∀ p ∈ D++[(x,true)],p ∈ l):=by
      refine ⟨?_,fun k E=>?_⟩
      ·rw[List.nodup_append];refine ⟨a4,by simp,fun x K y hy=>?_⟩;obtain rfl:=List.mem_singleton.1 hy;exact fun e=>a1 (e ▸ K)
      ·rcases List.mem_append.1 E with E | E
       ·exact S k E
       ·obtain rfl:=List.mem_singleton.1 E;exact hm
     have hlen:D.length<l.length:=by
      have:=kU f.1 f.2;simp at this;omega
     obtain ⟨m,v⟩:=x;have hmn:=K.1.lt;have hvn:=sub_lt K.1.lt K.1.sub;simp only at hmn hvn;refine ak (γ:=Nat) (fun g14=>[(14,(ah g14))]) (fun g14 w'=>Hp w ab w' [an g14 48 (cc m v),pw jH Value.bool r it l (D++[((m,v),true)]),aP jH Value.bool J o,aP jH Value.bool Q z,own 48 2 (.slice B L.length d) L.length (flat b8 L)] []) ?_ ?_
     ·refine nO (H.get 0 rfl) ?_;refine H.alloc 48 (cs:=cc 0 0) fA rfl ?_;clear H;intro g14 w12 H;refine H.bT (c:=m) (d:=v) 0 rfl ?_;clear H;intro w13 H;exact ⟨g14,⟨rfl,trivial⟩,H⟩
     clear H;rintro g14 u w12 H;refine ax (γ:=Nat × List ((Nat × Nat) × Bool) × List ((Nat × Nat) × Bool)) (fun (k,_)=>[(59,.int .i64 (k:Int))]) (fun (k,o,z) w'=>(k≤n∧gw o (fun y=>vH n s t D y∨∃ i,i<k∧m.testBit i=true∧Lv n s t (GN (m,v) i)∧y=ua (m,v) i)∧gw z (fun y=>vI n s t D y∨(y=(m,v)∧∃ i,i<k∧m.testBit i=true∧Lv n s t (GN (m,v) i))))∧Hp w ab w' [an g14 48 (cc m v),pw jH Value.bool r it l (D++[((m,v),true)]),aP jH Value.bool J o,aP jH Value.bool Q z,own 48 2 (.slice B L.length d) L.length (flat b8 L)] []) (fun (k,_)=>n - k) (0,o,z) ⟨rfl,trivial⟩ ⟨⟨Nat.zero_le _,C.congr fun y=>by simp,q.congr fun y=>by simp⟩,H⟩ ?_;clear H C q;rintro ⟨k,o,z⟩ u w13 ⟨⟨E,C,q⟩,H⟩;refine au (fun h8=>?_) (fun h8=>?_)
     ·refine ak (γ:=List ((Nat × Nat) × Bool) × List ((Nat × Nat) × Bool)) (fun _=>[]) (fun (o,z) w'=>(gw o (fun y=>vH n s t D y∨∃ i,i<k+1∧m.testBit i=true∧Lv n s t (GN (m,v) i)∧y=ua (m,v) i)∧gw z (fun y=>vI n s t D y∨(y=(m,v)∧∃ i,i<k+1∧m.testBit i=true∧Lv n s t (GN (m,v) i))))∧Hp w ab w' [an g14 48 (cc m v),pw jH Value.bool r it l (D++[((m,v),true)]),aP jH Value.bool J o,aP jH Value.bool Q z,own 48 2 (.slice B L.length d) L.length (flat b8 L)] []) ?_ ?_
      ·have h2k:2^k<256:=show 2^k<2^8 from Nat.pow_lt_pow_right (by decide) (by omega);refine ak (γ:=Unit) (fun _=>[(15,.int .i64 (k:Int))]) (fun _ w'=>Hp w ab w' [an g14 48 (cc m v),pw jH Value.bool r it l (D++[((m,v),true)]),aP jH Value.bool J o,aP jH Value.bool Q z,own 48 2 (.slice B L.length d) L.length (flat b8 L)] []) ⟨(),⟨rfl,trivial⟩,H⟩ ?_;clear H;rintro ⟨⟩ u w14 H;refine ak (γ:=Nat) (fun g16=>[(16,(ah g16))]) (fun g16 w'=>Hp w ab w' [an g16 48 (cc m (v ^^^ 2^k)),an g14 48 (cc m v),pw jH Value.bool r it l (D++[((m,v),true)]),aP jH Value.bool J o,aP jH Value.bool Q z,own 48 2 (.slice B L.length d) L.length (flat b8 L)] []) ?_ ?_
       ·refine H.draw eN (by kernel_rfl) ?_;clear H;intro w15 H;refine quiet _ (fun w H=>aa (cn _) af) ?_;refine quiet _ (fun w H=>H.load 0 rfl b7 rfl af) ?_;refine quiet _ (fun w H=>aa (fY _) af) ?_;refine quiet _ (fun w H=>H.load 0 rfl b7 rfl af) ?_;refine quiet _ (fun w H=>cj (by omega) af) ?_;refine quiet _ (fun w H=>zN (by omega) h2k af) ?_;refine quiet _ (fun w H=>y2 af) ?_;refine H.alloc 48 (cs:=cc 0 0) fA rfl ?_;clear H;intro g16 w16 H;refine ⟨.inl H.forget,?_⟩;refine H.bT (c:=m) (d:=v ^^^ 2^k) 0 rfl ?_;clear H;intro w17 H;refine ⟨.inl H.forget,?_⟩;exact ⟨g16,⟨rfl,trivial⟩,H⟩
       clear H;rintro g16 u w15 H;have hst:=cQ m k;have T:m<256:=by omega
       by_cases hb:m.testBit k=true
       ·rw[hb] at hst;by_cases hf:Lv n s t (GN (m,v) k)
        ·have hlk:((bU l (m,v ^^^ 2^k)).map Value.bool).getD (.bool false)=.bool true:=by rw[show bU l (m,v ^^^ 2^k)=some true from F.yes hf];rfl
         refine aa (cn _) ?_;refine H.load 1 rfl b7 rfl ?_;refine fj (by omega) ?_;refine eg (b:=1) (Nat.lt_of_le_of_lt (Nat.div_le_self _ _) T) (by omega) ?_
         iterate 2 refine ag (by assumption) ?_
         refine H.ai 0 rfl bl aJ ?_;refine ag (by assumption) ?_;refine ez (p7 (H.get 2 rfl)) sy (m,v ^^^ 2^k) hlk ?_;refine ag (by assumption) ?_;refine ag rfl ?_;refine H.fE [an g14 48 (cc m v)] (fun u H=>H.b9 [1] (by decide) rfl) eN (by kernel_rfl) ?_;clear H;intro w24 H;refine quiet _ (fun w H=>H.ai 0 rfl bl aJ af) ?_;refine aj (c131 _ _ _ (by first | assumption | omega | decide) (by first | assumption | omega | decide) (by first | assumption | omega | decide) _) ?_;rintro _ w26 ⟨rfl,E⟩;replace H:=H.same E;clear E;refine ⟨.inl (H.b9 [1] (by decide) rfl),?_⟩;refine quiet _ (fun w H=>H.ai 0 rfl bl aJ af) ?_;refine H.mapEntry (d0:=false) 3 rfl sy (fq m k,v &&&fq m k) ?_;clear H;intro b0 st w27 H hstm;refine ⟨.inl (H.b9 [1] (by decide) rfl),?_⟩;refine H.entryStore 3 rfl sy (fq m k,v &&&fq m k) true rfl hstm ?_;clear H;intro w28 H;refine ⟨.inl (H.b9 [1] (by decide) rfl),?_⟩;refine H.iR 4 rfl sy (m,v) true ?_;clear H;intro w29 H;refine ⟨.inl (H.b9 [1] (by decide) rfl),?_⟩;refine ⟨(ek (ek o (fq m k,v &&&fq m k) b0) (fq m k,v &&&fq m k) true,ek z (m,v) true),trivial,⟨(C.JH (fq m k,v &&&fq m k) b0).congr fun y=>?_,(q.add (m,v)).congr fun y=>?_⟩,H.b9 [1,2,3,4,5] (by decide) rfl⟩
         ·rw[or_assoc];refine or_congr_right ?_;constructor
          ·rintro (⟨i,j,g⟩ | rfl)
           ·exact ⟨i,by omega,g⟩
           ·exact ⟨k,by omega,hb,hf,rfl⟩
          ·rintro ⟨i,j,g,M,h4⟩;rcases Nat.lt_succ_iff_lt_or_eq.1 j with h | h
           ·exact .inl ⟨i,h,g,M,h4⟩
           ·subst h;exact .inr h4
         ·rw[or_assoc];refine or_congr_right ?_;constructor
          ·rintro (⟨h0,i,j,g⟩ | rfl)
           ·exact ⟨h0,i,by omega,g⟩
           ·exact ⟨rfl,k,by omega,hb,hf⟩
          ·rintro ⟨h0,_⟩;exact .inr h0
        ·have hlk:((bU l (m,v ^^^ 2^k)).map Value.bool).getD (.bool false)=.bool false:=by rw[show bU l (m,v ^^^ 2^k)=none from F.no hf];rfl
         refine aa (cn _) ?_;refine H.load 1 rfl b7 rfl ?_;refine fj (by omega) ?_;refine eg (b:=1) (Nat.lt_of_le_of_lt (Nat.div_le_self _ _) T) (by omega) ?_
         iterate 2 refine ag (by assumption) ?_
         refine H.ai 0 rfl bl aJ ?_;refine ag (by assumption) ?_;refine ez (p7 (H.get 2 rfl)) sy (m,v ^^^ 2^k) hlk ?_;refine ag (by assumption) ?_;refine ae rfl ?_;refine ⟨(o,z),trivial,⟨C.congr fun y=>?_,q.congr fun y=>?_⟩,H.forget⟩
         ·refine or_congr_right ⟨fun ⟨i,j,g⟩=>⟨i,by omega,g⟩,fun ⟨i,j,g,M,h4⟩=>?_⟩;rcases Nat.lt_succ_iff_lt_or_eq.1 j with h | h
          ·exact ⟨i,h,g,M,h4⟩
          ·subst h;exact absurd M hf
         ·refine or_congr_right (and_congr_right fun _=>⟨fun ⟨i,j,g⟩=>⟨i,by omega,g⟩,fun ⟨i,j,g,M⟩=>?_⟩);rcases Nat.lt_succ_iff_lt_or_eq.1 j with h | h
          ·exact ⟨i,h,g,M⟩
          ·subst h;exact absurd M hf
       ·rw[show m.testBit k=false by simpa using hb] at hst;refine aa (cn _) ?_;refine H.load 1 rfl b7 rfl ?_;refine fj (by omega) ?_;refine eg (b:=1) (Nat.lt_of_le_of_lt (Nat.div_le_self _ _) T) (by omega) ?_
        iterate 4 refine ae (by assumption) ?_
        refine ae rfl ?_;refine ⟨(o,z),trivial,⟨C.congr fun y=>?_,q.congr fun y=>?_⟩,H.forget⟩
        ·refine or_congr_right ⟨fun ⟨i,j,g⟩=>⟨i,by omega,g⟩,fun ⟨i,j,g,M⟩=>?_⟩;rcases Nat.lt_succ_iff_lt_or_eq.1 j with h | h
         ·exact ⟨i,h,g,M⟩
         ·subst h;exact absurd g hb
        ·refine or_congr_right (and_congr_right fun _=>⟨fun ⟨i,j,g⟩=>⟨i,by omega,g⟩,fun ⟨i,j,g,M⟩=>?_⟩);rcases Nat.lt_succ_iff_lt_or_eq.1 j with h | h
         ·exact ⟨i,h,g,M⟩
         ·subst h;exact absurd g hb
      ·clear H C q;rintro ⟨o,z⟩ u w14 ⟨⟨C,q⟩,H⟩;exact ⟨(k+1,o,z),by show n - (k+1)<n - k;omega,⟨up (by omega),trivial⟩,⟨by show k+1≤n;omega,C,q⟩,H⟩
     ·have:k=n:=by omega
      subst this;refine ⟨(D++[((m,v),true)],o,z),by show l.length - (D++[((m,v),true)]).length<l.length - D.length;simp;omega,trivial,⟨f.1,f.2,C.congr fun y=>?_,q.congr fun y=>?_⟩,H.forget⟩
      ·rw[AF]
      ·rw[AG];rfl
   clear H;rintro ⟨o,z⟩ u w9 ⟨⟨C,q⟩,H⟩;have hcub:∀ L':List (Nat × Nat),(∀ x ∈ L',AB n s x)→L'.Nodup→L'.length≤1000000:=fun L' j g=>by
    have M:=yZ (n:=n) g fun x K=>⟨(j x K).lt,sub_lt (j x K).lt (j x K).sub⟩;have h4:=Nat.mul_le_mul h2n h2n;omega
   refine ak (γ:=List (Nat × Nat) × Option Addr × Nat) (fun (L',B,d)=>[(11,.slice B L'.length d)]) (fun (L',B,d) w'=>((∀ x,x ∈ L'↔x ∈ L∨(Lv n s t x∧¬ Used n s t x))∧L'.Nodup)∧Hp w ab w' [aP jH Value.bool J o,own 48 2 (.slice B L'.length d) L'.length (flat b8 L')] []) ?_ ?_
   ·refine H.rangeMap (k0:=48) (e0:=4) underlying189 ?_;clear H;intro it w10 H;refine ax (γ:=List ((Nat × Nat) × Bool) × List (Nat × Nat) × Option Addr × Nat) (fun (_,L',B,d)=>[(11,.slice B L'.length d)]) (fun (D,L',B,d) w'=>(D.Nodup∧(∀ p ∈ D,p ∈ l)∧(∀ x,x ∈ L'↔x ∈ L∨((x,true) ∈ D∧¬ Used n s t x))∧L'.Nodup)∧Hp w ab w' [pw jH Value.bool r it l D,aP jH Value.bool J o,aP jH Value.bool Q z,own 48 2 (.slice B L'.length d) L'.length (flat b8 L')] []) (fun (D,_)=>l.length - D.length) ([],L,B,d) ⟨rfl,trivial⟩ ⟨⟨List.nodup_nil,by simp,fun x=>by simp,Z⟩,H⟩ ?_;clear H;rintro ⟨D,L',B',d'⟩ u w11 ⟨⟨a4,S,U,G⟩,H⟩;refine H.wv 0 rfl sJ (fun a b h=>by injection h) (fun V=>?_) (fun x b w12 hm a1 H2=>?_)
    ·refine ae rfl ?_;refine ⟨(L',B',d'),⟨rfl,trivial⟩,⟨fun x=>(U x).trans (or_congr_right (and_congr_left fun _=>⟨fun h=>(F.mem I (S _ h)).2,fun h=>V _ (F.all h)⟩)),G⟩,H.b9 [1,3] (by decide) rfl⟩
    ·clear H;have H:=H2;clear H2;obtain ⟨rfl,K⟩:=F.mem I hm;refine ag rfl ?_;have f:(D++[(x,true)]).Nodup∧(∀ p ∈ D++[(x,true)],p ∈ l):=by
      refine ⟨?_,fun k E=>?_⟩
      ·rw[List.nodup_append];refine ⟨a4,by simp,fun x K y hy=>?_⟩;obtain rfl:=List.mem_singleton.1 hy;exact fun e=>a1 (e ▸ K)
      ·rcases List.mem_append.1 E with E | E
       ·exact S k E
       ·obtain rfl:=List.mem_singleton.1 E;exact hm
     have hlen:D.length<l.length:=by
      have:=kU f.1 f.2;simp at this;omega
     have X:l.length - (D++[(x,true)]).length<l.length - D.length:=by simp;omega
     have hsn:∀ y,(y,true) ∈ D++[(x,true)]↔(y,true) ∈ D∨y=x:=fun y=>by simp
     have a0:L'.length≤1000000:=hcub L' (fun y hy=>by
      rcases (U y).1 hy with h | h
      ·obtain ⟨_,_,h,_⟩:=(hL y).1 h;exact h.1
      ·exact (F.mem I (S _ h.1)).2.1) G
     have hxn:x ∉ L':=fun h=>by
      rcases (U x).1 h with h | h
      ·obtain ⟨O,j,g,_⟩:=(hL x).1 h;have M:=g.2;have h4:=K.2;omega
      ·exact a1 h.1
     refine ak (γ:=Nat) (fun g17=>[(17,(ah g17))]) (fun g17 w'=>Hp w ab w' [an g17 48 (cc x.1 x.2),pw jH Value.bool r it l (D++[(x,true)]),aP jH Value.bool J o,aP jH Value.bool Q z,own 48 2 (.slice B' L'.length d') L'.length (flat b8 L')] []) ?_ ?_
     ·refine nO (H.get 0 rfl) ?_;refine H.alloc 48 (cs:=cc 0 0) fA rfl ?_;clear H;intro g17 w13 H;refine H.bT (c:=x.1) (d:=x.2) 0 rfl ?_;clear H;intro w14 H;exact ⟨g17,⟨rfl,trivial⟩,H⟩
     clear H;rintro g17 u w13 H;refine H.ai 0 rfl bl aJ ?_;by_cases hu:Used n s t x
     ·refine ez (H.get 3 rfl) sy x (v:=.bool true) (by rw[q.yes ⟨K,hu⟩];rfl) ?_;refine ae rfl ?_;refine ⟨(D++[(x,true)],L',B',d'),X,⟨rfl,trivial⟩,⟨f.1,f.2,fun y=>(U y).trans (or_congr_right ?_),G⟩,H.forget⟩;rw[hsn];exact ⟨fun h=>⟨.inl h.1,h.2⟩,fun h=>⟨h.1.elim id fun e=>absurd (e ▸ hu) h.2,h.2⟩⟩
     ·refine ez (H.get 3 rfl) sy x (v:=.bool false) (by rw[q.no fun h=>hu h.2];rfl) ?_;refine ag rfl ?_;refine H.ai 0 rfl bl aJ ?_;refine aj (Oy L' x.1 x.2 a0 B' d' _ (bB (H.get 4 rfl))) ?_;rintro _ w14 ⟨B2,d2,i,hi,rfl,a3⟩;replace H:=H.bq a3;refine ⟨(D++[(x,true)],L'.take i++x::L'.drop i,B2,d2),X,⟨rfl,trivial⟩,⟨f.1,f.2,fun y=>?_,?_⟩,H.b9 [2,3,4,0] (by decide) rfl⟩
      ·have hmem:y ∈ L'.take i++x::L'.drop i↔y ∈ L'∨y=x:=by
        rw[List.mem_append,List.mem_cons];have:=List.take_append_drop i L';constructor
        ·rintro (h | h | h)
         ·exact .inl (List.mem_of_mem_take h)
         ·exact .inr h
         ·exact .inl (List.mem_of_mem_drop h)
        ·rintro (h | h)
         ·rw[← this,List.mem_append] at h;rcases h with h | h
          ·exact .inl h
          ·exact .inr (.inr h)
         ·exact .inr (.inl h)
       rw[hmem,U,hsn,or_assoc];refine or_congr_right ⟨fun h=>?_,fun h=>?_⟩
       ·rcases h with h | h
        ·exact ⟨.inl h.1,h.2⟩
        ·exact ⟨.inr h,h ▸ hu⟩
       ·rcases h.1 with j | j
        ·exact .inl ⟨j,h.2⟩
        ·exact .inr j
      ·have hp:(L'.take i++x::L'.drop i).Perm (x::L'):=by
        have:=List.perm_middle (a:=x) (l₁:=L'.take i) (l₂:=L'.drop i)
        rwa [List.take_append_drop] at this
       exact hp.nodup_iff.2 (List.nodup_cons.2 ⟨hxn,G⟩)
   clear H;rintro ⟨L',B',d'⟩ u w10 ⟨⟨U,G⟩,H⟩;refine ⟨(t+1,J,o,L',B',d'),by show n+1 - (t+1)<n+1 - t;omega,⟨rfl,rfl,trivial⟩,⟨C,fun x=>(U x).trans ?_,G⟩,H⟩;rw[hL x];constructor
   ·rintro (⟨O,j,g⟩ | ⟨j,g⟩)
    ·exact ⟨O,by omega,g⟩
    ·exact ⟨t,by omega,j,(j.I0 (by omega)).2 g⟩
   ·rintro ⟨O,j,g,M⟩;rcases Nat.lt_succ_iff_lt_or_eq.1 j with h | h
    ·exact .inl ⟨O,h,g,M⟩
    ·subst h;exact .inr ⟨g,(g.I0 (by omega)).1 M⟩
  ·have hl00:l=[]:=List.eq_nil_of_length_eq_zero (by omega);have hno:=(F.Fy I).1 hl00;have hno':∀ O x,t≤O→¬ Lv n s O x:=fun O=>by
    induction O with
    | zero=>
     intro x ht;obtain rfl:t=0:=by omega
     exact hno x
    | succ O ih=>
     intro x ht K;rcases Nat.lt_or_ge O t with h | h
     ·obtain rfl:t=O+1:=by omega
      exact hno x K
     ·obtain ⟨y,i,hy,_⟩:=(Lv.next (by omega)).1 K;exact ih y h hy
   refine ⟨(L,B,d),⟨rfl,trivial⟩,⟨fun x=>(hL x).trans ⟨fun ⟨_,_,_,h⟩=>h,fun h=>?_⟩,Z⟩,H.b9 [1] (by decide) rfl⟩;have hpc:=Az x.1 n;have hlv:Lv n s (n - vG x.1 n) x:=⟨h.1,by omega⟩;refine ⟨_,Nat.lt_of_not_le fun hle=>hno' _ x hle hlv,hlv,h⟩
 clear H;rintro ⟨L,B,d⟩ u w7 ⟨⟨hL,Z⟩,H⟩;exact ⟨B,d,L,rfl,hL,Z,H.out⟩
theorem Ky:enters prog 153=true:=by kernel_rfl
theorem OA (x y:Rw)(w:World):bz prog 153 [mA x.1 x.2.1 x.2.2,mA y.1 y.2.1 y.2.2] w fun r w'=>(∃ b,r=.bool b)∧aT w w':=by
 refine ar (N:=38) func153 Ky rfl rfl rfl (by simp) ?_;have H:=Hp.aC w;obtain ⟨a,b,c⟩:=x;obtain ⟨d,e,f⟩:=y;refine ak (γ:=Nat × Nat) (fun (g2,g3)=>[(2,(ah g2)),(3,(ah g3))]) (fun (g2,g3) w'=>Hp w ab w' [an g3 50 (dc d e f),an g2 50 (dc a b c)] []) ?_ ?_
 ·refine H.box 50 _ (cs:=dc a b c) rfl ?_;clear H;intro g2 g H;refine H.box 50 _ (cs:=dc d e f) rfl ?_;clear H;intro g3 h H;exact ⟨(g2,g3),⟨rfl,rfl,trivial⟩,H⟩
 clear H;rintro ⟨g2,g3⟩ u g H;by_cases j:(c:Int)=f
 ·by_cases k:(a:Int)=d
  ·refine aa (dh _ _) ?_;refine H.load 1 (i:=2) rfl b7 rfl ?_;refine aa (dh _ _) ?_;refine H.load 0 (i:=2) rfl b7 rfl ?_;refine ae (bne_eq_false_iff_eq.2 (by omega)) ?_;refine aa (fC _ _) ?_;refine aa (cn _) ?_;refine H.load 1 (i:=0) rfl b7 rfl ?_;refine aa (fC _ _) ?_;refine aa (cn _) ?_;refine H.load 0 (i:=0) rfl b7 rfl ?_;refine ae (bne_eq_false_iff_eq.2 (by omega)) ?_;refine aa (fC _ _) ?_;refine aa (fY _) ?_;refine H.load 1 (i:=1) rfl b7 rfl ?_;refine aa (fC _ _) ?_;refine aa (fY _) ?_;refine H.load 0 (i:=1) rfl b7 rfl ?_;exact ⟨⟨_,rfl⟩,H.keeps⟩
  ·refine aa (dh _ _) ?_;refine H.load 1 (i:=2) rfl b7 rfl ?_;refine aa (dh _ _) ?_;refine H.load 0 (i:=2) rfl b7 rfl ?_;refine ae (bne_eq_false_iff_eq.2 (by omega)) ?_;refine aa (fC _ _) ?_;refine aa (cn _) ?_;refine H.load 1 (i:=0) rfl b7 rfl ?_;refine aa (fC _ _) ?_;refine aa (cn _) ?_;refine H.load 0 (i:=0) rfl b7 rfl ?_;refine ag (bne_iff_ne.2 (by omega)) ?_;refine aa (fC _ _) ?_;refine aa (cn _) ?_;refine H.load 1 (i:=0) rfl b7 rfl ?_;refine aa (fC _ _) ?_;refine aa (cn _) ?_;refine H.load 0 (i:=0) rfl b7 rfl ?_;exact ⟨⟨_,rfl⟩,H.keeps⟩
 ·refine aa (dh _ _) ?_;refine H.load 1 (i:=2) rfl b7 rfl ?_;refine aa (dh _ _) ?_;refine H.load 0 (i:=2) rfl b7 rfl ?_;refine ag (bne_iff_ne.2 (by omega)) ?_;refine aa (dh _ _) ?_;refine H.load 1 (i:=2) rfl b7 rfl ?_;refine aa (dh _ _) ?_;refine H.load 0 (i:=2) rfl b7 rfl ?_;exact ⟨⟨_,rfl⟩,H.keeps⟩
theorem Fz {α:Type}{enc:α→List Value}{sz:Nat}(he:∀ a,(enc a).length=sz)(R:List α)(x:α)(i:Nat):flat enc (R.take i++x::R.drop i)=(flat enc R).take (i*sz)++(enc x++(flat enc R).drop (i*sz)):=by
 rw[← oS he,← oT he];unfold flat;rw[List.flatMap_append,List.flatMap_cons]
theorem Kz:enters prog 152=true:=by kernel_rfl
theorem c152 (L:List Rw)(T:L.length≤1000000)(A:Option Addr)(c:Nat)(w:World)(D:Sl w (.slice A L.length c) 3 L.length (flat bd L)) :
  bz prog 152 [.slice A L.length c,.func (.func 153) #[] #[]] w fun r w'=>∃ B d R,R.Perm L∧r=.slice B R.length d∧eW w w' (own 50 3 (.slice B R.length d) R.length (flat bd R)):=by
 refine ar (N:=44) func152 Kz rfl rfl rfl (by simp) ?_;have H:=Hp.aC w;refine aw (fun w'=>Hp w ab w' [] []) ⟨(),trivial,H⟩ ?_;clear H;rintro ⟨⟩ u w1 H;refine ak (γ:=Unit) (fun _=>[(5,.slice none 0 0)]) (fun _ w'=>Hp w ab w' [own 50 3 (.slice none 0 0) 0 []] []) ⟨(),⟨rfl,trivial⟩,H.bC 50 3⟩ ?_;clear H;rintro ⟨⟩ u w2 H;refine ak (γ:=List Rw × Option Addr × Nat) (fun (R,B,d)=>[(5,.slice B R.length d)]) (fun (R,B,d) w'=>R.Perm L∧Hp w ab w' [own 50 3 (.slice B R.length d) R.length (flat bd R)] []) ?_ ?_
 ·refine ay underlying44 ?_;refine ax (γ:=Nat × List Rw × Option Addr × Nat) (fun (k,R,B,d)=>[(11,.int .i64 (k:Int)),(5,.slice B R.length d)]) (fun (k,R,B,d) w'=>(k≤L.length∧R.Perm (L.take k))∧Hp w ab w' [own 50 3 (.slice B R.length d) R.length (flat bd R)] []) (fun (k,_)=>L.length - k) (0,[],none,0) ⟨rfl,rfl,trivial⟩ ⟨⟨Nat.zero_le _,by simp⟩,H⟩ ?_;clear H;rintro ⟨k,R,B,d⟩ u U ⟨⟨V,b⟩,H⟩;have n:R.length=k:=by rw[b.length_eq,List.length_take,Nat.min_eq_left V]
  refine au (fun X=>?_) (fun X=>?_)
  ·obtain ⟨gA,Y,rfl⟩:=D.A (by omega);obtain ⟨x,E,F⟩:=lU (l:=L) (j:=k) (by omega);have o:=iZ E;refine ak (γ:=List Rw × Option Addr × Nat) (fun (R,B,d)=>[(5,.slice B R.length d)]) (fun (R,B,d) w'=>R.Perm (L.take (k+1))∧Hp w ab w' [own 50 3 (.slice B R.length d) R.length (flat bd R)] []) ?_ ?_
   ·refine ak (γ:=Nat) (fun g7=>[(7,(ah g7))]) (fun g7 w'=>Hp w ab w' [an g7 50 (dc x.1 x.2.1 x.2.2),own 50 3 (.slice B R.length d) R.length (flat bd R)] []) ?_ ?_
    ·refine aq underlying44 aX k rfl (by omega) (o':=Y+k*3) (by omega) ?_;refine Sl.dj H D bR fo aX k rfl E ?_;refine H.alloc 50 (cs:=dc 0 0 0) ic rfl ?_;clear H;intro g7 G H;refine H.storeAll (cs':=dc x.1 x.2.1 x.2.2) 0 rfl aX rfl (dA _ _ _) ?_;clear H;intro Z H;exact ⟨g7,⟨rfl,trivial⟩,H⟩
    clear H;rintro g7 u G H;refine ak (γ:=Nat) (fun i=>[(8,.int .i64 (i:Int))]) (fun i w'=>i≤R.length∧Hp w ab w' [an g7 50 (dc x.1 x.2.1 x.2.2),own 50 3 (.slice B R.length d) R.length (flat bd R)] []) ?_ ?_
    ·refine ay underlying44 ?_;exact ⟨R.length,⟨rfl,trivial⟩,Nat.le_refl _,H⟩
    clear H;rintro i0 u Z ⟨p,H⟩;refine ak (γ:=Nat) (fun i=>[(8,.int .i64 (i:Int))]) (fun i w'=>i≤R.length∧Hp w ab w' [an g7 50 (dc x.1 x.2.1 x.2.2),own 50 3 (.slice B R.length d) R.length (flat bd R)] []) ?_ ?_
    ·refine ax (γ:=Nat) (fun i=>[(8,.int .i64 (i:Int))]) (fun i w'=>i≤R.length∧Hp w ab w' [an g7 50 (dc x.1 x.2.1 x.2.2),own 50 3 (.slice B R.length d) R.length (flat bd R)] []) (fun i=>i) i0 ⟨rfl,trivial⟩ ⟨p,H⟩ ?_;clear H;rintro i u w6 ⟨hi,H⟩;by_cases h0:(0:Int)<(i:Int)
     ·obtain ⟨gB,rfl⟩:=H.kM 1 rfl (by omega);obtain ⟨y,hy,_⟩:=lU (l:=R) (j:=i - 1) (by omega);have hw:IntKind.i64.wrap ((i:Int) - 1)=((i - 1:Nat):Int):=by rw[aH (by omega) (by omega)];omega
      refine H.draw eN (by kernel_rfl) ?_;clear H;intro I H
      iterate 2 refine ag (decide_eq_true (by assumption)) ?_
      refine quiet _ (fun w H=>H.ai 0 rfl fo aX af) ?_
      iterate 4 refine ag (decide_eq_true (by assumption)) ?_
      refine quiet _ (fun w H=>aq underlying44 aX (i - 1) hw (by omega) (o':=(i - 1)*3) (by omega) af) ?_;refine ag (decide_eq_true (by assumption)) ?_;refine quiet _ (fun w H=>H.eE 1 rfl bR fo aX (i - 1) rfl hy af) ?_;refine ag (decide_eq_true (by assumption)) ?_;refine aj (OA x y _) ?_;rintro _ w8 ⟨⟨bb,rfl⟩,m⟩;replace H:=H.same m;clear m;refine ⟨.inl H,?_⟩
      cases bb with
      | true=>
       iterate 1 refine ag (decide_eq_true (by assumption)) ?_
       refine ag rfl ?_;exact ⟨i - 1,by show i - 1<i;omega,⟨by rw[← hw];rfl,trivial⟩,by show i - 1≤R.length;omega,H⟩
      | false=>
       iterate 1 refine ag (decide_eq_true (by assumption)) ?_
       refine ae rfl ?_;exact ⟨i,⟨rfl,trivial⟩,hi,H⟩
     ·refine H.draw eN (by kernel_rfl) ?_;clear H;intro I H
      iterate 9 refine ae (decide_eq_false (by assumption)) ?_
      refine ae rfl ?_;exact ⟨i,⟨rfl,trivial⟩,hi,H⟩
    clear H;rintro i u w6 ⟨hi,H⟩;have f:=bB (H.get 1 rfl);obtain ⟨J,K,q,s⟩:=mm f (i:=i) hi;obtain ⟨M,c2,O,t⟩:=mn underlying44 aX f (i:=i) hi;have v:i≤d:=Nat.le_trans hi (by obtain ⟨_,Q,c',e,h,_⟩:=f;injection e with _ _ e;omega);have v1:∀ w',(own 50 3 (.slice B R.length d) R.length (flat bd R)).ok w'→Sl w' (.slice J i i) 3 i ((flat bd R).take (i*3)):=fun w' h=>by
     obtain ⟨Q,g,_,z⟩:=mm (bB h) (i:=i) hi;rw[K] at g;injection g with g _ _;rw[g];exact z
    have v2:∀ w',(own 50 3 (.slice B R.length d) R.length (flat bd R)).ok w'→Sl w' (.slice M (R.length - i) c2) 3 (R.length - i) ((flat bd R).drop (i*3)):=fun w' h=>by
     obtain ⟨Q,c',g,z⟩:=mn underlying44 aX (bB h) (i:=i) hi;rw[O] at g;injection g with g _ C;rw[g,C];exact z
    have S:(R.take i++x::R.drop i).length=i+(1+(R.length - i)):=by simp;omega
    have hf:=Fz bR R x i;clear s t f;refine H.fE [an g7 50 (dc x.1 x.2.1 x.2.2),own 50 3 (.slice B R.length d) R.length (flat bd R)] (fun u H=>H) eN (by kernel_rfl) ?_;clear H;intro I H;refine quiet (.slice J i i) (fun w H=>by rw[← K];exact tq underlying44 aX rfl rfl v af) ?_;refine quiet _ (fun w H=>H.ai 0 rfl fo aX af) ?_;refine H.bk zx (cs:=dc x.1 x.2.1 x.2.2) (by decide) (by decide) (by kernel_rfl) ?_;clear H;intro g20 w8 H;refine ⟨.inl H.forget,?_⟩;refine quiet (.slice M (R.length - i) c2) (fun w H=>by rw[← O];exact sC underlying44 aX rfl hi af) ?_;replace H:=H.wY (l:=1) (sz:=3) rfl (by unfold maxLen;omega);refine H.kR 0 zx rfl (v2 _ (H.get 2 rfl)) (fun u hu=>oU R u (List.mem_of_mem_drop hu)) (by omega) (by omega) ?_;clear H;intro A3 d3 w9 H;refine ⟨.inl H.forget,?_⟩;refine H.q8 zx (v1 _ (H.get 2 rfl)) (bB (H.get 0 rfl)) q (by omega) (by omega) (by omega) ?_;clear H;intro A4 d4 w10 H;refine ⟨.inl H.forget.forget,?_⟩;refine ⟨(R.take i++x::R.drop i,some ⟨A4,0,none⟩,d4),⟨by rw[S];rfl,trivial⟩,?_,?_⟩
    ·rw[o];refine (List.perm_middle (a:=x) (l₁:=R.take i) (l₂:=R.drop i)).trans ?_;rw[List.take_append_drop];exact ((b.cons x).trans (List.perm_append_singleton x (L.take k)).symm)
    ·rw[S,hf];exact H.only
   ·clear H b n;rintro ⟨R,B,d⟩ u G ⟨b,H⟩;exact ⟨(k+1,R,B,d),by show L.length - (k+1)<L.length - k;omega,⟨up (by omega),rfl,trivial⟩,⟨by show k+1≤L.length;omega,b⟩,H⟩
  ·have:k=L.length:=by omega
   subst this;rw[List.take_length] at b;exact ⟨(R,B,d),⟨rfl,trivial⟩,b,H⟩
 clear H;rintro ⟨R,B,d⟩ u U ⟨b,H⟩;exact ⟨B,d,R,b,rfl,H.out⟩
end Go.Proofs.YtpjihhgjbbihkaaGreatDoor
