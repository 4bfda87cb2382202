import Derived.Test.YtpjihhgjbbihkaaGreatDoorPart2
import Derived.WideKeyEntry
namespace Go.Dk
set_option maxRecDepth 100000
variable {P:Program} {w0 w:World} {F:Nat→Prop} {L M:List cC} {kk:Value→World→Prop}
theorem Hp.GB (H:Hp w0 F w L M)(n:Nat){t e:TypeId}{z:Value}{sz b l c i:Nat}{A:Option Addr}{xs:List Value}{kd:IntKind}{j:Int}(T:qu P t e z sz b)(hn:L[n]?=some (own e sz (.slice A l c) l xs))(hj:j=(i:Int))(hi:i≤l)(h0:0<l)(h:∀ A' c',Hp w0 F w (L.set n (own e sz (.slice A' i c') i (xs.take (i*sz)))) M→kk (.slice A' i c') w):eP P t (.slice A l c) none (some (.int kd j)) none w kk:=by
 subst hj;obtain ⟨hlen,hcase⟩:=H.get n hn;rcases hcase with ⟨hv,hz⟩ | ⟨g,cap,cur,hv,hb,hg,hlc,hm,hcs,hx⟩
 ·omega
 injection hv with e1 _ e2;subst e1;subst e2;have hmul:=Nat.mul_le_mul_right sz hi;have hsl:sliced (some ⟨g,0,none⟩) 0 i c sz=.slice (some ⟨g,0,none⟩) i c:=by
  unfold sliced;rw[if_neg (by omega)];simp[addr_add]
 have hown:(own e sz (.slice (some ⟨g,0,none⟩) i c) i (xs.take (i*sz))).ok w:=by
  refine ⟨by rw[List.length_take,hlen];omega,.inr ⟨g,c,cur,rfl,hb,hg,by omega,hm,hcs,?_⟩⟩;rw[← hx,List.take_take,Nat.min_eq_left hmul]
 unfold eP;refine ⟨sliced (some ⟨g,0,none⟩) 0 i c sz,w,?_,?_⟩
 ·rw[run_sliceAt_slice w t _ _ _ _ (elemOf T.und),run_slice_h w t _ l c (elemOf T.und) kd (i:Int) (by omega) (by omega),np T.und,run_sizeOf T.size];rfl
 ·rw[hsl];refine h _ _ (H.mQ n hn _ (aS.refl _ _) hown fun x hx=>?_);exact ⟨(World.ownsRow.lt (w:=w) (base:=0) hown x hx).2,.inl hx⟩
end Go.Dk
namespace Go.Proofs.YtpjihhgjbbihkaaGreatDoor
open Go.Proofs.Tryz
set_option maxRecDepth 100000
open Go.Dk
attribute [local irreducible] IntKind.wrap
theorem wk:bB prog 184=some 3:=by kernel_rfl
theorem Jq:cH prog 184=some true:=by kernel_rfl
theorem GC:eH prog 184=some (.agg #[.int .i64 0,.slice none 0 0,.slice none 0 0]):=by kernel_rfl
theorem Bi (g:Nat)(w:World):(Instr.fieldAt 184 (ah g) 0).run prog w=.ok (ah g) w:=by kernel_rfl
theorem GD (g:Nat)(w:World):(Instr.fieldAt 184 (ah g) 1).run prog w=.ok (.pointer (some ⟨g,2,none⟩)) w:=by kernel_rfl
theorem gT:qu prog 185 184 (.agg #[.int .i64 0,.slice none 0 0,.slice none 0 0]) 3 56:=⟨underlying185,by kernel_rfl,rfl,by decide⟩
def gm (n:Int)(x:Value × Value):List Value:=[.int .i64 n,x.1,x.2]
theorem ye (n:Int)(x:Value × Value):(gm n x).length=3:=rfl
theorem bG {a:Int}{A B:Option Addr}{l c m d:Nat}{w:World}{kk:Value→World→Prop}(h:kk (.agg (gm a (.slice A l c,.slice B m d)).toArray) w):b7 prog 184 [(0,mv a (.slice A l c)),(1,.slice B m d)] w kk:=bu (fun w=>by kernel_rfl) h
theorem Jr {a:Nat}{ty:TypeId}{cst:Array Bool}{w:World}{kk:Value→World→Prop}(h:kk (.int .i64 (a:Int)) w):bU prog .max #[3,3] ty cst [.int .i64 0,.int .i64 (a:Int)] w kk:=by
 unfold bU;refine ⟨_,w,?_,h⟩;show (do pure (.value (← Builtin.max_ #[3,3] ty #[.int .i64 0,.int .i64 (a:Int)])):Sem Next).run prog w=_;rw[Sem.run_bind,run_max_int2];have:(if (a:Int)>0 then (a:Int) else 0)=a:=by split <;> omega
 rw[this];rfl
def fb (S:Nat→Prop)(w:World)(ts:List (Value × Value))(st:uk):Prop:=ts.length=st.length∧∀ (j:Nat) (a:Value × Value) (x:aZ × List Int),ts[j]?=some a→st[j]?=some x→
 er S a.1 x.1 w∧∃ B c,a.2=.slice B x.2.length c∧(sl S (.slice B x.2.length c) 1 x.2.length (aA x.2)).ok w
theorem fb.bP {S:Nat→Prop}{w w':World}{ts:List (Value × Value)}{st:uk}(h:fb S w ts st)(hS:∀ g,S g→w'.heap[g]?=w.heap[g]?):fb S w' ts st:=
 ⟨h.1,fun j a x ha hx=>by
  obtain ⟨hm,B,c,he,hs⟩:=h.2 j a x ha hx;exact ⟨(bf S a.1 x.1).bP _ _ hS hm,B,c,he,(sl S _ 1 _ _).bP _ _ hS hs⟩⟩
theorem fb.mono {S S':Nat→Prop}{w:World}{ts:List (Value × Value)}{st:uk}(h:fb S w ts st)(hS:∀ g,S g→S' g):fb S' w ts st:=
 ⟨h.1,fun j a x ha hx=>by
  obtain ⟨hm,B,c,he,hs⟩:=h.2 j a x ha hx;exact ⟨bf.mono hm hS,B,c,he,sl.mono hs hS⟩⟩
theorem fb.nil (S:Nat→Prop)(w:World):fb S w [] []:=⟨rfl,fun j a x h=>by simp at h⟩
theorem fb.snoc {S:Nat→Prop}{w:World}{ts:List (Value × Value)}{st:uk}(h:fb S w ts st){a:Value × Value}{x:aZ × List Int}(hm:er S a.1 x.1 w){B:Option Addr}{c:Nat}(he:a.2=.slice B x.2.length c)(hs:(sl S (.slice B x.2.length c) 1 x.2.length (aA x.2)).ok w):fb S w (ts++[a]) (st++[x]):=by
 refine ⟨by simp[h.1],fun j b y hb hy=>?_⟩;by_cases hj:j<ts.length
 ·rw[List.getElem?_append_left hj] at hb;rw[List.getElem?_append_left (by rw[← h.1];exact hj)] at hy;exact h.2 j b y hb hy
 ·have hlt:=h.1;rw[List.getElem?_append_right (by omega)] at hb hy;have hj0:j - ts.length=0:=by have:=(List.getElem?_eq_some_iff.1 hb).1;simp at this;omega
  rw[← hlt,hj0] at hy;rw[hj0] at hb;simp at hb hy;subst hb;subst hy;exact ⟨hm,B,c,he,hs⟩
theorem fb.pop {S:Nat→Prop}{w:World}{ts:List (Value × Value)}{st:uk}{a:Value × Value}{x:aZ × List Int}(h:fb S w (ts++[a]) (st++[x])) :
  fb S w ts st∧er S a.1 x.1 w∧∃ B c,a.2=.slice B x.2.length c∧(sl S (.slice B x.2.length c) 1 x.2.length (aA x.2)).ok w:=by
 have hl:ts.length=st.length:=by have:=h.1;simpa using this
 refine ⟨⟨hl,fun j b y hb hy=>h.2 j b y ?_ ?_⟩,h.2 ts.length a x (by simp) (by rw[hl];simp)⟩
 ·rw[List.getElem?_append_left (List.getElem?_eq_some_iff.1 hb).1];exact hb
 ·rw[List.getElem?_append_left (List.getElem?_eq_some_iff.1 hy).1];exact hy
def iS (S:Nat→Prop)(ts:List (Value × Value))(st:uk):cC:=⟨S,fun w=>fb S w ts st,fun _ _ h hok=>hok.bP h⟩
def CF (M:List cC)(g:Nat):Prop:=∃ s ∈ M,s.foot g
theorem _root_.Go.Dk.Hp.pe {w0 w:World}{F:Nat→Prop}{L M:List cC}(H:Hp w0 F w L M)(r:cC)(hf:∀ g,r.foot g→CF M g)(hr:r.ok w):Hp w0 F w L (r::M):=
 H.pG (aS.refl _ _) r hr fun g hg=>by
  obtain ⟨s,hs,hg'⟩:=hf g hg;exact ⟨H.rlt s hs g hg',.inr ⟨s,hs,hg'⟩⟩
theorem _root_.Go.Dk.Hp.jU {w0 w:World}{F:Nat→Prop}{L M:List cC}{a b c:cC}(H:Hp w0 F w (a::b::c::L) M):Hp w0 F w [a,b,c] M:=by
 have hm:∀ s,s ∈ [a,b,c]→s ∈ a::b::c::L:=fun s hs=>by
  have:s ∈ [a,b,c]++L:=List.mem_append_left _ hs;exact this
 exact ⟨H.keeps,fun s hs=>H.ok s (hm s hs),fun s hs=>H.lt s (hm s hs),fun s hs=>H.new s (hm s hs),(List.pairwise_append.1 (show List.Pairwise _ ([a,b,c]++L) from H.dis)).1,H.rok,H.rlt,fun q hq s hs=>H.rdis q hq s (hm s hs)⟩
theorem _root_.Go.Dk.Hp.pf {w0 w:World}{F:Nat→Prop}{L M:List cC}{g l sz:Nat}{e:TypeId}{cs:Array Value}(H:Hp w0 F w (an g e cs::L) M)(hs:cs.size=l*sz)(hl:l≤maxLen):Hp w0 F w (own e sz (.slice (some ⟨g,0,none⟩) l l) l cs.toList::L) M:=
 H.re (fun h=>⟨by simpa using hs,.inr ⟨g,l,cs,rfl,Nat.zero_le _,h,Nat.le_refl _,hl,hs,by rw[← hs];exact List.take_length⟩⟩) (fun x hx=>by
  have hx:some g=some x:=hx;injection hx with hx;exact hx.symm)
theorem fE {P:Program}{w:World}{k:Value→World→Prop}{g:Nat}{t ty:TypeId}{cs:Array Value}(h:(an g t cs).ok w)(cs':List Value)(hagg:cH P ty=some true)(hs:bB P ty=some cs'.length)(hp:∀ (j:Nat) v,cs'[j]?=some v→cs[j]?=some v)(hk:k (.agg cs'.toArray) w):eY P ty (ah g) w k:=
 hK cs' hagg hs (fun j v hj=>by rw[addr_add,Nat.zero_add,aQ h];exact hp j v hj) hk
def LG (cols:Int)(R:aZ)(m:Nat)(G:List Int)(s e:Int):Prop:=
 (cA cols R=false∧G=[]∧s=0∧e=1)∨(cA cols R=true∧gS R=true∧G=[]∧s=0∧e=7)∨
 (cA cols R=true∧gS R=false∧e=6∧s=m∧G=[]∧m<2^cols.toNat)∨
 (cA cols R=true∧gS R=false∧e=0∧(0≤s∧s≤m)∧(∃ b,G=a6 cols.toNat b)∧eO cols.toNat R (G.length:Int)∧aJ R G)
def nB (n:Int)(A3:Option Addr)(l3 c3:Nat)(t:Value)(b:Value × Value):Array Value:=(gm n (.slice A3 l3 c3,t)++gm n b).toArray
theorem LH:enters prog 89=true:=by kernel_rfl
set_option maxHeartbeats 4000000 in
theorem Ov (cols:Int)(R:aZ)(v1:Value)(m:Nat)(S:Nat→Prop)(w:World)(hl:R.length≤1000000)(hlr:∀ r ∈ R,r.length≤1000000000)(hm:m≤1000000000)(hc:cA cols R=true→cols≤4000)(h1:er S v1 R w)(hS:∀ g,S g→g<w.heap.size) :
  bt prog 89 [mv cols v1,.int .i64 (m:Int)] w fun v w'=>∃ B d G s e,v=.tuple #[.slice B G.length d,.int .i64 s,.int .i64 e]∧LG cols R m G s e∧eX w w' (own 3 1 (.slice B G.length d) G.length (aA G)):=by
 refine ar (N:=110) func89 LH rfl rfl rfl (by simp) ?_;have H:=pa h1 hS;have h1':jT w v1 R:=bf.mono h1 hS;obtain ⟨A,ca,hv⟩:=h1.form;subst hv;refine ak (γ:=Nat) (fun g2=>[(2,(ah g2))]) (fun g2 w'=>Hp w ab w' [an g2 137 (mc cols (.slice A R.length ca))] [bf S (.slice A R.length ca) R]) ?_ ?_
 ·refine H.box 137 (mv _ _) (cs:=mc _ _) rfl ?_;clear H;intro g1 w1 H;exact ⟨g1,⟨rfl,trivial⟩,H⟩
 clear H;rintro g2 u w1 H;refine ak (γ:=Option Addr × Nat × List Int × Int) (fun (B,d,G,e)=>[(7,.slice B G.length d),(8,.int .i64 e)]) (fun (B,d,G,e) w'=>Bh cols R G e∧Hp w ab w' [own 3 1 (.slice B G.length d) G.length (aA G),an g2 137 (mc cols (.slice A R.length ca))] [bf S (.slice A R.length ca) R]) ?_ ?_
 ·refine H.ai 0 rfl aL az ?_;refine aj (Nu cols R _ S _ (by omega) hlr (H.ro 0 rfl) (H.rlt _ (.head _))) ?_;rintro _ w2 ⟨B,d,G,e,rfl,hG,hn⟩;exact ⟨(B,d,G,e),⟨rfl,rfl,trivial⟩,hG,H.bD hn⟩
 clear H;rintro ⟨Bb,db,best,e⟩ u w2 ⟨hG,H⟩;refine aw (fun w'=>(e=0)∧Hp w ab w' [own 3 1 (.slice Bb best.length db) best.length (aA best),an g2 137 (mc cols (.slice A R.length ca))] [bf S (.slice A R.length ca) R]) ?_ ?_
 ·refine de (fun he=>?_) (fun he=>?_)
  ·refine ⟨none,0,[],0,e,rfl,?_,((H.bx 3 1).only).out⟩;rcases hG with ⟨h1,_,h3⟩ | ⟨h1,h2,_,h3⟩ | ⟨_,_,h3,_⟩
   ·exact .inl ⟨h1,rfl,rfl,h3⟩
   ·exact .inr (.inl ⟨h1,h2,rfl,rfl,h3⟩)
   ·exact absurd h3 he
  ·exact ⟨(),trivial,he,H⟩
 clear H;rintro ⟨⟩ u w3 ⟨he,H⟩;obtain ⟨hr',hb',gl,hgl,hGe⟩:cA cols R=true∧gS R=false∧∃ l,mB R l∧best=a6 cols.toNat l:=by
  rcases hG with ⟨_,_,h3⟩ | ⟨_,_,_,h3⟩ | ⟨h1,h2,_,h3⟩
  ·omega
  ·omega
  ·exact ⟨h1,h2,h3⟩
 clear hG;have hright:=gi.1 hr';obtain ⟨n,rfl⟩:∃ n:Nat,cols=n:=⟨cols.toNat,by have:=hright.ge;omega⟩;rw[Int.toNat_natCast] at hGe;have hn30:=hc hr';have hbare:[] ∉ R:=fun h=>by rw[j_.2 h] at hb';cases hb'
 have hsolve:aJ R best:=by rw[hGe];exact mz hright (uw hgl)
 have hb40:best.length≤4000:=by have:=fo n gl;rw[hGe];omega
 refine ak (γ:=Unit) (fun _=>[(1,.int .i64 (m:Int))]) (fun _ w'=>Hp.cl H w') ?_ ?_
 ·refine Jr ?_;exact ⟨(),⟨rfl,trivial⟩,H⟩
 rintro ⟨⟩ u w3 H1;replace H:Hp _ _ _ _ _:=H1;clear H1;refine ak (γ:=Nat) (fun g9=>[(9,.slice (some ⟨g9,0,none⟩) 1 1)]) (fun g9 w'=>Hp w ab w' [own 184 3 (.slice (some ⟨g9,0,none⟩) 1 1) 1 (flat (gm n) [(.slice A R.length ca,.slice none 0 0)]),own 3 1 (.slice Bb best.length db) best.length (aA best),an g2 137 (mc n (.slice A R.length ca))] [bf S (.slice A R.length ca) R]) ?_ ?_
 ·refine H.ai 1 rfl aL az ?_;refine bG ?_;refine H.bg gT (cs:=(gm n (.slice A R.length ca,.slice none 0 0)).toArray) (by decide) (by decide) (by kernel_rfl) ?_;clear H;intro g9 w4 H;exact ⟨g9,⟨rfl,trivial⟩,H.pf (l:=1) (sz:=3) rfl (by unfold maxLen;omega)⟩
 clear H;rintro g9 u w4 H;refine ak (γ:=Unit) (fun _=>[(10,.int .i64 0)]) (fun _ w'=>Hp.cl H w') ⟨(),⟨rfl,trivial⟩,H⟩ ?_;rintro ⟨⟩ u w5 H1;replace H:Hp _ _ _ _ _:=H1;clear H1;have Hs:∃ (S0 Sb:Nat→Prop),Hp w ab w5 [own 184 3 (.slice (some ⟨g9,0,none⟩) 1 1) 1 (flat (gm n) [(.slice A R.length ca,.slice none 0 0)]),an g2 137 (mc n (.slice A R.length ca))] [iS S0 [(.slice A R.length ca,.slice none 0 0)] [(R,[])],sl Sb (.slice Bb best.length db) 1 best.length (aA best)]:=by
  have H2:=(H.front 1 rfl).freeze;have hb:=iv (H2.ro 0 rfl);have hmR:=H2.ro 1 rfl;refine ⟨CF [own 3 1 (.slice Bb best.length db) best.length (aA best),bf S (.slice A R.length ca) R],fun g=>(Value.slice Bb best.length db).ownBlock=some g,?_⟩;have H3:=H2.pe (sl (fun g=>(Value.slice Bb best.length db).ownBlock=some g) (.slice Bb best.length db) 1 best.length (aA best)) (fun g hg=>⟨_,.head _,hg⟩) hb;have H4:=H3.pe (iS (CF [own 3 1 (.slice Bb best.length db) best.length (aA best),bf S (.slice A R.length ca) R]) [(.slice A R.length ca,.slice none 0 0)] [(R,[])]) (fun g ⟨s,hs,hg⟩=>⟨s,.tail _ hs,hg⟩)
   ((fb.nil _ _).snoc (bf.mono hmR fun g hg=>⟨_,.tail _ (.head _),hg⟩) rfl ⟨rfl,none,0,rfl,Nat.le_refl _,.inl rfl⟩)
  exact H4.ep fun r hr=>by
   rcases List.mem_cons.1 hr with rfl | hr
   ·exact .head _
   ·rw[List.mem_singleton] at hr;subst hr;exact .tail _ (.head _)
 clear H;obtain ⟨S0,Sb0,H⟩:=Hs;refine ak (γ:=Option Addr × Nat × List Int × Nat) (fun (B,d,best,k)=>[(7,.slice B best.length d),(10,.int .i64 (k:Int))]) (fun (B,d,best,k) w'=>(k≤m∧best.length≤4000∧fL n R best k [])∧(∃ Sb,Hp w ab w' [an g2 137 (mc n (.slice A R.length ca))] [sl Sb (.slice B best.length d) 1 best.length (aA best)])) ?_ ?_
 ·refine uE (γ:=Option Addr × Nat × List (Value × Value) × uk × List Int × Option Addr × Nat × Nat × (Nat→Prop) × (Nat→Prop)) _ rfl
   (fun (A9,d9,ts,_,best,Bb,db,k,_)=>[(9,.slice A9 ts.length d9),(7,.slice Bb best.length db),(10,.int .i64 (k:Int))])
   (fun (A9,d9,ts,st,best,Bb,db,k,S0,Sb) w'=>((best.length≤4000∧k≤m)∧fL n R best k st)∧Hp w ab w' [own 184 3 (.slice A9 ts.length d9) ts.length (flat (gm n) ts),an g2 137 (mc n (.slice A R.length ca))] [iS S0 ts st,sl Sb (.slice Bb best.length db) 1 best.length (aA best)])
   (fun (_,_,_,st,_)=>pV n st) (some ⟨g9,0,none⟩,1,[(.slice A R.length ca,.slice none 0 0)],[(R,[])],best,Bb,db,0,S0,Sb0) ⟨rfl,rfl,rfl,trivial⟩ ⟨⟨⟨hb40,Nat.zero_le _⟩,Co hright hsolve⟩,H⟩ ?_
  clear H hsolve hGe he hb40;rintro ⟨A9,d9,ts,st,best,Bb,db,k,S0,Sb⟩ u w6 ⟨⟨⟨hb40,hkm⟩,hfew⟩,H⟩;have hstk:fb S0 w6 ts st:=H.ro 0 rfl;have hlen:=hstk.1;refine ay underlying185 ?_;refine au (fun h7=>?_) (fun h7=>?_)
  ·rcases List.eq_nil_or_concat ts with rfl | ⟨ts0,a,hts⟩
   ·simp at h7
   rcases List.eq_nil_or_concat st with rfl | ⟨st0,x,hst⟩
   ·simp at hlen;rw[hlen] at h7;simp at h7
   rw[List.concat_eq_append] at hts hst;subst hts;subst hst;obtain ⟨hstk0,hma,Bx,cx,hax,hslx⟩:=hstk.pop;have hl0:ts0.length=st0.length:=hstk0.1;obtain ⟨Ax,cax,hax1⟩:=hma.form;obtain ⟨a1,a2⟩:=a;simp only at hax hax1;subst hax;subst hax1;have hxr:=hfew.right x (by simp);have hxl:x.1.length≤1000000:=Nat.le_trans (hfew.rows x (by simp)) hl;have hxT:x.2.length≤20000000:=by
    have h1:=hfew.len x (by simp);have h2:(n+1)*n≤4001*4000:=Nat.mul_le_mul (by omega) (by omega);omega
   have hhi:ts0.length≤4001:=by have:=hfew.high st0.length x (by simp);omega
   have hxlr:∀ r ∈ x.1,r.length≤1000000000:=fun r hr=>by have:=oe hxr hr;omega
   have hxb:cA n x.1=true:=gi.2 hxr;have hlts:(ts0++[(Value.slice Ax x.1.length cax,Value.slice Bx x.2.length cx)]).length=ts0.length+1:=by simp
   have hw1:IntKind.i64.wrap (((ts0++[(Value.slice Ax x.1.length cax,Value.slice Bx x.2.length cx)]).length:Int) - 1)=(ts0.length:Int):=by rw[hlts,aH (by omega) (by omega)];omega
   refine ak (γ:=Nat) (fun g11=>[(11,(ah g11))]) (fun g11 w'=>Hp w ab w' [an g11 184 (gm n (.slice Ax x.1.length cax,.slice Bx x.2.length cx)).toArray,own 184 3 (.slice A9 (ts0++[(Value.slice Ax x.1.length cax,Value.slice Bx x.2.length cx)]).length d9) (ts0++[(Value.slice Ax x.1.length cax,Value.slice Bx x.2.length cx)]).length (flat (gm n) (ts0++[(Value.slice Ax x.1.length cax,Value.slice Bx x.2.length cx)])),an g2 137 (mc n (.slice A R.length ca))] [iS S0 (ts0++[(Value.slice Ax x.1.length cax,Value.slice Bx x.2.length cx)]) (st0++[x]),sl Sb (.slice Bb best.length db) 1 best.length (aA best)]) ?_ ?_
   ·obtain ⟨g9',rfl⟩:=jB (H.get 0 rfl) (by omega);refine ay underlying185 ?_;refine aq underlying185 (s:=3) wk ts0.length hw1 (by omega) (o':=0+ts0.length*3) rfl ?_;refine H.gf 0 rfl (ye n) Jq wk ts0.length (by omega) (a:=(Value.slice Ax x.1.length cax,Value.slice Bx x.2.length cx)) (by simp) ?_;refine H.alloc 184 GC rfl ?_;clear H;intro g11 w7 H;refine H.storeAll 0 rfl wk rfl (fun v hv=>by simp[gm] at hv;rcases hv with rfl | rfl | rfl <;> rfl) ?_;clear H;intro w8 H;exact ⟨g11,⟨rfl,trivial⟩,H⟩
   clear H hstk hstk0 hma hslx;rintro g11 u w7 H;refine ak (γ:=Option Addr × Nat) (fun (A9,d9)=>[(9,.slice A9 ts0.length d9)]) (fun (A9,d9) w'=>Hp w ab w' [an g11 184 (gm n (.slice Ax x.1.length cax,.slice Bx x.2.length cx)).toArray,own 184 3 (.slice A9 ts0.length d9) ts0.length (flat (gm n) ts0),an g2 137 (mc n (.slice A R.length ca))] [iS S0 (ts0++[(Value.slice Ax x.1.length cax,Value.slice Bx x.2.length cx)]) (st0++[x]),sl Sb (.slice Bb best.length db) 1 best.length (aA best)]) ?_ ?_
   ·refine ay underlying185 ?_;refine H.GB 1 gT rfl hw1 (by omega) (by omega) ?_;have e:(flat (gm n) (ts0++[(Value.slice Ax x.1.length cax,Value.slice Bx x.2.length cx)])).take (ts0.length*3)=flat (gm n) ts0:=by
     rw[du,List.take_left' (cQ (ye n) ts0)]
    rw[e];clear H;intro A' c' H;exact ⟨(A',c'),⟨rfl,trivial⟩,H⟩
   clear H;rintro ⟨A9,d9⟩ u w8 H;have hpart:∀ (j:Nat) (v:Value),([.int .i64 (n:Int),.slice Ax x.1.length cax]:List Value)[j]?=some v→(gm n (.slice Ax x.1.length cax,.slice Bx x.2.length cx)).toArray[j]?=some v:=fun j v hj=>by
    match j,hj with
    | 0,hj=>exact hj
    | 1,hj=>exact hj
    | j+2,hj=>simp at hj
   have hpop:fb S0 w8 (ts0++[(Value.slice Ax x.1.length cax,Value.slice Bx x.2.length cx)]) (st0++[x]):=H.ro 0 rfl;have hmx:er S0 (.slice Ax x.1.length cax) x.1 w8:=hpop.pop.2.1;have hSl:∀ g,S0 g→g<w8.heap.size:=H.rlt _ (.head _);refine aw (fun w'=>gS x.1=false∧Hp.cl H w') ?_ ?_
   ·refine aa (Bi _) ?_;refine fE (H.get 0 rfl) [.int .i64 (n:Int),.slice Ax x.1.length cax] aL az hpart ?_;refine aj (LF n x.1 _ _ (by omega) (bf.mono hmx hSl)) ?_;rintro _ w9 ⟨rfl,hk⟩;replace H:=H.same hk;clear hk;refine aF (fun hb=>?_) (fun hb=>?_)
    ·have hb':[] ∈ x.1:=j_.1 (by simpa using hb);have hpop:fb S0 w9 (ts0++[(Value.slice Ax x.1.length cax,Value.slice Bx x.2.length cx)]) (st0++[x]):=H.ro 0 rfl;have H2:=((H.forget).pe (iS S0 ts0 st0) (fun g hg=>⟨_,.head _,hg⟩) hpop.pop.1).ep (M':=[iS S0 ts0 st0,sl Sb (.slice Bb best.length db) 1 best.length (aA best)]) (fun r hr=>by
      rcases List.mem_cons.1 hr with rfl | hr
      ·exact .head _
      ·rw[List.mem_singleton] at hr;subst hr;exact .tail _ (.tail _ (.head _)))
     exact ⟨(A9,d9,ts0,st0,best,Bb,db,k,S0,Sb),pW n st0 x,⟨rfl,rfl,rfl,trivial⟩,⟨⟨hb40,hkm⟩,Em hfew hb'⟩,H2⟩
    ·exact ⟨(),trivial,by simpa using hb,H⟩
   rintro ⟨⟩ u w9 ⟨hxbare,H1⟩;replace H:Hp w ab w9 [an g11 184 (gm n (.slice Ax x.1.length cax,.slice Bx x.2.length cx)).toArray,own 184 3 (.slice A9 ts0.length d9) ts0.length (flat (gm n) ts0),an g2 137 (mc n (.slice A R.length ca))] [iS S0 (ts0++[(Value.slice Ax x.1.length cax,Value.slice Bx x.2.length cx)]) (st0++[x]),sl Sb (.slice Bb best.length db) 1 best.length (aA best)]:=H1;clear H1 hpop hmx hSl;obtain ⟨e1,e2,e3,e4⟩:=Bf hxb;have hEi:=j0 hxr;have hEb:[] ∉ (c_ n (x.1,[])).1:=pS (s:=(x.1,[])) (fun h=>by rw[j_.2 h] at hxbare;cases hxbare) _;have hEl:(c_ n (x.1,[])).1.length≤x.1.length:=od (s:=(x.1,[])) _;have hTl:=fo n (c_ n (x.1,[])).2;have hdone:=En hfew;have hcut:=Gr hfew;have hbr:=fun c=>zv hfew (c:=c);have hc89:=fun u hS0 h=>Of n x.1 (.slice Ax x.1.length cax) S0 u (by omega) hxlr h hS0;rw[e1,e2,e3,e4] at hc89;have hEr:=hEi.right;clear hEi e1 e2 e3 e4;generalize (c_ n (x.1,[])).1=E at *;generalize a6 n (c_ n (x.1,[])).2=TT at *;have hElr:∀ r ∈ E,r.length≤1000000000:=fun r hr=>by have:=oe hEr hr;omega
   have hEL:E.length≤1000000:=by omega
   have hT15:(x.2++TT).length=x.2.length+TT.length:=List.length_append;refine ak (γ:=Option Addr × Nat × Nat × Option Addr × Nat × (Nat→Prop)) (fun (B12,d12,g13,_)=>[(12,.slice B12 TT.length d12),(13,(ah g13))])
    (fun (B12,d12,g13,AE,cE,S1) w'=>Hp w ab w' [an g13 137 (mc n (.slice AE E.length cE)),own 3 1 (.slice B12 TT.length d12) TT.length (aA TT),an g11 184 (gm n (.slice Ax x.1.length cax,.slice Bx x.2.length cx)).toArray,own 184 3 (.slice A9 ts0.length d9) ts0.length (flat (gm n) ts0),an g2 137 (mc n (.slice A R.length ca))] [bf S1 (.slice AE E.length cE) E,iS S0 (ts0++[(Value.slice Ax x.1.length cax,Value.slice Bx x.2.length cx)]) (st0++[x]),sl Sb (.slice Bb best.length db) 1 best.length (aA best)]) ?_ ?_
   ·refine aa (Bi _) ?_;refine fE (H.get 0 rfl) [.int .i64 (n:Int),.slice Ax x.1.length cax] aL az hpart ?_;have hpop:fb S0 w9 (ts0++[(Value.slice Ax x.1.length cax,Value.slice Bx x.2.length cx)]) (st0++[x]):=H.ro 0 rfl;refine aj (hc89 _ (H.rlt _ (.head _)) hpop.pop.2.1) ?_;rintro _ w10 ⟨B12,d12,v',S1,rfl,H2,hS1⟩;obtain ⟨AE,cE,hvE⟩:=(H2.ro 0 rfl).form;subst hvE;have H3:=H.merge H2 (fun r hr g hg=>by
     rw[List.mem_singleton] at hr;subst hr;exact (hS1 g hg).imp id fun h=>⟨_,.head _,h⟩)
    clear H H2;refine H3.alloc 137 dH rfl ?_;clear H3;intro g13 w11 H;refine H.storeAll 0 rfl az rfl (fun v hv=>dc v hv) ?_;clear H;intro w12 H;exact ⟨(B12,d12,g13,AE,cE,S1),⟨rfl,rfl,trivial⟩,H⟩
   clear H hc89;rintro ⟨B12,d12,g13,AE,cE,S1⟩ u w10 H;refine ak (γ:=Option Addr × Nat) (fun (B15,d15)=>[(15,.slice B15 (x.2++TT).length d15)]) (fun (B15,d15) w'=>Hp w ab w' [an g13 137 (mc n (.slice AE E.length cE)),own 184 3 (.slice A9 ts0.length d9) ts0.length (flat (gm n) ts0),an g2 137 (mc n (.slice A R.length ca))] [own 3 1 (.slice B15 (x.2++TT).length d15) (x.2++TT).length (aA (x.2++TT)),bf S1 (.slice AE E.length cE) E,iS S0 (ts0++[(Value.slice Ax x.1.length cax,Value.slice Bx x.2.length cx)]) (st0++[x]),sl Sb (.slice Bb best.length db) 1 best.length (aA best)]) ?_ ?_
   ·refine Hp.dr H dy ?_;clear H;intro g14 w13 H;refine aa (GD _) ?_;refine H.load 3 rfl iD rfl ?_;have hpop:fb S0 w13 (ts0++[(Value.slice Ax x.1.length cax,Value.slice Bx x.2.length cx)]) (st0++[x]):=H.ro 1 rfl;obtain ⟨_,_,Bx',cx',hax,hslx⟩:=hpop.pop;injection hax with hax1 _ hax2;subst hax1;subst hax2;refine Hp.cj H 0 dy rfl (sl.mono hslx (H.rlt _ (.tail _ (.head _)))) (cS _) (by omega) (by omega) ?_;clear H;intro A15 d15 w14 H;refine H.kz 0 dy rfl (bE (H.get 2 rfl)) (cS _) (by omega) (by omega) ?_;clear H;intro B15 d15 w15 H;rw[← hT15,← p4] at H;replace H:=H.freeze;exact ⟨(B15,d15),⟨by rw[hT15];rfl,trivial⟩,(((H.front 4 rfl).front 4 rfl).front 2 rfl).jU⟩
   clear H;rintro ⟨B15,d15⟩ u w11 H;have hM1:∀ (u:World) (L:List cC),Hp w ab u L [own 3 1 (.slice B15 (x.2++TT).length d15) (x.2++TT).length (aA (x.2++TT)),bf S1 (.slice AE E.length cE) E,iS S0 (ts0++[(Value.slice Ax x.1.length cax,Value.slice Bx x.2.length cx)]) (st0++[x]),sl Sb (.slice Bb best.length db) 1 best.length (aA best)]→Hp w ab u L [iS S0 ts0 st0,sl Sb (.slice Bb best.length db) 1 best.length (aA best)]:=fun u L H=>by
    have hpop:fb S0 u (ts0++[(Value.slice Ax x.1.length cax,Value.slice Bx x.2.length cx)]) (st0++[x]):=H.ro 2 rfl;refine (H.pe (iS S0 ts0 st0) (fun g hg=>⟨_,.tail _ (.tail _ (.head _)),hg⟩) hpop.pop.1).ep fun r hr=>?_;rcases List.mem_cons.1 hr with rfl | hr
    ·exact .head _
    ·rw[List.mem_singleton] at hr;subst hr;exact .tail _ (.tail _ (.tail _ (.tail _ (.head _))))
   have hM2:∀ (u:World) (L:List cC),Hp w ab u L [own 3 1 (.slice B15 (x.2++TT).length d15) (x.2++TT).length (aA (x.2++TT)),bf S1 (.slice AE E.length cE) E,iS S0 (ts0++[(Value.slice Ax x.1.length cax,Value.slice Bx x.2.length cx)]) (st0++[x]),sl Sb (.slice Bb best.length db) 1 best.length (aA best)]→Hp w ab u L [iS S0 ts0 st0,sl (fun g=>(Value.slice B15 (x.2++TT).length d15).ownBlock=some g) (.slice B15 (x.2++TT).length d15) 1 (x.2++TT).length (aA (x.2++TT))]:=fun u L H=>by
    have hpop:fb S0 u (ts0++[(Value.slice Ax x.1.length cax,Value.slice Bx x.2.length cx)]) (st0++[x]):=H.ro 2 rfl;have h15:=iv (H.ro 0 rfl);have H2:=H.pe (sl (fun g=>(Value.slice B15 (x.2++TT).length d15).ownBlock=some g) (.slice B15 (x.2++TT).length d15) 1 (x.2++TT).length (aA (x.2++TT))) (fun g hg=>⟨_,.head _,hg⟩) h15;refine (H2.pe (iS S0 ts0 st0) (fun g hg=>⟨_,.tail _ (.tail _ (.tail _ (.head _))),hg⟩) hpop.pop.1).ep fun r hr=>?_;rcases List.mem_cons.1 hr with rfl | hr
    ·exact .head _
    ·rw[List.mem_singleton] at hr;subst hr;exact .tail _ (.head _)
   refine ak (γ:=Unit) (fun _=>[(7,.slice Bb best.length db)]) (fun _ w'=>0<E.length∧Hp w ab w' [an g13 137 (mc n (.slice AE E.length cE)),own 184 3 (.slice A9 ts0.length d9) ts0.length (flat (gm n) ts0),an g2 137 (mc n (.slice A R.length ca))] [own 3 1 (.slice B15 (x.2++TT).length d15) (x.2++TT).length (aA (x.2++TT)),bf S1 (.slice AE E.length cE) E,iS S0 (ts0++[(Value.slice Ax x.1.length cax,Value.slice Bx x.2.length cx)]) (st0++[x]),sl Sb (.slice Bb best.length db) 1 best.length (aA best)]) ?_ ?_
   ·refine aa (cz _) ?_;refine H.load 0 rfl eu rfl ?_;refine ay underlying135 ?_;refine cr (fun h10=>?_) (fun h10=>?_)
    ·have hE0:E=[]:=List.length_eq_zero_iff.1 (by omega);have hd:=hdone hE0;refine ay underlying75 ?_;refine ay underlying75 ?_;refine au (fun h11=>?_) (fun h11=>?_)
     ·rw[if_pos (by omega)] at hd;exact ⟨(A9,d9,ts0,st0,x.2++TT,B15,d15,k,S0,_),pW n st0 x,⟨rfl,rfl,rfl,trivial⟩,⟨⟨by omega,hkm⟩,hd⟩,hM2 _ _ H.forget⟩
     ·rw[if_neg (by omega)] at hd;exact ⟨(A9,d9,ts0,st0,best,Bb,db,k,S0,Sb),pW n st0 x,⟨rfl,rfl,rfl,trivial⟩,⟨⟨hb40,hkm⟩,hd⟩,hM1 _ _ H.forget⟩
    ·exact ⟨(),⟨rfl,trivial⟩,by omega,H⟩
   clear H hdone;rintro ⟨⟩ u w12 ⟨hE0,H⟩;have hbl:=pT E [];have hw2:IntKind.i64.wrap (((x.2++TT).length:Int)+((eC E []:Nat):Int))=(((x.2++TT).length+eC E []:Nat):Int):=by rw[aH (by omega) (by omega)];omega
   refine aw (fun w'=>Hp w ab w' [an g13 137 (mc n (.slice AE E.length cE)),own 184 3 (.slice A9 ts0.length d9) ts0.length (flat (gm n) ts0),an g2 137 (mc n (.slice A R.length ca))] [own 3 1 (.slice B15 (x.2++TT).length d15) (x.2++TT).length (aA (x.2++TT)),bf S1 (.slice AE E.length cE) E,iS S0 (ts0++[(Value.slice Ax x.1.length cax,Value.slice Bx x.2.length cx)]) (st0++[x]),sl Sb (.slice Bb best.length db) 1 best.length (aA best)]) ?_ ?_
   ·refine ay underlying75 ?_;refine H.ai 0 rfl aL az ?_;refine aj (Nt n E _ _ (by omega) hElr (bf.mono (H.ro 1 rfl) (H.rlt _ (.tail _ (.head _))))) ?_;rintro _ w13 ⟨rfl,hk⟩;replace H:=H.same hk;clear hk;refine ay underlying75 ?_;refine au (fun h12=>?_) (fun h12=>?_)
    ·rw[hw2] at h12;exact ⟨(A9,d9,ts0,st0,best,Bb,db,k,S0,Sb),pW n st0 x,⟨rfl,rfl,rfl,trivial⟩,⟨⟨hb40,hkm⟩,hcut (by omega)⟩,hM1 _ _ H.forget⟩
    ·exact ⟨(),trivial,H⟩
   clear H hcut;rintro ⟨⟩ u w13 H;refine aw (fun w'=>k+1≤m∧Hp w ab w' [an g13 137 (mc n (.slice AE E.length cE)),own 184 3 (.slice A9 ts0.length d9) ts0.length (flat (gm n) ts0),an g2 137 (mc n (.slice A R.length ca))] [own 3 1 (.slice B15 (x.2++TT).length d15) (x.2++TT).length (aA (x.2++TT)),bf S1 (.slice AE E.length cE) E,iS S0 (ts0++[(Value.slice Ax x.1.length cax,Value.slice Bx x.2.length cx)]) (st0++[x]),sl Sb (.slice Bb best.length db) 1 best.length (aA best)]) ?_ ?_
   ·refine cr (fun h13=>?_) (fun h13=>?_)
    ·have h13:(k:Int)=(m:Int):=h13;refine ⟨none,0,[],m,6,by rw[← h13];rfl,?_,((H.bx 3 1).only).out⟩;refine .inr (.inr (.inl ⟨hr',hb',rfl,rfl,rfl,?_⟩));rw[Int.toNat_natCast];have:=hfew.steps;have:=Nat.one_le_two_pow (n:=n);omega
    ·have h13:(k:Int)≠(m:Int):=h13;exact ⟨(),trivial,by omega,H⟩
   clear H;rintro ⟨⟩ u w14 ⟨hk1,H⟩;refine ak (γ:=Unit) (fun _=>[(10,.int .i64 ((k+1:Nat):Int))]) (fun _ w'=>Hp w ab w' [an g13 137 (mc n (.slice AE E.length cE)),own 184 3 (.slice A9 ts0.length d9) ts0.length (flat (gm n) ts0),an g2 137 (mc n (.slice A R.length ca))] [own 3 1 (.slice B15 (x.2++TT).length d15) (x.2++TT).length (aA (x.2++TT)),bf S1 (.slice AE E.length cE) E,iS S0 (ts0++[(Value.slice Ax x.1.length cax,Value.slice Bx x.2.length cx)]) (st0++[x]),sl Sb (.slice Bb best.length db) 1 best.length (aA best)]) ⟨(),⟨up (by omega),trivial⟩,H⟩ ?_;clear H;rintro ⟨⟩ u w15 H;refine ak (γ:=Int) (fun c=>[(16,.int .i64 c)]) (fun c w'=>o_ E c∧Hp w ab w' [an g13 137 (mc n (.slice AE E.length cE)),own 184 3 (.slice A9 ts0.length d9) ts0.length (flat (gm n) ts0),an g2 137 (mc n (.slice A R.length ca))] [own 3 1 (.slice B15 (x.2++TT).length d15) (x.2++TT).length (aA (x.2++TT)),bf S1 (.slice AE E.length cE) E,iS S0 (ts0++[(Value.slice Ax x.1.length cax,Value.slice Bx x.2.length cx)]) (st0++[x]),sl Sb (.slice Bb best.length db) 1 best.length (aA best)]) ?_ ?_
   ·refine H.ai 0 rfl aL az ?_;refine aj (c124 n n E _ _ (by omega) hElr hEr (bf.mono (H.ro 1 rfl) (H.rlt _ (.tail _ (.head _))))) ?_;rintro _ w16 ⟨c,rfl,hb,hk⟩;replace H:=H.same hk;clear hk;exact ⟨c,⟨rfl,trivial⟩,hb (yd hEb hE0),H⟩
   clear H;rintro c u w16 ⟨hbusy,H⟩;obtain ⟨hfew2,_,hheft⟩:=hbr c (AZ hbusy);clear hbr;have hstep:∀ (A17:Option Addr) (d17:Nat) (A14:Option Addr) (d14:Nat) (v3 v8:Value) (S3 S8:Nat→Prop) (u:World),Hp w ab u [own 184 3 (.slice A17 (ts0.length+2) d17) (ts0.length+2) (flat (gm n) ts0++(gm n (v3,Value.slice B15 (x.2++TT).length d15)++gm n (v8,Value.slice A14 ((x.2++TT).length+1) d14))),own 3 1 (.slice A14 ((x.2++TT).length+1) d14) ((x.2++TT).length+1) (aA (x.2++TT)++[.int .i64 c]),an g2 137 (mc n (.slice A R.length ca))]
     [bf S8 v8 (aI E c),bf S3 v3 (bh E c),own 3 1 (.slice B15 (x.2++TT).length d15) (x.2++TT).length (aA (x.2++TT)),bf S1 (.slice AE E.length cE) E,iS S0 (ts0++[(Value.slice Ax x.1.length cax,Value.slice Bx x.2.length cx)]) (st0++[x]),sl Sb (.slice Bb best.length db) 1 best.length (aA best)]→
     ∃ S' Sb',Hp w ab u [own 184 3 (.slice A17 (ts0++[(v3,Value.slice B15 (x.2++TT).length d15),(v8,Value.slice A14 ((x.2++TT).length+1) d14)]).length d17) (ts0++[(v3,Value.slice B15 (x.2++TT).length d15),(v8,Value.slice A14 ((x.2++TT).length+1) d14)]).length (flat (gm n) (ts0++[(v3,Value.slice B15 (x.2++TT).length d15),(v8,Value.slice A14 ((x.2++TT).length+1) d14)])),an g2 137 (mc n (.slice A R.length ca))]
      [iS S' (ts0++[(v3,Value.slice B15 (x.2++TT).length d15),(v8,Value.slice A14 ((x.2++TT).length+1) d14)]) (st0++[(bh E c,x.2++TT),(aI E c,(x.2++TT)++[c])]),sl Sb' (.slice Bb best.length db) 1 best.length (aA best)]:=by
    intro A17 d17 A14 d14 v3 v8 S3 S8 u H;have el:(ts0++[(v3,Value.slice B15 (x.2++TT).length d15),(v8,Value.slice A14 ((x.2++TT).length+1) d14)]).length=ts0.length+2:=by simp
    have ef:flat (gm n) (ts0++[(v3,Value.slice B15 (x.2++TT).length d15),(v8,Value.slice A14 ((x.2++TT).length+1) d14)])=flat (gm n) ts0++(gm n (v3,.slice B15 (x.2++TT).length d15)++gm n (v8,.slice A14 ((x.2++TT).length+1) d14)):=by simp only[flat,List.flatMap_append,List.flatMap_cons,List.flatMap_nil,List.append_nil]
    rw[el,ef];have eT:(x.2++TT).length+1=((x.2++TT)++[c]).length:=(show ∀ l:List Int,l.length+1=(l++[c]).length from fun l=>by simp) _;have H2:=(H.front 1 rfl).freeze;have h14:=iv (H2.ro 0 rfl);have h8:er S8 v8 (aI E c) u:=H2.ro 1 rfl;have h3:er S3 v3 (bh E c) u:=H2.ro 2 rfl;have h15:=iv (H2.ro 3 rfl);have hpop:fb S0 u (ts0++[(Value.slice Ax x.1.length cax,Value.slice Bx x.2.length cx)]) (st0++[x]):=H2.ro 5 rfl;have e0:∀ (a b:Value × Value),ts0++[a,b]=(ts0++[a])++[b]:=fun a b=>by simp
    have e0':∀ (a b:aZ × List Int),st0++[a,b]=(st0++[a])++[b]:=fun a b=>by simp
    have hok:fb (CF [own 3 1 (.slice A14 ((x.2++TT).length+1) d14) ((x.2++TT).length+1) (aA (x.2++TT)++[Value.int .i64 c]),bf S8 v8 (aI E c),bf S3 v3 (bh E c),own 3 1 (.slice B15 (x.2++TT).length d15) (x.2++TT).length (aA (x.2++TT)),bf S1 (.slice AE E.length cE) E,iS S0 (ts0++[(Value.slice Ax x.1.length cax,Value.slice Bx x.2.length cx)]) (st0++[x]),sl Sb (.slice Bb best.length db) 1 best.length (aA best)]) u (ts0++[(v3,Value.slice B15 (x.2++TT).length d15),(v8,Value.slice A14 ((x.2++TT).length+1) d14)]) (st0++[(bh E c,x.2++TT),(aI E c,(x.2++TT)++[c])]):=by
     rw[e0,e0'];refine fb.snoc (a:=(v8,_)) (x:=(aI E c,_)) (fb.snoc (a:=(v3,_)) (x:=(bh E c,_)) (hpop.pop.1.mono fun g hg=>⟨_,.tail _ (.tail _ (.tail _ (.tail _ (.tail _ (.head _))))),hg⟩) (bf.mono h3 fun g hg=>⟨_,.tail _ (.tail _ (.head _)),hg⟩) rfl (sl.mono h15 fun g hg=>⟨_,.tail _ (.tail _ (.tail _ (.head _))),hg⟩)) (bf.mono h8 fun g hg=>⟨_,.tail _ (.head _),hg⟩) (B:=A14) (c:=d14) (by rw[← eT]) ?_;rw[← eT,hY];exact sl.mono h14 fun g hg=>⟨_,.head _,hg⟩
    have H4:=H2.pe (iS (CF [own 3 1 (.slice A14 ((x.2++TT).length+1) d14) ((x.2++TT).length+1) (aA (x.2++TT)++[Value.int .i64 c]),bf S8 v8 (aI E c),bf S3 v3 (bh E c),own 3 1 (.slice B15 (x.2++TT).length d15) (x.2++TT).length (aA (x.2++TT)),bf S1 (.slice AE E.length cE) E,iS S0 (ts0++[(Value.slice Ax x.1.length cax,Value.slice Bx x.2.length cx)]) (st0++[x]),sl Sb (.slice Bb best.length db) 1 best.length (aA best)]) (ts0++[(v3,Value.slice B15 (x.2++TT).length d15),(v8,Value.slice A14 ((x.2++TT).length+1) d14)]) (st0++[(bh E c,x.2++TT),(aI E c,(x.2++TT)++[c])])) (fun g hg=>hg) hok;refine ⟨(CF [own 3 1 (.slice A14 ((x.2++TT).length+1) d14) ((x.2++TT).length+1) (aA (x.2++TT)++[Value.int .i64 c]),bf S8 v8 (aI E c),bf S3 v3 (bh E c),own 3 1 (.slice B15 (x.2++TT).length d15) (x.2++TT).length (aA (x.2++TT)),bf S1 (.slice AE E.length cE) E,iS S0 (ts0++[(Value.slice Ax x.1.length cax,Value.slice Bx x.2.length cx)]) (st0++[x]),sl Sb (.slice Bb best.length db) 1 best.length (aA best)]),Sb,H4.ep fun r hr=>?_⟩;rcases List.mem_cons.1 hr with rfl | hr
    ·exact .head _
    ·rw[List.mem_singleton] at hr;subst hr;exact .tail _ (.tail _ (.tail _ (.tail _ (.tail _ (.tail _ (.tail _ (.head _)))))))
   have encP_one:∀ (A3:Option Addr) (l3 c3:Nat) (A8:Option Addr) (l8 c8:Nat) (A14:Option Addr) (l14 d14:Nat),∀ v ∈ (nB n A3 l3 c3 (.slice B15 (x.2++TT).length d15) (.slice A8 l8 c8,.slice A14 l14 d14)).toList,v.oneCell'=true:=fun A3 l3 c3 A8 l8 c8 A14 l14 d14 v hv=>by
    simp[nB,gm] at hv;rcases hv with rfl | rfl | rfl | rfl | rfl | rfl <;> rfl
   have hdl:=Ex E c;have hwlE:=rK E c;refine ia (fun u=>Hp w ab u [an g13 137 (mc n (.slice AE E.length cE))] [own 3 1 (.slice B15 (x.2++TT).length d15) (x.2++TT).length (aA (x.2++TT)),bf S1 (.slice AE E.length cE) E,iS S0 (ts0++[(Value.slice Ax x.1.length cax,Value.slice Bx x.2.length cx)]) (st0++[x]),sl Sb (.slice Bb best.length db) 1 best.length (aA best)])
    [([3,8,9,11,13,14,16,17],[0,1,2,4,6,7,10,12,3,5,8,9,11,13,14,15,16,17,18]),([3,8,9,13,11,14,16,17],[0,1,2,4,6,7,10,12,3,5,8,9,13,11,14,15,16,17,18]),([3,8,13,9,11,14,16,17],[0,1,2,4,6,7,10,12,3,5,8,13,9,11,14,15,16,17,18]),([3,9,8,11,13,14,16,17],[0,1,2,4,6,7,10,12,3,5,9,8,11,13,14,15,16,17,18]),([3,9,8,13,11,14,16,17],[0,1,2,4,6,7,10,12,3,5,9,8,13,11,14,15,16,17,18]),([3,9,13,8,11,14,16,17],[0,1,2,4,6,7,10,12,3,5,9,13,8,11,14,15,16,17,18]),([3,13,8,9,11,14,16,17],[0,1,2,4,6,7,10,12,3,5,13,8,9,11,14,15,16,17,18]),([3,13,9,8,11,14,16,17],[0,1,2,4,6,7,10,12,3,5,13,9,8,11,14,15,16,17,18]),([9,3,8,11,13,14,16,17],[0,1,2,4,6,7,10,12,9,3,5,8,11,13,14,15,16,17,18]),([9,3,8,13,11,14,16,17],[0,1,2,4,6,7,10,12,9,3,5,8,13,11,14,15,16,17,18]),([9,3,13,8,11,14,16,17],[0,1,2,4,6,7,10,12,9,3,5,13,8,11,14,15,16,17,18]),([9,13,3,8,11,14,16,17],[0,1,2,4,6,7,10,12,9,13,3,5,8,11,14,15,16,17,18]),([13,3,8,9,11,14,16,17],[0,1,2,4,6,7,10,12,13,3,5,8,9,11,14,15,16,17,18]),([13,3,9,8,11,14,16,17],[0,1,2,4,6,7,10,12,13,3,5,9,8,11,14,15,16,17,18]),([13,9,3,8,11,14,16,17],[0,1,2,4,6,7,10,12,13,9,3,5,8,11,14,15,16,17,18])] eS (by kernel_rfl) ((H.front 0 rfl).only.same (aS.drew _)) ?_
   replace H:=(H.same (aS.drew _));intro y hy;simp only[List.mem_cons,List.not_mem_nil,or_false] at hy;rcases hy with rfl | rfl | rfl | rfl | rfl | rfl | rfl | rfl | rfl | rfl | rfl | rfl | rfl | rfl | rfl
   ·refine quiet _ (fun w H=>H.ai 0 rfl aL az ae) ?_;refine quiet _ (fun w H=>H.ai 0 rfl aL az ae) ?_;refine aj (pb n E c _ S1 _ (by omega) hElr (H.ro 1 rfl) (H.rlt _ (.tail _ (.head _)))) ?_;rintro _ w39 ⟨v3,rfl,hn⟩;obtain ⟨S3,H2,_⟩:=H.fW (.tail _ (.head _)) hn;clear H;have H:=H2;clear H2;obtain ⟨A3,c3,hv3⟩:=(H.ro 0 rfl).form;subst hv3;refine ⟨.inl (H.front 0 rfl).only.ao,?_⟩;refine quiet _ (fun w H=>bG ae) ?_;refine aj (oD n E c _ S1 _ (by omega) hElr (H.ro 2 rfl) (H.rlt _ (.tail _ (.tail _ (.head _))))) ?_;rintro _ w41 ⟨v8,rfl,hn⟩;obtain ⟨S8,H2,_⟩:=H.fW (.tail _ (.tail _ (.head _))) hn;clear H;have H:=H2;clear H2;obtain ⟨A8,c8,hv8⟩:=(H.ro 0 rfl).form;subst hv8;refine ⟨.inl (H.front 0 rfl).only.ao.ao,?_⟩;refine Hp.dr H dy ?_;clear H;intro g9 w42 H;refine ⟨.inl (H.front 1 rfl).only.ao.ao,?_⟩;refine Hp.cj H 0 dy rfl (bE (H.ro 2 rfl)) (cS _) (by omega) (by omega) ?_;clear H;intro A11 d11 w43 H;refine ⟨.inl (H.front 1 rfl).only.ao.ao,?_⟩;refine H.aX dy rfl ?_;clear H;intro gc w44 H;refine ⟨.inl (H.front 2 rfl).only.ao.ao,?_⟩;refine H.aG 1 0 dy rfl rfl rfl (fun u hu=>by rw[List.mem_singleton.1 hu];rfl) (by omega) (by omega) ?_;clear H;intro A14 d14 w45 H;refine ⟨.inl (H.front 2 rfl).only.ao.ao,?_⟩;refine quiet _ (fun w H=>bG ae) ?_;refine H.bg gT (cs:=nB n A3 (bh E c).length c3 (.slice B15 (x.2++TT).length d15) (.slice A8 (aI E c).length c8,.slice A14 ((x.2++TT).length+1) d14)) (by decide) (by decide) (by kernel_rfl) ?_;clear H;intro g16 w47 H;refine ⟨.inl (H.front 3 rfl).only.ao.ao,?_⟩;refine H.aG 4 0 gT rfl rfl rfl (encP_one _ _ _ _ _ _ _ _ _) (by omega) (by omega) ?_;clear H;intro A17 d17 w48 H;refine ⟨.inl (H.front 3 rfl).only.ao.ao,?_⟩;obtain ⟨S',Sb',H'⟩:=hstep _ _ _ _ _ _ _ _ _ ((((H.front 5 rfl).front 3 rfl).front 5 rfl).jU);exact ⟨(_,_,_,_,best,Bb,db,k+1,S',Sb'),hheft,⟨by simp;rfl,rfl,rfl,trivial⟩,⟨⟨hb40,by omega⟩,hfew2⟩,H'⟩
   ·refine quiet _ (fun w H=>H.ai 0 rfl aL az ae) ?_;refine quiet _ (fun w H=>H.ai 0 rfl aL az ae) ?_;refine aj (pb n E c _ S1 _ (by omega) hElr (H.ro 1 rfl) (H.rlt _ (.tail _ (.head _)))) ?_;rintro _ w39 ⟨v3,rfl,hn⟩;obtain ⟨S3,H2,_⟩:=H.fW (.tail _ (.head _)) hn;clear H;have H:=H2;clear H2;obtain ⟨A3,c3,hv3⟩:=(H.ro 0 rfl).form;subst hv3;refine ⟨.inl (H.front 0 rfl).only.ao,?_⟩;refine quiet _ (fun w H=>bG ae) ?_;refine aj (oD n E c _ S1 _ (by omega) hElr (H.ro 2 rfl) (H.rlt _ (.tail _ (.tail _ (.head _))))) ?_;rintro _ w41 ⟨v8,rfl,hn⟩;obtain ⟨S8,H2,_⟩:=H.fW (.tail _ (.tail _ (.head _))) hn;clear H;have H:=H2;clear H2;obtain ⟨A8,c8,hv8⟩:=(H.ro 0 rfl).form;subst hv8;refine ⟨.inl (H.front 0 rfl).only.ao.ao,?_⟩;refine Hp.dr H dy ?_;clear H;intro g9 w42 H;refine ⟨.inl (H.front 1 rfl).only.ao.ao,?_⟩;refine H.aX dy rfl ?_;clear H;intro gc w43 H;refine ⟨.inl (H.front 2 rfl).only.ao.ao,?_⟩;refine Hp.cj H 1 dy rfl (bE (H.ro 2 rfl)) (cS _) (by omega) (by omega) ?_;clear H;intro A11 d11 w44 H;refine ⟨.inl (H.front 2 rfl).only.ao.ao,?_⟩;refine H.aG 1 0 dy rfl rfl rfl (fun u hu=>by rw[List.mem_singleton.1 hu];rfl) (by omega) (by omega) ?_;clear H;intro A14 d14 w45 H;refine ⟨.inl (H.front 2 rfl).only.ao.ao,?_⟩;refine quiet _ (fun w H=>bG ae) ?_;refine H.bg gT (cs:=nB n A3 (bh E c).length c3 (.slice B15 (x.2++TT).length d15) (.slice A8 (aI E c).length c8,.slice A14 ((x.2++TT).length+1) d14)) (by decide) (by decide) (by kernel_rfl) ?_;clear H;intro g16 w47 H;refine ⟨.inl (H.front 3 rfl).only.ao.ao,?_⟩;refine H.aG 4 0 gT rfl rfl rfl (encP_one _ _ _ _ _ _ _ _ _) (by omega) (by omega) ?_;clear H;intro A17 d17 w48 H;refine ⟨.inl (H.front 3 rfl).only.ao.ao,?_⟩;obtain ⟨S',Sb',H'⟩:=hstep _ _ _ _ _ _ _ _ _ ((((H.front 5 rfl).front 3 rfl).front 5 rfl).jU);exact ⟨(_,_,_,_,best,Bb,db,k+1,S',Sb'),hheft,⟨by simp;rfl,rfl,rfl,trivial⟩,⟨⟨hb40,by omega⟩,hfew2⟩,H'⟩
   ·refine quiet _ (fun w H=>H.ai 0 rfl aL az ae) ?_;refine quiet _ (fun w H=>H.ai 0 rfl aL az ae) ?_;refine aj (pb n E c _ S1 _ (by omega) hElr (H.ro 1 rfl) (H.rlt _ (.tail _ (.head _)))) ?_;rintro _ w39 ⟨v3,rfl,hn⟩;obtain ⟨S3,H2,_⟩:=H.fW (.tail _ (.head _)) hn;clear H;have H:=H2;clear H2;obtain ⟨A3,c3,hv3⟩:=(H.ro 0 rfl).form;subst hv3;refine ⟨.inl (H.front 0 rfl).only.ao,?_⟩;refine quiet _ (fun w H=>bG ae) ?_;refine aj (oD n E c _ S1 _ (by omega) hElr (H.ro 2 rfl) (H.rlt _ (.tail _ (.tail _ (.head _))))) ?_;rintro _ w41 ⟨v8,rfl,hn⟩;obtain ⟨S8,H2,_⟩:=H.fW (.tail _ (.tail _ (.head _))) hn;clear H;have H:=H2;clear H2;obtain ⟨A8,c8,hv8⟩:=(H.ro 0 rfl).form;subst hv8;refine ⟨.inl (H.front 0 rfl).only.ao.ao,?_⟩;refine H.aX dy rfl ?_;clear H;intro gc w42 H;refine ⟨.inl (H.front 1 rfl).only.ao.ao,?_⟩;refine Hp.dr H dy ?_;clear H;intro g9 w43 H;refine ⟨.inl (H.front 2 rfl).only.ao.ao,?_⟩;refine Hp.cj H 0 dy rfl (bE (H.ro 2 rfl)) (cS _) (by omega) (by omega) ?_;clear H;intro A11 d11 w44 H;refine ⟨.inl (H.front 2 rfl).only.ao.ao,?_⟩;refine H.aG 0 1 dy rfl rfl rfl (fun u hu=>by rw[List.mem_singleton.1 hu];rfl) (by omega) (by omega) ?_;clear H;intro A14 d14 w45 H;refine ⟨.inl (H.front 2 rfl).only.ao.ao,?_⟩;refine quiet _ (fun w H=>bG ae) ?_;refine H.bg gT (cs:=nB n A3 (bh E c).length c3 (.slice B15 (x.2++TT).length d15) (.slice A8 (aI E c).length c8,.slice A14 ((x.2++TT).length+1) d14)) (by decide) (by decide) (by kernel_rfl) ?_;clear H;intro g16 w47 H;refine ⟨.inl (H.front 3 rfl).only.ao.ao,?_⟩;refine H.aG 4 0 gT rfl rfl rfl (encP_one _ _ _ _ _ _ _ _ _) (by omega) (by omega) ?_;clear H;intro A17 d17 w48 H;refine ⟨.inl (H.front 3 rfl).only.ao.ao,?_⟩;obtain ⟨S',Sb',H'⟩:=hstep _ _ _ _ _ _ _ _ _ ((((H.front 5 rfl).front 2 rfl).front 5 rfl).jU);exact ⟨(_,_,_,_,best,Bb,db,k+1,S',Sb'),hheft,⟨by simp;rfl,rfl,rfl,trivial⟩,⟨⟨hb40,by omega⟩,hfew2⟩,H'⟩
   ·refine quiet _ (fun w H=>H.ai 0 rfl aL az ae) ?_;refine quiet _ (fun w H=>H.ai 0 rfl aL az ae) ?_;refine aj (pb n E c _ S1 _ (by omega) hElr (H.ro 1 rfl) (H.rlt _ (.tail _ (.head _)))) ?_;rintro _ w39 ⟨v3,rfl,hn⟩;obtain ⟨S3,H2,_⟩:=H.fW (.tail _ (.head _)) hn;clear H;have H:=H2;clear H2;obtain ⟨A3,c3,hv3⟩:=(H.ro 0 rfl).form;subst hv3;refine ⟨.inl (H.front 0 rfl).only.ao,?_⟩;refine quiet _ (fun w H=>bG ae) ?_;refine Hp.dr H dy ?_;clear H;intro g9 w41 H;refine ⟨.inl (H.front 1 rfl).only.ao,?_⟩;refine aj (oD n E c _ S1 _ (by omega) hElr (H.ro 2 rfl) (H.rlt _ (.tail _ (.tail _ (.head _))))) ?_;rintro _ w42 ⟨v8,rfl,hn⟩;obtain ⟨S8,H2,_⟩:=H.fW (.tail _ (.tail _ (.head _))) hn;clear H;have H:=H2;clear H2;obtain ⟨A8,c8,hv8⟩:=(H.ro 0 rfl).form;subst hv8;refine ⟨.inl (H.front 1 rfl).only.ao.ao,?_⟩;refine Hp.cj H 0 dy rfl (bE (H.ro 2 rfl)) (cS _) (by omega) (by omega) ?_;clear H;intro A11 d11 w43 H;refine ⟨.inl (H.front 1 rfl).only.ao.ao,?_⟩;refine H.aX dy rfl ?_;clear H;intro gc w44 H;refine ⟨.inl (H.front 2 rfl).only.ao.ao,?_⟩;refine H.aG 1 0 dy rfl rfl rfl (fun u hu=>by rw[List.mem_singleton.1 hu];rfl) (by omega) (by omega) ?_;clear H;intro A14 d14 w45 H;refine ⟨.inl (H.front 2 rfl).only.ao.ao,?_⟩;refine quiet _ (fun w H=>bG ae) ?_;refine H.bg gT (cs:=nB n A3 (bh E c).length c3 (.slice B15 (x.2++TT).length d15) (.slice A8 (aI E c).length c8,.slice A14 ((x.2++TT).length+1) d14)) (by decide) (by decide) (by kernel_rfl) ?_;clear H;intro g16 w47 H;refine ⟨.inl (H.front 3 rfl).only.ao.ao,?_⟩;refine H.aG 4 0 gT rfl rfl rfl (encP_one _ _ _ _ _ _ _ _ _) (by omega) (by omega) ?_;clear H;intro A17 d17 w48 H;refine ⟨.inl (H.front 3 rfl).only.ao.ao,?_⟩;obtain ⟨S',Sb',H'⟩:=hstep _ _ _ _ _ _ _ _ _ ((((H.front 5 rfl).front 3 rfl).front 5 rfl).jU);exact ⟨(_,_,_,_,best,Bb,db,k+1,S',Sb'),hheft,⟨by simp;rfl,rfl,rfl,trivial⟩,⟨⟨hb40,by omega⟩,hfew2⟩,H'⟩
   ·refine quiet _ (fun w H=>H.ai 0 rfl aL az ae) ?_;refine quiet _ (fun w H=>H.ai 0 rfl aL az ae) ?_;refine aj (pb n E c _ S1 _ (by omega) hElr (H.ro 1 rfl) (H.rlt _ (.tail _ (.head _)))) ?_;rintro _ w39 ⟨v3,rfl,hn⟩;obtain ⟨S3,H2,_⟩:=H.fW (.tail _ (.head _)) hn;clear H;have H:=H2;clear H2;obtain ⟨A3,c3,hv3⟩:=(H.ro 0 rfl).form;subst hv3;refine ⟨.inl (H.front 0 rfl).only.ao,?_⟩;refine quiet _ (fun w H=>bG ae) ?_;refine Hp.dr H dy ?_;clear H;intro g9 w41 H;refine ⟨.inl (H.front 1 rfl).only.ao,?_⟩;refine aj (oD n E c _ S1 _ (by omega) hElr (H.ro 2 rfl) (H.rlt _ (.tail _ (.tail _ (.head _))))) ?_;rintro _ w42 ⟨v8,rfl,hn⟩;obtain ⟨S8,H2,_⟩:=H.fW (.tail _ (.tail _ (.head _))) hn;clear H;have H:=H2;clear H2;obtain ⟨A8,c8,hv8⟩:=(H.ro 0 rfl).form;subst hv8;refine ⟨.inl (H.front 1 rfl).only.ao.ao,?_⟩;refine H.aX dy rfl ?_;clear H;intro gc w43 H;refine ⟨.inl (H.front 2 rfl).only.ao.ao,?_⟩;refine Hp.cj H 1 dy rfl (bE (H.ro 2 rfl)) (cS _) (by omega) (by omega) ?_;clear H;intro A11 d11 w44 H;refine ⟨.inl (H.front 2 rfl).only.ao.ao,?_⟩;refine H.aG 1 0 dy rfl rfl rfl (fun u hu=>by rw[List.mem_singleton.1 hu];rfl) (by omega) (by omega) ?_;clear H;intro A14 d14 w45 H;refine ⟨.inl (H.front 2 rfl).only.ao.ao,?_⟩;refine quiet _ (fun w H=>bG ae) ?_;refine H.bg gT (cs:=nB n A3 (bh E c).length c3 (.slice B15 (x.2++TT).length d15) (.slice A8 (aI E c).length c8,.slice A14 ((x.2++TT).length+1) d14)) (by decide) (by decide) (by kernel_rfl) ?_;clear H;intro g16 w47 H;refine ⟨.inl (H.front 3 rfl).only.ao.ao,?_⟩;refine H.aG 4 0 gT rfl rfl rfl (encP_one _ _ _ _ _ _ _ _ _) (by omega) (by omega) ?_;clear H;intro A17 d17 w48 H;refine ⟨.inl (H.front 3 rfl).only.ao.ao,?_⟩;obtain ⟨S',Sb',H'⟩:=hstep _ _ _ _ _ _ _ _ _ ((((H.front 5 rfl).front 3 rfl).front 5 rfl).jU);exact ⟨(_,_,_,_,best,Bb,db,k+1,S',Sb'),hheft,⟨by simp;rfl,rfl,rfl,trivial⟩,⟨⟨hb40,by omega⟩,hfew2⟩,H'⟩
   ·refine quiet _ (fun w H=>H.ai 0 rfl aL az ae) ?_;refine quiet _ (fun w H=>H.ai 0 rfl aL az ae) ?_;refine aj (pb n E c _ S1 _ (by omega) hElr (H.ro 1 rfl) (H.rlt _ (.tail _ (.head _)))) ?_;rintro _ w39 ⟨v3,rfl,hn⟩;obtain ⟨S3,H2,_⟩:=H.fW (.tail _ (.head _)) hn;clear H;have H:=H2;clear H2;obtain ⟨A3,c3,hv3⟩:=(H.ro 0 rfl).form;subst hv3;refine ⟨.inl (H.front 0 rfl).only.ao,?_⟩;refine quiet _ (fun w H=>bG ae) ?_;refine Hp.dr H dy ?_;clear H;intro g9 w41 H;refine ⟨.inl (H.front 1 rfl).only.ao,?_⟩;refine H.aX dy rfl ?_;clear H;intro gc w42 H;refine ⟨.inl (H.front 2 rfl).only.ao,?_⟩;refine aj (oD n E c _ S1 _ (by omega) hElr (H.ro 2 rfl) (H.rlt _ (.tail _ (.tail _ (.head _))))) ?_;rintro _ w43 ⟨v8,rfl,hn⟩;obtain ⟨S8,H2,_⟩:=H.fW (.tail _ (.tail _ (.head _))) hn;clear H;have H:=H2;clear H2;obtain ⟨A8,c8,hv8⟩:=(H.ro 0 rfl).form;subst hv8;refine ⟨.inl (H.front 2 rfl).only.ao.ao,?_⟩;refine Hp.cj H 1 dy rfl (bE (H.ro 2 rfl)) (cS _) (by omega) (by omega) ?_;clear H;intro A11 d11 w44 H;refine ⟨.inl (H.front 2 rfl).only.ao.ao,?_⟩;refine H.aG 1 0 dy rfl rfl rfl (fun u hu=>by rw[List.mem_singleton.1 hu];rfl) (by omega) (by omega) ?_;clear H;intro A14 d14 w45 H;refine ⟨.inl (H.front 2 rfl).only.ao.ao,?_⟩;refine quiet _ (fun w H=>bG ae) ?_;refine H.bg gT (cs:=nB n A3 (bh E c).length c3 (.slice B15 (x.2++TT).length d15) (.slice A8 (aI E c).length c8,.slice A14 ((x.2++TT).length+1) d14)) (by decide) (by decide) (by kernel_rfl) ?_;clear H;intro g16 w47 H;refine ⟨.inl (H.front 3 rfl).only.ao.ao,?_⟩;refine H.aG 4 0 gT rfl rfl rfl (encP_one _ _ _ _ _ _ _ _ _) (by omega) (by omega) ?_;clear H;intro A17 d17 w48 H;refine ⟨.inl (H.front 3 rfl).only.ao.ao,?_⟩;obtain ⟨S',Sb',H'⟩:=hstep _ _ _ _ _ _ _ _ _ ((((H.front 5 rfl).front 3 rfl).front 5 rfl).jU);exact ⟨(_,_,_,_,best,Bb,db,k+1,S',Sb'),hheft,⟨by simp;rfl,rfl,rfl,trivial⟩,⟨⟨hb40,by omega⟩,hfew2⟩,H'⟩
   ·refine quiet _ (fun w H=>H.ai 0 rfl aL az ae) ?_;refine quiet _ (fun w H=>H.ai 0 rfl aL az ae) ?_;refine aj (pb n E c _ S1 _ (by omega) hElr (H.ro 1 rfl) (H.rlt _ (.tail _ (.head _)))) ?_;rintro _ w39 ⟨v3,rfl,hn⟩;obtain ⟨S3,H2,_⟩:=H.fW (.tail _ (.head _)) hn;clear H;have H:=H2;clear H2;obtain ⟨A3,c3,hv3⟩:=(H.ro 0 rfl).form;subst hv3;refine ⟨.inl (H.front 0 rfl).only.ao,?_⟩;refine quiet _ (fun w H=>bG ae) ?_;refine H.aX dy rfl ?_;clear H;intro gc w41 H;refine ⟨.inl (H.front 1 rfl).only.ao,?_⟩;refine aj (oD n E c _ S1 _ (by omega) hElr (H.ro 2 rfl) (H.rlt _ (.tail _ (.tail _ (.head _))))) ?_;rintro _ w42 ⟨v8,rfl,hn⟩;obtain ⟨S8,H2,_⟩:=H.fW (.tail _ (.tail _ (.head _))) hn;clear H;have H:=H2;clear H2;obtain ⟨A8,c8,hv8⟩:=(H.ro 0 rfl).form;subst hv8;refine ⟨.inl (H.front 1 rfl).only.ao.ao,?_⟩;refine Hp.dr H dy ?_;clear H;intro g9 w43 H;refine ⟨.inl (H.front 2 rfl).only.ao.ao,?_⟩;refine Hp.cj H 0 dy rfl (bE (H.ro 2 rfl)) (cS _) (by omega) (by omega) ?_;clear H;intro A11 d11 w44 H;refine ⟨.inl (H.front 2 rfl).only.ao.ao,?_⟩;refine H.aG 0 1 dy rfl rfl rfl (fun u hu=>by rw[List.mem_singleton.1 hu];rfl) (by omega) (by omega) ?_;clear H;intro A14 d14 w45 H;refine ⟨.inl (H.front 2 rfl).only.ao.ao,?_⟩;refine quiet _ (fun w H=>bG ae) ?_;refine H.bg gT (cs:=nB n A3 (bh E c).length c3 (.slice B15 (x.2++TT).length d15) (.slice A8 (aI E c).length c8,.slice A14 ((x.2++TT).length+1) d14)) (by decide) (by decide) (by kernel_rfl) ?_;clear H;intro g16 w47 H;refine ⟨.inl (H.front 3 rfl).only.ao.ao,?_⟩;refine H.aG 4 0 gT rfl rfl rfl (encP_one _ _ _ _ _ _ _ _ _) (by omega) (by omega) ?_;clear H;intro A17 d17 w48 H;refine ⟨.inl (H.front 3 rfl).only.ao.ao,?_⟩;obtain ⟨S',Sb',H'⟩:=hstep _ _ _ _ _ _ _ _ _ ((((H.front 5 rfl).front 2 rfl).front 5 rfl).jU);exact ⟨(_,_,_,_,best,Bb,db,k+1,S',Sb'),hheft,⟨by simp;rfl,rfl,rfl,trivial⟩,⟨⟨hb40,by omega⟩,hfew2⟩,H'⟩
   ·refine quiet _ (fun w H=>H.ai 0 rfl aL az ae) ?_;refine quiet _ (fun w H=>H.ai 0 rfl aL az ae) ?_;refine aj (pb n E c _ S1 _ (by omega) hElr (H.ro 1 rfl) (H.rlt _ (.tail _ (.head _)))) ?_;rintro _ w39 ⟨v3,rfl,hn⟩;obtain ⟨S3,H2,_⟩:=H.fW (.tail _ (.head _)) hn;clear H;have H:=H2;clear H2;obtain ⟨A3,c3,hv3⟩:=(H.ro 0 rfl).form;subst hv3;refine ⟨.inl (H.front 0 rfl).only.ao,?_⟩;refine quiet _ (fun w H=>bG ae) ?_;refine H.aX dy rfl ?_;clear H;intro gc w41 H;refine ⟨.inl (H.front 1 rfl).only.ao,?_⟩;refine Hp.dr H dy ?_;clear H;intro g9 w42 H;refine ⟨.inl (H.front 2 rfl).only.ao,?_⟩;refine aj (oD n E c _ S1 _ (by omega) hElr (H.ro 2 rfl) (H.rlt _ (.tail _ (.tail _ (.head _))))) ?_;rintro _ w43 ⟨v8,rfl,hn⟩;obtain ⟨S8,H2,_⟩:=H.fW (.tail _ (.tail _ (.head _))) hn;clear H;have H:=H2;clear H2;obtain ⟨A8,c8,hv8⟩:=(H.ro 0 rfl).form;subst hv8;refine ⟨.inl (H.front 2 rfl).only.ao.ao,?_⟩;refine Hp.cj H 0 dy rfl (bE (H.ro 2 rfl)) (cS _) (by omega) (by omega) ?_;clear H;intro A11 d11 w44 H;refine ⟨.inl (H.front 2 rfl).only.ao.ao,?_⟩;refine H.aG 0 1 dy rfl rfl rfl (fun u hu=>by rw[List.mem_singleton.1 hu];rfl) (by omega) (by omega) ?_;clear H;intro A14 d14 w45 H;refine ⟨.inl (H.front 2 rfl).only.ao.ao,?_⟩;refine quiet _ (fun w H=>bG ae) ?_;refine H.bg gT (cs:=nB n A3 (bh E c).length c3 (.slice B15 (x.2++TT).length d15) (.slice A8 (aI E c).length c8,.slice A14 ((x.2++TT).length+1) d14)) (by decide) (by decide) (by kernel_rfl) ?_;clear H;intro g16 w47 H;refine ⟨.inl (H.front 3 rfl).only.ao.ao,?_⟩;refine H.aG 4 0 gT rfl rfl rfl (encP_one _ _ _ _ _ _ _ _ _) (by omega) (by omega) ?_;clear H;intro A17 d17 w48 H;refine ⟨.inl (H.front 3 rfl).only.ao.ao,?_⟩;obtain ⟨S',Sb',H'⟩:=hstep _ _ _ _ _ _ _ _ _ ((((H.front 5 rfl).front 2 rfl).front 5 rfl).jU);exact ⟨(_,_,_,_,best,Bb,db,k+1,S',Sb'),hheft,⟨by simp;rfl,rfl,rfl,trivial⟩,⟨⟨hb40,by omega⟩,hfew2⟩,H'⟩
   ·refine quiet _ (fun w H=>H.ai 0 rfl aL az ae) ?_;refine quiet _ (fun w H=>H.ai 0 rfl aL az ae) ?_;refine Hp.dr H dy ?_;clear H;intro g9 w39 H;refine ⟨.inl (H.front 1 rfl).only,?_⟩;refine aj (pb n E c _ S1 _ (by omega) hElr (H.ro 1 rfl) (H.rlt _ (.tail _ (.head _)))) ?_;rintro _ w40 ⟨v3,rfl,hn⟩;obtain ⟨S3,H2,_⟩:=H.fW (.tail _ (.head _)) hn;clear H;have H:=H2;clear H2;obtain ⟨A3,c3,hv3⟩:=(H.ro 0 rfl).form;subst hv3;refine ⟨.inl (H.front 1 rfl).only.ao,?_⟩;refine quiet _ (fun w H=>bG ae) ?_;refine aj (oD n E c _ S1 _ (by omega) hElr (H.ro 2 rfl) (H.rlt _ (.tail _ (.tail _ (.head _))))) ?_;rintro _ w42 ⟨v8,rfl,hn⟩;obtain ⟨S8,H2,_⟩:=H.fW (.tail _ (.tail _ (.head _))) hn;clear H;have H:=H2;clear H2;obtain ⟨A8,c8,hv8⟩:=(H.ro 0 rfl).form;subst hv8;refine ⟨.inl (H.front 1 rfl).only.ao.ao,?_⟩;refine Hp.cj H 0 dy rfl (bE (H.ro 2 rfl)) (cS _) (by omega) (by omega) ?_;clear H;intro A11 d11 w43 H;refine ⟨.inl (H.front 1 rfl).only.ao.ao,?_⟩;refine H.aX dy rfl ?_;clear H;intro gc w44 H;refine ⟨.inl (H.front 2 rfl).only.ao.ao,?_⟩;refine H.aG 1 0 dy rfl rfl rfl (fun u hu=>by rw[List.mem_singleton.1 hu];rfl) (by omega) (by omega) ?_;clear H;intro A14 d14 w45 H;refine ⟨.inl (H.front 2 rfl).only.ao.ao,?_⟩;refine quiet _ (fun w H=>bG ae) ?_;refine H.bg gT (cs:=nB n A3 (bh E c).length c3 (.slice B15 (x.2++TT).length d15) (.slice A8 (aI E c).length c8,.slice A14 ((x.2++TT).length+1) d14)) (by decide) (by decide) (by kernel_rfl) ?_;clear H;intro g16 w47 H;refine ⟨.inl (H.front 3 rfl).only.ao.ao,?_⟩;refine H.aG 4 0 gT rfl rfl rfl (encP_one _ _ _ _ _ _ _ _ _) (by omega) (by omega) ?_;clear H;intro A17 d17 w48 H;refine ⟨.inl (H.front 3 rfl).only.ao.ao,?_⟩;obtain ⟨S',Sb',H'⟩:=hstep _ _ _ _ _ _ _ _ _ ((((H.front 5 rfl).front 3 rfl).front 5 rfl).jU);exact ⟨(_,_,_,_,best,Bb,db,k+1,S',Sb'),hheft,⟨by simp;rfl,rfl,rfl,trivial⟩,⟨⟨hb40,by omega⟩,hfew2⟩,H'⟩
   ·refine quiet _ (fun w H=>H.ai 0 rfl aL az ae) ?_;refine quiet _ (fun w H=>H.ai 0 rfl aL az ae) ?_;refine Hp.dr H dy ?_;clear H;intro g9 w39 H;refine ⟨.inl (H.front 1 rfl).only,?_⟩;refine aj (pb n E c _ S1 _ (by omega) hElr (H.ro 1 rfl) (H.rlt _ (.tail _ (.head _)))) ?_;rintro _ w40 ⟨v3,rfl,hn⟩;obtain ⟨S3,H2,_⟩:=H.fW (.tail _ (.head _)) hn;clear H;have H:=H2;clear H2;obtain ⟨A3,c3,hv3⟩:=(H.ro 0 rfl).form;subst hv3;refine ⟨.inl (H.front 1 rfl).only.ao,?_⟩;refine quiet _ (fun w H=>bG ae) ?_;refine aj (oD n E c _ S1 _ (by omega) hElr (H.ro 2 rfl) (H.rlt _ (.tail _ (.tail _ (.head _))))) ?_;rintro _ w42 ⟨v8,rfl,hn⟩;obtain ⟨S8,H2,_⟩:=H.fW (.tail _ (.tail _ (.head _))) hn;clear H;have H:=H2;clear H2;obtain ⟨A8,c8,hv8⟩:=(H.ro 0 rfl).form;subst hv8;refine ⟨.inl (H.front 1 rfl).only.ao.ao,?_⟩;refine H.aX dy rfl ?_;clear H;intro gc w43 H;refine ⟨.inl (H.front 2 rfl).only.ao.ao,?_⟩;refine Hp.cj H 1 dy rfl (bE (H.ro 2 rfl)) (cS _) (by omega) (by omega) ?_;clear H;intro A11 d11 w44 H;refine ⟨.inl (H.front 2 rfl).only.ao.ao,?_⟩;refine H.aG 1 0 dy rfl rfl rfl (fun u hu=>by rw[List.mem_singleton.1 hu];rfl) (by omega) (by omega) ?_;clear H;intro A14 d14 w45 H;refine ⟨.inl (H.front 2 rfl).only.ao.ao,?_⟩;refine quiet _ (fun w H=>bG ae) ?_;refine H.bg gT (cs:=nB n A3 (bh E c).length c3 (.slice B15 (x.2++TT).length d15) (.slice A8 (aI E c).length c8,.slice A14 ((x.2++TT).length+1) d14)) (by decide) (by decide) (by kernel_rfl) ?_;clear H;intro g16 w47 H;refine ⟨.inl (H.front 3 rfl).only.ao.ao,?_⟩;refine H.aG 4 0 gT rfl rfl rfl (encP_one _ _ _ _ _ _ _ _ _) (by omega) (by omega) ?_;clear H;intro A17 d17 w48 H;refine ⟨.inl (H.front 3 rfl).only.ao.ao,?_⟩;obtain ⟨S',Sb',H'⟩:=hstep _ _ _ _ _ _ _ _ _ ((((H.front 5 rfl).front 3 rfl).front 5 rfl).jU);exact ⟨(_,_,_,_,best,Bb,db,k+1,S',Sb'),hheft,⟨by simp;rfl,rfl,rfl,trivial⟩,⟨⟨hb40,by omega⟩,hfew2⟩,H'⟩
   ·refine quiet _ (fun w H=>H.ai 0 rfl aL az ae) ?_;refine quiet _ (fun w H=>H.ai 0 rfl aL az ae) ?_;refine Hp.dr H dy ?_;clear H;intro g9 w39 H;refine ⟨.inl (H.front 1 rfl).only,?_⟩;refine aj (pb n E c _ S1 _ (by omega) hElr (H.ro 1 rfl) (H.rlt _ (.tail _ (.head _)))) ?_;rintro _ w40 ⟨v3,rfl,hn⟩;obtain ⟨S3,H2,_⟩:=H.fW (.tail _ (.head _)) hn;clear H;have H:=H2;clear H2;obtain ⟨A3,c3,hv3⟩:=(H.ro 0 rfl).form;subst hv3;refine ⟨.inl (H.front 1 rfl).only.ao,?_⟩;refine quiet _ (fun w H=>bG ae) ?_;refine H.aX dy rfl ?_;clear H;intro gc w42 H;refine ⟨.inl (H.front 2 rfl).only.ao,?_⟩;refine aj (oD n E c _ S1 _ (by omega) hElr (H.ro 2 rfl) (H.rlt _ (.tail _ (.tail _ (.head _))))) ?_;rintro _ w43 ⟨v8,rfl,hn⟩;obtain ⟨S8,H2,_⟩:=H.fW (.tail _ (.tail _ (.head _))) hn;clear H;have H:=H2;clear H2;obtain ⟨A8,c8,hv8⟩:=(H.ro 0 rfl).form;subst hv8;refine ⟨.inl (H.front 2 rfl).only.ao.ao,?_⟩;refine Hp.cj H 1 dy rfl (bE (H.ro 2 rfl)) (cS _) (by omega) (by omega) ?_;clear H;intro A11 d11 w44 H;refine ⟨.inl (H.front 2 rfl).only.ao.ao,?_⟩;refine H.aG 1 0 dy rfl rfl rfl (fun u hu=>by rw[List.mem_singleton.1 hu];rfl) (by omega) (by omega) ?_;clear H;intro A14 d14 w45 H;refine ⟨.inl (H.front 2 rfl).only.ao.ao,?_⟩;refine quiet _ (fun w H=>bG ae) ?_;refine H.bg gT (cs:=nB n A3 (bh E c).length c3 (.slice B15 (x.2++TT).length d15) (.slice A8 (aI E c).length c8,.slice A14 ((x.2++TT).length+1) d14)) (by decide) (by decide) (by kernel_rfl) ?_;clear H;intro g16 w47 H;refine ⟨.inl (H.front 3 rfl).only.ao.ao,?_⟩;refine H.aG 4 0 gT rfl rfl rfl (encP_one _ _ _ _ _ _ _ _ _) (by omega) (by omega) ?_;clear H;intro A17 d17 w48 H;refine ⟨.inl (H.front 3 rfl).only.ao.ao,?_⟩;obtain ⟨S',Sb',H'⟩:=hstep _ _ _ _ _ _ _ _ _ ((((H.front 5 rfl).front 3 rfl).front 5 rfl).jU);exact ⟨(_,_,_,_,best,Bb,db,k+1,S',Sb'),hheft,⟨by simp;rfl,rfl,rfl,trivial⟩,⟨⟨hb40,by omega⟩,hfew2⟩,H'⟩
   ·refine quiet _ (fun w H=>H.ai 0 rfl aL az ae) ?_;refine quiet _ (fun w H=>H.ai 0 rfl aL az ae) ?_;refine Hp.dr H dy ?_;clear H;intro g9 w39 H;refine ⟨.inl (H.front 1 rfl).only,?_⟩;refine H.aX dy rfl ?_;clear H;intro gc w40 H;refine ⟨.inl (H.front 2 rfl).only,?_⟩;refine aj (pb n E c _ S1 _ (by omega) hElr (H.ro 1 rfl) (H.rlt _ (.tail _ (.head _)))) ?_;rintro _ w41 ⟨v3,rfl,hn⟩;obtain ⟨S3,H2,_⟩:=H.fW (.tail _ (.head _)) hn;clear H;have H:=H2;clear H2;obtain ⟨A3,c3,hv3⟩:=(H.ro 0 rfl).form;subst hv3;refine ⟨.inl (H.front 2 rfl).only.ao,?_⟩;refine quiet _ (fun w H=>bG ae) ?_;refine aj (oD n E c _ S1 _ (by omega) hElr (H.ro 2 rfl) (H.rlt _ (.tail _ (.tail _ (.head _))))) ?_;rintro _ w43 ⟨v8,rfl,hn⟩;obtain ⟨S8,H2,_⟩:=H.fW (.tail _ (.tail _ (.head _))) hn;clear H;have H:=H2;clear H2;obtain ⟨A8,c8,hv8⟩:=(H.ro 0 rfl).form;subst hv8;refine ⟨.inl (H.front 2 rfl).only.ao.ao,?_⟩;refine Hp.cj H 1 dy rfl (bE (H.ro 2 rfl)) (cS _) (by omega) (by omega) ?_;clear H;intro A11 d11 w44 H;refine ⟨.inl (H.front 2 rfl).only.ao.ao,?_⟩;refine H.aG 1 0 dy rfl rfl rfl (fun u hu=>by rw[List.mem_singleton.1 hu];rfl) (by omega) (by omega) ?_;clear H;intro A14 d14 w45 H;refine ⟨.inl (H.front 2 rfl).only.ao.ao,?_⟩;refine quiet _ (fun w H=>bG ae) ?_;refine H.bg gT (cs:=nB n A3 (bh E c).length c3 (.slice B15 (x.2++TT).length d15) (.slice A8 (aI E c).length c8,.slice A14 ((x.2++TT).length+1) d14)) (by decide) (by decide) (by kernel_rfl) ?_;clear H;intro g16 w47 H;refine ⟨.inl (H.front 3 rfl).only.ao.ao,?_⟩;refine H.aG 4 0 gT rfl rfl rfl (encP_one _ _ _ _ _ _ _ _ _) (by omega) (by omega) ?_;clear H;intro A17 d17 w48 H;refine ⟨.inl (H.front 3 rfl).only.ao.ao,?_⟩;obtain ⟨S',Sb',H'⟩:=hstep _ _ _ _ _ _ _ _ _ ((((H.front 5 rfl).front 3 rfl).front 5 rfl).jU);exact ⟨(_,_,_,_,best,Bb,db,k+1,S',Sb'),hheft,⟨by simp;rfl,rfl,rfl,trivial⟩,⟨⟨hb40,by omega⟩,hfew2⟩,H'⟩
   ·refine quiet _ (fun w H=>H.ai 0 rfl aL az ae) ?_;refine quiet _ (fun w H=>H.ai 0 rfl aL az ae) ?_;refine H.aX dy rfl ?_;clear H;intro gc w39 H;refine ⟨.inl (H.front 1 rfl).only,?_⟩;refine aj (pb n E c _ S1 _ (by omega) hElr (H.ro 1 rfl) (H.rlt _ (.tail _ (.head _)))) ?_;rintro _ w40 ⟨v3,rfl,hn⟩;obtain ⟨S3,H2,_⟩:=H.fW (.tail _ (.head _)) hn;clear H;have H:=H2;clear H2;obtain ⟨A3,c3,hv3⟩:=(H.ro 0 rfl).form;subst hv3;refine ⟨.inl (H.front 1 rfl).only.ao,?_⟩;refine quiet _ (fun w H=>bG ae) ?_;refine aj (oD n E c _ S1 _ (by omega) hElr (H.ro 2 rfl) (H.rlt _ (.tail _ (.tail _ (.head _))))) ?_;rintro _ w42 ⟨v8,rfl,hn⟩;obtain ⟨S8,H2,_⟩:=H.fW (.tail _ (.tail _ (.head _))) hn;clear H;have H:=H2;clear H2;obtain ⟨A8,c8,hv8⟩:=(H.ro 0 rfl).form;subst hv8;refine ⟨.inl (H.front 1 rfl).only.ao.ao,?_⟩;refine Hp.dr H dy ?_;clear H;intro g9 w43 H;refine ⟨.inl (H.front 2 rfl).only.ao.ao,?_⟩;refine Hp.cj H 0 dy rfl (bE (H.ro 2 rfl)) (cS _) (by omega) (by omega) ?_;clear H;intro A11 d11 w44 H;refine ⟨.inl (H.front 2 rfl).only.ao.ao,?_⟩;refine H.aG 0 1 dy rfl rfl rfl (fun u hu=>by rw[List.mem_singleton.1 hu];rfl) (by omega) (by omega) ?_;clear H;intro A14 d14 w45 H;refine ⟨.inl (H.front 2 rfl).only.ao.ao,?_⟩;refine quiet _ (fun w H=>bG ae) ?_;refine H.bg gT (cs:=nB n A3 (bh E c).length c3 (.slice B15 (x.2++TT).length d15) (.slice A8 (aI E c).length c8,.slice A14 ((x.2++TT).length+1) d14)) (by decide) (by decide) (by kernel_rfl) ?_;clear H;intro g16 w47 H;refine ⟨.inl (H.front 3 rfl).only.ao.ao,?_⟩;refine H.aG 4 0 gT rfl rfl rfl (encP_one _ _ _ _ _ _ _ _ _) (by omega) (by omega) ?_;clear H;intro A17 d17 w48 H;refine ⟨.inl (H.front 3 rfl).only.ao.ao,?_⟩;obtain ⟨S',Sb',H'⟩:=hstep _ _ _ _ _ _ _ _ _ ((((H.front 5 rfl).front 2 rfl).front 5 rfl).jU);exact ⟨(_,_,_,_,best,Bb,db,k+1,S',Sb'),hheft,⟨by simp;rfl,rfl,rfl,trivial⟩,⟨⟨hb40,by omega⟩,hfew2⟩,H'⟩
   ·refine quiet _ (fun w H=>H.ai 0 rfl aL az ae) ?_;refine quiet _ (fun w H=>H.ai 0 rfl aL az ae) ?_;refine H.aX dy rfl ?_;clear H;intro gc w39 H;refine ⟨.inl (H.front 1 rfl).only,?_⟩;refine aj (pb n E c _ S1 _ (by omega) hElr (H.ro 1 rfl) (H.rlt _ (.tail _ (.head _)))) ?_;rintro _ w40 ⟨v3,rfl,hn⟩;obtain ⟨S3,H2,_⟩:=H.fW (.tail _ (.head _)) hn;clear H;have H:=H2;clear H2;obtain ⟨A3,c3,hv3⟩:=(H.ro 0 rfl).form;subst hv3;refine ⟨.inl (H.front 1 rfl).only.ao,?_⟩;refine quiet _ (fun w H=>bG ae) ?_;refine Hp.dr H dy ?_;clear H;intro g9 w42 H;refine ⟨.inl (H.front 2 rfl).only.ao,?_⟩;refine aj (oD n E c _ S1 _ (by omega) hElr (H.ro 2 rfl) (H.rlt _ (.tail _ (.tail _ (.head _))))) ?_;rintro _ w43 ⟨v8,rfl,hn⟩;obtain ⟨S8,H2,_⟩:=H.fW (.tail _ (.tail _ (.head _))) hn;clear H;have H:=H2;clear H2;obtain ⟨A8,c8,hv8⟩:=(H.ro 0 rfl).form;subst hv8;refine ⟨.inl (H.front 2 rfl).only.ao.ao,?_⟩;refine Hp.cj H 0 dy rfl (bE (H.ro 2 rfl)) (cS _) (by omega) (by omega) ?_;clear H;intro A11 d11 w44 H;refine ⟨.inl (H.front 2 rfl).only.ao.ao,?_⟩;refine H.aG 0 1 dy rfl rfl rfl (fun u hu=>by rw[List.mem_singleton.1 hu];rfl) (by omega) (by omega) ?_;clear H;intro A14 d14 w45 H;refine ⟨.inl (H.front 2 rfl).only.ao.ao,?_⟩;refine quiet _ (fun w H=>bG ae) ?_;refine H.bg gT (cs:=nB n A3 (bh E c).length c3 (.slice B15 (x.2++TT).length d15) (.slice A8 (aI E c).length c8,.slice A14 ((x.2++TT).length+1) d14)) (by decide) (by decide) (by kernel_rfl) ?_;clear H;intro g16 w47 H;refine ⟨.inl (H.front 3 rfl).only.ao.ao,?_⟩;refine H.aG 4 0 gT rfl rfl rfl (encP_one _ _ _ _ _ _ _ _ _) (by omega) (by omega) ?_;clear H;intro A17 d17 w48 H;refine ⟨.inl (H.front 3 rfl).only.ao.ao,?_⟩;obtain ⟨S',Sb',H'⟩:=hstep _ _ _ _ _ _ _ _ _ ((((H.front 5 rfl).front 2 rfl).front 5 rfl).jU);exact ⟨(_,_,_,_,best,Bb,db,k+1,S',Sb'),hheft,⟨by simp;rfl,rfl,rfl,trivial⟩,⟨⟨hb40,by omega⟩,hfew2⟩,H'⟩
   ·refine quiet _ (fun w H=>H.ai 0 rfl aL az ae) ?_;refine quiet _ (fun w H=>H.ai 0 rfl aL az ae) ?_;refine H.aX dy rfl ?_;clear H;intro gc w39 H;refine ⟨.inl (H.front 1 rfl).only,?_⟩;refine Hp.dr H dy ?_;clear H;intro g9 w40 H;refine ⟨.inl (H.front 2 rfl).only,?_⟩;refine aj (pb n E c _ S1 _ (by omega) hElr (H.ro 1 rfl) (H.rlt _ (.tail _ (.head _)))) ?_;rintro _ w41 ⟨v3,rfl,hn⟩;obtain ⟨S3,H2,_⟩:=H.fW (.tail _ (.head _)) hn;clear H;have H:=H2;clear H2;obtain ⟨A3,c3,hv3⟩:=(H.ro 0 rfl).form;subst hv3;refine ⟨.inl (H.front 2 rfl).only.ao,?_⟩;refine quiet _ (fun w H=>bG ae) ?_;refine aj (oD n E c _ S1 _ (by omega) hElr (H.ro 2 rfl) (H.rlt _ (.tail _ (.tail _ (.head _))))) ?_;rintro _ w43 ⟨v8,rfl,hn⟩;obtain ⟨S8,H2,_⟩:=H.fW (.tail _ (.tail _ (.head _))) hn;clear H;have H:=H2;clear H2;obtain ⟨A8,c8,hv8⟩:=(H.ro 0 rfl).form;subst hv8;refine ⟨.inl (H.front 2 rfl).only.ao.ao,?_⟩;refine Hp.cj H 0 dy rfl (bE (H.ro 2 rfl)) (cS _) (by omega) (by omega) ?_;clear H;intro A11 d11 w44 H;refine ⟨.inl (H.front 2 rfl).only.ao.ao,?_⟩;refine H.aG 0 1 dy rfl rfl rfl (fun u hu=>by rw[List.mem_singleton.1 hu];rfl) (by omega) (by omega) ?_;clear H;intro A14 d14 w45 H;refine ⟨.inl (H.front 2 rfl).only.ao.ao,?_⟩;refine quiet _ (fun w H=>bG ae) ?_;refine H.bg gT (cs:=nB n A3 (bh E c).length c3 (.slice B15 (x.2++TT).length d15) (.slice A8 (aI E c).length c8,.slice A14 ((x.2++TT).length+1) d14)) (by decide) (by decide) (by kernel_rfl) ?_;clear H;intro g16 w47 H;refine ⟨.inl (H.front 3 rfl).only.ao.ao,?_⟩;refine H.aG 4 0 gT rfl rfl rfl (encP_one _ _ _ _ _ _ _ _ _) (by omega) (by omega) ?_;clear H;intro A17 d17 w48 H;refine ⟨.inl (H.front 3 rfl).only.ao.ao,?_⟩;obtain ⟨S',Sb',H'⟩:=hstep _ _ _ _ _ _ _ _ _ ((((H.front 5 rfl).front 2 rfl).front 5 rfl).jU);exact ⟨(_,_,_,_,best,Bb,db,k+1,S',Sb'),hheft,⟨by simp;rfl,rfl,rfl,trivial⟩,⟨⟨hb40,by omega⟩,hfew2⟩,H'⟩
  ·obtain rfl:ts=[]:=List.length_eq_zero_iff.1 (by omega);obtain rfl:st=[]:=List.length_eq_zero_iff.1 (by simpa using hlen.symm);exact ⟨(Bb,db,best,k),⟨rfl,rfl,trivial⟩,⟨by omega,hb40,hfew⟩,Sb,((H.front 1 rfl).only).ao⟩
 ·clear H;rintro ⟨B,d,best,k⟩ u w6 ⟨⟨hk,hb40,hfew⟩,Sb,H⟩;have hsl:=H.ro 0 rfl;have hend:=Gs hright hfew;refine aa (iE _) ?_;refine H.load 0 rfl aE rfl ?_;refine aj (c127 n best B d _ (by omega) (by omega) (sl.mono hsl (H.rlt _ (.head _)))) ?_;rintro _ w7 ⟨B2,d2,rfl,hn⟩;replace H:=H.bD hn;exact ⟨B2,d2,a6 n best,k,0,rfl,.inr (.inr (.inr ⟨hr',hb',rfl,⟨by omega,by omega⟩,⟨best,by rw[Int.toNat_natCast]⟩,by rw[Int.toNat_natCast];exact hend.1,hend.2⟩)),(H.only).out⟩
end Go.Proofs.YtpjihhgjbbihkaaGreatDoor
namespace Go.Dk
def ck (a b:Nat):Prop:=∀ p,a.testBit p=true→b.testBit p=true
theorem Ez {a b:Nat}(ha:a<2^256):bT a b=0↔ck a b:=by
 rw[h_];constructor
 ·intro h p hp;have:=h p;rw[bW ha,hp,Bool.true_and] at this;simpa using this
 ·intro h p;rw[bW ha]
  cases hp:a.testBit p with
  | false=>rfl
  | true=>rw[h p hp];rfl
theorem gU {a b:Nat}(ha:a<2^256):(bT a b==0)=true↔ck a b:=by rw[beq_iff_eq,Ez ha]
theorem ck.refl (a:Nat):ck a a:=fun _ h=>h
theorem ck.trans {a b c:Nat}(h:ck a b)(h':ck b c):ck a c:=fun p hp=>h' p (h p hp)
structure dU where
 n:Nat
 on:List Nat
 may:List Nat
structure cK (S:dU):Prop where
 n8:S.n≤8
 some:1≤S.on.length
 few:S.on.length≤4
 len:S.may.length=S.on.length
 onlt:∀ a ∈ S.on,a<2^256
 maylt:∀ a ∈ S.may,a<2^256
 sub:∀ (j a b:Nat),S.on[j]?=Option.some a→S.may[j]?=Option.some b→ck a b
 all:∀ b ∈ S.may,ck b (bn S.n)
def gF (m i:Nat):Nat:=m &&&(255 - 2^i)
theorem qU {m:Nat}(hm:m<256)(i:Nat):gF m i<256:=df hm _
theorem Bj {m i:Nat}(hi:i<8)(j:Nat)(hj:j<8):(gF m i).testBit j=(m.testBit j&& !decide (i=j)):=by
 have h:2^i<256:=show 2^i<2^8 from Nat.pow_lt_pow_right (by decide) hi;unfold gF;rw[Nat.testBit_and,ir h,Nat.testBit_two_pow,decide_eq_true hj,Bool.true_and]
def CG (m v:Nat)(s:Nat)(n:Nat):Bool:=dC m v n&&(bT (ba m v n) s==0)
def iF (S:dU)(m v:Nat):Nat:=mkSet (fun j=>CG m v (S.may.getD j 0) S.n) S.may.length
theorem qV (S:dU)(m v j:Nat):(iF S m v).testBit j=(decide (j<S.may.length)&&CG m v (S.may.getD j 0) S.n):=cT _ _ _
theorem yf {S:dU}(h:S.may.length≤4)(m v:Nat):iF S m v<16:=Nat.lt_of_lt_of_le (fw _ _) (show 2^S.may.length≤2^4 from Nat.pow_le_pow_right (by decide) h)
def rV (S:dU)(m v o:Nat):Bool:=decide (0<o)&&(o &&&(255 - iF S m v)==0)
end Go.Dk
namespace Go.Proofs.YtpjihhgjbbihkaaGreatDoor
open Go.Proofs.Tryz
open Go.Dk
set_option maxRecDepth 100000
attribute [local irreducible] IntKind.wrap
theorem Js:enters prog 131=true:=by kernel_rfl
theorem c131 (m v i:Nat)(hm:m<256)(hv:v<256)(hi:i<8)(w:World):bt prog 131 [cv m v,.int .i64 (i:Int)] w fun r w'=>r=cv (gF m i) (v &&&gF m i)∧aT w w':=by
 refine ar (N:=19) func131 Js rfl rfl rfl (by simp) ?_;have H:=Hp.aC w;have h2:2^i<256:=show 2^i<2^8 from Nat.pow_lt_pow_right (by decide) hi;have hwl:=qU hm i;refine ak (γ:=Nat × Nat) (fun (g2,g4)=>[(2,(ah g2)),(4,(ah g4))]) (fun (g2,g4) w'=>Hp w ab w' [an g4 48 (cc 0 0),an g2 48 (cc m v)] []) ?_ ?_
 ·refine H.box 48 (cv _ _) (cs:=cc m v) rfl ?_;clear H;intro g2 w1 H;refine H.alloc 48 (cs:=cc 0 0) fa rfl ?_;clear H;intro g4 w2 H;exact ⟨(g2,g4),⟨rfl,rfl,trivial⟩,H⟩
 clear H;rintro ⟨g2,g4⟩ u w1 H;have h0:0≤(i:Int):=by omega
 have h8:(i:Int)<8:=by omega
 refine aw (fun w'=>Hp w ab w' [an g4 48 (cc 0 0),an g2 48 (cc (gF m i) v)] []) ?_ ?_
 ·iterate 3 refine ag rfl ?_
  refine ag (decide_eq_true (by assumption)) ?_;refine H.draw eS (by kernel_rfl) ?_;clear H;intro w9 H;refine quiet _ (fun w H=>aa (b9 _) ae) ?_;refine quiet _ (fun w H=>H.load 1 rfl cg rfl ae) ?_;refine quiet _ (fun w H=>b8 (by omega) ae) ?_;refine quiet _ (fun w H=>jk (by first | assumption | omega | (repeat' (first | assumption | refine df ?_ _ | refine xor_lt8 ?_ ?_ | refine or_lt8 ?_ ?_))) (by first | assumption | omega | (repeat' (first | assumption | refine df ?_ _ | refine xor_lt8 ?_ ?_ | refine or_lt8 ?_ ?_))) ae) ?_;refine quiet _ (fun w H=>aa (b9 _) ae) ?_;refine H.store 1 rfl lf (Nat.le_of_ble_eq_true rfl) rfl ?_;clear H;intro w15 H;refine ⟨.inr rfl,?_⟩;exact ⟨(),trivial,H⟩
 clear H;rintro ⟨⟩ u w2 H;refine H.ai 1 rfl bw aO ?_;refine aj (Nh (gF m i) v hwl hv _) ?_;rintro _ w3 ⟨rfl,hk⟩;replace H:=H.same hk;clear hk;refine H.bQ 0 rfl ?_;clear H;intro w4 H;refine H.ai 0 rfl bw aO ?_;refine ⟨rfl,?_⟩;exact ⟨rfl,H.keeps⟩
theorem Jt:enters prog 160=true:=by kernel_rfl
theorem c160 (m v s:Nat)(hm:m<256)(hv:v<256)(n:Nat)(w:World):bt prog 160 [cv m v,sv s,.int .i64 (n:Int)] w fun r w'=>r=.bool (CG m v s n)∧aT w w':=by
 refine ar (N:=22) func160 Jt rfl rfl rfl (by simp) ?_;have H:=Hp.aC w;refine ak (γ:=Nat × Nat) (fun (g3,g4)=>[(3,(ah g3)),(4,(ah g4)),(6,.bool false)]) (fun (g3,g4) w'=>Hp w ab w' [an g4 86 (sc s),an g3 48 (cc m v)] []) ?_ ?_
 ·refine H.box 48 (cv _ _) (cs:=cc m v) rfl ?_;clear H;intro g3 w1 H;refine H.box 86 (sv s) (cs:=sc s) rfl ?_;clear H;intro g4 w2 H;exact ⟨(g3,g4),⟨rfl,rfl,rfl,trivial⟩,H⟩
 clear H;rintro ⟨g3,g4⟩ u w1 H;have hc:=Ni m v hm hv (n:Int) w1;rw[Int.toNat_natCast] at hc;refine ak (γ:=Nat × Nat × Int) (fun (g7,_,e)=>[(7,(ah g7)),(8,.int .i64 e)]) (fun (g7,s7,e) w'=>((dC m v n=false∧e=1∧s7=0)∨(dC m v n=true∧e=0∧s7=ba m v n))∧Hp w ab w' [an g7 86 (sc s7),an g4 86 (sc s),an g3 48 (cc m v)] []) ?_ ?_
 ·refine H.ai 1 rfl bw aO ?_;refine aj hc ?_;rintro _ w2 ⟨rfl,hk⟩;replace H:=H.same hk;clear hk hc
  cases hr:dC m v n with
  | false=>
   refine H.alloc 86 (cs:=sc 0) bo aY ?_;clear H;intro g7 w3 H;refine H.aW 0 rfl ?_;clear H;intro w4 H;exact ⟨(g7,0,1),⟨rfl,rfl,trivial⟩,.inl ⟨rfl,rfl,rfl⟩,H⟩
  | true=>
   refine H.alloc 86 (cs:=sc 0) bo aY ?_;clear H;intro g7 w3 H;refine H.aW 0 rfl ?_;clear H;intro w4 H;exact ⟨(g7,ba m v n,0),⟨rfl,rfl,trivial⟩,.inr ⟨rfl,rfl,rfl⟩,H⟩
 clear H hc;rintro ⟨g7,s7,e⟩ u w2 ⟨hcase,H⟩;unfold CG;rcases hcase with ⟨hr,rfl,rfl⟩ | ⟨hr,rfl,rfl⟩
 ·rw[hr]
  iterate 4 refine af rfl ?_
  exact ⟨rfl,H.keeps⟩
 ·rw[hr];have hp:=pA m v n;refine ag rfl ?_;refine H.ai 0 rfl aD av ?_;refine ag rfl ?_;refine H.ai 1 rfl aD av ?_;refine ag rfl ?_;refine aj (c85 _ _ hp _) ?_;rintro _ w11 ⟨rfl,hk⟩;replace H:=H.same hk;clear hk;refine ag rfl ?_;exact ⟨rfl,H.keeps⟩
end Go.Proofs.YtpjihhgjbbihkaaGreatDoor
namespace Go.Dk
theorem yg (a b:Nat)(ha:a<9223372036854775808)(hb:b<9223372036854775808):bits .xor .i64 (a:Int) (b:Int)=((a ^^^ b:Nat):Int):=by
 have hx:a ^^^ b<2^63:=Nat.xor_lt_two_pow ha hb;show IntKind.i64.wrap ((BitVec.ofInt 64 (a:Int) ^^^ BitVec.ofInt 64 (b:Int)).toNat:Int)=_;rw[BitVec.toNat_xor,n4 a ha,n4 b hb,IntKind.wrap_i64];omega
theorem rL {P:Program}{t:TypeId}{xo yo:Operand}{w:World}{kk:Value→World→Prop}{a b:Nat}(ha:a<9223372036854775808)(hb:b<9223372036854775808)(h:kk (.int .i64 ((a ^^^ b:Nat):Int)) w):cU P .xor t xo yo (.int .i64 (a:Int)) (.int .i64 (b:Int)) w kk:=
 AQ (by rw[yg a b ha hb];exact h)
def dj (s n m v:Nat):Nat→Nat × Nat
 | 0=>(m,v)
 | k+1=>if CG (gF (dj s n m v k).1 k) ((dj s n m v k).2 &&&gF (dj s n m v k).1 k) s n then (gF (dj s n m v k).1 k,(dj s n m v k).2 &&&gF (dj s n m v k).1 k) else dj s n m v k
theorem yh {s n m v:Nat}(hm:m<256)(hv:v<256):∀ k,(dj s n m v k).1<256∧(dj s n m v k).2<256
 | 0=>⟨hm,hv⟩
 | k+1=>by
  have h:=yh (s:=s) (n:=n) hm hv k;unfold dj;split
  ·exact ⟨qU h.1 k,df h.2 _⟩
  ·exact h
def cL (s i:Nat):Nat:=rj fun p=>s.testBit p||s.testBit (p ^^^ 2^i)
theorem sb {p i:Nat}(hp:p<256)(hi:i<8):p ^^^ 2^i<256:=Nat.xor_lt_two_pow (n:=8) hp (Nat.pow_lt_pow_right (by decide) hi)
theorem flip_flip (p i:Nat):p ^^^ 2^i ^^^ 2^i=p:=by rw[Nat.xor_assoc,Nat.xor_self,Nat.xor_zero]
theorem yi {s i:Nat}(hs:s<2^256)(hi:i<8):cL s i=s |||fQ ((cD s).map (· ^^^ 2^i)):=by
 have hl:fQ ((cD s).map (· ^^^ 2^i))<2^256:=py fun p hp=>by
  obtain ⟨q,hq,rfl⟩:=List.mem_map.1 hp;exact sb (b_.1 hq).1 hi
 refine nT (dm _) (H7 hs hl) fun p hp=>?_;unfold cL;rw[bK,decide_eq_true hp,Bool.true_and,Nat.testBit_or,fC]
 congr 1
 rw[Bool.eq_iff_iff,decide_eq_true_eq,List.mem_map];constructor
 ·intro h;exact ⟨_,b_.2 ⟨sb hp hi,h⟩,flip_flip p i⟩
 ·rintro ⟨q,hq,rfl⟩;rw[flip_flip];exact (b_.1 hq).2
end Go.Dk
namespace Go.Proofs.YtpjihhgjbbihkaaGreatDoor
open Go.Proofs.Tryz
open Go.Dk
set_option maxRecDepth 100000
attribute [local irreducible] IntKind.wrap
theorem Ju:enters prog 129=true:=by kernel_rfl
theorem Nv (m v s:Nat)(hm:m<256)(hv:v<256)(n:Nat)(hn:n≤8)(h:CG m v s n=true)(w:World) :
  bt prog 129 [cv m v,sv s,.int .i64 (n:Int)] w fun r w'=>r=.tuple #[cv (dj s n m v n).1 (dj s n m v n).2,.int .i64 0]∧aT w w':=by
 refine ar (N:=30) func129 Ju rfl rfl rfl (by simp) ?_;have H:=Hp.aC w;refine ak (γ:=Nat × Nat × Nat) (fun (g3,g4,g6)=>[(3,(ah g3)),(4,(ah g4)),(6,(ah g6)),(7,.int .i64 0)]) (fun (g3,g4,g6) w'=>Hp w ab w' [an g6 48 (cc 0 0),an g4 86 (sc s),an g3 48 (cc m v)] []) ?_ ?_
 ·refine H.box 48 (cv _ _) (cs:=cc m v) rfl ?_;clear H;intro g3 w1 H;refine H.box 86 (sv s) (cs:=sc s) rfl ?_;clear H;intro g4 w2 H;refine H.alloc 48 (cs:=cc 0 0) fa rfl ?_;clear H;intro g6 w3 H;exact ⟨(g3,g4,g6),⟨rfl,rfl,rfl,rfl,trivial⟩,H⟩
 clear H;rintro ⟨g3,g4,g6⟩ u w1 H;refine aw (fun w'=>Hp w ab w' [an g6 48 (cc 0 0),an g4 86 (sc s),an g3 48 (cc m v)] []) ?_ ?_
 ·have hc:=c160 m v s hm hv n w1;rw[h] at hc;refine H.ai 2 rfl bw aO ?_;refine H.ai 1 rfl aD av ?_;refine aj hc ?_;clear hc;rintro _ w2 ⟨rfl,hk⟩;replace H:=H.same hk;clear hk;refine af rfl ?_;exact ⟨(),trivial,H⟩
 clear H;rintro ⟨⟩ u w2 H;refine aw (fun w'=>Hp w ab w' [an g6 48 (cc 0 0),an g4 86 (sc s),an g3 48 (cc (dj s n m v n).1 (dj s n m v n).2)] []) ?_ ?_
 ·refine ax (γ:=Nat) (fun k=>[(17,.int .i64 (k:Int))]) (fun k w'=>k≤n∧Hp w ab w' [an g6 48 (cc 0 0),an g4 86 (sc s),an g3 48 (cc (dj s n m v k).1 (dj s n m v k).2)] []) (fun k=>n - k) 0 ⟨rfl,trivial⟩ ⟨Nat.zero_le _,H⟩ ?_;clear H;rintro k u w3 ⟨hk,H⟩;obtain ⟨hm',hv'⟩:=yh (s:=s) (n:=n) hm hv k;have hstep:dj s n m v (k+1)=if CG (gF (dj s n m v k).1 k) ((dj s n m v k).2 &&&gF (dj s n m v k).1 k) s n then (gF (dj s n m v k).1 k,(dj s n m v k).2 &&&gF (dj s n m v k).1 k) else dj s n m v k:=rfl;generalize hcd:dj s n m v k=c at hm' hv' hstep H;obtain ⟨m',v'⟩:=c;replace H:Hp w ab w3 [an g6 48 (cc 0 0),an g4 86 (sc s),an g3 48 (cc m' v')] []:=H;simp only at hm' hv' hstep;refine au (fun h7=>?_) (fun h7=>?_)
  ·refine aw (fun w'=>Hp w ab w' [an g6 48 (cc 0 0),an g4 86 (sc s),an g3 48 (cc (dj s n m v (k+1)).1 (dj s n m v (k+1)).2)] []) ?_ ?_
   ·refine ak (γ:=Unit) (fun _=>[(8,.int .i64 (k:Int))]) (fun _ w'=>Hp w ab w' [an g6 48 (cc 0 0),an g4 86 (sc s),an g3 48 (cc m' v')] []) ⟨(),⟨rfl,trivial⟩,H⟩ ?_;clear H;rintro ⟨⟩ u w4 H;refine ak (γ:=Nat) (fun g9=>[(9,(ah g9))]) (fun g9 w'=>Hp w ab w' [an g9 48 (cc (gF m' k) (v' &&&gF m' k)),an g6 48 (cc 0 0),an g4 86 (sc s),an g3 48 (cc m' v')] []) ?_ ?_
    ·refine H.ai 2 rfl bw aO ?_;refine aj (c131 m' v' k hm' hv' (by omega) _) ?_;rintro _ w5 ⟨rfl,hk5⟩;replace H:=H.same hk5;refine H.alloc 48 (cs:=cc 0 0) fa rfl ?_;clear H;intro g9 w6 H;refine H.bQ 0 rfl ?_;clear H;intro w7 H;exact ⟨g9,⟨rfl,trivial⟩,H⟩
    clear H;rintro g9 u w5 H;refine H.ai 0 rfl bw aO ?_;refine H.ai 2 rfl aD av ?_;refine aj (c160 _ _ s (qU hm' k) (df hv' _) n _) ?_;rintro _ w6 ⟨rfl,hk6⟩;replace H:=H.same hk6;rw[hstep]
    cases hb:CG (gF m' k) (v' &&&gF m' k) s n with
    | true=>
     refine ag rfl ?_;refine H.ai 0 rfl bw aO ?_;refine H.bQ 3 rfl ?_;clear H;intro w11 H;exact ⟨(),trivial,by rw[if_pos rfl];exact H.forget⟩
    | false=>
     refine af rfl ?_;exact ⟨(),trivial,by rw[if_neg (by decide)];exact H.forget⟩
   ·clear H;rintro ⟨⟩ u w4 H;exact ⟨k+1,by show n - (k+1)<n - k;omega,⟨up (by omega),trivial⟩,by show k+1≤n;omega,H⟩
  ·have:k=n:=by omega
   subst this;exact ⟨(),trivial,by rw[hcd];exact H⟩
 clear H;rintro ⟨⟩ u w3 H;refine H.ai 2 rfl bw aO ?_;refine H.bQ 0 rfl ?_;clear H;intro w7 H;refine H.ai 0 rfl bw aO ?_;refine ⟨rfl,?_⟩;exact ⟨rfl,H.keeps⟩
theorem Jv:enters prog 188=true:=by kernel_rfl
theorem Nw (s i:Nat)(one:Bool)(hi:i<8)(w:World):bt prog 188 [sv s,.int .i64 (i:Int),.bool one] w fun r w'=>r=sv (cL (cF s i one) i)∧aT w w':=by
 refine ar (N:=31) func188 Jv rfl rfl rfl (by simp) ?_;have H:=Hp.aC w;refine ak (γ:=Nat × Nat) (fun (g3,g6)=>[(3,(ah g3)),(6,(ah g6))]) (fun (g3,g6) w'=>Hp w ab w' [an g6 86 (sc 0),an g3 86 (sc s)] []) ?_ ?_
 ·refine H.box 86 (sv s) (cs:=sc s) rfl ?_;clear H;intro g3 w1 H;refine H.alloc 86 (cs:=sc 0) bo aY ?_;clear H;intro g6 w3 H;exact ⟨(g3,g6),⟨rfl,rfl,trivial⟩,H⟩
 clear H;rintro ⟨g3,g6⟩ u w1 H;have hh:=xf s i one;generalize hhd:cF s i one=h at hh;refine ak (γ:=Nat) (fun g7=>[(7,(ah g7))]) (fun g7 w'=>Hp w ab w' [an g7 86 (sc h),an g6 86 (sc 0),an g3 86 (sc s)] []) ?_ ?_
 ·refine H.ai 1 rfl aD av ?_;have hc:=xT s i one hi w1;rw[hhd] at hc;refine aj hc ?_;rintro _ w2 ⟨rfl,hk⟩;replace H:=H.same hk;refine H.alloc 86 (cs:=sc 0) bo aY ?_;clear H;intro g7 w3 H;refine H.aW 0 rfl ?_;clear H;intro w4 H;exact ⟨g7,⟨rfl,trivial⟩,H⟩
 clear H;rintro g7 u w2 H;refine ak (γ:=Nat) (fun g8=>[(8,(ah g8))]) (fun g8 w'=>Hp w ab w' [an g8 86 (sc h),an g7 86 (sc h),an g6 86 (sc 0)] []) ?_ ?_
 ·refine H.ai 0 rfl aD av ?_;refine H.alloc 86 (cs:=sc 0) bo aY ?_;clear H;intro g8 w3 H;refine H.aW 0 rfl ?_;clear H;intro w4 H;exact ⟨g8,⟨rfl,trivial⟩,H.b6 [0,1,2] (by decide) rfl⟩
 clear H;rintro g8 u w3 H;have h2:2^i<256:=show 2^i<2^8 from Nat.pow_lt_pow_right (by decide) hi;refine aw (fun w'=>Hp w ab w' [an g8 86 (sc (cL h i)),an g6 86 (sc 0)] []) ?_ ?_
 ·refine H.ai 1 rfl aD av ?_;refine aj (DQ h _) ?_;rintro _ w4 ⟨A,c,rfl,hn⟩;replace H:=H.bD hn;clear hn;refine ay underlying75 ?_;have hl256:=eG h 256;refine ax (γ:=Nat) (fun k=>[(19,.int .i64 (k:Int))]) (fun k w'=>k≤(cD h).length∧Hp w ab w' [own 3 1 (.slice A (cD h).length c) (cD h).length (ints (cD h)),an g8 86 (sc (h |||fQ (((cD h).take k).map (· ^^^ 2^i)))),an g6 86 (sc 0)] []) (fun k=>(cD h).length - k) 0 ⟨rfl,trivial⟩ ⟨Nat.zero_le _,by rw[List.take_zero,List.map_nil,fQ,Nat.or_zero];exact H.b6 [0,1,3] (by decide) rfl⟩ ?_;clear H;rintro k u w5 ⟨hk,H⟩;refine au (fun h7=>?_) (fun h7=>?_)
  ·have hkl:k<(cD h).length:=by omega
   refine aw (fun w'=>Hp w ab w' [own 3 1 (.slice A (cD h).length c) (cD h).length (ints (cD h)),an g8 86 (sc (h |||fQ (((cD h).take (k+1)).map (· ^^^ 2^i)))),an g6 86 (sc 0)] []) ?_ ?_
   ·obtain ⟨g,rfl⟩:=H.mq 0 rfl (by omega);have hp:(cD h)[k]<256:=(b_.1 (List.getElem_mem hkl)).1;have ht:(cD h).take (k+1)=(cD h).take k++[(cD h)[k]]:=(List.take_append_getElem hkl).symm;have hgp:=e_ hkl;generalize (cD h)[k]=p at hp ht hgp;refine ak (γ:=Unit) (fun _=>[(10,.int .i64 (p:Int))]) (fun _ w'=>Hp w ab w' [own 3 1 (.slice (some ⟨g,0,none⟩) (cD h).length c) (cD h).length (ints (cD h)),an g8 86 (sc (h |||fQ (((cD h).take k).map (· ^^^ 2^i)))),an g6 86 (sc 0)] []) ?_ ?_
    ·refine aq underlying75 a_ k rfl hkl (by omega) (o':=k) ?_;refine H.dX 0 rfl aE hgp ?_;exact ⟨(),⟨rfl,trivial⟩,H⟩
    clear H;rintro ⟨⟩ u w6 H;refine H.draw eS (by kernel_rfl) ?_;clear H;intro w7 H;refine quiet _ (fun w H=>H.ai 1 rfl aD av ae) ?_;refine quiet _ (fun w H=>cZ (by omega) ae) ?_;refine quiet _ (fun w H=>rL (by omega) (by omega) ae) ?_;refine aj (pL _ _ (sb hp hi) _) ?_;rintro _ w8 ⟨rfl,hk8⟩;replace H:=H.same hk8;refine ⟨.inl H,?_⟩;refine H.aW 1 rfl ?_;clear H;intro w9 H;refine ⟨.inr rfl,?_⟩;rw[ht,List.map_append,List.map_cons,List.map_nil,kh,← Nat.or_assoc];exact ⟨(),trivial,H⟩
   ·clear H;rintro ⟨⟩ u w6 H;exact ⟨k+1,by show (cD h).length - (k+1)<(cD h).length - k;omega,⟨up (by simp only[cD] at hkl;omega),trivial⟩,by show k+1≤(cD h).length;omega,H⟩
  ·have:k=(cD h).length:=by omega
   subst this;rw[List.take_length,← yi hh hi] at H;exact ⟨(),trivial,H.forget⟩
 clear H;rintro ⟨⟩ u w4 H;refine H.ai 0 rfl aD av ?_;refine H.aW 1 rfl ?_;clear H;intro w5 H;refine H.ai 1 rfl aD av ?_;exact ⟨rfl,rfl,H.keeps⟩
theorem Jw:enters prog 176=true:=by kernel_rfl
theorem Nx (h i:Nat)(hh:h<2^256)(hi:i<8)(w:World):bt prog 176 [sv h,.int .i64 (i:Int)] w fun r w'=>r=sv (cL h i)∧aT w w':=by
 refine ar (N:=24) func176 Jw rfl rfl rfl (by simp) ?_;have H:=Hp.aC w;refine ak (γ:=Nat × Nat) (fun (g7,g4)=>[(2,(ah g7)),(4,(ah g4))]) (fun (g7,g4) w'=>Hp w ab w' [an g4 86 (sc 0),an g7 86 (sc h)] []) ?_ ?_
 ·refine H.box 86 (sv h) (cs:=sc h) rfl ?_;clear H;intro g3 w1 H;refine H.alloc 86 (cs:=sc 0) bo aY ?_;clear H;intro g6 w3 H;exact ⟨(g3,g6),⟨rfl,rfl,trivial⟩,H⟩
 clear H;rintro ⟨g7,g4⟩ u w1 H;refine ak (γ:=Nat) (fun g5=>[(5,(ah g5))]) (fun g5 w'=>Hp w ab w' [an g5 86 (sc h),an g7 86 (sc h),an g4 86 (sc 0)] []) ?_ ?_
 ·refine H.ai 1 rfl aD av ?_;refine H.alloc 86 (cs:=sc 0) bo aY ?_;clear H;intro g8 w3 H;refine H.aW 0 rfl ?_;clear H;intro w4 H;exact ⟨g8,⟨rfl,trivial⟩,H.b6 [0,2,1] (by decide) rfl⟩
 clear H;rintro g5 u w3 H;have h2:2^i<256:=show 2^i<2^8 from Nat.pow_lt_pow_right (by decide) hi;refine aw (fun w'=>Hp w ab w' [an g5 86 (sc (cL h i)),an g4 86 (sc 0)] []) ?_ ?_
 ·refine H.ai 1 rfl aD av ?_;refine aj (DQ h _) ?_;rintro _ w4 ⟨A,c,rfl,hn⟩;replace H:=H.bD hn;clear hn;refine ay underlying75 ?_;have hl256:=eG h 256;refine ax (γ:=Nat) (fun k=>[(12,.int .i64 (k:Int))]) (fun k w'=>k≤(cD h).length∧Hp w ab w' [own 3 1 (.slice A (cD h).length c) (cD h).length (ints (cD h)),an g5 86 (sc (h |||fQ (((cD h).take k).map (· ^^^ 2^i)))),an g4 86 (sc 0)] []) (fun k=>(cD h).length - k) 0 ⟨rfl,trivial⟩ ⟨Nat.zero_le _,by rw[List.take_zero,List.map_nil,fQ,Nat.or_zero];exact H.b6 [0,1,3] (by decide) rfl⟩ ?_;clear H;rintro k u w5 ⟨hk,H⟩;refine au (fun h7=>?_) (fun h7=>?_)
  ·have hkl:k<(cD h).length:=by omega
   refine aw (fun w'=>Hp w ab w' [own 3 1 (.slice A (cD h).length c) (cD h).length (ints (cD h)),an g5 86 (sc (h |||fQ (((cD h).take (k+1)).map (· ^^^ 2^i)))),an g4 86 (sc 0)] []) ?_ ?_
   ·obtain ⟨g,rfl⟩:=H.mq 0 rfl (by omega);have hp:(cD h)[k]<256:=(b_.1 (List.getElem_mem hkl)).1;have ht:(cD h).take (k+1)=(cD h).take k++[(cD h)[k]]:=(List.take_append_getElem hkl).symm;have hgp:=e_ hkl;generalize (cD h)[k]=p at hp ht hgp;refine ak (γ:=Unit) (fun _=>[(7,.int .i64 (p:Int))]) (fun _ w'=>Hp w ab w' [own 3 1 (.slice (some ⟨g,0,none⟩) (cD h).length c) (cD h).length (ints (cD h)),an g5 86 (sc (h |||fQ (((cD h).take k).map (· ^^^ 2^i)))),an g4 86 (sc 0)] []) ?_ ?_
    ·refine aq underlying75 a_ k rfl hkl (by omega) (o':=k) ?_;refine H.dX 0 rfl aE hgp ?_;exact ⟨(),⟨rfl,trivial⟩,H⟩
    clear H;rintro ⟨⟩ u w6 H;refine H.draw eS (by kernel_rfl) ?_;clear H;intro w7 H;refine quiet _ (fun w H=>H.ai 1 rfl aD av ae) ?_;refine quiet _ (fun w H=>cZ (by omega) ae) ?_;refine quiet _ (fun w H=>rL (by omega) (by omega) ae) ?_;refine aj (pL _ _ (sb hp hi) _) ?_;rintro _ w8 ⟨rfl,hk8⟩;replace H:=H.same hk8;refine ⟨.inl H,?_⟩;refine H.aW 1 rfl ?_;clear H;intro w9 H;refine ⟨.inr rfl,?_⟩;rw[ht,List.map_append,List.map_cons,List.map_nil,kh,← Nat.or_assoc];exact ⟨(),trivial,H⟩
   ·clear H;rintro ⟨⟩ u w6 H;exact ⟨k+1,by show (cD h).length - (k+1)<(cD h).length - k;omega,⟨up (by simp only[cD] at hkl;omega),trivial⟩,by show k+1≤(cD h).length;omega,H⟩
  ·have:k=(cD h).length:=by omega
   subst this;rw[List.take_length,← yi hh hi] at H;exact ⟨(),trivial,H.forget⟩
 clear H;rintro ⟨⟩ u w4 H;refine H.ai 0 rfl aD av ?_;refine H.aW 1 rfl ?_;clear H;intro w5 H;refine H.ai 1 rfl aD av ?_;exact ⟨rfl,rfl,H.keeps⟩
end Go.Proofs.YtpjihhgjbbihkaaGreatDoor
namespace Go.Dk
theorem Hp.cW {P:Program}{w0 w:World}{F:Nat→Prop}{L M:List cC}{k:Value→World→Prop}(H:Hp w0 F w L M)(n:Nat){g o:Nat}{t ty:TypeId}{cs:Array Value}(hn:L[n]?=some (an g t cs))(cs':List Value)(hagg:cH P ty=some true)(hs:bB P ty=some cs'.length)(hp:∀ (j:Nat) v,cs'[j]?=some v→cs[o+j]?=some v)(h:k (.agg cs'.toArray) w):eY P ty (.pointer (some ⟨g,o,none⟩)) w k:=
 hK cs' hagg hs (fun j v hj=>by
  have hadd:(⟨g,o,none⟩:Addr).add j=⟨g,o+j,none⟩:=by unfold Addr.add;split <;> simp_all
  rw[hadd,aQ (H.get n hn)];exact hp j v hj) h
end Go.Dk
namespace Go.Proofs.YtpjihhgjbbihkaaGreatDoor
open Go.Proofs.Tryz
open Go.Dk
set_option maxRecDepth 100000
attribute [local irreducible] IntKind.wrap
def bH (s:Nat):List Value:=(sc s).toList
theorem bO (s:Nat):(bH s).length=4:=rfl
def bq (n:Nat)(vo vm:Value):Array Value:=#[.int .i64 (n:Int),vo,vm]
def rW (n:Nat)(vo vm:Value):Value:=.agg (bq n vo vm)
def eU (m v o:Nat):Array Value:=#[.int .u8 (m:Int),.int .u8 (v:Int),.int .u8 (o:Int)]
def oU (m v o:Nat):Value:=.agg (eU m v o)
structure gn (w:World) (S:dU) (Bo:Option Addr) (co:Nat) (Bm:Option Addr) (cm:Nat):Prop where
 on:Sl w (.slice Bo S.on.length co) 4 S.on.length (flat bH S.on)
 may:Sl w (.slice Bm S.may.length cm) 4 S.may.length (flat bH S.may)
theorem gn.same {w w':World}{S:dU}{Bo Bm:Option Addr}{co cm:Nat}(h:gn w S Bo co Bm cm)(hk:aT w w'):gn w' S Bo co Bm cm:=⟨h.on.same hk,h.may.same hk⟩
theorem dx:cH prog 41=some true:=by kernel_rfl
theorem bL:bB prog 41=some 3:=by kernel_rfl
theorem dV:cH prog 39=some false:=by kernel_rfl
theorem tq:bB prog 39=some 1:=by kernel_rfl
theorem ij:cH prog 50=some true:=by kernel_rfl
theorem bd:bB prog 50=some 3:=by kernel_rfl
theorem jP:eH prog 50=some (oU 0 0 0):=by kernel_rfl
theorem iG (g:Nat)(w:World):(Instr.fieldAt 41 (ah g) 0).run prog w=.ok (ah g) w:=by kernel_rfl
theorem gp (g:Nat)(w:World):(Instr.fieldAt 41 (ah g) 1).run prog w=.ok (.pointer (some ⟨g,1,none⟩)) w:=by kernel_rfl
theorem fM (g:Nat)(w:World):(Instr.fieldAt 41 (ah g) 2).run prog w=.ok (.pointer (some ⟨g,2,none⟩)) w:=by kernel_rfl
theorem fN (g o:Nat)(w:World):(Instr.fieldAt 50 (.pointer (some ⟨g,o,none⟩)) 0).run prog w=.ok (.pointer (some ⟨g,o,none⟩)) w:=by kernel_rfl
theorem dN (g o:Nat)(w:World):(Instr.fieldAt 50 (.pointer (some ⟨g,o,none⟩)) 1).run prog w=.ok (.pointer (some ⟨g,o+2,none⟩)) w:=by kernel_rfl
theorem eK (m v o:Nat):∀ u ∈ (eU m v o).toList,u.oneCell'=true:=by
 intro u hu;simp[eU] at hu;rcases hu with rfl | rfl | rfl <;> rfl
theorem lj {l:List Nat}{j:Nat}(h:j<l.length):∃ a,l[j]?=some a∧a ∈ l:=⟨_,List.getElem?_eq_getElem h,List.getElem_mem h⟩
theorem LI:enters prog 54=true:=by kernel_rfl
theorem GF {S:dU}(hS:cK S)(Bo:Option Addr)(co:Nat)(Bm:Option Addr)(cm:Nat)(w:World)(hA:gn w S Bo co Bm cm) :
  bt prog 54 [rW S.n (.slice Bo S.on.length co) (.slice Bm S.may.length cm)] w fun r w'=>r=.bool true∧aT w w':=by
 refine ar (N:=63) func54 LI rfl rfl rfl (by simp) ?_;have H:=Hp.aC w;obtain ⟨n,on,may⟩:=S;obtain ⟨h8,h1,h4,hlen,honlt,hmaylt,hsub,hall⟩:=hS;simp only at h8 h1 h4 hlen honlt hmaylt hsub hall hA;obtain ⟨hO,hM⟩:=hA;simp only at hO hM;refine ak (γ:=Nat) (fun g1=>[(1,(ah g1)),(2,.bool false)]) (fun g1 w'=>Hp w ab w' [an g1 41 (bq n (.slice Bo on.length co) (.slice Bm may.length cm))] []) ?_ ?_
 ·refine H.box 41 _ (cs:=bq n (.slice Bo on.length co) (.slice Bm may.length cm)) rfl ?_;clear H;intro g1 w1 H;exact ⟨g1,⟨rfl,rfl,trivial⟩,H⟩
 clear H;rintro g1 u w1 H;refine ak (γ:=Nat) (fun g3=>[(3,(ah g3)),(4,.int .i64 0)]) (fun g3 w'=>Hp w ab w' [an g3 86 (sc (bn n)),an g1 41 (bq n (.slice Bo on.length co) (.slice Bm may.length cm))] []) ?_ ?_
 ·refine aa (iG _) ?_;refine H.load 0 rfl aE rfl ?_;refine aj (n9 n h8 _) ?_;rintro _ w2 ⟨rfl,hk⟩;replace H:=H.same hk;clear hk;refine H.alloc 86 (cs:=sc 0) bo aY ?_;clear H;intro g3 w3 H;refine H.aW 0 rfl ?_;clear H;intro w4 H;exact ⟨g3,⟨rfl,rfl,trivial⟩,H⟩
 clear H;rintro g3 u w2 H;refine aw (fun w'=>Hp w ab w' [an g3 86 (sc (bn n)),an g1 41 (bq n (.slice Bo on.length co) (.slice Bm may.length cm))] []) ?_ ?_
 ·have e1:¬ (on.length:Int)<1:=by omega
  have e2:¬ (4:Int)<on.length:=by omega
  have e3:¬ (on.length:Int)≠may.length:=by omega
  refine af rfl ?_;refine aa (gp _) ?_;refine af rfl ?_;refine H.load 1 rfl dV rfl ?_;refine af rfl ?_;refine ay underlying39 ?_
  iterate 2 refine af rfl ?_
  refine af (decide_eq_false (by assumption)) ?_;refine aa (gp _) ?_;refine af (decide_eq_false (by assumption)) ?_;refine H.load 1 rfl dV rfl ?_;refine af (decide_eq_false (by assumption)) ?_;refine ay underlying39 ?_
  iterate 3 refine af (decide_eq_false (by assumption)) ?_
  refine aa (gp _) ?_;refine af (decide_eq_false (by assumption)) ?_;refine H.load 1 rfl dV rfl ?_;refine af (decide_eq_false (by assumption)) ?_;refine ay underlying39 ?_;refine af (decide_eq_false (by assumption)) ?_;refine aa (fM _) ?_;refine af (decide_eq_false (by assumption)) ?_;refine H.load 1 rfl dV rfl ?_;refine af (decide_eq_false (by assumption)) ?_;refine ay underlying39 ?_
  iterate 2 refine af (decide_eq_false (by assumption)) ?_
  refine af (bne_eq_false_iff_eq.2 (by omega)) ?_;exact ⟨(),trivial,H⟩
 clear H;rintro ⟨⟩ u w3 H;refine aw (fun w'=>Hp w ab w' [an g3 86 (sc (bn n)),an g1 41 (bq n (.slice Bo on.length co) (.slice Bm may.length cm))] []) ?_ ?_
 ·refine aa (gp _) ?_;refine H.load 1 rfl dV rfl ?_;refine ay underlying39 ?_;refine ax (γ:=Nat) (fun i=>[(39,.int .i64 (i:Int))]) (fun i w'=>i≤on.length∧Hp w ab w' [an g3 86 (sc (bn n)),an g1 41 (bq n (.slice Bo on.length co) (.slice Bm may.length cm))] []) (fun i=>on.length - i) 0 ⟨rfl,trivial⟩ ⟨Nat.zero_le _,H⟩ ?_;clear H;rintro i u w4 ⟨hi,H⟩;refine au (fun h7=>?_) (fun h7=>?_)
  ·obtain ⟨a,ha,hain⟩:=lj (l:=on) (j:=i) (by omega);obtain ⟨b,hb,hbin⟩:=lj (l:=may) (j:=i) (by omega);obtain ⟨gO,oO,rfl⟩:=hO.A (by omega);obtain ⟨gM,oM,rfl⟩:=hM.A (by omega);refine aw (fun w'=>Hp w ab w' [an g3 86 (sc (bn n)),an g1 41 (bq n (.slice (some ⟨gO,oO,none⟩) on.length co) (.slice (some ⟨gM,oM,none⟩) may.length cm))] []) ?_ ?_
   ·refine ak (γ:=Nat) (fun g6=>[(5,.int .i64 (i:Int)),(6,(ah g6))]) (fun g6 w'=>Hp w ab w' [an g6 86 (sc a),an g3 86 (sc (bn n)),an g1 41 (bq n (.slice (some ⟨gO,oO,none⟩) on.length co) (.slice (some ⟨gM,oM,none⟩) may.length cm))] []) ?_ ?_
    ·refine aq underlying39 av i rfl (by omega) (o':=oO+i*4) (by omega) ?_;refine Sl.cI H hO bO aD av i rfl ha ?_;refine H.alloc 86 (cs:=sc 0) bo aY ?_;clear H;intro g6 w5 H;refine H.aW (b:=a) 0 rfl ?_;clear H;intro w6 H;exact ⟨g6,⟨rfl,rfl,trivial⟩,H⟩
    clear H;rintro g6 u w5 H;have hs1:=(gU (honlt a hain)).2 (hsub i a b ha hb);have hs2:=(gU (hmaylt b hbin)).2 (hall b hbin);refine H.draw eS (by kernel_rfl) ?_;clear H;intro w6 H;refine quiet _ (fun w H=>H.ai 0 rfl aD av ae) ?_;refine quiet _ (fun w H=>aa (fM _) ae) ?_;refine quiet _ (fun w H=>H.load 2 rfl dV rfl ae) ?_;refine quiet _ (fun w H=>aq underlying39 av i rfl (by omega) (o':=oM+i*4) (by omega) ae) ?_;refine quiet (sv b) (fun w H=>Sl.cI H hM bO aD av i rfl hb ae) ?_;have hc:=c85 a b (honlt a hain) w6;rw[hs1] at hc;refine aj hc ?_;clear hc;rintro _ w7 ⟨rfl,hk⟩;replace H:=H.same hk;clear hk;refine ⟨.inl H,?_⟩;have hc:=fun u=>c85 b (bn n) (hmaylt b hbin) u;rw[hs2] at hc;refine af rfl ?_;refine quiet _ (fun w H=>aa (fM _) ae) ?_;refine af rfl ?_;refine quiet _ (fun w H=>H.load 2 rfl dV rfl ae) ?_
    iterate 2 refine af rfl ?_
    refine quiet _ (fun w H=>aq underlying39 av i rfl (by omega) (o':=oM+i*4) (by omega) ae) ?_;refine af rfl ?_;refine quiet (sv b) (fun w H=>Sl.cI H hM bO aD av i rfl hb ae) ?_;refine af rfl ?_;refine quiet _ (fun w H=>H.ai 1 rfl aD av ae) ?_;refine af rfl ?_;refine aj (hc _) ?_;rintro _ w21 ⟨rfl,hk⟩;replace H:=H.same hk;clear hk;refine ⟨.inl H,?_⟩
    iterate 3 refine af rfl ?_
    exact ⟨(),trivial,H.forget⟩
   ·clear H;rintro ⟨⟩ u w5 H;exact ⟨i+1,by show on.length - (i+1)<on.length - i;omega,⟨up (by omega),trivial⟩,by show i+1≤on.length;omega,H⟩
  ·exact ⟨(),trivial,H⟩
 clear H;rintro ⟨⟩ u w4 H;exact ⟨rfl,H.keeps⟩
end Go.Proofs.YtpjihhgjbbihkaaGreatDoor
namespace Go.Dk
theorem CH (f:Nat→Bool)(k:Nat):mkSet f k |||2^k=mkSet f k+2^k:=by
 have hlt:=fw f k;rw[Nat.or_comm];have:=Nat.two_pow_add_eq_or_of_lt hlt 1;simp at this;omega
end Go.Dk
namespace Go.Proofs.YtpjihhgjbbihkaaGreatDoor
open Go.Proofs.Tryz
open Go.Dk
set_option maxRecDepth 100000
attribute [local irreducible] IntKind.wrap
theorem Jx:enters prog 132=true:=by kernel_rfl
theorem Jy {S:dU}(hS:cK S)(m v:Nat)(hm:m<256)(hv:v<256)(vo:Value)(Bm:Option Addr)(cm:Nat)(w:World)(hM:Sl w (.slice Bm S.may.length cm) 4 S.may.length (flat bH S.may))(hvo:vo.oneCell'=true) :
  bt prog 132 [rW S.n vo (.slice Bm S.may.length cm),cv m v] w fun r w'=>r=.int .u8 ((iF S m v:Nat):Int)∧aT w w':=by
 refine ar (N:=27) func132 Jx rfl rfl rfl (by simp) ?_;have H:=Hp.aC w;have h4:S.may.length≤4:=by rw[hS.len];exact hS.few
 have hn8:=hS.n8;unfold iF;obtain ⟨n,on,may⟩:=S;simp only at h4 hM hn8;simp only;generalize hfd:(fun j=>CG m v (may.getD j 0) n)=f;have hff:∀ j a,may[j]?=some a→f j=CG m v a n:=fun j a h=>by rw[← hfd];simp only[List.getD_eq_getElem?_getD,h];rfl
 refine ak (γ:=Nat × Nat) (fun (g2,g3)=>[(2,(ah g2)),(3,(ah g3)),(4,.int .u8 0)]) (fun (g2,g3) w'=>Hp w ab w' [an g3 48 (cc m v),an g2 41 (bq n vo (.slice Bm may.length cm))] []) ?_ ?_
 ·refine H.box 41 _ (cs:=bq n vo (.slice Bm may.length cm)) rfl ?_;clear H;intro g2 w1 H;refine H.box 48 (cv _ _) (cs:=cc m v) rfl ?_;clear H;intro g3 w2 H;exact ⟨(g2,g3),⟨rfl,rfl,rfl,trivial⟩,H⟩
 clear H;rintro ⟨g2,g3⟩ u w1 H;refine ak (γ:=Unit) (fun _=>[(5,.int .u8 0)]) (fun _ w'=>Hp w ab w' [an g3 48 (cc m v),an g2 41 (bq n vo (.slice Bm may.length cm))] []) ⟨(),⟨rfl,trivial⟩,H⟩ ?_;clear H;rintro ⟨⟩ u w2 H;refine ak (γ:=Unit) (fun _=>[(5,.int .u8 ((mkSet f may.length:Nat):Int))]) (fun _ w'=>Hp w ab w' [] []) ?_ ?_
 ·refine aa (fM _) ?_;refine H.load 1 rfl dV rfl ?_;refine ay underlying39 ?_;refine ax (γ:=Nat) (fun i=>[(11,.int .i64 (i:Int)),(5,.int .u8 ((mkSet f i:Nat):Int))]) (fun i w'=>i≤may.length∧Hp w ab w' [an g3 48 (cc m v),an g2 41 (bq n vo (.slice Bm may.length cm))] []) (fun i=>may.length - i) 0 ⟨rfl,rfl,trivial⟩ ⟨Nat.zero_le _,H⟩ ?_;clear H;rintro i u w4 ⟨hi,H⟩;refine au (fun h7=>?_) (fun h7=>?_)
  ·obtain ⟨a,ha,hain⟩:=lj (l:=may) (j:=i) (by omega);obtain ⟨gM,oM,rfl⟩:=hM.A (by omega);have hlt:mkSet f i<16:=Nat.lt_of_lt_of_le (fw _ _) (show 2^i≤2^4 from Nat.pow_le_pow_right (by decide) (by omega));have hor:=CH f i;have hst:mkSet f (i+1)=mkSet f i+if f i then 2^i else 0:=rfl;have hfi:=hff i a ha;generalize mkSet f i=x at hlt hor hst;refine ak (γ:=Unit) (fun _=>[(5,.int .u8 ((mkSet f (i+1):Nat):Int))]) (fun _ w'=>Hp w ab w' [an g3 48 (cc m v),an g2 41 (bq n vo (.slice (some ⟨gM,oM,none⟩) may.length cm))] []) ?_ ?_
   ·refine ak (γ:=Nat) (fun g7=>[(6,.int .i64 (i:Int)),(7,(ah g7))]) (fun g7 w'=>Hp w ab w' [an g7 86 (sc a),an g3 48 (cc m v),an g2 41 (bq n vo (.slice (some ⟨gM,oM,none⟩) may.length cm))] []) ?_ ?_
    ·refine aq underlying39 av i rfl (by omega) (o':=oM+i*4) (by omega) ?_;refine Sl.cI H hM bO aD av i rfl ha ?_;refine H.alloc 86 (cs:=sc 0) bo aY ?_;clear H;intro g6 w5 H;refine H.aW (b:=a) 0 rfl ?_;clear H;intro w6 H;exact ⟨g6,⟨rfl,rfl,trivial⟩,H⟩
    clear H;rintro g7 u w5 H;refine H.ai 1 rfl bw aO ?_;refine H.ai 0 rfl aD av ?_;refine aa (iG _) ?_;refine H.load 2 rfl aE rfl ?_;refine aj (c160 m v a hm hv n _) ?_;rintro _ w6 ⟨rfl,hk⟩;replace H:=H.same hk;clear hk;rw[hst,hfi]
    cases CG m v a n with
    | true=>
     have h16:x+2^i<256:=by have:2^i≤2^4:=Nat.pow_le_pow_right (by decide) (by omega);omega
     refine ag rfl ?_;refine b8 (by omega) ?_;refine iW (by omega) (by omega) ?_;exact ⟨(),⟨by rw[if_pos rfl,← hor];rfl,trivial⟩,H.forget⟩
    | false=>
     refine af rfl ?_;exact ⟨(),⟨by rw[if_neg (by decide),Nat.add_zero];rfl,trivial⟩,H.forget⟩
   ·clear H;rintro ⟨⟩ u w5 H;exact ⟨i+1,by show may.length - (i+1)<may.length - i;omega,⟨up (by omega),rfl,trivial⟩,by show i+1≤may.length;omega,H⟩
  ·have:i=may.length:=by omega
   subst this;exact ⟨(),⟨rfl,trivial⟩,(H.forget).forget⟩
 clear H;rintro ⟨⟩ u w4 H;exact ⟨rfl,H.keeps⟩
theorem Jz:enters prog 130=true:=by kernel_rfl
theorem c130 {S:dU}(hS:cK S)(m v o:Nat)(hm:m<256)(hv:v<256)(ho:o<256)(Bo:Option Addr)(co:Nat)(Bm:Option Addr)(cm:Nat)(w:World)(hA:gn w S Bo co Bm cm) :
  bt prog 130 [rW S.n (.slice Bo S.on.length co) (.slice Bm S.may.length cm),oU m v o] w fun r w'=>r=.bool (rV S m v o)∧aT w w':=by
 refine ar (N:=22) func130 Jz rfl rfl rfl (by simp) ?_;have H:=Hp.aC w;have h4:S.may.length≤4:=by rw[hS.len];exact hS.few
 have hol:=yf h4 m v;refine ak (γ:=Nat × Nat) (fun (g2,g3)=>[(2,(ah g2)),(3,(ah g3)),(4,.bool false)]) (fun (g2,g3) w'=>Hp w ab w' [an g3 50 (eU m v o),an g2 41 (bq S.n (.slice Bo S.on.length co) (.slice Bm S.may.length cm))] []) ?_ ?_
 ·refine H.box 41 _ (cs:=bq S.n (.slice Bo S.on.length co) (.slice Bm S.may.length cm)) rfl ?_;clear H;intro g2 w1 H;refine H.box 50 (oU m v o) (cs:=eU m v o) rfl ?_;clear H;intro g3 w2 H;exact ⟨(g2,g3),⟨rfl,rfl,rfl,trivial⟩,H⟩
 clear H;rintro ⟨g2,g3⟩ u w1 H;refine H.draw eS (by kernel_rfl) ?_;clear H;intro w2 H;refine quiet _ (fun w H=>H.ai 1 rfl dx bL ae) ?_;refine aj (GF hS Bo co Bm cm _ (hA.same H.keeps)) ?_;rintro _ w3 ⟨rfl,hk⟩;replace H:=H.same hk;clear hk;refine ⟨.inl H,?_⟩;unfold rV;by_cases h0:0<o
 ·rw[decide_eq_true h0];have h0':(0:Int)<o:=by omega
  refine ag rfl ?_;refine quiet _ (fun w H=>aa (dN _ _) ae) ?_;refine ag rfl ?_;refine quiet _ (fun w H=>H.load 0 rfl cg rfl ae) ?_
  iterate 2 refine ag rfl ?_
  refine ag (decide_eq_true (by assumption)) ?_;refine quiet _ (fun w H=>aa (dN _ _) ae) ?_;refine ag (decide_eq_true (by assumption)) ?_;refine quiet _ (fun w H=>H.load 0 rfl cg rfl ae) ?_;refine ag (decide_eq_true (by assumption)) ?_;refine quiet _ (fun w H=>H.ai 1 rfl dx bL ae) ?_;refine ag (decide_eq_true (by assumption)) ?_;refine quiet _ (fun w H=>aa (fN _ _) ae) ?_;refine ag (decide_eq_true (by assumption)) ?_;refine quiet (cv m v) (fun w H=>H.cW 0 rfl [.int .u8 (m:Int),.int .u8 (v:Int)] bw aO (fun j u hj=>by match j,hj with | 0,hj=>exact hj | 1,hj=>exact hj) ae) ?_;refine ag (decide_eq_true (by assumption)) ?_;refine aj (Jy hS m v hm hv _ Bm cm _ (hA.may.same H.keeps) rfl) ?_;rintro _ w22 ⟨rfl,hk⟩;replace H:=H.same hk;clear hk;refine ⟨.inl H,?_⟩;refine ag (decide_eq_true (by assumption)) ?_;refine quiet _ (fun w H=>jk (by omega) (by omega) ae) ?_
  iterate 2 refine ag (decide_eq_true (by assumption)) ?_
  refine ⟨congrArg Value.bool ?_,H.keeps⟩;rw[Bool.true_and,Bool.eq_iff_iff,beq_iff_eq,beq_iff_eq];omega
 ·rw[decide_eq_false h0];have h0':¬ (0:Int)<o:=by omega
  refine ag rfl ?_;refine quiet _ (fun w H=>aa (dN _ _) ae) ?_;refine ag rfl ?_;refine quiet _ (fun w H=>H.load 0 rfl cg rfl ae) ?_
  iterate 2 refine ag rfl ?_
  iterate 9 refine af (decide_eq_false (by assumption)) ?_
  exact ⟨rfl,H.keeps⟩
end Go.Proofs.YtpjihhgjbbihkaaGreatDoor
namespace Go.Dk
def a8 (S:dU)(m v o:Nat):Nat→Nat × Nat
 | 0=>(m,v)
 | k+1=>if rV S (gF (a8 S m v o k).1 k) ((a8 S m v o k).2 &&&gF (a8 S m v o k).1 k) o then (gF (a8 S m v o k).1 k,(a8 S m v o k).2 &&&gF (a8 S m v o k).1 k) else a8 S m v o k
theorem p5 {S:dU}{m v o:Nat}(hm:m<256)(hv:v<256):∀ k,(a8 S m v o k).1<256∧(a8 S m v o k).2<256
 | 0=>⟨hm,hv⟩
 | k+1=>by
  have h:=p5 (S:=S) (o:=o) hm hv k;unfold a8;split
  ·exact ⟨qU h.1 k,df h.2 _⟩
  ·exact h
end Go.Dk
namespace Go.Proofs.YtpjihhgjbbihkaaGreatDoor
open Go.Proofs.Tryz
open Go.Dk
set_option maxRecDepth 100000
attribute [local irreducible] IntKind.wrap
theorem p6 {m v o:Nat}{w:World}{kk:Value→World→Prop}(h:kk (oU m v o) w):b7 prog 50 [(0,cv m v),(1,.int .u8 (o:Int))] w kk:=
 bu (fun w=>by kernel_rfl) h
theorem LJ:enters prog 91=true:=by kernel_rfl
theorem c91 {S:dU}(hS:cK S)(m v o:Nat)(hm:m<256)(hv:v<256)(ho:o<256)(h:rV S m v o=true)(Bo:Option Addr)(co:Nat)(Bm:Option Addr)(cm:Nat)(w:World)(hA:gn w S Bo co Bm cm) :
  bt prog 91 [rW S.n (.slice Bo S.on.length co) (.slice Bm S.may.length cm),oU m v o] w fun r w'=>
   r=.tuple #[oU (a8 S m v o S.n).1 (a8 S m v o S.n).2 (iF S (a8 S m v o S.n).1 (a8 S m v o S.n).2),.int .i64 0]∧aT w w':=by
 refine ar (N:=36) func91 LJ rfl rfl rfl (by simp) ?_;have H:=Hp.aC w;have hn8:=hS.n8;have h4:S.may.length≤4:=by rw[hS.len];exact hS.few
 refine ak (γ:=Nat × Nat × Nat) (fun (g2,g3,g4)=>[(2,(ah g2)),(3,(ah g3)),(4,(ah g4)),(5,.int .i64 0)]) (fun (g2,g3,g4) w'=>Hp w ab w' [an g4 50 (eU 0 0 0),an g3 50 (eU m v o),an g2 41 (bq S.n (.slice Bo S.on.length co) (.slice Bm S.may.length cm))] []) ?_ ?_
 ·refine H.box 41 _ (cs:=bq S.n (.slice Bo S.on.length co) (.slice Bm S.may.length cm)) rfl ?_;clear H;intro g2 w1 H;refine H.box 50 (oU m v o) (cs:=eU m v o) rfl ?_;clear H;intro g3 w2 H;refine H.alloc 50 (cs:=eU 0 0 0) jP rfl ?_;clear H;intro g4 w3 H;exact ⟨(g2,g3,g4),⟨rfl,rfl,rfl,rfl,trivial⟩,H⟩
 clear H;rintro ⟨g2,g3,g4⟩ u w1 H;refine aw (fun w'=>Hp w ab w' [an g4 50 (eU 0 0 0),an g3 50 (eU m v o),an g2 41 (bq S.n (.slice Bo S.on.length co) (.slice Bm S.may.length cm))] []) ?_ ?_
 ·have hc:=fun u=>c130 hS m v o hm hv ho Bo co Bm cm u;rw[h] at hc;refine H.ai 2 rfl dx bL ?_;refine H.ai 1 rfl ij bd ?_;refine aj (hc _ (hA.same H.keeps)) ?_;clear hc;rintro _ w2 ⟨rfl,hk⟩;replace H:=H.same hk;clear hk;refine af rfl ?_;exact ⟨(),trivial,H⟩
 clear H;rintro ⟨⟩ u w2 H;refine aw (fun w'=>Hp w ab w' [an g4 50 (eU 0 0 0),an g3 50 (eU (a8 S m v o S.n).1 (a8 S m v o S.n).2 o),an g2 41 (bq S.n (.slice Bo S.on.length co) (.slice Bm S.may.length cm))] []) ?_ ?_
 ·refine aa (iG _) ?_;refine H.load 2 rfl aE rfl ?_;refine ax (γ:=Nat) (fun k=>[(15,.int .i64 (k:Int))]) (fun k w'=>k≤S.n∧Hp w ab w' [an g4 50 (eU 0 0 0),an g3 50 (eU (a8 S m v o k).1 (a8 S m v o k).2 o),an g2 41 (bq S.n (.slice Bo S.on.length co) (.slice Bm S.may.length cm))] []) (fun k=>S.n - k) 0 ⟨rfl,trivial⟩ ⟨Nat.zero_le _,H⟩ ?_;clear H;rintro k u w3 ⟨hk,H⟩;obtain ⟨hm',hv'⟩:=p5 (S:=S) (o:=o) hm hv k;have hstep:a8 S m v o (k+1)=if rV S (gF (a8 S m v o k).1 k) ((a8 S m v o k).2 &&&gF (a8 S m v o k).1 k) o then (gF (a8 S m v o k).1 k,(a8 S m v o k).2 &&&gF (a8 S m v o k).1 k) else a8 S m v o k:=rfl;generalize hcd:a8 S m v o k=c at hm' hv' hstep H;obtain ⟨m',v'⟩:=c;replace H:Hp w ab w3 [an g4 50 (eU 0 0 0),an g3 50 (eU m' v' o),an g2 41 (bq S.n (.slice Bo S.on.length co) (.slice Bm S.may.length cm))] []:=H;simp only at hm' hv' hstep;refine au (fun h7=>?_) (fun h7=>?_)
  ·refine aw (fun w'=>Hp w ab w' [an g4 50 (eU 0 0 0),an g3 50 (eU (a8 S m v o (k+1)).1 (a8 S m v o (k+1)).2 o),an g2 41 (bq S.n (.slice Bo S.on.length co) (.slice Bm S.may.length cm))] []) ?_ ?_
   ·refine ak (γ:=Unit) (fun _=>[(6,.int .i64 (k:Int))]) (fun _ w'=>Hp w ab w' [an g4 50 (eU 0 0 0),an g3 50 (eU m' v' o),an g2 41 (bq S.n (.slice Bo S.on.length co) (.slice Bm S.may.length cm))] []) ⟨(),⟨rfl,trivial⟩,H⟩ ?_;clear H;rintro ⟨⟩ u w4 H;refine ak (γ:=Nat) (fun g9=>[(7,(ah g9))]) (fun g9 w'=>Hp w ab w' [an g9 50 (eU (gF m' k) (v' &&&gF m' k) o),an g4 50 (eU 0 0 0),an g3 50 (eU m' v' o),an g2 41 (bq S.n (.slice Bo S.on.length co) (.slice Bm S.may.length cm))] []) ?_ ?_
    ·refine ia (fun u=>Hp w ab u [an g4 50 (eU 0 0 0),an g3 50 (eU m' v' o),an g2 41 (bq S.n (.slice Bo S.on.length co) (.slice Bm S.may.length cm))] []) [([3,7,8],[0,1,2,4,5,3,6,7,8]),([7,3,8],[0,1,2,4,5,7,3,6,8])] eS (by kernel_rfl) (H.same (aS.drew _)) ?_;replace H:=H.same (aS.drew _);generalize w4.drew=w5 at H;intro x hx;simp only[List.mem_cons,List.not_mem_nil,or_false] at hx;rcases hx with rfl | rfl
     ·refine quiet _ (fun w H=>aa (fN _ _) ae) ?_;refine quiet (cv m' v') (fun w H=>H.cW 1 rfl [.int .u8 (m':Int),.int .u8 (v':Int)] bw aO (fun j u hj=>by match j,hj with | 0,hj=>exact hj | 1,hj=>exact hj) ae) ?_;refine quiet _ (fun w H=>aa (dN _ _) ae) ?_;refine quiet _ (fun w H=>H.load 1 rfl cg rfl ae) ?_;refine aj (c131 m' v' k hm' hv' (by omega) _) ?_;rintro _ w6 ⟨rfl,hk5⟩;replace H:=H.same hk5;clear hk5;refine ⟨.inl H,?_⟩;refine quiet _ (fun w H=>p6 ae) ?_;refine H.alloc 50 (cs:=eU 0 0 0) jP rfl ?_;clear H;intro g9 w8 H;refine ⟨.inl H.forget,?_⟩;refine H.storeAll 0 rfl bd rfl (eK _ _ _) ?_;clear H;intro w9 H;refine ⟨.inl H.forget,?_⟩;exact ⟨g9,⟨rfl,trivial⟩,H⟩
     ·refine quiet _ (fun w H=>aa (fN _ _) ae) ?_;refine quiet (cv m' v') (fun w H=>H.cW 1 rfl [.int .u8 (m':Int),.int .u8 (v':Int)] bw aO (fun j u hj=>by match j,hj with | 0,hj=>exact hj | 1,hj=>exact hj) ae) ?_;refine quiet _ (fun w H=>aa (dN _ _) ae) ?_;refine quiet _ (fun w H=>H.load 1 rfl cg rfl ae) ?_;refine H.alloc 50 (cs:=eU 0 0 0) jP rfl ?_;clear H;intro g9 w6 H;refine ⟨.inl H.forget,?_⟩;refine aj (c131 m' v' k hm' hv' (by omega) _) ?_;rintro _ w7 ⟨rfl,hk5⟩;replace H:=H.same hk5;clear hk5;refine ⟨.inl H.forget,?_⟩;refine quiet _ (fun w H=>p6 ae) ?_;refine H.storeAll 0 rfl bd rfl (eK _ _ _) ?_;clear H;intro w9 H;refine ⟨.inl H.forget,?_⟩;exact ⟨g9,⟨rfl,trivial⟩,H⟩
    clear H;rintro g9 u w5 H;refine H.ai 3 rfl dx bL ?_;refine H.ai 0 rfl ij bd ?_;refine aj (c130 hS _ _ o (qU hm' k) (df hv' _) ho Bo co Bm cm _ (hA.same H.keeps)) ?_;rintro _ w6 ⟨rfl,hk6⟩;replace H:=H.same hk6;rw[hstep]
    cases hb:rV S (gF m' k) (v' &&&gF m' k) o with
    | true=>
     refine ag rfl ?_;refine H.ai 0 rfl ij bd ?_;refine H.storeAll 2 rfl bd rfl (eK _ _ _) ?_;clear H;intro w7 H;exact ⟨(),trivial,by rw[if_pos rfl];exact H.forget⟩
    | false=>
     refine af rfl ?_;exact ⟨(),trivial,by rw[if_neg (by decide)];exact H.forget⟩
   ·clear H;rintro ⟨⟩ u w4 H;exact ⟨k+1,by show S.n - (k+1)<S.n - k;omega,⟨up (by omega),trivial⟩,by show k+1≤S.n;omega,H⟩
  ·have:k=S.n:=by omega
   subst this;exact ⟨(),trivial,by rw[hcd];exact H⟩
 clear H;rintro ⟨⟩ u w3 H;obtain ⟨hm',hv'⟩:=p5 (S:=S) (o:=o) hm hv S.n;generalize a8 S m v o S.n=c at hm' hv' H;obtain ⟨m',v'⟩:=c;replace H:Hp w ab w3 [an g4 50 (eU 0 0 0),an g3 50 (eU m' v' o),an g2 41 (bq S.n (.slice Bo S.on.length co) (.slice Bm S.may.length cm))] []:=H;simp only at hm' hv';refine aw (fun w'=>Hp w ab w' [an g4 50 (eU 0 0 0),an g3 50 (eU m' v' (iF S m' v')),an g2 41 (bq S.n (.slice Bo S.on.length co) (.slice Bm S.may.length cm))] []) ?_ ?_
 ·refine H.ai 2 rfl dx bL ?_;refine aa (fN _ _) ?_;refine H.cW 1 rfl [.int .u8 (m':Int),.int .u8 (v':Int)] bw aO (fun j u hj=>by match j,hj with | 0,hj=>exact hj | 1,hj=>exact hj) ?_;refine aj (Jy hS m' v' hm' hv' _ Bm cm _ (hA.may.same H.keeps) rfl) ?_;rintro _ w4 ⟨rfl,hk⟩;replace H:=H.same hk;refine aa (dN _ _) ?_;refine H.store 1 rfl lf (Nat.le_of_ble_eq_true rfl) rfl ?_;clear H;intro w6 H;exact ⟨(),trivial,H⟩
 clear H;rintro ⟨⟩ u w4 H;refine H.ai 1 rfl ij bd ?_;refine H.storeAll 0 rfl bd rfl (eK _ _ _) ?_;clear H;intro w5 H;refine H.ai 0 rfl ij bd ?_;refine ⟨rfl,?_⟩;exact ⟨rfl,H.keeps⟩
end Go.Proofs.YtpjihhgjbbihkaaGreatDoor
namespace Go.Dk
abbrev Rw:=Nat × Nat × Nat
structure gK (n k:Nat) (x:Rw):Prop where
 m:x.1<256
 v:x.2.1<256
 o:x.2.2<256
 right:dC x.1 x.2.1 n=true
 some:0<x.2.2
 few:x.2.2<2^k
def fO (n out:Nat)(l:List Rw):Nat:=l.foldl (fun s x=>if x.2.2.testBit out then s |||ba x.1 x.2.1 n else s) 0
theorem CI (n out:Nat)(l:List Rw)(x:Rw):fO n out (l++[x])=if x.2.2.testBit out then fO n out l |||ba x.1 x.2.1 n else fO n out l:=by
 unfold fO;rw[List.foldl_append];rfl
theorem u7 (n out p:Nat):∀ (l:List Rw) (s:Nat),(l.foldl (fun s x=>if x.2.2.testBit out then s |||ba x.1 x.2.1 n else s) s).testBit p=true↔s.testBit p=true∨∃ x ∈ l,x.2.2.testBit out=true∧(ba x.1 x.2.1 n).testBit p=true
 | [],s=>by simp
 | x::l,s=>by
  rw[List.foldl_cons,u7 n out p l]
  cases hx:x.2.2.testBit out with
  | true=>simp[hx,or_assoc]
  | false=>simp[hx]
theorem fA {n out p:Nat}{l:List Rw}:(fO n out l).testBit p=true↔∃ x ∈ l,x.2.2.testBit out=true∧(ba x.1 x.2.1 n).testBit p=true:=by
 unfold fO;rw[u7];simp
theorem wm (n out:Nat)(l:List Rw):fO n out l<2^256:=by
 refine Nat.lt_pow_two_of_testBit _ fun p hp=>?_;rw[Bool.eq_false_iff];intro h;obtain ⟨x,_,_,h⟩:=fA.1 h;rw[kg (pA _ _ _) hp] at h
 cases h
def br (S:dU)(l:List Rw):Bool:=(List.range S.on.length).all fun j=>(bT (S.on.getD j 0) (fO S.n j l)==0)&&(bT (fO S.n j l) (S.may.getD j 0)==0)
end Go.Dk
namespace Go.Proofs.YtpjihhgjbbihkaaGreatDoor
open Go.Proofs.Tryz
open Go.Dk
set_option maxRecDepth 100000
attribute [local irreducible] IntKind.wrap
def bj (x:Rw):List Value:=[.int .u8 (x.1:Int),.int .u8 (x.2.1:Int),.int .u8 (x.2.2:Int)]
theorem bI (x:Rw):(bj x).length=3:=rfl
theorem kC {l:List Rw}{j:Nat}(h:j<l.length):∃ x,l[j]?=some x∧x ∈ l:=⟨_,List.getElem?_eq_getElem h,List.getElem_mem h⟩
theorem iH {α:Type}{l:List α}{j:Nat}{x:α}(h:l[j]?=some x):l.take (j+1)=l.take j++[x]:=by rw[List.take_add_one,h];rfl
theorem LK:enters prog 59=true:=by kernel_rfl
theorem c59 {S:dU}(hS:cK S)(l:List Rw)(hl:∀ x ∈ l,gK S.n S.on.length x)(hll:l.length≤9223372036854775807)(Bo:Option Addr)(co:Nat)(vm:Value)(hvm:vm.oneCell'=true)(A:Option Addr)(c:Nat)(w:World)(hO:Sl w (.slice Bo S.on.length co) 4 S.on.length (flat bH S.on))(hA:Sl w (.slice A l.length c) 3 l.length (flat bj l)) :
  bt prog 59 [rW S.n (.slice Bo S.on.length co) vm,.slice A l.length c] w fun r w'=>r=.bool true∧aT w w':=by
 refine ar (N:=35) func59 LK rfl rfl rfl (by simp) ?_;have H:=Hp.aC w;have h8:=hS.n8;have h4:=hS.few;refine ak (γ:=Nat) (fun g2=>[(2,(ah g2)),(4,.bool false)]) (fun g2 w'=>Hp w ab w' [an g2 41 (bq S.n (.slice Bo S.on.length co) vm)] []) ?_ ?_
 ·refine H.box 41 _ (cs:=bq S.n (.slice Bo S.on.length co) vm) rfl ?_;clear H;intro g2 w1 H;exact ⟨g2,⟨rfl,rfl,trivial⟩,H⟩
 clear H;rintro g2 u w1 H;refine aw (fun w'=>Hp w ab w' [an g2 41 (bq S.n (.slice Bo S.on.length co) vm)] []) ?_ ?_
 ·refine ay underlying44 ?_;refine ax (γ:=Nat) (fun i=>[(9,.int .i64 (i:Int))]) (fun i w'=>i≤l.length∧Hp w ab w' [an g2 41 (bq S.n (.slice Bo S.on.length co) vm)] []) (fun i=>l.length - i) 0 ⟨rfl,trivial⟩ ⟨Nat.zero_le _,H⟩ ?_;clear H;rintro i u w4 ⟨hi,H⟩;refine au (fun h7=>?_) (fun h7=>?_)
  ·obtain ⟨x,hx,hxin⟩:=kC (l:=l) (j:=i) (by omega);obtain ⟨hm,hv,ho,hr,hsome,hfew⟩:=hl x hxin;obtain ⟨m,v,o⟩:=x;simp only at hm hv ho hr hsome hfew;obtain ⟨gA,oA,rfl⟩:=hA.A (by omega);refine aw (fun w'=>Hp w ab w' [an g2 41 (bq S.n (.slice Bo S.on.length co) vm)] []) ?_ ?_
   ·refine ak (γ:=Nat) (fun g6=>[(6,(ah g6))]) (fun g6 w'=>Hp w ab w' [an g6 50 (eU m v o),an g2 41 (bq S.n (.slice Bo S.on.length co) vm)] []) ?_ ?_
    ·refine aq underlying44 bd i rfl (by omega) (o':=oA+i*3) (by omega) ?_;refine Sl.cI H hA bI ij bd i rfl hx ?_;refine H.alloc 50 (cs:=eU 0 0 0) jP rfl ?_;clear H;intro g6 w5 H;refine H.storeAll (cs':=eU m v o) 0 rfl bd rfl (eK _ _ _) ?_;clear H;intro w6 H;exact ⟨g6,⟨rfl,trivial⟩,H⟩
    clear H;rintro g6 u w5 H;have h2k:2^S.on.length≤2^4:=Nat.pow_le_pow_right (by decide) h4;have e1:((o:Int)==0)=false:=by rw[beq_eq_false_iff_ne];omega
    have e2:¬ ((2^S.on.length:Nat):Int)≤o:=by omega
    refine H.draw eS (by kernel_rfl) ?_;clear H;intro w6 H;refine quiet _ (fun w H=>aa (fN _ _) ae) ?_;refine quiet (cv m v) (fun w H=>H.cW 0 rfl [.int .u8 (m:Int),.int .u8 (v:Int)] bw aO (fun j u hj=>by match j,hj with | 0,hj=>exact hj | 1,hj=>exact hj) ae) ?_;refine quiet _ (fun w H=>aa (iG _) ae) ?_;refine quiet _ (fun w H=>H.load 1 rfl aE rfl ae) ?_;have hc:=c75 m v hm hv (S.n:Int) w6;rw[hr] at hc;refine aj hc ?_;clear hc;rintro _ w7 ⟨rfl,hk⟩;replace H:=H.same hk;clear hk;refine ⟨.inl H,?_⟩;refine af rfl ?_;refine quiet _ (fun w H=>aa (dN _ _) ae) ?_;refine af rfl ?_;refine quiet _ (fun w H=>H.load 0 rfl cg rfl ae) ?_
    iterate 2 refine af rfl ?_
    refine af (by assumption) ?_;refine quiet _ (fun w H=>aa (dN _ _) ae) ?_;refine af (by assumption) ?_;refine quiet _ (fun w H=>H.load 0 rfl cg rfl ae) ?_;refine af (by assumption) ?_;refine quiet _ (fun w H=>iy (by kernel_rfl) underlying3 (by omega) (by omega) ae) ?_;refine af (by assumption) ?_;refine quiet _ (fun w H=>aa (gp _) ae) ?_;refine af (by assumption) ?_;refine quiet _ (fun w H=>H.load 1 rfl dV rfl ae) ?_;refine af (by assumption) ?_;refine quiet _ (fun w H=>ay underlying39 ae) ?_;refine af (by assumption) ?_;refine quiet _ (fun w H=>cZ (by omega) ae) ?_
    iterate 2 refine af (by assumption) ?_
    refine af (decide_eq_false (by assumption)) ?_;exact ⟨(),trivial,H.forget⟩
   ·clear H;rintro ⟨⟩ u w5 H;exact ⟨i+1,by show l.length - (i+1)<l.length - i;omega,⟨congrArg (Value.int .i64) (aH (x:=((i:Int)+1)) (by omega) (by omega)),trivial⟩,by show i+1≤l.length;omega,H⟩
  ·exact ⟨(),trivial,H⟩
 clear H;rintro ⟨⟩ u w4 H;exact ⟨rfl,H.keeps⟩
theorem JA:enters prog 133=true:=by kernel_rfl
theorem Ny (n out:Nat)(hn:n≤8)(hout:out<4)(l:List Rw){kk:Nat}(hl:∀ x ∈ l,gK n kk x)(hll:l.length≤1000000)(A:Option Addr)(c:Nat)(w:World)(hA:Sl w (.slice A l.length c) 3 l.length (flat bj l)) :
  bt prog 133 [.slice A l.length c,.int .i64 (n:Int),.int .i64 (out:Int)] w fun r w'=>r=.tuple #[sv (fO n out l),.int .i64 0]∧aT w w':=by
 refine ar (N:=56) func133 JA rfl rfl rfl (by simp) ?_;have H:=Hp.aC w;refine ak (γ:=Nat) (fun g6=>[(6,(ah g6)),(7,.int .i64 0)]) (fun g6 w'=>Hp w ab w' [an g6 86 (sc 0)] []) ?_ ?_
 ·refine H.alloc 86 (cs:=sc 0) bo aY ?_;clear H;intro g6 w1 H;exact ⟨g6,⟨rfl,rfl,trivial⟩,H⟩
 clear H;rintro g6 u w1 H;refine aw (fun w'=>Hp w ab w' [an g6 86 (sc 0)] []) ?_ ?_
 ·have e1:¬ (n:Int)<0:=by omega
  have e2:¬ (8:Int)<n:=by omega
  have e3:¬ (out:Int)<0:=by omega
  have e4:¬ (4:Int)≤out:=by omega
  iterate 3 refine af rfl ?_
  iterate 3 refine af (decide_eq_false (by assumption)) ?_
  iterate 3 refine af rfl ?_
  refine af (decide_eq_false (by assumption)) ?_;exact ⟨(),trivial,H⟩
 clear H;rintro ⟨⟩ u w2 H;refine ak (γ:=Nat) (fun g8=>[(8,(ah g8))]) (fun g8 w'=>Hp w ab w' [an g8 86 (sc 0),an g6 86 (sc 0)] []) ?_ ?_
 ·refine H.alloc 86 (cs:=sc 0) bo aY ?_;clear H;intro g8 w1 H;exact ⟨g8,⟨rfl,trivial⟩,H⟩
 clear H;rintro g8 u w2 H;refine aw (fun w'=>Hp w ab w' [an g8 86 (sc (fO n out l)),an g6 86 (sc 0)] []) ?_ ?_
 ·refine ay underlying44 ?_;refine ax (γ:=Nat) (fun i=>[(30,.int .i64 (i:Int))]) (fun i w'=>i≤l.length∧Hp w ab w' [an g8 86 (sc (fO n out (l.take i))),an g6 86 (sc 0)] []) (fun i=>l.length - i) 0 ⟨rfl,trivial⟩ ⟨Nat.zero_le _,H⟩ ?_;clear H;rintro i u w4 ⟨hi,H⟩;refine au (fun h7=>?_) (fun h7=>?_)
  ·obtain ⟨x,hx,hxin⟩:=kC (l:=l) (j:=i) (by omega);have hst:=CI n out (l.take i) x;rw[← iH hx] at hst;obtain ⟨hm,hv,ho,hr,hsome,hfew⟩:=hl x hxin;obtain ⟨m,v,o⟩:=x;simp only at hm hv ho hr hsome hfew hst;obtain ⟨gA,oA,rfl⟩:=hA.A (by omega);generalize fO n out (l.take i)=s0 at H hst;refine aw (fun w'=>Hp w ab w' [an g8 86 (sc (fO n out (l.take (i+1)))),an g6 86 (sc 0)] []) ?_ ?_
   ·refine ak (γ:=Nat) (fun g10=>[(10,(ah g10))]) (fun g10 w'=>Hp w ab w' [an g10 50 (eU m v o),an g8 86 (sc s0),an g6 86 (sc 0)] []) ?_ ?_
    ·refine aq underlying44 bd i rfl (by omega) (o':=oA+i*3) (by omega) ?_;refine Sl.cI H hA bI ij bd i rfl hx ?_;refine H.alloc 50 (cs:=eU 0 0 0) jP rfl ?_;clear H;intro g10 w5 H;refine H.storeAll (cs':=eU m v o) 0 rfl bd rfl (eK _ _ _) ?_;clear H;intro w6 H;exact ⟨g10,⟨rfl,trivial⟩,H⟩
    clear H;rintro g10 u w5 H;refine ak (γ:=Nat) (fun g11=>[(11,(ah g11)),(12,.int .i64 0)]) (fun g11 w'=>Hp w ab w' [an g11 86 (sc (ba m v n)),an g10 50 (eU m v o),an g8 86 (sc s0),an g6 86 (sc 0)] []) ?_ ?_
    ·refine aa (fN _ _) ?_;refine H.cW 0 rfl [.int .u8 (m:Int),.int .u8 (v:Int)] bw aO (fun j u hj=>by match j,hj with | 0,hj=>exact hj | 1,hj=>exact hj) ?_;have hc:=Ni m v hm hv (n:Int) w5;rw[hr,if_pos rfl,Int.toNat_natCast] at hc;refine aj hc ?_;clear hc;rintro _ w6 ⟨rfl,hk⟩;replace H:=H.same hk;clear hk;refine H.alloc 86 (cs:=sc 0) bo aY ?_;clear H;intro g11 w7 H;refine H.aW 0 rfl ?_;clear H;intro w8 H;exact ⟨g11,⟨rfl,rfl,trivial⟩,H⟩
    clear H;rintro g11 u w6 H;refine aw (fun w'=>Hp w ab w' [an g11 86 (sc (ba m v n)),an g10 50 (eU m v o),an g8 86 (sc s0),an g6 86 (sc 0)] []) ?_ ?_
    ·refine af rfl ?_;exact ⟨(),trivial,H⟩
    clear H;rintro ⟨⟩ u w7 H;refine aa (dN _ _) ?_;refine H.load 1 rfl cg rfl ?_;refine eR (by omega) ?_;refine dL (b:=1) (Nat.lt_of_le_of_lt (Nat.div_le_self _ _) ho) (by omega) ?_;rw[hst]
    cases hob:o.testBit out with
    | true=>
     refine ag ((cB o out).trans hob) ?_;refine H.ai 2 rfl aD av ?_;refine H.ai 0 rfl aD av ?_;refine aj (K8 _ _ _) ?_;rintro _ w8 ⟨rfl,hk⟩;replace H:=H.same hk;refine H.aW 2 rfl ?_;clear H;intro w9 H;exact ⟨(),trivial,by rw[if_pos rfl];exact H.forget.forget⟩
    | false=>
     refine af ((cB o out).trans hob) ?_;exact ⟨(),trivial,by rw[if_neg (by decide)];exact H.forget.forget⟩
   ·clear H;rintro ⟨⟩ u w5 H;exact ⟨i+1,by show l.length - (i+1)<l.length - i;omega,⟨up (by omega),trivial⟩,by show i+1≤l.length;omega,H⟩
  ·have:i=l.length:=by omega
   subst this;exact ⟨(),trivial,by rw[List.take_length] at H;exact H⟩
 clear H;rintro ⟨⟩ u w4 H;refine H.ai 0 rfl aD av ?_;refine H.aW 1 rfl ?_;clear H;intro w5 H;refine H.ai 1 rfl aD av ?_;exact ⟨rfl,rfl,H.keeps⟩
theorem LL:enters prog 92=true:=by kernel_rfl
theorem Og {S:dU}(hS:cK S)(l:List Rw)(hl:∀ x ∈ l,gK S.n S.on.length x)(hll:l.length≤1000000)(Bo:Option Addr)(co:Nat)(Bm:Option Addr)(cm:Nat)(A:Option Addr)(c:Nat)(w:World)(hA:gn w S Bo co Bm cm)(hR:Sl w (.slice A l.length c) 3 l.length (flat bj l)) :
  bt prog 92 [rW S.n (.slice Bo S.on.length co) (.slice Bm S.may.length cm),.slice A l.length c] w fun r w'=>r=.bool (br S l)∧aT w w':=by
 refine ar (N:=49) func92 LL rfl rfl rfl (by simp) ?_;have H:=Hp.aC w;have h8:=hS.n8;have h4:=hS.few;have hml:=hS.len;refine ak (γ:=Nat) (fun g2=>[(2,(ah g2)),(4,.bool false)]) (fun g2 w'=>Hp w ab w' [an g2 41 (bq S.n (.slice Bo S.on.length co) (.slice Bm S.may.length cm))] []) ?_ ?_
 ·refine H.box 41 _ (cs:=bq S.n (.slice Bo S.on.length co) (.slice Bm S.may.length cm)) rfl ?_;clear H;intro g2 w1 H;exact ⟨g2,⟨rfl,rfl,trivial⟩,H⟩
 clear H;rintro g2 u w1 H;refine aw (fun w'=>Hp w ab w' [an g2 41 (bq S.n (.slice Bo S.on.length co) (.slice Bm S.may.length cm))] []) ?_ ?_
 ·refine H.ai 0 rfl dx bL ?_;refine aj (GF hS Bo co Bm cm _ (hA.same H.keeps)) ?_;rintro _ w3 ⟨rfl,hk⟩;replace H:=H.same hk;clear hk;refine af rfl ?_;refine H.ai 0 rfl dx bL ?_
  iterate 2 refine af rfl ?_
  refine aj (c59 hS l hl (by omega) Bo co _ rfl A c _ (hA.on.same H.keeps) (hR.same H.keeps)) ?_;rintro _ w10 ⟨rfl,hk⟩;replace H:=H.same hk;clear hk
  iterate 3 refine af rfl ?_
  exact ⟨(),trivial,H⟩
 clear H;rintro ⟨⟩ u w2 H;have hfd:br S l=(List.range S.on.length).all fun j=>(bT (S.on.getD j 0) (fO S.n j l)==0)&&(bT (fO S.n j l) (S.may.getD j 0)==0):=rfl;refine aw (fun w'=>br S l=true∧Hp w ab w' [] []) ?_ ?_
 ·refine aa (gp _) ?_;refine H.load 0 rfl dV rfl ?_;refine ay underlying39 ?_;refine ax (γ:=Nat) (fun i=>[(21,.int .i64 (i:Int))]) (fun i w'=>(i≤S.on.length∧∀ j,j<i→((bT (S.on.getD j 0) (fO S.n j l)==0)&&(bT (fO S.n j l) (S.may.getD j 0)==0))=true)∧Hp w ab w' [an g2 41 (bq S.n (.slice Bo S.on.length co) (.slice Bm S.may.length cm))] []) (fun i=>S.on.length - i) 0 ⟨rfl,trivial⟩ ⟨⟨Nat.zero_le _,fun j h=>absurd h (Nat.not_lt_zero _)⟩,H⟩ ?_;clear H;rintro i u w4 ⟨⟨hi,hall⟩,H⟩;refine au (fun h7=>?_) (fun h7=>?_)
  ·obtain ⟨a,ha,hain⟩:=lj (l:=S.on) (j:=i) (by omega);obtain ⟨b,hb,hbin⟩:=lj (l:=S.may) (j:=i) (by omega);have ea:S.on.getD i 0=a:=by rw[List.getD_eq_getElem?_getD,ha];rfl
   have eb:S.may.getD i 0=b:=by rw[List.getD_eq_getElem?_getD,hb];rfl
   obtain ⟨gO,oO,rfl⟩:=hA.on.A (by omega);obtain ⟨gM,oM,rfl⟩:=hA.may.A (by omega);refine aw (fun w'=>((bT a (fO S.n i l)==0)&&(bT (fO S.n i l) b==0))=true∧Hp w ab w' [an g2 41 (bq S.n (.slice (some ⟨gO,oO,none⟩) S.on.length co) (.slice (some ⟨gM,oM,none⟩) S.may.length cm))] []) ?_ ?_
   ·refine ak (γ:=Nat) (fun g6=>[(5,.int .i64 (i:Int)),(6,(ah g6))]) (fun g6 w'=>Hp w ab w' [an g6 86 (sc a),an g2 41 (bq S.n (.slice (some ⟨gO,oO,none⟩) S.on.length co) (.slice (some ⟨gM,oM,none⟩) S.may.length cm))] []) ?_ ?_
    ·refine aq underlying39 av i rfl (by omega) (o':=oO+i*4) (by omega) ?_;refine Sl.cI H hA.on bO aD av i rfl ha ?_;refine H.alloc 86 (cs:=sc 0) bo aY ?_;clear H;intro g6 w5 H;refine H.aW (b:=a) 0 rfl ?_;clear H;intro w6 H;exact ⟨g6,⟨rfl,rfl,trivial⟩,H⟩
    clear H;rintro g6 u w5 H;have hcl:=wm S.n i l;refine ak (γ:=Nat) (fun g7=>[(7,(ah g7))]) (fun g7 w'=>Hp w ab w' [an g7 86 (sc (fO S.n i l)),an g6 86 (sc a),an g2 41 (bq S.n (.slice (some ⟨gO,oO,none⟩) S.on.length co) (.slice (some ⟨gM,oM,none⟩) S.may.length cm))] []) ?_ ?_
    ·refine aa (iG _) ?_;refine H.load 1 rfl aE rfl ?_;refine aj (Ny S.n i h8 (by omega) l hl hll A c _ (hR.same H.keeps)) ?_;rintro _ w6 ⟨rfl,hk⟩;replace H:=H.same hk;clear hk;refine H.alloc 86 (cs:=sc 0) bo aY ?_;clear H;intro g7 w7 H;refine H.aW 0 rfl ?_;clear H;intro w8 H;exact ⟨g7,⟨rfl,trivial⟩,H⟩
    clear H;rintro g7 u w6 H;generalize hcd:fO S.n i l=C at hcl H;have hno:((bT a C==0)&&(bT C b==0))=false→br S l=false:=fun h=>by
     rw[hfd,List.all_eq_false];exact ⟨i,List.mem_range.2 (by omega),by rw[ea,eb,hcd,h];decide⟩
    refine H.draw eS (by kernel_rfl) ?_;clear H;intro w7 H;refine quiet _ (fun w H=>H.ai 1 rfl aD av ae) ?_;refine quiet _ (fun w H=>H.ai 0 rfl aD av ae) ?_;refine aj (c85 a C (hS.onlt a hain) w7) ?_;rintro _ w8 ⟨rfl,hk⟩;replace H:=H.same hk;clear hk;refine ⟨.inl H,?_⟩
    cases h1:(bT a C==0) with
    | false=>
     rw[h1] at hno
     iterate 10 refine ag rfl ?_
     refine ⟨congrArg Value.bool ?_,H.keeps⟩;exact (hno rfl).symm
    | true=>
     rw[h1] at hno;have hc:=fun u=>c85 C b hcl u
     cases h2:(bT C b==0) with
     | false=>
      rw[h2] at hno hc;refine af rfl ?_;refine quiet _ (fun w H=>H.ai 0 rfl aD av ae) ?_;refine af rfl ?_;refine quiet _ (fun w H=>aa (fM _) ae) ?_;refine af rfl ?_;refine quiet _ (fun w H=>H.load 2 rfl dV rfl ae) ?_
      iterate 2 refine af rfl ?_
      refine quiet _ (fun w H=>aq underlying39 av i rfl (by omega) (o':=oM+i*4) (by omega) ae) ?_;refine af rfl ?_;refine quiet (sv b) (fun w H=>Sl.cI H hA.may bO aD av i rfl hb ae) ?_;refine af rfl ?_;refine aj (hc _) ?_;rintro _ w20 ⟨rfl,hk⟩;replace H:=H.same hk;clear hk;refine ⟨.inl H,?_⟩
      iterate 2 refine af rfl ?_
      refine ag rfl ?_;refine ⟨congrArg Value.bool ?_,H.keeps⟩;exact (hno rfl).symm
     | true=>
      rw[h2] at hc;refine af rfl ?_;refine quiet _ (fun w H=>H.ai 0 rfl aD av ae) ?_;refine af rfl ?_;refine quiet _ (fun w H=>aa (fM _) ae) ?_;refine af rfl ?_;refine quiet _ (fun w H=>H.load 2 rfl dV rfl ae) ?_
      iterate 2 refine af rfl ?_
      refine quiet _ (fun w H=>aq underlying39 av i rfl (by omega) (o':=oM+i*4) (by omega) ae) ?_;refine af rfl ?_;refine quiet (sv b) (fun w H=>Sl.cI H hA.may bO aD av i rfl hb ae) ?_;refine af rfl ?_;refine aj (hc _) ?_;rintro _ w20 ⟨rfl,hk⟩;replace H:=H.same hk;clear hk;refine ⟨.inl H,?_⟩
      iterate 3 refine af rfl ?_
      exact ⟨(),trivial,rfl,H.forget.forget⟩
   ·clear H;rintro ⟨⟩ u w5 ⟨hi1,H⟩;exact ⟨i+1,by show S.on.length - (i+1)<S.on.length - i;omega,⟨up (by omega),trivial⟩,⟨by show i+1≤S.on.length;omega,fun j hj=>by
     by_cases hji:j=i
     ·subst hji;rw[ea,eb];exact hi1
     ·exact hall j (by omega)⟩,H⟩
  ·exact ⟨(),trivial,by rw[hfd,List.all_eq_true];exact fun j hj=>hall j (by have:=List.mem_range.1 hj;omega),H.forget⟩
 clear H;rintro ⟨⟩ u w4 ⟨hcov,H⟩;exact ⟨congrArg Value.bool hcov.symm,H.keeps⟩
end Go.Proofs.YtpjihhgjbbihkaaGreatDoor
namespace Go.Dk
def uy (n s j:Nat):Prop:=∀ p,p<2^n→s.testBit (p ^^^ 2^j)=s.testBit p
def dk (n:Nat)(L:List (Nat × Nat)):Nat:=L.foldl (fun s c=>s |||ba c.1 c.2 n) 0
theorem zN (n:Nat)(L:List (Nat × Nat))(c:Nat × Nat):dk n (L++[c])=dk n L |||ba c.1 c.2 n:=by
 unfold dk;rw[List.foldl_append];rfl
theorem u9 (n p:Nat):∀ (L:List (Nat × Nat)) (s:Nat),(L.foldl (fun s c=>s |||ba c.1 c.2 n) s).testBit p=true↔s.testBit p=true∨∃ c ∈ L,(ba c.1 c.2 n).testBit p=true
 | [],s=>by simp
 | c::L,s=>by
  rw[List.foldl_cons,u9 n p L];simp[or_assoc]
theorem dI {n p:Nat}{L:List (Nat × Nat)}:(dk n L).testBit p=true↔∃ c ∈ L,(ba c.1 c.2 n).testBit p=true:=by
 unfold dk;rw[u9];simp
structure gq (n i:Nat) (c:Nat × Nat):Prop where
 lt:c.1<2^n
 sub:c.2 &&&c.1=c.2
 from_:∀ j,j<i→c.1.testBit j=false
structure kD (n i on may:Nat) (L:List (Nat × Nat)):Prop where
 cubes:∀ c ∈ L,gq n i c
 um:ck (dk n L) may
 out:ck on (dk n L)
 len:L.length≤3^(n - i)
theorem kD.none {n i may:Nat}:kD n i 0 may []:=
 ⟨fun c h=>by simp at h,fun p h=>by obtain ⟨c,hc,_⟩:=dI.1 h;simp at hc,fun p h=>by simp at h,Nat.zero_le _⟩
theorem gr {n p:Nat}(hn:n≤8):(bn n).testBit p=decide (p<2^n):=by
 have h2:2^n≤2^8:=Nat.pow_le_pow_right (by decide) hn;unfold bn;rw[bK];by_cases h:p<2^n
 ·rw[decide_eq_true h,decide_eq_true (show p<256 by omega)];rfl
 ·rw[decide_eq_false h,Bool.and_false]
theorem kD.all {n i on:Nat}(hn:n≤8)(hon:ck on (bn n)):kD n i on (bn n) [(0,0)]:=by
 have e:∀ p,(dk n [(0,0)]).testBit p=true↔p<2^n:=fun p=>by
  rw[dI];simp only[List.mem_singleton,exists_eq_left];rw[bA hn];simp
 refine ⟨fun c hc=>?_,fun p hp=>?_,fun p hp=>?_,Nat.one_le_pow _ _ (by decide)⟩
 ·rw[List.mem_singleton] at hc;subst hc;exact ⟨Nat.two_pow_pos _,rfl,fun j _=>by simp⟩
 ·rw[gr hn,decide_eq_true ((e p).1 hp)]
 ·have:=hon p hp;rw[gr hn,decide_eq_true_eq] at this;exact (e p).2 this
theorem fp {s n p:Nat}(hn:n≤8)(hs:ck s (bn n))(hp:s.testBit p=true):p<2^n:=by
 have:=hs p hp
 rwa [gr hn,decide_eq_true_eq] at this
theorem mF {n p i:Nat}(hi:i<n)(hp:p<2^n):p ^^^ 2^i<2^n:=Nat.xor_lt_two_pow hp (Nat.pow_lt_pow_right (by decide) hi)
theorem jD {s n i:Nat}(hn:n≤8)(hs:ck s (bn n))(hi:i<n)(one:Bool){p:Nat}(hp:p<2^n):(cL (cF s i one) i).testBit p=s.testBit (if p.testBit i=one then p else p ^^^ 2^i):=by
 have h2:2^n≤2^8:=Nat.pow_le_pow_right (by decide) hn;have hq:=mF hi hp;have e:(p ^^^ 2^i).testBit i= !p.testBit i:=by rw[Nat.testBit_xor,Nat.testBit_two_pow];simp
 unfold cL cF;rw[bK,bK,bK,decide_eq_true (show p<256 by omega),decide_eq_true (show p ^^^ 2^i<256 by omega),e];by_cases h:p.testBit i=one
 ·rw[if_pos h,h]
  cases one <;> simp
 ·rw[if_neg h];have h3:(!p.testBit i)=one:=by cases hb:p.testBit i <;> cases one <;> simp_all
  rw[h3];have h4:(p.testBit i==one)=false:=by rw[beq_eq_false_iff_ne];exact h
  rw[h4];simp
theorem lW {s n i:Nat}(hn:n≤8)(hs:ck s (bn n))(hi:i<n)(one:Bool):ck (cL (cF s i one) i) (bn n):=fun p hp=>by
 unfold cL cF at hp;rw[bK,bK,bK] at hp;simp only[Bool.and_eq_true,Bool.or_eq_true] at hp;rw[gr hn,decide_eq_true_eq];rcases hp.2 with h | h
 ·exact fp hn hs h.2.1
 ·have:=mF hi (fp hn hs h.2.1)
  rwa [flip_flip] at this
theorem nC {s n i:Nat}(hn:n≤8)(hs:ck s (bn n))(hi:i<n)(one:Bool){j:Nat}(hj:j<i→uy n s j)(hji:j≤i):uy n (cL (cF s i one) i) j:=fun p hp=>by
 have hjn:j<n:=by omega
 have hq:=mF hjn hp;rw[jD hn hs hi one hq,jD hn hs hi one hp];by_cases he:j=i
 ·subst he;have e:(p ^^^ 2^j).testBit j= !p.testBit j:=by rw[Nat.testBit_xor,Nat.testBit_two_pow];simp
  rw[e];by_cases h:p.testBit j=one
  ·rw[if_pos h,if_neg (by rw[h];cases one <;> decide),flip_flip]
  ·rw[if_neg h,if_pos (by cases hb:p.testBit j <;> cases one <;> simp_all)]
 ·have e:(p ^^^ 2^j).testBit i=p.testBit i:=by rw[Nat.testBit_xor,Nat.testBit_two_pow];simp[he]
  rw[e];have hI:=hj (by omega);by_cases h:p.testBit i=one
  ·rw[if_pos h,if_pos h];exact hI p hp
  ·rw[if_neg h,if_neg h,Nat.xor_assoc,Nat.xor_comm (2^j),← Nat.xor_assoc];exact hI _ (mF hi hp)
theorem tr {n a b j:Nat}(ha:a<2^256)(h1:uy n a j)(h2:uy n b j):uy n (bT a b) j:=fun p hp=>by
 rw[bW ha,bW ha,h1 p hp,h2 p hp]
theorem Bk {n a b j:Nat}(h1:uy n a j)(h2:uy n b j):uy n (a &&&b) j:=fun p hp=>by
 rw[Nat.testBit_and,Nat.testBit_and,h1 p hp,h2 p hp]
theorem JB {n a b j:Nat}(h1:uy n a j)(h2:uy n b j):uy n (a |||b) j:=fun p hp=>by
 rw[Nat.testBit_or,Nat.testBit_or,h1 p hp,h2 p hp]
theorem yj {n i:Nat}(hn:n≤8){L:List (Nat × Nat)}(h:∀ c ∈ L,gq n i c){j:Nat}(hj:j<i)(hjn:j<n):uy n (dk n L) j:=fun p hp=>by
 have key:∀ p,p<2^n→(dk n L).testBit p=true→(dk n L).testBit (p ^^^ 2^j)=true:=fun p hp hb=>by
  obtain ⟨c,hc,hcp⟩:=dI.1 hb;obtain ⟨h1,h2,h3⟩:=h c hc;refine dI.2 ⟨c,hc,?_⟩;rw[bA hn,iU h2] at hcp ⊢;refine ⟨mF hjn hp,fun k hk=>?_⟩;rw[Nat.testBit_xor,Nat.testBit_two_pow];have hne:¬ j=k:=fun e=>by subst e;rw[h3 j hj] at hk;cases hk
  simp[hne,hcp.2 k hk]
 rw[Bool.eq_iff_iff];constructor
 ·intro hb;have:=key _ (mF hjn hp) hb
  rwa [flip_flip] at this
 ·exact key p hp
theorem Bl {n s:Nat}(hn:n≤8)(hs:ck s (bn n))(h:∀ j,j<n→uy n s j)(h0:s≠0):s=bn n:=by
 have hs256:s<2^256:=by
  refine Nat.lt_pow_two_of_testBit _ fun p hp=>?_;rw[Bool.eq_false_iff];intro hb;have:=fp hn hs hb;have h2:2^n≤2^8:=Nat.pow_le_pow_right (by decide) hn;omega
 obtain ⟨q,hq⟩:∃ q,s.testBit q=true:=by
  refine Classical.byContradiction fun hno=>h0 (h_.2 fun i=>?_);rw[Bool.eq_false_iff];exact fun hb=>hno ⟨i,hb⟩
 have hql:=fp hn hs hq;have key:∀ k,k≤n→∀ p,p<2^n→(∀ j,k≤j→p.testBit j=q.testBit j)→s.testBit p=true:=fun k=>by
  induction k with
  | zero=>intro _ p hp hj;rw[show p=q from Nat.eq_of_testBit_eq fun j=>hj j (Nat.zero_le _)];exact hq
  | succ k ih=>
   intro hk p hp hj;by_cases hb:p.testBit k=q.testBit k
   ·exact ih (by omega) p hp fun j hkj=>by
     by_cases he:j=k
     ·subst he;exact hb
     ·exact hj j (by omega)
   ·rw[← h k (by omega) p hp];refine ih (by omega) _ (mF (by omega) hp) fun j hkj=>?_;rw[Nat.testBit_xor,Nat.testBit_two_pow];by_cases he:j=k
    ·subst he
     cases h1:p.testBit j <;> cases h2:q.testBit j <;> simp_all
    ·have:¬ k=j:=fun e=>he e.symm;simp[this,hj j (by omega)]
 refine Nat.eq_of_testBit_eq fun p=>?_;rw[gr hn];by_cases hp:p<2^n
 ·rw[decide_eq_true hp];exact key n (Nat.le_refl _) p hp fun j hj=>by rw[dB hp hj,dB hql hj]
 ·rw[decide_eq_false hp,Bool.eq_false_iff];exact fun hb=>hp (fp hn hs hb)
def dp (i:Nat)(b:Bool)(c:Nat × Nat):Nat × Nat:=(c.1 |||2^i,c.2 |||(if b then 2^i else 0))
theorem qW {n i:Nat}(hi:i<n)(b:Bool){c:Nat × Nat}(h:gq n (i+1) c):gq n i (dp i b c):=by
 obtain ⟨h1,h2,h3⟩:=h;refine ⟨Nat.or_lt_two_pow h1 (Nat.pow_lt_pow_right (by decide) hi),?_,fun j hj=>?_⟩
 ·have hs:=fun j=>congrArg (fun x=>x.testBit j) h2;simp only[Nat.testBit_and] at hs;refine Nat.eq_of_testBit_eq fun j=>?_;unfold dp;simp only[Nat.testBit_and,Nat.testBit_or];have:=hs j
  cases b
  ·simp only[Bool.false_eq_true,if_false,Nat.zero_testBit,Bool.or_false]
   cases hv:c.2.testBit j <;> simp_all
  ·simp only[if_true,Nat.testBit_two_pow]
   cases hv:c.2.testBit j <;> cases hm:c.1.testBit j <;> simp_all
 ·unfold dp;simp only[Nat.testBit_or,Nat.testBit_two_pow];rw[h3 j (by omega)];simp;omega
theorem yl {n i:Nat}(hn:n≤8)(hi:i<n)(b:Bool){c:Nat × Nat}(h:gq n (i+1) c){p:Nat}:(ba (dp i b c).1 (dp i b c).2 n).testBit p=true↔(ba c.1 c.2 n).testBit p=true∧p.testBit i=b:=by
 have h':=qW hi b h;have hci:c.1.testBit i=false:=h.from_ i (by omega);have hvi:c.2.testBit i=false:=by
  have:=congrArg (fun x=>x.testBit i) h.sub;simp only[Nat.testBit_and,hci,Bool.and_false] at this;exact this.symm
 rw[bA hn,bA hn,iU h'.sub,iU h.sub];constructor
 ·rintro ⟨hp,hb⟩;refine ⟨⟨hp,fun j hj=>?_⟩,?_⟩
  ·have:=hb j (by unfold dp;simp[Nat.testBit_or,hj]);rw[this];unfold dp;have hne:¬ i=j:=fun e=>by subst e;rw[hci] at hj;cases hj
   cases b <;> simp[Nat.testBit_or,Nat.testBit_two_pow,hne]
  ·have:=hb i (by unfold dp;simp[Nat.testBit_or,Nat.testBit_two_pow]);rw[this];unfold dp
   cases b <;> simp[Nat.testBit_or,Nat.testBit_two_pow,hvi]
 ·rintro ⟨⟨hp,hb⟩,hpi⟩;refine ⟨hp,fun j hj=>?_⟩;by_cases he:i=j
  ·subst he;rw[hpi];unfold dp
   cases b <;> simp[Nat.testBit_or,Nat.testBit_two_pow,hvi]
  ·have hj':c.1.testBit j=true:=by
    unfold dp at hj;simpa [Nat.testBit_or,Nat.testBit_two_pow,he] using hj
   rw[hb j hj'];unfold dp
   cases b <;> simp[Nat.testBit_or,Nat.testBit_two_pow,he]
theorem j2 {n p:Nat}{L M:List (Nat × Nat)}:(dk n (L++M)).testBit p=true↔(dk n L).testBit p=true∨(dk n M).testBit p=true:=by
 rw[dI,dI,dI];constructor
 ·rintro ⟨c,hc,hp⟩;rcases List.mem_append.1 hc with h | h
  ·exact .inl ⟨c,h,hp⟩
  ·exact .inr ⟨c,h,hp⟩
 ·rintro (⟨c,hc,hp⟩ | ⟨c,hc,hp⟩)
  ·exact ⟨c,List.mem_append_left _ hc,hp⟩
  ·exact ⟨c,List.mem_append_right _ hc,hp⟩
theorem p7 {n i:Nat}(hn:n≤8)(hi:i<n)(b:Bool){L:List (Nat × Nat)}(h:∀ c ∈ L,gq n (i+1) c){p:Nat}:(dk n (L.map (dp i b))).testBit p=true↔(dk n L).testBit p=true∧p.testBit i=b:=by
 rw[dI,dI];constructor
 ·rintro ⟨c,hc,hp⟩;obtain ⟨d,hd,rfl⟩:=List.mem_map.1 hc;have:=(yl hn hi b (h d hd)).1 hp;exact ⟨⟨d,hd,this.1⟩,this.2⟩
 ·rintro ⟨⟨d,hd,hp⟩,hb⟩;exact ⟨_,List.mem_map.2 ⟨d,hd,rfl⟩,(yl hn hi b (h d hd)).2 ⟨hp,hb⟩⟩
theorem EA {n i on may:Nat}(hn:n≤8)(hi:i<n)(hon:ck on may)(hmay:ck may (bn n)){L0 L1 L2:List (Nat × Nat)}(h0:kD n (i+1) (bT (cL (cF on i false) i) (cL (cF may i true) i)) (cL (cF may i false) i) L0)(h1:kD n (i+1) (bT (cL (cF on i true) i) (cL (cF may i false) i)) (cL (cF may i true) i) L1)(h2:kD n (i+1) (bT (cL (cF on i false) i) (dk n L0) |||bT (cL (cF on i true) i) (dk n L1)) (cL (cF may i false) i &&&cL (cF may i true) i) L2) :
  kD n i on may (L0.map (dp i false)++L1.map (dp i true)++L2):=by
 have hona:ck on (bn n):=hon.trans hmay;have mb:∀ b p,p<2^n→p.testBit i=b→(cL (cF may i b) i).testBit p=may.testBit p:=fun b p hp hb=>by rw[jD hn hmay hi b hp,if_pos hb]
 have ob:∀ b p,p<2^n→p.testBit i=b→(cL (cF on i b) i).testBit p=on.testBit p:=fun b p hp hb=>by rw[jD hn hona hi b hp,if_pos hb]
 have lo:∀ b,cL (cF on i b) i<2^256:=fun b=>dm _;have ma:∀ b,ck (cL (cF may i b) i) (bn n):=fun b=>lW hn hmay hi b;refine ⟨fun c hc=>?_,fun p hp=>?_,fun p hp=>?_,?_⟩
 ·rw[List.mem_append,List.mem_append] at hc;rcases hc with (hc | hc) | hc
  ·obtain ⟨d,hd,rfl⟩:=List.mem_map.1 hc;exact qW hi _ (h0.cubes d hd)
  ·obtain ⟨d,hd,rfl⟩:=List.mem_map.1 hc;exact qW hi _ (h1.cubes d hd)
  ·have:=h2.cubes c hc;exact ⟨this.lt,this.sub,fun j hj=>this.from_ j (by omega)⟩
 ·rw[j2,j2,p7 hn hi _ h0.cubes,p7 hn hi _ h1.cubes] at hp;rcases hp with (⟨hp,hb⟩ | ⟨hp,hb⟩) | hp
  ·have h:=h0.um p hp
   rwa [mb false p (fp hn (ma _) h) hb] at h
  ·have h:=h1.um p hp
   rwa [mb true p (fp hn (ma _) h) hb] at h
  ·have h:=h2.um p hp;rw[Nat.testBit_and,Bool.and_eq_true] at h
   cases hb:p.testBit i with
   | false=>rw[← mb false p (fp hn (ma _) h.1) hb];exact h.1
   | true=>rw[← mb true p (fp hn (ma _) h.2) hb];exact h.2
 ·have hpn:=fp hn hona hp;rw[j2,j2,p7 hn hi _ h0.cubes,p7 hn hi _ h1.cubes]
  cases hb:p.testBit i with
  | false=>
   have ho:=ob false p hpn hb;rw[hp] at ho
   cases hh:(dk n L0).testBit p with
   | true=>exact .inl (.inl ⟨rfl,rfl⟩)
   | false=>exact .inr (h2.out p (by rw[Nat.testBit_or,bW (lo _),ho,hh];rfl))
  | true=>
   have ho:=ob true p hpn hb;rw[hp] at ho
   cases hh:(dk n L1).testBit p with
   | true=>exact .inl (.inr ⟨rfl,rfl⟩)
   | false=>exact .inr (h2.out p (by rw[Nat.testBit_or,bW (lo true),ho,hh];simp))
 ·have a0:=h0.len;have a1:=h1.len;have a2:=h2.len;rw[List.length_append,List.length_append,List.length_map,List.length_map,show n - i=(n - (i+1))+1 by omega,Nat.pow_succ];omega
theorem EB {n i on may:Nat}(hn:n≤8)(hi:i<n)(hon:ck on may)(hmay:ck may (bn n)){L0 L1:List (Nat × Nat)}(h0:kD n (i+1) (bT (cL (cF on i false) i) (cL (cF may i true) i)) (cL (cF may i false) i) L0)(h1:kD n (i+1) (bT (cL (cF on i true) i) (cL (cF may i false) i)) (cL (cF may i true) i) L1) :
  ck (bT (cL (cF on i false) i) (dk n L0) |||bT (cL (cF on i true) i) (dk n L1)) (cL (cF may i false) i &&&cL (cF may i true) i):=by
 have hona:ck on (bn n):=hon.trans hmay;have lo:∀ b,cL (cF on i b) i<2^256:=fun b=>dm _;have om:∀ b,ck (cL (cF on i b) i) (cL (cF may i b) i):=fun b p hp=>by
  have hpn:=fp hn (lW hn hona hi b) hp;rw[jD hn hona hi b hpn] at hp;rw[jD hn hmay hi b hpn];exact hon _ hp
 intro p hp;rw[Nat.testBit_or,bW (lo _),bW (lo _),Bool.or_eq_true,Bool.and_eq_true,Bool.and_eq_true] at hp;rw[Nat.testBit_and,Bool.and_eq_true];rcases hp with ⟨ho,hh⟩ | ⟨ho,hh⟩
 ·refine ⟨om _ p ho,?_⟩
  cases hm:(cL (cF may i true) i).testBit p with
  | true=>rfl
  | false=>
   have:=h0.out p (by rw[bW (lo _),ho,hm];rfl);rw[this] at hh
   cases hh
 ·refine ⟨?_,om _ p ho⟩
  cases hm:(cL (cF may i false) i).testBit p with
  | true=>rfl
  | false=>
   have:=h1.out p (by rw[bW (lo _),ho,hm];rfl);rw[this] at hh
   cases hh
theorem ym {n i on may:Nat}(hn:n≤8)(hi:i<n)(hon:ck on may)(hmay:ck may (bn n))(b c:Bool):ck (bT (cL (cF on i b) i) (cL (cF may i c) i)) (cL (cF may i b) i):=fun p hp=>by
 have hona:ck on (bn n):=hon.trans hmay;rw[bW (show cL (cF on i b) i<2^256 from dm _),Bool.and_eq_true] at hp;have hpn:=fp hn (lW hn hona hi b) hp.1;have h1:=hp.1;rw[jD hn hona hi b hpn] at h1;rw[jD hn hmay hi b hpn];exact hon _ h1
theorem gq.Bn {n i:Nat}(hn:n≤8){c:Nat × Nat}(h:gq n i c):c.1<256∧c.2<256:=by
 have h2:2^n≤2^8:=Nat.pow_le_pow_right (by decide) hn;have:=h.lt;have:=sub_lt h.lt h.sub;omega
theorem gq.right {n i:Nat}(hn:n≤8){c:Nat × Nat}(h:gq n i c):dC c.1 c.2 n=true:=by
 obtain ⟨h1,h2⟩:=h.Bn hn;rw[eh h1 h2];exact ⟨by omega,by omega,by rw[Int.toNat_natCast];exact h.lt,h.sub⟩
end Go.Dk
namespace Go.Proofs.YtpjihhgjbbihkaaGreatDoor
open Go.Proofs.Tryz
open Go.Dk
set_option maxRecDepth 100000
attribute [local irreducible] IntKind.wrap
def bY (c:Nat × Nat):List Value:=[.int .u8 (c.1:Int),.int .u8 (c.2:Int)]
theorem fh (c:Nat × Nat):(bY c).length=2:=rfl
theorem EC (c:Nat × Nat):∀ v ∈ bY c,v.oneCell'=true:=vT c.1 c.2
def gV (n:Nat):Array Value:=#[.int .i64 (n:Int),.int .u64 (word (bn n) 0:Int),.int .u64 (word (bn n) 1:Int),.int .u64 (word (bn n) 2:Int),.int .u64 (word (bn n) 3:Int)]
def yn (n:Nat):Value:=.agg (gV n)
theorem zO:cH prog 223=some true:=by kernel_rfl
theorem wo:bB prog 223=some 5:=by kernel_rfl
theorem GG (g:Nat)(w:World):(Instr.fieldAt 223 (ah g) 0).run prog w=.ok (ah g) w:=by kernel_rfl
theorem Bp (g:Nat)(w:World):(Instr.fieldAt 223 (ah g) 1).run prog w=.ok (.pointer (some ⟨g,1,none⟩)) w:=by kernel_rfl
theorem ED:cH prog 146=some false:=by kernel_rfl
theorem GH:bB prog 146=some 1:=by kernel_rfl
theorem wq:qu prog 146 48 (cv 0 0) 2 2:=⟨underlying146,by kernel_rfl,rfl,by decide⟩
theorem qX {l:List (Nat × Nat)}{j:Nat}(h:j<l.length):∃ x,l[j]?=some x∧x ∈ l:=⟨_,List.getElem?_eq_getElem h,List.getElem_mem h⟩
theorem JC:enters prog 190=true:=by kernel_rfl
theorem Nz (n i0:Nat)(hn:n≤8)(L:List (Nat × Nat))(hL:∀ c ∈ L,gq n i0 c)(hl:L.length≤1000000)(A:Option Addr)(c:Nat)(w:World)(hA:Sl w (.slice A L.length c) 2 L.length (flat bY L)) :
  bt prog 190 [yn n,.slice A L.length c] w fun r w'=>r=sv (dk n L)∧aT w w':=by
 refine ar (N:=28) func190 JC rfl rfl rfl (by simp) ?_;have H:=Hp.aC w;refine ak (γ:=Nat × Nat) (fun (g2,g4)=>[(2,(ah g2)),(4,(ah g4))]) (fun (g2,g4) w'=>Hp w ab w' [an g4 86 (sc 0),an g2 223 (gV n)] []) ?_ ?_
 ·refine H.box 223 (yn n) (cs:=gV n) rfl ?_;clear H;intro g2 w1 H;refine H.alloc 86 (cs:=sc 0) bo aY ?_;clear H;intro g4 w2 H;exact ⟨(g2,g4),⟨rfl,rfl,trivial⟩,H⟩
 clear H;rintro ⟨g2,g4⟩ u w1 H;refine ak (γ:=Nat) (fun g5=>[(5,(ah g5))]) (fun g5 w'=>Hp w ab w' [an g5 86 (sc 0),an g4 86 (sc 0),an g2 223 (gV n)] []) ?_ ?_
 ·refine H.alloc 86 (cs:=sc 0) bo aY ?_;clear H;intro g5 w2 H;exact ⟨g5,⟨rfl,trivial⟩,H⟩
 clear H;rintro g5 u w2 H;refine aw (fun w'=>Hp w ab w' [an g5 86 (sc (dk n L)),an g4 86 (sc 0)] []) ?_ ?_
 ·refine ay underlying146 ?_;refine ax (γ:=Nat) (fun k=>[(12,.int .i64 (k:Int))]) (fun k w'=>k≤L.length∧Hp w ab w' [an g5 86 (sc (dk n (L.take k))),an g4 86 (sc 0),an g2 223 (gV n)] []) (fun k=>L.length - k) 0 ⟨rfl,trivial⟩ ⟨Nat.zero_le _,H⟩ ?_;clear H;rintro k u w4 ⟨hk,H⟩;refine au (fun h7=>?_) (fun h7=>?_)
  ·obtain ⟨x,hx,hxin⟩:=qX (l:=L) (j:=k) (by omega);have hst:=zN n (L.take k) x;rw[← iH hx] at hst;obtain ⟨hm,hv⟩:=(hL x hxin).Bn hn;have hr:=(hL x hxin).right hn;obtain ⟨m,v⟩:=x;simp only at hm hv hr hst;obtain ⟨gA,oA,rfl⟩:=hA.A (by omega);generalize dk n (L.take k)=s0 at H hst;refine aw (fun w'=>Hp w ab w' [an g5 86 (sc (dk n (L.take (k+1)))),an g4 86 (sc 0),an g2 223 (gV n)] []) ?_ ?_
   ·refine ak (γ:=Nat) (fun g7=>[(7,(ah g7))]) (fun g7 w'=>Hp w ab w' [an g7 48 (cc m v),an g5 86 (sc s0),an g4 86 (sc 0),an g2 223 (gV n)] []) ?_ ?_
    ·refine aq underlying146 aO k rfl (by omega) (o':=oA+k*2) (by omega) ?_;refine Sl.cI H hA fh bw aO k rfl hx ?_;refine H.alloc 48 (cs:=cc 0 0) fa rfl ?_;clear H;intro g7 w5 H;refine H.bQ (c:=m) (d:=v) 0 rfl ?_;clear H;intro w6 H;exact ⟨g7,⟨rfl,trivial⟩,H⟩
    clear H;rintro g7 u w5 H;refine ak (γ:=Nat) (fun g8=>[(8,(ah g8))]) (fun g8 w'=>Hp w ab w' [an g8 86 (sc (ba m v n)),an g5 86 (sc s0),an g4 86 (sc 0),an g2 223 (gV n)] []) ?_ ?_
    ·refine H.ai 0 rfl bw aO ?_;refine aa (GG _) ?_;refine H.load 3 rfl aE rfl ?_;have hc:=Ni m v hm hv (n:Int) w5;rw[hr,if_pos rfl,Int.toNat_natCast] at hc;refine aj hc ?_;clear hc;rintro _ w6 ⟨rfl,hk⟩;replace H:=H.same hk;clear hk;refine H.alloc 86 (cs:=sc 0) bo aY ?_;clear H;intro g8 w7 H;refine H.aW 0 rfl ?_;clear H;intro w8 H;exact ⟨g8,⟨rfl,trivial⟩,H.b6 [0,2,3,4] (by decide) rfl⟩
    clear H;rintro g8 u w6 H;refine H.ai 1 rfl aD av ?_;refine H.ai 0 rfl aD av ?_;refine aj (K8 _ _ _) ?_;rintro _ w8 ⟨rfl,hk⟩;replace H:=H.same hk;refine H.aW 1 rfl ?_;clear H;intro w9 H;exact ⟨(),trivial,by rw[hst];exact H.forget⟩
   ·clear H;rintro ⟨⟩ u w5 H;exact ⟨k+1,by show L.length - (k+1)<L.length - k;omega,⟨up (by omega),trivial⟩,by show k+1≤L.length;omega,H⟩
  ·have:k=L.length:=by omega
   subst this;rw[List.take_length] at H;exact ⟨(),trivial,H.b6 [0,1] (by decide) rfl⟩
 clear H;rintro ⟨⟩ u w4 H;refine H.ai 0 rfl aD av ?_;refine H.aW 1 rfl ?_;clear H;intro w5 H;refine H.ai 1 rfl aD av ?_;exact ⟨rfl,rfl,H.keeps⟩
end Go.Proofs.YtpjihhgjbbihkaaGreatDoor
namespace Go.Dk
theorem rX {P:Program}{t:TypeId}{xo yo:Operand}{w:World}{kk:Value→World→Prop}{yk:IntKind}{n:Nat}(h:kk (.int .u8 ((0:Nat):Int)) w):cU P .shl t xo yo (.int .u8 0) (.int yk (n:Int)) w kk:=by
 refine r4 (by omega) ?_;rw[Int.zero_mul];exact h
end Go.Dk
namespace Go.Proofs.YtpjihhgjbbihkaaGreatDoor
open Go.Proofs.Tryz
open Go.Dk
set_option maxRecDepth 100000
attribute [local irreducible] IntKind.wrap
def a2 (f:Bool→Nat):Array Value:=(bH (f false)++bH (f true)).toArray
def bN (b:Bool):Nat:=if b then 1 else 0
theorem lk (f:Bool→Nat)(b:Bool):∀ (j:Nat) v,(bH (f b))[j]?=some v→(a2 f)[bN b*4+j]?=some v:=fun j v hj=>by
 have hl:=(List.getElem?_eq_some_iff.1 hj).1;rw[bO] at hl;unfold a2;rw[List.getElem?_toArray]
 cases b with
 | false=>rw[show bN false*4+j=j by unfold bN;simp,List.getElem?_append_left (by rw[bO];exact hl)];exact hj
 | true=>rw[show bN true*4+j=4+j by unfold bN;simp,List.getElem?_append_right (by rw[bO];omega),bO,Nat.add_sub_cancel_left];exact hj
def tt (n i:Nat)(on may:Nat):Prop:=ck on may∧ck may (bn n)∧(∀ j,j<i→uy n on j)∧(∀ j,j<i→uy n may j)∧on<2^256
def zP (n i:Nat):Prop:=∀ (on may:Nat) (w:World),tt n i on may→bt prog 159 [yn n,sv on,sv may,.int .i64 (i:Int)] w fun r w'=>
 ∃ A c L,r=.slice A L.length c∧kD n i on may L∧eX w w' (own 48 2 (.slice A L.length c) L.length (flat bY L))
theorem wu:eH prog 241=some (.agg (a2 fun _=>0)):=by kernel_rfl
theorem JD:enters prog 189=true:=by kernel_rfl
theorem LM {n i:Nat}(hn:n≤8)(hi:i<n)(IH:zP n (i+1))(b:Bool)(on may:Bool→Nat)(rest:Nat)(out:List (Nat × Nat))(g1 g2 g3 g4 g5 g6:Nat)(B:Option Addr)(co:Nat)(w0 w:World)(X:List cC)(hok:tt n (i+1) (bT (on b) (may !b)) (may b))(hon:on b<2^256)(hout:out.length≤100000)(H:Hp w0 ab w (an g5 86 (sc rest)::an g6 146 #[.slice B out.length co]::own 48 2 (.slice B out.length co) out.length (flat bY out)::an g1 223 (gV n)::an g2 241 (a2 on)::an g3 241 (a2 may)::an g4 3 #[.int .i64 (i:Int)]::X) []) :
  bt prog 189 ([.int .i64 (bN b:Int)]++[(ah g1),(ah g2),(ah g3),(ah g4),(ah g5),(ah g6)]) w fun v w'=>
   v=.tuple #[]∧∃ l B' c',kD n (i+1) (bT (on b) (may !b)) (may b) l∧
    Hp w0 ab w' (an g5 86 (sc (rest |||bT (on b) (dk n l)))::an g6 146 #[.slice B' (out++l.map (dp i b)).length c']::own 48 2 (.slice B' (out++l.map (dp i b)).length c') (out++l.map (dp i b)).length (flat bY (out++l.map (dp i b)))::an g1 223 (gV n)::an g2 241 (a2 on)::an g3 241 (a2 may)::an g4 3 #[.int .i64 (i:Int)]::X) []:=by
 refine ar (N:=60) func189 JD rfl rfl rfl (by simp) ?_;have hb1:bN b<2:=by unfold bN;cases b <;> decide
 have hb2:bN (!b)<2:=by unfold bN;cases b <;> decide
 have hsub:IntKind.i64.wrap (1 - (bN b:Int))=(bN (!b):Int):=by
  cases b <;> (unfold bN;rw[aH (by simp) (by simp)];rfl)
 have hadd:IntKind.i64.wrap ((i:Int)+1)=((i+1:Nat):Int):=by rw[aH (by omega) (by omega)];omega
 refine ak (γ:=Option Addr × Nat × List (Nat × Nat)) (fun (A,c,l)=>[(8,.slice A l.length c)]) (fun (A,c,l) w'=>kD n (i+1) (bT (on b) (may !b)) (may b) l∧Hp w0 ab w' (own 48 2 (.slice A l.length c) l.length (flat bY l)::an g5 86 (sc rest)::an g6 146 #[.slice B out.length co]::own 48 2 (.slice B out.length co) out.length (flat bY out)::an g1 223 (gV n)::an g2 241 (a2 on)::an g3 241 (a2 may)::an g4 3 #[.int .i64 (i:Int)]::X) []) ?_ ?_
 ·refine H.draw eS (by kernel_rfl) ?_;clear H;intro w1 H;refine quiet (yn n) (fun w H=>H.ai 3 rfl zO wo ae) ?_;refine quiet _ (fun w H=>aK underlying241 av (bN b) rfl hb1 (o':=bN b*4) (by omega) ae) ?_;refine quiet (sv (on b)) (fun w H=>H.cW 4 rfl (bH (on b)) aD av (lk on b) ae) ?_;refine quiet _ (fun w H=>aK underlying241 av (bN (!b)) hsub hb2 (o':=bN (!b)*4) (by omega) ae) ?_;refine quiet (sv (may !b)) (fun w H=>H.cW 5 rfl (bH (may !b)) aD av (lk may !b) ae) ?_;refine aj (M4 (on b) (may !b) hon _) ?_;rintro _ w2 ⟨rfl,hk⟩;replace H:=H.same hk;refine ⟨.inl H,?_⟩;refine quiet _ (fun w H=>aK underlying241 av (bN b) rfl hb1 (o':=bN b*4) (by omega) ae) ?_;refine quiet (sv (may b)) (fun w H=>H.cW 5 rfl (bH (may b)) aD av (lk may b) ae) ?_;refine quiet _ (fun w H=>H.load 6 rfl aE rfl ae) ?_;have hc:=IH (bT (on b) (may !b)) (may b) w2 hok;rw[← hadd] at hc;refine aj hc ?_;rintro _ w3 ⟨A,c,l,rfl,hcov,hn⟩;replace H:=H.bD hn;refine ⟨.inl H.forget,?_⟩;exact ⟨(A,c,l),⟨rfl,trivial⟩,hcov,H⟩
 clear H;rintro ⟨A,c,l⟩ u w1 ⟨hcov,H⟩;have hll:l.length≤6561:=Nat.le_trans hcov.len (by have:=Nat.pow_le_pow_right (show 0<3 by decide) (show n - (i+1)≤8 by omega);omega);refine aw (fun w'=>Hp w0 ab w' (own 48 2 (.slice A l.length c) l.length (flat bY l)::an g5 86 (sc (rest |||bT (on b) (dk n l)))::an g6 146 #[.slice B out.length co]::own 48 2 (.slice B out.length co) out.length (flat bY out)::an g1 223 (gV n)::an g2 241 (a2 on)::an g3 241 (a2 may)::an g4 3 #[.int .i64 (i:Int)]::X) []) ?_ ?_
 ·refine H.draw eS (by kernel_rfl) ?_;clear H;intro w2 H;refine quiet _ (fun w H=>H.ai 1 rfl aD av ae) ?_;refine quiet _ (fun w H=>aK underlying241 av (bN b) rfl hb1 (o':=bN b*4) (by omega) ae) ?_;refine quiet (sv (on b)) (fun w H=>H.cW 5 rfl (bH (on b)) aD av (lk on b) ae) ?_;refine quiet (yn n) (fun w H=>H.ai 4 rfl zO wo ae) ?_;refine aj (Nz n (i+1) hn l hcov.cubes (by omega) A c _ (bE (H.get 0 rfl))) ?_;rintro _ w3 ⟨rfl,hk⟩;replace H:=H.same hk;refine ⟨.inl H,?_⟩;refine aj (M4 (on b) _ hon _) ?_;rintro _ w4 ⟨rfl,hk⟩;replace H:=H.same hk;refine ⟨.inl H,?_⟩;refine aj (K8 _ _ _) ?_;rintro _ w5 ⟨rfl,hk⟩;replace H:=H.same hk;refine ⟨.inl H,?_⟩;refine H.aW 1 rfl ?_;clear H;intro w6 H;refine ⟨.inr rfl,?_⟩;exact ⟨(),trivial,H⟩
 clear H;rintro ⟨⟩ u w2 H;generalize hrd:rest |||bT (on b) (dk n l)=rest' at H;refine ay underlying146 ?_;refine ax (γ:=Nat × Option Addr × Nat) (fun (k,_)=>[(37,.int .i64 (k:Int))]) (fun (k,B,co) w'=>k≤l.length∧Hp w0 ab w' (own 48 2 (.slice A l.length c) l.length (flat bY l)::an g5 86 (sc rest')::an g6 146 #[.slice B (out++(l.take k).map (dp i b)).length co]::own 48 2 (.slice B (out++(l.take k).map (dp i b)).length co) (out++(l.take k).map (dp i b)).length (flat bY (out++(l.take k).map (dp i b)))::an g1 223 (gV n)::an g2 241 (a2 on)::an g3 241 (a2 may)::an g4 3 #[.int .i64 (i:Int)]::X) []) (fun (k,_)=>l.length - k) (0,B,co) ⟨rfl,trivial⟩ ⟨Nat.zero_le _,by rw[List.take_zero,List.map_nil,List.append_nil];exact H⟩ ?_;clear H;rintro ⟨k,B,co⟩ u w3 ⟨hk,H⟩;refine au (fun h7=>?_) (fun h7=>?_)
 ·obtain ⟨x,hx,hxin⟩:=qX (l:=l) (j:=k) (by omega);have hcub:=hcov.cubes x hxin;obtain ⟨hm,hv⟩:=hcub.Bn hn;have htk:out++(l.take (k+1)).map (dp i b)=(out++(l.take k).map (dp i b))++[dp i b x]:=by rw[iH hx,List.map_append,List.append_assoc];rfl
  have hol:(out++(l.take k).map (dp i b)).length≤110000:=by rw[List.length_append,List.length_map,List.length_take];omega
  refine ak (γ:=Option Addr × Nat) (fun _=>[]) (fun (B,co) w'=>Hp w0 ab w' (own 48 2 (.slice A l.length c) l.length (flat bY l)::an g5 86 (sc rest')::an g6 146 #[.slice B (out++(l.take (k+1)).map (dp i b)).length co]::own 48 2 (.slice B (out++(l.take (k+1)).map (dp i b)).length co) (out++(l.take (k+1)).map (dp i b)).length (flat bY (out++(l.take (k+1)).map (dp i b)))::an g1 223 (gV n)::an g2 241 (a2 on)::an g3 241 (a2 may)::an g4 3 #[.int .i64 (i:Int)]::X) []) ?_ ?_
  ·rw[htk];generalize out++(l.take k).map (dp i b)=O at H hol;obtain ⟨m,v⟩:=x;simp only at hm hv;have h2:2^i<256:=show 2^i<2^8 from Nat.pow_lt_pow_right (by decide) (by omega);obtain ⟨gA,rfl⟩:=H.mq 0 rfl (by omega);refine ak (γ:=Nat) (fun g10=>[(10,(ah g10))]) (fun g10 w'=>Hp w0 ab w' (an g10 48 (cc m v)::own 48 2 (.slice (some ⟨gA,0,none⟩) l.length c) l.length (flat bY l)::an g5 86 (sc rest')::an g6 146 #[.slice B (O).length co]::own 48 2 (.slice B (O).length co) (O).length (flat bY (O))::an g1 223 (gV n)::an g2 241 (a2 on)::an g3 241 (a2 may)::an g4 3 #[.int .i64 (i:Int)]::X) []) ?_ ?_
   ·refine aq underlying146 aO k rfl (by omega) (o':=k*2) (by omega) ?_;refine H.gf 0 rfl fh bw aO k rfl hx ?_;refine H.alloc 48 (cs:=cc 0 0) fa rfl ?_;clear H;intro g10 w5 H;refine H.bQ (c:=m) (d:=v) 0 rfl ?_;clear H;intro w6 H;exact ⟨g10,⟨rfl,trivial⟩,H⟩
   clear H;rintro g10 u w4 H;refine aw (fun w'=>Hp w0 ab w' (an g10 48 (cc (dp i b (m,v)).1 v)::own 48 2 (.slice (some ⟨gA,0,none⟩) l.length c) l.length (flat bY l)::an g5 86 (sc rest')::an g6 146 #[.slice B (O).length co]::own 48 2 (.slice B (O).length co) (O).length (flat bY (O))::an g1 223 (gV n)::an g2 241 (a2 on)::an g3 241 (a2 may)::an g4 3 #[.int .i64 (i:Int)]::X) []) ?_ ?_
   ·refine H.draw eS (by kernel_rfl) ?_;clear H;intro w5 H;refine quiet _ (fun w H=>aa (b9 _) ae) ?_;refine quiet _ (fun w H=>H.load 0 rfl cg rfl ae) ?_;refine quiet _ (fun w H=>H.load 8 rfl aE rfl ae) ?_;refine quiet _ (fun w H=>b8 (by omega) ae) ?_;refine quiet _ (fun w H=>iW (by omega) (by omega) ae) ?_;refine quiet _ (fun w H=>aa (b9 _) ae) ?_;refine H.store 0 rfl lf (by show 0<2;decide) rfl ?_;clear H;intro w6 H;refine ⟨.inr rfl,?_⟩;exact ⟨(),trivial,H⟩
   clear H;rintro ⟨⟩ u w5 H;refine aw (fun w'=>Hp w0 ab w' (an g10 48 (cc (dp i b (m,v)).1 (dp i b (m,v)).2)::own 48 2 (.slice (some ⟨gA,0,none⟩) l.length c) l.length (flat bY l)::an g5 86 (sc rest')::an g6 146 #[.slice B (O).length co]::own 48 2 (.slice B (O).length co) (O).length (flat bY (O))::an g1 223 (gV n)::an g2 241 (a2 on)::an g3 241 (a2 may)::an g4 3 #[.int .i64 (i:Int)]::X) []) ?_ ?_
   ·refine H.draw eS (by kernel_rfl) ?_;clear H;intro w6 H;clear hsub hb1 hb2 hok hon IH hcov
    cases b with
    | false=>
     refine quiet _ (fun w H=>aa (fJ _) ae) ?_;refine quiet _ (fun w H=>H.load 0 rfl cg rfl ae) ?_;refine quiet _ (fun w H=>jZ (by kernel_rfl) underlying5 (by decide) (by decide) ae) ?_;refine quiet _ (fun w H=>H.load 8 rfl aE rfl ae) ?_;refine quiet _ (fun w H=>rX ae) ?_;refine quiet _ (fun w H=>iW (b:=0) (by omega) (by omega) ae) ?_;refine quiet _ (fun w H=>aa (fJ _) ae) ?_;refine H.store 0 rfl lf (Nat.le_of_ble_eq_true rfl) rfl ?_;clear H;intro w11 H;refine ⟨.inr rfl,?_⟩;exact ⟨(),trivial,H⟩
    | true=>
     refine quiet _ (fun w H=>aa (fJ _) ae) ?_;refine quiet _ (fun w H=>H.load 0 rfl cg rfl ae) ?_;refine quiet _ (fun w H=>jZ (by kernel_rfl) underlying5 (by decide) (by decide) ae) ?_;refine quiet _ (fun w H=>H.load 8 rfl aE rfl ae) ?_;refine quiet _ (fun w H=>b8 (by omega) ae) ?_;refine quiet _ (fun w H=>iW (by first | assumption | omega | (repeat' (first | assumption | refine df ?_ _ | refine xor_lt8 ?_ ?_ | refine or_lt8 ?_ ?_))) (by first | assumption | omega | (repeat' (first | assumption | refine df ?_ _ | refine xor_lt8 ?_ ?_ | refine or_lt8 ?_ ?_))) ae) ?_;refine quiet _ (fun w H=>aa (fJ _) ae) ?_;refine H.store 0 rfl lf (Nat.le_of_ble_eq_true rfl) rfl ?_;clear H;intro w16 H;refine ⟨.inr rfl,?_⟩;exact ⟨(),trivial,H⟩
   clear H;rintro ⟨⟩ u w6 H;refine H.load 3 rfl ED rfl ?_;refine H.ai 0 rfl bw aO ?_;refine H.bg wq (cs:=cc (dp i b (m,v)).1 (dp i b (m,v)).2) (by decide) (by decide) (by kernel_rfl) ?_;clear H;intro g20 w7 H;refine H.aG 5 0 wq rfl rfl rfl (vT _ _) (by omega) (by omega) ?_;clear H;intro B2 d2 w8 H;refine H.store 4 rfl GH (by show 0<1;decide) rfl ?_;clear H;intro w9 H;have e1:(O++[dp i b (m,v)]).length=O.length+1:=by rw[List.length_append];rfl
   have e2:flat bY (O++[dp i b (m,v)])=flat bY O++bY (dp i b (m,v)):=du ..;exact ⟨(B2,d2),trivial,by rw[e1,e2];exact H.forget.forget⟩
  ·clear H;rintro ⟨B,co⟩ u w4 H;exact ⟨(k+1,B,co),by show l.length - (k+1)<l.length - k;omega,⟨up (by omega),trivial⟩,by show k+1≤l.length;omega,H⟩
 ·have:k=l.length:=by omega
  subst this;rw[List.take_length] at H;exact ⟨rfl,l,B,co,hcov,by rw[hrd];exact H.forget⟩
end Go.Proofs.YtpjihhgjbbihkaaGreatDoor
namespace Go.Dk
theorem Hp.fF {P:Program}{w0 w:World}{F:Nat→Prop}{L M:List cC}{k:Value→World→Prop}(H:Hp w0 F w L M)(n:Nat){g o:Nat}{t ty:TypeId}{cs cs' cs2:Array Value}(hn:L[n]?=some (an g t cs))(hs:bB P ty=some cs'.size)(hlen:o+cs'.size≤cs.size)(h1:∀ v ∈ cs'.toList,v.oneCell'=true)(h2:cs2=(cs.toList.take o++cs'.toList++cs.toList.drop (o+cs'.size)).toArray)(h:∀ w',Hp w0 F w' (L.set n (an g t cs2)) M→k undef w'):hH P ty (.pointer (some ⟨g,o,none⟩)) (.agg cs') w k:=by
 have hb:w.heap[g]?=some (.cells cs t (0,0)):=H.get n hn;obtain ⟨w',hr,hk,hb'⟩:=kj (P:=P) cs'.toList w cs o hb (by simp;omega) h1;unfold hH;refine ⟨w',?_,h _ (H.mQ n hn _ hk ?_ ?_)⟩
 ·have:storeCells ⟨g,o,none⟩ cs'.toList 0=storeCells ⟨g,0,none⟩ cs'.toList o:=ku g o cs'.toList 0;simp[Instr.storeAt,Instr.sureAddr,storeVar,Value.cells,run_sizeOf hs,this,hr]
 ·show w'.heap[g]?=_;rw[hb',h2];simp
 ·rintro x rfl;refine ⟨?_,.inl rfl⟩;exact Nat.lt_of_lt_of_le (iV (H.get n hn)) hk.size
end Go.Dk
namespace Go.Proofs.YtpjihhgjbbihkaaGreatDoor
open Go.Proofs.Tryz
open Go.Dk
set_option maxRecDepth 100000
attribute [local irreducible] IntKind.wrap
def GI (f:Bool→Nat)(b:Bool)(s:Nat):Bool→Nat:=fun c=>if c=b then s else f c
theorem EE (f:Bool→Nat)(b:Bool)(s:Nat):a2 (GI f b s)=((a2 f).toList.take (bN b*4)++(sc s).toList++(a2 f).toList.drop (bN b*4+(sc s).size)).toArray:=by
 cases b <;> rfl
theorem wv (f:Bool→Nat):(a2 f).size=8:=rfl
def aV (s i:Nat):Bool→Nat:=fun b=>cL (cF s i b) i
theorem tu {n i on may:Nat}(hn:n≤8)(hi:i<n)(h:tt n i on may)(b c:Bool):tt n (i+1) (bT (aV on i b) (aV may i c)) (aV may i b):=by
 obtain ⟨hom,hma,hion,himay,hon⟩:=h;have hona:ck on (bn n):=hom.trans hma;have i1:∀ d j,j<i+1→uy n (aV on i d) j:=fun d j hj=>nC hn hona hi d (fun h=>hion j h) (by omega);have i2:∀ d j,j<i+1→uy n (aV may i d) j:=fun d j hj=>nC hn hma hi d (fun h=>himay j h) (by omega);exact ⟨ym hn hi hom hma b c,lW hn hma hi b,fun j hj=>tr (dm _) (i1 b j hj) (i2 c j hj),i2 b,px _ _⟩
theorem zQ {n i on may:Nat}(hn:n≤8)(hi:i<n)(h:tt n i on may){L0 L1:List (Nat × Nat)}(h0:kD n (i+1) (bT (aV on i false) (aV may i true)) (aV may i false) L0)(h1:kD n (i+1) (bT (aV on i true) (aV may i false)) (aV may i true) L1) :
  tt n (i+1) (bT (aV on i false) (dk n L0) |||bT (aV on i true) (dk n L1)) (aV may i false &&&aV may i true):=by
 obtain ⟨hom,hma,hion,himay,hon⟩:=h;have hona:ck on (bn n):=hom.trans hma;have i1:∀ d j,j<i+1→uy n (aV on i d) j:=fun d j hj=>nC hn hona hi d (fun h=>hion j h) (by omega);have i2:∀ d j,j<i+1→uy n (aV may i d) j:=fun d j hj=>nC hn hma hi d (fun h=>himay j h) (by omega);refine ⟨EB hn hi hom hma h0 h1,fun p hp=>lW hn hma hi false p ?_,fun j hj=>JB (tr (dm _) (i1 _ j hj) (yj hn h0.cubes hj (by omega))) (tr (dm _) (i1 _ j hj) (yj hn h1.cubes hj (by omega))),fun j hj=>Bk (i2 _ j hj) (i2 _ j hj),H7 (px _ _) (px _ _)⟩;rw[Nat.testBit_and,Bool.and_eq_true] at hp;exact hp.1
theorem u_ (l:List (Nat × Nat)):∀ v ∈ flat bY l,v.oneCell'=true:=fun v hv=>by
 unfold flat at hv;obtain ⟨x,_,hx⟩:=List.mem_flatMap.1 hv;exact EC x v hx
theorem GJ:eH prog 146=some (.slice none 0 0):=by kernel_rfl
theorem JE:enters prog 159=true:=by kernel_rfl
theorem c159 (n:Nat)(hn:n≤8):∀ (f i:Nat),i≤n→n - i<f→zP n i
 | 0,i,_,h=>absurd h (Nat.not_lt_zero _)
 | f+1,i,hi,hf=>fun on may w hok=>by
  have IH:i<n→zP n (i+1):=fun h=>c159 n hn f (i+1) (by omega) (by omega);obtain ⟨hom,hma,hion,himay,hon⟩:=hok;have hmay:may<2^256:=Nat.lt_pow_two_of_testBit _ fun p hp=>by
   rw[Bool.eq_false_iff];intro hb;have:=fp hn hma hb;have h2:2^n≤2^8:=Nat.pow_le_pow_right (by decide) hn;omega
  refine ar (N:=61) func159 JE rfl rfl rfl (by simp) ?_;have H:=Hp.aC w;refine ak (γ:=Nat × Nat × Nat × Nat) (fun (g4,g5,g6,g7)=>[(4,(ah g4)),(5,(ah g5)),(6,(ah g6)),(7,(ah g7)),(8,.slice none 0 0)]) (fun (g4,g5,g6,g7) w'=>Hp w ab w' [an g7 3 #[.int .i64 (i:Int)],an g6 86 (sc may),an g5 86 (sc on),an g4 223 (gV n)] []) ?_ ?_
  ·refine H.box 223 (yn n) (cs:=gV n) rfl ?_;clear H;intro g4 w1 H;refine H.box 86 (sv on) (cs:=sc on) rfl ?_;clear H;intro g5 w2 H;refine H.box 86 (sv may) (cs:=sc may) rfl ?_;clear H;intro g6 w3 H;refine H.box 3 (.int .i64 (i:Int)) (cs:=#[.int .i64 (i:Int)]) rfl ?_;clear H;intro g7 w4 H;exact ⟨(g4,g5,g6,g7),⟨rfl,rfl,rfl,rfl,rfl,trivial⟩,H⟩
  clear H;rintro ⟨g4,g5,g6,g7⟩ u w1 H;by_cases h0:on=0
  ·subst h0;refine H.ai 2 rfl aD av ?_;refine n7 ?_;refine fD (by decide) (by decide) ?_;refine ag rfl ?_;exact ⟨none,0,[],rfl,kD.none,(H.bx 48 2).only.out⟩
  have hbe:(on==0)=false:=by rw[beq_eq_false_iff_ne];exact h0
  by_cases h1:may=bn n
  ·subst h1;refine H.ai 2 rfl aD av ?_;refine n7 ?_;refine fD hon (by decide) ?_;refine af hbe ?_;refine H.ai 1 rfl aD av ?_;refine aa (Bp _) ?_;refine H.cW 3 rfl (bH (bn n)) aD av (fun j v hj=>by match j,hj with | 0,hj=>exact hj | 1,hj=>exact hj | 2,hj=>exact hj | 3,hj=>exact hj) ?_;refine fD (jW n) (jW n) ?_;refine ag (beq_self_eq_true _) ?_;refine lP ?_;refine H.bg wq (cs:=cc 0 0) (by decide) (by decide) (by kernel_rfl) ?_;clear H;intro g20 w4 H;exact ⟨some ⟨g20,0,none⟩,1,[(0,0)],rfl,kD.all hn hom,(H.pf (l:=1) (sz:=2) rfl (by unfold maxLen;omega)).only.out⟩
  have hin:i<n:=by
   refine Nat.lt_of_le_of_ne hi fun he=>?_;subst he;have hm0:may≠0:=fun hm0=>by
    subst hm0;exact h0 (h_.2 fun p=>by
     rw[Bool.eq_false_iff];intro hb;have:=hom p hb;simp at this)
   exact h1 (Bl hn hma himay hm0)
  have IH:=IH hin;have hbm:(may==bn n)=false:=by rw[beq_eq_false_iff_ne];exact h1
  refine aw (fun w'=>Hp w ab w' [an g7 3 #[.int .i64 (i:Int)],an g6 86 (sc may),an g5 86 (sc on),an g4 223 (gV n)] []) ?_ ?_
  ·refine H.ai 2 rfl aD av ?_;refine n7 ?_;refine fD hon (by decide) ?_;refine af hbe ?_;refine H.ai 1 rfl aD av ?_;refine aa (Bp _) ?_;refine H.cW 3 rfl (bH (bn n)) aD av (fun j v hj=>by match j,hj with | 0,hj=>exact hj | 1,hj=>exact hj | 2,hj=>exact hj | 3,hj=>exact hj) ?_;refine fD hmay (jW n) ?_;refine af hbm ?_;exact ⟨(),trivial,H⟩
  clear H;rintro ⟨⟩ u w2 H;refine ak (γ:=Nat × Nat) (fun (g9,g10)=>[(9,(ah g9)),(10,(ah g10))]) (fun (g9,g10) w'=>Hp w ab w' [an g9 241 (a2 fun _=>0),an g10 241 (a2 fun _=>0),an g7 3 #[.int .i64 (i:Int)],an g6 86 (sc may),an g5 86 (sc on),an g4 223 (gV n)] []) ?_ ?_
  ·refine H.alloc 241 (cs:=a2 fun _=>0) wu rfl ?_;clear H;intro g9 w3 H;refine H.alloc 241 (cs:=a2 fun _=>0) wu rfl ?_;clear H;intro g10 w4 H;exact ⟨(g9,g10),⟨rfl,rfl,trivial⟩,H.front 1 rfl⟩
  clear H;rintro ⟨g9,g10⟩ u w3 H;refine aw (fun w'=>Hp w ab w' [an g9 241 (a2 (aV on i)),an g10 241 (a2 (aV may i)),an g7 3 #[.int .i64 (i:Int)],an g6 86 (sc may),an g5 86 (sc on),an g4 223 (gV n)] []) ?_ ?_
  ·refine ax (γ:=Nat × (Bool→Nat) × (Bool→Nat)) (fun (k,_)=>[(26,.int .i64 (k:Int))]) (fun (k,f,g) w'=>(k≤2∧∀ b,bN b<k→f b=aV on i b∧g b=aV may i b)∧Hp w ab w' [an g9 241 (a2 f),an g10 241 (a2 g),an g7 3 #[.int .i64 (i:Int)],an g6 86 (sc may),an g5 86 (sc on),an g4 223 (gV n)] []) (fun (k,_)=>2 - k) (0,fun _=>0,fun _=>0) ⟨rfl,trivial⟩ ⟨⟨Nat.zero_le _,fun b h=>absurd h (Nat.not_lt_zero _)⟩,H⟩ ?_;clear H;rintro ⟨k,f,g⟩ u w4 ⟨⟨hk,hfg⟩,H⟩;refine au (fun h7=>?_) (fun h7=>?_)
   ·obtain ⟨b,rfl⟩:∃ b,k=bN b:=by
     have:k=0∨k=1:=by omega
     rcases this with rfl | rfl
     ·exact ⟨false,rfl⟩
     ·exact ⟨true,rfl⟩
    have hb1:bN b<2:=by unfold bN;cases b <;> decide
    refine aw (fun w'=>Hp w ab w' [an g9 241 (a2 (GI f b (aV on i b))),an g10 241 (a2 (GI g b (aV may i b))),an g7 3 #[.int .i64 (i:Int)],an g6 86 (sc may),an g5 86 (sc on),an g4 223 (gV n)] []) ?_ ?_
    ·refine ak (γ:=Unit) (fun _=>[(11,.int .i64 (bN b:Int))]) (fun _ w'=>Hp w ab w' [an g9 241 (a2 f),an g10 241 (a2 g),an g7 3 #[.int .i64 (i:Int)],an g6 86 (sc may),an g5 86 (sc on),an g4 223 (gV n)] []) ⟨(),⟨rfl,trivial⟩,H⟩ ?_;clear H;rintro ⟨⟩ u w5 H;have hc:∀ s u,bt prog 188 [sv s,.int .i64 (i:Int),.bool (((bN b:Nat):Int)==1)] u fun r w'=>r=sv (aV s i b)∧aT u w':=fun s u=>by cases b <;> exact Nw s i _ (by omega) u
     refine H.fg [an g7 3 #[.int .i64 (i:Int)],an g6 86 (sc may),an g5 86 (sc on),an g4 223 (gV n)] (fun u H=>H.forget.forget) eS (by kernel_rfl) ?_;clear H;intro w6 H;refine quiet _ (fun w H=>H.ai 2 rfl aD av ae) ?_;refine quiet _ (fun w H=>H.load 0 rfl aE rfl ae) ?_;refine aj (hc on _) ?_;rintro _ w7 ⟨rfl,hk7⟩;replace H:=H.same hk7;refine ⟨.inl H.forget.forget,?_⟩;refine quiet _ (fun w H=>H.ai 1 rfl aD av ae) ?_;refine quiet _ (fun w H=>H.load 0 rfl aE rfl ae) ?_;refine aj (hc may _) ?_;rintro _ w8 ⟨rfl,hk8⟩;replace H:=H.same hk8;refine ⟨.inl H.forget.forget,?_⟩;refine quiet _ (fun w H=>aK underlying241 av (bN b) rfl hb1 (o':=bN b*4) (by omega) ae) ?_;refine H.fF 0 rfl av (by rw[wv];show bN b*4+4≤8;omega) (fl _) (EE f b _) ?_;clear H;intro w9 H;refine ⟨.inl H.forget.forget,?_⟩;refine quiet _ (fun w H=>aK underlying241 av (bN b) rfl hb1 (o':=bN b*4) (by omega) ae) ?_;refine H.fF 1 rfl av (by rw[wv];show bN b*4+4≤8;omega) (fl _) (EE g b _) ?_;clear H;intro w10 H;refine ⟨.inl H.forget.forget,?_⟩;exact ⟨(),trivial,H⟩
    ·clear H;rintro ⟨⟩ u w5 H;exact ⟨(bN b+1,GI f b (aV on i b),GI g b (aV may i b)),by show 2 - (bN b+1)<2 - bN b;omega,⟨up (by omega),trivial⟩,⟨by show bN b+1≤2;omega,fun c hc=>by
      unfold GI;by_cases he:c=b
      ·subst he;simp
      ·rw[if_neg he,if_neg he];refine hfg c ?_;have hc:bN c<bN b+1:=hc
       cases b <;> cases c <;> simp_all[bN]⟩,H⟩
   ·have e1:f=aV on i:=funext fun b=>(hfg b (by unfold bN;cases b <;> simp <;> omega)).1;have e2:g=aV may i:=funext fun b=>(hfg b (by unfold bN;cases b <;> simp <;> omega)).2;subst e1;subst e2;exact ⟨(),trivial,H⟩
  clear H;rintro ⟨⟩ u w4 H;refine ak (γ:=Nat) (fun g12=>[(12,(ah g12))]) (fun g12 w'=>Hp w ab w' [an g12 146 #[.slice none 0 0],an g9 241 (a2 (aV on i)),an g10 241 (a2 (aV may i)),an g7 3 #[.int .i64 (i:Int)],an g6 86 (sc may),an g5 86 (sc on),an g4 223 (gV n)] []) ?_ ?_
  ·refine H.alloc 146 (cs:=#[.slice none 0 0]) GJ rfl ?_;clear H;intro g12 w5 H;exact ⟨g12,⟨rfl,trivial⟩,H⟩
  clear H;rintro g12 u w5 H;refine ak (γ:=Nat) (fun g13=>[(13,(ah g13))]) (fun g13 w'=>Hp w ab w' [an g13 86 (sc (0)),an g12 146 #[.slice none (([]:List (Nat × Nat))).length 0],own 48 2 (.slice none (([]:List (Nat × Nat))).length 0) (([]:List (Nat × Nat))).length (flat bY (([]:List (Nat × Nat)))),an g4 223 (gV n),an g9 241 (a2 (aV on i)),an g10 241 (a2 (aV may i)),an g7 3 #[.int .i64 (i:Int)],an g6 86 (sc may),an g5 86 (sc on)] []) ?_ ?_
  ·refine H.alloc 86 (cs:=sc 0) bo aY ?_;clear H;intro g13 w6 H;have H:=H.bx 48 2;exact ⟨g13,⟨rfl,trivial⟩,H.b6 [1,2,0,8,3,4,5,6,7] (by decide) rfl⟩
  clear H;rintro g13 u w6 H;refine ak (γ:=Unit) (fun _=>[(14,.func (.func 189) #[] ([(ah g4),(ah g9),(ah g10),(ah g7),(ah g13),(ah g12)]:List Value).toArray)]) (fun _ w'=>Hp w ab w' [an g13 86 (sc (0)),an g12 146 #[.slice none (([]:List (Nat × Nat))).length 0],own 48 2 (.slice none (([]:List (Nat × Nat))).length 0) (([]:List (Nat × Nat))).length (flat bY (([]:List (Nat × Nat)))),an g4 223 (gV n),an g9 241 (a2 (aV on i)),an g10 241 (a2 (aV may i)),an g7 3 #[.int .i64 (i:Int)],an g6 86 (sc may),an g5 86 (sc on)] []) ?_ ?_
  ·refine nA ?_;exact ⟨(),⟨rfl,trivial⟩,H⟩
  clear H;rintro ⟨⟩ u w7 H;have hok:tt n i on may:=⟨hom,hma,hion,himay,hon⟩;refine ak (γ:=List (Nat × Nat) × Option Addr × Nat) (fun _=>[]) (fun (l,B,c) w'=>kD n (i+1) (bT (aV on i false) (aV may i true)) (aV may i false) l∧Hp w ab w' [an g13 86 (sc (bT (aV on i false) (dk n l))),an g12 146 #[.slice B (l.map (dp i false)).length c],own 48 2 (.slice B (l.map (dp i false)).length c) (l.map (dp i false)).length (flat bY (l.map (dp i false))),an g4 223 (gV n),an g9 241 (a2 (aV on i)),an g10 241 (a2 (aV may i)),an g7 3 #[.int .i64 (i:Int)],an g6 86 (sc may),an g5 86 (sc on)] []) ?_ ?_
  ·refine e7 (LM hn hin IH false (aV on i) (aV may i) 0 [] g4 g9 g10 g7 g13 g12 none 0 w w7 [an g6 86 (sc may),an g5 86 (sc on)] (tu hn hin hok false true) (dm _) (by simp) H) ?_;rintro _ w8 ⟨rfl,l,B,c,hcov,H⟩;rw[Nat.zero_or,List.nil_append] at H;exact ⟨(l,B,c),trivial,hcov,H⟩
  clear H;rintro ⟨L0,B,c⟩ u w8 ⟨hc0,H⟩;have hl0:L0.length≤6561:=Nat.le_trans hc0.len (by have:=Nat.pow_le_pow_right (show 0<3 by decide) (show n - (i+1)≤8 by omega);omega);refine ak (γ:=List (Nat × Nat) × Option Addr × Nat) (fun _=>[]) (fun (l,B,c) w'=>kD n (i+1) (bT (aV on i true) (aV may i false)) (aV may i true) l∧Hp w ab w' [an g13 86 (sc (bT (aV on i false) (dk n L0) |||bT (aV on i true) (dk n l))),an g12 146 #[.slice B (L0.map (dp i false)++l.map (dp i true)).length c],own 48 2 (.slice B (L0.map (dp i false)++l.map (dp i true)).length c) (L0.map (dp i false)++l.map (dp i true)).length (flat bY (L0.map (dp i false)++l.map (dp i true))),an g4 223 (gV n),an g9 241 (a2 (aV on i)),an g10 241 (a2 (aV may i)),an g7 3 #[.int .i64 (i:Int)],an g6 86 (sc may),an g5 86 (sc on)] []) ?_ ?_
  ·refine e7 (LM hn hin IH true (aV on i) (aV may i) _ (L0.map (dp i false)) g4 g9 g10 g7 g13 g12 B c w w8 [an g6 86 (sc may),an g5 86 (sc on)] (tu hn hin hok true false) (dm _) (by rw[List.length_map];omega) H) ?_;rintro _ w9 ⟨rfl,l,B,c,hcov,H⟩;exact ⟨(l,B,c),trivial,hcov,H⟩
  clear H;rintro ⟨L1,B,c⟩ u w9 ⟨hc1,H⟩;have hl1:L1.length≤6561:=Nat.le_trans hc1.len (by have:=Nat.pow_le_pow_right (show 0<3 by decide) (show n - (i+1)≤8 by omega);omega);have hadd:IntKind.i64.wrap ((i:Int)+1)=((i+1:Nat):Int):=by rw[aH (by omega) (by omega)];omega
  have hlo:(L0.map (dp i false)++L1.map (dp i true)).length≤20000:=by rw[List.length_append,List.length_map,List.length_map];omega
  have hfin:∀ L2,kD n (i+1) (bT (aV on i false) (dk n L0) |||bT (aV on i true) (dk n L1)) (aV may i false &&&aV may i true) L2→kD n i on may (L0.map (dp i false)++L1.map (dp i true)++L2):=fun L2 h2=>EA hn hin hom hma hc0 hc1 h2;have hrok:=zQ hn hin hok hc0 hc1;generalize bT (aV on i false) (dk n L0) |||bT (aV on i true) (dk n L1)=rest at H hfin hrok;generalize L0.map (dp i false)++L1.map (dp i true)=O at H hfin hlo;have p1:=lk (aV may i) false;have p2:=lk (aV may i) true;refine H.fg [an g13 86 (sc rest),an g12 146 #[.slice B O.length c],an g4 223 (gV n),an g9 241 (a2 (aV on i)),an g10 241 (a2 (aV may i)),an g7 3 #[.int .i64 (i:Int)],an g6 86 (sc may),an g5 86 (sc on)] (fun u H=>(H.front 2 rfl).forget) eS (by kernel_rfl) ?_;clear H;intro w10 H;refine quiet _ (fun w H=>H.load 1 rfl ED rfl ae) ?_;refine quiet (yn n) (fun w H=>H.ai 2 rfl zO wo ae) ?_;refine quiet _ (fun w H=>H.ai 0 rfl aD av ae) ?_;refine quiet _ (fun w H=>aK underlying241 av 0 rfl (by decide) (o':=0) rfl ae) ?_;refine quiet (sv (aV may i false)) (fun w H=>H.cW 4 rfl (bH (aV may i false)) aD av p1 ae) ?_;refine quiet _ (fun w H=>aK underlying241 av 1 rfl (by decide) (o':=4) rfl ae) ?_;refine quiet (sv (aV may i true)) (fun w H=>H.cW 4 rfl (bH (aV may i true)) aD av p2 ae) ?_;refine aj (c53 _ _ _) ?_;rintro _ w11 ⟨rfl,hk⟩;replace H:=H.same hk;refine ⟨.inl (H.front 2 rfl).forget,?_⟩;refine quiet _ (fun w H=>H.load 5 rfl aE rfl ae) ?_;have hc:=IH rest (aV may i false &&&aV may i true) w11 hrok;rw[← hadd] at hc;refine aj hc ?_;rintro _ w12 ⟨A2,c2,L2,rfl,hcov,hn⟩;replace H:=H.bD hn;refine ⟨.inl (H.forget.front 2 rfl).forget,?_⟩;have hl2:L2.length≤6561:=Nat.le_trans hcov.len (by have:=Nat.pow_le_pow_right (show 0<3 by decide) (show n - (i+1)≤8 by omega);omega);refine H.kz 3 wq rfl (bE (H.get 0 rfl)) (u_ L2) (by omega) (by omega) ?_;clear H;intro A3 d3 w13 H;refine ⟨.inl (H.forget.front 2 rfl).forget,?_⟩;have e1:(O++L2).length=O.length+L2.length:=List.length_append;have e2:flat bY (O++L2)=flat bY O++flat bY L2:=by unfold flat;rw[List.flatMap_append]
  have H:Hp w ab w13 [own 48 2 (.slice A3 (O.length+L2.length) d3) (O.length+L2.length) (flat bY O++flat bY L2)] []:=H.b6 [3] (by decide) rfl;exact ⟨A3,d3,O++L2,by rw[e1];rfl,hfin L2 hcov,by rw[e1,e2];exact H.out⟩
def jm (c:Nat × Nat):Value:=cv c.1 c.2
theorem EF {a b c d:Nat}:cv a b=cv c d↔a=c∧b=d:=by
 unfold cv cc;constructor
 ·intro h;injection h with h;have h:=congrArg Array.toList h;simp at h;omega
 ·rintro ⟨rfl,rfl⟩;rfl
theorem sd (a b:Nat × Nat)(h:jm a=jm b):a=b:=by
 obtain ⟨h1,h2⟩:=EF.1 h;exact Prod.ext h1 h2
def LN (v:Value):Prop:=∃ c,v=jm c
theorem GK (a b:Nat)(em:Bool)(w:World):(Instr.checkKey em 10000 48 (cv a b)).run prog w=.ok () w:=by kernel_rfl
theorem yp (w:World)(a b:Nat):∀ (es:List MapEntry) (i:Nat),(∀ e ∈ es,LN e.key)→
  ((Instr.findAsking 48 (cv a b) es i).run prog w=.ok none w∧∀ e ∈ es,e.key≠cv a b)∨∃ j e,(Instr.findAsking 48 (cv a b) es i).run prog w=.ok (some (i+j,e.val)) w∧es[j]?=some e∧e.key=cv a b
 | [],i,_=>.inl ⟨by simp[Instr.findAsking],by simp⟩
 | e::es,i,h=>by
  obtain ⟨⟨a',b'⟩,he⟩:=h e (.head _);have he:e.key=cv a' b':=he;have hq:=xW a b a' b' w;by_cases hk:a=a'∧b=b'
  ·obtain ⟨rfl,rfl⟩:=hk;exact .inr ⟨0,e,by simp[Instr.findAsking,he,hq],rfl,he⟩
  ·have hf:(a==a'&&b==b')=false:=by
    rw[Bool.eq_false_iff];intro hh;simp at hh;exact hk hh
   rw[hf] at hq;have hne:e.key≠cv a b:=fun hh=>hk (by rw[he,EF] at hh;exact ⟨hh.1.symm,hh.2.symm⟩);rcases yp w a b es (i+1) (fun x hx=>h x (.tail _ hx)) with ⟨h1,h2⟩ | ⟨j,e',h1,h2,h3⟩
   ·refine .inl ⟨by simp[Instr.findAsking,he,hq,h1],fun x hx=>?_⟩;rcases List.mem_cons.1 hx with rfl | hx
    ·exact hne
    ·exact h2 x hx
   ·exact .inr ⟨j+1,e',by simp[Instr.findAsking,he,hq,h1];omega,by simpa using h2,h3⟩
theorem NA:KL prog 48 LN where
 check:=by rintro w em _ ⟨⟨a,b⟩,rfl⟩;exact GK a b em w
 find:=by
  rintro w _ ⟨⟨a,b⟩,rfl⟩ es he
  cases es with
  | nil=>exact .inl ⟨by simp[Instr.findKey,run_underlying underlying48,Instr.findNow],by simp⟩
  | cons e es=>
   have hn:∀ fs,Instr.findNow (.struct fs) (cv a b) (e::es) 0=none:=fun fs=>rfl;have:=yp w a b (e::es) 0 he;simp only[Nat.zero_add] at this;show (_∨_);simp only[Instr.findKey,Sem.run_bind,run_underlying underlying48,Result.andThen_ok,jm,hn];exact this
 stays:=by
  rintro w _ ⟨⟨a,b⟩,rfl⟩;have:Instr.sameBits 10000 (cv a b) (cv a b)=true:=by
   show (_&&_)=true;simp[Instr.sameBits,cc]
  simp[Instr.keyThatStays,jm,this]
theorem rY:kQ prog 189 48 4 jm Value.bool (.bool false):=⟨underlying189,NA.mono fun _ ⟨n,h⟩=>⟨n,h⟩,sd,by kernel_rfl⟩
def wx (x:Rw):Value:=oU x.1 x.2.1 x.2.2
theorem EG {a b c a' b' c':Nat}:oU a b c=oU a' b' c'↔a=a'∧b=b'∧c=c':=by
 unfold oU eU;constructor
 ·intro h;injection h with h;have h:=congrArg Array.toList h;simp at h;omega
 ·rintro ⟨rfl,rfl,rfl⟩;rfl
theorem GL (a b:Rw)(h:wx a=wx b):a=b:=by
 obtain ⟨h1,h2,h3⟩:=EG.1 h;exact Prod.ext h1 (Prod.ext h2 h3)
def LO (v:Value):Prop:=∃ c,v=wx c
theorem zR (d':Nat)(a b c d:Nat)(w:World):(Op.equalIn (d'+2) 48 (cv a b) (cv c d)).run prog w=.ok (a==c&&b==d) w:=by
 unfold cv;rw[Op.equalIn];have i0:=dE underlying5 d' (a:Int) (c:Int);have i1:=dE underlying5 d' (b:Int) (d:Int);have p0:∀ (x y:Nat) w,(Go.part 5 (cc x y) 0).run prog w=.ok (.int .u8 (x:Int)) w:=fun x y w=>gg cg rfl w;have p1:∀ (x y:Nat) w,(Go.part 5 (cc x y) 1).run prog w=.ok (.int .u8 (y:Int)) w:=fun x y w=>gg cg rfl w;have e0:((a:Int)==(c:Int))=(a==c):=by rw[Bool.eq_iff_iff,beq_iff_eq,beq_iff_eq,Int.natCast_inj]
 have e1:((b:Int)==(d:Int))=(b==d):=by rw[Bool.eq_iff_iff,beq_iff_eq,beq_iff_eq,Int.natCast_inj]
 rw[e0] at i0;rw[e1] at i1;generalize (a==c)=b0 at *;generalize (b==d)=b1 at *;have hst:Tryz.prog.stoodInHeld 48=false:=by kernel_rfl
 simp only[Sem.run_bind,run_underlying underlying48,Result.andThen_ok,Go.Dk.run_sizeOf aO,run_program,hst]
 cases b0 <;> cases b1 <;> simp[p0,p1,i0,i1]
theorem EH (a b c a' b' c':Nat)(w:World):(Op.equal 50 (oU a b c) (oU a' b' c')).run prog w=.ok ((a==a'&&b==b')&&c==c') w:=by
 have hr:∀ d',(Op.equalIn (d'+3) 50 (oU a b c) (oU a' b' c')).run prog w=.ok ((a==a'&&b==b')&&c==c') w:=by
  intro d';unfold oU;rw[Op.equalIn];have i0:=fun w=>zR d' a b a' b' w;have i1:=dE underlying5 (d'+1) (c:Int) (c':Int);have p0:∀ (x y z:Nat) w,(Go.part 48 (eU x y z) 0).run prog w=.ok (cv x y) w:=fun x y z w=>by kernel_rfl
  have p1:∀ (x y z:Nat) w,(Go.part 5 (eU x y z) 2).run prog w=.ok (.int .u8 (z:Int)) w:=fun x y z w=>gg cg rfl w;have e0:((c:Int)==(c':Int))=(c==c'):=by rw[Bool.eq_iff_iff,beq_iff_eq,beq_iff_eq,Int.natCast_inj]
  rw[e0] at i1;generalize (a==a'&&b==b')=b0 at *;generalize (c==c')=b1 at *;have hst:Tryz.prog.stoodInHeld 50=false:=by kernel_rfl
  simp only[Sem.run_bind,run_underlying underlying50,Result.andThen_ok,Go.Dk.run_sizeOf bd,run_program,hst]
  cases b0 <;> cases b1 <;> simp[p0,p1,i0,i1]
 exact hr 9997
theorem GM (a b c:Nat)(em:Bool)(w:World):(Instr.checkKey em 10000 50 (oU a b c)).run prog w=.ok () w:=by kernel_rfl
theorem yq (w:World)(a b c:Nat):∀ (es:List MapEntry) (i:Nat),(∀ e ∈ es,LO e.key)→
  ((Instr.findAsking 50 (oU a b c) es i).run prog w=.ok none w∧∀ e ∈ es,e.key≠oU a b c)∨∃ j e,(Instr.findAsking 50 (oU a b c) es i).run prog w=.ok (some (i+j,e.val)) w∧es[j]?=some e∧e.key=oU a b c
 | [],i,_=>.inl ⟨by simp[Instr.findAsking],by simp⟩
 | e::es,i,h=>by
  obtain ⟨⟨a',b',c'⟩,he⟩:=h e (.head _);have he:e.key=oU a' b' c':=he;have hq:=EH a b c a' b' c' w;by_cases hk:a=a'∧b=b'∧c=c'
  ·obtain ⟨rfl,rfl,rfl⟩:=hk;exact .inr ⟨0,e,by simp[Instr.findAsking,he,hq],rfl,he⟩
  ·have hf:((a==a'&&b==b')&&c==c')=false:=by
    rw[Bool.eq_false_iff];intro hh;simp at hh;exact hk ⟨hh.1.1,hh.1.2,hh.2⟩
   rw[hf] at hq;have hne:e.key≠oU a b c:=fun hh=>hk (by rw[he,EG] at hh;exact ⟨hh.1.symm,hh.2.1.symm,hh.2.2.symm⟩);rcases yq w a b c es (i+1) (fun x hx=>h x (.tail _ hx)) with ⟨h1,h2⟩ | ⟨j,e',h1,h2,h3⟩
   ·refine .inl ⟨by simp[Instr.findAsking,he,hq,h1],fun x hx=>?_⟩;rcases List.mem_cons.1 hx with rfl | hx
    ·exact hne
    ·exact h2 x hx
   ·exact .inr ⟨j+1,e',by simp[Instr.findAsking,he,hq,h1];omega,by simpa using h2,h3⟩
theorem NB:KL prog 50 LO where
 check:=by rintro w em _ ⟨⟨a,b,c⟩,rfl⟩;exact GM a b c em w
 find:=by
  rintro w _ ⟨⟨a,b,c⟩,rfl⟩ es he
  cases es with
  | nil=>exact .inl ⟨by simp[Instr.findKey,run_underlying underlying50,Instr.findNow],by simp⟩
  | cons e es=>
   have hn:∀ fs,Instr.findNow (.struct fs) (oU a b c) (e::es) 0=none:=fun fs=>rfl;have:=yq w a b c (e::es) 0 he;simp only[Nat.zero_add] at this;show (_∨_);simp only[Instr.findKey,Sem.run_bind,run_underlying underlying50,Result.andThen_ok,wx,hn];exact this
 stays:=by
  rintro w _ ⟨⟨a,b,c⟩,rfl⟩;have:Instr.sameBits 10000 (oU a b c) (oU a b c)=true:=by
   show (_&&_)=true;simp[Instr.sameBits,eU]
  simp[Instr.keyThatStays,wx,this]
theorem JF:kQ prog 145 50 4 wx Value.bool (.bool false):=⟨underlying145,NB.mono fun _ ⟨n,h⟩=>⟨n,h⟩,GL,by kernel_rfl⟩
end Go.Proofs.YtpjihhgjbbihkaaGreatDoor
namespace Go.Dk
theorem j3 {m v i:Nat}:(v &&&gF m i) &&&gF m i=v &&&gF m i:=by rw[Nat.and_assoc,Nat.and_self]
theorem mG {m n:Nat}(hm:m<2^n)(i:Nat):gF m i<2^n:=Nat.lt_of_le_of_lt Nat.and_le_left hm
theorem tv {m v n i:Nat}(hn:n≤8)(hs:v &&&m=v):ck (ba m v n) (ba (gF m i) (v &&&gF m i) n):=fun p hp=>by
 rw[bA hn] at hp ⊢;refine ⟨hp.1,?_⟩;unfold gF;rw[← Nat.and_assoc,hp.2,← Nat.and_assoc,hs]
theorem se {m v s n:Nat}(hn:n≤8)(hm:m<2^n)(hs:v &&&m=v):CG m v s n=true↔ck (ba m v n) s:=by
 have h2:2^n≤2^8:=Nat.pow_le_pow_right (by decide) hn;have hv:=sub_lt hm hs;unfold CG;rw[(eh (by omega) (by omega)).2 ⟨by omega,by omega,by rw[Int.toNat_natCast];exact hm,hs⟩,Bool.true_and,gU (pA _ _ _)]
theorem tw {s n m v:Nat}(hn:n≤8)(hm:m<2^n)(hs:v &&&m=v)(hw:ck (ba m v n) s):∀ k,(dj s n m v k).1<2^n∧(dj s n m v k).2 &&&(dj s n m v k).1=(dj s n m v k).2∧ck (ba (dj s n m v k).1 (dj s n m v k).2 n) s∧ck (ba m v n) (ba (dj s n m v k).1 (dj s n m v k).2 n)
 | 0=>⟨hm,hs,hw,ck.refl _⟩
 | k+1=>by
  obtain ⟨h1,h2,h3,h4⟩:=tw hn hm hs hw k;unfold dj;split
  ·rename_i h;exact ⟨mG h1 k,j3,(se hn (mG h1 k) j3).1 h,h4.trans (tv hn h2)⟩
  ·exact ⟨h1,h2,h3,h4⟩
structure jQ (S:dU) (x:Rw):Prop where
 lt:x.1<2^S.n
 sub:x.2.1 &&&x.1=x.2.1
 some:0<x.2.2
 few:x.2.2<2^S.on.length
 um:∀ (j b:Nat),x.2.2.testBit j=true→S.may[j]?=Option.some b→ck (ba x.1 x.2.1 S.n) b
theorem jQ.ok {S:dU}(hS:cK S){x:Rw}(h:jQ S x):gK S.n S.on.length x:=by
 have h2:2^S.n≤2^8:=Nat.pow_le_pow_right (by decide) hS.n8;have h3:2^S.on.length≤2^4:=Nat.pow_le_pow_right (by decide) hS.few;have hm:=h.lt;have hv:=sub_lt h.lt h.sub;have hf:=h.few;exact ⟨by omega,by omega,by omega,(eh (by omega) (by omega)).2 ⟨by omega,by have:=hS.n8;omega,by rw[Int.toNat_natCast];exact hm,h.sub⟩,h.some,hf⟩
theorem p8 {S:dU}(hS:cK S){m v:Nat}(hm:m<2^S.n)(hs:v &&&m=v)(j:Nat):(iF S m v).testBit j=true↔∃ b,S.may[j]?=Option.some b∧ck (ba m v S.n) b:=by
 rw[qV,Bool.and_eq_true,decide_eq_true_eq];constructor
 ·rintro ⟨hj,hw⟩;refine ⟨S.may[j],List.getElem?_eq_getElem hj,?_⟩;rw[List.getD_eq_getElem?_getD,List.getElem?_eq_getElem hj] at hw;exact (se hS.n8 hm hs).1 hw
 ·rintro ⟨b,hb,hw⟩;refine ⟨(List.getElem?_eq_some_iff.1 hb).1,?_⟩;rw[List.getD_eq_getElem?_getD,hb];exact (se hS.n8 hm hs).2 hw
theorem tz {S:dU}(hS:cK S){m v o:Nat}(hm:m<2^S.n)(hs:v &&&m=v)(ho:o<256):rV S m v o=true↔jQ S (m,v,o):=by
 have hml:S.may.length≤4:=by rw[hS.len];exact hS.few
 have hol:=yf hml m v;unfold rV;rw[Bool.and_eq_true,decide_eq_true_eq,beq_iff_eq,h_];constructor
 ·rintro ⟨h0,h⟩;have key:∀ j,o.testBit j=true→(iF S m v).testBit j=true:=fun j hj=>by
   have h1:=h j;have hj8:j<8:=by
    rcases Nat.lt_or_ge j 8 with h | h
    ·exact h
    ·rw[ec ho h] at hj;cases hj
   rw[Nat.testBit_and,ir (by omega),hj,decide_eq_true hj8] at h1;simpa using h1
  refine ⟨hm,hs,h0,?_,fun j b hj hb=>?_⟩
  ·refine Nat.lt_pow_two_of_testBit _ fun j hj=>?_;rw[Bool.eq_false_iff];intro hb;have:=key j hb;rw[qV,Bool.and_eq_true,decide_eq_true_eq,hS.len] at this;omega
  ·obtain ⟨b',hb',hw⟩:=(p8 hS hm hs j).1 (key j hj);rw[hb] at hb';injection hb' with hb';subst hb';exact hw
 ·intro h;refine ⟨h.some,fun j=>?_⟩;rw[Nat.testBit_and,ir (by omega)]
  cases hj:o.testBit j with
  | false=>rfl
  | true=>
   have hjl:j<S.may.length:=by
    rw[hS.len];refine Nat.lt_of_not_le fun hle=>?_;rw[dB h.few hle] at hj
    cases hj
   have:=(p8 hS hm hs j).2 ⟨S.may[j],List.getElem?_eq_getElem hjl,h.um j _ hj (List.getElem?_eq_getElem hjl)⟩;rw[this];simp
theorem p9 {S:dU}(hS:cK S){m v o:Nat}(h:jQ S (m,v,o)):∀ k,jQ S ((a8 S m v o k).1,(a8 S m v o k).2,o)∧ck (ba m v S.n) (ba (a8 S m v o k).1 (a8 S m v o k).2 S.n)
 | 0=>⟨h,ck.refl _⟩
 | k+1=>by
  obtain ⟨h1,h2⟩:=p9 hS h k;have ho:o<256:=(h.ok hS).o;unfold a8;split
  ·rename_i hw;exact ⟨(tz hS (mG h1.lt k) j3 ho).1 hw,h2.trans (tv hS.n8 h1.sub)⟩
  ·exact ⟨h1,h2⟩
theorem Bq {S:dU}(hS:cK S){m v o:Nat}(h:jQ S (m,v,o)):jQ S (m,v,iF S m v)∧∀ j,o.testBit j=true→(iF S m v).testBit j=true:=by
 have key:∀ j,o.testBit j=true→(iF S m v).testBit j=true:=fun j hj=>by
  have hjl:j<S.may.length:=by
   rw[hS.len];refine Nat.lt_of_not_le fun hle=>?_;rw[dB h.few hle] at hj
   cases hj
  exact (p8 hS h.lt h.sub j).2 ⟨S.may[j],List.getElem?_eq_getElem hjl,h.um j _ hj (List.getElem?_eq_getElem hjl)⟩
 refine ⟨⟨h.lt,h.sub,Nat.pos_of_ne_zero fun h0=>?_,?_,fun j b hj hb=>?_⟩,key⟩
 ·have:o=0:=h_.2 fun j=>by
   rw[Bool.eq_false_iff];intro hb;have hj:=key j hb;rw[show iF S m v=0 from h0] at hj;simp at hj
  have:=h.some;simp only at this;omega
 ·refine Nat.lt_pow_two_of_testBit _ fun j hj=>?_;rw[qV,decide_eq_false (by rw[hS.len];omega)];rfl
 ·obtain ⟨b',hb',hw⟩:=(p8 hS h.lt h.sub j).1 hj;rw[hb] at hb';injection hb' with hb';subst hb';exact hw
structure zS (n on may:Nat) (G:List (Nat × Nat)):Prop where
 lt:∀ c ∈ G,c.1<2^n∧c.2 &&&c.1=c.2∧ck (ba c.1 c.2 n) may
 out:ck on (dk n G)
end Go.Dk
namespace Go.Proofs.YtpjihhgjbbihkaaGreatDoor
open Go.Proofs.Tryz
open Go.Dk
set_option maxRecDepth 100000
attribute [local irreducible] IntKind.wrap
theorem EI {n:Nat}{w:World}{kk:Value→World→Prop}(h:kk (yn n) w):b7 prog 223 [(0,.int .i64 (n:Int)),(1,sv (bn n))] w kk:=
 bu (fun w=>by kernel_rfl) h
theorem JG:enters prog 128=true:=by kernel_rfl
theorem NC (n on may:Nat)(hn:n≤8)(hom:ck on may)(hma:ck may (bn n))(hon:on<2^256)(hmay:may<2^256)(w:World) :
  bt prog 128 [sv on,sv may,.int .i64 (n:Int)] w fun r w'=>∃ A c L,r=.tuple #[.slice A L.length c,.int .i64 0]∧kD n 0 on may L∧eX w w' (own 48 2 (.slice A L.length c) L.length (flat bY L)):=by
 refine ar (N:=35) func128 JG rfl rfl rfl (by simp) ?_;have H:=Hp.aC w;refine ak (γ:=Nat × Nat) (fun (g3,g4)=>[(3,(ah g3)),(4,(ah g4)),(6,.slice none 0 0),(7,.int .i64 0)]) (fun (g3,g4) w'=>Hp w ab w' [an g4 86 (sc may),an g3 86 (sc on)] []) ?_ ?_
 ·refine H.box 86 (sv on) (cs:=sc on) rfl ?_;clear H;intro g3 w1 H;refine H.box 86 (sv may) (cs:=sc may) rfl ?_;clear H;intro g4 w2 H;exact ⟨(g3,g4),⟨rfl,rfl,rfl,rfl,trivial⟩,H⟩
 clear H;rintro ⟨g3,g4⟩ u w1 H;refine ak (γ:=Nat) (fun g8=>[(8,(ah g8)),(9,.int .i64 0)]) (fun g8 w'=>Hp w ab w' [an g8 86 (sc (bn n)),an g4 86 (sc may),an g3 86 (sc on)] []) ?_ ?_
 ·refine aj (n9 n hn _) ?_;rintro _ w2 ⟨rfl,hk⟩;replace H:=H.same hk;refine H.alloc 86 (cs:=sc 0) bo aY ?_;clear H;intro g8 w3 H;refine H.aW 0 rfl ?_;clear H;intro w4 H;exact ⟨g8,⟨rfl,rfl,trivial⟩,H⟩
 clear H;rintro g8 u w2 H;refine aw (fun w'=>Hp w ab w' [an g8 86 (sc (bn n)),an g4 86 (sc may),an g3 86 (sc on)] []) ?_ ?_
 ·have hs1:=(gU hon).2 hom;have hs2:=(gU hmay).2 hma;have hc1:=fun u=>c85 on may hon u;rw[hs1] at hc1;have hc2:=fun u=>c85 may (bn n) hmay u;rw[hs2] at hc2;refine af rfl ?_;refine H.ai 2 rfl aD av ?_;refine af rfl ?_;refine H.ai 1 rfl aD av ?_;refine af rfl ?_;refine aj (hc1 _) ?_;rintro _ w11 ⟨rfl,hk⟩;replace H:=H.same hk;clear hk
  iterate 3 refine af rfl ?_
  refine H.ai 1 rfl aD av ?_;refine af rfl ?_;refine H.ai 0 rfl aD av ?_;refine af rfl ?_;refine aj (hc2 _) ?_;rintro _ w19 ⟨rfl,hk⟩;replace H:=H.same hk;clear hk
  iterate 3 refine af rfl ?_
  exact ⟨(),trivial,H⟩
 clear H;rintro ⟨⟩ u w3 H;refine H.ai 0 rfl aD av ?_;refine EI ?_;refine H.ai 2 rfl aD av ?_;refine H.ai 1 rfl aD av ?_;refine aj (c159 n hn (n+1) 0 (Nat.zero_le _) (by omega) on may _ ⟨hom,hma,fun j h=>absurd h (Nat.not_lt_zero _),fun j h=>absurd h (Nat.not_lt_zero _),hon⟩) ?_;rintro _ w4 ⟨A,c,L,rfl,hcov,hn'⟩;replace H:=H.bD hn';exact ⟨A,c,L,rfl,hcov,H.only.out⟩
theorem LP:enters prog 90=true:=by kernel_rfl
theorem Ow (n on may:Nat)(hn:n≤8)(hom:ck on may)(hma:ck may (bn n))(hon:on<2^256)(hmay:may<2^256)(w:World) :
  bt prog 90 [sv on,sv may,.int .i64 (n:Int)] w fun r w'=>∃ A c G,r=.tuple #[.slice A G.length c,.int .i64 0]∧zS n on may G∧G.length≤6561∧eX w w' (own 48 2 (.slice A G.length c) G.length (flat bY G)):=by
 refine ar (N:=52) func90 LP rfl rfl rfl (by simp) ?_;have H:=Hp.aC w;have h2:2^n≤2^8:=Nat.pow_le_pow_right (by decide) hn;refine ak (γ:=Nat × Nat) (fun (g3,g4)=>[(3,(ah g3)),(4,(ah g4)),(6,.slice none 0 0),(7,.int .i64 0)]) (fun (g3,g4) w'=>Hp w ab w' [an g4 86 (sc may),an g3 86 (sc on)] []) ?_ ?_
 ·refine H.box 86 (sv on) (cs:=sc on) rfl ?_;clear H;intro g3 w1 H;refine H.box 86 (sv may) (cs:=sc may) rfl ?_;clear H;intro g4 w2 H;exact ⟨(g3,g4),⟨rfl,rfl,rfl,rfl,trivial⟩,H⟩
 clear H;rintro ⟨g3,g4⟩ u w1 H;refine ak (γ:=Option Addr × Nat × List (Nat × Nat)) (fun (A,c,L)=>[(8,.slice A L.length c),(9,.int .i64 0)]) (fun (A,c,L) w'=>kD n 0 on may L∧Hp w ab w' [own 48 2 (.slice A L.length c) L.length (flat bY L),an g4 86 (sc may)] []) ?_ ?_
 ·refine H.ai 1 rfl aD av ?_;refine H.ai 0 rfl aD av ?_;refine aj (NC n on may hn hom hma hon hmay _) ?_;rintro _ w2 ⟨A,c,L,rfl,hcov,hn'⟩;replace H:=H.bD hn';exact ⟨(A,c,L),⟨rfl,rfl,trivial⟩,hcov,H.b6 [0,1] (by decide) rfl⟩
 clear H;rintro ⟨A,c,L⟩ u w2 ⟨hcov,H⟩;have hll:L.length≤6561:=Nat.le_trans hcov.len (by have:=Nat.pow_le_pow_right (show 0<3 by decide) (show n - 0≤8 by omega);omega);refine aw (fun w'=>Hp w ab w' [own 48 2 (.slice A L.length c) L.length (flat bY L),an g4 86 (sc may)] []) ?_ ?_
 ·refine af rfl ?_;exact ⟨(),trivial,H⟩
 clear H;rintro ⟨⟩ u w3 H;refine ak (γ:=Nat) (fun r=>[(10,.map (some r))]) (fun r w'=>Hp w ab w' [aP jm Value.bool r [],own 48 2 (.slice A L.length c) L.length (flat bY L),an g4 86 (sc may)] []) ?_ ?_
 ·refine H.makeMap jm Value.bool ?_;clear H;intro r w4 H;exact ⟨r,⟨rfl,trivial⟩,H⟩
 clear H;rintro r u w4 H;refine ak (γ:=Unit) (fun _=>[(11,.slice none 0 0)]) (fun _ w'=>Hp w ab w' [own 48 2 (.slice none 0 0) 0 [],aP jm Value.bool r [],own 48 2 (.slice A L.length c) L.length (flat bY L),an g4 86 (sc may)] []) ⟨(),⟨rfl,trivial⟩,H.bx 48 2⟩ ?_;clear H;rintro ⟨⟩ u w5 H;refine ak (γ:=List (Nat × Nat) × Option Addr × Nat) (fun (G,B,d)=>[(11,.slice B G.length d)]) (fun (G,B,d) w'=>(zS n on may G∧G.length≤6561)∧Hp w ab w' [own 48 2 (.slice B G.length d) G.length (flat bY G)] []) ?_ ?_
 ·refine ay underlying146 ?_;refine ax (γ:=Nat × List (Nat × Nat) × Option Addr × Nat × List ((Nat × Nat) × Bool)) (fun (k,G,B,d,_)=>[(29,.int .i64 (k:Int)),(11,.slice B G.length d)]) (fun (k,G,B,d,l) w'=>(k≤L.length∧(∀ x ∈ G,x.1<2^n∧x.2 &&&x.1=x.2∧ck (ba x.1 x.2 n) may)∧(∀ x ∈ L.take k,dj may n x.1 x.2 n ∈ G)∧G.length≤k∧∀ x,(bR l x).getD false=decide (x ∈ G))∧Hp w ab w' [own 48 2 (.slice B G.length d) G.length (flat bY G),aP jm Value.bool r l,own 48 2 (.slice A L.length c) L.length (flat bY L),an g4 86 (sc may)] []) (fun (k,_)=>L.length - k) (0,[],none,0,[]) ⟨rfl,rfl,trivial⟩ ⟨⟨Nat.zero_le _,fun x h=>by simp at h,fun x h=>by simp at h,Nat.le_refl _,fun x=>by rw[sI];simp⟩,H⟩ ?_;clear H;rintro ⟨k,G,B,d,l⟩ u w6 ⟨⟨hk,hG,hLG,hGl,hmet⟩,H⟩;refine au (fun h7=>?_) (fun h7=>?_)
  ·obtain ⟨x,hx,hxin⟩:=qX (l:=L) (j:=k) (by omega);have hcub:=hcov.cubes x hxin;obtain ⟨hm,hv⟩:=hcub.Bn hn;have hxs:ck (ba x.1 x.2 n) may:=fun p hp=>hcov.um p (dI.2 ⟨x,hxin,hp⟩);have hgo:=tw hn hcub.lt hcub.sub hxs n;have hwi:=(se hn hcub.lt hcub.sub).2 hxs;have htk:=iH hx;refine ak (γ:=List (Nat × Nat) × Option Addr × Nat × List ((Nat × Nat) × Bool)) (fun (G,B,d,_)=>[(11,.slice B G.length d)]) (fun (G,B,d,l) w'=>((∀ x ∈ G,x.1<2^n∧x.2 &&&x.1=x.2∧ck (ba x.1 x.2 n) may)∧(∀ x ∈ L.take (k+1),dj may n x.1 x.2 n ∈ G)∧G.length≤k+1∧∀ x,(bR l x).getD false=decide (x ∈ G))∧Hp w ab w' [own 48 2 (.slice B G.length d) G.length (flat bY G),aP jm Value.bool r l,own 48 2 (.slice A L.length c) L.length (flat bY L),an g4 86 (sc may)] []) ?_ ?_
   ·rw[htk];obtain ⟨m,v⟩:=x;simp only at hm hv hwi hgo;obtain ⟨gA,rfl⟩:=H.mq 2 rfl (by omega);refine ak (γ:=Nat) (fun g13=>[(13,(ah g13))]) (fun g13 w'=>Hp w ab w' [an g13 48 (cc m v),own 48 2 (.slice B G.length d) G.length (flat bY G),aP jm Value.bool r l,own 48 2 (.slice (some ⟨gA,0,none⟩) L.length c) L.length (flat bY L),an g4 86 (sc may)] []) ?_ ?_
    ·refine aq underlying146 aO k rfl (by omega) (o':=k*2) (by omega) ?_;refine H.gf 2 rfl fh bw aO k rfl hx ?_;refine H.alloc 48 (cs:=cc 0 0) fa rfl ?_;clear H;intro g13 w7 H;refine H.bQ (c:=m) (d:=v) 0 rfl ?_;clear H;intro w8 H;exact ⟨g13,⟨rfl,trivial⟩,H⟩
    clear H;rintro g13 u w7 H;have hgc:=Nv m v may hm hv n hn hwi;generalize hgd:dj may n m v n=g at hgo hgc;have hin:∀ G':List (Nat × Nat),(∀ y ∈ G,y ∈ G')→g ∈ G'→∀ y ∈ L.take k++[(m,v)],dj may n y.1 y.2 n ∈ G':=fun G' h1 h2 y hy=>by
     rcases List.mem_append.1 hy with hy | hy
     ·exact h1 _ (hLG y hy)
     ·rw[List.mem_singleton] at hy;subst hy;rw[hgd];exact h2
    refine ak (γ:=Nat) (fun g14=>[(14,(ah g14))]) (fun g14 w'=>Hp w ab w' [an g14 48 (cc g.1 g.2),own 48 2 (.slice B G.length d) G.length (flat bY G),aP jm Value.bool r l,own 48 2 (.slice (some ⟨gA,0,none⟩) L.length c) L.length (flat bY L),an g4 86 (sc may)] []) ?_ ?_
    ·refine H.ai 0 rfl bw aO ?_;refine H.ai 4 rfl aD av ?_;refine aj (hgc _) ?_;rintro _ w8 ⟨rfl,hk8⟩;replace H:=H.same hk8;refine H.alloc 48 (cs:=cc 0 0) fa rfl ?_;clear H;intro g14 w9 H;refine H.bQ (c:=g.1) (d:=g.2) 0 rfl ?_;clear H;intro w10 H;exact ⟨g14,⟨rfl,trivial⟩,H.b6 [0,2,3,4,5] (by decide) rfl⟩
    clear H;rintro g14 u w8 H;have hmg:=hmet g;refine H.ai 0 rfl bw aO ?_;by_cases hgin:g ∈ G
    ·rw[decide_eq_true hgin] at hmg;refine eg (H.get 2 rfl) rY g (v:=.bool true) (by revert hmg;cases bR l g <;> simp) ?_;refine af rfl ?_;exact ⟨(G,B,d,l),⟨rfl,trivial⟩,⟨hG,hin G (fun y h=>h) hgin,by show G.length≤k+1;omega,hmet⟩,H.forget⟩
    ·rw[decide_eq_false hgin] at hmg;refine eg (H.get 2 rfl) rY g (v:=.bool false) (by revert hmg;cases bR l g <;> simp) ?_;refine ag rfl ?_;refine H.ai 0 rfl bw aO ?_;refine H.iw 2 rfl rY g true ?_;clear H;intro w9 H;refine H.ai 0 rfl bw aO ?_;refine H.bg wq (cs:=cc g.1 g.2) (by decide) (by decide) (by kernel_rfl) ?_;clear H;intro g20 w10 H;refine H.aG 2 0 wq rfl rfl rfl (vT _ _) (by omega) (by omega) ?_;clear H;intro B2 d2 w11 H;have e1:(G++[g]).length=G.length+1:=by rw[List.length_append];rfl
     have e2:flat bY (G++[g])=flat bY G++bY g:=du ..;refine ⟨(G++[g],B2,d2,dS l g true),⟨by rw[e1];rfl,trivial⟩,⟨fun y hy=>?_,hin _ (fun y h=>List.mem_append_left _ h) (List.mem_append_right _ (List.mem_singleton.2 rfl)),by show (G++[g]).length≤k+1;omega,fun y=>?_⟩,by rw[e1,e2];exact H.forget.forget⟩
     ·rcases List.mem_append.1 hy with hy | hy
      ·exact hG y hy
      ·rw[List.mem_singleton] at hy;subst hy;exact ⟨hgo.1,hgo.2.1,hgo.2.2.1⟩
     ·rw[e8];by_cases hyg:y=g
      ·rw[if_pos hyg,hyg];simp
      ·rw[if_neg hyg,hmet y];simp[hyg]
   ·clear H hG hLG hGl hmet;rintro ⟨G,B,d,l⟩ u w7 ⟨⟨hG,hLG,hGl,hmet⟩,H⟩;exact ⟨(k+1,G,B,d,l),by show L.length - (k+1)<L.length - k;omega,⟨up (by omega),rfl,trivial⟩,⟨by show k+1≤L.length;omega,hG,hLG,hGl,hmet⟩,H⟩
  ·have:k=L.length:=by omega
   subst this;rw[List.take_length] at hLG;refine ⟨(G,B,d),⟨rfl,trivial⟩,⟨⟨hG,fun p hp=>?_⟩,by omega⟩,H.only⟩;obtain ⟨x,hx,hxp⟩:=dI.1 (hcov.out p hp);have hcub:=hcov.cubes x hx;have hxs:ck (ba x.1 x.2 n) may:=fun p hp=>hcov.um p (dI.2 ⟨x,hx,hp⟩);exact dI.2 ⟨_,hLG x hx,(tw hn hcub.lt hcub.sub hxs n).2.2.2 p hxp⟩
 clear H;rintro ⟨G,B,d⟩ u w6 ⟨⟨hG,hGl⟩,H⟩;exact ⟨B,d,G,rfl,hG,hGl,H.out⟩
end Go.Proofs.YtpjihhgjbbihkaaGreatDoor
namespace Go.Dk
section
variable {P:Program} {w0 w:World} {F:Nat→Prop} {L M:List cC} {kk:Value→World→Prop}
theorem vc {t e:TypeId}{sz l c i g:Nat}{kd:IntKind}{j:Int}(ht:P.underlying t=some (.slice e))(hz:bB P e=some sz)(hj:j=(i:Int))(hi:i≤l)(hlc:l≤c)(hc:0<c)(h:kk (.slice (some ⟨g,0,none⟩) i c) w):eP P t (.slice (some ⟨g,0,none⟩) l c) none (some (.int kd j)) none w kk:=by
 subst hj;unfold eP;refine ⟨_,w,?_,h⟩;rw[run_sliceAt_slice w t _ _ _ _ (elemOf ht),run_slice_h w t (some ⟨g,0,none⟩) l c (elemOf ht) kd (i:Int) (by omega) (by omega),np ht,run_sizeOf hz];show Result.ok (sliced (some ⟨g,0,none⟩) 0 i c sz) w=_;unfold sliced;rw[if_neg (by omega)];simp[addr_add]
theorem Hp.CK (H:Hp w0 F w L M)(n:Nat){t e ty:TypeId}{z:Value}{sz b l c i g:Nat}{xs:List Value}{cst:Array Bool}(T:qu P t e z sz b)(hn:L[n]?=some (own e sz (.slice (some ⟨g,0,none⟩) l c) l xs))(hi:i<l)(hone:∀ u ∈ xs,u.oneCell'=true)(hl:l*b≤140737488355328)(hl':l<1152921504606846976)(h:∀ A d w',Hp w0 F w' (L.set n (own e sz (.slice A (l - 1) d) (l - 1) (xs.take (i*sz)++xs.drop ((i+1)*sz)))) M→kk (.slice A (l - 1) d) w') :
  bU P .append #[t,t] ty cst [.slice (some ⟨g,0,none⟩) i c,sliced (some ⟨g,0,none⟩) (i+1) l c sz] w kk:=by
 obtain ⟨ti,hti,hz,hs',hb⟩:=T.parts;have hSl:=bE (H.get n hn);obtain ⟨A',c',e1,hsl⟩:=lO T.und T.size hSl (i:=i+1) (by omega);rw[e1];obtain ⟨hlen,hcase⟩:=H.get n hn;rcases hcase with ⟨hv,hz⟩ | ⟨g',cap,cur,hv,hbb,hg,hlc,hm,hcs,hx⟩
 ·omega
 injection hv with v1 _ v2;injection v1 with v1;injection v1 with v1 _ _;subst v1;subst v2;have hmul:=Nat.mul_le_mul_right sz (show i≤l by omega);have hown:(own e sz (.slice (some ⟨g,0,none⟩) i c) i (xs.take (i*sz))).ok w:=by
  refine ⟨by rw[List.length_take,hlen];omega,.inr ⟨g,c,cur,rfl,hbb,hg,by omega,hm,hcs,?_⟩⟩;rw[← hx,List.take_take,Nat.min_eq_left hmul]
 have H2:=H.mQ n hn (own e sz (.slice (some ⟨g,0,none⟩) i c) i (xs.take (i*sz))) (aS.refl _ _) hown (fun x hx=>⟨(World.ownsRow.lt (w:=w) (base:=0) hown x hx).2,.inl hx⟩);have hn2:(L.set n (own e sz (.slice (some ⟨g,0,none⟩) i c) i (xs.take (i*sz))))[n]?=some (own e sz (.slice (some ⟨g,0,none⟩) i c) i (xs.take (i*sz))):=by
  rw[List.getElem?_set,if_pos rfl,if_pos (List.getElem?_eq_some_iff.1 hn).1]
 have hle:l - (i+1)=l - 1 - i:=by omega
 have e3:i+(l - 1 - i)=l - 1:=by omega
 rw[hle] at hsl ⊢;have hbl:(i+(l - 1 - i))*b≤140737488355328:=by rw[e3];exact Nat.le_trans (Nat.mul_le_mul_right b (by omega)) hl
 refine H2.kz n T hn2 hsl (fun u hu=>hone u (List.mem_of_mem_drop hu)) hbl (by omega) ?_;intro A d w' H3;rw[List.set_set,e3] at H3;have:=h A d w' H3;rw[e3];exact this
end
def kE (o out:Nat):Nat:=o &&&(255 - 2^out)
def bk (l:List Rw)(i out:Nat):List Rw:=
 match l[i]? with
 | some x=>if kE x.2.2 out=0 then l.take i++l.drop (i+1) else l.set i (x.1,x.2.1,kE x.2.2 out)
 | none=>l
theorem oj {α:Type}{enc:α→List Value}{sz:Nat}(he:∀ a,(enc a).length=sz):∀ (l:List α) (i:Nat),flat enc (l.take i)=(flat enc l).take (i*sz)
 | [],i=>by simp[flat]
 | a::l,0=>by simp[flat]
 | a::l,i+1=>by
  have ih:=oj he l i;have e:flat enc (a::l)=enc a++flat enc l:=rfl;rw[List.take_succ_cons,e,Nat.succ_mul,Nat.add_comm,List.take_append,he,Nat.add_sub_cancel_left,← ih,List.take_of_length_le (l:=enc a) (by rw[he];omega)];rfl
theorem oo {α:Type}{enc:α→List Value}{sz:Nat}(he:∀ a,(enc a).length=sz):∀ (l:List α) (i:Nat),flat enc (l.drop i)=(flat enc l).drop (i*sz)
 | [],i=>by simp[flat]
 | a::l,0=>by simp
 | a::l,i+1=>by
  have ih:=oo he l i;have e:flat enc (a::l)=enc a++flat enc l:=rfl;rw[List.drop_succ_cons,e,Nat.succ_mul,Nat.add_comm,List.drop_append,he,Nat.add_sub_cancel_left,← ih,List.drop_of_length_le (l:=enc a) (by rw[he];omega)];rfl
end Go.Dk
namespace Go.Proofs.YtpjihhgjbbihkaaGreatDoor
open Go.Proofs.Tryz
open Go.Dk
set_option maxRecDepth 100000
attribute [local irreducible] IntKind.wrap
theorem Br:qu prog 44 50 (oU 0 0 0) 3 3:=⟨underlying44,by kernel_rfl,rfl,by decide⟩
theorem oq (l:List Rw):∀ v ∈ flat bj l,v.oneCell'=true:=fun v hv=>by
 unfold flat at hv;obtain ⟨x,_,hx⟩:=List.mem_flatMap.1 hv;exact eK x.1 x.2.1 x.2.2 v hx
theorem LQ:enters prog 93=true:=by kernel_rfl
theorem c93 (l:List Rw)(i out:Nat)(hi:i<l.length)(hout:out<8)(hl:∀ x ∈ l,x.2.2<256)(hll:l.length≤1000000)(A:Option Addr)(c:Nat)(w:World)(hA:Sl w (.slice A l.length c) 3 l.length (flat bj l)) :
  bt prog 93 [.slice A l.length c,.int .i64 (i:Int),.int .i64 (out:Int)] w fun r w'=>∃ D d,r=.slice D (bk l i out).length d∧eX w w' (own 50 3 (.slice D (bk l i out).length d) (bk l i out).length (flat bj (bk l i out))):=by
 refine ar (N:=36) func93 LQ rfl rfl rfl (by simp) ?_;have H:=Hp.aC w;obtain ⟨x,hx,hxin⟩:=kC hi;have hxo:=hl x hxin;have hwx:bk l i out=if kE x.2.2 out=0 then l.take i++l.drop (i+1) else l.set i (x.1,x.2.1,kE x.2.2 out):=by unfold bk;rw[hx]
 rw[hwx];obtain ⟨m,v,o⟩:=x;simp only at hxo;have h2:2^out<256:=show 2^out<2^8 from Nat.pow_lt_pow_right (by decide) hout;refine ak (γ:=Unit) (fun _=>[(6,.slice none 0 0)]) (fun _ w'=>Hp w ab w' [] []) ⟨(),⟨rfl,trivial⟩,H⟩ ?_;clear H;rintro ⟨⟩ u w1 H;refine ak (γ:=Nat × Nat) (fun (g,d)=>[(7,.slice (some ⟨g,0,none⟩) l.length d)]) (fun (g,d) w'=>(l.length≤d)∧Hp w ab w' [own 50 3 (.slice (some ⟨g,0,none⟩) l.length d) l.length (flat bj l)] []) ?_ ?_
 ·refine Hp.dr H Br ?_;clear H;intro g20 w2 H;refine Hp.cj H 0 Br rfl (hA.same H.keeps) (oq l) (by omega) (by omega) ?_;clear H;intro A1 d1 w3 H;obtain ⟨g,rfl⟩:=H.mq 0 rfl (by omega);have hd:l.length≤d1:=by
   obtain ⟨A',c',e,h⟩:=e9 (H.get 0 rfl);injection e with _ _ e;omega
  exact ⟨(g,d1),⟨rfl,trivial⟩,hd,H⟩
 clear H;rintro ⟨g,d⟩ u w2 ⟨hd,H⟩;have hset:(l.set i (m,v,kE o out))[i]?=some (m,v,kE o out):=by rw[List.getElem?_set];simp[hi]
 have hsl:(l.set i (m,v,kE o out)).length=l.length:=List.length_set;refine ak (γ:=Option Addr × Nat × List Rw) (fun (B,d,R)=>[(7,.slice B R.length d)]) (fun (B,d,R) w'=>R=(if kE o out=0 then l.take i++l.drop (i+1) else l.set i (m,v,kE o out))∧Hp w ab w' [own 50 3 (.slice B R.length d) R.length (flat bj R)] []) ?_ ?_
 ·refine H.draw eS (by kernel_rfl) ?_;clear H;intro w3 H;refine quiet _ (fun w H=>aq underlying44 bd i rfl hi (o':=0+i*3) rfl ae) ?_;refine quiet _ (fun w H=>aa (dN _ _) ae) ?_;refine quiet (.int .u8 (o:Int)) (fun w H=>H.mr 0 rfl bI cg i 2 (by omega) hx rfl ae) ?_;refine quiet _ (fun w H=>b8 (by omega) ae) ?_;refine quiet _ (fun w H=>jk (by omega) (by omega) ae) ?_;refine quiet _ (fun w H=>aq underlying44 bd i rfl hi (o':=0+i*3) rfl ae) ?_;refine quiet _ (fun w H=>aa (dN _ _) ae) ?_;refine H.xI 0 (m,v,kE o out) rfl bI lf i 2 (by omega) hx (by decide) rfl rfl ?_;clear H;intro w4 H;refine ⟨.inr rfl,?_⟩;generalize hLd:l.set i (m,v,kE o out)=L at H hset hsl ⊢;refine aq underlying44 bd i rfl hi (o':=0+i*3) rfl ?_;refine aa (dN _ _) ?_;refine H.mr 0 rfl bI cg i 2 (by omega) hset (u:=.int .u8 ((kE o out:Nat):Int)) rfl ?_;by_cases h0:kE o out=0
  ·refine ag (by rw[beq_iff_eq];omega) ?_;refine H.fg [] (fun u H=>H.forget) eS (by kernel_rfl) ?_;clear H;intro w5 H;refine quiet _ (fun w H=>vc (i:=i) underlying44 bd rfl (by omega) (by omega) (by omega) ae) ?_;have hw:IntKind.i64.wrap ((i:Int)+1)=((i+1:Nat):Int):=by rw[aH (by omega) (by omega)];omega
   refine quiet _ (fun w H=>r6 (i:=i+1) (sz:=3) (l:=l.length) (c:=d) (A:=some ⟨g,0,none⟩) underlying44 bd hw (by omega) ae) ?_;refine H.CK 0 Br rfl hi (oq L) (by omega) (by omega) ?_;clear H;intro A2 d2 w6 H;refine ⟨.inl H.forget,?_⟩;have hLL:(l.take i++l.drop (i+1)).length=l.length - 1:=by simp;omega
   have hf:(flat bj L).take (i*3)++(flat bj L).drop ((i+1)*3)=flat bj (l.take i++l.drop (i+1)):=by
    rw[← oj bI,← oo bI,← hLd,List.take_set_of_le (Nat.le_refl _),List.drop_set_of_lt (by omega)];unfold flat;rw[List.flatMap_append]
   refine ⟨(A2,d2,l.take i++l.drop (i+1)),⟨by rw[hLL];rfl,trivial⟩,(if_pos h0).symm,?_⟩;rw[hLL,← hf];exact H
  ·refine af (by rw[beq_eq_false_iff_ne];omega) ?_;exact ⟨(some ⟨g,0,none⟩,d,L),⟨by rw[hsl];rfl,trivial⟩,(if_neg h0).symm,by rw[hsl];exact H⟩
 clear H;rintro ⟨B,d',R⟩ u w4 ⟨hR,H⟩;subst hR;exact ⟨B,d',rfl,H.out⟩
end Go.Proofs.YtpjihhgjbbihkaaGreatDoor
namespace Go.Dk
def nD (S:dU)(m v o:Nat):Rw:=((a8 S m v o S.n).1,(a8 S m v o S.n).2,iF S (a8 S m v o S.n).1 (a8 S m v o S.n).2)
theorem p_ {S:dU}(hS:cK S){m v o:Nat}(h:jQ S (m,v,o)):jQ S (nD S m v o)∧ck (ba m v S.n) (ba (nD S m v o).1 (nD S m v o).2.1 S.n)∧∀ j,o.testBit j=true→(nD S m v o).2.2.testBit j=true:=by
 obtain ⟨h1,h2⟩:=p9 hS h S.n;obtain ⟨h3,h4⟩:=Bq hS h1;exact ⟨h3,h2,h4⟩
structure qY (S:dU) (k:Nat) (R:List Rw):Prop where
 um:∀ x ∈ R,jQ S x
 out:∀ i a,i<k→S.on[i]?=some a→ck a (fO S.n i R)
theorem JH {S:dU}(hS:cK S){i:Nat}{a:Nat}{m v:Nat}(hb:S.may[i]?=some a)(hm:m<2^S.n)(hs:v &&&m=v)(hw:ck (ba m v S.n) a):jQ S (m,v,2^i):=by
 have hi:i<S.on.length:=by rw[← hS.len];exact (List.getElem?_eq_some_iff.1 hb).1
 refine ⟨hm,hs,Nat.pow_pos (by decide),Nat.pow_lt_pow_right (by decide) hi,fun j b hj hjb=>?_⟩;rw[Nat.testBit_two_pow,decide_eq_true_eq] at hj;subst hj;rw[hb] at hjb;injection hjb with hjb;subst hjb;exact hw
end Go.Dk
namespace Go.Proofs.YtpjihhgjbbihkaaGreatDoor
open Go.Proofs.Tryz
open Go.Dk
set_option maxRecDepth 100000
attribute [local irreducible] IntKind.wrap
theorem LR:enters prog 57=true:=by kernel_rfl
theorem Ox {S:dU}(hS:cK S)(Bo:Option Addr)(co:Nat)(Bm:Option Addr)(cm:Nat)(w:World)(hA:gn w S Bo co Bm cm) :
  bt prog 57 [rW S.n (.slice Bo S.on.length co) (.slice Bm S.may.length cm)] w fun r w'=>∃ A c R,r=.tuple #[.slice A R.length c,.int .i64 0]∧qY S S.on.length R∧R.length≤26244∧eX w w' (own 50 3 (.slice A R.length c) R.length (flat bj R)):=by
 refine ar (N:=66) func57 LR rfl rfl rfl (by simp) ?_;have H:=Hp.aC w;have hn8:=hS.n8;have hml:S.may.length=S.on.length:=hS.len;have h4:=hS.few;obtain ⟨gO,oO,rfl⟩:=hA.on.A (by have:=hS.some;omega);obtain ⟨gM,oM,rfl⟩:=hA.may.A (by have:=hS.some;omega);refine ak (γ:=Nat) (fun g1=>[(1,(ah g1))]) (fun g1 w'=>Hp w ab w' [an g1 41 (bq S.n (.slice (some ⟨gO,oO,none⟩) S.on.length co) (.slice (some ⟨gM,oM,none⟩) S.may.length cm))] []) ?_ ?_
 ·refine H.box 41 _ (cs:=bq S.n (.slice (some ⟨gO,oO,none⟩) S.on.length co) (.slice (some ⟨gM,oM,none⟩) S.may.length cm)) rfl ?_;clear H;intro g1 w1 H;exact ⟨g1,⟨rfl,trivial⟩,H⟩
 clear H;rintro g1 u w1 H;refine aw (fun w'=>Hp w ab w' [an g1 41 (bq S.n (.slice (some ⟨gO,oO,none⟩) S.on.length co) (.slice (some ⟨gM,oM,none⟩) S.may.length cm))] []) ?_ ?_
 ·refine H.ai 0 rfl dx bL ?_;refine aj (GF hS _ co _ cm _ (hA.same H.keeps)) ?_;rintro _ w2 ⟨rfl,hk⟩;replace H:=H.same hk;refine af rfl ?_;exact ⟨(),trivial,H⟩
 clear H;rintro ⟨⟩ u w2 H;refine ak (γ:=Nat) (fun r=>[(4,.map (some r))]) (fun r w'=>Hp w ab w' [aP wx Value.bool r [],an g1 41 (bq S.n (.slice (some ⟨gO,oO,none⟩) S.on.length co) (.slice (some ⟨gM,oM,none⟩) S.may.length cm))] []) ?_ ?_
 ·refine H.makeMap wx Value.bool ?_;clear H;intro r w4 H;exact ⟨r,⟨rfl,trivial⟩,H⟩
 clear H;rintro r u w3 H;refine ak (γ:=Unit) (fun _=>[(5,.slice none 0 0)]) (fun _ w'=>Hp w ab w' [own 50 3 (.slice none 0 0) 0 [],aP wx Value.bool r [],an g1 41 (bq S.n (.slice (some ⟨gO,oO,none⟩) S.on.length co) (.slice (some ⟨gM,oM,none⟩) S.may.length cm))] []) ⟨(),⟨rfl,trivial⟩,H.bx 50 3⟩ ?_;clear H;rintro ⟨⟩ u w4 H;refine ak (γ:=List Rw × Option Addr × Nat) (fun (R,B,d)=>[(5,.slice B R.length d)]) (fun (R,B,d) w'=>(qY S S.on.length R∧R.length≤26244)∧Hp w ab w' [own 50 3 (.slice B R.length d) R.length (flat bj R)] []) ?_ ?_
 ·refine aa (gp _) ?_;refine H.load 2 rfl dV rfl ?_;refine ay underlying39 ?_;refine ax (γ:=Nat × List Rw × Option Addr × Nat × List (Rw × Bool)) (fun (k,R,B,d,_)=>[(21,.int .i64 (k:Int)),(5,.slice B R.length d)]) (fun (k,R,B,d,l) w'=>(k≤S.on.length∧qY S k R∧R.length≤k*6561∧∀ x,(bR l x).getD false=decide (x ∈ R))∧Hp w ab w' [own 50 3 (.slice B R.length d) R.length (flat bj R),aP wx Value.bool r l,an g1 41 (bq S.n (.slice (some ⟨gO,oO,none⟩) S.on.length co) (.slice (some ⟨gM,oM,none⟩) S.may.length cm))] []) (fun (k,_)=>S.on.length - k) (0,[],none,0,[]) ⟨rfl,rfl,trivial⟩ ⟨⟨Nat.zero_le _,⟨fun x h=>by simp at h,fun i a h=>absurd h (Nat.not_lt_zero _)⟩,Nat.zero_le _,fun x=>by rw[sI];simp⟩,H⟩ ?_;clear H;rintro ⟨k,R,B,d,l⟩ u w6 ⟨⟨hk,hP,hRl,hmet⟩,H⟩;refine au (fun h7=>?_) (fun h7=>?_)
  ·obtain ⟨a,ha,hain⟩:=lj (l:=S.on) (j:=k) (by omega);obtain ⟨b,hb,hbin⟩:=lj (l:=S.may) (j:=k) (by omega);have halt:=hS.onlt a hain;have hblt:=hS.maylt b hbin;have hab:=hS.sub k a b ha hb;have hball:=hS.all b hbin;refine ak (γ:=List Rw × Option Addr × Nat × List (Rw × Bool)) (fun (R,B,d,_)=>[(5,.slice B R.length d)]) (fun (R,B,d,l) w'=>(qY S (k+1) R∧R.length≤(k+1)*6561∧∀ x,(bR l x).getD false=decide (x ∈ R))∧Hp w ab w' [own 50 3 (.slice B R.length d) R.length (flat bj R),aP wx Value.bool r l,an g1 41 (bq S.n (.slice (some ⟨gO,oO,none⟩) S.on.length co) (.slice (some ⟨gM,oM,none⟩) S.may.length cm))] []) ?_ ?_
   ·refine ak (γ:=Nat) (fun g7=>[(7,(ah g7)),(6,.int .i64 (k:Int))]) (fun g7 w'=>Hp w ab w' [an g7 86 (sc a),own 50 3 (.slice B R.length d) R.length (flat bj R),aP wx Value.bool r l,an g1 41 (bq S.n (.slice (some ⟨gO,oO,none⟩) S.on.length co) (.slice (some ⟨gM,oM,none⟩) S.may.length cm))] []) ?_ ?_
    ·refine aq underlying39 av k rfl (by omega) (o':=oO+k*4) (by omega) ?_;refine Sl.cI H hA.on bO aD av k rfl ha ?_;refine H.alloc 86 (cs:=sc 0) bo aY ?_;clear H;intro g7 w7 H;refine H.aW (b:=a) 0 rfl ?_;clear H;intro w8 H;exact ⟨g7,⟨rfl,rfl,trivial⟩,H⟩
    clear H;rintro g7 u w7 H;refine ak (γ:=Option Addr × Nat × List (Nat × Nat)) (fun (A,c,G)=>[(8,.slice A G.length c)]) (fun (A,c,G) w'=>(zS S.n a b G∧G.length≤6561)∧Hp w ab w' [own 48 2 (.slice A G.length c) G.length (flat bY G),own 50 3 (.slice B R.length d) R.length (flat bj R),aP wx Value.bool r l,an g1 41 (bq S.n (.slice (some ⟨gO,oO,none⟩) S.on.length co) (.slice (some ⟨gM,oM,none⟩) S.may.length cm))] []) ?_ ?_
    ·refine H.draw eS (by kernel_rfl) ?_;clear H;intro w8 H;refine quiet _ (fun w H=>H.ai 0 rfl aD av ae) ?_;refine quiet _ (fun w H=>aa (fM _) ae) ?_;refine quiet _ (fun w H=>H.load 3 rfl dV rfl ae) ?_;refine quiet _ (fun w H=>aq underlying39 av k rfl (by omega) (o':=oM+k*4) (by omega) ae) ?_;refine quiet (sv b) (fun w H=>Sl.cI H hA.may bO aD av k rfl hb ae) ?_;refine quiet _ (fun w H=>aa (iG _) ae) ?_;refine quiet _ (fun w H=>H.load 3 rfl aE rfl ae) ?_;refine aj (Ow S.n a b hn8 hab hball halt hblt _) ?_;rintro _ w9 ⟨A,c,G,rfl,hG,hGl,hn'⟩;replace H:=H.bD hn';refine ⟨.inl H.forget,?_⟩;exact ⟨(A,c,G),⟨rfl,trivial⟩,⟨hG,hGl⟩,H.b6 [0,2,3,4] (by decide) rfl⟩
    clear H;rintro ⟨A,c,G⟩ u w8 ⟨⟨hG,hGl⟩,H⟩;refine ay underlying146 ?_;have hlts:∀ x ∈ G,jQ S (x.1,x.2,2^k):=fun x hx=>JH hS hb (hG.lt x hx).1 (hG.lt x hx).2.1 (hG.lt x hx).2.2;refine ax (γ:=Nat × List Rw × Option Addr × Nat × List (Rw × Bool)) (fun (i,R,B,d,_)=>[(40,.int .i64 (i:Int)),(5,.slice B R.length d)]) (fun (i,R',B,d,l) w'=>(i≤G.length∧(∀ x ∈ R',jQ S x)∧(∀ x ∈ R,x ∈ R')∧(∀ x ∈ G.take i,nD S x.1 x.2 (2^k) ∈ R')∧R'.length≤R.length+i∧∀ x,(bR l x).getD false=decide (x ∈ R'))∧Hp w ab w' [own 48 2 (.slice A G.length c) G.length (flat bY G),own 50 3 (.slice B R'.length d) R'.length (flat bj R'),aP wx Value.bool r l,an g1 41 (bq S.n (.slice (some ⟨gO,oO,none⟩) S.on.length co) (.slice (some ⟨gM,oM,none⟩) S.may.length cm))] []) (fun (i,_)=>G.length - i) (0,R,B,d,l) ⟨rfl,rfl,trivial⟩ ⟨⟨Nat.zero_le _,hP.um,fun x h=>h,fun x h=>by simp at h,Nat.le_refl _,hmet⟩,H⟩ ?_;clear H hmet;rintro ⟨i,R',B,d,l⟩ u w9 ⟨⟨hi,hin,hsup,hone,hlen,hmet⟩,H⟩;refine au (fun h7=>?_) (fun h7=>?_)
    ·obtain ⟨x,hx,hxin⟩:=qX (l:=G) (j:=i) (by omega);have htk:=iH hx;have hri:=hlts x hxin;have hro:=hri.ok hS;have hok:=p_ hS hri;obtain ⟨m,v⟩:=x;have hm:=hro.m;have hv:=hro.v;simp only at hm hv;refine ak (γ:=List Rw × Option Addr × Nat × List (Rw × Bool)) (fun (R,B,d,_)=>[(5,.slice B R.length d)]) (fun (R',B,d,l) w'=>((∀ x ∈ R',jQ S x)∧(∀ x ∈ R,x ∈ R')∧(∀ x ∈ G.take (i+1),nD S x.1 x.2 (2^k) ∈ R')∧R'.length≤R.length+(i+1)∧∀ x,(bR l x).getD false=decide (x ∈ R'))∧Hp w ab w' [own 48 2 (.slice A G.length c) G.length (flat bY G),own 50 3 (.slice B R'.length d) R'.length (flat bj R'),aP wx Value.bool r l,an g1 41 (bq S.n (.slice (some ⟨gO,oO,none⟩) S.on.length co) (.slice (some ⟨gM,oM,none⟩) S.may.length cm))] []) ?_ ?_
     ·rw[htk];have hin':∀ R2:List Rw,(∀ y ∈ R',y ∈ R2)→nD S m v (2^k) ∈ R2→∀ y ∈ G.take i++[(m,v)],nD S y.1 y.2 (2^k) ∈ R2:=fun R2 h1 h2 y hy=>by
       rcases List.mem_append.1 hy with hy | hy
       ·exact h1 _ (hone y hy)
       ·rw[List.mem_singleton] at hy;subst hy;exact h2
      obtain ⟨gA,rfl⟩:=H.mq 0 rfl (by omega);refine ak (γ:=Nat) (fun g11=>[(11,(ah g11))]) (fun g11 w'=>Hp w ab w' [an g11 48 (cc m v),own 48 2 (.slice (some ⟨gA,0,none⟩) G.length c) G.length (flat bY G),own 50 3 (.slice B R'.length d) R'.length (flat bj R'),aP wx Value.bool r l,an g1 41 (bq S.n (.slice (some ⟨gO,oO,none⟩) S.on.length co) (.slice (some ⟨gM,oM,none⟩) S.may.length cm))] []) ?_ ?_
      ·refine aq underlying146 aO i rfl (by omega) (o':=i*2) (by omega) ?_;refine H.gf 0 rfl fh bw aO i rfl hx ?_;refine H.alloc 48 (cs:=cc 0 0) fa rfl ?_;clear H;intro g11 w10 H;refine H.bQ (c:=m) (d:=v) 0 rfl ?_;clear H;intro w11 H;exact ⟨g11,⟨rfl,trivial⟩,H⟩
      clear H;rintro g11 u w10 H;have hgc:=fun u (h:gn u S (some ⟨gO,oO,none⟩) co (some ⟨gM,oM,none⟩) cm)=>c91 hS m v (2^k) hm hv hro.o ((tz hS hri.lt hri.sub hro.o).2 hri) _ co _ cm u h;have hfold:oU (a8 S m v (2^k) S.n).1 (a8 S m v (2^k) S.n).2 (iF S (a8 S m v (2^k) S.n).1 (a8 S m v (2^k) S.n).2)=wx (nD S m v (2^k)):=rfl;simp only[hfold] at hgc;generalize nD S m v (2^k)=y at hok hgc hin';refine ak (γ:=Nat) (fun g12=>[(12,(ah g12))]) (fun g12 w'=>Hp w ab w' [an g12 50 (eU y.1 y.2.1 y.2.2),own 48 2 (.slice (some ⟨gA,0,none⟩) G.length c) G.length (flat bY G),own 50 3 (.slice B R'.length d) R'.length (flat bj R'),aP wx Value.bool r l,an g1 41 (bq S.n (.slice (some ⟨gO,oO,none⟩) S.on.length co) (.slice (some ⟨gM,oM,none⟩) S.may.length cm))] []) ?_ ?_
      ·refine ia (fun u=>Hp w ab u [an g11 48 (cc m v),own 48 2 (.slice (some ⟨gA,0,none⟩) G.length c) G.length (flat bY G),own 50 3 (.slice B R'.length d) R'.length (flat bj R'),aP wx Value.bool r l,an g1 41 (bq S.n (.slice (some ⟨gO,oO,none⟩) S.on.length co) (.slice (some ⟨gM,oM,none⟩) S.may.length cm))] []) [([5,9,10],[0,1,2,3,4,5,6,7,9,10,8,11]),([9,5,10],[0,1,2,3,4,9,5,6,7,10,8,11])] eS (by kernel_rfl) (H.same (aS.drew _)) ?_;replace H:=H.same (aS.drew _);generalize w10.drew=w11 at H;intro z hz;simp only[List.mem_cons,List.not_mem_nil,or_false] at hz;rcases hz with rfl | rfl
       ·refine quiet _ (fun w H=>H.ai 4 rfl dx bL ae) ?_;refine quiet _ (fun w H=>H.ai 0 rfl bw aO ae) ?_;refine quiet _ (fun w H=>b8 (by omega) ae) ?_;refine quiet _ (fun w H=>p6 ae) ?_;refine aj (hgc _ (hA.same H.keeps)) ?_;rintro _ w12 ⟨rfl,hk5⟩;replace H:=H.same hk5;clear hk5;refine ⟨.inl H,?_⟩;refine H.alloc 50 (cs:=eU 0 0 0) jP rfl ?_;clear H;intro g12 w13 H;refine ⟨.inl H.forget,?_⟩;refine H.storeAll (cs':=eU y.1 y.2.1 y.2.2) 0 rfl bd rfl (eK _ _ _) ?_;clear H;intro w14 H;refine ⟨.inl H.forget,?_⟩;exact ⟨g12,⟨rfl,trivial⟩,H.b6 [0,2,3,4,5] (by decide) rfl⟩
       ·refine quiet _ (fun w H=>H.ai 4 rfl dx bL ae) ?_;refine quiet _ (fun w H=>H.ai 0 rfl bw aO ae) ?_;refine quiet _ (fun w H=>b8 (by omega) ae) ?_;refine quiet _ (fun w H=>p6 ae) ?_;refine H.alloc 50 (cs:=eU 0 0 0) jP rfl ?_;clear H;intro g12 w13 H;refine ⟨.inl H.forget,?_⟩;refine aj (hgc _ (hA.same H.keeps)) ?_;rintro _ w12 ⟨rfl,hk5⟩;replace H:=H.same hk5;clear hk5;refine ⟨.inl H.forget,?_⟩;refine H.storeAll (cs':=eU y.1 y.2.1 y.2.2) 0 rfl bd rfl (eK _ _ _) ?_;clear H;intro w14 H;refine ⟨.inl H.forget,?_⟩;exact ⟨g12,⟨rfl,trivial⟩,H.b6 [0,2,3,4,5] (by decide) rfl⟩
      clear H;rintro g12 u w11 H;have hmg:=hmet y;refine H.ai 0 rfl ij bd ?_;by_cases hgin:y ∈ R'
      ·rw[decide_eq_true hgin] at hmg;refine eg (H.get 3 rfl) JF y (v:=.bool true) (by revert hmg;cases bR l y <;> simp) ?_;refine af rfl ?_;exact ⟨(R',B,d,l),⟨rfl,trivial⟩,⟨hin,hsup,hin' R' (fun y h=>h) hgin,by show R'.length≤R.length+(i+1);omega,hmet⟩,H.forget⟩
      ·rw[decide_eq_false hgin] at hmg;refine eg (H.get 3 rfl) JF y (v:=.bool false) (by revert hmg;cases bR l y <;> simp) ?_;refine ag rfl ?_;refine H.ai 0 rfl ij bd ?_;refine H.iw 3 rfl JF y true ?_;clear H;intro w12 H;refine H.ai 0 rfl ij bd ?_;refine H.bg Br (cs:=eU y.1 y.2.1 y.2.2) (by decide) (by decide) (by kernel_rfl) ?_;clear H;intro g20 w13 H;refine H.aG 3 0 Br rfl rfl rfl (eK _ _ _) (by omega) (by omega) ?_;clear H;intro B2 d2 w14 H;have e1:(R'++[y]).length=R'.length+1:=by rw[List.length_append];rfl
       have e2:flat bj (R'++[y])=flat bj R'++bj y:=du ..;refine ⟨(R'++[y],B2,d2,dS l y true),⟨by rw[e1];rfl,trivial⟩,⟨fun z hz=>?_,fun z hz=>List.mem_append_left _ (hsup z hz),hin' _ (fun y h=>List.mem_append_left _ h) (List.mem_append_right _ (List.mem_singleton.2 rfl)),by show (R'++[y]).length≤R.length+(i+1);omega,fun z=>?_⟩,by rw[e1,e2];exact H.forget.forget⟩
       ·rcases List.mem_append.1 hz with hz | hz
        ·exact hin z hz
        ·rw[List.mem_singleton] at hz;subst hz;exact hok.1
       ·rw[e8];by_cases hyg:z=y
        ·rw[if_pos hyg,hyg];simp
        ·rw[if_neg hyg,hmet z];simp[hyg]
     ·clear H hin hsup hone hlen hmet;rintro ⟨R',B,d,l⟩ u w10 ⟨⟨hin,hsup,hone,hlen,hmet⟩,H⟩;exact ⟨(i+1,R',B,d,l),by show G.length - (i+1)<G.length - i;omega,⟨up (by omega),rfl,trivial⟩,⟨by show i+1≤G.length;omega,hin,hsup,hone,hlen,hmet⟩,H⟩
    ·have:i=G.length:=by omega
     subst this;rw[List.take_length] at hone;refine ⟨(R',B,d,l),⟨rfl,trivial⟩,⟨⟨hin,fun j a' hj ha' p hp=>?_⟩,by show R'.length≤(k+1)*6561;omega,hmet⟩,H.forget⟩;rw[fA];rcases Nat.lt_or_ge j k with hjk | hjk
     ·obtain ⟨x,hx,h1,h2⟩:=fA.1 (hP.out j a' hjk ha' p hp);exact ⟨x,hsup x hx,h1,h2⟩
     ·obtain rfl:j=k:=by omega
      rw[ha] at ha';injection ha' with ha';subst ha';obtain ⟨x,hx,hxp⟩:=dI.1 (hG.out p hp);have h:=p_ hS (hlts x hx);exact ⟨_,hone x hx,h.2.2 j (by rw[Nat.testBit_two_pow];simp),h.2.1 p hxp⟩
   ·clear H hP hRl hmet;rintro ⟨R,B,d,l⟩ u w7 ⟨⟨hP,hRl,hmet⟩,H⟩;exact ⟨(k+1,R,B,d,l),by show S.on.length - (k+1)<S.on.length - k;omega,⟨up (by omega),rfl,trivial⟩,⟨by show k+1≤S.on.length;omega,hP,hRl,hmet⟩,H⟩
  ·have:k=S.on.length:=by omega
   subst this;exact ⟨(R,B,d),⟨rfl,trivial⟩,⟨hP,by omega⟩,H.only⟩
 clear H;rintro ⟨R,B,d⟩ u w6 ⟨⟨hP,hRl⟩,H⟩;exact ⟨B,d,R,rfl,hP,hRl,H.out⟩
end Go.Proofs.YtpjihhgjbbihkaaGreatDoor
namespace Go.Dk
theorem lX {o out:Nat}(ho:o<256)(hout:out<8)(j:Nat):(kE o out).testBit j=(o.testBit j&& !decide (j=out)):=by
 rcases Nat.lt_or_ge j 8 with hj | hj
 ·have:=Bj (m:=o) hout j hj;unfold gF at this;unfold kE;rw[this];by_cases h:out=j
  ·subst h;simp
  ·simp[h,Ne.symm h]
 ·unfold kE;rw[Nat.testBit_and,ec ho hj];simp
structure JI (x' x:Rw):Prop where
 m:x'.1=x.1
 v:x'.2.1=x.2.1
 o:∀ j,x'.2.2.testBit j=true→x.2.2.testBit j=true
theorem EJ {l:List Rw}{i out:Nat}(hl:∀ x ∈ l,x.2.2<256)(hout:out<8)(hi:i<l.length){n o p:Nat} :
  (fO n o (bk l i out)).testBit p=true↔∃ j x,l[j]?=some x∧x.2.2.testBit o=true∧(ba x.1 x.2.1 n).testBit p=true∧¬ (j=i∧o=out):=by
 rw[fA];obtain ⟨⟨m,v,ou⟩,hlx⟩:∃ x,l[i]=x:=⟨_,rfl⟩;have hx:l[i]?=some (m,v,ou):=by rw[List.getElem?_eq_getElem hi,hlx]
 have hlt:=hl _ (List.mem_of_getElem? hx);unfold bk;rw[hx];simp only;split
 ·rename_i h0;constructor
  ·rintro ⟨x,hxm,h1,h2⟩;rcases List.mem_append.1 hxm with hxm | hxm
   ·obtain ⟨j,hj⟩:=List.getElem?_of_mem hxm;rw[List.getElem?_take] at hj;split at hj
    ·rename_i hji;exact ⟨j,x,hj,h1,h2,by omega⟩
    ·cases hj
   ·obtain ⟨j,hj⟩:=List.getElem?_of_mem hxm;rw[List.getElem?_drop] at hj;exact ⟨_,x,hj,h1,h2,by omega⟩
  ·rintro ⟨j,x,hj,h1,h2,h3⟩;refine ⟨x,List.mem_append.2 ?_,h1,h2⟩;rcases Nat.lt_trichotomy j i with h | h | h
   ·exact .inl (List.mem_of_getElem? (i:=j) (by rw[List.getElem?_take,if_pos h];exact hj))
   ·subst h;rw[hx] at hj;injection hj with hj;subst hj;have:=lX hlt hout o;rw[h0] at this;simp only at h1;rw[h1] at this;simp at this;exact absurd ⟨rfl,this⟩ h3
   ·refine .inr (List.mem_of_getElem? (i:=j - (i+1)) ?_);rw[List.getElem?_drop,show i+1+(j - (i+1))=j by omega];exact hj
 ·constructor
  ·rintro ⟨x,hxm,h1,h2⟩;obtain ⟨j,hj⟩:=List.getElem?_of_mem hxm;rw[List.getElem?_set] at hj;split at hj
   ·rename_i hij;subst hij;injection hj with hj;subst hj;simp only at h1 h2;rw[lX hlt hout,Bool.and_eq_true] at h1;exact ⟨i,_,hx,h1.1,h2,by have:=h1.2;simp at this;omega⟩
   ·exact ⟨j,x,hj,h1,h2,by omega⟩
  ·rintro ⟨j,x,hj,h1,h2,h3⟩;by_cases hij:j=i
   ·subst hij;rw[hx] at hj;injection hj with hj;subst hj;refine ⟨(m,v,kE ou out),List.mem_of_getElem? (i:=j) (by rw[List.getElem?_set,if_pos rfl,if_pos hi]),?_,h2⟩;simp only at h1 ⊢;rw[lX hlt hout,h1];simp;omega
   ·exact ⟨x,List.mem_of_getElem? (i:=j) (by rw[List.getElem?_set,if_neg (by omega)];exact hj),h1,h2⟩
theorem gu {S:dU}(hS:cK S){l:List Rw}:br S l=true↔∀ (j a b:Nat),S.on[j]?=some a→S.may[j]?=some b→ck a (fO S.n j l)∧ck (fO S.n j l) b:=by
 unfold br;rw[List.all_eq_true];constructor
 ·intro h j a b ha hb;have hj:=(List.getElem?_eq_some_iff.1 ha).1;have:=h j (List.mem_range.2 hj);rw[List.getD_eq_getElem?_getD,ha,List.getD_eq_getElem?_getD,hb,Bool.and_eq_true] at this;have hal:=hS.onlt a (List.mem_of_getElem? ha);exact ⟨(gU hal).1 this.1,(gU (wm _ _ _)).1 this.2⟩
 ·intro h j hj;have hj:=List.mem_range.1 hj;obtain ⟨a,ha,hain⟩:=Go.Proofs.YtpjihhgjbbihkaaGreatDoor.lj (l:=S.on) hj;obtain ⟨b,hb,_⟩:=Go.Proofs.YtpjihhgjbbihkaaGreatDoor.lj (l:=S.may) (j:=j) (by rw[hS.len];exact hj);have:=h j a b ha hb;rw[List.getD_eq_getElem?_getD,ha,List.getD_eq_getElem?_getD,hb,Bool.and_eq_true];exact ⟨(gU (hS.onlt a hain)).2 this.1,(gU (wm _ _ _)).2 this.2⟩
theorem yr {S:dU}(hS:cK S){l l':List Rw}(h:∀ j p,(fO S.n j l').testBit p=true→(fO S.n j l).testBit p=true)(hm:∀ (j b:Nat),S.may[j]?=some b→ck (fO S.n j l) b)(hc:br S l'=true):br S l=true:=by
 rw[gu hS] at hc ⊢;intro j a b ha hb;exact ⟨fun p hp=>h j p ((hc j a b ha hb).1 p hp),hm j b hb⟩
def CL (j:Nat)(l' l:List Rw):Prop:=∀ i' x',l'[i']?=some x'→∃ i x,l[i]?=some x∧JI x' x∧(i=j→i'=j)
theorem GN {l l':List Rw}{j out:Nat}(h:CL j l' l)(hl:∀ x ∈ l,x.2.2<256)(hl':∀ x ∈ l',x.2.2<256)(hout:out<8)(hj:j<l.length)(hj':j<l'.length){n o p:Nat}(hp:(fO n o (bk l' j out)).testBit p=true):(fO n o (bk l j out)).testBit p=true:=by
 rw[EJ hl' hout hj'] at hp;rw[EJ hl hout hj];obtain ⟨i',x',h1,h2,h3,h4⟩:=hp;obtain ⟨i,x,g1,g2,g3⟩:=h i' x' h1;refine ⟨i,x,g1,g2.o o h2,by rw[← g2.m,← g2.v];exact h3,fun hh=>h4 ⟨g3 hh.1,hh.2⟩⟩
theorem JI.refl (x:Rw):JI x x:=⟨rfl,rfl,fun _ h=>h⟩
theorem GO {l:List Rw}{i out j:Nat}(hl:∀ x ∈ l,x.2.2<256)(hout:out<8)(hi:i<l.length)(hj:j<i):CL j (bk l i out) l:=by
 intro i' x' hx';obtain ⟨⟨m,v,ou⟩,hlx⟩:∃ x,l[i]=x:=⟨_,rfl⟩;have hx:l[i]?=some (m,v,ou):=by rw[List.getElem?_eq_getElem hi,hlx]
 have hlt:=hl _ (List.mem_of_getElem? hx);unfold bk at hx';rw[hx] at hx';simp only at hx';split at hx'
 ·rw[List.getElem?_append,List.length_take,Nat.min_eq_left (by omega)] at hx';split at hx'
  ·rename_i h;rw[List.getElem?_take,if_pos h] at hx';exact ⟨i',x',hx',JI.refl _,id⟩
  ·rw[List.getElem?_drop] at hx';exact ⟨_,x',hx',JI.refl _,fun h=>by omega⟩
 ·rw[List.getElem?_set] at hx';split at hx'
  ·rename_i h;injection hx' with hx';subst hx' h;exact ⟨i,_,hx,⟨rfl,rfl,fun j h=>by rw[lX hlt hout,Bool.and_eq_true] at h;exact h.1⟩,id⟩
  ·exact ⟨i',x',hx',JI.refl _,id⟩
theorem EK {l:List Rw}{i out j:Nat}(hl:∀ x ∈ l,x.2.2<256)(hout:out<8)(hi:i<l.length)(h:(bk l i out).length=l.length):CL j (bk l i out) l:=by
 intro i' x' hx';obtain ⟨⟨m,v,ou⟩,hlx⟩:∃ x,l[i]=x:=⟨_,rfl⟩;have hx:l[i]?=some (m,v,ou):=by rw[List.getElem?_eq_getElem hi,hlx]
 have hlt:=hl _ (List.mem_of_getElem? hx);unfold bk at hx' h;rw[hx] at hx' h;simp only at hx' h;split at hx'
 ·rename_i h0;rw[if_pos h0] at h;simp at h;omega
 ·rw[List.getElem?_set] at hx';split at hx'
  ·rename_i h;injection hx' with hx';subst hx' h;exact ⟨i,_,hx,⟨rfl,rfl,fun j h=>by rw[lX hlt hout,Bool.and_eq_true] at h;exact h.1⟩,id⟩
  ·exact ⟨i',x',hx',JI.refl _,id⟩
theorem JJ {l:List Rw}{i out:Nat}(hi:i<l.length):(bk l i out).length=l.length∨(bk l i out).length+1=l.length:=by
 unfold bk;rw[List.getElem?_eq_getElem hi];simp only;split
 ·exact .inr (by simp;omega)
 ·exact .inl List.length_set
theorem JK {l:List Rw}{i out:Nat}(hi:i<l.length){x:Rw}(hx:x ∈ bk l i out):x ∈ l∨∃ y ∈ l,kE y.2.2 out≠0∧x=(y.1,y.2.1,kE y.2.2 out):=by
 unfold bk at hx;rw[List.getElem?_eq_getElem hi] at hx;simp only at hx;split at hx
 ·rcases List.mem_append.1 hx with h | h
  ·exact .inl (List.mem_of_mem_take h)
  ·exact .inl (List.mem_of_mem_drop h)
 ·rename_i h0;rcases List.mem_or_eq_of_mem_set hx with h | h
  ·exact .inl h
  ·exact .inr ⟨_,List.getElem_mem hi,h0,h⟩
theorem LS {n k:Nat}{l:List Rw}(hl:∀ x ∈ l,gK n k x){i out:Nat}(hi:i<l.length):∀ x ∈ bk l i out,gK n k x:=by
 intro x hx;rcases JK hi hx with h | ⟨y,hy,h0,rfl⟩
 ·exact hl x h
 ·have h:=hl y hy;have hle:kE y.2.2 out≤y.2.2:=Nat.and_le_left;have:=h.o;have:=h.few;exact ⟨h.m,h.v,by show kE y.2.2 out<256;omega,h.right,Nat.pos_of_ne_zero h0,by show kE y.2.2 out<2^k;omega⟩
theorem JL {S:dU}{l:List Rw}(hl:∀ x ∈ l,x.2.2<256){i out:Nat}(hout:out<8)(hi:i<l.length)(j p:Nat)(h:(fO S.n j (bk l i out)).testBit p=true):(fO S.n j l).testBit p=true:=by
 rw[EJ hl hout hi] at h;obtain ⟨j',x,h1,h2,h3,_⟩:=h;exact fA.2 ⟨x,List.mem_of_getElem? h1,h2,h3⟩
def pg (S:dU)(l:List Rw)(i:Nat):Prop:=∀ (j:Nat) (x:Rw) (out:Nat),j<i→l[j]?=some x→x.2.2.testBit out=true→br S (bk l j out)=false
theorem yt {S:dU}(hS:cK S){l l':List Rw}{j out:Nat}(hf:CL j l' l)(hl:∀ x ∈ l,x.2.2<256)(hl':∀ x ∈ l',x.2.2<256)(hc:br S l=true)(hout:out<8)(hj:j<l.length)(hj':j<l'.length)(h:br S (bk l j out)=false):br S (bk l' j out)=false:=by
 rw[Bool.eq_false_iff] at h ⊢;intro hh;refine h (yr hS (fun o p=>GN hf hl hl' hout hj hj') (fun o b hb p hp=>?_) hh);have hol:o<S.on.length:=by rw[← hS.len];exact (List.getElem?_eq_some_iff.1 hb).1
 exact ((gu hS).1 hc o _ b (List.getElem?_eq_getElem hol) hb).2 p (JL hl hout hj o p hp)
theorem qZ (p i:Nat):((((p / 2^i &&&1:Nat):Int)==0):Bool)= !p.testBit i:=by
 have h:=cB p i;rw[Nat.and_one_is_mod] at h ⊢;rcases Nat.mod_two_eq_zero_or_one (p / 2^i) with e | e
 ·rw[e] at h ⊢;rw[← h];rfl
 ·rw[e] at h ⊢;rw[← h];rfl
theorem EL {l:List Rw}{i out j:Nat}(hi:i<l.length)(hj:j<i):(bk l i out)[j]?=l[j]?:=by
 unfold bk;rw[List.getElem?_eq_getElem hi];simp only;split
 ·rw[List.getElem?_append,List.length_take,Nat.min_eq_left (by omega),if_pos hj,List.getElem?_take,if_pos hj]
 ·rw[List.getElem?_set,if_neg (by omega)]
def wy (S:dU)(n0 i k:Nat)(R:List Rw):Prop:=
 (R.length=n0∧i<n0∧∀ (x:Rw) (out:Nat),out<k→R[i]?=some x→x.2.2.testBit out=true→br S (bk R i out)=false)∨R.length+1=n0
end Go.Dk
namespace Go.Proofs.YtpjihhgjbbihkaaGreatDoor
open Go.Proofs.Tryz
open Go.Dk
set_option maxRecDepth 100000
attribute [local irreducible] IntKind.wrap
theorem LU:enters prog 58=true:=by kernel_rfl
theorem Oy {S:dU}(hS:cK S)(l:List Rw)(hl:∀ x ∈ l,gK S.n S.on.length x)(hll:l.length≤1000000)(hc:br S l=true)(Bo:Option Addr)(co:Nat)(Bm:Option Addr)(cm:Nat)(A:Option Addr)(c:Nat)(w:World)(hA:gn w S Bo co Bm cm)(hR:Sl w (.slice A l.length c) 3 l.length (flat bj l)) :
  bt prog 58 [rW S.n (.slice Bo S.on.length co) (.slice Bm S.may.length cm),.slice A l.length c] w fun r w'=>∃ B d R,r=.tuple #[.slice B R.length d,.int .i64 0]∧(R.length≤l.length∧(∀ x ∈ R,gK S.n S.on.length x)∧br S R=true∧pg S R R.length)∧eX w w' (own 50 3 (.slice B R.length d) R.length (flat bj R)):=by
 refine ar (N:=61) func58 LU rfl rfl rfl (by simp) ?_;have H:=Hp.aC w;have hn8:=hS.n8;have hml:S.may.length=S.on.length:=hS.len;have h4:=hS.few;refine ak (γ:=Nat) (fun g2=>[(2,(ah g2))]) (fun g2 w'=>Hp w ab w' [an g2 41 (bq S.n (.slice Bo S.on.length co) (.slice Bm S.may.length cm))] []) ?_ ?_
 ·refine H.box 41 _ (cs:=bq S.n (.slice Bo S.on.length co) (.slice Bm S.may.length cm)) rfl ?_;clear H;intro g2 w1 H;exact ⟨g2,⟨rfl,trivial⟩,H⟩
 clear H;rintro g2 u w1 H;refine aw (fun w'=>Hp w ab w' [an g2 41 (bq S.n (.slice Bo S.on.length co) (.slice Bm S.may.length cm))] []) ?_ ?_
 ·have hc':=fun u h1 h2=>Og hS l hl hll Bo co Bm cm A c u h1 h2;rw[hc] at hc';refine H.ai 0 rfl dx bL ?_;refine aj (hc' _ (hA.same H.keeps) (hR.same H.keeps)) ?_;rintro _ w2 ⟨rfl,hk⟩;replace H:=H.same hk;refine af rfl ?_;exact ⟨(),trivial,H⟩
 clear H;rintro ⟨⟩ u w2 H;refine ak (γ:=Option Addr × Nat) (fun (B,d)=>[(6,.slice B l.length d)]) (fun (B,d) w'=>Hp w ab w' [own 50 3 (.slice B l.length d) l.length (flat bj l),an g2 41 (bq S.n (.slice Bo S.on.length co) (.slice Bm S.may.length cm))] []) ?_ ?_
 ·refine Hp.dr H Br ?_;clear H;intro g20 w3 H;refine Hp.cj H 0 Br rfl (hR.same H.keeps) (oq l) (by omega) (by omega) ?_;clear H;intro A1 d1 w4 H;exact ⟨(A1,d1),⟨rfl,trivial⟩,H⟩
 clear H;rintro ⟨B,d⟩ u w3 H;refine ak (γ:=List Rw × Option Addr × Nat) (fun (R,B,d)=>[(6,.slice B R.length d)]) (fun (R,B,d) w'=>(R.length≤l.length∧(∀ x ∈ R,gK S.n S.on.length x)∧br S R=true∧pg S R R.length)∧Hp w ab w' [own 50 3 (.slice B R.length d) R.length (flat bj R)] []) ?_ ?_
 ·refine ax (γ:=Nat × List Rw × Option Addr × Nat) (fun (i,R,B,d)=>[(7,.int .i64 (i:Int)),(6,.slice B R.length d)]) (fun (i,R,B,d) w'=>(i≤R.length∧R.length≤l.length∧(∀ x ∈ R,gK S.n S.on.length x)∧br S R=true∧pg S R i)∧Hp w ab w' [own 50 3 (.slice B R.length d) R.length (flat bj R),an g2 41 (bq S.n (.slice Bo S.on.length co) (.slice Bm S.may.length cm))] []) (fun (i,R,_)=>R.length - i) (0,l,B,d) ⟨rfl,rfl,trivial⟩ ⟨⟨Nat.zero_le _,Nat.le_refl _,hl,hc,fun j x out h=>absurd h (Nat.not_lt_zero _)⟩,H⟩ ?_;clear H;rintro ⟨i,R,B,d⟩ u w6 ⟨⟨hi,hRl,hok,hcov,hneed⟩,H⟩;refine ay underlying44 ?_;refine au (fun h7=>?_) (fun h7=>?_)
  ·refine ak (γ:=Unit) (fun _=>[(8,.int .i64 (R.length:Int))]) (fun _ w'=>Hp w ab w' [own 50 3 (.slice B R.length d) R.length (flat bj R),an g2 41 (bq S.n (.slice Bo S.on.length co) (.slice Bm S.may.length cm))] []) ?_ ?_
   ·refine ay underlying44 ?_;exact ⟨(),⟨rfl,trivial⟩,H⟩
   clear H;rintro ⟨⟩ u w7 H;refine ak (γ:=List Rw × Option Addr × Nat) (fun (R,B,d)=>[(6,.slice B R.length d)]) (fun (R',B,d) w'=>((R'.length=R.length∨R'.length+1=R.length)∧(∀ x ∈ R',gK S.n S.on.length x)∧br S R'=true∧pg S R' i∧wy S R.length i S.on.length R')∧Hp w ab w' [own 50 3 (.slice B R'.length d) R'.length (flat bj R'),an g2 41 (bq S.n (.slice Bo S.on.length co) (.slice Bm S.may.length cm))] []) ?_ ?_
   ·refine aa (gp _) ?_;refine H.load 1 rfl dV rfl ?_;refine ay underlying39 ?_;refine ax (γ:=Nat × List Rw × Option Addr × Nat) (fun (k,R,B,d)=>[(27,.int .i64 (k:Int)),(6,.slice B R.length d)]) (fun (k,R',B,d) w'=>(k≤S.on.length∧(∀ x ∈ R',gK S.n S.on.length x)∧br S R'=true∧pg S R' i∧wy S R.length i k R')∧Hp w ab w' [own 50 3 (.slice B R'.length d) R'.length (flat bj R'),an g2 41 (bq S.n (.slice Bo S.on.length co) (.slice Bm S.may.length cm))] []) (fun (k,_)=>S.on.length - k) (0,R,B,d) ⟨rfl,rfl,trivial⟩ ⟨⟨Nat.zero_le _,hok,hcov,hneed,.inl ⟨rfl,by omega,fun x out h=>absurd h (Nat.not_lt_zero _)⟩⟩,H⟩ ?_;clear H;rintro ⟨k,R',B,d⟩ u w8 ⟨⟨hk,hok',hcov',hneed',hnow⟩,H⟩;refine au (fun h8=>?_) (fun h8=>?_)
    ·refine ak (γ:=List Rw × Option Addr × Nat) (fun (R,B,d)=>[(6,.slice B R.length d)]) (fun (R',B,d) w'=>((∀ x ∈ R',gK S.n S.on.length x)∧br S R'=true∧pg S R' i∧wy S R.length i (k+1) R')∧Hp w ab w' [own 50 3 (.slice B R'.length d) R'.length (flat bj R'),an g2 41 (bq S.n (.slice Bo S.on.length co) (.slice Bm S.may.length cm))] []) ?_ ?_
     ·refine ak (γ:=Unit) (fun _=>[(9,.int .i64 (k:Int))]) (fun _ w'=>Hp w ab w' [own 50 3 (.slice B R'.length d) R'.length (flat bj R'),an g2 41 (bq S.n (.slice Bo S.on.length co) (.slice Bm S.may.length cm))] []) ⟨(),⟨rfl,trivial⟩,H⟩ ?_;clear H;rintro ⟨⟩ u w9 H;rcases hnow with ⟨hl1,hin,hno⟩ | hl1
      ·obtain ⟨x,hx,hxin⟩:=kC (l:=R') (j:=i) (by omega);have hxo:=hok' x hxin;have e1:¬ (R'.length:Int)<(R.length:Int):=by omega
       obtain ⟨gB,rfl⟩:=H.mq 0 rfl (by omega);obtain ⟨m,v,o⟩:=x;have ho:=hxo.o;simp only at ho;have e2:=qZ o k;by_cases hb:o.testBit k=true
       ·refine ay underlying44 ?_
        iterate 3 refine af (decide_eq_false e1) ?_
        refine aq underlying44 bd i rfl (by omega) (o':=0+i*3) rfl ?_;refine af (decide_eq_false e1) ?_;refine aa (dN _ _) ?_;refine af (decide_eq_false e1) ?_;refine H.mr 0 rfl bI cg i 2 (by omega) hx (u:=.int .u8 (o:Int)) rfl ?_
        iterate 2 refine af (decide_eq_false e1) ?_
        refine eR (by omega) ?_;refine af (decide_eq_false e1) ?_;refine dL (b:=1) (Nat.lt_of_le_of_lt (Nat.div_le_self _ _) ho) (by omega) ?_
        iterate 1 refine af (decide_eq_false e1) ?_
        refine af (decide_eq_false (by assumption)) ?_;refine af (by simp only[*,Bool.not_false,Bool.not_true]) ?_;refine aj (c93 R' i k (by omega) (by omega) (fun x h=>(hok' x h).o) (by omega) _ d _ (bE (H.get 0 rfl))) ?_;rintro _ w10 ⟨D,e,rfl,hn'⟩;replace H:=H.bD hn';have hwl:=JJ (l:=R') (i:=i) (out:=k) (by omega);have hwo:=LS (n:=S.n) (k:=S.on.length) (l:=R') hok' (i:=i) (out:=k) (by omega);have h256:∀ x ∈ R',x.2.2<256:=fun x h=>(hok' x h).o;have hk8:k<8:=by omega
        have hfl:∀ j,j<i→CL j (bk R' i k) R':=fun j hj=>GO h256 hk8 (by omega) hj;have hfs:(bk R' i k).length=R'.length→CL i (bk R' i k) R':=fun h=>EK h256 hk8 (by omega) h;have hnm:(bk R' i k).length=R'.length→(bk R' i k)[i]?=some (m,v,kE o k):=fun h=>by
         unfold bk at h ⊢;rw[hx] at h ⊢;simp only at h ⊢;split at h
         ·simp at h;omega
         ·rename_i h0;rw[if_neg h0,List.getElem?_set,if_pos rfl,if_pos (by omega)]
        generalize hT:bk R' i k=T at H hwl hwo hfl hfs hnm;have h256':∀ x ∈ T,x.2.2<256:=fun x h=>(hwo x h).o;have hc':=fun u h1 h2=>Og hS T hwo (by omega) Bo co Bm cm D e u h1 h2;refine H.ai 2 rfl dx bL ?_;refine aj (hc' _ (hA.same H.keeps) (bE (H.get 0 rfl))) ?_;rintro _ w12 ⟨rfl,hk12⟩;replace H:=H.same hk12;clear hk12
        cases hcT:br S T with
        | true=>
         refine ag rfl ?_;refine ⟨(T,D,e),⟨rfl,trivial⟩,⟨hwo,hcT,fun j y out hj hy hyo=>?_,?_⟩,H.b6 [0,2] (by decide) rfl⟩
         ·rw[← hT,EL (by omega) hj] at hy;exact yt hS (hfl j hj) h256 h256' hcov' (by have:=(hok' y (List.mem_of_getElem? hy)).few;refine Nat.lt_of_not_le fun hle=>?_;rw[ec (hok' y (List.mem_of_getElem? hy)).o hle] at hyo;cases hyo) (by omega) (by rcases hwl with h | h <;> omega) (hneed' j y out hj hy hyo)
         ·rcases hwl with h | h
          ·refine .inl ⟨by omega,hin,fun y out hout hy hyo=>?_⟩;rw[hnm h] at hy;injection hy with hy;subst hy;simp only at hyo;rw[lX ho hk8,Bool.and_eq_true] at hyo;have hne:out≠k:=by have:=hyo.2;simp at this;exact this
           exact yt hS (hfs h) h256 h256' hcov' (by omega) (by omega) (by omega) (hno _ out (by omega) hx hyo.1)
          ·exact .inr (by omega)
        | false=>
         refine af rfl ?_;refine ⟨(R',some ⟨gB,0,none⟩,d),⟨rfl,trivial⟩,⟨hok',hcov',hneed',.inl ⟨hl1,hin,fun y out hout hy hyo=>?_⟩⟩,H.forget⟩;rcases Nat.lt_or_ge out k with h | h
         ·exact hno y out h hy hyo
         ·obtain rfl:out=k:=by omega
          rw[hT];exact hcT
       ·refine ay underlying44 ?_
        iterate 3 refine af (decide_eq_false e1) ?_
        refine aq underlying44 bd i rfl (by omega) (o':=0+i*3) rfl ?_;refine af (decide_eq_false e1) ?_;refine aa (dN _ _) ?_;refine af (decide_eq_false e1) ?_;refine H.mr 0 rfl bI cg i 2 (by omega) hx (u:=.int .u8 (o:Int)) rfl ?_
        iterate 2 refine af (decide_eq_false e1) ?_
        refine eR (by omega) ?_;refine af (decide_eq_false e1) ?_;refine dL (b:=1) (Nat.lt_of_le_of_lt (Nat.div_le_self _ _) ho) (by omega) ?_
        iterate 1 refine af (decide_eq_false e1) ?_
        refine af (decide_eq_false (by assumption)) ?_;refine ag (by simp only[*,Bool.not_false,Bool.not_true]) ?_;refine ⟨(R',some ⟨gB,0,none⟩,d),⟨rfl,trivial⟩,⟨hok',hcov',hneed',.inl ⟨hl1,hin,fun y out hout hy hyo=>?_⟩⟩,H⟩;rcases Nat.lt_or_ge out k with h | h
        ·exact hno y out h hy hyo
        ·obtain rfl:out=k:=by omega
         rw[hx] at hy;injection hy with hy;subst hy;exact absurd hyo hb
      ·have e1:(R'.length:Int)<(R.length:Int):=by omega
       refine ay underlying44 ?_
       iterate 10 refine ag (decide_eq_true (by assumption)) ?_
       refine ag rfl ?_;exact ⟨(R',B,d),⟨rfl,trivial⟩,⟨hok',hcov',hneed',.inr hl1⟩,H⟩
     ·clear H hok' hcov' hneed' hnow;rintro ⟨R',B,d⟩ u w9 ⟨⟨hok',hcov',hneed',hnow⟩,H⟩;exact ⟨(k+1,R',B,d),by show S.on.length - (k+1)<S.on.length - k;omega,⟨up (by omega),rfl,trivial⟩,⟨by show k+1≤S.on.length;omega,hok',hcov',hneed',hnow⟩,H⟩
    ·have:k=S.on.length:=by omega
     subst this;exact ⟨(R',B,d),⟨rfl,trivial⟩,⟨by rcases hnow with h | h;exact .inl h.1;exact .inr h,hok',hcov',hneed',hnow⟩,H⟩
   clear H;rintro ⟨R',B',d'⟩ u w8 ⟨⟨hlen,hok',hcov',hneed',hnow⟩,H⟩;refine ay underlying44 ?_;refine cr (fun h9=>?_) (fun h9=>?_)
   ·rcases hnow with ⟨h1,h2,h3⟩ | h1
    ·refine ⟨(i+1,R',B',d'),by show R'.length - (i+1)<R.length - i;omega,⟨up (by omega),rfl,trivial⟩,⟨by show i+1≤R'.length;omega,by show R'.length≤l.length;omega,hok',hcov',fun j x out hj hx ho=>?_⟩,H⟩;rcases Nat.lt_or_ge j i with h | h
     ·exact hneed' j x out h hx ho
     ·obtain rfl:j=i:=by omega
      refine h3 x out (Nat.lt_of_not_le fun hle=>?_) hx ho;rw[dB (hok' x (List.mem_of_getElem? hx)).few hle] at ho
      cases ho
    ·omega
   ·exact ⟨(i,R',B',d'),by show R'.length - i<R.length - i;omega,⟨rfl,rfl,trivial⟩,⟨by show i≤R'.length;omega,by show R'.length≤l.length;omega,hok',hcov',hneed'⟩,H⟩
  ·have:i=R.length:=by omega
   subst this;exact ⟨(R,B,d),⟨rfl,trivial⟩,⟨hRl,hok,hcov,hneed⟩,H.only⟩
 clear H;rintro ⟨R,B,d⟩ u w6 ⟨hP,H⟩;exact ⟨B,d,R,rfl,hP,H.out⟩
end Go.Proofs.YtpjihhgjbbihkaaGreatDoor
namespace Go.Dk
set_option maxRecDepth 100000
open Go.MapKept (Stamped)
section
variable {α β:Type} {ka:α→Value} {vb:β→Value} {z:Value} {P:Program} {t kt et:TypeId} {w0 w:World} {F:Nat→Prop} {L M:List cC} {k kk:Value→World→Prop} {l:List (α × β)} {r:Nat}
def Bs (w:World)(r st:Nat)(v:Value):Prop:=∃ (es:Array MapEntry) (clock j:Nat) (e:MapEntry),w.heap[r]?=some (.map es clock)∧es[j]?=some e∧e.born=st∧e.key=v
theorem CM [DecidableEq α]{a:α}{b:β}(hn:(eI l).Nodup)(h:bR l a=some b):dS l a b=l:=by
 obtain ⟨j,hj⟩:=mu h;rw[xO hn hj];exact List.ext_getElem? fun i=>by
  rw[List.getElem?_set];by_cases hij:j=i
  ·subst hij;rw[if_pos rfl,if_pos (List.getElem?_eq_some_iff.1 hj).1,hj]
  ·rw[if_neg hij]
theorem Hp.mapEntry {d0:β}[DecidableEq α](H:Hp w0 F w L M)(n:Nat)(hn:L[n]?=some (aP ka vb r l))(W:kQ P t kt et ka vb (vb d0))(a:α)(h:∀ b st w',Hp w0 F w' (L.set n (aP ka vb r (dS l a b))) M→Bs w' r st (ka a)→k (.tuple #[vb b,.int .i64 (st:Int)]) w'):nW P t (.map (some r)) (ka a) w k:=by
 obtain ⟨es,clock,hb,hs,hl⟩:=H.get n hn;unfold nW;rcases lL W hs hl a w with ⟨hf,hg,hno⟩ | ⟨j,e,b0,hf,he,hek,hlj,hv,hg⟩
 ·have hs':=MapKept.stamped_push (val:=vb d0) hs hno;have hset:=MapKept.heap_set (o':=.map (es.push { key:=ka a,val:=vb d0,born:=clock }) (clock+1)) hb;refine ⟨_,_,?_,h d0 clock _ (lM H n hn hb hs' ?_) ⟨_,_,es.size,{ key:=ka a,val:=vb d0,born:=clock },hset.1,by simp,rfl,rfl⟩⟩
  ·simp[Instr.mapEntry,run_underlying W.und,MapKept.run_getObj_map hb,W.key.check w _ ⟨a,rfl⟩,hf,lK W.zero,MapKept.run_setObj_map _ hb,Result.andThen,goInt]
  ·simp[dS,hg,hl]
 ·have hst:=W.key.stays w (v:=ka a) ⟨a,rfl⟩;have hsame:es.modify j (fun e=>{ e with key:=ka a })=es:=by
   apply Array.ext';apply List.ext_getElem?;intro i;simp only[Array.getElem?_toList,Array.getElem?_modify];by_cases hij:j=i
   ·subst hij;rw[if_pos rfl,he,← hek];rfl
   ·rw[if_neg hij]
  have hset:=MapKept.heap_set (o':=.map es clock) hb;refine ⟨_,_,?_,h b0 e.born _ (lM H n hn hb hs ?_) ⟨_,_,j,e,hset.1,he,rfl,hek⟩⟩
  ·simp[Instr.mapEntry,run_underlying W.und,MapKept.run_getObj_map hb,W.key.check w _ ⟨a,rfl⟩,hf,he,hek,hst,hsame,hv,MapKept.run_setObj_map _ hb,Result.andThen,goInt]
  ·rw[CM (iY W.inj hs hl) hg];exact hl
theorem Hp.entryStore [DecidableEq α](H:Hp w0 F w L M)(n:Nat)(hn:L[n]?=some (aP ka vb r l))(W:kQ P t kt et ka vb z)(a:α)(b:β){st:Nat}{i:Int}(hi:i=(st:Int))(hst:Bs w r st (ka a))(h:∀ w',Hp w0 F w' (L.set n (aP ka vb r (dS l a b))) M→k undef w'):kS P t (.map (some r)) (.int .i64 i) (vb b) w k:=by
 subst hi;obtain ⟨es,clock,hb,hs,hl⟩:=H.get n hn;obtain ⟨es',clock',j,e,hb',he,hborn,hkey⟩:=hst;rw[hb] at hb';injection hb' with hb';injection hb' with h1 h2;subst h1 h2;subst hborn;unfold kS;have he2:es.toList[j]?=some e:=by simpa using he
 have hidx:es.findIdx? (fun x=>((x.born:Nat):Int)==((e.born:Nat):Int))=some j:=by
  rw[WideElems.findIdx_arr];exact WideElems.findIdx_born hs.2.1 he2
 obtain ⟨p,hp,hpe⟩:∃ p,l[j]?=some p∧(e.key,e.val)=(ka p.1,vb p.2):=by
  have hg:=congrArg (·[j]?) hl;simp only[List.getElem?_map,he2,Option.map_some] at hg
  cases hj:l[j]? with
  | none=>rw[hj] at hg;cases hg
  | some p=>rw[hj] at hg;injection hg with hg;exact ⟨p,rfl,hg⟩
 obtain ⟨a',b'⟩:=p;obtain rfl:a'=a:=W.inj _ _ (by rw[← hkey];exact (congrArg Prod.fst hpe).symm);have hmod:es.modify j (fun e=>{ e with val:=vb b })=es.modify j (fun e=>{ e with key:=ka a',val:=vb b }):=by
  apply Array.ext';apply List.ext_getElem?;intro i;simp only[Array.getElem?_toList,Array.getElem?_modify];by_cases hij:j=i
  ·subst hij;rw[he,← hkey];simp
  ·rw[if_neg hij,if_neg hij]
 have hs':=MapKept.stamped_modify hs j (fun e=>{ e with key:=ka a',val:=vb b }) (fun _ _=>rfl) (fun e' _ he'=>by rw[he] at he';cases he';exact hkey.symm);refine ⟨_,?_,h _ (lM H n hn hb hs' (ru (iY W.inj hs hl) hl hp))⟩;simp[Instr.entryStore,MapKept.run_getObj_map hb,asInt,asIntOf,hidx,hmod,MapKept.run_setObj_map _ hb,Result.andThen]
end
end Go.Dk
namespace Go.Proofs.YtpjihhgjbbihkaaGreatDoor
open Go.Proofs.Tryz
open Go.Dk
set_option maxRecDepth 100000
attribute [local irreducible] IntKind.wrap
theorem EM {g:Nat}{t:TypeId}{cs:Array Value}{w w':World}(h:(an g t cs).ok w)(hk:aT w w'):(an g t cs).ok w':=
 (an g t cs).bP _ _ (fun x hx=>by obtain rfl:x=g:=hx;exact hk.old x (iV h) id) h
theorem JM:enters prog 206=true:=by kernel_rfl
theorem c206 (a b m v g:Nat)(w:World)(hb:(an g 48 (cc m v)).ok w) :
  bt prog 206 [cv a b,(ah g)] w fun r w'=>(∃ b,r=.bool b)∧aT w w':=by
 refine ar (N:=23) func206 JM rfl rfl rfl (by simp) ?_;have H:=Hp.aC w;refine ak (γ:=Nat) (fun g2=>[(2,(ah g2)),(1,(ah g))]) (fun g2 w'=>Hp w ab w' [an g2 48 (cc a b)] []) ?_ ?_
 ·refine H.box 48 _ (cs:=cc a b) rfl ?_;clear H;intro g2 w1 H;exact ⟨g2,⟨rfl,rfl,trivial⟩,H⟩
 clear H;rintro g2 u w1 H;have hb1:=EM hb H.keeps;by_cases h1:(a:Int)<m
 ·refine aa (b9 _) ?_;refine H.load 0 (i:=0) rfl cg rfl ?_;refine aa (b9 _) ?_;refine aB (u:=.int .u8 (m:Int)) cg ((aQ hb1 0).trans rfl) ?_
  iterate 8 refine ag (decide_eq_true (by assumption)) ?_
  exact ⟨⟨_,rfl⟩,H.keeps⟩
 ·by_cases h2:(a:Int)=m
  ·refine aa (b9 _) ?_;refine H.load 0 (i:=0) rfl cg rfl ?_;refine aa (b9 _) ?_;refine aB (u:=.int .u8 (m:Int)) cg ((aQ hb1 0).trans rfl) ?_;refine af (decide_eq_false (by assumption)) ?_;refine aa (b9 _) ?_;refine af (decide_eq_false (by assumption)) ?_;refine H.load 0 (i:=0) rfl cg rfl ?_;refine af (decide_eq_false (by assumption)) ?_;refine aa (b9 _) ?_;refine af (decide_eq_false (by assumption)) ?_;refine aB (u:=.int .u8 (m:Int)) cg ((aQ hb1 0).trans rfl) ?_
   iterate 2 refine af (decide_eq_false (by assumption)) ?_
   refine ag (beq_iff_eq.2 (by assumption)) ?_;refine aa (fJ _) ?_;refine ag (beq_iff_eq.2 (by assumption)) ?_;refine H.load 0 (i:=1) rfl cg rfl ?_;refine ag (beq_iff_eq.2 (by assumption)) ?_;refine aa (fJ _) ?_;refine ag (beq_iff_eq.2 (by assumption)) ?_;refine aB (u:=.int .u8 (v:Int)) cg ((aQ hb1 1).trans rfl) ?_;refine ag (beq_iff_eq.2 (by assumption)) ?_;refine af (decide_eq_false (by assumption)) ?_;refine ag (beq_iff_eq.2 (by assumption)) ?_;refine af (decide_eq_false (by assumption)) ?_;exact ⟨⟨_,rfl⟩,H.keeps⟩
  ·refine aa (b9 _) ?_;refine H.load 0 (i:=0) rfl cg rfl ?_;refine aa (b9 _) ?_;refine aB (u:=.int .u8 (m:Int)) cg ((aQ hb1 0).trans rfl) ?_;refine af (decide_eq_false (by assumption)) ?_;refine aa (b9 _) ?_;refine af (decide_eq_false (by assumption)) ?_;refine H.load 0 (i:=0) rfl cg rfl ?_;refine af (decide_eq_false (by assumption)) ?_;refine aa (b9 _) ?_;refine af (decide_eq_false (by assumption)) ?_;refine aB (u:=.int .u8 (m:Int)) cg ((aQ hb1 0).trans rfl) ?_
   iterate 2 refine af (decide_eq_false (by assumption)) ?_
   iterate 5 refine af (beq_eq_false_iff_ne.2 (by assumption)) ?_
   refine af (decide_eq_false (by assumption)) ?_;refine af (beq_eq_false_iff_ne.2 (by assumption)) ?_;refine af (decide_eq_false (by assumption)) ?_;exact ⟨⟨_,rfl⟩,H.keeps⟩
theorem _root_.Go.Dk.Hp.wz {w0 w:World}{F:Nat→Prop}{L M:List cC}{g l sz:Nat}{e:TypeId}{cs:Array Value}(H:Hp w0 F w (an g e cs::L) M)(hs:cs.size=l*sz)(hl:l≤maxLen):Hp w0 F w (own e sz (.slice (some ⟨g,0,none⟩) l l) l cs.toList::L) M:=
 H.re (fun h=>⟨by simpa using hs,.inr ⟨g,l,cs,rfl,Nat.zero_le _,h,Nat.le_refl _,hl,hs,by rw[← hs];exact List.take_length⟩⟩) (fun x hx=>by
  have hx:some g=some x:=hx;injection hx with hx;exact hx.symm)
theorem JN:enters prog 187=true:=by kernel_rfl
theorem ND (L:List (Nat × Nat))(m v:Nat)(hll:L.length≤1000000)(A:Option Addr)(c:Nat)(w:World)(hA:Sl w (.slice A L.length c) 2 L.length (flat bY L)) :
  bt prog 187 [.slice A L.length c,cv m v] w fun r w'=>∃ B d i,i≤L.length∧r=.slice B (L.take i++(m,v)::L.drop i).length d∧eX w w' (own 48 2 (.slice B (L.take i++(m,v)::L.drop i).length d) (L.take i++(m,v)::L.drop i).length (flat bY (L.take i++(m,v)::L.drop i))):=by
 refine ar (N:=35) func187 JN rfl rfl rfl (by simp) ?_;have H:=Hp.aC w;refine ak (γ:=Nat) (fun g3=>[(3,(ah g3))]) (fun g3 w'=>Hp w ab w' [an g3 48 (cc m v)] []) ?_ ?_
 ·refine H.box 48 _ (cs:=cc m v) rfl ?_;clear H;intro g3 w1 H;exact ⟨g3,⟨rfl,trivial⟩,H⟩
 clear H;rintro g3 u w1 H;refine ak (γ:=Unit) (fun _=>[(5,.func (.func 206) #[] #[(ah g3)])]) (fun _ w'=>Hp w ab w' [an g3 48 (cc m v)] []) ?_ ?_
 ·refine nA ?_;exact ⟨(),⟨rfl,trivial⟩,H⟩
 clear H;rintro ⟨⟩ u w2 H;refine ak (γ:=Nat) (fun i=>[(6,.int .i64 (i:Int))]) (fun i w'=>i≤L.length∧Hp w ab w' [an g3 48 (cc m v)] []) ?_ ?_
 ·refine ay underlying146 ?_;exact ⟨L.length,⟨rfl,trivial⟩,Nat.le_refl _,H⟩
 clear H;rintro i0 u w3 ⟨hi0,H⟩;refine ak (γ:=Nat) (fun i=>[(6,.int .i64 (i:Int))]) (fun i w'=>i≤L.length∧Hp w ab w' [an g3 48 (cc m v)] []) ?_ ?_
 ·refine ax (γ:=Nat) (fun i=>[(6,.int .i64 (i:Int))]) (fun i w'=>i≤L.length∧Hp w ab w' [an g3 48 (cc m v)] []) (fun i=>i) i0 ⟨rfl,trivial⟩ ⟨hi0,H⟩ ?_;clear H;rintro i u w4 ⟨hi,H⟩;by_cases h0:(0:Int)<(i:Int)
  ·obtain ⟨gA,oA,rfl⟩:=hA.A (by omega);obtain ⟨x,hx,_⟩:=qX (l:=L) (j:=i - 1) (by omega);obtain ⟨a,b⟩:=x;have hw:IntKind.i64.wrap ((i:Int) - 1)=((i - 1:Nat):Int):=by rw[aH (by omega) (by omega)];omega
   iterate 5 refine ag (decide_eq_true (by assumption)) ?_
   refine aq underlying146 aO (i - 1) hw (by omega) (o':=oA+(i - 1)*2) (by omega) ?_;refine ag (decide_eq_true (by assumption)) ?_;refine Sl.cI H hA fh bw aO (i - 1) rfl hx ?_;refine ag (decide_eq_true (by assumption)) ?_;refine e7 (cap:=[(ah g3)]) (c206 a b m v g3 _ (H.get 0 rfl)) ?_;rintro _ w5 ⟨⟨bb,rfl⟩,hk⟩;replace H:=H.same hk;clear hk
   cases bb with
   | true=>
    iterate 2 refine ag (decide_eq_true (by assumption)) ?_
    refine af rfl ?_;exact ⟨i,⟨rfl,trivial⟩,hi,H⟩
   | false=>
    iterate 2 refine ag (decide_eq_true (by assumption)) ?_
    refine ag rfl ?_;exact ⟨i - 1,by show i - 1<i;omega,⟨by rw[← hw];rfl,trivial⟩,by show i - 1≤L.length;omega,H⟩
  ·iterate 9 refine af (decide_eq_false (by assumption)) ?_
   refine af rfl ?_;exact ⟨i,⟨rfl,trivial⟩,hi,H⟩
 clear H;rintro i u w4 ⟨hi,H⟩;obtain ⟨A1,e1,hA1,hS1⟩:=lN hA (i:=i) hi;obtain ⟨A2,c2,e2,hS2⟩:=lO underlying146 aO hA (i:=i) hi;have hic:i≤c:=Nat.le_trans hi (by obtain ⟨_,A',c',e,h,_⟩:=hA;injection e with _ _ e;omega);have hf:flat bY (L.take i++(m,v)::L.drop i)=(flat bY L).take (i*2)++(bY (m,v)++(flat bY L).drop (i*2)):=by
  rw[← oj fh,← oo fh];unfold flat;rw[List.flatMap_append,List.flatMap_cons]
 have hl:(L.take i++(m,v)::L.drop i).length=i+(1+(L.length - i)):=by simp;omega
 refine H.fg [an g3 48 (cc m v)] (fun u H=>H) eS (by kernel_rfl) ?_;clear H;intro w5 H;refine quiet (.slice A1 i i) (fun w H=>by rw[← e1];exact sR underlying146 aO rfl rfl hic ae) ?_;refine quiet _ (fun w H=>H.ai 0 rfl bw aO ae) ?_;refine H.bg wq (cs:=cc m v) (by decide) (by decide) (by kernel_rfl) ?_;clear H;intro g20 w6 H;refine ⟨.inl H.forget,?_⟩;refine quiet (.slice A2 (L.length - i) c2) (fun w H=>by rw[← e2];exact r6 underlying146 aO rfl hi ae) ?_;replace H:=H.wz (l:=1) (sz:=2) rfl (by unfold maxLen;omega);refine H.kz 0 wq rfl (hS2.same H.keeps) (fun u hu=>u_ L u (List.mem_of_mem_drop hu)) (by omega) (by omega) ?_;clear H;intro A3 d3 w7 H;refine ⟨.inl H.forget,?_⟩;refine H.qH wq (hS1.same H.keeps) (bE (H.get 0 rfl)) hA1 (by omega) (by omega) (by omega) ?_;clear H;intro A4 d4 w8 H;refine ⟨.inl H.forget.forget,?_⟩;refine ⟨some ⟨A4,0,none⟩,d4,i,hi,?_⟩;rw[hl,hf];exact ⟨rfl,H.out⟩
end Go.Proofs.YtpjihhgjbbihkaaGreatDoor
namespace Go.Dk
theorem qa {m i:Nat}(hm:m<256)(hi:i<8)(j:Nat):(gF m i).testBit j=(m.testBit j&& !decide (i=j)):=by
 rcases Nat.lt_or_ge j 8 with hj | hj
 ·exact Bj hi j hj
 ·rw[ec hm hj,ec (qU hm i) hj];rfl
def vd (m:Nat):Nat→Nat
 | 0=>0
 | k+1=>vd m k+(m.testBit k).toNat
theorem toNat_le (b:Bool):b.toNat≤1:=by cases b <;> decide
theorem zT (m:Nat):∀ k,vd m k≤k
 | 0=>Nat.le_refl _
 | k+1=>by
  have h1:=zT m k;have h2:=toNat_le (m.testBit k);unfold vd;omega
theorem yu {m:Nat}:∀ {k},vd m k=k→∀ j,j<k→m.testBit j=true
 | 0,_,j,hj=>absurd hj (Nat.not_lt_zero _)
 | k+1,h,j,hj=>by
  have h1:=zT m k;have h2:=toNat_le (m.testBit k);unfold vd at h;rcases Nat.lt_succ_iff_lt_or_eq.1 hj with h3 | h3
  ·exact yu (by omega) j h3
  ·subst h3
   cases hb:m.testBit j with
   | true=>rfl
   | false=>rw[hb] at h;simp at h;omega
theorem wA {m:Nat}:∀ {k},(∀ j,j<k→m.testBit j=true)→vd m k=k
 | 0,_=>rfl
 | k+1,h=>by
  unfold vd;rw[wA (k:=k) fun j hj=>h j (by omega),h k (by omega)];rfl
theorem GP {m k:Nat}(h:vd m k<k):∃ j,j<k∧m.testBit j=false:=by
 refine Classical.byContradiction fun hno=>?_;have:=wA (m:=m) (k:=k) fun j hj=>by
  cases hb:m.testBit j with
  | true=>rfl
  | false=>exact absurd ⟨j,hj,hb⟩ hno
 omega
theorem zU {m m' i:Nat}(h:∀ j,m'.testBit j=(m.testBit j||decide (j=i)))(hi:m.testBit i=false):∀ k,vd m' k=vd m k+(if i<k then 1 else 0)
 | 0=>rfl
 | k+1=>by
  unfold vd;rw[zU h hi k,h k];by_cases hk:k=i
  ·subst hk;rw[hi];simp
  ·rw[decide_eq_false hk,Bool.or_false];by_cases h2:i<k
   ·rw[if_pos h2,if_pos (by omega)];omega
   ·rw[if_neg h2,if_neg (by omega)];omega
structure zV (n s:Nat) (x:Nat × Nat):Prop where
 lt:x.1<2^n
 sub:x.2 &&&x.1=x.2
 cD:ck (ba x.1 x.2 n) s
def tA (x:Nat × Nat)(i:Nat):Nat × Nat:=(gF x.1 i,x.2 &&&gF x.1 i)
def FT (x:Nat × Nat)(i:Nat):Nat × Nat:=(x.1,x.2 ^^^ 2^i)
theorem EN {m v i:Nat}(hs:v &&&m=v)(hi:m.testBit i=true):(v ^^^ 2^i) &&&m=v ^^^ 2^i:=by
 rw[Nat.and_xor_distrib_right,hs]
 congr 1
 apply Nat.eq_of_testBit_eq;intro j;rw[Nat.testBit_and,Nat.testBit_two_pow];by_cases h:i=j
 ·subst h;simp[hi]
 ·simp[h]
theorem zW {n m v i p:Nat}(hn:n≤8)(hm:m<2^n)(hs:v &&&m=v)(hi:i<n)(hb:m.testBit i=true) :
  (ba (gF m i) (v &&&gF m i) n).testBit p=true↔(ba m v n).testBit p=true∨(ba m (v ^^^ 2^i) n).testBit p=true:=by
 have h2:2^n≤2^8:=Nat.pow_le_pow_right (by decide) hn;have hw:=fun j=>qa (m:=m) (i:=i) (by omega) (by omega) j;rw[bA hn,bA hn,bA hn,← and_or_left,iU j3,iU hs,iU (EN hs hb)];refine and_congr_right fun _=>?_;have hx:∀ j,(v ^^^ 2^i).testBit j=(v.testBit j ^^ decide (i=j)):=fun j=>by rw[Nat.testBit_xor,Nat.testBit_two_pow]
 constructor
 ·intro h;by_cases hpi:p.testBit i=v.testBit i
  ·refine .inl fun j hj=>?_;by_cases hij:i=j
   ·subst hij;exact hpi
   ·have:=h j (by rw[hw,hj];simp[hij]);rw[this,Nat.testBit_and,hw,hj];simp[hij]
  ·refine .inr fun j hj=>?_;rw[hx];by_cases hij:i=j
   ·subst hij;revert hpi
    cases p.testBit i <;> cases v.testBit i <;> simp
   ·have:=h j (by rw[hw,hj];simp[hij]);rw[this,Nat.testBit_and,hw,hj];simp[hij]
 ·intro h j hj;rw[hw,Bool.and_eq_true] at hj;have hij:¬ i=j:=by have:=hj.2;simpa using this
  rw[Nat.testBit_and,hw,hj.1,decide_eq_false hij];rcases h with h | h
  ·rw[h j hj.1];simp
  ·rw[h j hj.1,hx,decide_eq_false hij];simp
theorem zV.wB {n s:Nat}{x:Nat × Nat}{i:Nat}(hn:n≤8)(hm:x.1<2^n)(hs:x.2 &&&x.1=x.2)(hi:i<n)(hb:x.1.testBit i=true):zV n s (tA x i)↔zV n s x∧zV n s (FT x i):=by
 constructor
 ·intro h;exact ⟨⟨hm,hs,fun p hp=>h.cD p ((zW hn hm hs hi hb).2 (.inl hp))⟩,⟨hm,EN hs hb,fun p hp=>h.cD p ((zW hn hm hs hi hb).2 (.inr hp))⟩⟩
 ·rintro ⟨h1,h2⟩;refine ⟨mG hm i,j3,fun p hp=>?_⟩;rcases (zW hn hm hs hi hb).1 hp with h | h
  ·exact h1.cD p h
  ·exact h2.cD p h
def Lv (n s t:Nat)(x:Nat × Nat):Prop:=zV n s x∧vd x.1 n+t=n
theorem LV {n m i:Nat}(hn:n≤8)(hm:m<2^n)(hi:i<n)(hb:m.testBit i=true):vd m n=vd (gF m i) n+1:=by
 have h2:2^n≤2^8:=Nat.pow_le_pow_right (by decide) hn;have hw:=fun j=>qa (m:=m) (i:=i) (by omega) (by omega) j;rw[zU (m:=gF m i) (m':=m) (i:=i) (fun j=>?_) (by rw[hw];simp) n,if_pos hi];rw[hw];by_cases hij:i=j
 ·subst hij;simp[hb]
 ·simp[hij,Ne.symm hij]
theorem Lv.next {n s t:Nat}(hn:n≤8){y:Nat × Nat}:Lv n s (t+1) y↔∃ x i,Lv n s t x∧i<n∧x.1.testBit i=true∧Lv n s t (FT x i)∧y=tA x i:=by
 have h2:2^n≤2^8:=Nat.pow_le_pow_right (by decide) hn;constructor
 ·rintro ⟨hc,hp⟩;obtain ⟨i,hi,hb⟩:=GP (m:=y.1) (k:=n) (by omega);have hy:=hc.lt;have hpi:2^i<2^n:=Nat.pow_lt_pow_right (by decide) hi;have hlt:y.1 |||2^i<2^n:=Nat.or_lt_two_pow hc.lt hpi;have hbit:∀ j,(y.1 |||2^i).testBit j=(y.1.testBit j||decide (j=i)):=fun j=>by
   rw[Nat.testBit_or,Nat.testBit_two_pow];by_cases h:i=j
   ·simp[h]
   ·simp[h,Ne.symm h]
  have hbi:(y.1 |||2^i).testBit i=true:=by rw[hbit];simp
  have hsub:y.2 &&&(y.1 |||2^i)=y.2:=by
   apply Nat.eq_of_testBit_eq;intro j;rw[Nat.testBit_and,hbit];have:=congrArg (fun z=>z.testBit j) hc.sub;simp only[Nat.testBit_and] at this;revert this
   cases y.2.testBit j <;> cases y.1.testBit j <;> simp
  have hwo:tA (y.1 |||2^i,y.2) i=y:=by
   have e1:gF (y.1 |||2^i) i=y.1:=by
    apply Nat.eq_of_testBit_eq;intro j;rw[qa (by omega) (by omega),hbit];by_cases h:i=j
    ·subst h;simp[hb]
    ·simp[h,Ne.symm h]
   unfold tA;simp only;rw[e1,hc.sub]
  have hpc:vd (y.1 |||2^i) n=vd y.1 n+1:=by rw[zU hbit hb n,if_pos hi]
  have hcc:=(zV.wB (s:=s) (x:=(y.1 |||2^i,y.2)) hn hlt hsub hi hbi).1 (by rw[hwo];exact hc);exact ⟨(y.1 |||2^i,y.2),i,⟨hcc.1,by show vd (y.1 |||2^i) n+t=n;omega⟩,hi,hbi,⟨hcc.2,by show vd (y.1 |||2^i) n+t=n;omega⟩,hwo.symm⟩
 ·rintro ⟨x,i,h1,hi,hb,h3,rfl⟩;refine ⟨(zV.wB hn h1.1.lt h1.1.sub hi hb).2 ⟨h1.1,h3.1⟩,?_⟩;have:=LV hn h1.1.lt hi hb;have:=h1.2;show vd (gF x.1 i) n+(t+1)=n;omega
def nE (n s:Nat)(x:Nat × Nat):Prop:=zV n s x∧∀ i,i<n→x.1.testBit i=true→¬ zV n s (tA x i)
def Used (n s t:Nat)(x:Nat × Nat):Prop:=∃ i,i<n∧x.1.testBit i=true∧Lv n s t (FT x i)
theorem Lv.Ig {n s t:Nat}(hn:n≤8){x:Nat × Nat}(h:Lv n s t x):nE n s x↔¬ Used n s t x:=by
 constructor
 ·rintro ⟨_,h2⟩ ⟨i,hi,hb,hf⟩;exact h2 i hi hb ((zV.wB hn h.1.lt h.1.sub hi hb).2 ⟨h.1,hf.1⟩)
 ·intro hu;refine ⟨h.1,fun i hi hb hc=>hu ⟨i,hi,hb,((zV.wB hn h.1.lt h.1.sub hi hb).1 hc).2,h.2⟩⟩
theorem Lv.zero {n s:Nat}(hn:n≤8)(hs:ck s (bn n)){x:Nat × Nat}:Lv n s 0 x↔x.1=2^n - 1∧s.testBit x.2=true:=by
 constructor
 ·rintro ⟨hc,hp⟩;have hf:=yu (m:=x.1) (k:=n) (by omega);refine ⟨?_,hc.cD x.2 ((bA hn).2 ⟨sub_lt hc.lt hc.sub,hc.sub⟩)⟩;apply Nat.eq_of_testBit_eq;intro j;rw[Nat.testBit_two_pow_sub_one];by_cases hj:j<n
  ·rw[hf j hj];simp[hj]
  ·rw[Nat.testBit_lt_two_pow (Nat.lt_of_lt_of_le hc.lt (Nat.pow_le_pow_right (by decide) (by omega)))];simp[hj]
 ·rintro ⟨h1,h2⟩;have hlt:x.2<2^n:=by have:=hs _ h2;rw[gr hn] at this;simpa using this
  have hpos:0<2^n:=Nat.pow_pos (by decide);refine ⟨⟨by rw[h1];omega,by rw[h1,Nat.and_two_pow_sub_one_eq_mod,Nat.mod_eq_of_lt hlt],fun p hp=>?_⟩,?_⟩
  ·rw[bA hn,h1,Nat.and_two_pow_sub_one_eq_mod] at hp;rw[Nat.mod_eq_of_lt hp.1] at hp;rw[hp.2];exact h2
  ·rw[h1,wA fun j hj=>by rw[Nat.testBit_two_pow_sub_one];simp[hj],Nat.add_zero]
theorem Lv.le {n s t:Nat}{x:Nat × Nat}(h:Lv n s t x):t≤n:=by have:=h.2;omega
def fX (l:List ((Nat × Nat) × Bool))(Q:Nat × Nat→Prop):Prop:=∀ x,(Q x∧bR l x=some true)∨(¬ Q x∧bR l x=none)
theorem fX.nil:fX [] fun _=>False:=fun _=>.inr ⟨id,rfl⟩
theorem fX.congr {l:List ((Nat × Nat) × Bool)}{Q Q':Nat × Nat→Prop}(h:fX l Q)(e:∀ x,Q x↔Q' x):fX l Q':=fun x=>by rw[← e x];exact h x
theorem fX.yes {l:List ((Nat × Nat) × Bool)}{Q:Nat × Nat→Prop}(h:fX l Q){x:Nat × Nat}(hx:Q x):bR l x=some true:=by
 rcases h x with ⟨_,h⟩ | ⟨h,_⟩
 ·exact h
 ·exact absurd hx h
theorem fX.no {l:List ((Nat × Nat) × Bool)}{Q:Nat × Nat→Prop}(h:fX l Q){x:Nat × Nat}(hx:¬ Q x):bR l x=none:=by
 rcases h x with ⟨h,_⟩ | ⟨_,h⟩
 ·exact absurd h hx
 ·exact h
theorem fX.add {l:List ((Nat × Nat) × Bool)}{Q:Nat × Nat→Prop}(h:fX l Q)(a:Nat × Nat):fX (dS l a true) fun x=>Q x∨x=a:=fun x=>by
 rw[e8];by_cases hx:x=a
 ·rw[if_pos hx];exact .inl ⟨.inr hx,rfl⟩
 ·rw[if_neg hx];rcases h x with ⟨h1,h2⟩ | ⟨h1,h2⟩
  ·exact .inl ⟨.inl h1,h2⟩
  ·exact .inr ⟨fun hh=>hh.elim h1 hx,h2⟩
theorem fX.IW {l:List ((Nat × Nat) × Bool)}{Q:Nat × Nat→Prop}(h:fX l Q)(a:Nat × Nat)(b:Bool):fX (dS (dS l a b) a true) fun x=>Q x∨x=a:=fun x=>by
 rw[e8,e8];by_cases hx:x=a
 ·rw[if_pos hx];exact .inl ⟨.inr hx,rfl⟩
 ·rw[if_neg hx,if_neg hx];rcases h x with ⟨h1,h2⟩ | ⟨h1,h2⟩
  ·exact .inl ⟨.inl h1,h2⟩
  ·exact .inr ⟨fun hh=>hh.elim h1 hx,h2⟩
theorem fX.mem {l:List ((Nat × Nat) × Bool)}{Q:Nat × Nat→Prop}(h:fX l Q)(hn:(eI l).Nodup){a:Nat × Nat}{b:Bool}(hm:(a,b) ∈ l):b=true∧Q a:=by
 have hg:=jy hn hm;rcases h a with ⟨h1,h2⟩ | ⟨h1,h2⟩
 ·rw[hg] at h2;injection h2 with h2;exact ⟨h2,h1⟩
 ·rw[hg] at h2;cases h2
theorem fX.all {l:List ((Nat × Nat) × Bool)}{Q:Nat × Nat→Prop}(h:fX l Q){a:Nat × Nat}(ha:Q a):(a,true) ∈ l:=by
 obtain ⟨j,hj⟩:=mu (h.yes ha);exact List.mem_of_getElem? hj
theorem fX.EO {l:List ((Nat × Nat) × Bool)}{Q:Nat × Nat→Prop}(h:fX l Q)(hn:(eI l).Nodup):l=[]↔∀ x,¬ Q x:=by
 constructor
 ·rintro rfl x hx;have:=h.all hx;simp at this
 ·intro hno
  cases l with
  | nil=>rfl
  | cons p l=>exact absurd (h.mem hn (a:=p.1) (b:=p.2) (.head _)).2 (hno _)
theorem yv {n:Nat}{L:List (Nat × Nat)}(hn:L.Nodup)(h:∀ x ∈ L,x.1<2^n∧x.2<2^n):L.length≤2^n*2^n:=by
 have:=kB (a:=L) (b:=(List.range (2^n)).flatMap fun a=>(List.range (2^n)).map fun b=>(a,b)) hn (fun x hx=>by
  have:=h x hx;exact List.mem_flatMap.2 ⟨x.1,List.mem_range.2 this.1,List.mem_map.2 ⟨x.2,List.mem_range.2 this.2,rfl⟩⟩)
 refine Nat.le_trans this (Nat.le_of_eq ?_);rw[List.length_flatMap];simp[List.map_const']
end Go.Dk
namespace Go.Proofs.YtpjihhgjbbihkaaGreatDoor
open Go.Proofs.Tryz
open Go.Dk
set_option maxRecDepth 100000
attribute [local irreducible] IntKind.wrap
theorem wC {s p:Nat}(hs:s<2^256):p ∈ cD s↔s.testBit p=true:=by
 constructor
 ·intro h;exact (b_.1 h).2
 ·intro h;refine b_.2 ⟨Nat.lt_of_not_le fun hle=>?_,h⟩;rw[kg hs hle] at h
  cases h
theorem yw {m v:Nat}{w:World}{kk:Value→World→Prop}(h:kk (cv m v) w):b7 prog 48 [(0,.int .u8 (m:Int)),(1,.int .u8 (v:Int))] w kk:=
 bu (fun w=>by kernel_rfl) h
def ve (n s t:Nat)(D:List ((Nat × Nat) × Bool))(y:Nat × Nat):Prop:=∃ x i,(x,true) ∈ D∧i<n∧x.1.testBit i=true∧Lv n s t (FT x i)∧y=tA x i
def vf (n s t:Nat)(D:List ((Nat × Nat) × Bool))(y:Nat × Nat):Prop:=(y,true) ∈ D∧Used n s t y
theorem zX {n s t:Nat}{D:List ((Nat × Nat) × Bool)}{x y:Nat × Nat}:ve n s t (D++[(x,true)]) y↔ve n s t D y∨∃ i,i<n∧x.1.testBit i=true∧Lv n s t (FT x i)∧y=tA x i:=by
 constructor
 ·rintro ⟨z,i,h1,h2⟩;rcases List.mem_append.1 h1 with h1 | h1
  ·exact .inl ⟨z,i,h1,h2⟩
  ·have:=List.mem_singleton.1 h1;injection this with this;subst this;exact .inr ⟨i,h2⟩
 ·rintro (⟨z,i,h1,h2⟩ | ⟨i,h2⟩)
  ·exact ⟨z,i,List.mem_append_left _ h1,h2⟩
  ·exact ⟨x,i,List.mem_append_right _ (List.mem_singleton.2 rfl),h2⟩
theorem zY {n s t:Nat}{D:List ((Nat × Nat) × Bool)}{x y:Nat × Nat}:vf n s t (D++[(x,true)]) y↔vf n s t D y∨(y=x∧Used n s t x):=by
 constructor
 ·rintro ⟨h1,h2⟩;rcases List.mem_append.1 h1 with h1 | h1
  ·exact .inl ⟨h1,h2⟩
  ·have:=List.mem_singleton.1 h1;injection this with this;subst this;exact .inr ⟨rfl,h2⟩
 ·rintro (⟨h1,h2⟩ | ⟨rfl,h2⟩)
  ·exact ⟨List.mem_append_left _ h1,h2⟩
  ·exact ⟨List.mem_append_right _ (List.mem_singleton.2 rfl),h2⟩
theorem JO:enters prog 151=true:=by kernel_rfl
set_option maxHeartbeats 4000000 in
theorem NF (n s:Nat)(hn:n≤7)(hs:ck s (bn n))(hs2:s<2^256)(w:World) :
  bt prog 151 [sv s,.int .i64 (n:Int)] w fun r w'=>∃ A c L,r=.tuple #[.slice A L.length c,.int .i64 0]∧(∀ x,x ∈ L↔nE n s x)∧L.Nodup∧eX w w' (own 48 2 (.slice A L.length c) L.length (flat bY L)):=by
 refine ar (N:=105) func151 JO rfl rfl rfl (by simp) ?_;have H:=Hp.aC w;have h2n:2^n≤2^7:=Nat.pow_le_pow_right (by decide) hn;have h1n:1≤2^n:=Nat.pow_pos (by decide);refine ak (γ:=Nat) (fun g2=>[(2,(ah g2))]) (fun g2 w'=>Hp w ab w' [an g2 86 (sc s)] []) ?_ ?_
 ·refine H.box 86 (sv s) (cs:=sc s) rfl ?_;clear H;intro g2 w1 H;exact ⟨g2,⟨rfl,trivial⟩,H⟩
 clear H;rintro g2 u w1 H;refine ak (γ:=Nat) (fun g6=>[(6,(ah g6)),(7,.int .i64 0)]) (fun g6 w'=>Hp w ab w' [an g6 86 (sc (bn n)),an g2 86 (sc s)] []) ?_ ?_
 ·refine aj (n9 n (by omega) _) ?_;rintro _ w2 ⟨rfl,hk⟩;replace H:=H.same hk;refine H.alloc 86 (cs:=sc 0) bo aY ?_;clear H;intro g6 w3 H;refine H.aW 0 rfl ?_;clear H;intro w4 H;exact ⟨g6,⟨rfl,rfl,trivial⟩,H⟩
 clear H;rintro g6 u w2 H;refine aw (fun w'=>Hp w ab w' [an g6 86 (sc (bn n)),an g2 86 (sc s)] []) ?_ ?_
 ·have hs1:=(gU hs2).2 hs;have hc1:=fun u=>c85 s (bn n) hs2 u;rw[hs1] at hc1;refine af rfl ?_;refine H.ai 1 rfl aD av ?_;refine af rfl ?_;refine H.ai 0 rfl aD av ?_;refine af rfl ?_;refine aj (hc1 _) ?_;rintro _ w11 ⟨rfl,hk⟩;replace H:=H.same hk;clear hk
  iterate 3 refine af rfl ?_
  exact ⟨(),trivial,H⟩
 clear H;rintro ⟨⟩ u w3 H;refine ak (γ:=Nat) (fun r=>[(8,.map (some r))]) (fun r w'=>Hp w ab w' [aP jm Value.bool r [],an g2 86 (sc s)] []) ?_ ?_
 ·refine H.makeMap jm Value.bool ?_;clear H;intro r w4 H;exact ⟨r,⟨rfl,trivial⟩,H.b6 [0,2] (by decide) rfl⟩
 clear H;rintro r u w4 H;refine ak (γ:=List ((Nat × Nat) × Bool)) (fun _=>[]) (fun l w'=>fX l (Lv n s 0)∧Hp w ab w' [aP jm Value.bool r l] []) ?_ ?_
 ·have hpl:(cD s).length≤256:=eG s 256;refine H.ai 1 rfl aD av ?_;refine aj (DQ s _) ?_;rintro _ w5 ⟨A,c,rfl,hn'⟩;replace H:=H.bD hn';refine ay underlying75 ?_;refine ax (γ:=Nat × List ((Nat × Nat) × Bool)) (fun (i,_)=>[(35,.int .i64 (i:Int))]) (fun (i,l) w'=>(i≤(cD s).length∧fX l (fun x=>x.1=2^n - 1∧x.2 ∈ (cD s).take i))∧Hp w ab w' [own 3 1 (.slice A (cD s).length c) (cD s).length (ints (cD s)),aP jm Value.bool r l] []) (fun (i,_)=>(cD s).length - i) (0,[]) ⟨rfl,trivial⟩ ⟨⟨Nat.zero_le _,fX.nil.congr fun x=>by simp⟩,H.b6 [0,1] (by decide) rfl⟩ ?_;clear H;rintro ⟨i,l⟩ u w6 ⟨⟨hi,hl⟩,H⟩;refine au (fun h7=>?_) (fun h7=>?_)
  ·refine ak (γ:=List ((Nat × Nat) × Bool)) (fun _=>[]) (fun l w'=>fX l (fun x=>x.1=2^n - 1∧x.2 ∈ (cD s).take (i+1))∧Hp w ab w' [own 3 1 (.slice A (cD s).length c) (cD s).length (ints (cD s)),aP jm Value.bool r l] []) ?_ ?_
   ·obtain ⟨gA,rfl⟩:=H.mq 0 rfl (by omega);have hil:i<(cD s).length:=by omega
    obtain ⟨p,hp⟩:∃ p,(cD s)[i]=p:=⟨_,rfl⟩;have hp256:p<256:=DS (hp ▸ List.getElem_mem hil);have htk:(cD s).take (i+1)=(cD s).take i++[p]:=iH (by rw[List.getElem?_eq_getElem hil,hp]);refine ak (γ:=Unit) (fun _=>[(10,.int .i64 (p:Int))]) (fun _ w'=>Hp w ab w' [own 3 1 (.slice (some ⟨gA,0,none⟩) (cD s).length c) (cD s).length (ints (cD s)),aP jm Value.bool r l] []) ?_ ?_
    ·refine aq underlying75 a_ i rfl hil (o':=i) (by omega) ?_;refine H.dX 0 rfl aE (e_ hil) ?_;rw[hp];exact ⟨(),⟨rfl,trivial⟩,H⟩
    clear H;rintro ⟨⟩ u w7 H;have hw1:IntKind.u8.wrap (((2^n:Nat):Int) - 1)=((2^n - 1:Nat):Int):=by rw[IntKind.wrap_u8];omega
    have hw2:IntKind.u8.wrap (p:Int)=(p:Int):=by rw[IntKind.wrap_u8];omega
    refine b8 hn ?_;refine jZ (by kernel_rfl) underlying5 (by omega) (by omega) ?_;rw[hw1];refine yw ?_;refine H.iw 1 rfl rY (2^n - 1,p) true ?_;clear H;intro w8 H;refine ⟨dS l (2^n - 1,p) true,trivial,(hl.add (2^n - 1,p)).congr fun x=>?_,H⟩;rw[htk,List.mem_append,List.mem_singleton];constructor
    ·rintro (h | rfl)
     ·exact ⟨h.1,.inl h.2⟩
     ·exact ⟨rfl,.inr rfl⟩
    ·rintro ⟨h1,h | h⟩
     ·exact .inl ⟨h1,h⟩
     ·exact .inr (Prod.ext h1 h)
   ·clear H hl;rintro l u w7 ⟨hl,H⟩;exact ⟨(i+1,l),by show (cD s).length - (i+1)<(cD s).length - i;omega,⟨up (by omega),trivial⟩,⟨by show i+1≤(cD s).length;omega,hl⟩,H⟩
  ·have:i=(cD s).length:=by omega
   subst this;rw[List.take_length] at hl;exact ⟨l,trivial,hl.congr fun x=>by rw[Lv.zero (by omega) hs,wC hs2],H.forget⟩
 clear H;rintro l0 u w5 ⟨hl0,H⟩;refine ak (γ:=Unit) (fun _=>[(11,.slice none 0 0)]) (fun _ w'=>Hp w ab w' [aP jm Value.bool r l0,own 48 2 (.slice none 0 0) 0 []] []) ⟨(),⟨rfl,trivial⟩,(H.bx 48 2).b6 [1,0] (by decide) rfl⟩ ?_;clear H;rintro ⟨⟩ u w6 H;refine ak (γ:=List (Nat × Nat) × Option Addr × Nat) (fun (L,B,d)=>[(11,.slice B L.length d)]) (fun (L,B,d) w'=>((∀ x,x ∈ L↔nE n s x)∧L.Nodup)∧Hp w ab w' [own 48 2 (.slice B L.length d) L.length (flat bY L)] []) ?_ ?_
 ·refine ax (γ:=Nat × Nat × List ((Nat × Nat) × Bool) × List (Nat × Nat) × Option Addr × Nat) (fun (_,r,_,L,B,d)=>[(8,.map (some r)),(11,.slice B L.length d)]) (fun (t,r,l,L,B,d) w'=>(fX l (Lv n s t)∧(∀ x,x ∈ L↔∃ t',t'<t∧Lv n s t' x∧nE n s x)∧L.Nodup)∧Hp w ab w' [aP jm Value.bool r l,own 48 2 (.slice B L.length d) L.length (flat bY L)] []) (fun (t,_)=>n+1 - t) (0,r,l0,[],none,0) ⟨rfl,rfl,trivial⟩ ⟨⟨hl0,fun x=>by simp,List.nodup_nil⟩,H⟩ ?_;clear H hl0;rintro ⟨t,r,l,L,B,d⟩ u w7 ⟨⟨hl,hL,hLn⟩,H⟩;have hnd:=oY (H.get 0 rfl) sd;refine H.Iu 0 rfl rY ?_;refine au (fun h7=>?_) (fun h7=>?_)
  ·have htn:t≤n:=by
    cases hll:l with
    | nil=>rw[hll] at h7;simp at h7
    | cons p l'=>exact ((hl.mem hnd (a:=p.1) (b:=p.2) (by rw[hll];exact .head _)).2).le
   refine ak (γ:=Nat × Nat) (fun (r2,r3)=>[(12,.map (some r2)),(13,.map (some r3))]) (fun (r2,r3) w'=>Hp w ab w' [aP jm Value.bool r l,aP jm Value.bool r2 [],aP jm Value.bool r3 [],own 48 2 (.slice B L.length d) L.length (flat bY L)] []) ?_ ?_
   ·refine H.makeMap jm Value.bool ?_;clear H;intro r2 w8 H;refine H.makeMap jm Value.bool ?_;clear H;intro r3 w9 H;exact ⟨(r2,r3),⟨rfl,rfl,trivial⟩,H.b6 [2,1,0,3] (by decide) rfl⟩
   clear H;rintro ⟨r2,r3⟩ u w8 H;refine ak (γ:=List ((Nat × Nat) × Bool) × List ((Nat × Nat) × Bool)) (fun _=>[]) (fun (l2,l3) w'=>(fX l2 (Lv n s (t+1))∧fX l3 (fun x=>Lv n s t x∧Used n s t x))∧Hp w ab w' [aP jm Value.bool r l,aP jm Value.bool r2 l2,aP jm Value.bool r3 l3,own 48 2 (.slice B L.length d) L.length (flat bY L)] []) ?_ ?_
   ·refine H.rangeMap (k0:=48) (e0:=4) underlying189 ?_;clear H;intro it w9 H;refine ax (γ:=List ((Nat × Nat) × Bool) × List ((Nat × Nat) × Bool) × List ((Nat × Nat) × Bool)) (fun _=>[]) (fun (D,l2,l3) w'=>(D.Nodup∧(∀ p ∈ D,p ∈ l)∧fX l2 (ve n s t D)∧fX l3 (vf n s t D))∧Hp w ab w' [o5 jm Value.bool r it l D,aP jm Value.bool r2 l2,aP jm Value.bool r3 l3,own 48 2 (.slice B L.length d) L.length (flat bY L)] []) (fun (D,_)=>l.length - D.length) ([],[],[]) trivial ⟨⟨List.nodup_nil,by simp,fX.nil.congr fun x=>by simp[ve],fX.nil.congr fun x=>by simp[vf]⟩,H⟩ ?_;clear H;rintro ⟨D,l2,l3⟩ u w10 ⟨⟨hDn,hDl,hl2,hl3⟩,H⟩;refine H.vQ 0 rfl sd (fun a b h=>by injection h) (fun hall=>?_) (fun x b w11 hm hnm H2=>?_)
    ·refine af rfl ?_;refine ⟨(l2,l3),trivial,⟨hl2.congr fun y=>?_,hl3.congr fun y=>?_⟩,H.B6⟩
     ·rw[Lv.next (by omega)];constructor
      ·rintro ⟨x,i,h1,h2⟩;exact ⟨x,i,(hl.mem hnd (hDl _ h1)).2,h2⟩
      ·rintro ⟨x,i,h1,h2⟩;exact ⟨x,i,hall _ (hl.all h1),h2⟩
     ·constructor
      ·rintro ⟨h1,h2⟩;exact ⟨(hl.mem hnd (hDl _ h1)).2,h2⟩
      ·rintro ⟨h1,h2⟩;exact ⟨hall _ (hl.all h1),h2⟩
    ·clear H;have H:=H2;clear H2;obtain ⟨rfl,hx⟩:=hl.mem hnd hm;refine ag rfl ?_;have hnext:(D++[(x,true)]).Nodup∧(∀ p ∈ D++[(x,true)],p ∈ l):=by
      refine ⟨?_,fun k hk=>?_⟩
      ·rw[List.nodup_append];refine ⟨hDn,by simp,fun x hx y hy=>?_⟩;obtain rfl:=List.mem_singleton.1 hy;exact fun e=>hnm (e ▸ hx)
      ·rcases List.mem_append.1 hk with hk | hk
       ·exact hDl k hk
       ·obtain rfl:=List.mem_singleton.1 hk;exact hm
     have hlen:D.length<l.length:=by
      have:=kB hnext.1 hnext.2;simp at this;omega
     obtain ⟨m,v⟩:=x;have hmn:=hx.1.lt;have hvn:=sub_lt hx.1.lt hx.1.sub;simp only at hmn hvn;refine ak (γ:=Nat) (fun g14=>[(14,(ah g14))]) (fun g14 w'=>Hp w ab w' [an g14 48 (cc m v),o5 jm Value.bool r it l (D++[((m,v),true)]),aP jm Value.bool r2 l2,aP jm Value.bool r3 l3,own 48 2 (.slice B L.length d) L.length (flat bY L)] []) ?_ ?_
     ·refine nn (H.get 0 rfl) ?_;refine H.alloc 48 (cs:=cc 0 0) fa rfl ?_;clear H;intro g14 w12 H;refine H.bQ (c:=m) (d:=v) 0 rfl ?_;clear H;intro w13 H;exact ⟨g14,⟨rfl,trivial⟩,H⟩
     clear H;rintro g14 u w12 H;refine ax (γ:=Nat × List ((Nat × Nat) × Bool) × List ((Nat × Nat) × Bool)) (fun (k,_)=>[(59,.int .i64 (k:Int))]) (fun (k,l2,l3) w'=>(k≤n∧fX l2 (fun y=>ve n s t D y∨∃ i,i<k∧m.testBit i=true∧Lv n s t (FT (m,v) i)∧y=tA (m,v) i)∧fX l3 (fun y=>vf n s t D y∨(y=(m,v)∧∃ i,i<k∧m.testBit i=true∧Lv n s t (FT (m,v) i))))∧Hp w ab w' [an g14 48 (cc m v),o5 jm Value.bool r it l (D++[((m,v),true)]),aP jm Value.bool r2 l2,aP jm Value.bool r3 l3,own 48 2 (.slice B L.length d) L.length (flat bY L)] []) (fun (k,_)=>n - k) (0,l2,l3) ⟨rfl,trivial⟩ ⟨⟨Nat.zero_le _,hl2.congr fun y=>by simp,hl3.congr fun y=>by simp⟩,H⟩ ?_;clear H hl2 hl3;rintro ⟨k,l2,l3⟩ u w13 ⟨⟨hk,hl2,hl3⟩,H⟩;refine au (fun h8=>?_) (fun h8=>?_)
     ·refine ak (γ:=List ((Nat × Nat) × Bool) × List ((Nat × Nat) × Bool)) (fun _=>[]) (fun (l2,l3) w'=>(fX l2 (fun y=>ve n s t D y∨∃ i,i<k+1∧m.testBit i=true∧Lv n s t (FT (m,v) i)∧y=tA (m,v) i)∧fX l3 (fun y=>vf n s t D y∨(y=(m,v)∧∃ i,i<k+1∧m.testBit i=true∧Lv n s t (FT (m,v) i))))∧Hp w ab w' [an g14 48 (cc m v),o5 jm Value.bool r it l (D++[((m,v),true)]),aP jm Value.bool r2 l2,aP jm Value.bool r3 l3,own 48 2 (.slice B L.length d) L.length (flat bY L)] []) ?_ ?_
      ·have h2k:2^k<256:=show 2^k<2^8 from Nat.pow_lt_pow_right (by decide) (by omega);refine ak (γ:=Unit) (fun _=>[(15,.int .i64 (k:Int))]) (fun _ w'=>Hp w ab w' [an g14 48 (cc m v),o5 jm Value.bool r it l (D++[((m,v),true)]),aP jm Value.bool r2 l2,aP jm Value.bool r3 l3,own 48 2 (.slice B L.length d) L.length (flat bY L)] []) ⟨(),⟨rfl,trivial⟩,H⟩ ?_;clear H;rintro ⟨⟩ u w14 H;refine ak (γ:=Nat) (fun g16=>[(16,(ah g16))]) (fun g16 w'=>Hp w ab w' [an g16 48 (cc m (v ^^^ 2^k)),an g14 48 (cc m v),o5 jm Value.bool r it l (D++[((m,v),true)]),aP jm Value.bool r2 l2,aP jm Value.bool r3 l3,own 48 2 (.slice B L.length d) L.length (flat bY L)] []) ?_ ?_
       ·refine H.draw eS (by kernel_rfl) ?_;clear H;intro w15 H;refine quiet _ (fun w H=>aa (b9 _) ae) ?_;refine quiet _ (fun w H=>H.load 0 rfl cg rfl ae) ?_;refine quiet _ (fun w H=>aa (fJ _) ae) ?_;refine quiet _ (fun w H=>H.load 0 rfl cg rfl ae) ?_;refine quiet _ (fun w H=>b8 (by omega) ae) ?_;refine quiet _ (fun w H=>zg (by omega) h2k ae) ?_;refine quiet _ (fun w H=>yw ae) ?_;refine H.alloc 48 (cs:=cc 0 0) fa rfl ?_;clear H;intro g16 w16 H;refine ⟨.inl H.forget,?_⟩;refine H.bQ (c:=m) (d:=v ^^^ 2^k) 0 rfl ?_;clear H;intro w17 H;refine ⟨.inl H.forget,?_⟩;exact ⟨g16,⟨rfl,trivial⟩,H⟩
       clear H;rintro g16 u w15 H;have hst:=cB m k;have hm256:m<256:=by omega
       by_cases hb:m.testBit k=true
       ·rw[hb] at hst;by_cases hf:Lv n s t (FT (m,v) k)
        ·have hlk:((bR l (m,v ^^^ 2^k)).map Value.bool).getD (.bool false)=.bool true:=by rw[show bR l (m,v ^^^ 2^k)=some true from hl.yes hf];rfl
         refine aa (b9 _) ?_;refine H.load 1 rfl cg rfl ?_;refine eR (by omega) ?_;refine dL (b:=1) (Nat.lt_of_le_of_lt (Nat.div_le_self _ _) hm256) (by omega) ?_
         iterate 2 refine ag (by assumption) ?_
         refine H.ai 0 rfl bw aO ?_;refine ag (by assumption) ?_;refine eg (pK (H.get 2 rfl)) rY (m,v ^^^ 2^k) hlk ?_;refine ag (by assumption) ?_;refine ag rfl ?_;refine H.fg [an g14 48 (cc m v)] (fun u H=>H.b6 [1] (by decide) rfl) eS (by kernel_rfl) ?_;clear H;intro w24 H;refine quiet _ (fun w H=>H.ai 0 rfl bw aO ae) ?_;refine aj (c131 _ _ _ (by first | assumption | omega | decide) (by first | assumption | omega | decide) (by first | assumption | omega | decide) _) ?_;rintro _ w26 ⟨rfl,hk⟩;replace H:=H.same hk;clear hk;refine ⟨.inl (H.b6 [1] (by decide) rfl),?_⟩;refine quiet _ (fun w H=>H.ai 0 rfl bw aO ae) ?_;refine H.mapEntry (d0:=false) 3 rfl rY (gF m k,v &&&gF m k) ?_;clear H;intro b0 st w27 H hstm;refine ⟨.inl (H.b6 [1] (by decide) rfl),?_⟩;refine H.entryStore 3 rfl rY (gF m k,v &&&gF m k) true rfl hstm ?_;clear H;intro w28 H;refine ⟨.inl (H.b6 [1] (by decide) rfl),?_⟩;refine H.iw 4 rfl rY (m,v) true ?_;clear H;intro w29 H;refine ⟨.inl (H.b6 [1] (by decide) rfl),?_⟩;refine ⟨(dS (dS l2 (gF m k,v &&&gF m k) b0) (gF m k,v &&&gF m k) true,dS l3 (m,v) true),trivial,⟨(hl2.IW (gF m k,v &&&gF m k) b0).congr fun y=>?_,(hl3.add (m,v)).congr fun y=>?_⟩,H.b6 [1,2,3,4,5] (by decide) rfl⟩
         ·rw[or_assoc];refine or_congr_right ?_;constructor
          ·rintro (⟨i,h1,h2⟩ | rfl)
           ·exact ⟨i,by omega,h2⟩
           ·exact ⟨k,by omega,hb,hf,rfl⟩
          ·rintro ⟨i,h1,h2,h3,h4⟩;rcases Nat.lt_succ_iff_lt_or_eq.1 h1 with h | h
           ·exact .inl ⟨i,h,h2,h3,h4⟩
           ·subst h;exact .inr h4
         ·rw[or_assoc];refine or_congr_right ?_;constructor
          ·rintro (⟨h0,i,h1,h2⟩ | rfl)
           ·exact ⟨h0,i,by omega,h2⟩
           ·exact ⟨rfl,k,by omega,hb,hf⟩
          ·rintro ⟨h0,_⟩;exact .inr h0
        ·have hlk:((bR l (m,v ^^^ 2^k)).map Value.bool).getD (.bool false)=.bool false:=by rw[show bR l (m,v ^^^ 2^k)=none from hl.no hf];rfl
         refine aa (b9 _) ?_;refine H.load 1 rfl cg rfl ?_;refine eR (by omega) ?_;refine dL (b:=1) (Nat.lt_of_le_of_lt (Nat.div_le_self _ _) hm256) (by omega) ?_
         iterate 2 refine ag (by assumption) ?_
         refine H.ai 0 rfl bw aO ?_;refine ag (by assumption) ?_;refine eg (pK (H.get 2 rfl)) rY (m,v ^^^ 2^k) hlk ?_;refine ag (by assumption) ?_;refine af rfl ?_;refine ⟨(l2,l3),trivial,⟨hl2.congr fun y=>?_,hl3.congr fun y=>?_⟩,H.forget⟩
         ·refine or_congr_right ⟨fun ⟨i,h1,h2⟩=>⟨i,by omega,h2⟩,fun ⟨i,h1,h2,h3,h4⟩=>?_⟩;rcases Nat.lt_succ_iff_lt_or_eq.1 h1 with h | h
          ·exact ⟨i,h,h2,h3,h4⟩
          ·subst h;exact absurd h3 hf
         ·refine or_congr_right (and_congr_right fun _=>⟨fun ⟨i,h1,h2⟩=>⟨i,by omega,h2⟩,fun ⟨i,h1,h2,h3⟩=>?_⟩);rcases Nat.lt_succ_iff_lt_or_eq.1 h1 with h | h
          ·exact ⟨i,h,h2,h3⟩
          ·subst h;exact absurd h3 hf
       ·rw[show m.testBit k=false by simpa using hb] at hst;refine aa (b9 _) ?_;refine H.load 1 rfl cg rfl ?_;refine eR (by omega) ?_;refine dL (b:=1) (Nat.lt_of_le_of_lt (Nat.div_le_self _ _) hm256) (by omega) ?_
        iterate 4 refine af (by assumption) ?_
        refine af rfl ?_;refine ⟨(l2,l3),trivial,⟨hl2.congr fun y=>?_,hl3.congr fun y=>?_⟩,H.forget⟩
        ·refine or_congr_right ⟨fun ⟨i,h1,h2⟩=>⟨i,by omega,h2⟩,fun ⟨i,h1,h2,h3⟩=>?_⟩;rcases Nat.lt_succ_iff_lt_or_eq.1 h1 with h | h
         ·exact ⟨i,h,h2,h3⟩
         ·subst h;exact absurd h2 hb
        ·refine or_congr_right (and_congr_right fun _=>⟨fun ⟨i,h1,h2⟩=>⟨i,by omega,h2⟩,fun ⟨i,h1,h2,h3⟩=>?_⟩);rcases Nat.lt_succ_iff_lt_or_eq.1 h1 with h | h
         ·exact ⟨i,h,h2,h3⟩
         ·subst h;exact absurd h2 hb
      ·clear H hl2 hl3;rintro ⟨l2,l3⟩ u w14 ⟨⟨hl2,hl3⟩,H⟩;exact ⟨(k+1,l2,l3),by show n - (k+1)<n - k;omega,⟨up (by omega),trivial⟩,⟨by show k+1≤n;omega,hl2,hl3⟩,H⟩
     ·have:k=n:=by omega
      subst this;refine ⟨(D++[((m,v),true)],l2,l3),by show l.length - (D++[((m,v),true)]).length<l.length - D.length;simp;omega,trivial,⟨hnext.1,hnext.2,hl2.congr fun y=>?_,hl3.congr fun y=>?_⟩,H.forget⟩
      ·rw[zX]
      ·rw[zY];rfl
   clear H;rintro ⟨l2,l3⟩ u w9 ⟨⟨hl2,hl3⟩,H⟩;have hcub:∀ L':List (Nat × Nat),(∀ x ∈ L',zV n s x)→L'.Nodup→L'.length≤1000000:=fun L' h1 h2=>by
    have h3:=yv (n:=n) h2 fun x hx=>⟨(h1 x hx).lt,sub_lt (h1 x hx).lt (h1 x hx).sub⟩;have h4:=Nat.mul_le_mul h2n h2n;omega
   refine ak (γ:=List (Nat × Nat) × Option Addr × Nat) (fun (L',B,d)=>[(11,.slice B L'.length d)]) (fun (L',B,d) w'=>((∀ x,x ∈ L'↔x ∈ L∨(Lv n s t x∧¬ Used n s t x))∧L'.Nodup)∧Hp w ab w' [aP jm Value.bool r2 l2,own 48 2 (.slice B L'.length d) L'.length (flat bY L')] []) ?_ ?_
   ·refine H.rangeMap (k0:=48) (e0:=4) underlying189 ?_;clear H;intro it w10 H;refine ax (γ:=List ((Nat × Nat) × Bool) × List (Nat × Nat) × Option Addr × Nat) (fun (_,L',B,d)=>[(11,.slice B L'.length d)]) (fun (D,L',B,d) w'=>(D.Nodup∧(∀ p ∈ D,p ∈ l)∧(∀ x,x ∈ L'↔x ∈ L∨((x,true) ∈ D∧¬ Used n s t x))∧L'.Nodup)∧Hp w ab w' [o5 jm Value.bool r it l D,aP jm Value.bool r2 l2,aP jm Value.bool r3 l3,own 48 2 (.slice B L'.length d) L'.length (flat bY L')] []) (fun (D,_)=>l.length - D.length) ([],L,B,d) ⟨rfl,trivial⟩ ⟨⟨List.nodup_nil,by simp,fun x=>by simp,hLn⟩,H⟩ ?_;clear H;rintro ⟨D,L',B',d'⟩ u w11 ⟨⟨hDn,hDl,hL',hLn'⟩,H⟩;refine H.vQ 0 rfl sd (fun a b h=>by injection h) (fun hall=>?_) (fun x b w12 hm hnm H2=>?_)
    ·refine af rfl ?_;refine ⟨(L',B',d'),⟨rfl,trivial⟩,⟨fun x=>(hL' x).trans (or_congr_right (and_congr_left fun _=>⟨fun h=>(hl.mem hnd (hDl _ h)).2,fun h=>hall _ (hl.all h)⟩)),hLn'⟩,H.b6 [1,3] (by decide) rfl⟩
    ·clear H;have H:=H2;clear H2;obtain ⟨rfl,hx⟩:=hl.mem hnd hm;refine ag rfl ?_;have hnext:(D++[(x,true)]).Nodup∧(∀ p ∈ D++[(x,true)],p ∈ l):=by
      refine ⟨?_,fun k hk=>?_⟩
      ·rw[List.nodup_append];refine ⟨hDn,by simp,fun x hx y hy=>?_⟩;obtain rfl:=List.mem_singleton.1 hy;exact fun e=>hnm (e ▸ hx)
      ·rcases List.mem_append.1 hk with hk | hk
       ·exact hDl k hk
       ·obtain rfl:=List.mem_singleton.1 hk;exact hm
     have hlen:D.length<l.length:=by
      have:=kB hnext.1 hnext.2;simp at this;omega
     have hmeas:l.length - (D++[(x,true)]).length<l.length - D.length:=by simp;omega
     have hsn:∀ y,(y,true) ∈ D++[(x,true)]↔(y,true) ∈ D∨y=x:=fun y=>by simp
     have hll:L'.length≤1000000:=hcub L' (fun y hy=>by
      rcases (hL' y).1 hy with h | h
      ·obtain ⟨_,_,h,_⟩:=(hL y).1 h;exact h.1
      ·exact (hl.mem hnd (hDl _ h.1)).2.1) hLn'
     have hxn:x ∉ L':=fun h=>by
      rcases (hL' x).1 h with h | h
      ·obtain ⟨t',h1,h2,_⟩:=(hL x).1 h;have h3:=h2.2;have h4:=hx.2;omega
      ·exact hnm h.1
     refine ak (γ:=Nat) (fun g17=>[(17,(ah g17))]) (fun g17 w'=>Hp w ab w' [an g17 48 (cc x.1 x.2),o5 jm Value.bool r it l (D++[(x,true)]),aP jm Value.bool r2 l2,aP jm Value.bool r3 l3,own 48 2 (.slice B' L'.length d') L'.length (flat bY L')] []) ?_ ?_
     ·refine nn (H.get 0 rfl) ?_;refine H.alloc 48 (cs:=cc 0 0) fa rfl ?_;clear H;intro g17 w13 H;refine H.bQ (c:=x.1) (d:=x.2) 0 rfl ?_;clear H;intro w14 H;exact ⟨g17,⟨rfl,trivial⟩,H⟩
     clear H;rintro g17 u w13 H;refine H.ai 0 rfl bw aO ?_;by_cases hu:Used n s t x
     ·refine eg (H.get 3 rfl) rY x (v:=.bool true) (by rw[hl3.yes ⟨hx,hu⟩];rfl) ?_;refine af rfl ?_;refine ⟨(D++[(x,true)],L',B',d'),hmeas,⟨rfl,trivial⟩,⟨hnext.1,hnext.2,fun y=>(hL' y).trans (or_congr_right ?_),hLn'⟩,H.forget⟩;rw[hsn];exact ⟨fun h=>⟨.inl h.1,h.2⟩,fun h=>⟨h.1.elim id fun e=>absurd (e ▸ hu) h.2,h.2⟩⟩
     ·refine eg (H.get 3 rfl) rY x (v:=.bool false) (by rw[hl3.no fun h=>hu h.2];rfl) ?_;refine ag rfl ?_;refine H.ai 0 rfl bw aO ?_;refine aj (ND L' x.1 x.2 hll B' d' _ (bE (H.get 4 rfl))) ?_;rintro _ w14 ⟨B2,d2,i,hi,rfl,hn'⟩;replace H:=H.bD hn';refine ⟨(D++[(x,true)],L'.take i++x::L'.drop i,B2,d2),hmeas,⟨rfl,trivial⟩,⟨hnext.1,hnext.2,fun y=>?_,?_⟩,H.b6 [2,3,4,0] (by decide) rfl⟩
      ·have hmem:y ∈ L'.take i++x::L'.drop i↔y ∈ L'∨y=x:=by
        rw[List.mem_append,List.mem_cons];have:=List.take_append_drop i L';constructor
        ·rintro (h | h | h)
         ·exact .inl (List.mem_of_mem_take h)
         ·exact .inr h
         ·exact .inl (List.mem_of_mem_drop h)
        ·rintro (h | h)
         ·rw[← this,List.mem_append] at h;rcases h with h | h
          ·exact .inl h
          ·exact .inr (.inr h)
         ·exact .inr (.inl h)
       rw[hmem,hL',hsn,or_assoc];refine or_congr_right ⟨fun h=>?_,fun h=>?_⟩
       ·rcases h with h | h
        ·exact ⟨.inl h.1,h.2⟩
        ·exact ⟨.inr h,h ▸ hu⟩
       ·rcases h.1 with h1 | h1
        ·exact .inl ⟨h1,h.2⟩
        ·exact .inr h1
      ·have hp:(L'.take i++x::L'.drop i).Perm (x::L'):=by
        have:=List.perm_middle (a:=x) (l₁:=L'.take i) (l₂:=L'.drop i)
        rwa [List.take_append_drop] at this
       exact hp.nodup_iff.2 (List.nodup_cons.2 ⟨hxn,hLn'⟩)
   clear H;rintro ⟨L',B',d'⟩ u w10 ⟨⟨hL',hLn'⟩,H⟩;refine ⟨(t+1,r2,l2,L',B',d'),by show n+1 - (t+1)<n+1 - t;omega,⟨rfl,rfl,trivial⟩,⟨hl2,fun x=>(hL' x).trans ?_,hLn'⟩,H⟩;rw[hL x];constructor
   ·rintro (⟨t',h1,h2⟩ | ⟨h1,h2⟩)
    ·exact ⟨t',by omega,h2⟩
    ·exact ⟨t,by omega,h1,(h1.Ig (by omega)).2 h2⟩
   ·rintro ⟨t',h1,h2,h3⟩;rcases Nat.lt_succ_iff_lt_or_eq.1 h1 with h | h
    ·exact .inl ⟨t',h,h2,h3⟩
    ·subst h;exact .inr ⟨h2,(h2.Ig (by omega)).1 h3⟩
  ·have hl00:l=[]:=List.eq_nil_of_length_eq_zero (by omega);have hno:=(hl.EO hnd).1 hl00;have hno':∀ t' x,t≤t'→¬ Lv n s t' x:=fun t'=>by
    induction t' with
    | zero=>
     intro x ht;obtain rfl:t=0:=by omega
     exact hno x
    | succ t' ih=>
     intro x ht hx;rcases Nat.lt_or_ge t' t with h | h
     ·obtain rfl:t=t'+1:=by omega
      exact hno x hx
     ·obtain ⟨y,i,hy,_⟩:=(Lv.next (by omega)).1 hx;exact ih y h hy
   refine ⟨(L,B,d),⟨rfl,trivial⟩,⟨fun x=>(hL x).trans ⟨fun ⟨_,_,_,h⟩=>h,fun h=>?_⟩,hLn⟩,H.b6 [1] (by decide) rfl⟩;have hpc:=zT x.1 n;have hlv:Lv n s (n - vd x.1 n) x:=⟨h.1,by omega⟩;refine ⟨_,Nat.lt_of_not_le fun hle=>hno' _ x hle hlv,hlv,h⟩
 clear H;rintro ⟨L,B,d⟩ u w7 ⟨⟨hL,hLn⟩,H⟩;exact ⟨B,d,L,rfl,hL,hLn,H.out⟩
end Go.Proofs.YtpjihhgjbbihkaaGreatDoor
