import Derived.Test.YtpjihhgjbbihkaaGreatDoorPart3
import Derived.Shelf.Small.Wraps
import Derived.Shelf.LaysM
import Derived.Shelf.LaysC
import Derived.Shelf.Strconv.Itoa3
import Derived.Shelf.Strconv.AtoiAll
import Derived.Shelf.Strconv.ErrVarAll
import Derived.Shelf.Strings.Cut
import Derived.Shelf.Strings.Split
import Derived.Test.YtpjihhgjbbihkaaGreatDoorProg
import Derived.Lib.SplitLaws
namespace Go.Dk
def ir (S:er)(o:Nat):Nat→Nat
 | 0=>bu S.n
 | j+1=>if o.testBit j then ir S o j &&&S.may.getD j 0 else ir S o j
theorem sK (S:er)(o:Nat):∀ j,ir S o j<2^256
 | 0=>kb _
 | j+1=>by
  unfold ir;split
  ·exact Nat.lt_of_le_of_lt Nat.and_le_left (sK S o j)
  ·exact sK S o j
theorem kX (S:er)(o:Nat):∀ j,cu (ir S o j) (bu S.n)
 | 0=>cu.refl _
 | j+1=>fun p a=>by
  unfold ir at a;split at a
  ·rw[Nat.testBit_and,Bool.and_eq_true] at a;exact kX S o j p a.1
  ·exact kX S o j p a
structure dX (S:er) (x:Rw):Prop where
 cube:n9 S.n (ir S x.2.2 S.may.length) (x.1,x.2.1)
 outs:iI S x.1 x.2.1=x.2.2
 some:0<x.2.2
 few:x.2.2<2^S.may.length
end Go.Dk
namespace Go.Proofs.YtpjihhgjbbihkaaGreatDoor
open Go.Proofs.Tryz
open Go.Dk
set_option maxRecDepth 100000
attribute [local irreducible] IntKind.wrap
theorem KA:enters prog 108=true:=by kernel_rfl
set_option maxHeartbeats 4000000 in
theorem OB {S:er}(Q:cF S)(T:S.n≤7)(Bo:Option Addr)(co:Nat)(Bm:Option Addr)(cm:Nat)(w:World)(hA:gi w S Bo co Bm cm) :
  bz prog 108 [sf S.n (.slice Bo S.on.length co) (.slice Bm S.may.length cm)] w fun r w'=>∃ A c R,r=.tuple #[.slice A R.length c,.int .i64 0]∧((∀ x,x ∈ R↔dX S x)∧R.Nodup∧R.length≤262144)∧eW w w' (own 50 3 (.slice A R.length c) R.length (flat bd R)):=by
 refine ar (N:=78) func108 KA rfl rfl rfl (by simp) ?_;have H:=Hp.aC w;have hn8:=Q.n8;have hml:S.may.length=S.on.length:=Q.len;have h4:S.may.length≤4:=by rw[hml];exact Q.few
 have U:2^S.n≤2^7:=Nat.pow_le_pow_right (by decide) T;have h2k:2^S.may.length≤2^4:=Nat.pow_le_pow_right (by decide) h4;obtain ⟨q,k,rfl⟩:=hA.may.A (by have:=Q.some;omega);refine ak (γ:=Nat) (fun g1=>[(1,(ah g1))]) (fun g1 w'=>Hp w ab w' [an g1 41 (bp S.n (.slice Bo S.on.length co) (.slice (some ⟨q,k,none⟩) S.may.length cm))] []) ?_ ?_
 ·refine H.box 41 _ (cs:=bp S.n (.slice Bo S.on.length co) (.slice (some ⟨q,k,none⟩) S.may.length cm)) rfl ?_;clear H;intro g1 w1 H;exact ⟨g1,⟨rfl,trivial⟩,H⟩
 clear H;rintro g1 u w1 H;refine aw (fun w'=>Hp w ab w' [an g1 41 (bp S.n (.slice Bo S.on.length co) (.slice (some ⟨q,k,none⟩) S.may.length cm))] []) ?_ ?_
 ·refine H.ai 0 rfl dz bH ?_;refine aj (Hv Q Bo co _ cm _ (hA.same H.keeps)) ?_;rintro _ w2 ⟨rfl,E⟩;replace H:=H.same E;refine ae rfl ?_;exact ⟨(),trivial,H⟩
 clear H;rintro ⟨⟩ u w2 H;refine ak (γ:=Unit) (fun _=>[(4,.slice none 0 0)]) (fun _ w'=>Hp w ab w' [own 50 3 (.slice none 0 0) 0 [],an g1 41 (bp S.n (.slice Bo S.on.length co) (.slice (some ⟨q,k,none⟩) S.may.length cm))] []) ⟨(),⟨rfl,trivial⟩,H.bC 50 3⟩ ?_;clear H;rintro ⟨⟩ u w3 H;refine ak (γ:=List Rw × Option Addr × Nat) (fun (R,B,d)=>[(4,.slice B R.length d)]) (fun (R,B,d) w'=>((∀ x,x ∈ R↔dX S x)∧R.Nodup∧R.length≤262144)∧Hp w ab w' [own 50 3 (.slice B R.length d) R.length (flat bd R)] []) ?_ ?_
 ·refine ax (γ:=Nat × List Rw × Option Addr × Nat) (fun (o,R,B,d)=>[(5,.int .i64 (o:Int)),(4,.slice B R.length d)]) (fun (o,R,B,d) w'=>((0<o∧o≤2^S.may.length)∧(∀ x,x ∈ R↔dX S x∧x.2.2<o)∧R.Nodup∧R.length≤o*16384)∧Hp w ab w' [own 50 3 (.slice B R.length d) R.length (flat bd R),an g1 41 (bp S.n (.slice Bo S.on.length co) (.slice (some ⟨q,k,none⟩) S.may.length cm))] []) (fun (o,_)=>2^S.may.length - o) (1,[],none,0) ⟨rfl,rfl,trivial⟩ ⟨⟨⟨by decide,Nat.pow_pos (by decide)⟩,fun x=>⟨fun h=>by simp at h,fun h=>absurd h.1.some (by omega)⟩,List.nodup_nil,by simp⟩,H⟩ ?_;clear H;rintro ⟨o,R,B,d⟩ u w4 ⟨⟨⟨ho0,ho⟩,z,s,I⟩,H⟩;refine aa (fL _) ?_;refine H.load 1 rfl eo rfl ?_;refine ay underlying39 ?_;refine dk (by omega) ?_;refine au (fun h7=>?_) (fun h7=>?_)
  ·have ho2:o<2^S.may.length:=by omega
   have ho16:o<16:=by omega
   refine ak (γ:=List Rw × Option Addr × Nat) (fun (R,B,d)=>[(4,.slice B R.length d)]) (fun (R,B,d) w'=>((∀ x,x ∈ R↔dX S x∧x.2.2<o+1)∧R.Nodup∧R.length≤(o+1)*16384)∧Hp w ab w' [own 50 3 (.slice B R.length d) R.length (flat bd R),an g1 41 (bp S.n (.slice Bo S.on.length co) (.slice (some ⟨q,k,none⟩) S.may.length cm))] []) ?_ ?_
   ·refine ak (γ:=Nat) (fun g6=>[(6,(ah g6))]) (fun g6 w'=>Hp w ab w' [an g6 86 (sc (bu S.n)),own 50 3 (.slice B R.length d) R.length (flat bd R),an g1 41 (bp S.n (.slice Bo S.on.length co) (.slice (some ⟨q,k,none⟩) S.may.length cm))] []) ?_ ?_
    ·refine aa (iD _) ?_;refine H.load 1 rfl aE rfl ?_;refine aj (oI S.n hn8 _) ?_;rintro _ w5 ⟨rfl,E⟩;replace H:=H.same E;refine H.alloc 86 (cs:=sc 0) br aZ ?_;clear H;intro g6 w6 H;refine H.aV 0 rfl ?_;clear H;intro w7 H;exact ⟨g6,⟨rfl,trivial⟩,H⟩
    clear H;rintro g6 u w5 H;refine aw (fun w'=>Hp w ab w' [an g6 86 (sc (ir S o S.may.length)),own 50 3 (.slice B R.length d) R.length (flat bd R),an g1 41 (bp S.n (.slice Bo S.on.length co) (.slice (some ⟨q,k,none⟩) S.may.length cm))] []) ?_ ?_
    ·refine aa (fL _) ?_;refine H.load 2 rfl eo rfl ?_;refine ay underlying39 ?_;refine ax (γ:=Nat) (fun j=>[(33,.int .i64 (j:Int))]) (fun j w'=>j≤S.may.length∧Hp w ab w' [an g6 86 (sc (ir S o j)),own 50 3 (.slice B R.length d) R.length (flat bd R),an g1 41 (bp S.n (.slice Bo S.on.length co) (.slice (some ⟨q,k,none⟩) S.may.length cm))] []) (fun j=>S.may.length - j) 0 ⟨rfl,trivial⟩ ⟨Nat.zero_le _,H⟩ ?_;clear H;rintro j u w6 ⟨V,H⟩;refine au (fun h8=>?_) (fun h8=>?_)
     ·refine aw (fun w'=>Hp w ab w' [an g6 86 (sc (ir S o (j+1))),own 50 3 (.slice B R.length d) R.length (flat bd R),an g1 41 (bp S.n (.slice Bo S.on.length co) (.slice (some ⟨q,k,none⟩) S.may.length cm))] []) ?_ ?_
      ·obtain ⟨b,hb,hbin⟩:=mB (l:=S.may) (j:=j) (by omega);have X:ir S o (j+1)=if o.testBit j then ir S o j &&&b else ir S o j:=by
        show (if o.testBit j then ir S o j &&&S.may.getD j 0 else ir S o j)=_;rw[List.getD_eq_getElem?_getD,hb];rfl
       rw[X];generalize ir S o j=C at H ⊢;refine ak (γ:=Unit) (fun _=>[(8,.int .i64 (j:Int))]) (fun _ w'=>Hp w ab w' [an g6 86 (sc C),own 50 3 (.slice B R.length d) R.length (flat bd R),an g1 41 (bp S.n (.slice Bo S.on.length co) (.slice (some ⟨q,k,none⟩) S.may.length cm))] []) ⟨(),⟨rfl,trivial⟩,H⟩ ?_;clear H;rintro ⟨⟩ u w7 H;refine iG (by omega) ?_;refine iF (b:=1) (Nat.lt_of_le_of_lt (Nat.div_le_self _ _) (by omega)) (by omega) ?_
       cases hob:o.testBit j with
       | true=>
        refine ag ((cQ o j).trans hob) ?_;refine H.draw eN (by kernel_rfl) ?_;clear H;intro w8 H;refine quiet _ (fun w H=>H.ai 0 rfl aD av af) ?_;refine quiet _ (fun w H=>aa (fL _) af) ?_;refine quiet _ (fun w H=>H.load 2 rfl eo rfl af) ?_;refine quiet _ (fun w H=>aq underlying39 av j rfl (by omega) (o':=k+j*4) (by omega) af) ?_;refine quiet (sv b) (fun w H=>Sl.dj H hA.may bW aD av j rfl hb af) ?_;refine aj (c53 _ _ _) ?_;rintro _ w9 ⟨rfl,E⟩;replace H:=H.same E;refine ⟨.inl H,?_⟩;refine H.aV 0 rfl ?_;clear H;intro Y H;refine ⟨.inr rfl,?_⟩;exact ⟨(),trivial,by rw[if_pos rfl];exact H⟩
       | false=>
        refine ae ((cQ o j).trans hob) ?_;exact ⟨(),trivial,by rw[if_neg (by decide)];exact H⟩
      ·clear H;rintro ⟨⟩ u w7 H;exact ⟨j+1,by show S.may.length - (j+1)<S.may.length - j;omega,⟨up (by omega),trivial⟩,by show j+1≤S.may.length;omega,H⟩
     ·have:j=S.may.length:=by omega
      subst this;exact ⟨(),trivial,H⟩
    clear H;rintro ⟨⟩ u w6 H;refine ak (γ:=Option Addr × Nat × List (Nat × Nat)) (fun (A,c,G)=>[(9,.slice A G.length c)]) (fun (A,c,G) w'=>((∀ x,x ∈ G↔n9 S.n (ir S o S.may.length) x)∧G.Nodup)∧Hp w ab w' [own 48 2 (.slice A G.length c) G.length (flat b8 G),own 50 3 (.slice B R.length d) R.length (flat bd R),an g1 41 (bp S.n (.slice Bo S.on.length co) (.slice (some ⟨q,k,none⟩) S.may.length cm))] []) ?_ ?_
    ·refine H.ai 0 rfl aD av ?_;refine aa (iD _) ?_;refine H.load 2 rfl aE rfl ?_;refine aj (Oz S.n _ T (kX S o _) (sK S o _) _) ?_;rintro _ w7 ⟨A,c,G,rfl,J,D,K⟩;replace H:=H.bq K;exact ⟨(A,c,G),⟨rfl,trivial⟩,⟨J,D⟩,H.b9 [0,2,3] (by decide) rfl⟩
    clear H;rintro ⟨A,c,G⟩ u w7 ⟨⟨J,D⟩,H⟩;have hGl:G.length≤16384:=by
     have h3:=yZ (n:=S.n) D fun x F=>⟨((J x).1 F).1.lt,sub_lt ((J x).1 F).1.lt ((J x).1 F).1.sub⟩;have h4:=Nat.mul_le_mul U U;omega
    refine ay underlying146 ?_;refine ax (γ:=Nat × List Rw × Option Addr × Nat) (fun (i,a,B,d)=>[(58,.int .i64 (i:Int)),(4,.slice B a.length d)]) (fun (i,a,B,d) w'=>(i≤G.length∧(∀ x,x ∈ a↔x ∈ R∨(x.2.2=o∧(x.1,x.2.1) ∈ G.take i∧iI S x.1 x.2.1=o))∧a.Nodup∧a.length≤R.length+i)∧Hp w ab w' [own 48 2 (.slice A G.length c) G.length (flat b8 G),own 50 3 (.slice B a.length d) a.length (flat bd a),an g1 41 (bp S.n (.slice Bo S.on.length co) (.slice (some ⟨q,k,none⟩) S.may.length cm))] []) (fun (i,_)=>G.length - i) (0,R,B,d) ⟨rfl,rfl,trivial⟩ ⟨⟨Nat.zero_le _,fun x=>by simp,s,Nat.le_refl _⟩,H⟩ ?_;clear H;rintro ⟨i,a,Z,d'⟩ u w8 ⟨⟨hi,g,f,t⟩,H⟩;refine au (fun h9=>?_) (fun h9=>?_)
    ·obtain ⟨x,F,hxin⟩:=rr (l:=G) (j:=i) (by omega);have htk:=iZ F;have M:=(J x).1 hxin;have hm:=M.1.lt;have hv:=sub_lt M.1.lt M.1.sub;have hxt:x ∉ G.take i:=fun h=>by
      obtain ⟨j,V⟩:=List.getElem?_of_mem h;rw[List.getElem?_take] at V;split at V
      ·rename_i hji;have:=(List.getElem?_inj (List.getElem?_eq_some_iff.1 F).1 D).1 (F.trans V.symm);omega
      ·cases V
     refine ak (γ:=List Rw × Option Addr × Nat) (fun (R,B,d)=>[(4,.slice B R.length d)]) (fun (a,B,d) w'=>((∀ x,x ∈ a↔x ∈ R∨(x.2.2=o∧(x.1,x.2.1) ∈ G.take (i+1)∧iI S x.1 x.2.1=o))∧a.Nodup∧a.length≤R.length+(i+1))∧Hp w ab w' [own 48 2 (.slice A G.length c) G.length (flat b8 G),own 50 3 (.slice B a.length d) a.length (flat bd a),an g1 41 (bp S.n (.slice Bo S.on.length co) (.slice (some ⟨q,k,none⟩) S.may.length cm))] []) ?_ ?_
     ·rw[htk];obtain ⟨m,v⟩:=x;simp only at hm hv;obtain ⟨gA,rfl⟩:=H.kM 0 rfl (by omega);refine ak (γ:=Nat) (fun g12=>[(12,(ah g12))]) (fun g12 w'=>Hp w ab w' [an g12 48 (cc m v),own 48 2 (.slice (some ⟨gA,0,none⟩) G.length c) G.length (flat b8 G),own 50 3 (.slice Z a.length d') a.length (flat bd a),an g1 41 (bp S.n (.slice Bo S.on.length co) (.slice (some ⟨q,k,none⟩) S.may.length cm))] []) ?_ ?_
      ·refine aq underlying146 aJ i rfl (by omega) (o':=i*2) (by omega) ?_;refine H.eE 0 rfl fF bl aJ i rfl F ?_;refine H.alloc 48 (cs:=cc 0 0) fA rfl ?_;clear H;intro g12 w9 H;refine H.bT (c:=m) (d:=v) 0 rfl ?_;clear H;intro Y H;exact ⟨g12,⟨rfl,trivial⟩,H⟩
      clear H;rintro g12 u w9 H;have how:IntKind.u8.wrap (o:Int)=(o:Int):=by rw[IntKind.wrap_u8];omega
      refine H.ai 3 rfl dz bH ?_;refine H.ai 0 rfl bl aJ ?_;refine aj (Kh Q m v (by omega) (by omega) _ _ cm _ (hA.may.same H.keeps) rfl) ?_;rintro _ Y ⟨rfl,E⟩;replace H:=H.same E;clear E;by_cases heq:iI S m v=o
      ·refine kg (by kernel_rfl) underlying5 (by omega) (by omega) ?_;refine ag (beq_iff_eq.2 (by omega)) ?_;refine H.ai 0 rfl bl aJ ?_;refine kg (by kernel_rfl) underlying5 (by omega) (by omega) ?_;refine lH ?_;refine H.bk zx (cs:=dc m v o) (by decide) (by decide) (by kernel_rfl) ?_;clear H;intro g20 w11 H;refine H.aG 3 0 zx rfl rfl rfl (dA _ _ _) (by omega) (by omega) ?_;clear H;intro B2 d2 w12 H;have e1:(a++[(m,v,o)]).length=a.length+1:=by rw[List.length_append];rfl
       have e2:flat bd (a++[(m,v,o)])=flat bd a++bd (m,v,o):=dD ..;refine ⟨(a++[(m,v,o)],B2,d2),⟨by rw[e1];rfl,trivial⟩,⟨fun x=>?_,?_,by rw[e1];omega⟩,by rw[e1,e2];exact H.b9 [2,3,4] (by decide) rfl⟩
       ·rw[List.mem_append,g,List.mem_singleton,or_assoc,List.mem_append,List.mem_singleton];refine or_congr_right ⟨fun h=>?_,fun h=>?_⟩
        ·rcases h with h | rfl
         ·exact ⟨h.1,.inl h.2.1,h.2.2⟩
         ·exact ⟨rfl,.inr rfl,heq⟩
        ·rcases h.2.1 with p | p
         ·exact .inl ⟨h.1,p,h.2.2⟩
         ·injection p with h3 h4;exact .inr (Prod.ext h3 (Prod.ext h4 h.1))
       ·rw[List.nodup_append];refine ⟨f,by simp,fun x hx' y hy e=>?_⟩;obtain rfl:=List.mem_singleton.1 hy;subst e;rcases (g _).1 hx' with h | h
        ·have:=((z _).1 h).2;simp only at this;omega
        ·exact hxt h.2.1
      ·refine kg (by kernel_rfl) underlying5 (by omega) (by omega) ?_;refine ae (beq_eq_false_iff_ne.2 (by omega)) ?_;refine ⟨(a,Z,d'),⟨rfl,trivial⟩,⟨fun x=>(g x).trans (or_congr_right ⟨fun h=>⟨h.1,List.mem_append_left _ h.2.1,h.2.2⟩,fun h=>⟨h.1,?_,h.2.2⟩⟩),f,by omega⟩,H.forget⟩;rcases List.mem_append.1 h.2.1 with p | p
       ·exact p
       ·have O:=List.mem_singleton.1 p;exact absurd (by rw[← h.2.2,show x.1=m from congrArg Prod.fst O,show x.2.1=v from congrArg Prod.snd O]) heq
     ·clear H g f t;rintro ⟨a,Z,d'⟩ u w9 ⟨⟨g,f,t⟩,H⟩;exact ⟨(i+1,a,Z,d'),by show G.length - (i+1)<G.length - i;omega,⟨up (by omega),rfl,trivial⟩,⟨by show i+1≤G.length;omega,g,f,t⟩,H⟩
    ·have:i=G.length:=by omega
     subst this;rw[List.take_length] at g;refine ⟨(a,Z,d'),⟨rfl,trivial⟩,⟨fun x=>(g x).trans ?_,f,by show a.length≤(o+1)*16384;omega⟩,H.b9 [1,2] (by decide) rfl⟩;rw[z x,J];constructor
     ·rintro (⟨p,O⟩ | ⟨p,O,h3⟩)
      ·exact ⟨p,by omega⟩
      ·exact ⟨⟨by rw[p];exact O,by rw[p];exact h3,by omega,by omega⟩,by omega⟩
     ·rintro ⟨p,O⟩;rcases Nat.lt_succ_iff_lt_or_eq.1 O with h | h
      ·exact .inl ⟨p,h⟩
      ·exact .inr ⟨h,by rw[← h];exact p.cube,by rw[p.outs,h]⟩
   ·clear H z s I;rintro ⟨R,B,d⟩ u w5 ⟨⟨z,s,I⟩,H⟩;exact ⟨(o+1,R,B,d),by show 2^S.may.length - (o+1)<2^S.may.length - o;omega,⟨up (by omega),rfl,trivial⟩,⟨⟨Nat.succ_pos _,ho2⟩,z,s,I⟩,H⟩
  ·have:o=2^S.may.length:=by omega
   subst this;refine ⟨(R,B,d),⟨rfl,trivial⟩,⟨fun x=>(z x).trans ⟨fun h=>h.1,fun h=>⟨h,h.few⟩⟩,s,by omega⟩,H.only⟩
 clear H;rintro ⟨R,B,d⟩ u w4 ⟨z,H⟩;refine aj (c152 R (by omega) B d _ (bB (H.get 0 rfl))) ?_;rintro _ w5 ⟨B2,d2,R2,hp,rfl,K⟩;replace H:=H.bq K;exact ⟨B2,d2,R2,rfl,⟨fun x=>hp.mem_iff.trans (z.1 x),hp.nodup_iff.2 z.2.1,by rw[hp.length_eq];exact z.2.2⟩,H.only.out⟩
theorem KB:enters prog 112=true:=by kernel_rfl
theorem OC (a b:List Int)(A B:Option Addr)(c d:Nat)(w:World)(n:a.length≤1000000)(o:b.length≤1000000)(j:Sl w (.slice A a.length c) 1 a.length (aA a))(k:Sl w (.slice B b.length d) 1 b.length (aA b)) :
  bz prog 112 [.slice A a.length c,.slice B b.length d] w fun r w'=>(∃ p,r=.bool p)∧aT w w':=by
 refine ar (N:=40) func112 KB rfl rfl rfl (by simp) ?_;have H:=Hp.aC w;refine aw (fun w'=>Hp w ab w' [] []) ⟨(),trivial,H⟩ ?_;clear H;rintro ⟨⟩ u v H;by_cases x:a.length=b.length
 ·have g:(a.length:Int)=b.length:=by omega
  refine aw (fun w'=>Hp w ab w' [] []) ?_ ?_
  ·refine ay underlying75 ?_;refine ay underlying75 ?_;refine ae (bne_eq_false_iff_eq.2 g) ?_;exact ⟨(),trivial,H⟩
  clear H;rintro ⟨⟩ u y H;refine aw (fun w'=>Hp w ab w' [] []) ?_ ?_
  ·refine ay underlying75 ?_;refine ax (γ:=Nat) (fun i=>[(18,.int .i64 (i:Int))]) (fun i w'=>i≤a.length∧Hp w ab w' [] []) (fun i=>a.length - i) 0 ⟨rfl,trivial⟩ ⟨Nat.zero_le _,H⟩ ?_;clear H;rintro i u q ⟨hi,H⟩;refine au (fun s=>?_) (fun s=>?_)
   ·obtain ⟨z,l,rfl⟩:=j.A (by omega);obtain ⟨C,m,rfl⟩:=k.A (by omega);refine aw (fun w'=>Hp w ab w' [] []) ?_ ?_
    ·refine ak (γ:=Unit) (fun _=>[(5,.int .i64 (i:Int))]) (fun _ w'=>Hp w ab w' [] []) ⟨(),⟨rfl,trivial⟩,H⟩ ?_;clear H;rintro ⟨⟩ u t H;have e:i<a.length:=by omega
     have f:i<b.length:=by omega
     refine H.draw eN (by kernel_rfl) ?_;clear H;intro D H;refine quiet _ (fun w H=>aq underlying75 a_ i rfl e (o':=l+i) (by omega) af) ?_;refine quiet (.int .i64 a[i]) (fun w H=>aB aE (((j.same H.keeps).cell i (by omega)).trans (oK e)) af) ?_;refine quiet _ (fun w H=>aq underlying75 a_ i rfl f (o':=m+i) (by omega) af) ?_;refine quiet (.int .i64 b[i]) (fun w H=>aB aE (((k.same H.keeps).cell i (by omega)).trans (oK f)) af) ?_;by_cases h:a[i]=b[i]
     ·refine ae (bne_eq_false_iff_eq.2 h) ?_;exact ⟨(),trivial,H⟩
     ·refine ag (bne_iff_ne.2 h) ?_;refine H.draw eN (by kernel_rfl) ?_;clear H;intro E H;refine quiet _ (fun w H=>aq underlying75 a_ i rfl e (o':=l+i) (by omega) af) ?_;refine quiet (.int .i64 a[i]) (fun w H=>aB aE (((j.same H.keeps).cell i (by omega)).trans (oK e)) af) ?_;refine quiet _ (fun w H=>aq underlying75 a_ i rfl f (o':=m+i) (by omega) af) ?_;refine quiet (.int .i64 b[i]) (fun w H=>aB aE (((k.same H.keeps).cell i (by omega)).trans (oK f)) af) ?_;exact ⟨⟨_,rfl⟩,H.keeps⟩
    ·clear H;rintro ⟨⟩ u t H;exact ⟨i+1,by show a.length - (i+1)<a.length - i;omega,⟨up (by omega),trivial⟩,by show i+1≤a.length;omega,H⟩
   ·exact ⟨(),trivial,H⟩
  clear H;rintro ⟨⟩ u q H;exact ⟨⟨_,rfl⟩,H.keeps⟩
 ·have g:¬ (a.length:Int)=b.length:=by omega
  refine ay underlying75 ?_;refine ay underlying75 ?_;refine ag (bne_iff_ne.2 g) ?_;refine ay underlying75 ?_;refine ay underlying75 ?_;exact ⟨⟨_,rfl⟩,H.keeps⟩
end Go.Proofs.YtpjihhgjbbihkaaGreatDoor
namespace Go.Dk
def cG (a:List Nat):List UInt8:=a.flatMap fun k=>[UInt8.ofNat (k / 256),UInt8.ofNat (k % 256)]
theorem i_ (a:List Nat):(cG a).length=2*a.length:=by
 induction a with
 | nil=>rfl
 | cons k a ih=>show (_::_::cG a).length=_;simp[ih];omega
theorem AH (a:List Nat)(k:Nat):cG (a++[k])=cG a++[UInt8.ofNat (k / 256),UInt8.ofNat (k % 256)]:=by unfold cG;rw[List.flatMap_append];rfl
theorem xb {a:Nat}(h:a<256):(UInt8.ofNat a).toNat=a:=by rw[UInt8.toNat_ofNat'];omega
theorem vJ:∀ {a b:List Nat},(∀ k ∈ a,k<65536)→(∀ k ∈ b,k<65536)→cG a=cG b→a=b
 | [],[],_,_,_=>rfl
 | [],y::b,_,_,h=>by have:=congrArg List.length h;rw[i_,i_] at this;simp at this
 | x::a,[],_,_,h=>by have:=congrArg List.length h;rw[i_,i_] at this;simp at this
 | x::a,y::b,ha,hb,h=>by
  have h:UInt8.ofNat (x / 256)::UInt8.ofNat (x % 256)::cG a=UInt8.ofNat (y / 256)::UInt8.ofNat (y % 256)::cG b:=h;injection h with c h;injection h with d h;have e:=ha x (.head _);have f:=hb y (.head _);have c:=congrArg UInt8.toNat c;have d:=congrArg UInt8.toNat d;rw[xb (by omega),xb (by omega)] at c d;rw[vJ (fun k h=>ha k (.tail _ h)) (fun k h=>hb k (.tail _ h)) h,show x=y by omega]
end Go.Dk
namespace Go.Proofs.YtpjihhgjbbihkaaGreatDoor
open Go.Proofs.Tryz
open Go.Dk
set_option maxRecDepth 100000
attribute [local irreducible] IntKind.wrap
theorem KC:enters prog 111=true:=by kernel_rfl
theorem OD (a:List Nat)(o:∀ k ∈ a,k<65536)(A:Option Addr)(c:Nat)(w:World)(D:a.length≤1000000)(j:Sl w (.slice A a.length c) 1 a.length (ints a)) :
  bz prog 111 [.slice A a.length c] w fun r w'=>r=aU (cG a)∧aT w w':=by
 refine ar (N:=23) func111 KC rfl rfl rfl (by simp) ?_;have H:=Hp.aC w;refine aw (fun w'=>Hp w ab w' [] []) ⟨(),trivial,H⟩ ?_;clear H;rintro ⟨⟩ u E H;refine ak (γ:=Unit) (fun _=>[(3,.slice none 0 0)]) (fun _ w'=>Hp w ab w' [own 5 1 (.slice none 0 0) 0 []] []) ⟨(),⟨rfl,trivial⟩,H.bC 5 1⟩ ?_;clear H;rintro ⟨⟩ u F H;refine ak (γ:=Option Addr × Nat) (fun (B,d)=>[(3,.slice B (cG a).length d)]) (fun (B,d) w'=>Hp w ab w' [own 5 1 (.slice B (cG a).length d) (cG a).length (fX (cG a))] []) ?_ ?_
 ·refine ay underlying75 ?_;refine ax (γ:=Nat × Option Addr × Nat) (fun (i,B,d)=>[(8,.int .i64 (i:Int)),(3,.slice B (cG (a.take i)).length d)]) (fun (i,B,d) w'=>i≤a.length∧Hp w ab w' [own 5 1 (.slice B (cG (a.take i)).length d) (cG (a.take i)).length (fX (cG (a.take i)))] []) (fun (i,_)=>a.length - i) (0,none,0) ⟨rfl,rfl,trivial⟩ ⟨Nat.zero_le _,H⟩ ?_;clear H;rintro ⟨i,B,d⟩ u p ⟨hi,H⟩;refine au (fun q=>?_) (fun q=>?_)
  ·have b:i<a.length:=by omega
   obtain ⟨G,s,rfl⟩:=j.A (by omega);obtain ⟨k,f⟩:∃ k,a[i]=k:=⟨_,rfl⟩;have t:k<65536:=o k (f ▸ List.getElem_mem b);have g:a.take (i+1)=a.take i++[k]:=iZ (by rw[List.getElem?_eq_getElem b,f]);have hlen:=i_ (a.take i);rw[List.length_take,Nat.min_eq_left hi] at hlen;refine ak (γ:=Option Addr × Nat) (fun (B,d)=>[(3,.slice B (cG (a.take (i+1))).length d)]) (fun (B,d) w'=>Hp w ab w' [own 5 1 (.slice B (cG (a.take (i+1))).length d) (cG (a.take (i+1))).length (fX (cG (a.take (i+1))))] []) ?_ ?_
   ·rw[g,AH];refine ak (γ:=Unit) (fun _=>[(5,.int .i64 (k:Int))]) (fun _ w'=>Hp w ab w' [own 5 1 (.slice B (cG (a.take i)).length d) (cG (a.take i)).length (fX (cG (a.take i)))] []) ?_ ?_
    ·refine aq underlying75 a_ i rfl b (o':=s+i) (by omega) ?_;refine aB aE (((j.same H.keeps).cell i (by omega)).trans (eZ b)) ?_;rw[f];exact ⟨(),⟨rfl,trivial⟩,H⟩
    clear H;rintro ⟨⟩ u x H;have y:IntKind.u8.wrap ((k / 2^8:Nat):Int)=((k / 256:Nat):Int):=by rw[IntKind.wrap_u8];omega
    have h:IntKind.u8.wrap (k:Int)=((k % 256:Nat):Int):=by rw[IntKind.wrap_u8];omega
    refine iG (n:=8) (by omega) ?_;refine kg (by kernel_rfl) underlying5 (by omega) (by omega) ?_;refine jR (by kernel_rfl) underlying5 ?_;refine H.bk EE (cs:=#[.int .u8 ((k / 2^8:Nat):Int),.int .u8 ((k % 256:Nat):Int)]) (by decide) (by decide) (by first | kernel_rfl | (rw[← h];kernel_rfl)) ?_;clear H;intro g20 I H;refine H.aG (c:=2) 1 0 EE rfl rfl rfl (by intro v l;simp at l;rcases l with rfl | rfl <;> rfl) (by omega) (by omega) ?_;clear H;intro z d2 J H;have m:((cG (a.take i))++[UInt8.ofNat (k / 256),UInt8.ofNat (k % 256)]).length=(cG (a.take i)).length+2:=by simp
    have C:fX ((cG (a.take i))++[UInt8.ofNat (k / 256),UInt8.ofNat (k % 256)])=fX (cG (a.take i))++#[Value.int .u8 ((k / 2^8:Nat):Int),.int .u8 ((k % 256:Nat):Int)].toList:=by
     unfold fX;rw[List.map_append,List.map_cons,List.map_cons,List.map_nil,xb (by omega),xb (by omega)]
    exact ⟨(z,d2),⟨by rw[m];rfl,trivial⟩,by rw[m,C];exact H.forget⟩
   ·clear H;rintro ⟨B,d⟩ u x H;exact ⟨(i+1,B,d),by show a.length - (i+1)<a.length - i;omega,⟨up (by omega),rfl,trivial⟩,by show i+1≤a.length;omega,H⟩
  ·have:i=a.length:=by omega
   subst this;have e:cG (a.take a.length)=cG a:=by rw[List.take_length]
   rw[e] at H;exact ⟨(B,d),⟨by rw[← e];rfl,trivial⟩,H⟩
 clear H;rintro ⟨B,d⟩ u p H;refine H.tl 0 underlying151 underlying5 underlying9 rfl ?_;exact ⟨rfl,H.keeps⟩
end Go.Proofs.YtpjihhgjbbihkaaGreatDoor
namespace Go.Dk
theorem B7 {α:Type}{l:List α}{x:α}{i:Nat}(hi:i≤l.length)(j:Nat):(l.take i++x::l.drop i)[j]?=if j<i then l[j]? else if j=i then some x else l[j - 1]?:=by
 rw[List.getElem?_append,List.length_take,Nat.min_eq_left hi];split
 ·rw[List.getElem?_take,if_pos (by assumption)]
 ·rename_i h;by_cases a:j=i
  ·subst a;simp
  ·rw[if_neg a,show j - i=(j - i - 1)+1 by omega,List.getElem?_cons_succ,List.getElem?_drop,show i+(j - i - 1)=j - 1 by omega]
theorem HG {α:Type}{l:List α}{x y:α}{i:Nat}:y ∈ l.take i++x::l.drop i↔y=x∨y ∈ l:=by
 have b:(l.take i++x::l.drop i).Perm (x::l):=by
  have:=List.perm_middle (a:=x) (l₁:=l.take i) (l₂:=l.drop i)
  rwa [List.take_append_drop] at this
 rw[b.mem_iff,List.mem_cons]
def di (n:Nat)(R:List Rw)(out p:Nat):Nat→List Nat
 | 0=>[]
 | j+1=>match R[j]? with
  | some x=>if x.2.2.testBit out&&(bc x.1 x.2.1 n).testBit p then di n R out p j++[j] else di n R out p j
  | none=>di n R out p j
theorem ub {n out p j:Nat}{R:List Rw}{x:Rw}(h:R[j]?=some x):di n R out p (j+1)=if x.2.2.testBit out&&(bc x.1 x.2.1 n).testBit p then di n R out p j++[j] else di n R out p j:=by
 show (match R[j]? with | some x=>_ | none=>_)=_;rw[h]
theorem kF {n out p c:Nat}{R:List Rw}:∀ {j},c ∈ di n R out p j↔c<j∧∃ x,R[c]?=some x∧x.2.2.testBit out=true∧(bc x.1 x.2.1 n).testBit p=true
 | 0=>by simp[di]
 | j+1=>by
  have i:=kF (n:=n) (out:=out) (p:=p) (c:=c) (R:=R) (j:=j)
  cases h:R[j]? with
  | none=>
   have e:di n R out p (j+1)=di n R out p j:=by
    show (match R[j]? with | some x=>_ | none=>_)=_;rw[h]
   rw[e,i];constructor
   ·rintro ⟨d,a⟩;exact ⟨by omega,a⟩
   ·rintro ⟨d,x,a,f⟩;rcases Nat.lt_succ_iff_lt_or_eq.1 d with b | b
    ·exact ⟨b,x,a,f⟩
    ·subst b;rw[h] at a;cases a
  | some x=>
   rw[ub h];by_cases g:(x.2.2.testBit out&&(bc x.1 x.2.1 n).testBit p)=true
   ·rw[if_pos g,List.mem_append,i,List.mem_singleton];rw[Bool.and_eq_true] at g;constructor
    ·rintro (⟨d,a⟩ | rfl)
     ·exact ⟨by omega,a⟩
     ·exact ⟨by omega,x,h,g⟩
    ·rintro ⟨d,y,a,f⟩;rcases Nat.lt_succ_iff_lt_or_eq.1 d with b | b
     ·exact .inl ⟨b,y,a,f⟩
     ·exact .inr b
   ·rw[if_neg g,i];constructor
    ·rintro ⟨d,a⟩;exact ⟨by omega,a⟩
    ·rintro ⟨d,y,a,f⟩;rcases Nat.lt_succ_iff_lt_or_eq.1 d with b | b
     ·exact ⟨b,y,a,f⟩
     ·subst b;rw[h] at a;injection a with a;subst a;rw[f.1,f.2] at g;exact absurd rfl g
theorem mF (n:Nat)(R:List Rw)(out p:Nat):∀ j,(di n R out p j).length≤j
 | 0=>Nat.le_refl _
 | j+1=>by
  have a:=mF n R out p j;unfold di;split
  ·split
   ·simp;omega
   ·omega
  ·omega
end Go.Dk
namespace Go.Proofs.YtpjihhgjbbihkaaGreatDoor
open Go.Proofs.Tryz
open Go.Dk
set_option maxRecDepth 100000
attribute [local irreducible] IntKind.wrap
theorem FA (a b:List UInt8)(h:aU a=aU b):a=b:=by
 unfold aU at h;injection h with h;injection h with h;exact Array.toList_inj.2 h |> fun h=>by simpa using h
theorem KD:lh prog 170 9 4 aU Value.bool (.bool false):=⟨underlying170,(KL.Ej underlying9).mono (fun v ⟨l,h⟩=>by subst h;exact trivial),FA,by kernel_rfl⟩
theorem jk.ins {S:Nat→Prop}{w:World}{hs:List Value}{Q:a6}{u:Value}{l:List Int}(h:jk S w (hs++[u]) (Q++[l])){i:Nat}(hi:i≤hs.length):jk S w (hs.take i++u::hs.drop i) (Q.take i++l::Q.drop i):=by
 obtain ⟨m,n⟩:=h;rw[List.length_append,List.length_append] at m;have c:hs.length=Q.length:=by simpa using m
 refine ⟨by simp;omega,fun j v rs b a=>?_⟩;rw[B7 hi] at b;rw[B7 (by omega)] at a;have old:∀ k,hs[k]?=some v→Q[k]?=some rs→rj S w v rs:=fun k o d=>by
  have e:=(List.getElem?_eq_some_iff.1 o).1;exact n k v rs (by rw[List.getElem?_append_left e];exact o) (by rw[List.getElem?_append_left (by omega)];exact d)
 split at b
 ·rename_i f;rw[if_pos f] at a;exact old j b a
 ·rename_i f;rw[if_neg f] at a;split at b
  ·rename_i g;rw[if_pos g] at a;injection b with b;injection a with a;subst b a;exact n hs.length _ _ (by simp) (by rw[c];simp)
  ·rename_i g;rw[if_neg g] at a;exact old _ b a
theorem _root_.Go.Dk.Hp.KE {w0 w:World}{L M:List cS}{S:Nat→Prop}{hs:List Value}{Q:a6}{v:Value}{b:List Int}(H:Hp w0 ab w (own 3 1 v b.length (aA b)::L) (du S hs Q::M))(h:∀ g,S g→w0.heap.size≤g){i:Nat}(hi:i≤hs.length) :
  ∃ a,Hp w0 ab w L (du a (hs.take i++v::hs.drop i) (Q.take i++b::Q.drop i)::M)∧∀ g,a g→w0.heap.size≤g:=by
 obtain ⟨a,c,d⟩:=H.Ab h;refine ⟨a,(c.pZ (aS.refl _ _) (du a (hs.take i++v::hs.drop i) (Q.take i++b::Q.drop i)) (jk.ins (c.ro 0 rfl) hi) fun g f=>⟨c.rlt _ (.head _) g f,.inr ⟨_,.head _,f⟩⟩).eD ?_,d⟩;intro r e;rcases List.mem_cons.1 e with rfl | e
 ·exact .head _
 ·exact .tail _ (.tail _ e)
def kY (a:List Nat):List Int:=a.map fun k:Nat=>(k:Int)
theorem AI (a:List Nat):aA (kY a)=ints a:=by unfold aA kY ints;rw[List.map_map];rfl
theorem lJ (a:List Nat):(kY a).length=a.length:=List.length_map _
theorem y3 {a b:List Nat}(h:kY a=kY b):a=b:=List.map_inj_right (fun x y h=>by omega) |>.1 h
theorem xc:cW prog 44=some false:=by kernel_rfl
theorem fl:cW prog 75=some false:=by kernel_rfl
theorem xd:cW prog 170=some false:=by kernel_rfl
def sh (l:List (List UInt8 × Bool))(Q:a6):Prop:=∀ a:List Nat,(∀ k ∈ a,k<65536)→(bU l (cG a)).getD false=decide (kY a ∈ Q)
def ny (n:Nat)(R:List Rw):List Nat:=R.map fun x=>bc x.1 x.2.1 n
abbrev sL (n:Nat)(R:List Rw)(A:Option Addr)(c:Nat)(a:Option Addr)(b g2 g3 g4 g5 r:Nat)(l:List (List UInt8 × Bool))(cols:Int)(B:Option Addr)(d:Nat)(hs:List Value)(X:List cS):List cS:=
 an g4 170 #[.map (some r)]::aP aU Value.bool r l::an g5 137 (mc cols (.slice B hs.length d))::own 75 1 (.slice B hs.length d) hs.length hs::an g2 44 #[.slice A R.length c]::an g3 39 #[.slice a R.length b]::own 86 4 (.slice a R.length b) R.length (flat bL (ny n R))::X
theorem KF:enters prog 109=true:=by kernel_rfl
set_option maxHeartbeats 4000000 in
theorem c109 {n:Nat}(R:List Rw)(hR:∀ x ∈ R,x.2.2<256)(hRl:R.length≤4000)(out p:Nat)(hout:out<8)(hp:p<256)(A:Option Addr)(c:Nat)(q:Option Addr)(t g2 g3 g4 g5 r:Nat)(l:List (List UInt8 × Bool))(cols:Int)(B:Option Addr)(d:Nat)(hs:List Value)(Q:a6)(a:Nat→Prop)(X:List cS)(w0 w:World)(hA:Sl w0 (.slice A R.length c) 3 R.length (flat bd R))(Z:∀ g,a g→w0.heap.size≤g)(hQ:Q.length≤100000)(hQr:∀ row ∈ Q,row.length≤4000)(y:sh l Q)(H:Hp w0 ab w (sL n R A c q t g2 g3 g4 g5 r l cols B d hs X) [du a hs Q]) :
  bz prog 109 ([.int .i64 (out:Int),.int .i64 (p:Int)]++[(ah g2),(ah g3),(ah g4),(ah g5)]) w fun v w'=>
   v=.tuple #[]∧∃ l' B' d' a0 Q' S2,(sh l' Q'∧(∀ row,row ∈ Q'↔row ∈ Q∨row=kY (di n R out p R.length))∧Q'.length≤Q.length+1∧∀ g,S2 g→w0.heap.size≤g)∧
    Hp w0 ab w' (sL n R A c q t g2 g3 g4 g5 r l' cols B' d' a0 X) [du S2 a0 Q']:=by
 refine ar (N:=77) func109 KF rfl rfl rfl (by simp) ?_;refine ak (γ:=Unit) (fun _=>[(8,.slice none 0 0)]) (fun _ w'=>Hp w0 ab w' (own 3 1 (.slice none 0 0) 0 []::sL n R A c q t g2 g3 g4 g5 r l cols B d hs X) [du a hs Q]) ⟨(),⟨rfl,trivial⟩,H.bC 3 1⟩ ?_;clear H;rintro ⟨⟩ u w1 H;refine ak (γ:=Option Addr × Nat) (fun (C,e)=>[(8,.slice C (di n R out p R.length).length e)]) (fun (C,e) w'=>Hp w0 ab w' (own 3 1 (.slice C (di n R out p R.length).length e) (di n R out p R.length).length (ints (di n R out p R.length))::sL n R A c q t g2 g3 g4 g5 r l cols B d hs X) [du a hs Q]) ?_ ?_
 ·refine H.load 5 rfl xc rfl ?_;refine ay underlying44 ?_;refine ax (γ:=Nat × Option Addr × Nat) (fun (j,C,e)=>[(15,.int .i64 (j:Int)),(8,.slice C (di n R out p j).length e)]) (fun (j,C,e) w'=>j≤R.length∧Hp w0 ab w' (own 3 1 (.slice C (di n R out p j).length e) (di n R out p j).length (ints (di n R out p j))::sL n R A c q t g2 g3 g4 g5 r l cols B d hs X) [du a hs Q]) (fun (j,_)=>R.length - j) (0,none,0) ⟨rfl,rfl,trivial⟩ ⟨Nat.zero_le _,H⟩ ?_;clear H;rintro ⟨j,C,e⟩ u w2 ⟨hj,H⟩;refine au (fun h7=>?_) (fun h7=>?_)
  ·obtain ⟨gA,oA,rfl⟩:=hA.A (by omega);obtain ⟨x,hx,a1⟩:=lU (l:=R) (j:=j) (by omega);have T:=ub (n:=n) (out:=out) (p:=p) hx;have a2:=mF n R out p j;refine ak (γ:=Option Addr × Nat) (fun (C,e)=>[(8,.slice C (di n R out p (j+1)).length e)]) (fun (C,e) w'=>Hp w0 ab w' (own 3 1 (.slice C (di n R out p (j+1)).length e) (di n R out p (j+1)).length (ints (di n R out p (j+1)))::sL n R (some ⟨gA,oA,none⟩) c q t g2 g3 g4 g5 r l cols B d hs X) [du a hs Q]) ?_ ?_
   ·rw[T];have a3:=hR x a1;obtain ⟨m,v,o⟩:=x;simp only at a3;refine ak (γ:=Nat) (fun g10=>[(10,(ah g10)),(9,.int .i64 (j:Int))]) (fun g10 w'=>Hp w0 ab w' (an g10 50 (dc m v o)::own 3 1 (.slice C (di n R out p j).length e) (di n R out p j).length (ints (di n R out p j))::sL n R (some ⟨gA,oA,none⟩) c q t g2 g3 g4 g5 r l cols B d hs X) [du a hs Q]) ?_ ?_
    ·refine aq underlying44 aX j rfl (by omega) (o':=oA+j*3) (by omega) ?_;refine Sl.dj H hA bR fo aX j rfl hx ?_;refine H.alloc 50 (cs:=dc 0 0 0) ic rfl ?_;clear H;intro g10 w3 H;refine H.storeAll (cs':=dc m v o) 0 rfl aX rfl (dA _ _ _) ?_;clear H;intro w4 H;exact ⟨g10,⟨rfl,rfl,trivial⟩,H⟩
    clear H;rintro g10 u w3 H;have a4:=cQ o out;obtain ⟨gP,rfl⟩:=H.kM 8 rfl (by omega);have hpx:(ny n R)[j]?=some (bc m v n):=by unfold ny;rw[List.getElem?_map,hx];rfl
    have hpl:(ny n R).length=R.length:=List.length_map _;refine aa (dh _ _) ?_;refine H.load 0 rfl b7 rfl ?_;refine fj (by omega) ?_;refine eg (b:=1) (Nat.lt_of_le_of_lt (Nat.div_le_self _ _) a3) (by omega) ?_;simp only
    cases hob:o.testBit out with
    | true=>
     rw[hob] at a4;refine ag (by assumption) ?_;refine H.load 7 (i:=0) rfl eo rfl ?_
     iterate 2 refine ag (by assumption) ?_
     refine aq underlying39 av j rfl (by omega) (o':=j*4) (by omega) ?_;refine ag (by assumption) ?_;refine H.eE 8 rfl bW aD av j rfl hpx ?_
     iterate 2 refine ag (by assumption) ?_
     refine aj (yi (bc m v n) p hp _) ?_;rintro _ w4 ⟨rfl,E⟩;replace H:=H.same E;clear E;refine ag (by assumption) ?_
     cases hcb:(bc m v n).testBit p with
     | true=>
      refine ag rfl ?_;refine H.aY dU rfl ?_;clear H;intro g20 w5 H;refine H.cr 1 dU rfl rfl (by omega) (by omega) ?_;clear H;intro C2 e2 w6 H;have e3:(di n R out p j++[j]).length=(di n R out p j).length+1:=by simp
      have e4:ints (di n R out p j++[j])=ints (di n R out p j)++[.int .i64 (j:Int)]:=by unfold ints;rw[List.map_append];rfl
      simp only[Bool.and_self,if_true];exact ⟨(C2,e2),⟨by rw[e3];rfl,trivial⟩,by rw[e3,e4];exact H.forget⟩
     | false=>
      refine ae rfl ?_;exact ⟨(C,e),⟨rfl,trivial⟩,H.forget⟩
    | false=>
     rw[hob] at a4
     iterate 7 refine ae (by assumption) ?_
     refine ae rfl ?_;exact ⟨(C,e),⟨rfl,trivial⟩,H.forget⟩
   ·clear H;rintro ⟨C,e⟩ u w3 H;exact ⟨(j+1,C,e),by show R.length - (j+1)<R.length - j;omega,⟨up (by omega),rfl,trivial⟩,by show j+1≤R.length;omega,H⟩
  ·have:j=R.length:=by omega
   subst this;exact ⟨(C,e),⟨rfl,trivial⟩,H⟩
 clear H;rintro ⟨C,e⟩ u w2 H;have a2:=mF n R out p R.length;have F:∀ k ∈ di n R out p R.length,k<65536:=fun k E=>by have:=(kF.1 E).1;omega
 generalize di n R out p R.length=K at H a2 F ⊢;have G:=lJ K;have a5:=AI K;refine ak (γ:=Unit) (fun _=>[(11,aU (cG K))]) (fun _ w'=>Hp w0 ab w' (own 3 1 (.slice C K.length e) K.length (ints K)::sL n R A c q t g2 g3 g4 g5 r l cols B d hs X) [du a hs Q]) ?_ ?_
 ·refine aj (OD K F C e _ (by omega) (bB (H.get 0 rfl))) ?_;rintro _ w3 ⟨rfl,E⟩;replace H:=H.same E;exact ⟨(),⟨rfl,trivial⟩,H⟩
 clear H;rintro ⟨⟩ u w3 H;have I:=y K F;by_cases U:kY K ∈ Q
 ·refine H.load 1 rfl xd rfl ?_;rw[decide_eq_true U] at I;refine ez (H.get 2 rfl) KD (cG K) (v:=.bool true) (by revert I;cases bU l (cG K) <;> simp) ?_;refine ag rfl ?_;exact ⟨rfl,l,B,d,hs,Q,a,⟨y,fun row=>⟨.inl,fun h=>h.elim id (fun e=>e ▸ U)⟩,Nat.le_succ _,Z⟩,H.forget⟩
 rw[decide_eq_false U] at I;refine aw (fun w'=>Hp w0 ab w' (own 3 1 (.slice C K.length e) K.length (ints K)::sL n R A c q t g2 g3 g4 g5 r l cols B d hs X) [du a hs Q]) ?_ ?_
 ·refine H.load 1 rfl xd rfl ?_;refine ez (H.get 2 rfl) KD (cG K) (v:=.bool false) (by revert I;cases bU l (cG K) <;> simp) ?_;refine ae rfl ?_;exact ⟨(),trivial,H⟩
 clear H;rintro ⟨⟩ u w4 H;refine aw (fun w'=>Hp w0 ab w' (own 3 1 (.slice C K.length e) K.length (ints K)::sL n R A c q t g2 g3 g4 g5 r (ek l (cG K) true) cols B d hs X) [du a hs Q]) ?_ ?_
 ·refine H.load 1 rfl xd rfl ?_;refine H.iR 2 rfl KD (cG K) true ?_;clear H;intro w5 H;exact ⟨(),trivial,H⟩
 clear H;rintro ⟨⟩ u w5 H;have hhl:hs.length=Q.length:=(show jk a w5 hs Q from H.ro 0 rfl).1;have J:∀ Q':a6,(∀ row,row ∈ Q'↔row ∈ Q∨row=kY K)→sh (ek l (cG K) true) Q':=fun Q' a7 ks a8=>by
  rw[fy];by_cases hw:cG ks=cG K
  ·rw[if_pos hw];obtain rfl:=vJ a8 F hw;exact (decide_eq_true ((a7 _).2 (.inr rfl))).symm
  ·rw[if_neg hw,y ks a8];refine decide_eq_decide.2 ?_;rw[a7];exact ⟨.inl,fun h=>h.elim id fun e=>absurd (by rw[y3 e]) hw⟩
 refine ak (γ:=Nat) (fun i=>[(12,.int .i64 (i:Int))]) (fun i w'=>i≤hs.length∧Hp w0 ab w' (own 3 1 (.slice C K.length e) K.length (ints K)::sL n R A c q t g2 g3 g4 g5 r (ek l (cG K) true) cols B d hs X) [du a hs Q]) ?_ ?_
 ·refine aa (cH _) ?_;refine H.load 3 rfl eH rfl ?_;refine ay underlying135 ?_;exact ⟨hs.length,⟨rfl,trivial⟩,Nat.le_refl _,H⟩
 clear H;rintro i0 u w6 ⟨hi0,H⟩;refine ak (γ:=Nat) (fun i=>[(12,.int .i64 (i:Int))]) (fun i w'=>i≤hs.length∧Hp w0 ab w' (own 3 1 (.slice C K.length e) K.length (ints K)::sL n R A c q t g2 g3 g4 g5 r (ek l (cG K) true) cols B d hs X) [du a hs Q]) ?_ ?_
 ·refine ax (γ:=Nat) (fun i=>[(12,.int .i64 (i:Int))]) (fun i w'=>i≤hs.length∧Hp w0 ab w' (own 3 1 (.slice C K.length e) K.length (ints K)::sL n R A c q t g2 g3 g4 g5 r (ek l (cG K) true) cols B d hs X) [du a hs Q]) (fun i=>i) i0 ⟨rfl,trivial⟩ ⟨hi0,H⟩ ?_;clear H;rintro i u w7 ⟨hi,H⟩;by_cases h0:(0:Int)<(i:Int)
  ·obtain ⟨gB,rfl⟩:=H.kM 4 rfl (by omega);obtain ⟨hv,hh⟩:∃ hv,hs[i - 1]?=some hv:=⟨_,List.getElem?_eq_getElem (by omega)⟩;obtain ⟨row,z⟩:∃ row,Q[i - 1]?=some row:=⟨_,List.getElem?_eq_getElem (by omega)⟩;obtain ⟨D,f,rfl,hsl⟩:=(show jk a w7 hs Q from H.ro 0 rfl).2 (i - 1) hv row hh z;have hw:IntKind.i64.wrap ((i:Int) - 1)=((i - 1:Nat):Int):=by rw[aH (by omega) (by omega)];omega
   have hrl:=hQr row (List.mem_of_getElem? z);have V:∀ w,Sl w (.slice C K.length e) 1 K.length (ints K)→Sl w (.slice D row.length f) 1 row.length (aA row)→bz prog 112 [.slice C K.length e,.slice D row.length f] w fun r w'=>(∃ bb,r=.bool bb)∧aT w w':=fun w h1 h2=>by
    have:=OC (kY K) row C D e f w (by rw[G];omega) (by omega) (by rw[G,a5];exact h1) h2;rw[G] at this;exact this
   iterate 2 refine ag (decide_eq_true (by assumption)) ?_
   refine aa (cH _) ?_;refine ag (decide_eq_true (by assumption)) ?_;refine H.load 3 (i:=1) rfl eH rfl ?_
   iterate 3 refine ag (decide_eq_true (by assumption)) ?_
   refine aq underlying135 (s:=1) fZ (i - 1) hw (by omega) (o':=(i - 1)) (by omega) ?_;refine ag (decide_eq_true (by assumption)) ?_;refine H.eJ 4 rfl fl hh ?_
   iterate 1 refine ag (decide_eq_true (by assumption)) ?_
   refine aj (V w7 (bB (H.get 0 rfl)) (sl.mono hsl fun g hg=>H.rlt _ (.head _) g hg)) ?_;rintro _ w8 ⟨⟨bb,rfl⟩,E⟩;replace H:=H.same E;clear E
   cases bb with
   | true=>
    iterate 1 refine ag (decide_eq_true (by assumption)) ?_
    refine ag rfl ?_;exact ⟨i - 1,by show i - 1<i;omega,⟨by rw[← hw];rfl,trivial⟩,by show i - 1≤hs.length;omega,H⟩
   | false=>
    iterate 1 refine ag (decide_eq_true (by assumption)) ?_
    refine ae rfl ?_;exact ⟨i,⟨rfl,trivial⟩,hi,H⟩
  ·iterate 9 refine ae (decide_eq_false (by assumption)) ?_
   refine ae rfl ?_;exact ⟨i,⟨rfl,trivial⟩,hi,H⟩
 clear H;rintro i u w7 ⟨hi,H⟩;have M:=bB (H.get 4 rfl);have hQl:hs.length≤100000:=by omega
 obtain ⟨A1,e1,hA1,hS1⟩:=mm M (i:=i) hi;obtain ⟨A2,c2,e2,Y⟩:=mn underlying135 fZ M (i:=i) hi;have hid:i≤d:=Nat.le_trans hi (by obtain ⟨_,A',c',e,h,_⟩:=M;injection e with _ _ e;omega);have v1:∀ w',(own 75 1 (.slice B hs.length d) hs.length hs).ok w'→Sl w' (.slice A1 i i) 1 i (hs.take (i*1)):=fun w' h=>by
  obtain ⟨A',O,_,Z⟩:=mm (bB h) (i:=i) hi;rw[e1] at O;injection O with O _ _;rw[O];exact Z
 have v2:∀ w',(own 75 1 (.slice B hs.length d) hs.length hs).ok w'→Sl w' (.slice A2 (hs.length - i) c2) 1 (hs.length - i) (hs.drop (i*1)):=fun w' h=>by
  obtain ⟨A',c',O,Z⟩:=mn underlying135 fZ (bB h) (i:=i) hi;rw[e2] at O;injection O with O _ e'';rw[O,e''];exact Z
 have h1:∀ u ∈ hs.drop (i*1),u.oneCell'=true:=fun u hu=>by
  obtain ⟨j,hj⟩:=List.getElem?_of_mem (List.mem_of_mem_drop hu);obtain ⟨row,z⟩:∃ row,Q[j]?=some row:=⟨_,List.getElem?_eq_getElem (by have:=(List.getElem?_eq_some_iff.1 hj).1;omega)⟩;obtain ⟨D,f,rfl,_⟩:=(show jk a w7 hs Q from H.ro 0 rfl).2 j u row hj z;rfl
 have hl':(hs.take i++Value.slice C K.length e::hs.drop i).length=i+(1+(hs.length - i)):=by simp;omega
 clear hS1 Y M;refine H.fE (own 3 1 (.slice C K.length e) K.length (ints K)::sL n R A c q t g2 g3 g4 g5 r (ek l (cG K) true) cols B d hs X) (fun u H=>H) eN (by kernel_rfl) ?_;clear H;intro w8 H;refine quiet _ (fun w H=>aa (cH _) af) ?_;refine quiet _ (fun w H=>H.load 3 (i:=1) rfl eH rfl af) ?_;refine quiet (.slice A1 i i) (fun w H=>by rw[← e1];exact tq underlying135 fZ rfl rfl hid af) ?_;refine H.bk tP (cs:=#[.slice C K.length e]) (by decide) (by decide) (by kernel_rfl) ?_;clear H;intro g20 w9 H;refine ⟨.inl H.forget,?_⟩;refine quiet _ (fun w H=>aa (cH _) af) ?_;refine quiet _ (fun w H=>H.load 3 (i:=1) rfl eH rfl af) ?_;refine quiet (.slice A2 (hs.length - i) c2) (fun w H=>by rw[← e2];exact sC underlying135 fZ rfl hi af) ?_;replace H:=H.wY (l:=1) (sz:=1) rfl (by unfold maxLen;omega);refine H.kR 0 tP rfl (v2 _ (H.get 5 rfl)) h1 (by omega) (by omega) ?_;clear H;intro A3 d3 w10 H;refine ⟨.inl H.forget,?_⟩;refine H.q8 tP (v1 _ (H.get 5 rfl)) (bB (H.get 0 rfl)) hA1 (by omega) (by omega) (by omega) ?_;clear H;intro A4 d4 w11 H;refine ⟨.inl H.forget.forget,?_⟩;refine quiet _ (fun w H=>aa (cH _) af) ?_;refine H.store 5 rfl qn (Nat.le_of_ble_eq_true rfl) rfl ?_;clear H;intro w12 H;refine ⟨.inr rfl,?_⟩;have H2:=(H.front 1 rfl).forget;clear H;have H3:=(H2.front 5 rfl).forget;clear H2;have H4:=(((H3.front 4 rfl).front 4 rfl).front 4 rfl).front 4 rfl;clear H3;have H5:Hp w0 ab w12 (own 3 1 (.slice C K.length e) (kY K).length (aA (kY K))::an g4 170 #[.map (some r)]::aP aU Value.bool r (ek l (cG K) true)::an g5 137 (mc cols (.slice (some ⟨A4,0,none⟩) (i+(1+(hs.length - i))) d4))::own 75 1 (.slice (some ⟨A4,0,none⟩) (i+(1+(hs.length - i))) d4) (i+(1+(hs.length - i))) (hs.take (i*1)++(#[Value.slice C K.length e].toList++hs.drop (i*1)))::an g2 44 #[.slice A R.length c]::an g3 39 #[.slice q R.length t]::own 86 4 (.slice q R.length t) R.length (flat bL (ny n R))::X) [du a hs Q]:=by
  rw[G,a5];exact H4
 clear H4;obtain ⟨S2,H6,Y⟩:=H5.KE Z hi;clear H5;have S:∀ row,row ∈ Q.take i++kY K::Q.drop i↔row ∈ Q∨row=kY K:=fun row=>by rw[HG];exact or_comm
 refine ⟨rfl,ek l (cG K) true,some ⟨A4,0,none⟩,d4,hs.take i++.slice C K.length e::hs.drop i,Q.take i++kY K::Q.drop i,S2,⟨J _ S,S,by simp;omega,Y⟩,?_⟩;rw[Nat.mul_one] at H6;unfold sL;rw[hl'];exact H6
theorem HI:bF prog 170=some 1:=by kernel_rfl
theorem HK:eU prog 39=some (.slice none 0 0):=by kernel_rfl
theorem FB:eU prog 170=some (.map none):=by kernel_rfl
theorem GO:qR prog 39 86 (sv 0) 4 32:=⟨underlying39,by kernel_rfl,rfl,by decide⟩
def o7 (S:er)(R:List Rw)(k i:Nat)(row:List Int):Prop:=
 (∃ o a p,o<k∧S.on[o]?=some a∧a.testBit p=true∧row=kY (di S.n R o p R.length))∨(∃ a p,S.on[k]?=some a∧p ∈ (cT a).take i∧row=kY (di S.n R k p R.length))
theorem Dr {S:er}{R:List Rw}{k i a p:Nat}{row:List Int}(e:S.on[k]?=some a)(d:(cT a).take (i+1)=(cT a).take i++[p]):o7 S R k i row∨row=kY (di S.n R k p R.length)↔o7 S R k (i+1) row:=by
 unfold o7;rw[or_assoc];refine or_congr_right ⟨fun h=>?_,fun h=>?_⟩
 ·rcases h with ⟨j,g,b,c,f⟩ | h
  ·rw[e] at b;injection b with b;subst b;exact ⟨a,g,e,by rw[d];exact List.mem_append_left _ c,f⟩
  ·exact ⟨a,p,e,by rw[d];exact List.mem_append_right _ (List.mem_singleton.2 rfl),h⟩
 ·obtain ⟨j,g,b,c,f⟩:=h;rw[e] at b;injection b with b;subst b;rw[d] at c;rcases List.mem_append.1 c with c | c
  ·exact .inl ⟨a,g,e,c,f⟩
  ·obtain rfl:=List.mem_singleton.1 c;exact .inr f
theorem Ds {S:er}{R:List Rw}{k a:Nat}{row:List Int}(e:S.on[k]?=some a)(halt:a<2^256):o7 S R k (cT a).length row↔o7 S R (k+1) 0 row:=by
 unfold o7;constructor
 ·rintro (⟨o,b,p,d,c⟩ | ⟨b,p,d,c,f⟩)
  ·exact .inl ⟨o,b,p,by omega,c⟩
  ·rw[e] at d;injection d with d;subst d;rw[List.take_length] at c;exact .inl ⟨k,a,p,by omega,e,(xa halt).1 c,f⟩
 ·rintro (⟨o,b,p,d,c,f,g⟩ | ⟨b,p,_,c,_⟩)
  ·rcases Nat.lt_succ_iff_lt_or_eq.1 d with h | h
   ·exact .inl ⟨o,b,p,h,c,f,g⟩
   ·subst h;rw[e] at c;injection c with c;subst c;exact .inr ⟨a,p,e,by rw[List.take_length];exact (xa halt).2 f,g⟩
  ·simp at c
theorem MK:enters prog 87=true:=by kernel_rfl
set_option maxHeartbeats 4000000 in
theorem c87 {S:er}(hS:cF S)(R:List Rw)(hR:∀ x ∈ R,im S.n S.on.length x)(F:R.length≤4000)(Bo:Option Addr)(co:Nat)(Bm:Option Addr)(cm:Nat)(A:Option Addr)(c:Nat)(w:World)(G:gi w S Bo co Bm cm)(hA:Sl w (.slice A R.length c) 3 R.length (flat bd R)) :
  bz prog 87 [sf S.n (.slice Bo S.on.length co) (.slice Bm S.may.length cm),.slice A R.length c] w fun r w'=>∃ B d Q,r=.tuple #[mv (R.length:Int) (.slice B Q.length d),.int .i64 0]∧((∀ row,row ∈ Q↔o7 S R S.on.length 0 row)∧Q.length≤100000)∧tQ (fun _=>False) w w' (.slice B Q.length d) Q:=by
 refine ar (N:=76) func87 MK rfl rfl rfl (by simp) ?_;have H:=Hp.aC w;have hn8:=hS.n8;have h4:=hS.few;refine ak (γ:=Nat × Nat × Nat) (fun (g2,g3,g4)=>[(2,(ah g2)),(3,(ah g3)),(4,(ah g4)),(5,.int .i64 0)]) (fun (g2,g3,g4) w'=>Hp w ab w' [an g4 137 (mv 0 (.slice none 0 0)).cells,an g3 44 #[.slice A R.length c],an g2 41 (bp S.n (.slice Bo S.on.length co) (.slice Bm S.may.length cm))] []) ?_ ?_
 ·refine H.box 41 _ (cs:=(bp S.n (.slice Bo S.on.length co) (.slice Bm S.may.length cm))) rfl ?_;clear H;intro g2 w1 H;refine H.box 44 _ (cs:=#[.slice A R.length c]) rfl ?_;clear H;intro g3 w2 H;refine H.alloc 137 ed rfl ?_;clear H;intro g4 w3 H;exact ⟨(g2,g3,g4),⟨rfl,rfl,rfl,rfl,trivial⟩,H⟩
 clear H;rintro ⟨g2,g3,g4⟩ u w1 H;refine aw (fun w'=>Hp w ab w' [an g4 137 (mv 0 (.slice none 0 0)).cells,an g3 44 #[.slice A R.length c],an g2 41 (bp S.n (.slice Bo S.on.length co) (.slice Bm S.may.length cm))] []) ?_ ?_
 ·refine H.ai 2 rfl dz bH ?_;refine aj (Hv hS Bo co Bm cm _ (G.same H.keeps)) ?_;rintro _ w2 ⟨rfl,hk⟩;replace H:=H.same hk;refine ae rfl ?_;exact ⟨(),trivial,H⟩
 clear H;rintro ⟨⟩ u w2 H;refine ak (γ:=Nat) (fun g6=>[(6,(ah g6))]) (fun g6 w'=>Hp w ab w' [an g6 39 #[.slice none 0 0],own 86 4 (.slice none 0 0) 0 [],an g4 137 (mv 0 (.slice none 0 0)).cells,an g3 44 #[.slice A R.length c],an g2 41 (bp S.n (.slice Bo S.on.length co) (.slice Bm S.may.length cm))] []) ?_ ?_
 ·refine (H.bC 86 4).alloc 39 (cs:=#[.slice none 0 0]) HK rfl ?_;clear H;intro g6 w3 H;exact ⟨g6,⟨rfl,trivial⟩,H⟩
 clear H;rintro g6 u w3 H;refine ak (γ:=Option Addr × Nat) (fun _=>[]) (fun (q,s) w'=>Hp w ab w' [an g6 39 #[.slice q R.length s],own 86 4 (.slice q R.length s) R.length (flat bL (ny S.n R)),an g4 137 (mv 0 (.slice none 0 0)).cells,an g3 44 #[.slice A R.length c],an g2 41 (bp S.n (.slice Bo S.on.length co) (.slice Bm S.may.length cm))] []) ?_ ?_
 ·refine H.load 3 rfl xc rfl ?_;refine ay underlying44 ?_;refine ax (γ:=Nat × Option Addr × Nat) (fun (j,_)=>[(24,.int .i64 (j:Int))]) (fun (j,q,s) w'=>j≤R.length∧Hp w ab w' [an g6 39 #[.slice q j s],own 86 4 (.slice q j s) j (flat bL (ny S.n (R.take j))),an g4 137 (mv 0 (.slice none 0 0)).cells,an g3 44 #[.slice A R.length c],an g2 41 (bp S.n (.slice Bo S.on.length co) (.slice Bm S.may.length cm))] []) (fun (j,_)=>R.length - j) (0,none,0) ⟨rfl,trivial⟩ ⟨Nat.zero_le _,H⟩ ?_;clear H;rintro ⟨j,q,s⟩ u w4 ⟨M,H⟩;refine au (fun h7=>?_) (fun h7=>?_)
  ·obtain ⟨gA,T,rfl⟩:=hA.A (by omega);obtain ⟨x,hx,U⟩:=lU (l:=R) (j:=j) (by omega);have I:=hR x U;have hpt:ny S.n (R.take (j+1))=ny S.n (R.take j)++[bc x.1 x.2.1 S.n]:=by unfold ny;rw[iZ hx,List.map_append];rfl
   refine ak (γ:=Option Addr × Nat) (fun _=>[]) (fun (q,s) w'=>Hp w ab w' [an g6 39 #[.slice q (j+1) s],own 86 4 (.slice q (j+1) s) (j+1) (flat bL (ny S.n (R.take (j+1)))),an g4 137 (mv 0 (.slice none 0 0)).cells,an g3 44 #[.slice (some ⟨gA,T,none⟩) R.length c],an g2 41 (bp S.n (.slice Bo S.on.length co) (.slice Bm S.may.length cm))] []) ?_ ?_
   ·rw[hpt];obtain ⟨m,v,o⟩:=x;have hm:=I.m;have hv:=I.v;have hr:=I.right;simp only at hm hv hr;refine ak (γ:=Nat) (fun g8=>[(8,(ah g8))]) (fun g8 w'=>Hp w ab w' [an g8 50 (dc m v o),an g6 39 #[.slice q j s],own 86 4 (.slice q j s) j (flat bL (ny S.n (R.take j))),an g4 137 (mv 0 (.slice none 0 0)).cells,an g3 44 #[.slice (some ⟨gA,T,none⟩) R.length c],an g2 41 (bp S.n (.slice Bo S.on.length co) (.slice Bm S.may.length cm))] []) ?_ ?_
    ·refine aq underlying44 aX j rfl (by omega) (o':=T+j*3) (by omega) ?_;refine Sl.dj H hA bR fo aX j rfl hx ?_;refine H.alloc 50 (cs:=dc 0 0 0) ic rfl ?_;clear H;intro g8 w5 H;refine H.storeAll (cs':=dc m v o) 0 rfl aX rfl (dA _ _ _) ?_;clear H;intro w6 H;exact ⟨g8,⟨rfl,trivial⟩,H⟩
    clear H;rintro g8 u w5 H;refine ak (γ:=Nat) (fun g9=>[(9,(ah g9)),(10,.int .i64 0)]) (fun g9 w'=>Hp w ab w' [an g9 86 (sc (bc m v S.n)),an g6 39 #[.slice q j s],own 86 4 (.slice q j s) j (flat bL (ny S.n (R.take j))),an g4 137 (mv 0 (.slice none 0 0)).cells,an g3 44 #[.slice (some ⟨gA,T,none⟩) R.length c],an g2 41 (bp S.n (.slice Bo S.on.length co) (.slice Bm S.may.length cm))] []) ?_ ?_
    ·refine aa (fC _ _) ?_;refine H.cB 0 rfl [.int .u8 (m:Int),.int .u8 (v:Int)] bl aJ (fun j u M=>by match j,M with | 0,M=>exact M | 1,M=>exact M) ?_;refine aa (iD _) ?_;refine H.load 5 rfl aE rfl ?_;refine aj (ED m v hm hv S.n hn8 hr _) ?_;rintro _ w6 ⟨rfl,hk⟩;replace H:=H.same hk;refine H.alloc 86 (cs:=sc 0) br aZ ?_;clear H;intro g9 V H;refine H.aV (b:=bc m v S.n) 0 rfl ?_;clear H;intro w8 H;exact ⟨g9,⟨rfl,rfl,trivial⟩,H.b9 [0,2,3,4,5,6] (by decide) rfl⟩
    clear H;rintro g9 u w6 H;refine aw (fun w'=>Hp w ab w' [an g9 86 (sc (bc m v S.n)),an g6 39 #[.slice q j s],own 86 4 (.slice q j s) j (flat bL (ny S.n (R.take j))),an g4 137 (mv 0 (.slice none 0 0)).cells,an g3 44 #[.slice (some ⟨gA,T,none⟩) R.length c],an g2 41 (bp S.n (.slice Bo S.on.length co) (.slice Bm S.may.length cm))] []) ?_ ?_
    ·refine ae rfl ?_;exact ⟨(),trivial,H⟩
    clear H;rintro ⟨⟩ u V H;refine H.load 1 rfl eo rfl ?_;refine H.ai 0 rfl aD av ?_;refine H.bk GO (cs:=sc (bc m v S.n)) (by decide) (by decide) (by kernel_rfl) ?_;clear H;intro g20 w8 H;refine H.aG (c:=1) 3 0 GO rfl rfl rfl (fI _) (by omega) (by omega) ?_;clear H;intro PA2 pd2 w9 H;refine H.store 2 rfl tU (Nat.le_of_ble_eq_true rfl) rfl ?_;clear H;intro C H;have e2:flat bL (ny S.n (R.take j)++[bc m v S.n])=flat bL (ny S.n (R.take j))++(sc (bc m v S.n)).toList:=dD ..;refine ⟨(PA2,pd2),trivial,?_⟩;rw[e2];exact H.b9 [2,3,4,5,6] (by decide) rfl
   ·clear H;rintro ⟨q,s⟩ u w5 H;exact ⟨(j+1,q,s),by show R.length - (j+1)<R.length - j;omega,⟨up (by omega),trivial⟩,by show j+1≤R.length;omega,H⟩
  ·have:j=R.length:=by omega
   subst this;rw[List.take_length] at H;exact ⟨(q,s),trivial,H⟩
 clear H;rintro ⟨q,s⟩ u w4 H;refine aw (fun w'=>Hp w ab w' [an g6 39 #[.slice q R.length s],own 86 4 (.slice q R.length s) R.length (flat bL (ny S.n R)),an g4 137 (mv 0 (.slice none 0 0)).cells,an g3 44 #[.slice A R.length c],an g2 41 (bp S.n (.slice Bo S.on.length co) (.slice Bm S.may.length cm))] []) ?_ ?_
 ·refine H.load 3 rfl xc rfl ?_;refine ay underlying44 ?_;refine ae (decide_eq_false (by omega)) ?_;exact ⟨(),trivial,H⟩
 clear H;rintro ⟨⟩ u w5 H;have H:=H.bC 75 1;refine ak (γ:=Nat) (fun g11=>[(11,(ah g11))]) (fun g11 w'=>Hp w ab w' [an g11 137 (mc (R.length:Int) (.slice none 0 0)),own 75 1 (.slice none 0 0) 0 [],an g6 39 #[.slice q R.length s],own 86 4 (.slice q R.length s) R.length (flat bL (ny S.n R)),an g4 137 (mv 0 (.slice none 0 0)).cells,an g3 44 #[.slice A R.length c],an g2 41 (bp S.n (.slice Bo S.on.length co) (.slice Bm S.may.length cm))] []) ?_ ?_
 ·refine H.load 4 rfl xc rfl ?_;refine ay underlying44 ?_;refine mw ?_;refine H.alloc 137 ed rfl ?_;clear H;intro g11 w6 H;refine H.storeAll (cs':=mc (R.length:Int) (.slice none 0 0)) 0 rfl az rfl dn ?_;clear H;intro V H;exact ⟨g11,⟨rfl,trivial⟩,H⟩
 clear H;rintro g11 u w6 H;refine ak (γ:=Nat × Nat) (fun (g12,_)=>[(12,(ah g12))]) (fun (g12,r) w'=>Hp w ab w' (sL S.n R A c q s g3 g6 g12 g11 r [] (R.length:Int) none 0 [] [an g4 137 (mv 0 (.slice none 0 0)).cells,an g2 41 (bp S.n (.slice Bo S.on.length co) (.slice Bm S.may.length cm))]) []) ?_ ?_
 ·refine H.makeMap aU Value.bool ?_;clear H;intro r V H;refine H.alloc 170 (cs:=#[.map none]) FB rfl ?_;clear H;intro g12 w8 H;refine H.store 0 rfl HI (Nat.le_of_ble_eq_true rfl) rfl ?_;clear H;intro w9 H;exact ⟨(g12,r),⟨rfl,trivial⟩,H.b9 [0,1,2,3,7,4,5,6,8] (by decide) rfl⟩
 clear H;rintro ⟨g12,r⟩ u V H;replace H:=Hp.Ae (show Hp w ab V _ [] from H);refine ak (γ:=Unit) (fun _=>[(13,.func (.func 109) #[] #[(ah g3),(ah g6),(ah g12),(ah g11)])]) (fun _ w'=>Hp w ab w' (sL S.n R A c q s g3 g6 g12 g11 r [] (R.length:Int) none 0 [] [an g4 137 (mv 0 (.slice none 0 0)).cells,an g2 41 (bp S.n (.slice Bo S.on.length co) (.slice Bm S.may.length cm))]) [du (fun _=>False) [] []]) ?_ ?_
 ·refine nY ?_;exact ⟨(),⟨rfl,trivial⟩,H⟩
 clear H;rintro ⟨⟩ u w8 H;have J:∀ (Q:a6) (k i:Nat),(∀ row,row ∈ Q↔o7 S R k i row)→∀ row ∈ Q,row.length≤4000:=fun Q k i h row X=>by
  rcases (h row).1 X with ⟨o,a,p,_,_,_,rfl⟩ | ⟨a,p,_,_,rfl⟩
  ·rw[lJ];exact Nat.le_trans (mF _ _ _ _ _) F
  ·rw[lJ];exact Nat.le_trans (mF _ _ _ _ _) F
 refine ak (γ:=List (List UInt8 × Bool) × Option Addr × Nat × List Value × a6 × (Nat→Prop)) (fun _=>[]) (fun (l,B,d,hs,Q,y) w'=>(sh l Q∧(∀ row,row ∈ Q↔o7 S R S.on.length 0 row)∧Q.length≤100000∧∀ g,y g→w.heap.size≤g)∧Hp w ab w' (sL S.n R A c q s g3 g6 g12 g11 r l (R.length:Int) B d hs [an g4 137 (mv 0 (.slice none 0 0)).cells,an g2 41 (bp S.n (.slice Bo S.on.length co) (.slice Bm S.may.length cm))]) [du y hs Q]) ?_ ?_
 ·refine aa (ie _) ?_;refine H.load 8 rfl eo rfl ?_;refine ay underlying39 ?_;refine ax (γ:=Nat × List (List UInt8 × Bool) × Option Addr × Nat × List Value × a6 × (Nat→Prop)) (fun (k,_)=>[(57,.int .i64 (k:Int))]) (fun (k,l,B,d,hs,Q,y) w'=>(k≤S.on.length∧sh l Q∧(∀ row,row ∈ Q↔o7 S R k 0 row)∧Q.length≤k*256∧∀ g,y g→w.heap.size≤g)∧Hp w ab w' (sL S.n R A c q s g3 g6 g12 g11 r l (R.length:Int) B d hs [an g4 137 (mv 0 (.slice none 0 0)).cells,an g2 41 (bp S.n (.slice Bo S.on.length co) (.slice Bm S.may.length cm))]) [du y hs Q]) (fun (k,_)=>S.on.length - k) (0,[],none,0,[],[],fun _=>False) ⟨rfl,trivial⟩ ⟨⟨Nat.zero_le _,fun ks _=>by rw[td];simp,fun row=>⟨fun h=>by simp at h,fun h=>by
   rcases h with ⟨o,a,p,h,_⟩ | ⟨a,p,_,h,_⟩
   ·omega
   ·simp at h⟩,Nat.zero_le _,fun g h=>h.elim⟩,H⟩ ?_
  clear H;rintro ⟨k,l,B,d,hs,Q,y⟩ u w9 ⟨⟨hk,e,f,z,t⟩,H⟩;refine au (fun h7=>?_) (fun h7=>?_)
  ·obtain ⟨a,ha,Y⟩:=mB (l:=S.on) (j:=k) (by omega);have halt:=hS.onlt a Y;obtain ⟨Z,O,rfl⟩:=G.on.A (by omega);refine ak (γ:=List (List UInt8 × Bool) × Option Addr × Nat × List Value × a6 × (Nat→Prop)) (fun _=>[]) (fun (l,B,d,hs,Q,y) w'=>(sh l Q∧(∀ row,row ∈ Q↔o7 S R (k+1) 0 row)∧Q.length≤(k+1)*256∧∀ g,y g→w.heap.size≤g)∧Hp w ab w' (sL S.n R A c q s g3 g6 g12 g11 r l (R.length:Int) B d hs [an g4 137 (mv 0 (.slice none 0 0)).cells,an g2 41 (bp S.n (.slice (some ⟨Z,O,none⟩) S.on.length co) (.slice Bm S.may.length cm))]) [du y hs Q]) ?_ ?_
   ·refine ak (γ:=Nat) (fun g15=>[(15,(ah g15)),(14,.int .i64 (k:Int))]) (fun g15 w'=>Hp w ab w' (an g15 86 (sc a)::sL S.n R A c q s g3 g6 g12 g11 r l (R.length:Int) B d hs [an g4 137 (mv 0 (.slice none 0 0)).cells,an g2 41 (bp S.n (.slice (some ⟨Z,O,none⟩) S.on.length co) (.slice Bm S.may.length cm))]) [du y hs Q]) ?_ ?_
    ·refine aq underlying39 av k rfl (by omega) (o':=O+k*4) (by omega) ?_;refine Sl.dj H G.on bW aD av k rfl ha ?_;refine H.alloc 86 (cs:=sc 0) br aZ ?_;clear H;intro g15 C H;refine H.aV (b:=a) 0 rfl ?_;clear H;intro w11 H;exact ⟨g15,⟨rfl,rfl,trivial⟩,H⟩
    clear H;rintro g15 u C H;have hpl:(cT a).length≤256:=eS a 256;refine H.ai 0 rfl aD av ?_;refine aj (Ez a _) ?_;rintro _ w11 ⟨PT,pc,rfl,hn'⟩;replace H:=H.bq hn';refine ay underlying75 ?_;refine ax (γ:=Nat × List (List UInt8 × Bool) × Option Addr × Nat × List Value × a6 × (Nat→Prop)) (fun (i,_)=>[(65,.int .i64 (i:Int))]) (fun (i,l,B,d,hs,Q,y) w'=>(i≤(cT a).length∧sh l Q∧(∀ row,row ∈ Q↔o7 S R k i row)∧Q.length≤k*256+i∧∀ g,y g→w.heap.size≤g)∧Hp w ab w' (sL S.n R A c q s g3 g6 g12 g11 r l (R.length:Int) B d hs [an g4 137 (mv 0 (.slice none 0 0)).cells,an g2 41 (bp S.n (.slice (some ⟨Z,O,none⟩) S.on.length co) (.slice Bm S.may.length cm)),own 3 1 (.slice PT (cT a).length pc) (cT a).length (ints (cT a))]) [du y hs Q]) (fun (i,_)=>(cT a).length - i) (0,l,B,d,hs,Q,y) ⟨rfl,trivial⟩ ⟨⟨Nat.zero_le _,e,f,by omega,t⟩,H.b9 [2,3,4,5,6,7,8,9,10,0] (by decide) rfl⟩ ?_;clear H e f z t;rintro ⟨i,l,B,d,hs,Q,y⟩ u w12 ⟨⟨hi,e,f,z,t⟩,H⟩;refine au (fun h8=>?_) (fun h8=>?_)
    ·have D:i<(cT a).length:=by omega
     obtain ⟨p,hp⟩:∃ p,(cT a)[i]=p:=⟨_,rfl⟩;have K:p<256:=EC (hp ▸ List.getElem_mem D);have htk:(cT a).take (i+1)=(cT a).take i++[p]:=iZ (by rw[List.getElem?_eq_getElem D,hp]);obtain ⟨gP,rfl⟩:=H.kM 9 rfl (by omega);refine ak (γ:=List (List UInt8 × Bool) × Option Addr × Nat × List Value × a6 × (Nat→Prop)) (fun _=>[]) (fun (l,B,d,hs,Q,y) w'=>(sh l Q∧(∀ row,row ∈ Q↔o7 S R k (i+1) row)∧Q.length≤k*256+(i+1)∧∀ g,y g→w.heap.size≤g)∧Hp w ab w' (sL S.n R A c q s g3 g6 g12 g11 r l (R.length:Int) B d hs [an g4 137 (mv 0 (.slice none 0 0)).cells,an g2 41 (bp S.n (.slice (some ⟨Z,O,none⟩) S.on.length co) (.slice Bm S.may.length cm)),own 3 1 (.slice (some ⟨gP,0,none⟩) (cT a).length pc) (cT a).length (ints (cT a))]) [du y hs Q]) ?_ ?_
     ·refine ak (γ:=Unit) (fun _=>[(17,.int .i64 (p:Int))]) (fun _ w'=>Hp w ab w' (sL S.n R A c q s g3 g6 g12 g11 r l (R.length:Int) B d hs [an g4 137 (mv 0 (.slice none 0 0)).cells,an g2 41 (bp S.n (.slice (some ⟨Z,O,none⟩) S.on.length co) (.slice Bm S.may.length cm)),own 3 1 (.slice (some ⟨gP,0,none⟩) (cT a).length pc) (cT a).length (ints (cT a))]) [du y hs Q]) ?_ ?_
      ·refine aq underlying75 a_ i rfl D (o':=i) (by omega) ?_;refine H.eJ 9 rfl aE (eZ D) ?_;rw[hp];exact ⟨(),⟨rfl,trivial⟩,H⟩
      clear H;rintro ⟨⟩ u a0 H;refine fx (c109 R (fun x hx=>(hR x hx).o) F k p (by omega) K A c q s g3 g6 g12 g11 r l (R.length:Int) B d hs Q y _ w a0 hA t (by omega) (J Q k i f) e H) ?_;rintro _ w14 ⟨rfl,l',B',d',hs',Q',S2,⟨E,hQ',hQl',a1⟩,H2⟩;clear H;refine ⟨(l',B',d',hs',Q',S2),trivial,⟨E,fun row=>(hQ' row).trans ?_,by show Q'.length≤k*256+(i+1);omega,a1⟩,H2⟩;rw[f row];exact Dr ha htk
     ·clear H e f z t;rintro ⟨l,B,d,hs,Q,y⟩ u a0 ⟨⟨e,f,z,t⟩,H⟩;exact ⟨(i+1,l,B,d,hs,Q,y),by show (cT a).length - (i+1)<(cT a).length - i;omega,⟨up (by omega),trivial⟩,⟨by show i+1≤(cT a).length;omega,e,f,z,t⟩,H⟩
    ·have:i=(cT a).length:=by omega
     refine ⟨(l,B,d,hs,Q,y),trivial,⟨e,fun row=>(f row).trans ?_,by show Q.length≤(k+1)*256;omega,t⟩,H.b9 [0,1,2,3,4,5,6,7,8] (by decide) rfl⟩;rw[this];exact Ds ha halt
   ·clear H e f z t;rintro ⟨l,B,d,hs,Q,y⟩ u C ⟨⟨e,f,z,t⟩,H⟩;exact ⟨(k+1,l,B,d,hs,Q,y),by show S.on.length - (k+1)<S.on.length - k;omega,⟨up (by omega),trivial⟩,⟨by show k+1≤S.on.length;omega,e,f,z,t⟩,H⟩
  ·have:k=S.on.length:=by omega
   subst this;exact ⟨(l,B,d,hs,Q,y),trivial,⟨e,f,by omega,t⟩,H⟩
 clear H;rintro ⟨l,B,d,hs,Q,y⟩ u w9 ⟨⟨e,f,z,t⟩,H⟩;have a2:hs.length=Q.length:=(show jk y w9 hs Q from H.ro 0 rfl).1;refine H.ai 2 rfl aN az ?_;refine H.storeAll (cs':=mc (R.length:Int) (.slice B hs.length d)) 7 rfl az rfl dn ?_;clear H;intro C H;refine H.ai 7 rfl aN az ?_;refine ⟨rfl,?_⟩;have hn:=sH (S:=fun _=>False) H 3 rfl (H.ro 0 rfl) (fun g hg=>⟨H.rlt _ (.head _) g hg,.inl (t g hg)⟩);rw[a2] at hn;exact ⟨B,d,Q,by rw[← a2];rfl,⟨f,z⟩,hn⟩
end Go.Proofs.YtpjihhgjbbihkaaGreatDoor
namespace Go.Dk
theorem Dt {m v n:Nat}(a:n≤8):cu (bc m v n) (bu n):=fun p b=>by
 rw[bP a] at b;rw[gT a,decide_eq_true b.1]
theorem uc (S:er)(o:Nat)(p:Nat):∀ j,(ir S o j).testBit p=true↔(bu S.n).testBit p=true∧∀ i,i<j→o.testBit i=true→(S.may.getD i 0).testBit p=true
 | 0=>by simp[ir]
 | j+1=>by
  have f:=uc S o p j;unfold ir;by_cases b:o.testBit j=true
  ·rw[if_pos b,Nat.testBit_and,Bool.and_eq_true,f];constructor
   ·rintro ⟨⟨d,c⟩,g⟩;refine ⟨d,fun i hi a=>?_⟩;rcases Nat.lt_succ_iff_lt_or_eq.1 hi with h | h
    ·exact c i h a
    ·subst h;exact g
   ·rintro ⟨d,c⟩;exact ⟨⟨d,fun i hi=>c i (by omega)⟩,c j (by omega) b⟩
  ·rw[if_neg b,f];refine and_congr_right fun _=>⟨fun h i hi a=>?_,fun h i hi=>h i (by omega)⟩;rcases Nat.lt_succ_iff_lt_or_eq.1 hi with e | e
   ·exact h i e a
   ·subst e;exact absurd a b
theorem qy {S:er}(e:cF S){x:Rw}(f:0<x.2.2)(g:x.2.2<2^S.on.length):jZ S x↔AB S.n (ir S x.2.2 S.may.length) (x.1,x.2.1):=by
 constructor
 ·intro h;refine ⟨h.lt,h.sub,fun p a=>(uc _ _ _ _).2 ⟨Dt e.n8 p a,fun i hi c=>?_⟩⟩;rw[List.getD_eq_getElem?_getD,List.getElem?_eq_getElem hi];exact h.qz i _ c (List.getElem?_eq_getElem hi) p a
 ·intro h;refine ⟨h.lt,h.sub,f,g,fun j b k d p a=>?_⟩;have:=((uc _ _ _ _).1 (h.cT p a)).2 j (List.getElem?_eq_some_iff.1 d).1 k;rw[List.getD_eq_getElem?_getD,d] at this;exact this
theorem dX.qz {S:er}(a:cF S){x:Rw}(h:dX S x):jZ S x:=(qy a h.some (by rw[← a.len];exact h.few)).2 h.cube.1
theorem jZ.less {S:er}{m v o o':Nat}(h:jZ S (m,v,o))(a:0<o')(c:o'<2^S.on.length)(hs:∀ j,o'.testBit j=true→o.testBit j=true):jZ S (m,v,o'):=
 ⟨h.lt,h.sub,a,c,fun j b d e=>h.qz j b (hs j d) e⟩
theorem Du {S:er}{R:List Rw}(e:R.Nodup)(h:∀ x ∈ R,dX S x):R.length≤2^S.may.length*(2^S.n*2^S.n):=by
 have:=kU (a:=R) (b:=(List.range (2^S.n)).flatMap fun a=>(List.range (2^S.n)).flatMap fun b=>(List.range (2^S.may.length)).map fun c=>(a,b,c)) e (fun x d=>by
  have d:=h x d;exact List.mem_flatMap.2 ⟨x.1,List.mem_range.2 d.cube.1.lt,List.mem_flatMap.2 ⟨x.2.1,List.mem_range.2 (sub_lt d.cube.1.lt d.cube.1.sub),List.mem_map.2 ⟨x.2.2,List.mem_range.2 d.few,rfl⟩⟩⟩)
 refine Nat.le_trans this (Nat.le_of_eq ?_);simp[List.length_flatMap,List.map_const'];rw[← Nat.mul_assoc,Nat.mul_comm]
theorem pH (S:er)(m v o:Nat)(k:Nat):(ba S m v o (k+1)=ua (ba S m v o k) k∧sw S (fq (ba S m v o k).1 k) ((ba S m v o k).2 &&&fq (ba S m v o k).1 k) o=true)∨(ba S m v o (k+1)=ba S m v o k∧sw S (fq (ba S m v o k).1 k) ((ba S m v o k).2 &&&fq (ba S m v o k).1 k) o=false):=by
 show ((if sw S (fq (ba S m v o k).1 k) ((ba S m v o k).2 &&&fq (ba S m v o k).1 k) o then _ else _)=_∧_)∨_
 cases h:sw S (fq (ba S m v o k).1 k) ((ba S m v o k).2 &&&fq (ba S m v o k).1 k) o with
 | true=>exact .inl ⟨by rw[if_pos rfl];rfl,rfl⟩
 | false=>exact .inr ⟨by rw[ba,h];rfl,rfl⟩
theorem Dv {m v m' b n:Nat}(c:n≤8)(hm:m' &&&m=m')(d:b=v &&&m'):cu (bc m v n) (bc m' b n):=fun p a=>by
 rw[bP c] at a ⊢;refine ⟨a.1,?_⟩;rw[d,← a.2,Nat.and_assoc,Nat.and_comm m m',hm]
theorem vK {S:er}{m v o:Nat}(hs:v &&&m=v):∀ k,(ba S m v o k).2 &&&(ba S m v o k).1=(ba S m v o k).2
 | 0=>hs
 | k+1=>by
  rcases pH S m v o k with ⟨h,_⟩ | ⟨h,_⟩
  ·rw[h];exact ko
  ·rw[h];exact vK hs k
theorem pI {S:er}{m v o:Nat}(hs:v &&&m=v)(k:Nat):∀ d,(ba S m v o (k+d)).1 &&&(ba S m v o k).1=(ba S m v o (k+d)).1∧(ba S m v o (k+d)).2=(ba S m v o k).2 &&&(ba S m v o (k+d)).1
 | 0=>⟨Nat.and_self _,(vK hs k).symm⟩
 | d+1=>by
  obtain ⟨a,b⟩:=pI hs k d;rcases pH S m v o (k+d) with ⟨h,_⟩ | ⟨h,_⟩
  ·rw[← Nat.add_assoc,h];unfold ua fq;simp only;generalize ba S m v o (k+d)=g at a b;generalize ba S m v o k=q at a b;refine ⟨?_,?_⟩
   ·rw[Nat.and_assoc,Nat.and_comm _ q.1,← Nat.and_assoc,a]
   ·rw[b,Nat.and_assoc,← Nat.and_assoc g.1,Nat.and_self]
  ·rw[← Nat.add_assoc,h];exact ⟨a,b⟩
theorem Dw {S:er}(c:cF S){m v o:Nat}(h:jZ S (m,v,o)){i:Nat}(hi:i<S.n)(s:(ba S m v o S.n).1.testBit i=true):¬ jZ S ((ua (ba S m v o S.n) i).1,(ua (ba S m v o S.n) i).2,o):=fun k=>by
 have e:=c.n8;have x:2^S.n≤2^8:=Nat.pow_le_pow_right (by decide) e;have hm:=(h.ok c).m;have t:=(h.ok c).v;have u:=(h.ok c).o;rcases pH S m v o i with ⟨f,_⟩ | ⟨f,hw⟩
 ·have p:=(pI (S:=S) (o:=o) h.sub (i+1) (S.n - (i+1))).1;rw[show i+1+(S.n - (i+1))=S.n by omega] at p;have:=congrArg (fun z=>z.testBit i) p;simp only[Nat.testBit_and,s,f,Bool.true_and] at this;unfold ua at this;rw[qx (qt hm t i).1 (by omega)] at this;simp at this
 ·obtain ⟨a,d⟩:=pI (S:=S) (o:=o) h.sub i (S.n - i);rw[show i+(S.n - i)=S.n by omega] at a d;have r:=(qv c h i).1;rw[Bool.eq_false_iff] at hw;refine hw ((t_ c (nf r.lt i) ko u).2 ⟨nf r.lt i,ko,h.some,h.few,fun j b w l=>?_⟩);refine cu.trans (Dv e ?_ ?_) (k.qz j b w l)
  ·unfold ua fq;simp only;generalize ba S m v o S.n=y at a d;generalize ba S m v o i=g at a d;apply Nat.eq_of_testBit_eq;intro q;have:=congrArg (fun z=>z.testBit q) a;simp only[Nat.testBit_and] at this ⊢;revert this
   cases y.1.testBit q <;> cases g.1.testBit q <;> simp
  ·unfold ua fq;simp only;generalize ba S m v o S.n=y at a d;generalize ba S m v o i=g at a d;rw[d];apply Nat.eq_of_testBit_eq;intro q;have:=congrArg (fun z=>z.testBit q) a;simp only[Nat.testBit_and] at this ⊢;revert this
   cases y.1.testBit q <;> cases g.1.testBit q <;> simp
theorem ud {S:er}(b:cF S){m v o:Nat}(h:jZ S (m,v,o)):dX S (n7 S m v o):=by
 have a:=(qw b h).1;obtain ⟨_,c⟩:=B5 b (qv b h S.n).1;refine ⟨⟨(qy b a.some a.few).1 a,fun i hi d e=>?_⟩,rfl,a.some,by rw[b.len];exact a.few⟩;have f:jZ S ((ua (ba S m v o S.n) i).1,(ua (ba S m v o S.n) i).2,(n7 S m v o).2.2):=(qy (x:=((ua (ba S m v o S.n) i).1,(ua (ba S m v o S.n) i).2,(n7 S m v o).2.2)) b a.some a.few).2 e;exact Dw b h hi d (f.less h.some h.few c)
end Go.Dk
namespace Go.Proofs.YtpjihhgjbbihkaaGreatDoor
open Go.Dk
theorem Dx {S:er}(c:cF S){L:List Rw}(h:∀ x ∈ L,im S.n S.on.length x)(i:bD S L=true):∀ x ∈ L,jZ S x:=fun x e=>by
 have a:=h x e;have q:2^S.n≤2^8:=Nat.pow_le_pow_right (by decide) c.n8;obtain ⟨r,_,f,k⟩:=(dJ (by have:=a.m;omega) (by have:=a.v;omega)).1 a.right;refine ⟨by rw[Int.toNat_natCast] at f;exact f,k,a.some,a.few,fun j b l g p o=>?_⟩;have d:j<S.on.length:=by rw[← c.len];exact (List.getElem?_eq_some_iff.1 g).1
 exact ((gU c).1 i j _ b (List.getElem?_eq_getElem d) g).2 p (gQ.2 ⟨x,e,l,o⟩)
theorem AJ {S:er}(e:cF S){L R:List Rw}(q:∀ x,x ∈ R↔dX S x)(r:∀ x ∈ L,im S.n S.on.length x)(m:bD S L=true) :
  ∃ cs:List Nat,cs.length=L.length∧(∀ c ∈ cs,c<R.length)∧∀ row,o7 S R S.on.length 0 row→∃ c ∈ cs,(c:Int) ∈ row:=by
 have f:=Dx e r m;have b:∀ x ∈ L,n7 S x.1 x.2.1 x.2.2 ∈ R:=fun x d=>(q _).2 (ud e (f x d));refine ⟨L.map fun x=>R.idxOf (n7 S x.1 x.2.1 x.2.2),List.length_map _,fun c i=>?_,fun row g=>?_⟩
 ·obtain ⟨x,d,rfl⟩:=List.mem_map.1 i;exact List.idxOf_lt_length_iff.2 (b x d)
 ·rcases g with ⟨o,a,p,s,j,k,rfl⟩ | ⟨a,p,j,_⟩
  ·have l:o<S.may.length:=by rw[e.len];exact s
   obtain ⟨x,d,t,u⟩:=gQ.1 (((gU e).1 m o a _ j (List.getElem?_eq_getElem l)).1 p k);have h:=List.idxOf_lt_length_iff.2 (b x d);obtain ⟨y,v,w⟩:=qw e (f x d);refine ⟨_,List.mem_map.2 ⟨x,d,rfl⟩,List.mem_map.2 ⟨_,kF.2 ⟨h,n7 S x.1 x.2.1 x.2.2,?_,w o t,v p u⟩,rfl⟩⟩;rw[List.getElem?_eq_getElem h,List.getElem_idxOf]
  ·have:=(List.getElem?_eq_some_iff.1 j).1;omega
def bE (R:List Rw)(t:Nat→Bool):Nat→List Rw
 | 0=>[]
 | j+1=>match R[j]? with
  | some x=>if t j then bE R t j++[x] else bE R t j
  | none=>bE R t j
theorem ng {R:List Rw}{t:Nat→Bool}{x:Rw}:∀ {j},x ∈ bE R t j↔∃ c,c<j∧R[c]?=some x∧t c=true
 | 0=>by simp[bE]
 | j+1=>by
  have g:=ng (R:=R) (t:=t) (x:=x) (j:=j);unfold bE
  cases h:R[j]? with
  | none=>
   simp only;rw[g];constructor
   ·rintro ⟨c,d,a⟩;exact ⟨c,by omega,a⟩
   ·rintro ⟨c,d,a,e⟩;rcases Nat.lt_succ_iff_lt_or_eq.1 d with b | b
    ·exact ⟨c,b,a,e⟩
    ·subst b;rw[h] at a;cases a
  | some y=>
   simp only;by_cases f:t j=true
   ·rw[if_pos f,List.mem_append,g,List.mem_singleton];constructor
    ·rintro (⟨c,d,a⟩ | rfl)
     ·exact ⟨c,by omega,a⟩
     ·exact ⟨j,by omega,h,f⟩
    ·rintro ⟨c,d,a,e⟩;rcases Nat.lt_succ_iff_lt_or_eq.1 d with b | b
     ·exact .inl ⟨c,b,a,e⟩
     ·subst b;rw[h] at a;injection a with a;exact .inr a.symm
   ·rw[if_neg f,g];constructor
    ·rintro ⟨c,d,a⟩;exact ⟨c,by omega,a⟩
    ·rintro ⟨c,d,a,e⟩;rcases Nat.lt_succ_iff_lt_or_eq.1 d with b | b
     ·exact ⟨c,b,a,e⟩
     ·subst b;exact absurd e f
theorem AK {S:er}(k:cF S){R:List Rw}(n:∀ x ∈ R,dX S x){t:Nat→Bool}(h:∀ row,o7 S R S.on.length 0 row→∃ c:Nat,t c=true∧(c:Int) ∈ row):bD S (bE R t R.length)=true:=by
 rw[gU k];intro j a b l o;constructor
 ·intro p d;obtain ⟨c,q,hm⟩:=h _ (.inl ⟨j,a,p,(List.getElem?_eq_some_iff.1 l).1,l,d,rfl⟩);obtain ⟨m,e,he⟩:=List.mem_map.1 hm;obtain rfl:m=c:=by omega
  obtain ⟨f,x,g,i,r⟩:=kF.1 e;exact gQ.2 ⟨x,ng.2 ⟨m,f,g,q⟩,i,r⟩
 ·intro p d;obtain ⟨x,s,f,g⟩:=gQ.1 d;obtain ⟨c,_,i,_⟩:=ng.1 s;exact ((n x (List.mem_of_getElem? i)).qz k).qz j b f o p g
end Go.Proofs.YtpjihhgjbbihkaaGreatDoor
namespace Go.Proofs.YtpjihhgjbbihkaaGreatDoor
open Go.Proofs.Tryz
open Go.Dk
set_option maxRecDepth 100000
attribute [local irreducible] IntKind.wrap
theorem FC {p:Value}{w:World}{kk:Value→World→Prop}(h:kk (.agg #[p]) w)(b:∃ a,p=.pointer a):b6 prog 205 [(0,p)] w kk:=by
 obtain ⟨a,rfl⟩:=b;exact bx (fun w=>by kernel_rfl) h
def Po (gz g r:Nat)(sv:Value)(room:Int)(A:Ar):cS:=sr [an gz 205 #[(ah g)],bJ g r sv room A]
theorem KG:enters prog 106=true:=by kernel_rfl
theorem OE (n:Int)(b:0≤n)(c:n≤20000)(w:World) :
  bz prog 106 [.int .i64 n] w fun v w'=>∃ gz g r,v=.tuple #[(ah gz),.int .i64 0]∧eW w w' (Po gz g r (.slice none 0 0) n []):=by
 refine ar (N:=17) func106 KG rfl rfl rfl (by simp) ?_;have H:=Hp.aC w;refine aw (fun w'=>Hp w ab w' [] []) ⟨(),trivial,H⟩ ?_;clear H;rintro ⟨⟩ u e H;refine ak (γ:=Nat × Nat) (fun (g,_)=>[(4,(ah g)),(5,.int .i64 0)]) (fun (g,r) w'=>Hp w ab w' [bJ g r (.slice none 0 0) n []] []) ?_ ?_
 ·refine aj (JD n b c _) ?_;rintro _ d ⟨g,r,rfl,a⟩;replace H:=H.bq a;exact ⟨(g,r),⟨rfl,rfl,trivial⟩,H⟩
 clear H;rintro ⟨g,r⟩ u d H;refine aw (fun w'=>Hp w ab w' [bJ g r (.slice none 0 0) n []] []) ?_ ?_
 ·refine ae rfl ?_;exact ⟨(),trivial,H⟩
 clear H;rintro ⟨⟩ u f H;refine FC ?_ ⟨_,rfl⟩;refine H.box 205 _ (cs:=#[(ah g)]) rfl ?_;clear H;intro gz h H;exact ⟨gz,g,r,rfl,(Hp.join (Ls:=[an gz 205 #[(ah g)],bJ g r (.slice none 0 0) n []]) (L:=[]) H).out⟩
theorem xe (g:Nat)(w:World):(Instr.fieldAt 205 (ah g) 0).run prog w=.ok (ah g) w:=by kernel_rfl
theorem xf:cW prog 201=some false:=by kernel_rfl
theorem KH:enters prog 203=true:=by kernel_rfl
theorem c203 {gz g r:Nat}{sv:Value}{room:Int}{A:Ar}(id:Int)(hid:id<9223372036854775808)(w:World)(f:(an gz 205 #[(ah g)]).ok w)(h:(bJ g r sv room A).ok w) :
  bz prog 203 [(ah gz),.int .i64 id] w fun v w'=>v=.int .i64 (aR A id)∧aT w w':=by
 refine ar (N:=28) func203 KH rfl rfl rfl (by simp) ?_;have H:=Hp.aC w;by_cases c:id=0
 ·subst c
  iterate 4 refine ag rfl ?_
  exact ⟨rfl,H.keeps⟩
 ·by_cases d:id=1
  ·subst d
   iterate 3 refine ae rfl ?_
   refine ag rfl ?_;exact ⟨rfl,H.keeps⟩
  ·iterate 3 refine ae (beq_eq_false_iff_ne.2 c) ?_
   refine ae (beq_eq_false_iff_ne.2 d) ?_;refine aa (xe _) ?_;refine aB (u:=(ah g)) xf ((aQ f 0).trans rfl) ?_
   cases ht:j4 A id with
   | false=>
    refine aj (ER id hid ht _ h) ?_;rintro _ i ⟨rfl,a⟩;refine ae rfl ?_;refine ⟨?_,H.keeps.trans a (fun _ _ h=>h)⟩;have b:aR A id= -1:=by
     unfold aR;rw[if_neg (by omega)];unfold j4 at ht;split
     ·rename_i j;rw[decide_eq_true j,Bool.true_and] at ht
      cases hs:slot A (id - 2).toNat with
      | none=>rfl
      | some n=>rw[hs] at ht;cases ht
     ·rfl
    rw[b];rfl
   | true=>
    unfold j4 at ht;rw[Bool.and_eq_true,decide_eq_true_eq] at ht;obtain ⟨n,hs⟩:=Option.isSome_iff_exists.1 ht.2;have b:aR A id=(n.l:Int):=by
     unfold aR;rw[if_neg (by omega),if_pos ht.1,hs]
    have e:=ES (id - 2).toNat (by omega) n hs w h;rw[show (((id - 2).toNat:Nat):Int)+2=id by omega] at e;refine aj e ?_;rintro _ i ⟨rfl,a⟩;refine ag rfl ?_;refine ⟨?_,H.keeps.trans a (fun _ _ h=>h)⟩;rw[b];rfl
end Go.Proofs.YtpjihhgjbbihkaaGreatDoor
namespace Go.Dk
def b5 (A:Ar)(id l:Int):Int × Int:=if 2≤id then (match slot A (id - 2).toNat with | some n=>if (n.l:Int)=l then ((n.lo:Int),(n.hi:Int)) else (id,0) | none=>(id,0)) else (id,0)
end Go.Dk
namespace Go.Proofs.YtpjihhgjbbihkaaGreatDoor
open Go.Proofs.Tryz
open Go.Dk
set_option maxRecDepth 100000
attribute [local irreducible] IntKind.wrap
theorem KI:enters prog 204=true:=by kernel_rfl
theorem ML {gz g r:Nat}{sv:Value}{room:Int}{A:Ar}(id l:Int)(hid:id<9223372036854775808)(w:World)(e:(an gz 205 #[(ah g)]).ok w)(h:(bJ g r sv room A).ok w) :
  bz prog 204 [(ah gz),.int .i64 id,.int .i64 l] w fun v w'=>v=.tuple #[.int .i64 (b5 A id l).1,.int .i64 (b5 A id l).2]∧aT w w':=by
 refine ar (N:=32) func204 KI rfl rfl rfl (by simp) ?_;have H:=Hp.aC w;refine aa (xe _) ?_;refine aB (u:=(ah g)) xf ((aQ e 0).trans rfl) ?_
 cases ht:j4 A id with
 | false=>
  refine aj (ER id hid ht _ h) ?_;rintro _ f ⟨rfl,b⟩;have a:b5 A id l=(id,0):=by
   unfold b5;unfold j4 at ht;split
   ·rename_i i;rw[decide_eq_true i,Bool.true_and] at ht
    cases hs:slot A (id - 2).toNat with
    | none=>rfl
    | some n=>rw[hs] at ht;cases ht
   ·rfl
  iterate 5 refine ae rfl ?_
  refine ⟨?_,H.keeps.trans b (fun _ _ h=>h)⟩;rw[a];rfl
 | true=>
  unfold j4 at ht;rw[Bool.and_eq_true,decide_eq_true_eq] at ht;obtain ⟨n,hs⟩:=Option.isSome_iff_exists.1 ht.2;have d:=ES (id - 2).toNat (by omega) n hs w h;rw[show (((id - 2).toNat:Nat):Int)+2=id by omega] at d;refine aj d ?_;rintro _ f ⟨rfl,b⟩;by_cases c:(n.l:Int)=l
  ·have a:b5 A id l=((n.lo:Int),(n.hi:Int)):=by unfold b5;rw[if_pos ht.1,hs];simp[c]
   iterate 4 refine ag rfl ?_
   refine ag (beq_iff_eq.2 c) ?_;refine ⟨?_,H.keeps.trans b (fun _ _ h=>h)⟩;rw[a];rfl
  ·have a:b5 A id l=(id,0):=by unfold b5;rw[if_pos ht.1,hs];simp[c]
   iterate 4 refine ag rfl ?_
   refine ae (beq_eq_false_iff_ne.2 c) ?_;refine ⟨?_,H.keeps.trans b (fun _ _ h=>h)⟩;rw[a];rfl
end Go.Proofs.YtpjihhgjbbihkaaGreatDoor
namespace Go.Dk
def nz (room:Int)(A:Ar)(l lo hi:Int):Ar × Int × Int:=if hi=0 then (A,lo,0) else wk room A l lo hi
end Go.Dk
namespace Go.Proofs.YtpjihhgjbbihkaaGreatDoor
open Go.Proofs.Tryz
open Go.Dk
set_option maxRecDepth 100000
attribute [local irreducible] IntKind.wrap
theorem KJ:enters prog 205=true:=by kernel_rfl
theorem KK {gz g r:Nat}{sv:Value}{room:Int}{A:Ar}(l lo hi:Int)(i:l<9223372036854775808)(c:lo<9223372036854775808)(d:hi<9223372036854775808)(f:uS room A)(w:World)(j:(an gz 205 #[(ah g)]).ok w)(h:(bJ g r sv room A).ok w) :
  bz prog 205 [(ah gz),.int .i64 l,.int .i64 lo,.int .i64 hi] w fun v w'=>∃ a,v=.tuple #[.int .i64 (nz room A l lo hi).2.1,.int .i64 (nz room A l lo hi).2.2]∧(hi=0∧aT w w'∨hi≠0∧jU w w' (bJ g r sv room A) (bJ g r a room (nz room A l lo hi).1)):=by
 refine ar (N:=23) func205 KJ rfl rfl rfl (by simp) ?_;have H:=Hp.aC w;by_cases b:hi=0
 ·subst b;refine ag rfl ?_;exact ⟨sv,rfl,.inl ⟨rfl,H.keeps⟩⟩
 ·refine ae (beq_eq_false_iff_ne.2 b) ?_;refine aa (xe _) ?_;refine aB (u:=(ah g)) xf ((aQ j 0).trans rfl) ?_;refine aj (c212 l lo hi i c d f _ h) ?_;rintro _ m ⟨a,rfl,k⟩;have e:nz room A l lo hi=wk room A l lo hi:=if_neg b;rw[e];exact ⟨a,rfl,.inr ⟨b,k⟩⟩
end Go.Proofs.YtpjihhgjbbihkaaGreatDoor
namespace Go.Proofs.YtpjihhgjbbihkaaGreatDoor
open Go.Dk
set_option maxRecDepth 100000
def j2 (U:Nat→Bool)(l:Int):Nat:=(List.range 24).countP fun u=>U u&&decide (l≤(u:Int))
theorem kZ (U:Nat→Bool){l m:Int}(h:l≤m):j2 U m≤j2 U l:=by
 unfold j2;refine List.countP_mono_left fun u _ hu=>?_;rw[Bool.and_eq_true,decide_eq_true_eq] at hu ⊢;exact ⟨hu.1,by omega⟩
theorem ue {α:Type}{p q r:α→Bool}(h:∀ x,q x=true→r x=true→False)(b:∀ x,q x=true→p x=true)(c:∀ x,r x=true→p x=true) :
  ∀ l:List α,l.countP q+l.countP r≤l.countP p
 | []=>Nat.le_refl _
 | x::l=>by
  have d:=ue h b c l;rw[List.countP_cons,List.countP_cons,List.countP_cons]
  cases h1:q x with
  | true=>
   have a:r x=false:=by cases a:r x with | true=>exact (h x h1 a).elim | false=>rfl
   rw[a,b x h1];simp;omega
  | false=>
   cases a:r x with
   | true=>rw[c x a];simp;omega
   | false=>simp;omega
theorem uf (U:Nat→Bool){l:Nat}(c:l<24)(d:U l=true){m:Int}(h:(l:Int)<m):j2 U m+1≤j2 U (l:Int):=by
 have e:1≤(List.range 24).countP fun u=>decide (u=l):=by
  refine List.countP_pos_iff.2 ⟨l,List.mem_range.2 c,by simp⟩
 have:=ue (p:=fun u:Nat=>U u&&decide ((l:Int)≤(u:Int))) (q:=fun u:Nat=>U u&&decide (m≤(u:Int))) (r:=fun u:Nat=>decide (u=l))
  (fun x b a=>by simp at b a;subst a;omega) (fun x b=>by simp at b ⊢;exact ⟨b.1,by omega⟩) (fun x a=>by simp at a ⊢;subst a;exact ⟨d,Nat.le_refl _⟩) (List.range 24)
 unfold j2;omega
structure sA (U:Nat→Bool) (room:Int) (A:Ar):Prop where
 ok:uS room A
 full:bV A=A.length
 used:∀ i d,slot A i=some d→U d.l=true
structure o8 (U:Nat→Bool) (room:Int) (A A':Ar) (c:Nat) (e:Int):Prop where
 ext:Ext A A'
 arn:sA U room A'
 len:A'.length≤A.length+c
 err:e=0∨e=5∧room<(A.length:Int)+c
theorem o8.refl {U:Nat→Bool}{room:Int}{A:Ar}(h:sA U room A)(c:Nat):o8 U room A A c 0:=⟨Ext.refl A,h,Nat.le_add_right _ _,.inl rfl⟩
theorem o8.trans {U:Nat→Bool}{room:Int}{A B C:Ar}{c d:Nat}{e:Int}(h:o8 U room A B c 0)(k:o8 U room B C d e):o8 U room A C (c+d) e:=
 ⟨h.ext.trans k.ext,k.arn,by have:=h.len;have:=k.len;omega,k.err.imp id fun ⟨a,b⟩=>⟨a,by have:=h.len;omega⟩⟩
theorem o8.mono {U:Nat→Bool}{room:Int}{A B:Ar}{c d:Nat}{e:Int}(h:o8 U room A B c e)(a:c≤d):o8 U room A B d e:=
 ⟨h.ext,h.arn,by have:=h.len;omega,h.err.imp id fun ⟨b,f⟩=>⟨b,by omega⟩⟩
def At (A:Ar)(l:Int)(id:Int):Prop:=0≤l∧l≤aR A id
theorem At.ext {A B:Ar}{l id:Int}(h:At A l id)(he:Ext A B):At B l id:=⟨h.1,by rw[he.lvl (by have:=h.1;have:=h.2;omega)];exact h.2⟩
theorem At.mono {A:Ar}{l m id:Int}(h:At A l id)(a:0≤m)(hm:m≤l):At A m id:=⟨a,Int.le_trans hm h.2⟩
theorem At.end {A:Ar}{l id:Int}(h:id=0∨id=1)(a:0≤l)(b:l≤24):At A l id:=⟨a,by rw[kj h];exact b⟩
theorem y4 {U:Nat→Bool}{room:Int}{A:Ar}(h:sA U room A){l lo hi:Int}(c:0≤l)(g:l<24)(f:U l.toNat=true)(j:l<aR A lo)(k:l<aR A hi) :
  o8 U room A (wk room A l lo hi).1 1 (wk room A l lo hi).2.2∧((wk room A l lo hi).2.2=0→At (wk room A l lo hi).1 l (wk room A l lo hi).2.1):=by
 have a:=Mr h.ok l lo hi;have e0:((l.toNat:Nat):Int)=l:=Int.toNat_of_nonneg c;unfold wk at a ⊢;rw[if_neg (by omega)] at a ⊢
 cases hf:iS A ⟨l.toNat,lo.toNat,hi.toNat⟩ with
 | some i=>
  refine ⟨o8.refl h 1,fun _=>⟨c,?_⟩⟩;have hs:=kO hf;have:aR A (((i+2:Nat):Int))=l:=by
   have:=jt hs;rw[show ((i+2:Nat):Int)=(i:Int)+2 by omega,this];exact e0
  show l≤aR A (((i+2:Nat):Int));omega
 | none=>
  rw[hf] at a;simp only at a ⊢;by_cases e:room≤(lz A:Int)
  ·rw[if_pos e];refine ⟨⟨Ext.refl A,h,Nat.le_add_right _ _,.inr ⟨rfl,?_⟩⟩,fun h=>by cases h⟩;rw[C5 h.full] at e;omega
  ·rw[if_neg e] at a ⊢;refine ⟨⟨Hi,⟨a,E_ h.full,?_⟩,?_,.inl rfl⟩,fun _=>⟨c,?_⟩⟩
   ·intro i d b;rw[fO] at b;split at b
    ·injection b with b;subst b;exact f
    ·exact h.used i d b
   ·show (jj A _).length≤_;rw[nN];split <;> omega
   ·show l≤aR (jj A _) (((bV A+2:Nat):Int));have:slot (jj A ⟨l.toNat,lo.toNat,hi.toNat⟩) (bV A)=some ⟨l.toNat,lo.toNat,hi.toNat⟩:=by rw[fO,if_pos rfl]
    have:=jt this;rw[show ((bV A+2:Nat):Int)=(bV A:Int)+2 by omega,this];show l≤((l.toNat:Nat):Int);omega
theorem FD {U:Nat→Bool}{room:Int}{A:Ar}(h:sA U room A){l lo hi:Int}(a:0≤l)(b:l<24)(c:U l.toNat=true)(d:l<aR A lo)(e:l<aR A hi) :
  o8 U room A (nz room A l lo hi).1 1 (nz room A l lo hi).2.2∧((nz room A l lo hi).2.2=0→At (nz room A l lo hi).1 l (nz room A l lo hi).2.1):=by
 unfold nz;split
 ·exact ⟨o8.refl h 1,fun _=>⟨a,by show l≤aR A lo;omega⟩⟩
 ·exact y4 h a b c d e
theorem fV {A:Ar}(h:x9 A){id l:Int}(b:0≤l)(c:l<24)(hid:l≤aR A id):At A (l+1) (b5 A id l).1∧At A (l+1) (b5 A id l).2:=by
 rcases ju (A:=A) (id:=id) (by omega) with rfl | rfl | ⟨i,n,rfl,hs,d⟩
 ·exact ⟨At.end (.inl rfl) (by omega) (by omega),At.end (.inl rfl) (by omega) (by omega)⟩
 ·exact ⟨At.end (.inr rfl) (by omega) (by omega),At.end (.inl rfl) (by omega) (by omega)⟩
 ·have a:=h.lev i n hs;have e:b5 A ((i:Int)+2) l=if (n.l:Int)=l then ((n.lo:Int),(n.hi:Int)) else ((i:Int)+2,0):=by
   unfold b5;rw[if_pos (by omega),show ((i:Int)+2 - 2).toNat=i by omega,hs]
  rw[e];split
  ·exact ⟨⟨by omega,by show l+1≤aR A (n.lo:Int);omega⟩,⟨by omega,by show l+1≤aR A (n.hi:Int);omega⟩⟩
  ·exact ⟨⟨by omega,by show l+1≤aR A ((i:Int)+2);omega⟩,At.end (.inl rfl) (by omega) (by omega)⟩
theorem n_ {U:Nat→Bool}{room:Int}{A:Ar}(h:sA U room A){id:Int}(a:0≤aR A id)(b:id≠0)(c:id≠1):aR A id<24∧U (aR A id).toNat=true:=by
 rcases ju a with rfl | rfl | ⟨i,n,rfl,hs,d⟩
 ·exact (b rfl).elim
 ·exact (c rfl).elim
 ·rw[d];exact ⟨by have:=h.ok.inv.top i n hs;omega,by rw[Int.toNat_natCast];exact h.used i n hs⟩
theorem iu {room:Int}{A:Ar}(h:uS room A){l id:Int}(a:At A l id):0≤id∧id<20002:=by
 have b:0≤aR A id:=by have:=a.1;have:=a.2;omega
 have:=zX b;have:=iH b;have:=h.len;have:=h.room;omega
end Go.Proofs.YtpjihhgjbbihkaaGreatDoor
namespace Go.Dk
set_option maxRecDepth 100000
def HL (n:Nat)(x:Nat × Nat):Nat:=mkSet (fun p=>p &&&x.1==x.2) (2^n)
def KM (n:Nat):List (Nat × Nat):=(List.range (2^n)).flatMap fun m=>((List.range (2^n)).filter fun v=>v &&&m==v).map fun v=>(m,v)
def AL (n:Nat):List (Nat × List Nat):=(KM n).map fun x=>(HL n x,((List.range n).filter fun i=>x.1.testBit i).map fun i=>HL n (ua x i))
def NX (s:Nat)(t:Nat × List Nat):Bool:=(t.1 &&&s==t.1)&&t.2.all fun y=> !(y &&&s==y)
def AM (T:List (Nat × List Nat))(k:Nat):Bool:=(List.range k).all fun s=>decide ((T.filter (NX s)).length≤6)
theorem OF:AM (AL 0) 2=true:=by kernel_rfl
theorem OG:AM (AL 1) 4=true:=by kernel_rfl
theorem OH:AM (AL 2) 16=true:=by kernel_rfl
def MM:List (Nat × List Nat):=[(255,[]),(85,[255]),(170,[255]),(51,[255]),(204,[255]),(17,[51,85]),(34,[51,170]),(68,[204,85]),(136,[204,170]),(15,[255]),(240,[255]),(5,[15,85]),(10,[15,170]),(80,[240,85]),(160,[240,170]),(3,[15,51]),(12,[15,204]),(48,[240,51]),(192,[240,204]),(1,[3,5,17]),(2,[3,10,34]),(4,[12,5,68]),(8,[12,10,136]),(16,[48,80,17]),(32,[48,160,34]),(64,[192,80,68]),(128,[192,160,136])]
theorem HM:AL 3=MM:=by kernel_rfl
theorem MN:AM MM 256=true:=by kernel_rfl
theorem OI:AM (AL 3) 256=true:=by rw[HM];exact MN
theorem HN {n:Nat}(a:n≤3):AM (AL n) (2^2^n)=true:=by
 rcases (by omega:n=0∨n=1∨n=2∨n=3) with rfl | rfl | rfl | rfl
 ·exact OF
 ·exact OG
 ·exact OH
 ·exact OI
theorem y5 {a b:Nat}:a &&&b=a↔cu a b:=by
 constructor
 ·intro h p c;rw[← h,Nat.testBit_and,Bool.and_eq_true] at c;exact c.2
 ·intro h;refine Nat.eq_of_testBit_eq fun p=>?_;rw[Nat.testBit_and]
  cases c:a.testBit p with
  | false=>rfl
  | true=>rw[h p c];rfl
theorem FE {n:Nat}(a:n≤8)(x:Nat × Nat):HL n x=bc x.1 x.2 n:=by
 refine Nat.eq_of_testBit_eq fun p=>?_;unfold HL;rw[bZ,Bool.eq_iff_iff,bP a];simp
theorem KN {n s:Nat}(a:n≤8){x:Nat × Nat}(h:n9 n s x):NX s (HL n x,((List.range n).filter fun i=>x.1.testBit i).map fun i=>HL n (ua x i))=true:=by
 unfold NX;rw[Bool.and_eq_true,beq_iff_eq,List.all_eq_true];refine ⟨?_,fun y b=>?_⟩
 ·rw[y5];show cu (HL n x) s;rw[FE a];exact h.1.cT
 ·obtain ⟨i,hi,rfl⟩:=List.mem_map.1 b;rw[List.mem_filter,List.mem_range] at hi;rw[Bool.not_eq_true',beq_eq_false_iff_ne];intro e;rw[y5,FE a] at e;exact h.2 i hi.1 hi.2 ⟨nf h.1.lt i,ko,e⟩
theorem FF {n s:Nat}{x:Nat × Nat}(h:AB n s x):x ∈ KM n:=by
 refine List.mem_flatMap.2 ⟨x.1,List.mem_range.2 h.lt,List.mem_map.2 ⟨x.2,List.mem_filter.2 ⟨List.mem_range.2 (sub_lt h.lt h.sub),by rw[beq_iff_eq];exact h.sub⟩,rfl⟩⟩
theorem k9 {α β:Type}(f:α→β)(p:β→Bool):∀ l:List α,((l.map f).filter p).length=(l.filter fun a=>p (f a)).length
 | []=>rfl
 | a::l=>by
  rw[List.map_cons,List.filter_cons,List.filter_cons];split
  ·rw[List.length_cons,List.length_cons,k9 f p l]
  ·exact k9 f p l
def KO (n s:Nat):List (Nat × Nat):=(KM n).filter fun x=>NX s (HL n x,((List.range n).filter fun i=>x.1.testBit i).map fun i=>HL n (ua x i))
theorem FG {n s:Nat}(a:n≤8){x:Nat × Nat}(h:n9 n s x):x ∈ KO n s:=List.mem_filter.2 ⟨FF h.1,KN a h⟩
theorem ug {n s:Nat}(b:n≤3)(hs:cu s (bu n)):(KO n s).length≤6:=by
 have h:=HN b;unfold AM at h;rw[List.all_eq_true] at h;have a:s<2^2^n:=by
  refine Nat.lt_pow_two_of_testBit _ fun p c=>?_
  cases hb:s.testBit p with
  | false=>rfl
  | true=>
   have:=hs p hb;rw[gT (by omega),decide_eq_true_eq] at this;omega
 have:=h s (List.mem_range.2 a);rw[decide_eq_true_eq] at this;unfold AL at this;rw[k9] at this;exact this
theorem AN {S:er}(e:S.n≤3)(f:S.may.length≤2){R:List Rw}(g:R.Nodup)(h:∀ x ∈ R,dX S x):R.length≤18:=by
 have i:=kU (a:=R) (b:=[1,2,3].flatMap fun o=>(KO S.n (ir S o S.may.length)).map fun c=>(c.1,c.2,o)) g (fun x d=>by
  have d:=h x d;have j:=d.some;have k:x.2.2<4:=Nat.lt_of_lt_of_le d.few (show 2^S.may.length≤2^2 from Nat.pow_le_pow_right (by decide) f);refine List.mem_flatMap.2 ⟨x.2.2,?_,List.mem_map.2 ⟨(x.1,x.2.1),FG (by omega) d.cube,rfl⟩⟩;rcases (by omega:x.2.2=1∨x.2.2=2∨x.2.2=3) with h | h | h <;> rw[h] <;> simp)
 have j:=ug e (kX S 1 S.may.length);have k:=ug e (kX S 2 S.may.length);have l:=ug e (kX S 3 S.may.length);simp only[List.flatMap_cons,List.flatMap_nil,List.length_append,List.length_map,List.length_nil] at i;omega
end Go.Dk
namespace Go.Proofs.YtpjihhgjbbihkaaGreatDoor
open Go.Proofs.Tryz
open Go.Dk
set_option maxRecDepth 100000
attribute [local irreducible] IntKind.wrap
def nA (a b:Int):Array Value:=#[.int .i64 a,.int .i64 b]
def k2 (a b:Int):Value:=.agg (nA a b)
theorem FH:cW prog 247=some true:=by kernel_rfl
theorem xg:bF prog 247=some 2:=by kernel_rfl
theorem xh:eU prog 247=some (k2 0 0):=by kernel_rfl
theorem FI {a b c d:Int}:k2 a b=k2 c d↔a=c∧b=d:=by unfold k2 nA;simp
theorem Dy (a b c d:Int)(w:World):(Op.equal 247 (k2 a b) (k2 c d)).run prog w=.ok (a==c&&b==d) w:=by
 have f:∀ e,(Op.equalIn (e+2) 247 (k2 a b) (k2 c d)).run prog w=.ok (a==c&&b==d) w:=by
  intro e;unfold k2 nA;rw[Op.equalIn];have i0:=d_ underlying3 e a c;have i1:=d_ underlying3 e b d;have g:∀ (x y:Int) w,(Go.part 3 #[.int .i64 x,.int .i64 y] 0).run prog w=.ok (.int .i64 x) w:=fun x y w=>gI aE rfl w;have h:∀ (x y:Int) w,(Go.part 3 #[.int .i64 x,.int .i64 y] 1).run prog w=.ok (.int .i64 y) w:=fun x y w=>gI aE rfl w;generalize (a==c)=b0 at *;generalize (b==d)=b1 at *;simp only[Sem.run_bind,run_underlying underlying247,Result.andThen_ok,Go.Dk.run_sizeOf a_]
  cases b0 <;> cases b1 <;> simp[Std.Legacy.Range.forIn_eq_forIn_range',List.range',g,h,i0,i1,Std.Legacy.Range.size]
 exact f 9998
def MO (v:Value):Prop:=∃ a b,v=k2 a b
theorem FJ (a b:Int)(em:Bool)(w:World):(Instr.checkKey em 10000 247 (k2 a b)).run prog w=.ok () w:=by kernel_rfl
theorem vL (w:World)(a b:Int):∀ (es:List MapEntry) (i:Nat),(∀ e ∈ es,MO e.key)→
  ((Instr.findAsking 247 (k2 a b) es i).run prog w=.ok none w∧∀ e ∈ es,e.key≠k2 a b)∨∃ j e,(Instr.findAsking 247 (k2 a b) es i).run prog w=.ok (some (i+j,e.val)) w∧es[j]?=some e∧e.key=k2 a b
 | [],i,_=>.inl ⟨by simp[Instr.findAsking],by simp⟩
 | e::es,i,h=>by
  obtain ⟨g,k,he⟩:=h e (.head _);have f:=Dy a b g k w;by_cases l:a=g∧b=k
  ·obtain ⟨rfl,rfl⟩:=l;exact .inr ⟨0,e,by simp[Instr.findAsking,he,f],rfl,he⟩
  ·have p:(a==g&&b==k)=false:=by
    rw[Bool.eq_false_iff];intro c;simp at c;exact l c
   rw[p] at f;have m:e.key≠k2 a b:=fun c=>l (by rw[he,FI] at c;exact ⟨c.1.symm,c.2.symm⟩);rcases vL w a b es (i+1) (fun x d=>h x (.tail _ d)) with ⟨n,o⟩ | ⟨j,q,n,o,r⟩
   ·refine .inl ⟨by simp[Instr.findAsking,he,f,n],fun x d=>?_⟩;rcases List.mem_cons.1 d with rfl | d
    ·exact m
    ·exact o x d
   ·exact .inr ⟨j+1,q,by simp[Instr.findAsking,he,f,n];omega,by simpa using o,r⟩
theorem MP:KL prog 247 MO where
 check:=by rintro w em _ ⟨a,b,rfl⟩;exact FJ a b em w
 find:=by
  rintro w _ ⟨a,b,rfl⟩ es he
  cases es with
  | nil=>exact .inl ⟨by simp[Instr.findKey,run_underlying underlying247,Instr.findNow],by simp⟩
  | cons e es=>
   have c:∀ n t,Instr.findNow (.array n t) (k2 a b) (e::es) 0=none:=fun n t=>rfl;have:=vL w a b (e::es) 0 he;simp only[Nat.zero_add] at this;simp only[Instr.findKey,Sem.run_bind,run_underlying underlying247,Result.andThen_ok,c];exact this
 stays:=by
  rintro w _ ⟨a,b,rfl⟩;have:Instr.sameBits 10000 (k2 a b) (k2 a b)=true:=by
   show (_&&_)=true;simp[Instr.sameBits,nA]
  simp[Instr.keyThatStays,this]
abbrev I2:=Int × Int
def pJ (x:I2):Value:=k2 x.1 x.2
theorem HO (x y:I2)(h:pJ x=pJ y):x=y:=by
 obtain ⟨c,d⟩:=FI.1 h;obtain ⟨a,b⟩:=x;obtain ⟨e,f⟩:=y;simp only at c d;rw[c,d]
theorem OJ:lh prog 249 247 3 pJ (fun k:Int=>Value.int .i64 k) (.int .i64 0):=⟨underlying249,MP.mono fun _ ⟨x,h⟩=>⟨_,_,h⟩,HO,BL⟩
def e7 (A:Ar)(l:List (I2 × Int)):Prop:=∀ f g id,bU l (f,g)=some id→(0≤aR A f∧0≤aR A g)∧At A (min (aR A f) (aR A g)) id
theorem e7.nil (A:Ar):e7 A []:=fun f g id a=>by simp[bU] at a
theorem e7.ext {A b:Ar}{l:List (I2 × Int)}(a:Ext A b)(h:e7 A l):e7 b l:=fun f g id e=>by
 obtain ⟨⟨c,d⟩,i⟩:=h f g id e;rw[a.lvl c,a.lvl d];exact ⟨⟨c,d⟩,i.ext a⟩
theorem e7.put {A:Ar}{l:List (I2 × Int)}(h:e7 A l){f g id:Int}(c:0≤aR A f)(d:0≤aR A g)(e:At A (min (aR A f) (aR A g)) id):e7 A (ek l (f,g) id):=fun i j b a=>by
 rw[fy] at a;split at a
 ·rename_i he;injection he with k m;subst k;subst m;injection a with a;subst a;exact ⟨⟨c,d⟩,e⟩
 ·exact h i j b a
theorem HP {a b m:Int}{ty:TypeId}{c:Array Bool}{w:World}{kk:Value→World→Prop}(hm:min a b=m)(h:kk (.int .i64 m) w):bX prog .min #[3,3] ty c [.int .i64 a,.int .i64 b] w kk:=by
 unfold bX;refine ⟨_,w,?_,h⟩;show (do pure (.value (← Builtin.min_ #[3,3] ty #[.int .i64 a,.int .i64 b])):Sem Next).run prog w=_;simp[Builtin.min_,Builtin.min2];rw[← hm];omega
theorem oV (g:Nat)(w:World):(Instr.fieldAt 251 (ah g) 0).run prog w=.ok (ah g) w:=by kernel_rfl
theorem B_ (g:Nat)(w:World):(Instr.fieldAt 251 (ah g) 1).run prog w=.ok (.pointer (some ⟨g,1,none⟩)) w:=by kernel_rfl
theorem HQ (g:Nat)(w:World):(Instr.fieldAt 251 (ah g) 2).run prog w=.ok (.pointer (some ⟨g,2,none⟩)) w:=by kernel_rfl
theorem xi (g:Nat)(w:World):(Instr.fieldAt 251 (ah g) 3).run prog w=.ok (.pointer (some ⟨g,3,none⟩)) w:=by kernel_rfl
theorem FK:cW prog 244=some false:=by kernel_rfl
theorem KP:cW prog 245=some false:=by kernel_rfl
theorem AO:cW prog 249=some false:=by kernel_rfl
theorem ja:cW prog 165=some false:=by kernel_rfl
def qS (k:Int):Value:=.int .i64 k
theorem FL:lh prog 249 247 3 pJ qS (.int .i64 0):=OJ
theorem mG {a b:Int}{w:World}{kk:Value→World→Prop}(h:kk (k2 a b) w):b6 prog 247 [(0,.int .i64 a),(1,.int .i64 b)] w kk:=bx (fun w=>by kernel_rfl) h
def pK (n:Nat):Value:=.func (.func n) #[] #[]
def dR (g r rm:Nat)(sv:Value)(room:Int)(A:Ar)(D:List (I2 × Int)):cS:=sr [bJ g r sv room A,aP pJ qS rm D]
def dM (gz gd g fe hi rm:Nat):List cS:=[an gz 205 #[(ah g)],an gd 251 #[(ah gz),pK fe,pK hi,.map (some rm)]]
structure o9 (w:World) (gz gd g r rm fe hi:Nat) (sv:Value) (room:Int) (A:Ar) (D:List (I2 × Int)):Prop where
 head:∀ s ∈ dM gz gd g fe hi rm,s.ok w
 lt:∀ s ∈ dM gz gd g fe hi rm,∀ x,s.foot x→x<w.heap.size
 ok:(dR g r rm sv room A D).ok w
 dis:∀ s ∈ dM gz gd g fe hi rm,∀ x,s.foot x→¬ (dR g r rm sv room A D).foot x
section
variable {w0 w:World} {F:Nat→Prop} {L M:List cS} {gz gd g r rm fe hi:Nat} {sv:Value} {room:Int} {A:Ar} {D:List (I2 × Int)} {U:Nat→Bool}
theorem o9.start (h:o9 w gz gd g r rm fe hi sv room A D):Hp w (dR g r rm sv room A D).foot w [bJ g r sv room A,aP pJ qS rm D] (dM gz gd g fe hi rm):=
 (Hp.rW (M:=dM gz gd g fe hi rm) h.ok (fun x ⟨q,a,b⟩=>h.ok.2.1 q a x b) h.head h.lt h.dis).split
theorem qA (H:Hp w0 F w (dR g r rm sv room A D::L) (dM gz gd g fe hi rm)):o9 w gz gd g r rm fe hi sv room A D:=
 ⟨H.rok,H.rlt,H.get 0 rfl,fun s hs x b a=>H.rdis s hs _ (.head _) x b a⟩
theorem jb (H:Hp w0 F w (bJ g r sv room A::aP pJ qS rm D::L) M):Hp w0 F w (dR g r rm sv room A D::L) M:=
 Hp.join (Ls:=[bJ g r sv room A,aP pJ qS rm D]) H
def jc (w:World)(g r rm:Nat)(U:Nat→Bool)(room:Int)(sv:Value)(A:Ar)(D:List (I2 × Int))(l:Int)(c:Nat)(X:Int→Prop)(v:Value)(w':World):Prop:=
 ∃ a b d id e,v=.tuple #[.int .i64 id,.int .i64 e]∧(o8 U room A a c e∧(e=0→At a l id∧X id)∧e7 a d)∧jU w w' (dR g r rm sv room A D) (dR g r rm b room a d)
end
theorem KQ:enters prog 184=true:=by kernel_rfl
set_option maxHeartbeats 4000000 in
theorem rz {w:World}{gz gd g r rm fe hi:Nat}{sv:Value}{room:Int}{A:Ar}{D:List (I2 × Int)}{U:Nat→Bool}{f p l:Int}{id0:Int}{b0:Bool}{cl ch:Nat}{X:Int→Prop}(T:sA U room A)(hD:e7 A D)(hf:0≤aR A f)(hp:0≤aR A p)(hl:min (aR A f) (aR A p)=l)(hit:o9 w gz gd g r rm fe hi sv room A D)(he:∀ w,bz prog fe [.int .i64 f,.int .i64 p] w fun v w'=>v=.tuple #[.int .i64 id0,.bool b0]∧aT w w')(h1:b0=true→At A l id0∧X id0)(hX:b0=false→∀ id,X id)(V:b0=false→l<24∧U l.toNat=true)(i:b0=false→∀ c F,o9 F gz gd g r rm fe hi c room A D→bz prog 184 [(ah gd),.int .i64 (b5 A f l).1,.int .i64 (b5 A p l).1] F (jc F g r rm U room c A D (l+1) cl fun _=>True))(d:b0=false→∀ j t c F,o8 U room A j cl 0→e7 j t→o9 F gz gd g r rm fe hi c room j t→bz prog hi [(ah gd),k2 (b5 A f l).1 (b5 A f l).2,k2 (b5 A p l).1 (b5 A p l).2] F (jc F g r rm U room c j t (l+1) ch fun _=>True)) :
  bz prog 184 [(ah gd),.int .i64 f,.int .i64 p] w (jc w g r rm U room sv A D l (if b0 then 0 else cl+ch+1) X):=by
 have hfs:=iu T.ok ⟨Int.le_refl 0,hf⟩;have hps:=iu T.ok ⟨Int.le_refl 0,hp⟩;have K:0≤l:=by omega
 refine ar (N:=130) func184 KQ rfl rfl rfl (by simp) ?_;have H:=hit.start;refine aw (fun w'=>Hp w (dR g r rm sv room A D).foot w' [bJ g r sv room A,aP pJ qS rm D] (dM gz gd g fe hi rm)) ⟨(),trivial,H⟩ ?_;clear H;rintro ⟨⟩ u F H
 cases b0 with
 | true=>
  refine aa (B_ _) ?_;refine aB FK ((aQ (H.ro 1 rfl) 1).trans rfl) ?_;refine aj (he _) ?_;rintro _ w2 ⟨rfl,x⟩;refine ag rfl ?_;exact ⟨A,sv,D,id0,0,rfl,⟨o8.refl T _,fun _=>h1 rfl,hD⟩,(jb (H.same x)).bg⟩
 | false=>
 replace V:=V rfl;replace hX:=hX rfl;replace i:=i rfl;replace d:=d rfl;clear h1;refine aw (fun w'=>Hp w (dR g r rm sv room A D).foot w' [bJ g r sv room A,aP pJ qS rm D] (dM gz gd g fe hi rm)) ?_ ?_
 ·refine aa (B_ _) ?_;refine aB FK ((aQ (H.ro 1 rfl) 1).trans rfl) ?_;refine aj (he _) ?_;rintro _ w2 ⟨rfl,x⟩;refine ae rfl ?_;exact ⟨(),trivial,H.same x⟩
 clear H;rintro ⟨⟩ u w3 H
 cases hg:bU D (f,p) with
 | some id=>
  refine aa (xi _) ?_;refine aB AO ((aQ (H.ro 1 rfl) 3).trans rfl) ?_;refine mG ?_;refine lB (H.get 1 rfl) FL (f,p) (fun b Y=>?_) (fun Y=>absurd (hg.symm.trans Y) (by simp));refine ag rfl ?_;exact ⟨A,sv,D,b,0,rfl,⟨o8.refl T _,fun _=>⟨hl ▸ (hD f p b Y).2,hX b⟩,hD⟩,(jb H).bg⟩
 | none=>
  refine aw (fun w'=>Hp w (dR g r rm sv room A D).foot w' [bJ g r sv room A,aP pJ qS rm D] (dM gz gd g fe hi rm)) ?_ ?_
  ·refine aa (xi _) ?_;refine aB AO ((aQ (H.ro 1 rfl) 3).trans rfl) ?_;refine mG ?_;refine lB (H.get 1 rfl) FL (f,p) (fun b Y=>absurd (hg.symm.trans Y) (by simp)) (fun Y=>?_);refine ae rfl ?_;exact ⟨(),trivial,H⟩
  clear H;rintro ⟨⟩ u w4 H;refine ak (γ:=Unit) (fun _=>[(12,.int .i64 l)]) (fun _ w'=>Hp w (dR g r rm sv room A D).foot w' [bJ g r sv room A,aP pJ qS rm D] (dM gz gd g fe hi rm)) ?_ ?_
  ·refine H.draw eN (by kernel_rfl) ?_;clear H;intro w5 H;refine quiet _ (fun w H=>aa (oV _) af) ?_;refine quiet _ (fun w H=>aB ja ((aQ (H.ro 1 rfl) 0).trans rfl) af) ?_;refine aj (c203 f (by omega) _ (H.ro 0 rfl) (H.get 0 rfl)) ?_;rintro _ w6 ⟨rfl,x⟩;replace H:=H.same x;refine ⟨.inl H,?_⟩;refine quiet _ (fun w H=>aa (oV _) af) ?_;refine quiet _ (fun w H=>aB ja ((aQ (H.ro 1 rfl) 0).trans rfl) af) ?_;refine aj (c203 p (by omega) _ (H.ro 0 rfl) (H.get 0 rfl)) ?_;rintro _ w7 ⟨rfl,hk7⟩;replace H:=H.same hk7;refine ⟨.inl H,?_⟩;refine quiet _ (fun w H=>HP hl af) ?_;exact ⟨(),⟨rfl,trivial⟩,H⟩
  clear H;rintro ⟨⟩ u w5 H;refine ak (γ:=Nat × Nat) (fun (g1,g2)=>[(13,(ah g1)),(14,(ah g2))]) (fun (g1,g2) w'=>Hp w (dR g r rm sv room A D).foot w' [bJ g r sv room A,aP pJ qS rm D,an g1 247 (nA 0 0),an g2 247 (nA 0 0)] (dM gz gd g fe hi rm)) ?_ ?_
  ·refine H.alloc 247 (cs:=nA 0 0) xh rfl ?_;clear H;intro g1 w6 H;refine H.alloc 247 (cs:=nA 0 0) xh rfl ?_;clear H;intro g2 w7 H;exact ⟨(g1,g2),⟨rfl,rfl,trivial⟩,(((H.front 1 rfl).front 3 rfl).front 3 rfl)⟩
  clear H;rintro ⟨g1,g2⟩ u w6 H;have Z:=fV T.ok.inv K V.1 (show l≤aR A f by omega);have a2:=fV T.ok.inv K V.1 (show l≤aR A p by omega);generalize ea:b5 A f l=a at Z i d;generalize eb:b5 A p l=b at a2 i d;obtain ⟨a0,B⟩:=a;obtain ⟨b0,G⟩:=b;simp only at Z a2 i d;refine aw (fun w'=>Hp w (dR g r rm sv room A D).foot w' [bJ g r sv room A,aP pJ qS rm D,an g1 247 (nA a0 B),an g2 247 (nA 0 0)] (dM gz gd g fe hi rm)) ?_ ?_
  ·refine aa (oV _) ?_;refine aB ja ((aQ (H.ro 1 rfl) 0).trans rfl) ?_;have hc:=ML f l (by omega) _ (H.ro 0 rfl) (H.get 0 rfl);rw[ea] at hc;refine aj hc ?_;rintro _ w7 ⟨rfl,x⟩;replace H:=H.same x;refine aL underlying247 a_ 0 rfl (by omega) (o':=0) rfl ?_;refine H.store 2 rfl a_ (Nat.le_of_ble_eq_true rfl) rfl ?_;clear H;intro w8 H;refine aL underlying247 a_ 1 rfl (by omega) (o':=1) rfl ?_;refine H.store 2 rfl a_ (Nat.le_of_ble_eq_true rfl) rfl ?_;clear H;intro w9 H;exact ⟨(),trivial,H⟩
  clear H;rintro ⟨⟩ u w7 H;refine aw (fun w'=>Hp w (dR g r rm sv room A D).foot w' [bJ g r sv room A,aP pJ qS rm D,an g1 247 (nA a0 B),an g2 247 (nA b0 G)] (dM gz gd g fe hi rm)) ?_ ?_
  ·refine aa (oV _) ?_;refine aB ja ((aQ (H.ro 1 rfl) 0).trans rfl) ?_;have hc:=ML p l (by omega) _ (H.ro 0 rfl) (H.get 0 rfl);rw[eb] at hc;refine aj hc ?_;rintro _ w8 ⟨rfl,x⟩;replace H:=H.same x;refine aL underlying247 a_ 0 rfl (by omega) (o':=0) rfl ?_;refine H.store 3 rfl a_ (Nat.le_of_ble_eq_true rfl) rfl ?_;clear H;intro w9 H;refine aL underlying247 a_ 1 rfl (by omega) (o':=1) rfl ?_;refine H.store 3 rfl a_ (Nat.le_of_ble_eq_true rfl) rfl ?_;clear H;intro w10 H;exact ⟨(),trivial,H⟩
  clear H;rintro ⟨⟩ u w8 H;refine ak (γ:=Int × Int × Ar × Value × List (I2 × Int)) (fun (id,e,_)=>[(15,.int .i64 id),(16,.int .i64 e)]) (fun (id,e,j,c,t) w'=>(o8 U room A j cl e∧(e=0→At j (l+1) id)∧e7 j t)∧Hp w (dR g r rm sv room A D).foot w' [bJ g r c room j,aP pJ qS rm t,an g1 247 (nA a0 B),an g2 247 (nA b0 G)] (dM gz gd g fe hi rm)) ?_ ?_
  ·refine aL underlying247 a_ 0 rfl (by omega) (o':=0) rfl ?_;refine H.load 2 rfl aE rfl ?_;refine aL underlying247 a_ 0 rfl (by omega) (o':=0) rfl ?_;refine H.load 3 rfl aE rfl ?_;refine aj (i sv _ (qA (jb H))) ?_;rintro _ w9 ⟨j,c,t,id,e,rfl,M,O⟩;exact ⟨(id,e,j,c,t),⟨rfl,rfl,trivial⟩,⟨M.1,fun h=>(M.2.1 h).1,M.2.2⟩,((jb H).cg 0 rfl O).split⟩
  clear H;rintro ⟨lo,e,j,c,t⟩ u w9 ⟨⟨C,Q,hm1⟩,H⟩;refine aw (fun w'=>e=0∧Hp w (dR g r rm sv room A D).foot w' [bJ g r c room j,aP pJ qS rm t,an g1 247 (nA a0 B),an g2 247 (nA b0 G)] (dM gz gd g fe hi rm)) ?_ ?_
  ·refine dq (fun he=>?_) (fun he=>?_)
   ·exact ⟨j,c,t,0,e,rfl,⟨C.mono (by simp;omega),fun h=>absurd h he,hm1⟩,(jb H).bg⟩
   ·exact ⟨(),trivial,he,H⟩
  clear H;rintro ⟨⟩ u w10 ⟨rfl,H⟩;replace Q:=Q rfl;refine ak (γ:=Int × Int × Ar × Value × List (I2 × Int)) (fun (id,e,_)=>[(17,.int .i64 id),(16,.int .i64 e)]) (fun (id,e,k,m,z) w'=>(o8 U room j k ch e∧(e=0→At k (l+1) id)∧e7 k z)∧Hp w (dR g r rm sv room A D).foot w' [bJ g r m room k,aP pJ qS rm z,an g1 247 (nA a0 B),an g2 247 (nA b0 G)] (dM gz gd g fe hi rm)) ?_ ?_
  ·refine (jb H).fE [an g1 247 (nA a0 B),an g2 247 (nA b0 G)] (fun u h=>h.forget) eN (by kernel_rfl) ?_;clear H;intro w11 H;refine quiet _ (fun w H=>aa (HQ _) af) ?_;refine quiet _ (fun w H=>aB KP ((aQ (H.ro 1 rfl) 2).trans rfl) af) ?_;refine quiet _ (fun w H=>H.ai 0 rfl FH xg af) ?_;refine quiet _ (fun w H=>H.ai 1 rfl FH xg af) ?_;refine aj (d j t c _ C hm1 (qA H)) ?_;rintro _ w12 ⟨k,m,z,id,e,rfl,M,O⟩;replace H:=(H.cg 0 rfl O).split;refine ⟨.inl H.forget.forget,?_⟩;exact ⟨(id,e,k,m,z),⟨rfl,rfl,trivial⟩,⟨M.1,fun h=>(M.2.1 h).1,M.2.2⟩,H⟩
  clear H;rintro ⟨n,e,k,m,z⟩ u w11 ⟨⟨o,E,hm2⟩,H⟩;refine aw (fun w'=>e=0∧Hp w (dR g r rm sv room A D).foot w' [bJ g r m room k,aP pJ qS rm z,an g1 247 (nA a0 B),an g2 247 (nA b0 G)] (dM gz gd g fe hi rm)) ?_ ?_
  ·refine dq (fun he=>?_) (fun he=>?_)
   ·exact ⟨k,m,z,0,e,rfl,⟨(C.trans o).mono (by simp),fun h=>absurd h he,hm2⟩,(jb H).bg⟩
   ·exact ⟨(),trivial,he,H⟩
  clear H;rintro ⟨⟩ u w12 ⟨rfl,H⟩;replace E:=E rfl;have hd12:=C.trans o;have I:=Q.ext o.ext;have s1:=iu o.arn.ok I;have s2:=iu o.arn.ok E;have q:=FD (U:=U) o.arn K V.1 V.2 (lo:=lo) (hi:=n) (by have:=I.2;omega) (by have:=E.2;omega);refine ak (γ:=Value) (fun _=>[(18,.int .i64 (nz room k l lo n).2.1),(16,.int .i64 (nz room k l lo n).2.2)]) (fun s w'=>Hp w (dR g r rm sv room A D).foot w' [bJ g r s room (nz room k l lo n).1,aP pJ qS rm z,an g1 247 (nA a0 B),an g2 247 (nA b0 G)] (dM gz gd g fe hi rm)) ?_ ?_
  ·refine aa (oV _) ?_;refine aB ja ((aQ (H.ro 1 rfl) 0).trans rfl) ?_;refine aj (KK l lo n (by omega) (by omega) (by omega) o.arn.ok _ (H.ro 0 rfl) (H.get 0 rfl)) ?_;rintro _ w13 ⟨s,rfl,O⟩;rcases O with ⟨h0,x⟩ | ⟨_,O⟩
   ·refine ⟨m,⟨rfl,rfl,trivial⟩,?_⟩;have e:(nz room k l lo n).1=k:=by unfold nz;rw[if_pos h0]
    rw[e];exact H.same x
   ·exact ⟨s,⟨rfl,rfl,trivial⟩,H.cg 0 rfl O⟩
  clear H;rintro s u w13 H;generalize nz room k l lo n=N at q H;obtain ⟨A3,id,e⟩:=N;simp only at q H;obtain ⟨hd3,hid⟩:=q;have J:=hd12.trans hd3;have y:e7 A3 z:=hm2.ext hd3.ext;refine ak (γ:=List (I2 × Int)) (fun _=>[]) (fun D3 w'=>e7 A3 D3∧Hp w (dR g r rm sv room A D).foot w' [bJ g r s room A3,aP pJ qS rm D3,an g1 247 (nA a0 B),an g2 247 (nA b0 G)] (dM gz gd g fe hi rm)) ?_ ?_
  ·refine ck (fun he=>?_) (fun he=>?_)
   ·refine aa (xi _) ?_;refine aB AO ((aQ (H.ro 1 rfl) 3).trans rfl) ?_;refine mG ?_;have he:e=0:=he;have hx:=J.ext;have hid:=hid he;rw[← hl,← hx.lvl hf,← hx.lvl hp] at hid;refine H.iR 1 rfl FL (f,p) id fun w' H=>?_;exact ⟨_,trivial,y.put (by rw[hx.lvl hf];exact hf) (by rw[hx.lvl hp];exact hp) hid,H⟩
   ·exact ⟨z,trivial,y,H⟩
  clear H;rintro D3 u w14 ⟨S,H⟩;exact ⟨A3,s,D3,id,e,rfl,⟨J.mono (by simp),fun h=>⟨hid h,hX id⟩,S⟩,(jb H).bg⟩
def qB (f p:Int):Int × Bool:=if f=0∨f=p then (p,true) else (f,p==0)
def xj (f p:Int):Int × Bool:=if f=0∨f=p then (0,true) else (f,p==0)
def AP (f p:Int):Int × Bool:=if f=0∨p=0 then (0,true) else if f=1 then (p,true) else (f,p==1)
def HR (fe:Nat)(E:Int→Int→Int × Bool):Prop:=∀ (f p:Int) (w:World),bz prog fe [.int .i64 f,.int .i64 p] w fun v w'=>v=.tuple #[.int .i64 (E f p).1,.bool (E f p).2]∧aT w w'
theorem KR:enters prog 186=true:=by kernel_rfl
theorem MQ:HR 186 qB:=fun f p w=>by
 refine ar (N:=17) func186 KR rfl rfl rfl (by simp) ?_;have H:=Hp.aC w;unfold qB;by_cases a:f=0
 ·rw[if_pos (.inl a)]
  iterate 4 refine ag (beq_iff_eq.2 (by assumption)) ?_
  refine ag rfl ?_;exact ⟨rfl,H.keeps⟩
 ·by_cases b:f=p
  ·rw[if_pos (.inr b)]
   iterate 4 refine ae (beq_eq_false_iff_ne.2 (by assumption)) ?_
   refine ag (beq_iff_eq.2 (by assumption)) ?_;exact ⟨rfl,H.keeps⟩
  ·rw[if_neg (by omega)]
   iterate 5 refine ae (beq_eq_false_iff_ne.2 (by assumption)) ?_
   exact ⟨rfl,H.keeps⟩
theorem KS:enters prog 180=true:=by kernel_rfl
theorem OK:HR 180 xj:=fun f p w=>by
 refine ar (N:=16) func180 KS rfl rfl rfl (by simp) ?_;have H:=Hp.aC w;unfold xj;by_cases a:f=0
 ·rw[if_pos (.inl a)]
  iterate 4 refine ag (beq_iff_eq.2 (by assumption)) ?_
  refine ag rfl ?_;exact ⟨rfl,H.keeps⟩
 ·by_cases b:f=p
  ·rw[if_pos (.inr b)]
   iterate 4 refine ae (beq_eq_false_iff_ne.2 (by assumption)) ?_
   refine ag (beq_iff_eq.2 (by assumption)) ?_;exact ⟨rfl,H.keeps⟩
  ·rw[if_neg (by omega)]
   iterate 5 refine ae (beq_eq_false_iff_ne.2 (by assumption)) ?_
   exact ⟨rfl,H.keeps⟩
theorem KT:enters prog 182=true:=by kernel_rfl
theorem c182:HR 182 AP:=fun f p w=>by
 refine ar (N:=20) func182 KT rfl rfl rfl (by simp) ?_;have H:=Hp.aC w;unfold AP;by_cases b:f=0
 ·rw[if_pos (.inl b)]
  iterate 3 refine ag (beq_iff_eq.2 (by assumption)) ?_
  refine ag rfl ?_;exact ⟨rfl,H.keeps⟩
 ·by_cases c:p=0
  ·rw[if_pos (.inr c)]
   iterate 3 refine ae (beq_eq_false_iff_ne.2 (by assumption)) ?_
   refine ag (beq_iff_eq.2 (by assumption)) ?_;exact ⟨rfl,H.keeps⟩
  ·rw[if_neg (by omega)];by_cases a:f=1
   ·rw[if_pos a]
    iterate 4 refine ae (beq_eq_false_iff_ne.2 (by assumption)) ?_
    refine ag (beq_iff_eq.2 (by assumption)) ?_;exact ⟨rfl,H.keeps⟩
   ·rw[if_neg a]
    iterate 5 refine ae (beq_eq_false_iff_ne.2 (by assumption)) ?_
    exact ⟨rfl,H.keeps⟩
section
variable {w:World} {gz gd g r rm fe hi:Nat} {sv:Value} {room:Int} {A:Ar} {D:List (I2 × Int)} {U:Nat→Bool} {l m:Int} {c d:Nat} {X Y:Int→Prop}
theorem jc.mono {v:Value}{w':World}(h:jc w g r rm U room sv A D l c X v w')(a:0≤m)(hm:m≤l)(i:c≤d)(j:∀ id,X id→Y id):jc w g r rm U room sv A D m d Y v w':=by
 obtain ⟨k,b,n,id,e,rfl,⟨o,f,p⟩,q⟩:=h;exact ⟨k,b,n,id,e,rfl,⟨o.mono i,fun he=>⟨(f he).1.mono a hm,j _ (f he).2⟩,p⟩,q⟩
theorem o9.whole (h:o9 w gz gd g r rm fe hi sv room A D):Hp w (dR g r rm sv room A D).foot w [dR g r rm sv room A D] (dM gz gd g fe hi rm):=
 Hp.rW (M:=dM gz gd g fe hi rm) h.ok (fun x ⟨q,a,b⟩=>h.ok.2.1 q a x b) h.head h.lt h.dis
end
theorem KU:enters prog 181=true:=by kernel_rfl
theorem OL {w:World}{gz gd g r rm fe hi:Nat}{sv:Value}{room:Int}{A:Ar}{D:List (I2 × Int)}{U:Nat→Bool}{m:Int}{c:Nat}{X:Int→Prop}(a0 a b0 b:Int)(hit:o9 w gz gd g r rm fe hi sv room A D)(f:∀ d,o9 d gz gd g r rm fe hi sv room A D→bz prog 184 [(ah gd),.int .i64 a,.int .i64 b] d (jc d g r rm U room sv A D m c X)) :
  bz prog 181 [(ah gd),k2 a0 a,k2 b0 b] w (jc w g r rm U room sv A D m c X):=by
 refine ar (N:=16) func181 KU rfl rfl rfl (by simp) ?_;have H:=hit.whole;refine H.box 247 (k2 a0 a) (cs:=nA a0 a) rfl ?_;clear H;intro g1 d H;refine H.box 247 (k2 b0 b) (cs:=nA b0 b) rfl ?_;clear H;intro g2 n H;refine aL underlying247 a_ 1 rfl (by omega) (o':=1) rfl ?_;refine H.load 1 rfl aE rfl ?_;refine aL underlying247 a_ 1 rfl (by omega) (o':=1) rfl ?_;refine H.load 0 rfl aE rfl ?_;replace H:=H.front 2 rfl;refine aj (f _ (qA H)) ?_;rintro _ o ⟨i,h,j,id,e,rfl,k,l⟩;exact ⟨i,h,j,id,e,rfl,k,(H.cg 0 rfl l).bg⟩
theorem FM {a b:Nat}(h:a+1≤b):(2^a - 1)+(2^a - 1)+1≤2^b - 1:=by
 have c:=Nat.pow_le_pow_right (show 0<2 by decide) h;have:=Nat.one_le_two_pow (n:=a);rw[Nat.pow_succ] at c;omega
theorem qC {a b:Nat}(h:a≤b):2^a - 1≤2^b - 1:=by
 have c:=Nat.pow_le_pow_right (show 0<2 by decide) h;omega
theorem FN {U:Nat→Bool}{room:Int}{A:Ar}(h:sA U room A){f p:Int}(j:0≤aR A f)(e:0≤aR A p)(b:f≠0∧p≠0∧f≠p) :
  min (aR A f) (aR A p)<24∧U (min (aR A f) (aR A p)).toNat=true:=by
 by_cases g:f=1
 ·have a:=n_ h e b.2.1 (by omega);have c:=kj (A:=A) (.inr g);rw[show min (aR A f) (aR A p)=aR A p by omega];exact a
 ·have a:=n_ h j b.1 g;by_cases c:p=1
  ·have i:=kj (A:=A) (.inr c);rw[show min (aR A f) (aR A p)=aR A f by omega];exact a
  ·have i:=n_ h e b.2.1 c;rcases Int.le_total (aR A f) (aR A p) with d | d
   ·rw[Int.min_eq_left d];exact a
   ·rw[Int.min_eq_right d];exact i
theorem pL {gz gd g r rm fe:Nat}{room:Int}{U:Nat→Bool}{E:Int→Int→Int × Bool}(u:HR fe E)(x:∀ f p,(E f p).2=true→(E f p).1=f∨(E f p).1=p∨(E f p).1=0)(y:∀ f p,(E f p).2=false→f≠0∧p≠0∧f≠p):∀ (k:Nat) (f p l:Int) (A:Ar) (D:List (I2 × Int)) (sv:Value) (w:World),sA U room A→e7 A D→0≤aR A f→0≤aR A p→min (aR A f) (aR A p)=l→24<l+k→
  o9 w gz gd g r rm fe 181 sv room A D→bz prog 184 [(ah gd),.int .i64 f,.int .i64 p] w (jc w g r rm U room sv A D l (2^j2 U l - 1) fun _=>True)
 | 0,f,p,l,A,D,sv,w,hA,hD,hf,hp,hl,hk,hit=>by
  have:=p5 hA.ok.inv f;omega
 | k+1,f,p,l,A,D,sv,w,hA,hD,hf,hp,hl,hk,hit=>by
  have z:=pL (gz:=gz) (gd:=gd) (g:=g) (r:=r) (rm:=rm) (room:=room) (U:=U) u x y k;have a:0≤l:=by omega
  have j:l≤24:=by have:=p5 hA.ok.inv f;omega
  have b:(E f p).2=false→l<24∧U l.toNat=true:=fun b=>hl ▸ FN hA hf hp (y f p b);refine (rz (cl:=2^j2 U (l+1) - 1) (ch:=2^j2 U (l+1) - 1) (hi:=181) hA hD hf hp hl hit (fun w=>u f p w) (fun b=>⟨?_,trivial⟩) (fun _ _=>trivial) b (fun e i B c=>?_) (fun e C F i B o hm c=>?_)).mono fun v w' h=>h.mono a (Int.le_refl l) ?_ fun _ h=>h
  ·rcases x f p b with h | h | h <;> rw[h]
   ·exact ⟨a,by omega⟩
   ·exact ⟨a,by omega⟩
   ·exact At.end (.inl rfl) a j
  ·have d:=(b e).1;have q:=(fV hA.ok.inv a d (show l≤aR A f by omega)).1;have b:=(fV hA.ok.inv a d (show l≤aR A p by omega)).1;have s:=q.2;have t:=b.2;refine (z _ _ _ A D i B hA hD (by omega) (by omega) rfl (by omega) c).mono fun v w' h=>h.mono (by omega) (by omega) (qC (kZ U (by omega))) fun _ h=>h
  ·have d:=(b e).1;have q:=((fV hA.ok.inv a d (show l≤aR A f by omega)).2).ext o.ext;have b:=((fV hA.ok.inv a d (show l≤aR A p by omega)).2).ext o.ext;have s:=q.2;have t:=b.2;refine OL _ _ _ _ c fun G n=>?_;refine (z _ _ _ C F i G o.arn hm (by omega) (by omega) rfl (by omega) n).mono fun v w' h=>h.mono (by omega) (by omega) (qC (kZ U (by omega))) fun _ h=>h
  ·cases hbb:(E f p).2 with
   | true=>exact Nat.zero_le _
   | false=>
    obtain ⟨J,I⟩:=b hbb;have:=uf U (l:=l.toNat) (by omega) I (m:=l+1) (by omega);rw[Int.toNat_of_nonneg a] at this;exact FM this
theorem pM {xo yo:Operand}{w:World}{kk:Value→World→Prop}{g:Nat}(h:kk (.bool false) w):da prog .eql 165 xo yo (ah g) (.pointer none) w kk:=
 tc (fun w=>by kernel_rfl) h
structure Dz (w:World) (gz g r:Nat) (sv:Value) (room:Int) (A:Ar):Prop where
 z:(an gz 205 #[(ah g)]).ok w
 ok:(bJ g r sv room A).ok w
 dis:¬ (bJ g r sv room A).foot gz
section
variable {w0 w:World} {F:Nat→Prop} {L M:List cS} {gz gd g r rm fe hi:Nat} {sv:Value} {room:Int} {A:Ar} {D:List (I2 × Int)} {U:Nat→Bool} {l m:Int} {c d:Nat}
theorem Dz.start (h:Dz w gz g r sv room A):Hp w (bJ g r sv room A).foot w [bJ g r sv room A] [an gz 205 #[(ah g)]]:=
 Hp.rW (M:=[an gz 205 #[(ah g)]]) h.ok (fun x a=>rh h.ok x a) (by intro s hs;rw[List.mem_singleton] at hs;subst hs;exact h.z)
  (by intro s hs x a;rw[List.mem_singleton] at hs;subst hs;have a:x=gz:=a;subst a;exact jo h.z)
  (by intro s hs x a b;rw[List.mem_singleton] at hs;subst hs;have a:x=gz:=a;subst a;exact h.dis b)
theorem j5 (H:Hp w0 F w (bJ g r sv room A::L) (an gz 205 #[(ah g)]::M)):Dz w gz g r sv room A:=
 ⟨H.ro 0 rfl,H.get 0 rfl,fun h=>H.rdis _ (.head _) _ (.head _) gz rfl h⟩
def Ca (w:World)(g r:Nat)(U:Nat→Bool)(room:Int)(sv:Value)(A:Ar)(l:Int)(c:Nat)(X:Int→Prop)(v:Value)(w':World):Prop:=
 ∃ a b id e,v=.tuple #[.int .i64 id,.int .i64 e]∧(o8 U room A a c e∧(e=0→At a l id∧X id))∧jU w w' (bJ g r sv room A) (bJ g r b room a)
end
theorem KV:enters prog 201=true:=by kernel_rfl
theorem c201 {w:World}{gz g r:Nat}{sv:Value}{room:Int}{A:Ar}(ids:List Int)(hid:∀ id ∈ ids,0≤aR A id∧id<9223372036854775808)(B:Option Addr)(c:Nat)(n:ids.length≤1000000)(e:(an gz 205 #[(ah g)]).ok w)(h:(bJ g r sv room A).ok w)(hs:Sl w (.slice B ids.length c) 1 ids.length (aA ids)) :
  bz prog 201 [(ah gz),.slice B ids.length c] w fun v w'=>v=.bool true∧aT w w':=by
 refine ar (N:=20) func201 KV rfl rfl rfl (by simp) ?_;have H:=Hp.aC w;refine aw (fun w'=>Hp w ab w' [] []) ⟨(),trivial,H⟩ ?_;clear H;rintro ⟨⟩ u o H;refine aw (fun w'=>Hp w ab w' [] []) ?_ ?_
 ·refine pM ?_;refine ae rfl ?_;exact ⟨(),trivial,H⟩
 clear H;rintro ⟨⟩ u p H;refine aw (fun w'=>Hp w ab w' [] []) ?_ ?_
 ·refine ay underlying75 ?_;refine ax (γ:=Nat) (fun i=>[(11,.int .i64 (i:Int))]) (fun i w'=>i≤ids.length∧Hp w ab w' [] []) (fun i=>ids.length - i) 0 ⟨rfl,trivial⟩ ⟨Nat.zero_le _,H⟩ ?_;clear H;rintro i u f ⟨hi,H⟩;refine au (fun j=>?_) (fun j=>?_)
  ·have a:i<ids.length:=by omega
   obtain ⟨q,k,rfl⟩:=hs.A (by omega);obtain ⟨l,b⟩:=hid _ (List.getElem_mem a);refine aq underlying75 a_ i rfl a (o':=k+i) (by omega) ?_;refine aB aE (((hs.same H.keeps).cell i (by omega)).trans (by unfold aA;rw[List.getElem?_map,List.getElem?_eq_getElem a];rfl)) ?_;refine aj (c203 ids[i] b _ ((an gz 205 _).bS _ _ (fun g d=>by have d:g=gz:=d;subst d;exact H.keeps.old g (jo e) id) e) (iW h H.keeps)) ?_;rintro _ s ⟨rfl,m⟩;replace H:=H.same m;refine ae (decide_eq_false (by omega)) ?_;exact ⟨i+1,by show ids.length - (i+1)<ids.length - i;omega,⟨up (by omega),trivial⟩,by show i+1≤ids.length;omega,H⟩
  ·exact ⟨(),trivial,H⟩
 clear H;rintro ⟨⟩ u f H;exact ⟨rfl,H.keeps⟩
theorem FO {gz rm fe hi:Nat}{w:World}{kk:Value→World→Prop}(h:kk (.agg #[(ah gz),pK fe,pK hi,.map (some rm)]) w) :
  b6 prog 251 [(0,(ah gz)),(1,pK fe),(2,pK hi),(3,.map (some rm))] w kk:=bx (fun w=>by kernel_rfl) h
theorem uh {gd n:Nat}{w:World}{kk:Value→World→Prop}(h:kk (.func (.func n) #[(ah gd)] #[]) w):cD prog (.func n) [(ah gd)] [] w kk:=by
 unfold cD;exact ⟨_,w,by kernel_rfl,h⟩
theorem KW:enters prog 202=true:=by kernel_rfl
theorem OM (gz fe hi:Nat)(w:World):bz prog 202 [(ah gz),pK fe,pK hi] w fun v w'=>∃ gd rm,v=.func (.func 184) #[(ah gd)] #[]∧
  eW w w' (sr [aP pJ qS rm [],an gd 251 #[(ah gz),pK fe,pK hi,.map (some rm)]]):=by
 refine ar (N:=16) func202 KW rfl rfl rfl (by simp) ?_;have H:=Hp.aC w;refine H.makeMap pJ qS ?_;clear H;intro rm a H;refine FO ?_;refine H.box 251 _ (cs:=#[(ah gz),pK fe,pK hi,.map (some rm)]) rfl ?_;clear H;intro gd b H;refine uh ?_;exact ⟨gd,rm,rfl,(Hp.join (Ls:=[aP pJ qS rm [],an gd 251 #[(ah gz),pK fe,pK hi,.map (some rm)]]) (L:=[]) (H.front 1 rfl)).out⟩
theorem AQ {P:Program}{n:FuncId}{first args:List Value}{w:World}{k post:Value→World→Prop}(a:bz P n (first++args) w post)(h:∀ v w',post v w'→k v w'):jN P (.func (.func n) first.toArray #[]) args w k:=by
 unfold jN;simp only[List.append_nil];exact a.mono h
theorem KX:enters prog 179=true:=by kernel_rfl
theorem HS {w:World}{gz g r fe hi:Nat}{sv:Value}{room:Int}{A:Ar}{U:Nat→Bool}{f p l:Int}{c:Nat}{X:Int→Prop}(h:sA U room A)(i:0≤aR A f)(j:0≤aR A p)(k:Dz w gz g r sv room A)(b:∀ gd rm a,o9 a gz gd g r rm fe hi sv room A []→bz prog 184 [(ah gd),.int .i64 f,.int .i64 p] a (jc a g r rm U room sv A [] l c X)) :
  bz prog 179 [(ah gz),.int .i64 f,.int .i64 p,pK fe,pK hi] w (Ca w g r U room sv A l c X):=by
 have m:=iu h.ok ⟨Int.le_refl 0,i⟩;have o:=iu h.ok ⟨Int.le_refl 0,j⟩;refine ar (N:=27) func179 KX rfl rfl rfl (by simp) ?_;have H:=k.start;refine aw (fun w'=>Hp w (bJ g r sv room A).foot w' [bJ g r sv room A] [an gz 205 #[(ah g)]]) ⟨(),trivial,H⟩ ?_;clear H;rintro ⟨⟩ u a H;refine aw (fun w'=>Hp w (bJ g r sv room A).foot w' [bJ g r sv room A] [an gz 205 #[(ah g)]]) ?_ ?_
 ·refine H.bk dU (n:=2) (cs:=#[.int .i64 f,.int .i64 p]) (by decide) (by decide) (by kernel_rfl) ?_;clear H;intro gs q H;replace H:=H.pF (l:=2) (sz:=1) rfl (by decide);refine aj (c201 [f,p] (by intro id hid;simp at hid;rcases hid with rfl | rfl <;> exact ⟨by assumption,by omega⟩) _ _ (by simp) (H.ro 0 rfl) (H.get 1 rfl) (bB (H.get 0 rfl))) ?_;rintro _ t ⟨rfl,v⟩;replace H:=(H.same v).forget;refine ae rfl ?_;exact ⟨(),trivial,H⟩
 clear H;rintro ⟨⟩ u D H;refine aj (OM gz fe hi _) ?_;rintro _ q ⟨gd,rm,rfl,x⟩;replace H:=(H.bq x).split;replace H:=((((H.front 1 rfl).freeze).front 1 rfl).eD (M':=dM gz gd g fe hi rm) (by intro s hs;simp[dM] at hs ⊢;rcases hs with rfl | rfl <;> simp));replace H:=jb H;refine AQ (first:=[(ah gd)]) (b gd rm _ (qA H)) ?_;rintro _ t ⟨y,d,E,id,e,rfl,⟨z,B,_⟩,C⟩;exact ⟨y,d,id,e,rfl,⟨z,B⟩,((H.cg 0 rfl C).split).bg⟩
theorem DA (f p:Int)(h:(qB f p).2=true):(qB f p).1=f∨(qB f p).1=p∨(qB f p).1=0:=by
 unfold qB at h ⊢;split
 ·exact .inr (.inl rfl)
 ·exact .inl rfl
theorem DB (f p:Int)(h:(qB f p).2=false):f≠0∧p≠0∧f≠p:=by
 unfold qB at h;split at h
 ·cases h
 ·rw[beq_eq_false_iff_ne] at h;omega
theorem DC (f p:Int)(h:(xj f p).2=true):(xj f p).1=f∨(xj f p).1=p∨(xj f p).1=0:=by
 unfold xj at h ⊢;split
 ·exact .inr (.inr rfl)
 ·exact .inl rfl
theorem DD (f p:Int)(h:(xj f p).2=false):f≠0∧p≠0∧f≠p:=by
 unfold xj at h;split at h
 ·cases h
 ·rw[beq_eq_false_iff_ne] at h;omega
theorem KY:enters prog 150=true:=by kernel_rfl
theorem KZ {w:World}{gz g r:Nat}{sv:Value}{room:Int}{A:Ar}{U:Nat→Bool}{f p l:Int}(d:sA U room A)(a:0≤l)(t:l≤aR A f)(u:l≤aR A p)(q:Dz w gz g r sv room A) :
  bz prog 150 [(ah gz),.int .i64 f,.int .i64 p] w (Ca w g r U room sv A l (if f=0∨p=0 then 0 else 2^j2 U l - 1) fun id=>(f=0∨p=0)→id=if f=0 then p else f):=by
 refine ar (N:=14) func150 KY rfl rfl rfl (by simp) ?_;have x:=iu d.ok ⟨a,t⟩;have y:=iu d.ok ⟨a,u⟩;by_cases j:f=0∨p=0
 ·rw[if_pos j];have k:qB f p=(if f=0 then p else f,true):=by
   unfold qB;rcases j with rfl | rfl
   ·simp
   ·by_cases h:f=0
    ·subst h;simp
    ·rw[if_neg (by omega),if_neg h];rfl
  have i:(qB f p).2=true:=by rw[k]
  refine aj (HS (l:=l) (c:=0) (fe:=186) (hi:=181) (U:=U) (X:=fun id=>(f=0∨p=0)→id=if f=0 then p else f) d (by omega) (by omega) q fun gd rm s hit=>?_) (fun v w' h=>by
   obtain ⟨m,b,id,e,rfl,n,o⟩:=h;exact ⟨m,b,id,e,rfl,n,o⟩)
  refine (rz (cl:=0) (ch:=0) (id0:=(qB f p).1) (b0:=(qB f p).2) d (e7.nil A) (by omega) (by omega) rfl hit (fun w=>MQ f p w) (fun _=>⟨?_,fun _=>by rw[k]⟩) (fun h=>by rw[i] at h;cases h) (fun h=>by rw[i] at h;cases h) (fun h=>by rw[i] at h;cases h) (fun h=>by rw[i] at h;cases h)).mono fun v w' h=>h.mono a (by omega) (by rw[i];exact Nat.le_refl 0) fun _ h=>h;refine ⟨by omega,?_⟩;rw[k];show min (aR A f) (aR A p)≤aR A (if f=0 then p else f);split <;> omega
 ·rw[if_neg j];refine aj (HS (l:=l) (c:=2^j2 U l - 1) (fe:=186) (hi:=181) (U:=U) (X:=fun id=>(f=0∨p=0)→id=if f=0 then p else f) d (by omega) (by omega) q fun gd rm s hit=>?_) (fun v w' h=>by
   obtain ⟨m,b,id,e,rfl,n,o⟩:=h;exact ⟨m,b,id,e,rfl,n,o⟩)
  exact (pL MQ DA DB 25 f p _ A [] sv s d (e7.nil A) (by omega) (by omega) rfl (by omega) hit).mono fun v w' h=>h.mono a (by omega) (qC (kZ U (by omega))) fun _ _ h=>absurd h j
theorem K0:enters prog 147=true:=by kernel_rfl
theorem MR {w:World}{gz g r:Nat}{sv:Value}{room:Int}{A:Ar}{U:Nat→Bool}{f p l:Int}(d:sA U room A)(a:0≤l)(o:l≤aR A f)(q:l≤aR A p)(i:Dz w gz g r sv room A) :
  bz prog 147 [(ah gz),.int .i64 f,.int .i64 p] w (Ca w g r U room sv A l (2^j2 U l - 1) fun _=>True):=by
 refine ar (N:=14) func147 K0 rfl rfl rfl (by simp) ?_;refine aj (HS (l:=l) (c:=2^j2 U l - 1) (fe:=180) (hi:=181) (U:=U) (X:=fun _=>True) d (by omega) (by omega) i fun gd rm j hit=>?_) (fun v w' h=>by
  obtain ⟨k,b,id,e,rfl,m,n⟩:=h;exact ⟨k,b,id,e,rfl,m,n⟩)
 exact (pL OK DC DD 25 f p _ A [] sv j d (e7.nil A) (by omega) (by omega) rfl (by omega) hit).mono fun v w' h=>h.mono a (by omega) (qC (kZ U (by omega))) fun _ h=>h
def k6 (a b c d e f:Int):Value:=.agg #[.int .i64 a,.int .i64 b,.int .i64 c,.int .i64 d,.int .i64 e,.int .i64 f]
theorem FP {a b c d e f:Int}{w:World}{kk:Value→World→Prop}(h:kk (k6 a b c d e f) w):b6 prog 248 [(0,k2 a b),(1,k2 c d),(2,k2 e f)] w kk:=bx (fun w=>by kernel_rfl) h
def zy (a0 a b0 b:Int)(i:Nat):Int × Int:=if i=0 then (a,b0) else if i=1 then (a0,b) else (a,b)
theorem K1 {a0 a b0 b:Int}{i:Nat}(hi:i<3){w:World}{kk:Value→World→Prop}(h:kk (k2 (zy a0 a b0 b i).1 (zy a0 a b0 b i).2) w):sW prog 248 (k6 a b0 a0 b a b) (.int .i64 (i:Int)) w kk:=by
 unfold sW;refine ⟨_,w,?_,h⟩;rcases (by omega:i=0∨i=1∨i=2) with rfl | rfl | rfl <;> kernel_rfl
def I1 (z:Nat→Bool):Nat→Bool
 | 0=>true
 | i+1=>I1 z i&&z i
def zz (z:Nat→Bool)(c:Nat→Nat)(u:Nat):Nat→Nat
 | 0=>0
 | i+1=>zz z c u i+c i+if I1 z i||z i then 0 else u
theorem FQ (z:Nat→Bool)(c:Nat→Nat)(u:Nat){i j:Nat}(h:i≤j):zz z c u i≤zz z c u j:=by
 induction h with
 | refl=>exact Nat.le_refl _
 | step _ ih=>exact Nat.le_trans ih (by show _≤zz z c u _+_+_;omega)
theorem ON (z:Nat→Bool)(c:Nat→Nat)(u:Nat):zz z c u 3≤c 0+c 1+c 2+(if z 0||z 1 then 0 else u)+(if z 0&&z 1||z 2 then 0 else u):=by
 simp only[zz,I1,Bool.true_or,Bool.true_and,if_true];omega
theorem K2:enters prog 183=true:=by kernel_rfl
set_option maxHeartbeats 4000000 in
theorem c183 {w:World}{gz gd g r rm fe hi:Nat}{sv:Value}{room:Int}{A:Ar}{D:List (I2 × Int)}{U:Nat→Bool}{m:Int}{c:Nat→Nat}{z:Nat→Bool}(a0 B b0 C:Int)(hA:sA U room A)(hD:e7 A D)(M:0≤m)(hm:m≤24)(hit:o9 w gz gd g r rm fe hi sv room A D)(hdo:∀ i,i<3→∀ b d a O,Ext A b→sA U room b→e7 b d→o9 O gz gd g r rm fe hi a room b d→bz prog 184 [(ah gd),.int .i64 (zy a0 B b0 C i).1,.int .i64 (zy a0 B b0 C i).2] O (jc O g r rm U room a b d m (c i) fun id=>z i=true→id=0)) :
  bz prog 183 [(ah gd),k2 a0 B,k2 b0 C] w (jc w g r rm U room sv A D m (zz z c (2^j2 U m - 1) 3) fun _=>True):=by
 refine ar (N:=58) func183 K2 rfl rfl rfl (by simp) ?_;have H:=hit.whole;refine ak (γ:=Nat × Nat) (fun (g4,g5)=>[(4,(ah g4)),(5,(ah g5))]) (fun (g4,g5) w'=>Hp w (dR g r rm sv room A D).foot w' [an g4 247 (nA a0 B),an g5 247 (nA b0 C),dR g r rm sv room A D] (dM gz gd g fe hi rm)) ?_ ?_
 ·refine H.box 247 (k2 a0 B) (cs:=nA a0 B) rfl ?_;clear H;intro g1 O H;refine H.box 247 (k2 b0 C) (cs:=nA b0 C) rfl ?_;clear H;intro g2 w2 H;exact ⟨(g1,g2),⟨rfl,rfl,trivial⟩,H.front 1 rfl⟩
 clear H;rintro ⟨g4,g5⟩ u O H;refine ak (γ:=Unit) (fun _=>[(8,.int .i64 0)]) (fun _ w'=>Hp w (dR g r rm sv room A D).foot w' [an g4 247 (nA a0 B),an g5 247 (nA b0 C),dR g r rm sv room A D] (dM gz gd g fe hi rm)) ⟨(),⟨rfl,trivial⟩,H⟩ ?_;clear H;rintro ⟨⟩ u w2 H;refine ak (γ:=Int × Ar × Value × List (I2 × Int)) (fun (out,_)=>[(8,.int .i64 out)]) (fun (out,b,a,d) w'=>(o8 U room A b (zz z c (2^j2 U m - 1) 3) 0∧At b m out∧e7 b d)∧Hp w (dR g r rm sv room A D).foot w' [bJ g r a room b,aP pJ qS rm d] (dM gz gd g fe hi rm)) ?_ ?_
 ·refine aL underlying247 a_ 1 rfl (by omega) (o':=1) rfl ?_;refine H.load 0 rfl aE rfl ?_;refine aL underlying247 a_ 0 rfl (by omega) (o':=0) rfl ?_;refine H.load 1 rfl aE rfl ?_;refine mG ?_;refine aL underlying247 a_ 0 rfl (by omega) (o':=0) rfl ?_;refine H.load 0 rfl aE rfl ?_;refine aL underlying247 a_ 1 rfl (by omega) (o':=1) rfl ?_;refine H.load 1 rfl aE rfl ?_;refine mG ?_;refine aL underlying247 a_ 1 rfl (by omega) (o':=1) rfl ?_;refine H.load 0 rfl aE rfl ?_;refine aL underlying247 a_ 1 rfl (by omega) (o':=1) rfl ?_;refine H.load 1 rfl aE rfl ?_;refine mG ?_;refine FP ?_;replace H:=H.forget.forget.split;refine ax (γ:=Nat × Int × Ar × Value × List (I2 × Int)) (fun (i,out,_)=>[(29,.int .i64 (i:Int)),(8,.int .i64 out)]) (fun (i,out,b,a,d) w'=>(i≤3∧o8 U room A b (zz z c (2^j2 U m - 1) i) 0∧At b m out∧e7 b d∧(I1 z i=true→out=0))∧Hp w (dR g r rm sv room A D).foot w' [bJ g r a room b,aP pJ qS rm d] (dM gz gd g fe hi rm)) (fun (i,_)=>3 - i) (0,0,A,sv,D) ⟨rfl,rfl,trivial⟩ ⟨⟨by decide,o8.refl hA _,At.end (.inl rfl) M hm,hD,fun _=>rfl⟩,H⟩ ?_;clear H;rintro ⟨i,out,b,a,d⟩ u w3 ⟨⟨hi3,o,n,E,Q⟩,H⟩;refine au (fun h7=>?_) (fun h7=>?_)
  ·have S:i<3:=by omega
   refine ak (γ:=Int × Ar × Value × List (I2 × Int)) (fun (out,_)=>[(8,.int .i64 out)]) (fun (out,b,a,d) w'=>(o8 U room A b (zz z c (2^j2 U m - 1) (i+1)) 0∧At b m out∧e7 b d∧(I1 z (i+1)=true→out=0))∧Hp w (dR g r rm sv room A D).foot w' [bJ g r a room b,aP pJ qS rm d] (dM gz gd g fe hi rm)) ?_ ?_
   ·refine ak (γ:=Nat) (fun g10=>[(10,(ah g10))]) (fun g10 w'=>Hp w (dR g r rm sv room A D).foot w' [an g10 247 (nA (zy a0 B b0 C i).1 (zy a0 B b0 C i).2),bJ g r a room b,aP pJ qS rm d] (dM gz gd g fe hi rm)) ?_ ?_
    ·refine K1 S ?_;refine H.alloc 247 (cs:=nA 0 0) xh rfl ?_;clear H;intro g10 w4 H;refine H.storeAll 0 rfl xg rfl (by intro v hv;simp[nA] at hv;rcases hv with rfl | rfl <;> rfl) ?_;clear H;intro w5 H;exact ⟨g10,⟨rfl,trivial⟩,H⟩
    clear H;rintro g10 u w4 H;refine ak (γ:=Int × Int × Ar × Value × List (I2 × Int)) (fun (id,e,_)=>[(11,.int .i64 id),(12,.int .i64 e)]) (fun (id,e,F,q,t) w'=>(o8 U room b F (c i) e∧(e=0→At F m id∧(z i=true→id=0))∧e7 F t)∧Hp w (dR g r rm sv room A D).foot w' [bJ g r q room F,aP pJ qS rm t] (dM gz gd g fe hi rm)) ?_ ?_
    ·refine aL underlying247 a_ 0 rfl (by omega) (o':=0) rfl ?_;refine H.load 0 rfl aE rfl ?_;refine aL underlying247 a_ 1 rfl (by omega) (o':=1) rfl ?_;refine H.load 0 rfl aE rfl ?_;refine aj (hdo i S b d a _ o.ext o.arn E (qA (jb H.forget))) ?_;rintro _ w5 ⟨F,q,t,id,e,rfl,hd,ht⟩;exact ⟨(id,e,F,q,t),⟨rfl,rfl,trivial⟩,hd,((jb H.forget).cg 0 rfl ht).split⟩
    clear H;rintro ⟨id,e,F,q,t⟩ u w5 ⟨⟨J,hid,T⟩,H⟩;have G:=o.trans J;have K:=n.ext J.ext;have hcs:zz z c (2^j2 U m - 1) i+c i≤zz z c (2^j2 U m - 1) (i+1):=by show _≤zz z c _ i+c i+_;omega
    have V:=FQ z c (2^j2 U m - 1) (show i+1≤3 by omega);by_cases he:e=0
    ·subst he;obtain ⟨hid,I⟩:=hid rfl;refine ak (γ:=Int × Int × Ar × Value) (fun (id,e,_)=>[(8,.int .i64 id),(12,.int .i64 e)]) (fun (s,e,x,j) w'=>(o8 U room A x (zz z c (2^j2 U m - 1) (i+1)) e∧(e=0→At x m s∧(I1 z (i+1)=true→s=0))∧e7 x t)∧Hp w (dR g r rm sv room A D).foot w' [bJ g r j room x,aP pJ qS rm t] (dM gz gd g fe hi rm)) ?_ ?_
     ·refine ag rfl ?_;refine aa (oV _) ?_;refine aB ja ((aQ (H.ro 1 rfl) 0).trans rfl) ?_;refine aj (KZ (U:=U) (l:=m) (f:=out) (p:=id) J.arn M K.2 hid.2 (j5 H)) ?_;rintro _ w6 ⟨x,j,s,e,rfl,⟨y,k⟩,ht⟩;refine ⟨(s,e,x,j),⟨rfl,rfl,trivial⟩,⟨(G.trans y).mono ?_,fun h=>⟨(k h).1,fun X=>?_⟩,T.ext y.ext⟩,H.cg 0 rfl ht⟩
      ·show _≤zz z c _ i+c i+_;by_cases h0:out=0∨id=0
       ·rw[if_pos h0];omega
       ·rw[if_neg h0];have:(I1 z i||z i)=false:=by
         rw[Bool.or_eq_false_iff];exact ⟨Bool.eq_false_iff.2 fun h=>h0 (.inl (Q h)),Bool.eq_false_iff.2 fun h=>h0 (.inr (I h))⟩
        rw[this];exact Nat.le_refl _
      ·have X:(I1 z i&&z i)=true:=X;rw[Bool.and_eq_true] at X;have h1:=Q X.1;have h2:=I X.2;have:=(k h).2 (.inl h1);rw[if_pos h1,h2] at this;exact this
     clear H;rintro ⟨s,e,x,j⟩ u w6 ⟨⟨y,k,Y⟩,H⟩;refine dq (fun he=>?_) (fun he=>?_)
     ·exact ⟨x,j,t,0,e,rfl,⟨y.mono V,fun h=>absurd h he,Y⟩,(jb H).bg⟩
     ·have he:e=0:=he;subst he;exact ⟨(s,x,j,t),⟨rfl,trivial⟩,⟨y,(k rfl).1,Y,(k rfl).2⟩,H⟩
    ·refine ak (γ:=Unit) (fun _=>[(8,.int .i64 out),(12,.int .i64 e)]) (fun _ w'=>Hp w (dR g r rm sv room A D).foot w' [bJ g r q room F,aP pJ qS rm t] (dM gz gd g fe hi rm)) ?_ ?_
     ·refine ae (beq_eq_false_iff_ne.2 he) ?_;exact ⟨(),⟨rfl,rfl,trivial⟩,H⟩
     clear H;rintro ⟨⟩ u w6 H;refine dq (fun he=>?_) (fun he'=>absurd he' he);exact ⟨F,q,t,0,e,rfl,⟨G.mono (Nat.le_trans hcs V),fun h=>absurd h he,T⟩,(jb H).bg⟩
   clear H;rintro ⟨Z,x,j,D3⟩ u w4 ⟨hh,H⟩;exact ⟨(i+1,Z,x,j,D3),by show 3 - (i+1)<3 - i;omega,⟨up (by omega),rfl,trivial⟩,⟨by show i+1≤3;omega,hh⟩,H⟩
  ·have:i=3:=by omega
   subst this;exact ⟨(out,b,a,d),⟨rfl,trivial⟩,⟨o,n,E⟩,H⟩
 clear H;rintro ⟨out,b,a,d⟩ u w3 ⟨⟨o,n,E⟩,H⟩;exact ⟨b,a,d,out,0,rfl,⟨o,fun _=>⟨n,trivial⟩,E⟩,(jb H).bg⟩
inductive Sg (A:Ar):Int→Prop
 | one:Sg A 1
 | nd {i:Nat} {n:Nd} (hs:slot A i=some n) (h0:n.lo=0) (h1:Sg A n.hi):Sg A ((i:Int)+2)
theorem Sg.ext {A a:Ar}(b:Ext A a){p:Int}(h:Sg A p):Sg a p:=by
 induction h with
 | one=>exact .one
 | nd hs h0 _ ih=>exact .nd (b _ _ hs) h0 ih
def Jc:Nat→Nat
 | 0=>0
 | r+1=>2*Jc r+2^r
theorem xk {a b:Nat}(h:a≤b):Jc a≤Jc b:=by
 induction h with
 | refl=>exact Nat.le_refl _
 | step _ ih=>exact Nat.le_trans ih (Nat.le_trans (show _≤2*Jc _ by omega) (Nat.le_add_right _ _))
theorem HT {a b:Nat}(h:a+1≤b):Jc a+Jc a+(2^a - 1)+1≤Jc b:=by
 have c:=xk h;have d:=Nat.one_le_two_pow (n:=a);have e:Jc (a+1)=2*Jc a+2^a:=rfl;omega
def cJ (U:Nat→Bool)(l:Int)(x y:Int):Nat:=if x=0∨y=0∨x=1∨y=1 then 0 else Jc (j2 U l)
theorem MS (U:Nat→Bool)(l:Int)(x y:Int):cJ U l x y≤Jc (j2 U l):=by unfold cJ;split <;> omega
theorem vM (U:Nat→Bool)(l:Int)(x:Int):cJ U l x 0=0:=if_pos (.inr (.inl rfl))
theorem MT (U:Nat→Bool)(l:Int)(y:Int):cJ U l 0 y=0:=if_pos (.inl rfl)
theorem nh {A:Ar}{i:Nat}{n:Nd}(hs:slot A i=some n)(l:Int):b5 A ((i:Int)+2) l=if (n.l:Int)=l then ((n.lo:Int),(n.hi:Int)) else ((i:Int)+2,0):=by
 unfold b5;rw[if_pos (by omega),show ((i:Int)+2 - 2).toNat=i by omega,hs]
def CJ (U:Nat→Bool)(A:Ar)(f p l:Int)(c:Nat):Prop:=(f=0∨p=0∨f=1∨p=1)∨(aR A p<aR A f∧(b5 A p l).2=1∧1≤c)∨Jc (j2 U l)≤c
theorem vN {gz gd g r rm:Nat}{room:Int}{U:Nat→Bool}:∀ (k:Nat) (f p l:Int) (A:Ar) (D:List (I2 × Int)) (sv:Value) (w:World) (c:Nat),sA U room A→e7 A D→0≤aR A f→0≤aR A p→(p=0∨Sg A p)→min (aR A f) (aR A p)=l→24<l+k→
  CJ U A f p l c→o9 w gz gd g r rm 182 183 sv room A D→bz prog 184 [(ah gd),.int .i64 f,.int .i64 p] w (jc w g r rm U room sv A D l c fun id=>(f=0∨p=0)→id=0)
 | 0,f,p,l,A,D,sv,w,c,hA,hD,hf,hp,hs,hl,hk,hc,hit=>by
  have:=p5 hA.ok.inv f;omega
 | k+1,f,p,l,A,D,sv,w,c,hA,hD,hf,hp,hs,hl,hk,hc,hit=>by
  have e:0≤l:=by omega
  have Y:l≤24:=by have:=p5 hA.ok.inv f;omega
  have IH:∀ (x y:Int) (F:Ar) (S:List (I2 × Int)) (s:Value) (J:World),sA U room F→e7 F S→l+1≤aR F x→l+1≤aR F y→(y=0∨Sg F y)→o9 J gz gd g r rm 182 183 s room F S→
    bz prog 184 [(ah gd),.int .i64 x,.int .i64 y] J (jc J g r rm U room s F S (l+1) (cJ U (l+1) x y) fun id=>(x=0∨y=0)→id=0):=by
   intro x y F S s J hA1 hm1 hx hy hsy o;refine (vN k x y _ F S s J (cJ U (l+1) x y) hA1 hm1 (by omega) (by omega) hsy rfl (by omega) ?_ o).mono fun v w' h=>h.mono (by omega) (by omega) (Nat.le_refl _) fun _ h=>h;unfold CJ cJ;by_cases h:x=0∨y=0∨x=1∨y=1
   ·exact .inl h
   ·rw[if_neg h];exact .inr (.inr (xk (kZ U (by omega))))
  have z:(AP f p).2=false→f≠0∧f≠1∧p≠0∧p≠1:=fun z=>by
   unfold AP at z;split at z
   ·cases z
   ·split at z
    ·cases z
    ·rw[beq_eq_false_iff_ne] at z;omega
  have G:(AP f p).2=false→l<24∧U l.toNat=true:=fun h=>by
   obtain ⟨I,T,h2,h3⟩:=z h;have u1:=n_ hA hf I T;have u2:=n_ hA hp h2 h3;rw[← hl];rcases Int.le_total (aR A f) (aR A p) with Z | Z
   ·rw[Int.min_eq_left Z];exact u1
   ·rw[Int.min_eq_right Z];exact u2
  have a2:(b5 A p l).1=0∨Sg A (b5 A p l).1:=by
   rcases hs with rfl | hs
   ·exact .inl rfl
   ·cases hs with
    | one=>exact .inr .one
    | nd hs I T=>
     rw[nh hs];split
     ·exact .inl (by rw[I];rfl)
     ·exact .inr (.nd hs I T)
  have a3:(b5 A p l).2=0∨Sg A (b5 A p l).2:=by
   rcases hs with rfl | hs
   ·exact .inl rfl
   ·cases hs with
    | one=>exact .inl rfl
    | nd hs I T=>
     rw[nh hs];split
     ·exact .inr T
     ·exact .inl rfl
  refine (rz (cl:=cJ U (l+1) (b5 A f l).1 (b5 A p l).1) (ch:=zz (fun i=>decide ((zy (b5 A f l).1 (b5 A f l).2 (b5 A p l).1 (b5 A p l).2 i).1=0∨(zy (b5 A f l).1 (b5 A f l).2 (b5 A p l).1 (b5 A p l).2 i).2=0)) (fun i=>cJ U (l+1) (zy (b5 A f l).1 (b5 A f l).2 (b5 A p l).1 (b5 A p l).2 i).1 (zy (b5 A f l).1 (b5 A f l).2 (b5 A p l).1 (b5 A p l).2 i).2) (2^j2 U (l+1) - 1) 3)
   (hi:=183) (X:=fun id=>(f=0∨p=0)→id=0) hA hD hf hp hl hit (fun w=>c182 f p w) (fun z=>?_) (fun B id h=>?_) G (fun B s J o=>?_) (fun B F S s J hd hm o=>?_)).mono fun v w' h=>h.mono e (Int.le_refl l) ?_ fun _ h=>h
  ·unfold AP at z ⊢;split
   ·exact ⟨At.end (.inl rfl) e Y,fun _=>rfl⟩
   ·rename_i I;split
    ·exact ⟨⟨e,by show l≤aR A p;omega⟩,fun h=>absurd h I⟩
    ·exact ⟨⟨e,by show l≤aR A f;omega⟩,fun h=>absurd h I⟩
  ·have:=z B;omega
  ·have C:=(G B).1;have V:=(fV hA.ok.inv e C (show l≤aR A f by omega)).1;have t:=(fV hA.ok.inv e C (show l≤aR A p by omega)).1;exact (IH _ _ A D s J hA hD V.2 t.2 a2 o).mono fun v w' h=>h.mono (by omega) (Int.le_refl _) (Nat.le_refl _) fun _ _=>trivial
  ·have C:=(G B).1;have V:=fV hA.ok.inv e C (show l≤aR A f by omega);have t:=fV hA.ok.inv e C (show l≤aR A p by omega);refine c183 _ _ _ _ hd.arn hm (by omega) (by omega) o fun i hi A2 D2 K w2 hx M N E=>?_;have b:=hd.ext.trans hx;have a0:=(V.1.ext b).2;have q:=(V.2.ext b).2;have b0:=(t.1.ext b).2;have b1:=(t.2.ext b).2;have s0:=a2.imp id (Sg.ext b);have s1:=a3.imp id (Sg.ext b);rcases (by omega:i=0∨i=1∨i=2) with rfl | rfl | rfl
   ·exact (IH _ _ A2 D2 K w2 M N q b0 s0 E).mono fun v w' h=>h.mono (by omega) (Int.le_refl _) (Nat.le_refl _) fun _ h hz=>h (of_decide_eq_true hz)
   ·exact (IH _ _ A2 D2 K w2 M N a0 b1 s1 E).mono fun v w' h=>h.mono (by omega) (Int.le_refl _) (Nat.le_refl _) fun _ h hz=>h (of_decide_eq_true hz)
   ·exact (IH _ _ A2 D2 K w2 M N q b1 s1 E).mono fun v w' h=>h.mono (by omega) (Int.le_refl _) (Nat.le_refl _) fun _ h hz=>h (of_decide_eq_true hz)
  ·cases t:(AP f p).2 with
   | true=>exact Nat.zero_le _
   | false=>
    obtain ⟨I,T,h2,h3⟩:=z t;obtain ⟨h4,Z⟩:=G t;have hrk:=uf U (l:=l.toNat) (by omega) Z (m:=l+1) (by omega);rw[Int.toNat_of_nonneg e] at hrk;have hj:=HT hrk;have hle:=fun x y=>MS U (l+1) x y;rcases hs with hs | hs
    ·exact absurd hs h2
    cases hs with
    | one=>exact absurd rfl h3
    | nd hs hlo hsgn=>
    rename_i i n;have hn:=jt hs;have hh:=nh hs l;rw[hlo] at hh;rw[hn] at hl;have u:((n.l:Int)<aR A f∧(b5 A ((i:Int)+2) l).2=1∧1≤c)∨Jc (j2 U l)≤c:=by
     rcases hc with h | ⟨h,h'⟩ | h
     ·omega
     ·rw[hn] at h;exact .inl ⟨h,h'⟩
     ·exact .inr h
    rw[if_neg (by decide)];refine Nat.le_trans (Nat.add_le_add_right (Nat.add_le_add_left (ON _ _ _) _) 1) ?_;by_cases hnl:(n.l:Int)=l
    ·rw[if_pos hnl] at hh;rw[hh] at u ⊢;have O:∀ a0 q:Int,zy a0 q ((0:Nat):Int) n.hi 0=(q,0):=fun _ _=>rfl;have Q:∀ a0 q:Int,zy a0 q ((0:Nat):Int) n.hi 1=(a0,(n.hi:Int)):=fun _ _=>rfl;have b:∀ a0 q:Int,zy a0 q ((0:Nat):Int) n.hi 2=(q,(n.hi:Int)):=fun _ _=>rfl;simp only[O,Q,b];by_cases hlf:aR A f=l
     ·have u:Jc (j2 U l)≤c:=u.elim (fun h=>by omega) id;have e1:=hle (b5 A f l).1 n.hi;have e2:=hle (b5 A f l).2 n.hi;have e3:=vM U (l+1) (b5 A f l).1;have e4:=vM U (l+1) (b5 A f l).2;rw[show (((0:Nat):Int))=0 from rfl,e3,e4];simp;split <;> omega
     ·have V:b5 A f l=(f,0):=by
       rcases ju hf with rfl | rfl | ⟨j,d,rfl,hs',hd⟩
       ·rfl
       ·rfl
       ·rw[nh hs',if_neg (by omega)]
      rw[V];have e3:=vM U (l+1) f;have e4:=vM U (l+1) 0;have e5:=MT U (l+1) n.hi;rw[show (((0:Nat):Int))=0 from rfl];simp only;rw[e3,e4,e5];rcases u with ⟨h6,h7,h8⟩ | h6
      ·have h7:(n.hi:Int)=1:=h7;rw[h7,show cJ U (l+1) f 1=0 from if_pos (.inr (.inr (.inr rfl)))];simp;exact h8
      ·have e1:=hle f n.hi;simp;omega
    ·rw[if_neg hnl] at hh;have u:Jc (j2 U l)≤c:=u.elim (fun h=>by omega) id;rw[hh];generalize b5 A f l=a;obtain ⟨a0,q⟩:=a;have O:zy a0 q ((i:Int)+2) 0 0=(q,(i:Int)+2):=rfl;have Q:zy a0 q ((i:Int)+2) 0 1=(a0,0):=rfl;have b:zy a0 q ((i:Int)+2) 0 2=(q,0):=rfl;simp only[O,Q,b];have e1:=hle a0 ((i:Int)+2);have e2:=hle q ((i:Int)+2);rw[vM,vM];simp;omega
theorem HU {room:Int}{A:Ar}{l lo hi:Nat}(b:(l:Int)<aR A lo)(c:(l:Int)<aR A hi)(he:(wk room A l lo hi).2.2=0):∃ i:Nat,(wk room A l lo hi).2.1=(i:Int)+2∧slot (wk room A l lo hi).1 i=some ⟨l,lo,hi⟩:=by
 unfold wk at he ⊢;rw[if_neg (by omega)] at he ⊢;simp only[Int.toNat_natCast] at he ⊢
 cases hf:iS A ⟨l,lo,hi⟩ with
 | some i=>exact ⟨i,by show ((i+2:Nat):Int)=_;omega,kO hf⟩
 | none=>
  rw[hf] at he;simp only at he ⊢;by_cases a:room≤(lz A:Int)
  ·rw[if_pos a] at he;cases he
  ·rw[if_neg a];exact ⟨bV A,by show ((bV A+2:Nat):Int)=_;omega,by show slot (jj A _) _=_;rw[fO,if_pos rfl]⟩
structure D0 (A:Ar) (m lv:Nat) (id:Int):Prop where
 sg:Sg A id
 lvl:(lv:Int)≤aR A id
 item:∀ k,lv≤k→(∀ j,lv≤j→j<24→m.testBit j=decide (j=k))→k<24→aR A id=(k:Int)∧(b5 A id k).2=1
 none:(∀ j,lv≤j→j<24→m.testBit j=false)→id=1
theorem D0.down {A:Ar}{m a:Nat}{id:Int}(h:D0 A m (a+1) id)(f:m.testBit a=false)(d:a<24):D0 A m a id:=
 ⟨h.sg,by have:=h.lvl;omega,fun k g c b=>h.item k (by
  rcases Nat.eq_or_lt_of_le g with rfl | h
  ·have:=c a (Nat.le_refl _) d;rw[f] at this;simp at this
  ·exact h) (fun j e=>c j (by omega)) b,fun c=>h.none fun j e=>c j (by omega)⟩
theorem D0.up {A c:Ar}{m a i:Nat}{hi:Int}(h:D0 A m (a+1) hi)(p:Ext A c)(f:m.testBit a=true)(hs:slot c i=some ⟨a,0,hi.toNat⟩)(b:a<24)(q:0≤hi):D0 c m a ((i:Int)+2):=by
 have n:=jt hs;have e:((hi.toNat:Nat):Int)=hi:=Int.toNat_of_nonneg q;refine ⟨.nd hs rfl (by show Sg c ((hi.toNat:Nat):Int);rw[e];exact h.sg.ext p),by rw[n];exact Int.le_refl _,fun k s d o=>?_,fun d=>by rw[d a (Nat.le_refl _) b] at f;cases f⟩;have g:a=k:=by
  have:=d a (Nat.le_refl _) b;rw[f] at this;exact of_decide_eq_true this.symm
 subst g;refine ⟨n,?_⟩;rw[nh hs,if_pos rfl];show ((hi.toNat:Nat):Int)=1;rw[e];exact h.none fun j r l=>by rw[d j (by omega) l];exact decide_eq_false (by omega)
theorem D0.ext {A e:Ar}{m f:Nat}{id:Int}(h:D0 A m f id)(b:Ext A e):D0 e m f id:=by
 have d:0≤aR A id:=by have:=h.lvl;omega
 refine ⟨h.sg.ext b,by rw[b.lvl d];exact h.lvl,fun k g j a=>?_,h.none⟩;obtain ⟨l,c⟩:=h.item k g j a;refine ⟨by rw[b.lvl d];exact l,?_⟩;rcases ju d with rfl | rfl | ⟨i,n,rfl,hs,_⟩
 ·exact c
 ·exact c
 ·rw[nh (b _ _ hs)];rw[nh hs] at c;exact c
def FR (w:World)(g r:Nat)(U:Nat→Bool)(room:Int)(sv:Value)(A:Ar)(L:List Int)(m d c:Nat)(v:Value)(w':World):Prop:=
 ∃ a b id e,v=.tuple #[.int .i64 id,.int .i64 e]∧(o8 U room A a c e∧(e=0→(L=[]→id=0)∧(L≠[]→D0 a m d id)))∧jU w w' (bJ g r sv room A) (bJ g r b room a)
def c_ (a:Nat)(b:Bool)(L:List Int):List Int:=L.filter fun x=>x.toNat.testBit a==b
theorem _root_.Go.Dk.Hp.sM {w0 w:World}{F:Nat→Prop}{L M:List cS}{e:TypeId}{sz n:Nat}{v:Value}{xs:List Value}{r:cS}(H:Hp w0 F w L M)(i j:Nat)(a:i<j)(hi:L[i]?=some (own e sz v n xs))(g:L[j]?=some r) :
  ∃ S,(sl S v sz n xs).ok w∧∀ x,S x→x<w.heap.size∧¬ r.foot x:=by
 obtain ⟨b,h⟩:=List.getElem?_eq_some_iff.1 hi;obtain ⟨c,k⟩:=List.getElem?_eq_some_iff.1 g;have d:=List.pairwise_iff_getElem.1 H.dis i j b c a;rw[h,k] at d;exact ⟨_,iQ (H.get i hi),fun x f=>⟨H.lt _ (List.mem_of_getElem? hi) x f,d x f⟩⟩
theorem Dz.AS {w:World}{gz g r:Nat}{sv:Value}{room:Int}{A:Ar}{S:Nat→Prop}{v:Value}{sz n:Nat}{xs:List Value}(h:Dz w gz g r sv room A)(hs:(sl S v sz n xs).ok w)(d:∀ x,S x→x<w.heap.size∧¬ (bJ g r sv room A).foot x) :
  Hp w (bJ g r sv room A).foot w [bJ g r sv room A] [an gz 205 #[(ah g)],sl S v sz n xs]:=
 Hp.rW (M:=[an gz 205 #[(ah g)],sl S v sz n xs]) h.ok (fun x b=>rh h.ok x b)
  (by
   intro s a;rcases List.mem_cons.1 a with rfl | a
   ·exact h.z
   ·rw[List.mem_singleton] at a;subst a;exact hs)
  (by
   intro s a x b;rcases List.mem_cons.1 a with rfl | a
   ·have b:x=gz:=b;subst b;exact jo h.z
   ·rw[List.mem_singleton] at a;subst a;exact (d x b).1)
  (by
   intro s a x b c;rcases List.mem_cons.1 a with rfl | a
   ·have b:x=gz:=b;subst b;exact h.dis c
   ·rw[List.mem_singleton] at a;subst a;exact (d x b).2 c)
theorem Cb (m a:Nat):((((m / 2^a) &&&1:Nat):Int)==1)=m.testBit a:=by
 rw[Nat.testBit_eq_decide_div_mod_eq,Nat.and_one_is_mod];generalize m / 2^a=q;rw[Bool.eq_iff_iff,beq_iff_eq,decide_eq_true_iff];omega
theorem FT:enters prog 185=true:=by kernel_rfl
set_option maxHeartbeats 4000000 in
theorem OO {gz g r:Nat}{room:Int}{U:Nat→Bool}{m:Nat}(hm:m<2^24)(hU:∀ j,j<24→m.testBit j=true→U j=true):∀ (k a:Nat) (L:List Int) (B:Option Addr) (d:Nat) (A:Ar) (sv:Value) (w:World) (S:Nat→Prop),a+k=24→(L=[]∨L=[(m:Int)])→sA U room A→Dz w gz g r sv room A→(sl S (.slice B L.length d) 1 L.length (aA L)).ok w→(∀ x,S x→x<w.heap.size∧¬ (bJ g r sv room A).foot x)→
  bz prog 185 [(ah gz),.slice B L.length d,.int .i64 (a:Int)] w (FR w g r U room sv A L m a (if L=[] then 0 else j2 U a)):=by
 intro k
 induction k with
 | zero=>
  intro a L B d A sv w S Y hL M hz hs Z;refine ar (N:=71) func185 FT rfl rfl rfl (by simp) ?_;have H:=hz.AS hs Z;rcases hL with rfl | rfl
  ·refine aw (fun w'=>Hp w (bJ g r sv room A).foot w' [bJ g r sv room A] [an gz 205 #[(ah g)],sl S (.slice B ([]:List Int).length d) 1 ([]:List Int).length (aA ([]:List Int))]) ⟨(),trivial,H⟩ ?_;clear H;rintro ⟨⟩ u w1 H;refine ay underlying75 ?_;refine ag rfl ?_;exact ⟨A,sv,0,0,rfl,⟨o8.refl M _,fun _=>⟨fun _=>rfl,fun h=>absurd rfl h⟩⟩,H.bg⟩
  ·refine aw (fun w'=>Hp w (bJ g r sv room A).foot w' [bJ g r sv room A] [an gz 205 #[(ah g)],sl S (.slice B [(m:Int)].length d) 1 [(m:Int)].length (aA [(m:Int)])]) ⟨(),trivial,H⟩ ?_;clear H;rintro ⟨⟩ u w1 H;refine ay underlying75 ?_;refine ae rfl ?_;refine ag (beq_iff_eq.2 (by omega)) ?_;exact ⟨A,sv,1,0,rfl,⟨o8.refl M _,fun _=>⟨fun h=>(by cases h),fun _=>⟨.one,by rw[kj (.inr rfl)];omega,fun k Y _ hk24=>by omega,fun _=>rfl⟩⟩⟩,H.bg⟩
 | succ k ih=>
  intro a L B d A sv w S Y hL M hz hs Z;refine ar (N:=71) func185 FT rfl rfl rfl (by simp) ?_;have H:=hz.AS hs Z;refine aw (fun w'=>Hp w (bJ g r sv room A).foot w' [bJ g r sv room A] [an gz 205 #[(ah g)],sl S (.slice B L.length d) 1 L.length (aA L)]) ⟨(),trivial,H⟩ ?_;clear H;rintro ⟨⟩ u w1 H;by_cases O:L=[]
  ·subst O;refine ay underlying75 ?_;refine ag rfl ?_;exact ⟨A,sv,0,0,rfl,⟨o8.refl M _,fun _=>⟨fun _=>rfl,fun h=>absurd rfl h⟩⟩,H.bg⟩
  obtain rfl:L=[(m:Int)]:=hL.resolve_left O;refine aw (fun w'=>Hp w (bJ g r sv room A).foot w' [bJ g r sv room A] [an gz 205 #[(ah g)],sl S (.slice B [(m:Int)].length d) 1 [(m:Int)].length (aA [(m:Int)])]) ?_ ?_
  ·refine ay underlying75 ?_;refine ae rfl ?_;refine ae (beq_eq_false_iff_ne.2 (by omega)) ?_;exact ⟨(),trivial,H⟩
  clear H;rintro ⟨⟩ u w2 H;refine ak (γ:=Unit) (fun _=>[(8,.slice none 0 0),(9,.slice none 0 0)]) (fun _ w'=>Hp w (bJ g r sv room A).foot w' [own 3 1 (.slice none 0 0) 0 [],own 3 1 (.slice none 0 0) 0 [],bJ g r sv room A] [an gz 205 #[(ah g)],sl S (.slice B [(m:Int)].length d) 1 [(m:Int)].length (aA [(m:Int)])]) ⟨(),⟨rfl,rfl,trivial⟩,(H.bC 3 1).bC 3 1⟩ ?_;clear H;rintro ⟨⟩ u w3 H;refine ak (γ:=Option Addr × Nat × Option Addr × Nat) (fun (n,d8,c,d9)=>[(8,.slice n (c_ a false [(m:Int)]).length d8),(9,.slice c (c_ a true [(m:Int)]).length d9)])
   (fun (n,d8,c,d9) w'=>Hp w (bJ g r sv room A).foot w' [own 3 1 (.slice n (c_ a false [(m:Int)]).length d8) (c_ a false [(m:Int)]).length (aA (c_ a false [(m:Int)])),own 3 1 (.slice c (c_ a true [(m:Int)]).length d9) (c_ a true [(m:Int)]).length (aA (c_ a true [(m:Int)])),bJ g r sv room A] [an gz 205 #[(ah g)],sl S (.slice B [(m:Int)].length d) 1 [(m:Int)].length (aA [(m:Int)])]) ?_ ?_
  ·refine ay underlying75 ?_;refine ax (γ:=Nat × Option Addr × Nat × Option Addr × Nat) (fun (i,n,d8,c,d9)=>[(24,.int .i64 (i:Int)),(8,.slice n (c_ a false ([(m:Int)].take i)).length d8),(9,.slice c (c_ a true ([(m:Int)].take i)).length d9)])
    (fun (i,n,d8,c,d9) w'=>i≤1∧Hp w (bJ g r sv room A).foot w' [own 3 1 (.slice n (c_ a false ([(m:Int)].take i)).length d8) (c_ a false ([(m:Int)].take i)).length (aA (c_ a false ([(m:Int)].take i))),own 3 1 (.slice c (c_ a true ([(m:Int)].take i)).length d9) (c_ a true ([(m:Int)].take i)).length (aA (c_ a true ([(m:Int)].take i))),bJ g r sv room A] [an gz 205 #[(ah g)],sl S (.slice B [(m:Int)].length d) 1 [(m:Int)].length (aA [(m:Int)])])
    (fun (i,_)=>1 - i) (0,none,0,none,0) ⟨rfl,rfl,rfl,trivial⟩ ⟨by decide,H⟩ ?_
   clear H;rintro ⟨i,n,d8,c,d9⟩ u w4 ⟨hi,H⟩;refine au (fun Q=>?_) (fun Q=>?_)
   ·have Q:(i:Int)<((1:Nat):Int):=Q;obtain rfl:i=0:=by omega
    refine ak (γ:=Option Addr × Nat × Option Addr × Nat) (fun (n,d8,c,d9)=>[(8,.slice n (c_ a false [(m:Int)]).length d8),(9,.slice c (c_ a true [(m:Int)]).length d9)])
     (fun (n,d8,c,d9) w'=>Hp w (bJ g r sv room A).foot w' [own 3 1 (.slice n (c_ a false [(m:Int)]).length d8) (c_ a false [(m:Int)]).length (aA (c_ a false [(m:Int)])),own 3 1 (.slice c (c_ a true [(m:Int)]).length d9) (c_ a true [(m:Int)]).length (aA (c_ a true [(m:Int)])),bJ g r sv room A] [an gz 205 #[(ah g)],sl S (.slice B [(m:Int)].length d) 1 [(m:Int)].length (aA [(m:Int)])]) ?_ ?_
    ·refine ak (γ:=Unit) (fun _=>[(11,.int .i64 (m:Int))]) (fun _ w'=>Hp w (bJ g r sv room A).foot w' [own 3 1 (.slice n 0 d8) 0 [],own 3 1 (.slice c 0 d9) 0 [],bJ g r sv room A] [an gz 205 #[(ah g)],sl S (.slice B [(m:Int)].length d) 1 [(m:Int)].length (aA [(m:Int)])]) ?_ ?_
     ·obtain ⟨gA,oA,rfl⟩:=(nL hs fun g hg=>(Z g hg).1).A (Nat.zero_lt_one);refine aq underlying75 a_ 0 rfl (Nat.zero_lt_one) (o':=oA) (by omega) ?_;refine H.En (i:=0) 1 rfl aE (by omega) rfl ?_;exact ⟨(),⟨rfl,trivial⟩,H⟩
     clear H;rintro ⟨⟩ u w5 H
     cases o:m.testBit a with
     | true=>
      have e0:c_ a false [(m:Int)]=[]:=by unfold c_;simp[o]
      have e1:c_ a true [(m:Int)]=[(m:Int)]:=by unfold c_;simp[o]
      rw[e0,e1];refine iG (by omega) ?_;refine iF (b:=1) ?_ (by decide) ?_
      ·exact Nat.lt_of_le_of_lt (Nat.div_le_self _ _) (by omega)
      refine ag ((Cb m a).trans o) ?_;refine H.aY dU rfl ?_;clear H;intro g20 w6 H;refine H.cr 1 dU rfl rfl (by omega) (by omega) ?_;clear H;intro C2 e2 w6 H;exact ⟨(n,d8,C2,e2),⟨rfl,rfl,trivial⟩,H⟩
     | false=>
      have e0:c_ a false [(m:Int)]=[(m:Int)]:=by unfold c_;simp[o]
      have e1:c_ a true [(m:Int)]=[]:=by unfold c_;simp[o]
      rw[e0,e1];refine iG (by omega) ?_;refine iF (b:=1) ?_ (by decide) ?_
      ·exact Nat.lt_of_le_of_lt (Nat.div_le_self _ _) (by omega)
      refine ae ((Cb m a).trans o) ?_;refine H.aY dU rfl ?_;clear H;intro g20 w6 H;refine H.cr 0 dU rfl rfl (by omega) (by omega) ?_;clear H;intro C2 e2 w6 H;exact ⟨(C2,e2,c,d9),⟨rfl,rfl,trivial⟩,H⟩
    clear H;rintro ⟨n,d8,c,d9⟩ u w5 H;exact ⟨(1,n,d8,c,d9),by show (1 - 1:Nat)<1 - 0;decide,⟨up (by omega),rfl,rfl,trivial⟩,by decide,H⟩
   ·have Q:¬ (i:Int)<((1:Nat):Int):=Q;obtain rfl:i=1:=by omega
    exact ⟨(n,d8,c,d9),⟨rfl,rfl,trivial⟩,H⟩
  clear H;rintro ⟨n,d8,c,d9⟩ u w4 H;have hw:(Value.int .i64 (IntKind.i64.wrap ((a:Int)+1)))=.int .i64 ((a+1:Nat):Int):=up (by omega);have hL8:c_ a false [(m:Int)]=[]∨c_ a false [(m:Int)]=[(m:Int)]:=by unfold c_;cases m.testBit a <;> simp
  have hL9:c_ a true [(m:Int)]=[]∨c_ a true [(m:Int)]=[(m:Int)]:=by unfold c_;cases m.testBit a <;> simp
  have I:(m.testBit a=true∧c_ a false [(m:Int)]=[]∧c_ a true [(m:Int)]=[(m:Int)])∨(m.testBit a=false∧c_ a false [(m:Int)]=[(m:Int)]∧c_ a true [(m:Int)]=[]):=by unfold c_;cases o:m.testBit a <;> simp[o]
  have p:a<24:=by omega
  have hrk:m.testBit a=true→j2 U (a+1:Nat)+1≤j2 U a:=fun o=>uf U p (hU a p o) (by omega);have hrm:j2 U (a+1:Nat)≤j2 U a:=kZ U (by omega);generalize c_ a false [(m:Int)]=L8 at *;generalize c_ a true [(m:Int)]=L9 at *;have y:(if L8=[] then 0 else j2 U (a+1:Nat))+(if L9=[] then 0 else j2 U (a+1:Nat))+(if L9=[] then 0 else 1)≤(if [(m:Int)]=[] then 0 else j2 U a):=by
   have f:[(m:Int)]≠[]:=by simp
   rcases I with ⟨o,rfl,rfl⟩ | ⟨o,rfl,rfl⟩
   ·have:=hrk o;rw[if_pos rfl,if_neg f,if_neg f,if_neg f];omega
   ·rw[if_pos rfl,if_pos rfl,if_neg f,if_neg f];omega
  refine ak (γ:=Int × Int × Ar × Value) (fun (id,e,_)=>[(12,.int .i64 id),(13,.int .i64 e)]) (fun (id,e,C,s) w'=>(o8 U room A C (if L8=[] then 0 else j2 U (a+1:Nat)) e∧(e=0→(L8=[]→id=0)∧(L8≠[]→D0 C m (a+1) id)))∧
   Hp w (bJ g r sv room A).foot w' [own 3 1 (.slice c L9.length d9) L9.length (aA L9),bJ g r s room C] [an gz 205 #[(ah g)],sl S (.slice B [(m:Int)].length d) 1 [(m:Int)].length (aA [(m:Int)])]) ?_ ?_
  ·obtain ⟨S8,h8,hS8⟩:=H.sM 0 2 (by decide) rfl rfl;have T:=ih (a+1) L8 n d8 A sv _ S8 (by omega) hL8 M (j5 (H.front 2 rfl)) h8 hS8;rw[← hw] at T;refine aj T ?_;rintro _ w5 ⟨C,s,id,e,rfl,hd,D⟩;exact ⟨(id,e,C,s),⟨rfl,rfl,trivial⟩,hd,(((H.front 2 rfl).cg 0 rfl D).front 1 rfl).forget.front 1 rfl⟩
  clear H;rintro ⟨lo,e,C,s⟩ u w5 ⟨⟨E,F⟩,H⟩;refine aw (fun w'=>e=0∧
   Hp w (bJ g r sv room A).foot w' [own 3 1 (.slice c L9.length d9) L9.length (aA L9),bJ g r s room C] [an gz 205 #[(ah g)],sl S (.slice B [(m:Int)].length d) 1 [(m:Int)].length (aA [(m:Int)])]) ?_ ?_
  ·refine dq (fun he=>?_) (fun he=>?_)
   ·exact ⟨C,s,0,e,rfl,⟨E.mono (by omega),fun h=>absurd h he⟩,(H.front 1 rfl).bg⟩
   ·exact ⟨(),trivial,he,H⟩
  clear H;rintro ⟨⟩ u w6 ⟨rfl,H⟩;replace F:=F rfl;refine ak (γ:=Int × Int × Ar × Value) (fun (id,e,_)=>[(14,.int .i64 id),(13,.int .i64 e)]) (fun (id,e,q,t) w'=>(o8 U room C q (if L9=[] then 0 else j2 U (a+1:Nat)) e∧(e=0→(L9=[]→id=0)∧(L9≠[]→D0 q m (a+1) id)))∧
   Hp w (bJ g r sv room A).foot w' [bJ g r t room q] [an gz 205 #[(ah g)],sl S (.slice B [(m:Int)].length d) 1 [(m:Int)].length (aA [(m:Int)])]) ?_ ?_
  ·obtain ⟨S9,h9,hS9⟩:=H.sM 0 1 (by decide) rfl rfl;have T:=ih (a+1) L9 c d9 C s _ S9 (by omega) hL9 E.arn (j5 (H.front 1 rfl)) h9 hS9;rw[← hw] at T;refine aj T ?_;rintro _ w7 ⟨q,t,id,e,rfl,hd,D⟩;exact ⟨(id,e,q,t),⟨rfl,rfl,trivial⟩,hd,(((H.front 1 rfl).cg 0 rfl D).front 1 rfl).forget⟩
  clear H;rintro ⟨hi,e,q,t⟩ u w7 ⟨⟨v,G⟩,H⟩;have z:=E.trans v;refine aw (fun w'=>e=0∧
   Hp w (bJ g r sv room A).foot w' [bJ g r t room q] [an gz 205 #[(ah g)],sl S (.slice B [(m:Int)].length d) 1 [(m:Int)].length (aA [(m:Int)])]) ?_ ?_
  ·refine dq (fun he=>?_) (fun he=>?_)
   ·exact ⟨q,t,0,e,rfl,⟨z.mono (by omega),fun h=>absurd h he⟩,H.bg⟩
   ·exact ⟨(),trivial,he,H⟩
  clear H;rintro ⟨⟩ u w8 ⟨rfl,H⟩;replace G:=G rfl;rcases I with ⟨o,rfl,rfl⟩ | ⟨o,rfl,rfl⟩
  ·obtain rfl:=F.1 rfl;have J:=G.2 (by simp);have f:hi≠0:=by
    intro h;have:=J.sg
    cases this with
    | one=>cases h
    | nd _ _ _=>omega
   have h0:0≤hi:=iH (A:=q) (by have:=J.lvl;omega);have hs':=iu v.arn.ok (l:=0) (id:=hi) ⟨by omega,by have:=J.lvl;omega⟩;obtain ⟨h,rfl⟩:∃ h:Nat,hi=(h:Int):=⟨hi.toNat,(Int.toNat_of_nonneg h0).symm⟩;have hlh:=J.lvl;have V:((a:Nat):Int)<aR q ((0:Nat):Int):=by have:=kj (A:=q) (id:=((0:Nat):Int)) (.inl rfl);omega
   have hn:nz room q (a:Int) 0 (h:Int)=wk room q (a:Int) ((0:Nat):Int) (h:Int):=if_neg f;have hm:=y4 (U:=U) v.arn (l:=(a:Int)) (lo:=((0:Nat):Int)) (hi:=(h:Int)) (by omega) (by omega) (by rw[Int.toNat_natCast];exact hU a p o) V (by omega);have K:=HU (room:=room) (A:=q) (l:=a) (lo:=0) (hi:=h) V (by omega);rw[← hn] at hm K;refine aj (KK (a:Int) 0 (h:Int) (by omega) (by omega) (by omega) v.arn.ok _ (H.ro 0 rfl) (H.get 0 rfl)) ?_;rintro _ w9 ⟨X,rfl,D⟩;rcases D with ⟨h0,_⟩ | ⟨_,D⟩
   ·exact absurd h0 f
   ·generalize nz room q (a:Int) 0 (h:Int)=N at hm K D;obtain ⟨A3,id,e⟩:=N;refine ⟨A3,X,id,e,rfl,⟨(z.trans hm.1).mono y,fun he=>⟨fun hh=>by simp at hh,fun _=>?_⟩⟩,(H.cg 0 rfl D).bg⟩;obtain ⟨i,hi,hs⟩:=K he;have hi:id=(i:Int)+2:=hi;rw[hi];exact J.up hm.1.ext o (by rw[Int.toNat_natCast];exact hs) p (by omega)
  ·obtain rfl:=G.1 rfl;have J:=F.2 (by simp);have hs':=iu E.arn.ok (l:=0) (id:=lo) ⟨by omega,by have:=J.lvl;omega⟩;refine aj (KK (a:Int) lo 0 (by omega) (by omega) (by omega) v.arn.ok _ (H.ro 0 rfl) (H.get 0 rfl)) ?_;rintro _ w9 ⟨X,rfl,D⟩;rcases D with ⟨_,Y⟩ | ⟨f,_⟩
   ·exact ⟨q,t,lo,0,rfl,⟨z.mono (by simp at y ⊢;omega),fun _=>⟨fun hh=>by simp at hh,fun _=>(J.down o p).ext v.ext⟩⟩,(H.same Y).bg⟩
   ·exact absurd rfl f
theorem K3:enters prog 149=true:=by kernel_rfl
theorem MU {gz g r:Nat}{room:Int}{U:Nat→Bool}{m:Nat}(hm:m<2^24)(k:∀ j,j<24→m.testBit j=true→U j=true)(B:Option Addr)(d:Nat)(A:Ar)(sv:Value)(w:World)(S:Nat→Prop)(l:sA U room A)(n:Dz w gz g r sv room A)(hs:(sl S (.slice B 1 d) 1 1 (aA [(m:Int)])).ok w)(c:∀ x,S x→x<w.heap.size∧¬ (bJ g r sv room A).foot x) :
  bz prog 149 [(ah gz),.slice B 1 d] w (FR w g r U room sv A [(m:Int)] m 0 (j2 U 0)):=by
 refine ar (N:=28) func149 K3 rfl rfl rfl (by simp) ?_;have H:=n.AS hs c;have o:m<16777216:=hm;refine aw (fun w'=>Hp w (bJ g r sv room A).foot w' [bJ g r sv room A] [an gz 205 #[(ah g)],sl S (.slice B 1 d) 1 1 (aA [(m:Int)])]) ⟨(),trivial,H⟩ ?_;clear H;rintro ⟨⟩ u z H;refine aw (fun w'=>Hp w (bJ g r sv room A).foot w' [bJ g r sv room A] [an gz 205 #[(ah g)],sl S (.slice B 1 d) 1 1 (aA [(m:Int)])]) ?_ ?_
 ·refine pM ?_;refine ae rfl ?_;exact ⟨(),trivial,H⟩
 clear H;rintro ⟨⟩ u C H;refine aw (fun w'=>Hp w (bJ g r sv room A).foot w' [bJ g r sv room A] [an gz 205 #[(ah g)],sl S (.slice B 1 d) 1 1 (aA [(m:Int)])]) ?_ ?_
 ·refine ay underlying75 ?_;refine ax (γ:=Nat) (fun i=>[(12,.int .i64 (i:Int))]) (fun i w'=>i≤1∧Hp w (bJ g r sv room A).foot w' [bJ g r sv room A] [an gz 205 #[(ah g)],sl S (.slice B 1 d) 1 1 (aA [(m:Int)])]) (fun i=>1 - i) 0 ⟨rfl,trivial⟩ ⟨by decide,H⟩ ?_;clear H;rintro i u p ⟨hi,H⟩;refine au (fun a=>?_) (fun a=>?_)
  ·have a:(i:Int)<((1:Nat):Int):=a;obtain rfl:i=0:=by omega
   obtain ⟨D,q,rfl⟩:=(nL hs fun g s=>(c g s).1).A (Nat.zero_lt_one);refine aq underlying75 a_ 0 rfl (Nat.zero_lt_one) (o':=q) (by omega) ?_;refine H.En (i:=0) 1 rfl aE (by omega) rfl ?_
   iterate 3 refine ae rfl ?_
   refine ae (decide_eq_false (by omega)) ?_;exact ⟨1,by decide,⟨up (by omega),trivial⟩,by decide,H⟩
  ·exact ⟨(),trivial,H⟩
 clear H;rintro ⟨⟩ u p H;refine aj (OO hm k 24 0 [(m:Int)] B d A sv _ S rfl (.inr rfl) l (j5 H) (H.ro 1 rfl) (fun x f=>⟨H.rlt _ (.tail _ (.head _)) x f,fun h=>H.rdis _ (.tail _ (.head _)) _ (.head _) x f h⟩)) ?_;rintro _ E ⟨t,b,id,e,rfl,v,y⟩;exact ⟨t,b,id,e,rfl,v,(H.cg 0 rfl y).bg⟩
theorem K4:enters prog 148=true:=by kernel_rfl
theorem c148 {w:World}{gz g r:Nat}{sv:Value}{room:Int}{A:Ar}{U:Nat→Bool}{f p l:Int}{c:Nat}(b:sA U room A)(d:0≤aR A f)(i:0≤aR A p)(hs:p=0∨Sg A p)(j:min (aR A f) (aR A p)=l)(k:CJ U A f p l c)(m:Dz w gz g r sv room A) :
  bz prog 148 [(ah gz),.int .i64 f,.int .i64 p] w (Ca w g r U room sv A l c fun _=>True):=by
 refine ar (N:=14) func148 K4 rfl rfl rfl (by simp) ?_;refine aj (HS (l:=l) (c:=c) (fe:=182) (hi:=183) (U:=U) (X:=fun _=>True) b d i m fun gd rm n hit=>?_) (fun v w' h=>by
  obtain ⟨o,a,id,e,rfl,q,s⟩:=h;exact ⟨o,a,id,e,rfl,q,s⟩)
 exact (vN 25 f p l A [] sv n c b (e7.nil A) d i hs j (by omega) k hit).mono fun v w' h=>h.mono (by omega) (Int.le_refl l) (Nat.le_refl c) fun _ _=>trivial
structure gC (U:Nat→Bool) (room:Int) (A A':Ar) (c:Nat) (e e':Int):Prop where
 ext:Ext A A'
 arn:sA U room A'
 len:A'.length≤A.length+c
 err:e=0∧e'=0∨e'=5∧(e=5∨room<(A.length:Int)+c)
theorem gC.refl {U:Nat→Bool}{room:Int}{A:Ar}(h:sA U room A){e:Int}(he:e=0∨e=5)(c:Nat):gC U room A A c e e:=⟨Ext.refl A,h,Nat.le_add_right _ _,by omega⟩
theorem gC.trans {U:Nat→Bool}{room:Int}{A B C:Ar}{c d:Nat}{e b a:Int}(h:gC U room A B c e b)(k:gC U room B C d b a):gC U room A C (c+d) e a:=
 ⟨h.ext.trans k.ext,k.arn,by have:=h.len;have:=k.len;omega,by have:=h.len;have:=h.err;have:=k.err;omega⟩
theorem gC.mono {U:Nat→Bool}{room:Int}{A B:Ar}{c d:Nat}{e a:Int}(h:gC U room A B c e a)(b:c≤d):gC U room A B d e a:=
 ⟨h.ext,h.arn,by have:=h.len;omega,by have:=h.err;omega⟩
theorem gC.two {U:Nat→Bool}{room:Int}{A B:Ar}{c:Nat}{e a:Int}(h:gC U room A B c e a):a=0∨a=5:=by have:=h.err;omega
def ui (ce e:Int):Int:=if ce=0 then e else ce
theorem lK {U:Nat→Bool}{room:Int}{A B:Ar}{c:Nat}{ce e:Int}(h:o8 U room A B c e)(a:ce=0∨ce=5):gC U room A B c ce (ui ce e):=by
 have:=h.err;refine ⟨h.ext,h.arn,h.len,?_⟩;unfold ui;split <;> omega
def oa (ce e id:Int):Int:=if ui ce e=0 then id else 0
theorem rA {ce e:Int}(id:Int)(a:ce=0∨ce=5):(e=0∧oa ce e id=id)∨oa ce e id=0:=by
 unfold oa ui;rcases a with rfl | rfl
 ·by_cases h:e=0
  ·exact .inl ⟨h,by rw[if_pos rfl,if_pos h]⟩
  ·exact .inr (by rw[if_pos rfl,if_neg h])
 ·exact .inr rfl
theorem rB {A:Ar}{ce e id l:Int}(h:e=0→At A l id)(b:0≤l)(c:l≤24)(d:ce=0∨ce=5):At A l (oa ce e id):=by
 rcases rA (e:=e) id d with ⟨f,a⟩ | a
 ·rw[a];exact h f
 ·rw[a];exact At.end (.inl rfl) b c
def jd (gc gz:Nat)(ce:Int):cS:=an gc 208 #[(ah gz),.int .i64 ce]
theorem lL (g:Nat)(w:World):(Instr.fieldAt 208 (ah g) 0).run prog w=.ok (ah g) w:=by kernel_rfl
theorem nj (g:Nat)(w:World):(Instr.fieldAt 208 (ah g) 1).run prog w=.ok (.pointer (some ⟨g,1,none⟩)) w:=by kernel_rfl
theorem od:cW prog 26=some false:=by kernel_rfl
theorem jI:bF prog 26=some 1:=by kernel_rfl
theorem K5:enters prog 146=true:=by kernel_rfl
theorem c146 {gc gz:Nat}(ce id e:Int)(w:World)(h:(jd gc gz ce).ok w) :
  bz prog 146 [(ah gc),.int .i64 id,.int .i64 e] w fun v w'=>v=.int .i64 (oa ce e id)∧jU w w' (jd gc gz ce) (jd gc gz (ui ce e)):=by
 refine ar (N:=22) func146 K5 rfl rfl rfl (by simp) ?_;have H:Hp w (jd gc gz ce).foot w [jd gc gz ce] []:=Hp.Jj h (fun x b=>by have b:x=gc:=b;subst b;exact jo h);refine aw (fun w'=>Hp w (jd gc gz ce).foot w' [jd gc gz ce] []) ⟨(),trivial,H⟩ ?_;clear H;rintro ⟨⟩ u d H;refine aw (fun w'=>Hp w (jd gc gz ce).foot w' [jd gc gz (ui ce e)] []) ?_ ?_
 ·refine aa (nj _) ?_;refine H.load 0 rfl od rfl ?_;refine ck (fun a=>?_) (fun a=>?_)
  ·have a:ce=0:=a;refine aa (nj _) ?_;refine H.store 0 rfl jI (Nat.le_of_ble_eq_true rfl) rfl ?_;clear H;intro c H;exact ⟨(),trivial,by unfold ui;rw[if_pos a];exact H⟩
  ·have a:ce≠0:=a;exact ⟨(),trivial,by unfold ui;rw[if_neg a];exact H⟩
 clear H;rintro ⟨⟩ u c H;unfold oa;generalize ui ce e=e2 at *;refine aw (fun w'=>e2=0∧Hp w (jd gc gz ce).foot w' [jd gc gz e2] []) ?_ ?_
 ·refine aa (nj _) ?_;refine H.load 0 rfl od rfl ?_;refine dq (fun a=>?_) (fun a=>?_)
  ·exact ⟨by rw[if_neg a];rfl,H.bg⟩
  ·exact ⟨(),trivial,a,H⟩
 clear H;rintro ⟨⟩ u f ⟨rfl,H⟩;exact ⟨by rw[if_pos rfl];rfl,H.bg⟩
def y6 (gc:Nat)(v:Value):cS:=⟨fun x=>x=gc,fun w=>w.cell? ⟨gc,0,none⟩=some v,fun w w' h hw=>by
 rw[← hw];unfold World.cell?;simp only;rw[h gc rfl]⟩
def cR (g r:Nat)(sv:Value)(room:Int)(A:Ar)(gc gz:Nat)(ce:Int):cS:=sr [bJ g r sv room A,jd gc gz ce]
def cM (gz g:Nat):List cS:=[an gz 205 #[(ah g)]]
structure LG (w:World) (gz gc g r:Nat) (sv:Value) (room:Int) (A:Ar) (ce:Int):Prop where
 z:(an gz 205 #[(ah g)]).ok w
 ok:(cR g r sv room A gc gz ce).ok w
 dis:¬ (cR g r sv room A gc gz ce).foot gz
def FU (w:World)(gz gc g r:Nat)(U:Nat→Bool)(room:Int)(sv:Value)(A:Ar)(ce l:Int)(c:Nat)(v:Value)(w':World):Prop:=
 ∃ b d a id,v=.int .i64 id∧(gC U room A b c ce a∧At b l id)∧jU w w' (cR g r sv room A gc gz ce) (cR g r d room b gc gz a)
section
variable {w0 w:World} {F:Nat→Prop} {L M:List cS} {gz gc g r:Nat} {sv:Value} {room:Int} {A:Ar} {ce:Int} {U:Nat→Bool} {l m:Int} {c d:Nat}
theorem _root_.Go.Dk.Hp.uj (H:Hp w0 F w L M)(n:Nat)(a:L[n]?=some (jd gc gz ce)):Hp w0 F w [y6 gc (ah gz)] M:=
 (H.b9 [n] (by simp) (L':=[jd gc gz ce]) (by simp[a])).re (fun h=>(aQ h 0).trans rfl) (fun x b=>b)
theorem LG.start (h:LG w gz gc g r sv room A ce):Hp w (cR g r sv room A gc gz ce).foot w [bJ g r sv room A,jd gc gz ce] (cM gz g):=
 (Hp.rW (M:=cM gz g) h.ok (fun x ⟨q,c,a⟩=>h.ok.2.1 q c x a) (by intro s hs;obtain rfl:=List.mem_singleton.1 hs;exact h.z)
  (by intro s hs x a;obtain rfl:=List.mem_singleton.1 hs;have a:x=gz:=a;subst a;exact jo h.z)
  (by intro s hs x a b;obtain rfl:=List.mem_singleton.1 hs;have a:x=gz:=a;subst a;exact h.dis b)).split
theorem je (H:Hp w0 F w (bJ g r sv room A::jd gc gz ce::L) M):Hp w0 F w (cR g r sv room A gc gz ce::L) M:=Hp.join (Ls:=[bJ g r sv room A,jd gc gz ce]) H
theorem AT (H:Hp w0 F w (cR g r sv room A gc gz ce::L) (cM gz g)):LG w gz gc g r sv room A ce:=
 ⟨H.ro 0 rfl,H.get 0 rfl,fun h=>H.rdis _ (.head _) _ (.head _) gz rfl h⟩
end
theorem K6:enters prog 178=true:=by kernel_rfl
theorem OP {w:World}{gz gc g r:Nat}{sv:Value}{room:Int}{A:Ar}{ce:Int}{U:Nat→Bool}{f:Int}{k:Nat}(I:k<24)(M:U k=true)(n:ce=0∨ce=5)(O:sA U room A)(Z:(k:Int)<aR A f)(hit:LG w gz gc g r sv room A ce) :
  bz prog 178 [(ah gc),.int .i64 f,.int .i64 (k:Int)] w (FU w gz gc g r U room sv A ce k (j2 U 0+1)):=by
 refine ar (N:=29) func178 K6 rfl rfl rfl (by simp) ?_;have H:=hit.start;refine aw (fun w'=>Hp w (cR g r sv room A gc gz ce).foot w' [bJ g r sv room A,jd gc gz ce] (cM gz g)) ⟨(),trivial,H⟩ ?_;clear H;rintro ⟨⟩ u w1 H;refine H.fE [y6 gc (ah gz)] (fun u h=>h.uj 1 rfl) eN (by kernel_rfl) ?_;clear H;intro w2 H;refine quiet _ (fun w H=>aa (lL _) af) ?_;refine quiet _ (fun w H=>aB ja (H.get 0 rfl) af) ?_;refine quiet _ (fun w H=>aa (lL _) af) ?_;refine quiet _ (fun w H=>aB ja (H.get 0 rfl) af) ?_;refine quiet _ (fun w H=>dk (by omega) af) ?_;refine H.aY dU rfl ?_;clear H;intro gs w3 H;replace H:=H.pF (l:=1) (sz:=1) rfl (by decide);refine ⟨.inl (H.uj 2 rfl),?_⟩;obtain ⟨S,hs,Q⟩:=H.sM 0 1 (by decide) rfl rfl;have d:∀ j,(2^k).testBit j=decide (j=k):=fun j=>by rw[Nat.testBit_two_pow];simp[eq_comm]
 have q:2^k<2^24:=Nat.pow_lt_pow_right (by decide) I;refine aj (MU (U:=U) (m:=2^k) q (fun j _ J=>by rw[d] at J;rw[of_decide_eq_true J];exact M) _ _ A sv _ S O (j5 (H.front 1 rfl)) hs Q) ?_;rintro _ w4 ⟨o,T,a,i,rfl,⟨s,K⟩,t⟩;replace H:=((H.cg 1 rfl t).forget);refine ⟨.inl (H.uj 1 rfl),?_⟩;refine aj (c146 ce a i _ (H.get 1 rfl)) ?_;rintro _ w5 ⟨rfl,v⟩;replace H:=H.cg 1 rfl v;refine ⟨.inl (H.uj 1 rfl),?_⟩;have b:=lK s n;have x:(oa ce i a=0∨Sg o (oa ce i a))∧(k:Int)≤aR o (oa ce i a)∧(oa ce i a=0∨aR o (oa ce i a)=(k:Int)∧(b5 o (oa ce i a) k).2=1):=by
  rcases rA (e:=i) a n with ⟨he,h⟩ | h
  ·obtain ⟨y,z⟩:=((K he).2 (by simp)).item k (Nat.zero_le _) (fun j _ _=>d j) I;rw[h];exact ⟨.inr ((K he).2 (by simp)).sg,by omega,.inr ⟨y,z⟩⟩
  ·rw[h];exact ⟨.inl rfl,by rw[kj (.inl rfl)];omega,.inl rfl⟩
 generalize oa ce i a=p at x;generalize ui ce i=ce1 at b H;have V:aR o f=aR A f:=b.ext.lvl (by omega);refine aj (c148 (U:=U) (f:=f) (p:=p) (c:=1) b.arn (by omega) (by omega) x.1 rfl ?_ (j5 H)) ?_
 ·rcases x.2.2 with h | ⟨y,z⟩
  ·exact .inl (.inr (.inl h))
  ·refine .inr (.inl ⟨by omega,?_,Nat.le_refl 1⟩);rw[Int.min_eq_right (by omega),y];exact z
 rintro _ w6 ⟨X,B,C,Y,rfl,⟨D,E⟩,F⟩;replace H:=H.cg 0 rfl F;refine ⟨.inl (H.uj 1 rfl),?_⟩;refine aj (c146 ce1 C Y _ (H.get 1 rfl)) ?_;rintro _ w7 ⟨rfl,G⟩;replace H:=H.cg 1 rfl G;refine ⟨.inl (H.uj 1 rfl),?_⟩;exact ⟨X,B,_,_,rfl,⟨b.trans (lK D b.two),rB (fun he=>(E he).1.mono (by omega) (by omega)) (by omega) (by omega) b.two⟩,(je H).bg⟩
theorem K7:cW prog 241=some true:=by kernel_rfl
theorem HV:bF prog 241=some 8:=by kernel_rfl
theorem K8 (f:Bool→Nat)(b:Bool){w:World}{kk:Value→World→Prop}(h:kk (sv (f b)) w):sW prog 241 (.agg (a2 f)) (.int .i64 (bN b:Int)) w kk:=by
 unfold sW;refine ⟨_,w,?_,h⟩
 cases b <;> kernel_rfl
theorem _root_.Go.Dk.Hp.HW {w0 w:World}{F:Nat→Prop}{L M Ls:List cS}{gc gz:Nat}{ce:Int}(H:Hp w0 F w L M)(is:List Nat)(a:is.Nodup)(b:is.map (fun i=>L[i]?)=(jd gc gz ce::Ls).map some):Hp w0 F w (y6 gc (ah gz)::Ls) M:=
 (H.b9 is a b).re (fun h=>(aQ h 0).trans rfl) (fun x c=>c)
def HX (U:Nat→Bool)(c i:Nat):Nat:=c+(2^j2 U ((2*(i+1):Nat):Int) - 1)+(j2 U 0+1)+(2^j2 U ((2*i:Nat):Int) - 1)
def Cc (U:Nat→Bool):Nat→Nat→Nat
 | 0,_=>0
 | k+1,i=>Cc U k (i+1)+2*HX U (Cc U k (i+1)) i
theorem y7 (s i:Nat)(b:Bool):aW s i b<2^256:=cw _
theorem FV:enters prog 145=true:=by kernel_rfl
set_option maxHeartbeats 4000000 in
theorem c145 {gz gc g r:Nat}{room:Int}{U:Nat→Bool}{n:Nat}(hn:n≤8)(hU:∀ j,j<2*n→U j=true):∀ (k i s:Nat) (a:Value) (A:Ar) (ce:Int) (w:World),i+k=n→cu s (bu n)→s<2^256→(∀ j,j<i→uV n s j)→(ce=0∨ce=5)→sA U room A→LG w gz gc g r a room A ce→
  bz prog 145 [(ah gc),sv s,sv (bu n),.int .i64 (n:Int),.int .i64 (i:Int)] w (FU w gz gc g r U room a A ce ((2*i:Nat):Int) (Cc U k i)):=by
 intro k
 induction k with
 | zero=>
  intro i s a A ce w hk hs X J y S hit;refine ar (N:=99) func145 FV rfl rfl rfl (by simp) ?_;have H:=hit.start;obtain rfl:i=n:=by omega
  refine H.box 86 (sv s) (cs:=sc s) rfl ?_;clear H;intro g6 w1 H;refine H.box 86 (sv (bu i)) (cs:=sc (bu i)) rfl ?_;clear H;intro g7 w2 H;replace H:=H.b9 [2,3,0,1] (L':=[bJ g r a room A,jd gc gz ce,an g7 86 (sc (bu i)),an g6 86 (sc s)]) (by decide) rfl;have d:∀ id:Int,(id=0∨id=1)→At A ((2*i:Nat):Int) id:=fun id h=>At.end h (by omega) (by omega);refine aa (nj _) ?_;refine H.load 1 rfl od rfl ?_;refine dq (fun h2=>?_) (fun h2=>?_)
  ·refine ag (bne_iff_ne.2 (by omega)) ?_
   iterate 2 refine ag (bne_iff_ne.2 (by omega)) ?_
   refine ag rfl ?_;exact ⟨A,a,ce,0,rfl,⟨gC.refl S y _,d 0 (.inl rfl)⟩,(je H).bg⟩
  ·refine H.ai 3 rfl aD av ?_;refine ae (bne_eq_false_iff_eq.2 (by omega)) ?_;refine tD ?_;refine ae (bne_eq_false_iff_eq.2 (by omega)) ?_;refine fS (by first | assumption | decide) (by first | assumption | decide) ?_;refine ae (bne_eq_false_iff_eq.2 (by omega)) ?_;by_cases h3:s=0
   ·refine ag (beq_iff_eq.2 h3) ?_;exact ⟨A,a,ce,0,rfl,⟨gC.refl S y _,d 0 (.inl rfl)⟩,(je H).bg⟩
   ·refine ae (beq_eq_false_iff_ne.2 h3) ?_;refine H.ai 3 rfl aD av ?_;refine H.ai 2 rfl aD av ?_;refine fS X (kb _) ?_;refine ag (beq_iff_eq.2 (BZ hn hs J h3)) ?_;exact ⟨A,a,ce,1,rfl,⟨gC.refl S y _,d 1 (.inr rfl)⟩,(je H).bg⟩
 | succ k ih=>
  intro i s a A ce w hk hs X J y S hit;refine ar (N:=99) func145 FV rfl rfl rfl (by simp) ?_;have H:=hit.start;have hi:i<n:=by omega
  have d:∀ id:Int,(id=0∨id=1)→At A ((2*i:Nat):Int) id:=fun id h=>At.end h (by omega) (by omega);refine ak (γ:=Nat × Nat) (fun (g6,g7)=>[(6,(ah g6)),(7,(ah g7))]) (fun (g6,g7) w'=>Hp w (cR g r a room A gc gz ce).foot w' [bJ g r a room A,jd gc gz ce,an g7 86 (sc (bu n)),an g6 86 (sc s)] (cM gz g)) ?_ ?_
  ·refine H.box 86 (sv s) (cs:=sc s) rfl ?_;clear H;intro g6 w1 H;refine H.box 86 (sv (bu n)) (cs:=sc (bu n)) rfl ?_;clear H;intro g7 w2 H;exact ⟨(g6,g7),⟨rfl,rfl,trivial⟩,H.b9 [2,3,0,1] (by decide) rfl⟩
  clear H;rintro ⟨g6,g7⟩ u w1 H;refine aw (fun w'=>Hp w (cR g r a room A gc gz ce).foot w' [bJ g r a room A,jd gc gz ce,an g7 86 (sc (bu n)),an g6 86 (sc s)] (cM gz g)) ?_ ?_
  ·refine aa (nj _) ?_;refine H.load 1 rfl od rfl ?_;refine dq (fun h2=>?_) (fun h2=>?_)
   ·refine ag (bne_iff_ne.2 (by omega)) ?_
    iterate 2 refine ag (bne_iff_ne.2 (by omega)) ?_
    refine ag rfl ?_;exact ⟨A,a,ce,0,rfl,⟨gC.refl S y _,d 0 (.inl rfl)⟩,(je H).bg⟩
   ·refine H.ai 3 rfl aD av ?_;refine ae (bne_eq_false_iff_eq.2 (by omega)) ?_;refine tD ?_;refine ae (bne_eq_false_iff_eq.2 (by omega)) ?_;refine fS (by first | assumption | decide) (by first | assumption | decide) ?_;refine ae (bne_eq_false_iff_eq.2 (by omega)) ?_;by_cases h3:s=0
    ·refine ag (beq_iff_eq.2 h3) ?_;exact ⟨A,a,ce,0,rfl,⟨gC.refl S y _,d 0 (.inl rfl)⟩,(je H).bg⟩
    ·refine ae (beq_eq_false_iff_ne.2 h3) ?_;refine H.ai 3 rfl aD av ?_;refine H.ai 2 rfl aD av ?_;refine fS X (kb _) ?_;refine aF (fun h4=>?_) (fun h4=>?_)
     ·exact ⟨A,a,ce,1,rfl,⟨gC.refl S y _,d 1 (.inr rfl)⟩,(je H).bg⟩
     ·exact ⟨(),trivial,H⟩
  clear H;rintro ⟨⟩ u w2 H;refine ak (γ:=Nat) (fun g11=>[(11,(ah g11))]) (fun g11 w'=>Hp w (cR g r a room A gc gz ce).foot w' [an g11 241 (a2 fun _=>0),bJ g r a room A,jd gc gz ce,an g7 86 (sc (bu n)),an g6 86 (sc s)] (cM gz g)) ?_ ?_
  ·refine H.alloc 241 (cs:=a2 fun _=>0) wU rfl ?_;clear H;intro g11 w3 H;exact ⟨g11,⟨rfl,trivial⟩,H⟩
  clear H;rintro g11 u w3 H;refine aw (fun w'=>Hp w (cR g r a room A gc gz ce).foot w' [an g11 241 (a2 (aW s i)),bJ g r a room A,jd gc gz ce,an g7 86 (sc (bu n))] (cM gz g)) ?_ ?_
  ·refine ax (γ:=Nat × (Bool→Nat)) (fun (k,_)=>[(33,.int .i64 (k:Int))]) (fun (k,f) w'=>(k≤2∧∀ b,bN b<k→f b=aW s i b)∧Hp w (cR g r a room A gc gz ce).foot w' [an g11 241 (a2 f),bJ g r a room A,jd gc gz ce,an g7 86 (sc (bu n)),an g6 86 (sc s)] (cM gz g)) (fun (k,_)=>2 - k) (0,fun _=>0) ⟨rfl,trivial⟩ ⟨⟨by decide,fun b hb=>absurd hb (Nat.not_lt_zero _)⟩,H⟩ ?_;clear H;rintro ⟨k',f⟩ u w4 ⟨⟨hk',hfg⟩,H⟩;refine au (fun h7=>?_) (fun h7=>?_)
   ·obtain ⟨b,rfl⟩:∃ b,k'=bN b:=by
     have:k'=0∨k'=1:=by omega
     rcases this with rfl | rfl
     ·exact ⟨false,rfl⟩
     ·exact ⟨true,rfl⟩
    have hb1:bN b<2:=by unfold bN;cases b <;> decide
    refine aw (fun w'=>Hp w (cR g r a room A gc gz ce).foot w' [an g11 241 (a2 (Hy f b (aW s i b))),bJ g r a room A,jd gc gz ce,an g7 86 (sc (bu n)),an g6 86 (sc s)] (cM gz g)) ?_ ?_
    ·refine ak (γ:=Unit) (fun _=>[(12,.int .i64 (bN b:Int))]) (fun _ w'=>Hp w (cR g r a room A gc gz ce).foot w' [an g11 241 (a2 f),bJ g r a room A,jd gc gz ce,an g7 86 (sc (bu n)),an g6 86 (sc s)] (cM gz g)) ⟨(),⟨rfl,trivial⟩,H⟩ ?_;clear H;rintro ⟨⟩ u w5 H;have G:∀ u,bz prog 177 [sv s,.int .i64 (i:Int),.bool (((bN b:Nat):Int)==1)] u fun r w'=>r=sv (cU s i b)∧aT u w':=fun u=>by cases b <;> exact yl s i _ (by omega) u
     refine H.ai 4 rfl aD av ?_;refine aj (G _) ?_;rintro _ w6 ⟨rfl,Y⟩;replace H:=H.same Y;refine aj (Oq _ i (xN s i b) (by omega) _) ?_;rintro _ w7 ⟨rfl,hk7⟩;replace H:=H.same hk7;refine aL underlying241 av (bN b) rfl hb1 (o':=bN b*4) (by omega) ?_;refine H.fU 0 rfl av (by rw[wV];show bN b*4+4≤8;omega) (fI _) (Fo f b _) ?_;clear H;intro w8 H;exact ⟨(),trivial,H⟩
    ·clear H;rintro ⟨⟩ u w5 H;exact ⟨(bN b+1,Hy f b (aW s i b)),by show 2 - (bN b+1)<2 - bN b;omega,⟨up (by omega),trivial⟩,⟨by show bN b+1≤2;omega,fun c G=>by
      unfold Hy;by_cases he:c=b
      ·subst he;simp
      ·rw[if_neg he];refine hfg c ?_;have G:bN c<bN b+1:=G
       cases b <;> cases c <;> simp_all[bN]⟩,H⟩
   ·have e1:f=aW s i:=funext fun b=>hfg b (by unfold bN;cases b <;> simp <;> omega);subst e1;exact ⟨(),trivial,H.b9 [0,1,2,3] (by decide) rfl⟩
  clear H;rintro ⟨⟩ u w4 H;have hw1:(Value.int .i64 (IntKind.i64.wrap ((i:Int)+1)))=.int .i64 ((i+1:Nat):Int):=up (by omega);have T:∀ b,cu (aW s i b) (bu n):=fun b=>mD hn hs hi b;have K:∀ b j,j<i+1→uV n (aW s i b) j:=fun b j Z=>n5 hn hs hi b (fun h=>J j h) (by omega);have hpow:((2*(i+1):Nat):Int)≤24:=by omega
  refine ak (γ:=Int × Ar × Value × Int) (fun (id,_)=>[(13,.int .i64 id)]) (fun (id,Q,D,z) w'=>(gC U room A Q (Cc U k (i+1)) ce z∧At Q ((2*(i+1):Nat):Int) id)∧Hp w (cR g r a room A gc gz ce).foot w' [bJ g r D room Q,jd gc gz z,an g11 241 (a2 (aW s i)),an g7 86 (sc (bu n))] (cM gz g)) ?_ ?_
  ·refine H.fE [an g11 241 (a2 (aW s i)),an g7 86 (sc (bu n))] (fun u h=>h.b9 [0,3] (by decide) rfl) eN (by kernel_rfl) ?_;clear H;intro w5 H;refine quiet _ (fun w H=>aL underlying241 av 0 rfl (by omega) (o':=0) rfl af) ?_;refine quiet (sv (aW s i false)) (fun w H=>H.cB 0 rfl (bL (aW s i false)) aD av (fun j v Z=>by have:=lI (aW s i) false j v Z;rwa [show bN false*4+j=0+j by unfold bN;simp] at this) af) ?_;refine quiet _ (fun w H=>aL underlying241 av 1 rfl (by omega) (o':=4) rfl af) ?_;refine quiet (sv (aW s i true)) (fun w H=>H.cB 0 rfl (bL (aW s i true)) aD av (fun j v Z=>by have:=lI (aW s i) true j v Z;rwa [show bN true*4+j=4+j by unfold bN;simp] at this) af) ?_;refine aj (c53 _ _ _) ?_;rintro _ w6 ⟨rfl,Y⟩;replace H:=H.same Y;refine ⟨.inl (H.b9 [0,3] (by decide) rfl),?_⟩;refine quiet (sv (bu n)) (fun w H=>H.ai 1 rfl aD av af) ?_;have G:=ih (i+1) (aW s i false &&&aW s i true) a A ce w6 (by omega) (fun p hp=>T false p (by rw[Nat.testBit_and,Bool.and_eq_true] at hp;exact hp.1)) (Nat.lt_of_le_of_lt Nat.and_le_left (y7 s i false)) (fun j Z=>BY (K _ j Z) (K _ j Z)) y S (AT (je (H.b9 [1,2,0,3] (L':=[bJ g r a room A,jd gc gz ce,an g11 241 (a2 (aW s i)),an g7 86 (sc (bu n))]) (by decide) rfl)));rw[← hw1] at G;refine aj G ?_;rintro _ w7 ⟨Q,D,z,id,rfl,hd,ht⟩;replace H:=((je (H.b9 [1,2,0,3] (L':=[bJ g r a room A,jd gc gz ce,an g11 241 (a2 (aW s i)),an g7 86 (sc (bu n))]) (by decide) rfl)).cg 0 rfl ht).split;refine ⟨.inl (H.b9 [2,3] (by decide) rfl),?_⟩;exact ⟨(id,Q,D,z),⟨rfl,trivial⟩,hd,H⟩
  clear H;rintro ⟨a0,Q,D,z⟩ u w5 ⟨⟨hd1,V⟩,H⟩;refine ak (γ:=Unit) (fun _=>[(14,.int .i64 a0)]) (fun _ w'=>Hp w (cR g r a room A gc gz ce).foot w' [bJ g r D room Q,jd gc gz z,an g11 241 (a2 (aW s i)),an g7 86 (sc (bu n))] (cM gz g)) ⟨(),⟨rfl,trivial⟩,H⟩ ?_;clear H;rintro ⟨⟩ u w6 H;refine ak (γ:=Int × Ar × Value × Int) (fun (id,_)=>[(14,.int .i64 id)]) (fun (id,B,t,e) w'=>(gC U room A B (Cc U (k+1) i) ce e∧At B ((2*i:Nat):Int) id)∧Hp w (cR g r a room A gc gz ce).foot w' [bJ g r t room B,jd gc gz e] (cM gz g)) ?_ ?_
  ·refine H.ai 2 rfl K7 HV ?_;replace H:=H.b9 [0,1,3] (L':=[bJ g r D room Q,jd gc gz z,an g7 86 (sc (bu n))]) (by decide) rfl;refine ax (γ:=Nat × Int × Ar × Value × Int) (fun (q,id,_)=>[(59,.int .i64 (q:Int)),(14,.int .i64 id)]) (fun (q,id,B,t,e) w'=>(q≤2∧gC U room A B (Cc U k (i+1)+q*HX U (Cc U k (i+1)) i) ce e∧Ext Q B∧At B ((2*i:Nat):Int) id)∧Hp w (cR g r a room A gc gz ce).foot w' [bJ g r t room B,jd gc gz e,an g7 86 (sc (bu n))] (cM gz g)) (fun (q,_)=>2 - q) (0,a0,Q,D,z) ⟨rfl,rfl,trivial⟩ ⟨⟨by decide,hd1.mono (Nat.le_add_right _ _),Ext.refl _,V.mono (by omega) (by omega)⟩,H⟩ ?_;clear H;rintro ⟨q,out,B,t,e⟩ u w7 ⟨⟨hq,I,hx2,F⟩,H⟩;refine au (fun h7=>?_) (fun h7=>?_)
   ·obtain ⟨b,rfl⟩:∃ b,q=bN b:=by
     have:q=0∨q=1:=by omega
     rcases this with rfl | rfl
     ·exact ⟨false,rfl⟩
     ·exact ⟨true,rfl⟩
    have hb1:bN b<2:=by unfold bN;cases b <;> decide
    refine ak (γ:=Int × Ar × Value × Int) (fun (id,_)=>[(14,.int .i64 id)]) (fun (id,M,C,o) w'=>(gC U room B M (HX U (Cc U k (i+1)) i) e o∧At M ((2*i:Nat):Int) id)∧Hp w (cR g r a room A gc gz ce).foot w' [bJ g r C room M,jd gc gz o,an g7 86 (sc (bu n))] (cM gz g)) ?_ ?_
    ·refine ak (γ:=Nat) (fun g16=>[(16,(ah g16)),(15,.int .i64 (bN b:Int))]) (fun g16 w'=>Hp w (cR g r a room A gc gz ce).foot w' [an g16 86 (sc (aW s i b)),bJ g r t room B,jd gc gz e,an g7 86 (sc (bu n))] (cM gz g)) ?_ ?_
     ·refine K8 (aW s i) b ?_;refine H.alloc 86 (cs:=sc 0) br aZ ?_;clear H;intro g16 w8 H;refine H.aV 0 rfl ?_;clear H;intro w9 H;exact ⟨g16,⟨rfl,rfl,trivial⟩,H⟩
     clear H;rintro g16 u w8 H;refine ak (γ:=Int × Ar × Value × Int) (fun (id,_)=>[(17,.int .i64 id)]) (fun (id,M,C,o) w'=>(gC U room B M (Cc U k (i+1)+(2^j2 U ((2*(i+1):Nat):Int) - 1)) e o∧At M ((2*(i+1):Nat):Int) id)∧Hp w (cR g r a room A gc gz ce).foot w' [bJ g r C room M,jd gc gz o,an g7 86 (sc (bu n))] (cM gz g)) ?_ ?_
     ·refine H.fE [y6 gc (ah gz),an g16 86 (sc (aW s i b)),an g7 86 (sc (bu n))] (fun u h=>h.HW [2,0,3] (by decide) rfl) eN (by kernel_rfl) ?_;clear H;intro w9 H;refine quiet _ (fun w H=>aa (lL _) af) ?_;refine quiet _ (fun w H=>aB ja (H.get 0 rfl) af) ?_;refine quiet (sv (aW s i b)) (fun w H=>H.ai 1 rfl aD av af) ?_;refine quiet (sv (bu n)) (fun w H=>H.ai 2 rfl aD av af) ?_;replace H:=H.b9 [1,2,0,3] (L':=[bJ g r t room B,jd gc gz e,an g16 86 (sc (aW s i b)),an g7 86 (sc (bu n))]) (by decide) rfl;have G:=ih (i+1) (aW s i b) t B e w9 (by omega) (T b) (y7 s i b) (K b) I.two I.arn (AT (je H));rw[← hw1] at G;refine aj G ?_;rintro _ w10 ⟨M,C,o,id,rfl,⟨m,hid⟩,ht⟩;replace H:=((je H).cg 0 rfl ht).split;refine ⟨.inl (H.HW [1,2,3] (by decide) rfl),?_⟩;have a1:=(V.ext hx2).ext m.ext;refine aj (MR (U:=U) (l:=((2*(i+1):Nat):Int)) (f:=id) (p:=a0) m.arn hid.1 hid.2 a1.2 (j5 H)) ?_;rintro _ w11 ⟨A4,sv4,a3,e4,rfl,⟨E,O⟩,ht4⟩;replace H:=H.cg 0 rfl ht4;refine ⟨.inl (H.HW [1,2,3] (by decide) rfl),?_⟩;refine aj (c146 o a3 e4 _ (H.get 1 rfl)) ?_;rintro _ w12 ⟨rfl,a4⟩;replace H:=H.cg 1 rfl a4;refine ⟨.inl (H.HW [1,2,3] (by decide) rfl),?_⟩;exact ⟨(_,A4,sv4,_),⟨rfl,trivial⟩,⟨m.trans (lK E m.two),rB (fun he=>(O he).1) (by omega) hpow m.two⟩,H.b9 [0,1,3] (by decide) rfl⟩
     clear H;rintro ⟨own,M,C,o⟩ u w9 ⟨⟨m,hown⟩,H⟩;have hw2:(Value.int .i64 (IntKind.i64.wrap (IntKind.i64.wrap (2*(i:Int))+(bN b:Int))))=.int .i64 ((2*i+bN b:Nat):Int):=by
      rw[aH (x:=2*(i:Int)) (by omega) (by omega),aH (by omega) (by omega)]
      congr 1
     refine H.fE [y6 gc (ah gz)] (fun u h=>h.uj 1 rfl) eN (by kernel_rfl) ?_;clear H;intro w10 H;refine quiet _ (fun w H=>aa (lL _) af) ?_;refine quiet _ (fun w H=>aB ja (H.get 0 rfl) af) ?_;have G:=OP (U:=U) (f:=own) (k:=2*i+bN b) (gc:=gc) (gz:=gz) (g:=g) (r:=r) (sv:=C) (ce:=o) (w:=w10) (by omega) (hU _ (by omega)) m.two m.arn (by have:=hown.2;omega) (AT (je H));rw[← hw2] at G;refine aj G ?_;rintro _ w11 ⟨A4,sv4,ce4,a3,rfl,⟨E,O⟩,ht⟩;replace H:=((je H).cg 0 rfl ht).split;refine ⟨.inl (H.uj 1 rfl),?_⟩;have a5:=(F.ext m.ext).ext E.ext;refine aj (KZ (U:=U) (l:=((2*i:Nat):Int)) (f:=out) (p:=a3) E.arn (by omega) a5.2 (by have:=O.2;omega) (j5 H)) ?_;rintro _ w12 ⟨A5,sv5,id5,e5,rfl,⟨hd5,hid5⟩,a4⟩;replace H:=H.cg 0 rfl a4;refine ⟨.inl (H.uj 1 rfl),?_⟩;refine aj (c146 ce4 id5 e5 _ (H.get 1 rfl)) ?_;rintro _ w13 ⟨rfl,ht6⟩;replace H:=H.cg 1 rfl ht6;refine ⟨.inl (H.uj 1 rfl),?_⟩;exact ⟨(_,A5,sv5,_),⟨rfl,trivial⟩,⟨((m.trans E).trans (lK hd5 E.two)).mono (by unfold HX;split <;> omega),rB (fun he=>(hid5 he).1) (by omega) (by omega) E.two⟩,H⟩
    clear H;rintro ⟨id,M,C,o⟩ u w8 ⟨⟨m,hid⟩,H⟩;exact ⟨(bN b+1,id,M,C,o),by show 2 - (bN b+1)<2 - bN b;omega,⟨up (by omega),rfl,trivial⟩,⟨by show bN b+1≤2;omega,(I.trans m).mono (by rw[Nat.succ_mul];omega),hx2.trans m.ext,hid⟩,H⟩
   ·obtain rfl:q=2:=by omega
    exact ⟨(out,B,t,e),⟨rfl,trivial⟩,⟨I,F⟩,H.b9 [0,1] (by decide) rfl⟩
  clear H;rintro ⟨out,B,t,e⟩ u w7 ⟨⟨I,F⟩,H⟩;exact ⟨B,t,e,out,rfl,⟨I,F⟩,(je H).bg⟩
theorem k_:cW prog 206=some false:=by kernel_rfl
theorem HY:bF prog 206=some 1:=by kernel_rfl
theorem HZ:eU prog 206=some (.pointer none):=by kernel_rfl
theorem FW (s:Nat):∀ (j:Nat) v,(bL s)[j]?=some v→(sc s)[j]?=some v:=fun j v a=>by unfold bL at a;rwa [Array.getElem?_toList] at a
def aM (gz g gc g3 g6 g7:Nat)(X:Nat→Prop)(S:er)(Bo:Option Addr)(co:Nat)(Bm:Option Addr)(cm:Nat):List cS:=
 [an gz 205 #[(ah g)],an g7 86 (sc (bu S.n)),an g3 41 (bp S.n (.slice Bo S.on.length co) (.slice Bm S.may.length cm)),an g6 206 #[(ah gc)],sl X (.slice Bm S.may.length cm) 4 S.may.length (flat bL S.may)]
structure H0 (w:World) (gz gc g r g3 g6 g7:Nat) (X:Nat→Prop) (S:er) (Bo:Option Addr) (co:Nat) (Bm:Option Addr) (cm:Nat) (sv:Value) (room:Int) (A:Ar) (ce:Int):Prop where
 head:∀ s ∈ aM gz g gc g3 g6 g7 X S Bo co Bm cm,s.ok w
 lt:∀ s ∈ aM gz g gc g3 g6 g7 X S Bo co Bm cm,∀ x,s.foot x→x<w.heap.size
 ok:(cR g r sv room A gc gz ce).ok w
 dis:∀ s ∈ aM gz g gc g3 g6 g7 X S Bo co Bm cm,∀ x,s.foot x→¬ (cR g r sv room A gc gz ce).foot x
section
variable {w0 w:World} {F:Nat→Prop} {L M:List cS} {gz gc g r g3 g6 g7:Nat} {X:Nat→Prop} {S:er} {Bo Bm:Option Addr} {co cm:Nat} {sv:Value} {room:Int} {A:Ar} {ce:Int}
theorem H0.start (h:H0 w gz gc g r g3 g6 g7 X S Bo co Bm cm sv room A ce):Hp w (cR g r sv room A gc gz ce).foot w [bJ g r sv room A,jd gc gz ce] (aM gz g gc g3 g6 g7 X S Bo co Bm cm):=
 (Hp.rW (M:=aM gz g gc g3 g6 g7 X S Bo co Bm cm) h.ok (fun x ⟨q,a,b⟩=>h.ok.2.1 q a x b) h.head h.lt h.dis).split
theorem Cd (H:Hp w0 F w (cR g r sv room A gc gz ce::L) (aM gz g gc g3 g6 g7 X S Bo co Bm cm)):H0 w gz gc g r g3 g6 g7 X S Bo co Bm cm sv room A ce:=
 ⟨H.rok,H.rlt,H.get 0 rfl,fun s hs x b a=>H.rdis s hs _ (.head _) x b a⟩
theorem H7 (H:Hp w0 F w (cR g r sv room A gc gz ce::L) (an gz 205 #[(ah g)]::M)):LG w gz gc g r sv room A ce:=
 ⟨H.ro 0 rfl,H.get 0 rfl,fun h=>H.rdis _ (.head _) _ (.head _) gz rfl h⟩
end
theorem K9:enters prog 144=true:=by kernel_rfl
theorem MV {w:World}{gz gc g r g3 g6 g7:Nat}{X:Nat→Prop}{S:er}{Bo Bm:Option Addr}{co cm:Nat}{a:Value}{room:Int}{A:Ar}{ce:Int}{U:Nat→Bool}(e:cF S)(y:∀ j,j<2*S.n→U j=true)(o:Nat)(O:o<16)(f:ce=0∨ce=5)(z:sA U room A)(hit:H0 w gz gc g r g3 g6 g7 X S Bo co Bm cm a room A ce) :
  bz prog 144 ([.int .i64 (o:Int)]++[(ah g7),(ah g3),(ah g6)]) w (FU w gz gc g r U room a A ce 0 (Cc U S.n 0)):=by
 refine ar (N:=33) func144 K9 rfl rfl rfl (by simp) ?_;have H:=hit.start;have Q:S.may.length≤4:=by rw[e.len];exact e.few
 refine aw (fun w'=>Hp w (cR g r a room A gc gz ce).foot w' [bJ g r a room A,jd gc gz ce] (aM gz g gc g3 g6 g7 X S Bo co Bm cm)) ⟨(),trivial,H⟩ ?_;clear H;rintro ⟨⟩ u T H;refine ak (γ:=Nat) (fun g8=>[(6,(ah g8))]) (fun g8 w'=>Hp w (cR g r a room A gc gz ce).foot w' [an g8 86 (sc (bu S.n)),bJ g r a room A,jd gc gz ce] (aM gz g gc g3 g6 g7 X S Bo co Bm cm)) ?_ ?_
 ·refine fT (H.ro 1 rfl) (bL (bu S.n)) aD av (FW _) ?_;refine H.alloc 86 (cs:=sc 0) br aZ ?_;clear H;intro g8 B H;refine H.aV 0 rfl ?_;clear H;intro p H;exact ⟨g8,⟨rfl,trivial⟩,H⟩
 clear H;rintro g8 u B H;refine aw (fun w'=>Hp w (cR g r a room A gc gz ce).foot w' [an g8 86 (sc (ir S o S.may.length)),bJ g r a room A,jd gc gz ce] (aM gz g gc g3 g6 g7 X S Bo co Bm cm)) ?_ ?_
 ·refine aa (fL _) ?_;refine aB eo ((aQ (H.ro 2 rfl) 2).trans rfl) ?_;refine ay underlying39 ?_;refine ax (γ:=Nat) (fun j=>[(13,.int .i64 (j:Int))]) (fun j w'=>j≤S.may.length∧Hp w (cR g r a room A gc gz ce).foot w' [an g8 86 (sc (ir S o j)),bJ g r a room A,jd gc gz ce] (aM gz g gc g3 g6 g7 X S Bo co Bm cm)) (fun j=>S.may.length - j) 0 ⟨rfl,trivial⟩ ⟨Nat.zero_le _,H⟩ ?_;clear H;rintro j u p ⟨q,H⟩;refine au (fun D=>?_) (fun D=>?_)
  ·have h:j<S.may.length:=by omega
   refine aw (fun w'=>Hp w (cR g r a room A gc gz ce).foot w' [an g8 86 (sc (ir S o (j+1))),bJ g r a room A,jd gc gz ce] (aM gz g gc g3 g6 g7 X S Bo co Bm cm)) ?_ ?_
   ·obtain ⟨b,s,t⟩:=mB (l:=S.may) (j:=j) (by omega);have d:ir S o (j+1)=if o.testBit j then ir S o j &&&b else ir S o j:=by
     show (if o.testBit j then ir S o j &&&S.may.getD j 0 else ir S o j)=_;rw[List.getD_eq_getElem?_getD,s];rfl
    rw[d];generalize ir S o j=C at H ⊢;have c:=nL (H.ro 4 rfl) fun x E=>H.rlt _ (.tail _ (.tail _ (.tail _ (.tail _ (.head _))))) x E;obtain ⟨V,F,i⟩:=c.A (by omega);refine ak (γ:=Nat) (fun g9=>[(8,(ah g9)),(7,.int .i64 (j:Int))]) (fun g9 w'=>Hp w (cR g r a room A gc gz ce).foot w' [an g9 86 (sc b),an g8 86 (sc C),bJ g r a room A,jd gc gz ce] (aM gz g gc g3 g6 g7 X S Bo co Bm cm)) ?_ ?_
    ·subst i;refine aq underlying39 av j rfl h (o':=F+j*4) (by omega) ?_;refine Sl.dj (Hp.aC _) c bW aD av j rfl s ?_;refine H.alloc 86 (cs:=sc 0) br aZ ?_;clear H c;intro g9 v H;refine Hp.aV H 0 rfl ?_;clear H;intro Y H;exact ⟨g9,⟨rfl,rfl,trivial⟩,H⟩
    clear H c;rintro g9 u v H;refine iG (by omega) ?_;refine iF (b:=1) (Nat.lt_of_le_of_lt (Nat.div_le_self _ _) (by omega)) (by omega) ?_
    cases hob:o.testBit j with
    | true=>
     refine ag ((cQ o j).trans hob) ?_;refine H.ai 1 rfl aD av ?_;refine H.ai 0 rfl aD av ?_;refine aj (c53 _ _ _) ?_;rintro _ Z ⟨rfl,G⟩;replace H:=H.same G;refine H.aV 1 rfl ?_;clear H;intro I H;exact ⟨(),trivial,by rw[if_pos rfl];exact H.forget⟩
    | false=>
     refine ae ((cQ o j).trans hob) ?_;exact ⟨(),trivial,by rw[if_neg (by decide)];exact H.forget⟩
   ·clear H;rintro ⟨⟩ u w7 H;exact ⟨j+1,by show S.may.length - (j+1)<S.may.length - j;omega,⟨up (by omega),trivial⟩,by show j+1≤S.may.length;omega,H⟩
  ·obtain rfl:j=S.may.length:=by omega
   exact ⟨(),trivial,H⟩
 clear H;rintro ⟨⟩ u p H;refine aB k_ ((aQ (H.ro 3 rfl) 0).trans rfl) ?_;refine H.ai 0 rfl aD av ?_;refine fT (H.ro 1 rfl) (bL (bu S.n)) aD av (FW _) ?_;refine aa (iD _) ?_;refine aB aE ((aQ (H.ro 2 rfl) 0).trans rfl) ?_;replace H:=je H.forget;refine aj (c145 e.n8 y S.n 0 (ir S o S.may.length) a A ce _ (by omega) (kX S o _) (sK S o _) (fun j q=>absurd q (Nat.not_lt_zero _)) f z (H7 H)) ?_;rintro _ v ⟨J,k,m,id,rfl,K,M⟩;exact ⟨J,k,m,id,rfl,K,(H.cg 0 rfl M).bg⟩
def mC (a o:Nat):Nat→Nat
 | 0=>0
 | m+1=>mC a o m+if o<m∧m &&&o=o then a else 0
def K_ (U:Nat→Bool)(n k o:Nat):Nat:=Cc U n 0+mC (Cc U n 0+(2^j2 U 0 - 1)) o (2^k)+(j2 U 0+Jc (j2 U 0))+(2^j2 U 0 - 1)
def LH (U:Nat→Bool)(n k:Nat):Nat→Nat
 | 0=>0
 | o+1=>LH U n k o+if o=0 then 0 else K_ U n k o
theorem FX {gz:Nat}{w:World}{kk:Value→World→Prop}(h:kk (.agg #[(ah gz),.int .i64 0]) w):b6 prog 208 [(0,(ah gz))] w kk:=bx (fun w=>by kernel_rfl) h
theorem y8 {g3 g6 g7:Nat}{w:World}{kk:Value→World→Prop}(h:kk (.func (.func 144) #[] #[(ah g7),(ah g3),(ah g6)]) w) :
  cD prog (.func 144) [] [(ah g7),(ah g3),(ah g6)] w kk:=by
 unfold cD;exact ⟨_,w,by kernel_rfl,h⟩
theorem H8 (o j:Nat):(o*2^16).testBit j=true→16≤j∧o.testBit (j - 16)=true:=by
 rw[Nat.testBit_mul_two_pow,Bool.and_eq_true,decide_eq_true_eq];exact id
theorem La:enters prog 107=true:=by kernel_rfl
set_option maxHeartbeats 4000000 in
theorem c107 {S:er}(hS:cF S){w:World}{gz g r:Nat}{X:Nat→Prop}{Bo Bm:Option Addr}{co cm:Nat}{b:Value}{room:Int}{A:Ar}{U:Nat→Bool}(hU:∀ j,j<2*S.n→U j=true)(hUk:∀ j,j<S.may.length→U (16+j)=true)(hA:sA U room A)(hz:Dz w gz g r b room A)(hXo:(sl X (.slice Bo S.on.length co) 4 S.on.length (flat bL S.on)).ok w)(hXm:(sl X (.slice Bm S.may.length cm) 4 S.may.length (flat bL S.may)).ok w)(hX:∀ x,X x→x<w.heap.size∧¬ (bJ g r b room A).foot x) :
  bz prog 107 [(ah gz),sf S.n (.slice Bo S.on.length co) (.slice Bm S.may.length cm)] w fun v w'=>∃ A' sv' id e,v=.tuple #[.int .i64 id,.int .i64 e]∧(e=0∨e=5∧room<(A.length:Int)+LH U S.n S.may.length (2^S.may.length))∧jU w w' (bJ g r b room A) (bJ g r sv' room A'):=by
 refine ar (N:=114) func107 La rfl rfl rfl (by simp) ?_;have h4:S.may.length≤4:=by rw[hS.len];exact hS.few
 have h2k:2^S.may.length≤2^4:=Nat.pow_le_pow_right (by decide) h4;have H:Hp w (bJ g r b room A).foot w [bJ g r b room A] [an gz 205 #[(ah g)],sl X (.slice Bo S.on.length co) 4 S.on.length (flat bL S.on),sl X (.slice Bm S.may.length cm) 4 S.may.length (flat bL S.may)]:=by
  refine Hp.rW hz.ok (fun x D=>rh hz.ok x D) ?_ ?_ ?_
  ·intro s hs;simp only[List.mem_cons,List.not_mem_nil,or_false] at hs;rcases hs with rfl | rfl | rfl
   ·exact hz.z
   ·exact hXo
   ·exact hXm
  ·intro s hs x D;simp only[List.mem_cons,List.not_mem_nil,or_false] at hs;rcases hs with rfl | rfl | rfl
   ·have D:x=gz:=D;subst D;exact jo hz.z
   ·exact (hX x D).1
   ·exact (hX x D).1
  ·intro s hs x D a4;simp only[List.mem_cons,List.not_mem_nil,or_false] at hs;rcases hs with rfl | rfl | rfl
   ·have D:x=gz:=D;subst D;exact hz.dis a4
   ·exact (hX x D).2 a4
   ·exact (hX x D).2 a4
 refine ak (γ:=Nat) (fun g3=>[(3,(ah g3))]) (fun g3 w'=>Hp w (bJ g r b room A).foot w' [an g3 41 (bp S.n (.slice Bo S.on.length co) (.slice Bm S.may.length cm)),bJ g r b room A] [an gz 205 #[(ah g)],sl X (.slice Bo S.on.length co) 4 S.on.length (flat bL S.on),sl X (.slice Bm S.may.length cm) 4 S.may.length (flat bL S.may)]) ?_ ?_
 ·refine H.box 41 _ (cs:=bp S.n (.slice Bo S.on.length co) (.slice Bm S.may.length cm)) rfl ?_;clear H;intro g3 w1 H;exact ⟨g3,⟨rfl,trivial⟩,H⟩
 clear H;rintro g3 u w1 H;refine aw (fun w'=>Hp w (bJ g r b room A).foot w' [an g3 41 (bp S.n (.slice Bo S.on.length co) (.slice Bm S.may.length cm)),bJ g r b room A] [an gz 205 #[(ah g)],sl X (.slice Bm S.may.length cm) 4 S.may.length (flat bL S.may)]) ?_ ?_
 ·have hat:gi w1 S Bo co Bm cm:=⟨nL (H.ro 1 rfl) fun x D=>H.rlt _ (.tail _ (.head _)) x D,nL (H.ro 2 rfl) fun x D=>H.rlt _ (.tail _ (.tail _ (.head _))) x D⟩;refine pM ?_;refine ae rfl ?_;refine H.ai 0 rfl dz bH ?_;refine ae rfl ?_;refine aj (Hv hS Bo co _ cm _ hat) ?_;rintro _ w2 ⟨rfl,hk⟩;replace H:=H.same hk
  iterate 3 refine ae rfl ?_
  exact ⟨(),trivial,H.eD (by simp)⟩
 clear H;rintro ⟨⟩ u w2 H;refine ak (γ:=Nat × Nat) (fun (gc,g6)=>[(6,(ah g6))]) (fun (gc,g6) w'=>Hp w (bJ g r b room A).foot w' [an g6 206 #[(ah gc)],jd gc gz 0,an g3 41 (bp S.n (.slice Bo S.on.length co) (.slice Bm S.may.length cm)),bJ g r b room A] [an gz 205 #[(ah g)],sl X (.slice Bm S.may.length cm) 4 S.may.length (flat bL S.may)]) ?_ ?_
 ·refine FX ?_;refine H.box 208 _ (cs:=#[(ah gz),.int .i64 0]) rfl ?_;clear H;intro gc w3 H;refine H.alloc 206 (cs:=#[.pointer none]) HZ rfl ?_;clear H;intro g6 w4 H;refine H.store 0 rfl HY (Nat.le_of_ble_eq_true rfl) rfl ?_;clear H;intro w5 H;exact ⟨(gc,g6),⟨rfl,trivial⟩,H⟩
 clear H;rintro ⟨gc,g6⟩ u w3 H;refine ak (γ:=Nat) (fun g7=>[(7,(ah g7))]) (fun g7 w'=>Hp w (bJ g r b room A).foot w' [bJ g r b room A,jd gc gz 0] (aM gz g gc g3 g6 g7 X S Bo co Bm cm)) ?_ ?_
 ·refine aa (iD _) ?_;refine H.load 2 rfl aE rfl ?_;refine aj (oI S.n hS.n8 _) ?_;rintro _ w4 ⟨rfl,hk⟩;replace H:=H.same hk;refine H.alloc 86 (cs:=sc 0) br aZ ?_;clear H;intro g7 w5 H;refine H.aV 0 rfl ?_;clear H;intro w6 H;have H1:=H.freeze.freeze;have H2:=(H1.front 1 rfl).freeze;have H3:=H2.b9 [1,0] (L':=[bJ g r b room A,jd gc gz 0]) (by decide) rfl;exact ⟨g7,⟨rfl,trivial⟩,H3.eD (by intro s hs;simp only[aM,List.mem_cons,List.not_mem_nil,or_false] at hs ⊢;rcases hs with rfl | rfl | rfl | rfl | rfl <;> simp)⟩
 clear H;rintro g7 u w4 H;refine ak (γ:=Unit) (fun _=>[(9,.int .i64 0)]) (fun _ w'=>Hp w (bJ g r b room A).foot w' [bJ g r b room A,jd gc gz 0] (aM gz g gc g3 g6 g7 X S Bo co Bm cm)) ⟨(),⟨rfl,trivial⟩,H⟩ ?_;clear H;rintro ⟨⟩ u w5 H;refine ak (γ:=Unit) (fun _=>[(10,.func (.func 144) #[] #[(ah g7),(ah g3),(ah g6)])]) (fun _ w'=>Hp w (bJ g r b room A).foot w' [bJ g r b room A,jd gc gz 0] (aM gz g gc g3 g6 g7 X S Bo co Bm cm)) ?_ ?_
 ·refine y8 ?_;exact ⟨(),⟨rfl,trivial⟩,H⟩
 clear H;rintro ⟨⟩ u w6 H;have hcA:gC U room A A 0 0 0:=gC.refl hA (.inl rfl) 0;refine ak (γ:=Int × Ar × Value × Int) (fun (id,_)=>[(9,.int .i64 id)]) (fun (id,J,B,k) w'=>(gC U room A J (LH U S.n S.may.length (2^S.may.length)) 0 k)∧Hp w (bJ g r b room A).foot w' [bJ g r B room J,jd gc gz k] (aM gz g gc g3 g6 g7 X S Bo co Bm cm)) ?_ ?_
 ·refine ax (γ:=Nat × Int × Ar × Value × Int) (fun (o,id,_)=>[(11,.int .i64 (o:Int)),(9,.int .i64 id)]) (fun (o,id,J,B,k) w'=>((1≤o∧o≤2^S.may.length)∧gC U room A J (LH U S.n S.may.length o) 0 k∧At J 0 id)∧Hp w (bJ g r b room A).foot w' [bJ g r B room J,jd gc gz k] (aM gz g gc g3 g6 g7 X S Bo co Bm cm)) (fun (o,_)=>2^S.may.length - o) (1,0,A,b,0) ⟨rfl,rfl,trivial⟩ ⟨⟨⟨by decide,Nat.one_le_two_pow⟩,hcA,At.end (.inl rfl) (by decide) (by decide)⟩,H⟩ ?_;clear H;rintro ⟨o,out,J,B,k⟩ u w7 ⟨⟨⟨ho1,ho2⟩,O,hout⟩,H⟩;refine aa (fL _) ?_;refine aB eo ((aQ (H.ro 2 rfl) 2).trans rfl) ?_;refine ay underlying39 ?_;refine dk (by omega) ?_;refine au (fun h7=>?_) (fun h7=>?_)
  ·have ho:o<2^S.may.length:=by omega
   refine ak (γ:=Int × Ar × Value × Int) (fun (id,_)=>[(9,.int .i64 id)]) (fun (id,I,C,q) w'=>(gC U room J I (K_ U S.n S.may.length o) k q∧At I 0 id)∧Hp w (bJ g r b room A).foot w' [bJ g r C room I,jd gc gz q] (aM gz g gc g3 g6 g7 X S Bo co Bm cm)) ?_ ?_
   ·refine ak (γ:=Int × Ar × Value × Int) (fun (id,_)=>[(12,.int .i64 id)]) (fun (id,I,C,q) w'=>(gC U room J I (Cc U S.n 0) k q∧At I 0 id)∧Hp w (bJ g r b room A).foot w' [bJ g r C room I,jd gc gz q] (aM gz g gc g3 g6 g7 X S Bo co Bm cm)) ?_ ?_
    ·refine fx (args:=[.int .i64 (o:Int)]) (cap:=[(ah g7),(ah g3),(ah g6)]) (MV hS hU o (by omega) O.two O.arn (Cd (je H))) ?_;rintro _ w8 ⟨I,C,q,id,rfl,h1,ht⟩;exact ⟨(id,I,C,q),⟨rfl,trivial⟩,h1,((je H).cg 0 rfl ht).split⟩
    clear H;rintro ⟨f,I,C,q⟩ u w8 ⟨⟨Q,hf⟩,H⟩;obtain ⟨a,ha⟩:∃ a,Cc U S.n 0+(2^j2 U 0 - 1)=a:=⟨_,rfl⟩;refine ak (γ:=Int × Ar × Value × Int) (fun (id,_)=>[(12,.int .i64 id)]) (fun (id,K,E,d) w'=>(gC U room I K (mC a o (2^S.may.length)) q d∧At K 0 id)∧Hp w (bJ g r b room A).foot w' [bJ g r E room K,jd gc gz d] (aM gz g gc g3 g6 g7 X S Bo co Bm cm)) ?_ ?_
    ·refine ax (γ:=Nat × Int × Ar × Value × Int) (fun (m,id,_)=>[(13,.int .i64 (m:Int)),(12,.int .i64 id)]) (fun (m,id,K,E,d) w'=>((o+1≤m∧m≤2^S.may.length)∧gC U room I K (mC a o m) q d∧At K 0 id)∧Hp w (bJ g r b room A).foot w' [bJ g r E room K,jd gc gz d] (aM gz g gc g3 g6 g7 X S Bo co Bm cm)) (fun (m,_)=>2^S.may.length - m) (o+1,f,I,C,q) ⟨up (by omega),rfl,trivial⟩ ⟨⟨⟨Nat.le_refl _,by omega⟩,gC.refl Q.arn Q.two _,hf⟩,H⟩ ?_;clear H;rintro ⟨m,f2,K,E,d⟩ u w9 ⟨⟨⟨hm1,hm2⟩,y,Y⟩,H⟩;refine aa (fL _) ?_;refine aB eo ((aQ (H.ro 2 rfl) 2).trans rfl) ?_;refine ay underlying39 ?_;refine dk (by omega) ?_;refine au (fun h8=>?_) (fun h8=>?_)
     ·have hm:m<2^S.may.length:=by omega
      refine ak (γ:=Int × Ar × Value × Int) (fun (id,_)=>[(12,.int .i64 id)]) (fun (id,M,F,t) w'=>(gC U room K M (if o<m∧m &&&o=o then a else 0) d t∧At M 0 id)∧Hp w (bJ g r b room A).foot w' [bJ g r F room M,jd gc gz t] (aM gz g gc g3 g6 g7 X S Bo co Bm cm)) ?_ ?_
      ·refine iF (by omega) (by omega) ?_;refine ck (fun he=>?_) (fun he=>?_)
       ·have he:((m &&&o:Nat):Int)=(o:Int):=he;have he:m &&&o=o:=by omega
        rw[if_pos ⟨by omega,he⟩];refine H.fE [y6 gc (ah gz)] (fun u h=>h.uj 1 rfl) eN (by kernel_rfl) ?_;clear H;intro a5 H;refine quiet _ (fun w H=>aB k_ ((aQ (H.ro 3 rfl) 0).trans rfl) af) ?_;refine quiet _ (fun w H=>aB k_ ((aQ (H.ro 3 rfl) 0).trans rfl) af) ?_;refine quiet _ (fun w H=>aa (lL _) af) ?_;refine quiet _ (fun w H=>aB ja (H.get 0 rfl) af) ?_;refine fx (args:=[.int .i64 (m:Int)]) (cap:=[(ah g7),(ah g3),(ah g6)]) (MV hS hU m (by omega) y.two y.arn (Cd (je H))) ?_;rintro _ w11 ⟨M,F,t,id,rfl,⟨i,hid⟩,ht⟩;replace H:=((je H).cg 0 rfl ht).split;refine ⟨.inl (H.uj 1 rfl),?_⟩;refine aj (MR (U:=U) (l:=0) (f:=f2) (p:=id) i.arn (by decide) (Y.ext i.ext).2 hid.2 (j5 H)) ?_;rintro _ w12 ⟨A6,Z,a0,e6,rfl,⟨a1,G⟩,a2⟩;replace H:=H.cg 0 rfl a2;refine ⟨.inl (H.uj 1 rfl),?_⟩;refine aj (c146 t a0 e6 _ (H.get 1 rfl)) ?_;rintro _ w13 ⟨rfl,a3⟩;replace H:=H.cg 1 rfl a3;refine ⟨.inl (H.uj 1 rfl),?_⟩;exact ⟨(_,A6,Z,_),⟨rfl,trivial⟩,⟨(i.trans (lK a1 i.two)).mono (by omega),rB (fun he=>(G he).1) (by omega) (by omega) i.two⟩,H⟩
       ·have he:((m &&&o:Nat):Int)≠(o:Int):=he;exact ⟨(f2,K,E,d),⟨rfl,trivial⟩,⟨gC.refl y.arn y.two _,Y⟩,H⟩
      clear H;rintro ⟨f3,M,F,t⟩ u a5 ⟨⟨i,hf3⟩,H⟩;exact ⟨(m+1,f3,M,F,t),by show 2^S.may.length - (m+1)<2^S.may.length - m;omega,⟨up (by omega),rfl,trivial⟩,⟨⟨by show o+1≤m+1;omega,by show m+1≤_;omega⟩,y.trans i,hf3⟩,H⟩
     ·obtain rfl:m=2^S.may.length:=by omega
      exact ⟨(f2,K,E,d),⟨rfl,trivial⟩,⟨y,Y⟩,H⟩
    clear H;rintro ⟨f2,K,E,d⟩ u w9 ⟨⟨y,Y⟩,H⟩;refine ak (γ:=Int × Ar × Value × Int) (fun (id,_)=>[(14,.int .i64 id)]) (fun (id,M,F,t) w'=>(gC U room K M (j2 U 0+Jc (j2 U 0)) d t∧At M 0 id)∧Hp w (bJ g r b room A).foot w' [bJ g r F room M,jd gc gz t] (aM gz g gc g3 g6 g7 X S Bo co Bm cm)) ?_ ?_
    ·refine H.fE [y6 gc (ah gz)] (fun u h=>h.uj 1 rfl) eN (by kernel_rfl) ?_;clear H;intro a5 H;refine quiet _ (fun w H=>aB k_ ((aQ (H.ro 3 rfl) 0).trans rfl) af) ?_;refine quiet _ (fun w H=>aB k_ ((aQ (H.ro 3 rfl) 0).trans rfl) af) ?_;refine quiet _ (fun w H=>aa (lL _) af) ?_;refine quiet _ (fun w H=>aB ja (H.get 0 rfl) af) ?_;refine quiet _ (fun w H=>aB k_ ((aQ (H.ro 3 rfl) 0).trans rfl) af) ?_;refine quiet _ (fun w H=>aB k_ ((aQ (H.ro 3 rfl) 0).trans rfl) af) ?_;refine quiet _ (fun w H=>aa (lL _) af) ?_;refine quiet _ (fun w H=>aB ja (H.get 0 rfl) af) ?_;refine quiet _ (fun w H=>nK (n:=16) (by decide) (by omega) af) ?_;refine H.aY dU rfl ?_;clear H;intro gs w11 H;replace H:=H.pF (l:=1) (sz:=1) rfl (by decide);refine ⟨.inl (H.uj 2 rfl),?_⟩;obtain ⟨Sx,hs,hSx⟩:=H.sM 0 1 (by decide) rfl rfl;have hlt:o*2^16<2^24:=by omega
     refine aj (MU (U:=U) (m:=o*2^16) hlt (fun j _ hj=>by
      obtain ⟨h1,h2⟩:=H8 o j hj;have h3:j - 16<S.may.length:=Jd ho h2;have:=hUk (j - 16) h3
      rwa [show 16+(j - 16)=j by omega] at this) _ _ K E _ Sx y.arn (j5 (H.front 1 rfl)) hs hSx) ?_
     rintro _ w12 ⟨M,F,T,e5,rfl,⟨i,hof⟩,ht5⟩;replace H:=(H.cg 1 rfl ht5).forget;refine ⟨.inl (H.uj 1 rfl),?_⟩;refine aj (c146 d T e5 _ (H.get 1 rfl)) ?_;rintro _ w13 ⟨rfl,a2⟩;replace H:=H.cg 1 rfl a2;refine ⟨.inl (H.uj 1 rfl),?_⟩;have V:=lK i y.two;have hp:(oa d e5 T=0∨Sg M (oa d e5 T))∧0≤aR M (oa d e5 T):=by
      rcases rA (e:=e5) T y.two with ⟨he,h⟩ | h
      ·have:=(hof he).2 (by simp);rw[h];exact ⟨.inr this.sg,by have:=this.lvl;omega⟩
      ·rw[h];exact ⟨.inl rfl,by rw[kj (.inl rfl)];omega⟩
     generalize oa d e5 T=p at hp;generalize ui d e5=t at V H;have hf5:=Y.ext V.ext;refine aj (c148 (U:=U) (f:=f2) (p:=p) (c:=Jc (j2 U 0)) V.arn hf5.2 hp.2 hp.1 rfl (.inr (.inr (xk (kZ U (by have:=hf5.2;have:=hp.2;omega))))) (j5 H)) ?_;rintro _ w14 ⟨A6,Z,a0,e6,rfl,⟨a1,G⟩,a3⟩;replace H:=H.cg 0 rfl a3;refine ⟨.inl (H.uj 1 rfl),?_⟩;refine aj (c146 t a0 e6 _ (H.get 1 rfl)) ?_;rintro _ w15 ⟨rfl,ht8⟩;replace H:=H.cg 1 rfl ht8;refine ⟨.inl (H.uj 1 rfl),?_⟩;exact ⟨(_,A6,Z,_),⟨rfl,trivial⟩,⟨V.trans (lK a1 V.two),rB (fun he=>(G he).1.mono (by omega) (by have:=hf5.2;have:=hp.2;omega)) (by omega) (by omega) V.two⟩,H⟩
    clear H;rintro ⟨tg,M,F,t⟩ u a5 ⟨⟨i,htg⟩,H⟩;refine H.fE [y6 gc (ah gz)] (fun u h=>h.uj 1 rfl) eN (by kernel_rfl) ?_;clear H;intro w11 H;refine quiet _ (fun w H=>aB k_ ((aQ (H.ro 3 rfl) 0).trans rfl) af) ?_;refine quiet _ (fun w H=>aB k_ ((aQ (H.ro 3 rfl) 0).trans rfl) af) ?_;refine quiet _ (fun w H=>aa (lL _) af) ?_;refine quiet _ (fun w H=>aB ja (H.get 0 rfl) af) ?_;have hout5:=((hout.ext Q.ext).ext y.ext).ext i.ext;refine aj (KZ (U:=U) (l:=0) (f:=out) (p:=tg) i.arn (by decide) hout5.2 htg.2 (j5 H)) ?_;rintro _ w12 ⟨A6,Z,a0,e6,rfl,⟨a1,G⟩,a2⟩;replace H:=H.cg 0 rfl a2;refine ⟨.inl (H.uj 1 rfl),?_⟩;refine aj (c146 t a0 e6 _ (H.get 1 rfl)) ?_;rintro _ w13 ⟨rfl,a3⟩;replace H:=H.cg 1 rfl a3;refine ⟨.inl (H.uj 1 rfl),?_⟩;exact ⟨(_,A6,Z,_),⟨rfl,trivial⟩,⟨(((Q.trans y).trans i).trans (lK a1 i.two)).mono (by unfold K_;rw[ha];split <;> omega),rB (fun he=>(G he).1) (by omega) (by omega) i.two⟩,H⟩
   clear H;rintro ⟨id,I,C,q⟩ u w8 ⟨⟨Q,hid⟩,H⟩;exact ⟨(o+1,id,I,C,q),by show 2^S.may.length - (o+1)<2^S.may.length - o;omega,⟨up (by omega),rfl,trivial⟩,⟨⟨by show 1≤o+1;omega,by show o+1≤_;omega⟩,(O.trans Q).mono (by show _≤LH U S.n S.may.length o+_;rw[if_neg (by omega)];exact Nat.le_refl _),hid⟩,H⟩
  ·obtain rfl:o=2^S.may.length:=by omega
   exact ⟨(out,J,B,k),⟨rfl,trivial⟩,O,H⟩
 clear H;rintro ⟨out,J,B,k⟩ u w7 ⟨O,H⟩;have herr:=O.err;refine aw (fun w'=>k=0∧Hp w (bJ g r b room A).foot w' [bJ g r B room J,jd gc gz k] (aM gz g gc g3 g6 g7 X S Bo co Bm cm)) ?_ ?_
 ·refine j3 (H.ro 3 rfl) k_ rfl ?_;refine aa (nj _) ?_;refine H.load 1 rfl od rfl ?_;refine dq (fun he=>?_) (fun he=>?_)
  ·refine H.draw eN (by kernel_rfl) ?_;clear H;intro w8 H;refine quiet _ (fun w H=>aB k_ ((aQ (H.ro 3 rfl) 0).trans rfl) af) ?_;refine quiet _ (fun w H=>aa (nj _) af) ?_;refine quiet _ (fun w H=>H.load 1 rfl od rfl af) ?_;exact ⟨J,B,0,k,rfl,by have he:k≠0:=he;omega,H.bg⟩
  ·exact ⟨(),trivial,he,H⟩
 clear H;rintro ⟨⟩ u w8 ⟨rfl,H⟩;exact ⟨J,B,out,0,rfl,.inl rfl,H.bg⟩
def MW (n k:Nat)(j:Nat):Bool:=decide (j<2*n)||(decide (16≤j)&&decide (j<16+k))
def DE (n k:Nat):Nat:=LH (MW n k) n k (2^k)
theorem FY:(List.range 4).all (fun n=>(List.range 3).all fun k=>decide (DE n k≤20000))=true:=by kernel_rfl
theorem H9 {n k:Nat}(a:n≤3)(b:k≤2):DE n k≤20000:=by
 have h:=FY;rw[List.all_eq_true] at h;have h:=h n (List.mem_range.2 (by omega));rw[List.all_eq_true] at h;exact of_decide_eq_true (h k (List.mem_range.2 (by omega)))
def MX (S:er)(nodes:Int)(R:List Rw)(e:Int):Prop:=(e=0∧(∀ x,x ∈ R↔dX S x)∧R.Nodup)∨(e=5∧R=[]∧nodes<(DE S.n S.may.length:Int))
theorem MY:enters prog 86=true:=by kernel_rfl
theorem Pp {S:er}(s:cF S)(k:S.n≤7)(nodes:Int)(t:0≤nodes)(y:nodes≤20000)(Bo:Option Addr)(co:Nat)(Bm:Option Addr)(cm:Nat)(w:World)(l:gi w S Bo co Bm cm) :
  bz prog 86 [sf S.n (.slice Bo S.on.length co) (.slice Bm S.may.length cm),.int .i64 nodes] w fun v w'=>∃ A c R e,v=.tuple #[.slice A R.length c,.int .i64 e]∧MX S nodes R e∧eW w w' (own 50 3 (.slice A R.length c) R.length (flat bd R)):=by
 refine ar (N:=31) func86 MY rfl rfl rfl (by simp) ?_;have H:=Hp.aC w;refine ak (γ:=Nat) (fun g2=>[(2,(ah g2))]) (fun g2 w'=>Hp w ab w' [an g2 41 (bp S.n (.slice Bo S.on.length co) (.slice Bm S.may.length cm))] []) ?_ ?_
 ·refine H.box 41 _ (cs:=bp S.n (.slice Bo S.on.length co) (.slice Bm S.may.length cm)) rfl ?_;clear H;intro g2 B H;exact ⟨g2,⟨rfl,trivial⟩,H⟩
 clear H;rintro g2 u B H;refine ak (γ:=Nat × Nat × Nat) (fun (gz,g,r)=>[(6,(ah gz)),(7,.int .i64 0)]) (fun (gz,g,r) w'=>Hp w ab w' [bJ g r (.slice none 0 0) nodes [],an gz 205 #[(ah g)],an g2 41 (bp S.n (.slice Bo S.on.length co) (.slice Bm S.may.length cm))] []) ?_ ?_
 ·refine aj (OE nodes t y _) ?_;rintro _ C ⟨gz,g,r,rfl,m⟩;exact ⟨(gz,g,r),⟨rfl,rfl,trivial⟩,(H.bq m).split.front 1 rfl⟩
 clear H;rintro ⟨gz,g,r⟩ u C H;refine aw (fun w'=>Hp w ab w' [bJ g r (.slice none 0 0) nodes [],an gz 205 #[(ah g)],an g2 41 (bp S.n (.slice Bo S.on.length co) (.slice Bm S.may.length cm))] []) ?_ ?_
 ·refine ae rfl ?_;exact ⟨(),trivial,H⟩
 clear H;rintro ⟨⟩ u o H;refine aw (fun w'=>Hp w ab w' [an g2 41 (bp S.n (.slice Bo S.on.length co) (.slice Bm S.may.length cm))] []) ?_ ?_
 ·refine H.ai 2 rfl dz bH ?_;have p:=H.keeps;have D:Dz o gz g r (.slice none 0 0) nodes []:=⟨H.get 1 rfl,H.get 0 rfl,fun h=>(List.pairwise_cons.1 H.dis).1 _ (.head _) gz h rfl⟩;have f:sA (MW S.n S.may.length) nodes []:=⟨JK t y,rfl,fun i d h=>by simp[slot] at h⟩;refine aj (c107 (X:=fun x=>x<w.heap.size) s (U:=MW S.n S.may.length) (fun j z=>by unfold MW;rw[decide_eq_true z];rfl) (fun j z=>by unfold MW;rw[decide_eq_true (show 16≤16+j by omega),decide_eq_true (show 16+j<16+S.may.length by omega)];simp) f D
   ((sl _ _ _ _ _).bS w o (fun x b=>p.old x b id) l.on) ((sl _ _ _ _ _).bS w o (fun x b=>p.old x b id) l.may)
   (fun x b=>⟨Nat.lt_of_lt_of_le b p.size,fun h=>by rcases H.new _ (.head _) x h with h | h;exact absurd b (Nat.not_lt.2 h);exact h⟩)) ?_
  rintro _ E ⟨J,F,id,e,rfl,he,G⟩;replace H:=(H.cg 0 rfl G).b9 [2] (L':=[an g2 41 (bp S.n (.slice Bo S.on.length co) (.slice Bm S.may.length cm))]) (by decide) rfl;refine dq (fun a=>?_) (fun a=>?_)
  ·have a:e≠0:=a;refine ⟨none,0,[],e,rfl,.inr ⟨by omega,rfl,?_⟩,((H.bC 50 3).only).out⟩;rcases he with he | ⟨_,he⟩
   ·exact absurd he a
   ·unfold DE;simpa using he
  ·exact ⟨(),trivial,H⟩
 clear H;rintro ⟨⟩ u E H;refine H.ai 0 rfl dz bH ?_;refine aj (OB s k Bo co Bm cm _ (l.same H.keeps)) ?_;rintro _ K ⟨A,c,R,rfl,⟨I,q,_⟩,m⟩;exact ⟨A,c,R,0,rfl,.inl ⟨rfl,I,q⟩,((H.bq m).only).out⟩
end Go.Proofs.YtpjihhgjbbihkaaGreatDoor
namespace Go.Proofs.YtpjihhgjbbihkaaGreatDoor
open Go.Dk
set_option maxRecDepth 100000
def H_ (S:er)(R:List Rw)(Q:a6):Prop:=∀ row,row ∈ Q↔o7 S R S.on.length 0 row
theorem rC {n out p:Nat}{R:List Rw}:∀ j,(di n R out p j).Pairwise (· < ·)∧∀ c ∈ di n R out p j,c<j
 | 0=>⟨.nil,by intro c d;cases d⟩
 | j+1=>by
  obtain ⟨e,f⟩:=rC (n:=n) (out:=out) (p:=p) (R:=R) j;refine ⟨?_,fun c d=>(kF.1 d).1⟩;show (match R[j]? with | some x=>_ | none=>_:List Nat).Pairwise (· < ·);split
  ·split
   ·exact List.pairwise_append.2 ⟨e,List.pairwise_singleton _ _,fun a g b h=>by rw[List.mem_singleton.1 h];exact f a g⟩
   ·exact e
  ·exact e
theorem uk {S:er}{R:List Rw}{Q:a6}(d:H_ S R Q)(g:R.length≤4000):eA (R.length:Int) Q:=by
 have key:∀ row ∈ Q,∃ o p,row=kY (di S.n R o p R.length):=fun row b=>by
  rcases (d row).1 b with ⟨o,a,p,_,_,_,rfl⟩ | ⟨a,p,_,_,rfl⟩
  ·exact ⟨o,p,rfl⟩
  ·exact ⟨_,p,rfl⟩
 refine ⟨fun r b=>?_,fun r b k e=>?_,by omega,by omega⟩
 ·obtain ⟨o,p,rfl⟩:=key r b;unfold oZ kY;rw[List.pairwise_map];exact (rC _).1.imp fun h=>by omega
 ·obtain ⟨o,p,rfl⟩:=key r b;obtain ⟨c,f,rfl⟩:=List.mem_map.1 e;have:=(rC _).2 c f;omega
theorem Lb {S:er}(e:cF S){o a p:Nat}(g:S.on[o]?=some a)(l:a.testBit p=true):jZ S (2^S.n - 1,p,2^o):=by
 have h:=(List.getElem?_eq_some_iff.1 g).1;have d:o<S.may.length:=by rw[e.len];exact h
 have i:=List.getElem?_eq_getElem d;have f:AB S.n S.may[o] (2^S.n - 1,p):=((Lv.zero e.n8 (e.all _ (List.getElem_mem d))).2 ⟨rfl,e.sub o a _ g i p l⟩).1;refine ⟨f.lt,f.sub,Nat.two_pow_pos o,Nat.pow_lt_pow_right (by decide) h,fun j b k c=>?_⟩;rw[Nat.testBit_two_pow] at k;have:o=j:=of_decide_eq_true k;subst this;rw[i] at c;injection c with c;rw[← c];exact f.cT
theorem DF {S:er}(c:cF S){R:List Rw}(l:∀ x,x ∈ R↔dX S x){Q:a6}(m:H_ S R Q):[] ∉ Q:=fun h=>by
 rcases (m []).1 h with ⟨o,a,p,j,g,k,he⟩ | ⟨a,p,g,_⟩
 ·have d:=Lb c g k;have i:=(l _).2 (ud c d);obtain ⟨_,q,r⟩:=qw c d;have e:=List.idxOf_lt_length_iff.2 i;have f:p<2^S.n:=gm c.n8 (c.all _ (List.getElem_mem (show o<S.may.length by rw[c.len];exact j))) (c.sub o a _ g (List.getElem?_eq_getElem (show o<S.may.length by rw[c.len];exact j)) p k);have:R.idxOf (n7 S (2^S.n - 1) p (2^o)) ∈ di S.n R o p R.length:=kF.2 ⟨e,_,by rw[List.getElem?_eq_getElem e,List.getElem_idxOf],r o (by rw[Nat.testBit_two_pow];simp),q p (by
   rw[bP c.n8];exact ⟨f,by rw[Nat.and_two_pow_sub_one_eq_mod];exact Nat.mod_eq_of_lt f⟩)⟩
  have s:di S.n R o p R.length=[]:=y3 (a:=di S.n R o p R.length) (b:=[]) he.symm;rw[s] at this
  cases this
 ·have:=(List.getElem?_eq_some_iff.1 g).1;omega
theorem pN {R:List Rw}{t:Nat→Bool}:∀ j,(bE R t j).length≤(List.range j).countP t
 | 0=>Nat.le_refl 0
 | j+1=>by
  have a:=pN (R:=R) (t:=t) j;rw[List.range_succ,List.countP_append,List.countP_cons,List.countP_nil];show (match R[j]? with | some x=>if t j then bE R t j++[x] else bE R t j | none=>bE R t j).length≤_;split
  ·split
   ·rw[List.length_append];simp;omega
   ·omega
  ·omega
theorem count_le (L:List Int)(n:Nat):(List.range n).countP (fun c:Nat=>decide ((c:Int) ∈ L))≤L.length:=by
 have b:((List.range n).filter fun c:Nat=>decide ((c:Int) ∈ L)).map (fun c:Nat=>(c:Int))=((List.range n).map fun c:Nat=>(c:Int)).filter fun c=>decide (c ∈ L):=by
  rw[List.filter_map];rfl
 have a:=nW n L;unfold a7 at a;rw[← b,List.length_map,← List.countP_eq_length_filter] at a;exact a
theorem y9 {S:er}(q:cF S){R:List Rw}(s:∀ x,x ∈ R↔dX S x)(y:R.length≤4000){Q:a6}(f:H_ S R Q){G:List Int}(z:aK (dm R.length (Q,[])).1 G)(A:ff R.length (dm R.length (Q,[])).1 (G.length:Int)){t:Nat→Bool}(u:∀ c:Nat,c<R.length→(t c=true↔(c:Int) ∈ a7 R.length (dm R.length (Q,[])).2++G)) :
  (∀ x ∈ bE R t R.length,dX S x)∧bD S (bE R t R.length)=true∧∀ L,(∀ x ∈ L,im S.n S.on.length x)→bD S L=true→(bE R t R.length).length≤L.length:=by
 have a:=uk f y;have hi:=ki a;have d:∀ x ∈ R,dX S x:=fun x g=>(s x).1 g;refine ⟨fun x g=>?_,AK q d fun row b=>?_,fun L B e=>?_⟩
 ·obtain ⟨c,_,h,_⟩:=ng.1 g;exact d x (List.mem_of_getElem? h)
 ·obtain ⟨k,v,i⟩:=hi.solves G z row ((f row).2 b);obtain ⟨C,j⟩:=a.rng row ((f row).2 b) k v;obtain ⟨c,rfl⟩:∃ c:Nat,k=c:=⟨k.toNat,by omega⟩;refine ⟨c,(u c (by omega)).2 ?_,v⟩;rcases List.mem_append.1 i with h | h
  ·exact List.mem_append_left _ (kC.2 ⟨⟨C,j⟩,h⟩)
  ·exact List.mem_append_right _ h
 ·obtain ⟨cs,D,E,l⟩:=AJ q s B e;have m:aK Q (kY cs):=fun r F=>by
   obtain ⟨c,e,hm⟩:=l r ((f r).1 F);exact ⟨c,hm,List.mem_map.2 ⟨c,e,rfl⟩⟩
  obtain ⟨w,o,p,hle⟩:=qh a (vq R.length (kY cs)) (mY a m);have j:=nW R.length (kY cs);have J:=nW R.length (dm R.length (Q,[])).2;rw[lJ] at j;have K:G.length≤w.length:=by
   rcases A with ⟨h,_⟩ | ⟨M,_,_,he,hm⟩
   ·omega
   ·have:=hm w o p;omega
  have N:=pN (R:=R) (t:=t) R.length;have O:(List.range R.length).countP t=(List.range R.length).countP (fun c:Nat=>decide ((c:Int) ∈ a7 R.length (dm R.length (Q,[])).2++G)):=List.countP_congr fun c e=>by
   rw[u c (List.mem_range.1 e)];simp
  have I:=count_le (a7 R.length (dm R.length (Q,[])).2++G) R.length;rw[List.length_append] at I;omega
end Go.Proofs.YtpjihhgjbbihkaaGreatDoor
namespace Go.Proofs.YtpjihhgjbbihkaaGreatDoor
open Go.Proofs.Tryz
open Go.Dk
set_option maxRecDepth 100000
attribute [local irreducible] IntKind.wrap
def ji (n s:Int):Array Value:=#[.int .i64 n,.int .i64 s]
def D4 (n s:Int):Value:=.agg (ji n s)
def nk (v:Value)(st a s:Int):Array Value:=#[v,.int .i64 st,.int .i64 a,.int .i64 s]
def Ia (v:Value)(st a s:Int):Value:=.agg (nk v st a s)
theorem um:eU prog 58=some (Ia (.slice none 0 0) 0 0 0):=by kernel_rfl
theorem mH:cW prog 58=some true:=by kernel_rfl
theorem dP:bF prog 58=some 4:=by kernel_rfl
theorem Ce:cW prog 23=some true:=by kernel_rfl
theorem xl:bF prog 23=some 2:=by kernel_rfl
theorem FZ:cW prog 44=some false:=by kernel_rfl
theorem Lc:bF prog 44=some 1:=by kernel_rfl
theorem lV (g:Nat)(w:World):(Instr.fieldAt 23 (ah g) 0).run prog w=.ok (ah g) w:=by kernel_rfl
theorem j6 (g:Nat)(w:World):(Instr.fieldAt 23 (ah g) 1).run prog w=.ok (.pointer (some ⟨g,1,none⟩)) w:=by kernel_rfl
theorem F0 (g:Nat)(w:World):(Instr.fieldAt 58 (ah g) 0).run prog w=.ok (ah g) w:=by kernel_rfl
theorem mI {w:World}{kk:Value→World→Prop}(h:kk (Ia (.slice none 0 0) 0 0 0) w):b6 prog 58 [] w kk:=bx (fun w=>by kernel_rfl) h
theorem F3 {s:Int}{w:World}{kk:Value→World→Prop}(h:kk (Ia (.slice none 0 0) 1 0 s) w):b6 prog 58 [(1,.int .i64 1),(3,.int .i64 s)] w kk:=bx (fun w=>by kernel_rfl) h
theorem gn {A:Option Addr}{l c:Nat}{st a s:Int}:∀ v ∈ (nk (.slice A l c) st a s).toList,v.oneCell'=true:=by
 intro v b;simp[nk] at b;rcases b with rfl | rfl | rfl | rfl <;> rfl
def MZ (S:er)(nodes:Int)(steps:Nat)(rows:List Rw)(e:Int):Prop:=
 (e=0∧(∀ x ∈ rows,dX S x)∧bD S rows=true∧∀ L,(∀ x ∈ L,im S.n S.on.length x)→bD S L=true→rows.length≤L.length)∨
 (e=5∧rows=[]∧nodes<(DE S.n S.may.length:Int))∨(e=6∧rows=[]∧∃ R:List Rw,(∀ x,x ∈ R↔dX S x)∧R.Nodup∧steps<2^R.length)
theorem M0:enters prog 55=true:=by kernel_rfl
set_option maxHeartbeats 4000000 in
theorem Pq {S:er}(T:cF S)(hn4:S.n≤4)(hk3:S.may.length≤3)(nodes:Int)(steps:Nat)(h0:0≤nodes)(h1:nodes≤20000)(hst:steps≤1000000)(Bo:Option Addr)(co:Nat)(Bm:Option Addr)(cm:Nat)(w:World)(hA:gi w S Bo co Bm cm) :
  bz prog 55 [sf S.n (.slice Bo S.on.length co) (.slice Bm S.may.length cm),D4 nodes (steps:Int)] w fun v w'=>∃ A c rows s e,v=.tuple #[Ia (.slice A rows.length c) (if e=0 then 1 else 0) 0 s,.int .i64 e]∧MZ S nodes steps rows e∧eW w w' (own 50 3 (.slice A rows.length c) rows.length (flat bd rows)):=by
 refine ar (N:=91) func55 M0 rfl rfl rfl (by simp) ?_;have H:=Hp.aC w;refine ak (γ:=Nat × Nat × Nat) (fun (g2,g3,g4)=>[(2,(ah g2)),(3,(ah g3)),(4,(ah g4))]) (fun (g2,g3,g4) w'=>Hp w ab w' [an g4 58 (nk (.slice none 0 0) 0 0 0),an g3 23 (ji nodes steps),an g2 41 (bp S.n (.slice Bo S.on.length co) (.slice Bm S.may.length cm))] []) ?_ ?_
 ·refine H.box 41 _ (cs:=bp S.n (.slice Bo S.on.length co) (.slice Bm S.may.length cm)) rfl ?_;clear H;intro g2 w1 H;refine H.box 23 _ (cs:=ji nodes steps) rfl ?_;clear H;intro g3 w2 H;refine H.alloc 58 (cs:=nk (.slice none 0 0) 0 0 0) um rfl ?_;clear H;intro g4 w3 H;exact ⟨(g2,g3,g4),⟨rfl,rfl,rfl,trivial⟩,H⟩
 clear H;rintro ⟨g2,g3,g4⟩ u w1 H;refine ak (γ:=Option Addr × Nat × List Rw × Int) (fun (A,c,R,e)=>[(6,.slice A R.length c),(7,.int .i64 e)]) (fun (A,c,R,e) w'=>MX S nodes R e∧Hp w ab w' [own 50 3 (.slice A R.length c) R.length (flat bd R),an g4 58 (nk (.slice none 0 0) 0 0 0),an g3 23 (ji nodes steps),an g2 41 (bp S.n (.slice Bo S.on.length co) (.slice Bm S.may.length cm))] []) ?_ ?_
 ·refine H.ai 2 rfl dz bH ?_;refine aa (lV _) ?_;refine H.load 1 rfl aE rfl ?_;refine aj (Pp T (by omega) nodes h0 h1 Bo co Bm cm _ (hA.same H.keeps)) ?_;rintro _ w2 ⟨A,c,R,e,rfl,y,U⟩;exact ⟨(A,c,R,e),⟨rfl,rfl,trivial⟩,y,H.bq U⟩
 clear H;rintro ⟨m,cR,R,e⟩ u w2 ⟨y,H⟩;refine aw (fun w'=>e=0∧Hp w ab w' [own 50 3 (.slice m R.length cR) R.length (flat bd R),an g4 58 (nk (.slice none 0 0) 0 0 0),an g3 23 (ji nodes steps),an g2 41 (bp S.n (.slice Bo S.on.length co) (.slice Bm S.may.length cm))] []) ?_ ?_
 ·refine dq (fun a=>?_) (fun a=>?_)
  ·have a:e≠0:=a;refine mI ?_;refine H.storeAll 1 rfl dP rfl gn ?_;clear H;intro w3 H;refine H.ai 1 rfl mH dP ?_;refine ⟨rfl,?_⟩;rcases y with ⟨h,_⟩ | ⟨h5,rfl,D⟩
   ·exact absurd h a
   ·exact ⟨none,0,[],0,e,by rw[if_neg a];rfl,.inr (.inl ⟨h5,rfl,D⟩),((H.bC 50 3).only).out⟩
  ·exact ⟨(),trivial,a,H⟩
 clear H;rintro ⟨⟩ u w3 ⟨he,H⟩;subst he;obtain ⟨y,hRn⟩:(∀ x,x ∈ R↔dX S x)∧R.Nodup:=by
  rcases y with ⟨_,h⟩ | ⟨h,_⟩
  ·exact h
  ·cases h
 have F:R.length≤4000:=by
  have h1:=Du hRn fun x V=>(y x).1 V;have h2:2^S.may.length≤2^3:=Nat.pow_le_pow_right (by decide) hk3;have h3:2^S.n≤2^4:=Nat.pow_le_pow_right (by decide) hn4;have h4:=Nat.mul_le_mul h2 (Nat.mul_le_mul h3 h3);omega
 have hRok:∀ x ∈ R,im S.n S.on.length x:=fun x V=>(((y x).1 V).qz T).ok T;refine ak (γ:=Nat × Option Addr × Nat × a6 × (Nat→Prop)) (fun (g8,_)=>[(8,(ah g8)),(7,.int .i64 0)]) (fun (g8,B,d,Q,I) w'=>(H_ S R Q∧Q.length≤100000)∧Hp w ab w' [an g8 137 (mc (R.length:Int) (.slice B Q.length d)),own 50 3 (.slice m R.length cR) R.length (flat bd R),an g4 58 (nk (.slice none 0 0) 0 0 0),an g3 23 (ji nodes steps)] [bh I (.slice B Q.length d) Q]) ?_ ?_
 ·refine H.ai 3 rfl dz bH ?_;refine aj (c87 T R hRok F Bo co Bm cm m cR _ (hA.same H.keeps) (bB (H.get 0 rfl))) ?_;rintro _ w4 ⟨B,d,Q,rfl,⟨hQ,hQl⟩,U⟩;obtain ⟨I,hm,hS1⟩:=U.mat;replace H:=H.pZ U.keeps (bh I (.slice B Q.length d) Q) hm (fun g hg=>⟨(hS1 g hg).1,.inl ((hS1 g hg).2.resolve_right id)⟩);refine H.alloc 137 ed rfl ?_;clear H;intro g8 w5 H;refine H.storeAll 0 rfl az rfl (fun v hv=>dn v hv) ?_;clear H;intro w6 H;exact ⟨(g8,B,d,Q,I),⟨rfl,rfl,trivial⟩,⟨hQ,hQl⟩,H.b9 [0,1,2,3] (by decide) rfl⟩
 clear H;rintro ⟨g8,BQ,dQ,Q,I⟩ u w4 ⟨⟨hQ,hQl⟩,H⟩;refine aw (fun w'=>Hp.cl H w') ?_ ?_
 ·refine ae rfl ?_;exact ⟨(),trivial,H⟩
 rintro ⟨⟩ u w5 H1;replace H:Hp w ab w5 [an g8 137 (mc (R.length:Int) (.slice BQ Q.length dQ)),own 50 3 (.slice m R.length cR) R.length (flat bd R),an g4 58 (nk (.slice none 0 0) 0 0 0),an g3 23 (ji nodes steps)] [bh I (.slice BQ Q.length dQ) Q]:=H1;clear H1;have i:=uk hQ F;have hxb:cN (R.length:Int) Q=true:=gL.2 i;have J:=DF T y hQ;obtain ⟨e1,e2,e3,e4⟩:=BU hxb;have hEi:=ki i;have hEb:[] ∉ (dm R.length (Q,[])).1:=qf (s:=(Q,[])) J _;have hEl:(dm R.length (Q,[])).1.length≤Q.length:=oL (s:=(Q,[])) _;have hTl:=fK R.length (dm R.length (Q,[])).2;have hfin:=fun (G:List Int)=>y9 T y F hQ (G:=G);have o:=fun u hS0 h=>O8 (R.length:Int) Q (.slice BQ Q.length dQ) I u (by omega) (fun r X=>by have:=oN i X;omega) h hS0;rw[e1,e2,e3,e4] at o;have hEr:=hEi.right;clear hEi e1 e2 e3 e4;generalize (dm R.length (Q,[])).1=E at *;generalize a7 R.length (dm R.length (Q,[])).2=TT at *;refine ak (γ:=Option Addr × Nat × Nat × Option Addr × Nat × (Nat→Prop)) (fun (z,d9,g10,_)=>[(9,.slice z TT.length d9),(10,(ah g10))]) (fun (z,d9,g10,Y,Z,S2) w'=>Hp w ab w' [an g10 137 (mc (R.length:Int) (.slice Y E.length Z)),own 3 1 (.slice z TT.length d9) TT.length (aA TT),own 50 3 (.slice m R.length cR) R.length (flat bd R),an g4 58 (nk (.slice none 0 0) 0 0 0),an g3 23 (ji nodes steps)] [bh S2 (.slice Y E.length Z) E]) ?_ ?_
 ·refine H.ai 0 rfl aN az ?_;refine aj (o _ (H.rlt _ (.head _)) (H.ro 0 rfl)) ?_;rintro _ w6 ⟨z,d9,v',S2,rfl,H2,hS2⟩;obtain ⟨Y,Z,hvE⟩:=(H2.ro 0 rfl).form;subst hvE;have H3:=H.merge H2 (fun r X g hg=>by
   rw[List.mem_singleton] at X;subst X;exact (hS2 g hg).imp id fun h=>⟨_,.head _,h⟩)
  clear H H2;refine H3.alloc 137 ed rfl ?_;clear H3;intro g10 w7 H;refine H.storeAll 0 rfl az rfl (fun v hv=>dn v hv) ?_;clear H;intro w8 H;exact ⟨(z,d9,g10,Y,Z,S2),⟨rfl,rfl,trivial⟩,(H.b9 [0,1,3,4,5] (by decide) rfl).eD (by simp)⟩
 clear H o;rintro ⟨z,d9,g10,Y,Z,S2⟩ u w6 H;refine ak (γ:=Option Addr × Nat × List Int × Int × Int) (fun (B,d,G,s,e)=>[(12,.slice B G.length d),(13,.int .i64 s),(7,.int .i64 e)]) (fun (B,d,G,s,e) w'=>Mv (R.length:Int) E steps G s e∧Hp w ab w' [own 3 1 (.slice z TT.length d9) TT.length (aA TT),own 3 1 (.slice B G.length d) G.length (aA G),own 50 3 (.slice m R.length cR) R.length (flat bd R),an g4 58 (nk (.slice none 0 0) 0 0 0)] []) ?_ ?_
 ·refine H.ai 0 rfl aN az ?_;refine aa (j6 _) ?_;refine H.load 4 rfl aE rfl ?_;refine aj (Pk (R.length:Int) E (.slice Y E.length Z) steps S2 _ (by omega) (fun r X=>by have:=oN hEr X;omega) (by omega) (fun _=>by omega) (H.ro 0 rfl) (H.rlt _ (.head _))) ?_;rintro _ w7 ⟨B,d,G,s,e,rfl,hF,U⟩;exact ⟨(B,d,G,s,e),⟨rfl,rfl,rfl,trivial⟩,hF,((H.bq U).ao).b9 [2,0,3,4] (by decide) rfl⟩
 clear H;rintro ⟨BG,dG,G,s,e⟩ u w7 ⟨hF,H⟩;have hEx:cN (R.length:Int) E=true:=gL.2 hEr;have C:ij E=false:=by
  rw[Bool.eq_false_iff];exact fun h=>hEb (kD.1 h)
 refine aw (fun w'=>e=0∧Hp w ab w' [own 3 1 (.slice z TT.length d9) TT.length (aA TT),own 3 1 (.slice BG G.length dG) G.length (aA G),own 50 3 (.slice m R.length cR) R.length (flat bd R),an g4 58 (nk (.slice none 0 0) 0 0 0)] []) ?_ ?_
 ·refine dq (fun a=>?_) (fun a=>?_)
  ·have a:e≠0:=a;refine mI ?_;refine H.storeAll 3 rfl dP rfl gn ?_;clear H;intro w8 H;refine H.ai 3 rfl mH dP ?_;refine ⟨rfl,?_⟩;refine ⟨none,0,[],0,e,by rw[if_neg a];rfl,.inr (.inr ?_),((H.bC 50 3).only).out⟩;rcases hF with ⟨h,_⟩ | ⟨_,h,_⟩ | ⟨_,_,h6,_,_,D⟩ | ⟨_,_,h,_⟩
   ·rw[hEx] at h;cases h
   ·rw[C] at h;cases h
   ·exact ⟨h6,rfl,R,y,hRn,by rwa [Int.toNat_natCast] at D⟩
   ·exact absurd h a
  ·exact ⟨(),trivial,a,H⟩
 clear H;rintro ⟨⟩ u w8 ⟨rfl,H⟩;obtain ⟨hGl,K,hGs⟩:G.length≤R.length∧ff R.length E (G.length:Int)∧aK E G:=by
  rcases hF with ⟨h,_⟩ | ⟨_,h,_⟩ | ⟨_,_,h,_⟩ | ⟨_,_,_,_,⟨b,hb⟩,h1,h2⟩
  ·rw[hEx] at h;cases h
  ·rw[C] at h;cases h
  ·cases h
  ·rw[Int.toNat_natCast] at hb h1;exact ⟨by rw[hb];exact fK _ _,h1,h2⟩
 clear hF;refine ak (γ:=Nat) (fun r=>[(14,.map (some r))]) (fun r w'=>Hp w ab w' [aP fm nb r [],own 3 1 (.slice z TT.length d9) TT.length (aA TT),own 3 1 (.slice BG G.length dG) G.length (aA G),own 50 3 (.slice m R.length cR) R.length (flat bd R),an g4 58 (nk (.slice none 0 0) 0 0 0)] []) ?_ ?_
 ·refine H.makeMap fm nb ?_;clear H;intro r w9 H;exact ⟨r,⟨rfl,trivial⟩,H⟩
 clear H;rintro r u w9 H;have hTG:(TT++G).length=TT.length+G.length:=List.length_append;refine ak (γ:=List (Int × Bool)) (fun _=>[]) (fun l w'=>BT l (TT++G)∧Hp w ab w' [aP fm nb r l,own 50 3 (.slice m R.length cR) R.length (flat bd R),an g4 58 (nk (.slice none 0 0) 0 0 0)] []) ?_ ?_
 ·refine H.kR 1 dU rfl (bB (H.get 2 rfl)) (de _) (by omega) (by omega) ?_;clear H;intro B15 d15 w10 H;rw[← hTG,← qq] at H;rw[← hTG];refine ay underlying75 ?_;refine ax (γ:=Nat × List (Int × Bool)) (fun (j,_)=>[(64,.int .i64 (j:Int))]) (fun (j,l) w'=>(j≤(TT++G).length∧BT l ((TT++G).take j))∧Hp w ab w' [aP fm nb r l,own 3 1 (.slice B15 (TT++G).length d15) (TT++G).length (aA (TT++G)),own 50 3 (.slice m R.length cR) R.length (flat bd R),an g4 58 (nk (.slice none 0 0) 0 0 0)] []) (fun (j,_)=>(TT++G).length - j) (0,[]) ⟨rfl,trivial⟩ ⟨⟨Nat.zero_le _,fun c=>rfl⟩,H.b9 [0,1,3,4] (by decide) rfl⟩ ?_;clear H;rintro ⟨j,l⟩ u w11 ⟨⟨hj,q⟩,H⟩;refine au (fun h8=>?_) (fun h8=>?_)
  ·obtain ⟨k,hk⟩:∃ k,(TT++G)[j]?=some k:=⟨_,List.getElem?_eq_getElem (by omega)⟩;obtain ⟨g2',rfl⟩:=jV (H.get 1 rfl) (by omega);have hgk:(aA (TT++G))[j]?=some (.int .i64 k):=by rw[aA,List.getElem?_map,hk];rfl
   have htk:(TT++G).take (j+1)=(TT++G).take j++[k]:=by rw[List.take_add_one,hk];rfl
   refine aq underlying75 (s:=1) a_ j rfl (by omega) (o':=j) (by omega) ?_;refine H.eJ 1 rfl aE hgk ?_;refine H.iR 0 rfl yH k true ?_;clear H;intro M H;exact ⟨(j+1,ek l k true),by show (TT++G).length - (j+1)<(TT++G).length - j;omega,⟨up (by omega),trivial⟩,⟨by show j+1≤(TT++G).length;omega,by rw[htk];exact q.add k⟩,H⟩
  ·have e:(TT++G).take j=TT++G:=List.take_of_length_le (by omega);rw[e] at q;exact ⟨l,trivial,q,H.b9 [0,2,3] (by decide) rfl⟩
 clear H;rintro l u w10 ⟨q,H⟩;refine ak (γ:=Nat) (fun g17=>[(17,(ah g17))]) (fun g17 w'=>Hp w ab w' [an g17 58 (nk (.slice none 0 0) 1 0 s),aP fm nb r l,own 50 3 (.slice m R.length cR) R.length (flat bd R),an g4 58 (nk (.slice none 0 0) 0 0 0)] []) ?_ ?_
 ·refine F3 ?_;refine H.alloc 58 (cs:=nk (.slice none 0 0) 0 0 0) um rfl ?_;clear H;intro g17 w11 H;refine H.storeAll 0 rfl dP rfl gn ?_;clear H;intro M H;exact ⟨g17,⟨rfl,trivial⟩,H⟩
 clear H;rintro g17 u w11 H;obtain ⟨t,ht⟩:∃ t:Nat→Bool,∀ c,t c=decide ((c:Int) ∈ TT++G):=⟨_,fun _=>rfl⟩;have hcl:∀ j,(bE R t j).length≤j:=fun j=>Nat.le_trans (pN j) (by have:=List.countP_le_length (p:=t) (l:=List.range j);rwa [List.length_range] at this);refine ak (γ:=Option Addr × Nat) (fun _=>[]) (fun (B,d) w'=>Hp w ab w' [an g17 58 (nk (.slice B (bE R t R.length).length d) 1 0 s),own 50 3 (.slice B (bE R t R.length).length d) (bE R t R.length).length (flat bd (bE R t R.length)),an g4 58 (nk (.slice none 0 0) 0 0 0)] []) ?_ ?_
 ·refine ay underlying44 ?_;refine ax (γ:=Nat × Option Addr × Nat) (fun (j,_)=>[(75,.int .i64 (j:Int))]) (fun (j,B,d) w'=>j≤R.length∧Hp w ab w' [an g17 58 (nk (.slice B (bE R t j).length d) 1 0 s),own 50 3 (.slice B (bE R t j).length d) (bE R t j).length (flat bd (bE R t j)),aP fm nb r l,own 50 3 (.slice m R.length cR) R.length (flat bd R),an g4 58 (nk (.slice none 0 0) 0 0 0)] []) (fun (j,_)=>R.length - j) (0,none,0) ⟨rfl,trivial⟩ ⟨Nat.zero_le _,(H.bC 50 3).front 1 rfl⟩ ?_;clear H;rintro ⟨j,B,d⟩ u M ⟨hj,H⟩;refine au (fun h8=>?_) (fun h8=>?_)
  ·have hjl:j<R.length:=by omega
   obtain ⟨x,V⟩:∃ x,R[j]?=some x:=⟨_,List.getElem?_eq_getElem hjl⟩;have f:bE R t (j+1)=if t j then bE R t j++[x] else bE R t j:=by
    show (match R[j]? with | some x=>_ | none=>_)=_;rw[V]
   have hjc:=hcl j;refine ak (γ:=Option Addr × Nat) (fun _=>[]) (fun (B,d) w'=>Hp w ab w' [an g17 58 (nk (.slice B (bE R t (j+1)).length d) 1 0 s),own 50 3 (.slice B (bE R t (j+1)).length d) (bE R t (j+1)).length (flat bd (bE R t (j+1))),aP fm nb r l,own 50 3 (.slice m R.length cR) R.length (flat bd R),an g4 58 (nk (.slice none 0 0) 0 0 0)] []) ?_ ?_
   ·refine ak (γ:=Nat) (fun g19=>[(19,(ah g19)),(18,.int .i64 (j:Int))]) (fun g19 w'=>Hp w ab w' [an g17 58 (nk (.slice B (bE R t j).length d) 1 0 s),own 50 3 (.slice B (bE R t j).length d) (bE R t j).length (flat bd (bE R t j)),aP fm nb r l,own 50 3 (.slice m R.length cR) R.length (flat bd R),an g4 58 (nk (.slice none 0 0) 0 0 0),an g19 50 (dc x.1 x.2.1 x.2.2)] []) ?_ ?_
    ·obtain ⟨gR,rfl⟩:=jV (H.get 3 rfl) (by omega);refine aq underlying44 (s:=3) aX j rfl (by omega) (o':=j*3) (by omega) ?_;refine H.eE 3 rfl bR fo aX j rfl V ?_;refine H.alloc 50 (cs:=dc 0 0 0) ic rfl ?_;clear H;intro g19 O H;refine H.storeAll 0 rfl aX rfl (dA x.1 x.2.1 x.2.2) ?_;clear H;intro w14 H;exact ⟨g19,⟨rfl,rfl,trivial⟩,H.b9 [1,2,3,4,5,0] (by decide) rfl⟩
    clear H;rintro g19 u O H;refine H.lookup 2 rfl yH (j:Int) ?_;rw[q.get,← ht j]
    cases htj:t j with
    | true=>
     rw[htj,if_pos rfl] at f;refine ag rfl ?_;refine aa (F0 _) ?_;refine H.load 0 rfl FZ rfl ?_;refine H.ai 5 rfl fo aX ?_;refine H.bk zx (cs:=dc x.1 x.2.1 x.2.2) (by decide) (by decide) (by kernel_rfl) ?_;clear H;intro g20 w14 H;refine H.aG 2 0 zx rfl rfl rfl (dA _ _ _) (by omega) (by omega) ?_;clear H;intro B2 d2 w15 H;refine aa (F0 _) ?_;refine H.store 1 rfl Lc (Nat.le_of_ble_eq_true rfl) rfl ?_;clear H;intro w16 H;have e1:(bE R t (j+1)).length=(bE R t j).length+1:=by rw[f,List.length_append];rfl
     have e2:flat bd (bE R t (j+1))=flat bd (bE R t j)++bd x:=by rw[f];exact dD ..
     exact ⟨(B2,d2),trivial,by rw[e1,e2];exact H.b9 [1,2,3,4,5] (by decide) rfl⟩
    | false=>
     rw[htj,if_neg (by decide)] at f;refine ae rfl ?_;exact ⟨(B,d),trivial,by rw[f];exact H.b9 [0,1,2,3,4] (by decide) rfl⟩
   ·clear H;rintro ⟨B2,d2⟩ u O H;exact ⟨(j+1,B2,d2),by show R.length - (j+1)<R.length - j;omega,⟨up (by omega),trivial⟩,by show j+1≤R.length;omega,H⟩
  ·obtain rfl:j=R.length:=by omega
   exact ⟨(B,d),trivial,H.b9 [0,1,4] (by decide) rfl⟩
 clear H;rintro ⟨B,d⟩ u M H;refine H.ai 0 rfl mH dP ?_;refine H.storeAll 2 rfl dP rfl gn ?_;clear H;intro O H;refine H.ai 2 rfl mH dP ?_;refine ⟨rfl,?_⟩;obtain ⟨f1,f2,f3⟩:=hfin G hGs K (t:=t) (fun c _=>by rw[ht c,decide_eq_true_iff]);exact ⟨B,d,bE R t R.length,s,0,rfl,.inl ⟨rfl,f1,f2,f3⟩,H.u_ 1 rfl⟩
theorem xm {S:er}(d:cF S){R:List Rw}(h:ru S S.on.length R):(∀ x ∈ R,im S.n S.on.length x)∧bD S R=true:=by
 refine ⟨fun x c=>(h.qz x c).ok d,?_⟩;rw[gU d];intro j a b e f;refine ⟨h.out j a (List.getElem?_eq_some_iff.1 e).1 e,fun p g=>?_⟩;obtain ⟨x,c,i,k⟩:=gQ.1 g;exact (h.qz x c).qz j b i f p k
def F4 (S:er)(rows:List Rw):Prop:=(∀ x ∈ rows,im S.n S.on.length x)∧bD S rows=true∧pG S rows rows.length
theorem Ld:eU prog 26=some (.int .i64 0):=by kernel_rfl
theorem F5 {A:Option Addr}{l c:Nat}{a s:Int}{w:World}{kk:Value→World→Prop}(h:kk (Ia (.slice A l c) 2 a s) w):b6 prog 58 [(0,.slice A l c),(1,.int .i64 2),(2,.int .i64 a),(3,.int .i64 s)] w kk:=bx (fun w=>by kernel_rfl) h
theorem M1:enters prog 56=true:=by kernel_rfl
theorem O_ {S:er}(k:cF S)(s a:Int)(g2 g7:Nat)(Bo:Option Addr)(co:Nat)(Bm:Option Addr)(cm:Nat)(w:World)(t:gi w S Bo co Bm cm)(i:(an g2 41 (bp S.n (.slice Bo S.on.length co) (.slice Bm S.may.length cm))).ok w)(x:(an g7 26 #[.int .i64 a]).ok w) :
  bz prog 56 ([.int .i64 s]++[(ah g2),(ah g7)]) w fun v w'=>∃ A c rows,v=.tuple #[Ia (.slice A rows.length c) 2 a s,.int .i64 0]∧F4 S rows∧eW w w' (own 50 3 (.slice A rows.length c) rows.length (flat bd rows)):=by
 refine ar (N:=26) func56 M1 rfl rfl rfl (by simp) ?_;have H:Hp w ab w [] [an g2 41 (bp S.n (.slice Bo S.on.length co) (.slice Bm S.may.length cm)),an g7 26 #[.int .i64 a]]:=Hp.start w _ _ (by intro r e;simp only[List.mem_cons,List.not_mem_nil,or_false] at e;rcases e with rfl | rfl;exact i;exact x)
  (by
   intro r e g b;simp only[List.mem_cons,List.not_mem_nil,or_false] at e;rcases e with rfl | rfl
   ·have b:g=g2:=b;subst b;exact jo i
   ·have b:g=g7:=b;subst b;exact jo x)
 refine ak (γ:=Nat) (fun g4=>[(4,(ah g4))]) (fun g4 w'=>Hp w ab w' [an g4 58 (nk (.slice none 0 0) 0 0 0)] [an g2 41 (bp S.n (.slice Bo S.on.length co) (.slice Bm S.may.length cm)),an g7 26 #[.int .i64 a]]) ?_ ?_
 ·refine H.alloc 58 (cs:=nk (.slice none 0 0) 0 0 0) um rfl ?_;clear H;intro g4 y H;exact ⟨g4,⟨rfl,trivial⟩,H⟩
 clear H;rintro g4 u F H;refine ak (γ:=Option Addr × Nat × List Rw) (fun (A,c,R)=>[(6,.slice A R.length c)]) (fun (A,c,R) w'=>(ru S S.on.length R∧R.length≤26244)∧Hp w ab w' [own 50 3 (.slice A R.length c) R.length (flat bd R),an g4 58 (nk (.slice none 0 0) 0 0 0)] [an g2 41 (bp S.n (.slice Bo S.on.length co) (.slice Bm S.may.length cm)),an g7 26 #[.int .i64 a]]) ?_ ?_
 ·refine fT (H.ro 0 rfl) (bp S.n (.slice Bo S.on.length co) (.slice Bm S.may.length cm)).toList dz bH (fun j v l=>by rwa [Array.getElem?_toList] at l) ?_;refine aj (Pm k Bo co Bm cm _ (t.same H.keeps)) ?_;rintro _ z ⟨A,c,R,rfl,m,f,o⟩;exact ⟨(A,c,R),⟨rfl,trivial⟩,⟨m,f⟩,H.bq o⟩
 clear H;rintro ⟨A,c,R⟩ u z ⟨⟨m,f⟩,H⟩;obtain ⟨p,h⟩:=xm k m;refine ak (γ:=Option Addr × Nat × List Rw) (fun (A,c,R)=>[(8,.slice A R.length c),(9,.int .i64 0)]) (fun (A,c,R) w'=>F4 S R∧Hp w ab w' [own 50 3 (.slice A R.length c) R.length (flat bd R),an g4 58 (nk (.slice none 0 0) 0 0 0)] [an g2 41 (bp S.n (.slice Bo S.on.length co) (.slice Bm S.may.length cm)),an g7 26 #[.int .i64 a]]) ?_ ?_
 ·refine fT (H.ro 0 rfl) (bp S.n (.slice Bo S.on.length co) (.slice Bm S.may.length cm)).toList dz bH (fun j v l=>by rwa [Array.getElem?_toList] at l) ?_;refine aj (Pn k R p (by omega) h Bo co Bm cm A c _ (t.same H.keeps) (bB (H.get 0 rfl))) ?_;rintro _ y ⟨B,d,q,rfl,⟨_,C,i,D⟩,o⟩;exact ⟨(B,d,q),⟨rfl,rfl,trivial⟩,⟨C,i,D⟩,(H.bq o).b9 [0,2] (by decide) rfl⟩
 clear H;rintro ⟨B,d,q⟩ u y ⟨E,H⟩;refine aB od ((aQ (H.ro 1 rfl) 0).trans rfl) ?_;refine F5 ?_;refine H.storeAll 1 rfl dP rfl gn ?_;clear H;intro G H;refine H.ai 1 rfl mH dP ?_;refine ⟨rfl,?_⟩;exact ⟨B,d,q,rfl,E,H.u_ 0 rfl⟩
def y_ (n s:Int):Prop:=n<0∨20000<n∨s<0∨1000000<s
def qD (S:er)(nodes steps:Int)(rows:List Rw)(st a e:Int):Prop:=
 (y_ nodes steps∧rows=[]∧st=0∧a=0∧e=1)∨(¬ y_ nodes steps∧e=0∧
  ((st=1∧a=0∧(∀ x ∈ rows,dX S x)∧bD S rows=true∧∀ L,(∀ x ∈ L,im S.n S.on.length x)→bD S L=true→rows.length≤L.length)∨
   (st=2∧F4 S rows∧((a=5∧nodes<(DE S.n S.may.length:Int))∨(a=6∧∃ R:List Rw,(∀ x,x ∈ R↔dX S x)∧R.Nodup∧steps<(2^R.length:Nat))))))
theorem AU {g2 g7:Nat}{w:World}{kk:Value→World→Prop}(h:kk (.func (.func 56) #[] #[(ah g2),(ah g7)]) w) :
  cD prog (.func 56) [] [(ah g2),(ah g7)] w kk:=by
 unfold cD;exact ⟨_,w,by kernel_rfl,h⟩
theorem M3:enters prog 25=true:=by kernel_rfl
theorem Pr {S:er}(g:cF S)(k:S.n≤4)(l:S.may.length≤3)(nodes steps:Int)(Bo:Option Addr)(co:Nat)(Bm:Option Addr)(cm:Nat)(w:World)(h:gi w S Bo co Bm cm) :
  bz prog 25 [sf S.n (.slice Bo S.on.length co) (.slice Bm S.may.length cm),D4 nodes steps] w fun v w'=>∃ A c rows st d s e,v=.tuple #[Ia (.slice A rows.length c) st d s,.int .i64 e]∧qD S nodes steps rows st d e∧eW w w' (own 50 3 (.slice A rows.length c) rows.length (flat bd rows)):=by
 refine ar (N:=56) func25 M3 rfl rfl rfl (by simp) ?_;have H:=Hp.aC w;refine ak (γ:=Nat × Nat × Nat) (fun (g2,g3,g4)=>[(2,(ah g2)),(3,(ah g3)),(4,(ah g4))]) (fun (g2,g3,g4) w'=>Hp w ab w' [an g4 58 (nk (.slice none 0 0) 0 0 0),an g3 23 (ji nodes steps),an g2 41 (bp S.n (.slice Bo S.on.length co) (.slice Bm S.may.length cm))] []) ?_ ?_
 ·refine H.box 41 _ (cs:=bp S.n (.slice Bo S.on.length co) (.slice Bm S.may.length cm)) rfl ?_;clear H;intro g2 C H;refine H.box 23 _ (cs:=ji nodes steps) rfl ?_;clear H;intro g3 m H;refine H.alloc 58 (cs:=nk (.slice none 0 0) 0 0 0) um rfl ?_;clear H;intro g4 y H;exact ⟨(g2,g3,g4),⟨rfl,rfl,rfl,trivial⟩,H⟩
 clear H;rintro ⟨g2,g3,g4⟩ u C H;by_cases a:y_ nodes steps
 ·refine H.ai 2 rfl dz bH ?_;refine aj (Hv g Bo co Bm cm _ (h.same H.keeps)) ?_;rintro _ m ⟨rfl,i⟩;replace H:=H.same i;clear i;have b:∀ {u:World},Hp w ab u [an g4 58 (nk (.slice none 0 0) 0 0 0),an g3 23 (ji nodes steps),an g2 41 (bp S.n (.slice Bo S.on.length co) (.slice Bm S.may.length cm))] []→∃ A c rows st d s e,Value.tuple #[Ia (.slice none 0 0) 0 0 0,.int .i64 1]=.tuple #[Ia (.slice A (rows:List Rw).length c) st d s,.int .i64 e]∧qD S nodes steps rows st d e∧eW w u (own 50 3 (.slice A rows.length c) rows.length (flat bd rows)):=fun {u} H=>⟨none,0,[],0,0,0,1,rfl,.inl ⟨a,rfl,rfl,rfl,rfl⟩,((H.bC 50 3).only).out⟩;by_cases G:nodes<0
  ·refine ae rfl ?_;refine aa (lV _) ?_;refine ae rfl ?_;refine H.load 1 rfl aE rfl ?_
   iterate 2 refine ae rfl ?_
   iterate 4 refine ag (decide_eq_true (by assumption)) ?_
   iterate 9 refine ag rfl ?_
   refine mI ?_;refine H.storeAll 0 rfl dP rfl gn ?_;clear H;intro o H;refine H.ai 0 rfl mH dP ?_;exact ⟨rfl,b H⟩
  ·by_cases I:20000<nodes
   ·refine ae rfl ?_;refine aa (lV _) ?_;refine ae rfl ?_;refine H.load 1 rfl aE rfl ?_
    iterate 2 refine ae rfl ?_
    refine ae (decide_eq_false (by assumption)) ?_;refine aa (lV _) ?_;refine ae (decide_eq_false (by assumption)) ?_;refine H.load 1 rfl aE rfl ?_
    iterate 2 refine ae (decide_eq_false (by assumption)) ?_
    iterate 4 refine ag (decide_eq_true (by assumption)) ?_
    iterate 5 refine ag rfl ?_
    refine mI ?_;refine H.storeAll 0 rfl dP rfl gn ?_;clear H;intro o H;refine H.ai 0 rfl mH dP ?_;exact ⟨rfl,b H⟩
   ·by_cases J:steps<0
    ·refine ae rfl ?_;refine aa (lV _) ?_;refine ae rfl ?_;refine H.load 1 rfl aE rfl ?_
     iterate 2 refine ae rfl ?_
     refine ae (decide_eq_false (by assumption)) ?_;refine aa (lV _) ?_;refine ae (decide_eq_false (by assumption)) ?_;refine H.load 1 rfl aE rfl ?_
     iterate 3 refine ae (decide_eq_false (by assumption)) ?_
     refine aa (j6 _) ?_;refine ae (decide_eq_false (by assumption)) ?_;refine H.load 1 rfl aE rfl ?_
     iterate 2 refine ae (decide_eq_false (by assumption)) ?_
     iterate 4 refine ag (decide_eq_true (by assumption)) ?_
     refine ag rfl ?_;refine mI ?_;refine H.storeAll 0 rfl dP rfl gn ?_;clear H;intro o H;refine H.ai 0 rfl mH dP ?_;exact ⟨rfl,b H⟩
    ·have K:1000000<steps:=by unfold y_ at a;omega
     refine ae rfl ?_;refine aa (lV _) ?_;refine ae rfl ?_;refine H.load 1 rfl aE rfl ?_
     iterate 2 refine ae rfl ?_
     refine ae (decide_eq_false (by assumption)) ?_;refine aa (lV _) ?_;refine ae (decide_eq_false (by assumption)) ?_;refine H.load 1 rfl aE rfl ?_
     iterate 3 refine ae (decide_eq_false (by assumption)) ?_
     refine aa (j6 _) ?_;refine ae (decide_eq_false (by assumption)) ?_;refine H.load 1 rfl aE rfl ?_
     iterate 3 refine ae (decide_eq_false (by assumption)) ?_
     refine aa (j6 _) ?_;refine ae (decide_eq_false (by assumption)) ?_;refine H.load 1 rfl aE rfl ?_
     iterate 2 refine ae (decide_eq_false (by assumption)) ?_
     refine ag (decide_eq_true (by assumption)) ?_;refine mI ?_;refine H.storeAll 0 rfl dP rfl gn ?_;clear H;intro o H;refine H.ai 0 rfl mH dP ?_;exact ⟨rfl,b H⟩
 have p:=a;unfold y_ at p;refine aw (fun w'=>Hp w ab w' [an g4 58 (nk (.slice none 0 0) 0 0 0),an g3 23 (ji nodes steps),an g2 41 (bp S.n (.slice Bo S.on.length co) (.slice Bm S.may.length cm))] []) ?_ ?_
 ·refine H.ai 2 rfl dz bH ?_;refine aj (Hv g Bo co Bm cm _ (h.same H.keeps)) ?_;rintro _ m ⟨rfl,i⟩;replace H:=H.same i;clear i;refine ae rfl ?_;refine aa (lV _) ?_;refine ae rfl ?_;refine H.load 1 rfl aE rfl ?_
  iterate 2 refine ae rfl ?_
  refine ae (decide_eq_false (by omega)) ?_;refine aa (lV _) ?_;refine ae (decide_eq_false (by omega)) ?_;refine H.load 1 rfl aE rfl ?_
  iterate 3 refine ae (decide_eq_false (by omega)) ?_
  refine aa (j6 _) ?_;refine ae (decide_eq_false (by omega)) ?_;refine H.load 1 rfl aE rfl ?_
  iterate 3 refine ae (decide_eq_false (by omega)) ?_
  refine aa (j6 _) ?_;refine ae (decide_eq_false (by omega)) ?_;refine H.load 1 rfl aE rfl ?_
  iterate 3 refine ae (decide_eq_false (by omega)) ?_
  exact ⟨(),trivial,H⟩
 clear H;rintro ⟨⟩ u m H;obtain ⟨st,rfl⟩:∃ st:Nat,steps=st:=⟨steps.toNat,by omega⟩;refine ak (γ:=Nat × Nat × Option Addr × Nat × List Rw × Int × Int) (fun (g6,g7,_)=>[(6,(ah g6)),(7,(ah g7))]) (fun (g6,g7,A,c,R,s,e) w'=>MZ S nodes st R e∧Hp w ab w' [an g7 26 #[.int .i64 e],an g6 58 (nk (.slice A R.length c) (if e=0 then 1 else 0) 0 s),own 50 3 (.slice A R.length c) R.length (flat bd R),an g4 58 (nk (.slice none 0 0) 0 0 0),an g3 23 (ji nodes st),an g2 41 (bp S.n (.slice Bo S.on.length co) (.slice Bm S.may.length cm))] []) ?_ ?_
 ·refine H.ai 2 rfl dz bH ?_;refine H.ai 1 rfl Ce xl ?_;refine aj (Pq g k l nodes st (by omega) (by omega) (by omega) Bo co Bm cm _ (h.same H.keeps)) ?_;rintro _ y ⟨A,c,R,s,e,rfl,q,j⟩;replace H:=H.bq j;refine H.alloc 58 (cs:=nk (.slice none 0 0) 0 0 0) um rfl ?_;clear H;intro g6 z H;refine H.alloc 26 (cs:=#[.int .i64 0]) Ld rfl ?_;clear H;intro g7 r H;refine H.storeAll 1 rfl dP rfl gn ?_;clear H;intro B H;refine H.store 0 rfl jI (Nat.le_of_ble_eq_true rfl) rfl ?_;clear H;intro M H;exact ⟨(g6,g7,A,c,R,s,e),⟨rfl,rfl,trivial⟩,q,H⟩
 clear H;rintro ⟨g6,g7,A,c,R,s,e⟩ u y ⟨q,H⟩;refine ak (γ:=Unit) (fun _=>[(8,.func (.func 56) #[] #[(ah g2),(ah g7)])]) (fun _ w'=>Hp.cl H w') ?_ ?_
 ·refine AU ?_;exact ⟨(),⟨rfl,trivial⟩,H⟩
 rintro ⟨⟩ u z H1;replace H:Hp w ab z [an g7 26 #[.int .i64 e],an g6 58 (nk (.slice A R.length c) (if e=0 then 1 else 0) 0 s),own 50 3 (.slice A R.length c) R.length (flat bd R),an g4 58 (nk (.slice none 0 0) 0 0 0),an g3 23 (ji nodes st),an g2 41 (bp S.n (.slice Bo S.on.length co) (.slice Bm S.may.length cm))] []:=H1;clear H1;refine H.load 0 rfl od rfl ?_;rcases q with ⟨rfl,f1,f2,f3⟩ | ⟨rfl,rfl,f⟩ | ⟨rfl,rfl,f⟩
 ·refine ag rfl ?_;refine H.ai 1 rfl mH dP ?_;refine H.storeAll 3 rfl dP rfl gn ?_;clear H;intro r H;refine H.ai 3 rfl mH dP ?_;refine ⟨rfl,?_⟩;exact ⟨A,c,R,1,0,s,0,rfl,.inr ⟨a,rfl,.inl ⟨rfl,rfl,f1,f2,f3⟩⟩,H.u_ 2 rfl⟩
 ·refine ae rfl ?_;refine ae rfl ?_;refine fx (args:=[.int .i64 0]) (cap:=[(ah g2),(ah g7)]) (O_ g 0 5 g2 g7 Bo co Bm cm _ (h.same H.keeps) (H.get 5 rfl) (H.get 0 rfl)) ?_;rintro _ r ⟨t,c2,rows,rfl,x,j⟩;replace H:=H.bq j;refine H.storeAll 4 rfl dP rfl gn ?_;clear H;intro B H;refine H.ai 4 rfl mH dP ?_;refine ⟨rfl,?_⟩;exact ⟨t,c2,rows,2,5,0,0,rfl,.inr ⟨a,rfl,.inr ⟨rfl,x,.inl ⟨rfl,f⟩⟩⟩,H.u_ 0 rfl⟩
 ·refine ae rfl ?_;refine ag rfl ?_;refine aa (j6 _) ?_;refine H.load 4 rfl aE rfl ?_;refine fx (args:=[.int .i64 (st:Int)]) (cap:=[(ah g2),(ah g7)]) (O_ g st 6 g2 g7 Bo co Bm cm _ (h.same H.keeps) (H.get 5 rfl) (H.get 0 rfl)) ?_;rintro _ r ⟨t,c2,rows,rfl,x,j⟩;replace H:=H.bq j;refine H.storeAll 4 rfl dP rfl gn ?_;clear H;intro B H;refine H.ai 4 rfl mH dP ?_;refine ⟨rfl,?_⟩;obtain ⟨D,E,F,O⟩:=f;exact ⟨t,c2,rows,2,6,st,0,rfl,.inr ⟨a,rfl,.inr ⟨rfl,x,.inr ⟨rfl,D,E,F,by omega⟩⟩⟩,H.u_ 0 rfl⟩
end Go.Proofs.YtpjihhgjbbihkaaGreatDoor
namespace Go.Proofs
open Go.Shelf
def Tryz.za:Go.Shelf.Ren:=⟨fun | 103=>73 | 210=>99 | 206=>141 | n=>n,fun | 9=>9 | 4=>4 | 24=>127 | 3=>3 | n=>n,fun | n=>n⟩
theorem Tryz.Ib:Go.Proofs.Lays.n103 prog Tryz.za:={
 mixed:=by kernel_rfl
 f103:=func73.trans (congrArg some (by kernel_rfl))
 f206:=func141.trans (congrArg some (by kernel_rfl))
 f210:=func99.trans (congrArg some (by kernel_rfl))
 t3:=underlying3
 a3:=Tryz.isAgg3
 z3:=Tryz.sizeOf3
 v3:=Tryz.zeroValue3
 t4:=underlying4
 a4:=Tryz.isAgg4
 z4:=Tryz.sizeOf4
 v4:=Tryz.zeroValue4
 t9:=underlying9
 a9:=Tryz.isAgg9
 z9:=Tryz.sizeOf9
 v9:=Tryz.zeroValue9
 t24:=underlying127
 a24:=Tryz.isAgg127
 z24:=Tryz.sizeOf127
 v24:=Tryz.zeroValue127 }
open Go.RowKit in
theorem Tryz.strings_CutPrefix (s p:ByteArray)(w:World) :
  Calls prog 73 #[.string s,.string p] w fun e w'=>e=.returned (.tuple #[.string ⟨(Lib.trimPrefix s.data.toList p.data.toList).toArray⟩,.bool (Lib.hasPrefix s.data.toList p.data.toList)])∧w'=w:=Any.strings_CutPrefix Tryz.Ib s p w
def Tryz.xn:Go.Shelf.Ren:=⟨fun | 171=>60 | 243=>94 | 246=>134 | 283=>162 | 284=>163 | 285=>164 | 286=>165 | 129=>192 | 317=>191 | 318=>193 | 319=>194 | 320=>195 | 337=>207 | 338=>208 | n=>n,fun | 3=>3 | 9=>9 | 2=>2 | 4=>4 | 171=>226 | 0=>0 | 53=>81 | 37=>151 | 5=>5 | 173=>229 | 212=>257 | 51=>258 | 20=>20 | 213=>259 | 46=>213 | 232=>289 | 233=>290 | n=>n,fun | 17=>1 | 18=>6 | 19=>7 | n=>n⟩
theorem Tryz.F6:Go.Proofs.LaysM.n171 prog Tryz.xn:={
 mixed:=by kernel_rfl
 f129:=func192.trans (congrArg some (by kernel_rfl))
 f171:=func60.trans (congrArg some (by kernel_rfl))
 f243:=func94.trans (congrArg some (by kernel_rfl))
 f246:=func134.trans (congrArg some (by kernel_rfl))
 f283:=func162.trans (congrArg some (by kernel_rfl))
 f284:=func163.trans (congrArg some (by kernel_rfl))
 f285:=func164.trans (congrArg some (by kernel_rfl))
 f286:=func165.trans (congrArg some (by kernel_rfl))
 f317:=func191.trans (congrArg some (by kernel_rfl))
 f318:=func193.trans (congrArg some (by kernel_rfl))
 f319:=func194.trans (congrArg some (by kernel_rfl))
 f320:=func195.trans (congrArg some (by kernel_rfl))
 f337:=func207.trans (congrArg some (by kernel_rfl))
 f338:=func208.trans (congrArg some (by kernel_rfl))
 t0:=underlying0
 a0:=Tryz.isAgg0
 z0:=Tryz.sizeOf0
 v0:=Tryz.zeroValue0
 t2:=underlying2
 a2:=Tryz.isAgg2
 z2:=Tryz.sizeOf2
 v2:=Tryz.zeroValue2
 t3:=underlying3
 a3:=Tryz.isAgg3
 z3:=Tryz.sizeOf3
 v3:=Tryz.zeroValue3
 t4:=underlying4
 a4:=Tryz.isAgg4
 z4:=Tryz.sizeOf4
 v4:=Tryz.zeroValue4
 t5:=underlying5
 a5:=Tryz.isAgg5
 z5:=Tryz.sizeOf5
 v5:=Tryz.zeroValue5
 t9:=underlying9
 a9:=Tryz.isAgg9
 z9:=Tryz.sizeOf9
 v9:=Tryz.zeroValue9
 t20:=underlying20
 a20:=Tryz.isAgg20
 z20:=Tryz.sizeOf20
 v20:=Tryz.zeroValue20
 t37:=underlying151
 a37:=Tryz.isAgg151
 z37:=Tryz.sizeOf151
 v37:=Tryz.zeroValue151
 t46:=underlying213
 a46:=Tryz.isAgg213
 z46:=Tryz.sizeOf213
 v46:=Tryz.zeroValue213
 t51:=underlying258
 a51:=Tryz.isAgg258
 z51:=Tryz.sizeOf258
 v51:=Tryz.zeroValue258
 t53:=underlying81
 a53:=Tryz.isAgg81
 z53:=Tryz.sizeOf81
 v53:=Tryz.zeroValue81
 t171:=underlying226
 a171:=Tryz.isAgg226
 z171:=Tryz.sizeOf226
 v171:=Tryz.zeroValue226
 t173:=underlying229
 a173:=Tryz.isAgg229
 z173:=Tryz.sizeOf229
 v173:=Tryz.zeroValue229
 t212:=underlying257
 a212:=Tryz.isAgg257
 z212:=Tryz.sizeOf257
 v212:=Tryz.zeroValue257
 t213:=underlying259
 a213:=Tryz.isAgg259
 z213:=Tryz.sizeOf259
 t232:=underlying289
 a232:=Tryz.isAgg289
 z232:=Tryz.sizeOf289
 v232:=Tryz.zeroValue289
 t233:=underlying290
 a233:=Tryz.isAgg290
 z233:=Tryz.sizeOf290
 v233:=Tryz.zeroValue290
 g17:=by kernel_rfl
 g18:=by kernel_rfl
 g19:=by kernel_rfl
 i0:=by kernel_rfl
 i2:=by kernel_rfl
 i3:=by kernel_rfl
 i4:=by kernel_rfl
 i5:=by kernel_rfl
 i9:=by kernel_rfl
 i20:=by kernel_rfl
 i37:=by kernel_rfl
 i46:=by kernel_rfl
 i51:=by kernel_rfl
 i53:=by kernel_rfl
 i171:=by kernel_rfl
 i173:=by kernel_rfl
 i212:=by kernel_rfl
 i232:=by kernel_rfl
 i233:=by kernel_rfl
 m17:=by kernel_rfl
 m18:=by kernel_rfl
 m19:=by kernel_rfl }
open Go.RowKit Go.Sort Go.Lib in
theorem Tryz.strconv_Itoa (n : Int) (h0 : -9223372036854775808 ≤ n) (h1 : n ≤ 9223372036854775807) (w : World) (htab : Lib.TabIs prog w "internal/strconv.uint64pow10" .u64 Lib.pow10Tab) :
  Calls prog 60 #[.int .i64 n] w fun e w'=>e=.returned (.string ⟨(Lib.itoa n).toArray⟩)∧∃ k os,w'=grow (w.drewN k) os:=Any.strconv_Itoa Tryz.F6 n h0 h1 w htab
def Tryz.zb:Go.Shelf.Ren:=⟨fun | 171=>60 | 243=>94 | 246=>134 | 283=>162 | 284=>163 | 285=>164 | 286=>165 | 129=>192 | 317=>191 | 318=>193 | 319=>194 | 320=>195 | 337=>207 | 338=>208 | n=>n,fun | 3=>3 | 9=>9 | 2=>2 | 4=>4 | 171=>226 | 0=>0 | 53=>81 | 37=>151 | 5=>5 | 173=>229 | 212=>257 | 51=>258 | 20=>20 | 213=>259 | 46=>213 | 232=>289 | 233=>290 | n=>n,fun | 17=>1 | 18=>6 | 19=>7 | n=>n⟩
theorem Tryz.Ic:Go.Proofs.Lays.n171 prog Tryz.zb:={
 mixed:=by kernel_rfl
 f129:=func192.trans (congrArg some (by kernel_rfl))
 f171:=func60.trans (congrArg some (by kernel_rfl))
 f243:=func94.trans (congrArg some (by kernel_rfl))
 f246:=func134.trans (congrArg some (by kernel_rfl))
 f283:=func162.trans (congrArg some (by kernel_rfl))
 f284:=func163.trans (congrArg some (by kernel_rfl))
 f285:=func164.trans (congrArg some (by kernel_rfl))
 f286:=func165.trans (congrArg some (by kernel_rfl))
 f317:=func191.trans (congrArg some (by kernel_rfl))
 f318:=func193.trans (congrArg some (by kernel_rfl))
 f319:=func194.trans (congrArg some (by kernel_rfl))
 f320:=func195.trans (congrArg some (by kernel_rfl))
 f337:=func207.trans (congrArg some (by kernel_rfl))
 f338:=func208.trans (congrArg some (by kernel_rfl))
 t0:=underlying0
 a0:=Tryz.isAgg0
 z0:=Tryz.sizeOf0
 v0:=Tryz.zeroValue0
 t2:=underlying2
 a2:=Tryz.isAgg2
 z2:=Tryz.sizeOf2
 v2:=Tryz.zeroValue2
 t3:=underlying3
 a3:=Tryz.isAgg3
 z3:=Tryz.sizeOf3
 v3:=Tryz.zeroValue3
 t4:=underlying4
 a4:=Tryz.isAgg4
 z4:=Tryz.sizeOf4
 v4:=Tryz.zeroValue4
 t5:=underlying5
 a5:=Tryz.isAgg5
 z5:=Tryz.sizeOf5
 v5:=Tryz.zeroValue5
 t9:=underlying9
 a9:=Tryz.isAgg9
 z9:=Tryz.sizeOf9
 v9:=Tryz.zeroValue9
 t20:=underlying20
 a20:=Tryz.isAgg20
 z20:=Tryz.sizeOf20
 v20:=Tryz.zeroValue20
 t37:=underlying151
 a37:=Tryz.isAgg151
 z37:=Tryz.sizeOf151
 v37:=Tryz.zeroValue151
 t46:=underlying213
 a46:=Tryz.isAgg213
 z46:=Tryz.sizeOf213
 v46:=Tryz.zeroValue213
 t51:=underlying258
 a51:=Tryz.isAgg258
 z51:=Tryz.sizeOf258
 v51:=Tryz.zeroValue258
 t53:=underlying81
 a53:=Tryz.isAgg81
 z53:=Tryz.sizeOf81
 v53:=Tryz.zeroValue81
 t171:=underlying226
 a171:=Tryz.isAgg226
 z171:=Tryz.sizeOf226
 v171:=Tryz.zeroValue226
 t173:=underlying229
 a173:=Tryz.isAgg229
 z173:=Tryz.sizeOf229
 v173:=Tryz.zeroValue229
 t212:=underlying257
 a212:=Tryz.isAgg257
 z212:=Tryz.sizeOf257
 v212:=Tryz.zeroValue257
 t213:=underlying259
 a213:=Tryz.isAgg259
 z213:=Tryz.sizeOf259
 t232:=underlying289
 a232:=Tryz.isAgg289
 z232:=Tryz.sizeOf289
 v232:=Tryz.zeroValue289
 t233:=underlying290
 a233:=Tryz.isAgg290
 z233:=Tryz.sizeOf290
 v233:=Tryz.zeroValue290
 g17:=by kernel_rfl
 g18:=by kernel_rfl
 g19:=by kernel_rfl }
open Go.RowKit Go.Sort Go.Lib in
theorem Tryz.strconv_Itoa_small (i:Nat)(hi:i<100)(w:World) :
  Calls prog 60 #[.int .i64 i] w fun e w'=>e=.returned (.string ⟨(Lib.decDigits i).toArray⟩)∧w'=w:=Any.strconv_Itoa_small Tryz.Ic i hi w
def Tryz.xp:Go.Shelf.Ren:=⟨fun | 172=>98 | 244=>139 | 245=>140 | 247=>171 | 279=>172 | 280=>173 | 281=>174 | 282=>175 | 287=>198 | 316=>199 | 171=>60 | 205=>200 | 321=>209 | 322=>210 | 243=>94 | 246=>134 | 283=>162 | 284=>163 | 285=>164 | 286=>165 | 129=>192 | 317=>191 | 318=>193 | 319=>194 | 320=>195 | 337=>207 | 338=>208 | n=>n,fun | 9=>9 | 3=>3 | 75=>155 | 76=>156 | 4=>4 | 5=>5 | 167=>231 | 37=>151 | 0=>0 | 85=>232 | 2=>2 | 168=>234 | 53=>81 | 175=>267 | 46=>213 | 210=>271 | 127=>283 | 145=>286 | 143=>284 | 21=>21 | 171=>226 | 173=>229 | 212=>257 | 51=>258 | 20=>20 | 213=>259 | 232=>289 | 233=>290 | 80=>293 | n=>n,fun | 15=>4 | 16=>5 | 17=>1 | 18=>6 | 19=>7 | n=>n⟩
theorem Tryz.uo:Go.Proofs.LaysC.n172 prog Tryz.xp:={
 mixed:=by kernel_rfl
 f129:=func192.trans (congrArg some (by kernel_rfl))
 f171:=func60.trans (congrArg some (by kernel_rfl))
 f172:=func98.trans (congrArg some (by kernel_rfl))
 f205:=func200.trans (congrArg some (by kernel_rfl))
 f243:=func94.trans (congrArg some (by kernel_rfl))
 f244:=func139.trans (congrArg some (by kernel_rfl))
 f245:=func140.trans (congrArg some (by kernel_rfl))
 f246:=func134.trans (congrArg some (by kernel_rfl))
 f247:=func171.trans (congrArg some (by kernel_rfl))
 f279:=func172.trans (congrArg some (by kernel_rfl))
 f280:=func173.trans (congrArg some (by kernel_rfl))
 f281:=func174.trans (congrArg some (by kernel_rfl))
 f282:=func175.trans (congrArg some (by kernel_rfl))
 f283:=func162.trans (congrArg some (by kernel_rfl))
 f284:=func163.trans (congrArg some (by kernel_rfl))
 f285:=func164.trans (congrArg some (by kernel_rfl))
 f286:=func165.trans (congrArg some (by kernel_rfl))
 f287:=func198.trans (congrArg some (by kernel_rfl))
 f316:=func199.trans (congrArg some (by kernel_rfl))
 f317:=func191.trans (congrArg some (by kernel_rfl))
 f318:=func193.trans (congrArg some (by kernel_rfl))
 f319:=func194.trans (congrArg some (by kernel_rfl))
 f320:=func195.trans (congrArg some (by kernel_rfl))
 f321:=func209.trans (congrArg some (by kernel_rfl))
 f322:=func210.trans (congrArg some (by kernel_rfl))
 f337:=func207.trans (congrArg some (by kernel_rfl))
 f338:=func208.trans (congrArg some (by kernel_rfl))
 t0:=underlying0
 a0:=Tryz.isAgg0
 z0:=Tryz.sizeOf0
 v0:=Tryz.zeroValue0
 t2:=underlying2
 a2:=Tryz.isAgg2
 z2:=Tryz.sizeOf2
 v2:=Tryz.zeroValue2
 t3:=underlying3
 a3:=Tryz.isAgg3
 z3:=Tryz.sizeOf3
 v3:=Tryz.zeroValue3
 t4:=underlying4
 a4:=Tryz.isAgg4
 z4:=Tryz.sizeOf4
 v4:=Tryz.zeroValue4
 t5:=underlying5
 a5:=Tryz.isAgg5
 z5:=Tryz.sizeOf5
 v5:=Tryz.zeroValue5
 t9:=underlying9
 a9:=Tryz.isAgg9
 z9:=Tryz.sizeOf9
 v9:=Tryz.zeroValue9
 t20:=underlying20
 a20:=Tryz.isAgg20
 z20:=Tryz.sizeOf20
 v20:=Tryz.zeroValue20
 t21:=underlying21
 a21:=Tryz.isAgg21
 z21:=Tryz.sizeOf21
 v21:=Tryz.zeroValue21
 t37:=underlying151
 a37:=Tryz.isAgg151
 z37:=Tryz.sizeOf151
 v37:=Tryz.zeroValue151
 t46:=underlying213
 a46:=Tryz.isAgg213
 z46:=Tryz.sizeOf213
 v46:=Tryz.zeroValue213
 t51:=underlying258
 a51:=Tryz.isAgg258
 z51:=Tryz.sizeOf258
 v51:=Tryz.zeroValue258
 t53:=underlying81
 a53:=Tryz.isAgg81
 z53:=Tryz.sizeOf81
 v53:=Tryz.zeroValue81
 t75:=underlying155
 a75:=Tryz.isAgg155
 z75:=Tryz.sizeOf155
 v75:=Tryz.zeroValue155
 t76:=underlying156
 a76:=Tryz.isAgg156
 z76:=Tryz.sizeOf156
 v76:=Tryz.zeroValue156
 t85:=underlying232
 a85:=Tryz.isAgg232
 z85:=Tryz.sizeOf232
 v85:=Tryz.zeroValue232
 t127:=underlying283
 a127:=Tryz.isAgg283
 z127:=Tryz.sizeOf283
 v127:=Tryz.zeroValue283
 t143:=underlying284
 a143:=Tryz.isAgg284
 z143:=Tryz.sizeOf284
 v143:=Tryz.zeroValue284
 t145:=underlying286
 a145:=Tryz.isAgg286
 z145:=Tryz.sizeOf286
 v145:=Tryz.zeroValue286
 t167:=underlying231
 a167:=Tryz.isAgg231
 z167:=Tryz.sizeOf231
 v167:=Tryz.zeroValue231
 t168:=underlying234
 a168:=Tryz.isAgg234
 z168:=Tryz.sizeOf234
 v168:=Tryz.zeroValue234
 t171:=underlying226
 a171:=Tryz.isAgg226
 z171:=Tryz.sizeOf226
 v171:=Tryz.zeroValue226
 t173:=underlying229
 a173:=Tryz.isAgg229
 z173:=Tryz.sizeOf229
 v173:=Tryz.zeroValue229
 t175:=underlying267
 a175:=Tryz.isAgg267
 z175:=Tryz.sizeOf267
 v175:=Tryz.zeroValue267
 t210:=underlying271
 a210:=Tryz.isAgg271
 z210:=Tryz.sizeOf271
 v210:=Tryz.zeroValue271
 t212:=underlying257
 a212:=Tryz.isAgg257
 z212:=Tryz.sizeOf257
 v212:=Tryz.zeroValue257
 t213:=underlying259
 a213:=Tryz.isAgg259
 z213:=Tryz.sizeOf259
 t232:=underlying289
 a232:=Tryz.isAgg289
 z232:=Tryz.sizeOf289
 v232:=Tryz.zeroValue289
 t233:=underlying290
 a233:=Tryz.isAgg290
 z233:=Tryz.sizeOf290
 v233:=Tryz.zeroValue290
 g15:=by kernel_rfl
 g16:=by kernel_rfl
 g17:=by kernel_rfl
 g18:=by kernel_rfl
 g19:=by kernel_rfl
 t80:=underlying293
 a80:=Tryz.isAgg293
 z80:=Tryz.sizeOf293
 v80:=Tryz.zeroValue293
 i0:=by kernel_rfl
 i2:=by kernel_rfl
 i3:=by kernel_rfl
 i4:=by kernel_rfl
 i5:=by kernel_rfl
 i9:=by kernel_rfl
 i20:=by kernel_rfl
 i21:=by kernel_rfl
 i37:=by kernel_rfl
 i46:=by kernel_rfl
 i51:=by kernel_rfl
 i53:=by kernel_rfl
 i75:=by kernel_rfl
 i76:=by kernel_rfl
 i80:=by kernel_rfl
 i85:=by kernel_rfl
 i127:=by kernel_rfl
 i143:=by kernel_rfl
 i145:=by kernel_rfl
 i167:=by kernel_rfl
 i168:=by kernel_rfl
 i171:=by kernel_rfl
 i173:=by kernel_rfl
 i175:=by kernel_rfl
 i210:=by kernel_rfl
 i212:=by kernel_rfl
 i232:=by kernel_rfl
 i233:=by kernel_rfl
 m15:=by kernel_rfl
 m16:=by kernel_rfl
 m17:=by kernel_rfl
 m18:=by kernel_rfl
 m19:=by kernel_rfl
 c0:=by kernel_rfl
 c2:=by kernel_rfl
 c3:=by kernel_rfl
 c4:=by kernel_rfl
 c5:=by kernel_rfl
 c9:=by kernel_rfl
 c20:=by kernel_rfl
 c21:=by kernel_rfl
 c37:=by kernel_rfl
 c46:=by kernel_rfl
 c51:=by kernel_rfl
 c53:=by kernel_rfl
 c75:=by kernel_rfl
 c76:=by kernel_rfl
 c80:=by kernel_rfl
 c85:=by kernel_rfl
 c127:=by kernel_rfl
 c143:=by kernel_rfl
 c145:=by kernel_rfl
 c167:=by kernel_rfl
 c168:=by kernel_rfl
 c171:=by kernel_rfl
 c173:=by kernel_rfl
 c175:=by kernel_rfl
 c210:=by kernel_rfl
 c212:=by kernel_rfl
 c213:=by kernel_rfl
 c232:=by kernel_rfl
 c233:=by kernel_rfl }
open Go.RowKit in
theorem Tryz.strconv_Atoi_ok (s:ByteArray)(a:s.size≤9223372036854775806)(v:Int)(h:Lib.atoiAll s.data.toList=.ok v)(w:World) :
  Calls prog 98 #[.string s] w fun e w'=>e=.returned (.tuple #[.int .i64 v,.nilIface])∧(w'=w∨∃ t,w'=Lib.bytesWorld w 5 t):=Any.strconv_Atoi_ok Tryz.uo s a v h w
open Go.RowKit in
theorem Tryz.strconv_Atoi_syntax_var (s : ByteArray) (hlim : s.size ≤ 281474976710656) (h1 : ∀ v, Lib.atoiAll s.data.toList ≠ .ok v) (h2 : Lib.atoiAll s.data.toList ≠ .range) (tp : TypeId) (p : Value) (w : World) (hvar : w.var? prog "strconv.ErrSyntax" = some #[.iface tp p]) :
  Calls prog 98 #[.string s] w fun e w'=>∃ N,e=.returned (.tuple #[.int .i64 0,.iface 234 (.pointer (some ⟨N,0,none⟩))])∧w.heap.size≤N∧w'.heap[N]?=some (.cells #[.string ⟨#[65,116,111,105]⟩,.string s,.iface tp p] 271 (0,0))∧Below w.heap.size w w':=by
 cases h:Lib.atoiAll s.data.toList with
 | ok v=>exact absurd h (h1 v)
 | range=>exact absurd h h2
 | _=>exact Any.strconv_Atoi_syntax_var Tryz.uo s hlim h tp p w hvar
open Go.RowKit in
theorem Tryz.strconv_Atoi_range_var (s : ByteArray) (hlim : s.size ≤ 281474976710656) (h : Lib.atoiAll s.data.toList = .range) (tp : TypeId) (p : Value) (w : World) (hvar : w.var? prog "strconv.ErrRange" = some #[.iface tp p]) :
  Calls prog 98 #[.string s] w fun e w'=>∃ N,e=.returned (.tuple #[.int .i64 (Lib.atoiSat s.data.toList),.iface 234 (.pointer (some ⟨N,0,none⟩))])∧w.heap.size≤N∧w'.heap[N]?=some (.cells #[.string ⟨#[65,116,111,105]⟩,.string s,.iface tp p] 271 (0,0))∧Below w.heap.size w w':=Any.strconv_Atoi_range_var Tryz.uo s hlim h tp p w hvar
def Tryz.zc:Go.Shelf.Ren:=⟨fun | 145=>100 | 220=>142 | 219=>138 | 217=>167 | 225=>168 | 224=>169 | 267=>170 | 266=>196 | 314=>197 | n=>n,fun | 9=>9 | 4=>4 | 59=>158 | 3=>3 | 5=>5 | 46=>213 | 146=>265 | 51=>258 | n=>n,fun | 1=>0 | n=>n⟩
theorem Tryz.Ie:Go.Proofs.Lays.n145 prog Tryz.zc:={
 mixed:=by kernel_rfl
 f145:=func100.trans (congrArg some (by kernel_rfl))
 f217:=func167.trans (congrArg some (by kernel_rfl))
 f219:=func138.trans (congrArg some (by kernel_rfl))
 f220:=func142.trans (congrArg some (by kernel_rfl))
 f224:=func169.trans (congrArg some (by kernel_rfl))
 f225:=func168.trans (congrArg some (by kernel_rfl))
 f266:=func196.trans (congrArg some (by kernel_rfl))
 f267:=func170.trans (congrArg some (by kernel_rfl))
 f314:=func197.trans (congrArg some (by kernel_rfl))
 t3:=underlying3
 a3:=Tryz.isAgg3
 z3:=Tryz.sizeOf3
 v3:=Tryz.zeroValue3
 t4:=underlying4
 a4:=Tryz.isAgg4
 z4:=Tryz.sizeOf4
 v4:=Tryz.zeroValue4
 t5:=underlying5
 a5:=Tryz.isAgg5
 z5:=Tryz.sizeOf5
 v5:=Tryz.zeroValue5
 t9:=underlying9
 a9:=Tryz.isAgg9
 z9:=Tryz.sizeOf9
 v9:=Tryz.zeroValue9
 t46:=underlying213
 a46:=Tryz.isAgg213
 z46:=Tryz.sizeOf213
 v46:=Tryz.zeroValue213
 t51:=underlying258
 a51:=Tryz.isAgg258
 z51:=Tryz.sizeOf258
 v51:=Tryz.zeroValue258
 t59:=underlying158
 a59:=Tryz.isAgg158
 z59:=Tryz.sizeOf158
 v59:=Tryz.zeroValue158
 t146:=underlying265
 a146:=Tryz.isAgg265
 z146:=Tryz.sizeOf265
 v146:=Tryz.zeroValue265
 g1:=by kernel_rfl }
open Go.RowKit Go.Lib in
theorem Tryz.strings_Cut (s sep:ByteArray)(m:Int)(w:World)(hs:s.size<4294967281)(hm:w.cell? ⟨0,0,none⟩=some (.int .i64 m)) :
  Calls prog 100 #[.string s,.string sep] w fun e w'=>e=.returned (.tuple #[.string ⟨(Lib.cut s.data.toList sep.data.toList).1.toArray⟩,.string ⟨(Lib.cut s.data.toList sep.data.toList).2.1.toArray⟩,.bool (Lib.cut s.data.toList sep.data.toList).2.2])∧∃ n,w'=w.drewN n:=Any.strings_Cut Tryz.Ie s sep m w hs hm
def Tryz.zd:Go.Shelf.Ren:=⟨fun | 146=>47 | 221=>70 | 268=>95 | 138=>96 | 143=>97 | 195=>135 | 197=>136 | 218=>137 | 219=>138 | 260=>166 | 217=>167 | 225=>168 | 224=>169 | 267=>170 | 266=>196 | 314=>197 | n=>n,fun | 9=>9 | 31=>73 | 3=>3 | 4=>4 | 0=>0 | 105=>196 | 21=>21 | 5=>5 | 46=>213 | 119=>261 | 139=>264 | 138=>263 | 146=>265 | 51=>258 | n=>n,fun | 1=>0 | 3=>2 | 4=>3 | n=>n⟩
theorem Tryz.Ig:Go.Proofs.Lays.n146 prog Tryz.zd:={
 mixed:=by kernel_rfl
 f138:=func96.trans (congrArg some (by kernel_rfl))
 f143:=func97.trans (congrArg some (by kernel_rfl))
 f146:=func47.trans (congrArg some (by kernel_rfl))
 f195:=func135.trans (congrArg some (by kernel_rfl))
 f197:=func136.trans (congrArg some (by kernel_rfl))
 f217:=func167.trans (congrArg some (by kernel_rfl))
 f218:=func137.trans (congrArg some (by kernel_rfl))
 f219:=func138.trans (congrArg some (by kernel_rfl))
 f221:=func70.trans (congrArg some (by kernel_rfl))
 f224:=func169.trans (congrArg some (by kernel_rfl))
 f225:=func168.trans (congrArg some (by kernel_rfl))
 f260:=func166.trans (congrArg some (by kernel_rfl))
 f266:=func196.trans (congrArg some (by kernel_rfl))
 f267:=func170.trans (congrArg some (by kernel_rfl))
 f268:=func95.trans (congrArg some (by kernel_rfl))
 f314:=func197.trans (congrArg some (by kernel_rfl))
 t0:=underlying0
 a0:=Tryz.isAgg0
 z0:=Tryz.sizeOf0
 v0:=Tryz.zeroValue0
 t3:=underlying3
 a3:=Tryz.isAgg3
 z3:=Tryz.sizeOf3
 v3:=Tryz.zeroValue3
 t4:=underlying4
 a4:=Tryz.isAgg4
 z4:=Tryz.sizeOf4
 v4:=Tryz.zeroValue4
 t5:=underlying5
 a5:=Tryz.isAgg5
 z5:=Tryz.sizeOf5
 v5:=Tryz.zeroValue5
 t9:=underlying9
 a9:=Tryz.isAgg9
 z9:=Tryz.sizeOf9
 v9:=Tryz.zeroValue9
 t21:=underlying21
 a21:=Tryz.isAgg21
 z21:=Tryz.sizeOf21
 v21:=Tryz.zeroValue21
 t31:=underlying73
 a31:=Tryz.isAgg73
 z31:=Tryz.sizeOf73
 v31:=Tryz.zeroValue73
 t46:=underlying213
 a46:=Tryz.isAgg213
 z46:=Tryz.sizeOf213
 v46:=Tryz.zeroValue213
 t51:=underlying258
 a51:=Tryz.isAgg258
 z51:=Tryz.sizeOf258
 v51:=Tryz.zeroValue258
 t105:=underlying196
 a105:=Tryz.isAgg196
 z105:=Tryz.sizeOf196
 v105:=Tryz.zeroValue196
 t119:=underlying261
 a119:=Tryz.isAgg261
 z119:=Tryz.sizeOf261
 t138:=underlying263
 a138:=Tryz.isAgg263
 z138:=Tryz.sizeOf263
 v138:=Tryz.zeroValue263
 t139:=underlying264
 a139:=Tryz.isAgg264
 z139:=Tryz.sizeOf264
 v139:=Tryz.zeroValue264
 t146:=underlying265
 a146:=Tryz.isAgg265
 z146:=Tryz.sizeOf265
 v146:=Tryz.zeroValue265
 g1:=by kernel_rfl
 g3:=by kernel_rfl
 g4:=by kernel_rfl }
open Go.RowKit Go.Lib in
theorem Tryz.strings_Split (s sep:ByteArray)(m:Int)(w:World)(hs:s.size<4294967281)(hm:w.cell? ⟨0,0,none⟩=some (.int .i64 m))(a:1≤sep.size) :
  Calls prog 47 #[.string s,.string sep] w fun e w'=>
   e=.returned (.slice (some ⟨w.heap.size,0,none⟩) (Lib.countB s sep+1) (Lib.countB s sep+1))∧w'=w.alloc (.cells ((Lib.splitB sep 0 (Lib.countB s sep) s).map Value.string).toArray 9):=Any.strings_Split Tryz.Ig (by kernel_rfl) s sep m w hs hm a
end Go.Proofs
namespace Go.Proofs.YtpjihhgjbbihkaaGreatDoor
open Go.Proofs.Tryz
open Go.Dk
set_option maxRecDepth 100000
def Pa : String := "strconv.ErrSyntax"
def Pb : String := "strconv.ErrRange"
structure jD (w:World):Prop where
 max:∃ m,w.cell? ⟨0,0,none⟩=some (.int .i64 m)
 syn:∃ tp p,w.var? prog Pa=some #[.iface tp p]
 rng:∃ tp p,w.var? prog Pb=some #[.iface tp p]
 tab : Lib.TabIs prog w "internal/strconv.uint64pow10" .u64 Lib.pow10Tab
theorem rD {w w':World}{n:String}(h:∀ g,Tryz.prog.globalNamed n=some g→w'.heap[g]?=w.heap[g]?):w'.var? prog n=w.var? prog n:=by
 unfold World.var?
 cases hn:Tryz.prog.globalNamed n with
 | none=>rfl
 | some g=>
  simp only[Option.bind_some];rw[h g hn]
def Le (x : Nat) : Prop := x = 0 ∨ Tryz.prog.globalNamed Pa = some x ∨ Tryz.prog.globalNamed Pb = some x ∨ Tryz.prog.globalNamed "internal/strconv.uint64pow10" = some x
theorem jD.bS {w w':World}(h:∀ g,Le g→w'.heap[g]?=w.heap[g]?)(k:jD w):jD w':=by
 obtain ⟨b,c,d,e⟩:=k;refine ⟨?_,?_,?_,?_⟩
 ·rw[show w'.cell? ⟨0,0,none⟩=w.cell? ⟨0,0,none⟩ from World.cell?_of_block (w:=w) (h 0 (.inl rfl))];exact b
 ·rw[rD fun g a=>h g (.inr (.inl a))];exact c
 ·rw[rD fun g a=>h g (.inr (.inr (.inl a)))];exact d
 ·unfold Lib.TabIs;rw[rD fun g a=>h g (.inr (.inr (.inr a)))];exact e
theorem AV {w:World}{n:String}{cs:Array Value}(h:w.var? prog n=some cs){g:Nat}(a:Tryz.prog.globalNamed n=some g):g<w.heap.size:=by
 unfold World.var? at h;rw[a] at h;simp only[Option.bind_some] at h;split at h
 ·rename_i b;exact (Array.getElem?_eq_some_iff.1 b).1
 ·cases h
theorem jD.lt {w:World}(h:jD w):∀ g,Le g→g<w.heap.size:=by
 obtain ⟨⟨m,b⟩,⟨_,_,c⟩,⟨_,_,d⟩,e⟩:=h;rintro g (rfl | a | a | a)
 ·exact (CT b).2
 ·exact AV c a
 ·exact AV d a
 ·exact AV e a
def lM:cS:=⟨Le,jD,fun _ _ h k=>k.bS h⟩
theorem jD.same {w w':World}(h:jD w)(a:aT w w'):jD w':=h.bS fun g b=>a.old g (h.lt g b) id
theorem pO {w w':World}(h:RowKit.Below w.heap.size w w'):aT w w':=⟨h.os,h.tape,h.output,h.size,fun g a _=>h.block g a⟩
theorem DG (w:World)(k:Nat)(os:Array Obj):aT w (Sort.grow (w.drewN k) os):=
 ⟨rfl,rfl,rfl,by rw[Sort.size_grow];exact Nat.le_add_right _ _,fun g a _=>Sort.heap_grow_old (w.drewN k) os a⟩
theorem AW (w:World)(k:Nat):aT w (w.drewN k):=⟨rfl,rfl,rfl,Nat.le_refl _,fun _ _ _=>rfl⟩
theorem lN {g:FuncId}{args:List Value}{w:World}{post:Value→World→Prop}{Q:Ending→World→Prop}(he:enters prog g=true)(h:Calls prog g args.toArray w Q)(a:∀ e w',Q e w'→∃ v,e=.returned v∧post v w'):bz prog g args w post:=
 ⟨he,h.mono a⟩
theorem Ih (l:List UInt8):(⟨l.toArray⟩:ByteArray).data.toList=l:=rfl
theorem I3 (l:List UInt8):(⟨l.toArray⟩:ByteArray).size=l.length:=rfl
theorem M4:enters prog 73=true:=by kernel_rfl
theorem Pc (l p:List UInt8)(w:World):bz prog 73 [aU l,aU p] w fun v w'=>v=.tuple #[aU (Lib.trimPrefix l p),.bool (Lib.hasPrefix l p)]∧aT w w':=
 lN M4 (Tryz.strings_CutPrefix ⟨l.toArray⟩ ⟨p.toArray⟩ w) fun e w' ⟨he,hw⟩=>⟨_,he,rfl,by rw[hw];exact aS.refl _ _⟩
theorem Lf:enters prog 100=true:=by kernel_rfl
theorem OQ (l p:List UInt8)(a:l.length<4294967281)(w:World)(b:jD w):bz prog 100 [aU l,aU p] w fun v w'=>v=.tuple #[aU (Lib.cut l p).1,aU (Lib.cut l p).2.1,.bool (Lib.cut l p).2.2]∧aT w w':=by
 obtain ⟨m,hm⟩:=b.max;exact lN Lf (Tryz.strings_Cut ⟨l.toArray⟩ ⟨p.toArray⟩ m w a hm) fun e w' ⟨he,n,hw⟩=>⟨_,he,rfl,by rw[hw];exact AW w n⟩
theorem I4:enters prog 60=true:=by kernel_rfl
theorem NY (n:Int)(a:-9223372036854775808≤n)(b:n≤9223372036854775807)(w:World)(c:jD w):bz prog 60 [.int .i64 n] w fun v w'=>v=aU (Lib.itoa n)∧aT w w':=
 lN I4 (Tryz.strconv_Itoa n a b w c.tab) fun e w' ⟨he,k,os,hw⟩=>⟨_,he,rfl,by rw[hw];exact DG w k os⟩
theorem vO (n:Nat)(a:n<100)(w:World):bz prog 60 [.int .i64 (n:Int)] w fun v w'=>v=aU (Lib.decDigits n)∧aT w w':=
 lN I4 (Tryz.strconv_Itoa_small n a w) fun e w' ⟨he,hw⟩=>⟨_,he,rfl,by rw[hw];exact aS.refl _ _⟩
theorem F7:enters prog 98=true:=by kernel_rfl
theorem Ps (l:List UInt8)(d:l.length≤281474976710656)(w:World)(f:jD w):bz prog 98 [aU l] w fun v w'=>∃ n ev,v=.tuple #[.int .i64 n,ev]∧((Lib.atoiAll l=.ok n∧ev=.nilIface)∨((∀ m,Lib.atoiAll l≠.ok m)∧∃ N,ev=.iface 234 (ah N)))∧aT w w':=by
 cases h:Lib.atoiAll l with
 | ok n=>
  refine lN F7 (Tryz.strconv_Atoi_ok ⟨l.toArray⟩ (by rw[I3];omega) n h w) fun e w' ⟨he,hw⟩=>⟨_,he,n,.nilIface,rfl,.inl ⟨rfl,rfl⟩,?_⟩;rcases hw with rfl | ⟨t,rfl⟩
  ·exact aS.refl _ _
  ·exact pO (Lib.bytesWorld_below w 5 t)
 | range=>
  obtain ⟨b,p,a⟩:=f.rng;exact lN F7 (Tryz.strconv_Atoi_range_var ⟨l.toArray⟩ d h b p w a) fun e w' ⟨N,he,_,_,c⟩=>⟨_,he,_,_,rfl,.inr ⟨fun m h=>(by cases h),N,rfl⟩,pO c⟩
 | _=>
  obtain ⟨b,p,a⟩:=f.syn;exact lN F7 (Tryz.strconv_Atoi_syntax_var ⟨l.toArray⟩ d (fun _ a=>by cases h.symm.trans a) (fun a=>by cases h.symm.trans a) b p w a) fun e w' ⟨N,he,_,_,c⟩=>⟨_,he,0,_,rfl,.inr ⟨fun m h=>(by cases h),N,rfl⟩,pO c⟩
end Go.Proofs.YtpjihhgjbbihkaaGreatDoor
namespace Go.Dk
def bM:List UInt8→List (List UInt8)
 | []=>[[]]
 | c::s=>if c==10 then []::bM s else match bM s with
  | x::xs=>(c::x)::xs
  | []=>[[c]]
theorem mJ (l:List UInt8):bM l≠[]:=by
 cases l with
 | nil=>simp[bM]
 | cons c s=>
  unfold bM;split
  ·simp
  ·split <;> simp
theorem lO (s:List UInt8):bM (10::s)=[]::bM s:=rfl
theorem iJ {c:UInt8}(h:c≠10){s x:List UInt8}{xs:List (List UInt8)}(hs:bM s=x::xs):bM (c::s)=(c::x)::xs:=by
 show (if c==10 then _ else _)=_;rw[if_neg (by simpa using h),hs]
theorem AX (s:List UInt8):Lib.index (10::s) [10]=0:=by
 show (if [10].isPrefixOf (10::s) then _ else _)=_;rw[if_pos (by simp)]
theorem AY {c:UInt8}(h:c≠10)(s:List UInt8):Lib.index (c::s) [10]=if Lib.index s [10]== -1 then -1 else Lib.index s [10]+1:=by
 show (if [10].isPrefixOf (c::s) then _ else _)=_;rw[if_neg (by simp;exact fun e=>h e.symm)]
theorem lP:∀ (l:List UInt8) (k:Nat),l.count 10≤k→Lib.splitK [10] 0 k l=bM l
 | [],k,_=>by cases k <;> rfl
 | c::s,k,hk=>by
  by_cases b:c=10
  ·subst b;rw[List.count_cons_self] at hk;obtain ⟨k',rfl⟩:∃ k',k=k'+1:=⟨k - 1,by omega⟩;rw[lO];unfold Lib.splitK;rw[AX,if_neg (by decide)];rw[← lP s k' (by omega)];rfl
  ·rw[List.count_cons_of_ne (by simpa using b)] at hk;have e:=lP s
   cases k with
   | zero=>
    have a:=e 0 hk;rw[iJ b (x:=s) (xs:=[]) (by rw[← a];rfl)];rfl
   | succ k=>
    have a:=e (k+1) hk;unfold Lib.splitK at a ⊢;rw[AY b];by_cases hi:Lib.index s [10]= -1
    ·rw[hi] at a ⊢;simp at a ⊢;rw[iJ b a.symm]
    ·have f:0≤Lib.index s [10]:=by
      rcases Lib.index_spec s [10] with ⟨h,_⟩ | ⟨i,h,_⟩
      ·exact absurd h hi
      ·omega
     obtain ⟨i,d⟩:∃ i:Nat,Lib.index s [10]=i:=⟨(Lib.index s [10]).toNat,by omega⟩;rw[d] at a ⊢;have g:((i:Int)== -1)=false:=beq_eq_false_iff_ne.2 (by omega);have j:((i:Int)+1== -1)=false:=beq_eq_false_iff_ne.2 (by omega);simp only[g,j,Bool.false_eq_true,if_false] at a ⊢;rw[iJ b a.symm];rw[show ((i:Int)+1).toNat=i+1 by omega,Int.toNat_natCast];rfl
end Go.Dk
namespace Go.Proofs.YtpjihhgjbbihkaaGreatDoor
open Go.Proofs.Tryz
open Go.Dk
set_option maxRecDepth 100000
theorem lW (l:List UInt8):(bM l).length=l.count 10+1:=by
 have h:=Lib.splitB_all ⟨[10].toArray⟩ (by decide) 0 (Lib.countB ⟨l.toArray⟩ ⟨[10].toArray⟩) ⟨l.toArray⟩ rfl;have e:Lib.countB ⟨l.toArray⟩ ⟨[10].toArray⟩=l.count 10:=Lib.count_one 10 l;rw[e] at h;have a:=Lib.splitB_data ⟨[10].toArray⟩ 0 (l.count 10) ⟨l.toArray⟩;rw[Ih,Ih,lP l _ (Nat.le_refl _)] at a;rw[← a,List.length_map,h]
theorem M5:enters prog 47=true:=by kernel_rfl
theorem Pt (l:List UInt8)(h:l.length≤100000)(w:World)(c:jD w):bz prog 47 [aU l,aU [10]] w fun v w'=>∃ g,v=.slice (some ⟨g,0,none⟩) (bM l).length (bM l).length∧eW w w' (own 9 1 (.slice (some ⟨g,0,none⟩) (bM l).length (bM l).length) (bM l).length ((bM l).map aU)):=by
 obtain ⟨m,hm⟩:=c.max;refine lN M5 (Tryz.strings_Split ⟨l.toArray⟩ ⟨[10].toArray⟩ m w (by rw[I3];omega) hm (by decide)) fun e w' ⟨he,hw⟩=>⟨_,he,w.heap.size,?_,?_⟩
 ·rw[show Lib.countB ⟨l.toArray⟩ ⟨[10].toArray⟩=l.count 10 from Lib.count_one 10 l,lW]
 ·have a:(Lib.splitB ⟨[10].toArray⟩ 0 (Lib.countB ⟨l.toArray⟩ ⟨[10].toArray⟩) ⟨l.toArray⟩).map Value.string=(bM l).map aU:=by
   have b:=Lib.splitB_data ⟨[10].toArray⟩ 0 (l.count 10) ⟨l.toArray⟩;rw[Ih,Ih,lP l _ (Nat.le_refl _)] at b;rw[show Lib.countB ⟨l.toArray⟩ ⟨[10].toArray⟩=l.count 10 from Lib.count_one 10 l,← b,List.map_map];rfl
  rw[a] at hw;subst hw;have H:Hp w ab (w.alloc (.cells ((bM l).map aU).toArray 9)) [an w.heap.size 9 ((bM l).map aU).toArray] []:=(Hp.aC w).add (aS.alloc _ _) _ (heap_alloc_new w _) (by rintro g rfl;exact ⟨Nat.le_refl _,by simp⟩);have hlen:=lW l;have d:l.count 10≤l.length:=List.count_le_length;have f:=H.pF (l:=(bM l).length) (sz:=1) (by simp) (by unfold maxLen;omega);exact f.out
end Go.Proofs.YtpjihhgjbbihkaaGreatDoor
namespace Go.Dk
abbrev Ln:=Nat × Nat × List Nat
structure Tb where
 kd:Nat
 ni:Nat
 no:Nat
 ls:List Ln
structure uW (ni no:Nat) (l:Ln):Prop where
 m:l.1<2^ni
 v:l.2.1 &&&l.1=l.2.1
 len:l.2.2.length=no
 marks:∀ x ∈ l.2.2,x<3
structure j7 (t:Tb):Prop where
 kd:t.kd≤3
 ni:t.ni≤8
 no1:1≤t.no
 no4:t.no≤4
 few:t.ls.length≤64
 ls:∀ l ∈ t.ls,uW t.ni t.no l
end Go.Dk
namespace Go.Proofs.YtpjihhgjbbihkaaGreatDoor
open Go.Proofs.Tryz
open Go.Dk
set_option maxRecDepth 100000
attribute [local irreducible] IntKind.wrap
abbrev Hd:=Nat × Nat × Value
def fW (m v:Nat)(o:Value):Array Value:=#[.int .u8 (m:Int),.int .u8 (v:Int),o]
def la (h:Hd):List Value:=[.int .u8 (h.1:Int),.int .u8 (h.2.1:Int),h.2.2]
theorem e8 (h:Hd):(la h).length=3:=rfl
def I5 (S:Nat→Prop)(w:World)(h:Hd)(l:Ln):Prop:=h.1=l.1∧h.2.1=l.2.1∧∃ B c,h.2.2=.slice B l.2.2.length c∧(sl S (.slice B l.2.2.length c) 1 l.2.2.length (ints l.2.2)).ok w
theorem I5.mono {S a:Nat→Prop}{w:World}{h:Hd}{l:Ln}(k:I5 S w h l)(b:∀ g,S g→a g):I5 a w h l:=by
 obtain ⟨d,e,B,c,f,hs⟩:=k;exact ⟨d,e,B,c,f,sl.mono hs b⟩
theorem I5.bS {S:Nat→Prop}{w w':World}{h:Hd}{l:Ln}(k:I5 S w h l)(a:∀ g,S g→w'.heap[g]?=w.heap[g]?):I5 S w' h l:=by
 obtain ⟨b,d,B,c,e,hs⟩:=k;exact ⟨b,d,B,c,e,(sl _ _ _ _ _).bS _ _ a hs⟩
def lX (S:Nat→Prop)(w:World)(hs:List Hd)(ls:List Ln):Prop:=hs.length=ls.length∧∀ (j:Nat) (h:Hd) (l:Ln),hs[j]?=some h→ls[j]?=some l→I5 S w h l
theorem lX.nil (S:Nat→Prop)(w:World):lX S w [] []:=⟨rfl,fun j u a h=>by simp at h⟩
theorem lX.snoc {S:Nat→Prop}{w:World}{hs:List Hd}{ls:List Ln}(h:lX S w hs ls){u:Hd}{l:Ln}(hu:I5 S w u l):lX S w (hs++[u]) (ls++[l]):=by
 obtain ⟨e,f⟩:=h;refine ⟨by simp[e],fun j v rs b a=>?_⟩;by_cases d:j<hs.length
 ·rw[List.getElem?_append_left d] at b;rw[List.getElem?_append_left (by omega)] at a;exact f j v rs b a
 ·rw[List.getElem?_append_right (by omega)] at b a;have c:j - hs.length=0:=by have:=(List.getElem?_eq_some_iff.1 b).1;simp at this;omega
  rw[← e,c] at a;rw[c] at b;simp at b a;subst b;subst a;exact hu
theorem lX.bS {S:Nat→Prop}{w w':World}{hs:List Hd}{ls:List Ln}(h:lX S w hs ls)(b:∀ g,S g→w'.heap[g]?=w.heap[g]?):lX S w' hs ls:=
 ⟨h.1,fun j u c d a=>(h.2 j u c d a).bS b⟩
theorem lX.mono {S b:Nat→Prop}{w:World}{hs:List Hd}{ls:List Ln}(h:lX S w hs ls)(c:∀ g,S g→b g):lX b w hs ls:=
 ⟨h.1,fun j u d e a=>(h.2 j u d e a).mono c⟩
def qT (S:Nat→Prop)(hs:List Hd)(ls:List Ln):cS:=⟨S,fun w=>lX S w hs ls,fun _ _ h a=>a.bS h⟩
def qE (S:Nat→Prop)(v:Value)(ls:List Ln)(w:World):Prop:=∃ B c hs,v=.slice B ls.length c∧(sl S (.slice B ls.length c) 3 ls.length (flat la hs)).ok w∧lX S w hs ls
def e9 (S:Nat→Prop)(v:Value)(ls:List Ln):cS:=
 ⟨S,qE S v ls,fun w w' h ⟨B,c,hs,a,b,d⟩=>⟨B,c,hs,a,(sl _ _ _ _ _).bS w w' h b,d.bS h⟩⟩
theorem qE.mono {S a:Nat→Prop}{v:Value}{ls:List Ln}{w:World}(h:qE S v ls w)(b:∀ g,S g→a g):qE a v ls w:=by
 obtain ⟨B,c,hs,d,e,f⟩:=h;exact ⟨B,c,hs,d,sl.mono e b,f.mono b⟩
def jm (w:World)(v:Value)(ls:List Ln):Prop:=qE (fun g=>g<w.heap.size) v ls w
theorem jm.same {w w':World}{v:Value}{ls:List Ln}(h:jm w v ls)(b:aT w w'):jm w' v ls:=
 qE.mono ((e9 (fun g=>g<w.heap.size) v ls).bS w w' (fun g a=>b.old g a id) h) fun _ a=>Nat.lt_of_lt_of_le a b.size
theorem jm.uq {w:World}{v:Value}{ls:List Ln}(h:jm w v ls):∃ B c hs,v=.slice B ls.length c∧Sl w (.slice B ls.length c) 3 ls.length (flat la hs)∧hs.length=ls.length∧
  ∀ (i:Nat) (l:Ln),ls[i]?=some l→∃ a b,hs[i]?=some (l.1,l.2.1,.slice a l.2.2.length b)∧Sl w (.slice a l.2.2.length b) 1 l.2.2.length (ints l.2.2):=by
 obtain ⟨B,c,hs,f,g,j,k⟩:=h;refine ⟨B,c,hs,f,g,j,fun i l hi=>?_⟩;have m:=(List.getElem?_eq_some_iff.1 hi).1;have hu:hs[i]?=some (hs[i]'(by omega)):=List.getElem?_eq_getElem (by omega);obtain ⟨n,o,a,b,d,e⟩:=k i _ l hu hi;refine ⟨a,b,?_,e⟩;rw[hu]
 congr 1
 rw[← d,← n,← o]
theorem xq {w0 w:World}(e:aT w0 w){A:Option Addr}{n c:Nat}{hs:List Hd}{ls:List Ln}{S:Nat→Prop}(f:(own 77 3 (.slice A n c) n (flat la hs)).ok w)(b:∀ g,(own 77 3 (.slice A n c) n (flat la hs)).foot g→w0.heap.size≤g∧g<w.heap.size)(i:(qT S hs ls).ok w)(d:∀ g,S g→w0.heap.size≤g∧g<w.heap.size)(j:n=ls.length):eW w0 w (e9 (fun g=>(Value.slice A n c).ownBlock=some g∨S g) (.slice A n c) ls):=by
 subst j;exact ⟨e,⟨A,c,hs,rfl,sl.mono (iQ f) fun g a=>.inl a,lX.mono i fun g a=>.inr a⟩,fun g a=>a.elim (fun h=>b g h) (d g)⟩
def cI (kd ni no:Int)(v:Value):Array Value:=#[.int .i64 kd,.int .i64 ni,.int .i64 no,v]
def sN (kd ni no:Int)(v:Value):Value:=.agg (cI kd ni no v)
theorem eL:cW prog 33=some true:=by kernel_rfl
theorem bw:bF prog 33=some 4:=by kernel_rfl
theorem nn:eU prog 33=some (sN 0 0 0 (.slice none 0 0)):=by kernel_rfl
theorem fQ:cW prog 31=some false:=by kernel_rfl
theorem xr:bF prog 31=some 1:=by kernel_rfl
theorem mK:cW prog 77=some true:=by kernel_rfl
theorem cO:bF prog 77=some 3:=by kernel_rfl
theorem lY:eU prog 77=some (.agg (fW 0 0 (.slice none 0 0))):=by kernel_rfl
theorem qF:bF prog 75=some 1:=by kernel_rfl
theorem cC (g o:Nat)(w:World):(Instr.fieldAt 33 (.pointer (some ⟨g,o,none⟩)) 0).run prog w=.ok (.pointer (some ⟨g,o,none⟩)) w:=by kernel_rfl
theorem dY (g o:Nat)(w:World):(Instr.fieldAt 33 (.pointer (some ⟨g,o,none⟩)) 1).run prog w=.ok (.pointer (some ⟨g,o+1,none⟩)) w:=by kernel_rfl
theorem eP (g o:Nat)(w:World):(Instr.fieldAt 33 (.pointer (some ⟨g,o,none⟩)) 2).run prog w=.ok (.pointer (some ⟨g,o+2,none⟩)) w:=by kernel_rfl
theorem dC (g o:Nat)(w:World):(Instr.fieldAt 33 (.pointer (some ⟨g,o,none⟩)) 3).run prog w=.ok (.pointer (some ⟨g,o+3,none⟩)) w:=by kernel_rfl
theorem xt (g:Nat)(w:World):(Instr.fieldAt 77 (ah g) 0).run prog w=.ok (ah g) w:=by kernel_rfl
theorem eQ (g:Nat)(w:World):(Instr.fieldAt 77 (ah g) 1).run prog w=.ok (.pointer (some ⟨g,2,none⟩)) w:=by kernel_rfl
theorem I6:qR prog 31 77 (.agg (fW 0 0 (.slice none 0 0))) 3 32:=⟨underlying31,by kernel_rfl,rfl,by decide⟩
theorem e_ {m v:Nat}{A:Option Addr}{l c:Nat}:∀ u ∈ (fW m v (.slice A l c)).toList,u.oneCell'=true:=by
 intro u hu;simp[fW] at hu;rcases hu with rfl | rfl | rfl <;> rfl
theorem dH {kd ni no:Int}{A:Option Addr}{l c:Nat}:∀ u ∈ (cI kd ni no (.slice A l c)).toList,u.oneCell'=true:=by
 intro u hu;simp[cI] at hu;rcases hu with rfl | rfl | rfl | rfl <;> rfl
theorem sO (m v:Nat)(o:Value):∀ (j:Nat) u,(cc m v).toList[j]?=some u→(fW m v o)[j]?=some u:=fun j u a=>by
 match j,a with
 | 0,a=>exact a
 | 1,a=>exact a
 | j+2,a=>simp[cc] at a
theorem lb {ni no:Nat}(a:ni≤8){l:Ln}(h:uW ni no l):l.1<256∧l.2.1<256∧dr l.1 l.2.1 ni=true:=by
 have b:2^ni≤2^8:=Nat.pow_le_pow_right (by decide) a;have c:=sub_lt h.m h.v;have:=h.m;exact ⟨by omega,by omega,(dJ (by omega) (by omega)).2 ⟨by omega,by omega,by rw[Int.toNat_natCast];exact h.m,h.v⟩⟩
theorem M6:enters prog 49=true:=by kernel_rfl
set_option maxHeartbeats 4000000 in
theorem c49 {t:Tb}(G:j7 t)(v:Value)(w:World)(q:jm w v t.ls):bz prog 49 [sN t.kd t.ni t.no v] w fun r w'=>r=.bool true∧aT w w':=by
 refine ar (N:=77) func49 M6 rfl rfl rfl (by simp) ?_;have H:=Hp.aC w;obtain ⟨kd,ni,no,ls⟩:=t;obtain ⟨I,s,J,K,M,y⟩:=G;simp only at I s J K M y q ⊢;obtain ⟨B,c,hs,rfl,e,O,k⟩:=q.uq;refine ak (γ:=Nat) (fun g1=>[(1,(ah g1))]) (fun g1 w'=>Hp w ab w' [an g1 33 (cI kd ni no (.slice B ls.length c))] []) ?_ ?_
 ·refine H.box 33 _ (cs:=cI kd ni no (.slice B ls.length c)) rfl ?_;clear H;intro g1 Q H;exact ⟨g1,⟨rfl,trivial⟩,H⟩
 clear H;rintro g1 u Q H;refine aw (fun w'=>Hp w ab w' [an g1 33 (cI kd ni no (.slice B ls.length c))] []) ?_ ?_
 ·refine aa (cC _ _) ?_;refine H.load 0 rfl aE rfl ?_;refine ae (decide_eq_false (by omega)) ?_;refine aa (cC _ _) ?_;refine ae (decide_eq_false (by omega)) ?_;refine H.load 0 rfl aE rfl ?_
  iterate 3 refine ae (decide_eq_false (by omega)) ?_
  refine aa (dY _ _) ?_;refine ae (decide_eq_false (by omega)) ?_;refine H.load 0 rfl aE rfl ?_
  iterate 3 refine ae (decide_eq_false (by omega)) ?_
  refine aa (dY _ _) ?_;refine ae (decide_eq_false (by omega)) ?_;refine H.load 0 rfl aE rfl ?_
  iterate 3 refine ae (decide_eq_false (by omega)) ?_
  refine aa (eP _ _) ?_;refine ae (decide_eq_false (by omega)) ?_;refine H.load 0 rfl aE rfl ?_
  iterate 3 refine ae (decide_eq_false (by omega)) ?_
  refine aa (eP _ _) ?_;refine ae (decide_eq_false (by omega)) ?_;refine H.load 0 rfl aE rfl ?_
  iterate 3 refine ae (decide_eq_false (by omega)) ?_
  refine aa (dC _ _) ?_;refine ae (decide_eq_false (by omega)) ?_;refine H.load 0 rfl fQ rfl ?_;refine ae (decide_eq_false (by omega)) ?_;refine ay underlying31 ?_
  iterate 3 refine ae (decide_eq_false (by omega)) ?_
  exact ⟨(),trivial,H⟩
 clear H;rintro ⟨⟩ u w2 H;refine aw (fun w'=>Hp w ab w' [an g1 33 (cI kd ni no (.slice B ls.length c))] []) ?_ ?_
 ·refine aa (dC _ _) ?_;refine H.load 0 rfl fQ rfl ?_;refine ay underlying31 ?_;refine ax (γ:=Nat) (fun i=>[(44,.int .i64 (i:Int))]) (fun i w'=>i≤ls.length∧Hp w ab w' [an g1 33 (cI kd ni no (.slice B ls.length c))] []) (fun i=>ls.length - i) 0 ⟨rfl,trivial⟩ ⟨Nat.zero_le _,H⟩ ?_;clear H;rintro i u S ⟨hi,H⟩;refine au (fun T=>?_) (fun T=>?_)
  ·have b:i<ls.length:=by omega
   obtain ⟨l,U,n⟩:∃ l,ls[i]?=some l∧l ∈ ls:=⟨_,List.getElem?_eq_getElem b,List.getElem_mem b⟩;obtain ⟨z,C,o,f⟩:=k i l U;have a:=y l n;have V:=a.len;obtain ⟨s1,s2,X⟩:=lb s a;obtain ⟨h,g,rfl⟩:=e.A (by omega);refine aw (fun w'=>Hp w ab w' [an g1 33 (cI kd ni no (.slice (some ⟨h,g,none⟩) ls.length c))] []) ?_ ?_
   ·refine ak (γ:=Nat) (fun g4=>[(4,(ah g4))]) (fun g4 w'=>Hp w ab w' [an g4 77 (fW l.1 l.2.1 (.slice z l.2.2.length C)),an g1 33 (cI kd ni no (.slice (some ⟨h,g,none⟩) ls.length c))] []) ?_ ?_
    ·refine aq underlying31 cO i rfl b (o':=g+i*3) (by omega) ?_;refine Sl.dj H e e8 mK cO i rfl o ?_;refine H.alloc 77 (cs:=fW 0 0 (.slice none 0 0)) lY rfl ?_;clear H;intro g4 p H;refine H.storeAll 0 rfl cO rfl (e_ (m:=l.1) (v:=l.2.1)) ?_;clear H;intro D H;exact ⟨g4,⟨rfl,trivial⟩,H⟩
    clear H;rintro g4 u p H;refine aw (fun w'=>Hp w ab w' [an g4 77 (fW l.1 l.2.1 (.slice z l.2.2.length C)),an g1 33 (cI kd ni no (.slice (some ⟨h,g,none⟩) ls.length c))] []) ?_ ?_
    ·refine aa (xt _) ?_;refine fT (H.get 0 rfl) (cc l.1 l.2.1).toList bl aJ (sO _ _ _) ?_;refine aa (dY _ _) ?_;refine H.load 1 rfl aE rfl ?_;have E:=c75 l.1 l.2.1 s1 s2 ni p;rw[X] at E;refine aj E ?_;rintro _ D ⟨rfl,F⟩;replace H:=H.same F;clear F;have hlen:=a.len;refine ae rfl ?_;refine aa (eQ _) ?_;refine ae rfl ?_;refine H.load 0 rfl fl rfl ?_;refine ae rfl ?_;refine ay underlying75 ?_;refine ae rfl ?_;refine aa (eP _ _) ?_;refine ae rfl ?_;refine H.load 1 rfl aE rfl ?_
     iterate 2 refine ae rfl ?_
     refine ae (bne_eq_false_iff_eq.2 (by omega)) ?_;exact ⟨(),trivial,H⟩
    clear H;rintro ⟨⟩ u D H;refine aa (eQ _) ?_;refine H.load 0 rfl fl rfl ?_;refine ay underlying75 ?_;refine ax (γ:=Nat) (fun j=>[(65,.int .i64 (j:Int))]) (fun j w'=>j≤l.2.2.length∧Hp w ab w' [an g1 33 (cI kd ni no (.slice (some ⟨h,g,none⟩) ls.length c))] []) (fun j=>l.2.2.length - j) 0 ⟨rfl,trivial⟩ ⟨Nat.zero_le _,H.forget⟩ ?_;clear H;rintro j u w6 ⟨hj,H⟩;refine au (fun Y=>?_) (fun Y=>?_)
    ·have d:j<l.2.2.length:=by omega
     obtain ⟨gO,Z,rfl⟩:=f.A (by omega);have hx:=a.marks _ (List.getElem_mem d);refine aq underlying75 a_ j rfl d (o':=Z+j) (by omega) ?_;refine aB aE (((f.same H.keeps).cell j (by omega)).trans (eZ d)) ?_;generalize l.2.2[j]=x at hx
     iterate 3 refine ae rfl ?_
     refine ae (decide_eq_false (by omega)) ?_;exact ⟨j+1,by show l.2.2.length - (j+1)<l.2.2.length - j;omega,⟨up (by omega),trivial⟩,by show j+1≤l.2.2.length;omega,H⟩
    ·exact ⟨(),trivial,H⟩
   ·clear H;rintro ⟨⟩ u p H;exact ⟨i+1,by show ls.length - (i+1)<ls.length - i;omega,⟨up (by omega),trivial⟩,by show i+1≤ls.length;omega,H⟩
  ·exact ⟨(),trivial,H⟩
 clear H;rintro ⟨⟩ u S H;exact ⟨rfl,H.keeps⟩
end Go.Proofs.YtpjihhgjbbihkaaGreatDoor
namespace Go.Dk
def gp (t:Tb)(out mark:Nat):Nat→Nat
 | 0=>0
 | j+1=>match t.ls[j]? with
  | some l=>if l.2.2[out]?=some mark then gp t out mark j |||bc l.1 l.2.1 t.ni else gp t out mark j
  | none=>gp t out mark j
theorem AZ {t:Tb}{j:Nat}{l:Ln}(h:t.ls[j]?=some l)(out mark:Nat):gp t out mark (j+1)=if l.2.2[out]?=some mark then gp t out mark j |||bc l.1 l.2.1 t.ni else gp t out mark j:=by
 show (match t.ls[j]? with | some l=>_ | none=>_)=_;rw[h]
theorem oe (t:Tb)(out mark:Nat):∀ j,gp t out mark j<2^256
 | 0=>Nat.two_pow_pos 256
 | j+1=>by
  show (match t.ls[j]? with | some l=>_ | none=>_)<_;split
  ·split
   ·exact Nat.or_lt_two_pow (oe t out mark j) (pT _ _ _)
   ·exact oe t out mark j
  ·exact oe t out mark j
theorem vP {t:Tb}{out mark p:Nat}:∀ {j},(gp t out mark j).testBit p=true↔∃ i l,i<j∧t.ls[i]?=some l∧l.2.2[out]?=some mark∧(bc l.1 l.2.1 t.ni).testBit p=true
 | 0=>by simp[gp]
 | j+1=>by
  have a:=vP (t:=t) (out:=out) (mark:=mark) (p:=p) (j:=j);have e:gp t out mark (j+1)=match t.ls[j]? with | some l=>if l.2.2[out]?=some mark then gp t out mark j |||bc l.1 l.2.1 t.ni else gp t out mark j | none=>gp t out mark j:=rfl
  have key:(∃ i l,i<j+1∧t.ls[i]?=some l∧l.2.2[out]?=some mark∧(bc l.1 l.2.1 t.ni).testBit p=true)↔(∃ i l,i<j∧t.ls[i]?=some l∧l.2.2[out]?=some mark∧(bc l.1 l.2.1 t.ni).testBit p=true)∨∃ l,t.ls[j]?=some l∧l.2.2[out]?=some mark∧(bc l.1 l.2.1 t.ni).testBit p=true:=by
   constructor
   ·rintro ⟨i,l,hi,h⟩;rcases Nat.lt_succ_iff_lt_or_eq.1 hi with b | b
    ·exact .inl ⟨i,l,b,h⟩
    ·subst b;exact .inr ⟨l,h⟩
   ·rintro (⟨i,l,hi,h⟩ | ⟨l,h⟩)
    ·exact ⟨i,l,by omega,h⟩
    ·exact ⟨j,l,by omega,h⟩
  rw[key,e]
  cases hl:t.ls[j]? with
  | none=>simp[a]
  | some l=>
   simp only;by_cases hm:l.2.2[out]?=some mark
   ·rw[if_pos hm,Nat.testBit_or,Bool.or_eq_true,a];exact or_congr_right ⟨fun h=>⟨l,rfl,hm,h⟩,fun ⟨d,c,_,f⟩=>by rw[Option.some.inj c];exact f⟩
   ·rw[if_neg hm,a];exact ⟨.inl,fun h=>h.elim id fun ⟨d,c,g,_⟩=>absurd (by rw[Option.some.inj c];exact g) hm⟩
end Go.Dk
namespace Go.Proofs.YtpjihhgjbbihkaaGreatDoor
open Go.Proofs.Tryz
open Go.Dk
set_option maxRecDepth 100000
attribute [local irreducible] IntKind.wrap
theorem M7:enters prog 52=true:=by kernel_rfl
theorem Pu {t:Tb}(d:j7 t)(out mark:Nat)(X:out<t.no)(v:Value)(w:World)(F:jm w v t.ls):bz prog 52 [sN t.kd t.ni t.no v,.int .i64 (out:Int),.int .i64 (mark:Int)] w fun r w'=>r=sv (gp t out mark t.ls.length)∧aT w w':=by
 refine ar (N:=39) func52 M7 rfl rfl rfl (by simp) ?_;have H:=Hp.aC w;obtain ⟨B,c,hs,rfl,f,G,k⟩:=F.uq;have I:=d.no4;have x:=d.few;refine ak (γ:=Nat × Nat) (fun (g3,g6)=>[(3,(ah g3)),(6,(ah g6))]) (fun (g3,g6) w'=>Hp w ab w' [an g6 86 (sc 0),an g3 33 (cI t.kd t.ni t.no (.slice B t.ls.length c))] []) ?_ ?_
 ·refine H.box 33 _ (cs:=cI t.kd t.ni t.no (.slice B t.ls.length c)) rfl ?_;clear H;intro g3 J H;refine H.alloc 86 (cs:=sc 0) br aZ ?_;clear H;intro g6 y H;exact ⟨(g3,g6),⟨rfl,rfl,trivial⟩,H⟩
 clear H;rintro ⟨g3,g6⟩ u J H;refine ak (γ:=Nat) (fun g7=>[(7,(ah g7))]) (fun g7 w'=>Hp w ab w' [an g7 86 (sc 0),an g6 86 (sc 0),an g3 33 (cI t.kd t.ni t.no (.slice B t.ls.length c))] []) ?_ ?_
 ·refine H.alloc 86 (cs:=sc 0) br aZ ?_;clear H;intro g7 y H;exact ⟨g7,⟨rfl,trivial⟩,H⟩
 clear H;rintro g7 u y H;refine aw (fun w'=>Hp w ab w' [an g7 86 (sc (gp t out mark t.ls.length)),an g6 86 (sc 0)] []) ?_ ?_
 ·refine aa (dC _ _) ?_;refine H.load 2 rfl fQ rfl ?_;refine ay underlying31 ?_;refine ax (γ:=Nat) (fun i=>[(15,.int .i64 (i:Int))]) (fun i w'=>i≤t.ls.length∧Hp w ab w' [an g7 86 (sc (gp t out mark i)),an g6 86 (sc 0),an g3 33 (cI t.kd t.ni t.no (.slice B t.ls.length c))] []) (fun i=>t.ls.length - i) 0 ⟨rfl,trivial⟩ ⟨Nat.zero_le _,H⟩ ?_;clear H;rintro i u K ⟨hi,H⟩;refine au (fun M=>?_) (fun M=>?_)
  ·have b:i<t.ls.length:=by omega
   obtain ⟨l,z,n⟩:∃ l,t.ls[i]?=some l∧l ∈ t.ls:=⟨_,List.getElem?_eq_getElem b,List.getElem_mem b⟩;obtain ⟨Y,O,o,g⟩:=k i l z;have h:=d.ls l n;have Q:=h.len;obtain ⟨s1,s2,S⟩:=lb d.ni h;obtain ⟨p,j,rfl⟩:=f.A (by omega);obtain ⟨T,C,rfl⟩:=g.A (by omega);have D:l.2.2[out]?=some (l.2.2[out]'(by omega)):=List.getElem?_eq_getElem (by omega);have a:=AZ z out mark;refine aw (fun w'=>Hp w ab w' [an g7 86 (sc (gp t out mark (i+1))),an g6 86 (sc 0),an g3 33 (cI t.kd t.ni t.no (.slice (some ⟨p,j,none⟩) t.ls.length c))] []) ?_ ?_
   ·refine ak (γ:=Nat) (fun g9=>[(9,(ah g9))]) (fun g9 w'=>Hp w ab w' [an g9 77 (fW l.1 l.2.1 (.slice (some ⟨T,C,none⟩) l.2.2.length O)),an g7 86 (sc (gp t out mark i)),an g6 86 (sc 0),an g3 33 (cI t.kd t.ni t.no (.slice (some ⟨p,j,none⟩) t.ls.length c))] []) ?_ ?_
    ·refine aq underlying31 cO i rfl b (o':=j+i*3) (by omega) ?_;refine Sl.dj H f e8 mK cO i rfl o ?_;refine H.alloc 77 (cs:=fW 0 0 (.slice none 0 0)) lY rfl ?_;clear H;intro g4 q H;refine H.storeAll 0 rfl cO rfl (e_ (m:=l.1) (v:=l.2.1)) ?_;clear H;intro E H;exact ⟨g4,⟨rfl,trivial⟩,H⟩
    clear H;rintro g9 u q H;refine aa (eQ _) ?_;refine H.load 0 rfl fl rfl ?_;refine aq underlying75 a_ out rfl (by omega) (o':=C+out) (by omega) ?_;refine aB aE (((g.same H.keeps).cell out (by omega)).trans (eZ (by omega))) ?_;refine ck (fun he=>?_) (fun he=>?_)
    ·have he:((l.2.2[out]'(by omega):Nat):Int)=(mark:Int):=he;rw[if_pos (by rw[D];congr 1;omega)] at a;refine ak (γ:=Nat) (fun g10=>[(10,(ah g10))]) (fun g10 w'=>Hp w ab w' [an g10 86 (sc (bc l.1 l.2.1 t.ni)),an g7 86 (sc (gp t out mark i)),an g6 86 (sc 0),an g3 33 (cI t.kd t.ni t.no (.slice (some ⟨p,j,none⟩) t.ls.length c))] []) ?_ ?_
     ·refine aa (xt _) ?_;refine fT (H.get 0 rfl) (cc l.1 l.2.1).toList bl aJ (sO _ _ _) ?_;refine aa (dY _ _) ?_;refine H.load 3 rfl aE rfl ?_;refine aj (ED l.1 l.2.1 s1 s2 t.ni d.ni S _) ?_;rintro _ E ⟨rfl,s⟩;replace H:=H.same s;refine H.alloc 86 (cs:=sc 0) br aZ ?_;clear H;intro g10 U H;refine H.aV 0 rfl ?_;clear H;intro V H;exact ⟨g10,⟨rfl,trivial⟩,H.b9 [0,2,3,4] (by decide) rfl⟩
     clear H;rintro g10 u E H;refine H.ai 1 rfl aD av ?_;refine H.ai 0 rfl aD av ?_;refine aj (LU _ _ _) ?_;rintro _ U ⟨rfl,s⟩;replace H:=H.same s;refine H.aV 1 rfl ?_;clear H;intro V H;exact ⟨(),trivial,by rw[a];exact H.b9 [1,2,3] (by decide) rfl⟩
    ·have he:((l.2.2[out]'(by omega):Nat):Int)≠(mark:Int):=he;rw[if_neg (by rw[D];intro e;injection e with e;omega)] at a;exact ⟨(),trivial,by rw[a];exact H.forget⟩
   ·clear H;rintro ⟨⟩ u q H;exact ⟨i+1,by show t.ls.length - (i+1)<t.ls.length - i;omega,⟨up (by omega),trivial⟩,by show i+1≤t.ls.length;omega,H⟩
  ·obtain rfl:i=t.ls.length:=by omega
   exact ⟨(),trivial,H.b9 [0,1] (by decide) rfl⟩
 clear H;rintro ⟨⟩ u K H;refine H.ai 0 rfl aD av ?_;refine H.aV 1 rfl ?_;clear H;intro q H;refine H.ai 1 rfl aD av ?_;exact ⟨rfl,rfl,H.keeps⟩
end Go.Proofs.YtpjihhgjbbihkaaGreatDoor
