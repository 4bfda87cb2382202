import Derived.Test.YtpjihhgjbbihkaaGreatDoorPart3
import Derived.Shelf.Small.Wraps
import Derived.Shelf.LaysM
import Derived.Shelf.LaysC
import Derived.Shelf.Strconv.Itoa3
import Derived.Shelf.Strconv.AtoiAll
import Derived.Shelf.Strconv.ErrVarAll
import Derived.Shelf.Strings.Cut
import Derived.Shelf.Strings.Split
import Derived.Test.YtpjihhgjbbihkaaGreatDoorProg
import Derived.Lib.SplitLaws
namespace Go.Dk
def hZ (S:dX)(o:Nat):Nat→Nat
 | 0=>bp S.n
 | j+1=>if o.testBit j then hZ S o j &&&S.may.getD j 0 else hZ S o j
theorem sC (S:dX)(o:Nat):∀ j,hZ S o j<2^256
 | 0=>j7 _
 | j+1=>by
  unfold hZ;split
  ·exact Nat.lt_of_le_of_lt Nat.and_le_left (sC S o j)
  ·exact sC S o j
theorem kS (S:dX)(o:Nat):∀ j,cq (hZ S o j) (bp S.n)
 | 0=>cq.refl _
 | j+1=>fun p a=>by
  unfold hZ at a;split at a
  ·rw[Nat.testBit_and,Bool.and_eq_true] at a;exact kS S o j p a.1
  ·exact kS S o j p a
structure eH (S:dX) (x:Rw):Prop where
 cube:nS S.n (hZ S x.2.2 S.may.length) (x.1,x.2.1)
 outs:iR S x.1 x.2.1=x.2.2
 some:0<x.2.2
 few:x.2.2<2^S.may.length
end Go.Dk
namespace Go.Proofs.YtpjihhgjbbihkaaGreatDoor
open Go.Proofs.Tryz
open Go.Dk
set_option maxRecDepth 100000
attribute [local irreducible] IntKind.wrap
theorem Kp:enters prog 108=true:=by kernel_rfl
set_option maxHeartbeats 4000000 in
theorem Od {S:dX}(Q:cL S)(T:S.n≤7)(Bo:Option Addr)(co:Nat)(Bm:Option Addr)(cm:Nat)(w:World)(hA:fY w S Bo co Bm cm) :
  bw prog 108 [r4 S.n (.slice Bo S.on.length co) (.slice Bm S.may.length cm)] w fun r w'=>∃ A c R,r=.tuple #[.slice A R.length c,.int .i64 0]∧((∀ x,x ∈ R↔eH S x)∧R.Nodup∧R.length≤262144)∧eE w w' (own 50 3 (.slice A R.length c) R.length (flat a6 R)):=by
 refine ar (N:=78) func108 Kp rfl rfl rfl (by simp) ?_;have H:=Hp.aC w;have hn8:=Q.n8;have hml:S.may.length=S.on.length:=Q.len;have h4:S.may.length≤4:=by rw[hml];exact Q.few
 have U:2^S.n≤2^7:=Nat.pow_le_pow_right (by decide) T;have h2k:2^S.may.length≤2^4:=Nat.pow_le_pow_right (by decide) h4;obtain ⟨q,k,rfl⟩:=hA.may.A (by have:=Q.some;omega);refine ak (γ:=Nat) (fun g1=>[(1,(ah g1))]) (fun g1 w'=>Hp w ab w' [an g1 41 (bo S.n (.slice Bo S.on.length co) (.slice (some ⟨q,k,none⟩) S.may.length cm))] []) ?_ ?_
 ·refine H.box 41 _ (cs:=bo S.n (.slice Bo S.on.length co) (.slice (some ⟨q,k,none⟩) S.may.length cm)) rfl ?_;clear H;intro g1 w1 H;exact ⟨g1,⟨rfl,trivial⟩,H⟩
 clear H;rintro g1 u w1 H;refine aw (fun w'=>Hp w ab w' [an g1 41 (bo S.n (.slice Bo S.on.length co) (.slice (some ⟨q,k,none⟩) S.may.length cm))] []) ?_ ?_
 ·refine H.ai 0 rfl dw bL ?_;refine aj (He Q Bo co _ cm _ (hA.same H.keeps)) ?_;rintro _ w2 ⟨rfl,E⟩;replace H:=H.same E;refine af rfl ?_;exact ⟨(),trivial,H⟩
 clear H;rintro ⟨⟩ u w2 H;refine ak (γ:=Unit) (fun _=>[(4,.slice none 0 0)]) (fun _ w'=>Hp w ab w' [own 50 3 (.slice none 0 0) 0 [],an g1 41 (bo S.n (.slice Bo S.on.length co) (.slice (some ⟨q,k,none⟩) S.may.length cm))] []) ⟨(),⟨rfl,trivial⟩,H.bx 50 3⟩ ?_;clear H;rintro ⟨⟩ u w3 H;refine ak (γ:=List Rw × Option Addr × Nat) (fun (R,B,d)=>[(4,.slice B R.length d)]) (fun (R,B,d) w'=>((∀ x,x ∈ R↔eH S x)∧R.Nodup∧R.length≤262144)∧Hp w ab w' [own 50 3 (.slice B R.length d) R.length (flat a6 R)] []) ?_ ?_
 ·refine ax (γ:=Nat × List Rw × Option Addr × Nat) (fun (o,R,B,d)=>[(5,.int .i64 (o:Int)),(4,.slice B R.length d)]) (fun (o,R,B,d) w'=>((0<o∧o≤2^S.may.length)∧(∀ x,x ∈ R↔eH S x∧x.2.2<o)∧R.Nodup∧R.length≤o*16384)∧Hp w ab w' [own 50 3 (.slice B R.length d) R.length (flat a6 R),an g1 41 (bo S.n (.slice Bo S.on.length co) (.slice (some ⟨q,k,none⟩) S.may.length cm))] []) (fun (o,_)=>2^S.may.length - o) (1,[],none,0) ⟨rfl,rfl,trivial⟩ ⟨⟨⟨by decide,Nat.pow_pos (by decide)⟩,fun x=>⟨fun h=>by simp at h,fun h=>absurd h.1.some (by omega)⟩,List.nodup_nil,by simp⟩,H⟩ ?_;clear H;rintro ⟨o,R,B,d⟩ u w4 ⟨⟨⟨ho0,ho⟩,z,s,I⟩,H⟩;refine aa (fS _) ?_;refine H.load 1 rfl dS rfl ?_;refine ay underlying39 ?_;refine c6 (by omega) ?_;refine au (fun h7=>?_) (fun h7=>?_)
  ·have ho2:o<2^S.may.length:=by omega
   have ho16:o<16:=by omega
   refine ak (γ:=List Rw × Option Addr × Nat) (fun (R,B,d)=>[(4,.slice B R.length d)]) (fun (R,B,d) w'=>((∀ x,x ∈ R↔eH S x∧x.2.2<o+1)∧R.Nodup∧R.length≤(o+1)*16384)∧Hp w ab w' [own 50 3 (.slice B R.length d) R.length (flat a6 R),an g1 41 (bo S.n (.slice Bo S.on.length co) (.slice (some ⟨q,k,none⟩) S.may.length cm))] []) ?_ ?_
   ·refine ak (γ:=Nat) (fun g6=>[(6,(ah g6))]) (fun g6 w'=>Hp w ab w' [an g6 86 (sc (bp S.n)),own 50 3 (.slice B R.length d) R.length (flat a6 R),an g1 41 (bo S.n (.slice Bo S.on.length co) (.slice (some ⟨q,k,none⟩) S.may.length cm))] []) ?_ ?_
    ·refine aa (iS _) ?_;refine H.load 1 rfl aF rfl ?_;refine aj (ow S.n hn8 _) ?_;rintro _ w5 ⟨rfl,E⟩;replace H:=H.same E;refine H.alloc 86 (cs:=sc 0) br aY ?_;clear H;intro g6 w6 H;refine H.aW 0 rfl ?_;clear H;intro w7 H;exact ⟨g6,⟨rfl,trivial⟩,H⟩
    clear H;rintro g6 u w5 H;refine aw (fun w'=>Hp w ab w' [an g6 86 (sc (hZ S o S.may.length)),own 50 3 (.slice B R.length d) R.length (flat a6 R),an g1 41 (bo S.n (.slice Bo S.on.length co) (.slice (some ⟨q,k,none⟩) S.may.length cm))] []) ?_ ?_
    ·refine aa (fS _) ?_;refine H.load 2 rfl dS rfl ?_;refine ay underlying39 ?_;refine ax (γ:=Nat) (fun j=>[(33,.int .i64 (j:Int))]) (fun j w'=>j≤S.may.length∧Hp w ab w' [an g6 86 (sc (hZ S o j)),own 50 3 (.slice B R.length d) R.length (flat a6 R),an g1 41 (bo S.n (.slice Bo S.on.length co) (.slice (some ⟨q,k,none⟩) S.may.length cm))] []) (fun j=>S.may.length - j) 0 ⟨rfl,trivial⟩ ⟨Nat.zero_le _,H⟩ ?_;clear H;rintro j u w6 ⟨V,H⟩;refine au (fun h8=>?_) (fun h8=>?_)
     ·refine aw (fun w'=>Hp w ab w' [an g6 86 (sc (hZ S o (j+1))),own 50 3 (.slice B R.length d) R.length (flat a6 R),an g1 41 (bo S.n (.slice Bo S.on.length co) (.slice (some ⟨q,k,none⟩) S.may.length cm))] []) ?_ ?_
      ·obtain ⟨b,hb,hbin⟩:=lC (l:=S.may) (j:=j) (by omega);have X:hZ S o (j+1)=if o.testBit j then hZ S o j &&&b else hZ S o j:=by
        show (if o.testBit j then hZ S o j &&&S.may.getD j 0 else hZ S o j)=_;rw[List.getD_eq_getElem?_getD,hb];rfl
       rw[X];generalize hZ S o j=C at H ⊢;refine ak (γ:=Unit) (fun _=>[(8,.int .i64 (j:Int))]) (fun _ w'=>Hp w ab w' [an g6 86 (sc C),own 50 3 (.slice B R.length d) R.length (flat a6 R),an g1 41 (bo S.n (.slice Bo S.on.length co) (.slice (some ⟨q,k,none⟩) S.may.length cm))] []) ⟨(),⟨rfl,trivial⟩,H⟩ ?_;clear H;rintro ⟨⟩ u w7 H;refine iz (by omega) ?_;refine iy (b:=1) (Nat.lt_of_le_of_lt (Nat.div_le_self _ _) (by omega)) (by omega) ?_
       cases hob:o.testBit j with
       | true=>
        refine ag ((cG o j).trans hob) ?_;refine H.draw eO (by kernel_rfl) ?_;clear H;intro w8 H;refine quiet _ (fun w H=>H.ai 0 rfl aD av ae) ?_;refine quiet _ (fun w H=>aa (fS _) ae) ?_;refine quiet _ (fun w H=>H.load 2 rfl dS rfl ae) ?_;refine quiet _ (fun w H=>ao underlying39 av j rfl (by omega) (o':=k+j*4) (by omega) ae) ?_;refine quiet (sv b) (fun w H=>Sl.cA H hA.may bP aD av j rfl hb ae) ?_;refine aj (c53 _ _ _) ?_;rintro _ w9 ⟨rfl,E⟩;replace H:=H.same E;refine ⟨.inl H,?_⟩;refine H.aW 0 rfl ?_;clear H;intro Y H;refine ⟨.inr rfl,?_⟩;exact ⟨(),trivial,by rw[if_pos rfl];exact H⟩
       | false=>
        refine af ((cG o j).trans hob) ?_;exact ⟨(),trivial,by rw[if_neg (by decide)];exact H⟩
      ·clear H;rintro ⟨⟩ u w7 H;exact ⟨j+1,by show S.may.length - (j+1)<S.may.length - j;omega,⟨up (by omega),trivial⟩,by show j+1≤S.may.length;omega,H⟩
     ·have:j=S.may.length:=by omega
      subst this;exact ⟨(),trivial,H⟩
    clear H;rintro ⟨⟩ u w6 H;refine ak (γ:=Option Addr × Nat × List (Nat × Nat)) (fun (A,c,G)=>[(9,.slice A G.length c)]) (fun (A,c,G) w'=>((∀ x,x ∈ G↔nS S.n (hZ S o S.may.length) x)∧G.Nodup)∧Hp w ab w' [own 48 2 (.slice A G.length c) G.length (flat bZ G),own 50 3 (.slice B R.length d) R.length (flat a6 R),an g1 41 (bo S.n (.slice Bo S.on.length co) (.slice (some ⟨q,k,none⟩) S.may.length cm))] []) ?_ ?_
    ·refine H.ai 0 rfl aD av ?_;refine aa (iS _) ?_;refine H.load 2 rfl aF rfl ?_;refine aj (Ob S.n _ T (kS S o _) (sC S o _) _) ?_;rintro _ w7 ⟨A,c,G,rfl,J,D,K⟩;replace H:=H.bq K;exact ⟨(A,c,G),⟨rfl,trivial⟩,⟨J,D⟩,H.b7 [0,2,3] (by decide) rfl⟩
    clear H;rintro ⟨A,c,G⟩ u w7 ⟨⟨J,D⟩,H⟩;have hGl:G.length≤16384:=by
     have h3:=yS (n:=S.n) D fun x F=>⟨((J x).1 F).1.lt,sub_lt ((J x).1 F).1.lt ((J x).1 F).1.sub⟩;have h4:=Nat.mul_le_mul U U;omega
    refine ay underlying146 ?_;refine ax (γ:=Nat × List Rw × Option Addr × Nat) (fun (i,a,B,d)=>[(58,.int .i64 (i:Int)),(4,.slice B a.length d)]) (fun (i,a,B,d) w'=>(i≤G.length∧(∀ x,x ∈ a↔x ∈ R∨(x.2.2=o∧(x.1,x.2.1) ∈ G.take i∧iR S x.1 x.2.1=o))∧a.Nodup∧a.length≤R.length+i)∧Hp w ab w' [own 48 2 (.slice A G.length c) G.length (flat bZ G),own 50 3 (.slice B a.length d) a.length (flat a6 a),an g1 41 (bo S.n (.slice Bo S.on.length co) (.slice (some ⟨q,k,none⟩) S.may.length cm))] []) (fun (i,_)=>G.length - i) (0,R,B,d) ⟨rfl,rfl,trivial⟩ ⟨⟨Nat.zero_le _,fun x=>by simp,s,Nat.le_refl _⟩,H⟩ ?_;clear H;rintro ⟨i,a,Z,d'⟩ u w8 ⟨⟨hi,g,f,t⟩,H⟩;refine au (fun h9=>?_) (fun h9=>?_)
    ·obtain ⟨x,F,hxin⟩:=rh (l:=G) (j:=i) (by omega);have htk:=iU F;have M:=(J x).1 hxin;have hm:=M.1.lt;have hv:=sub_lt M.1.lt M.1.sub;have hxt:x ∉ G.take i:=fun h=>by
      obtain ⟨j,V⟩:=List.getElem?_of_mem h;rw[List.getElem?_take] at V;split at V
      ·rename_i hji;have:=(List.getElem?_inj (List.getElem?_eq_some_iff.1 F).1 D).1 (F.trans V.symm);omega
      ·cases V
     refine ak (γ:=List Rw × Option Addr × Nat) (fun (R,B,d)=>[(4,.slice B R.length d)]) (fun (a,B,d) w'=>((∀ x,x ∈ a↔x ∈ R∨(x.2.2=o∧(x.1,x.2.1) ∈ G.take (i+1)∧iR S x.1 x.2.1=o))∧a.Nodup∧a.length≤R.length+(i+1))∧Hp w ab w' [own 48 2 (.slice A G.length c) G.length (flat bZ G),own 50 3 (.slice B a.length d) a.length (flat a6 a),an g1 41 (bo S.n (.slice Bo S.on.length co) (.slice (some ⟨q,k,none⟩) S.may.length cm))] []) ?_ ?_
     ·rw[htk];obtain ⟨m,v⟩:=x;simp only at hm hv;obtain ⟨gA,rfl⟩:=H.lY 0 rfl (by omega);refine ak (γ:=Nat) (fun g12=>[(12,(ah g12))]) (fun g12 w'=>Hp w ab w' [an g12 48 (cc m v),own 48 2 (.slice (some ⟨gA,0,none⟩) G.length c) G.length (flat bZ G),own 50 3 (.slice Z a.length d') a.length (flat a6 a),an g1 41 (bo S.n (.slice Bo S.on.length co) (.slice (some ⟨q,k,none⟩) S.may.length cm))] []) ?_ ?_
      ·refine ao underlying146 aO i rfl (by omega) (o':=i*2) (by omega) ?_;refine H.gu 0 rfl fq bz aO i rfl F ?_;refine H.alloc 48 (cs:=cc 0 0) fj rfl ?_;clear H;intro g12 w9 H;refine H.bR (c:=m) (d:=v) 0 rfl ?_;clear H;intro Y H;exact ⟨g12,⟨rfl,trivial⟩,H⟩
      clear H;rintro g12 u w9 H;have how:IntKind.u8.wrap (o:Int)=(o:Int):=by rw[IntKind.wrap_u8];omega
      refine H.ai 3 rfl dw bL ?_;refine H.ai 0 rfl bz aO ?_;refine aj (J7 Q m v (by omega) (by omega) _ _ cm _ (hA.may.same H.keeps) rfl) ?_;rintro _ Y ⟨rfl,E⟩;replace H:=H.same E;clear E;by_cases heq:iR S m v=o
      ·refine j_ (by kernel_rfl) underlying5 (by omega) (by omega) ?_;refine ag (beq_iff_eq.2 (by omega)) ?_;refine H.ai 0 rfl bz aO ?_;refine j_ (by kernel_rfl) underlying5 (by omega) (by omega) ?_;refine qm ?_;refine H.bf vz (cs:=eo m v o) (by decide) (by decide) (by kernel_rfl) ?_;clear H;intro g20 w11 H;refine H.aG 3 0 vz rfl rfl rfl (dT _ _ _) (by omega) (by omega) ?_;clear H;intro B2 d2 w12 H;have e1:(a++[(m,v,o)]).length=a.length+1:=by rw[List.length_append];rfl
       have e2:flat a6 (a++[(m,v,o)])=flat a6 a++a6 (m,v,o):=de ..;refine ⟨(a++[(m,v,o)],B2,d2),⟨by rw[e1];rfl,trivial⟩,⟨fun x=>?_,?_,by rw[e1];omega⟩,by rw[e1,e2];exact H.b7 [2,3,4] (by decide) rfl⟩
       ·rw[List.mem_append,g,List.mem_singleton,or_assoc,List.mem_append,List.mem_singleton];refine or_congr_right ⟨fun h=>?_,fun h=>?_⟩
        ·rcases h with h | rfl
         ·exact ⟨h.1,.inl h.2.1,h.2.2⟩
         ·exact ⟨rfl,.inr rfl,heq⟩
        ·rcases h.2.1 with p | p
         ·exact .inl ⟨h.1,p,h.2.2⟩
         ·injection p with h3 h4;exact .inr (Prod.ext h3 (Prod.ext h4 h.1))
       ·rw[List.nodup_append];refine ⟨f,by simp,fun x hx' y hy e=>?_⟩;obtain rfl:=List.mem_singleton.1 hy;subst e;rcases (g _).1 hx' with h | h
        ·have:=((z _).1 h).2;simp only at this;omega
        ·exact hxt h.2.1
      ·refine j_ (by kernel_rfl) underlying5 (by omega) (by omega) ?_;refine af (beq_eq_false_iff_ne.2 (by omega)) ?_;refine ⟨(a,Z,d'),⟨rfl,trivial⟩,⟨fun x=>(g x).trans (or_congr_right ⟨fun h=>⟨h.1,List.mem_append_left _ h.2.1,h.2.2⟩,fun h=>⟨h.1,?_,h.2.2⟩⟩),f,by omega⟩,H.forget⟩;rcases List.mem_append.1 h.2.1 with p | p
       ·exact p
       ·have O:=List.mem_singleton.1 p;exact absurd (by rw[← h.2.2,show x.1=m from congrArg Prod.fst O,show x.2.1=v from congrArg Prod.snd O]) heq
     ·clear H g f t;rintro ⟨a,Z,d'⟩ u w9 ⟨⟨g,f,t⟩,H⟩;exact ⟨(i+1,a,Z,d'),by show G.length - (i+1)<G.length - i;omega,⟨up (by omega),rfl,trivial⟩,⟨by show i+1≤G.length;omega,g,f,t⟩,H⟩
    ·have:i=G.length:=by omega
     subst this;rw[List.take_length] at g;refine ⟨(a,Z,d'),⟨rfl,trivial⟩,⟨fun x=>(g x).trans ?_,f,by show a.length≤(o+1)*16384;omega⟩,H.b7 [1,2] (by decide) rfl⟩;rw[z x,J];constructor
     ·rintro (⟨p,O⟩ | ⟨p,O,h3⟩)
      ·exact ⟨p,by omega⟩
      ·exact ⟨⟨by rw[p];exact O,by rw[p];exact h3,by omega,by omega⟩,by omega⟩
     ·rintro ⟨p,O⟩;rcases Nat.lt_succ_iff_lt_or_eq.1 O with h | h
      ·exact .inl ⟨p,h⟩
      ·exact .inr ⟨h,by rw[← h];exact p.cube,by rw[p.outs,h]⟩
   ·clear H z s I;rintro ⟨R,B,d⟩ u w5 ⟨⟨z,s,I⟩,H⟩;exact ⟨(o+1,R,B,d),by show 2^S.may.length - (o+1)<2^S.may.length - o;omega,⟨up (by omega),rfl,trivial⟩,⟨⟨Nat.succ_pos _,ho2⟩,z,s,I⟩,H⟩
  ·have:o=2^S.may.length:=by omega
   subst this;refine ⟨(R,B,d),⟨rfl,trivial⟩,⟨fun x=>(z x).trans ⟨fun h=>h.1,fun h=>⟨h,h.few⟩⟩,s,by omega⟩,H.only⟩
 clear H;rintro ⟨R,B,d⟩ u w4 ⟨z,H⟩;refine aj (c152 R (by omega) B d _ (bB (H.get 0 rfl))) ?_;rintro _ w5 ⟨B2,d2,R2,hp,rfl,K⟩;replace H:=H.bq K;exact ⟨B2,d2,R2,rfl,⟨fun x=>hp.mem_iff.trans (z.1 x),hp.nodup_iff.2 z.2.1,by rw[hp.length_eq];exact z.2.2⟩,H.only.out⟩
theorem Kq:enters prog 112=true:=by kernel_rfl
theorem Oe (a b:List Int)(A B:Option Addr)(c d:Nat)(w:World)(n:a.length≤1000000)(o:b.length≤1000000)(j:Sl w (.slice A a.length c) 1 a.length (aA a))(k:Sl w (.slice B b.length d) 1 b.length (aA b)) :
  bw prog 112 [.slice A a.length c,.slice B b.length d] w fun r w'=>(∃ p,r=.bool p)∧aT w w':=by
 refine ar (N:=40) func112 Kq rfl rfl rfl (by simp) ?_;have H:=Hp.aC w;refine aw (fun w'=>Hp w ab w' [] []) ⟨(),trivial,H⟩ ?_;clear H;rintro ⟨⟩ u v H;by_cases x:a.length=b.length
 ·have g:(a.length:Int)=b.length:=by omega
  refine aw (fun w'=>Hp w ab w' [] []) ?_ ?_
  ·refine ay underlying75 ?_;refine ay underlying75 ?_;refine af (bne_eq_false_iff_eq.2 g) ?_;exact ⟨(),trivial,H⟩
  clear H;rintro ⟨⟩ u y H;refine aw (fun w'=>Hp w ab w' [] []) ?_ ?_
  ·refine ay underlying75 ?_;refine ax (γ:=Nat) (fun i=>[(18,.int .i64 (i:Int))]) (fun i w'=>i≤a.length∧Hp w ab w' [] []) (fun i=>a.length - i) 0 ⟨rfl,trivial⟩ ⟨Nat.zero_le _,H⟩ ?_;clear H;rintro i u q ⟨hi,H⟩;refine au (fun s=>?_) (fun s=>?_)
   ·obtain ⟨z,l,rfl⟩:=j.A (by omega);obtain ⟨C,m,rfl⟩:=k.A (by omega);refine aw (fun w'=>Hp w ab w' [] []) ?_ ?_
    ·refine ak (γ:=Unit) (fun _=>[(5,.int .i64 (i:Int))]) (fun _ w'=>Hp w ab w' [] []) ⟨(),⟨rfl,trivial⟩,H⟩ ?_;clear H;rintro ⟨⟩ u t H;have e:i<a.length:=by omega
     have f:i<b.length:=by omega
     refine H.draw eO (by kernel_rfl) ?_;clear H;intro D H;refine quiet _ (fun w H=>ao underlying75 bc i rfl e (o':=l+i) (by omega) ae) ?_;refine quiet (.int .i64 a[i]) (fun w H=>aB aF (((j.same H.keeps).cell i (by omega)).trans (oC e)) ae) ?_;refine quiet _ (fun w H=>ao underlying75 bc i rfl f (o':=m+i) (by omega) ae) ?_;refine quiet (.int .i64 b[i]) (fun w H=>aB aF (((k.same H.keeps).cell i (by omega)).trans (oC f)) ae) ?_;by_cases h:a[i]=b[i]
     ·refine af (bne_eq_false_iff_eq.2 h) ?_;exact ⟨(),trivial,H⟩
     ·refine ag (bne_iff_ne.2 h) ?_;refine H.draw eO (by kernel_rfl) ?_;clear H;intro E H;refine quiet _ (fun w H=>ao underlying75 bc i rfl e (o':=l+i) (by omega) ae) ?_;refine quiet (.int .i64 a[i]) (fun w H=>aB aF (((j.same H.keeps).cell i (by omega)).trans (oC e)) ae) ?_;refine quiet _ (fun w H=>ao underlying75 bc i rfl f (o':=m+i) (by omega) ae) ?_;refine quiet (.int .i64 b[i]) (fun w H=>aB aF (((k.same H.keeps).cell i (by omega)).trans (oC f)) ae) ?_;exact ⟨⟨_,rfl⟩,H.keeps⟩
    ·clear H;rintro ⟨⟩ u t H;exact ⟨i+1,by show a.length - (i+1)<a.length - i;omega,⟨up (by omega),trivial⟩,by show i+1≤a.length;omega,H⟩
   ·exact ⟨(),trivial,H⟩
  clear H;rintro ⟨⟩ u q H;exact ⟨⟨_,rfl⟩,H.keeps⟩
 ·have g:¬ (a.length:Int)=b.length:=by omega
  refine ay underlying75 ?_;refine ay underlying75 ?_;refine ag (bne_iff_ne.2 g) ?_;refine ay underlying75 ?_;refine ay underlying75 ?_;exact ⟨⟨_,rfl⟩,H.keeps⟩
end Go.Proofs.YtpjihhgjbbihkaaGreatDoor
namespace Go.Dk
def cz (a:List Nat):List UInt8:=a.flatMap fun k=>[UInt8.ofNat (k / 256),UInt8.ofNat (k % 256)]
theorem iV (a:List Nat):(cz a).length=2*a.length:=by
 induction a with
 | nil=>rfl
 | cons k a ih=>show (_::_::cz a).length=_;simp[ih];omega
theorem AD (a:List Nat)(k:Nat):cz (a++[k])=cz a++[UInt8.ofNat (k / 256),UInt8.ofNat (k % 256)]:=by unfold cz;rw[List.flatMap_append];rfl
theorem wY {a:Nat}(h:a<256):(UInt8.ofNat a).toNat=a:=by rw[UInt8.toNat_ofNat'];omega
theorem vD:∀ {a b:List Nat},(∀ k ∈ a,k<65536)→(∀ k ∈ b,k<65536)→cz a=cz b→a=b
 | [],[],_,_,_=>rfl
 | [],y::b,_,_,h=>by have:=congrArg List.length h;rw[iV,iV] at this;simp at this
 | x::a,[],_,_,h=>by have:=congrArg List.length h;rw[iV,iV] at this;simp at this
 | x::a,y::b,ha,hb,h=>by
  have h:UInt8.ofNat (x / 256)::UInt8.ofNat (x % 256)::cz a=UInt8.ofNat (y / 256)::UInt8.ofNat (y % 256)::cz b:=h;injection h with c h;injection h with d h;have e:=ha x (.head _);have f:=hb y (.head _);have c:=congrArg UInt8.toNat c;have d:=congrArg UInt8.toNat d;rw[wY (by omega),wY (by omega)] at c d;rw[vD (fun k h=>ha k (.tail _ h)) (fun k h=>hb k (.tail _ h)) h,show x=y by omega]
end Go.Dk
namespace Go.Proofs.YtpjihhgjbbihkaaGreatDoor
open Go.Proofs.Tryz
open Go.Dk
set_option maxRecDepth 100000
attribute [local irreducible] IntKind.wrap
theorem Kr:enters prog 111=true:=by kernel_rfl
theorem Of (a:List Nat)(o:∀ k ∈ a,k<65536)(A:Option Addr)(c:Nat)(w:World)(D:a.length≤1000000)(j:Sl w (.slice A a.length c) 1 a.length (ints a)) :
  bw prog 111 [.slice A a.length c] w fun r w'=>r=aU (cz a)∧aT w w':=by
 refine ar (N:=23) func111 Kr rfl rfl rfl (by simp) ?_;have H:=Hp.aC w;refine aw (fun w'=>Hp w ab w' [] []) ⟨(),trivial,H⟩ ?_;clear H;rintro ⟨⟩ u E H;refine ak (γ:=Unit) (fun _=>[(3,.slice none 0 0)]) (fun _ w'=>Hp w ab w' [own 5 1 (.slice none 0 0) 0 []] []) ⟨(),⟨rfl,trivial⟩,H.bx 5 1⟩ ?_;clear H;rintro ⟨⟩ u F H;refine ak (γ:=Option Addr × Nat) (fun (B,d)=>[(3,.slice B (cz a).length d)]) (fun (B,d) w'=>Hp w ab w' [own 5 1 (.slice B (cz a).length d) (cz a).length (fN (cz a))] []) ?_ ?_
 ·refine ay underlying75 ?_;refine ax (γ:=Nat × Option Addr × Nat) (fun (i,B,d)=>[(8,.int .i64 (i:Int)),(3,.slice B (cz (a.take i)).length d)]) (fun (i,B,d) w'=>i≤a.length∧Hp w ab w' [own 5 1 (.slice B (cz (a.take i)).length d) (cz (a.take i)).length (fN (cz (a.take i)))] []) (fun (i,_)=>a.length - i) (0,none,0) ⟨rfl,rfl,trivial⟩ ⟨Nat.zero_le _,H⟩ ?_;clear H;rintro ⟨i,B,d⟩ u p ⟨hi,H⟩;refine au (fun q=>?_) (fun q=>?_)
  ·have b:i<a.length:=by omega
   obtain ⟨G,s,rfl⟩:=j.A (by omega);obtain ⟨k,f⟩:∃ k,a[i]=k:=⟨_,rfl⟩;have t:k<65536:=o k (f ▸ List.getElem_mem b);have g:a.take (i+1)=a.take i++[k]:=iU (by rw[List.getElem?_eq_getElem b,f]);have hlen:=iV (a.take i);rw[List.length_take,Nat.min_eq_left hi] at hlen;refine ak (γ:=Option Addr × Nat) (fun (B,d)=>[(3,.slice B (cz (a.take (i+1))).length d)]) (fun (B,d) w'=>Hp w ab w' [own 5 1 (.slice B (cz (a.take (i+1))).length d) (cz (a.take (i+1))).length (fN (cz (a.take (i+1))))] []) ?_ ?_
   ·rw[g,AD];refine ak (γ:=Unit) (fun _=>[(5,.int .i64 (k:Int))]) (fun _ w'=>Hp w ab w' [own 5 1 (.slice B (cz (a.take i)).length d) (cz (a.take i)).length (fN (cz (a.take i)))] []) ?_ ?_
    ·refine ao underlying75 bc i rfl b (o':=s+i) (by omega) ?_;refine aB aF (((j.same H.keeps).cell i (by omega)).trans (eP b)) ?_;rw[f];exact ⟨(),⟨rfl,trivial⟩,H⟩
    clear H;rintro ⟨⟩ u x H;have y:IntKind.u8.wrap ((k / 2^8:Nat):Int)=((k / 256:Nat):Int):=by rw[IntKind.wrap_u8];omega
    have h:IntKind.u8.wrap (k:Int)=((k % 256:Nat):Int):=by rw[IntKind.wrap_u8];omega
    refine iz (n:=8) (by omega) ?_;refine j_ (by kernel_rfl) underlying5 (by omega) (by omega) ?_;refine jP (by kernel_rfl) underlying5 ?_;refine H.bf En (cs:=#[.int .u8 ((k / 2^8:Nat):Int),.int .u8 ((k % 256:Nat):Int)]) (by decide) (by decide) (by first | kernel_rfl | (rw[← h];kernel_rfl)) ?_;clear H;intro g20 I H;refine H.aG (c:=2) 1 0 En rfl rfl rfl (by intro v l;simp at l;rcases l with rfl | rfl <;> rfl) (by omega) (by omega) ?_;clear H;intro z d2 J H;have m:((cz (a.take i))++[UInt8.ofNat (k / 256),UInt8.ofNat (k % 256)]).length=(cz (a.take i)).length+2:=by simp
    have C:fN ((cz (a.take i))++[UInt8.ofNat (k / 256),UInt8.ofNat (k % 256)])=fN (cz (a.take i))++#[Value.int .u8 ((k / 2^8:Nat):Int),.int .u8 ((k % 256:Nat):Int)].toList:=by
     unfold fN;rw[List.map_append,List.map_cons,List.map_cons,List.map_nil,wY (by omega),wY (by omega)]
    exact ⟨(z,d2),⟨by rw[m];rfl,trivial⟩,by rw[m,C];exact H.forget⟩
   ·clear H;rintro ⟨B,d⟩ u x H;exact ⟨(i+1,B,d),by show a.length - (i+1)<a.length - i;omega,⟨up (by omega),rfl,trivial⟩,by show i+1≤a.length;omega,H⟩
  ·have:i=a.length:=by omega
   subst this;have e:cz (a.take a.length)=cz a:=by rw[List.take_length]
   rw[e] at H;exact ⟨(B,d),⟨by rw[← e];rfl,trivial⟩,H⟩
 clear H;rintro ⟨B,d⟩ u p H;refine H.s6 0 underlying151 underlying5 underlying9 rfl ?_;exact ⟨rfl,H.keeps⟩
end Go.Proofs.YtpjihhgjbbihkaaGreatDoor
namespace Go.Dk
theorem B0 {α:Type}{l:List α}{x:α}{i:Nat}(hi:i≤l.length)(j:Nat):(l.take i++x::l.drop i)[j]?=if j<i then l[j]? else if j=i then some x else l[j - 1]?:=by
 rw[List.getElem?_append,List.length_take,Nat.min_eq_left hi];split
 ·rw[List.getElem?_take,if_pos (by assumption)]
 ·rename_i h;by_cases a:j=i
  ·subst a;simp
  ·rw[if_neg a,show j - i=(j - i - 1)+1 by omega,List.getElem?_cons_succ,List.getElem?_drop,show i+(j - i - 1)=j - 1 by omega]
theorem Hq {α:Type}{l:List α}{x y:α}{i:Nat}:y ∈ l.take i++x::l.drop i↔y=x∨y ∈ l:=by
 have b:(l.take i++x::l.drop i).Perm (x::l):=by
  have:=List.perm_middle (a:=x) (l₁:=l.take i) (l₂:=l.drop i)
  rwa [List.take_append_drop] at this
 rw[b.mem_iff,List.mem_cons]
def cZ (n:Nat)(R:List Rw)(out p:Nat):Nat→List Nat
 | 0=>[]
 | j+1=>match R[j]? with
  | some x=>if x.2.2.testBit out&&(bd x.1 x.2.1 n).testBit p then cZ n R out p j++[j] else cZ n R out p j
  | none=>cZ n R out p j
theorem tP {n out p j:Nat}{R:List Rw}{x:Rw}(h:R[j]?=some x):cZ n R out p (j+1)=if x.2.2.testBit out&&(bd x.1 x.2.1 n).testBit p then cZ n R out p j++[j] else cZ n R out p j:=by
 show (match R[j]? with | some x=>_ | none=>_)=_;rw[h]
theorem kC {n out p c:Nat}{R:List Rw}:∀ {j},c ∈ cZ n R out p j↔c<j∧∃ x,R[c]?=some x∧x.2.2.testBit out=true∧(bd x.1 x.2.1 n).testBit p=true
 | 0=>by simp[cZ]
 | j+1=>by
  have i:=kC (n:=n) (out:=out) (p:=p) (c:=c) (R:=R) (j:=j)
  cases h:R[j]? with
  | none=>
   have e:cZ n R out p (j+1)=cZ n R out p j:=by
    show (match R[j]? with | some x=>_ | none=>_)=_;rw[h]
   rw[e,i];constructor
   ·rintro ⟨d,a⟩;exact ⟨by omega,a⟩
   ·rintro ⟨d,x,a,f⟩;rcases Nat.lt_succ_iff_lt_or_eq.1 d with b | b
    ·exact ⟨b,x,a,f⟩
    ·subst b;rw[h] at a;cases a
  | some x=>
   rw[tP h];by_cases g:(x.2.2.testBit out&&(bd x.1 x.2.1 n).testBit p)=true
   ·rw[if_pos g,List.mem_append,i,List.mem_singleton];rw[Bool.and_eq_true] at g;constructor
    ·rintro (⟨d,a⟩ | rfl)
     ·exact ⟨by omega,a⟩
     ·exact ⟨by omega,x,h,g⟩
    ·rintro ⟨d,y,a,f⟩;rcases Nat.lt_succ_iff_lt_or_eq.1 d with b | b
     ·exact .inl ⟨b,y,a,f⟩
     ·exact .inr b
   ·rw[if_neg g,i];constructor
    ·rintro ⟨d,a⟩;exact ⟨by omega,a⟩
    ·rintro ⟨d,y,a,f⟩;rcases Nat.lt_succ_iff_lt_or_eq.1 d with b | b
     ·exact ⟨b,y,a,f⟩
     ·subst b;rw[h] at a;injection a with a;subst a;rw[f.1,f.2] at g;exact absurd rfl g
theorem mn (n:Nat)(R:List Rw)(out p:Nat):∀ j,(cZ n R out p j).length≤j
 | 0=>Nat.le_refl _
 | j+1=>by
  have a:=mn n R out p j;unfold cZ;split
  ·split
   ·simp;omega
   ·omega
  ·omega
end Go.Dk
namespace Go.Proofs.YtpjihhgjbbihkaaGreatDoor
open Go.Proofs.Tryz
open Go.Dk
set_option maxRecDepth 100000
attribute [local irreducible] IntKind.wrap
theorem Fh (a b:List UInt8)(h:aU a=aU b):a=b:=by
 unfold aU at h;injection h with h;injection h with h;exact Array.toList_inj.2 h |> fun h=>by simpa using h
theorem Ks:ld prog 170 9 4 aU Value.bool (.bool false):=⟨underlying170,(KL.D5 underlying9).mono (fun v ⟨l,h⟩=>by subst h;exact trivial),Fh,by kernel_rfl⟩
theorem je.ins {S:Nat→Prop}{w:World}{hs:List Value}{Q:a7}{u:Value}{l:List Int}(h:je S w (hs++[u]) (Q++[l])){i:Nat}(hi:i≤hs.length):je S w (hs.take i++u::hs.drop i) (Q.take i++l::Q.drop i):=by
 obtain ⟨m,n⟩:=h;rw[List.length_append,List.length_append] at m;have c:hs.length=Q.length:=by simpa using m
 refine ⟨by simp;omega,fun j v rs b a=>?_⟩;rw[B0 hi] at b;rw[B0 (by omega)] at a;have old:∀ k,hs[k]?=some v→Q[k]?=some rs→q7 S w v rs:=fun k o d=>by
  have e:=(List.getElem?_eq_some_iff.1 o).1;exact n k v rs (by rw[List.getElem?_append_left e];exact o) (by rw[List.getElem?_append_left (by omega)];exact d)
 split at b
 ·rename_i f;rw[if_pos f] at a;exact old j b a
 ·rename_i f;rw[if_neg f] at a;split at b
  ·rename_i g;rw[if_pos g] at a;injection b with b;injection a with a;subst b a;exact n hs.length _ _ (by simp) (by rw[c];simp)
  ·rename_i g;rw[if_neg g] at a;exact old _ b a
theorem _root_.Go.Dk.Hp.Kt {w0 w:World}{L M:List cH}{S:Nat→Prop}{hs:List Value}{Q:a7}{v:Value}{b:List Int}(H:Hp w0 ab w (own 3 1 v b.length (aA b)::L) (dk S hs Q::M))(h:∀ g,S g→w0.heap.size≤g){i:Nat}(hi:i≤hs.length) :
  ∃ a,Hp w0 ab w L (dk a (hs.take i++v::hs.drop i) (Q.take i++b::Q.drop i)::M)∧∀ g,a g→w0.heap.size≤g:=by
 obtain ⟨a,c,d⟩:=H.z8 h;refine ⟨a,(c.pU (aS.refl _ _) (dk a (hs.take i++v::hs.drop i) (Q.take i++b::Q.drop i)) (je.ins (c.ro 0 rfl) hi) fun g f=>⟨c.rlt _ (.head _) g f,.inr ⟨_,.head _,f⟩⟩).ey ?_,d⟩;intro r e;rcases List.mem_cons.1 e with rfl | e
 ·exact .head _
 ·exact .tail _ (.tail _ e)
def kT (a:List Nat):List Int:=a.map fun k:Nat=>(k:Int)
theorem AF (a:List Nat):aA (kT a)=ints a:=by unfold aA kT ints;rw[List.map_map];rfl
theorem lE (a:List Nat):(kT a).length=a.length:=List.length_map _
theorem yU {a b:List Nat}(h:kT a=kT b):a=b:=List.map_inj_right (fun x y h=>by omega) |>.1 h
theorem wZ:cP prog 44=some false:=by kernel_rfl
theorem e8:cP prog 75=some false:=by kernel_rfl
theorem w_:cP prog 170=some false:=by kernel_rfl
def r6 (l:List (List UInt8 × Bool))(Q:a7):Prop:=∀ a:List Nat,(∀ k ∈ a,k<65536)→(bS l (cz a)).getD false=decide (kT a ∈ Q)
def ng (n:Nat)(R:List Rw):List Nat:=R.map fun x=>bd x.1 x.2.1 n
abbrev sD (n:Nat)(R:List Rw)(A:Option Addr)(c:Nat)(a:Option Addr)(b g2 g3 g4 g5 r:Nat)(l:List (List UInt8 × Bool))(cols:Int)(B:Option Addr)(d:Nat)(hs:List Value)(X:List cH):List cH:=
 an g4 170 #[.map (some r)]::aP aU Value.bool r l::an g5 137 (mc cols (.slice B hs.length d))::own 75 1 (.slice B hs.length d) hs.length hs::an g2 44 #[.slice A R.length c]::an g3 39 #[.slice a R.length b]::own 86 4 (.slice a R.length b) R.length (flat bK (ng n R))::X
theorem Ku:enters prog 109=true:=by kernel_rfl
set_option maxHeartbeats 4000000 in
theorem c109 {n:Nat}(R:List Rw)(hR:∀ x ∈ R,x.2.2<256)(hRl:R.length≤4000)(out p:Nat)(hout:out<8)(hp:p<256)(A:Option Addr)(c:Nat)(q:Option Addr)(t g2 g3 g4 g5 r:Nat)(l:List (List UInt8 × Bool))(cols:Int)(B:Option Addr)(d:Nat)(hs:List Value)(Q:a7)(a:Nat→Prop)(X:List cH)(w0 w:World)(hA:Sl w0 (.slice A R.length c) 3 R.length (flat a6 R))(Z:∀ g,a g→w0.heap.size≤g)(hQ:Q.length≤100000)(hQr:∀ row ∈ Q,row.length≤4000)(y:r6 l Q)(H:Hp w0 ab w (sD n R A c q t g2 g3 g4 g5 r l cols B d hs X) [dk a hs Q]) :
  bw prog 109 ([.int .i64 (out:Int),.int .i64 (p:Int)]++[(ah g2),(ah g3),(ah g4),(ah g5)]) w fun v w'=>
   v=.tuple #[]∧∃ l' B' d' a0 Q' S2,(r6 l' Q'∧(∀ row,row ∈ Q'↔row ∈ Q∨row=kT (cZ n R out p R.length))∧Q'.length≤Q.length+1∧∀ g,S2 g→w0.heap.size≤g)∧
    Hp w0 ab w' (sD n R A c q t g2 g3 g4 g5 r l' cols B' d' a0 X) [dk S2 a0 Q']:=by
 refine ar (N:=77) func109 Ku rfl rfl rfl (by simp) ?_;refine ak (γ:=Unit) (fun _=>[(8,.slice none 0 0)]) (fun _ w'=>Hp w0 ab w' (own 3 1 (.slice none 0 0) 0 []::sD n R A c q t g2 g3 g4 g5 r l cols B d hs X) [dk a hs Q]) ⟨(),⟨rfl,trivial⟩,H.bx 3 1⟩ ?_;clear H;rintro ⟨⟩ u w1 H;refine ak (γ:=Option Addr × Nat) (fun (C,e)=>[(8,.slice C (cZ n R out p R.length).length e)]) (fun (C,e) w'=>Hp w0 ab w' (own 3 1 (.slice C (cZ n R out p R.length).length e) (cZ n R out p R.length).length (ints (cZ n R out p R.length))::sD n R A c q t g2 g3 g4 g5 r l cols B d hs X) [dk a hs Q]) ?_ ?_
 ·refine H.load 5 rfl wZ rfl ?_;refine ay underlying44 ?_;refine ax (γ:=Nat × Option Addr × Nat) (fun (j,C,e)=>[(15,.int .i64 (j:Int)),(8,.slice C (cZ n R out p j).length e)]) (fun (j,C,e) w'=>j≤R.length∧Hp w0 ab w' (own 3 1 (.slice C (cZ n R out p j).length e) (cZ n R out p j).length (ints (cZ n R out p j))::sD n R A c q t g2 g3 g4 g5 r l cols B d hs X) [dk a hs Q]) (fun (j,_)=>R.length - j) (0,none,0) ⟨rfl,rfl,trivial⟩ ⟨Nat.zero_le _,H⟩ ?_;clear H;rintro ⟨j,C,e⟩ u w2 ⟨hj,H⟩;refine au (fun h7=>?_) (fun h7=>?_)
  ·obtain ⟨gA,oA,rfl⟩:=hA.A (by omega);obtain ⟨x,hx,a1⟩:=iT (l:=R) (j:=j) (by omega);have T:=tP (n:=n) (out:=out) (p:=p) hx;have a2:=mn n R out p j;refine ak (γ:=Option Addr × Nat) (fun (C,e)=>[(8,.slice C (cZ n R out p (j+1)).length e)]) (fun (C,e) w'=>Hp w0 ab w' (own 3 1 (.slice C (cZ n R out p (j+1)).length e) (cZ n R out p (j+1)).length (ints (cZ n R out p (j+1)))::sD n R (some ⟨gA,oA,none⟩) c q t g2 g3 g4 g5 r l cols B d hs X) [dk a hs Q]) ?_ ?_
   ·rw[T];have a3:=hR x a1;obtain ⟨m,v,o⟩:=x;simp only at a3;refine ak (γ:=Nat) (fun g10=>[(10,(ah g10)),(9,.int .i64 (j:Int))]) (fun g10 w'=>Hp w0 ab w' (an g10 50 (eo m v o)::own 3 1 (.slice C (cZ n R out p j).length e) (cZ n R out p j).length (ints (cZ n R out p j))::sD n R (some ⟨gA,oA,none⟩) c q t g2 g3 g4 g5 r l cols B d hs X) [dk a hs Q]) ?_ ?_
    ·refine ao underlying44 aZ j rfl (by omega) (o':=oA+j*3) (by omega) ?_;refine Sl.cA H hA bl gV aZ j rfl hx ?_;refine H.alloc 50 (cs:=eo 0 0 0) jz rfl ?_;clear H;intro g10 w3 H;refine H.storeAll (cs':=eo m v o) 0 rfl aZ rfl (dT _ _ _) ?_;clear H;intro w4 H;exact ⟨g10,⟨rfl,rfl,trivial⟩,H⟩
    clear H;rintro g10 u w3 H;have a4:=cG o out;obtain ⟨gP,rfl⟩:=H.lY 8 rfl (by omega);have hpx:(ng n R)[j]?=some (bd m v n):=by unfold ng;rw[List.getElem?_map,hx];rfl
    have hpl:(ng n R).length=R.length:=List.length_map _;refine aa (dt _ _) ?_;refine H.load 0 rfl b5 rfl ?_;refine e7 (by omega) ?_;refine dV (b:=1) (Nat.lt_of_le_of_lt (Nat.div_le_self _ _) a3) (by omega) ?_;simp only
    cases hob:o.testBit out with
    | true=>
     rw[hob] at a4;refine ag (by assumption) ?_;refine H.load 7 (i:=0) rfl dS rfl ?_
     iterate 2 refine ag (by assumption) ?_
     refine ao underlying39 av j rfl (by omega) (o':=j*4) (by omega) ?_;refine ag (by assumption) ?_;refine H.gu 8 rfl bP aD av j rfl hpx ?_
     iterate 2 refine ag (by assumption) ?_
     refine aj (yf (bd m v n) p hp _) ?_;rintro _ w4 ⟨rfl,E⟩;replace H:=H.same E;clear E;refine ag (by assumption) ?_
     cases hcb:(bd m v n).testBit p with
     | true=>
      refine ag rfl ?_;refine H.aX dH rfl ?_;clear H;intro g20 w5 H;refine H.cn 1 dH rfl rfl (by omega) (by omega) ?_;clear H;intro C2 e2 w6 H;have e3:(cZ n R out p j++[j]).length=(cZ n R out p j).length+1:=by simp
      have e4:ints (cZ n R out p j++[j])=ints (cZ n R out p j)++[.int .i64 (j:Int)]:=by unfold ints;rw[List.map_append];rfl
      simp only[Bool.and_self,if_true];exact ⟨(C2,e2),⟨by rw[e3];rfl,trivial⟩,by rw[e3,e4];exact H.forget⟩
     | false=>
      refine af rfl ?_;exact ⟨(C,e),⟨rfl,trivial⟩,H.forget⟩
    | false=>
     rw[hob] at a4
     iterate 7 refine af (by assumption) ?_
     refine af rfl ?_;exact ⟨(C,e),⟨rfl,trivial⟩,H.forget⟩
   ·clear H;rintro ⟨C,e⟩ u w3 H;exact ⟨(j+1,C,e),by show R.length - (j+1)<R.length - j;omega,⟨up (by omega),rfl,trivial⟩,by show j+1≤R.length;omega,H⟩
  ·have:j=R.length:=by omega
   subst this;exact ⟨(C,e),⟨rfl,trivial⟩,H⟩
 clear H;rintro ⟨C,e⟩ u w2 H;have a2:=mn n R out p R.length;have F:∀ k ∈ cZ n R out p R.length,k<65536:=fun k E=>by have:=(kC.1 E).1;omega
 generalize cZ n R out p R.length=K at H a2 F ⊢;have G:=lE K;have a5:=AF K;refine ak (γ:=Unit) (fun _=>[(11,aU (cz K))]) (fun _ w'=>Hp w0 ab w' (own 3 1 (.slice C K.length e) K.length (ints K)::sD n R A c q t g2 g3 g4 g5 r l cols B d hs X) [dk a hs Q]) ?_ ?_
 ·refine aj (Of K F C e _ (by omega) (bB (H.get 0 rfl))) ?_;rintro _ w3 ⟨rfl,E⟩;replace H:=H.same E;exact ⟨(),⟨rfl,trivial⟩,H⟩
 clear H;rintro ⟨⟩ u w3 H;have I:=y K F;by_cases U:kT K ∈ Q
 ·refine H.load 1 rfl w_ rfl ?_;rw[decide_eq_true U] at I;refine en (H.get 2 rfl) Ks (cz K) (v:=.bool true) (by revert I;cases bS l (cz K) <;> simp) ?_;refine ag rfl ?_;exact ⟨rfl,l,B,d,hs,Q,a,⟨y,fun row=>⟨.inl,fun h=>h.elim id (fun e=>e ▸ U)⟩,Nat.le_succ _,Z⟩,H.forget⟩
 rw[decide_eq_false U] at I;refine aw (fun w'=>Hp w0 ab w' (own 3 1 (.slice C K.length e) K.length (ints K)::sD n R A c q t g2 g3 g4 g5 r l cols B d hs X) [dk a hs Q]) ?_ ?_
 ·refine H.load 1 rfl w_ rfl ?_;refine en (H.get 2 rfl) Ks (cz K) (v:=.bool false) (by revert I;cases bS l (cz K) <;> simp) ?_;refine af rfl ?_;exact ⟨(),trivial,H⟩
 clear H;rintro ⟨⟩ u w4 H;refine aw (fun w'=>Hp w0 ab w' (own 3 1 (.slice C K.length e) K.length (ints K)::sD n R A c q t g2 g3 g4 g5 r (dZ l (cz K) true) cols B d hs X) [dk a hs Q]) ?_ ?_
 ·refine H.load 1 rfl w_ rfl ?_;refine H.iI 2 rfl Ks (cz K) true ?_;clear H;intro w5 H;exact ⟨(),trivial,H⟩
 clear H;rintro ⟨⟩ u w5 H;have hhl:hs.length=Q.length:=(show je a w5 hs Q from H.ro 0 rfl).1;have J:∀ Q':a7,(∀ row,row ∈ Q'↔row ∈ Q∨row=kT K)→r6 (dZ l (cz K) true) Q':=fun Q' a8 ks a9=>by
  rw[fg];by_cases hw:cz ks=cz K
  ·rw[if_pos hw];obtain rfl:=vD a9 F hw;exact (decide_eq_true ((a8 _).2 (.inr rfl))).symm
  ·rw[if_neg hw,y ks a9];refine decide_eq_decide.2 ?_;rw[a8];exact ⟨.inl,fun h=>h.elim id fun e=>absurd (by rw[yU e]) hw⟩
 refine ak (γ:=Nat) (fun i=>[(12,.int .i64 (i:Int))]) (fun i w'=>i≤hs.length∧Hp w0 ab w' (own 3 1 (.slice C K.length e) K.length (ints K)::sD n R A c q t g2 g3 g4 g5 r (dZ l (cz K) true) cols B d hs X) [dk a hs Q]) ?_ ?_
 ·refine aa (cB _) ?_;refine H.load 3 rfl eA rfl ?_;refine ay underlying135 ?_;exact ⟨hs.length,⟨rfl,trivial⟩,Nat.le_refl _,H⟩
 clear H;rintro i0 u w6 ⟨hi0,H⟩;refine ak (γ:=Nat) (fun i=>[(12,.int .i64 (i:Int))]) (fun i w'=>i≤hs.length∧Hp w0 ab w' (own 3 1 (.slice C K.length e) K.length (ints K)::sD n R A c q t g2 g3 g4 g5 r (dZ l (cz K) true) cols B d hs X) [dk a hs Q]) ?_ ?_
 ·refine ax (γ:=Nat) (fun i=>[(12,.int .i64 (i:Int))]) (fun i w'=>i≤hs.length∧Hp w0 ab w' (own 3 1 (.slice C K.length e) K.length (ints K)::sD n R A c q t g2 g3 g4 g5 r (dZ l (cz K) true) cols B d hs X) [dk a hs Q]) (fun i=>i) i0 ⟨rfl,trivial⟩ ⟨hi0,H⟩ ?_;clear H;rintro i u w7 ⟨hi,H⟩;by_cases h0:(0:Int)<(i:Int)
  ·obtain ⟨gB,rfl⟩:=H.lY 4 rfl (by omega);obtain ⟨hv,hh⟩:∃ hv,hs[i - 1]?=some hv:=⟨_,List.getElem?_eq_getElem (by omega)⟩;obtain ⟨row,z⟩:∃ row,Q[i - 1]?=some row:=⟨_,List.getElem?_eq_getElem (by omega)⟩;obtain ⟨D,f,rfl,hsl⟩:=(show je a w7 hs Q from H.ro 0 rfl).2 (i - 1) hv row hh z;have hw:IntKind.i64.wrap ((i:Int) - 1)=((i - 1:Nat):Int):=by rw[aH (by omega) (by omega)];omega
   have hrl:=hQr row (List.mem_of_getElem? z);have V:∀ w,Sl w (.slice C K.length e) 1 K.length (ints K)→Sl w (.slice D row.length f) 1 row.length (aA row)→bw prog 112 [.slice C K.length e,.slice D row.length f] w fun r w'=>(∃ bb,r=.bool bb)∧aT w w':=fun w h1 h2=>by
    have:=Oe (kT K) row C D e f w (by rw[G];omega) (by omega) (by rw[G,a5];exact h1) h2;rw[G] at this;exact this
   iterate 2 refine ag (decide_eq_true (by assumption)) ?_
   refine aa (cB _) ?_;refine ag (decide_eq_true (by assumption)) ?_;refine H.load 3 (i:=1) rfl eA rfl ?_
   iterate 3 refine ag (decide_eq_true (by assumption)) ?_
   refine ao underlying135 (s:=1) fP (i - 1) hw (by omega) (o':=(i - 1)) (by omega) ?_;refine ag (decide_eq_true (by assumption)) ?_;refine H.ec 4 rfl e8 hh ?_
   iterate 1 refine ag (decide_eq_true (by assumption)) ?_
   refine aj (V w7 (bB (H.get 0 rfl)) (sl.mono hsl fun g hg=>H.rlt _ (.head _) g hg)) ?_;rintro _ w8 ⟨⟨bb,rfl⟩,E⟩;replace H:=H.same E;clear E
   cases bb with
   | true=>
    iterate 1 refine ag (decide_eq_true (by assumption)) ?_
    refine ag rfl ?_;exact ⟨i - 1,by show i - 1<i;omega,⟨by rw[← hw];rfl,trivial⟩,by show i - 1≤hs.length;omega,H⟩
   | false=>
    iterate 1 refine ag (decide_eq_true (by assumption)) ?_
    refine af rfl ?_;exact ⟨i,⟨rfl,trivial⟩,hi,H⟩
  ·iterate 9 refine af (decide_eq_false (by assumption)) ?_
   refine af rfl ?_;exact ⟨i,⟨rfl,trivial⟩,hi,H⟩
 clear H;rintro i u w7 ⟨hi,H⟩;have M:=bB (H.get 4 rfl);have hQl:hs.length≤100000:=by omega
 obtain ⟨A1,e1,hA1,hS1⟩:=l6 M (i:=i) hi;obtain ⟨A2,c2,e2,Y⟩:=l7 underlying135 fP M (i:=i) hi;have hid:i≤d:=Nat.le_trans hi (by obtain ⟨_,A',c',e,h,_⟩:=M;injection e with _ _ e;omega);have v1:∀ w',(own 75 1 (.slice B hs.length d) hs.length hs).ok w'→Sl w' (.slice A1 i i) 1 i (hs.take (i*1)):=fun w' h=>by
  obtain ⟨A',O,_,Z⟩:=l6 (bB h) (i:=i) hi;rw[e1] at O;injection O with O _ _;rw[O];exact Z
 have v2:∀ w',(own 75 1 (.slice B hs.length d) hs.length hs).ok w'→Sl w' (.slice A2 (hs.length - i) c2) 1 (hs.length - i) (hs.drop (i*1)):=fun w' h=>by
  obtain ⟨A',c',O,Z⟩:=l7 underlying135 fP (bB h) (i:=i) hi;rw[e2] at O;injection O with O _ e'';rw[O,e''];exact Z
 have h1:∀ u ∈ hs.drop (i*1),u.oneCell'=true:=fun u hu=>by
  obtain ⟨j,hj⟩:=List.getElem?_of_mem (List.mem_of_mem_drop hu);obtain ⟨row,z⟩:∃ row,Q[j]?=some row:=⟨_,List.getElem?_eq_getElem (by have:=(List.getElem?_eq_some_iff.1 hj).1;omega)⟩;obtain ⟨D,f,rfl,_⟩:=(show je a w7 hs Q from H.ro 0 rfl).2 j u row hj z;rfl
 have hl':(hs.take i++Value.slice C K.length e::hs.drop i).length=i+(1+(hs.length - i)):=by simp;omega
 clear hS1 Y M;refine H.fp (own 3 1 (.slice C K.length e) K.length (ints K)::sD n R A c q t g2 g3 g4 g5 r (dZ l (cz K) true) cols B d hs X) (fun u H=>H) eO (by kernel_rfl) ?_;clear H;intro w8 H;refine quiet _ (fun w H=>aa (cB _) ae) ?_;refine quiet _ (fun w H=>H.load 3 (i:=1) rfl eA rfl ae) ?_;refine quiet (.slice A1 i i) (fun w H=>by rw[← e1];exact s_ underlying135 fP rfl rfl hid ae) ?_;refine H.bf tC (cs:=#[.slice C K.length e]) (by decide) (by decide) (by kernel_rfl) ?_;clear H;intro g20 w9 H;refine ⟨.inl H.forget,?_⟩;refine quiet _ (fun w H=>aa (cB _) ae) ?_;refine quiet _ (fun w H=>H.load 3 (i:=1) rfl eA rfl ae) ?_;refine quiet (.slice A2 (hs.length - i) c2) (fun w H=>by rw[← e2];exact sk underlying135 fP rfl hi ae) ?_;replace H:=H.wU (l:=1) (sz:=1) rfl (by unfold maxLen;omega);refine H.kO 0 tC rfl (v2 _ (H.get 5 rfl)) h1 (by omega) (by omega) ?_;clear H;intro A3 d3 w10 H;refine ⟨.inl H.forget,?_⟩;refine H.qX tC (v1 _ (H.get 5 rfl)) (bB (H.get 0 rfl)) hA1 (by omega) (by omega) (by omega) ?_;clear H;intro A4 d4 w11 H;refine ⟨.inl H.forget.forget,?_⟩;refine quiet _ (fun w H=>aa (cB _) ae) ?_;refine H.store 5 rfl qf (Nat.le_of_ble_eq_true rfl) rfl ?_;clear H;intro w12 H;refine ⟨.inr rfl,?_⟩;have H2:=(H.front 1 rfl).forget;clear H;have H3:=(H2.front 5 rfl).forget;clear H2;have H4:=(((H3.front 4 rfl).front 4 rfl).front 4 rfl).front 4 rfl;clear H3;have H5:Hp w0 ab w12 (own 3 1 (.slice C K.length e) (kT K).length (aA (kT K))::an g4 170 #[.map (some r)]::aP aU Value.bool r (dZ l (cz K) true)::an g5 137 (mc cols (.slice (some ⟨A4,0,none⟩) (i+(1+(hs.length - i))) d4))::own 75 1 (.slice (some ⟨A4,0,none⟩) (i+(1+(hs.length - i))) d4) (i+(1+(hs.length - i))) (hs.take (i*1)++(#[Value.slice C K.length e].toList++hs.drop (i*1)))::an g2 44 #[.slice A R.length c]::an g3 39 #[.slice q R.length t]::own 86 4 (.slice q R.length t) R.length (flat bK (ng n R))::X) [dk a hs Q]:=by
  rw[G,a5];exact H4
 clear H4;obtain ⟨S2,H6,Y⟩:=H5.Kt Z hi;clear H5;have S:∀ row,row ∈ Q.take i++kT K::Q.drop i↔row ∈ Q∨row=kT K:=fun row=>by rw[Hq];exact or_comm
 refine ⟨rfl,dZ l (cz K) true,some ⟨A4,0,none⟩,d4,hs.take i++.slice C K.length e::hs.drop i,Q.take i++kT K::Q.drop i,S2,⟨J _ S,S,by simp;omega,Y⟩,?_⟩;rw[Nat.mul_one] at H6;unfold sD;rw[hl'];exact H6
theorem Hr:bE prog 170=some 1:=by kernel_rfl
theorem Ht:eL prog 39=some (.slice none 0 0):=by kernel_rfl
theorem Fi:eL prog 170=some (.map none):=by kernel_rfl
theorem Gv:qI prog 39 86 (sv 0) 4 32:=⟨underlying39,by kernel_rfl,rfl,by decide⟩
def oV (S:dX)(R:List Rw)(k i:Nat)(row:List Int):Prop:=
 (∃ o a p,o<k∧S.on[o]?=some a∧a.testBit p=true∧row=kT (cZ S.n R o p R.length))∨(∃ a p,S.on[k]?=some a∧p ∈ (cI a).take i∧row=kT (cZ S.n R k p R.length))
theorem Df {S:dX}{R:List Rw}{k i a p:Nat}{row:List Int}(e:S.on[k]?=some a)(d:(cI a).take (i+1)=(cI a).take i++[p]):oV S R k i row∨row=kT (cZ S.n R k p R.length)↔oV S R k (i+1) row:=by
 unfold oV;rw[or_assoc];refine or_congr_right ⟨fun h=>?_,fun h=>?_⟩
 ·rcases h with ⟨j,g,b,c,f⟩ | h
  ·rw[e] at b;injection b with b;subst b;exact ⟨a,g,e,by rw[d];exact List.mem_append_left _ c,f⟩
  ·exact ⟨a,p,e,by rw[d];exact List.mem_append_right _ (List.mem_singleton.2 rfl),h⟩
 ·obtain ⟨j,g,b,c,f⟩:=h;rw[e] at b;injection b with b;subst b;rw[d] at c;rcases List.mem_append.1 c with c | c
  ·exact .inl ⟨a,g,e,c,f⟩
  ·obtain rfl:=List.mem_singleton.1 c;exact .inr f
theorem Dg {S:dX}{R:List Rw}{k a:Nat}{row:List Int}(e:S.on[k]?=some a)(halt:a<2^256):oV S R k (cI a).length row↔oV S R (k+1) 0 row:=by
 unfold oV;constructor
 ·rintro (⟨o,b,p,d,c⟩ | ⟨b,p,d,c,f⟩)
  ·exact .inl ⟨o,b,p,by omega,c⟩
  ·rw[e] at d;injection d with d;subst d;rw[List.take_length] at c;exact .inl ⟨k,a,p,by omega,e,(wX halt).1 c,f⟩
 ·rintro (⟨o,b,p,d,c,f,g⟩ | ⟨b,p,_,c,_⟩)
  ·rcases Nat.lt_succ_iff_lt_or_eq.1 d with h | h
   ·exact .inl ⟨o,b,p,h,c,f,g⟩
   ·subst h;rw[e] at c;injection c with c;subst c;exact .inr ⟨a,p,e,by rw[List.take_length];exact (wX halt).2 f,g⟩
  ·simp at c
theorem Mu:enters prog 87=true:=by kernel_rfl
set_option maxHeartbeats 4000000 in
theorem c87 {S:dX}(hS:cL S)(R:List Rw)(hR:∀ x ∈ R,gE S.n S.on.length x)(F:R.length≤4000)(Bo:Option Addr)(co:Nat)(Bm:Option Addr)(cm:Nat)(A:Option Addr)(c:Nat)(w:World)(G:fY w S Bo co Bm cm)(hA:Sl w (.slice A R.length c) 3 R.length (flat a6 R)) :
  bw prog 87 [r4 S.n (.slice Bo S.on.length co) (.slice Bm S.may.length cm),.slice A R.length c] w fun r w'=>∃ B d Q,r=.tuple #[mv (R.length:Int) (.slice B Q.length d),.int .i64 0]∧((∀ row,row ∈ Q↔oV S R S.on.length 0 row)∧Q.length≤100000)∧tD (fun _=>False) w w' (.slice B Q.length d) Q:=by
 refine ar (N:=76) func87 Mu rfl rfl rfl (by simp) ?_;have H:=Hp.aC w;have hn8:=hS.n8;have h4:=hS.few;refine ak (γ:=Nat × Nat × Nat) (fun (g2,g3,g4)=>[(2,(ah g2)),(3,(ah g3)),(4,(ah g4)),(5,.int .i64 0)]) (fun (g2,g3,g4) w'=>Hp w ab w' [an g4 137 (mv 0 (.slice none 0 0)).cells,an g3 44 #[.slice A R.length c],an g2 41 (bo S.n (.slice Bo S.on.length co) (.slice Bm S.may.length cm))] []) ?_ ?_
 ·refine H.box 41 _ (cs:=(bo S.n (.slice Bo S.on.length co) (.slice Bm S.may.length cm))) rfl ?_;clear H;intro g2 w1 H;refine H.box 44 _ (cs:=#[.slice A R.length c]) rfl ?_;clear H;intro g3 w2 H;refine H.alloc 137 dP rfl ?_;clear H;intro g4 w3 H;exact ⟨(g2,g3,g4),⟨rfl,rfl,rfl,rfl,trivial⟩,H⟩
 clear H;rintro ⟨g2,g3,g4⟩ u w1 H;refine aw (fun w'=>Hp w ab w' [an g4 137 (mv 0 (.slice none 0 0)).cells,an g3 44 #[.slice A R.length c],an g2 41 (bo S.n (.slice Bo S.on.length co) (.slice Bm S.may.length cm))] []) ?_ ?_
 ·refine H.ai 2 rfl dw bL ?_;refine aj (He hS Bo co Bm cm _ (G.same H.keeps)) ?_;rintro _ w2 ⟨rfl,hk⟩;replace H:=H.same hk;refine af rfl ?_;exact ⟨(),trivial,H⟩
 clear H;rintro ⟨⟩ u w2 H;refine ak (γ:=Nat) (fun g6=>[(6,(ah g6))]) (fun g6 w'=>Hp w ab w' [an g6 39 #[.slice none 0 0],own 86 4 (.slice none 0 0) 0 [],an g4 137 (mv 0 (.slice none 0 0)).cells,an g3 44 #[.slice A R.length c],an g2 41 (bo S.n (.slice Bo S.on.length co) (.slice Bm S.may.length cm))] []) ?_ ?_
 ·refine (H.bx 86 4).alloc 39 (cs:=#[.slice none 0 0]) Ht rfl ?_;clear H;intro g6 w3 H;exact ⟨g6,⟨rfl,trivial⟩,H⟩
 clear H;rintro g6 u w3 H;refine ak (γ:=Option Addr × Nat) (fun _=>[]) (fun (q,s) w'=>Hp w ab w' [an g6 39 #[.slice q R.length s],own 86 4 (.slice q R.length s) R.length (flat bK (ng S.n R)),an g4 137 (mv 0 (.slice none 0 0)).cells,an g3 44 #[.slice A R.length c],an g2 41 (bo S.n (.slice Bo S.on.length co) (.slice Bm S.may.length cm))] []) ?_ ?_
 ·refine H.load 3 rfl wZ rfl ?_;refine ay underlying44 ?_;refine ax (γ:=Nat × Option Addr × Nat) (fun (j,_)=>[(24,.int .i64 (j:Int))]) (fun (j,q,s) w'=>j≤R.length∧Hp w ab w' [an g6 39 #[.slice q j s],own 86 4 (.slice q j s) j (flat bK (ng S.n (R.take j))),an g4 137 (mv 0 (.slice none 0 0)).cells,an g3 44 #[.slice A R.length c],an g2 41 (bo S.n (.slice Bo S.on.length co) (.slice Bm S.may.length cm))] []) (fun (j,_)=>R.length - j) (0,none,0) ⟨rfl,trivial⟩ ⟨Nat.zero_le _,H⟩ ?_;clear H;rintro ⟨j,q,s⟩ u w4 ⟨M,H⟩;refine au (fun h7=>?_) (fun h7=>?_)
  ·obtain ⟨gA,T,rfl⟩:=hA.A (by omega);obtain ⟨x,hx,U⟩:=iT (l:=R) (j:=j) (by omega);have I:=hR x U;have hpt:ng S.n (R.take (j+1))=ng S.n (R.take j)++[bd x.1 x.2.1 S.n]:=by unfold ng;rw[iU hx,List.map_append];rfl
   refine ak (γ:=Option Addr × Nat) (fun _=>[]) (fun (q,s) w'=>Hp w ab w' [an g6 39 #[.slice q (j+1) s],own 86 4 (.slice q (j+1) s) (j+1) (flat bK (ng S.n (R.take (j+1)))),an g4 137 (mv 0 (.slice none 0 0)).cells,an g3 44 #[.slice (some ⟨gA,T,none⟩) R.length c],an g2 41 (bo S.n (.slice Bo S.on.length co) (.slice Bm S.may.length cm))] []) ?_ ?_
   ·rw[hpt];obtain ⟨m,v,o⟩:=x;have hm:=I.m;have hv:=I.v;have hr:=I.right;simp only at hm hv hr;refine ak (γ:=Nat) (fun g8=>[(8,(ah g8))]) (fun g8 w'=>Hp w ab w' [an g8 50 (eo m v o),an g6 39 #[.slice q j s],own 86 4 (.slice q j s) j (flat bK (ng S.n (R.take j))),an g4 137 (mv 0 (.slice none 0 0)).cells,an g3 44 #[.slice (some ⟨gA,T,none⟩) R.length c],an g2 41 (bo S.n (.slice Bo S.on.length co) (.slice Bm S.may.length cm))] []) ?_ ?_
    ·refine ao underlying44 aZ j rfl (by omega) (o':=T+j*3) (by omega) ?_;refine Sl.cA H hA bl gV aZ j rfl hx ?_;refine H.alloc 50 (cs:=eo 0 0 0) jz rfl ?_;clear H;intro g8 w5 H;refine H.storeAll (cs':=eo m v o) 0 rfl aZ rfl (dT _ _ _) ?_;clear H;intro w6 H;exact ⟨g8,⟨rfl,trivial⟩,H⟩
    clear H;rintro g8 u w5 H;refine ak (γ:=Nat) (fun g9=>[(9,(ah g9)),(10,.int .i64 0)]) (fun g9 w'=>Hp w ab w' [an g9 86 (sc (bd m v S.n)),an g6 39 #[.slice q j s],own 86 4 (.slice q j s) j (flat bK (ng S.n (R.take j))),an g4 137 (mv 0 (.slice none 0 0)).cells,an g3 44 #[.slice (some ⟨gA,T,none⟩) R.length c],an g2 41 (bo S.n (.slice Bo S.on.length co) (.slice Bm S.may.length cm))] []) ?_ ?_
    ·refine aa (fT _ _) ?_;refine H.cY 0 rfl [.int .u8 (m:Int),.int .u8 (v:Int)] bz aO (fun j u M=>by match j,M with | 0,M=>exact M | 1,M=>exact M) ?_;refine aa (iS _) ?_;refine H.load 5 rfl aF rfl ?_;refine aj (Em m v hm hv S.n hn8 hr _) ?_;rintro _ w6 ⟨rfl,hk⟩;replace H:=H.same hk;refine H.alloc 86 (cs:=sc 0) br aY ?_;clear H;intro g9 V H;refine H.aW (b:=bd m v S.n) 0 rfl ?_;clear H;intro w8 H;exact ⟨g9,⟨rfl,rfl,trivial⟩,H.b7 [0,2,3,4,5,6] (by decide) rfl⟩
    clear H;rintro g9 u w6 H;refine aw (fun w'=>Hp w ab w' [an g9 86 (sc (bd m v S.n)),an g6 39 #[.slice q j s],own 86 4 (.slice q j s) j (flat bK (ng S.n (R.take j))),an g4 137 (mv 0 (.slice none 0 0)).cells,an g3 44 #[.slice (some ⟨gA,T,none⟩) R.length c],an g2 41 (bo S.n (.slice Bo S.on.length co) (.slice Bm S.may.length cm))] []) ?_ ?_
    ·refine af rfl ?_;exact ⟨(),trivial,H⟩
    clear H;rintro ⟨⟩ u V H;refine H.load 1 rfl dS rfl ?_;refine H.ai 0 rfl aD av ?_;refine H.bf Gv (cs:=sc (bd m v S.n)) (by decide) (by decide) (by kernel_rfl) ?_;clear H;intro g20 w8 H;refine H.aG (c:=1) 3 0 Gv rfl rfl rfl (fx _) (by omega) (by omega) ?_;clear H;intro PA2 pd2 w9 H;refine H.store 2 rfl tH (Nat.le_of_ble_eq_true rfl) rfl ?_;clear H;intro C H;have e2:flat bK (ng S.n (R.take j)++[bd m v S.n])=flat bK (ng S.n (R.take j))++(sc (bd m v S.n)).toList:=de ..;refine ⟨(PA2,pd2),trivial,?_⟩;rw[e2];exact H.b7 [2,3,4,5,6] (by decide) rfl
   ·clear H;rintro ⟨q,s⟩ u w5 H;exact ⟨(j+1,q,s),by show R.length - (j+1)<R.length - j;omega,⟨up (by omega),trivial⟩,by show j+1≤R.length;omega,H⟩
  ·have:j=R.length:=by omega
   subst this;rw[List.take_length] at H;exact ⟨(q,s),trivial,H⟩
 clear H;rintro ⟨q,s⟩ u w4 H;refine aw (fun w'=>Hp w ab w' [an g6 39 #[.slice q R.length s],own 86 4 (.slice q R.length s) R.length (flat bK (ng S.n R)),an g4 137 (mv 0 (.slice none 0 0)).cells,an g3 44 #[.slice A R.length c],an g2 41 (bo S.n (.slice Bo S.on.length co) (.slice Bm S.may.length cm))] []) ?_ ?_
 ·refine H.load 3 rfl wZ rfl ?_;refine ay underlying44 ?_;refine af (decide_eq_false (by omega)) ?_;exact ⟨(),trivial,H⟩
 clear H;rintro ⟨⟩ u w5 H;have H:=H.bx 75 1;refine ak (γ:=Nat) (fun g11=>[(11,(ah g11))]) (fun g11 w'=>Hp w ab w' [an g11 137 (mc (R.length:Int) (.slice none 0 0)),own 75 1 (.slice none 0 0) 0 [],an g6 39 #[.slice q R.length s],own 86 4 (.slice q R.length s) R.length (flat bK (ng S.n R)),an g4 137 (mv 0 (.slice none 0 0)).cells,an g3 44 #[.slice A R.length c],an g2 41 (bo S.n (.slice Bo S.on.length co) (.slice Bm S.may.length cm))] []) ?_ ?_
 ·refine H.load 4 rfl wZ rfl ?_;refine ay underlying44 ?_;refine mg ?_;refine H.alloc 137 dP rfl ?_;clear H;intro g11 w6 H;refine H.storeAll (cs':=mc (R.length:Int) (.slice none 0 0)) 0 rfl az rfl da ?_;clear H;intro V H;exact ⟨g11,⟨rfl,trivial⟩,H⟩
 clear H;rintro g11 u w6 H;refine ak (γ:=Nat × Nat) (fun (g12,_)=>[(12,(ah g12))]) (fun (g12,r) w'=>Hp w ab w' (sD S.n R A c q s g3 g6 g12 g11 r [] (R.length:Int) none 0 [] [an g4 137 (mv 0 (.slice none 0 0)).cells,an g2 41 (bo S.n (.slice Bo S.on.length co) (.slice Bm S.may.length cm))]) []) ?_ ?_
 ·refine H.makeMap aU Value.bool ?_;clear H;intro r V H;refine H.alloc 170 (cs:=#[.map none]) Fi rfl ?_;clear H;intro g12 w8 H;refine H.store 0 rfl Hr (Nat.le_of_ble_eq_true rfl) rfl ?_;clear H;intro w9 H;exact ⟨(g12,r),⟨rfl,trivial⟩,H.b7 [0,1,2,3,7,4,5,6,8] (by decide) rfl⟩
 clear H;rintro ⟨g12,r⟩ u V H;replace H:=Hp.z_ (show Hp w ab V _ [] from H);refine ak (γ:=Unit) (fun _=>[(13,.func (.func 109) #[] #[(ah g3),(ah g6),(ah g12),(ah g11)])]) (fun _ w'=>Hp w ab w' (sD S.n R A c q s g3 g6 g12 g11 r [] (R.length:Int) none 0 [] [an g4 137 (mv 0 (.slice none 0 0)).cells,an g2 41 (bo S.n (.slice Bo S.on.length co) (.slice Bm S.may.length cm))]) [dk (fun _=>False) [] []]) ?_ ?_
 ·refine nN ?_;exact ⟨(),⟨rfl,trivial⟩,H⟩
 clear H;rintro ⟨⟩ u w8 H;have J:∀ (Q:a7) (k i:Nat),(∀ row,row ∈ Q↔oV S R k i row)→∀ row ∈ Q,row.length≤4000:=fun Q k i h row X=>by
  rcases (h row).1 X with ⟨o,a,p,_,_,_,rfl⟩ | ⟨a,p,_,_,rfl⟩
  ·rw[lE];exact Nat.le_trans (mn _ _ _ _ _) F
  ·rw[lE];exact Nat.le_trans (mn _ _ _ _ _) F
 refine ak (γ:=List (List UInt8 × Bool) × Option Addr × Nat × List Value × a7 × (Nat→Prop)) (fun _=>[]) (fun (l,B,d,hs,Q,y) w'=>(r6 l Q∧(∀ row,row ∈ Q↔oV S R S.on.length 0 row)∧Q.length≤100000∧∀ g,y g→w.heap.size≤g)∧Hp w ab w' (sD S.n R A c q s g3 g6 g12 g11 r l (R.length:Int) B d hs [an g4 137 (mv 0 (.slice none 0 0)).cells,an g2 41 (bo S.n (.slice Bo S.on.length co) (.slice Bm S.may.length cm))]) [dk y hs Q]) ?_ ?_
 ·refine aa (fR _) ?_;refine H.load 8 rfl dS rfl ?_;refine ay underlying39 ?_;refine ax (γ:=Nat × List (List UInt8 × Bool) × Option Addr × Nat × List Value × a7 × (Nat→Prop)) (fun (k,_)=>[(57,.int .i64 (k:Int))]) (fun (k,l,B,d,hs,Q,y) w'=>(k≤S.on.length∧r6 l Q∧(∀ row,row ∈ Q↔oV S R k 0 row)∧Q.length≤k*256∧∀ g,y g→w.heap.size≤g)∧Hp w ab w' (sD S.n R A c q s g3 g6 g12 g11 r l (R.length:Int) B d hs [an g4 137 (mv 0 (.slice none 0 0)).cells,an g2 41 (bo S.n (.slice Bo S.on.length co) (.slice Bm S.may.length cm))]) [dk y hs Q]) (fun (k,_)=>S.on.length - k) (0,[],none,0,[],[],fun _=>False) ⟨rfl,trivial⟩ ⟨⟨Nat.zero_le _,fun ks _=>by rw[sW];simp,fun row=>⟨fun h=>by simp at h,fun h=>by
   rcases h with ⟨o,a,p,h,_⟩ | ⟨a,p,_,h,_⟩
   ·omega
   ·simp at h⟩,Nat.zero_le _,fun g h=>h.elim⟩,H⟩ ?_
  clear H;rintro ⟨k,l,B,d,hs,Q,y⟩ u w9 ⟨⟨hk,e,f,z,t⟩,H⟩;refine au (fun h7=>?_) (fun h7=>?_)
  ·obtain ⟨a,ha,Y⟩:=lC (l:=S.on) (j:=k) (by omega);have halt:=hS.onlt a Y;obtain ⟨Z,O,rfl⟩:=G.on.A (by omega);refine ak (γ:=List (List UInt8 × Bool) × Option Addr × Nat × List Value × a7 × (Nat→Prop)) (fun _=>[]) (fun (l,B,d,hs,Q,y) w'=>(r6 l Q∧(∀ row,row ∈ Q↔oV S R (k+1) 0 row)∧Q.length≤(k+1)*256∧∀ g,y g→w.heap.size≤g)∧Hp w ab w' (sD S.n R A c q s g3 g6 g12 g11 r l (R.length:Int) B d hs [an g4 137 (mv 0 (.slice none 0 0)).cells,an g2 41 (bo S.n (.slice (some ⟨Z,O,none⟩) S.on.length co) (.slice Bm S.may.length cm))]) [dk y hs Q]) ?_ ?_
   ·refine ak (γ:=Nat) (fun g15=>[(15,(ah g15)),(14,.int .i64 (k:Int))]) (fun g15 w'=>Hp w ab w' (an g15 86 (sc a)::sD S.n R A c q s g3 g6 g12 g11 r l (R.length:Int) B d hs [an g4 137 (mv 0 (.slice none 0 0)).cells,an g2 41 (bo S.n (.slice (some ⟨Z,O,none⟩) S.on.length co) (.slice Bm S.may.length cm))]) [dk y hs Q]) ?_ ?_
    ·refine ao underlying39 av k rfl (by omega) (o':=O+k*4) (by omega) ?_;refine Sl.cA H G.on bP aD av k rfl ha ?_;refine H.alloc 86 (cs:=sc 0) br aY ?_;clear H;intro g15 C H;refine H.aW (b:=a) 0 rfl ?_;clear H;intro w11 H;exact ⟨g15,⟨rfl,rfl,trivial⟩,H⟩
    clear H;rintro g15 u C H;have hpl:(cI a).length≤256:=eK a 256;refine H.ai 0 rfl aD av ?_;refine aj (Ej a _) ?_;rintro _ w11 ⟨PT,pc,rfl,hn'⟩;replace H:=H.bq hn';refine ay underlying75 ?_;refine ax (γ:=Nat × List (List UInt8 × Bool) × Option Addr × Nat × List Value × a7 × (Nat→Prop)) (fun (i,_)=>[(65,.int .i64 (i:Int))]) (fun (i,l,B,d,hs,Q,y) w'=>(i≤(cI a).length∧r6 l Q∧(∀ row,row ∈ Q↔oV S R k i row)∧Q.length≤k*256+i∧∀ g,y g→w.heap.size≤g)∧Hp w ab w' (sD S.n R A c q s g3 g6 g12 g11 r l (R.length:Int) B d hs [an g4 137 (mv 0 (.slice none 0 0)).cells,an g2 41 (bo S.n (.slice (some ⟨Z,O,none⟩) S.on.length co) (.slice Bm S.may.length cm)),own 3 1 (.slice PT (cI a).length pc) (cI a).length (ints (cI a))]) [dk y hs Q]) (fun (i,_)=>(cI a).length - i) (0,l,B,d,hs,Q,y) ⟨rfl,trivial⟩ ⟨⟨Nat.zero_le _,e,f,by omega,t⟩,H.b7 [2,3,4,5,6,7,8,9,10,0] (by decide) rfl⟩ ?_;clear H e f z t;rintro ⟨i,l,B,d,hs,Q,y⟩ u w12 ⟨⟨hi,e,f,z,t⟩,H⟩;refine au (fun h8=>?_) (fun h8=>?_)
    ·have D:i<(cI a).length:=by omega
     obtain ⟨p,hp⟩:∃ p,(cI a)[i]=p:=⟨_,rfl⟩;have K:p<256:=El (hp ▸ List.getElem_mem D);have htk:(cI a).take (i+1)=(cI a).take i++[p]:=iU (by rw[List.getElem?_eq_getElem D,hp]);obtain ⟨gP,rfl⟩:=H.lY 9 rfl (by omega);refine ak (γ:=List (List UInt8 × Bool) × Option Addr × Nat × List Value × a7 × (Nat→Prop)) (fun _=>[]) (fun (l,B,d,hs,Q,y) w'=>(r6 l Q∧(∀ row,row ∈ Q↔oV S R k (i+1) row)∧Q.length≤k*256+(i+1)∧∀ g,y g→w.heap.size≤g)∧Hp w ab w' (sD S.n R A c q s g3 g6 g12 g11 r l (R.length:Int) B d hs [an g4 137 (mv 0 (.slice none 0 0)).cells,an g2 41 (bo S.n (.slice (some ⟨Z,O,none⟩) S.on.length co) (.slice Bm S.may.length cm)),own 3 1 (.slice (some ⟨gP,0,none⟩) (cI a).length pc) (cI a).length (ints (cI a))]) [dk y hs Q]) ?_ ?_
     ·refine ak (γ:=Unit) (fun _=>[(17,.int .i64 (p:Int))]) (fun _ w'=>Hp w ab w' (sD S.n R A c q s g3 g6 g12 g11 r l (R.length:Int) B d hs [an g4 137 (mv 0 (.slice none 0 0)).cells,an g2 41 (bo S.n (.slice (some ⟨Z,O,none⟩) S.on.length co) (.slice Bm S.may.length cm)),own 3 1 (.slice (some ⟨gP,0,none⟩) (cI a).length pc) (cI a).length (ints (cI a))]) [dk y hs Q]) ?_ ?_
      ·refine ao underlying75 bc i rfl D (o':=i) (by omega) ?_;refine H.ec 9 rfl aF (eP D) ?_;rw[hp];exact ⟨(),⟨rfl,trivial⟩,H⟩
      clear H;rintro ⟨⟩ u a0 H;refine ff (c109 R (fun x hx=>(hR x hx).o) F k p (by omega) K A c q s g3 g6 g12 g11 r l (R.length:Int) B d hs Q y _ w a0 hA t (by omega) (J Q k i f) e H) ?_;rintro _ w14 ⟨rfl,l',B',d',hs',Q',S2,⟨E,hQ',hQl',a1⟩,H2⟩;clear H;refine ⟨(l',B',d',hs',Q',S2),trivial,⟨E,fun row=>(hQ' row).trans ?_,by show Q'.length≤k*256+(i+1);omega,a1⟩,H2⟩;rw[f row];exact Df ha htk
     ·clear H e f z t;rintro ⟨l,B,d,hs,Q,y⟩ u a0 ⟨⟨e,f,z,t⟩,H⟩;exact ⟨(i+1,l,B,d,hs,Q,y),by show (cI a).length - (i+1)<(cI a).length - i;omega,⟨up (by omega),trivial⟩,⟨by show i+1≤(cI a).length;omega,e,f,z,t⟩,H⟩
    ·have:i=(cI a).length:=by omega
     refine ⟨(l,B,d,hs,Q,y),trivial,⟨e,fun row=>(f row).trans ?_,by show Q.length≤(k+1)*256;omega,t⟩,H.b7 [0,1,2,3,4,5,6,7,8] (by decide) rfl⟩;rw[this];exact Dg ha halt
   ·clear H e f z t;rintro ⟨l,B,d,hs,Q,y⟩ u C ⟨⟨e,f,z,t⟩,H⟩;exact ⟨(k+1,l,B,d,hs,Q,y),by show S.on.length - (k+1)<S.on.length - k;omega,⟨up (by omega),trivial⟩,⟨by show k+1≤S.on.length;omega,e,f,z,t⟩,H⟩
  ·have:k=S.on.length:=by omega
   subst this;exact ⟨(l,B,d,hs,Q,y),trivial,⟨e,f,by omega,t⟩,H⟩
 clear H;rintro ⟨l,B,d,hs,Q,y⟩ u w9 ⟨⟨e,f,z,t⟩,H⟩;have a2:hs.length=Q.length:=(show je y w9 hs Q from H.ro 0 rfl).1;refine H.ai 2 rfl aL az ?_;refine H.storeAll (cs':=mc (R.length:Int) (.slice B hs.length d)) 7 rfl az rfl da ?_;clear H;intro C H;refine H.ai 7 rfl aL az ?_;refine ⟨rfl,?_⟩;have hn:=sx (S:=fun _=>False) H 3 rfl (H.ro 0 rfl) (fun g hg=>⟨H.rlt _ (.head _) g hg,.inl (t g hg)⟩);rw[a2] at hn;exact ⟨B,d,Q,by rw[← a2];rfl,⟨f,z⟩,hn⟩
end Go.Proofs.YtpjihhgjbbihkaaGreatDoor
namespace Go.Dk
theorem Dh {m v n:Nat}(a:n≤8):cq (bd m v n) (bp n):=fun p b=>by
 rw[bD a] at b;rw[gG a,decide_eq_true b.1]
theorem tQ (S:dX)(o:Nat)(p:Nat):∀ j,(hZ S o j).testBit p=true↔(bp S.n).testBit p=true∧∀ i,i<j→o.testBit i=true→(S.may.getD i 0).testBit p=true
 | 0=>by simp[hZ]
 | j+1=>by
  have f:=tQ S o p j;unfold hZ;by_cases b:o.testBit j=true
  ·rw[if_pos b,Nat.testBit_and,Bool.and_eq_true,f];constructor
   ·rintro ⟨⟨d,c⟩,g⟩;refine ⟨d,fun i hi a=>?_⟩;rcases Nat.lt_succ_iff_lt_or_eq.1 hi with h | h
    ·exact c i h a
    ·subst h;exact g
   ·rintro ⟨d,c⟩;exact ⟨⟨d,fun i hi=>c i (by omega)⟩,c j (by omega) b⟩
  ·rw[if_neg b,f];refine and_congr_right fun _=>⟨fun h i hi a=>?_,fun h i hi=>h i (by omega)⟩;rcases Nat.lt_succ_iff_lt_or_eq.1 hi with e | e
   ·exact h i e a
   ·subst e;exact absurd a b
theorem tR {S:dX}(e:cL S){x:Rw}(f:0<x.2.2)(g:x.2.2<2^S.on.length):j2 S x↔Ay S.n (hZ S x.2.2 S.may.length) (x.1,x.2.1):=by
 constructor
 ·intro h;refine ⟨h.lt,h.sub,fun p a=>(tQ _ _ _ _).2 ⟨Dh e.n8 p a,fun i hi c=>?_⟩⟩;rw[List.getD_eq_getElem?_getD,List.getElem?_eq_getElem hi];exact h.uI i _ c (List.getElem?_eq_getElem hi) p a
 ·intro h;refine ⟨h.lt,h.sub,f,g,fun j b k d p a=>?_⟩;have:=((tQ _ _ _ _).1 (h.cI p a)).2 j (List.getElem?_eq_some_iff.1 d).1 k;rw[List.getD_eq_getElem?_getD,d] at this;exact this
theorem eH.uI {S:dX}(a:cL S){x:Rw}(h:eH S x):j2 S x:=(tR a h.some (by rw[← a.len];exact h.few)).2 h.cube.1
theorem j2.less {S:dX}{m v o o':Nat}(h:j2 S (m,v,o))(a:0<o')(c:o'<2^S.on.length)(hs:∀ j,o'.testBit j=true→o.testBit j=true):j2 S (m,v,o'):=
 ⟨h.lt,h.sub,a,c,fun j b d e=>h.uI j b (hs j d) e⟩
theorem Di {S:dX}{R:List Rw}(e:R.Nodup)(h:∀ x ∈ R,eH S x):R.length≤2^S.may.length*(2^S.n*2^S.n):=by
 have:=kQ (a:=R) (b:=(List.range (2^S.n)).flatMap fun a=>(List.range (2^S.n)).flatMap fun b=>(List.range (2^S.may.length)).map fun c=>(a,b,c)) e (fun x d=>by
  have d:=h x d;exact List.mem_flatMap.2 ⟨x.1,List.mem_range.2 d.cube.1.lt,List.mem_flatMap.2 ⟨x.2.1,List.mem_range.2 (sub_lt d.cube.1.lt d.cube.1.sub),List.mem_map.2 ⟨x.2.2,List.mem_range.2 d.few,rfl⟩⟩⟩)
 refine Nat.le_trans this (Nat.le_of_eq ?_);simp[List.length_flatMap,List.map_const'];rw[← Nat.mul_assoc,Nat.mul_comm]
theorem pz (S:dX)(m v o:Nat)(k:Nat):(ba S m v o (k+1)=tO (ba S m v o k) k∧se S (gT (ba S m v o k).1 k) ((ba S m v o k).2 &&&gT (ba S m v o k).1 k) o=true)∨(ba S m v o (k+1)=ba S m v o k∧se S (gT (ba S m v o k).1 k) ((ba S m v o k).2 &&&gT (ba S m v o k).1 k) o=false):=by
 show ((if se S (gT (ba S m v o k).1 k) ((ba S m v o k).2 &&&gT (ba S m v o k).1 k) o then _ else _)=_∧_)∨_
 cases h:se S (gT (ba S m v o k).1 k) ((ba S m v o k).2 &&&gT (ba S m v o k).1 k) o with
 | true=>exact .inl ⟨by rw[if_pos rfl];rfl,rfl⟩
 | false=>exact .inr ⟨by rw[ba,h];rfl,rfl⟩
theorem Dj {m v m' b n:Nat}(c:n≤8)(hm:m' &&&m=m')(d:b=v &&&m'):cq (bd m v n) (bd m' b n):=fun p a=>by
 rw[bD c] at a ⊢;refine ⟨a.1,?_⟩;rw[d,← a.2,Nat.and_assoc,Nat.and_comm m m',hm]
theorem vE {S:dX}{m v o:Nat}(hs:v &&&m=v):∀ k,(ba S m v o k).2 &&&(ba S m v o k).1=(ba S m v o k).2
 | 0=>hs
 | k+1=>by
  rcases pz S m v o k with ⟨h,_⟩ | ⟨h,_⟩
  ·rw[h];exact kg
  ·rw[h];exact vE hs k
theorem pA {S:dX}{m v o:Nat}(hs:v &&&m=v)(k:Nat):∀ d,(ba S m v o (k+d)).1 &&&(ba S m v o k).1=(ba S m v o (k+d)).1∧(ba S m v o (k+d)).2=(ba S m v o k).2 &&&(ba S m v o (k+d)).1
 | 0=>⟨Nat.and_self _,(vE hs k).symm⟩
 | d+1=>by
  obtain ⟨a,b⟩:=pA hs k d;rcases pz S m v o (k+d) with ⟨h,_⟩ | ⟨h,_⟩
  ·rw[← Nat.add_assoc,h];unfold tO gT;simp only;generalize ba S m v o (k+d)=g at a b;generalize ba S m v o k=q at a b;refine ⟨?_,?_⟩
   ·rw[Nat.and_assoc,Nat.and_comm _ q.1,← Nat.and_assoc,a]
   ·rw[b,Nat.and_assoc,← Nat.and_assoc g.1,Nat.and_self]
  ·rw[← Nat.add_assoc,h];exact ⟨a,b⟩
theorem Dl {S:dX}(c:cL S){m v o:Nat}(h:j2 S (m,v,o)){i:Nat}(hi:i<S.n)(s:(ba S m v o S.n).1.testBit i=true):¬ j2 S ((tO (ba S m v o S.n) i).1,(tO (ba S m v o S.n) i).2,o):=fun k=>by
 have e:=c.n8;have x:2^S.n≤2^8:=Nat.pow_le_pow_right (by decide) e;have hm:=(h.ok c).m;have t:=(h.ok c).v;have u:=(h.ok c).o;rcases pz S m v o i with ⟨f,_⟩ | ⟨f,hw⟩
 ·have p:=(pA (S:=S) (o:=o) h.sub (i+1) (S.n - (i+1))).1;rw[show i+1+(S.n - (i+1))=S.n by omega] at p;have:=congrArg (fun z=>z.testBit i) p;simp only[Nat.testBit_and,s,f,Bool.true_and] at this;unfold tO at this;rw[qs (ql hm t i).1 (by omega)] at this;simp at this
 ·obtain ⟨a,d⟩:=pA (S:=S) (o:=o) h.sub i (S.n - i);rw[show i+(S.n - i)=S.n by omega] at a d;have r:=(qp c h i).1;rw[Bool.eq_false_iff] at hw;refine hw ((tN c (mS r.lt i) kg u).2 ⟨mS r.lt i,kg,h.some,h.few,fun j b w l=>?_⟩);refine cq.trans (Dj e ?_ ?_) (k.uI j b w l)
  ·unfold tO gT;simp only;generalize ba S m v o S.n=y at a d;generalize ba S m v o i=g at a d;apply Nat.eq_of_testBit_eq;intro q;have:=congrArg (fun z=>z.testBit q) a;simp only[Nat.testBit_and] at this ⊢;revert this
   cases y.1.testBit q <;> cases g.1.testBit q <;> simp
  ·unfold tO gT;simp only;generalize ba S m v o S.n=y at a d;generalize ba S m v o i=g at a d;rw[d];apply Nat.eq_of_testBit_eq;intro q;have:=congrArg (fun z=>z.testBit q) a;simp only[Nat.testBit_and] at this ⊢;revert this
   cases y.1.testBit q <;> cases g.1.testBit q <;> simp
theorem tS {S:dX}(b:cL S){m v o:Nat}(h:j2 S (m,v,o)):eH S (nQ S m v o):=by
 have a:=(qq b h).1;obtain ⟨_,c⟩:=BY b (qp b h S.n).1;refine ⟨⟨(tR b a.some a.few).1 a,fun i hi d e=>?_⟩,rfl,a.some,by rw[b.len];exact a.few⟩;have f:j2 S ((tO (ba S m v o S.n) i).1,(tO (ba S m v o S.n) i).2,(nQ S m v o).2.2):=(tR (x:=((tO (ba S m v o S.n) i).1,(tO (ba S m v o S.n) i).2,(nQ S m v o).2.2)) b a.some a.few).2 e;exact Dl b h hi d (f.less h.some h.few c)
end Go.Dk
namespace Go.Proofs.YtpjihhgjbbihkaaGreatDoor
open Go.Dk
theorem Dm {S:dX}(c:cL S){L:List Rw}(h:∀ x ∈ L,gE S.n S.on.length x)(i:bA S L=true):∀ x ∈ L,j2 S x:=fun x e=>by
 have a:=h x e;have q:2^S.n≤2^8:=Nat.pow_le_pow_right (by decide) c.n8;obtain ⟨r,_,f,k⟩:=(ep (by have:=a.m;omega) (by have:=a.v;omega)).1 a.right;refine ⟨by rw[Int.toNat_natCast] at f;exact f,k,a.some,a.few,fun j b l g p o=>?_⟩;have d:j<S.on.length:=by rw[← c.len];exact (List.getElem?_eq_some_iff.1 g).1
 exact ((gH c).1 i j _ b (List.getElem?_eq_getElem d) g).2 p (fG.2 ⟨x,e,l,o⟩)
theorem AG {S:dX}(e:cL S){L R:List Rw}(q:∀ x,x ∈ R↔eH S x)(r:∀ x ∈ L,gE S.n S.on.length x)(m:bA S L=true) :
  ∃ cs:List Nat,cs.length=L.length∧(∀ c ∈ cs,c<R.length)∧∀ row,oV S R S.on.length 0 row→∃ c ∈ cs,(c:Int) ∈ row:=by
 have f:=Dm e r m;have b:∀ x ∈ L,nQ S x.1 x.2.1 x.2.2 ∈ R:=fun x d=>(q _).2 (tS e (f x d));refine ⟨L.map fun x=>R.idxOf (nQ S x.1 x.2.1 x.2.2),List.length_map _,fun c i=>?_,fun row g=>?_⟩
 ·obtain ⟨x,d,rfl⟩:=List.mem_map.1 i;exact List.idxOf_lt_length_iff.2 (b x d)
 ·rcases g with ⟨o,a,p,s,j,k,rfl⟩ | ⟨a,p,j,_⟩
  ·have l:o<S.may.length:=by rw[e.len];exact s
   obtain ⟨x,d,t,u⟩:=fG.1 (((gH e).1 m o a _ j (List.getElem?_eq_getElem l)).1 p k);have h:=List.idxOf_lt_length_iff.2 (b x d);obtain ⟨y,v,w⟩:=qq e (f x d);refine ⟨_,List.mem_map.2 ⟨x,d,rfl⟩,List.mem_map.2 ⟨_,kC.2 ⟨h,nQ S x.1 x.2.1 x.2.2,?_,w o t,v p u⟩,rfl⟩⟩;rw[List.getElem?_eq_getElem h,List.getElem_idxOf]
  ·have:=(List.getElem?_eq_some_iff.1 j).1;omega
def bC (R:List Rw)(t:Nat→Bool):Nat→List Rw
 | 0=>[]
 | j+1=>match R[j]? with
  | some x=>if t j then bC R t j++[x] else bC R t j
  | none=>bC R t j
theorem mT {R:List Rw}{t:Nat→Bool}{x:Rw}:∀ {j},x ∈ bC R t j↔∃ c,c<j∧R[c]?=some x∧t c=true
 | 0=>by simp[bC]
 | j+1=>by
  have g:=mT (R:=R) (t:=t) (x:=x) (j:=j);unfold bC
  cases h:R[j]? with
  | none=>
   simp only;rw[g];constructor
   ·rintro ⟨c,d,a⟩;exact ⟨c,by omega,a⟩
   ·rintro ⟨c,d,a,e⟩;rcases Nat.lt_succ_iff_lt_or_eq.1 d with b | b
    ·exact ⟨c,b,a,e⟩
    ·subst b;rw[h] at a;cases a
  | some y=>
   simp only;by_cases f:t j=true
   ·rw[if_pos f,List.mem_append,g,List.mem_singleton];constructor
    ·rintro (⟨c,d,a⟩ | rfl)
     ·exact ⟨c,by omega,a⟩
     ·exact ⟨j,by omega,h,f⟩
    ·rintro ⟨c,d,a,e⟩;rcases Nat.lt_succ_iff_lt_or_eq.1 d with b | b
     ·exact .inl ⟨c,b,a,e⟩
     ·subst b;rw[h] at a;injection a with a;exact .inr a.symm
   ·rw[if_neg f,g];constructor
    ·rintro ⟨c,d,a⟩;exact ⟨c,by omega,a⟩
    ·rintro ⟨c,d,a,e⟩;rcases Nat.lt_succ_iff_lt_or_eq.1 d with b | b
     ·exact ⟨c,b,a,e⟩
     ·subst b;exact absurd e f
theorem AH {S:dX}(k:cL S){R:List Rw}(n:∀ x ∈ R,eH S x){t:Nat→Bool}(h:∀ row,oV S R S.on.length 0 row→∃ c:Nat,t c=true∧(c:Int) ∈ row):bA S (bC R t R.length)=true:=by
 rw[gH k];intro j a b l o;constructor
 ·intro p d;obtain ⟨c,q,hm⟩:=h _ (.inl ⟨j,a,p,(List.getElem?_eq_some_iff.1 l).1,l,d,rfl⟩);obtain ⟨m,e,he⟩:=List.mem_map.1 hm;obtain rfl:m=c:=by omega
  obtain ⟨f,x,g,i,r⟩:=kC.1 e;exact fG.2 ⟨x,mT.2 ⟨m,f,g,q⟩,i,r⟩
 ·intro p d;obtain ⟨x,s,f,g⟩:=fG.1 d;obtain ⟨c,_,i,_⟩:=mT.1 s;exact ((n x (List.mem_of_getElem? i)).uI k).uI j b f o p g
end Go.Proofs.YtpjihhgjbbihkaaGreatDoor
namespace Go.Proofs.YtpjihhgjbbihkaaGreatDoor
open Go.Proofs.Tryz
open Go.Dk
set_option maxRecDepth 100000
attribute [local irreducible] IntKind.wrap
theorem Fj {p:Value}{w:World}{kk:Value→World→Prop}(h:kk (.agg #[p]) w)(b:∃ a,p=.pointer a):b8 prog 205 [(0,p)] w kk:=by
 obtain ⟨a,rfl⟩:=b;exact bt (fun w=>by kernel_rfl) h
def O6 (gz g r:Nat)(sv:Value)(room:Int)(A:Ar):cH:=sa [an gz 205 #[(ah g)],bI g r sv room A]
theorem Kv:enters prog 106=true:=by kernel_rfl
theorem Og (n:Int)(b:0≤n)(c:n≤20000)(w:World) :
  bw prog 106 [.int .i64 n] w fun v w'=>∃ gz g r,v=.tuple #[(ah gz),.int .i64 0]∧eE w w' (O6 gz g r (.slice none 0 0) n []):=by
 refine ar (N:=17) func106 Kv rfl rfl rfl (by simp) ?_;have H:=Hp.aC w;refine aw (fun w'=>Hp w ab w' [] []) ⟨(),trivial,H⟩ ?_;clear H;rintro ⟨⟩ u e H;refine ak (γ:=Nat × Nat) (fun (g,_)=>[(4,(ah g)),(5,.int .i64 0)]) (fun (g,r) w'=>Hp w ab w' [bI g r (.slice none 0 0) n []] []) ?_ ?_
 ·refine aj (Js n b c _) ?_;rintro _ d ⟨g,r,rfl,a⟩;replace H:=H.bq a;exact ⟨(g,r),⟨rfl,rfl,trivial⟩,H⟩
 clear H;rintro ⟨g,r⟩ u d H;refine aw (fun w'=>Hp w ab w' [bI g r (.slice none 0 0) n []] []) ?_ ?_
 ·refine af rfl ?_;exact ⟨(),trivial,H⟩
 clear H;rintro ⟨⟩ u f H;refine Fj ?_ ⟨_,rfl⟩;refine H.box 205 _ (cs:=#[(ah g)]) rfl ?_;clear H;intro gz h H;exact ⟨gz,g,r,rfl,(Hp.join (Ls:=[an gz 205 #[(ah g)],bI g r (.slice none 0 0) n []]) (L:=[]) H).out⟩
theorem xa (g:Nat)(w:World):(Instr.fieldAt 205 (ah g) 0).run prog w=.ok (ah g) w:=by kernel_rfl
theorem xb:cP prog 201=some false:=by kernel_rfl
theorem Kw:enters prog 203=true:=by kernel_rfl
theorem c203 {gz g r:Nat}{sv:Value}{room:Int}{A:Ar}(id:Int)(hid:id<9223372036854775808)(w:World)(f:(an gz 205 #[(ah g)]).ok w)(h:(bI g r sv room A).ok w) :
  bw prog 203 [(ah gz),.int .i64 id] w fun v w'=>v=.int .i64 (aR A id)∧aT w w':=by
 refine ar (N:=28) func203 Kw rfl rfl rfl (by simp) ?_;have H:=Hp.aC w;by_cases c:id=0
 ·subst c
  iterate 4 refine ag rfl ?_
  exact ⟨rfl,H.keeps⟩
 ·by_cases d:id=1
  ·subst d
   iterate 3 refine af rfl ?_
   refine ag rfl ?_;exact ⟨rfl,H.keeps⟩
  ·iterate 3 refine af (beq_eq_false_iff_ne.2 c) ?_
   refine af (beq_eq_false_iff_ne.2 d) ?_;refine aa (xa _) ?_;refine aB (u:=(ah g)) xb ((aQ f 0).trans rfl) ?_
   cases ht:j1 A id with
   | false=>
    refine aj (Ey id hid ht _ h) ?_;rintro _ i ⟨rfl,a⟩;refine af rfl ?_;refine ⟨?_,H.keeps.trans a (fun _ _ h=>h)⟩;have b:aR A id= -1:=by
     unfold aR;rw[if_neg (by omega)];unfold j1 at ht;split
     ·rename_i j;rw[decide_eq_true j,Bool.true_and] at ht
      cases hs:slot A (id - 2).toNat with
      | none=>rfl
      | some n=>rw[hs] at ht;cases ht
     ·rfl
    rw[b];rfl
   | true=>
    unfold j1 at ht;rw[Bool.and_eq_true,decide_eq_true_eq] at ht;obtain ⟨n,hs⟩:=Option.isSome_iff_exists.1 ht.2;have b:aR A id=(n.l:Int):=by
     unfold aR;rw[if_neg (by omega),if_pos ht.1,hs]
    have e:=Ez (id - 2).toNat (by omega) n hs w h;rw[show (((id - 2).toNat:Nat):Int)+2=id by omega] at e;refine aj e ?_;rintro _ i ⟨rfl,a⟩;refine ag rfl ?_;refine ⟨?_,H.keeps.trans a (fun _ _ h=>h)⟩;rw[b];rfl
end Go.Proofs.YtpjihhgjbbihkaaGreatDoor
namespace Go.Dk
def bY (A:Ar)(id l:Int):Int × Int:=if 2≤id then (match slot A (id - 2).toNat with | some n=>if (n.l:Int)=l then ((n.lo:Int),(n.hi:Int)) else (id,0) | none=>(id,0)) else (id,0)
end Go.Dk
namespace Go.Proofs.YtpjihhgjbbihkaaGreatDoor
open Go.Proofs.Tryz
open Go.Dk
set_option maxRecDepth 100000
attribute [local irreducible] IntKind.wrap
theorem Kx:enters prog 204=true:=by kernel_rfl
theorem Mv {gz g r:Nat}{sv:Value}{room:Int}{A:Ar}(id l:Int)(hid:id<9223372036854775808)(w:World)(e:(an gz 205 #[(ah g)]).ok w)(h:(bI g r sv room A).ok w) :
  bw prog 204 [(ah gz),.int .i64 id,.int .i64 l] w fun v w'=>v=.tuple #[.int .i64 (bY A id l).1,.int .i64 (bY A id l).2]∧aT w w':=by
 refine ar (N:=32) func204 Kx rfl rfl rfl (by simp) ?_;have H:=Hp.aC w;refine aa (xa _) ?_;refine aB (u:=(ah g)) xb ((aQ e 0).trans rfl) ?_
 cases ht:j1 A id with
 | false=>
  refine aj (Ey id hid ht _ h) ?_;rintro _ f ⟨rfl,b⟩;have a:bY A id l=(id,0):=by
   unfold bY;unfold j1 at ht;split
   ·rename_i i;rw[decide_eq_true i,Bool.true_and] at ht
    cases hs:slot A (id - 2).toNat with
    | none=>rfl
    | some n=>rw[hs] at ht;cases ht
   ·rfl
  iterate 5 refine af rfl ?_
  refine ⟨?_,H.keeps.trans b (fun _ _ h=>h)⟩;rw[a];rfl
 | true=>
  unfold j1 at ht;rw[Bool.and_eq_true,decide_eq_true_eq] at ht;obtain ⟨n,hs⟩:=Option.isSome_iff_exists.1 ht.2;have d:=Ez (id - 2).toNat (by omega) n hs w h;rw[show (((id - 2).toNat:Nat):Int)+2=id by omega] at d;refine aj d ?_;rintro _ f ⟨rfl,b⟩;by_cases c:(n.l:Int)=l
  ·have a:bY A id l=((n.lo:Int),(n.hi:Int)):=by unfold bY;rw[if_pos ht.1,hs];simp[c]
   iterate 4 refine ag rfl ?_
   refine ag (beq_iff_eq.2 c) ?_;refine ⟨?_,H.keeps.trans b (fun _ _ h=>h)⟩;rw[a];rfl
  ·have a:bY A id l=(id,0):=by unfold bY;rw[if_pos ht.1,hs];simp[c]
   iterate 4 refine ag rfl ?_
   refine af (beq_eq_false_iff_ne.2 c) ?_;refine ⟨?_,H.keeps.trans b (fun _ _ h=>h)⟩;rw[a];rfl
end Go.Proofs.YtpjihhgjbbihkaaGreatDoor
namespace Go.Dk
def nh (room:Int)(A:Ar)(l lo hi:Int):Ar × Int × Int:=if hi=0 then (A,lo,0) else we room A l lo hi
end Go.Dk
namespace Go.Proofs.YtpjihhgjbbihkaaGreatDoor
open Go.Proofs.Tryz
open Go.Dk
set_option maxRecDepth 100000
attribute [local irreducible] IntKind.wrap
theorem Ky:enters prog 205=true:=by kernel_rfl
theorem Kz {gz g r:Nat}{sv:Value}{room:Int}{A:Ar}(l lo hi:Int)(i:l<9223372036854775808)(c:lo<9223372036854775808)(d:hi<9223372036854775808)(f:uM room A)(w:World)(j:(an gz 205 #[(ah g)]).ok w)(h:(bI g r sv room A).ok w) :
  bw prog 205 [(ah gz),.int .i64 l,.int .i64 lo,.int .i64 hi] w fun v w'=>∃ a,v=.tuple #[.int .i64 (nh room A l lo hi).2.1,.int .i64 (nh room A l lo hi).2.2]∧(hi=0∧aT w w'∨hi≠0∧jS w w' (bI g r sv room A) (bI g r a room (nh room A l lo hi).1)):=by
 refine ar (N:=23) func205 Ky rfl rfl rfl (by simp) ?_;have H:=Hp.aC w;by_cases b:hi=0
 ·subst b;refine ag rfl ?_;exact ⟨sv,rfl,.inl ⟨rfl,H.keeps⟩⟩
 ·refine af (beq_eq_false_iff_ne.2 b) ?_;refine aa (xa _) ?_;refine aB (u:=(ah g)) xb ((aQ j 0).trans rfl) ?_;refine aj (c212 l lo hi i c d f _ h) ?_;rintro _ m ⟨a,rfl,k⟩;have e:nh room A l lo hi=we room A l lo hi:=if_neg b;rw[e];exact ⟨a,rfl,.inr ⟨b,k⟩⟩
end Go.Proofs.YtpjihhgjbbihkaaGreatDoor
namespace Go.Proofs.YtpjihhgjbbihkaaGreatDoor
open Go.Dk
set_option maxRecDepth 100000
def jY (U:Nat→Bool)(l:Int):Nat:=(List.range 24).countP fun u=>U u&&decide (l≤(u:Int))
theorem kU (U:Nat→Bool){l m:Int}(h:l≤m):jY U m≤jY U l:=by
 unfold jY;refine List.countP_mono_left fun u _ hu=>?_;rw[Bool.and_eq_true,decide_eq_true_eq] at hu ⊢;exact ⟨hu.1,by omega⟩
theorem tT {α:Type}{p q r:α→Bool}(h:∀ x,q x=true→r x=true→False)(b:∀ x,q x=true→p x=true)(c:∀ x,r x=true→p x=true) :
  ∀ l:List α,l.countP q+l.countP r≤l.countP p
 | []=>Nat.le_refl _
 | x::l=>by
  have d:=tT h b c l;rw[List.countP_cons,List.countP_cons,List.countP_cons]
  cases h1:q x with
  | true=>
   have a:r x=false:=by cases a:r x with | true=>exact (h x h1 a).elim | false=>rfl
   rw[a,b x h1];simp;omega
  | false=>
   cases a:r x with
   | true=>rw[c x a];simp;omega
   | false=>simp;omega
theorem tU (U:Nat→Bool){l:Nat}(c:l<24)(d:U l=true){m:Int}(h:(l:Int)<m):jY U m+1≤jY U (l:Int):=by
 have e:1≤(List.range 24).countP fun u=>decide (u=l):=by
  refine List.countP_pos_iff.2 ⟨l,List.mem_range.2 c,by simp⟩
 have:=tT (p:=fun u:Nat=>U u&&decide ((l:Int)≤(u:Int))) (q:=fun u:Nat=>U u&&decide (m≤(u:Int))) (r:=fun u:Nat=>decide (u=l))
  (fun x b a=>by simp at b a;subst a;omega) (fun x b=>by simp at b ⊢;exact ⟨b.1,by omega⟩) (fun x a=>by simp at a ⊢;subst a;exact ⟨d,Nat.le_refl _⟩) (List.range 24)
 unfold jY;omega
structure si (U:Nat→Bool) (room:Int) (A:Ar):Prop where
 ok:uM room A
 full:bT A=A.length
 used:∀ i d,slot A i=some d→U d.l=true
structure oW (U:Nat→Bool) (room:Int) (A A':Ar) (c:Nat) (e:Int):Prop where
 ext:Ext A A'
 arn:si U room A'
 len:A'.length≤A.length+c
 err:e=0∨e=5∧room<(A.length:Int)+c
theorem oW.refl {U:Nat→Bool}{room:Int}{A:Ar}(h:si U room A)(c:Nat):oW U room A A c 0:=⟨Ext.refl A,h,Nat.le_add_right _ _,.inl rfl⟩
theorem oW.trans {U:Nat→Bool}{room:Int}{A B C:Ar}{c d:Nat}{e:Int}(h:oW U room A B c 0)(k:oW U room B C d e):oW U room A C (c+d) e:=
 ⟨h.ext.trans k.ext,k.arn,by have:=h.len;have:=k.len;omega,k.err.imp id fun ⟨a,b⟩=>⟨a,by have:=h.len;omega⟩⟩
theorem oW.mono {U:Nat→Bool}{room:Int}{A B:Ar}{c d:Nat}{e:Int}(h:oW U room A B c e)(a:c≤d):oW U room A B d e:=
 ⟨h.ext,h.arn,by have:=h.len;omega,h.err.imp id fun ⟨b,f⟩=>⟨b,by omega⟩⟩
def At (A:Ar)(l:Int)(id:Int):Prop:=0≤l∧l≤aR A id
theorem At.ext {A B:Ar}{l id:Int}(h:At A l id)(he:Ext A B):At B l id:=⟨h.1,by rw[he.lvl (by have:=h.1;have:=h.2;omega)];exact h.2⟩
theorem At.mono {A:Ar}{l m id:Int}(h:At A l id)(a:0≤m)(hm:m≤l):At A m id:=⟨a,Int.le_trans hm h.2⟩
theorem At.end {A:Ar}{l id:Int}(h:id=0∨id=1)(a:0≤l)(b:l≤24):At A l id:=⟨a,by rw[ke h];exact b⟩
theorem yV {U:Nat→Bool}{room:Int}{A:Ar}(h:si U room A){l lo hi:Int}(c:0≤l)(g:l<24)(f:U l.toNat=true)(j:l<aR A lo)(k:l<aR A hi) :
  oW U room A (we room A l lo hi).1 1 (we room A l lo hi).2.2∧((we room A l lo hi).2.2=0→At (we room A l lo hi).1 l (we room A l lo hi).2.1):=by
 have a:=Mb h.ok l lo hi;have e0:((l.toNat:Nat):Int)=l:=Int.toNat_of_nonneg c;unfold we at a ⊢;rw[if_neg (by omega)] at a ⊢
 cases hf:iJ A ⟨l.toNat,lo.toNat,hi.toNat⟩ with
 | some i=>
  refine ⟨oW.refl h 1,fun _=>⟨c,?_⟩⟩;have hs:=kK hf;have:aR A (((i+2:Nat):Int))=l:=by
   have:=jn hs;rw[show ((i+2:Nat):Int)=(i:Int)+2 by omega,this];exact e0
  show l≤aR A (((i+2:Nat):Int));omega
 | none=>
  rw[hf] at a;simp only at a ⊢;by_cases e:room≤(lp A:Int)
  ·rw[if_pos e];refine ⟨⟨Ext.refl A,h,Nat.le_add_right _ _,.inr ⟨rfl,?_⟩⟩,fun h=>by cases h⟩;rw[CT h.full] at e;omega
  ·rw[if_neg e] at a ⊢;refine ⟨⟨G3,⟨a,ES h.full,?_⟩,?_,.inl rfl⟩,fun _=>⟨c,?_⟩⟩
   ·intro i d b;rw[fE] at b;split at b
    ·injection b with b;subst b;exact f
    ·exact h.used i d b
   ·show (jd A _).length≤_;rw[nB];split <;> omega
   ·show l≤aR (jd A _) (((bT A+2:Nat):Int));have:slot (jd A ⟨l.toNat,lo.toNat,hi.toNat⟩) (bT A)=some ⟨l.toNat,lo.toNat,hi.toNat⟩:=by rw[fE,if_pos rfl]
    have:=jn this;rw[show ((bT A+2:Nat):Int)=(bT A:Int)+2 by omega,this];show l≤((l.toNat:Nat):Int);omega
theorem Fk {U:Nat→Bool}{room:Int}{A:Ar}(h:si U room A){l lo hi:Int}(a:0≤l)(b:l<24)(c:U l.toNat=true)(d:l<aR A lo)(e:l<aR A hi) :
  oW U room A (nh room A l lo hi).1 1 (nh room A l lo hi).2.2∧((nh room A l lo hi).2.2=0→At (nh room A l lo hi).1 l (nh room A l lo hi).2.1):=by
 unfold nh;split
 ·exact ⟨oW.refl h 1,fun _=>⟨a,by show l≤aR A lo;omega⟩⟩
 ·exact yV h a b c d e
theorem fL {A:Ar}(h:x7 A){id l:Int}(b:0≤l)(c:l<24)(hid:l≤aR A id):At A (l+1) (bY A id l).1∧At A (l+1) (bY A id l).2:=by
 rcases jo (A:=A) (id:=id) (by omega) with rfl | rfl | ⟨i,n,rfl,hs,d⟩
 ·exact ⟨At.end (.inl rfl) (by omega) (by omega),At.end (.inl rfl) (by omega) (by omega)⟩
 ·exact ⟨At.end (.inr rfl) (by omega) (by omega),At.end (.inl rfl) (by omega) (by omega)⟩
 ·have a:=h.lev i n hs;have e:bY A ((i:Int)+2) l=if (n.l:Int)=l then ((n.lo:Int),(n.hi:Int)) else ((i:Int)+2,0):=by
   unfold bY;rw[if_pos (by omega),show ((i:Int)+2 - 2).toNat=i by omega,hs]
  rw[e];split
  ·exact ⟨⟨by omega,by show l+1≤aR A (n.lo:Int);omega⟩,⟨by omega,by show l+1≤aR A (n.hi:Int);omega⟩⟩
  ·exact ⟨⟨by omega,by show l+1≤aR A ((i:Int)+2);omega⟩,At.end (.inl rfl) (by omega) (by omega)⟩
theorem nT {U:Nat→Bool}{room:Int}{A:Ar}(h:si U room A){id:Int}(a:0≤aR A id)(b:id≠0)(c:id≠1):aR A id<24∧U (aR A id).toNat=true:=by
 rcases jo a with rfl | rfl | ⟨i,n,rfl,hs,d⟩
 ·exact (b rfl).elim
 ·exact (c rfl).elim
 ·rw[d];exact ⟨by have:=h.ok.inv.top i n hs;omega,by rw[Int.toNat_natCast];exact h.used i n hs⟩
theorem h_ {room:Int}{A:Ar}(h:uM room A){l id:Int}(a:At A l id):0≤id∧id<20002:=by
 have b:0≤aR A id:=by have:=a.1;have:=a.2;omega
 have:=zU b;have:=iA b;have:=h.len;have:=h.room;omega
end Go.Proofs.YtpjihhgjbbihkaaGreatDoor
namespace Go.Dk
set_option maxRecDepth 100000
def Hu (n:Nat)(x:Nat × Nat):Nat:=mkSet (fun p=>p &&&x.1==x.2) (2^n)
def KA (n:Nat):List (Nat × Nat):=(List.range (2^n)).flatMap fun m=>((List.range (2^n)).filter fun v=>v &&&m==v).map fun v=>(m,v)
def AI (n:Nat):List (Nat × List Nat):=(KA n).map fun x=>(Hu n x,((List.range n).filter fun i=>x.1.testBit i).map fun i=>Hu n (tO x i))
def NG (s:Nat)(t:Nat × List Nat):Bool:=(t.1 &&&s==t.1)&&t.2.all fun y=> !(y &&&s==y)
def AJ (T:List (Nat × List Nat))(k:Nat):Bool:=(List.range k).all fun s=>decide ((T.filter (NG s)).length≤6)
theorem Oh:AJ (AI 0) 2=true:=by kernel_rfl
theorem Oi:AJ (AI 1) 4=true:=by kernel_rfl
theorem Oj:AJ (AI 2) 16=true:=by kernel_rfl
def Mw:List (Nat × List Nat):=[(255,[]),(85,[255]),(170,[255]),(51,[255]),(204,[255]),(17,[51,85]),(34,[51,170]),(68,[204,85]),(136,[204,170]),(15,[255]),(240,[255]),(5,[15,85]),(10,[15,170]),(80,[240,85]),(160,[240,170]),(3,[15,51]),(12,[15,204]),(48,[240,51]),(192,[240,204]),(1,[3,5,17]),(2,[3,10,34]),(4,[12,5,68]),(8,[12,10,136]),(16,[48,80,17]),(32,[48,160,34]),(64,[192,80,68]),(128,[192,160,136])]
theorem Hv:AI 3=Mw:=by kernel_rfl
theorem Mx:AJ Mw 256=true:=by kernel_rfl
theorem Ok:AJ (AI 3) 256=true:=by rw[Hv];exact Mx
theorem Hw {n:Nat}(a:n≤3):AJ (AI n) (2^2^n)=true:=by
 rcases (by omega:n=0∨n=1∨n=2∨n=3) with rfl | rfl | rfl | rfl
 ·exact Oh
 ·exact Oi
 ·exact Oj
 ·exact Ok
theorem yW {a b:Nat}:a &&&b=a↔cq a b:=by
 constructor
 ·intro h p c;rw[← h,Nat.testBit_and,Bool.and_eq_true] at c;exact c.2
 ·intro h;refine Nat.eq_of_testBit_eq fun p=>?_;rw[Nat.testBit_and]
  cases c:a.testBit p with
  | false=>rfl
  | true=>rw[h p c];rfl
theorem Fl {n:Nat}(a:n≤8)(x:Nat × Nat):Hu n x=bd x.1 x.2 n:=by
 refine Nat.eq_of_testBit_eq fun p=>?_;unfold Hu;rw[bW,Bool.eq_iff_iff,bD a];simp
theorem KB {n s:Nat}(a:n≤8){x:Nat × Nat}(h:nS n s x):NG s (Hu n x,((List.range n).filter fun i=>x.1.testBit i).map fun i=>Hu n (tO x i))=true:=by
 unfold NG;rw[Bool.and_eq_true,beq_iff_eq,List.all_eq_true];refine ⟨?_,fun y b=>?_⟩
 ·rw[yW];show cq (Hu n x) s;rw[Fl a];exact h.1.cI
 ·obtain ⟨i,hi,rfl⟩:=List.mem_map.1 b;rw[List.mem_filter,List.mem_range] at hi;rw[Bool.not_eq_true',beq_eq_false_iff_ne];intro e;rw[yW,Fl a] at e;exact h.2 i hi.1 hi.2 ⟨mS h.1.lt i,kg,e⟩
theorem Fm {n s:Nat}{x:Nat × Nat}(h:Ay n s x):x ∈ KA n:=by
 refine List.mem_flatMap.2 ⟨x.1,List.mem_range.2 h.lt,List.mem_map.2 ⟨x.2,List.mem_filter.2 ⟨List.mem_range.2 (sub_lt h.lt h.sub),by rw[beq_iff_eq];exact h.sub⟩,rfl⟩⟩
theorem kV {α β:Type}(f:α→β)(p:β→Bool):∀ l:List α,((l.map f).filter p).length=(l.filter fun a=>p (f a)).length
 | []=>rfl
 | a::l=>by
  rw[List.map_cons,List.filter_cons,List.filter_cons];split
  ·rw[List.length_cons,List.length_cons,kV f p l]
  ·exact kV f p l
def KC (n s:Nat):List (Nat × Nat):=(KA n).filter fun x=>NG s (Hu n x,((List.range n).filter fun i=>x.1.testBit i).map fun i=>Hu n (tO x i))
theorem Fo {n s:Nat}(a:n≤8){x:Nat × Nat}(h:nS n s x):x ∈ KC n s:=List.mem_filter.2 ⟨Fm h.1,KB a h⟩
theorem tV {n s:Nat}(b:n≤3)(hs:cq s (bp n)):(KC n s).length≤6:=by
 have h:=Hw b;unfold AJ at h;rw[List.all_eq_true] at h;have a:s<2^2^n:=by
  refine Nat.lt_pow_two_of_testBit _ fun p c=>?_
  cases hb:s.testBit p with
  | false=>rfl
  | true=>
   have:=hs p hb;rw[gG (by omega),decide_eq_true_eq] at this;omega
 have:=h s (List.mem_range.2 a);rw[decide_eq_true_eq] at this;unfold AI at this;rw[kV] at this;exact this
theorem AK {S:dX}(e:S.n≤3)(f:S.may.length≤2){R:List Rw}(g:R.Nodup)(h:∀ x ∈ R,eH S x):R.length≤18:=by
 have i:=kQ (a:=R) (b:=[1,2,3].flatMap fun o=>(KC S.n (hZ S o S.may.length)).map fun c=>(c.1,c.2,o)) g (fun x d=>by
  have d:=h x d;have j:=d.some;have k:x.2.2<4:=Nat.lt_of_lt_of_le d.few (show 2^S.may.length≤2^2 from Nat.pow_le_pow_right (by decide) f);refine List.mem_flatMap.2 ⟨x.2.2,?_,List.mem_map.2 ⟨(x.1,x.2.1),Fo (by omega) d.cube,rfl⟩⟩;rcases (by omega:x.2.2=1∨x.2.2=2∨x.2.2=3) with h | h | h <;> rw[h] <;> simp)
 have j:=tV e (kS S 1 S.may.length);have k:=tV e (kS S 2 S.may.length);have l:=tV e (kS S 3 S.may.length);simp only[List.flatMap_cons,List.flatMap_nil,List.length_append,List.length_map,List.length_nil] at i;omega
end Go.Dk
namespace Go.Proofs.YtpjihhgjbbihkaaGreatDoor
open Go.Proofs.Tryz
open Go.Dk
set_option maxRecDepth 100000
attribute [local irreducible] IntKind.wrap
def nj (a b:Int):Array Value:=#[.int .i64 a,.int .i64 b]
def k2 (a b:Int):Value:=.agg (nj a b)
theorem Fp:cP prog 247=some true:=by kernel_rfl
theorem xc:bE prog 247=some 2:=by kernel_rfl
theorem xd:eL prog 247=some (k2 0 0):=by kernel_rfl
theorem Fq {a b c d:Int}:k2 a b=k2 c d↔a=c∧b=d:=by unfold k2 nj;simp
theorem Dn (a b c d:Int)(w:World):(Op.equal 247 (k2 a b) (k2 c d)).run prog w=.ok (a==c&&b==d) w:=by
 have f:∀ e,(Op.equalIn (e+2) 247 (k2 a b) (k2 c d)).run prog w=.ok (a==c&&b==d) w:=by
  intro e;unfold k2 nj;rw[Op.equalIn];have i0:=dN underlying3 e a c;have i1:=dN underlying3 e b d;have g:∀ (x y:Int) w,(Go.part 3 #[.int .i64 x,.int .i64 y] 0).run prog w=.ok (.int .i64 x) w:=fun x y w=>gv aF rfl w;have h:∀ (x y:Int) w,(Go.part 3 #[.int .i64 x,.int .i64 y] 1).run prog w=.ok (.int .i64 y) w:=fun x y w=>gv aF rfl w;generalize (a==c)=b0 at *;generalize (b==d)=b1 at *;simp only[Sem.run_bind,run_underlying underlying247,Result.andThen_ok,Go.Dk.run_sizeOf bc]
  cases b0 <;> cases b1 <;> simp[Std.Legacy.Range.forIn_eq_forIn_range',List.range',g,h,i0,i1,Std.Legacy.Range.size]
 exact f 9998
def My (v:Value):Prop:=∃ a b,v=k2 a b
theorem Fs (a b:Int)(em:Bool)(w:World):(Instr.checkKey em 10000 247 (k2 a b)).run prog w=.ok () w:=by kernel_rfl
theorem vF (w:World)(a b:Int):∀ (es:List MapEntry) (i:Nat),(∀ e ∈ es,My e.key)→
  ((Instr.findAsking 247 (k2 a b) es i).run prog w=.ok none w∧∀ e ∈ es,e.key≠k2 a b)∨∃ j e,(Instr.findAsking 247 (k2 a b) es i).run prog w=.ok (some (i+j,e.val)) w∧es[j]?=some e∧e.key=k2 a b
 | [],i,_=>.inl ⟨by simp[Instr.findAsking],by simp⟩
 | e::es,i,h=>by
  obtain ⟨g,k,he⟩:=h e (.head _);have f:=Dn a b g k w;by_cases l:a=g∧b=k
  ·obtain ⟨rfl,rfl⟩:=l;exact .inr ⟨0,e,by simp[Instr.findAsking,he,f],rfl,he⟩
  ·have p:(a==g&&b==k)=false:=by
    rw[Bool.eq_false_iff];intro c;simp at c;exact l c
   rw[p] at f;have m:e.key≠k2 a b:=fun c=>l (by rw[he,Fq] at c;exact ⟨c.1.symm,c.2.symm⟩);rcases vF w a b es (i+1) (fun x d=>h x (.tail _ d)) with ⟨n,o⟩ | ⟨j,q,n,o,r⟩
   ·refine .inl ⟨by simp[Instr.findAsking,he,f,n],fun x d=>?_⟩;rcases List.mem_cons.1 d with rfl | d
    ·exact m
    ·exact o x d
   ·exact .inr ⟨j+1,q,by simp[Instr.findAsking,he,f,n];omega,by simpa using o,r⟩
theorem Mz:KL prog 247 My where
 check:=by rintro w em _ ⟨a,b,rfl⟩;exact Fs a b em w
 find:=by
  rintro w _ ⟨a,b,rfl⟩ es he
  cases es with
  | nil=>exact .inl ⟨by simp[Instr.findKey,run_underlying underlying247,Instr.findNow],by simp⟩
  | cons e es=>
   have c:∀ n t,Instr.findNow (.array n t) (k2 a b) (e::es) 0=none:=fun n t=>rfl;have:=vF w a b (e::es) 0 he;simp only[Nat.zero_add] at this;simp only[Instr.findKey,Sem.run_bind,run_underlying underlying247,Result.andThen_ok,c];exact this
 stays:=by
  rintro w _ ⟨a,b,rfl⟩;have:Instr.sameBits 10000 (k2 a b) (k2 a b)=true:=by
   show (_&&_)=true;simp[Instr.sameBits,nj]
  simp[Instr.keyThatStays,this]
abbrev I2:=Int × Int
def pB (x:I2):Value:=k2 x.1 x.2
theorem Hx (x y:I2)(h:pB x=pB y):x=y:=by
 obtain ⟨c,d⟩:=Fq.1 h;obtain ⟨a,b⟩:=x;obtain ⟨e,f⟩:=y;simp only at c d;rw[c,d]
theorem Ol:ld prog 249 247 3 pB (fun k:Int=>Value.int .i64 k) (.int .i64 0):=⟨underlying249,Mz.mono fun _ ⟨x,h⟩=>⟨_,_,h⟩,Hx,BF⟩
def eQ (A:Ar)(l:List (I2 × Int)):Prop:=∀ f g id,bS l (f,g)=some id→(0≤aR A f∧0≤aR A g)∧At A (min (aR A f) (aR A g)) id
theorem eQ.nil (A:Ar):eQ A []:=fun f g id a=>by simp[bS] at a
theorem eQ.ext {A b:Ar}{l:List (I2 × Int)}(a:Ext A b)(h:eQ A l):eQ b l:=fun f g id e=>by
 obtain ⟨⟨c,d⟩,i⟩:=h f g id e;rw[a.lvl c,a.lvl d];exact ⟨⟨c,d⟩,i.ext a⟩
theorem eQ.put {A:Ar}{l:List (I2 × Int)}(h:eQ A l){f g id:Int}(c:0≤aR A f)(d:0≤aR A g)(e:At A (min (aR A f) (aR A g)) id):eQ A (dZ l (f,g) id):=fun i j b a=>by
 rw[fg] at a;split at a
 ·rename_i he;injection he with k m;subst k;subst m;injection a with a;subst a;exact ⟨⟨c,d⟩,e⟩
 ·exact h i j b a
theorem Hy {a b m:Int}{ty:TypeId}{c:Array Bool}{w:World}{kk:Value→World→Prop}(hm:min a b=m)(h:kk (.int .i64 m) w):bV prog .min #[3,3] ty c [.int .i64 a,.int .i64 b] w kk:=by
 unfold bV;refine ⟨_,w,?_,h⟩;show (do pure (.value (← Builtin.min_ #[3,3] ty #[.int .i64 a,.int .i64 b])):Sem Next).run prog w=_;simp[Builtin.min_,Builtin.min2];rw[← hm];omega
theorem oJ (g:Nat)(w:World):(Instr.fieldAt 251 (ah g) 0).run prog w=.ok (ah g) w:=by kernel_rfl
theorem B1 (g:Nat)(w:World):(Instr.fieldAt 251 (ah g) 1).run prog w=.ok (.pointer (some ⟨g,1,none⟩)) w:=by kernel_rfl
theorem Hz (g:Nat)(w:World):(Instr.fieldAt 251 (ah g) 2).run prog w=.ok (.pointer (some ⟨g,2,none⟩)) w:=by kernel_rfl
theorem xe (g:Nat)(w:World):(Instr.fieldAt 251 (ah g) 3).run prog w=.ok (.pointer (some ⟨g,3,none⟩)) w:=by kernel_rfl
theorem Ft:cP prog 244=some false:=by kernel_rfl
theorem KD:cP prog 245=some false:=by kernel_rfl
theorem AL:cP prog 249=some false:=by kernel_rfl
theorem iW:cP prog 165=some false:=by kernel_rfl
def qJ (k:Int):Value:=.int .i64 k
theorem Fu:ld prog 249 247 3 pB qJ (.int .i64 0):=Ol
theorem mo {a b:Int}{w:World}{kk:Value→World→Prop}(h:kk (k2 a b) w):b8 prog 247 [(0,.int .i64 a),(1,.int .i64 b)] w kk:=bt (fun w=>by kernel_rfl) h
def pC (n:Nat):Value:=.func (.func n) #[] #[]
def dR (g r rm:Nat)(sv:Value)(room:Int)(A:Ar)(D:List (I2 × Int)):cH:=sa [bI g r sv room A,aP pB qJ rm D]
def dM (gz gd g fe hi rm:Nat):List cH:=[an gz 205 #[(ah g)],an gd 251 #[(ah gz),pC fe,pC hi,.map (some rm)]]
structure oX (w:World) (gz gd g r rm fe hi:Nat) (sv:Value) (room:Int) (A:Ar) (D:List (I2 × Int)):Prop where
 head:∀ s ∈ dM gz gd g fe hi rm,s.ok w
 lt:∀ s ∈ dM gz gd g fe hi rm,∀ x,s.foot x→x<w.heap.size
 ok:(dR g r rm sv room A D).ok w
 dis:∀ s ∈ dM gz gd g fe hi rm,∀ x,s.foot x→¬ (dR g r rm sv room A D).foot x
section
variable {w0 w:World} {F:Nat→Prop} {L M:List cH} {gz gd g r rm fe hi:Nat} {sv:Value} {room:Int} {A:Ar} {D:List (I2 × Int)} {U:Nat→Bool}
theorem oX.start (h:oX w gz gd g r rm fe hi sv room A D):Hp w (dR g r rm sv room A D).foot w [bI g r sv room A,aP pB qJ rm D] (dM gz gd g fe hi rm):=
 (Hp.rN (M:=dM gz gd g fe hi rm) h.ok (fun x ⟨q,a,b⟩=>h.ok.2.1 q a x b) h.head h.lt h.dis).split
theorem qt (H:Hp w0 F w (dR g r rm sv room A D::L) (dM gz gd g fe hi rm)):oX w gz gd g r rm fe hi sv room A D:=
 ⟨H.rok,H.rlt,H.get 0 rfl,fun s hs x b a=>H.rdis s hs _ (.head _) x b a⟩
theorem iX (H:Hp w0 F w (bI g r sv room A::aP pB qJ rm D::L) M):Hp w0 F w (dR g r rm sv room A D::L) M:=
 Hp.join (Ls:=[bI g r sv room A,aP pB qJ rm D]) H
def iY (w:World)(g r rm:Nat)(U:Nat→Bool)(room:Int)(sv:Value)(A:Ar)(D:List (I2 × Int))(l:Int)(c:Nat)(X:Int→Prop)(v:Value)(w':World):Prop:=
 ∃ a b d id e,v=.tuple #[.int .i64 id,.int .i64 e]∧(oW U room A a c e∧(e=0→At a l id∧X id)∧eQ a d)∧jS w w' (dR g r rm sv room A D) (dR g r rm b room a d)
end
theorem KE:enters prog 184=true:=by kernel_rfl
set_option maxHeartbeats 4000000 in
theorem rk {w:World}{gz gd g r rm fe hi:Nat}{sv:Value}{room:Int}{A:Ar}{D:List (I2 × Int)}{U:Nat→Bool}{f p l:Int}{id0:Int}{b0:Bool}{cl ch:Nat}{X:Int→Prop}(T:si U room A)(hD:eQ A D)(hf:0≤aR A f)(hp:0≤aR A p)(hl:min (aR A f) (aR A p)=l)(hit:oX w gz gd g r rm fe hi sv room A D)(he:∀ w,bw prog fe [.int .i64 f,.int .i64 p] w fun v w'=>v=.tuple #[.int .i64 id0,.bool b0]∧aT w w')(h1:b0=true→At A l id0∧X id0)(hX:b0=false→∀ id,X id)(V:b0=false→l<24∧U l.toNat=true)(i:b0=false→∀ c F,oX F gz gd g r rm fe hi c room A D→bw prog 184 [(ah gd),.int .i64 (bY A f l).1,.int .i64 (bY A p l).1] F (iY F g r rm U room c A D (l+1) cl fun _=>True))(d:b0=false→∀ j t c F,oW U room A j cl 0→eQ j t→oX F gz gd g r rm fe hi c room j t→bw prog hi [(ah gd),k2 (bY A f l).1 (bY A f l).2,k2 (bY A p l).1 (bY A p l).2] F (iY F g r rm U room c j t (l+1) ch fun _=>True)) :
  bw prog 184 [(ah gd),.int .i64 f,.int .i64 p] w (iY w g r rm U room sv A D l (if b0 then 0 else cl+ch+1) X):=by
 have hfs:=h_ T.ok ⟨Int.le_refl 0,hf⟩;have hps:=h_ T.ok ⟨Int.le_refl 0,hp⟩;have K:0≤l:=by omega
 refine ar (N:=130) func184 KE rfl rfl rfl (by simp) ?_;have H:=hit.start;refine aw (fun w'=>Hp w (dR g r rm sv room A D).foot w' [bI g r sv room A,aP pB qJ rm D] (dM gz gd g fe hi rm)) ⟨(),trivial,H⟩ ?_;clear H;rintro ⟨⟩ u F H
 cases b0 with
 | true=>
  refine aa (B1 _) ?_;refine aB Ft ((aQ (H.ro 1 rfl) 1).trans rfl) ?_;refine aj (he _) ?_;rintro _ w2 ⟨rfl,x⟩;refine ag rfl ?_;exact ⟨A,sv,D,id0,0,rfl,⟨oW.refl T _,fun _=>h1 rfl,hD⟩,(iX (H.same x)).bg⟩
 | false=>
 replace V:=V rfl;replace hX:=hX rfl;replace i:=i rfl;replace d:=d rfl;clear h1;refine aw (fun w'=>Hp w (dR g r rm sv room A D).foot w' [bI g r sv room A,aP pB qJ rm D] (dM gz gd g fe hi rm)) ?_ ?_
 ·refine aa (B1 _) ?_;refine aB Ft ((aQ (H.ro 1 rfl) 1).trans rfl) ?_;refine aj (he _) ?_;rintro _ w2 ⟨rfl,x⟩;refine af rfl ?_;exact ⟨(),trivial,H.same x⟩
 clear H;rintro ⟨⟩ u w3 H
 cases hg:bS D (f,p) with
 | some id=>
  refine aa (xe _) ?_;refine aB AL ((aQ (H.ro 1 rfl) 3).trans rfl) ?_;refine mo ?_;refine lr (H.get 1 rfl) Fu (f,p) (fun b Y=>?_) (fun Y=>absurd (hg.symm.trans Y) (by simp));refine ag rfl ?_;exact ⟨A,sv,D,b,0,rfl,⟨oW.refl T _,fun _=>⟨hl ▸ (hD f p b Y).2,hX b⟩,hD⟩,(iX H).bg⟩
 | none=>
  refine aw (fun w'=>Hp w (dR g r rm sv room A D).foot w' [bI g r sv room A,aP pB qJ rm D] (dM gz gd g fe hi rm)) ?_ ?_
  ·refine aa (xe _) ?_;refine aB AL ((aQ (H.ro 1 rfl) 3).trans rfl) ?_;refine mo ?_;refine lr (H.get 1 rfl) Fu (f,p) (fun b Y=>absurd (hg.symm.trans Y) (by simp)) (fun Y=>?_);refine af rfl ?_;exact ⟨(),trivial,H⟩
  clear H;rintro ⟨⟩ u w4 H;refine ak (γ:=Unit) (fun _=>[(12,.int .i64 l)]) (fun _ w'=>Hp w (dR g r rm sv room A D).foot w' [bI g r sv room A,aP pB qJ rm D] (dM gz gd g fe hi rm)) ?_ ?_
  ·refine H.draw eO (by kernel_rfl) ?_;clear H;intro w5 H;refine quiet _ (fun w H=>aa (oJ _) ae) ?_;refine quiet _ (fun w H=>aB iW ((aQ (H.ro 1 rfl) 0).trans rfl) ae) ?_;refine aj (c203 f (by omega) _ (H.ro 0 rfl) (H.get 0 rfl)) ?_;rintro _ w6 ⟨rfl,x⟩;replace H:=H.same x;refine ⟨.inl H,?_⟩;refine quiet _ (fun w H=>aa (oJ _) ae) ?_;refine quiet _ (fun w H=>aB iW ((aQ (H.ro 1 rfl) 0).trans rfl) ae) ?_;refine aj (c203 p (by omega) _ (H.ro 0 rfl) (H.get 0 rfl)) ?_;rintro _ w7 ⟨rfl,hk7⟩;replace H:=H.same hk7;refine ⟨.inl H,?_⟩;refine quiet _ (fun w H=>Hy hl ae) ?_;exact ⟨(),⟨rfl,trivial⟩,H⟩
  clear H;rintro ⟨⟩ u w5 H;refine ak (γ:=Nat × Nat) (fun (g1,g2)=>[(13,(ah g1)),(14,(ah g2))]) (fun (g1,g2) w'=>Hp w (dR g r rm sv room A D).foot w' [bI g r sv room A,aP pB qJ rm D,an g1 247 (nj 0 0),an g2 247 (nj 0 0)] (dM gz gd g fe hi rm)) ?_ ?_
  ·refine H.alloc 247 (cs:=nj 0 0) xd rfl ?_;clear H;intro g1 w6 H;refine H.alloc 247 (cs:=nj 0 0) xd rfl ?_;clear H;intro g2 w7 H;exact ⟨(g1,g2),⟨rfl,rfl,trivial⟩,(((H.front 1 rfl).front 3 rfl).front 3 rfl)⟩
  clear H;rintro ⟨g1,g2⟩ u w6 H;have Z:=fL T.ok.inv K V.1 (show l≤aR A f by omega);have a2:=fL T.ok.inv K V.1 (show l≤aR A p by omega);generalize ea:bY A f l=a at Z i d;generalize eb:bY A p l=b at a2 i d;obtain ⟨a0,B⟩:=a;obtain ⟨b0,G⟩:=b;simp only at Z a2 i d;refine aw (fun w'=>Hp w (dR g r rm sv room A D).foot w' [bI g r sv room A,aP pB qJ rm D,an g1 247 (nj a0 B),an g2 247 (nj 0 0)] (dM gz gd g fe hi rm)) ?_ ?_
  ·refine aa (oJ _) ?_;refine aB iW ((aQ (H.ro 1 rfl) 0).trans rfl) ?_;have hc:=Mv f l (by omega) _ (H.ro 0 rfl) (H.get 0 rfl);rw[ea] at hc;refine aj hc ?_;rintro _ w7 ⟨rfl,x⟩;replace H:=H.same x;refine aK underlying247 bc 0 rfl (by omega) (o':=0) rfl ?_;refine H.store 2 rfl bc (Nat.le_of_ble_eq_true rfl) rfl ?_;clear H;intro w8 H;refine aK underlying247 bc 1 rfl (by omega) (o':=1) rfl ?_;refine H.store 2 rfl bc (Nat.le_of_ble_eq_true rfl) rfl ?_;clear H;intro w9 H;exact ⟨(),trivial,H⟩
  clear H;rintro ⟨⟩ u w7 H;refine aw (fun w'=>Hp w (dR g r rm sv room A D).foot w' [bI g r sv room A,aP pB qJ rm D,an g1 247 (nj a0 B),an g2 247 (nj b0 G)] (dM gz gd g fe hi rm)) ?_ ?_
  ·refine aa (oJ _) ?_;refine aB iW ((aQ (H.ro 1 rfl) 0).trans rfl) ?_;have hc:=Mv p l (by omega) _ (H.ro 0 rfl) (H.get 0 rfl);rw[eb] at hc;refine aj hc ?_;rintro _ w8 ⟨rfl,x⟩;replace H:=H.same x;refine aK underlying247 bc 0 rfl (by omega) (o':=0) rfl ?_;refine H.store 3 rfl bc (Nat.le_of_ble_eq_true rfl) rfl ?_;clear H;intro w9 H;refine aK underlying247 bc 1 rfl (by omega) (o':=1) rfl ?_;refine H.store 3 rfl bc (Nat.le_of_ble_eq_true rfl) rfl ?_;clear H;intro w10 H;exact ⟨(),trivial,H⟩
  clear H;rintro ⟨⟩ u w8 H;refine ak (γ:=Int × Int × Ar × Value × List (I2 × Int)) (fun (id,e,_)=>[(15,.int .i64 id),(16,.int .i64 e)]) (fun (id,e,j,c,t) w'=>(oW U room A j cl e∧(e=0→At j (l+1) id)∧eQ j t)∧Hp w (dR g r rm sv room A D).foot w' [bI g r c room j,aP pB qJ rm t,an g1 247 (nj a0 B),an g2 247 (nj b0 G)] (dM gz gd g fe hi rm)) ?_ ?_
  ·refine aK underlying247 bc 0 rfl (by omega) (o':=0) rfl ?_;refine H.load 2 rfl aF rfl ?_;refine aK underlying247 bc 0 rfl (by omega) (o':=0) rfl ?_;refine H.load 3 rfl aF rfl ?_;refine aj (i sv _ (qt (iX H))) ?_;rintro _ w9 ⟨j,c,t,id,e,rfl,M,O⟩;exact ⟨(id,e,j,c,t),⟨rfl,rfl,trivial⟩,⟨M.1,fun h=>(M.2.1 h).1,M.2.2⟩,((iX H).b9 0 rfl O).split⟩
  clear H;rintro ⟨lo,e,j,c,t⟩ u w9 ⟨⟨C,Q,hm1⟩,H⟩;refine aw (fun w'=>e=0∧Hp w (dR g r rm sv room A D).foot w' [bI g r c room j,aP pB qJ rm t,an g1 247 (nj a0 B),an g2 247 (nj b0 G)] (dM gz gd g fe hi rm)) ?_ ?_
  ·refine df (fun he=>?_) (fun he=>?_)
   ·exact ⟨j,c,t,0,e,rfl,⟨C.mono (by simp;omega),fun h=>absurd h he,hm1⟩,(iX H).bg⟩
   ·exact ⟨(),trivial,he,H⟩
  clear H;rintro ⟨⟩ u w10 ⟨rfl,H⟩;replace Q:=Q rfl;refine ak (γ:=Int × Int × Ar × Value × List (I2 × Int)) (fun (id,e,_)=>[(17,.int .i64 id),(16,.int .i64 e)]) (fun (id,e,k,m,z) w'=>(oW U room j k ch e∧(e=0→At k (l+1) id)∧eQ k z)∧Hp w (dR g r rm sv room A D).foot w' [bI g r m room k,aP pB qJ rm z,an g1 247 (nj a0 B),an g2 247 (nj b0 G)] (dM gz gd g fe hi rm)) ?_ ?_
  ·refine (iX H).fp [an g1 247 (nj a0 B),an g2 247 (nj b0 G)] (fun u h=>h.forget) eO (by kernel_rfl) ?_;clear H;intro w11 H;refine quiet _ (fun w H=>aa (Hz _) ae) ?_;refine quiet _ (fun w H=>aB KD ((aQ (H.ro 1 rfl) 2).trans rfl) ae) ?_;refine quiet _ (fun w H=>H.ai 0 rfl Fp xc ae) ?_;refine quiet _ (fun w H=>H.ai 1 rfl Fp xc ae) ?_;refine aj (d j t c _ C hm1 (qt H)) ?_;rintro _ w12 ⟨k,m,z,id,e,rfl,M,O⟩;replace H:=(H.b9 0 rfl O).split;refine ⟨.inl H.forget.forget,?_⟩;exact ⟨(id,e,k,m,z),⟨rfl,rfl,trivial⟩,⟨M.1,fun h=>(M.2.1 h).1,M.2.2⟩,H⟩
  clear H;rintro ⟨n,e,k,m,z⟩ u w11 ⟨⟨o,E,hm2⟩,H⟩;refine aw (fun w'=>e=0∧Hp w (dR g r rm sv room A D).foot w' [bI g r m room k,aP pB qJ rm z,an g1 247 (nj a0 B),an g2 247 (nj b0 G)] (dM gz gd g fe hi rm)) ?_ ?_
  ·refine df (fun he=>?_) (fun he=>?_)
   ·exact ⟨k,m,z,0,e,rfl,⟨(C.trans o).mono (by simp),fun h=>absurd h he,hm2⟩,(iX H).bg⟩
   ·exact ⟨(),trivial,he,H⟩
  clear H;rintro ⟨⟩ u w12 ⟨rfl,H⟩;replace E:=E rfl;have hd12:=C.trans o;have I:=Q.ext o.ext;have s1:=h_ o.arn.ok I;have s2:=h_ o.arn.ok E;have q:=Fk (U:=U) o.arn K V.1 V.2 (lo:=lo) (hi:=n) (by have:=I.2;omega) (by have:=E.2;omega);refine ak (γ:=Value) (fun _=>[(18,.int .i64 (nh room k l lo n).2.1),(16,.int .i64 (nh room k l lo n).2.2)]) (fun s w'=>Hp w (dR g r rm sv room A D).foot w' [bI g r s room (nh room k l lo n).1,aP pB qJ rm z,an g1 247 (nj a0 B),an g2 247 (nj b0 G)] (dM gz gd g fe hi rm)) ?_ ?_
  ·refine aa (oJ _) ?_;refine aB iW ((aQ (H.ro 1 rfl) 0).trans rfl) ?_;refine aj (Kz l lo n (by omega) (by omega) (by omega) o.arn.ok _ (H.ro 0 rfl) (H.get 0 rfl)) ?_;rintro _ w13 ⟨s,rfl,O⟩;rcases O with ⟨h0,x⟩ | ⟨_,O⟩
   ·refine ⟨m,⟨rfl,rfl,trivial⟩,?_⟩;have e:(nh room k l lo n).1=k:=by unfold nh;rw[if_pos h0]
    rw[e];exact H.same x
   ·exact ⟨s,⟨rfl,rfl,trivial⟩,H.b9 0 rfl O⟩
  clear H;rintro s u w13 H;generalize nh room k l lo n=N at q H;obtain ⟨A3,id,e⟩:=N;simp only at q H;obtain ⟨hd3,hid⟩:=q;have J:=hd12.trans hd3;have y:eQ A3 z:=hm2.ext hd3.ext;refine ak (γ:=List (I2 × Int)) (fun _=>[]) (fun D3 w'=>eQ A3 D3∧Hp w (dR g r rm sv room A D).foot w' [bI g r s room A3,aP pB qJ rm D3,an g1 247 (nj a0 B),an g2 247 (nj b0 G)] (dM gz gd g fe hi rm)) ?_ ?_
  ·refine cg (fun he=>?_) (fun he=>?_)
   ·refine aa (xe _) ?_;refine aB AL ((aQ (H.ro 1 rfl) 3).trans rfl) ?_;refine mo ?_;have he:e=0:=he;have hx:=J.ext;have hid:=hid he;rw[← hl,← hx.lvl hf,← hx.lvl hp] at hid;refine H.iI 1 rfl Fu (f,p) id fun w' H=>?_;exact ⟨_,trivial,y.put (by rw[hx.lvl hf];exact hf) (by rw[hx.lvl hp];exact hp) hid,H⟩
   ·exact ⟨z,trivial,y,H⟩
  clear H;rintro D3 u w14 ⟨S,H⟩;exact ⟨A3,s,D3,id,e,rfl,⟨J.mono (by simp),fun h=>⟨hid h,hX id⟩,S⟩,(iX H).bg⟩
def qu (f p:Int):Int × Bool:=if f=0∨f=p then (p,true) else (f,p==0)
def xf (f p:Int):Int × Bool:=if f=0∨f=p then (0,true) else (f,p==0)
def AM (f p:Int):Int × Bool:=if f=0∨p=0 then (0,true) else if f=1 then (p,true) else (f,p==1)
def HA (fe:Nat)(E:Int→Int→Int × Bool):Prop:=∀ (f p:Int) (w:World),bw prog fe [.int .i64 f,.int .i64 p] w fun v w'=>v=.tuple #[.int .i64 (E f p).1,.bool (E f p).2]∧aT w w'
theorem KF:enters prog 186=true:=by kernel_rfl
theorem MA:HA 186 qu:=fun f p w=>by
 refine ar (N:=17) func186 KF rfl rfl rfl (by simp) ?_;have H:=Hp.aC w;unfold qu;by_cases a:f=0
 ·rw[if_pos (.inl a)]
  iterate 4 refine ag (beq_iff_eq.2 (by assumption)) ?_
  refine ag rfl ?_;exact ⟨rfl,H.keeps⟩
 ·by_cases b:f=p
  ·rw[if_pos (.inr b)]
   iterate 4 refine af (beq_eq_false_iff_ne.2 (by assumption)) ?_
   refine ag (beq_iff_eq.2 (by assumption)) ?_;exact ⟨rfl,H.keeps⟩
  ·rw[if_neg (by omega)]
   iterate 5 refine af (beq_eq_false_iff_ne.2 (by assumption)) ?_
   exact ⟨rfl,H.keeps⟩
theorem KG:enters prog 180=true:=by kernel_rfl
theorem Om:HA 180 xf:=fun f p w=>by
 refine ar (N:=16) func180 KG rfl rfl rfl (by simp) ?_;have H:=Hp.aC w;unfold xf;by_cases a:f=0
 ·rw[if_pos (.inl a)]
  iterate 4 refine ag (beq_iff_eq.2 (by assumption)) ?_
  refine ag rfl ?_;exact ⟨rfl,H.keeps⟩
 ·by_cases b:f=p
  ·rw[if_pos (.inr b)]
   iterate 4 refine af (beq_eq_false_iff_ne.2 (by assumption)) ?_
   refine ag (beq_iff_eq.2 (by assumption)) ?_;exact ⟨rfl,H.keeps⟩
  ·rw[if_neg (by omega)]
   iterate 5 refine af (beq_eq_false_iff_ne.2 (by assumption)) ?_
   exact ⟨rfl,H.keeps⟩
theorem KH:enters prog 182=true:=by kernel_rfl
theorem c182:HA 182 AM:=fun f p w=>by
 refine ar (N:=20) func182 KH rfl rfl rfl (by simp) ?_;have H:=Hp.aC w;unfold AM;by_cases b:f=0
 ·rw[if_pos (.inl b)]
  iterate 3 refine ag (beq_iff_eq.2 (by assumption)) ?_
  refine ag rfl ?_;exact ⟨rfl,H.keeps⟩
 ·by_cases c:p=0
  ·rw[if_pos (.inr c)]
   iterate 3 refine af (beq_eq_false_iff_ne.2 (by assumption)) ?_
   refine ag (beq_iff_eq.2 (by assumption)) ?_;exact ⟨rfl,H.keeps⟩
  ·rw[if_neg (by omega)];by_cases a:f=1
   ·rw[if_pos a]
    iterate 4 refine af (beq_eq_false_iff_ne.2 (by assumption)) ?_
    refine ag (beq_iff_eq.2 (by assumption)) ?_;exact ⟨rfl,H.keeps⟩
   ·rw[if_neg a]
    iterate 5 refine af (beq_eq_false_iff_ne.2 (by assumption)) ?_
    exact ⟨rfl,H.keeps⟩
section
variable {w:World} {gz gd g r rm fe hi:Nat} {sv:Value} {room:Int} {A:Ar} {D:List (I2 × Int)} {U:Nat→Bool} {l m:Int} {c d:Nat} {X Y:Int→Prop}
theorem iY.mono {v:Value}{w':World}(h:iY w g r rm U room sv A D l c X v w')(a:0≤m)(hm:m≤l)(i:c≤d)(j:∀ id,X id→Y id):iY w g r rm U room sv A D m d Y v w':=by
 obtain ⟨k,b,n,id,e,rfl,⟨o,f,p⟩,q⟩:=h;exact ⟨k,b,n,id,e,rfl,⟨o.mono i,fun he=>⟨(f he).1.mono a hm,j _ (f he).2⟩,p⟩,q⟩
theorem oX.whole (h:oX w gz gd g r rm fe hi sv room A D):Hp w (dR g r rm sv room A D).foot w [dR g r rm sv room A D] (dM gz gd g fe hi rm):=
 Hp.rN (M:=dM gz gd g fe hi rm) h.ok (fun x ⟨q,a,b⟩=>h.ok.2.1 q a x b) h.head h.lt h.dis
end
theorem KI:enters prog 181=true:=by kernel_rfl
theorem On {w:World}{gz gd g r rm fe hi:Nat}{sv:Value}{room:Int}{A:Ar}{D:List (I2 × Int)}{U:Nat→Bool}{m:Int}{c:Nat}{X:Int→Prop}(a0 a b0 b:Int)(hit:oX w gz gd g r rm fe hi sv room A D)(f:∀ d,oX d gz gd g r rm fe hi sv room A D→bw prog 184 [(ah gd),.int .i64 a,.int .i64 b] d (iY d g r rm U room sv A D m c X)) :
  bw prog 181 [(ah gd),k2 a0 a,k2 b0 b] w (iY w g r rm U room sv A D m c X):=by
 refine ar (N:=16) func181 KI rfl rfl rfl (by simp) ?_;have H:=hit.whole;refine H.box 247 (k2 a0 a) (cs:=nj a0 a) rfl ?_;clear H;intro g1 d H;refine H.box 247 (k2 b0 b) (cs:=nj b0 b) rfl ?_;clear H;intro g2 n H;refine aK underlying247 bc 1 rfl (by omega) (o':=1) rfl ?_;refine H.load 1 rfl aF rfl ?_;refine aK underlying247 bc 1 rfl (by omega) (o':=1) rfl ?_;refine H.load 0 rfl aF rfl ?_;replace H:=H.front 2 rfl;refine aj (f _ (qt H)) ?_;rintro _ o ⟨i,h,j,id,e,rfl,k,l⟩;exact ⟨i,h,j,id,e,rfl,k,(H.b9 0 rfl l).bg⟩
theorem Fv {a b:Nat}(h:a+1≤b):(2^a - 1)+(2^a - 1)+1≤2^b - 1:=by
 have c:=Nat.pow_le_pow_right (show 0<2 by decide) h;have:=Nat.one_le_two_pow (n:=a);rw[Nat.pow_succ] at c;omega
theorem qv {a b:Nat}(h:a≤b):2^a - 1≤2^b - 1:=by
 have c:=Nat.pow_le_pow_right (show 0<2 by decide) h;omega
theorem Fw {U:Nat→Bool}{room:Int}{A:Ar}(h:si U room A){f p:Int}(j:0≤aR A f)(e:0≤aR A p)(b:f≠0∧p≠0∧f≠p) :
  min (aR A f) (aR A p)<24∧U (min (aR A f) (aR A p)).toNat=true:=by
 by_cases g:f=1
 ·have a:=nT h e b.2.1 (by omega);have c:=ke (A:=A) (.inr g);rw[show min (aR A f) (aR A p)=aR A p by omega];exact a
 ·have a:=nT h j b.1 g;by_cases c:p=1
  ·have i:=ke (A:=A) (.inr c);rw[show min (aR A f) (aR A p)=aR A f by omega];exact a
  ·have i:=nT h e b.2.1 c;rcases Int.le_total (aR A f) (aR A p) with d | d
   ·rw[Int.min_eq_left d];exact a
   ·rw[Int.min_eq_right d];exact i
theorem pD {gz gd g r rm fe:Nat}{room:Int}{U:Nat→Bool}{E:Int→Int→Int × Bool}(u:HA fe E)(x:∀ f p,(E f p).2=true→(E f p).1=f∨(E f p).1=p∨(E f p).1=0)(y:∀ f p,(E f p).2=false→f≠0∧p≠0∧f≠p):∀ (k:Nat) (f p l:Int) (A:Ar) (D:List (I2 × Int)) (sv:Value) (w:World),si U room A→eQ A D→0≤aR A f→0≤aR A p→min (aR A f) (aR A p)=l→24<l+k→
  oX w gz gd g r rm fe 181 sv room A D→bw prog 184 [(ah gd),.int .i64 f,.int .i64 p] w (iY w g r rm U room sv A D l (2^jY U l - 1) fun _=>True)
 | 0,f,p,l,A,D,sv,w,hA,hD,hf,hp,hl,hk,hit=>by
  have:=pW hA.ok.inv f;omega
 | k+1,f,p,l,A,D,sv,w,hA,hD,hf,hp,hl,hk,hit=>by
  have z:=pD (gz:=gz) (gd:=gd) (g:=g) (r:=r) (rm:=rm) (room:=room) (U:=U) u x y k;have a:0≤l:=by omega
  have j:l≤24:=by have:=pW hA.ok.inv f;omega
  have b:(E f p).2=false→l<24∧U l.toNat=true:=fun b=>hl ▸ Fw hA hf hp (y f p b);refine (rk (cl:=2^jY U (l+1) - 1) (ch:=2^jY U (l+1) - 1) (hi:=181) hA hD hf hp hl hit (fun w=>u f p w) (fun b=>⟨?_,trivial⟩) (fun _ _=>trivial) b (fun e i B c=>?_) (fun e C F i B o hm c=>?_)).mono fun v w' h=>h.mono a (Int.le_refl l) ?_ fun _ h=>h
  ·rcases x f p b with h | h | h <;> rw[h]
   ·exact ⟨a,by omega⟩
   ·exact ⟨a,by omega⟩
   ·exact At.end (.inl rfl) a j
  ·have d:=(b e).1;have q:=(fL hA.ok.inv a d (show l≤aR A f by omega)).1;have b:=(fL hA.ok.inv a d (show l≤aR A p by omega)).1;have s:=q.2;have t:=b.2;refine (z _ _ _ A D i B hA hD (by omega) (by omega) rfl (by omega) c).mono fun v w' h=>h.mono (by omega) (by omega) (qv (kU U (by omega))) fun _ h=>h
  ·have d:=(b e).1;have q:=((fL hA.ok.inv a d (show l≤aR A f by omega)).2).ext o.ext;have b:=((fL hA.ok.inv a d (show l≤aR A p by omega)).2).ext o.ext;have s:=q.2;have t:=b.2;refine On _ _ _ _ c fun G n=>?_;refine (z _ _ _ C F i G o.arn hm (by omega) (by omega) rfl (by omega) n).mono fun v w' h=>h.mono (by omega) (by omega) (qv (kU U (by omega))) fun _ h=>h
  ·cases hbb:(E f p).2 with
   | true=>exact Nat.zero_le _
   | false=>
    obtain ⟨J,I⟩:=b hbb;have:=tU U (l:=l.toNat) (by omega) I (m:=l+1) (by omega);rw[Int.toNat_of_nonneg a] at this;exact Fv this
theorem pE {xo yo:Operand}{w:World}{kk:Value→World→Prop}{g:Nat}(h:kk (.bool false) w):cW prog .eql 165 xo yo (ah g) (.pointer none) w kk:=
 wc (fun w=>by kernel_rfl) h
structure Dp (w:World) (gz g r:Nat) (sv:Value) (room:Int) (A:Ar):Prop where
 z:(an gz 205 #[(ah g)]).ok w
 ok:(bI g r sv room A).ok w
 dis:¬ (bI g r sv room A).foot gz
section
variable {w0 w:World} {F:Nat→Prop} {L M:List cH} {gz gd g r rm fe hi:Nat} {sv:Value} {room:Int} {A:Ar} {D:List (I2 × Int)} {U:Nat→Bool} {l m:Int} {c d:Nat}
theorem Dp.start (h:Dp w gz g r sv room A):Hp w (bI g r sv room A).foot w [bI g r sv room A] [an gz 205 #[(ah g)]]:=
 Hp.rN (M:=[an gz 205 #[(ah g)]]) h.ok (fun x a=>q5 h.ok x a) (by intro s hs;rw[List.mem_singleton] at hs;subst hs;exact h.z)
  (by intro s hs x a;rw[List.mem_singleton] at hs;subst hs;have a:x=gz:=a;subst a;exact jj h.z)
  (by intro s hs x a b;rw[List.mem_singleton] at hs;subst hs;have a:x=gz:=a;subst a;exact h.dis b)
theorem j3 (H:Hp w0 F w (bI g r sv room A::L) (an gz 205 #[(ah g)]::M)):Dp w gz g r sv room A:=
 ⟨H.ro 0 rfl,H.get 0 rfl,fun h=>H.rdis _ (.head _) _ (.head _) gz rfl h⟩
def B5 (w:World)(g r:Nat)(U:Nat→Bool)(room:Int)(sv:Value)(A:Ar)(l:Int)(c:Nat)(X:Int→Prop)(v:Value)(w':World):Prop:=
 ∃ a b id e,v=.tuple #[.int .i64 id,.int .i64 e]∧(oW U room A a c e∧(e=0→At a l id∧X id))∧jS w w' (bI g r sv room A) (bI g r b room a)
end
theorem KJ:enters prog 201=true:=by kernel_rfl
theorem c201 {w:World}{gz g r:Nat}{sv:Value}{room:Int}{A:Ar}(ids:List Int)(hid:∀ id ∈ ids,0≤aR A id∧id<9223372036854775808)(B:Option Addr)(c:Nat)(n:ids.length≤1000000)(e:(an gz 205 #[(ah g)]).ok w)(h:(bI g r sv room A).ok w)(hs:Sl w (.slice B ids.length c) 1 ids.length (aA ids)) :
  bw prog 201 [(ah gz),.slice B ids.length c] w fun v w'=>v=.bool true∧aT w w':=by
 refine ar (N:=20) func201 KJ rfl rfl rfl (by simp) ?_;have H:=Hp.aC w;refine aw (fun w'=>Hp w ab w' [] []) ⟨(),trivial,H⟩ ?_;clear H;rintro ⟨⟩ u o H;refine aw (fun w'=>Hp w ab w' [] []) ?_ ?_
 ·refine pE ?_;refine af rfl ?_;exact ⟨(),trivial,H⟩
 clear H;rintro ⟨⟩ u p H;refine aw (fun w'=>Hp w ab w' [] []) ?_ ?_
 ·refine ay underlying75 ?_;refine ax (γ:=Nat) (fun i=>[(11,.int .i64 (i:Int))]) (fun i w'=>i≤ids.length∧Hp w ab w' [] []) (fun i=>ids.length - i) 0 ⟨rfl,trivial⟩ ⟨Nat.zero_le _,H⟩ ?_;clear H;rintro i u f ⟨hi,H⟩;refine au (fun j=>?_) (fun j=>?_)
  ·have a:i<ids.length:=by omega
   obtain ⟨q,k,rfl⟩:=hs.A (by omega);obtain ⟨l,b⟩:=hid _ (List.getElem_mem a);refine ao underlying75 bc i rfl a (o':=k+i) (by omega) ?_;refine aB aF (((hs.same H.keeps).cell i (by omega)).trans (by unfold aA;rw[List.getElem?_map,List.getElem?_eq_getElem a];rfl)) ?_;refine aj (c203 ids[i] b _ ((an gz 205 _).bQ _ _ (fun g d=>by have d:g=gz:=d;subst d;exact H.keeps.old g (jj e) id) e) (iO h H.keeps)) ?_;rintro _ s ⟨rfl,m⟩;replace H:=H.same m;refine af (decide_eq_false (by omega)) ?_;exact ⟨i+1,by show ids.length - (i+1)<ids.length - i;omega,⟨up (by omega),trivial⟩,by show i+1≤ids.length;omega,H⟩
  ·exact ⟨(),trivial,H⟩
 clear H;rintro ⟨⟩ u f H;exact ⟨rfl,H.keeps⟩
theorem Fx {gz rm fe hi:Nat}{w:World}{kk:Value→World→Prop}(h:kk (.agg #[(ah gz),pC fe,pC hi,.map (some rm)]) w) :
  b8 prog 251 [(0,(ah gz)),(1,pC fe),(2,pC hi),(3,.map (some rm))] w kk:=bt (fun w=>by kernel_rfl) h
theorem tW {gd n:Nat}{w:World}{kk:Value→World→Prop}(h:kk (.func (.func n) #[(ah gd)] #[]) w):cw prog (.func n) [(ah gd)] [] w kk:=by
 unfold cw;exact ⟨_,w,by kernel_rfl,h⟩
theorem KK:enters prog 202=true:=by kernel_rfl
theorem Oo (gz fe hi:Nat)(w:World):bw prog 202 [(ah gz),pC fe,pC hi] w fun v w'=>∃ gd rm,v=.func (.func 184) #[(ah gd)] #[]∧
  eE w w' (sa [aP pB qJ rm [],an gd 251 #[(ah gz),pC fe,pC hi,.map (some rm)]]):=by
 refine ar (N:=16) func202 KK rfl rfl rfl (by simp) ?_;have H:=Hp.aC w;refine H.makeMap pB qJ ?_;clear H;intro rm a H;refine Fx ?_;refine H.box 251 _ (cs:=#[(ah gz),pC fe,pC hi,.map (some rm)]) rfl ?_;clear H;intro gd b H;refine tW ?_;exact ⟨gd,rm,rfl,(Hp.join (Ls:=[aP pB qJ rm [],an gd 251 #[(ah gz),pC fe,pC hi,.map (some rm)]]) (L:=[]) (H.front 1 rfl)).out⟩
theorem AN {P:Program}{n:FuncId}{first args:List Value}{w:World}{k post:Value→World→Prop}(a:bw P n (first++args) w post)(h:∀ v w',post v w'→k v w'):jL P (.func (.func n) first.toArray #[]) args w k:=by
 unfold jL;simp only[List.append_nil];exact a.mono h
theorem KM:enters prog 179=true:=by kernel_rfl
theorem HB {w:World}{gz g r fe hi:Nat}{sv:Value}{room:Int}{A:Ar}{U:Nat→Bool}{f p l:Int}{c:Nat}{X:Int→Prop}(h:si U room A)(i:0≤aR A f)(j:0≤aR A p)(k:Dp w gz g r sv room A)(b:∀ gd rm a,oX a gz gd g r rm fe hi sv room A []→bw prog 184 [(ah gd),.int .i64 f,.int .i64 p] a (iY a g r rm U room sv A [] l c X)) :
  bw prog 179 [(ah gz),.int .i64 f,.int .i64 p,pC fe,pC hi] w (B5 w g r U room sv A l c X):=by
 have m:=h_ h.ok ⟨Int.le_refl 0,i⟩;have o:=h_ h.ok ⟨Int.le_refl 0,j⟩;refine ar (N:=27) func179 KM rfl rfl rfl (by simp) ?_;have H:=k.start;refine aw (fun w'=>Hp w (bI g r sv room A).foot w' [bI g r sv room A] [an gz 205 #[(ah g)]]) ⟨(),trivial,H⟩ ?_;clear H;rintro ⟨⟩ u a H;refine aw (fun w'=>Hp w (bI g r sv room A).foot w' [bI g r sv room A] [an gz 205 #[(ah g)]]) ?_ ?_
 ·refine H.bf dH (n:=2) (cs:=#[.int .i64 f,.int .i64 p]) (by decide) (by decide) (by kernel_rfl) ?_;clear H;intro gs q H;replace H:=H.py (l:=2) (sz:=1) rfl (by decide);refine aj (c201 [f,p] (by intro id hid;simp at hid;rcases hid with rfl | rfl <;> exact ⟨by assumption,by omega⟩) _ _ (by simp) (H.ro 0 rfl) (H.get 1 rfl) (bB (H.get 0 rfl))) ?_;rintro _ t ⟨rfl,v⟩;replace H:=(H.same v).forget;refine af rfl ?_;exact ⟨(),trivial,H⟩
 clear H;rintro ⟨⟩ u D H;refine aj (Oo gz fe hi _) ?_;rintro _ q ⟨gd,rm,rfl,x⟩;replace H:=(H.bq x).split;replace H:=((((H.front 1 rfl).freeze).front 1 rfl).ey (M':=dM gz gd g fe hi rm) (by intro s hs;simp[dM] at hs ⊢;rcases hs with rfl | rfl <;> simp));replace H:=iX H;refine AN (first:=[(ah gd)]) (b gd rm _ (qt H)) ?_;rintro _ t ⟨y,d,E,id,e,rfl,⟨z,B,_⟩,C⟩;exact ⟨y,d,id,e,rfl,⟨z,B⟩,((H.b9 0 rfl C).split).bg⟩
theorem Dq (f p:Int)(h:(qu f p).2=true):(qu f p).1=f∨(qu f p).1=p∨(qu f p).1=0:=by
 unfold qu at h ⊢;split
 ·exact .inr (.inl rfl)
 ·exact .inl rfl
theorem Dr (f p:Int)(h:(qu f p).2=false):f≠0∧p≠0∧f≠p:=by
 unfold qu at h;split at h
 ·cases h
 ·rw[beq_eq_false_iff_ne] at h;omega
theorem Ds (f p:Int)(h:(xf f p).2=true):(xf f p).1=f∨(xf f p).1=p∨(xf f p).1=0:=by
 unfold xf at h ⊢;split
 ·exact .inr (.inr rfl)
 ·exact .inl rfl
theorem Dt (f p:Int)(h:(xf f p).2=false):f≠0∧p≠0∧f≠p:=by
 unfold xf at h;split at h
 ·cases h
 ·rw[beq_eq_false_iff_ne] at h;omega
theorem KN:enters prog 150=true:=by kernel_rfl
theorem KO {w:World}{gz g r:Nat}{sv:Value}{room:Int}{A:Ar}{U:Nat→Bool}{f p l:Int}(d:si U room A)(a:0≤l)(t:l≤aR A f)(u:l≤aR A p)(q:Dp w gz g r sv room A) :
  bw prog 150 [(ah gz),.int .i64 f,.int .i64 p] w (B5 w g r U room sv A l (if f=0∨p=0 then 0 else 2^jY U l - 1) fun id=>(f=0∨p=0)→id=if f=0 then p else f):=by
 refine ar (N:=14) func150 KN rfl rfl rfl (by simp) ?_;have x:=h_ d.ok ⟨a,t⟩;have y:=h_ d.ok ⟨a,u⟩;by_cases j:f=0∨p=0
 ·rw[if_pos j];have k:qu f p=(if f=0 then p else f,true):=by
   unfold qu;rcases j with rfl | rfl
   ·simp
   ·by_cases h:f=0
    ·subst h;simp
    ·rw[if_neg (by omega),if_neg h];rfl
  have i:(qu f p).2=true:=by rw[k]
  refine aj (HB (l:=l) (c:=0) (fe:=186) (hi:=181) (U:=U) (X:=fun id=>(f=0∨p=0)→id=if f=0 then p else f) d (by omega) (by omega) q fun gd rm s hit=>?_) (fun v w' h=>by
   obtain ⟨m,b,id,e,rfl,n,o⟩:=h;exact ⟨m,b,id,e,rfl,n,o⟩)
  refine (rk (cl:=0) (ch:=0) (id0:=(qu f p).1) (b0:=(qu f p).2) d (eQ.nil A) (by omega) (by omega) rfl hit (fun w=>MA f p w) (fun _=>⟨?_,fun _=>by rw[k]⟩) (fun h=>by rw[i] at h;cases h) (fun h=>by rw[i] at h;cases h) (fun h=>by rw[i] at h;cases h) (fun h=>by rw[i] at h;cases h)).mono fun v w' h=>h.mono a (by omega) (by rw[i];exact Nat.le_refl 0) fun _ h=>h;refine ⟨by omega,?_⟩;rw[k];show min (aR A f) (aR A p)≤aR A (if f=0 then p else f);split <;> omega
 ·rw[if_neg j];refine aj (HB (l:=l) (c:=2^jY U l - 1) (fe:=186) (hi:=181) (U:=U) (X:=fun id=>(f=0∨p=0)→id=if f=0 then p else f) d (by omega) (by omega) q fun gd rm s hit=>?_) (fun v w' h=>by
   obtain ⟨m,b,id,e,rfl,n,o⟩:=h;exact ⟨m,b,id,e,rfl,n,o⟩)
  exact (pD MA Dq Dr 25 f p _ A [] sv s d (eQ.nil A) (by omega) (by omega) rfl (by omega) hit).mono fun v w' h=>h.mono a (by omega) (qv (kU U (by omega))) fun _ _ h=>absurd h j
theorem KP:enters prog 147=true:=by kernel_rfl
theorem MB {w:World}{gz g r:Nat}{sv:Value}{room:Int}{A:Ar}{U:Nat→Bool}{f p l:Int}(d:si U room A)(a:0≤l)(o:l≤aR A f)(q:l≤aR A p)(i:Dp w gz g r sv room A) :
  bw prog 147 [(ah gz),.int .i64 f,.int .i64 p] w (B5 w g r U room sv A l (2^jY U l - 1) fun _=>True):=by
 refine ar (N:=14) func147 KP rfl rfl rfl (by simp) ?_;refine aj (HB (l:=l) (c:=2^jY U l - 1) (fe:=180) (hi:=181) (U:=U) (X:=fun _=>True) d (by omega) (by omega) i fun gd rm j hit=>?_) (fun v w' h=>by
  obtain ⟨k,b,id,e,rfl,m,n⟩:=h;exact ⟨k,b,id,e,rfl,m,n⟩)
 exact (pD Om Ds Dt 25 f p _ A [] sv j d (eQ.nil A) (by omega) (by omega) rfl (by omega) hit).mono fun v w' h=>h.mono a (by omega) (qv (kU U (by omega))) fun _ h=>h
def k6 (a b c d e f:Int):Value:=.agg #[.int .i64 a,.int .i64 b,.int .i64 c,.int .i64 d,.int .i64 e,.int .i64 f]
theorem Fy {a b c d e f:Int}{w:World}{kk:Value→World→Prop}(h:kk (k6 a b c d e f) w):b8 prog 248 [(0,k2 a b),(1,k2 c d),(2,k2 e f)] w kk:=bt (fun w=>by kernel_rfl) h
def zv (a0 a b0 b:Int)(i:Nat):Int × Int:=if i=0 then (a,b0) else if i=1 then (a0,b) else (a,b)
theorem KQ {a0 a b0 b:Int}{i:Nat}(hi:i<3){w:World}{kk:Value→World→Prop}(h:kk (k2 (zv a0 a b0 b i).1 (zv a0 a b0 b i).2) w):sL prog 248 (k6 a b0 a0 b a b) (.int .i64 (i:Int)) w kk:=by
 unfold sL;refine ⟨_,w,?_,h⟩;rcases (by omega:i=0∨i=1∨i=2) with rfl | rfl | rfl <;> kernel_rfl
def IP (z:Nat→Bool):Nat→Bool
 | 0=>true
 | i+1=>IP z i&&z i
def zw (z:Nat→Bool)(c:Nat→Nat)(u:Nat):Nat→Nat
 | 0=>0
 | i+1=>zw z c u i+c i+if IP z i||z i then 0 else u
theorem Fz (z:Nat→Bool)(c:Nat→Nat)(u:Nat){i j:Nat}(h:i≤j):zw z c u i≤zw z c u j:=by
 induction h with
 | refl=>exact Nat.le_refl _
 | step _ ih=>exact Nat.le_trans ih (by show _≤zw z c u _+_+_;omega)
theorem Oq (z:Nat→Bool)(c:Nat→Nat)(u:Nat):zw z c u 3≤c 0+c 1+c 2+(if z 0||z 1 then 0 else u)+(if z 0&&z 1||z 2 then 0 else u):=by
 simp only[zw,IP,Bool.true_or,Bool.true_and,if_true];omega
theorem KR:enters prog 183=true:=by kernel_rfl
set_option maxHeartbeats 4000000 in
theorem c183 {w:World}{gz gd g r rm fe hi:Nat}{sv:Value}{room:Int}{A:Ar}{D:List (I2 × Int)}{U:Nat→Bool}{m:Int}{c:Nat→Nat}{z:Nat→Bool}(a0 B b0 C:Int)(hA:si U room A)(hD:eQ A D)(M:0≤m)(hm:m≤24)(hit:oX w gz gd g r rm fe hi sv room A D)(hdo:∀ i,i<3→∀ b d a O,Ext A b→si U room b→eQ b d→oX O gz gd g r rm fe hi a room b d→bw prog 184 [(ah gd),.int .i64 (zv a0 B b0 C i).1,.int .i64 (zv a0 B b0 C i).2] O (iY O g r rm U room a b d m (c i) fun id=>z i=true→id=0)) :
  bw prog 183 [(ah gd),k2 a0 B,k2 b0 C] w (iY w g r rm U room sv A D m (zw z c (2^jY U m - 1) 3) fun _=>True):=by
 refine ar (N:=58) func183 KR rfl rfl rfl (by simp) ?_;have H:=hit.whole;refine ak (γ:=Nat × Nat) (fun (g4,g5)=>[(4,(ah g4)),(5,(ah g5))]) (fun (g4,g5) w'=>Hp w (dR g r rm sv room A D).foot w' [an g4 247 (nj a0 B),an g5 247 (nj b0 C),dR g r rm sv room A D] (dM gz gd g fe hi rm)) ?_ ?_
 ·refine H.box 247 (k2 a0 B) (cs:=nj a0 B) rfl ?_;clear H;intro g1 O H;refine H.box 247 (k2 b0 C) (cs:=nj b0 C) rfl ?_;clear H;intro g2 w2 H;exact ⟨(g1,g2),⟨rfl,rfl,trivial⟩,H.front 1 rfl⟩
 clear H;rintro ⟨g4,g5⟩ u O H;refine ak (γ:=Unit) (fun _=>[(8,.int .i64 0)]) (fun _ w'=>Hp w (dR g r rm sv room A D).foot w' [an g4 247 (nj a0 B),an g5 247 (nj b0 C),dR g r rm sv room A D] (dM gz gd g fe hi rm)) ⟨(),⟨rfl,trivial⟩,H⟩ ?_;clear H;rintro ⟨⟩ u w2 H;refine ak (γ:=Int × Ar × Value × List (I2 × Int)) (fun (out,_)=>[(8,.int .i64 out)]) (fun (out,b,a,d) w'=>(oW U room A b (zw z c (2^jY U m - 1) 3) 0∧At b m out∧eQ b d)∧Hp w (dR g r rm sv room A D).foot w' [bI g r a room b,aP pB qJ rm d] (dM gz gd g fe hi rm)) ?_ ?_
 ·refine aK underlying247 bc 1 rfl (by omega) (o':=1) rfl ?_;refine H.load 0 rfl aF rfl ?_;refine aK underlying247 bc 0 rfl (by omega) (o':=0) rfl ?_;refine H.load 1 rfl aF rfl ?_;refine mo ?_;refine aK underlying247 bc 0 rfl (by omega) (o':=0) rfl ?_;refine H.load 0 rfl aF rfl ?_;refine aK underlying247 bc 1 rfl (by omega) (o':=1) rfl ?_;refine H.load 1 rfl aF rfl ?_;refine mo ?_;refine aK underlying247 bc 1 rfl (by omega) (o':=1) rfl ?_;refine H.load 0 rfl aF rfl ?_;refine aK underlying247 bc 1 rfl (by omega) (o':=1) rfl ?_;refine H.load 1 rfl aF rfl ?_;refine mo ?_;refine Fy ?_;replace H:=H.forget.forget.split;refine ax (γ:=Nat × Int × Ar × Value × List (I2 × Int)) (fun (i,out,_)=>[(29,.int .i64 (i:Int)),(8,.int .i64 out)]) (fun (i,out,b,a,d) w'=>(i≤3∧oW U room A b (zw z c (2^jY U m - 1) i) 0∧At b m out∧eQ b d∧(IP z i=true→out=0))∧Hp w (dR g r rm sv room A D).foot w' [bI g r a room b,aP pB qJ rm d] (dM gz gd g fe hi rm)) (fun (i,_)=>3 - i) (0,0,A,sv,D) ⟨rfl,rfl,trivial⟩ ⟨⟨by decide,oW.refl hA _,At.end (.inl rfl) M hm,hD,fun _=>rfl⟩,H⟩ ?_;clear H;rintro ⟨i,out,b,a,d⟩ u w3 ⟨⟨hi3,o,n,E,Q⟩,H⟩;refine au (fun h7=>?_) (fun h7=>?_)
  ·have S:i<3:=by omega
   refine ak (γ:=Int × Ar × Value × List (I2 × Int)) (fun (out,_)=>[(8,.int .i64 out)]) (fun (out,b,a,d) w'=>(oW U room A b (zw z c (2^jY U m - 1) (i+1)) 0∧At b m out∧eQ b d∧(IP z (i+1)=true→out=0))∧Hp w (dR g r rm sv room A D).foot w' [bI g r a room b,aP pB qJ rm d] (dM gz gd g fe hi rm)) ?_ ?_
   ·refine ak (γ:=Nat) (fun g10=>[(10,(ah g10))]) (fun g10 w'=>Hp w (dR g r rm sv room A D).foot w' [an g10 247 (nj (zv a0 B b0 C i).1 (zv a0 B b0 C i).2),bI g r a room b,aP pB qJ rm d] (dM gz gd g fe hi rm)) ?_ ?_
    ·refine KQ S ?_;refine H.alloc 247 (cs:=nj 0 0) xd rfl ?_;clear H;intro g10 w4 H;refine H.storeAll 0 rfl xc rfl (by intro v hv;simp[nj] at hv;rcases hv with rfl | rfl <;> rfl) ?_;clear H;intro w5 H;exact ⟨g10,⟨rfl,trivial⟩,H⟩
    clear H;rintro g10 u w4 H;refine ak (γ:=Int × Int × Ar × Value × List (I2 × Int)) (fun (id,e,_)=>[(11,.int .i64 id),(12,.int .i64 e)]) (fun (id,e,F,q,t) w'=>(oW U room b F (c i) e∧(e=0→At F m id∧(z i=true→id=0))∧eQ F t)∧Hp w (dR g r rm sv room A D).foot w' [bI g r q room F,aP pB qJ rm t] (dM gz gd g fe hi rm)) ?_ ?_
    ·refine aK underlying247 bc 0 rfl (by omega) (o':=0) rfl ?_;refine H.load 0 rfl aF rfl ?_;refine aK underlying247 bc 1 rfl (by omega) (o':=1) rfl ?_;refine H.load 0 rfl aF rfl ?_;refine aj (hdo i S b d a _ o.ext o.arn E (qt (iX H.forget))) ?_;rintro _ w5 ⟨F,q,t,id,e,rfl,hd,ht⟩;exact ⟨(id,e,F,q,t),⟨rfl,rfl,trivial⟩,hd,((iX H.forget).b9 0 rfl ht).split⟩
    clear H;rintro ⟨id,e,F,q,t⟩ u w5 ⟨⟨J,hid,T⟩,H⟩;have G:=o.trans J;have K:=n.ext J.ext;have hcs:zw z c (2^jY U m - 1) i+c i≤zw z c (2^jY U m - 1) (i+1):=by show _≤zw z c _ i+c i+_;omega
    have V:=Fz z c (2^jY U m - 1) (show i+1≤3 by omega);by_cases he:e=0
    ·subst he;obtain ⟨hid,I⟩:=hid rfl;refine ak (γ:=Int × Int × Ar × Value) (fun (id,e,_)=>[(8,.int .i64 id),(12,.int .i64 e)]) (fun (s,e,x,j) w'=>(oW U room A x (zw z c (2^jY U m - 1) (i+1)) e∧(e=0→At x m s∧(IP z (i+1)=true→s=0))∧eQ x t)∧Hp w (dR g r rm sv room A D).foot w' [bI g r j room x,aP pB qJ rm t] (dM gz gd g fe hi rm)) ?_ ?_
     ·refine ag rfl ?_;refine aa (oJ _) ?_;refine aB iW ((aQ (H.ro 1 rfl) 0).trans rfl) ?_;refine aj (KO (U:=U) (l:=m) (f:=out) (p:=id) J.arn M K.2 hid.2 (j3 H)) ?_;rintro _ w6 ⟨x,j,s,e,rfl,⟨y,k⟩,ht⟩;refine ⟨(s,e,x,j),⟨rfl,rfl,trivial⟩,⟨(G.trans y).mono ?_,fun h=>⟨(k h).1,fun X=>?_⟩,T.ext y.ext⟩,H.b9 0 rfl ht⟩
      ·show _≤zw z c _ i+c i+_;by_cases h0:out=0∨id=0
       ·rw[if_pos h0];omega
       ·rw[if_neg h0];have:(IP z i||z i)=false:=by
         rw[Bool.or_eq_false_iff];exact ⟨Bool.eq_false_iff.2 fun h=>h0 (.inl (Q h)),Bool.eq_false_iff.2 fun h=>h0 (.inr (I h))⟩
        rw[this];exact Nat.le_refl _
      ·have X:(IP z i&&z i)=true:=X;rw[Bool.and_eq_true] at X;have h1:=Q X.1;have h2:=I X.2;have:=(k h).2 (.inl h1);rw[if_pos h1,h2] at this;exact this
     clear H;rintro ⟨s,e,x,j⟩ u w6 ⟨⟨y,k,Y⟩,H⟩;refine df (fun he=>?_) (fun he=>?_)
     ·exact ⟨x,j,t,0,e,rfl,⟨y.mono V,fun h=>absurd h he,Y⟩,(iX H).bg⟩
     ·have he:e=0:=he;subst he;exact ⟨(s,x,j,t),⟨rfl,trivial⟩,⟨y,(k rfl).1,Y,(k rfl).2⟩,H⟩
    ·refine ak (γ:=Unit) (fun _=>[(8,.int .i64 out),(12,.int .i64 e)]) (fun _ w'=>Hp w (dR g r rm sv room A D).foot w' [bI g r q room F,aP pB qJ rm t] (dM gz gd g fe hi rm)) ?_ ?_
     ·refine af (beq_eq_false_iff_ne.2 he) ?_;exact ⟨(),⟨rfl,rfl,trivial⟩,H⟩
     clear H;rintro ⟨⟩ u w6 H;refine df (fun he=>?_) (fun he'=>absurd he' he);exact ⟨F,q,t,0,e,rfl,⟨G.mono (Nat.le_trans hcs V),fun h=>absurd h he,T⟩,(iX H).bg⟩
   clear H;rintro ⟨Z,x,j,D3⟩ u w4 ⟨hh,H⟩;exact ⟨(i+1,Z,x,j,D3),by show 3 - (i+1)<3 - i;omega,⟨up (by omega),rfl,trivial⟩,⟨by show i+1≤3;omega,hh⟩,H⟩
  ·have:i=3:=by omega
   subst this;exact ⟨(out,b,a,d),⟨rfl,trivial⟩,⟨o,n,E⟩,H⟩
 clear H;rintro ⟨out,b,a,d⟩ u w3 ⟨⟨o,n,E⟩,H⟩;exact ⟨b,a,d,out,0,rfl,⟨o,fun _=>⟨n,trivial⟩,E⟩,(iX H).bg⟩
inductive Sg (A:Ar):Int→Prop
 | one:Sg A 1
 | nd {i:Nat} {n:Nd} (hs:slot A i=some n) (h0:n.lo=0) (h1:Sg A n.hi):Sg A ((i:Int)+2)
theorem Sg.ext {A a:Ar}(b:Ext A a){p:Int}(h:Sg A p):Sg a p:=by
 induction h with
 | one=>exact .one
 | nd hs h0 _ ih=>exact .nd (b _ _ hs) h0 ih
def Jc:Nat→Nat
 | 0=>0
 | r+1=>2*Jc r+2^r
theorem xg {a b:Nat}(h:a≤b):Jc a≤Jc b:=by
 induction h with
 | refl=>exact Nat.le_refl _
 | step _ ih=>exact Nat.le_trans ih (Nat.le_trans (show _≤2*Jc _ by omega) (Nat.le_add_right _ _))
theorem HC {a b:Nat}(h:a+1≤b):Jc a+Jc a+(2^a - 1)+1≤Jc b:=by
 have c:=xg h;have d:=Nat.one_le_two_pow (n:=a);have e:Jc (a+1)=2*Jc a+2^a:=rfl;omega
def cJ (U:Nat→Bool)(l:Int)(x y:Int):Nat:=if x=0∨y=0∨x=1∨y=1 then 0 else Jc (jY U l)
theorem MC (U:Nat→Bool)(l:Int)(x y:Int):cJ U l x y≤Jc (jY U l):=by unfold cJ;split <;> omega
theorem vG (U:Nat→Bool)(l:Int)(x:Int):cJ U l x 0=0:=if_pos (.inr (.inl rfl))
theorem MD (U:Nat→Bool)(l:Int)(y:Int):cJ U l 0 y=0:=if_pos (.inl rfl)
theorem mU {A:Ar}{i:Nat}{n:Nd}(hs:slot A i=some n)(l:Int):bY A ((i:Int)+2) l=if (n.l:Int)=l then ((n.lo:Int),(n.hi:Int)) else ((i:Int)+2,0):=by
 unfold bY;rw[if_pos (by omega),show ((i:Int)+2 - 2).toNat=i by omega,hs]
def CJ (U:Nat→Bool)(A:Ar)(f p l:Int)(c:Nat):Prop:=(f=0∨p=0∨f=1∨p=1)∨(aR A p<aR A f∧(bY A p l).2=1∧1≤c)∨Jc (jY U l)≤c
theorem vH {gz gd g r rm:Nat}{room:Int}{U:Nat→Bool}:∀ (k:Nat) (f p l:Int) (A:Ar) (D:List (I2 × Int)) (sv:Value) (w:World) (c:Nat),si U room A→eQ A D→0≤aR A f→0≤aR A p→(p=0∨Sg A p)→min (aR A f) (aR A p)=l→24<l+k→
  CJ U A f p l c→oX w gz gd g r rm 182 183 sv room A D→bw prog 184 [(ah gd),.int .i64 f,.int .i64 p] w (iY w g r rm U room sv A D l c fun id=>(f=0∨p=0)→id=0)
 | 0,f,p,l,A,D,sv,w,c,hA,hD,hf,hp,hs,hl,hk,hc,hit=>by
  have:=pW hA.ok.inv f;omega
 | k+1,f,p,l,A,D,sv,w,c,hA,hD,hf,hp,hs,hl,hk,hc,hit=>by
  have e:0≤l:=by omega
  have Y:l≤24:=by have:=pW hA.ok.inv f;omega
  have IH:∀ (x y:Int) (F:Ar) (S:List (I2 × Int)) (s:Value) (J:World),si U room F→eQ F S→l+1≤aR F x→l+1≤aR F y→(y=0∨Sg F y)→oX J gz gd g r rm 182 183 s room F S→
    bw prog 184 [(ah gd),.int .i64 x,.int .i64 y] J (iY J g r rm U room s F S (l+1) (cJ U (l+1) x y) fun id=>(x=0∨y=0)→id=0):=by
   intro x y F S s J hA1 hm1 hx hy hsy o;refine (vH k x y _ F S s J (cJ U (l+1) x y) hA1 hm1 (by omega) (by omega) hsy rfl (by omega) ?_ o).mono fun v w' h=>h.mono (by omega) (by omega) (Nat.le_refl _) fun _ h=>h;unfold CJ cJ;by_cases h:x=0∨y=0∨x=1∨y=1
   ·exact .inl h
   ·rw[if_neg h];exact .inr (.inr (xg (kU U (by omega))))
  have z:(AM f p).2=false→f≠0∧f≠1∧p≠0∧p≠1:=fun z=>by
   unfold AM at z;split at z
   ·cases z
   ·split at z
    ·cases z
    ·rw[beq_eq_false_iff_ne] at z;omega
  have G:(AM f p).2=false→l<24∧U l.toNat=true:=fun h=>by
   obtain ⟨I,T,h2,h3⟩:=z h;have u1:=nT hA hf I T;have u2:=nT hA hp h2 h3;rw[← hl];rcases Int.le_total (aR A f) (aR A p) with Z | Z
   ·rw[Int.min_eq_left Z];exact u1
   ·rw[Int.min_eq_right Z];exact u2
  have a2:(bY A p l).1=0∨Sg A (bY A p l).1:=by
   rcases hs with rfl | hs
   ·exact .inl rfl
   ·cases hs with
    | one=>exact .inr .one
    | nd hs I T=>
     rw[mU hs];split
     ·exact .inl (by rw[I];rfl)
     ·exact .inr (.nd hs I T)
  have a3:(bY A p l).2=0∨Sg A (bY A p l).2:=by
   rcases hs with rfl | hs
   ·exact .inl rfl
   ·cases hs with
    | one=>exact .inl rfl
    | nd hs I T=>
     rw[mU hs];split
     ·exact .inr T
     ·exact .inl rfl
  refine (rk (cl:=cJ U (l+1) (bY A f l).1 (bY A p l).1) (ch:=zw (fun i=>decide ((zv (bY A f l).1 (bY A f l).2 (bY A p l).1 (bY A p l).2 i).1=0∨(zv (bY A f l).1 (bY A f l).2 (bY A p l).1 (bY A p l).2 i).2=0)) (fun i=>cJ U (l+1) (zv (bY A f l).1 (bY A f l).2 (bY A p l).1 (bY A p l).2 i).1 (zv (bY A f l).1 (bY A f l).2 (bY A p l).1 (bY A p l).2 i).2) (2^jY U (l+1) - 1) 3)
   (hi:=183) (X:=fun id=>(f=0∨p=0)→id=0) hA hD hf hp hl hit (fun w=>c182 f p w) (fun z=>?_) (fun B id h=>?_) G (fun B s J o=>?_) (fun B F S s J hd hm o=>?_)).mono fun v w' h=>h.mono e (Int.le_refl l) ?_ fun _ h=>h
  ·unfold AM at z ⊢;split
   ·exact ⟨At.end (.inl rfl) e Y,fun _=>rfl⟩
   ·rename_i I;split
    ·exact ⟨⟨e,by show l≤aR A p;omega⟩,fun h=>absurd h I⟩
    ·exact ⟨⟨e,by show l≤aR A f;omega⟩,fun h=>absurd h I⟩
  ·have:=z B;omega
  ·have C:=(G B).1;have V:=(fL hA.ok.inv e C (show l≤aR A f by omega)).1;have t:=(fL hA.ok.inv e C (show l≤aR A p by omega)).1;exact (IH _ _ A D s J hA hD V.2 t.2 a2 o).mono fun v w' h=>h.mono (by omega) (Int.le_refl _) (Nat.le_refl _) fun _ _=>trivial
  ·have C:=(G B).1;have V:=fL hA.ok.inv e C (show l≤aR A f by omega);have t:=fL hA.ok.inv e C (show l≤aR A p by omega);refine c183 _ _ _ _ hd.arn hm (by omega) (by omega) o fun i hi A2 D2 K w2 hx M N E=>?_;have b:=hd.ext.trans hx;have a0:=(V.1.ext b).2;have q:=(V.2.ext b).2;have b0:=(t.1.ext b).2;have b1:=(t.2.ext b).2;have s0:=a2.imp id (Sg.ext b);have s1:=a3.imp id (Sg.ext b);rcases (by omega:i=0∨i=1∨i=2) with rfl | rfl | rfl
   ·exact (IH _ _ A2 D2 K w2 M N q b0 s0 E).mono fun v w' h=>h.mono (by omega) (Int.le_refl _) (Nat.le_refl _) fun _ h hz=>h (of_decide_eq_true hz)
   ·exact (IH _ _ A2 D2 K w2 M N a0 b1 s1 E).mono fun v w' h=>h.mono (by omega) (Int.le_refl _) (Nat.le_refl _) fun _ h hz=>h (of_decide_eq_true hz)
   ·exact (IH _ _ A2 D2 K w2 M N q b1 s1 E).mono fun v w' h=>h.mono (by omega) (Int.le_refl _) (Nat.le_refl _) fun _ h hz=>h (of_decide_eq_true hz)
  ·cases t:(AM f p).2 with
   | true=>exact Nat.zero_le _
   | false=>
    obtain ⟨I,T,h2,h3⟩:=z t;obtain ⟨h4,Z⟩:=G t;have hrk:=tU U (l:=l.toNat) (by omega) Z (m:=l+1) (by omega);rw[Int.toNat_of_nonneg e] at hrk;have hj:=HC hrk;have hle:=fun x y=>MC U (l+1) x y;rcases hs with hs | hs
    ·exact absurd hs h2
    cases hs with
    | one=>exact absurd rfl h3
    | nd hs hlo hsgn=>
    rename_i i n;have hn:=jn hs;have hh:=mU hs l;rw[hlo] at hh;rw[hn] at hl;have u:((n.l:Int)<aR A f∧(bY A ((i:Int)+2) l).2=1∧1≤c)∨Jc (jY U l)≤c:=by
     rcases hc with h | ⟨h,h'⟩ | h
     ·omega
     ·rw[hn] at h;exact .inl ⟨h,h'⟩
     ·exact .inr h
    rw[if_neg (by decide)];refine Nat.le_trans (Nat.add_le_add_right (Nat.add_le_add_left (Oq _ _ _) _) 1) ?_;by_cases hnl:(n.l:Int)=l
    ·rw[if_pos hnl] at hh;rw[hh] at u ⊢;have O:∀ a0 q:Int,zv a0 q ((0:Nat):Int) n.hi 0=(q,0):=fun _ _=>rfl;have Q:∀ a0 q:Int,zv a0 q ((0:Nat):Int) n.hi 1=(a0,(n.hi:Int)):=fun _ _=>rfl;have b:∀ a0 q:Int,zv a0 q ((0:Nat):Int) n.hi 2=(q,(n.hi:Int)):=fun _ _=>rfl;simp only[O,Q,b];by_cases hlf:aR A f=l
     ·have u:Jc (jY U l)≤c:=u.elim (fun h=>by omega) id;have e1:=hle (bY A f l).1 n.hi;have e2:=hle (bY A f l).2 n.hi;have e3:=vG U (l+1) (bY A f l).1;have e4:=vG U (l+1) (bY A f l).2;rw[show (((0:Nat):Int))=0 from rfl,e3,e4];simp;split <;> omega
     ·have V:bY A f l=(f,0):=by
       rcases jo hf with rfl | rfl | ⟨j,d,rfl,hs',hd⟩
       ·rfl
       ·rfl
       ·rw[mU hs',if_neg (by omega)]
      rw[V];have e3:=vG U (l+1) f;have e4:=vG U (l+1) 0;have e5:=MD U (l+1) n.hi;rw[show (((0:Nat):Int))=0 from rfl];simp only;rw[e3,e4,e5];rcases u with ⟨h6,h7,h8⟩ | h6
      ·have h7:(n.hi:Int)=1:=h7;rw[h7,show cJ U (l+1) f 1=0 from if_pos (.inr (.inr (.inr rfl)))];simp;exact h8
      ·have e1:=hle f n.hi;simp;omega
    ·rw[if_neg hnl] at hh;have u:Jc (jY U l)≤c:=u.elim (fun h=>by omega) id;rw[hh];generalize bY A f l=a;obtain ⟨a0,q⟩:=a;have O:zv a0 q ((i:Int)+2) 0 0=(q,(i:Int)+2):=rfl;have Q:zv a0 q ((i:Int)+2) 0 1=(a0,0):=rfl;have b:zv a0 q ((i:Int)+2) 0 2=(q,0):=rfl;simp only[O,Q,b];have e1:=hle a0 ((i:Int)+2);have e2:=hle q ((i:Int)+2);rw[vG,vG];simp;omega
theorem HD {room:Int}{A:Ar}{l lo hi:Nat}(b:(l:Int)<aR A lo)(c:(l:Int)<aR A hi)(he:(we room A l lo hi).2.2=0):∃ i:Nat,(we room A l lo hi).2.1=(i:Int)+2∧slot (we room A l lo hi).1 i=some ⟨l,lo,hi⟩:=by
 unfold we at he ⊢;rw[if_neg (by omega)] at he ⊢;simp only[Int.toNat_natCast] at he ⊢
 cases hf:iJ A ⟨l,lo,hi⟩ with
 | some i=>exact ⟨i,by show ((i+2:Nat):Int)=_;omega,kK hf⟩
 | none=>
  rw[hf] at he;simp only at he ⊢;by_cases a:room≤(lp A:Int)
  ·rw[if_pos a] at he;cases he
  ·rw[if_neg a];exact ⟨bT A,by show ((bT A+2:Nat):Int)=_;omega,by show slot (jd A _) _=_;rw[fE,if_pos rfl]⟩
structure DN (A:Ar) (m lv:Nat) (id:Int):Prop where
 sg:Sg A id
 lvl:(lv:Int)≤aR A id
 item:∀ k,lv≤k→(∀ j,lv≤j→j<24→m.testBit j=decide (j=k))→k<24→aR A id=(k:Int)∧(bY A id k).2=1
 none:(∀ j,lv≤j→j<24→m.testBit j=false)→id=1
theorem DN.down {A:Ar}{m a:Nat}{id:Int}(h:DN A m (a+1) id)(f:m.testBit a=false)(d:a<24):DN A m a id:=
 ⟨h.sg,by have:=h.lvl;omega,fun k g c b=>h.item k (by
  rcases Nat.eq_or_lt_of_le g with rfl | h
  ·have:=c a (Nat.le_refl _) d;rw[f] at this;simp at this
  ·exact h) (fun j e=>c j (by omega)) b,fun c=>h.none fun j e=>c j (by omega)⟩
theorem DN.up {A c:Ar}{m a i:Nat}{hi:Int}(h:DN A m (a+1) hi)(p:Ext A c)(f:m.testBit a=true)(hs:slot c i=some ⟨a,0,hi.toNat⟩)(b:a<24)(q:0≤hi):DN c m a ((i:Int)+2):=by
 have n:=jn hs;have e:((hi.toNat:Nat):Int)=hi:=Int.toNat_of_nonneg q;refine ⟨.nd hs rfl (by show Sg c ((hi.toNat:Nat):Int);rw[e];exact h.sg.ext p),by rw[n];exact Int.le_refl _,fun k s d o=>?_,fun d=>by rw[d a (Nat.le_refl _) b] at f;cases f⟩;have g:a=k:=by
  have:=d a (Nat.le_refl _) b;rw[f] at this;exact of_decide_eq_true this.symm
 subst g;refine ⟨n,?_⟩;rw[mU hs,if_pos rfl];show ((hi.toNat:Nat):Int)=1;rw[e];exact h.none fun j r l=>by rw[d j (by omega) l];exact decide_eq_false (by omega)
theorem DN.ext {A e:Ar}{m f:Nat}{id:Int}(h:DN A m f id)(b:Ext A e):DN e m f id:=by
 have d:0≤aR A id:=by have:=h.lvl;omega
 refine ⟨h.sg.ext b,by rw[b.lvl d];exact h.lvl,fun k g j a=>?_,h.none⟩;obtain ⟨l,c⟩:=h.item k g j a;refine ⟨by rw[b.lvl d];exact l,?_⟩;rcases jo d with rfl | rfl | ⟨i,n,rfl,hs,_⟩
 ·exact c
 ·exact c
 ·rw[mU (b _ _ hs)];rw[mU hs] at c;exact c
def FA (w:World)(g r:Nat)(U:Nat→Bool)(room:Int)(sv:Value)(A:Ar)(L:List Int)(m d c:Nat)(v:Value)(w':World):Prop:=
 ∃ a b id e,v=.tuple #[.int .i64 id,.int .i64 e]∧(oW U room A a c e∧(e=0→(L=[]→id=0)∧(L≠[]→DN a m d id)))∧jS w w' (bI g r sv room A) (bI g r b room a)
def cT (a:Nat)(b:Bool)(L:List Int):List Int:=L.filter fun x=>x.toNat.testBit a==b
theorem _root_.Go.Dk.Hp.sE {w0 w:World}{F:Nat→Prop}{L M:List cH}{e:TypeId}{sz n:Nat}{v:Value}{xs:List Value}{r:cH}(H:Hp w0 F w L M)(i j:Nat)(a:i<j)(hi:L[i]?=some (own e sz v n xs))(g:L[j]?=some r) :
  ∃ S,(sl S v sz n xs).ok w∧∀ x,S x→x<w.heap.size∧¬ r.foot x:=by
 obtain ⟨b,h⟩:=List.getElem?_eq_some_iff.1 hi;obtain ⟨c,k⟩:=List.getElem?_eq_some_iff.1 g;have d:=List.pairwise_iff_getElem.1 H.dis i j b c a;rw[h,k] at d;exact ⟨_,iH (H.get i hi),fun x f=>⟨H.lt _ (List.mem_of_getElem? hi) x f,d x f⟩⟩
theorem Dp.AO {w:World}{gz g r:Nat}{sv:Value}{room:Int}{A:Ar}{S:Nat→Prop}{v:Value}{sz n:Nat}{xs:List Value}(h:Dp w gz g r sv room A)(hs:(sl S v sz n xs).ok w)(d:∀ x,S x→x<w.heap.size∧¬ (bI g r sv room A).foot x) :
  Hp w (bI g r sv room A).foot w [bI g r sv room A] [an gz 205 #[(ah g)],sl S v sz n xs]:=
 Hp.rN (M:=[an gz 205 #[(ah g)],sl S v sz n xs]) h.ok (fun x b=>q5 h.ok x b)
  (by
   intro s a;rcases List.mem_cons.1 a with rfl | a
   ·exact h.z
   ·rw[List.mem_singleton] at a;subst a;exact hs)
  (by
   intro s a x b;rcases List.mem_cons.1 a with rfl | a
   ·have b:x=gz:=b;subst b;exact jj h.z
   ·rw[List.mem_singleton] at a;subst a;exact (d x b).1)
  (by
   intro s a x b c;rcases List.mem_cons.1 a with rfl | a
   ·have b:x=gz:=b;subst b;exact h.dis c
   ·rw[List.mem_singleton] at a;subst a;exact (d x b).2 c)
theorem B6 (m a:Nat):((((m / 2^a) &&&1:Nat):Int)==1)=m.testBit a:=by
 rw[Nat.testBit_eq_decide_div_mod_eq,Nat.and_one_is_mod];generalize m / 2^a=q;rw[Bool.eq_iff_iff,beq_iff_eq,decide_eq_true_iff];omega
theorem FB:enters prog 185=true:=by kernel_rfl
set_option maxHeartbeats 4000000 in
theorem Ot {gz g r:Nat}{room:Int}{U:Nat→Bool}{m:Nat}(hm:m<2^24)(hU:∀ j,j<24→m.testBit j=true→U j=true):∀ (k a:Nat) (L:List Int) (B:Option Addr) (d:Nat) (A:Ar) (sv:Value) (w:World) (S:Nat→Prop),a+k=24→(L=[]∨L=[(m:Int)])→si U room A→Dp w gz g r sv room A→(sl S (.slice B L.length d) 1 L.length (aA L)).ok w→(∀ x,S x→x<w.heap.size∧¬ (bI g r sv room A).foot x)→
  bw prog 185 [(ah gz),.slice B L.length d,.int .i64 (a:Int)] w (FA w g r U room sv A L m a (if L=[] then 0 else jY U a)):=by
 intro k
 induction k with
 | zero=>
  intro a L B d A sv w S Y hL M hz hs Z;refine ar (N:=71) func185 FB rfl rfl rfl (by simp) ?_;have H:=hz.AO hs Z;rcases hL with rfl | rfl
  ·refine aw (fun w'=>Hp w (bI g r sv room A).foot w' [bI g r sv room A] [an gz 205 #[(ah g)],sl S (.slice B ([]:List Int).length d) 1 ([]:List Int).length (aA ([]:List Int))]) ⟨(),trivial,H⟩ ?_;clear H;rintro ⟨⟩ u w1 H;refine ay underlying75 ?_;refine ag rfl ?_;exact ⟨A,sv,0,0,rfl,⟨oW.refl M _,fun _=>⟨fun _=>rfl,fun h=>absurd rfl h⟩⟩,H.bg⟩
  ·refine aw (fun w'=>Hp w (bI g r sv room A).foot w' [bI g r sv room A] [an gz 205 #[(ah g)],sl S (.slice B [(m:Int)].length d) 1 [(m:Int)].length (aA [(m:Int)])]) ⟨(),trivial,H⟩ ?_;clear H;rintro ⟨⟩ u w1 H;refine ay underlying75 ?_;refine af rfl ?_;refine ag (beq_iff_eq.2 (by omega)) ?_;exact ⟨A,sv,1,0,rfl,⟨oW.refl M _,fun _=>⟨fun h=>(by cases h),fun _=>⟨.one,by rw[ke (.inr rfl)];omega,fun k Y _ hk24=>by omega,fun _=>rfl⟩⟩⟩,H.bg⟩
 | succ k ih=>
  intro a L B d A sv w S Y hL M hz hs Z;refine ar (N:=71) func185 FB rfl rfl rfl (by simp) ?_;have H:=hz.AO hs Z;refine aw (fun w'=>Hp w (bI g r sv room A).foot w' [bI g r sv room A] [an gz 205 #[(ah g)],sl S (.slice B L.length d) 1 L.length (aA L)]) ⟨(),trivial,H⟩ ?_;clear H;rintro ⟨⟩ u w1 H;by_cases O:L=[]
  ·subst O;refine ay underlying75 ?_;refine ag rfl ?_;exact ⟨A,sv,0,0,rfl,⟨oW.refl M _,fun _=>⟨fun _=>rfl,fun h=>absurd rfl h⟩⟩,H.bg⟩
  obtain rfl:L=[(m:Int)]:=hL.resolve_left O;refine aw (fun w'=>Hp w (bI g r sv room A).foot w' [bI g r sv room A] [an gz 205 #[(ah g)],sl S (.slice B [(m:Int)].length d) 1 [(m:Int)].length (aA [(m:Int)])]) ?_ ?_
  ·refine ay underlying75 ?_;refine af rfl ?_;refine af (beq_eq_false_iff_ne.2 (by omega)) ?_;exact ⟨(),trivial,H⟩
  clear H;rintro ⟨⟩ u w2 H;refine ak (γ:=Unit) (fun _=>[(8,.slice none 0 0),(9,.slice none 0 0)]) (fun _ w'=>Hp w (bI g r sv room A).foot w' [own 3 1 (.slice none 0 0) 0 [],own 3 1 (.slice none 0 0) 0 [],bI g r sv room A] [an gz 205 #[(ah g)],sl S (.slice B [(m:Int)].length d) 1 [(m:Int)].length (aA [(m:Int)])]) ⟨(),⟨rfl,rfl,trivial⟩,(H.bx 3 1).bx 3 1⟩ ?_;clear H;rintro ⟨⟩ u w3 H;refine ak (γ:=Option Addr × Nat × Option Addr × Nat) (fun (n,d8,c,d9)=>[(8,.slice n (cT a false [(m:Int)]).length d8),(9,.slice c (cT a true [(m:Int)]).length d9)])
   (fun (n,d8,c,d9) w'=>Hp w (bI g r sv room A).foot w' [own 3 1 (.slice n (cT a false [(m:Int)]).length d8) (cT a false [(m:Int)]).length (aA (cT a false [(m:Int)])),own 3 1 (.slice c (cT a true [(m:Int)]).length d9) (cT a true [(m:Int)]).length (aA (cT a true [(m:Int)])),bI g r sv room A] [an gz 205 #[(ah g)],sl S (.slice B [(m:Int)].length d) 1 [(m:Int)].length (aA [(m:Int)])]) ?_ ?_
  ·refine ay underlying75 ?_;refine ax (γ:=Nat × Option Addr × Nat × Option Addr × Nat) (fun (i,n,d8,c,d9)=>[(24,.int .i64 (i:Int)),(8,.slice n (cT a false ([(m:Int)].take i)).length d8),(9,.slice c (cT a true ([(m:Int)].take i)).length d9)])
    (fun (i,n,d8,c,d9) w'=>i≤1∧Hp w (bI g r sv room A).foot w' [own 3 1 (.slice n (cT a false ([(m:Int)].take i)).length d8) (cT a false ([(m:Int)].take i)).length (aA (cT a false ([(m:Int)].take i))),own 3 1 (.slice c (cT a true ([(m:Int)].take i)).length d9) (cT a true ([(m:Int)].take i)).length (aA (cT a true ([(m:Int)].take i))),bI g r sv room A] [an gz 205 #[(ah g)],sl S (.slice B [(m:Int)].length d) 1 [(m:Int)].length (aA [(m:Int)])])
    (fun (i,_)=>1 - i) (0,none,0,none,0) ⟨rfl,rfl,rfl,trivial⟩ ⟨by decide,H⟩ ?_
   clear H;rintro ⟨i,n,d8,c,d9⟩ u w4 ⟨hi,H⟩;refine au (fun Q=>?_) (fun Q=>?_)
   ·have Q:(i:Int)<((1:Nat):Int):=Q;obtain rfl:i=0:=by omega
    refine ak (γ:=Option Addr × Nat × Option Addr × Nat) (fun (n,d8,c,d9)=>[(8,.slice n (cT a false [(m:Int)]).length d8),(9,.slice c (cT a true [(m:Int)]).length d9)])
     (fun (n,d8,c,d9) w'=>Hp w (bI g r sv room A).foot w' [own 3 1 (.slice n (cT a false [(m:Int)]).length d8) (cT a false [(m:Int)]).length (aA (cT a false [(m:Int)])),own 3 1 (.slice c (cT a true [(m:Int)]).length d9) (cT a true [(m:Int)]).length (aA (cT a true [(m:Int)])),bI g r sv room A] [an gz 205 #[(ah g)],sl S (.slice B [(m:Int)].length d) 1 [(m:Int)].length (aA [(m:Int)])]) ?_ ?_
    ·refine ak (γ:=Unit) (fun _=>[(11,.int .i64 (m:Int))]) (fun _ w'=>Hp w (bI g r sv room A).foot w' [own 3 1 (.slice n 0 d8) 0 [],own 3 1 (.slice c 0 d9) 0 [],bI g r sv room A] [an gz 205 #[(ah g)],sl S (.slice B [(m:Int)].length d) 1 [(m:Int)].length (aA [(m:Int)])]) ?_ ?_
     ·obtain ⟨gA,oA,rfl⟩:=(nz hs fun g hg=>(Z g hg).1).A (Nat.zero_lt_one);refine ao underlying75 bc 0 rfl (Nat.zero_lt_one) (o':=oA) (by omega) ?_;refine H.D9 (i:=0) 1 rfl aF (by omega) rfl ?_;exact ⟨(),⟨rfl,trivial⟩,H⟩
     clear H;rintro ⟨⟩ u w5 H
     cases o:m.testBit a with
     | true=>
      have e0:cT a false [(m:Int)]=[]:=by unfold cT;simp[o]
      have e1:cT a true [(m:Int)]=[(m:Int)]:=by unfold cT;simp[o]
      rw[e0,e1];refine iz (by omega) ?_;refine iy (b:=1) ?_ (by decide) ?_
      ·exact Nat.lt_of_le_of_lt (Nat.div_le_self _ _) (by omega)
      refine ag ((B6 m a).trans o) ?_;refine H.aX dH rfl ?_;clear H;intro g20 w6 H;refine H.cn 1 dH rfl rfl (by omega) (by omega) ?_;clear H;intro C2 e2 w6 H;exact ⟨(n,d8,C2,e2),⟨rfl,rfl,trivial⟩,H⟩
     | false=>
      have e0:cT a false [(m:Int)]=[(m:Int)]:=by unfold cT;simp[o]
      have e1:cT a true [(m:Int)]=[]:=by unfold cT;simp[o]
      rw[e0,e1];refine iz (by omega) ?_;refine iy (b:=1) ?_ (by decide) ?_
      ·exact Nat.lt_of_le_of_lt (Nat.div_le_self _ _) (by omega)
      refine af ((B6 m a).trans o) ?_;refine H.aX dH rfl ?_;clear H;intro g20 w6 H;refine H.cn 0 dH rfl rfl (by omega) (by omega) ?_;clear H;intro C2 e2 w6 H;exact ⟨(C2,e2,c,d9),⟨rfl,rfl,trivial⟩,H⟩
    clear H;rintro ⟨n,d8,c,d9⟩ u w5 H;exact ⟨(1,n,d8,c,d9),by show (1 - 1:Nat)<1 - 0;decide,⟨up (by omega),rfl,rfl,trivial⟩,by decide,H⟩
   ·have Q:¬ (i:Int)<((1:Nat):Int):=Q;obtain rfl:i=1:=by omega
    exact ⟨(n,d8,c,d9),⟨rfl,rfl,trivial⟩,H⟩
  clear H;rintro ⟨n,d8,c,d9⟩ u w4 H;have hw:(Value.int .i64 (IntKind.i64.wrap ((a:Int)+1)))=.int .i64 ((a+1:Nat):Int):=up (by omega);have hL8:cT a false [(m:Int)]=[]∨cT a false [(m:Int)]=[(m:Int)]:=by unfold cT;cases m.testBit a <;> simp
  have hL9:cT a true [(m:Int)]=[]∨cT a true [(m:Int)]=[(m:Int)]:=by unfold cT;cases m.testBit a <;> simp
  have I:(m.testBit a=true∧cT a false [(m:Int)]=[]∧cT a true [(m:Int)]=[(m:Int)])∨(m.testBit a=false∧cT a false [(m:Int)]=[(m:Int)]∧cT a true [(m:Int)]=[]):=by unfold cT;cases o:m.testBit a <;> simp[o]
  have p:a<24:=by omega
  have hrk:m.testBit a=true→jY U (a+1:Nat)+1≤jY U a:=fun o=>tU U p (hU a p o) (by omega);have hrm:jY U (a+1:Nat)≤jY U a:=kU U (by omega);generalize cT a false [(m:Int)]=L8 at *;generalize cT a true [(m:Int)]=L9 at *;have y:(if L8=[] then 0 else jY U (a+1:Nat))+(if L9=[] then 0 else jY U (a+1:Nat))+(if L9=[] then 0 else 1)≤(if [(m:Int)]=[] then 0 else jY U a):=by
   have f:[(m:Int)]≠[]:=by simp
   rcases I with ⟨o,rfl,rfl⟩ | ⟨o,rfl,rfl⟩
   ·have:=hrk o;rw[if_pos rfl,if_neg f,if_neg f,if_neg f];omega
   ·rw[if_pos rfl,if_pos rfl,if_neg f,if_neg f];omega
  refine ak (γ:=Int × Int × Ar × Value) (fun (id,e,_)=>[(12,.int .i64 id),(13,.int .i64 e)]) (fun (id,e,C,s) w'=>(oW U room A C (if L8=[] then 0 else jY U (a+1:Nat)) e∧(e=0→(L8=[]→id=0)∧(L8≠[]→DN C m (a+1) id)))∧
   Hp w (bI g r sv room A).foot w' [own 3 1 (.slice c L9.length d9) L9.length (aA L9),bI g r s room C] [an gz 205 #[(ah g)],sl S (.slice B [(m:Int)].length d) 1 [(m:Int)].length (aA [(m:Int)])]) ?_ ?_
  ·obtain ⟨S8,h8,hS8⟩:=H.sE 0 2 (by decide) rfl rfl;have T:=ih (a+1) L8 n d8 A sv _ S8 (by omega) hL8 M (j3 (H.front 2 rfl)) h8 hS8;rw[← hw] at T;refine aj T ?_;rintro _ w5 ⟨C,s,id,e,rfl,hd,D⟩;exact ⟨(id,e,C,s),⟨rfl,rfl,trivial⟩,hd,(((H.front 2 rfl).b9 0 rfl D).front 1 rfl).forget.front 1 rfl⟩
  clear H;rintro ⟨lo,e,C,s⟩ u w5 ⟨⟨E,F⟩,H⟩;refine aw (fun w'=>e=0∧
   Hp w (bI g r sv room A).foot w' [own 3 1 (.slice c L9.length d9) L9.length (aA L9),bI g r s room C] [an gz 205 #[(ah g)],sl S (.slice B [(m:Int)].length d) 1 [(m:Int)].length (aA [(m:Int)])]) ?_ ?_
  ·refine df (fun he=>?_) (fun he=>?_)
   ·exact ⟨C,s,0,e,rfl,⟨E.mono (by omega),fun h=>absurd h he⟩,(H.front 1 rfl).bg⟩
   ·exact ⟨(),trivial,he,H⟩
  clear H;rintro ⟨⟩ u w6 ⟨rfl,H⟩;replace F:=F rfl;refine ak (γ:=Int × Int × Ar × Value) (fun (id,e,_)=>[(14,.int .i64 id),(13,.int .i64 e)]) (fun (id,e,q,t) w'=>(oW U room C q (if L9=[] then 0 else jY U (a+1:Nat)) e∧(e=0→(L9=[]→id=0)∧(L9≠[]→DN q m (a+1) id)))∧
   Hp w (bI g r sv room A).foot w' [bI g r t room q] [an gz 205 #[(ah g)],sl S (.slice B [(m:Int)].length d) 1 [(m:Int)].length (aA [(m:Int)])]) ?_ ?_
  ·obtain ⟨S9,h9,hS9⟩:=H.sE 0 1 (by decide) rfl rfl;have T:=ih (a+1) L9 c d9 C s _ S9 (by omega) hL9 E.arn (j3 (H.front 1 rfl)) h9 hS9;rw[← hw] at T;refine aj T ?_;rintro _ w7 ⟨q,t,id,e,rfl,hd,D⟩;exact ⟨(id,e,q,t),⟨rfl,rfl,trivial⟩,hd,(((H.front 1 rfl).b9 0 rfl D).front 1 rfl).forget⟩
  clear H;rintro ⟨hi,e,q,t⟩ u w7 ⟨⟨v,G⟩,H⟩;have z:=E.trans v;refine aw (fun w'=>e=0∧
   Hp w (bI g r sv room A).foot w' [bI g r t room q] [an gz 205 #[(ah g)],sl S (.slice B [(m:Int)].length d) 1 [(m:Int)].length (aA [(m:Int)])]) ?_ ?_
  ·refine df (fun he=>?_) (fun he=>?_)
   ·exact ⟨q,t,0,e,rfl,⟨z.mono (by omega),fun h=>absurd h he⟩,H.bg⟩
   ·exact ⟨(),trivial,he,H⟩
  clear H;rintro ⟨⟩ u w8 ⟨rfl,H⟩;replace G:=G rfl;rcases I with ⟨o,rfl,rfl⟩ | ⟨o,rfl,rfl⟩
  ·obtain rfl:=F.1 rfl;have J:=G.2 (by simp);have f:hi≠0:=by
    intro h;have:=J.sg
    cases this with
    | one=>cases h
    | nd _ _ _=>omega
   have h0:0≤hi:=iA (A:=q) (by have:=J.lvl;omega);have hs':=h_ v.arn.ok (l:=0) (id:=hi) ⟨by omega,by have:=J.lvl;omega⟩;obtain ⟨h,rfl⟩:∃ h:Nat,hi=(h:Int):=⟨hi.toNat,(Int.toNat_of_nonneg h0).symm⟩;have hlh:=J.lvl;have V:((a:Nat):Int)<aR q ((0:Nat):Int):=by have:=ke (A:=q) (id:=((0:Nat):Int)) (.inl rfl);omega
   have hn:nh room q (a:Int) 0 (h:Int)=we room q (a:Int) ((0:Nat):Int) (h:Int):=if_neg f;have hm:=yV (U:=U) v.arn (l:=(a:Int)) (lo:=((0:Nat):Int)) (hi:=(h:Int)) (by omega) (by omega) (by rw[Int.toNat_natCast];exact hU a p o) V (by omega);have K:=HD (room:=room) (A:=q) (l:=a) (lo:=0) (hi:=h) V (by omega);rw[← hn] at hm K;refine aj (Kz (a:Int) 0 (h:Int) (by omega) (by omega) (by omega) v.arn.ok _ (H.ro 0 rfl) (H.get 0 rfl)) ?_;rintro _ w9 ⟨X,rfl,D⟩;rcases D with ⟨h0,_⟩ | ⟨_,D⟩
   ·exact absurd h0 f
   ·generalize nh room q (a:Int) 0 (h:Int)=N at hm K D;obtain ⟨A3,id,e⟩:=N;refine ⟨A3,X,id,e,rfl,⟨(z.trans hm.1).mono y,fun he=>⟨fun hh=>by simp at hh,fun _=>?_⟩⟩,(H.b9 0 rfl D).bg⟩;obtain ⟨i,hi,hs⟩:=K he;have hi:id=(i:Int)+2:=hi;rw[hi];exact J.up hm.1.ext o (by rw[Int.toNat_natCast];exact hs) p (by omega)
  ·obtain rfl:=G.1 rfl;have J:=F.2 (by simp);have hs':=h_ E.arn.ok (l:=0) (id:=lo) ⟨by omega,by have:=J.lvl;omega⟩;refine aj (Kz (a:Int) lo 0 (by omega) (by omega) (by omega) v.arn.ok _ (H.ro 0 rfl) (H.get 0 rfl)) ?_;rintro _ w9 ⟨X,rfl,D⟩;rcases D with ⟨_,Y⟩ | ⟨f,_⟩
   ·exact ⟨q,t,lo,0,rfl,⟨z.mono (by simp at y ⊢;omega),fun _=>⟨fun hh=>by simp at hh,fun _=>(J.down o p).ext v.ext⟩⟩,(H.same Y).bg⟩
   ·exact absurd rfl f
theorem KS:enters prog 149=true:=by kernel_rfl
theorem ME {gz g r:Nat}{room:Int}{U:Nat→Bool}{m:Nat}(hm:m<2^24)(k:∀ j,j<24→m.testBit j=true→U j=true)(B:Option Addr)(d:Nat)(A:Ar)(sv:Value)(w:World)(S:Nat→Prop)(l:si U room A)(n:Dp w gz g r sv room A)(hs:(sl S (.slice B 1 d) 1 1 (aA [(m:Int)])).ok w)(c:∀ x,S x→x<w.heap.size∧¬ (bI g r sv room A).foot x) :
  bw prog 149 [(ah gz),.slice B 1 d] w (FA w g r U room sv A [(m:Int)] m 0 (jY U 0)):=by
 refine ar (N:=28) func149 KS rfl rfl rfl (by simp) ?_;have H:=n.AO hs c;have o:m<16777216:=hm;refine aw (fun w'=>Hp w (bI g r sv room A).foot w' [bI g r sv room A] [an gz 205 #[(ah g)],sl S (.slice B 1 d) 1 1 (aA [(m:Int)])]) ⟨(),trivial,H⟩ ?_;clear H;rintro ⟨⟩ u z H;refine aw (fun w'=>Hp w (bI g r sv room A).foot w' [bI g r sv room A] [an gz 205 #[(ah g)],sl S (.slice B 1 d) 1 1 (aA [(m:Int)])]) ?_ ?_
 ·refine pE ?_;refine af rfl ?_;exact ⟨(),trivial,H⟩
 clear H;rintro ⟨⟩ u C H;refine aw (fun w'=>Hp w (bI g r sv room A).foot w' [bI g r sv room A] [an gz 205 #[(ah g)],sl S (.slice B 1 d) 1 1 (aA [(m:Int)])]) ?_ ?_
 ·refine ay underlying75 ?_;refine ax (γ:=Nat) (fun i=>[(12,.int .i64 (i:Int))]) (fun i w'=>i≤1∧Hp w (bI g r sv room A).foot w' [bI g r sv room A] [an gz 205 #[(ah g)],sl S (.slice B 1 d) 1 1 (aA [(m:Int)])]) (fun i=>1 - i) 0 ⟨rfl,trivial⟩ ⟨by decide,H⟩ ?_;clear H;rintro i u p ⟨hi,H⟩;refine au (fun a=>?_) (fun a=>?_)
  ·have a:(i:Int)<((1:Nat):Int):=a;obtain rfl:i=0:=by omega
   obtain ⟨D,q,rfl⟩:=(nz hs fun g s=>(c g s).1).A (Nat.zero_lt_one);refine ao underlying75 bc 0 rfl (Nat.zero_lt_one) (o':=q) (by omega) ?_;refine H.D9 (i:=0) 1 rfl aF (by omega) rfl ?_
   iterate 3 refine af rfl ?_
   refine af (decide_eq_false (by omega)) ?_;exact ⟨1,by decide,⟨up (by omega),trivial⟩,by decide,H⟩
  ·exact ⟨(),trivial,H⟩
 clear H;rintro ⟨⟩ u p H;refine aj (Ot hm k 24 0 [(m:Int)] B d A sv _ S rfl (.inr rfl) l (j3 H) (H.ro 1 rfl) (fun x f=>⟨H.rlt _ (.tail _ (.head _)) x f,fun h=>H.rdis _ (.tail _ (.head _)) _ (.head _) x f h⟩)) ?_;rintro _ E ⟨t,b,id,e,rfl,v,y⟩;exact ⟨t,b,id,e,rfl,v,(H.b9 0 rfl y).bg⟩
theorem KT:enters prog 148=true:=by kernel_rfl
theorem c148 {w:World}{gz g r:Nat}{sv:Value}{room:Int}{A:Ar}{U:Nat→Bool}{f p l:Int}{c:Nat}(b:si U room A)(d:0≤aR A f)(i:0≤aR A p)(hs:p=0∨Sg A p)(j:min (aR A f) (aR A p)=l)(k:CJ U A f p l c)(m:Dp w gz g r sv room A) :
  bw prog 148 [(ah gz),.int .i64 f,.int .i64 p] w (B5 w g r U room sv A l c fun _=>True):=by
 refine ar (N:=14) func148 KT rfl rfl rfl (by simp) ?_;refine aj (HB (l:=l) (c:=c) (fe:=182) (hi:=183) (U:=U) (X:=fun _=>True) b d i m fun gd rm n hit=>?_) (fun v w' h=>by
  obtain ⟨o,a,id,e,rfl,q,s⟩:=h;exact ⟨o,a,id,e,rfl,q,s⟩)
 exact (vH 25 f p l A [] sv n c b (eQ.nil A) d i hs j (by omega) k hit).mono fun v w' h=>h.mono (by omega) (Int.le_refl l) (Nat.le_refl c) fun _ _=>trivial
structure gp (U:Nat→Bool) (room:Int) (A A':Ar) (c:Nat) (e e':Int):Prop where
 ext:Ext A A'
 arn:si U room A'
 len:A'.length≤A.length+c
 err:e=0∧e'=0∨e'=5∧(e=5∨room<(A.length:Int)+c)
theorem gp.refl {U:Nat→Bool}{room:Int}{A:Ar}(h:si U room A){e:Int}(he:e=0∨e=5)(c:Nat):gp U room A A c e e:=⟨Ext.refl A,h,Nat.le_add_right _ _,by omega⟩
theorem gp.trans {U:Nat→Bool}{room:Int}{A B C:Ar}{c d:Nat}{e b a:Int}(h:gp U room A B c e b)(k:gp U room B C d b a):gp U room A C (c+d) e a:=
 ⟨h.ext.trans k.ext,k.arn,by have:=h.len;have:=k.len;omega,by have:=h.len;have:=h.err;have:=k.err;omega⟩
theorem gp.mono {U:Nat→Bool}{room:Int}{A B:Ar}{c d:Nat}{e a:Int}(h:gp U room A B c e a)(b:c≤d):gp U room A B d e a:=
 ⟨h.ext,h.arn,by have:=h.len;omega,by have:=h.err;omega⟩
theorem gp.two {U:Nat→Bool}{room:Int}{A B:Ar}{c:Nat}{e a:Int}(h:gp U room A B c e a):a=0∨a=5:=by have:=h.err;omega
def tX (ce e:Int):Int:=if ce=0 then e else ce
theorem lF {U:Nat→Bool}{room:Int}{A B:Ar}{c:Nat}{ce e:Int}(h:oW U room A B c e)(a:ce=0∨ce=5):gp U room A B c ce (tX ce e):=by
 have:=h.err;refine ⟨h.ext,h.arn,h.len,?_⟩;unfold tX;split <;> omega
def nU (ce e id:Int):Int:=if tX ce e=0 then id else 0
theorem rl {ce e:Int}(id:Int)(a:ce=0∨ce=5):(e=0∧nU ce e id=id)∨nU ce e id=0:=by
 unfold nU tX;rcases a with rfl | rfl
 ·by_cases h:e=0
  ·exact .inl ⟨h,by rw[if_pos rfl,if_pos h]⟩
  ·exact .inr (by rw[if_pos rfl,if_neg h])
 ·exact .inr rfl
theorem rn {A:Ar}{ce e id l:Int}(h:e=0→At A l id)(b:0≤l)(c:l≤24)(d:ce=0∨ce=5):At A l (nU ce e id):=by
 rcases rl (e:=e) id d with ⟨f,a⟩ | a
 ·rw[a];exact h f
 ·rw[a];exact At.end (.inl rfl) b c
def iZ (gc gz:Nat)(ce:Int):cH:=an gc 208 #[(ah gz),.int .i64 ce]
theorem lG (g:Nat)(w:World):(Instr.fieldAt 208 (ah g) 0).run prog w=.ok (ah g) w:=by kernel_rfl
theorem mV (g:Nat)(w:World):(Instr.fieldAt 208 (ah g) 1).run prog w=.ok (.pointer (some ⟨g,1,none⟩)) w:=by kernel_rfl
theorem nV:cP prog 26=some false:=by kernel_rfl
theorem jG:bE prog 26=some 1:=by kernel_rfl
theorem KU:enters prog 146=true:=by kernel_rfl
theorem c146 {gc gz:Nat}(ce id e:Int)(w:World)(h:(iZ gc gz ce).ok w) :
  bw prog 146 [(ah gc),.int .i64 id,.int .i64 e] w fun v w'=>v=.int .i64 (nU ce e id)∧jS w w' (iZ gc gz ce) (iZ gc gz (tX ce e)):=by
 refine ar (N:=22) func146 KU rfl rfl rfl (by simp) ?_;have H:Hp w (iZ gc gz ce).foot w [iZ gc gz ce] []:=Hp.I8 h (fun x b=>by have b:x=gc:=b;subst b;exact jj h);refine aw (fun w'=>Hp w (iZ gc gz ce).foot w' [iZ gc gz ce] []) ⟨(),trivial,H⟩ ?_;clear H;rintro ⟨⟩ u d H;refine aw (fun w'=>Hp w (iZ gc gz ce).foot w' [iZ gc gz (tX ce e)] []) ?_ ?_
 ·refine aa (mV _) ?_;refine H.load 0 rfl nV rfl ?_;refine cg (fun a=>?_) (fun a=>?_)
  ·have a:ce=0:=a;refine aa (mV _) ?_;refine H.store 0 rfl jG (Nat.le_of_ble_eq_true rfl) rfl ?_;clear H;intro c H;exact ⟨(),trivial,by unfold tX;rw[if_pos a];exact H⟩
  ·have a:ce≠0:=a;exact ⟨(),trivial,by unfold tX;rw[if_neg a];exact H⟩
 clear H;rintro ⟨⟩ u c H;unfold nU;generalize tX ce e=e2 at *;refine aw (fun w'=>e2=0∧Hp w (iZ gc gz ce).foot w' [iZ gc gz e2] []) ?_ ?_
 ·refine aa (mV _) ?_;refine H.load 0 rfl nV rfl ?_;refine df (fun a=>?_) (fun a=>?_)
  ·exact ⟨by rw[if_neg a];rfl,H.bg⟩
  ·exact ⟨(),trivial,a,H⟩
 clear H;rintro ⟨⟩ u f ⟨rfl,H⟩;exact ⟨by rw[if_pos rfl];rfl,H.bg⟩
def yX (gc:Nat)(v:Value):cH:=⟨fun x=>x=gc,fun w=>w.cell? ⟨gc,0,none⟩=some v,fun w w' h hw=>by
 rw[← hw];unfold World.cell?;simp only;rw[h gc rfl]⟩
def cR (g r:Nat)(sv:Value)(room:Int)(A:Ar)(gc gz:Nat)(ce:Int):cH:=sa [bI g r sv room A,iZ gc gz ce]
def cM (gz g:Nat):List cH:=[an gz 205 #[(ah g)]]
structure Lp (w:World) (gz gc g r:Nat) (sv:Value) (room:Int) (A:Ar) (ce:Int):Prop where
 z:(an gz 205 #[(ah g)]).ok w
 ok:(cR g r sv room A gc gz ce).ok w
 dis:¬ (cR g r sv room A gc gz ce).foot gz
def FC (w:World)(gz gc g r:Nat)(U:Nat→Bool)(room:Int)(sv:Value)(A:Ar)(ce l:Int)(c:Nat)(v:Value)(w':World):Prop:=
 ∃ b d a id,v=.int .i64 id∧(gp U room A b c ce a∧At b l id)∧jS w w' (cR g r sv room A gc gz ce) (cR g r d room b gc gz a)
section
variable {w0 w:World} {F:Nat→Prop} {L M:List cH} {gz gc g r:Nat} {sv:Value} {room:Int} {A:Ar} {ce:Int} {U:Nat→Bool} {l m:Int} {c d:Nat}
theorem _root_.Go.Dk.Hp.tY (H:Hp w0 F w L M)(n:Nat)(a:L[n]?=some (iZ gc gz ce)):Hp w0 F w [yX gc (ah gz)] M:=
 (H.b7 [n] (by simp) (L':=[iZ gc gz ce]) (by simp[a])).re (fun h=>(aQ h 0).trans rfl) (fun x b=>b)
theorem Lp.start (h:Lp w gz gc g r sv room A ce):Hp w (cR g r sv room A gc gz ce).foot w [bI g r sv room A,iZ gc gz ce] (cM gz g):=
 (Hp.rN (M:=cM gz g) h.ok (fun x ⟨q,c,a⟩=>h.ok.2.1 q c x a) (by intro s hs;obtain rfl:=List.mem_singleton.1 hs;exact h.z)
  (by intro s hs x a;obtain rfl:=List.mem_singleton.1 hs;have a:x=gz:=a;subst a;exact jj h.z)
  (by intro s hs x a b;obtain rfl:=List.mem_singleton.1 hs;have a:x=gz:=a;subst a;exact h.dis b)).split
theorem i_ (H:Hp w0 F w (bI g r sv room A::iZ gc gz ce::L) M):Hp w0 F w (cR g r sv room A gc gz ce::L) M:=Hp.join (Ls:=[bI g r sv room A,iZ gc gz ce]) H
theorem AP (H:Hp w0 F w (cR g r sv room A gc gz ce::L) (cM gz g)):Lp w gz gc g r sv room A ce:=
 ⟨H.ro 0 rfl,H.get 0 rfl,fun h=>H.rdis _ (.head _) _ (.head _) gz rfl h⟩
end
theorem KV:enters prog 178=true:=by kernel_rfl
theorem Ou {w:World}{gz gc g r:Nat}{sv:Value}{room:Int}{A:Ar}{ce:Int}{U:Nat→Bool}{f:Int}{k:Nat}(I:k<24)(M:U k=true)(n:ce=0∨ce=5)(O:si U room A)(Z:(k:Int)<aR A f)(hit:Lp w gz gc g r sv room A ce) :
  bw prog 178 [(ah gc),.int .i64 f,.int .i64 (k:Int)] w (FC w gz gc g r U room sv A ce k (jY U 0+1)):=by
 refine ar (N:=29) func178 KV rfl rfl rfl (by simp) ?_;have H:=hit.start;refine aw (fun w'=>Hp w (cR g r sv room A gc gz ce).foot w' [bI g r sv room A,iZ gc gz ce] (cM gz g)) ⟨(),trivial,H⟩ ?_;clear H;rintro ⟨⟩ u w1 H;refine H.fp [yX gc (ah gz)] (fun u h=>h.tY 1 rfl) eO (by kernel_rfl) ?_;clear H;intro w2 H;refine quiet _ (fun w H=>aa (lG _) ae) ?_;refine quiet _ (fun w H=>aB iW (H.get 0 rfl) ae) ?_;refine quiet _ (fun w H=>aa (lG _) ae) ?_;refine quiet _ (fun w H=>aB iW (H.get 0 rfl) ae) ?_;refine quiet _ (fun w H=>c6 (by omega) ae) ?_;refine H.aX dH rfl ?_;clear H;intro gs w3 H;replace H:=H.py (l:=1) (sz:=1) rfl (by decide);refine ⟨.inl (H.tY 2 rfl),?_⟩;obtain ⟨S,hs,Q⟩:=H.sE 0 1 (by decide) rfl rfl;have d:∀ j,(2^k).testBit j=decide (j=k):=fun j=>by rw[Nat.testBit_two_pow];simp[eq_comm]
 have q:2^k<2^24:=Nat.pow_lt_pow_right (by decide) I;refine aj (ME (U:=U) (m:=2^k) q (fun j _ J=>by rw[d] at J;rw[of_decide_eq_true J];exact M) _ _ A sv _ S O (j3 (H.front 1 rfl)) hs Q) ?_;rintro _ w4 ⟨o,T,a,i,rfl,⟨s,K⟩,t⟩;replace H:=((H.b9 1 rfl t).forget);refine ⟨.inl (H.tY 1 rfl),?_⟩;refine aj (c146 ce a i _ (H.get 1 rfl)) ?_;rintro _ w5 ⟨rfl,v⟩;replace H:=H.b9 1 rfl v;refine ⟨.inl (H.tY 1 rfl),?_⟩;have b:=lF s n;have x:(nU ce i a=0∨Sg o (nU ce i a))∧(k:Int)≤aR o (nU ce i a)∧(nU ce i a=0∨aR o (nU ce i a)=(k:Int)∧(bY o (nU ce i a) k).2=1):=by
  rcases rl (e:=i) a n with ⟨he,h⟩ | h
  ·obtain ⟨y,z⟩:=((K he).2 (by simp)).item k (Nat.zero_le _) (fun j _ _=>d j) I;rw[h];exact ⟨.inr ((K he).2 (by simp)).sg,by omega,.inr ⟨y,z⟩⟩
  ·rw[h];exact ⟨.inl rfl,by rw[ke (.inl rfl)];omega,.inl rfl⟩
 generalize nU ce i a=p at x;generalize tX ce i=ce1 at b H;have V:aR o f=aR A f:=b.ext.lvl (by omega);refine aj (c148 (U:=U) (f:=f) (p:=p) (c:=1) b.arn (by omega) (by omega) x.1 rfl ?_ (j3 H)) ?_
 ·rcases x.2.2 with h | ⟨y,z⟩
  ·exact .inl (.inr (.inl h))
  ·refine .inr (.inl ⟨by omega,?_,Nat.le_refl 1⟩);rw[Int.min_eq_right (by omega),y];exact z
 rintro _ w6 ⟨X,B,C,Y,rfl,⟨D,E⟩,F⟩;replace H:=H.b9 0 rfl F;refine ⟨.inl (H.tY 1 rfl),?_⟩;refine aj (c146 ce1 C Y _ (H.get 1 rfl)) ?_;rintro _ w7 ⟨rfl,G⟩;replace H:=H.b9 1 rfl G;refine ⟨.inl (H.tY 1 rfl),?_⟩;exact ⟨X,B,_,_,rfl,⟨b.trans (lF D b.two),rn (fun he=>(E he).1.mono (by omega) (by omega)) (by omega) (by omega) b.two⟩,(i_ H).bg⟩
theorem KW:cP prog 241=some true:=by kernel_rfl
theorem HE:bE prog 241=some 8:=by kernel_rfl
theorem KX (f:Bool→Nat)(b:Bool){w:World}{kk:Value→World→Prop}(h:kk (sv (f b)) w):sL prog 241 (.agg (a2 f)) (.int .i64 (bN b:Int)) w kk:=by
 unfold sL;refine ⟨_,w,?_,h⟩
 cases b <;> kernel_rfl
theorem _root_.Go.Dk.Hp.HF {w0 w:World}{F:Nat→Prop}{L M Ls:List cH}{gc gz:Nat}{ce:Int}(H:Hp w0 F w L M)(is:List Nat)(a:is.Nodup)(b:is.map (fun i=>L[i]?)=(iZ gc gz ce::Ls).map some):Hp w0 F w (yX gc (ah gz)::Ls) M:=
 (H.b7 is a b).re (fun h=>(aQ h 0).trans rfl) (fun x c=>c)
def HG (U:Nat→Bool)(c i:Nat):Nat:=c+(2^jY U ((2*(i+1):Nat):Int) - 1)+(jY U 0+1)+(2^jY U ((2*i:Nat):Int) - 1)
def B7 (U:Nat→Bool):Nat→Nat→Nat
 | 0,_=>0
 | k+1,i=>B7 U k (i+1)+2*HG U (B7 U k (i+1)) i
theorem yY (s i:Nat)(b:Bool):aV s i b<2^256:=dp _
theorem FD:enters prog 145=true:=by kernel_rfl
set_option maxHeartbeats 4000000 in
theorem c145 {gz gc g r:Nat}{room:Int}{U:Nat→Bool}{n:Nat}(hn:n≤8)(hU:∀ j,j<2*n→U j=true):∀ (k i s:Nat) (a:Value) (A:Ar) (ce:Int) (w:World),i+k=n→cq s (bp n)→s<2^256→(∀ j,j<i→uP n s j)→(ce=0∨ce=5)→si U room A→Lp w gz gc g r a room A ce→
  bw prog 145 [(ah gc),sv s,sv (bp n),.int .i64 (n:Int),.int .i64 (i:Int)] w (FC w gz gc g r U room a A ce ((2*i:Nat):Int) (B7 U k i)):=by
 intro k
 induction k with
 | zero=>
  intro i s a A ce w hk hs X J y S hit;refine ar (N:=99) func145 FD rfl rfl rfl (by simp) ?_;have H:=hit.start;obtain rfl:i=n:=by omega
  refine H.box 86 (sv s) (cs:=sc s) rfl ?_;clear H;intro g6 w1 H;refine H.box 86 (sv (bp i)) (cs:=sc (bp i)) rfl ?_;clear H;intro g7 w2 H;replace H:=H.b7 [2,3,0,1] (L':=[bI g r a room A,iZ gc gz ce,an g7 86 (sc (bp i)),an g6 86 (sc s)]) (by decide) rfl;have d:∀ id:Int,(id=0∨id=1)→At A ((2*i:Nat):Int) id:=fun id h=>At.end h (by omega) (by omega);refine aa (mV _) ?_;refine H.load 1 rfl nV rfl ?_;refine df (fun h2=>?_) (fun h2=>?_)
  ·refine ag (bne_iff_ne.2 (by omega)) ?_
   iterate 2 refine ag (bne_iff_ne.2 (by omega)) ?_
   refine ag rfl ?_;exact ⟨A,a,ce,0,rfl,⟨gp.refl S y _,d 0 (.inl rfl)⟩,(i_ H).bg⟩
  ·refine H.ai 3 rfl aD av ?_;refine af (bne_eq_false_iff_eq.2 (by omega)) ?_;refine tl ?_;refine af (bne_eq_false_iff_eq.2 (by omega)) ?_;refine fI (by first | assumption | decide) (by first | assumption | decide) ?_;refine af (bne_eq_false_iff_eq.2 (by omega)) ?_;by_cases h3:s=0
   ·refine ag (beq_iff_eq.2 h3) ?_;exact ⟨A,a,ce,0,rfl,⟨gp.refl S y _,d 0 (.inl rfl)⟩,(i_ H).bg⟩
   ·refine af (beq_eq_false_iff_ne.2 h3) ?_;refine H.ai 3 rfl aD av ?_;refine H.ai 2 rfl aD av ?_;refine fI X (j7 _) ?_;refine ag (beq_iff_eq.2 (BV hn hs J h3)) ?_;exact ⟨A,a,ce,1,rfl,⟨gp.refl S y _,d 1 (.inr rfl)⟩,(i_ H).bg⟩
 | succ k ih=>
  intro i s a A ce w hk hs X J y S hit;refine ar (N:=99) func145 FD rfl rfl rfl (by simp) ?_;have H:=hit.start;have hi:i<n:=by omega
  have d:∀ id:Int,(id=0∨id=1)→At A ((2*i:Nat):Int) id:=fun id h=>At.end h (by omega) (by omega);refine ak (γ:=Nat × Nat) (fun (g6,g7)=>[(6,(ah g6)),(7,(ah g7))]) (fun (g6,g7) w'=>Hp w (cR g r a room A gc gz ce).foot w' [bI g r a room A,iZ gc gz ce,an g7 86 (sc (bp n)),an g6 86 (sc s)] (cM gz g)) ?_ ?_
  ·refine H.box 86 (sv s) (cs:=sc s) rfl ?_;clear H;intro g6 w1 H;refine H.box 86 (sv (bp n)) (cs:=sc (bp n)) rfl ?_;clear H;intro g7 w2 H;exact ⟨(g6,g7),⟨rfl,rfl,trivial⟩,H.b7 [2,3,0,1] (by decide) rfl⟩
  clear H;rintro ⟨g6,g7⟩ u w1 H;refine aw (fun w'=>Hp w (cR g r a room A gc gz ce).foot w' [bI g r a room A,iZ gc gz ce,an g7 86 (sc (bp n)),an g6 86 (sc s)] (cM gz g)) ?_ ?_
  ·refine aa (mV _) ?_;refine H.load 1 rfl nV rfl ?_;refine df (fun h2=>?_) (fun h2=>?_)
   ·refine ag (bne_iff_ne.2 (by omega)) ?_
    iterate 2 refine ag (bne_iff_ne.2 (by omega)) ?_
    refine ag rfl ?_;exact ⟨A,a,ce,0,rfl,⟨gp.refl S y _,d 0 (.inl rfl)⟩,(i_ H).bg⟩
   ·refine H.ai 3 rfl aD av ?_;refine af (bne_eq_false_iff_eq.2 (by omega)) ?_;refine tl ?_;refine af (bne_eq_false_iff_eq.2 (by omega)) ?_;refine fI (by first | assumption | decide) (by first | assumption | decide) ?_;refine af (bne_eq_false_iff_eq.2 (by omega)) ?_;by_cases h3:s=0
    ·refine ag (beq_iff_eq.2 h3) ?_;exact ⟨A,a,ce,0,rfl,⟨gp.refl S y _,d 0 (.inl rfl)⟩,(i_ H).bg⟩
    ·refine af (beq_eq_false_iff_ne.2 h3) ?_;refine H.ai 3 rfl aD av ?_;refine H.ai 2 rfl aD av ?_;refine fI X (j7 _) ?_;refine aE (fun h4=>?_) (fun h4=>?_)
     ·exact ⟨A,a,ce,1,rfl,⟨gp.refl S y _,d 1 (.inr rfl)⟩,(i_ H).bg⟩
     ·exact ⟨(),trivial,H⟩
  clear H;rintro ⟨⟩ u w2 H;refine ak (γ:=Nat) (fun g11=>[(11,(ah g11))]) (fun g11 w'=>Hp w (cR g r a room A gc gz ce).foot w' [an g11 241 (a2 fun _=>0),bI g r a room A,iZ gc gz ce,an g7 86 (sc (bp n)),an g6 86 (sc s)] (cM gz g)) ?_ ?_
  ·refine H.alloc 241 (cs:=a2 fun _=>0) wQ rfl ?_;clear H;intro g11 w3 H;exact ⟨g11,⟨rfl,trivial⟩,H⟩
  clear H;rintro g11 u w3 H;refine aw (fun w'=>Hp w (cR g r a room A gc gz ce).foot w' [an g11 241 (a2 (aV s i)),bI g r a room A,iZ gc gz ce,an g7 86 (sc (bp n))] (cM gz g)) ?_ ?_
  ·refine ax (γ:=Nat × (Bool→Nat)) (fun (k,_)=>[(33,.int .i64 (k:Int))]) (fun (k,f) w'=>(k≤2∧∀ b,bN b<k→f b=aV s i b)∧Hp w (cR g r a room A gc gz ce).foot w' [an g11 241 (a2 f),bI g r a room A,iZ gc gz ce,an g7 86 (sc (bp n)),an g6 86 (sc s)] (cM gz g)) (fun (k,_)=>2 - k) (0,fun _=>0) ⟨rfl,trivial⟩ ⟨⟨by decide,fun b hb=>absurd hb (Nat.not_lt_zero _)⟩,H⟩ ?_;clear H;rintro ⟨k',f⟩ u w4 ⟨⟨hk',hfg⟩,H⟩;refine au (fun h7=>?_) (fun h7=>?_)
   ·obtain ⟨b,rfl⟩:∃ b,k'=bN b:=by
     have:k'=0∨k'=1:=by omega
     rcases this with rfl | rfl
     ·exact ⟨false,rfl⟩
     ·exact ⟨true,rfl⟩
    have hb1:bN b<2:=by unfold bN;cases b <;> decide
    refine aw (fun w'=>Hp w (cR g r a room A gc gz ce).foot w' [an g11 241 (a2 (Hh f b (aV s i b))),bI g r a room A,iZ gc gz ce,an g7 86 (sc (bp n)),an g6 86 (sc s)] (cM gz g)) ?_ ?_
    ·refine ak (γ:=Unit) (fun _=>[(12,.int .i64 (bN b:Int))]) (fun _ w'=>Hp w (cR g r a room A gc gz ce).foot w' [an g11 241 (a2 f),bI g r a room A,iZ gc gz ce,an g7 86 (sc (bp n)),an g6 86 (sc s)] (cM gz g)) ⟨(),⟨rfl,trivial⟩,H⟩ ?_;clear H;rintro ⟨⟩ u w5 H;have G:∀ u,bw prog 177 [sv s,.int .i64 (i:Int),.bool (((bN b:Nat):Int)==1)] u fun r w'=>r=sv (cK s i b)∧aT u w':=fun u=>by cases b <;> exact yh s i _ (by omega) u
     refine H.ai 4 rfl aD av ?_;refine aj (G _) ?_;rintro _ w6 ⟨rfl,Y⟩;replace H:=H.same Y;refine aj (N5 _ i (xG s i b) (by omega) _) ?_;rintro _ w7 ⟨rfl,hk7⟩;replace H:=H.same hk7;refine aK underlying241 av (bN b) rfl hb1 (o':=bN b*4) (by omega) ?_;refine H.fK 0 rfl av (by rw[wR];show bN b*4+4≤8;omega) (fx _) (E5 f b _) ?_;clear H;intro w8 H;exact ⟨(),trivial,H⟩
    ·clear H;rintro ⟨⟩ u w5 H;exact ⟨(bN b+1,Hh f b (aV s i b)),by show 2 - (bN b+1)<2 - bN b;omega,⟨up (by omega),trivial⟩,⟨by show bN b+1≤2;omega,fun c G=>by
      unfold Hh;by_cases he:c=b
      ·subst he;simp
      ·rw[if_neg he];refine hfg c ?_;have G:bN c<bN b+1:=G
       cases b <;> cases c <;> simp_all[bN]⟩,H⟩
   ·have e1:f=aV s i:=funext fun b=>hfg b (by unfold bN;cases b <;> simp <;> omega);subst e1;exact ⟨(),trivial,H.b7 [0,1,2,3] (by decide) rfl⟩
  clear H;rintro ⟨⟩ u w4 H;have hw1:(Value.int .i64 (IntKind.i64.wrap ((i:Int)+1)))=.int .i64 ((i+1:Nat):Int):=up (by omega);have T:∀ b,cq (aV s i b) (bp n):=fun b=>mj hn hs hi b;have K:∀ b j,j<i+1→uP n (aV s i b) j:=fun b j Z=>nP hn hs hi b (fun h=>J j h) (by omega);have hpow:((2*(i+1):Nat):Int)≤24:=by omega
  refine ak (γ:=Int × Ar × Value × Int) (fun (id,_)=>[(13,.int .i64 id)]) (fun (id,Q,D,z) w'=>(gp U room A Q (B7 U k (i+1)) ce z∧At Q ((2*(i+1):Nat):Int) id)∧Hp w (cR g r a room A gc gz ce).foot w' [bI g r D room Q,iZ gc gz z,an g11 241 (a2 (aV s i)),an g7 86 (sc (bp n))] (cM gz g)) ?_ ?_
  ·refine H.fp [an g11 241 (a2 (aV s i)),an g7 86 (sc (bp n))] (fun u h=>h.b7 [0,3] (by decide) rfl) eO (by kernel_rfl) ?_;clear H;intro w5 H;refine quiet _ (fun w H=>aK underlying241 av 0 rfl (by omega) (o':=0) rfl ae) ?_;refine quiet (sv (aV s i false)) (fun w H=>H.cY 0 rfl (bK (aV s i false)) aD av (fun j v Z=>by have:=lD (aV s i) false j v Z;rwa [show bN false*4+j=0+j by unfold bN;simp] at this) ae) ?_;refine quiet _ (fun w H=>aK underlying241 av 1 rfl (by omega) (o':=4) rfl ae) ?_;refine quiet (sv (aV s i true)) (fun w H=>H.cY 0 rfl (bK (aV s i true)) aD av (fun j v Z=>by have:=lD (aV s i) true j v Z;rwa [show bN true*4+j=4+j by unfold bN;simp] at this) ae) ?_;refine aj (c53 _ _ _) ?_;rintro _ w6 ⟨rfl,Y⟩;replace H:=H.same Y;refine ⟨.inl (H.b7 [0,3] (by decide) rfl),?_⟩;refine quiet (sv (bp n)) (fun w H=>H.ai 1 rfl aD av ae) ?_;have G:=ih (i+1) (aV s i false &&&aV s i true) a A ce w6 (by omega) (fun p hp=>T false p (by rw[Nat.testBit_and,Bool.and_eq_true] at hp;exact hp.1)) (Nat.lt_of_le_of_lt Nat.and_le_left (yY s i false)) (fun j Z=>BU (K _ j Z) (K _ j Z)) y S (AP (i_ (H.b7 [1,2,0,3] (L':=[bI g r a room A,iZ gc gz ce,an g11 241 (a2 (aV s i)),an g7 86 (sc (bp n))]) (by decide) rfl)));rw[← hw1] at G;refine aj G ?_;rintro _ w7 ⟨Q,D,z,id,rfl,hd,ht⟩;replace H:=((i_ (H.b7 [1,2,0,3] (L':=[bI g r a room A,iZ gc gz ce,an g11 241 (a2 (aV s i)),an g7 86 (sc (bp n))]) (by decide) rfl)).b9 0 rfl ht).split;refine ⟨.inl (H.b7 [2,3] (by decide) rfl),?_⟩;exact ⟨(id,Q,D,z),⟨rfl,trivial⟩,hd,H⟩
  clear H;rintro ⟨a0,Q,D,z⟩ u w5 ⟨⟨hd1,V⟩,H⟩;refine ak (γ:=Unit) (fun _=>[(14,.int .i64 a0)]) (fun _ w'=>Hp w (cR g r a room A gc gz ce).foot w' [bI g r D room Q,iZ gc gz z,an g11 241 (a2 (aV s i)),an g7 86 (sc (bp n))] (cM gz g)) ⟨(),⟨rfl,trivial⟩,H⟩ ?_;clear H;rintro ⟨⟩ u w6 H;refine ak (γ:=Int × Ar × Value × Int) (fun (id,_)=>[(14,.int .i64 id)]) (fun (id,B,t,e) w'=>(gp U room A B (B7 U (k+1) i) ce e∧At B ((2*i:Nat):Int) id)∧Hp w (cR g r a room A gc gz ce).foot w' [bI g r t room B,iZ gc gz e] (cM gz g)) ?_ ?_
  ·refine H.ai 2 rfl KW HE ?_;replace H:=H.b7 [0,1,3] (L':=[bI g r D room Q,iZ gc gz z,an g7 86 (sc (bp n))]) (by decide) rfl;refine ax (γ:=Nat × Int × Ar × Value × Int) (fun (q,id,_)=>[(59,.int .i64 (q:Int)),(14,.int .i64 id)]) (fun (q,id,B,t,e) w'=>(q≤2∧gp U room A B (B7 U k (i+1)+q*HG U (B7 U k (i+1)) i) ce e∧Ext Q B∧At B ((2*i:Nat):Int) id)∧Hp w (cR g r a room A gc gz ce).foot w' [bI g r t room B,iZ gc gz e,an g7 86 (sc (bp n))] (cM gz g)) (fun (q,_)=>2 - q) (0,a0,Q,D,z) ⟨rfl,rfl,trivial⟩ ⟨⟨by decide,hd1.mono (Nat.le_add_right _ _),Ext.refl _,V.mono (by omega) (by omega)⟩,H⟩ ?_;clear H;rintro ⟨q,out,B,t,e⟩ u w7 ⟨⟨hq,I,hx2,F⟩,H⟩;refine au (fun h7=>?_) (fun h7=>?_)
   ·obtain ⟨b,rfl⟩:∃ b,q=bN b:=by
     have:q=0∨q=1:=by omega
     rcases this with rfl | rfl
     ·exact ⟨false,rfl⟩
     ·exact ⟨true,rfl⟩
    have hb1:bN b<2:=by unfold bN;cases b <;> decide
    refine ak (γ:=Int × Ar × Value × Int) (fun (id,_)=>[(14,.int .i64 id)]) (fun (id,M,C,o) w'=>(gp U room B M (HG U (B7 U k (i+1)) i) e o∧At M ((2*i:Nat):Int) id)∧Hp w (cR g r a room A gc gz ce).foot w' [bI g r C room M,iZ gc gz o,an g7 86 (sc (bp n))] (cM gz g)) ?_ ?_
    ·refine ak (γ:=Nat) (fun g16=>[(16,(ah g16)),(15,.int .i64 (bN b:Int))]) (fun g16 w'=>Hp w (cR g r a room A gc gz ce).foot w' [an g16 86 (sc (aV s i b)),bI g r t room B,iZ gc gz e,an g7 86 (sc (bp n))] (cM gz g)) ?_ ?_
     ·refine KX (aV s i) b ?_;refine H.alloc 86 (cs:=sc 0) br aY ?_;clear H;intro g16 w8 H;refine H.aW 0 rfl ?_;clear H;intro w9 H;exact ⟨g16,⟨rfl,rfl,trivial⟩,H⟩
     clear H;rintro g16 u w8 H;refine ak (γ:=Int × Ar × Value × Int) (fun (id,_)=>[(17,.int .i64 id)]) (fun (id,M,C,o) w'=>(gp U room B M (B7 U k (i+1)+(2^jY U ((2*(i+1):Nat):Int) - 1)) e o∧At M ((2*(i+1):Nat):Int) id)∧Hp w (cR g r a room A gc gz ce).foot w' [bI g r C room M,iZ gc gz o,an g7 86 (sc (bp n))] (cM gz g)) ?_ ?_
     ·refine H.fp [yX gc (ah gz),an g16 86 (sc (aV s i b)),an g7 86 (sc (bp n))] (fun u h=>h.HF [2,0,3] (by decide) rfl) eO (by kernel_rfl) ?_;clear H;intro w9 H;refine quiet _ (fun w H=>aa (lG _) ae) ?_;refine quiet _ (fun w H=>aB iW (H.get 0 rfl) ae) ?_;refine quiet (sv (aV s i b)) (fun w H=>H.ai 1 rfl aD av ae) ?_;refine quiet (sv (bp n)) (fun w H=>H.ai 2 rfl aD av ae) ?_;replace H:=H.b7 [1,2,0,3] (L':=[bI g r t room B,iZ gc gz e,an g16 86 (sc (aV s i b)),an g7 86 (sc (bp n))]) (by decide) rfl;have G:=ih (i+1) (aV s i b) t B e w9 (by omega) (T b) (yY s i b) (K b) I.two I.arn (AP (i_ H));rw[← hw1] at G;refine aj G ?_;rintro _ w10 ⟨M,C,o,id,rfl,⟨m,hid⟩,ht⟩;replace H:=((i_ H).b9 0 rfl ht).split;refine ⟨.inl (H.HF [1,2,3] (by decide) rfl),?_⟩;have a1:=(V.ext hx2).ext m.ext;refine aj (MB (U:=U) (l:=((2*(i+1):Nat):Int)) (f:=id) (p:=a0) m.arn hid.1 hid.2 a1.2 (j3 H)) ?_;rintro _ w11 ⟨A4,sv4,a3,e4,rfl,⟨E,O⟩,ht4⟩;replace H:=H.b9 0 rfl ht4;refine ⟨.inl (H.HF [1,2,3] (by decide) rfl),?_⟩;refine aj (c146 o a3 e4 _ (H.get 1 rfl)) ?_;rintro _ w12 ⟨rfl,a4⟩;replace H:=H.b9 1 rfl a4;refine ⟨.inl (H.HF [1,2,3] (by decide) rfl),?_⟩;exact ⟨(_,A4,sv4,_),⟨rfl,trivial⟩,⟨m.trans (lF E m.two),rn (fun he=>(O he).1) (by omega) hpow m.two⟩,H.b7 [0,1,3] (by decide) rfl⟩
     clear H;rintro ⟨own,M,C,o⟩ u w9 ⟨⟨m,hown⟩,H⟩;have hw2:(Value.int .i64 (IntKind.i64.wrap (IntKind.i64.wrap (2*(i:Int))+(bN b:Int))))=.int .i64 ((2*i+bN b:Nat):Int):=by
      rw[aH (x:=2*(i:Int)) (by omega) (by omega),aH (by omega) (by omega)]
      congr 1
     refine H.fp [yX gc (ah gz)] (fun u h=>h.tY 1 rfl) eO (by kernel_rfl) ?_;clear H;intro w10 H;refine quiet _ (fun w H=>aa (lG _) ae) ?_;refine quiet _ (fun w H=>aB iW (H.get 0 rfl) ae) ?_;have G:=Ou (U:=U) (f:=own) (k:=2*i+bN b) (gc:=gc) (gz:=gz) (g:=g) (r:=r) (sv:=C) (ce:=o) (w:=w10) (by omega) (hU _ (by omega)) m.two m.arn (by have:=hown.2;omega) (AP (i_ H));rw[← hw2] at G;refine aj G ?_;rintro _ w11 ⟨A4,sv4,ce4,a3,rfl,⟨E,O⟩,ht⟩;replace H:=((i_ H).b9 0 rfl ht).split;refine ⟨.inl (H.tY 1 rfl),?_⟩;have a5:=(F.ext m.ext).ext E.ext;refine aj (KO (U:=U) (l:=((2*i:Nat):Int)) (f:=out) (p:=a3) E.arn (by omega) a5.2 (by have:=O.2;omega) (j3 H)) ?_;rintro _ w12 ⟨A5,sv5,id5,e5,rfl,⟨hd5,hid5⟩,a4⟩;replace H:=H.b9 0 rfl a4;refine ⟨.inl (H.tY 1 rfl),?_⟩;refine aj (c146 ce4 id5 e5 _ (H.get 1 rfl)) ?_;rintro _ w13 ⟨rfl,ht6⟩;replace H:=H.b9 1 rfl ht6;refine ⟨.inl (H.tY 1 rfl),?_⟩;exact ⟨(_,A5,sv5,_),⟨rfl,trivial⟩,⟨((m.trans E).trans (lF hd5 E.two)).mono (by unfold HG;split <;> omega),rn (fun he=>(hid5 he).1) (by omega) (by omega) E.two⟩,H⟩
    clear H;rintro ⟨id,M,C,o⟩ u w8 ⟨⟨m,hid⟩,H⟩;exact ⟨(bN b+1,id,M,C,o),by show 2 - (bN b+1)<2 - bN b;omega,⟨up (by omega),rfl,trivial⟩,⟨by show bN b+1≤2;omega,(I.trans m).mono (by rw[Nat.succ_mul];omega),hx2.trans m.ext,hid⟩,H⟩
   ·obtain rfl:q=2:=by omega
    exact ⟨(out,B,t,e),⟨rfl,trivial⟩,⟨I,F⟩,H.b7 [0,1] (by decide) rfl⟩
  clear H;rintro ⟨out,B,t,e⟩ u w7 ⟨⟨I,F⟩,H⟩;exact ⟨B,t,e,out,rfl,⟨I,F⟩,(i_ H).bg⟩
theorem kW:cP prog 206=some false:=by kernel_rfl
theorem HI:bE prog 206=some 1:=by kernel_rfl
theorem HK:eL prog 206=some (.pointer none):=by kernel_rfl
theorem FE (s:Nat):∀ (j:Nat) v,(bK s)[j]?=some v→(sc s)[j]?=some v:=fun j v a=>by unfold bK at a;rwa [Array.getElem?_toList] at a
def aM (gz g gc g3 g6 g7:Nat)(X:Nat→Prop)(S:dX)(Bo:Option Addr)(co:Nat)(Bm:Option Addr)(cm:Nat):List cH:=
 [an gz 205 #[(ah g)],an g7 86 (sc (bp S.n)),an g3 41 (bo S.n (.slice Bo S.on.length co) (.slice Bm S.may.length cm)),an g6 206 #[(ah gc)],sl X (.slice Bm S.may.length cm) 4 S.may.length (flat bK S.may)]
structure HL (w:World) (gz gc g r g3 g6 g7:Nat) (X:Nat→Prop) (S:dX) (Bo:Option Addr) (co:Nat) (Bm:Option Addr) (cm:Nat) (sv:Value) (room:Int) (A:Ar) (ce:Int):Prop where
 head:∀ s ∈ aM gz g gc g3 g6 g7 X S Bo co Bm cm,s.ok w
 lt:∀ s ∈ aM gz g gc g3 g6 g7 X S Bo co Bm cm,∀ x,s.foot x→x<w.heap.size
 ok:(cR g r sv room A gc gz ce).ok w
 dis:∀ s ∈ aM gz g gc g3 g6 g7 X S Bo co Bm cm,∀ x,s.foot x→¬ (cR g r sv room A gc gz ce).foot x
section
variable {w0 w:World} {F:Nat→Prop} {L M:List cH} {gz gc g r g3 g6 g7:Nat} {X:Nat→Prop} {S:dX} {Bo Bm:Option Addr} {co cm:Nat} {sv:Value} {room:Int} {A:Ar} {ce:Int}
theorem HL.start (h:HL w gz gc g r g3 g6 g7 X S Bo co Bm cm sv room A ce):Hp w (cR g r sv room A gc gz ce).foot w [bI g r sv room A,iZ gc gz ce] (aM gz g gc g3 g6 g7 X S Bo co Bm cm):=
 (Hp.rN (M:=aM gz g gc g3 g6 g7 X S Bo co Bm cm) h.ok (fun x ⟨q,a,b⟩=>h.ok.2.1 q a x b) h.head h.lt h.dis).split
theorem B_ (H:Hp w0 F w (cR g r sv room A gc gz ce::L) (aM gz g gc g3 g6 g7 X S Bo co Bm cm)):HL w gz gc g r g3 g6 g7 X S Bo co Bm cm sv room A ce:=
 ⟨H.rok,H.rlt,H.get 0 rfl,fun s hs x b a=>H.rdis s hs _ (.head _) x b a⟩
theorem HM (H:Hp w0 F w (cR g r sv room A gc gz ce::L) (an gz 205 #[(ah g)]::M)):Lp w gz gc g r sv room A ce:=
 ⟨H.ro 0 rfl,H.get 0 rfl,fun h=>H.rdis _ (.head _) _ (.head _) gz rfl h⟩
end
theorem KY:enters prog 144=true:=by kernel_rfl
theorem MF {w:World}{gz gc g r g3 g6 g7:Nat}{X:Nat→Prop}{S:dX}{Bo Bm:Option Addr}{co cm:Nat}{a:Value}{room:Int}{A:Ar}{ce:Int}{U:Nat→Bool}(e:cL S)(y:∀ j,j<2*S.n→U j=true)(o:Nat)(O:o<16)(f:ce=0∨ce=5)(z:si U room A)(hit:HL w gz gc g r g3 g6 g7 X S Bo co Bm cm a room A ce) :
  bw prog 144 ([.int .i64 (o:Int)]++[(ah g7),(ah g3),(ah g6)]) w (FC w gz gc g r U room a A ce 0 (B7 U S.n 0)):=by
 refine ar (N:=33) func144 KY rfl rfl rfl (by simp) ?_;have H:=hit.start;have Q:S.may.length≤4:=by rw[e.len];exact e.few
 refine aw (fun w'=>Hp w (cR g r a room A gc gz ce).foot w' [bI g r a room A,iZ gc gz ce] (aM gz g gc g3 g6 g7 X S Bo co Bm cm)) ⟨(),trivial,H⟩ ?_;clear H;rintro ⟨⟩ u T H;refine ak (γ:=Nat) (fun g8=>[(6,(ah g8))]) (fun g8 w'=>Hp w (cR g r a room A gc gz ce).foot w' [an g8 86 (sc (bp S.n)),bI g r a room A,iZ gc gz ce] (aM gz g gc g3 g6 g7 X S Bo co Bm cm)) ?_ ?_
 ·refine fJ (H.ro 1 rfl) (bK (bp S.n)) aD av (FE _) ?_;refine H.alloc 86 (cs:=sc 0) br aY ?_;clear H;intro g8 B H;refine H.aW 0 rfl ?_;clear H;intro p H;exact ⟨g8,⟨rfl,trivial⟩,H⟩
 clear H;rintro g8 u B H;refine aw (fun w'=>Hp w (cR g r a room A gc gz ce).foot w' [an g8 86 (sc (hZ S o S.may.length)),bI g r a room A,iZ gc gz ce] (aM gz g gc g3 g6 g7 X S Bo co Bm cm)) ?_ ?_
 ·refine aa (fS _) ?_;refine aB dS ((aQ (H.ro 2 rfl) 2).trans rfl) ?_;refine ay underlying39 ?_;refine ax (γ:=Nat) (fun j=>[(13,.int .i64 (j:Int))]) (fun j w'=>j≤S.may.length∧Hp w (cR g r a room A gc gz ce).foot w' [an g8 86 (sc (hZ S o j)),bI g r a room A,iZ gc gz ce] (aM gz g gc g3 g6 g7 X S Bo co Bm cm)) (fun j=>S.may.length - j) 0 ⟨rfl,trivial⟩ ⟨Nat.zero_le _,H⟩ ?_;clear H;rintro j u p ⟨q,H⟩;refine au (fun D=>?_) (fun D=>?_)
  ·have h:j<S.may.length:=by omega
   refine aw (fun w'=>Hp w (cR g r a room A gc gz ce).foot w' [an g8 86 (sc (hZ S o (j+1))),bI g r a room A,iZ gc gz ce] (aM gz g gc g3 g6 g7 X S Bo co Bm cm)) ?_ ?_
   ·obtain ⟨b,s,t⟩:=lC (l:=S.may) (j:=j) (by omega);have d:hZ S o (j+1)=if o.testBit j then hZ S o j &&&b else hZ S o j:=by
     show (if o.testBit j then hZ S o j &&&S.may.getD j 0 else hZ S o j)=_;rw[List.getD_eq_getElem?_getD,s];rfl
    rw[d];generalize hZ S o j=C at H ⊢;have c:=nz (H.ro 4 rfl) fun x E=>H.rlt _ (.tail _ (.tail _ (.tail _ (.tail _ (.head _))))) x E;obtain ⟨V,F,i⟩:=c.A (by omega);refine ak (γ:=Nat) (fun g9=>[(8,(ah g9)),(7,.int .i64 (j:Int))]) (fun g9 w'=>Hp w (cR g r a room A gc gz ce).foot w' [an g9 86 (sc b),an g8 86 (sc C),bI g r a room A,iZ gc gz ce] (aM gz g gc g3 g6 g7 X S Bo co Bm cm)) ?_ ?_
    ·subst i;refine ao underlying39 av j rfl h (o':=F+j*4) (by omega) ?_;refine Sl.cA (Hp.aC _) c bP aD av j rfl s ?_;refine H.alloc 86 (cs:=sc 0) br aY ?_;clear H c;intro g9 v H;refine Hp.aW H 0 rfl ?_;clear H;intro Y H;exact ⟨g9,⟨rfl,rfl,trivial⟩,H⟩
    clear H c;rintro g9 u v H;refine iz (by omega) ?_;refine iy (b:=1) (Nat.lt_of_le_of_lt (Nat.div_le_self _ _) (by omega)) (by omega) ?_
    cases hob:o.testBit j with
    | true=>
     refine ag ((cG o j).trans hob) ?_;refine H.ai 1 rfl aD av ?_;refine H.ai 0 rfl aD av ?_;refine aj (c53 _ _ _) ?_;rintro _ Z ⟨rfl,G⟩;replace H:=H.same G;refine H.aW 1 rfl ?_;clear H;intro I H;exact ⟨(),trivial,by rw[if_pos rfl];exact H.forget⟩
    | false=>
     refine af ((cG o j).trans hob) ?_;exact ⟨(),trivial,by rw[if_neg (by decide)];exact H.forget⟩
   ·clear H;rintro ⟨⟩ u w7 H;exact ⟨j+1,by show S.may.length - (j+1)<S.may.length - j;omega,⟨up (by omega),trivial⟩,by show j+1≤S.may.length;omega,H⟩
  ·obtain rfl:j=S.may.length:=by omega
   exact ⟨(),trivial,H⟩
 clear H;rintro ⟨⟩ u p H;refine aB kW ((aQ (H.ro 3 rfl) 0).trans rfl) ?_;refine H.ai 0 rfl aD av ?_;refine fJ (H.ro 1 rfl) (bK (bp S.n)) aD av (FE _) ?_;refine aa (iS _) ?_;refine aB aF ((aQ (H.ro 2 rfl) 0).trans rfl) ?_;replace H:=i_ H.forget;refine aj (c145 e.n8 y S.n 0 (hZ S o S.may.length) a A ce _ (by omega) (kS S o _) (sC S o _) (fun j q=>absurd q (Nat.not_lt_zero _)) f z (HM H)) ?_;rintro _ v ⟨J,k,m,id,rfl,K,M⟩;exact ⟨J,k,m,id,rfl,K,(H.b9 0 rfl M).bg⟩
def mC (a o:Nat):Nat→Nat
 | 0=>0
 | m+1=>mC a o m+if o<m∧m &&&o=o then a else 0
def KZ (U:Nat→Bool)(n k o:Nat):Nat:=B7 U n 0+mC (B7 U n 0+(2^jY U 0 - 1)) o (2^k)+(jY U 0+Jc (jY U 0))+(2^jY U 0 - 1)
def Lq (U:Nat→Bool)(n k:Nat):Nat→Nat
 | 0=>0
 | o+1=>Lq U n k o+if o=0 then 0 else KZ U n k o
theorem FF {gz:Nat}{w:World}{kk:Value→World→Prop}(h:kk (.agg #[(ah gz),.int .i64 0]) w):b8 prog 208 [(0,(ah gz))] w kk:=bt (fun w=>by kernel_rfl) h
theorem yZ {g3 g6 g7:Nat}{w:World}{kk:Value→World→Prop}(h:kk (.func (.func 144) #[] #[(ah g7),(ah g3),(ah g6)]) w) :
  cw prog (.func 144) [] [(ah g7),(ah g3),(ah g6)] w kk:=by
 unfold cw;exact ⟨_,w,by kernel_rfl,h⟩
theorem HN (o j:Nat):(o*2^16).testBit j=true→16≤j∧o.testBit (j - 16)=true:=by
 rw[Nat.testBit_mul_two_pow,Bool.and_eq_true,decide_eq_true_eq];exact id
theorem K0:enters prog 107=true:=by kernel_rfl
set_option maxHeartbeats 4000000 in
theorem c107 {S:dX}(hS:cL S){w:World}{gz g r:Nat}{X:Nat→Prop}{Bo Bm:Option Addr}{co cm:Nat}{b:Value}{room:Int}{A:Ar}{U:Nat→Bool}(hU:∀ j,j<2*S.n→U j=true)(hUk:∀ j,j<S.may.length→U (16+j)=true)(hA:si U room A)(hz:Dp w gz g r b room A)(hXo:(sl X (.slice Bo S.on.length co) 4 S.on.length (flat bK S.on)).ok w)(hXm:(sl X (.slice Bm S.may.length cm) 4 S.may.length (flat bK S.may)).ok w)(hX:∀ x,X x→x<w.heap.size∧¬ (bI g r b room A).foot x) :
  bw prog 107 [(ah gz),r4 S.n (.slice Bo S.on.length co) (.slice Bm S.may.length cm)] w fun v w'=>∃ A' sv' id e,v=.tuple #[.int .i64 id,.int .i64 e]∧(e=0∨e=5∧room<(A.length:Int)+Lq U S.n S.may.length (2^S.may.length))∧jS w w' (bI g r b room A) (bI g r sv' room A'):=by
 refine ar (N:=114) func107 K0 rfl rfl rfl (by simp) ?_;have h4:S.may.length≤4:=by rw[hS.len];exact hS.few
 have h2k:2^S.may.length≤2^4:=Nat.pow_le_pow_right (by decide) h4;have H:Hp w (bI g r b room A).foot w [bI g r b room A] [an gz 205 #[(ah g)],sl X (.slice Bo S.on.length co) 4 S.on.length (flat bK S.on),sl X (.slice Bm S.may.length cm) 4 S.may.length (flat bK S.may)]:=by
  refine Hp.rN hz.ok (fun x D=>q5 hz.ok x D) ?_ ?_ ?_
  ·intro s hs;simp only[List.mem_cons,List.not_mem_nil,or_false] at hs;rcases hs with rfl | rfl | rfl
   ·exact hz.z
   ·exact hXo
   ·exact hXm
  ·intro s hs x D;simp only[List.mem_cons,List.not_mem_nil,or_false] at hs;rcases hs with rfl | rfl | rfl
   ·have D:x=gz:=D;subst D;exact jj hz.z
   ·exact (hX x D).1
   ·exact (hX x D).1
  ·intro s hs x D a4;simp only[List.mem_cons,List.not_mem_nil,or_false] at hs;rcases hs with rfl | rfl | rfl
   ·have D:x=gz:=D;subst D;exact hz.dis a4
   ·exact (hX x D).2 a4
   ·exact (hX x D).2 a4
 refine ak (γ:=Nat) (fun g3=>[(3,(ah g3))]) (fun g3 w'=>Hp w (bI g r b room A).foot w' [an g3 41 (bo S.n (.slice Bo S.on.length co) (.slice Bm S.may.length cm)),bI g r b room A] [an gz 205 #[(ah g)],sl X (.slice Bo S.on.length co) 4 S.on.length (flat bK S.on),sl X (.slice Bm S.may.length cm) 4 S.may.length (flat bK S.may)]) ?_ ?_
 ·refine H.box 41 _ (cs:=bo S.n (.slice Bo S.on.length co) (.slice Bm S.may.length cm)) rfl ?_;clear H;intro g3 w1 H;exact ⟨g3,⟨rfl,trivial⟩,H⟩
 clear H;rintro g3 u w1 H;refine aw (fun w'=>Hp w (bI g r b room A).foot w' [an g3 41 (bo S.n (.slice Bo S.on.length co) (.slice Bm S.may.length cm)),bI g r b room A] [an gz 205 #[(ah g)],sl X (.slice Bm S.may.length cm) 4 S.may.length (flat bK S.may)]) ?_ ?_
 ·have hat:fY w1 S Bo co Bm cm:=⟨nz (H.ro 1 rfl) fun x D=>H.rlt _ (.tail _ (.head _)) x D,nz (H.ro 2 rfl) fun x D=>H.rlt _ (.tail _ (.tail _ (.head _))) x D⟩;refine pE ?_;refine af rfl ?_;refine H.ai 0 rfl dw bL ?_;refine af rfl ?_;refine aj (He hS Bo co _ cm _ hat) ?_;rintro _ w2 ⟨rfl,hk⟩;replace H:=H.same hk
  iterate 3 refine af rfl ?_
  exact ⟨(),trivial,H.ey (by simp)⟩
 clear H;rintro ⟨⟩ u w2 H;refine ak (γ:=Nat × Nat) (fun (gc,g6)=>[(6,(ah g6))]) (fun (gc,g6) w'=>Hp w (bI g r b room A).foot w' [an g6 206 #[(ah gc)],iZ gc gz 0,an g3 41 (bo S.n (.slice Bo S.on.length co) (.slice Bm S.may.length cm)),bI g r b room A] [an gz 205 #[(ah g)],sl X (.slice Bm S.may.length cm) 4 S.may.length (flat bK S.may)]) ?_ ?_
 ·refine FF ?_;refine H.box 208 _ (cs:=#[(ah gz),.int .i64 0]) rfl ?_;clear H;intro gc w3 H;refine H.alloc 206 (cs:=#[.pointer none]) HK rfl ?_;clear H;intro g6 w4 H;refine H.store 0 rfl HI (Nat.le_of_ble_eq_true rfl) rfl ?_;clear H;intro w5 H;exact ⟨(gc,g6),⟨rfl,trivial⟩,H⟩
 clear H;rintro ⟨gc,g6⟩ u w3 H;refine ak (γ:=Nat) (fun g7=>[(7,(ah g7))]) (fun g7 w'=>Hp w (bI g r b room A).foot w' [bI g r b room A,iZ gc gz 0] (aM gz g gc g3 g6 g7 X S Bo co Bm cm)) ?_ ?_
 ·refine aa (iS _) ?_;refine H.load 2 rfl aF rfl ?_;refine aj (ow S.n hS.n8 _) ?_;rintro _ w4 ⟨rfl,hk⟩;replace H:=H.same hk;refine H.alloc 86 (cs:=sc 0) br aY ?_;clear H;intro g7 w5 H;refine H.aW 0 rfl ?_;clear H;intro w6 H;have H1:=H.freeze.freeze;have H2:=(H1.front 1 rfl).freeze;have H3:=H2.b7 [1,0] (L':=[bI g r b room A,iZ gc gz 0]) (by decide) rfl;exact ⟨g7,⟨rfl,trivial⟩,H3.ey (by intro s hs;simp only[aM,List.mem_cons,List.not_mem_nil,or_false] at hs ⊢;rcases hs with rfl | rfl | rfl | rfl | rfl <;> simp)⟩
 clear H;rintro g7 u w4 H;refine ak (γ:=Unit) (fun _=>[(9,.int .i64 0)]) (fun _ w'=>Hp w (bI g r b room A).foot w' [bI g r b room A,iZ gc gz 0] (aM gz g gc g3 g6 g7 X S Bo co Bm cm)) ⟨(),⟨rfl,trivial⟩,H⟩ ?_;clear H;rintro ⟨⟩ u w5 H;refine ak (γ:=Unit) (fun _=>[(10,.func (.func 144) #[] #[(ah g7),(ah g3),(ah g6)])]) (fun _ w'=>Hp w (bI g r b room A).foot w' [bI g r b room A,iZ gc gz 0] (aM gz g gc g3 g6 g7 X S Bo co Bm cm)) ?_ ?_
 ·refine yZ ?_;exact ⟨(),⟨rfl,trivial⟩,H⟩
 clear H;rintro ⟨⟩ u w6 H;have hcA:gp U room A A 0 0 0:=gp.refl hA (.inl rfl) 0;refine ak (γ:=Int × Ar × Value × Int) (fun (id,_)=>[(9,.int .i64 id)]) (fun (id,J,B,k) w'=>(gp U room A J (Lq U S.n S.may.length (2^S.may.length)) 0 k)∧Hp w (bI g r b room A).foot w' [bI g r B room J,iZ gc gz k] (aM gz g gc g3 g6 g7 X S Bo co Bm cm)) ?_ ?_
 ·refine ax (γ:=Nat × Int × Ar × Value × Int) (fun (o,id,_)=>[(11,.int .i64 (o:Int)),(9,.int .i64 id)]) (fun (o,id,J,B,k) w'=>((1≤o∧o≤2^S.may.length)∧gp U room A J (Lq U S.n S.may.length o) 0 k∧At J 0 id)∧Hp w (bI g r b room A).foot w' [bI g r B room J,iZ gc gz k] (aM gz g gc g3 g6 g7 X S Bo co Bm cm)) (fun (o,_)=>2^S.may.length - o) (1,0,A,b,0) ⟨rfl,rfl,trivial⟩ ⟨⟨⟨by decide,Nat.one_le_two_pow⟩,hcA,At.end (.inl rfl) (by decide) (by decide)⟩,H⟩ ?_;clear H;rintro ⟨o,out,J,B,k⟩ u w7 ⟨⟨⟨ho1,ho2⟩,O,hout⟩,H⟩;refine aa (fS _) ?_;refine aB dS ((aQ (H.ro 2 rfl) 2).trans rfl) ?_;refine ay underlying39 ?_;refine c6 (by omega) ?_;refine au (fun h7=>?_) (fun h7=>?_)
  ·have ho:o<2^S.may.length:=by omega
   refine ak (γ:=Int × Ar × Value × Int) (fun (id,_)=>[(9,.int .i64 id)]) (fun (id,I,C,q) w'=>(gp U room J I (KZ U S.n S.may.length o) k q∧At I 0 id)∧Hp w (bI g r b room A).foot w' [bI g r C room I,iZ gc gz q] (aM gz g gc g3 g6 g7 X S Bo co Bm cm)) ?_ ?_
   ·refine ak (γ:=Int × Ar × Value × Int) (fun (id,_)=>[(12,.int .i64 id)]) (fun (id,I,C,q) w'=>(gp U room J I (B7 U S.n 0) k q∧At I 0 id)∧Hp w (bI g r b room A).foot w' [bI g r C room I,iZ gc gz q] (aM gz g gc g3 g6 g7 X S Bo co Bm cm)) ?_ ?_
    ·refine ff (args:=[.int .i64 (o:Int)]) (cap:=[(ah g7),(ah g3),(ah g6)]) (MF hS hU o (by omega) O.two O.arn (B_ (i_ H))) ?_;rintro _ w8 ⟨I,C,q,id,rfl,h1,ht⟩;exact ⟨(id,I,C,q),⟨rfl,trivial⟩,h1,((i_ H).b9 0 rfl ht).split⟩
    clear H;rintro ⟨f,I,C,q⟩ u w8 ⟨⟨Q,hf⟩,H⟩;obtain ⟨a,ha⟩:∃ a,B7 U S.n 0+(2^jY U 0 - 1)=a:=⟨_,rfl⟩;refine ak (γ:=Int × Ar × Value × Int) (fun (id,_)=>[(12,.int .i64 id)]) (fun (id,K,E,d) w'=>(gp U room I K (mC a o (2^S.may.length)) q d∧At K 0 id)∧Hp w (bI g r b room A).foot w' [bI g r E room K,iZ gc gz d] (aM gz g gc g3 g6 g7 X S Bo co Bm cm)) ?_ ?_
    ·refine ax (γ:=Nat × Int × Ar × Value × Int) (fun (m,id,_)=>[(13,.int .i64 (m:Int)),(12,.int .i64 id)]) (fun (m,id,K,E,d) w'=>((o+1≤m∧m≤2^S.may.length)∧gp U room I K (mC a o m) q d∧At K 0 id)∧Hp w (bI g r b room A).foot w' [bI g r E room K,iZ gc gz d] (aM gz g gc g3 g6 g7 X S Bo co Bm cm)) (fun (m,_)=>2^S.may.length - m) (o+1,f,I,C,q) ⟨up (by omega),rfl,trivial⟩ ⟨⟨⟨Nat.le_refl _,by omega⟩,gp.refl Q.arn Q.two _,hf⟩,H⟩ ?_;clear H;rintro ⟨m,f2,K,E,d⟩ u w9 ⟨⟨⟨hm1,hm2⟩,y,Y⟩,H⟩;refine aa (fS _) ?_;refine aB dS ((aQ (H.ro 2 rfl) 2).trans rfl) ?_;refine ay underlying39 ?_;refine c6 (by omega) ?_;refine au (fun h8=>?_) (fun h8=>?_)
     ·have hm:m<2^S.may.length:=by omega
      refine ak (γ:=Int × Ar × Value × Int) (fun (id,_)=>[(12,.int .i64 id)]) (fun (id,M,F,t) w'=>(gp U room K M (if o<m∧m &&&o=o then a else 0) d t∧At M 0 id)∧Hp w (bI g r b room A).foot w' [bI g r F room M,iZ gc gz t] (aM gz g gc g3 g6 g7 X S Bo co Bm cm)) ?_ ?_
      ·refine iy (by omega) (by omega) ?_;refine cg (fun he=>?_) (fun he=>?_)
       ·have he:((m &&&o:Nat):Int)=(o:Int):=he;have he:m &&&o=o:=by omega
        rw[if_pos ⟨by omega,he⟩];refine H.fp [yX gc (ah gz)] (fun u h=>h.tY 1 rfl) eO (by kernel_rfl) ?_;clear H;intro a5 H;refine quiet _ (fun w H=>aB kW ((aQ (H.ro 3 rfl) 0).trans rfl) ae) ?_;refine quiet _ (fun w H=>aB kW ((aQ (H.ro 3 rfl) 0).trans rfl) ae) ?_;refine quiet _ (fun w H=>aa (lG _) ae) ?_;refine quiet _ (fun w H=>aB iW (H.get 0 rfl) ae) ?_;refine ff (args:=[.int .i64 (m:Int)]) (cap:=[(ah g7),(ah g3),(ah g6)]) (MF hS hU m (by omega) y.two y.arn (B_ (i_ H))) ?_;rintro _ w11 ⟨M,F,t,id,rfl,⟨i,hid⟩,ht⟩;replace H:=((i_ H).b9 0 rfl ht).split;refine ⟨.inl (H.tY 1 rfl),?_⟩;refine aj (MB (U:=U) (l:=0) (f:=f2) (p:=id) i.arn (by decide) (Y.ext i.ext).2 hid.2 (j3 H)) ?_;rintro _ w12 ⟨A6,Z,a0,e6,rfl,⟨a1,G⟩,a2⟩;replace H:=H.b9 0 rfl a2;refine ⟨.inl (H.tY 1 rfl),?_⟩;refine aj (c146 t a0 e6 _ (H.get 1 rfl)) ?_;rintro _ w13 ⟨rfl,a3⟩;replace H:=H.b9 1 rfl a3;refine ⟨.inl (H.tY 1 rfl),?_⟩;exact ⟨(_,A6,Z,_),⟨rfl,trivial⟩,⟨(i.trans (lF a1 i.two)).mono (by omega),rn (fun he=>(G he).1) (by omega) (by omega) i.two⟩,H⟩
       ·have he:((m &&&o:Nat):Int)≠(o:Int):=he;exact ⟨(f2,K,E,d),⟨rfl,trivial⟩,⟨gp.refl y.arn y.two _,Y⟩,H⟩
      clear H;rintro ⟨f3,M,F,t⟩ u a5 ⟨⟨i,hf3⟩,H⟩;exact ⟨(m+1,f3,M,F,t),by show 2^S.may.length - (m+1)<2^S.may.length - m;omega,⟨up (by omega),rfl,trivial⟩,⟨⟨by show o+1≤m+1;omega,by show m+1≤_;omega⟩,y.trans i,hf3⟩,H⟩
     ·obtain rfl:m=2^S.may.length:=by omega
      exact ⟨(f2,K,E,d),⟨rfl,trivial⟩,⟨y,Y⟩,H⟩
    clear H;rintro ⟨f2,K,E,d⟩ u w9 ⟨⟨y,Y⟩,H⟩;refine ak (γ:=Int × Ar × Value × Int) (fun (id,_)=>[(14,.int .i64 id)]) (fun (id,M,F,t) w'=>(gp U room K M (jY U 0+Jc (jY U 0)) d t∧At M 0 id)∧Hp w (bI g r b room A).foot w' [bI g r F room M,iZ gc gz t] (aM gz g gc g3 g6 g7 X S Bo co Bm cm)) ?_ ?_
    ·refine H.fp [yX gc (ah gz)] (fun u h=>h.tY 1 rfl) eO (by kernel_rfl) ?_;clear H;intro a5 H;refine quiet _ (fun w H=>aB kW ((aQ (H.ro 3 rfl) 0).trans rfl) ae) ?_;refine quiet _ (fun w H=>aB kW ((aQ (H.ro 3 rfl) 0).trans rfl) ae) ?_;refine quiet _ (fun w H=>aa (lG _) ae) ?_;refine quiet _ (fun w H=>aB iW (H.get 0 rfl) ae) ?_;refine quiet _ (fun w H=>aB kW ((aQ (H.ro 3 rfl) 0).trans rfl) ae) ?_;refine quiet _ (fun w H=>aB kW ((aQ (H.ro 3 rfl) 0).trans rfl) ae) ?_;refine quiet _ (fun w H=>aa (lG _) ae) ?_;refine quiet _ (fun w H=>aB iW (H.get 0 rfl) ae) ?_;refine quiet _ (fun w H=>ny (n:=16) (by decide) (by omega) ae) ?_;refine H.aX dH rfl ?_;clear H;intro gs w11 H;replace H:=H.py (l:=1) (sz:=1) rfl (by decide);refine ⟨.inl (H.tY 2 rfl),?_⟩;obtain ⟨Sx,hs,hSx⟩:=H.sE 0 1 (by decide) rfl rfl;have hlt:o*2^16<2^24:=by omega
     refine aj (ME (U:=U) (m:=o*2^16) hlt (fun j _ hj=>by
      obtain ⟨h1,h2⟩:=HN o j hj;have h3:j - 16<S.may.length:=I1 ho h2;have:=hUk (j - 16) h3
      rwa [show 16+(j - 16)=j by omega] at this) _ _ K E _ Sx y.arn (j3 (H.front 1 rfl)) hs hSx) ?_
     rintro _ w12 ⟨M,F,T,e5,rfl,⟨i,hof⟩,ht5⟩;replace H:=(H.b9 1 rfl ht5).forget;refine ⟨.inl (H.tY 1 rfl),?_⟩;refine aj (c146 d T e5 _ (H.get 1 rfl)) ?_;rintro _ w13 ⟨rfl,a2⟩;replace H:=H.b9 1 rfl a2;refine ⟨.inl (H.tY 1 rfl),?_⟩;have V:=lF i y.two;have hp:(nU d e5 T=0∨Sg M (nU d e5 T))∧0≤aR M (nU d e5 T):=by
      rcases rl (e:=e5) T y.two with ⟨he,h⟩ | h
      ·have:=(hof he).2 (by simp);rw[h];exact ⟨.inr this.sg,by have:=this.lvl;omega⟩
      ·rw[h];exact ⟨.inl rfl,by rw[ke (.inl rfl)];omega⟩
     generalize nU d e5 T=p at hp;generalize tX d e5=t at V H;have hf5:=Y.ext V.ext;refine aj (c148 (U:=U) (f:=f2) (p:=p) (c:=Jc (jY U 0)) V.arn hf5.2 hp.2 hp.1 rfl (.inr (.inr (xg (kU U (by have:=hf5.2;have:=hp.2;omega))))) (j3 H)) ?_;rintro _ w14 ⟨A6,Z,a0,e6,rfl,⟨a1,G⟩,a3⟩;replace H:=H.b9 0 rfl a3;refine ⟨.inl (H.tY 1 rfl),?_⟩;refine aj (c146 t a0 e6 _ (H.get 1 rfl)) ?_;rintro _ w15 ⟨rfl,ht8⟩;replace H:=H.b9 1 rfl ht8;refine ⟨.inl (H.tY 1 rfl),?_⟩;exact ⟨(_,A6,Z,_),⟨rfl,trivial⟩,⟨V.trans (lF a1 V.two),rn (fun he=>(G he).1.mono (by omega) (by have:=hf5.2;have:=hp.2;omega)) (by omega) (by omega) V.two⟩,H⟩
    clear H;rintro ⟨tg,M,F,t⟩ u a5 ⟨⟨i,htg⟩,H⟩;refine H.fp [yX gc (ah gz)] (fun u h=>h.tY 1 rfl) eO (by kernel_rfl) ?_;clear H;intro w11 H;refine quiet _ (fun w H=>aB kW ((aQ (H.ro 3 rfl) 0).trans rfl) ae) ?_;refine quiet _ (fun w H=>aB kW ((aQ (H.ro 3 rfl) 0).trans rfl) ae) ?_;refine quiet _ (fun w H=>aa (lG _) ae) ?_;refine quiet _ (fun w H=>aB iW (H.get 0 rfl) ae) ?_;have hout5:=((hout.ext Q.ext).ext y.ext).ext i.ext;refine aj (KO (U:=U) (l:=0) (f:=out) (p:=tg) i.arn (by decide) hout5.2 htg.2 (j3 H)) ?_;rintro _ w12 ⟨A6,Z,a0,e6,rfl,⟨a1,G⟩,a2⟩;replace H:=H.b9 0 rfl a2;refine ⟨.inl (H.tY 1 rfl),?_⟩;refine aj (c146 t a0 e6 _ (H.get 1 rfl)) ?_;rintro _ w13 ⟨rfl,a3⟩;replace H:=H.b9 1 rfl a3;refine ⟨.inl (H.tY 1 rfl),?_⟩;exact ⟨(_,A6,Z,_),⟨rfl,trivial⟩,⟨(((Q.trans y).trans i).trans (lF a1 i.two)).mono (by unfold KZ;rw[ha];split <;> omega),rn (fun he=>(G he).1) (by omega) (by omega) i.two⟩,H⟩
   clear H;rintro ⟨id,I,C,q⟩ u w8 ⟨⟨Q,hid⟩,H⟩;exact ⟨(o+1,id,I,C,q),by show 2^S.may.length - (o+1)<2^S.may.length - o;omega,⟨up (by omega),rfl,trivial⟩,⟨⟨by show 1≤o+1;omega,by show o+1≤_;omega⟩,(O.trans Q).mono (by show _≤Lq U S.n S.may.length o+_;rw[if_neg (by omega)];exact Nat.le_refl _),hid⟩,H⟩
  ·obtain rfl:o=2^S.may.length:=by omega
   exact ⟨(out,J,B,k),⟨rfl,trivial⟩,O,H⟩
 clear H;rintro ⟨out,J,B,k⟩ u w7 ⟨O,H⟩;have herr:=O.err;refine aw (fun w'=>k=0∧Hp w (bI g r b room A).foot w' [bI g r B room J,iZ gc gz k] (aM gz g gc g3 g6 g7 X S Bo co Bm cm)) ?_ ?_
 ·refine jZ (H.ro 3 rfl) kW rfl ?_;refine aa (mV _) ?_;refine H.load 1 rfl nV rfl ?_;refine df (fun he=>?_) (fun he=>?_)
  ·refine H.draw eO (by kernel_rfl) ?_;clear H;intro w8 H;refine quiet _ (fun w H=>aB kW ((aQ (H.ro 3 rfl) 0).trans rfl) ae) ?_;refine quiet _ (fun w H=>aa (mV _) ae) ?_;refine quiet _ (fun w H=>H.load 1 rfl nV rfl ae) ?_;exact ⟨J,B,0,k,rfl,by have he:k≠0:=he;omega,H.bg⟩
  ·exact ⟨(),trivial,he,H⟩
 clear H;rintro ⟨⟩ u w8 ⟨rfl,H⟩;exact ⟨J,B,out,0,rfl,.inl rfl,H.bg⟩
def MG (n k:Nat)(j:Nat):Bool:=decide (j<2*n)||(decide (16≤j)&&decide (j<16+k))
def Du (n k:Nat):Nat:=Lq (MG n k) n k (2^k)
theorem FG:(List.range 4).all (fun n=>(List.range 3).all fun k=>decide (Du n k≤20000))=true:=by kernel_rfl
theorem HO {n k:Nat}(a:n≤3)(b:k≤2):Du n k≤20000:=by
 have h:=FG;rw[List.all_eq_true] at h;have h:=h n (List.mem_range.2 (by omega));rw[List.all_eq_true] at h;exact of_decide_eq_true (h k (List.mem_range.2 (by omega)))
def MH (S:dX)(nodes:Int)(R:List Rw)(e:Int):Prop:=(e=0∧(∀ x,x ∈ R↔eH S x)∧R.Nodup)∨(e=5∧R=[]∧nodes<(Du S.n S.may.length:Int))
theorem MI:enters prog 86=true:=by kernel_rfl
theorem O7 {S:dX}(s:cL S)(k:S.n≤7)(nodes:Int)(t:0≤nodes)(y:nodes≤20000)(Bo:Option Addr)(co:Nat)(Bm:Option Addr)(cm:Nat)(w:World)(l:fY w S Bo co Bm cm) :
  bw prog 86 [r4 S.n (.slice Bo S.on.length co) (.slice Bm S.may.length cm),.int .i64 nodes] w fun v w'=>∃ A c R e,v=.tuple #[.slice A R.length c,.int .i64 e]∧MH S nodes R e∧eE w w' (own 50 3 (.slice A R.length c) R.length (flat a6 R)):=by
 refine ar (N:=31) func86 MI rfl rfl rfl (by simp) ?_;have H:=Hp.aC w;refine ak (γ:=Nat) (fun g2=>[(2,(ah g2))]) (fun g2 w'=>Hp w ab w' [an g2 41 (bo S.n (.slice Bo S.on.length co) (.slice Bm S.may.length cm))] []) ?_ ?_
 ·refine H.box 41 _ (cs:=bo S.n (.slice Bo S.on.length co) (.slice Bm S.may.length cm)) rfl ?_;clear H;intro g2 B H;exact ⟨g2,⟨rfl,trivial⟩,H⟩
 clear H;rintro g2 u B H;refine ak (γ:=Nat × Nat × Nat) (fun (gz,g,r)=>[(6,(ah gz)),(7,.int .i64 0)]) (fun (gz,g,r) w'=>Hp w ab w' [bI g r (.slice none 0 0) nodes [],an gz 205 #[(ah g)],an g2 41 (bo S.n (.slice Bo S.on.length co) (.slice Bm S.may.length cm))] []) ?_ ?_
 ·refine aj (Og nodes t y _) ?_;rintro _ C ⟨gz,g,r,rfl,m⟩;exact ⟨(gz,g,r),⟨rfl,rfl,trivial⟩,(H.bq m).split.front 1 rfl⟩
 clear H;rintro ⟨gz,g,r⟩ u C H;refine aw (fun w'=>Hp w ab w' [bI g r (.slice none 0 0) nodes [],an gz 205 #[(ah g)],an g2 41 (bo S.n (.slice Bo S.on.length co) (.slice Bm S.may.length cm))] []) ?_ ?_
 ·refine af rfl ?_;exact ⟨(),trivial,H⟩
 clear H;rintro ⟨⟩ u o H;refine aw (fun w'=>Hp w ab w' [an g2 41 (bo S.n (.slice Bo S.on.length co) (.slice Bm S.may.length cm))] []) ?_ ?_
 ·refine H.ai 2 rfl dw bL ?_;have p:=H.keeps;have D:Dp o gz g r (.slice none 0 0) nodes []:=⟨H.get 1 rfl,H.get 0 rfl,fun h=>(List.pairwise_cons.1 H.dis).1 _ (.head _) gz h rfl⟩;have f:si (MG S.n S.may.length) nodes []:=⟨Jz t y,rfl,fun i d h=>by simp[slot] at h⟩;refine aj (c107 (X:=fun x=>x<w.heap.size) s (U:=MG S.n S.may.length) (fun j z=>by unfold MG;rw[decide_eq_true z];rfl) (fun j z=>by unfold MG;rw[decide_eq_true (show 16≤16+j by omega),decide_eq_true (show 16+j<16+S.may.length by omega)];simp) f D
   ((sl _ _ _ _ _).bQ w o (fun x b=>p.old x b id) l.on) ((sl _ _ _ _ _).bQ w o (fun x b=>p.old x b id) l.may)
   (fun x b=>⟨Nat.lt_of_lt_of_le b p.size,fun h=>by rcases H.new _ (.head _) x h with h | h;exact absurd b (Nat.not_lt.2 h);exact h⟩)) ?_
  rintro _ E ⟨J,F,id,e,rfl,he,G⟩;replace H:=(H.b9 0 rfl G).b7 [2] (L':=[an g2 41 (bo S.n (.slice Bo S.on.length co) (.slice Bm S.may.length cm))]) (by decide) rfl;refine df (fun a=>?_) (fun a=>?_)
  ·have a:e≠0:=a;refine ⟨none,0,[],e,rfl,.inr ⟨by omega,rfl,?_⟩,((H.bx 50 3).only).out⟩;rcases he with he | ⟨_,he⟩
   ·exact absurd he a
   ·unfold Du;simpa using he
  ·exact ⟨(),trivial,H⟩
 clear H;rintro ⟨⟩ u E H;refine H.ai 0 rfl dw bL ?_;refine aj (Od s k Bo co Bm cm _ (l.same H.keeps)) ?_;rintro _ K ⟨A,c,R,rfl,⟨I,q,_⟩,m⟩;exact ⟨A,c,R,0,rfl,.inl ⟨rfl,I,q⟩,((H.bq m).only).out⟩
end Go.Proofs.YtpjihhgjbbihkaaGreatDoor
namespace Go.Proofs.YtpjihhgjbbihkaaGreatDoor
open Go.Dk
set_option maxRecDepth 100000
def HP (S:dX)(R:List Rw)(Q:a7):Prop:=∀ row,row ∈ Q↔oV S R S.on.length 0 row
theorem rp {n out p:Nat}{R:List Rw}:∀ j,(cZ n R out p j).Pairwise (· < ·)∧∀ c ∈ cZ n R out p j,c<j
 | 0=>⟨.nil,by intro c d;cases d⟩
 | j+1=>by
  obtain ⟨e,f⟩:=rp (n:=n) (out:=out) (p:=p) (R:=R) j;refine ⟨?_,fun c d=>(kC.1 d).1⟩;show (match R[j]? with | some x=>_ | none=>_:List Nat).Pairwise (· < ·);split
  ·split
   ·exact List.pairwise_append.2 ⟨e,List.pairwise_singleton _ _,fun a g b h=>by rw[List.mem_singleton.1 h];exact f a g⟩
   ·exact e
  ·exact e
theorem tZ {S:dX}{R:List Rw}{Q:a7}(d:HP S R Q)(g:R.length≤4000):er (R.length:Int) Q:=by
 have key:∀ row ∈ Q,∃ o p,row=kT (cZ S.n R o p R.length):=fun row b=>by
  rcases (d row).1 b with ⟨o,a,p,_,_,_,rfl⟩ | ⟨a,p,_,_,rfl⟩
  ·exact ⟨o,p,rfl⟩
  ·exact ⟨_,p,rfl⟩
 refine ⟨fun r b=>?_,fun r b k e=>?_,by omega,by omega⟩
 ·obtain ⟨o,p,rfl⟩:=key r b;unfold oS kT;rw[List.pairwise_map];exact (rp _).1.imp fun h=>by omega
 ·obtain ⟨o,p,rfl⟩:=key r b;obtain ⟨c,f,rfl⟩:=List.mem_map.1 e;have:=(rp _).2 c f;omega
theorem K1 {S:dX}(e:cL S){o a p:Nat}(g:S.on[o]?=some a)(l:a.testBit p=true):j2 S (2^S.n - 1,p,2^o):=by
 have h:=(List.getElem?_eq_some_iff.1 g).1;have d:o<S.may.length:=by rw[e.len];exact h
 have i:=List.getElem?_eq_getElem d;have f:Ay S.n S.may[o] (2^S.n - 1,p):=((Lv.zero e.n8 (e.all _ (List.getElem_mem d))).2 ⟨rfl,e.sub o a _ g i p l⟩).1;refine ⟨f.lt,f.sub,Nat.two_pow_pos o,Nat.pow_lt_pow_right (by decide) h,fun j b k c=>?_⟩;rw[Nat.testBit_two_pow] at k;have:o=j:=of_decide_eq_true k;subst this;rw[i] at c;injection c with c;rw[← c];exact f.cI
theorem Dv {S:dX}(c:cL S){R:List Rw}(l:∀ x,x ∈ R↔eH S x){Q:a7}(m:HP S R Q):[] ∉ Q:=fun h=>by
 rcases (m []).1 h with ⟨o,a,p,j,g,k,he⟩ | ⟨a,p,g,_⟩
 ·have d:=K1 c g k;have i:=(l _).2 (tS c d);obtain ⟨_,q,r⟩:=qq c d;have e:=List.idxOf_lt_length_iff.2 i;have f:p<2^S.n:=fA c.n8 (c.all _ (List.getElem_mem (show o<S.may.length by rw[c.len];exact j))) (c.sub o a _ g (List.getElem?_eq_getElem (show o<S.may.length by rw[c.len];exact j)) p k);have:R.idxOf (nQ S (2^S.n - 1) p (2^o)) ∈ cZ S.n R o p R.length:=kC.2 ⟨e,_,by rw[List.getElem?_eq_getElem e,List.getElem_idxOf],r o (by rw[Nat.testBit_two_pow];simp),q p (by
   rw[bD c.n8];exact ⟨f,by rw[Nat.and_two_pow_sub_one_eq_mod];exact Nat.mod_eq_of_lt f⟩)⟩
  have s:cZ S.n R o p R.length=[]:=yU (a:=cZ S.n R o p R.length) (b:=[]) he.symm;rw[s] at this
  cases this
 ·have:=(List.getElem?_eq_some_iff.1 g).1;omega
theorem pF {R:List Rw}{t:Nat→Bool}:∀ j,(bC R t j).length≤(List.range j).countP t
 | 0=>Nat.le_refl 0
 | j+1=>by
  have a:=pF (R:=R) (t:=t) j;rw[List.range_succ,List.countP_append,List.countP_cons,List.countP_nil];show (match R[j]? with | some x=>if t j then bC R t j++[x] else bC R t j | none=>bC R t j).length≤_;split
  ·split
   ·rw[List.length_append];simp;omega
   ·omega
  ·omega
theorem count_le (L:List Int)(n:Nat):(List.range n).countP (fun c:Nat=>decide ((c:Int) ∈ L))≤L.length:=by
 have b:((List.range n).filter fun c:Nat=>decide ((c:Int) ∈ L)).map (fun c:Nat=>(c:Int))=((List.range n).map fun c:Nat=>(c:Int)).filter fun c=>decide (c ∈ L):=by
  rw[List.filter_map];rfl
 have a:=nL n L;unfold a8 at a;rw[← b,List.length_map,← List.countP_eq_length_filter] at a;exact a
theorem y2 {S:dX}(q:cL S){R:List Rw}(s:∀ x,x ∈ R↔eH S x)(y:R.length≤4000){Q:a7}(f:HP S R Q){G:List Int}(z:aJ (c_ R.length (Q,[])).1 G)(A:eX R.length (c_ R.length (Q,[])).1 (G.length:Int)){t:Nat→Bool}(u:∀ c:Nat,c<R.length→(t c=true↔(c:Int) ∈ a8 R.length (c_ R.length (Q,[])).2++G)) :
  (∀ x ∈ bC R t R.length,eH S x)∧bA S (bC R t R.length)=true∧∀ L,(∀ x ∈ L,gE S.n S.on.length x)→bA S L=true→(bC R t R.length).length≤L.length:=by
 have a:=tZ f y;have hi:=kb a;have d:∀ x ∈ R,eH S x:=fun x g=>(s x).1 g;refine ⟨fun x g=>?_,AH q d fun row b=>?_,fun L B e=>?_⟩
 ·obtain ⟨c,_,h,_⟩:=mT.1 g;exact d x (List.mem_of_getElem? h)
 ·obtain ⟨k,v,i⟩:=hi.solves G z row ((f row).2 b);obtain ⟨C,j⟩:=a.rng row ((f row).2 b) k v;obtain ⟨c,rfl⟩:∃ c:Nat,k=c:=⟨k.toNat,by omega⟩;refine ⟨c,(u c (by omega)).2 ?_,v⟩;rcases List.mem_append.1 i with h | h
  ·exact List.mem_append_left _ (kz.2 ⟨⟨C,j⟩,h⟩)
  ·exact List.mem_append_right _ h
 ·obtain ⟨cs,D,E,l⟩:=AG q s B e;have m:aJ Q (kT cs):=fun r F=>by
   obtain ⟨c,e,hm⟩:=l r ((f r).1 F);exact ⟨c,hm,List.mem_map.2 ⟨c,e,rfl⟩⟩
  obtain ⟨w,o,p,hle⟩:=qb a (vh R.length (kT cs)) (mM a m);have j:=nL R.length (kT cs);have J:=nL R.length (c_ R.length (Q,[])).2;rw[lE] at j;have K:G.length≤w.length:=by
   rcases A with ⟨h,_⟩ | ⟨M,_,_,he,hm⟩
   ·omega
   ·have:=hm w o p;omega
  have N:=pF (R:=R) (t:=t) R.length;have O:(List.range R.length).countP t=(List.range R.length).countP (fun c:Nat=>decide ((c:Int) ∈ a8 R.length (c_ R.length (Q,[])).2++G)):=List.countP_congr fun c e=>by
   rw[u c (List.mem_range.1 e)];simp
  have I:=count_le (a8 R.length (c_ R.length (Q,[])).2++G) R.length;rw[List.length_append] at I;omega
end Go.Proofs.YtpjihhgjbbihkaaGreatDoor
namespace Go.Proofs.YtpjihhgjbbihkaaGreatDoor
open Go.Proofs.Tryz
open Go.Dk
set_option maxRecDepth 100000
attribute [local irreducible] IntKind.wrap
def lb (n s:Int):Array Value:=#[.int .i64 n,.int .i64 s]
def Gw (n s:Int):Value:=.agg (lb n s)
def mW (v:Value)(st a s:Int):Array Value:=#[v,.int .i64 st,.int .i64 a,.int .i64 s]
def HQ (v:Value)(st a s:Int):Value:=.agg (mW v st a s)
theorem t_:eL prog 58=some (HQ (.slice none 0 0) 0 0 0):=by kernel_rfl
theorem mq:cP prog 58=some true:=by kernel_rfl
theorem dE:bE prog 58=some 4:=by kernel_rfl
theorem FH:cP prog 23=some true:=by kernel_rfl
theorem AQ:bE prog 23=some 2:=by kernel_rfl
theorem FI:cP prog 44=some false:=by kernel_rfl
theorem K2:bE prog 44=some 1:=by kernel_rfl
theorem lL (g:Nat)(w:World):(Instr.fieldAt 23 (ah g) 0).run prog w=.ok (ah g) w:=by kernel_rfl
theorem pG (g:Nat)(w:World):(Instr.fieldAt 23 (ah g) 1).run prog w=.ok (.pointer (some ⟨g,1,none⟩)) w:=by kernel_rfl
theorem FJ (g:Nat)(w:World):(Instr.fieldAt 58 (ah g) 0).run prog w=.ok (ah g) w:=by kernel_rfl
theorem mr {w:World}{kk:Value→World→Prop}(h:kk (HQ (.slice none 0 0) 0 0 0) w):b8 prog 58 [] w kk:=bt (fun w=>by kernel_rfl) h
theorem FK {s:Int}{w:World}{kk:Value→World→Prop}(h:kk (HQ (.slice none 0 0) 1 0 s) w):b8 prog 58 [(1,.int .i64 1),(3,.int .i64 s)] w kk:=bt (fun w=>by kernel_rfl) h
theorem fZ {A:Option Addr}{l c:Nat}{st a s:Int}:∀ v ∈ (mW (.slice A l c) st a s).toList,v.oneCell'=true:=by
 intro v b;simp[mW] at b;rcases b with rfl | rfl | rfl | rfl <;> rfl
def MJ (S:dX)(nodes:Int)(steps:Nat)(rows:List Rw)(e:Int):Prop:=
 (e=0∧(∀ x ∈ rows,eH S x)∧bA S rows=true∧∀ L,(∀ x ∈ L,gE S.n S.on.length x)→bA S L=true→rows.length≤L.length)∨
 (e=5∧rows=[]∧nodes<(Du S.n S.may.length:Int))∨(e=6∧rows=[]∧∃ R:List Rw,(∀ x,x ∈ R↔eH S x)∧R.Nodup∧steps<2^R.length)
theorem MK:enters prog 55=true:=by kernel_rfl
set_option maxHeartbeats 4000000 in
theorem O8 {S:dX}(T:cL S)(hn4:S.n≤4)(hk3:S.may.length≤3)(nodes:Int)(steps:Nat)(h0:0≤nodes)(h1:nodes≤20000)(hst:steps≤1000000)(Bo:Option Addr)(co:Nat)(Bm:Option Addr)(cm:Nat)(w:World)(hA:fY w S Bo co Bm cm) :
  bw prog 55 [r4 S.n (.slice Bo S.on.length co) (.slice Bm S.may.length cm),Gw nodes (steps:Int)] w fun v w'=>∃ A c rows s e,v=.tuple #[HQ (.slice A rows.length c) (if e=0 then 1 else 0) 0 s,.int .i64 e]∧MJ S nodes steps rows e∧eE w w' (own 50 3 (.slice A rows.length c) rows.length (flat a6 rows)):=by
 refine ar (N:=91) func55 MK rfl rfl rfl (by simp) ?_;have H:=Hp.aC w;refine ak (γ:=Nat × Nat × Nat) (fun (g2,g3,g4)=>[(2,(ah g2)),(3,(ah g3)),(4,(ah g4))]) (fun (g2,g3,g4) w'=>Hp w ab w' [an g4 58 (mW (.slice none 0 0) 0 0 0),an g3 23 (lb nodes steps),an g2 41 (bo S.n (.slice Bo S.on.length co) (.slice Bm S.may.length cm))] []) ?_ ?_
 ·refine H.box 41 _ (cs:=bo S.n (.slice Bo S.on.length co) (.slice Bm S.may.length cm)) rfl ?_;clear H;intro g2 w1 H;refine H.box 23 _ (cs:=lb nodes steps) rfl ?_;clear H;intro g3 w2 H;refine H.alloc 58 (cs:=mW (.slice none 0 0) 0 0 0) t_ rfl ?_;clear H;intro g4 w3 H;exact ⟨(g2,g3,g4),⟨rfl,rfl,rfl,trivial⟩,H⟩
 clear H;rintro ⟨g2,g3,g4⟩ u w1 H;refine ak (γ:=Option Addr × Nat × List Rw × Int) (fun (A,c,R,e)=>[(6,.slice A R.length c),(7,.int .i64 e)]) (fun (A,c,R,e) w'=>MH S nodes R e∧Hp w ab w' [own 50 3 (.slice A R.length c) R.length (flat a6 R),an g4 58 (mW (.slice none 0 0) 0 0 0),an g3 23 (lb nodes steps),an g2 41 (bo S.n (.slice Bo S.on.length co) (.slice Bm S.may.length cm))] []) ?_ ?_
 ·refine H.ai 2 rfl dw bL ?_;refine aa (lL _) ?_;refine H.load 1 rfl aF rfl ?_;refine aj (O7 T (by omega) nodes h0 h1 Bo co Bm cm _ (hA.same H.keeps)) ?_;rintro _ w2 ⟨A,c,R,e,rfl,y,U⟩;exact ⟨(A,c,R,e),⟨rfl,rfl,trivial⟩,y,H.bq U⟩
 clear H;rintro ⟨m,cR,R,e⟩ u w2 ⟨y,H⟩;refine aw (fun w'=>e=0∧Hp w ab w' [own 50 3 (.slice m R.length cR) R.length (flat a6 R),an g4 58 (mW (.slice none 0 0) 0 0 0),an g3 23 (lb nodes steps),an g2 41 (bo S.n (.slice Bo S.on.length co) (.slice Bm S.may.length cm))] []) ?_ ?_
 ·refine df (fun a=>?_) (fun a=>?_)
  ·have a:e≠0:=a;refine mr ?_;refine H.storeAll 1 rfl dE rfl fZ ?_;clear H;intro w3 H;refine H.ai 1 rfl mq dE ?_;refine ⟨rfl,?_⟩;rcases y with ⟨h,_⟩ | ⟨h5,rfl,D⟩
   ·exact absurd h a
   ·exact ⟨none,0,[],0,e,by rw[if_neg a];rfl,.inr (.inl ⟨h5,rfl,D⟩),((H.bx 50 3).only).out⟩
  ·exact ⟨(),trivial,a,H⟩
 clear H;rintro ⟨⟩ u w3 ⟨he,H⟩;subst he;obtain ⟨y,hRn⟩:(∀ x,x ∈ R↔eH S x)∧R.Nodup:=by
  rcases y with ⟨_,h⟩ | ⟨h,_⟩
  ·exact h
  ·cases h
 have F:R.length≤4000:=by
  have h1:=Di hRn fun x V=>(y x).1 V;have h2:2^S.may.length≤2^3:=Nat.pow_le_pow_right (by decide) hk3;have h3:2^S.n≤2^4:=Nat.pow_le_pow_right (by decide) hn4;have h4:=Nat.mul_le_mul h2 (Nat.mul_le_mul h3 h3);omega
 have hRok:∀ x ∈ R,gE S.n S.on.length x:=fun x V=>(((y x).1 V).uI T).ok T;refine ak (γ:=Nat × Option Addr × Nat × a7 × (Nat→Prop)) (fun (g8,_)=>[(8,(ah g8)),(7,.int .i64 0)]) (fun (g8,B,d,Q,I) w'=>(HP S R Q∧Q.length≤100000)∧Hp w ab w' [an g8 137 (mc (R.length:Int) (.slice B Q.length d)),own 50 3 (.slice m R.length cR) R.length (flat a6 R),an g4 58 (mW (.slice none 0 0) 0 0 0),an g3 23 (lb nodes steps)] [bj I (.slice B Q.length d) Q]) ?_ ?_
 ·refine H.ai 3 rfl dw bL ?_;refine aj (c87 T R hRok F Bo co Bm cm m cR _ (hA.same H.keeps) (bB (H.get 0 rfl))) ?_;rintro _ w4 ⟨B,d,Q,rfl,⟨hQ,hQl⟩,U⟩;obtain ⟨I,hm,hS1⟩:=U.mat;replace H:=H.pU U.keeps (bj I (.slice B Q.length d) Q) hm (fun g hg=>⟨(hS1 g hg).1,.inl ((hS1 g hg).2.resolve_right id)⟩);refine H.alloc 137 dP rfl ?_;clear H;intro g8 w5 H;refine H.storeAll 0 rfl az rfl (fun v hv=>da v hv) ?_;clear H;intro w6 H;exact ⟨(g8,B,d,Q,I),⟨rfl,rfl,trivial⟩,⟨hQ,hQl⟩,H.b7 [0,1,2,3] (by decide) rfl⟩
 clear H;rintro ⟨g8,BQ,dQ,Q,I⟩ u w4 ⟨⟨hQ,hQl⟩,H⟩;refine aw (fun w'=>Hp.cl H w') ?_ ?_
 ·refine af rfl ?_;exact ⟨(),trivial,H⟩
 rintro ⟨⟩ u w5 H1;replace H:Hp w ab w5 [an g8 137 (mc (R.length:Int) (.slice BQ Q.length dQ)),own 50 3 (.slice m R.length cR) R.length (flat a6 R),an g4 58 (mW (.slice none 0 0) 0 0 0),an g3 23 (lb nodes steps)] [bj I (.slice BQ Q.length dQ) Q]:=H1;clear H1;have i:=tZ hQ F;have hxb:cD (R.length:Int) Q=true:=gC.2 i;have J:=Dv T y hQ;obtain ⟨e1,e2,e3,e4⟩:=BO hxb;have hEi:=kb i;have hEb:[] ∉ (c_ R.length (Q,[])).1:=p_ (s:=(Q,[])) J _;have hEl:(c_ R.length (Q,[])).1.length≤Q.length:=oD (s:=(Q,[])) _;have hTl:=fz R.length (c_ R.length (Q,[])).2;have hfin:=fun (G:List Int)=>y2 T y F hQ (G:=G);have o:=fun u hS0 h=>OP (R.length:Int) Q (.slice BQ Q.length dQ) I u (by omega) (fun r X=>by have:=oE i X;omega) h hS0;rw[e1,e2,e3,e4] at o;have hEr:=hEi.right;clear hEi e1 e2 e3 e4;generalize (c_ R.length (Q,[])).1=E at *;generalize a8 R.length (c_ R.length (Q,[])).2=TT at *;refine ak (γ:=Option Addr × Nat × Nat × Option Addr × Nat × (Nat→Prop)) (fun (z,d9,g10,_)=>[(9,.slice z TT.length d9),(10,(ah g10))]) (fun (z,d9,g10,Y,Z,S2) w'=>Hp w ab w' [an g10 137 (mc (R.length:Int) (.slice Y E.length Z)),own 3 1 (.slice z TT.length d9) TT.length (aA TT),own 50 3 (.slice m R.length cR) R.length (flat a6 R),an g4 58 (mW (.slice none 0 0) 0 0 0),an g3 23 (lb nodes steps)] [bj S2 (.slice Y E.length Z) E]) ?_ ?_
 ·refine H.ai 0 rfl aL az ?_;refine aj (o _ (H.rlt _ (.head _)) (H.ro 0 rfl)) ?_;rintro _ w6 ⟨z,d9,v',S2,rfl,H2,hS2⟩;obtain ⟨Y,Z,hvE⟩:=(H2.ro 0 rfl).form;subst hvE;have H3:=H.merge H2 (fun r X g hg=>by
   rw[List.mem_singleton] at X;subst X;exact (hS2 g hg).imp id fun h=>⟨_,.head _,h⟩)
  clear H H2;refine H3.alloc 137 dP rfl ?_;clear H3;intro g10 w7 H;refine H.storeAll 0 rfl az rfl (fun v hv=>da v hv) ?_;clear H;intro w8 H;exact ⟨(z,d9,g10,Y,Z,S2),⟨rfl,rfl,trivial⟩,(H.b7 [0,1,3,4,5] (by decide) rfl).ey (by simp)⟩
 clear H o;rintro ⟨z,d9,g10,Y,Z,S2⟩ u w6 H;refine ak (γ:=Option Addr × Nat × List Int × Int × Int) (fun (B,d,G,s,e)=>[(12,.slice B G.length d),(13,.int .i64 s),(7,.int .i64 e)]) (fun (B,d,G,s,e) w'=>Mf (R.length:Int) E steps G s e∧Hp w ab w' [own 3 1 (.slice z TT.length d9) TT.length (aA TT),own 3 1 (.slice B G.length d) G.length (aA G),own 50 3 (.slice m R.length cR) R.length (flat a6 R),an g4 58 (mW (.slice none 0 0) 0 0 0)] []) ?_ ?_
 ·refine H.ai 0 rfl aL az ?_;refine aa (pG _) ?_;refine H.load 4 rfl aF rfl ?_;refine aj (O2 (R.length:Int) E (.slice Y E.length Z) steps S2 _ (by omega) (fun r X=>by have:=oE hEr X;omega) (by omega) (fun _=>by omega) (H.ro 0 rfl) (H.rlt _ (.head _))) ?_;rintro _ w7 ⟨B,d,G,s,e,rfl,hF,U⟩;exact ⟨(B,d,G,s,e),⟨rfl,rfl,rfl,trivial⟩,hF,((H.bq U).aq).b7 [2,0,3,4] (by decide) rfl⟩
 clear H;rintro ⟨BG,dG,G,s,e⟩ u w7 ⟨hF,H⟩;have hEx:cD (R.length:Int) E=true:=gC.2 hEr;have C:g_ E=false:=by
  rw[Bool.eq_false_iff];exact fun h=>hEb (kA.1 h)
 refine aw (fun w'=>e=0∧Hp w ab w' [own 3 1 (.slice z TT.length d9) TT.length (aA TT),own 3 1 (.slice BG G.length dG) G.length (aA G),own 50 3 (.slice m R.length cR) R.length (flat a6 R),an g4 58 (mW (.slice none 0 0) 0 0 0)] []) ?_ ?_
 ·refine df (fun a=>?_) (fun a=>?_)
  ·have a:e≠0:=a;refine mr ?_;refine H.storeAll 3 rfl dE rfl fZ ?_;clear H;intro w8 H;refine H.ai 3 rfl mq dE ?_;refine ⟨rfl,?_⟩;refine ⟨none,0,[],0,e,by rw[if_neg a];rfl,.inr (.inr ?_),((H.bx 50 3).only).out⟩;rcases hF with ⟨h,_⟩ | ⟨_,h,_⟩ | ⟨_,_,h6,_,_,D⟩ | ⟨_,_,h,_⟩
   ·rw[hEx] at h;cases h
   ·rw[C] at h;cases h
   ·exact ⟨h6,rfl,R,y,hRn,by rwa [Int.toNat_natCast] at D⟩
   ·exact absurd h a
  ·exact ⟨(),trivial,a,H⟩
 clear H;rintro ⟨⟩ u w8 ⟨rfl,H⟩;obtain ⟨hGl,K,hGs⟩:G.length≤R.length∧eX R.length E (G.length:Int)∧aJ E G:=by
  rcases hF with ⟨h,_⟩ | ⟨_,h,_⟩ | ⟨_,_,h,_⟩ | ⟨_,_,_,_,⟨b,hb⟩,h1,h2⟩
  ·rw[hEx] at h;cases h
  ·rw[C] at h;cases h
  ·cases h
  ·rw[Int.toNat_natCast] at hb h1;exact ⟨by rw[hb];exact fz _ _,h1,h2⟩
 clear hF;refine ak (γ:=Nat) (fun r=>[(14,.map (some r))]) (fun r w'=>Hp w ab w' [aP e9 mQ r [],own 3 1 (.slice z TT.length d9) TT.length (aA TT),own 3 1 (.slice BG G.length dG) G.length (aA G),own 50 3 (.slice m R.length cR) R.length (flat a6 R),an g4 58 (mW (.slice none 0 0) 0 0 0)] []) ?_ ?_
 ·refine H.makeMap e9 mQ ?_;clear H;intro r w9 H;exact ⟨r,⟨rfl,trivial⟩,H⟩
 clear H;rintro r u w9 H;have hTG:(TT++G).length=TT.length+G.length:=List.length_append;refine ak (γ:=List (Int × Bool)) (fun _=>[]) (fun l w'=>BN l (TT++G)∧Hp w ab w' [aP e9 mQ r l,own 50 3 (.slice m R.length cR) R.length (flat a6 R),an g4 58 (mW (.slice none 0 0) 0 0 0)] []) ?_ ?_
 ·refine H.kO 1 dH rfl (bB (H.get 2 rfl)) (cV _) (by omega) (by omega) ?_;clear H;intro B15 d15 w10 H;rw[← hTG,← qj] at H;rw[← hTG];refine ay underlying75 ?_;refine ax (γ:=Nat × List (Int × Bool)) (fun (j,_)=>[(64,.int .i64 (j:Int))]) (fun (j,l) w'=>(j≤(TT++G).length∧BN l ((TT++G).take j))∧Hp w ab w' [aP e9 mQ r l,own 3 1 (.slice B15 (TT++G).length d15) (TT++G).length (aA (TT++G)),own 50 3 (.slice m R.length cR) R.length (flat a6 R),an g4 58 (mW (.slice none 0 0) 0 0 0)] []) (fun (j,_)=>(TT++G).length - j) (0,[]) ⟨rfl,trivial⟩ ⟨⟨Nat.zero_le _,fun c=>rfl⟩,H.b7 [0,1,3,4] (by decide) rfl⟩ ?_;clear H;rintro ⟨j,l⟩ u w11 ⟨⟨hj,q⟩,H⟩;refine au (fun h8=>?_) (fun h8=>?_)
  ·obtain ⟨k,hk⟩:∃ k,(TT++G)[j]?=some k:=⟨_,List.getElem?_eq_getElem (by omega)⟩;obtain ⟨g2',rfl⟩:=jT (H.get 1 rfl) (by omega);have hgk:(aA (TT++G))[j]?=some (.int .i64 k):=by rw[aA,List.getElem?_map,hk];rfl
   have htk:(TT++G).take (j+1)=(TT++G).take j++[k]:=by rw[List.take_add_one,hk];rfl
   refine ao underlying75 (s:=1) bc j rfl (by omega) (o':=j) (by omega) ?_;refine H.ec 1 rfl aF hgk ?_;refine H.iI 0 rfl yC k true ?_;clear H;intro M H;exact ⟨(j+1,dZ l k true),by show (TT++G).length - (j+1)<(TT++G).length - j;omega,⟨up (by omega),trivial⟩,⟨by show j+1≤(TT++G).length;omega,by rw[htk];exact q.add k⟩,H⟩
  ·have e:(TT++G).take j=TT++G:=List.take_of_length_le (by omega);rw[e] at q;exact ⟨l,trivial,q,H.b7 [0,2,3] (by decide) rfl⟩
 clear H;rintro l u w10 ⟨q,H⟩;refine ak (γ:=Nat) (fun g17=>[(17,(ah g17))]) (fun g17 w'=>Hp w ab w' [an g17 58 (mW (.slice none 0 0) 1 0 s),aP e9 mQ r l,own 50 3 (.slice m R.length cR) R.length (flat a6 R),an g4 58 (mW (.slice none 0 0) 0 0 0)] []) ?_ ?_
 ·refine FK ?_;refine H.alloc 58 (cs:=mW (.slice none 0 0) 0 0 0) t_ rfl ?_;clear H;intro g17 w11 H;refine H.storeAll 0 rfl dE rfl fZ ?_;clear H;intro M H;exact ⟨g17,⟨rfl,trivial⟩,H⟩
 clear H;rintro g17 u w11 H;obtain ⟨t,ht⟩:∃ t:Nat→Bool,∀ c,t c=decide ((c:Int) ∈ TT++G):=⟨_,fun _=>rfl⟩;have hcl:∀ j,(bC R t j).length≤j:=fun j=>Nat.le_trans (pF j) (by have:=List.countP_le_length (p:=t) (l:=List.range j);rwa [List.length_range] at this);refine ak (γ:=Option Addr × Nat) (fun _=>[]) (fun (B,d) w'=>Hp w ab w' [an g17 58 (mW (.slice B (bC R t R.length).length d) 1 0 s),own 50 3 (.slice B (bC R t R.length).length d) (bC R t R.length).length (flat a6 (bC R t R.length)),an g4 58 (mW (.slice none 0 0) 0 0 0)] []) ?_ ?_
 ·refine ay underlying44 ?_;refine ax (γ:=Nat × Option Addr × Nat) (fun (j,_)=>[(75,.int .i64 (j:Int))]) (fun (j,B,d) w'=>j≤R.length∧Hp w ab w' [an g17 58 (mW (.slice B (bC R t j).length d) 1 0 s),own 50 3 (.slice B (bC R t j).length d) (bC R t j).length (flat a6 (bC R t j)),aP e9 mQ r l,own 50 3 (.slice m R.length cR) R.length (flat a6 R),an g4 58 (mW (.slice none 0 0) 0 0 0)] []) (fun (j,_)=>R.length - j) (0,none,0) ⟨rfl,trivial⟩ ⟨Nat.zero_le _,(H.bx 50 3).front 1 rfl⟩ ?_;clear H;rintro ⟨j,B,d⟩ u M ⟨hj,H⟩;refine au (fun h8=>?_) (fun h8=>?_)
  ·have hjl:j<R.length:=by omega
   obtain ⟨x,V⟩:∃ x,R[j]?=some x:=⟨_,List.getElem?_eq_getElem hjl⟩;have f:bC R t (j+1)=if t j then bC R t j++[x] else bC R t j:=by
    show (match R[j]? with | some x=>_ | none=>_)=_;rw[V]
   have hjc:=hcl j;refine ak (γ:=Option Addr × Nat) (fun _=>[]) (fun (B,d) w'=>Hp w ab w' [an g17 58 (mW (.slice B (bC R t (j+1)).length d) 1 0 s),own 50 3 (.slice B (bC R t (j+1)).length d) (bC R t (j+1)).length (flat a6 (bC R t (j+1))),aP e9 mQ r l,own 50 3 (.slice m R.length cR) R.length (flat a6 R),an g4 58 (mW (.slice none 0 0) 0 0 0)] []) ?_ ?_
   ·refine ak (γ:=Nat) (fun g19=>[(19,(ah g19)),(18,.int .i64 (j:Int))]) (fun g19 w'=>Hp w ab w' [an g17 58 (mW (.slice B (bC R t j).length d) 1 0 s),own 50 3 (.slice B (bC R t j).length d) (bC R t j).length (flat a6 (bC R t j)),aP e9 mQ r l,own 50 3 (.slice m R.length cR) R.length (flat a6 R),an g4 58 (mW (.slice none 0 0) 0 0 0),an g19 50 (eo x.1 x.2.1 x.2.2)] []) ?_ ?_
    ·obtain ⟨gR,rfl⟩:=jT (H.get 3 rfl) (by omega);refine ao underlying44 (s:=3) aZ j rfl (by omega) (o':=j*3) (by omega) ?_;refine H.gu 3 rfl bl gV aZ j rfl V ?_;refine H.alloc 50 (cs:=eo 0 0 0) jz rfl ?_;clear H;intro g19 O H;refine H.storeAll 0 rfl aZ rfl (dT x.1 x.2.1 x.2.2) ?_;clear H;intro w14 H;exact ⟨g19,⟨rfl,rfl,trivial⟩,H.b7 [1,2,3,4,5,0] (by decide) rfl⟩
    clear H;rintro g19 u O H;refine H.lookup 2 rfl yC (j:Int) ?_;rw[q.get,← ht j]
    cases htj:t j with
    | true=>
     rw[htj,if_pos rfl] at f;refine ag rfl ?_;refine aa (FJ _) ?_;refine H.load 0 rfl FI rfl ?_;refine H.ai 5 rfl gV aZ ?_;refine H.bf vz (cs:=eo x.1 x.2.1 x.2.2) (by decide) (by decide) (by kernel_rfl) ?_;clear H;intro g20 w14 H;refine H.aG 2 0 vz rfl rfl rfl (dT _ _ _) (by omega) (by omega) ?_;clear H;intro B2 d2 w15 H;refine aa (FJ _) ?_;refine H.store 1 rfl K2 (Nat.le_of_ble_eq_true rfl) rfl ?_;clear H;intro w16 H;have e1:(bC R t (j+1)).length=(bC R t j).length+1:=by rw[f,List.length_append];rfl
     have e2:flat a6 (bC R t (j+1))=flat a6 (bC R t j)++a6 x:=by rw[f];exact de ..
     exact ⟨(B2,d2),trivial,by rw[e1,e2];exact H.b7 [1,2,3,4,5] (by decide) rfl⟩
    | false=>
     rw[htj,if_neg (by decide)] at f;refine af rfl ?_;exact ⟨(B,d),trivial,by rw[f];exact H.b7 [0,1,2,3,4] (by decide) rfl⟩
   ·clear H;rintro ⟨B2,d2⟩ u O H;exact ⟨(j+1,B2,d2),by show R.length - (j+1)<R.length - j;omega,⟨up (by omega),trivial⟩,by show j+1≤R.length;omega,H⟩
  ·obtain rfl:j=R.length:=by omega
   exact ⟨(B,d),trivial,H.b7 [0,1,4] (by decide) rfl⟩
 clear H;rintro ⟨B,d⟩ u M H;refine H.ai 0 rfl mq dE ?_;refine H.storeAll 2 rfl dE rfl fZ ?_;clear H;intro O H;refine H.ai 2 rfl mq dE ?_;refine ⟨rfl,?_⟩;obtain ⟨f1,f2,f3⟩:=hfin G hGs K (t:=t) (fun c _=>by rw[ht c,decide_eq_true_iff]);exact ⟨B,d,bC R t R.length,s,0,rfl,.inl ⟨rfl,f1,f2,f3⟩,H.uZ 1 rfl⟩
theorem xh {S:dX}(d:cL S){R:List Rw}(h:ri S S.on.length R):(∀ x ∈ R,gE S.n S.on.length x)∧bA S R=true:=by
 refine ⟨fun x c=>(h.uI x c).ok d,?_⟩;rw[gH d];intro j a b e f;refine ⟨h.out j a (List.getElem?_eq_some_iff.1 e).1 e,fun p g=>?_⟩;obtain ⟨x,c,i,k⟩:=fG.1 g;exact (h.uI x c).uI j b i f p k
def y3 (S:dX)(rows:List Rw):Prop:=(∀ x ∈ rows,gE S.n S.on.length x)∧bA S rows=true∧nR S rows rows.length
theorem K3:eL prog 26=some (.int .i64 0):=by kernel_rfl
theorem FL {A:Option Addr}{l c:Nat}{a s:Int}{w:World}{kk:Value→World→Prop}(h:kk (HQ (.slice A l c) 2 a s) w):b8 prog 58 [(0,.slice A l c),(1,.int .i64 2),(2,.int .i64 a),(3,.int .i64 s)] w kk:=bt (fun w=>by kernel_rfl) h
theorem ML:enters prog 56=true:=by kernel_rfl
theorem OR {S:dX}(k:cL S)(s a:Int)(g2 g7:Nat)(Bo:Option Addr)(co:Nat)(Bm:Option Addr)(cm:Nat)(w:World)(t:fY w S Bo co Bm cm)(i:(an g2 41 (bo S.n (.slice Bo S.on.length co) (.slice Bm S.may.length cm))).ok w)(x:(an g7 26 #[.int .i64 a]).ok w) :
  bw prog 56 ([.int .i64 s]++[(ah g2),(ah g7)]) w fun v w'=>∃ A c rows,v=.tuple #[HQ (.slice A rows.length c) 2 a s,.int .i64 0]∧y3 S rows∧eE w w' (own 50 3 (.slice A rows.length c) rows.length (flat a6 rows)):=by
 refine ar (N:=26) func56 ML rfl rfl rfl (by simp) ?_;have H:Hp w ab w [] [an g2 41 (bo S.n (.slice Bo S.on.length co) (.slice Bm S.may.length cm)),an g7 26 #[.int .i64 a]]:=Hp.start w _ _ (by intro r e;simp only[List.mem_cons,List.not_mem_nil,or_false] at e;rcases e with rfl | rfl;exact i;exact x)
  (by
   intro r e g b;simp only[List.mem_cons,List.not_mem_nil,or_false] at e;rcases e with rfl | rfl
   ·have b:g=g2:=b;subst b;exact jj i
   ·have b:g=g7:=b;subst b;exact jj x)
 refine ak (γ:=Nat) (fun g4=>[(4,(ah g4))]) (fun g4 w'=>Hp w ab w' [an g4 58 (mW (.slice none 0 0) 0 0 0)] [an g2 41 (bo S.n (.slice Bo S.on.length co) (.slice Bm S.may.length cm)),an g7 26 #[.int .i64 a]]) ?_ ?_
 ·refine H.alloc 58 (cs:=mW (.slice none 0 0) 0 0 0) t_ rfl ?_;clear H;intro g4 y H;exact ⟨g4,⟨rfl,trivial⟩,H⟩
 clear H;rintro g4 u F H;refine ak (γ:=Option Addr × Nat × List Rw) (fun (A,c,R)=>[(6,.slice A R.length c)]) (fun (A,c,R) w'=>(ri S S.on.length R∧R.length≤26244)∧Hp w ab w' [own 50 3 (.slice A R.length c) R.length (flat a6 R),an g4 58 (mW (.slice none 0 0) 0 0 0)] [an g2 41 (bo S.n (.slice Bo S.on.length co) (.slice Bm S.may.length cm)),an g7 26 #[.int .i64 a]]) ?_ ?_
 ·refine fJ (H.ro 0 rfl) (bo S.n (.slice Bo S.on.length co) (.slice Bm S.may.length cm)).toList dw bL (fun j v l=>by rwa [Array.getElem?_toList] at l) ?_;refine aj (O4 k Bo co Bm cm _ (t.same H.keeps)) ?_;rintro _ z ⟨A,c,R,rfl,m,f,o⟩;exact ⟨(A,c,R),⟨rfl,trivial⟩,⟨m,f⟩,H.bq o⟩
 clear H;rintro ⟨A,c,R⟩ u z ⟨⟨m,f⟩,H⟩;obtain ⟨p,h⟩:=xh k m;refine ak (γ:=Option Addr × Nat × List Rw) (fun (A,c,R)=>[(8,.slice A R.length c),(9,.int .i64 0)]) (fun (A,c,R) w'=>y3 S R∧Hp w ab w' [own 50 3 (.slice A R.length c) R.length (flat a6 R),an g4 58 (mW (.slice none 0 0) 0 0 0)] [an g2 41 (bo S.n (.slice Bo S.on.length co) (.slice Bm S.may.length cm)),an g7 26 #[.int .i64 a]]) ?_ ?_
 ·refine fJ (H.ro 0 rfl) (bo S.n (.slice Bo S.on.length co) (.slice Bm S.may.length cm)).toList dw bL (fun j v l=>by rwa [Array.getElem?_toList] at l) ?_;refine aj (O5 k R p (by omega) h Bo co Bm cm A c _ (t.same H.keeps) (bB (H.get 0 rfl))) ?_;rintro _ y ⟨B,d,q,rfl,⟨_,C,i,D⟩,o⟩;exact ⟨(B,d,q),⟨rfl,rfl,trivial⟩,⟨C,i,D⟩,(H.bq o).b7 [0,2] (by decide) rfl⟩
 clear H;rintro ⟨B,d,q⟩ u y ⟨E,H⟩;refine aB nV ((aQ (H.ro 1 rfl) 0).trans rfl) ?_;refine FL ?_;refine H.storeAll 1 rfl dE rfl fZ ?_;clear H;intro G H;refine H.ai 1 rfl mq dE ?_;refine ⟨rfl,?_⟩;exact ⟨B,d,q,rfl,E,H.uZ 0 rfl⟩
def xi (n s:Int):Prop:=n<0∨20000<n∨s<0∨1000000<s
def pH (S:dX)(nodes steps:Int)(rows:List Rw)(st a e:Int):Prop:=
 (xi nodes steps∧rows=[]∧st=0∧a=0∧e=1)∨(¬ xi nodes steps∧e=0∧
  ((st=1∧a=0∧(∀ x ∈ rows,eH S x)∧bA S rows=true∧∀ L,(∀ x ∈ L,gE S.n S.on.length x)→bA S L=true→rows.length≤L.length)∨
   (st=2∧y3 S rows∧((a=5∧nodes<(Du S.n S.may.length:Int))∨(a=6∧∃ R:List Rw,(∀ x,x ∈ R↔eH S x)∧R.Nodup∧steps<(2^R.length:Nat))))))
theorem AS {g2 g7:Nat}{w:World}{kk:Value→World→Prop}(h:kk (.func (.func 56) #[] #[(ah g2),(ah g7)]) w) :
  cw prog (.func 56) [] [(ah g2),(ah g7)] w kk:=by
 unfold cw;exact ⟨_,w,by kernel_rfl,h⟩
theorem MM:enters prog 25=true:=by kernel_rfl
theorem O9 {S:dX}(g:cL S)(k:S.n≤4)(l:S.may.length≤3)(nodes steps:Int)(Bo:Option Addr)(co:Nat)(Bm:Option Addr)(cm:Nat)(w:World)(h:fY w S Bo co Bm cm) :
  bw prog 25 [r4 S.n (.slice Bo S.on.length co) (.slice Bm S.may.length cm),Gw nodes steps] w fun v w'=>∃ A c rows st d s e,v=.tuple #[HQ (.slice A rows.length c) st d s,.int .i64 e]∧pH S nodes steps rows st d e∧eE w w' (own 50 3 (.slice A rows.length c) rows.length (flat a6 rows)):=by
 refine ar (N:=56) func25 MM rfl rfl rfl (by simp) ?_;have H:=Hp.aC w;refine ak (γ:=Nat × Nat × Nat) (fun (g2,g3,g4)=>[(2,(ah g2)),(3,(ah g3)),(4,(ah g4))]) (fun (g2,g3,g4) w'=>Hp w ab w' [an g4 58 (mW (.slice none 0 0) 0 0 0),an g3 23 (lb nodes steps),an g2 41 (bo S.n (.slice Bo S.on.length co) (.slice Bm S.may.length cm))] []) ?_ ?_
 ·refine H.box 41 _ (cs:=bo S.n (.slice Bo S.on.length co) (.slice Bm S.may.length cm)) rfl ?_;clear H;intro g2 C H;refine H.box 23 _ (cs:=lb nodes steps) rfl ?_;clear H;intro g3 m H;refine H.alloc 58 (cs:=mW (.slice none 0 0) 0 0 0) t_ rfl ?_;clear H;intro g4 y H;exact ⟨(g2,g3,g4),⟨rfl,rfl,rfl,trivial⟩,H⟩
 clear H;rintro ⟨g2,g3,g4⟩ u C H;by_cases a:xi nodes steps
 ·refine H.ai 2 rfl dw bL ?_;refine aj (He g Bo co Bm cm _ (h.same H.keeps)) ?_;rintro _ m ⟨rfl,i⟩;replace H:=H.same i;clear i;have b:∀ {u:World},Hp w ab u [an g4 58 (mW (.slice none 0 0) 0 0 0),an g3 23 (lb nodes steps),an g2 41 (bo S.n (.slice Bo S.on.length co) (.slice Bm S.may.length cm))] []→∃ A c rows st d s e,Value.tuple #[HQ (.slice none 0 0) 0 0 0,.int .i64 1]=.tuple #[HQ (.slice A (rows:List Rw).length c) st d s,.int .i64 e]∧pH S nodes steps rows st d e∧eE w u (own 50 3 (.slice A rows.length c) rows.length (flat a6 rows)):=fun {u} H=>⟨none,0,[],0,0,0,1,rfl,.inl ⟨a,rfl,rfl,rfl,rfl⟩,((H.bx 50 3).only).out⟩;by_cases G:nodes<0
  ·refine af rfl ?_;refine aa (lL _) ?_;refine af rfl ?_;refine H.load 1 rfl aF rfl ?_
   iterate 2 refine af rfl ?_
   iterate 4 refine ag (decide_eq_true (by assumption)) ?_
   iterate 9 refine ag rfl ?_
   refine mr ?_;refine H.storeAll 0 rfl dE rfl fZ ?_;clear H;intro o H;refine H.ai 0 rfl mq dE ?_;exact ⟨rfl,b H⟩
  ·by_cases I:20000<nodes
   ·refine af rfl ?_;refine aa (lL _) ?_;refine af rfl ?_;refine H.load 1 rfl aF rfl ?_
    iterate 2 refine af rfl ?_
    refine af (decide_eq_false (by assumption)) ?_;refine aa (lL _) ?_;refine af (decide_eq_false (by assumption)) ?_;refine H.load 1 rfl aF rfl ?_
    iterate 2 refine af (decide_eq_false (by assumption)) ?_
    iterate 4 refine ag (decide_eq_true (by assumption)) ?_
    iterate 5 refine ag rfl ?_
    refine mr ?_;refine H.storeAll 0 rfl dE rfl fZ ?_;clear H;intro o H;refine H.ai 0 rfl mq dE ?_;exact ⟨rfl,b H⟩
   ·by_cases J:steps<0
    ·refine af rfl ?_;refine aa (lL _) ?_;refine af rfl ?_;refine H.load 1 rfl aF rfl ?_
     iterate 2 refine af rfl ?_
     refine af (decide_eq_false (by assumption)) ?_;refine aa (lL _) ?_;refine af (decide_eq_false (by assumption)) ?_;refine H.load 1 rfl aF rfl ?_
     iterate 3 refine af (decide_eq_false (by assumption)) ?_
     refine aa (pG _) ?_;refine af (decide_eq_false (by assumption)) ?_;refine H.load 1 rfl aF rfl ?_
     iterate 2 refine af (decide_eq_false (by assumption)) ?_
     iterate 4 refine ag (decide_eq_true (by assumption)) ?_
     refine ag rfl ?_;refine mr ?_;refine H.storeAll 0 rfl dE rfl fZ ?_;clear H;intro o H;refine H.ai 0 rfl mq dE ?_;exact ⟨rfl,b H⟩
    ·have K:1000000<steps:=by unfold xi at a;omega
     refine af rfl ?_;refine aa (lL _) ?_;refine af rfl ?_;refine H.load 1 rfl aF rfl ?_
     iterate 2 refine af rfl ?_
     refine af (decide_eq_false (by assumption)) ?_;refine aa (lL _) ?_;refine af (decide_eq_false (by assumption)) ?_;refine H.load 1 rfl aF rfl ?_
     iterate 3 refine af (decide_eq_false (by assumption)) ?_
     refine aa (pG _) ?_;refine af (decide_eq_false (by assumption)) ?_;refine H.load 1 rfl aF rfl ?_
     iterate 3 refine af (decide_eq_false (by assumption)) ?_
     refine aa (pG _) ?_;refine af (decide_eq_false (by assumption)) ?_;refine H.load 1 rfl aF rfl ?_
     iterate 2 refine af (decide_eq_false (by assumption)) ?_
     refine ag (decide_eq_true (by assumption)) ?_;refine mr ?_;refine H.storeAll 0 rfl dE rfl fZ ?_;clear H;intro o H;refine H.ai 0 rfl mq dE ?_;exact ⟨rfl,b H⟩
 have p:=a;unfold xi at p;refine aw (fun w'=>Hp w ab w' [an g4 58 (mW (.slice none 0 0) 0 0 0),an g3 23 (lb nodes steps),an g2 41 (bo S.n (.slice Bo S.on.length co) (.slice Bm S.may.length cm))] []) ?_ ?_
 ·refine H.ai 2 rfl dw bL ?_;refine aj (He g Bo co Bm cm _ (h.same H.keeps)) ?_;rintro _ m ⟨rfl,i⟩;replace H:=H.same i;clear i;refine af rfl ?_;refine aa (lL _) ?_;refine af rfl ?_;refine H.load 1 rfl aF rfl ?_
  iterate 2 refine af rfl ?_
  refine af (decide_eq_false (by omega)) ?_;refine aa (lL _) ?_;refine af (decide_eq_false (by omega)) ?_;refine H.load 1 rfl aF rfl ?_
  iterate 3 refine af (decide_eq_false (by omega)) ?_
  refine aa (pG _) ?_;refine af (decide_eq_false (by omega)) ?_;refine H.load 1 rfl aF rfl ?_
  iterate 3 refine af (decide_eq_false (by omega)) ?_
  refine aa (pG _) ?_;refine af (decide_eq_false (by omega)) ?_;refine H.load 1 rfl aF rfl ?_
  iterate 3 refine af (decide_eq_false (by omega)) ?_
  exact ⟨(),trivial,H⟩
 clear H;rintro ⟨⟩ u m H;obtain ⟨st,rfl⟩:∃ st:Nat,steps=st:=⟨steps.toNat,by omega⟩;refine ak (γ:=Nat × Nat × Option Addr × Nat × List Rw × Int × Int) (fun (g6,g7,_)=>[(6,(ah g6)),(7,(ah g7))]) (fun (g6,g7,A,c,R,s,e) w'=>MJ S nodes st R e∧Hp w ab w' [an g7 26 #[.int .i64 e],an g6 58 (mW (.slice A R.length c) (if e=0 then 1 else 0) 0 s),own 50 3 (.slice A R.length c) R.length (flat a6 R),an g4 58 (mW (.slice none 0 0) 0 0 0),an g3 23 (lb nodes st),an g2 41 (bo S.n (.slice Bo S.on.length co) (.slice Bm S.may.length cm))] []) ?_ ?_
 ·refine H.ai 2 rfl dw bL ?_;refine H.ai 1 rfl FH AQ ?_;refine aj (O8 g k l nodes st (by omega) (by omega) (by omega) Bo co Bm cm _ (h.same H.keeps)) ?_;rintro _ y ⟨A,c,R,s,e,rfl,q,j⟩;replace H:=H.bq j;refine H.alloc 58 (cs:=mW (.slice none 0 0) 0 0 0) t_ rfl ?_;clear H;intro g6 z H;refine H.alloc 26 (cs:=#[.int .i64 0]) K3 rfl ?_;clear H;intro g7 r H;refine H.storeAll 1 rfl dE rfl fZ ?_;clear H;intro B H;refine H.store 0 rfl jG (Nat.le_of_ble_eq_true rfl) rfl ?_;clear H;intro M H;exact ⟨(g6,g7,A,c,R,s,e),⟨rfl,rfl,trivial⟩,q,H⟩
 clear H;rintro ⟨g6,g7,A,c,R,s,e⟩ u y ⟨q,H⟩;refine ak (γ:=Unit) (fun _=>[(8,.func (.func 56) #[] #[(ah g2),(ah g7)])]) (fun _ w'=>Hp.cl H w') ?_ ?_
 ·refine AS ?_;exact ⟨(),⟨rfl,trivial⟩,H⟩
 rintro ⟨⟩ u z H1;replace H:Hp w ab z [an g7 26 #[.int .i64 e],an g6 58 (mW (.slice A R.length c) (if e=0 then 1 else 0) 0 s),own 50 3 (.slice A R.length c) R.length (flat a6 R),an g4 58 (mW (.slice none 0 0) 0 0 0),an g3 23 (lb nodes st),an g2 41 (bo S.n (.slice Bo S.on.length co) (.slice Bm S.may.length cm))] []:=H1;clear H1;refine H.load 0 rfl nV rfl ?_;rcases q with ⟨rfl,f1,f2,f3⟩ | ⟨rfl,rfl,f⟩ | ⟨rfl,rfl,f⟩
 ·refine ag rfl ?_;refine H.ai 1 rfl mq dE ?_;refine H.storeAll 3 rfl dE rfl fZ ?_;clear H;intro r H;refine H.ai 3 rfl mq dE ?_;refine ⟨rfl,?_⟩;exact ⟨A,c,R,1,0,s,0,rfl,.inr ⟨a,rfl,.inl ⟨rfl,rfl,f1,f2,f3⟩⟩,H.uZ 2 rfl⟩
 ·refine af rfl ?_;refine af rfl ?_;refine ff (args:=[.int .i64 0]) (cap:=[(ah g2),(ah g7)]) (OR g 0 5 g2 g7 Bo co Bm cm _ (h.same H.keeps) (H.get 5 rfl) (H.get 0 rfl)) ?_;rintro _ r ⟨t,c2,rows,rfl,x,j⟩;replace H:=H.bq j;refine H.storeAll 4 rfl dE rfl fZ ?_;clear H;intro B H;refine H.ai 4 rfl mq dE ?_;refine ⟨rfl,?_⟩;exact ⟨t,c2,rows,2,5,0,0,rfl,.inr ⟨a,rfl,.inr ⟨rfl,x,.inl ⟨rfl,f⟩⟩⟩,H.uZ 0 rfl⟩
 ·refine af rfl ?_;refine ag rfl ?_;refine aa (pG _) ?_;refine H.load 4 rfl aF rfl ?_;refine ff (args:=[.int .i64 (st:Int)]) (cap:=[(ah g2),(ah g7)]) (OR g st 6 g2 g7 Bo co Bm cm _ (h.same H.keeps) (H.get 5 rfl) (H.get 0 rfl)) ?_;rintro _ r ⟨t,c2,rows,rfl,x,j⟩;replace H:=H.bq j;refine H.storeAll 4 rfl dE rfl fZ ?_;clear H;intro B H;refine H.ai 4 rfl mq dE ?_;refine ⟨rfl,?_⟩;obtain ⟨D,E,F,O⟩:=f;exact ⟨t,c2,rows,2,6,st,0,rfl,.inr ⟨a,rfl,.inr ⟨rfl,x,.inr ⟨rfl,D,E,F,by omega⟩⟩⟩,H.uZ 0 rfl⟩
end Go.Proofs.YtpjihhgjbbihkaaGreatDoor
namespace Go.Proofs
open Go.Shelf
def Tryz.y4:Go.Shelf.Ren:=⟨fun | 103=>73 | 210=>99 | 206=>141 | n=>n,fun | 9=>9 | 4=>4 | 24=>127 | 3=>3 | n=>n,fun | n=>n⟩
theorem Tryz.HR:Go.Proofs.Lays.n103 prog Tryz.y4:={
 mixed:=by kernel_rfl
 f103:=func73.trans (congrArg some (by kernel_rfl))
 f206:=func141.trans (congrArg some (by kernel_rfl))
 f210:=func99.trans (congrArg some (by kernel_rfl))
 t3:=underlying3
 a3:=Tryz.isAgg3
 z3:=Tryz.sizeOf3
 v3:=Tryz.zeroValue3
 t4:=underlying4
 a4:=Tryz.isAgg4
 z4:=Tryz.sizeOf4
 v4:=Tryz.zeroValue4
 t9:=underlying9
 a9:=Tryz.isAgg9
 z9:=Tryz.sizeOf9
 v9:=Tryz.zeroValue9
 t24:=underlying127
 a24:=Tryz.isAgg127
 z24:=Tryz.sizeOf127
 v24:=Tryz.zeroValue127 }
open Go.RowKit in
theorem Tryz.strings_CutPrefix (s p:ByteArray)(w:World) :
  Calls prog 73 #[.string s,.string p] w fun e w'=>e=.returned (.tuple #[.string ⟨(Lib.trimPrefix s.data.toList p.data.toList).toArray⟩,.bool (Lib.hasPrefix s.data.toList p.data.toList)])∧w'=w:=Any.strings_CutPrefix Tryz.HR s p w
def Tryz.xj:Go.Shelf.Ren:=⟨fun | 171=>60 | 243=>94 | 246=>134 | 283=>162 | 284=>163 | 285=>164 | 286=>165 | 129=>192 | 317=>191 | 318=>193 | 319=>194 | 320=>195 | 337=>207 | 338=>208 | n=>n,fun | 3=>3 | 9=>9 | 2=>2 | 4=>4 | 171=>226 | 0=>0 | 53=>81 | 37=>151 | 5=>5 | 173=>229 | 212=>257 | 51=>258 | 20=>20 | 213=>259 | 46=>213 | 232=>289 | 233=>290 | n=>n,fun | 17=>1 | 18=>6 | 19=>7 | n=>n⟩
theorem Tryz.FM:Go.Proofs.LaysM.n171 prog Tryz.xj:={
 mixed:=by kernel_rfl
 f129:=func192.trans (congrArg some (by kernel_rfl))
 f171:=func60.trans (congrArg some (by kernel_rfl))
 f243:=func94.trans (congrArg some (by kernel_rfl))
 f246:=func134.trans (congrArg some (by kernel_rfl))
 f283:=func162.trans (congrArg some (by kernel_rfl))
 f284:=func163.trans (congrArg some (by kernel_rfl))
 f285:=func164.trans (congrArg some (by kernel_rfl))
 f286:=func165.trans (congrArg some (by kernel_rfl))
 f317:=func191.trans (congrArg some (by kernel_rfl))
 f318:=func193.trans (congrArg some (by kernel_rfl))
 f319:=func194.trans (congrArg some (by kernel_rfl))
 f320:=func195.trans (congrArg some (by kernel_rfl))
 f337:=func207.trans (congrArg some (by kernel_rfl))
 f338:=func208.trans (congrArg some (by kernel_rfl))
 t0:=underlying0
 a0:=Tryz.isAgg0
 z0:=Tryz.sizeOf0
 v0:=Tryz.zeroValue0
 t2:=underlying2
 a2:=Tryz.isAgg2
 z2:=Tryz.sizeOf2
 v2:=Tryz.zeroValue2
 t3:=underlying3
 a3:=Tryz.isAgg3
 z3:=Tryz.sizeOf3
 v3:=Tryz.zeroValue3
 t4:=underlying4
 a4:=Tryz.isAgg4
 z4:=Tryz.sizeOf4
 v4:=Tryz.zeroValue4
 t5:=underlying5
 a5:=Tryz.isAgg5
 z5:=Tryz.sizeOf5
 v5:=Tryz.zeroValue5
 t9:=underlying9
 a9:=Tryz.isAgg9
 z9:=Tryz.sizeOf9
 v9:=Tryz.zeroValue9
 t20:=underlying20
 a20:=Tryz.isAgg20
 z20:=Tryz.sizeOf20
 v20:=Tryz.zeroValue20
 t37:=underlying151
 a37:=Tryz.isAgg151
 z37:=Tryz.sizeOf151
 v37:=Tryz.zeroValue151
 t46:=underlying213
 a46:=Tryz.isAgg213
 z46:=Tryz.sizeOf213
 v46:=Tryz.zeroValue213
 t51:=underlying258
 a51:=Tryz.isAgg258
 z51:=Tryz.sizeOf258
 v51:=Tryz.zeroValue258
 t53:=underlying81
 a53:=Tryz.isAgg81
 z53:=Tryz.sizeOf81
 v53:=Tryz.zeroValue81
 t171:=underlying226
 a171:=Tryz.isAgg226
 z171:=Tryz.sizeOf226
 v171:=Tryz.zeroValue226
 t173:=underlying229
 a173:=Tryz.isAgg229
 z173:=Tryz.sizeOf229
 v173:=Tryz.zeroValue229
 t212:=underlying257
 a212:=Tryz.isAgg257
 z212:=Tryz.sizeOf257
 v212:=Tryz.zeroValue257
 t213:=underlying259
 a213:=Tryz.isAgg259
 z213:=Tryz.sizeOf259
 t232:=underlying289
 a232:=Tryz.isAgg289
 z232:=Tryz.sizeOf289
 v232:=Tryz.zeroValue289
 t233:=underlying290
 a233:=Tryz.isAgg290
 z233:=Tryz.sizeOf290
 v233:=Tryz.zeroValue290
 g17:=by kernel_rfl
 g18:=by kernel_rfl
 g19:=by kernel_rfl
 i0:=by kernel_rfl
 i2:=by kernel_rfl
 i3:=by kernel_rfl
 i4:=by kernel_rfl
 i5:=by kernel_rfl
 i9:=by kernel_rfl
 i20:=by kernel_rfl
 i37:=by kernel_rfl
 i46:=by kernel_rfl
 i51:=by kernel_rfl
 i53:=by kernel_rfl
 i171:=by kernel_rfl
 i173:=by kernel_rfl
 i212:=by kernel_rfl
 i232:=by kernel_rfl
 i233:=by kernel_rfl
 m17:=by kernel_rfl
 m18:=by kernel_rfl
 m19:=by kernel_rfl }
open Go.RowKit Go.Sort Go.Lib in
theorem Tryz.strconv_Itoa (n : Int) (h0 : -9223372036854775808 ≤ n) (h1 : n ≤ 9223372036854775807) (w : World) (htab : Lib.TabIs prog w "internal/strconv.uint64pow10" .u64 Lib.pow10Tab) :
  Calls prog 60 #[.int .i64 n] w fun e w'=>e=.returned (.string ⟨(Lib.itoa n).toArray⟩)∧∃ k os,w'=grow (w.drewN k) os:=Any.strconv_Itoa Tryz.FM n h0 h1 w htab
def Tryz.y5:Go.Shelf.Ren:=⟨fun | 171=>60 | 243=>94 | 246=>134 | 283=>162 | 284=>163 | 285=>164 | 286=>165 | 129=>192 | 317=>191 | 318=>193 | 319=>194 | 320=>195 | 337=>207 | 338=>208 | n=>n,fun | 3=>3 | 9=>9 | 2=>2 | 4=>4 | 171=>226 | 0=>0 | 53=>81 | 37=>151 | 5=>5 | 173=>229 | 212=>257 | 51=>258 | 20=>20 | 213=>259 | 46=>213 | 232=>289 | 233=>290 | n=>n,fun | 17=>1 | 18=>6 | 19=>7 | n=>n⟩
theorem Tryz.HS:Go.Proofs.Lays.n171 prog Tryz.y5:={
 mixed:=by kernel_rfl
 f129:=func192.trans (congrArg some (by kernel_rfl))
 f171:=func60.trans (congrArg some (by kernel_rfl))
 f243:=func94.trans (congrArg some (by kernel_rfl))
 f246:=func134.trans (congrArg some (by kernel_rfl))
 f283:=func162.trans (congrArg some (by kernel_rfl))
 f284:=func163.trans (congrArg some (by kernel_rfl))
 f285:=func164.trans (congrArg some (by kernel_rfl))
 f286:=func165.trans (congrArg some (by kernel_rfl))
 f317:=func191.trans (congrArg some (by kernel_rfl))
 f318:=func193.trans (congrArg some (by kernel_rfl))
 f319:=func194.trans (congrArg some (by kernel_rfl))
 f320:=func195.trans (congrArg some (by kernel_rfl))
 f337:=func207.trans (congrArg some (by kernel_rfl))
 f338:=func208.trans (congrArg some (by kernel_rfl))
 t0:=underlying0
 a0:=Tryz.isAgg0
 z0:=Tryz.sizeOf0
 v0:=Tryz.zeroValue0
 t2:=underlying2
 a2:=Tryz.isAgg2
 z2:=Tryz.sizeOf2
 v2:=Tryz.zeroValue2
 t3:=underlying3
 a3:=Tryz.isAgg3
 z3:=Tryz.sizeOf3
 v3:=Tryz.zeroValue3
 t4:=underlying4
 a4:=Tryz.isAgg4
 z4:=Tryz.sizeOf4
 v4:=Tryz.zeroValue4
 t5:=underlying5
 a5:=Tryz.isAgg5
 z5:=Tryz.sizeOf5
 v5:=Tryz.zeroValue5
 t9:=underlying9
 a9:=Tryz.isAgg9
 z9:=Tryz.sizeOf9
 v9:=Tryz.zeroValue9
 t20:=underlying20
 a20:=Tryz.isAgg20
 z20:=Tryz.sizeOf20
 v20:=Tryz.zeroValue20
 t37:=underlying151
 a37:=Tryz.isAgg151
 z37:=Tryz.sizeOf151
 v37:=Tryz.zeroValue151
 t46:=underlying213
 a46:=Tryz.isAgg213
 z46:=Tryz.sizeOf213
 v46:=Tryz.zeroValue213
 t51:=underlying258
 a51:=Tryz.isAgg258
 z51:=Tryz.sizeOf258
 v51:=Tryz.zeroValue258
 t53:=underlying81
 a53:=Tryz.isAgg81
 z53:=Tryz.sizeOf81
 v53:=Tryz.zeroValue81
 t171:=underlying226
 a171:=Tryz.isAgg226
 z171:=Tryz.sizeOf226
 v171:=Tryz.zeroValue226
 t173:=underlying229
 a173:=Tryz.isAgg229
 z173:=Tryz.sizeOf229
 v173:=Tryz.zeroValue229
 t212:=underlying257
 a212:=Tryz.isAgg257
 z212:=Tryz.sizeOf257
 v212:=Tryz.zeroValue257
 t213:=underlying259
 a213:=Tryz.isAgg259
 z213:=Tryz.sizeOf259
 t232:=underlying289
 a232:=Tryz.isAgg289
 z232:=Tryz.sizeOf289
 v232:=Tryz.zeroValue289
 t233:=underlying290
 a233:=Tryz.isAgg290
 z233:=Tryz.sizeOf290
 v233:=Tryz.zeroValue290
 g17:=by kernel_rfl
 g18:=by kernel_rfl
 g19:=by kernel_rfl }
open Go.RowKit Go.Sort Go.Lib in
theorem Tryz.strconv_Itoa_small (i:Nat)(hi:i<100)(w:World) :
  Calls prog 60 #[.int .i64 i] w fun e w'=>e=.returned (.string ⟨(Lib.decDigits i).toArray⟩)∧w'=w:=Any.strconv_Itoa_small Tryz.HS i hi w
def Tryz.xk:Go.Shelf.Ren:=⟨fun | 172=>98 | 244=>139 | 245=>140 | 247=>171 | 279=>172 | 280=>173 | 281=>174 | 282=>175 | 287=>198 | 316=>199 | 171=>60 | 205=>200 | 321=>209 | 322=>210 | 243=>94 | 246=>134 | 283=>162 | 284=>163 | 285=>164 | 286=>165 | 129=>192 | 317=>191 | 318=>193 | 319=>194 | 320=>195 | 337=>207 | 338=>208 | n=>n,fun | 9=>9 | 3=>3 | 75=>155 | 76=>156 | 4=>4 | 5=>5 | 167=>231 | 37=>151 | 0=>0 | 85=>232 | 2=>2 | 168=>234 | 53=>81 | 175=>267 | 46=>213 | 210=>271 | 127=>283 | 145=>286 | 143=>284 | 21=>21 | 171=>226 | 173=>229 | 212=>257 | 51=>258 | 20=>20 | 213=>259 | 232=>289 | 233=>290 | 80=>293 | n=>n,fun | 15=>4 | 16=>5 | 17=>1 | 18=>6 | 19=>7 | n=>n⟩
theorem Tryz.ua:Go.Proofs.LaysC.n172 prog Tryz.xk:={
 mixed:=by kernel_rfl
 f129:=func192.trans (congrArg some (by kernel_rfl))
 f171:=func60.trans (congrArg some (by kernel_rfl))
 f172:=func98.trans (congrArg some (by kernel_rfl))
 f205:=func200.trans (congrArg some (by kernel_rfl))
 f243:=func94.trans (congrArg some (by kernel_rfl))
 f244:=func139.trans (congrArg some (by kernel_rfl))
 f245:=func140.trans (congrArg some (by kernel_rfl))
 f246:=func134.trans (congrArg some (by kernel_rfl))
 f247:=func171.trans (congrArg some (by kernel_rfl))
 f279:=func172.trans (congrArg some (by kernel_rfl))
 f280:=func173.trans (congrArg some (by kernel_rfl))
 f281:=func174.trans (congrArg some (by kernel_rfl))
 f282:=func175.trans (congrArg some (by kernel_rfl))
 f283:=func162.trans (congrArg some (by kernel_rfl))
 f284:=func163.trans (congrArg some (by kernel_rfl))
 f285:=func164.trans (congrArg some (by kernel_rfl))
 f286:=func165.trans (congrArg some (by kernel_rfl))
 f287:=func198.trans (congrArg some (by kernel_rfl))
 f316:=func199.trans (congrArg some (by kernel_rfl))
 f317:=func191.trans (congrArg some (by kernel_rfl))
 f318:=func193.trans (congrArg some (by kernel_rfl))
 f319:=func194.trans (congrArg some (by kernel_rfl))
 f320:=func195.trans (congrArg some (by kernel_rfl))
 f321:=func209.trans (congrArg some (by kernel_rfl))
 f322:=func210.trans (congrArg some (by kernel_rfl))
 f337:=func207.trans (congrArg some (by kernel_rfl))
 f338:=func208.trans (congrArg some (by kernel_rfl))
 t0:=underlying0
 a0:=Tryz.isAgg0
 z0:=Tryz.sizeOf0
 v0:=Tryz.zeroValue0
 t2:=underlying2
 a2:=Tryz.isAgg2
 z2:=Tryz.sizeOf2
 v2:=Tryz.zeroValue2
 t3:=underlying3
 a3:=Tryz.isAgg3
 z3:=Tryz.sizeOf3
 v3:=Tryz.zeroValue3
 t4:=underlying4
 a4:=Tryz.isAgg4
 z4:=Tryz.sizeOf4
 v4:=Tryz.zeroValue4
 t5:=underlying5
 a5:=Tryz.isAgg5
 z5:=Tryz.sizeOf5
 v5:=Tryz.zeroValue5
 t9:=underlying9
 a9:=Tryz.isAgg9
 z9:=Tryz.sizeOf9
 v9:=Tryz.zeroValue9
 t20:=underlying20
 a20:=Tryz.isAgg20
 z20:=Tryz.sizeOf20
 v20:=Tryz.zeroValue20
 t21:=underlying21
 a21:=Tryz.isAgg21
 z21:=Tryz.sizeOf21
 v21:=Tryz.zeroValue21
 t37:=underlying151
 a37:=Tryz.isAgg151
 z37:=Tryz.sizeOf151
 v37:=Tryz.zeroValue151
 t46:=underlying213
 a46:=Tryz.isAgg213
 z46:=Tryz.sizeOf213
 v46:=Tryz.zeroValue213
 t51:=underlying258
 a51:=Tryz.isAgg258
 z51:=Tryz.sizeOf258
 v51:=Tryz.zeroValue258
 t53:=underlying81
 a53:=Tryz.isAgg81
 z53:=Tryz.sizeOf81
 v53:=Tryz.zeroValue81
 t75:=underlying155
 a75:=Tryz.isAgg155
 z75:=Tryz.sizeOf155
 v75:=Tryz.zeroValue155
 t76:=underlying156
 a76:=Tryz.isAgg156
 z76:=Tryz.sizeOf156
 v76:=Tryz.zeroValue156
 t85:=underlying232
 a85:=Tryz.isAgg232
 z85:=Tryz.sizeOf232
 v85:=Tryz.zeroValue232
 t127:=underlying283
 a127:=Tryz.isAgg283
 z127:=Tryz.sizeOf283
 v127:=Tryz.zeroValue283
 t143:=underlying284
 a143:=Tryz.isAgg284
 z143:=Tryz.sizeOf284
 v143:=Tryz.zeroValue284
 t145:=underlying286
 a145:=Tryz.isAgg286
 z145:=Tryz.sizeOf286
 v145:=Tryz.zeroValue286
 t167:=underlying231
 a167:=Tryz.isAgg231
 z167:=Tryz.sizeOf231
 v167:=Tryz.zeroValue231
 t168:=underlying234
 a168:=Tryz.isAgg234
 z168:=Tryz.sizeOf234
 v168:=Tryz.zeroValue234
 t171:=underlying226
 a171:=Tryz.isAgg226
 z171:=Tryz.sizeOf226
 v171:=Tryz.zeroValue226
 t173:=underlying229
 a173:=Tryz.isAgg229
 z173:=Tryz.sizeOf229
 v173:=Tryz.zeroValue229
 t175:=underlying267
 a175:=Tryz.isAgg267
 z175:=Tryz.sizeOf267
 v175:=Tryz.zeroValue267
 t210:=underlying271
 a210:=Tryz.isAgg271
 z210:=Tryz.sizeOf271
 v210:=Tryz.zeroValue271
 t212:=underlying257
 a212:=Tryz.isAgg257
 z212:=Tryz.sizeOf257
 v212:=Tryz.zeroValue257
 t213:=underlying259
 a213:=Tryz.isAgg259
 z213:=Tryz.sizeOf259
 t232:=underlying289
 a232:=Tryz.isAgg289
 z232:=Tryz.sizeOf289
 v232:=Tryz.zeroValue289
 t233:=underlying290
 a233:=Tryz.isAgg290
 z233:=Tryz.sizeOf290
 v233:=Tryz.zeroValue290
 g15:=by kernel_rfl
 g16:=by kernel_rfl
 g17:=by kernel_rfl
 g18:=by kernel_rfl
 g19:=by kernel_rfl
 t80:=underlying293
 a80:=Tryz.isAgg293
 z80:=Tryz.sizeOf293
 v80:=Tryz.zeroValue293
 i0:=by kernel_rfl
 i2:=by kernel_rfl
 i3:=by kernel_rfl
 i4:=by kernel_rfl
 i5:=by kernel_rfl
 i9:=by kernel_rfl
 i20:=by kernel_rfl
 i21:=by kernel_rfl
 i37:=by kernel_rfl
 i46:=by kernel_rfl
 i51:=by kernel_rfl
 i53:=by kernel_rfl
 i75:=by kernel_rfl
 i76:=by kernel_rfl
 i80:=by kernel_rfl
 i85:=by kernel_rfl
 i127:=by kernel_rfl
 i143:=by kernel_rfl
 i145:=by kernel_rfl
 i167:=by kernel_rfl
 i168:=by kernel_rfl
 i171:=by kernel_rfl
 i173:=by kernel_rfl
 i175:=by kernel_rfl
 i210:=by kernel_rfl
 i212:=by kernel_rfl
 i232:=by kernel_rfl
 i233:=by kernel_rfl
 m15:=by kernel_rfl
 m16:=by kernel_rfl
 m17:=by kernel_rfl
 m18:=by kernel_rfl
 m19:=by kernel_rfl
 c0:=by kernel_rfl
 c2:=by kernel_rfl
 c3:=by kernel_rfl
 c4:=by kernel_rfl
 c5:=by kernel_rfl
 c9:=by kernel_rfl
 c20:=by kernel_rfl
 c21:=by kernel_rfl
 c37:=by kernel_rfl
 c46:=by kernel_rfl
 c51:=by kernel_rfl
 c53:=by kernel_rfl
 c75:=by kernel_rfl
 c76:=by kernel_rfl
 c80:=by kernel_rfl
 c85:=by kernel_rfl
 c127:=by kernel_rfl
 c143:=by kernel_rfl
 c145:=by kernel_rfl
 c167:=by kernel_rfl
 c168:=by kernel_rfl
 c171:=by kernel_rfl
 c173:=by kernel_rfl
 c175:=by kernel_rfl
 c210:=by kernel_rfl
 c212:=by kernel_rfl
 c213:=by kernel_rfl
 c232:=by kernel_rfl
 c233:=by kernel_rfl }
open Go.RowKit in
theorem Tryz.strconv_Atoi_ok (s:ByteArray)(a:s.size≤9223372036854775806)(v:Int)(h:Lib.atoiAll s.data.toList=.ok v)(w:World) :
  Calls prog 98 #[.string s] w fun e w'=>e=.returned (.tuple #[.int .i64 v,.nilIface])∧(w'=w∨∃ t,w'=Lib.bytesWorld w 5 t):=Any.strconv_Atoi_ok Tryz.ua s a v h w
open Go.RowKit in
theorem Tryz.strconv_Atoi_syntax_var (s : ByteArray) (hlim : s.size ≤ 281474976710656) (h1 : ∀ v, Lib.atoiAll s.data.toList ≠ .ok v) (h2 : Lib.atoiAll s.data.toList ≠ .range) (tp : TypeId) (p : Value) (w : World) (hvar : w.var? prog "strconv.ErrSyntax" = some #[.iface tp p]) :
  Calls prog 98 #[.string s] w fun e w'=>∃ N,e=.returned (.tuple #[.int .i64 0,.iface 234 (.pointer (some ⟨N,0,none⟩))])∧w.heap.size≤N∧w'.heap[N]?=some (.cells #[.string ⟨#[65,116,111,105]⟩,.string s,.iface tp p] 271 (0,0))∧Below w.heap.size w w':=by
 cases h:Lib.atoiAll s.data.toList with
 | ok v=>exact absurd h (h1 v)
 | range=>exact absurd h h2
 | _=>exact Any.strconv_Atoi_syntax_var Tryz.ua s hlim h tp p w hvar
open Go.RowKit in
theorem Tryz.strconv_Atoi_range_var (s : ByteArray) (hlim : s.size ≤ 281474976710656) (h : Lib.atoiAll s.data.toList = .range) (tp : TypeId) (p : Value) (w : World) (hvar : w.var? prog "strconv.ErrRange" = some #[.iface tp p]) :
  Calls prog 98 #[.string s] w fun e w'=>∃ N,e=.returned (.tuple #[.int .i64 (Lib.atoiSat s.data.toList),.iface 234 (.pointer (some ⟨N,0,none⟩))])∧w.heap.size≤N∧w'.heap[N]?=some (.cells #[.string ⟨#[65,116,111,105]⟩,.string s,.iface tp p] 271 (0,0))∧Below w.heap.size w w':=Any.strconv_Atoi_range_var Tryz.ua s hlim h tp p w hvar
def Tryz.y6:Go.Shelf.Ren:=⟨fun | 145=>100 | 220=>142 | 219=>138 | 217=>167 | 225=>168 | 224=>169 | 267=>170 | 266=>196 | 314=>197 | n=>n,fun | 9=>9 | 4=>4 | 59=>158 | 3=>3 | 5=>5 | 46=>213 | 146=>265 | 51=>258 | n=>n,fun | 1=>0 | n=>n⟩
theorem Tryz.HT:Go.Proofs.Lays.n145 prog Tryz.y6:={
 mixed:=by kernel_rfl
 f145:=func100.trans (congrArg some (by kernel_rfl))
 f217:=func167.trans (congrArg some (by kernel_rfl))
 f219:=func138.trans (congrArg some (by kernel_rfl))
 f220:=func142.trans (congrArg some (by kernel_rfl))
 f224:=func169.trans (congrArg some (by kernel_rfl))
 f225:=func168.trans (congrArg some (by kernel_rfl))
 f266:=func196.trans (congrArg some (by kernel_rfl))
 f267:=func170.trans (congrArg some (by kernel_rfl))
 f314:=func197.trans (congrArg some (by kernel_rfl))
 t3:=underlying3
 a3:=Tryz.isAgg3
 z3:=Tryz.sizeOf3
 v3:=Tryz.zeroValue3
 t4:=underlying4
 a4:=Tryz.isAgg4
 z4:=Tryz.sizeOf4
 v4:=Tryz.zeroValue4
 t5:=underlying5
 a5:=Tryz.isAgg5
 z5:=Tryz.sizeOf5
 v5:=Tryz.zeroValue5
 t9:=underlying9
 a9:=Tryz.isAgg9
 z9:=Tryz.sizeOf9
 v9:=Tryz.zeroValue9
 t46:=underlying213
 a46:=Tryz.isAgg213
 z46:=Tryz.sizeOf213
 v46:=Tryz.zeroValue213
 t51:=underlying258
 a51:=Tryz.isAgg258
 z51:=Tryz.sizeOf258
 v51:=Tryz.zeroValue258
 t59:=underlying158
 a59:=Tryz.isAgg158
 z59:=Tryz.sizeOf158
 v59:=Tryz.zeroValue158
 t146:=underlying265
 a146:=Tryz.isAgg265
 z146:=Tryz.sizeOf265
 v146:=Tryz.zeroValue265
 g1:=by kernel_rfl }
open Go.RowKit Go.Lib in
theorem Tryz.strings_Cut (s sep:ByteArray)(m:Int)(w:World)(hs:s.size<4294967281)(hm:w.cell? ⟨0,0,none⟩=some (.int .i64 m)) :
  Calls prog 100 #[.string s,.string sep] w fun e w'=>e=.returned (.tuple #[.string ⟨(Lib.cut s.data.toList sep.data.toList).1.toArray⟩,.string ⟨(Lib.cut s.data.toList sep.data.toList).2.1.toArray⟩,.bool (Lib.cut s.data.toList sep.data.toList).2.2])∧∃ n,w'=w.drewN n:=Any.strings_Cut Tryz.HT s sep m w hs hm
def Tryz.y7:Go.Shelf.Ren:=⟨fun | 146=>47 | 221=>70 | 268=>95 | 138=>96 | 143=>97 | 195=>135 | 197=>136 | 218=>137 | 219=>138 | 260=>166 | 217=>167 | 225=>168 | 224=>169 | 267=>170 | 266=>196 | 314=>197 | n=>n,fun | 9=>9 | 31=>73 | 3=>3 | 4=>4 | 0=>0 | 105=>196 | 21=>21 | 5=>5 | 46=>213 | 119=>261 | 139=>264 | 138=>263 | 146=>265 | 51=>258 | n=>n,fun | 1=>0 | 3=>2 | 4=>3 | n=>n⟩
theorem Tryz.HU:Go.Proofs.Lays.n146 prog Tryz.y7:={
 mixed:=by kernel_rfl
 f138:=func96.trans (congrArg some (by kernel_rfl))
 f143:=func97.trans (congrArg some (by kernel_rfl))
 f146:=func47.trans (congrArg some (by kernel_rfl))
 f195:=func135.trans (congrArg some (by kernel_rfl))
 f197:=func136.trans (congrArg some (by kernel_rfl))
 f217:=func167.trans (congrArg some (by kernel_rfl))
 f218:=func137.trans (congrArg some (by kernel_rfl))
 f219:=func138.trans (congrArg some (by kernel_rfl))
 f221:=func70.trans (congrArg some (by kernel_rfl))
 f224:=func169.trans (congrArg some (by kernel_rfl))
 f225:=func168.trans (congrArg some (by kernel_rfl))
 f260:=func166.trans (congrArg some (by kernel_rfl))
 f266:=func196.trans (congrArg some (by kernel_rfl))
 f267:=func170.trans (congrArg some (by kernel_rfl))
 f268:=func95.trans (congrArg some (by kernel_rfl))
 f314:=func197.trans (congrArg some (by kernel_rfl))
 t0:=underlying0
 a0:=Tryz.isAgg0
 z0:=Tryz.sizeOf0
 v0:=Tryz.zeroValue0
 t3:=underlying3
 a3:=Tryz.isAgg3
 z3:=Tryz.sizeOf3
 v3:=Tryz.zeroValue3
 t4:=underlying4
 a4:=Tryz.isAgg4
 z4:=Tryz.sizeOf4
 v4:=Tryz.zeroValue4
 t5:=underlying5
 a5:=Tryz.isAgg5
 z5:=Tryz.sizeOf5
 v5:=Tryz.zeroValue5
 t9:=underlying9
 a9:=Tryz.isAgg9
 z9:=Tryz.sizeOf9
 v9:=Tryz.zeroValue9
 t21:=underlying21
 a21:=Tryz.isAgg21
 z21:=Tryz.sizeOf21
 v21:=Tryz.zeroValue21
 t31:=underlying73
 a31:=Tryz.isAgg73
 z31:=Tryz.sizeOf73
 v31:=Tryz.zeroValue73
 t46:=underlying213
 a46:=Tryz.isAgg213
 z46:=Tryz.sizeOf213
 v46:=Tryz.zeroValue213
 t51:=underlying258
 a51:=Tryz.isAgg258
 z51:=Tryz.sizeOf258
 v51:=Tryz.zeroValue258
 t105:=underlying196
 a105:=Tryz.isAgg196
 z105:=Tryz.sizeOf196
 v105:=Tryz.zeroValue196
 t119:=underlying261
 a119:=Tryz.isAgg261
 z119:=Tryz.sizeOf261
 t138:=underlying263
 a138:=Tryz.isAgg263
 z138:=Tryz.sizeOf263
 v138:=Tryz.zeroValue263
 t139:=underlying264
 a139:=Tryz.isAgg264
 z139:=Tryz.sizeOf264
 v139:=Tryz.zeroValue264
 t146:=underlying265
 a146:=Tryz.isAgg265
 z146:=Tryz.sizeOf265
 v146:=Tryz.zeroValue265
 g1:=by kernel_rfl
 g3:=by kernel_rfl
 g4:=by kernel_rfl }
open Go.RowKit Go.Lib in
theorem Tryz.strings_Split (s sep:ByteArray)(m:Int)(w:World)(hs:s.size<4294967281)(hm:w.cell? ⟨0,0,none⟩=some (.int .i64 m))(a:1≤sep.size) :
  Calls prog 47 #[.string s,.string sep] w fun e w'=>
   e=.returned (.slice (some ⟨w.heap.size,0,none⟩) (Lib.countB s sep+1) (Lib.countB s sep+1))∧w'=w.alloc (.cells ((Lib.splitB sep 0 (Lib.countB s sep) s).map Value.string).toArray 9):=Any.strings_Split Tryz.HU (by kernel_rfl) s sep m w hs hm a
end Go.Proofs
namespace Go.Proofs.YtpjihhgjbbihkaaGreatDoor
open Go.Proofs.Tryz
open Go.Dk
set_option maxRecDepth 100000
def OS : String := "strconv.ErrSyntax"
def OT : String := "strconv.ErrRange"
structure jA (w:World):Prop where
 max:∃ m,w.cell? ⟨0,0,none⟩=some (.int .i64 m)
 syn:∃ tp p,w.var? prog OS=some #[.iface tp p]
 rng:∃ tp p,w.var? prog OT=some #[.iface tp p]
 tab : Lib.TabIs prog w "internal/strconv.uint64pow10" .u64 Lib.pow10Tab
theorem rq {w w':World}{n:String}(h:∀ g,Tryz.prog.globalNamed n=some g→w'.heap[g]?=w.heap[g]?):w'.var? prog n=w.var? prog n:=by
 unfold World.var?
 cases hn:Tryz.prog.globalNamed n with
 | none=>rfl
 | some g=>
  simp only[Option.bind_some];rw[h g hn]
def K4 (x : Nat) : Prop := x = 0 ∨ Tryz.prog.globalNamed OS = some x ∨ Tryz.prog.globalNamed OT = some x ∨ Tryz.prog.globalNamed "internal/strconv.uint64pow10" = some x
theorem jA.bQ {w w':World}(h:∀ g,K4 g→w'.heap[g]?=w.heap[g]?)(k:jA w):jA w':=by
 obtain ⟨b,c,d,e⟩:=k;refine ⟨?_,?_,?_,?_⟩
 ·rw[show w'.cell? ⟨0,0,none⟩=w.cell? ⟨0,0,none⟩ from World.cell?_of_block (w:=w) (h 0 (.inl rfl))];exact b
 ·rw[rq fun g a=>h g (.inr (.inl a))];exact c
 ·rw[rq fun g a=>h g (.inr (.inr (.inl a)))];exact d
 ·unfold Lib.TabIs;rw[rq fun g a=>h g (.inr (.inr (.inr a)))];exact e
theorem AT {w:World}{n:String}{cs:Array Value}(h:w.var? prog n=some cs){g:Nat}(a:Tryz.prog.globalNamed n=some g):g<w.heap.size:=by
 unfold World.var? at h;rw[a] at h;simp only[Option.bind_some] at h;split at h
 ·rename_i b;exact (Array.getElem?_eq_some_iff.1 b).1
 ·cases h
theorem jA.lt {w:World}(h:jA w):∀ g,K4 g→g<w.heap.size:=by
 obtain ⟨⟨m,b⟩,⟨_,_,c⟩,⟨_,_,d⟩,e⟩:=h;rintro g (rfl | a | a | a)
 ·exact (CH b).2
 ·exact AT c a
 ·exact AT d a
 ·exact AT e a
def oK:cH:=⟨K4,jA,fun _ _ h k=>k.bQ h⟩
theorem jA.same {w w':World}(h:jA w)(a:aT w w'):jA w':=h.bQ fun g b=>a.old g (h.lt g b) id
theorem pI {w w':World}(h:RowKit.Below w.heap.size w w'):aT w w':=⟨h.os,h.tape,h.output,h.size,fun g a _=>h.block g a⟩
theorem Dw (w:World)(k:Nat)(os:Array Obj):aT w (Sort.grow (w.drewN k) os):=
 ⟨rfl,rfl,rfl,by rw[Sort.size_grow];exact Nat.le_add_right _ _,fun g a _=>Sort.heap_grow_old (w.drewN k) os a⟩
theorem AU (w:World)(k:Nat):aT w (w.drewN k):=⟨rfl,rfl,rfl,Nat.le_refl _,fun _ _ _=>rfl⟩
theorem lH {g:FuncId}{args:List Value}{w:World}{post:Value→World→Prop}{Q:Ending→World→Prop}(he:enters prog g=true)(h:Calls prog g args.toArray w Q)(a:∀ e w',Q e w'→∃ v,e=.returned v∧post v w'):bw prog g args w post:=
 ⟨he,h.mono a⟩
theorem HV (l:List UInt8):(⟨l.toArray⟩:ByteArray).data.toList=l:=rfl
theorem IQ (l:List UInt8):(⟨l.toArray⟩:ByteArray).size=l.length:=rfl
theorem MN:enters prog 73=true:=by kernel_rfl
theorem OU (l p:List UInt8)(w:World):bw prog 73 [aU l,aU p] w fun v w'=>v=.tuple #[aU (Lib.trimPrefix l p),.bool (Lib.hasPrefix l p)]∧aT w w':=
 lH MN (Tryz.strings_CutPrefix ⟨l.toArray⟩ ⟨p.toArray⟩ w) fun e w' ⟨he,hw⟩=>⟨_,he,rfl,by rw[hw];exact aS.refl _ _⟩
theorem K5:enters prog 100=true:=by kernel_rfl
theorem Ov (l p:List UInt8)(a:l.length<4294967281)(w:World)(b:jA w):bw prog 100 [aU l,aU p] w fun v w'=>v=.tuple #[aU (Lib.cut l p).1,aU (Lib.cut l p).2.1,.bool (Lib.cut l p).2.2]∧aT w w':=by
 obtain ⟨m,hm⟩:=b.max;exact lH K5 (Tryz.strings_Cut ⟨l.toArray⟩ ⟨p.toArray⟩ m w a hm) fun e w' ⟨he,n,hw⟩=>⟨_,he,rfl,by rw[hw];exact AU w n⟩
theorem IS:enters prog 60=true:=by kernel_rfl
theorem NH (n:Int)(a:-9223372036854775808≤n)(b:n≤9223372036854775807)(w:World)(c:jA w):bw prog 60 [.int .i64 n] w fun v w'=>v=aU (Lib.itoa n)∧aT w w':=
 lH IS (Tryz.strconv_Itoa n a b w c.tab) fun e w' ⟨he,k,os,hw⟩=>⟨_,he,rfl,by rw[hw];exact Dw w k os⟩
theorem vI (n:Nat)(a:n<100)(w:World):bw prog 60 [.int .i64 (n:Int)] w fun v w'=>v=aU (Lib.decDigits n)∧aT w w':=
 lH IS (Tryz.strconv_Itoa_small n a w) fun e w' ⟨he,hw⟩=>⟨_,he,rfl,by rw[hw];exact aS.refl _ _⟩
theorem FN:enters prog 98=true:=by kernel_rfl
theorem O_ (l:List UInt8)(d:l.length≤281474976710656)(w:World)(f:jA w):bw prog 98 [aU l] w fun v w'=>∃ n ev,v=.tuple #[.int .i64 n,ev]∧((Lib.atoiAll l=.ok n∧ev=.nilIface)∨((∀ m,Lib.atoiAll l≠.ok m)∧∃ N,ev=.iface 234 (ah N)))∧aT w w':=by
 cases h:Lib.atoiAll l with
 | ok n=>
  refine lH FN (Tryz.strconv_Atoi_ok ⟨l.toArray⟩ (by rw[IQ];omega) n h w) fun e w' ⟨he,hw⟩=>⟨_,he,n,.nilIface,rfl,.inl ⟨rfl,rfl⟩,?_⟩;rcases hw with rfl | ⟨t,rfl⟩
  ·exact aS.refl _ _
  ·exact pI (Lib.bytesWorld_below w 5 t)
 | range=>
  obtain ⟨b,p,a⟩:=f.rng;exact lH FN (Tryz.strconv_Atoi_range_var ⟨l.toArray⟩ d h b p w a) fun e w' ⟨N,he,_,_,c⟩=>⟨_,he,_,_,rfl,.inr ⟨fun m h=>(by cases h),N,rfl⟩,pI c⟩
 | _=>
  obtain ⟨b,p,a⟩:=f.syn;exact lH FN (Tryz.strconv_Atoi_syntax_var ⟨l.toArray⟩ d (fun _ a=>by cases h.symm.trans a) (fun a=>by cases h.symm.trans a) b p w a) fun e w' ⟨N,he,_,_,c⟩=>⟨_,he,0,_,rfl,.inr ⟨fun m h=>(by cases h),N,rfl⟩,pI c⟩
end Go.Proofs.YtpjihhgjbbihkaaGreatDoor
namespace Go.Dk
def bM:List UInt8→List (List UInt8)
 | []=>[[]]
 | c::s=>if c==10 then []::bM s else match bM s with
  | x::xs=>(c::x)::xs
  | []=>[[c]]
theorem mu (l:List UInt8):bM l≠[]:=by
 cases l with
 | nil=>simp[bM]
 | cons c s=>
  unfold bM;split
  ·simp
  ·split <;> simp
theorem lI (s:List UInt8):bM (10::s)=[]::bM s:=rfl
theorem iB {c:UInt8}(h:c≠10){s x:List UInt8}{xs:List (List UInt8)}(hs:bM s=x::xs):bM (c::s)=(c::x)::xs:=by
 show (if c==10 then _ else _)=_;rw[if_neg (by simpa using h),hs]
theorem AV (s:List UInt8):Lib.index (10::s) [10]=0:=by
 show (if [10].isPrefixOf (10::s) then _ else _)=_;rw[if_pos (by simp)]
theorem AW {c:UInt8}(h:c≠10)(s:List UInt8):Lib.index (c::s) [10]=if Lib.index s [10]== -1 then -1 else Lib.index s [10]+1:=by
 show (if [10].isPrefixOf (c::s) then _ else _)=_;rw[if_neg (by simp;exact fun e=>h e.symm)]
theorem lJ:∀ (l:List UInt8) (k:Nat),l.count 10≤k→Lib.splitK [10] 0 k l=bM l
 | [],k,_=>by cases k <;> rfl
 | c::s,k,hk=>by
  by_cases b:c=10
  ·subst b;rw[List.count_cons_self] at hk;obtain ⟨k',rfl⟩:∃ k',k=k'+1:=⟨k - 1,by omega⟩;rw[lI];unfold Lib.splitK;rw[AV,if_neg (by decide)];rw[← lJ s k' (by omega)];rfl
  ·rw[List.count_cons_of_ne (by simpa using b)] at hk;have e:=lJ s
   cases k with
   | zero=>
    have a:=e 0 hk;rw[iB b (x:=s) (xs:=[]) (by rw[← a];rfl)];rfl
   | succ k=>
    have a:=e (k+1) hk;unfold Lib.splitK at a ⊢;rw[AW b];by_cases hi:Lib.index s [10]= -1
    ·rw[hi] at a ⊢;simp at a ⊢;rw[iB b a.symm]
    ·have f:0≤Lib.index s [10]:=by
      rcases Lib.index_spec s [10] with ⟨h,_⟩ | ⟨i,h,_⟩
      ·exact absurd h hi
      ·omega
     obtain ⟨i,d⟩:∃ i:Nat,Lib.index s [10]=i:=⟨(Lib.index s [10]).toNat,by omega⟩;rw[d] at a ⊢;have g:((i:Int)== -1)=false:=beq_eq_false_iff_ne.2 (by omega);have j:((i:Int)+1== -1)=false:=beq_eq_false_iff_ne.2 (by omega);simp only[g,j,Bool.false_eq_true,if_false] at a ⊢;rw[iB b a.symm];rw[show ((i:Int)+1).toNat=i+1 by omega,Int.toNat_natCast];rfl
end Go.Dk
namespace Go.Proofs.YtpjihhgjbbihkaaGreatDoor
open Go.Proofs.Tryz
open Go.Dk
set_option maxRecDepth 100000
theorem lM (l:List UInt8):(bM l).length=l.count 10+1:=by
 have h:=Lib.splitB_all ⟨[10].toArray⟩ (by decide) 0 (Lib.countB ⟨l.toArray⟩ ⟨[10].toArray⟩) ⟨l.toArray⟩ rfl;have e:Lib.countB ⟨l.toArray⟩ ⟨[10].toArray⟩=l.count 10:=Lib.count_one 10 l;rw[e] at h;have a:=Lib.splitB_data ⟨[10].toArray⟩ 0 (l.count 10) ⟨l.toArray⟩;rw[HV,HV,lJ l _ (Nat.le_refl _)] at a;rw[← a,List.length_map,h]
theorem MO:enters prog 47=true:=by kernel_rfl
theorem Pa (l:List UInt8)(h:l.length≤100000)(w:World)(c:jA w):bw prog 47 [aU l,aU [10]] w fun v w'=>∃ g,v=.slice (some ⟨g,0,none⟩) (bM l).length (bM l).length∧eE w w' (own 9 1 (.slice (some ⟨g,0,none⟩) (bM l).length (bM l).length) (bM l).length ((bM l).map aU)):=by
 obtain ⟨m,hm⟩:=c.max;refine lH MO (Tryz.strings_Split ⟨l.toArray⟩ ⟨[10].toArray⟩ m w (by rw[IQ];omega) hm (by decide)) fun e w' ⟨he,hw⟩=>⟨_,he,w.heap.size,?_,?_⟩
 ·rw[show Lib.countB ⟨l.toArray⟩ ⟨[10].toArray⟩=l.count 10 from Lib.count_one 10 l,lM]
 ·have a:(Lib.splitB ⟨[10].toArray⟩ 0 (Lib.countB ⟨l.toArray⟩ ⟨[10].toArray⟩) ⟨l.toArray⟩).map Value.string=(bM l).map aU:=by
   have b:=Lib.splitB_data ⟨[10].toArray⟩ 0 (l.count 10) ⟨l.toArray⟩;rw[HV,HV,lJ l _ (Nat.le_refl _)] at b;rw[show Lib.countB ⟨l.toArray⟩ ⟨[10].toArray⟩=l.count 10 from Lib.count_one 10 l,← b,List.map_map];rfl
  rw[a] at hw;subst hw;have H:Hp w ab (w.alloc (.cells ((bM l).map aU).toArray 9)) [an w.heap.size 9 ((bM l).map aU).toArray] []:=(Hp.aC w).add (aS.alloc _ _) _ (heap_alloc_new w _) (by rintro g rfl;exact ⟨Nat.le_refl _,by simp⟩);have hlen:=lM l;have d:l.count 10≤l.length:=List.count_le_length;have f:=H.py (l:=(bM l).length) (sz:=1) (by simp) (by unfold maxLen;omega);exact f.out
end Go.Proofs.YtpjihhgjbbihkaaGreatDoor
namespace Go.Dk
abbrev Ln:=Nat × Nat × List Nat
structure Tb where
 kd:Nat
 ni:Nat
 no:Nat
 ls:List Ln
structure uQ (ni no:Nat) (l:Ln):Prop where
 m:l.1<2^ni
 v:l.2.1 &&&l.1=l.2.1
 len:l.2.2.length=no
 marks:∀ x ∈ l.2.2,x<3
structure kh (t:Tb):Prop where
 kd:t.kd≤3
 ni:t.ni≤8
 no1:1≤t.no
 no4:t.no≤4
 few:t.ls.length≤64
 ls:∀ l ∈ t.ls,uQ t.ni t.no l
end Go.Dk
namespace Go.Proofs.YtpjihhgjbbihkaaGreatDoor
open Go.Proofs.Tryz
open Go.Dk
set_option maxRecDepth 100000
attribute [local irreducible] IntKind.wrap
abbrev Hd:=Nat × Nat × Value
def fM (m v:Nat)(o:Value):Array Value:=#[.int .u8 (m:Int),.int .u8 (v:Int),o]
def kX (h:Hd):List Value:=[.int .u8 (h.1:Int),.int .u8 (h.2.1:Int),h.2.2]
theorem eR (h:Hd):(kX h).length=3:=rfl
def IT (S:Nat→Prop)(w:World)(h:Hd)(l:Ln):Prop:=h.1=l.1∧h.2.1=l.2.1∧∃ B c,h.2.2=.slice B l.2.2.length c∧(sl S (.slice B l.2.2.length c) 1 l.2.2.length (ints l.2.2)).ok w
theorem IT.mono {S a:Nat→Prop}{w:World}{h:Hd}{l:Ln}(k:IT S w h l)(b:∀ g,S g→a g):IT a w h l:=by
 obtain ⟨d,e,B,c,f,hs⟩:=k;exact ⟨d,e,B,c,f,sl.mono hs b⟩
theorem IT.bQ {S:Nat→Prop}{w w':World}{h:Hd}{l:Ln}(k:IT S w h l)(a:∀ g,S g→w'.heap[g]?=w.heap[g]?):IT S w' h l:=by
 obtain ⟨b,d,B,c,e,hs⟩:=k;exact ⟨b,d,B,c,e,(sl _ _ _ _ _).bQ _ _ a hs⟩
def lN (S:Nat→Prop)(w:World)(hs:List Hd)(ls:List Ln):Prop:=hs.length=ls.length∧∀ (j:Nat) (h:Hd) (l:Ln),hs[j]?=some h→ls[j]?=some l→IT S w h l
theorem lN.nil (S:Nat→Prop)(w:World):lN S w [] []:=⟨rfl,fun j u a h=>by simp at h⟩
theorem lN.snoc {S:Nat→Prop}{w:World}{hs:List Hd}{ls:List Ln}(h:lN S w hs ls){u:Hd}{l:Ln}(hu:IT S w u l):lN S w (hs++[u]) (ls++[l]):=by
 obtain ⟨e,f⟩:=h;refine ⟨by simp[e],fun j v rs b a=>?_⟩;by_cases d:j<hs.length
 ·rw[List.getElem?_append_left d] at b;rw[List.getElem?_append_left (by omega)] at a;exact f j v rs b a
 ·rw[List.getElem?_append_right (by omega)] at b a;have c:j - hs.length=0:=by have:=(List.getElem?_eq_some_iff.1 b).1;simp at this;omega
  rw[← e,c] at a;rw[c] at b;simp at b a;subst b;subst a;exact hu
theorem lN.bQ {S:Nat→Prop}{w w':World}{hs:List Hd}{ls:List Ln}(h:lN S w hs ls)(b:∀ g,S g→w'.heap[g]?=w.heap[g]?):lN S w' hs ls:=
 ⟨h.1,fun j u c d a=>(h.2 j u c d a).bQ b⟩
theorem lN.mono {S b:Nat→Prop}{w:World}{hs:List Hd}{ls:List Ln}(h:lN S w hs ls)(c:∀ g,S g→b g):lN b w hs ls:=
 ⟨h.1,fun j u d e a=>(h.2 j u d e a).mono c⟩
def qM (S:Nat→Prop)(hs:List Hd)(ls:List Ln):cH:=⟨S,fun w=>lN S w hs ls,fun _ _ h a=>a.bQ h⟩
def qw (S:Nat→Prop)(v:Value)(ls:List Ln)(w:World):Prop:=∃ B c hs,v=.slice B ls.length c∧(sl S (.slice B ls.length c) 3 ls.length (flat kX hs)).ok w∧lN S w hs ls
def ki (S:Nat→Prop)(v:Value)(ls:List Ln):cH:=
 ⟨S,qw S v ls,fun w w' h ⟨B,c,hs,a,b,d⟩=>⟨B,c,hs,a,(sl _ _ _ _ _).bQ w w' h b,d.bQ h⟩⟩
theorem qw.mono {S a:Nat→Prop}{v:Value}{ls:List Ln}{w:World}(h:qw S v ls w)(b:∀ g,S g→a g):qw a v ls w:=by
 obtain ⟨B,c,hs,d,e,f⟩:=h;exact ⟨B,c,hs,d,sl.mono e b,f.mono b⟩
def jg (w:World)(v:Value)(ls:List Ln):Prop:=qw (fun g=>g<w.heap.size) v ls w
theorem jg.same {w w':World}{v:Value}{ls:List Ln}(h:jg w v ls)(b:aT w w'):jg w' v ls:=
 qw.mono ((ki (fun g=>g<w.heap.size) v ls).bQ w w' (fun g a=>b.old g a id) h) fun _ a=>Nat.lt_of_lt_of_le a b.size
theorem jg.ub {w:World}{v:Value}{ls:List Ln}(h:jg w v ls):∃ B c hs,v=.slice B ls.length c∧Sl w (.slice B ls.length c) 3 ls.length (flat kX hs)∧hs.length=ls.length∧
  ∀ (i:Nat) (l:Ln),ls[i]?=some l→∃ a b,hs[i]?=some (l.1,l.2.1,.slice a l.2.2.length b)∧Sl w (.slice a l.2.2.length b) 1 l.2.2.length (ints l.2.2):=by
 obtain ⟨B,c,hs,f,g,j,k⟩:=h;refine ⟨B,c,hs,f,g,j,fun i l hi=>?_⟩;have m:=(List.getElem?_eq_some_iff.1 hi).1;have hu:hs[i]?=some (hs[i]'(by omega)):=List.getElem?_eq_getElem (by omega);obtain ⟨n,o,a,b,d,e⟩:=k i _ l hu hi;refine ⟨a,b,?_,e⟩;rw[hu]
 congr 1
 rw[← d,← n,← o]
theorem xl {w0 w:World}(e:aT w0 w){A:Option Addr}{n c:Nat}{hs:List Hd}{ls:List Ln}{S:Nat→Prop}(f:(own 77 3 (.slice A n c) n (flat kX hs)).ok w)(b:∀ g,(own 77 3 (.slice A n c) n (flat kX hs)).foot g→w0.heap.size≤g∧g<w.heap.size)(i:(qM S hs ls).ok w)(d:∀ g,S g→w0.heap.size≤g∧g<w.heap.size)(j:n=ls.length):eE w0 w (ki (fun g=>(Value.slice A n c).ownBlock=some g∨S g) (.slice A n c) ls):=by
 subst j;exact ⟨e,⟨A,c,hs,rfl,sl.mono (iH f) fun g a=>.inl a,lN.mono i fun g a=>.inr a⟩,fun g a=>a.elim (fun h=>b g h) (d g)⟩
def di (kd ni no:Int)(v:Value):Array Value:=#[.int .i64 kd,.int .i64 ni,.int .i64 no,v]
def sF (kd ni no:Int)(v:Value):Value:=.agg (di kd ni no v)
theorem ft:cP prog 33=some true:=by kernel_rfl
theorem bG:bE prog 33=some 4:=by kernel_rfl
theorem mX:eL prog 33=some (sF 0 0 0 (.slice none 0 0)):=by kernel_rfl
theorem f_:cP prog 31=some false:=by kernel_rfl
theorem xm:bE prog 31=some 1:=by kernel_rfl
theorem mw:cP prog 77=some true:=by kernel_rfl
theorem cF:bE prog 77=some 3:=by kernel_rfl
theorem lO:eL prog 77=some (.agg (fM 0 0 (.slice none 0 0))):=by kernel_rfl
theorem qx:bE prog 75=some 1:=by kernel_rfl
theorem eB (g o:Nat)(w:World):(Instr.fieldAt 33 (.pointer (some ⟨g,o,none⟩)) 0).run prog w=.ok (.pointer (some ⟨g,o,none⟩)) w:=by kernel_rfl
theorem eC (g o:Nat)(w:World):(Instr.fieldAt 33 (.pointer (some ⟨g,o,none⟩)) 1).run prog w=.ok (.pointer (some ⟨g,o+1,none⟩)) w:=by kernel_rfl
theorem fB (g o:Nat)(w:World):(Instr.fieldAt 33 (.pointer (some ⟨g,o,none⟩)) 2).run prog w=.ok (.pointer (some ⟨g,o+2,none⟩)) w:=by kernel_rfl
theorem dy (g o:Nat)(w:World):(Instr.fieldAt 33 (.pointer (some ⟨g,o,none⟩)) 3).run prog w=.ok (.pointer (some ⟨g,o+3,none⟩)) w:=by kernel_rfl
theorem xn (g:Nat)(w:World):(Instr.fieldAt 77 (ah g) 0).run prog w=.ok (ah g) w:=by kernel_rfl
theorem eI (g:Nat)(w:World):(Instr.fieldAt 77 (ah g) 1).run prog w=.ok (.pointer (some ⟨g,2,none⟩)) w:=by kernel_rfl
theorem IU:qI prog 31 77 (.agg (fM 0 0 (.slice none 0 0))) 3 32:=⟨underlying31,by kernel_rfl,rfl,by decide⟩
theorem eS {m v:Nat}{A:Option Addr}{l c:Nat}:∀ u ∈ (fM m v (.slice A l c)).toList,u.oneCell'=true:=by
 intro u hu;simp[fM] at hu;rcases hu with rfl | rfl | rfl <;> rfl
theorem dz {kd ni no:Int}{A:Option Addr}{l c:Nat}:∀ u ∈ (di kd ni no (.slice A l c)).toList,u.oneCell'=true:=by
 intro u hu;simp[di] at hu;rcases hu with rfl | rfl | rfl | rfl <;> rfl
theorem sG (m v:Nat)(o:Value):∀ (j:Nat) u,(cc m v).toList[j]?=some u→(fM m v o)[j]?=some u:=fun j u a=>by
 match j,a with
 | 0,a=>exact a
 | 1,a=>exact a
 | j+2,a=>simp[cc] at a
theorem kY {ni no:Nat}(a:ni≤8){l:Ln}(h:uQ ni no l):l.1<256∧l.2.1<256∧dJ l.1 l.2.1 ni=true:=by
 have b:2^ni≤2^8:=Nat.pow_le_pow_right (by decide) a;have c:=sub_lt h.m h.v;have:=h.m;exact ⟨by omega,by omega,(ep (by omega) (by omega)).2 ⟨by omega,by omega,by rw[Int.toNat_natCast];exact h.m,h.v⟩⟩
theorem MP:enters prog 49=true:=by kernel_rfl
set_option maxHeartbeats 4000000 in
theorem c49 {t:Tb}(G:kh t)(v:Value)(w:World)(q:jg w v t.ls):bw prog 49 [sF t.kd t.ni t.no v] w fun r w'=>r=.bool true∧aT w w':=by
 refine ar (N:=77) func49 MP rfl rfl rfl (by simp) ?_;have H:=Hp.aC w;obtain ⟨kd,ni,no,ls⟩:=t;obtain ⟨I,s,J,K,M,y⟩:=G;simp only at I s J K M y q ⊢;obtain ⟨B,c,hs,rfl,e,O,k⟩:=q.ub;refine ak (γ:=Nat) (fun g1=>[(1,(ah g1))]) (fun g1 w'=>Hp w ab w' [an g1 33 (di kd ni no (.slice B ls.length c))] []) ?_ ?_
 ·refine H.box 33 _ (cs:=di kd ni no (.slice B ls.length c)) rfl ?_;clear H;intro g1 Q H;exact ⟨g1,⟨rfl,trivial⟩,H⟩
 clear H;rintro g1 u Q H;refine aw (fun w'=>Hp w ab w' [an g1 33 (di kd ni no (.slice B ls.length c))] []) ?_ ?_
 ·refine aa (eB _ _) ?_;refine H.load 0 rfl aF rfl ?_;refine af (decide_eq_false (by omega)) ?_;refine aa (eB _ _) ?_;refine af (decide_eq_false (by omega)) ?_;refine H.load 0 rfl aF rfl ?_
  iterate 3 refine af (decide_eq_false (by omega)) ?_
  refine aa (eC _ _) ?_;refine af (decide_eq_false (by omega)) ?_;refine H.load 0 rfl aF rfl ?_
  iterate 3 refine af (decide_eq_false (by omega)) ?_
  refine aa (eC _ _) ?_;refine af (decide_eq_false (by omega)) ?_;refine H.load 0 rfl aF rfl ?_
  iterate 3 refine af (decide_eq_false (by omega)) ?_
  refine aa (fB _ _) ?_;refine af (decide_eq_false (by omega)) ?_;refine H.load 0 rfl aF rfl ?_
  iterate 3 refine af (decide_eq_false (by omega)) ?_
  refine aa (fB _ _) ?_;refine af (decide_eq_false (by omega)) ?_;refine H.load 0 rfl aF rfl ?_
  iterate 3 refine af (decide_eq_false (by omega)) ?_
  refine aa (dy _ _) ?_;refine af (decide_eq_false (by omega)) ?_;refine H.load 0 rfl f_ rfl ?_;refine af (decide_eq_false (by omega)) ?_;refine ay underlying31 ?_
  iterate 3 refine af (decide_eq_false (by omega)) ?_
  exact ⟨(),trivial,H⟩
 clear H;rintro ⟨⟩ u w2 H;refine aw (fun w'=>Hp w ab w' [an g1 33 (di kd ni no (.slice B ls.length c))] []) ?_ ?_
 ·refine aa (dy _ _) ?_;refine H.load 0 rfl f_ rfl ?_;refine ay underlying31 ?_;refine ax (γ:=Nat) (fun i=>[(44,.int .i64 (i:Int))]) (fun i w'=>i≤ls.length∧Hp w ab w' [an g1 33 (di kd ni no (.slice B ls.length c))] []) (fun i=>ls.length - i) 0 ⟨rfl,trivial⟩ ⟨Nat.zero_le _,H⟩ ?_;clear H;rintro i u S ⟨hi,H⟩;refine au (fun T=>?_) (fun T=>?_)
  ·have b:i<ls.length:=by omega
   obtain ⟨l,U,n⟩:∃ l,ls[i]?=some l∧l ∈ ls:=⟨_,List.getElem?_eq_getElem b,List.getElem_mem b⟩;obtain ⟨z,C,o,f⟩:=k i l U;have a:=y l n;have V:=a.len;obtain ⟨s1,s2,X⟩:=kY s a;obtain ⟨h,g,rfl⟩:=e.A (by omega);refine aw (fun w'=>Hp w ab w' [an g1 33 (di kd ni no (.slice (some ⟨h,g,none⟩) ls.length c))] []) ?_ ?_
   ·refine ak (γ:=Nat) (fun g4=>[(4,(ah g4))]) (fun g4 w'=>Hp w ab w' [an g4 77 (fM l.1 l.2.1 (.slice z l.2.2.length C)),an g1 33 (di kd ni no (.slice (some ⟨h,g,none⟩) ls.length c))] []) ?_ ?_
    ·refine ao underlying31 cF i rfl b (o':=g+i*3) (by omega) ?_;refine Sl.cA H e eR mw cF i rfl o ?_;refine H.alloc 77 (cs:=fM 0 0 (.slice none 0 0)) lO rfl ?_;clear H;intro g4 p H;refine H.storeAll 0 rfl cF rfl (eS (m:=l.1) (v:=l.2.1)) ?_;clear H;intro D H;exact ⟨g4,⟨rfl,trivial⟩,H⟩
    clear H;rintro g4 u p H;refine aw (fun w'=>Hp w ab w' [an g4 77 (fM l.1 l.2.1 (.slice z l.2.2.length C)),an g1 33 (di kd ni no (.slice (some ⟨h,g,none⟩) ls.length c))] []) ?_ ?_
    ·refine aa (xn _) ?_;refine fJ (H.get 0 rfl) (cc l.1 l.2.1).toList bz aO (sG _ _ _) ?_;refine aa (eC _ _) ?_;refine H.load 1 rfl aF rfl ?_;have E:=c75 l.1 l.2.1 s1 s2 ni p;rw[X] at E;refine aj E ?_;rintro _ D ⟨rfl,F⟩;replace H:=H.same F;clear F;have hlen:=a.len;refine af rfl ?_;refine aa (eI _) ?_;refine af rfl ?_;refine H.load 0 rfl e8 rfl ?_;refine af rfl ?_;refine ay underlying75 ?_;refine af rfl ?_;refine aa (fB _ _) ?_;refine af rfl ?_;refine H.load 1 rfl aF rfl ?_
     iterate 2 refine af rfl ?_
     refine af (bne_eq_false_iff_eq.2 (by omega)) ?_;exact ⟨(),trivial,H⟩
    clear H;rintro ⟨⟩ u D H;refine aa (eI _) ?_;refine H.load 0 rfl e8 rfl ?_;refine ay underlying75 ?_;refine ax (γ:=Nat) (fun j=>[(65,.int .i64 (j:Int))]) (fun j w'=>j≤l.2.2.length∧Hp w ab w' [an g1 33 (di kd ni no (.slice (some ⟨h,g,none⟩) ls.length c))] []) (fun j=>l.2.2.length - j) 0 ⟨rfl,trivial⟩ ⟨Nat.zero_le _,H.forget⟩ ?_;clear H;rintro j u w6 ⟨hj,H⟩;refine au (fun Y=>?_) (fun Y=>?_)
    ·have d:j<l.2.2.length:=by omega
     obtain ⟨gO,Z,rfl⟩:=f.A (by omega);have hx:=a.marks _ (List.getElem_mem d);refine ao underlying75 bc j rfl d (o':=Z+j) (by omega) ?_;refine aB aF (((f.same H.keeps).cell j (by omega)).trans (eP d)) ?_;generalize l.2.2[j]=x at hx
     iterate 3 refine af rfl ?_
     refine af (decide_eq_false (by omega)) ?_;exact ⟨j+1,by show l.2.2.length - (j+1)<l.2.2.length - j;omega,⟨up (by omega),trivial⟩,by show j+1≤l.2.2.length;omega,H⟩
    ·exact ⟨(),trivial,H⟩
   ·clear H;rintro ⟨⟩ u p H;exact ⟨i+1,by show ls.length - (i+1)<ls.length - i;omega,⟨up (by omega),trivial⟩,by show i+1≤ls.length;omega,H⟩
  ·exact ⟨(),trivial,H⟩
 clear H;rintro ⟨⟩ u S H;exact ⟨rfl,H.keeps⟩
end Go.Proofs.YtpjihhgjbbihkaaGreatDoor
namespace Go.Dk
def gf (t:Tb)(out mark:Nat):Nat→Nat
 | 0=>0
 | j+1=>match t.ls[j]? with
  | some l=>if l.2.2[out]?=some mark then gf t out mark j |||bd l.1 l.2.1 t.ni else gf t out mark j
  | none=>gf t out mark j
theorem AX {t:Tb}{j:Nat}{l:Ln}(h:t.ls[j]?=some l)(out mark:Nat):gf t out mark (j+1)=if l.2.2[out]?=some mark then gf t out mark j |||bd l.1 l.2.1 t.ni else gf t out mark j:=by
 show (match t.ls[j]? with | some l=>_ | none=>_)=_;rw[h]
theorem nW (t:Tb)(out mark:Nat):∀ j,gf t out mark j<2^256
 | 0=>Nat.two_pow_pos 256
 | j+1=>by
  show (match t.ls[j]? with | some l=>_ | none=>_)<_;split
  ·split
   ·exact Nat.or_lt_two_pow (nW t out mark j) (pP _ _ _)
   ·exact nW t out mark j
  ·exact nW t out mark j
theorem vJ {t:Tb}{out mark p:Nat}:∀ {j},(gf t out mark j).testBit p=true↔∃ i l,i<j∧t.ls[i]?=some l∧l.2.2[out]?=some mark∧(bd l.1 l.2.1 t.ni).testBit p=true
 | 0=>by simp[gf]
 | j+1=>by
  have a:=vJ (t:=t) (out:=out) (mark:=mark) (p:=p) (j:=j);have e:gf t out mark (j+1)=match t.ls[j]? with | some l=>if l.2.2[out]?=some mark then gf t out mark j |||bd l.1 l.2.1 t.ni else gf t out mark j | none=>gf t out mark j:=rfl
  have key:(∃ i l,i<j+1∧t.ls[i]?=some l∧l.2.2[out]?=some mark∧(bd l.1 l.2.1 t.ni).testBit p=true)↔(∃ i l,i<j∧t.ls[i]?=some l∧l.2.2[out]?=some mark∧(bd l.1 l.2.1 t.ni).testBit p=true)∨∃ l,t.ls[j]?=some l∧l.2.2[out]?=some mark∧(bd l.1 l.2.1 t.ni).testBit p=true:=by
   constructor
   ·rintro ⟨i,l,hi,h⟩;rcases Nat.lt_succ_iff_lt_or_eq.1 hi with b | b
    ·exact .inl ⟨i,l,b,h⟩
    ·subst b;exact .inr ⟨l,h⟩
   ·rintro (⟨i,l,hi,h⟩ | ⟨l,h⟩)
    ·exact ⟨i,l,by omega,h⟩
    ·exact ⟨j,l,by omega,h⟩
  rw[key,e]
  cases hl:t.ls[j]? with
  | none=>simp[a]
  | some l=>
   simp only;by_cases hm:l.2.2[out]?=some mark
   ·rw[if_pos hm,Nat.testBit_or,Bool.or_eq_true,a];exact or_congr_right ⟨fun h=>⟨l,rfl,hm,h⟩,fun ⟨d,c,_,f⟩=>by rw[Option.some.inj c];exact f⟩
   ·rw[if_neg hm,a];exact ⟨.inl,fun h=>h.elim id fun ⟨d,c,g,_⟩=>absurd (by rw[Option.some.inj c];exact g) hm⟩
end Go.Dk
namespace Go.Proofs.YtpjihhgjbbihkaaGreatDoor
open Go.Proofs.Tryz
open Go.Dk
set_option maxRecDepth 100000
attribute [local irreducible] IntKind.wrap
theorem MQ:enters prog 52=true:=by kernel_rfl
theorem Pb {t:Tb}(d:kh t)(out mark:Nat)(X:out<t.no)(v:Value)(w:World)(F:jg w v t.ls):bw prog 52 [sF t.kd t.ni t.no v,.int .i64 (out:Int),.int .i64 (mark:Int)] w fun r w'=>r=sv (gf t out mark t.ls.length)∧aT w w':=by
 refine ar (N:=39) func52 MQ rfl rfl rfl (by simp) ?_;have H:=Hp.aC w;obtain ⟨B,c,hs,rfl,f,G,k⟩:=F.ub;have I:=d.no4;have x:=d.few;refine ak (γ:=Nat × Nat) (fun (g3,g6)=>[(3,(ah g3)),(6,(ah g6))]) (fun (g3,g6) w'=>Hp w ab w' [an g6 86 (sc 0),an g3 33 (di t.kd t.ni t.no (.slice B t.ls.length c))] []) ?_ ?_
 ·refine H.box 33 _ (cs:=di t.kd t.ni t.no (.slice B t.ls.length c)) rfl ?_;clear H;intro g3 J H;refine H.alloc 86 (cs:=sc 0) br aY ?_;clear H;intro g6 y H;exact ⟨(g3,g6),⟨rfl,rfl,trivial⟩,H⟩
 clear H;rintro ⟨g3,g6⟩ u J H;refine ak (γ:=Nat) (fun g7=>[(7,(ah g7))]) (fun g7 w'=>Hp w ab w' [an g7 86 (sc 0),an g6 86 (sc 0),an g3 33 (di t.kd t.ni t.no (.slice B t.ls.length c))] []) ?_ ?_
 ·refine H.alloc 86 (cs:=sc 0) br aY ?_;clear H;intro g7 y H;exact ⟨g7,⟨rfl,trivial⟩,H⟩
 clear H;rintro g7 u y H;refine aw (fun w'=>Hp w ab w' [an g7 86 (sc (gf t out mark t.ls.length)),an g6 86 (sc 0)] []) ?_ ?_
 ·refine aa (dy _ _) ?_;refine H.load 2 rfl f_ rfl ?_;refine ay underlying31 ?_;refine ax (γ:=Nat) (fun i=>[(15,.int .i64 (i:Int))]) (fun i w'=>i≤t.ls.length∧Hp w ab w' [an g7 86 (sc (gf t out mark i)),an g6 86 (sc 0),an g3 33 (di t.kd t.ni t.no (.slice B t.ls.length c))] []) (fun i=>t.ls.length - i) 0 ⟨rfl,trivial⟩ ⟨Nat.zero_le _,H⟩ ?_;clear H;rintro i u K ⟨hi,H⟩;refine au (fun M=>?_) (fun M=>?_)
  ·have b:i<t.ls.length:=by omega
   obtain ⟨l,z,n⟩:∃ l,t.ls[i]?=some l∧l ∈ t.ls:=⟨_,List.getElem?_eq_getElem b,List.getElem_mem b⟩;obtain ⟨Y,O,o,g⟩:=k i l z;have h:=d.ls l n;have Q:=h.len;obtain ⟨s1,s2,S⟩:=kY d.ni h;obtain ⟨p,j,rfl⟩:=f.A (by omega);obtain ⟨T,C,rfl⟩:=g.A (by omega);have D:l.2.2[out]?=some (l.2.2[out]'(by omega)):=List.getElem?_eq_getElem (by omega);have a:=AX z out mark;refine aw (fun w'=>Hp w ab w' [an g7 86 (sc (gf t out mark (i+1))),an g6 86 (sc 0),an g3 33 (di t.kd t.ni t.no (.slice (some ⟨p,j,none⟩) t.ls.length c))] []) ?_ ?_
   ·refine ak (γ:=Nat) (fun g9=>[(9,(ah g9))]) (fun g9 w'=>Hp w ab w' [an g9 77 (fM l.1 l.2.1 (.slice (some ⟨T,C,none⟩) l.2.2.length O)),an g7 86 (sc (gf t out mark i)),an g6 86 (sc 0),an g3 33 (di t.kd t.ni t.no (.slice (some ⟨p,j,none⟩) t.ls.length c))] []) ?_ ?_
    ·refine ao underlying31 cF i rfl b (o':=j+i*3) (by omega) ?_;refine Sl.cA H f eR mw cF i rfl o ?_;refine H.alloc 77 (cs:=fM 0 0 (.slice none 0 0)) lO rfl ?_;clear H;intro g4 q H;refine H.storeAll 0 rfl cF rfl (eS (m:=l.1) (v:=l.2.1)) ?_;clear H;intro E H;exact ⟨g4,⟨rfl,trivial⟩,H⟩
    clear H;rintro g9 u q H;refine aa (eI _) ?_;refine H.load 0 rfl e8 rfl ?_;refine ao underlying75 bc out rfl (by omega) (o':=C+out) (by omega) ?_;refine aB aF (((g.same H.keeps).cell out (by omega)).trans (eP (by omega))) ?_;refine cg (fun he=>?_) (fun he=>?_)
    ·have he:((l.2.2[out]'(by omega):Nat):Int)=(mark:Int):=he;rw[if_pos (by rw[D];congr 1;omega)] at a;refine ak (γ:=Nat) (fun g10=>[(10,(ah g10))]) (fun g10 w'=>Hp w ab w' [an g10 86 (sc (bd l.1 l.2.1 t.ni)),an g7 86 (sc (gf t out mark i)),an g6 86 (sc 0),an g3 33 (di t.kd t.ni t.no (.slice (some ⟨p,j,none⟩) t.ls.length c))] []) ?_ ?_
     ·refine aa (xn _) ?_;refine fJ (H.get 0 rfl) (cc l.1 l.2.1).toList bz aO (sG _ _ _) ?_;refine aa (eC _ _) ?_;refine H.load 3 rfl aF rfl ?_;refine aj (Em l.1 l.2.1 s1 s2 t.ni d.ni S _) ?_;rintro _ E ⟨rfl,s⟩;replace H:=H.same s;refine H.alloc 86 (cs:=sc 0) br aY ?_;clear H;intro g10 U H;refine H.aW 0 rfl ?_;clear H;intro V H;exact ⟨g10,⟨rfl,trivial⟩,H.b7 [0,2,3,4] (by decide) rfl⟩
     clear H;rintro g10 u E H;refine H.ai 1 rfl aD av ?_;refine H.ai 0 rfl aD av ?_;refine aj (LF _ _ _) ?_;rintro _ U ⟨rfl,s⟩;replace H:=H.same s;refine H.aW 1 rfl ?_;clear H;intro V H;exact ⟨(),trivial,by rw[a];exact H.b7 [1,2,3] (by decide) rfl⟩
    ·have he:((l.2.2[out]'(by omega):Nat):Int)≠(mark:Int):=he;rw[if_neg (by rw[D];intro e;injection e with e;omega)] at a;exact ⟨(),trivial,by rw[a];exact H.forget⟩
   ·clear H;rintro ⟨⟩ u q H;exact ⟨i+1,by show t.ls.length - (i+1)<t.ls.length - i;omega,⟨up (by omega),trivial⟩,by show i+1≤t.ls.length;omega,H⟩
  ·obtain rfl:i=t.ls.length:=by omega
   exact ⟨(),trivial,H.b7 [0,1] (by decide) rfl⟩
 clear H;rintro ⟨⟩ u K H;refine H.ai 0 rfl aD av ?_;refine H.aW 1 rfl ?_;clear H;intro q H;refine H.ai 1 rfl aD av ?_;exact ⟨rfl,rfl,H.keeps⟩
end Go.Proofs.YtpjihhgjbbihkaaGreatDoor
