import Derived.Test.YtpjihhgjbbihkaaGreatDoorPart3
import Derived.Shelf.Small.Wraps
import Derived.Shelf.LaysM
import Derived.Shelf.LaysC
import Derived.Shelf.Strconv.Itoa3
import Derived.Shelf.Strconv.AtoiAll
import Derived.Shelf.Strconv.ErrVarAll
import Derived.Shelf.Strings.Cut
import Derived.Shelf.Strings.Split
import Derived.Test.YtpjihhgjbbihkaaGreatDoorProg
import Derived.Lib.SplitLaws
namespace Go.Proofs.YtpjihhgjbbihkaaGreatDoor
open Go.Proofs.Tryz
open Go.Dk
set_option maxRecDepth 100000
attribute [local irreducible] IntKind.wrap
theorem JP:enters prog 153=true:=by kernel_rfl
theorem NG (x y:Rw)(w:World):bt prog 153 [oU x.1 x.2.1 x.2.2,oU y.1 y.2.1 y.2.2] w fun r w'=>(∃ b,r=.bool b)∧aT w w':=by
 refine ar (N:=38) func153 JP rfl rfl rfl (by simp) ?_;have H:=Hp.aC w;obtain ⟨a,b,c⟩:=x;obtain ⟨d,e,f⟩:=y;refine ak (γ:=Nat × Nat) (fun (g2,g3)=>[(2,(ah g2)),(3,(ah g3))]) (fun (g2,g3) w'=>Hp w ab w' [an g3 50 (eU d e f),an g2 50 (eU a b c)] []) ?_ ?_
 ·refine H.box 50 _ (cs:=eU a b c) rfl ?_;clear H;intro g2 w1 H;refine H.box 50 _ (cs:=eU d e f) rfl ?_;clear H;intro g3 w2 H;exact ⟨(g2,g3),⟨rfl,rfl,trivial⟩,H⟩
 clear H;rintro ⟨g2,g3⟩ u w1 H;by_cases h1:(c:Int)=f
 ·by_cases h2:(a:Int)=d
  ·refine aa (dN _ _) ?_;refine H.load 1 (i:=2) rfl cg rfl ?_;refine aa (dN _ _) ?_;refine H.load 0 (i:=2) rfl cg rfl ?_;refine af (bne_eq_false_iff_eq.2 (by omega)) ?_;refine aa (fN _ _) ?_;refine aa (b9 _) ?_;refine H.load 1 (i:=0) rfl cg rfl ?_;refine aa (fN _ _) ?_;refine aa (b9 _) ?_;refine H.load 0 (i:=0) rfl cg rfl ?_;refine af (bne_eq_false_iff_eq.2 (by omega)) ?_;refine aa (fN _ _) ?_;refine aa (fJ _) ?_;refine H.load 1 (i:=1) rfl cg rfl ?_;refine aa (fN _ _) ?_;refine aa (fJ _) ?_;refine H.load 0 (i:=1) rfl cg rfl ?_;exact ⟨⟨_,rfl⟩,H.keeps⟩
  ·refine aa (dN _ _) ?_;refine H.load 1 (i:=2) rfl cg rfl ?_;refine aa (dN _ _) ?_;refine H.load 0 (i:=2) rfl cg rfl ?_;refine af (bne_eq_false_iff_eq.2 (by omega)) ?_;refine aa (fN _ _) ?_;refine aa (b9 _) ?_;refine H.load 1 (i:=0) rfl cg rfl ?_;refine aa (fN _ _) ?_;refine aa (b9 _) ?_;refine H.load 0 (i:=0) rfl cg rfl ?_;refine ag (bne_iff_ne.2 (by omega)) ?_;refine aa (fN _ _) ?_;refine aa (b9 _) ?_;refine H.load 1 (i:=0) rfl cg rfl ?_;refine aa (fN _ _) ?_;refine aa (b9 _) ?_;refine H.load 0 (i:=0) rfl cg rfl ?_;exact ⟨⟨_,rfl⟩,H.keeps⟩
 ·refine aa (dN _ _) ?_;refine H.load 1 (i:=2) rfl cg rfl ?_;refine aa (dN _ _) ?_;refine H.load 0 (i:=2) rfl cg rfl ?_;refine ag (bne_iff_ne.2 (by omega)) ?_;refine aa (dN _ _) ?_;refine H.load 1 (i:=2) rfl cg rfl ?_;refine aa (dN _ _) ?_;refine H.load 0 (i:=2) rfl cg rfl ?_;exact ⟨⟨_,rfl⟩,H.keeps⟩
theorem EP {α:Type}{enc:α→List Value}{sz:Nat}(he:∀ a,(enc a).length=sz)(R:List α)(x:α)(i:Nat):flat enc (R.take i++x::R.drop i)=(flat enc R).take (i*sz)++(enc x++(flat enc R).drop (i*sz)):=by
 rw[← oj he,← oo he];unfold flat;rw[List.flatMap_append,List.flatMap_cons]
theorem JQ:enters prog 152=true:=by kernel_rfl
theorem c152 (L:List Rw)(hll:L.length≤1000000)(A:Option Addr)(c:Nat)(w:World)(hA:Sl w (.slice A L.length c) 3 L.length (flat bj L)) :
  bt prog 152 [.slice A L.length c,.func (.func 153) #[] #[]] w fun r w'=>∃ B d R,R.Perm L∧r=.slice B R.length d∧eX w w' (own 50 3 (.slice B R.length d) R.length (flat bj R)):=by
 refine ar (N:=44) func152 JQ rfl rfl rfl (by simp) ?_;have H:=Hp.aC w;refine aw (fun w'=>Hp w ab w' [] []) ⟨(),trivial,H⟩ ?_;clear H;rintro ⟨⟩ u w1 H;refine ak (γ:=Unit) (fun _=>[(5,.slice none 0 0)]) (fun _ w'=>Hp w ab w' [own 50 3 (.slice none 0 0) 0 []] []) ⟨(),⟨rfl,trivial⟩,H.bx 50 3⟩ ?_;clear H;rintro ⟨⟩ u w2 H;refine ak (γ:=List Rw × Option Addr × Nat) (fun (R,B,d)=>[(5,.slice B R.length d)]) (fun (R,B,d) w'=>R.Perm L∧Hp w ab w' [own 50 3 (.slice B R.length d) R.length (flat bj R)] []) ?_ ?_
 ·refine ay underlying44 ?_;refine ax (γ:=Nat × List Rw × Option Addr × Nat) (fun (k,R,B,d)=>[(11,.int .i64 (k:Int)),(5,.slice B R.length d)]) (fun (k,R,B,d) w'=>(k≤L.length∧R.Perm (L.take k))∧Hp w ab w' [own 50 3 (.slice B R.length d) R.length (flat bj R)] []) (fun (k,_)=>L.length - k) (0,[],none,0) ⟨rfl,rfl,trivial⟩ ⟨⟨Nat.zero_le _,by simp⟩,H⟩ ?_;clear H;rintro ⟨k,R,B,d⟩ u w3 ⟨⟨hk,hR⟩,H⟩;have hRl:R.length=k:=by rw[hR.length_eq,List.length_take,Nat.min_eq_left hk]
  refine au (fun h7=>?_) (fun h7=>?_)
  ·obtain ⟨gA,oA,rfl⟩:=hA.A (by omega);obtain ⟨x,hx,hxin⟩:=kC (l:=L) (j:=k) (by omega);have htk:=iH hx;refine ak (γ:=List Rw × Option Addr × Nat) (fun (R,B,d)=>[(5,.slice B R.length d)]) (fun (R,B,d) w'=>R.Perm (L.take (k+1))∧Hp w ab w' [own 50 3 (.slice B R.length d) R.length (flat bj R)] []) ?_ ?_
   ·refine ak (γ:=Nat) (fun g7=>[(7,(ah g7))]) (fun g7 w'=>Hp w ab w' [an g7 50 (eU x.1 x.2.1 x.2.2),own 50 3 (.slice B R.length d) R.length (flat bj R)] []) ?_ ?_
    ·refine aq underlying44 bd k rfl (by omega) (o':=oA+k*3) (by omega) ?_;refine Sl.cI H hA bI ij bd k rfl hx ?_;refine H.alloc 50 (cs:=eU 0 0 0) jP rfl ?_;clear H;intro g7 w4 H;refine H.storeAll (cs':=eU x.1 x.2.1 x.2.2) 0 rfl bd rfl (eK _ _ _) ?_;clear H;intro w5 H;exact ⟨g7,⟨rfl,trivial⟩,H⟩
    clear H;rintro g7 u w4 H;refine ak (γ:=Nat) (fun i=>[(8,.int .i64 (i:Int))]) (fun i w'=>i≤R.length∧Hp w ab w' [an g7 50 (eU x.1 x.2.1 x.2.2),own 50 3 (.slice B R.length d) R.length (flat bj R)] []) ?_ ?_
    ·refine ay underlying44 ?_;exact ⟨R.length,⟨rfl,trivial⟩,Nat.le_refl _,H⟩
    clear H;rintro i0 u w5 ⟨hi0,H⟩;refine ak (γ:=Nat) (fun i=>[(8,.int .i64 (i:Int))]) (fun i w'=>i≤R.length∧Hp w ab w' [an g7 50 (eU x.1 x.2.1 x.2.2),own 50 3 (.slice B R.length d) R.length (flat bj R)] []) ?_ ?_
    ·refine ax (γ:=Nat) (fun i=>[(8,.int .i64 (i:Int))]) (fun i w'=>i≤R.length∧Hp w ab w' [an g7 50 (eU x.1 x.2.1 x.2.2),own 50 3 (.slice B R.length d) R.length (flat bj R)] []) (fun i=>i) i0 ⟨rfl,trivial⟩ ⟨hi0,H⟩ ?_;clear H;rintro i u w6 ⟨hi,H⟩;by_cases h0:(0:Int)<(i:Int)
     ·obtain ⟨gB,rfl⟩:=H.mq 1 rfl (by omega);obtain ⟨y,hy,_⟩:=kC (l:=R) (j:=i - 1) (by omega);have hw:IntKind.i64.wrap ((i:Int) - 1)=((i - 1:Nat):Int):=by rw[aH (by omega) (by omega)];omega
      refine H.draw eS (by kernel_rfl) ?_;clear H;intro w7 H
      iterate 2 refine ag (decide_eq_true (by assumption)) ?_
      refine quiet _ (fun w H=>H.ai 0 rfl ij bd ae) ?_
      iterate 4 refine ag (decide_eq_true (by assumption)) ?_
      refine quiet _ (fun w H=>aq underlying44 bd (i - 1) hw (by omega) (o':=(i - 1)*3) (by omega) ae) ?_;refine ag (decide_eq_true (by assumption)) ?_;refine quiet _ (fun w H=>H.gf 1 rfl bI ij bd (i - 1) rfl hy ae) ?_;refine ag (decide_eq_true (by assumption)) ?_;refine aj (NG x y _) ?_;rintro _ w8 ⟨⟨bb,rfl⟩,hk8⟩;replace H:=H.same hk8;clear hk8;refine ⟨.inl H,?_⟩
      cases bb with
      | true=>
       iterate 1 refine ag (decide_eq_true (by assumption)) ?_
       refine ag rfl ?_;exact ⟨i - 1,by show i - 1<i;omega,⟨by rw[← hw];rfl,trivial⟩,by show i - 1≤R.length;omega,H⟩
      | false=>
       iterate 1 refine ag (decide_eq_true (by assumption)) ?_
       refine af rfl ?_;exact ⟨i,⟨rfl,trivial⟩,hi,H⟩
     ·refine H.draw eS (by kernel_rfl) ?_;clear H;intro w7 H
      iterate 9 refine af (decide_eq_false (by assumption)) ?_
      refine af rfl ?_;exact ⟨i,⟨rfl,trivial⟩,hi,H⟩
    clear H;rintro i u w6 ⟨hi,H⟩;have hrs:=bE (H.get 1 rfl);obtain ⟨A1,e1,hA1,hS1⟩:=lN hrs (i:=i) hi;obtain ⟨A2,c2,e2,hS2⟩:=lO underlying44 bd hrs (i:=i) hi;have hic:i≤d:=Nat.le_trans hi (by obtain ⟨_,A',c',e,h,_⟩:=hrs;injection e with _ _ e;omega);have v1:∀ w',(own 50 3 (.slice B R.length d) R.length (flat bj R)).ok w'→Sl w' (.slice A1 i i) 3 i ((flat bj R).take (i*3)):=fun w' h=>by
     obtain ⟨A',e',_,hS⟩:=lN (bE h) (i:=i) hi;rw[e1] at e';injection e' with e' _ _;rw[e'];exact hS
    have v2:∀ w',(own 50 3 (.slice B R.length d) R.length (flat bj R)).ok w'→Sl w' (.slice A2 (R.length - i) c2) 3 (R.length - i) ((flat bj R).drop (i*3)):=fun w' h=>by
     obtain ⟨A',c',e',hS⟩:=lO underlying44 bd (bE h) (i:=i) hi;rw[e2] at e';injection e' with e' _ e'';rw[e',e''];exact hS
    have hl:(R.take i++x::R.drop i).length=i+(1+(R.length - i)):=by simp;omega
    have hf:=EP bI R x i;clear hS1 hS2 hrs;refine H.fg [an g7 50 (eU x.1 x.2.1 x.2.2),own 50 3 (.slice B R.length d) R.length (flat bj R)] (fun u H=>H) eS (by kernel_rfl) ?_;clear H;intro w7 H;refine quiet (.slice A1 i i) (fun w H=>by rw[← e1];exact sR underlying44 bd rfl rfl hic ae) ?_;refine quiet _ (fun w H=>H.ai 0 rfl ij bd ae) ?_;refine H.bg Br (cs:=eU x.1 x.2.1 x.2.2) (by decide) (by decide) (by kernel_rfl) ?_;clear H;intro g20 w8 H;refine ⟨.inl H.forget,?_⟩;refine quiet (.slice A2 (R.length - i) c2) (fun w H=>by rw[← e2];exact r6 underlying44 bd rfl hi ae) ?_;replace H:=H.wz (l:=1) (sz:=3) rfl (by unfold maxLen;omega);refine H.kz 0 Br rfl (v2 _ (H.get 2 rfl)) (fun u hu=>oq R u (List.mem_of_mem_drop hu)) (by omega) (by omega) ?_;clear H;intro A3 d3 w9 H;refine ⟨.inl H.forget,?_⟩;refine H.qH Br (v1 _ (H.get 2 rfl)) (bE (H.get 0 rfl)) hA1 (by omega) (by omega) (by omega) ?_;clear H;intro A4 d4 w10 H;refine ⟨.inl H.forget.forget,?_⟩;refine ⟨(R.take i++x::R.drop i,some ⟨A4,0,none⟩,d4),⟨by rw[hl];rfl,trivial⟩,?_,?_⟩
    ·rw[htk];refine (List.perm_middle (a:=x) (l₁:=R.take i) (l₂:=R.drop i)).trans ?_;rw[List.take_append_drop];exact ((hR.cons x).trans (List.perm_append_singleton x (L.take k)).symm)
    ·rw[hl,hf];exact H.only
   ·clear H hR hRl;rintro ⟨R,B,d⟩ u w4 ⟨hR,H⟩;exact ⟨(k+1,R,B,d),by show L.length - (k+1)<L.length - k;omega,⟨up (by omega),rfl,trivial⟩,⟨by show k+1≤L.length;omega,hR⟩,H⟩
  ·have:k=L.length:=by omega
   subst this;rw[List.take_length] at hR;exact ⟨(R,B,d),⟨rfl,trivial⟩,hR,H⟩
 clear H;rintro ⟨R,B,d⟩ u w3 ⟨hR,H⟩;exact ⟨B,d,R,hR,rfl,H.out⟩
end Go.Proofs.YtpjihhgjbbihkaaGreatDoor
namespace Go.Dk
def gW (S:dU)(o:Nat):Nat→Nat
 | 0=>bn S.n
 | j+1=>if o.testBit j then gW S o j &&&S.may.getD j 0 else gW S o j
theorem sf (S:dU)(o:Nat):∀ j,gW S o j<2^256
 | 0=>jW _
 | j+1=>by
  unfold gW;split
  ·exact Nat.lt_of_le_of_lt Nat.and_le_left (sf S o j)
  ·exact sf S o j
theorem kF (S:dU)(o:Nat):∀ j,ck (gW S o j) (bn S.n)
 | 0=>ck.refl _
 | j+1=>fun p hp=>by
  unfold gW at hp;split at hp
  ·rw[Nat.testBit_and,Bool.and_eq_true] at hp;exact kF S o j p hp.1
  ·exact kF S o j p hp
structure eD (S:dU) (x:Rw):Prop where
 cube:nE S.n (gW S x.2.2 S.may.length) (x.1,x.2.1)
 outs:iF S x.1 x.2.1=x.2.2
 some:0<x.2.2
 few:x.2.2<2^S.may.length
end Go.Dk
namespace Go.Proofs.YtpjihhgjbbihkaaGreatDoor
open Go.Proofs.Tryz
open Go.Dk
set_option maxRecDepth 100000
attribute [local irreducible] IntKind.wrap
theorem JR:enters prog 108=true:=by kernel_rfl
set_option maxHeartbeats 4000000 in
theorem NH {S:dU}(hS:cK S)(hn7:S.n≤7)(Bo:Option Addr)(co:Nat)(Bm:Option Addr)(cm:Nat)(w:World)(hA:gn w S Bo co Bm cm) :
  bt prog 108 [rW S.n (.slice Bo S.on.length co) (.slice Bm S.may.length cm)] w fun r w'=>∃ A c R,r=.tuple #[.slice A R.length c,.int .i64 0]∧((∀ x,x ∈ R↔eD S x)∧R.Nodup∧R.length≤262144)∧eX w w' (own 50 3 (.slice A R.length c) R.length (flat bj R)):=by
 refine ar (N:=78) func108 JR rfl rfl rfl (by simp) ?_;have H:=Hp.aC w;have hn8:=hS.n8;have hml:S.may.length=S.on.length:=hS.len;have h4:S.may.length≤4:=by rw[hml];exact hS.few
 have h2n:2^S.n≤2^7:=Nat.pow_le_pow_right (by decide) hn7;have h2k:2^S.may.length≤2^4:=Nat.pow_le_pow_right (by decide) h4;obtain ⟨gM,oM,rfl⟩:=hA.may.A (by have:=hS.some;omega);refine ak (γ:=Nat) (fun g1=>[(1,(ah g1))]) (fun g1 w'=>Hp w ab w' [an g1 41 (bq S.n (.slice Bo S.on.length co) (.slice (some ⟨gM,oM,none⟩) S.may.length cm))] []) ?_ ?_
 ·refine H.box 41 _ (cs:=bq S.n (.slice Bo S.on.length co) (.slice (some ⟨gM,oM,none⟩) S.may.length cm)) rfl ?_;clear H;intro g1 w1 H;exact ⟨g1,⟨rfl,trivial⟩,H⟩
 clear H;rintro g1 u w1 H;refine aw (fun w'=>Hp w ab w' [an g1 41 (bq S.n (.slice Bo S.on.length co) (.slice (some ⟨gM,oM,none⟩) S.may.length cm))] []) ?_ ?_
 ·refine H.ai 0 rfl dx bL ?_;refine aj (GF hS Bo co _ cm _ (hA.same H.keeps)) ?_;rintro _ w2 ⟨rfl,hk⟩;replace H:=H.same hk;refine af rfl ?_;exact ⟨(),trivial,H⟩
 clear H;rintro ⟨⟩ u w2 H;refine ak (γ:=Unit) (fun _=>[(4,.slice none 0 0)]) (fun _ w'=>Hp w ab w' [own 50 3 (.slice none 0 0) 0 [],an g1 41 (bq S.n (.slice Bo S.on.length co) (.slice (some ⟨gM,oM,none⟩) S.may.length cm))] []) ⟨(),⟨rfl,trivial⟩,H.bx 50 3⟩ ?_;clear H;rintro ⟨⟩ u w3 H;refine ak (γ:=List Rw × Option Addr × Nat) (fun (R,B,d)=>[(4,.slice B R.length d)]) (fun (R,B,d) w'=>((∀ x,x ∈ R↔eD S x)∧R.Nodup∧R.length≤262144)∧Hp w ab w' [own 50 3 (.slice B R.length d) R.length (flat bj R)] []) ?_ ?_
 ·refine ax (γ:=Nat × List Rw × Option Addr × Nat) (fun (o,R,B,d)=>[(5,.int .i64 (o:Int)),(4,.slice B R.length d)]) (fun (o,R,B,d) w'=>((0<o∧o≤2^S.may.length)∧(∀ x,x ∈ R↔eD S x∧x.2.2<o)∧R.Nodup∧R.length≤o*16384)∧Hp w ab w' [own 50 3 (.slice B R.length d) R.length (flat bj R),an g1 41 (bq S.n (.slice Bo S.on.length co) (.slice (some ⟨gM,oM,none⟩) S.may.length cm))] []) (fun (o,_)=>2^S.may.length - o) (1,[],none,0) ⟨rfl,rfl,trivial⟩ ⟨⟨⟨by decide,Nat.pow_pos (by decide)⟩,fun x=>⟨fun h=>by simp at h,fun h=>absurd h.1.some (by omega)⟩,List.nodup_nil,by simp⟩,H⟩ ?_;clear H;rintro ⟨o,R,B,d⟩ u w4 ⟨⟨⟨ho0,ho⟩,hR,hRn,hRl⟩,H⟩;refine aa (fM _) ?_;refine H.load 1 rfl dV rfl ?_;refine ay underlying39 ?_;refine cZ (by omega) ?_;refine au (fun h7=>?_) (fun h7=>?_)
  ·have ho2:o<2^S.may.length:=by omega
   have ho16:o<16:=by omega
   refine ak (γ:=List Rw × Option Addr × Nat) (fun (R,B,d)=>[(4,.slice B R.length d)]) (fun (R,B,d) w'=>((∀ x,x ∈ R↔eD S x∧x.2.2<o+1)∧R.Nodup∧R.length≤(o+1)*16384)∧Hp w ab w' [own 50 3 (.slice B R.length d) R.length (flat bj R),an g1 41 (bq S.n (.slice Bo S.on.length co) (.slice (some ⟨gM,oM,none⟩) S.may.length cm))] []) ?_ ?_
   ·refine ak (γ:=Nat) (fun g6=>[(6,(ah g6))]) (fun g6 w'=>Hp w ab w' [an g6 86 (sc (bn S.n)),own 50 3 (.slice B R.length d) R.length (flat bj R),an g1 41 (bq S.n (.slice Bo S.on.length co) (.slice (some ⟨gM,oM,none⟩) S.may.length cm))] []) ?_ ?_
    ·refine aa (iG _) ?_;refine H.load 1 rfl aE rfl ?_;refine aj (n9 S.n hn8 _) ?_;rintro _ w5 ⟨rfl,hk⟩;replace H:=H.same hk;refine H.alloc 86 (cs:=sc 0) bo aY ?_;clear H;intro g6 w6 H;refine H.aW 0 rfl ?_;clear H;intro w7 H;exact ⟨g6,⟨rfl,trivial⟩,H⟩
    clear H;rintro g6 u w5 H;refine aw (fun w'=>Hp w ab w' [an g6 86 (sc (gW S o S.may.length)),own 50 3 (.slice B R.length d) R.length (flat bj R),an g1 41 (bq S.n (.slice Bo S.on.length co) (.slice (some ⟨gM,oM,none⟩) S.may.length cm))] []) ?_ ?_
    ·refine aa (fM _) ?_;refine H.load 2 rfl dV rfl ?_;refine ay underlying39 ?_;refine ax (γ:=Nat) (fun j=>[(33,.int .i64 (j:Int))]) (fun j w'=>j≤S.may.length∧Hp w ab w' [an g6 86 (sc (gW S o j)),own 50 3 (.slice B R.length d) R.length (flat bj R),an g1 41 (bq S.n (.slice Bo S.on.length co) (.slice (some ⟨gM,oM,none⟩) S.may.length cm))] []) (fun j=>S.may.length - j) 0 ⟨rfl,trivial⟩ ⟨Nat.zero_le _,H⟩ ?_;clear H;rintro j u w6 ⟨hj,H⟩;refine au (fun h8=>?_) (fun h8=>?_)
     ·refine aw (fun w'=>Hp w ab w' [an g6 86 (sc (gW S o (j+1))),own 50 3 (.slice B R.length d) R.length (flat bj R),an g1 41 (bq S.n (.slice Bo S.on.length co) (.slice (some ⟨gM,oM,none⟩) S.may.length cm))] []) ?_ ?_
      ·obtain ⟨b,hb,hbin⟩:=lj (l:=S.may) (j:=j) (by omega);have hcap:gW S o (j+1)=if o.testBit j then gW S o j &&&b else gW S o j:=by
        show (if o.testBit j then gW S o j &&&S.may.getD j 0 else gW S o j)=_;rw[List.getD_eq_getElem?_getD,hb];rfl
       rw[hcap];generalize gW S o j=C at H ⊢;refine ak (γ:=Unit) (fun _=>[(8,.int .i64 (j:Int))]) (fun _ w'=>Hp w ab w' [an g6 86 (sc C),own 50 3 (.slice B R.length d) R.length (flat bj R),an g1 41 (bq S.n (.slice Bo S.on.length co) (.slice (some ⟨gM,oM,none⟩) S.may.length cm))] []) ⟨(),⟨rfl,trivial⟩,H⟩ ?_;clear H;rintro ⟨⟩ u w7 H;refine ic (by omega) ?_;refine ib (b:=1) (Nat.lt_of_le_of_lt (Nat.div_le_self _ _) (by omega)) (by omega) ?_
       cases hob:o.testBit j with
       | true=>
        refine ag ((cB o j).trans hob) ?_;refine H.draw eS (by kernel_rfl) ?_;clear H;intro w8 H;refine quiet _ (fun w H=>H.ai 0 rfl aD av ae) ?_;refine quiet _ (fun w H=>aa (fM _) ae) ?_;refine quiet _ (fun w H=>H.load 2 rfl dV rfl ae) ?_;refine quiet _ (fun w H=>aq underlying39 av j rfl (by omega) (o':=oM+j*4) (by omega) ae) ?_;refine quiet (sv b) (fun w H=>Sl.cI H hA.may bO aD av j rfl hb ae) ?_;refine aj (c53 _ _ _) ?_;rintro _ w9 ⟨rfl,hk⟩;replace H:=H.same hk;refine ⟨.inl H,?_⟩;refine H.aW 0 rfl ?_;clear H;intro w10 H;refine ⟨.inr rfl,?_⟩;exact ⟨(),trivial,by rw[if_pos rfl];exact H⟩
       | false=>
        refine af ((cB o j).trans hob) ?_;exact ⟨(),trivial,by rw[if_neg (by decide)];exact H⟩
      ·clear H;rintro ⟨⟩ u w7 H;exact ⟨j+1,by show S.may.length - (j+1)<S.may.length - j;omega,⟨up (by omega),trivial⟩,by show j+1≤S.may.length;omega,H⟩
     ·have:j=S.may.length:=by omega
      subst this;exact ⟨(),trivial,H⟩
    clear H;rintro ⟨⟩ u w6 H;refine ak (γ:=Option Addr × Nat × List (Nat × Nat)) (fun (A,c,G)=>[(9,.slice A G.length c)]) (fun (A,c,G) w'=>((∀ x,x ∈ G↔nE S.n (gW S o S.may.length) x)∧G.Nodup)∧Hp w ab w' [own 48 2 (.slice A G.length c) G.length (flat bY G),own 50 3 (.slice B R.length d) R.length (flat bj R),an g1 41 (bq S.n (.slice Bo S.on.length co) (.slice (some ⟨gM,oM,none⟩) S.may.length cm))] []) ?_ ?_
    ·refine H.ai 0 rfl aD av ?_;refine aa (iG _) ?_;refine H.load 2 rfl aE rfl ?_;refine aj (NF S.n _ hn7 (kF S o _) (sf S o _) _) ?_;rintro _ w7 ⟨A,c,G,rfl,hG,hGn,hn'⟩;replace H:=H.bD hn';exact ⟨(A,c,G),⟨rfl,trivial⟩,⟨hG,hGn⟩,H.b6 [0,2,3] (by decide) rfl⟩
    clear H;rintro ⟨A,c,G⟩ u w7 ⟨⟨hG,hGn⟩,H⟩;have hGl:G.length≤16384:=by
     have h3:=yv (n:=S.n) hGn fun x hx=>⟨((hG x).1 hx).1.lt,sub_lt ((hG x).1 hx).1.lt ((hG x).1 hx).1.sub⟩;have h4:=Nat.mul_le_mul h2n h2n;omega
    refine ay underlying146 ?_;refine ax (γ:=Nat × List Rw × Option Addr × Nat) (fun (i,R',B,d)=>[(58,.int .i64 (i:Int)),(4,.slice B R'.length d)]) (fun (i,R',B,d) w'=>(i≤G.length∧(∀ x,x ∈ R'↔x ∈ R∨(x.2.2=o∧(x.1,x.2.1) ∈ G.take i∧iF S x.1 x.2.1=o))∧R'.Nodup∧R'.length≤R.length+i)∧Hp w ab w' [own 48 2 (.slice A G.length c) G.length (flat bY G),own 50 3 (.slice B R'.length d) R'.length (flat bj R'),an g1 41 (bq S.n (.slice Bo S.on.length co) (.slice (some ⟨gM,oM,none⟩) S.may.length cm))] []) (fun (i,_)=>G.length - i) (0,R,B,d) ⟨rfl,rfl,trivial⟩ ⟨⟨Nat.zero_le _,fun x=>by simp,hRn,Nat.le_refl _⟩,H⟩ ?_;clear H;rintro ⟨i,R',B',d'⟩ u w8 ⟨⟨hi,hR',hRn',hRl'⟩,H⟩;refine au (fun h9=>?_) (fun h9=>?_)
    ·obtain ⟨x,hx,hxin⟩:=qX (l:=G) (j:=i) (by omega);have htk:=iH hx;have hxp:=(hG x).1 hxin;have hm:=hxp.1.lt;have hv:=sub_lt hxp.1.lt hxp.1.sub;have hxt:x ∉ G.take i:=fun h=>by
      obtain ⟨j,hj⟩:=List.getElem?_of_mem h;rw[List.getElem?_take] at hj;split at hj
      ·rename_i hji;have:=(List.getElem?_inj (List.getElem?_eq_some_iff.1 hx).1 hGn).1 (hx.trans hj.symm);omega
      ·cases hj
     refine ak (γ:=List Rw × Option Addr × Nat) (fun (R,B,d)=>[(4,.slice B R.length d)]) (fun (R',B,d) w'=>((∀ x,x ∈ R'↔x ∈ R∨(x.2.2=o∧(x.1,x.2.1) ∈ G.take (i+1)∧iF S x.1 x.2.1=o))∧R'.Nodup∧R'.length≤R.length+(i+1))∧Hp w ab w' [own 48 2 (.slice A G.length c) G.length (flat bY G),own 50 3 (.slice B R'.length d) R'.length (flat bj R'),an g1 41 (bq S.n (.slice Bo S.on.length co) (.slice (some ⟨gM,oM,none⟩) S.may.length cm))] []) ?_ ?_
     ·rw[htk];obtain ⟨m,v⟩:=x;simp only at hm hv;obtain ⟨gA,rfl⟩:=H.mq 0 rfl (by omega);refine ak (γ:=Nat) (fun g12=>[(12,(ah g12))]) (fun g12 w'=>Hp w ab w' [an g12 48 (cc m v),own 48 2 (.slice (some ⟨gA,0,none⟩) G.length c) G.length (flat bY G),own 50 3 (.slice B' R'.length d') R'.length (flat bj R'),an g1 41 (bq S.n (.slice Bo S.on.length co) (.slice (some ⟨gM,oM,none⟩) S.may.length cm))] []) ?_ ?_
      ·refine aq underlying146 aO i rfl (by omega) (o':=i*2) (by omega) ?_;refine H.gf 0 rfl fh bw aO i rfl hx ?_;refine H.alloc 48 (cs:=cc 0 0) fa rfl ?_;clear H;intro g12 w9 H;refine H.bQ (c:=m) (d:=v) 0 rfl ?_;clear H;intro w10 H;exact ⟨g12,⟨rfl,trivial⟩,H⟩
      clear H;rintro g12 u w9 H;have how:IntKind.u8.wrap (o:Int)=(o:Int):=by rw[IntKind.wrap_u8];omega
      refine H.ai 3 rfl dx bL ?_;refine H.ai 0 rfl bw aO ?_;refine aj (Jy hS m v (by omega) (by omega) _ _ cm _ (hA.may.same H.keeps) rfl) ?_;rintro _ w10 ⟨rfl,hk⟩;replace H:=H.same hk;clear hk;by_cases heq:iF S m v=o
      ·refine jZ (by kernel_rfl) underlying5 (by omega) (by omega) ?_;refine ag (beq_iff_eq.2 (by omega)) ?_;refine H.ai 0 rfl bw aO ?_;refine jZ (by kernel_rfl) underlying5 (by omega) (by omega) ?_;refine p6 ?_;refine H.bg Br (cs:=eU m v o) (by decide) (by decide) (by kernel_rfl) ?_;clear H;intro g20 w11 H;refine H.aG 3 0 Br rfl rfl rfl (eK _ _ _) (by omega) (by omega) ?_;clear H;intro B2 d2 w12 H;have e1:(R'++[(m,v,o)]).length=R'.length+1:=by rw[List.length_append];rfl
       have e2:flat bj (R'++[(m,v,o)])=flat bj R'++bj (m,v,o):=du ..;refine ⟨(R'++[(m,v,o)],B2,d2),⟨by rw[e1];rfl,trivial⟩,⟨fun x=>?_,?_,by rw[e1];omega⟩,by rw[e1,e2];exact H.b6 [2,3,4] (by decide) rfl⟩
       ·rw[List.mem_append,hR',List.mem_singleton,or_assoc,List.mem_append,List.mem_singleton];refine or_congr_right ⟨fun h=>?_,fun h=>?_⟩
        ·rcases h with h | rfl
         ·exact ⟨h.1,.inl h.2.1,h.2.2⟩
         ·exact ⟨rfl,.inr rfl,heq⟩
        ·rcases h.2.1 with h1 | h1
         ·exact .inl ⟨h.1,h1,h.2.2⟩
         ·injection h1 with h3 h4;exact .inr (Prod.ext h3 (Prod.ext h4 h.1))
       ·rw[List.nodup_append];refine ⟨hRn',by simp,fun x hx' y hy e=>?_⟩;obtain rfl:=List.mem_singleton.1 hy;subst e;rcases (hR' _).1 hx' with h | h
        ·have:=((hR _).1 h).2;simp only at this;omega
        ·exact hxt h.2.1
      ·refine jZ (by kernel_rfl) underlying5 (by omega) (by omega) ?_;refine af (beq_eq_false_iff_ne.2 (by omega)) ?_;refine ⟨(R',B',d'),⟨rfl,trivial⟩,⟨fun x=>(hR' x).trans (or_congr_right ⟨fun h=>⟨h.1,List.mem_append_left _ h.2.1,h.2.2⟩,fun h=>⟨h.1,?_,h.2.2⟩⟩),hRn',by omega⟩,H.forget⟩;rcases List.mem_append.1 h.2.1 with h1 | h1
       ·exact h1
       ·have h2:=List.mem_singleton.1 h1;exact absurd (by rw[← h.2.2,show x.1=m from congrArg Prod.fst h2,show x.2.1=v from congrArg Prod.snd h2]) heq
     ·clear H hR' hRn' hRl';rintro ⟨R',B',d'⟩ u w9 ⟨⟨hR',hRn',hRl'⟩,H⟩;exact ⟨(i+1,R',B',d'),by show G.length - (i+1)<G.length - i;omega,⟨up (by omega),rfl,trivial⟩,⟨by show i+1≤G.length;omega,hR',hRn',hRl'⟩,H⟩
    ·have:i=G.length:=by omega
     subst this;rw[List.take_length] at hR';refine ⟨(R',B',d'),⟨rfl,trivial⟩,⟨fun x=>(hR' x).trans ?_,hRn',by show R'.length≤(o+1)*16384;omega⟩,H.b6 [1,2] (by decide) rfl⟩;rw[hR x,hG];constructor
     ·rintro (⟨h1,h2⟩ | ⟨h1,h2,h3⟩)
      ·exact ⟨h1,by omega⟩
      ·exact ⟨⟨by rw[h1];exact h2,by rw[h1];exact h3,by omega,by omega⟩,by omega⟩
     ·rintro ⟨h1,h2⟩;rcases Nat.lt_succ_iff_lt_or_eq.1 h2 with h | h
      ·exact .inl ⟨h1,h⟩
      ·exact .inr ⟨h,by rw[← h];exact h1.cube,by rw[h1.outs,h]⟩
   ·clear H hR hRn hRl;rintro ⟨R,B,d⟩ u w5 ⟨⟨hR,hRn,hRl⟩,H⟩;exact ⟨(o+1,R,B,d),by show 2^S.may.length - (o+1)<2^S.may.length - o;omega,⟨up (by omega),rfl,trivial⟩,⟨⟨Nat.succ_pos _,ho2⟩,hR,hRn,hRl⟩,H⟩
  ·have:o=2^S.may.length:=by omega
   subst this;refine ⟨(R,B,d),⟨rfl,trivial⟩,⟨fun x=>(hR x).trans ⟨fun h=>h.1,fun h=>⟨h,h.few⟩⟩,hRn,by omega⟩,H.only⟩
 clear H;rintro ⟨R,B,d⟩ u w4 ⟨hR,H⟩;refine aj (c152 R (by omega) B d _ (bE (H.get 0 rfl))) ?_;rintro _ w5 ⟨B2,d2,R2,hp,rfl,hn'⟩;replace H:=H.bD hn';exact ⟨B2,d2,R2,rfl,⟨fun x=>hp.mem_iff.trans (hR.1 x),hp.nodup_iff.2 hR.2.1,by rw[hp.length_eq];exact hR.2.2⟩,H.only.out⟩
theorem JS:enters prog 112=true:=by kernel_rfl
theorem NI (a b:List Int)(A B:Option Addr)(c d:Nat)(w:World)(hal:a.length≤1000000)(hbl:b.length≤1000000)(hA:Sl w (.slice A a.length c) 1 a.length (aA a))(hB:Sl w (.slice B b.length d) 1 b.length (aA b)) :
  bt prog 112 [.slice A a.length c,.slice B b.length d] w fun r w'=>(∃ bb,r=.bool bb)∧aT w w':=by
 refine ar (N:=40) func112 JS rfl rfl rfl (by simp) ?_;have H:=Hp.aC w;refine aw (fun w'=>Hp w ab w' [] []) ⟨(),trivial,H⟩ ?_;clear H;rintro ⟨⟩ u w1 H;by_cases h1:a.length=b.length
 ·have h1':(a.length:Int)=b.length:=by omega
  refine aw (fun w'=>Hp w ab w' [] []) ?_ ?_
  ·refine ay underlying75 ?_;refine ay underlying75 ?_;refine af (bne_eq_false_iff_eq.2 h1') ?_;exact ⟨(),trivial,H⟩
  clear H;rintro ⟨⟩ u w2 H;refine aw (fun w'=>Hp w ab w' [] []) ?_ ?_
  ·refine ay underlying75 ?_;refine ax (γ:=Nat) (fun i=>[(18,.int .i64 (i:Int))]) (fun i w'=>i≤a.length∧Hp w ab w' [] []) (fun i=>a.length - i) 0 ⟨rfl,trivial⟩ ⟨Nat.zero_le _,H⟩ ?_;clear H;rintro i u w3 ⟨hi,H⟩;refine au (fun h7=>?_) (fun h7=>?_)
   ·obtain ⟨gA,oA,rfl⟩:=hA.A (by omega);obtain ⟨gB,oB,rfl⟩:=hB.A (by omega);refine aw (fun w'=>Hp w ab w' [] []) ?_ ?_
    ·refine ak (γ:=Unit) (fun _=>[(5,.int .i64 (i:Int))]) (fun _ w'=>Hp w ab w' [] []) ⟨(),⟨rfl,trivial⟩,H⟩ ?_;clear H;rintro ⟨⟩ u w4 H;have hia:i<a.length:=by omega
     have hib:i<b.length:=by omega
     refine H.draw eS (by kernel_rfl) ?_;clear H;intro w5 H;refine quiet _ (fun w H=>aq underlying75 a_ i rfl hia (o':=oA+i) (by omega) ae) ?_;refine quiet (.int .i64 a[i]) (fun w H=>aB aE (((hA.same H.keeps).cell i (by omega)).trans (oa hia)) ae) ?_;refine quiet _ (fun w H=>aq underlying75 a_ i rfl hib (o':=oB+i) (by omega) ae) ?_;refine quiet (.int .i64 b[i]) (fun w H=>aB aE (((hB.same H.keeps).cell i (by omega)).trans (oa hib)) ae) ?_;by_cases hab:a[i]=b[i]
     ·refine af (bne_eq_false_iff_eq.2 hab) ?_;exact ⟨(),trivial,H⟩
     ·refine ag (bne_iff_ne.2 hab) ?_;refine H.draw eS (by kernel_rfl) ?_;clear H;intro w6 H;refine quiet _ (fun w H=>aq underlying75 a_ i rfl hia (o':=oA+i) (by omega) ae) ?_;refine quiet (.int .i64 a[i]) (fun w H=>aB aE (((hA.same H.keeps).cell i (by omega)).trans (oa hia)) ae) ?_;refine quiet _ (fun w H=>aq underlying75 a_ i rfl hib (o':=oB+i) (by omega) ae) ?_;refine quiet (.int .i64 b[i]) (fun w H=>aB aE (((hB.same H.keeps).cell i (by omega)).trans (oa hib)) ae) ?_;exact ⟨⟨_,rfl⟩,H.keeps⟩
    ·clear H;rintro ⟨⟩ u w4 H;exact ⟨i+1,by show a.length - (i+1)<a.length - i;omega,⟨up (by omega),trivial⟩,by show i+1≤a.length;omega,H⟩
   ·exact ⟨(),trivial,H⟩
  clear H;rintro ⟨⟩ u w3 H;exact ⟨⟨_,rfl⟩,H.keeps⟩
 ·have h1':¬ (a.length:Int)=b.length:=by omega
  refine ay underlying75 ?_;refine ay underlying75 ?_;refine ag (bne_iff_ne.2 h1') ?_;refine ay underlying75 ?_;refine ay underlying75 ?_;exact ⟨⟨_,rfl⟩,H.keeps⟩
end Go.Proofs.YtpjihhgjbbihkaaGreatDoor
namespace Go.Dk
def cw (ks:List Nat):List UInt8:=ks.flatMap fun k=>[UInt8.ofNat (k / 256),UInt8.ofNat (k % 256)]
theorem iI (ks:List Nat):(cw ks).length=2*ks.length:=by
 induction ks with
 | nil=>rfl
 | cons k ks ih=>show (_::_::cw ks).length=_;simp[ih];omega
theorem zZ (ks:List Nat)(k:Nat):cw (ks++[k])=cw ks++[UInt8.ofNat (k / 256),UInt8.ofNat (k % 256)]:=by unfold cw;rw[List.flatMap_append];rfl
theorem wD {a:Nat}(h:a<256):(UInt8.ofNat a).toNat=a:=by rw[UInt8.toNat_ofNat'];omega
theorem vg:∀ {a b:List Nat},(∀ k ∈ a,k<65536)→(∀ k ∈ b,k<65536)→cw a=cw b→a=b
 | [],[],_,_,_=>rfl
 | [],y::b,_,_,h=>by have:=congrArg List.length h;rw[iI,iI] at this;simp at this
 | x::a,[],_,_,h=>by have:=congrArg List.length h;rw[iI,iI] at this;simp at this
 | x::a,y::b,ha,hb,h=>by
  have h:UInt8.ofNat (x / 256)::UInt8.ofNat (x % 256)::cw a=UInt8.ofNat (y / 256)::UInt8.ofNat (y % 256)::cw b:=h;injection h with h1 h;injection h with h2 h;have hx:=ha x (.head _);have hy:=hb y (.head _);have h1:=congrArg UInt8.toNat h1;have h2:=congrArg UInt8.toNat h2;rw[wD (by omega),wD (by omega)] at h1 h2;rw[vg (fun k h=>ha k (.tail _ h)) (fun k h=>hb k (.tail _ h)) h,show x=y by omega]
end Go.Dk
namespace Go.Proofs.YtpjihhgjbbihkaaGreatDoor
open Go.Proofs.Tryz
open Go.Dk
set_option maxRecDepth 100000
attribute [local irreducible] IntKind.wrap
theorem JT:enters prog 111=true:=by kernel_rfl
theorem NJ (ks:List Nat)(hk:∀ k ∈ ks,k<65536)(A:Option Addr)(c:Nat)(w:World)(hl:ks.length≤1000000)(hA:Sl w (.slice A ks.length c) 1 ks.length (ints ks)) :
  bt prog 111 [.slice A ks.length c] w fun r w'=>r=aU (cw ks)∧aT w w':=by
 refine ar (N:=23) func111 JT rfl rfl rfl (by simp) ?_;have H:=Hp.aC w;refine aw (fun w'=>Hp w ab w' [] []) ⟨(),trivial,H⟩ ?_;clear H;rintro ⟨⟩ u w1 H;refine ak (γ:=Unit) (fun _=>[(3,.slice none 0 0)]) (fun _ w'=>Hp w ab w' [own 5 1 (.slice none 0 0) 0 []] []) ⟨(),⟨rfl,trivial⟩,H.bx 5 1⟩ ?_;clear H;rintro ⟨⟩ u w2 H;refine ak (γ:=Option Addr × Nat) (fun (B,d)=>[(3,.slice B (cw ks).length d)]) (fun (B,d) w'=>Hp w ab w' [own 5 1 (.slice B (cw ks).length d) (cw ks).length (fI (cw ks))] []) ?_ ?_
 ·refine ay underlying75 ?_;refine ax (γ:=Nat × Option Addr × Nat) (fun (i,B,d)=>[(8,.int .i64 (i:Int)),(3,.slice B (cw (ks.take i)).length d)]) (fun (i,B,d) w'=>i≤ks.length∧Hp w ab w' [own 5 1 (.slice B (cw (ks.take i)).length d) (cw (ks.take i)).length (fI (cw (ks.take i)))] []) (fun (i,_)=>ks.length - i) (0,none,0) ⟨rfl,rfl,trivial⟩ ⟨Nat.zero_le _,H⟩ ?_;clear H;rintro ⟨i,B,d⟩ u w3 ⟨hi,H⟩;refine au (fun h7=>?_) (fun h7=>?_)
  ·have hil:i<ks.length:=by omega
   obtain ⟨gA,oA,rfl⟩:=hA.A (by omega);obtain ⟨k,hki⟩:∃ k,ks[i]=k:=⟨_,rfl⟩;have hk6:k<65536:=hk k (hki ▸ List.getElem_mem hil);have htk:ks.take (i+1)=ks.take i++[k]:=iH (by rw[List.getElem?_eq_getElem hil,hki]);have hlen:=iI (ks.take i);rw[List.length_take,Nat.min_eq_left hi] at hlen;refine ak (γ:=Option Addr × Nat) (fun (B,d)=>[(3,.slice B (cw (ks.take (i+1))).length d)]) (fun (B,d) w'=>Hp w ab w' [own 5 1 (.slice B (cw (ks.take (i+1))).length d) (cw (ks.take (i+1))).length (fI (cw (ks.take (i+1))))] []) ?_ ?_
   ·rw[htk,zZ];refine ak (γ:=Unit) (fun _=>[(5,.int .i64 (k:Int))]) (fun _ w'=>Hp w ab w' [own 5 1 (.slice B (cw (ks.take i)).length d) (cw (ks.take i)).length (fI (cw (ks.take i)))] []) ?_ ?_
    ·refine aq underlying75 a_ i rfl hil (o':=oA+i) (by omega) ?_;refine aB aE (((hA.same H.keeps).cell i (by omega)).trans (e_ hil)) ?_;rw[hki];exact ⟨(),⟨rfl,trivial⟩,H⟩
    clear H;rintro ⟨⟩ u w4 H;have hw1:IntKind.u8.wrap ((k / 2^8:Nat):Int)=((k / 256:Nat):Int):=by rw[IntKind.wrap_u8];omega
    have hw2:IntKind.u8.wrap (k:Int)=((k % 256:Nat):Int):=by rw[IntKind.wrap_u8];omega
    refine ic (n:=8) (by omega) ?_;refine jZ (by kernel_rfl) underlying5 (by omega) (by omega) ?_;refine jx (by kernel_rfl) underlying5 ?_;refine H.bg DU (cs:=#[.int .u8 ((k / 2^8:Nat):Int),.int .u8 ((k % 256:Nat):Int)]) (by decide) (by decide) (by first | kernel_rfl | (rw[← hw2];kernel_rfl)) ?_;clear H;intro g20 w5 H;refine H.aG (c:=2) 1 0 DU rfl rfl rfl (by intro v hv;simp at hv;rcases hv with rfl | rfl <;> rfl) (by omega) (by omega) ?_;clear H;intro B2 d2 w6 H;have e1:((cw (ks.take i))++[UInt8.ofNat (k / 256),UInt8.ofNat (k % 256)]).length=(cw (ks.take i)).length+2:=by simp
    have e2:fI ((cw (ks.take i))++[UInt8.ofNat (k / 256),UInt8.ofNat (k % 256)])=fI (cw (ks.take i))++#[Value.int .u8 ((k / 2^8:Nat):Int),.int .u8 ((k % 256:Nat):Int)].toList:=by
     unfold fI;rw[List.map_append,List.map_cons,List.map_cons,List.map_nil,wD (by omega),wD (by omega)]
    exact ⟨(B2,d2),⟨by rw[e1];rfl,trivial⟩,by rw[e1,e2];exact H.forget⟩
   ·clear H;rintro ⟨B,d⟩ u w4 H;exact ⟨(i+1,B,d),by show ks.length - (i+1)<ks.length - i;omega,⟨up (by omega),rfl,trivial⟩,by show i+1≤ks.length;omega,H⟩
  ·have:i=ks.length:=by omega
   subst this;have e:cw (ks.take ks.length)=cw ks:=by rw[List.take_length]
   rw[e] at H;exact ⟨(B,d),⟨by rw[← e];rfl,trivial⟩,H⟩
 clear H;rintro ⟨B,d⟩ u w3 H;refine H.sO 0 underlying151 underlying5 underlying9 rfl ?_;exact ⟨rfl,H.keeps⟩
end Go.Proofs.YtpjihhgjbbihkaaGreatDoor
namespace Go.Dk
theorem Bt {α:Type}{l:List α}{x:α}{i:Nat}(hi:i≤l.length)(j:Nat):(l.take i++x::l.drop i)[j]?=if j<i then l[j]? else if j=i then some x else l[j - 1]?:=by
 rw[List.getElem?_append,List.length_take,Nat.min_eq_left hi];split
 ·rw[List.getElem?_take,if_pos (by assumption)]
 ·rename_i h;by_cases hji:j=i
  ·subst hji;simp
  ·rw[if_neg hji,show j - i=(j - i - 1)+1 by omega,List.getElem?_cons_succ,List.getElem?_drop,show i+(j - i - 1)=j - 1 by omega]
theorem GQ {α:Type}{l:List α}{x y:α}{i:Nat}:y ∈ l.take i++x::l.drop i↔y=x∨y ∈ l:=by
 have hp:(l.take i++x::l.drop i).Perm (x::l):=by
  have:=List.perm_middle (a:=x) (l₁:=l.take i) (l₂:=l.drop i)
  rwa [List.take_append_drop] at this
 rw[hp.mem_iff,List.mem_cons]
def cX (n:Nat)(R:List Rw)(out p:Nat):Nat→List Nat
 | 0=>[]
 | j+1=>match R[j]? with
  | some x=>if x.2.2.testBit out&&(ba x.1 x.2.1 n).testBit p then cX n R out p j++[j] else cX n R out p j
  | none=>cX n R out p j
theorem tB {n out p j:Nat}{R:List Rw}{x:Rw}(h:R[j]?=some x):cX n R out p (j+1)=if x.2.2.testBit out&&(ba x.1 x.2.1 n).testBit p then cX n R out p j++[j] else cX n R out p j:=by
 show (match R[j]? with | some x=>_ | none=>_)=_;rw[h]
theorem ke {n out p c:Nat}{R:List Rw}:∀ {j},c ∈ cX n R out p j↔c<j∧∃ x,R[c]?=some x∧x.2.2.testBit out=true∧(ba x.1 x.2.1 n).testBit p=true
 | 0=>by simp[cX]
 | j+1=>by
  have ih:=ke (n:=n) (out:=out) (p:=p) (c:=c) (R:=R) (j:=j)
  cases h:R[j]? with
  | none=>
   have e:cX n R out p (j+1)=cX n R out p j:=by
    show (match R[j]? with | some x=>_ | none=>_)=_;rw[h]
   rw[e,ih];constructor
   ·rintro ⟨h1,h2⟩;exact ⟨by omega,h2⟩
   ·rintro ⟨h1,x,h2,h3⟩;rcases Nat.lt_succ_iff_lt_or_eq.1 h1 with h4 | h4
    ·exact ⟨h4,x,h2,h3⟩
    ·subst h4;rw[h] at h2;cases h2
  | some x=>
   rw[tB h];by_cases hb:(x.2.2.testBit out&&(ba x.1 x.2.1 n).testBit p)=true
   ·rw[if_pos hb,List.mem_append,ih,List.mem_singleton];rw[Bool.and_eq_true] at hb;constructor
    ·rintro (⟨h1,h2⟩ | rfl)
     ·exact ⟨by omega,h2⟩
     ·exact ⟨by omega,x,h,hb⟩
    ·rintro ⟨h1,y,h2,h3⟩;rcases Nat.lt_succ_iff_lt_or_eq.1 h1 with h4 | h4
     ·exact .inl ⟨h4,y,h2,h3⟩
     ·exact .inr h4
   ·rw[if_neg hb,ih];constructor
    ·rintro ⟨h1,h2⟩;exact ⟨by omega,h2⟩
    ·rintro ⟨h1,y,h2,h3⟩;rcases Nat.lt_succ_iff_lt_or_eq.1 h1 with h4 | h4
     ·exact ⟨h4,y,h2,h3⟩
     ·subst h4;rw[h] at h2;injection h2 with h2;subst h2;rw[h3.1,h3.2] at hb;exact absurd rfl hb
theorem lY (n:Nat)(R:List Rw)(out p:Nat):∀ j,(cX n R out p j).length≤j
 | 0=>Nat.le_refl _
 | j+1=>by
  have ih:=lY n R out p j;unfold cX;split
  ·split
   ·simp;omega
   ·omega
  ·omega
end Go.Dk
namespace Go.Proofs.YtpjihhgjbbihkaaGreatDoor
open Go.Proofs.Tryz
open Go.Dk
set_option maxRecDepth 100000
attribute [local irreducible] IntKind.wrap
theorem ER (a b:List UInt8)(h:aU a=aU b):a=b:=by
 unfold aU at h;injection h with h;injection h with h;exact Array.toList_inj.2 h |> fun h=>by simpa using h
theorem JU:kQ prog 170 9 4 aU Value.bool (.bool false):=⟨underlying170,(KL.DB underlying9).mono (fun v ⟨l,h⟩=>by subst h;exact trivial),ER,by kernel_rfl⟩
theorem iR.ins {S:Nat→Prop}{w:World}{hs:List Value}{Q:aZ}{u:Value}{ks:List Int}(h:iR S w (hs++[u]) (Q++[ks])){i:Nat}(hi:i≤hs.length):iR S w (hs.take i++u::hs.drop i) (Q.take i++ks::Q.drop i):=by
 obtain ⟨h1,h2⟩:=h;rw[List.length_append,List.length_append] at h1;have h1':hs.length=Q.length:=by simpa using h1
 refine ⟨by simp;omega,fun j v rs hj hrs=>?_⟩;rw[Bt hi] at hj;rw[Bt (by omega)] at hrs;have old:∀ k,hs[k]?=some v→Q[k]?=some rs→qQ S w v rs:=fun k hk hk'=>by
  have hkl:=(List.getElem?_eq_some_iff.1 hk).1;exact h2 k v rs (by rw[List.getElem?_append_left hkl];exact hk) (by rw[List.getElem?_append_left (by omega)];exact hk')
 split at hj
 ·rename_i h3;rw[if_pos h3] at hrs;exact old j hj hrs
 ·rename_i h3;rw[if_neg h3] at hrs;split at hj
  ·rename_i h4;rw[if_pos h4] at hrs;injection hj with hj;injection hrs with hrs;subst hj hrs;exact h2 hs.length _ _ (by simp) (by rw[h1'];simp)
  ·rename_i h4;rw[if_neg h4] at hrs;exact old _ hj hrs
theorem _root_.Go.Dk.Hp.JV {w0 w:World}{L M:List cC}{S:Nat→Prop}{hs:List Value}{Q:aZ}{v:Value}{ks:List Int}(H:Hp w0 ab w (own 3 1 v ks.length (aA ks)::L) (di S hs Q::M))(hS:∀ g,S g→w0.heap.size≤g){i:Nat}(hi:i≤hs.length) :
  ∃ S',Hp w0 ab w L (di S' (hs.take i++v::hs.drop i) (Q.take i++ks::Q.drop i)::M)∧∀ g,S' g→w0.heap.size≤g:=by
 obtain ⟨S',H2,hS'⟩:=H.zA hS;refine ⟨S',(H2.pG (aS.refl _ _) (di S' (hs.take i++v::hs.drop i) (Q.take i++ks::Q.drop i)) (iR.ins (H2.ro 0 rfl) hi) fun g hg=>⟨H2.rlt _ (.head _) g hg,.inr ⟨_,.head _,hg⟩⟩).ep ?_,hS'⟩;intro r hr;rcases List.mem_cons.1 hr with rfl | hr
 ·exact .head _
 ·exact .tail _ (.tail _ hr)
def kG (ks:List Nat):List Int:=ks.map fun k:Nat=>(k:Int)
theorem z1 (ks:List Nat):aA (kG ks)=ints ks:=by unfold aA kG ints;rw[List.map_map];rfl
theorem ll (ks:List Nat):(kG ks).length=ks.length:=List.length_map _
theorem yx {a b:List Nat}(h:kG a=kG b):a=b:=List.map_inj_right (fun x y h=>by omega) |>.1 h
theorem wE:cH prog 44=some false:=by kernel_rfl
theorem fq:cH prog 75=some false:=by kernel_rfl
theorem wF:cH prog 170=some false:=by kernel_rfl
def rM (l:List (List UInt8 × Bool))(Q:aZ):Prop:=∀ ks:List Nat,(∀ k ∈ ks,k<65536)→(bR l (cw ks)).getD false=decide (kG ks ∈ Q)
def mS (n:Nat)(R:List Rw):List Nat:=R.map fun x=>ba x.1 x.2.1 n
abbrev sh (n:Nat)(R:List Rw)(A:Option Addr)(c:Nat)(PA:Option Addr)(pd g2 g3 g4 g5 r:Nat)(l:List (List UInt8 × Bool))(cols:Int)(B:Option Addr)(d:Nat)(hs:List Value)(X:List cC):List cC:=
 an g4 170 #[.map (some r)]::aP aU Value.bool r l::an g5 137 (mc cols (.slice B hs.length d))::own 75 1 (.slice B hs.length d) hs.length hs::an g2 44 #[.slice A R.length c]::an g3 39 #[.slice PA R.length pd]::own 86 4 (.slice PA R.length pd) R.length (flat bH (mS n R))::X
theorem JW:enters prog 109=true:=by kernel_rfl
set_option maxHeartbeats 4000000 in
theorem c109 {n:Nat}(R:List Rw)(hR:∀ x ∈ R,x.2.2<256)(hRl:R.length≤4000)(out p:Nat)(hout:out<8)(hp:p<256)(A:Option Addr)(c:Nat)(PA:Option Addr)(pd g2 g3 g4 g5 r:Nat)(l:List (List UInt8 × Bool))(cols:Int)(B:Option Addr)(d:Nat)(hs:List Value)(Q:aZ)(S':Nat→Prop)(X:List cC)(w0 w:World)(hA:Sl w0 (.slice A R.length c) 3 R.length (flat bj R))(hS:∀ g,S' g→w0.heap.size≤g)(hQ:Q.length≤100000)(hQr:∀ row ∈ Q,row.length≤4000)(hmade:rM l Q)(H:Hp w0 ab w (sh n R A c PA pd g2 g3 g4 g5 r l cols B d hs X) [di S' hs Q]) :
  bt prog 109 ([.int .i64 (out:Int),.int .i64 (p:Int)]++[(ah g2),(ah g3),(ah g4),(ah g5)]) w fun v w'=>
   v=.tuple #[]∧∃ l' B' d' hs' Q' S2,(rM l' Q'∧(∀ row,row ∈ Q'↔row ∈ Q∨row=kG (cX n R out p R.length))∧Q'.length≤Q.length+1∧∀ g,S2 g→w0.heap.size≤g)∧
    Hp w0 ab w' (sh n R A c PA pd g2 g3 g4 g5 r l' cols B' d' hs' X) [di S2 hs' Q']:=by
 refine ar (N:=77) func109 JW rfl rfl rfl (by simp) ?_;refine ak (γ:=Unit) (fun _=>[(8,.slice none 0 0)]) (fun _ w'=>Hp w0 ab w' (own 3 1 (.slice none 0 0) 0 []::sh n R A c PA pd g2 g3 g4 g5 r l cols B d hs X) [di S' hs Q]) ⟨(),⟨rfl,trivial⟩,H.bx 3 1⟩ ?_;clear H;rintro ⟨⟩ u w1 H;refine ak (γ:=Option Addr × Nat) (fun (C,e)=>[(8,.slice C (cX n R out p R.length).length e)]) (fun (C,e) w'=>Hp w0 ab w' (own 3 1 (.slice C (cX n R out p R.length).length e) (cX n R out p R.length).length (ints (cX n R out p R.length))::sh n R A c PA pd g2 g3 g4 g5 r l cols B d hs X) [di S' hs Q]) ?_ ?_
 ·refine H.load 5 rfl wE rfl ?_;refine ay underlying44 ?_;refine ax (γ:=Nat × Option Addr × Nat) (fun (j,C,e)=>[(15,.int .i64 (j:Int)),(8,.slice C (cX n R out p j).length e)]) (fun (j,C,e) w'=>j≤R.length∧Hp w0 ab w' (own 3 1 (.slice C (cX n R out p j).length e) (cX n R out p j).length (ints (cX n R out p j))::sh n R A c PA pd g2 g3 g4 g5 r l cols B d hs X) [di S' hs Q]) (fun (j,_)=>R.length - j) (0,none,0) ⟨rfl,rfl,trivial⟩ ⟨Nat.zero_le _,H⟩ ?_;clear H;rintro ⟨j,C,e⟩ u w2 ⟨hj,H⟩;refine au (fun h7=>?_) (fun h7=>?_)
  ·obtain ⟨gA,oA,rfl⟩:=hA.A (by omega);obtain ⟨x,hx,hxin⟩:=kC (l:=R) (j:=j) (by omega);have hsucc:=tB (n:=n) (out:=out) (p:=p) hx;have hcl:=lY n R out p j;refine ak (γ:=Option Addr × Nat) (fun (C,e)=>[(8,.slice C (cX n R out p (j+1)).length e)]) (fun (C,e) w'=>Hp w0 ab w' (own 3 1 (.slice C (cX n R out p (j+1)).length e) (cX n R out p (j+1)).length (ints (cX n R out p (j+1)))::sh n R (some ⟨gA,oA,none⟩) c PA pd g2 g3 g4 g5 r l cols B d hs X) [di S' hs Q]) ?_ ?_
   ·rw[hsucc];have hxo:=hR x hxin;obtain ⟨m,v,o⟩:=x;simp only at hxo;refine ak (γ:=Nat) (fun g10=>[(10,(ah g10)),(9,.int .i64 (j:Int))]) (fun g10 w'=>Hp w0 ab w' (an g10 50 (eU m v o)::own 3 1 (.slice C (cX n R out p j).length e) (cX n R out p j).length (ints (cX n R out p j))::sh n R (some ⟨gA,oA,none⟩) c PA pd g2 g3 g4 g5 r l cols B d hs X) [di S' hs Q]) ?_ ?_
    ·refine aq underlying44 bd j rfl (by omega) (o':=oA+j*3) (by omega) ?_;refine Sl.cI H hA bI ij bd j rfl hx ?_;refine H.alloc 50 (cs:=eU 0 0 0) jP rfl ?_;clear H;intro g10 w3 H;refine H.storeAll (cs':=eU m v o) 0 rfl bd rfl (eK _ _ _) ?_;clear H;intro w4 H;exact ⟨g10,⟨rfl,rfl,trivial⟩,H⟩
    clear H;rintro g10 u w3 H;have hst:=cB o out;obtain ⟨gP,rfl⟩:=H.mq 8 rfl (by omega);have hpx:(mS n R)[j]?=some (ba m v n):=by unfold mS;rw[List.getElem?_map,hx];rfl
    have hpl:(mS n R).length=R.length:=List.length_map _;refine aa (dN _ _) ?_;refine H.load 0 rfl cg rfl ?_;refine eR (by omega) ?_;refine dL (b:=1) (Nat.lt_of_le_of_lt (Nat.div_le_self _ _) hxo) (by omega) ?_;simp only
    cases hob:o.testBit out with
    | true=>
     rw[hob] at hst;refine ag (by assumption) ?_;refine H.load 7 (i:=0) rfl dV rfl ?_
     iterate 2 refine ag (by assumption) ?_
     refine aq underlying39 av j rfl (by omega) (o':=j*4) (by omega) ?_;refine ag (by assumption) ?_;refine H.gf 8 rfl bO aD av j rfl hpx ?_
     iterate 2 refine ag (by assumption) ?_
     refine aj (xR (ba m v n) p hp _) ?_;rintro _ w4 ⟨rfl,hk⟩;replace H:=H.same hk;clear hk;refine ag (by assumption) ?_
     cases hcb:(ba m v n).testBit p with
     | true=>
      refine ag rfl ?_;refine H.aX dy rfl ?_;clear H;intro g20 w5 H;refine H.cf 1 dy rfl rfl (by omega) (by omega) ?_;clear H;intro C2 e2 w6 H;have e3:(cX n R out p j++[j]).length=(cX n R out p j).length+1:=by simp
      have e4:ints (cX n R out p j++[j])=ints (cX n R out p j)++[.int .i64 (j:Int)]:=by unfold ints;rw[List.map_append];rfl
      simp only[Bool.and_self,if_true];exact ⟨(C2,e2),⟨by rw[e3];rfl,trivial⟩,by rw[e3,e4];exact H.forget⟩
     | false=>
      refine af rfl ?_;exact ⟨(C,e),⟨rfl,trivial⟩,H.forget⟩
    | false=>
     rw[hob] at hst
     iterate 7 refine af (by assumption) ?_
     refine af rfl ?_;exact ⟨(C,e),⟨rfl,trivial⟩,H.forget⟩
   ·clear H;rintro ⟨C,e⟩ u w3 H;exact ⟨(j+1,C,e),by show R.length - (j+1)<R.length - j;omega,⟨up (by omega),rfl,trivial⟩,by show j+1≤R.length;omega,H⟩
  ·have:j=R.length:=by omega
   subst this;exact ⟨(C,e),⟨rfl,trivial⟩,H⟩
 clear H;rintro ⟨C,e⟩ u w2 H;have hcl:=lY n R out p R.length;have hck:∀ k ∈ cX n R out p R.length,k<65536:=fun k hk=>by have:=(ke.1 hk).1;omega
 generalize cX n R out p R.length=K at H hcl hck ⊢;have hKl:=ll K;have hKi:=z1 K;refine ak (γ:=Unit) (fun _=>[(11,aU (cw K))]) (fun _ w'=>Hp w0 ab w' (own 3 1 (.slice C K.length e) K.length (ints K)::sh n R A c PA pd g2 g3 g4 g5 r l cols B d hs X) [di S' hs Q]) ?_ ?_
 ·refine aj (NJ K hck C e _ (by omega) (bE (H.get 0 rfl))) ?_;rintro _ w3 ⟨rfl,hk⟩;replace H:=H.same hk;exact ⟨(),⟨rfl,trivial⟩,H⟩
 clear H;rintro ⟨⟩ u w3 H;have hmk:=hmade K hck;by_cases hin:kG K ∈ Q
 ·refine H.load 1 rfl wF rfl ?_;rw[decide_eq_true hin] at hmk;refine eg (H.get 2 rfl) JU (cw K) (v:=.bool true) (by revert hmk;cases bR l (cw K) <;> simp) ?_;refine ag rfl ?_;exact ⟨rfl,l,B,d,hs,Q,S',⟨hmade,fun row=>⟨.inl,fun h=>h.elim id (fun e=>e ▸ hin)⟩,Nat.le_succ _,hS⟩,H.forget⟩
 rw[decide_eq_false hin] at hmk;refine aw (fun w'=>Hp w0 ab w' (own 3 1 (.slice C K.length e) K.length (ints K)::sh n R A c PA pd g2 g3 g4 g5 r l cols B d hs X) [di S' hs Q]) ?_ ?_
 ·refine H.load 1 rfl wF rfl ?_;refine eg (H.get 2 rfl) JU (cw K) (v:=.bool false) (by revert hmk;cases bR l (cw K) <;> simp) ?_;refine af rfl ?_;exact ⟨(),trivial,H⟩
 clear H;rintro ⟨⟩ u w4 H;refine aw (fun w'=>Hp w0 ab w' (own 3 1 (.slice C K.length e) K.length (ints K)::sh n R A c PA pd g2 g3 g4 g5 r (dS l (cw K) true) cols B d hs X) [di S' hs Q]) ?_ ?_
 ·refine H.load 1 rfl wF rfl ?_;refine H.iw 2 rfl JU (cw K) true ?_;clear H;intro w5 H;exact ⟨(),trivial,H⟩
 clear H;rintro ⟨⟩ u w5 H;have hhl:hs.length=Q.length:=(show iR S' w5 hs Q from H.ro 0 rfl).1;have hmade':∀ Q':aZ,(∀ row,row ∈ Q'↔row ∈ Q∨row=kG K)→rM (dS l (cw K) true) Q':=fun Q' hQ' ks hks=>by
  rw[e8];by_cases hw:cw ks=cw K
  ·rw[if_pos hw];obtain rfl:=vg hks hck hw;exact (decide_eq_true ((hQ' _).2 (.inr rfl))).symm
  ·rw[if_neg hw,hmade ks hks];refine decide_eq_decide.2 ?_;rw[hQ'];exact ⟨.inl,fun h=>h.elim id fun e=>absurd (by rw[yx e]) hw⟩
 refine ak (γ:=Nat) (fun i=>[(12,.int .i64 (i:Int))]) (fun i w'=>i≤hs.length∧Hp w0 ab w' (own 3 1 (.slice C K.length e) K.length (ints K)::sh n R A c PA pd g2 g3 g4 g5 r (dS l (cw K) true) cols B d hs X) [di S' hs Q]) ?_ ?_
 ·refine aa (cz _) ?_;refine H.load 3 rfl eu rfl ?_;refine ay underlying135 ?_;exact ⟨hs.length,⟨rfl,trivial⟩,Nat.le_refl _,H⟩
 clear H;rintro i0 u w6 ⟨hi0,H⟩;refine ak (γ:=Nat) (fun i=>[(12,.int .i64 (i:Int))]) (fun i w'=>i≤hs.length∧Hp w0 ab w' (own 3 1 (.slice C K.length e) K.length (ints K)::sh n R A c PA pd g2 g3 g4 g5 r (dS l (cw K) true) cols B d hs X) [di S' hs Q]) ?_ ?_
 ·refine ax (γ:=Nat) (fun i=>[(12,.int .i64 (i:Int))]) (fun i w'=>i≤hs.length∧Hp w0 ab w' (own 3 1 (.slice C K.length e) K.length (ints K)::sh n R A c PA pd g2 g3 g4 g5 r (dS l (cw K) true) cols B d hs X) [di S' hs Q]) (fun i=>i) i0 ⟨rfl,trivial⟩ ⟨hi0,H⟩ ?_;clear H;rintro i u w7 ⟨hi,H⟩;by_cases h0:(0:Int)<(i:Int)
  ·obtain ⟨gB,rfl⟩:=H.mq 4 rfl (by omega);obtain ⟨hv,hh⟩:∃ hv,hs[i - 1]?=some hv:=⟨_,List.getElem?_eq_getElem (by omega)⟩;obtain ⟨row,hrow⟩:∃ row,Q[i - 1]?=some row:=⟨_,List.getElem?_eq_getElem (by omega)⟩;obtain ⟨D,f,rfl,hsl⟩:=(show iR S' w7 hs Q from H.ro 0 rfl).2 (i - 1) hv row hh hrow;have hw:IntKind.i64.wrap ((i:Int) - 1)=((i - 1:Nat):Int):=by rw[aH (by omega) (by omega)];omega
   have hrl:=hQr row (List.mem_of_getElem? hrow);have hc112:∀ w,Sl w (.slice C K.length e) 1 K.length (ints K)→Sl w (.slice D row.length f) 1 row.length (aA row)→bt prog 112 [.slice C K.length e,.slice D row.length f] w fun r w'=>(∃ bb,r=.bool bb)∧aT w w':=fun w h1 h2=>by
    have:=NI (kG K) row C D e f w (by rw[hKl];omega) (by omega) (by rw[hKl,hKi];exact h1) h2;rw[hKl] at this;exact this
   iterate 2 refine ag (decide_eq_true (by assumption)) ?_
   refine aa (cz _) ?_;refine ag (decide_eq_true (by assumption)) ?_;refine H.load 3 (i:=1) rfl eu rfl ?_
   iterate 3 refine ag (decide_eq_true (by assumption)) ?_
   refine aq underlying135 (s:=1) fK (i - 1) hw (by omega) (o':=(i - 1)) (by omega) ?_;refine ag (decide_eq_true (by assumption)) ?_;refine H.dX 4 rfl fq hh ?_
   iterate 1 refine ag (decide_eq_true (by assumption)) ?_
   refine aj (hc112 w7 (bE (H.get 0 rfl)) (sl.mono hsl fun g hg=>H.rlt _ (.head _) g hg)) ?_;rintro _ w8 ⟨⟨bb,rfl⟩,hk⟩;replace H:=H.same hk;clear hk
   cases bb with
   | true=>
    iterate 1 refine ag (decide_eq_true (by assumption)) ?_
    refine ag rfl ?_;exact ⟨i - 1,by show i - 1<i;omega,⟨by rw[← hw];rfl,trivial⟩,by show i - 1≤hs.length;omega,H⟩
   | false=>
    iterate 1 refine ag (decide_eq_true (by assumption)) ?_
    refine af rfl ?_;exact ⟨i,⟨rfl,trivial⟩,hi,H⟩
  ·iterate 9 refine af (decide_eq_false (by assumption)) ?_
   refine af rfl ?_;exact ⟨i,⟨rfl,trivial⟩,hi,H⟩
 clear H;rintro i u w7 ⟨hi,H⟩;have hrs:=bE (H.get 4 rfl);have hQl:hs.length≤100000:=by omega
 obtain ⟨A1,e1,hA1,hS1⟩:=lN hrs (i:=i) hi;obtain ⟨A2,c2,e2,hS2⟩:=lO underlying135 fK hrs (i:=i) hi;have hid:i≤d:=Nat.le_trans hi (by obtain ⟨_,A',c',e,h,_⟩:=hrs;injection e with _ _ e;omega);have v1:∀ w',(own 75 1 (.slice B hs.length d) hs.length hs).ok w'→Sl w' (.slice A1 i i) 1 i (hs.take (i*1)):=fun w' h=>by
  obtain ⟨A',e',_,hS⟩:=lN (bE h) (i:=i) hi;rw[e1] at e';injection e' with e' _ _;rw[e'];exact hS
 have v2:∀ w',(own 75 1 (.slice B hs.length d) hs.length hs).ok w'→Sl w' (.slice A2 (hs.length - i) c2) 1 (hs.length - i) (hs.drop (i*1)):=fun w' h=>by
  obtain ⟨A',c',e',hS⟩:=lO underlying135 fK (bE h) (i:=i) hi;rw[e2] at e';injection e' with e' _ e'';rw[e',e''];exact hS
 have h1:∀ u ∈ hs.drop (i*1),u.oneCell'=true:=fun u hu=>by
  obtain ⟨j,hj⟩:=List.getElem?_of_mem (List.mem_of_mem_drop hu);obtain ⟨row,hrow⟩:∃ row,Q[j]?=some row:=⟨_,List.getElem?_eq_getElem (by have:=(List.getElem?_eq_some_iff.1 hj).1;omega)⟩;obtain ⟨D,f,rfl,_⟩:=(show iR S' w7 hs Q from H.ro 0 rfl).2 j u row hj hrow;rfl
 have hl':(hs.take i++Value.slice C K.length e::hs.drop i).length=i+(1+(hs.length - i)):=by simp;omega
 clear hS1 hS2 hrs;refine H.fg (own 3 1 (.slice C K.length e) K.length (ints K)::sh n R A c PA pd g2 g3 g4 g5 r (dS l (cw K) true) cols B d hs X) (fun u H=>H) eS (by kernel_rfl) ?_;clear H;intro w8 H;refine quiet _ (fun w H=>aa (cz _) ae) ?_;refine quiet _ (fun w H=>H.load 3 (i:=1) rfl eu rfl ae) ?_;refine quiet (.slice A1 i i) (fun w H=>by rw[← e1];exact sR underlying135 fK rfl rfl hid ae) ?_;refine H.bg tj (cs:=#[.slice C K.length e]) (by decide) (by decide) (by kernel_rfl) ?_;clear H;intro g20 w9 H;refine ⟨.inl H.forget,?_⟩;refine quiet _ (fun w H=>aa (cz _) ae) ?_;refine quiet _ (fun w H=>H.load 3 (i:=1) rfl eu rfl ae) ?_;refine quiet (.slice A2 (hs.length - i) c2) (fun w H=>by rw[← e2];exact r6 underlying135 fK rfl hi ae) ?_;replace H:=H.wz (l:=1) (sz:=1) rfl (by unfold maxLen;omega);refine H.kz 0 tj rfl (v2 _ (H.get 5 rfl)) h1 (by omega) (by omega) ?_;clear H;intro A3 d3 w10 H;refine ⟨.inl H.forget,?_⟩;refine H.qH tj (v1 _ (H.get 5 rfl)) (bE (H.get 0 rfl)) hA1 (by omega) (by omega) (by omega) ?_;clear H;intro A4 d4 w11 H;refine ⟨.inl H.forget.forget,?_⟩;refine quiet _ (fun w H=>aa (cz _) ae) ?_;refine H.store 5 rfl pY (Nat.le_of_ble_eq_true rfl) rfl ?_;clear H;intro w12 H;refine ⟨.inr rfl,?_⟩;have H2:=(H.front 1 rfl).forget;clear H;have H3:=(H2.front 5 rfl).forget;clear H2;have H4:=(((H3.front 4 rfl).front 4 rfl).front 4 rfl).front 4 rfl;clear H3;have H5:Hp w0 ab w12 (own 3 1 (.slice C K.length e) (kG K).length (aA (kG K))::an g4 170 #[.map (some r)]::aP aU Value.bool r (dS l (cw K) true)::an g5 137 (mc cols (.slice (some ⟨A4,0,none⟩) (i+(1+(hs.length - i))) d4))::own 75 1 (.slice (some ⟨A4,0,none⟩) (i+(1+(hs.length - i))) d4) (i+(1+(hs.length - i))) (hs.take (i*1)++(#[Value.slice C K.length e].toList++hs.drop (i*1)))::an g2 44 #[.slice A R.length c]::an g3 39 #[.slice PA R.length pd]::own 86 4 (.slice PA R.length pd) R.length (flat bH (mS n R))::X) [di S' hs Q]:=by
  rw[hKl,hKi];exact H4
 clear H4;obtain ⟨S2,H6,hS2⟩:=H5.JV hS hi;clear H5;have hmem:∀ row,row ∈ Q.take i++kG K::Q.drop i↔row ∈ Q∨row=kG K:=fun row=>by rw[GQ];exact or_comm
 refine ⟨rfl,dS l (cw K) true,some ⟨A4,0,none⟩,d4,hs.take i++.slice C K.length e::hs.drop i,Q.take i++kG K::Q.drop i,S2,⟨hmade' _ hmem,hmem,by simp;omega,hS2⟩,?_⟩;rw[Nat.mul_one] at H6;unfold sh;rw[hl'];exact H6
theorem GR:bB prog 170=some 1:=by kernel_rfl
theorem GS:eH prog 39=some (.slice none 0 0):=by kernel_rfl
theorem ES:eH prog 170=some (.map none):=by kernel_rfl
theorem FU:qu prog 39 86 (sv 0) 4 32:=⟨underlying39,by kernel_rfl,rfl,by decide⟩
def oE (S:dU)(R:List Rw)(k i:Nat)(row:List Int):Prop:=
 (∃ o a p,o<k∧S.on[o]?=some a∧a.testBit p=true∧row=kG (cX S.n R o p R.length))∨(∃ a p,S.on[k]?=some a∧p ∈ (cD a).take i∧row=kG (cX S.n R k p R.length))
theorem CN {S:dU}{R:List Rw}{k i a p:Nat}{row:List Int}(ha:S.on[k]?=some a)(htk:(cD a).take (i+1)=(cD a).take i++[p]):oE S R k i row∨row=kG (cX S.n R k p R.length)↔oE S R k (i+1) row:=by
 unfold oE;rw[or_assoc];refine or_congr_right ⟨fun h=>?_,fun h=>?_⟩
 ·rcases h with ⟨a',p',h1,h2,h3⟩ | h
  ·rw[ha] at h1;injection h1 with h1;subst h1;exact ⟨a,p',ha,by rw[htk];exact List.mem_append_left _ h2,h3⟩
  ·exact ⟨a,p,ha,by rw[htk];exact List.mem_append_right _ (List.mem_singleton.2 rfl),h⟩
 ·obtain ⟨a',p',h1,h2,h3⟩:=h;rw[ha] at h1;injection h1 with h1;subst h1;rw[htk] at h2;rcases List.mem_append.1 h2 with h2 | h2
  ·exact .inl ⟨a,p',ha,h2,h3⟩
  ·obtain rfl:=List.mem_singleton.1 h2;exact .inr h3
theorem CO {S:dU}{R:List Rw}{k a:Nat}{row:List Int}(ha:S.on[k]?=some a)(halt:a<2^256):oE S R k (cD a).length row↔oE S R (k+1) 0 row:=by
 unfold oE;constructor
 ·rintro (⟨o,b,p,h1,h2⟩ | ⟨b,p,h1,h2,h3⟩)
  ·exact .inl ⟨o,b,p,by omega,h2⟩
  ·rw[ha] at h1;injection h1 with h1;subst h1;rw[List.take_length] at h2;exact .inl ⟨k,a,p,by omega,ha,(wC halt).1 h2,h3⟩
 ·rintro (⟨o,b,p,h1,h2,h3,h4⟩ | ⟨b,p,_,h2,_⟩)
  ·rcases Nat.lt_succ_iff_lt_or_eq.1 h1 with h | h
   ·exact .inl ⟨o,b,p,h,h2,h3,h4⟩
   ·subst h;rw[ha] at h2;injection h2 with h2;subst h2;exact .inr ⟨a,p,ha,by rw[List.take_length];exact (wC halt).2 h3,h4⟩
  ·simp at h2
theorem LW:enters prog 87=true:=by kernel_rfl
set_option maxHeartbeats 4000000 in
theorem c87 {S:dU}(hS:cK S)(R:List Rw)(hR:∀ x ∈ R,gK S.n S.on.length x)(hRl:R.length≤4000)(Bo:Option Addr)(co:Nat)(Bm:Option Addr)(cm:Nat)(A:Option Addr)(c:Nat)(w:World)(hS':gn w S Bo co Bm cm)(hA:Sl w (.slice A R.length c) 3 R.length (flat bj R)) :
  bt prog 87 [rW S.n (.slice Bo S.on.length co) (.slice Bm S.may.length cm),.slice A R.length c] w fun r w'=>∃ B d Q,r=.tuple #[mv (R.length:Int) (.slice B Q.length d),.int .i64 0]∧((∀ row,row ∈ Q↔oE S R S.on.length 0 row)∧Q.length≤100000)∧tk (fun _=>False) w w' (.slice B Q.length d) Q:=by
 refine ar (N:=76) func87 LW rfl rfl rfl (by simp) ?_;have H:=Hp.aC w;have hn8:=hS.n8;have h4:=hS.few;refine ak (γ:=Nat × Nat × Nat) (fun (g2,g3,g4)=>[(2,(ah g2)),(3,(ah g3)),(4,(ah g4)),(5,.int .i64 0)]) (fun (g2,g3,g4) w'=>Hp w ab w' [an g4 137 (mv 0 (.slice none 0 0)).cells,an g3 44 #[.slice A R.length c],an g2 41 (bq S.n (.slice Bo S.on.length co) (.slice Bm S.may.length cm))] []) ?_ ?_
 ·refine H.box 41 _ (cs:=(bq S.n (.slice Bo S.on.length co) (.slice Bm S.may.length cm))) rfl ?_;clear H;intro g2 w1 H;refine H.box 44 _ (cs:=#[.slice A R.length c]) rfl ?_;clear H;intro g3 w2 H;refine H.alloc 137 dH rfl ?_;clear H;intro g4 w3 H;exact ⟨(g2,g3,g4),⟨rfl,rfl,rfl,rfl,trivial⟩,H⟩
 clear H;rintro ⟨g2,g3,g4⟩ u w1 H;refine aw (fun w'=>Hp w ab w' [an g4 137 (mv 0 (.slice none 0 0)).cells,an g3 44 #[.slice A R.length c],an g2 41 (bq S.n (.slice Bo S.on.length co) (.slice Bm S.may.length cm))] []) ?_ ?_
 ·refine H.ai 2 rfl dx bL ?_;refine aj (GF hS Bo co Bm cm _ (hS'.same H.keeps)) ?_;rintro _ w2 ⟨rfl,hk⟩;replace H:=H.same hk;refine af rfl ?_;exact ⟨(),trivial,H⟩
 clear H;rintro ⟨⟩ u w2 H;refine ak (γ:=Nat) (fun g6=>[(6,(ah g6))]) (fun g6 w'=>Hp w ab w' [an g6 39 #[.slice none 0 0],own 86 4 (.slice none 0 0) 0 [],an g4 137 (mv 0 (.slice none 0 0)).cells,an g3 44 #[.slice A R.length c],an g2 41 (bq S.n (.slice Bo S.on.length co) (.slice Bm S.may.length cm))] []) ?_ ?_
 ·refine (H.bx 86 4).alloc 39 (cs:=#[.slice none 0 0]) GS rfl ?_;clear H;intro g6 w3 H;exact ⟨g6,⟨rfl,trivial⟩,H⟩
 clear H;rintro g6 u w3 H;refine ak (γ:=Option Addr × Nat) (fun _=>[]) (fun (PA,pd) w'=>Hp w ab w' [an g6 39 #[.slice PA R.length pd],own 86 4 (.slice PA R.length pd) R.length (flat bH (mS S.n R)),an g4 137 (mv 0 (.slice none 0 0)).cells,an g3 44 #[.slice A R.length c],an g2 41 (bq S.n (.slice Bo S.on.length co) (.slice Bm S.may.length cm))] []) ?_ ?_
 ·refine H.load 3 rfl wE rfl ?_;refine ay underlying44 ?_;refine ax (γ:=Nat × Option Addr × Nat) (fun (j,_)=>[(24,.int .i64 (j:Int))]) (fun (j,PA,pd) w'=>j≤R.length∧Hp w ab w' [an g6 39 #[.slice PA j pd],own 86 4 (.slice PA j pd) j (flat bH (mS S.n (R.take j))),an g4 137 (mv 0 (.slice none 0 0)).cells,an g3 44 #[.slice A R.length c],an g2 41 (bq S.n (.slice Bo S.on.length co) (.slice Bm S.may.length cm))] []) (fun (j,_)=>R.length - j) (0,none,0) ⟨rfl,trivial⟩ ⟨Nat.zero_le _,H⟩ ?_;clear H;rintro ⟨j,PA,pd⟩ u w4 ⟨hj,H⟩;refine au (fun h7=>?_) (fun h7=>?_)
  ·obtain ⟨gA,oA,rfl⟩:=hA.A (by omega);obtain ⟨x,hx,hxin⟩:=kC (l:=R) (j:=j) (by omega);have hxo:=hR x hxin;have hpt:mS S.n (R.take (j+1))=mS S.n (R.take j)++[ba x.1 x.2.1 S.n]:=by unfold mS;rw[iH hx,List.map_append];rfl
   refine ak (γ:=Option Addr × Nat) (fun _=>[]) (fun (PA,pd) w'=>Hp w ab w' [an g6 39 #[.slice PA (j+1) pd],own 86 4 (.slice PA (j+1) pd) (j+1) (flat bH (mS S.n (R.take (j+1)))),an g4 137 (mv 0 (.slice none 0 0)).cells,an g3 44 #[.slice (some ⟨gA,oA,none⟩) R.length c],an g2 41 (bq S.n (.slice Bo S.on.length co) (.slice Bm S.may.length cm))] []) ?_ ?_
   ·rw[hpt];obtain ⟨m,v,o⟩:=x;have hm:=hxo.m;have hv:=hxo.v;have hr:=hxo.right;simp only at hm hv hr;refine ak (γ:=Nat) (fun g8=>[(8,(ah g8))]) (fun g8 w'=>Hp w ab w' [an g8 50 (eU m v o),an g6 39 #[.slice PA j pd],own 86 4 (.slice PA j pd) j (flat bH (mS S.n (R.take j))),an g4 137 (mv 0 (.slice none 0 0)).cells,an g3 44 #[.slice (some ⟨gA,oA,none⟩) R.length c],an g2 41 (bq S.n (.slice Bo S.on.length co) (.slice Bm S.may.length cm))] []) ?_ ?_
    ·refine aq underlying44 bd j rfl (by omega) (o':=oA+j*3) (by omega) ?_;refine Sl.cI H hA bI ij bd j rfl hx ?_;refine H.alloc 50 (cs:=eU 0 0 0) jP rfl ?_;clear H;intro g8 w5 H;refine H.storeAll (cs':=eU m v o) 0 rfl bd rfl (eK _ _ _) ?_;clear H;intro w6 H;exact ⟨g8,⟨rfl,trivial⟩,H⟩
    clear H;rintro g8 u w5 H;refine ak (γ:=Nat) (fun g9=>[(9,(ah g9)),(10,.int .i64 0)]) (fun g9 w'=>Hp w ab w' [an g9 86 (sc (ba m v S.n)),an g6 39 #[.slice PA j pd],own 86 4 (.slice PA j pd) j (flat bH (mS S.n (R.take j))),an g4 137 (mv 0 (.slice none 0 0)).cells,an g3 44 #[.slice (some ⟨gA,oA,none⟩) R.length c],an g2 41 (bq S.n (.slice Bo S.on.length co) (.slice Bm S.may.length cm))] []) ?_ ?_
    ·refine aa (fN _ _) ?_;refine H.cW 0 rfl [.int .u8 (m:Int),.int .u8 (v:Int)] bw aO (fun j u hj=>by match j,hj with | 0,hj=>exact hj | 1,hj=>exact hj) ?_;refine aa (iG _) ?_;refine H.load 5 rfl aE rfl ?_;refine aj (DT m v hm hv S.n hn8 hr _) ?_;rintro _ w6 ⟨rfl,hk⟩;replace H:=H.same hk;refine H.alloc 86 (cs:=sc 0) bo aY ?_;clear H;intro g9 w7 H;refine H.aW (b:=ba m v S.n) 0 rfl ?_;clear H;intro w8 H;exact ⟨g9,⟨rfl,rfl,trivial⟩,H.b6 [0,2,3,4,5,6] (by decide) rfl⟩
    clear H;rintro g9 u w6 H;refine aw (fun w'=>Hp w ab w' [an g9 86 (sc (ba m v S.n)),an g6 39 #[.slice PA j pd],own 86 4 (.slice PA j pd) j (flat bH (mS S.n (R.take j))),an g4 137 (mv 0 (.slice none 0 0)).cells,an g3 44 #[.slice (some ⟨gA,oA,none⟩) R.length c],an g2 41 (bq S.n (.slice Bo S.on.length co) (.slice Bm S.may.length cm))] []) ?_ ?_
    ·refine af rfl ?_;exact ⟨(),trivial,H⟩
    clear H;rintro ⟨⟩ u w7 H;refine H.load 1 rfl dV rfl ?_;refine H.ai 0 rfl aD av ?_;refine H.bg FU (cs:=sc (ba m v S.n)) (by decide) (by decide) (by kernel_rfl) ?_;clear H;intro g20 w8 H;refine H.aG (c:=1) 3 0 FU rfl rfl rfl (fl _) (by omega) (by omega) ?_;clear H;intro PA2 pd2 w9 H;refine H.store 2 rfl tq (Nat.le_of_ble_eq_true rfl) rfl ?_;clear H;intro w10 H;have e2:flat bH (mS S.n (R.take j)++[ba m v S.n])=flat bH (mS S.n (R.take j))++(sc (ba m v S.n)).toList:=du ..;refine ⟨(PA2,pd2),trivial,?_⟩;rw[e2];exact H.b6 [2,3,4,5,6] (by decide) rfl
   ·clear H;rintro ⟨PA,pd⟩ u w5 H;exact ⟨(j+1,PA,pd),by show R.length - (j+1)<R.length - j;omega,⟨up (by omega),trivial⟩,by show j+1≤R.length;omega,H⟩
  ·have:j=R.length:=by omega
   subst this;rw[List.take_length] at H;exact ⟨(PA,pd),trivial,H⟩
 clear H;rintro ⟨PA,pd⟩ u w4 H;refine aw (fun w'=>Hp w ab w' [an g6 39 #[.slice PA R.length pd],own 86 4 (.slice PA R.length pd) R.length (flat bH (mS S.n R)),an g4 137 (mv 0 (.slice none 0 0)).cells,an g3 44 #[.slice A R.length c],an g2 41 (bq S.n (.slice Bo S.on.length co) (.slice Bm S.may.length cm))] []) ?_ ?_
 ·refine H.load 3 rfl wE rfl ?_;refine ay underlying44 ?_;refine af (decide_eq_false (by omega)) ?_;exact ⟨(),trivial,H⟩
 clear H;rintro ⟨⟩ u w5 H;have H:=H.bx 75 1;refine ak (γ:=Nat) (fun g11=>[(11,(ah g11))]) (fun g11 w'=>Hp w ab w' [an g11 137 (mc (R.length:Int) (.slice none 0 0)),own 75 1 (.slice none 0 0) 0 [],an g6 39 #[.slice PA R.length pd],own 86 4 (.slice PA R.length pd) R.length (flat bH (mS S.n R)),an g4 137 (mv 0 (.slice none 0 0)).cells,an g3 44 #[.slice A R.length c],an g2 41 (bq S.n (.slice Bo S.on.length co) (.slice Bm S.may.length cm))] []) ?_ ?_
 ·refine H.load 4 rfl wE rfl ?_;refine ay underlying44 ?_;refine lT ?_;refine H.alloc 137 dH rfl ?_;clear H;intro g11 w6 H;refine H.storeAll (cs':=mc (R.length:Int) (.slice none 0 0)) 0 rfl az rfl dc ?_;clear H;intro w7 H;exact ⟨g11,⟨rfl,trivial⟩,H⟩
 clear H;rintro g11 u w6 H;refine ak (γ:=Nat × Nat) (fun (g12,_)=>[(12,(ah g12))]) (fun (g12,r) w'=>Hp w ab w' (sh S.n R A c PA pd g3 g6 g12 g11 r [] (R.length:Int) none 0 [] [an g4 137 (mv 0 (.slice none 0 0)).cells,an g2 41 (bq S.n (.slice Bo S.on.length co) (.slice Bm S.may.length cm))]) []) ?_ ?_
 ·refine H.makeMap aU Value.bool ?_;clear H;intro r w7 H;refine H.alloc 170 (cs:=#[.map none]) ES rfl ?_;clear H;intro g12 w8 H;refine H.store 0 rfl GR (Nat.le_of_ble_eq_true rfl) rfl ?_;clear H;intro w9 H;exact ⟨(g12,r),⟨rfl,trivial⟩,H.b6 [0,1,2,3,7,4,5,6,8] (by decide) rfl⟩
 clear H;rintro ⟨g12,r⟩ u w7 H;replace H:=Hp.zB (show Hp w ab w7 _ [] from H);refine ak (γ:=Unit) (fun _=>[(13,.func (.func 109) #[] #[(ah g3),(ah g6),(ah g12),(ah g11)])]) (fun _ w'=>Hp w ab w' (sh S.n R A c PA pd g3 g6 g12 g11 r [] (R.length:Int) none 0 [] [an g4 137 (mv 0 (.slice none 0 0)).cells,an g2 41 (bq S.n (.slice Bo S.on.length co) (.slice Bm S.may.length cm))]) [di (fun _=>False) [] []]) ?_ ?_
 ·refine nA ?_;exact ⟨(),⟨rfl,trivial⟩,H⟩
 clear H;rintro ⟨⟩ u w8 H;have hlenr:∀ (Q:aZ) (k i:Nat),(∀ row,row ∈ Q↔oE S R k i row)→∀ row ∈ Q,row.length≤4000:=fun Q k i h row hrow=>by
  rcases (h row).1 hrow with ⟨o,a,p,_,_,_,rfl⟩ | ⟨a,p,_,_,rfl⟩
  ·rw[ll];exact Nat.le_trans (lY _ _ _ _ _) hRl
  ·rw[ll];exact Nat.le_trans (lY _ _ _ _ _) hRl
 refine ak (γ:=List (List UInt8 × Bool) × Option Addr × Nat × List Value × aZ × (Nat→Prop)) (fun _=>[]) (fun (l,B,d,hs,Q,S') w'=>(rM l Q∧(∀ row,row ∈ Q↔oE S R S.on.length 0 row)∧Q.length≤100000∧∀ g,S' g→w.heap.size≤g)∧Hp w ab w' (sh S.n R A c PA pd g3 g6 g12 g11 r l (R.length:Int) B d hs [an g4 137 (mv 0 (.slice none 0 0)).cells,an g2 41 (bq S.n (.slice Bo S.on.length co) (.slice Bm S.may.length cm))]) [di S' hs Q]) ?_ ?_
 ·refine aa (gp _) ?_;refine H.load 8 rfl dV rfl ?_;refine ay underlying39 ?_;refine ax (γ:=Nat × List (List UInt8 × Bool) × Option Addr × Nat × List Value × aZ × (Nat→Prop)) (fun (k,_)=>[(57,.int .i64 (k:Int))]) (fun (k,l,B,d,hs,Q,S') w'=>(k≤S.on.length∧rM l Q∧(∀ row,row ∈ Q↔oE S R k 0 row)∧Q.length≤k*256∧∀ g,S' g→w.heap.size≤g)∧Hp w ab w' (sh S.n R A c PA pd g3 g6 g12 g11 r l (R.length:Int) B d hs [an g4 137 (mv 0 (.slice none 0 0)).cells,an g2 41 (bq S.n (.slice Bo S.on.length co) (.slice Bm S.may.length cm))]) [di S' hs Q]) (fun (k,_)=>S.on.length - k) (0,[],none,0,[],[],fun _=>False) ⟨rfl,trivial⟩ ⟨⟨Nat.zero_le _,fun ks _=>by rw[sI];simp,fun row=>⟨fun h=>by simp at h,fun h=>by
   rcases h with ⟨o,a,p,h,_⟩ | ⟨a,p,_,h,_⟩
   ·omega
   ·simp at h⟩,Nat.zero_le _,fun g h=>h.elim⟩,H⟩ ?_
  clear H;rintro ⟨k,l,B,d,hs,Q,S'⟩ u w9 ⟨⟨hk,hmade,hask,hQl,hSg⟩,H⟩;refine au (fun h7=>?_) (fun h7=>?_)
  ·obtain ⟨a,ha,hain⟩:=lj (l:=S.on) (j:=k) (by omega);have halt:=hS.onlt a hain;obtain ⟨gO,oO,rfl⟩:=hS'.on.A (by omega);refine ak (γ:=List (List UInt8 × Bool) × Option Addr × Nat × List Value × aZ × (Nat→Prop)) (fun _=>[]) (fun (l,B,d,hs,Q,S') w'=>(rM l Q∧(∀ row,row ∈ Q↔oE S R (k+1) 0 row)∧Q.length≤(k+1)*256∧∀ g,S' g→w.heap.size≤g)∧Hp w ab w' (sh S.n R A c PA pd g3 g6 g12 g11 r l (R.length:Int) B d hs [an g4 137 (mv 0 (.slice none 0 0)).cells,an g2 41 (bq S.n (.slice (some ⟨gO,oO,none⟩) S.on.length co) (.slice Bm S.may.length cm))]) [di S' hs Q]) ?_ ?_
   ·refine ak (γ:=Nat) (fun g15=>[(15,(ah g15)),(14,.int .i64 (k:Int))]) (fun g15 w'=>Hp w ab w' (an g15 86 (sc a)::sh S.n R A c PA pd g3 g6 g12 g11 r l (R.length:Int) B d hs [an g4 137 (mv 0 (.slice none 0 0)).cells,an g2 41 (bq S.n (.slice (some ⟨gO,oO,none⟩) S.on.length co) (.slice Bm S.may.length cm))]) [di S' hs Q]) ?_ ?_
    ·refine aq underlying39 av k rfl (by omega) (o':=oO+k*4) (by omega) ?_;refine Sl.cI H hS'.on bO aD av k rfl ha ?_;refine H.alloc 86 (cs:=sc 0) bo aY ?_;clear H;intro g15 w10 H;refine H.aW (b:=a) 0 rfl ?_;clear H;intro w11 H;exact ⟨g15,⟨rfl,rfl,trivial⟩,H⟩
    clear H;rintro g15 u w10 H;have hpl:(cD a).length≤256:=eG a 256;refine H.ai 0 rfl aD av ?_;refine aj (DQ a _) ?_;rintro _ w11 ⟨PT,pc,rfl,hn'⟩;replace H:=H.bD hn';refine ay underlying75 ?_;refine ax (γ:=Nat × List (List UInt8 × Bool) × Option Addr × Nat × List Value × aZ × (Nat→Prop)) (fun (i,_)=>[(65,.int .i64 (i:Int))]) (fun (i,l,B,d,hs,Q,S') w'=>(i≤(cD a).length∧rM l Q∧(∀ row,row ∈ Q↔oE S R k i row)∧Q.length≤k*256+i∧∀ g,S' g→w.heap.size≤g)∧Hp w ab w' (sh S.n R A c PA pd g3 g6 g12 g11 r l (R.length:Int) B d hs [an g4 137 (mv 0 (.slice none 0 0)).cells,an g2 41 (bq S.n (.slice (some ⟨gO,oO,none⟩) S.on.length co) (.slice Bm S.may.length cm)),own 3 1 (.slice PT (cD a).length pc) (cD a).length (ints (cD a))]) [di S' hs Q]) (fun (i,_)=>(cD a).length - i) (0,l,B,d,hs,Q,S') ⟨rfl,trivial⟩ ⟨⟨Nat.zero_le _,hmade,hask,by omega,hSg⟩,H.b6 [2,3,4,5,6,7,8,9,10,0] (by decide) rfl⟩ ?_;clear H hmade hask hQl hSg;rintro ⟨i,l,B,d,hs,Q,S'⟩ u w12 ⟨⟨hi,hmade,hask,hQl,hSg⟩,H⟩;refine au (fun h8=>?_) (fun h8=>?_)
    ·have hil:i<(cD a).length:=by omega
     obtain ⟨p,hp⟩:∃ p,(cD a)[i]=p:=⟨_,rfl⟩;have hp256:p<256:=DS (hp ▸ List.getElem_mem hil);have htk:(cD a).take (i+1)=(cD a).take i++[p]:=iH (by rw[List.getElem?_eq_getElem hil,hp]);obtain ⟨gP,rfl⟩:=H.mq 9 rfl (by omega);refine ak (γ:=List (List UInt8 × Bool) × Option Addr × Nat × List Value × aZ × (Nat→Prop)) (fun _=>[]) (fun (l,B,d,hs,Q,S') w'=>(rM l Q∧(∀ row,row ∈ Q↔oE S R k (i+1) row)∧Q.length≤k*256+(i+1)∧∀ g,S' g→w.heap.size≤g)∧Hp w ab w' (sh S.n R A c PA pd g3 g6 g12 g11 r l (R.length:Int) B d hs [an g4 137 (mv 0 (.slice none 0 0)).cells,an g2 41 (bq S.n (.slice (some ⟨gO,oO,none⟩) S.on.length co) (.slice Bm S.may.length cm)),own 3 1 (.slice (some ⟨gP,0,none⟩) (cD a).length pc) (cD a).length (ints (cD a))]) [di S' hs Q]) ?_ ?_
     ·refine ak (γ:=Unit) (fun _=>[(17,.int .i64 (p:Int))]) (fun _ w'=>Hp w ab w' (sh S.n R A c PA pd g3 g6 g12 g11 r l (R.length:Int) B d hs [an g4 137 (mv 0 (.slice none 0 0)).cells,an g2 41 (bq S.n (.slice (some ⟨gO,oO,none⟩) S.on.length co) (.slice Bm S.may.length cm)),own 3 1 (.slice (some ⟨gP,0,none⟩) (cD a).length pc) (cD a).length (ints (cD a))]) [di S' hs Q]) ?_ ?_
      ·refine aq underlying75 a_ i rfl hil (o':=i) (by omega) ?_;refine H.dX 9 rfl aE (e_ hil) ?_;rw[hp];exact ⟨(),⟨rfl,trivial⟩,H⟩
      clear H;rintro ⟨⟩ u w13 H;refine e7 (c109 R (fun x hx=>(hR x hx).o) hRl k p (by omega) hp256 A c PA pd g3 g6 g12 g11 r l (R.length:Int) B d hs Q S' _ w w13 hA hSg (by omega) (hlenr Q k i hask) hmade H) ?_;rintro _ w14 ⟨rfl,l',B',d',hs',Q',S2,⟨hmade',hQ',hQl',hSg'⟩,H2⟩;clear H;refine ⟨(l',B',d',hs',Q',S2),trivial,⟨hmade',fun row=>(hQ' row).trans ?_,by show Q'.length≤k*256+(i+1);omega,hSg'⟩,H2⟩;rw[hask row];exact CN ha htk
     ·clear H hmade hask hQl hSg;rintro ⟨l,B,d,hs,Q,S'⟩ u w13 ⟨⟨hmade,hask,hQl,hSg⟩,H⟩;exact ⟨(i+1,l,B,d,hs,Q,S'),by show (cD a).length - (i+1)<(cD a).length - i;omega,⟨up (by omega),trivial⟩,⟨by show i+1≤(cD a).length;omega,hmade,hask,hQl,hSg⟩,H⟩
    ·have:i=(cD a).length:=by omega
     refine ⟨(l,B,d,hs,Q,S'),trivial,⟨hmade,fun row=>(hask row).trans ?_,by show Q.length≤(k+1)*256;omega,hSg⟩,H.b6 [0,1,2,3,4,5,6,7,8] (by decide) rfl⟩;rw[this];exact CO ha halt
   ·clear H hmade hask hQl hSg;rintro ⟨l,B,d,hs,Q,S'⟩ u w10 ⟨⟨hmade,hask,hQl,hSg⟩,H⟩;exact ⟨(k+1,l,B,d,hs,Q,S'),by show S.on.length - (k+1)<S.on.length - k;omega,⟨up (by omega),trivial⟩,⟨by show k+1≤S.on.length;omega,hmade,hask,hQl,hSg⟩,H⟩
  ·have:k=S.on.length:=by omega
   subst this;exact ⟨(l,B,d,hs,Q,S'),trivial,⟨hmade,hask,by omega,hSg⟩,H⟩
 clear H;rintro ⟨l,B,d,hs,Q,S'⟩ u w9 ⟨⟨hmade,hask,hQl,hSg⟩,H⟩;have hhl:hs.length=Q.length:=(show iR S' w9 hs Q from H.ro 0 rfl).1;refine H.ai 2 rfl aL az ?_;refine H.storeAll (cs':=mc (R.length:Int) (.slice B hs.length d)) 7 rfl az rfl dc ?_;clear H;intro w10 H;refine H.ai 7 rfl aL az ?_;refine ⟨rfl,?_⟩;have hn:=sa (S:=fun _=>False) H 3 rfl (H.ro 0 rfl) (fun g hg=>⟨H.rlt _ (.head _) g hg,.inl (hSg g hg)⟩);rw[hhl] at hn;exact ⟨B,d,Q,by rw[← hhl];rfl,⟨hask,hQl⟩,hn⟩
end Go.Proofs.YtpjihhgjbbihkaaGreatDoor
namespace Go.Dk
theorem CP {m v n:Nat}(hn:n≤8):ck (ba m v n) (bn n):=fun p hp=>by
 rw[bA hn] at hp;rw[gr hn,decide_eq_true hp.1]
theorem tC (S:dU)(o:Nat)(p:Nat):∀ j,(gW S o j).testBit p=true↔(bn S.n).testBit p=true∧∀ i,i<j→o.testBit i=true→(S.may.getD i 0).testBit p=true
 | 0=>by simp[gW]
 | j+1=>by
  have ih:=tC S o p j;unfold gW;by_cases hb:o.testBit j=true
  ·rw[if_pos hb,Nat.testBit_and,Bool.and_eq_true,ih];constructor
   ·rintro ⟨⟨h1,h2⟩,h3⟩;refine ⟨h1,fun i hi hib=>?_⟩;rcases Nat.lt_succ_iff_lt_or_eq.1 hi with h | h
    ·exact h2 i h hib
    ·subst h;exact h3
   ·rintro ⟨h1,h2⟩;exact ⟨⟨h1,fun i hi=>h2 i (by omega)⟩,h2 j (by omega) hb⟩
  ·rw[if_neg hb,ih];refine and_congr_right fun _=>⟨fun h i hi hib=>?_,fun h i hi=>h i (by omega)⟩;rcases Nat.lt_succ_iff_lt_or_eq.1 hi with h' | h'
   ·exact h i h' hib
   ·subst h';exact absurd hib hb
theorem tD {S:dU}(hS:cK S){x:Rw}(h0:0<x.2.2)(hf:x.2.2<2^S.on.length):jQ S x↔zV S.n (gW S x.2.2 S.may.length) (x.1,x.2.1):=by
 constructor
 ·intro h;refine ⟨h.lt,h.sub,fun p hp=>(tC _ _ _ _).2 ⟨CP hS.n8 p hp,fun i hi hib=>?_⟩⟩;rw[List.getD_eq_getElem?_getD,List.getElem?_eq_getElem hi];exact h.um i _ hib (List.getElem?_eq_getElem hi) p hp
 ·intro h;refine ⟨h.lt,h.sub,h0,hf,fun j b hj hb p hp=>?_⟩;have:=((tC _ _ _ _).1 (h.cD p hp)).2 j (List.getElem?_eq_some_iff.1 hb).1 hj;rw[List.getD_eq_getElem?_getD,hb] at this;exact this
theorem eD.um {S:dU}(hS:cK S){x:Rw}(h:eD S x):jQ S x:=(tD hS h.some (by rw[← hS.len];exact h.few)).2 h.cube.1
theorem jQ.less {S:dU}{m v o o':Nat}(h:jQ S (m,v,o))(h0:0<o')(hf:o'<2^S.on.length)(hs:∀ j,o'.testBit j=true→o.testBit j=true):jQ S (m,v,o'):=
 ⟨h.lt,h.sub,h0,hf,fun j b hj hb=>h.um j b (hs j hj) hb⟩
theorem CQ {S:dU}{R:List Rw}(hn:R.Nodup)(h:∀ x ∈ R,eD S x):R.length≤2^S.may.length*(2^S.n*2^S.n):=by
 have:=kB (a:=R) (b:=(List.range (2^S.n)).flatMap fun a=>(List.range (2^S.n)).flatMap fun b=>(List.range (2^S.may.length)).map fun c=>(a,b,c)) hn (fun x hx=>by
  have hx:=h x hx;exact List.mem_flatMap.2 ⟨x.1,List.mem_range.2 hx.cube.1.lt,List.mem_flatMap.2 ⟨x.2.1,List.mem_range.2 (sub_lt hx.cube.1.lt hx.cube.1.sub),List.mem_map.2 ⟨x.2.2,List.mem_range.2 hx.few,rfl⟩⟩⟩)
 refine Nat.le_trans this (Nat.le_of_eq ?_);simp[List.length_flatMap,List.map_const'];rw[← Nat.mul_assoc,Nat.mul_comm]
theorem ph (S:dU)(m v o:Nat)(k:Nat):(a8 S m v o (k+1)=tA (a8 S m v o k) k∧rV S (gF (a8 S m v o k).1 k) ((a8 S m v o k).2 &&&gF (a8 S m v o k).1 k) o=true)∨(a8 S m v o (k+1)=a8 S m v o k∧rV S (gF (a8 S m v o k).1 k) ((a8 S m v o k).2 &&&gF (a8 S m v o k).1 k) o=false):=by
 show ((if rV S (gF (a8 S m v o k).1 k) ((a8 S m v o k).2 &&&gF (a8 S m v o k).1 k) o then _ else _)=_∧_)∨_
 cases h:rV S (gF (a8 S m v o k).1 k) ((a8 S m v o k).2 &&&gF (a8 S m v o k).1 k) o with
 | true=>exact .inl ⟨by rw[if_pos rfl];rfl,rfl⟩
 | false=>exact .inr ⟨by rw[a8,h];rfl,rfl⟩
theorem CR {m v m' v' n:Nat}(hn:n≤8)(hm:m' &&&m=m')(hv:v'=v &&&m'):ck (ba m v n) (ba m' v' n):=fun p hp=>by
 rw[bA hn] at hp ⊢;refine ⟨hp.1,?_⟩;rw[hv,← hp.2,Nat.and_assoc,Nat.and_comm m m',hm]
theorem vh {S:dU}{m v o:Nat}(hs:v &&&m=v):∀ k,(a8 S m v o k).2 &&&(a8 S m v o k).1=(a8 S m v o k).2
 | 0=>hs
 | k+1=>by
  rcases ph S m v o k with ⟨h,_⟩ | ⟨h,_⟩
  ·rw[h];exact j3
  ·rw[h];exact vh hs k
theorem pj {S:dU}{m v o:Nat}(hs:v &&&m=v)(k:Nat):∀ d,(a8 S m v o (k+d)).1 &&&(a8 S m v o k).1=(a8 S m v o (k+d)).1∧(a8 S m v o (k+d)).2=(a8 S m v o k).2 &&&(a8 S m v o (k+d)).1
 | 0=>⟨Nat.and_self _,(vh hs k).symm⟩
 | d+1=>by
  obtain ⟨h1,h2⟩:=pj hs k d;rcases ph S m v o (k+d) with ⟨h,_⟩ | ⟨h,_⟩
  ·rw[← Nat.add_assoc,h];unfold tA gF;simp only;generalize a8 S m v o (k+d)=g at h1 h2;generalize a8 S m v o k=q at h1 h2;refine ⟨?_,?_⟩
   ·rw[Nat.and_assoc,Nat.and_comm _ q.1,← Nat.and_assoc,h1]
   ·rw[h2,Nat.and_assoc,← Nat.and_assoc g.1,Nat.and_self]
  ·rw[← Nat.add_assoc,h];exact ⟨h1,h2⟩
theorem CS {S:dU}(hS:cK S){m v o:Nat}(h:jQ S (m,v,o)){i:Nat}(hi:i<S.n)(hb:(a8 S m v o S.n).1.testBit i=true):¬ jQ S ((tA (a8 S m v o S.n) i).1,(tA (a8 S m v o S.n) i).2,o):=fun hin=>by
 have hn8:=hS.n8;have h2:2^S.n≤2^8:=Nat.pow_le_pow_right (by decide) hn8;have hm:=(h.ok hS).m;have hv:=(h.ok hS).v;have ho:=(h.ok hS).o;rcases ph S m v o i with ⟨hst,_⟩ | ⟨hst,hw⟩
 ·have hl:=(pj (S:=S) (o:=o) h.sub (i+1) (S.n - (i+1))).1;rw[show i+1+(S.n - (i+1))=S.n by omega] at hl;have:=congrArg (fun z=>z.testBit i) hl;simp only[Nat.testBit_and,hb,hst,Bool.true_and] at this;unfold tA at this;rw[qa (p5 hm hv i).1 (by omega)] at this;simp at this
 ·obtain ⟨h3,h4⟩:=pj (S:=S) (o:=o) h.sub i (S.n - i);rw[show i+(S.n - i)=S.n by omega] at h3 h4;have hg:=(p9 hS h i).1;rw[Bool.eq_false_iff] at hw;refine hw ((tz hS (mG hg.lt i) j3 ho).2 ⟨mG hg.lt i,j3,h.some,h.few,fun j b hj hjb=>?_⟩);refine ck.trans (CR hn8 ?_ ?_) (hin.um j b hj hjb)
  ·unfold tA gF;simp only;generalize a8 S m v o S.n=y at h3 h4;generalize a8 S m v o i=g at h3 h4;apply Nat.eq_of_testBit_eq;intro q;have:=congrArg (fun z=>z.testBit q) h3;simp only[Nat.testBit_and] at this ⊢;revert this
   cases y.1.testBit q <;> cases g.1.testBit q <;> simp
  ·unfold tA gF;simp only;generalize a8 S m v o S.n=y at h3 h4;generalize a8 S m v o i=g at h3 h4;rw[h4];apply Nat.eq_of_testBit_eq;intro q;have:=congrArg (fun z=>z.testBit q) h3;simp only[Nat.testBit_and] at this ⊢;revert this
   cases y.1.testBit q <;> cases g.1.testBit q <;> simp
theorem tE {S:dU}(hS:cK S){m v o:Nat}(h:jQ S (m,v,o)):eD S (nD S m v o):=by
 have hok:=(p_ hS h).1;obtain ⟨_,hsub⟩:=Bq hS (p9 hS h S.n).1;refine ⟨⟨(tD hS hok.some hok.few).1 hok,fun i hi hb hc=>?_⟩,rfl,hok.some,by rw[hS.len];exact hok.few⟩;have h1:jQ S ((tA (a8 S m v o S.n) i).1,(tA (a8 S m v o S.n) i).2,(nD S m v o).2.2):=(tD (x:=((tA (a8 S m v o S.n) i).1,(tA (a8 S m v o S.n) i).2,(nD S m v o).2.2)) hS hok.some hok.few).2 hc;exact CS hS h hi hb (h1.less h.some h.few hsub)
end Go.Dk
namespace Go.Proofs.YtpjihhgjbbihkaaGreatDoor
open Go.Dk
theorem CT {S:dU}(hS:cK S){L:List Rw}(hL:∀ x ∈ L,gK S.n S.on.length x)(hc:br S L=true):∀ x ∈ L,jQ S x:=fun x hx=>by
 have hr:=hL x hx;have h2:2^S.n≤2^8:=Nat.pow_le_pow_right (by decide) hS.n8;obtain ⟨h0,_,h3,h4⟩:=(eh (by have:=hr.m;omega) (by have:=hr.v;omega)).1 hr.right;refine ⟨by rw[Int.toNat_natCast] at h3;exact h3,h4,hr.some,hr.few,fun j b hj hb p hp=>?_⟩;have hjl:j<S.on.length:=by rw[← hS.len];exact (List.getElem?_eq_some_iff.1 hb).1
 exact ((gu hS).1 hc j _ b (List.getElem?_eq_getElem hjl) hb).2 p (fA.2 ⟨x,hx,hj,hp⟩)
theorem z6 {S:dU}(hS:cK S){L R:List Rw}(hR:∀ x,x ∈ R↔eD S x)(hL:∀ x ∈ L,gK S.n S.on.length x)(hc:br S L=true) :
  ∃ cs:List Nat,cs.length=L.length∧(∀ c ∈ cs,c<R.length)∧∀ row,oE S R S.on.length 0 row→∃ c ∈ cs,(c:Int) ∈ row:=by
 have hin:=CT hS hL hc;have hmem:∀ x ∈ L,nD S x.1 x.2.1 x.2.2 ∈ R:=fun x hx=>(hR _).2 (tE hS (hin x hx));refine ⟨L.map fun x=>R.idxOf (nD S x.1 x.2.1 x.2.2),List.length_map _,fun c hcm=>?_,fun row hrow=>?_⟩
 ·obtain ⟨x,hx,rfl⟩:=List.mem_map.1 hcm;exact List.idxOf_lt_length_iff.2 (hmem x hx)
 ·rcases hrow with ⟨o,a,p,ho,ha,hap,rfl⟩ | ⟨a,p,ha,_⟩
  ·have hol:o<S.may.length:=by rw[hS.len];exact ho
   obtain ⟨x,hx,h1,h2⟩:=fA.1 (((gu hS).1 hc o a _ ha (List.getElem?_eq_getElem hol)).1 p hap);have hlt:=List.idxOf_lt_length_iff.2 (hmem x hx);obtain ⟨h3,h4,h5⟩:=p_ hS (hin x hx);refine ⟨_,List.mem_map.2 ⟨x,hx,rfl⟩,List.mem_map.2 ⟨_,ke.2 ⟨hlt,nD S x.1 x.2.1 x.2.2,?_,h5 o h1,h4 p h2⟩,rfl⟩⟩;rw[List.getElem?_eq_getElem hlt,List.getElem_idxOf]
  ·have:=(List.getElem?_eq_some_iff.1 ha).1;omega
def bz (R:List Rw)(t:Nat→Bool):Nat→List Rw
 | 0=>[]
 | j+1=>match R[j]? with
  | some x=>if t j then bz R t j++[x] else bz R t j
  | none=>bz R t j
theorem mH {R:List Rw}{t:Nat→Bool}{x:Rw}:∀ {j},x ∈ bz R t j↔∃ c,c<j∧R[c]?=some x∧t c=true
 | 0=>by simp[bz]
 | j+1=>by
  have ih:=mH (R:=R) (t:=t) (x:=x) (j:=j);unfold bz
  cases h:R[j]? with
  | none=>
   simp only;rw[ih];constructor
   ·rintro ⟨c,h1,h2⟩;exact ⟨c,by omega,h2⟩
   ·rintro ⟨c,h1,h2,h3⟩;rcases Nat.lt_succ_iff_lt_or_eq.1 h1 with h4 | h4
    ·exact ⟨c,h4,h2,h3⟩
    ·subst h4;rw[h] at h2;cases h2
  | some y=>
   simp only;by_cases hb:t j=true
   ·rw[if_pos hb,List.mem_append,ih,List.mem_singleton];constructor
    ·rintro (⟨c,h1,h2⟩ | rfl)
     ·exact ⟨c,by omega,h2⟩
     ·exact ⟨j,by omega,h,hb⟩
    ·rintro ⟨c,h1,h2,h3⟩;rcases Nat.lt_succ_iff_lt_or_eq.1 h1 with h4 | h4
     ·exact .inl ⟨c,h4,h2,h3⟩
     ·subst h4;rw[h] at h2;injection h2 with h2;exact .inr h2.symm
   ·rw[if_neg hb,ih];constructor
    ·rintro ⟨c,h1,h2⟩;exact ⟨c,by omega,h2⟩
    ·rintro ⟨c,h1,h2,h3⟩;rcases Nat.lt_succ_iff_lt_or_eq.1 h1 with h4 | h4
     ·exact ⟨c,h4,h2,h3⟩
     ·subst h4;exact absurd h3 hb
theorem z7 {S:dU}(hS:cK S){R:List Rw}(hR:∀ x ∈ R,eD S x){t:Nat→Bool}(h:∀ row,oE S R S.on.length 0 row→∃ c:Nat,t c=true∧(c:Int) ∈ row):br S (bz R t R.length)=true:=by
 rw[gu hS];intro j a b ha hb;constructor
 ·intro p hp;obtain ⟨c,hc,hm⟩:=h _ (.inl ⟨j,a,p,(List.getElem?_eq_some_iff.1 ha).1,ha,hp,rfl⟩);obtain ⟨c',hm',he⟩:=List.mem_map.1 hm;obtain rfl:c'=c:=by omega
  obtain ⟨h1,x,h2,h3,h4⟩:=ke.1 hm';exact fA.2 ⟨x,mH.2 ⟨c',h1,h2,hc⟩,h3,h4⟩
 ·intro p hp;obtain ⟨x,hx,h1,h2⟩:=fA.1 hp;obtain ⟨c,_,h3,_⟩:=mH.1 hx;exact ((hR x (List.mem_of_getElem? h3)).um hS).um j b h1 hb p h2
end Go.Proofs.YtpjihhgjbbihkaaGreatDoor
namespace Go.Proofs.YtpjihhgjbbihkaaGreatDoor
open Go.Proofs.Tryz
open Go.Dk
set_option maxRecDepth 100000
attribute [local irreducible] IntKind.wrap
theorem ET {p:Value}{w:World}{kk:Value→World→Prop}(h:kk (.agg #[p]) w)(hp:∃ a,p=.pointer a):b7 prog 205 [(0,p)] w kk:=by
 obtain ⟨a,rfl⟩:=hp;exact bu (fun w=>by kernel_rfl) h
def Oz (gz g r:Nat)(sv:Value)(room:Int)(A:Ar):cC:=rS [an gz 205 #[(ah g)],bF g r sv room A]
theorem JX:enters prog 106=true:=by kernel_rfl
theorem NK (n:Int)(h0:0≤n)(hn:n≤20000)(w:World) :
  bt prog 106 [.int .i64 n] w fun v w'=>∃ gz g r,v=.tuple #[(ah gz),.int .i64 0]∧eX w w' (Oz gz g r (.slice none 0 0) n []):=by
 refine ar (N:=17) func106 JX rfl rfl rfl (by simp) ?_;have H:=Hp.aC w;refine aw (fun w'=>Hp w ab w' [] []) ⟨(),trivial,H⟩ ?_;clear H;rintro ⟨⟩ u w1 H;refine ak (γ:=Nat × Nat) (fun (g,_)=>[(4,(ah g)),(5,.int .i64 0)]) (fun (g,r) w'=>Hp w ab w' [bF g r (.slice none 0 0) n []] []) ?_ ?_
 ·refine aj (IS n h0 hn _) ?_;rintro _ w2 ⟨g,r,rfl,hn'⟩;replace H:=H.bD hn';exact ⟨(g,r),⟨rfl,rfl,trivial⟩,H⟩
 clear H;rintro ⟨g,r⟩ u w2 H;refine aw (fun w'=>Hp w ab w' [bF g r (.slice none 0 0) n []] []) ?_ ?_
 ·refine af rfl ?_;exact ⟨(),trivial,H⟩
 clear H;rintro ⟨⟩ u w3 H;refine ET ?_ ⟨_,rfl⟩;refine H.box 205 _ (cs:=#[(ah g)]) rfl ?_;clear H;intro gz w4 H;exact ⟨gz,g,r,rfl,(Hp.join (Ls:=[an gz 205 #[(ah g)],bF g r (.slice none 0 0) n []]) (L:=[]) H).out⟩
theorem wG (g:Nat)(w:World):(Instr.fieldAt 205 (ah g) 0).run prog w=.ok (ah g) w:=by kernel_rfl
theorem wH:cH prog 201=some false:=by kernel_rfl
theorem JY:enters prog 203=true:=by kernel_rfl
theorem c203 {gz g r:Nat}{sv:Value}{room:Int}{A:Ar}(id:Int)(hid:id<9223372036854775808)(w:World)(hz:(an gz 205 #[(ah g)]).ok w)(h:(bF g r sv room A).ok w) :
  bt prog 203 [(ah gz),.int .i64 id] w fun v w'=>v=.int .i64 (aR A id)∧aT w w':=by
 refine ar (N:=28) func203 JY rfl rfl rfl (by simp) ?_;have H:=Hp.aC w;by_cases h0:id=0
 ·subst h0
  iterate 4 refine ag rfl ?_
  exact ⟨rfl,H.keeps⟩
 ·by_cases h1:id=1
  ·subst h1
   iterate 3 refine af rfl ?_
   refine ag rfl ?_;exact ⟨rfl,H.keeps⟩
  ·iterate 3 refine af (beq_eq_false_iff_ne.2 h0) ?_
   refine af (beq_eq_false_iff_ne.2 h1) ?_;refine aa (wG _) ?_;refine aB (u:=(ah g)) wH ((aQ hz 0).trans rfl) ?_
   cases ht:jO A id with
   | false=>
    refine aj (D7 id hid ht _ h) ?_;rintro _ w2 ⟨rfl,hk⟩;refine af rfl ?_;refine ⟨?_,H.keeps.trans hk (fun _ _ h=>h)⟩;have hl:aR A id= -1:=by
     unfold aR;rw[if_neg (by omega)];unfold jO at ht;split
     ·rename_i h2;rw[decide_eq_true h2,Bool.true_and] at ht
      cases hs:slot A (id - 2).toNat with
      | none=>rfl
      | some n=>rw[hs] at ht;cases ht
     ·rfl
    rw[hl];rfl
   | true=>
    unfold jO at ht;rw[Bool.and_eq_true,decide_eq_true_eq] at ht;obtain ⟨n,hs⟩:=Option.isSome_iff_exists.1 ht.2;have hl:aR A id=(n.l:Int):=by
     unfold aR;rw[if_neg (by omega),if_pos ht.1,hs]
    have hc:=D8 (id - 2).toNat (by omega) n hs w h;rw[show (((id - 2).toNat:Nat):Int)+2=id by omega] at hc;refine aj hc ?_;rintro _ w2 ⟨rfl,hk⟩;refine ag rfl ?_;refine ⟨?_,H.keeps.trans hk (fun _ _ h=>h)⟩;rw[hl];rfl
end Go.Proofs.YtpjihhgjbbihkaaGreatDoor
namespace Go.Dk
def bX (A:Ar)(id l:Int):Int × Int:=if 2≤id then (match slot A (id - 2).toNat with | some n=>if (n.l:Int)=l then ((n.lo:Int),(n.hi:Int)) else (id,0) | none=>(id,0)) else (id,0)
end Go.Dk
namespace Go.Proofs.YtpjihhgjbbihkaaGreatDoor
open Go.Proofs.Tryz
open Go.Dk
set_option maxRecDepth 100000
attribute [local irreducible] IntKind.wrap
theorem JZ:enters prog 204=true:=by kernel_rfl
theorem LX {gz g r:Nat}{sv:Value}{room:Int}{A:Ar}(id l:Int)(hid:id<9223372036854775808)(w:World)(hz:(an gz 205 #[(ah g)]).ok w)(h:(bF g r sv room A).ok w) :
  bt prog 204 [(ah gz),.int .i64 id,.int .i64 l] w fun v w'=>v=.tuple #[.int .i64 (bX A id l).1,.int .i64 (bX A id l).2]∧aT w w':=by
 refine ar (N:=32) func204 JZ rfl rfl rfl (by simp) ?_;have H:=Hp.aC w;refine aa (wG _) ?_;refine aB (u:=(ah g)) wH ((aQ hz 0).trans rfl) ?_
 cases ht:jO A id with
 | false=>
  refine aj (D7 id hid ht _ h) ?_;rintro _ w2 ⟨rfl,hk⟩;have hl:bX A id l=(id,0):=by
   unfold bX;unfold jO at ht;split
   ·rename_i h2;rw[decide_eq_true h2,Bool.true_and] at ht
    cases hs:slot A (id - 2).toNat with
    | none=>rfl
    | some n=>rw[hs] at ht;cases ht
   ·rfl
  iterate 5 refine af rfl ?_
  refine ⟨?_,H.keeps.trans hk (fun _ _ h=>h)⟩;rw[hl];rfl
 | true=>
  unfold jO at ht;rw[Bool.and_eq_true,decide_eq_true_eq] at ht;obtain ⟨n,hs⟩:=Option.isSome_iff_exists.1 ht.2;have hc:=D8 (id - 2).toNat (by omega) n hs w h;rw[show (((id - 2).toNat:Nat):Int)+2=id by omega] at hc;refine aj hc ?_;rintro _ w2 ⟨rfl,hk⟩;by_cases hn:(n.l:Int)=l
  ·have hl:bX A id l=((n.lo:Int),(n.hi:Int)):=by unfold bX;rw[if_pos ht.1,hs];simp[hn]
   iterate 4 refine ag rfl ?_
   refine ag (beq_iff_eq.2 hn) ?_;refine ⟨?_,H.keeps.trans hk (fun _ _ h=>h)⟩;rw[hl];rfl
  ·have hl:bX A id l=(id,0):=by unfold bX;rw[if_pos ht.1,hs];simp[hn]
   iterate 4 refine ag rfl ?_
   refine af (beq_eq_false_iff_ne.2 hn) ?_;refine ⟨?_,H.keeps.trans hk (fun _ _ h=>h)⟩;rw[hl];rfl
end Go.Proofs.YtpjihhgjbbihkaaGreatDoor
namespace Go.Dk
def mT (room:Int)(A:Ar)(l lo hi:Int):Ar × Int × Int:=if hi=0 then (A,lo,0) else vL room A l lo hi
end Go.Dk
namespace Go.Proofs.YtpjihhgjbbihkaaGreatDoor
open Go.Proofs.Tryz
open Go.Dk
set_option maxRecDepth 100000
attribute [local irreducible] IntKind.wrap
theorem J0:enters prog 205=true:=by kernel_rfl
theorem J1 {gz g r:Nat}{sv:Value}{room:Int}{A:Ar}(l lo hi:Int)(hl:l<9223372036854775808)(hlo:lo<9223372036854775808)(hhi:hi<9223372036854775808)(hok:uv room A)(w:World)(hz:(an gz 205 #[(ah g)]).ok w)(h:(bF g r sv room A).ok w) :
  bt prog 205 [(ah gz),.int .i64 l,.int .i64 lo,.int .i64 hi] w fun v w'=>∃ sv',v=.tuple #[.int .i64 (mT room A l lo hi).2.1,.int .i64 (mT room A l lo hi).2.2]∧(hi=0∧aT w w'∨hi≠0∧jA w w' (bF g r sv room A) (bF g r sv' room (mT room A l lo hi).1)):=by
 refine ar (N:=23) func205 J0 rfl rfl rfl (by simp) ?_;have H:=Hp.aC w;by_cases h0:hi=0
 ·subst h0;refine ag rfl ?_;exact ⟨sv,rfl,.inl ⟨rfl,H.keeps⟩⟩
 ·refine af (beq_eq_false_iff_ne.2 h0) ?_;refine aa (wG _) ?_;refine aB (u:=(ah g)) wH ((aQ hz 0).trans rfl) ?_;refine aj (c212 l lo hi hl hlo hhi hok _ h) ?_;rintro _ w2 ⟨sv',rfl,ht⟩;have e:mT room A l lo hi=vL room A l lo hi:=if_neg h0;rw[e];exact ⟨sv',rfl,.inr ⟨h0,ht⟩⟩
end Go.Proofs.YtpjihhgjbbihkaaGreatDoor
namespace Go.Proofs.YtpjihhgjbbihkaaGreatDoor
open Go.Dk
set_option maxRecDepth 100000
def jL (U:Nat→Bool)(l:Int):Nat:=(List.range 24).countP fun u=>U u&&decide (l≤(u:Int))
theorem kH (U:Nat→Bool){l m:Int}(h:l≤m):jL U m≤jL U l:=by
 unfold jL;refine List.countP_mono_left fun u _ hu=>?_;rw[Bool.and_eq_true,decide_eq_true_eq] at hu ⊢;exact ⟨hu.1,by omega⟩
theorem tF {α:Type}{p q r:α→Bool}(h:∀ x,q x=true→r x=true→False)(hq:∀ x,q x=true→p x=true)(hr:∀ x,r x=true→p x=true) :
  ∀ l:List α,l.countP q+l.countP r≤l.countP p
 | []=>Nat.le_refl _
 | x::l=>by
  have ih:=tF h hq hr l;rw[List.countP_cons,List.countP_cons,List.countP_cons]
  cases h1:q x with
  | true=>
   have h2:r x=false:=by cases h2:r x with | true=>exact (h x h1 h2).elim | false=>rfl
   rw[h2,hq x h1];simp;omega
  | false=>
   cases h2:r x with
   | true=>rw[hr x h2];simp;omega
   | false=>simp;omega
theorem tG (U:Nat→Bool){l:Nat}(hl:l<24)(hU:U l=true){m:Int}(h:(l:Int)<m):jL U m+1≤jL U (l:Int):=by
 have h1:1≤(List.range 24).countP fun u=>decide (u=l):=by
  refine List.countP_pos_iff.2 ⟨l,List.mem_range.2 hl,by simp⟩
 have:=tF (p:=fun u:Nat=>U u&&decide ((l:Int)≤(u:Int))) (q:=fun u:Nat=>U u&&decide (m≤(u:Int))) (r:=fun u:Nat=>decide (u=l))
  (fun x hq hr=>by simp at hq hr;subst hr;omega) (fun x hq=>by simp at hq ⊢;exact ⟨hq.1,by omega⟩) (fun x hr=>by simp at hr ⊢;subst hr;exact ⟨hU,Nat.le_refl _⟩) (List.range 24)
 unfold jL;omega
structure rZ (U:Nat→Bool) (room:Int) (A:Ar):Prop where
 ok:uv room A
 full:bS A=A.length
 used:∀ i d,slot A i=some d→U d.l=true
structure oF (U:Nat→Bool) (room:Int) (A A':Ar) (c:Nat) (e:Int):Prop where
 ext:Ext A A'
 arn:rZ U room A'
 len:A'.length≤A.length+c
 err:e=0∨e=5∧room<(A.length:Int)+c
theorem oF.refl {U:Nat→Bool}{room:Int}{A:Ar}(h:rZ U room A)(c:Nat):oF U room A A c 0:=⟨Ext.refl A,h,Nat.le_add_right _ _,.inl rfl⟩
theorem oF.trans {U:Nat→Bool}{room:Int}{A B C:Ar}{c d:Nat}{e:Int}(h:oF U room A B c 0)(k:oF U room B C d e):oF U room A C (c+d) e:=
 ⟨h.ext.trans k.ext,k.arn,by have:=h.len;have:=k.len;omega,k.err.imp id fun ⟨h1,h2⟩=>⟨h1,by have:=h.len;omega⟩⟩
theorem oF.mono {U:Nat→Bool}{room:Int}{A B:Ar}{c d:Nat}{e:Int}(h:oF U room A B c e)(hcd:c≤d):oF U room A B d e:=
 ⟨h.ext,h.arn,by have:=h.len;omega,h.err.imp id fun ⟨h1,h2⟩=>⟨h1,by omega⟩⟩
def At (A:Ar)(l:Int)(id:Int):Prop:=0≤l∧l≤aR A id
theorem At.ext {A B:Ar}{l id:Int}(h:At A l id)(he:Ext A B):At B l id:=⟨h.1,by rw[he.lvl (by have:=h.1;have:=h.2;omega)];exact h.2⟩
theorem At.mono {A:Ar}{l m id:Int}(h:At A l id)(h0:0≤m)(hm:m≤l):At A m id:=⟨h0,Int.le_trans hm h.2⟩
theorem At.end {A:Ar}{l id:Int}(h:id=0∨id=1)(h0:0≤l)(hl:l≤24):At A l id:=⟨h0,by rw[j1 h];exact hl⟩
theorem yy {U:Nat→Bool}{room:Int}{A:Ar}(h:rZ U room A){l lo hi:Int}(h0:0≤l)(hl:l<24)(hU:U l.toNat=true)(h1:l<aR A lo)(h2:l<aR A hi) :
  oF U room A (vL room A l lo hi).1 1 (vL room A l lo hi).2.2∧((vL room A l lo hi).2.2=0→At (vL room A l lo hi).1 l (vL room A l lo hi).2.1):=by
 have hok:=LB h.ok l lo hi;have e0:((l.toNat:Nat):Int)=l:=Int.toNat_of_nonneg h0;unfold vL at hok ⊢;rw[if_neg (by omega)] at hok ⊢
 cases hf:ix A ⟨l.toNat,lo.toNat,hi.toNat⟩ with
 | some i=>
  refine ⟨oF.refl h 1,fun _=>⟨h0,?_⟩⟩;have hs:=kp hf;have:aR A (((i+2:Nat):Int))=l:=by
   have:=iZ hs;rw[show ((i+2:Nat):Int)=(i:Int)+2 by omega,this];exact e0
  show l≤aR A (((i+2:Nat):Int));omega
 | none=>
  rw[hf] at hok;simp only at hok ⊢;by_cases hr:room≤(kY A:Int)
  ·rw[if_pos hr];refine ⟨⟨Ext.refl A,h,Nat.le_add_right _ _,.inr ⟨rfl,?_⟩⟩,fun h=>by cases h⟩;rw[Cq h.full] at hr;omega
  ·rw[if_neg hr] at hok ⊢;refine ⟨⟨Gt,⟨hok,Er h.full,?_⟩,?_,.inl rfl⟩,fun _=>⟨h0,?_⟩⟩
   ·intro i d hd;rw[fy] at hd;split at hd
    ·injection hd with hd;subst hd;exact hU
    ·exact h.used i d hd
   ·show (iQ A _).length≤_;rw[nk];split <;> omega
   ·show l≤aR (iQ A _) (((bS A+2:Nat):Int));have:slot (iQ A ⟨l.toNat,lo.toNat,hi.toNat⟩) (bS A)=some ⟨l.toNat,lo.toNat,hi.toNat⟩:=by rw[fy,if_pos rfl]
    have:=iZ this;rw[show ((bS A+2:Nat):Int)=(bS A:Int)+2 by omega,this];show l≤((l.toNat:Nat):Int);omega
theorem EU {U:Nat→Bool}{room:Int}{A:Ar}(h:rZ U room A){l lo hi:Int}(h0:0≤l)(hl:l<24)(hU:U l.toNat=true)(h1:l<aR A lo)(h2:l<aR A hi) :
  oF U room A (mT room A l lo hi).1 1 (mT room A l lo hi).2.2∧((mT room A l lo hi).2.2=0→At (mT room A l lo hi).1 l (mT room A l lo hi).2.1):=by
 unfold mT;split
 ·exact ⟨oF.refl h 1,fun _=>⟨h0,by show l≤aR A lo;omega⟩⟩
 ·exact yy h h0 hl hU h1 h2
theorem fG {A:Ar}(h:xG A){id l:Int}(h0:0≤l)(hl:l<24)(hid:l≤aR A id):At A (l+1) (bX A id l).1∧At A (l+1) (bX A id l).2:=by
 rcases i_ (A:=A) (id:=id) (by omega) with rfl | rfl | ⟨i,n,rfl,hs,hn⟩
 ·exact ⟨At.end (.inl rfl) (by omega) (by omega),At.end (.inl rfl) (by omega) (by omega)⟩
 ·exact ⟨At.end (.inr rfl) (by omega) (by omega),At.end (.inl rfl) (by omega) (by omega)⟩
 ·have hlev:=h.lev i n hs;have e:bX A ((i:Int)+2) l=if (n.l:Int)=l then ((n.lo:Int),(n.hi:Int)) else ((i:Int)+2,0):=by
   unfold bX;rw[if_pos (by omega),show ((i:Int)+2 - 2).toNat=i by omega,hs]
  rw[e];split
  ·exact ⟨⟨by omega,by show l+1≤aR A (n.lo:Int);omega⟩,⟨by omega,by show l+1≤aR A (n.hi:Int);omega⟩⟩
  ·exact ⟨⟨by omega,by show l+1≤aR A ((i:Int)+2);omega⟩,At.end (.inl rfl) (by omega) (by omega)⟩
theorem nF {U:Nat→Bool}{room:Int}{A:Ar}(h:rZ U room A){id:Int}(h0:0≤aR A id)(h1:id≠0)(h2:id≠1):aR A id<24∧U (aR A id).toNat=true:=by
 rcases i_ h0 with rfl | rfl | ⟨i,n,rfl,hs,hn⟩
 ·exact (h1 rfl).elim
 ·exact (h2 rfl).elim
 ·rw[hn];exact ⟨by have:=h.ok.inv.top i n hs;omega,by rw[Int.toNat_natCast];exact h.used i n hs⟩
theorem gX {room:Int}{A:Ar}(h:uv room A){l id:Int}(ha:At A l id):0≤id∧id<20002:=by
 have h0:0≤aR A id:=by have:=ha.1;have:=ha.2;omega
 have:=zq h0;have:=ig h0;have:=h.len;have:=h.room;omega
end Go.Proofs.YtpjihhgjbbihkaaGreatDoor
namespace Go.Dk
set_option maxRecDepth 100000
def GU (n:Nat)(x:Nat × Nat):Nat:=mkSet (fun p=>p &&&x.1==x.2) (2^n)
def J2 (n:Nat):List (Nat × Nat):=(List.range (2^n)).flatMap fun m=>((List.range (2^n)).filter fun v=>v &&&m==v).map fun v=>(m,v)
def z8 (n:Nat):List (Nat × List Nat):=(J2 n).map fun x=>(GU n x,((List.range n).filter fun i=>x.1.testBit i).map fun i=>GU n (tA x i))
def M6 (s:Nat)(t:Nat × List Nat):Bool:=(t.1 &&&s==t.1)&&t.2.all fun y=> !(y &&&s==y)
def z_ (T:List (Nat × List Nat))(k:Nat):Bool:=(List.range k).all fun s=>decide ((T.filter (M6 s)).length≤6)
theorem NL:z_ (z8 0) 2=true:=by kernel_rfl
theorem NM:z_ (z8 1) 4=true:=by kernel_rfl
theorem NN:z_ (z8 2) 16=true:=by kernel_rfl
def LY:List (Nat × List Nat):=[(255,[]),(85,[255]),(170,[255]),(51,[255]),(204,[255]),(17,[51,85]),(34,[51,170]),(68,[204,85]),(136,[204,170]),(15,[255]),(240,[255]),(5,[15,85]),(10,[15,170]),(80,[240,85]),(160,[240,170]),(3,[15,51]),(12,[15,204]),(48,[240,51]),(192,[240,204]),(1,[3,5,17]),(2,[3,10,34]),(4,[12,5,68]),(8,[12,10,136]),(16,[48,80,17]),(32,[48,160,34]),(64,[192,80,68]),(128,[192,160,136])]
theorem GV:z8 3=LY:=by kernel_rfl
theorem LZ:z_ LY 256=true:=by kernel_rfl
theorem NO:z_ (z8 3) 256=true:=by rw[GV];exact LZ
theorem GW {n:Nat}(hn:n≤3):z_ (z8 n) (2^2^n)=true:=by
 rcases (by omega:n=0∨n=1∨n=2∨n=3) with rfl | rfl | rfl | rfl
 ·exact NL
 ·exact NM
 ·exact NN
 ·exact NO
theorem yz {a b:Nat}:a &&&b=a↔ck a b:=by
 constructor
 ·intro h p hp;rw[← h,Nat.testBit_and,Bool.and_eq_true] at hp;exact hp.2
 ·intro h;refine Nat.eq_of_testBit_eq fun p=>?_;rw[Nat.testBit_and]
  cases hp:a.testBit p with
  | false=>rfl
  | true=>rw[h p hp];rfl
theorem EV {n:Nat}(hn:n≤8)(x:Nat × Nat):GU n x=ba x.1 x.2 n:=by
 refine Nat.eq_of_testBit_eq fun p=>?_;unfold GU;rw[cT,Bool.eq_iff_iff,bA hn];simp
theorem J3 {n s:Nat}(hn:n≤8){x:Nat × Nat}(h:nE n s x):M6 s (GU n x,((List.range n).filter fun i=>x.1.testBit i).map fun i=>GU n (tA x i))=true:=by
 unfold M6;rw[Bool.and_eq_true,beq_iff_eq,List.all_eq_true];refine ⟨?_,fun y hy=>?_⟩
 ·rw[yz];show ck (GU n x) s;rw[EV hn];exact h.1.cD
 ·obtain ⟨i,hi,rfl⟩:=List.mem_map.1 hy;rw[List.mem_filter,List.mem_range] at hi;rw[Bool.not_eq_true',beq_eq_false_iff_ne];intro e;rw[yz,EV hn] at e;exact h.2 i hi.1 hi.2 ⟨mG h.1.lt i,j3,e⟩
theorem EW {n s:Nat}{x:Nat × Nat}(h:zV n s x):x ∈ J2 n:=by
 refine List.mem_flatMap.2 ⟨x.1,List.mem_range.2 h.lt,List.mem_map.2 ⟨x.2,List.mem_filter.2 ⟨List.mem_range.2 (sub_lt h.lt h.sub),by rw[beq_iff_eq];exact h.sub⟩,rfl⟩⟩
theorem kI {α β:Type}(f:α→β)(p:β→Bool):∀ l:List α,((l.map f).filter p).length=(l.filter fun a=>p (f a)).length
 | []=>rfl
 | a::l=>by
  rw[List.map_cons,List.filter_cons,List.filter_cons];split
  ·rw[List.length_cons,List.length_cons,kI f p l]
  ·exact kI f p l
def J4 (n s:Nat):List (Nat × Nat):=(J2 n).filter fun x=>M6 s (GU n x,((List.range n).filter fun i=>x.1.testBit i).map fun i=>GU n (tA x i))
theorem EX {n s:Nat}(hn:n≤8){x:Nat × Nat}(h:nE n s x):x ∈ J4 n s:=List.mem_filter.2 ⟨EW h.1,J3 hn h⟩
theorem tH {n s:Nat}(hn:n≤3)(hs:ck s (bn n)):(J4 n s).length≤6:=by
 have h:=GW hn;unfold z_ at h;rw[List.all_eq_true] at h;have hlt:s<2^2^n:=by
  refine Nat.lt_pow_two_of_testBit _ fun p hp=>?_
  cases hb:s.testBit p with
  | false=>rfl
  | true=>
   have:=hs p hb;rw[gr (by omega),decide_eq_true_eq] at this;omega
 have:=h s (List.mem_range.2 hlt);rw[decide_eq_true_eq] at this;unfold z8 at this;rw[kI] at this;exact this
theorem Aa {S:dU}(hn:S.n≤3)(hk:S.may.length≤2){R:List Rw}(hR:R.Nodup)(h:∀ x ∈ R,eD S x):R.length≤18:=by
 have hl:=kB (a:=R) (b:=[1,2,3].flatMap fun o=>(J4 S.n (gW S o S.may.length)).map fun c=>(c.1,c.2,o)) hR (fun x hx=>by
  have hx:=h x hx;have h1:=hx.some;have h2:x.2.2<4:=Nat.lt_of_lt_of_le hx.few (show 2^S.may.length≤2^2 from Nat.pow_le_pow_right (by decide) hk);refine List.mem_flatMap.2 ⟨x.2.2,?_,List.mem_map.2 ⟨(x.1,x.2.1),EX (by omega) hx.cube,rfl⟩⟩;rcases (by omega:x.2.2=1∨x.2.2=2∨x.2.2=3) with h | h | h <;> rw[h] <;> simp)
 have h1:=tH hn (kF S 1 S.may.length);have h2:=tH hn (kF S 2 S.may.length);have h3:=tH hn (kF S 3 S.may.length);simp only[List.flatMap_cons,List.flatMap_nil,List.length_append,List.length_map,List.length_nil] at hl;omega
end Go.Dk
namespace Go.Proofs.YtpjihhgjbbihkaaGreatDoor
open Go.Proofs.Tryz
open Go.Dk
set_option maxRecDepth 100000
attribute [local irreducible] IntKind.wrap
def mU (a b:Int):Array Value:=#[.int .i64 a,.int .i64 b]
def k2 (a b:Int):Value:=.agg (mU a b)
theorem EY:cH prog 247=some true:=by kernel_rfl
theorem wI:bB prog 247=some 2:=by kernel_rfl
theorem wJ:eH prog 247=some (k2 0 0):=by kernel_rfl
theorem EZ {a b a' b':Int}:k2 a b=k2 a' b'↔a=a'∧b=b':=by unfold k2 mU;simp
theorem CU (a b a' b':Int)(w:World):(Op.equal 247 (k2 a b) (k2 a' b')).run prog w=.ok (a==a'&&b==b') w:=by
 have hr:∀ d',(Op.equalIn (d'+2) 247 (k2 a b) (k2 a' b')).run prog w=.ok (a==a'&&b==b') w:=by
  intro d';unfold k2 mU;rw[Op.equalIn];have i0:=dE underlying3 d' a a';have i1:=dE underlying3 d' b b';have p0:∀ (x y:Int) w,(Go.part 3 #[.int .i64 x,.int .i64 y] 0).run prog w=.ok (.int .i64 x) w:=fun x y w=>gg aE rfl w;have p1:∀ (x y:Int) w,(Go.part 3 #[.int .i64 x,.int .i64 y] 1).run prog w=.ok (.int .i64 y) w:=fun x y w=>gg aE rfl w;generalize (a==a')=b0 at *;generalize (b==b')=b1 at *;simp only[Sem.run_bind,run_underlying underlying247,Result.andThen_ok,Go.Dk.run_sizeOf a_]
  cases b0 <;> cases b1 <;> simp[Std.Legacy.Range.forIn_eq_forIn_range',List.range',p0,p1,i0,i1,Std.Legacy.Range.size]
 exact hr 9998
def L3 (v:Value):Prop:=∃ a b,v=k2 a b
theorem E0 (a b:Int)(em:Bool)(w:World):(Instr.checkKey em 10000 247 (k2 a b)).run prog w=.ok () w:=by kernel_rfl
theorem vi (w:World)(a b:Int):∀ (es:List MapEntry) (i:Nat),(∀ e ∈ es,L3 e.key)→
  ((Instr.findAsking 247 (k2 a b) es i).run prog w=.ok none w∧∀ e ∈ es,e.key≠k2 a b)∨∃ j e,(Instr.findAsking 247 (k2 a b) es i).run prog w=.ok (some (i+j,e.val)) w∧es[j]?=some e∧e.key=k2 a b
 | [],i,_=>.inl ⟨by simp[Instr.findAsking],by simp⟩
 | e::es,i,h=>by
  obtain ⟨a',b',he⟩:=h e (.head _);have hq:=CU a b a' b' w;by_cases hk:a=a'∧b=b'
  ·obtain ⟨rfl,rfl⟩:=hk;exact .inr ⟨0,e,by simp[Instr.findAsking,he,hq],rfl,he⟩
  ·have hf:(a==a'&&b==b')=false:=by
    rw[Bool.eq_false_iff];intro hh;simp at hh;exact hk hh
   rw[hf] at hq;have hne:e.key≠k2 a b:=fun hh=>hk (by rw[he,EZ] at hh;exact ⟨hh.1.symm,hh.2.symm⟩);rcases vi w a b es (i+1) (fun x hx=>h x (.tail _ hx)) with ⟨h1,h2⟩ | ⟨j,e',h1,h2,h3⟩
   ·refine .inl ⟨by simp[Instr.findAsking,he,hq,h1],fun x hx=>?_⟩;rcases List.mem_cons.1 hx with rfl | hx
    ·exact hne
    ·exact h2 x hx
   ·exact .inr ⟨j+1,e',by simp[Instr.findAsking,he,hq,h1];omega,by simpa using h2,h3⟩
theorem L4:KL prog 247 L3 where
 check:=by rintro w em _ ⟨a,b,rfl⟩;exact E0 a b em w
 find:=by
  rintro w _ ⟨a,b,rfl⟩ es he
  cases es with
  | nil=>exact .inl ⟨by simp[Instr.findKey,run_underlying underlying247,Instr.findNow],by simp⟩
  | cons e es=>
   have hn:∀ n t,Instr.findNow (.array n t) (k2 a b) (e::es) 0=none:=fun n t=>rfl;have:=vi w a b (e::es) 0 he;simp only[Nat.zero_add] at this;simp only[Instr.findKey,Sem.run_bind,run_underlying underlying247,Result.andThen_ok,hn];exact this
 stays:=by
  rintro w _ ⟨a,b,rfl⟩;have:Instr.sameBits 10000 (k2 a b) (k2 a b)=true:=by
   show (_&&_)=true;simp[Instr.sameBits,mU]
  simp[Instr.keyThatStays,this]
abbrev I2:=Int × Int
def pk (x:I2):Value:=k2 x.1 x.2
theorem GX (x y:I2)(h:pk x=pk y):x=y:=by
 obtain ⟨h1,h2⟩:=EZ.1 h;obtain ⟨a,b⟩:=x;obtain ⟨a',b'⟩:=y;simp only at h1 h2;rw[h1,h2]
theorem NP:kQ prog 249 247 3 pk (fun k:Int=>Value.int .i64 k) (.int .i64 0):=⟨underlying249,L4.mono fun _ ⟨x,h⟩=>⟨_,_,h⟩,GX,AX⟩
def eL (A:Ar)(l:List (I2 × Int)):Prop:=∀ f g id,bR l (f,g)=some id→(0≤aR A f∧0≤aR A g)∧At A (min (aR A f) (aR A g)) id
theorem eL.nil (A:Ar):eL A []:=fun f g id hh=>by simp[bR] at hh
theorem eL.ext {A A':Ar}{l:List (I2 × Int)}(hx:Ext A A')(h:eL A l):eL A' l:=fun f g id hh=>by
 obtain ⟨⟨h1,h2⟩,h3⟩:=h f g id hh;rw[hx.lvl h1,hx.lvl h2];exact ⟨⟨h1,h2⟩,h3.ext hx⟩
theorem eL.put {A:Ar}{l:List (I2 × Int)}(h:eL A l){f g id:Int}(h1:0≤aR A f)(h2:0≤aR A g)(h3:At A (min (aR A f) (aR A g)) id):eL A (dS l (f,g) id):=fun f' g' id' hh=>by
 rw[e8] at hh;split at hh
 ·rename_i he;injection he with e1 e2;subst e1;subst e2;injection hh with hh;subst hh;exact ⟨⟨h1,h2⟩,h3⟩
 ·exact h f' g' id' hh
theorem GY {a b m:Int}{ty:TypeId}{cst:Array Bool}{w:World}{kk:Value→World→Prop}(hm:min a b=m)(h:kk (.int .i64 m) w):bU prog .min #[3,3] ty cst [.int .i64 a,.int .i64 b] w kk:=by
 unfold bU;refine ⟨_,w,?_,h⟩;show (do pure (.value (← Builtin.min_ #[3,3] ty #[.int .i64 a,.int .i64 b])):Sem Next).run prog w=_;simp[Builtin.min_,Builtin.min2];rw[← hm];omega
theorem ot (g:Nat)(w:World):(Instr.fieldAt 251 (ah g) 0).run prog w=.ok (ah g) w:=by kernel_rfl
theorem Bu (g:Nat)(w:World):(Instr.fieldAt 251 (ah g) 1).run prog w=.ok (.pointer (some ⟨g,1,none⟩)) w:=by kernel_rfl
theorem GZ (g:Nat)(w:World):(Instr.fieldAt 251 (ah g) 2).run prog w=.ok (.pointer (some ⟨g,2,none⟩)) w:=by kernel_rfl
theorem wK (g:Nat)(w:World):(Instr.fieldAt 251 (ah g) 3).run prog w=.ok (.pointer (some ⟨g,3,none⟩)) w:=by kernel_rfl
theorem E1:cH prog 244=some false:=by kernel_rfl
theorem J5:cH prog 245=some false:=by kernel_rfl
theorem Ab:cH prog 249=some false:=by kernel_rfl
theorem iJ:cH prog 165=some false:=by kernel_rfl
def qv (k:Int):Value:=.int .i64 k
theorem E2:kQ prog 249 247 3 pk qv (.int .i64 0):=NP
theorem lZ {a b:Int}{w:World}{kk:Value→World→Prop}(h:kk (k2 a b) w):b7 prog 247 [(0,.int .i64 a),(1,.int .i64 b)] w kk:=bu (fun w=>by kernel_rfl) h
def pn (n:Nat):Value:=.func (.func n) #[] #[]
def dR (g r rm:Nat)(sv:Value)(room:Int)(A:Ar)(D:List (I2 × Int)):cC:=rS [bF g r sv room A,aP pk qv rm D]
def dM (gz gd g fe hi rm:Nat):List cC:=[an gz 205 #[(ah g)],an gd 251 #[(ah gz),pn fe,pn hi,.map (some rm)]]
structure oG (w:World) (gz gd g r rm fe hi:Nat) (sv:Value) (room:Int) (A:Ar) (D:List (I2 × Int)):Prop where
 head:∀ s ∈ dM gz gd g fe hi rm,s.ok w
 lt:∀ s ∈ dM gz gd g fe hi rm,∀ x,s.foot x→x<w.heap.size
 ok:(dR g r rm sv room A D).ok w
 dis:∀ s ∈ dM gz gd g fe hi rm,∀ x,s.foot x→¬ (dR g r rm sv room A D).foot x
section
variable {w0 w:World} {F:Nat→Prop} {L M:List cC} {gz gd g r rm fe hi:Nat} {sv:Value} {room:Int} {A:Ar} {D:List (I2 × Int)} {U:Nat→Bool}
theorem oG.start (h:oG w gz gd g r rm fe hi sv room A D):Hp w (dR g r rm sv room A D).foot w [bF g r sv room A,aP pk qv rm D] (dM gz gd g fe hi rm):=
 (Hp.ry (M:=dM gz gd g fe hi rm) h.ok (fun x ⟨q,hq,hx⟩=>h.ok.2.1 q hq x hx) h.head h.lt h.dis).split
theorem qb (H:Hp w0 F w (dR g r rm sv room A D::L) (dM gz gd g fe hi rm)):oG w gz gd g r rm fe hi sv room A D:=
 ⟨H.rok,H.rlt,H.get 0 rfl,fun s hs x hx hx'=>H.rdis s hs _ (.head _) x hx hx'⟩
theorem iK (H:Hp w0 F w (bF g r sv room A::aP pk qv rm D::L) M):Hp w0 F w (dR g r rm sv room A D::L) M:=
 Hp.join (Ls:=[bF g r sv room A,aP pk qv rm D]) H
def iL (w:World)(g r rm:Nat)(U:Nat→Bool)(room:Int)(sv:Value)(A:Ar)(D:List (I2 × Int))(l:Int)(c:Nat)(X:Int→Prop)(v:Value)(w':World):Prop:=
 ∃ A' sv' D' id e,v=.tuple #[.int .i64 id,.int .i64 e]∧(oF U room A A' c e∧(e=0→At A' l id∧X id)∧eL A' D')∧jA w w' (dR g r rm sv room A D) (dR g r rm sv' room A' D')
end
theorem J6:enters prog 184=true:=by kernel_rfl
set_option maxHeartbeats 4000000 in
theorem q3 {w:World}{gz gd g r rm fe hi:Nat}{sv:Value}{room:Int}{A:Ar}{D:List (I2 × Int)}{U:Nat→Bool}{f p l:Int}{id0:Int}{b0:Bool}{cl ch:Nat}{X:Int→Prop}(hA:rZ U room A)(hD:eL A D)(hf:0≤aR A f)(hp:0≤aR A p)(hl:min (aR A f) (aR A p)=l)(hit:oG w gz gd g r rm fe hi sv room A D)(he:∀ w,bt prog fe [.int .i64 f,.int .i64 p] w fun v w'=>v=.tuple #[.int .i64 id0,.bool b0]∧aT w w')(h1:b0=true→At A l id0∧X id0)(hX:b0=false→∀ id,X id)(h2:b0=false→l<24∧U l.toNat=true)(hlow:b0=false→∀ sv1 w1,oG w1 gz gd g r rm fe hi sv1 room A D→bt prog 184 [(ah gd),.int .i64 (bX A f l).1,.int .i64 (bX A p l).1] w1 (iL w1 g r rm U room sv1 A D (l+1) cl fun _=>True))(hhigh:b0=false→∀ A1 D1 sv1 w1,oF U room A A1 cl 0→eL A1 D1→oG w1 gz gd g r rm fe hi sv1 room A1 D1→bt prog hi [(ah gd),k2 (bX A f l).1 (bX A f l).2,k2 (bX A p l).1 (bX A p l).2] w1 (iL w1 g r rm U room sv1 A1 D1 (l+1) ch fun _=>True)) :
  bt prog 184 [(ah gd),.int .i64 f,.int .i64 p] w (iL w g r rm U room sv A D l (if b0 then 0 else cl+ch+1) X):=by
 have hfs:=gX hA.ok ⟨Int.le_refl 0,hf⟩;have hps:=gX hA.ok ⟨Int.le_refl 0,hp⟩;have hl0:0≤l:=by omega
 refine ar (N:=130) func184 J6 rfl rfl rfl (by simp) ?_;have H:=hit.start;refine aw (fun w'=>Hp w (dR g r rm sv room A D).foot w' [bF g r sv room A,aP pk qv rm D] (dM gz gd g fe hi rm)) ⟨(),trivial,H⟩ ?_;clear H;rintro ⟨⟩ u w1 H
 cases b0 with
 | true=>
  refine aa (Bu _) ?_;refine aB E1 ((aQ (H.ro 1 rfl) 1).trans rfl) ?_;refine aj (he _) ?_;rintro _ w2 ⟨rfl,hk⟩;refine ag rfl ?_;exact ⟨A,sv,D,id0,0,rfl,⟨oF.refl hA _,fun _=>h1 rfl,hD⟩,(iK (H.same hk)).bc⟩
 | false=>
 replace h2:=h2 rfl;replace hX:=hX rfl;replace hlow:=hlow rfl;replace hhigh:=hhigh rfl;clear h1;refine aw (fun w'=>Hp w (dR g r rm sv room A D).foot w' [bF g r sv room A,aP pk qv rm D] (dM gz gd g fe hi rm)) ?_ ?_
 ·refine aa (Bu _) ?_;refine aB E1 ((aQ (H.ro 1 rfl) 1).trans rfl) ?_;refine aj (he _) ?_;rintro _ w2 ⟨rfl,hk⟩;refine af rfl ?_;exact ⟨(),trivial,H.same hk⟩
 clear H;rintro ⟨⟩ u w3 H
 cases hg:bR D (f,p) with
 | some id=>
  refine aa (wK _) ?_;refine aB Ab ((aQ (H.ro 1 rfl) 3).trans rfl) ?_;refine lZ ?_;refine k9 (H.get 1 rfl) E2 (f,p) (fun b hb=>?_) (fun hb=>absurd (hg.symm.trans hb) (by simp));refine ag rfl ?_;exact ⟨A,sv,D,b,0,rfl,⟨oF.refl hA _,fun _=>⟨hl ▸ (hD f p b hb).2,hX b⟩,hD⟩,(iK H).bc⟩
 | none=>
  refine aw (fun w'=>Hp w (dR g r rm sv room A D).foot w' [bF g r sv room A,aP pk qv rm D] (dM gz gd g fe hi rm)) ?_ ?_
  ·refine aa (wK _) ?_;refine aB Ab ((aQ (H.ro 1 rfl) 3).trans rfl) ?_;refine lZ ?_;refine k9 (H.get 1 rfl) E2 (f,p) (fun b hb=>absurd (hg.symm.trans hb) (by simp)) (fun hb=>?_);refine af rfl ?_;exact ⟨(),trivial,H⟩
  clear H;rintro ⟨⟩ u w4 H;refine ak (γ:=Unit) (fun _=>[(12,.int .i64 l)]) (fun _ w'=>Hp w (dR g r rm sv room A D).foot w' [bF g r sv room A,aP pk qv rm D] (dM gz gd g fe hi rm)) ?_ ?_
  ·refine H.draw eS (by kernel_rfl) ?_;clear H;intro w5 H;refine quiet _ (fun w H=>aa (ot _) ae) ?_;refine quiet _ (fun w H=>aB iJ ((aQ (H.ro 1 rfl) 0).trans rfl) ae) ?_;refine aj (c203 f (by omega) _ (H.ro 0 rfl) (H.get 0 rfl)) ?_;rintro _ w6 ⟨rfl,hk⟩;replace H:=H.same hk;refine ⟨.inl H,?_⟩;refine quiet _ (fun w H=>aa (ot _) ae) ?_;refine quiet _ (fun w H=>aB iJ ((aQ (H.ro 1 rfl) 0).trans rfl) ae) ?_;refine aj (c203 p (by omega) _ (H.ro 0 rfl) (H.get 0 rfl)) ?_;rintro _ w7 ⟨rfl,hk7⟩;replace H:=H.same hk7;refine ⟨.inl H,?_⟩;refine quiet _ (fun w H=>GY hl ae) ?_;exact ⟨(),⟨rfl,trivial⟩,H⟩
  clear H;rintro ⟨⟩ u w5 H;refine ak (γ:=Nat × Nat) (fun (g1,g2)=>[(13,(ah g1)),(14,(ah g2))]) (fun (g1,g2) w'=>Hp w (dR g r rm sv room A D).foot w' [bF g r sv room A,aP pk qv rm D,an g1 247 (mU 0 0),an g2 247 (mU 0 0)] (dM gz gd g fe hi rm)) ?_ ?_
  ·refine H.alloc 247 (cs:=mU 0 0) wJ rfl ?_;clear H;intro g1 w6 H;refine H.alloc 247 (cs:=mU 0 0) wJ rfl ?_;clear H;intro g2 w7 H;exact ⟨(g1,g2),⟨rfl,rfl,trivial⟩,(((H.front 1 rfl).front 3 rfl).front 3 rfl)⟩
  clear H;rintro ⟨g1,g2⟩ u w6 H;have hha:=fG hA.ok.inv hl0 h2.1 (show l≤aR A f by omega);have hhb:=fG hA.ok.inv hl0 h2.1 (show l≤aR A p by omega);generalize ea:bX A f l=a at hha hlow hhigh;generalize eb:bX A p l=b at hhb hlow hhigh;obtain ⟨a0,a1⟩:=a;obtain ⟨b0,b1⟩:=b;simp only at hha hhb hlow hhigh;refine aw (fun w'=>Hp w (dR g r rm sv room A D).foot w' [bF g r sv room A,aP pk qv rm D,an g1 247 (mU a0 a1),an g2 247 (mU 0 0)] (dM gz gd g fe hi rm)) ?_ ?_
  ·refine aa (ot _) ?_;refine aB iJ ((aQ (H.ro 1 rfl) 0).trans rfl) ?_;have hc:=LX f l (by omega) _ (H.ro 0 rfl) (H.get 0 rfl);rw[ea] at hc;refine aj hc ?_;rintro _ w7 ⟨rfl,hk⟩;replace H:=H.same hk;refine aK underlying247 a_ 0 rfl (by omega) (o':=0) rfl ?_;refine H.store 2 rfl a_ (Nat.le_of_ble_eq_true rfl) rfl ?_;clear H;intro w8 H;refine aK underlying247 a_ 1 rfl (by omega) (o':=1) rfl ?_;refine H.store 2 rfl a_ (Nat.le_of_ble_eq_true rfl) rfl ?_;clear H;intro w9 H;exact ⟨(),trivial,H⟩
  clear H;rintro ⟨⟩ u w7 H;refine aw (fun w'=>Hp w (dR g r rm sv room A D).foot w' [bF g r sv room A,aP pk qv rm D,an g1 247 (mU a0 a1),an g2 247 (mU b0 b1)] (dM gz gd g fe hi rm)) ?_ ?_
  ·refine aa (ot _) ?_;refine aB iJ ((aQ (H.ro 1 rfl) 0).trans rfl) ?_;have hc:=LX p l (by omega) _ (H.ro 0 rfl) (H.get 0 rfl);rw[eb] at hc;refine aj hc ?_;rintro _ w8 ⟨rfl,hk⟩;replace H:=H.same hk;refine aK underlying247 a_ 0 rfl (by omega) (o':=0) rfl ?_;refine H.store 3 rfl a_ (Nat.le_of_ble_eq_true rfl) rfl ?_;clear H;intro w9 H;refine aK underlying247 a_ 1 rfl (by omega) (o':=1) rfl ?_;refine H.store 3 rfl a_ (Nat.le_of_ble_eq_true rfl) rfl ?_;clear H;intro w10 H;exact ⟨(),trivial,H⟩
  clear H;rintro ⟨⟩ u w8 H;refine ak (γ:=Int × Int × Ar × Value × List (I2 × Int)) (fun (id,e,_)=>[(15,.int .i64 id),(16,.int .i64 e)]) (fun (id,e,A1,sv1,D1) w'=>(oF U room A A1 cl e∧(e=0→At A1 (l+1) id)∧eL A1 D1)∧Hp w (dR g r rm sv room A D).foot w' [bF g r sv1 room A1,aP pk qv rm D1,an g1 247 (mU a0 a1),an g2 247 (mU b0 b1)] (dM gz gd g fe hi rm)) ?_ ?_
  ·refine aK underlying247 a_ 0 rfl (by omega) (o':=0) rfl ?_;refine H.load 2 rfl aE rfl ?_;refine aK underlying247 a_ 0 rfl (by omega) (o':=0) rfl ?_;refine H.load 3 rfl aE rfl ?_;refine aj (hlow sv _ (qb (iK H))) ?_;rintro _ w9 ⟨A1,sv1,D1,id,e,rfl,hd,ht⟩;exact ⟨(id,e,A1,sv1,D1),⟨rfl,rfl,trivial⟩,⟨hd.1,fun h=>(hd.2.1 h).1,hd.2.2⟩,((iK H).b5 0 rfl ht).split⟩
  clear H;rintro ⟨lo,e,A1,sv1,D1⟩ u w9 ⟨⟨hd1,hlo,hm1⟩,H⟩;refine aw (fun w'=>e=0∧Hp w (dR g r rm sv room A D).foot w' [bF g r sv1 room A1,aP pk qv rm D1,an g1 247 (mU a0 a1),an g2 247 (mU b0 b1)] (dM gz gd g fe hi rm)) ?_ ?_
  ·refine de (fun he=>?_) (fun he=>?_)
   ·exact ⟨A1,sv1,D1,0,e,rfl,⟨hd1.mono (by simp;omega),fun h=>absurd h he,hm1⟩,(iK H).bc⟩
   ·exact ⟨(),trivial,he,H⟩
  clear H;rintro ⟨⟩ u w10 ⟨rfl,H⟩;replace hlo:=hlo rfl;refine ak (γ:=Int × Int × Ar × Value × List (I2 × Int)) (fun (id,e,_)=>[(17,.int .i64 id),(16,.int .i64 e)]) (fun (id,e,A2,sv2,D2) w'=>(oF U room A1 A2 ch e∧(e=0→At A2 (l+1) id)∧eL A2 D2)∧Hp w (dR g r rm sv room A D).foot w' [bF g r sv2 room A2,aP pk qv rm D2,an g1 247 (mU a0 a1),an g2 247 (mU b0 b1)] (dM gz gd g fe hi rm)) ?_ ?_
  ·refine (iK H).fg [an g1 247 (mU a0 a1),an g2 247 (mU b0 b1)] (fun u h=>h.forget) eS (by kernel_rfl) ?_;clear H;intro w11 H;refine quiet _ (fun w H=>aa (GZ _) ae) ?_;refine quiet _ (fun w H=>aB J5 ((aQ (H.ro 1 rfl) 2).trans rfl) ae) ?_;refine quiet _ (fun w H=>H.ai 0 rfl EY wI ae) ?_;refine quiet _ (fun w H=>H.ai 1 rfl EY wI ae) ?_;refine aj (hhigh A1 D1 sv1 _ hd1 hm1 (qb H)) ?_;rintro _ w12 ⟨A2,sv2,D2,id,e,rfl,hd,ht⟩;replace H:=(H.b5 0 rfl ht).split;refine ⟨.inl H.forget.forget,?_⟩;exact ⟨(id,e,A2,sv2,D2),⟨rfl,rfl,trivial⟩,⟨hd.1,fun h=>(hd.2.1 h).1,hd.2.2⟩,H⟩
  clear H;rintro ⟨hi2,e,A2,sv2,D2⟩ u w11 ⟨⟨hd2,hhi,hm2⟩,H⟩;refine aw (fun w'=>e=0∧Hp w (dR g r rm sv room A D).foot w' [bF g r sv2 room A2,aP pk qv rm D2,an g1 247 (mU a0 a1),an g2 247 (mU b0 b1)] (dM gz gd g fe hi rm)) ?_ ?_
  ·refine de (fun he=>?_) (fun he=>?_)
   ·exact ⟨A2,sv2,D2,0,e,rfl,⟨(hd1.trans hd2).mono (by simp),fun h=>absurd h he,hm2⟩,(iK H).bc⟩
   ·exact ⟨(),trivial,he,H⟩
  clear H;rintro ⟨⟩ u w12 ⟨rfl,H⟩;replace hhi:=hhi rfl;have hd12:=hd1.trans hd2;have hlo2:=hlo.ext hd2.ext;have s1:=gX hd2.arn.ok hlo2;have s2:=gX hd2.arn.ok hhi;have hnode:=EU (U:=U) hd2.arn hl0 h2.1 h2.2 (lo:=lo) (hi:=hi2) (by have:=hlo2.2;omega) (by have:=hhi.2;omega);refine ak (γ:=Value) (fun _=>[(18,.int .i64 (mT room A2 l lo hi2).2.1),(16,.int .i64 (mT room A2 l lo hi2).2.2)]) (fun sv3 w'=>Hp w (dR g r rm sv room A D).foot w' [bF g r sv3 room (mT room A2 l lo hi2).1,aP pk qv rm D2,an g1 247 (mU a0 a1),an g2 247 (mU b0 b1)] (dM gz gd g fe hi rm)) ?_ ?_
  ·refine aa (ot _) ?_;refine aB iJ ((aQ (H.ro 1 rfl) 0).trans rfl) ?_;refine aj (J1 l lo hi2 (by omega) (by omega) (by omega) hd2.arn.ok _ (H.ro 0 rfl) (H.get 0 rfl)) ?_;rintro _ w13 ⟨sv3,rfl,ht⟩;rcases ht with ⟨h0,hk⟩ | ⟨_,ht⟩
   ·refine ⟨sv2,⟨rfl,rfl,trivial⟩,?_⟩;have e:(mT room A2 l lo hi2).1=A2:=by unfold mT;rw[if_pos h0]
    rw[e];exact H.same hk
   ·exact ⟨sv3,⟨rfl,rfl,trivial⟩,H.b5 0 rfl ht⟩
  clear H;rintro sv3 u w13 H;generalize mT room A2 l lo hi2=N at hnode H;obtain ⟨A3,id,e⟩:=N;simp only at hnode H;obtain ⟨hd3,hid⟩:=hnode;have hall:=hd12.trans hd3;have hmem3:eL A3 D2:=hm2.ext hd3.ext;refine ak (γ:=List (I2 × Int)) (fun _=>[]) (fun D3 w'=>eL A3 D3∧Hp w (dR g r rm sv room A D).foot w' [bF g r sv3 room A3,aP pk qv rm D3,an g1 247 (mU a0 a1),an g2 247 (mU b0 b1)] (dM gz gd g fe hi rm)) ?_ ?_
  ·refine cr (fun he=>?_) (fun he=>?_)
   ·refine aa (wK _) ?_;refine aB Ab ((aQ (H.ro 1 rfl) 3).trans rfl) ?_;refine lZ ?_;have he:e=0:=he;have hx:=hall.ext;have hid:=hid he;rw[← hl,← hx.lvl hf,← hx.lvl hp] at hid;refine H.iw 1 rfl E2 (f,p) id fun w' H=>?_;exact ⟨_,trivial,hmem3.put (by rw[hx.lvl hf];exact hf) (by rw[hx.lvl hp];exact hp) hid,H⟩
   ·exact ⟨D2,trivial,hmem3,H⟩
  clear H;rintro D3 u w14 ⟨hmem4,H⟩;exact ⟨A3,sv3,D3,id,e,rfl,⟨hall.mono (by simp),fun h=>⟨hid h,hX id⟩,hmem4⟩,(iK H).bc⟩
def qc (f p:Int):Int × Bool:=if f=0∨f=p then (p,true) else (f,p==0)
def wL (f p:Int):Int × Bool:=if f=0∨f=p then (0,true) else (f,p==0)
def Ae (f p:Int):Int × Bool:=if f=0∨p=0 then (0,true) else if f=1 then (p,true) else (f,p==1)
def G0 (fe:Nat)(E:Int→Int→Int × Bool):Prop:=∀ (f p:Int) (w:World),bt prog fe [.int .i64 f,.int .i64 p] w fun v w'=>v=.tuple #[.int .i64 (E f p).1,.bool (E f p).2]∧aT w w'
theorem J7:enters prog 186=true:=by kernel_rfl
theorem L5:G0 186 qc:=fun f p w=>by
 refine ar (N:=17) func186 J7 rfl rfl rfl (by simp) ?_;have H:=Hp.aC w;unfold qc;by_cases h0:f=0
 ·rw[if_pos (.inl h0)]
  iterate 4 refine ag (beq_iff_eq.2 (by assumption)) ?_
  refine ag rfl ?_;exact ⟨rfl,H.keeps⟩
 ·by_cases h1:f=p
  ·rw[if_pos (.inr h1)]
   iterate 4 refine af (beq_eq_false_iff_ne.2 (by assumption)) ?_
   refine ag (beq_iff_eq.2 (by assumption)) ?_;exact ⟨rfl,H.keeps⟩
  ·rw[if_neg (by omega)]
   iterate 5 refine af (beq_eq_false_iff_ne.2 (by assumption)) ?_
   exact ⟨rfl,H.keeps⟩
theorem J8:enters prog 180=true:=by kernel_rfl
theorem NQ:G0 180 wL:=fun f p w=>by
 refine ar (N:=16) func180 J8 rfl rfl rfl (by simp) ?_;have H:=Hp.aC w;unfold wL;by_cases h0:f=0
 ·rw[if_pos (.inl h0)]
  iterate 4 refine ag (beq_iff_eq.2 (by assumption)) ?_
  refine ag rfl ?_;exact ⟨rfl,H.keeps⟩
 ·by_cases h1:f=p
  ·rw[if_pos (.inr h1)]
   iterate 4 refine af (beq_eq_false_iff_ne.2 (by assumption)) ?_
   refine ag (beq_iff_eq.2 (by assumption)) ?_;exact ⟨rfl,H.keeps⟩
  ·rw[if_neg (by omega)]
   iterate 5 refine af (beq_eq_false_iff_ne.2 (by assumption)) ?_
   exact ⟨rfl,H.keeps⟩
theorem J9:enters prog 182=true:=by kernel_rfl
theorem c182:G0 182 Ae:=fun f p w=>by
 refine ar (N:=20) func182 J9 rfl rfl rfl (by simp) ?_;have H:=Hp.aC w;unfold Ae;by_cases h0:f=0
 ·rw[if_pos (.inl h0)]
  iterate 3 refine ag (beq_iff_eq.2 (by assumption)) ?_
  refine ag rfl ?_;exact ⟨rfl,H.keeps⟩
 ·by_cases h1:p=0
  ·rw[if_pos (.inr h1)]
   iterate 3 refine af (beq_eq_false_iff_ne.2 (by assumption)) ?_
   refine ag (beq_iff_eq.2 (by assumption)) ?_;exact ⟨rfl,H.keeps⟩
  ·rw[if_neg (by omega)];by_cases h2:f=1
   ·rw[if_pos h2]
    iterate 4 refine af (beq_eq_false_iff_ne.2 (by assumption)) ?_
    refine ag (beq_iff_eq.2 (by assumption)) ?_;exact ⟨rfl,H.keeps⟩
   ·rw[if_neg h2]
    iterate 5 refine af (beq_eq_false_iff_ne.2 (by assumption)) ?_
    exact ⟨rfl,H.keeps⟩
section
variable {w:World} {gz gd g r rm fe hi:Nat} {sv:Value} {room:Int} {A:Ar} {D:List (I2 × Int)} {U:Nat→Bool} {l m:Int} {c d:Nat} {X Y:Int→Prop}
theorem iL.mono {v:Value}{w':World}(h:iL w g r rm U room sv A D l c X v w')(hm0:0≤m)(hm:m≤l)(hc:c≤d)(hX:∀ id,X id→Y id):iL w g r rm U room sv A D m d Y v w':=by
 obtain ⟨A',sv',D',id,e,rfl,⟨h1,h2,h3⟩,h4⟩:=h;exact ⟨A',sv',D',id,e,rfl,⟨h1.mono hc,fun he=>⟨(h2 he).1.mono hm0 hm,hX _ (h2 he).2⟩,h3⟩,h4⟩
theorem oG.whole (h:oG w gz gd g r rm fe hi sv room A D):Hp w (dR g r rm sv room A D).foot w [dR g r rm sv room A D] (dM gz gd g fe hi rm):=
 Hp.ry (M:=dM gz gd g fe hi rm) h.ok (fun x ⟨q,hq,hx⟩=>h.ok.2.1 q hq x hx) h.head h.lt h.dis
end
theorem J_:enters prog 181=true:=by kernel_rfl
theorem NR {w:World}{gz gd g r rm fe hi:Nat}{sv:Value}{room:Int}{A:Ar}{D:List (I2 × Int)}{U:Nat→Bool}{m:Int}{c:Nat}{X:Int→Prop}(a0 a1 b0 b1:Int)(hit:oG w gz gd g r rm fe hi sv room A D)(hdo:∀ w1,oG w1 gz gd g r rm fe hi sv room A D→bt prog 184 [(ah gd),.int .i64 a1,.int .i64 b1] w1 (iL w1 g r rm U room sv A D m c X)) :
  bt prog 181 [(ah gd),k2 a0 a1,k2 b0 b1] w (iL w g r rm U room sv A D m c X):=by
 refine ar (N:=16) func181 J_ rfl rfl rfl (by simp) ?_;have H:=hit.whole;refine H.box 247 (k2 a0 a1) (cs:=mU a0 a1) rfl ?_;clear H;intro g1 w1 H;refine H.box 247 (k2 b0 b1) (cs:=mU b0 b1) rfl ?_;clear H;intro g2 w2 H;refine aK underlying247 a_ 1 rfl (by omega) (o':=1) rfl ?_;refine H.load 1 rfl aE rfl ?_;refine aK underlying247 a_ 1 rfl (by omega) (o':=1) rfl ?_;refine H.load 0 rfl aE rfl ?_;replace H:=H.front 2 rfl;refine aj (hdo _ (qb H)) ?_;rintro _ w3 ⟨A',sv',D',id,e,rfl,h1,ht⟩;exact ⟨A',sv',D',id,e,rfl,h1,(H.b5 0 rfl ht).bc⟩
theorem E3 {a b:Nat}(h:a+1≤b):(2^a - 1)+(2^a - 1)+1≤2^b - 1:=by
 have h1:=Nat.pow_le_pow_right (show 0<2 by decide) h;have:=Nat.one_le_two_pow (n:=a);rw[Nat.pow_succ] at h1;omega
theorem qd {a b:Nat}(h:a≤b):2^a - 1≤2^b - 1:=by
 have h1:=Nat.pow_le_pow_right (show 0<2 by decide) h;omega
theorem E4 {U:Nat→Bool}{room:Int}{A:Ar}(h:rZ U room A){f p:Int}(hf:0≤aR A f)(hp:0≤aR A p)(h0:f≠0∧p≠0∧f≠p) :
  min (aR A f) (aR A p)<24∧U (min (aR A f) (aR A p)).toNat=true:=by
 by_cases h1:f=1
 ·have h2:=nF h hp h0.2.1 (by omega);have h3:=j1 (A:=A) (.inr h1);rw[show min (aR A f) (aR A p)=aR A p by omega];exact h2
 ·have h2:=nF h hf h0.1 h1;by_cases h3:p=1
  ·have h4:=j1 (A:=A) (.inr h3);rw[show min (aR A f) (aR A p)=aR A f by omega];exact h2
  ·have h4:=nF h hp h0.2.1 h3;rcases Int.le_total (aR A f) (aR A p) with h5 | h5
   ·rw[Int.min_eq_left h5];exact h2
   ·rw[Int.min_eq_right h5];exact h4
theorem po {gz gd g r rm fe:Nat}{room:Int}{U:Nat→Bool}{E:Int→Int→Int × Bool}(hE:G0 fe E)(h1:∀ f p,(E f p).2=true→(E f p).1=f∨(E f p).1=p∨(E f p).1=0)(h2:∀ f p,(E f p).2=false→f≠0∧p≠0∧f≠p):∀ (k:Nat) (f p l:Int) (A:Ar) (D:List (I2 × Int)) (sv:Value) (w:World),rZ U room A→eL A D→0≤aR A f→0≤aR A p→min (aR A f) (aR A p)=l→24<l+k→
  oG w gz gd g r rm fe 181 sv room A D→bt prog 184 [(ah gd),.int .i64 f,.int .i64 p] w (iL w g r rm U room sv A D l (2^jL U l - 1) fun _=>True)
 | 0,f,p,l,A,D,sv,w,hA,hD,hf,hp,hl,hk,hit=>by
  have:=pI hA.ok.inv f;omega
 | k+1,f,p,l,A,D,sv,w,hA,hD,hf,hp,hl,hk,hit=>by
  have IH:=po (gz:=gz) (gd:=gd) (g:=g) (r:=r) (rm:=rm) (room:=room) (U:=U) hE h1 h2 k;have hl0:0≤l:=by omega
  have hl24:l≤24:=by have:=pI hA.ok.inv f;omega
  have hb:(E f p).2=false→l<24∧U l.toNat=true:=fun hb=>hl ▸ E4 hA hf hp (h2 f p hb);refine (q3 (cl:=2^jL U (l+1) - 1) (ch:=2^jL U (l+1) - 1) (hi:=181) hA hD hf hp hl hit (fun w=>hE f p w) (fun hb=>⟨?_,trivial⟩) (fun _ _=>trivial) hb (fun hb0 sv1 w1 hit1=>?_) (fun hb0 A1 D1 sv1 w1 hd hm hit1=>?_)).mono fun v w' h=>h.mono hl0 (Int.le_refl l) ?_ fun _ h=>h
  ·rcases h1 f p hb with h | h | h <;> rw[h]
   ·exact ⟨hl0,by omega⟩
   ·exact ⟨hl0,by omega⟩
   ·exact At.end (.inl rfl) hl0 hl24
  ·have hl':=(hb hb0).1;have ha:=(fG hA.ok.inv hl0 hl' (show l≤aR A f by omega)).1;have hb:=(fG hA.ok.inv hl0 hl' (show l≤aR A p by omega)).1;have ha1:=ha.2;have hb1:=hb.2;refine (IH _ _ _ A D sv1 w1 hA hD (by omega) (by omega) rfl (by omega) hit1).mono fun v w' h=>h.mono (by omega) (by omega) (qd (kH U (by omega))) fun _ h=>h
  ·have hl':=(hb hb0).1;have ha:=((fG hA.ok.inv hl0 hl' (show l≤aR A f by omega)).2).ext hd.ext;have hb:=((fG hA.ok.inv hl0 hl' (show l≤aR A p by omega)).2).ext hd.ext;have ha1:=ha.2;have hb1:=hb.2;refine NR _ _ _ _ hit1 fun w2 hit2=>?_;refine (IH _ _ _ A1 D1 sv1 w2 hd.arn hm (by omega) (by omega) rfl (by omega) hit2).mono fun v w' h=>h.mono (by omega) (by omega) (qd (kH U (by omega))) fun _ h=>h
  ·cases hbb:(E f p).2 with
   | true=>exact Nat.zero_le _
   | false=>
    obtain ⟨h3,h4⟩:=hb hbb;have:=tG U (l:=l.toNat) (by omega) h4 (m:=l+1) (by omega);rw[Int.toNat_of_nonneg hl0] at this;exact E3 this
theorem pq {xo yo:Operand}{w:World}{kk:Value→World→Prop}{g:Nat}(h:kk (.bool false) w):cU prog .eql 165 xo yo (ah g) (.pointer none) w kk:=
 vK (fun w=>by kernel_rfl) h
structure CV (w:World) (gz g r:Nat) (sv:Value) (room:Int) (A:Ar):Prop where
 z:(an gz 205 #[(ah g)]).ok w
 ok:(bF g r sv room A).ok w
 dis:¬ (bF g r sv room A).foot gz
section
variable {w0 w:World} {F:Nat→Prop} {L M:List cC} {gz gd g r rm fe hi:Nat} {sv:Value} {room:Int} {A:Ar} {D:List (I2 × Int)} {U:Nat→Bool} {l m:Int} {c d:Nat}
theorem CV.start (h:CV w gz g r sv room A):Hp w (bF g r sv room A).foot w [bF g r sv room A] [an gz 205 #[(ah g)]]:=
 Hp.ry (M:=[an gz 205 #[(ah g)]]) h.ok (fun x hx=>qO h.ok x hx) (by intro s hs;rw[List.mem_singleton] at hs;subst hs;exact h.z)
  (by intro s hs x hx;rw[List.mem_singleton] at hs;subst hs;have hx:x=gz:=hx;subst hx;exact iV h.z)
  (by intro s hs x hx hx';rw[List.mem_singleton] at hs;subst hs;have hx:x=gz:=hx;subst hx;exact h.dis hx')
theorem jR (H:Hp w0 F w (bF g r sv room A::L) (an gz 205 #[(ah g)]::M)):CV w gz g r sv room A:=
 ⟨H.ro 0 rfl,H.get 0 rfl,fun h=>H.rdis _ (.head _) _ (.head _) gz rfl h⟩
def Bv (w:World)(g r:Nat)(U:Nat→Bool)(room:Int)(sv:Value)(A:Ar)(l:Int)(c:Nat)(X:Int→Prop)(v:Value)(w':World):Prop:=
 ∃ A' sv' id e,v=.tuple #[.int .i64 id,.int .i64 e]∧(oF U room A A' c e∧(e=0→At A' l id∧X id))∧jA w w' (bF g r sv room A) (bF g r sv' room A')
end
theorem Ka:enters prog 201=true:=by kernel_rfl
theorem c201 {w:World}{gz g r:Nat}{sv:Value}{room:Int}{A:Ar}(ids:List Int)(hid:∀ id ∈ ids,0≤aR A id∧id<9223372036854775808)(B:Option Addr)(c:Nat)(hl:ids.length≤1000000)(hz:(an gz 205 #[(ah g)]).ok w)(h:(bF g r sv room A).ok w)(hs:Sl w (.slice B ids.length c) 1 ids.length (aA ids)) :
  bt prog 201 [(ah gz),.slice B ids.length c] w fun v w'=>v=.bool true∧aT w w':=by
 refine ar (N:=20) func201 Ka rfl rfl rfl (by simp) ?_;have H:=Hp.aC w;refine aw (fun w'=>Hp w ab w' [] []) ⟨(),trivial,H⟩ ?_;clear H;rintro ⟨⟩ u w1 H;refine aw (fun w'=>Hp w ab w' [] []) ?_ ?_
 ·refine pq ?_;refine af rfl ?_;exact ⟨(),trivial,H⟩
 clear H;rintro ⟨⟩ u w2 H;refine aw (fun w'=>Hp w ab w' [] []) ?_ ?_
 ·refine ay underlying75 ?_;refine ax (γ:=Nat) (fun i=>[(11,.int .i64 (i:Int))]) (fun i w'=>i≤ids.length∧Hp w ab w' [] []) (fun i=>ids.length - i) 0 ⟨rfl,trivial⟩ ⟨Nat.zero_le _,H⟩ ?_;clear H;rintro i u w3 ⟨hi,H⟩;refine au (fun h7=>?_) (fun h7=>?_)
  ·have hil:i<ids.length:=by omega
   obtain ⟨gA,oA,rfl⟩:=hs.A (by omega);obtain ⟨hk0,hk1⟩:=hid _ (List.getElem_mem hil);refine aq underlying75 a_ i rfl hil (o':=oA+i) (by omega) ?_;refine aB aE (((hs.same H.keeps).cell i (by omega)).trans (by unfold aA;rw[List.getElem?_map,List.getElem?_eq_getElem hil];rfl)) ?_;refine aj (c203 ids[i] hk1 _ ((an gz 205 _).bP _ _ (fun g hg=>by have hg:g=gz:=hg;subst hg;exact H.keeps.old g (iV hz) id) hz) (iC h H.keeps)) ?_;rintro _ w4 ⟨rfl,hk⟩;replace H:=H.same hk;refine af (decide_eq_false (by omega)) ?_;exact ⟨i+1,by show ids.length - (i+1)<ids.length - i;omega,⟨up (by omega),trivial⟩,by show i+1≤ids.length;omega,H⟩
  ·exact ⟨(),trivial,H⟩
 clear H;rintro ⟨⟩ u w3 H;exact ⟨rfl,H.keeps⟩
theorem E5 {gz rm fe hi:Nat}{w:World}{kk:Value→World→Prop}(h:kk (.agg #[(ah gz),pn fe,pn hi,.map (some rm)]) w) :
  b7 prog 251 [(0,(ah gz)),(1,pn fe),(2,pn hi),(3,.map (some rm))] w kk:=bu (fun w=>by kernel_rfl) h
theorem tI {gd n:Nat}{w:World}{kk:Value→World→Prop}(h:kk (.func (.func n) #[(ah gd)] #[]) w):cu prog (.func n) [(ah gd)] [] w kk:=by
 unfold cu;exact ⟨_,w,by kernel_rfl,h⟩
theorem Kb:enters prog 202=true:=by kernel_rfl
theorem NS (gz fe hi:Nat)(w:World):bt prog 202 [(ah gz),pn fe,pn hi] w fun v w'=>∃ gd rm,v=.func (.func 184) #[(ah gd)] #[]∧
  eX w w' (rS [aP pk qv rm [],an gd 251 #[(ah gz),pn fe,pn hi,.map (some rm)]]):=by
 refine ar (N:=16) func202 Kb rfl rfl rfl (by simp) ?_;have H:=Hp.aC w;refine H.makeMap pk qv ?_;clear H;intro rm w1 H;refine E5 ?_;refine H.box 251 _ (cs:=#[(ah gz),pn fe,pn hi,.map (some rm)]) rfl ?_;clear H;intro gd w2 H;refine tI ?_;exact ⟨gd,rm,rfl,(Hp.join (Ls:=[aP pk qv rm [],an gd 251 #[(ah gz),pn fe,pn hi,.map (some rm)]]) (L:=[]) (H.front 1 rfl)).out⟩
theorem Af {P:Program}{n:FuncId}{first args:List Value}{w:World}{k post:Value→World→Prop}(hc:bt P n (first++args) w post)(h:∀ v w',post v w'→k v w'):js P (.func (.func n) first.toArray #[]) args w k:=by
 unfold js;simp only[List.append_nil];exact hc.mono h
theorem Kc:enters prog 179=true:=by kernel_rfl
theorem G1 {w:World}{gz g r fe hi:Nat}{sv:Value}{room:Int}{A:Ar}{U:Nat→Bool}{f p l:Int}{c:Nat}{X:Int→Prop}(hA:rZ U room A)(hf:0≤aR A f)(hp:0≤aR A p)(hz:CV w gz g r sv room A)(hdo:∀ gd rm w1,oG w1 gz gd g r rm fe hi sv room A []→bt prog 184 [(ah gd),.int .i64 f,.int .i64 p] w1 (iL w1 g r rm U room sv A [] l c X)) :
  bt prog 179 [(ah gz),.int .i64 f,.int .i64 p,pn fe,pn hi] w (Bv w g r U room sv A l c X):=by
 have hfs:=gX hA.ok ⟨Int.le_refl 0,hf⟩;have hps:=gX hA.ok ⟨Int.le_refl 0,hp⟩;refine ar (N:=27) func179 Kc rfl rfl rfl (by simp) ?_;have H:=hz.start;refine aw (fun w'=>Hp w (bF g r sv room A).foot w' [bF g r sv room A] [an gz 205 #[(ah g)]]) ⟨(),trivial,H⟩ ?_;clear H;rintro ⟨⟩ u w1 H;refine aw (fun w'=>Hp w (bF g r sv room A).foot w' [bF g r sv room A] [an gz 205 #[(ah g)]]) ?_ ?_
 ·refine H.bg dy (n:=2) (cs:=#[.int .i64 f,.int .i64 p]) (by decide) (by decide) (by kernel_rfl) ?_;clear H;intro gs w3 H;replace H:=H.pf (l:=2) (sz:=1) rfl (by decide);refine aj (c201 [f,p] (by intro id hid;simp at hid;rcases hid with rfl | rfl <;> exact ⟨by assumption,by omega⟩) _ _ (by simp) (H.ro 0 rfl) (H.get 1 rfl) (bE (H.get 0 rfl))) ?_;rintro _ w4 ⟨rfl,hk⟩;replace H:=(H.same hk).forget;refine af rfl ?_;exact ⟨(),trivial,H⟩
 clear H;rintro ⟨⟩ u w2 H;refine aj (NS gz fe hi _) ?_;rintro _ w3 ⟨gd,rm,rfl,hn⟩;replace H:=(H.bD hn).split;replace H:=((((H.front 1 rfl).freeze).front 1 rfl).ep (M':=dM gz gd g fe hi rm) (by intro s hs;simp[dM] at hs ⊢;rcases hs with rfl | rfl <;> simp));replace H:=iK H;refine Af (first:=[(ah gd)]) (hdo gd rm _ (qb H)) ?_;rintro _ w4 ⟨A',sv',D',id,e,rfl,⟨h1,h2,_⟩,ht⟩;exact ⟨A',sv',id,e,rfl,⟨h1,h2⟩,((H.b5 0 rfl ht).split).bc⟩
theorem CW (f p:Int)(h:(qc f p).2=true):(qc f p).1=f∨(qc f p).1=p∨(qc f p).1=0:=by
 unfold qc at h ⊢;split
 ·exact .inr (.inl rfl)
 ·exact .inl rfl
theorem CX (f p:Int)(h:(qc f p).2=false):f≠0∧p≠0∧f≠p:=by
 unfold qc at h;split at h
 ·cases h
 ·rw[beq_eq_false_iff_ne] at h;omega
theorem CY (f p:Int)(h:(wL f p).2=true):(wL f p).1=f∨(wL f p).1=p∨(wL f p).1=0:=by
 unfold wL at h ⊢;split
 ·exact .inr (.inr rfl)
 ·exact .inl rfl
theorem CZ (f p:Int)(h:(wL f p).2=false):f≠0∧p≠0∧f≠p:=by
 unfold wL at h;split at h
 ·cases h
 ·rw[beq_eq_false_iff_ne] at h;omega
theorem Kd:enters prog 150=true:=by kernel_rfl
theorem Ke {w:World}{gz g r:Nat}{sv:Value}{room:Int}{A:Ar}{U:Nat→Bool}{f p l:Int}(hA:rZ U room A)(hl0:0≤l)(hf:l≤aR A f)(hp:l≤aR A p)(hz:CV w gz g r sv room A) :
  bt prog 150 [(ah gz),.int .i64 f,.int .i64 p] w (Bv w g r U room sv A l (if f=0∨p=0 then 0 else 2^jL U l - 1) fun id=>(f=0∨p=0)→id=if f=0 then p else f):=by
 refine ar (N:=14) func150 Kd rfl rfl rfl (by simp) ?_;have hfs:=gX hA.ok ⟨hl0,hf⟩;have hps:=gX hA.ok ⟨hl0,hp⟩;by_cases h0:f=0∨p=0
 ·rw[if_pos h0];have hE:qc f p=(if f=0 then p else f,true):=by
   unfold qc;rcases h0 with rfl | rfl
   ·simp
   ·by_cases h:f=0
    ·subst h;simp
    ·rw[if_neg (by omega),if_neg h];rfl
  have hb:(qc f p).2=true:=by rw[hE]
  refine aj (G1 (l:=l) (c:=0) (fe:=186) (hi:=181) (U:=U) (X:=fun id=>(f=0∨p=0)→id=if f=0 then p else f) hA (by omega) (by omega) hz fun gd rm w1 hit=>?_) (fun v w' h=>by
   obtain ⟨A',sv',id,e,rfl,h1,h2⟩:=h;exact ⟨A',sv',id,e,rfl,h1,h2⟩)
  refine (q3 (cl:=0) (ch:=0) (id0:=(qc f p).1) (b0:=(qc f p).2) hA (eL.nil A) (by omega) (by omega) rfl hit (fun w=>L5 f p w) (fun _=>⟨?_,fun _=>by rw[hE]⟩) (fun h=>by rw[hb] at h;cases h) (fun h=>by rw[hb] at h;cases h) (fun h=>by rw[hb] at h;cases h) (fun h=>by rw[hb] at h;cases h)).mono fun v w' h=>h.mono hl0 (by omega) (by rw[hb];exact Nat.le_refl 0) fun _ h=>h;refine ⟨by omega,?_⟩;rw[hE];show min (aR A f) (aR A p)≤aR A (if f=0 then p else f);split <;> omega
 ·rw[if_neg h0];refine aj (G1 (l:=l) (c:=2^jL U l - 1) (fe:=186) (hi:=181) (U:=U) (X:=fun id=>(f=0∨p=0)→id=if f=0 then p else f) hA (by omega) (by omega) hz fun gd rm w1 hit=>?_) (fun v w' h=>by
   obtain ⟨A',sv',id,e,rfl,h1,h2⟩:=h;exact ⟨A',sv',id,e,rfl,h1,h2⟩)
  exact (po L5 CW CX 25 f p _ A [] sv w1 hA (eL.nil A) (by omega) (by omega) rfl (by omega) hit).mono fun v w' h=>h.mono hl0 (by omega) (qd (kH U (by omega))) fun _ _ h=>absurd h h0
theorem Kf:enters prog 147=true:=by kernel_rfl
theorem L6 {w:World}{gz g r:Nat}{sv:Value}{room:Int}{A:Ar}{U:Nat→Bool}{f p l:Int}(hA:rZ U room A)(hl0:0≤l)(hf:l≤aR A f)(hp:l≤aR A p)(hz:CV w gz g r sv room A) :
  bt prog 147 [(ah gz),.int .i64 f,.int .i64 p] w (Bv w g r U room sv A l (2^jL U l - 1) fun _=>True):=by
 refine ar (N:=14) func147 Kf rfl rfl rfl (by simp) ?_;refine aj (G1 (l:=l) (c:=2^jL U l - 1) (fe:=180) (hi:=181) (U:=U) (X:=fun _=>True) hA (by omega) (by omega) hz fun gd rm w1 hit=>?_) (fun v w' h=>by
  obtain ⟨A',sv',id,e,rfl,h1,h2⟩:=h;exact ⟨A',sv',id,e,rfl,h1,h2⟩)
 exact (po NQ CY CZ 25 f p _ A [] sv w1 hA (eL.nil A) (by omega) (by omega) rfl (by omega) hit).mono fun v w' h=>h.mono hl0 (by omega) (qd (kH U (by omega))) fun _ h=>h
def k6 (a b c d e f:Int):Value:=.agg #[.int .i64 a,.int .i64 b,.int .i64 c,.int .i64 d,.int .i64 e,.int .i64 f]
theorem E6 {a b c d e f:Int}{w:World}{kk:Value→World→Prop}(h:kk (k6 a b c d e f) w):b7 prog 248 [(0,k2 a b),(1,k2 c d),(2,k2 e f)] w kk:=bu (fun w=>by kernel_rfl) h
def y4 (a0 a1 b0 b1:Int)(i:Nat):Int × Int:=if i=0 then (a1,b0) else if i=1 then (a0,b1) else (a1,b1)
theorem Kg {a0 a1 b0 b1:Int}{i:Nat}(hi:i<3){w:World}{kk:Value→World→Prop}(h:kk (k2 (y4 a0 a1 b0 b1 i).1 (y4 a0 a1 b0 b1 i).2) w):sw prog 248 (k6 a1 b0 a0 b1 a1 b1) (.int .i64 (i:Int)) w kk:=by
 unfold sw;refine ⟨_,w,?_,h⟩;rcases (by omega:i=0∨i=1∨i=2) with rfl | rfl | rfl <;> kernel_rfl
def Ih (z:Nat→Bool):Nat→Bool
 | 0=>true
 | i+1=>Ih z i&&z i
def y5 (z:Nat→Bool)(c:Nat→Nat)(u:Nat):Nat→Nat
 | 0=>0
 | i+1=>y5 z c u i+c i+if Ih z i||z i then 0 else u
theorem E7 (z:Nat→Bool)(c:Nat→Nat)(u:Nat){i j:Nat}(h:i≤j):y5 z c u i≤y5 z c u j:=by
 induction h with
 | refl=>exact Nat.le_refl _
 | step _ ih=>exact Nat.le_trans ih (by show _≤y5 z c u _+_+_;omega)
theorem NT (z:Nat→Bool)(c:Nat→Nat)(u:Nat):y5 z c u 3≤c 0+c 1+c 2+(if z 0||z 1 then 0 else u)+(if z 0&&z 1||z 2 then 0 else u):=by
 simp only[y5,Ih,Bool.true_or,Bool.true_and,if_true];omega
theorem Kh:enters prog 183=true:=by kernel_rfl
set_option maxHeartbeats 4000000 in
theorem c183 {w:World}{gz gd g r rm fe hi:Nat}{sv:Value}{room:Int}{A:Ar}{D:List (I2 × Int)}{U:Nat→Bool}{m:Int}{c:Nat→Nat}{z:Nat→Bool}(a0 a1 b0 b1:Int)(hA:rZ U room A)(hD:eL A D)(hm0:0≤m)(hm:m≤24)(hit:oG w gz gd g r rm fe hi sv room A D)(hdo:∀ i,i<3→∀ A1 D1 sv1 w1,Ext A A1→rZ U room A1→eL A1 D1→oG w1 gz gd g r rm fe hi sv1 room A1 D1→bt prog 184 [(ah gd),.int .i64 (y4 a0 a1 b0 b1 i).1,.int .i64 (y4 a0 a1 b0 b1 i).2] w1 (iL w1 g r rm U room sv1 A1 D1 m (c i) fun id=>z i=true→id=0)) :
  bt prog 183 [(ah gd),k2 a0 a1,k2 b0 b1] w (iL w g r rm U room sv A D m (y5 z c (2^jL U m - 1) 3) fun _=>True):=by
 refine ar (N:=58) func183 Kh rfl rfl rfl (by simp) ?_;have H:=hit.whole;refine ak (γ:=Nat × Nat) (fun (g4,g5)=>[(4,(ah g4)),(5,(ah g5))]) (fun (g4,g5) w'=>Hp w (dR g r rm sv room A D).foot w' [an g4 247 (mU a0 a1),an g5 247 (mU b0 b1),dR g r rm sv room A D] (dM gz gd g fe hi rm)) ?_ ?_
 ·refine H.box 247 (k2 a0 a1) (cs:=mU a0 a1) rfl ?_;clear H;intro g1 w1 H;refine H.box 247 (k2 b0 b1) (cs:=mU b0 b1) rfl ?_;clear H;intro g2 w2 H;exact ⟨(g1,g2),⟨rfl,rfl,trivial⟩,H.front 1 rfl⟩
 clear H;rintro ⟨g4,g5⟩ u w1 H;refine ak (γ:=Unit) (fun _=>[(8,.int .i64 0)]) (fun _ w'=>Hp w (dR g r rm sv room A D).foot w' [an g4 247 (mU a0 a1),an g5 247 (mU b0 b1),dR g r rm sv room A D] (dM gz gd g fe hi rm)) ⟨(),⟨rfl,trivial⟩,H⟩ ?_;clear H;rintro ⟨⟩ u w2 H;refine ak (γ:=Int × Ar × Value × List (I2 × Int)) (fun (out,_)=>[(8,.int .i64 out)]) (fun (out,A1,sv1,D1) w'=>(oF U room A A1 (y5 z c (2^jL U m - 1) 3) 0∧At A1 m out∧eL A1 D1)∧Hp w (dR g r rm sv room A D).foot w' [bF g r sv1 room A1,aP pk qv rm D1] (dM gz gd g fe hi rm)) ?_ ?_
 ·refine aK underlying247 a_ 1 rfl (by omega) (o':=1) rfl ?_;refine H.load 0 rfl aE rfl ?_;refine aK underlying247 a_ 0 rfl (by omega) (o':=0) rfl ?_;refine H.load 1 rfl aE rfl ?_;refine lZ ?_;refine aK underlying247 a_ 0 rfl (by omega) (o':=0) rfl ?_;refine H.load 0 rfl aE rfl ?_;refine aK underlying247 a_ 1 rfl (by omega) (o':=1) rfl ?_;refine H.load 1 rfl aE rfl ?_;refine lZ ?_;refine aK underlying247 a_ 1 rfl (by omega) (o':=1) rfl ?_;refine H.load 0 rfl aE rfl ?_;refine aK underlying247 a_ 1 rfl (by omega) (o':=1) rfl ?_;refine H.load 1 rfl aE rfl ?_;refine lZ ?_;refine E6 ?_;replace H:=H.forget.forget.split;refine ax (γ:=Nat × Int × Ar × Value × List (I2 × Int)) (fun (i,out,_)=>[(29,.int .i64 (i:Int)),(8,.int .i64 out)]) (fun (i,out,A1,sv1,D1) w'=>(i≤3∧oF U room A A1 (y5 z c (2^jL U m - 1) i) 0∧At A1 m out∧eL A1 D1∧(Ih z i=true→out=0))∧Hp w (dR g r rm sv room A D).foot w' [bF g r sv1 room A1,aP pk qv rm D1] (dM gz gd g fe hi rm)) (fun (i,_)=>3 - i) (0,0,A,sv,D) ⟨rfl,rfl,trivial⟩ ⟨⟨by decide,oF.refl hA _,At.end (.inl rfl) hm0 hm,hD,fun _=>rfl⟩,H⟩ ?_;clear H;rintro ⟨i,out,A1,sv1,D1⟩ u w3 ⟨⟨hi3,hd1,hout,hm1,hz1⟩,H⟩;refine au (fun h7=>?_) (fun h7=>?_)
  ·have hil:i<3:=by omega
   refine ak (γ:=Int × Ar × Value × List (I2 × Int)) (fun (out,_)=>[(8,.int .i64 out)]) (fun (out,A1,sv1,D1) w'=>(oF U room A A1 (y5 z c (2^jL U m - 1) (i+1)) 0∧At A1 m out∧eL A1 D1∧(Ih z (i+1)=true→out=0))∧Hp w (dR g r rm sv room A D).foot w' [bF g r sv1 room A1,aP pk qv rm D1] (dM gz gd g fe hi rm)) ?_ ?_
   ·refine ak (γ:=Nat) (fun g10=>[(10,(ah g10))]) (fun g10 w'=>Hp w (dR g r rm sv room A D).foot w' [an g10 247 (mU (y4 a0 a1 b0 b1 i).1 (y4 a0 a1 b0 b1 i).2),bF g r sv1 room A1,aP pk qv rm D1] (dM gz gd g fe hi rm)) ?_ ?_
    ·refine Kg hil ?_;refine H.alloc 247 (cs:=mU 0 0) wJ rfl ?_;clear H;intro g10 w4 H;refine H.storeAll 0 rfl wI rfl (by intro v hv;simp[mU] at hv;rcases hv with rfl | rfl <;> rfl) ?_;clear H;intro w5 H;exact ⟨g10,⟨rfl,trivial⟩,H⟩
    clear H;rintro g10 u w4 H;refine ak (γ:=Int × Int × Ar × Value × List (I2 × Int)) (fun (id,e,_)=>[(11,.int .i64 id),(12,.int .i64 e)]) (fun (id,e,A2,sv2,D2) w'=>(oF U room A1 A2 (c i) e∧(e=0→At A2 m id∧(z i=true→id=0))∧eL A2 D2)∧Hp w (dR g r rm sv room A D).foot w' [bF g r sv2 room A2,aP pk qv rm D2] (dM gz gd g fe hi rm)) ?_ ?_
    ·refine aK underlying247 a_ 0 rfl (by omega) (o':=0) rfl ?_;refine H.load 0 rfl aE rfl ?_;refine aK underlying247 a_ 1 rfl (by omega) (o':=1) rfl ?_;refine H.load 0 rfl aE rfl ?_;refine aj (hdo i hil A1 D1 sv1 _ hd1.ext hd1.arn hm1 (qb (iK H.forget))) ?_;rintro _ w5 ⟨A2,sv2,D2,id,e,rfl,hd,ht⟩;exact ⟨(id,e,A2,sv2,D2),⟨rfl,rfl,trivial⟩,hd,((iK H.forget).b5 0 rfl ht).split⟩
    clear H;rintro ⟨id,e,A2,sv2,D2⟩ u w5 ⟨⟨hd2,hid,hm2⟩,H⟩;have hd12:=hd1.trans hd2;have hout2:=hout.ext hd2.ext;have hcs:y5 z c (2^jL U m - 1) i+c i≤y5 z c (2^jL U m - 1) (i+1):=by show _≤y5 z c _ i+c i+_;omega
    have hcm:=E7 z c (2^jL U m - 1) (show i+1≤3 by omega);by_cases he:e=0
    ·subst he;obtain ⟨hid,hidz⟩:=hid rfl;refine ak (γ:=Int × Int × Ar × Value) (fun (id,e,_)=>[(8,.int .i64 id),(12,.int .i64 e)]) (fun (id',e,A3,sv3) w'=>(oF U room A A3 (y5 z c (2^jL U m - 1) (i+1)) e∧(e=0→At A3 m id'∧(Ih z (i+1)=true→id'=0))∧eL A3 D2)∧Hp w (dR g r rm sv room A D).foot w' [bF g r sv3 room A3,aP pk qv rm D2] (dM gz gd g fe hi rm)) ?_ ?_
     ·refine ag rfl ?_;refine aa (ot _) ?_;refine aB iJ ((aQ (H.ro 1 rfl) 0).trans rfl) ?_;refine aj (Ke (U:=U) (l:=m) (f:=out) (p:=id) hd2.arn hm0 hout2.2 hid.2 (jR H)) ?_;rintro _ w6 ⟨A3,sv3,id',e,rfl,⟨hd3,hid3⟩,ht⟩;refine ⟨(id',e,A3,sv3),⟨rfl,rfl,trivial⟩,⟨(hd12.trans hd3).mono ?_,fun h=>⟨(hid3 h).1,fun hz=>?_⟩,hm2.ext hd3.ext⟩,H.b5 0 rfl ht⟩
      ·show _≤y5 z c _ i+c i+_;by_cases h0:out=0∨id=0
       ·rw[if_pos h0];omega
       ·rw[if_neg h0];have:(Ih z i||z i)=false:=by
         rw[Bool.or_eq_false_iff];exact ⟨Bool.eq_false_iff.2 fun h=>h0 (.inl (hz1 h)),Bool.eq_false_iff.2 fun h=>h0 (.inr (hidz h))⟩
        rw[this];exact Nat.le_refl _
      ·have hz:(Ih z i&&z i)=true:=hz;rw[Bool.and_eq_true] at hz;have h1:=hz1 hz.1;have h2:=hidz hz.2;have:=(hid3 h).2 (.inl h1);rw[if_pos h1,h2] at this;exact this
     clear H;rintro ⟨id',e,A3,sv3⟩ u w6 ⟨⟨hd3,hid3,hm3⟩,H⟩;refine de (fun he=>?_) (fun he=>?_)
     ·exact ⟨A3,sv3,D2,0,e,rfl,⟨hd3.mono hcm,fun h=>absurd h he,hm3⟩,(iK H).bc⟩
     ·have he:e=0:=he;subst he;exact ⟨(id',A3,sv3,D2),⟨rfl,trivial⟩,⟨hd3,(hid3 rfl).1,hm3,(hid3 rfl).2⟩,H⟩
    ·refine ak (γ:=Unit) (fun _=>[(8,.int .i64 out),(12,.int .i64 e)]) (fun _ w'=>Hp w (dR g r rm sv room A D).foot w' [bF g r sv2 room A2,aP pk qv rm D2] (dM gz gd g fe hi rm)) ?_ ?_
     ·refine af (beq_eq_false_iff_ne.2 he) ?_;exact ⟨(),⟨rfl,rfl,trivial⟩,H⟩
     clear H;rintro ⟨⟩ u w6 H;refine de (fun he=>?_) (fun he'=>absurd he' he);exact ⟨A2,sv2,D2,0,e,rfl,⟨hd12.mono (Nat.le_trans hcs hcm),fun h=>absurd h he,hm2⟩,(iK H).bc⟩
   clear H;rintro ⟨out',A3,sv3,D3⟩ u w4 ⟨hh,H⟩;exact ⟨(i+1,out',A3,sv3,D3),by show 3 - (i+1)<3 - i;omega,⟨up (by omega),rfl,trivial⟩,⟨by show i+1≤3;omega,hh⟩,H⟩
  ·have:i=3:=by omega
   subst this;exact ⟨(out,A1,sv1,D1),⟨rfl,trivial⟩,⟨hd1,hout,hm1⟩,H⟩
 clear H;rintro ⟨out,A1,sv1,D1⟩ u w3 ⟨⟨hd1,hout,hm1⟩,H⟩;exact ⟨A1,sv1,D1,out,0,rfl,⟨hd1,fun _=>⟨hout,trivial⟩,hm1⟩,(iK H).bc⟩
inductive Sg (A:Ar):Int→Prop
 | one:Sg A 1
 | nd {i:Nat} {n:Nd} (hs:slot A i=some n) (h0:n.lo=0) (h1:Sg A n.hi):Sg A ((i:Int)+2)
theorem Sg.ext {A A':Ar}(hx:Ext A A'){p:Int}(h:Sg A p):Sg A' p:=by
 induction h with
 | one=>exact .one
 | nd hs h0 _ ih=>exact .nd (hx _ _ hs) h0 ih
def Jc:Nat→Nat
 | 0=>0
 | r+1=>2*Jc r+2^r
theorem wM {a b:Nat}(h:a≤b):Jc a≤Jc b:=by
 induction h with
 | refl=>exact Nat.le_refl _
 | step _ ih=>exact Nat.le_trans ih (Nat.le_trans (show _≤2*Jc _ by omega) (Nat.le_add_right _ _))
theorem G2 {a b:Nat}(h:a+1≤b):Jc a+Jc a+(2^a - 1)+1≤Jc b:=by
 have h1:=wM h;have h2:=Nat.one_le_two_pow (n:=a);have h3:Jc (a+1)=2*Jc a+2^a:=rfl;omega
def cJ (U:Nat→Bool)(l:Int)(x y:Int):Nat:=if x=0∨y=0∨x=1∨y=1 then 0 else Jc (jL U l)
theorem L7 (U:Nat→Bool)(l:Int)(x y:Int):cJ U l x y≤Jc (jL U l):=by unfold cJ;split <;> omega
theorem vj (U:Nat→Bool)(l:Int)(x:Int):cJ U l x 0=0:=if_pos (.inr (.inl rfl))
theorem L_ (U:Nat→Bool)(l:Int)(y:Int):cJ U l 0 y=0:=if_pos (.inl rfl)
theorem mI {A:Ar}{i:Nat}{n:Nd}(hs:slot A i=some n)(l:Int):bX A ((i:Int)+2) l=if (n.l:Int)=l then ((n.lo:Int),(n.hi:Int)) else ((i:Int)+2,0):=by
 unfold bX;rw[if_pos (by omega),show ((i:Int)+2 - 2).toNat=i by omega,hs]
def CJ (U:Nat→Bool)(A:Ar)(f p l:Int)(c:Nat):Prop:=(f=0∨p=0∨f=1∨p=1)∨(aR A p<aR A f∧(bX A p l).2=1∧1≤c)∨Jc (jL U l)≤c
theorem vk {gz gd g r rm:Nat}{room:Int}{U:Nat→Bool}:∀ (k:Nat) (f p l:Int) (A:Ar) (D:List (I2 × Int)) (sv:Value) (w:World) (c:Nat),rZ U room A→eL A D→0≤aR A f→0≤aR A p→(p=0∨Sg A p)→min (aR A f) (aR A p)=l→24<l+k→
  CJ U A f p l c→oG w gz gd g r rm 182 183 sv room A D→bt prog 184 [(ah gd),.int .i64 f,.int .i64 p] w (iL w g r rm U room sv A D l c fun id=>(f=0∨p=0)→id=0)
 | 0,f,p,l,A,D,sv,w,c,hA,hD,hf,hp,hs,hl,hk,hc,hit=>by
  have:=pI hA.ok.inv f;omega
 | k+1,f,p,l,A,D,sv,w,c,hA,hD,hf,hp,hs,hl,hk,hc,hit=>by
  have hl0:0≤l:=by omega
  have hl24:l≤24:=by have:=pI hA.ok.inv f;omega
  have IH:∀ (x y:Int) (A1:Ar) (D1:List (I2 × Int)) (sv1:Value) (w1:World),rZ U room A1→eL A1 D1→l+1≤aR A1 x→l+1≤aR A1 y→(y=0∨Sg A1 y)→oG w1 gz gd g r rm 182 183 sv1 room A1 D1→
    bt prog 184 [(ah gd),.int .i64 x,.int .i64 y] w1 (iL w1 g r rm U room sv1 A1 D1 (l+1) (cJ U (l+1) x y) fun id=>(x=0∨y=0)→id=0):=by
   intro x y A1 D1 sv1 w1 hA1 hm1 hx hy hsy hit1;refine (vk k x y _ A1 D1 sv1 w1 (cJ U (l+1) x y) hA1 hm1 (by omega) (by omega) hsy rfl (by omega) ?_ hit1).mono fun v w' h=>h.mono (by omega) (by omega) (Nat.le_refl _) fun _ h=>h;unfold CJ cJ;by_cases h:x=0∨y=0∨x=1∨y=1
   ·exact .inl h
   ·rw[if_neg h];exact .inr (.inr (wM (kH U (by omega))))
  have hb:(Ae f p).2=false→f≠0∧f≠1∧p≠0∧p≠1:=fun hb=>by
   unfold Ae at hb;split at hb
   ·cases hb
   ·split at hb
    ·cases hb
    ·rw[beq_eq_false_iff_ne] at hb;omega
  have hlu:(Ae f p).2=false→l<24∧U l.toNat=true:=fun h=>by
   obtain ⟨h0,h1,h2,h3⟩:=hb h;have u1:=nF hA hf h0 h1;have u2:=nF hA hp h2 h3;rw[← hl];rcases Int.le_total (aR A f) (aR A p) with h5 | h5
   ·rw[Int.min_eq_left h5];exact u1
   ·rw[Int.min_eq_right h5];exact u2
  have hsg:(bX A p l).1=0∨Sg A (bX A p l).1:=by
   rcases hs with rfl | hs
   ·exact .inl rfl
   ·cases hs with
    | one=>exact .inr .one
    | nd hs h0 h1=>
     rw[mI hs];split
     ·exact .inl (by rw[h0];rfl)
     ·exact .inr (.nd hs h0 h1)
  have hsg2:(bX A p l).2=0∨Sg A (bX A p l).2:=by
   rcases hs with rfl | hs
   ·exact .inl rfl
   ·cases hs with
    | one=>exact .inl rfl
    | nd hs h0 h1=>
     rw[mI hs];split
     ·exact .inr h1
     ·exact .inl rfl
  refine (q3 (cl:=cJ U (l+1) (bX A f l).1 (bX A p l).1) (ch:=y5 (fun i=>decide ((y4 (bX A f l).1 (bX A f l).2 (bX A p l).1 (bX A p l).2 i).1=0∨(y4 (bX A f l).1 (bX A f l).2 (bX A p l).1 (bX A p l).2 i).2=0)) (fun i=>cJ U (l+1) (y4 (bX A f l).1 (bX A f l).2 (bX A p l).1 (bX A p l).2 i).1 (y4 (bX A f l).1 (bX A f l).2 (bX A p l).1 (bX A p l).2 i).2) (2^jL U (l+1) - 1) 3)
   (hi:=183) (X:=fun id=>(f=0∨p=0)→id=0) hA hD hf hp hl hit (fun w=>c182 f p w) (fun hb=>?_) (fun hb0 id h=>?_) hlu (fun hb0 sv1 w1 hit1=>?_) (fun hb0 A1 D1 sv1 w1 hd hm hit1=>?_)).mono fun v w' h=>h.mono hl0 (Int.le_refl l) ?_ fun _ h=>h
  ·unfold Ae at hb ⊢;split
   ·exact ⟨At.end (.inl rfl) hl0 hl24,fun _=>rfl⟩
   ·rename_i h0;split
    ·exact ⟨⟨hl0,by show l≤aR A p;omega⟩,fun h=>absurd h h0⟩
    ·exact ⟨⟨hl0,by show l≤aR A f;omega⟩,fun h=>absurd h h0⟩
  ·have:=hb hb0;omega
  ·have hl':=(hlu hb0).1;have ha:=(fG hA.ok.inv hl0 hl' (show l≤aR A f by omega)).1;have hbb:=(fG hA.ok.inv hl0 hl' (show l≤aR A p by omega)).1;exact (IH _ _ A D sv1 w1 hA hD ha.2 hbb.2 hsg hit1).mono fun v w' h=>h.mono (by omega) (Int.le_refl _) (Nat.le_refl _) fun _ _=>trivial
  ·have hl':=(hlu hb0).1;have ha:=fG hA.ok.inv hl0 hl' (show l≤aR A f by omega);have hbb:=fG hA.ok.inv hl0 hl' (show l≤aR A p by omega);refine c183 _ _ _ _ hd.arn hm (by omega) (by omega) hit1 fun i hi A2 D2 sv2 w2 hx hA2 hm2 hit2=>?_;have hx2:=hd.ext.trans hx;have a0:=(ha.1.ext hx2).2;have a1:=(ha.2.ext hx2).2;have b0:=(hbb.1.ext hx2).2;have b1:=(hbb.2.ext hx2).2;have s0:=hsg.imp id (Sg.ext hx2);have s1:=hsg2.imp id (Sg.ext hx2);rcases (by omega:i=0∨i=1∨i=2) with rfl | rfl | rfl
   ·exact (IH _ _ A2 D2 sv2 w2 hA2 hm2 a1 b0 s0 hit2).mono fun v w' h=>h.mono (by omega) (Int.le_refl _) (Nat.le_refl _) fun _ h hz=>h (of_decide_eq_true hz)
   ·exact (IH _ _ A2 D2 sv2 w2 hA2 hm2 a0 b1 s1 hit2).mono fun v w' h=>h.mono (by omega) (Int.le_refl _) (Nat.le_refl _) fun _ h hz=>h (of_decide_eq_true hz)
   ·exact (IH _ _ A2 D2 sv2 w2 hA2 hm2 a1 b1 s1 hit2).mono fun v w' h=>h.mono (by omega) (Int.le_refl _) (Nat.le_refl _) fun _ h hz=>h (of_decide_eq_true hz)
  ·cases hbb:(Ae f p).2 with
   | true=>exact Nat.zero_le _
   | false=>
    obtain ⟨h0,h1,h2,h3⟩:=hb hbb;obtain ⟨h4,h5⟩:=hlu hbb;have hrk:=tG U (l:=l.toNat) (by omega) h5 (m:=l+1) (by omega);rw[Int.toNat_of_nonneg hl0] at hrk;have hj:=G2 hrk;have hle:=fun x y=>L7 U (l+1) x y;rcases hs with hs | hs
    ·exact absurd hs h2
    cases hs with
    | one=>exact absurd rfl h3
    | nd hs hlo hsgn=>
    rename_i i n;have hn:=iZ hs;have hh:=mI hs l;rw[hlo] at hh;rw[hn] at hl;have hc':((n.l:Int)<aR A f∧(bX A ((i:Int)+2) l).2=1∧1≤c)∨Jc (jL U l)≤c:=by
     rcases hc with h | ⟨h,h'⟩ | h
     ·omega
     ·rw[hn] at h;exact .inl ⟨h,h'⟩
     ·exact .inr h
    rw[if_neg (by decide)];refine Nat.le_trans (Nat.add_le_add_right (Nat.add_le_add_left (NT _ _ _) _) 1) ?_;by_cases hnl:(n.l:Int)=l
    ·rw[if_pos hnl] at hh;rw[hh] at hc' ⊢;have hx0:∀ a0 a1:Int,y4 a0 a1 ((0:Nat):Int) n.hi 0=(a1,0):=fun _ _=>rfl;have hx1:∀ a0 a1:Int,y4 a0 a1 ((0:Nat):Int) n.hi 1=(a0,(n.hi:Int)):=fun _ _=>rfl;have hx2:∀ a0 a1:Int,y4 a0 a1 ((0:Nat):Int) n.hi 2=(a1,(n.hi:Int)):=fun _ _=>rfl;simp only[hx0,hx1,hx2];by_cases hlf:aR A f=l
     ·have hc':Jc (jL U l)≤c:=hc'.elim (fun h=>by omega) id;have e1:=hle (bX A f l).1 n.hi;have e2:=hle (bX A f l).2 n.hi;have e3:=vj U (l+1) (bX A f l).1;have e4:=vj U (l+1) (bX A f l).2;rw[show (((0:Nat):Int))=0 from rfl,e3,e4];simp;split <;> omega
     ·have ha:bX A f l=(f,0):=by
       rcases i_ hf with rfl | rfl | ⟨j,d,rfl,hs',hd⟩
       ·rfl
       ·rfl
       ·rw[mI hs',if_neg (by omega)]
      rw[ha];have e3:=vj U (l+1) f;have e4:=vj U (l+1) 0;have e5:=L_ U (l+1) n.hi;rw[show (((0:Nat):Int))=0 from rfl];simp only;rw[e3,e4,e5];rcases hc' with ⟨h6,h7,h8⟩ | h6
      ·have h7:(n.hi:Int)=1:=h7;rw[h7,show cJ U (l+1) f 1=0 from if_pos (.inr (.inr (.inr rfl)))];simp;exact h8
      ·have e1:=hle f n.hi;simp;omega
    ·rw[if_neg hnl] at hh;have hc':Jc (jL U l)≤c:=hc'.elim (fun h=>by omega) id;rw[hh];generalize bX A f l=a;obtain ⟨a0,a1⟩:=a;have hx0:y4 a0 a1 ((i:Int)+2) 0 0=(a1,(i:Int)+2):=rfl;have hx1:y4 a0 a1 ((i:Int)+2) 0 1=(a0,0):=rfl;have hx2:y4 a0 a1 ((i:Int)+2) 0 2=(a1,0):=rfl;simp only[hx0,hx1,hx2];have e1:=hle a0 ((i:Int)+2);have e2:=hle a1 ((i:Int)+2);rw[vj,vj];simp;omega
theorem G3 {room:Int}{A:Ar}{l lo hi:Nat}(h1:(l:Int)<aR A lo)(h2:(l:Int)<aR A hi)(he:(vL room A l lo hi).2.2=0):∃ i:Nat,(vL room A l lo hi).2.1=(i:Int)+2∧slot (vL room A l lo hi).1 i=some ⟨l,lo,hi⟩:=by
 unfold vL at he ⊢;rw[if_neg (by omega)] at he ⊢;simp only[Int.toNat_natCast] at he ⊢
 cases hf:ix A ⟨l,lo,hi⟩ with
 | some i=>exact ⟨i,by show ((i+2:Nat):Int)=_;omega,kp hf⟩
 | none=>
  rw[hf] at he;simp only at he ⊢;by_cases hr:room≤(kY A:Int)
  ·rw[if_pos hr] at he;cases he
  ·rw[if_neg hr];exact ⟨bS A,by show ((bS A+2:Nat):Int)=_;omega,by show slot (iQ A _) _=_;rw[fy,if_pos rfl]⟩
structure Dj (A:Ar) (m lv:Nat) (id:Int):Prop where
 sg:Sg A id
 lvl:(lv:Int)≤aR A id
 item:∀ k,lv≤k→(∀ j,lv≤j→j<24→m.testBit j=decide (j=k))→k<24→aR A id=(k:Int)∧(bX A id k).2=1
 none:(∀ j,lv≤j→j<24→m.testBit j=false)→id=1
theorem Dj.down {A:Ar}{m lv:Nat}{id:Int}(h:Dj A m (lv+1) id)(hb:m.testBit lv=false)(hlv:lv<24):Dj A m lv id:=
 ⟨h.sg,by have:=h.lvl;omega,fun k hk hj hk24=>h.item k (by
  rcases Nat.eq_or_lt_of_le hk with rfl | h
  ·have:=hj lv (Nat.le_refl _) hlv;rw[hb] at this;simp at this
  ·exact h) (fun j hj1=>hj j (by omega)) hk24,fun hj=>h.none fun j hj1=>hj j (by omega)⟩
theorem Dj.up {A A':Ar}{m lv i:Nat}{hi:Int}(h:Dj A m (lv+1) hi)(hx:Ext A A')(hb:m.testBit lv=true)(hs:slot A' i=some ⟨lv,0,hi.toNat⟩)(hlv:lv<24)(h0:0≤hi):Dj A' m lv ((i:Int)+2):=by
 have hl:=iZ hs;have e:((hi.toNat:Nat):Int)=hi:=Int.toNat_of_nonneg h0;refine ⟨.nd hs rfl (by show Sg A' ((hi.toNat:Nat):Int);rw[e];exact h.sg.ext hx),by rw[hl];exact Int.le_refl _,fun k hk hj hk24=>?_,fun hj=>by rw[hj lv (Nat.le_refl _) hlv] at hb;cases hb⟩;have hkl:lv=k:=by
  have:=hj lv (Nat.le_refl _) hlv;rw[hb] at this;exact of_decide_eq_true this.symm
 subst hkl;refine ⟨hl,?_⟩;rw[mI hs,if_pos rfl];show ((hi.toNat:Nat):Int)=1;rw[e];exact h.none fun j hj1 hj2=>by rw[hj j (by omega) hj2];exact decide_eq_false (by omega)
theorem Dj.ext {A A':Ar}{m lv:Nat}{id:Int}(h:Dj A m lv id)(hx:Ext A A'):Dj A' m lv id:=by
 have h0:0≤aR A id:=by have:=h.lvl;omega
 refine ⟨h.sg.ext hx,by rw[hx.lvl h0];exact h.lvl,fun k hk hj hk24=>?_,h.none⟩;obtain ⟨h1,h2⟩:=h.item k hk hj hk24;refine ⟨by rw[hx.lvl h0];exact h1,?_⟩;rcases i_ h0 with rfl | rfl | ⟨i,n,rfl,hs,_⟩
 ·exact h2
 ·exact h2
 ·rw[mI (hx _ _ hs)];rw[mI hs] at h2;exact h2
def E8 (w:World)(g r:Nat)(U:Nat→Bool)(room:Int)(sv:Value)(A:Ar)(L:List Int)(m lv c:Nat)(v:Value)(w':World):Prop:=
 ∃ A' sv' id e,v=.tuple #[.int .i64 id,.int .i64 e]∧(oF U room A A' c e∧(e=0→(L=[]→id=0)∧(L≠[]→Dj A' m lv id)))∧jA w w' (bF g r sv room A) (bF g r sv' room A')
def cN (lv:Nat)(b:Bool)(L:List Int):List Int:=L.filter fun x=>x.toNat.testBit lv==b
theorem _root_.Go.Dk.Hp.si {w0 w:World}{F:Nat→Prop}{L M:List cC}{e:TypeId}{sz n:Nat}{v:Value}{xs:List Value}{r:cC}(H:Hp w0 F w L M)(i j:Nat)(hij:i<j)(hi:L[i]?=some (own e sz v n xs))(hj:L[j]?=some r) :
  ∃ S,(sl S v sz n xs).ok w∧∀ x,S x→x<w.heap.size∧¬ r.foot x:=by
 obtain ⟨hi',ei⟩:=List.getElem?_eq_some_iff.1 hi;obtain ⟨hj',ej⟩:=List.getElem?_eq_some_iff.1 hj;have hd:=List.pairwise_iff_getElem.1 H.dis i j hi' hj' hij;rw[ei,ej] at hd;exact ⟨_,iv (H.get i hi),fun x hx=>⟨H.lt _ (List.mem_of_getElem? hi) x hx,hd x hx⟩⟩
theorem CV.Ag {w:World}{gz g r:Nat}{sv:Value}{room:Int}{A:Ar}{S:Nat→Prop}{v:Value}{sz n:Nat}{xs:List Value}(h:CV w gz g r sv room A)(hs:(sl S v sz n xs).ok w)(hS:∀ x,S x→x<w.heap.size∧¬ (bF g r sv room A).foot x) :
  Hp w (bF g r sv room A).foot w [bF g r sv room A] [an gz 205 #[(ah g)],sl S v sz n xs]:=
 Hp.ry (M:=[an gz 205 #[(ah g)],sl S v sz n xs]) h.ok (fun x hx=>qO h.ok x hx)
  (by
   intro s hs';rcases List.mem_cons.1 hs' with rfl | hs'
   ·exact h.z
   ·rw[List.mem_singleton] at hs';subst hs';exact hs)
  (by
   intro s hs' x hx;rcases List.mem_cons.1 hs' with rfl | hs'
   ·have hx:x=gz:=hx;subst hx;exact iV h.z
   ·rw[List.mem_singleton] at hs';subst hs';exact (hS x hx).1)
  (by
   intro s hs' x hx hx';rcases List.mem_cons.1 hs' with rfl | hs'
   ·have hx:x=gz:=hx;subst hx;exact h.dis hx'
   ·rw[List.mem_singleton] at hs';subst hs';exact (hS x hx).2 hx')
theorem Bw (m lv:Nat):((((m / 2^lv) &&&1:Nat):Int)==1)=m.testBit lv:=by
 rw[Nat.testBit_eq_decide_div_mod_eq,Nat.and_one_is_mod];generalize m / 2^lv=q;rw[Bool.eq_iff_iff,beq_iff_eq,decide_eq_true_iff];omega
theorem E9:enters prog 185=true:=by kernel_rfl
set_option maxHeartbeats 4000000 in
theorem NU {gz g r:Nat}{room:Int}{U:Nat→Bool}{m:Nat}(hm:m<2^24)(hU:∀ j,j<24→m.testBit j=true→U j=true):∀ (k lv:Nat) (L:List Int) (B:Option Addr) (d:Nat) (A:Ar) (sv:Value) (w:World) (S:Nat→Prop),lv+k=24→(L=[]∨L=[(m:Int)])→rZ U room A→CV w gz g r sv room A→(sl S (.slice B L.length d) 1 L.length (aA L)).ok w→(∀ x,S x→x<w.heap.size∧¬ (bF g r sv room A).foot x)→
  bt prog 185 [(ah gz),.slice B L.length d,.int .i64 (lv:Int)] w (E8 w g r U room sv A L m lv (if L=[] then 0 else jL U lv)):=by
 intro k
 induction k with
 | zero=>
  intro lv L B d A sv w S hk hL hA hz hs hS;refine ar (N:=71) func185 E9 rfl rfl rfl (by simp) ?_;have H:=hz.Ag hs hS;rcases hL with rfl | rfl
  ·refine aw (fun w'=>Hp w (bF g r sv room A).foot w' [bF g r sv room A] [an gz 205 #[(ah g)],sl S (.slice B ([]:List Int).length d) 1 ([]:List Int).length (aA ([]:List Int))]) ⟨(),trivial,H⟩ ?_;clear H;rintro ⟨⟩ u w1 H;refine ay underlying75 ?_;refine ag rfl ?_;exact ⟨A,sv,0,0,rfl,⟨oF.refl hA _,fun _=>⟨fun _=>rfl,fun h=>absurd rfl h⟩⟩,H.bc⟩
  ·refine aw (fun w'=>Hp w (bF g r sv room A).foot w' [bF g r sv room A] [an gz 205 #[(ah g)],sl S (.slice B [(m:Int)].length d) 1 [(m:Int)].length (aA [(m:Int)])]) ⟨(),trivial,H⟩ ?_;clear H;rintro ⟨⟩ u w1 H;refine ay underlying75 ?_;refine af rfl ?_;refine ag (beq_iff_eq.2 (by omega)) ?_;exact ⟨A,sv,1,0,rfl,⟨oF.refl hA _,fun _=>⟨fun h=>(by cases h),fun _=>⟨.one,by rw[j1 (.inr rfl)];omega,fun k hk _ hk24=>by omega,fun _=>rfl⟩⟩⟩,H.bc⟩
 | succ k ih=>
  intro lv L B d A sv w S hk hL hA hz hs hS;refine ar (N:=71) func185 E9 rfl rfl rfl (by simp) ?_;have H:=hz.Ag hs hS;refine aw (fun w'=>Hp w (bF g r sv room A).foot w' [bF g r sv room A] [an gz 205 #[(ah g)],sl S (.slice B L.length d) 1 L.length (aA L)]) ⟨(),trivial,H⟩ ?_;clear H;rintro ⟨⟩ u w1 H;by_cases hL0:L=[]
  ·subst hL0;refine ay underlying75 ?_;refine ag rfl ?_;exact ⟨A,sv,0,0,rfl,⟨oF.refl hA _,fun _=>⟨fun _=>rfl,fun h=>absurd rfl h⟩⟩,H.bc⟩
  obtain rfl:L=[(m:Int)]:=hL.resolve_left hL0;refine aw (fun w'=>Hp w (bF g r sv room A).foot w' [bF g r sv room A] [an gz 205 #[(ah g)],sl S (.slice B [(m:Int)].length d) 1 [(m:Int)].length (aA [(m:Int)])]) ?_ ?_
  ·refine ay underlying75 ?_;refine af rfl ?_;refine af (beq_eq_false_iff_ne.2 (by omega)) ?_;exact ⟨(),trivial,H⟩
  clear H;rintro ⟨⟩ u w2 H;refine ak (γ:=Unit) (fun _=>[(8,.slice none 0 0),(9,.slice none 0 0)]) (fun _ w'=>Hp w (bF g r sv room A).foot w' [own 3 1 (.slice none 0 0) 0 [],own 3 1 (.slice none 0 0) 0 [],bF g r sv room A] [an gz 205 #[(ah g)],sl S (.slice B [(m:Int)].length d) 1 [(m:Int)].length (aA [(m:Int)])]) ⟨(),⟨rfl,rfl,trivial⟩,(H.bx 3 1).bx 3 1⟩ ?_;clear H;rintro ⟨⟩ u w3 H;refine ak (γ:=Option Addr × Nat × Option Addr × Nat) (fun (B8,d8,B9,d9)=>[(8,.slice B8 (cN lv false [(m:Int)]).length d8),(9,.slice B9 (cN lv true [(m:Int)]).length d9)])
   (fun (B8,d8,B9,d9) w'=>Hp w (bF g r sv room A).foot w' [own 3 1 (.slice B8 (cN lv false [(m:Int)]).length d8) (cN lv false [(m:Int)]).length (aA (cN lv false [(m:Int)])),own 3 1 (.slice B9 (cN lv true [(m:Int)]).length d9) (cN lv true [(m:Int)]).length (aA (cN lv true [(m:Int)])),bF g r sv room A] [an gz 205 #[(ah g)],sl S (.slice B [(m:Int)].length d) 1 [(m:Int)].length (aA [(m:Int)])]) ?_ ?_
  ·refine ay underlying75 ?_;refine ax (γ:=Nat × Option Addr × Nat × Option Addr × Nat) (fun (i,B8,d8,B9,d9)=>[(24,.int .i64 (i:Int)),(8,.slice B8 (cN lv false ([(m:Int)].take i)).length d8),(9,.slice B9 (cN lv true ([(m:Int)].take i)).length d9)])
    (fun (i,B8,d8,B9,d9) w'=>i≤1∧Hp w (bF g r sv room A).foot w' [own 3 1 (.slice B8 (cN lv false ([(m:Int)].take i)).length d8) (cN lv false ([(m:Int)].take i)).length (aA (cN lv false ([(m:Int)].take i))),own 3 1 (.slice B9 (cN lv true ([(m:Int)].take i)).length d9) (cN lv true ([(m:Int)].take i)).length (aA (cN lv true ([(m:Int)].take i))),bF g r sv room A] [an gz 205 #[(ah g)],sl S (.slice B [(m:Int)].length d) 1 [(m:Int)].length (aA [(m:Int)])])
    (fun (i,_)=>1 - i) (0,none,0,none,0) ⟨rfl,rfl,rfl,trivial⟩ ⟨by decide,H⟩ ?_
   clear H;rintro ⟨i,B8,d8,B9,d9⟩ u w4 ⟨hi,H⟩;refine au (fun h7=>?_) (fun h7=>?_)
   ·have h7:(i:Int)<((1:Nat):Int):=h7;obtain rfl:i=0:=by omega
    refine ak (γ:=Option Addr × Nat × Option Addr × Nat) (fun (B8,d8,B9,d9)=>[(8,.slice B8 (cN lv false [(m:Int)]).length d8),(9,.slice B9 (cN lv true [(m:Int)]).length d9)])
     (fun (B8,d8,B9,d9) w'=>Hp w (bF g r sv room A).foot w' [own 3 1 (.slice B8 (cN lv false [(m:Int)]).length d8) (cN lv false [(m:Int)]).length (aA (cN lv false [(m:Int)])),own 3 1 (.slice B9 (cN lv true [(m:Int)]).length d9) (cN lv true [(m:Int)]).length (aA (cN lv true [(m:Int)])),bF g r sv room A] [an gz 205 #[(ah g)],sl S (.slice B [(m:Int)].length d) 1 [(m:Int)].length (aA [(m:Int)])]) ?_ ?_
    ·refine ak (γ:=Unit) (fun _=>[(11,.int .i64 (m:Int))]) (fun _ w'=>Hp w (bF g r sv room A).foot w' [own 3 1 (.slice B8 0 d8) 0 [],own 3 1 (.slice B9 0 d9) 0 [],bF g r sv room A] [an gz 205 #[(ah g)],sl S (.slice B [(m:Int)].length d) 1 [(m:Int)].length (aA [(m:Int)])]) ?_ ?_
     ·obtain ⟨gA,oA,rfl⟩:=(nh hs fun g hg=>(hS g hg).1).A (Nat.zero_lt_one);refine aq underlying75 a_ 0 rfl (Nat.zero_lt_one) (o':=oA) (by omega) ?_;refine H.DF (i:=0) 1 rfl aE (by omega) rfl ?_;exact ⟨(),⟨rfl,trivial⟩,H⟩
     clear H;rintro ⟨⟩ u w5 H
     cases hb:m.testBit lv with
     | true=>
      have e0:cN lv false [(m:Int)]=[]:=by unfold cN;simp[hb]
      have e1:cN lv true [(m:Int)]=[(m:Int)]:=by unfold cN;simp[hb]
      rw[e0,e1];refine ic (by omega) ?_;refine ib (b:=1) ?_ (by decide) ?_
      ·exact Nat.lt_of_le_of_lt (Nat.div_le_self _ _) (by omega)
      refine ag ((Bw m lv).trans hb) ?_;refine H.aX dy rfl ?_;clear H;intro g20 w6 H;refine H.cf 1 dy rfl rfl (by omega) (by omega) ?_;clear H;intro C2 e2 w6 H;exact ⟨(B8,d8,C2,e2),⟨rfl,rfl,trivial⟩,H⟩
     | false=>
      have e0:cN lv false [(m:Int)]=[(m:Int)]:=by unfold cN;simp[hb]
      have e1:cN lv true [(m:Int)]=[]:=by unfold cN;simp[hb]
      rw[e0,e1];refine ic (by omega) ?_;refine ib (b:=1) ?_ (by decide) ?_
      ·exact Nat.lt_of_le_of_lt (Nat.div_le_self _ _) (by omega)
      refine af ((Bw m lv).trans hb) ?_;refine H.aX dy rfl ?_;clear H;intro g20 w6 H;refine H.cf 0 dy rfl rfl (by omega) (by omega) ?_;clear H;intro C2 e2 w6 H;exact ⟨(C2,e2,B9,d9),⟨rfl,rfl,trivial⟩,H⟩
    clear H;rintro ⟨B8,d8,B9,d9⟩ u w5 H;exact ⟨(1,B8,d8,B9,d9),by show (1 - 1:Nat)<1 - 0;decide,⟨up (by omega),rfl,rfl,trivial⟩,by decide,H⟩
   ·have h7:¬ (i:Int)<((1:Nat):Int):=h7;obtain rfl:i=1:=by omega
    exact ⟨(B8,d8,B9,d9),⟨rfl,rfl,trivial⟩,H⟩
  clear H;rintro ⟨B8,d8,B9,d9⟩ u w4 H;have hw:(Value.int .i64 (IntKind.i64.wrap ((lv:Int)+1)))=.int .i64 ((lv+1:Nat):Int):=up (by omega);have hL8:cN lv false [(m:Int)]=[]∨cN lv false [(m:Int)]=[(m:Int)]:=by unfold cN;cases m.testBit lv <;> simp
  have hL9:cN lv true [(m:Int)]=[]∨cN lv true [(m:Int)]=[(m:Int)]:=by unfold cN;cases m.testBit lv <;> simp
  have hbit:(m.testBit lv=true∧cN lv false [(m:Int)]=[]∧cN lv true [(m:Int)]=[(m:Int)])∨(m.testBit lv=false∧cN lv false [(m:Int)]=[(m:Int)]∧cN lv true [(m:Int)]=[]):=by unfold cN;cases hb:m.testBit lv <;> simp[hb]
  have hl24:lv<24:=by omega
  have hrk:m.testBit lv=true→jL U (lv+1:Nat)+1≤jL U lv:=fun hb=>tG U hl24 (hU lv hl24 hb) (by omega);have hrm:jL U (lv+1:Nat)≤jL U lv:=kH U (by omega);generalize cN lv false [(m:Int)]=L8 at *;generalize cN lv true [(m:Int)]=L9 at *;have hcost:(if L8=[] then 0 else jL U (lv+1:Nat))+(if L9=[] then 0 else jL U (lv+1:Nat))+(if L9=[] then 0 else 1)≤(if [(m:Int)]=[] then 0 else jL U lv):=by
   have hne:[(m:Int)]≠[]:=by simp
   rcases hbit with ⟨hb,rfl,rfl⟩ | ⟨hb,rfl,rfl⟩
   ·have:=hrk hb;rw[if_pos rfl,if_neg hne,if_neg hne,if_neg hne];omega
   ·rw[if_pos rfl,if_pos rfl,if_neg hne,if_neg hne];omega
  refine ak (γ:=Int × Int × Ar × Value) (fun (id,e,_)=>[(12,.int .i64 id),(13,.int .i64 e)]) (fun (id,e,A1,sv1) w'=>(oF U room A A1 (if L8=[] then 0 else jL U (lv+1:Nat)) e∧(e=0→(L8=[]→id=0)∧(L8≠[]→Dj A1 m (lv+1) id)))∧
   Hp w (bF g r sv room A).foot w' [own 3 1 (.slice B9 L9.length d9) L9.length (aA L9),bF g r sv1 room A1] [an gz 205 #[(ah g)],sl S (.slice B [(m:Int)].length d) 1 [(m:Int)].length (aA [(m:Int)])]) ?_ ?_
  ·obtain ⟨S8,h8,hS8⟩:=H.si 0 2 (by decide) rfl rfl;have hc:=ih (lv+1) L8 B8 d8 A sv _ S8 (by omega) hL8 hA (jR (H.front 2 rfl)) h8 hS8;rw[← hw] at hc;refine aj hc ?_;rintro _ w5 ⟨A1,sv1,id,e,rfl,hd,ht⟩;exact ⟨(id,e,A1,sv1),⟨rfl,rfl,trivial⟩,hd,(((H.front 2 rfl).b5 0 rfl ht).front 1 rfl).forget.front 1 rfl⟩
  clear H;rintro ⟨lo,e,A1,sv1⟩ u w5 ⟨⟨hd1,hlo⟩,H⟩;refine aw (fun w'=>e=0∧
   Hp w (bF g r sv room A).foot w' [own 3 1 (.slice B9 L9.length d9) L9.length (aA L9),bF g r sv1 room A1] [an gz 205 #[(ah g)],sl S (.slice B [(m:Int)].length d) 1 [(m:Int)].length (aA [(m:Int)])]) ?_ ?_
  ·refine de (fun he=>?_) (fun he=>?_)
   ·exact ⟨A1,sv1,0,e,rfl,⟨hd1.mono (by omega),fun h=>absurd h he⟩,(H.front 1 rfl).bc⟩
   ·exact ⟨(),trivial,he,H⟩
  clear H;rintro ⟨⟩ u w6 ⟨rfl,H⟩;replace hlo:=hlo rfl;refine ak (γ:=Int × Int × Ar × Value) (fun (id,e,_)=>[(14,.int .i64 id),(13,.int .i64 e)]) (fun (id,e,A2,sv2) w'=>(oF U room A1 A2 (if L9=[] then 0 else jL U (lv+1:Nat)) e∧(e=0→(L9=[]→id=0)∧(L9≠[]→Dj A2 m (lv+1) id)))∧
   Hp w (bF g r sv room A).foot w' [bF g r sv2 room A2] [an gz 205 #[(ah g)],sl S (.slice B [(m:Int)].length d) 1 [(m:Int)].length (aA [(m:Int)])]) ?_ ?_
  ·obtain ⟨S9,h9,hS9⟩:=H.si 0 1 (by decide) rfl rfl;have hc:=ih (lv+1) L9 B9 d9 A1 sv1 _ S9 (by omega) hL9 hd1.arn (jR (H.front 1 rfl)) h9 hS9;rw[← hw] at hc;refine aj hc ?_;rintro _ w7 ⟨A2,sv2,id,e,rfl,hd,ht⟩;exact ⟨(id,e,A2,sv2),⟨rfl,rfl,trivial⟩,hd,(((H.front 1 rfl).b5 0 rfl ht).front 1 rfl).forget⟩
  clear H;rintro ⟨hi,e,A2,sv2⟩ u w7 ⟨⟨hd2,hhi⟩,H⟩;have hd12:=hd1.trans hd2;refine aw (fun w'=>e=0∧
   Hp w (bF g r sv room A).foot w' [bF g r sv2 room A2] [an gz 205 #[(ah g)],sl S (.slice B [(m:Int)].length d) 1 [(m:Int)].length (aA [(m:Int)])]) ?_ ?_
  ·refine de (fun he=>?_) (fun he=>?_)
   ·exact ⟨A2,sv2,0,e,rfl,⟨hd12.mono (by omega),fun h=>absurd h he⟩,H.bc⟩
   ·exact ⟨(),trivial,he,H⟩
  clear H;rintro ⟨⟩ u w8 ⟨rfl,H⟩;replace hhi:=hhi rfl;rcases hbit with ⟨hb,rfl,rfl⟩ | ⟨hb,rfl,rfl⟩
  ·obtain rfl:=hlo.1 rfl;have ho:=hhi.2 (by simp);have hne:hi≠0:=by
    intro h;have:=ho.sg
    cases this with
    | one=>cases h
    | nd _ _ _=>omega
   have h0:0≤hi:=ig (A:=A2) (by have:=ho.lvl;omega);have hs':=gX hd2.arn.ok (l:=0) (id:=hi) ⟨by omega,by have:=ho.lvl;omega⟩;obtain ⟨h,rfl⟩:∃ h:Nat,hi=(h:Int):=⟨hi.toNat,(Int.toNat_of_nonneg h0).symm⟩;have hlh:=ho.lvl;have hl2:((lv:Nat):Int)<aR A2 ((0:Nat):Int):=by have:=j1 (A:=A2) (id:=((0:Nat):Int)) (.inl rfl);omega
   have hn:mT room A2 (lv:Int) 0 (h:Int)=vL room A2 (lv:Int) ((0:Nat):Int) (h:Int):=if_neg hne;have hm:=yy (U:=U) hd2.arn (l:=(lv:Int)) (lo:=((0:Nat):Int)) (hi:=(h:Int)) (by omega) (by omega) (by rw[Int.toNat_natCast];exact hU lv hl24 hb) hl2 (by omega);have hsl:=G3 (room:=room) (A:=A2) (l:=lv) (lo:=0) (hi:=h) hl2 (by omega);rw[← hn] at hm hsl;refine aj (J1 (lv:Int) 0 (h:Int) (by omega) (by omega) (by omega) hd2.arn.ok _ (H.ro 0 rfl) (H.get 0 rfl)) ?_;rintro _ w9 ⟨sv3,rfl,ht⟩;rcases ht with ⟨h0,_⟩ | ⟨_,ht⟩
   ·exact absurd h0 hne
   ·generalize mT room A2 (lv:Int) 0 (h:Int)=N at hm hsl ht;obtain ⟨A3,id,e⟩:=N;refine ⟨A3,sv3,id,e,rfl,⟨(hd12.trans hm.1).mono hcost,fun he=>⟨fun hh=>by simp at hh,fun _=>?_⟩⟩,(H.b5 0 rfl ht).bc⟩;obtain ⟨i,hi,hs⟩:=hsl he;have hi:id=(i:Int)+2:=hi;rw[hi];exact ho.up hm.1.ext hb (by rw[Int.toNat_natCast];exact hs) hl24 (by omega)
  ·obtain rfl:=hhi.1 rfl;have ho:=hlo.2 (by simp);have hs':=gX hd1.arn.ok (l:=0) (id:=lo) ⟨by omega,by have:=ho.lvl;omega⟩;refine aj (J1 (lv:Int) lo 0 (by omega) (by omega) (by omega) hd2.arn.ok _ (H.ro 0 rfl) (H.get 0 rfl)) ?_;rintro _ w9 ⟨sv3,rfl,ht⟩;rcases ht with ⟨_,hk⟩ | ⟨hne,_⟩
   ·exact ⟨A2,sv2,lo,0,rfl,⟨hd12.mono (by simp at hcost ⊢;omega),fun _=>⟨fun hh=>by simp at hh,fun _=>(ho.down hb hl24).ext hd2.ext⟩⟩,(H.same hk).bc⟩
   ·exact absurd rfl hne
theorem Ki:enters prog 149=true:=by kernel_rfl
theorem Ma {gz g r:Nat}{room:Int}{U:Nat→Bool}{m:Nat}(hm:m<2^24)(hU:∀ j,j<24→m.testBit j=true→U j=true)(B:Option Addr)(d:Nat)(A:Ar)(sv:Value)(w:World)(S:Nat→Prop)(hA:rZ U room A)(hz:CV w gz g r sv room A)(hs:(sl S (.slice B 1 d) 1 1 (aA [(m:Int)])).ok w)(hS:∀ x,S x→x<w.heap.size∧¬ (bF g r sv room A).foot x) :
  bt prog 149 [(ah gz),.slice B 1 d] w (E8 w g r U room sv A [(m:Int)] m 0 (jL U 0)):=by
 refine ar (N:=28) func149 Ki rfl rfl rfl (by simp) ?_;have H:=hz.Ag hs hS;have h24:m<16777216:=hm;refine aw (fun w'=>Hp w (bF g r sv room A).foot w' [bF g r sv room A] [an gz 205 #[(ah g)],sl S (.slice B 1 d) 1 1 (aA [(m:Int)])]) ⟨(),trivial,H⟩ ?_;clear H;rintro ⟨⟩ u w1 H;refine aw (fun w'=>Hp w (bF g r sv room A).foot w' [bF g r sv room A] [an gz 205 #[(ah g)],sl S (.slice B 1 d) 1 1 (aA [(m:Int)])]) ?_ ?_
 ·refine pq ?_;refine af rfl ?_;exact ⟨(),trivial,H⟩
 clear H;rintro ⟨⟩ u w2 H;refine aw (fun w'=>Hp w (bF g r sv room A).foot w' [bF g r sv room A] [an gz 205 #[(ah g)],sl S (.slice B 1 d) 1 1 (aA [(m:Int)])]) ?_ ?_
 ·refine ay underlying75 ?_;refine ax (γ:=Nat) (fun i=>[(12,.int .i64 (i:Int))]) (fun i w'=>i≤1∧Hp w (bF g r sv room A).foot w' [bF g r sv room A] [an gz 205 #[(ah g)],sl S (.slice B 1 d) 1 1 (aA [(m:Int)])]) (fun i=>1 - i) 0 ⟨rfl,trivial⟩ ⟨by decide,H⟩ ?_;clear H;rintro i u w3 ⟨hi,H⟩;refine au (fun h7=>?_) (fun h7=>?_)
  ·have h7:(i:Int)<((1:Nat):Int):=h7;obtain rfl:i=0:=by omega
   obtain ⟨gA,oA,rfl⟩:=(nh hs fun g hg=>(hS g hg).1).A (Nat.zero_lt_one);refine aq underlying75 a_ 0 rfl (Nat.zero_lt_one) (o':=oA) (by omega) ?_;refine H.DF (i:=0) 1 rfl aE (by omega) rfl ?_
   iterate 3 refine af rfl ?_
   refine af (decide_eq_false (by omega)) ?_;exact ⟨1,by decide,⟨up (by omega),trivial⟩,by decide,H⟩
  ·exact ⟨(),trivial,H⟩
 clear H;rintro ⟨⟩ u w3 H;refine aj (NU hm hU 24 0 [(m:Int)] B d A sv _ S rfl (.inr rfl) hA (jR H) (H.ro 1 rfl) (fun x hx=>⟨H.rlt _ (.tail _ (.head _)) x hx,fun h=>H.rdis _ (.tail _ (.head _)) _ (.head _) x hx h⟩)) ?_;rintro _ w4 ⟨A',sv',id,e,rfl,h1,ht⟩;exact ⟨A',sv',id,e,rfl,h1,(H.b5 0 rfl ht).bc⟩
theorem Kj:enters prog 148=true:=by kernel_rfl
theorem c148 {w:World}{gz g r:Nat}{sv:Value}{room:Int}{A:Ar}{U:Nat→Bool}{f p l:Int}{c:Nat}(hA:rZ U room A)(hf:0≤aR A f)(hp:0≤aR A p)(hs:p=0∨Sg A p)(hl:min (aR A f) (aR A p)=l)(hc:CJ U A f p l c)(hz:CV w gz g r sv room A) :
  bt prog 148 [(ah gz),.int .i64 f,.int .i64 p] w (Bv w g r U room sv A l c fun _=>True):=by
 refine ar (N:=14) func148 Kj rfl rfl rfl (by simp) ?_;refine aj (G1 (l:=l) (c:=c) (fe:=182) (hi:=183) (U:=U) (X:=fun _=>True) hA hf hp hz fun gd rm w1 hit=>?_) (fun v w' h=>by
  obtain ⟨A',sv',id,e,rfl,h1,h2⟩:=h;exact ⟨A',sv',id,e,rfl,h1,h2⟩)
 exact (vk 25 f p l A [] sv w1 c hA (eL.nil A) hf hp hs hl (by omega) hc hit).mono fun v w' h=>h.mono (by omega) (Int.le_refl l) (Nat.le_refl c) fun _ _=>trivial
structure fY (U:Nat→Bool) (room:Int) (A A':Ar) (c:Nat) (e e':Int):Prop where
 ext:Ext A A'
 arn:rZ U room A'
 len:A'.length≤A.length+c
 err:e=0∧e'=0∨e'=5∧(e=5∨room<(A.length:Int)+c)
theorem fY.refl {U:Nat→Bool}{room:Int}{A:Ar}(h:rZ U room A){e:Int}(he:e=0∨e=5)(c:Nat):fY U room A A c e e:=⟨Ext.refl A,h,Nat.le_add_right _ _,by omega⟩
theorem fY.trans {U:Nat→Bool}{room:Int}{A B C:Ar}{c d:Nat}{e e' e'':Int}(h:fY U room A B c e e')(k:fY U room B C d e' e''):fY U room A C (c+d) e e'':=
 ⟨h.ext.trans k.ext,k.arn,by have:=h.len;have:=k.len;omega,by have:=h.len;have:=h.err;have:=k.err;omega⟩
theorem fY.mono {U:Nat→Bool}{room:Int}{A B:Ar}{c d:Nat}{e e':Int}(h:fY U room A B c e e')(hcd:c≤d):fY U room A B d e e':=
 ⟨h.ext,h.arn,by have:=h.len;omega,by have:=h.err;omega⟩
theorem fY.two {U:Nat→Bool}{room:Int}{A B:Ar}{c:Nat}{e e':Int}(h:fY U room A B c e e'):e'=0∨e'=5:=by have:=h.err;omega
def tJ (ce e:Int):Int:=if ce=0 then e else ce
theorem lp {U:Nat→Bool}{room:Int}{A B:Ar}{c:Nat}{ce e:Int}(h:oF U room A B c e)(hc:ce=0∨ce=5):fY U room A B c ce (tJ ce e):=by
 have:=h.err;refine ⟨h.ext,h.arn,h.len,?_⟩;unfold tJ;split <;> omega
def nG (ce e id:Int):Int:=if tJ ce e=0 then id else 0
theorem q4 {ce e:Int}(id:Int)(hc:ce=0∨ce=5):(e=0∧nG ce e id=id)∨nG ce e id=0:=by
 unfold nG tJ;rcases hc with rfl | rfl
 ·by_cases h:e=0
  ·exact .inl ⟨h,by rw[if_pos rfl,if_pos h]⟩
  ·exact .inr (by rw[if_pos rfl,if_neg h])
 ·exact .inr rfl
theorem q5 {A:Ar}{ce e id l:Int}(h:e=0→At A l id)(h0:0≤l)(hl:l≤24)(hc:ce=0∨ce=5):At A l (nG ce e id):=by
 rcases q4 (e:=e) id hc with ⟨h1,h2⟩ | h2
 ·rw[h2];exact h h1
 ·rw[h2];exact At.end (.inl rfl) h0 hl
def iM (gc gz:Nat)(ce:Int):cC:=an gc 208 #[(ah gz),.int .i64 ce]
theorem lr (g:Nat)(w:World):(Instr.fieldAt 208 (ah g) 0).run prog w=.ok (ah g) w:=by kernel_rfl
theorem mJ (g:Nat)(w:World):(Instr.fieldAt 208 (ah g) 1).run prog w=.ok (.pointer (some ⟨g,1,none⟩)) w:=by kernel_rfl
theorem nH:cH prog 26=some false:=by kernel_rfl
theorem jn:bB prog 26=some 1:=by kernel_rfl
theorem Kk:enters prog 146=true:=by kernel_rfl
theorem c146 {gc gz:Nat}(ce id e:Int)(w:World)(h:(iM gc gz ce).ok w) :
  bt prog 146 [(ah gc),.int .i64 id,.int .i64 e] w fun v w'=>v=.int .i64 (nG ce e id)∧jA w w' (iM gc gz ce) (iM gc gz (tJ ce e)):=by
 refine ar (N:=22) func146 Kk rfl rfl rfl (by simp) ?_;have H:Hp w (iM gc gz ce).foot w [iM gc gz ce] []:=Hp.Iv h (fun x hx=>by have hx:x=gc:=hx;subst hx;exact iV h);refine aw (fun w'=>Hp w (iM gc gz ce).foot w' [iM gc gz ce] []) ⟨(),trivial,H⟩ ?_;clear H;rintro ⟨⟩ u w1 H;refine aw (fun w'=>Hp w (iM gc gz ce).foot w' [iM gc gz (tJ ce e)] []) ?_ ?_
 ·refine aa (mJ _) ?_;refine H.load 0 rfl nH rfl ?_;refine cr (fun h0=>?_) (fun h0=>?_)
  ·have h0:ce=0:=h0;refine aa (mJ _) ?_;refine H.store 0 rfl jn (Nat.le_of_ble_eq_true rfl) rfl ?_;clear H;intro w2 H;exact ⟨(),trivial,by unfold tJ;rw[if_pos h0];exact H⟩
  ·have h0:ce≠0:=h0;exact ⟨(),trivial,by unfold tJ;rw[if_neg h0];exact H⟩
 clear H;rintro ⟨⟩ u w2 H;unfold nG;generalize tJ ce e=e2 at *;refine aw (fun w'=>e2=0∧Hp w (iM gc gz ce).foot w' [iM gc gz e2] []) ?_ ?_
 ·refine aa (mJ _) ?_;refine H.load 0 rfl nH rfl ?_;refine de (fun h0=>?_) (fun h0=>?_)
  ·exact ⟨by rw[if_neg h0];rfl,H.bc⟩
  ·exact ⟨(),trivial,h0,H⟩
 clear H;rintro ⟨⟩ u w3 ⟨rfl,H⟩;exact ⟨by rw[if_pos rfl];rfl,H.bc⟩
def yA (gc:Nat)(v:Value):cC:=⟨fun x=>x=gc,fun w=>w.cell? ⟨gc,0,none⟩=some v,fun w w' h hw=>by
 rw[← hw];unfold World.cell?;simp only;rw[h gc rfl]⟩
def cR (g r:Nat)(sv:Value)(room:Int)(A:Ar)(gc gz:Nat)(ce:Int):cC:=rS [bF g r sv room A,iM gc gz ce]
def cM (gz g:Nat):List cC:=[an gz 205 #[(ah g)]]
structure KV (w:World) (gz gc g r:Nat) (sv:Value) (room:Int) (A:Ar) (ce:Int):Prop where
 z:(an gz 205 #[(ah g)]).ok w
 ok:(cR g r sv room A gc gz ce).ok w
 dis:¬ (cR g r sv room A gc gz ce).foot gz
def E_ (w:World)(gz gc g r:Nat)(U:Nat→Bool)(room:Int)(sv:Value)(A:Ar)(ce l:Int)(c:Nat)(v:Value)(w':World):Prop:=
 ∃ A' sv' ce' id,v=.int .i64 id∧(fY U room A A' c ce ce'∧At A' l id)∧jA w w' (cR g r sv room A gc gz ce) (cR g r sv' room A' gc gz ce')
section
variable {w0 w:World} {F:Nat→Prop} {L M:List cC} {gz gc g r:Nat} {sv:Value} {room:Int} {A:Ar} {ce:Int} {U:Nat→Bool} {l m:Int} {c d:Nat}
theorem _root_.Go.Dk.Hp.tK (H:Hp w0 F w L M)(n:Nat)(hn:L[n]?=some (iM gc gz ce)):Hp w0 F w [yA gc (ah gz)] M:=
 (H.b6 [n] (by simp) (L':=[iM gc gz ce]) (by simp[hn])).re (fun h=>(aQ h 0).trans rfl) (fun x hx=>hx)
theorem KV.start (h:KV w gz gc g r sv room A ce):Hp w (cR g r sv room A gc gz ce).foot w [bF g r sv room A,iM gc gz ce] (cM gz g):=
 (Hp.ry (M:=cM gz g) h.ok (fun x ⟨q,hq,hx⟩=>h.ok.2.1 q hq x hx) (by intro s hs;obtain rfl:=List.mem_singleton.1 hs;exact h.z)
  (by intro s hs x hx;obtain rfl:=List.mem_singleton.1 hs;have hx:x=gz:=hx;subst hx;exact iV h.z)
  (by intro s hs x hx hx';obtain rfl:=List.mem_singleton.1 hs;have hx:x=gz:=hx;subst hx;exact h.dis hx')).split
theorem iN (H:Hp w0 F w (bF g r sv room A::iM gc gz ce::L) M):Hp w0 F w (cR g r sv room A gc gz ce::L) M:=Hp.join (Ls:=[bF g r sv room A,iM gc gz ce]) H
theorem Ah (H:Hp w0 F w (cR g r sv room A gc gz ce::L) (cM gz g)):KV w gz gc g r sv room A ce:=
 ⟨H.ro 0 rfl,H.get 0 rfl,fun h=>H.rdis _ (.head _) _ (.head _) gz rfl h⟩
end
theorem Kl:enters prog 178=true:=by kernel_rfl
theorem NV {w:World}{gz gc g r:Nat}{sv:Value}{room:Int}{A:Ar}{ce:Int}{U:Nat→Bool}{f:Int}{k:Nat}(hk:k<24)(hU:U k=true)(hce:ce=0∨ce=5)(hA:rZ U room A)(hf:(k:Int)<aR A f)(hit:KV w gz gc g r sv room A ce) :
  bt prog 178 [(ah gc),.int .i64 f,.int .i64 (k:Int)] w (E_ w gz gc g r U room sv A ce k (jL U 0+1)):=by
 refine ar (N:=29) func178 Kl rfl rfl rfl (by simp) ?_;have H:=hit.start;refine aw (fun w'=>Hp w (cR g r sv room A gc gz ce).foot w' [bF g r sv room A,iM gc gz ce] (cM gz g)) ⟨(),trivial,H⟩ ?_;clear H;rintro ⟨⟩ u w1 H;refine H.fg [yA gc (ah gz)] (fun u h=>h.tK 1 rfl) eS (by kernel_rfl) ?_;clear H;intro w2 H;refine quiet _ (fun w H=>aa (lr _) ae) ?_;refine quiet _ (fun w H=>aB iJ (H.get 0 rfl) ae) ?_;refine quiet _ (fun w H=>aa (lr _) ae) ?_;refine quiet _ (fun w H=>aB iJ (H.get 0 rfl) ae) ?_;refine quiet _ (fun w H=>cZ (by omega) ae) ?_;refine H.aX dy rfl ?_;clear H;intro gs w3 H;replace H:=H.pf (l:=1) (sz:=1) rfl (by decide);refine ⟨.inl (H.tK 2 rfl),?_⟩;obtain ⟨S,hs,hS⟩:=H.si 0 1 (by decide) rfl rfl;have hbits:∀ j,(2^k).testBit j=decide (j=k):=fun j=>by rw[Nat.testBit_two_pow];simp[eq_comm]
 have hlt:2^k<2^24:=Nat.pow_lt_pow_right (by decide) hk;refine aj (Ma (U:=U) (m:=2^k) hlt (fun j _ hj=>by rw[hbits] at hj;rw[of_decide_eq_true hj];exact hU) _ _ A sv _ S hA (jR (H.front 1 rfl)) hs hS) ?_;rintro _ w4 ⟨A1,sv1,id1,e1,rfl,⟨hd1,ho⟩,ht1⟩;replace H:=((H.b5 1 rfl ht1).forget);refine ⟨.inl (H.tK 1 rfl),?_⟩;refine aj (c146 ce id1 e1 _ (H.get 1 rfl)) ?_;rintro _ w5 ⟨rfl,ht2⟩;replace H:=H.b5 1 rfl ht2;refine ⟨.inl (H.tK 1 rfl),?_⟩;have hc1:=lp hd1 hce;have hp:(nG ce e1 id1=0∨Sg A1 (nG ce e1 id1))∧(k:Int)≤aR A1 (nG ce e1 id1)∧(nG ce e1 id1=0∨aR A1 (nG ce e1 id1)=(k:Int)∧(bX A1 (nG ce e1 id1) k).2=1):=by
  rcases q4 (e:=e1) id1 hce with ⟨he,h⟩ | h
  ·obtain ⟨h1,h2⟩:=((ho he).2 (by simp)).item k (Nat.zero_le _) (fun j _ _=>hbits j) hk;rw[h];exact ⟨.inr ((ho he).2 (by simp)).sg,by omega,.inr ⟨h1,h2⟩⟩
  ·rw[h];exact ⟨.inl rfl,by rw[j1 (.inl rfl)];omega,.inl rfl⟩
 generalize nG ce e1 id1=p at hp;generalize tJ ce e1=ce1 at hc1 H;have hf1:aR A1 f=aR A f:=hc1.ext.lvl (by omega);refine aj (c148 (U:=U) (f:=f) (p:=p) (c:=1) hc1.arn (by omega) (by omega) hp.1 rfl ?_ (jR H)) ?_
 ·rcases hp.2.2 with h | ⟨h1,h2⟩
  ·exact .inl (.inr (.inl h))
  ·refine .inr (.inl ⟨by omega,?_,Nat.le_refl 1⟩);rw[Int.min_eq_right (by omega),h1];exact h2
 rintro _ w6 ⟨A2,sv2,id2,e2,rfl,⟨hd2,ha2⟩,ht3⟩;replace H:=H.b5 0 rfl ht3;refine ⟨.inl (H.tK 1 rfl),?_⟩;refine aj (c146 ce1 id2 e2 _ (H.get 1 rfl)) ?_;rintro _ w7 ⟨rfl,ht4⟩;replace H:=H.b5 1 rfl ht4;refine ⟨.inl (H.tK 1 rfl),?_⟩;exact ⟨A2,sv2,_,_,rfl,⟨hc1.trans (lp hd2 hc1.two),q5 (fun he=>(ha2 he).1.mono (by omega) (by omega)) (by omega) (by omega) hc1.two⟩,(iN H).bc⟩
theorem Km:cH prog 241=some true:=by kernel_rfl
theorem G4:bB prog 241=some 8:=by kernel_rfl
theorem Kn (f:Bool→Nat)(b:Bool){w:World}{kk:Value→World→Prop}(h:kk (sv (f b)) w):sw prog 241 (.agg (a2 f)) (.int .i64 (bN b:Int)) w kk:=by
 unfold sw;refine ⟨_,w,?_,h⟩
 cases b <;> kernel_rfl
theorem _root_.Go.Dk.Hp.G5 {w0 w:World}{F:Nat→Prop}{L M Ls:List cC}{gc gz:Nat}{ce:Int}(H:Hp w0 F w L M)(is:List Nat)(hn:is.Nodup)(hL:is.map (fun i=>L[i]?)=(iM gc gz ce::Ls).map some):Hp w0 F w (yA gc (ah gz)::Ls) M:=
 (H.b6 is hn hL).re (fun h=>(aQ h 0).trans rfl) (fun x hx=>hx)
def G6 (U:Nat→Bool)(c i:Nat):Nat:=c+(2^jL U ((2*(i+1):Nat):Int) - 1)+(jL U 0+1)+(2^jL U ((2*i:Nat):Int) - 1)
def Bz (U:Nat→Bool):Nat→Nat→Nat
 | 0,_=>0
 | k+1,i=>Bz U k (i+1)+2*G6 U (Bz U k (i+1)) i
theorem yB (s i:Nat)(b:Bool):aV s i b<2^256:=dm _
theorem Fa:enters prog 145=true:=by kernel_rfl
set_option maxHeartbeats 4000000 in
theorem c145 {gz gc g r:Nat}{room:Int}{U:Nat→Bool}{n:Nat}(hn:n≤8)(hU:∀ j,j<2*n→U j=true):∀ (k i s:Nat) (sv0:Value) (A:Ar) (ce:Int) (w:World),i+k=n→ck s (bn n)→s<2^256→(∀ j,j<i→uy n s j)→(ce=0∨ce=5)→rZ U room A→KV w gz gc g r sv0 room A ce→
  bt prog 145 [(ah gc),sv s,sv (bn n),.int .i64 (n:Int),.int .i64 (i:Int)] w (E_ w gz gc g r U room sv0 A ce ((2*i:Nat):Int) (Bz U k i)):=by
 intro k
 induction k with
 | zero=>
  intro i s sv0 A ce w hk hs hs2 hind hce hA hit;refine ar (N:=99) func145 Fa rfl rfl rfl (by simp) ?_;have H:=hit.start;obtain rfl:i=n:=by omega
  refine H.box 86 (sv s) (cs:=sc s) rfl ?_;clear H;intro g6 w1 H;refine H.box 86 (sv (bn i)) (cs:=sc (bn i)) rfl ?_;clear H;intro g7 w2 H;replace H:=H.b6 [2,3,0,1] (L':=[bF g r sv0 room A,iM gc gz ce,an g7 86 (sc (bn i)),an g6 86 (sc s)]) (by decide) rfl;have hdone:∀ id:Int,(id=0∨id=1)→At A ((2*i:Nat):Int) id:=fun id h=>At.end h (by omega) (by omega);refine aa (mJ _) ?_;refine H.load 1 rfl nH rfl ?_;refine de (fun h2=>?_) (fun h2=>?_)
  ·refine ag (bne_iff_ne.2 (by omega)) ?_
   iterate 2 refine ag (bne_iff_ne.2 (by omega)) ?_
   refine ag rfl ?_;exact ⟨A,sv0,ce,0,rfl,⟨fY.refl hA hce _,hdone 0 (.inl rfl)⟩,(iN H).bc⟩
  ·refine H.ai 3 rfl aD av ?_;refine af (bne_eq_false_iff_eq.2 (by omega)) ?_;refine s4 ?_;refine af (bne_eq_false_iff_eq.2 (by omega)) ?_;refine fD (by first | assumption | decide) (by first | assumption | decide) ?_;refine af (bne_eq_false_iff_eq.2 (by omega)) ?_;by_cases h3:s=0
   ·refine ag (beq_iff_eq.2 h3) ?_;exact ⟨A,sv0,ce,0,rfl,⟨fY.refl hA hce _,hdone 0 (.inl rfl)⟩,(iN H).bc⟩
   ·refine af (beq_eq_false_iff_ne.2 h3) ?_;refine H.ai 3 rfl aD av ?_;refine H.ai 2 rfl aD av ?_;refine fD hs2 (jW _) ?_;refine ag (beq_iff_eq.2 (Bl hn hs hind h3)) ?_;exact ⟨A,sv0,ce,1,rfl,⟨fY.refl hA hce _,hdone 1 (.inr rfl)⟩,(iN H).bc⟩
 | succ k ih=>
  intro i s sv0 A ce w hk hs hs2 hind hce hA hit;refine ar (N:=99) func145 Fa rfl rfl rfl (by simp) ?_;have H:=hit.start;have hi:i<n:=by omega
  have hdone:∀ id:Int,(id=0∨id=1)→At A ((2*i:Nat):Int) id:=fun id h=>At.end h (by omega) (by omega);refine ak (γ:=Nat × Nat) (fun (g6,g7)=>[(6,(ah g6)),(7,(ah g7))]) (fun (g6,g7) w'=>Hp w (cR g r sv0 room A gc gz ce).foot w' [bF g r sv0 room A,iM gc gz ce,an g7 86 (sc (bn n)),an g6 86 (sc s)] (cM gz g)) ?_ ?_
  ·refine H.box 86 (sv s) (cs:=sc s) rfl ?_;clear H;intro g6 w1 H;refine H.box 86 (sv (bn n)) (cs:=sc (bn n)) rfl ?_;clear H;intro g7 w2 H;exact ⟨(g6,g7),⟨rfl,rfl,trivial⟩,H.b6 [2,3,0,1] (by decide) rfl⟩
  clear H;rintro ⟨g6,g7⟩ u w1 H;refine aw (fun w'=>Hp w (cR g r sv0 room A gc gz ce).foot w' [bF g r sv0 room A,iM gc gz ce,an g7 86 (sc (bn n)),an g6 86 (sc s)] (cM gz g)) ?_ ?_
  ·refine aa (mJ _) ?_;refine H.load 1 rfl nH rfl ?_;refine de (fun h2=>?_) (fun h2=>?_)
   ·refine ag (bne_iff_ne.2 (by omega)) ?_
    iterate 2 refine ag (bne_iff_ne.2 (by omega)) ?_
    refine ag rfl ?_;exact ⟨A,sv0,ce,0,rfl,⟨fY.refl hA hce _,hdone 0 (.inl rfl)⟩,(iN H).bc⟩
   ·refine H.ai 3 rfl aD av ?_;refine af (bne_eq_false_iff_eq.2 (by omega)) ?_;refine s4 ?_;refine af (bne_eq_false_iff_eq.2 (by omega)) ?_;refine fD (by first | assumption | decide) (by first | assumption | decide) ?_;refine af (bne_eq_false_iff_eq.2 (by omega)) ?_;by_cases h3:s=0
    ·refine ag (beq_iff_eq.2 h3) ?_;exact ⟨A,sv0,ce,0,rfl,⟨fY.refl hA hce _,hdone 0 (.inl rfl)⟩,(iN H).bc⟩
    ·refine af (beq_eq_false_iff_ne.2 h3) ?_;refine H.ai 3 rfl aD av ?_;refine H.ai 2 rfl aD av ?_;refine fD hs2 (jW _) ?_;refine aF (fun h4=>?_) (fun h4=>?_)
     ·exact ⟨A,sv0,ce,1,rfl,⟨fY.refl hA hce _,hdone 1 (.inr rfl)⟩,(iN H).bc⟩
     ·exact ⟨(),trivial,H⟩
  clear H;rintro ⟨⟩ u w2 H;refine ak (γ:=Nat) (fun g11=>[(11,(ah g11))]) (fun g11 w'=>Hp w (cR g r sv0 room A gc gz ce).foot w' [an g11 241 (a2 fun _=>0),bF g r sv0 room A,iM gc gz ce,an g7 86 (sc (bn n)),an g6 86 (sc s)] (cM gz g)) ?_ ?_
  ·refine H.alloc 241 (cs:=a2 fun _=>0) wu rfl ?_;clear H;intro g11 w3 H;exact ⟨g11,⟨rfl,trivial⟩,H⟩
  clear H;rintro g11 u w3 H;refine aw (fun w'=>Hp w (cR g r sv0 room A gc gz ce).foot w' [an g11 241 (a2 (aV s i)),bF g r sv0 room A,iM gc gz ce,an g7 86 (sc (bn n))] (cM gz g)) ?_ ?_
  ·refine ax (γ:=Nat × (Bool→Nat)) (fun (k,_)=>[(33,.int .i64 (k:Int))]) (fun (k,f) w'=>(k≤2∧∀ b,bN b<k→f b=aV s i b)∧Hp w (cR g r sv0 room A gc gz ce).foot w' [an g11 241 (a2 f),bF g r sv0 room A,iM gc gz ce,an g7 86 (sc (bn n)),an g6 86 (sc s)] (cM gz g)) (fun (k,_)=>2 - k) (0,fun _=>0) ⟨rfl,trivial⟩ ⟨⟨by decide,fun b hb=>absurd hb (Nat.not_lt_zero _)⟩,H⟩ ?_;clear H;rintro ⟨k',f⟩ u w4 ⟨⟨hk',hfg⟩,H⟩;refine au (fun h7=>?_) (fun h7=>?_)
   ·obtain ⟨b,rfl⟩:∃ b,k'=bN b:=by
     have:k'=0∨k'=1:=by omega
     rcases this with rfl | rfl
     ·exact ⟨false,rfl⟩
     ·exact ⟨true,rfl⟩
    have hb1:bN b<2:=by unfold bN;cases b <;> decide
    refine aw (fun w'=>Hp w (cR g r sv0 room A gc gz ce).foot w' [an g11 241 (a2 (GI f b (aV s i b))),bF g r sv0 room A,iM gc gz ce,an g7 86 (sc (bn n)),an g6 86 (sc s)] (cM gz g)) ?_ ?_
    ·refine ak (γ:=Unit) (fun _=>[(12,.int .i64 (bN b:Int))]) (fun _ w'=>Hp w (cR g r sv0 room A gc gz ce).foot w' [an g11 241 (a2 f),bF g r sv0 room A,iM gc gz ce,an g7 86 (sc (bn n)),an g6 86 (sc s)] (cM gz g)) ⟨(),⟨rfl,trivial⟩,H⟩ ?_;clear H;rintro ⟨⟩ u w5 H;have hc:∀ u,bt prog 177 [sv s,.int .i64 (i:Int),.bool (((bN b:Nat):Int)==1)] u fun r w'=>r=sv (cF s i b)∧aT u w':=fun u=>by cases b <;> exact xT s i _ (by omega) u
     refine H.ai 4 rfl aD av ?_;refine aj (hc _) ?_;rintro _ w6 ⟨rfl,hk6⟩;replace H:=H.same hk6;refine aj (Nx _ i (xf s i b) (by omega) _) ?_;rintro _ w7 ⟨rfl,hk7⟩;replace H:=H.same hk7;refine aK underlying241 av (bN b) rfl hb1 (o':=bN b*4) (by omega) ?_;refine H.fF 0 rfl av (by rw[wv];show bN b*4+4≤8;omega) (fl _) (EE f b _) ?_;clear H;intro w8 H;exact ⟨(),trivial,H⟩
    ·clear H;rintro ⟨⟩ u w5 H;exact ⟨(bN b+1,GI f b (aV s i b)),by show 2 - (bN b+1)<2 - bN b;omega,⟨up (by omega),trivial⟩,⟨by show bN b+1≤2;omega,fun c hc=>by
      unfold GI;by_cases he:c=b
      ·subst he;simp
      ·rw[if_neg he];refine hfg c ?_;have hc:bN c<bN b+1:=hc
       cases b <;> cases c <;> simp_all[bN]⟩,H⟩
   ·have e1:f=aV s i:=funext fun b=>hfg b (by unfold bN;cases b <;> simp <;> omega);subst e1;exact ⟨(),trivial,H.b6 [0,1,2,3] (by decide) rfl⟩
  clear H;rintro ⟨⟩ u w4 H;have hw1:(Value.int .i64 (IntKind.i64.wrap ((i:Int)+1)))=.int .i64 ((i+1:Nat):Int):=up (by omega);have sub1:∀ b,ck (aV s i b) (bn n):=fun b=>lW hn hs hi b;have ind1:∀ b j,j<i+1→uy n (aV s i b) j:=fun b j hj=>nC hn hs hi b (fun h=>hind j h) (by omega);have hpow:((2*(i+1):Nat):Int)≤24:=by omega
  refine ak (γ:=Int × Ar × Value × Int) (fun (id,_)=>[(13,.int .i64 id)]) (fun (id,A1,sv1,ce1) w'=>(fY U room A A1 (Bz U k (i+1)) ce ce1∧At A1 ((2*(i+1):Nat):Int) id)∧Hp w (cR g r sv0 room A gc gz ce).foot w' [bF g r sv1 room A1,iM gc gz ce1,an g11 241 (a2 (aV s i)),an g7 86 (sc (bn n))] (cM gz g)) ?_ ?_
  ·refine H.fg [an g11 241 (a2 (aV s i)),an g7 86 (sc (bn n))] (fun u h=>h.b6 [0,3] (by decide) rfl) eS (by kernel_rfl) ?_;clear H;intro w5 H;refine quiet _ (fun w H=>aK underlying241 av 0 rfl (by omega) (o':=0) rfl ae) ?_;refine quiet (sv (aV s i false)) (fun w H=>H.cW 0 rfl (bH (aV s i false)) aD av (fun j v hj=>by have:=lk (aV s i) false j v hj;rwa [show bN false*4+j=0+j by unfold bN;simp] at this) ae) ?_;refine quiet _ (fun w H=>aK underlying241 av 1 rfl (by omega) (o':=4) rfl ae) ?_;refine quiet (sv (aV s i true)) (fun w H=>H.cW 0 rfl (bH (aV s i true)) aD av (fun j v hj=>by have:=lk (aV s i) true j v hj;rwa [show bN true*4+j=4+j by unfold bN;simp] at this) ae) ?_;refine aj (c53 _ _ _) ?_;rintro _ w6 ⟨rfl,hk6⟩;replace H:=H.same hk6;refine ⟨.inl (H.b6 [0,3] (by decide) rfl),?_⟩;refine quiet (sv (bn n)) (fun w H=>H.ai 1 rfl aD av ae) ?_;have hc:=ih (i+1) (aV s i false &&&aV s i true) sv0 A ce w6 (by omega) (fun p hp=>sub1 false p (by rw[Nat.testBit_and,Bool.and_eq_true] at hp;exact hp.1)) (Nat.lt_of_le_of_lt Nat.and_le_left (yB s i false)) (fun j hj=>Bk (ind1 _ j hj) (ind1 _ j hj)) hce hA (Ah (iN (H.b6 [1,2,0,3] (L':=[bF g r sv0 room A,iM gc gz ce,an g11 241 (a2 (aV s i)),an g7 86 (sc (bn n))]) (by decide) rfl)));rw[← hw1] at hc;refine aj hc ?_;rintro _ w7 ⟨A1,sv1,ce1,id,rfl,hd,ht⟩;replace H:=((iN (H.b6 [1,2,0,3] (L':=[bF g r sv0 room A,iM gc gz ce,an g11 241 (a2 (aV s i)),an g7 86 (sc (bn n))]) (by decide) rfl)).b5 0 rfl ht).split;refine ⟨.inl (H.b6 [2,3] (by decide) rfl),?_⟩;exact ⟨(id,A1,sv1,ce1),⟨rfl,trivial⟩,hd,H⟩
  clear H;rintro ⟨com,A1,sv1,ce1⟩ u w5 ⟨⟨hd1,hcom⟩,H⟩;refine ak (γ:=Unit) (fun _=>[(14,.int .i64 com)]) (fun _ w'=>Hp w (cR g r sv0 room A gc gz ce).foot w' [bF g r sv1 room A1,iM gc gz ce1,an g11 241 (a2 (aV s i)),an g7 86 (sc (bn n))] (cM gz g)) ⟨(),⟨rfl,trivial⟩,H⟩ ?_;clear H;rintro ⟨⟩ u w6 H;refine ak (γ:=Int × Ar × Value × Int) (fun (id,_)=>[(14,.int .i64 id)]) (fun (id,A2,sv2,ce2) w'=>(fY U room A A2 (Bz U (k+1) i) ce ce2∧At A2 ((2*i:Nat):Int) id)∧Hp w (cR g r sv0 room A gc gz ce).foot w' [bF g r sv2 room A2,iM gc gz ce2] (cM gz g)) ?_ ?_
  ·refine H.ai 2 rfl Km G4 ?_;replace H:=H.b6 [0,1,3] (L':=[bF g r sv1 room A1,iM gc gz ce1,an g7 86 (sc (bn n))]) (by decide) rfl;refine ax (γ:=Nat × Int × Ar × Value × Int) (fun (q,id,_)=>[(59,.int .i64 (q:Int)),(14,.int .i64 id)]) (fun (q,id,A2,sv2,ce2) w'=>(q≤2∧fY U room A A2 (Bz U k (i+1)+q*G6 U (Bz U k (i+1)) i) ce ce2∧Ext A1 A2∧At A2 ((2*i:Nat):Int) id)∧Hp w (cR g r sv0 room A gc gz ce).foot w' [bF g r sv2 room A2,iM gc gz ce2,an g7 86 (sc (bn n))] (cM gz g)) (fun (q,_)=>2 - q) (0,com,A1,sv1,ce1) ⟨rfl,rfl,trivial⟩ ⟨⟨by decide,hd1.mono (Nat.le_add_right _ _),Ext.refl _,hcom.mono (by omega) (by omega)⟩,H⟩ ?_;clear H;rintro ⟨q,out,A2,sv2,ce2⟩ u w7 ⟨⟨hq,hd2,hx2,hout⟩,H⟩;refine au (fun h7=>?_) (fun h7=>?_)
   ·obtain ⟨b,rfl⟩:∃ b,q=bN b:=by
     have:q=0∨q=1:=by omega
     rcases this with rfl | rfl
     ·exact ⟨false,rfl⟩
     ·exact ⟨true,rfl⟩
    have hb1:bN b<2:=by unfold bN;cases b <;> decide
    refine ak (γ:=Int × Ar × Value × Int) (fun (id,_)=>[(14,.int .i64 id)]) (fun (id,A3,sv3,ce3) w'=>(fY U room A2 A3 (G6 U (Bz U k (i+1)) i) ce2 ce3∧At A3 ((2*i:Nat):Int) id)∧Hp w (cR g r sv0 room A gc gz ce).foot w' [bF g r sv3 room A3,iM gc gz ce3,an g7 86 (sc (bn n))] (cM gz g)) ?_ ?_
    ·refine ak (γ:=Nat) (fun g16=>[(16,(ah g16)),(15,.int .i64 (bN b:Int))]) (fun g16 w'=>Hp w (cR g r sv0 room A gc gz ce).foot w' [an g16 86 (sc (aV s i b)),bF g r sv2 room A2,iM gc gz ce2,an g7 86 (sc (bn n))] (cM gz g)) ?_ ?_
     ·refine Kn (aV s i) b ?_;refine H.alloc 86 (cs:=sc 0) bo aY ?_;clear H;intro g16 w8 H;refine H.aW 0 rfl ?_;clear H;intro w9 H;exact ⟨g16,⟨rfl,rfl,trivial⟩,H⟩
     clear H;rintro g16 u w8 H;refine ak (γ:=Int × Ar × Value × Int) (fun (id,_)=>[(17,.int .i64 id)]) (fun (id,A3,sv3,ce3) w'=>(fY U room A2 A3 (Bz U k (i+1)+(2^jL U ((2*(i+1):Nat):Int) - 1)) ce2 ce3∧At A3 ((2*(i+1):Nat):Int) id)∧Hp w (cR g r sv0 room A gc gz ce).foot w' [bF g r sv3 room A3,iM gc gz ce3,an g7 86 (sc (bn n))] (cM gz g)) ?_ ?_
     ·refine H.fg [yA gc (ah gz),an g16 86 (sc (aV s i b)),an g7 86 (sc (bn n))] (fun u h=>h.G5 [2,0,3] (by decide) rfl) eS (by kernel_rfl) ?_;clear H;intro w9 H;refine quiet _ (fun w H=>aa (lr _) ae) ?_;refine quiet _ (fun w H=>aB iJ (H.get 0 rfl) ae) ?_;refine quiet (sv (aV s i b)) (fun w H=>H.ai 1 rfl aD av ae) ?_;refine quiet (sv (bn n)) (fun w H=>H.ai 2 rfl aD av ae) ?_;replace H:=H.b6 [1,2,0,3] (L':=[bF g r sv2 room A2,iM gc gz ce2,an g16 86 (sc (aV s i b)),an g7 86 (sc (bn n))]) (by decide) rfl;have hc:=ih (i+1) (aV s i b) sv2 A2 ce2 w9 (by omega) (sub1 b) (yB s i b) (ind1 b) hd2.two hd2.arn (Ah (iN H));rw[← hw1] at hc;refine aj hc ?_;rintro _ w10 ⟨A3,sv3,ce3,id,rfl,⟨hd3,hid⟩,ht⟩;replace H:=((iN H).b5 0 rfl ht).split;refine ⟨.inl (H.G5 [1,2,3] (by decide) rfl),?_⟩;have hcom3:=(hcom.ext hx2).ext hd3.ext;refine aj (L6 (U:=U) (l:=((2*(i+1):Nat):Int)) (f:=id) (p:=com) hd3.arn hid.1 hid.2 hcom3.2 (jR H)) ?_;rintro _ w11 ⟨A4,sv4,id4,e4,rfl,⟨hd4,hid4⟩,ht4⟩;replace H:=H.b5 0 rfl ht4;refine ⟨.inl (H.G5 [1,2,3] (by decide) rfl),?_⟩;refine aj (c146 ce3 id4 e4 _ (H.get 1 rfl)) ?_;rintro _ w12 ⟨rfl,ht5⟩;replace H:=H.b5 1 rfl ht5;refine ⟨.inl (H.G5 [1,2,3] (by decide) rfl),?_⟩;exact ⟨(_,A4,sv4,_),⟨rfl,trivial⟩,⟨hd3.trans (lp hd4 hd3.two),q5 (fun he=>(hid4 he).1) (by omega) hpow hd3.two⟩,H.b6 [0,1,3] (by decide) rfl⟩
     clear H;rintro ⟨own,A3,sv3,ce3⟩ u w9 ⟨⟨hd3,hown⟩,H⟩;have hw2:(Value.int .i64 (IntKind.i64.wrap (IntKind.i64.wrap (2*(i:Int))+(bN b:Int))))=.int .i64 ((2*i+bN b:Nat):Int):=by
      rw[aH (x:=2*(i:Int)) (by omega) (by omega),aH (by omega) (by omega)]
      congr 1
     refine H.fg [yA gc (ah gz)] (fun u h=>h.tK 1 rfl) eS (by kernel_rfl) ?_;clear H;intro w10 H;refine quiet _ (fun w H=>aa (lr _) ae) ?_;refine quiet _ (fun w H=>aB iJ (H.get 0 rfl) ae) ?_;have hc:=NV (U:=U) (f:=own) (k:=2*i+bN b) (gc:=gc) (gz:=gz) (g:=g) (r:=r) (sv:=sv3) (ce:=ce3) (w:=w10) (by omega) (hU _ (by omega)) hd3.two hd3.arn (by have:=hown.2;omega) (Ah (iN H));rw[← hw2] at hc;refine aj hc ?_;rintro _ w11 ⟨A4,sv4,ce4,id4,rfl,⟨hd4,hid4⟩,ht⟩;replace H:=((iN H).b5 0 rfl ht).split;refine ⟨.inl (H.tK 1 rfl),?_⟩;have hout4:=(hout.ext hd3.ext).ext hd4.ext;refine aj (Ke (U:=U) (l:=((2*i:Nat):Int)) (f:=out) (p:=id4) hd4.arn (by omega) hout4.2 (by have:=hid4.2;omega) (jR H)) ?_;rintro _ w12 ⟨A5,sv5,id5,e5,rfl,⟨hd5,hid5⟩,ht5⟩;replace H:=H.b5 0 rfl ht5;refine ⟨.inl (H.tK 1 rfl),?_⟩;refine aj (c146 ce4 id5 e5 _ (H.get 1 rfl)) ?_;rintro _ w13 ⟨rfl,ht6⟩;replace H:=H.b5 1 rfl ht6;refine ⟨.inl (H.tK 1 rfl),?_⟩;exact ⟨(_,A5,sv5,_),⟨rfl,trivial⟩,⟨((hd3.trans hd4).trans (lp hd5 hd4.two)).mono (by unfold G6;split <;> omega),q5 (fun he=>(hid5 he).1) (by omega) (by omega) hd4.two⟩,H⟩
    clear H;rintro ⟨id,A3,sv3,ce3⟩ u w8 ⟨⟨hd3,hid⟩,H⟩;exact ⟨(bN b+1,id,A3,sv3,ce3),by show 2 - (bN b+1)<2 - bN b;omega,⟨up (by omega),rfl,trivial⟩,⟨by show bN b+1≤2;omega,(hd2.trans hd3).mono (by rw[Nat.succ_mul];omega),hx2.trans hd3.ext,hid⟩,H⟩
   ·obtain rfl:q=2:=by omega
    exact ⟨(out,A2,sv2,ce2),⟨rfl,trivial⟩,⟨hd2,hout⟩,H.b6 [0,1] (by decide) rfl⟩
  clear H;rintro ⟨out,A2,sv2,ce2⟩ u w7 ⟨⟨hd2,hout⟩,H⟩;exact ⟨A2,sv2,ce2,out,rfl,⟨hd2,hout⟩,(iN H).bc⟩
theorem kJ:cH prog 206=some false:=by kernel_rfl
theorem G7:bB prog 206=some 1:=by kernel_rfl
theorem G8:eH prog 206=some (.pointer none):=by kernel_rfl
theorem Fb (s:Nat):∀ (j:Nat) v,(bH s)[j]?=some v→(sc s)[j]?=some v:=fun j v hj=>by unfold bH at hj;rwa [Array.getElem?_toList] at hj
def aM (gz g gc g3 g6 g7:Nat)(X:Nat→Prop)(S:dU)(Bo:Option Addr)(co:Nat)(Bm:Option Addr)(cm:Nat):List cC:=
 [an gz 205 #[(ah g)],an g7 86 (sc (bn S.n)),an g3 41 (bq S.n (.slice Bo S.on.length co) (.slice Bm S.may.length cm)),an g6 206 #[(ah gc)],sl X (.slice Bm S.may.length cm) 4 S.may.length (flat bH S.may)]
structure G9 (w:World) (gz gc g r g3 g6 g7:Nat) (X:Nat→Prop) (S:dU) (Bo:Option Addr) (co:Nat) (Bm:Option Addr) (cm:Nat) (sv:Value) (room:Int) (A:Ar) (ce:Int):Prop where
 head:∀ s ∈ aM gz g gc g3 g6 g7 X S Bo co Bm cm,s.ok w
 lt:∀ s ∈ aM gz g gc g3 g6 g7 X S Bo co Bm cm,∀ x,s.foot x→x<w.heap.size
 ok:(cR g r sv room A gc gz ce).ok w
 dis:∀ s ∈ aM gz g gc g3 g6 g7 X S Bo co Bm cm,∀ x,s.foot x→¬ (cR g r sv room A gc gz ce).foot x
section
variable {w0 w:World} {F:Nat→Prop} {L M:List cC} {gz gc g r g3 g6 g7:Nat} {X:Nat→Prop} {S:dU} {Bo Bm:Option Addr} {co cm:Nat} {sv:Value} {room:Int} {A:Ar} {ce:Int}
theorem G9.start (h:G9 w gz gc g r g3 g6 g7 X S Bo co Bm cm sv room A ce):Hp w (cR g r sv room A gc gz ce).foot w [bF g r sv room A,iM gc gz ce] (aM gz g gc g3 g6 g7 X S Bo co Bm cm):=
 (Hp.ry (M:=aM gz g gc g3 g6 g7 X S Bo co Bm cm) h.ok (fun x ⟨q,hq,hx⟩=>h.ok.2.1 q hq x hx) h.head h.lt h.dis).split
theorem BA (H:Hp w0 F w (cR g r sv room A gc gz ce::L) (aM gz g gc g3 g6 g7 X S Bo co Bm cm)):G9 w gz gc g r g3 g6 g7 X S Bo co Bm cm sv room A ce:=
 ⟨H.rok,H.rlt,H.get 0 rfl,fun s hs x hx hx'=>H.rdis s hs _ (.head _) x hx hx'⟩
theorem G_ (H:Hp w0 F w (cR g r sv room A gc gz ce::L) (an gz 205 #[(ah g)]::M)):KV w gz gc g r sv room A ce:=
 ⟨H.ro 0 rfl,H.get 0 rfl,fun h=>H.rdis _ (.head _) _ (.head _) gz rfl h⟩
end
theorem Ko:enters prog 144=true:=by kernel_rfl
theorem Mb {w:World}{gz gc g r g3 g6 g7:Nat}{X:Nat→Prop}{S:dU}{Bo Bm:Option Addr}{co cm:Nat}{sv0:Value}{room:Int}{A:Ar}{ce:Int}{U:Nat→Bool}(hS:cK S)(hU:∀ j,j<2*S.n→U j=true)(o:Nat)(ho:o<16)(hce:ce=0∨ce=5)(hA:rZ U room A)(hit:G9 w gz gc g r g3 g6 g7 X S Bo co Bm cm sv0 room A ce) :
  bt prog 144 ([.int .i64 (o:Int)]++[(ah g7),(ah g3),(ah g6)]) w (E_ w gz gc g r U room sv0 A ce 0 (Bz U S.n 0)):=by
 refine ar (N:=33) func144 Ko rfl rfl rfl (by simp) ?_;have H:=hit.start;have h4:S.may.length≤4:=by rw[hS.len];exact hS.few
 refine aw (fun w'=>Hp w (cR g r sv0 room A gc gz ce).foot w' [bF g r sv0 room A,iM gc gz ce] (aM gz g gc g3 g6 g7 X S Bo co Bm cm)) ⟨(),trivial,H⟩ ?_;clear H;rintro ⟨⟩ u w1 H;refine ak (γ:=Nat) (fun g8=>[(6,(ah g8))]) (fun g8 w'=>Hp w (cR g r sv0 room A gc gz ce).foot w' [an g8 86 (sc (bn S.n)),bF g r sv0 room A,iM gc gz ce] (aM gz g gc g3 g6 g7 X S Bo co Bm cm)) ?_ ?_
 ·refine fE (H.ro 1 rfl) (bH (bn S.n)) aD av (Fb _) ?_;refine H.alloc 86 (cs:=sc 0) bo aY ?_;clear H;intro g8 w2 H;refine H.aW 0 rfl ?_;clear H;intro w3 H;exact ⟨g8,⟨rfl,trivial⟩,H⟩
 clear H;rintro g8 u w2 H;refine aw (fun w'=>Hp w (cR g r sv0 room A gc gz ce).foot w' [an g8 86 (sc (gW S o S.may.length)),bF g r sv0 room A,iM gc gz ce] (aM gz g gc g3 g6 g7 X S Bo co Bm cm)) ?_ ?_
 ·refine aa (fM _) ?_;refine aB dV ((aQ (H.ro 2 rfl) 2).trans rfl) ?_;refine ay underlying39 ?_;refine ax (γ:=Nat) (fun j=>[(13,.int .i64 (j:Int))]) (fun j w'=>j≤S.may.length∧Hp w (cR g r sv0 room A gc gz ce).foot w' [an g8 86 (sc (gW S o j)),bF g r sv0 room A,iM gc gz ce] (aM gz g gc g3 g6 g7 X S Bo co Bm cm)) (fun j=>S.may.length - j) 0 ⟨rfl,trivial⟩ ⟨Nat.zero_le _,H⟩ ?_;clear H;rintro j u w3 ⟨hj,H⟩;refine au (fun h8=>?_) (fun h8=>?_)
  ·have hjl:j<S.may.length:=by omega
   refine aw (fun w'=>Hp w (cR g r sv0 room A gc gz ce).foot w' [an g8 86 (sc (gW S o (j+1))),bF g r sv0 room A,iM gc gz ce] (aM gz g gc g3 g6 g7 X S Bo co Bm cm)) ?_ ?_
   ·obtain ⟨b,hb,hbin⟩:=lj (l:=S.may) (j:=j) (by omega);have hcap:gW S o (j+1)=if o.testBit j then gW S o j &&&b else gW S o j:=by
     show (if o.testBit j then gW S o j &&&S.may.getD j 0 else gW S o j)=_;rw[List.getD_eq_getElem?_getD,hb];rfl
    rw[hcap];generalize gW S o j=C at H ⊢;have hSm:=nh (H.ro 4 rfl) fun x hx=>H.rlt _ (.tail _ (.tail _ (.tail _ (.tail _ (.head _))))) x hx;obtain ⟨gM,oM,hBm⟩:=hSm.A (by omega);refine ak (γ:=Nat) (fun g9=>[(8,(ah g9)),(7,.int .i64 (j:Int))]) (fun g9 w'=>Hp w (cR g r sv0 room A gc gz ce).foot w' [an g9 86 (sc b),an g8 86 (sc C),bF g r sv0 room A,iM gc gz ce] (aM gz g gc g3 g6 g7 X S Bo co Bm cm)) ?_ ?_
    ·subst hBm;refine aq underlying39 av j rfl hjl (o':=oM+j*4) (by omega) ?_;refine Sl.cI (Hp.aC _) hSm bO aD av j rfl hb ?_;refine H.alloc 86 (cs:=sc 0) bo aY ?_;clear H hSm;intro g9 w4 H;refine Hp.aW H 0 rfl ?_;clear H;intro w5 H;exact ⟨g9,⟨rfl,rfl,trivial⟩,H⟩
    clear H hSm;rintro g9 u w4 H;refine ic (by omega) ?_;refine ib (b:=1) (Nat.lt_of_le_of_lt (Nat.div_le_self _ _) (by omega)) (by omega) ?_
    cases hob:o.testBit j with
    | true=>
     refine ag ((cB o j).trans hob) ?_;refine H.ai 1 rfl aD av ?_;refine H.ai 0 rfl aD av ?_;refine aj (c53 _ _ _) ?_;rintro _ w9 ⟨rfl,hk⟩;replace H:=H.same hk;refine H.aW 1 rfl ?_;clear H;intro w10 H;exact ⟨(),trivial,by rw[if_pos rfl];exact H.forget⟩
    | false=>
     refine af ((cB o j).trans hob) ?_;exact ⟨(),trivial,by rw[if_neg (by decide)];exact H.forget⟩
   ·clear H;rintro ⟨⟩ u w7 H;exact ⟨j+1,by show S.may.length - (j+1)<S.may.length - j;omega,⟨up (by omega),trivial⟩,by show j+1≤S.may.length;omega,H⟩
  ·obtain rfl:j=S.may.length:=by omega
   exact ⟨(),trivial,H⟩
 clear H;rintro ⟨⟩ u w3 H;refine aB kJ ((aQ (H.ro 3 rfl) 0).trans rfl) ?_;refine H.ai 0 rfl aD av ?_;refine fE (H.ro 1 rfl) (bH (bn S.n)) aD av (Fb _) ?_;refine aa (iG _) ?_;refine aB aE ((aQ (H.ro 2 rfl) 0).trans rfl) ?_;replace H:=iN H.forget;refine aj (c145 hS.n8 hU S.n 0 (gW S o S.may.length) sv0 A ce _ (by omega) (kF S o _) (sf S o _) (fun j hj=>absurd hj (Nat.not_lt_zero _)) hce hA (G_ H)) ?_;rintro _ w4 ⟨A',sv',ce',id,rfl,h1,ht⟩;exact ⟨A',sv',ce',id,rfl,h1,(H.b5 0 rfl ht).bc⟩
def mC (a o:Nat):Nat→Nat
 | 0=>0
 | m+1=>mC a o m+if o<m∧m &&&o=o then a else 0
def Kp (U:Nat→Bool)(n k o:Nat):Nat:=Bz U n 0+mC (Bz U n 0+(2^jL U 0 - 1)) o (2^k)+(jL U 0+Jc (jL U 0))+(2^jL U 0 - 1)
def KW (U:Nat→Bool)(n k:Nat):Nat→Nat
 | 0=>0
 | o+1=>KW U n k o+if o=0 then 0 else Kp U n k o
theorem Fc {gz:Nat}{w:World}{kk:Value→World→Prop}(h:kk (.agg #[(ah gz),.int .i64 0]) w):b7 prog 208 [(0,(ah gz))] w kk:=bu (fun w=>by kernel_rfl) h
theorem yC {g3 g6 g7:Nat}{w:World}{kk:Value→World→Prop}(h:kk (.func (.func 144) #[] #[(ah g7),(ah g3),(ah g6)]) w) :
  cu prog (.func 144) [] [(ah g7),(ah g3),(ah g6)] w kk:=by
 unfold cu;exact ⟨_,w,by kernel_rfl,h⟩
theorem Ha (o j:Nat):(o*2^16).testBit j=true→16≤j∧o.testBit (j - 16)=true:=by
 rw[Nat.testBit_mul_two_pow,Bool.and_eq_true,decide_eq_true_eq];exact id
theorem Kq:enters prog 107=true:=by kernel_rfl
set_option maxHeartbeats 4000000 in
theorem c107 {S:dU}(hS:cK S){w:World}{gz g r:Nat}{X:Nat→Prop}{Bo Bm:Option Addr}{co cm:Nat}{sv0:Value}{room:Int}{A:Ar}{U:Nat→Bool}(hU:∀ j,j<2*S.n→U j=true)(hUk:∀ j,j<S.may.length→U (16+j)=true)(hA:rZ U room A)(hz:CV w gz g r sv0 room A)(hXo:(sl X (.slice Bo S.on.length co) 4 S.on.length (flat bH S.on)).ok w)(hXm:(sl X (.slice Bm S.may.length cm) 4 S.may.length (flat bH S.may)).ok w)(hX:∀ x,X x→x<w.heap.size∧¬ (bF g r sv0 room A).foot x) :
  bt prog 107 [(ah gz),rW S.n (.slice Bo S.on.length co) (.slice Bm S.may.length cm)] w fun v w'=>∃ A' sv' id e,v=.tuple #[.int .i64 id,.int .i64 e]∧(e=0∨e=5∧room<(A.length:Int)+KW U S.n S.may.length (2^S.may.length))∧jA w w' (bF g r sv0 room A) (bF g r sv' room A'):=by
 refine ar (N:=114) func107 Kq rfl rfl rfl (by simp) ?_;have h4:S.may.length≤4:=by rw[hS.len];exact hS.few
 have h2k:2^S.may.length≤2^4:=Nat.pow_le_pow_right (by decide) h4;have H:Hp w (bF g r sv0 room A).foot w [bF g r sv0 room A] [an gz 205 #[(ah g)],sl X (.slice Bo S.on.length co) 4 S.on.length (flat bH S.on),sl X (.slice Bm S.may.length cm) 4 S.may.length (flat bH S.may)]:=by
  refine Hp.ry hz.ok (fun x hx=>qO hz.ok x hx) ?_ ?_ ?_
  ·intro s hs;simp only[List.mem_cons,List.not_mem_nil,or_false] at hs;rcases hs with rfl | rfl | rfl
   ·exact hz.z
   ·exact hXo
   ·exact hXm
  ·intro s hs x hx;simp only[List.mem_cons,List.not_mem_nil,or_false] at hs;rcases hs with rfl | rfl | rfl
   ·have hx:x=gz:=hx;subst hx;exact iV hz.z
   ·exact (hX x hx).1
   ·exact (hX x hx).1
  ·intro s hs x hx hx';simp only[List.mem_cons,List.not_mem_nil,or_false] at hs;rcases hs with rfl | rfl | rfl
   ·have hx:x=gz:=hx;subst hx;exact hz.dis hx'
   ·exact (hX x hx).2 hx'
   ·exact (hX x hx).2 hx'
 refine ak (γ:=Nat) (fun g3=>[(3,(ah g3))]) (fun g3 w'=>Hp w (bF g r sv0 room A).foot w' [an g3 41 (bq S.n (.slice Bo S.on.length co) (.slice Bm S.may.length cm)),bF g r sv0 room A] [an gz 205 #[(ah g)],sl X (.slice Bo S.on.length co) 4 S.on.length (flat bH S.on),sl X (.slice Bm S.may.length cm) 4 S.may.length (flat bH S.may)]) ?_ ?_
 ·refine H.box 41 _ (cs:=bq S.n (.slice Bo S.on.length co) (.slice Bm S.may.length cm)) rfl ?_;clear H;intro g3 w1 H;exact ⟨g3,⟨rfl,trivial⟩,H⟩
 clear H;rintro g3 u w1 H;refine aw (fun w'=>Hp w (bF g r sv0 room A).foot w' [an g3 41 (bq S.n (.slice Bo S.on.length co) (.slice Bm S.may.length cm)),bF g r sv0 room A] [an gz 205 #[(ah g)],sl X (.slice Bm S.may.length cm) 4 S.may.length (flat bH S.may)]) ?_ ?_
 ·have hat:gn w1 S Bo co Bm cm:=⟨nh (H.ro 1 rfl) fun x hx=>H.rlt _ (.tail _ (.head _)) x hx,nh (H.ro 2 rfl) fun x hx=>H.rlt _ (.tail _ (.tail _ (.head _))) x hx⟩;refine pq ?_;refine af rfl ?_;refine H.ai 0 rfl dx bL ?_;refine af rfl ?_;refine aj (GF hS Bo co _ cm _ hat) ?_;rintro _ w2 ⟨rfl,hk⟩;replace H:=H.same hk
  iterate 3 refine af rfl ?_
  exact ⟨(),trivial,H.ep (by simp)⟩
 clear H;rintro ⟨⟩ u w2 H;refine ak (γ:=Nat × Nat) (fun (gc,g6)=>[(6,(ah g6))]) (fun (gc,g6) w'=>Hp w (bF g r sv0 room A).foot w' [an g6 206 #[(ah gc)],iM gc gz 0,an g3 41 (bq S.n (.slice Bo S.on.length co) (.slice Bm S.may.length cm)),bF g r sv0 room A] [an gz 205 #[(ah g)],sl X (.slice Bm S.may.length cm) 4 S.may.length (flat bH S.may)]) ?_ ?_
 ·refine Fc ?_;refine H.box 208 _ (cs:=#[(ah gz),.int .i64 0]) rfl ?_;clear H;intro gc w3 H;refine H.alloc 206 (cs:=#[.pointer none]) G8 rfl ?_;clear H;intro g6 w4 H;refine H.store 0 rfl G7 (Nat.le_of_ble_eq_true rfl) rfl ?_;clear H;intro w5 H;exact ⟨(gc,g6),⟨rfl,trivial⟩,H⟩
 clear H;rintro ⟨gc,g6⟩ u w3 H;refine ak (γ:=Nat) (fun g7=>[(7,(ah g7))]) (fun g7 w'=>Hp w (bF g r sv0 room A).foot w' [bF g r sv0 room A,iM gc gz 0] (aM gz g gc g3 g6 g7 X S Bo co Bm cm)) ?_ ?_
 ·refine aa (iG _) ?_;refine H.load 2 rfl aE rfl ?_;refine aj (n9 S.n hS.n8 _) ?_;rintro _ w4 ⟨rfl,hk⟩;replace H:=H.same hk;refine H.alloc 86 (cs:=sc 0) bo aY ?_;clear H;intro g7 w5 H;refine H.aW 0 rfl ?_;clear H;intro w6 H;have H1:=H.freeze.freeze;have H2:=(H1.front 1 rfl).freeze;have H3:=H2.b6 [1,0] (L':=[bF g r sv0 room A,iM gc gz 0]) (by decide) rfl;exact ⟨g7,⟨rfl,trivial⟩,H3.ep (by intro s hs;simp only[aM,List.mem_cons,List.not_mem_nil,or_false] at hs ⊢;rcases hs with rfl | rfl | rfl | rfl | rfl <;> simp)⟩
 clear H;rintro g7 u w4 H;refine ak (γ:=Unit) (fun _=>[(9,.int .i64 0)]) (fun _ w'=>Hp w (bF g r sv0 room A).foot w' [bF g r sv0 room A,iM gc gz 0] (aM gz g gc g3 g6 g7 X S Bo co Bm cm)) ⟨(),⟨rfl,trivial⟩,H⟩ ?_;clear H;rintro ⟨⟩ u w5 H;refine ak (γ:=Unit) (fun _=>[(10,.func (.func 144) #[] #[(ah g7),(ah g3),(ah g6)])]) (fun _ w'=>Hp w (bF g r sv0 room A).foot w' [bF g r sv0 room A,iM gc gz 0] (aM gz g gc g3 g6 g7 X S Bo co Bm cm)) ?_ ?_
 ·refine yC ?_;exact ⟨(),⟨rfl,trivial⟩,H⟩
 clear H;rintro ⟨⟩ u w6 H;have hcA:fY U room A A 0 0 0:=fY.refl hA (.inl rfl) 0;refine ak (γ:=Int × Ar × Value × Int) (fun (id,_)=>[(9,.int .i64 id)]) (fun (id,A2,sv2,ce2) w'=>(fY U room A A2 (KW U S.n S.may.length (2^S.may.length)) 0 ce2)∧Hp w (bF g r sv0 room A).foot w' [bF g r sv2 room A2,iM gc gz ce2] (aM gz g gc g3 g6 g7 X S Bo co Bm cm)) ?_ ?_
 ·refine ax (γ:=Nat × Int × Ar × Value × Int) (fun (o,id,_)=>[(11,.int .i64 (o:Int)),(9,.int .i64 id)]) (fun (o,id,A2,sv2,ce2) w'=>((1≤o∧o≤2^S.may.length)∧fY U room A A2 (KW U S.n S.may.length o) 0 ce2∧At A2 0 id)∧Hp w (bF g r sv0 room A).foot w' [bF g r sv2 room A2,iM gc gz ce2] (aM gz g gc g3 g6 g7 X S Bo co Bm cm)) (fun (o,_)=>2^S.may.length - o) (1,0,A,sv0,0) ⟨rfl,rfl,trivial⟩ ⟨⟨⟨by decide,Nat.one_le_two_pow⟩,hcA,At.end (.inl rfl) (by decide) (by decide)⟩,H⟩ ?_;clear H;rintro ⟨o,out,A2,sv2,ce2⟩ u w7 ⟨⟨⟨ho1,ho2⟩,hd2,hout⟩,H⟩;refine aa (fM _) ?_;refine aB dV ((aQ (H.ro 2 rfl) 2).trans rfl) ?_;refine ay underlying39 ?_;refine cZ (by omega) ?_;refine au (fun h7=>?_) (fun h7=>?_)
  ·have ho:o<2^S.may.length:=by omega
   refine ak (γ:=Int × Ar × Value × Int) (fun (id,_)=>[(9,.int .i64 id)]) (fun (id,A3,sv3,ce3) w'=>(fY U room A2 A3 (Kp U S.n S.may.length o) ce2 ce3∧At A3 0 id)∧Hp w (bF g r sv0 room A).foot w' [bF g r sv3 room A3,iM gc gz ce3] (aM gz g gc g3 g6 g7 X S Bo co Bm cm)) ?_ ?_
   ·refine ak (γ:=Int × Ar × Value × Int) (fun (id,_)=>[(12,.int .i64 id)]) (fun (id,A3,sv3,ce3) w'=>(fY U room A2 A3 (Bz U S.n 0) ce2 ce3∧At A3 0 id)∧Hp w (bF g r sv0 room A).foot w' [bF g r sv3 room A3,iM gc gz ce3] (aM gz g gc g3 g6 g7 X S Bo co Bm cm)) ?_ ?_
    ·refine e7 (args:=[.int .i64 (o:Int)]) (cap:=[(ah g7),(ah g3),(ah g6)]) (Mb hS hU o (by omega) hd2.two hd2.arn (BA (iN H))) ?_;rintro _ w8 ⟨A3,sv3,ce3,id,rfl,h1,ht⟩;exact ⟨(id,A3,sv3,ce3),⟨rfl,trivial⟩,h1,((iN H).b5 0 rfl ht).split⟩
    clear H;rintro ⟨f,A3,sv3,ce3⟩ u w8 ⟨⟨hd3,hf⟩,H⟩;obtain ⟨a,ha⟩:∃ a,Bz U S.n 0+(2^jL U 0 - 1)=a:=⟨_,rfl⟩;refine ak (γ:=Int × Ar × Value × Int) (fun (id,_)=>[(12,.int .i64 id)]) (fun (id,A4,sv4,ce4) w'=>(fY U room A3 A4 (mC a o (2^S.may.length)) ce3 ce4∧At A4 0 id)∧Hp w (bF g r sv0 room A).foot w' [bF g r sv4 room A4,iM gc gz ce4] (aM gz g gc g3 g6 g7 X S Bo co Bm cm)) ?_ ?_
    ·refine ax (γ:=Nat × Int × Ar × Value × Int) (fun (m,id,_)=>[(13,.int .i64 (m:Int)),(12,.int .i64 id)]) (fun (m,id,A4,sv4,ce4) w'=>((o+1≤m∧m≤2^S.may.length)∧fY U room A3 A4 (mC a o m) ce3 ce4∧At A4 0 id)∧Hp w (bF g r sv0 room A).foot w' [bF g r sv4 room A4,iM gc gz ce4] (aM gz g gc g3 g6 g7 X S Bo co Bm cm)) (fun (m,_)=>2^S.may.length - m) (o+1,f,A3,sv3,ce3) ⟨up (by omega),rfl,trivial⟩ ⟨⟨⟨Nat.le_refl _,by omega⟩,fY.refl hd3.arn hd3.two _,hf⟩,H⟩ ?_;clear H;rintro ⟨m,f2,A4,sv4,ce4⟩ u w9 ⟨⟨⟨hm1,hm2⟩,hd4,hf2⟩,H⟩;refine aa (fM _) ?_;refine aB dV ((aQ (H.ro 2 rfl) 2).trans rfl) ?_;refine ay underlying39 ?_;refine cZ (by omega) ?_;refine au (fun h8=>?_) (fun h8=>?_)
     ·have hm:m<2^S.may.length:=by omega
      refine ak (γ:=Int × Ar × Value × Int) (fun (id,_)=>[(12,.int .i64 id)]) (fun (id,A5,sv5,ce5) w'=>(fY U room A4 A5 (if o<m∧m &&&o=o then a else 0) ce4 ce5∧At A5 0 id)∧Hp w (bF g r sv0 room A).foot w' [bF g r sv5 room A5,iM gc gz ce5] (aM gz g gc g3 g6 g7 X S Bo co Bm cm)) ?_ ?_
      ·refine ib (by omega) (by omega) ?_;refine cr (fun he=>?_) (fun he=>?_)
       ·have he:((m &&&o:Nat):Int)=(o:Int):=he;have he:m &&&o=o:=by omega
        rw[if_pos ⟨by omega,he⟩];refine H.fg [yA gc (ah gz)] (fun u h=>h.tK 1 rfl) eS (by kernel_rfl) ?_;clear H;intro w10 H;refine quiet _ (fun w H=>aB kJ ((aQ (H.ro 3 rfl) 0).trans rfl) ae) ?_;refine quiet _ (fun w H=>aB kJ ((aQ (H.ro 3 rfl) 0).trans rfl) ae) ?_;refine quiet _ (fun w H=>aa (lr _) ae) ?_;refine quiet _ (fun w H=>aB iJ (H.get 0 rfl) ae) ?_;refine e7 (args:=[.int .i64 (m:Int)]) (cap:=[(ah g7),(ah g3),(ah g6)]) (Mb hS hU m (by omega) hd4.two hd4.arn (BA (iN H))) ?_;rintro _ w11 ⟨A5,sv5,ce5,id,rfl,⟨hd5,hid⟩,ht⟩;replace H:=((iN H).b5 0 rfl ht).split;refine ⟨.inl (H.tK 1 rfl),?_⟩;refine aj (L6 (U:=U) (l:=0) (f:=f2) (p:=id) hd5.arn (by decide) (hf2.ext hd5.ext).2 hid.2 (jR H)) ?_;rintro _ w12 ⟨A6,sv6,id6,e6,rfl,⟨hd6,hid6⟩,ht6⟩;replace H:=H.b5 0 rfl ht6;refine ⟨.inl (H.tK 1 rfl),?_⟩;refine aj (c146 ce5 id6 e6 _ (H.get 1 rfl)) ?_;rintro _ w13 ⟨rfl,ht7⟩;replace H:=H.b5 1 rfl ht7;refine ⟨.inl (H.tK 1 rfl),?_⟩;exact ⟨(_,A6,sv6,_),⟨rfl,trivial⟩,⟨(hd5.trans (lp hd6 hd5.two)).mono (by omega),q5 (fun he=>(hid6 he).1) (by omega) (by omega) hd5.two⟩,H⟩
       ·have he:((m &&&o:Nat):Int)≠(o:Int):=he;exact ⟨(f2,A4,sv4,ce4),⟨rfl,trivial⟩,⟨fY.refl hd4.arn hd4.two _,hf2⟩,H⟩
      clear H;rintro ⟨f3,A5,sv5,ce5⟩ u w10 ⟨⟨hd5,hf3⟩,H⟩;exact ⟨(m+1,f3,A5,sv5,ce5),by show 2^S.may.length - (m+1)<2^S.may.length - m;omega,⟨up (by omega),rfl,trivial⟩,⟨⟨by show o+1≤m+1;omega,by show m+1≤_;omega⟩,hd4.trans hd5,hf3⟩,H⟩
     ·obtain rfl:m=2^S.may.length:=by omega
      exact ⟨(f2,A4,sv4,ce4),⟨rfl,trivial⟩,⟨hd4,hf2⟩,H⟩
    clear H;rintro ⟨f2,A4,sv4,ce4⟩ u w9 ⟨⟨hd4,hf2⟩,H⟩;refine ak (γ:=Int × Ar × Value × Int) (fun (id,_)=>[(14,.int .i64 id)]) (fun (id,A5,sv5,ce5) w'=>(fY U room A4 A5 (jL U 0+Jc (jL U 0)) ce4 ce5∧At A5 0 id)∧Hp w (bF g r sv0 room A).foot w' [bF g r sv5 room A5,iM gc gz ce5] (aM gz g gc g3 g6 g7 X S Bo co Bm cm)) ?_ ?_
    ·refine H.fg [yA gc (ah gz)] (fun u h=>h.tK 1 rfl) eS (by kernel_rfl) ?_;clear H;intro w10 H;refine quiet _ (fun w H=>aB kJ ((aQ (H.ro 3 rfl) 0).trans rfl) ae) ?_;refine quiet _ (fun w H=>aB kJ ((aQ (H.ro 3 rfl) 0).trans rfl) ae) ?_;refine quiet _ (fun w H=>aa (lr _) ae) ?_;refine quiet _ (fun w H=>aB iJ (H.get 0 rfl) ae) ?_;refine quiet _ (fun w H=>aB kJ ((aQ (H.ro 3 rfl) 0).trans rfl) ae) ?_;refine quiet _ (fun w H=>aB kJ ((aQ (H.ro 3 rfl) 0).trans rfl) ae) ?_;refine quiet _ (fun w H=>aa (lr _) ae) ?_;refine quiet _ (fun w H=>aB iJ (H.get 0 rfl) ae) ?_;refine quiet _ (fun w H=>ng (n:=16) (by decide) (by omega) ae) ?_;refine H.aX dy rfl ?_;clear H;intro gs w11 H;replace H:=H.pf (l:=1) (sz:=1) rfl (by decide);refine ⟨.inl (H.tK 2 rfl),?_⟩;obtain ⟨Sx,hs,hSx⟩:=H.si 0 1 (by decide) rfl rfl;have hlt:o*2^16<2^24:=by omega
     refine aj (Ma (U:=U) (m:=o*2^16) hlt (fun j _ hj=>by
      obtain ⟨h1,h2⟩:=Ha o j hj;have h3:j - 16<S.may.length:=Ip ho h2;have:=hUk (j - 16) h3
      rwa [show 16+(j - 16)=j by omega] at this) _ _ A4 sv4 _ Sx hd4.arn (jR (H.front 1 rfl)) hs hSx) ?_
     rintro _ w12 ⟨A5,sv5,id5,e5,rfl,⟨hd5,hof⟩,ht5⟩;replace H:=(H.b5 1 rfl ht5).forget;refine ⟨.inl (H.tK 1 rfl),?_⟩;refine aj (c146 ce4 id5 e5 _ (H.get 1 rfl)) ?_;rintro _ w13 ⟨rfl,ht6⟩;replace H:=H.b5 1 rfl ht6;refine ⟨.inl (H.tK 1 rfl),?_⟩;have hc5:=lp hd5 hd4.two;have hp:(nG ce4 e5 id5=0∨Sg A5 (nG ce4 e5 id5))∧0≤aR A5 (nG ce4 e5 id5):=by
      rcases q4 (e:=e5) id5 hd4.two with ⟨he,h⟩ | h
      ·have:=(hof he).2 (by simp);rw[h];exact ⟨.inr this.sg,by have:=this.lvl;omega⟩
      ·rw[h];exact ⟨.inl rfl,by rw[j1 (.inl rfl)];omega⟩
     generalize nG ce4 e5 id5=p at hp;generalize tJ ce4 e5=ce5 at hc5 H;have hf5:=hf2.ext hc5.ext;refine aj (c148 (U:=U) (f:=f2) (p:=p) (c:=Jc (jL U 0)) hc5.arn hf5.2 hp.2 hp.1 rfl (.inr (.inr (wM (kH U (by have:=hf5.2;have:=hp.2;omega))))) (jR H)) ?_;rintro _ w14 ⟨A6,sv6,id6,e6,rfl,⟨hd6,hid6⟩,ht7⟩;replace H:=H.b5 0 rfl ht7;refine ⟨.inl (H.tK 1 rfl),?_⟩;refine aj (c146 ce5 id6 e6 _ (H.get 1 rfl)) ?_;rintro _ w15 ⟨rfl,ht8⟩;replace H:=H.b5 1 rfl ht8;refine ⟨.inl (H.tK 1 rfl),?_⟩;exact ⟨(_,A6,sv6,_),⟨rfl,trivial⟩,⟨hc5.trans (lp hd6 hc5.two),q5 (fun he=>(hid6 he).1.mono (by omega) (by have:=hf5.2;have:=hp.2;omega)) (by omega) (by omega) hc5.two⟩,H⟩
    clear H;rintro ⟨tg,A5,sv5,ce5⟩ u w10 ⟨⟨hd5,htg⟩,H⟩;refine H.fg [yA gc (ah gz)] (fun u h=>h.tK 1 rfl) eS (by kernel_rfl) ?_;clear H;intro w11 H;refine quiet _ (fun w H=>aB kJ ((aQ (H.ro 3 rfl) 0).trans rfl) ae) ?_;refine quiet _ (fun w H=>aB kJ ((aQ (H.ro 3 rfl) 0).trans rfl) ae) ?_;refine quiet _ (fun w H=>aa (lr _) ae) ?_;refine quiet _ (fun w H=>aB iJ (H.get 0 rfl) ae) ?_;have hout5:=((hout.ext hd3.ext).ext hd4.ext).ext hd5.ext;refine aj (Ke (U:=U) (l:=0) (f:=out) (p:=tg) hd5.arn (by decide) hout5.2 htg.2 (jR H)) ?_;rintro _ w12 ⟨A6,sv6,id6,e6,rfl,⟨hd6,hid6⟩,ht6⟩;replace H:=H.b5 0 rfl ht6;refine ⟨.inl (H.tK 1 rfl),?_⟩;refine aj (c146 ce5 id6 e6 _ (H.get 1 rfl)) ?_;rintro _ w13 ⟨rfl,ht7⟩;replace H:=H.b5 1 rfl ht7;refine ⟨.inl (H.tK 1 rfl),?_⟩;exact ⟨(_,A6,sv6,_),⟨rfl,trivial⟩,⟨(((hd3.trans hd4).trans hd5).trans (lp hd6 hd5.two)).mono (by unfold Kp;rw[ha];split <;> omega),q5 (fun he=>(hid6 he).1) (by omega) (by omega) hd5.two⟩,H⟩
   clear H;rintro ⟨id,A3,sv3,ce3⟩ u w8 ⟨⟨hd3,hid⟩,H⟩;exact ⟨(o+1,id,A3,sv3,ce3),by show 2^S.may.length - (o+1)<2^S.may.length - o;omega,⟨up (by omega),rfl,trivial⟩,⟨⟨by show 1≤o+1;omega,by show o+1≤_;omega⟩,(hd2.trans hd3).mono (by show _≤KW U S.n S.may.length o+_;rw[if_neg (by omega)];exact Nat.le_refl _),hid⟩,H⟩
  ·obtain rfl:o=2^S.may.length:=by omega
   exact ⟨(out,A2,sv2,ce2),⟨rfl,trivial⟩,hd2,H⟩
 clear H;rintro ⟨out,A2,sv2,ce2⟩ u w7 ⟨hd2,H⟩;have herr:=hd2.err;refine aw (fun w'=>ce2=0∧Hp w (bF g r sv0 room A).foot w' [bF g r sv2 room A2,iM gc gz ce2] (aM gz g gc g3 g6 g7 X S Bo co Bm cm)) ?_ ?_
 ·refine jM (H.ro 3 rfl) kJ rfl ?_;refine aa (mJ _) ?_;refine H.load 1 rfl nH rfl ?_;refine de (fun he=>?_) (fun he=>?_)
  ·refine H.draw eS (by kernel_rfl) ?_;clear H;intro w8 H;refine quiet _ (fun w H=>aB kJ ((aQ (H.ro 3 rfl) 0).trans rfl) ae) ?_;refine quiet _ (fun w H=>aa (mJ _) ae) ?_;refine quiet _ (fun w H=>H.load 1 rfl nH rfl ae) ?_;exact ⟨A2,sv2,0,ce2,rfl,by have he:ce2≠0:=he;omega,H.bc⟩
  ·exact ⟨(),trivial,he,H⟩
 clear H;rintro ⟨⟩ u w8 ⟨rfl,H⟩;exact ⟨A2,sv2,out,0,rfl,.inl rfl,H.bc⟩
def Mc (n k:Nat)(j:Nat):Bool:=decide (j<2*n)||(decide (16≤j)&&decide (j<16+k))
def C0 (n k:Nat):Nat:=KW (Mc n k) n k (2^k)
theorem Fe:(List.range 4).all (fun n=>(List.range 3).all fun k=>decide (C0 n k≤20000))=true:=by kernel_rfl
theorem Hb {n k:Nat}(hn:n≤3)(hk:k≤2):C0 n k≤20000:=by
 have h:=Fe;rw[List.all_eq_true] at h;have h:=h n (List.mem_range.2 (by omega));rw[List.all_eq_true] at h;exact of_decide_eq_true (h k (List.mem_range.2 (by omega)))
def Md (S:dU)(nodes:Int)(R:List Rw)(e:Int):Prop:=(e=0∧(∀ x,x ∈ R↔eD S x)∧R.Nodup)∨(e=5∧R=[]∧nodes<(C0 S.n S.may.length:Int))
theorem Me:enters prog 86=true:=by kernel_rfl
theorem OA {S:dU}(hS:cK S)(hn7:S.n≤7)(nodes:Int)(h0:0≤nodes)(h1:nodes≤20000)(Bo:Option Addr)(co:Nat)(Bm:Option Addr)(cm:Nat)(w:World)(hA:gn w S Bo co Bm cm) :
  bt prog 86 [rW S.n (.slice Bo S.on.length co) (.slice Bm S.may.length cm),.int .i64 nodes] w fun v w'=>∃ A c R e,v=.tuple #[.slice A R.length c,.int .i64 e]∧Md S nodes R e∧eX w w' (own 50 3 (.slice A R.length c) R.length (flat bj R)):=by
 refine ar (N:=31) func86 Me rfl rfl rfl (by simp) ?_;have H:=Hp.aC w;refine ak (γ:=Nat) (fun g2=>[(2,(ah g2))]) (fun g2 w'=>Hp w ab w' [an g2 41 (bq S.n (.slice Bo S.on.length co) (.slice Bm S.may.length cm))] []) ?_ ?_
 ·refine H.box 41 _ (cs:=bq S.n (.slice Bo S.on.length co) (.slice Bm S.may.length cm)) rfl ?_;clear H;intro g2 w1 H;exact ⟨g2,⟨rfl,trivial⟩,H⟩
 clear H;rintro g2 u w1 H;refine ak (γ:=Nat × Nat × Nat) (fun (gz,g,r)=>[(6,(ah gz)),(7,.int .i64 0)]) (fun (gz,g,r) w'=>Hp w ab w' [bF g r (.slice none 0 0) nodes [],an gz 205 #[(ah g)],an g2 41 (bq S.n (.slice Bo S.on.length co) (.slice Bm S.may.length cm))] []) ?_ ?_
 ·refine aj (NK nodes h0 h1 _) ?_;rintro _ w2 ⟨gz,g,r,rfl,hn⟩;exact ⟨(gz,g,r),⟨rfl,rfl,trivial⟩,(H.bD hn).split.front 1 rfl⟩
 clear H;rintro ⟨gz,g,r⟩ u w2 H;refine aw (fun w'=>Hp w ab w' [bF g r (.slice none 0 0) nodes [],an gz 205 #[(ah g)],an g2 41 (bq S.n (.slice Bo S.on.length co) (.slice Bm S.may.length cm))] []) ?_ ?_
 ·refine af rfl ?_;exact ⟨(),trivial,H⟩
 clear H;rintro ⟨⟩ u w3 H;refine aw (fun w'=>Hp w ab w' [an g2 41 (bq S.n (.slice Bo S.on.length co) (.slice Bm S.may.length cm))] []) ?_ ?_
 ·refine H.ai 2 rfl dx bL ?_;have hk:=H.keeps;have hz:CV w3 gz g r (.slice none 0 0) nodes []:=⟨H.get 1 rfl,H.get 0 rfl,fun h=>(List.pairwise_cons.1 H.dis).1 _ (.head _) gz h rfl⟩;have hArn:rZ (Mc S.n S.may.length) nodes []:=⟨IZ h0 h1,rfl,fun i d h=>by simp[slot] at h⟩;refine aj (c107 (X:=fun x=>x<w.heap.size) hS (U:=Mc S.n S.may.length) (fun j hj=>by unfold Mc;rw[decide_eq_true hj];rfl) (fun j hj=>by unfold Mc;rw[decide_eq_true (show 16≤16+j by omega),decide_eq_true (show 16+j<16+S.may.length by omega)];simp) hArn hz
   ((sl _ _ _ _ _).bP w w3 (fun x hx=>hk.old x hx id) hA.on) ((sl _ _ _ _ _).bP w w3 (fun x hx=>hk.old x hx id) hA.may)
   (fun x hx=>⟨Nat.lt_of_lt_of_le hx hk.size,fun h=>by rcases H.new _ (.head _) x h with h | h;exact absurd hx (Nat.not_lt.2 h);exact h⟩)) ?_
  rintro _ w4 ⟨A',sv',id,e,rfl,he,ht⟩;replace H:=(H.b5 0 rfl ht).b6 [2] (L':=[an g2 41 (bq S.n (.slice Bo S.on.length co) (.slice Bm S.may.length cm))]) (by decide) rfl;refine de (fun hne=>?_) (fun hne=>?_)
  ·have hne:e≠0:=hne;refine ⟨none,0,[],e,rfl,.inr ⟨by omega,rfl,?_⟩,((H.bx 50 3).only).out⟩;rcases he with he | ⟨_,he⟩
   ·exact absurd he hne
   ·unfold C0;simpa using he
  ·exact ⟨(),trivial,H⟩
 clear H;rintro ⟨⟩ u w4 H;refine H.ai 0 rfl dx bL ?_;refine aj (NH hS hn7 Bo co Bm cm _ (hA.same H.keeps)) ?_;rintro _ w5 ⟨A,c,R,rfl,⟨hR,hRn,_⟩,hn⟩;exact ⟨A,c,R,0,rfl,.inl ⟨rfl,hR,hRn⟩,((H.bD hn).only).out⟩
end Go.Proofs.YtpjihhgjbbihkaaGreatDoor
namespace Go.Proofs.YtpjihhgjbbihkaaGreatDoor
open Go.Dk
set_option maxRecDepth 100000
def Hc (S:dU)(R:List Rw)(Q:aZ):Prop:=∀ row,row ∈ Q↔oE S R S.on.length 0 row
theorem q6 {n out p:Nat}{R:List Rw}:∀ j,(cX n R out p j).Pairwise (· < ·)∧∀ c ∈ cX n R out p j,c<j
 | 0=>⟨.nil,by intro c hc;cases hc⟩
 | j+1=>by
  obtain ⟨h1,h2⟩:=q6 (n:=n) (out:=out) (p:=p) (R:=R) j;refine ⟨?_,fun c hc=>(ke.1 hc).1⟩;show (match R[j]? with | some x=>_ | none=>_:List Nat).Pairwise (· < ·);split
  ·split
   ·exact List.pairwise_append.2 ⟨h1,List.pairwise_singleton _ _,fun a ha b hb=>by rw[List.mem_singleton.1 hb];exact h2 a ha⟩
   ·exact h1
  ·exact h1
theorem tL {S:dU}{R:List Rw}{Q:aZ}(hQ:Hc S R Q)(hR:R.length≤4000):ek (R.length:Int) Q:=by
 have key:∀ row ∈ Q,∃ o p,row=kG (cX S.n R o p R.length):=fun row hr=>by
  rcases (hQ row).1 hr with ⟨o,a,p,_,_,_,rfl⟩ | ⟨a,p,_,_,rfl⟩
  ·exact ⟨o,p,rfl⟩
  ·exact ⟨_,p,rfl⟩
 refine ⟨fun r hr=>?_,fun r hr k hk=>?_,by omega,by omega⟩
 ·obtain ⟨o,p,rfl⟩:=key r hr;unfold oC kG;rw[List.pairwise_map];exact (q6 _).1.imp fun h=>by omega
 ·obtain ⟨o,p,rfl⟩:=key r hr;obtain ⟨c,hc,rfl⟩:=List.mem_map.1 hk;have:=(q6 _).2 c hc;omega
theorem Kr {S:dU}(hS:cK S){o a p:Nat}(ha:S.on[o]?=some a)(hp:a.testBit p=true):jQ S (2^S.n - 1,p,2^o):=by
 have ho:=(List.getElem?_eq_some_iff.1 ha).1;have hom:o<S.may.length:=by rw[hS.len];exact ho
 have hb:=List.getElem?_eq_getElem hom;have hc:zV S.n S.may[o] (2^S.n - 1,p):=((Lv.zero hS.n8 (hS.all _ (List.getElem_mem hom))).2 ⟨rfl,hS.sub o a _ ha hb p hp⟩).1;refine ⟨hc.lt,hc.sub,Nat.two_pow_pos o,Nat.pow_lt_pow_right (by decide) ho,fun j b hj hjb=>?_⟩;rw[Nat.testBit_two_pow] at hj;have:o=j:=of_decide_eq_true hj;subst this;rw[hb] at hjb;injection hjb with hjb;rw[← hjb];exact hc.cD
theorem C1 {S:dU}(hS:cK S){R:List Rw}(hR:∀ x,x ∈ R↔eD S x){Q:aZ}(hQ:Hc S R Q):[] ∉ Q:=fun h=>by
 rcases (hQ []).1 h with ⟨o,a,p,ho,ha,hp,he⟩ | ⟨a,p,ha,_⟩
 ·have hin:=Kr hS ha hp;have hpr:=(hR _).2 (tE hS hin);obtain ⟨_,h4,h5⟩:=p_ hS hin;have hlt:=List.idxOf_lt_length_iff.2 hpr;have hpn:p<2^S.n:=fp hS.n8 (hS.all _ (List.getElem_mem (show o<S.may.length by rw[hS.len];exact ho))) (hS.sub o a _ ha (List.getElem?_eq_getElem (show o<S.may.length by rw[hS.len];exact ho)) p hp);have:R.idxOf (nD S (2^S.n - 1) p (2^o)) ∈ cX S.n R o p R.length:=ke.2 ⟨hlt,_,by rw[List.getElem?_eq_getElem hlt,List.getElem_idxOf],h5 o (by rw[Nat.testBit_two_pow];simp),h4 p (by
   rw[bA hS.n8];exact ⟨hpn,by rw[Nat.and_two_pow_sub_one_eq_mod];exact Nat.mod_eq_of_lt hpn⟩)⟩
  have h0:cX S.n R o p R.length=[]:=yx (a:=cX S.n R o p R.length) (b:=[]) he.symm;rw[h0] at this
  cases this
 ·have:=(List.getElem?_eq_some_iff.1 ha).1;omega
theorem pr {R:List Rw}{t:Nat→Bool}:∀ j,(bz R t j).length≤(List.range j).countP t
 | 0=>Nat.le_refl 0
 | j+1=>by
  have ih:=pr (R:=R) (t:=t) j;rw[List.range_succ,List.countP_append,List.countP_cons,List.countP_nil];show (match R[j]? with | some x=>if t j then bz R t j++[x] else bz R t j | none=>bz R t j).length≤_;split
  ·split
   ·rw[List.length_append];simp;omega
   ·omega
  ·omega
theorem count_le (L:List Int)(n:Nat):(List.range n).countP (fun c:Nat=>decide ((c:Int) ∈ L))≤L.length:=by
 have h1:((List.range n).filter fun c:Nat=>decide ((c:Int) ∈ L)).map (fun c:Nat=>(c:Int))=((List.range n).map fun c:Nat=>(c:Int)).filter fun c=>decide (c ∈ L):=by
  rw[List.filter_map];rfl
 have h2:=ny n L;unfold a6 at h2;rw[← h1,List.length_map,← List.countP_eq_length_filter] at h2;exact h2
theorem yD {S:dU}(hS:cK S){R:List Rw}(hR:∀ x,x ∈ R↔eD S x)(hl:R.length≤4000){Q:aZ}(hQ:Hc S R Q){G:List Int}(hG:aJ (c_ R.length (Q,[])).1 G)(hb:eO R.length (c_ R.length (Q,[])).1 (G.length:Int)){t:Nat→Bool}(ht:∀ c:Nat,c<R.length→(t c=true↔(c:Int) ∈ a6 R.length (c_ R.length (Q,[])).2++G)) :
  (∀ x ∈ bz R t R.length,eD S x)∧br S (bz R t R.length)=true∧∀ L,(∀ x ∈ L,gK S.n S.on.length x)→br S L=true→(bz R t R.length).length≤L.length:=by
 have hright:=tL hQ hl;have hi:=j0 hright;have hPR:∀ x ∈ R,eD S x:=fun x hx=>(hR x).1 hx;refine ⟨fun x hx=>?_,z7 hS hPR fun row hrow=>?_,fun L hL hc=>?_⟩
 ·obtain ⟨c,_,h,_⟩:=mH.1 hx;exact hPR x (List.mem_of_getElem? h)
 ·obtain ⟨k,hk,hkG⟩:=hi.solves G hG row ((hQ row).2 hrow);obtain ⟨h0,h1⟩:=hright.rng row ((hQ row).2 hrow) k hk;obtain ⟨c,rfl⟩:∃ c:Nat,k=c:=⟨k.toNat,by omega⟩;refine ⟨c,(ht c (by omega)).2 ?_,hk⟩;rcases List.mem_append.1 hkG with h | h
  ·exact List.mem_append_left _ (j9.2 ⟨⟨h0,h1⟩,h⟩)
  ·exact List.mem_append_right _ h
 ·obtain ⟨cs,hcl,hcr,hcs⟩:=z6 hS hR hL hc;have hs0:aJ Q (kG cs):=fun r hr=>by
   obtain ⟨c,hc,hm⟩:=hcs r ((hQ r).1 hr);exact ⟨c,hm,List.mem_map.2 ⟨c,hc,rfl⟩⟩
  obtain ⟨S',hS',hs',hle⟩:=pU hright (uU R.length (kG cs)) (mz hright hs0);have h1:=ny R.length (kG cs);have h2:=ny R.length (c_ R.length (Q,[])).2;rw[ll] at h1;have h3:G.length≤S'.length:=by
   rcases hb with ⟨h,_⟩ | ⟨S2,_,_,he,hm⟩
   ·omega
   ·have:=hm S' hS' hs';omega
  have h4:=pr (R:=R) (t:=t) R.length;have h5:(List.range R.length).countP t=(List.range R.length).countP (fun c:Nat=>decide ((c:Int) ∈ a6 R.length (c_ R.length (Q,[])).2++G)):=List.countP_congr fun c hc=>by
   rw[ht c (List.mem_range.1 hc)];simp
  have h6:=count_le (a6 R.length (c_ R.length (Q,[])).2++G) R.length;rw[List.length_append] at h6;omega
end Go.Proofs.YtpjihhgjbbihkaaGreatDoor
namespace Go.Proofs.YtpjihhgjbbihkaaGreatDoor
open Go.Proofs.Tryz
open Go.Dk
set_option maxRecDepth 100000
attribute [local irreducible] IntKind.wrap
def kK (n s:Int):Array Value:=#[.int .i64 n,.int .i64 s]
def Dl (n s:Int):Value:=.agg (kK n s)
def mK (v:Value)(st why s:Int):Array Value:=#[v,.int .i64 st,.int .i64 why,.int .i64 s]
def He (v:Value)(st why s:Int):Value:=.agg (mK v st why s)
theorem tM:eH prog 58=some (He (.slice none 0 0) 0 0 0):=by kernel_rfl
theorem l5:cH prog 58=some true:=by kernel_rfl
theorem dw:bB prog 58=some 4:=by kernel_rfl
theorem BB:cH prog 23=some true:=by kernel_rfl
theorem wN:bB prog 23=some 2:=by kernel_rfl
theorem Ff:cH prog 44=some false:=by kernel_rfl
theorem Ks:bB prog 44=some 1:=by kernel_rfl
theorem ly (g:Nat)(w:World):(Instr.fieldAt 23 (ah g) 0).run prog w=.ok (ah g) w:=by kernel_rfl
theorem jS (g:Nat)(w:World):(Instr.fieldAt 23 (ah g) 1).run prog w=.ok (.pointer (some ⟨g,1,none⟩)) w:=by kernel_rfl
theorem Fg (g:Nat)(w:World):(Instr.fieldAt 58 (ah g) 0).run prog w=.ok (ah g) w:=by kernel_rfl
theorem l6 {w:World}{kk:Value→World→Prop}(h:kk (He (.slice none 0 0) 0 0 0) w):b7 prog 58 [] w kk:=bu (fun w=>by kernel_rfl) h
theorem Fh {s:Int}{w:World}{kk:Value→World→Prop}(h:kk (He (.slice none 0 0) 1 0 s) w):b7 prog 58 [(1,.int .i64 1),(3,.int .i64 s)] w kk:=bu (fun w=>by kernel_rfl) h
theorem fS {A:Option Addr}{l c:Nat}{st why s:Int}:∀ v ∈ (mK (.slice A l c) st why s).toList,v.oneCell'=true:=by
 intro v hv;simp[mK] at hv;rcases hv with rfl | rfl | rfl | rfl <;> rfl
def Mf (S:dU)(nodes:Int)(steps:Nat)(rows:List Rw)(e:Int):Prop:=
 (e=0∧(∀ x ∈ rows,eD S x)∧br S rows=true∧∀ L,(∀ x ∈ L,gK S.n S.on.length x)→br S L=true→rows.length≤L.length)∨
 (e=5∧rows=[]∧nodes<(C0 S.n S.may.length:Int))∨(e=6∧rows=[]∧∃ R:List Rw,(∀ x,x ∈ R↔eD S x)∧R.Nodup∧steps<2^R.length)
theorem Mg:enters prog 55=true:=by kernel_rfl
set_option maxHeartbeats 4000000 in
theorem OB {S:dU}(hS:cK S)(hn4:S.n≤4)(hk3:S.may.length≤3)(nodes:Int)(steps:Nat)(h0:0≤nodes)(h1:nodes≤20000)(hst:steps≤1000000)(Bo:Option Addr)(co:Nat)(Bm:Option Addr)(cm:Nat)(w:World)(hA:gn w S Bo co Bm cm) :
  bt prog 55 [rW S.n (.slice Bo S.on.length co) (.slice Bm S.may.length cm),Dl nodes (steps:Int)] w fun v w'=>∃ A c rows s e,v=.tuple #[He (.slice A rows.length c) (if e=0 then 1 else 0) 0 s,.int .i64 e]∧Mf S nodes steps rows e∧eX w w' (own 50 3 (.slice A rows.length c) rows.length (flat bj rows)):=by
 refine ar (N:=91) func55 Mg rfl rfl rfl (by simp) ?_;have H:=Hp.aC w;refine ak (γ:=Nat × Nat × Nat) (fun (g2,g3,g4)=>[(2,(ah g2)),(3,(ah g3)),(4,(ah g4))]) (fun (g2,g3,g4) w'=>Hp w ab w' [an g4 58 (mK (.slice none 0 0) 0 0 0),an g3 23 (kK nodes steps),an g2 41 (bq S.n (.slice Bo S.on.length co) (.slice Bm S.may.length cm))] []) ?_ ?_
 ·refine H.box 41 _ (cs:=bq S.n (.slice Bo S.on.length co) (.slice Bm S.may.length cm)) rfl ?_;clear H;intro g2 w1 H;refine H.box 23 _ (cs:=kK nodes steps) rfl ?_;clear H;intro g3 w2 H;refine H.alloc 58 (cs:=mK (.slice none 0 0) 0 0 0) tM rfl ?_;clear H;intro g4 w3 H;exact ⟨(g2,g3,g4),⟨rfl,rfl,rfl,trivial⟩,H⟩
 clear H;rintro ⟨g2,g3,g4⟩ u w1 H;refine ak (γ:=Option Addr × Nat × List Rw × Int) (fun (A,c,R,e)=>[(6,.slice A R.length c),(7,.int .i64 e)]) (fun (A,c,R,e) w'=>Md S nodes R e∧Hp w ab w' [own 50 3 (.slice A R.length c) R.length (flat bj R),an g4 58 (mK (.slice none 0 0) 0 0 0),an g3 23 (kK nodes steps),an g2 41 (bq S.n (.slice Bo S.on.length co) (.slice Bm S.may.length cm))] []) ?_ ?_
 ·refine H.ai 2 rfl dx bL ?_;refine aa (ly _) ?_;refine H.load 1 rfl aE rfl ?_;refine aj (OA hS (by omega) nodes h0 h1 Bo co Bm cm _ (hA.same H.keeps)) ?_;rintro _ w2 ⟨A,c,R,e,rfl,hR,hn⟩;exact ⟨(A,c,R,e),⟨rfl,rfl,trivial⟩,hR,H.bD hn⟩
 clear H;rintro ⟨AR,cR,R,e⟩ u w2 ⟨hR,H⟩;refine aw (fun w'=>e=0∧Hp w ab w' [own 50 3 (.slice AR R.length cR) R.length (flat bj R),an g4 58 (mK (.slice none 0 0) 0 0 0),an g3 23 (kK nodes steps),an g2 41 (bq S.n (.slice Bo S.on.length co) (.slice Bm S.may.length cm))] []) ?_ ?_
 ·refine de (fun hne=>?_) (fun hne=>?_)
  ·have hne:e≠0:=hne;refine l6 ?_;refine H.storeAll 1 rfl dw rfl fS ?_;clear H;intro w3 H;refine H.ai 1 rfl l5 dw ?_;refine ⟨rfl,?_⟩;rcases hR with ⟨h,_⟩ | ⟨h5,rfl,hlt⟩
   ·exact absurd h hne
   ·exact ⟨none,0,[],0,e,by rw[if_neg hne];rfl,.inr (.inl ⟨h5,rfl,hlt⟩),((H.bx 50 3).only).out⟩
  ·exact ⟨(),trivial,hne,H⟩
 clear H;rintro ⟨⟩ u w3 ⟨he,H⟩;subst he;obtain ⟨hR,hRn⟩:(∀ x,x ∈ R↔eD S x)∧R.Nodup:=by
  rcases hR with ⟨_,h⟩ | ⟨h,_⟩
  ·exact h
  ·cases h
 have hRl:R.length≤4000:=by
  have h1:=CQ hRn fun x hx=>(hR x).1 hx;have h2:2^S.may.length≤2^3:=Nat.pow_le_pow_right (by decide) hk3;have h3:2^S.n≤2^4:=Nat.pow_le_pow_right (by decide) hn4;have h4:=Nat.mul_le_mul h2 (Nat.mul_le_mul h3 h3);omega
 have hRok:∀ x ∈ R,gK S.n S.on.length x:=fun x hx=>(((hR x).1 hx).um hS).ok hS;refine ak (γ:=Nat × Option Addr × Nat × aZ × (Nat→Prop)) (fun (g8,_)=>[(8,(ah g8)),(7,.int .i64 0)]) (fun (g8,B,d,Q,S1) w'=>(Hc S R Q∧Q.length≤100000)∧Hp w ab w' [an g8 137 (mc (R.length:Int) (.slice B Q.length d)),own 50 3 (.slice AR R.length cR) R.length (flat bj R),an g4 58 (mK (.slice none 0 0) 0 0 0),an g3 23 (kK nodes steps)] [bf S1 (.slice B Q.length d) Q]) ?_ ?_
 ·refine H.ai 3 rfl dx bL ?_;refine aj (c87 hS R hRok hRl Bo co Bm cm AR cR _ (hA.same H.keeps) (bE (H.get 0 rfl))) ?_;rintro _ w4 ⟨B,d,Q,rfl,⟨hQ,hQl⟩,hn⟩;obtain ⟨S1,hm,hS1⟩:=hn.mat;replace H:=H.pG hn.keeps (bf S1 (.slice B Q.length d) Q) hm (fun g hg=>⟨(hS1 g hg).1,.inl ((hS1 g hg).2.resolve_right id)⟩);refine H.alloc 137 dH rfl ?_;clear H;intro g8 w5 H;refine H.storeAll 0 rfl az rfl (fun v hv=>dc v hv) ?_;clear H;intro w6 H;exact ⟨(g8,B,d,Q,S1),⟨rfl,rfl,trivial⟩,⟨hQ,hQl⟩,H.b6 [0,1,2,3] (by decide) rfl⟩
 clear H;rintro ⟨g8,BQ,dQ,Q,S1⟩ u w4 ⟨⟨hQ,hQl⟩,H⟩;refine aw (fun w'=>Hp.cl H w') ?_ ?_
 ·refine af rfl ?_;exact ⟨(),trivial,H⟩
 rintro ⟨⟩ u w5 H1;replace H:Hp w ab w5 [an g8 137 (mc (R.length:Int) (.slice BQ Q.length dQ)),own 50 3 (.slice AR R.length cR) R.length (flat bj R),an g4 58 (mK (.slice none 0 0) 0 0 0),an g3 23 (kK nodes steps)] [bf S1 (.slice BQ Q.length dQ) Q]:=H1;clear H1;have hright:=tL hQ hRl;have hxb:cA (R.length:Int) Q=true:=gi.2 hright;have hbare:=C1 hS hR hQ;obtain ⟨e1,e2,e3,e4⟩:=Bf hxb;have hEi:=j0 hright;have hEb:[] ∉ (c_ R.length (Q,[])).1:=pS (s:=(Q,[])) hbare _;have hEl:(c_ R.length (Q,[])).1.length≤Q.length:=od (s:=(Q,[])) _;have hTl:=fo R.length (c_ R.length (Q,[])).2;have hfin:=fun (G:List Int)=>yD hS hR hRl hQ (G:=G);have hc88:=fun u hS0 h=>Of (R.length:Int) Q (.slice BQ Q.length dQ) S1 u (by omega) (fun r hr=>by have:=oe hright hr;omega) h hS0;rw[e1,e2,e3,e4] at hc88;have hEr:=hEi.right;clear hEi e1 e2 e3 e4;generalize (c_ R.length (Q,[])).1=E at *;generalize a6 R.length (c_ R.length (Q,[])).2=TT at *;refine ak (γ:=Option Addr × Nat × Nat × Option Addr × Nat × (Nat→Prop)) (fun (B9,d9,g10,_)=>[(9,.slice B9 TT.length d9),(10,(ah g10))]) (fun (B9,d9,g10,AE,cE,S2) w'=>Hp w ab w' [an g10 137 (mc (R.length:Int) (.slice AE E.length cE)),own 3 1 (.slice B9 TT.length d9) TT.length (aA TT),own 50 3 (.slice AR R.length cR) R.length (flat bj R),an g4 58 (mK (.slice none 0 0) 0 0 0),an g3 23 (kK nodes steps)] [bf S2 (.slice AE E.length cE) E]) ?_ ?_
 ·refine H.ai 0 rfl aL az ?_;refine aj (hc88 _ (H.rlt _ (.head _)) (H.ro 0 rfl)) ?_;rintro _ w6 ⟨B9,d9,v',S2,rfl,H2,hS2⟩;obtain ⟨AE,cE,hvE⟩:=(H2.ro 0 rfl).form;subst hvE;have H3:=H.merge H2 (fun r hr g hg=>by
   rw[List.mem_singleton] at hr;subst hr;exact (hS2 g hg).imp id fun h=>⟨_,.head _,h⟩)
  clear H H2;refine H3.alloc 137 dH rfl ?_;clear H3;intro g10 w7 H;refine H.storeAll 0 rfl az rfl (fun v hv=>dc v hv) ?_;clear H;intro w8 H;exact ⟨(B9,d9,g10,AE,cE,S2),⟨rfl,rfl,trivial⟩,(H.b6 [0,1,3,4,5] (by decide) rfl).ep (by simp)⟩
 clear H hc88;rintro ⟨B9,d9,g10,AE,cE,S2⟩ u w6 H;refine ak (γ:=Option Addr × Nat × List Int × Int × Int) (fun (B,d,G,s,e)=>[(12,.slice B G.length d),(13,.int .i64 s),(7,.int .i64 e)]) (fun (B,d,G,s,e) w'=>LG (R.length:Int) E steps G s e∧Hp w ab w' [own 3 1 (.slice B9 TT.length d9) TT.length (aA TT),own 3 1 (.slice B G.length d) G.length (aA G),own 50 3 (.slice AR R.length cR) R.length (flat bj R),an g4 58 (mK (.slice none 0 0) 0 0 0)] []) ?_ ?_
 ·refine H.ai 0 rfl aL az ?_;refine aa (jS _) ?_;refine H.load 4 rfl aE rfl ?_;refine aj (Ov (R.length:Int) E (.slice AE E.length cE) steps S2 _ (by omega) (fun r hr=>by have:=oe hEr hr;omega) (by omega) (fun _=>by omega) (H.ro 0 rfl) (H.rlt _ (.head _))) ?_;rintro _ w7 ⟨B,d,G,s,e,rfl,hF,hn⟩;exact ⟨(B,d,G,s,e),⟨rfl,rfl,rfl,trivial⟩,hF,((H.bD hn).ao).b6 [2,0,3,4] (by decide) rfl⟩
 clear H;rintro ⟨BG,dG,G,s,e⟩ u w7 ⟨hF,H⟩;have hEx:cA (R.length:Int) E=true:=gi.2 hEr;have hEbb:gS E=false:=by
  rw[Bool.eq_false_iff];exact fun h=>hEb (j_.1 h)
 refine aw (fun w'=>e=0∧Hp w ab w' [own 3 1 (.slice B9 TT.length d9) TT.length (aA TT),own 3 1 (.slice BG G.length dG) G.length (aA G),own 50 3 (.slice AR R.length cR) R.length (flat bj R),an g4 58 (mK (.slice none 0 0) 0 0 0)] []) ?_ ?_
 ·refine de (fun hne=>?_) (fun hne=>?_)
  ·have hne:e≠0:=hne;refine l6 ?_;refine H.storeAll 3 rfl dw rfl fS ?_;clear H;intro w8 H;refine H.ai 3 rfl l5 dw ?_;refine ⟨rfl,?_⟩;refine ⟨none,0,[],0,e,by rw[if_neg hne];rfl,.inr (.inr ?_),((H.bx 50 3).only).out⟩;rcases hF with ⟨h,_⟩ | ⟨_,h,_⟩ | ⟨_,_,h6,_,_,hlt⟩ | ⟨_,_,h,_⟩
   ·rw[hEx] at h;cases h
   ·rw[hEbb] at h;cases h
   ·exact ⟨h6,rfl,R,hR,hRn,by rwa [Int.toNat_natCast] at hlt⟩
   ·exact absurd h hne
  ·exact ⟨(),trivial,hne,H⟩
 clear H;rintro ⟨⟩ u w8 ⟨rfl,H⟩;obtain ⟨hGl,hbest,hGs⟩:G.length≤R.length∧eO R.length E (G.length:Int)∧aJ E G:=by
  rcases hF with ⟨h,_⟩ | ⟨_,h,_⟩ | ⟨_,_,h,_⟩ | ⟨_,_,_,_,⟨b,hb⟩,h1,h2⟩
  ·rw[hEx] at h;cases h
  ·rw[hEbb] at h;cases h
  ·cases h
  ·rw[Int.toNat_natCast] at hb h1;exact ⟨by rw[hb];exact fo _ _,h1,h2⟩
 clear hF;refine ak (γ:=Nat) (fun r=>[(14,.map (some r))]) (fun r w'=>Hp w ab w' [aP eW mE r [],own 3 1 (.slice B9 TT.length d9) TT.length (aA TT),own 3 1 (.slice BG G.length dG) G.length (aA G),own 50 3 (.slice AR R.length cR) R.length (flat bj R),an g4 58 (mK (.slice none 0 0) 0 0 0)] []) ?_ ?_
 ·refine H.makeMap eW mE ?_;clear H;intro r w9 H;exact ⟨r,⟨rfl,trivial⟩,H⟩
 clear H;rintro r u w9 H;have hTG:(TT++G).length=TT.length+G.length:=List.length_append;refine ak (γ:=List (Int × Bool)) (fun _=>[]) (fun l w'=>Be l (TT++G)∧Hp w ab w' [aP eW mE r l,own 50 3 (.slice AR R.length cR) R.length (flat bj R),an g4 58 (mK (.slice none 0 0) 0 0 0)] []) ?_ ?_
 ·refine H.kz 1 dy rfl (bE (H.get 2 rfl)) (cS _) (by omega) (by omega) ?_;clear H;intro B15 d15 w10 H;rw[← hTG,← p4] at H;rw[← hTG];refine ay underlying75 ?_;refine ax (γ:=Nat × List (Int × Bool)) (fun (j,_)=>[(64,.int .i64 (j:Int))]) (fun (j,l) w'=>(j≤(TT++G).length∧Be l ((TT++G).take j))∧Hp w ab w' [aP eW mE r l,own 3 1 (.slice B15 (TT++G).length d15) (TT++G).length (aA (TT++G)),own 50 3 (.slice AR R.length cR) R.length (flat bj R),an g4 58 (mK (.slice none 0 0) 0 0 0)] []) (fun (j,_)=>(TT++G).length - j) (0,[]) ⟨rfl,trivial⟩ ⟨⟨Nat.zero_le _,fun c=>rfl⟩,H.b6 [0,1,3,4] (by decide) rfl⟩ ?_;clear H;rintro ⟨j,l⟩ u w11 ⟨⟨hj,hlk⟩,H⟩;refine au (fun h8=>?_) (fun h8=>?_)
  ·obtain ⟨k,hk⟩:∃ k,(TT++G)[j]?=some k:=⟨_,List.getElem?_eq_getElem (by omega)⟩;obtain ⟨g2',rfl⟩:=jB (H.get 1 rfl) (by omega);have hgk:(aA (TT++G))[j]?=some (.int .i64 k):=by rw[aA,List.getElem?_map,hk];rfl
   have htk:(TT++G).take (j+1)=(TT++G).take j++[k]:=by rw[List.take_add_one,hk];rfl
   refine aq underlying75 (s:=1) a_ j rfl (by omega) (o':=j) (by omega) ?_;refine H.dX 1 rfl aE hgk ?_;refine H.iw 0 rfl yc k true ?_;clear H;intro w12 H;exact ⟨(j+1,dS l k true),by show (TT++G).length - (j+1)<(TT++G).length - j;omega,⟨up (by omega),trivial⟩,⟨by show j+1≤(TT++G).length;omega,by rw[htk];exact hlk.add k⟩,H⟩
  ·have e:(TT++G).take j=TT++G:=List.take_of_length_le (by omega);rw[e] at hlk;exact ⟨l,trivial,hlk,H.b6 [0,2,3] (by decide) rfl⟩
 clear H;rintro l u w10 ⟨hlk,H⟩;refine ak (γ:=Nat) (fun g17=>[(17,(ah g17))]) (fun g17 w'=>Hp w ab w' [an g17 58 (mK (.slice none 0 0) 1 0 s),aP eW mE r l,own 50 3 (.slice AR R.length cR) R.length (flat bj R),an g4 58 (mK (.slice none 0 0) 0 0 0)] []) ?_ ?_
 ·refine Fh ?_;refine H.alloc 58 (cs:=mK (.slice none 0 0) 0 0 0) tM rfl ?_;clear H;intro g17 w11 H;refine H.storeAll 0 rfl dw rfl fS ?_;clear H;intro w12 H;exact ⟨g17,⟨rfl,trivial⟩,H⟩
 clear H;rintro g17 u w11 H;obtain ⟨t,ht⟩:∃ t:Nat→Bool,∀ c,t c=decide ((c:Int) ∈ TT++G):=⟨_,fun _=>rfl⟩;have hcl:∀ j,(bz R t j).length≤j:=fun j=>Nat.le_trans (pr j) (by have:=List.countP_le_length (p:=t) (l:=List.range j);rwa [List.length_range] at this);refine ak (γ:=Option Addr × Nat) (fun _=>[]) (fun (B,d) w'=>Hp w ab w' [an g17 58 (mK (.slice B (bz R t R.length).length d) 1 0 s),own 50 3 (.slice B (bz R t R.length).length d) (bz R t R.length).length (flat bj (bz R t R.length)),an g4 58 (mK (.slice none 0 0) 0 0 0)] []) ?_ ?_
 ·refine ay underlying44 ?_;refine ax (γ:=Nat × Option Addr × Nat) (fun (j,_)=>[(75,.int .i64 (j:Int))]) (fun (j,B,d) w'=>j≤R.length∧Hp w ab w' [an g17 58 (mK (.slice B (bz R t j).length d) 1 0 s),own 50 3 (.slice B (bz R t j).length d) (bz R t j).length (flat bj (bz R t j)),aP eW mE r l,own 50 3 (.slice AR R.length cR) R.length (flat bj R),an g4 58 (mK (.slice none 0 0) 0 0 0)] []) (fun (j,_)=>R.length - j) (0,none,0) ⟨rfl,trivial⟩ ⟨Nat.zero_le _,(H.bx 50 3).front 1 rfl⟩ ?_;clear H;rintro ⟨j,B,d⟩ u w12 ⟨hj,H⟩;refine au (fun h8=>?_) (fun h8=>?_)
  ·have hjl:j<R.length:=by omega
   obtain ⟨x,hx⟩:∃ x,R[j]?=some x:=⟨_,List.getElem?_eq_getElem hjl⟩;have hstep:bz R t (j+1)=if t j then bz R t j++[x] else bz R t j:=by
    show (match R[j]? with | some x=>_ | none=>_)=_;rw[hx]
   have hjc:=hcl j;refine ak (γ:=Option Addr × Nat) (fun _=>[]) (fun (B,d) w'=>Hp w ab w' [an g17 58 (mK (.slice B (bz R t (j+1)).length d) 1 0 s),own 50 3 (.slice B (bz R t (j+1)).length d) (bz R t (j+1)).length (flat bj (bz R t (j+1))),aP eW mE r l,own 50 3 (.slice AR R.length cR) R.length (flat bj R),an g4 58 (mK (.slice none 0 0) 0 0 0)] []) ?_ ?_
   ·refine ak (γ:=Nat) (fun g19=>[(19,(ah g19)),(18,.int .i64 (j:Int))]) (fun g19 w'=>Hp w ab w' [an g17 58 (mK (.slice B (bz R t j).length d) 1 0 s),own 50 3 (.slice B (bz R t j).length d) (bz R t j).length (flat bj (bz R t j)),aP eW mE r l,own 50 3 (.slice AR R.length cR) R.length (flat bj R),an g4 58 (mK (.slice none 0 0) 0 0 0),an g19 50 (eU x.1 x.2.1 x.2.2)] []) ?_ ?_
    ·obtain ⟨gR,rfl⟩:=jB (H.get 3 rfl) (by omega);refine aq underlying44 (s:=3) bd j rfl (by omega) (o':=j*3) (by omega) ?_;refine H.gf 3 rfl bI ij bd j rfl hx ?_;refine H.alloc 50 (cs:=eU 0 0 0) jP rfl ?_;clear H;intro g19 w13 H;refine H.storeAll 0 rfl bd rfl (eK x.1 x.2.1 x.2.2) ?_;clear H;intro w14 H;exact ⟨g19,⟨rfl,rfl,trivial⟩,H.b6 [1,2,3,4,5,0] (by decide) rfl⟩
    clear H;rintro g19 u w13 H;refine H.lookup 2 rfl yc (j:Int) ?_;rw[hlk.get,← ht j]
    cases htj:t j with
    | true=>
     rw[htj,if_pos rfl] at hstep;refine ag rfl ?_;refine aa (Fg _) ?_;refine H.load 0 rfl Ff rfl ?_;refine H.ai 5 rfl ij bd ?_;refine H.bg Br (cs:=eU x.1 x.2.1 x.2.2) (by decide) (by decide) (by kernel_rfl) ?_;clear H;intro g20 w14 H;refine H.aG 2 0 Br rfl rfl rfl (eK _ _ _) (by omega) (by omega) ?_;clear H;intro B2 d2 w15 H;refine aa (Fg _) ?_;refine H.store 1 rfl Ks (Nat.le_of_ble_eq_true rfl) rfl ?_;clear H;intro w16 H;have e1:(bz R t (j+1)).length=(bz R t j).length+1:=by rw[hstep,List.length_append];rfl
     have e2:flat bj (bz R t (j+1))=flat bj (bz R t j)++bj x:=by rw[hstep];exact du ..
     exact ⟨(B2,d2),trivial,by rw[e1,e2];exact H.b6 [1,2,3,4,5] (by decide) rfl⟩
    | false=>
     rw[htj,if_neg (by decide)] at hstep;refine af rfl ?_;exact ⟨(B,d),trivial,by rw[hstep];exact H.b6 [0,1,2,3,4] (by decide) rfl⟩
   ·clear H;rintro ⟨B2,d2⟩ u w13 H;exact ⟨(j+1,B2,d2),by show R.length - (j+1)<R.length - j;omega,⟨up (by omega),trivial⟩,by show j+1≤R.length;omega,H⟩
  ·obtain rfl:j=R.length:=by omega
   exact ⟨(B,d),trivial,H.b6 [0,1,4] (by decide) rfl⟩
 clear H;rintro ⟨B,d⟩ u w12 H;refine H.ai 0 rfl l5 dw ?_;refine H.storeAll 2 rfl dw rfl fS ?_;clear H;intro w13 H;refine H.ai 2 rfl l5 dw ?_;refine ⟨rfl,?_⟩;obtain ⟨f1,f2,f3⟩:=hfin G hGs hbest (t:=t) (fun c _=>by rw[ht c,decide_eq_true_iff]);exact ⟨B,d,bz R t R.length,s,0,rfl,.inl ⟨rfl,f1,f2,f3⟩,H.uG 1 rfl⟩
theorem wO {S:dU}(hS:cK S){R:List Rw}(h:qY S S.on.length R):(∀ x ∈ R,gK S.n S.on.length x)∧br S R=true:=by
 refine ⟨fun x hx=>(h.um x hx).ok hS,?_⟩;rw[gu hS];intro j a b ha hb;refine ⟨h.out j a (List.getElem?_eq_some_iff.1 ha).1 ha,fun p hp=>?_⟩;obtain ⟨x,hx,h1,h2⟩:=fA.1 hp;exact (h.um x hx).um j b h1 hb p h2
def BC (S:dU)(rows:List Rw):Prop:=(∀ x ∈ rows,gK S.n S.on.length x)∧br S rows=true∧pg S rows rows.length
theorem Kt:eH prog 26=some (.int .i64 0):=by kernel_rfl
theorem Fi {A:Option Addr}{l c:Nat}{why s:Int}{w:World}{kk:Value→World→Prop}(h:kk (He (.slice A l c) 2 why s) w):b7 prog 58 [(0,.slice A l c),(1,.int .i64 2),(2,.int .i64 why),(3,.int .i64 s)] w kk:=bu (fun w=>by kernel_rfl) h
theorem Mh:enters prog 56=true:=by kernel_rfl
theorem Oh {S:dU}(hS:cK S)(s why:Int)(g2 g7:Nat)(Bo:Option Addr)(co:Nat)(Bm:Option Addr)(cm:Nat)(w:World)(hA:gn w S Bo co Bm cm)(h2:(an g2 41 (bq S.n (.slice Bo S.on.length co) (.slice Bm S.may.length cm))).ok w)(h7:(an g7 26 #[.int .i64 why]).ok w) :
  bt prog 56 ([.int .i64 s]++[(ah g2),(ah g7)]) w fun v w'=>∃ A c rows,v=.tuple #[He (.slice A rows.length c) 2 why s,.int .i64 0]∧BC S rows∧eX w w' (own 50 3 (.slice A rows.length c) rows.length (flat bj rows)):=by
 refine ar (N:=26) func56 Mh rfl rfl rfl (by simp) ?_;have H:Hp w ab w [] [an g2 41 (bq S.n (.slice Bo S.on.length co) (.slice Bm S.may.length cm)),an g7 26 #[.int .i64 why]]:=Hp.start w _ _ (by intro r hr;simp only[List.mem_cons,List.not_mem_nil,or_false] at hr;rcases hr with rfl | rfl;exact h2;exact h7)
  (by
   intro r hr g hg;simp only[List.mem_cons,List.not_mem_nil,or_false] at hr;rcases hr with rfl | rfl
   ·have hg:g=g2:=hg;subst hg;exact iV h2
   ·have hg:g=g7:=hg;subst hg;exact iV h7)
 refine ak (γ:=Nat) (fun g4=>[(4,(ah g4))]) (fun g4 w'=>Hp w ab w' [an g4 58 (mK (.slice none 0 0) 0 0 0)] [an g2 41 (bq S.n (.slice Bo S.on.length co) (.slice Bm S.may.length cm)),an g7 26 #[.int .i64 why]]) ?_ ?_
 ·refine H.alloc 58 (cs:=mK (.slice none 0 0) 0 0 0) tM rfl ?_;clear H;intro g4 w3 H;exact ⟨g4,⟨rfl,trivial⟩,H⟩
 clear H;rintro g4 u w1 H;refine ak (γ:=Option Addr × Nat × List Rw) (fun (A,c,R)=>[(6,.slice A R.length c)]) (fun (A,c,R) w'=>(qY S S.on.length R∧R.length≤26244)∧Hp w ab w' [own 50 3 (.slice A R.length c) R.length (flat bj R),an g4 58 (mK (.slice none 0 0) 0 0 0)] [an g2 41 (bq S.n (.slice Bo S.on.length co) (.slice Bm S.may.length cm)),an g7 26 #[.int .i64 why]]) ?_ ?_
 ·refine fE (H.ro 0 rfl) (bq S.n (.slice Bo S.on.length co) (.slice Bm S.may.length cm)).toList dx bL (fun j v hj=>by rwa [Array.getElem?_toList] at hj) ?_;refine aj (Ox hS Bo co Bm cm _ (hA.same H.keeps)) ?_;rintro _ w2 ⟨A,c,R,rfl,hP,hRl,hn⟩;exact ⟨(A,c,R),⟨rfl,trivial⟩,⟨hP,hRl⟩,H.bD hn⟩
 clear H;rintro ⟨A,c,R⟩ u w2 ⟨⟨hP,hRl⟩,H⟩;obtain ⟨hok,hcov⟩:=wO hS hP;refine ak (γ:=Option Addr × Nat × List Rw) (fun (A,c,R)=>[(8,.slice A R.length c),(9,.int .i64 0)]) (fun (A,c,R) w'=>BC S R∧Hp w ab w' [own 50 3 (.slice A R.length c) R.length (flat bj R),an g4 58 (mK (.slice none 0 0) 0 0 0)] [an g2 41 (bq S.n (.slice Bo S.on.length co) (.slice Bm S.may.length cm)),an g7 26 #[.int .i64 why]]) ?_ ?_
 ·refine fE (H.ro 0 rfl) (bq S.n (.slice Bo S.on.length co) (.slice Bm S.may.length cm)).toList dx bL (fun j v hj=>by rwa [Array.getElem?_toList] at hj) ?_;refine aj (Oy hS R hok (by omega) hcov Bo co Bm cm A c _ (hA.same H.keeps) (bE (H.get 0 rfl))) ?_;rintro _ w3 ⟨B,d,R',rfl,⟨_,h1,h2,h3⟩,hn⟩;exact ⟨(B,d,R'),⟨rfl,rfl,trivial⟩,⟨h1,h2,h3⟩,(H.bD hn).b6 [0,2] (by decide) rfl⟩
 clear H;rintro ⟨B,d,R'⟩ u w3 ⟨hT,H⟩;refine aB nH ((aQ (H.ro 1 rfl) 0).trans rfl) ?_;refine Fi ?_;refine H.storeAll 1 rfl dw rfl fS ?_;clear H;intro w4 H;refine H.ai 1 rfl l5 dw ?_;refine ⟨rfl,?_⟩;exact ⟨B,d,R',rfl,hT,H.uG 0 rfl⟩
def yE (n s:Int):Prop:=n<0∨20000<n∨s<0∨1000000<s
def qe (S:dU)(nodes steps:Int)(rows:List Rw)(st why e:Int):Prop:=
 (yE nodes steps∧rows=[]∧st=0∧why=0∧e=1)∨(¬ yE nodes steps∧e=0∧
  ((st=1∧why=0∧(∀ x ∈ rows,eD S x)∧br S rows=true∧∀ L,(∀ x ∈ L,gK S.n S.on.length x)→br S L=true→rows.length≤L.length)∨
   (st=2∧BC S rows∧((why=5∧nodes<(C0 S.n S.may.length:Int))∨(why=6∧∃ R:List Rw,(∀ x,x ∈ R↔eD S x)∧R.Nodup∧steps<(2^R.length:Nat))))))
theorem Ai {g2 g7:Nat}{w:World}{kk:Value→World→Prop}(h:kk (.func (.func 56) #[] #[(ah g2),(ah g7)]) w) :
  cu prog (.func 56) [] [(ah g2),(ah g7)] w kk:=by
 unfold cu;exact ⟨_,w,by kernel_rfl,h⟩
theorem Mi:enters prog 25=true:=by kernel_rfl
theorem OC {S:dU}(hS:cK S)(hn4:S.n≤4)(hk3:S.may.length≤3)(nodes steps:Int)(Bo:Option Addr)(co:Nat)(Bm:Option Addr)(cm:Nat)(w:World)(hA:gn w S Bo co Bm cm) :
  bt prog 25 [rW S.n (.slice Bo S.on.length co) (.slice Bm S.may.length cm),Dl nodes steps] w fun v w'=>∃ A c rows st why s e,v=.tuple #[He (.slice A rows.length c) st why s,.int .i64 e]∧qe S nodes steps rows st why e∧eX w w' (own 50 3 (.slice A rows.length c) rows.length (flat bj rows)):=by
 refine ar (N:=56) func25 Mi rfl rfl rfl (by simp) ?_;have H:=Hp.aC w;refine ak (γ:=Nat × Nat × Nat) (fun (g2,g3,g4)=>[(2,(ah g2)),(3,(ah g3)),(4,(ah g4))]) (fun (g2,g3,g4) w'=>Hp w ab w' [an g4 58 (mK (.slice none 0 0) 0 0 0),an g3 23 (kK nodes steps),an g2 41 (bq S.n (.slice Bo S.on.length co) (.slice Bm S.may.length cm))] []) ?_ ?_
 ·refine H.box 41 _ (cs:=bq S.n (.slice Bo S.on.length co) (.slice Bm S.may.length cm)) rfl ?_;clear H;intro g2 w1 H;refine H.box 23 _ (cs:=kK nodes steps) rfl ?_;clear H;intro g3 w2 H;refine H.alloc 58 (cs:=mK (.slice none 0 0) 0 0 0) tM rfl ?_;clear H;intro g4 w3 H;exact ⟨(g2,g3,g4),⟨rfl,rfl,rfl,trivial⟩,H⟩
 clear H;rintro ⟨g2,g3,g4⟩ u w1 H;by_cases hbad:yE nodes steps
 ·refine H.ai 2 rfl dx bL ?_;refine aj (GF hS Bo co Bm cm _ (hA.same H.keeps)) ?_;rintro _ w2 ⟨rfl,hk⟩;replace H:=H.same hk;clear hk;have hfin:∀ {u:World},Hp w ab u [an g4 58 (mK (.slice none 0 0) 0 0 0),an g3 23 (kK nodes steps),an g2 41 (bq S.n (.slice Bo S.on.length co) (.slice Bm S.may.length cm))] []→∃ A c rows st why s e,Value.tuple #[He (.slice none 0 0) 0 0 0,.int .i64 1]=.tuple #[He (.slice A (rows:List Rw).length c) st why s,.int .i64 e]∧qe S nodes steps rows st why e∧eX w u (own 50 3 (.slice A rows.length c) rows.length (flat bj rows)):=fun {u} H=>⟨none,0,[],0,0,0,1,rfl,.inl ⟨hbad,rfl,rfl,rfl,rfl⟩,((H.bx 50 3).only).out⟩;by_cases b1:nodes<0
  ·refine af rfl ?_;refine aa (ly _) ?_;refine af rfl ?_;refine H.load 1 rfl aE rfl ?_
   iterate 2 refine af rfl ?_
   iterate 4 refine ag (decide_eq_true (by assumption)) ?_
   iterate 9 refine ag rfl ?_
   refine l6 ?_;refine H.storeAll 0 rfl dw rfl fS ?_;clear H;intro w9 H;refine H.ai 0 rfl l5 dw ?_;exact ⟨rfl,hfin H⟩
  ·by_cases b2:20000<nodes
   ·refine af rfl ?_;refine aa (ly _) ?_;refine af rfl ?_;refine H.load 1 rfl aE rfl ?_
    iterate 2 refine af rfl ?_
    refine af (decide_eq_false (by assumption)) ?_;refine aa (ly _) ?_;refine af (decide_eq_false (by assumption)) ?_;refine H.load 1 rfl aE rfl ?_
    iterate 2 refine af (decide_eq_false (by assumption)) ?_
    iterate 4 refine ag (decide_eq_true (by assumption)) ?_
    iterate 5 refine ag rfl ?_
    refine l6 ?_;refine H.storeAll 0 rfl dw rfl fS ?_;clear H;intro w9 H;refine H.ai 0 rfl l5 dw ?_;exact ⟨rfl,hfin H⟩
   ·by_cases b3:steps<0
    ·refine af rfl ?_;refine aa (ly _) ?_;refine af rfl ?_;refine H.load 1 rfl aE rfl ?_
     iterate 2 refine af rfl ?_
     refine af (decide_eq_false (by assumption)) ?_;refine aa (ly _) ?_;refine af (decide_eq_false (by assumption)) ?_;refine H.load 1 rfl aE rfl ?_
     iterate 3 refine af (decide_eq_false (by assumption)) ?_
     refine aa (jS _) ?_;refine af (decide_eq_false (by assumption)) ?_;refine H.load 1 rfl aE rfl ?_
     iterate 2 refine af (decide_eq_false (by assumption)) ?_
     iterate 4 refine ag (decide_eq_true (by assumption)) ?_
     refine ag rfl ?_;refine l6 ?_;refine H.storeAll 0 rfl dw rfl fS ?_;clear H;intro w9 H;refine H.ai 0 rfl l5 dw ?_;exact ⟨rfl,hfin H⟩
    ·have b4:1000000<steps:=by unfold yE at hbad;omega
     refine af rfl ?_;refine aa (ly _) ?_;refine af rfl ?_;refine H.load 1 rfl aE rfl ?_
     iterate 2 refine af rfl ?_
     refine af (decide_eq_false (by assumption)) ?_;refine aa (ly _) ?_;refine af (decide_eq_false (by assumption)) ?_;refine H.load 1 rfl aE rfl ?_
     iterate 3 refine af (decide_eq_false (by assumption)) ?_
     refine aa (jS _) ?_;refine af (decide_eq_false (by assumption)) ?_;refine H.load 1 rfl aE rfl ?_
     iterate 3 refine af (decide_eq_false (by assumption)) ?_
     refine aa (jS _) ?_;refine af (decide_eq_false (by assumption)) ?_;refine H.load 1 rfl aE rfl ?_
     iterate 2 refine af (decide_eq_false (by assumption)) ?_
     refine ag (decide_eq_true (by assumption)) ?_;refine l6 ?_;refine H.storeAll 0 rfl dw rfl fS ?_;clear H;intro w9 H;refine H.ai 0 rfl l5 dw ?_;exact ⟨rfl,hfin H⟩
 have hb':=hbad;unfold yE at hb';refine aw (fun w'=>Hp w ab w' [an g4 58 (mK (.slice none 0 0) 0 0 0),an g3 23 (kK nodes steps),an g2 41 (bq S.n (.slice Bo S.on.length co) (.slice Bm S.may.length cm))] []) ?_ ?_
 ·refine H.ai 2 rfl dx bL ?_;refine aj (GF hS Bo co Bm cm _ (hA.same H.keeps)) ?_;rintro _ w2 ⟨rfl,hk⟩;replace H:=H.same hk;clear hk;refine af rfl ?_;refine aa (ly _) ?_;refine af rfl ?_;refine H.load 1 rfl aE rfl ?_
  iterate 2 refine af rfl ?_
  refine af (decide_eq_false (by omega)) ?_;refine aa (ly _) ?_;refine af (decide_eq_false (by omega)) ?_;refine H.load 1 rfl aE rfl ?_
  iterate 3 refine af (decide_eq_false (by omega)) ?_
  refine aa (jS _) ?_;refine af (decide_eq_false (by omega)) ?_;refine H.load 1 rfl aE rfl ?_
  iterate 3 refine af (decide_eq_false (by omega)) ?_
  refine aa (jS _) ?_;refine af (decide_eq_false (by omega)) ?_;refine H.load 1 rfl aE rfl ?_
  iterate 3 refine af (decide_eq_false (by omega)) ?_
  exact ⟨(),trivial,H⟩
 clear H;rintro ⟨⟩ u w2 H;obtain ⟨st,rfl⟩:∃ st:Nat,steps=st:=⟨steps.toNat,by omega⟩;refine ak (γ:=Nat × Nat × Option Addr × Nat × List Rw × Int × Int) (fun (g6,g7,_)=>[(6,(ah g6)),(7,(ah g7))]) (fun (g6,g7,A,c,R,s,e) w'=>Mf S nodes st R e∧Hp w ab w' [an g7 26 #[.int .i64 e],an g6 58 (mK (.slice A R.length c) (if e=0 then 1 else 0) 0 s),own 50 3 (.slice A R.length c) R.length (flat bj R),an g4 58 (mK (.slice none 0 0) 0 0 0),an g3 23 (kK nodes st),an g2 41 (bq S.n (.slice Bo S.on.length co) (.slice Bm S.may.length cm))] []) ?_ ?_
 ·refine H.ai 2 rfl dx bL ?_;refine H.ai 1 rfl BB wN ?_;refine aj (OB hS hn4 hk3 nodes st (by omega) (by omega) (by omega) Bo co Bm cm _ (hA.same H.keeps)) ?_;rintro _ w3 ⟨A,c,R,s,e,rfl,hF,hn⟩;replace H:=H.bD hn;refine H.alloc 58 (cs:=mK (.slice none 0 0) 0 0 0) tM rfl ?_;clear H;intro g6 w4 H;refine H.alloc 26 (cs:=#[.int .i64 0]) Kt rfl ?_;clear H;intro g7 w5 H;refine H.storeAll 1 rfl dw rfl fS ?_;clear H;intro w6 H;refine H.store 0 rfl jn (Nat.le_of_ble_eq_true rfl) rfl ?_;clear H;intro w7 H;exact ⟨(g6,g7,A,c,R,s,e),⟨rfl,rfl,trivial⟩,hF,H⟩
 clear H;rintro ⟨g6,g7,A,c,R,s,e⟩ u w3 ⟨hF,H⟩;refine ak (γ:=Unit) (fun _=>[(8,.func (.func 56) #[] #[(ah g2),(ah g7)])]) (fun _ w'=>Hp.cl H w') ?_ ?_
 ·refine Ai ?_;exact ⟨(),⟨rfl,trivial⟩,H⟩
 rintro ⟨⟩ u w4 H1;replace H:Hp w ab w4 [an g7 26 #[.int .i64 e],an g6 58 (mK (.slice A R.length c) (if e=0 then 1 else 0) 0 s),own 50 3 (.slice A R.length c) R.length (flat bj R),an g4 58 (mK (.slice none 0 0) 0 0 0),an g3 23 (kK nodes st),an g2 41 (bq S.n (.slice Bo S.on.length co) (.slice Bm S.may.length cm))] []:=H1;clear H1;refine H.load 0 rfl nH rfl ?_;rcases hF with ⟨rfl,f1,f2,f3⟩ | ⟨rfl,rfl,hlt⟩ | ⟨rfl,rfl,hlt⟩
 ·refine ag rfl ?_;refine H.ai 1 rfl l5 dw ?_;refine H.storeAll 3 rfl dw rfl fS ?_;clear H;intro w5 H;refine H.ai 3 rfl l5 dw ?_;refine ⟨rfl,?_⟩;exact ⟨A,c,R,1,0,s,0,rfl,.inr ⟨hbad,rfl,.inl ⟨rfl,rfl,f1,f2,f3⟩⟩,H.uG 2 rfl⟩
 ·refine af rfl ?_;refine af rfl ?_;refine e7 (args:=[.int .i64 0]) (cap:=[(ah g2),(ah g7)]) (Oh hS 0 5 g2 g7 Bo co Bm cm _ (hA.same H.keeps) (H.get 5 rfl) (H.get 0 rfl)) ?_;rintro _ w5 ⟨A2,c2,rows,rfl,hT,hn⟩;replace H:=H.bD hn;refine H.storeAll 4 rfl dw rfl fS ?_;clear H;intro w6 H;refine H.ai 4 rfl l5 dw ?_;refine ⟨rfl,?_⟩;exact ⟨A2,c2,rows,2,5,0,0,rfl,.inr ⟨hbad,rfl,.inr ⟨rfl,hT,.inl ⟨rfl,hlt⟩⟩⟩,H.uG 0 rfl⟩
 ·refine af rfl ?_;refine ag rfl ?_;refine aa (jS _) ?_;refine H.load 4 rfl aE rfl ?_;refine e7 (args:=[.int .i64 (st:Int)]) (cap:=[(ah g2),(ah g7)]) (Oh hS st 6 g2 g7 Bo co Bm cm _ (hA.same H.keeps) (H.get 5 rfl) (H.get 0 rfl)) ?_;rintro _ w5 ⟨A2,c2,rows,rfl,hT,hn⟩;replace H:=H.bD hn;refine H.storeAll 4 rfl dw rfl fS ?_;clear H;intro w6 H;refine H.ai 4 rfl l5 dw ?_;refine ⟨rfl,?_⟩;obtain ⟨R',h1,h2,h3⟩:=hlt;exact ⟨A2,c2,rows,2,6,st,0,rfl,.inr ⟨hbad,rfl,.inr ⟨rfl,hT,.inr ⟨rfl,R',h1,h2,by omega⟩⟩⟩,H.uG 0 rfl⟩
end Go.Proofs.YtpjihhgjbbihkaaGreatDoor
namespace Go.Proofs
open Go.Shelf
def Tryz.yF:Go.Shelf.Ren:=⟨fun | 103=>73 | 210=>99 | 206=>141 | n=>n,fun | 9=>9 | 4=>4 | 24=>127 | 3=>3 | n=>n,fun | n=>n⟩
theorem Tryz.Hf:Go.Proofs.Lays.n103 prog Tryz.yF:={
 mixed:=by kernel_rfl
 f103:=func73.trans (congrArg some (by kernel_rfl))
 f206:=func141.trans (congrArg some (by kernel_rfl))
 f210:=func99.trans (congrArg some (by kernel_rfl))
 t3:=underlying3
 a3:=Tryz.isAgg3
 z3:=Tryz.sizeOf3
 v3:=Tryz.zeroValue3
 t4:=underlying4
 a4:=Tryz.isAgg4
 z4:=Tryz.sizeOf4
 v4:=Tryz.zeroValue4
 t9:=underlying9
 a9:=Tryz.isAgg9
 z9:=Tryz.sizeOf9
 v9:=Tryz.zeroValue9
 t24:=underlying127
 a24:=Tryz.isAgg127
 z24:=Tryz.sizeOf127
 v24:=Tryz.zeroValue127 }
open Go.RowKit in
theorem Tryz.strings_CutPrefix (s p:ByteArray)(w:World) :
  Calls prog 73 #[.string s,.string p] w fun e w'=>e=.returned (.tuple #[.string ⟨(Lib.trimPrefix s.data.toList p.data.toList).toArray⟩,.bool (Lib.hasPrefix s.data.toList p.data.toList)])∧w'=w:=Any.strings_CutPrefix Tryz.Hf s p w
def Tryz.wP:Go.Shelf.Ren:=⟨fun | 171=>60 | 243=>94 | 246=>134 | 283=>162 | 284=>163 | 285=>164 | 286=>165 | 129=>192 | 317=>191 | 318=>193 | 319=>194 | 320=>195 | 337=>207 | 338=>208 | n=>n,fun | 3=>3 | 9=>9 | 2=>2 | 4=>4 | 171=>226 | 0=>0 | 53=>81 | 37=>151 | 5=>5 | 173=>229 | 212=>257 | 51=>258 | 20=>20 | 213=>259 | 46=>213 | 232=>289 | 233=>290 | n=>n,fun | 17=>1 | 18=>6 | 19=>7 | n=>n⟩
theorem Tryz.Fj:Go.Proofs.LaysM.n171 prog Tryz.wP:={
 mixed:=by kernel_rfl
 f129:=func192.trans (congrArg some (by kernel_rfl))
 f171:=func60.trans (congrArg some (by kernel_rfl))
 f243:=func94.trans (congrArg some (by kernel_rfl))
 f246:=func134.trans (congrArg some (by kernel_rfl))
 f283:=func162.trans (congrArg some (by kernel_rfl))
 f284:=func163.trans (congrArg some (by kernel_rfl))
 f285:=func164.trans (congrArg some (by kernel_rfl))
 f286:=func165.trans (congrArg some (by kernel_rfl))
 f317:=func191.trans (congrArg some (by kernel_rfl))
 f318:=func193.trans (congrArg some (by kernel_rfl))
 f319:=func194.trans (congrArg some (by kernel_rfl))
 f320:=func195.trans (congrArg some (by kernel_rfl))
 f337:=func207.trans (congrArg some (by kernel_rfl))
 f338:=func208.trans (congrArg some (by kernel_rfl))
 t0:=underlying0
 a0:=Tryz.isAgg0
 z0:=Tryz.sizeOf0
 v0:=Tryz.zeroValue0
 t2:=underlying2
 a2:=Tryz.isAgg2
 z2:=Tryz.sizeOf2
 v2:=Tryz.zeroValue2
 t3:=underlying3
 a3:=Tryz.isAgg3
 z3:=Tryz.sizeOf3
 v3:=Tryz.zeroValue3
 t4:=underlying4
 a4:=Tryz.isAgg4
 z4:=Tryz.sizeOf4
 v4:=Tryz.zeroValue4
 t5:=underlying5
 a5:=Tryz.isAgg5
 z5:=Tryz.sizeOf5
 v5:=Tryz.zeroValue5
 t9:=underlying9
 a9:=Tryz.isAgg9
 z9:=Tryz.sizeOf9
 v9:=Tryz.zeroValue9
 t20:=underlying20
 a20:=Tryz.isAgg20
 z20:=Tryz.sizeOf20
 v20:=Tryz.zeroValue20
 t37:=underlying151
 a37:=Tryz.isAgg151
 z37:=Tryz.sizeOf151
 v37:=Tryz.zeroValue151
 t46:=underlying213
 a46:=Tryz.isAgg213
 z46:=Tryz.sizeOf213
 v46:=Tryz.zeroValue213
 t51:=underlying258
 a51:=Tryz.isAgg258
 z51:=Tryz.sizeOf258
 v51:=Tryz.zeroValue258
 t53:=underlying81
 a53:=Tryz.isAgg81
 z53:=Tryz.sizeOf81
 v53:=Tryz.zeroValue81
 t171:=underlying226
 a171:=Tryz.isAgg226
 z171:=Tryz.sizeOf226
 v171:=Tryz.zeroValue226
 t173:=underlying229
 a173:=Tryz.isAgg229
 z173:=Tryz.sizeOf229
 v173:=Tryz.zeroValue229
 t212:=underlying257
 a212:=Tryz.isAgg257
 z212:=Tryz.sizeOf257
 v212:=Tryz.zeroValue257
 t213:=underlying259
 a213:=Tryz.isAgg259
 z213:=Tryz.sizeOf259
 t232:=underlying289
 a232:=Tryz.isAgg289
 z232:=Tryz.sizeOf289
 v232:=Tryz.zeroValue289
 t233:=underlying290
 a233:=Tryz.isAgg290
 z233:=Tryz.sizeOf290
 v233:=Tryz.zeroValue290
 g17:=by kernel_rfl
 g18:=by kernel_rfl
 g19:=by kernel_rfl
 i0:=by kernel_rfl
 i2:=by kernel_rfl
 i3:=by kernel_rfl
 i4:=by kernel_rfl
 i5:=by kernel_rfl
 i9:=by kernel_rfl
 i20:=by kernel_rfl
 i37:=by kernel_rfl
 i46:=by kernel_rfl
 i51:=by kernel_rfl
 i53:=by kernel_rfl
 i171:=by kernel_rfl
 i173:=by kernel_rfl
 i212:=by kernel_rfl
 i232:=by kernel_rfl
 i233:=by kernel_rfl
 m17:=by kernel_rfl
 m18:=by kernel_rfl
 m19:=by kernel_rfl }
open Go.RowKit Go.Sort Go.Lib in
theorem Tryz.strconv_Itoa (n : Int) (h0 : -9223372036854775808 ≤ n) (h1 : n ≤ 9223372036854775807) (w : World) (htab : Lib.TabIs prog w "internal/strconv.uint64pow10" .u64 Lib.pow10Tab) :
  Calls prog 60 #[.int .i64 n] w fun e w'=>e=.returned (.string ⟨(Lib.itoa n).toArray⟩)∧∃ k os,w'=grow (w.drewN k) os:=Any.strconv_Itoa Tryz.Fj n h0 h1 w htab
def Tryz.yG:Go.Shelf.Ren:=⟨fun | 171=>60 | 243=>94 | 246=>134 | 283=>162 | 284=>163 | 285=>164 | 286=>165 | 129=>192 | 317=>191 | 318=>193 | 319=>194 | 320=>195 | 337=>207 | 338=>208 | n=>n,fun | 3=>3 | 9=>9 | 2=>2 | 4=>4 | 171=>226 | 0=>0 | 53=>81 | 37=>151 | 5=>5 | 173=>229 | 212=>257 | 51=>258 | 20=>20 | 213=>259 | 46=>213 | 232=>289 | 233=>290 | n=>n,fun | 17=>1 | 18=>6 | 19=>7 | n=>n⟩
theorem Tryz.Hg:Go.Proofs.Lays.n171 prog Tryz.yG:={
 mixed:=by kernel_rfl
 f129:=func192.trans (congrArg some (by kernel_rfl))
 f171:=func60.trans (congrArg some (by kernel_rfl))
 f243:=func94.trans (congrArg some (by kernel_rfl))
 f246:=func134.trans (congrArg some (by kernel_rfl))
 f283:=func162.trans (congrArg some (by kernel_rfl))
 f284:=func163.trans (congrArg some (by kernel_rfl))
 f285:=func164.trans (congrArg some (by kernel_rfl))
 f286:=func165.trans (congrArg some (by kernel_rfl))
 f317:=func191.trans (congrArg some (by kernel_rfl))
 f318:=func193.trans (congrArg some (by kernel_rfl))
 f319:=func194.trans (congrArg some (by kernel_rfl))
 f320:=func195.trans (congrArg some (by kernel_rfl))
 f337:=func207.trans (congrArg some (by kernel_rfl))
 f338:=func208.trans (congrArg some (by kernel_rfl))
 t0:=underlying0
 a0:=Tryz.isAgg0
 z0:=Tryz.sizeOf0
 v0:=Tryz.zeroValue0
 t2:=underlying2
 a2:=Tryz.isAgg2
 z2:=Tryz.sizeOf2
 v2:=Tryz.zeroValue2
 t3:=underlying3
 a3:=Tryz.isAgg3
 z3:=Tryz.sizeOf3
 v3:=Tryz.zeroValue3
 t4:=underlying4
 a4:=Tryz.isAgg4
 z4:=Tryz.sizeOf4
 v4:=Tryz.zeroValue4
 t5:=underlying5
 a5:=Tryz.isAgg5
 z5:=Tryz.sizeOf5
 v5:=Tryz.zeroValue5
 t9:=underlying9
 a9:=Tryz.isAgg9
 z9:=Tryz.sizeOf9
 v9:=Tryz.zeroValue9
 t20:=underlying20
 a20:=Tryz.isAgg20
 z20:=Tryz.sizeOf20
 v20:=Tryz.zeroValue20
 t37:=underlying151
 a37:=Tryz.isAgg151
 z37:=Tryz.sizeOf151
 v37:=Tryz.zeroValue151
 t46:=underlying213
 a46:=Tryz.isAgg213
 z46:=Tryz.sizeOf213
 v46:=Tryz.zeroValue213
 t51:=underlying258
 a51:=Tryz.isAgg258
 z51:=Tryz.sizeOf258
 v51:=Tryz.zeroValue258
 t53:=underlying81
 a53:=Tryz.isAgg81
 z53:=Tryz.sizeOf81
 v53:=Tryz.zeroValue81
 t171:=underlying226
 a171:=Tryz.isAgg226
 z171:=Tryz.sizeOf226
 v171:=Tryz.zeroValue226
 t173:=underlying229
 a173:=Tryz.isAgg229
 z173:=Tryz.sizeOf229
 v173:=Tryz.zeroValue229
 t212:=underlying257
 a212:=Tryz.isAgg257
 z212:=Tryz.sizeOf257
 v212:=Tryz.zeroValue257
 t213:=underlying259
 a213:=Tryz.isAgg259
 z213:=Tryz.sizeOf259
 t232:=underlying289
 a232:=Tryz.isAgg289
 z232:=Tryz.sizeOf289
 v232:=Tryz.zeroValue289
 t233:=underlying290
 a233:=Tryz.isAgg290
 z233:=Tryz.sizeOf290
 v233:=Tryz.zeroValue290
 g17:=by kernel_rfl
 g18:=by kernel_rfl
 g19:=by kernel_rfl }
open Go.RowKit Go.Sort Go.Lib in
theorem Tryz.strconv_Itoa_small (i:Nat)(hi:i<100)(w:World) :
  Calls prog 60 #[.int .i64 i] w fun e w'=>e=.returned (.string ⟨(Lib.decDigits i).toArray⟩)∧w'=w:=Any.strconv_Itoa_small Tryz.Hg i hi w
def Tryz.wQ:Go.Shelf.Ren:=⟨fun | 172=>98 | 244=>139 | 245=>140 | 247=>171 | 279=>172 | 280=>173 | 281=>174 | 282=>175 | 287=>198 | 316=>199 | 171=>60 | 205=>200 | 321=>209 | 322=>210 | 243=>94 | 246=>134 | 283=>162 | 284=>163 | 285=>164 | 286=>165 | 129=>192 | 317=>191 | 318=>193 | 319=>194 | 320=>195 | 337=>207 | 338=>208 | n=>n,fun | 9=>9 | 3=>3 | 75=>155 | 76=>156 | 4=>4 | 5=>5 | 167=>231 | 37=>151 | 0=>0 | 85=>232 | 2=>2 | 168=>234 | 53=>81 | 175=>267 | 46=>213 | 210=>271 | 127=>283 | 145=>286 | 143=>284 | 21=>21 | 171=>226 | 173=>229 | 212=>257 | 51=>258 | 20=>20 | 213=>259 | 232=>289 | 233=>290 | 80=>293 | n=>n,fun | 15=>4 | 16=>5 | 17=>1 | 18=>6 | 19=>7 | n=>n⟩
theorem Tryz.tN:Go.Proofs.LaysC.n172 prog Tryz.wQ:={
 mixed:=by kernel_rfl
 f129:=func192.trans (congrArg some (by kernel_rfl))
 f171:=func60.trans (congrArg some (by kernel_rfl))
 f172:=func98.trans (congrArg some (by kernel_rfl))
 f205:=func200.trans (congrArg some (by kernel_rfl))
 f243:=func94.trans (congrArg some (by kernel_rfl))
 f244:=func139.trans (congrArg some (by kernel_rfl))
 f245:=func140.trans (congrArg some (by kernel_rfl))
 f246:=func134.trans (congrArg some (by kernel_rfl))
 f247:=func171.trans (congrArg some (by kernel_rfl))
 f279:=func172.trans (congrArg some (by kernel_rfl))
 f280:=func173.trans (congrArg some (by kernel_rfl))
 f281:=func174.trans (congrArg some (by kernel_rfl))
 f282:=func175.trans (congrArg some (by kernel_rfl))
 f283:=func162.trans (congrArg some (by kernel_rfl))
 f284:=func163.trans (congrArg some (by kernel_rfl))
 f285:=func164.trans (congrArg some (by kernel_rfl))
 f286:=func165.trans (congrArg some (by kernel_rfl))
 f287:=func198.trans (congrArg some (by kernel_rfl))
 f316:=func199.trans (congrArg some (by kernel_rfl))
 f317:=func191.trans (congrArg some (by kernel_rfl))
 f318:=func193.trans (congrArg some (by kernel_rfl))
 f319:=func194.trans (congrArg some (by kernel_rfl))
 f320:=func195.trans (congrArg some (by kernel_rfl))
 f321:=func209.trans (congrArg some (by kernel_rfl))
 f322:=func210.trans (congrArg some (by kernel_rfl))
 f337:=func207.trans (congrArg some (by kernel_rfl))
 f338:=func208.trans (congrArg some (by kernel_rfl))
 t0:=underlying0
 a0:=Tryz.isAgg0
 z0:=Tryz.sizeOf0
 v0:=Tryz.zeroValue0
 t2:=underlying2
 a2:=Tryz.isAgg2
 z2:=Tryz.sizeOf2
 v2:=Tryz.zeroValue2
 t3:=underlying3
 a3:=Tryz.isAgg3
 z3:=Tryz.sizeOf3
 v3:=Tryz.zeroValue3
 t4:=underlying4
 a4:=Tryz.isAgg4
 z4:=Tryz.sizeOf4
 v4:=Tryz.zeroValue4
 t5:=underlying5
 a5:=Tryz.isAgg5
 z5:=Tryz.sizeOf5
 v5:=Tryz.zeroValue5
 t9:=underlying9
 a9:=Tryz.isAgg9
 z9:=Tryz.sizeOf9
 v9:=Tryz.zeroValue9
 t20:=underlying20
 a20:=Tryz.isAgg20
 z20:=Tryz.sizeOf20
 v20:=Tryz.zeroValue20
 t21:=underlying21
 a21:=Tryz.isAgg21
 z21:=Tryz.sizeOf21
 v21:=Tryz.zeroValue21
 t37:=underlying151
 a37:=Tryz.isAgg151
 z37:=Tryz.sizeOf151
 v37:=Tryz.zeroValue151
 t46:=underlying213
 a46:=Tryz.isAgg213
 z46:=Tryz.sizeOf213
 v46:=Tryz.zeroValue213
 t51:=underlying258
 a51:=Tryz.isAgg258
 z51:=Tryz.sizeOf258
 v51:=Tryz.zeroValue258
 t53:=underlying81
 a53:=Tryz.isAgg81
 z53:=Tryz.sizeOf81
 v53:=Tryz.zeroValue81
 t75:=underlying155
 a75:=Tryz.isAgg155
 z75:=Tryz.sizeOf155
 v75:=Tryz.zeroValue155
 t76:=underlying156
 a76:=Tryz.isAgg156
 z76:=Tryz.sizeOf156
 v76:=Tryz.zeroValue156
 t85:=underlying232
 a85:=Tryz.isAgg232
 z85:=Tryz.sizeOf232
 v85:=Tryz.zeroValue232
 t127:=underlying283
 a127:=Tryz.isAgg283
 z127:=Tryz.sizeOf283
 v127:=Tryz.zeroValue283
 t143:=underlying284
 a143:=Tryz.isAgg284
 z143:=Tryz.sizeOf284
 v143:=Tryz.zeroValue284
 t145:=underlying286
 a145:=Tryz.isAgg286
 z145:=Tryz.sizeOf286
 v145:=Tryz.zeroValue286
 t167:=underlying231
 a167:=Tryz.isAgg231
 z167:=Tryz.sizeOf231
 v167:=Tryz.zeroValue231
 t168:=underlying234
 a168:=Tryz.isAgg234
 z168:=Tryz.sizeOf234
 v168:=Tryz.zeroValue234
 t171:=underlying226
 a171:=Tryz.isAgg226
 z171:=Tryz.sizeOf226
 v171:=Tryz.zeroValue226
 t173:=underlying229
 a173:=Tryz.isAgg229
 z173:=Tryz.sizeOf229
 v173:=Tryz.zeroValue229
 t175:=underlying267
 a175:=Tryz.isAgg267
 z175:=Tryz.sizeOf267
 v175:=Tryz.zeroValue267
 t210:=underlying271
 a210:=Tryz.isAgg271
 z210:=Tryz.sizeOf271
 v210:=Tryz.zeroValue271
 t212:=underlying257
 a212:=Tryz.isAgg257
 z212:=Tryz.sizeOf257
 v212:=Tryz.zeroValue257
 t213:=underlying259
 a213:=Tryz.isAgg259
 z213:=Tryz.sizeOf259
 t232:=underlying289
 a232:=Tryz.isAgg289
 z232:=Tryz.sizeOf289
 v232:=Tryz.zeroValue289
 t233:=underlying290
 a233:=Tryz.isAgg290
 z233:=Tryz.sizeOf290
 v233:=Tryz.zeroValue290
 g15:=by kernel_rfl
 g16:=by kernel_rfl
 g17:=by kernel_rfl
 g18:=by kernel_rfl
 g19:=by kernel_rfl
 t80:=underlying293
 a80:=Tryz.isAgg293
 z80:=Tryz.sizeOf293
 v80:=Tryz.zeroValue293
 i0:=by kernel_rfl
 i2:=by kernel_rfl
 i3:=by kernel_rfl
 i4:=by kernel_rfl
 i5:=by kernel_rfl
 i9:=by kernel_rfl
 i20:=by kernel_rfl
 i21:=by kernel_rfl
 i37:=by kernel_rfl
 i46:=by kernel_rfl
 i51:=by kernel_rfl
 i53:=by kernel_rfl
 i75:=by kernel_rfl
 i76:=by kernel_rfl
 i80:=by kernel_rfl
 i85:=by kernel_rfl
 i127:=by kernel_rfl
 i143:=by kernel_rfl
 i145:=by kernel_rfl
 i167:=by kernel_rfl
 i168:=by kernel_rfl
 i171:=by kernel_rfl
 i173:=by kernel_rfl
 i175:=by kernel_rfl
 i210:=by kernel_rfl
 i212:=by kernel_rfl
 i232:=by kernel_rfl
 i233:=by kernel_rfl
 m15:=by kernel_rfl
 m16:=by kernel_rfl
 m17:=by kernel_rfl
 m18:=by kernel_rfl
 m19:=by kernel_rfl
 c0:=by kernel_rfl
 c2:=by kernel_rfl
 c3:=by kernel_rfl
 c4:=by kernel_rfl
 c5:=by kernel_rfl
 c9:=by kernel_rfl
 c20:=by kernel_rfl
 c21:=by kernel_rfl
 c37:=by kernel_rfl
 c46:=by kernel_rfl
 c51:=by kernel_rfl
 c53:=by kernel_rfl
 c75:=by kernel_rfl
 c76:=by kernel_rfl
 c80:=by kernel_rfl
 c85:=by kernel_rfl
 c127:=by kernel_rfl
 c143:=by kernel_rfl
 c145:=by kernel_rfl
 c167:=by kernel_rfl
 c168:=by kernel_rfl
 c171:=by kernel_rfl
 c173:=by kernel_rfl
 c175:=by kernel_rfl
 c210:=by kernel_rfl
 c212:=by kernel_rfl
 c213:=by kernel_rfl
 c232:=by kernel_rfl
 c233:=by kernel_rfl }
open Go.RowKit in
theorem Tryz.strconv_Atoi_ok (s:ByteArray)(hmax:s.size≤9223372036854775806)(v:Int)(h:Lib.atoiAll s.data.toList=.ok v)(w:World) :
  Calls prog 98 #[.string s] w fun e w'=>e=.returned (.tuple #[.int .i64 v,.nilIface])∧(w'=w∨∃ t,w'=Lib.bytesWorld w 5 t):=Any.strconv_Atoi_ok Tryz.tN s hmax v h w
open Go.RowKit in
theorem Tryz.strconv_Atoi_syntax_var (s : ByteArray) (hlim : s.size ≤ 281474976710656) (h1 : ∀ v, Lib.atoiAll s.data.toList ≠ .ok v) (h2 : Lib.atoiAll s.data.toList ≠ .range) (tp : TypeId) (p : Value) (w : World) (hvar : w.var? prog "strconv.ErrSyntax" = some #[.iface tp p]) :
  Calls prog 98 #[.string s] w fun e w'=>∃ N,e=.returned (.tuple #[.int .i64 0,.iface 234 (.pointer (some ⟨N,0,none⟩))])∧w.heap.size≤N∧w'.heap[N]?=some (.cells #[.string ⟨#[65,116,111,105]⟩,.string s,.iface tp p] 271 (0,0))∧Below w.heap.size w w':=by
 cases h:Lib.atoiAll s.data.toList with
 | ok v=>exact absurd h (h1 v)
 | range=>exact absurd h h2
 | _=>exact Any.strconv_Atoi_syntax_var Tryz.tN s hlim h tp p w hvar
open Go.RowKit in
theorem Tryz.strconv_Atoi_range_var (s : ByteArray) (hlim : s.size ≤ 281474976710656) (h : Lib.atoiAll s.data.toList = .range) (tp : TypeId) (p : Value) (w : World) (hvar : w.var? prog "strconv.ErrRange" = some #[.iface tp p]) :
  Calls prog 98 #[.string s] w fun e w'=>∃ N,e=.returned (.tuple #[.int .i64 (Lib.atoiSat s.data.toList),.iface 234 (.pointer (some ⟨N,0,none⟩))])∧w.heap.size≤N∧w'.heap[N]?=some (.cells #[.string ⟨#[65,116,111,105]⟩,.string s,.iface tp p] 271 (0,0))∧Below w.heap.size w w':=Any.strconv_Atoi_range_var Tryz.tN s hlim h tp p w hvar
def Tryz.yH:Go.Shelf.Ren:=⟨fun | 145=>100 | 220=>142 | 219=>138 | 217=>167 | 225=>168 | 224=>169 | 267=>170 | 266=>196 | 314=>197 | n=>n,fun | 9=>9 | 4=>4 | 59=>158 | 3=>3 | 5=>5 | 46=>213 | 146=>265 | 51=>258 | n=>n,fun | 1=>0 | n=>n⟩
theorem Tryz.Hh:Go.Proofs.Lays.n145 prog Tryz.yH:={
 mixed:=by kernel_rfl
 f145:=func100.trans (congrArg some (by kernel_rfl))
 f217:=func167.trans (congrArg some (by kernel_rfl))
 f219:=func138.trans (congrArg some (by kernel_rfl))
 f220:=func142.trans (congrArg some (by kernel_rfl))
 f224:=func169.trans (congrArg some (by kernel_rfl))
 f225:=func168.trans (congrArg some (by kernel_rfl))
 f266:=func196.trans (congrArg some (by kernel_rfl))
 f267:=func170.trans (congrArg some (by kernel_rfl))
 f314:=func197.trans (congrArg some (by kernel_rfl))
 t3:=underlying3
 a3:=Tryz.isAgg3
 z3:=Tryz.sizeOf3
 v3:=Tryz.zeroValue3
 t4:=underlying4
 a4:=Tryz.isAgg4
 z4:=Tryz.sizeOf4
 v4:=Tryz.zeroValue4
 t5:=underlying5
 a5:=Tryz.isAgg5
 z5:=Tryz.sizeOf5
 v5:=Tryz.zeroValue5
 t9:=underlying9
 a9:=Tryz.isAgg9
 z9:=Tryz.sizeOf9
 v9:=Tryz.zeroValue9
 t46:=underlying213
 a46:=Tryz.isAgg213
 z46:=Tryz.sizeOf213
 v46:=Tryz.zeroValue213
 t51:=underlying258
 a51:=Tryz.isAgg258
 z51:=Tryz.sizeOf258
 v51:=Tryz.zeroValue258
 t59:=underlying158
 a59:=Tryz.isAgg158
 z59:=Tryz.sizeOf158
 v59:=Tryz.zeroValue158
 t146:=underlying265
 a146:=Tryz.isAgg265
 z146:=Tryz.sizeOf265
 v146:=Tryz.zeroValue265
 g1:=by kernel_rfl }
open Go.RowKit Go.Lib in
theorem Tryz.strings_Cut (s sep:ByteArray)(m:Int)(w:World)(hs:s.size<4294967281)(hm:w.cell? ⟨0,0,none⟩=some (.int .i64 m)) :
  Calls prog 100 #[.string s,.string sep] w fun e w'=>e=.returned (.tuple #[.string ⟨(Lib.cut s.data.toList sep.data.toList).1.toArray⟩,.string ⟨(Lib.cut s.data.toList sep.data.toList).2.1.toArray⟩,.bool (Lib.cut s.data.toList sep.data.toList).2.2])∧∃ n,w'=w.drewN n:=Any.strings_Cut Tryz.Hh s sep m w hs hm
def Tryz.yI:Go.Shelf.Ren:=⟨fun | 146=>47 | 221=>70 | 268=>95 | 138=>96 | 143=>97 | 195=>135 | 197=>136 | 218=>137 | 219=>138 | 260=>166 | 217=>167 | 225=>168 | 224=>169 | 267=>170 | 266=>196 | 314=>197 | n=>n,fun | 9=>9 | 31=>73 | 3=>3 | 4=>4 | 0=>0 | 105=>196 | 21=>21 | 5=>5 | 46=>213 | 119=>261 | 139=>264 | 138=>263 | 146=>265 | 51=>258 | n=>n,fun | 1=>0 | 3=>2 | 4=>3 | n=>n⟩
theorem Tryz.Hi:Go.Proofs.Lays.n146 prog Tryz.yI:={
 mixed:=by kernel_rfl
 f138:=func96.trans (congrArg some (by kernel_rfl))
 f143:=func97.trans (congrArg some (by kernel_rfl))
 f146:=func47.trans (congrArg some (by kernel_rfl))
 f195:=func135.trans (congrArg some (by kernel_rfl))
 f197:=func136.trans (congrArg some (by kernel_rfl))
 f217:=func167.trans (congrArg some (by kernel_rfl))
 f218:=func137.trans (congrArg some (by kernel_rfl))
 f219:=func138.trans (congrArg some (by kernel_rfl))
 f221:=func70.trans (congrArg some (by kernel_rfl))
 f224:=func169.trans (congrArg some (by kernel_rfl))
 f225:=func168.trans (congrArg some (by kernel_rfl))
 f260:=func166.trans (congrArg some (by kernel_rfl))
 f266:=func196.trans (congrArg some (by kernel_rfl))
 f267:=func170.trans (congrArg some (by kernel_rfl))
 f268:=func95.trans (congrArg some (by kernel_rfl))
 f314:=func197.trans (congrArg some (by kernel_rfl))
 t0:=underlying0
 a0:=Tryz.isAgg0
 z0:=Tryz.sizeOf0
 v0:=Tryz.zeroValue0
 t3:=underlying3
 a3:=Tryz.isAgg3
 z3:=Tryz.sizeOf3
 v3:=Tryz.zeroValue3
 t4:=underlying4
 a4:=Tryz.isAgg4
 z4:=Tryz.sizeOf4
 v4:=Tryz.zeroValue4
 t5:=underlying5
 a5:=Tryz.isAgg5
 z5:=Tryz.sizeOf5
 v5:=Tryz.zeroValue5
 t9:=underlying9
 a9:=Tryz.isAgg9
 z9:=Tryz.sizeOf9
 v9:=Tryz.zeroValue9
 t21:=underlying21
 a21:=Tryz.isAgg21
 z21:=Tryz.sizeOf21
 v21:=Tryz.zeroValue21
 t31:=underlying73
 a31:=Tryz.isAgg73
 z31:=Tryz.sizeOf73
 v31:=Tryz.zeroValue73
 t46:=underlying213
 a46:=Tryz.isAgg213
 z46:=Tryz.sizeOf213
 v46:=Tryz.zeroValue213
 t51:=underlying258
 a51:=Tryz.isAgg258
 z51:=Tryz.sizeOf258
 v51:=Tryz.zeroValue258
 t105:=underlying196
 a105:=Tryz.isAgg196
 z105:=Tryz.sizeOf196
 v105:=Tryz.zeroValue196
 t119:=underlying261
 a119:=Tryz.isAgg261
 z119:=Tryz.sizeOf261
 t138:=underlying263
 a138:=Tryz.isAgg263
 z138:=Tryz.sizeOf263
 v138:=Tryz.zeroValue263
 t139:=underlying264
 a139:=Tryz.isAgg264
 z139:=Tryz.sizeOf264
 v139:=Tryz.zeroValue264
 t146:=underlying265
 a146:=Tryz.isAgg265
 z146:=Tryz.sizeOf265
 v146:=Tryz.zeroValue265
 g1:=by kernel_rfl
 g3:=by kernel_rfl
 g4:=by kernel_rfl }
open Go.RowKit Go.Lib in
theorem Tryz.strings_Split (s sep:ByteArray)(m:Int)(w:World)(hs:s.size<4294967281)(hm:w.cell? ⟨0,0,none⟩=some (.int .i64 m))(h1:1≤sep.size) :
  Calls prog 47 #[.string s,.string sep] w fun e w'=>
   e=.returned (.slice (some ⟨w.heap.size,0,none⟩) (Lib.countB s sep+1) (Lib.countB s sep+1))∧w'=w.alloc (.cells ((Lib.splitB sep 0 (Lib.countB s sep) s).map Value.string).toArray 9):=Any.strings_Split Tryz.Hi (by kernel_rfl) s sep m w hs hm h1
end Go.Proofs
namespace Go.Proofs.YtpjihhgjbbihkaaGreatDoor
open Go.Proofs.Tryz
open Go.Dk
set_option maxRecDepth 100000
def Oi : String := "strconv.ErrSyntax"
def Oj : String := "strconv.ErrRange"
structure jh (w:World):Prop where
 max:∃ m,w.cell? ⟨0,0,none⟩=some (.int .i64 m)
 syn:∃ tp p,w.var? prog Oi=some #[.iface tp p]
 rng:∃ tp p,w.var? prog Oj=some #[.iface tp p]
 tab : Lib.TabIs prog w "internal/strconv.uint64pow10" .u64 Lib.pow10Tab
theorem q7 {w w':World}{n:String}(h:∀ g,Tryz.prog.globalNamed n=some g→w'.heap[g]?=w.heap[g]?):w'.var? prog n=w.var? prog n:=by
 unfold World.var?
 cases hn:Tryz.prog.globalNamed n with
 | none=>rfl
 | some g=>
  simp only[Option.bind_some];rw[h g hn]
def Ku (x : Nat) : Prop := x = 0 ∨ Tryz.prog.globalNamed Oi = some x ∨ Tryz.prog.globalNamed Oj = some x ∨ Tryz.prog.globalNamed "internal/strconv.uint64pow10" = some x
theorem jh.bP {w w':World}(h:∀ g,Ku g→w'.heap[g]?=w.heap[g]?)(k:jh w):jh w':=by
 obtain ⟨h1,h2,h3,h4⟩:=k;refine ⟨?_,?_,?_,?_⟩
 ·rw[show w'.cell? ⟨0,0,none⟩=w.cell? ⟨0,0,none⟩ from World.cell?_of_block (w:=w) (h 0 (.inl rfl))];exact h1
 ·rw[q7 fun g hg=>h g (.inr (.inl hg))];exact h2
 ·rw[q7 fun g hg=>h g (.inr (.inr (.inl hg)))];exact h3
 ·unfold Lib.TabIs;rw[q7 fun g hg=>h g (.inr (.inr (.inr hg)))];exact h4
theorem Aj {w:World}{n:String}{cs:Array Value}(h:w.var? prog n=some cs){g:Nat}(hg:Tryz.prog.globalNamed n=some g):g<w.heap.size:=by
 unfold World.var? at h;rw[hg] at h;simp only[Option.bind_some] at h;split at h
 ·rename_i hh;exact (Array.getElem?_eq_some_iff.1 hh).1
 ·cases h
theorem jh.lt {w:World}(h:jh w):∀ g,Ku g→g<w.heap.size:=by
 obtain ⟨⟨m,h1⟩,⟨_,_,h2⟩,⟨_,_,h3⟩,h4⟩:=h;rintro g (rfl | hg | hg | hg)
 ·exact (uT h1).2
 ·exact Aj h2 hg
 ·exact Aj h3 hg
 ·exact Aj h4 hg
def oH:cC:=⟨Ku,jh,fun _ _ h k=>k.bP h⟩
theorem jh.same {w w':World}(h:jh w)(hk:aT w w'):jh w':=h.bP fun g hg=>hk.old g (h.lt g hg) id
theorem pt {w w':World}(h:RowKit.Below w.heap.size w w'):aT w w':=⟨h.os,h.tape,h.output,h.size,fun g hg _=>h.block g hg⟩
theorem C3 (w:World)(k:Nat)(os:Array Obj):aT w (Sort.grow (w.drewN k) os):=
 ⟨rfl,rfl,rfl,by rw[Sort.size_grow];exact Nat.le_add_right _ _,fun g hg _=>Sort.heap_grow_old (w.drewN k) os hg⟩
theorem Ak (w:World)(k:Nat):aT w (w.drewN k):=⟨rfl,rfl,rfl,Nat.le_refl _,fun _ _ _=>rfl⟩
theorem lu {g:FuncId}{args:List Value}{w:World}{post:Value→World→Prop}{Q:Ending→World→Prop}(he:enters prog g=true)(h:Calls prog g args.toArray w Q)(hq:∀ e w',Q e w'→∃ v,e=.returned v∧post v w'):bt prog g args w post:=
 ⟨he,h.mono hq⟩
theorem Hj (l:List UInt8):(⟨l.toArray⟩:ByteArray).data.toList=l:=rfl
theorem Ii (l:List UInt8):(⟨l.toArray⟩:ByteArray).size=l.length:=rfl
theorem Mj:enters prog 73=true:=by kernel_rfl
theorem Ok (l p:List UInt8)(w:World):bt prog 73 [aU l,aU p] w fun v w'=>v=.tuple #[aU (Lib.trimPrefix l p),.bool (Lib.hasPrefix l p)]∧aT w w':=
 lu Mj (Tryz.strings_CutPrefix ⟨l.toArray⟩ ⟨p.toArray⟩ w) fun e w' ⟨he,hw⟩=>⟨_,he,rfl,by rw[hw];exact aS.refl _ _⟩
theorem Kv:enters prog 100=true:=by kernel_rfl
theorem NW (l p:List UInt8)(hl:l.length<4294967281)(w:World)(hg:jh w):bt prog 100 [aU l,aU p] w fun v w'=>v=.tuple #[aU (Lib.cut l p).1,aU (Lib.cut l p).2.1,.bool (Lib.cut l p).2.2]∧aT w w':=by
 obtain ⟨m,hm⟩:=hg.max;exact lu Kv (Tryz.strings_Cut ⟨l.toArray⟩ ⟨p.toArray⟩ m w hl hm) fun e w' ⟨he,n,hw⟩=>⟨_,he,rfl,by rw[hw];exact Ak w n⟩
theorem Ij:enters prog 60=true:=by kernel_rfl
theorem M7 (n:Int)(h0:-9223372036854775808≤n)(h1:n≤9223372036854775807)(w:World)(hg:jh w):bt prog 60 [.int .i64 n] w fun v w'=>v=aU (Lib.itoa n)∧aT w w':=
 lu Ij (Tryz.strconv_Itoa n h0 h1 w hg.tab) fun e w' ⟨he,k,os,hw⟩=>⟨_,he,rfl,by rw[hw];exact C3 w k os⟩
theorem vl (n:Nat)(hn:n<100)(w:World):bt prog 60 [.int .i64 (n:Int)] w fun v w'=>v=aU (Lib.decDigits n)∧aT w w':=
 lu Ij (Tryz.strconv_Itoa_small n hn w) fun e w' ⟨he,hw⟩=>⟨_,he,rfl,by rw[hw];exact aS.refl _ _⟩
theorem Fk:enters prog 98=true:=by kernel_rfl
theorem OD (l:List UInt8)(hl:l.length≤281474976710656)(w:World)(hg:jh w):bt prog 98 [aU l] w fun v w'=>∃ n ev,v=.tuple #[.int .i64 n,ev]∧((Lib.atoiAll l=.ok n∧ev=.nilIface)∨((∀ m,Lib.atoiAll l≠.ok m)∧∃ N,ev=.iface 234 (ah N)))∧aT w w':=by
 cases h:Lib.atoiAll l with
 | ok n=>
  refine lu Fk (Tryz.strconv_Atoi_ok ⟨l.toArray⟩ (by rw[Ii];omega) n h w) fun e w' ⟨he,hw⟩=>⟨_,he,n,.nilIface,rfl,.inl ⟨rfl,rfl⟩,?_⟩;rcases hw with rfl | ⟨t,rfl⟩
  ·exact aS.refl _ _
  ·exact pt (Lib.bytesWorld_below w 5 t)
 | range=>
  obtain ⟨tp,p,hv⟩:=hg.rng;exact lu Fk (Tryz.strconv_Atoi_range_var ⟨l.toArray⟩ hl h tp p w hv) fun e w' ⟨N,he,_,_,hb⟩=>⟨_,he,_,_,rfl,.inr ⟨fun m h=>(by cases h),N,rfl⟩,pt hb⟩
 | _=>
  obtain ⟨tp,p,hv⟩:=hg.syn;exact lu Fk (Tryz.strconv_Atoi_syntax_var ⟨l.toArray⟩ hl (fun _ hv=>by cases h.symm.trans hv) (fun hv=>by cases h.symm.trans hv) tp p w hv) fun e w' ⟨N,he,_,_,hb⟩=>⟨_,he,0,_,rfl,.inr ⟨fun m h=>(by cases h),N,rfl⟩,pt hb⟩
end Go.Proofs.YtpjihhgjbbihkaaGreatDoor
namespace Go.Dk
def bV:List UInt8→List (List UInt8)
 | []=>[[]]
 | c::s=>if c==10 then []::bV s else match bV s with
  | x::xs=>(c::x)::xs
  | []=>[[c]]
theorem l7 (l:List UInt8):bV l≠[]:=by
 cases l with
 | nil=>simp[bV]
 | cons c s=>
  unfold bV;split
  ·simp
  ·split <;> simp
theorem nI (s:List UInt8):bV (10::s)=[]::bV s:=rfl
theorem jE {c:UInt8}(h:c≠10){s x:List UInt8}{xs:List (List UInt8)}(hs:bV s=x::xs):bV (c::s)=(c::x)::xs:=by
 show (if c==10 then _ else _)=_;rw[if_neg (by simpa using h),hs]
theorem Al (s:List UInt8):Lib.index (10::s) [10]=0:=by
 show (if [10].isPrefixOf (10::s) then _ else _)=_;rw[if_pos (by simp)]
theorem Am {c:UInt8}(h:c≠10)(s:List UInt8):Lib.index (c::s) [10]=if Lib.index s [10]== -1 then -1 else Lib.index s [10]+1:=by
 show (if [10].isPrefixOf (c::s) then _ else _)=_;rw[if_neg (by simp;exact fun e=>h e.symm)]
theorem lx:∀ (l:List UInt8) (k:Nat),l.count 10≤k→Lib.splitK [10] 0 k l=bV l
 | [],k,_=>by cases k <;> rfl
 | c::s,k,hk=>by
  by_cases hc:c=10
  ·subst hc;rw[List.count_cons_self] at hk;obtain ⟨k',rfl⟩:∃ k',k=k'+1:=⟨k - 1,by omega⟩;rw[nI];unfold Lib.splitK;rw[Al,if_neg (by decide)];rw[← lx s k' (by omega)];rfl
  ·rw[List.count_cons_of_ne (by simpa using hc)] at hk;have ih:=lx s
   cases k with
   | zero=>
    have h1:=ih 0 hk;rw[jE hc (x:=s) (xs:=[]) (by rw[← h1];rfl)];rfl
   | succ k=>
    have h1:=ih (k+1) hk;unfold Lib.splitK at h1 ⊢;rw[Am hc];by_cases hi:Lib.index s [10]= -1
    ·rw[hi] at h1 ⊢;simp at h1 ⊢;rw[jE hc h1.symm]
    ·have hge:0≤Lib.index s [10]:=by
      rcases Lib.index_spec s [10] with ⟨h,_⟩ | ⟨i,h,_⟩
      ·exact absurd h hi
      ·omega
     obtain ⟨i,hi'⟩:∃ i:Nat,Lib.index s [10]=i:=⟨(Lib.index s [10]).toNat,by omega⟩;rw[hi'] at h1 ⊢;have b1:((i:Int)== -1)=false:=beq_eq_false_iff_ne.2 (by omega);have b2:((i:Int)+1== -1)=false:=beq_eq_false_iff_ne.2 (by omega);simp only[b1,b2,Bool.false_eq_true,if_false] at h1 ⊢;rw[jE hc h1.symm];rw[show ((i:Int)+1).toNat=i+1 by omega,Int.toNat_natCast];rfl
end Go.Dk
namespace Go.Proofs.YtpjihhgjbbihkaaGreatDoor
open Go.Proofs.Tryz
open Go.Dk
set_option maxRecDepth 100000
theorem lz (l:List UInt8):(bV l).length=l.count 10+1:=by
 have h:=Lib.splitB_all ⟨[10].toArray⟩ (by decide) 0 (Lib.countB ⟨l.toArray⟩ ⟨[10].toArray⟩) ⟨l.toArray⟩ rfl;have e:Lib.countB ⟨l.toArray⟩ ⟨[10].toArray⟩=l.count 10:=Lib.count_one 10 l;rw[e] at h;have h2:=Lib.splitB_data ⟨[10].toArray⟩ 0 (l.count 10) ⟨l.toArray⟩;rw[Hj,Hj,lx l _ (Nat.le_refl _)] at h2;rw[← h2,List.length_map,h]
theorem Mk:enters prog 47=true:=by kernel_rfl
theorem OE (l:List UInt8)(hl:l.length≤100000)(w:World)(hg:jh w):bt prog 47 [aU l,aU [10]] w fun v w'=>∃ g,v=.slice (some ⟨g,0,none⟩) (bV l).length (bV l).length∧eX w w' (own 9 1 (.slice (some ⟨g,0,none⟩) (bV l).length (bV l).length) (bV l).length ((bV l).map aU)):=by
 obtain ⟨m,hm⟩:=hg.max;refine lu Mk (Tryz.strings_Split ⟨l.toArray⟩ ⟨[10].toArray⟩ m w (by rw[Ii];omega) hm (by decide)) fun e w' ⟨he,hw⟩=>⟨_,he,w.heap.size,?_,?_⟩
 ·rw[show Lib.countB ⟨l.toArray⟩ ⟨[10].toArray⟩=l.count 10 from Lib.count_one 10 l,lz]
 ·have hcells:(Lib.splitB ⟨[10].toArray⟩ 0 (Lib.countB ⟨l.toArray⟩ ⟨[10].toArray⟩) ⟨l.toArray⟩).map Value.string=(bV l).map aU:=by
   have h2:=Lib.splitB_data ⟨[10].toArray⟩ 0 (l.count 10) ⟨l.toArray⟩;rw[Hj,Hj,lx l _ (Nat.le_refl _)] at h2;rw[show Lib.countB ⟨l.toArray⟩ ⟨[10].toArray⟩=l.count 10 from Lib.count_one 10 l,← h2,List.map_map];rfl
  rw[hcells] at hw;subst hw;have H:Hp w ab (w.alloc (.cells ((bV l).map aU).toArray 9)) [an w.heap.size 9 ((bV l).map aU).toArray] []:=(Hp.aC w).add (aS.alloc _ _) _ (heap_alloc_new w _) (by rintro g rfl;exact ⟨Nat.le_refl _,by simp⟩);have hlen:=lz l;have hcl:l.count 10≤l.length:=List.count_le_length;have H2:=H.pf (l:=(bV l).length) (sz:=1) (by simp) (by unfold maxLen;omega);exact H2.out
end Go.Proofs.YtpjihhgjbbihkaaGreatDoor
