import Derived.Test.YtpjihhgjbbihkaaGreatDoorPart4
namespace Go.Dk
abbrev Ln:=Nat × Nat × List Nat
structure Tb where
 kd:Nat
 ni:Nat
 no:Nat
 ls:List Ln
structure An (ni no:Nat) (l:Ln):Prop where
 m:l.1<2^ni
 v:l.2.1 &&&l.1=l.2.1
 len:l.2.2.length=no
 marks:∀ x ∈ l.2.2,x<3
structure mL (t:Tb):Prop where
 kd:t.kd≤3
 ni:t.ni≤8
 no1:1≤t.no
 no4:t.no≤4
 few:t.ls.length≤64
 ls:∀ l ∈ t.ls,An t.ni t.no l
end Go.Dk
namespace Go.Proofs.YtpjihhgjbbihkaaGreatDoor
open Go.Proofs.Tryz
open Go.Dk
set_option maxRecDepth 100000
attribute [local irreducible] IntKind.wrap
abbrev Hd:=Nat × Nat × Value
def fH (m v:Nat)(o:Value):Array Value:=#[.int .u8 (m:Int),.int .u8 (v:Int),o]
def kL (h:Hd):List Value:=[.int .u8 (h.1:Int),.int .u8 (h.2.1:Int),h.2.2]
theorem ik (h:Hd):(kL h).length=3:=rfl
def Ik (S:Nat→Prop)(w:World)(h:Hd)(l:Ln):Prop:=h.1=l.1∧h.2.1=l.2.1∧∃ B c,h.2.2=.slice B l.2.2.length c∧(sl S (.slice B l.2.2.length c) 1 l.2.2.length (ints l.2.2)).ok w
theorem Ik.mono {S S':Nat→Prop}{w:World}{h:Hd}{l:Ln}(k:Ik S w h l)(hS:∀ g,S g→S' g):Ik S' w h l:=by
 obtain ⟨h1,h2,B,c,hv,hs⟩:=k;exact ⟨h1,h2,B,c,hv,sl.mono hs hS⟩
theorem Ik.bP {S:Nat→Prop}{w w':World}{h:Hd}{l:Ln}(k:Ik S w h l)(hS:∀ g,S g→w'.heap[g]?=w.heap[g]?):Ik S w' h l:=by
 obtain ⟨h1,h2,B,c,hv,hs⟩:=k;exact ⟨h1,h2,B,c,hv,(sl _ _ _ _ _).bP _ _ hS hs⟩
def lA (S:Nat→Prop)(w:World)(hs:List Hd)(ls:List Ln):Prop:=hs.length=ls.length∧∀ (j:Nat) (h:Hd) (l:Ln),hs[j]?=some h→ls[j]?=some l→Ik S w h l
theorem lA.nil (S:Nat→Prop)(w:World):lA S w [] []:=⟨rfl,fun j u ks h=>by simp at h⟩
theorem lA.snoc {S:Nat→Prop}{w:World}{hs:List Hd}{ls:List Ln}(h:lA S w hs ls){u:Hd}{l:Ln}(hu:Ik S w u l):lA S w (hs++[u]) (ls++[l]):=by
 obtain ⟨h1,h2⟩:=h;refine ⟨by simp[h1],fun j v rs hj hrs=>?_⟩;by_cases hjl:j<hs.length
 ·rw[List.getElem?_append_left hjl] at hj;rw[List.getElem?_append_left (by omega)] at hrs;exact h2 j v rs hj hrs
 ·rw[List.getElem?_append_right (by omega)] at hj hrs;have hj0:j - hs.length=0:=by have:=(List.getElem?_eq_some_iff.1 hj).1;simp at this;omega
  rw[← h1,hj0] at hrs;rw[hj0] at hj;simp at hj hrs;subst hj;subst hrs;exact hu
theorem lA.bP {S:Nat→Prop}{w w':World}{hs:List Hd}{ls:List Ln}(h:lA S w hs ls)(hS:∀ g,S g→w'.heap[g]?=w.heap[g]?):lA S w' hs ls:=
 ⟨h.1,fun j u ks hj hks=>(h.2 j u ks hj hks).bP hS⟩
theorem lA.mono {S S':Nat→Prop}{w:World}{hs:List Hd}{ls:List Ln}(h:lA S w hs ls)(hS:∀ g,S g→S' g):lA S' w hs ls:=
 ⟨h.1,fun j u ks hj hks=>(h.2 j u ks hj hks).mono hS⟩
def qw (S:Nat→Prop)(hs:List Hd)(ls:List Ln):cC:=⟨S,fun w=>lA S w hs ls,fun _ _ h hok=>hok.bP h⟩
def qf (S:Nat→Prop)(v:Value)(ls:List Ln)(w:World):Prop:=∃ B c hs,v=.slice B ls.length c∧(sl S (.slice B ls.length c) 3 ls.length (flat kL hs)).ok w∧lA S w hs ls
def pv (S:Nat→Prop)(v:Value)(ls:List Ln):cC:=
 ⟨S,qf S v ls,fun w w' h ⟨B,c,hs,hv,h1,h2⟩=>⟨B,c,hs,hv,(sl _ _ _ _ _).bP w w' h h1,h2.bP h⟩⟩
theorem qf.mono {S S':Nat→Prop}{v:Value}{ls:List Ln}{w:World}(h:qf S v ls w)(hS:∀ g,S g→S' g):qf S' v ls w:=by
 obtain ⟨B,c,hs,hv,h1,h2⟩:=h;exact ⟨B,c,hs,hv,sl.mono h1 hS,h2.mono hS⟩
def jF (w:World)(v:Value)(ls:List Ln):Prop:=qf (fun g=>g<w.heap.size) v ls w
theorem jF.same {w w':World}{v:Value}{ls:List Ln}(h:jF w v ls)(hk:aT w w'):jF w' v ls:=
 qf.mono ((pv (fun g=>g<w.heap.size) v ls).bP w w' (fun g hg=>hk.old g hg id) h) fun _ hg=>Nat.lt_of_lt_of_le hg hk.size
theorem jF.vn {w:World}{v:Value}{ls:List Ln}(h:jF w v ls):∃ B c hs,v=.slice B ls.length c∧Sl w (.slice B ls.length c) 3 ls.length (flat kL hs)∧hs.length=ls.length∧
  ∀ (i:Nat) (l:Ln),ls[i]?=some l→∃ B' c',hs[i]?=some (l.1,l.2.1,.slice B' l.2.2.length c')∧Sl w (.slice B' l.2.2.length c') 1 l.2.2.length (ints l.2.2):=by
 obtain ⟨B,c,hs,hv,h1,h2,h3⟩:=h;refine ⟨B,c,hs,hv,h1,h2,fun i l hi=>?_⟩;have hil:=(List.getElem?_eq_some_iff.1 hi).1;have hu:hs[i]?=some (hs[i]'(by omega)):=List.getElem?_eq_getElem (by omega);obtain ⟨e1,e2,B',c',hv',hs'⟩:=h3 i _ l hu hi;refine ⟨B',c',?_,hs'⟩;rw[hu]
 congr 1
 rw[← hv',← e1,← e2]
theorem wR {w0 w:World}(hk:aT w0 w){A:Option Addr}{n c:Nat}{hs:List Hd}{ls:List Ln}{S:Nat→Prop}(ho:(own 77 3 (.slice A n c) n (flat kL hs)).ok w)(ho':∀ g,(own 77 3 (.slice A n c) n (flat kL hs)).foot g→w0.heap.size≤g∧g<w.heap.size)(hh:(qw S hs ls).ok w)(hh':∀ g,S g→w0.heap.size≤g∧g<w.heap.size)(hn:n=ls.length):eX w0 w (pv (fun g=>(Value.slice A n c).ownBlock=some g∨S g) (.slice A n c) ls):=by
 subst hn;exact ⟨hk,⟨A,c,hs,rfl,sl.mono (iv ho) fun g hg=>.inl hg,lA.mono hh fun g hg=>.inr hg⟩,fun g hg=>hg.elim (fun h=>ho' g h) (hh' g)⟩
def dO (kd ni no:Int)(v:Value):Array Value:=#[.int .i64 kd,.int .i64 ni,.int .i64 no,v]
def uo (kd ni no:Int)(v:Value):Value:=.agg (dO kd ni no v)
theorem fB:cH prog 33=some true:=by kernel_rfl
theorem bJ:bB prog 33=some 4:=by kernel_rfl
theorem nJ:eH prog 33=some (uo 0 0 0 (.slice none 0 0)):=by kernel_rfl
theorem il:cH prog 31=some false:=by kernel_rfl
theorem wS:bB prog 31=some 1:=by kernel_rfl
theorem l9:cH prog 77=some true:=by kernel_rfl
theorem cY:bB prog 77=some 3:=by kernel_rfl
theorem lB:eH prog 77=some (.agg (fH 0 0 (.slice none 0 0))):=by kernel_rfl
theorem qg:bB prog 75=some 1:=by kernel_rfl
theorem ew (g o:Nat)(w:World):(Instr.fieldAt 33 (.pointer (some ⟨g,o,none⟩)) 0).run prog w=.ok (.pointer (some ⟨g,o,none⟩)) w:=by kernel_rfl
theorem ey (g o:Nat)(w:World):(Instr.fieldAt 33 (.pointer (some ⟨g,o,none⟩)) 1).run prog w=.ok (.pointer (some ⟨g,o+1,none⟩)) w:=by kernel_rfl
theorem ft (g o:Nat)(w:World):(Instr.fieldAt 33 (.pointer (some ⟨g,o,none⟩)) 2).run prog w=.ok (.pointer (some ⟨g,o+2,none⟩)) w:=by kernel_rfl
theorem dZ (g o:Nat)(w:World):(Instr.fieldAt 33 (.pointer (some ⟨g,o,none⟩)) 3).run prog w=.ok (.pointer (some ⟨g,o+3,none⟩)) w:=by kernel_rfl
theorem wT (g:Nat)(w:World):(Instr.fieldAt 77 (ah g) 0).run prog w=.ok (ah g) w:=by kernel_rfl
theorem eE (g:Nat)(w:World):(Instr.fieldAt 77 (ah g) 1).run prog w=.ok (.pointer (some ⟨g,2,none⟩)) w:=by kernel_rfl
theorem Il:qu prog 31 77 (.agg (fH 0 0 (.slice none 0 0))) 3 32:=⟨underlying31,by kernel_rfl,rfl,by decide⟩
theorem eM {m v:Nat}{A:Option Addr}{l c:Nat}:∀ u ∈ (fH m v (.slice A l c)).toList,u.oneCell'=true:=by
 intro u hu;simp[fH] at hu;rcases hu with rfl | rfl | rfl <;> rfl
theorem dA {kd ni no:Int}{A:Option Addr}{l c:Nat}:∀ u ∈ (dO kd ni no (.slice A l c)).toList,u.oneCell'=true:=by
 intro u hu;simp[dO] at hu;rcases hu with rfl | rfl | rfl | rfl <;> rfl
theorem sj (m v:Nat)(o:Value):∀ (j:Nat) u,(cc m v).toList[j]?=some u→(fH m v o)[j]?=some u:=fun j u hj=>by
 match j,hj with
 | 0,hj=>exact hj
 | 1,hj=>exact hj
 | j+2,hj=>simp[cc] at hj
theorem l_ {ni no:Nat}(hni:ni≤8){l:Ln}(h:An ni no l):l.1<256∧l.2.1<256∧dC l.1 l.2.1 ni=true:=by
 have h2:2^ni≤2^8:=Nat.pow_le_pow_right (by decide) hni;have hv:=sub_lt h.m h.v;have:=h.m;exact ⟨by omega,by omega,(eh (by omega) (by omega)).2 ⟨by omega,by omega,by rw[Int.toNat_natCast];exact h.m,h.v⟩⟩
theorem Ml:enters prog 49=true:=by kernel_rfl
set_option maxHeartbeats 4000000 in
theorem c49 {t:Tb}(ht:mL t)(v:Value)(w:World)(hA:jF w v t.ls):bt prog 49 [uo t.kd t.ni t.no v] w fun r w'=>r=.bool true∧aT w w':=by
 refine ar (N:=77) func49 Ml rfl rfl rfl (by simp) ?_;have H:=Hp.aC w;obtain ⟨kd,ni,no,ls⟩:=t;obtain ⟨h1,h2,h3,h4,h5,h6⟩:=ht;simp only at h1 h2 h3 h4 h5 h6 hA ⊢;obtain ⟨B,c,hs,rfl,hSl,hsl,hln⟩:=hA.vn;refine ak (γ:=Nat) (fun g1=>[(1,(ah g1))]) (fun g1 w'=>Hp w ab w' [an g1 33 (dO kd ni no (.slice B ls.length c))] []) ?_ ?_
 ·refine H.box 33 _ (cs:=dO kd ni no (.slice B ls.length c)) rfl ?_;clear H;intro g1 w1 H;exact ⟨g1,⟨rfl,trivial⟩,H⟩
 clear H;rintro g1 u w1 H;refine aw (fun w'=>Hp w ab w' [an g1 33 (dO kd ni no (.slice B ls.length c))] []) ?_ ?_
 ·refine aa (ew _ _) ?_;refine H.load 0 rfl aE rfl ?_;refine af (decide_eq_false (by omega)) ?_;refine aa (ew _ _) ?_;refine af (decide_eq_false (by omega)) ?_;refine H.load 0 rfl aE rfl ?_
  iterate 3 refine af (decide_eq_false (by omega)) ?_
  refine aa (ey _ _) ?_;refine af (decide_eq_false (by omega)) ?_;refine H.load 0 rfl aE rfl ?_
  iterate 3 refine af (decide_eq_false (by omega)) ?_
  refine aa (ey _ _) ?_;refine af (decide_eq_false (by omega)) ?_;refine H.load 0 rfl aE rfl ?_
  iterate 3 refine af (decide_eq_false (by omega)) ?_
  refine aa (ft _ _) ?_;refine af (decide_eq_false (by omega)) ?_;refine H.load 0 rfl aE rfl ?_
  iterate 3 refine af (decide_eq_false (by omega)) ?_
  refine aa (ft _ _) ?_;refine af (decide_eq_false (by omega)) ?_;refine H.load 0 rfl aE rfl ?_
  iterate 3 refine af (decide_eq_false (by omega)) ?_
  refine aa (dZ _ _) ?_;refine af (decide_eq_false (by omega)) ?_;refine H.load 0 rfl il rfl ?_;refine af (decide_eq_false (by omega)) ?_;refine ay underlying31 ?_
  iterate 3 refine af (decide_eq_false (by omega)) ?_
  exact ⟨(),trivial,H⟩
 clear H;rintro ⟨⟩ u w2 H;refine aw (fun w'=>Hp w ab w' [an g1 33 (dO kd ni no (.slice B ls.length c))] []) ?_ ?_
 ·refine aa (dZ _ _) ?_;refine H.load 0 rfl il rfl ?_;refine ay underlying31 ?_;refine ax (γ:=Nat) (fun i=>[(44,.int .i64 (i:Int))]) (fun i w'=>i≤ls.length∧Hp w ab w' [an g1 33 (dO kd ni no (.slice B ls.length c))] []) (fun i=>ls.length - i) 0 ⟨rfl,trivial⟩ ⟨Nat.zero_le _,H⟩ ?_;clear H;rintro i u w3 ⟨hi,H⟩;refine au (fun h7=>?_) (fun h7=>?_)
  ·have hil:i<ls.length:=by omega
   obtain ⟨l,hl,hlm⟩:∃ l,ls[i]?=some l∧l ∈ ls:=⟨_,List.getElem?_eq_getElem hil,List.getElem_mem hil⟩;obtain ⟨B',c',hhd,hos⟩:=hln i l hl;have hok:=h6 l hlm;have hol:=hok.len;obtain ⟨s1,s2,s3⟩:=l_ h2 hok;obtain ⟨gA,oA,rfl⟩:=hSl.A (by omega);refine aw (fun w'=>Hp w ab w' [an g1 33 (dO kd ni no (.slice (some ⟨gA,oA,none⟩) ls.length c))] []) ?_ ?_
   ·refine ak (γ:=Nat) (fun g4=>[(4,(ah g4))]) (fun g4 w'=>Hp w ab w' [an g4 77 (fH l.1 l.2.1 (.slice B' l.2.2.length c')),an g1 33 (dO kd ni no (.slice (some ⟨gA,oA,none⟩) ls.length c))] []) ?_ ?_
    ·refine aq underlying31 cY i rfl hil (o':=oA+i*3) (by omega) ?_;refine Sl.cI H hSl ik l9 cY i rfl hhd ?_;refine H.alloc 77 (cs:=fH 0 0 (.slice none 0 0)) lB rfl ?_;clear H;intro g4 w4 H;refine H.storeAll 0 rfl cY rfl (eM (m:=l.1) (v:=l.2.1)) ?_;clear H;intro w5 H;exact ⟨g4,⟨rfl,trivial⟩,H⟩
    clear H;rintro g4 u w4 H;refine aw (fun w'=>Hp w ab w' [an g4 77 (fH l.1 l.2.1 (.slice B' l.2.2.length c')),an g1 33 (dO kd ni no (.slice (some ⟨gA,oA,none⟩) ls.length c))] []) ?_ ?_
    ·refine aa (wT _) ?_;refine fE (H.get 0 rfl) (cc l.1 l.2.1).toList bw aO (sj _ _ _) ?_;refine aa (ey _ _) ?_;refine H.load 1 rfl aE rfl ?_;have hc:=c75 l.1 l.2.1 s1 s2 ni w4;rw[s3] at hc;refine aj hc ?_;rintro _ w5 ⟨rfl,hk⟩;replace H:=H.same hk;clear hk;have hlen:=hok.len;refine af rfl ?_;refine aa (eE _) ?_;refine af rfl ?_;refine H.load 0 rfl fq rfl ?_;refine af rfl ?_;refine ay underlying75 ?_;refine af rfl ?_;refine aa (ft _ _) ?_;refine af rfl ?_;refine H.load 1 rfl aE rfl ?_
     iterate 2 refine af rfl ?_
     refine af (bne_eq_false_iff_eq.2 (by omega)) ?_;exact ⟨(),trivial,H⟩
    clear H;rintro ⟨⟩ u w5 H;refine aa (eE _) ?_;refine H.load 0 rfl fq rfl ?_;refine ay underlying75 ?_;refine ax (γ:=Nat) (fun j=>[(65,.int .i64 (j:Int))]) (fun j w'=>j≤l.2.2.length∧Hp w ab w' [an g1 33 (dO kd ni no (.slice (some ⟨gA,oA,none⟩) ls.length c))] []) (fun j=>l.2.2.length - j) 0 ⟨rfl,trivial⟩ ⟨Nat.zero_le _,H.forget⟩ ?_;clear H;rintro j u w6 ⟨hj,H⟩;refine au (fun h8=>?_) (fun h8=>?_)
    ·have hjl:j<l.2.2.length:=by omega
     obtain ⟨gO,oO,rfl⟩:=hos.A (by omega);have hx:=hok.marks _ (List.getElem_mem hjl);refine aq underlying75 a_ j rfl hjl (o':=oO+j) (by omega) ?_;refine aB aE (((hos.same H.keeps).cell j (by omega)).trans (e_ hjl)) ?_;generalize l.2.2[j]=x at hx
     iterate 3 refine af rfl ?_
     refine af (decide_eq_false (by omega)) ?_;exact ⟨j+1,by show l.2.2.length - (j+1)<l.2.2.length - j;omega,⟨up (by omega),trivial⟩,by show j+1≤l.2.2.length;omega,H⟩
    ·exact ⟨(),trivial,H⟩
   ·clear H;rintro ⟨⟩ u w4 H;exact ⟨i+1,by show ls.length - (i+1)<ls.length - i;omega,⟨up (by omega),trivial⟩,by show i+1≤ls.length;omega,H⟩
  ·exact ⟨(),trivial,H⟩
 clear H;rintro ⟨⟩ u w3 H;exact ⟨rfl,H.keeps⟩
end Go.Proofs.YtpjihhgjbbihkaaGreatDoor
namespace Go.Dk
def fT (t:Tb)(out mark:Nat):Nat→Nat
 | 0=>0
 | j+1=>match t.ls[j]? with
  | some l=>if l.2.2[out]?=some mark then fT t out mark j |||ba l.1 l.2.1 t.ni else fT t out mark j
  | none=>fT t out mark j
theorem Ao {t:Tb}{j:Nat}{l:Ln}(h:t.ls[j]?=some l)(out mark:Nat):fT t out mark (j+1)=if l.2.2[out]?=some mark then fT t out mark j |||ba l.1 l.2.1 t.ni else fT t out mark j:=by
 show (match t.ls[j]? with | some l=>_ | none=>_)=_;rw[h]
theorem nK (t:Tb)(out mark:Nat):∀ j,fT t out mark j<2^256
 | 0=>Nat.two_pow_pos 256
 | j+1=>by
  show (match t.ls[j]? with | some l=>_ | none=>_)<_;split
  ·split
   ·exact Nat.or_lt_two_pow (nK t out mark j) (pA _ _ _)
   ·exact nK t out mark j
  ·exact nK t out mark j
theorem vp {t:Tb}{out mark p:Nat}:∀ {j},(fT t out mark j).testBit p=true↔∃ i l,i<j∧t.ls[i]?=some l∧l.2.2[out]?=some mark∧(ba l.1 l.2.1 t.ni).testBit p=true
 | 0=>by simp[fT]
 | j+1=>by
  have ih:=vp (t:=t) (out:=out) (mark:=mark) (p:=p) (j:=j);have e:fT t out mark (j+1)=match t.ls[j]? with | some l=>if l.2.2[out]?=some mark then fT t out mark j |||ba l.1 l.2.1 t.ni else fT t out mark j | none=>fT t out mark j:=rfl
  have key:(∃ i l,i<j+1∧t.ls[i]?=some l∧l.2.2[out]?=some mark∧(ba l.1 l.2.1 t.ni).testBit p=true)↔(∃ i l,i<j∧t.ls[i]?=some l∧l.2.2[out]?=some mark∧(ba l.1 l.2.1 t.ni).testBit p=true)∨∃ l,t.ls[j]?=some l∧l.2.2[out]?=some mark∧(ba l.1 l.2.1 t.ni).testBit p=true:=by
   constructor
   ·rintro ⟨i,l,hi,h⟩;rcases Nat.lt_succ_iff_lt_or_eq.1 hi with h' | h'
    ·exact .inl ⟨i,l,h',h⟩
    ·subst h';exact .inr ⟨l,h⟩
   ·rintro (⟨i,l,hi,h⟩ | ⟨l,h⟩)
    ·exact ⟨i,l,by omega,h⟩
    ·exact ⟨j,l,by omega,h⟩
  rw[key,e]
  cases hl:t.ls[j]? with
  | none=>simp[ih]
  | some l=>
   simp only;by_cases hm:l.2.2[out]?=some mark
   ·rw[if_pos hm,Nat.testBit_or,Bool.or_eq_true,ih];exact or_congr_right ⟨fun h=>⟨l,rfl,hm,h⟩,fun ⟨l',h1,_,h3⟩=>by rw[Option.some.inj h1];exact h3⟩
   ·rw[if_neg hm,ih];exact ⟨.inl,fun h=>h.elim id fun ⟨l',h1,h2,_⟩=>absurd (by rw[Option.some.inj h1];exact h2) hm⟩
end Go.Dk
namespace Go.Proofs.YtpjihhgjbbihkaaGreatDoor
open Go.Proofs.Tryz
open Go.Dk
set_option maxRecDepth 100000
attribute [local irreducible] IntKind.wrap
theorem Mm:enters prog 52=true:=by kernel_rfl
theorem OF {t:Tb}(ht:mL t)(out mark:Nat)(ho:out<t.no)(v:Value)(w:World)(hA:jF w v t.ls):bt prog 52 [uo t.kd t.ni t.no v,.int .i64 (out:Int),.int .i64 (mark:Int)] w fun r w'=>r=sv (fT t out mark t.ls.length)∧aT w w':=by
 refine ar (N:=39) func52 Mm rfl rfl rfl (by simp) ?_;have H:=Hp.aC w;obtain ⟨B,c,hs,rfl,hSl,hsl,hln⟩:=hA.vn;have hno:=ht.no4;have hfew:=ht.few;refine ak (γ:=Nat × Nat) (fun (g3,g6)=>[(3,(ah g3)),(6,(ah g6))]) (fun (g3,g6) w'=>Hp w ab w' [an g6 86 (sc 0),an g3 33 (dO t.kd t.ni t.no (.slice B t.ls.length c))] []) ?_ ?_
 ·refine H.box 33 _ (cs:=dO t.kd t.ni t.no (.slice B t.ls.length c)) rfl ?_;clear H;intro g3 w1 H;refine H.alloc 86 (cs:=sc 0) bo aY ?_;clear H;intro g6 w2 H;exact ⟨(g3,g6),⟨rfl,rfl,trivial⟩,H⟩
 clear H;rintro ⟨g3,g6⟩ u w1 H;refine ak (γ:=Nat) (fun g7=>[(7,(ah g7))]) (fun g7 w'=>Hp w ab w' [an g7 86 (sc 0),an g6 86 (sc 0),an g3 33 (dO t.kd t.ni t.no (.slice B t.ls.length c))] []) ?_ ?_
 ·refine H.alloc 86 (cs:=sc 0) bo aY ?_;clear H;intro g7 w2 H;exact ⟨g7,⟨rfl,trivial⟩,H⟩
 clear H;rintro g7 u w2 H;refine aw (fun w'=>Hp w ab w' [an g7 86 (sc (fT t out mark t.ls.length)),an g6 86 (sc 0)] []) ?_ ?_
 ·refine aa (dZ _ _) ?_;refine H.load 2 rfl il rfl ?_;refine ay underlying31 ?_;refine ax (γ:=Nat) (fun i=>[(15,.int .i64 (i:Int))]) (fun i w'=>i≤t.ls.length∧Hp w ab w' [an g7 86 (sc (fT t out mark i)),an g6 86 (sc 0),an g3 33 (dO t.kd t.ni t.no (.slice B t.ls.length c))] []) (fun i=>t.ls.length - i) 0 ⟨rfl,trivial⟩ ⟨Nat.zero_le _,H⟩ ?_;clear H;rintro i u w3 ⟨hi,H⟩;refine au (fun h7=>?_) (fun h7=>?_)
  ·have hil:i<t.ls.length:=by omega
   obtain ⟨l,hl,hlm⟩:∃ l,t.ls[i]?=some l∧l ∈ t.ls:=⟨_,List.getElem?_eq_getElem hil,List.getElem_mem hil⟩;obtain ⟨B',c',hhd,hos⟩:=hln i l hl;have hok:=ht.ls l hlm;have hol:=hok.len;obtain ⟨s1,s2,s3⟩:=l_ ht.ni hok;obtain ⟨gA,oA,rfl⟩:=hSl.A (by omega);obtain ⟨gO,oO,rfl⟩:=hos.A (by omega);have hx:l.2.2[out]?=some (l.2.2[out]'(by omega)):=List.getElem?_eq_getElem (by omega);have hst:=Ao hl out mark;refine aw (fun w'=>Hp w ab w' [an g7 86 (sc (fT t out mark (i+1))),an g6 86 (sc 0),an g3 33 (dO t.kd t.ni t.no (.slice (some ⟨gA,oA,none⟩) t.ls.length c))] []) ?_ ?_
   ·refine ak (γ:=Nat) (fun g9=>[(9,(ah g9))]) (fun g9 w'=>Hp w ab w' [an g9 77 (fH l.1 l.2.1 (.slice (some ⟨gO,oO,none⟩) l.2.2.length c')),an g7 86 (sc (fT t out mark i)),an g6 86 (sc 0),an g3 33 (dO t.kd t.ni t.no (.slice (some ⟨gA,oA,none⟩) t.ls.length c))] []) ?_ ?_
    ·refine aq underlying31 cY i rfl hil (o':=oA+i*3) (by omega) ?_;refine Sl.cI H hSl ik l9 cY i rfl hhd ?_;refine H.alloc 77 (cs:=fH 0 0 (.slice none 0 0)) lB rfl ?_;clear H;intro g4 w4 H;refine H.storeAll 0 rfl cY rfl (eM (m:=l.1) (v:=l.2.1)) ?_;clear H;intro w5 H;exact ⟨g4,⟨rfl,trivial⟩,H⟩
    clear H;rintro g9 u w4 H;refine aa (eE _) ?_;refine H.load 0 rfl fq rfl ?_;refine aq underlying75 a_ out rfl (by omega) (o':=oO+out) (by omega) ?_;refine aB aE (((hos.same H.keeps).cell out (by omega)).trans (e_ (by omega))) ?_;refine cr (fun he=>?_) (fun he=>?_)
    ·have he:((l.2.2[out]'(by omega):Nat):Int)=(mark:Int):=he;rw[if_pos (by rw[hx];congr 1;omega)] at hst;refine ak (γ:=Nat) (fun g10=>[(10,(ah g10))]) (fun g10 w'=>Hp w ab w' [an g10 86 (sc (ba l.1 l.2.1 t.ni)),an g7 86 (sc (fT t out mark i)),an g6 86 (sc 0),an g3 33 (dO t.kd t.ni t.no (.slice (some ⟨gA,oA,none⟩) t.ls.length c))] []) ?_ ?_
     ·refine aa (wT _) ?_;refine fE (H.get 0 rfl) (cc l.1 l.2.1).toList bw aO (sj _ _ _) ?_;refine aa (ey _ _) ?_;refine H.load 3 rfl aE rfl ?_;refine aj (DT l.1 l.2.1 s1 s2 t.ni ht.ni s3 _) ?_;rintro _ w5 ⟨rfl,hk⟩;replace H:=H.same hk;refine H.alloc 86 (cs:=sc 0) bo aY ?_;clear H;intro g10 w6 H;refine H.aW 0 rfl ?_;clear H;intro w7 H;exact ⟨g10,⟨rfl,trivial⟩,H.b6 [0,2,3,4] (by decide) rfl⟩
     clear H;rintro g10 u w5 H;refine H.ai 1 rfl aD av ?_;refine H.ai 0 rfl aD av ?_;refine aj (K8 _ _ _) ?_;rintro _ w6 ⟨rfl,hk⟩;replace H:=H.same hk;refine H.aW 1 rfl ?_;clear H;intro w7 H;exact ⟨(),trivial,by rw[hst];exact H.b6 [1,2,3] (by decide) rfl⟩
    ·have he:((l.2.2[out]'(by omega):Nat):Int)≠(mark:Int):=he;rw[if_neg (by rw[hx];intro e;injection e with e;omega)] at hst;exact ⟨(),trivial,by rw[hst];exact H.forget⟩
   ·clear H;rintro ⟨⟩ u w4 H;exact ⟨i+1,by show t.ls.length - (i+1)<t.ls.length - i;omega,⟨up (by omega),trivial⟩,by show i+1≤t.ls.length;omega,H⟩
  ·obtain rfl:i=t.ls.length:=by omega
   exact ⟨(),trivial,H.b6 [0,1] (by decide) rfl⟩
 clear H;rintro ⟨⟩ u w3 H;refine H.ai 0 rfl aD av ?_;refine H.aW 1 rfl ?_;clear H;intro w4 H;refine H.ai 1 rfl aD av ?_;exact ⟨rfl,rfl,H.keeps⟩
def KX:Array Value:=#[pn 79,.bool false,pn 80,.bool false,pn 77,.bool true,pn 77,.bool true]
theorem Kw:cH prog 108=some true:=by kernel_rfl
theorem BD:bB prog 108=some 8:=by kernel_rfl
theorem Hk:eH prog 108=some (.agg #[.nilFunc,.bool false,.nilFunc,.bool false,.nilFunc,.bool false,.nilFunc,.bool false]):=by kernel_rfl
theorem BE:bB prog 107=some 2:=by kernel_rfl
theorem BF:eH prog 107=some (.agg #[.nilFunc,.bool false]):=by kernel_rfl
theorem Kx:cH prog 105=some false:=by kernel_rfl
theorem Hl:∀ u ∈ KX.toList,u.oneCell'=true:=by
 intro u hu;simp[KX] at hu;rcases hu with rfl | rfl | rfl | rfl | rfl | rfl | rfl | rfl <;> rfl
theorem Fl {g:Nat}{b:Bool}{k:Value→World→Prop}{w:World}(h:k (.agg #[pn g,.bool b]) w):b7 prog 107 [(0,.func (.func g) #[] #[]),(1,.bool b)] w k:=bu (fun w=>by kernel_rfl) h
theorem Fm {k:Value→World→Prop}{w:World}(h:k (.agg KX) w):b7 prog 108 [(0,.agg #[pn 79,.bool false]),(1,.agg #[pn 80,.bool false]),(2,.agg #[pn 77,.bool true]),(3,.agg #[pn 77,.bool true])] w k:=bu (fun w=>by kernel_rfl) h
theorem Mn:enters prog 51=true:=by kernel_rfl
theorem c51 (w:World):bt prog 51 [] w fun r w'=>r=.agg KX∧aT w w':=by
 refine ar (N:=9) func51 Mn rfl rfl rfl (by simp) ?_;have H:=Hp.aC w;refine H.alloc 108 (cs:=#[.nilFunc,.bool false,.nilFunc,.bool false,.nilFunc,.bool false,.nilFunc,.bool false]) Hk rfl ?_;clear H;intro g0 w1 H
 iterate 4 refine Fl ?_
 refine Fm ?_;refine H.storeAll (cs':=KX) 0 rfl BD rfl Hl ?_;clear H;intro w2 H;refine H.ai 0 rfl Kw BD ?_;exact ⟨rfl,rfl,H.keeps⟩
theorem Mo:enters prog 77=true:=by kernel_rfl
theorem OG (al on off fr:Nat)(ha:al<2^256)(w:World):bt prog 77 [sv al,sv on,sv off,sv fr] w fun v w'=>v=sv (bT al off)∧aT w w':=by
 refine ar (N:=12) func77 Mo rfl rfl rfl (by simp) ?_;have H:=Hp.aC w;refine H.box 86 (sv _) (cs:=sc _) rfl ?_;clear H;intro g1 w1 H;refine H.box 86 (sv _) (cs:=sc _) rfl ?_;clear H;intro g2 w2 H;refine H.box 86 (sv _) (cs:=sc _) rfl ?_;clear H;intro g3 w3 H;refine H.box 86 (sv _) (cs:=sc _) rfl ?_;clear H;intro g4 w4 H;refine H.alloc 86 (cs:=sc 0) bo aY ?_;clear H;intro g5 w5 H;refine H.ai 4 rfl aD av ?_;refine H.ai 2 rfl aD av ?_;refine aj (M4 _ _ ha _) ?_;rintro _ w8 ⟨rfl,hk⟩;replace H:=H.same hk;clear hk;refine H.aW 0 rfl ?_;clear H;intro w9 H;refine H.ai 0 rfl aD av ?_;refine ⟨rfl,?_⟩;exact ⟨rfl,H.keeps⟩
theorem Mp:enters prog 79=true:=by kernel_rfl
theorem OH (al on off fr:Nat)(w:World):bt prog 79 [sv al,sv on,sv off,sv fr] w fun v w'=>v=sv on∧aT w w':=by
 refine ar (N:=10) func79 Mp rfl rfl rfl (by simp) ?_;have H:=Hp.aC w;refine H.box 86 (sv _) (cs:=sc _) rfl ?_;clear H;intro g1 w1 H;refine H.box 86 (sv _) (cs:=sc _) rfl ?_;clear H;intro g2 w2 H;refine H.box 86 (sv _) (cs:=sc _) rfl ?_;clear H;intro g3 w3 H;refine H.box 86 (sv _) (cs:=sc _) rfl ?_;clear H;intro g4 w4 H;refine H.alloc 86 (cs:=sc 0) bo aY ?_;clear H;intro g5 w5 H;refine H.ai 3 rfl aD av ?_;refine H.aW 0 rfl ?_;clear H;intro w7 H;refine H.ai 0 rfl aD av ?_;refine ⟨rfl,?_⟩;exact ⟨rfl,H.keeps⟩
theorem Mq:enters prog 80=true:=by kernel_rfl
theorem c80 (al on off fr:Nat)(w:World):bt prog 80 [sv al,sv on,sv off,sv fr] w fun v w'=>v=sv (on |||fr)∧aT w w':=by
 refine ar (N:=12) func80 Mq rfl rfl rfl (by simp) ?_;have H:=Hp.aC w;refine H.box 86 (sv _) (cs:=sc _) rfl ?_;clear H;intro g1 w1 H;refine H.box 86 (sv _) (cs:=sc _) rfl ?_;clear H;intro g2 w2 H;refine H.box 86 (sv _) (cs:=sc _) rfl ?_;clear H;intro g3 w3 H;refine H.box 86 (sv _) (cs:=sc _) rfl ?_;clear H;intro g4 w4 H;refine H.alloc 86 (cs:=sc 0) bo aY ?_;clear H;intro g5 w5 H;refine H.ai 3 rfl aD av ?_;refine H.ai 1 rfl aD av ?_;refine aj (K8 _ _ _) ?_;rintro _ w8 ⟨rfl,hk⟩;replace H:=H.same hk;clear hk;refine H.aW 0 rfl ?_;clear H;intro w9 H;refine H.ai 0 rfl aD av ?_;refine ⟨rfl,?_⟩;exact ⟨rfl,H.keeps⟩
end Go.Proofs.YtpjihhgjbbihkaaGreatDoor
namespace Go.Dk
def me (t:Tb)(j:Nat):Nat:=fT t j 1 t.ls.length
def tO (t:Tb)(j:Nat):Nat:=fT t j 0 t.ls.length
def tP (t:Tb)(j:Nat):Nat:=fT t j 2 t.ls.length
def hZ (t:Tb)(j:Nat):Nat:=if t.kd=0 then me t j else if t.kd=1 then me t j |||tP t j else bT (bn t.ni) (tO t j)
def jG (f:Nat→Nat)(k:Nat):List Nat:=(List.range k).map f
theorem nL (f:Nat→Nat)(k:Nat):jG f (k+1)=jG f k++[f k]:=by unfold jG;rw[List.range_succ,List.map_append];rfl
theorem ez (f:Nat→Nat)(k:Nat):(jG f k).length=k:=by simp[jG]
def iT (t:Tb):dU:=⟨t.ni,jG (me t) t.no,jG (hZ t) t.no⟩
def kM (t:Tb)(j:Nat):Bool:=decide (2≤t.kd)&&(me t j &&&tO t j !=0)
def cO (t:Tb)(k:Nat):Bool:=(List.range k).any (kM t)
theorem rN (t:Tb)(k:Nat):cO t (k+1)=(cO t k||kM t k):=by unfold cO;rw[List.range_succ,List.any_append];simp
end Go.Dk
namespace Go.Proofs.YtpjihhgjbbihkaaGreatDoor
open Go.Proofs.Tryz
open Go.Dk
set_option maxRecDepth 100000
attribute [local irreducible] IntKind.wrap
def yJ:List (List Nat × List Nat):=[([2,5,8,9,10,11,12,13,14],[0,1,3,4,6,7,2,5,8,9,10,11,12,13,14]),([2,5,8,9,11,10,12,13,14],[0,1,3,4,6,7,2,5,8,9,11,10,12,13,14]),([2,5,8,10,9,11,12,13,14],[0,1,3,4,6,7,2,5,8,10,9,11,12,13,14]),([2,5,8,10,11,9,12,13,14],[0,1,3,4,6,7,2,5,8,10,11,9,12,13,14]),([2,5,8,11,9,10,12,13,14],[0,1,3,4,6,7,2,5,8,11,9,10,12,13,14]),([2,5,8,11,10,9,12,13,14],[0,1,3,4,6,7,2,5,8,11,10,9,12,13,14]),([2,5,9,8,10,11,12,13,14],[0,1,3,4,6,7,2,5,9,8,10,11,12,13,14]),([2,5,9,8,11,10,12,13,14],[0,1,3,4,6,7,2,5,9,8,11,10,12,13,14]),([2,5,9,10,8,11,12,13,14],[0,1,3,4,6,7,2,5,9,10,8,11,12,13,14]),([2,5,9,10,11,8,12,13,14],[0,1,3,4,6,7,2,5,9,10,11,8,12,13,14]),([2,5,9,11,8,10,12,13,14],[0,1,3,4,6,7,2,5,9,11,8,10,12,13,14]),([2,5,9,11,10,8,12,13,14],[0,1,3,4,6,7,2,5,9,11,10,8,12,13,14]),([2,5,10,8,9,11,12,13,14],[0,1,3,4,6,7,2,5,10,8,9,11,12,13,14]),([2,5,10,8,11,9,12,13,14],[0,1,3,4,6,7,2,5,10,8,11,9,12,13,14]),([2,5,10,9,8,11,12,13,14],[0,1,3,4,6,7,2,5,10,9,8,11,12,13,14]),([2,5,10,9,11,8,12,13,14],[0,1,3,4,6,7,2,5,10,9,11,8,12,13,14]),([2,5,10,11,8,9,12,13,14],[0,1,3,4,6,7,2,5,10,11,8,9,12,13,14]),([2,5,10,11,9,8,12,13,14],[0,1,3,4,6,7,2,5,10,11,9,8,12,13,14]),([2,5,11,8,9,10,12,13,14],[0,1,3,4,6,7,2,5,11,8,9,10,12,13,14]),([2,5,11,8,10,9,12,13,14],[0,1,3,4,6,7,2,5,11,8,10,9,12,13,14]),([2,5,11,9,8,10,12,13,14],[0,1,3,4,6,7,2,5,11,9,8,10,12,13,14]),([2,5,11,9,10,8,12,13,14],[0,1,3,4,6,7,2,5,11,9,10,8,12,13,14]),([2,5,11,10,8,9,12,13,14],[0,1,3,4,6,7,2,5,11,10,8,9,12,13,14]),([2,5,11,10,9,8,12,13,14],[0,1,3,4,6,7,2,5,11,10,9,8,12,13,14]),([2,9,5,8,10,11,12,13,14],[0,1,3,4,6,7,2,9,5,8,10,11,12,13,14]),([2,9,5,8,11,10,12,13,14],[0,1,3,4,6,7,2,9,5,8,11,10,12,13,14]),([2,9,5,10,8,11,12,13,14],[0,1,3,4,6,7,2,9,5,10,8,11,12,13,14]),([2,9,5,10,11,8,12,13,14],[0,1,3,4,6,7,2,9,5,10,11,8,12,13,14]),([2,9,5,11,8,10,12,13,14],[0,1,3,4,6,7,2,9,5,11,8,10,12,13,14]),([2,9,5,11,10,8,12,13,14],[0,1,3,4,6,7,2,9,5,11,10,8,12,13,14]),([2,9,10,5,8,11,12,13,14],[0,1,3,4,6,7,2,9,10,5,8,11,12,13,14]),([2,9,10,5,11,8,12,13,14],[0,1,3,4,6,7,2,9,10,5,11,8,12,13,14]),([2,9,10,11,5,8,12,13,14],[0,1,3,4,6,7,2,9,10,11,5,8,12,13,14]),([2,9,11,5,8,10,12,13,14],[0,1,3,4,6,7,2,9,11,5,8,10,12,13,14]),([2,9,11,5,10,8,12,13,14],[0,1,3,4,6,7,2,9,11,5,10,8,12,13,14]),([2,9,11,10,5,8,12,13,14],[0,1,3,4,6,7,2,9,11,10,5,8,12,13,14]),([2,10,5,8,9,11,12,13,14],[0,1,3,4,6,7,2,10,5,8,9,11,12,13,14]),([2,10,5,8,11,9,12,13,14],[0,1,3,4,6,7,2,10,5,8,11,9,12,13,14]),([2,10,5,9,8,11,12,13,14],[0,1,3,4,6,7,2,10,5,9,8,11,12,13,14]),([2,10,5,9,11,8,12,13,14],[0,1,3,4,6,7,2,10,5,9,11,8,12,13,14]),([2,10,5,11,8,9,12,13,14],[0,1,3,4,6,7,2,10,5,11,8,9,12,13,14]),([2,10,5,11,9,8,12,13,14],[0,1,3,4,6,7,2,10,5,11,9,8,12,13,14]),([2,10,9,5,8,11,12,13,14],[0,1,3,4,6,7,2,10,9,5,8,11,12,13,14]),([2,10,9,5,11,8,12,13,14],[0,1,3,4,6,7,2,10,9,5,11,8,12,13,14]),([2,10,9,11,5,8,12,13,14],[0,1,3,4,6,7,2,10,9,11,5,8,12,13,14]),([2,10,11,5,8,9,12,13,14],[0,1,3,4,6,7,2,10,11,5,8,9,12,13,14]),([2,10,11,5,9,8,12,13,14],[0,1,3,4,6,7,2,10,11,5,9,8,12,13,14]),([2,10,11,9,5,8,12,13,14],[0,1,3,4,6,7,2,10,11,9,5,8,12,13,14]),([2,11,5,8,9,10,12,13,14],[0,1,3,4,6,7,2,11,5,8,9,10,12,13,14]),([2,11,5,8,10,9,12,13,14],[0,1,3,4,6,7,2,11,5,8,10,9,12,13,14]),([2,11,5,9,8,10,12,13,14],[0,1,3,4,6,7,2,11,5,9,8,10,12,13,14]),([2,11,5,9,10,8,12,13,14],[0,1,3,4,6,7,2,11,5,9,10,8,12,13,14]),([2,11,5,10,8,9,12,13,14],[0,1,3,4,6,7,2,11,5,10,8,9,12,13,14]),([2,11,5,10,9,8,12,13,14],[0,1,3,4,6,7,2,11,5,10,9,8,12,13,14]),([2,11,9,5,8,10,12,13,14],[0,1,3,4,6,7,2,11,9,5,8,10,12,13,14]),([2,11,9,5,10,8,12,13,14],[0,1,3,4,6,7,2,11,9,5,10,8,12,13,14]),([2,11,9,10,5,8,12,13,14],[0,1,3,4,6,7,2,11,9,10,5,8,12,13,14]),([2,11,10,5,8,9,12,13,14],[0,1,3,4,6,7,2,11,10,5,8,9,12,13,14]),([2,11,10,5,9,8,12,13,14],[0,1,3,4,6,7,2,11,10,5,9,8,12,13,14]),([2,11,10,9,5,8,12,13,14],[0,1,3,4,6,7,2,11,10,9,5,8,12,13,14]),([9,2,5,8,10,11,12,13,14],[0,1,3,4,6,7,9,2,5,8,10,11,12,13,14]),([9,2,5,8,11,10,12,13,14],[0,1,3,4,6,7,9,2,5,8,11,10,12,13,14]),([9,2,5,10,8,11,12,13,14],[0,1,3,4,6,7,9,2,5,10,8,11,12,13,14]),([9,2,5,10,11,8,12,13,14],[0,1,3,4,6,7,9,2,5,10,11,8,12,13,14]),([9,2,5,11,8,10,12,13,14],[0,1,3,4,6,7,9,2,5,11,8,10,12,13,14]),([9,2,5,11,10,8,12,13,14],[0,1,3,4,6,7,9,2,5,11,10,8,12,13,14]),([9,2,10,5,8,11,12,13,14],[0,1,3,4,6,7,9,2,10,5,8,11,12,13,14]),([9,2,10,5,11,8,12,13,14],[0,1,3,4,6,7,9,2,10,5,11,8,12,13,14]),([9,2,10,11,5,8,12,13,14],[0,1,3,4,6,7,9,2,10,11,5,8,12,13,14]),([9,2,11,5,8,10,12,13,14],[0,1,3,4,6,7,9,2,11,5,8,10,12,13,14]),([9,2,11,5,10,8,12,13,14],[0,1,3,4,6,7,9,2,11,5,10,8,12,13,14]),([9,2,11,10,5,8,12,13,14],[0,1,3,4,6,7,9,2,11,10,5,8,12,13,14]),([9,10,2,5,8,11,12,13,14],[0,1,3,4,6,7,9,10,2,5,8,11,12,13,14]),([9,10,2,5,11,8,12,13,14],[0,1,3,4,6,7,9,10,2,5,11,8,12,13,14]),([9,10,2,11,5,8,12,13,14],[0,1,3,4,6,7,9,10,2,11,5,8,12,13,14]),([9,10,11,2,5,8,12,13,14],[0,1,3,4,6,7,9,10,11,2,5,8,12,13,14]),([9,11,2,5,8,10,12,13,14],[0,1,3,4,6,7,9,11,2,5,8,10,12,13,14]),([9,11,2,5,10,8,12,13,14],[0,1,3,4,6,7,9,11,2,5,10,8,12,13,14]),([9,11,2,10,5,8,12,13,14],[0,1,3,4,6,7,9,11,2,10,5,8,12,13,14]),([9,11,10,2,5,8,12,13,14],[0,1,3,4,6,7,9,11,10,2,5,8,12,13,14]),([10,2,5,8,9,11,12,13,14],[0,1,3,4,6,7,10,2,5,8,9,11,12,13,14]),([10,2,5,8,11,9,12,13,14],[0,1,3,4,6,7,10,2,5,8,11,9,12,13,14]),([10,2,5,9,8,11,12,13,14],[0,1,3,4,6,7,10,2,5,9,8,11,12,13,14]),([10,2,5,9,11,8,12,13,14],[0,1,3,4,6,7,10,2,5,9,11,8,12,13,14]),([10,2,5,11,8,9,12,13,14],[0,1,3,4,6,7,10,2,5,11,8,9,12,13,14]),([10,2,5,11,9,8,12,13,14],[0,1,3,4,6,7,10,2,5,11,9,8,12,13,14]),([10,2,9,5,8,11,12,13,14],[0,1,3,4,6,7,10,2,9,5,8,11,12,13,14]),([10,2,9,5,11,8,12,13,14],[0,1,3,4,6,7,10,2,9,5,11,8,12,13,14]),([10,2,9,11,5,8,12,13,14],[0,1,3,4,6,7,10,2,9,11,5,8,12,13,14]),([10,2,11,5,8,9,12,13,14],[0,1,3,4,6,7,10,2,11,5,8,9,12,13,14]),([10,2,11,5,9,8,12,13,14],[0,1,3,4,6,7,10,2,11,5,9,8,12,13,14]),([10,2,11,9,5,8,12,13,14],[0,1,3,4,6,7,10,2,11,9,5,8,12,13,14]),([10,9,2,5,8,11,12,13,14],[0,1,3,4,6,7,10,9,2,5,8,11,12,13,14]),([10,9,2,5,11,8,12,13,14],[0,1,3,4,6,7,10,9,2,5,11,8,12,13,14]),([10,9,2,11,5,8,12,13,14],[0,1,3,4,6,7,10,9,2,11,5,8,12,13,14]),([10,9,11,2,5,8,12,13,14],[0,1,3,4,6,7,10,9,11,2,5,8,12,13,14]),([10,11,2,5,8,9,12,13,14],[0,1,3,4,6,7,10,11,2,5,8,9,12,13,14]),([10,11,2,5,9,8,12,13,14],[0,1,3,4,6,7,10,11,2,5,9,8,12,13,14]),([10,11,2,9,5,8,12,13,14],[0,1,3,4,6,7,10,11,2,9,5,8,12,13,14]),([10,11,9,2,5,8,12,13,14],[0,1,3,4,6,7,10,11,9,2,5,8,12,13,14]),([11,2,5,8,9,10,12,13,14],[0,1,3,4,6,7,11,2,5,8,9,10,12,13,14]),([11,2,5,8,10,9,12,13,14],[0,1,3,4,6,7,11,2,5,8,10,9,12,13,14]),([11,2,5,9,8,10,12,13,14],[0,1,3,4,6,7,11,2,5,9,8,10,12,13,14]),([11,2,5,9,10,8,12,13,14],[0,1,3,4,6,7,11,2,5,9,10,8,12,13,14]),([11,2,5,10,8,9,12,13,14],[0,1,3,4,6,7,11,2,5,10,8,9,12,13,14]),([11,2,5,10,9,8,12,13,14],[0,1,3,4,6,7,11,2,5,10,9,8,12,13,14]),([11,2,9,5,8,10,12,13,14],[0,1,3,4,6,7,11,2,9,5,8,10,12,13,14]),([11,2,9,5,10,8,12,13,14],[0,1,3,4,6,7,11,2,9,5,10,8,12,13,14]),([11,2,9,10,5,8,12,13,14],[0,1,3,4,6,7,11,2,9,10,5,8,12,13,14]),([11,2,10,5,8,9,12,13,14],[0,1,3,4,6,7,11,2,10,5,8,9,12,13,14]),([11,2,10,5,9,8,12,13,14],[0,1,3,4,6,7,11,2,10,5,9,8,12,13,14]),([11,2,10,9,5,8,12,13,14],[0,1,3,4,6,7,11,2,10,9,5,8,12,13,14]),([11,9,2,5,8,10,12,13,14],[0,1,3,4,6,7,11,9,2,5,8,10,12,13,14]),([11,9,2,5,10,8,12,13,14],[0,1,3,4,6,7,11,9,2,5,10,8,12,13,14]),([11,9,2,10,5,8,12,13,14],[0,1,3,4,6,7,11,9,2,10,5,8,12,13,14]),([11,9,10,2,5,8,12,13,14],[0,1,3,4,6,7,11,9,10,2,5,8,12,13,14]),([11,10,2,5,8,9,12,13,14],[0,1,3,4,6,7,11,10,2,5,8,9,12,13,14]),([11,10,2,5,9,8,12,13,14],[0,1,3,4,6,7,11,10,2,5,9,8,12,13,14]),([11,10,2,9,5,8,12,13,14],[0,1,3,4,6,7,11,10,2,9,5,8,12,13,14]),([11,10,9,2,5,8,12,13,14],[0,1,3,4,6,7,11,10,9,2,5,8,12,13,14])]
def nM (k:Nat):Array Value:=if k=0 then #[pn 79,.bool false] else if k=1 then #[pn 80,.bool false] else #[pn 77,.bool true]
theorem Fo {k:Nat}(hk:k≤3){w:World}{kk:Value→World→Prop}(h:kk (.agg (nM k)) w):sw prog 108 (.agg KX) (.int .i64 (k:Int)) w kk:=by
 unfold sw;refine ⟨_,w,?_,h⟩;rcases (by omega:k=0∨k=1∨k=2∨k=3) with rfl | rfl | rfl | rfl <;> kernel_rfl
theorem yK (k:Nat):∀ u ∈ (nM k).toList,u.oneCell'=true:=by
 intro u hu;unfold nM at hu;split at hu
 ·simp at hu;rcases hu with rfl | rfl <;> rfl
 ·split at hu <;> (simp at hu;rcases hu with rfl | rfl <;> rfl)
theorem vq (k:Nat):(nM k).size=2:=by unfold nM;split;rfl;split <;> rfl
theorem Hm (g:Nat)(w:World):(Instr.fieldAt 107 (ah g) 0).run prog w=.ok (ah g) w:=by kernel_rfl
theorem Hn (g:Nat)(w:World):(Instr.fieldAt 107 (ah g) 1).run prog w=.ok (.pointer (some ⟨g,1,none⟩)) w:=by kernel_rfl
theorem yL {k:Value→World→Prop}{w:World}(h:k (rW 0 (.slice none 0 0) (.slice none 0 0)) w):b7 prog 41 [] w k:=bu (fun w=>by kernel_rfl) h
theorem yM {n:Nat}{k:Value→World→Prop}{w:World}(h:k (rW n (.slice none 0 0) (.slice none 0 0)) w):b7 prog 41 [(0,.int .i64 (n:Int))] w k:=bu (fun w=>by kernel_rfl) h
theorem tQ:eH prog 41=some (rW 0 (.slice none 0 0) (.slice none 0 0)):=by kernel_rfl
theorem j4 {n:Nat}{A B:Option Addr}{l c l' c':Nat}:∀ u ∈ (bq n (.slice A l c) (.slice B l' c')).toList,u.oneCell'=true:=by
 intro u hu;simp[bq] at hu;rcases hu with rfl | rfl | rfl <;> rfl
abbrev Ho (t:Tb)(v:Value)(g1 g2 g4 g6 g7 i:Nat)(Bo:Option Addr)(co:Nat)(Bm:Option Addr)(cm:Nat):List cC:=
 [an g7 41 (bq t.ni (.slice Bo i co) (.slice Bm i cm)),own 86 4 (.slice Bo i co) i (flat bH (jG (me t) i)),own 86 4 (.slice Bm i cm) i (flat bH (jG (hZ t) i)),an g6 107 (nM t.kd),an g4 86 (sc (bn t.ni)),an g2 41 (bq 0 (.slice none 0 0) (.slice none 0 0)),an g1 33 (dO t.kd t.ni t.no v)]
def pw (F:Nat→Prop)(S:dU)(Bo:Option Addr)(co:Nat)(Bm:Option Addr)(cm:Nat):cC:=
 ⟨F,fun w=>(sl F (.slice Bo S.on.length co) 4 S.on.length (flat bH S.on)).ok w∧(sl F (.slice Bm S.may.length cm) 4 S.may.length (flat bH S.may)).ok w,
  fun w w' h ⟨h1,h2⟩=>⟨(sl _ _ _ _ _).bP w w' h h1,(sl _ _ _ _ _).bP w w' h h2⟩⟩
theorem wU {w:World}{F:Nat→Prop}{S:dU}{Bo:Option Addr}{co:Nat}{Bm:Option Addr}{cm:Nat}(h:(pw F S Bo co Bm cm).ok w)(hF:∀ g,F g→g<w.heap.size):gn w S Bo co Bm cm:=⟨sl.mono h.1 hF,sl.mono h.2 hF⟩
theorem BH {w0 w:World}{S:dU}{Bo:Option Addr}{co:Nat}{Bm:Option Addr}{cm n m:Nat}(H:Hp w0 ab w [own 86 4 (.slice Bo n co) n (flat bH S.on),own 86 4 (.slice Bm m cm) m (flat bH S.may)] [])(hn:n=S.on.length)(hm:m=S.may.length):∃ F,eX w0 w (pw F S Bo co Bm cm):=by
 subst hn;subst hm;have H2:=Hp.join (Ls:=[own 86 4 (.slice Bo S.on.length co) S.on.length (flat bH S.on),own 86 4 (.slice Bm S.may.length cm) S.may.length (flat bH S.may)]) (L:=[]) H;refine ⟨(rS [own 86 4 (.slice Bo S.on.length co) S.on.length (flat bH S.on),own 86 4 (.slice Bm S.may.length cm) S.may.length (flat bH S.may)]).foot,?_⟩;exact (H2.re (r':=pw _ S Bo co Bm cm) (fun _=>⟨sl.mono (iv (H.get 0 rfl)) fun g hg=>⟨_,.head _,hg⟩,sl.mono (iv (H.get 1 rfl)) fun g hg=>⟨_,.tail _ (.head _),hg⟩⟩) fun g hg=>hg).out
theorem Mr:enters prog 23=true:=by kernel_rfl
set_option maxHeartbeats 40000000 in
theorem OI {t:Tb}(ht:mL t)(v:Value)(w:World)(hA:jF w v t.ls):bt prog 23 [uo t.kd t.ni t.no v] w fun r w'=>
  (cO t t.no=true∧r=.tuple #[rW 0 (.slice none 0 0) (.slice none 0 0),.int .i64 4]∧aT w w')∨
  (cO t t.no=false∧∃ Bo co Bm cm,r=.tuple #[rW t.ni (.slice Bo t.no co) (.slice Bm t.no cm),.int .i64 0]∧∃ F,eX w w' (pw F (iT t) Bo co Bm cm)):=by
 refine ar (N:=73) func23 Mr rfl rfl rfl (by simp) ?_;have H:=Hp.aC w;obtain ⟨B,c,hs,rfl,hSl,hsl,hln⟩:=hA.vn;have hno:=ht.no4;have hni:=ht.ni;have hkd:=ht.kd;refine ak (γ:=Nat × Nat) (fun (g1,g2)=>[(1,(ah g1)),(2,(ah g2))]) (fun (g1,g2) w'=>Hp w ab w' [an g2 41 (bq 0 (.slice none 0 0) (.slice none 0 0)),an g1 33 (dO t.kd t.ni t.no (.slice B t.ls.length c))] []) ?_ ?_
 ·refine H.box 33 _ (cs:=dO t.kd t.ni t.no (.slice B t.ls.length c)) rfl ?_;clear H;intro g1 w1 H;refine H.alloc 41 (cs:=bq 0 (.slice none 0 0) (.slice none 0 0)) tQ rfl ?_;clear H;intro g2 w2 H;exact ⟨(g1,g2),⟨rfl,rfl,trivial⟩,H⟩
 clear H;rintro ⟨g1,g2⟩ u w1 H;refine aw (fun w'=>Hp w ab w' [an g2 41 (bq 0 (.slice none 0 0) (.slice none 0 0)),an g1 33 (dO t.kd t.ni t.no (.slice B t.ls.length c))] []) ?_ ?_
 ·refine H.ai 1 rfl fB bJ ?_;refine aj (c49 ht _ _ (hA.same H.keeps)) ?_;rintro _ w2 ⟨rfl,hk⟩;replace H:=H.same hk;refine af rfl ?_;exact ⟨(),trivial,H⟩
 clear H;rintro ⟨⟩ u w2 H;refine ak (γ:=Nat) (fun g4=>[(4,(ah g4))]) (fun g4 w'=>Hp w ab w' [an g4 86 (sc (bn t.ni)),an g2 41 (bq 0 (.slice none 0 0) (.slice none 0 0)),an g1 33 (dO t.kd t.ni t.no (.slice B t.ls.length c))] []) ?_ ?_
 ·refine aa (ey _ _) ?_;refine H.load 1 rfl aE rfl ?_;refine aj (n9 t.ni hni _) ?_;rintro _ w3 ⟨rfl,hk⟩;replace H:=H.same hk;clear hk;refine H.alloc 86 (cs:=sc 0) bo aY ?_;clear H;intro g4 w4 H;refine H.aW 0 rfl ?_;clear H;intro w5 H;exact ⟨g4,⟨rfl,trivial⟩,H⟩
 clear H;rintro g4 u w3 H;refine ak (γ:=Nat) (fun g6=>[(6,(ah g6))]) (fun g6 w'=>Hp w ab w' [an g6 107 (nM t.kd),an g4 86 (sc (bn t.ni)),an g2 41 (bq 0 (.slice none 0 0) (.slice none 0 0)),an g1 33 (dO t.kd t.ni t.no (.slice B t.ls.length c))] []) ?_ ?_
 ·refine ia (fun u=>Hp w ab u [an g4 86 (sc (bn t.ni)),an g2 41 (bq 0 (.slice none 0 0) (.slice none 0 0)),an g1 33 (dO t.kd t.ni t.no (.slice B t.ls.length c))] []) [([0,4,5],[1,2,0,3,4,5]),([4,0,5],[1,2,4,0,3,5])] eS (by kernel_rfl) (H.same (aS.drew _)) ?_;replace H:=H.same (aS.drew _);generalize w3.drew=w4 at H;refine List.forall_mem_cons.2 ⟨?_,List.forall_mem_cons.2 ⟨?_,fun z hz=>by cases hz⟩⟩
  ·refine quiet _ (fun w H=>aa (ew _ _) ae) ?_;refine quiet _ (fun w H=>H.load 2 rfl aE rfl ae) ?_;refine aj (c51 _) ?_;rintro _ w6 ⟨rfl,hk⟩;replace H:=H.same hk;clear hk;refine ⟨.inl H,?_⟩;refine quiet _ (fun w H=>Fo hkd ae) ?_;refine H.alloc 107 BF rfl ?_;clear H;intro g6 w7 H;refine ⟨.inl H.forget,?_⟩;refine H.storeAll (cs':=nM t.kd) 0 rfl BE (vq _) (yK _) ?_;clear H;intro w8 H;refine ⟨.inl H.forget,?_⟩;exact ⟨g6,⟨rfl,trivial⟩,H⟩
  ·refine quiet _ (fun w H=>aa (ew _ _) ae) ?_;refine quiet _ (fun w H=>H.load 2 rfl aE rfl ae) ?_;refine H.alloc 107 BF rfl ?_;clear H;intro g6 w6 H;refine ⟨.inl H.forget,?_⟩;refine aj (c51 _) ?_;rintro _ w7 ⟨rfl,hk⟩;replace H:=H.same hk;clear hk;refine ⟨.inl H.forget,?_⟩;refine quiet _ (fun w H=>Fo hkd ae) ?_;refine H.storeAll (cs':=nM t.kd) 0 rfl BE (vq _) (yK _) ?_;clear H;intro w8 H;refine ⟨.inl H.forget,?_⟩;exact ⟨g6,⟨rfl,trivial⟩,H⟩
 clear H;rintro g6 u w4 H;refine ak (γ:=Nat) (fun g7=>[(7,(ah g7))]) (fun g7 w'=>Hp w ab w' [an g7 41 (bq t.ni (.slice none 0 0) (.slice none 0 0)),an g6 107 (nM t.kd),an g4 86 (sc (bn t.ni)),an g2 41 (bq 0 (.slice none 0 0) (.slice none 0 0)),an g1 33 (dO t.kd t.ni t.no (.slice B t.ls.length c))] []) ?_ ?_
 ·refine aa (ey _ _) ?_;refine H.load 3 rfl aE rfl ?_;refine yM ?_;refine H.alloc 41 (cs:=bq 0 (.slice none 0 0) (.slice none 0 0)) tQ rfl ?_;clear H;intro g7 w5 H;refine H.storeAll (cs':=bq t.ni (.slice none 0 0) (.slice none 0 0)) 0 rfl bL rfl j4 ?_;clear H;intro w6 H;exact ⟨g7,⟨rfl,trivial⟩,H⟩
 clear H;rintro g7 u w5 H;refine ak (γ:=Option Addr × Nat × Option Addr × Nat) (fun _=>[]) (fun (Bo,co,Bm,cm) w'=>cO t t.no=false∧Hp w ab w' (Ho t (.slice B t.ls.length c) g1 g2 g4 g6 g7 t.no Bo co Bm cm) []) ?_ ?_
 ·refine aa (ft _ _) ?_;refine H.load 4 rfl aE rfl ?_;refine ax (γ:=Nat × Option Addr × Nat × Option Addr × Nat) (fun (i,_)=>[(31,.int .i64 (i:Int))]) (fun (i,Bo,co,Bm,cm) w'=>(i≤t.no∧cO t i=false)∧Hp w ab w' (Ho t (.slice B t.ls.length c) g1 g2 g4 g6 g7 i Bo co Bm cm) []) (fun (i,_)=>t.no - i) (0,none,0,none,0) ⟨rfl,trivial⟩ ⟨⟨Nat.zero_le _,rfl⟩,(((H.bx 86 4).bx 86 4).front 2 rfl)⟩ ?_;clear H;rintro ⟨i,Bo,co,Bm,cm⟩ u w6 ⟨⟨hi,hcl⟩,H⟩;refine au (fun h7=>?_) (fun h7=>?_)
  ·have hil:i<t.no:=by omega
   have hLn:∀ u,Hp w ab u (Ho t (.slice B t.ls.length c) g1 g2 g4 g6 g7 i Bo co Bm cm) []→jF u (.slice B t.ls.length c) t.ls:=fun u H=>hA.same H.keeps;refine ak (γ:=Option Addr × Nat × Option Addr × Nat) (fun _=>[]) (fun (Bo,co,Bm,cm) w'=>cO t (i+1)=false∧Hp w ab w' (Ho t (.slice B t.ls.length c) g1 g2 g4 g6 g7 (i+1) Bo co Bm cm) []) ?_ ?_
   ·refine ak (γ:=Unit) (fun _=>[(8,.int .i64 (i:Int))]) (fun _ w'=>Hp w ab w' (Ho t (.slice B t.ls.length c) g1 g2 g4 g6 g7 i Bo co Bm cm) []) ⟨(),⟨rfl,trivial⟩,H⟩ ?_;clear H;rintro ⟨⟩ u w7 H;refine ak (γ:=Nat × Nat × Nat) (fun (g9,g10,g11)=>[(9,(ah g9)),(10,(ah g10)),(11,(ah g11))]) (fun (g9,g10,g11) w'=>Hp w ab w' (an g9 86 (sc (me t i))::an g10 86 (sc (tO t i))::an g11 86 (sc (tP t i))::Ho t (.slice B t.ls.length c) g1 g2 g4 g6 g7 i Bo co Bm cm) []) ?_ ?_
    ·refine ia (fun u=>Hp w ab u (Ho t (.slice B t.ls.length c) g1 g2 g4 g6 g7 i Bo co Bm cm) []) yJ eS (by kernel_rfl) (H.same (aS.drew _)) ?_;replace H:=H.same (aS.drew _);generalize w7.drew=w8 at H;have h52:∀ (u:World) (m:Int),jF u (.slice B t.ls.length c) t.ls→((m.toNat:Nat):Int)=m→bt prog 52 [uo t.kd t.ni t.no (.slice B t.ls.length c),.int .i64 (i:Int),.int .i64 m] u fun r w'=>r=sv (fT t i m.toNat t.ls.length)∧aT u w':=fun u m hu hm=>by
      have h:=OF ht i m.toNat hil _ u hu;rw[hm] at h;exact h
     unfold yJ
     iterate 120
      refine List.forall_mem_cons.2 ⟨?_,?_⟩
      ·iterate 3 refine quiet _ (fun w H=>H.ai 6 rfl fB bJ ae) ?_
       iterate 6
        first
        |refine H.alloc 86 (cs:=sc 0) bo aY ?_
         clear H;intro gx w9 H
        |refine aj (h52 _ _ (hA.same H.keeps) rfl) ?_
         rintro _ w9 ⟨rfl,hk⟩;replace H:=H.same hk;clear hk
        refine ⟨.inl (by first | exact H | exact H.forget | exact H.forget.forget | exact H.forget.forget.forget),?_⟩
       iterate 3
        first
        |refine H.aW 0 rfl ?_
        |refine H.aW 1 rfl ?_
        |refine H.aW 2 rfl ?_
        clear H;intro w9 H;refine ⟨.inl H.forget.forget.forget,?_⟩
       refine ⟨(_,_,_),⟨rfl,rfl,rfl,trivial⟩,?_⟩
       first
       |exact H.b6 [0,1,2,3,4,5,6,7,8,9] (by decide) rfl
       |exact H.b6 [0,2,1,3,4,5,6,7,8,9] (by decide) rfl
       |exact H.b6 [1,0,2,3,4,5,6,7,8,9] (by decide) rfl
       |exact H.b6 [1,2,0,3,4,5,6,7,8,9] (by decide) rfl
       |exact H.b6 [2,0,1,3,4,5,6,7,8,9] (by decide) rfl
       |exact H.b6 [2,1,0,3,4,5,6,7,8,9] (by decide) rfl
     intro z hz
     cases hz
    clear H;rintro ⟨g9,g10,g11⟩ u w8 H;refine aw (fun w'=>kM t i=false∧Hp w ab w' (an g9 86 (sc (me t i))::an g10 86 (sc (tO t i))::an g11 86 (sc (tP t i))::Ho t (.slice B t.ls.length c) g1 g2 g4 g6 g7 i Bo co Bm cm) []) ?_ ?_
    ·refine aa (Hn _) ?_;by_cases hk2:2≤t.kd
     ·have e6:(nM t.kd)=#[pn 77,.bool true]:=by unfold nM;rw[if_neg (by omega),if_neg (by omega)]
      refine H.load 6 rfl vR (by rw[e6];rfl) ?_;refine ag rfl ?_;refine H.ai 0 rfl aD av ?_;refine ag rfl ?_;refine H.ai 1 rfl aD av ?_;refine ag rfl ?_;refine aj (c53 _ _ _) ?_;rintro _ w17 ⟨rfl,hk⟩;replace H:=H.same hk;clear hk;refine ag rfl ?_;refine s4 ?_;refine ag rfl ?_;refine Ca (Nat.lt_of_le_of_lt Nat.and_le_left (nK _ _ _ _)) (Nat.two_pow_pos 256) ?_;have hcb:kM t i=(me t i &&&tO t i !=0):=by unfold kM;rw[decide_eq_true hk2,Bool.true_and]
      refine ag rfl ?_;refine aF (fun hb=>?_) (fun hb=>?_)
      ·have hbad:cO t t.no=true:=by
        unfold cO;rw[List.any_eq_true];exact ⟨i,List.mem_range.2 hil,hcb.trans hb⟩
       refine yL ?_;refine H.storeAll 8 rfl bL rfl j4 ?_;clear H;intro w18 H;refine H.ai 8 rfl dx bL ?_;exact ⟨rfl,.inl ⟨hbad,rfl,H.keeps⟩⟩
      ·exact ⟨(),trivial,hcb.trans hb,H⟩
     ·have e6:(nM t.kd)[1]?=some (.bool false):=by unfold nM;split;rfl;rw[if_pos (by omega)];rfl
      refine H.load 6 rfl vR e6 ?_
      iterate 7 refine af rfl ?_
      exact ⟨(),trivial,by unfold kM;rw[decide_eq_false hk2];rfl,H⟩
    clear H;rintro ⟨⟩ u w9 ⟨hcb,H⟩;have hcl1:cO t (i+1)=false:=by rw[rN,hcl,hcb];rfl
    have hcall:∃ fk,(nM t.kd)[0]?=some (pn fk)∧∀ w,bt prog fk [sv (bn t.ni),sv (me t i),sv (tO t i),sv (tP t i)] w fun v w'=>v=sv (hZ t i)∧aT w w':=by
     unfold nM hZ;by_cases h0:t.kd=0
     ·rw[if_pos h0,if_pos h0];exact ⟨79,rfl,fun w=>OH _ _ _ _ w⟩
     ·rw[if_neg h0,if_neg h0];by_cases h1:t.kd=1
      ·rw[if_pos h1,if_pos h1];exact ⟨80,rfl,fun w=>c80 _ _ _ _ w⟩
      ·rw[if_neg h1,if_neg h1];exact ⟨77,rfl,fun w=>OG _ _ _ _ (jW _) w⟩
    obtain ⟨fk,hfk,hcall⟩:=hcall;have e1:flat bH (jG (me t) (i+1))=flat bH (jG (me t) i)++bH (me t i):=by rw[nL];exact du ..
    have e2:flat bH (jG (hZ t) (i+1))=flat bH (jG (hZ t) i)++bH (hZ t i):=by rw[nL];exact du ..
    refine uL (fun i=>i==18) (fun u=>Hp w ab u [an g9 86 (sc (me t i)),an g10 86 (sc (tO t i)),an g11 86 (sc (tP t i)),an g7 41 (bq t.ni (.slice Bo i co) (.slice Bm i cm)),an g6 107 (nM t.kd),an g4 86 (sc (bn t.ni)),an g2 41 (bq 0 (.slice none 0 0) (.slice none 0 0)),an g1 33 (dO t.kd t.ni t.no (.slice B t.ls.length c))] []) eS (by kernel_rfl) ((H.same (aS.drew _)).b6 [0,1,2,3,6,7,8,9] (by decide) rfl) ?_;replace H:=H.same (aS.drew _);generalize w9.drew=w10 at H;refine quiet _ (fun w H=>aa (gp _) ae) ?_;refine quiet _ (fun w H=>H.load 3 rfl dV rfl ae) ?_;refine quiet _ (fun w H=>H.ai 0 rfl aD av ae) ?_;refine H.bg FU (cs:=sc (me t i)) (by decide) (by decide) (by kernel_rfl) ?_;clear H;intro gx w11 H;refine ⟨.inl (H.b6 [1,2,3,4,7,8,9,10] (by decide) rfl),?_⟩;refine H.aG 5 0 FU rfl rfl rfl (fl _) (by omega) (by omega) ?_;clear H;intro Bo' co' w12 H;replace H:=H.forget;refine ⟨.inl (H.b6 [0,1,2,3,6,7,8,9] (by decide) rfl),?_⟩;refine quiet _ (fun w H=>aa (fM _) ae) ?_;refine quiet _ (fun w H=>H.load 3 rfl dV rfl ae) ?_;refine quiet _ (fun w H=>aa (Hm _) ae) ?_;refine quiet _ (fun w H=>H.load 4 rfl Kx hfk ae) ?_;refine quiet _ (fun w H=>H.ai 5 rfl aD av ae) ?_;refine quiet _ (fun w H=>H.ai 0 rfl aD av ae) ?_;refine quiet _ (fun w H=>H.ai 1 rfl aD av ae) ?_;refine quiet _ (fun w H=>H.ai 2 rfl aD av ae) ?_;refine aj (hcall _) ?_;rintro _ w13 ⟨rfl,hk⟩;replace H:=H.same hk;clear hk;refine ⟨.inl (H.b6 [0,1,2,3,6,7,8,9] (by decide) rfl),?_⟩;refine H.bg FU (cs:=sc (hZ t i)) (by decide) (by decide) (by kernel_rfl) ?_;clear H;intro gy w14 H;refine ⟨.inl (H.b6 [1,2,3,4,7,8,9,10] (by decide) rfl),?_⟩;refine H.aG 6 0 FU rfl rfl rfl (fl _) (by omega) (by omega) ?_;clear H;intro Bm' cm' w15 H;replace H:=H.forget;refine ⟨.inl (H.b6 [0,1,2,3,6,7,8,9] (by decide) rfl),?_⟩;refine quiet _ (fun w H=>aa (gp _) ae) ?_;refine H.store 3 rfl tq (Nat.le_of_ble_eq_true rfl) rfl ?_;clear H;intro w16 H;refine ⟨.inr (by kernel_rfl),?_⟩;refine aa (fM _) ?_;refine ⟨.inr (by kernel_rfl),?_⟩;refine H.store 3 rfl tq (Nat.le_of_ble_eq_true rfl) rfl ?_;clear H;intro w17 H;refine ⟨.inr (by kernel_rfl),?_⟩;refine ⟨(Bo',co',Bm',cm'),trivial,hcl1,?_⟩;unfold Ho;rw[e1,e2];exact H.b6 [3,4,5,6,7,8,9] (by decide) rfl
   clear H;rintro ⟨Bo',co',Bm',cm'⟩ u w10 ⟨hcl1,H⟩;exact ⟨(i+1,Bo',co',Bm',cm'),by show t.no - (i+1)<t.no - i;omega,⟨up (by omega),trivial⟩,⟨by show i+1≤t.no;omega,hcl1⟩,H⟩
  ·obtain rfl:i=t.no:=by omega
   exact ⟨(Bo,co,Bm,cm),trivial,hcl,H⟩
 clear H;rintro ⟨Bo,co,Bm,cm⟩ u w6 ⟨hcl,H⟩;refine H.ai 0 rfl dx bL ?_;refine H.storeAll 5 rfl bL rfl j4 ?_;clear H;intro w8 H;refine H.ai 5 rfl dx bL ?_;exact ⟨rfl,.inr ⟨hcl,Bo,co,Bm,cm,rfl,BH (S:=iT t) (H.b6 [1,2] (by decide) rfl) (ez _ _).symm (ez _ _).symm⟩⟩
end Go.Proofs.YtpjihhgjbbihkaaGreatDoor
namespace Go.Dk
def jH (k o:Nat):List Nat:=jG (fun j=>(o / 2^j) &&&1) k
def jI (k:Nat)(x:Rw):Ln:=(x.1,x.2.1,jH k x.2.2)
def oI (S:dU)(rows:List Rw):Tb:=⟨1,S.n,S.on.length,rows.map (jI S.on.length)⟩
theorem qh (k o:Nat):(jH k o).length=k:=ez _ _
theorem Fp {k o:Nat}:∀ x ∈ jH k o,x<2:=by
 intro x hx;unfold jH jG at hx;rw[List.mem_map] at hx;obtain ⟨j,_,rfl⟩:=hx;exact Nat.lt_succ_of_le Nat.and_le_right
theorem Fq {n k:Nat}(hn:n≤8){x:Rw}(h:gK n k x):An n k (jI k x):=by
 obtain ⟨h1,h2,h3,h4,h5,h6⟩:=h;obtain ⟨_,_,hm,hv⟩:=(eh h1 h2).1 h4;rw[Int.toNat_natCast] at hm;exact ⟨hm,hv,qh _ _,fun y hy=>Nat.lt_succ_of_lt (Fp y hy)⟩
theorem Hq {S:dU}(hS:cK S){rows:List Rw}(h:∀ x ∈ rows,gK S.n S.on.length x)(hl:rows.length≤64):mL (oI S rows):=by
 refine ⟨show 1≤3 by decide,hS.n8,hS.some,hS.few,by show (rows.map _).length≤64;rw[List.length_map];exact hl,fun l hl=>?_⟩;obtain ⟨x,hx,rfl⟩:=List.mem_map.1 hl;exact Fq hS.n8 (h x hx)
end Go.Dk
namespace Go.Proofs.YtpjihhgjbbihkaaGreatDoor
open Go.Proofs.Tryz
open Go.Dk
set_option maxRecDepth 100000
attribute [local irreducible] IntKind.wrap
theorem _root_.Go.Dk.Hp.Ms {w0 w:World}{L M:List cC}{S:Nat→Prop}{hs:List Hd}{Q:List Ln}{v:Value}{l:Ln}(H:Hp w0 ab w (own 3 1 v l.2.2.length (ints l.2.2)::L) (qw S hs Q::M))(hS:∀ g,S g→w0.heap.size≤g) :
  ∃ S',Hp w0 ab w L (qw S' (hs++[(l.1,l.2.1,v)]) (Q++[l])::M)∧∀ g,S' g→w0.heap.size≤g:=by
 have hown:=H.get 0 rfl;have hrow:=H.ro 0 rfl;have hnew:=H.new _ (.head _);have H2:=H.freeze;refine ⟨fun g=>S g∨v.ownBlock=some g,(H2.pG (aS.refl _ _) (qw (fun g=>S g∨v.ownBlock=some g) (hs++[(l.1,l.2.1,v)]) (Q++[l])) ?_ fun g hg=>⟨?_,.inr ?_⟩).ep ?_,?_⟩
 ·obtain ⟨A,c,rfl,_⟩:=e9 hown;exact lA.snoc (lA.mono hrow fun g hg=>.inl hg) ⟨rfl,rfl,A,c,rfl,sl.mono (iv hown) fun g hg=>.inr hg⟩
 ·rcases hg with hg | hg
  ·exact H2.rlt _ (.tail _ (.head _)) g hg
  ·exact H2.rlt _ (.head _) g hg
 ·rcases hg with hg | hg
  ·exact ⟨_,.tail _ (.head _),hg⟩
  ·exact ⟨_,.head _,hg⟩
 ·intro r hr;rcases List.mem_cons.1 hr with rfl | hr
  ·exact .head _
  ·exact .tail _ (.tail _ (.tail _ hr))
 ·rintro g (hg | hg)
  ·exact hS g hg
  ·exact (hnew g hg).resolve_right id
theorem _root_.Go.Dk.Hp.NX {w0 w:World}{F:Nat→Prop}{L M:List cC}(H:Hp w0 F w L M):Hp w0 F w L (qw (fun _=>False) [] []::M):=
 H.pG (aS.refl _ _) _ (lA.nil _ _) fun g hg=>hg.elim
theorem iO {w:World}{kk:Value→World→Prop}(h:kk (uo 0 0 0 (.slice none 0 0)) w):b7 prog 33 [] w kk:=bu (fun w=>by kernel_rfl) h
theorem Fs {n k:Nat}{w:World}{kk:Value→World→Prop}(h:kk (uo 1 n k (.slice none 0 0)) w):b7 prog 33 [(0,.int .i64 1),(1,.int .i64 (n:Int)),(2,.int .i64 (k:Int))] w kk:=bu (fun w=>by kernel_rfl) h
theorem wV {m v:Nat}{w:World}{kk:Value→World→Prop}(h:kk (.agg (fH m v (.slice none 0 0))) w):b7 prog 77 [(0,cv m v)] w kk:=bu (fun w=>by kernel_rfl) h
abbrev Dm (S:dU)(vo vm:Value)(g2 g4 g6 i:Nat)(B:Option Addr)(c:Nat)(hs:List Hd):List cC:=
 [an g6 33 (dO 1 S.n S.on.length (.slice B i c)),own 77 3 (.slice B i c) i (flat kL hs),an g4 33 (dO 0 0 0 (.slice none 0 0)),an g2 41 (bq S.n vo vm)]
theorem Mt:enters prog 27=true:=by kernel_rfl
theorem OJ {S:dU}(hS:cK S)(l:List Rw)(hl:∀ x ∈ l,gK S.n S.on.length x)(hll:l.length≤9223372036854775807)(Bo:Option Addr)(co:Nat)(Bm:Option Addr)(cm:Nat)(A:Option Addr)(c:Nat)(w:World)(hO:gn w S Bo co Bm cm)(hA:Sl w (.slice A l.length c) 3 l.length (flat bj l)) :
  bt prog 27 [rW S.n (.slice Bo S.on.length co) (.slice Bm S.may.length cm),.slice A l.length c] w fun r w'=>
   (64<l.length∧r=.tuple #[uo 0 0 0 (.slice none 0 0),.int .i64 3]∧aT w w')∨
   (l.length≤64∧∃ v F,r=.tuple #[uo 1 S.n S.on.length v,.int .i64 0]∧eX w w' (pv F v (l.map (jI S.on.length)))):=by
 refine ar (N:=67) func27 Mt rfl rfl rfl (by simp) ?_;have H:=Hp.aC w;have h8:=hS.n8;have h4:=hS.few;refine ak (γ:=Nat × Nat) (fun (g2,g4)=>[(2,(ah g2)),(4,(ah g4))]) (fun (g2,g4) w'=>Hp w ab w' [an g4 33 (dO 0 0 0 (.slice none 0 0)),an g2 41 (bq S.n (.slice Bo S.on.length co) (.slice Bm S.may.length cm))] []) ?_ ?_
 ·refine H.box 41 _ (cs:=bq S.n (.slice Bo S.on.length co) (.slice Bm S.may.length cm)) rfl ?_;clear H;intro g2 w1 H;refine H.alloc 33 (cs:=dO 0 0 0 (.slice none 0 0)) nJ rfl ?_;clear H;intro g4 w2 H;exact ⟨(g2,g4),⟨rfl,rfl,trivial⟩,H⟩
 clear H;rintro ⟨g2,g4⟩ u w1 H;refine aw (fun w'=>l.length≤64∧Hp w ab w' [an g4 33 (dO 0 0 0 (.slice none 0 0)),an g2 41 (bq S.n (.slice Bo S.on.length co) (.slice Bm S.may.length cm))] []) ?_ ?_
 ·refine ak (γ:=Unit) (fun _=>[(11,.bool false)]) (fun _ w'=>Hp w ab w' [an g4 33 (dO 0 0 0 (.slice none 0 0)),an g2 41 (bq S.n (.slice Bo S.on.length co) (.slice Bm S.may.length cm))] []) ?_ ?_
  ·refine H.ai 1 rfl dx bL ?_;refine aj (GF hS Bo co Bm cm _ (hO.same H.keeps)) ?_;rintro _ w2 ⟨rfl,hk⟩;replace H:=H.same hk;clear hk;refine af rfl ?_;refine H.ai 1 rfl dx bL ?_
   iterate 2 refine af rfl ?_
   refine aj (c59 hS l hl hll Bo co (.slice Bm S.may.length cm) rfl A c _ (hO.on.same H.keeps) (hA.same H.keeps)) ?_;rintro _ w3 ⟨rfl,hk⟩;replace H:=H.same hk;clear hk
   iterate 2 refine af rfl ?_
   exact ⟨(),⟨rfl,trivial⟩,H⟩
  clear H;rintro ⟨⟩ u w2 H;refine af rfl ?_;refine ay underlying44 ?_;refine au (fun h7=>?_) (fun h7=>?_)
  ·refine iO ?_;refine H.storeAll 0 rfl bJ rfl dA ?_;clear H;intro w3 H;refine H.ai 0 rfl fB bJ ?_;exact ⟨rfl,.inl ⟨by omega,rfl,H.keeps⟩⟩
  ·exact ⟨(),trivial,by omega,H⟩
 clear H;rintro ⟨⟩ u w2 ⟨hl64,H⟩;refine ak (γ:=Nat) (fun g6=>[(6,(ah g6))]) (fun g6 w'=>Hp w ab w' (Dm S (.slice Bo S.on.length co) (.slice Bm S.may.length cm) g2 g4 g6 0 none 0 []) [qw (fun _=>False) [] []]) ?_ ?_
 ·refine aa (iG _) ?_;refine H.load 1 rfl aE rfl ?_;refine aa (gp _) ?_;refine H.load 1 rfl dV rfl ?_;refine ay underlying39 ?_;refine Fs ?_;refine H.alloc 33 (cs:=dO 0 0 0 (.slice none 0 0)) nJ rfl ?_;clear H;intro g6 w3 H;refine H.storeAll 0 rfl bJ rfl dA ?_;clear H;intro w4 H;exact ⟨g6,⟨rfl,trivial⟩,((H.bx 77 3).NX).b6 [1,0,2,3] (by decide) rfl⟩
 clear H;rintro g6 u w3 H;refine ak (γ:=Option Addr × Nat × List Hd × (Nat→Prop)) (fun _=>[]) (fun (B,d,hs,Sx) w'=>(∀ g,Sx g→w.heap.size≤g)∧Hp w ab w' (Dm S (.slice Bo S.on.length co) (.slice Bm S.may.length cm) g2 g4 g6 l.length B d hs) [qw Sx hs (l.map (jI S.on.length))]) ?_ ?_
 ·refine ay underlying44 ?_;refine ax (γ:=Nat × Option Addr × Nat × List Hd × (Nat→Prop)) (fun (i,_)=>[(35,.int .i64 (i:Int))]) (fun (i,B,d,hs,Sx) w'=>(i≤l.length∧∀ g,Sx g→w.heap.size≤g)∧Hp w ab w' (Dm S (.slice Bo S.on.length co) (.slice Bm S.may.length cm) g2 g4 g6 i B d hs) [qw Sx hs ((l.take i).map (jI S.on.length))]) (fun (i,_)=>l.length - i) (0,none,0,[],fun _=>False) ⟨rfl,trivial⟩ ⟨⟨Nat.zero_le _,fun g h=>h.elim⟩,H⟩ ?_;clear H;rintro ⟨i,B,d,hs,Sx⟩ u w4 ⟨⟨hi,hSx⟩,H⟩;refine au (fun h7=>?_) (fun h7=>?_)
  ·obtain ⟨x,hx,hxin⟩:=kC (l:=l) (j:=i) (by omega);have hok:=hl x hxin;obtain ⟨m,v,o⟩:=x;have ho:=hok.o;simp only at ho;obtain ⟨gA,oA,rfl⟩:=hA.A (by omega);refine ak (γ:=Option Addr × Nat × List Hd × (Nat→Prop)) (fun _=>[]) (fun (B,d,hs,Sx) w'=>(∀ g,Sx g→w.heap.size≤g)∧Hp w ab w' (Dm S (.slice Bo S.on.length co) (.slice Bm S.may.length cm) g2 g4 g6 (i+1) B d hs) [qw Sx hs ((l.take (i+1)).map (jI S.on.length))]) ?_ ?_
   ·refine ak (γ:=Nat) (fun g8=>[(8,(ah g8))]) (fun g8 w'=>Hp w ab w' (an g8 50 (eU m v o)::Dm S (.slice Bo S.on.length co) (.slice Bm S.may.length cm) g2 g4 g6 i B d hs) [qw Sx hs ((l.take i).map (jI S.on.length))]) ?_ ?_
    ·refine aq underlying44 bd i rfl (by omega) (o':=oA+i*3) (by omega) ?_;refine Sl.cI H hA bI ij bd i rfl hx ?_;refine H.alloc 50 (cs:=eU 0 0 0) jP rfl ?_;clear H;intro g8 w5 H;refine H.storeAll (cs':=eU m v o) 0 rfl bd rfl (eK _ _ _) ?_;clear H;intro w6 H;exact ⟨g8,⟨rfl,trivial⟩,H⟩
    clear H;rintro g8 u w5 H;refine ak (γ:=Nat) (fun g9=>[(9,(ah g9))]) (fun g9 w'=>Hp w ab w' (an g9 77 (fH m v (.slice none 0 0))::own 3 1 (.slice none 0 0) 0 []::an g8 50 (eU m v o)::Dm S (.slice Bo S.on.length co) (.slice Bm S.may.length cm) g2 g4 g6 i B d hs) [qw Sx hs ((l.take i).map (jI S.on.length))]) ?_ ?_
    ·refine aa (fN _ _) ?_;refine H.cW 0 rfl [.int .u8 (m:Int),.int .u8 (v:Int)] bw aO (fun j u hj=>by match j,hj with | 0,hj=>exact hj | 1,hj=>exact hj) ?_;refine wV ?_;refine H.alloc 77 (cs:=fH 0 0 (.slice none 0 0)) lB rfl ?_;clear H;intro g9 w6 H;refine H.storeAll 0 rfl cY rfl (eM (m:=m) (v:=v)) ?_;clear H;intro w7 H;exact ⟨g9,⟨rfl,trivial⟩,(H.bx 3 1).b6 [1,0,2,3,4,5,6] (by decide) rfl⟩
    clear H;rintro g9 u w6 H;refine ak (γ:=Option Addr × Nat) (fun _=>[]) (fun (B2,d2) w'=>Hp w ab w' (an g9 77 (fH m v (.slice B2 S.on.length d2))::own 3 1 (.slice B2 S.on.length d2) S.on.length (ints (jH S.on.length o))::an g8 50 (eU m v o)::Dm S (.slice Bo S.on.length co) (.slice Bm S.may.length cm) g2 g4 g6 i B d hs) [qw Sx hs ((l.take i).map (jI S.on.length))]) ?_ ?_
    ·refine aa (ft _ _) ?_;refine H.load 3 rfl aE rfl ?_;refine ax (γ:=Nat × Option Addr × Nat) (fun (j,_)=>[(44,.int .i64 (j:Int))]) (fun (j,B2,d2) w'=>j≤S.on.length∧Hp w ab w' (an g9 77 (fH m v (.slice B2 j d2))::own 3 1 (.slice B2 j d2) j (ints (jH j o))::an g8 50 (eU m v o)::Dm S (.slice Bo S.on.length co) (.slice Bm S.may.length cm) g2 g4 g6 i B d hs) [qw Sx hs ((l.take i).map (jI S.on.length))]) (fun (j,_)=>S.on.length - j) (0,none,0) ⟨rfl,trivial⟩ ⟨Nat.zero_le _,H⟩ ?_;clear H;rintro ⟨j,B2,d2⟩ u w7 ⟨hj,H⟩;refine au (fun h9=>?_) (fun h9=>?_)
     ·refine ak (γ:=Option Addr × Nat) (fun _=>[]) (fun (B2,d2) w'=>Hp w ab w' (an g9 77 (fH m v (.slice B2 (j+1) d2))::own 3 1 (.slice B2 (j+1) d2) (j+1) (ints (jH (j+1) o))::an g8 50 (eU m v o)::Dm S (.slice Bo S.on.length co) (.slice Bm S.may.length cm) g2 g4 g6 i B d hs) [qw Sx hs ((l.take i).map (jI S.on.length))]) ?_ ?_
      ·refine ak (γ:=Unit) (fun _=>[(10,.int .i64 (j:Int))]) (fun _ w'=>Hp w ab w' (an g9 77 (fH m v (.slice B2 j d2))::own 3 1 (.slice B2 j d2) j (ints (jH j o))::an g8 50 (eU m v o)::Dm S (.slice Bo S.on.length co) (.slice Bm S.may.length cm) g2 g4 g6 i B d hs) [qw Sx hs ((l.take i).map (jI S.on.length))]) ⟨(),⟨rfl,trivial⟩,H⟩ ?_;clear H;rintro ⟨⟩ u w8 H;have e1:ints (jH (j+1) o)=ints (jH j o)++[.int .i64 (((o / 2^j) &&&1:Nat):Int)]:=by unfold jH;rw[nL];unfold ints;rw[List.map_append];rfl
       refine H.fg [an g9 77 (fH m v (.slice B2 j d2)),an g8 50 (eU m v o)] (fun u h=>h.b6 [0,2] (by decide) rfl) eS (by kernel_rfl) ?_;clear H;intro w10 H;refine quiet _ (fun w H=>aa (eE _) ae) ?_;refine quiet _ (fun w H=>H.load 0 rfl fq rfl ae) ?_;refine quiet _ (fun w H=>aa (dN _ _) ae) ?_;refine quiet _ (fun w H=>H.load 1 rfl cg rfl ae) ?_;refine quiet _ (fun w H=>eR (by omega) ae) ?_;refine quiet _ (fun w H=>dL (b:=1) (Nat.lt_of_le_of_lt (Nat.div_le_self _ _) ho) (by omega) ae) ?_;have h1:(o / 2^j) &&&1≤1:=Nat.and_le_right;refine quiet _ (fun w H=>iy (by kernel_rfl) underlying3 (by omega) (by omega) ae) ?_;refine H.aX dy rfl ?_;clear H;intro gx w11 H;refine ⟨.inl (H.b6 [1,3] (by decide) rfl),?_⟩;refine H.aG 2 0 dy rfl rfl rfl (fun u hu=>by rw[List.mem_singleton.1 hu];rfl) (by omega) (by omega) ?_;clear H;intro B4 d4 w12 H;refine ⟨.inl (H.b6 [1,3] (by decide) rfl),?_⟩;refine quiet _ (fun w H=>aa (eE _) ae) ?_;refine H.store 1 rfl qg (Nat.le_of_ble_eq_true rfl) rfl ?_;clear H;intro w13 H;refine ⟨.inr rfl,?_⟩;exact ⟨(B4,d4),trivial,by rw[e1];exact H.forget⟩
      ·clear H;rintro ⟨B3,d3⟩ u w8 H;exact ⟨(j+1,B3,d3),by show S.on.length - (j+1)<S.on.length - j;omega,⟨up (by omega),trivial⟩,by show j+1≤S.on.length;omega,H⟩
     ·obtain rfl:j=S.on.length:=by omega
      exact ⟨(B2,d2),trivial,H⟩
    clear H;rintro ⟨B2,d2⟩ u w7 H;refine aa (dZ _ _) ?_;refine H.load 3 rfl il rfl ?_;refine H.ai 0 rfl l9 cY ?_;refine H.bg Il (cs:=fH m v (.slice B2 S.on.length d2)) (by decide) (by decide) (by kernel_rfl) ?_;clear H;intro gx w8 H;refine H.aG 5 0 Il rfl rfl rfl eM (by omega) (by omega) ?_;clear H;intro B4 d4 w9 H;replace H:=H.forget;refine aa (dZ _ _) ?_;refine H.store 3 rfl wS (Nat.le_of_ble_eq_true rfl) rfl ?_;clear H;intro w10 H;have hb:(jH S.on.length o).length=S.on.length:=qh _ _;have hx':(l.take (i+1)).map (jI S.on.length)=(l.take i).map (jI S.on.length)++[(m,v,jH S.on.length o)]:=by rw[List.take_add_one,hx,List.map_append];rfl
    have H2:Hp w ab w10 (own 3 1 (.slice B2 S.on.length d2) ((m,v,jH S.on.length o):Ln).2.2.length (ints ((m,v,jH S.on.length o):Ln).2.2)::Dm S (.slice Bo S.on.length co) (.slice Bm S.may.length cm) g2 g4 g6 (i+1) B4 d4 (hs++[(m,v,.slice B2 S.on.length d2)])) [qw Sx hs ((l.take i).map (jI S.on.length))]:=by
     show Hp w ab w10 (own 3 1 (.slice B2 S.on.length d2) (jH S.on.length o).length (ints (jH S.on.length o))::_) _;rw[hb];unfold Dm;rw[show flat kL (hs++[(m,v,.slice B2 S.on.length d2)])=flat kL hs++kL (m,v,.slice B2 S.on.length d2) from du ..];exact H.b6 [1,3,4,5,6] (by decide) rfl
    clear H;obtain ⟨S',H3,hS'⟩:=H2.Ms hSx;exact ⟨(B4,d4,hs++[(m,v,.slice B2 S.on.length d2)],S'),trivial,hS',by rw[hx'];exact H3⟩
   ·clear H;rintro ⟨B3,d3,hs3,S3⟩ u w5 ⟨hS3,H⟩;exact ⟨(i+1,B3,d3,hs3,S3),by show l.length - (i+1)<l.length - i;omega,⟨up (by omega),trivial⟩,⟨by show i+1≤l.length;omega,hS3⟩,H⟩
  ·obtain rfl:i=l.length:=by omega
   exact ⟨(B,d,hs,Sx),trivial,hSx,by rw[List.take_length] at H;exact H⟩
 clear H;rintro ⟨B,d,hs,Sx⟩ u w4 ⟨hSx,H⟩;refine H.ai 0 rfl fB bJ ?_;refine H.storeAll 2 rfl bJ rfl dA ?_;clear H;intro w5 H;refine H.ai 2 rfl fB bJ ?_;exact ⟨rfl,.inr ⟨hl64,_,_,rfl,wR H.keeps (H.get 1 rfl) (fun g hg=>⟨(H.new _ (.tail _ (.head _)) g hg).resolve_right id,H.lt _ (.tail _ (.head _)) g hg⟩) (H.ro 0 rfl) (fun g hg=>⟨hSx g hg,H.rlt _ (.head _) g hg⟩) (by rw[List.length_map])⟩⟩
end Go.Proofs.YtpjihhgjbbihkaaGreatDoor
namespace Go.Dk
section
variable {P:Program} {w:World} {kk:Value→World→Prop}
theorem BI (l:List UInt8)(i j:Nat):(⟨l.toArray⟩:ByteArray).extract i j=⟨((l.take j).drop i).toArray⟩:=by
 rw[ByteArray.ext_iff,ByteArray.data_extract];apply Array.ext';simp[List.drop_take,List.extract_eq_take_drop]
theorem q8 {t:TypeId}{l:List UInt8}{kd kd':IntKind}{x y:Int}(ht:P.underlying t=some .string)(i j:Nat)(hx:x=(i:Int))(hy:y=(j:Int))(h1:i≤j)(h2:j≤l.length)(h:kk (aU ((l.take j).drop i)) w) :
  eP P t (aU l) (some (.int kd x)) (some (.int kd' y)) none w kk:=by
 subst hx;subst hy;unfold eP;refine ⟨_,w,?_,h⟩;have hs:(⟨l.toArray⟩:ByteArray).size=l.length:=rfl;simp only[aU,Instr.sliceAt,Sem.run_bind,run_underlying ht,Result.andThen_ok,Instr.slice,Instr.sliceBounds,Instr.sliceBound,asIntOf,Sem.run_pure,hs];simp[h1,h2,BI,Sem.run_bind,Sem.run_pure]
theorem Ap {t:TypeId}{l:List UInt8}{kd:IntKind}{y:Int}(ht:P.underlying t=some .string)(j:Nat)(hy:y=(j:Int))(h2:j≤l.length)(h:kk (aU (l.take j)) w) :
  eP P t (aU l) none (some (.int kd y)) none w kk:=by
 subst hy;unfold eP;refine ⟨_,w,?_,h⟩;have hs:(⟨l.toArray⟩:ByteArray).size=l.length:=rfl;simp only[aU,Instr.sliceAt,Sem.run_bind,run_underlying ht,Result.andThen_ok,Instr.slice,Instr.sliceBounds,Instr.sliceBound,asIntOf,Sem.run_pure,hs];simp[h2,BI,Sem.run_bind,Sem.run_pure]
end
def da (n:Nat):List UInt8:=if n<10 then [UInt8.ofNat (48+n)] else [UInt8.ofNat (48+n / 10),UInt8.ofNat (48+n % 10)]
def eA (k:Nat):List UInt8:=if k=0 then [102] else if k=1 then [102,100] else if k=2 then [102,114] else [102,100,114]
def gH (x:Nat):UInt8:=if x=0 then 48 else if x=1 then 49 else 45
def vr (ni:Nat)(l:Ln):List UInt8:=eV l.1 l.2.1 ni++32::l.2.2.map gH
def fc (t:Tb):List UInt8:=[46,105,32]++da t.ni++[10,46,111,32]++da t.no++[10,46,116,121,112,101,32]++eA t.kd++[10,46,112,32]++da t.ls.length++[10]
def dW (ni:Nat)(ls:List Ln):List UInt8:=ls.flatMap fun l=>vr ni l++[10]
def ji (t:Tb):List UInt8:=fc t++dW t.ni t.ls++[46,101,10]
theorem Aq (ni:Nat)(ls:List Ln)(l:Ln):dW ni (ls++[l])=dW ni ls++(vr ni l++[10]):=by simp[dW]
theorem jJ {n:Nat}(h:n<100):Lib.decDigits n=da n:=by
 unfold da;split
 ·exact Lib.decDigits_one (by assumption)
 ·exact Lib.decDigits_two (by assumption) h
theorem jK (n:Nat):(da n).length≤2:=by unfold da;split <;> simp
theorem Ft {x:Nat}(h:x<3):(([48,49,45]:List UInt8).take (x+1)).drop x=[gH x]:=by
 rcases (by omega:x=0∨x=1∨x=2) with rfl | rfl | rfl <;> rfl
theorem q9 (k:Nat):(eA k).length≤3:=by unfold eA;split;decide;split;decide;split <;> decide
end Go.Dk
namespace Go.Proofs.YtpjihhgjbbihkaaGreatDoor
open Go.Proofs.Tryz
open Go.Dk
set_option maxRecDepth 100000
attribute [local irreducible] IntKind.wrap
theorem C4 {ni no:Nat}{l:Ln}(h:An ni no l):(vr ni l).length=ni+1+no:=by
 unfold vr;rw[List.length_append,List.length_cons,List.length_map,h.len];simp[eV];omega
theorem q_ {ni no:Nat}(hni:ni≤8)(hno:no≤4):∀ (ls:List Ln),(∀ l ∈ ls,An ni no l)→(dW ni ls).length≤14*ls.length
 | [],_=>by simp[dW]
 | l::ls,h=>by
  have h1:=C4 (h l (.head _));have h2:=q_ hni hno ls fun x hx=>h x (.tail _ hx);have e:dW ni (l::ls)=(vr ni l++[10])++dW ni ls:=by simp[dW]
  rw[e,List.length_append,List.length_append,List.length_cons,List.length_cons,h1];simp only[List.length_nil];omega
theorem C5 {t:Tb}(ht:mL t):(fc t).length≤100:=by
 have h1:=jK t.ni;have h2:=jK t.no;have h3:=jK t.ls.length;have h4:=q9 t.kd;simp[fc];omega
theorem qj {k:Nat}(hk:k≤3):(#[aU [102],aU [102,100],aU [102,114],aU [102,100,114]]:Array Value)[k]?=some (aU (eA k)):=by
 rcases (by omega:k=0∨k=1∨k=2∨k=3) with rfl | rfl | rfl | rfl <;> rfl
abbrev Ky:Array Value:=#[aU [102],aU [102,100],aU [102,114],aU [102,100,114]]
theorem Hr {l:List Nat}{i x:Nat}(h:l[i]?=some x):(ints l)[i]?=some (.int .i64 (x:Int)):=by simp[ints,h]
theorem Mu:enters prog 61=true:=by kernel_rfl
theorem NY (w:World):bt prog 61 [] w fun r w'=>∃ g,r=.slice (some ⟨g,0,none⟩) 4 4∧eX w w' (an g 9 Ky):=by
 refine ar (N:=2) func61 Mu rfl rfl rfl (by simp) ?_;have H:=Hp.aC w;refine H.bg Nj (cs:=Ky) (by decide) (by decide) (by kernel_rfl) ?_;clear H;intro g w1 H;exact ⟨g,rfl,H.out⟩
theorem Mv:enters prog 29=true:=by kernel_rfl
theorem OK {t:Tb}(ht:mL t)(v:Value)(w:World)(hg:jh w)(hA:jF w v t.ls):bt prog 29 [uo t.kd t.ni t.no v] w fun r w'=>r=.tuple #[aU (ji t),.int .i64 0]∧aT w w':=by
 refine ar (N:=75) func29 Mv rfl rfl rfl (by simp) ?_;have H:=Hp.aC w;obtain ⟨B,c,hs,rfl,hSl,hsl,hln⟩:=hA.vn;have hno:=ht.no4;have hni:=ht.ni;have hkd:=ht.kd;have hfew:=ht.few;have hhead:=C5 ht;refine ak (γ:=Nat) (fun g1=>[(1,(ah g1))]) (fun g1 w'=>Hp w ab w' [an g1 33 (dO t.kd t.ni t.no (.slice B t.ls.length c))] []) ?_ ?_
 ·refine H.box 33 _ (cs:=dO t.kd t.ni t.no (.slice B t.ls.length c)) rfl ?_;clear H;intro g1 w1 H;exact ⟨g1,⟨rfl,trivial⟩,H⟩
 clear H;rintro g1 u w1 H;refine aw (fun w'=>Hp w ab w' [an g1 33 (dO t.kd t.ni t.no (.slice B t.ls.length c))] []) ?_ ?_
 ·refine H.ai 0 rfl fB bJ ?_;refine aj (c49 ht _ _ (hA.same H.keeps)) ?_;rintro _ w2 ⟨rfl,hk⟩;replace H:=H.same hk;refine af rfl ?_;exact ⟨(),trivial,H⟩
 clear H;rintro ⟨⟩ u w2 H;refine ak (γ:=Unit) (fun _=>[(4,aU (fc t))]) (fun _ w'=>Hp w ab w' [an g1 33 (dO t.kd t.ni t.no (.slice B t.ls.length c))] []) ?_ ?_
 ·have l1:=jK t.ni;have l2:=jK t.no;have l3:=jK t.ls.length;have l4:=q9 t.kd;refine vO (fun i=>i==14) (fun u=>Hp w ab u [an g1 33 (dO t.kd t.ni t.no (.slice B t.ls.length c))] []) [([2,7,10,14,20],[0,1,2,3,4,5,6,7,8,9,10,11,12,13,14,15,16,17,18,19,20,21,22,23]),([2,7,10,20,14],[0,1,2,3,4,5,6,7,8,9,10,11,12,13,17,18,19,20,14,15,16,21,22,23])] eS (by kernel_rfl) (H.same (aS.drew _)) ?_;replace H:=H.same (aS.drew _);generalize w2.drew=w3 at H;refine List.forall_mem_cons.2 ⟨?_,List.forall_mem_cons.2 ⟨?_,fun z hz=>by cases hz⟩⟩
  ·refine quiet _ (fun w H=>aa (ey _ _) ae) ?_;refine quiet _ (fun w H=>H.load 0 rfl aE rfl ae) ?_;refine aj (vl t.ni (by omega) _) ?_;rintro _ w4 ⟨rfl,hk⟩;rw[jJ (by omega)];replace H:=H.same hk;clear hk;refine ⟨.inl H,?_⟩;refine quiet _ (fun w H=>a7 (a:=[46,105,32]) (b:=da t.ni) (by simp only[List.length_append,List.length_cons,List.length_nil];omega) ae) ?_;refine quiet _ (fun w H=>a7 (a:=([46,105,32]++da t.ni)) (b:=[10,46,111,32]) (by simp only[List.length_append,List.length_cons,List.length_nil];omega) ae) ?_;refine quiet _ (fun w H=>aa (ft _ _) ae) ?_;refine quiet _ (fun w H=>H.load 0 rfl aE rfl ae) ?_;refine aj (vl t.no (by omega) _) ?_;rintro _ w4 ⟨rfl,hk⟩;rw[jJ (by omega)];replace H:=H.same hk;clear hk;refine ⟨.inl H,?_⟩;refine quiet _ (fun w H=>a7 (a:=([46,105,32]++da t.ni++[10,46,111,32])) (b:=da t.no) (by simp only[List.length_append,List.length_cons,List.length_nil];omega) ae) ?_;refine quiet _ (fun w H=>a7 (a:=([46,105,32]++da t.ni++[10,46,111,32]++da t.no)) (b:=[10,46,116,121,112,101,32]) (by simp only[List.length_append,List.length_cons,List.length_nil];omega) ae) ?_;refine aj (NY _) ?_;rintro _ w5 ⟨gk,rfl,hn⟩;replace H:=H.bD hn;clear hn;refine ⟨.inl H.forget,?_⟩;refine quiet _ (fun w H=>aa (ew _ _) ae) ?_;refine quiet _ (fun w H=>H.load 0 rfl aE rfl ae) ?_;refine quiet _ (fun w H=>aq underlying73 pP t.kd rfl (by omega) (o':=t.kd) (by omega) ae) ?_;refine H.load 0 rfl xZ (qj hkd) ?_;refine ⟨.inl H.forget,?_⟩;refine quiet _ (fun w H=>a7 (a:=([46,105,32]++da t.ni++[10,46,111,32]++da t.no++[10,46,116,121,112,101,32])) (b:=eA t.kd) (by simp only[List.length_append,List.length_cons,List.length_nil];omega) ae) ?_;refine quiet _ (fun w H=>a7 (a:=([46,105,32]++da t.ni++[10,46,111,32]++da t.no++[10,46,116,121,112,101,32]++eA t.kd)) (b:=[10,46,112,32]) (by simp only[List.length_append,List.length_cons,List.length_nil];omega) ae) ?_;refine quiet _ (fun w H=>aa (dZ _ _) ae) ?_;refine quiet _ (fun w H=>H.load 0 rfl il rfl ae) ?_;refine quiet _ (fun w H=>ay underlying31 ae) ?_;refine aj (vl t.ls.length (by omega) _) ?_;rintro _ w4 ⟨rfl,hk⟩;rw[jJ (by omega)];replace H:=H.same hk;clear hk;refine ⟨.inl H.forget,?_⟩;refine quiet _ (fun w H=>a7 (a:=([46,105,32]++da t.ni++[10,46,111,32]++da t.no++[10,46,116,121,112,101,32]++eA t.kd++[10,46,112,32])) (b:=da t.ls.length) (by simp only[List.length_append,List.length_cons,List.length_nil];omega) ae) ?_;refine quiet _ (fun w H=>a7 (a:=([46,105,32]++da t.ni++[10,46,111,32]++da t.no++[10,46,116,121,112,101,32]++eA t.kd++[10,46,112,32]++da t.ls.length)) (b:=[10]) (by simp only[List.length_append,List.length_cons,List.length_nil];omega) ae) ?_;exact ⟨(),⟨rfl,trivial⟩,H.forget⟩
  ·refine quiet _ (fun w H=>aa (ey _ _) ae) ?_;refine quiet _ (fun w H=>H.load 0 rfl aE rfl ae) ?_;refine aj (vl t.ni (by omega) _) ?_;rintro _ w4 ⟨rfl,hk⟩;rw[jJ (by omega)];replace H:=H.same hk;clear hk;refine ⟨.inl H,?_⟩;refine quiet _ (fun w H=>a7 (a:=[46,105,32]) (b:=da t.ni) (by simp only[List.length_append,List.length_cons,List.length_nil];omega) ae) ?_;refine quiet _ (fun w H=>a7 (a:=([46,105,32]++da t.ni)) (b:=[10,46,111,32]) (by simp only[List.length_append,List.length_cons,List.length_nil];omega) ae) ?_;refine quiet _ (fun w H=>aa (ft _ _) ae) ?_;refine quiet _ (fun w H=>H.load 0 rfl aE rfl ae) ?_;refine aj (vl t.no (by omega) _) ?_;rintro _ w4 ⟨rfl,hk⟩;rw[jJ (by omega)];replace H:=H.same hk;clear hk;refine ⟨.inl H,?_⟩;refine quiet _ (fun w H=>a7 (a:=([46,105,32]++da t.ni++[10,46,111,32])) (b:=da t.no) (by simp only[List.length_append,List.length_cons,List.length_nil];omega) ae) ?_;refine quiet _ (fun w H=>a7 (a:=([46,105,32]++da t.ni++[10,46,111,32]++da t.no)) (b:=[10,46,116,121,112,101,32]) (by simp only[List.length_append,List.length_cons,List.length_nil];omega) ae) ?_;refine aj (NY _) ?_;rintro _ w5 ⟨gk,rfl,hn⟩;replace H:=H.bD hn;clear hn;refine ⟨.inl H.forget,?_⟩;refine quiet _ (fun w H=>aa (ew _ _) ae) ?_;refine quiet _ (fun w H=>H.load 0 rfl aE rfl ae) ?_;refine quiet _ (fun w H=>aq underlying73 pP t.kd rfl (by omega) (o':=t.kd) (by omega) ae) ?_;refine quiet _ (fun w H=>aa (dZ _ _) ae) ?_;refine quiet _ (fun w H=>H.load 0 rfl il rfl ae) ?_;refine quiet _ (fun w H=>ay underlying31 ae) ?_;refine aj (vl t.ls.length (by omega) _) ?_;rintro _ w4 ⟨rfl,hk⟩;rw[jJ (by omega)];replace H:=H.same hk;clear hk;refine ⟨.inl H.forget,?_⟩;refine H.load 0 rfl xZ (qj hkd) ?_;refine ⟨.inl H.forget,?_⟩;refine quiet _ (fun w H=>a7 (a:=([46,105,32]++da t.ni++[10,46,111,32]++da t.no++[10,46,116,121,112,101,32])) (b:=eA t.kd) (by simp only[List.length_append,List.length_cons,List.length_nil];omega) ae) ?_;refine quiet _ (fun w H=>a7 (a:=([46,105,32]++da t.ni++[10,46,111,32]++da t.no++[10,46,116,121,112,101,32]++eA t.kd)) (b:=[10,46,112,32]) (by simp only[List.length_append,List.length_cons,List.length_nil];omega) ae) ?_;refine quiet _ (fun w H=>a7 (a:=([46,105,32]++da t.ni++[10,46,111,32]++da t.no++[10,46,116,121,112,101,32]++eA t.kd++[10,46,112,32])) (b:=da t.ls.length) (by simp only[List.length_append,List.length_cons,List.length_nil];omega) ae) ?_;refine quiet _ (fun w H=>a7 (a:=([46,105,32]++da t.ni++[10,46,111,32]++da t.no++[10,46,116,121,112,101,32]++eA t.kd++[10,46,112,32]++da t.ls.length)) (b:=[10]) (by simp only[List.length_append,List.length_cons,List.length_nil];omega) ae) ?_;exact ⟨(),⟨rfl,trivial⟩,H.forget⟩
 clear H;rintro ⟨⟩ u w3 H;refine ak (γ:=Unit) (fun _=>[(4,aU (fc t++dW t.ni t.ls))]) (fun _ w'=>aT w w') ?_ ?_
 ·refine aa (dZ _ _) ?_;refine H.load 0 rfl il rfl ?_;refine ay underlying31 ?_;refine ax (γ:=Nat) (fun i=>[(40,.int .i64 (i:Int)),(4,aU (fc t++dW t.ni (t.ls.take i)))]) (fun i w'=>i≤t.ls.length∧Hp w ab w' [an g1 33 (dO t.kd t.ni t.no (.slice B t.ls.length c))] []) (fun i=>t.ls.length - i) 0 ⟨rfl,congrArg aU (by rw[show dW t.ni (t.ls.take 0)=[] from rfl,List.append_nil]:fc t=fc t++dW t.ni (t.ls.take 0)),trivial⟩ ⟨Nat.zero_le _,H⟩ ?_;clear H;rintro i u w4 ⟨hi,H⟩;have hbl:(dW t.ni (t.ls.take i)).length≤14*64:=by
   have h:=q_ hni hno (t.ls.take i) fun l hl=>ht.ls l (List.mem_of_mem_take hl);rw[List.length_take] at h;omega
  refine au (fun h7=>?_) (fun h7=>?_)
  ·have hil:i<t.ls.length:=by omega
   obtain ⟨l,hl,hlm⟩:∃ l,t.ls[i]?=some l∧l ∈ t.ls:=⟨_,List.getElem?_eq_getElem hil,List.getElem_mem hil⟩;obtain ⟨B',c',hhd,hos⟩:=hln i l hl;have hok:=ht.ls l hlm;have hol:=hok.len;obtain ⟨s1,s2,s3⟩:=l_ ht.ni hok;obtain ⟨gA,oA,rfl⟩:=hSl.A (by omega);obtain ⟨gO,oO,rfl⟩:=hos.A (by have:=ht.no1;omega);have htk:t.ls.take (i+1)=t.ls.take i++[l]:=by rw[List.take_add_one,hl];rfl
   have htl:(eV l.1 l.2.1 t.ni).length=t.ni:=by simp[eV]
   refine ak (γ:=Unit) (fun _=>[(4,aU (fc t++dW t.ni (t.ls.take (i+1))))]) (fun _ w'=>Hp w ab w' [an g1 33 (dO t.kd t.ni t.no (.slice (some ⟨gA,oA,none⟩) t.ls.length c))] []) ?_ ?_
   ·refine ak (γ:=Nat) (fun g9=>[(6,(ah g9))]) (fun g9 w'=>Hp w ab w' [an g9 77 (fH l.1 l.2.1 (.slice (some ⟨gO,oO,none⟩) l.2.2.length c')),an g1 33 (dO t.kd t.ni t.no (.slice (some ⟨gA,oA,none⟩) t.ls.length c))] []) ?_ ?_
    ·refine aq underlying31 cY i rfl hil (o':=oA+i*3) (by omega) ?_;refine Sl.cI H hSl ik l9 cY i rfl hhd ?_;refine H.alloc 77 (cs:=fH 0 0 (.slice none 0 0)) lB rfl ?_;clear H;intro g4 w4 H;refine H.storeAll 0 rfl cY rfl (eM (m:=l.1) (v:=l.2.1)) ?_;clear H;intro w5 H;exact ⟨g4,⟨rfl,trivial⟩,H⟩
    clear H;rintro g9 u w4 H;refine ak (γ:=Unit) (fun _=>[(7,aU (eV l.1 l.2.1 t.ni))]) (fun _ w'=>Hp w ab w' [an g9 77 (fH l.1 l.2.1 (.slice (some ⟨gO,oO,none⟩) l.2.2.length c')),an g1 33 (dO t.kd t.ni t.no (.slice (some ⟨gA,oA,none⟩) t.ls.length c))] []) ?_ ?_
    ·refine aa (wT _) ?_;refine fE (H.get 0 rfl) (cc l.1 l.2.1).toList bw aO (sj _ _ _) ?_;refine aa (ey _ _) ?_;refine H.load 1 rfl aE rfl ?_;refine aj (Lq l.1 l.2.1 s1 s2 t.ni hni s3 _) ?_;rintro _ w5 ⟨rfl,hk⟩;exact ⟨(),⟨rfl,trivial⟩,H.same hk⟩
    clear H;rintro ⟨⟩ u w5 H;refine ak (γ:=Unit) (fun _=>[(4,aU (fc t++dW t.ni (t.ls.take i)++(eV l.1 l.2.1 t.ni++[32])))]) (fun _ w'=>Hp w ab w' [an g9 77 (fH l.1 l.2.1 (.slice (some ⟨gO,oO,none⟩) l.2.2.length c')),an g1 33 (dO t.kd t.ni t.no (.slice (some ⟨gA,oA,none⟩) t.ls.length c))] []) ?_ ?_
    ·refine a7 (a:=eV l.1 l.2.1 t.ni) (b:=[32]) (by rw[htl];simp only[List.length_cons,List.length_nil];omega) ?_;refine a7 (a:=fc t++dW t.ni (t.ls.take i)) (by simp only[List.length_append,List.length_cons,List.length_nil,htl];omega) ?_;exact ⟨(),⟨rfl,trivial⟩,H⟩
    clear H;rintro ⟨⟩ u w6 H;refine ak (γ:=Unit) (fun _=>[(4,aU (fc t++dW t.ni (t.ls.take i)++(eV l.1 l.2.1 t.ni++[32])++l.2.2.map gH))]) (fun _ w'=>Hp w ab w' [an g9 77 (fH l.1 l.2.1 (.slice (some ⟨gO,oO,none⟩) l.2.2.length c')),an g1 33 (dO t.kd t.ni t.no (.slice (some ⟨gA,oA,none⟩) t.ls.length c))] []) ?_ ?_
    ·refine aa (eE _) ?_;refine H.load 0 rfl fq rfl ?_;refine ay underlying75 ?_;refine ax (γ:=Nat) (fun j=>[(59,.int .i64 (j:Int)),(4,aU (fc t++dW t.ni (t.ls.take i)++(eV l.1 l.2.1 t.ni++[32])++(l.2.2.take j).map gH))]) (fun j w'=>j≤l.2.2.length∧Hp w ab w' [an g9 77 (fH l.1 l.2.1 (.slice (some ⟨gO,oO,none⟩) l.2.2.length c')),an g1 33 (dO t.kd t.ni t.no (.slice (some ⟨gA,oA,none⟩) t.ls.length c))] []) (fun j=>l.2.2.length - j) 0 ⟨rfl,congrArg aU (by rw[List.take_zero,List.map_nil,List.append_nil]:fc t++dW t.ni (t.ls.take i)++(eV l.1 l.2.1 t.ni++[32])=fc t++dW t.ni (t.ls.take i)++(eV l.1 l.2.1 t.ni++[32])++(l.2.2.take 0).map gH),trivial⟩ ⟨Nat.zero_le _,H⟩ ?_;clear H;rintro j u w7 ⟨hj,H⟩;refine au (fun h9=>?_) (fun h9=>?_)
     ·have hjl:j<l.2.2.length:=by omega
      obtain ⟨x,hx,hxm⟩:∃ x,l.2.2[j]?=some x∧x ∈ l.2.2:=⟨_,List.getElem?_eq_getElem hjl,List.getElem_mem hjl⟩;have hx3:=hok.marks x hxm;have hjk:l.2.2.take (j+1)=l.2.2.take j++[x]:=by rw[List.take_add_one,hx];rfl
      refine ak (γ:=Unit) (fun _=>[(4,aU (fc t++dW t.ni (t.ls.take i)++(eV l.1 l.2.1 t.ni++[32])++(l.2.2.take (j+1)).map gH))]) (fun _ w'=>Hp w ab w' [an g9 77 (fH l.1 l.2.1 (.slice (some ⟨gO,oO,none⟩) l.2.2.length c')),an g1 33 (dO t.kd t.ni t.no (.slice (some ⟨gA,oA,none⟩) t.ls.length c))] []) ?_ ?_
      ·refine ak (γ:=Unit) (fun _=>[(10,.int .i64 (x:Int))]) (fun _ w'=>Hp w ab w' [an g9 77 (fH l.1 l.2.1 (.slice (some ⟨gO,oO,none⟩) l.2.2.length c')),an g1 33 (dO t.kd t.ni t.no (.slice (some ⟨gA,oA,none⟩) t.ls.length c))] []) ?_ ?_
       ·refine aq underlying75 a_ j rfl (by omega) (o':=oO+j) (by omega) ?_;refine aB aE (((hos.same H.keeps).cell j (by omega)).trans (Hr hx)) ?_;exact ⟨(),⟨rfl,trivial⟩,H⟩
       clear H;rintro ⟨⟩ u w8 H;refine q8 (l:=[48,49,45]) underlying9 x (x+1) rfl (aH (by omega) (by omega)) (by omega) (by simp only[List.length_cons,List.length_nil];omega) ?_;rw[Ft hx3];refine a7 (a:=fc t++dW t.ni (t.ls.take i)++(eV l.1 l.2.1 t.ni++[32])++(l.2.2.take j).map gH) (by simp only[List.length_append,List.length_cons,List.length_nil,List.length_map,List.length_take,htl];omega) ?_;have e:fc t++dW t.ni (t.ls.take i)++(eV l.1 l.2.1 t.ni++[32])++(l.2.2.take j).map gH++[gH x]=fc t++dW t.ni (t.ls.take i)++(eV l.1 l.2.1 t.ni++[32])++(l.2.2.take (j+1)).map gH:=by rw[hjk,List.map_append];exact List.append_assoc _ _ _
       exact ⟨(),⟨congrArg aU e,trivial⟩,H⟩
      ·clear H;rintro ⟨⟩ u w8 H;exact ⟨j+1,by show l.2.2.length - (j+1)<l.2.2.length - j;omega,⟨up (by omega),rfl,trivial⟩,by show j+1≤l.2.2.length;omega,H⟩
     ·obtain rfl:j=l.2.2.length:=by omega
      exact ⟨(),⟨congrArg aU (by rw[List.take_length]:fc t++dW t.ni (t.ls.take i)++(eV l.1 l.2.1 t.ni++[32])++(l.2.2.take l.2.2.length).map gH=fc t++dW t.ni (t.ls.take i)++(eV l.1 l.2.1 t.ni++[32])++l.2.2.map gH),trivial⟩,H⟩
    clear H;rintro ⟨⟩ u w7 H;refine a7 (a:=fc t++dW t.ni (t.ls.take i)++(eV l.1 l.2.1 t.ni++[32])++l.2.2.map gH) (b:=[10]) (by simp only[List.length_append,List.length_cons,List.length_nil,List.length_map,htl];omega) ?_;have e:fc t++dW t.ni (t.ls.take i)++(eV l.1 l.2.1 t.ni++[32])++l.2.2.map gH++[10]=fc t++dW t.ni (t.ls.take (i+1)):=by
     rw[htk,Aq];unfold vr;simp only[List.append_assoc,List.cons_append,List.nil_append]
    exact ⟨(),⟨congrArg aU e,trivial⟩,H.forget⟩
   ·clear H;rintro ⟨⟩ u w5 H;exact ⟨i+1,by show t.ls.length - (i+1)<t.ls.length - i;omega,⟨up (by omega),rfl,trivial⟩,by show i+1≤t.ls.length;omega,H⟩
  ·obtain rfl:i=t.ls.length:=by omega
   exact ⟨(),⟨congrArg aU (by rw[List.take_length]:fc t++dW t.ni (t.ls.take t.ls.length)=fc t++dW t.ni t.ls),trivial⟩,H.keeps⟩
 clear H;rintro ⟨⟩ u w4 hk;have hbl:=q_ hni hno t.ls ht.ls;refine a7 (a:=fc t++dW t.ni t.ls) (b:=[46,101,10]) (by simp only[List.length_append,List.length_cons,List.length_nil];omega) ?_;exact ⟨rfl,hk⟩
end Go.Proofs.YtpjihhgjbbihkaaGreatDoor
namespace Go.Dk
theorem Ht {l:List UInt8}{n:Int}(h:Lib.atoiAll l=.ok n):-9223372036854775808≤n∧n≤9223372036854775807:=by
 unfold Lib.atoiAll at h;split at h
 ·cases h
 ·simp only at h;split at h
  ·cases h
  ·cases h
  ·split at h
   ·cases h
   ·split at h
    ·cases h
    ·injection h with h;subst h;split <;> omega
def d_ (wd:List UInt8)(lo hi:Nat)(line:List UInt8):Int:=
 match (List.range (hi+1)).find? (fun n=>decide (lo≤n)&&(line==wd++32::da n)) with
 | some n=>n
 | none=> -1
theorem Fu {n m:Nat}(hn:n<65)(hm:m<65)(h:da n=da m):n=m:=by
 have key:((List.range 65).all fun n=>(List.range 65).all fun m=>n==m||da n !=da m)=true:=by decide +kernel
 rw[List.all_eq_true] at key;have:=key n (List.mem_range.2 hn);rw[List.all_eq_true] at this;have:=this m (List.mem_range.2 hm);rw[Bool.or_eq_true,beq_iff_eq,bne_iff_ne] at this;exact this.resolve_right fun hh=>hh h
theorem C6 {n:Nat}(hn:n<65):Lib.atoiAll (da n)=.ok (n:Int):=by
 have key:((List.range 65).all fun n=>match Lib.atoiAll (da n) with | .ok m=>m==(n:Int) | _=>false)=true:=by decide +kernel
 rw[List.all_eq_true] at key;have:=key n (List.mem_range.2 hn);split at this
 ·rename_i m hm;rw[hm,beq_iff_eq.1 this]
 ·cases this
theorem BJ {wd:List UInt8}{lo hi n:Nat}{line:List UInt8}(hhi:hi<65)(h1:lo≤n)(h2:n≤hi)(h:line=wd++32::da n):d_ wd lo hi line=n:=by
 unfold d_
 cases hf:(List.range (hi+1)).find? (fun n=>decide (lo≤n)&&(line==wd++32::da n)) with
 | none=>
  have:=List.find?_eq_none.1 hf n (List.mem_range.2 (by omega));simp[h1,h] at this
 | some m=>
  have h3:=List.find?_some hf;have h4:=List.mem_range.1 (List.mem_of_find?_eq_some hf);simp only[Bool.and_eq_true,decide_eq_true_eq,beq_iff_eq] at h3;have h5:=h3.2;rw[h] at h5;have h5:=List.append_cancel_left h5;injection h5 with _ h5;have:=Fu (by omega) (by omega) h5;subst this;rfl
theorem vt {wd:List UInt8}{lo hi:Nat}{line:List UInt8}(h:∀ n,lo≤n→n≤hi→line≠wd++32::da n):d_ wd lo hi line= -1:=by
 unfold d_;have:(List.range (hi+1)).find? (fun n=>decide (lo≤n)&&(line==wd++32::da n))=none:=by
  rw[List.find?_eq_none];intro n hn;have:=List.mem_range.1 hn;intro hh;simp only[Bool.and_eq_true,decide_eq_true_eq,beq_iff_eq] at hh;exact h n hh.1 (by omega) hh.2
 rw[this]
theorem vu {wd:List UInt8}{lo hi:Nat}{line:List UInt8}(h:0≤d_ wd lo hi line):∃ n,lo≤n∧n≤hi∧d_ wd lo hi line=n∧line=wd++32::da n:=by
 unfold d_ at h ⊢
 cases hf:(List.range (hi+1)).find? (fun n=>decide (lo≤n)&&(line==wd++32::da n)) with
 | none=>rw[hf] at h;exact absurd h (by decide)
 | some m=>
  have h3:=List.find?_some hf;have h4:=List.mem_range.1 (List.mem_of_find?_eq_some hf);simp only[Bool.and_eq_true,decide_eq_true_eq,beq_iff_eq] at h3;exact ⟨m,h3.1,by omega,rfl,h3.2⟩
theorem vw {l p:List UInt8}(h:Lib.hasPrefix l p=true):l=p++l.drop p.length:=by
 obtain ⟨t,rfl⟩:=List.isPrefixOf_iff_prefix.1 h;simp
theorem C7 {wd:List UInt8}{lo hi:Nat}(hhi:hi<65){line:List UInt8}{n:Int}(hp:Lib.hasPrefix line (wd++[32])=true)(he:Lib.atoiAll (line.drop (wd++[32]).length)=.ok n)(hit:Lib.itoa n=line.drop (wd++[32]).length)(h1:(lo:Int)≤n)(h2:n≤(hi:Int)):d_ wd lo hi line=n:=by
 obtain ⟨k,rfl⟩:∃ k:Nat,n=k:=⟨n.toNat,by omega⟩;have hl:=vw hp;rw[Lib.itoa_nonneg,jJ (by omega)] at hit;rw[← hit] at hl;exact BJ hhi (by omega) (by omega) (by rw[hl];simp)
theorem mf {wd:List UInt8}{lo hi:Nat}(hhi:hi<65){line:List UInt8}(h:∀ n,Lib.hasPrefix line (wd++[32])=true→Lib.atoiAll (line.drop (wd++[32]).length)=.ok (n:Int)→(line.drop (wd++[32]).length).length≤2→Lib.itoa n=line.drop (wd++[32]).length→(lo:Int)≤n→n≤(hi:Int)→False):d_ wd lo hi line= -1:=by
 refine vt fun n h1 h2 hl=>?_;have hd:line.drop (wd++[32]).length=da n:=by rw[hl];simp
 refine h n ?_ ?_ ?_ ?_ (by omega) (by omega)
 ·rw[hl];exact List.isPrefixOf_iff_prefix.2 ⟨da n,by simp⟩
 ·rw[hd];exact C6 (by omega)
 ·rw[hd];exact jK n
 ·rw[hd,Lib.itoa_nonneg,jJ (by omega)]
end Go.Dk
namespace Go.Proofs.YtpjihhgjbbihkaaGreatDoor
open Go.Proofs.Tryz
open Go.Dk
set_option maxRecDepth 100000
attribute [local irreducible] IntKind.wrap
theorem kN {x:Nat}{w:World}{kk:Value→World→Prop}(h:kk (.bool false) w):cU prog .neq 155 (.tmp x) (.const .nilIface) .nilIface .nilIface w kk:=by
 unfold cU;refine ⟨_,w,?_,h⟩
 kernel_rfl
theorem As {x:Nat}{N:Nat}{w:World}{kk:Value→World→Prop}(h:kk (.bool true) w):cU prog .neq 155 (.tmp x) (.const .nilIface) (.iface 234 (ah N)) .nilIface w kk:=by
 unfold cU;refine ⟨_,w,?_,h⟩
 kernel_rfl
theorem Mw:enters prog 72=true:=by kernel_rfl
set_option maxHeartbeats 4000000 in
theorem c72 (line wd:List UInt8)(hl:line.length≤100000)(hw:wd.length≤10)(lo hi:Nat)(hhi:hi<65)(w:World)(hg:jh w):bt prog 72 [aU line,aU wd,.int .i64 (lo:Int),.int .i64 (hi:Int)] w fun r w'=>r=.int .i64 (d_ wd lo hi line)∧aT w w':=by
 refine ar (N:=53) func72 Mw rfl rfl rfl (by simp) ?_;have H:=Hp.aC w;refine ak (γ:=Unit) (fun _=>[(8,.int .i64 0)]) (fun _ w'=>Hp w ab w' [] []) ⟨(),⟨rfl,trivial⟩,H⟩ ?_;clear H;rintro ⟨⟩ u w1 H;refine ak (γ:=Unit) (fun _=>[(9,aU (Lib.trimPrefix line (wd++[32]))),(10,.bool (Lib.hasPrefix line (wd++[32])))]) (fun _ w'=>Hp w ab w' [] []) ?_ ?_
 ·refine a7 (b:=[32]) (by simp only[List.length_cons,List.length_nil];omega) ?_;refine aj (Ok _ _ _) ?_;rintro _ w2 ⟨rfl,hk⟩;exact ⟨(),⟨rfl,rfl,trivial⟩,H.same hk⟩
 clear H;rintro ⟨⟩ u w2 H;have htl:(Lib.trimPrefix line (wd++[32])).length≤100000:=by
  unfold Lib.trimPrefix;split
  ·rw[List.length_drop];omega
  ·exact hl
 have hrest:Lib.hasPrefix line (wd++[32])=true→Lib.trimPrefix line (wd++[32])=line.drop (wd++[32]).length:=fun hp=>by unfold Lib.trimPrefix;rw[if_pos hp]
 generalize Lib.trimPrefix line (wd++[32])=rest at htl hrest;refine ak (γ:=Int × Value) (fun (n,ev)=>[(11,.int .i64 n),(12,ev)]) (fun (n,ev) w'=>((Lib.atoiAll rest=.ok n∧ev=.nilIface)∨((∀ m,Lib.atoiAll rest≠.ok m)∧∃ N,ev=.iface 234 (ah N)))∧Hp w ab w' [] []) ?_ ?_
 ·refine aj (OD rest (by omega) _ (hg.same H.keeps)) ?_;rintro _ w3 ⟨n,ev,rfl,hc,hk⟩;rcases hc with ⟨hat,rfl⟩ | ⟨hat,N,rfl⟩
  ·exact ⟨(n,_),⟨rfl,rfl,trivial⟩,.inl ⟨hat,rfl⟩,H.same hk⟩
  ·exact ⟨(n,_),⟨rfl,rfl,trivial⟩,.inr ⟨hat,N,rfl⟩,H.same hk⟩
 clear H;rintro ⟨n,ev⟩ u w3 ⟨hc,H⟩
 cases hp:Lib.hasPrefix line (wd++[32]) with
 | false=>
  have hn:=mf (wd:=wd) (lo:=lo) hhi (line:=line) fun n h=>absurd (hp.symm.trans h) (by simp)
  iterate 21 refine ag rfl ?_
  exact ⟨by rw[hn];rfl,H.keeps⟩
 | true=>
  replace hrest:=hrest hp;subst hrest;have hsz:(⟨(line.drop (wd++[32]).length).toArray⟩:ByteArray).size=(line.drop (wd++[32]).length).length:=rfl;generalize hq:line.drop (wd++[32]).length=q at hsz hc htl;rcases hc with ⟨hat,rfl⟩ | ⟨hat,N,rfl⟩
  ·obtain ⟨b1,b2⟩:=Ht hat;by_cases hlen:((⟨q.toArray⟩:ByteArray).size:Int)>2
   ·have hn:=mf (wd:=wd) (lo:=lo) hhi (line:=line) fun m _ _ h _ _ _=>by rw[hq] at h;omega
    iterate 2 refine af rfl ?_
    refine kN ?_
    iterate 3 refine af rfl ?_
    refine dY underlying9 ?_
    iterate 2 refine af rfl ?_
    iterate 5 refine ag (decide_eq_true (by assumption)) ?_
    iterate 9 refine ag rfl ?_
    exact ⟨by rw[hn];rfl,H.keeps⟩
   ·cases hit:(Lib.itoa n==q) with
    | false=>
     have hn:=mf (wd:=wd) (lo:=lo) hhi (line:=line) fun m _ h1 _ h2 _ _=>by
      rw[hq] at h1 h2;rw[hat] at h1;injection h1 with h1;rw[← h1] at h2;rw[h2] at hit;simp at hit
     iterate 2 refine af rfl ?_
     refine kN ?_
     iterate 3 refine af rfl ?_
     refine dY underlying9 ?_
     iterate 2 refine af rfl ?_
     iterate 2 refine af (decide_eq_false (by assumption)) ?_
     refine aj (M7 n b1 b2 _ (hg.same H.keeps)) ?_;rintro _ w15 ⟨rfl,hk⟩;replace H:=H.same hk;clear hk
     iterate 2 refine af (decide_eq_false (by assumption)) ?_
     refine gE ?_;refine af (decide_eq_false (by assumption)) ?_
     iterate 4 refine ag (by rw[hit];rfl) ?_
     iterate 5 refine ag rfl ?_
     exact ⟨by rw[hn];rfl,H.keeps⟩
    | true=>
     by_cases h1:n<(lo:Int)
     ·have hn:=mf (wd:=wd) (lo:=lo) hhi (line:=line) fun m _ h3 _ _ h2 _=>by
       rw[hq,hat] at h3;injection h3 with h3;omega
      iterate 2 refine af rfl ?_
      refine kN ?_
      iterate 3 refine af rfl ?_
      refine dY underlying9 ?_
      iterate 2 refine af rfl ?_
      iterate 2 refine af (decide_eq_false (by assumption)) ?_
      refine aj (M7 n b1 b2 _ (hg.same H.keeps)) ?_;rintro _ w15 ⟨rfl,hk⟩;replace H:=H.same hk;clear hk
      iterate 2 refine af (decide_eq_false (by assumption)) ?_
      refine gE ?_;refine af (decide_eq_false (by assumption)) ?_
      iterate 4 refine af (by rw[hit];rfl) ?_
      iterate 4 refine ag (decide_eq_true (by assumption)) ?_
      refine ag rfl ?_;exact ⟨by rw[hn];rfl,H.keeps⟩
     ·by_cases h2:n>(hi:Int)
      ·have hn:=mf (wd:=wd) (lo:=lo) hhi (line:=line) fun m _ h3 _ _ _ h2=>by
        rw[hq,hat] at h3;injection h3 with h3;omega
       iterate 2 refine af rfl ?_
       refine kN ?_
       iterate 3 refine af rfl ?_
       refine dY underlying9 ?_
       iterate 2 refine af rfl ?_
       iterate 2 refine af (decide_eq_false (by assumption)) ?_
       refine aj (M7 n b1 b2 _ (hg.same H.keeps)) ?_;rintro _ w15 ⟨rfl,hk⟩;replace H:=H.same hk;clear hk
       iterate 2 refine af (decide_eq_false (by assumption)) ?_
       refine gE ?_;refine af (decide_eq_false (by assumption)) ?_
       iterate 4 refine af (by rw[hit];rfl) ?_
       iterate 4 refine af (decide_eq_false (by assumption)) ?_
       refine ag (decide_eq_true (by assumption)) ?_;exact ⟨by rw[hn];rfl,H.keeps⟩
      ·have hn:=C7 (lo:=lo) hhi hp (by rw[hq];exact hat) (by rw[hq];exact beq_iff_eq.1 hit) (by omega) (by omega)
       iterate 2 refine af rfl ?_
       refine kN ?_
       iterate 3 refine af rfl ?_
       refine dY underlying9 ?_
       iterate 2 refine af rfl ?_
       iterate 2 refine af (decide_eq_false (by assumption)) ?_
       refine aj (M7 n b1 b2 _ (hg.same H.keeps)) ?_;rintro _ w15 ⟨rfl,hk⟩;replace H:=H.same hk;clear hk
       iterate 2 refine af (decide_eq_false (by assumption)) ?_
       refine gE ?_;refine af (decide_eq_false (by assumption)) ?_
       iterate 4 refine af (by rw[hit];rfl) ?_
       iterate 5 refine af (decide_eq_false (by assumption)) ?_
       exact ⟨by rw[hn];rfl,H.keeps⟩
  ·have hn:=mf (wd:=wd) (lo:=lo) hhi (line:=line) fun m _ h _ _ _ _=>hat m (by rw[← hq];exact h)
   iterate 2 refine af rfl ?_
   refine As ?_;refine af rfl ?_
   iterate 18 refine ag rfl ?_
   exact ⟨by rw[hn];rfl,H.keeps⟩
structure Rd where
 kd:Nat
 ni:Nat
 no:Nat
 st:Nat
 told:Int
 ls:List Ln
def mg (ni no:Nat)(a b:List UInt8)(ok:Bool):Bool:=ok&&bl a&&(a.length==ni)&&(b.length==no)
def kR (ni no:Nat)(line:List UInt8):Option Ln:=
 if mg ni no (Lib.cut line [32]).1 (Lib.cut line [32]).2.1 (Lib.cut line [32]).2.2=true∧(Lib.cut line [32]).2.1.all gL=true then
  some (dJ (Lib.cut line [32]).1 (Lib.cut line [32]).1.length,dK (Lib.cut line [32]).1 (Lib.cut line [32]).1.length,(Lib.cut line [32]).2.1.map bM)
 else none
def KY (kd ni no:Int)(v:Value)(st told:Int):Array Value:=#[.int .i64 kd,.int .i64 ni,.int .i64 no,v,.int .i64 st,.int .i64 told]
abbrev oV (g:Nat)(s:Rd)(v:Value)(hs:List Hd)(S:Nat→Prop):List cC:=[an g 100 (KY s.kd s.ni s.no v s.st s.told),own 77 3 v s.ls.length (flat kL hs),qw S hs s.ls]
def nN (g:Nat)(s:Rd)(v:Value)(hs:List Hd)(S:Nat→Prop):cC:=rS (oV g s v hs S)
theorem Mx {g:Nat}{s:Rd}{v:Value}{hs:List Hd}{S:Nat→Prop}{w:World}(h:(nN g s v hs S).ok w):∀ x,(nN g s v hs S).foot x→x<w.heap.size:=fun x ⟨q,hq,hx⟩=>h.2.1 q hq x hx
theorem ql {g:Nat}{s:Rd}{v:Value}{hs:List Hd}{S:Nat→Prop}{w:World}(h:(nN g s v hs S).ok w):Hp w (nN g s v hs S).foot w (oV g s v hs S) []:=
 (Hp.Iv h (Mx h)).split
theorem jo {g:Nat}{s:Rd}{v:Value}{hs:List Hd}{S:Nat→Prop}{w0 w:World}{F:Nat→Prop}{L M:List cC}(H:Hp w0 F w (an g 100 (KY s.kd s.ni s.no v s.st s.told)::own 77 3 v s.ls.length (flat kL hs)::qw S hs s.ls::L) M):Hp w0 F w (nN g s v hs S::L) M:=
 Hp.join (Ls:=oV g s v hs S) H
theorem _root_.Go.Dk.Hp.Fv {w0 w:World}{F:Nat→Prop}{L M:List cC}{S:Nat→Prop}{hs:List Hd}{Q:List Ln}{v:Value}{l:Ln}(H:Hp w0 F w (own 3 1 v l.2.2.length (ints l.2.2)::qw S hs Q::L) M) :
  ∃ S',Hp w0 F w (qw S' (hs++[(l.1,l.2.1,v)]) (Q++[l])::L) M:=by
 have hown:=H.get 0 rfl;have hrow:=H.get 1 rfl;have H2:=Hp.join (Ls:=[own 3 1 v l.2.2.length (ints l.2.2),qw S hs Q]) H;refine ⟨(rS [own 3 1 v l.2.2.length (ints l.2.2),qw S hs Q]).foot,H2.re (fun _=>?_) fun g hg=>hg⟩;obtain ⟨A,c,rfl,_⟩:=e9 hown;exact lA.snoc (lA.mono hrow fun g hg=>⟨_,.tail _ (.head _),hg⟩) ⟨rfl,rfl,A,c,rfl,sl.mono (iv hown) fun g hg=>⟨_,.head _,hg⟩⟩
theorem fu (g:Nat)(w:World):(Instr.fieldAt 100 (ah g) 0).run prog w=.ok (ah g) w:=by kernel_rfl
theorem g_ (g:Nat)(w:World):(Instr.fieldAt 100 (ah g) 1).run prog w=.ok (.pointer (some ⟨g,4,none⟩)) w:=by kernel_rfl
theorem wW (g:Nat)(w:World):(Instr.fieldAt 100 (ah g) 2).run prog w=.ok (.pointer (some ⟨g,5,none⟩)) w:=by kernel_rfl
theorem tR {l:List UInt8}{i:Nat}(hi:i<l.length):(l.take (i+1)).map bM=(l.take i).map bM++[bM l[i]]:=by
 rw[List.take_add_one,List.getElem?_eq_getElem hi,List.map_append];rfl
theorem My:enters prog 74=true:=by kernel_rfl
set_option maxHeartbeats 4000000 in
theorem OL (line:List UInt8)(hl:line.length≤100000)(g:Nat)(s:Rd)(hls:s.ls.length≤64)(v:Value)(hs:List Hd)(S:Nat→Prop)(w:World)(hg:jh w)(hgd:∀ x,Ku x→¬ (nN g s v hs S).foot x)(hR:(nN g s v hs S).ok w) :
  bt prog 74 [(ah g),aU line] w fun r w'=>
   (kR s.ni s.no line=none∧r=.bool false∧∃ R',jA w w' (nN g s v hs S) R')∨
   (∃ l v' hs' S',kR s.ni s.no line=some l∧r=.bool true∧jA w w' (nN g s v hs S) (nN g { s with ls:=s.ls++[l] } v' hs' S')):=by
 refine ar (N:=88) func74 My rfl rfl rfl (by simp) ?_;obtain ⟨A0,c0,rfl,hc0⟩:=e9 ((ql hR).get 1 rfl);have H:=ql hR;have hgu:∀ u L M,Hp w (nN g s (.slice A0 s.ls.length c0) hs S).foot u L M→jh u:=fun u L M H=>hg.bP fun x hx=>H.keeps.old x (hg.lt x hx) (hgd x hx);have hcl1:(Lib.cut line [32]).1.length≤100000:=by
  unfold Lib.cut;split
  ·exact Nat.le_trans (List.length_take_le' _ _) hl
  ·exact hl
 have hcl2:(Lib.cut line [32]).2.1.length≤100000:=by
  unfold Lib.cut;split
  ·show (List.drop _ _).length≤_;rw[List.length_drop];omega
  ·exact Nat.zero_le _
 have hrow:kR s.ni s.no line=if mg s.ni s.no (Lib.cut line [32]).1 (Lib.cut line [32]).2.1 (Lib.cut line [32]).2.2=true∧(Lib.cut line [32]).2.1.all gL=true then some (dJ (Lib.cut line [32]).1 (Lib.cut line [32]).1.length,dK (Lib.cut line [32]).1 (Lib.cut line [32]).1.length,(Lib.cut line [32]).2.1.map bM) else none:=rfl;have hcut:=NW line [32] (by omega);generalize Lib.cut line [32]=q at hcl1 hcl2 hrow hcut;obtain ⟨a,b,ok⟩:=q;simp only at hcl1 hcl2 hrow hcut;refine ak (γ:=Unit) (fun _=>[(4,.bool false)]) (fun _ w'=>Hp w (nN g s (.slice A0 s.ls.length c0) hs S).foot w' (oV g s (.slice A0 s.ls.length c0) hs S) []) ⟨(),⟨rfl,trivial⟩,H⟩ ?_;clear H;rintro ⟨⟩ u w1 H;refine ak (γ:=Unit) (fun _=>[(5,aU a),(6,aU b),(7,.bool ok)]) (fun _ w'=>Hp w (nN g s (.slice A0 s.ls.length c0) hs S).foot w' (oV g s (.slice A0 s.ls.length c0) hs S) []) ?_ ?_
 ·refine aj (hcut _ (hgu _ _ _ H)) ?_;rintro _ w2 ⟨rfl,hk⟩;exact ⟨(),⟨rfl,rfl,rfl,trivial⟩,H.same hk⟩
 clear H hcut;rintro ⟨⟩ u w2 H;refine ak (γ:=Nat) (fun g8=>[(8,(ah g8)),(9,.int .i64 (if bl a then 0 else 2))]) (fun g8 w'=>Hp w (nN g s (.slice A0 s.ls.length c0) hs S).foot w' (an g8 48 (cc (if bl a then dJ a a.length else 0) (if bl a then dK a a.length else 0))::oV g s (.slice A0 s.ls.length c0) hs S) []) ?_ ?_
 ·refine aj (Nk a (by omega) _) ?_;rintro _ w3 ⟨rfl,hk⟩;replace H:=H.same hk;clear hk;have e:je a=cv (if bl a then dJ a a.length else 0) (if bl a then dK a a.length else 0):=by unfold je;split <;> rfl
  rw[e];refine H.alloc 48 (cs:=cc 0 0) fa rfl ?_;clear H;intro g8 w4 H;refine H.bQ 0 rfl ?_;clear H;intro w5 H;exact ⟨g8,⟨rfl,rfl,trivial⟩,H⟩
 clear H;rintro g8 u w3 H;have hbad:mg s.ni s.no a b ok=false→kR s.ni s.no line=none:=fun h=>by rw[hrow,h,if_neg (by simp)]
 have hout:∀ (u:World) (L:List cC),Hp w (nN g s (.slice A0 s.ls.length c0) hs S).foot u (oV g s (.slice A0 s.ls.length c0) hs S++L) []→∃ R',jA w u (nN g s (.slice A0 s.ls.length c0) hs S) R':=fun u L H=>⟨_,(jo H).bc⟩;refine aw (fun w'=>mg s.ni s.no a b ok=true∧Hp w (nN g s (.slice A0 s.ls.length c0) hs S).foot w' (an g8 48 (cc (if bl a then dJ a a.length else 0) (if bl a then dK a a.length else 0))::oV g s (.slice A0 s.ls.length c0) hs S) []) ?_ ?_
 ·have hsa:(⟨a.toArray⟩:ByteArray).size=a.length:=gQ a;have hsb:(⟨b.toArray⟩:ByteArray).size=b.length:=gQ b
  cases ok with
  | false=>
   have hr:=hbad rfl
   iterate 22 refine ag rfl ?_
   exact .inl ⟨hr,rfl,hout _ [] H.forget⟩
  | true=>
   cases hpa:bl a with
   | false=>
    have hr:=hbad (by unfold mg;rw[hpa];rfl)
    iterate 3 refine af rfl ?_
    iterate 19 refine ag rfl ?_
    exact .inl ⟨hr,rfl,hout _ [] H.forget⟩
   | true=>
    by_cases h1:a.length=s.ni
    ·by_cases h2:b.length=s.no
     ·have hr:mg s.ni s.no a b true=true:=by unfold mg;rw[hpa,h1,h2];simp
      iterate 5 refine af rfl ?_
      refine dY underlying9 ?_
      iterate 3 refine af rfl ?_
      refine aa (fu _) ?_;refine af rfl ?_;refine aa (ey _ _) ?_;refine af rfl ?_;refine H.load 1 rfl aE rfl ?_
      iterate 2 refine af rfl ?_
      iterate 2 refine af (bne_eq_false_iff_eq.2 (by omega)) ?_
      refine dY underlying9 ?_
      iterate 3 refine af (bne_eq_false_iff_eq.2 (by omega)) ?_
      refine aa (fu _) ?_;refine af (bne_eq_false_iff_eq.2 (by omega)) ?_;refine aa (ft _ _) ?_;refine af (bne_eq_false_iff_eq.2 (by omega)) ?_;refine H.load 1 rfl aE rfl ?_
      iterate 3 refine af (bne_eq_false_iff_eq.2 (by omega)) ?_
      exact ⟨(),trivial,hr,by rw[hpa] at H;exact H⟩
     ·have hr:=hbad (by unfold mg;rw[beq_eq_false_iff_ne.2 h2];simp)
      iterate 5 refine af rfl ?_
      refine dY underlying9 ?_
      iterate 3 refine af rfl ?_
      refine aa (fu _) ?_;refine af rfl ?_;refine aa (ey _ _) ?_;refine af rfl ?_;refine H.load 1 rfl aE rfl ?_
      iterate 2 refine af rfl ?_
      iterate 2 refine af (bne_eq_false_iff_eq.2 (by omega)) ?_
      refine dY underlying9 ?_
      iterate 3 refine af (bne_eq_false_iff_eq.2 (by omega)) ?_
      refine aa (fu _) ?_;refine af (bne_eq_false_iff_eq.2 (by omega)) ?_;refine aa (ft _ _) ?_;refine af (bne_eq_false_iff_eq.2 (by omega)) ?_;refine H.load 1 rfl aE rfl ?_
      iterate 2 refine af (bne_eq_false_iff_eq.2 (by omega)) ?_
      refine ag (bne_iff_ne.2 (by omega)) ?_;exact .inl ⟨hr,rfl,hout _ [] H.forget⟩
    ·have hr:=hbad (by unfold mg;rw[beq_eq_false_iff_ne.2 h1];simp)
     iterate 5 refine af rfl ?_
     refine dY underlying9 ?_
     iterate 3 refine af rfl ?_
     refine aa (fu _) ?_;refine af rfl ?_;refine aa (ey _ _) ?_;refine af rfl ?_;refine H.load 1 rfl aE rfl ?_
     iterate 2 refine af rfl ?_
     iterate 9 refine ag (bne_iff_ne.2 (by omega)) ?_
     refine ag rfl ?_;exact .inl ⟨hr,rfl,hout _ [] H.forget⟩
 clear H;rintro ⟨⟩ u w4 ⟨hro,H⟩;have hro':=hro;unfold mg at hro';simp only[Bool.and_eq_true,beq_iff_eq] at hro';obtain ⟨⟨⟨hok,hpa⟩,hla⟩,hlb⟩:=hro';rw[hpa,if_pos rfl,if_pos rfl] at H;clear hbad;generalize dJ a a.length=m at H hrow;generalize dK a a.length=vv at H hrow;refine ak (γ:=Nat) (fun g10=>[(10,(ah g10))]) (fun g10 w'=>Hp w (nN g s (.slice A0 s.ls.length c0) hs S).foot w' (an g10 77 (fH m vv (.slice none 0 0))::own 3 1 (.slice none 0 0) 0 []::oV g s (.slice A0 s.ls.length c0) hs S) []) ?_ ?_
 ·refine H.ai 0 rfl bw aO ?_;refine wV ?_;refine H.alloc 77 (cs:=fH 0 0 (.slice none 0 0)) lB rfl ?_;clear H;intro g10 w6 H;refine H.storeAll 0 rfl cY rfl (eM (m:=m) (v:=vv)) ?_;clear H;intro w7 H;exact ⟨g10,⟨rfl,trivial⟩,(H.bx 3 1).b6 [1,0,3,4,5] (by decide) rfl⟩
 clear H;rintro g10 u w5 H;refine ak (γ:=Option Addr × Nat) (fun _=>[]) (fun (B2,d2) w'=>b.all gL=true∧Hp w (nN g s (.slice A0 s.ls.length c0) hs S).foot w' (an g10 77 (fH m vv (.slice B2 b.length d2))::own 3 1 (.slice B2 b.length d2) b.length (ints (b.map bM))::oV g s (.slice A0 s.ls.length c0) hs S) []) ?_ ?_
 ·refine H.xM underlying9 ?_;clear H;intro g11 w6 H;refine ax (γ:=Nat × Option Addr × Nat) (fun _=>[]) (fun (i,B2,d2) w'=>(i≤b.length∧∀ j (h:j<b.length),j<i→gL b[j]=true)∧Hp w (nN g s (.slice A0 s.ls.length c0) hs S).foot w' (rC g11 ⟨b.toArray⟩ i::an g10 77 (fH m vv (.slice B2 i d2))::own 3 1 (.slice B2 i d2) i (ints ((b.take i).map bM))::oV g s (.slice A0 s.ls.length c0) hs S) []) (fun (i,_)=>b.length - i) (0,none,0) trivial ⟨⟨by omega,by intro j _ hj;omega⟩,H⟩ ?_;clear H;rintro ⟨i,B2,d2⟩ u w7 ⟨⟨hi,hall⟩,H⟩;have hsz:=gQ b;refine H.AT 0 rfl (fun hp w12 H=>?_) (fun hp=>?_)
  ·have hp':i<b.length:=by omega
   refine ag rfl ?_;have hbadc:gL b[i]=false→kR s.ni s.no line=none:=fun h=>by
    rw[hrow,if_neg];rintro ⟨_,h2⟩;rw[List.all_eq_true] at h2;rw[h2 _ (List.getElem_mem hp')] at h
    cases h
   by_cases ha:b[i].toNat<128
   ·rw[uQ hp' ha] at H ⊢;refine ak (γ:=Unit) (fun _=>[(12,.int .i32 (b[i].toNat:Int))]) (fun _ w'=>Hp w (nN g s (.slice A0 s.ls.length c0) hs S).foot w' (rC g11 ⟨b.toArray⟩ (i+1)::an g10 77 (fH m vv (.slice B2 i d2))::own 3 1 (.slice B2 i d2) i (ints ((b.take i).map bM))::oV g s (.slice A0 s.ls.length c0) hs S) []) ⟨(),⟨rfl,trivial⟩,H⟩ ?_;clear H;rintro ⟨⟩ u w8 H;have hfin:∀ (u:World) (B3:Option Addr) (d3:Nat),gL b[i]=true→Hp w (nN g s (.slice A0 s.ls.length c0) hs S).foot u (rC g11 ⟨b.toArray⟩ (i+1)::an g10 77 (fH m vv (.slice B3 (i+1) d3))::own 3 1 (.slice B3 (i+1) d3) (i+1) (ints ((b.take i).map bM)++[.int .i64 ((bM b[i]:Nat):Int)])::oV g s (.slice A0 s.ls.length c0) hs S) []→
      (i+1≤b.length∧∀ j (h:j<b.length),j<i+1→gL b[j]=true)∧Hp w (nN g s (.slice A0 s.ls.length c0) hs S).foot u (rC g11 ⟨b.toArray⟩ (i+1)::an g10 77 (fH m vv (.slice B3 (i+1) d3))::own 3 1 (.slice B3 (i+1) d3) (i+1) (ints ((b.take (i+1)).map bM))::oV g s (.slice A0 s.ls.length c0) hs S) []:=fun u B3 d3 hb H=>by
     refine ⟨⟨by omega,lg hall hb⟩,?_⟩;rw[jd,← tR hp'] at H;exact H
    refine cr (fun h9=>?_) (fun h9=>?_)
    ·refine ag (beq_iff_eq.2 (by assumption)) ?_;refine aa (eE _) ?_;have hb:b[i]=48:=UInt8.toNat_inj.1 (show b[i].toNat=48 by omega);have hw:IntKind.i32.wrap ((b[i].toNat:Int) - 48)=((bM b[i]:Nat):Int):=by rw[hb];kernel_rfl
     refine H.load 1 rfl fq rfl ?_;refine iy (by kernel_rfl) underlying3 (by rw[hw];omega) (by rw[hw,hb];decide) ?_;refine H.aX dy rfl ?_;clear H;intro gx w20 H;refine H.aG 3 0 dy rfl rfl rfl (fun u hu=>by rw[List.mem_singleton.1 hu];rfl) (by omega) (by omega) ?_;clear H;intro B4 d4 w21 H;replace H:=H.forget;refine aa (eE _) ?_;refine H.store 1 rfl qg (Nat.le_of_ble_eq_true rfl) rfl ?_;clear H;intro w22 H;exact ⟨(i+1,B4,d4),by show b.length - (i+1)<b.length - i;omega,trivial,hfin _ _ _ (by rw[hb];rfl) (by rw[← hw];exact H)⟩
    ·refine cr (fun h16=>?_) (fun h16=>?_)
     ·refine aa (eE _) ?_;have hb:b[i]=49:=UInt8.toNat_inj.1 (show b[i].toNat=49 by omega);have hw:IntKind.i32.wrap ((b[i].toNat:Int) - 48)=((bM b[i]:Nat):Int):=by rw[hb];kernel_rfl
      refine H.load 1 rfl fq rfl ?_;refine iy (by kernel_rfl) underlying3 (by rw[hw];omega) (by rw[hw,hb];decide) ?_;refine H.aX dy rfl ?_;clear H;intro gx w20 H;refine H.aG 3 0 dy rfl rfl rfl (fun u hu=>by rw[List.mem_singleton.1 hu];rfl) (by omega) (by omega) ?_;clear H;intro B4 d4 w21 H;replace H:=H.forget;refine aa (eE _) ?_;refine H.store 1 rfl qg (Nat.le_of_ble_eq_true rfl) rfl ?_;clear H;intro w22 H;exact ⟨(i+1,B4,d4),by show b.length - (i+1)<b.length - i;omega,trivial,hfin _ _ _ (by rw[hb];rfl) (by rw[← hw];exact H)⟩
     ·refine cr (fun h19=>?_) (fun h19=>?_)
      ·refine aa (eE _) ?_;have hb:b[i]=45:=UInt8.toNat_inj.1 (show b[i].toNat=45 by omega);refine H.load 1 rfl fq rfl ?_;refine H.aX dy rfl ?_;clear H;intro gx w20 H;refine H.aG 3 0 dy rfl rfl rfl (fun u hu=>by rw[List.mem_singleton.1 hu];rfl) (by omega) (by omega) ?_;clear H;intro B4 d4 w21 H;replace H:=H.forget;refine aa (eE _) ?_;refine H.store 1 rfl qg (Nat.le_of_ble_eq_true rfl) rfl ?_;clear H;intro w22 H;exact ⟨(i+1,B4,d4),by show b.length - (i+1)<b.length - i;omega,trivial,hfin _ _ _ (by rw[hb];rfl) (by rw[hb];exact H)⟩
      ·exact .inl ⟨hbadc (nt (by assumption) (by assumption) (by assumption)),rfl,hout _ [] (H.b6 [3,4,5] (by decide) rfl)⟩
   ·have hge:=uR hp' ha;have hr:=hbadc (nt (by omega) (by omega) (by omega))
    iterate 3 refine af (beq_eq_false_iff_ne.2 (by omega)) ?_
    exact .inl ⟨hr,rfl,hout _ [] (H.b6 [3,4,5] (by decide) rfl)⟩
  ·obtain rfl:i=b.length:=by omega
   refine af rfl ?_;exact ⟨(B2,d2),trivial,List.all_eq_true.2 fun c hc=>by obtain ⟨j,hj,rfl⟩:=List.getElem_of_mem hc;exact hall j hj hj,by rw[List.take_length] at H;exact H.forget⟩
 clear H;rintro ⟨B2,d2⟩ u w6 ⟨hall,H⟩;rw[if_pos ⟨hro,hall⟩] at hrow;refine H.fg [an g10 77 (fH m vv (.slice B2 b.length d2)),an g 100 (KY s.kd s.ni s.no (.slice A0 s.ls.length c0) s.st s.told)] (fun u h=>h.b6 [0,2] (by decide) rfl) eS (by kernel_rfl) ?_;clear H;intro w7 H;refine quiet _ (fun w H=>aa (fu _) ae) ?_;refine quiet _ (fun w H=>aa (dZ _ _) ae) ?_;refine quiet _ (fun w H=>H.load 1 rfl il rfl ae) ?_;refine quiet _ (fun w H=>H.ai 0 rfl l9 cY ae) ?_;refine H.bg Il (cs:=fH m vv (.slice B2 b.length d2)) (by decide) (by decide) (by kernel_rfl) ?_;clear H;intro gx w8 H;refine ⟨.inl (H.b6 [1,3] (by decide) rfl),?_⟩;refine H.aG 4 0 Il rfl rfl rfl eM (by omega) (by omega) ?_;clear H;intro B4 d4 w9 H;refine ⟨.inl (H.b6 [1,3] (by decide) rfl),?_⟩;refine quiet _ (fun w H=>aa (fu _) ae) ?_;refine quiet _ (fun w H=>aa (dZ _ _) ae) ?_;refine H.store 3 rfl wS (Nat.le_of_ble_eq_true rfl) rfl ?_;clear H;intro w13 H;refine ⟨.inr rfl,?_⟩;have e1:(s.ls++[((m,vv,b.map bM):Ln)]).length=s.ls.length+1:=by simp
 have H2:Hp w (nN g s (.slice A0 s.ls.length c0) hs S).foot w13 (own 3 1 (.slice B2 b.length d2) ((m,vv,b.map bM):Ln).2.2.length (ints ((m,vv,b.map bM):Ln).2.2)::qw S hs s.ls::an g 100 (KY s.kd s.ni s.no (.slice B4 (s.ls.length+1) d4) s.st s.told)::own 77 3 (.slice B4 (s.ls.length+1) d4) (s.ls++[((m,vv,b.map bM):Ln)]).length (flat kL (hs++[(m,vv,.slice B2 b.length d2)]))::[]) []:=by
  show Hp w (nN g s (.slice A0 s.ls.length c0) hs S).foot w13 (own 3 1 (.slice B2 b.length d2) (b.map bM).length (ints (b.map bM))::_) _;rw[List.length_map,e1,show flat kL (hs++[(m,vv,.slice B2 b.length d2)])=flat kL hs++kL (m,vv,.slice B2 b.length d2) from du ..];exact H.b6 [2,5,3,4] (by decide) rfl
 obtain ⟨S',H3⟩:=H2.Fv;exact .inr ⟨(m,vv,b.map bM),_,_,S',hrow,rfl,(jo (L:=[]) (s:={ s with ls:=s.ls++[(m,vv,b.map bM)] }) (v:=.slice B4 (s.ls.length+1) d4) (hs:=hs++[(m,vv,.slice B2 b.length d2)]) (S:=S') (H3.b6 [1,2,0] (by decide) rfl)).bc⟩
def rO (r:List UInt8):Option Nat:=(List.range 4).find? fun k=>eA k==r
def kO (s:Rd)(line:List UInt8):Except Int Rd:=
 if line=[46,101] then (if s.told<0∨s.told=s.ls.length then .ok { s with st:=5 } else .error 2)
 else match kR s.ni s.no line with
  | none=>.error 2
  | some l=>if s.ls.length=64 then .error 3 else .ok { s with st:=4,ls:=s.ls++[l] }
def mh (s:Rd)(line:List UInt8):Except Int Rd:=
 if Lib.hasPrefix line [46,116,121,112,101,32]=true∧s.st=2 then
  match rO (line.drop 6) with
  | some k=>.ok { s with kd:=k,st:=3 }
  | none=>.error 2
 else if 0≤d_ [46,112] 0 64 line∧s.st≤3 then .ok { s with told:=d_ [46,112] 0 64 line,st:=4 }
 else kO s line
def mO (s:Rd)(line:List UInt8):Except Int Rd:=
 if s.st=0 then (if 0≤d_ [46,105] 0 8 line then .ok { s with ni:=(d_ [46,105] 0 8 line).toNat,st:=1 } else .error 2)
 else if s.st=1 then (if 0≤d_ [46,111] 1 4 line then .ok { s with no:=(d_ [46,111] 1 4 line).toNat,st:=2 } else .error 2)
 else if s.st=5 then .error 2
 else mh s line
def Fw (o:Except Int Rd)(w:World)(R:cC)(g:Nat)(r:Value)(w':World):Prop:=
 (∃ s' v' hs' S',o=.ok s'∧r=.int .i64 0∧jA w w' R (nN g s' v' hs' S'))∨(∃ e R',o=.error e∧r=.int .i64 e∧e≠0∧jA w w' R R')
theorem _root_.Go.Dk.Hp.ra {w w':World}{r:cC}{L:List cC}(H:Hp w r.foot w' L []):∃ R',jA w w' r R':=
 ⟨_,(Hp.join (Ls:=L) (L:=[]) (by rw[List.append_nil];exact H)).bc⟩
theorem tS {r:List UInt8}{i:Nat}(hi:i<4)(h:eA i=r)(hb:∀ j,j<i→eA j≠r):rO r=some i:=by
 unfold rO;rcases (by omega:i=0∨i=1∨i=2∨i=3) with rfl | rfl | rfl | rfl <;> subst h <;> rfl
theorem tT {r:List UInt8}(hb:∀ j,j<4→eA j≠r):rO r=none:=by
 unfold rO;rw[List.find?_eq_none];intro j hj h;exact hb j (List.mem_range.1 hj) (beq_iff_eq.1 h)
theorem Mz:enters prog 71=true:=by kernel_rfl
theorem M8 (b:Bool)(w:World):bt prog 71 [.bool b] w fun r w'=>r=.int .i64 (if b then 0 else 2)∧aT w w':=by
 refine ar (N:=4) func71 Mz rfl rfl rfl (by simp) ?_;have H:=Hp.aC w
 cases b with
 | false=>
  refine af rfl ?_;exact ⟨rfl,H.keeps⟩
 | true=>
  refine ag rfl ?_;exact ⟨rfl,H.keeps⟩
theorem MA:enters prog 48=true:=by kernel_rfl
set_option maxHeartbeats 4000000 in
theorem OM (line:List UInt8)(hl:line.length≤100000)(g:Nat)(s:Rd)(hls:s.ls.length≤64)(hst:s.st≤5)(htold:s.told≤64)(v:Value)(hs:List Hd)(S:Nat→Prop)(w:World)(hg:jh w)(hgd:∀ x,Ku x→¬ (nN g s v hs S).foot x)(hR:(nN g s v hs S).ok w) :
  bt prog 48 [(ah g),aU line] w (Fw (mO s line) w (nN g s v hs S) g):=by
 refine ar (N:=154) func48 MA rfl rfl rfl (by simp) ?_;obtain ⟨A0,c0,rfl,hc0⟩:=e9 ((ql hR).get 1 rfl);have H:=ql hR;obtain ⟨kd,ni,no,st,told,ls⟩:=s;simp only at hls hst htold;generalize hR0:nN g ⟨kd,ni,no,st,told,ls⟩ (.slice A0 ls.length c0) hs S=R0 at H hgd;have hgu:∀ u L M,Hp w R0.foot u L M→jh u:=fun u L M H=>hg.bP fun x hx=>H.keeps.old x (hg.lt x hx) (hgd x hx);have n1:=c72 line [46,105] hl (by decide) 0 8 (by decide);have n2:=c72 line [46,111] hl (by decide) 1 4 (by decide);have n3:=c72 line [46,112] hl (by decide) 0 64 (by decide);have hP:mO ⟨kd,ni,no,st,told,ls⟩ line=if st=0 then (if 0≤d_ [46,105] 0 8 line then .ok ⟨kd,(d_ [46,105] 0 8 line).toNat,no,1,told,ls⟩ else .error 2)
  else if st=1 then (if 0≤d_ [46,111] 1 4 line then .ok ⟨kd,ni,(d_ [46,111] 1 4 line).toNat,2,told,ls⟩ else .error 2)
  else if st=5 then .error 2
  else mh ⟨kd,ni,no,st,told,ls⟩ line:=rfl
 refine ak (γ:=Unit) (fun _=>[(4,.int .i64 0)]) (fun _ w'=>Hp w R0.foot w' (oV g ⟨kd,ni,no,st,told,ls⟩ (.slice A0 ls.length c0) hs S) []) ⟨(),⟨rfl,trivial⟩,H⟩ ?_;clear H;rintro ⟨⟩ u w1 H;refine ak (γ:=Unit) (fun _=>[(5,pn 71)]) (fun _ w'=>Hp w R0.foot w' (oV g ⟨kd,ni,no,st,told,ls⟩ (.slice A0 ls.length c0) hs S) []) ⟨(),⟨rfl,trivial⟩,H⟩ ?_;clear H;rintro ⟨⟩ u w2 H;refine aw (fun w'=>(2≤st∧st≤4)∧Hp w R0.foot w' (oV g ⟨kd,ni,no,st,told,ls⟩ (.slice A0 ls.length c0) hs S) []) ?_ ?_
 ·refine aa (g_ _) ?_;refine H.load 0 rfl aE rfl ?_;by_cases h0:st=0
  ·subst h0;rw[if_pos rfl] at hP
   iterate 0 refine af rfl ?_
   refine ag rfl ?_;refine aj (n1 _ (hgu _ _ _ H)) ?_;rintro _ w5 ⟨rfl,hk⟩;replace H:=H.same hk;clear hk;refine aa (fu _) ?_;refine aa (ey _ _) ?_;refine H.store 0 rfl a_ (Nat.le_of_ble_eq_true rfl) rfl ?_;clear H;intro w6 H;refine aa (g_ _) ?_;refine H.load 0 rfl aE rfl ?_;refine aa (g_ _) ?_;refine H.store 0 rfl a_ (Nat.le_of_ble_eq_true rfl) rfl ?_;clear H;intro w7 H;refine aa (fu _) ?_;refine aa (ey _ _) ?_;refine H.load 0 rfl aE rfl ?_;refine aj (M8 _ _) ?_;rintro _ w8 ⟨rfl,hk⟩;replace H:=H.same hk;clear hk;have hw:IntKind.i64.wrap (((0:Nat):Int)+1)=((1:Nat):Int):=aH (by omega) (by omega);rw[hw] at H;generalize d_ [46,105] 0 8 line=N at H hP ⊢;by_cases hn:0≤N
   ·rw[if_pos hn] at hP;have e:N=((N.toNat:Nat):Int):=(Int.toNat_of_nonneg hn).symm;rw[e] at H;refine .inl ⟨⟨kd,N.toNat,no,1,told,ls⟩,_,_,_,hP,?_,(jo (L:=[]) (s:=⟨kd,N.toNat,no,1,told,ls⟩) H).bc⟩;rw[decide_eq_true hn];rfl
   ·rw[if_neg hn] at hP;obtain ⟨R',hR'⟩:=H.ra;refine .inr ⟨2,R',hP,?_,by decide,hR'⟩;rw[decide_eq_false hn];rfl
  ·rw[if_neg h0] at hP;by_cases h1:st=1
   ·subst h1;rw[if_pos rfl] at hP
    iterate 1 refine af rfl ?_
    refine ag rfl ?_;refine aj (n2 _ (hgu _ _ _ H)) ?_;rintro _ w5 ⟨rfl,hk⟩;replace H:=H.same hk;clear hk;refine aa (fu _) ?_;refine aa (ft _ _) ?_;refine H.store 0 rfl a_ (Nat.le_of_ble_eq_true rfl) rfl ?_;clear H;intro w6 H;refine aa (g_ _) ?_;refine H.load 0 rfl aE rfl ?_;refine aa (g_ _) ?_;refine H.store 0 rfl a_ (Nat.le_of_ble_eq_true rfl) rfl ?_;clear H;intro w7 H;refine aa (fu _) ?_;refine aa (ft _ _) ?_;refine H.load 0 rfl aE rfl ?_;refine aj (M8 _ _) ?_;rintro _ w8 ⟨rfl,hk⟩;replace H:=H.same hk;clear hk;have hw:IntKind.i64.wrap (((1:Nat):Int)+1)=((2:Nat):Int):=aH (by omega) (by omega);rw[hw] at H;generalize d_ [46,111] 1 4 line=N at H hP ⊢;by_cases hn:0≤N
    ·rw[if_pos hn] at hP;have e:N=((N.toNat:Nat):Int):=(Int.toNat_of_nonneg hn).symm;rw[e] at H;refine .inl ⟨⟨kd,ni,N.toNat,2,told,ls⟩,_,_,_,hP,?_,(jo (L:=[]) (s:=⟨kd,ni,N.toNat,2,told,ls⟩) H).bc⟩;rw[decide_eq_true hn];rfl
    ·rw[if_neg hn] at hP;obtain ⟨R',hR'⟩:=H.ra;refine .inr ⟨2,R',hP,?_,by decide,hR'⟩;rw[decide_eq_false hn];rfl
   ·rw[if_neg h1] at hP;by_cases h5:st=5
    ·subst h5;rw[if_pos rfl] at hP
     iterate 2 refine af rfl ?_
     refine ag rfl ?_;obtain ⟨R',hR'⟩:=H.ra;exact .inr ⟨2,R',hP,rfl,by decide,hR'⟩
    ·rw[if_neg h5] at hP;refine cr (fun h=>absurd (show (st:Int)=0 from h) (by omega)) (fun _=>?_);refine cr (fun h=>absurd (show (st:Int)=1 from h) (by omega)) (fun _=>?_);refine cr (fun h=>absurd (show (st:Int)=5 from h) (by omega)) (fun _=>?_);exact ⟨(),trivial,⟨by omega,by omega⟩,H⟩
 clear H;rintro ⟨⟩ u w3 ⟨⟨hs2,hs4⟩,H⟩;rw[if_neg (by omega),if_neg (by omega),if_neg (by omega)] at hP;have hP2:mh ⟨kd,ni,no,st,told,ls⟩ line=if Lib.hasPrefix line [46,116,121,112,101,32]=true∧st=2 then
   match rO (line.drop 6) with
   | some k=>.ok ⟨k,ni,no,3,told,ls⟩
   | none=>.error 2
  else if 0≤d_ [46,112] 0 64 line∧st≤3 then .ok ⟨kd,ni,no,4,d_ [46,112] 0 64 line,ls⟩
  else kO ⟨kd,ni,no,st,told,ls⟩ line:=rfl
 rw[hP2] at hP;clear hP2;have htp:Lib.hasPrefix line [46,116,121,112,101,32]=true→Lib.trimPrefix line [46,116,121,112,101,32]=line.drop 6:=fun h=>by unfold Lib.trimPrefix;rw[if_pos h];rfl
 refine aw (fun w'=>¬ (Lib.hasPrefix line [46,116,121,112,101,32]=true∧st=2)∧Hp w R0.foot w' (oV g ⟨kd,ni,no,st,told,ls⟩ (.slice A0 ls.length c0) hs S) []) ?_ ?_
 ·refine ak (γ:=Unit) (fun _=>[(6,aU (Lib.trimPrefix line [46,116,121,112,101,32])),(7,.bool (Lib.hasPrefix line [46,116,121,112,101,32]))]) (fun _ w'=>Hp w R0.foot w' (oV g ⟨kd,ni,no,st,told,ls⟩ (.slice A0 ls.length c0) hs S) []) ?_ ?_
  ·refine aj (Ok _ [46,116,121,112,101,32] _) ?_;rintro _ w4 ⟨rfl,hk⟩;exact ⟨(),⟨rfl,rfl,trivial⟩,H.same hk⟩
  clear H;rintro ⟨⟩ u w4 H;generalize Lib.trimPrefix line [46,116,121,112,101,32]=rest at htp
  cases hpx:Lib.hasPrefix line [46,116,121,112,101,32] with
  | false=>
   repeat refine af rfl ?_
   exact ⟨(),trivial,fun h=>absurd h.1 (by simp),H⟩
  | true=>
   rw[hpx] at hP;replace htp:=htp hpx
   repeat refine ag rfl ?_
   refine aa (g_ _) ?_
   repeat refine ag rfl ?_
   refine H.load 0 rfl aE rfl ?_
   repeat refine ag rfl ?_
   refine cr (fun h=>?_) (fun h=>?_)
   ·obtain rfl:st=2:=by have h:(st:Int)=2:=h;omega
    rw[if_pos ⟨rfl,rfl⟩,← htp] at hP;clear htp;refine aw (fun w'=>Hp w R0.foot w' (oV g ⟨kd,ni,no,3,told,ls⟩ (.slice A0 ls.length c0) hs S) []) ?_ ?_
    ·refine aa (g_ _) ?_;refine H.store 0 rfl a_ (Nat.le_of_ble_eq_true rfl) rfl ?_;clear H;intro w5 H;exact ⟨(),trivial,H⟩
    clear H;rintro ⟨⟩ u w5 H;refine aw (fun w'=>(∀ j,j<4→eA j≠rest)∧Hp w R0.foot w' (oV g ⟨kd,ni,no,3,told,ls⟩ (.slice A0 ls.length c0) hs S) []) ?_ ?_
    ·refine aj (NY _) ?_;rintro _ w6 ⟨gk,rfl,hn⟩;replace H:=H.bD hn;clear hn;refine ay underlying73 ?_;refine ax (γ:=Nat) (fun i=>[(82,.int .i64 (i:Int))]) (fun i w'=>(i≤4∧∀ j,j<i→eA j≠rest)∧Hp w R0.foot w' (an gk 9 Ky::(oV g ⟨kd,ni,no,3,told,ls⟩ (.slice A0 ls.length c0) hs S)) []) (fun i=>4 - i) 0 ⟨rfl,trivial⟩ ⟨⟨Nat.zero_le _,fun j hj=>absurd hj (by omega)⟩,H⟩ ?_;clear H;rintro i u w7 ⟨⟨hi,hno⟩,H⟩;refine au (fun h7=>?_) (fun h7=>?_)
     ·have hi4:i<4:=by have h7:(i:Int)<((4:Nat):Int):=h7;omega
      refine aw (fun w'=>eA i≠rest∧Hp w R0.foot w' (an gk 9 Ky::(oV g ⟨kd,ni,no,3,told,ls⟩ (.slice A0 ls.length c0) hs S)) []) ?_ ?_
      ·refine ak (γ:=Unit) (fun _=>[(8,.int .i64 (i:Int)),(9,aU (eA i))]) (fun _ w'=>Hp w R0.foot w' (an gk 9 Ky::(oV g ⟨kd,ni,no,3,told,ls⟩ (.slice A0 ls.length c0) hs S)) []) ?_ ?_
       ·refine aq underlying73 pP i rfl (by omega) (o':=i) (by omega) ?_;refine H.load 0 rfl xZ (qj (by omega)) ?_;exact ⟨(),⟨rfl,rfl,trivial⟩,H⟩
       clear H;rintro ⟨⟩ u w8 H;refine eJ ?_;refine aF (fun hb=>?_) (fun hb=>?_)
       ·have hP3:=tS hi4 (beq_iff_eq.1 hb) hno;rw[hP3] at hP;refine aa (fu _) ?_;refine aa (ew _ _) ?_;refine H.store 1 rfl a_ (Nat.le_of_ble_eq_true rfl) rfl ?_;clear H;intro w9 H;exact .inl ⟨⟨i,ni,no,3,told,ls⟩,_,_,_,hP,rfl,(jo (L:=[]) (s:=⟨i,ni,no,3,told,ls⟩) (H.b6 [1,2,3] (by decide) rfl)).bc⟩
       ·exact ⟨(),trivial,fun h=>by rw[h] at hb;simp at hb,H⟩
      ·clear H;rintro ⟨⟩ u w8 ⟨hb,H⟩;exact ⟨i+1,by show 4 - (i+1)<4 - i;omega,⟨up (by omega),trivial⟩,⟨by show i+1≤4;omega,fun j hj=>by rcases Nat.lt_succ_iff_lt_or_eq.1 hj with h | h;exact hno j h;subst h;exact hb⟩,H⟩
     ·have hi4:i=4:=by have h7:¬ (i:Int)<((4:Nat):Int):=h7;omega
      subst hi4;exact ⟨(),trivial,hno,H.forget⟩
    clear H;rintro ⟨⟩ u w6 ⟨hno,H⟩;rw[tT hno] at hP;obtain ⟨R',hR'⟩:=H.ra;exact .inr ⟨2,R',hP,rfl,by decide,hR'⟩
   ·exact ⟨(),trivial,fun hh=>h (show (st:Int)=2 by rw[hh.2];rfl),H⟩
 clear H;rintro ⟨⟩ u w5 ⟨hnt,H⟩;rw[if_neg hnt] at hP;clear hnt htp;generalize d_ [46,112] 0 64 line=N at hP n3;refine aw (fun w'=>¬ (0≤N∧st≤3)∧Hp w R0.foot w' (oV g ⟨kd,ni,no,st,told,ls⟩ (.slice A0 ls.length c0) hs S) []) ?_ ?_
 ·refine ak (γ:=Unit) (fun _=>[(10,.int .i64 (N))]) (fun _ w'=>Hp w R0.foot w' (oV g ⟨kd,ni,no,st,told,ls⟩ (.slice A0 ls.length c0) hs S) []) ?_ ?_
  ·refine aj (n3 _ (hgu _ _ _ H)) ?_;rintro _ w6 ⟨rfl,hk⟩;exact ⟨(),⟨rfl,trivial⟩,H.same hk⟩
  clear H;rintro ⟨⟩ u w6 H;by_cases hN:0≤N
  ·repeat refine ag (decide_eq_true hN) ?_
   refine aa (g_ _) ?_
   repeat refine ag (decide_eq_true hN) ?_
   refine H.load 0 rfl aE rfl ?_
   repeat refine ag (decide_eq_true hN) ?_
   refine au (fun h=>?_) (fun h=>?_)
   ·have h3:st≤3:=by have h:(st:Int)≤3:=h;omega
    rw[if_pos ⟨hN,h3⟩] at hP;refine aa (wW _) ?_;refine H.store 0 rfl a_ (Nat.le_of_ble_eq_true rfl) rfl ?_;clear H;intro w7 H;refine aa (g_ _) ?_;refine H.store 0 rfl a_ (Nat.le_of_ble_eq_true rfl) rfl ?_;clear H;intro w8 H;exact .inl ⟨⟨kd,ni,no,4,N,ls⟩,_,_,_,hP,rfl,(jo (L:=[]) (s:=⟨kd,ni,no,4,N,ls⟩) H).bc⟩
   ·exact ⟨(),trivial,fun hh=>h (show (st:Int)≤3 by have:=hh.2;omega),H⟩
  ·repeat refine af (decide_eq_false hN) ?_
   refine af rfl ?_;exact ⟨(),trivial,fun hh=>hN hh.1,H⟩
 clear H;rintro ⟨⟩ u w7 ⟨hnt,H⟩;rw[if_neg hnt] at hP;clear hnt;refine aw (fun w'=>Hp w R0.foot w' (oV g ⟨kd,ni,no,4,told,ls⟩ (.slice A0 ls.length c0) hs S) []) ?_ ?_
 ·refine aa (g_ _) ?_;refine H.store 0 rfl a_ (Nat.le_of_ble_eq_true rfl) rfl ?_;clear H;intro w5 H;exact ⟨(),trivial,H⟩
 clear H;rintro ⟨⟩ u w8 H;have hP3:kO ⟨kd,ni,no,st,told,ls⟩ line=if line=[46,101] then (if told<0∨told=ls.length then .ok ⟨kd,ni,no,5,told,ls⟩ else .error 2)
  else match kR ni no line with
   | none=>.error 2
   | some l=>if ls.length=64 then .error 3 else .ok ⟨kd,ni,no,4,told,ls++[l]⟩:=rfl
 rw[hP3] at hP;clear hP3;refine aw (fun w'=>line≠[46,101]∧Hp w R0.foot w' (oV g ⟨kd,ni,no,4,told,ls⟩ (.slice A0 ls.length c0) hs S) []) ?_ ?_
 ·refine eJ (b:=[46,101]) ?_;refine aF (fun hb=>?_) (fun hb=>?_)
  ·rw[if_pos (beq_iff_eq.1 hb)] at hP;refine aw (fun w'=>Hp w R0.foot w' (oV g ⟨kd,ni,no,5,told,ls⟩ (.slice A0 ls.length c0) hs S) []) ?_ ?_
   ·refine aa (g_ _) ?_;refine H.store 0 rfl a_ (Nat.le_of_ble_eq_true rfl) rfl ?_;clear H;intro w9 H;exact ⟨(),trivial,H⟩
   clear H;rintro ⟨⟩ u w9 H;refine H.draw eS (by kernel_rfl) ?_;clear H;intro w10 H;refine quiet _ (fun w H=>aa (wW _) ae) ?_;refine quiet _ (fun w H=>H.load 0 rfl aE rfl ae) ?_;by_cases ht:told<0
   ·rw[if_pos (.inl ht)] at hP
    repeat refine ag (decide_eq_true ht) ?_
    refine aj (M8 _ _) ?_;rintro _ w11 ⟨rfl,hk⟩;replace H:=H.same hk;refine ⟨.inl H,?_⟩;refine .inl ⟨⟨kd,ni,no,5,told,ls⟩,_,_,_,hP,?_,(jo (L:=[]) (s:=⟨kd,ni,no,5,told,ls⟩) H).bc⟩;rfl
   ·repeat refine af (decide_eq_false ht) ?_
    refine quiet _ (fun w H=>aa (wW _) ae) ?_
    repeat refine af (decide_eq_false ht) ?_
    refine quiet _ (fun w H=>H.load 0 rfl aE rfl ae) ?_
    repeat refine af (decide_eq_false ht) ?_
    refine quiet _ (fun w H=>aa (fu _) ae) ?_
    repeat refine af (decide_eq_false ht) ?_
    refine quiet _ (fun w H=>aa (dZ _ _) ae) ?_
    repeat refine af (decide_eq_false ht) ?_
    refine quiet _ (fun w H=>H.load 0 rfl il rfl ae) ?_
    repeat refine af (decide_eq_false ht) ?_
    refine quiet _ (fun w H=>ay underlying31 ae) ?_
    repeat refine af (decide_eq_false ht) ?_
    refine aj (M8 _ _) ?_;rintro _ w11 ⟨rfl,hk⟩;replace H:=H.same hk;refine ⟨.inl H,?_⟩;by_cases he:told=(ls.length:Int)
    ·rw[if_pos (.inr he)] at hP;refine .inl ⟨⟨kd,ni,no,5,told,ls⟩,_,_,_,hP,?_,(jo (L:=[]) (s:=⟨kd,ni,no,5,told,ls⟩) H).bc⟩;rw[beq_iff_eq.2 he];rfl
    ·rw[if_neg (fun h=>h.elim ht he)] at hP;obtain ⟨R',hR'⟩:=H.ra;refine .inr ⟨2,R',hP,?_,by decide,hR'⟩;rw[beq_eq_false_iff_ne.2 he];rfl
  ·exact ⟨(),trivial,fun h=>by rw[h] at hb;simp at hb,H⟩
 clear H;rintro ⟨⟩ u w9 ⟨hne,H⟩;rw[if_neg hne] at hP;refine ak (γ:=Unit) (fun _=>[(11,.bool ((ls.length:Int)==64))]) (fun _ w'=>Hp w R0.foot w' (oV g ⟨kd,ni,no,4,told,ls⟩ (.slice A0 ls.length c0) hs S) []) ?_ ?_
 ·refine aa (fu _) ?_;refine aa (dZ _ _) ?_;refine H.load 0 rfl il rfl ?_;refine ay underlying31 ?_;exact ⟨(),⟨rfl,trivial⟩,H⟩
 clear H;rintro ⟨⟩ u w10 H;have HJ:=jo (L:=[]) (s:=⟨kd,ni,no,4,told,ls⟩) H;have hgd':∀ x,Ku x→¬ (nN g ⟨kd,ni,no,4,told,ls⟩ (.slice A0 ls.length c0) hs S).foot x:=fun x hx hf=>by
  rcases HJ.new _ (.head _) x hf with h | h
  ·have:=hg.lt x hx;omega
  ·exact hgd x hx h
 have hc:=OL line hl g ⟨kd,ni,no,4,told,ls⟩ hls (.slice A0 ls.length c0) hs S w10 (hgu _ _ _ H) hgd' (HJ.get 0 rfl);refine ak (γ:=Ln × Value × List Hd × (Nat→Prop)) (fun _=>[]) (fun (l,v',hs',S') w'=>kR ni no line=some l∧Hp w R0.foot w' [nN g ⟨kd,ni,no,4,told,ls++[l]⟩ v' hs' S'] []) ?_ ?_
 ·refine aj hc ?_;rintro _ w11 (⟨hn,rfl,R',hT⟩ | ⟨l,v',hs',S',hn,rfl,hT⟩)
  ·refine ag rfl ?_;rw[hn] at hP;have H2:=HJ.b5 0 rfl hT;obtain ⟨R',hR'⟩:=H2.ra;exact .inr ⟨2,R',hP,rfl,by decide,hR'⟩
  ·refine af rfl ?_;exact ⟨(l,v',hs',S'),trivial,hn,HJ.b5 0 rfl hT⟩
 clear H HJ hc;rintro ⟨l,v',hs',S'⟩ u w11 ⟨hn,H⟩;rw[hn] at hP;simp only at hP;by_cases h64:ls.length=64
 ·rw[if_pos h64] at hP;refine ag (beq_iff_eq.2 (by omega)) ?_;exact .inr ⟨3,_,hP,rfl,by decide,H.bc⟩
 ·rw[if_neg h64] at hP;refine af (beq_eq_false_iff_ne.2 (by omega)) ?_;exact .inl ⟨_,_,_,_,hP,rfl,H.bc⟩
structure qm (s:Rd):Prop where
 kd:s.kd≤3
 ni:s.ni≤8
 no:2≤s.st→1≤s.no∧s.no≤4
 st:s.st≤5
 told:s.told≤64
 few:s.ls.length≤64
 none:s.st<2→s.ls=[]
 ls:∀ l ∈ s.ls,An s.ni s.no l
theorem wX {wd line:List UInt8}{lo hi:Nat}(h:0≤d_ wd lo hi line):lo≤(d_ wd lo hi line).toNat∧(d_ wd lo hi line).toNat≤hi:=by
 obtain ⟨n,h1,h2,h3,_⟩:=vu h;rw[h3,Int.toNat_natCast];exact ⟨h1,h2⟩
theorem Hu {ni no:Nat}{line:List UInt8}{l:Ln}(h:kR ni no line=some l):An ni no l:=by
 unfold kR at h;generalize Lib.cut line [32]=q at h;obtain ⟨a,b,ok⟩:=q;simp only at h;split at h
 ·rename_i hh;injection h with h;subst h;obtain ⟨hr,_⟩:=hh;unfold mg at hr;simp only[Bool.and_eq_true,beq_iff_eq] at hr;obtain ⟨⟨_,hla⟩,hlb⟩:=hr;refine ⟨?_,?_,?_,?_⟩
  ·show dJ a a.length<2^ni;rw[← hla];exact fw _ _
  ·show dK a a.length &&&dJ a a.length=dK a a.length;apply Nat.eq_of_testBit_eq;intro p;unfold dK dJ;rw[Nat.testBit_and,cT,cT];by_cases hp:a.getD p 45=49
   ·rw[hp]
    cases decide (p<a.length) <;> rfl
   ·rw[show (a.getD p 45==49)=false by simpa using hp];simp
  ·show (b.map bM).length=no;rw[List.length_map,hlb]
  ·intro x hx;obtain ⟨c,_,rfl⟩:=List.mem_map.1 hx;unfold bM;split <;> try split
   all_goals decide
 ·cases h
theorem Fx {r:List UInt8}{k:Nat}(h:rO r=some k):k≤3:=by
 have:=List.mem_range.1 (List.mem_of_find?_eq_some h);omega
theorem qn {s s':Rd}{line:List UInt8}(hs:qm s)(h:mO s line=.ok s'):qm s':=by
 obtain ⟨kd,ni,no,st,told,ls⟩:=s;obtain ⟨k1,k2,k3,k4,k5,k6,k7,k8⟩:=hs;simp only at k1 k2 k3 k4 k5 k6 k7 k8;unfold mO at h;simp only at h;split at h
 ·rename_i h0;subst h0;split at h
  ·rename_i hn;injection h with h;subst h;have:=wX hn;exact ⟨k1,this.2,fun h=>absurd h (show ¬ 2≤1 by decide),show 1≤5 by decide,k5,k6,fun _=>k7 (by decide),fun l hl=>by rw[show ls=[] from k7 (by decide)] at hl;cases hl⟩
  ·cases h
 ·split at h
  ·rename_i h1;subst h1;split at h
   ·rename_i hn;injection h with h;subst h;have:=wX hn;exact ⟨k1,k2,fun _=>this,show 2≤5 by decide,k5,k6,fun h=>absurd h (show ¬ 2<2 by decide),fun l hl=>by rw[show ls=[] from k7 (by decide)] at hl;cases hl⟩
   ·cases h
  ·split at h
   ·cases h
   ·have h2:2≤st:=by omega
    unfold mh at h;simp only at h;split at h
    ·split at h
     ·rename_i k hk;injection h with h;subst h;exact ⟨Fx hk,k2,fun _=>k3 h2,show 3≤5 by decide,k5,k6,fun h=>absurd h (show ¬ 3<2 by decide),k8⟩
     ·cases h
    ·split at h
     ·rename_i hn;injection h with h;subst h;have:=wX hn.1;exact ⟨k1,k2,fun _=>k3 h2,show 4≤5 by decide,by show d_ [46,112] 0 64 line≤64;omega,k6,fun h=>absurd h (show ¬ 4<2 by decide),k8⟩
     ·unfold kO at h;simp only at h;split at h
      ·split at h
       ·injection h with h;subst h;exact ⟨k1,k2,fun _=>k3 h2,show 5≤5 by decide,k5,k6,fun h=>absurd h (show ¬ 5<2 by decide),k8⟩
       ·cases h
      ·split at h
       ·cases h
       ·rename_i l hl;split at h
        ·cases h
        ·injection h with h;subst h;refine ⟨k1,k2,fun _=>k3 h2,show 4≤5 by decide,k5,?_,fun h=>absurd h (show ¬ 4<2 by decide),fun x hx=>?_⟩
         ·show (ls++[l]).length≤64;rw[List.length_append,List.length_singleton];omega
         ·rcases List.mem_append.1 hx with hx | hx
          ·exact k8 x hx
          ·rw[List.mem_singleton.1 hx];exact Hu hl
def jV:Nat→Rd→List (List UInt8)→Except (Nat × Int) Rd
 | _,s,[]=>.ok s
 | i,s,l::r=>if l=[]∨l.head?=some 35 then jV (i+1) s r else match mO s l with
  | .error e=>.error (i,e)
  | .ok s'=>jV (i+1) s' r
def yN:Rd:=⟨1,0,0,0,-1,[]⟩
theorem wY:qm yN:=⟨show 1≤3 by decide,Nat.zero_le _,fun h=>absurd h (show ¬ 2≤0 by decide),Nat.zero_le _,show (-1:Int)≤64 by decide,Nat.zero_le _,fun _=>rfl,fun l hl=>by cases hl⟩
theorem tU:∀ {r:List (List UInt8)} {i:Nat} {s s':Rd},qm s→jV i s r=.ok s'→qm s'
 | [],i,s,s',hs,h=>by
  unfold jV at h;injection h with h;subst h;exact hs
 | l::r,i,s,s',hs,h=>by
  unfold jV at h;split at h
  ·exact tU hs h
  ·cases ht:mO s l with
   | error e=>rw[ht] at h;cases h
   | ok s1=>rw[ht] at h;exact tU (qn hs ht) h
def C8 (text:List UInt8)(s:Rd):Except (Nat × Int) Rd:=
 if (bV text).getLastD []≠[] then .error ((bV text).length - 1,2)
 else if s.st≠5 then .error ((bV text).length - 1,7)
 else .ok s
def cP (text:List UInt8):Except (Nat × Int) Rd:=
 if 8000<text.length then .error (0,3) else match jV 0 yN (bV text).dropLast with
  | .error x=>.error x
  | .ok s=>C8 text s
def Rd.tb (s:Rd):Tb:=⟨s.kd,s.ni,s.no,s.ls⟩
theorem kf {text:List UInt8}{s:Rd}(h:cP text=.ok s):mL s.tb:=by
 unfold cP at h;split at h
 ·cases h
 ·split at h
  ·cases h
  ·rename_i s1 hf;have hok:=tU wY hf;unfold C8 at h;split at h
   ·cases h
   ·split at h
    ·cases h
    ·rename_i h5;injection h with h;subst h;have hn:=hok.no (by omega);exact ⟨hok.kd,hok.ni,hn.1,hn.2,hok.few,hok.ls⟩
theorem ov:∀ {t l:List UInt8},l ∈ bV t→l.length≤t.length
 | [],l,h=>by
  simp[bV] at h;subst h;exact Nat.le_refl _
 | c::t,l,h=>by
  by_cases hc:c=10
  ·subst hc;rw[nI] at h;rcases List.mem_cons.1 h with rfl | h
   ·exact Nat.zero_le _
   ·exact Nat.le_succ_of_le (ov h)
  ·cases hl:bV t with
   | nil=>exact absurd hl (l7 t)
   | cons x xs=>
    rw[jE hc hl] at h;rcases List.mem_cons.1 h with rfl | h
    ·exact Nat.succ_le_succ (ov (by rw[hl];exact .head _))
    ·exact Nat.le_succ_of_le (ov (by rw[hl];exact .tail _ h))
theorem yO {w:World}{kk:Value→World→Prop}(h:kk (uo 1 0 0 (.slice none 0 0)) w):b7 prog 33 [(0,.int .i64 1)] w kk:=bu (fun w=>by kernel_rfl) h
theorem Fy {w:World}{kk:Value→World→Prop}(h:kk (.agg (KY 1 0 0 (.slice none 0 0) 0 (-1))) w):b7 prog 100 [(0,uo 1 0 0 (.slice none 0 0)),(2,.int .i64 (-1))] w kk:=bu (fun w=>by kernel_rfl) h
theorem tV {i:Nat}{s:Rd}{l:List UInt8}{r:List (List UInt8)}:jV i s (l::r)=if l=[]∨l.head?=some 35 then jV (i+1) s r else match mO s l with
  | .error e=>.error (i,e)
  | .ok s'=>jV (i+1) s' r:=rfl
abbrev Im (g2 g5 g6 n:Nat)(ls:List (List UInt8))(s:Rd)(v:Value)(hs:List Hd)(S:Nat→Prop):List cC:=
 [nN g5 s v hs S,own 9 1 (.slice (some ⟨g6,0,none⟩) n n) n (ls.map aU),an g2 33 (dO 0 0 0 (.slice none 0 0))]
theorem MB:enters prog 21=true:=by kernel_rfl
set_option maxHeartbeats 4000000 in
theorem c21 (text:List UInt8)(hl:text.length≤100000)(w:World)(hg:jh w):bt prog 21 [aU text] w fun r w'=>
  (∃ (i:Nat) (e:Int),cP text=.error (i,e)∧r=.tuple #[uo 0 0 0 (.slice none 0 0),.int .i64 (i:Int),.int .i64 e]∧e≠0∧aT w w')∨
  (∃ s v S,cP text=.ok s∧r=.tuple #[uo s.kd s.ni s.no v,.int .i64 0,.int .i64 0]∧eX w w' (pv S v s.ls)):=by
 refine ar (N:=68) func21 MB rfl rfl rfl (by simp) ?_;have H:=Hp.aC w;have hPd:cP text=if 8000<text.length then .error (0,3) else match jV 0 yN (bV text).dropLast with
  | .error x=>.error x
  | .ok s=>C8 text s:=rfl
 refine ak (γ:=Nat) (fun g2=>[(2,(ah g2))]) (fun g2 w'=>Hp w ab w' [an g2 33 (dO 0 0 0 (.slice none 0 0))] []) ?_ ?_
 ·refine H.alloc 33 (cs:=dO 0 0 0 (.slice none 0 0)) nJ rfl ?_;clear H;intro g2 w1 H;exact ⟨g2,⟨rfl,trivial⟩,H⟩
 clear H;rintro g2 u w1 H;have hsz:(⟨text.toArray⟩:ByteArray).size=text.length:=gQ text;refine aw (fun w'=>¬ 8000<text.length∧Hp w ab w' [an g2 33 (dO 0 0 0 (.slice none 0 0))] []) ?_ ?_
 ·refine dY underlying9 ?_;refine au (fun h=>?_) (fun h=>?_)
  ·rw[if_pos (show 8000<text.length by omega)] at hPd;refine iO ?_;refine H.storeAll 0 rfl bJ rfl dA ?_;clear H;intro w2 H;refine H.ai 0 rfl fB bJ ?_;exact ⟨rfl,.inl ⟨0,3,hPd,rfl,by decide,H.keeps⟩⟩
  ·exact ⟨(),trivial,by omega,H⟩
 clear H;rintro ⟨⟩ u w2 ⟨h8,H⟩;rw[if_neg h8] at hPd;refine ak (γ:=Nat) (fun g5=>[(5,(ah g5))]) (fun g5 w'=>Hp w ab w' [nN g5 yN (.slice none 0 0) [] (fun _=>False),an g2 33 (dO 0 0 0 (.slice none 0 0))] []) ?_ ?_
 ·refine yO ?_;refine Fy ?_;refine H.box 100 _ (cs:=KY 1 0 0 (.slice none 0 0) 0 (-1)) rfl ?_;clear H;intro g5 w3 H;have H2:=H.add (aS.refl _ _) (qw (fun _=>False) [] []) (lA.nil _ _) (fun g hg=>hg.elim);exact ⟨g5,⟨rfl,trivial⟩,jo (s:=yN) ((H2.bx 77 3).b6 [2,0,1,3] (by decide) rfl)⟩
 clear H;rintro g5 u w3 H;have hne:=l7 text;have hle:∀ l ∈ bV text,l.length≤100000:=fun l h=>Nat.le_trans (ov h) hl;have hcnt:(bV text).length≤100001:=by rw[lz];have:=List.count_le_length (a:=(10:UInt8)) (l:=text);omega
 have hend:∀ s,C8 text s=if (bV text).getLastD []≠[] then .error ((bV text).length - 1,2) else if s.st≠5 then .error ((bV text).length - 1,7) else .ok s:=fun s=>rfl;have hc47:=OE text hl;generalize bV text=Ls at hPd hne hle hcnt hend hc47;obtain ⟨N,hN⟩:∃ N,Ls.length=N+1:=⟨Ls.length - 1,by have:Ls.length≠0:=fun h=>hne (List.length_eq_zero_iff.1 h);omega⟩;rw[hN] at hc47;simp only[hN,Nat.add_sub_cancel] at hend;refine ak (γ:=Nat) (fun g6=>[(6,.slice (some ⟨g6,0,none⟩) (N+1) (N+1))]) (fun g6 w'=>Hp w ab w' (Im g2 g5 g6 (N+1) Ls yN (.slice none 0 0) [] (fun _=>False)) []) ?_ ?_
 ·refine aj (hc47 _ (hg.same H.keeps)) ?_;rintro _ w4 ⟨g6,rfl,hn⟩;exact ⟨g6,⟨rfl,trivial⟩,(H.bD hn).front 1 rfl⟩
 clear H hc47;rintro g6 u w4 H;refine ak (γ:=Unit) (fun _=>[(7,.int .i64 (N:Int))]) (fun _ w'=>Hp w ab w' (Im g2 g5 g6 (N+1) Ls yN (.slice none 0 0) [] (fun _=>False)) []) ?_ ?_
 ·refine ay underlying73 ?_;have e:IntKind.i64.wrap (((N+1:Nat):Int) - 1)=(N:Int):=by rw[aH (by omega) (by omega)];omega
  exact ⟨(),⟨congrArg (Value.int .i64) e,trivial⟩,H⟩
 clear H;rintro ⟨⟩ u w5 H;have hdl:Ls.dropLast.length=N:=by rw[List.length_dropLast,hN];rfl
 have hat:∀ i,i<N→∃ l,Ls[i]?=some l∧l ∈ Ls∧Ls.dropLast.drop i=l::Ls.dropLast.drop (i+1):=fun i hi=>by
  refine ⟨Ls[i],List.getElem?_eq_getElem (by omega),List.getElem_mem _,?_⟩;rw[List.drop_eq_getElem_cons (by omega),List.getElem_dropLast]
 refine ak (γ:=Rd × Value × List Hd × (Nat→Prop)) (fun _=>[]) (fun (s,v,hs,S) w'=>(qm s∧cP text=C8 text s)∧Hp w ab w' (Im g2 g5 g6 (N+1) Ls s v hs S) []) ?_ ?_
 ·refine vc underlying73 pP rfl (i:=N) (by omega) (Nat.le_refl _) (by omega) ?_;refine ay underlying73 ?_;refine ax (γ:=Nat × Rd × Value × List Hd × (Nat→Prop)) (fun (i,_)=>[(27,.int .i64 (i:Int))]) (fun (i,s,v,hs,S) w'=>(i≤N∧qm s∧jV 0 yN Ls.dropLast=jV i s (Ls.dropLast.drop i))∧Hp w ab w' (Im g2 g5 g6 (N+1) Ls s v hs S) []) (fun (i,_)=>N - i) (0,yN,.slice none 0 0,[],fun _=>False) ⟨rfl,trivial⟩ ⟨⟨Nat.zero_le _,wY,rfl⟩,H⟩ ?_;clear H;rintro ⟨i,s,v,hs,S⟩ u w6 ⟨⟨hi,hok,hf⟩,H⟩;refine au (fun h7=>?_) (fun h7=>?_)
  ·have hiN:i<N:=by omega
   obtain ⟨line,hline,hmem,hdrop⟩:=hat i hiN;rw[hdrop,tV] at hf;have hl1:=hle line hmem;refine ak (γ:=Rd × Value × List Hd × (Nat→Prop)) (fun _=>[]) (fun (s',v,hs,S) w'=>(qm s'∧jV 0 yN Ls.dropLast=jV (i+1) s' (Ls.dropLast.drop (i+1)))∧Hp w ab w' (Im g2 g5 g6 (N+1) Ls s' v hs S) []) ?_ ?_
   ·refine ak (γ:=Unit) (fun _=>[(8,.int .i64 (i:Int)),(9,aU line)]) (fun _ w'=>Hp w ab w' (Im g2 g5 g6 (N+1) Ls s v hs S) []) ?_ ?_
    ·refine aq underlying73 pP i rfl hiN (o':=i) (by omega) ?_;refine H.dX 1 rfl xZ (by rw[List.getElem?_map,hline];rfl) ?_;exact ⟨(),⟨rfl,rfl,trivial⟩,H⟩
    clear H;rintro ⟨⟩ u w7 H;refine aw (fun w'=>¬ (line=[]∨line.head?=some 35)∧Hp w ab w' (Im g2 g5 g6 (N+1) Ls s v hs S) []) ?_ ?_
    ·refine eJ (b:=[]) ?_
     cases line with
     | nil=>
      rw[if_pos (.inl rfl)] at hf
      repeat refine ag rfl ?_
      exact ⟨(s,v,hs,S),trivial,⟨hok,hf⟩,H⟩
     | cons c line=>
      repeat refine af rfl ?_
      refine iA (l:=c::line) (i:=0) (by simp) underlying9 ?_
      repeat refine af rfl ?_
      have hc0:∀ {q:Prop},(c::line=[]∨(c::line).head?=some 35→q)→c=35→q:=fun h e=>h (.inr (by rw[e];rfl));refine cr (fun h=>?_) (fun h=>?_)
      ·have h35:c=35:=UInt8.toNat_inj.1 (show c.toNat=35 from Int.ofNat_inj.1 h);rw[if_pos (.inr (by rw[h35];rfl))] at hf;exact ⟨(s,v,hs,S),trivial,⟨hok,hf⟩,H⟩
      ·refine ⟨(),trivial,fun hh=>?_,H⟩;rcases hh with hh | hh
       ·cases hh
       ·injection hh with hh;exact h (by rw[hh];rfl)
    clear H;rintro ⟨⟩ u w8 ⟨hno,H⟩;rw[if_neg hno] at hf;have hgd':∀ x,Ku x→¬ (nN g5 s v hs S).foot x:=fun x hx hf=>by
     rcases H.new _ (.head _) x hf with h | h
     ·have:=hg.lt x hx;omega
     ·exact h
    have hc:=OM line hl1 g5 s hok.few hok.st hok.told v hs S w8 (hg.same H.keeps) hgd' (H.get 0 rfl);refine aj hc ?_;rintro _ w9 (⟨s',v',hs',S',ht,rfl,hT⟩ | ⟨e,R',ht,rfl,he,hT⟩)
    ·refine af rfl ?_;rw[ht] at hf;exact ⟨(s',v',hs',S'),trivial,⟨qn hok ht,hf⟩,H.b5 0 rfl hT⟩
    ·refine ag (by simpa using he) ?_;rw[ht] at hf;rw[hf] at hPd;have H2:=H.b5 0 rfl hT;refine iO ?_;refine H2.storeAll 2 rfl bJ rfl dA ?_;clear H H2;intro w10 H;refine H.ai 2 rfl fB bJ ?_;exact ⟨rfl,.inl ⟨i,e,hPd,rfl,he,H.keeps⟩⟩
   ·clear H;rintro ⟨s',v',hs',S'⟩ u w8 ⟨⟨hok',hf'⟩,H⟩;exact ⟨(i+1,s',v',hs',S'),by show N - (i+1)<N - i;omega,⟨up (by omega),trivial⟩,⟨by show i+1≤N;omega,hok',hf'⟩,H⟩
  ·obtain rfl:i=N:=by omega
   rw[show Ls.dropLast.drop i=[] from List.drop_eq_nil_of_le (by omega)] at hf;rw[hf] at hPd;exact ⟨(s,v,hs,S),trivial,⟨hok,hPd⟩,H⟩
 clear H;rintro ⟨s,v,hs,S⟩ u w6 ⟨⟨hok,hP⟩,H⟩;rw[hend] at hP;obtain ⟨last,hlast,hlm⟩:∃ l,Ls[N]?=some l∧l ∈ Ls:=⟨Ls[N],List.getElem?_eq_getElem (by omega),List.getElem_mem _⟩;have hgl:Ls.getLastD []=last:=by
  rw[List.getLastD_eq_getLast?,List.getLast?_eq_getElem?,hN];show (Ls[N]?).getD []=last;rw[hlast];rfl
 rw[hgl] at hP;refine aw (fun w'=>(last=[]∧s.st=5)∧Hp w ab w' (Im g2 g5 g6 (N+1) Ls s v hs S) []) ?_ ?_
 ·refine aq underlying73 pP N rfl (by omega) (o':=N) (by omega) ?_;refine H.dX 1 rfl xZ (by rw[List.getElem?_map,hlast];rfl) ?_;refine gE (b:=[]) ?_;by_cases hl0:last=[]
  ·rw[if_neg (fun h=>h hl0)] at hP;refine af (by rw[hl0];rfl) ?_;have H2:=Hp.split (Ls:=oV g5 s v hs S) H;refine aa (g_ _) ?_;refine H2.load 0 rfl aE rfl ?_;by_cases h5:s.st=5
   ·refine af (by rw[h5];rfl) ?_;exact ⟨(),trivial,⟨hl0,h5⟩,H⟩
   ·rw[if_pos h5] at hP;refine ag (bne_iff_ne.2 (by omega)) ?_;refine iO ?_;refine H.storeAll 2 rfl bJ rfl dA ?_;clear H H2;intro w10 H;refine H.ai 2 rfl fB bJ ?_;exact ⟨rfl,.inl ⟨N,7,hP,rfl,by decide,H.keeps⟩⟩
  ·rw[if_pos hl0] at hP;refine ag (by simpa using hl0) ?_;refine iO ?_;refine H.storeAll 2 rfl bJ rfl dA ?_;clear H;intro w10 H;refine H.ai 2 rfl fB bJ ?_;exact ⟨rfl,.inl ⟨N,2,hP,rfl,by decide,H.keeps⟩⟩
 clear H;rintro ⟨⟩ u w7 ⟨⟨hl0,h5⟩,H⟩;rw[if_neg (fun h=>h hl0),if_neg (fun h=>h h5)] at hP;have H2:=Hp.split (Ls:=oV g5 s v hs S) H;clear H;obtain ⟨A,c,rfl,hc⟩:=e9 (H2.get 1 rfl);refine aa (fu _) ?_;refine H2.cW 0 rfl (dO s.kd s.ni s.no (.slice A s.ls.length c)).toList fB bJ (fun j u hj=>?_) ?_
 ·match j,hj with
  | 0,hj=>exact hj
  | 1,hj=>exact hj
  | 2,hj=>exact hj
  | 3,hj=>exact hj
  | j+4,hj=>simp[dO] at hj
 refine H2.storeAll 4 rfl bJ rfl dA ?_;clear H2;intro w8 H;refine H.ai 4 rfl fB bJ ?_;refine ⟨rfl,.inr ⟨s,.slice A s.ls.length c,_,hP,rfl,wR H.keeps (H.get 1 rfl) (fun g hg=>⟨(H.new _ (.tail _ (.head _)) g hg).resolve_right id,H.lt _ (.tail _ (.head _)) g hg⟩) (H.get 2 rfl) (fun g hg=>⟨(H.new _ (.tail _ (.tail _ (.head _))) g hg).resolve_right id,H.lt _ (.tail _ (.tail _ (.head _))) g hg⟩) rfl⟩⟩
theorem BK {w0 w:World}{F:Nat→Prop}{L M:List cC}{g k:Nat}{x:Int}{kk:Value→World→Prop}(H:Hp w0 F w (an g 5 #[.int .u8 x]::L) M)(hk:k<256)(hx:x=(k:Int))(h:kk (aU [UInt8.ofNat k]) w) :
  pC prog 151 9 (.slice (some ⟨g,0,none⟩) 1 1) w kk:=by
 have H2:=H.pf (l:=1) (sz:=1) rfl (by decide);refine H2.sO (bs:=[UInt8.ofNat k]) 0 underlying151 underlying5 underlying9 ?_ h;have e:(UInt8.ofNat k).toNat=k:=by simp;omega
 show some (own 5 1 (.slice (some ⟨g,0,none⟩) 1 1) 1 [.int .u8 x])=some (own 5 1 (.slice (some ⟨g,0,none⟩) 1 1) 1 [.int .u8 ((UInt8.ofNat k).toNat:Int)]);rw[hx,e]
theorem yP {x:Nat}(h:x<10):IntKind.u8.wrap (IntKind.i64.wrap (48+(x:Int)))=((48+x:Nat):Int):=by
 rw[aH (by omega) (by omega),mo (by omega) (by omega)];omega
theorem MC:enters prog 63=true:=by kernel_rfl
theorem ON (n:Nat)(hn:n<100)(w:World):bt prog 63 [.int .i64 (n:Int)] w fun r w'=>r=aU (da n)∧aT w w':=by
 refine ar (N:=21) func63 MC rfl rfl rfl (by simp) ?_;have H:=Hp.aC w;have e1:(n:Int) % (10:Int)=((n % 10:Nat):Int):=by omega
 have e2:(n:Int) / (10:Int)=((n / 10:Nat):Int):=by omega
 refine ak (γ:=Unit) (fun _=>[(2,aU [])]) (fun _ w'=>Hp w ab w' [] []) ⟨(),⟨rfl,trivial⟩,H⟩ ?_;clear H;rintro ⟨⟩ u w1 H;refine ak (γ:=Unit) (fun _=>[(3,aU [UInt8.ofNat (48+n % 10)])]) (fun _ w'=>Hp w ab w' [] []) ?_ ?_
 ·refine nf (by omega) (by omega) ?_;refine jx (by kernel_rfl) underlying5 ?_;refine H.aX DU rfl ?_;clear H;intro g w2 H;refine BK (k:=48+n % 10) H (by omega) (by rw[e1];exact yP (by omega)) ?_;exact ⟨(),⟨rfl,trivial⟩,H.forget⟩
 clear H;rintro ⟨⟩ u w2 H;refine aw (fun w'=>¬ n<10∧Hp w ab w' [] []) ?_ ?_
 ·refine au (fun h=>?_) (fun h=>?_)
  ·have h:n<10:=by have h:(n:Int)<10:=h;omega
   refine ⟨congrArg aU (show [UInt8.ofNat (48+n % 10)]=da n from ?_),H.keeps⟩;unfold da;rw[if_pos h,Nat.mod_eq_of_lt h]
  ·exact ⟨(),trivial,fun hh=>h (show (n:Int)<10 by omega),H⟩
 clear H;rintro ⟨⟩ u w3 ⟨h10,H⟩;refine nc (by omega) (by omega) (by omega) ?_;refine jx (by kernel_rfl) underlying5 ?_;refine H.aX DU rfl ?_;clear H;intro g w4 H;refine BK (k:=48+n / 10) H (by omega) (by rw[e2];exact yP (by omega)) ?_;refine a7 (by simp) ?_;refine ⟨congrArg aU (show [UInt8.ofNat (48+n / 10)]++[UInt8.ofNat (48+n % 10)]=da n from ?_),H.keeps⟩;unfold da;rw[if_neg h10];rfl
theorem MD:enters prog 31=true:=by kernel_rfl
theorem c31 (w:World):bt prog 31 [] w fun r w'=>∃ g,r=.slice (some ⟨g,0,none⟩) 4 4∧eX w w' (an g 9 Ky):=by
 refine ar (N:=2) func31 MD rfl rfl rfl (by simp) ?_;have H:=Hp.aC w;refine H.bg Nj (cs:=Ky) (by decide) (by decide) (by kernel_rfl) ?_;clear H;intro g w1 H;exact ⟨g,rfl,H.out⟩
theorem ME:enters prog 30=true:=by kernel_rfl
theorem NZ (line wd:List UInt8)(hw:wd.length≤10)(lo hi:Nat)(hhi:hi<65)(hlo:lo≤hi)(w:World):bt prog 30 [aU line,aU wd,.int .i64 (lo:Int),.int .i64 (hi:Int)] w fun r w'=>r=.int .i64 (d_ wd lo hi line)∧aT w w':=by
 refine ar (N:=24) func30 ME rfl rfl rfl (by simp) ?_;have H:=Hp.aC w;refine ak (γ:=Unit) (fun _=>[(8,.int .i64 0)]) (fun _ w'=>Hp w ab w' [] []) ⟨(),⟨rfl,trivial⟩,H⟩ ?_;clear H;rintro ⟨⟩ u w1 H;refine aw (fun w'=>(∀ m,lo≤m→m≤hi→line≠wd++32::da m)∧Hp w ab w' [] []) ?_ ?_
 ·refine ax (γ:=Nat) (fun n=>[(9,.int .i64 (n:Int))]) (fun n w'=>(lo≤n∧n≤hi+1∧∀ m,lo≤m→m<n→line≠wd++32::da m)∧Hp w ab w' [] []) (fun n=>hi+1 - n) lo ⟨rfl,trivial⟩ ⟨⟨Nat.le_refl _,by omega,fun m h1 h2=>by omega⟩,H⟩ ?_;clear H;rintro n u w2 ⟨⟨h1,h2,hno⟩,H⟩;refine au (fun h7=>?_) (fun h7=>?_)
  ·have hn:n≤hi:=by have h7:(n:Int)≤(hi:Int):=h7;omega
   have hdl:=jK n;refine aw (fun w'=>line≠wd++32::da n∧Hp w ab w' [] []) ?_ ?_
   ·refine a7 (b:=[32]) (by simp only[List.length_cons,List.length_nil];omega) ?_;refine aj (ON n (by omega) _) ?_;rintro _ w3 ⟨rfl,hk⟩;replace H:=H.same hk;refine a7 (by simp only[List.length_append,List.length_cons,List.length_nil];omega) ?_;refine eJ ?_;have e:wd++[32]++da n=wd++32::da n:=by simp
    rw[e];refine aF (fun hb=>?_) (fun hb=>?_)
    ·exact ⟨by rw[BJ hhi h1 hn (beq_iff_eq.1 hb)];rfl,H.keeps⟩
    ·exact ⟨(),trivial,fun h=>by rw[h] at hb;simp at hb,H⟩
   ·clear H;rintro ⟨⟩ u w3 ⟨hne,H⟩;exact ⟨n+1,by show hi+1 - (n+1)<hi+1 - n;omega,⟨up (by omega),trivial⟩,⟨by show lo≤n+1;omega,by show n+1≤hi+1;omega,fun m hm1 hm2=>by rcases Nat.lt_succ_iff_lt_or_eq.1 hm2 with h | h;exact hno m hm1 h;subst h;exact hne⟩,H⟩
  ·have hn:hi<n:=by have h7:¬ (n:Int)≤(hi:Int):=h7;omega
   exact ⟨(),trivial,fun m hm1 hm2=>hno m hm1 (by omega),H⟩
 clear H;rintro ⟨⟩ u w2 ⟨hno,H⟩;exact ⟨by rw[vt hno];rfl,H.keeps⟩
def rP (ni no:Nat)(line:List UInt8):Option Ln:=
 if (line.length=ni+1+no∧bl (line.take ni)=true∧line[ni]?=some 32)∧(line.drop (ni+1)).all gL=true then
  some (dJ (line.take ni) ni,dK (line.take ni) ni,(line.drop (ni+1)).map bM)
 else none
def xK (c:UInt8):Nat→Nat
 | 0=>3
 | m+1=>if c=gH m then m else xK c m
theorem Kz (c:UInt8):xK c 3=if gL c then bM c else 3:=by
 by_cases h0:c=48
 ·subst h0;decide
 ·by_cases h1:c=49
  ·subst h1;decide
  ·by_cases h2:c=45
   ·subst h2;decide
   ·have e0:gH 0=48:=rfl;have e1:gH 1=49:=rfl;have e2:gH 2=45:=rfl;simp only[xK,e0,e1,e2,if_neg h0,if_neg h1,if_neg h2];unfold gL;simp[h0,h1,h2]
theorem Fz {m:Nat}(h:m<3):(#[aU [48],aU [49],aU [45]]:Array Value)[m]?=some (aU [gH m]):=by
 rcases (by omega:m=0∨m=1∨m=2) with rfl | rfl | rfl <;> rfl
theorem tW {l:List UInt8}{k:Nat}(h:k<l.length):(l.take (k+1)).drop k=[l[k]]:=by
 rw[List.take_add_one,List.getElem?_eq_getElem h,List.drop_append_of_le_length (by rw[List.length_take];omega),List.drop_eq_nil_of_le (by rw[List.length_take];omega)];rfl
theorem FA (c:UInt8):bM c<3:=by
 unfold bM;split
 ·decide
 ·split <;> decide
theorem yQ {w:World}{kk:Value→World→Prop}(h:kk (.agg (fH 0 0 (.slice none 0 0))) w):b7 prog 77 [] w kk:=bu (fun w=>by kernel_rfl) h
theorem MF:enters prog 32=true:=by kernel_rfl
set_option maxHeartbeats 4000000 in
theorem OO (line:List UInt8)(hl:line.length≤100000)(ni no:Nat)(hni:ni≤8)(hno:no≤4)(w:World):bt prog 32 [aU line,.int .i64 (ni:Int),.int .i64 (no:Int)] w fun r w'=>
  (rP ni no line=none∧∃ m v B n c,r=.tuple #[.agg (fH m v (.slice B n c)),.bool false]∧aT w w')∨
  (∃ l B c,rP ni no line=some l∧r=.tuple #[.agg (fH l.1 l.2.1 (.slice B l.2.2.length c)),.bool true]∧eX w w' (own 3 1 (.slice B l.2.2.length c) l.2.2.length (ints l.2.2))):=by
 refine ar (N:=71) func32 MF rfl rfl rfl (by simp) ?_;have H:=Hp.aC w;have hsz:(⟨line.toArray⟩:ByteArray).size=line.length:=gQ line;have hR:rP ni no line=if (line.length=ni+1+no∧bl (line.take ni)=true∧line[ni]?=some 32)∧(line.drop (ni+1)).all gL=true then some (dJ (line.take ni) ni,dK (line.take ni) ni,(line.drop (ni+1)).map bM) else none:=rfl;refine ak (γ:=Nat) (fun g6=>[(6,(ah g6)),(7,.bool false)]) (fun g6 w'=>Hp w ab w' [an g6 77 (fH 0 0 (.slice none 0 0))] []) ?_ ?_
 ·refine H.alloc 77 (cs:=fH 0 0 (.slice none 0 0)) lB rfl ?_;clear H;intro g6 w1 H;exact ⟨g6,⟨rfl,rfl,trivial⟩,H⟩
 clear H;rintro g6 u w1 H;refine aw (fun w'=>line.length=ni+1+no∧Hp w ab w' [an g6 77 (fH 0 0 (.slice none 0 0))] []) ?_ ?_
 ·refine dY underlying9 ?_;have e:IntKind.i64.wrap (IntKind.i64.wrap ((ni:Int)+1)+(no:Int))=((ni+1+no:Nat):Int):=by
   rw[aH (x:=(ni:Int)+1) (by omega) (by omega),aH (by omega) (by omega)];omega
  refine de (fun h=>?_) (fun h=>?_)
  ·rw[if_neg (fun hh=>h (by rw[e];have:=hh.1.1;omega))] at hR;refine yQ ?_;refine H.storeAll 0 rfl cY rfl (eM (m:=0) (v:=0)) ?_;clear H;intro w2 H;refine H.ai 0 rfl l9 cY ?_;exact ⟨rfl,.inl ⟨hR,0,0,none,0,0,rfl,H.keeps⟩⟩
  ·refine ⟨(),trivial,?_,H⟩;rw[e] at h;omega
 clear H;rintro ⟨⟩ u w2 ⟨hlen,H⟩;have htl:(line.take ni).length=ni:=by rw[List.length_take];omega
 refine ak (γ:=Nat) (fun g8=>[(8,(ah g8)),(9,.bool (bl (line.take ni)))]) (fun g8 w'=>Hp w ab w' [an g8 48 (cc (if bl (line.take ni) then dJ (line.take ni) ni else 0) (if bl (line.take ni) then dK (line.take ni) ni else 0)),an g6 77 (fH 0 0 (.slice none 0 0))] []) ?_ ?_
 ·refine Ap underlying9 ni rfl (by omega) ?_;refine aj (Ot (line.take ni) (by omega) _) ?_;rintro _ w3 ⟨rfl,hk⟩;replace H:=H.same hk;clear hk;have e:je (line.take ni)=cv (if bl (line.take ni) then dJ (line.take ni) ni else 0) (if bl (line.take ni) then dK (line.take ni) ni else 0):=by unfold je;rw[htl];split <;> rfl
  rw[e];refine H.alloc 48 (cs:=cc 0 0) fa rfl ?_;clear H;intro g8 w4 H;refine H.bQ 0 rfl ?_;clear H;intro w5 H;exact ⟨g8,⟨rfl,rfl,trivial⟩,H⟩
 clear H;rintro g8 u w3 H;generalize hm:(if bl (line.take ni) then dJ (line.take ni) ni else 0)=m at H;generalize hv:(if bl (line.take ni) then dK (line.take ni) ni else 0)=v at H;refine ak (γ:=Nat) (fun g10=>[(10,(ah g10))]) (fun g10 w'=>Hp w ab w' [an g10 77 (fH m v (.slice none 0 0)),own 3 1 (.slice none 0 0) 0 [],an g6 77 (fH 0 0 (.slice none 0 0))] []) ?_ ?_
 ·refine H.ai 0 rfl bw aO ?_;refine wV ?_;refine H.alloc 77 (cs:=fH 0 0 (.slice none 0 0)) lB rfl ?_;clear H;intro g10 w6 H;refine H.storeAll 0 rfl cY rfl (eM (m:=m) (v:=v)) ?_;clear H;intro w7 H;exact ⟨g10,⟨rfl,trivial⟩,(H.bx 3 1).b6 [1,0,3] (by decide) rfl⟩
 clear H;rintro g10 u w4 H;refine ak (γ:=Option Addr × Nat) (fun _=>[]) (fun (B,d) w'=>(line.drop (ni+1)).all gL=true∧Hp w ab w' [an g10 77 (fH m v (.slice B no d)),own 3 1 (.slice B no d) no (ints ((line.drop (ni+1)).map bM)),an g6 77 (fH 0 0 (.slice none 0 0))] []) ?_ ?_
 ·refine ax (γ:=Nat × Option Addr × Nat) (fun (j,_)=>[(11,.int .i64 ((ni+1+j:Nat):Int))]) (fun (j,B,d) w'=>(j≤no∧∀ i (h:i<(line.drop (ni+1)).length),i<j→gL (line.drop (ni+1))[i]=true)∧Hp w ab w' [an g10 77 (fH m v (.slice B j d)),own 3 1 (.slice B j d) j (ints (((line.drop (ni+1)).take j).map bM)),an g6 77 (fH 0 0 (.slice none 0 0))] []) (fun (j,_)=>no - j) (0,none,0) ⟨up (by omega),trivial⟩ ⟨⟨Nat.zero_le _,fun i _ h=>by omega⟩,H⟩ ?_;clear H;rintro ⟨j,B,d⟩ u w5 ⟨⟨hj,hall⟩,H⟩;refine dY underlying9 ?_;refine au (fun h7=>?_) (fun h7=>?_)
  ·have hjn:j<no:=by omega
   have hk:ni+1+j<line.length:=by omega
   have hdl:j<(line.drop (ni+1)).length:=by rw[List.length_drop];omega
   have hge:(line.drop (ni+1))[j]=line[ni+1+j]:=by rw[List.getElem_drop]
   refine ak (γ:=Option Addr × Nat) (fun _=>[]) (fun (B,d) w'=>gL line[ni+1+j]=true∧Hp w ab w' [an g10 77 (fH m v (.slice B (j+1) d)),own 3 1 (.slice B (j+1) d) (j+1) (ints (((line.drop (ni+1)).take (j+1)).map bM)),an g6 77 (fH 0 0 (.slice none 0 0))] []) ?_ ?_
   ·have hbadR:gL line[ni+1+j]=false→rP ni no line=none:=fun h=>by
     rw[hR,if_neg];rintro ⟨_,h2⟩;rw[List.all_eq_true] at h2;have:=h2 _ (List.getElem_mem hdl);rw[hge,h] at this
     cases this
    generalize hc:line[ni+1+j]=c at hbadR hge;refine ak (γ:=Unit) (fun _=>[(12,.int .i64 ((3:Nat):Int))]) (fun _ w'=>Hp w ab w' [an g10 77 (fH m v (.slice B j d)),own 3 1 (.slice B j d) j (ints (((line.drop (ni+1)).take j).map bM)),an g6 77 (fH 0 0 (.slice none 0 0))] []) ⟨(),⟨rfl,trivial⟩,H⟩ ?_;clear H;rintro ⟨⟩ u w6 H;refine ak (γ:=Unit) (fun _=>[(12,.int .i64 ((xK c 3:Nat):Int))]) (fun _ w'=>Hp w ab w' [an g10 77 (fH m v (.slice B j d)),own 3 1 (.slice B j d) j (ints (((line.drop (ni+1)).take j).map bM)),an g6 77 (fH 0 0 (.slice none 0 0))] []) ?_ ?_
    ·refine ax (γ:=Nat) (fun q=>[(13,.int .i64 (q:Int)),(12,.int .i64 ((xK c q:Nat):Int))]) (fun q w'=>q≤3∧Hp w ab w' [an g10 77 (fH m v (.slice B j d)),own 3 1 (.slice B j d) j (ints (((line.drop (ni+1)).take j).map bM)),an g6 77 (fH 0 0 (.slice none 0 0))] []) (fun q=>3 - q) 0 ⟨rfl,rfl,trivial⟩ ⟨Nat.zero_le _,H⟩ ?_;clear H;rintro q u w7 ⟨hq,H⟩;refine au (fun h9=>?_) (fun h9=>?_)
     ·have hq3:q<3:=by have h9:(q:Int)<3:=h9;omega
      refine ak (γ:=Unit) (fun _=>[(12,.int .i64 ((xK c (q+1):Nat):Int))]) (fun _ w'=>Hp w ab w' [an g10 77 (fH m v (.slice B j d)),own 3 1 (.slice B j d) j (ints (((line.drop (ni+1)).take j).map bM)),an g6 77 (fH 0 0 (.slice none 0 0))] []) ?_ ?_
      ·refine uL (fun i=>i==8) (fun u=>Hp w ab u [] []) eS (by kernel_rfl) ((H.same (aS.drew _)).b6 [] (by decide) rfl) ?_;replace H:=H.same (aS.drew _);generalize w7.drew=w8 at H;refine quiet (aU [c]) (fun w H=>q8 underlying9 (ni+1+j) (ni+1+j+1) rfl (aH (by omega) (by omega)) (by omega) (by omega) (by rw[tW hk,hc];exact ⟨rfl,rfl⟩)) ?_;refine H.bg Nj (cs:=#[aU [48],aU [49],aU [45]]) (by decide) (by decide) (by kernel_rfl) ?_;clear H;intro gx w9 H;refine ⟨.inl (H.b6 [] (by decide) rfl),?_⟩;refine quiet _ (fun w H=>aq underlying73 pP q rfl hq3 (o':=q) (by omega) ae) ?_;refine H.load 0 rfl xZ (Fz hq3) ?_;refine ⟨.inl (H.b6 [] (by decide) rfl),?_⟩;refine quiet _ (fun w H=>eJ ae) ?_;have hx:xK c (q+1)=if c=gH q then q else xK c q:=rfl;refine aF (fun hb=>?_) (fun hb=>?_)
       ·have hb:c=gH q:=by simpa using hb
        exact ⟨(),⟨congrArg (fun z:Nat=>Value.int .i64 (z:Int)) (show q=xK c (q+1) by rw[hx,if_pos hb]),trivial⟩,H.forget⟩
       ·have hb:c≠gH q:=by simpa using hb
        exact ⟨(),⟨congrArg (fun z:Nat=>Value.int .i64 (z:Int)) (show xK c q=xK c (q+1) by rw[hx,if_neg hb]),trivial⟩,H.forget⟩
      ·clear H;rintro ⟨⟩ u w8 H;exact ⟨q+1,by show 3 - (q+1)<3 - q;omega,⟨up (by omega),rfl,trivial⟩,by show q+1≤3;omega,H⟩
     ·have hq3:q=3:=by have h9:¬ (q:Int)<3:=h9;omega
      subst hq3;exact ⟨(),⟨rfl,trivial⟩,H⟩
    clear H;rintro ⟨⟩ u w7 H;rw[Kz];refine aw (fun w'=>gL c=true∧Hp w ab w' [an g10 77 (fH m v (.slice B j d)),own 3 1 (.slice B j d) j (ints (((line.drop (ni+1)).take j).map bM)),an g6 77 (fH 0 0 (.slice none 0 0))] []) ?_ ?_
    ·cases hb:gL c with
     | false=>
      refine ag rfl ?_;refine yQ ?_;refine H.storeAll 2 rfl cY rfl (eM (m:=0) (v:=0)) ?_;clear H;intro w8 H;refine H.ai 2 rfl l9 cY ?_;exact ⟨rfl,.inl ⟨hbadR hb,0,0,none,0,0,rfl,H.keeps⟩⟩
     | true=>
      refine af ?_ ?_
      ·rw[beq_eq_false_iff_ne];have:=FA c;show ((bM c:Nat):Int)≠3;omega
      ·exact ⟨(),trivial,rfl,H⟩
    clear H;rintro ⟨⟩ u w8 ⟨hb,H⟩;rw[hb];refine aa (eE _) ?_;refine H.load 0 rfl fq rfl ?_;refine H.aX dy rfl ?_;clear H;intro gx w9 H;refine H.aG 2 0 dy rfl rfl rfl (fun u hu=>by rw[List.mem_singleton.1 hu];rfl) (by omega) (by omega) ?_;clear H;intro B4 d4 w10 H;replace H:=H.forget;refine aa (eE _) ?_;refine H.store 0 rfl qg (Nat.le_of_ble_eq_true rfl) rfl ?_;clear H;intro w11 H;refine ⟨(B4,d4),trivial,rfl,?_⟩;rw[tR hdl,hge,← jd];exact H
   ·clear H;rintro ⟨B2,d2⟩ u w6 ⟨hb,H⟩;refine ⟨(j+1,B2,d2),by show no - (j+1)<no - j;omega,⟨up (by omega),trivial⟩,⟨by show j+1≤no;omega,lg hall (hi:=hdl) (by rw[hge];exact hb)⟩,H⟩
  ·obtain rfl:j=no:=by omega
   have hdl:(line.drop (ni+1)).length=j:=by rw[List.length_drop];omega
   refine ⟨(B,d),trivial,List.all_eq_true.2 fun c hc=>by obtain ⟨i,hi,rfl⟩:=List.getElem_of_mem hc;exact hall i hi (by omega),?_⟩;rw[List.take_of_length_le (by omega)] at H;exact H
 clear H;rintro ⟨B,d⟩ u w5 ⟨hall,H⟩;have hni':ni<line.length:=by omega
 refine H.fg [an g10 77 (fH m v (.slice B no d))] (fun u h=>h.b6 [0] (by decide) rfl) eS (by kernel_rfl) ?_;clear H;intro w6 H;refine quiet _ (fun w H=>H.ai 0 rfl l9 cY ae) ?_
 cases hpo:bl (line.take ni) with
 | false=>
  rw[if_neg (fun hh=>by rw[hpo] at hh;exact absurd hh.1.2.1 (by simp))] at hR
  repeat refine af rfl ?_
  refine H.storeAll 2 rfl cY rfl eM ?_;clear H;intro w7 H;refine ⟨.inl (H.b6 [0] (by decide) rfl),?_⟩;refine H.ai 2 rfl l9 cY ?_;exact ⟨rfl,.inl ⟨hR,m,v,B,no,d,rfl,H.keeps⟩⟩
 | true=>
  rw[hpo,if_pos rfl] at hm hv
  repeat refine ag rfl ?_
  refine quiet _ (fun w H=>iA hni' underlying9 ae) ?_
  repeat refine ag rfl ?_
  refine H.storeAll 2 rfl cY rfl eM ?_;clear H;intro w7 H;refine ⟨.inl (H.b6 [0] (by decide) rfl),?_⟩;refine H.ai 2 rfl l9 cY ?_;have hgt:line[ni]?=some line[ni]:=List.getElem?_eq_getElem hni';by_cases h32:line[ni]=32
  ·rw[if_pos ⟨⟨hlen,hpo,by rw[hgt,h32]⟩,hall⟩,hm,hv] at hR;have hll:((line.drop (ni+1)).map bM).length=no:=by rw[List.length_map,List.length_drop];omega
   refine ⟨rfl,.inr ⟨(m,v,(line.drop (ni+1)).map bM),B,d,hR,?_,?_⟩⟩
   ·show Value.tuple #[_,_]=Value.tuple #[.agg (fH m v (.slice B ((line.drop (ni+1)).map bM).length d)),_];rw[hll,h32];rfl
   ·show eX w w7 (own 3 1 (.slice B ((line.drop (ni+1)).map bM).length d) ((line.drop (ni+1)).map bM).length (ints ((line.drop (ni+1)).map bM)));rw[hll];exact H.uG 1 rfl
  ·rw[if_neg (fun hh=>h32 (by have:=hh.1.2.2;rw[hgt] at this;exact Option.some.inj this))] at hR;refine ⟨rfl,.inl ⟨hR,m,v,B,no,d,?_,H.keeps⟩⟩;have e:((line[ni].toNat:Int)==32)=false:=beq_eq_false_iff_ne.2 fun h=>h32 (UInt8.toNat_inj.1 (show line[ni].toNat=32 from Int.ofNat_inj.1 h));rw[e];rfl
theorem yR (s:List UInt8):Lib.index (32::s) [32]=0:=by
 show (if [32].isPrefixOf (32::s) then _ else _)=_;rw[if_pos (by simp)]
theorem yS {c:UInt8}(h:c≠32)(s:List UInt8):Lib.index (c::s) [32]=if Lib.index s [32]== -1 then -1 else Lib.index s [32]+1:=by
 show (if [32].isPrefixOf (c::s) then _ else _)=_;rw[if_neg (by simp;exact fun e=>h e.symm)]
theorem FB:∀ (a b:List UInt8),(∀ c ∈ a,c≠32)→Lib.index (a++32::b) [32]=(a.length:Int)
 | [],b,_=>yR b
 | c::a,b,h=>by
  rw[List.cons_append,yS (h c (.head _)),FB a b fun x hx=>h x (.tail _ hx)];rw[if_neg (by simp)];simp
theorem KA {a b:List UInt8}(h:∀ c ∈ a,c≠32):Lib.cut (a++32::b) [32]=(a,b,true):=by
 unfold Lib.cut;rw[FB a b h,if_pos (by omega)];simp
theorem yT:∀ {l:List UInt8} {i:Nat},Lib.index l [32]=(i:Int)→l=l.take i++32::l.drop (i+1)
 | [],i,h=>by
  have:Lib.index [] [32]= -1:=rfl;rw[this] at h;omega
 | c::l,i,h=>by
  by_cases hc:c=32
  ·subst hc;rw[yR] at h;obtain rfl:i=0:=by omega
   rfl
  ·rw[yS hc] at h;split at h
   ·omega
   ·rename_i hh;have hge:-1≤Lib.index l [32]:=Lib.index_ge l [32];have hne:Lib.index l [32]≠ -1:=by simpa using hh
    obtain ⟨k,rfl⟩:∃ k,i=k+1:=⟨i - 1,by omega⟩;have ih:=yT (l:=l) (i:=k) (by omega);rw[List.take_succ_cons,List.drop_succ_cons,List.cons_append,← ih]
theorem KB {l:List UInt8}(h:(Lib.cut l [32]).2.2=true):l=(Lib.cut l [32]).1++32::(Lib.cut l [32]).2.1:=by
 unfold Lib.cut at h ⊢;split at h
 ·rename_i h0;rw[if_pos h0];have:=yT (l:=l) (i:=(Lib.index l [32]).toNat) (by omega);exact this
 ·cases h
theorem Hv {c:UInt8}(h:gL c=true):c≠32:=by
 rintro rfl;exact absurd h (by decide)
theorem rQ {a:List UInt8}(h:bl a=true):∀ c ∈ a,gL c=true:=by
 unfold bl at h;rw[Bool.and_eq_true,List.all_eq_true] at h;exact h.2
theorem tX (ni no:Nat)(line:List UInt8):rP ni no line=kR ni no line:=by
 by_cases h:(line.length=ni+1+no∧bl (line.take ni)=true∧line[ni]?=some 32)∧(line.drop (ni+1)).all gL=true
 ·obtain ⟨⟨h1,h2,h3⟩,h4⟩:=h;have hlt:ni<line.length:=by omega
  have hd:line=line.take ni++32::line.drop (ni+1):=by
   have e:line.drop ni=32::line.drop (ni+1):=by
    rw[List.drop_eq_getElem_cons hlt];rw[List.getElem?_eq_getElem hlt] at h3;rw[Option.some.inj h3]
   rw[← e,List.take_append_drop]
  have hc:Lib.cut line [32]=(line.take ni,line.drop (ni+1),true):=by
   have:=KA (a:=line.take ni) (b:=line.drop (ni+1)) fun c hc=>Hv (rQ h2 c hc);rw[← hd] at this;exact this
  have hl1:(line.take ni).length=ni:=by rw[List.length_take];omega
  have hl2:(line.drop (ni+1)).length=no:=by rw[List.length_drop];omega
  unfold rP kR;rw[hc,if_pos ⟨⟨h1,h2,h3⟩,h4⟩,if_pos ⟨by unfold mg;rw[h2,hl1,hl2];simp,h4⟩,hl1]
 ·unfold rP;rw[if_neg h];unfold kR;rw[if_neg];rintro ⟨hr,hb⟩;apply h;unfold mg at hr;simp only[Bool.and_eq_true,beq_iff_eq] at hr;obtain ⟨⟨⟨hok,hp⟩,hla⟩,hlb⟩:=hr;have hd:=KB hok;generalize Lib.cut line [32]=q at *;obtain ⟨a,b,ok⟩:=q;simp only at *;subst hd;subst hla;refine ⟨⟨by rw[List.length_append,List.length_cons,hlb];omega,by rw[List.take_left];exact hp,by rw[List.getElem?_append_right (Nat.le_refl _)];simp⟩,?_⟩;rw[show a++32::b=(a++[32])++b by simp,List.drop_left' (by simp)];exact hb
theorem Hw {ni no:Nat}{r:List UInt8}:kR ni no (46::r)=none:=by
 rw[← tX];unfold rP;rw[if_neg];rintro ⟨⟨h1,h2,h3⟩,h4⟩
 cases ni with
 | zero=>simp at h3
 | succ n=>exact absurd (rQ h2 46 (by simp)) (by decide)
theorem tY {wd line:List UInt8}{lo hi:Nat}(h:0≤d_ wd lo hi line):∃ r,line=wd++32::r:=by
 obtain ⟨n,_,_,_,h⟩:=vu h;exact ⟨_,h⟩
def tZ (s:Rd)(line:List UInt8)(kind:Int)(n:Int):Option Rd:=
 if 0≤kind then (if s.st=2 then some { s with kd:=kind.toNat,st:=3 } else none)
 else if 0≤n then (if s.st<4 then some { s with told:=n,st:=4 } else none)
 else if line=[46,101] then (if s.told<0∨s.told=s.ls.length then some { s with st:=5 } else none)
 else match kR s.ni s.no line with
  | some l=>if 64≤s.ls.length then none else some { s with st:=4,ls:=s.ls++[l] }
  | none=>none
def fj (line:List UInt8):Nat→Int
 | 0=> -1
 | k+1=>if line=[46,116,121,112,101,32]++eA k then (k:Int) else fj line k
def rR (s:Rd)(line:List UInt8):Option Rd:=
 if s.st=0 then (if 0≤d_ [46,105] 0 8 line then some { s with ni:=(d_ [46,105] 0 8 line).toNat,st:=1 } else none)
 else if s.st=1 then (if 0≤d_ [46,111] 1 4 line then some { s with no:=(d_ [46,111] 1 4 line).toNat,st:=2 } else none)
 else if s.st=5 then none
 else tZ s line (fj line 4) (d_ [46,112] 0 64 line)
def N0 {α:Type}:Except Int α→Option α
 | .ok a=>some a
 | .error _=>none
theorem Au (line:List UInt8):(∃ k:Nat,k<4∧fj line 4=(k:Int)∧line=[46,116,121,112,101,32]++eA k)∨(fj line 4= -1∧∀ k:Nat,k<4→line≠[46,116,121,112,101,32]++eA k):=by
 by_cases h3:line=[46,116,121,112,101,32]++eA 3
 ·exact .inl ⟨3,by decide,by unfold fj;rw[if_pos h3],h3⟩
 ·by_cases h2:line=[46,116,121,112,101,32]++eA 2
  ·exact .inl ⟨2,by decide,by unfold fj;rw[if_neg h3];unfold fj;rw[if_pos h2],h2⟩
  ·by_cases h1:line=[46,116,121,112,101,32]++eA 1
   ·exact .inl ⟨1,by decide,by unfold fj;rw[if_neg h3];unfold fj;rw[if_neg h2];unfold fj;rw[if_pos h1],h1⟩
   ·by_cases h0:line=[46,116,121,112,101,32]++eA 0
    ·exact .inl ⟨0,by decide,by unfold fj;rw[if_neg h3];unfold fj;rw[if_neg h2];unfold fj;rw[if_neg h1];unfold fj;rw[if_pos h0],h0⟩
    ·refine .inr ⟨by unfold fj;rw[if_neg h3];unfold fj;rw[if_neg h2];unfold fj;rw[if_neg h1];unfold fj;rw[if_neg h0];rfl,fun k hk=>?_⟩;rcases (by omega:k=0∨k=1∨k=2∨k=3) with rfl | rfl | rfl | rfl <;> assumption
theorem C9 {i j:Nat}(hi:i<4)(hj:j<4)(h:eA i=eA j):i=j:=by
 rcases (by omega:i=0∨i=1∨i=2∨i=3) with rfl | rfl | rfl | rfl <;> rcases (by omega:j=0∨j=1∨j=2∨j=3) with rfl | rfl | rfl | rfl <;> first | rfl | exact absurd h (by decide)
theorem t_ (s:Rd)(hst:s.st≤5)(hls:s.ls.length≤64)(line:List UInt8):rR s line=N0 (mO s line):=by
 unfold rR mO;split
 ·split <;> rfl
 ·split
  ·split <;> rfl
  ·split
   ·rfl
   ·rename_i h0 h1 h5;have hrow:∀ r,line=46::r→kR s.ni s.no line=none:=fun r h=>by rw[h];exact Hw
    rcases Au line with ⟨k,hk,hkq,hline⟩ | ⟨hkq,hno⟩
    ·have hp:Lib.hasPrefix line [46,116,121,112,101,32]=true:=by rw[hline];exact List.isPrefixOf_iff_prefix.2 ⟨_,rfl⟩
     have hd:line.drop 6=eA k:=by rw[hline];simp
     have hn:d_ [46,112] 0 64 line<0:=by
      refine Int.not_le.1 fun h=>?_;obtain ⟨r,hr⟩:=tY h;rw[hline] at hr;exact absurd (List.cons.inj (List.cons.inj hr).2).1 (by decide)
     have hne:line≠[46,101]:=by rw[hline];intro h;exact absurd (List.cons.inj (List.cons.inj h).2).1 (by decide)
     unfold tZ mh;rw[hkq,if_pos (by omega)];by_cases h2:s.st=2
     ·rw[if_pos h2,if_pos ⟨hp,h2⟩,hd,tS hk rfl fun j hj h=>by have:=C9 (by omega) hk h;omega];rw[Int.toNat_natCast];rfl
     ·rw[if_neg h2,if_neg (fun h=>h2 h.2),if_neg (fun h=>by omega)];unfold kO;rw[if_neg hne,hrow _ hline];rfl
    ·unfold tZ mh;rw[hkq,if_neg (by omega)];by_cases hp:Lib.hasPrefix line [46,116,121,112,101,32]=true∧s.st=2
     ·rw[if_pos hp];have hl:=vw hp.1;have hd:rO (line.drop 6)=none:=tT fun j hj h=>hno j hj (by rw[h];exact hl);have hn:d_ [46,112] 0 64 line<0:=by
       refine Int.not_le.1 fun h=>?_;obtain ⟨r,hr⟩:=tY h;rw[hl] at hr;exact absurd (List.cons.inj (List.cons.inj hr).2).1 (by decide)
      have hne:line≠[46,101]:=by rw[hl];intro h;exact absurd (List.cons.inj (List.cons.inj h).2).1 (by decide)
      rw[hd,if_neg (by omega),if_neg hne,hrow _ hl];rfl
     ·rw[if_neg hp];by_cases hn:0≤d_ [46,112] 0 64 line
      ·rw[if_pos hn];by_cases h4:s.st<4
       ·rw[if_pos h4,if_pos ⟨hn,by omega⟩];rfl
       ·rw[if_neg h4,if_neg (fun h=>h4 (by omega))];obtain ⟨r,hr⟩:=tY hn;have hne:line≠[46,101]:=by rw[hr];intro h;exact absurd (List.cons.inj (List.cons.inj h).2).1 (by decide)
        unfold kO;rw[if_neg hne,hrow _ hr];rfl
      ·rw[if_neg hn,if_neg (show ¬ (0≤d_ [46,112] 0 64 line∧s.st≤3) from fun h=>hn h.1)];unfold kO;by_cases he:line=[46,101]
       ·rw[if_pos he,if_pos he];split <;> rfl
       ·rw[if_neg he,if_neg he]
        cases hr:kR s.ni s.no line with
        | none=>rfl
        | some l=>
         simp only;by_cases h64:s.ls.length=64
         ·rw[if_pos (by omega),if_pos h64];rfl
         ·rw[if_neg (by omega),if_neg h64];rfl
def iP:Rd→List UInt8→List UInt8→Option Rd
 | s,cur,[]=>if cur=[]∧s.st=5 then some s else none
 | s,cur,c::r=>if c=10 then (if cur=[]∨cur.head?=some 35 then iP s [] r else match rR s cur with
   | some s'=>iP s' [] r
   | none=>none)
  else iP s (cur++[c]) r
def Av (i:Nat)(s:Rd)(ls:List (List UInt8)):Option Rd:=
 match jV i s ls.dropLast with
 | .ok s'=>if ls.getLastD []=[]∧s'.st=5 then some s' else none
 | .error _=>none
theorem C_ {i:Nat}{s:Rd}{l:List UInt8}{ls:List (List UInt8)}(hs:qm s)(h:ls≠[]):Av i s (l::ls)=if l=[]∨l.head?=some 35 then Av (i+1) s ls else match rR s l with
   | some s'=>Av (i+1) s' ls
   | none=>none:=by
 have e1:(l::ls).dropLast=l::ls.dropLast:=List.dropLast_cons_of_ne_nil h;have e2:(l::ls).getLastD []=ls.getLastD []:=by
  rw[List.getLastD_eq_getLast?,List.getLastD_eq_getLast?,List.getLast?_cons_of_ne_nil h]
 unfold Av;rw[e1,e2,tV,t_ s hs.st hs.few];by_cases hk:l=[]∨l.head?=some 35
 ·rw[if_pos hk,if_pos hk]
 ·rw[if_neg hk,if_neg hk]
  cases mO s l with
  | ok s'=>rfl
  | error e=>rfl
theorem qo:∀ (r:List UInt8) (s:Rd) (cur:List UInt8) (i:Nat) (x:List UInt8) (xs:List (List UInt8)),qm s→bV r=x::xs→iP s cur r=Av i s ((cur++x)::xs)
 | [],s,cur,i,x,xs,hs,h=>by
  have h:[[]]=x::xs:=h;injection h with h1 h2;subst h1;subst h2;rw[List.append_nil];rfl
 | c::r,s,cur,i,x,xs,hs,h=>by
  obtain ⟨y,ys,hy⟩:∃ y ys,bV r=y::ys:=by
   cases hl:bV r with
   | nil=>exact absurd hl (l7 r)
   | cons y ys=>exact ⟨y,ys,rfl⟩
  by_cases hc:c=10
  ·subst hc;rw[nI] at h;injection h with h1 h2;subst h1;subst h2;rw[List.append_nil,C_ hs (l7 r)];unfold iP;rw[if_pos rfl];split
   ·rw[qo r s [] (i+1) y ys hs hy,hy];rfl
   ·rw[t_ s hs.st hs.few]
    cases ht:mO s cur with
    | error e=>rfl
    | ok s'=>
     show iP s' [] r=Av (i+1) s' (bV r);rw[qo r s' [] (i+1) y ys (qn hs ht) hy,hy];rfl
  ·rw[jE hc hy] at h;injection h with h1 h2;subst h1;subst h2;unfold iP;rw[if_neg hc,qo r s (cur++[c]) i y ys hs hy];simp
theorem yU {text:List UInt8}(h8:text.length≤8000):iP yN [] text=match cP text with | .ok s=>some s | .error _=>none:=by
 obtain ⟨y,ys,hy⟩:∃ y ys,bV text=y::ys:=by
  cases hl:bV text with
  | nil=>exact absurd hl (l7 text)
  | cons y ys=>exact ⟨y,ys,rfl⟩
 rw[qo text yN [] 0 y ys wY hy];unfold cP Av;rw[if_neg (by omega),hy,List.nil_append]
 cases hf:jV 0 yN (y::ys).dropLast with
 | error e=>rfl
 | ok s=>
  simp only;unfold C8;rw[hy];by_cases h1:(y::ys).getLastD []=[]
  ·by_cases h5:s.st=5
   ·rw[if_pos ⟨h1,h5⟩,if_neg (fun h=>h h1),if_neg (fun h=>h h5)]
   ·rw[if_neg (fun h=>h5 h.2),if_neg (fun h=>h h1),if_pos h5]
  ·rw[if_neg (fun h=>h1 h.1),if_pos h1]
theorem Aw {text:List UInt8}(h8:8000<text.length):cP text=.error (0,3):=by unfold cP;rw[if_pos h8]
def ua (st:Nat):Nat:=if st=5 then 6 else st
abbrev qL (g2 g5:Nat)(kd ni no:Int)(v:Value)(n:Nat)(hs:List Hd)(S:Nat→Prop)(Q:List Ln):List cC:=
 [an g5 33 (dO kd ni no v),own 77 3 v n (flat kL hs),qw S hs Q,an g2 33 (dO 0 0 0 (.slice none 0 0))]
def N1 (o:Option Rd)(e at_ told kd ni no:Int)(n:Nat)(Q:List Ln):Prop:=
 (e≠0∧o=none)∨(e=0∧∃ s',o=some s'∧kd=s'.kd∧ni=s'.ni∧no=s'.no∧at_=(ua s'.st:Nat)∧told=s'.told∧Q=s'.ls∧n=Q.length)
theorem N2:enters prog 9=true:=by kernel_rfl
set_option maxHeartbeats 4000000 in
theorem c9 (text:List UInt8)(hl:text.length≤100000)(w:World):bt prog 9 [aU text] w fun r w'=>
  ((∀ s,cP text≠.ok s)∧∃ (i n:Int),r=.tuple #[uo 0 0 0 (.slice none 0 0),.int .i64 i,.int .i64 n]∧n≠0∧aT w w')∨
  (∃ s v S,cP text=.ok s∧r=.tuple #[uo s.kd s.ni s.no v,.int .i64 0,.int .i64 0]∧eX w w' (pv S v s.ls)):=by
 refine ar (N:=139) func9 N2 rfl rfl rfl (by simp) ?_;have H:=Hp.aC w;have hsz:(⟨text.toArray⟩:ByteArray).size=text.length:=gQ text;refine ak (γ:=Nat) (fun g2=>[(2,(ah g2))]) (fun g2 w'=>Hp w ab w' [an g2 33 (dO 0 0 0 (.slice none 0 0))] []) ?_ ?_
 ·refine H.alloc 33 (cs:=dO 0 0 0 (.slice none 0 0)) nJ rfl ?_;clear H;intro g2 w1 H;exact ⟨g2,⟨rfl,trivial⟩,H⟩
 clear H;rintro g2 u w1 H;refine aw (fun w'=>¬ 8000<text.length∧Hp w ab w' [an g2 33 (dO 0 0 0 (.slice none 0 0))] []) ?_ ?_
 ·refine dY underlying9 ?_;refine au (fun h=>?_) (fun h=>?_)
  ·refine iO ?_;refine H.storeAll 0 rfl bJ rfl dA ?_;clear H;intro w2 H;refine H.ai 0 rfl fB bJ ?_;exact ⟨rfl,.inl ⟨fun s hs=>absurd ((Aw (show 8000<text.length by omega)).symm.trans hs) (fun h=>by cases h),0,3,rfl,by decide,H.keeps⟩⟩
  ·exact ⟨(),trivial,by omega,H⟩
 clear H;rintro ⟨⟩ u w2 ⟨h8,H⟩;have hPB:=yU (text:=text) (by omega);refine ak (γ:=Nat) (fun g5=>[(5,(ah g5))]) (fun g5 w'=>Hp w ab w' (qL g2 g5 1 0 0 (.slice none 0 0) 0 [] (fun _=>False) []) []) ?_ ?_
 ·refine yO ?_;refine H.alloc 33 (cs:=dO 0 0 0 (.slice none 0 0)) nJ rfl ?_;clear H;intro g5 w3 H;refine H.storeAll 0 rfl bJ rfl dA ?_;clear H;intro w4 H;have H2:=H.add (aS.refl _ _) (qw (fun _=>False) [] []) (lA.nil _ _) (fun g hg=>hg.elim);exact ⟨g5,⟨rfl,trivial⟩,(H2.bx 77 3).b6 [2,0,1,3] (by decide) rfl⟩
 clear H;rintro g5 u w3 H;refine ak (γ:=Unit) (fun _=>[(6,.int .i64 (-1))]) (fun _ w'=>Hp w ab w' (qL g2 g5 1 0 0 (.slice none 0 0) 0 [] (fun _=>False) []) []) ⟨(),⟨rfl,trivial⟩,H⟩ ?_;clear H;rintro ⟨⟩ u w4 H;refine ak (γ:=Unit) (fun _=>[(7,.int .i64 ((0:Nat):Int))]) (fun _ w'=>Hp w ab w' (qL g2 g5 1 0 0 (.slice none 0 0) 0 [] (fun _=>False) []) []) ⟨(),⟨rfl,trivial⟩,H⟩ ?_;clear H;rintro ⟨⟩ u w5 H;refine ak (γ:=Unit) (fun _=>[(8,.int .i64 ((0:Nat):Int))]) (fun _ w'=>Hp w ab w' (qL g2 g5 1 0 0 (.slice none 0 0) 0 [] (fun _=>False) []) []) ⟨(),⟨rfl,trivial⟩,H⟩ ?_;clear H;rintro ⟨⟩ u w6 H;refine ak (γ:=Unit) (fun _=>[(9,aU [])]) (fun _ w'=>Hp w ab w' (qL g2 g5 1 0 0 (.slice none 0 0) 0 [] (fun _=>False) []) []) ⟨(),⟨rfl,trivial⟩,H⟩ ?_;clear H;rintro ⟨⟩ u w7 H;refine ak (γ:=Rd × List UInt8 × Nat × Value × List Hd × (Nat→Prop)) (fun (s,cur,num,_)=>[(7,.int .i64 ((ua s.st:Nat):Int)),(8,.int .i64 (num:Int)),(9,aU cur)]) (fun (s,cur,num,v,hs,S) w'=>(iP yN [] text=iP s cur []∧qm s)∧Hp w ab w' (qL g2 g5 s.kd s.ni s.no v s.ls.length hs S s.ls) []) ?_ ?_
 ·refine ax (γ:=Nat × Rd × List UInt8 × Nat × Value × List Hd × (Nat→Prop)) (fun (i,s,cur,num,_)=>[(10,.int .i64 (i:Int)),(6,.int .i64 s.told),(7,.int .i64 ((ua s.st:Nat):Int)),(8,.int .i64 (num:Int)),(9,aU cur)])
   (fun (i,s,cur,num,v,hs,S) w'=>(i≤text.length∧num≤i∧cur.length≤i∧iP yN [] text=iP s cur (text.drop i)∧qm s)∧Hp w ab w' (qL g2 g5 s.kd s.ni s.no v s.ls.length hs S s.ls) []) (fun (i,_)=>text.length - i)
   (0,yN,[],0,.slice none 0 0,[],fun _=>False) ⟨rfl,rfl,rfl,rfl,rfl,trivial⟩ ⟨⟨Nat.zero_le _,Nat.zero_le _,Nat.zero_le _,rfl,wY⟩,H⟩ ?_
  clear H;rintro ⟨i,s,cur,num,v,hs,S⟩ u w8 ⟨⟨hi,hnum,hcur,hf,hok⟩,H⟩;refine dY underlying9 ?_;refine au (fun h7=>?_) (fun h7=>?_)
  ·have hil:i<text.length:=by omega
   obtain ⟨c,hc⟩:∃ c,text[i]=c:=⟨_,rfl⟩;have hdr:text.drop i=c::text.drop (i+1):=by rw[← hc];exact List.drop_eq_getElem_cons hil
   rw[hdr] at hf;have hfs:iP s cur (c::text.drop (i+1))=if c=10 then (if cur=[]∨cur.head?=some 35 then iP s [] (text.drop (i+1)) else match rR s cur with
    | some s'=>iP s' [] (text.drop (i+1))
    | none=>none)
    else iP s (cur++[c]) (text.drop (i+1)):=rfl
   rw[hfs] at hf;clear hfs;refine ak (γ:=Rd × List UInt8 × Nat × Value × List Hd × (Nat→Prop)) (fun (s,cur,num,_)=>[(6,.int .i64 s.told),(7,.int .i64 ((ua s.st:Nat):Int)),(8,.int .i64 (num:Int)),(9,aU cur)])
    (fun (s,cur,num,v,hs,S) w'=>(num≤i+1∧cur.length≤i+1∧iP yN [] text=iP s cur (text.drop (i+1))∧qm s)∧Hp w ab w' (qL g2 g5 s.kd s.ni s.no v s.ls.length hs S s.ls) []) ?_ ?_
   ·refine ak (γ:=Unit) (fun _=>[(9,aU cur)]) (fun _ w'=>c=10∧Hp w ab w' (qL g2 g5 s.kd s.ni s.no v s.ls.length hs S s.ls) []) ?_ ?_
    ·refine iA hil underlying9 ?_;refine de (fun h=>?_) (fun h=>?_)
     ·have hne:c≠10:=fun e=>h (by rw[hc,e];rfl);rw[if_neg hne] at hf;refine q8 (l:=text) underlying9 i (i+1) rfl (aH (by omega) (by omega)) (by omega) (by omega) ?_;rw[tW hil,hc];refine a7 (by simp only[List.length_cons,List.length_nil];omega) ?_;exact ⟨(s,cur++[c],num,v,hs,S),⟨rfl,rfl,rfl,rfl,trivial⟩,⟨by show num≤i+1;omega,by show (cur++[c]).length≤i+1;rw[List.length_append,List.length_singleton];omega,hf,hok⟩,H⟩
     ·exact ⟨(),⟨rfl,trivial⟩,by rw[← hc];exact UInt8.toNat_inj.1 (show text[i].toNat=10 from Int.ofNat_inj.1 h),H⟩
    clear H;rintro ⟨⟩ u w9 ⟨h10,H⟩;rw[if_pos h10] at hf;refine ak (γ:=Unit) (fun _=>[(11,aU cur)]) (fun _ w'=>Hp w ab w' (qL g2 g5 s.kd s.ni s.no v s.ls.length hs S s.ls) []) ⟨(),⟨rfl,trivial⟩,H⟩ ?_;clear H;rintro ⟨⟩ u w10 H;refine ak (γ:=Unit) (fun _=>[(9,aU [])]) (fun _ w'=>Hp w ab w' (qL g2 g5 s.kd s.ni s.no v s.ls.length hs S s.ls) []) ⟨(),⟨rfl,trivial⟩,H⟩ ?_;clear H;rintro ⟨⟩ u w11 H;refine ak (γ:=Unit) (fun _=>[(8,.int .i64 ((num+1:Nat):Int))]) (fun _ w'=>Hp w ab w' (qL g2 g5 s.kd s.ni s.no v s.ls.length hs S s.ls) []) ⟨(),⟨up (by omega),trivial⟩,H⟩ ?_;clear H;rintro ⟨⟩ u w12 H;refine aw (fun w'=>¬ (cur=[]∨cur.head?=some 35)∧Hp w ab w' (qL g2 g5 s.kd s.ni s.no v s.ls.length hs S s.ls) []) ?_ ?_
    ·refine eJ (b:=[]) ?_
     cases cur with
     | nil=>
      rw[if_pos (.inl rfl)] at hf
      repeat refine ag rfl ?_
      exact ⟨(s,[],num+1,v,hs,S),⟨rfl,rfl,rfl,rfl,trivial⟩,⟨by show num+1≤i+1;omega,Nat.zero_le _,hf,hok⟩,H⟩
     | cons b r=>
      repeat refine af rfl ?_
      refine iA (l:=b::r) (i:=0) (by simp) underlying9 ?_
      repeat refine af rfl ?_
      refine cr (fun h=>?_) (fun h=>?_)
      ·have h35:b=35:=UInt8.toNat_inj.1 (show b.toNat=35 from Int.ofNat_inj.1 h);rw[if_pos (.inr (by rw[h35];rfl))] at hf;exact ⟨(s,[],num+1,v,hs,S),⟨rfl,rfl,rfl,rfl,trivial⟩,⟨by show num+1≤i+1;omega,Nat.zero_le _,hf,hok⟩,H⟩
      ·refine ⟨(),trivial,fun hh=>?_,H⟩;rcases hh with hh | hh
       ·cases hh
       ·injection hh with hh;exact h (by rw[hh];rfl)
    clear H;rintro ⟨⟩ u w13 ⟨hno,H⟩;rw[if_neg hno] at hf;refine ak (γ:=Unit) (fun _=>[(12,.int .i64 2)]) (fun _ w'=>Hp w ab w' (qL g2 g5 s.kd s.ni s.no v s.ls.length hs S s.ls) []) ⟨(),⟨rfl,trivial⟩,H⟩ ?_;clear H;rintro ⟨⟩ u w14 H;refine ak (γ:=(Int × Int × Int) × (Int × Int × Int) × Value × Nat × List Hd × (Nat→Prop) × List Ln) (fun ((e,at_,told),_)=>[(12,.int .i64 e),(7,.int .i64 at_),(6,.int .i64 told)])
     (fun ((e,at_,told),(kd,ni,no),v,n,hs,S,Q) w'=>N1 (rR s cur) e at_ told kd ni no n Q∧Hp w ab w' (qL g2 g5 kd ni no v n hs S Q) []) ?_ ?_
    ·have hst:=hok.st;have hQ:rR s cur=if s.st=0 then (if 0≤d_ [46,105] 0 8 cur then some { s with ni:=(d_ [46,105] 0 8 cur).toNat,st:=1 } else none)
      else if s.st=1 then (if 0≤d_ [46,111] 1 4 cur then some { s with no:=(d_ [46,111] 1 4 cur).toNat,st:=2 } else none)
      else if s.st=5 then none
      else tZ s cur (fj cur 4) (d_ [46,112] 0 64 cur):=rfl
     generalize rR s cur=o at hQ ⊢;clear hf;by_cases h0:s.st=0
     ·rw[if_pos h0] at hQ;refine ag (by rw[h0];rfl) ?_;refine aj (NZ cur [46,105] (by decide) 0 8 (by decide) (by decide) _) ?_;rintro _ w15 ⟨rfl,hk⟩;replace H:=H.same hk;clear hk;refine aa (ey _ _) ?_;refine H.store 0 rfl a_ (Nat.le_of_ble_eq_true rfl) rfl ?_;clear H;intro w16 H;refine aa (ey _ _) ?_;refine H.load 0 rfl aE rfl ?_;generalize d_ [46,105] 0 8 cur=N at H hQ ⊢;by_cases hN:0≤N
      ·rw[if_pos hN] at hQ;refine ag (decide_eq_true hN) ?_;exact ⟨((0,1,s.told),(s.kd,N,s.no),v,s.ls.length,hs,S,s.ls),⟨rfl,rfl,rfl,trivial⟩,.inr ⟨rfl,{ s with ni:=N.toNat,st:=1 },hQ,rfl,(Int.toNat_of_nonneg hN).symm,rfl,rfl,rfl,rfl,rfl⟩,H⟩
      ·rw[if_neg hN] at hQ;refine af (decide_eq_false hN) ?_;exact ⟨((2,1,s.told),(s.kd,N,s.no),v,s.ls.length,hs,S,s.ls),⟨rfl,rfl,rfl,trivial⟩,.inl ⟨by decide,hQ⟩,H⟩
     ·rw[if_neg h0] at hQ;have a0:((ua s.st:Nat):Int)≠0:=by unfold ua;split <;> omega
      refine af (beq_eq_false_iff_ne.2 a0) ?_;by_cases h1:s.st=1
      ·rw[if_pos h1] at hQ;refine ag (by rw[h1];rfl) ?_;refine aj (NZ cur [46,111] (by decide) 1 4 (by decide) (by decide) _) ?_;rintro _ w15 ⟨rfl,hk⟩;replace H:=H.same hk;clear hk;refine aa (ft _ _) ?_;refine H.store 0 rfl a_ (Nat.le_of_ble_eq_true rfl) rfl ?_;clear H;intro w16 H;refine aa (ft _ _) ?_;refine H.load 0 rfl aE rfl ?_;generalize d_ [46,111] 1 4 cur=N at H hQ ⊢;by_cases hN:0≤N
       ·rw[if_pos hN] at hQ;refine ag (decide_eq_true hN) ?_;exact ⟨((0,2,s.told),(s.kd,s.ni,N),v,s.ls.length,hs,S,s.ls),⟨rfl,rfl,rfl,trivial⟩,.inr ⟨rfl,{ s with no:=N.toNat,st:=2 },hQ,rfl,rfl,(Int.toNat_of_nonneg hN).symm,rfl,rfl,rfl,rfl⟩,H⟩
       ·rw[if_neg hN] at hQ;refine af (decide_eq_false hN) ?_;exact ⟨((2,2,s.told),(s.kd,s.ni,N),v,s.ls.length,hs,S,s.ls),⟨rfl,rfl,rfl,trivial⟩,.inl ⟨by decide,hQ⟩,H⟩
      ·rw[if_neg h1] at hQ;have a1:((ua s.st:Nat):Int)≠1:=by unfold ua;split <;> omega
       refine af (beq_eq_false_iff_ne.2 a1) ?_;by_cases h5:s.st=5
       ·rw[if_pos h5] at hQ;refine af (by rw[h5];rfl) ?_;exact ⟨((2,((ua s.st:Nat):Int),s.told),(s.kd,s.ni,s.no),v,s.ls.length,hs,S,s.ls),⟨rfl,rfl,rfl,trivial⟩,.inl ⟨by decide,hQ⟩,H⟩
       ·rw[if_neg h5] at hQ;have ea:ua s.st=s.st:=by unfold ua;rw[if_neg h5]
        refine ag (decide_eq_true (show ((ua s.st:Nat):Int)<6 by rw[ea];omega)) ?_;clear a0 a1;have hst2:2≤s.st:=by omega
        have hno4:=hok.no hst2;refine ak (γ:=Unit) (fun _=>[(13,.int .i64 (fj cur 0))]) (fun _ w'=>Hp w ab w' (qL g2 g5 s.kd s.ni s.no v s.ls.length hs S s.ls) []) ⟨(),⟨rfl,trivial⟩,H⟩ ?_;clear H;rintro ⟨⟩ u w15 H;refine ak (γ:=Unit) (fun _=>[(13,.int .i64 (fj cur 4))]) (fun _ w'=>Hp w ab w' (qL g2 g5 s.kd s.ni s.no v s.ls.length hs S s.ls) []) ?_ ?_
        ·refine ax (γ:=Nat) (fun k=>[(14,.int .i64 (k:Int)),(13,.int .i64 (fj cur k))]) (fun k w'=>k≤4∧Hp w ab w' (qL g2 g5 s.kd s.ni s.no v s.ls.length hs S s.ls) []) (fun k=>4 - k) 0 ⟨rfl,rfl,trivial⟩ ⟨Nat.zero_le _,H⟩ ?_;clear H;rintro k u w16 ⟨hk4,H⟩;refine au (fun h9=>?_) (fun h9=>?_)
         ·have hk3:k<4:=by have h9:(k:Int)<4:=h9;omega
          refine ak (γ:=Unit) (fun _=>[(13,.int .i64 (fj cur (k+1)))]) (fun _ w'=>Hp w ab w' (qL g2 g5 s.kd s.ni s.no v s.ls.length hs S s.ls) []) ?_ ?_
          ·refine aj (c31 _) ?_;rintro _ w17 ⟨gk,rfl,hn⟩;replace H:=H.bD hn;clear hn;refine aq underlying73 pP k rfl (by omega) (o':=k) (by omega) ?_;refine H.load 0 rfl xZ (qj (by omega)) ?_;refine a7 (a:=[46,116,121,112,101,32]) (by have:=q9 k;simp only[List.length_cons,List.length_nil];omega) ?_;refine eJ ?_;have hx:fj cur (k+1)=if cur=[46,116,121,112,101,32]++eA k then (k:Int) else fj cur k:=rfl;refine aF (fun hb=>?_) (fun hb=>?_)
           ·rw[if_pos (beq_iff_eq.1 hb)] at hx;exact ⟨(),⟨congrArg (Value.int .i64) hx.symm,trivial⟩,H.forget⟩
           ·rw[if_neg (fun h=>by rw[beq_iff_eq.2 h] at hb;cases hb)] at hx;exact ⟨(),⟨congrArg (Value.int .i64) hx.symm,trivial⟩,H.forget⟩
          ·clear H;rintro ⟨⟩ u w17 H;exact ⟨k+1,by show 4 - (k+1)<4 - k;omega,⟨up (by omega),rfl,trivial⟩,by show k+1≤4;omega,H⟩
         ·have hk3:k=4:=by have h9:¬ (k:Int)<4:=h9;omega
          subst hk3;exact ⟨(),⟨rfl,trivial⟩,H⟩
        clear H;rintro ⟨⟩ u w16 H;generalize fj cur 4=kq at hQ ⊢;refine ak (γ:=Unit) (fun _=>[(15,.int .i64 (d_ [46,112] 0 64 cur))]) (fun _ w'=>Hp w ab w' (qL g2 g5 s.kd s.ni s.no v s.ls.length hs S s.ls) []) ?_ ?_
        ·refine aj (NZ cur [46,112] (by decide) 0 64 (by decide) (by decide) _) ?_;rintro _ w17 ⟨rfl,hk⟩;exact ⟨(),⟨rfl,trivial⟩,H.same hk⟩
        clear H;rintro ⟨⟩ u w17 H;generalize d_ [46,112] 0 64 cur=N at hQ ⊢;refine ak (γ:=Nat × Bool) (fun (g16,ok)=>[(16,(ah g16)),(17,.bool ok)]) (fun (g16,ok) w'=>(kR s.ni s.no cur=none∧ok=false∧Hp w ab w' (qL g2 g5 s.kd s.ni s.no v s.ls.length hs S s.ls) [])∨(∃ l B c,kR s.ni s.no cur=some l∧ok=true∧Hp w ab w' (an g16 77 (fH l.1 l.2.1 (.slice B l.2.2.length c))::own 3 1 (.slice B l.2.2.length c) l.2.2.length (ints l.2.2)::(qL g2 g5 s.kd s.ni s.no v s.ls.length hs S s.ls)) [])) ?_ ?_
        ·refine aa (ey _ _) ?_;refine H.load 0 rfl aE rfl ?_;refine aa (ft _ _) ?_;refine H.load 0 rfl aE rfl ?_;refine aj (OO cur (by omega) s.ni s.no hok.ni hno4.2 _) ?_;rintro _ w18 (⟨hr,m,vv,B,n,c,rfl,hk⟩ | ⟨l,B,c,hr,rfl,hn⟩)
         ·replace H:=H.same hk;refine H.alloc 77 (cs:=fH 0 0 (.slice none 0 0)) lB rfl ?_;clear H;intro g16 w19 H;refine H.storeAll 0 rfl cY rfl eM ?_;clear H;intro w20 H;rw[tX] at hr;exact ⟨(g16,false),⟨rfl,rfl,trivial⟩,.inl ⟨hr,rfl,H.forget⟩⟩
         ·replace H:=H.bD hn;refine H.alloc 77 (cs:=fH 0 0 (.slice none 0 0)) lB rfl ?_;clear H;intro g16 w19 H;refine H.storeAll 0 rfl cY rfl eM ?_;clear H;intro w20 H;rw[tX] at hr;exact ⟨(g16,true),⟨rfl,rfl,trivial⟩,.inr ⟨l,B,c,hr,rfl,H⟩⟩
        clear H;rintro ⟨g16,ok⟩ u w18 HH;replace HH:(kR s.ni s.no cur=none∧ok=false∧Hp w ab w18 (qL g2 g5 s.kd s.ni s.no v s.ls.length hs S s.ls) [])∨(∃ l B c,kR s.ni s.no cur=some l∧ok=true∧Hp w ab w18 (an g16 77 (fH l.1 l.2.1 (.slice B l.2.2.length c))::own 3 1 (.slice B l.2.2.length c) l.2.2.length (ints l.2.2)::(qL g2 g5 s.kd s.ni s.no v s.ls.length hs S s.ls)) []):=HH;have H:Hp w ab w18 (qL g2 g5 s.kd s.ni s.no v s.ls.length hs S s.ls) []:=by
         rcases HH with ⟨_,_,H⟩ | ⟨l,B,c,_,_,H⟩
         ·exact H
         ·exact H.forget.forget
        have hQ2:tZ s cur kq N=if 0≤kq then (if s.st=2 then some { s with kd:=kq.toNat,st:=3 } else none)
         else if 0≤N then (if s.st<4 then some { s with told:=N,st:=4 } else none)
         else if cur=[46,101] then (if s.told<0∨s.told=s.ls.length then some { s with st:=5 } else none)
         else match kR s.ni s.no cur with
          | some l=>if 64≤s.ls.length then none else some { s with st:=4,ls:=s.ls++[l] }
          | none=>none:=rfl
        rw[hQ2] at hQ;clear hQ2;by_cases hkq:0≤kq
        ·rw[if_pos hkq] at hQ;refine ag (decide_eq_true hkq) ?_;by_cases h2:s.st=2
         ·rw[if_pos h2] at hQ;refine ag (by rw[h2];rfl) ?_;refine aa (ew _ _) ?_;refine H.store 0 rfl a_ (Nat.le_of_ble_eq_true rfl) rfl ?_;clear H;intro w19 H;exact ⟨((0,3,s.told),(kq,s.ni,s.no),v,s.ls.length,hs,S,s.ls),⟨rfl,rfl,rfl,trivial⟩,.inr ⟨rfl,_,hQ,(Int.toNat_of_nonneg hkq).symm,rfl,rfl,rfl,rfl,rfl,rfl⟩,H⟩
         ·rw[if_neg h2] at hQ;refine af (beq_eq_false_iff_ne.2 (show ((ua s.st:Nat):Int)≠2 by rw[ea];omega)) ?_;exact ⟨((2,((ua s.st:Nat):Int),s.told),(s.kd,s.ni,s.no),v,s.ls.length,hs,S,s.ls),⟨rfl,rfl,rfl,trivial⟩,.inl ⟨by decide,hQ⟩,H⟩
        ·rw[if_neg hkq] at hQ;refine af (decide_eq_false hkq) ?_;by_cases hN:0≤N
         ·rw[if_pos hN] at hQ;refine ag (decide_eq_true hN) ?_;by_cases h4:s.st<4
          ·rw[if_pos h4] at hQ;refine ag (decide_eq_true (show ((ua s.st:Nat):Int)<4 by rw[ea];omega)) ?_;exact ⟨((0,4,N),(s.kd,s.ni,s.no),v,s.ls.length,hs,S,s.ls),⟨rfl,rfl,rfl,trivial⟩,.inr ⟨rfl,_,hQ,rfl,rfl,rfl,rfl,rfl,rfl,rfl⟩,H⟩
          ·rw[if_neg h4] at hQ;refine af (decide_eq_false (show ¬ ((ua s.st:Nat):Int)<4 by rw[ea];omega)) ?_;exact ⟨((2,((ua s.st:Nat):Int),s.told),(s.kd,s.ni,s.no),v,s.ls.length,hs,S,s.ls),⟨rfl,rfl,rfl,trivial⟩,.inl ⟨by decide,hQ⟩,H⟩
         ·rw[if_neg hN] at hQ;refine af (decide_eq_false hN) ?_;refine eJ (b:=[46,101]) ?_;refine aF (fun hb=>?_) (fun hb=>?_)
          ·rw[if_pos (beq_iff_eq.1 hb)] at hQ;obtain ⟨A,c0,rfl,_⟩:=e9 (H.get 1 rfl);clear HH;by_cases ht:s.told<0
           ·rw[if_pos (.inl ht)] at hQ
            repeat refine ag (decide_eq_true ht) ?_
            refine ag rfl ?_;exact ⟨((0,6,s.told),(s.kd,s.ni,s.no),_,s.ls.length,hs,S,s.ls),⟨rfl,rfl,rfl,trivial⟩,.inr ⟨rfl,{ s with st:=5 },hQ,rfl,rfl,rfl,rfl,rfl,rfl,rfl⟩,H⟩
           ·repeat refine af (decide_eq_false ht) ?_
            refine aa (dZ _ _) ?_
            repeat refine af (decide_eq_false ht) ?_
            refine H.load 0 rfl il rfl ?_
            repeat refine af (decide_eq_false ht) ?_
            refine ay underlying31 ?_
            repeat refine af (decide_eq_false ht) ?_
            by_cases he:s.told=(s.ls.length:Int)
            ·rw[if_pos (.inr he)] at hQ;refine ag (beq_iff_eq.2 he) ?_;exact ⟨((0,6,s.told),(s.kd,s.ni,s.no),_,s.ls.length,hs,S,s.ls),⟨rfl,rfl,rfl,trivial⟩,.inr ⟨rfl,{ s with st:=5 },hQ,rfl,rfl,rfl,rfl,rfl,rfl,rfl⟩,H⟩
            ·rw[if_neg (fun h=>h.elim ht he)] at hQ;refine af (beq_eq_false_iff_ne.2 he) ?_;exact ⟨((2,((ua s.st:Nat):Int),s.told),(s.kd,s.ni,s.no),_,s.ls.length,hs,S,s.ls),⟨rfl,rfl,rfl,trivial⟩,.inl ⟨by decide,hQ⟩,H⟩
          ·rw[if_neg (fun h=>by rw[beq_iff_eq.2 h] at hb;cases hb)] at hQ;clear H;rcases HH with ⟨hr,rfl,H⟩ | ⟨l,B,c0,hr,rfl,H⟩
           ·rw[hr] at hQ;refine af rfl ?_;exact ⟨((2,((ua s.st:Nat):Int),s.told),(s.kd,s.ni,s.no),v,s.ls.length,hs,S,s.ls),⟨rfl,rfl,rfl,trivial⟩,.inl ⟨by decide,hQ⟩,H⟩
           ·rw[hr] at hQ;simp only at hQ;refine ag rfl ?_;obtain ⟨A,c1,rfl,_⟩:=e9 (H.get 3 rfl);have hll:s.ls.length≤64:=hok.few;refine aa (dZ _ _) ?_;refine H.load 2 rfl il rfl ?_;refine ay underlying31 ?_;have hfin:∀ (u:World) (B4:Option Addr) (d4:Nat),Hp w ab u [an g16 77 (fH l.1 l.2.1 (.slice B l.2.2.length c0)),own 3 1 (.slice B l.2.2.length c0) l.2.2.length (ints l.2.2),an g5 33 (dO s.kd s.ni s.no (.slice B4 (s.ls.length+1) d4)),own 77 3 (.slice B4 (s.ls.length+1) d4) (s.ls.length+1) (flat kL hs++kL (l.1,l.2.1,.slice B l.2.2.length c0)),qw S hs s.ls,an g2 33 (dO 0 0 0 (.slice none 0 0))] []→
              ∃ S',Hp w ab u (qL g2 g5 s.kd s.ni s.no (.slice B4 (s.ls.length+1) d4) (s.ls.length+1) (hs++[(l.1,l.2.1,.slice B l.2.2.length c0)]) S' (s.ls++[l])) []:=fun u B4 d4 H=>by
             obtain ⟨S',H2⟩:=(H.b6 [1,4,2,3,5] (by decide) rfl:Hp w ab u (own 3 1 (.slice B l.2.2.length c0) l.2.2.length (ints l.2.2)::qw S hs s.ls::[an g5 33 (dO s.kd s.ni s.no (.slice B4 (s.ls.length+1) d4)),own 77 3 (.slice B4 (s.ls.length+1) d4) (s.ls.length+1) (flat kL hs++kL (l.1,l.2.1,.slice B l.2.2.length c0)),an g2 33 (dO 0 0 0 (.slice none 0 0))]) []).Fv;refine ⟨S',?_⟩;unfold qL;rw[show flat kL (hs++[(l.1,l.2.1,.slice B l.2.2.length c0)])=flat kL hs++kL (l.1,l.2.1,.slice B l.2.2.length c0) from du ..];exact H2.b6 [1,2,0,3] (by decide) rfl
            by_cases h64:64≤s.ls.length
            ·rw[if_pos h64] at hQ;refine ag (decide_eq_true (show (s.ls.length:Int)≥64 by omega)) ?_;refine aa (dZ _ _) ?_;refine H.load 2 rfl il rfl ?_;refine H.ai 0 rfl l9 cY ?_;refine H.bg Il (cs:=fH l.1 l.2.1 (.slice B l.2.2.length c0)) (by decide) (by decide) (by kernel_rfl) ?_;clear H;intro gx w19 H;refine H.aG 4 0 Il rfl rfl rfl eM (by omega) (by omega) ?_;clear H;intro B4 d4 w20 H;replace H:=H.forget;refine aa (dZ _ _) ?_;refine H.store 2 rfl wS (Nat.le_of_ble_eq_true rfl) rfl ?_;clear H;intro w21 H;obtain ⟨S',H2⟩:=hfin w21 B4 d4 H;exact ⟨((3,4,s.told),(s.kd,s.ni,s.no),_,s.ls.length+1,_,S',s.ls++[l]),⟨rfl,rfl,rfl,trivial⟩,.inl ⟨by decide,hQ⟩,H2⟩
            ·rw[if_neg h64] at hQ;refine af (decide_eq_false (show ¬ (s.ls.length:Int)≥64 by omega)) ?_;refine aa (dZ _ _) ?_;refine H.load 2 rfl il rfl ?_;refine H.ai 0 rfl l9 cY ?_;refine H.bg Il (cs:=fH l.1 l.2.1 (.slice B l.2.2.length c0)) (by decide) (by decide) (by kernel_rfl) ?_;clear H;intro gx w19 H;refine H.aG 4 0 Il rfl rfl rfl eM (by omega) (by omega) ?_;clear H;intro B4 d4 w20 H;replace H:=H.forget;refine aa (dZ _ _) ?_;refine H.store 2 rfl wS (Nat.le_of_ble_eq_true rfl) rfl ?_;clear H;intro w21 H;obtain ⟨S',H2⟩:=hfin w21 B4 d4 H;exact ⟨((0,4,s.told),(s.kd,s.ni,s.no),_,s.ls.length+1,_,S',s.ls++[l]),⟨rfl,rfl,rfl,trivial⟩,.inr ⟨rfl,_,hQ,rfl,rfl,rfl,rfl,rfl,rfl,by simp⟩,H2⟩
    clear H;rintro ⟨⟨e,at_,told⟩,⟨kd,ni,no⟩,v',n,hs',S',Q⟩ u w15 ⟨hq,H⟩;rcases hq with ⟨he,ho⟩ | ⟨rfl,s',ho,rfl,rfl,rfl,rfl,rfl,rfl,rfl⟩
    ·rw[ho] at hf;refine ag (bne_iff_ne.2 he) ?_;refine iO ?_;refine H.storeAll 3 rfl bJ rfl dA ?_;clear H;intro w16 H;refine H.ai 3 rfl fB bJ ?_;refine ⟨rfl,.inl ⟨fun s' hs'=>?_,_,e,rfl,he,H.keeps⟩⟩;rw[hs',hf] at hPB
     cases hPB
    ·rw[ho] at hf;refine af rfl ?_;have hok':qm s':=by
      rw[t_ s hok.st hok.few] at ho
      cases ht:mO s cur with
      | error e=>rw[ht] at ho;cases ho
      | ok s2=>rw[ht] at ho;have:=Option.some.inj ho;subst this;exact qn hok ht
     exact ⟨(s',[],num+1,v',hs',S'),⟨rfl,rfl,rfl,rfl,trivial⟩,⟨by show num+1≤i+1;omega,Nat.zero_le _,hf,hok'⟩,H⟩
   ·clear H;rintro ⟨s',cur',num',v',hs',S'⟩ u w9 ⟨⟨h1,h2,h3,h4⟩,H⟩;exact ⟨(i+1,s',cur',num',v',hs',S'),by show text.length - (i+1)<text.length - i;omega,⟨up (by omega),rfl,rfl,rfl,rfl,trivial⟩,⟨by show i+1≤text.length;omega,h1,h2,h3,h4⟩,H⟩
  ·obtain rfl:i=text.length:=by omega
   rw[List.drop_length] at hf;exact ⟨(s,cur,num,v,hs,S),⟨rfl,rfl,rfl,trivial⟩,⟨hf,hok⟩,H⟩
 clear H;rintro ⟨s,cur,num,v,hs,S⟩ u w8 ⟨⟨hf,hok⟩,H⟩;have hfe:iP s cur []=if cur=[]∧s.st=5 then some s else none:=rfl;rw[hf,hfe] at hPB;clear hfe hf;have hbad:¬ (cur=[]∧s.st=5)→∀ s',cP text≠.ok s':=fun h s' hs'=>by
  rw[if_neg h,hs'] at hPB
  cases hPB
 refine aw (fun w'=>cur=[]∧Hp w ab w' (qL g2 g5 s.kd s.ni s.no v s.ls.length hs S s.ls) []) ?_ ?_
 ·refine gE (b:=[]) ?_;by_cases h0:cur=[]
  ·refine af (by rw[h0];rfl) ?_;exact ⟨(),trivial,h0,H⟩
  ·refine ag (by simpa using h0) ?_;refine iO ?_;refine H.storeAll 3 rfl bJ rfl dA ?_;clear H;intro w9 H;refine H.ai 3 rfl fB bJ ?_;exact ⟨rfl,.inl ⟨hbad fun h=>h0 h.1,_,2,rfl,by decide,H.keeps⟩⟩
 clear H;rintro ⟨⟩ u w9 ⟨h0,H⟩;refine aw (fun w'=>s.st=5∧Hp w ab w' (qL g2 g5 s.kd s.ni s.no v s.ls.length hs S s.ls) []) ?_ ?_
 ·by_cases h5:s.st=5
  ·refine af (by unfold ua;rw[if_pos h5];rfl) ?_;exact ⟨(),trivial,h5,H⟩
  ·have h6:ua s.st≠6:=by unfold ua;rw[if_neg h5];have:=hok.st;omega
   refine ag (bne_iff_ne.2 (show ((ua s.st:Nat):Int)≠6 by omega)) ?_;refine iO ?_;refine H.storeAll 3 rfl bJ rfl dA ?_;clear H;intro w9 H;refine H.ai 3 rfl fB bJ ?_;exact ⟨rfl,.inl ⟨hbad fun h=>h5 h.2,_,7,rfl,by decide,H.keeps⟩⟩
 clear H;rintro ⟨⟩ u w10 ⟨h5,H⟩;rw[if_pos ⟨h0,h5⟩] at hPB;have hP:cP text=.ok s:=by
  cases hp:cP text with
  | error e=>rw[hp] at hPB;cases hPB
  | ok s'=>rw[hp] at hPB;rw[Option.some.inj hPB]
 obtain ⟨A,c,rfl,hc⟩:=e9 (H.get 1 rfl);refine H.ai 0 rfl fB bJ ?_;refine H.storeAll 3 rfl bJ rfl dA ?_;clear H;intro w11 H;refine H.ai 3 rfl fB bJ ?_;exact ⟨rfl,.inr ⟨s,_,_,hP,rfl,wR H.keeps (H.get 1 rfl) (fun g hg=>⟨(H.new _ (.tail _ (.head _)) g hg).resolve_right id,H.lt _ (.tail _ (.head _)) g hg⟩) (H.get 2 rfl) (fun g hg=>⟨(H.new _ (.tail _ (.tail _ (.head _))) g hg).resolve_right id,H.lt _ (.tail _ (.tail _ (.head _))) g hg⟩) rfl⟩⟩
end Go.Proofs.YtpjihhgjbbihkaaGreatDoor
namespace Go.Dk
def fU (ls:List Ln)(p out mark:Nat):Bool:=ls.any fun l=>decide (l.2.2[out]?=some mark)&&uq l.1 l.2.1 p
section
variable {P:Program} {w0 w:World} {L M:List cC} {k:Value→World→Prop}
theorem Sl.BL {α:Type}(H:Hp w0 ab w L M){enc:α→List Value}{ty:TypeId}{sz g o o' l c:Nat}{xs:List α}(hS:Sl w0 (.slice (some ⟨g,o,none⟩) l c) sz l (flat enc xs))(he:∀ a,(enc a).length=sz)(hagg:cH P ty=some false)(i j:Nat){a:α}{u:Value}(ho:o'=o+(i*sz+j))(hx:xs[i]?=some a)(hj:(enc a)[j]?=some u)(h:k u w):eY P ty (.pointer (some ⟨g,o',none⟩)) w k:=by
 subst ho;have hlen:(flat enc xs).length=l*sz:=hS.1;rw[cQ he] at hlen;have hi:=(List.getElem?_eq_some_iff.1 hx).1;have hjs:j<sz:=by have:=(List.getElem?_eq_some_iff.1 hj).1;rwa [he] at this
 have h1:(i+1)*sz≤xs.length*sz:=Nat.mul_le_mul_right _ (by omega);rw[Nat.succ_mul] at h1;exact aB hagg (((hS.same H.keeps).cell (i*sz+j) (by omega)).trans ((ie he hx j hjs).trans hj)) h
theorem Sl.BM {α:Type}(H:Hp w0 ab w L M){enc:α→List Value}{ty:TypeId}{sz g o o' l c:Nat}{xs:List α}(hS:Sl w0 (.slice (some ⟨g,o,none⟩) l c) sz l (flat enc xs))(he:∀ a,(enc a).length=sz)(cs:List Value)(hagg:cH P ty=some true)(hs:bB P ty=some cs.length)(i:Nat){a:α}(ho:o'=o+i*sz)(hx:xs[i]?=some a)(hc:∀ (j:Nat) v,cs[j]?=some v→(enc a)[j]?=some v)(h:k (.agg cs.toArray) w):eY P ty (.pointer (some ⟨g,o',none⟩)) w k:=by
 subst ho;have hlen:(flat enc xs).length=l*sz:=hS.1;rw[cQ he] at hlen;have hi:=(List.getElem?_eq_some_iff.1 hx).1;refine hK cs hagg hs (fun j v hj=>?_) h;have hj2:=hc j v hj;have hjs:j<sz:=by have:=(List.getElem?_eq_some_iff.1 hj2).1;rwa [he] at this
 have hadd:(⟨g,o+i*sz,none⟩:Addr).add j=⟨g,o+(i*sz+j),none⟩:=by unfold Addr.add;split <;> simp_all[Nat.add_assoc]
 have h1:(i+1)*sz≤xs.length*sz:=Nat.mul_le_mul_right _ (by omega);rw[Nat.succ_mul] at h1;rw[hadd,(hS.same H.keeps).cell (i*sz+j) (by omega),ie he hx j hjs,hj2]
end
end Go.Dk
namespace Go.Proofs.YtpjihhgjbbihkaaGreatDoor
open Go.Proofs.Tryz
open Go.Dk
set_option maxRecDepth 100000
attribute [local irreducible] IntKind.wrap
theorem Hx (g o:Nat)(w:World):(Instr.fieldAt 77 (.pointer (some ⟨g,o,none⟩)) 0).run prog w=.ok (.pointer (some ⟨g,o,none⟩)) w:=by kernel_rfl
theorem Hy (g o:Nat)(w:World):(Instr.fieldAt 77 (.pointer (some ⟨g,o,none⟩)) 1).run prog w=.ok (.pointer (some ⟨g,o+2,none⟩)) w:=by kernel_rfl
theorem MG:enters prog 10=true:=by kernel_rfl
set_option maxHeartbeats 1000000 in
theorem N3 {t:Tb}(ht:mL t)(p out mark:Nat)(hp:p<9223372036854775808)(ho:out<t.no)(v:Value)(w:World)(hA:jF w v t.ls):bt prog 10 [uo t.kd t.ni t.no v,.int .i64 (p:Int),.int .i64 (out:Int),.int .i64 (mark:Int)] w fun r w'=>r=.bool (fU t.ls p out mark)∧aT w w':=by
 refine ar (N:=38) func10 MG rfl rfl rfl (by simp) ?_;have H:=Hp.aC w;obtain ⟨B,c,hs,rfl,hSl,hsl,hln⟩:=hA.vn;have hfew:=ht.few;refine ak (γ:=Nat) (fun g4=>[(4,(ah g4)),(8,.bool false)]) (fun g4 w'=>Hp w ab w' [an g4 33 (dO t.kd t.ni t.no (.slice B t.ls.length c))] []) ?_ ?_
 ·refine H.box 33 _ (cs:=dO t.kd t.ni t.no (.slice B t.ls.length c)) rfl ?_;clear H;intro g4 w1 H;exact ⟨g4,⟨rfl,rfl,trivial⟩,H⟩
 clear H;rintro g4 u w1 H;refine aw (fun w'=>fU t.ls p out mark=false∧Hp w ab w' [an g4 33 (dO t.kd t.ni t.no (.slice B t.ls.length c))] []) ?_ ?_
 ·refine ax (γ:=Nat) (fun i=>[(9,.int .i64 (i:Int))]) (fun i w'=>(i≤t.ls.length∧fU (t.ls.take i) p out mark=false)∧Hp w ab w' [an g4 33 (dO t.kd t.ni t.no (.slice B t.ls.length c))] []) (fun i=>t.ls.length - i) 0 ⟨rfl,trivial⟩ ⟨⟨Nat.zero_le _,rfl⟩,H⟩ ?_;clear H;rintro i u w3 ⟨⟨hi,hno⟩,H⟩;refine aa (dZ _ _) ?_;refine H.load 0 rfl il rfl ?_;refine ay underlying31 ?_;refine au (fun h7=>?_) (fun h7=>?_)
  ·have hil:i<t.ls.length:=by omega
   obtain ⟨l,hl,hlm⟩:∃ l,t.ls[i]?=some l∧l ∈ t.ls:=⟨_,List.getElem?_eq_getElem hil,List.getElem_mem hil⟩;obtain ⟨B',c',hhd,hos⟩:=hln i l hl;have hok:=ht.ls l hlm;have hol:=hok.len;obtain ⟨s1,s2,s3⟩:=l_ ht.ni hok;obtain ⟨gA,oA,rfl⟩:=hSl.A (by omega);obtain ⟨gO,oO,rfl⟩:=hos.A (by omega);have hx:l.2.2[out]?=some (l.2.2[out]'(by omega)):=List.getElem?_eq_getElem (by omega);have htk:fU (t.ls.take (i+1)) p out mark=(fU (t.ls.take i) p out mark||(decide (l.2.2[out]?=some mark)&&uq l.1 l.2.1 p)):=by
    unfold fU;rw[List.take_add_one,hl,List.any_append];simp
   refine aw (fun w'=>fU (t.ls.take (i+1)) p out mark=false∧Hp w ab w' [an g4 33 (dO t.kd t.ni t.no (.slice (some ⟨gA,oA,none⟩) t.ls.length c))] []) ?_ ?_
   ·refine aa (dZ _ _) ?_;refine H.load 0 rfl il rfl ?_;refine aq underlying31 cY i rfl hil (o':=oA+i*3) (by omega) ?_;refine aa (Hy _ _) ?_;refine Sl.BL H hSl ik fq i 2 (by omega) hhd rfl ?_;refine aq underlying75 a_ out rfl (by omega) (o':=oO+out) (by omega) ?_;refine aB aE (((hos.same H.keeps).cell out (by omega)).trans (e_ (by omega))) ?_;by_cases he:((l.2.2[out]'(by omega):Nat):Int)=(mark:Int)
    ·have hd:decide (l.2.2[out]?=some mark)=true:=decide_eq_true (by rw[hx];congr 1;omega);rw[hd,hno,Bool.false_or,Bool.true_and] at htk
     repeat refine ag (beq_iff_eq.2 he) ?_
     refine aa (dZ _ _) ?_
     repeat refine ag (beq_iff_eq.2 he) ?_
     refine H.load 0 rfl il rfl ?_
     repeat refine ag (beq_iff_eq.2 he) ?_
     refine aq underlying31 cY i rfl hil (o':=oA+i*3) (by omega) ?_
     repeat refine ag (beq_iff_eq.2 he) ?_
     refine aa (Hx _ _) ?_
     repeat refine ag (beq_iff_eq.2 he) ?_
     refine Sl.BM H hSl ik (cc l.1 l.2.1).toList bw aO i (by omega) hhd (fun j u hj=>by match j,hj with | 0,hj=>exact hj | 1,hj=>exact hj | j+2,hj=>simp[cc] at hj) ?_
     repeat refine ag (beq_iff_eq.2 he) ?_
     refine aj (Od l.1 l.2.1 s1 s2 p hp _) ?_;rintro _ w4 ⟨rfl,hk⟩;replace H:=H.same hk
     repeat refine ag (beq_iff_eq.2 he) ?_
     refine aF (fun hb=>?_) (fun hb=>?_)
     ·have hall:fU t.ls p out mark=true:=by
       unfold fU;rw[List.any_eq_true];exact ⟨l,hlm,by rw[hd,hb];rfl⟩
      exact ⟨by rw[hall];rfl,H.keeps⟩
     ·exact ⟨(),trivial,htk.trans hb,H⟩
    ·have hd:decide (l.2.2[out]?=some mark)=false:=decide_eq_false (by rw[hx];intro e;injection e with e;exact he (by rw[e]));rw[hd,hno] at htk
     repeat refine af (beq_eq_false_iff_ne.2 he) ?_
     refine af rfl ?_;exact ⟨(),trivial,htk,H⟩
   ·clear H;rintro ⟨⟩ u w4 ⟨hno',H⟩;exact ⟨i+1,by show t.ls.length - (i+1)<t.ls.length - i;omega,⟨up (by omega),trivial⟩,⟨by show i+1≤t.ls.length;omega,hno'⟩,H⟩
  ·obtain rfl:i=t.ls.length:=by omega
   rw[List.take_length] at hno;exact ⟨(),trivial,hno,H⟩
 clear H;rintro ⟨⟩ u w2 ⟨hno,H⟩;exact ⟨by rw[hno];rfl,H.keeps⟩
theorem MH:enters prog 36=true:=by kernel_rfl
theorem Ol (n:Nat)(hn:n≤8)(w:World):bt prog 36 [.int .i64 (n:Int)] w fun r w'=>r=.int .i64 ((cD (bn n)).length:Int)∧aT w w':=by
 refine ar (N:=8) func36 MH rfl rfl rfl (by simp) ?_;have H:=Hp.aC w;refine aj (Oo n hn _) ?_;rintro _ w1 ⟨A,c,rfl,hk⟩;replace H:=H.bD hk;clear hk;refine aj (c37 (nq n) (by simp[nq]) A c _ (bE (H.get 0 rfl))) ?_;rintro _ w2 ⟨rfl,hk⟩;replace H:=H.same hk;clear hk;rw[Cb];refine aj (Oq _ _) ?_;rintro _ w3 ⟨B,d,rfl,hk⟩;replace H:=H.bD hk;refine ay underlying75 ?_;exact ⟨rfl,H.keeps⟩
theorem yV:∀ n,n≤8→(cD (bn n)).length=2^n:=by
 have key:((List.range 9).all fun n=>(cD (bn n)).length==2^n)=true:=by decide +kernel
 intro n hn;rw[List.all_eq_true] at key;exact beq_iff_eq.1 (key n (List.mem_range.2 (by omega)))
def rb (text:List UInt8)(a b:Nat):Bool:=match cP text with
 | .ok s=>decide (s.ni≤a)&&decide (s.no≤b)
 | .error _=>true
theorem MI:enters prog 17=true:=by kernel_rfl
set_option maxHeartbeats 1000000 in
theorem OP (text:List UInt8)(hl:text.length≤100000)(a b:Nat)(w:World):bt prog 17 [aU text,.int .i64 (a:Int),.int .i64 (b:Int)] w fun r w'=>r=.bool (rb text a b)∧aT w w':=by
 refine ar (N:=30) func17 MI rfl rfl rfl (by simp) ?_;have H:=Hp.aC w;refine ak (γ:=Unit) (fun _=>[(6,.bool false)]) (fun _ w'=>Hp w ab w' [] []) ⟨(),⟨rfl,trivial⟩,H⟩ ?_;clear H;rintro ⟨⟩ u w1 H;refine aj (c9 text hl _) ?_;rintro _ w2 (⟨hP,i,n,rfl,hn,hk⟩ | ⟨s,v,S,hP,rfl,hn⟩)
 ·replace H:=H.same hk;clear hk;have hf:rb text a b=true:=by
   unfold rb
   cases hp:cP text with
   | error e=>rfl
   | ok s=>exact absurd hp (hP s)
  rw[hf];refine H.alloc 33 (cs:=dO 0 0 0 (.slice none 0 0)) nJ rfl ?_;clear H;intro g w3 H;refine H.storeAll 0 rfl bJ rfl dA ?_;clear H;intro w4 H
  repeat refine ag (bne_iff_ne.2 hn) ?_
  exact ⟨rfl,H.keeps⟩
 ·replace H:=H.bD hn;obtain ⟨B,c,hs,rfl,_⟩:=H.get 0 rfl;replace H:=H.forget;have hf:rb text a b=(decide (s.ni≤a)&&decide (s.no≤b)):=by unfold rb;rw[hP]
  rw[hf];refine H.alloc 33 (cs:=dO 0 0 0 (.slice none 0 0)) nJ rfl ?_;clear H;intro g w3 H;refine H.storeAll 0 rfl bJ rfl dA ?_;clear H;intro w4 H
  repeat refine af rfl ?_
  refine aa (ey _ _) ?_
  repeat refine af rfl ?_
  refine H.load 0 rfl aE rfl ?_
  repeat refine af rfl ?_
  by_cases ha:s.ni≤a
  ·have ha':(s.ni:Int)≤(a:Int):=by omega
   rw[decide_eq_true ha,Bool.true_and]
   repeat refine ag (decide_eq_true ha') ?_
   refine aa (ft _ _) ?_
   repeat refine ag (decide_eq_true ha') ?_
   refine H.load 0 rfl aE rfl ?_
   repeat refine ag (decide_eq_true ha') ?_
   refine af rfl ?_;refine ag (decide_eq_true (by assumption)) ?_;refine af rfl ?_;refine ⟨congrArg Value.bool ?_,H.keeps⟩;exact decide_eq_decide.2 (by omega)
  ·have ha':¬ (s.ni:Int)≤(a:Int):=by omega
   rw[decide_eq_false ha,Bool.false_and]
   repeat refine af (decide_eq_false ha') ?_
   refine af rfl ?_;refine af (decide_eq_false (by assumption)) ?_;refine af rfl ?_;exact ⟨rfl,H.keeps⟩
def nO (l:List Rw)(p out:Nat):Bool:=l.any fun x=>x.2.2.testBit out&&uq x.1 x.2.1 p
theorem MJ:enters prog 39=true:=by kernel_rfl
theorem Om (o i:Nat)(ho:o<256)(hi:i≤62)(w:World):bt prog 39 [.int .u8 (o:Int),.int .i64 (i:Int)] w fun r w'=>r=.bool (o.testBit i)∧aT w w':=by
 refine ar (N:=10) func39 MJ rfl rfl rfl (by simp) ?_;have H:=Hp.aC w;have e:(((o / 2^i % 2:Nat):Int)==1)=o.testBit i:=by
  rw[Nat.testBit_eq_decide_div_mod_eq,Bool.eq_iff_iff,beq_iff_eq,decide_eq_true_eq];omega
 refine iy (by kernel_rfl) underlying3 (by omega) (by omega) ?_;refine aj (Oa o i (by omega) hi _) ?_;rintro _ w1 ⟨rfl,hk⟩;exact ⟨congrArg Value.bool e,H.keeps.trans hk (by simp)⟩
theorem Hz (g o:Nat)(w:World):(Instr.fieldAt 50 (.pointer (some ⟨g,o,none⟩)) 1).run prog w=.ok (.pointer (some ⟨g,o+2,none⟩)) w:=by kernel_rfl
theorem MK:enters prog 44=true:=by kernel_rfl
set_option maxHeartbeats 1000000 in
theorem OQ (l:List Rw)(hl:∀ x ∈ l,x.1<256∧x.2.1<256∧x.2.2<256)(hll:l.length≤1000000)(p out:Nat)(hp:p<9223372036854775808)(ho:out≤62)(A:Option Addr)(c:Nat)(w:World)(hA:Sl w (.slice A l.length c) 3 l.length (flat bj l)) :
  bt prog 44 [.slice A l.length c,.int .i64 (p:Int),.int .i64 (out:Int)] w fun r w'=>r=.bool (nO l p out)∧aT w w':=by
 refine ar (N:=30) func44 MK rfl rfl rfl (by simp) ?_;have H:=Hp.aC w;refine ak (γ:=Unit) (fun _=>[(6,.bool false)]) (fun _ w'=>Hp w ab w' [] []) ⟨(),⟨rfl,trivial⟩,H⟩ ?_;clear H;rintro ⟨⟩ u w1 H;refine aw (fun w'=>nO l p out=false∧Hp w ab w' [] []) ?_ ?_
 ·refine ax (γ:=Nat) (fun i=>[(7,.int .i64 (i:Int))]) (fun i w'=>(i≤l.length∧nO (l.take i) p out=false)∧Hp w ab w' [] []) (fun i=>l.length - i) 0 ⟨rfl,trivial⟩ ⟨⟨Nat.zero_le _,rfl⟩,H⟩ ?_;clear H;rintro i u w3 ⟨⟨hi,hno⟩,H⟩;refine ay underlying44 ?_;refine au (fun h7=>?_) (fun h7=>?_)
  ·have hil:i<l.length:=by omega
   obtain ⟨x,hx,hxm⟩:=kC (l:=l) (j:=i) (by omega);obtain ⟨s1,s2,s3⟩:=hl x hxm;obtain ⟨gA,oA,rfl⟩:=hA.A (by omega);have htk:nO (l.take (i+1)) p out=(nO (l.take i) p out||(x.2.2.testBit out&&uq x.1 x.2.1 p)):=by
    unfold nO;rw[List.take_add_one,hx,List.any_append];simp
   rw[hno,Bool.false_or] at htk;refine aw (fun w'=>nO (l.take (i+1)) p out=false∧Hp w ab w' [] []) ?_ ?_
   ·refine aq underlying44 bd i rfl hil (o':=oA+i*3) (by omega) ?_;refine aa (Hz _ _) ?_;refine Sl.BL H hA bI cg i 2 (by omega) hx (u:=.int .u8 (x.2.2:Int)) rfl ?_;refine aj (Om x.2.2 out s3 ho _) ?_;rintro _ w4 ⟨rfl,hk⟩;replace H:=H.same hk;clear hk
    cases hb:x.2.2.testBit out with
    | false=>
     rw[hb,Bool.false_and] at htk
     repeat refine af rfl ?_
     exact ⟨(),trivial,htk,H⟩
    | true=>
     rw[hb,Bool.true_and] at htk
     repeat refine ag rfl ?_
     refine aq underlying44 bd i rfl hil (o':=oA+i*3) (by omega) ?_
     repeat refine ag rfl ?_
     refine aa (fN _ _) ?_
     repeat refine ag rfl ?_
     refine Sl.BM H hA bI (cc x.1 x.2.1).toList bw aO i (by omega) hx (fun j u hj=>by match j,hj with | 0,hj=>exact hj | 1,hj=>exact hj | j+2,hj=>simp[cc] at hj) ?_
     repeat refine ag rfl ?_
     refine aj (Od x.1 x.2.1 s1 s2 p hp _) ?_;rintro _ w5 ⟨rfl,hk⟩;replace H:=H.same hk
     repeat refine ag rfl ?_
     refine aF (fun hb2=>?_) (fun hb2=>?_)
     ·have hall:nO l p out=true:=by
       unfold nO;rw[List.any_eq_true];exact ⟨x,hxm,by rw[hb,hb2];rfl⟩
      exact ⟨by rw[hall];rfl,H.keeps⟩
     ·exact ⟨(),trivial,htk.trans hb2,H⟩
   ·clear H;rintro ⟨⟩ u w4 ⟨hno',H⟩;exact ⟨i+1,by show l.length - (i+1)<l.length - i;omega,⟨up (by omega),trivial⟩,⟨by show i+1≤l.length;omega,hno'⟩,H⟩
  ·obtain rfl:i=l.length:=by omega
   rw[List.take_length] at hno;exact ⟨(),trivial,hno,H⟩
 clear H;rintro ⟨⟩ u w2 ⟨hno,H⟩;exact ⟨by rw[hno];rfl,H.keeps⟩
def nP (o i:Nat):Bool:=(List.range i).any fun j=>o.testBit j
def ub (o k i:Nat):Bool:=(List.range i).all fun j=> !o.testBit j||decide (j<k)
theorem Ay (o i:Nat):nP o (i+1)=(nP o i||o.testBit i):=by unfold nP;rw[List.range_succ,List.any_append];simp
theorem Da (o k i:Nat):ub o k (i+1)=(ub o k i&&(!o.testBit i||decide (i<k))):=by unfold ub;rw[List.range_succ,List.all_append];simp
def Az (m v o n k:Nat):Bool:=ub o k 8&&(nP o 8&&dC m v n)
theorem ML:enters prog 38=true:=by kernel_rfl
theorem OR (m v o n k:Nat)(hm:m<256)(hv:v<256)(ho:o<256)(hk:k≤100)(w:World):bt prog 38 [oU m v o,.int .i64 (n:Int),.int .i64 (k:Int)] w fun r w'=>r=.bool (Az m v o n k)∧aT w w':=by
 refine ar (N:=27) func38 ML rfl rfl rfl (by simp) ?_;have H:=Hp.aC w;refine ak (γ:=Nat) (fun g3=>[(3,(ah g3)),(6,.bool false)]) (fun g3 w'=>Hp w ab w' [an g3 50 (eU m v o)] []) ?_ ?_
 ·refine H.box 50 _ (cs:=eU m v o) rfl ?_;clear H;intro g3 w1 H;exact ⟨g3,⟨rfl,rfl,trivial⟩,H⟩
 clear H;rintro g3 u w1 H;refine ak (γ:=Unit) (fun _=>[(7,.bool (nP o 0))]) (fun _ w'=>Hp w ab w' [an g3 50 (eU m v o)] []) ⟨(),⟨rfl,trivial⟩,H⟩ ?_;clear H;rintro ⟨⟩ u w2 H;refine ak (γ:=Unit) (fun _=>[(7,.bool (nP o 8))]) (fun _ w'=>ub o k 8=true∧Hp w ab w' [an g3 50 (eU m v o)] []) ?_ ?_
 ·refine ax (γ:=Nat) (fun i=>[(8,.int .i64 (i:Int)),(7,.bool (nP o i))]) (fun i w'=>(i≤8∧ub o k i=true)∧Hp w ab w' [an g3 50 (eU m v o)] []) (fun i=>8 - i) 0 ⟨rfl,rfl,trivial⟩ ⟨⟨Nat.zero_le _,rfl⟩,H⟩ ?_;clear H;rintro i u w3 ⟨⟨hi,hlow⟩,H⟩;refine au (fun h7=>?_) (fun h7=>?_)
  ·have hi8:i<8:=by have h7:(i:Int)<8:=h7;omega
   have hs:=Ay o i;have hl:=Da o k i;rw[hlow,Bool.true_and] at hl;refine ak (γ:=Unit) (fun _=>[(7,.bool (nP o (i+1)))]) (fun _ w'=>ub o k (i+1)=true∧Hp w ab w' [an g3 50 (eU m v o)] []) ?_ ?_
   ·refine aa (dN _ _) ?_;refine H.load 0 rfl cg rfl ?_;refine aj (Om o i ho (by omega) _) ?_;rintro _ w4 ⟨rfl,hk'⟩;replace H:=H.same hk'
    cases hb:o.testBit i with
    | false=>
     rw[hb] at hs hl;rw[Bool.or_false] at hs;refine af rfl ?_;exact ⟨(),⟨congrArg Value.bool hs.symm,trivial⟩,hl,H⟩
    | true=>
     rw[hb] at hs hl;rw[Bool.or_true] at hs;refine ag rfl ?_;refine au (fun h=>?_) (fun h=>?_)
     ·have hbad:ub o k 8=false:=by
       unfold ub;rw[List.all_eq_false];exact ⟨i,List.mem_range.2 hi8,by rw[hb];have h:(i:Int)≥k:=h;simp;omega⟩
      exact ⟨by unfold Az;rw[hbad];rfl,H.keeps⟩
     ·have h:¬ (i:Int)≥k:=h;rw[decide_eq_true (show i<k by omega)] at hl;exact ⟨(),⟨congrArg Value.bool hs.symm,trivial⟩,hl,H⟩
   ·clear H;rintro ⟨⟩ u w4 ⟨hlow',H⟩;exact ⟨i+1,by show 8 - (i+1)<8 - i;omega,⟨up (by omega),rfl,trivial⟩,⟨by show i+1≤8;omega,hlow'⟩,H⟩
  ·have hi8:i=8:=by have h7:¬ (i:Int)<8:=h7;omega
   subst hi8;exact ⟨(),⟨rfl,trivial⟩,hlow,H⟩
 clear H;rintro ⟨⟩ u w3 ⟨hlow,H⟩;unfold Az;rw[hlow,Bool.true_and]
 cases hsb:nP o 8 with
 | false=>
  repeat refine af rfl ?_
  exact ⟨rfl,H.keeps⟩
 | true=>
  repeat refine ag rfl ?_
  refine aa (fN _ _) ?_
  repeat refine ag rfl ?_
  refine H.cW 0 rfl [.int .u8 (m:Int),.int .u8 (v:Int)] bw aO (fun j u hj=>by match j,hj with | 0,hj=>exact hj | 1,hj=>exact hj) ?_
  repeat refine ag rfl ?_
  refine aj (Oe m v hm hv (n:Int) _) ?_;rintro _ w4 ⟨rfl,hk'⟩;replace H:=H.same hk'
  repeat refine ag rfl ?_
  exact ⟨rfl,H.keeps⟩
theorem Db {o i:Nat}:nP o i=true↔∃ j,j<i∧o.testBit j=true:=by unfold nP;rw[List.any_eq_true];simp
theorem FC {o k i:Nat}:ub o k i=true↔∀ j,j<i→o.testBit j=true→j<k:=by
 unfold ub;rw[List.all_eq_true];refine forall_congr' fun j=>?_;rw[List.mem_range];refine imp_congr_right fun _=>?_
 cases o.testBit j <;> simp
theorem FD {m v o n k:Nat}(ho:o<256):Az m v o n k=true↔0<o∧o<2^k∧dC m v n=true:=by
 unfold Az;rw[Bool.and_eq_true,Bool.and_eq_true,Db,FC];constructor
 ·rintro ⟨h1,⟨j,_,hj⟩,h3⟩;refine ⟨Nat.pos_of_ne_zero fun e=>by rw[e] at hj;simp at hj,Nat.lt_pow_two_of_testBit _ fun i hi=>?_,h3⟩;rw[Bool.eq_false_iff];intro hb;by_cases h8:i<8
  ·have:=h1 i h8 hb;omega
  ·rw[ec ho (by omega)] at hb;cases hb
 ·rintro ⟨h1,h2,h3⟩;refine ⟨fun j _ hj=>?_,?_,h3⟩
  ·refine Nat.lt_of_not_le fun hk=>?_;rw[dB h2 hk] at hj;cases hj
  ·refine Classical.byContradiction fun hno=>absurd (h_.2 fun i=>?_) (Nat.ne_of_gt h1);by_cases h8:i<8
   ·rw[Bool.eq_false_iff];exact fun hb=>hno ⟨i,h8,hb⟩
   ·exact ec ho (by omega)
def qp (S:dU)(l:List Rw)(o p:Nat):Bool:= !((S.on.getD o 0).testBit p&& !nO l p o||nO l p o&& !(S.may.getD o 0).testBit p)
def uc (S:dU)(l:List Rw)(o k:Nat):Bool:=(List.range k).all (qp S l o)
def ud (S:dU)(l:List Rw)(j:Nat):Bool:=(List.range j).all fun o=>uc S l o (2^S.n)
def ue (S:dU)(l:List Rw):Bool:=l.all fun x=>Az x.1 x.2.1 x.2.2 S.n S.on.length
def yW (S:dU)(l:List Rw):Bool:=ue S l&&ud S l S.on.length
theorem Dc (S:dU)(l:List Rw)(o k:Nat):uc S l o (k+1)=(uc S l o k&&qp S l o k):=by unfold uc;rw[List.range_succ,List.all_append];simp
theorem Dd (S:dU)(l:List Rw)(j:Nat):ud S l (j+1)=(ud S l j&&uc S l j (2^S.n)):=by unfold ud;rw[List.range_succ,List.all_append];simp
theorem HA {S:dU}{l:List Rw}{o k n:Nat}(h:qp S l o k=false)(hk:k<n):uc S l o n=false:=by
 unfold uc;rw[List.all_eq_false];exact ⟨k,List.mem_range.2 hk,by rw[h];decide⟩
theorem HB {S:dU}{l:List Rw}{o n:Nat}(h:uc S l o (2^S.n)=false)(hk:o<n):ud S l n=false:=by
 unfold ud;rw[List.all_eq_false];exact ⟨o,List.mem_range.2 hk,by rw[h];decide⟩
theorem MM:enters prog 16=true:=by kernel_rfl
set_option maxHeartbeats 2000000 in
theorem OS {S:dU}(hS:cK S)(l:List Rw)(hl:∀ x ∈ l,x.1<256∧x.2.1<256∧x.2.2<256)(hll:l.length≤1000000)(Bo:Option Addr)(co:Nat)(Bm:Option Addr)(cm:Nat)(A:Option Addr)(c:Nat)(w:World)(hO:gn w S Bo co Bm cm)(hA:Sl w (.slice A l.length c) 3 l.length (flat bj l)) :
  bt prog 16 [rW S.n (.slice Bo S.on.length co) (.slice Bm S.may.length cm),.slice A l.length c] w fun r w'=>r=.bool (yW S l)∧aT w w':=by
 refine ar (N:=76) func16 MM rfl rfl rfl (by simp) ?_;have H:=Hp.aC w;have h4:=hS.few;have h8:=hS.n8;have hlen:=hS.len;have h2n:2^S.n≤2^8:=Nat.pow_le_pow_right (by decide) h8;obtain ⟨gO,oO,rfl⟩:=hO.on.A (by have:=hS.some;omega);obtain ⟨gM,oM,rfl⟩:=hO.may.A (by have:=hS.some;omega);refine ak (γ:=Nat) (fun g2=>[(2,(ah g2)),(4,.bool false)]) (fun g2 w'=>Hp w ab w' [an g2 41 (bq S.n (.slice (some ⟨gO,oO,none⟩) S.on.length co) (.slice (some ⟨gM,oM,none⟩) S.may.length cm))] []) ?_ ?_
 ·refine H.box 41 _ (cs:=bq S.n (.slice (some ⟨gO,oO,none⟩) S.on.length co) (.slice (some ⟨gM,oM,none⟩) S.may.length cm)) rfl ?_;clear H;intro g2 w1 H;exact ⟨g2,⟨rfl,rfl,trivial⟩,H⟩
 clear H;rintro g2 u w1 H;refine aw (fun w'=>ue S l=true∧Hp w ab w' [an g2 41 (bq S.n (.slice (some ⟨gO,oO,none⟩) S.on.length co) (.slice (some ⟨gM,oM,none⟩) S.may.length cm))] []) ?_ ?_
 ·refine ax (γ:=Nat) (fun i=>[(5,.int .i64 (i:Int))]) (fun i w'=>(i≤l.length∧ue S (l.take i)=true)∧Hp w ab w' [an g2 41 (bq S.n (.slice (some ⟨gO,oO,none⟩) S.on.length co) (.slice (some ⟨gM,oM,none⟩) S.may.length cm))] []) (fun i=>l.length - i) 0 ⟨rfl,trivial⟩ ⟨⟨Nat.zero_le _,rfl⟩,H⟩ ?_;clear H;rintro i u w3 ⟨⟨hi,hno⟩,H⟩;refine ay underlying44 ?_;refine au (fun h7=>?_) (fun h7=>?_)
  ·have hil:i<l.length:=by omega
   obtain ⟨x,hx,hxm⟩:=kC (l:=l) (j:=i) (by omega);obtain ⟨s1,s2,s3⟩:=hl x hxm;obtain ⟨gA,oA,rfl⟩:=hA.A (by omega);have htk:ue S (l.take (i+1))=(ue S (l.take i)&&Az x.1 x.2.1 x.2.2 S.n S.on.length):=by
    unfold ue;rw[List.take_add_one,hx,List.all_append];simp
   rw[hno,Bool.true_and] at htk;refine aw (fun w'=>ue S (l.take (i+1))=true∧Hp w ab w' [an g2 41 (bq S.n (.slice (some ⟨gO,oO,none⟩) S.on.length co) (.slice (some ⟨gM,oM,none⟩) S.may.length cm))] []) ?_ ?_
   ·refine H.draw eS (by kernel_rfl) ?_;clear H;intro w4 H;refine quiet _ (fun w H=>aq underlying44 bd i rfl hil (o':=oA+i*3) (by omega) ae) ?_;refine quiet (oU x.1 x.2.1 x.2.2) (fun w H=>Sl.cI H hA bI ij bd i rfl hx ae) ?_;refine quiet _ (fun w H=>aa (iG _) ae) ?_;refine quiet _ (fun w H=>H.load 0 rfl aE rfl ae) ?_;refine quiet _ (fun w H=>aa (gp _) ae) ?_;refine quiet _ (fun w H=>H.load 0 rfl dV rfl ae) ?_;refine quiet _ (fun w H=>ay underlying39 ae) ?_;refine aj (OR x.1 x.2.1 x.2.2 S.n S.on.length s1 s2 s3 (by omega) _) ?_;rintro _ w14 ⟨rfl,hk⟩;replace H:=H.same hk;clear hk;refine ⟨.inl H,?_⟩;refine aF (fun h16=>?_) (fun h16=>?_)
    ·refine ⟨congrArg Value.bool ?_,H.keeps⟩;have hbad:ue S l=false:=by
      unfold ue;rw[List.all_eq_false];exact ⟨x,hxm,by simpa using h16⟩
     unfold yW;rw[hbad];rfl
    ·exact ⟨(),trivial,by rw[htk];simpa using h16,H⟩
   ·clear H;rintro ⟨⟩ u w4 ⟨hno',H⟩;exact ⟨i+1,by show l.length - (i+1)<l.length - i;omega,⟨up (by omega),trivial⟩,⟨by show i+1≤l.length;omega,hno'⟩,H⟩
  ·obtain rfl:i=l.length:=by omega
   rw[List.take_length] at hno;exact ⟨(),trivial,hno,H⟩
 clear H;rintro ⟨⟩ u w2 ⟨hmay,H⟩;refine aw (fun w'=>ud S l S.on.length=true∧Hp w ab w' [an g2 41 (bq S.n (.slice (some ⟨gO,oO,none⟩) S.on.length co) (.slice (some ⟨gM,oM,none⟩) S.may.length cm))] []) ?_ ?_
 ·refine ax (γ:=Nat) (fun j=>[(6,.int .i64 (j:Int))]) (fun j w'=>(j≤S.on.length∧ud S l j=true)∧Hp w ab w' [an g2 41 (bq S.n (.slice (some ⟨gO,oO,none⟩) S.on.length co) (.slice (some ⟨gM,oM,none⟩) S.may.length cm))] []) (fun j=>S.on.length - j) 0 ⟨rfl,trivial⟩ ⟨⟨Nat.zero_le _,rfl⟩,H⟩ ?_;clear H;rintro j u w3 ⟨⟨hj,hyes⟩,H⟩;refine aa (gp _) ?_;refine H.load 0 rfl dV rfl ?_;refine ay underlying39 ?_;refine au (fun h7=>?_) (fun h7=>?_)
  ·obtain ⟨a,ha,hain⟩:=lj (l:=S.on) (j:=j) (by omega);obtain ⟨b,hb,hbin⟩:=lj (l:=S.may) (j:=j) (by omega);have hou:=Dd S l j;rw[hyes,Bool.true_and] at hou;refine aw (fun w'=>ud S l (j+1)=true∧Hp w ab w' [an g2 41 (bq S.n (.slice (some ⟨gO,oO,none⟩) S.on.length co) (.slice (some ⟨gM,oM,none⟩) S.may.length cm))] []) ?_ ?_
   ·refine ak (γ:=Nat × Nat × Nat × Nat) (fun (ga,ca,gb,cb)=>[(7,.slice (some ⟨ga,0,none⟩) 256 ca),(8,.slice (some ⟨gb,0,none⟩) 256 cb)]) (fun (ga,ca,gb,cb) w'=>Hp w ab w' [own 4 1 (.slice (some ⟨gb,0,none⟩) 256 cb) 256 (gY (jN b)),own 4 1 (.slice (some ⟨ga,0,none⟩) 256 ca) 256 (gY (jN a)),an g2 41 (bq S.n (.slice (some ⟨gO,oO,none⟩) S.on.length co) (.slice (some ⟨gM,oM,none⟩) S.may.length cm))] []) ?_ ?_
    ·refine H.draw eS (by kernel_rfl) ?_;clear H;intro w4 H;refine quiet _ (fun w H=>aa (gp _) ae) ?_;refine quiet _ (fun w H=>H.load 0 rfl dV rfl ae) ?_;refine quiet _ (fun w H=>aq underlying39 av j rfl (by omega) (o':=oO+j*4) (by omega) ae) ?_;refine quiet (sv a) (fun w H=>Sl.cI H hO.on bO aD av j rfl ha ae) ?_;refine aj (Ng _ _) ?_;rintro _ w10 ⟨A10,k10,rfl,hk⟩;replace H:=H.bD hk;obtain ⟨g10,rfl⟩:=H.mq 0 rfl (by omega);refine ⟨.inl H.forget,?_⟩;refine quiet _ (fun w H=>aa (fM _) ae) ?_;refine quiet _ (fun w H=>H.load 0 rfl dV rfl ae) ?_;refine quiet _ (fun w H=>aq underlying39 av j rfl (by omega) (o':=oM+j*4) (by omega) ae) ?_;refine quiet (sv b) (fun w H=>Sl.cI H hO.may bO aD av j rfl hb ae) ?_;refine aj (Ng _ _) ?_;rintro _ w14 ⟨A14,k14,rfl,hk⟩;replace H:=H.bD hk;clear hk;obtain ⟨g14,rfl⟩:=H.mq 0 rfl (by omega);refine ⟨.inl H.forget.forget,?_⟩;exact ⟨(g10,k10,g14,k14),⟨rfl,rfl,trivial⟩,H⟩
    clear H;rintro ⟨ga,ca,gb,cb⟩ u w4 H;refine ax (γ:=Nat) (fun p=>[(9,.int .i64 (p:Int))]) (fun p w'=>(p≤2^S.n∧uc S l j p=true)∧Hp w ab w' [own 4 1 (.slice (some ⟨gb,0,none⟩) 256 cb) 256 (gY (jN b)),own 4 1 (.slice (some ⟨ga,0,none⟩) 256 ca) 256 (gY (jN a)),an g2 41 (bq S.n (.slice (some ⟨gO,oO,none⟩) S.on.length co) (.slice (some ⟨gM,oM,none⟩) S.may.length cm))] []) (fun p=>2^S.n - p) 0 ⟨rfl,trivial⟩ ⟨⟨Nat.zero_le _,rfl⟩,H⟩ ?_;clear H;rintro p u w5 ⟨⟨hp,hcol⟩,H⟩;have hsz:=yV S.n h8;refine aa (iG _) ?_;refine H.load 2 rfl aE rfl ?_;refine aj (Ol S.n h8 _) ?_;rintro _ w6 ⟨rfl,hk⟩;replace H:=H.same hk;clear hk;rw[hsz];refine au (fun h9=>?_) (fun h9=>?_)
    ·have hpn:p<2^S.n:=by omega
     have hcs:=Dc S l j p;rw[hcol,Bool.true_and] at hcs;have hgd:qp S l j p= !(a.testBit p&& !nO l p j||nO l p j&& !b.testBit p):=by
      unfold qp;rw[List.getD_eq_getElem?_getD,List.getD_eq_getElem?_getD,ha,hb];rfl
     have hbad:qp S l j p=false→yW S l=false:=fun h=>by
      unfold yW;rw[HB (HA h hpn) (by omega),Bool.and_false]
     refine aw (fun w'=>uc S l j (p+1)=true∧Hp w ab w' [own 4 1 (.slice (some ⟨gb,0,none⟩) 256 cb) 256 (gY (jN b)),own 4 1 (.slice (some ⟨ga,0,none⟩) 256 ca) 256 (gY (jN a)),an g2 41 (bq S.n (.slice (some ⟨gO,oO,none⟩) S.on.length co) (.slice (some ⟨gM,oM,none⟩) S.may.length cm))] []) ?_ ?_
     ·refine ak (γ:=Unit) (fun _=>[(10,.bool (nO l p j))]) (fun _ w'=>Hp w ab w' [own 4 1 (.slice (some ⟨gb,0,none⟩) 256 cb) 256 (gY (jN b)),own 4 1 (.slice (some ⟨ga,0,none⟩) 256 ca) 256 (gY (jN a)),an g2 41 (bq S.n (.slice (some ⟨gO,oO,none⟩) S.on.length co) (.slice (some ⟨gM,oM,none⟩) S.may.length cm))] []) ?_ ?_
      ·refine aj (OQ l hl hll p j (by omega) (by omega) A c _ (hA.same H.keeps)) ?_;rintro _ w7 ⟨rfl,hk⟩;replace H:=H.same hk;exact ⟨(),⟨rfl,trivial⟩,H⟩
      clear H;rintro ⟨⟩ u w7 H;refine aq underlying37 (s:=1) (by kernel_rfl) p rfl (by omega) (o':=p) (by omega) ?_;refine H.dX 1 rfl vR (jc (by omega)) ?_
      cases hci:nO l p j <;> cases hai:a.testBit p <;> cases hbi:b.testBit p <;> rw[hci,hai,hbi] at hgd
      all_goals skip
      ·iterate 14 refine af rfl ?_
       exact ⟨(),trivial,by rw[hcs,hgd];rfl,H⟩
      ·iterate 14 refine af rfl ?_
       exact ⟨(),trivial,by rw[hcs,hgd];rfl,H⟩
      ·iterate 8 refine ag rfl ?_
       refine ⟨congrArg Value.bool ?_,H.keeps⟩;rw[hbad (by rw[hgd];rfl)]
      ·iterate 8 refine ag rfl ?_
       refine ⟨congrArg Value.bool ?_,H.keeps⟩;rw[hbad (by rw[hgd];rfl)]
      ·iterate 5 refine af rfl ?_
       iterate 3 refine ag rfl ?_
       refine aq underlying37 (s:=1) (by kernel_rfl) p rfl (by omega) (o':=p) (by omega) ?_;refine ag rfl ?_;refine H.dX 0 rfl vR (jc (by omega)) ?_;refine ag rfl ?_;refine af rfl ?_;refine ag rfl ?_;refine af rfl ?_;refine ag (by simp only[*,Bool.not_false,Bool.not_true]) ?_;refine ⟨congrArg Value.bool ?_,H.keeps⟩;rw[hbad (by rw[hgd];rfl)]
      ·iterate 5 refine af rfl ?_
       iterate 3 refine ag rfl ?_
       refine aq underlying37 (s:=1) (by kernel_rfl) p rfl (by omega) (o':=p) (by omega) ?_;refine ag rfl ?_;refine H.dX 0 rfl vR (jc (by omega)) ?_;refine ag rfl ?_;refine af rfl ?_;refine ag rfl ?_;refine af rfl ?_;refine af (by simp only[*,Bool.not_false,Bool.not_true]) ?_;exact ⟨(),trivial,by rw[hcs,hgd];rfl,H⟩
      ·iterate 3 refine ag rfl ?_
       iterate 2 refine af rfl ?_
       iterate 3 refine ag rfl ?_
       refine aq underlying37 (s:=1) (by kernel_rfl) p rfl (by omega) (o':=p) (by omega) ?_;refine ag rfl ?_;refine H.dX 0 rfl vR (jc (by omega)) ?_;refine ag rfl ?_;refine af rfl ?_;refine ag rfl ?_;refine af rfl ?_;refine ag (by simp only[*,Bool.not_false,Bool.not_true]) ?_;refine ⟨congrArg Value.bool ?_,H.keeps⟩;rw[hbad (by rw[hgd];rfl)]
      ·iterate 3 refine ag rfl ?_
       iterate 2 refine af rfl ?_
       iterate 3 refine ag rfl ?_
       refine aq underlying37 (s:=1) (by kernel_rfl) p rfl (by omega) (o':=p) (by omega) ?_;refine ag rfl ?_;refine H.dX 0 rfl vR (jc (by omega)) ?_;refine ag rfl ?_;refine af rfl ?_;refine ag rfl ?_;refine af rfl ?_;refine af (by simp only[*,Bool.not_false,Bool.not_true]) ?_;exact ⟨(),trivial,by rw[hcs,hgd];rfl,H⟩
     ·clear H;rintro ⟨⟩ u w7 ⟨hcol',H⟩;exact ⟨p+1,by show 2^S.n - (p+1)<2^S.n - p;omega,⟨up (by omega),trivial⟩,⟨by show p+1≤2^S.n;omega,hcol'⟩,H⟩
    ·obtain rfl:p=2^S.n:=by omega
     exact ⟨(),trivial,by rw[hou];exact hcol,H.forget.forget⟩
   ·clear H;rintro ⟨⟩ u w4 ⟨hyes',H⟩;exact ⟨j+1,by show S.on.length - (j+1)<S.on.length - j;omega,⟨up (by omega),trivial⟩,⟨by show j+1≤S.on.length;omega,hyes'⟩,H⟩
  ·obtain rfl:j=S.on.length:=by omega
   exact ⟨(),trivial,hyes,H⟩
 clear H;rintro ⟨⟩ u w3 ⟨hyes,H⟩;exact ⟨by unfold yW;rw[hmay,hyes];rfl,H.keeps⟩
theorem FE {n:Nat}(hn:n≤8){l:List Rw}{k:Nat}(hl:∀ x ∈ l,gK n k x){p j:Nat}(hp:p<2^n):nO l p j=(fO n j l).testBit p:=by
 rw[Bool.eq_iff_iff,fA];unfold nO;rw[List.any_eq_true];refine exists_congr fun x=>and_congr_right fun hx=>?_;have hok:=hl x hx;have hsub:=((eh hok.m hok.v).1 hok.right).2.2.2;rw[Bool.and_eq_true,bA hn,AK hok.m hsub,beq_iff_eq];exact and_congr_right fun _=>⟨fun h=>⟨hp,h⟩,fun h=>h.2⟩
theorem FF {S:dU}(hS:cK S){l:List Rw}(hl:∀ x ∈ l,x.1<256∧x.2.1<256∧x.2.2<256):yW S l=true↔(∀ x ∈ l,gK S.n S.on.length x)∧br S l=true:=by
 have hn8:=hS.n8;have hmayL:ue S l=true↔∀ x ∈ l,gK S.n S.on.length x:=by
  unfold ue;rw[List.all_eq_true];refine forall_congr' fun x=>imp_congr_right fun hx=>?_;obtain ⟨s1,s2,s3⟩:=hl x hx;rw[FD s3];exact ⟨fun ⟨h1,h2,h3⟩=>⟨s1,s2,s3,h3,h1,h2⟩,fun h=>⟨h.some,h.few,h.right⟩⟩
 unfold yW;rw[Bool.and_eq_true,hmayL];refine and_congr_right fun hok=>?_;rw[gu hS];have hout:ud S l S.on.length=true↔∀ o,o<S.on.length→∀ p,p<2^S.n→qp S l o p=true:=by
  unfold ud uc;rw[List.all_eq_true];refine forall_congr' fun o=>?_;rw[List.mem_range];refine imp_congr_right fun _=>?_;rw[List.all_eq_true];exact forall_congr' fun p=>by rw[List.mem_range]
 rw[hout];have hg:∀ {o a b p:Nat},S.on[o]?=some a→S.may[o]?=some b→p<2^S.n→(qp S l o p=true↔(a.testBit p=true→(fO S.n o l).testBit p=true)∧((fO S.n o l).testBit p=true→b.testBit p=true)):=fun {o a b p} ha hb hp=>by
  unfold qp;rw[List.getD_eq_getElem?_getD,List.getD_eq_getElem?_getD,ha,hb,FE hn8 hok hp];simp only[Option.getD_some]
  cases a.testBit p <;> cases b.testBit p <;> cases (fO S.n o l).testBit p <;> simp
 constructor
 ·intro h j a b ha hb;have hj:=(List.getElem?_eq_some_iff.1 ha).1;have hball:=hS.all b (List.mem_of_getElem? hb);refine ⟨fun p hp=>?_,fun p hp=>?_⟩
  ·have hpn:=fp hn8 ((hS.sub j a b ha hb).trans hball) hp;exact ((hg ha hb hpn).1 (h j hj p hpn)).1 hp
  ·obtain ⟨x,_,_,hc⟩:=fA.1 hp;have hpn:=((bA hn8).1 hc).1;exact ((hg ha hb hpn).1 (h j hj p hpn)).2 hp
 ·intro h o ho p hp;have ha:=List.getElem?_eq_getElem ho;have hb:=List.getElem?_eq_getElem (show o<S.may.length by rw[hS.len];exact ho);obtain ⟨h1,h2⟩:=h o _ _ ha hb;exact (hg ha hb hp).2 ⟨h1 p,h2 p⟩
theorem MN:enters prog 35=true:=by kernel_rfl
set_option maxHeartbeats 4000000 in
theorem OT {t:Tb}(ht:mL t)(v:Value)(w:World)(hA:jF w v t.ls):bt prog 35 [uo t.kd t.ni t.no v] w fun r w'=>r=.bool true∧aT w w':=by
 refine ar (N:=95) func35 MN rfl rfl rfl (by simp) ?_;have H:=Hp.aC w;obtain ⟨kd,ni,no,ls⟩:=t;obtain ⟨h1,h2,h3,h4,h5,h6⟩:=ht;simp only at h1 h2 h3 h4 h5 h6 hA ⊢;obtain ⟨B,c,hs,rfl,hSl,hsl,hln⟩:=hA.vn;refine ak (γ:=Nat) (fun g1=>[(1,(ah g1)),(2,.bool false)]) (fun g1 w'=>Hp w ab w' [an g1 33 (dO kd ni no (.slice B ls.length c))] []) ?_ ?_
 ·refine H.box 33 _ (cs:=dO kd ni no (.slice B ls.length c)) rfl ?_;clear H;intro g1 w1 H;exact ⟨g1,⟨rfl,rfl,trivial⟩,H⟩
 clear H;rintro g1 u w1 H;refine aw (fun w'=>Hp w ab w' [an g1 33 (dO kd ni no (.slice B ls.length c))] []) ?_ ?_
 ·refine aa (ew _ _) ?_;refine H.load 0 rfl aE rfl ?_;refine af rfl ?_;refine aa (ew _ _) ?_;refine af rfl ?_;refine H.load 0 rfl aE rfl ?_
  iterate 2 refine af rfl ?_
  refine af (decide_eq_false (by omega)) ?_;refine aa (ey _ _) ?_;refine af (decide_eq_false (by omega)) ?_;refine H.load 0 rfl aE rfl ?_
  iterate 2 refine af (decide_eq_false (by omega)) ?_
  refine af rfl ?_;refine aa (ey _ _) ?_;refine af rfl ?_;refine H.load 0 rfl aE rfl ?_
  iterate 2 refine af rfl ?_
  refine af (decide_eq_false (by omega)) ?_;refine aa (ft _ _) ?_;refine af (decide_eq_false (by omega)) ?_;refine H.load 0 rfl aE rfl ?_
  iterate 3 refine af (decide_eq_false (by omega)) ?_
  refine aa (ft _ _) ?_;refine af (decide_eq_false (by omega)) ?_;refine H.load 0 rfl aE rfl ?_
  iterate 3 refine af (decide_eq_false (by omega)) ?_
  refine aa (dZ _ _) ?_;refine af (decide_eq_false (by omega)) ?_;refine H.load 0 rfl il rfl ?_;refine af (decide_eq_false (by omega)) ?_;refine ay underlying31 ?_
  iterate 3 refine af (decide_eq_false (by omega)) ?_
  exact ⟨(),trivial,H⟩
 clear H;rintro ⟨⟩ u w2 H;refine aw (fun w'=>Hp w ab w' [an g1 33 (dO kd ni no (.slice B ls.length c))] []) ?_ ?_
 ·refine ax (γ:=Nat) (fun i=>[(3,.int .i64 (i:Int))]) (fun i w'=>i≤ls.length∧Hp w ab w' [an g1 33 (dO kd ni no (.slice B ls.length c))] []) (fun i=>ls.length - i) 0 ⟨rfl,trivial⟩ ⟨Nat.zero_le _,H⟩ ?_;clear H;rintro i u w3 ⟨hi,H⟩;refine aa (dZ _ _) ?_;refine H.load 0 rfl il rfl ?_;refine ay underlying31 ?_;refine au (fun h7=>?_) (fun h7=>?_)
  ·have hil:i<ls.length:=by omega
   obtain ⟨l,hl,hlm⟩:∃ l,ls[i]?=some l∧l ∈ ls:=⟨_,List.getElem?_eq_getElem hil,List.getElem_mem hil⟩;obtain ⟨B',c',hhd,hos⟩:=hln i l hl;have hok:=h6 l hlm;have hol:=hok.len;obtain ⟨s1,s2,s3⟩:=l_ h2 hok;obtain ⟨gA,oA,rfl⟩:=hSl.A (by omega);refine aw (fun w'=>Hp w ab w' [an g1 33 (dO kd ni no (.slice (some ⟨gA,oA,none⟩) ls.length c))] []) ?_ ?_
   ·refine ak (γ:=Nat) (fun g4=>[(4,(ah g4))]) (fun g4 w'=>Hp w ab w' [an g4 77 (fH l.1 l.2.1 (.slice B' l.2.2.length c')),an g1 33 (dO kd ni no (.slice (some ⟨gA,oA,none⟩) ls.length c))] []) ?_ ?_
    ·refine aa (dZ _ _) ?_;refine H.load 0 rfl il rfl ?_;refine aq underlying31 cY i rfl hil (o':=oA+i*3) (by omega) ?_;refine Sl.cI H hSl ik l9 cY i rfl hhd ?_;refine H.alloc 77 (cs:=fH 0 0 (.slice none 0 0)) lB rfl ?_;clear H;intro g4 w4 H;refine H.storeAll 0 rfl cY rfl (eM (m:=l.1) (v:=l.2.1)) ?_;clear H;intro w5 H;exact ⟨g4,⟨rfl,trivial⟩,H⟩
    clear H;rintro g4 u w4 H;refine aw (fun w'=>Hp w ab w' [an g4 77 (fH l.1 l.2.1 (.slice B' l.2.2.length c')),an g1 33 (dO kd ni no (.slice (some ⟨gA,oA,none⟩) ls.length c))] []) ?_ ?_
    ·refine aa (wT _) ?_;refine fE (H.get 0 rfl) (cc l.1 l.2.1).toList bw aO (sj _ _ _) ?_;refine aa (ey _ _) ?_;refine H.load 1 rfl aE rfl ?_;have hc:=Oe l.1 l.2.1 s1 s2 (ni:Int) w4;rw[s3] at hc;refine aj hc ?_;rintro _ w5 ⟨rfl,hk⟩;replace H:=H.same hk;clear hk;have hlen:=hok.len;refine af rfl ?_;refine aa (eE _) ?_;refine af rfl ?_;refine H.load 0 rfl fq rfl ?_;refine af rfl ?_;refine ay underlying75 ?_;refine af rfl ?_;refine aa (ft _ _) ?_;refine af rfl ?_;refine H.load 1 rfl aE rfl ?_
     iterate 2 refine af rfl ?_
     refine af (bne_eq_false_iff_eq.2 (by omega)) ?_;exact ⟨(),trivial,H⟩
    clear H;rintro ⟨⟩ u w5 H;refine ax (γ:=Nat) (fun j=>[(5,.int .i64 (j:Int))]) (fun j w'=>j≤l.2.2.length∧Hp w ab w' [an g4 77 (fH l.1 l.2.1 (.slice B' l.2.2.length c')),an g1 33 (dO kd ni no (.slice (some ⟨gA,oA,none⟩) ls.length c))] []) (fun j=>l.2.2.length - j) 0 ⟨rfl,trivial⟩ ⟨Nat.zero_le _,H⟩ ?_;clear H;rintro j u w6 ⟨hj,H⟩;refine aa (eE _) ?_;refine H.load 0 rfl fq rfl ?_;refine ay underlying75 ?_;refine au (fun h8=>?_) (fun h8=>?_)
    ·have hjl:j<l.2.2.length:=by omega
     obtain ⟨gO,oO,rfl⟩:=hos.A (by omega);have hx:=hok.marks _ (List.getElem_mem hjl);have hxe:(ints l.2.2)[j]?=some (.int .i64 ((l.2.2[j]:Nat):Int)):=e_ hjl;generalize l.2.2[j]=x at hx hxe;refine aw (fun w'=>Hp w ab w' [an g4 77 (fH l.1 l.2.1 (.slice (some ⟨gO,oO,none⟩) l.2.2.length c')),an g1 33 (dO kd ni no (.slice (some ⟨gA,oA,none⟩) ls.length c))] []) ?_ ?_
     ·rcases (by omega:x=0∨x=1∨x=2) with rfl | rfl | rfl
      ·refine aa (eE _) ?_;refine H.load 0 rfl fq rfl ?_;refine aq underlying75 a_ j rfl hjl (o':=oO+j) (by omega) ?_;refine aB aE (((hos.same H.keeps).cell j (by omega)).trans hxe) ?_
       iterate 15 refine af rfl ?_
       exact ⟨(),trivial,H⟩
      ·refine aa (eE _) ?_;refine H.load 0 rfl fq rfl ?_;refine aq underlying75 a_ j rfl hjl (o':=oO+j) (by omega) ?_;refine aB aE (((hos.same H.keeps).cell j (by omega)).trans hxe) ?_;refine ag rfl ?_;refine aa (eE _) ?_;refine ag rfl ?_;refine H.load 0 rfl fq rfl ?_
       iterate 2 refine ag rfl ?_
       refine aq underlying75 a_ j rfl hjl (o':=oO+j) (by omega) ?_;refine ag rfl ?_;refine aB aE (((hos.same H.keeps).cell j (by omega)).trans hxe) ?_
       iterate 2 refine ag rfl ?_
       iterate 8 refine af rfl ?_
       exact ⟨(),trivial,H⟩
      ·refine aa (eE _) ?_;refine H.load 0 rfl fq rfl ?_;refine aq underlying75 a_ j rfl hjl (o':=oO+j) (by omega) ?_;refine aB aE (((hos.same H.keeps).cell j (by omega)).trans hxe) ?_;refine ag rfl ?_;refine aa (eE _) ?_;refine ag rfl ?_;refine H.load 0 rfl fq rfl ?_
       iterate 2 refine ag rfl ?_
       refine aq underlying75 a_ j rfl hjl (o':=oO+j) (by omega) ?_;refine ag rfl ?_;refine aB aE (((hos.same H.keeps).cell j (by omega)).trans hxe) ?_
       iterate 3 refine ag rfl ?_
       refine aa (eE _) ?_;refine ag rfl ?_;refine H.load 0 rfl fq rfl ?_
       iterate 2 refine ag rfl ?_
       refine aq underlying75 a_ j rfl hjl (o':=oO+j) (by omega) ?_;refine ag rfl ?_;refine aB aE (((hos.same H.keeps).cell j (by omega)).trans hxe) ?_
       iterate 2 refine ag rfl ?_
       refine af rfl ?_;exact ⟨(),trivial,H⟩
     ·clear H;rintro ⟨⟩ u w7 H;exact ⟨j+1,by show l.2.2.length - (j+1)<l.2.2.length - j;omega,⟨up (by omega),trivial⟩,by show j+1≤l.2.2.length;omega,H⟩
    ·exact ⟨(),trivial,H.forget⟩
   ·clear H;rintro ⟨⟩ u w4 H;exact ⟨i+1,by show ls.length - (i+1)<ls.length - i;omega,⟨up (by omega),trivial⟩,by show i+1≤ls.length;omega,H⟩
  ·exact ⟨(),trivial,H⟩
 clear H;rintro ⟨⟩ u w3 H;exact ⟨rfl,H.keeps⟩
end Go.Proofs.YtpjihhgjbbihkaaGreatDoor
namespace Go.Dk
def fP (f:Nat→Bool)(k:Nat):List Bool:=(List.range 256).map fun p=>decide (p<k)&&f p
theorem bZ (f:Nat→Bool)(k:Nat):(fP f k).length=256:=by simp[fP]
theorem De (f:Nat→Bool):fP f 0=List.replicate 256 false:=by simp[fP,List.map_const']
theorem Df {f:Nat→Bool}{k:Nat}:(fP f k).set k (f k)=fP f (k+1):=by
 apply List.ext_getElem (by simp[fP]);intro p h1 h2;simp only[fP,List.length_set,List.length_map,List.length_range] at h1;rw[List.getElem_set];simp only[fP,List.getElem_map,List.getElem_range];by_cases h:k=p
 ·subst h;simp
 ·have:decide (p<k+1)=decide (p<k):=by rw[decide_eq_decide];omega
  simp[h,this]
def mW (t:Tb)(o p:Nat):Bool:=fU t.ls p o 1
def mV (t:Tb)(o p:Nat):Bool:=fU t.ls p o 0
def AA (t:Tb)(o p:Nat):Bool:=fU t.ls p o 2
def nQ (t:Tb)(o p:Nat):Bool:=mW t o p||decide (t.kd=1)&&AA t o p||decide (2≤t.kd)&& !mV t o p
end Go.Dk
namespace Go.Proofs.YtpjihhgjbbihkaaGreatDoor
open Go.Proofs.Tryz
open Go.Dk
set_option maxRecDepth 100000
attribute [local irreducible] IntKind.wrap
theorem yX {f:Nat→Bool}{k:Nat}{b:Bool}(h:f k=b):(gY (fP f k)).set k (.bool b)=gY (fP f (k+1)):=by
 rw[← Df,h];simp[gY,List.map_set]
theorem yY (f:Nat→Bool){k:Nat}(hk:k≤256)(p:Nat):(ld (fP f k)).testBit p=(decide (p<k)&&f p):=by
 rw[rU];by_cases hp:p<256
 ·rw[decide_eq_true hp,Bool.true_and,List.getD_eq_getElem?_getD];simp[fP,hp]
 ·rw[decide_eq_false hp,decide_eq_false (show ¬ p<k by omega)];rfl
theorem eN {t:Tb}(ht:mL t)(o mk p:Nat):(fT t o mk t.ls.length).testBit p=(decide (p<2^t.ni)&&fU t.ls p o mk):=by
 rw[Bool.eq_iff_iff,vp,Bool.and_eq_true,decide_eq_true_eq];unfold fU;rw[List.any_eq_true];have key:∀ l ∈ t.ls,(ba l.1 l.2.1 t.ni).testBit p=true↔p<2^t.ni∧uq l.1 l.2.1 p=true:=fun l hl=>by
  have hok:=ht.ls l hl;rw[bA ht.ni,AK (l_ ht.ni hok).1 hok.v,beq_iff_eq]
 constructor
 ·rintro ⟨i,l,_,hl,hm,hb⟩;have hm':=List.mem_of_getElem? hl;obtain ⟨h1,h2⟩:=(key l hm').1 hb;exact ⟨h1,l,hm',by rw[h2,decide_eq_true hm];rfl⟩
 ·rintro ⟨h1,l,hl,h2⟩;rw[Bool.and_eq_true,decide_eq_true_eq] at h2;obtain ⟨i,hi⟩:=List.getElem?_of_mem hl;exact ⟨i,l,(List.getElem?_eq_some_iff.1 hi).1,hi,h2.1,(key l hl).2 ⟨h1,h2.2⟩⟩
theorem MO {t:Tb}(ht:mL t)(o:Nat):ld (fP (mW t o) (2^t.ni))=me t o:=by
 have h2:2^t.ni≤2^8:=Nat.pow_le_pow_right (by decide) ht.ni;refine Nat.eq_of_testBit_eq fun p=>?_;rw[yY _ (by omega)];unfold me;rw[eN ht];rfl
theorem KC {t:Tb}(ht:mL t)(o:Nat)(hno:∀ p,p<2^t.ni→2≤t.kd→mW t o p=true→mV t o p=false):ld (fP (nQ t o) (2^t.ni))=hZ t o:=by
 have h2:2^t.ni≤2^8:=Nat.pow_le_pow_right (by decide) ht.ni;refine Nat.eq_of_testBit_eq fun p=>?_;rw[yY _ (by omega)];unfold hZ nQ;split
 ·rename_i h;unfold me;rw[eN ht,h];simp[mW]
 ·rename_i h;split
  ·rename_i h1;unfold me tP;rw[Nat.testBit_or,eN ht,eN ht,h1]
   cases decide (p<2^t.ni) <;> simp[mW,AA]
  ·rename_i h1;have hk:2≤t.kd:=by omega
   unfold tO;rw[bW (jW _),gr ht.ni,eN ht,decide_eq_false h1,decide_eq_true hk];by_cases hp:p<2^t.ni
   ·rw[decide_eq_true hp];have:=hno p hp hk;unfold mV at this ⊢
    cases h3:mW t o p with
    | false=>simp
    | true=>rw[this h3];rfl
   ·rw[decide_eq_false hp];rfl
theorem rf {t:Tb}(ht:mL t)(o:Nat):kM t o=true↔2≤t.kd∧∃ p,p<2^t.ni∧mW t o p=true∧mV t o p=true:=by
 unfold kM;rw[Bool.and_eq_true,decide_eq_true_eq,bne_iff_ne];refine and_congr_right fun _=>?_;constructor
 ·intro h;refine Classical.byContradiction fun hno=>h (h_.2 fun p=>?_);rw[Bool.eq_false_iff];intro hb;unfold me tO at hb;rw[Nat.testBit_and,eN ht,eN ht] at hb;simp only[Bool.and_eq_true,decide_eq_true_eq] at hb;exact hno ⟨p,hb.1.1,hb.1.2,hb.2.2⟩
 ·rintro ⟨p,h1,h2,h3⟩ h0;have:=h_.1 h0 p;unfold me tO at this;unfold mW at h2;unfold mV at h3;rw[Nat.testBit_and,eN ht,eN ht,decide_eq_true h1,h2,h3] at this
  cases this
theorem vx {t:Tb}{o:Nat}(ho:o<t.no)(h:kM t o=true):cO t t.no=true:=by
 unfold cO;rw[List.any_eq_true];exact ⟨o,List.mem_range.2 ho,h⟩
theorem MP:enters prog 12=true:=by kernel_rfl
set_option maxHeartbeats 4000000 in
theorem c12 {t:Tb}(ht:mL t)(v:Value)(w:World)(hA:jF w v t.ls):bt prog 12 [uo t.kd t.ni t.no v] w fun r w'=>
  (cO t t.no=true∧r=.tuple #[rW 0 (.slice none 0 0) (.slice none 0 0),.int .i64 4]∧aT w w')∨
  (cO t t.no=false∧∃ Bo co Bm cm,r=.tuple #[rW t.ni (.slice Bo t.no co) (.slice Bm t.no cm),.int .i64 0]∧∃ F,eX w w' (pw F (iT t) Bo co Bm cm)):=by
 refine ar (N:=96) func12 MP rfl rfl rfl (by simp) ?_;have H:=Hp.aC w;have hni:=ht.ni;have hno:=ht.no4;have hkd:=ht.kd;have h2n:2^t.ni≤2^8:=Nat.pow_le_pow_right (by decide) hni;refine ak (γ:=Nat × Nat) (fun (g1,g2)=>[(1,(ah g1)),(2,(ah g2)),(3,.int .i64 0)]) (fun (g1,g2) w'=>Hp w ab w' [an g2 41 (bq 0 (.slice none 0 0) (.slice none 0 0)),an g1 33 (dO t.kd t.ni t.no v)] []) ?_ ?_
 ·refine H.box 33 _ (cs:=dO t.kd t.ni t.no v) rfl ?_;clear H;intro g1 w1 H;refine H.alloc 41 (cs:=bq 0 (.slice none 0 0) (.slice none 0 0)) tQ rfl ?_;clear H;intro g2 w2 H;exact ⟨(g1,g2),⟨rfl,rfl,rfl,trivial⟩,H⟩
 clear H;rintro ⟨g1,g2⟩ u w1 H;refine aw (fun w'=>Hp w ab w' [an g2 41 (bq 0 (.slice none 0 0) (.slice none 0 0)),an g1 33 (dO t.kd t.ni t.no v)] []) ?_ ?_
 ·refine H.ai 1 rfl fB bJ ?_;refine aj (OT ht v _ (hA.same H.keeps)) ?_;rintro _ w2 ⟨rfl,hk⟩;replace H:=H.same hk;clear hk;refine af rfl ?_;exact ⟨(),trivial,H⟩
 clear H;rintro ⟨⟩ u w2 H;refine ak (γ:=Nat) (fun g4=>[(4,(ah g4))]) (fun g4 w'=>Hp w ab w' [an g4 41 (bq t.ni (.slice none 0 0) (.slice none 0 0)),own 86 4 (.slice none 0 0) 0 (flat bH []),own 86 4 (.slice none 0 0) 0 (flat bH []),an g2 41 (bq 0 (.slice none 0 0) (.slice none 0 0)),an g1 33 (dO t.kd t.ni t.no v)] []) ?_ ?_
 ·refine aa (ey _ _) ?_;refine H.load 1 rfl aE rfl ?_;refine yM ?_;refine H.alloc 41 (cs:=bq 0 (.slice none 0 0) (.slice none 0 0)) tQ rfl ?_;clear H;intro g4 w3 H;refine H.storeAll (cs':=bq t.ni (.slice none 0 0) (.slice none 0 0)) 0 rfl bL rfl j4 ?_;clear H;intro w4 H;exact ⟨g4,⟨rfl,trivial⟩,((H.bx 86 4).bx 86 4).b6 [2,0,1,3,4] (by decide) rfl⟩
 clear H;rintro g4 u w3 H;refine ak (γ:=Option Addr × Nat × Option Addr × Nat) (fun _=>[]) (fun (Bo,co,Bm,cm) w'=>cO t t.no=false∧Hp w ab w' [an g4 41 (bq t.ni (.slice Bo t.no co) (.slice Bm t.no cm)),own 86 4 (.slice Bo t.no co) t.no (flat bH (jG (me t) t.no)),own 86 4 (.slice Bm t.no cm) t.no (flat bH (jG (hZ t) t.no)),an g2 41 (bq 0 (.slice none 0 0) (.slice none 0 0)),an g1 33 (dO t.kd t.ni t.no v)] []) ?_ ?_
 ·refine ax (γ:=Nat × Option Addr × Nat × Option Addr × Nat) (fun (i,_)=>[(5,.int .i64 (i:Int))]) (fun (i,Bo,co,Bm,cm) w'=>(i≤t.no∧cO t i=false)∧Hp w ab w' [an g4 41 (bq t.ni (.slice Bo i co) (.slice Bm i cm)),own 86 4 (.slice Bo i co) i (flat bH (jG (me t) i)),own 86 4 (.slice Bm i cm) i (flat bH (jG (hZ t) i)),an g2 41 (bq 0 (.slice none 0 0) (.slice none 0 0)),an g1 33 (dO t.kd t.ni t.no v)] []) (fun (i,_)=>t.no - i) (0,none,0,none,0) ⟨rfl,trivial⟩ ⟨⟨Nat.zero_le _,rfl⟩,H⟩ ?_;clear H;rintro ⟨i,Bo,co,Bm,cm⟩ u w4 ⟨⟨hi,hcl⟩,H⟩;refine aa (ft _ _) ?_;refine H.load 4 rfl aE rfl ?_;refine au (fun h7=>?_) (fun h7=>?_)
  ·have hio:i<t.no:=by omega
   have hck:=rN t i;rw[hcl,Bool.false_or] at hck;refine ak (γ:=Option Addr × Nat × Option Addr × Nat) (fun _=>[]) (fun (Bo,co,Bm,cm) w'=>cO t (i+1)=false∧Hp w ab w' [an g4 41 (bq t.ni (.slice Bo (i+1) co) (.slice Bm (i+1) cm)),own 86 4 (.slice Bo (i+1) co) (i+1) (flat bH (jG (me t) (i+1))),own 86 4 (.slice Bm (i+1) cm) (i+1) (flat bH (jG (hZ t) (i+1))),an g2 41 (bq 0 (.slice none 0 0) (.slice none 0 0)),an g1 33 (dO t.kd t.ni t.no v)] []) ?_ ?_
   ·refine ak (γ:=Nat × Nat) (fun (ga,gb)=>[(6,.slice (some ⟨ga,0,none⟩) 256 256),(7,.slice (some ⟨gb,0,none⟩) 256 256)]) (fun (ga,gb) w'=>Hp w ab w' [own 4 1 (.slice (some ⟨gb,0,none⟩) 256 256) 256 (gY (fP (nQ t i) 0)),own 4 1 (.slice (some ⟨ga,0,none⟩) 256 256) 256 (gY (fP (mW t i) 0)),an g4 41 (bq t.ni (.slice Bo i co) (.slice Bm i cm)),own 86 4 (.slice Bo i co) i (flat bH (jG (me t) i)),own 86 4 (.slice Bm i cm) i (flat bH (jG (hZ t) i)),an g2 41 (bq 0 (.slice none 0 0) (.slice none 0 0)),an g1 33 (dO t.kd t.ni t.no v)] []) ?_ ?_
    ·refine ia (fun u=>Hp w ab u [an g4 41 (bq t.ni (.slice Bo i co) (.slice Bm i cm)),own 86 4 (.slice Bo i co) i (flat bH (jG (me t) i)),own 86 4 (.slice Bm i cm) i (flat bH (jG (hZ t) i)),an g2 41 (bq 0 (.slice none 0 0) (.slice none 0 0)),an g1 33 (dO t.kd t.ni t.no v)] []) [([0,1],[0,1,2,3]),([1,0],[1,0,2,3])] eS (by kernel_rfl) (H.same (aS.drew _)) ?_;replace H:=H.same (aS.drew _);generalize w4.drew=w5 at H;have hrep:∀ f,List.replicate 256 (Value.bool false)=gY (fP f 0):=fun f=>by rw[De];exact List.map_replicate.symm
     intro z hz;simp only[List.mem_cons,List.not_mem_nil,or_false] at hz;rcases hz with rfl | rfl
     ·refine H.make IJ 256 rfl rfl (by omega) (by omega) ?_;clear H;intro ga w6 H;rw[nr,hrep (mW t i)] at H;refine ⟨.inl H.forget,?_⟩;refine H.make IJ 256 rfl rfl (by omega) (by omega) ?_;clear H;intro gb w7 H;rw[nr,hrep (nQ t i)] at H;refine ⟨.inl H.forget.forget,?_⟩;exact ⟨(ga,gb),⟨rfl,rfl,trivial⟩,H⟩
     ·refine H.make IJ 256 rfl rfl (by omega) (by omega) ?_;clear H;intro gb w6 H;rw[nr,hrep (nQ t i)] at H;refine ⟨.inl H.forget,?_⟩;refine H.make IJ 256 rfl rfl (by omega) (by omega) ?_;clear H;intro ga w7 H;rw[nr,hrep (mW t i)] at H;refine ⟨.inl H.forget.forget,?_⟩;exact ⟨(ga,gb),⟨rfl,rfl,trivial⟩,H.b6 [1,0,2,3,4,5,6] (by decide) rfl⟩
    clear H;rintro ⟨ga,gb⟩ u w5 H;refine aw (fun w'=>(∀ q,q<2^t.ni→2≤t.kd→mW t i q=true→mV t i q=false)∧Hp w ab w' [own 4 1 (.slice (some ⟨gb,0,none⟩) 256 256) 256 (gY (fP (nQ t i) (2^t.ni))),own 4 1 (.slice (some ⟨ga,0,none⟩) 256 256) 256 (gY (fP (mW t i) (2^t.ni))),an g4 41 (bq t.ni (.slice Bo i co) (.slice Bm i cm)),own 86 4 (.slice Bo i co) i (flat bH (jG (me t) i)),own 86 4 (.slice Bm i cm) i (flat bH (jG (hZ t) i)),an g2 41 (bq 0 (.slice none 0 0) (.slice none 0 0)),an g1 33 (dO t.kd t.ni t.no v)] []) ?_ ?_
    ·refine ax (γ:=Nat) (fun p=>[(8,.int .i64 (p:Int))]) (fun p w'=>(p≤2^t.ni∧∀ q,q<p→2≤t.kd→mW t i q=true→mV t i q=false)∧Hp w ab w' [own 4 1 (.slice (some ⟨gb,0,none⟩) 256 256) 256 (gY (fP (nQ t i) p)),own 4 1 (.slice (some ⟨ga,0,none⟩) 256 256) 256 (gY (fP (mW t i) p)),an g4 41 (bq t.ni (.slice Bo i co) (.slice Bm i cm)),own 86 4 (.slice Bo i co) i (flat bH (jG (me t) i)),own 86 4 (.slice Bm i cm) i (flat bH (jG (hZ t) i)),an g2 41 (bq 0 (.slice none 0 0) (.slice none 0 0)),an g1 33 (dO t.kd t.ni t.no v)] []) (fun p=>2^t.ni - p) 0 ⟨rfl,trivial⟩ ⟨⟨Nat.zero_le _,fun q hq=>absurd hq (Nat.not_lt_zero _)⟩,H⟩ ?_;clear H;rintro p u w6 ⟨⟨hp,hnc⟩,H⟩;have hsz:=yV t.ni hni;refine aa (ey _ _) ?_;refine H.load 6 rfl aE rfl ?_;refine aj (Ol t.ni hni _) ?_;rintro _ w7 ⟨rfl,hk⟩;replace H:=H.same hk;clear hk;rw[hsz];refine au (fun h9=>?_) (fun h9=>?_)
     ·have hpn:p<2^t.ni:=by omega
      refine aw (fun w'=>(2≤t.kd→mW t i p=true→mV t i p=false)∧Hp w ab w' [own 4 1 (.slice (some ⟨gb,0,none⟩) 256 256) 256 (gY (fP (nQ t i) (p+1))),own 4 1 (.slice (some ⟨ga,0,none⟩) 256 256) 256 (gY (fP (mW t i) (p+1))),an g4 41 (bq t.ni (.slice Bo i co) (.slice Bm i cm)),own 86 4 (.slice Bo i co) i (flat bH (jG (me t) i)),own 86 4 (.slice Bm i cm) i (flat bH (jG (hZ t) i)),an g2 41 (bq 0 (.slice none 0 0) (.slice none 0 0)),an g1 33 (dO t.kd t.ni t.no v)] []) ?_ ?_
      ·refine ak (γ:=Unit) (fun _=>[(9,.bool (mW t i p)),(10,.bool (mV t i p)),(11,.bool (AA t i p))]) (fun _ w'=>Hp w ab w' [own 4 1 (.slice (some ⟨gb,0,none⟩) 256 256) 256 (gY (fP (nQ t i) p)),own 4 1 (.slice (some ⟨ga,0,none⟩) 256 256) 256 (gY (fP (mW t i) p)),an g4 41 (bq t.ni (.slice Bo i co) (.slice Bm i cm)),own 86 4 (.slice Bo i co) i (flat bH (jG (me t) i)),own 86 4 (.slice Bm i cm) i (flat bH (jG (hZ t) i)),an g2 41 (bq 0 (.slice none 0 0) (.slice none 0 0)),an g1 33 (dO t.kd t.ni t.no v)] []) ?_ ?_
       ·refine H.draw eS (by kernel_rfl) ?_;clear H;intro w8 H;refine quiet _ (fun w H=>H.ai 6 rfl fB bJ ae) ?_;refine aj (N3 ht p i 1 (by omega) hio v _ (hA.same H.keeps)) ?_;rintro _ w9a ⟨rfl,hk⟩;replace H:=H.same hk;clear hk;refine ⟨.inl H,?_⟩;refine quiet _ (fun w H=>H.ai 6 rfl fB bJ ae) ?_;refine aj (N3 ht p i 0 (by omega) hio v _ (hA.same H.keeps)) ?_;rintro _ w9b ⟨rfl,hk⟩;replace H:=H.same hk;clear hk;refine ⟨.inl H,?_⟩;refine quiet _ (fun w H=>H.ai 6 rfl fB bJ ae) ?_;refine aj (N3 ht p i 2 (by omega) hio v _ (hA.same H.keeps)) ?_;rintro _ w9c ⟨rfl,hk⟩;replace H:=H.same hk;clear hk;refine ⟨.inl H,?_⟩;exact ⟨(),⟨rfl,rfl,rfl,trivial⟩,H⟩
       clear H;rintro ⟨⟩ u w8 H;have hcl4:2≤t.kd→mW t i p=true→mV t i p=true→cO t t.no=true:=fun a b c=>vx hio ((rf ht i).2 ⟨a,p,hpn,b,c⟩);refine aw (fun w'=>(2≤t.kd→mW t i p=true→mV t i p=false)∧Hp w ab w' [own 4 1 (.slice (some ⟨gb,0,none⟩) 256 256) 256 (gY (fP (nQ t i) p)),own 4 1 (.slice (some ⟨ga,0,none⟩) 256 256) 256 (gY (fP (mW t i) p)),an g4 41 (bq t.ni (.slice Bo i co) (.slice Bm i cm)),own 86 4 (.slice Bo i co) i (flat bH (jG (me t) i)),own 86 4 (.slice Bm i cm) i (flat bH (jG (hZ t) i)),an g2 41 (bq 0 (.slice none 0 0) (.slice none 0 0)),an g1 33 (dO t.kd t.ni t.no v)] []) ?_ ?_
       ·refine aa (ew _ _) ?_;refine H.load 6 rfl aE rfl ?_;by_cases hk2:2≤t.kd
        ·cases h1:mW t i p <;> cases h0:mV t i p
         ·iterate 2 refine ag (decide_eq_true (by omega)) ?_
          iterate 3 refine af rfl ?_
          exact ⟨(),trivial,fun _ _=>rfl,H⟩
         ·iterate 2 refine ag (decide_eq_true (by omega)) ?_
          iterate 3 refine af rfl ?_
          exact ⟨(),trivial,(fun _ b=>by cases b),H⟩
         ·iterate 2 refine ag (decide_eq_true (by omega)) ?_
          iterate 2 refine ag rfl ?_
          refine af rfl ?_;exact ⟨(),trivial,fun _ _=>rfl,H⟩
         ·iterate 2 refine ag (decide_eq_true (by omega)) ?_
          iterate 3 refine ag rfl ?_
          refine yL ?_;refine H.storeAll 5 rfl bL rfl j4 ?_;clear H;intro w12 H;refine H.ai 5 rfl dx bL ?_;refine ⟨rfl,?_⟩;exact .inl ⟨hcl4 hk2 h1 h0,rfl,H.keeps⟩
        ·iterate 2 refine af (decide_eq_false (by omega)) ?_
         iterate 3 refine af rfl ?_
         exact ⟨(),trivial,fun a=>absurd a hk2,H⟩
       clear H;rintro ⟨⟩ u w9 ⟨hnp,H⟩;refine aw (fun w'=>Hp w ab w' [own 4 1 (.slice (some ⟨gb,0,none⟩) 256 256) 256 (gY (fP (nQ t i) p)),own 4 1 (.slice (some ⟨ga,0,none⟩) 256 256) 256 (gY (fP (mW t i) (p+1))),an g4 41 (bq t.ni (.slice Bo i co) (.slice Bm i cm)),own 86 4 (.slice Bo i co) i (flat bH (jG (me t) i)),own 86 4 (.slice Bm i cm) i (flat bH (jG (hZ t) i)),an g2 41 (bq 0 (.slice none 0 0) (.slice none 0 0)),an g1 33 (dO t.kd t.ni t.no v)] []) ?_ ?_
       ·refine aq underlying37 (s:=1) (by kernel_rfl) p rfl (by omega) (o':=p) (by omega) ?_;refine H.dd 1 rfl iB (by rw[gY,List.length_map,bZ];omega) rfl ?_;clear H;intro w10 H;exact ⟨(),trivial,by rw[← yX (f:=mW t i) (k:=p) rfl];exact H⟩
       clear H;rintro ⟨⟩ u w10 H;have hfin:∀ {b:Bool} {w':World},nQ t i p=b→Hp w ab w' [own 4 1 (.slice (some ⟨gb,0,none⟩) 256 256) 256 ((gY (fP (nQ t i) p)).set p (.bool b)),own 4 1 (.slice (some ⟨ga,0,none⟩) 256 256) 256 (gY (fP (mW t i) (p+1))),an g4 41 (bq t.ni (.slice Bo i co) (.slice Bm i cm)),own 86 4 (.slice Bo i co) i (flat bH (jG (me t) i)),own 86 4 (.slice Bm i cm) i (flat bH (jG (hZ t) i)),an g2 41 (bq 0 (.slice none 0 0) (.slice none 0 0)),an g1 33 (dO t.kd t.ni t.no v)] []→Hp w ab w' [own 4 1 (.slice (some ⟨gb,0,none⟩) 256 256) 256 (gY (fP (nQ t i) (p+1))),own 4 1 (.slice (some ⟨ga,0,none⟩) 256 256) 256 (gY (fP (mW t i) (p+1))),an g4 41 (bq t.ni (.slice Bo i co) (.slice Bm i cm)),own 86 4 (.slice Bo i co) i (flat bH (jG (me t) i)),own 86 4 (.slice Bm i cm) i (flat bH (jG (hZ t) i)),an g2 41 (bq 0 (.slice none 0 0) (.slice none 0 0)),an g1 33 (dO t.kd t.ni t.no v)] []:=fun h H=>by rw[← yX h];exact H
       have hmf:nQ t i p=(mW t i p||decide (t.kd=1)&&AA t i p||decide (2≤t.kd)&& !mV t i p):=rfl;by_cases hk1:t.kd=1
       ·have hk2:¬ 2≤t.kd:=by omega
        rw[decide_eq_true hk1,decide_eq_false hk2] at hmf
        cases h1:mW t i p <;> cases h0:mV t i p <;> cases h2:AA t i p <;> rw[h1,h0,h2] at hmf
        all_goals skip
        ·refine af rfl ?_;refine aa (ew _ _) ?_;refine af rfl ?_;refine H.load 6 rfl aE rfl ?_
         iterate 2 refine af rfl ?_
         refine ag (beq_iff_eq.2 (by omega)) ?_;refine af rfl ?_;refine ag (beq_iff_eq.2 (by omega)) ?_
         iterate 2 refine af rfl ?_
         refine aa (ew _ _) ?_;refine af rfl ?_;refine H.load 6 rfl aE rfl ?_
         iterate 2 refine af rfl ?_
         iterate 2 refine af (decide_eq_false (by omega)) ?_
         refine af rfl ?_;refine af (decide_eq_false (by omega)) ?_;refine af rfl ?_;refine aq underlying37 (s:=1) (by kernel_rfl) p rfl (by omega) (o':=p) (by omega) ?_;refine H.dd 0 rfl iB (by rw[gY,List.length_map,bZ];omega) rfl ?_;clear H;intro w12 H;exact ⟨(),trivial,by have h:=hnp;rw[h1,h0] at h;exact h,hfin hmf H⟩
        ·refine af rfl ?_;refine aa (ew _ _) ?_;refine af rfl ?_;refine H.load 6 rfl aE rfl ?_
         iterate 2 refine af rfl ?_
         refine ag (beq_iff_eq.2 (by omega)) ?_;refine af rfl ?_;refine ag (beq_iff_eq.2 (by omega)) ?_;refine af rfl ?_
         iterate 6 refine ag rfl ?_
         refine aq underlying37 (s:=1) (by kernel_rfl) p rfl (by omega) (o':=p) (by omega) ?_;refine H.dd 0 rfl iB (by rw[gY,List.length_map,bZ];omega) rfl ?_;clear H;intro w12 H;exact ⟨(),trivial,by have h:=hnp;rw[h1,h0] at h;exact h,hfin hmf H⟩
        ·refine af rfl ?_;refine aa (ew _ _) ?_;refine af rfl ?_;refine H.load 6 rfl aE rfl ?_
         iterate 2 refine af rfl ?_
         refine ag (beq_iff_eq.2 (by omega)) ?_;refine af rfl ?_;refine ag (beq_iff_eq.2 (by omega)) ?_
         iterate 2 refine af rfl ?_
         refine aa (ew _ _) ?_;refine af rfl ?_;refine H.load 6 rfl aE rfl ?_
         iterate 2 refine af rfl ?_
         iterate 2 refine af (decide_eq_false (by omega)) ?_
         refine af rfl ?_;refine af (decide_eq_false (by omega)) ?_;refine af rfl ?_;refine aq underlying37 (s:=1) (by kernel_rfl) p rfl (by omega) (o':=p) (by omega) ?_;refine H.dd 0 rfl iB (by rw[gY,List.length_map,bZ];omega) rfl ?_;clear H;intro w12 H;exact ⟨(),trivial,by have h:=hnp;rw[h1,h0] at h;exact h,hfin hmf H⟩
        ·refine af rfl ?_;refine aa (ew _ _) ?_;refine af rfl ?_;refine H.load 6 rfl aE rfl ?_
         iterate 2 refine af rfl ?_
         refine ag (beq_iff_eq.2 (by omega)) ?_;refine af rfl ?_;refine ag (beq_iff_eq.2 (by omega)) ?_;refine af rfl ?_
         iterate 6 refine ag rfl ?_
         refine aq underlying37 (s:=1) (by kernel_rfl) p rfl (by omega) (o':=p) (by omega) ?_;refine H.dd 0 rfl iB (by rw[gY,List.length_map,bZ];omega) rfl ?_;clear H;intro w12 H;exact ⟨(),trivial,by have h:=hnp;rw[h1,h0] at h;exact h,hfin hmf H⟩
        ·iterate 12 refine ag rfl ?_
         refine aq underlying37 (s:=1) (by kernel_rfl) p rfl (by omega) (o':=p) (by omega) ?_;refine H.dd 0 rfl iB (by rw[gY,List.length_map,bZ];omega) rfl ?_;clear H;intro w12 H;exact ⟨(),trivial,by have h:=hnp;rw[h1,h0] at h;exact h,hfin hmf H⟩
        ·iterate 12 refine ag rfl ?_
         refine aq underlying37 (s:=1) (by kernel_rfl) p rfl (by omega) (o':=p) (by omega) ?_;refine H.dd 0 rfl iB (by rw[gY,List.length_map,bZ];omega) rfl ?_;clear H;intro w12 H;exact ⟨(),trivial,by have h:=hnp;rw[h1,h0] at h;exact h,hfin hmf H⟩
        ·iterate 12 refine ag rfl ?_
         refine aq underlying37 (s:=1) (by kernel_rfl) p rfl (by omega) (o':=p) (by omega) ?_;refine H.dd 0 rfl iB (by rw[gY,List.length_map,bZ];omega) rfl ?_;clear H;intro w12 H;exact ⟨(),trivial,by have h:=hnp;rw[h1,h0] at h;exact h,hfin hmf H⟩
        ·iterate 12 refine ag rfl ?_
         refine aq underlying37 (s:=1) (by kernel_rfl) p rfl (by omega) (o':=p) (by omega) ?_;refine H.dd 0 rfl iB (by rw[gY,List.length_map,bZ];omega) rfl ?_;clear H;intro w12 H;exact ⟨(),trivial,by have h:=hnp;rw[h1,h0] at h;exact h,hfin hmf H⟩
       ·by_cases hk2:2≤t.kd
        ·rw[decide_eq_false hk1,decide_eq_true hk2] at hmf
         cases h1:mW t i p <;> cases h0:mV t i p <;> rw[h1,h0] at hmf
         all_goals skip
         ·refine af rfl ?_;refine aa (ew _ _) ?_;refine af rfl ?_;refine H.load 6 rfl aE rfl ?_
          iterate 2 refine af rfl ?_
          refine af (beq_eq_false_iff_ne.2 (by omega)) ?_;refine af rfl ?_;refine af (beq_eq_false_iff_ne.2 (by omega)) ?_
          iterate 2 refine af rfl ?_
          refine aa (ew _ _) ?_;refine af rfl ?_;refine H.load 6 rfl aE rfl ?_
          iterate 2 refine af rfl ?_
          iterate 2 refine ag (decide_eq_true (by omega)) ?_
          refine af rfl ?_;refine ag (decide_eq_true (by omega)) ?_;refine af rfl ?_;refine aq underlying37 (s:=1) (by kernel_rfl) p rfl (by omega) (o':=p) (by omega) ?_;refine H.dd 0 rfl iB (by rw[gY,List.length_map,bZ];omega) rfl ?_;clear H;intro w12 H;exact ⟨(),trivial,by have h:=hnp;rw[h1,h0] at h;exact h,hfin hmf H⟩
         ·refine af rfl ?_;refine aa (ew _ _) ?_;refine af rfl ?_;refine H.load 6 rfl aE rfl ?_
          iterate 2 refine af rfl ?_
          refine af (beq_eq_false_iff_ne.2 (by omega)) ?_;refine af rfl ?_;refine af (beq_eq_false_iff_ne.2 (by omega)) ?_
          iterate 2 refine af rfl ?_
          refine aa (ew _ _) ?_;refine af rfl ?_;refine H.load 6 rfl aE rfl ?_
          iterate 2 refine af rfl ?_
          iterate 2 refine ag (decide_eq_true (by omega)) ?_
          refine af rfl ?_;refine ag (decide_eq_true (by omega)) ?_;refine af rfl ?_;refine aq underlying37 (s:=1) (by kernel_rfl) p rfl (by omega) (o':=p) (by omega) ?_;refine H.dd 0 rfl iB (by rw[gY,List.length_map,bZ];omega) rfl ?_;clear H;intro w12 H;exact ⟨(),trivial,by have h:=hnp;rw[h1,h0] at h;exact h,hfin hmf H⟩
         ·iterate 12 refine ag rfl ?_
          refine aq underlying37 (s:=1) (by kernel_rfl) p rfl (by omega) (o':=p) (by omega) ?_;refine H.dd 0 rfl iB (by rw[gY,List.length_map,bZ];omega) rfl ?_;clear H;intro w12 H;exact ⟨(),trivial,by have h:=hnp;rw[h1,h0] at h;exact h,hfin hmf H⟩
         ·iterate 12 refine ag rfl ?_
          refine aq underlying37 (s:=1) (by kernel_rfl) p rfl (by omega) (o':=p) (by omega) ?_;refine H.dd 0 rfl iB (by rw[gY,List.length_map,bZ];omega) rfl ?_;clear H;intro w12 H;exact ⟨(),trivial,by have h:=hnp;rw[h1,h0] at h;exact h,hfin hmf H⟩
        ·rw[decide_eq_false hk1,decide_eq_false hk2] at hmf
         cases h1:mW t i p <;> rw[h1] at hmf
         all_goals skip
         ·refine af rfl ?_;refine aa (ew _ _) ?_;refine af rfl ?_;refine H.load 6 rfl aE rfl ?_
          iterate 2 refine af rfl ?_
          refine af (beq_eq_false_iff_ne.2 (by omega)) ?_;refine af rfl ?_;refine af (beq_eq_false_iff_ne.2 (by omega)) ?_
          iterate 2 refine af rfl ?_
          refine aa (ew _ _) ?_;refine af rfl ?_;refine H.load 6 rfl aE rfl ?_
          iterate 2 refine af rfl ?_
          iterate 2 refine af (decide_eq_false (by omega)) ?_
          refine af rfl ?_;refine af (decide_eq_false (by omega)) ?_;refine af rfl ?_;refine aq underlying37 (s:=1) (by kernel_rfl) p rfl (by omega) (o':=p) (by omega) ?_;refine H.dd 0 rfl iB (by rw[gY,List.length_map,bZ];omega) rfl ?_;clear H;intro w12 H;exact ⟨(),trivial,by have h:=hnp;rw[h1] at h;exact h,hfin hmf H⟩
         ·iterate 12 refine ag rfl ?_
          refine aq underlying37 (s:=1) (by kernel_rfl) p rfl (by omega) (o':=p) (by omega) ?_;refine H.dd 0 rfl iB (by rw[gY,List.length_map,bZ];omega) rfl ?_;clear H;intro w12 H;exact ⟨(),trivial,by have h:=hnp;rw[h1] at h;exact h,hfin hmf H⟩
      ·clear H;rintro ⟨⟩ u w7 ⟨hnp,H⟩;exact ⟨p+1,by show 2^t.ni - (p+1)<2^t.ni - p;omega,⟨up (by omega),trivial⟩,⟨by show p+1≤2^t.ni;omega,fun q hq=>by
        by_cases e:q=p
        ·subst e;exact hnp
        ·exact hnc q (by omega)⟩,H⟩
     ·obtain rfl:p=2^t.ni:=by omega
      exact ⟨(),trivial,hnc,H⟩
    clear H;rintro ⟨⟩ u w6 ⟨hnc,H⟩;have hcb:kM t i=false:=by
     rw[Bool.eq_false_iff];intro h;obtain ⟨a,p,b,c,d⟩:=(rf ht i).1 h;rw[hnc p b a c] at d
     cases d
    rw[hcb] at hck;have e1:flat bH (jG (me t) (i+1))=flat bH (jG (me t) i)++bH (me t i):=by rw[nL];exact du ..
    have e2:flat bH (jG (hZ t) (i+1))=flat bH (jG (hZ t) i)++bH (hZ t i):=by rw[nL];exact du ..
    have f1:=fun A c u h=>c37 (fP (mW t i) (2^t.ni)) (bZ _ _) A c u h;have f2:=fun A c u h=>c37 (fP (nQ t i) (2^t.ni)) (bZ _ _) A c u h;rw[MO ht] at f1;rw[KC ht i hnc] at f2;refine ak (γ:=Option Addr × Nat) (fun _=>[]) (fun (Bo',co') w'=>Hp w ab w' [own 4 1 (.slice (some ⟨gb,0,none⟩) 256 256) 256 (gY (fP (nQ t i) (2^t.ni))),an g4 41 (bq t.ni (.slice Bo' (i+1) co') (.slice Bm i cm)),own 86 4 (.slice Bo' (i+1) co') (i+1) (flat bH (jG (me t) (i+1))),own 86 4 (.slice Bm i cm) i (flat bH (jG (hZ t) i)),an g2 41 (bq 0 (.slice none 0 0) (.slice none 0 0)),an g1 33 (dO t.kd t.ni t.no v)] []) ?_ ?_
    ·refine H.fg [an g4 41 (bq t.ni (.slice Bo i co) (.slice Bm i cm))] (fun u H=>H.b6 [2] (by decide) rfl) eS (by kernel_rfl) ?_;clear H;intro w8 H;refine quiet _ (fun w H=>aa (gp _) ae) ?_;refine quiet _ (fun w H=>H.load 0 rfl dV rfl ae) ?_;refine aj (f1 _ _ _ (bE (H.get 1 rfl))) ?_;rintro _ w9 ⟨rfl,hk⟩;replace H:=H.same hk;clear hk;refine ⟨.inl (H.b6 [2] (by decide) rfl),?_⟩;refine H.bg FU (cs:=sc (me t i)) (by decide) (by decide) (by kernel_rfl) ?_;clear H;intro gx w11 H;refine ⟨.inl (H.b6 [3] (by decide) rfl),?_⟩;refine H.aG 4 0 FU rfl rfl rfl (fl _) (by omega) (by omega) ?_;clear H;intro Bo' co' w12 H;replace H:=H.forget;refine ⟨.inl (H.b6 [2] (by decide) rfl),?_⟩;refine quiet _ (fun w H=>aa (gp _) ae) ?_;refine H.store 2 rfl tq (Nat.le_of_ble_eq_true rfl) rfl ?_;clear H;intro w16 H;refine ⟨.inr (by kernel_rfl),?_⟩;refine ⟨(Bo',co'),trivial,?_⟩;rw[e1];exact H.b6 [0,2,3,4,5,6] (by decide) rfl
    clear H;rintro ⟨Bo',co'⟩ u w7 H;refine H.fg [an g4 41 (bq t.ni (.slice Bo' (i+1) co') (.slice Bm i cm))] (fun u H=>H.b6 [1] (by decide) rfl) eS (by kernel_rfl) ?_;clear H;intro w8 H;refine quiet _ (fun w H=>aa (fM _) ae) ?_;refine quiet _ (fun w H=>H.load 0 rfl dV rfl ae) ?_;refine aj (f2 _ _ _ (bE (H.get 0 rfl))) ?_;rintro _ w9 ⟨rfl,hk⟩;replace H:=H.same hk;clear hk;refine ⟨.inl (H.b6 [1] (by decide) rfl),?_⟩;refine H.bg FU (cs:=sc (hZ t i)) (by decide) (by decide) (by kernel_rfl) ?_;clear H;intro gx w11 H;refine ⟨.inl (H.b6 [2] (by decide) rfl),?_⟩;refine H.aG 4 0 FU rfl rfl rfl (fl _) (by omega) (by omega) ?_;clear H;intro Bm' cm' w12 H;replace H:=H.forget;refine ⟨.inl (H.b6 [1] (by decide) rfl),?_⟩;refine quiet _ (fun w H=>aa (fM _) ae) ?_;refine H.store 1 rfl tq (Nat.le_of_ble_eq_true rfl) rfl ?_;clear H;intro w16 H;refine ⟨.inr (by kernel_rfl),?_⟩;refine ⟨(Bo',co',Bm',cm'),trivial,hck,?_⟩;rw[e2];exact H.b6 [1,2,3,4,5] (by decide) rfl
   clear H;rintro ⟨Bo',co',Bm',cm'⟩ u w10 ⟨hcl1,H⟩;exact ⟨(i+1,Bo',co',Bm',cm'),by show t.no - (i+1)<t.no - i;omega,⟨up (by omega),trivial⟩,⟨by show i+1≤t.no;omega,hcl1⟩,H⟩
  ·obtain rfl:i=t.no:=by omega
   exact ⟨(Bo,co,Bm,cm),trivial,hcl,H⟩
 clear H;rintro ⟨Bo,co,Bm,cm⟩ u w6 ⟨hcl,H⟩;refine H.ai 0 rfl dx bL ?_;refine H.storeAll 3 rfl bL rfl j4 ?_;clear H;intro w8 H;refine H.ai 3 rfl dx bL ?_;exact ⟨rfl,.inr ⟨hcl,Bo,co,Bm,cm,rfl,BH (S:=iT t) (H.b6 [1,2] (by decide) rfl) (ez _ _).symm (ez _ _).symm⟩⟩
theorem AB {P:Program}{fv:Value}{args:List Value}{w:World}{k k':Value→World→Prop}(h:js P fv args w k)(hk:∀ v w',k v w'→k' v w'):js P fv args w k':=by
 unfold js at h ⊢;split at h
 ·exact h.mono hk
 ·exact h.elim
theorem MQ:cH prog 1=some false:=by kernel_rfl
theorem KD:bB prog 1=some 1:=by kernel_rfl
theorem sk:cH prog 26=some false:=by kernel_rfl
theorem AD (i:Nat)(hi:i<7)(g:Nat)(w:World):(Instr.fieldAt 60 (ah g) i).run prog w=.ok (.pointer (some ⟨g,[0,4,8,11,15,19,20].getD i 0,none⟩)) w:=by
 rcases (by omega:i=0∨i=1∨i=2∨i=3∨i=4∨i=5∨i=6) with rfl | rfl | rfl | rfl | rfl | rfl | rfl <;> kernel_rfl
theorem AF (g:Nat)(w:World):(Instr.fieldAt 60 (ah g) 0).run prog w=.ok (ah g) w:=AD 0 (by decide) g w
theorem AG (g:Nat)(w:World):(Instr.fieldAt 60 (ah g) 1).run prog w=.ok (.pointer (some ⟨g,4,none⟩)) w:=AD 1 (by decide) g w
theorem wZ (g:Nat)(w:World):(Instr.fieldAt 60 (ah g) 2).run prog w=.ok (.pointer (some ⟨g,8,none⟩)) w:=AD 2 (by decide) g w
theorem uf (g:Nat)(w:World):(Instr.fieldAt 60 (ah g) 3).run prog w=.ok (.pointer (some ⟨g,11,none⟩)) w:=AD 3 (by decide) g w
theorem ug (g:Nat)(w:World):(Instr.fieldAt 60 (ah g) 4).run prog w=.ok (.pointer (some ⟨g,15,none⟩)) w:=AD 4 (by decide) g w
theorem AH (g:Nat)(w:World):(Instr.fieldAt 60 (ah g) 5).run prog w=.ok (.pointer (some ⟨g,19,none⟩)) w:=AD 5 (by decide) g w
theorem kP (g:Nat)(w:World):(Instr.fieldAt 60 (ah g) 6).run prog w=.ok (.pointer (some ⟨g,20,none⟩)) w:=AD 6 (by decide) g w
theorem MR:enters prog 19=true:=by kernel_rfl
theorem OU {I:Nat→World→Prop}{Bad:World→Prop}(fi:Nat→FuncId)(cp:Nat→Array Value)(n gj gs:Nat)(hn:n≤100)(w:World)(hI:I 0 w)(hfs:∀ i w',i<n→I i w'→w'.cell? ⟨gs,i,none⟩=some (.func (.func (fi i)) #[] (cp i)))(hstep:∀ i w',i<n→I i w'→js prog (.func (.func (fi i)) #[] (cp i)) [] w' fun _ w''=>(I (i+1) w''∧w''.cell? ⟨gj,20,none⟩=some (.int .i64 0))∨(Bad w''∧∃ e:Int,e≠0∧w''.cell? ⟨gj,20,none⟩=some (.int .i64 e))) :
  bt prog 19 [(ah gj),.slice (some ⟨gs,0,none⟩) n n] w fun r w'=>(r=.bool true∧I n w')∨(r=.bool false∧Bad w'):=by
 refine ar (N:=21) func19 MR rfl rfl rfl (by simp) ?_;refine ak (γ:=Unit) (fun _=>[(4,.bool false)]) (fun _ w'=>I 0 w') ⟨(),⟨rfl,trivial⟩,hI⟩ ?_;clear hI;rintro ⟨⟩ u w1 hI;refine aw (fun w'=>I n w') ?_ ?_
 ·refine ay (by kernel_rfl:Tryz.prog.underlying 97=some (.slice 1)) ?_;refine ax (γ:=Nat) (fun i=>[(9,.int .i64 (i:Int))]) (fun i w'=>i≤n∧I i w') (fun i=>n - i) 0 ⟨rfl,trivial⟩ ⟨Nat.zero_le _,hI⟩ ?_;clear hI;rintro i u w2 ⟨hi,hI⟩;refine au (fun h7=>?_) (fun h7=>?_)
  ·have hin:i<n:=by have h7:(i:Int)<(n:Int):=h7;omega
   refine aw (fun w'=>I (i+1) w') ?_ ?_
   ·refine ak (γ:=Unit) (fun _=>[(6,.func (.func (fi i)) #[] (cp i))]) (fun _ w'=>I i w') ?_ ?_
    ·refine aq (by kernel_rfl:Tryz.prog.underlying 97=some (.slice 1)) KD i rfl hin (o':=i) (by omega) ?_;refine aB MQ (hfs i _ hin hI) ?_;exact ⟨(),⟨rfl,trivial⟩,hI⟩
    clear hI;rintro ⟨⟩ u w3 hI;refine aw (fun w'=>(I (i+1) w'∧w'.cell? ⟨gj,20,none⟩=some (.int .i64 0))∨(Bad w'∧∃ e:Int,e≠0∧w'.cell? ⟨gj,20,none⟩=some (.int .i64 e))) ?_ ?_
    ·refine AB (hstep i _ hin hI) ?_;intro v w4 h;exact ⟨(),trivial,h⟩
    clear hI;rintro ⟨⟩ u w4 (⟨hI,h0⟩ | ⟨hB,e,he,h0⟩)
    ·refine aa (kP _) ?_;refine aB sk h0 ?_;refine af rfl ?_;exact ⟨(),trivial,hI⟩
    ·refine aa (kP _) ?_;refine aB sk h0 ?_;refine ag (bne_iff_ne.2 he) ?_;exact .inr ⟨rfl,hB⟩
   ·clear hI;rintro ⟨⟩ u w3 hI;exact ⟨i+1,by show n - (i+1)<n - i;omega,⟨up (by omega),trivial⟩,by show i+1≤n;omega,hI⟩
  ·obtain rfl:i=n:=by have h7:¬ (i:Int)<(n:Int):=h7;omega
   exact ⟨(),trivial,hI⟩
 clear hI;rintro ⟨⟩ u w2 hI;exact .inl ⟨rfl,hI⟩
def rh (kd ni no:Int)(v:Value)(kd' ni' no':Int)(v':Value)(sn:Int)(so sm rv:Value)(st why ss:Int)(tx:List UInt8)(o1 o2 o3 ln e:Int):Array Value:=
 #[.int .i64 kd,.int .i64 ni,.int .i64 no,v,.int .i64 kd',.int .i64 ni',.int .i64 no',v',.int .i64 sn,so,sm,rv,.int .i64 st,.int .i64 why,.int .i64 ss,aU tx,.int .i64 o1,.int .i64 o2,.int .i64 o3,.int .i64 ln,.int .i64 e]
abbrev j5:Value:=.slice none 0 0
def Io:Array Value:=rh 0 0 0 j5 0 0 0 j5 0 j5 j5 j5 0 0 0 [] 0 0 0 0 0
theorem HC {k:Value→World→Prop}{w:World}(h:k (.agg Io) w):b7 prog 60 [] w k:=bu (fun w=>by kernel_rfl) h
theorem KE:eH prog 56=some (.pointer none):=by kernel_rfl
theorem KF:bB prog 56=some 1:=by kernel_rfl
theorem gv:cH prog 56=some false:=by kernel_rfl
def lC (tx:List UInt8)(o1 o2 o3:Int):Array Value:=#[aU tx,.int .i64 o1,.int .i64 o2,.int .i64 o3]
theorem w_:eH prog 28=some (.agg (lC [] 0 0 0)):=by kernel_rfl
theorem nR:bB prog 28=some 4:=by kernel_rfl
theorem FG:cH prog 28=some true:=by kernel_rfl
theorem OV:qu prog 97 1 .nilFunc 1 8:=⟨by kernel_rfl,by kernel_rfl,rfl,by decide⟩
theorem KG (g o:Nat)(w:World):(Instr.fieldAt 28 (.pointer (some ⟨g,o,none⟩)) 0).run prog w=.ok (.pointer (some ⟨g,o,none⟩)) w:=by kernel_rfl
theorem uh (g o:Nat)(w:World):(Instr.fieldAt 28 (.pointer (some ⟨g,o,none⟩)) 1).run prog w=.ok (.pointer (some ⟨g,o+1,none⟩)) w:=by kernel_rfl
theorem KH (g o:Nat)(w:World):(Instr.fieldAt 28 (.pointer (some ⟨g,o,none⟩)) 2).run prog w=.ok (.pointer (some ⟨g,o+2,none⟩)) w:=by kernel_rfl
theorem AI (g o:Nat)(w:World):(Instr.fieldAt 28 (.pointer (some ⟨g,o,none⟩)) 3).run prog w=.ok (.pointer (some ⟨g,o+3,none⟩)) w:=by kernel_rfl
theorem BN (g o:Nat)(w:World):(Instr.fieldAt 58 (.pointer (some ⟨g,o,none⟩)) 0).run prog w=.ok (.pointer (some ⟨g,o,none⟩)) w:=by kernel_rfl
theorem HD (g o:Nat)(w:World):(Instr.fieldAt 58 (.pointer (some ⟨g,o,none⟩)) 1).run prog w=.ok (.pointer (some ⟨g,o+1,none⟩)) w:=by kernel_rfl
theorem HE (g o:Nat)(w:World):(Instr.fieldAt 58 (.pointer (some ⟨g,o,none⟩)) 2).run prog w=.ok (.pointer (some ⟨g,o+2,none⟩)) w:=by kernel_rfl
theorem MS:enters prog 20=true:=by kernel_rfl
set_option maxHeartbeats 1000000 in
theorem c20 {w0 w:World}{L M:List cC}(text:List UInt8)(hl:text.length≤100000)(gj g7 g2:Nat)(H:Hp w0 ab w (an gj 60 Io::an g7 56 #[(ah gj)]::an g2 9 #[aU text]::L) (oH::M)) :
  bt prog 20 ([]++[(ah g2),(ah g7)]) w fun _ w'=>
   (∃ s v S,cP text=.ok s∧Hp w0 ab w' (pv S v s.ls::an gj 60 (rh s.kd s.ni s.no v 0 0 0 j5 0 j5 j5 j5 0 0 0 [] 0 0 0 0 0)::an g7 56 #[(ah gj)]::an g2 9 #[aU text]::L) (oH::M))∨
   (∃ (i:Nat) (e:Int),cP text=.error (i,e)∧e≠0∧Hp w0 ab w' (an gj 60 (rh 0 0 0 j5 0 0 0 j5 0 j5 j5 j5 0 0 0 [] 0 0 0 i e)::an g7 56 #[(ah gj)]::an g2 9 #[aU text]::L) (oH::M)):=by
 refine ar (N:=17) func20 MS rfl rfl rfl (by simp) ?_;refine H.fg [an g7 56 #[(ah gj)],an g2 9 #[aU text]] (fun u H=>H.b6 [1,2] (by decide) rfl) eS (by kernel_rfl) ?_;clear H;intro w1 H;refine quiet _ (fun w H=>H.load 0 rfl gv rfl ae) ?_;refine quiet _ (fun w H=>H.load 0 rfl gv rfl ae) ?_;refine quiet _ (fun w H=>H.load 0 rfl gv rfl ae) ?_;refine quiet _ (fun w H=>H.load 1 rfl xZ rfl ae) ?_;refine aj (c21 text hl _ (H.ro 0 rfl)) ?_;rintro _ w2 (⟨i,e,hP,rfl,he,hk⟩ | ⟨s,v,S,hP,rfl,hn⟩)
 ·replace H:=H.same hk;clear hk;refine ⟨.inl (H.b6 [1,2] (by decide) rfl),?_⟩;refine quiet _ (fun w H=>aa (AF _) ae) ?_;refine H.fF (cs2:=Io) 0 rfl bJ (Nat.le_of_ble_eq_true rfl) dA rfl ?_;clear H;intro w5 H;refine ⟨.inl (H.b6 [1,2] (by decide) rfl),?_⟩;refine quiet _ (fun w H=>aa (AH _) ae) ?_;refine H.store 0 rfl a_ (Nat.le_of_ble_eq_true rfl) rfl ?_;clear H;intro w6 H;refine ⟨.inl (H.b6 [1,2] (by decide) rfl),?_⟩;refine quiet _ (fun w H=>aa (kP _) ae) ?_;refine H.store 0 rfl jn (Nat.le_of_ble_eq_true rfl) rfl ?_;clear H;intro w7 H;refine ⟨.inl (H.b6 [1,2] (by decide) rfl),?_⟩;exact .inr ⟨i,e,hP,he,H⟩
 ·replace H:=H.bD hn;obtain ⟨B,c,hs,rfl,_⟩:=H.get 0 rfl;refine ⟨.inl (H.b6 [2,3] (by decide) rfl),?_⟩;refine quiet _ (fun w H=>aa (AF _) ae) ?_;refine H.fF (cs2:=rh s.kd s.ni s.no (.slice B s.ls.length c) 0 0 0 j5 0 j5 j5 j5 0 0 0 [] 0 0 0 0 0) 1 rfl bJ (Nat.le_of_ble_eq_true rfl) dA rfl ?_;clear H;intro w5 H;refine ⟨.inl (H.b6 [2,3] (by decide) rfl),?_⟩;refine quiet _ (fun w H=>aa (AH _) ae) ?_;refine H.store 1 rfl a_ (Nat.le_of_ble_eq_true rfl) rfl ?_;clear H;intro w6 H;refine ⟨.inl (H.b6 [2,3] (by decide) rfl),?_⟩;refine quiet _ (fun w H=>aa (kP _) ae) ?_;refine H.store 1 rfl jn (Nat.le_of_ble_eq_true rfl) rfl ?_;clear H;intro w7 H;refine ⟨.inl (H.b6 [2,3] (by decide) rfl),?_⟩;exact .inl ⟨s,.slice B s.ls.length c,S,hP,H⟩
end Go.Proofs.YtpjihhgjbbihkaaGreatDoor
namespace Go.Dk
def HF (g i:Nat)(cs:List Value):cC:=
 ⟨fun x=>x=g,fun w=>∀ (j:Nat) v,cs[j]?=some v→w.cell? ⟨g,i+j,none⟩=some v,fun w w' h hok j v hj=>by
  have:=hok j v hj;unfold World.cell? at *;rw[h g rfl];exact this⟩
theorem dD {w0 w:World}{F:Nat→Prop}{L M:List cC}{g:Nat}{t:TypeId}{cs:Array Value}(H:Hp w0 F w (an g t cs::L) M)(i:Nat)(cs':List Value)(h:cs'=(cs.toList.drop i).take cs'.length):Hp w0 F w (HF g i cs'::L) M:=
 H.re (r':=HF g i cs') (fun hb j v hj=>(aQ hb (i+j)).trans (by
  rw[h,List.getElem?_take] at hj;split at hj
  ·rw[List.getElem?_drop] at hj;rw[← Array.getElem?_toList];exact hj
  ·cases hj)) (fun g hg=>hg)
theorem qq {P:Program}{w:World}{k:Value→World→Prop}{g i:Nat}{cs:List Value}(hok:(HF g i cs).ok w)(o n:Nat){ty:TypeId}(cs':List Value)(hagg:cH P ty=some true)(hs:bB P ty=some cs'.length)(hc:cs'=(cs.drop n).take cs'.length)(ho:o=i+n)(h:k (.agg cs'.toArray) w) :
  eY P ty (.pointer (some ⟨g,o,none⟩)) w k:=by
 subst ho;refine hK cs' hagg hs (fun j v hj=>?_) h;rw[addr_add,Nat.add_assoc];rw[hc,List.getElem?_take] at hj;split at hj
 ·rw[List.getElem?_drop] at hj;exact hok _ _ hj
 ·cases hj
theorem ow {P:Program}{w:World}{k:Value→World→Prop}{g i:Nat}{cs:List Value}(hok:(HF g i cs).ok w)(o n:Nat){ty:TypeId}{v:Value}(hagg:cH P ty=some false)(hc:cs[n]?=some v)(ho:o=i+n)(h:k v w):eY P ty (.pointer (some ⟨g,o,none⟩)) w k:=by
 subst ho;exact aB hagg (hok n v hc) h
end Go.Dk
namespace Go.Proofs.YtpjihhgjbbihkaaGreatDoor
open Go.Proofs.Tryz
open Go.Dk
set_option maxRecDepth 100000
attribute [local irreducible] IntKind.wrap
theorem qs {f:Nat→Nat}{k j x:Nat}:(jG f k)[j]?=some x↔j<k∧f j=x:=by
 unfold jG;rw[List.getElem?_map];by_cases h:j<k
 ·rw[List.getElem?_range h];simp[h]
 ·rw[List.getElem?_eq_none (by simpa using h)];simp[h]
theorem yZ {t:Tb}(ht:mL t)(j p:Nat):(hZ t j).testBit p=(decide (p<2^t.ni)&&(if t.kd=0 then mW t j p else if t.kd=1 then mW t j p||AA t j p else !mV t j p)):=by
 unfold hZ;split
 ·unfold me;rw[eN ht];rfl
 ·split
  ·unfold me tP;rw[Nat.testBit_or,eN ht,eN ht];unfold mW AA
   cases decide (p<2^t.ni) <;> simp
  ·unfold tO;rw[bW (jW _),gr ht.ni,eN ht];unfold mV
   cases decide (p<2^t.ni) <;> simp
theorem HG {t:Tb}(ht:mL t)(j p:Nat):(me t j).testBit p=(decide (p<2^t.ni)&&mW t j p):=eN ht j 1 p
theorem FH {n:Nat}(hn:n≤8){s:Nat}(h:∀ p,s.testBit p=true→p<2^n):s<2^256:=by
 have h2:2^n≤2^8:=Nat.pow_le_pow_right (by decide) hn;refine Nat.lt_pow_two_of_testBit _ fun p hp=>?_;rw[Bool.eq_false_iff];intro hb;have:=h p hb;omega
theorem ui {t:Tb}(ht:mL t)(hc:cO t t.no=false):cK (iT t):=by
 have hmay:∀ j p,(hZ t j).testBit p=true→p<2^t.ni:=fun j p h=>by
  rw[yZ ht,Bool.and_eq_true,decide_eq_true_eq] at h;exact h.1
 refine ⟨ht.ni,by show 1≤(jG _ _).length;rw[ez];exact ht.no1,by show (jG _ _).length≤4;rw[ez];exact ht.no4,by show (jG _ _).length=(jG _ _).length;rw[ez,ez],fun a ha=>?_,fun a ha=>?_,fun j a b ha hb=>?_,fun b hb=>?_⟩
 ·obtain ⟨j,hj⟩:=List.getElem?_of_mem ha;obtain ⟨_,rfl⟩:=qs.1 hj;exact nK _ _ _ _
 ·obtain ⟨j,hj⟩:=List.getElem?_of_mem ha;obtain ⟨_,rfl⟩:=qs.1 hj;exact FH ht.ni (hmay j)
 ·obtain ⟨hj,rfl⟩:=qs.1 ha;obtain ⟨_,rfl⟩:=qs.1 hb;intro p hp;rw[HG ht,Bool.and_eq_true] at hp;rw[yZ ht,hp.1,hp.2,Bool.true_and];split
  ·rfl
  ·split
   ·rfl
   ·have hcj:kM t j=false:=by
     rw[Bool.eq_false_iff];intro h;rw[vx hj h] at hc
     cases hc
    cases ho:mV t j p with
    | false=>rfl
    | true=>
     rw[Bool.eq_false_iff] at hcj;exact absurd ((rf ht j).2 ⟨by have:=ht.kd;omega,p,of_decide_eq_true hp.1,hp.2,ho⟩) hcj
 ·obtain ⟨j,hj⟩:=List.getElem?_of_mem hb;obtain ⟨_,rfl⟩:=qs.1 hj;intro p hp;show (bn t.ni).testBit p=true;rw[gr ht.ni];exact decide_eq_true (hmay j p hp)
theorem MT:enters prog 22=true:=by kernel_rfl
set_option maxHeartbeats 1000000 in
theorem OW {w0 w:World}{L M:List cC}{t:Tb}(ht:mL t)(v:Value)(S1:Nat→Prop)(gj g7:Nat)(H:Hp w0 ab w (pv S1 v t.ls::an gj 60 (rh t.kd t.ni t.no v 0 0 0 j5 0 j5 j5 j5 0 0 0 [] 0 0 0 0 0)::an g7 56 #[(ah gj)]::L) M) :
  bt prog 22 ([]++[(ah g7)]) w fun _ w'=>
   (∃ Bo co Bm cm F,cO t t.no=false∧Hp w0 ab w' (pw F (iT t) Bo co Bm cm::an gj 60 (rh t.kd t.ni t.no v 0 0 0 j5 t.ni (.slice Bo t.no co) (.slice Bm t.no cm) j5 0 0 0 [] 0 0 0 0 0)::an g7 56 #[(ah gj)]::L) M)∨
   (cO t t.no=true∧Hp w0 ab w' (an gj 60 (rh t.kd t.ni t.no v 0 0 0 j5 0 j5 j5 j5 0 0 0 [] 0 0 0 0 4)::an g7 56 #[(ah gj)]::L) M):=by
 refine ar (N:=15) func22 MT rfl rfl rfl (by simp) ?_;refine gN (fun u=>Hp w0 ab u [HF gj 0 [.int .i64 t.kd,.int .i64 t.ni,.int .i64 t.no,v],an g7 56 #[(ah gj)]] M) eS (by kernel_rfl) (dD ((H.same (aS.drew _)).b6 [1,2] (by decide) rfl) 0 _ rfl) ?_;replace H:=H.same (aS.drew _);generalize w.drew=w1 at H;have hA:jF w1 v t.ls:=qf.mono (H.get 0 rfl) fun g hg=>H.lt _ (.head _) g hg;refine quiet _ (fun w H=>H.load 1 rfl gv rfl ae) ?_;refine quiet _ (fun w H=>H.load 1 rfl gv rfl ae) ?_;refine quiet _ (fun w H=>H.load 1 rfl gv rfl ae) ?_;refine quiet _ (fun w H=>aa (AF _) ae) ?_;refine quiet (uo t.kd t.ni t.no v) (fun w H=>qq (H.get 0 rfl) 0 0 [.int .i64 t.kd,.int .i64 t.ni,.int .i64 t.no,v] fB bJ rfl rfl ae) ?_;refine aj (OI ht v _ hA) ?_;rintro _ w2 (⟨hc,rfl,hk⟩ | ⟨hc,Bo,co,Bm,cm,rfl,F,hn⟩)
 ·replace H:=H.same hk;clear hk;refine ⟨.inl (dD (H.b6 [1,2] (by decide) rfl) 0 _ rfl),?_⟩;refine quiet _ (fun w H=>aa (wZ _) ae) ?_;refine H.fF (cs2:=rh t.kd t.ni t.no v 0 0 0 j5 0 j5 j5 j5 0 0 0 [] 0 0 0 0 0) 1 rfl bL (Nat.le_of_ble_eq_true rfl) j4 rfl ?_;clear H;intro w5 H;refine ⟨.inl (dD (H.b6 [1,2] (by decide) rfl) 0 _ rfl),?_⟩;refine quiet _ (fun w H=>aa (kP _) ae) ?_;refine H.store 1 rfl jn (Nat.le_of_ble_eq_true rfl) rfl ?_;clear H;intro w7 H;refine ⟨.inl (dD (H.b6 [1,2] (by decide) rfl) 0 _ rfl),?_⟩;exact .inr ⟨hc,H.forget⟩
 ·replace H:=(H.forget).bD hn;refine ⟨.inl (dD (H.b6 [1,2] (by decide) rfl) 0 _ rfl),?_⟩;refine quiet _ (fun w H=>aa (wZ _) ae) ?_;refine H.fF (cs2:=rh t.kd t.ni t.no v 0 0 0 j5 t.ni (.slice Bo t.no co) (.slice Bm t.no cm) j5 0 0 0 [] 0 0 0 0 0) 1 rfl bL (Nat.le_of_ble_eq_true rfl) j4 rfl ?_;clear H;intro w5 H;refine ⟨.inl (dD (H.b6 [1,2] (by decide) rfl) 0 _ rfl),?_⟩;refine quiet _ (fun w H=>aa (kP _) ae) ?_;refine H.store 1 rfl jn (Nat.le_of_ble_eq_true rfl) rfl ?_;clear H;intro w7 H;refine ⟨.inl (dD (H.b6 [1,2] (by decide) rfl) 0 _ rfl),?_⟩;exact .inl ⟨Bo,co,Bm,cm,F,hc,H⟩
theorem MU:enters prog 24=true:=by kernel_rfl
set_option maxHeartbeats 1000000 in
theorem c24 {w0 w:World}{L M:List cC}{S:dU}(hS:cK S)(hn4:S.n≤4)(hk3:S.may.length≤3)(nodes steps:Int)(kd ni no:Int)(v:Value)(F:Nat→Prop)(Bo:Option Addr)(co:Nat)(Bm:Option Addr)(cm:Nat)(gj g7 g3:Nat)(H:Hp w0 ab w (pw F S Bo co Bm cm::an gj 60 (rh kd ni no v 0 0 0 j5 S.n (.slice Bo S.on.length co) (.slice Bm S.may.length cm) j5 0 0 0 [] 0 0 0 0 0)::an g7 56 #[(ah gj)]::an g3 23 (kK nodes steps)::L) M) :
  bt prog 24 ([]++[(ah g7),(ah g3)]) w fun _ w'=>
   (∃ A c rows st why ss,qe S nodes steps rows st why 0∧Hp w0 ab w' (own 50 3 (.slice A rows.length c) rows.length (flat bj rows)::pw F S Bo co Bm cm::an gj 60 (rh kd ni no v 0 0 0 j5 S.n (.slice Bo S.on.length co) (.slice Bm S.may.length cm) (.slice A rows.length c) st why ss [] 0 0 0 0 0)::an g7 56 #[(ah gj)]::an g3 23 (kK nodes steps)::L) M)∨
   (yE nodes steps∧∃ v1 st why ss,Hp w0 ab w' (an gj 60 (rh kd ni no v 0 0 0 j5 S.n (.slice Bo S.on.length co) (.slice Bm S.may.length cm) v1 st why ss [] 0 0 0 0 1)::an g7 56 #[(ah gj)]::an g3 23 (kK nodes steps)::L) M):=by
 refine ar (N:=17) func24 MU rfl rfl rfl (by simp) ?_;refine gN (fun u=>Hp w0 ab u [HF gj 8 [.int .i64 S.n,.slice Bo S.on.length co,.slice Bm S.may.length cm],an g7 56 #[(ah gj)],an g3 23 (kK nodes steps)] M) eS (by kernel_rfl) (dD ((H.same (aS.drew _)).b6 [1,2,3] (by decide) rfl) 8 _ rfl) ?_;replace H:=H.same (aS.drew _);generalize w.drew=w1 at H;have hA:gn w1 S Bo co Bm cm:=wU (H.get 0 rfl) fun g hg=>H.lt _ (.head _) g hg;refine quiet _ (fun w H=>H.load 1 rfl gv rfl ae) ?_;refine quiet _ (fun w H=>H.load 1 rfl gv rfl ae) ?_;refine quiet _ (fun w H=>H.load 1 rfl gv rfl ae) ?_;refine quiet _ (fun w H=>aa (wZ _) ae) ?_;refine quiet (rW S.n (.slice Bo S.on.length co) (.slice Bm S.may.length cm)) (fun w H=>qq (H.get 0 rfl) 8 0 [.int .i64 S.n,.slice Bo S.on.length co,.slice Bm S.may.length cm] dx bL rfl rfl ae) ?_;refine quiet _ (fun w H=>H.ai 2 rfl BB wN ae) ?_;refine aj (OC hS hn4 hk3 nodes steps Bo co Bm cm _ hA) ?_;rintro _ w2 ⟨A,c,rows,st,why,ss,e,rfl,hM,hn⟩;replace H:=H.bD hn;refine ⟨.inl (dD (H.b6 [2,3,4] (by decide) rfl) 8 _ rfl),?_⟩;refine quiet _ (fun w H=>aa (uf _) ae) ?_;refine H.fF (cs2:=rh kd ni no v 0 0 0 j5 S.n (.slice Bo S.on.length co) (.slice Bm S.may.length cm) (.slice A rows.length c) st why ss [] 0 0 0 0 0) 2 rfl dw (Nat.le_of_ble_eq_true rfl) fS rfl ?_;clear H;intro w5 H;refine ⟨.inl (dD (H.b6 [2,3,4] (by decide) rfl) 8 _ rfl),?_⟩;refine quiet _ (fun w H=>aa (kP _) ae) ?_;refine H.store 2 rfl jn (Nat.le_of_ble_eq_true rfl) rfl ?_;clear H;intro w7 H;refine ⟨.inl (dD (H.b6 [2,3,4] (by decide) rfl) 8 _ rfl),?_⟩;have hM':=hM;rcases hM with ⟨hb,_,_,_,rfl⟩ | ⟨_,rfl,_⟩
 ·exact .inr ⟨hb,_,st,why,ss,H.forget.forget⟩
 ·exact .inl ⟨A,c,rows,st,why,ss,hM',H⟩
theorem uj {S:dU}(hS:cK S){nodes steps:Int}{rows:List Rw}{st why:Int}(h:qe S nodes steps rows st why 0):∀ x ∈ rows,gK S.n S.on.length x:=by
 rcases h with ⟨_,_,_,_,h⟩ | ⟨_,_,(⟨_,_,h,_⟩ | ⟨_,h,_⟩)⟩
 ·cases h
 ·exact fun x hx=>((h x hx).um hS).ok hS
 ·exact h.1
theorem HI {w:World}{A:Option Addr}{n c sz:Nat}{e:TypeId}{xs:List Value}(h:(own e sz (.slice A n c) n xs).ok w):n≤9223372036854775807:=by
 rcases h.2 with ⟨_,h⟩ | ⟨g,cap,cur,_,_,_,h1,h2,_⟩
 ·omega
 ·unfold maxLen at h2;omega
theorem MV:enters prog 26=true:=by kernel_rfl
set_option maxHeartbeats 1000000 in
theorem OX {w0 w:World}{L M:List cC}{S:dU}(hS:cK S)(rows:List Rw)(hr:∀ x ∈ rows,gK S.n S.on.length x)(kd ni no:Int)(v:Value)(F:Nat→Prop)(Bo:Option Addr)(co:Nat)(Bm:Option Addr)(cm:Nat)(A:Option Addr)(c:Nat)(st why ss:Int)(gj g7:Nat)(H:Hp w0 ab w (own 50 3 (.slice A rows.length c) rows.length (flat bj rows)::pw F S Bo co Bm cm::an gj 60 (rh kd ni no v 0 0 0 j5 S.n (.slice Bo S.on.length co) (.slice Bm S.may.length cm) (.slice A rows.length c) st why ss [] 0 0 0 0 0)::an g7 56 #[(ah gj)]::L) M) :
  bt prog 26 ([]++[(ah g7)]) w fun _ w'=>
   (rows.length≤64∧∃ v2 F2,Hp w0 ab w' (pv F2 v2 (rows.map (jI S.on.length))::an gj 60 (rh kd ni no v 1 S.n S.on.length v2 S.n (.slice Bo S.on.length co) (.slice Bm S.may.length cm) (.slice A rows.length c) st why ss [] 0 0 0 0 0)::an g7 56 #[(ah gj)]::L) M)∨
   (64<rows.length∧Hp w0 ab w' (an gj 60 (rh kd ni no v 0 0 0 j5 S.n (.slice Bo S.on.length co) (.slice Bm S.may.length cm) (.slice A rows.length c) st why ss [] 0 0 0 0 3)::an g7 56 #[(ah gj)]::L) M):=by
 refine ar (N:=20) func26 MV rfl rfl rfl (by simp) ?_;refine gN (fun u=>Hp w0 ab u [HF gj 8 [.int .i64 S.n,.slice Bo S.on.length co,.slice Bm S.may.length cm,.slice A rows.length c],an g7 56 #[(ah gj)]] M) eS (by kernel_rfl) (dD ((H.same (aS.drew _)).b6 [2,3] (by decide) rfl) 8 _ rfl) ?_;replace H:=H.same (aS.drew _);generalize w.drew=w1 at H;have hA:gn w1 S Bo co Bm cm:=wU (H.get 1 rfl) fun g hg=>H.lt _ (.tail _ (.head _)) g hg;refine quiet _ (fun w H=>H.load 1 rfl gv rfl ae) ?_;refine quiet _ (fun w H=>H.load 1 rfl gv rfl ae) ?_;refine quiet _ (fun w H=>H.load 1 rfl gv rfl ae) ?_;refine quiet _ (fun w H=>aa (wZ _) ae) ?_;refine quiet (rW S.n (.slice Bo S.on.length co) (.slice Bm S.may.length cm)) (fun w H=>qq (H.get 0 rfl) 8 0 [.int .i64 S.n,.slice Bo S.on.length co,.slice Bm S.may.length cm] dx bL rfl rfl ae) ?_;refine quiet _ (fun w H=>H.load 1 rfl gv rfl ae) ?_;refine quiet _ (fun w H=>aa (uf _) ae) ?_;refine quiet _ (fun w H=>aa (BN _ _) ae) ?_;refine quiet (.slice A rows.length c) (fun w H=>ow (H.get 0 rfl) 11 3 Ff rfl rfl ae) ?_;refine aj (OJ hS rows hr (HI (H.get 0 rfl)) Bo co Bm cm A c _ hA (bE (H.get 0 rfl))) ?_;rintro _ w2 (⟨h64,rfl,hk⟩ | ⟨h64,v2,F2,rfl,hn⟩)
 ·replace H:=(H.forget.forget).same hk;clear hk;refine ⟨.inl (dD (H.b6 [0,1] (by decide) rfl) 8 _ rfl),?_⟩;refine quiet _ (fun w H=>aa (AG _) ae) ?_;refine H.fF (cs2:=rh kd ni no v 0 0 0 j5 S.n (.slice Bo S.on.length co) (.slice Bm S.may.length cm) (.slice A rows.length c) st why ss [] 0 0 0 0 0) 0 rfl bJ (Nat.le_of_ble_eq_true rfl) dA rfl ?_;clear H;intro w5 H;refine ⟨.inl (dD (H.b6 [0,1] (by decide) rfl) 8 _ rfl),?_⟩;refine quiet _ (fun w H=>aa (kP _) ae) ?_;refine H.store 0 rfl jn (Nat.le_of_ble_eq_true rfl) rfl ?_;clear H;intro w7 H;refine ⟨.inl (dD (H.b6 [0,1] (by decide) rfl) 8 _ rfl),?_⟩;exact .inr ⟨h64,H⟩
 ·replace H:=(H.forget.forget).bD hn;obtain ⟨B,d,hs,rfl,_⟩:=H.get 0 rfl;refine ⟨.inl (dD (H.b6 [1,2] (by decide) rfl) 8 _ rfl),?_⟩;refine quiet _ (fun w H=>aa (AG _) ae) ?_;refine H.fF (cs2:=rh kd ni no v 1 S.n S.on.length (.slice B (rows.map (jI S.on.length)).length d) S.n (.slice Bo S.on.length co) (.slice Bm S.may.length cm) (.slice A rows.length c) st why ss [] 0 0 0 0 0) 1 rfl bJ (Nat.le_of_ble_eq_true rfl) dA rfl ?_;clear H;intro w5 H;refine ⟨.inl (dD (H.b6 [1,2] (by decide) rfl) 8 _ rfl),?_⟩;refine quiet _ (fun w H=>aa (kP _) ae) ?_;refine H.store 1 rfl jn (Nat.le_of_ble_eq_true rfl) rfl ?_;clear H;intro w7 H;refine ⟨.inl (dD (H.b6 [1,2] (by decide) rfl) 8 _ rfl),?_⟩;exact .inl ⟨h64,_,F2,H⟩
theorem MW:enters prog 28=true:=by kernel_rfl
set_option maxHeartbeats 1000000 in
theorem c28 {w0 w:World}{L M:List cC}{t:Tb}(ht:mL t)(kd ni no:Int)(v v2:Value)(F2:Nat→Prop)(sn:Int)(so sm rv:Value)(st why ss:Int)(gj g7:Nat)(H:Hp w0 ab w (pv F2 v2 t.ls::an gj 60 (rh kd ni no v t.kd t.ni t.no v2 sn so sm rv st why ss [] 0 0 0 0 0)::an g7 56 #[(ah gj)]::L) (oH::M)) :
  bt prog 28 ([]++[(ah g7)]) w fun _ w'=>
   Hp w0 ab w' (an gj 60 (rh kd ni no v t.kd t.ni t.no v2 sn so sm rv st why ss (ji t) 0 0 0 0 0)::an g7 56 #[(ah gj)]::L) (oH::M):=by
 refine ar (N:=16) func28 MW rfl rfl rfl (by simp) ?_;refine gN (fun u=>Hp w0 ab u [HF gj 4 [.int .i64 t.kd,.int .i64 t.ni,.int .i64 t.no,v2],an g7 56 #[(ah gj)]] (oH::M)) eS (by kernel_rfl) (dD ((H.same (aS.drew _)).b6 [1,2] (by decide) rfl) 4 _ rfl) ?_;replace H:=H.same (aS.drew _);generalize w.drew=w1 at H;have hA:jF w1 v2 t.ls:=qf.mono (H.get 0 rfl) fun g hg=>H.lt _ (.head _) g hg;refine quiet _ (fun w H=>H.load 1 rfl gv rfl ae) ?_;refine quiet _ (fun w H=>H.load 1 rfl gv rfl ae) ?_;refine quiet _ (fun w H=>H.load 1 rfl gv rfl ae) ?_;refine quiet _ (fun w H=>aa (AG _) ae) ?_;refine quiet (uo t.kd t.ni t.no v2) (fun w H=>qq (H.get 0 rfl) 4 0 [.int .i64 t.kd,.int .i64 t.ni,.int .i64 t.no,v2] fB bJ rfl rfl ae) ?_;refine aj (OK ht v2 _ (H.ro 0 rfl) hA) ?_;rintro _ w2 ⟨rfl,hk⟩;replace H:=(H.forget).same hk;clear hk;refine ⟨.inl (dD (H.b6 [0,1] (by decide) rfl) 4 _ rfl),?_⟩;refine quiet _ (fun w H=>aa (ug _) ae) ?_;refine quiet _ (fun w H=>aa (KG _ _) ae) ?_;refine H.store 0 rfl pP (Nat.le_of_ble_eq_true rfl) rfl ?_;clear H;intro w5 H;refine ⟨.inl (dD (H.b6 [0,1] (by decide) rfl) 4 _ rfl),?_⟩;refine quiet _ (fun w H=>aa (kP _) ae) ?_;refine H.store 0 rfl jn (Nat.le_of_ble_eq_true rfl) rfl ?_;clear H;intro w7 H;refine ⟨.inl (dD (H.b6 [0,1] (by decide) rfl) 4 _ rfl),?_⟩;exact H
end Go.Proofs.YtpjihhgjbbihkaaGreatDoor
