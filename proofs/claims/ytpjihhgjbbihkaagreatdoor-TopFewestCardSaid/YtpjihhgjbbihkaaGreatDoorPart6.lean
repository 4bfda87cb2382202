import Derived.Test.YtpjihhgjbbihkaaGreatDoorPart5
import Derived.Stop.LaidErr
import Derived.Lib.LaidTab
import Derived.Lay
import Derived.HandedShaped
import Derived.Shelf.Vars
import Derived.MakeChecks
namespace Go.Proofs.YtpjihhgjbbihkaaGreatDoor
open Go.Proofs.Tryz
open Go.Dk
set_option maxRecDepth 100000
attribute [local irreducible] IntKind.wrap
theorem FI (t:Tb):(iT t).on.length=t.no:=ez _ _
theorem xa (t:Tb):(iT t).may.length=t.no:=ez _ _
def KI (text:List UInt8)(nodes steps:Int)(ln:Nat)(e:Int):Prop:=
 cP text=.error (ln,e)∨∃ s,cP text=.ok s∧((cO s.tb s.no=true∧e=4)∨(cO s.tb s.no=false∧(yE nodes steps∨∃ rows st why,qe (iT s.tb) nodes steps rows st why 0∧64<rows.length)))
def HK (text:List UInt8)(nodes steps:Int)(v:Value):Prop:=
 (∃ (ln:Nat) (e:Int),v=.tuple #[.agg (lC [] 0 0 0),.int .i64 (ln:Int),.int .i64 e]∧e≠0∧KI text nodes steps ln e)∨
 (∃ s rows st why,v=.tuple #[.agg (lC (ji (oI (iT s.tb) rows)) st why (rows.length:Int)),.int .i64 0,.int .i64 0]∧cP text=.ok s∧cO s.tb s.no=false∧qe (iT s.tb) nodes steps rows st why 0∧rows.length≤64)
def MX (i:Nat):FuncId:=if i=0 then 20 else if i=1 then 22 else if i=2 then 24 else if i=3 then 26 else 28
def MY (g2 g3 g7:Nat)(i:Nat):Array Value:=if i=0 then #[(ah g2),(ah g7)] else if i=2 then #[(ah g7),(ah g3)] else #[(ah g7)]
def xb (g2 g3 g7:Nat):Array Value:=#[.func (.func 20) #[] #[(ah g2),(ah g7)],.func (.func 22) #[] #[(ah g7)],.func (.func 24) #[] #[(ah g7),(ah g3)],.func (.func 26) #[] #[(ah g7)],.func (.func 28) #[] #[(ah g7)]]
theorem KJ {g2 g3 g7 i:Nat}(hi:i<5):(xb g2 g3 g7)[i]?=some (.func (.func (MX i)) #[] (MY g2 g3 g7 i)):=by
 rcases (by omega:i=0∨i=1∨i=2∨i=3∨i=4) with rfl | rfl | rfl | rfl | rfl <;> rfl
def Dg (w0:World)(text:List UInt8)(nodes steps:Int)(g2 g3 g4 g7 gj gs:Nat):Nat→World→Prop
 | 0,w=>Hp w0 ab w [an gj 60 Io,an g7 56 #[.pointer (some ⟨gj,0,none⟩)],an g3 23 (kK nodes steps),an g2 9 #[aU text],an gs 1 (xb g2 g3 g7),an g4 28 (lC [] 0 0 0)] [oH]
 | 1,w=>∃ s v S,cP text=.ok s∧Hp w0 ab w [pv S v s.ls,an gj 60 (rh s.kd s.ni s.no v 0 0 0 j5 0 j5 j5 j5 0 0 0 [] 0 0 0 0 0),an g7 56 #[.pointer (some ⟨gj,0,none⟩)],an g3 23 (kK nodes steps),an g2 9 #[aU text],an gs 1 (xb g2 g3 g7),an g4 28 (lC [] 0 0 0)] [oH]
 | 2,w=>∃ s v Bo co Bm cm F,(cP text=.ok s∧cO s.tb s.no=false)∧Hp w0 ab w [pw F (iT s.tb) Bo co Bm cm,an gj 60 (rh s.kd s.ni s.no v 0 0 0 j5 (iT s.tb).n (.slice Bo (iT s.tb).on.length co) (.slice Bm (iT s.tb).may.length cm) j5 0 0 0 [] 0 0 0 0 0),an g7 56 #[.pointer (some ⟨gj,0,none⟩)],an g3 23 (kK nodes steps),an g2 9 #[aU text],an gs 1 (xb g2 g3 g7),an g4 28 (lC [] 0 0 0)] [oH]
 | 3,w=>∃ s v Bo co Bm cm F A c rows st why ss,(cP text=.ok s∧cO s.tb s.no=false∧qe (iT s.tb) nodes steps rows st why 0)∧Hp w0 ab w [own 50 3 (.slice A rows.length c) rows.length (flat bj rows),pw F (iT s.tb) Bo co Bm cm,an gj 60 (rh s.kd s.ni s.no v 0 0 0 j5 (iT s.tb).n (.slice Bo (iT s.tb).on.length co) (.slice Bm (iT s.tb).may.length cm) (.slice A rows.length c) st why ss [] 0 0 0 0 0),an g7 56 #[.pointer (some ⟨gj,0,none⟩)],an g3 23 (kK nodes steps),an g2 9 #[aU text],an gs 1 (xb g2 g3 g7),an g4 28 (lC [] 0 0 0)] [oH]
 | 4,w=>∃ s v v2 F2 sn so sm A c rows st why ss,(cP text=.ok s∧cO s.tb s.no=false∧qe (iT s.tb) nodes steps rows st why 0∧rows.length≤64)∧Hp w0 ab w [pv F2 v2 (oI (iT s.tb) rows).ls,an gj 60 (rh s.kd s.ni s.no v (oI (iT s.tb) rows).kd (oI (iT s.tb) rows).ni (oI (iT s.tb) rows).no v2 sn so sm (.slice A rows.length c) st why ss [] 0 0 0 0 0),an g7 56 #[.pointer (some ⟨gj,0,none⟩)],an g3 23 (kK nodes steps),an g2 9 #[aU text],an gs 1 (xb g2 g3 g7),an g4 28 (lC [] 0 0 0)] [oH]
 | _,w=>∃ s v v2 sn so sm A c rows st why ss kd ni no,(cP text=.ok s∧cO s.tb s.no=false∧qe (iT s.tb) nodes steps rows st why 0∧rows.length≤64)∧Hp w0 ab w [an gj 60 (rh s.kd s.ni s.no v kd ni no v2 sn so sm (.slice A rows.length c) st why ss (ji (oI (iT s.tb) rows)) 0 0 0 0 0),an g7 56 #[.pointer (some ⟨gj,0,none⟩)],an g3 23 (kK nodes steps),an g2 9 #[aU text],an gs 1 (xb g2 g3 g7),an g4 28 (lC [] 0 0 0)] [oH]
def HL (w0:World)(text:List UInt8)(nodes steps:Int)(g2 g3 g4 g7 gj gs:Nat)(w:World):Prop:=∃ (cs:Array Value) (ln:Nat) (e:Int),(e≠0∧KI text nodes steps ln e∧cs[19]?=some (.int .i64 (ln:Int))∧cs[20]?=some (.int .i64 e))∧Hp w0 ab w [an gj 60 cs,an g7 56 #[(ah gj)],an g3 23 (kK nodes steps),an g2 9 #[aU text],an gs 1 (xb g2 g3 g7),an g4 28 (lC [] 0 0 0)] [oH]
theorem KK {text:List UInt8}{a b:Nat}(h:rb text a b=true){s:Rd}(hs:cP text=.ok s):s.ni≤a∧s.no≤b:=by
 unfold rb at h;rw[hs] at h;simpa using h
theorem KM {w0:World}{text:List UInt8}{nodes steps:Int}{g2 g3 g4 g7 gj gs:Nat}{i:Nat}{w:World}(hi:i<5)(h:Dg w0 text nodes steps g2 g3 g4 g7 gj gs i w):w.cell? ⟨gs,i,none⟩=some (.func (.func (MX i)) #[] (MY g2 g3 g7 i)):=by
 have key:∀ {L:List cC} {M:List cC} {n:Nat},Hp w0 ab w L M→L[n]?=some (an gs 1 (xb g2 g3 g7))→w.cell? ⟨gs,i,none⟩=some (.func (.func (MX i)) #[] (MY g2 g3 g7 i)):=fun H hn=>(aQ (H.get _ hn) i).trans (KJ hi);rcases (by omega:i=0∨i=1∨i=2∨i=3∨i=4) with rfl | rfl | rfl | rfl | rfl
 ·exact key (n:=4) h rfl
 ·obtain ⟨_,_,_,_,H⟩:=h;exact key (n:=5) H rfl
 ·obtain ⟨_,_,_,_,_,_,_,_,H⟩:=h;exact key (n:=5) H rfl
 ·obtain ⟨_,_,_,_,_,_,_,_,_,_,_,_,_,_,H⟩:=h;exact key (n:=6) H rfl
 ·obtain ⟨_,_,_,_,_,_,_,_,_,_,_,_,_,_,H⟩:=h;exact key (n:=5) H rfl
theorem s_ {w0:World}{text:List UInt8}{nodes steps:Int}{g2 g3 g4 g7 gj gs:Nat}(hl:text.length≤100000)(hf:rb text 4 3=true){i:Nat}{w:World}(hi:i<5)(h:Dg w0 text nodes steps g2 g3 g4 g7 gj gs i w) :
  js prog (.func (.func (MX i)) #[] (MY g2 g3 g7 i)) [] w fun _ w'=>(Dg w0 text nodes steps g2 g3 g4 g7 gj gs (i+1) w'∧w'.cell? ⟨gj,20,none⟩=some (.int .i64 0))∨(HL w0 text nodes steps g2 g3 g4 g7 gj gs w'∧∃ e:Int,e≠0∧w'.cell? ⟨gj,20,none⟩=some (.int .i64 e)):=by
 have bad:∀ {w':World} {cs:Array Value} {ln:Nat} {e:Int},Hp w0 ab w' [an gj 60 cs,an g7 56 #[(ah gj)],an g3 23 (kK nodes steps),an g2 9 #[aU text],an gs 1 (xb g2 g3 g7),an g4 28 (lC [] 0 0 0)] [oH]→e≠0→KI text nodes steps ln e→cs[19]?=some (.int .i64 (ln:Int))→cs[20]?=some (.int .i64 e)→HL w0 text nodes steps g2 g3 g4 g7 gj gs w'∧∃ e:Int,e≠0∧w'.cell? ⟨gj,20,none⟩=some (.int .i64 e):=fun H he hr h1 h2=>⟨⟨_,_,_,⟨he,hr,h1,h2⟩,H⟩,_,he,(aQ (H.get 0 rfl) 20).trans h2⟩;rcases (by omega:i=0∨i=1∨i=2∨i=3∨i=4) with rfl | rfl | rfl | rfl | rfl
 ·have H:Hp w0 ab w [an gj 60 Io,an g7 56 #[(ah gj)],an g3 23 (kK nodes steps),an g2 9 #[aU text],an gs 1 (xb g2 g3 g7),an g4 28 (lC [] 0 0 0)] [oH]:=h;refine e7 (g:=20) (args:=[]) (cap:=[(ah g2),(ah g7)]) (c20 (L:=[an g3 23 (kK nodes steps),an gs 1 (xb g2 g3 g7),an g4 28 (lC [] 0 0 0)]) text hl gj g7 g2 (H.b6 [0,1,3,2,4,5] (by decide) rfl)) ?_;rintro v w' (⟨s,v,S,hP,H⟩ | ⟨ln,e,hP,he,H⟩)
  ·exact .inl ⟨⟨s,v,S,hP,H.b6 [0,1,2,4,3,5,6] (by decide) rfl⟩,(aQ (H.get 1 rfl) 20).trans rfl⟩
  ·exact .inr (bad (H.b6 [0,1,3,2,4,5] (by decide) rfl) he (.inl hP) rfl rfl)
 ·obtain ⟨s,v,S,hP,H⟩:=h;have ht:=kf hP;refine e7 (g:=22) (args:=[]) (cap:=[(ah g7)]) (OW (L:=[an g3 23 (kK nodes steps),an g2 9 #[aU text],an gs 1 (xb g2 g3 g7),an g4 28 (lC [] 0 0 0)]) ht v S gj g7 H) ?_;rintro _ w' (⟨Bo,co,Bm,cm,F,hc,H⟩ | ⟨hc,H⟩)
  ·refine .inl ⟨⟨s,v,Bo,co,Bm,cm,F,⟨hP,hc⟩,?_⟩,(aQ (H.get 1 rfl) 20).trans rfl⟩;rw[FI,xa];exact H
  ·exact .inr (bad (ln:=0) (e:=4) H (by decide) (.inr ⟨s,hP,.inl ⟨hc,rfl⟩⟩) rfl rfl)
 ·obtain ⟨s,v,Bo,co,Bm,cm,F,⟨hP,hc⟩,H⟩:=h;have ht:=kf hP;have hS:=ui ht hc;obtain ⟨hf1,hf2⟩:=KK hf hP;refine e7 (g:=24) (args:=[]) (cap:=[(ah g7),(ah g3)]) (c24 (L:=[an g2 9 #[aU text],an gs 1 (xb g2 g3 g7),an g4 28 (lC [] 0 0 0)]) hS hf1 (by rw[xa];exact hf2) nodes steps s.kd s.ni s.no v F Bo co Bm cm gj g7 g3 H) ?_;rintro _ w' (⟨A,c,rows,st,why,ss,hM,H⟩ | ⟨hb,v1,st,why,ss,H⟩)
  ·exact .inl ⟨⟨s,v,Bo,co,Bm,cm,F,A,c,rows,st,why,ss,⟨hP,hc,hM⟩,H⟩,(aQ (H.get 2 rfl) 20).trans rfl⟩
  ·exact .inr (bad (ln:=0) (e:=1) H (by decide) (.inr ⟨s,hP,.inr ⟨hc,.inl hb⟩⟩) rfl rfl)
 ·obtain ⟨s,v,Bo,co,Bm,cm,F,A,c,rows,st,why,ss,⟨hP,hc,hM⟩,H⟩:=h;have ht:=kf hP;have hS:=ui ht hc;refine e7 (g:=26) (args:=[]) (cap:=[(ah g7)]) (OX (L:=[an g3 23 (kK nodes steps),an g2 9 #[aU text],an gs 1 (xb g2 g3 g7),an g4 28 (lC [] 0 0 0)]) hS rows (uj hS hM) s.kd s.ni s.no v F Bo co Bm cm A c st why ss gj g7 H) ?_;rintro _ w' (⟨h64,v2,F2,H⟩ | ⟨h64,H⟩)
  ·exact .inl ⟨⟨s,v,v2,F2,_,_,_,A,c,rows,st,why,ss,⟨hP,hc,hM,h64⟩,H⟩,(aQ (H.get 1 rfl) 20).trans rfl⟩
  ·exact .inr (bad (ln:=0) (e:=3) H (by decide) (.inr ⟨s,hP,.inr ⟨hc,.inr ⟨rows,st,why,hM,h64⟩⟩⟩) rfl rfl)
 ·obtain ⟨s,v,v2,F2,sn,so,sm,A,c,rows,st,why,ss,⟨hP,hc,hM,h64⟩,H⟩:=h;have ht:=kf hP;have hS:=ui ht hc;refine e7 (g:=28) (args:=[]) (cap:=[(ah g7)]) (c28 (L:=[an g3 23 (kK nodes steps),an g2 9 #[aU text],an gs 1 (xb g2 g3 g7),an g4 28 (lC [] 0 0 0)]) (Hq hS (uj hS hM) h64) s.kd s.ni s.no v v2 F2 sn so sm _ st why ss gj g7 H) ?_;rintro _ w' H;exact .inl ⟨⟨s,v,v2,sn,so,sm,A,c,rows,st,why,ss,_,_,_,⟨hP,hc,hM,h64⟩,H⟩,(aQ (H.get 0 rfl) 20).trans rfl⟩
theorem HM {g2 g7:Nat}{w:World}{kk:Value→World→Prop}(h:kk (.func (.func 20) #[] #[(ah g2),(ah g7)]) w):cu prog (.func 20) [] [(ah g2),(ah g7)] w kk:=by
 unfold cu;exact ⟨_,w,by kernel_rfl,h⟩
theorem HN {g7:Nat}{w:World}{kk:Value→World→Prop}(h:kk (.func (.func 22) #[] #[(ah g7)]) w):cu prog (.func 22) [] [(ah g7)] w kk:=by
 unfold cu;exact ⟨_,w,by kernel_rfl,h⟩
theorem HO {g3 g7:Nat}{w:World}{kk:Value→World→Prop}(h:kk (.func (.func 24) #[] #[(ah g7),(ah g3)]) w):cu prog (.func 24) [] [(ah g7),(ah g3)] w kk:=by
 unfold cu;exact ⟨_,w,by kernel_rfl,h⟩
theorem HP {g7:Nat}{w:World}{kk:Value→World→Prop}(h:kk (.func (.func 26) #[] #[(ah g7)]) w):cu prog (.func 26) [] [(ah g7)] w kk:=by
 unfold cu;exact ⟨_,w,by kernel_rfl,h⟩
theorem HQ {g7:Nat}{w:World}{kk:Value→World→Prop}(h:kk (.func (.func 28) #[] #[(ah g7)]) w):cu prog (.func 28) [] [(ah g7)] w kk:=by
 unfold cu;exact ⟨_,w,by kernel_rfl,h⟩
theorem HR {k:Value→World→Prop}{w:World}(h:k (.agg (lC [] 0 0 0)) w):b7 prog 28 [] w k:=bu (fun w=>by kernel_rfl) h
theorem qt {tx:List UInt8}{a b c:Int}:∀ u ∈ (lC tx a b c).toList,u.oneCell'=true:=by
 intro u hu;simp[lC] at hu;rcases hu with rfl | rfl | rfl | rfl <;> rfl
theorem Hp.xc {w:World}(hg:jh w):Hp w ab w [] [oH]:=Hp.start w _ [oH] (by intro r hr;rw[List.mem_singleton] at hr;subst hr;exact hg) (by intro r hr g h;rw[List.mem_singleton] at hr;subst hr;exact hg.lt g h)
theorem N4:enters prog 8=true:=by kernel_rfl
set_option maxHeartbeats 2000000 in
theorem c8 (text:List UInt8)(hl:text.length≤100000)(hf:rb text 4 3=true)(nodes steps:Int)(w:World)(hg:jh w) :
  bt prog 8 [aU text,Dl nodes steps] w fun v w'=>HK text nodes steps v∧aT w w':=by
 refine ar (N:=62) func8 N4 rfl rfl rfl (by simp) ?_;have H:=Hp.xc hg;refine ak (γ:=Nat × Nat × Nat) (fun (g2,g3,g4)=>[(2,(ah g2)),(3,(ah g3)),(4,(ah g4)),(5,.int .i64 0),(6,.int .i64 0)]) (fun (g2,g3,g4) w'=>Hp w ab w' [an g4 28 (lC [] 0 0 0),an g3 23 (kK nodes steps),an g2 9 #[aU text]] [oH]) ?_ ?_
 ·refine H.box 9 (aU text) (cs:=#[aU text]) rfl ?_;clear H;intro g2 w1 H;refine H.box 23 (Dl nodes steps) (cs:=kK nodes steps) rfl ?_;clear H;intro g3 w2 H;refine H.alloc 28 w_ rfl ?_;clear H;intro g4 w3 H;exact ⟨(g2,g3,g4),⟨rfl,rfl,rfl,rfl,rfl,trivial⟩,H⟩
 clear H;rintro ⟨g2,g3,g4⟩ u w1 H;refine ak (γ:=Nat × Nat) (fun (gj,g7)=>[(7,(ah g7))]) (fun (gj,g7) w'=>Hp w ab w' [an g7 56 #[(ah gj)],an gj 60 Io,an g4 28 (lC [] 0 0 0),an g3 23 (kK nodes steps),an g2 9 #[aU text]] [oH]) ?_ ?_
 ·refine HC ?_;refine H.box 60 (.agg Io) (cs:=Io) rfl ?_;clear H;intro gj w2 H;refine H.alloc 56 (cs:=#[.pointer none]) KE rfl ?_;clear H;intro g7 w3 H;refine H.store 0 rfl KF (Nat.le_of_ble_eq_true rfl) rfl ?_;clear H;intro w4 H;exact ⟨(gj,g7),⟨rfl,trivial⟩,H⟩
 clear H;rintro ⟨gj,g7⟩ u w2 H;refine ak (γ:=Nat × Bool) (fun (_,b)=>[(8,.bool b)]) (fun (gs,b) w'=>(b=true∧Dg w text nodes steps g2 g3 g4 g7 gj gs 5 w')∨(b=false∧HL w text nodes steps g2 g3 g4 g7 gj gs w')) ?_ ?_
 ·refine H.load 0 rfl gv rfl ?_;refine HM ?_;refine HN ?_;refine HO ?_;refine HP ?_;refine HQ ?_;refine H.bg OV (cs:=xb g2 g3 g7) (by decide) (by decide) (by kernel_rfl) ?_;clear H;intro gs w3 H;have hI:Dg w text nodes steps g2 g3 g4 g7 gj gs 0 w3:=H.b6 [2,1,4,5,0,3] (by decide) rfl;refine aj (OU (I:=Dg w text nodes steps g2 g3 g4 g7 gj gs) (Bad:=HL w text nodes steps g2 g3 g4 g7 gj gs) MX (MY g2 g3 g7) 5 gj gs (by decide) w3 hI (fun i w' hi h=>KM hi h) (fun i w' hi h=>s_ hl hf hi h)) ?_;rintro _ w4 (⟨rfl,h⟩ | ⟨rfl,h⟩)
  ·exact ⟨(gs,true),⟨rfl,trivial⟩,.inl ⟨rfl,h⟩⟩
  ·exact ⟨(gs,false),⟨rfl,trivial⟩,.inr ⟨rfl,h⟩⟩
 clear H;rintro ⟨gs,b⟩ u w3 (⟨rfl,h⟩ | ⟨rfl,h⟩)
 ·obtain ⟨s,v,v2,sn,so,sm,A,c,rows,st,why,ss,kd,ni,no,hh,H⟩:=h;refine aw (fun w'=>Hp w ab w' [an gj 60 (rh s.kd s.ni s.no v kd ni no v2 sn so sm (.slice A rows.length c) st why ss (ji (oI (iT s.tb) rows)) 0 0 0 0 0),an g7 56 #[(ah gj)],an g3 23 (kK nodes steps),an g2 9 #[aU text],an gs 1 (xb g2 g3 g7),an g4 28 (lC [] 0 0 0)] [oH]) ?_ ?_
  ·refine af rfl ?_;exact ⟨(),trivial,H⟩
  clear H;rintro ⟨⟩ u w4 H;refine aw (fun w'=>Hp w ab w' [an gj 60 (rh s.kd s.ni s.no v kd ni no v2 sn so sm (.slice A rows.length c) st why ss (ji (oI (iT s.tb) rows)) st why rows.length 0 0),an g7 56 #[(ah gj)],an g3 23 (kK nodes steps),an g2 9 #[aU text],an gs 1 (xb g2 g3 g7),an g4 28 (lC [] 0 0 0)] [oH]) ?_ ?_
  ·refine gN (fun u=>Hp w ab u [HF gj 11 [.slice A rows.length c,.int .i64 st,.int .i64 why],an g7 56 #[(ah gj)]] [oH]) eS (by kernel_rfl) (dD ((H.same (aS.drew _)).b6 [0,1] (by decide) rfl) 11 _ rfl) ?_;replace H:=H.same (aS.drew _);generalize w4.drew=w5 at H
   iterate 4 refine quiet _ (fun w H=>H.load 1 rfl gv rfl ae) ?_
   refine quiet _ (fun w H=>aa (uf _) ae) ?_;refine quiet _ (fun w H=>aa (HD _ _) ae) ?_;refine quiet (.int .i64 st) (fun w H=>ow (H.get 0 rfl) 12 1 aE rfl rfl ae) ?_;refine quiet _ (fun w H=>H.load 1 rfl gv rfl ae) ?_;refine quiet _ (fun w H=>aa (uf _) ae) ?_;refine quiet _ (fun w H=>aa (HE _ _) ae) ?_;refine quiet (.int .i64 why) (fun w H=>ow (H.get 0 rfl) 13 2 sk rfl rfl ae) ?_;refine quiet _ (fun w H=>H.load 1 rfl gv rfl ae) ?_;refine quiet _ (fun w H=>aa (uf _) ae) ?_;refine quiet _ (fun w H=>aa (BN _ _) ae) ?_;refine quiet (.slice A rows.length c) (fun w H=>ow (H.get 0 rfl) 11 0 Ff rfl rfl ae) ?_;refine quiet _ (fun w H=>ay underlying44 ae) ?_;refine quiet _ (fun w H=>aa (ug _) ae) ?_;refine quiet _ (fun w H=>aa (uh _ _) ae) ?_;refine H.store 0 rfl a_ (Nat.le_of_ble_eq_true rfl) rfl ?_;clear H;intro w25 H;refine ⟨.inl (dD (H.b6 [0,1] (by decide) rfl) 11 _ rfl),?_⟩;refine quiet _ (fun w H=>aa (ug _) ae) ?_;refine quiet _ (fun w H=>aa (KH _ _) ae) ?_;refine H.store 0 rfl a_ (Nat.le_of_ble_eq_true rfl) rfl ?_;clear H;intro w28 H;refine ⟨.inl (dD (H.b6 [0,1] (by decide) rfl) 11 _ rfl),?_⟩;refine quiet _ (fun w H=>aa (ug _) ae) ?_;refine quiet _ (fun w H=>aa (AI _ _) ae) ?_;refine H.store 0 rfl a_ (Nat.le_of_ble_eq_true rfl) rfl ?_;clear H;intro w31 H;refine ⟨.inl (dD (H.b6 [0,1] (by decide) rfl) 11 _ rfl),?_⟩;exact ⟨(),trivial,H⟩
  clear H;rintro ⟨⟩ u w5 H;refine H.load 1 rfl gv rfl ?_;refine aa (ug _) ?_;refine H.cW 0 rfl (lC (ji (oI (iT s.tb) rows)) st why rows.length).toList FG nR (fun j u hj=>?_) ?_
  ·match j,hj with
   | 0,hj=>exact hj
   | 1,hj=>exact hj
   | 2,hj=>exact hj
   | 3,hj=>exact hj
   | j+4,hj=>simp[lC] at hj
  refine H.storeAll 5 rfl nR rfl qt ?_;clear H;intro w6 H;refine H.ai 5 rfl FG nR ?_;obtain ⟨h1,h2,h3,h4⟩:=hh;exact ⟨rfl,.inr ⟨s,rows,st,why,rfl,h1,h2,h3,h4⟩,H.keeps⟩
 ·obtain ⟨cs,ln,e,⟨he,hr,h19,h20⟩,H⟩:=h;refine ag rfl ?_;refine H.fg [an gj 60 cs,an g7 56 #[(ah gj)]] (fun u H=>H.b6 [0,1] (by decide) rfl) eS (by kernel_rfl) ?_;clear H;intro w4 H;refine quiet _ (fun w H=>HR ae) ?_;refine quiet _ (fun w H=>H.load 1 rfl gv rfl ae) ?_;refine quiet _ (fun w H=>aa (AH _) ae) ?_;refine quiet _ (fun w H=>H.load 0 rfl aE h19 ae) ?_;refine quiet _ (fun w H=>H.load 1 rfl gv rfl ae) ?_;refine quiet _ (fun w H=>aa (kP _) ae) ?_;refine quiet _ (fun w H=>H.load 0 rfl sk h20 ae) ?_;refine H.storeAll 5 rfl nR rfl qt ?_;clear H;intro w13 H;refine ⟨.inl (H.b6 [0,1] (by decide) rfl),?_⟩;refine H.ai 5 rfl FG nR ?_;refine ⟨rfl,?_⟩;exact ⟨.inl ⟨ln,e,rfl,he,hr⟩,H.keeps⟩
def M9:List UInt8:=[46,105,32,50,10,46,111,32,49,10,48,49,32,49,10,49,48,32,49,10,49,49,32,49,10,46,101,10]
def M_:List UInt8:=[46,105,32,50,10,46,111,32,49,10,48,32,49,10,46,101,10]
def MZ:Rd:=⟨1,2,1,5,-1,[(3,2,[1]),(3,1,[1]),(3,3,[1])]⟩
theorem oz:cP M9=.ok MZ:=by kernel_rfl
theorem ri:cP M_=.error (2,2):=by kernel_rfl
theorem KN:iT MZ.tb=⟨2,[14],[14]⟩:=by kernel_rfl
theorem vy:cO MZ.tb MZ.no=false:=by kernel_rfl
theorem KO:br ⟨2,[14],[14]⟩ [(1,1,1),(2,2,1)]=true:=by kernel_rfl
theorem KP:br ⟨2,[14],[14]⟩ []=false:=by kernel_rfl
theorem KQ:((List.range 4).all fun m=>(List.range 4).all fun v=>(List.range 2).all fun o=> !br ⟨2,[14],[14]⟩ [(m,v,o)])=true:=by kernel_rfl
theorem HS:rb M9 4 3=true:=by kernel_rfl
theorem HT:rb M_ 4 3=true:=by kernel_rfl
theorem Dh {S:dU}(hn:S.n≤3)(hk:S.may.length≤2){rows:List Rw}{st why:Int}(h:qe S 20000 1000000 rows st why 0):st=1∧(∀ x ∈ rows,eD S x)∧br S rows=true∧∀ L,(∀ x ∈ L,gK S.n S.on.length x)→br S L=true→rows.length≤L.length:=by
 rcases h with ⟨_,_,_,_,h⟩ | ⟨_,_,(⟨h1,_,h2,h3,h4⟩ | ⟨_,_,(⟨_,h⟩ | ⟨_,R,h1,h2,h3⟩)⟩)⟩
 ·cases h
 ·exact ⟨h1,h2,h3,h4⟩
 ·have:=Hb hn hk;omega
 ·have h18:=Aa hn hk h2 fun x hx=>(h1 x).1 hx;have:2^R.length≤2^18:=Nat.pow_le_pow_right (by decide) h18;omega
theorem FJ {rows:List Rw}{st why:Int}(h:qe (iT MZ.tb) 20000 1000000 rows st why 0):st=1∧rows.length=2:=by
 have hok:=ui (kf oz) vy;rw[KN] at h hok;obtain ⟨h1,h2,h3,h4⟩:=Dh (by decide) (by decide) h;refine ⟨h1,?_⟩;have hle:=h4 [(1,1,1),(2,2,1)] (fun x hx=>by
  rcases List.mem_cons.1 hx with rfl | hx
  ·exact ⟨by decide,by decide,by decide,by decide,by decide,by decide⟩
  ·rcases List.mem_cons.1 hx with rfl | hx
   ·exact ⟨by decide,by decide,by decide,by decide,by decide,by decide⟩
   ·cases hx) KO
 have hle:rows.length≤2:=hle
 match rows,h2,h3,hle with
 | [],_,h3,_=>rw[KP] at h3;cases h3
 | [x],h2,h3,_=>
  have hx:=((h2 x (.head _)).um hok).ok hok;obtain ⟨m,v,o⟩:=x;have hr:=(eh hx.m hx.v).1 hx.right;have hm:m<4:=hr.2.2.1;have hs:v &&&m=v:=hr.2.2.2;have hv:v<4:=by rw[← hs];exact Nat.lt_of_le_of_lt Nat.and_le_right hm
  have ho:o<2:=hx.few;have key:=KQ;rw[List.all_eq_true] at key;have k1:=key m (List.mem_range.2 hm);rw[List.all_eq_true] at k1;have k2:=k1 v (List.mem_range.2 hv);rw[List.all_eq_true] at k2;have k3:=k2 o (List.mem_range.2 ho);rw[h3] at k3
  cases k3
 | [_,_],_,_,_=>rfl
 | _::_::_::l,_,_,h=>exact absurd h (by simp)
theorem HU {v:Value}(h:HK M9 20000 1000000 v):∃ tx,v=.tuple #[.agg (lC tx 1 0 2),.int .i64 0,.int .i64 0]∨∃ why,v=.tuple #[.agg (lC tx 1 why 2),.int .i64 0,.int .i64 0]:=by
 rcases h with ⟨ln,e,rfl,he,hr⟩ | ⟨s,rows,st,why,rfl,hP,hc,hM,h64⟩
 ·exfalso;rcases hr with hP | ⟨s,hP,h⟩
  ·rw[oz] at hP;cases hP
  ·rw[oz] at hP;injection hP with hP;subst hP;rcases h with ⟨h,_⟩ | ⟨_,(h | ⟨rows,st,why,hM,h⟩)⟩
   ·rw[vy] at h;cases h
   ·unfold yE at h;omega
   ·have:=(FJ hM).2;omega
 ·rw[oz] at hP;injection hP with hP;subst hP;obtain ⟨rfl,h2⟩:=FJ hM;exact ⟨_,.inr ⟨why,by rw[h2];rfl⟩⟩
theorem HV {v:Value}(h:HK M_ 0 0 v):v=.tuple #[.agg (lC [] 0 0 0),.int .i64 2,.int .i64 2]:=by
 rcases h with ⟨ln,e,rfl,he,hr⟩ | ⟨s,rows,st,why,rfl,hP,hc,hM,h64⟩
 ·rcases hr with hP | ⟨s,hP,h⟩
  ·rw[ri] at hP;injection hP with hP;injection hP with h1 h2;subst h1;subst h2;rfl
  ·rw[ri] at hP;cases hP
 ·rw[ri] at hP;cases hP
theorem FK {w:World}{kk:Value→World→Prop}(h:kk (Dl 20000 1000000) w):b7 prog 23 [(0,.int .i64 20000),(1,.int .i64 1000000)] w kk:=bu (fun w=>by kernel_rfl) h
theorem FL {w:World}{kk:Value→World→Prop}(h:kk (Dl 0 0) w):b7 prog 23 [] w kk:=bu (fun w=>by kernel_rfl) h
theorem N5:enters prog 7=true:=by kernel_rfl
set_option maxHeartbeats 1000000 in
theorem c7 (w:World)(hg:jh w):bt prog 7 [] w fun v w'=>v=.bool true∧aT w w':=by
 refine ar (N:=39) func7 N5 rfl rfl rfl (by simp) ?_;have H:=Hp.xc hg;refine aw (fun w'=>Hp w ab w' [] [oH]) ⟨(),trivial,H⟩ ?_;clear H;rintro ⟨⟩ u w1 H;refine ak (γ:=Nat × List UInt8 × Int) (fun (g1,_)=>[(1,(ah g1)),(2,.int .i64 0),(3,.int .i64 0)]) (fun (g1,tx,why) w'=>Hp w ab w' [an g1 28 (lC tx 1 why 2)] [oH]) ?_ ?_
 ·refine FK ?_;refine aj (c8 M9 (by decide) HS 20000 1000000 _ (H.ro 0 rfl)) ?_;rintro v w2 ⟨hR,hk⟩;replace H:=H.same hk;clear hk;obtain ⟨tx,why,rfl⟩:∃ tx why,v=.tuple #[.agg (lC tx 1 why 2),.int .i64 0,.int .i64 0]:=by
   obtain ⟨tx,(h | ⟨why,h⟩)⟩:=HU hR
   ·exact ⟨tx,0,h⟩
   ·exact ⟨tx,why,h⟩
  refine H.alloc 28 w_ rfl ?_;clear H;intro g1 w3 H;refine H.storeAll (cs':=lC tx 1 why 2) 0 rfl nR rfl qt ?_;clear H;intro w4 H;exact ⟨(g1,tx,why),⟨rfl,rfl,rfl,trivial⟩,H⟩
 clear H;rintro ⟨g1,tx,why⟩ u w2 H;refine ak (γ:=Nat) (fun g4=>[(4,(ah g4)),(5,.int .i64 2),(6,.int .i64 2)]) (fun g4 w'=>Hp w ab w' [an g4 28 (lC [] 0 0 0),an g1 28 (lC tx 1 why 2)] [oH]) ?_ ?_
 ·refine FL ?_;refine aj (c8 M_ (by decide) HT 0 0 _ (H.ro 0 rfl)) ?_;rintro v w3 ⟨hR,hk⟩;replace H:=H.same hk;clear hk;obtain rfl:=HV hR;refine H.alloc 28 w_ rfl ?_;clear H;intro g4 w4 H;refine H.storeAll (cs':=lC [] 0 0 0) 0 rfl nR rfl qt ?_;clear H;intro w5 H;exact ⟨g4,⟨rfl,rfl,rfl,trivial⟩,H⟩
 clear H;rintro g4 u w3 H;refine aa (AI _ _) ?_;refine H.load 1 rfl aE rfl ?_;refine ag rfl ?_;refine aa (uh _ _) ?_;refine ag rfl ?_;refine H.load 1 rfl aE rfl ?_
 iterate 11 refine ag rfl ?_
 exact ⟨rfl,H.keeps⟩
theorem N6:enters prog 6=true:=by kernel_rfl
theorem c6 (text:List UInt8)(hlt:text.length<9223372036854775808)(nodes steps:Int)(w:World):bt prog 6 [aU text,Dl nodes steps] w fun r w'=>(∃ b,r=.bool b∧(b=false→text.length≤9000∧rb text 4 3=true))∧aT w w':=by
 refine ar (N:=23) func6 N6 rfl rfl rfl (by simp) ?_;have H:=Hp.aC w;refine ak (γ:=Nat) (fun g3=>[(3,(ah g3)),(4,.bool false)]) (fun g3 w'=>Hp w ab w' [an g3 23 (kK nodes steps)] []) ?_ ?_
 ·refine H.box 23 (Dl nodes steps) (cs:=kK nodes steps) rfl ?_;clear H;intro g3 w1 H;exact ⟨g3,⟨rfl,rfl,trivial⟩,H⟩
 clear H;rintro g3 u w1 H;refine dY (by kernel_rfl:Tryz.prog.underlying 9=some .string) ?_;by_cases h9:text.length≤9000
 ·have hc:=fun u=>OP text (by omega) 4 3 u;by_cases h1:2000<steps
  ·by_cases h2:steps≤1000000
   ·refine au (fun h4=>?_) (fun h4=>?_)
    ·refine ag (decide_eq_true (by assumption)) ?_
     iterate 4 refine ag (decide_eq_true (by assumption)) ?_
     iterate 4 refine ag rfl ?_
     exact ⟨⟨_,rfl,fun h=>by first | cases h | exact ⟨h9,by simpa using h⟩⟩,H.keeps⟩
    ·refine aa (jS _) ?_;refine af (decide_eq_false (by assumption)) ?_;refine H.load 0 rfl aE rfl ?_
     iterate 2 refine af (decide_eq_false (by assumption)) ?_
     refine ag (decide_eq_true (by assumption)) ?_;refine aa (jS _) ?_;refine ag (decide_eq_true (by assumption)) ?_;refine H.load 0 rfl aE rfl ?_;refine ag (decide_eq_true (by assumption)) ?_;refine af (decide_eq_false (by assumption)) ?_;refine ag (decide_eq_true (by assumption)) ?_;refine af (decide_eq_false (by assumption)) ?_
     iterate 4 refine ag (decide_eq_true (by assumption)) ?_
     exact ⟨⟨_,rfl,fun h=>by first | cases h | exact ⟨h9,by simpa using h⟩⟩,H.keeps⟩
   ·refine au (fun h4=>?_) (fun h4=>?_)
    ·refine ag (decide_eq_true (by assumption)) ?_
     iterate 4 refine ag (decide_eq_true (by assumption)) ?_
     iterate 4 refine ag rfl ?_
     exact ⟨⟨_,rfl,fun h=>by first | cases h | exact ⟨h9,by simpa using h⟩⟩,H.keeps⟩
    ·refine aa (jS _) ?_;refine af (decide_eq_false (by assumption)) ?_;refine H.load 0 rfl aE rfl ?_
     iterate 2 refine af (decide_eq_false (by assumption)) ?_
     refine ag (decide_eq_true (by assumption)) ?_;refine aa (jS _) ?_;refine ag (decide_eq_true (by assumption)) ?_;refine H.load 0 rfl aE rfl ?_;refine ag (decide_eq_true (by assumption)) ?_;refine af (decide_eq_false (by assumption)) ?_;refine ag (decide_eq_true (by assumption)) ?_
     iterate 3 refine af (decide_eq_false (by assumption)) ?_
     refine aj (hc _) ?_;rintro _ w31 ⟨rfl,hk⟩;replace H:=H.same hk;clear hk
     iterate 2 refine af (decide_eq_false (by assumption)) ?_
     exact ⟨⟨_,rfl,fun h=>by first | cases h | exact ⟨h9,by simpa using h⟩⟩,H.keeps⟩
  ·refine au (fun h2=>?_) (fun h2=>?_)
   ·refine ag (decide_eq_true (by assumption)) ?_
    iterate 4 refine ag (decide_eq_true (by assumption)) ?_
    iterate 4 refine ag rfl ?_
    exact ⟨⟨_,rfl,fun h=>by first | cases h | exact ⟨h9,by simpa using h⟩⟩,H.keeps⟩
   ·refine aa (jS _) ?_;refine af (decide_eq_false (by assumption)) ?_;refine H.load 0 rfl aE rfl ?_
    iterate 8 refine af (decide_eq_false (by assumption)) ?_
    iterate 2 refine af rfl ?_
    refine aj (hc _) ?_;rintro _ w28 ⟨rfl,hk⟩;replace H:=H.same hk;clear hk
    iterate 2 refine af rfl ?_
    exact ⟨⟨_,rfl,fun h=>by first | cases h | exact ⟨h9,by simpa using h⟩⟩,H.keeps⟩
 ·have h9':((text.length:Int)>9000):=by omega
  iterate 6 refine ag (decide_eq_true (by assumption)) ?_
  iterate 4 refine ag rfl ?_
  exact ⟨⟨_,rfl,fun h=>by first | cases h | exact ⟨h9,by simpa using h⟩⟩,H.keeps⟩
theorem M0 {text:List UInt8}(hl:text.length≤100000){s:Rd}(hP:cP text=.ok s)(w:World):bt prog 9 [aU text] w fun r w'=>∃ v S,r=.tuple #[uo s.kd s.ni s.no v,.int .i64 0,.int .i64 0]∧eX w w' (pv S v s.ls):=
 (c9 text hl w).mono fun r w' h=>by
  rcases h with ⟨h,_⟩ | ⟨s',v,S,hP',hr,hn⟩
  ·exact absurd hP (h s)
  ·rw[hP] at hP';injection hP' with hP';subst hP';exact ⟨v,S,hr,hn⟩
theorem KR {w0 w:World}{F:Nat→Prop}{L M:List cC}{S:Nat→Prop}{v:Value}{ls:List Ln}(H:Hp w0 F w L M)(n:Nat)(hn:L[n]?=some (pv S v ls)):jF w v ls:=qf.mono (H.get n hn) fun g hg=>H.lt _ (List.mem_of_getElem? hn) g hg
theorem KS {w0 w:World}{F:Nat→Prop}{L M:List cC}{F1:Nat→Prop}{S:dU}{Bo Bm:Option Addr}{co cm:Nat}(H:Hp w0 F w L M)(n:Nat)(hn:L[n]?=some (pw F1 S Bo co Bm cm)):gn w S Bo co Bm cm:=wU (H.get n hn) fun g hg=>H.lt _ (List.mem_of_getElem? hn) g hg
theorem FM {w:World}{S:Nat→Prop}{v:Value}{ls:List Ln}(h:(pv S v ls).ok w):∃ B c,v=.slice B ls.length c:=by
 obtain ⟨B,c,_,h,_⟩:=h;exact ⟨B,c,h⟩
theorem Di {text:List UInt8}{nodes steps:Int}{v:Value}(hR:HK text nodes steps v):∃ tx o1 o2 o3 ln e,v=.tuple #[.agg (lC tx o1 o2 o3),.int .i64 ln,.int .i64 e]∧(e≠0∨(e=0∧∃ s rows,tx=ji (oI (iT s.tb) rows)∧o3=(rows.length:Int)∧cP text=.ok s∧cO s.tb s.no=false∧qe (iT s.tb) nodes steps rows o1 o2 0∧rows.length≤64)):=by
 rcases hR with ⟨ln,e,rfl,he,_⟩ | ⟨s,rows,st,why,rfl,h1,h2,h3,h4⟩
 ·exact ⟨_,_,_,_,_,_,rfl,.inl he⟩
 ·exact ⟨_,_,_,_,_,_,rfl,.inr ⟨rfl,s,rows,rfl,rfl,h1,h2,h3,h4⟩⟩
theorem FN {S:dU}{nodes steps:Int}{rows:List Rw}{st why:Int}(h:qe S nodes steps rows st why 0):(st=1∧why=0∧∀ L,(∀ x ∈ L,gK S.n S.on.length x)→br S L=true→rows.length≤L.length)∨(st=2∧BC S rows∧(why=5∨why=6)):=by
 rcases h with ⟨_,_,_,_,h⟩ | ⟨_,_,(⟨h1,h2,_,_,h3⟩ | ⟨h1,h2,h3⟩)⟩
 ·cases h
 ·exact .inl ⟨h1,h2,h3⟩
 ·exact .inr ⟨h1,h2,h3.imp (fun h=>h.1) fun h=>h.1⟩
theorem N7:enters prog 4=true:=by kernel_rfl
set_option maxHeartbeats 4000000 in
theorem c4 (text:List UInt8)(hlt:text.length<9223372036854775808)(nodes steps:Int)(l:List Rw)(hl256:∀ x ∈ l,x.1<256∧x.2.1<256∧x.2.2<256)(A:Option Addr)(c:Nat)(w:World)(hA:Sl w (.slice A l.length c) 3 l.length (flat bj l))(hg:jh w) :
  bt prog 4 [aU text,Dl nodes steps,.slice A l.length c] w fun v w'=>v=.bool true∧aT w w':=by
 refine ar (N:=75) func4 N7 rfl rfl rfl (by simp) ?_;have H:=Hp.xc hg;refine ak (γ:=Nat) (fun g4=>[(4,(ah g4)),(6,.bool false)]) (fun g4 w'=>Hp w ab w' [an g4 23 (kK nodes steps)] [oH]) ?_ ?_
 ·refine H.box 23 (Dl nodes steps) (cs:=kK nodes steps) rfl ?_;clear H;intro g4 w1 H;exact ⟨g4,⟨rfl,rfl,trivial⟩,H⟩
 clear H;rintro g4 u w1 H;refine aw (fun w'=>(text.length≤9000∧rb text 4 3=true∧l.length≤40)∧Hp w ab w' [an g4 23 (kK nodes steps)] [oH]) ?_ ?_
 ·refine H.ai 0 rfl BB wN ?_;refine aj (c6 text hlt nodes steps _) ?_;rintro _ w2 ⟨⟨b,rfl,hb⟩,hk⟩;replace H:=H.same hk;clear hk
  cases b with
  | true=>
   iterate 5 refine ag rfl ?_
   refine aj (c7 _ (H.ro 0 rfl)) ?_;rintro _ w9 ⟨rfl,hk⟩;replace H:=H.same hk;clear hk;exact ⟨rfl,H.keeps⟩
  | false=>
   by_cases h40:l.length≤40
   ·have h40':¬ (l.length:Int)>40:=by omega
    iterate 2 refine af rfl ?_
    refine ay underlying44 ?_
    iterate 2 refine af rfl ?_
    refine af (decide_eq_false (by assumption)) ?_;exact ⟨(),trivial,⟨(hb rfl).1,(hb rfl).2,h40⟩,H⟩
   ·have h40':(l.length:Int)>40:=by omega
    iterate 2 refine af rfl ?_
    refine ay underlying44 ?_
    iterate 2 refine af rfl ?_
    refine ag (decide_eq_true (by assumption)) ?_;refine aj (c7 _ (H.ro 0 rfl)) ?_;rintro _ w10 ⟨rfl,hk⟩;replace H:=H.same hk;clear hk;exact ⟨rfl,H.keeps⟩
 clear H;rintro ⟨⟩ u w2 ⟨⟨hl9,hfew,h40⟩,H⟩;refine ak (γ:=Nat × List UInt8 × Int × Int × Int × Int × Int) (fun (g7,_,_,_,_,ln,e)=>[(7,(ah g7)),(8,.int .i64 ln),(9,.int .i64 e)]) (fun (g7,tx,o1,o2,o3,ln,e) w'=>(e≠0∨(e=0∧∃ s rows,tx=ji (oI (iT s.tb) rows)∧o3=(rows.length:Int)∧cP text=.ok s∧cO s.tb s.no=false∧qe (iT s.tb) nodes steps rows o1 o2 0∧rows.length≤64))∧Hp w ab w' [an g7 28 (lC tx o1 o2 o3),an g4 23 (kK nodes steps)] [oH]) ?_ ?_
 ·refine H.ai 0 rfl BB wN ?_;refine aj (c8 text (by omega) hfew nodes steps _ (H.ro 0 rfl)) ?_;rintro v w3 ⟨hR,hk⟩;replace H:=H.same hk;clear hk;obtain ⟨tx,o1,o2,o3,ln,e,rfl,hh⟩:=Di hR;refine H.alloc 28 w_ rfl ?_;clear H;intro g7 w4 H;refine H.storeAll (cs':=lC tx o1 o2 o3) 0 rfl nR rfl qt ?_;clear H;intro w5 H;exact ⟨(g7,tx,o1,o2,o3,ln,e),⟨rfl,rfl,rfl,trivial⟩,hh,H⟩
 clear H;rintro ⟨g7,tx,o1,o2,o3,ln,e⟩ u w3 ⟨hh,H⟩;refine aw (fun w'=>(e=0∧o1=1)∧Hp w ab w' [an g7 28 (lC tx o1 o2 o3),an g4 23 (kK nodes steps)] [oH]) ?_ ?_
 ·by_cases he:e=0
  ·subst he;obtain ⟨s,rows,_,_,_,_,hM,_⟩:=(hh.resolve_left fun h=>h rfl).2;rcases FN hM with ⟨rfl,_⟩ | ⟨rfl,_⟩
   ·refine af rfl ?_;refine aa (uh _ _) ?_;refine af rfl ?_;refine H.load 0 rfl aE rfl ?_
    iterate 3 refine af rfl ?_
    exact ⟨(),trivial,⟨rfl,rfl⟩,H⟩
   ·refine af rfl ?_;refine aa (uh _ _) ?_;refine af rfl ?_;refine H.load 0 rfl aE rfl ?_
    iterate 2 refine af rfl ?_
    refine ag rfl ?_;refine af rfl ?_;refine aa (uh _ _) ?_;refine af rfl ?_;refine H.load 0 rfl aE rfl ?_
    iterate 2 refine af rfl ?_
    refine ag rfl ?_;refine aj (c7 _ (H.ro 0 rfl)) ?_;rintro _ w20 ⟨rfl,hk⟩;replace H:=H.same hk;clear hk;refine ag rfl ?_;exact ⟨rfl,H.keeps⟩
  ·iterate 4 refine ag (bne_iff_ne.2 he) ?_
   refine ag rfl ?_
   iterate 4 refine ag (bne_iff_ne.2 he) ?_
   refine ag rfl ?_;refine aj (c7 _ (H.ro 0 rfl)) ?_;rintro _ w16 ⟨rfl,hk⟩;replace H:=H.same hk;clear hk;refine ag rfl ?_;exact ⟨rfl,H.keeps⟩
 clear H;rintro ⟨⟩ u w4 ⟨⟨rfl,rfl⟩,H⟩;obtain ⟨s,rows,rfl,rfl,hP,hc,hM,h64⟩:=(hh.resolve_left fun h=>h rfl).2;have ht:=kf hP;have hS:=ui ht hc;have hrows:=uj hS hM;have hmin:∀ L,(∀ x ∈ L,gK (iT s.tb).n (iT s.tb).on.length x)→br (iT s.tb) L=true→rows.length≤L.length:=by
  rcases FN hM with ⟨_,_,h⟩ | ⟨h,_⟩
  ·exact h
  ·cases h
 refine ak (γ:=Nat × Value × (Nat→Prop)) (fun (g10,_)=>[(10,(ah g10))]) (fun (g10,v1,S1) w'=>Hp w ab w' [an g10 33 (dO s.kd s.ni s.no v1),pv S1 v1 s.ls,an g7 28 (lC (ji (oI (iT s.tb) rows)) 1 o2 (rows.length:Int)),an g4 23 (kK nodes steps)] [oH]) ?_ ?_
 ·refine aj (M0 (by omega) hP _) ?_;rintro _ w5 ⟨v1,S1,rfl,hn⟩;replace H:=H.bD hn;obtain ⟨B,cc',rfl⟩:=FM (H.get 0 rfl);refine H.alloc 33 (cs:=dO 0 0 0 (.slice none 0 0)) nJ rfl ?_;clear H;intro g10 w6 H;refine H.storeAll 0 rfl bJ rfl dA ?_;clear H;intro w7 H;exact ⟨(g10,_,S1),⟨rfl,trivial⟩,H⟩
 clear H;rintro ⟨g10,v1,S1⟩ u w5 H;refine ak (γ:=Nat × Option Addr × Nat × Option Addr × Nat × (Nat→Prop)) (fun (g13,_)=>[(13,(ah g13)),(14,.int .i64 0)]) (fun (g13,Bo,co,Bm,cm,F) w'=>Hp w ab w' [an g13 41 (bq (iT s.tb).n (.slice Bo (iT s.tb).on.length co) (.slice Bm (iT s.tb).may.length cm)),pw F (iT s.tb) Bo co Bm cm,an g7 28 (lC (ji (oI (iT s.tb) rows)) 1 o2 (rows.length:Int)),an g4 23 (kK nodes steps)] [oH]) ?_ ?_
 ·refine H.ai 0 rfl fB bJ ?_;refine aj (c12 ht v1 _ (KR H 1 rfl)) ?_;rintro _ w14 (⟨hc',_⟩ | ⟨_,Bo,co,Bm,cm,rfl,F,hn⟩)
  ·rw[show cO s.tb s.tb.no=false from hc] at hc';cases hc'
  replace H:=(H.forget.forget).bD hn;refine H.alloc 41 (cs:=bq 0 (.slice none 0 0) (.slice none 0 0)) tQ rfl ?_;clear H;intro g13 w15 H;refine H.storeAll (cs':=bq s.ni (.slice Bo s.no co) (.slice Bm s.no cm)) 0 rfl bL rfl j4 ?_;clear H;intro w16 H;refine ⟨(g13,Bo,co,Bm,cm,F),⟨rfl,rfl,trivial⟩,?_⟩;have e1:=FI s.tb;have e2:=xa s.tb;show Hp w ab w16 [an g13 41 (bq (iT s.tb).n (.slice Bo (iT s.tb).on.length co) (.slice Bm (iT s.tb).may.length cm)),pw F (iT s.tb) Bo co Bm cm,an g7 28 (lC (ji (oI (iT s.tb) rows)) 1 o2 (rows.length:Int)),an g4 23 (kK nodes steps)] [oH];rw[e1,e2];exact H
 clear H;rintro ⟨g13,Bo,co,Bm,cm,F⟩ u w6 H;refine aw (fun w'=>Hp w ab w' [an g13 41 (bq (iT s.tb).n (.slice Bo (iT s.tb).on.length co) (.slice Bm (iT s.tb).may.length cm)),pw F (iT s.tb) Bo co Bm cm,an g7 28 (lC (ji (oI (iT s.tb) rows)) 1 o2 (rows.length:Int)),an g4 23 (kK nodes steps)] [oH]) ?_ ?_
 ·refine af rfl ?_;exact ⟨(),trivial,H⟩
 clear H;rintro ⟨⟩ u w7 H;refine H.ai 0 rfl dx bL ?_;refine aj (OS hS l hl256 (by omega) Bo co Bm cm A c _ (KS H 1 rfl) (hA.same H.keeps)) ?_;rintro _ w8 ⟨rfl,hk⟩;replace H:=H.same hk;clear hk
 cases hcv:yW (iT s.tb) l with
 | false=>
  iterate 7 refine ag rfl ?_
  refine aj (c7 _ (H.ro 0 rfl)) ?_;rintro _ w18 ⟨rfl,hk⟩;replace H:=H.same hk;clear hk;refine ag rfl ?_;exact ⟨rfl,H.keeps⟩
 | true=>
  obtain ⟨k1,k2⟩:=(FF hS hl256).1 hcv;have hle:=hmin l k1 k2;have hle':(rows.length:Int)≤(l.length:Int):=by omega
  refine af rfl ?_;refine aa (AI _ _) ?_;refine af rfl ?_;refine H.load 2 rfl aE rfl ?_
  iterate 2 refine af rfl ?_
  refine ay underlying44 ?_
  iterate 2 refine af rfl ?_
  refine ag (decide_eq_true (by assumption)) ?_;refine aj (c7 _ (H.ro 0 rfl)) ?_;rintro _ w21 ⟨rfl,hk⟩;replace H:=H.same hk;clear hk;refine ag (decide_eq_true (by assumption)) ?_;exact ⟨rfl,H.keeps⟩
end Go.Proofs.YtpjihhgjbbihkaaGreatDoor
namespace Go.Dk
open Go.ChangeShapes Go.WideShapes Go.ChangeAt Go.RowKit
section
variable {H:Type} {enc:TypeId × Value→H}
theorem xd {a:Assume}{C:Checked}{os:Os}{f:FuncId}{fn:Func}{s:ChangeSpec}{conds:List PathCond}{apart fresh handsOn again:Bool}{X:World→Array Value→Prop}(hX:∀ (w w':World) (args:Array Value),w.heap=w'.heap→X w args→X w' args)(own:ownKnob C.prog.godebug=none)(started:os.Started)(noInit:C.prog.inits.idxOf? f=none)(hfn:C.prog.funcs[f]?=some fn)(witness:∃ (w:World) (tape:Tape) (i:Input),w.os=os∧(w.forCall tape i).Shaped C.prog∧i.vars=[]∧Input.okWide C.prog (w.forCall tape i) .any w.heap.size f i∧((s.pre enc C.prog fn conds apart (w.forCall tape i).memory i.args∧X (w.forCall tape i).memory i.args)∧sizedMet enc C.prog fn (OpenSpec.ofChange s) apart (w.forCall tape i).memory i.args)∧a.holds C.prog (lone (Frame.enter C.prog f i.args .normal) [] (w.forCall tape i)))(contract:∀ (W:World) (base:Nat) (args:Array Value) (ds gs:List (DataW H)) (before:List MemPlace),
   (∀ (j:Nat) t v,fn.params[j]?=some t→args[j]?=some v→Value.okWide C.prog W .any base t v)→
   DataW.Whole enc C.prog fn.params.toList s.vars apart W args.toList ds gs before→X W args→W.ShapedOpen C.prog→
   Calls C.prog f args W fun e W'=>∃ v,e=.returned v∧s.post enc C.prog fn apart fresh handsOn again W args v W') :
  ReturnsInHanded a C os f .any (fun w args=>(s.pre enc C.prog fn conds apart w args∧X w args)∧sizedMet enc C.prog fn (OpenSpec.ofChange s) apart w args) (s.post enc C.prog fn apart fresh handsOn again):=by
 refine returnsInHanded_of_calls own started noInit witness ?_;intro w tape i _ hsh _ hok hpre _;obtain ⟨_,_,_,fn',hfn',_,_,_,_,hval⟩:=hok;have e:fn'=fn:=Option.some.inj (hfn'.symm.trans hfn);subst e;obtain ⟨⟨⟨ds,gs,before,hw,hc⟩,hx⟩,hz⟩:=hpre;have hw':=DataW.Whole.of_heap (w':=w.forCall tape i) (by rfl) hw;refine (contract (w.forCall tape i) w.heap.size i.args ds gs before hval hw' (hX _ _ _ (by rfl) hx) hsh).mono fun e W' ⟨v,he,hp⟩=>?_;subst he;exact ChangeSpec.post_blind hp
end
end Go.Dk
namespace Go.Proofs.YtpjihhgjbbihkaaGreatDoor
open Go.Proofs.Tryz
open Go.Dk Go.ChangeShapes Go.WideShapes Go.ChangeAt Go.RowKit
set_option maxRecDepth 100000
abbrev nS:List (String × DataW Unit):=Rows.topCoversRow.laid
theorem N8 {H:Type}:(Rows.laid_internal_strconv_uint64pow10:DataW H)=Lib.tabData .u64 Lib.pow10Tab:=by kernel_rfl
theorem FO (u : TypeId) (h : Tryz.prog.typeName? 3 u = some "*errors.errorString") : u = 284 :=
 typeName_ptr_named (nm := "errors.errorString") (by kernel_rfl) (by kernel_rfl) (by decide) u h
theorem M1 {W:World}(h0:laidMetH prog nS W)(hsh:W.ShapedOpen prog):jh W:=by
 have h:laidMet prog nS W:=by
  rw[MakeChecks.laidMetH_plain _ _ _ (by kernel_rfl)] at h0;exact h0
 have h2 : laidMet prog (("internal/strconv.uint64pow10", Lib.tabData .u64 Lib.pow10Tab) :: nS.drop 3) W := by
  rw[← N8];exact h.tail.tail
 obtain ⟨a1,_,hr,_⟩:=laid_sentinel (g:=5) h.tail.tail.tail.tail (by kernel_rfl) (by kernel_rfl) underlying155 FO underlying284 underlying286 rfl rfl underlying9 (by kernel_rfl) (by kernel_rfl);obtain ⟨a2,_,hs,_⟩:=laid_sentinel (g:=4) h.tail.tail.tail.tail.tail (by kernel_rfl) (by kernel_rfl) underlying155 FO underlying284 underlying286 rfl rfl underlying9 (by kernel_rfl) (by kernel_rfl);exact ⟨cell_of_shapedOpen_int (P:=prog) (g:=0) (t:=3) (zero:=#[.int .i64 0]) hsh (of_decide_eq_true (by kernel_rfl)) (by kernel_rfl) rfl (by kernel_rfl) (by kernel_rfl) underlying3,
  ⟨_,_,hs⟩,⟨_,_,hr⟩,Lib.tabIs_of_head (g:=1) (by kernel_rfl) (by kernel_rfl) (by kernel_rfl:Tryz.prog.underlying 257=some (.array 20 81)) (by kernel_rfl) (by kernel_rfl) (by kernel_rfl) h2⟩
theorem HW {g:FuncId}{f:Func}{s:ChangeSpec}(os:Os)(started:os.Started)(H:Type)(enc:TypeId × Value→H)(noInit:Tryz.checked.prog.inits.idxOf? g=none)(hf:Tryz.checked.prog.funcs[g]?=some f)(hpar:(f.params.toList.all fun t=>Tryz.checked.prog.readableRec t&&decide (t<Tryz.checked.prog.types.size))=true)(hres:f.resultTypes=#[4])(hvars:s.vars=[])(hspec:∀ ds:List (DataW H),ds.length=f.params.size→s.fn H ds={ results:=[.lit (.bool true)],args:=ds })(witness:∃ (w:World) (tape:Tape) (i:Input),w.os=os∧(w.forCall tape i).Shaped Tryz.checked.prog∧i.vars=[]∧Input.okWide Tryz.checked.prog (w.forCall tape i) .any w.heap.size g i∧((s.pre enc Tryz.checked.prog f [] false (w.forCall tape i).memory i.args∧laidMetH prog nS (w.forCall tape i).memory)∧sizedMet enc Tryz.checked.prog f (OpenSpec.ofChange s) false (w.forCall tape i).memory i.args)∧({}:Assume).holds Tryz.checked.prog (lone (Frame.enter Tryz.checked.prog g i.args .normal) [] (w.forCall tape i)))(hcall:∀ (W:World) (args:Array Value),DR Tryz.checked.prog f W args→jh W→Calls Tryz.checked.prog g args W fun e W'=>e=.returned (.bool true)∧aT W W') :
  ReturnsInHanded {} Tryz.checked os g .any (fun w args=>(s.pre enc Tryz.checked.prog f [] false w args∧laidMetH prog nS w)∧sizedMet enc Tryz.checked.prog f (OpenSpec.ofChange s) false w args) (s.post enc Tryz.checked.prog f false true false false):=by
 have hparams:∀ t ∈ f.params.toList,Tryz.checked.prog.readableRec t=true∧t<Tryz.checked.prog.types.size:=fun t ht=>by
  have:=List.all_eq_true.1 hpar t ht;simpa using this
 refine xd (C:=Tryz.checked) (X:=fun w _=>laidMetH prog nS w) (fun _ _ _ hh h=>h.of_heap hh) (by kernel_rfl) started noInit hf witness ?_;intro W base args ds gs before hval hW hX hsh;have hg:=M1 hX hsh;have hW':=hW;obtain ⟨p,q,hA,hV,rfl,hfz,hnd⟩:=hW;rw[hvars] at hV;obtain ⟨rfl,rfl⟩:=trodVars_none hV;have hlen:ds.length=f.params.size:=by
  have:∀ (ts:List TypeId) (vs:List Value) (ds:List (DataW H)) (ps:List MemPlace) ,DataW.TrodAll enc Tryz.checked.prog W 0 (fun _=>true) true ts vs ds ps→ds.length=ts.length:=by
   intro ts
   induction ts with
   | nil=>intro vs ds ps h;obtain ⟨_,rfl,_⟩:=trodAll_nil h;rfl
   | cons t ts ih=>intro vs ds ps h;obtain ⟨v,vs,d,ds,p,q,rfl,rfl,rfl,_,h2⟩:=trodAll_cons h;simp[ih _ _ _ h2]
  simpa using this _ _ _ _ hA
 have hsp:s.fn H (ds++[])={ results:=[.lit (.bool true)],args:=ds }:=by rw[List.append_nil];exact hspec ds hlen
 refine (hcall W args ⟨⟨base,hval⟩,H,enc,ds,p,hA⟩ hg).mono fun e W' ⟨he,hk⟩=>?_;subst he;have hlt:∀ x ∈ p,x.block<W.heap.size:=fun x hx=>hW'.lt x (by simp[hx]);have reads:∀ sp:Nat→Bool,(∀ x ∈ p,sp x.block=true)→DataW.TrodAll enc Tryz.checked.prog W' 0 sp true f.params.toList args.toList ds p:=
  fun sp hs=>uu laidOut hk.below _ _ _ _ hparams hA hlt hs
 have answer:∀ (b:Nat) (sp:Nat→Bool) (hd:Bool),DataW.TrodAll enc Tryz.checked.prog W' b sp hd f.resultTypes.toList ((Value.bool true).resultList f.resultTypes.size) [.lit (.bool true)] []:=fun b sp hd=>by
  rw[hres];exact trodAll_cons_mk (p:=[]) (shut_bool underlying4 _) trodAll_mk0
 have nones:∀ sp:Nat→Bool,DataW.TrodVars enc Tryz.checked.prog W' sp s.vars [] []:=fun sp=>by rw[hvars];exact rfl
 have inOld:∀ x ∈ p,decide (x.block<W.heap.size)=true:=fun x hx=>decide_eq_true (hlt x hx);refine ⟨_,rfl,ds,[],p++[],[],p,[],hW',?_,?_,?_,?_,fun again=>by cases again⟩
 ·rw[hsp];exact answer _ _ _
 ·rw[hsp];exact reads _ inOld
 ·rw[hsp];exact nones _
 ·exact World.keptBut_mono (fun x hx=>⟨hx,Or.inr (by simpa using hx)⟩) (hk.below.frame (· ∈ p++[]))
theorem HX (os:Os)(args:Array Value):((World.laidAll prog os nS).forCall (fun _ _=>0) ⟨#[],args,[]⟩).Shaped prog:=World.shaped_of_ZipB (by kernel_rfl) (by kernel_rfl)
theorem N9 (os:Os)(args:Array Value):laidMetH prog nS ((World.laidAll prog os nS).forCall (fun _ _=>0) ⟨#[],args,[]⟩).memory:=by
 rw[MakeChecks.laidMetH_plain _ _ _ (by kernel_rfl)];exact laidMet_laidAll _ (by kernel_rfl) (by kernel_rfl)
open Go.ChangeMaps
section
variable {H:Type} {enc:TypeId × Value→H} {w:World} {base b:Nat} {spare:Nat→Bool} {held:Bool}
theorem HY:Tryz.prog.cellsOf 23=2:=by kernel_rfl
theorem BO:Tryz.prog.cellsOf 50=3:=by kernel_rfl
theorem HZ:Tryz.prog.cellsOf 48=2:=by kernel_rfl
theorem KT:Tryz.prog.cellsOf 5=1:=by kernel_rfl
theorem AJ {v:Value}{d:DataW H}{ps:List MemPlace}(hval:Value.okWide prog w .any b 23 v)(h:DataW.Trod enc prog w base spare held 23 v d ps):∃ n s:Int,v=Dl n s:=by
 unfold Value.okWide at hval;rw[underlying23] at hval;obtain ⟨⟨cs⟩,rfl,hsz,_⟩:=hval;obtain ⟨fuel,hf⟩:=h;obtain ⟨y0,y1,n,_,hl,h0,h1⟩:=trod_struct2 underlying23 hf;rw[HY] at hl;rw[I0] at h0 h1
 match cs,hl,h0,h1 with
 | [c0,c1],_,h0,h1=>
  obtain ⟨m,_,e0⟩:=Ea h0;obtain ⟨s,_,e1⟩:=Ea h1;have k0:c0=Value.int .i64 m:=(List.cons.inj e0).1;have k1:c1=Value.int .i64 s:=(List.cons.inj e1).1;exact ⟨m,s,by rw[k0,k1];rfl⟩
theorem H0 {fuel:Nat}{cs:List Value}{x:DataW H × List MemPlace}(h:DataW.trod enc prog w base spare held fuel 50 cs=some x):∃ a:Rw,(a.1<256∧a.2.1<256∧a.2.2<256)∧cs=bj a:=by
 obtain ⟨y0,y1,n,_,hl,h0,h1⟩:=trod_struct2 underlying50 h;rw[BO] at hl;rw[HZ] at h0;rw[KT] at h1
 match cs,hl,h0,h1 with
 | [c0,c1,c2],_,h0,h1=>
  obtain ⟨m,s,hm,hs,he⟩:=Gg h0;obtain ⟨o,ho,hlo⟩:=byte_at h1;have he:[c0,c1]=[Value.int .u8 (m:Int),.int .u8 (s:Int)]:=he;injection he with e0 he;injection he with e1 _;subst e0;subst e1;subst ho;exact ⟨(m,s,o),⟨hm,hs,hlo⟩,rfl⟩
theorem FP {v:Value}{d:DataW H}{ps:List MemPlace}(h:DataW.Trod enc prog w base spare held 44 v d ps)(hv1:v.cells=#[v]):∃ A c,∃ l:List Rw,v=.slice A l.length c∧(∀ x ∈ l,x.1<256∧x.2.1<256∧x.2.2<256)∧Sl w (.slice A l.length c) 3 l.length (flat bj l):=by
 obtain ⟨fuel,hf⟩:=h;rw[hv1] at hf;obtain ⟨A,c,l,hv,_,hok,hs⟩:=D_ underlying44 BO (by decide) bj (fun x:Rw=>x.1<256∧x.2.1<256∧x.2.2<256) bI (fun fuel r y hy=>H0 hy) hf;exact ⟨A,c,l,hv,hok,hs⟩
end
end Go.Proofs.YtpjihhgjbbihkaaGreatDoor
