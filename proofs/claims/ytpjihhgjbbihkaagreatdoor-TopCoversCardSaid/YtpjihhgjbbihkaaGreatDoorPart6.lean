import Derived.Test.YtpjihhgjbbihkaaGreatDoorPart5
import Derived.Stop.LaidErr
import Derived.Lib.LaidTab
import Derived.Lay
import Derived.HandedShaped
import Derived.Shelf.Vars
import Derived.MakeChecks
namespace Go.Proofs.YtpjihhgjbbihkaaGreatDoor
open Go.Proofs.Tryz
open Go.Dk
set_option maxRecDepth 100000
attribute [local irreducible] IntKind.wrap
theorem xG (t:Tb):(bY t).on.length=t.no:=eI _ _
theorem xH (t:Tb):(bY t).may.length=t.no:=eI _ _
def Lw (text:List UInt8)(nodes steps:Int)(ln:Nat)(e:Int):Prop:=
 cY text=.error (ln,e)∨∃ s,cY text=.ok s∧((dd s.tb s.no=true∧e=4)∨(dd s.tb s.no=false∧(y_ nodes steps∨∃ rows st a,qD (bY s.tb) nodes steps rows st a 0∧64<rows.length)))
def GD (text:List UInt8)(nodes steps:Int)(v:Value):Prop:=
 (∃ (ln:Nat) (e:Int),v=.tuple #[.agg (iK [] 0 0 0),.int .i64 (ln:Int),.int .i64 e]∧e≠0∧Lw text nodes steps ln e)∨
 (∃ s rows st a,v=.tuple #[.agg (iK (cP (bf (bY s.tb) rows)) st a (rows.length:Int)),.int .i64 0,.int .i64 0]∧cY text=.ok s∧dd s.tb s.no=false∧qD (bY s.tb) nodes steps rows st a 0∧rows.length≤64)
def NN (i:Nat):FuncId:=if i=0 then 20 else if i=1 then 22 else if i=2 then 24 else if i=3 then 26 else 28
def NO (g2 g3 g7:Nat)(i:Nat):Array Value:=if i=0 then #[(ah g2),(ah g7)] else if i=2 then #[(ah g7),(ah g3)] else #[(ah g7)]
def xI (g2 g3 g7:Nat):Array Value:=#[.func (.func 20) #[] #[(ah g2),(ah g7)],.func (.func 22) #[] #[(ah g7)],.func (.func 24) #[] #[(ah g7),(ah g3)],.func (.func 26) #[] #[(ah g7)],.func (.func 28) #[] #[(ah g7)]]
theorem Lx {g2 g3 g7 i:Nat}(hi:i<5):(xI g2 g3 g7)[i]?=some (.func (.func (NN i)) #[] (NO g2 g3 g7 i)):=by
 rcases (by omega:i=0∨i=1∨i=2∨i=3∨i=4) with rfl | rfl | rfl | rfl | rfl <;> rfl
def DU (w0:World)(text:List UInt8)(nodes steps:Int)(g2 g3 g4 g7 b gs:Nat):Nat→World→Prop
 | 0,w=>Hp w0 ab w [an b 60 Ja,an g7 56 #[.pointer (some ⟨b,0,none⟩)],an g3 23 (ji nodes steps),an g2 9 #[aU text],an gs 1 (xI g2 g3 g7),an g4 28 (iK [] 0 0 0)] [lM]
 | 1,w=>∃ s v S,cY text=.ok s∧Hp w0 ab w [e9 S v s.ls,an b 60 (rK s.kd s.ni s.no v 0 0 0 kv 0 kv kv kv 0 0 0 [] 0 0 0 0 0),an g7 56 #[.pointer (some ⟨b,0,none⟩)],an g3 23 (ji nodes steps),an g2 9 #[aU text],an gs 1 (xI g2 g3 g7),an g4 28 (iK [] 0 0 0)] [lM]
 | 2,w=>∃ s v Bo co Bm cm F,(cY text=.ok s∧dd s.tb s.no=false)∧Hp w0 ab w [nB F (bY s.tb) Bo co Bm cm,an b 60 (rK s.kd s.ni s.no v 0 0 0 kv (bY s.tb).n (.slice Bo (bY s.tb).on.length co) (.slice Bm (bY s.tb).may.length cm) kv 0 0 0 [] 0 0 0 0 0),an g7 56 #[.pointer (some ⟨b,0,none⟩)],an g3 23 (ji nodes steps),an g2 9 #[aU text],an gs 1 (xI g2 g3 g7),an g4 28 (iK [] 0 0 0)] [lM]
 | 3,w=>∃ s v Bo co Bm cm F A c rows st a d,(cY text=.ok s∧dd s.tb s.no=false∧qD (bY s.tb) nodes steps rows st a 0)∧Hp w0 ab w [own 50 3 (.slice A rows.length c) rows.length (flat bd rows),nB F (bY s.tb) Bo co Bm cm,an b 60 (rK s.kd s.ni s.no v 0 0 0 kv (bY s.tb).n (.slice Bo (bY s.tb).on.length co) (.slice Bm (bY s.tb).may.length cm) (.slice A rows.length c) st a d [] 0 0 0 0 0),an g7 56 #[.pointer (some ⟨b,0,none⟩)],an g3 23 (ji nodes steps),an g2 9 #[aU text],an gs 1 (xI g2 g3 g7),an g4 28 (iK [] 0 0 0)] [lM]
 | 4,w=>∃ s v v2 g e f sm A c rows st a d,(cY text=.ok s∧dd s.tb s.no=false∧qD (bY s.tb) nodes steps rows st a 0∧rows.length≤64)∧Hp w0 ab w [e9 g v2 (bf (bY s.tb) rows).ls,an b 60 (rK s.kd s.ni s.no v (bf (bY s.tb) rows).kd (bf (bY s.tb) rows).ni (bf (bY s.tb) rows).no v2 e f sm (.slice A rows.length c) st a d [] 0 0 0 0 0),an g7 56 #[.pointer (some ⟨b,0,none⟩)],an g3 23 (ji nodes steps),an g2 9 #[aU text],an gs 1 (xI g2 g3 g7),an g4 28 (iK [] 0 0 0)] [lM]
 | _,w=>∃ s v v2 e f sm A c rows st a d kd ni no,(cY text=.ok s∧dd s.tb s.no=false∧qD (bY s.tb) nodes steps rows st a 0∧rows.length≤64)∧Hp w0 ab w [an b 60 (rK s.kd s.ni s.no v kd ni no v2 e f sm (.slice A rows.length c) st a d (cP (bf (bY s.tb) rows)) 0 0 0 0 0),an g7 56 #[.pointer (some ⟨b,0,none⟩)],an g3 23 (ji nodes steps),an g2 9 #[aU text],an gs 1 (xI g2 g3 g7),an g4 28 (iK [] 0 0 0)] [lM]
def IB (w0:World)(text:List UInt8)(nodes steps:Int)(g2 g3 g4 g7 a gs:Nat)(w:World):Prop:=∃ (cs:Array Value) (ln:Nat) (e:Int),(e≠0∧Lw text nodes steps ln e∧cs[19]?=some (.int .i64 (ln:Int))∧cs[20]?=some (.int .i64 e))∧Hp w0 ab w [an a 60 cs,an g7 56 #[(ah a)],an g3 23 (ji nodes steps),an g2 9 #[aU text],an gs 1 (xI g2 g3 g7),an g4 28 (iK [] 0 0 0)] [lM]
theorem Ly {text:List UInt8}{a b:Nat}(h:rI text a b=true){s:Rd}(hs:cY text=.ok s):s.ni≤a∧s.no≤b:=by
 unfold rI at h;rw[hs] at h;simpa using h
theorem Lz {w0:World}{text:List UInt8}{nodes steps:Int}{g2 g3 g4 g7 a gs:Nat}{i:Nat}{w:World}(hi:i<5)(h:DU w0 text nodes steps g2 g3 g4 g7 a gs i w):w.cell? ⟨gs,i,none⟩=some (.func (.func (NN i)) #[] (NO g2 g3 g7 i)):=by
 have key:∀ {L:List cS} {M:List cS} {n:Nat},Hp w0 ab w L M→L[n]?=some (an gs 1 (xI g2 g3 g7))→w.cell? ⟨gs,i,none⟩=some (.func (.func (NN i)) #[] (NO g2 g3 g7 i)):=fun H b=>(aQ (H.get _ b) i).trans (Lx hi);rcases (by omega:i=0∨i=1∨i=2∨i=3∨i=4) with rfl | rfl | rfl | rfl | rfl
 ·exact key (n:=4) h rfl
 ·obtain ⟨_,_,_,_,H⟩:=h;exact key (n:=5) H rfl
 ·obtain ⟨_,_,_,_,_,_,_,_,H⟩:=h;exact key (n:=5) H rfl
 ·obtain ⟨_,_,_,_,_,_,_,_,_,_,_,_,_,_,H⟩:=h;exact key (n:=6) H rfl
 ·obtain ⟨_,_,_,_,_,_,_,_,_,_,_,_,_,_,H⟩:=h;exact key (n:=5) H rfl
theorem tI {w0:World}{text:List UInt8}{nodes steps:Int}{g2 g3 g4 g7 d gs:Nat}(x:text.length≤100000)(y:rI text 4 3=true){i:Nat}{w:World}(hi:i<5)(h:DU w0 text nodes steps g2 g3 g4 g7 d gs i w) :
  jN prog (.func (.func (NN i)) #[] (NO g2 g3 g7 i)) [] w fun _ w'=>(DU w0 text nodes steps g2 g3 g4 g7 d gs (i+1) w'∧w'.cell? ⟨d,20,none⟩=some (.int .i64 0))∨(IB w0 text nodes steps g2 g3 g4 g7 d gs w'∧∃ e:Int,e≠0∧w'.cell? ⟨d,20,none⟩=some (.int .i64 e)):=by
 have bad:∀ {w':World} {cs:Array Value} {ln:Nat} {e:Int},Hp w0 ab w' [an d 60 cs,an g7 56 #[(ah d)],an g3 23 (ji nodes steps),an g2 9 #[aU text],an gs 1 (xI g2 g3 g7),an g4 28 (iK [] 0 0 0)] [lM]→e≠0→Lw text nodes steps ln e→cs[19]?=some (.int .i64 (ln:Int))→cs[20]?=some (.int .i64 e)→IB w0 text nodes steps g2 g3 g4 g7 d gs w'∧∃ e:Int,e≠0∧w'.cell? ⟨d,20,none⟩=some (.int .i64 e):=fun H he z B r=>⟨⟨_,_,_,⟨he,z,B,r⟩,H⟩,_,he,(aQ (H.get 0 rfl) 20).trans r⟩;rcases (by omega:i=0∨i=1∨i=2∨i=3∨i=4) with rfl | rfl | rfl | rfl | rfl
 ·have H:Hp w0 ab w [an d 60 Ja,an g7 56 #[(ah d)],an g3 23 (ji nodes steps),an g2 9 #[aU text],an gs 1 (xI g2 g3 g7),an g4 28 (iK [] 0 0 0)] [lM]:=h;refine fx (g:=20) (args:=[]) (cap:=[(ah g2),(ah g7)]) (c20 (L:=[an g3 23 (ji nodes steps),an gs 1 (xI g2 g3 g7),an g4 28 (iK [] 0 0 0)]) text x d g7 g2 (H.b9 [0,1,3,2,4,5] (by decide) rfl)) ?_;rintro v w' (⟨s,v,S,a,H⟩ | ⟨ln,e,a,he,H⟩)
  ·exact .inl ⟨⟨s,v,S,a,H.b9 [0,1,2,4,3,5,6] (by decide) rfl⟩,(aQ (H.get 1 rfl) 20).trans rfl⟩
  ·exact .inr (bad (H.b9 [0,1,3,2,4,5] (by decide) rfl) he (.inl a) rfl rfl)
 ·obtain ⟨s,v,S,a,H⟩:=h;have m:=kG a;refine fx (g:=22) (args:=[]) (cap:=[(ah g7)]) (PN (L:=[an g3 23 (ji nodes steps),an g2 9 #[aU text],an gs 1 (xI g2 g3 g7),an g4 28 (iK [] 0 0 0)]) m v S d g7 H) ?_;rintro _ w' (⟨Bo,co,Bm,cm,F,f,H⟩ | ⟨f,H⟩)
  ·refine .inl ⟨⟨s,v,Bo,co,Bm,cm,F,⟨a,f⟩,?_⟩,(aQ (H.get 1 rfl) 20).trans rfl⟩;rw[xG,xH];exact H
  ·exact .inr (bad (ln:=0) (e:=4) H (by decide) (.inr ⟨s,a,.inl ⟨f,rfl⟩⟩) rfl rfl)
 ·obtain ⟨s,v,Bo,co,Bm,cm,F,⟨a,f⟩,H⟩:=h;have m:=kG a;have n:=rL m f;obtain ⟨o,p⟩:=Ly y a;refine fx (g:=24) (args:=[]) (cap:=[(ah g7),(ah g3)]) (c24 (L:=[an g2 9 #[aU text],an gs 1 (xI g2 g3 g7),an g4 28 (iK [] 0 0 0)]) n o (by rw[xH];exact p) nodes steps s.kd s.ni s.no v F Bo co Bm cm d g7 g3 H) ?_;rintro _ w' (⟨A,c,rows,st,b,k,l,H⟩ | ⟨C,v1,st,b,k,H⟩)
  ·exact .inl ⟨⟨s,v,Bo,co,Bm,cm,F,A,c,rows,st,b,k,⟨a,f,l⟩,H⟩,(aQ (H.get 2 rfl) 20).trans rfl⟩
  ·exact .inr (bad (ln:=0) (e:=1) H (by decide) (.inr ⟨s,a,.inr ⟨f,.inl C⟩⟩) rfl rfl)
 ·obtain ⟨s,v,Bo,co,Bm,cm,F,A,c,rows,st,b,k,⟨a,f,l⟩,H⟩:=h;have m:=kG a;have n:=rL m f;refine fx (g:=26) (args:=[]) (cap:=[(ah g7)]) (PO (L:=[an g3 23 (ji nodes steps),an g2 9 #[aU text],an gs 1 (xI g2 g3 g7),an g4 28 (iK [] 0 0 0)]) n rows (uN n l) s.kd s.ni s.no v F Bo co Bm cm A c st b k d g7 H) ?_;rintro _ w' (⟨j,v2,q,H⟩ | ⟨j,H⟩)
  ·exact .inl ⟨⟨s,v,v2,q,_,_,_,A,c,rows,st,b,k,⟨a,f,l,j⟩,H⟩,(aQ (H.get 1 rfl) 20).trans rfl⟩
  ·exact .inr (bad (ln:=0) (e:=3) H (by decide) (.inr ⟨s,a,.inr ⟨f,.inr ⟨rows,st,b,l,j⟩⟩⟩) rfl rfl)
 ·obtain ⟨s,v,v2,q,t,u,sm,A,c,rows,st,b,k,⟨a,f,l,j⟩,H⟩:=h;have m:=kG a;have n:=rL m f;refine fx (g:=28) (args:=[]) (cap:=[(ah g7)]) (c28 (L:=[an g3 23 (ji nodes steps),an g2 9 #[aU text],an gs 1 (xI g2 g3 g7),an g4 28 (iK [] 0 0 0)]) (Cj n (uN n l) j) s.kd s.ni s.no v v2 q t u sm _ st b k d g7 H) ?_;rintro _ w' H;exact .inl ⟨⟨s,v,v2,t,u,sm,A,c,rows,st,b,k,_,_,_,⟨a,f,l,j⟩,H⟩,(aQ (H.get 0 rfl) 20).trans rfl⟩
theorem IC {g2 g7:Nat}{w:World}{kk:Value→World→Prop}(h:kk (.func (.func 20) #[] #[(ah g2),(ah g7)]) w):cD prog (.func 20) [] [(ah g2),(ah g7)] w kk:=by
 unfold cD;exact ⟨_,w,by kernel_rfl,h⟩
theorem ID {g7:Nat}{w:World}{kk:Value→World→Prop}(h:kk (.func (.func 22) #[] #[(ah g7)]) w):cD prog (.func 22) [] [(ah g7)] w kk:=by
 unfold cD;exact ⟨_,w,by kernel_rfl,h⟩
theorem IE {g3 g7:Nat}{w:World}{kk:Value→World→Prop}(h:kk (.func (.func 24) #[] #[(ah g7),(ah g3)]) w):cD prog (.func 24) [] [(ah g7),(ah g3)] w kk:=by
 unfold cD;exact ⟨_,w,by kernel_rfl,h⟩
theorem IF {g7:Nat}{w:World}{kk:Value→World→Prop}(h:kk (.func (.func 26) #[] #[(ah g7)]) w):cD prog (.func 26) [] [(ah g7)] w kk:=by
 unfold cD;exact ⟨_,w,by kernel_rfl,h⟩
theorem IG {g7:Nat}{w:World}{kk:Value→World→Prop}(h:kk (.func (.func 28) #[] #[(ah g7)]) w):cD prog (.func 28) [] [(ah g7)] w kk:=by
 unfold cD;exact ⟨_,w,by kernel_rfl,h⟩
theorem Ct {k:Value→World→Prop}{w:World}(h:k (.agg (iK [] 0 0 0)) w):b6 prog 28 [] w k:=bx (fun w=>by kernel_rfl) h
theorem qQ {d:List UInt8}{a b c:Int}:∀ u ∈ (iK d a b c).toList,u.oneCell'=true:=by
 intro u hu;simp[iK] at hu;rcases hu with rfl | rfl | rfl | rfl <;> rfl
theorem Hp.xJ {w:World}(b:jD w):Hp w ab w [] [lM]:=Hp.start w _ [lM] (by intro r a;rw[List.mem_singleton] at a;subst a;exact b) (by intro r a g h;rw[List.mem_singleton] at a;subst a;exact b.lt g h)
theorem OZ:enters prog 8=true:=by kernel_rfl
set_option maxHeartbeats 2000000 in
theorem c8 (text:List UInt8)(r:text.length≤100000)(t:rI text 4 3=true)(nodes steps:Int)(w:World)(x:jD w) :
  bz prog 8 [aU text,D4 nodes steps] w fun v w'=>GD text nodes steps v∧aT w w':=by
 refine ar (N:=62) func8 OZ rfl rfl rfl (by simp) ?_;have H:=Hp.xJ x;refine ak (γ:=Nat × Nat × Nat) (fun (g2,g3,g4)=>[(2,(ah g2)),(3,(ah g3)),(4,(ah g4)),(5,.int .i64 0),(6,.int .i64 0)]) (fun (g2,g3,g4) w'=>Hp w ab w' [an g4 28 (iK [] 0 0 0),an g3 23 (ji nodes steps),an g2 9 #[aU text]] [lM]) ?_ ?_
 ·refine H.box 9 (aU text) (cs:=#[aU text]) rfl ?_;clear H;intro g2 y H;refine H.box 23 (D4 nodes steps) (cs:=ji nodes steps) rfl ?_;clear H;intro g3 n H;refine H.alloc 28 xF rfl ?_;clear H;intro g4 g H;exact ⟨(g2,g3,g4),⟨rfl,rfl,rfl,rfl,rfl,trivial⟩,H⟩
 clear H;rintro ⟨g2,g3,g4⟩ u y H;refine ak (γ:=Nat × Nat) (fun (a,g7)=>[(7,(ah g7))]) (fun (a,g7) w'=>Hp w ab w' [an g7 56 #[(ah a)],an a 60 Ja,an g4 28 (iK [] 0 0 0),an g3 23 (ji nodes steps),an g2 9 #[aU text]] [lM]) ?_ ?_
 ·refine Iw ?_;refine H.box 60 (.agg Ja) (cs:=Ja) rfl ?_;clear H;intro a n H;refine H.alloc 56 (cs:=#[.pointer none]) Lr rfl ?_;clear H;intro g7 g H;refine H.store 0 rfl Lt (Nat.le_of_ble_eq_true rfl) rfl ?_;clear H;intro k H;exact ⟨(a,g7),⟨rfl,trivial⟩,H⟩
 clear H;rintro ⟨a,g7⟩ u n H;refine ak (γ:=Nat × Bool) (fun (_,b)=>[(8,.bool b)]) (fun (gs,b) w'=>(b=true∧DU w text nodes steps g2 g3 g4 g7 a gs 5 w')∨(b=false∧IB w text nodes steps g2 g3 g4 g7 a gs w')) ?_ ?_
 ·refine H.load 0 rfl gX rfl ?_;refine IC ?_;refine ID ?_;refine IE ?_;refine IF ?_;refine IG ?_;refine H.bk PM (cs:=xI g2 g3 g7) (by decide) (by decide) (by kernel_rfl) ?_;clear H;intro gs g H;have z:DU w text nodes steps g2 g3 g4 g7 a gs 0 g:=H.b9 [2,1,4,5,0,3] (by decide) rfl;refine aj (PL (I:=DU w text nodes steps g2 g3 g4 g7 a gs) (Bad:=IB w text nodes steps g2 g3 g4 g7 a gs) NN (NO g2 g3 g7) 5 a gs (by decide) g z (fun i w' hi h=>Lz hi h) (fun i w' hi h=>tI r t hi h)) ?_;rintro _ k (⟨rfl,h⟩ | ⟨rfl,h⟩)
  ·exact ⟨(gs,true),⟨rfl,trivial⟩,.inl ⟨rfl,h⟩⟩
  ·exact ⟨(gs,false),⟨rfl,trivial⟩,.inr ⟨rfl,h⟩⟩
 clear H;rintro ⟨gs,b⟩ u g (⟨rfl,h⟩ | ⟨rfl,h⟩)
 ·obtain ⟨s,v,v2,o,p,sm,A,c,rows,st,d,q,kd,ni,no,B,H⟩:=h;refine aw (fun w'=>Hp w ab w' [an a 60 (rK s.kd s.ni s.no v kd ni no v2 o p sm (.slice A rows.length c) st d q (cP (bf (bY s.tb) rows)) 0 0 0 0 0),an g7 56 #[(ah a)],an g3 23 (ji nodes steps),an g2 9 #[aU text],an gs 1 (xI g2 g3 g7),an g4 28 (iK [] 0 0 0)] [lM]) ?_ ?_
  ·refine ae rfl ?_;exact ⟨(),trivial,H⟩
  clear H;rintro ⟨⟩ u k H;refine aw (fun w'=>Hp w ab w' [an a 60 (rK s.kd s.ni s.no v kd ni no v2 o p sm (.slice A rows.length c) st d q (cP (bf (bY s.tb) rows)) st d rows.length 0 0),an g7 56 #[(ah a)],an g3 23 (ji nodes steps),an g2 9 #[aU text],an gs 1 (xI g2 g3 g7),an g4 28 (iK [] 0 0 0)] [lM]) ?_ ?_
  ·refine gG (fun u=>Hp w ab u [Iz a 11 [.slice A rows.length c,.int .i64 st,.int .i64 d],an g7 56 #[(ah a)]] [lM]) eN (by kernel_rfl) (dZ ((H.same (aS.drew _)).b9 [0,1] (by decide) rfl) 11 _ rfl) ?_;replace H:=H.same (aS.drew _);generalize k.drew=C at H
   iterate 4 refine quiet _ (fun w H=>H.load 1 rfl gX rfl af) ?_
   refine quiet _ (fun w H=>aa (uK _) af) ?_;refine quiet _ (fun w H=>aa (Ix _ _) af) ?_;refine quiet (.int .i64 st) (fun w H=>oX (H.get 0 rfl) 12 1 aE rfl rfl af) ?_;refine quiet _ (fun w H=>H.load 1 rfl gX rfl af) ?_;refine quiet _ (fun w H=>aa (uK _) af) ?_;refine quiet _ (fun w H=>aa (Iy _ _) af) ?_;refine quiet (.int .i64 d) (fun w H=>oX (H.get 0 rfl) 13 2 sP rfl rfl af) ?_;refine quiet _ (fun w H=>H.load 1 rfl gX rfl af) ?_;refine quiet _ (fun w H=>aa (uK _) af) ?_;refine quiet _ (fun w H=>aa (Cr _ _) af) ?_;refine quiet (.slice A rows.length c) (fun w H=>oX (H.get 0 rfl) 11 0 FZ rfl rfl af) ?_;refine quiet _ (fun w H=>ay underlying44 af) ?_;refine quiet _ (fun w H=>aa (uL _) af) ?_;refine quiet _ (fun w H=>aa (Br _ _) af) ?_;refine H.store 0 rfl a_ (Nat.le_of_ble_eq_true rfl) rfl ?_;clear H;intro D H;refine ⟨.inl (dZ (H.b9 [0,1] (by decide) rfl) 11 _ rfl),?_⟩;refine quiet _ (fun w H=>aa (uL _) af) ?_;refine quiet _ (fun w H=>aa (Lu _ _) af) ?_;refine H.store 0 rfl a_ (Nat.le_of_ble_eq_true rfl) rfl ?_;clear H;intro E H;refine ⟨.inl (dZ (H.b9 [0,1] (by decide) rfl) 11 _ rfl),?_⟩;refine quiet _ (fun w H=>aa (uL _) af) ?_;refine quiet _ (fun w H=>aa (Bs _ _) af) ?_;refine H.store 0 rfl a_ (Nat.le_of_ble_eq_true rfl) rfl ?_;clear H;intro F H;refine ⟨.inl (dZ (H.b9 [0,1] (by decide) rfl) 11 _ rfl),?_⟩;exact ⟨(),trivial,H⟩
  clear H;rintro ⟨⟩ u C H;refine H.load 1 rfl gX rfl ?_;refine aa (uL _) ?_;refine H.cB 0 rfl (iK (cP (bf (bY s.tb) rows)) st d rows.length).toList Cq nr (fun j u f=>?_) ?_
  ·match j,f with
   | 0,f=>exact f
   | 1,f=>exact f
   | 2,f=>exact f
   | 3,f=>exact f
   | j+4,f=>simp[iK] at f
  refine H.storeAll 5 rfl nr rfl qQ ?_;clear H;intro S H;refine H.ai 5 rfl Cq nr ?_;obtain ⟨G,J,K,M⟩:=B;exact ⟨rfl,.inr ⟨s,rows,st,d,rfl,G,J,K,M⟩,H.keeps⟩
 ·obtain ⟨cs,ln,e,⟨he,O,l,m⟩,H⟩:=h;refine ag rfl ?_;refine H.fE [an a 60 cs,an g7 56 #[(ah a)]] (fun u H=>H.b9 [0,1] (by decide) rfl) eN (by kernel_rfl) ?_;clear H;intro k H;refine quiet _ (fun w H=>Ct af) ?_;refine quiet _ (fun w H=>H.load 1 rfl gX rfl af) ?_;refine quiet _ (fun w H=>aa (Bq _) af) ?_;refine quiet _ (fun w H=>H.load 0 rfl aE l af) ?_;refine quiet _ (fun w H=>H.load 1 rfl gX rfl af) ?_;refine quiet _ (fun w H=>aa (lg _) af) ?_;refine quiet _ (fun w H=>H.load 0 rfl sP m af) ?_;refine H.storeAll 5 rfl nr rfl qQ ?_;clear H;intro Q H;refine ⟨.inl (H.b9 [0,1] (by decide) rfl),?_⟩;refine H.ai 5 rfl Cq nr ?_;refine ⟨rfl,?_⟩;exact ⟨.inl ⟨ln,e,rfl,he,O⟩,H.keeps⟩
def N0:List UInt8:=[46,105,32,50,10,46,111,32,49,10,48,49,32,49,10,49,48,32,49,10,49,49,32,49,10,46,101,10]
def N1:List UInt8:=[46,105,32,50,10,46,111,32,49,10,48,32,49,10,46,101,10]
def NP:Rd:=⟨1,2,1,5,-1,[(3,2,[1]),(3,1,[1]),(3,3,[1])]⟩
theorem oY:cY N0=.ok NP:=by kernel_rfl
theorem rM:cY N1=.error (2,2):=by kernel_rfl
theorem LA:bY NP.tb=⟨2,[14],[14]⟩:=by kernel_rfl
theorem vW:dd NP.tb NP.no=false:=by kernel_rfl
theorem LB:bD ⟨2,[14],[14]⟩ [(1,1,1),(2,2,1)]=true:=by kernel_rfl
theorem LC:bD ⟨2,[14],[14]⟩ []=false:=by kernel_rfl
theorem LD:((List.range 4).all fun m=>(List.range 4).all fun v=>(List.range 2).all fun o=> !bD ⟨2,[14],[14]⟩ [(m,v,o)])=true:=by kernel_rfl
theorem II:rI N0 4 3=true:=by kernel_rfl
theorem IJ:rI N1 4 3=true:=by kernel_rfl
theorem DV {S:er}(e:S.n≤3)(f:S.may.length≤2){rows:List Rw}{st a:Int}(h:qD S 20000 1000000 rows st a 0):st=1∧(∀ x ∈ rows,dX S x)∧bD S rows=true∧∀ L,(∀ x ∈ L,im S.n S.on.length x)→bD S L=true→rows.length≤L.length:=by
 rcases h with ⟨_,_,_,_,h⟩ | ⟨_,_,(⟨b,_,c,g,i⟩ | ⟨_,_,(⟨_,h⟩ | ⟨_,R,b,c,g⟩)⟩)⟩
 ·cases h
 ·exact ⟨b,c,g,i⟩
 ·have:=H9 e f;omega
 ·have d:=AN e f c fun x j=>(b x).1 j;have:2^R.length≤2^18:=Nat.pow_le_pow_right (by decide) d;omega
theorem GF {rows:List Rw}{st d:Int}(h:qD (bY NP.tb) 20000 1000000 rows st d 0):st=1∧rows.length=2:=by
 have b:=rL (kG oY) vW;rw[LA] at h b;obtain ⟨i,e,c,j⟩:=DV (by decide) (by decide) h;refine ⟨i,?_⟩;have hle:=j [(1,1,1),(2,2,1)] (fun x a=>by
  rcases List.mem_cons.1 a with rfl | a
  ·exact ⟨by decide,by decide,by decide,by decide,by decide,by decide⟩
  ·rcases List.mem_cons.1 a with rfl | a
   ·exact ⟨by decide,by decide,by decide,by decide,by decide,by decide⟩
   ·cases a) LB
 have hle:rows.length≤2:=hle
 match rows,e,c,hle with
 | [],_,c,_=>rw[LC] at c;cases c
 | [x],e,c,_=>
  have a:=((e x (.head _)).qz b).ok b;obtain ⟨m,v,o⟩:=x;have f:=(dJ a.m a.v).1 a.right;have hm:m<4:=f.2.2.1;have hs:v &&&m=v:=f.2.2.2;have k:v<4:=by rw[← hs];exact Nat.lt_of_le_of_lt Nat.and_le_right hm
  have n:o<2:=a.few;have key:=LD;rw[List.all_eq_true] at key;have g:=key m (List.mem_range.2 hm);rw[List.all_eq_true] at g;have k2:=g v (List.mem_range.2 k);rw[List.all_eq_true] at k2;have k3:=k2 o (List.mem_range.2 n);rw[c] at k3
  cases k3
 | [_,_],_,_,_=>rfl
 | _::_::_::l,_,_,h=>exact absurd h (by simp)
theorem IK {v:Value}(h:GD N0 20000 1000000 v):∃ d,v=.tuple #[.agg (iK d 1 0 2),.int .i64 0,.int .i64 0]∨∃ b,v=.tuple #[.agg (iK d 1 b 2),.int .i64 0,.int .i64 0]:=by
 rcases h with ⟨ln,e,rfl,he,f⟩ | ⟨s,rows,st,b,rfl,a,j,c,g⟩
 ·exfalso;rcases f with a | ⟨s,a,h⟩
  ·rw[oY] at a;cases a
  ·rw[oY] at a;injection a with a;subst a;rcases h with ⟨h,_⟩ | ⟨_,(h | ⟨rows,st,b,c,h⟩)⟩
   ·rw[vW] at h;cases h
   ·unfold y_ at h;omega
   ·have:=(GF c).2;omega
 ·rw[oY] at a;injection a with a;subst a;obtain ⟨rfl,i⟩:=GF c;exact ⟨_,.inr ⟨b,by rw[i];rfl⟩⟩
theorem IL {v:Value}(h:GD N1 0 0 v):v=.tuple #[.agg (iK [] 0 0 0),.int .i64 2,.int .i64 2]:=by
 rcases h with ⟨ln,e,rfl,he,b⟩ | ⟨s,rows,st,c,rfl,a,i,j,d⟩
 ·rcases b with a | ⟨s,a,h⟩
  ·rw[rM] at a;injection a with a;injection a with f g;subst f;subst g;rfl
  ·rw[rM] at a;cases a
 ·rw[rM] at a;cases a
theorem GG {w:World}{kk:Value→World→Prop}(h:kk (D4 20000 1000000) w):b6 prog 23 [(0,.int .i64 20000),(1,.int .i64 1000000)] w kk:=bx (fun w=>by kernel_rfl) h
theorem GH {w:World}{kk:Value→World→Prop}(h:kk (D4 0 0) w):b6 prog 23 [] w kk:=bx (fun w=>by kernel_rfl) h
theorem O0:enters prog 7=true:=by kernel_rfl
set_option maxHeartbeats 1000000 in
theorem c7 (w:World)(f:jD w):bz prog 7 [] w fun v w'=>v=.bool true∧aT w w':=by
 refine ar (N:=39) func7 O0 rfl rfl rfl (by simp) ?_;have H:=Hp.xJ f;refine aw (fun w'=>Hp w ab w' [] [lM]) ⟨(),trivial,H⟩ ?_;clear H;rintro ⟨⟩ u j H;refine ak (γ:=Nat × List UInt8 × Int) (fun (g1,_)=>[(1,(ah g1)),(2,.int .i64 0),(3,.int .i64 0)]) (fun (g1,b,a) w'=>Hp w ab w' [an g1 28 (iK b 1 a 2)] [lM]) ?_ ?_
 ·refine GG ?_;refine aj (c8 N0 (by decide) II 20000 1000000 _ (H.ro 0 rfl)) ?_;rintro v g ⟨d,c⟩;replace H:=H.same c;clear c;obtain ⟨b,a,rfl⟩:∃ b a,v=.tuple #[.agg (iK b 1 a 2),.int .i64 0,.int .i64 0]:=by
   obtain ⟨b,(h | ⟨a,h⟩)⟩:=IK d
   ·exact ⟨b,0,h⟩
   ·exact ⟨b,a,h⟩
  refine H.alloc 28 xF rfl ?_;clear H;intro g1 e H;refine H.storeAll (cs':=iK b 1 a 2) 0 rfl nr rfl qQ ?_;clear H;intro i H;exact ⟨(g1,b,a),⟨rfl,rfl,rfl,trivial⟩,H⟩
 clear H;rintro ⟨g1,b,a⟩ u g H;refine ak (γ:=Nat) (fun g4=>[(4,(ah g4)),(5,.int .i64 2),(6,.int .i64 2)]) (fun g4 w'=>Hp w ab w' [an g4 28 (iK [] 0 0 0),an g1 28 (iK b 1 a 2)] [lM]) ?_ ?_
 ·refine GH ?_;refine aj (c8 N1 (by decide) IJ 0 0 _ (H.ro 0 rfl)) ?_;rintro v e ⟨d,c⟩;replace H:=H.same c;clear c;obtain rfl:=IL d;refine H.alloc 28 xF rfl ?_;clear H;intro g4 i H;refine H.storeAll (cs':=iK [] 0 0 0) 0 rfl nr rfl qQ ?_;clear H;intro k H;exact ⟨g4,⟨rfl,rfl,rfl,trivial⟩,H⟩
 clear H;rintro g4 u e H;refine aa (Bs _ _) ?_;refine H.load 1 rfl aE rfl ?_;refine ag rfl ?_;refine aa (Br _ _) ?_;refine ag rfl ?_;refine H.load 1 rfl aE rfl ?_
 iterate 11 refine ag rfl ?_
 exact ⟨rfl,H.keeps⟩
theorem O1:enters prog 6=true:=by kernel_rfl
theorem c6 (text:List UInt8)(g:text.length<9223372036854775808)(nodes steps:Int)(w:World):bz prog 6 [aU text,D4 nodes steps] w fun r w'=>(∃ b,r=.bool b∧(b=false→text.length≤9000∧rI text 4 3=true))∧aT w w':=by
 refine ar (N:=23) func6 O1 rfl rfl rfl (by simp) ?_;have H:=Hp.aC w;refine ak (γ:=Nat) (fun g3=>[(3,(ah g3)),(4,.bool false)]) (fun g3 w'=>Hp w ab w' [an g3 23 (ji nodes steps)] []) ?_ ?_
 ·refine H.box 23 (D4 nodes steps) (cs:=ji nodes steps) rfl ?_;clear H;intro g3 i H;exact ⟨g3,⟨rfl,rfl,trivial⟩,H⟩
 clear H;rintro g3 u i H;refine ep (by kernel_rfl:Tryz.prog.underlying 9=some .string) ?_;by_cases a:text.length≤9000
 ·have e:=fun u=>PG text (by omega) 4 3 u;by_cases m:2000<steps
  ·by_cases f:steps≤1000000
   ·refine au (fun d=>?_) (fun d=>?_)
    ·refine ag (decide_eq_true (by assumption)) ?_
     iterate 4 refine ag (decide_eq_true (by assumption)) ?_
     iterate 4 refine ag rfl ?_
     exact ⟨⟨_,rfl,fun h=>by first | cases h | exact ⟨a,by simpa using h⟩⟩,H.keeps⟩
    ·refine aa (j6 _) ?_;refine ae (decide_eq_false (by assumption)) ?_;refine H.load 0 rfl aE rfl ?_
     iterate 2 refine ae (decide_eq_false (by assumption)) ?_
     refine ag (decide_eq_true (by assumption)) ?_;refine aa (j6 _) ?_;refine ag (decide_eq_true (by assumption)) ?_;refine H.load 0 rfl aE rfl ?_;refine ag (decide_eq_true (by assumption)) ?_;refine ae (decide_eq_false (by assumption)) ?_;refine ag (decide_eq_true (by assumption)) ?_;refine ae (decide_eq_false (by assumption)) ?_
     iterate 4 refine ag (decide_eq_true (by assumption)) ?_
     exact ⟨⟨_,rfl,fun h=>by first | cases h | exact ⟨a,by simpa using h⟩⟩,H.keeps⟩
   ·refine au (fun d=>?_) (fun d=>?_)
    ·refine ag (decide_eq_true (by assumption)) ?_
     iterate 4 refine ag (decide_eq_true (by assumption)) ?_
     iterate 4 refine ag rfl ?_
     exact ⟨⟨_,rfl,fun h=>by first | cases h | exact ⟨a,by simpa using h⟩⟩,H.keeps⟩
    ·refine aa (j6 _) ?_;refine ae (decide_eq_false (by assumption)) ?_;refine H.load 0 rfl aE rfl ?_
     iterate 2 refine ae (decide_eq_false (by assumption)) ?_
     refine ag (decide_eq_true (by assumption)) ?_;refine aa (j6 _) ?_;refine ag (decide_eq_true (by assumption)) ?_;refine H.load 0 rfl aE rfl ?_;refine ag (decide_eq_true (by assumption)) ?_;refine ae (decide_eq_false (by assumption)) ?_;refine ag (decide_eq_true (by assumption)) ?_
     iterate 3 refine ae (decide_eq_false (by assumption)) ?_
     refine aj (e _) ?_;rintro _ j ⟨rfl,c⟩;replace H:=H.same c;clear c
     iterate 2 refine ae (decide_eq_false (by assumption)) ?_
     exact ⟨⟨_,rfl,fun h=>by first | cases h | exact ⟨a,by simpa using h⟩⟩,H.keeps⟩
  ·refine au (fun f=>?_) (fun f=>?_)
   ·refine ag (decide_eq_true (by assumption)) ?_
    iterate 4 refine ag (decide_eq_true (by assumption)) ?_
    iterate 4 refine ag rfl ?_
    exact ⟨⟨_,rfl,fun h=>by first | cases h | exact ⟨a,by simpa using h⟩⟩,H.keeps⟩
   ·refine aa (j6 _) ?_;refine ae (decide_eq_false (by assumption)) ?_;refine H.load 0 rfl aE rfl ?_
    iterate 8 refine ae (decide_eq_false (by assumption)) ?_
    iterate 2 refine ae rfl ?_
    refine aj (e _) ?_;rintro _ k ⟨rfl,c⟩;replace H:=H.same c;clear c
    iterate 2 refine ae rfl ?_
    exact ⟨⟨_,rfl,fun h=>by first | cases h | exact ⟨a,by simpa using h⟩⟩,H.keeps⟩
 ·have l:((text.length:Int)>9000):=by omega
  iterate 6 refine ag (decide_eq_true (by assumption)) ?_
  iterate 4 refine ag rfl ?_
  exact ⟨⟨_,rfl,fun h=>by first | cases h | exact ⟨a,by simpa using h⟩⟩,H.keeps⟩
theorem DW {k:Nat}{R:List Rw}(p:Nat){j:Nat}(a:j<k):fb (R.map (hZ k)) p j 1=xB R p j:=by
 unfold fb xB;rw[List.any_map];refine List.any_congr rfl fun x=>?_;have b:(gq k x.2.2)[j]?=some ((x.2.2 / 2^j) &&&1):=by
  unfold gq;exact lR.2 ⟨a,rfl⟩
 show (decide ((gq k x.2.2)[j]?=some 1)&&pU x.1 x.2.1 p)=_;rw[b,Nat.testBit_eq_decide_div_mod_eq,Nat.and_one_is_mod]
 congr 1
 rw[decide_eq_decide];exact ⟨fun h=>Option.some.inj h,fun h=>congrArg some h⟩
theorem DX {t:Tb}(d:j7 t)(i:dd t t.no=false){rows:List Rw}(j:∀ x ∈ rows,im (bY t).n (bY t).on.length x)(b:bD (bY t) rows=true){p k:Nat}(g:k<t.no)(e:p<2^t.ni) :
  (l5 t k p=true→xB rows p k=true)∧(xB rows p k=true→lk t k p=true):=by
 have l:=rL d i;have h:=(gU l).1 b k (l6 t k) (iv t k) (lR.2 ⟨g,rfl⟩) (lR.2 ⟨g,rfl⟩);rw[GA (n:=(bY t).n) d.ni j e];refine ⟨fun f=>h.1 p (by rw[Cs d,decide_eq_true e,f];rfl),fun f=>?_⟩;have a:=h.2 p f;rw[uM d,decide_eq_true e,Bool.true_and] at a;unfold lk;split at a
 ·rw[a];rfl
 ·rename_i m;split at a
  ·rename_i c;rw[decide_eq_true c,Bool.true_and,a,Bool.true_or]
  ·rename_i c;rw[decide_eq_true (show 2≤t.kd by omega),a];simp
theorem IM {S:er}{nodes steps:Int}{rows:List Rw}{st a:Int}(h:qD S nodes steps rows st a 0):bD S rows=true:=by
 rcases h with ⟨_,_,_,_,h⟩ | ⟨_,_,(⟨_,_,_,h,_⟩ | ⟨_,h,_⟩)⟩
 ·cases h
 ·exact h
 ·exact h.2.1
theorem DY {S:er}{nodes steps:Int}{rows:List Rw}{st a:Int}(h:qD S nodes steps rows st a 0)(b:st=1):∀ x ∈ rows,dX S x:=by
 rcases h with ⟨_,_,_,_,h⟩ | ⟨_,_,(⟨_,_,h,_⟩ | ⟨h,_⟩)⟩
 ·cases h
 ·exact h
 ·rw[h] at b;cases b
theorem DZ {t:Tb}(d:j7 t):(cP t).length≤100000:=by
 have a:=rG d;have b:=mL d.ni d.no4 _ d.ls;have c:=d.few;unfold cP;simp only[List.length_append,List.length_cons,List.length_nil];omega
theorem Jb {text:List UInt8}(c:text.length≤100000){s:Rd}(b:cY text=.ok s)(w:World):bz prog 9 [aU text] w fun r w'=>∃ v S,r=.tuple #[sN s.kd s.ni s.no v,.int .i64 0,.int .i64 0]∧eW w w' (e9 S v s.ls):=
 (c9 text c w).mono fun r w' h=>by
  rcases h with ⟨h,_⟩ | ⟨f,v,S,a,d,e⟩
  ·exact absurd b (h s)
  ·rw[b] at a;injection a with a;subst a;exact ⟨v,S,d,e⟩
theorem GI {t:Tb}(a:j7 t)(w:World):bz prog 9 [aU (cP t)] w fun r w'=>∃ v S,r=.tuple #[sN t.kd t.ni t.no v,.int .i64 0,.int .i64 0]∧eW w w' (e9 S v t.ls):=by
 obtain ⟨s,b,e⟩:=zr a;subst e;exact Jb (DZ a) b w
theorem NQ {w:World}{x y:Nat}{kk:Value→World→Prop}(h:kk (.bool true) w):da prog .eql 28 (.tmp x) (.tmp y) (.agg (iK [] 0 0 0)) (.agg (iK [] 0 0 0)) w kk:=tc (fun w=>by kernel_rfl) h
theorem rN {w0 w:World}{F:Nat→Prop}{L M:List cS}{S:Nat→Prop}{v:Value}{ls:List Ln}(H:Hp w0 F w L M)(n:Nat)(a:L[n]?=some (e9 S v ls)):jm w v ls:=qE.mono (H.get n a) fun g b=>H.lt _ (List.mem_of_getElem? a) g b
theorem GJ {w0 w:World}{F:Nat→Prop}{L M:List cS}{b:Nat→Prop}{S:er}{Bo Bm:Option Addr}{co cm:Nat}(H:Hp w0 F w L M)(n:Nat)(a:L[n]?=some (nB b S Bo co Bm cm)):gi w S Bo co Bm cm:=xu (H.get n a) fun g c=>H.lt _ (List.mem_of_getElem? a) g c
theorem uO {w:World}{S:Nat→Prop}{v:Value}{ls:List Ln}(h:(e9 S v ls).ok w):∃ B c,v=.slice B ls.length c:=by
 obtain ⟨B,c,_,h,_⟩:=h;exact ⟨B,c,h⟩
theorem NR:Tryz.prog.eqGuardType Tryz.prog.depth 50=false:=by kernel_rfl
theorem NS {m v o:Nat}{xo yo:Operand}{w:World}{kk:Value→World→Prop}(h:kk (.bool false) w):da prog .neq 50 xo yo (mA m v o) (mA m v o) w kk:=
 rU (r:=true) NR (fun w=>(yU m v o m v o w).trans (by simp)) h
theorem O2:enters prog 3=true:=by kernel_rfl
set_option maxHeartbeats 4000000 in
theorem c3 (text:List UInt8)(hlt:text.length<9223372036854775808)(nodes steps:Int)(p out:Nat)(hp:p<256)(ho:out<256)(w:World)(hg:jD w) :
  bz prog 3 [aU text,D4 nodes steps,.int .u8 (p:Int),.int .u8 (out:Int)] w fun v w'=>v=.bool true∧aT w w':=by
 refine ar (N:=198) func3 O2 rfl rfl rfl (by simp) ?_;have H:=Hp.xJ hg;refine ak (γ:=Nat) (fun g5=>[(5,(ah g5)),(8,.bool false)]) (fun g5 w'=>Hp w ab w' [an g5 23 (ji nodes steps)] [lM]) ?_ ?_
 ·refine H.box 23 (D4 nodes steps) (cs:=ji nodes steps) rfl ?_;clear H;intro g5 w1 H;exact ⟨g5,⟨rfl,rfl,trivial⟩,H⟩
 clear H;rintro g5 u w1 H;refine aw (fun w'=>(text.length≤9000∧rI text 4 3=true)∧Hp w ab w' [an g5 23 (ji nodes steps)] [lM]) ?_ ?_
 ·refine H.ai 0 rfl Ce xl ?_;refine aj (c6 text hlt nodes steps _) ?_;rintro _ w2 ⟨⟨b,rfl,hb⟩,f⟩;replace H:=H.same f;clear f
  cases b with
  | true=>
   refine ag rfl ?_;refine aj (c7 _ (H.ro 0 rfl)) ?_;rintro _ w3 ⟨rfl,f⟩;replace H:=H.same f;exact ⟨rfl,H.keeps⟩
  | false=>
   refine ae rfl ?_;exact ⟨(),trivial,hb rfl,H⟩
 clear H;rintro ⟨⟩ u w2 ⟨⟨hl9,hfew⟩,H⟩;refine ak (γ:=Nat × List UInt8 × Int × Int × Int × Int × Int) (fun (g9,_,_,_,_,ln,e)=>[(9,(ah g9)),(10,.int .i64 ln),(11,.int .i64 e)]) (fun (g9,G,I,J,K,ln,e) w'=>((e≠0∧G=[]∧I=0∧J=0∧K=0)∨(e=0∧GD text nodes steps (.tuple #[.agg (iK G I J K),.int .i64 ln,.int .i64 e])))∧Hp w ab w' [an g9 28 (iK G I J K),an g5 23 (ji nodes steps)] [lM]) ?_ ?_
 ·refine H.ai 0 rfl Ce xl ?_;refine aj (c8 text (by omega) hfew nodes steps _ (H.ro 0 rfl)) ?_;rintro v w3 ⟨hR,f⟩;replace H:=H.same f;clear f;obtain ⟨G,I,J,K,ln,e,rfl,hh⟩:∃ G I J K ln e,v=.tuple #[.agg (iK G I J K),.int .i64 ln,.int .i64 e]∧((e≠0∧G=[]∧I=0∧J=0∧K=0)∨(e=0∧GD text nodes steps (.tuple #[.agg (iK G I J K),.int .i64 ln,.int .i64 e]))):=by
   have hR':=hR;rcases hR with ⟨ln,e,rfl,he,_⟩ | ⟨s,rows,st,a,rfl,_⟩
   ·exact ⟨_,_,_,_,_,_,rfl,.inl ⟨he,rfl,rfl,rfl,rfl⟩⟩
   ·exact ⟨_,_,_,_,_,_,rfl,.inr ⟨rfl,hR'⟩⟩
  refine H.alloc 28 xF rfl ?_;clear H;intro g9 w4 H;refine H.storeAll (cs':=iK G I J K) 0 rfl nr rfl qQ ?_;clear H;intro w5 H;exact ⟨(g9,G,I,J,K,ln,e),⟨rfl,rfl,rfl,trivial⟩,hh,H⟩
 clear H;rintro ⟨g9,G,I,J,K,ln,e⟩ u w3 ⟨hh,H⟩;refine aw (fun w'=>e=0∧Hp w ab w' [an g9 28 (iK G I J K),an g5 23 (ji nodes steps)] [lM]) ?_ ?_
 ·rcases hh with ⟨he,rfl,rfl,rfl,rfl⟩ | ⟨rfl,_⟩
  ·refine ag (bne_iff_ne.2 he) ?_;refine H.ai 0 rfl Cq nr ?_;refine Ct ?_;refine NQ ?_;refine ag rfl ?_;refine aj (c7 _ (H.ro 0 rfl)) ?_;rintro _ w4 ⟨rfl,f⟩;replace H:=H.same f;refine ag rfl ?_;exact ⟨rfl,H.keeps⟩
  ·refine ae rfl ?_;exact ⟨(),trivial,rfl,H⟩
 clear H;rintro ⟨⟩ u w4 ⟨rfl,H⟩;obtain ⟨s,rows,st,a,hv,hP,hc,hM,h64⟩:∃ s rows st a,(Value.tuple #[.agg (iK G I J K),.int .i64 ln,.int .i64 0])=.tuple #[.agg (iK (cP (bf (bY s.tb) rows)) st a (rows.length:Int)),.int .i64 0,.int .i64 0]∧cY text=.ok s∧dd s.tb s.no=false∧qD (bY s.tb) nodes steps rows st a 0∧rows.length≤64:=by
  rcases hh with ⟨h,_⟩ | ⟨_,hR⟩
  ·exact absurd rfl h
  ·rcases hR with ⟨l',e',h,he,_⟩ | h
   ·injection h with h;injection h with h;injection h with _ h;injection h with _ h;injection h with h;injection h with _ h;exact absurd h.symm he
   ·exact h
 clear hh;have M:iK G I J K=iK (cP (bf (bY s.tb) rows)) st a (rows.length:Int):=by
  injection hv with h;injection h with h;injection h with h _;injection h with h
 clear hv;rw[M] at H;clear M;have V:=kG hP;have hS:=rL V hc;have t:=uN hS hM;have hcov:=IM hM;have S:=Cj hS t h64;have hno1:1≤s.no:=V.no1;have hno4:s.no≤4:=V.no4;have hni8:s.ni≤8:=V.ni;refine ak (γ:=Nat × Value × (Nat→Prop)) (fun (g12,_)=>[(12,(ah g12)),(14,.int .i64 0)]) (fun (g12,v1,y) w'=>Hp w ab w' [an g12 33 (cI s.kd s.ni s.no v1),e9 y v1 s.ls,an g9 28 (iK (cP (bf (bY s.tb) rows)) st a (rows.length:Int)),an g5 23 (ji nodes steps)] [lM]) ?_ ?_
 ·refine aj (Jb (by omega) hP _) ?_;rintro _ w5 ⟨v1,y,rfl,X⟩;replace H:=H.bq X;obtain ⟨B,c,rfl⟩:=uO (H.get 0 rfl);refine H.alloc 33 (cs:=cI 0 0 0 (.slice none 0 0)) nn rfl ?_;clear H;intro g12 w6 H;refine H.storeAll 0 rfl bw rfl dH ?_;clear H;intro w7 H;exact ⟨(g12,_,y),⟨rfl,rfl,trivial⟩,H⟩
 clear H;rintro ⟨g12,v1,y⟩ u w5 H;refine ak (γ:=Nat × Value × (Nat→Prop)) (fun (g15,_)=>[(15,(ah g15)),(17,.int .i64 0)]) (fun (g15,v2,z) w'=>Hp w ab w' [an g15 33 (cI (bf (bY s.tb) rows).kd (bf (bY s.tb) rows).ni (bf (bY s.tb) rows).no v2),e9 z v2 (bf (bY s.tb) rows).ls,an g12 33 (cI s.kd s.ni s.no v1),e9 y v1 s.ls,an g9 28 (iK (cP (bf (bY s.tb) rows)) st a (rows.length:Int)),an g5 23 (ji nodes steps)] [lM]) ?_ ?_
 ·refine aa (GB _ _) ?_;refine H.load 2 rfl wC rfl ?_;refine aj (GI S _) ?_;rintro _ w6 ⟨v2,z,rfl,X⟩;replace H:=H.bq X;obtain ⟨B,c,rfl⟩:=uO (H.get 0 rfl);refine H.alloc 33 (cs:=cI 0 0 0 (.slice none 0 0)) nn rfl ?_;clear H;intro g15 w7 H;refine H.storeAll 0 rfl bw rfl dH ?_;clear H;intro w8 H;exact ⟨(g15,_,z),⟨rfl,rfl,trivial⟩,H⟩
 clear H;rintro ⟨g15,v2,z⟩ u w6 H;obtain ⟨g,d2,rfl⟩:=uO (H.get 1 rfl);have C:(bf (bY s.tb) rows).ls.length=rows.length:=List.length_map _;have hk2:(bf (bY s.tb) rows).kd=1:=rfl;have hn2:(bf (bY s.tb) rows).ni=s.ni:=rfl;have ho2:(bf (bY s.tb) rows).no=s.no:=xG s.tb;refine aw (fun w'=>Hp w ab w' [an g15 33 (cI (bf (bY s.tb) rows).kd (bf (bY s.tb) rows).ni (bf (bY s.tb) rows).no (.slice g (bf (bY s.tb) rows).ls.length d2)),e9 z (.slice g (bf (bY s.tb) rows).ls.length d2) (bf (bY s.tb) rows).ls,an g12 33 (cI s.kd s.ni s.no v1),e9 y v1 s.ls,an g9 28 (iK (cP (bf (bY s.tb) rows)) st a (rows.length:Int)),an g5 23 (ji nodes steps)] [lM]) ?_ ?_
 ·iterate 4 refine ae rfl ?_
  refine aa (cC _ _) ?_;refine ae rfl ?_;refine H.load 0 rfl aE rfl ?_
  iterate 3 refine ae rfl ?_
  refine aa (dY _ _) ?_;refine ae rfl ?_;refine H.load 0 rfl aE rfl ?_;refine ae rfl ?_;refine aa (dY _ _) ?_;refine ae rfl ?_;refine H.load 2 rfl aE rfl ?_
  iterate 2 refine ae rfl ?_
  refine ae (bne_eq_false_iff_eq.2 (by omega)) ?_;refine aa (eP _ _) ?_;refine ae (bne_eq_false_iff_eq.2 (by omega)) ?_;refine H.load 0 rfl aE rfl ?_;refine ae (bne_eq_false_iff_eq.2 (by omega)) ?_;refine aa (eP _ _) ?_;refine ae (bne_eq_false_iff_eq.2 (by omega)) ?_;refine H.load 2 rfl aE rfl ?_
  iterate 3 refine ae (bne_eq_false_iff_eq.2 (by omega)) ?_
  refine aa (dC _ _) ?_;refine ae (bne_eq_false_iff_eq.2 (by omega)) ?_;refine H.load 0 rfl fQ rfl ?_;refine ae (bne_eq_false_iff_eq.2 (by omega)) ?_;refine ay underlying31 ?_;refine ae (bne_eq_false_iff_eq.2 (by omega)) ?_;refine aa (Bs _ _) ?_;refine ae (bne_eq_false_iff_eq.2 (by omega)) ?_;refine H.load 4 rfl aE rfl ?_
  iterate 3 refine ae (bne_eq_false_iff_eq.2 (by omega)) ?_
  exact ⟨(),trivial,H⟩
 clear H;rintro ⟨⟩ u w7 H;generalize hkd:out % s.no=k;have T:k<s.no:=by rw[← hkd];exact Nat.mod_lt _ (by omega)
 refine ak (γ:=Unit) (fun _=>[(18,.int .i64 (k:Int))]) (fun _ w'=>Hp w ab w' [an g15 33 (cI (bf (bY s.tb) rows).kd (bf (bY s.tb) rows).ni (bf (bY s.tb) rows).no (.slice g (bf (bY s.tb) rows).ls.length d2)),e9 z (.slice g (bf (bY s.tb) rows).ls.length d2) (bf (bY s.tb) rows).ls,an g12 33 (cI s.kd s.ni s.no v1),e9 y v1 s.ls,an g9 28 (iK (cP (bf (bY s.tb) rows)) st a (rows.length:Int)),an g5 23 (ji nodes steps)] [lM]) ?_ ?_
 ·refine eF (by kernel_rfl) underlying3 (by omega) (by omega) ?_;refine aa (eP _ _) ?_;refine H.load 2 rfl aE rfl ?_;refine ly (by omega) (by omega) ?_;exact ⟨(),⟨congrArg (Value.int .i64) (by rw[← hkd];exact (Int.natCast_emod out s.no).symm),trivial⟩,H⟩
 clear H;rintro ⟨⟩ u w8 H;refine ak (γ:=Unit) (fun _=>[(19,.bool (l5 s.tb k p)),(20,.bool (lj s.tb k p)),(21,.bool (uY s.tb k p))]) (fun _ w'=>Hp w ab w' [an g15 33 (cI (bf (bY s.tb) rows).kd (bf (bY s.tb) rows).ni (bf (bY s.tb) rows).no (.slice g (bf (bY s.tb) rows).ls.length d2)),e9 z (.slice g (bf (bY s.tb) rows).ls.length d2) (bf (bY s.tb) rows).ls,an g12 33 (cI s.kd s.ni s.no v1),e9 y v1 s.ls,an g9 28 (iK (cP (bf (bY s.tb) rows)) st a (rows.length:Int)),an g5 23 (ji nodes steps)] [lM]) ?_ ?_
 ·refine H.draw eN (by kernel_rfl) ?_;clear H;intro w9 H;refine quiet _ (fun w H=>H.ai 2 rfl eL bw af) ?_;refine quiet _ (fun w H=>eF (by kernel_rfl) underlying3 (by omega) (by omega) af) ?_;refine aj (Ll V p k 1 (by omega) T v1 _ (rN H 3 rfl)) ?_;rintro _ w9a ⟨rfl,f⟩;replace H:=H.same f;clear f;refine ⟨.inl H,?_⟩;refine quiet _ (fun w H=>H.ai 2 rfl eL bw af) ?_;refine quiet _ (fun w H=>eF (by kernel_rfl) underlying3 (by omega) (by omega) af) ?_;refine aj (Ll V p k 0 (by omega) T v1 _ (rN H 3 rfl)) ?_;rintro _ w9b ⟨rfl,f⟩;replace H:=H.same f;clear f;refine ⟨.inl H,?_⟩;refine quiet _ (fun w H=>H.ai 2 rfl eL bw af) ?_;refine quiet _ (fun w H=>eF (by kernel_rfl) underlying3 (by omega) (by omega) af) ?_;refine aj (Ll V p k 2 (by omega) T v1 _ (rN H 3 rfl)) ?_;rintro _ w9c ⟨rfl,f⟩;replace H:=H.same f;clear f;refine ⟨.inl H,?_⟩;exact ⟨(),⟨rfl,rfl,rfl,trivial⟩,H⟩
 clear H;rintro ⟨⟩ u w9 H;have r:lk s.tb k p=(l5 s.tb k p||decide (s.tb.kd=1)&&uY s.tb k p||decide (2≤s.tb.kd)&& !lj s.tb k p):=rfl;have U:s.tb.kd=s.kd:=rfl;refine ak (γ:=Unit) (fun _=>[(22,.bool (lk s.tb k p))]) (fun _ w'=>Hp w ab w' [an g15 33 (cI (bf (bY s.tb) rows).kd (bf (bY s.tb) rows).ni (bf (bY s.tb) rows).no (.slice g (bf (bY s.tb) rows).ls.length d2)),e9 z (.slice g (bf (bY s.tb) rows).ls.length d2) (bf (bY s.tb) rows).ls,an g12 33 (cI s.kd s.ni s.no v1),e9 y v1 s.ls,an g9 28 (iK (cP (bf (bY s.tb) rows)) st a (rows.length:Int)),an g5 23 (ji nodes steps)] [lM]) ?_ ?_
 ·by_cases a2:s.kd=1
  ·have O:¬ 2≤s.kd:=by omega
   rw[U,decide_eq_true a2,decide_eq_false O] at r
   cases h1:l5 s.tb k p <;> cases h0:lj s.tb k p <;> cases h2:uY s.tb k p <;> rw[h1,h0,h2] at r <;> rw[r]
   all_goals skip
   ·refine ae rfl ?_;refine aa (cC _ _) ?_;refine ae rfl ?_;refine H.load 2 rfl aE rfl ?_
    iterate 2 refine ae rfl ?_
    refine ag (beq_iff_eq.2 (by omega)) ?_;refine ae rfl ?_;refine ag (beq_iff_eq.2 (by omega)) ?_
    iterate 2 refine ae rfl ?_
    refine aa (cC _ _) ?_;refine ae rfl ?_;refine H.load 2 rfl aE rfl ?_
    iterate 2 refine ae rfl ?_
    iterate 2 refine ae (decide_eq_false (by omega)) ?_
    refine ae rfl ?_;refine ae (decide_eq_false (by omega)) ?_;refine ae rfl ?_;exact ⟨(),⟨rfl,trivial⟩,H⟩
   ·refine ae rfl ?_;refine aa (cC _ _) ?_;refine ae rfl ?_;refine H.load 2 rfl aE rfl ?_
    iterate 2 refine ae rfl ?_
    refine ag (beq_iff_eq.2 (by omega)) ?_;refine ae rfl ?_;refine ag (beq_iff_eq.2 (by omega)) ?_;refine ae rfl ?_
    iterate 6 refine ag rfl ?_
    exact ⟨(),⟨rfl,trivial⟩,H⟩
   ·refine ae rfl ?_;refine aa (cC _ _) ?_;refine ae rfl ?_;refine H.load 2 rfl aE rfl ?_
    iterate 2 refine ae rfl ?_
    refine ag (beq_iff_eq.2 (by omega)) ?_;refine ae rfl ?_;refine ag (beq_iff_eq.2 (by omega)) ?_
    iterate 2 refine ae rfl ?_
    refine aa (cC _ _) ?_;refine ae rfl ?_;refine H.load 2 rfl aE rfl ?_
    iterate 2 refine ae rfl ?_
    iterate 2 refine ae (decide_eq_false (by omega)) ?_
    refine ae rfl ?_;refine ae (decide_eq_false (by omega)) ?_;refine ae rfl ?_;exact ⟨(),⟨rfl,trivial⟩,H⟩
   ·refine ae rfl ?_;refine aa (cC _ _) ?_;refine ae rfl ?_;refine H.load 2 rfl aE rfl ?_
    iterate 2 refine ae rfl ?_
    refine ag (beq_iff_eq.2 (by omega)) ?_;refine ae rfl ?_;refine ag (beq_iff_eq.2 (by omega)) ?_;refine ae rfl ?_
    iterate 6 refine ag rfl ?_
    exact ⟨(),⟨rfl,trivial⟩,H⟩
   ·iterate 12 refine ag rfl ?_
    exact ⟨(),⟨rfl,trivial⟩,H⟩
   ·iterate 12 refine ag rfl ?_
    exact ⟨(),⟨rfl,trivial⟩,H⟩
   ·iterate 12 refine ag rfl ?_
    exact ⟨(),⟨rfl,trivial⟩,H⟩
   ·iterate 12 refine ag rfl ?_
    exact ⟨(),⟨rfl,trivial⟩,H⟩
  ·by_cases O:2≤s.kd
   ·rw[U,decide_eq_false a2,decide_eq_true O] at r
    cases h1:l5 s.tb k p <;> cases h0:lj s.tb k p <;> rw[h1,h0] at r <;> rw[r]
    all_goals skip
    ·refine ae rfl ?_;refine aa (cC _ _) ?_;refine ae rfl ?_;refine H.load 2 rfl aE rfl ?_
     iterate 2 refine ae rfl ?_
     refine ae (beq_eq_false_iff_ne.2 (by omega)) ?_;refine ae rfl ?_;refine ae (beq_eq_false_iff_ne.2 (by omega)) ?_
     iterate 2 refine ae rfl ?_
     refine aa (cC _ _) ?_;refine ae rfl ?_;refine H.load 2 rfl aE rfl ?_
     iterate 2 refine ae rfl ?_
     iterate 2 refine ag (decide_eq_true (by omega)) ?_
     refine ae rfl ?_;refine ag (decide_eq_true (by omega)) ?_;refine ae rfl ?_;exact ⟨(),⟨rfl,trivial⟩,H⟩
    ·refine ae rfl ?_;refine aa (cC _ _) ?_;refine ae rfl ?_;refine H.load 2 rfl aE rfl ?_
     iterate 2 refine ae rfl ?_
     refine ae (beq_eq_false_iff_ne.2 (by omega)) ?_;refine ae rfl ?_;refine ae (beq_eq_false_iff_ne.2 (by omega)) ?_
     iterate 2 refine ae rfl ?_
     refine aa (cC _ _) ?_;refine ae rfl ?_;refine H.load 2 rfl aE rfl ?_
     iterate 2 refine ae rfl ?_
     iterate 2 refine ag (decide_eq_true (by omega)) ?_
     refine ae rfl ?_;refine ag (decide_eq_true (by omega)) ?_;refine ae rfl ?_;exact ⟨(),⟨rfl,trivial⟩,H⟩
    ·iterate 12 refine ag rfl ?_
     exact ⟨(),⟨rfl,trivial⟩,H⟩
    ·iterate 12 refine ag rfl ?_
     exact ⟨(),⟨rfl,trivial⟩,H⟩
   ·rw[U,decide_eq_false a2,decide_eq_false O] at r
    cases h1:l5 s.tb k p <;> rw[h1] at r <;> rw[r]
    all_goals skip
    ·refine ae rfl ?_;refine aa (cC _ _) ?_;refine ae rfl ?_;refine H.load 2 rfl aE rfl ?_
     iterate 2 refine ae rfl ?_
     refine ae (beq_eq_false_iff_ne.2 (by omega)) ?_;refine ae rfl ?_;refine ae (beq_eq_false_iff_ne.2 (by omega)) ?_
     iterate 2 refine ae rfl ?_
     refine aa (cC _ _) ?_;refine ae rfl ?_;refine H.load 2 rfl aE rfl ?_
     iterate 2 refine ae rfl ?_
     iterate 2 refine ae (decide_eq_false (by omega)) ?_
     refine ae rfl ?_;refine ae (decide_eq_false (by omega)) ?_;refine ae rfl ?_;exact ⟨(),⟨rfl,trivial⟩,H⟩
    ·iterate 12 refine ag rfl ?_
     exact ⟨(),⟨rfl,trivial⟩,H⟩
 clear H r;rintro ⟨⟩ u w10 H;have hmr:fb (bf (bY s.tb) rows).ls p k 1=xB rows p k:=DW p (by rw[xG];exact T);refine ak (γ:=Unit) (fun _=>[(23,.bool (xB rows p k))]) (fun _ w'=>Hp w ab w' [an g15 33 (cI (bf (bY s.tb) rows).kd (bf (bY s.tb) rows).ni (bf (bY s.tb) rows).no (.slice g (bf (bY s.tb) rows).ls.length d2)),e9 z (.slice g (bf (bY s.tb) rows).ls.length d2) (bf (bY s.tb) rows).ls,an g12 33 (cI s.kd s.ni s.no v1),e9 y v1 s.ls,an g9 28 (iK (cP (bf (bY s.tb) rows)) st a (rows.length:Int)),an g5 23 (ji nodes steps)] [lM]) ?_ ?_
 ·refine H.ai 0 rfl eL bw ?_;refine eF (by kernel_rfl) underlying3 (by omega) (by omega) ?_;refine aj (Ll S p k 1 (by omega) (by omega) _ _ (rN H 1 rfl)) ?_;rintro _ w11 ⟨rfl,f⟩;replace H:=H.same f;clear f;rw[hmr];exact ⟨(),⟨rfl,trivial⟩,H⟩
 clear H;rintro ⟨⟩ u w11 H;refine ak (γ:=Nat × Nat) (fun (g24,c24)=>[(24,.slice (some ⟨g24,0,none⟩) 256 c24)]) (fun (g24,c24) w'=>Hp w ab w' [own 4 1 (.slice (some ⟨g24,0,none⟩) 256 c24) 256 (ib (iV s.ni)),an g15 33 (cI (bf (bY s.tb) rows).kd (bf (bY s.tb) rows).ni (bf (bY s.tb) rows).no (.slice g (bf (bY s.tb) rows).ls.length d2)),e9 z (.slice g (bf (bY s.tb) rows).ls.length d2) (bf (bY s.tb) rows).ls,an g12 33 (cI s.kd s.ni s.no v1),e9 y v1 s.ls,an g9 28 (iK (cP (bf (bY s.tb) rows)) st a (rows.length:Int)),an g5 23 (ji nodes steps)] [lM]) ?_ ?_
 ·refine aa (dY _ _) ?_;refine H.load 2 rfl aE rfl ?_;refine aj (N7 s.ni hni8 _) ?_;rintro _ w12 ⟨A,c24,rfl,X⟩;replace H:=H.bq X;obtain ⟨g24,rfl⟩:=H.kM 0 rfl (by omega);exact ⟨(g24,c24),⟨rfl,trivial⟩,H⟩
 clear H;rintro ⟨g24,c24⟩ u w12 H;refine aw (fun w'=>Hp w ab w' [an g15 33 (cI (bf (bY s.tb) rows).kd (bf (bY s.tb) rows).ni (bf (bY s.tb) rows).no (.slice g (bf (bY s.tb) rows).ls.length d2)),e9 z (.slice g (bf (bY s.tb) rows).ls.length d2) (bf (bY s.tb) rows).ls,an g12 33 (cI s.kd s.ni s.no v1),e9 y v1 s.ls,an g9 28 (iK (cP (bf (bY s.tb) rows)) st a (rows.length:Int)),an g5 23 (ji nodes steps)] [lM]) ?_ ?_
 ·refine eF (by kernel_rfl) underlying3 (by omega) (by omega) ?_;refine aq underlying37 (s:=1) (by kernel_rfl) p rfl (by omega) (o':=p) (by omega) ?_;refine H.eJ 0 rfl ym (u:=.bool (decide (p<2^s.ni))) (by simp[ib,iV,hp]) ?_;by_cases a3:p<2^s.ni
  ·obtain ⟨Y,Z⟩:=DX V hc t hcov T a3;rw[decide_eq_true a3]
   cases h1:l5 s.tb k p <;> cases h2:xB rows p k <;> cases h3:lk s.tb k p
   ·iterate 2 refine ag rfl ?_
    iterate 2 refine ae rfl ?_
    refine ag rfl ?_;refine ae rfl ?_;refine ag rfl ?_
    iterate 6 refine ae rfl ?_
    refine ag rfl ?_;refine ae rfl ?_;refine ag rfl ?_;refine ae rfl ?_;exact ⟨(),trivial,H.forget⟩
   ·iterate 2 refine ag rfl ?_
    iterate 2 refine ae rfl ?_
    refine ag rfl ?_;refine ae rfl ?_;refine ag rfl ?_
    iterate 6 refine ae rfl ?_
    refine ag rfl ?_;refine ae rfl ?_;refine ag rfl ?_;refine ae rfl ?_;exact ⟨(),trivial,H.forget⟩
   ·exact absurd (Z h2) (by rw[h3];decide)
   ·iterate 2 refine ag rfl ?_
    iterate 2 refine ae rfl ?_
    refine ag rfl ?_;refine ae rfl ?_;refine ag rfl ?_
    iterate 2 refine ae rfl ?_
    iterate 2 refine ag rfl ?_
    refine ae rfl ?_
    iterate 2 refine ag rfl ?_
    refine ae rfl ?_;refine ag rfl ?_;refine ae rfl ?_;exact ⟨(),trivial,H.forget⟩
   ·exact absurd (Y h1) (by rw[h2];decide)
   ·exact absurd (Y h1) (by rw[h2];decide)
   ·exact absurd (Z h2) (by rw[h3];decide)
   ·iterate 7 refine ag rfl ?_
    iterate 2 refine ae rfl ?_
    iterate 2 refine ag rfl ?_
    refine ae rfl ?_
    iterate 2 refine ag rfl ?_
    refine ae rfl ?_;refine ag rfl ?_;refine ae rfl ?_;exact ⟨(),trivial,H.forget⟩
  ·rw[decide_eq_false a3]
   iterate 7 refine ae rfl ?_
   exact ⟨(),trivial,H.forget⟩
 clear H;rintro ⟨⟩ u w13 H;refine ak (γ:=Nat × Option Addr × Nat × Option Addr × Nat × (Nat→Prop)) (fun (q,_)=>[(25,(ah q))]) (fun (q,Bo,co,Bm,cm,F) w'=>Hp w ab w' [an q 41 (bp (bY s.tb).n (.slice Bo (bY s.tb).on.length co) (.slice Bm (bY s.tb).may.length cm)),nB F (bY s.tb) Bo co Bm cm,an g15 33 (cI (bf (bY s.tb) rows).kd (bf (bY s.tb) rows).ni (bf (bY s.tb) rows).no (.slice g (bf (bY s.tb) rows).ls.length d2)),e9 z (.slice g (bf (bY s.tb) rows).ls.length d2) (bf (bY s.tb) rows).ls,an g12 33 (cI s.kd s.ni s.no v1),e9 y v1 s.ls,an g9 28 (iK (cP (bf (bY s.tb) rows)) st a (rows.length:Int)),an g5 23 (ji nodes steps)] [lM]) ?_ ?_
 ·refine H.ai 2 rfl eL bw ?_;refine aj (c12 V v1 _ (rN H 3 rfl)) ?_;rintro _ w14 (⟨hc',_⟩ | ⟨_,Bo,co,Bm,cm,rfl,F,X⟩)
  ·rw[show dd s.tb s.tb.no=false from hc] at hc';cases hc'
  replace H:=H.bq X;refine H.alloc 41 (cs:=bp 0 (.slice none 0 0) (.slice none 0 0)) uv rfl ?_;clear H;intro q w15 H;refine H.storeAll (cs':=bp s.ni (.slice Bo s.no co) (.slice Bm s.no cm)) 0 rfl bH rfl kp ?_;clear H;intro a4 H;refine ⟨(q,Bo,co,Bm,cm,F),⟨rfl,trivial⟩,?_⟩;have e1:=xG s.tb;have e2:=xH s.tb;show Hp w ab a4 [an q 41 (bp (bY s.tb).n (.slice Bo (bY s.tb).on.length co) (.slice Bm (bY s.tb).may.length cm)),nB F (bY s.tb) Bo co Bm cm,an g15 33 (cI (bf (bY s.tb) rows).kd (bf (bY s.tb) rows).ni (bf (bY s.tb) rows).no (.slice g (bf (bY s.tb) rows).ls.length d2)),e9 z (.slice g (bf (bY s.tb) rows).ls.length d2) (bf (bY s.tb) rows).ls,an g12 33 (cI s.kd s.ni s.no v1),e9 y v1 s.ls,an g9 28 (iK (cP (bf (bY s.tb) rows)) st a (rows.length:Int)),an g5 23 (ji nodes steps)] [lM];rw[e1,e2];exact H
 clear H;rintro ⟨q,Bo,co,Bm,cm,F⟩ u w14 H;refine ak (γ:=Option Addr × Nat) (fun (D,d)=>[(27,.slice D rows.length d)]) (fun (D,d) w'=>Hp w ab w' [own 50 3 (.slice D rows.length d) rows.length (flat bd rows),an q 41 (bp (bY s.tb).n (.slice Bo (bY s.tb).on.length co) (.slice Bm (bY s.tb).may.length cm)),nB F (bY s.tb) Bo co Bm cm,an g15 33 (cI (bf (bY s.tb) rows).kd (bf (bY s.tb) rows).ni (bf (bY s.tb) rows).no (.slice g (bf (bY s.tb) rows).ls.length d2)),e9 z (.slice g (bf (bY s.tb) rows).ls.length d2) (bf (bY s.tb) rows).ls,an g12 33 (cI s.kd s.ni s.no v1),e9 y v1 s.ls,an g9 28 (iK (cP (bf (bY s.tb) rows)) st a (rows.length:Int)),an g5 23 (ji nodes steps)] [lM]) ?_ ?_
 ·have a0:=fun u h=>PJ S (.slice g (bf (bY s.tb) rows).ls.length d2) u h;rw[C,show (bf (bY s.tb) rows).ls.map lZ=rows from Iv t] at a0;refine H.ai 2 rfl eL bw ?_;have hA2:=rN H 3 rfl;rw[C] at hA2 ⊢;refine aj (a0 _ hA2) ?_;rintro _ w15 ⟨D,d,rfl,X⟩;rw[C] at H;replace H:=H.bq X;exact ⟨(D,d),⟨rfl,trivial⟩,H⟩
 clear H;rintro ⟨D,d⟩ u w15 H;refine aw (fun w'=>Hp w ab w' [own 50 3 (.slice D rows.length d) rows.length (flat bd rows),an q 41 (bp (bY s.tb).n (.slice Bo (bY s.tb).on.length co) (.slice Bm (bY s.tb).may.length cm)),nB F (bY s.tb) Bo co Bm cm,an g15 33 (cI (bf (bY s.tb) rows).kd (bf (bY s.tb) rows).ni (bf (bY s.tb) rows).no (.slice g (bf (bY s.tb) rows).ls.length d2)),e9 z (.slice g (bf (bY s.tb) rows).ls.length d2) (bf (bY s.tb) rows).ls,an g12 33 (cI s.kd s.ni s.no v1),e9 y v1 s.ls,an g9 28 (iK (cP (bf (bY s.tb) rows)) st a (rows.length:Int)),an g5 23 (ji nodes steps)] [lM]) ?_ ?_
 ·refine ax (γ:=Nat) (fun i=>[(28,.int .i64 (i:Int))]) (fun i w'=>i≤rows.length∧Hp w ab w' [own 50 3 (.slice D rows.length d) rows.length (flat bd rows),an q 41 (bp (bY s.tb).n (.slice Bo (bY s.tb).on.length co) (.slice Bm (bY s.tb).may.length cm)),nB F (bY s.tb) Bo co Bm cm,an g15 33 (cI (bf (bY s.tb) rows).kd (bf (bY s.tb) rows).ni (bf (bY s.tb) rows).no (.slice g (bf (bY s.tb) rows).ls.length d2)),e9 z (.slice g (bf (bY s.tb) rows).ls.length d2) (bf (bY s.tb) rows).ls,an g12 33 (cI s.kd s.ni s.no v1),e9 y v1 s.ls,an g9 28 (iK (cP (bf (bY s.tb) rows)) st a (rows.length:Int)),an g5 23 (ji nodes steps)] [lM]) (fun i=>rows.length - i) 0 ⟨rfl,trivial⟩ ⟨Nat.zero_le _,H⟩ ?_;clear H;rintro i u a4 ⟨hi,H⟩;refine ay underlying44 ?_;refine au (fun h7=>?_) (fun h7=>?_)
  ·have a5:i<rows.length:=by omega
   obtain ⟨x,hx,hxm⟩:=lU (l:=rows) (j:=i) (by omega);refine aw (fun w'=>Hp w ab w' [own 50 3 (.slice D rows.length d) rows.length (flat bd rows),an q 41 (bp (bY s.tb).n (.slice Bo (bY s.tb).on.length co) (.slice Bm (bY s.tb).may.length cm)),nB F (bY s.tb) Bo co Bm cm,an g15 33 (cI (bf (bY s.tb) rows).kd (bf (bY s.tb) rows).ni (bf (bY s.tb) rows).no (.slice g (bf (bY s.tb) rows).ls.length d2)),e9 z (.slice g (bf (bY s.tb) rows).ls.length d2) (bf (bY s.tb) rows).ls,an g12 33 (cI s.kd s.ni s.no v1),e9 y v1 s.ls,an g9 28 (iK (cP (bf (bY s.tb) rows)) st a (rows.length:Int)),an g5 23 (ji nodes steps)] [lM]) ?_ ?_
   ·obtain ⟨gD,rfl⟩:=H.kM 0 rfl (by omega);refine H.draw eN (by kernel_rfl) ?_;clear H;intro w17 H;refine quiet _ (fun w H=>aa (Br _ _) af) ?_;refine quiet _ (fun w H=>H.load 7 rfl aE rfl af) ?_;by_cases E:st=1
    ·have hpr:=DY hM E x hxm;have Q:=t x hxm;have a1:=fun u h=>OY hS x.1 x.2.1 x.2.2 Q.m Q.v Q.o Bo co Bm cm u h;rw[(pQ hS Q.m Q.v Q.o).2 (hpr.qz hS)] at a1;have hc15:=fun u h=>PI hS x.1 x.2.1 x.2.2 hpr Bo co Bm cm u h;refine ag (beq_iff_eq.2 E) ?_;refine quiet _ (fun w H=>H.ai 1 rfl dz bH af) ?_
     iterate 3 refine ag (beq_iff_eq.2 E) ?_
     refine quiet _ (fun w H=>aq underlying44 aX i rfl a5 (o':=0+i*3) rfl af) ?_;refine ag (beq_iff_eq.2 E) ?_;refine quiet (mA x.1 x.2.1 x.2.2) (fun w H=>H.eE 0 rfl bR fo aX i (Nat.zero_add _) hx af) ?_;refine ag (beq_iff_eq.2 E) ?_;refine aj (a1 _ (GJ H 2 rfl)) ?_;rintro _ w29 ⟨rfl,f⟩;replace H:=H.same f;clear f;refine ⟨.inl H,?_⟩
     iterate 2 refine ag (beq_iff_eq.2 E) ?_
     refine ae rfl ?_;refine quiet _ (fun w H=>H.ai 1 rfl dz bH af) ?_
     iterate 3 refine ae rfl ?_
     refine quiet _ (fun w H=>aq underlying44 aX i rfl a5 (o':=0+i*3) rfl af) ?_;refine ae rfl ?_;refine quiet (mA x.1 x.2.1 x.2.2) (fun w H=>H.eE 0 rfl bR fo aX i (Nat.zero_add _) hx af) ?_;refine ae rfl ?_;refine aj (hc15 _ (GJ H 2 rfl)) ?_;rintro _ w42 ⟨rfl,f⟩;replace H:=H.same f;clear f;refine ⟨.inl H,?_⟩
     iterate 3 refine ae rfl ?_
     refine quiet _ (fun w H=>aq underlying44 aX i rfl a5 (o':=0+i*3) rfl af) ?_;refine ae rfl ?_;refine quiet (mA x.1 x.2.1 x.2.2) (fun w H=>H.eE 0 rfl bR fo aX i (Nat.zero_add _) hx af) ?_;refine ae rfl ?_;refine quiet _ (fun w H=>NS af) ?_;refine ag (beq_iff_eq.2 (by assumption)) ?_;refine ae rfl ?_;refine ag (beq_iff_eq.2 (by assumption)) ?_;refine ae rfl ?_;exact ⟨(),trivial,H⟩
    ·iterate 10 refine ae (beq_eq_false_iff_ne.2 E) ?_
     refine ae rfl ?_;exact ⟨(),trivial,H⟩
   ·clear H;rintro ⟨⟩ u w17 H;exact ⟨i+1,by show rows.length - (i+1)<rows.length - i;omega,⟨up (by omega),trivial⟩,by show i+1≤rows.length;omega,H⟩
  ·exact ⟨(),trivial,H⟩
 clear H;rintro ⟨⟩ u a4 H;refine aj (c7 _ (H.ro 0 rfl)) ?_;rintro _ w17 ⟨rfl,f⟩;replace H:=H.same f;exact ⟨rfl,H.keeps⟩
end Go.Proofs.YtpjihhgjbbihkaaGreatDoor
namespace Go.Dk
open Go.ChangeShapes Go.WideShapes Go.ChangeAt Go.RowKit
section
variable {H:Type} {enc:TypeId × Value→H}
theorem xL {a:Assume}{C:Checked}{os:Os}{f:FuncId}{fn:Func}{s:ChangeSpec}{conds:List PathCond}{apart fresh handsOn again:Bool}{X:World→Array Value→Prop}(r:∀ (w w':World) (args:Array Value),w.heap=w'.heap→X w args→X w' args)(own:ownKnob C.prog.godebug=none)(started:os.Started)(c:C.prog.inits.idxOf? f=none)(k:C.prog.funcs[f]?=some fn)(witness:∃ (w:World) (tape:Tape) (i:Input),w.os=os∧(w.forCall tape i).Shaped C.prog∧i.vars=[]∧Input.okWide C.prog (w.forCall tape i) .any w.heap.size f i∧((s.pre enc C.prog fn conds apart (w.forCall tape i).memory i.args∧X (w.forCall tape i).memory i.args)∧sizedMet enc C.prog fn (OpenSpec.ofChange s) apart (w.forCall tape i).memory i.args)∧a.holds C.prog (lone (Frame.enter C.prog f i.args .normal) [] (w.forCall tape i)))(b:∀ (W:World) (base:Nat) (args:Array Value) (l gs:List (DataW H)) (before:List MemPlace),
   (∀ (j:Nat) t v,fn.params[j]?=some t→args[j]?=some v→Value.okWide C.prog W .any base t v)→
   DataW.Whole enc C.prog fn.params.toList s.vars apart W args.toList l gs before→X W args→W.ShapedOpen C.prog→
   Calls C.prog f args W fun e q=>∃ v,e=.returned v∧s.post enc C.prog fn apart fresh handsOn again W args v q) :
  ReturnsInHanded a C os f .any (fun w args=>(s.pre enc C.prog fn conds apart w args∧X w args)∧sizedMet enc C.prog fn (OpenSpec.ofChange s) apart w args) (s.post enc C.prog fn apart fresh handsOn again):=by
 refine returnsInHanded_of_calls own started c witness ?_;intro w tape i _ m _ n d _;obtain ⟨_,_,_,o,g,_,_,_,_,h⟩:=n;have e:o=fn:=Option.some.inj (g.symm.trans k);subst e;obtain ⟨⟨⟨l,gs,before,hw,y⟩,u⟩,z⟩:=d;have p:=DataW.Whole.of_heap (w':=w.forCall tape i) (by rfl) hw;refine (b (w.forCall tape i) w.heap.size i.args l gs before h p (r _ _ _ (by rfl) u) m).mono fun e q ⟨v,he,x⟩=>?_;subst he;exact ChangeSpec.post_blind x
end
end Go.Dk
namespace Go.Proofs.YtpjihhgjbbihkaaGreatDoor
open Go.Proofs.Tryz
open Go.Dk Go.ChangeShapes Go.WideShapes Go.ChangeAt Go.RowKit
set_option maxRecDepth 100000
abbrev oq:List (String × DataW Unit):=Rows.topCoversRow.laid
theorem O3 {H:Type}:(Rows.laid_internal_strconv_uint64pow10:DataW H)=Lib.tabData .u64 Lib.pow10Tab:=by kernel_rfl
theorem GK (u : TypeId) (h : Tryz.prog.typeName? 3 u = some "*errors.errorString") : u = 284 :=
 typeName_ptr_named (nm := "errors.errorString") (by kernel_rfl) (by kernel_rfl) (by decide) u h
theorem NT {W:World}(h0:laidMetH prog oq W)(hsh:W.ShapedOpen prog):jD W:=by
 have h:laidMet prog oq W:=by
  rw[MakeChecks.laidMetH_plain _ _ _ (by kernel_rfl)] at h0;exact h0
 have h2 : laidMet prog (("internal/strconv.uint64pow10", Lib.tabData .u64 Lib.pow10Tab) :: oq.drop 3) W := by
  rw[← O3];exact h.tail.tail
 obtain ⟨a1,_,hr,_⟩:=laid_sentinel (g:=5) h.tail.tail.tail.tail (by kernel_rfl) (by kernel_rfl) underlying155 GK underlying284 underlying286 rfl rfl underlying9 (by kernel_rfl) (by kernel_rfl);obtain ⟨a2,_,hs,_⟩:=laid_sentinel (g:=4) h.tail.tail.tail.tail.tail (by kernel_rfl) (by kernel_rfl) underlying155 GK underlying284 underlying286 rfl rfl underlying9 (by kernel_rfl) (by kernel_rfl);exact ⟨cell_of_shapedOpen_int (P:=prog) (g:=0) (t:=3) (zero:=#[.int .i64 0]) hsh (of_decide_eq_true (by kernel_rfl)) (by kernel_rfl) rfl (by kernel_rfl) (by kernel_rfl) underlying3,
  ⟨_,_,hs⟩,⟨_,_,hr⟩,Lib.tabIs_of_head (g:=1) (by kernel_rfl) (by kernel_rfl) (by kernel_rfl:Tryz.prog.underlying 257=some (.array 20 81)) (by kernel_rfl) (by kernel_rfl) (by kernel_rfl) h2⟩
theorem IN {g:FuncId}{f:Func}{s:ChangeSpec}(os:Os)(started:os.Started)(H:Type)(enc:TypeId × Value→H)(k:Tryz.checked.prog.inits.idxOf? g=none)(S:Tryz.checked.prog.funcs[g]?=some f)(y:(f.params.toList.all fun t=>Tryz.checked.prog.readableRec t&&decide (t<Tryz.checked.prog.types.size))=true)(z:f.resultTypes=#[4])(c:s.vars=[])(l:∀ a:List (DataW H),a.length=f.params.size→s.fn H a={ results:=[.lit (.bool true)],args:=a })(witness:∃ (w:World) (tape:Tape) (i:Input),w.os=os∧(w.forCall tape i).Shaped Tryz.checked.prog∧i.vars=[]∧Input.okWide Tryz.checked.prog (w.forCall tape i) .any w.heap.size g i∧((s.pre enc Tryz.checked.prog f [] false (w.forCall tape i).memory i.args∧laidMetH prog oq (w.forCall tape i).memory)∧sizedMet enc Tryz.checked.prog f (OpenSpec.ofChange s) false (w.forCall tape i).memory i.args)∧({}:Assume).holds Tryz.checked.prog (lone (Frame.enter Tryz.checked.prog g i.args .normal) [] (w.forCall tape i)))(m:∀ (W:World) (args:Array Value),EA Tryz.checked.prog f W args→jD W→Calls Tryz.checked.prog g args W fun e A=>e=.returned (.bool true)∧aT W A) :
  ReturnsInHanded {} Tryz.checked os g .any (fun w args=>(s.pre enc Tryz.checked.prog f [] false w args∧laidMetH prog oq w)∧sizedMet enc Tryz.checked.prog f (OpenSpec.ofChange s) false w args) (s.post enc Tryz.checked.prog f false true false false):=by
 have j:∀ t ∈ f.params.toList,Tryz.checked.prog.readableRec t=true∧t<Tryz.checked.prog.types.size:=fun t T=>by
  have:=List.all_eq_true.1 y t T;simpa using this
 refine xL (C:=Tryz.checked) (X:=fun w _=>laidMetH prog oq w) (fun _ _ _ U h=>h.of_heap U) (by kernel_rfl) started k S witness ?_;intro W base args a gs before B M V I;have Y:=NT V I;have D:=M;obtain ⟨p,q,J,N,rfl,Z,a0⟩:=M;rw[c] at N;obtain ⟨rfl,rfl⟩:=trodVars_none N;have hlen:a.length=f.params.size:=by
  have:∀ (E:List TypeId) (G:List Value) (a:List (DataW H)) (K:List MemPlace) ,DataW.TrodAll enc Tryz.checked.prog W 0 (fun _=>true) true E G a K→a.length=E.length:=by
   intro E
   induction E with
   | nil=>intro G a K h;obtain ⟨_,rfl,_⟩:=trodAll_nil h;rfl
   | cons t E ih=>intro G a K h;obtain ⟨v,G,d,a,p,q,rfl,rfl,rfl,_,h2⟩:=trodAll_cons h;simp[ih _ _ _ h2]
  simpa using this _ _ _ _ J
 have n:s.fn H (a++[])={ results:=[.lit (.bool true)],args:=a }:=by rw[List.append_nil];exact l a hlen
 refine (m W args ⟨⟨base,B⟩,H,enc,a,p,J⟩ Y).mono fun e A ⟨he,O⟩=>?_;subst he;have F:∀ x ∈ p,x.block<W.heap.size:=fun x u=>D.lt x (by simp[u]);have reads:∀ sp:Nat→Bool,(∀ x ∈ p,sp x.block=true)→DataW.TrodAll enc Tryz.checked.prog A 0 sp true f.params.toList args.toList a p:=
  fun sp hs=>uR laidOut O.below _ _ _ _ j J F hs
 have answer:∀ (b:Nat) (sp:Nat→Bool) (Q:Bool),DataW.TrodAll enc Tryz.checked.prog A b sp Q f.resultTypes.toList ((Value.bool true).resultList f.resultTypes.size) [.lit (.bool true)] []:=fun b sp Q=>by
  rw[z];exact trodAll_cons_mk (p:=[]) (shut_bool underlying4 _) trodAll_mk0
 have o:∀ sp:Nat→Bool,DataW.TrodVars enc Tryz.checked.prog A sp s.vars [] []:=fun sp=>by rw[c];exact rfl
 have r:∀ x ∈ p,decide (x.block<W.heap.size)=true:=fun x u=>decide_eq_true (F x u);refine ⟨_,rfl,a,[],p++[],[],p,[],D,?_,?_,?_,?_,fun again=>by cases again⟩
 ·rw[n];exact answer _ _ _
 ·rw[n];exact reads _ r
 ·rw[n];exact o _
 ·exact World.keptBut_mono (fun x u=>⟨u,Or.inr (by simpa using u)⟩) (O.below.frame (· ∈ p++[]))
theorem IP (os:Os)(args:Array Value):((World.laidAll prog os oq).forCall (fun _ _=>0) ⟨#[],args,[]⟩).Shaped prog:=World.shaped_of_ZipB (by kernel_rfl) (by kernel_rfl)
theorem O4 (os:Os)(args:Array Value):laidMetH prog oq ((World.laidAll prog os oq).forCall (fun _ _=>0) ⟨#[],args,[]⟩).memory:=by
 rw[MakeChecks.laidMetH_plain _ _ _ (by kernel_rfl)];exact laidMet_laidAll _ (by kernel_rfl) (by kernel_rfl)
open Go.ChangeMaps
section
variable {H:Type} {enc:TypeId × Value→H} {w:World} {base b:Nat} {spare:Nat→Bool} {held:Bool}
theorem IQ:Tryz.prog.cellsOf 23=2:=by kernel_rfl
theorem Bt {v:Value}{d:DataW H}{g:List MemPlace}(a:Value.okWide prog w .any b 23 v)(h:DataW.Trod enc prog w base spare held 23 v d g):∃ n s:Int,v=D4 n s:=by
 unfold Value.okWide at a;rw[underlying23] at a;obtain ⟨⟨cs⟩,rfl,i,_⟩:=a;obtain ⟨fuel,j⟩:=h;obtain ⟨o,p,n,_,f,c,e⟩:=trod_struct2 underlying23 j;rw[IQ] at f;rw[JL] at c e
 match cs,f,c,e with
 | [c0,c1],_,c,e=>
  obtain ⟨m,_,e0⟩:=EU c;obtain ⟨s,_,k⟩:=EU e;have k0:c0=Value.int .i64 m:=(List.cons.inj e0).1;have l:c1=Value.int .i64 s:=(List.cons.inj k).1;exact ⟨m,s,by rw[k0,l];rfl⟩
end
end Go.Proofs.YtpjihhgjbbihkaaGreatDoor
