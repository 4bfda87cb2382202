import Derived.Test.YtpjihhgjbbihkaaGreatDoorPart4
namespace Go.Proofs.YtpjihhgjbbihkaaGreatDoor
open Go.Proofs.Tryz
open Go.Dk
set_option maxRecDepth 100000
attribute [local irreducible] IntKind.wrap
def Lr:Array Value:=#[pC 79,.bool false,pC 80,.bool false,pC 77,.bool true,pC 77,.bool true]
theorem K6:cP prog 108=some true:=by kernel_rfl
theorem Ca:bE prog 108=some 8:=by kernel_rfl
theorem HW:eL prog 108=some (.agg #[.nilFunc,.bool false,.nilFunc,.bool false,.nilFunc,.bool false,.nilFunc,.bool false]):=by kernel_rfl
theorem Cb:bE prog 107=some 2:=by kernel_rfl
theorem Cc:eL prog 107=some (.agg #[.nilFunc,.bool false]):=by kernel_rfl
theorem K7:cP prog 105=some false:=by kernel_rfl
theorem HX:∀ u ∈ Lr.toList,u.oneCell'=true:=by
 intro u hu;simp[Lr] at hu;rcases hu with rfl | rfl | rfl | rfl | rfl | rfl | rfl | rfl <;> rfl
theorem FO {g:Nat}{b:Bool}{k:Value→World→Prop}{w:World}(h:k (.agg #[pC g,.bool b]) w):b8 prog 107 [(0,.func (.func g) #[] #[]),(1,.bool b)] w k:=bt (fun w=>by kernel_rfl) h
theorem FP {k:Value→World→Prop}{w:World}(h:k (.agg Lr) w):b8 prog 108 [(0,.agg #[pC 79,.bool false]),(1,.agg #[pC 80,.bool false]),(2,.agg #[pC 77,.bool true]),(3,.agg #[pC 77,.bool true])] w k:=bt (fun w=>by kernel_rfl) h
theorem MR:enters prog 51=true:=by kernel_rfl
theorem c51 (w:World):bw prog 51 [] w fun r w'=>r=.agg Lr∧aT w w':=by
 refine ar (N:=9) func51 MR rfl rfl rfl (by simp) ?_;have H:=Hp.aC w;refine H.alloc 108 (cs:=#[.nilFunc,.bool false,.nilFunc,.bool false,.nilFunc,.bool false,.nilFunc,.bool false]) HW rfl ?_;clear H;intro g0 a H
 iterate 4 refine FO ?_
 refine FP ?_;refine H.storeAll (cs':=Lr) 0 rfl Ca rfl HX ?_;clear H;intro b H;refine H.ai 0 rfl K6 Ca ?_;exact ⟨rfl,rfl,H.keeps⟩
theorem MS:enters prog 77=true:=by kernel_rfl
theorem Pc (a on off c:Nat)(d:a<2^256)(w:World):bw prog 77 [sv a,sv on,sv off,sv c] w fun v w'=>v=sv (bU a off)∧aT w w':=by
 refine ar (N:=12) func77 MS rfl rfl rfl (by simp) ?_;have H:=Hp.aC w;refine H.box 86 (sv _) (cs:=sc _) rfl ?_;clear H;intro g1 e H;refine H.box 86 (sv _) (cs:=sc _) rfl ?_;clear H;intro g2 f H;refine H.box 86 (sv _) (cs:=sc _) rfl ?_;clear H;intro g3 g H;refine H.box 86 (sv _) (cs:=sc _) rfl ?_;clear H;intro g4 h H;refine H.alloc 86 (cs:=sc 0) br aY ?_;clear H;intro g5 i H;refine H.ai 4 rfl aD av ?_;refine H.ai 2 rfl aD av ?_;refine aj (ND _ _ d _) ?_;rintro _ j ⟨rfl,b⟩;replace H:=H.same b;clear b;refine H.aW 0 rfl ?_;clear H;intro k H;refine H.ai 0 rfl aD av ?_;refine ⟨rfl,?_⟩;exact ⟨rfl,H.keeps⟩
theorem MT:enters prog 79=true:=by kernel_rfl
theorem Pd (a on off b:Nat)(w:World):bw prog 79 [sv a,sv on,sv off,sv b] w fun v w'=>v=sv on∧aT w w':=by
 refine ar (N:=10) func79 MT rfl rfl rfl (by simp) ?_;have H:=Hp.aC w;refine H.box 86 (sv _) (cs:=sc _) rfl ?_;clear H;intro g1 c H;refine H.box 86 (sv _) (cs:=sc _) rfl ?_;clear H;intro g2 d H;refine H.box 86 (sv _) (cs:=sc _) rfl ?_;clear H;intro g3 e H;refine H.box 86 (sv _) (cs:=sc _) rfl ?_;clear H;intro g4 f H;refine H.alloc 86 (cs:=sc 0) br aY ?_;clear H;intro g5 g H;refine H.ai 3 rfl aD av ?_;refine H.aW 0 rfl ?_;clear H;intro h H;refine H.ai 0 rfl aD av ?_;refine ⟨rfl,?_⟩;exact ⟨rfl,H.keeps⟩
theorem MU:enters prog 80=true:=by kernel_rfl
theorem c80 (c on off a:Nat)(w:World):bw prog 80 [sv c,sv on,sv off,sv a] w fun v w'=>v=sv (on |||a)∧aT w w':=by
 refine ar (N:=12) func80 MU rfl rfl rfl (by simp) ?_;have H:=Hp.aC w;refine H.box 86 (sv _) (cs:=sc _) rfl ?_;clear H;intro g1 d H;refine H.box 86 (sv _) (cs:=sc _) rfl ?_;clear H;intro g2 e H;refine H.box 86 (sv _) (cs:=sc _) rfl ?_;clear H;intro g3 f H;refine H.box 86 (sv _) (cs:=sc _) rfl ?_;clear H;intro g4 g H;refine H.alloc 86 (cs:=sc 0) br aY ?_;clear H;intro g5 h H;refine H.ai 3 rfl aD av ?_;refine H.ai 1 rfl aD av ?_;refine aj (LF _ _ _) ?_;rintro _ i ⟨rfl,b⟩;replace H:=H.same b;clear b;refine H.aW 0 rfl ?_;clear H;intro j H;refine H.ai 0 rfl aD av ?_;refine ⟨rfl,?_⟩;exact ⟨rfl,H.keeps⟩
end Go.Proofs.YtpjihhgjbbihkaaGreatDoor
namespace Go.Dk
def my (t:Tb)(j:Nat):Nat:=gf t j 1 t.ls.length
def uc (t:Tb)(j:Nat):Nat:=gf t j 0 t.ls.length
def ud (t:Tb)(j:Nat):Nat:=gf t j 2 t.ls.length
def iv (t:Tb)(j:Nat):Nat:=if t.kd=0 then my t j else if t.kd=1 then my t j |||ud t j else bU (bp t.ni) (uc t j)
def jH (f:Nat→Nat)(k:Nat):List Nat:=(List.range k).map f
theorem nX (f:Nat→Nat)(k:Nat):jH f (k+1)=jH f k++[f k]:=by unfold jH;rw[List.range_succ,List.map_append];rfl
theorem eD (f:Nat→Nat)(k:Nat):(jH f k).length=k:=by simp[jH]
def fm (t:Tb):dX:=⟨t.ni,jH (my t) t.no,jH (iv t) t.no⟩
def kZ (t:Tb)(j:Nat):Bool:=decide (2≤t.kd)&&(my t j &&&uc t j !=0)
def cU (t:Tb)(k:Nat):Bool:=(List.range k).any (kZ t)
theorem r7 (t:Tb)(k:Nat):cU t (k+1)=(cU t k||kZ t k):=by unfold cU;rw[List.range_succ,List.any_append];simp
end Go.Dk
namespace Go.Proofs.YtpjihhgjbbihkaaGreatDoor
open Go.Proofs.Tryz
open Go.Dk
set_option maxRecDepth 100000
attribute [local irreducible] IntKind.wrap
def y8:List (List Nat × List Nat):=[([2,5,8,9,10,11,12,13,14],[0,1,3,4,6,7,2,5,8,9,10,11,12,13,14]),([2,5,8,9,11,10,12,13,14],[0,1,3,4,6,7,2,5,8,9,11,10,12,13,14]),([2,5,8,10,9,11,12,13,14],[0,1,3,4,6,7,2,5,8,10,9,11,12,13,14]),([2,5,8,10,11,9,12,13,14],[0,1,3,4,6,7,2,5,8,10,11,9,12,13,14]),([2,5,8,11,9,10,12,13,14],[0,1,3,4,6,7,2,5,8,11,9,10,12,13,14]),([2,5,8,11,10,9,12,13,14],[0,1,3,4,6,7,2,5,8,11,10,9,12,13,14]),([2,5,9,8,10,11,12,13,14],[0,1,3,4,6,7,2,5,9,8,10,11,12,13,14]),([2,5,9,8,11,10,12,13,14],[0,1,3,4,6,7,2,5,9,8,11,10,12,13,14]),([2,5,9,10,8,11,12,13,14],[0,1,3,4,6,7,2,5,9,10,8,11,12,13,14]),([2,5,9,10,11,8,12,13,14],[0,1,3,4,6,7,2,5,9,10,11,8,12,13,14]),([2,5,9,11,8,10,12,13,14],[0,1,3,4,6,7,2,5,9,11,8,10,12,13,14]),([2,5,9,11,10,8,12,13,14],[0,1,3,4,6,7,2,5,9,11,10,8,12,13,14]),([2,5,10,8,9,11,12,13,14],[0,1,3,4,6,7,2,5,10,8,9,11,12,13,14]),([2,5,10,8,11,9,12,13,14],[0,1,3,4,6,7,2,5,10,8,11,9,12,13,14]),([2,5,10,9,8,11,12,13,14],[0,1,3,4,6,7,2,5,10,9,8,11,12,13,14]),([2,5,10,9,11,8,12,13,14],[0,1,3,4,6,7,2,5,10,9,11,8,12,13,14]),([2,5,10,11,8,9,12,13,14],[0,1,3,4,6,7,2,5,10,11,8,9,12,13,14]),([2,5,10,11,9,8,12,13,14],[0,1,3,4,6,7,2,5,10,11,9,8,12,13,14]),([2,5,11,8,9,10,12,13,14],[0,1,3,4,6,7,2,5,11,8,9,10,12,13,14]),([2,5,11,8,10,9,12,13,14],[0,1,3,4,6,7,2,5,11,8,10,9,12,13,14]),([2,5,11,9,8,10,12,13,14],[0,1,3,4,6,7,2,5,11,9,8,10,12,13,14]),([2,5,11,9,10,8,12,13,14],[0,1,3,4,6,7,2,5,11,9,10,8,12,13,14]),([2,5,11,10,8,9,12,13,14],[0,1,3,4,6,7,2,5,11,10,8,9,12,13,14]),([2,5,11,10,9,8,12,13,14],[0,1,3,4,6,7,2,5,11,10,9,8,12,13,14]),([2,9,5,8,10,11,12,13,14],[0,1,3,4,6,7,2,9,5,8,10,11,12,13,14]),([2,9,5,8,11,10,12,13,14],[0,1,3,4,6,7,2,9,5,8,11,10,12,13,14]),([2,9,5,10,8,11,12,13,14],[0,1,3,4,6,7,2,9,5,10,8,11,12,13,14]),([2,9,5,10,11,8,12,13,14],[0,1,3,4,6,7,2,9,5,10,11,8,12,13,14]),([2,9,5,11,8,10,12,13,14],[0,1,3,4,6,7,2,9,5,11,8,10,12,13,14]),([2,9,5,11,10,8,12,13,14],[0,1,3,4,6,7,2,9,5,11,10,8,12,13,14]),([2,9,10,5,8,11,12,13,14],[0,1,3,4,6,7,2,9,10,5,8,11,12,13,14]),([2,9,10,5,11,8,12,13,14],[0,1,3,4,6,7,2,9,10,5,11,8,12,13,14]),([2,9,10,11,5,8,12,13,14],[0,1,3,4,6,7,2,9,10,11,5,8,12,13,14]),([2,9,11,5,8,10,12,13,14],[0,1,3,4,6,7,2,9,11,5,8,10,12,13,14]),([2,9,11,5,10,8,12,13,14],[0,1,3,4,6,7,2,9,11,5,10,8,12,13,14]),([2,9,11,10,5,8,12,13,14],[0,1,3,4,6,7,2,9,11,10,5,8,12,13,14]),([2,10,5,8,9,11,12,13,14],[0,1,3,4,6,7,2,10,5,8,9,11,12,13,14]),([2,10,5,8,11,9,12,13,14],[0,1,3,4,6,7,2,10,5,8,11,9,12,13,14]),([2,10,5,9,8,11,12,13,14],[0,1,3,4,6,7,2,10,5,9,8,11,12,13,14]),([2,10,5,9,11,8,12,13,14],[0,1,3,4,6,7,2,10,5,9,11,8,12,13,14]),([2,10,5,11,8,9,12,13,14],[0,1,3,4,6,7,2,10,5,11,8,9,12,13,14]),([2,10,5,11,9,8,12,13,14],[0,1,3,4,6,7,2,10,5,11,9,8,12,13,14]),([2,10,9,5,8,11,12,13,14],[0,1,3,4,6,7,2,10,9,5,8,11,12,13,14]),([2,10,9,5,11,8,12,13,14],[0,1,3,4,6,7,2,10,9,5,11,8,12,13,14]),([2,10,9,11,5,8,12,13,14],[0,1,3,4,6,7,2,10,9,11,5,8,12,13,14]),([2,10,11,5,8,9,12,13,14],[0,1,3,4,6,7,2,10,11,5,8,9,12,13,14]),([2,10,11,5,9,8,12,13,14],[0,1,3,4,6,7,2,10,11,5,9,8,12,13,14]),([2,10,11,9,5,8,12,13,14],[0,1,3,4,6,7,2,10,11,9,5,8,12,13,14]),([2,11,5,8,9,10,12,13,14],[0,1,3,4,6,7,2,11,5,8,9,10,12,13,14]),([2,11,5,8,10,9,12,13,14],[0,1,3,4,6,7,2,11,5,8,10,9,12,13,14]),([2,11,5,9,8,10,12,13,14],[0,1,3,4,6,7,2,11,5,9,8,10,12,13,14]),([2,11,5,9,10,8,12,13,14],[0,1,3,4,6,7,2,11,5,9,10,8,12,13,14]),([2,11,5,10,8,9,12,13,14],[0,1,3,4,6,7,2,11,5,10,8,9,12,13,14]),([2,11,5,10,9,8,12,13,14],[0,1,3,4,6,7,2,11,5,10,9,8,12,13,14]),([2,11,9,5,8,10,12,13,14],[0,1,3,4,6,7,2,11,9,5,8,10,12,13,14]),([2,11,9,5,10,8,12,13,14],[0,1,3,4,6,7,2,11,9,5,10,8,12,13,14]),([2,11,9,10,5,8,12,13,14],[0,1,3,4,6,7,2,11,9,10,5,8,12,13,14]),([2,11,10,5,8,9,12,13,14],[0,1,3,4,6,7,2,11,10,5,8,9,12,13,14]),([2,11,10,5,9,8,12,13,14],[0,1,3,4,6,7,2,11,10,5,9,8,12,13,14]),([2,11,10,9,5,8,12,13,14],[0,1,3,4,6,7,2,11,10,9,5,8,12,13,14]),([9,2,5,8,10,11,12,13,14],[0,1,3,4,6,7,9,2,5,8,10,11,12,13,14]),([9,2,5,8,11,10,12,13,14],[0,1,3,4,6,7,9,2,5,8,11,10,12,13,14]),([9,2,5,10,8,11,12,13,14],[0,1,3,4,6,7,9,2,5,10,8,11,12,13,14]),([9,2,5,10,11,8,12,13,14],[0,1,3,4,6,7,9,2,5,10,11,8,12,13,14]),([9,2,5,11,8,10,12,13,14],[0,1,3,4,6,7,9,2,5,11,8,10,12,13,14]),([9,2,5,11,10,8,12,13,14],[0,1,3,4,6,7,9,2,5,11,10,8,12,13,14]),([9,2,10,5,8,11,12,13,14],[0,1,3,4,6,7,9,2,10,5,8,11,12,13,14]),([9,2,10,5,11,8,12,13,14],[0,1,3,4,6,7,9,2,10,5,11,8,12,13,14]),([9,2,10,11,5,8,12,13,14],[0,1,3,4,6,7,9,2,10,11,5,8,12,13,14]),([9,2,11,5,8,10,12,13,14],[0,1,3,4,6,7,9,2,11,5,8,10,12,13,14]),([9,2,11,5,10,8,12,13,14],[0,1,3,4,6,7,9,2,11,5,10,8,12,13,14]),([9,2,11,10,5,8,12,13,14],[0,1,3,4,6,7,9,2,11,10,5,8,12,13,14]),([9,10,2,5,8,11,12,13,14],[0,1,3,4,6,7,9,10,2,5,8,11,12,13,14]),([9,10,2,5,11,8,12,13,14],[0,1,3,4,6,7,9,10,2,5,11,8,12,13,14]),([9,10,2,11,5,8,12,13,14],[0,1,3,4,6,7,9,10,2,11,5,8,12,13,14]),([9,10,11,2,5,8,12,13,14],[0,1,3,4,6,7,9,10,11,2,5,8,12,13,14]),([9,11,2,5,8,10,12,13,14],[0,1,3,4,6,7,9,11,2,5,8,10,12,13,14]),([9,11,2,5,10,8,12,13,14],[0,1,3,4,6,7,9,11,2,5,10,8,12,13,14]),([9,11,2,10,5,8,12,13,14],[0,1,3,4,6,7,9,11,2,10,5,8,12,13,14]),([9,11,10,2,5,8,12,13,14],[0,1,3,4,6,7,9,11,10,2,5,8,12,13,14]),([10,2,5,8,9,11,12,13,14],[0,1,3,4,6,7,10,2,5,8,9,11,12,13,14]),([10,2,5,8,11,9,12,13,14],[0,1,3,4,6,7,10,2,5,8,11,9,12,13,14]),([10,2,5,9,8,11,12,13,14],[0,1,3,4,6,7,10,2,5,9,8,11,12,13,14]),([10,2,5,9,11,8,12,13,14],[0,1,3,4,6,7,10,2,5,9,11,8,12,13,14]),([10,2,5,11,8,9,12,13,14],[0,1,3,4,6,7,10,2,5,11,8,9,12,13,14]),([10,2,5,11,9,8,12,13,14],[0,1,3,4,6,7,10,2,5,11,9,8,12,13,14]),([10,2,9,5,8,11,12,13,14],[0,1,3,4,6,7,10,2,9,5,8,11,12,13,14]),([10,2,9,5,11,8,12,13,14],[0,1,3,4,6,7,10,2,9,5,11,8,12,13,14]),([10,2,9,11,5,8,12,13,14],[0,1,3,4,6,7,10,2,9,11,5,8,12,13,14]),([10,2,11,5,8,9,12,13,14],[0,1,3,4,6,7,10,2,11,5,8,9,12,13,14]),([10,2,11,5,9,8,12,13,14],[0,1,3,4,6,7,10,2,11,5,9,8,12,13,14]),([10,2,11,9,5,8,12,13,14],[0,1,3,4,6,7,10,2,11,9,5,8,12,13,14]),([10,9,2,5,8,11,12,13,14],[0,1,3,4,6,7,10,9,2,5,8,11,12,13,14]),([10,9,2,5,11,8,12,13,14],[0,1,3,4,6,7,10,9,2,5,11,8,12,13,14]),([10,9,2,11,5,8,12,13,14],[0,1,3,4,6,7,10,9,2,11,5,8,12,13,14]),([10,9,11,2,5,8,12,13,14],[0,1,3,4,6,7,10,9,11,2,5,8,12,13,14]),([10,11,2,5,8,9,12,13,14],[0,1,3,4,6,7,10,11,2,5,8,9,12,13,14]),([10,11,2,5,9,8,12,13,14],[0,1,3,4,6,7,10,11,2,5,9,8,12,13,14]),([10,11,2,9,5,8,12,13,14],[0,1,3,4,6,7,10,11,2,9,5,8,12,13,14]),([10,11,9,2,5,8,12,13,14],[0,1,3,4,6,7,10,11,9,2,5,8,12,13,14]),([11,2,5,8,9,10,12,13,14],[0,1,3,4,6,7,11,2,5,8,9,10,12,13,14]),([11,2,5,8,10,9,12,13,14],[0,1,3,4,6,7,11,2,5,8,10,9,12,13,14]),([11,2,5,9,8,10,12,13,14],[0,1,3,4,6,7,11,2,5,9,8,10,12,13,14]),([11,2,5,9,10,8,12,13,14],[0,1,3,4,6,7,11,2,5,9,10,8,12,13,14]),([11,2,5,10,8,9,12,13,14],[0,1,3,4,6,7,11,2,5,10,8,9,12,13,14]),([11,2,5,10,9,8,12,13,14],[0,1,3,4,6,7,11,2,5,10,9,8,12,13,14]),([11,2,9,5,8,10,12,13,14],[0,1,3,4,6,7,11,2,9,5,8,10,12,13,14]),([11,2,9,5,10,8,12,13,14],[0,1,3,4,6,7,11,2,9,5,10,8,12,13,14]),([11,2,9,10,5,8,12,13,14],[0,1,3,4,6,7,11,2,9,10,5,8,12,13,14]),([11,2,10,5,8,9,12,13,14],[0,1,3,4,6,7,11,2,10,5,8,9,12,13,14]),([11,2,10,5,9,8,12,13,14],[0,1,3,4,6,7,11,2,10,5,9,8,12,13,14]),([11,2,10,9,5,8,12,13,14],[0,1,3,4,6,7,11,2,10,9,5,8,12,13,14]),([11,9,2,5,8,10,12,13,14],[0,1,3,4,6,7,11,9,2,5,8,10,12,13,14]),([11,9,2,5,10,8,12,13,14],[0,1,3,4,6,7,11,9,2,5,10,8,12,13,14]),([11,9,2,10,5,8,12,13,14],[0,1,3,4,6,7,11,9,2,10,5,8,12,13,14]),([11,9,10,2,5,8,12,13,14],[0,1,3,4,6,7,11,9,10,2,5,8,12,13,14]),([11,10,2,5,8,9,12,13,14],[0,1,3,4,6,7,11,10,2,5,8,9,12,13,14]),([11,10,2,5,9,8,12,13,14],[0,1,3,4,6,7,11,10,2,5,9,8,12,13,14]),([11,10,2,9,5,8,12,13,14],[0,1,3,4,6,7,11,10,2,9,5,8,12,13,14]),([11,10,9,2,5,8,12,13,14],[0,1,3,4,6,7,11,10,9,2,5,8,12,13,14])]
def nY (k:Nat):Array Value:=if k=0 then #[pC 79,.bool false] else if k=1 then #[pC 80,.bool false] else #[pC 77,.bool true]
theorem FQ {k:Nat}(a:k≤3){w:World}{kk:Value→World→Prop}(h:kk (.agg (nY k)) w):sL prog 108 (.agg Lr) (.int .i64 (k:Int)) w kk:=by
 unfold sL;refine ⟨_,w,?_,h⟩;rcases (by omega:k=0∨k=1∨k=2∨k=3) with rfl | rfl | rfl | rfl <;> kernel_rfl
theorem y9 (k:Nat):∀ u ∈ (nY k).toList,u.oneCell'=true:=by
 intro u hu;unfold nY at hu;split at hu
 ·simp at hu;rcases hu with rfl | rfl <;> rfl
 ·split at hu <;> (simp at hu;rcases hu with rfl | rfl <;> rfl)
theorem vK (k:Nat):(nY k).size=2:=by unfold nY;split;rfl;split <;> rfl
theorem HY (g:Nat)(w:World):(Instr.fieldAt 107 (ah g) 0).run prog w=.ok (ah g) w:=by kernel_rfl
theorem HZ (g:Nat)(w:World):(Instr.fieldAt 107 (ah g) 1).run prog w=.ok (.pointer (some ⟨g,1,none⟩)) w:=by kernel_rfl
theorem y_ {k:Value→World→Prop}{w:World}(h:k (r4 0 (.slice none 0 0) (.slice none 0 0)) w):b8 prog 41 [] w k:=bt (fun w=>by kernel_rfl) h
theorem za {n:Nat}{k:Value→World→Prop}{w:World}(h:k (r4 n (.slice none 0 0) (.slice none 0 0)) w):b8 prog 41 [(0,.int .i64 (n:Int))] w k:=bt (fun w=>by kernel_rfl) h
theorem ue:eL prog 41=some (r4 0 (.slice none 0 0) (.slice none 0 0)):=by kernel_rfl
theorem kj {n:Nat}{A B:Option Addr}{l c a b:Nat}:∀ u ∈ (bo n (.slice A l c) (.slice B a b)).toList,u.oneCell'=true:=by
 intro u hu;simp[bo] at hu;rcases hu with rfl | rfl | rfl <;> rfl
abbrev H0 (t:Tb)(v:Value)(g1 g2 g4 g6 g7 i:Nat)(Bo:Option Addr)(co:Nat)(Bm:Option Addr)(cm:Nat):List cH:=
 [an g7 41 (bo t.ni (.slice Bo i co) (.slice Bm i cm)),own 86 4 (.slice Bo i co) i (flat bK (jH (my t) i)),own 86 4 (.slice Bm i cm) i (flat bK (jH (iv t) i)),an g6 107 (nY t.kd),an g4 86 (sc (bp t.ni)),an g2 41 (bo 0 (.slice none 0 0) (.slice none 0 0)),an g1 33 (di t.kd t.ni t.no v)]
def pJ (F:Nat→Prop)(S:dX)(Bo:Option Addr)(co:Nat)(Bm:Option Addr)(cm:Nat):cH:=
 ⟨F,fun w=>(sl F (.slice Bo S.on.length co) 4 S.on.length (flat bK S.on)).ok w∧(sl F (.slice Bm S.may.length cm) 4 S.may.length (flat bK S.may)).ok w,
  fun w w' h ⟨a,b⟩=>⟨(sl _ _ _ _ _).bQ w w' h a,(sl _ _ _ _ _).bQ w w' h b⟩⟩
theorem xp {w:World}{F:Nat→Prop}{S:dX}{Bo:Option Addr}{co:Nat}{Bm:Option Addr}{cm:Nat}(h:(pJ F S Bo co Bm cm).ok w)(a:∀ g,F g→g<w.heap.size):fY w S Bo co Bm cm:=⟨sl.mono h.1 a,sl.mono h.2 a⟩
theorem Cd {w0 w:World}{S:dX}{Bo:Option Addr}{co:Nat}{Bm:Option Addr}{cm n m:Nat}(H:Hp w0 ab w [own 86 4 (.slice Bo n co) n (flat bK S.on),own 86 4 (.slice Bm m cm) m (flat bK S.may)] [])(b:n=S.on.length)(hm:m=S.may.length):∃ F,eE w0 w (pJ F S Bo co Bm cm):=by
 subst b;subst hm;have c:=Hp.join (Ls:=[own 86 4 (.slice Bo S.on.length co) S.on.length (flat bK S.on),own 86 4 (.slice Bm S.may.length cm) S.may.length (flat bK S.may)]) (L:=[]) H;refine ⟨(sa [own 86 4 (.slice Bo S.on.length co) S.on.length (flat bK S.on),own 86 4 (.slice Bm S.may.length cm) S.may.length (flat bK S.may)]).foot,?_⟩;exact (c.re (r':=pJ _ S Bo co Bm cm) (fun _=>⟨sl.mono (iH (H.get 0 rfl)) fun g a=>⟨_,.head _,a⟩,sl.mono (iH (H.get 1 rfl)) fun g a=>⟨_,.tail _ (.head _),a⟩⟩) fun g a=>a).out
theorem MV:enters prog 23=true:=by kernel_rfl
set_option maxHeartbeats 40000000 in
theorem Pe {t:Tb}(n:kh t)(v:Value)(w:World)(x:jg w v t.ls):bw prog 23 [sF t.kd t.ni t.no v] w fun r w'=>
  (cU t t.no=true∧r=.tuple #[r4 0 (.slice none 0 0) (.slice none 0 0),.int .i64 4]∧aT w w')∨
  (cU t t.no=false∧∃ Bo co Bm cm,r=.tuple #[r4 t.ni (.slice Bo t.no co) (.slice Bm t.no cm),.int .i64 0]∧∃ F,eE w w' (pJ F (fm t) Bo co Bm cm)):=by
 refine ar (N:=73) func23 MV rfl rfl rfl (by simp) ?_;have H:=Hp.aC w;obtain ⟨B,c,hs,rfl,hSl,hsl,hln⟩:=x.ub;have hno:=n.no4;have G:=n.ni;have o:=n.kd;refine ak (γ:=Nat × Nat) (fun (g1,g2)=>[(1,(ah g1)),(2,(ah g2))]) (fun (g1,g2) w'=>Hp w ab w' [an g2 41 (bo 0 (.slice none 0 0) (.slice none 0 0)),an g1 33 (di t.kd t.ni t.no (.slice B t.ls.length c))] []) ?_ ?_
 ·refine H.box 33 _ (cs:=di t.kd t.ni t.no (.slice B t.ls.length c)) rfl ?_;clear H;intro g1 w1 H;refine H.alloc 41 (cs:=bo 0 (.slice none 0 0) (.slice none 0 0)) ue rfl ?_;clear H;intro g2 X H;exact ⟨(g1,g2),⟨rfl,rfl,trivial⟩,H⟩
 clear H;rintro ⟨g1,g2⟩ u w1 H;refine aw (fun w'=>Hp w ab w' [an g2 41 (bo 0 (.slice none 0 0) (.slice none 0 0)),an g1 33 (di t.kd t.ni t.no (.slice B t.ls.length c))] []) ?_ ?_
 ·refine H.ai 1 rfl ft bG ?_;refine aj (c49 n _ _ (x.same H.keeps)) ?_;rintro _ X ⟨rfl,a⟩;replace H:=H.same a;refine af rfl ?_;exact ⟨(),trivial,H⟩
 clear H;rintro ⟨⟩ u X H;refine ak (γ:=Nat) (fun g4=>[(4,(ah g4))]) (fun g4 w'=>Hp w ab w' [an g4 86 (sc (bp t.ni)),an g2 41 (bo 0 (.slice none 0 0) (.slice none 0 0)),an g1 33 (di t.kd t.ni t.no (.slice B t.ls.length c))] []) ?_ ?_
 ·refine aa (eC _ _) ?_;refine H.load 1 rfl aF rfl ?_;refine aj (ow t.ni G _) ?_;rintro _ Y ⟨rfl,a⟩;replace H:=H.same a;clear a;refine H.alloc 86 (cs:=sc 0) br aY ?_;clear H;intro g4 Z H;refine H.aW 0 rfl ?_;clear H;intro w5 H;exact ⟨g4,⟨rfl,trivial⟩,H⟩
 clear H;rintro g4 u Y H;refine ak (γ:=Nat) (fun g6=>[(6,(ah g6))]) (fun g6 w'=>Hp w ab w' [an g6 107 (nY t.kd),an g4 86 (sc (bp t.ni)),an g2 41 (bo 0 (.slice none 0 0) (.slice none 0 0)),an g1 33 (di t.kd t.ni t.no (.slice B t.ls.length c))] []) ?_ ?_
 ·refine ix (fun u=>Hp w ab u [an g4 86 (sc (bp t.ni)),an g2 41 (bo 0 (.slice none 0 0) (.slice none 0 0)),an g1 33 (di t.kd t.ni t.no (.slice B t.ls.length c))] []) [([0,4,5],[1,2,0,3,4,5]),([4,0,5],[1,2,4,0,3,5])] eO (by kernel_rfl) (H.same (aS.drew _)) ?_;replace H:=H.same (aS.drew _);generalize Y.drew=Z at H;refine List.forall_mem_cons.2 ⟨?_,List.forall_mem_cons.2 ⟨?_,fun z I=>by cases I⟩⟩
  ·refine quiet _ (fun w H=>aa (eB _ _) ae) ?_;refine quiet _ (fun w H=>H.load 2 rfl aF rfl ae) ?_;refine aj (c51 _) ?_;rintro _ y ⟨rfl,a⟩;replace H:=H.same a;clear a;refine ⟨.inl H,?_⟩;refine quiet _ (fun w H=>FQ o ae) ?_;refine H.alloc 107 Cc rfl ?_;clear H;intro g6 J H;refine ⟨.inl H.forget,?_⟩;refine H.storeAll (cs':=nY t.kd) 0 rfl Cb (vK _) (y9 _) ?_;clear H;intro A H;refine ⟨.inl H.forget,?_⟩;exact ⟨g6,⟨rfl,trivial⟩,H⟩
  ·refine quiet _ (fun w H=>aa (eB _ _) ae) ?_;refine quiet _ (fun w H=>H.load 2 rfl aF rfl ae) ?_;refine H.alloc 107 Cc rfl ?_;clear H;intro g6 y H;refine ⟨.inl H.forget,?_⟩;refine aj (c51 _) ?_;rintro _ J ⟨rfl,a⟩;replace H:=H.same a;clear a;refine ⟨.inl H.forget,?_⟩;refine quiet _ (fun w H=>FQ o ae) ?_;refine H.storeAll (cs':=nY t.kd) 0 rfl Cb (vK _) (y9 _) ?_;clear H;intro A H;refine ⟨.inl H.forget,?_⟩;exact ⟨g6,⟨rfl,trivial⟩,H⟩
 clear H;rintro g6 u Z H;refine ak (γ:=Nat) (fun g7=>[(7,(ah g7))]) (fun g7 w'=>Hp w ab w' [an g7 41 (bo t.ni (.slice none 0 0) (.slice none 0 0)),an g6 107 (nY t.kd),an g4 86 (sc (bp t.ni)),an g2 41 (bo 0 (.slice none 0 0) (.slice none 0 0)),an g1 33 (di t.kd t.ni t.no (.slice B t.ls.length c))] []) ?_ ?_
 ·refine aa (eC _ _) ?_;refine H.load 3 rfl aF rfl ?_;refine za ?_;refine H.alloc 41 (cs:=bo 0 (.slice none 0 0) (.slice none 0 0)) ue rfl ?_;clear H;intro g7 w5 H;refine H.storeAll (cs':=bo t.ni (.slice none 0 0) (.slice none 0 0)) 0 rfl bL rfl kj ?_;clear H;intro y H;exact ⟨g7,⟨rfl,trivial⟩,H⟩
 clear H;rintro g7 u w5 H;refine ak (γ:=Option Addr × Nat × Option Addr × Nat) (fun _=>[]) (fun (Bo,co,Bm,cm) w'=>cU t t.no=false∧Hp w ab w' (H0 t (.slice B t.ls.length c) g1 g2 g4 g6 g7 t.no Bo co Bm cm) []) ?_ ?_
 ·refine aa (fB _ _) ?_;refine H.load 4 rfl aF rfl ?_;refine ax (γ:=Nat × Option Addr × Nat × Option Addr × Nat) (fun (i,_)=>[(31,.int .i64 (i:Int))]) (fun (i,Bo,co,Bm,cm) w'=>(i≤t.no∧cU t i=false)∧Hp w ab w' (H0 t (.slice B t.ls.length c) g1 g2 g4 g6 g7 i Bo co Bm cm) []) (fun (i,_)=>t.no - i) (0,none,0,none,0) ⟨rfl,trivial⟩ ⟨⟨Nat.zero_le _,rfl⟩,(((H.bx 86 4).bx 86 4).front 2 rfl)⟩ ?_;clear H;rintro ⟨i,Bo,co,Bm,cm⟩ u y ⟨⟨hi,e⟩,H⟩;refine au (fun h7=>?_) (fun h7=>?_)
  ·have p:i<t.no:=by omega
   have hLn:∀ u,Hp w ab u (H0 t (.slice B t.ls.length c) g1 g2 g4 g6 g7 i Bo co Bm cm) []→jg u (.slice B t.ls.length c) t.ls:=fun u H=>x.same H.keeps;refine ak (γ:=Option Addr × Nat × Option Addr × Nat) (fun _=>[]) (fun (Bo,co,Bm,cm) w'=>cU t (i+1)=false∧Hp w ab w' (H0 t (.slice B t.ls.length c) g1 g2 g4 g6 g7 (i+1) Bo co Bm cm) []) ?_ ?_
   ·refine ak (γ:=Unit) (fun _=>[(8,.int .i64 (i:Int))]) (fun _ w'=>Hp w ab w' (H0 t (.slice B t.ls.length c) g1 g2 g4 g6 g7 i Bo co Bm cm) []) ⟨(),⟨rfl,trivial⟩,H⟩ ?_;clear H;rintro ⟨⟩ u J H;refine ak (γ:=Nat × Nat × Nat) (fun (g9,g10,g11)=>[(9,(ah g9)),(10,(ah g10)),(11,(ah g11))]) (fun (g9,g10,g11) w'=>Hp w ab w' (an g9 86 (sc (my t i))::an g10 86 (sc (uc t i))::an g11 86 (sc (ud t i))::H0 t (.slice B t.ls.length c) g1 g2 g4 g6 g7 i Bo co Bm cm) []) ?_ ?_
    ·refine ix (fun u=>Hp w ab u (H0 t (.slice B t.ls.length c) g1 g2 g4 g6 g7 i Bo co Bm cm) []) y8 eO (by kernel_rfl) (H.same (aS.drew _)) ?_;replace H:=H.same (aS.drew _);generalize J.drew=A at H;have K:∀ (u:World) (m:Int),jg u (.slice B t.ls.length c) t.ls→((m.toNat:Nat):Int)=m→bw prog 52 [sF t.kd t.ni t.no (.slice B t.ls.length c),.int .i64 (i:Int),.int .i64 m] u fun r w'=>r=sv (gf t i m.toNat t.ls.length)∧aT u w':=fun u m hu hm=>by
      have h:=Pb n i m.toNat p _ u hu;rw[hm] at h;exact h
     unfold y8
     iterate 120
      refine List.forall_mem_cons.2 ⟨?_,?_⟩
      ·iterate 3 refine quiet _ (fun w H=>H.ai 6 rfl ft bG ae) ?_
       iterate 6
        first
        |refine H.alloc 86 (cs:=sc 0) br aY ?_
         clear H;intro gx C H
        |refine aj (K _ _ (x.same H.keeps) rfl) ?_
         rintro _ C ⟨rfl,a⟩;replace H:=H.same a;clear a
        refine ⟨.inl (by first | exact H | exact H.forget | exact H.forget.forget | exact H.forget.forget.forget),?_⟩
       iterate 3
        first
        |refine H.aW 0 rfl ?_
        |refine H.aW 1 rfl ?_
        |refine H.aW 2 rfl ?_
        clear H;intro C H;refine ⟨.inl H.forget.forget.forget,?_⟩
       refine ⟨(_,_,_),⟨rfl,rfl,rfl,trivial⟩,?_⟩
       first
       |exact H.b7 [0,1,2,3,4,5,6,7,8,9] (by decide) rfl
       |exact H.b7 [0,2,1,3,4,5,6,7,8,9] (by decide) rfl
       |exact H.b7 [1,0,2,3,4,5,6,7,8,9] (by decide) rfl
       |exact H.b7 [1,2,0,3,4,5,6,7,8,9] (by decide) rfl
       |exact H.b7 [2,0,1,3,4,5,6,7,8,9] (by decide) rfl
       |exact H.b7 [2,1,0,3,4,5,6,7,8,9] (by decide) rfl
     intro z I
     cases I
    clear H;rintro ⟨g9,g10,g11⟩ u A H;refine aw (fun w'=>kZ t i=false∧Hp w ab w' (an g9 86 (sc (my t i))::an g10 86 (sc (uc t i))::an g11 86 (sc (ud t i))::H0 t (.slice B t.ls.length c) g1 g2 g4 g6 g7 i Bo co Bm cm) []) ?_ ?_
    ·refine aa (HZ _) ?_;by_cases q:2≤t.kd
     ·have M:(nY t.kd)=#[pC 77,.bool true]:=by unfold nY;rw[if_neg (by omega),if_neg (by omega)]
      refine H.load 6 rfl wm (by rw[M];rfl) ?_;refine ag rfl ?_;refine H.ai 0 rfl aD av ?_;refine ag rfl ?_;refine H.ai 1 rfl aD av ?_;refine ag rfl ?_;refine aj (c53 _ _ _) ?_;rintro _ O ⟨rfl,a⟩;replace H:=H.same a;clear a;refine ag rfl ?_;refine tl ?_;refine ag rfl ?_;refine CB (Nat.lt_of_le_of_lt Nat.and_le_left (nW _ _ _ _)) (Nat.two_pow_pos 256) ?_;have f:kZ t i=(my t i &&&uc t i !=0):=by unfold kZ;rw[decide_eq_true q,Bool.true_and]
      refine ag rfl ?_;refine aE (fun Q=>?_) (fun Q=>?_)
      ·have s:cU t t.no=true:=by
        unfold cU;rw[List.any_eq_true];exact ⟨i,List.mem_range.2 p,f.trans Q⟩
       refine y_ ?_;refine H.storeAll 8 rfl bL rfl kj ?_;clear H;intro w18 H;refine H.ai 8 rfl dw bL ?_;exact ⟨rfl,.inl ⟨s,rfl,H.keeps⟩⟩
      ·exact ⟨(),trivial,f.trans Q,H⟩
     ·have M:(nY t.kd)[1]?=some (.bool false):=by unfold nY;split;rfl;rw[if_pos (by omega)];rfl
      refine H.load 6 rfl wm M ?_
      iterate 7 refine af rfl ?_
      exact ⟨(),trivial,by unfold kZ;rw[decide_eq_false q];rfl,H⟩
    clear H;rintro ⟨⟩ u C ⟨f,H⟩;have d:cU t (i+1)=false:=by rw[r7,e,f];rfl
    have b:∃ T,(nY t.kd)[0]?=some (pC T)∧∀ w,bw prog T [sv (bp t.ni),sv (my t i),sv (uc t i),sv (ud t i)] w fun v w'=>v=sv (iv t i)∧aT w w':=by
     unfold nY iv;by_cases D:t.kd=0
     ·rw[if_pos D,if_pos D];exact ⟨79,rfl,fun w=>Pd _ _ _ _ w⟩
     ·rw[if_neg D,if_neg D];by_cases E:t.kd=1
      ·rw[if_pos E,if_pos E];exact ⟨80,rfl,fun w=>c80 _ _ _ _ w⟩
      ·rw[if_neg E,if_neg E];exact ⟨77,rfl,fun w=>Pc _ _ _ _ (j7 _) w⟩
    obtain ⟨T,U,b⟩:=b;have e1:flat bK (jH (my t) (i+1))=flat bK (jH (my t) i)++bK (my t i):=by rw[nX];exact de ..
    have e2:flat bK (jH (iv t) (i+1))=flat bK (jH (iv t) i)++bK (iv t i):=by rw[nX];exact de ..
    refine u7 (fun i=>i==18) (fun u=>Hp w ab u [an g9 86 (sc (my t i)),an g10 86 (sc (uc t i)),an g11 86 (sc (ud t i)),an g7 41 (bo t.ni (.slice Bo i co) (.slice Bm i cm)),an g6 107 (nY t.kd),an g4 86 (sc (bp t.ni)),an g2 41 (bo 0 (.slice none 0 0) (.slice none 0 0)),an g1 33 (di t.kd t.ni t.no (.slice B t.ls.length c))] []) eO (by kernel_rfl) ((H.same (aS.drew _)).b7 [0,1,2,3,6,7,8,9] (by decide) rfl) ?_;replace H:=H.same (aS.drew _);generalize C.drew=V at H;refine quiet _ (fun w H=>aa (fR _) ae) ?_;refine quiet _ (fun w H=>H.load 3 rfl dS rfl ae) ?_;refine quiet _ (fun w H=>H.ai 0 rfl aD av ae) ?_;refine H.bf Gv (cs:=sc (my t i)) (by decide) (by decide) (by kernel_rfl) ?_;clear H;intro gx w11 H;refine ⟨.inl (H.b7 [1,2,3,4,7,8,9,10] (by decide) rfl),?_⟩;refine H.aG 5 0 Gv rfl rfl rfl (fx _) (by omega) (by omega) ?_;clear H;intro g j w12 H;replace H:=H.forget;refine ⟨.inl (H.b7 [0,1,2,3,6,7,8,9] (by decide) rfl),?_⟩;refine quiet _ (fun w H=>aa (fS _) ae) ?_;refine quiet _ (fun w H=>H.load 3 rfl dS rfl ae) ?_;refine quiet _ (fun w H=>aa (HY _) ae) ?_;refine quiet _ (fun w H=>H.load 4 rfl K7 U ae) ?_;refine quiet _ (fun w H=>H.ai 5 rfl aD av ae) ?_;refine quiet _ (fun w H=>H.ai 0 rfl aD av ae) ?_;refine quiet _ (fun w H=>H.ai 1 rfl aD av ae) ?_;refine quiet _ (fun w H=>H.ai 2 rfl aD av ae) ?_;refine aj (b _) ?_;rintro _ w13 ⟨rfl,a⟩;replace H:=H.same a;clear a;refine ⟨.inl (H.b7 [0,1,2,3,6,7,8,9] (by decide) rfl),?_⟩;refine H.bf Gv (cs:=sc (iv t i)) (by decide) (by decide) (by kernel_rfl) ?_;clear H;intro gy w14 H;refine ⟨.inl (H.b7 [1,2,3,4,7,8,9,10] (by decide) rfl),?_⟩;refine H.aG 6 0 Gv rfl rfl rfl (fx _) (by omega) (by omega) ?_;clear H;intro k l w15 H;replace H:=H.forget;refine ⟨.inl (H.b7 [0,1,2,3,6,7,8,9] (by decide) rfl),?_⟩;refine quiet _ (fun w H=>aa (fR _) ae) ?_;refine H.store 3 rfl tH (Nat.le_of_ble_eq_true rfl) rfl ?_;clear H;intro w16 H;refine ⟨.inr (by kernel_rfl),?_⟩;refine aa (fS _) ?_;refine ⟨.inr (by kernel_rfl),?_⟩;refine H.store 3 rfl tH (Nat.le_of_ble_eq_true rfl) rfl ?_;clear H;intro O H;refine ⟨.inr (by kernel_rfl),?_⟩;refine ⟨(g,j,k,l),trivial,d,?_⟩;unfold H0;rw[e1,e2];exact H.b7 [3,4,5,6,7,8,9] (by decide) rfl
   clear H;rintro ⟨g,j,k,l⟩ u V ⟨d,H⟩;exact ⟨(i+1,g,j,k,l),by show t.no - (i+1)<t.no - i;omega,⟨up (by omega),trivial⟩,⟨by show i+1≤t.no;omega,d⟩,H⟩
  ·obtain rfl:i=t.no:=by omega
   exact ⟨(Bo,co,Bm,cm),trivial,e,H⟩
 clear H;rintro ⟨Bo,co,Bm,cm⟩ u y ⟨e,H⟩;refine H.ai 0 rfl dw bL ?_;refine H.storeAll 5 rfl bL rfl kj ?_;clear H;intro A H;refine H.ai 5 rfl dw bL ?_;exact ⟨rfl,.inr ⟨e,Bo,co,Bm,cm,rfl,Cd (S:=fm t) (H.b7 [1,2] (by decide) rfl) (eD _ _).symm (eD _ _).symm⟩⟩
end Go.Proofs.YtpjihhgjbbihkaaGreatDoor
namespace Go.Dk
def ia (k o:Nat):List Nat:=jH (fun j=>(o / 2^j) &&&1) k
def ib (k:Nat)(x:Rw):Ln:=(x.1,x.2.1,ia k x.2.2)
def eU (S:dX)(rows:List Rw):Tb:=⟨1,S.n,S.on.length,rows.map (ib S.on.length)⟩
theorem mY (k o:Nat):(ia k o).length=k:=eD _ _
theorem FR {k o:Nat}:∀ x ∈ ia k o,x<2:=by
 intro x a;unfold ia jH at a;rw[List.mem_map] at a;obtain ⟨j,_,rfl⟩:=a;exact Nat.lt_succ_of_le Nat.and_le_right
theorem FT {n k:Nat}(f:n≤8){x:Rw}(h:gE n k x):uQ n k (ib k x):=by
 obtain ⟨a,b,g,c,i,j⟩:=h;obtain ⟨_,_,hm,d⟩:=(ep a b).1 c;rw[Int.toNat_natCast] at hm;exact ⟨hm,d,mY _ _,fun y e=>Nat.lt_succ_of_lt (FR y e)⟩
theorem Ce {S:dX}(a:cL S){rows:List Rw}(h:∀ x ∈ rows,gE S.n S.on.length x)(b:rows.length≤64):kh (eU S rows):=by
 refine ⟨show 1≤3 by decide,a.n8,a.some,a.few,by show (rows.map _).length≤64;rw[List.length_map];exact b,fun l b=>?_⟩;obtain ⟨x,c,rfl⟩:=List.mem_map.1 b;exact FT a.n8 (h x c)
end Go.Dk
namespace Go.Proofs.YtpjihhgjbbihkaaGreatDoor
open Go.Proofs.Tryz
open Go.Dk
set_option maxRecDepth 100000
attribute [local irreducible] IntKind.wrap
theorem _root_.Go.Dk.Hp.MW {w0 w:World}{L M:List cH}{S:Nat→Prop}{hs:List Hd}{Q:List Ln}{v:Value}{l:Ln}(H:Hp w0 ab w (own 3 1 v l.2.2.length (ints l.2.2)::L) (qM S hs Q::M))(j:∀ g,S g→w0.heap.size≤g) :
  ∃ i,Hp w0 ab w L (qM i (hs++[(l.1,l.2.1,v)]) (Q++[l])::M)∧∀ g,i g→w0.heap.size≤g:=by
 have b:=H.get 0 rfl;have d:=H.ro 0 rfl;have e:=H.new _ (.head _);have f:=H.freeze;refine ⟨fun g=>S g∨v.ownBlock=some g,(f.pU (aS.refl _ _) (qM (fun g=>S g∨v.ownBlock=some g) (hs++[(l.1,l.2.1,v)]) (Q++[l])) ?_ fun g a=>⟨?_,.inr ?_⟩).ey ?_,?_⟩
 ·obtain ⟨A,c,rfl,_⟩:=fh b;exact lN.snoc (lN.mono d fun g a=>.inl a) ⟨rfl,rfl,A,c,rfl,sl.mono (iH b) fun g a=>.inr a⟩
 ·rcases a with a | a
  ·exact f.rlt _ (.tail _ (.head _)) g a
  ·exact f.rlt _ (.head _) g a
 ·rcases a with a | a
  ·exact ⟨_,.tail _ (.head _),a⟩
  ·exact ⟨_,.head _,a⟩
 ·intro r h;rcases List.mem_cons.1 h with rfl | h
  ·exact .head _
  ·exact .tail _ (.tail _ (.tail _ h))
 ·rintro g (a | a)
  ·exact j g a
  ·exact (e g a).resolve_right id
theorem _root_.Go.Dk.Hp.Ow {w0 w:World}{F:Nat→Prop}{L M:List cH}(H:Hp w0 F w L M):Hp w0 F w L (qM (fun _=>False) [] []::M):=
 H.pU (aS.refl _ _) _ (lN.nil _ _) fun g a=>a.elim
theorem ja {w:World}{kk:Value→World→Prop}(h:kk (sF 0 0 0 (.slice none 0 0)) w):b8 prog 33 [] w kk:=bt (fun w=>by kernel_rfl) h
theorem FU {n k:Nat}{w:World}{kk:Value→World→Prop}(h:kk (sF 1 n k (.slice none 0 0)) w):b8 prog 33 [(0,.int .i64 1),(1,.int .i64 (n:Int)),(2,.int .i64 (k:Int))] w kk:=bt (fun w=>by kernel_rfl) h
theorem xq {m v:Nat}{w:World}{kk:Value→World→Prop}(h:kk (.agg (fM m v (.slice none 0 0))) w):b8 prog 77 [(0,cv m v)] w kk:=bt (fun w=>by kernel_rfl) h
abbrev DO (S:dX)(a b:Value)(g2 g4 g6 i:Nat)(B:Option Addr)(c:Nat)(hs:List Hd):List cH:=
 [an g6 33 (di 1 S.n S.on.length (.slice B i c)),own 77 3 (.slice B i c) i (flat kX hs),an g4 33 (di 0 0 0 (.slice none 0 0)),an g2 41 (bo S.n a b)]
theorem MX:enters prog 27=true:=by kernel_rfl
theorem Pf {S:dX}(z:cL S)(l:List Rw)(X:∀ x ∈ l,gE S.n S.on.length x)(D:l.length≤9223372036854775807)(Bo:Option Addr)(co:Nat)(Bm:Option Addr)(cm:Nat)(A:Option Addr)(c:Nat)(w:World)(Y:fY w S Bo co Bm cm)(E:Sl w (.slice A l.length c) 3 l.length (flat a6 l)) :
  bw prog 27 [r4 S.n (.slice Bo S.on.length co) (.slice Bm S.may.length cm),.slice A l.length c] w fun r w'=>
   (64<l.length∧r=.tuple #[sF 0 0 0 (.slice none 0 0),.int .i64 3]∧aT w w')∨
   (l.length≤64∧∃ v F,r=.tuple #[sF 1 S.n S.on.length v,.int .i64 0]∧eE w w' (ki F v (l.map (ib S.on.length)))):=by
 refine ar (N:=67) func27 MX rfl rfl rfl (by simp) ?_;have H:=Hp.aC w;have h8:=z.n8;have h4:=z.few;refine ak (γ:=Nat × Nat) (fun (g2,g4)=>[(2,(ah g2)),(4,(ah g4))]) (fun (g2,g4) w'=>Hp w ab w' [an g4 33 (di 0 0 0 (.slice none 0 0)),an g2 41 (bo S.n (.slice Bo S.on.length co) (.slice Bm S.may.length cm))] []) ?_ ?_
 ·refine H.box 41 _ (cs:=bo S.n (.slice Bo S.on.length co) (.slice Bm S.may.length cm)) rfl ?_;clear H;intro g2 w1 H;refine H.alloc 33 (cs:=di 0 0 0 (.slice none 0 0)) mX rfl ?_;clear H;intro g4 G H;exact ⟨(g2,g4),⟨rfl,rfl,trivial⟩,H⟩
 clear H;rintro ⟨g2,g4⟩ u w1 H;refine aw (fun w'=>l.length≤64∧Hp w ab w' [an g4 33 (di 0 0 0 (.slice none 0 0)),an g2 41 (bo S.n (.slice Bo S.on.length co) (.slice Bm S.may.length cm))] []) ?_ ?_
 ·refine ak (γ:=Unit) (fun _=>[(11,.bool false)]) (fun _ w'=>Hp w ab w' [an g4 33 (di 0 0 0 (.slice none 0 0)),an g2 41 (bo S.n (.slice Bo S.on.length co) (.slice Bm S.may.length cm))] []) ?_ ?_
  ·refine H.ai 1 rfl dw bL ?_;refine aj (He z Bo co Bm cm _ (Y.same H.keeps)) ?_;rintro _ G ⟨rfl,q⟩;replace H:=H.same q;clear q;refine af rfl ?_;refine H.ai 1 rfl dw bL ?_
   iterate 2 refine af rfl ?_
   refine aj (c59 z l X D Bo co (.slice Bm S.may.length cm) rfl A c _ (Y.on.same H.keeps) (E.same H.keeps)) ?_;rintro _ I ⟨rfl,q⟩;replace H:=H.same q;clear q
   iterate 2 refine af rfl ?_
   exact ⟨(),⟨rfl,trivial⟩,H⟩
  clear H;rintro ⟨⟩ u G H;refine af rfl ?_;refine ay underlying44 ?_;refine au (fun J=>?_) (fun J=>?_)
  ·refine ja ?_;refine H.storeAll 0 rfl bG rfl dz ?_;clear H;intro I H;refine H.ai 0 rfl ft bG ?_;exact ⟨rfl,.inl ⟨by omega,rfl,H.keeps⟩⟩
  ·exact ⟨(),trivial,by omega,H⟩
 clear H;rintro ⟨⟩ u G ⟨s,H⟩;refine ak (γ:=Nat) (fun g6=>[(6,(ah g6))]) (fun g6 w'=>Hp w ab w' (DO S (.slice Bo S.on.length co) (.slice Bm S.may.length cm) g2 g4 g6 0 none 0 []) [qM (fun _=>False) [] []]) ?_ ?_
 ·refine aa (iS _) ?_;refine H.load 1 rfl aF rfl ?_;refine aa (fR _) ?_;refine H.load 1 rfl dS rfl ?_;refine ay underlying39 ?_;refine FU ?_;refine H.alloc 33 (cs:=di 0 0 0 (.slice none 0 0)) mX rfl ?_;clear H;intro g6 I H;refine H.storeAll 0 rfl bG rfl dz ?_;clear H;intro Z H;exact ⟨g6,⟨rfl,trivial⟩,((H.bx 77 3).Ow).b7 [1,0,2,3] (by decide) rfl⟩
 clear H;rintro g6 u I H;refine ak (γ:=Option Addr × Nat × List Hd × (Nat→Prop)) (fun _=>[]) (fun (B,d,hs,e) w'=>(∀ g,e g→w.heap.size≤g)∧Hp w ab w' (DO S (.slice Bo S.on.length co) (.slice Bm S.may.length cm) g2 g4 g6 l.length B d hs) [qM e hs (l.map (ib S.on.length))]) ?_ ?_
 ·refine ay underlying44 ?_;refine ax (γ:=Nat × Option Addr × Nat × List Hd × (Nat→Prop)) (fun (i,_)=>[(35,.int .i64 (i:Int))]) (fun (i,B,d,hs,e) w'=>(i≤l.length∧∀ g,e g→w.heap.size≤g)∧Hp w ab w' (DO S (.slice Bo S.on.length co) (.slice Bm S.may.length cm) g2 g4 g6 i B d hs) [qM e hs ((l.take i).map (ib S.on.length))]) (fun (i,_)=>l.length - i) (0,none,0,[],fun _=>False) ⟨rfl,trivial⟩ ⟨⟨Nat.zero_le _,fun g h=>h.elim⟩,H⟩ ?_;clear H;rintro ⟨i,B,d,hs,e⟩ u Z ⟨⟨hi,f⟩,H⟩;refine au (fun J=>?_) (fun J=>?_)
  ·obtain ⟨x,hx,t⟩:=iT (l:=l) (j:=i) (by omega);have K:=X x t;obtain ⟨m,v,o⟩:=x;have ho:=K.o;simp only at ho;obtain ⟨gA,oA,rfl⟩:=E.A (by omega);refine ak (γ:=Option Addr × Nat × List Hd × (Nat→Prop)) (fun _=>[]) (fun (B,d,hs,e) w'=>(∀ g,e g→w.heap.size≤g)∧Hp w ab w' (DO S (.slice Bo S.on.length co) (.slice Bm S.may.length cm) g2 g4 g6 (i+1) B d hs) [qM e hs ((l.take (i+1)).map (ib S.on.length))]) ?_ ?_
   ·refine ak (γ:=Nat) (fun g8=>[(8,(ah g8))]) (fun g8 w'=>Hp w ab w' (an g8 50 (eo m v o)::DO S (.slice Bo S.on.length co) (.slice Bm S.may.length cm) g2 g4 g6 i B d hs) [qM e hs ((l.take i).map (ib S.on.length))]) ?_ ?_
    ·refine ao underlying44 aZ i rfl (by omega) (o':=oA+i*3) (by omega) ?_;refine Sl.cA H E bl gV aZ i rfl hx ?_;refine H.alloc 50 (cs:=eo 0 0 0) jz rfl ?_;clear H;intro g8 M H;refine H.storeAll (cs':=eo m v o) 0 rfl aZ rfl (dT _ _ _) ?_;clear H;intro w6 H;exact ⟨g8,⟨rfl,trivial⟩,H⟩
    clear H;rintro g8 u M H;refine ak (γ:=Nat) (fun g9=>[(9,(ah g9))]) (fun g9 w'=>Hp w ab w' (an g9 77 (fM m v (.slice none 0 0))::own 3 1 (.slice none 0 0) 0 []::an g8 50 (eo m v o)::DO S (.slice Bo S.on.length co) (.slice Bm S.may.length cm) g2 g4 g6 i B d hs) [qM e hs ((l.take i).map (ib S.on.length))]) ?_ ?_
    ·refine aa (fT _ _) ?_;refine H.cY 0 rfl [.int .u8 (m:Int),.int .u8 (v:Int)] bz aO (fun j u p=>by match j,p with | 0,p=>exact p | 1,p=>exact p) ?_;refine xq ?_;refine H.alloc 77 (cs:=fM 0 0 (.slice none 0 0)) lO rfl ?_;clear H;intro g9 w6 H;refine H.storeAll 0 rfl cF rfl (eS (m:=m) (v:=v)) ?_;clear H;intro w7 H;exact ⟨g9,⟨rfl,trivial⟩,(H.bx 3 1).b7 [1,0,2,3,4,5,6] (by decide) rfl⟩
    clear H;rintro g9 u w6 H;refine ak (γ:=Option Addr × Nat) (fun _=>[]) (fun (a,d2) w'=>Hp w ab w' (an g9 77 (fM m v (.slice a S.on.length d2))::own 3 1 (.slice a S.on.length d2) S.on.length (ints (ia S.on.length o))::an g8 50 (eo m v o)::DO S (.slice Bo S.on.length co) (.slice Bm S.may.length cm) g2 g4 g6 i B d hs) [qM e hs ((l.take i).map (ib S.on.length))]) ?_ ?_
    ·refine aa (fB _ _) ?_;refine H.load 3 rfl aF rfl ?_;refine ax (γ:=Nat × Option Addr × Nat) (fun (j,_)=>[(44,.int .i64 (j:Int))]) (fun (j,a,d2) w'=>j≤S.on.length∧Hp w ab w' (an g9 77 (fM m v (.slice a j d2))::own 3 1 (.slice a j d2) j (ints (ia j o))::an g8 50 (eo m v o)::DO S (.slice Bo S.on.length co) (.slice Bm S.may.length cm) g2 g4 g6 i B d hs) [qM e hs ((l.take i).map (ib S.on.length))]) (fun (j,_)=>S.on.length - j) (0,none,0) ⟨rfl,trivial⟩ ⟨Nat.zero_le _,H⟩ ?_;clear H;rintro ⟨j,a,d2⟩ u w7 ⟨p,H⟩;refine au (fun h9=>?_) (fun h9=>?_)
     ·refine ak (γ:=Option Addr × Nat) (fun _=>[]) (fun (a,d2) w'=>Hp w ab w' (an g9 77 (fM m v (.slice a (j+1) d2))::own 3 1 (.slice a (j+1) d2) (j+1) (ints (ia (j+1) o))::an g8 50 (eo m v o)::DO S (.slice Bo S.on.length co) (.slice Bm S.may.length cm) g2 g4 g6 i B d hs) [qM e hs ((l.take i).map (ib S.on.length))]) ?_ ?_
      ·refine ak (γ:=Unit) (fun _=>[(10,.int .i64 (j:Int))]) (fun _ w'=>Hp w ab w' (an g9 77 (fM m v (.slice a j d2))::own 3 1 (.slice a j d2) j (ints (ia j o))::an g8 50 (eo m v o)::DO S (.slice Bo S.on.length co) (.slice Bm S.may.length cm) g2 g4 g6 i B d hs) [qM e hs ((l.take i).map (ib S.on.length))]) ⟨(),⟨rfl,trivial⟩,H⟩ ?_;clear H;rintro ⟨⟩ u w8 H;have e1:ints (ia (j+1) o)=ints (ia j o)++[.int .i64 (((o / 2^j) &&&1:Nat):Int)]:=by unfold ia;rw[nX];unfold ints;rw[List.map_append];rfl
       refine H.fp [an g9 77 (fM m v (.slice a j d2)),an g8 50 (eo m v o)] (fun u h=>h.b7 [0,2] (by decide) rfl) eO (by kernel_rfl) ?_;clear H;intro k H;refine quiet _ (fun w H=>aa (eI _) ae) ?_;refine quiet _ (fun w H=>H.load 0 rfl e8 rfl ae) ?_;refine quiet _ (fun w H=>aa (dt _ _) ae) ?_;refine quiet _ (fun w H=>H.load 1 rfl b5 rfl ae) ?_;refine quiet _ (fun w H=>e7 (by omega) ae) ?_;refine quiet _ (fun w H=>dV (b:=1) (Nat.lt_of_le_of_lt (Nat.div_le_self _ _) ho) (by omega) ae) ?_;have h1:(o / 2^j) &&&1≤1:=Nat.and_le_right;refine quiet _ (fun w H=>iK (by kernel_rfl) underlying3 (by omega) (by omega) ae) ?_;refine H.aX dH rfl ?_;clear H;intro gx w11 H;refine ⟨.inl (H.b7 [1,3] (by decide) rfl),?_⟩;refine H.aG 2 0 dH rfl rfl rfl (fun u hu=>by rw[List.mem_singleton.1 hu];rfl) (by omega) (by omega) ?_;clear H;intro C d4 w12 H;refine ⟨.inl (H.b7 [1,3] (by decide) rfl),?_⟩;refine quiet _ (fun w H=>aa (eI _) ae) ?_;refine H.store 1 rfl qx (Nat.le_of_ble_eq_true rfl) rfl ?_;clear H;intro w13 H;refine ⟨.inr rfl,?_⟩;exact ⟨(C,d4),trivial,by rw[e1];exact H.forget⟩
      ·clear H;rintro ⟨O,d3⟩ u w8 H;exact ⟨(j+1,O,d3),by show S.on.length - (j+1)<S.on.length - j;omega,⟨up (by omega),trivial⟩,by show j+1≤S.on.length;omega,H⟩
     ·obtain rfl:j=S.on.length:=by omega
      exact ⟨(a,d2),trivial,H⟩
    clear H;rintro ⟨a,d2⟩ u w7 H;refine aa (dy _ _) ?_;refine H.load 3 rfl f_ rfl ?_;refine H.ai 0 rfl mw cF ?_;refine H.bf IU (cs:=fM m v (.slice a S.on.length d2)) (by decide) (by decide) (by kernel_rfl) ?_;clear H;intro gx w8 H;refine H.aG 5 0 IU rfl rfl rfl eS (by omega) (by omega) ?_;clear H;intro C d4 w9 H;replace H:=H.forget;refine aa (dy _ _) ?_;refine H.store 3 rfl xm (Nat.le_of_ble_eq_true rfl) rfl ?_;clear H;intro k H;have hb:(ia S.on.length o).length=S.on.length:=mY _ _;have Q:(l.take (i+1)).map (ib S.on.length)=(l.take i).map (ib S.on.length)++[(m,v,ia S.on.length o)]:=by rw[List.take_add_one,hx,List.map_append];rfl
    have H2:Hp w ab k (own 3 1 (.slice a S.on.length d2) ((m,v,ia S.on.length o):Ln).2.2.length (ints ((m,v,ia S.on.length o):Ln).2.2)::DO S (.slice Bo S.on.length co) (.slice Bm S.may.length cm) g2 g4 g6 (i+1) C d4 (hs++[(m,v,.slice a S.on.length d2)])) [qM e hs ((l.take i).map (ib S.on.length))]:=by
     show Hp w ab k (own 3 1 (.slice a S.on.length d2) (ia S.on.length o).length (ints (ia S.on.length o))::_) _;rw[hb];unfold DO;rw[show flat kX (hs++[(m,v,.slice a S.on.length d2)])=flat kX hs++kX (m,v,.slice a S.on.length d2) from de ..];exact H.b7 [1,3,4,5,6] (by decide) rfl
    clear H;obtain ⟨S',H3,T⟩:=H2.MW f;exact ⟨(C,d4,hs++[(m,v,.slice a S.on.length d2)],S'),trivial,T,by rw[Q];exact H3⟩
   ·clear H;rintro ⟨O,d3,U,S3⟩ u M ⟨V,H⟩;exact ⟨(i+1,O,d3,U,S3),by show l.length - (i+1)<l.length - i;omega,⟨up (by omega),trivial⟩,⟨by show i+1≤l.length;omega,V⟩,H⟩
  ·obtain rfl:i=l.length:=by omega
   exact ⟨(B,d,hs,e),trivial,f,by rw[List.take_length] at H;exact H⟩
 clear H;rintro ⟨B,d,hs,e⟩ u Z ⟨f,H⟩;refine H.ai 0 rfl ft bG ?_;refine H.storeAll 2 rfl bG rfl dz ?_;clear H;intro M H;refine H.ai 2 rfl ft bG ?_;exact ⟨rfl,.inr ⟨s,_,_,rfl,xl H.keeps (H.get 1 rfl) (fun g y=>⟨(H.new _ (.tail _ (.head _)) g y).resolve_right id,H.lt _ (.tail _ (.head _)) g y⟩) (H.ro 0 rfl) (fun g y=>⟨f g y,H.rlt _ (.head _) g y⟩) (by rw[List.length_map])⟩⟩
end Go.Proofs.YtpjihhgjbbihkaaGreatDoor
namespace Go.Dk
section
variable {P:Program} {w:World} {kk:Value→World→Prop}
theorem Cf (l:List UInt8)(i j:Nat):(⟨l.toArray⟩:ByteArray).extract i j=⟨((l.take j).drop i).toArray⟩:=by
 rw[ByteArray.ext_iff,ByteArray.data_extract];apply Array.ext';simp[List.drop_take,List.extract_eq_take_drop]
theorem rr {t:TypeId}{l:List UInt8}{kd a:IntKind}{x y:Int}(b:P.underlying t=some .string)(i j:Nat)(c:x=(i:Int))(d:y=(j:Int))(e:i≤j)(f:j≤l.length)(h:kk (aU ((l.take j).drop i)) w) :
  eY P t (aU l) (some (.int kd x)) (some (.int a y)) none w kk:=by
 subst c;subst d;unfold eY;refine ⟨_,w,?_,h⟩;have hs:(⟨l.toArray⟩:ByteArray).size=l.length:=rfl;simp only[aU,Instr.sliceAt,Sem.run_bind,run_underlying b,Result.andThen_ok,Instr.slice,Instr.sliceBounds,Instr.sliceBound,asIntOf,Sem.run_pure,hs];simp[e,f,Cf,Sem.run_bind,Sem.run_pure]
theorem AY {t:TypeId}{l:List UInt8}{kd:IntKind}{y:Int}(a:P.underlying t=some .string)(j:Nat)(b:y=(j:Int))(c:j≤l.length)(h:kk (aU (l.take j)) w) :
  eY P t (aU l) none (some (.int kd y)) none w kk:=by
 subst b;unfold eY;refine ⟨_,w,?_,h⟩;have hs:(⟨l.toArray⟩:ByteArray).size=l.length:=rfl;simp only[aU,Instr.sliceAt,Sem.run_bind,run_underlying a,Result.andThen_ok,Instr.slice,Instr.sliceBounds,Instr.sliceBound,asIntOf,Sem.run_pure,hs];simp[c,Cf,Sem.run_bind,Sem.run_pure]
end
def cQ (n:Nat):List UInt8:=if n<10 then [UInt8.ofNat (48+n)] else [UInt8.ofNat (48+n / 10),UInt8.ofNat (48+n % 10)]
def dF (k:Nat):List UInt8:=if k=0 then [102] else if k=1 then [102,100] else if k=2 then [102,114] else [102,100,114]
def eV (x:Nat):UInt8:=if x=0 then 48 else if x=1 then 49 else 45
def gI (ni:Nat)(l:Ln):List UInt8:=dK l.1 l.2.1 ni++32::l.2.2.map eV
def e_ (t:Tb):List UInt8:=[46,105,32]++cQ t.ni++[10,46,111,32]++cQ t.no++[10,46,116,121,112,101,32]++dF t.kd++[10,46,112,32]++cQ t.ls.length++[10]
def dx (ni:Nat)(ls:List Ln):List UInt8:=ls.flatMap fun l=>gI ni l++[10]
def dW (t:Tb):List UInt8:=e_ t++dx t.ni t.ls++[46,101,10]
theorem AZ (ni:Nat)(ls:List Ln)(l:Ln):dx ni (ls++[l])=dx ni ls++(gI ni l++[10]):=by simp[dx]
theorem jW {n:Nat}(h:n<100):Lib.decDigits n=cQ n:=by
 unfold cQ;split
 ·exact Lib.decDigits_one (by assumption)
 ·exact Lib.decDigits_two (by assumption) h
theorem jX (n:Nat):(cQ n).length≤2:=by unfold cQ;split <;> simp
theorem FV {x:Nat}(h:x<3):(([48,49,45]:List UInt8).take (x+1)).drop x=[eV x]:=by
 rcases (by omega:x=0∨x=1∨x=2) with rfl | rfl | rfl <;> rfl
theorem ru (k:Nat):(dF k).length≤3:=by unfold dF;split;decide;split;decide;split <;> decide
end Go.Dk
namespace Go.Proofs.YtpjihhgjbbihkaaGreatDoor
open Go.Proofs.Tryz
open Go.Dk
set_option maxRecDepth 100000
attribute [local irreducible] IntKind.wrap
theorem Dx {ni no:Nat}{l:Ln}(h:uQ ni no l):(gI ni l).length=ni+1+no:=by
 unfold gI;rw[List.length_append,List.length_cons,List.length_map,h.len];simp[dK];omega
theorem mz {ni no:Nat}(a:ni≤8)(b:no≤4):∀ (ls:List Ln),(∀ l ∈ ls,uQ ni no l)→(dx ni ls).length≤14*ls.length
 | [],_=>by simp[dx]
 | l::ls,h=>by
  have c:=Dx (h l (.head _));have f:=mz a b ls fun x d=>h x (.tail _ d);have e:dx ni (l::ls)=(gI ni l++[10])++dx ni ls:=by simp[dx]
  rw[e,List.length_append,List.length_append,List.length_cons,List.length_cons,c];simp only[List.length_nil];omega
theorem ry {t:Tb}(a:kh t):(e_ t).length≤100:=by
 have b:=jX t.ni;have c:=jX t.no;have d:=jX t.ls.length;have e:=ru t.kd;simp[e_];omega
theorem qy {k:Nat}(a:k≤3):(#[aU [102],aU [102,100],aU [102,114],aU [102,100,114]]:Array Value)[k]?=some (aU (dF k)):=by
 rcases (by omega:k=0∨k=1∨k=2∨k=3) with rfl | rfl | rfl | rfl <;> rfl
abbrev K8:Array Value:=#[aU [102],aU [102,100],aU [102,114],aU [102,100,114]]
theorem H7 {l:List Nat}{i x:Nat}(h:l[i]?=some x):(ints l)[i]?=some (.int .i64 (x:Int)):=by simp[ints,h]
theorem MY:enters prog 61=true:=by kernel_rfl
theorem Ox (w:World):bw prog 61 [] w fun r w'=>∃ g,r=.slice (some ⟨g,0,none⟩) 4 4∧eE w w' (an g 9 K8):=by
 refine ar (N:=2) func61 MY rfl rfl rfl (by simp) ?_;have H:=Hp.aC w;refine H.bf NS (cs:=K8) (by decide) (by decide) (by kernel_rfl) ?_;clear H;intro g a H;exact ⟨g,rfl,H.out⟩
theorem MZ:enters prog 29=true:=by kernel_rfl
theorem Pg {t:Tb}(f:kh t)(v:Value)(w:World)(hg:jA w)(hA:jg w v t.ls):bw prog 29 [sF t.kd t.ni t.no v] w fun r w'=>r=.tuple #[aU (dW t),.int .i64 0]∧aT w w':=by
 refine ar (N:=75) func29 MZ rfl rfl rfl (by simp) ?_;have H:=Hp.aC w;obtain ⟨B,c,hs,rfl,E,hsl,Q⟩:=hA.ub;have F:=f.no4;have q:=f.ni;have G:=f.kd;have hfew:=f.few;have S:=ry f;refine ak (γ:=Nat) (fun g1=>[(1,(ah g1))]) (fun g1 w'=>Hp w ab w' [an g1 33 (di t.kd t.ni t.no (.slice B t.ls.length c))] []) ?_ ?_
 ·refine H.box 33 _ (cs:=di t.kd t.ni t.no (.slice B t.ls.length c)) rfl ?_;clear H;intro g1 w1 H;exact ⟨g1,⟨rfl,trivial⟩,H⟩
 clear H;rintro g1 u w1 H;refine aw (fun w'=>Hp w ab w' [an g1 33 (di t.kd t.ni t.no (.slice B t.ls.length c))] []) ?_ ?_
 ·refine H.ai 0 rfl ft bG ?_;refine aj (c49 f _ _ (hA.same H.keeps)) ?_;rintro _ w2 ⟨rfl,d⟩;replace H:=H.same d;refine af rfl ?_;exact ⟨(),trivial,H⟩
 clear H;rintro ⟨⟩ u w2 H;refine ak (γ:=Unit) (fun _=>[(4,aU (e_ t))]) (fun _ w'=>Hp w ab w' [an g1 33 (di t.kd t.ni t.no (.slice B t.ls.length c))] []) ?_ ?_
 ·have l1:=jX t.ni;have l2:=jX t.no;have l3:=jX t.ls.length;have l4:=ru t.kd;refine wi (fun i=>i==14) (fun u=>Hp w ab u [an g1 33 (di t.kd t.ni t.no (.slice B t.ls.length c))] []) [([2,7,10,14,20],[0,1,2,3,4,5,6,7,8,9,10,11,12,13,14,15,16,17,18,19,20,21,22,23]),([2,7,10,20,14],[0,1,2,3,4,5,6,7,8,9,10,11,12,13,17,18,19,20,14,15,16,21,22,23])] eO (by kernel_rfl) (H.same (aS.drew _)) ?_;replace H:=H.same (aS.drew _);generalize w2.drew=w3 at H;refine List.forall_mem_cons.2 ⟨?_,List.forall_mem_cons.2 ⟨?_,fun z hz=>by cases hz⟩⟩
  ·refine quiet _ (fun w H=>aa (eC _ _) ae) ?_;refine quiet _ (fun w H=>H.load 0 rfl aF rfl ae) ?_;refine aj (vI t.ni (by omega) _) ?_;rintro _ g ⟨rfl,d⟩;rw[jW (by omega)];replace H:=H.same d;clear d;refine ⟨.inl H,?_⟩;refine quiet _ (fun w H=>a_ (a:=[46,105,32]) (b:=cQ t.ni) (by simp only[List.length_append,List.length_cons,List.length_nil];omega) ae) ?_;refine quiet _ (fun w H=>a_ (a:=([46,105,32]++cQ t.ni)) (b:=[10,46,111,32]) (by simp only[List.length_append,List.length_cons,List.length_nil];omega) ae) ?_;refine quiet _ (fun w H=>aa (fB _ _) ae) ?_;refine quiet _ (fun w H=>H.load 0 rfl aF rfl ae) ?_;refine aj (vI t.no (by omega) _) ?_;rintro _ g ⟨rfl,d⟩;rw[jW (by omega)];replace H:=H.same d;clear d;refine ⟨.inl H,?_⟩;refine quiet _ (fun w H=>a_ (a:=([46,105,32]++cQ t.ni++[10,46,111,32])) (b:=cQ t.no) (by simp only[List.length_append,List.length_cons,List.length_nil];omega) ae) ?_;refine quiet _ (fun w H=>a_ (a:=([46,105,32]++cQ t.ni++[10,46,111,32]++cQ t.no)) (b:=[10,46,116,121,112,101,32]) (by simp only[List.length_append,List.length_cons,List.length_nil];omega) ae) ?_;refine aj (Ox _) ?_;rintro _ I ⟨gk,rfl,J⟩;replace H:=H.bq J;clear J;refine ⟨.inl H.forget,?_⟩;refine quiet _ (fun w H=>aa (eB _ _) ae) ?_;refine quiet _ (fun w H=>H.load 0 rfl aF rfl ae) ?_;refine quiet _ (fun w H=>ao underlying73 p7 t.kd rfl (by omega) (o':=t.kd) (by omega) ae) ?_;refine H.load 0 rfl wy (qy G) ?_;refine ⟨.inl H.forget,?_⟩;refine quiet _ (fun w H=>a_ (a:=([46,105,32]++cQ t.ni++[10,46,111,32]++cQ t.no++[10,46,116,121,112,101,32])) (b:=dF t.kd) (by simp only[List.length_append,List.length_cons,List.length_nil];omega) ae) ?_;refine quiet _ (fun w H=>a_ (a:=([46,105,32]++cQ t.ni++[10,46,111,32]++cQ t.no++[10,46,116,121,112,101,32]++dF t.kd)) (b:=[10,46,112,32]) (by simp only[List.length_append,List.length_cons,List.length_nil];omega) ae) ?_;refine quiet _ (fun w H=>aa (dy _ _) ae) ?_;refine quiet _ (fun w H=>H.load 0 rfl f_ rfl ae) ?_;refine quiet _ (fun w H=>ay underlying31 ae) ?_;refine aj (vI t.ls.length (by omega) _) ?_;rintro _ g ⟨rfl,d⟩;rw[jW (by omega)];replace H:=H.same d;clear d;refine ⟨.inl H.forget,?_⟩;refine quiet _ (fun w H=>a_ (a:=([46,105,32]++cQ t.ni++[10,46,111,32]++cQ t.no++[10,46,116,121,112,101,32]++dF t.kd++[10,46,112,32])) (b:=cQ t.ls.length) (by simp only[List.length_append,List.length_cons,List.length_nil];omega) ae) ?_;refine quiet _ (fun w H=>a_ (a:=([46,105,32]++cQ t.ni++[10,46,111,32]++cQ t.no++[10,46,116,121,112,101,32]++dF t.kd++[10,46,112,32]++cQ t.ls.length)) (b:=[10]) (by simp only[List.length_append,List.length_cons,List.length_nil];omega) ae) ?_;exact ⟨(),⟨rfl,trivial⟩,H.forget⟩
  ·refine quiet _ (fun w H=>aa (eC _ _) ae) ?_;refine quiet _ (fun w H=>H.load 0 rfl aF rfl ae) ?_;refine aj (vI t.ni (by omega) _) ?_;rintro _ g ⟨rfl,d⟩;rw[jW (by omega)];replace H:=H.same d;clear d;refine ⟨.inl H,?_⟩;refine quiet _ (fun w H=>a_ (a:=[46,105,32]) (b:=cQ t.ni) (by simp only[List.length_append,List.length_cons,List.length_nil];omega) ae) ?_;refine quiet _ (fun w H=>a_ (a:=([46,105,32]++cQ t.ni)) (b:=[10,46,111,32]) (by simp only[List.length_append,List.length_cons,List.length_nil];omega) ae) ?_;refine quiet _ (fun w H=>aa (fB _ _) ae) ?_;refine quiet _ (fun w H=>H.load 0 rfl aF rfl ae) ?_;refine aj (vI t.no (by omega) _) ?_;rintro _ g ⟨rfl,d⟩;rw[jW (by omega)];replace H:=H.same d;clear d;refine ⟨.inl H,?_⟩;refine quiet _ (fun w H=>a_ (a:=([46,105,32]++cQ t.ni++[10,46,111,32])) (b:=cQ t.no) (by simp only[List.length_append,List.length_cons,List.length_nil];omega) ae) ?_;refine quiet _ (fun w H=>a_ (a:=([46,105,32]++cQ t.ni++[10,46,111,32]++cQ t.no)) (b:=[10,46,116,121,112,101,32]) (by simp only[List.length_append,List.length_cons,List.length_nil];omega) ae) ?_;refine aj (Ox _) ?_;rintro _ I ⟨gk,rfl,J⟩;replace H:=H.bq J;clear J;refine ⟨.inl H.forget,?_⟩;refine quiet _ (fun w H=>aa (eB _ _) ae) ?_;refine quiet _ (fun w H=>H.load 0 rfl aF rfl ae) ?_;refine quiet _ (fun w H=>ao underlying73 p7 t.kd rfl (by omega) (o':=t.kd) (by omega) ae) ?_;refine quiet _ (fun w H=>aa (dy _ _) ae) ?_;refine quiet _ (fun w H=>H.load 0 rfl f_ rfl ae) ?_;refine quiet _ (fun w H=>ay underlying31 ae) ?_;refine aj (vI t.ls.length (by omega) _) ?_;rintro _ g ⟨rfl,d⟩;rw[jW (by omega)];replace H:=H.same d;clear d;refine ⟨.inl H.forget,?_⟩;refine H.load 0 rfl wy (qy G) ?_;refine ⟨.inl H.forget,?_⟩;refine quiet _ (fun w H=>a_ (a:=([46,105,32]++cQ t.ni++[10,46,111,32]++cQ t.no++[10,46,116,121,112,101,32])) (b:=dF t.kd) (by simp only[List.length_append,List.length_cons,List.length_nil];omega) ae) ?_;refine quiet _ (fun w H=>a_ (a:=([46,105,32]++cQ t.ni++[10,46,111,32]++cQ t.no++[10,46,116,121,112,101,32]++dF t.kd)) (b:=[10,46,112,32]) (by simp only[List.length_append,List.length_cons,List.length_nil];omega) ae) ?_;refine quiet _ (fun w H=>a_ (a:=([46,105,32]++cQ t.ni++[10,46,111,32]++cQ t.no++[10,46,116,121,112,101,32]++dF t.kd++[10,46,112,32])) (b:=cQ t.ls.length) (by simp only[List.length_append,List.length_cons,List.length_nil];omega) ae) ?_;refine quiet _ (fun w H=>a_ (a:=([46,105,32]++cQ t.ni++[10,46,111,32]++cQ t.no++[10,46,116,121,112,101,32]++dF t.kd++[10,46,112,32]++cQ t.ls.length)) (b:=[10]) (by simp only[List.length_append,List.length_cons,List.length_nil];omega) ae) ?_;exact ⟨(),⟨rfl,trivial⟩,H.forget⟩
 clear H;rintro ⟨⟩ u w3 H;refine ak (γ:=Unit) (fun _=>[(4,aU (e_ t++dx t.ni t.ls))]) (fun _ w'=>aT w w') ?_ ?_
 ·refine aa (dy _ _) ?_;refine H.load 0 rfl f_ rfl ?_;refine ay underlying31 ?_;refine ax (γ:=Nat) (fun i=>[(40,.int .i64 (i:Int)),(4,aU (e_ t++dx t.ni (t.ls.take i)))]) (fun i w'=>i≤t.ls.length∧Hp w ab w' [an g1 33 (di t.kd t.ni t.no (.slice B t.ls.length c))] []) (fun i=>t.ls.length - i) 0 ⟨rfl,congrArg aU (by rw[show dx t.ni (t.ls.take 0)=[] from rfl,List.append_nil]:e_ t=e_ t++dx t.ni (t.ls.take 0)),trivial⟩ ⟨Nat.zero_le _,H⟩ ?_;clear H;rintro i u g ⟨hi,H⟩;have T:(dx t.ni (t.ls.take i)).length≤14*64:=by
   have h:=mz q F (t.ls.take i) fun l O=>f.ls l (List.mem_of_mem_take O);rw[List.length_take] at h;omega
  refine au (fun h7=>?_) (fun h7=>?_)
  ·have s:i<t.ls.length:=by omega
   obtain ⟨l,O,U⟩:∃ l,t.ls[i]?=some l∧l ∈ t.ls:=⟨_,List.getElem?_eq_getElem s,List.getElem_mem s⟩;obtain ⟨B',y,V,K⟩:=Q i l O;have C:=f.ls l U;have hol:=C.len;obtain ⟨s1,s2,s3⟩:=kY f.ni C;obtain ⟨o,k,rfl⟩:=E.A (by omega);obtain ⟨D,p,rfl⟩:=K.A (by have:=f.no1;omega);have X:t.ls.take (i+1)=t.ls.take i++[l]:=by rw[List.take_add_one,O];rfl
   have n:(dK l.1 l.2.1 t.ni).length=t.ni:=by simp[dK]
   refine ak (γ:=Unit) (fun _=>[(4,aU (e_ t++dx t.ni (t.ls.take (i+1))))]) (fun _ w'=>Hp w ab w' [an g1 33 (di t.kd t.ni t.no (.slice (some ⟨o,k,none⟩) t.ls.length c))] []) ?_ ?_
   ·refine ak (γ:=Nat) (fun g9=>[(6,(ah g9))]) (fun g9 w'=>Hp w ab w' [an g9 77 (fM l.1 l.2.1 (.slice (some ⟨D,p,none⟩) l.2.2.length y)),an g1 33 (di t.kd t.ni t.no (.slice (some ⟨o,k,none⟩) t.ls.length c))] []) ?_ ?_
    ·refine ao underlying31 cF i rfl s (o':=k+i*3) (by omega) ?_;refine Sl.cA H E eR mw cF i rfl V ?_;refine H.alloc 77 (cs:=fM 0 0 (.slice none 0 0)) lO rfl ?_;clear H;intro g4 g H;refine H.storeAll 0 rfl cF rfl (eS (m:=l.1) (v:=l.2.1)) ?_;clear H;intro I H;exact ⟨g4,⟨rfl,trivial⟩,H⟩
    clear H;rintro g9 u g H;refine ak (γ:=Unit) (fun _=>[(7,aU (dK l.1 l.2.1 t.ni))]) (fun _ w'=>Hp w ab w' [an g9 77 (fM l.1 l.2.1 (.slice (some ⟨D,p,none⟩) l.2.2.length y)),an g1 33 (di t.kd t.ni t.no (.slice (some ⟨o,k,none⟩) t.ls.length c))] []) ?_ ?_
    ·refine aa (xn _) ?_;refine fJ (H.get 0 rfl) (cc l.1 l.2.1).toList bz aO (sG _ _ _) ?_;refine aa (eC _ _) ?_;refine H.load 1 rfl aF rfl ?_;refine aj (LY l.1 l.2.1 s1 s2 t.ni q s3 _) ?_;rintro _ I ⟨rfl,d⟩;exact ⟨(),⟨rfl,trivial⟩,H.same d⟩
    clear H;rintro ⟨⟩ u I H;refine ak (γ:=Unit) (fun _=>[(4,aU (e_ t++dx t.ni (t.ls.take i)++(dK l.1 l.2.1 t.ni++[32])))]) (fun _ w'=>Hp w ab w' [an g9 77 (fM l.1 l.2.1 (.slice (some ⟨D,p,none⟩) l.2.2.length y)),an g1 33 (di t.kd t.ni t.no (.slice (some ⟨o,k,none⟩) t.ls.length c))] []) ?_ ?_
    ·refine a_ (a:=dK l.1 l.2.1 t.ni) (b:=[32]) (by rw[n];simp only[List.length_cons,List.length_nil];omega) ?_;refine a_ (a:=e_ t++dx t.ni (t.ls.take i)) (by simp only[List.length_append,List.length_cons,List.length_nil,n];omega) ?_;exact ⟨(),⟨rfl,trivial⟩,H⟩
    clear H;rintro ⟨⟩ u w6 H;refine ak (γ:=Unit) (fun _=>[(4,aU (e_ t++dx t.ni (t.ls.take i)++(dK l.1 l.2.1 t.ni++[32])++l.2.2.map eV))]) (fun _ w'=>Hp w ab w' [an g9 77 (fM l.1 l.2.1 (.slice (some ⟨D,p,none⟩) l.2.2.length y)),an g1 33 (di t.kd t.ni t.no (.slice (some ⟨o,k,none⟩) t.ls.length c))] []) ?_ ?_
    ·refine aa (eI _) ?_;refine H.load 0 rfl e8 rfl ?_;refine ay underlying75 ?_;refine ax (γ:=Nat) (fun j=>[(59,.int .i64 (j:Int)),(4,aU (e_ t++dx t.ni (t.ls.take i)++(dK l.1 l.2.1 t.ni++[32])++(l.2.2.take j).map eV))]) (fun j w'=>j≤l.2.2.length∧Hp w ab w' [an g9 77 (fM l.1 l.2.1 (.slice (some ⟨D,p,none⟩) l.2.2.length y)),an g1 33 (di t.kd t.ni t.no (.slice (some ⟨o,k,none⟩) t.ls.length c))] []) (fun j=>l.2.2.length - j) 0 ⟨rfl,congrArg aU (by rw[List.take_zero,List.map_nil,List.append_nil]:e_ t++dx t.ni (t.ls.take i)++(dK l.1 l.2.1 t.ni++[32])=e_ t++dx t.ni (t.ls.take i)++(dK l.1 l.2.1 t.ni++[32])++(l.2.2.take 0).map eV),trivial⟩ ⟨Nat.zero_le _,H⟩ ?_;clear H;rintro j u w7 ⟨hj,H⟩;refine au (fun h9=>?_) (fun h9=>?_)
     ·have M:j<l.2.2.length:=by omega
      obtain ⟨x,hx,Y⟩:∃ x,l.2.2[j]?=some x∧x ∈ l.2.2:=⟨_,List.getElem?_eq_getElem M,List.getElem_mem M⟩;have Z:=C.marks x Y;have a0:l.2.2.take (j+1)=l.2.2.take j++[x]:=by rw[List.take_add_one,hx];rfl
      refine ak (γ:=Unit) (fun _=>[(4,aU (e_ t++dx t.ni (t.ls.take i)++(dK l.1 l.2.1 t.ni++[32])++(l.2.2.take (j+1)).map eV))]) (fun _ w'=>Hp w ab w' [an g9 77 (fM l.1 l.2.1 (.slice (some ⟨D,p,none⟩) l.2.2.length y)),an g1 33 (di t.kd t.ni t.no (.slice (some ⟨o,k,none⟩) t.ls.length c))] []) ?_ ?_
      ·refine ak (γ:=Unit) (fun _=>[(10,.int .i64 (x:Int))]) (fun _ w'=>Hp w ab w' [an g9 77 (fM l.1 l.2.1 (.slice (some ⟨D,p,none⟩) l.2.2.length y)),an g1 33 (di t.kd t.ni t.no (.slice (some ⟨o,k,none⟩) t.ls.length c))] []) ?_ ?_
       ·refine ao underlying75 bc j rfl (by omega) (o':=p+j) (by omega) ?_;refine aB aF (((K.same H.keeps).cell j (by omega)).trans (H7 hx)) ?_;exact ⟨(),⟨rfl,trivial⟩,H⟩
       clear H;rintro ⟨⟩ u w8 H;refine rr (l:=[48,49,45]) underlying9 x (x+1) rfl (aH (by omega) (by omega)) (by omega) (by simp only[List.length_cons,List.length_nil];omega) ?_;rw[FV Z];refine a_ (a:=e_ t++dx t.ni (t.ls.take i)++(dK l.1 l.2.1 t.ni++[32])++(l.2.2.take j).map eV) (by simp only[List.length_append,List.length_cons,List.length_nil,List.length_map,List.length_take,n];omega) ?_;have e:e_ t++dx t.ni (t.ls.take i)++(dK l.1 l.2.1 t.ni++[32])++(l.2.2.take j).map eV++[eV x]=e_ t++dx t.ni (t.ls.take i)++(dK l.1 l.2.1 t.ni++[32])++(l.2.2.take (j+1)).map eV:=by rw[a0,List.map_append];exact List.append_assoc _ _ _
       exact ⟨(),⟨congrArg aU e,trivial⟩,H⟩
      ·clear H;rintro ⟨⟩ u w8 H;exact ⟨j+1,by show l.2.2.length - (j+1)<l.2.2.length - j;omega,⟨up (by omega),rfl,trivial⟩,by show j+1≤l.2.2.length;omega,H⟩
     ·obtain rfl:j=l.2.2.length:=by omega
      exact ⟨(),⟨congrArg aU (by rw[List.take_length]:e_ t++dx t.ni (t.ls.take i)++(dK l.1 l.2.1 t.ni++[32])++(l.2.2.take l.2.2.length).map eV=e_ t++dx t.ni (t.ls.take i)++(dK l.1 l.2.1 t.ni++[32])++l.2.2.map eV),trivial⟩,H⟩
    clear H;rintro ⟨⟩ u w7 H;refine a_ (a:=e_ t++dx t.ni (t.ls.take i)++(dK l.1 l.2.1 t.ni++[32])++l.2.2.map eV) (b:=[10]) (by simp only[List.length_append,List.length_cons,List.length_nil,List.length_map,n];omega) ?_;have e:e_ t++dx t.ni (t.ls.take i)++(dK l.1 l.2.1 t.ni++[32])++l.2.2.map eV++[10]=e_ t++dx t.ni (t.ls.take (i+1)):=by
     rw[X,AZ];unfold gI;simp only[List.append_assoc,List.cons_append,List.nil_append]
    exact ⟨(),⟨congrArg aU e,trivial⟩,H.forget⟩
   ·clear H;rintro ⟨⟩ u I H;exact ⟨i+1,by show t.ls.length - (i+1)<t.ls.length - i;omega,⟨up (by omega),rfl,trivial⟩,by show i+1≤t.ls.length;omega,H⟩
  ·obtain rfl:i=t.ls.length:=by omega
   exact ⟨(),⟨congrArg aU (by rw[List.take_length]:e_ t++dx t.ni (t.ls.take t.ls.length)=e_ t++dx t.ni t.ls),trivial⟩,H.keeps⟩
 clear H;rintro ⟨⟩ u g d;have T:=mz q F t.ls f.ls;refine a_ (a:=e_ t++dx t.ni t.ls) (b:=[46,101,10]) (by simp only[List.length_append,List.length_cons,List.length_nil];omega) ?_;exact ⟨rfl,d⟩
end Go.Proofs.YtpjihhgjbbihkaaGreatDoor
namespace Go.Dk
theorem H8 {l:List UInt8}{n:Int}(h:Lib.atoiAll l=.ok n):-9223372036854775808≤n∧n≤9223372036854775807:=by
 unfold Lib.atoiAll at h;split at h
 ·cases h
 ·simp only at h;split at h
  ·cases h
  ·cases h
  ·split at h
   ·cases h
   ·split at h
    ·cases h
    ·injection h with h;subst h;split <;> omega
def ee (wd:List UInt8)(lo hi:Nat)(line:List UInt8):Int:=
 match (List.range (hi+1)).find? (fun n=>decide (lo≤n)&&(line==wd++32::cQ n)) with
 | some n=>n
 | none=> -1
theorem FW {n m:Nat}(a:n<65)(hm:m<65)(h:cQ n=cQ m):n=m:=by
 have key:((List.range 65).all fun n=>(List.range 65).all fun m=>n==m||cQ n !=cQ m)=true:=by decide +kernel
 rw[List.all_eq_true] at key;have:=key n (List.mem_range.2 a);rw[List.all_eq_true] at this;have:=this m (List.mem_range.2 hm);rw[Bool.or_eq_true,beq_iff_eq,bne_iff_ne] at this;exact this.resolve_right fun b=>b h
theorem Dy {n:Nat}(a:n<65):Lib.atoiAll (cQ n)=.ok (n:Int):=by
 have key:((List.range 65).all fun n=>match Lib.atoiAll (cQ n) with | .ok m=>m==(n:Int) | _=>false)=true:=by decide +kernel
 rw[List.all_eq_true] at key;have:=key n (List.mem_range.2 a);split at this
 ·rename_i m hm;rw[hm,beq_iff_eq.1 this]
 ·cases this
theorem qz {wd:List UInt8}{lo hi n:Nat}{line:List UInt8}(c:hi<65)(d:lo≤n)(e:n≤hi)(h:line=wd++32::cQ n):ee wd lo hi line=n:=by
 unfold ee
 cases hf:(List.range (hi+1)).find? (fun n=>decide (lo≤n)&&(line==wd++32::cQ n)) with
 | none=>
  have:=List.find?_eq_none.1 hf n (List.mem_range.2 (by omega));simp[d,h] at this
 | some m=>
  have b:=List.find?_some hf;have f:=List.mem_range.1 (List.mem_of_find?_eq_some hf);simp only[Bool.and_eq_true,decide_eq_true_eq,beq_iff_eq] at b;have a:=b.2;rw[h] at a;have a:=List.append_cancel_left a;injection a with _ a;have:=FW (by omega) (by omega) a;subst this;rfl
theorem vL {wd:List UInt8}{lo hi:Nat}{line:List UInt8}(h:∀ n,lo≤n→n≤hi→line≠wd++32::cQ n):ee wd lo hi line= -1:=by
 unfold ee;have:(List.range (hi+1)).find? (fun n=>decide (lo≤n)&&(line==wd++32::cQ n))=none:=by
  rw[List.find?_eq_none];intro n b;have:=List.mem_range.1 b;intro a;simp only[Bool.and_eq_true,decide_eq_true_eq,beq_iff_eq] at a;exact h n a.1 (by omega) a.2
 rw[this]
theorem vM {wd:List UInt8}{lo hi:Nat}{line:List UInt8}(h:0≤ee wd lo hi line):∃ n,lo≤n∧n≤hi∧ee wd lo hi line=n∧line=wd++32::cQ n:=by
 unfold ee at h ⊢
 cases hf:(List.range (hi+1)).find? (fun n=>decide (lo≤n)&&(line==wd++32::cQ n)) with
 | none=>rw[hf] at h;exact absurd h (by decide)
 | some m=>
  have a:=List.find?_some hf;have b:=List.mem_range.1 (List.mem_of_find?_eq_some hf);simp only[Bool.and_eq_true,decide_eq_true_eq,beq_iff_eq] at a;exact ⟨m,a.1,by omega,rfl,a.2⟩
theorem vN {l p:List UInt8}(h:Lib.hasPrefix l p=true):l=p++l.drop p.length:=by
 obtain ⟨t,rfl⟩:=List.isPrefixOf_iff_prefix.1 h;simp
theorem Dz {wd:List UInt8}{lo hi:Nat}(a:hi<65){line:List UInt8}{n:Int}(c:Lib.hasPrefix line (wd++[32])=true)(he:Lib.atoiAll (line.drop (wd++[32]).length)=.ok n)(hit:Lib.itoa n=line.drop (wd++[32]).length)(d:(lo:Int)≤n)(e:n≤(hi:Int)):ee wd lo hi line=n:=by
 obtain ⟨k,rfl⟩:∃ k:Nat,n=k:=⟨n.toNat,by omega⟩;have b:=vN c;rw[Lib.itoa_nonneg,jW (by omega)] at hit;rw[← hit] at b;exact qz a (by omega) (by omega) (by rw[b];simp)
theorem mA {wd:List UInt8}{lo hi:Nat}(c:hi<65){line:List UInt8}(h:∀ n,Lib.hasPrefix line (wd++[32])=true→Lib.atoiAll (line.drop (wd++[32]).length)=.ok (n:Int)→(line.drop (wd++[32]).length).length≤2→Lib.itoa n=line.drop (wd++[32]).length→(lo:Int)≤n→n≤(hi:Int)→False):ee wd lo hi line= -1:=by
 refine vL fun n d e b=>?_;have a:line.drop (wd++[32]).length=cQ n:=by rw[b];simp
 refine h n ?_ ?_ ?_ ?_ (by omega) (by omega)
 ·rw[b];exact List.isPrefixOf_iff_prefix.2 ⟨cQ n,by simp⟩
 ·rw[a];exact Dy (by omega)
 ·rw[a];exact jX n
 ·rw[a,Lib.itoa_nonneg,jW (by omega)]
end Go.Dk
namespace Go.Proofs.YtpjihhgjbbihkaaGreatDoor
open Go.Proofs.Tryz
open Go.Dk
set_option maxRecDepth 100000
attribute [local irreducible] IntKind.wrap
theorem k9 {x:Nat}{w:World}{kk:Value→World→Prop}(h:kk (.bool false) w):cW prog .neq 155 (.tmp x) (.const .nilIface) .nilIface .nilIface w kk:=by
 unfold cW;refine ⟨_,w,?_,h⟩
 kernel_rfl
theorem A_ {x:Nat}{N:Nat}{w:World}{kk:Value→World→Prop}(h:kk (.bool true) w):cW prog .neq 155 (.tmp x) (.const .nilIface) (.iface 234 (ah N)) .nilIface w kk:=by
 unfold cW;refine ⟨_,w,?_,h⟩
 kernel_rfl
theorem M0:enters prog 72=true:=by kernel_rfl
set_option maxHeartbeats 4000000 in
theorem c72 (line wd:List UInt8)(z:line.length≤100000)(hw:wd.length≤10)(lo hi:Nat)(e:hi<65)(w:World)(o:jA w):bw prog 72 [aU line,aU wd,.int .i64 (lo:Int),.int .i64 (hi:Int)] w fun r w'=>r=.int .i64 (ee wd lo hi line)∧aT w w':=by
 refine ar (N:=53) func72 M0 rfl rfl rfl (by simp) ?_;have H:=Hp.aC w;refine ak (γ:=Unit) (fun _=>[(8,.int .i64 0)]) (fun _ w'=>Hp w ab w' [] []) ⟨(),⟨rfl,trivial⟩,H⟩ ?_;clear H;rintro ⟨⟩ u C H;refine ak (γ:=Unit) (fun _=>[(9,aU (Lib.trimPrefix line (wd++[32]))),(10,.bool (Lib.hasPrefix line (wd++[32])))]) (fun _ w'=>Hp w ab w' [] []) ?_ ?_
 ·refine a_ (b:=[32]) (by simp only[List.length_cons,List.length_nil];omega) ?_;refine aj (OU _ _ _) ?_;rintro _ A ⟨rfl,d⟩;exact ⟨(),⟨rfl,rfl,trivial⟩,H.same d⟩
 clear H;rintro ⟨⟩ u A H;have p:(Lib.trimPrefix line (wd++[32])).length≤100000:=by
  unfold Lib.trimPrefix;split
  ·rw[List.length_drop];omega
  ·exact z
 have c:Lib.hasPrefix line (wd++[32])=true→Lib.trimPrefix line (wd++[32])=line.drop (wd++[32]).length:=fun s=>by unfold Lib.trimPrefix;rw[if_pos s]
 generalize Lib.trimPrefix line (wd++[32])=rest at p c;refine ak (γ:=Int × Value) (fun (n,ev)=>[(11,.int .i64 n),(12,ev)]) (fun (n,ev) w'=>((Lib.atoiAll rest=.ok n∧ev=.nilIface)∨((∀ m,Lib.atoiAll rest≠.ok m)∧∃ N,ev=.iface 234 (ah N)))∧Hp w ab w' [] []) ?_ ?_
 ·refine aj (O_ rest (by omega) _ (o.same H.keeps)) ?_;rintro _ B ⟨n,ev,rfl,t,d⟩;rcases t with ⟨a,rfl⟩ | ⟨a,N,rfl⟩
  ·exact ⟨(n,_),⟨rfl,rfl,trivial⟩,.inl ⟨a,rfl⟩,H.same d⟩
  ·exact ⟨(n,_),⟨rfl,rfl,trivial⟩,.inr ⟨a,N,rfl⟩,H.same d⟩
 clear H;rintro ⟨n,ev⟩ u B ⟨t,H⟩
 cases s:Lib.hasPrefix line (wd++[32]) with
 | false=>
  have f:=mA (wd:=wd) (lo:=lo) e (line:=line) fun n h=>absurd (s.symm.trans h) (by simp)
  iterate 21 refine ag rfl ?_
  exact ⟨by rw[f];rfl,H.keeps⟩
 | true=>
  replace c:=c s;subst c;have y:(⟨(line.drop (wd++[32]).length).toArray⟩:ByteArray).size=(line.drop (wd++[32]).length).length:=rfl;generalize g:line.drop (wd++[32]).length=q at y t p;rcases t with ⟨a,rfl⟩ | ⟨a,N,rfl⟩
  ·obtain ⟨v,x⟩:=H8 a;by_cases hlen:((⟨q.toArray⟩:ByteArray).size:Int)>2
   ·have f:=mA (wd:=wd) (lo:=lo) e (line:=line) fun m _ _ h _ _ _=>by rw[g] at h;omega
    iterate 2 refine af rfl ?_
    refine k9 ?_
    iterate 3 refine af rfl ?_
    refine ed underlying9 ?_
    iterate 2 refine af rfl ?_
    iterate 5 refine ag (decide_eq_true (by assumption)) ?_
    iterate 9 refine ag rfl ?_
    exact ⟨by rw[f];rfl,H.keeps⟩
   ·cases hit:(Lib.itoa n==q) with
    | false=>
     have f:=mA (wd:=wd) (lo:=lo) e (line:=line) fun m _ k _ l _ _=>by
      rw[g] at k l;rw[a] at k;injection k with k;rw[← k] at l;rw[l] at hit;simp at hit
     iterate 2 refine af rfl ?_
     refine k9 ?_
     iterate 3 refine af rfl ?_
     refine ed underlying9 ?_
     iterate 2 refine af rfl ?_
     iterate 2 refine af (decide_eq_false (by assumption)) ?_
     refine aj (NH n v x _ (o.same H.keeps)) ?_;rintro _ i ⟨rfl,d⟩;replace H:=H.same d;clear d
     iterate 2 refine af (decide_eq_false (by assumption)) ?_
     refine gS ?_;refine af (decide_eq_false (by assumption)) ?_
     iterate 4 refine ag (by rw[hit];rfl) ?_
     iterate 5 refine ag rfl ?_
     exact ⟨by rw[f];rfl,H.keeps⟩
    | true=>
     by_cases k:n<(lo:Int)
     ·have f:=mA (wd:=wd) (lo:=lo) e (line:=line) fun m _ j _ _ l _=>by
       rw[g,a] at j;injection j with j;omega
      iterate 2 refine af rfl ?_
      refine k9 ?_
      iterate 3 refine af rfl ?_
      refine ed underlying9 ?_
      iterate 2 refine af rfl ?_
      iterate 2 refine af (decide_eq_false (by assumption)) ?_
      refine aj (NH n v x _ (o.same H.keeps)) ?_;rintro _ i ⟨rfl,d⟩;replace H:=H.same d;clear d
      iterate 2 refine af (decide_eq_false (by assumption)) ?_
      refine gS ?_;refine af (decide_eq_false (by assumption)) ?_
      iterate 4 refine af (by rw[hit];rfl) ?_
      iterate 4 refine ag (decide_eq_true (by assumption)) ?_
      refine ag rfl ?_;exact ⟨by rw[f];rfl,H.keeps⟩
     ·by_cases l:n>(hi:Int)
      ·have f:=mA (wd:=wd) (lo:=lo) e (line:=line) fun m _ j _ _ _ l=>by
        rw[g,a] at j;injection j with j;omega
       iterate 2 refine af rfl ?_
       refine k9 ?_
       iterate 3 refine af rfl ?_
       refine ed underlying9 ?_
       iterate 2 refine af rfl ?_
       iterate 2 refine af (decide_eq_false (by assumption)) ?_
       refine aj (NH n v x _ (o.same H.keeps)) ?_;rintro _ i ⟨rfl,d⟩;replace H:=H.same d;clear d
       iterate 2 refine af (decide_eq_false (by assumption)) ?_
       refine gS ?_;refine af (decide_eq_false (by assumption)) ?_
       iterate 4 refine af (by rw[hit];rfl) ?_
       iterate 4 refine af (decide_eq_false (by assumption)) ?_
       refine ag (decide_eq_true (by assumption)) ?_;exact ⟨by rw[f];rfl,H.keeps⟩
      ·have f:=Dz (lo:=lo) e s (by rw[g];exact a) (by rw[g];exact beq_iff_eq.1 hit) (by omega) (by omega)
       iterate 2 refine af rfl ?_
       refine k9 ?_
       iterate 3 refine af rfl ?_
       refine ed underlying9 ?_
       iterate 2 refine af rfl ?_
       iterate 2 refine af (decide_eq_false (by assumption)) ?_
       refine aj (NH n v x _ (o.same H.keeps)) ?_;rintro _ i ⟨rfl,d⟩;replace H:=H.same d;clear d
       iterate 2 refine af (decide_eq_false (by assumption)) ?_
       refine gS ?_;refine af (decide_eq_false (by assumption)) ?_
       iterate 4 refine af (by rw[hit];rfl) ?_
       iterate 5 refine af (decide_eq_false (by assumption)) ?_
       exact ⟨by rw[f];rfl,H.keeps⟩
  ·have f:=mA (wd:=wd) (lo:=lo) e (line:=line) fun m _ h _ _ _ _=>a m (by rw[← g];exact h)
   iterate 2 refine af rfl ?_
   refine A_ ?_;refine af rfl ?_
   iterate 18 refine ag rfl ?_
   exact ⟨by rw[f];rfl,H.keeps⟩
structure Rd where
 kd:Nat
 ni:Nat
 no:Nat
 st:Nat
 told:Int
 ls:List Ln
def lK (ni no:Nat)(a b:List UInt8)(ok:Bool):Bool:=ok&&bk a&&(a.length==ni)&&(b.length==no)
def km (ni no:Nat)(line:List UInt8):Option Ln:=
 if lK ni no (Lib.cut line [32]).1 (Lib.cut line [32]).2.1 (Lib.cut line [32]).2.2=true∧(Lib.cut line [32]).2.1.all fw=true then
  some (dA (Lib.cut line [32]).1 (Lib.cut line [32]).1.length,dB (Lib.cut line [32]).1 (Lib.cut line [32]).1.length,(Lib.cut line [32]).2.1.map bH)
 else none
def Lt (kd ni no:Int)(v:Value)(st told:Int):Array Value:=#[.int .i64 kd,.int .i64 ni,.int .i64 no,v,.int .i64 st,.int .i64 told]
abbrev pf (g:Nat)(s:Rd)(v:Value)(hs:List Hd)(S:Nat→Prop):List cH:=[an g 100 (Lt s.kd s.ni s.no v s.st s.told),own 77 3 v s.ls.length (flat kX hs),qM S hs s.ls]
def nZ (g:Nat)(s:Rd)(v:Value)(hs:List Hd)(S:Nat→Prop):cH:=sa (pf g s v hs S)
theorem M1 {g:Nat}{s:Rd}{v:Value}{hs:List Hd}{S:Nat→Prop}{w:World}(h:(nZ g s v hs S).ok w):∀ x,(nZ g s v hs S).foot x→x<w.heap.size:=fun x ⟨q,a,b⟩=>h.2.1 q a x b
theorem qA {g:Nat}{s:Rd}{v:Value}{hs:List Hd}{S:Nat→Prop}{w:World}(h:(nZ g s v hs S).ok w):Hp w (nZ g s v hs S).foot w (pf g s v hs S) []:=
 (Hp.I8 h (M1 h)).split
theorem jI {g:Nat}{s:Rd}{v:Value}{hs:List Hd}{S:Nat→Prop}{w0 w:World}{F:Nat→Prop}{L M:List cH}(H:Hp w0 F w (an g 100 (Lt s.kd s.ni s.no v s.st s.told)::own 77 3 v s.ls.length (flat kX hs)::qM S hs s.ls::L) M):Hp w0 F w (nZ g s v hs S::L) M:=
 Hp.join (Ls:=pf g s v hs S) H
theorem _root_.Go.Dk.Hp.FX {w0 w:World}{F:Nat→Prop}{L M:List cH}{S:Nat→Prop}{hs:List Hd}{Q:List Ln}{v:Value}{l:Ln}(H:Hp w0 F w (own 3 1 v l.2.2.length (ints l.2.2)::qM S hs Q::L) M) :
  ∃ e,Hp w0 F w (qM e (hs++[(l.1,l.2.1,v)]) (Q++[l])::L) M:=by
 have a:=H.get 0 rfl;have b:=H.get 1 rfl;have f:=Hp.join (Ls:=[own 3 1 v l.2.2.length (ints l.2.2),qM S hs Q]) H;refine ⟨(sa [own 3 1 v l.2.2.length (ints l.2.2),qM S hs Q]).foot,f.re (fun _=>?_) fun g d=>d⟩;obtain ⟨A,c,rfl,_⟩:=fh a;exact lN.snoc (lN.mono b fun g d=>⟨_,.tail _ (.head _),d⟩) ⟨rfl,rfl,A,c,rfl,sl.mono (iH a) fun g d=>⟨_,.head _,d⟩⟩
theorem fC (g:Nat)(w:World):(Instr.fieldAt 100 (ah g) 0).run prog w=.ok (ah g) w:=by kernel_rfl
theorem ik (g:Nat)(w:World):(Instr.fieldAt 100 (ah g) 1).run prog w=.ok (.pointer (some ⟨g,4,none⟩)) w:=by kernel_rfl
theorem xr (g:Nat)(w:World):(Instr.fieldAt 100 (ah g) 2).run prog w=.ok (.pointer (some ⟨g,5,none⟩)) w:=by kernel_rfl
theorem uf {l:List UInt8}{i:Nat}(hi:i<l.length):(l.take (i+1)).map bH=(l.take i).map bH++[bH l[i]]:=by
 rw[List.take_add_one,List.getElem?_eq_getElem hi,List.map_append];rfl
theorem M3:enters prog 74=true:=by kernel_rfl
set_option maxHeartbeats 4000000 in
theorem Ph (line:List UInt8)(hl:line.length≤100000)(g:Nat)(s:Rd)(hls:s.ls.length≤64)(v:Value)(hs:List Hd)(S:Nat→Prop)(w:World)(hg:jA w)(Z:∀ x,K4 x→¬ (nZ g s v hs S).foot x)(hR:(nZ g s v hs S).ok w) :
  bw prog 74 [(ah g),aU line] w fun r w'=>
   (km s.ni s.no line=none∧r=.bool false∧∃ R',jS w w' (nZ g s v hs S) R')∨
   (∃ l v' hs' X,km s.ni s.no line=some l∧r=.bool true∧jS w w' (nZ g s v hs S) (nZ g { s with ls:=s.ls++[l] } v' hs' X)):=by
 refine ar (N:=88) func74 M3 rfl rfl rfl (by simp) ?_;obtain ⟨d,c0,rfl,hc0⟩:=fh ((qA hR).get 1 rfl);have H:=qA hR;have hgu:∀ u L M,Hp w (nZ g s (.slice d s.ls.length c0) hs S).foot u L M→jA u:=fun u L M H=>hg.bQ fun x hx=>H.keeps.old x (hg.lt x hx) (Z x hx);have G:(Lib.cut line [32]).1.length≤100000:=by
  unfold Lib.cut;split
  ·exact Nat.le_trans (List.length_take_le' _ _) hl
  ·exact hl
 have I:(Lib.cut line [32]).2.1.length≤100000:=by
  unfold Lib.cut;split
  ·show (List.drop _ _).length≤_;rw[List.length_drop];omega
  ·exact Nat.zero_le _
 have f:km s.ni s.no line=if lK s.ni s.no (Lib.cut line [32]).1 (Lib.cut line [32]).2.1 (Lib.cut line [32]).2.2=true∧(Lib.cut line [32]).2.1.all fw=true then some (dA (Lib.cut line [32]).1 (Lib.cut line [32]).1.length,dB (Lib.cut line [32]).1 (Lib.cut line [32]).1.length,(Lib.cut line [32]).2.1.map bH) else none:=rfl;have p:=Ov line [32] (by omega);generalize Lib.cut line [32]=q at G I f p;obtain ⟨a,b,ok⟩:=q;simp only at G I f p;refine ak (γ:=Unit) (fun _=>[(4,.bool false)]) (fun _ w'=>Hp w (nZ g s (.slice d s.ls.length c0) hs S).foot w' (pf g s (.slice d s.ls.length c0) hs S) []) ⟨(),⟨rfl,trivial⟩,H⟩ ?_;clear H;rintro ⟨⟩ u w1 H;refine ak (γ:=Unit) (fun _=>[(5,aU a),(6,aU b),(7,.bool ok)]) (fun _ w'=>Hp w (nZ g s (.slice d s.ls.length c0) hs S).foot w' (pf g s (.slice d s.ls.length c0) hs S) []) ?_ ?_
 ·refine aj (p _ (hgu _ _ _ H)) ?_;rintro _ w2 ⟨rfl,Y⟩;exact ⟨(),⟨rfl,rfl,rfl,trivial⟩,H.same Y⟩
 clear H p;rintro ⟨⟩ u w2 H;refine ak (γ:=Nat) (fun g8=>[(8,(ah g8)),(9,.int .i64 (if bk a then 0 else 2))]) (fun g8 w'=>Hp w (nZ g s (.slice d s.ls.length c0) hs S).foot w' (an g8 48 (cc (if bk a then dA a a.length else 0) (if bk a then dB a a.length else 0))::pf g s (.slice d s.ls.length c0) hs S) []) ?_ ?_
 ·refine aj (NT a (by omega) _) ?_;rintro _ w3 ⟨rfl,Y⟩;replace H:=H.same Y;clear Y;have e:jv a=cv (if bk a then dA a a.length else 0) (if bk a then dB a a.length else 0):=by unfold jv;split <;> rfl
  rw[e];refine H.alloc 48 (cs:=cc 0 0) fj rfl ?_;clear H;intro g8 w4 H;refine H.bR 0 rfl ?_;clear H;intro w5 H;exact ⟨g8,⟨rfl,rfl,trivial⟩,H⟩
 clear H;rintro g8 u w3 H;have o:lK s.ni s.no a b ok=false→km s.ni s.no line=none:=fun h=>by rw[f,h,if_neg (by simp)]
 have k:∀ (u:World) (L:List cH),Hp w (nZ g s (.slice d s.ls.length c0) hs S).foot u (pf g s (.slice d s.ls.length c0) hs S++L) []→∃ R',jS w u (nZ g s (.slice d s.ls.length c0) hs S) R':=fun u L H=>⟨_,(jI H).bg⟩;refine aw (fun w'=>lK s.ni s.no a b ok=true∧Hp w (nZ g s (.slice d s.ls.length c0) hs S).foot w' (an g8 48 (cc (if bk a then dA a a.length else 0) (if bk a then dB a a.length else 0))::pf g s (.slice d s.ls.length c0) hs S) []) ?_ ?_
 ·have hsa:(⟨a.toArray⟩:ByteArray).size=a.length:=gZ a;have hsb:(⟨b.toArray⟩:ByteArray).size=b.length:=gZ b
  cases ok with
  | false=>
   have z:=o rfl
   iterate 22 refine ag rfl ?_
   exact .inl ⟨z,rfl,k _ [] H.forget⟩
  | true=>
   cases A:bk a with
   | false=>
    have z:=o (by unfold lK;rw[A];rfl)
    iterate 3 refine af rfl ?_
    iterate 19 refine ag rfl ?_
    exact .inl ⟨z,rfl,k _ [] H.forget⟩
   | true=>
    by_cases h1:a.length=s.ni
    ·by_cases J:b.length=s.no
     ·have z:lK s.ni s.no a b true=true:=by unfold lK;rw[A,h1,J];simp
      iterate 5 refine af rfl ?_
      refine ed underlying9 ?_
      iterate 3 refine af rfl ?_
      refine aa (fC _) ?_;refine af rfl ?_;refine aa (eC _ _) ?_;refine af rfl ?_;refine H.load 1 rfl aF rfl ?_
      iterate 2 refine af rfl ?_
      iterate 2 refine af (bne_eq_false_iff_eq.2 (by omega)) ?_
      refine ed underlying9 ?_
      iterate 3 refine af (bne_eq_false_iff_eq.2 (by omega)) ?_
      refine aa (fC _) ?_;refine af (bne_eq_false_iff_eq.2 (by omega)) ?_;refine aa (fB _ _) ?_;refine af (bne_eq_false_iff_eq.2 (by omega)) ?_;refine H.load 1 rfl aF rfl ?_
      iterate 3 refine af (bne_eq_false_iff_eq.2 (by omega)) ?_
      exact ⟨(),trivial,z,by rw[A] at H;exact H⟩
     ·have z:=o (by unfold lK;rw[beq_eq_false_iff_ne.2 J];simp)
      iterate 5 refine af rfl ?_
      refine ed underlying9 ?_
      iterate 3 refine af rfl ?_
      refine aa (fC _) ?_;refine af rfl ?_;refine aa (eC _ _) ?_;refine af rfl ?_;refine H.load 1 rfl aF rfl ?_
      iterate 2 refine af rfl ?_
      iterate 2 refine af (bne_eq_false_iff_eq.2 (by omega)) ?_
      refine ed underlying9 ?_
      iterate 3 refine af (bne_eq_false_iff_eq.2 (by omega)) ?_
      refine aa (fC _) ?_;refine af (bne_eq_false_iff_eq.2 (by omega)) ?_;refine aa (fB _ _) ?_;refine af (bne_eq_false_iff_eq.2 (by omega)) ?_;refine H.load 1 rfl aF rfl ?_
      iterate 2 refine af (bne_eq_false_iff_eq.2 (by omega)) ?_
      refine ag (bne_iff_ne.2 (by omega)) ?_;exact .inl ⟨z,rfl,k _ [] H.forget⟩
    ·have z:=o (by unfold lK;rw[beq_eq_false_iff_ne.2 h1];simp)
     iterate 5 refine af rfl ?_
     refine ed underlying9 ?_
     iterate 3 refine af rfl ?_
     refine aa (fC _) ?_;refine af rfl ?_;refine aa (eC _ _) ?_;refine af rfl ?_;refine H.load 1 rfl aF rfl ?_
     iterate 2 refine af rfl ?_
     iterate 9 refine ag (bne_iff_ne.2 (by omega)) ?_
     refine ag rfl ?_;exact .inl ⟨z,rfl,k _ [] H.forget⟩
 clear H;rintro ⟨⟩ u w4 ⟨K,H⟩;have B:=K;unfold lK at B;simp only[Bool.and_eq_true,beq_iff_eq] at B;obtain ⟨⟨⟨hok,A⟩,hla⟩,hlb⟩:=B;rw[A,if_pos rfl,if_pos rfl] at H;clear o;generalize dA a a.length=m at H f;generalize dB a a.length=vv at H f;refine ak (γ:=Nat) (fun g10=>[(10,(ah g10))]) (fun g10 w'=>Hp w (nZ g s (.slice d s.ls.length c0) hs S).foot w' (an g10 77 (fM m vv (.slice none 0 0))::own 3 1 (.slice none 0 0) 0 []::pf g s (.slice d s.ls.length c0) hs S) []) ?_ ?_
 ·refine H.ai 0 rfl bz aO ?_;refine xq ?_;refine H.alloc 77 (cs:=fM 0 0 (.slice none 0 0)) lO rfl ?_;clear H;intro g10 w6 H;refine H.storeAll 0 rfl cF rfl (eS (m:=m) (v:=vv)) ?_;clear H;intro w7 H;exact ⟨g10,⟨rfl,trivial⟩,(H.bx 3 1).b7 [1,0,3,4,5] (by decide) rfl⟩
 clear H;rintro g10 u w5 H;refine ak (γ:=Option Addr × Nat) (fun _=>[]) (fun (n,d2) w'=>b.all fw=true∧Hp w (nZ g s (.slice d s.ls.length c0) hs S).foot w' (an g10 77 (fM m vv (.slice n b.length d2))::own 3 1 (.slice n b.length d2) b.length (ints (b.map bH))::pf g s (.slice d s.ls.length c0) hs S) []) ?_ ?_
 ·refine H.ya underlying9 ?_;clear H;intro g11 w6 H;refine ax (γ:=Nat × Option Addr × Nat) (fun _=>[]) (fun (i,n,d2) w'=>(i≤b.length∧∀ j (h:j<b.length),j<i→fw b[j]=true)∧Hp w (nZ g s (.slice d s.ls.length c0) hs S).foot w' (rR g11 ⟨b.toArray⟩ i::an g10 77 (fM m vv (.slice n i d2))::own 3 1 (.slice n i d2) i (ints ((b.take i).map bH))::pf g s (.slice d s.ls.length c0) hs S) []) (fun (i,_)=>b.length - i) (0,none,0) trivial ⟨⟨by omega,by intro j _ hj;omega⟩,H⟩ ?_;clear H;rintro ⟨i,n,d2⟩ u w7 ⟨⟨hi,t⟩,H⟩;have hsz:=gZ b;refine H.BB 0 rfl (fun hp w12 H=>?_) (fun hp=>?_)
  ·have E:i<b.length:=by omega
   refine ag rfl ?_;have C:fw b[i]=false→km s.ni s.no line=none:=fun h=>by
    rw[f,if_neg];rintro ⟨_,J⟩;rw[List.all_eq_true] at J;rw[J _ (List.getElem_mem E)] at h
    cases h
   by_cases ha:b[i].toNat<128
   ·rw[ve E ha] at H ⊢;refine ak (γ:=Unit) (fun _=>[(12,.int .i32 (b[i].toNat:Int))]) (fun _ w'=>Hp w (nZ g s (.slice d s.ls.length c0) hs S).foot w' (rR g11 ⟨b.toArray⟩ (i+1)::an g10 77 (fM m vv (.slice n i d2))::own 3 1 (.slice n i d2) i (ints ((b.take i).map bH))::pf g s (.slice d s.ls.length c0) hs S) []) ⟨(),⟨rfl,trivial⟩,H⟩ ?_;clear H;rintro ⟨⟩ u w8 H;have D:∀ (u:World) (O:Option Addr) (d3:Nat),fw b[i]=true→Hp w (nZ g s (.slice d s.ls.length c0) hs S).foot u (rR g11 ⟨b.toArray⟩ (i+1)::an g10 77 (fM m vv (.slice O (i+1) d3))::own 3 1 (.slice O (i+1) d3) (i+1) (ints ((b.take i).map bH)++[.int .i64 ((bH b[i]:Nat):Int)])::pf g s (.slice d s.ls.length c0) hs S) []→
      (i+1≤b.length∧∀ j (h:j<b.length),j<i+1→fw b[j]=true)∧Hp w (nZ g s (.slice d s.ls.length c0) hs S).foot u (rR g11 ⟨b.toArray⟩ (i+1)::an g10 77 (fM m vv (.slice O (i+1) d3))::own 3 1 (.slice O (i+1) d3) (i+1) (ints ((b.take (i+1)).map bH))::pf g s (.slice d s.ls.length c0) hs S) []:=fun u O d3 y H=>by
     refine ⟨⟨by omega,lA t y⟩,?_⟩;rw[ju,← uf E] at H;exact H
    refine cg (fun h9=>?_) (fun h9=>?_)
    ·refine ag (beq_iff_eq.2 (by assumption)) ?_;refine aa (eI _) ?_;have y:b[i]=48:=UInt8.toNat_inj.1 (show b[i].toNat=48 by omega);have hw:IntKind.i32.wrap ((b[i].toNat:Int) - 48)=((bH b[i]:Nat):Int):=by rw[y];kernel_rfl
     refine H.load 1 rfl e8 rfl ?_;refine iK (by kernel_rfl) underlying3 (by rw[hw];omega) (by rw[hw,y];decide) ?_;refine H.aX dH rfl ?_;clear H;intro gx Q H;refine H.aG 3 0 dH rfl rfl rfl (fun u hu=>by rw[List.mem_singleton.1 hu];rfl) (by omega) (by omega) ?_;clear H;intro F d4 T H;replace H:=H.forget;refine aa (eI _) ?_;refine H.store 1 rfl qx (Nat.le_of_ble_eq_true rfl) rfl ?_;clear H;intro U H;exact ⟨(i+1,F,d4),by show b.length - (i+1)<b.length - i;omega,trivial,D _ _ _ (by rw[y];rfl) (by rw[← hw];exact H)⟩
    ·refine cg (fun h16=>?_) (fun h16=>?_)
     ·refine aa (eI _) ?_;have y:b[i]=49:=UInt8.toNat_inj.1 (show b[i].toNat=49 by omega);have hw:IntKind.i32.wrap ((b[i].toNat:Int) - 48)=((bH b[i]:Nat):Int):=by rw[y];kernel_rfl
      refine H.load 1 rfl e8 rfl ?_;refine iK (by kernel_rfl) underlying3 (by rw[hw];omega) (by rw[hw,y];decide) ?_;refine H.aX dH rfl ?_;clear H;intro gx Q H;refine H.aG 3 0 dH rfl rfl rfl (fun u hu=>by rw[List.mem_singleton.1 hu];rfl) (by omega) (by omega) ?_;clear H;intro F d4 T H;replace H:=H.forget;refine aa (eI _) ?_;refine H.store 1 rfl qx (Nat.le_of_ble_eq_true rfl) rfl ?_;clear H;intro U H;exact ⟨(i+1,F,d4),by show b.length - (i+1)<b.length - i;omega,trivial,D _ _ _ (by rw[y];rfl) (by rw[← hw];exact H)⟩
     ·refine cg (fun h19=>?_) (fun h19=>?_)
      ·refine aa (eI _) ?_;have y:b[i]=45:=UInt8.toNat_inj.1 (show b[i].toNat=45 by omega);refine H.load 1 rfl e8 rfl ?_;refine H.aX dH rfl ?_;clear H;intro gx Q H;refine H.aG 3 0 dH rfl rfl rfl (fun u hu=>by rw[List.mem_singleton.1 hu];rfl) (by omega) (by omega) ?_;clear H;intro F d4 T H;replace H:=H.forget;refine aa (eI _) ?_;refine H.store 1 rfl qx (Nat.le_of_ble_eq_true rfl) rfl ?_;clear H;intro U H;exact ⟨(i+1,F,d4),by show b.length - (i+1)<b.length - i;omega,trivial,D _ _ _ (by rw[y];rfl) (by rw[y];exact H)⟩
      ·exact .inl ⟨C (nH (by assumption) (by assumption) (by assumption)),rfl,k _ [] (H.b7 [3,4,5] (by decide) rfl)⟩
   ·have hge:=vf E ha;have z:=C (nH (by omega) (by omega) (by omega))
    iterate 3 refine af (beq_eq_false_iff_ne.2 (by omega)) ?_
    exact .inl ⟨z,rfl,k _ [] (H.b7 [3,4,5] (by decide) rfl)⟩
  ·obtain rfl:i=b.length:=by omega
   refine af rfl ?_;exact ⟨(n,d2),trivial,List.all_eq_true.2 fun c hc=>by obtain ⟨j,hj,rfl⟩:=List.getElem_of_mem hc;exact t j hj hj,by rw[List.take_length] at H;exact H.forget⟩
 clear H;rintro ⟨n,d2⟩ u w6 ⟨t,H⟩;rw[if_pos ⟨K,t⟩] at f;refine H.fp [an g10 77 (fM m vv (.slice n b.length d2)),an g 100 (Lt s.kd s.ni s.no (.slice d s.ls.length c0) s.st s.told)] (fun u h=>h.b7 [0,2] (by decide) rfl) eO (by kernel_rfl) ?_;clear H;intro w7 H;refine quiet _ (fun w H=>aa (fC _) ae) ?_;refine quiet _ (fun w H=>aa (dy _ _) ae) ?_;refine quiet _ (fun w H=>H.load 1 rfl f_ rfl ae) ?_;refine quiet _ (fun w H=>H.ai 0 rfl mw cF ae) ?_;refine H.bf IU (cs:=fM m vv (.slice n b.length d2)) (by decide) (by decide) (by kernel_rfl) ?_;clear H;intro gx w8 H;refine ⟨.inl (H.b7 [1,3] (by decide) rfl),?_⟩;refine H.aG 4 0 IU rfl rfl rfl eS (by omega) (by omega) ?_;clear H;intro F d4 w9 H;refine ⟨.inl (H.b7 [1,3] (by decide) rfl),?_⟩;refine quiet _ (fun w H=>aa (fC _) ae) ?_;refine quiet _ (fun w H=>aa (dy _ _) ae) ?_;refine H.store 3 rfl xm (Nat.le_of_ble_eq_true rfl) rfl ?_;clear H;intro V H;refine ⟨.inr rfl,?_⟩;have e1:(s.ls++[((m,vv,b.map bH):Ln)]).length=s.ls.length+1:=by simp
 have H2:Hp w (nZ g s (.slice d s.ls.length c0) hs S).foot V (own 3 1 (.slice n b.length d2) ((m,vv,b.map bH):Ln).2.2.length (ints ((m,vv,b.map bH):Ln).2.2)::qM S hs s.ls::an g 100 (Lt s.kd s.ni s.no (.slice F (s.ls.length+1) d4) s.st s.told)::own 77 3 (.slice F (s.ls.length+1) d4) (s.ls++[((m,vv,b.map bH):Ln)]).length (flat kX (hs++[(m,vv,.slice n b.length d2)]))::[]) []:=by
  show Hp w (nZ g s (.slice d s.ls.length c0) hs S).foot V (own 3 1 (.slice n b.length d2) (b.map bH).length (ints (b.map bH))::_) _;rw[List.length_map,e1,show flat kX (hs++[(m,vv,.slice n b.length d2)])=flat kX hs++kX (m,vv,.slice n b.length d2) from de ..];exact H.b7 [2,5,3,4] (by decide) rfl
 obtain ⟨X,H3⟩:=H2.FX;exact .inr ⟨(m,vv,b.map bH),_,_,X,f,rfl,(jI (L:=[]) (s:={ s with ls:=s.ls++[(m,vv,b.map bH)] }) (v:=.slice F (s.ls.length+1) d4) (hs:=hs++[(m,vv,.slice n b.length d2)]) (S:=X) (H3.b7 [1,2,0] (by decide) rfl)).bg⟩
def qB (r:List UInt8):Option Nat:=(List.range 4).find? fun k=>dF k==r
def jb (s:Rd)(line:List UInt8):Except Int Rd:=
 if line=[46,101] then (if s.told<0∨s.told=s.ls.length then .ok { s with st:=5 } else .error 2)
 else match km s.ni s.no line with
  | none=>.error 2
  | some l=>if s.ls.length=64 then .error 3 else .ok { s with st:=4,ls:=s.ls++[l] }
def ic (s:Rd)(line:List UInt8):Except Int Rd:=
 if Lib.hasPrefix line [46,116,121,112,101,32]=true∧s.st=2 then
  match qB (line.drop 6) with
  | some k=>.ok { s with kd:=k,st:=3 }
  | none=>.error 2
 else if 0≤ee [46,112] 0 64 line∧s.st≤3 then .ok { s with told:=ee [46,112] 0 64 line,st:=4 }
 else jb s line
def gg (s:Rd)(line:List UInt8):Except Int Rd:=
 if s.st=0 then (if 0≤ee [46,105] 0 8 line then .ok { s with ni:=(ee [46,105] 0 8 line).toNat,st:=1 } else .error 2)
 else if s.st=1 then (if 0≤ee [46,111] 1 4 line then .ok { s with no:=(ee [46,111] 1 4 line).toNat,st:=2 } else .error 2)
 else if s.st=5 then .error 2
 else ic s line
def FY (o:Except Int Rd)(w:World)(R:cH)(g:Nat)(r:Value)(w':World):Prop:=
 (∃ b c a d,o=.ok b∧r=.int .i64 0∧jS w w' R (nZ g b c a d))∨(∃ e f,o=.error e∧r=.int .i64 e∧e≠0∧jS w w' R f)
theorem _root_.Go.Dk.Hp.rz {w w':World}{r:cH}{L:List cH}(H:Hp w r.foot w' L []):∃ a,jS w w' r a:=
 ⟨_,(Hp.join (Ls:=L) (L:=[]) (by rw[List.append_nil];exact H)).bg⟩
theorem pK {r:List UInt8}{i:Nat}(hi:i<4)(h:dF i=r)(a:∀ j,j<i→dF j≠r):qB r=some i:=by
 unfold qB;rcases (by omega:i=0∨i=1∨i=2∨i=3) with rfl | rfl | rfl | rfl <;> subst h <;> rfl
theorem ug {r:List UInt8}(a:∀ j,j<4→dF j≠r):qB r=none:=by
 unfold qB;rw[List.find?_eq_none];intro j b h;exact a j (List.mem_range.1 b) (beq_iff_eq.1 h)
theorem M4:enters prog 71=true:=by kernel_rfl
theorem NI (b:Bool)(w:World):bw prog 71 [.bool b] w fun r w'=>r=.int .i64 (if b then 0 else 2)∧aT w w':=by
 refine ar (N:=4) func71 M4 rfl rfl rfl (by simp) ?_;have H:=Hp.aC w
 cases b with
 | false=>
  refine af rfl ?_;exact ⟨rfl,H.keeps⟩
 | true=>
  refine ag rfl ?_;exact ⟨rfl,H.keeps⟩
theorem M5:enters prog 48=true:=by kernel_rfl
set_option maxHeartbeats 4000000 in
theorem Pj (line:List UInt8)(hl:line.length≤100000)(g:Nat)(s:Rd)(G:s.ls.length≤64)(hst:s.st≤5)(B:s.told≤64)(v:Value)(hs:List Hd)(S:Nat→Prop)(w:World)(hg:jA w)(C:∀ x,K4 x→¬ (nZ g s v hs S).foot x)(hR:(nZ g s v hs S).ok w) :
  bw prog 48 [(ah g),aU line] w (FY (gg s line) w (nZ g s v hs S) g):=by
 refine ar (N:=154) func48 M5 rfl rfl rfl (by simp) ?_;obtain ⟨f,c0,rfl,hc0⟩:=fh ((qA hR).get 1 rfl);have H:=qA hR;obtain ⟨kd,ni,no,st,told,ls⟩:=s;simp only at G hst B;generalize hR0:nZ g ⟨kd,ni,no,st,told,ls⟩ (.slice f ls.length c0) hs S=R0 at H C;have y:∀ u L M,Hp w R0.foot u L M→jA u:=fun u L M H=>hg.bQ fun x I=>H.keeps.old x (hg.lt x I) (C x I);have n1:=c72 line [46,105] hl (by decide) 0 8 (by decide);have n2:=c72 line [46,111] hl (by decide) 1 4 (by decide);have n3:=c72 line [46,112] hl (by decide) 0 64 (by decide);have a:gg ⟨kd,ni,no,st,told,ls⟩ line=if st=0 then (if 0≤ee [46,105] 0 8 line then .ok ⟨kd,(ee [46,105] 0 8 line).toNat,no,1,told,ls⟩ else .error 2)
  else if st=1 then (if 0≤ee [46,111] 1 4 line then .ok ⟨kd,ni,(ee [46,111] 1 4 line).toNat,2,told,ls⟩ else .error 2)
  else if st=5 then .error 2
  else ic ⟨kd,ni,no,st,told,ls⟩ line:=rfl
 refine ak (γ:=Unit) (fun _=>[(4,.int .i64 0)]) (fun _ w'=>Hp w R0.foot w' (pf g ⟨kd,ni,no,st,told,ls⟩ (.slice f ls.length c0) hs S) []) ⟨(),⟨rfl,trivial⟩,H⟩ ?_;clear H;rintro ⟨⟩ u w1 H;refine ak (γ:=Unit) (fun _=>[(5,pC 71)]) (fun _ w'=>Hp w R0.foot w' (pf g ⟨kd,ni,no,st,told,ls⟩ (.slice f ls.length c0) hs S) []) ⟨(),⟨rfl,trivial⟩,H⟩ ?_;clear H;rintro ⟨⟩ u w2 H;refine aw (fun w'=>(2≤st∧st≤4)∧Hp w R0.foot w' (pf g ⟨kd,ni,no,st,told,ls⟩ (.slice f ls.length c0) hs S) []) ?_ ?_
 ·refine aa (ik _) ?_;refine H.load 0 rfl aF rfl ?_;by_cases h0:st=0
  ·subst h0;rw[if_pos rfl] at a
   iterate 0 refine af rfl ?_
   refine ag rfl ?_;refine aj (n1 _ (y _ _ _ H)) ?_;rintro _ J ⟨rfl,m⟩;replace H:=H.same m;clear m;refine aa (fC _) ?_;refine aa (eC _ _) ?_;refine H.store 0 rfl bc (Nat.le_of_ble_eq_true rfl) rfl ?_;clear H;intro K H;refine aa (ik _) ?_;refine H.load 0 rfl aF rfl ?_;refine aa (ik _) ?_;refine H.store 0 rfl bc (Nat.le_of_ble_eq_true rfl) rfl ?_;clear H;intro w7 H;refine aa (fC _) ?_;refine aa (eC _ _) ?_;refine H.load 0 rfl aF rfl ?_;refine aj (NI _ _) ?_;rintro _ O ⟨rfl,m⟩;replace H:=H.same m;clear m;have hw:IntKind.i64.wrap (((0:Nat):Int)+1)=((1:Nat):Int):=aH (by omega) (by omega);rw[hw] at H;generalize ee [46,105] 0 8 line=N at H a ⊢;by_cases d:0≤N
   ·rw[if_pos d] at a;have e:N=((N.toNat:Nat):Int):=(Int.toNat_of_nonneg d).symm;rw[e] at H;refine .inl ⟨⟨kd,N.toNat,no,1,told,ls⟩,_,_,_,a,?_,(jI (L:=[]) (s:=⟨kd,N.toNat,no,1,told,ls⟩) H).bg⟩;rw[decide_eq_true d];rfl
   ·rw[if_neg d] at a;obtain ⟨o,c⟩:=H.rz;refine .inr ⟨2,o,a,?_,by decide,c⟩;rw[decide_eq_false d];rfl
  ·rw[if_neg h0] at a;by_cases h1:st=1
   ·subst h1;rw[if_pos rfl] at a
    iterate 1 refine af rfl ?_
    refine ag rfl ?_;refine aj (n2 _ (y _ _ _ H)) ?_;rintro _ J ⟨rfl,m⟩;replace H:=H.same m;clear m;refine aa (fC _) ?_;refine aa (fB _ _) ?_;refine H.store 0 rfl bc (Nat.le_of_ble_eq_true rfl) rfl ?_;clear H;intro K H;refine aa (ik _) ?_;refine H.load 0 rfl aF rfl ?_;refine aa (ik _) ?_;refine H.store 0 rfl bc (Nat.le_of_ble_eq_true rfl) rfl ?_;clear H;intro w7 H;refine aa (fC _) ?_;refine aa (fB _ _) ?_;refine H.load 0 rfl aF rfl ?_;refine aj (NI _ _) ?_;rintro _ O ⟨rfl,m⟩;replace H:=H.same m;clear m;have hw:IntKind.i64.wrap (((1:Nat):Int)+1)=((2:Nat):Int):=aH (by omega) (by omega);rw[hw] at H;generalize ee [46,111] 1 4 line=N at H a ⊢;by_cases d:0≤N
    ·rw[if_pos d] at a;have e:N=((N.toNat:Nat):Int):=(Int.toNat_of_nonneg d).symm;rw[e] at H;refine .inl ⟨⟨kd,ni,N.toNat,2,told,ls⟩,_,_,_,a,?_,(jI (L:=[]) (s:=⟨kd,ni,N.toNat,2,told,ls⟩) H).bg⟩;rw[decide_eq_true d];rfl
    ·rw[if_neg d] at a;obtain ⟨o,c⟩:=H.rz;refine .inr ⟨2,o,a,?_,by decide,c⟩;rw[decide_eq_false d];rfl
   ·rw[if_neg h1] at a;by_cases h5:st=5
    ·subst h5;rw[if_pos rfl] at a
     iterate 2 refine af rfl ?_
     refine ag rfl ?_;obtain ⟨o,c⟩:=H.rz;exact .inr ⟨2,o,a,rfl,by decide,c⟩
    ·rw[if_neg h5] at a;refine cg (fun h=>absurd (show (st:Int)=0 from h) (by omega)) (fun _=>?_);refine cg (fun h=>absurd (show (st:Int)=1 from h) (by omega)) (fun _=>?_);refine cg (fun h=>absurd (show (st:Int)=5 from h) (by omega)) (fun _=>?_);exact ⟨(),trivial,⟨by omega,by omega⟩,H⟩
 clear H;rintro ⟨⟩ u w3 ⟨⟨hs2,hs4⟩,H⟩;rw[if_neg (by omega),if_neg (by omega),if_neg (by omega)] at a;have Q:ic ⟨kd,ni,no,st,told,ls⟩ line=if Lib.hasPrefix line [46,116,121,112,101,32]=true∧st=2 then
   match qB (line.drop 6) with
   | some k=>.ok ⟨k,ni,no,3,told,ls⟩
   | none=>.error 2
  else if 0≤ee [46,112] 0 64 line∧st≤3 then .ok ⟨kd,ni,no,4,ee [46,112] 0 64 line,ls⟩
  else jb ⟨kd,ni,no,st,told,ls⟩ line:=rfl
 rw[Q] at a;clear Q;have n:Lib.hasPrefix line [46,116,121,112,101,32]=true→Lib.trimPrefix line [46,116,121,112,101,32]=line.drop 6:=fun h=>by unfold Lib.trimPrefix;rw[if_pos h];rfl
 refine aw (fun w'=>¬ (Lib.hasPrefix line [46,116,121,112,101,32]=true∧st=2)∧Hp w R0.foot w' (pf g ⟨kd,ni,no,st,told,ls⟩ (.slice f ls.length c0) hs S) []) ?_ ?_
 ·refine ak (γ:=Unit) (fun _=>[(6,aU (Lib.trimPrefix line [46,116,121,112,101,32])),(7,.bool (Lib.hasPrefix line [46,116,121,112,101,32]))]) (fun _ w'=>Hp w R0.foot w' (pf g ⟨kd,ni,no,st,told,ls⟩ (.slice f ls.length c0) hs S) []) ?_ ?_
  ·refine aj (OU _ [46,116,121,112,101,32] _) ?_;rintro _ w4 ⟨rfl,m⟩;exact ⟨(),⟨rfl,rfl,trivial⟩,H.same m⟩
  clear H;rintro ⟨⟩ u w4 H;generalize Lib.trimPrefix line [46,116,121,112,101,32]=rest at n
  cases hpx:Lib.hasPrefix line [46,116,121,112,101,32] with
  | false=>
   repeat refine af rfl ?_
   exact ⟨(),trivial,fun h=>absurd h.1 (by simp),H⟩
  | true=>
   rw[hpx] at a;replace n:=n hpx
   repeat refine ag rfl ?_
   refine aa (ik _) ?_
   repeat refine ag rfl ?_
   refine H.load 0 rfl aF rfl ?_
   repeat refine ag rfl ?_
   refine cg (fun h=>?_) (fun h=>?_)
   ·obtain rfl:st=2:=by have h:(st:Int)=2:=h;omega
    rw[if_pos ⟨rfl,rfl⟩,← n] at a;clear n;refine aw (fun w'=>Hp w R0.foot w' (pf g ⟨kd,ni,no,3,told,ls⟩ (.slice f ls.length c0) hs S) []) ?_ ?_
    ·refine aa (ik _) ?_;refine H.store 0 rfl bc (Nat.le_of_ble_eq_true rfl) rfl ?_;clear H;intro J H;exact ⟨(),trivial,H⟩
    clear H;rintro ⟨⟩ u J H;refine aw (fun w'=>(∀ j,j<4→dF j≠rest)∧Hp w R0.foot w' (pf g ⟨kd,ni,no,3,told,ls⟩ (.slice f ls.length c0) hs S) []) ?_ ?_
    ·refine aj (Ox _) ?_;rintro _ K ⟨gk,rfl,d⟩;replace H:=H.bq d;clear d;refine ay underlying73 ?_;refine ax (γ:=Nat) (fun i=>[(82,.int .i64 (i:Int))]) (fun i w'=>(i≤4∧∀ j,j<i→dF j≠rest)∧Hp w R0.foot w' (an gk 9 K8::(pf g ⟨kd,ni,no,3,told,ls⟩ (.slice f ls.length c0) hs S)) []) (fun i=>4 - i) 0 ⟨rfl,trivial⟩ ⟨⟨Nat.zero_le _,fun j hj=>absurd hj (by omega)⟩,H⟩ ?_;clear H;rintro i u w7 ⟨⟨hi,p⟩,H⟩;refine au (fun T=>?_) (fun T=>?_)
     ·have D:i<4:=by have T:(i:Int)<((4:Nat):Int):=T;omega
      refine aw (fun w'=>dF i≠rest∧Hp w R0.foot w' (an gk 9 K8::(pf g ⟨kd,ni,no,3,told,ls⟩ (.slice f ls.length c0) hs S)) []) ?_ ?_
      ·refine ak (γ:=Unit) (fun _=>[(8,.int .i64 (i:Int)),(9,aU (dF i))]) (fun _ w'=>Hp w R0.foot w' (an gk 9 K8::(pf g ⟨kd,ni,no,3,told,ls⟩ (.slice f ls.length c0) hs S)) []) ?_ ?_
       ·refine ao underlying73 p7 i rfl (by omega) (o':=i) (by omega) ?_;refine H.load 0 rfl wy (qy (by omega)) ?_;exact ⟨(),⟨rfl,rfl,trivial⟩,H⟩
       clear H;rintro ⟨⟩ u O H;refine eN ?_;refine aE (fun q=>?_) (fun q=>?_)
       ·have z:=pK D (beq_iff_eq.1 q) p;rw[z] at a;refine aa (fC _) ?_;refine aa (eB _ _) ?_;refine H.store 1 rfl bc (Nat.le_of_ble_eq_true rfl) rfl ?_;clear H;intro w9 H;exact .inl ⟨⟨i,ni,no,3,told,ls⟩,_,_,_,a,rfl,(jI (L:=[]) (s:=⟨i,ni,no,3,told,ls⟩) (H.b7 [1,2,3] (by decide) rfl)).bg⟩
       ·exact ⟨(),trivial,fun h=>by rw[h] at q;simp at q,H⟩
      ·clear H;rintro ⟨⟩ u O ⟨q,H⟩;exact ⟨i+1,by show 4 - (i+1)<4 - i;omega,⟨up (by omega),trivial⟩,⟨by show i+1≤4;omega,fun j hj=>by rcases Nat.lt_succ_iff_lt_or_eq.1 hj with h | h;exact p j h;subst h;exact q⟩,H⟩
     ·have D:i=4:=by have T:¬ (i:Int)<((4:Nat):Int):=T;omega
      subst D;exact ⟨(),trivial,p,H.forget⟩
    clear H;rintro ⟨⟩ u K ⟨p,H⟩;rw[ug p] at a;obtain ⟨o,c⟩:=H.rz;exact .inr ⟨2,o,a,rfl,by decide,c⟩
   ·exact ⟨(),trivial,fun U=>h (show (st:Int)=2 by rw[U.2];rfl),H⟩
 clear H;rintro ⟨⟩ u J ⟨r,H⟩;rw[if_neg r] at a;clear r n;generalize ee [46,112] 0 64 line=N at a n3;refine aw (fun w'=>¬ (0≤N∧st≤3)∧Hp w R0.foot w' (pf g ⟨kd,ni,no,st,told,ls⟩ (.slice f ls.length c0) hs S) []) ?_ ?_
 ·refine ak (γ:=Unit) (fun _=>[(10,.int .i64 (N))]) (fun _ w'=>Hp w R0.foot w' (pf g ⟨kd,ni,no,st,told,ls⟩ (.slice f ls.length c0) hs S) []) ?_ ?_
  ·refine aj (n3 _ (y _ _ _ H)) ?_;rintro _ K ⟨rfl,m⟩;exact ⟨(),⟨rfl,trivial⟩,H.same m⟩
  clear H;rintro ⟨⟩ u K H;by_cases F:0≤N
  ·repeat refine ag (decide_eq_true F) ?_
   refine aa (ik _) ?_
   repeat refine ag (decide_eq_true F) ?_
   refine H.load 0 rfl aF rfl ?_
   repeat refine ag (decide_eq_true F) ?_
   refine au (fun h=>?_) (fun h=>?_)
   ·have h3:st≤3:=by have h:(st:Int)≤3:=h;omega
    rw[if_pos ⟨F,h3⟩] at a;refine aa (xr _) ?_;refine H.store 0 rfl bc (Nat.le_of_ble_eq_true rfl) rfl ?_;clear H;intro w7 H;refine aa (ik _) ?_;refine H.store 0 rfl bc (Nat.le_of_ble_eq_true rfl) rfl ?_;clear H;intro O H;exact .inl ⟨⟨kd,ni,no,4,N,ls⟩,_,_,_,a,rfl,(jI (L:=[]) (s:=⟨kd,ni,no,4,N,ls⟩) H).bg⟩
   ·exact ⟨(),trivial,fun U=>h (show (st:Int)≤3 by have:=U.2;omega),H⟩
  ·repeat refine af (decide_eq_false F) ?_
   refine af rfl ?_;exact ⟨(),trivial,fun U=>F U.1,H⟩
 clear H;rintro ⟨⟩ u w7 ⟨r,H⟩;rw[if_neg r] at a;clear r;refine aw (fun w'=>Hp w R0.foot w' (pf g ⟨kd,ni,no,4,told,ls⟩ (.slice f ls.length c0) hs S) []) ?_ ?_
 ·refine aa (ik _) ?_;refine H.store 0 rfl bc (Nat.le_of_ble_eq_true rfl) rfl ?_;clear H;intro J H;exact ⟨(),trivial,H⟩
 clear H;rintro ⟨⟩ u O H;have z:jb ⟨kd,ni,no,st,told,ls⟩ line=if line=[46,101] then (if told<0∨told=ls.length then .ok ⟨kd,ni,no,5,told,ls⟩ else .error 2)
  else match km ni no line with
   | none=>.error 2
   | some l=>if ls.length=64 then .error 3 else .ok ⟨kd,ni,no,4,told,ls++[l]⟩:=rfl
 rw[z] at a;clear z;refine aw (fun w'=>line≠[46,101]∧Hp w R0.foot w' (pf g ⟨kd,ni,no,4,told,ls⟩ (.slice f ls.length c0) hs S) []) ?_ ?_
 ·refine eN (b:=[46,101]) ?_;refine aE (fun q=>?_) (fun q=>?_)
  ·rw[if_pos (beq_iff_eq.1 q)] at a;refine aw (fun w'=>Hp w R0.foot w' (pf g ⟨kd,ni,no,5,told,ls⟩ (.slice f ls.length c0) hs S) []) ?_ ?_
   ·refine aa (ik _) ?_;refine H.store 0 rfl bc (Nat.le_of_ble_eq_true rfl) rfl ?_;clear H;intro w9 H;exact ⟨(),trivial,H⟩
   clear H;rintro ⟨⟩ u w9 H;refine H.draw eO (by kernel_rfl) ?_;clear H;intro V H;refine quiet _ (fun w H=>aa (xr _) ae) ?_;refine quiet _ (fun w H=>H.load 0 rfl aF rfl ae) ?_;by_cases t:told<0
   ·rw[if_pos (.inl t)] at a
    repeat refine ag (decide_eq_true t) ?_
    refine aj (NI _ _) ?_;rintro _ E ⟨rfl,m⟩;replace H:=H.same m;refine ⟨.inl H,?_⟩;refine .inl ⟨⟨kd,ni,no,5,told,ls⟩,_,_,_,a,?_,(jI (L:=[]) (s:=⟨kd,ni,no,5,told,ls⟩) H).bg⟩;rfl
   ·repeat refine af (decide_eq_false t) ?_
    refine quiet _ (fun w H=>aa (xr _) ae) ?_
    repeat refine af (decide_eq_false t) ?_
    refine quiet _ (fun w H=>H.load 0 rfl aF rfl ae) ?_
    repeat refine af (decide_eq_false t) ?_
    refine quiet _ (fun w H=>aa (fC _) ae) ?_
    repeat refine af (decide_eq_false t) ?_
    refine quiet _ (fun w H=>aa (dy _ _) ae) ?_
    repeat refine af (decide_eq_false t) ?_
    refine quiet _ (fun w H=>H.load 0 rfl f_ rfl ae) ?_
    repeat refine af (decide_eq_false t) ?_
    refine quiet _ (fun w H=>ay underlying31 ae) ?_
    repeat refine af (decide_eq_false t) ?_
    refine aj (NI _ _) ?_;rintro _ E ⟨rfl,m⟩;replace H:=H.same m;refine ⟨.inl H,?_⟩;by_cases he:told=(ls.length:Int)
    ·rw[if_pos (.inr he)] at a;refine .inl ⟨⟨kd,ni,no,5,told,ls⟩,_,_,_,a,?_,(jI (L:=[]) (s:=⟨kd,ni,no,5,told,ls⟩) H).bg⟩;rw[beq_iff_eq.2 he];rfl
    ·rw[if_neg (fun h=>h.elim t he)] at a;obtain ⟨o,c⟩:=H.rz;refine .inr ⟨2,o,a,?_,by decide,c⟩;rw[beq_eq_false_iff_ne.2 he];rfl
  ·exact ⟨(),trivial,fun h=>by rw[h] at q;simp at q,H⟩
 clear H;rintro ⟨⟩ u w9 ⟨hne,H⟩;rw[if_neg hne] at a;refine ak (γ:=Unit) (fun _=>[(11,.bool ((ls.length:Int)==64))]) (fun _ w'=>Hp w R0.foot w' (pf g ⟨kd,ni,no,4,told,ls⟩ (.slice f ls.length c0) hs S) []) ?_ ?_
 ·refine aa (fC _) ?_;refine aa (dy _ _) ?_;refine H.load 0 rfl f_ rfl ?_;refine ay underlying31 ?_;exact ⟨(),⟨rfl,trivial⟩,H⟩
 clear H;rintro ⟨⟩ u V H;have X:=jI (L:=[]) (s:=⟨kd,ni,no,4,told,ls⟩) H;have Y:∀ x,K4 x→¬ (nZ g ⟨kd,ni,no,4,told,ls⟩ (.slice f ls.length c0) hs S).foot x:=fun x I hf=>by
  rcases X.new _ (.head _) x hf with h | h
  ·have:=hg.lt x I;omega
  ·exact C x I h
 have hc:=Ph line hl g ⟨kd,ni,no,4,told,ls⟩ G (.slice f ls.length c0) hs S V (y _ _ _ H) Y (X.get 0 rfl);refine ak (γ:=Ln × Value × List Hd × (Nat→Prop)) (fun _=>[]) (fun (l,v',A,S') w'=>km ni no line=some l∧Hp w R0.foot w' [nZ g ⟨kd,ni,no,4,told,ls++[l]⟩ v' A S'] []) ?_ ?_
 ·refine aj hc ?_;rintro _ E (⟨d,rfl,o,hT⟩ | ⟨l,v',A,S',d,rfl,hT⟩)
  ·refine ag rfl ?_;rw[d] at a;have H2:=X.b9 0 rfl hT;obtain ⟨o,c⟩:=H2.rz;exact .inr ⟨2,o,a,rfl,by decide,c⟩
  ·refine af rfl ?_;exact ⟨(l,v',A,S'),trivial,d,X.b9 0 rfl hT⟩
 clear H X hc;rintro ⟨l,v',A,S'⟩ u E ⟨d,H⟩;rw[d] at a;simp only at a;by_cases Z:ls.length=64
 ·rw[if_pos Z] at a;refine ag (beq_iff_eq.2 (by omega)) ?_;exact .inr ⟨3,_,a,rfl,by decide,H.bg⟩
 ·rw[if_neg Z] at a;refine af (beq_eq_false_iff_ne.2 (by omega)) ?_;exact .inl ⟨_,_,_,_,a,rfl,H.bg⟩
structure qC (s:Rd):Prop where
 kd:s.kd≤3
 ni:s.ni≤8
 no:2≤s.st→1≤s.no∧s.no≤4
 st:s.st≤5
 told:s.told≤64
 few:s.ls.length≤64
 none:s.st<2→s.ls=[]
 ls:∀ l ∈ s.ls,uQ s.ni s.no l
theorem xt {wd line:List UInt8}{lo hi:Nat}(h:0≤ee wd lo hi line):lo≤(ee wd lo hi line).toNat∧(ee wd lo hi line).toNat≤hi:=by
 obtain ⟨n,a,b,c,_⟩:=vM h;rw[c,Int.toNat_natCast];exact ⟨a,b⟩
theorem H9 {ni no:Nat}{line:List UInt8}{l:Ln}(h:km ni no line=some l):uQ ni no l:=by
 unfold km at h;generalize Lib.cut line [32]=q at h;obtain ⟨a,b,ok⟩:=q;simp only at h;split at h
 ·rename_i i;injection h with h;subst h;obtain ⟨d,_⟩:=i;unfold lK at d;simp only[Bool.and_eq_true,beq_iff_eq] at d;obtain ⟨⟨_,e⟩,f⟩:=d;refine ⟨?_,?_,?_,?_⟩
  ·show dA a a.length<2^ni;rw[← e];exact fa _ _
  ·show dB a a.length &&&dA a a.length=dB a a.length;apply Nat.eq_of_testBit_eq;intro p;unfold dB dA;rw[Nat.testBit_and,bW,bW];by_cases g:a.getD p 45=49
   ·rw[g]
    cases decide (p<a.length) <;> rfl
   ·rw[show (a.getD p 45==49)=false by simpa using g];simp
  ·show (b.map bH).length=no;rw[List.length_map,f]
  ·intro x j;obtain ⟨c,_,rfl⟩:=List.mem_map.1 j;unfold bH;split <;> try split
   all_goals decide
 ·cases h
theorem FZ {r:List UInt8}{k:Nat}(h:qB r=some k):k≤3:=by
 have:=List.mem_range.1 (List.mem_of_find?_eq_some h);omega
theorem qD {s j:Rd}{line:List UInt8}(hs:qC s)(h:gg s line=.ok j):qC j:=by
 obtain ⟨kd,ni,no,st,told,ls⟩:=s;obtain ⟨b,k2,k3,m,c,k6,g,d⟩:=hs;simp only at b k2 k3 m c k6 g d;unfold gg at h;simp only at h;split at h
 ·rename_i n;subst n;split at h
  ·rename_i e;injection h with h;subst h;have:=xt e;exact ⟨b,this.2,fun h=>absurd h (show ¬ 2≤1 by decide),show 1≤5 by decide,c,k6,fun _=>g (by decide),fun l a=>by rw[show ls=[] from g (by decide)] at a;cases a⟩
  ·cases h
 ·split at h
  ·rename_i o;subst o;split at h
   ·rename_i e;injection h with h;subst h;have:=xt e;exact ⟨b,k2,fun _=>this,show 2≤5 by decide,c,k6,fun h=>absurd h (show ¬ 2<2 by decide),fun l a=>by rw[show ls=[] from g (by decide)] at a;cases a⟩
   ·cases h
  ·split at h
   ·cases h
   ·have i:2≤st:=by omega
    unfold ic at h;simp only at h;split at h
    ·split at h
     ·rename_i k p;injection h with h;subst h;exact ⟨FZ p,k2,fun _=>k3 i,show 3≤5 by decide,c,k6,fun h=>absurd h (show ¬ 3<2 by decide),d⟩
     ·cases h
    ·split at h
     ·rename_i e;injection h with h;subst h;have:=xt e.1;exact ⟨b,k2,fun _=>k3 i,show 4≤5 by decide,by show ee [46,112] 0 64 line≤64;omega,k6,fun h=>absurd h (show ¬ 4<2 by decide),d⟩
     ·unfold jb at h;simp only at h;split at h
      ·split at h
       ·injection h with h;subst h;exact ⟨b,k2,fun _=>k3 i,show 5≤5 by decide,c,k6,fun h=>absurd h (show ¬ 5<2 by decide),d⟩
       ·cases h
      ·split at h
       ·cases h
       ·rename_i l a;split at h
        ·cases h
        ·injection h with h;subst h;refine ⟨b,k2,fun _=>k3 i,show 4≤5 by decide,c,?_,fun h=>absurd h (show ¬ 4<2 by decide),fun x f=>?_⟩
         ·show (ls++[l]).length≤64;rw[List.length_append,List.length_singleton];omega
         ·rcases List.mem_append.1 f with f | f
          ·exact d x f
          ·rw[List.mem_singleton.1 f];exact H9 a
def ie:Nat→Rd→List (List UInt8)→Except (Nat × Int) Rd
 | _,s,[]=>.ok s
 | i,s,l::r=>if l=[]∨l.head?=some 35 then ie (i+1) s r else match gg s l with
  | .error e=>.error (i,e)
  | .ok s'=>ie (i+1) s' r
def uR:Rd:=⟨1,0,0,0,-1,[]⟩
theorem xu:qC uR:=⟨show 1≤3 by decide,Nat.zero_le _,fun h=>absurd h (show ¬ 2≤0 by decide),Nat.zero_le _,show (-1:Int)≤64 by decide,Nat.zero_le _,fun _=>rfl,fun l a=>by cases a⟩
theorem uh:∀ {r:List (List UInt8)} {i:Nat} {s a:Rd},qC s→ie i s r=.ok a→qC a
 | [],i,s,a,hs,h=>by
  unfold ie at h;injection h with h;subst h;exact hs
 | l::r,i,s,a,hs,h=>by
  unfold ie at h;split at h
  ·exact uh hs h
  ·cases ht:gg s l with
   | error e=>rw[ht] at h;cases h
   | ok s1=>rw[ht] at h;exact uh (qD hs ht) h
def Ba (text:List UInt8)(s:Rd):Except (Nat × Int) Rd:=
 if (bM text).getLastD []≠[] then .error ((bM text).length - 1,2)
 else if s.st≠5 then .error ((bM text).length - 1,7)
 else .ok s
def cu (text:List UInt8):Except (Nat × Int) Rd:=
 if 8000<text.length then .error (0,3) else match ie 0 uR (bM text).dropLast with
  | .error x=>.error x
  | .ok s=>Ba text s
def Rd.tb (s:Rd):Tb:=⟨s.kd,s.ni,s.no,s.ls⟩
theorem kD {text:List UInt8}{s:Rd}(h:cu text=.ok s):kh s.tb:=by
 unfold cu at h;split at h
 ·cases h
 ·split at h
  ·cases h
  ·rename_i s1 c;have a:=uh xu c;unfold Ba at h;split at h
   ·cases h
   ·split at h
    ·cases h
    ·rename_i d;injection h with h;subst h;have b:=a.no (by omega);exact ⟨a.kd,a.ni,b.1,b.2,a.few,a.ls⟩
theorem oL:∀ {t l:List UInt8},l ∈ bM t→l.length≤t.length
 | [],l,h=>by
  simp[bM] at h;subst h;exact Nat.le_refl _
 | c::t,l,h=>by
  by_cases a:c=10
  ·subst a;rw[lI] at h;rcases List.mem_cons.1 h with rfl | h
   ·exact Nat.zero_le _
   ·exact Nat.le_succ_of_le (oL h)
  ·cases hl:bM t with
   | nil=>exact absurd hl (mu t)
   | cons x xs=>
    rw[iB a hl] at h;rcases List.mem_cons.1 h with rfl | h
    ·exact Nat.succ_le_succ (oL (by rw[hl];exact .head _))
    ·exact Nat.le_succ_of_le (oL (by rw[hl];exact .tail _ h))
theorem zb {w:World}{kk:Value→World→Prop}(h:kk (sF 1 0 0 (.slice none 0 0)) w):b8 prog 33 [(0,.int .i64 1)] w kk:=bt (fun w=>by kernel_rfl) h
theorem F0 {w:World}{kk:Value→World→Prop}(h:kk (.agg (Lt 1 0 0 (.slice none 0 0) 0 (-1))) w):b8 prog 100 [(0,sF 1 0 0 (.slice none 0 0)),(2,.int .i64 (-1))] w kk:=bt (fun w=>by kernel_rfl) h
theorem gJ {i:Nat}{s:Rd}{l:List UInt8}{r:List (List UInt8)}:ie i s (l::r)=if l=[]∨l.head?=some 35 then ie (i+1) s r else match gg s l with
  | .error e=>.error (i,e)
  | .ok s'=>ie (i+1) s' r:=rfl
abbrev IV (g2 g5 g6 n:Nat)(ls:List (List UInt8))(s:Rd)(v:Value)(hs:List Hd)(S:Nat→Prop):List cH:=
 [nZ g5 s v hs S,own 9 1 (.slice (some ⟨g6,0,none⟩) n n) n (ls.map aU),an g2 33 (di 0 0 0 (.slice none 0 0))]
theorem M6:enters prog 21=true:=by kernel_rfl
set_option maxHeartbeats 4000000 in
theorem c21 (text:List UInt8)(hl:text.length≤100000)(w:World)(p:jA w):bw prog 21 [aU text] w fun r w'=>
  (∃ (i:Nat) (e:Int),cu text=.error (i,e)∧r=.tuple #[sF 0 0 0 (.slice none 0 0),.int .i64 (i:Int),.int .i64 e]∧e≠0∧aT w w')∨
  (∃ s v S,cu text=.ok s∧r=.tuple #[sF s.kd s.ni s.no v,.int .i64 0,.int .i64 0]∧eE w w' (ki S v s.ls)):=by
 refine ar (N:=68) func21 M6 rfl rfl rfl (by simp) ?_;have H:=Hp.aC w;have d:cu text=if 8000<text.length then .error (0,3) else match ie 0 uR (bM text).dropLast with
  | .error x=>.error x
  | .ok s=>Ba text s:=rfl
 refine ak (γ:=Nat) (fun g2=>[(2,(ah g2))]) (fun g2 w'=>Hp w ab w' [an g2 33 (di 0 0 0 (.slice none 0 0))] []) ?_ ?_
 ·refine H.alloc 33 (cs:=di 0 0 0 (.slice none 0 0)) mX rfl ?_;clear H;intro g2 w1 H;exact ⟨g2,⟨rfl,trivial⟩,H⟩
 clear H;rintro g2 u w1 H;have hsz:(⟨text.toArray⟩:ByteArray).size=text.length:=gZ text;refine aw (fun w'=>¬ 8000<text.length∧Hp w ab w' [an g2 33 (di 0 0 0 (.slice none 0 0))] []) ?_ ?_
 ·refine ed underlying9 ?_;refine au (fun h=>?_) (fun h=>?_)
  ·rw[if_pos (show 8000<text.length by omega)] at d;refine ja ?_;refine H.storeAll 0 rfl bG rfl dz ?_;clear H;intro w2 H;refine H.ai 0 rfl ft bG ?_;exact ⟨rfl,.inl ⟨0,3,d,rfl,by decide,H.keeps⟩⟩
  ·exact ⟨(),trivial,by omega,H⟩
 clear H;rintro ⟨⟩ u w2 ⟨h8,H⟩;rw[if_neg h8] at d;refine ak (γ:=Nat) (fun g5=>[(5,(ah g5))]) (fun g5 w'=>Hp w ab w' [nZ g5 uR (.slice none 0 0) [] (fun _=>False),an g2 33 (di 0 0 0 (.slice none 0 0))] []) ?_ ?_
 ·refine zb ?_;refine F0 ?_;refine H.box 100 _ (cs:=Lt 1 0 0 (.slice none 0 0) 0 (-1)) rfl ?_;clear H;intro g5 w3 H;have o:=H.add (aS.refl _ _) (qM (fun _=>False) [] []) (lN.nil _ _) (fun g p=>p.elim);exact ⟨g5,⟨rfl,trivial⟩,jI (s:=uR) ((o.bx 77 3).b7 [2,0,1,3] (by decide) rfl)⟩
 clear H;rintro g5 u w3 H;have I:=mu text;have hle:∀ l ∈ bM text,l.length≤100000:=fun l h=>Nat.le_trans (oL h) hl;have J:(bM text).length≤100001:=by rw[lM];have:=List.count_le_length (a:=(10:UInt8)) (l:=text);omega
 have t:∀ s,Ba text s=if (bM text).getLastD []≠[] then .error ((bM text).length - 1,2) else if s.st≠5 then .error ((bM text).length - 1,7) else .ok s:=fun s=>rfl;have m:=Pa text hl;generalize bM text=Ls at d I hle J t m;obtain ⟨N,V⟩:∃ N,Ls.length=N+1:=⟨Ls.length - 1,by have:Ls.length≠0:=fun h=>I (List.length_eq_zero_iff.1 h);omega⟩;rw[V] at m;simp only[V,Nat.add_sub_cancel] at t;refine ak (γ:=Nat) (fun g6=>[(6,.slice (some ⟨g6,0,none⟩) (N+1) (N+1))]) (fun g6 w'=>Hp w ab w' (IV g2 g5 g6 (N+1) Ls uR (.slice none 0 0) [] (fun _=>False)) []) ?_ ?_
 ·refine aj (m _ (p.same H.keeps)) ?_;rintro _ w4 ⟨g6,rfl,hn⟩;exact ⟨g6,⟨rfl,trivial⟩,(H.bq hn).front 1 rfl⟩
 clear H m;rintro g6 u w4 H;refine ak (γ:=Unit) (fun _=>[(7,.int .i64 (N:Int))]) (fun _ w'=>Hp w ab w' (IV g2 g5 g6 (N+1) Ls uR (.slice none 0 0) [] (fun _=>False)) []) ?_ ?_
 ·refine ay underlying73 ?_;have e:IntKind.i64.wrap (((N+1:Nat):Int) - 1)=(N:Int):=by rw[aH (by omega) (by omega)];omega
  exact ⟨(),⟨congrArg (Value.int .i64) e,trivial⟩,H⟩
 clear H;rintro ⟨⟩ u w5 H;have hdl:Ls.dropLast.length=N:=by rw[List.length_dropLast,V];rfl
 have Y:∀ i,i<N→∃ l,Ls[i]?=some l∧l ∈ Ls∧Ls.dropLast.drop i=l::Ls.dropLast.drop (i+1):=fun i hi=>by
  refine ⟨Ls[i],List.getElem?_eq_getElem (by omega),List.getElem_mem _,?_⟩;rw[List.drop_eq_getElem_cons (by omega),List.getElem_dropLast]
 refine ak (γ:=Rd × Value × List Hd × (Nat→Prop)) (fun _=>[]) (fun (s,v,hs,S) w'=>(qC s∧cu text=Ba text s)∧Hp w ab w' (IV g2 g5 g6 (N+1) Ls s v hs S) []) ?_ ?_
 ·refine vy underlying73 p7 rfl (i:=N) (by omega) (Nat.le_refl _) (by omega) ?_;refine ay underlying73 ?_;refine ax (γ:=Nat × Rd × Value × List Hd × (Nat→Prop)) (fun (i,_)=>[(27,.int .i64 (i:Int))]) (fun (i,s,v,hs,S) w'=>(i≤N∧qC s∧ie 0 uR Ls.dropLast=ie i s (Ls.dropLast.drop i))∧Hp w ab w' (IV g2 g5 g6 (N+1) Ls s v hs S) []) (fun (i,_)=>N - i) (0,uR,.slice none 0 0,[],fun _=>False) ⟨rfl,trivial⟩ ⟨⟨Nat.zero_le _,xu,rfl⟩,H⟩ ?_;clear H;rintro ⟨i,s,v,hs,S⟩ u w6 ⟨⟨hi,f,n⟩,H⟩;refine au (fun h7=>?_) (fun h7=>?_)
  ·have K:i<N:=by omega
   obtain ⟨line,C,M,D⟩:=Y i K;rw[D,gJ] at n;have Z:=hle line M;refine ak (γ:=Rd × Value × List Hd × (Nat→Prop)) (fun _=>[]) (fun (E,v,hs,S) w'=>(qC E∧ie 0 uR Ls.dropLast=ie (i+1) E (Ls.dropLast.drop (i+1)))∧Hp w ab w' (IV g2 g5 g6 (N+1) Ls E v hs S) []) ?_ ?_
   ·refine ak (γ:=Unit) (fun _=>[(8,.int .i64 (i:Int)),(9,aU line)]) (fun _ w'=>Hp w ab w' (IV g2 g5 g6 (N+1) Ls s v hs S) []) ?_ ?_
    ·refine ao underlying73 p7 i rfl K (o':=i) (by omega) ?_;refine H.ec 1 rfl wy (by rw[List.getElem?_map,C];rfl) ?_;exact ⟨(),⟨rfl,rfl,trivial⟩,H⟩
    clear H;rintro ⟨⟩ u w7 H;refine aw (fun w'=>¬ (line=[]∨line.head?=some 35)∧Hp w ab w' (IV g2 g5 g6 (N+1) Ls s v hs S) []) ?_ ?_
    ·refine eN (b:=[]) ?_
     cases line with
     | nil=>
      rw[if_pos (.inl rfl)] at n
      repeat refine ag rfl ?_
      exact ⟨(s,v,hs,S),trivial,⟨f,n⟩,H⟩
     | cons c line=>
      repeat refine af rfl ?_
      refine iM (l:=c::line) (i:=0) (by simp) underlying9 ?_
      repeat refine af rfl ?_
      have hc0:∀ {q:Prop},(c::line=[]∨(c::line).head?=some 35→q)→c=35→q:=fun h e=>h (.inr (by rw[e];rfl));refine cg (fun h=>?_) (fun h=>?_)
      ·have a0:c=35:=UInt8.toNat_inj.1 (show c.toNat=35 from Int.ofNat_inj.1 h);rw[if_pos (.inr (by rw[a0];rfl))] at n;exact ⟨(s,v,hs,S),trivial,⟨f,n⟩,H⟩
      ·refine ⟨(),trivial,fun F=>?_,H⟩;rcases F with F | F
       ·cases F
       ·injection F with F;exact h (by rw[F];rfl)
    clear H;rintro ⟨⟩ u w8 ⟨hno,H⟩;rw[if_neg hno] at n;have O:∀ x,K4 x→¬ (nZ g5 s v hs S).foot x:=fun x hx n=>by
     rcases H.new _ (.head _) x n with h | h
     ·have:=p.lt x hx;omega
     ·exact h
    have hc:=Pj line Z g5 s f.few f.st f.told v hs S w8 (p.same H.keeps) O (H.get 0 rfl);refine aj hc ?_;rintro _ w9 (⟨E,v',G,S',X,rfl,hT⟩ | ⟨e,R',X,rfl,he,hT⟩)
    ·refine af rfl ?_;rw[X] at n;exact ⟨(E,v',G,S'),trivial,⟨qD f X,n⟩,H.b9 0 rfl hT⟩
    ·refine ag (by simpa using he) ?_;rw[X] at n;rw[n] at d;have o:=H.b9 0 rfl hT;refine ja ?_;refine o.storeAll 2 rfl bG rfl dz ?_;clear H o;intro Q H;refine H.ai 2 rfl ft bG ?_;exact ⟨rfl,.inl ⟨i,e,d,rfl,he,H.keeps⟩⟩
   ·clear H;rintro ⟨E,v',G,S'⟩ u w8 ⟨⟨T,hf'⟩,H⟩;exact ⟨(i+1,E,v',G,S'),by show N - (i+1)<N - i;omega,⟨up (by omega),trivial⟩,⟨by show i+1≤N;omega,T,hf'⟩,H⟩
  ·obtain rfl:i=N:=by omega
   rw[show Ls.dropLast.drop i=[] from List.drop_eq_nil_of_le (by omega)] at n;rw[n] at d;exact ⟨(s,v,hs,S),trivial,⟨f,d⟩,H⟩
 clear H;rintro ⟨s,v,hs,S⟩ u w6 ⟨⟨f,B⟩,H⟩;rw[t] at B;obtain ⟨last,y,hlm⟩:∃ l,Ls[N]?=some l∧l ∈ Ls:=⟨Ls[N],List.getElem?_eq_getElem (by omega),List.getElem_mem _⟩;have hgl:Ls.getLastD []=last:=by
  rw[List.getLastD_eq_getLast?,List.getLast?_eq_getElem?,V];show (Ls[N]?).getD []=last;rw[y];rfl
 rw[hgl] at B;refine aw (fun w'=>(last=[]∧s.st=5)∧Hp w ab w' (IV g2 g5 g6 (N+1) Ls s v hs S) []) ?_ ?_
 ·refine ao underlying73 p7 N rfl (by omega) (o':=N) (by omega) ?_;refine H.ec 1 rfl wy (by rw[List.getElem?_map,y];rfl) ?_;refine gS (b:=[]) ?_;by_cases k:last=[]
  ·rw[if_neg (fun h=>h k)] at B;refine af (by rw[k];rfl) ?_;have o:=Hp.split (Ls:=pf g5 s v hs S) H;refine aa (ik _) ?_;refine o.load 0 rfl aF rfl ?_;by_cases U:s.st=5
   ·refine af (by rw[U];rfl) ?_;exact ⟨(),trivial,⟨k,U⟩,H⟩
   ·rw[if_pos U] at B;refine ag (bne_iff_ne.2 (by omega)) ?_;refine ja ?_;refine H.storeAll 2 rfl bG rfl dz ?_;clear H o;intro Q H;refine H.ai 2 rfl ft bG ?_;exact ⟨rfl,.inl ⟨N,7,B,rfl,by decide,H.keeps⟩⟩
  ·rw[if_pos k] at B;refine ag (by simpa using k) ?_;refine ja ?_;refine H.storeAll 2 rfl bG rfl dz ?_;clear H;intro Q H;refine H.ai 2 rfl ft bG ?_;exact ⟨rfl,.inl ⟨N,2,B,rfl,by decide,H.keeps⟩⟩
 clear H;rintro ⟨⟩ u w7 ⟨⟨k,U⟩,H⟩;rw[if_neg (fun h=>h k),if_neg (fun h=>h U)] at B;have o:=Hp.split (Ls:=pf g5 s v hs S) H;clear H;obtain ⟨A,c,rfl,hc⟩:=fh (o.get 1 rfl);refine aa (fC _) ?_;refine o.cY 0 rfl (di s.kd s.ni s.no (.slice A s.ls.length c)).toList ft bG (fun j u z=>?_) ?_
 ·match j,z with
  | 0,z=>exact z
  | 1,z=>exact z
  | 2,z=>exact z
  | 3,z=>exact z
  | j+4,z=>simp[di] at z
 refine o.storeAll 4 rfl bG rfl dz ?_;clear o;intro w8 H;refine H.ai 4 rfl ft bG ?_;refine ⟨rfl,.inr ⟨s,.slice A s.ls.length c,_,B,rfl,xl H.keeps (H.get 1 rfl) (fun g p=>⟨(H.new _ (.tail _ (.head _)) g p).resolve_right id,H.lt _ (.tail _ (.head _)) g p⟩) (H.get 2 rfl) (fun g p=>⟨(H.new _ (.tail _ (.tail _ (.head _))) g p).resolve_right id,H.lt _ (.tail _ (.tail _ (.head _))) g p⟩) rfl⟩⟩
theorem Cg {w0 w:World}{F:Nat→Prop}{L M:List cH}{g k:Nat}{x:Int}{kk:Value→World→Prop}(H:Hp w0 F w (an g 5 #[.int .u8 x]::L) M)(c:k<256)(a:x=(k:Int))(h:kk (aU [UInt8.ofNat k]) w) :
  pQ prog 151 9 (.slice (some ⟨g,0,none⟩) 1 1) w kk:=by
 have b:=H.py (l:=1) (sz:=1) rfl (by decide);refine b.s6 (bs:=[UInt8.ofNat k]) 0 underlying151 underlying5 underlying9 ?_ h;have e:(UInt8.ofNat k).toNat=k:=by simp;omega
 show some (own 5 1 (.slice (some ⟨g,0,none⟩) 1 1) 1 [.int .u8 x])=some (own 5 1 (.slice (some ⟨g,0,none⟩) 1 1) 1 [.int .u8 ((UInt8.ofNat k).toNat:Int)]);rw[a,e]
theorem zc {x:Nat}(h:x<10):IntKind.u8.wrap (IntKind.i64.wrap (48+(x:Int)))=((48+x:Nat):Int):=by
 rw[aH (by omega) (by omega),mI (by omega) (by omega)];omega
theorem M7:enters prog 63=true:=by kernel_rfl
theorem Pk (n:Nat)(e:n<100)(w:World):bw prog 63 [.int .i64 (n:Int)] w fun r w'=>r=aU (cQ n)∧aT w w':=by
 refine ar (N:=21) func63 M7 rfl rfl rfl (by simp) ?_;have H:=Hp.aC w;have b:(n:Int) % (10:Int)=((n % 10:Nat):Int):=by omega
 have c:(n:Int) / (10:Int)=((n / 10:Nat):Int):=by omega
 refine ak (γ:=Unit) (fun _=>[(2,aU [])]) (fun _ w'=>Hp w ab w' [] []) ⟨(),⟨rfl,trivial⟩,H⟩ ?_;clear H;rintro ⟨⟩ u f H;refine ak (γ:=Unit) (fun _=>[(3,aU [UInt8.ofNat (48+n % 10)])]) (fun _ w'=>Hp w ab w' [] []) ?_ ?_
 ·refine nw (by omega) (by omega) ?_;refine jP (by kernel_rfl) underlying5 ?_;refine H.aX En rfl ?_;clear H;intro g d H;refine Cg (k:=48+n % 10) H (by omega) (by rw[b];exact zc (by omega)) ?_;exact ⟨(),⟨rfl,trivial⟩,H.forget⟩
 clear H;rintro ⟨⟩ u d H;refine aw (fun w'=>¬ n<10∧Hp w ab w' [] []) ?_ ?_
 ·refine au (fun h=>?_) (fun h=>?_)
  ·have h:n<10:=by have h:(n:Int)<10:=h;omega
   refine ⟨congrArg aU (show [UInt8.ofNat (48+n % 10)]=cQ n from ?_),H.keeps⟩;unfold cQ;rw[if_pos h,Nat.mod_eq_of_lt h]
  ·exact ⟨(),trivial,fun i=>h (show (n:Int)<10 by omega),H⟩
 clear H;rintro ⟨⟩ u j ⟨a,H⟩;refine nv (by omega) (by omega) (by omega) ?_;refine jP (by kernel_rfl) underlying5 ?_;refine H.aX En rfl ?_;clear H;intro g l H;refine Cg (k:=48+n / 10) H (by omega) (by rw[c];exact zc (by omega)) ?_;refine a_ (by simp) ?_;refine ⟨congrArg aU (show [UInt8.ofNat (48+n / 10)]++[UInt8.ofNat (48+n % 10)]=cQ n from ?_),H.keeps⟩;unfold cQ;rw[if_neg a];rfl
theorem M8:enters prog 31=true:=by kernel_rfl
theorem c31 (w:World):bw prog 31 [] w fun r w'=>∃ g,r=.slice (some ⟨g,0,none⟩) 4 4∧eE w w' (an g 9 K8):=by
 refine ar (N:=2) func31 M8 rfl rfl rfl (by simp) ?_;have H:=Hp.aC w;refine H.bf NS (cs:=K8) (by decide) (by decide) (by kernel_rfl) ?_;clear H;intro g a H;exact ⟨g,rfl,H.out⟩
theorem M9:enters prog 30=true:=by kernel_rfl
theorem Oy (line wd:List UInt8)(hw:wd.length≤10)(lo hi:Nat)(i:hi<65)(o:lo≤hi)(w:World):bw prog 30 [aU line,aU wd,.int .i64 (lo:Int),.int .i64 (hi:Int)] w fun r w'=>r=.int .i64 (ee wd lo hi line)∧aT w w':=by
 refine ar (N:=24) func30 M9 rfl rfl rfl (by simp) ?_;have H:=Hp.aC w;refine ak (γ:=Unit) (fun _=>[(8,.int .i64 0)]) (fun _ w'=>Hp w ab w' [] []) ⟨(),⟨rfl,trivial⟩,H⟩ ?_;clear H;rintro ⟨⟩ u x H;refine aw (fun w'=>(∀ m,lo≤m→m≤hi→line≠wd++32::cQ m)∧Hp w ab w' [] []) ?_ ?_
 ·refine ax (γ:=Nat) (fun n=>[(9,.int .i64 (n:Int))]) (fun n w'=>(lo≤n∧n≤hi+1∧∀ m,lo≤m→m<n→line≠wd++32::cQ m)∧Hp w ab w' [] []) (fun n=>hi+1 - n) lo ⟨rfl,trivial⟩ ⟨⟨Nat.le_refl _,by omega,fun m k p=>by omega⟩,H⟩ ?_;clear H;rintro n u q ⟨⟨k,p,a⟩,H⟩;refine au (fun d=>?_) (fun d=>?_)
  ·have l:n≤hi:=by have d:(n:Int)≤(hi:Int):=d;omega
   have s:=jX n;refine aw (fun w'=>line≠wd++32::cQ n∧Hp w ab w' [] []) ?_ ?_
   ·refine a_ (b:=[32]) (by simp only[List.length_cons,List.length_nil];omega) ?_;refine aj (Pk n (by omega) _) ?_;rintro _ t ⟨rfl,v⟩;replace H:=H.same v;refine a_ (by simp only[List.length_append,List.length_cons,List.length_nil];omega) ?_;refine eN ?_;have e:wd++[32]++cQ n=wd++32::cQ n:=by simp
    rw[e];refine aE (fun g=>?_) (fun g=>?_)
    ·exact ⟨by rw[qz i k l (beq_iff_eq.1 g)];rfl,H.keeps⟩
    ·exact ⟨(),trivial,fun h=>by rw[h] at g;simp at g,H⟩
   ·clear H;rintro ⟨⟩ u t ⟨j,H⟩;exact ⟨n+1,by show hi+1 - (n+1)<hi+1 - n;omega,⟨up (by omega),trivial⟩,⟨by show lo≤n+1;omega,by show n+1≤hi+1;omega,fun m c f=>by rcases Nat.lt_succ_iff_lt_or_eq.1 f with h | h;exact a m c h;subst h;exact j⟩,H⟩
  ·have l:hi<n:=by have d:¬ (n:Int)≤(hi:Int):=d;omega
   exact ⟨(),trivial,fun m c f=>a m c (by omega),H⟩
 clear H;rintro ⟨⟩ u q ⟨a,H⟩;exact ⟨by rw[vL a];rfl,H.keeps⟩
def r8 (ni no:Nat)(line:List UInt8):Option Ln:=
 if (line.length=ni+1+no∧bk (line.take ni)=true∧line[ni]?=some 32)∧(line.drop (ni+1)).all fw=true then
  some (dA (line.take ni) ni,dB (line.take ni) ni,(line.drop (ni+1)).map bH)
 else none
def xK (c:UInt8):Nat→Nat
 | 0=>3
 | m+1=>if c=eV m then m else xK c m
theorem K9 (c:UInt8):xK c 3=if fw c then bH c else 3:=by
 by_cases a:c=48
 ·subst a;decide
 ·by_cases b:c=49
  ·subst b;decide
  ·by_cases d:c=45
   ·subst d;decide
   ·have e0:eV 0=48:=rfl;have e:eV 1=49:=rfl;have f:eV 2=45:=rfl;simp only[xK,e0,e,f,if_neg a,if_neg b,if_neg d];unfold fw;simp[a,b,d]
theorem F3 {m:Nat}(h:m<3):(#[aU [48],aU [49],aU [45]]:Array Value)[m]?=some (aU [eV m]):=by
 rcases (by omega:m=0∨m=1∨m=2) with rfl | rfl | rfl <;> rfl
theorem ui {l:List UInt8}{k:Nat}(h:k<l.length):(l.take (k+1)).drop k=[l[k]]:=by
 rw[List.take_add_one,List.getElem?_eq_getElem h,List.drop_append_of_le_length (by rw[List.length_take];omega),List.drop_eq_nil_of_le (by rw[List.length_take];omega)];rfl
theorem F4 (c:UInt8):bH c<3:=by
 unfold bH;split
 ·decide
 ·split <;> decide
theorem zd {w:World}{kk:Value→World→Prop}(h:kk (.agg (fM 0 0 (.slice none 0 0))) w):b8 prog 77 [] w kk:=bt (fun w=>by kernel_rfl) h
theorem M_:enters prog 32=true:=by kernel_rfl
set_option maxHeartbeats 4000000 in
theorem Pl (line:List UInt8)(hl:line.length≤100000)(ni no:Nat)(T:ni≤8)(U:no≤4)(w:World):bw prog 32 [aU line,.int .i64 (ni:Int),.int .i64 (no:Int)] w fun r w'=>
  (r8 ni no line=none∧∃ m v B n c,r=.tuple #[.agg (fM m v (.slice B n c)),.bool false]∧aT w w')∨
  (∃ l B c,r8 ni no line=some l∧r=.tuple #[.agg (fM l.1 l.2.1 (.slice B l.2.2.length c)),.bool true]∧eE w w' (own 3 1 (.slice B l.2.2.length c) l.2.2.length (ints l.2.2))):=by
 refine ar (N:=71) func32 M_ rfl rfl rfl (by simp) ?_;have H:=Hp.aC w;have V:(⟨line.toArray⟩:ByteArray).size=line.length:=gZ line;have g:r8 ni no line=if (line.length=ni+1+no∧bk (line.take ni)=true∧line[ni]?=some 32)∧(line.drop (ni+1)).all fw=true then some (dA (line.take ni) ni,dB (line.take ni) ni,(line.drop (ni+1)).map bH) else none:=rfl;refine ak (γ:=Nat) (fun g6=>[(6,(ah g6)),(7,.bool false)]) (fun g6 w'=>Hp w ab w' [an g6 77 (fM 0 0 (.slice none 0 0))] []) ?_ ?_
 ·refine H.alloc 77 (cs:=fM 0 0 (.slice none 0 0)) lO rfl ?_;clear H;intro g6 X H;exact ⟨g6,⟨rfl,rfl,trivial⟩,H⟩
 clear H;rintro g6 u X H;refine aw (fun w'=>line.length=ni+1+no∧Hp w ab w' [an g6 77 (fM 0 0 (.slice none 0 0))] []) ?_ ?_
 ·refine ed underlying9 ?_;have e:IntKind.i64.wrap (IntKind.i64.wrap ((ni:Int)+1)+(no:Int))=((ni+1+no:Nat):Int):=by
   rw[aH (x:=(ni:Int)+1) (by omega) (by omega),aH (by omega) (by omega)];omega
  refine df (fun h=>?_) (fun h=>?_)
  ·rw[if_neg (fun y=>h (by rw[e];have:=y.1.1;omega))] at g;refine zd ?_;refine H.storeAll 0 rfl cF rfl (eS (m:=0) (v:=0)) ?_;clear H;intro Y H;refine H.ai 0 rfl mw cF ?_;exact ⟨rfl,.inl ⟨g,0,0,none,0,0,rfl,H.keeps⟩⟩
  ·refine ⟨(),trivial,?_,H⟩;rw[e] at h;omega
 clear H;rintro ⟨⟩ u Y ⟨hlen,H⟩;have G:(line.take ni).length=ni:=by rw[List.length_take];omega
 refine ak (γ:=Nat) (fun g8=>[(8,(ah g8)),(9,.bool (bk (line.take ni)))]) (fun g8 w'=>Hp w ab w' [an g8 48 (cc (if bk (line.take ni) then dA (line.take ni) ni else 0) (if bk (line.take ni) then dB (line.take ni) ni else 0)),an g6 77 (fM 0 0 (.slice none 0 0))] []) ?_ ?_
 ·refine AY underlying9 ni rfl (by omega) ?_;refine aj (O0 (line.take ni) (by omega) _) ?_;rintro _ Z ⟨rfl,F⟩;replace H:=H.same F;clear F;have e:jv (line.take ni)=cv (if bk (line.take ni) then dA (line.take ni) ni else 0) (if bk (line.take ni) then dB (line.take ni) ni else 0):=by unfold jv;rw[G];split <;> rfl
  rw[e];refine H.alloc 48 (cs:=cc 0 0) fj rfl ?_;clear H;intro g8 w4 H;refine H.bR 0 rfl ?_;clear H;intro M H;exact ⟨g8,⟨rfl,rfl,trivial⟩,H⟩
 clear H;rintro g8 u Z H;generalize hm:(if bk (line.take ni) then dA (line.take ni) ni else 0)=m at H;generalize O:(if bk (line.take ni) then dB (line.take ni) ni else 0)=v at H;refine ak (γ:=Nat) (fun g10=>[(10,(ah g10))]) (fun g10 w'=>Hp w ab w' [an g10 77 (fM m v (.slice none 0 0)),own 3 1 (.slice none 0 0) 0 [],an g6 77 (fM 0 0 (.slice none 0 0))] []) ?_ ?_
 ·refine H.ai 0 rfl bz aO ?_;refine xq ?_;refine H.alloc 77 (cs:=fM 0 0 (.slice none 0 0)) lO rfl ?_;clear H;intro g10 I H;refine H.storeAll 0 rfl cF rfl (eS (m:=m) (v:=v)) ?_;clear H;intro A H;exact ⟨g10,⟨rfl,trivial⟩,(H.bx 3 1).b7 [1,0,3] (by decide) rfl⟩
 clear H;rintro g10 u w4 H;refine ak (γ:=Option Addr × Nat) (fun _=>[]) (fun (B,d) w'=>(line.drop (ni+1)).all fw=true∧Hp w ab w' [an g10 77 (fM m v (.slice B no d)),own 3 1 (.slice B no d) no (ints ((line.drop (ni+1)).map bH)),an g6 77 (fM 0 0 (.slice none 0 0))] []) ?_ ?_
 ·refine ax (γ:=Nat × Option Addr × Nat) (fun (j,_)=>[(11,.int .i64 ((ni+1+j:Nat):Int))]) (fun (j,B,d) w'=>(j≤no∧∀ i (h:i<(line.drop (ni+1)).length),i<j→fw (line.drop (ni+1))[i]=true)∧Hp w ab w' [an g10 77 (fM m v (.slice B j d)),own 3 1 (.slice B j d) j (ints (((line.drop (ni+1)).take j).map bH)),an g6 77 (fM 0 0 (.slice none 0 0))] []) (fun (j,_)=>no - j) (0,none,0) ⟨up (by omega),trivial⟩ ⟨⟨Nat.zero_le _,fun i _ h=>by omega⟩,H⟩ ?_;clear H;rintro ⟨j,B,d⟩ u M ⟨⟨hj,a⟩,H⟩;refine ed underlying9 ?_;refine au (fun h7=>?_) (fun h7=>?_)
  ·have hjn:j<no:=by omega
   have F:ni+1+j<line.length:=by omega
   have k:j<(line.drop (ni+1)).length:=by rw[List.length_drop];omega
   have o:(line.drop (ni+1))[j]=line[ni+1+j]:=by rw[List.getElem_drop]
   refine ak (γ:=Option Addr × Nat) (fun _=>[]) (fun (B,d) w'=>fw line[ni+1+j]=true∧Hp w ab w' [an g10 77 (fM m v (.slice B (j+1) d)),own 3 1 (.slice B (j+1) d) (j+1) (ints (((line.drop (ni+1)).take (j+1)).map bH)),an g6 77 (fM 0 0 (.slice none 0 0))] []) ?_ ?_
   ·have f:fw line[ni+1+j]=false→r8 ni no line=none:=fun h=>by
     rw[g,if_neg];rintro ⟨_,Q⟩;rw[List.all_eq_true] at Q;have:=Q _ (List.getElem_mem k);rw[o,h] at this
     cases this
    generalize J:line[ni+1+j]=c at f o;refine ak (γ:=Unit) (fun _=>[(12,.int .i64 ((3:Nat):Int))]) (fun _ w'=>Hp w ab w' [an g10 77 (fM m v (.slice B j d)),own 3 1 (.slice B j d) j (ints (((line.drop (ni+1)).take j).map bH)),an g6 77 (fM 0 0 (.slice none 0 0))] []) ⟨(),⟨rfl,trivial⟩,H⟩ ?_;clear H;rintro ⟨⟩ u I H;refine ak (γ:=Unit) (fun _=>[(12,.int .i64 ((xK c 3:Nat):Int))]) (fun _ w'=>Hp w ab w' [an g10 77 (fM m v (.slice B j d)),own 3 1 (.slice B j d) j (ints (((line.drop (ni+1)).take j).map bH)),an g6 77 (fM 0 0 (.slice none 0 0))] []) ?_ ?_
    ·refine ax (γ:=Nat) (fun q=>[(13,.int .i64 (q:Int)),(12,.int .i64 ((xK c q:Nat):Int))]) (fun q w'=>q≤3∧Hp w ab w' [an g10 77 (fM m v (.slice B j d)),own 3 1 (.slice B j d) j (ints (((line.drop (ni+1)).take j).map bH)),an g6 77 (fM 0 0 (.slice none 0 0))] []) (fun q=>3 - q) 0 ⟨rfl,rfl,trivial⟩ ⟨Nat.zero_le _,H⟩ ?_;clear H;rintro q u A ⟨hq,H⟩;refine au (fun C=>?_) (fun C=>?_)
     ·have p:q<3:=by have C:(q:Int)<3:=C;omega
      refine ak (γ:=Unit) (fun _=>[(12,.int .i64 ((xK c (q+1):Nat):Int))]) (fun _ w'=>Hp w ab w' [an g10 77 (fM m v (.slice B j d)),own 3 1 (.slice B j d) j (ints (((line.drop (ni+1)).take j).map bH)),an g6 77 (fM 0 0 (.slice none 0 0))] []) ?_ ?_
      ·refine u7 (fun i=>i==8) (fun u=>Hp w ab u [] []) eO (by kernel_rfl) ((H.same (aS.drew _)).b7 [] (by decide) rfl) ?_;replace H:=H.same (aS.drew _);generalize A.drew=K at H;refine quiet (aU [c]) (fun w H=>rr underlying9 (ni+1+j) (ni+1+j+1) rfl (aH (by omega) (by omega)) (by omega) (by omega) (by rw[ui F,J];exact ⟨rfl,rfl⟩)) ?_;refine H.bf NS (cs:=#[aU [48],aU [49],aU [45]]) (by decide) (by decide) (by kernel_rfl) ?_;clear H;intro gx w9 H;refine ⟨.inl (H.b7 [] (by decide) rfl),?_⟩;refine quiet _ (fun w H=>ao underlying73 p7 q rfl p (o':=q) (by omega) ae) ?_;refine H.load 0 rfl wy (F3 p) ?_;refine ⟨.inl (H.b7 [] (by decide) rfl),?_⟩;refine quiet _ (fun w H=>eN ae) ?_;have S:xK c (q+1)=if c=eV q then q else xK c q:=rfl;refine aE (fun b=>?_) (fun b=>?_)
       ·have b:c=eV q:=by simpa using b
        exact ⟨(),⟨congrArg (fun z:Nat=>Value.int .i64 (z:Int)) (show q=xK c (q+1) by rw[S,if_pos b]),trivial⟩,H.forget⟩
       ·have b:c≠eV q:=by simpa using b
        exact ⟨(),⟨congrArg (fun z:Nat=>Value.int .i64 (z:Int)) (show xK c q=xK c (q+1) by rw[S,if_neg b]),trivial⟩,H.forget⟩
      ·clear H;rintro ⟨⟩ u K H;exact ⟨q+1,by show 3 - (q+1)<3 - q;omega,⟨up (by omega),rfl,trivial⟩,by show q+1≤3;omega,H⟩
     ·have p:q=3:=by have C:¬ (q:Int)<3:=C;omega
      subst p;exact ⟨(),⟨rfl,trivial⟩,H⟩
    clear H;rintro ⟨⟩ u A H;rw[K9];refine aw (fun w'=>fw c=true∧Hp w ab w' [an g10 77 (fM m v (.slice B j d)),own 3 1 (.slice B j d) j (ints (((line.drop (ni+1)).take j).map bH)),an g6 77 (fM 0 0 (.slice none 0 0))] []) ?_ ?_
    ·cases b:fw c with
     | false=>
      refine ag rfl ?_;refine zd ?_;refine H.storeAll 2 rfl cF rfl (eS (m:=0) (v:=0)) ?_;clear H;intro K H;refine H.ai 2 rfl mw cF ?_;exact ⟨rfl,.inl ⟨f b,0,0,none,0,0,rfl,H.keeps⟩⟩
     | true=>
      refine af ?_ ?_
      ·rw[beq_eq_false_iff_ne];have:=F4 c;show ((bH c:Nat):Int)≠3;omega
      ·exact ⟨(),trivial,rfl,H⟩
    clear H;rintro ⟨⟩ u K ⟨b,H⟩;rw[b];refine aa (eI _) ?_;refine H.load 0 rfl e8 rfl ?_;refine H.aX dH rfl ?_;clear H;intro gx w9 H;refine H.aG 2 0 dH rfl rfl rfl (fun u hu=>by rw[List.mem_singleton.1 hu];rfl) (by omega) (by omega) ?_;clear H;intro B4 d4 w10 H;replace H:=H.forget;refine aa (eI _) ?_;refine H.store 0 rfl qx (Nat.le_of_ble_eq_true rfl) rfl ?_;clear H;intro w11 H;refine ⟨(B4,d4),trivial,rfl,?_⟩;rw[uf k,o,← ju];exact H
   ·clear H;rintro ⟨B2,d2⟩ u I ⟨b,H⟩;refine ⟨(j+1,B2,d2),by show no - (j+1)<no - j;omega,⟨up (by omega),trivial⟩,⟨by show j+1≤no;omega,lA a (hi:=k) (by rw[o];exact b)⟩,H⟩
  ·obtain rfl:j=no:=by omega
   have k:(line.drop (ni+1)).length=j:=by rw[List.length_drop];omega
   refine ⟨(B,d),trivial,List.all_eq_true.2 fun c J=>by obtain ⟨i,hi,rfl⟩:=List.getElem_of_mem J;exact a i hi (by omega),?_⟩;rw[List.take_of_length_le (by omega)] at H;exact H
 clear H;rintro ⟨B,d⟩ u M ⟨a,H⟩;have t:ni<line.length:=by omega
 refine H.fp [an g10 77 (fM m v (.slice B no d))] (fun u h=>h.b7 [0] (by decide) rfl) eO (by kernel_rfl) ?_;clear H;intro I H;refine quiet _ (fun w H=>H.ai 0 rfl mw cF ae) ?_
 cases hpo:bk (line.take ni) with
 | false=>
  rw[if_neg (fun y=>by rw[hpo] at y;exact absurd y.1.2.1 (by simp))] at g
  repeat refine af rfl ?_
  refine H.storeAll 2 rfl cF rfl eS ?_;clear H;intro A H;refine ⟨.inl (H.b7 [0] (by decide) rfl),?_⟩;refine H.ai 2 rfl mw cF ?_;exact ⟨rfl,.inl ⟨g,m,v,B,no,d,rfl,H.keeps⟩⟩
 | true=>
  rw[hpo,if_pos rfl] at hm O
  repeat refine ag rfl ?_
  refine quiet _ (fun w H=>iM t underlying9 ae) ?_
  repeat refine ag rfl ?_
  refine H.storeAll 2 rfl cF rfl eS ?_;clear H;intro A H;refine ⟨.inl (H.b7 [0] (by decide) rfl),?_⟩;refine H.ai 2 rfl mw cF ?_;have D:line[ni]?=some line[ni]:=List.getElem?_eq_getElem t;by_cases s:line[ni]=32
  ·rw[if_pos ⟨⟨hlen,hpo,by rw[D,s]⟩,a⟩,hm,O] at g;have E:((line.drop (ni+1)).map bH).length=no:=by rw[List.length_map,List.length_drop];omega
   refine ⟨rfl,.inr ⟨(m,v,(line.drop (ni+1)).map bH),B,d,g,?_,?_⟩⟩
   ·show Value.tuple #[_,_]=Value.tuple #[.agg (fM m v (.slice B ((line.drop (ni+1)).map bH).length d)),_];rw[E,s];rfl
   ·show eE w A (own 3 1 (.slice B ((line.drop (ni+1)).map bH).length d) ((line.drop (ni+1)).map bH).length (ints ((line.drop (ni+1)).map bH)));rw[E];exact H.uZ 1 rfl
  ·rw[if_neg (fun y=>s (by have:=y.1.2.2;rw[D] at this;exact Option.some.inj this))] at g;refine ⟨rfl,.inl ⟨g,m,v,B,no,d,?_,H.keeps⟩⟩;have e:((line[ni].toNat:Int)==32)=false:=beq_eq_false_iff_ne.2 fun h=>s (UInt8.toNat_inj.1 (show line[ni].toNat=32 from Int.ofNat_inj.1 h));rw[e];rfl
theorem ze (s:List UInt8):Lib.index (32::s) [32]=0:=by
 show (if [32].isPrefixOf (32::s) then _ else _)=_;rw[if_pos (by simp)]
theorem zf {c:UInt8}(h:c≠32)(s:List UInt8):Lib.index (c::s) [32]=if Lib.index s [32]== -1 then -1 else Lib.index s [32]+1:=by
 show (if [32].isPrefixOf (c::s) then _ else _)=_;rw[if_neg (by simp;exact fun e=>h e.symm)]
theorem F5:∀ (a b:List UInt8),(∀ c ∈ a,c≠32)→Lib.index (a++32::b) [32]=(a.length:Int)
 | [],b,_=>ze b
 | c::a,b,h=>by
  rw[List.cons_append,zf (h c (.head _)),F5 a b fun x d=>h x (.tail _ d)];rw[if_neg (by simp)];simp
theorem F6 {a b:List UInt8}(h:∀ c ∈ a,c≠32):Lib.cut (a++32::b) [32]=(a,b,true):=by
 unfold Lib.cut;rw[F5 a b h,if_pos (by omega)];simp
theorem zg:∀ {l:List UInt8} {i:Nat},Lib.index l [32]=(i:Int)→l=l.take i++32::l.drop (i+1)
 | [],i,h=>by
  have:Lib.index [] [32]= -1:=rfl;rw[this] at h;omega
 | c::l,i,h=>by
  by_cases a:c=32
  ·subst a;rw[ze] at h;obtain rfl:i=0:=by omega
   rfl
  ·rw[zf a] at h;split at h
   ·omega
   ·rename_i b;have d:-1≤Lib.index l [32]:=Lib.index_ge l [32];have e:Lib.index l [32]≠ -1:=by simpa using b
    obtain ⟨k,rfl⟩:∃ k,i=k+1:=⟨i - 1,by omega⟩;have f:=zg (l:=l) (i:=k) (by omega);rw[List.take_succ_cons,List.drop_succ_cons,List.cons_append,← f]
theorem K_ {l:List UInt8}(h:(Lib.cut l [32]).2.2=true):l=(Lib.cut l [32]).1++32::(Lib.cut l [32]).2.1:=by
 unfold Lib.cut at h ⊢;split at h
 ·rename_i a;rw[if_pos a];have:=zg (l:=l) (i:=(Lib.index l [32]).toNat) (by omega);exact this
 ·cases h
theorem Ch {c:UInt8}(h:fw c=true):c≠32:=by
 rintro rfl;exact absurd h (by decide)
theorem r9 {a:List UInt8}(h:bk a=true):∀ c ∈ a,fw c=true:=by
 unfold bk at h;rw[Bool.and_eq_true,List.all_eq_true] at h;exact h.2
theorem uj (ni no:Nat)(line:List UInt8):r8 ni no line=km ni no line:=by
 by_cases h:(line.length=ni+1+no∧bk (line.take ni)=true∧line[ni]?=some 32)∧(line.drop (ni+1)).all fw=true
 ·obtain ⟨⟨s,g,i⟩,r⟩:=h;have d:ni<line.length:=by omega
  have j:line=line.take ni++32::line.drop (ni+1):=by
   have e:line.drop ni=32::line.drop (ni+1):=by
    rw[List.drop_eq_getElem_cons d];rw[List.getElem?_eq_getElem d] at i;rw[Option.some.inj i]
   rw[← e,List.take_append_drop]
  have k:Lib.cut line [32]=(line.take ni,line.drop (ni+1),true):=by
   have:=F6 (a:=line.take ni) (b:=line.drop (ni+1)) fun c k=>Ch (r9 g c k);rw[← j] at this;exact this
  have f:(line.take ni).length=ni:=by rw[List.length_take];omega
  have l:(line.drop (ni+1)).length=no:=by rw[List.length_drop];omega
  unfold r8 km;rw[k,if_pos ⟨⟨s,g,i⟩,r⟩,if_pos ⟨by unfold lK;rw[g,f,l];simp,r⟩,f]
 ·unfold r8;rw[if_neg h];unfold km;rw[if_neg];rintro ⟨m,t⟩;apply h;unfold lK at m;simp only[Bool.and_eq_true,beq_iff_eq] at m;obtain ⟨⟨⟨n,u⟩,o⟩,p⟩:=m;have j:=K_ n;generalize Lib.cut line [32]=q at *;obtain ⟨a,b,ok⟩:=q;simp only at *;subst j;subst o;refine ⟨⟨by rw[List.length_append,List.length_cons,p];omega,by rw[List.take_left];exact u,by rw[List.getElem?_append_right (Nat.le_refl _)];simp⟩,?_⟩;rw[show a++32::b=(a++[32])++b by simp,List.drop_left' (by simp)];exact t
theorem H_ {ni no:Nat}{r:List UInt8}:km ni no (46::r)=none:=by
 rw[← uj];unfold r8;rw[if_neg];rintro ⟨⟨c,a,b⟩,d⟩
 cases ni with
 | zero=>simp at b
 | succ n=>exact absurd (r9 a 46 (by simp)) (by decide)
theorem uk {wd line:List UInt8}{lo hi:Nat}(h:0≤ee wd lo hi line):∃ r,line=wd++32::r:=by
 obtain ⟨n,_,_,_,h⟩:=vM h;exact ⟨_,h⟩
def um (s:Rd)(line:List UInt8)(kind:Int)(n:Int):Option Rd:=
 if 0≤kind then (if s.st=2 then some { s with kd:=kind.toNat,st:=3 } else none)
 else if 0≤n then (if s.st<4 then some { s with told:=n,st:=4 } else none)
 else if line=[46,101] then (if s.told<0∨s.told=s.ls.length then some { s with st:=5 } else none)
 else match km s.ni s.no line with
  | some l=>if 64≤s.ls.length then none else some { s with st:=4,ls:=s.ls++[l] }
  | none=>none
def fu (line:List UInt8):Nat→Int
 | 0=> -1
 | k+1=>if line=[46,116,121,112,101,32]++dF k then (k:Int) else fu line k
def r_ (s:Rd)(line:List UInt8):Option Rd:=
 if s.st=0 then (if 0≤ee [46,105] 0 8 line then some { s with ni:=(ee [46,105] 0 8 line).toNat,st:=1 } else none)
 else if s.st=1 then (if 0≤ee [46,111] 1 4 line then some { s with no:=(ee [46,111] 1 4 line).toNat,st:=2 } else none)
 else if s.st=5 then none
 else um s line (fu line 4) (ee [46,112] 0 64 line)
def Oz {α:Type}:Except Int α→Option α
 | .ok a=>some a
 | .error _=>none
theorem Bc (line:List UInt8):(∃ k:Nat,k<4∧fu line 4=(k:Int)∧line=[46,116,121,112,101,32]++dF k)∨(fu line 4= -1∧∀ k:Nat,k<4→line≠[46,116,121,112,101,32]++dF k):=by
 by_cases a:line=[46,116,121,112,101,32]++dF 3
 ·exact .inl ⟨3,by decide,by unfold fu;rw[if_pos a],a⟩
 ·by_cases b:line=[46,116,121,112,101,32]++dF 2
  ·exact .inl ⟨2,by decide,by unfold fu;rw[if_neg a];unfold fu;rw[if_pos b],b⟩
  ·by_cases c:line=[46,116,121,112,101,32]++dF 1
   ·exact .inl ⟨1,by decide,by unfold fu;rw[if_neg a];unfold fu;rw[if_neg b];unfold fu;rw[if_pos c],c⟩
   ·by_cases d:line=[46,116,121,112,101,32]++dF 0
    ·exact .inl ⟨0,by decide,by unfold fu;rw[if_neg a];unfold fu;rw[if_neg b];unfold fu;rw[if_neg c];unfold fu;rw[if_pos d],d⟩
    ·refine .inr ⟨by unfold fu;rw[if_neg a];unfold fu;rw[if_neg b];unfold fu;rw[if_neg c];unfold fu;rw[if_neg d];rfl,fun k e=>?_⟩;rcases (by omega:k=0∨k=1∨k=2∨k=3) with rfl | rfl | rfl | rfl <;> assumption
theorem vO {i j:Nat}(hi:i<4)(a:j<4)(h:dF i=dF j):i=j:=by
 rcases (by omega:i=0∨i=1∨i=2∨i=3) with rfl | rfl | rfl | rfl <;> rcases (by omega:j=0∨j=1∨j=2∨j=3) with rfl | rfl | rfl | rfl <;> first | rfl | exact absurd h (by decide)
theorem uo (s:Rd)(v:s.st≤5)(w:s.ls.length≤64)(line:List UInt8):r_ s line=Oz (gg s line):=by
 unfold r_ gg;split
 ·split <;> rfl
 ·split
  ·split <;> rfl
  ·split
   ·rfl
   ·rename_i x y z;have b:∀ r,line=46::r→km s.ni s.no line=none:=fun r h=>by rw[h];exact H_
    rcases Bc line with ⟨k,t,e,a⟩ | ⟨e,o⟩
    ·have g:Lib.hasPrefix line [46,116,121,112,101,32]=true:=by rw[a];exact List.isPrefixOf_iff_prefix.2 ⟨_,rfl⟩
     have p:line.drop 6=dF k:=by rw[a];simp
     have f:ee [46,112] 0 64 line<0:=by
      refine Int.not_le.1 fun h=>?_;obtain ⟨r,d⟩:=uk h;rw[a] at d;exact absurd (List.cons.inj (List.cons.inj d).2).1 (by decide)
     have c:line≠[46,101]:=by rw[a];intro h;exact absurd (List.cons.inj (List.cons.inj h).2).1 (by decide)
     unfold um ic;rw[e,if_pos (by omega)];by_cases m:s.st=2
     ·rw[if_pos m,if_pos ⟨g,m⟩,p,pK t rfl fun j u h=>by have:=vO (by omega) t h;omega];rw[Int.toNat_natCast];rfl
     ·rw[if_neg m,if_neg (fun h=>m h.2),if_neg (fun h=>by omega)];unfold jb;rw[if_neg c,b _ a];rfl
    ·unfold um ic;rw[e,if_neg (by omega)];by_cases g:Lib.hasPrefix line [46,116,121,112,101,32]=true∧s.st=2
     ·rw[if_pos g];have n:=vN g.1;have p:qB (line.drop 6)=none:=ug fun j u h=>o j u (by rw[h];exact n);have f:ee [46,112] 0 64 line<0:=by
       refine Int.not_le.1 fun h=>?_;obtain ⟨r,d⟩:=uk h;rw[n] at d;exact absurd (List.cons.inj (List.cons.inj d).2).1 (by decide)
      have c:line≠[46,101]:=by rw[n];intro h;exact absurd (List.cons.inj (List.cons.inj h).2).1 (by decide)
      rw[p,if_neg (by omega),if_neg c,b _ n];rfl
     ·rw[if_neg g];by_cases f:0≤ee [46,112] 0 64 line
      ·rw[if_pos f];by_cases q:s.st<4
       ·rw[if_pos q,if_pos ⟨f,by omega⟩];rfl
       ·rw[if_neg q,if_neg (fun h=>q (by omega))];obtain ⟨r,d⟩:=uk f;have c:line≠[46,101]:=by rw[d];intro h;exact absurd (List.cons.inj (List.cons.inj h).2).1 (by decide)
        unfold jb;rw[if_neg c,b _ d];rfl
      ·rw[if_neg f,if_neg (show ¬ (0≤ee [46,112] 0 64 line∧s.st≤3) from fun h=>f h.1)];unfold jb;by_cases he:line=[46,101]
       ·rw[if_pos he,if_pos he];split <;> rfl
       ·rw[if_neg he,if_neg he]
        cases d:km s.ni s.no line with
        | none=>rfl
        | some l=>
         simp only;by_cases i:s.ls.length=64
         ·rw[if_pos (by omega),if_pos i];rfl
         ·rw[if_neg (by omega),if_neg i];rfl
def jc:Rd→List UInt8→List UInt8→Option Rd
 | s,cur,[]=>if cur=[]∧s.st=5 then some s else none
 | s,cur,c::r=>if c=10 then (if cur=[]∨cur.head?=some 35 then jc s [] r else match r_ s cur with
   | some s'=>jc s' [] r
   | none=>none)
  else jc s (cur++[c]) r
def Bd (i:Nat)(s:Rd)(ls:List (List UInt8)):Option Rd:=
 match ie i s ls.dropLast with
 | .ok s'=>if ls.getLastD []=[]∧s'.st=5 then some s' else none
 | .error _=>none
theorem DA {i:Nat}{s:Rd}{l:List UInt8}{ls:List (List UInt8)}(hs:qC s)(h:ls≠[]):Bd i s (l::ls)=if l=[]∨l.head?=some 35 then Bd (i+1) s ls else match r_ s l with
   | some s'=>Bd (i+1) s' ls
   | none=>none:=by
 have b:(l::ls).dropLast=l::ls.dropLast:=List.dropLast_cons_of_ne_nil h;have c:(l::ls).getLastD []=ls.getLastD []:=by
  rw[List.getLastD_eq_getLast?,List.getLastD_eq_getLast?,List.getLast?_cons_of_ne_nil h]
 unfold Bd;rw[b,c,gJ,uo s hs.st hs.few];by_cases a:l=[]∨l.head?=some 35
 ·rw[if_pos a,if_pos a]
 ·rw[if_neg a,if_neg a]
  cases gg s l with
  | ok s'=>rfl
  | error e=>rfl
theorem qE:∀ (r:List UInt8) (s:Rd) (cur:List UInt8) (i:Nat) (x:List UInt8) (xs:List (List UInt8)),qC s→bM r=x::xs→jc s cur r=Bd i s ((cur++x)::xs)
 | [],s,cur,i,x,xs,hs,h=>by
  have h:[[]]=x::xs:=h;injection h with d f;subst d;subst f;rw[List.append_nil];rfl
 | c::r,s,cur,i,x,xs,hs,h=>by
  obtain ⟨y,a,b⟩:∃ y a,bM r=y::a:=by
   cases hl:bM r with
   | nil=>exact absurd hl (mu r)
   | cons y a=>exact ⟨y,a,rfl⟩
  by_cases g:c=10
  ·subst g;rw[lI] at h;injection h with d f;subst d;subst f;rw[List.append_nil,DA hs (mu r)];unfold jc;rw[if_pos rfl];split
   ·rw[qE r s [] (i+1) y a hs b,b];rfl
   ·rw[uo s hs.st hs.few]
    cases ht:gg s cur with
    | error e=>rfl
    | ok s'=>
     show jc s' [] r=Bd (i+1) s' (bM r);rw[qE r s' [] (i+1) y a (qD hs ht) b,b];rfl
  ·rw[iB g b] at h;injection h with d f;subst d;subst f;unfold jc;rw[if_neg g,qE r s (cur++[c]) i y a hs b];simp
theorem zh {text:List UInt8}(f:text.length≤8000):jc uR [] text=match cu text with | .ok s=>some s | .error _=>none:=by
 obtain ⟨y,a,d⟩:∃ y a,bM text=y::a:=by
  cases hl:bM text with
  | nil=>exact absurd hl (mu text)
  | cons y a=>exact ⟨y,a,rfl⟩
 rw[qE text uR [] 0 y a xu d];unfold cu Bd;rw[if_neg (by omega),d,List.nil_append]
 cases hf:ie 0 uR (y::a).dropLast with
 | error e=>rfl
 | ok s=>
  simp only;unfold Ba;rw[d];by_cases b:(y::a).getLastD []=[]
  ·by_cases c:s.st=5
   ·rw[if_pos ⟨b,c⟩,if_neg (fun h=>h b),if_neg (fun h=>h c)]
   ·rw[if_neg (fun h=>c h.2),if_neg (fun h=>h b),if_pos c]
  ·rw[if_neg (fun h=>b h.1),if_pos b]
theorem Be {text:List UInt8}(a:8000<text.length):cu text=.error (0,3):=by unfold cu;rw[if_pos a]
def uq (st:Nat):Nat:=if st=5 then 6 else st
abbrev qL (g2 g5:Nat)(kd ni no:Int)(v:Value)(n:Nat)(hs:List Hd)(S:Nat→Prop)(Q:List Ln):List cH:=
 [an g5 33 (di kd ni no v),own 77 3 v n (flat kX hs),qM S hs Q,an g2 33 (di 0 0 0 (.slice none 0 0))]
def OA (o:Option Rd)(e at_ told kd ni no:Int)(n:Nat)(Q:List Ln):Prop:=
 (e≠0∧o=none)∨(e=0∧∃ a,o=some a∧kd=a.kd∧ni=a.ni∧no=a.no∧at_=(uq a.st:Nat)∧told=a.told∧Q=a.ls∧n=Q.length)
theorem OB:enters prog 9=true:=by kernel_rfl
set_option maxHeartbeats 4000000 in
theorem c9 (text:List UInt8)(hl:text.length≤100000)(w:World):bw prog 9 [aU text] w fun r w'=>
  ((∀ s,cu text≠.ok s)∧∃ (i n:Int),r=.tuple #[sF 0 0 0 (.slice none 0 0),.int .i64 i,.int .i64 n]∧n≠0∧aT w w')∨
  (∃ s v S,cu text=.ok s∧r=.tuple #[sF s.kd s.ni s.no v,.int .i64 0,.int .i64 0]∧eE w w' (ki S v s.ls)):=by
 refine ar (N:=139) func9 OB rfl rfl rfl (by simp) ?_;have H:=Hp.aC w;have hsz:(⟨text.toArray⟩:ByteArray).size=text.length:=gZ text;refine ak (γ:=Nat) (fun g2=>[(2,(ah g2))]) (fun g2 w'=>Hp w ab w' [an g2 33 (di 0 0 0 (.slice none 0 0))] []) ?_ ?_
 ·refine H.alloc 33 (cs:=di 0 0 0 (.slice none 0 0)) mX rfl ?_;clear H;intro g2 w1 H;exact ⟨g2,⟨rfl,trivial⟩,H⟩
 clear H;rintro g2 u w1 H;refine aw (fun w'=>¬ 8000<text.length∧Hp w ab w' [an g2 33 (di 0 0 0 (.slice none 0 0))] []) ?_ ?_
 ·refine ed underlying9 ?_;refine au (fun h=>?_) (fun h=>?_)
  ·refine ja ?_;refine H.storeAll 0 rfl bG rfl dz ?_;clear H;intro w2 H;refine H.ai 0 rfl ft bG ?_;exact ⟨rfl,.inl ⟨fun s hs=>absurd ((Be (show 8000<text.length by omega)).symm.trans hs) (fun h=>by cases h),0,3,rfl,by decide,H.keeps⟩⟩
  ·exact ⟨(),trivial,by omega,H⟩
 clear H;rintro ⟨⟩ u w2 ⟨h8,H⟩;have j:=zh (text:=text) (by omega);refine ak (γ:=Nat) (fun g5=>[(5,(ah g5))]) (fun g5 w'=>Hp w ab w' (qL g2 g5 1 0 0 (.slice none 0 0) 0 [] (fun _=>False) []) []) ?_ ?_
 ·refine zb ?_;refine H.alloc 33 (cs:=di 0 0 0 (.slice none 0 0)) mX rfl ?_;clear H;intro g5 w3 H;refine H.storeAll 0 rfl bG rfl dz ?_;clear H;intro w4 H;have X:=H.add (aS.refl _ _) (qM (fun _=>False) [] []) (lN.nil _ _) (fun g Y=>Y.elim);exact ⟨g5,⟨rfl,trivial⟩,(X.bx 77 3).b7 [2,0,1,3] (by decide) rfl⟩
 clear H;rintro g5 u w3 H;refine ak (γ:=Unit) (fun _=>[(6,.int .i64 (-1))]) (fun _ w'=>Hp w ab w' (qL g2 g5 1 0 0 (.slice none 0 0) 0 [] (fun _=>False) []) []) ⟨(),⟨rfl,trivial⟩,H⟩ ?_;clear H;rintro ⟨⟩ u w4 H;refine ak (γ:=Unit) (fun _=>[(7,.int .i64 ((0:Nat):Int))]) (fun _ w'=>Hp w ab w' (qL g2 g5 1 0 0 (.slice none 0 0) 0 [] (fun _=>False) []) []) ⟨(),⟨rfl,trivial⟩,H⟩ ?_;clear H;rintro ⟨⟩ u w5 H;refine ak (γ:=Unit) (fun _=>[(8,.int .i64 ((0:Nat):Int))]) (fun _ w'=>Hp w ab w' (qL g2 g5 1 0 0 (.slice none 0 0) 0 [] (fun _=>False) []) []) ⟨(),⟨rfl,trivial⟩,H⟩ ?_;clear H;rintro ⟨⟩ u w6 H;refine ak (γ:=Unit) (fun _=>[(9,aU [])]) (fun _ w'=>Hp w ab w' (qL g2 g5 1 0 0 (.slice none 0 0) 0 [] (fun _=>False) []) []) ⟨(),⟨rfl,trivial⟩,H⟩ ?_;clear H;rintro ⟨⟩ u w7 H;refine ak (γ:=Rd × List UInt8 × Nat × Value × List Hd × (Nat→Prop)) (fun (s,cur,num,_)=>[(7,.int .i64 ((uq s.st:Nat):Int)),(8,.int .i64 (num:Int)),(9,aU cur)]) (fun (s,cur,num,v,hs,S) w'=>(jc uR [] text=jc s cur []∧qC s)∧Hp w ab w' (qL g2 g5 s.kd s.ni s.no v s.ls.length hs S s.ls) []) ?_ ?_
 ·refine ax (γ:=Nat × Rd × List UInt8 × Nat × Value × List Hd × (Nat→Prop)) (fun (i,s,cur,num,_)=>[(10,.int .i64 (i:Int)),(6,.int .i64 s.told),(7,.int .i64 ((uq s.st:Nat):Int)),(8,.int .i64 (num:Int)),(9,aU cur)])
   (fun (i,s,cur,num,v,hs,S) w'=>(i≤text.length∧num≤i∧cur.length≤i∧jc uR [] text=jc s cur (text.drop i)∧qC s)∧Hp w ab w' (qL g2 g5 s.kd s.ni s.no v s.ls.length hs S s.ls) []) (fun (i,_)=>text.length - i)
   (0,uR,[],0,.slice none 0 0,[],fun _=>False) ⟨rfl,rfl,rfl,rfl,rfl,trivial⟩ ⟨⟨Nat.zero_le _,Nat.zero_le _,Nat.zero_le _,rfl,xu⟩,H⟩ ?_
  clear H;rintro ⟨i,s,cur,num,v,hs,S⟩ u w8 ⟨⟨hi,hnum,hcur,p,f⟩,H⟩;refine ed underlying9 ?_;refine au (fun h7=>?_) (fun h7=>?_)
  ·have Z:i<text.length:=by omega
   obtain ⟨c,hc⟩:∃ c,text[i]=c:=⟨_,rfl⟩;have hdr:text.drop i=c::text.drop (i+1):=by rw[← hc];exact List.drop_eq_getElem_cons Z
   rw[hdr] at p;have hfs:jc s cur (c::text.drop (i+1))=if c=10 then (if cur=[]∨cur.head?=some 35 then jc s [] (text.drop (i+1)) else match r_ s cur with
    | some x=>jc x [] (text.drop (i+1))
    | none=>none)
    else jc s (cur++[c]) (text.drop (i+1)):=rfl
   rw[hfs] at p;clear hfs;refine ak (γ:=Rd × List UInt8 × Nat × Value × List Hd × (Nat→Prop)) (fun (s,cur,num,_)=>[(6,.int .i64 s.told),(7,.int .i64 ((uq s.st:Nat):Int)),(8,.int .i64 (num:Int)),(9,aU cur)])
    (fun (s,cur,num,v,hs,S) w'=>(num≤i+1∧cur.length≤i+1∧jc uR [] text=jc s cur (text.drop (i+1))∧qC s)∧Hp w ab w' (qL g2 g5 s.kd s.ni s.no v s.ls.length hs S s.ls) []) ?_ ?_
   ·refine ak (γ:=Unit) (fun _=>[(9,aU cur)]) (fun _ w'=>c=10∧Hp w ab w' (qL g2 g5 s.kd s.ni s.no v s.ls.length hs S s.ls) []) ?_ ?_
    ·refine iM Z underlying9 ?_;refine df (fun h=>?_) (fun h=>?_)
     ·have hne:c≠10:=fun e=>h (by rw[hc,e];rfl);rw[if_neg hne] at p;refine rr (l:=text) underlying9 i (i+1) rfl (aH (by omega) (by omega)) (by omega) (by omega) ?_;rw[ui Z,hc];refine a_ (by simp only[List.length_cons,List.length_nil];omega) ?_;exact ⟨(s,cur++[c],num,v,hs,S),⟨rfl,rfl,rfl,rfl,trivial⟩,⟨by show num≤i+1;omega,by show (cur++[c]).length≤i+1;rw[List.length_append,List.length_singleton];omega,p,f⟩,H⟩
     ·exact ⟨(),⟨rfl,trivial⟩,by rw[← hc];exact UInt8.toNat_inj.1 (show text[i].toNat=10 from Int.ofNat_inj.1 h),H⟩
    clear H;rintro ⟨⟩ u w9 ⟨h10,H⟩;rw[if_pos h10] at p;refine ak (γ:=Unit) (fun _=>[(11,aU cur)]) (fun _ w'=>Hp w ab w' (qL g2 g5 s.kd s.ni s.no v s.ls.length hs S s.ls) []) ⟨(),⟨rfl,trivial⟩,H⟩ ?_;clear H;rintro ⟨⟩ u w10 H;refine ak (γ:=Unit) (fun _=>[(9,aU [])]) (fun _ w'=>Hp w ab w' (qL g2 g5 s.kd s.ni s.no v s.ls.length hs S s.ls) []) ⟨(),⟨rfl,trivial⟩,H⟩ ?_;clear H;rintro ⟨⟩ u w11 H;refine ak (γ:=Unit) (fun _=>[(8,.int .i64 ((num+1:Nat):Int))]) (fun _ w'=>Hp w ab w' (qL g2 g5 s.kd s.ni s.no v s.ls.length hs S s.ls) []) ⟨(),⟨up (by omega),trivial⟩,H⟩ ?_;clear H;rintro ⟨⟩ u w12 H;refine aw (fun w'=>¬ (cur=[]∨cur.head?=some 35)∧Hp w ab w' (qL g2 g5 s.kd s.ni s.no v s.ls.length hs S s.ls) []) ?_ ?_
    ·refine eN (b:=[]) ?_
     cases cur with
     | nil=>
      rw[if_pos (.inl rfl)] at p
      repeat refine ag rfl ?_
      exact ⟨(s,[],num+1,v,hs,S),⟨rfl,rfl,rfl,rfl,trivial⟩,⟨by show num+1≤i+1;omega,Nat.zero_le _,p,f⟩,H⟩
     | cons b r=>
      repeat refine af rfl ?_
      refine iM (l:=b::r) (i:=0) (by simp) underlying9 ?_
      repeat refine af rfl ?_
      refine cg (fun h=>?_) (fun h=>?_)
      ·have h35:b=35:=UInt8.toNat_inj.1 (show b.toNat=35 from Int.ofNat_inj.1 h);rw[if_pos (.inr (by rw[h35];rfl))] at p;exact ⟨(s,[],num+1,v,hs,S),⟨rfl,rfl,rfl,rfl,trivial⟩,⟨by show num+1≤i+1;omega,Nat.zero_le _,p,f⟩,H⟩
      ·refine ⟨(),trivial,fun hh=>?_,H⟩;rcases hh with hh | hh
       ·cases hh
       ·injection hh with hh;exact h (by rw[hh];rfl)
    clear H;rintro ⟨⟩ u w13 ⟨hno,H⟩;rw[if_neg hno] at p;refine ak (γ:=Unit) (fun _=>[(12,.int .i64 2)]) (fun _ w'=>Hp w ab w' (qL g2 g5 s.kd s.ni s.no v s.ls.length hs S s.ls) []) ⟨(),⟨rfl,trivial⟩,H⟩ ?_;clear H;rintro ⟨⟩ u w14 H;refine ak (γ:=(Int × Int × Int) × (Int × Int × Int) × Value × Nat × List Hd × (Nat→Prop) × List Ln) (fun ((e,at_,told),_)=>[(12,.int .i64 e),(7,.int .i64 at_),(6,.int .i64 told)])
     (fun ((e,at_,told),(kd,ni,no),v,n,hs,S,Q) w'=>OA (r_ s cur) e at_ told kd ni no n Q∧Hp w ab w' (qL g2 g5 kd ni no v n hs S Q) []) ?_ ?_
    ·have hst:=f.st;have d:r_ s cur=if s.st=0 then (if 0≤ee [46,105] 0 8 cur then some { s with ni:=(ee [46,105] 0 8 cur).toNat,st:=1 } else none)
      else if s.st=1 then (if 0≤ee [46,111] 1 4 cur then some { s with no:=(ee [46,111] 1 4 cur).toNat,st:=2 } else none)
      else if s.st=5 then none
      else um s cur (fu cur 4) (ee [46,112] 0 64 cur):=rfl
     generalize r_ s cur=o at d ⊢;clear p;by_cases E:s.st=0
     ·rw[if_pos E] at d;refine ag (by rw[E];rfl) ?_;refine aj (Oy cur [46,105] (by decide) 0 8 (by decide) (by decide) _) ?_;rintro _ w15 ⟨rfl,G⟩;replace H:=H.same G;clear G;refine aa (eC _ _) ?_;refine H.store 0 rfl bc (Nat.le_of_ble_eq_true rfl) rfl ?_;clear H;intro I H;refine aa (eC _ _) ?_;refine H.load 0 rfl aF rfl ?_;generalize ee [46,105] 0 8 cur=N at H d ⊢;by_cases q:0≤N
      ·rw[if_pos q] at d;refine ag (decide_eq_true q) ?_;exact ⟨((0,1,s.told),(s.kd,N,s.no),v,s.ls.length,hs,S,s.ls),⟨rfl,rfl,rfl,trivial⟩,.inr ⟨rfl,{ s with ni:=N.toNat,st:=1 },d,rfl,(Int.toNat_of_nonneg q).symm,rfl,rfl,rfl,rfl,rfl⟩,H⟩
      ·rw[if_neg q] at d;refine af (decide_eq_false q) ?_;exact ⟨((2,1,s.told),(s.kd,N,s.no),v,s.ls.length,hs,S,s.ls),⟨rfl,rfl,rfl,trivial⟩,.inl ⟨by decide,d⟩,H⟩
     ·rw[if_neg E] at d;have a0:((uq s.st:Nat):Int)≠0:=by unfold uq;split <;> omega
      refine af (beq_eq_false_iff_ne.2 a0) ?_;by_cases h1:s.st=1
      ·rw[if_pos h1] at d;refine ag (by rw[h1];rfl) ?_;refine aj (Oy cur [46,111] (by decide) 1 4 (by decide) (by decide) _) ?_;rintro _ w15 ⟨rfl,G⟩;replace H:=H.same G;clear G;refine aa (fB _ _) ?_;refine H.store 0 rfl bc (Nat.le_of_ble_eq_true rfl) rfl ?_;clear H;intro I H;refine aa (fB _ _) ?_;refine H.load 0 rfl aF rfl ?_;generalize ee [46,111] 1 4 cur=N at H d ⊢;by_cases q:0≤N
       ·rw[if_pos q] at d;refine ag (decide_eq_true q) ?_;exact ⟨((0,2,s.told),(s.kd,s.ni,N),v,s.ls.length,hs,S,s.ls),⟨rfl,rfl,rfl,trivial⟩,.inr ⟨rfl,{ s with no:=N.toNat,st:=2 },d,rfl,rfl,(Int.toNat_of_nonneg q).symm,rfl,rfl,rfl,rfl⟩,H⟩
       ·rw[if_neg q] at d;refine af (decide_eq_false q) ?_;exact ⟨((2,2,s.told),(s.kd,s.ni,N),v,s.ls.length,hs,S,s.ls),⟨rfl,rfl,rfl,trivial⟩,.inl ⟨by decide,d⟩,H⟩
      ·rw[if_neg h1] at d;have a1:((uq s.st:Nat):Int)≠1:=by unfold uq;split <;> omega
       refine af (beq_eq_false_iff_ne.2 a1) ?_;by_cases y:s.st=5
       ·rw[if_pos y] at d;refine af (by rw[y];rfl) ?_;exact ⟨((2,((uq s.st:Nat):Int),s.told),(s.kd,s.ni,s.no),v,s.ls.length,hs,S,s.ls),⟨rfl,rfl,rfl,trivial⟩,.inl ⟨by decide,d⟩,H⟩
       ·rw[if_neg y] at d;have ea:uq s.st=s.st:=by unfold uq;rw[if_neg y]
        refine ag (decide_eq_true (show ((uq s.st:Nat):Int)<6 by rw[ea];omega)) ?_;clear a0 a1;have hst2:2≤s.st:=by omega
        have hno4:=f.no hst2;refine ak (γ:=Unit) (fun _=>[(13,.int .i64 (fu cur 0))]) (fun _ w'=>Hp w ab w' (qL g2 g5 s.kd s.ni s.no v s.ls.length hs S s.ls) []) ⟨(),⟨rfl,trivial⟩,H⟩ ?_;clear H;rintro ⟨⟩ u w15 H;refine ak (γ:=Unit) (fun _=>[(13,.int .i64 (fu cur 4))]) (fun _ w'=>Hp w ab w' (qL g2 g5 s.kd s.ni s.no v s.ls.length hs S s.ls) []) ?_ ?_
        ·refine ax (γ:=Nat) (fun k=>[(14,.int .i64 (k:Int)),(13,.int .i64 (fu cur k))]) (fun k w'=>k≤4∧Hp w ab w' (qL g2 g5 s.kd s.ni s.no v s.ls.length hs S s.ls) []) (fun k=>4 - k) 0 ⟨rfl,rfl,trivial⟩ ⟨Nat.zero_le _,H⟩ ?_;clear H;rintro k u I ⟨hk4,H⟩;refine au (fun h9=>?_) (fun h9=>?_)
         ·have hk3:k<4:=by have h9:(k:Int)<4:=h9;omega
          refine ak (γ:=Unit) (fun _=>[(13,.int .i64 (fu cur (k+1)))]) (fun _ w'=>Hp w ab w' (qL g2 g5 s.kd s.ni s.no v s.ls.length hs S s.ls) []) ?_ ?_
          ·refine aj (c31 _) ?_;rintro _ w17 ⟨gk,rfl,hn⟩;replace H:=H.bq hn;clear hn;refine ao underlying73 p7 k rfl (by omega) (o':=k) (by omega) ?_;refine H.load 0 rfl wy (qy (by omega)) ?_;refine a_ (a:=[46,116,121,112,101,32]) (by have:=ru k;simp only[List.length_cons,List.length_nil];omega) ?_;refine eN ?_;have hx:fu cur (k+1)=if cur=[46,116,121,112,101,32]++dF k then (k:Int) else fu cur k:=rfl;refine aE (fun J=>?_) (fun J=>?_)
           ·rw[if_pos (beq_iff_eq.1 J)] at hx;exact ⟨(),⟨congrArg (Value.int .i64) hx.symm,trivial⟩,H.forget⟩
           ·rw[if_neg (fun h=>by rw[beq_iff_eq.2 h] at J;cases J)] at hx;exact ⟨(),⟨congrArg (Value.int .i64) hx.symm,trivial⟩,H.forget⟩
          ·clear H;rintro ⟨⟩ u w17 H;exact ⟨k+1,by show 4 - (k+1)<4 - k;omega,⟨up (by omega),rfl,trivial⟩,by show k+1≤4;omega,H⟩
         ·have hk3:k=4:=by have h9:¬ (k:Int)<4:=h9;omega
          subst hk3;exact ⟨(),⟨rfl,trivial⟩,H⟩
        clear H;rintro ⟨⟩ u I H;generalize fu cur 4=kq at d ⊢;refine ak (γ:=Unit) (fun _=>[(15,.int .i64 (ee [46,112] 0 64 cur))]) (fun _ w'=>Hp w ab w' (qL g2 g5 s.kd s.ni s.no v s.ls.length hs S s.ls) []) ?_ ?_
        ·refine aj (Oy cur [46,112] (by decide) 0 64 (by decide) (by decide) _) ?_;rintro _ w17 ⟨rfl,G⟩;exact ⟨(),⟨rfl,trivial⟩,H.same G⟩
        clear H;rintro ⟨⟩ u w17 H;generalize ee [46,112] 0 64 cur=N at d ⊢;refine ak (γ:=Nat × Bool) (fun (g16,ok)=>[(16,(ah g16)),(17,.bool ok)]) (fun (g16,ok) w'=>(km s.ni s.no cur=none∧ok=false∧Hp w ab w' (qL g2 g5 s.kd s.ni s.no v s.ls.length hs S s.ls) [])∨(∃ l B c,km s.ni s.no cur=some l∧ok=true∧Hp w ab w' (an g16 77 (fM l.1 l.2.1 (.slice B l.2.2.length c))::own 3 1 (.slice B l.2.2.length c) l.2.2.length (ints l.2.2)::(qL g2 g5 s.kd s.ni s.no v s.ls.length hs S s.ls)) [])) ?_ ?_
        ·refine aa (eC _ _) ?_;refine H.load 0 rfl aF rfl ?_;refine aa (fB _ _) ?_;refine H.load 0 rfl aF rfl ?_;refine aj (Pl cur (by omega) s.ni s.no f.ni hno4.2 _) ?_;rintro _ K (⟨M,m,vv,B,n,c,rfl,G⟩ | ⟨l,B,c,M,rfl,hn⟩)
         ·replace H:=H.same G;refine H.alloc 77 (cs:=fM 0 0 (.slice none 0 0)) lO rfl ?_;clear H;intro g16 O H;refine H.storeAll 0 rfl cF rfl eS ?_;clear H;intro w20 H;rw[uj] at M;exact ⟨(g16,false),⟨rfl,rfl,trivial⟩,.inl ⟨M,rfl,H.forget⟩⟩
         ·replace H:=H.bq hn;refine H.alloc 77 (cs:=fM 0 0 (.slice none 0 0)) lO rfl ?_;clear H;intro g16 O H;refine H.storeAll 0 rfl cF rfl eS ?_;clear H;intro w20 H;rw[uj] at M;exact ⟨(g16,true),⟨rfl,rfl,trivial⟩,.inr ⟨l,B,c,M,rfl,H⟩⟩
        clear H;rintro ⟨g16,ok⟩ u K HH;replace HH:(km s.ni s.no cur=none∧ok=false∧Hp w ab K (qL g2 g5 s.kd s.ni s.no v s.ls.length hs S s.ls) [])∨(∃ l B c,km s.ni s.no cur=some l∧ok=true∧Hp w ab K (an g16 77 (fM l.1 l.2.1 (.slice B l.2.2.length c))::own 3 1 (.slice B l.2.2.length c) l.2.2.length (ints l.2.2)::(qL g2 g5 s.kd s.ni s.no v s.ls.length hs S s.ls)) []):=HH;have H:Hp w ab K (qL g2 g5 s.kd s.ni s.no v s.ls.length hs S s.ls) []:=by
         rcases HH with ⟨_,_,H⟩ | ⟨l,B,c,_,_,H⟩
         ·exact H
         ·exact H.forget.forget
        have hQ2:um s cur kq N=if 0≤kq then (if s.st=2 then some { s with kd:=kq.toNat,st:=3 } else none)
         else if 0≤N then (if s.st<4 then some { s with told:=N,st:=4 } else none)
         else if cur=[46,101] then (if s.told<0∨s.told=s.ls.length then some { s with st:=5 } else none)
         else match km s.ni s.no cur with
          | some l=>if 64≤s.ls.length then none else some { s with st:=4,ls:=s.ls++[l] }
          | none=>none:=rfl
        rw[hQ2] at d;clear hQ2;by_cases z:0≤kq
        ·rw[if_pos z] at d;refine ag (decide_eq_true z) ?_;by_cases h2:s.st=2
         ·rw[if_pos h2] at d;refine ag (by rw[h2];rfl) ?_;refine aa (eB _ _) ?_;refine H.store 0 rfl bc (Nat.le_of_ble_eq_true rfl) rfl ?_;clear H;intro O H;exact ⟨((0,3,s.told),(kq,s.ni,s.no),v,s.ls.length,hs,S,s.ls),⟨rfl,rfl,rfl,trivial⟩,.inr ⟨rfl,_,d,(Int.toNat_of_nonneg z).symm,rfl,rfl,rfl,rfl,rfl,rfl⟩,H⟩
         ·rw[if_neg h2] at d;refine af (beq_eq_false_iff_ne.2 (show ((uq s.st:Nat):Int)≠2 by rw[ea];omega)) ?_;exact ⟨((2,((uq s.st:Nat):Int),s.told),(s.kd,s.ni,s.no),v,s.ls.length,hs,S,s.ls),⟨rfl,rfl,rfl,trivial⟩,.inl ⟨by decide,d⟩,H⟩
        ·rw[if_neg z] at d;refine af (decide_eq_false z) ?_;by_cases q:0≤N
         ·rw[if_pos q] at d;refine ag (decide_eq_true q) ?_;by_cases h4:s.st<4
          ·rw[if_pos h4] at d;refine ag (decide_eq_true (show ((uq s.st:Nat):Int)<4 by rw[ea];omega)) ?_;exact ⟨((0,4,N),(s.kd,s.ni,s.no),v,s.ls.length,hs,S,s.ls),⟨rfl,rfl,rfl,trivial⟩,.inr ⟨rfl,_,d,rfl,rfl,rfl,rfl,rfl,rfl,rfl⟩,H⟩
          ·rw[if_neg h4] at d;refine af (decide_eq_false (show ¬ ((uq s.st:Nat):Int)<4 by rw[ea];omega)) ?_;exact ⟨((2,((uq s.st:Nat):Int),s.told),(s.kd,s.ni,s.no),v,s.ls.length,hs,S,s.ls),⟨rfl,rfl,rfl,trivial⟩,.inl ⟨by decide,d⟩,H⟩
         ·rw[if_neg q] at d;refine af (decide_eq_false q) ?_;refine eN (b:=[46,101]) ?_;refine aE (fun J=>?_) (fun J=>?_)
          ·rw[if_pos (beq_iff_eq.1 J)] at d;obtain ⟨A,c0,rfl,_⟩:=fh (H.get 1 rfl);clear HH;by_cases C:s.told<0
           ·rw[if_pos (.inl C)] at d
            repeat refine ag (decide_eq_true C) ?_
            refine ag rfl ?_;exact ⟨((0,6,s.told),(s.kd,s.ni,s.no),_,s.ls.length,hs,S,s.ls),⟨rfl,rfl,rfl,trivial⟩,.inr ⟨rfl,{ s with st:=5 },d,rfl,rfl,rfl,rfl,rfl,rfl,rfl⟩,H⟩
           ·repeat refine af (decide_eq_false C) ?_
            refine aa (dy _ _) ?_
            repeat refine af (decide_eq_false C) ?_
            refine H.load 0 rfl f_ rfl ?_
            repeat refine af (decide_eq_false C) ?_
            refine ay underlying31 ?_
            repeat refine af (decide_eq_false C) ?_
            by_cases he:s.told=(s.ls.length:Int)
            ·rw[if_pos (.inr he)] at d;refine ag (beq_iff_eq.2 he) ?_;exact ⟨((0,6,s.told),(s.kd,s.ni,s.no),_,s.ls.length,hs,S,s.ls),⟨rfl,rfl,rfl,trivial⟩,.inr ⟨rfl,{ s with st:=5 },d,rfl,rfl,rfl,rfl,rfl,rfl,rfl⟩,H⟩
            ·rw[if_neg (fun h=>h.elim C he)] at d;refine af (beq_eq_false_iff_ne.2 he) ?_;exact ⟨((2,((uq s.st:Nat):Int),s.told),(s.kd,s.ni,s.no),_,s.ls.length,hs,S,s.ls),⟨rfl,rfl,rfl,trivial⟩,.inl ⟨by decide,d⟩,H⟩
          ·rw[if_neg (fun h=>by rw[beq_iff_eq.2 h] at J;cases J)] at d;clear H;rcases HH with ⟨M,rfl,H⟩ | ⟨l,B,c0,M,rfl,H⟩
           ·rw[M] at d;refine af rfl ?_;exact ⟨((2,((uq s.st:Nat):Int),s.told),(s.kd,s.ni,s.no),v,s.ls.length,hs,S,s.ls),⟨rfl,rfl,rfl,trivial⟩,.inl ⟨by decide,d⟩,H⟩
           ·rw[M] at d;simp only at d;refine ag rfl ?_;obtain ⟨A,c1,rfl,_⟩:=fh (H.get 3 rfl);have hll:s.ls.length≤64:=f.few;refine aa (dy _ _) ?_;refine H.load 2 rfl f_ rfl ?_;refine ay underlying31 ?_;have T:∀ (u:World) (F:Option Addr) (d4:Nat),Hp w ab u [an g16 77 (fM l.1 l.2.1 (.slice B l.2.2.length c0)),own 3 1 (.slice B l.2.2.length c0) l.2.2.length (ints l.2.2),an g5 33 (di s.kd s.ni s.no (.slice F (s.ls.length+1) d4)),own 77 3 (.slice F (s.ls.length+1) d4) (s.ls.length+1) (flat kX hs++kX (l.1,l.2.1,.slice B l.2.2.length c0)),qM S hs s.ls,an g2 33 (di 0 0 0 (.slice none 0 0))] []→
              ∃ D,Hp w ab u (qL g2 g5 s.kd s.ni s.no (.slice F (s.ls.length+1) d4) (s.ls.length+1) (hs++[(l.1,l.2.1,.slice B l.2.2.length c0)]) D (s.ls++[l])) []:=fun u F d4 H=>by
             obtain ⟨D,X⟩:=(H.b7 [1,4,2,3,5] (by decide) rfl:Hp w ab u (own 3 1 (.slice B l.2.2.length c0) l.2.2.length (ints l.2.2)::qM S hs s.ls::[an g5 33 (di s.kd s.ni s.no (.slice F (s.ls.length+1) d4)),own 77 3 (.slice F (s.ls.length+1) d4) (s.ls.length+1) (flat kX hs++kX (l.1,l.2.1,.slice B l.2.2.length c0)),an g2 33 (di 0 0 0 (.slice none 0 0))]) []).FX;refine ⟨D,?_⟩;unfold qL;rw[show flat kX (hs++[(l.1,l.2.1,.slice B l.2.2.length c0)])=flat kX hs++kX (l.1,l.2.1,.slice B l.2.2.length c0) from de ..];exact X.b7 [1,2,0,3] (by decide) rfl
            by_cases h64:64≤s.ls.length
            ·rw[if_pos h64] at d;refine ag (decide_eq_true (show (s.ls.length:Int)≥64 by omega)) ?_;refine aa (dy _ _) ?_;refine H.load 2 rfl f_ rfl ?_;refine H.ai 0 rfl mw cF ?_;refine H.bf IU (cs:=fM l.1 l.2.1 (.slice B l.2.2.length c0)) (by decide) (by decide) (by kernel_rfl) ?_;clear H;intro gx O H;refine H.aG 4 0 IU rfl rfl rfl eS (by omega) (by omega) ?_;clear H;intro F d4 w20 H;replace H:=H.forget;refine aa (dy _ _) ?_;refine H.store 2 rfl xm (Nat.le_of_ble_eq_true rfl) rfl ?_;clear H;intro w21 H;obtain ⟨D,X⟩:=T w21 F d4 H;exact ⟨((3,4,s.told),(s.kd,s.ni,s.no),_,s.ls.length+1,_,D,s.ls++[l]),⟨rfl,rfl,rfl,trivial⟩,.inl ⟨by decide,d⟩,X⟩
            ·rw[if_neg h64] at d;refine af (decide_eq_false (show ¬ (s.ls.length:Int)≥64 by omega)) ?_;refine aa (dy _ _) ?_;refine H.load 2 rfl f_ rfl ?_;refine H.ai 0 rfl mw cF ?_;refine H.bf IU (cs:=fM l.1 l.2.1 (.slice B l.2.2.length c0)) (by decide) (by decide) (by kernel_rfl) ?_;clear H;intro gx O H;refine H.aG 4 0 IU rfl rfl rfl eS (by omega) (by omega) ?_;clear H;intro F d4 w20 H;replace H:=H.forget;refine aa (dy _ _) ?_;refine H.store 2 rfl xm (Nat.le_of_ble_eq_true rfl) rfl ?_;clear H;intro w21 H;obtain ⟨D,X⟩:=T w21 F d4 H;exact ⟨((0,4,s.told),(s.kd,s.ni,s.no),_,s.ls.length+1,_,D,s.ls++[l]),⟨rfl,rfl,rfl,trivial⟩,.inr ⟨rfl,_,d,rfl,rfl,rfl,rfl,rfl,rfl,by simp⟩,X⟩
    clear H;rintro ⟨⟨e,at_,told⟩,⟨kd,ni,no⟩,v',n,t,D,Q⟩ u w15 ⟨hq,H⟩;rcases hq with ⟨he,U⟩ | ⟨rfl,x,U,rfl,rfl,rfl,rfl,rfl,rfl,rfl⟩
    ·rw[U] at p;refine ag (bne_iff_ne.2 he) ?_;refine ja ?_;refine H.storeAll 3 rfl bG rfl dz ?_;clear H;intro I H;refine H.ai 3 rfl ft bG ?_;refine ⟨rfl,.inl ⟨fun x t=>?_,_,e,rfl,he,H.keeps⟩⟩;rw[t,p] at j
     cases j
    ·rw[U] at p;refine af rfl ?_;have hok':qC x:=by
      rw[uo s f.st f.few] at U
      cases C:gg s cur with
      | error e=>rw[C] at U;cases U
      | ok s2=>rw[C] at U;have:=Option.some.inj U;subst this;exact qD f C
     exact ⟨(x,[],num+1,v',t,D),⟨rfl,rfl,rfl,rfl,trivial⟩,⟨by show num+1≤i+1;omega,Nat.zero_le _,p,hok'⟩,H⟩
   ·clear H;rintro ⟨x,cur',num',v',t,D⟩ u w9 ⟨⟨h1,h2,h3,h4⟩,H⟩;exact ⟨(i+1,x,cur',num',v',t,D),by show text.length - (i+1)<text.length - i;omega,⟨up (by omega),rfl,rfl,rfl,rfl,trivial⟩,⟨by show i+1≤text.length;omega,h1,h2,h3,h4⟩,H⟩
  ·obtain rfl:i=text.length:=by omega
   rw[List.drop_length] at p;exact ⟨(s,cur,num,v,hs,S),⟨rfl,rfl,rfl,trivial⟩,⟨p,f⟩,H⟩
 clear H;rintro ⟨s,cur,num,v,hs,S⟩ u w8 ⟨⟨p,f⟩,H⟩;have hfe:jc s cur []=if cur=[]∧s.st=5 then some s else none:=rfl;rw[p,hfe] at j;clear hfe p;have V:¬ (cur=[]∧s.st=5)→∀ x,cu text≠.ok x:=fun h x t=>by
  rw[if_neg h,t] at j
  cases j
 refine aw (fun w'=>cur=[]∧Hp w ab w' (qL g2 g5 s.kd s.ni s.no v s.ls.length hs S s.ls) []) ?_ ?_
 ·refine gS (b:=[]) ?_;by_cases E:cur=[]
  ·refine af (by rw[E];rfl) ?_;exact ⟨(),trivial,E,H⟩
  ·refine ag (by simpa using E) ?_;refine ja ?_;refine H.storeAll 3 rfl bG rfl dz ?_;clear H;intro w9 H;refine H.ai 3 rfl ft bG ?_;exact ⟨rfl,.inl ⟨V fun h=>E h.1,_,2,rfl,by decide,H.keeps⟩⟩
 clear H;rintro ⟨⟩ u w9 ⟨E,H⟩;refine aw (fun w'=>s.st=5∧Hp w ab w' (qL g2 g5 s.kd s.ni s.no v s.ls.length hs S s.ls) []) ?_ ?_
 ·by_cases y:s.st=5
  ·refine af (by unfold uq;rw[if_pos y];rfl) ?_;exact ⟨(),trivial,y,H⟩
  ·have h6:uq s.st≠6:=by unfold uq;rw[if_neg y];have:=f.st;omega
   refine ag (bne_iff_ne.2 (show ((uq s.st:Nat):Int)≠6 by omega)) ?_;refine ja ?_;refine H.storeAll 3 rfl bG rfl dz ?_;clear H;intro w9 H;refine H.ai 3 rfl ft bG ?_;exact ⟨rfl,.inl ⟨V fun h=>y h.2,_,7,rfl,by decide,H.keeps⟩⟩
 clear H;rintro ⟨⟩ u w10 ⟨y,H⟩;rw[if_pos ⟨E,y⟩] at j;have hP:cu text=.ok s:=by
  cases hp:cu text with
  | error e=>rw[hp] at j;cases j
  | ok x=>rw[hp] at j;rw[Option.some.inj j]
 obtain ⟨A,c,rfl,hc⟩:=fh (H.get 1 rfl);refine H.ai 0 rfl ft bG ?_;refine H.storeAll 3 rfl bG rfl dz ?_;clear H;intro w11 H;refine H.ai 3 rfl ft bG ?_;exact ⟨rfl,.inr ⟨s,_,_,hP,rfl,xl H.keeps (H.get 1 rfl) (fun g Y=>⟨(H.new _ (.tail _ (.head _)) g Y).resolve_right id,H.lt _ (.tail _ (.head _)) g Y⟩) (H.get 2 rfl) (fun g Y=>⟨(H.new _ (.tail _ (.tail _ (.head _))) g Y).resolve_right id,H.lt _ (.tail _ (.tail _ (.head _))) g Y⟩) rfl⟩⟩
end Go.Proofs.YtpjihhgjbbihkaaGreatDoor
namespace Go.Dk
def gh (ls:List Ln)(p out mark:Nat):Bool:=ls.any fun l=>decide (l.2.2[out]?=some mark)&&uJ l.1 l.2.1 p
section
variable {P:Program} {w0 w:World} {L M:List cH} {k:Value→World→Prop}
theorem Sl.oN {α:Type}(H:Hp w0 ab w L M){enc:α→List Value}{ty:TypeId}{sz g o o' l c:Nat}{xs:List α}(e:Sl w0 (.slice (some ⟨g,o,none⟩) l c) sz l (flat enc xs))(he:∀ a,(enc a).length=sz)(b:cP P ty=some false)(i j:Nat){a:α}{u:Value}(n:o'=o+(i*sz+j))(f:xs[i]?=some a)(m:(enc a)[j]?=some u)(h:k u w):fb P ty (.pointer (some ⟨g,o',none⟩)) w k:=by
 subst n;have hlen:(flat enc xs).length=l*sz:=e.1;rw[dd he] at hlen;have hi:=(List.getElem?_eq_some_iff.1 f).1;have d:j<sz:=by have:=(List.getElem?_eq_some_iff.1 m).1;rwa [he] at this
 have p:(i+1)*sz≤xs.length*sz:=Nat.mul_le_mul_right _ (by omega);rw[Nat.succ_mul] at p;exact aB b (((e.same H.keeps).cell (i*sz+j) (by omega)).trans ((jr he f j d).trans m)) h
theorem Sl.xv {α:Type}(H:Hp w0 ab w L M){enc:α→List Value}{ty:TypeId}{sz g o o' l c:Nat}{xs:List α}(m:Sl w0 (.slice (some ⟨g,o,none⟩) l c) sz l (flat enc xs))(he:∀ a,(enc a).length=sz)(cs:List Value)(b:cP P ty=some true)(hs:bE P ty=some cs.length)(i:Nat){a:α}(p:o'=o+i*sz)(n:xs[i]?=some a)(q:∀ (j:Nat) v,cs[j]?=some v→(enc a)[j]?=some v)(h:k (.agg cs.toArray) w):fb P ty (.pointer (some ⟨g,o',none⟩)) w k:=by
 subst p;have hlen:(flat enc xs).length=l*sz:=m.1;rw[dd he] at hlen;have hi:=(List.getElem?_eq_some_iff.1 n).1;refine iq cs b hs (fun j v r=>?_) h;have d:=q j v r;have f:j<sz:=by have:=(List.getElem?_eq_some_iff.1 d).1;rwa [he] at this
 have e:(⟨g,o+i*sz,none⟩:Addr).add j=⟨g,o+(i*sz+j),none⟩:=by unfold Addr.add;split <;> simp_all[Nat.add_assoc]
 have s:(i+1)*sz≤xs.length*sz:=Nat.mul_le_mul_right _ (by omega);rw[Nat.succ_mul] at s;rw[e,(m.same H.keeps).cell (i*sz+j) (by omega),jr he n j f,d]
end
end Go.Dk
namespace Go.Proofs.YtpjihhgjbbihkaaGreatDoor
open Go.Proofs.Tryz
open Go.Dk
set_option maxRecDepth 100000
attribute [local irreducible] IntKind.wrap
theorem Ci (g o:Nat)(w:World):(Instr.fieldAt 77 (.pointer (some ⟨g,o,none⟩)) 0).run prog w=.ok (.pointer (some ⟨g,o,none⟩)) w:=by kernel_rfl
theorem xw (g o:Nat)(w:World):(Instr.fieldAt 77 (.pointer (some ⟨g,o,none⟩)) 1).run prog w=.ok (.pointer (some ⟨g,o+2,none⟩)) w:=by kernel_rfl
theorem Na:enters prog 10=true:=by kernel_rfl
set_option maxHeartbeats 1000000 in
theorem OC {t:Tb}(x:kh t)(p out mark:Nat)(G:p<9223372036854775808)(V:out<t.no)(v:Value)(w:World)(I:jg w v t.ls):bw prog 10 [sF t.kd t.ni t.no v,.int .i64 (p:Int),.int .i64 (out:Int),.int .i64 (mark:Int)] w fun r w'=>r=.bool (gh t.ls p out mark)∧aT w w':=by
 refine ar (N:=38) func10 Na rfl rfl rfl (by simp) ?_;have H:=Hp.aC w;obtain ⟨B,c,hs,rfl,f,J,y⟩:=I.ub;have D:=x.few;refine ak (γ:=Nat) (fun g4=>[(4,(ah g4)),(8,.bool false)]) (fun g4 w'=>Hp w ab w' [an g4 33 (di t.kd t.ni t.no (.slice B t.ls.length c))] []) ?_ ?_
 ·refine H.box 33 _ (cs:=di t.kd t.ni t.no (.slice B t.ls.length c)) rfl ?_;clear H;intro g4 K H;exact ⟨g4,⟨rfl,rfl,trivial⟩,H⟩
 clear H;rintro g4 u K H;refine aw (fun w'=>gh t.ls p out mark=false∧Hp w ab w' [an g4 33 (di t.kd t.ni t.no (.slice B t.ls.length c))] []) ?_ ?_
 ·refine ax (γ:=Nat) (fun i=>[(9,.int .i64 (i:Int))]) (fun i w'=>(i≤t.ls.length∧gh (t.ls.take i) p out mark=false)∧Hp w ab w' [an g4 33 (di t.kd t.ni t.no (.slice B t.ls.length c))] []) (fun i=>t.ls.length - i) 0 ⟨rfl,trivial⟩ ⟨⟨Nat.zero_le _,rfl⟩,H⟩ ?_;clear H;rintro i u X ⟨⟨hi,a⟩,H⟩;refine aa (dy _ _) ?_;refine H.load 0 rfl f_ rfl ?_;refine ay underlying31 ?_;refine au (fun M=>?_) (fun M=>?_)
  ·have b:i<t.ls.length:=by omega
   obtain ⟨l,E,h⟩:∃ l,t.ls[i]?=some l∧l ∈ t.ls:=⟨_,List.getElem?_eq_getElem b,List.getElem_mem b⟩;obtain ⟨Y,Z,k,m⟩:=y i l E;have n:=x.ls l h;have O:=n.len;obtain ⟨s1,s2,s3⟩:=kY x.ni n;obtain ⟨Q,z,rfl⟩:=f.A (by omega);obtain ⟨gO,S,rfl⟩:=m.A (by omega);have F:l.2.2[out]?=some (l.2.2[out]'(by omega)):=List.getElem?_eq_getElem (by omega);have d:gh (t.ls.take (i+1)) p out mark=(gh (t.ls.take i) p out mark||(decide (l.2.2[out]?=some mark)&&uJ l.1 l.2.1 p)):=by
    unfold gh;rw[List.take_add_one,E,List.any_append];simp
   refine aw (fun w'=>gh (t.ls.take (i+1)) p out mark=false∧Hp w ab w' [an g4 33 (di t.kd t.ni t.no (.slice (some ⟨Q,z,none⟩) t.ls.length c))] []) ?_ ?_
   ·refine aa (dy _ _) ?_;refine H.load 0 rfl f_ rfl ?_;refine ao underlying31 cF i rfl b (o':=z+i*3) (by omega) ?_;refine aa (xw _ _) ?_;refine Sl.oN H f eR e8 i 2 (by omega) k rfl ?_;refine ao underlying75 bc out rfl (by omega) (o':=S+out) (by omega) ?_;refine aB aF (((m.same H.keeps).cell out (by omega)).trans (eP (by omega))) ?_;by_cases he:((l.2.2[out]'(by omega):Nat):Int)=(mark:Int)
    ·have s:decide (l.2.2[out]?=some mark)=true:=decide_eq_true (by rw[F];congr 1;omega);rw[s,a,Bool.false_or,Bool.true_and] at d
     repeat refine ag (beq_iff_eq.2 he) ?_
     refine aa (dy _ _) ?_
     repeat refine ag (beq_iff_eq.2 he) ?_
     refine H.load 0 rfl f_ rfl ?_
     repeat refine ag (beq_iff_eq.2 he) ?_
     refine ao underlying31 cF i rfl b (o':=z+i*3) (by omega) ?_
     repeat refine ag (beq_iff_eq.2 he) ?_
     refine aa (Ci _ _) ?_
     repeat refine ag (beq_iff_eq.2 he) ?_
     refine Sl.xv H f eR (cc l.1 l.2.1).toList bz aO i (by omega) k (fun j u g=>by match j,g with | 0,g=>exact g | 1,g=>exact g | j+2,g=>simp[cc] at g) ?_
     repeat refine ag (beq_iff_eq.2 he) ?_
     refine aj (ON l.1 l.2.1 s1 s2 p G _) ?_;rintro _ T ⟨rfl,U⟩;replace H:=H.same U
     repeat refine ag (beq_iff_eq.2 he) ?_
     refine aE (fun C=>?_) (fun C=>?_)
     ·have o:gh t.ls p out mark=true:=by
       unfold gh;rw[List.any_eq_true];exact ⟨l,h,by rw[s,C];rfl⟩
      exact ⟨by rw[o];rfl,H.keeps⟩
     ·exact ⟨(),trivial,d.trans C,H⟩
    ·have s:decide (l.2.2[out]?=some mark)=false:=decide_eq_false (by rw[F];intro e;injection e with e;exact he (by rw[e]));rw[s,a] at d
     repeat refine af (beq_eq_false_iff_ne.2 he) ?_
     refine af rfl ?_;exact ⟨(),trivial,d,H⟩
   ·clear H;rintro ⟨⟩ u T ⟨q,H⟩;exact ⟨i+1,by show t.ls.length - (i+1)<t.ls.length - i;omega,⟨up (by omega),trivial⟩,⟨by show i+1≤t.ls.length;omega,q⟩,H⟩
  ·obtain rfl:i=t.ls.length:=by omega
   rw[List.take_length] at a;exact ⟨(),trivial,a,H⟩
 clear H;rintro ⟨⟩ u w2 ⟨a,H⟩;exact ⟨by rw[a];rfl,H.keeps⟩
theorem Nb:enters prog 36=true:=by kernel_rfl
theorem OV (n:Nat)(b:n≤8)(w:World):bw prog 36 [.int .i64 (n:Int)] w fun r w'=>r=.int .i64 ((cI (bp n)).length:Int)∧aT w w':=by
 refine ar (N:=8) func36 Nb rfl rfl rfl (by simp) ?_;have H:=Hp.aC w;refine aj (OY n b _) ?_;rintro _ e ⟨A,c,rfl,a⟩;replace H:=H.bq a;clear a;refine aj (c37 (nE n) (by simp[nE]) A c _ (bB (H.get 0 rfl))) ?_;rintro _ f ⟨rfl,a⟩;replace H:=H.same a;clear a;rw[CC];refine aj (OZ _ _) ?_;rintro _ g ⟨B,d,rfl,a⟩;replace H:=H.bq a;refine ay underlying75 ?_;exact ⟨rfl,H.keeps⟩
theorem zi:∀ n,n≤8→(cI (bp n)).length=2^n:=by
 have key:((List.range 9).all fun n=>(cI (bp n)).length==2^n)=true:=by decide +kernel
 intro n a;rw[List.all_eq_true] at key;exact beq_iff_eq.1 (key n (List.mem_range.2 (by omega)))
def oY (text:List UInt8)(a b:Nat):Bool:=match cu text with
 | .ok s=>decide (s.ni≤a)&&decide (s.no≤b)
 | .error _=>true
theorem Nc:enters prog 17=true:=by kernel_rfl
set_option maxHeartbeats 1000000 in
theorem Pm (text:List UInt8)(m:text.length≤100000)(a b:Nat)(w:World):bw prog 17 [aU text,.int .i64 (a:Int),.int .i64 (b:Int)] w fun r w'=>r=.bool (oY text a b)∧aT w w':=by
 refine ar (N:=30) func17 Nc rfl rfl rfl (by simp) ?_;have H:=Hp.aC w;refine ak (γ:=Unit) (fun _=>[(6,.bool false)]) (fun _ w'=>Hp w ab w' [] []) ⟨(),⟨rfl,trivial⟩,H⟩ ?_;clear H;rintro ⟨⟩ u q H;refine aj (c9 text m _) ?_;rintro _ t (⟨f,i,n,rfl,h,k⟩ | ⟨s,v,S,f,rfl,h⟩)
 ·replace H:=H.same k;clear k;have j:oY text a b=true:=by
   unfold oY
   cases hp:cu text with
   | error e=>rfl
   | ok s=>exact absurd hp (f s)
  rw[j];refine H.alloc 33 (cs:=di 0 0 0 (.slice none 0 0)) mX rfl ?_;clear H;intro g o H;refine H.storeAll 0 rfl bG rfl dz ?_;clear H;intro p H
  repeat refine ag (bne_iff_ne.2 h) ?_
  exact ⟨rfl,H.keeps⟩
 ·replace H:=H.bq h;obtain ⟨B,c,hs,rfl,_⟩:=H.get 0 rfl;replace H:=H.forget;have j:oY text a b=(decide (s.ni≤a)&&decide (s.no≤b)):=by unfold oY;rw[f]
  rw[j];refine H.alloc 33 (cs:=di 0 0 0 (.slice none 0 0)) mX rfl ?_;clear H;intro g o H;refine H.storeAll 0 rfl bG rfl dz ?_;clear H;intro p H
  repeat refine af rfl ?_
  refine aa (eC _ _) ?_
  repeat refine af rfl ?_
  refine H.load 0 rfl aF rfl ?_
  repeat refine af rfl ?_
  by_cases l:s.ni≤a
  ·have d:(s.ni:Int)≤(a:Int):=by omega
   rw[decide_eq_true l,Bool.true_and]
   repeat refine ag (decide_eq_true d) ?_
   refine aa (fB _ _) ?_
   repeat refine ag (decide_eq_true d) ?_
   refine H.load 0 rfl aF rfl ?_
   repeat refine ag (decide_eq_true d) ?_
   refine af rfl ?_;refine ag (decide_eq_true (by assumption)) ?_;refine af rfl ?_;refine ⟨congrArg Value.bool ?_,H.keeps⟩;exact decide_eq_decide.2 (by omega)
  ·have d:¬ (s.ni:Int)≤(a:Int):=by omega
   rw[decide_eq_false l,Bool.false_and]
   repeat refine af (decide_eq_false d) ?_
   refine af rfl ?_;refine af (decide_eq_false (by assumption)) ?_;refine af rfl ?_;exact ⟨rfl,H.keeps⟩
def n5 (l:List Rw)(p out:Nat):Bool:=l.any fun x=>x.2.2.testBit out&&uJ x.1 x.2.1 p
theorem Nf:enters prog 39=true:=by kernel_rfl
theorem OD (o i:Nat)(b:o<256)(hi:i≤62)(w:World):bw prog 39 [.int .u8 (o:Int),.int .i64 (i:Int)] w fun r w'=>r=.bool (o.testBit i)∧aT w w':=by
 refine ar (N:=10) func39 Nf rfl rfl rfl (by simp) ?_;have H:=Hp.aC w;have e:(((o / 2^i % 2:Nat):Int)==1)=o.testBit i:=by
  rw[Nat.testBit_eq_decide_div_mod_eq,Bool.eq_iff_iff,beq_iff_eq,decide_eq_true_eq];omega
 refine iK (by kernel_rfl) underlying3 (by omega) (by omega) ?_;refine aj (OK o i (by omega) hi _) ?_;rintro _ c ⟨rfl,a⟩;exact ⟨congrArg Value.bool e,H.keeps.trans a (by simp)⟩
theorem xx (g o:Nat)(w:World):(Instr.fieldAt 50 (.pointer (some ⟨g,o,none⟩)) 1).run prog w=.ok (.pointer (some ⟨g,o+2,none⟩)) w:=by kernel_rfl
theorem Ng:enters prog 44=true:=by kernel_rfl
set_option maxHeartbeats 1000000 in
theorem Pn (l:List Rw)(s:∀ x ∈ l,x.1<256∧x.2.1<256∧x.2.2<256)(t:l.length≤1000000)(p out:Nat)(v:p<9223372036854775808)(y:out≤62)(A:Option Addr)(c:Nat)(w:World)(n:Sl w (.slice A l.length c) 3 l.length (flat a6 l)) :
  bw prog 44 [.slice A l.length c,.int .i64 (p:Int),.int .i64 (out:Int)] w fun r w'=>r=.bool (n5 l p out)∧aT w w':=by
 refine ar (N:=30) func44 Ng rfl rfl rfl (by simp) ?_;have H:=Hp.aC w;refine ak (γ:=Unit) (fun _=>[(6,.bool false)]) (fun _ w'=>Hp w ab w' [] []) ⟨(),⟨rfl,trivial⟩,H⟩ ?_;clear H;rintro ⟨⟩ u D H;refine aw (fun w'=>n5 l p out=false∧Hp w ab w' [] []) ?_ ?_
 ·refine ax (γ:=Nat) (fun i=>[(7,.int .i64 (i:Int))]) (fun i w'=>(i≤l.length∧n5 (l.take i) p out=false)∧Hp w ab w' [] []) (fun i=>l.length - i) 0 ⟨rfl,trivial⟩ ⟨⟨Nat.zero_le _,rfl⟩,H⟩ ?_;clear H;rintro i u E ⟨⟨hi,a⟩,H⟩;refine ay underlying44 ?_;refine au (fun z=>?_) (fun z=>?_)
  ·have f:i<l.length:=by omega
   obtain ⟨x,o,g⟩:=iT (l:=l) (j:=i) (by omega);obtain ⟨s1,s2,B⟩:=s x g;obtain ⟨F,q,rfl⟩:=n.A (by omega);have b:n5 (l.take (i+1)) p out=(n5 (l.take i) p out||(x.2.2.testBit out&&uJ x.1 x.2.1 p)):=by
    unfold n5;rw[List.take_add_one,o,List.any_append];simp
   rw[a,Bool.false_or] at b;refine aw (fun w'=>n5 (l.take (i+1)) p out=false∧Hp w ab w' [] []) ?_ ?_
   ·refine ao underlying44 aZ i rfl f (o':=q+i*3) (by omega) ?_;refine aa (xx _ _) ?_;refine Sl.oN H n bl b5 i 2 (by omega) o (u:=.int .u8 (x.2.2:Int)) rfl ?_;refine aj (OD x.2.2 out B y _) ?_;rintro _ C ⟨rfl,m⟩;replace H:=H.same m;clear m
    cases hb:x.2.2.testBit out with
    | false=>
     rw[hb,Bool.false_and] at b
     repeat refine af rfl ?_
     exact ⟨(),trivial,b,H⟩
    | true=>
     rw[hb,Bool.true_and] at b
     repeat refine ag rfl ?_
     refine ao underlying44 aZ i rfl f (o':=q+i*3) (by omega) ?_
     repeat refine ag rfl ?_
     refine aa (fT _ _) ?_
     repeat refine ag rfl ?_
     refine Sl.xv H n bl (cc x.1 x.2.1).toList bz aO i (by omega) o (fun j u d=>by match j,d with | 0,d=>exact d | 1,d=>exact d | j+2,d=>simp[cc] at d) ?_
     repeat refine ag rfl ?_
     refine aj (ON x.1 x.2.1 s1 s2 p v _) ?_;rintro _ G ⟨rfl,m⟩;replace H:=H.same m
     repeat refine ag rfl ?_
     refine aE (fun e=>?_) (fun e=>?_)
     ·have h:n5 l p out=true:=by
       unfold n5;rw[List.any_eq_true];exact ⟨x,g,by rw[hb,e];rfl⟩
      exact ⟨by rw[h];rfl,H.keeps⟩
     ·exact ⟨(),trivial,b.trans e,H⟩
   ·clear H;rintro ⟨⟩ u C ⟨k,H⟩;exact ⟨i+1,by show l.length - (i+1)<l.length - i;omega,⟨up (by omega),trivial⟩,⟨by show i+1≤l.length;omega,k⟩,H⟩
  ·obtain rfl:i=l.length:=by omega
   rw[List.take_length] at a;exact ⟨(),trivial,a,H⟩
 clear H;rintro ⟨⟩ u I ⟨a,H⟩;exact ⟨by rw[a];rfl,H.keeps⟩
def n6 (o i:Nat):Bool:=(List.range i).any fun j=>o.testBit j
def ur (o k i:Nat):Bool:=(List.range i).all fun j=> !o.testBit j||decide (j<k)
theorem Bf (o i:Nat):n6 o (i+1)=(n6 o i||o.testBit i):=by unfold n6;rw[List.range_succ,List.any_append];simp
theorem DB (o k i:Nat):ur o k (i+1)=(ur o k i&&(!o.testBit i||decide (i<k))):=by unfold ur;rw[List.range_succ,List.all_append];simp
def Bg (m v o n k:Nat):Bool:=ur o k 8&&(n6 o 8&&dJ m v n)
theorem Nh:enters prog 38=true:=by kernel_rfl
theorem Po (m v o n k:Nat)(hm:m<256)(q:v<256)(s:o<256)(y:k≤100)(w:World):bw prog 38 [oU m v o,.int .i64 (n:Int),.int .i64 (k:Int)] w fun r w'=>r=.bool (Bg m v o n k)∧aT w w':=by
 refine ar (N:=27) func38 Nh rfl rfl rfl (by simp) ?_;have H:=Hp.aC w;refine ak (γ:=Nat) (fun g3=>[(3,(ah g3)),(6,.bool false)]) (fun g3 w'=>Hp w ab w' [an g3 50 (eo m v o)] []) ?_ ?_
 ·refine H.box 50 _ (cs:=eo m v o) rfl ?_;clear H;intro g3 t H;exact ⟨g3,⟨rfl,rfl,trivial⟩,H⟩
 clear H;rintro g3 u t H;refine ak (γ:=Unit) (fun _=>[(7,.bool (n6 o 0))]) (fun _ w'=>Hp w ab w' [an g3 50 (eo m v o)] []) ⟨(),⟨rfl,trivial⟩,H⟩ ?_;clear H;rintro ⟨⟩ u z H;refine ak (γ:=Unit) (fun _=>[(7,.bool (n6 o 8))]) (fun _ w'=>ur o k 8=true∧Hp w ab w' [an g3 50 (eo m v o)] []) ?_ ?_
 ·refine ax (γ:=Nat) (fun i=>[(8,.int .i64 (i:Int)),(7,.bool (n6 o i))]) (fun i w'=>(i≤8∧ur o k i=true)∧Hp w ab w' [an g3 50 (eo m v o)] []) (fun i=>8 - i) 0 ⟨rfl,rfl,trivial⟩ ⟨⟨Nat.zero_le _,rfl⟩,H⟩ ?_;clear H;rintro i u x ⟨⟨hi,a⟩,H⟩;refine au (fun f=>?_) (fun f=>?_)
  ·have b:i<8:=by have f:(i:Int)<8:=f;omega
   have hs:=Bf o i;have e:=DB o k i;rw[a,Bool.true_and] at e;refine ak (γ:=Unit) (fun _=>[(7,.bool (n6 o (i+1)))]) (fun _ w'=>ur o k (i+1)=true∧Hp w ab w' [an g3 50 (eo m v o)] []) ?_ ?_
   ·refine aa (dt _ _) ?_;refine H.load 0 rfl b5 rfl ?_;refine aj (OD o i s (by omega) _) ?_;rintro _ p ⟨rfl,c⟩;replace H:=H.same c
    cases hb:o.testBit i with
    | false=>
     rw[hb] at hs e;rw[Bool.or_false] at hs;refine af rfl ?_;exact ⟨(),⟨congrArg Value.bool hs.symm,trivial⟩,e,H⟩
    | true=>
     rw[hb] at hs e;rw[Bool.or_true] at hs;refine ag rfl ?_;refine au (fun h=>?_) (fun h=>?_)
     ·have g:ur o k 8=false:=by
       unfold ur;rw[List.all_eq_false];exact ⟨i,List.mem_range.2 b,by rw[hb];have h:(i:Int)≥k:=h;simp;omega⟩
      exact ⟨by unfold Bg;rw[g];rfl,H.keeps⟩
     ·have h:¬ (i:Int)≥k:=h;rw[decide_eq_true (show i<k by omega)] at e;exact ⟨(),⟨congrArg Value.bool hs.symm,trivial⟩,e,H⟩
   ·clear H;rintro ⟨⟩ u p ⟨d,H⟩;exact ⟨i+1,by show 8 - (i+1)<8 - i;omega,⟨up (by omega),rfl,trivial⟩,⟨by show i+1≤8;omega,d⟩,H⟩
  ·have b:i=8:=by have f:¬ (i:Int)<8:=f;omega
   subst b;exact ⟨(),⟨rfl,trivial⟩,a,H⟩
 clear H;rintro ⟨⟩ u x ⟨a,H⟩;unfold Bg;rw[a,Bool.true_and]
 cases hsb:n6 o 8 with
 | false=>
  repeat refine af rfl ?_
  exact ⟨rfl,H.keeps⟩
 | true=>
  repeat refine ag rfl ?_
  refine aa (fT _ _) ?_
  repeat refine ag rfl ?_
  refine H.cY 0 rfl [.int .u8 (m:Int),.int .u8 (v:Int)] bz aO (fun j u l=>by match j,l with | 0,l=>exact l | 1,l=>exact l) ?_
  repeat refine ag rfl ?_
  refine aj (OO m v hm q (n:Int) _) ?_;rintro _ p ⟨rfl,c⟩;replace H:=H.same c
  repeat refine ag rfl ?_
  exact ⟨rfl,H.keeps⟩
end Go.Proofs.YtpjihhgjbbihkaaGreatDoor
namespace Go.Proofs.YtpjihhgjbbihkaaGreatDoor
open Go.Dk
set_option maxRecDepth 100000
theorem jB:∀ {x:List UInt8},(∀ c ∈ x,c≠10)→∀ s,bM (x++10::s)=x::bM s
 | [],_,s=>lI s
 | c::x,h,s=>iB (h c (.head _)) (jB (fun d a=>h d (.tail _ a)) s)
theorem xy {n:Nat}(h:n<65):∀ c ∈ cQ n,c≠10:=by
 have key:((List.range 65).all fun n=>(cQ n).all fun c=>c !=10)=true:=by decide +kernel
 rw[List.all_eq_true] at key;have:=key n (List.mem_range.2 h);rw[List.all_eq_true] at this;exact fun c a=>bne_iff_ne.1 (this c a)
theorem F7 (k:Nat):∀ c ∈ dF k,c≠10:=by
 unfold dF;split
 ·decide
 ·split
  ·decide
  ·split <;> decide
theorem La (m v i:Nat):fw (zz m v i)=true:=by
 unfold fw zz
 cases m.testBit i <;> cases v.testBit i <;> rfl
theorem uu (m v n:Nat):∀ c ∈ dK m v n,fw c=true:=fun c a=>by
 obtain ⟨i,_,rfl⟩:=List.mem_map.1 a;exact La m v i
theorem uv (x:Nat):fw (eV x)=true:=by
 unfold eV;split
 ·rfl
 ·split <;> rfl
theorem Cj {c:UInt8}(h:fw c=true):c≠10:=by
 rintro rfl;exact absurd h (by decide)
theorem DC {x:Nat}(h:x<3):bH (eV x)=x:=by
 rcases (by omega:x=0∨x=1∨x=2) with rfl | rfl | rfl <;> rfl
theorem F8 (ni:Nat)(l:Ln):∀ c ∈ gI ni l,c≠10:=fun c a=>by
 unfold gI at a;rcases List.mem_append.1 a with h | h
 ·exact Cj (uu _ _ _ c h)
 ·rcases List.mem_cons.1 h with rfl | h
  ·decide
  ·obtain ⟨x,_,rfl⟩:=List.mem_map.1 h;exact Cj (uv x)
theorem F9 {ni no:Nat}(b:ni≤8){l:Ln}(h:uQ ni no l):km ni no (gI ni l)=some l:=by
 obtain ⟨m,v,o⟩:=l;obtain ⟨e,f,g,i⟩:=h;simp only at e f g i;have d:=zB e f b;have a:Lib.cut (gI ni (m,v,o)) [32]=(dK m v ni,o.map eV,true):=F6 fun c a=>Ch (uu _ _ _ c a);unfold km;rw[a];simp only;have j:(o.map eV).all fw=true:=by
  rw[List.all_eq_true];intro c a;obtain ⟨x,_,rfl⟩:=List.mem_map.1 a;exact uv x
 have hm:(o.map eV).map bH=o:=by
  rw[List.map_map];have:o.map (bH ∘ eV)=o.map id:=List.map_congr_left fun x k=>DC (i x k);rw[this,List.map_id]
 rw[if_pos ⟨by unfold lK;rw[d.1,iF,List.length_map,g];simp,j⟩,iF,d.2.1,d.2.2,hm]
def IW (t:Tb):List UInt8:=[46,105]++32::cQ t.ni
def IX (t:Tb):List UInt8:=[46,111]++32::cQ t.no
def Ia (t:Tb):List UInt8:=[46,116,121,112,101,32]++dF t.kd
def IY (t:Tb):List UInt8:=[46,112]++32::cQ t.ls.length
theorem F_ (t:Tb):dW t=IW t++10::(IX t++10::(Ia t++10::(IY t++10::(dx t.ni t.ls++[46,101,10])))):=by
 unfold dW e_ IW IX Ia IY;simp[List.append_assoc]
theorem uw (ni:Nat):∀ ls:List Ln,bM (dx ni ls++[46,101,10])=ls.map (gI ni)++[[46,101],[]]
 | []=>rfl
 | l::ls=>by
  have e:dx ni (l::ls)++[46,101,10]=gI ni l++10::(dx ni ls++[46,101,10]):=by simp[dx]
  rw[e,jB (F8 ni l),uw ni ls];rfl
theorem xz {a b:List UInt8}(d:∀ c ∈ a,c≠10)(e:∀ c ∈ b,c≠10):∀ c ∈ a++b,c≠10:=fun c f=>(List.mem_append.1 f).elim (d c) (e c)
theorem zj {t:Tb}(b:kh t):bM (dW t)=[IW t,IX t,Ia t,IY t]++(t.ls.map (gI t.ni)++[[46,101],[]]):=by
 have k:=b.ni;have m:=b.no4;have n:=b.few;have a:∀ {l:List UInt8},(∀ c ∈ l,c≠10)→∀ c ∈ 32::l,c≠10:=fun h c d=>(List.mem_cons.1 d).elim (fun e=>by rw[e];decide) (h c);have f:∀ c ∈ IW t,c≠10:=xz (by decide) (a (xy (by omega)));have g:∀ c ∈ IX t,c≠10:=xz (by decide) (a (xy (by omega)));have i:∀ c ∈ Ia t,c≠10:=xz (by decide) (F7 _);have j:∀ c ∈ IY t,c≠10:=xz (by decide) (a (xy (by omega)));rw[F_,jB f,jB g,jB i,jB j,uw];rfl
theorem DD {s:Rd}(c:s.st=4)(a:s.ni≤8){l:Ln}(d:uQ s.ni s.no l)(f:s.ls.length<64):gg s (gI s.ni l)=.ok { s with ls:=s.ls++[l] }:=by
 have b:gI s.ni l≠[46,101]:=fun e=>by
  have:(32:UInt8) ∈ gI s.ni l:=List.mem_append_right _ (.head _);rw[e] at this;exact absurd this (by decide)
 unfold gg;rw[if_neg (by omega),if_neg (by omega),if_neg (by omega)];unfold ic;rw[if_neg (by omega),if_neg (by omega)];unfold jb;rw[if_neg b,F9 a d];simp only;rw[if_neg (by omega)];obtain ⟨kd,ni,no,st,told,ls⟩:=s;simp only at c;subst c;rfl
theorem DE (ni:Nat)(l:Ln):¬ (gI ni l=[]∨(gI ni l).head?=some 35):=by
 rintro (h | h)
 ·have:(32:UInt8) ∈ gI ni l:=List.mem_append_right _ (.head _);rw[h] at this
  cases this
 ·have hm:(35:UInt8) ∈ gI ni l:=List.mem_of_mem_head? (by rw[h];rfl);unfold gI at hm;rcases List.mem_append.1 hm with h | h
  ·exact absurd (uu _ _ _ _ h) (by decide)
  ·rcases List.mem_cons.1 h with h | h
   ·exact absurd h (by decide)
   ·obtain ⟨x,_,a⟩:=List.mem_map.1 h;have:=uv x;rw[a] at this;exact absurd this (by decide)
theorem ux {kd ni no:Nat}{told:Int}(c:ni≤8)(rest:List (List UInt8)):∀ (b:List Ln) (i:Nat) (a:List Ln),(∀ l ∈ b,uQ ni no l)→(a++b).length≤64→
  ie i ⟨kd,ni,no,4,told,a⟩ (b.map (gI ni)++rest)=ie (i+b.length) ⟨kd,ni,no,4,told,a++b⟩ rest
 | [],i,a,_,_=>by simp
 | l::b,i,a,h,hl=>by
  rw[List.map_cons,List.cons_append];rw[List.length_append,List.length_cons] at hl;have d:=DD (s:=⟨kd,ni,no,4,told,a⟩) rfl c (h l (.head _)) (by show a.length<64;omega);simp only at d;rw[gJ,if_neg (DE ni l),d];simp only;rw[ux c rest b (i+1) (a++[l]) (fun x e=>h x (.tail _ e)) (by simp;omega)];rw[List.length_cons,List.append_assoc,show i+1+b.length=i+(b.length+1) by omega,List.singleton_append]
theorem Ga {α:Type}(l:List α)(a b:α):(l++[a,b]).dropLast=l++[a]:=by
 rw[show l++[a,b]=(l++[a])++[b] by simp,List.dropLast_concat]
theorem zk {t:Tb}(c:kh t):∃ s,cu (dW t)=.ok s∧s.tb=t:=by
 obtain ⟨kd,ni,no,ls⟩:=t;have i:=c.ni;have m:=c.no4;have g:=c.no1;have k:=c.few;have q:=c.kd;have o:=c.ls;have hlen:(dW ⟨kd,ni,no,ls⟩).length≤8000:=by
  have a:=ry c;have b:=mz i m _ o;unfold dW;simp only[List.length_append,List.length_cons,List.length_nil];simp only at b k;omega
 simp only at i m g k q o;have p:=zj c;have r:=qz (wd:=[46,105]) (lo:=0) (hi:=8) (n:=ni) (line:=IW ⟨kd,ni,no,ls⟩) (by decide) (Nat.zero_le _) i rfl;have u:=qz (wd:=[46,111]) (lo:=1) (hi:=4) (n:=no) (line:=IX ⟨kd,ni,no,ls⟩) (by decide) g m rfl;have v:=qz (wd:=[46,112]) (lo:=0) (hi:=64) (n:=ls.length) (line:=IY ⟨kd,ni,no,ls⟩) (by decide) (Nat.zero_le _) k rfl;have w:qB ((Ia ⟨kd,ni,no,ls⟩).drop 6)=some kd:=pK (by omega) rfl fun j y e=>by
  have e:dF j=dF kd:=e;have:=vO (by omega) (by omega) e;omega
 have x:Lib.hasPrefix (Ia ⟨kd,ni,no,ls⟩) [46,116,121,112,101,32]=true:=rfl;refine ⟨⟨kd,ni,no,5,ls.length,ls⟩,?_,rfl⟩;unfold cu;rw[if_neg (by omega)];have d:ie 0 uR (bM (dW ⟨kd,ni,no,ls⟩)).dropLast=.ok ⟨kd,ni,no,5,ls.length,ls⟩:=by
  rw[p,← List.append_assoc,Ga,List.append_assoc];show ie 0 uR (IW _::IX _::Ia _::IY _::(ls.map (gI ni)++[[46,101]]))=_;rw[gJ,if_neg (by unfold IW;simp)];have t1:gg uR (IW ⟨kd,ni,no,ls⟩)=.ok ⟨1,ni,0,1,-1,[]⟩:=by
   unfold gg;rw[if_pos (show uR.st=0 from rfl),r,if_pos (by omega),Int.toNat_natCast];rfl
  rw[t1];simp only;rw[gJ,if_neg (by unfold IX;simp)];have t2:gg ⟨1,ni,0,1,-1,[]⟩ (IX ⟨kd,ni,no,ls⟩)=.ok ⟨1,ni,no,2,-1,[]⟩:=by
   unfold gg;rw[if_neg (by show ¬ 1=0;decide),if_pos rfl,u,if_pos (by omega),Int.toNat_natCast]
  rw[t2];simp only;rw[gJ,if_neg (by unfold Ia;simp)];have t3:gg ⟨1,ni,no,2,-1,[]⟩ (Ia ⟨kd,ni,no,ls⟩)=.ok ⟨kd,ni,no,3,-1,[]⟩:=by
   unfold gg;rw[if_neg (by show ¬ 2=0;decide),if_neg (by show ¬ 2=1;decide),if_neg (by show ¬ 2=5;decide)];unfold ic;rw[if_pos ⟨x,rfl⟩,w]
  rw[t3];simp only;rw[gJ,if_neg (by unfold IY;simp)];have t4:gg ⟨kd,ni,no,3,-1,[]⟩ (IY ⟨kd,ni,no,ls⟩)=.ok ⟨kd,ni,no,4,ls.length,[]⟩:=by
   unfold gg;rw[if_neg (by show ¬ 3=0;decide),if_neg (by show ¬ 3=1;decide),if_neg (by show ¬ 3=5;decide)];unfold ic;rw[if_neg (fun h=>absurd h.2 (by show ¬ 3=2;decide)),v,if_pos ⟨by omega,by show 3≤3;decide⟩]
  rw[t4];simp only;rw[ux i _ ls _ [] o (by simpa using k),List.nil_append];rw[gJ,if_neg (by decide)];have t5:gg ⟨kd,ni,no,4,ls.length,ls⟩ [46,101]=.ok ⟨kd,ni,no,5,ls.length,ls⟩:=by
   unfold gg;rw[if_neg (by show ¬ 4=0;decide),if_neg (by show ¬ 4=1;decide),if_neg (by show ¬ 4=5;decide)];unfold ic;rw[if_neg (fun h=>absurd h.2 (by show ¬ 4=2;decide)),if_neg (fun h=>absurd h.2 (by show ¬ 4≤3;decide))];unfold jb;rw[if_pos rfl,if_pos (.inr rfl)]
  rw[t5];simp only;unfold ie;rfl
 rw[d];simp only;unfold Ba;have f:(bM (dW ⟨kd,ni,no,ls⟩)).getLastD []=[]:=by
  rw[p,← List.append_assoc,show ∀ l:List (List UInt8),l++[[46,101],[]]=(l++[[46,101]])++[[]] from fun l=>by simp,List.getLastD_concat]
 rw[f,if_neg (by simp),if_neg (by show ¬ ¬ 5=5;decide)]
end Go.Proofs.YtpjihhgjbbihkaaGreatDoor
namespace Go.Proofs.YtpjihhgjbbihkaaGreatDoor
open Go.Dk
set_option maxRecDepth 100000
attribute [local irreducible] IntKind.wrap
theorem DF {o i:Nat}:n6 o i=true↔∃ j,j<i∧o.testBit j=true:=by unfold n6;rw[List.any_eq_true];simp
theorem Gb {o k i:Nat}:ur o k i=true↔∀ j,j<i→o.testBit j=true→j<k:=by
 unfold ur;rw[List.all_eq_true];refine forall_congr' fun j=>?_;rw[List.mem_range];refine imp_congr_right fun _=>?_
 cases o.testBit j <;> simp
theorem Gc {m v o n k:Nat}(h:o<256):Bg m v o n k=true↔0<o∧o<2^k∧dJ m v n=true:=by
 unfold Bg;rw[Bool.and_eq_true,Bool.and_eq_true,DF,Gb];constructor
 ·rintro ⟨c,⟨j,_,a⟩,d⟩;refine ⟨Nat.pos_of_ne_zero fun e=>by rw[e] at a;simp at a,Nat.lt_pow_two_of_testBit _ fun i hi=>?_,d⟩;rw[Bool.eq_false_iff];intro b;by_cases f:i<8
  ·have:=c i f b;omega
  ·rw[eg h (by omega)] at b;cases b
 ·rintro ⟨c,l,d⟩;refine ⟨fun j _ a=>?_,?_,d⟩
  ·refine Nat.lt_of_not_le fun p=>?_;rw[cC l p] at a;cases a
  ·refine Classical.byContradiction fun g=>absurd (iw.2 fun i=>?_) (Nat.ne_of_gt c);by_cases f:i<8
   ·rw[Bool.eq_false_iff];exact fun b=>g ⟨i,f,b⟩
   ·exact eg h (by omega)
end Go.Proofs.YtpjihhgjbbihkaaGreatDoor
namespace Go.Dk
def mB (os:List Nat)(k:Nat):Nat:=mkSet (fun j=>os.getD j 0==1) k
def lP (l:Ln):Rw:=(l.1,l.2.1,mB l.2.2 l.2.2.length)
theorem Ib {n k:Nat}{x:Rw}(h:gE n k x):lP (ib k x)=x:=by
 obtain ⟨m,v,o⟩:=x;have b:o<2^k:=h.few;unfold lP ib;refine Prod.ext rfl (Prod.ext rfl ?_);show mB (ia k o) (ia k o).length=o;rw[mY];unfold mB;apply Nat.eq_of_testBit_eq;intro j;rw[bW];by_cases a:j<k
 ·have c:(ia k o).getD j 0=(o / 2^j) &&&1:=by
   unfold ia jH;simp[List.getD_eq_getElem?_getD,a]
  rw[c,decide_eq_true a,Bool.true_and,Nat.testBit_eq_decide_div_mod_eq,Nat.and_one_is_mod];by_cases hm:o / 2^j % 2=1
  ·rw[hm];rfl
  ·rw[decide_eq_false hm,beq_eq_false_iff_ne];exact hm
 ·rw[decide_eq_false a,Bool.false_and,cC b (by omega)]
theorem Ic {n k:Nat}{R:List Rw}(h:∀ x ∈ R,gE n k x):(R.map (ib k)).map lP=R:=by
 rw[List.map_map];have:R.map (lP ∘ ib k)=R.map id:=List.map_congr_left fun x a=>Ib (h x a);rw[this,List.map_id]
end Go.Dk
namespace Go.Proofs.YtpjihhgjbbihkaaGreatDoor
open Go.Proofs.Tryz
open Go.Dk
set_option maxRecDepth 100000
attribute [local irreducible] IntKind.wrap
theorem Ni:enters prog 13=true:=by kernel_rfl
theorem Gd {m v:Nat}{w:World}{kk:Value→World→Prop}(h:kk (oU m v 0) w):b8 prog 50 [(0,cv m v)] w kk:=bt (fun w=>by kernel_rfl) h
set_option maxHeartbeats 2000000 in
theorem Pp {t:Tb}(p:kh t)(v:Value)(w:World)(S:jg w v t.ls):bw prog 13 [sF t.kd t.ni t.no v] w fun r w'=>∃ B d,r=.slice B t.ls.length d∧eE w w' (own 50 3 (.slice B t.ls.length d) t.ls.length (flat a6 (t.ls.map lP))):=by
 refine ar (N:=55) func13 Ni rfl rfl rfl (by simp) ?_;have H:=Hp.aC w;obtain ⟨s,cl,hs,rfl,f,T,D⟩:=S.ub;have K:=p.few;have M:=p.no4;refine ak (γ:=Nat) (fun g1=>[(1,(ah g1)),(2,.slice none 0 0)]) (fun g1 w'=>Hp w ab w' [an g1 33 (di t.kd t.ni t.no (.slice s t.ls.length cl))] []) ?_ ?_
 ·refine H.box 33 _ (cs:=di t.kd t.ni t.no (.slice s t.ls.length cl)) rfl ?_;clear H;intro g1 U H;exact ⟨g1,⟨rfl,rfl,trivial⟩,H⟩
 clear H;rintro g1 u U H;refine ak (γ:=Unit) (fun _=>[(3,.slice none 0 0)]) (fun _ w'=>Hp w ab w' [an g1 33 (di t.kd t.ni t.no (.slice s t.ls.length cl))] []) ⟨(),⟨rfl,trivial⟩,H⟩ ?_;clear H;rintro ⟨⟩ u w2 H;replace H:=H.bx 50 3;refine ak (γ:=Option Addr × Nat) (fun (B,d)=>[(3,.slice B t.ls.length d)]) (fun (B,d) w'=>Hp w ab w' [own 50 3 (.slice B t.ls.length d) t.ls.length (flat a6 ((t.ls.take t.ls.length).map lP)),an g1 33 (di t.kd t.ni t.no (.slice s t.ls.length cl))] []) ?_ ?_
 ·refine ax (γ:=Nat × Option Addr × Nat) (fun (i,B,d)=>[(4,.int .i64 (i:Int)),(3,.slice B i d)]) (fun (i,B,d) w'=>i≤t.ls.length∧Hp w ab w' [own 50 3 (.slice B i d) i (flat a6 ((t.ls.take i).map lP)),an g1 33 (di t.kd t.ni t.no (.slice s t.ls.length cl))] []) (fun (i,_)=>t.ls.length - i) (0,none,0) ⟨rfl,rfl,trivial⟩ ⟨Nat.zero_le _,H⟩ ?_;clear H;rintro ⟨i,B,d⟩ u V ⟨hi,H⟩;refine aa (dy _ _) ?_;refine H.load 1 rfl f_ rfl ?_;refine ay underlying31 ?_;refine au (fun X=>?_) (fun X=>?_)
  ·have b:i<t.ls.length:=by omega
   obtain ⟨l,O,E⟩:∃ l,t.ls[i]?=some l∧l ∈ t.ls:=⟨_,List.getElem?_eq_getElem b,List.getElem_mem b⟩;obtain ⟨B',c',h,x⟩:=D i l O;have y:=p.ls l E;have Y:=y.len;obtain ⟨s1,s2,s3⟩:=kY p.ni y;obtain ⟨m,c,rfl⟩:=f.A (by omega);have F:(t.ls.take (i+1)).map lP=(t.ls.take i).map lP++[lP l]:=by rw[List.take_add_one,O,List.map_append];rfl
   refine ak (γ:=Option Addr × Nat) (fun (B,d)=>[(3,.slice B (i+1) d)]) (fun (B,d) w'=>Hp w ab w' [own 50 3 (.slice B (i+1) d) (i+1) (flat a6 ((t.ls.take (i+1)).map lP)),an g1 33 (di t.kd t.ni t.no (.slice (some ⟨m,c,none⟩) t.ls.length cl))] []) ?_ ?_
   ·refine ak (γ:=Nat) (fun g5=>[(5,(ah g5))]) (fun g5 w'=>Hp w ab w' (an g5 50 (eo l.1 l.2.1 0)::[own 50 3 (.slice B i d) i (flat a6 ((t.ls.take i).map lP)),an g1 33 (di t.kd t.ni t.no (.slice (some ⟨m,c,none⟩) t.ls.length cl))]) []) ?_ ?_
    ·refine aa (dy _ _) ?_;refine H.load 1 rfl f_ rfl ?_;refine ao underlying31 cF i rfl b (o':=c+i*3) (by omega) ?_;refine aa (Ci _ _) ?_;refine Sl.xv H f eR (cc l.1 l.2.1).toList bz aO i (by omega) h (fun j u n=>by match j,n with | 0,n=>exact n | 1,n=>exact n | j+2,n=>simp[cc] at n) ?_;refine Gd ?_;refine H.alloc 50 (cs:=eo 0 0 0) jz rfl ?_;clear H;intro g5 Z H;refine H.storeAll (cs':=eo l.1 l.2.1 0) 0 rfl aZ rfl (dT _ _ _) ?_;clear H;intro w6 H;exact ⟨g5,⟨rfl,trivial⟩,H⟩
    clear H;rintro g5 u Z H;refine ak (γ:=Unit) (fun _=>[(6,.int .u8 1)]) (fun _ w'=>Hp w ab w' (an g5 50 (eo l.1 l.2.1 0)::[own 50 3 (.slice B i d) i (flat a6 ((t.ls.take i).map lP)),an g1 33 (di t.kd t.ni t.no (.slice (some ⟨m,c,none⟩) t.ls.length cl))]) []) ⟨(),⟨rfl,trivial⟩,H⟩ ?_;clear H;rintro ⟨⟩ u w6 H;refine aw (fun w'=>Hp w ab w' (an g5 50 (eo l.1 l.2.1 (mB l.2.2 l.2.2.length))::[own 50 3 (.slice B i d) i (flat a6 ((t.ls.take i).map lP)),an g1 33 (di t.kd t.ni t.no (.slice (some ⟨m,c,none⟩) t.ls.length cl))]) []) ?_ ?_
    ·refine ax (γ:=Nat) (fun k=>[(7,.int .i64 (k:Int)),(6,.int .u8 ((2^k:Nat):Int))]) (fun k w'=>k≤l.2.2.length∧Hp w ab w' (an g5 50 (eo l.1 l.2.1 (mB l.2.2 k))::[own 50 3 (.slice B i d) i (flat a6 ((t.ls.take i).map lP)),an g1 33 (di t.kd t.ni t.no (.slice (some ⟨m,c,none⟩) t.ls.length cl))]) []) (fun k=>l.2.2.length - k) 0 ⟨rfl,rfl,trivial⟩ ⟨Nat.zero_le _,H⟩ ?_;clear H;rintro k u w7 ⟨hk,H⟩;obtain ⟨gO,oO,rfl⟩:=x.A (by have:=p.no1;omega);refine aa (dy _ _) ?_;refine H.load 2 rfl f_ rfl ?_;refine ao underlying31 cF i rfl b (o':=c+i*3) (by omega) ?_;refine aa (xw _ _) ?_;refine Sl.oN H f eR e8 i 2 (by omega) h rfl ?_;refine ay underlying75 ?_;refine au (fun h8=>?_) (fun h8=>?_)
     ·have a:k<l.2.2.length:=by omega
      have z:2^k≤2^3:=Nat.pow_le_pow_right (by decide) (by omega);have C:(2^(k+1):Nat)=2^k*2:=Nat.pow_succ 2 k;have G:mB l.2.2 k<2^k:=fa _ _;have hx:l.2.2[k]?=some (l.2.2[k]'a):=List.getElem?_eq_getElem a;have g:mB l.2.2 (k+1)=mB l.2.2 k+if l.2.2[k]'a==1 then 2^k else 0:=by
       show mkSet _ (k+1)=_;unfold mkSet;rw[List.getD_eq_getElem?_getD,hx];rfl
      refine ak (γ:=Unit) (fun _=>[(6,.int .u8 ((2^(k+1):Nat):Int))]) (fun _ w'=>Hp w ab w' (an g5 50 (eo l.1 l.2.1 (mB l.2.2 (k+1)))::[own 50 3 (.slice B i d) i (flat a6 ((t.ls.take i).map lP)),an g1 33 (di t.kd t.ni t.no (.slice (some ⟨m,c,none⟩) t.ls.length cl))]) []) ?_ ?_
      ·refine aw (fun w'=>Hp w ab w' (an g5 50 (eo l.1 l.2.1 (mB l.2.2 (k+1)))::[own 50 3 (.slice B i d) i (flat a6 ((t.ls.take i).map lP)),an g1 33 (di t.kd t.ni t.no (.slice (some ⟨m,c,none⟩) t.ls.length cl))]) []) ?_ ?_
       ·refine aa (dy _ _) ?_;refine H.load 2 rfl f_ rfl ?_;refine ao underlying31 cF i rfl b (o':=c+i*3) (by omega) ?_;refine aa (xw _ _) ?_;refine Sl.oN H f eR e8 i 2 (by omega) h rfl ?_;refine ao underlying75 bc k rfl (by omega) (o':=oO+k) (by omega) ?_;refine aB aF (((x.same H.keeps).cell k (by omega)).trans (eP (by omega))) ?_;refine cg (fun he=>?_) (fun he=>?_)
        ·have o:(l.2.2[k]'a==1)=true:=by rw[beq_iff_eq];have he:(((l.2.2[k]'a:Nat):Int)=1):=he;omega
         rw[o,if_pos rfl] at g;have I:IntKind.u8.wrap (((mB l.2.2 k:Nat):Int)+((2^k:Nat):Int))=((mB l.2.2 (k+1):Nat):Int):=by
          rw[g];generalize 2^k=q at z G ⊢;simp only[IntKind.wrap_u8];omega
         refine aa (dt _ _) ?_;refine H.load 0 rfl b5 rfl ?_;refine aa (dt _ _) ?_;refine H.store 0 rfl j4 (Nat.le_of_ble_eq_true rfl) rfl ?_;clear H;intro w11 H;rw[I] at H;exact ⟨(),trivial,H⟩
        ·have o:(l.2.2[k]'a==1)=false:=by rw[beq_eq_false_iff_ne];intro e;exact he (by rw[e];rfl)
         rw[o,if_neg (by decide),Nat.add_zero] at g;rw[g];exact ⟨(),trivial,H⟩
       clear H;rintro ⟨⟩ u Q H;exact ⟨(),⟨congrArg (Value.int .u8) (by rw[C];generalize 2^k=q at z;simp only[IntKind.wrap_u8];omega),trivial⟩,H⟩
      ·clear H;rintro ⟨⟩ u Q H;exact ⟨k+1,by show l.2.2.length - (k+1)<l.2.2.length - k;omega,⟨up (by omega),rfl,trivial⟩,by show k+1≤l.2.2.length;omega,H⟩
     ·obtain rfl:k=l.2.2.length:=by omega
      exact ⟨(),trivial,H⟩
    clear H;rintro ⟨⟩ u w7 H;refine H.ai 0 rfl gV aZ ?_;refine H.bf vz (cs:=eo l.1 l.2.1 (mB l.2.2 l.2.2.length)) (by decide) (by decide) (by kernel_rfl) ?_;clear H;intro gx Q H;refine H.aG 2 0 vz rfl rfl rfl (dT _ _ _) (by omega) (by omega) ?_;clear H;intro J d2 w9 H;have e2:flat a6 ((t.ls.take (i+1)).map lP)=flat a6 ((t.ls.take i).map lP)++a6 (lP l):=by rw[F];exact de ..
    refine ⟨(J,d2),⟨rfl,trivial⟩,?_⟩;rw[e2];exact H.b7 [2,3] (by decide) rfl
   ·clear H;rintro ⟨J,d2⟩ u w4 H;exact ⟨(i+1,J,d2),by show t.ls.length - (i+1)<t.ls.length - i;omega,⟨up (by omega),rfl,trivial⟩,by show i+1≤t.ls.length;omega,H⟩
  ·obtain rfl:i=t.ls.length:=by omega
   exact ⟨(B,d),⟨rfl,trivial⟩,H⟩
 clear H;rintro ⟨B,d⟩ u V H;rw[List.take_length] at H;exact ⟨B,d,rfl,H.out⟩
def qF (S:dX)(l:List Rw)(o p:Nat):Bool:= !((S.on.getD o 0).testBit p&& !n5 l p o||n5 l p o&& !(S.may.getD o 0).testBit p)
def uy (S:dX)(l:List Rw)(o k:Nat):Bool:=(List.range k).all (qF S l o)
def uz (S:dX)(l:List Rw)(j:Nat):Bool:=(List.range j).all fun o=>uy S l o (2^S.n)
def uA (S:dX)(l:List Rw):Bool:=l.all fun x=>Bg x.1 x.2.1 x.2.2 S.n S.on.length
def zl (S:dX)(l:List Rw):Bool:=uA S l&&uz S l S.on.length
theorem DG (S:dX)(l:List Rw)(o k:Nat):uy S l o (k+1)=(uy S l o k&&qF S l o k):=by unfold uy;rw[List.range_succ,List.all_append];simp
theorem DH (S:dX)(l:List Rw)(j:Nat):uz S l (j+1)=(uz S l j&&uy S l j (2^S.n)):=by unfold uz;rw[List.range_succ,List.all_append];simp
theorem Ie {S:dX}{l:List Rw}{o k n:Nat}(h:qF S l o k=false)(a:k<n):uy S l o n=false:=by
 unfold uy;rw[List.all_eq_false];exact ⟨k,List.mem_range.2 a,by rw[h];decide⟩
theorem Ig {S:dX}{l:List Rw}{o n:Nat}(h:uy S l o (2^S.n)=false)(a:o<n):uz S l n=false:=by
 unfold uz;rw[List.all_eq_false];exact ⟨o,List.mem_range.2 a,by rw[h];decide⟩
theorem Nj:enters prog 16=true:=by kernel_rfl
set_option maxHeartbeats 2000000 in
theorem OW {S:dX}(I:cL S)(l:List Rw)(hl:∀ x ∈ l,x.1<256∧x.2.1<256∧x.2.2<256)(V:l.length≤1000000)(Bo:Option Addr)(co:Nat)(Bm:Option Addr)(cm:Nat)(A:Option Addr)(c:Nat)(w:World)(T:fY w S Bo co Bm cm)(X:Sl w (.slice A l.length c) 3 l.length (flat a6 l)) :
  bw prog 16 [r4 S.n (.slice Bo S.on.length co) (.slice Bm S.may.length cm),.slice A l.length c] w fun r w'=>r=.bool (zl S l)∧aT w w':=by
 refine ar (N:=76) func16 Nj rfl rfl rfl (by simp) ?_;have H:=Hp.aC w;have h4:=I.few;have Y:=I.n8;have hlen:=I.len;have h2n:2^S.n≤2^8:=Nat.pow_le_pow_right (by decide) Y;obtain ⟨m,g,rfl⟩:=T.on.A (by have:=I.some;omega);obtain ⟨o,k,rfl⟩:=T.may.A (by have:=I.some;omega);refine ak (γ:=Nat) (fun g2=>[(2,(ah g2)),(4,.bool false)]) (fun g2 w'=>Hp w ab w' [an g2 41 (bo S.n (.slice (some ⟨m,g,none⟩) S.on.length co) (.slice (some ⟨o,k,none⟩) S.may.length cm))] []) ?_ ?_
 ·refine H.box 41 _ (cs:=bo S.n (.slice (some ⟨m,g,none⟩) S.on.length co) (.slice (some ⟨o,k,none⟩) S.may.length cm)) rfl ?_;clear H;intro g2 w1 H;exact ⟨g2,⟨rfl,rfl,trivial⟩,H⟩
 clear H;rintro g2 u w1 H;refine aw (fun w'=>uA S l=true∧Hp w ab w' [an g2 41 (bo S.n (.slice (some ⟨m,g,none⟩) S.on.length co) (.slice (some ⟨o,k,none⟩) S.may.length cm))] []) ?_ ?_
 ·refine ax (γ:=Nat) (fun i=>[(5,.int .i64 (i:Int))]) (fun i w'=>(i≤l.length∧uA S (l.take i)=true)∧Hp w ab w' [an g2 41 (bo S.n (.slice (some ⟨m,g,none⟩) S.on.length co) (.slice (some ⟨o,k,none⟩) S.may.length cm))] []) (fun i=>l.length - i) 0 ⟨rfl,trivial⟩ ⟨⟨Nat.zero_le _,rfl⟩,H⟩ ?_;clear H;rintro i u w3 ⟨⟨hi,y⟩,H⟩;refine ay underlying44 ?_;refine au (fun Z=>?_) (fun Z=>?_)
  ·have a0:i<l.length:=by omega
   obtain ⟨x,hx,J⟩:=iT (l:=l) (j:=i) (by omega);obtain ⟨s1,s2,s3⟩:=hl x J;obtain ⟨gA,oA,rfl⟩:=X.A (by omega);have K:uA S (l.take (i+1))=(uA S (l.take i)&&Bg x.1 x.2.1 x.2.2 S.n S.on.length):=by
    unfold uA;rw[List.take_add_one,hx,List.all_append];simp
   rw[y,Bool.true_and] at K;refine aw (fun w'=>uA S (l.take (i+1))=true∧Hp w ab w' [an g2 41 (bo S.n (.slice (some ⟨m,g,none⟩) S.on.length co) (.slice (some ⟨o,k,none⟩) S.may.length cm))] []) ?_ ?_
   ·refine H.draw eO (by kernel_rfl) ?_;clear H;intro U H;refine quiet _ (fun w H=>ao underlying44 aZ i rfl a0 (o':=oA+i*3) (by omega) ae) ?_;refine quiet (oU x.1 x.2.1 x.2.2) (fun w H=>Sl.cA H X bl gV aZ i rfl hx ae) ?_;refine quiet _ (fun w H=>aa (iS _) ae) ?_;refine quiet _ (fun w H=>H.load 0 rfl aF rfl ae) ?_;refine quiet _ (fun w H=>aa (fR _) ae) ?_;refine quiet _ (fun w H=>H.load 0 rfl dS rfl ae) ?_;refine quiet _ (fun w H=>ay underlying39 ae) ?_;refine aj (Po x.1 x.2.1 x.2.2 S.n S.on.length s1 s2 s3 (by omega) _) ?_;rintro _ a1 ⟨rfl,q⟩;replace H:=H.same q;clear q;refine ⟨.inl H,?_⟩;refine aE (fun z=>?_) (fun z=>?_)
    ·refine ⟨congrArg Value.bool ?_,H.keeps⟩;have d:uA S l=false:=by
      unfold uA;rw[List.all_eq_false];exact ⟨x,J,by simpa using z⟩
     unfold zl;rw[d];rfl
    ·exact ⟨(),trivial,by rw[K];simpa using z,H⟩
   ·clear H;rintro ⟨⟩ u U ⟨M,H⟩;exact ⟨i+1,by show l.length - (i+1)<l.length - i;omega,⟨up (by omega),trivial⟩,⟨by show i+1≤l.length;omega,M⟩,H⟩
  ·obtain rfl:i=l.length:=by omega
   rw[List.take_length] at y;exact ⟨(),trivial,y,H⟩
 clear H;rintro ⟨⟩ u w2 ⟨O,H⟩;refine aw (fun w'=>uz S l S.on.length=true∧Hp w ab w' [an g2 41 (bo S.n (.slice (some ⟨m,g,none⟩) S.on.length co) (.slice (some ⟨o,k,none⟩) S.may.length cm))] []) ?_ ?_
 ·refine ax (γ:=Nat) (fun j=>[(6,.int .i64 (j:Int))]) (fun j w'=>(j≤S.on.length∧uz S l j=true)∧Hp w ab w' [an g2 41 (bo S.n (.slice (some ⟨m,g,none⟩) S.on.length co) (.slice (some ⟨o,k,none⟩) S.may.length cm))] []) (fun j=>S.on.length - j) 0 ⟨rfl,trivial⟩ ⟨⟨Nat.zero_le _,rfl⟩,H⟩ ?_;clear H;rintro j u w3 ⟨⟨hj,f⟩,H⟩;refine aa (fR _) ?_;refine H.load 0 rfl dS rfl ?_;refine ay underlying39 ?_;refine au (fun Z=>?_) (fun Z=>?_)
  ·obtain ⟨a,ha,hain⟩:=lC (l:=S.on) (j:=j) (by omega);obtain ⟨b,hb,hbin⟩:=lC (l:=S.may) (j:=j) (by omega);have Q:=DH S l j;rw[f,Bool.true_and] at Q;refine aw (fun w'=>uz S l (j+1)=true∧Hp w ab w' [an g2 41 (bo S.n (.slice (some ⟨m,g,none⟩) S.on.length co) (.slice (some ⟨o,k,none⟩) S.may.length cm))] []) ?_ ?_
   ·refine ak (γ:=Nat × Nat × Nat × Nat) (fun (B,C,D,E)=>[(7,.slice (some ⟨B,0,none⟩) 256 C),(8,.slice (some ⟨D,0,none⟩) 256 E)]) (fun (B,C,D,E) w'=>Hp w ab w' [own 4 1 (.slice (some ⟨D,0,none⟩) 256 E) 256 (ig (j0 b)),own 4 1 (.slice (some ⟨B,0,none⟩) 256 C) 256 (ig (j0 a)),an g2 41 (bo S.n (.slice (some ⟨m,g,none⟩) S.on.length co) (.slice (some ⟨o,k,none⟩) S.may.length cm))] []) ?_ ?_
    ·refine H.draw eO (by kernel_rfl) ?_;clear H;intro U H;refine quiet _ (fun w H=>aa (fR _) ae) ?_;refine quiet _ (fun w H=>H.load 0 rfl dS rfl ae) ?_;refine quiet _ (fun w H=>ao underlying39 av j rfl (by omega) (o':=g+j*4) (by omega) ae) ?_;refine quiet (sv a) (fun w H=>Sl.cA H T.on bP aD av j rfl ha ae) ?_;refine aj (NP _ _) ?_;rintro _ w10 ⟨A10,a2,rfl,q⟩;replace H:=H.bq q;obtain ⟨g10,rfl⟩:=H.lY 0 rfl (by omega);refine ⟨.inl H.forget,?_⟩;refine quiet _ (fun w H=>aa (fS _) ae) ?_;refine quiet _ (fun w H=>H.load 0 rfl dS rfl ae) ?_;refine quiet _ (fun w H=>ao underlying39 av j rfl (by omega) (o':=k+j*4) (by omega) ae) ?_;refine quiet (sv b) (fun w H=>Sl.cA H T.may bP aD av j rfl hb ae) ?_;refine aj (NP _ _) ?_;rintro _ a1 ⟨A14,a3,rfl,q⟩;replace H:=H.bq q;clear q;obtain ⟨g14,rfl⟩:=H.lY 0 rfl (by omega);refine ⟨.inl H.forget.forget,?_⟩;exact ⟨(g10,a2,g14,a3),⟨rfl,rfl,trivial⟩,H⟩
    clear H;rintro ⟨B,C,D,E⟩ u U H;refine ax (γ:=Nat) (fun p=>[(9,.int .i64 (p:Int))]) (fun p w'=>(p≤2^S.n∧uy S l j p=true)∧Hp w ab w' [own 4 1 (.slice (some ⟨D,0,none⟩) 256 E) 256 (ig (j0 b)),own 4 1 (.slice (some ⟨B,0,none⟩) 256 C) 256 (ig (j0 a)),an g2 41 (bo S.n (.slice (some ⟨m,g,none⟩) S.on.length co) (.slice (some ⟨o,k,none⟩) S.may.length cm))] []) (fun p=>2^S.n - p) 0 ⟨rfl,trivial⟩ ⟨⟨Nat.zero_le _,rfl⟩,H⟩ ?_;clear H;rintro p u w5 ⟨⟨hp,v⟩,H⟩;have a4:=zi S.n Y;refine aa (iS _) ?_;refine H.load 2 rfl aF rfl ?_;refine aj (OV S.n Y _) ?_;rintro _ w6 ⟨rfl,q⟩;replace H:=H.same q;clear q;rw[a4];refine au (fun h9=>?_) (fun h9=>?_)
    ·have a5:p<2^S.n:=by omega
     have t:=DG S l j p;rw[v,Bool.true_and] at t;have e:qF S l j p= !(a.testBit p&& !n5 l p j||n5 l p j&& !b.testBit p):=by
      unfold qF;rw[List.getD_eq_getElem?_getD,List.getD_eq_getElem?_getD,ha,hb];rfl
     have d:qF S l j p=false→zl S l=false:=fun h=>by
      unfold zl;rw[Ig (Ie h a5) (by omega),Bool.and_false]
     refine aw (fun w'=>uy S l j (p+1)=true∧Hp w ab w' [own 4 1 (.slice (some ⟨D,0,none⟩) 256 E) 256 (ig (j0 b)),own 4 1 (.slice (some ⟨B,0,none⟩) 256 C) 256 (ig (j0 a)),an g2 41 (bo S.n (.slice (some ⟨m,g,none⟩) S.on.length co) (.slice (some ⟨o,k,none⟩) S.may.length cm))] []) ?_ ?_
     ·refine ak (γ:=Unit) (fun _=>[(10,.bool (n5 l p j))]) (fun _ w'=>Hp w ab w' [own 4 1 (.slice (some ⟨D,0,none⟩) 256 E) 256 (ig (j0 b)),own 4 1 (.slice (some ⟨B,0,none⟩) 256 C) 256 (ig (j0 a)),an g2 41 (bo S.n (.slice (some ⟨m,g,none⟩) S.on.length co) (.slice (some ⟨o,k,none⟩) S.may.length cm))] []) ?_ ?_
      ·refine aj (Pn l hl V p j (by omega) (by omega) A c _ (X.same H.keeps)) ?_;rintro _ w7 ⟨rfl,q⟩;replace H:=H.same q;exact ⟨(),⟨rfl,trivial⟩,H⟩
      clear H;rintro ⟨⟩ u w7 H;refine ao underlying37 (s:=1) (by kernel_rfl) p rfl (by omega) (o':=p) (by omega) ?_;refine H.ec 1 rfl wm (jt (by omega)) ?_
      cases hci:n5 l p j <;> cases hai:a.testBit p <;> cases hbi:b.testBit p <;> rw[hci,hai,hbi] at e
      all_goals skip
      ·iterate 14 refine af rfl ?_
       exact ⟨(),trivial,by rw[t,e];rfl,H⟩
      ·iterate 14 refine af rfl ?_
       exact ⟨(),trivial,by rw[t,e];rfl,H⟩
      ·iterate 8 refine ag rfl ?_
       refine ⟨congrArg Value.bool ?_,H.keeps⟩;rw[d (by rw[e];rfl)]
      ·iterate 8 refine ag rfl ?_
       refine ⟨congrArg Value.bool ?_,H.keeps⟩;rw[d (by rw[e];rfl)]
      ·iterate 5 refine af rfl ?_
       iterate 3 refine ag rfl ?_
       refine ao underlying37 (s:=1) (by kernel_rfl) p rfl (by omega) (o':=p) (by omega) ?_;refine ag rfl ?_;refine H.ec 0 rfl wm (jt (by omega)) ?_;refine ag rfl ?_;refine af rfl ?_;refine ag rfl ?_;refine af rfl ?_;refine ag (by simp only[*,Bool.not_false,Bool.not_true]) ?_;refine ⟨congrArg Value.bool ?_,H.keeps⟩;rw[d (by rw[e];rfl)]
      ·iterate 5 refine af rfl ?_
       iterate 3 refine ag rfl ?_
       refine ao underlying37 (s:=1) (by kernel_rfl) p rfl (by omega) (o':=p) (by omega) ?_;refine ag rfl ?_;refine H.ec 0 rfl wm (jt (by omega)) ?_;refine ag rfl ?_;refine af rfl ?_;refine ag rfl ?_;refine af rfl ?_;refine af (by simp only[*,Bool.not_false,Bool.not_true]) ?_;exact ⟨(),trivial,by rw[t,e];rfl,H⟩
      ·iterate 3 refine ag rfl ?_
       iterate 2 refine af rfl ?_
       iterate 3 refine ag rfl ?_
       refine ao underlying37 (s:=1) (by kernel_rfl) p rfl (by omega) (o':=p) (by omega) ?_;refine ag rfl ?_;refine H.ec 0 rfl wm (jt (by omega)) ?_;refine ag rfl ?_;refine af rfl ?_;refine ag rfl ?_;refine af rfl ?_;refine ag (by simp only[*,Bool.not_false,Bool.not_true]) ?_;refine ⟨congrArg Value.bool ?_,H.keeps⟩;rw[d (by rw[e];rfl)]
      ·iterate 3 refine ag rfl ?_
       iterate 2 refine af rfl ?_
       iterate 3 refine ag rfl ?_
       refine ao underlying37 (s:=1) (by kernel_rfl) p rfl (by omega) (o':=p) (by omega) ?_;refine ag rfl ?_;refine H.ec 0 rfl wm (jt (by omega)) ?_;refine ag rfl ?_;refine af rfl ?_;refine ag rfl ?_;refine af rfl ?_;refine af (by simp only[*,Bool.not_false,Bool.not_true]) ?_;exact ⟨(),trivial,by rw[t,e];rfl,H⟩
     ·clear H;rintro ⟨⟩ u w7 ⟨F,H⟩;exact ⟨p+1,by show 2^S.n - (p+1)<2^S.n - p;omega,⟨up (by omega),trivial⟩,⟨by show p+1≤2^S.n;omega,F⟩,H⟩
    ·obtain rfl:p=2^S.n:=by omega
     exact ⟨(),trivial,by rw[Q];exact v,H.forget.forget⟩
   ·clear H;rintro ⟨⟩ u U ⟨G,H⟩;exact ⟨j+1,by show S.on.length - (j+1)<S.on.length - j;omega,⟨up (by omega),trivial⟩,⟨by show j+1≤S.on.length;omega,G⟩,H⟩
  ·obtain rfl:j=S.on.length:=by omega
   exact ⟨(),trivial,f,H⟩
 clear H;rintro ⟨⟩ u w3 ⟨f,H⟩;exact ⟨by unfold zl;rw[O,f];rfl,H.keeps⟩
theorem Ge {n:Nat}(c:n≤8){l:List Rw}{k:Nat}(d:∀ x ∈ l,gE n k x){p j:Nat}(e:p<2^n):n5 l p j=(fU n j l).testBit p:=by
 rw[Bool.eq_iff_iff,fG];unfold n5;rw[List.any_eq_true];refine exists_congr fun x=>and_congr_right fun f=>?_;have a:=d x f;have b:=((ep a.m a.v).1 a.right).2.2.2;rw[Bool.and_eq_true,bD c,Br a.m b,beq_iff_eq];exact and_congr_right fun _=>⟨fun h=>⟨e,h⟩,fun h=>h.2⟩
theorem zm {S:dX}(m:cL S){l:List Rw}(z:∀ x ∈ l,x.1<256∧x.2.1<256∧x.2.2<256):zl S l=true↔(∀ x ∈ l,gE S.n S.on.length x)∧bA S l=true:=by
 have g:=m.n8;have i:uA S l=true↔∀ x ∈ l,gE S.n S.on.length x:=by
  unfold uA;rw[List.all_eq_true];refine forall_congr' fun x=>imp_congr_right fun A=>?_;obtain ⟨s1,s2,v⟩:=z x A;rw[Gc v];exact ⟨fun ⟨r,s,B⟩=>⟨s1,s2,v,B,r,s⟩,fun h=>⟨h.some,h.few,h.right⟩⟩
 unfold zl;rw[Bool.and_eq_true,i];refine and_congr_right fun t=>?_;rw[gH m];have q:uz S l S.on.length=true↔∀ o,o<S.on.length→∀ p,p<2^S.n→qF S l o p=true:=by
  unfold uz uy;rw[List.all_eq_true];refine forall_congr' fun o=>?_;rw[List.mem_range];refine imp_congr_right fun _=>?_;rw[List.all_eq_true];exact forall_congr' fun p=>by rw[List.mem_range]
 rw[q];have u:∀ {o a b p:Nat},S.on[o]?=some a→S.may[o]?=some b→p<2^S.n→(qF S l o p=true↔(a.testBit p=true→(fU S.n o l).testBit p=true)∧((fU S.n o l).testBit p=true→b.testBit p=true)):=fun {o a b p} d e f=>by
  unfold qF;rw[List.getD_eq_getElem?_getD,List.getD_eq_getElem?_getD,d,e,Ge g t f];simp only[Option.getD_some]
  cases a.testBit p <;> cases b.testBit p <;> cases (fU S.n o l).testBit p <;> simp
 constructor
 ·intro h j a b d e;have w:=(List.getElem?_eq_some_iff.1 d).1;have k:=m.all b (List.mem_of_getElem? e);refine ⟨fun p f=>?_,fun p f=>?_⟩
  ·have c:=fA g ((m.sub j a b d e).trans k) f;exact ((u d e c).1 (h j w p c)).1 f
  ·obtain ⟨x,_,_,C⟩:=fG.1 f;have c:=((bD g).1 C).1;exact ((u d e c).1 (h j w p c)).2 f
 ·intro h o y p f;have d:=List.getElem?_eq_getElem y;have e:=List.getElem?_eq_getElem (show o<S.may.length by rw[m.len];exact y);obtain ⟨r,s⟩:=h o _ _ d e;exact (u d e f).2 ⟨r p,s p⟩
theorem Ih {o out:Nat}(b:o<256)(a:out<8)(h:o.testBit out=true):o - 2^out=iu o out:=by
 have key:((List.range 256).all fun o=>(List.range 8).all fun j=> !o.testBit j||(o - 2^j==o &&&(255 - 2^j)))=true:=by decide +kernel
 rw[List.all_eq_true] at key;have:=key o (List.mem_range.2 b);rw[List.all_eq_true] at this;have:=this out (List.mem_range.2 a);rw[h] at this;simpa [iu] using this
def jh (l:List Rw)(i out:Nat):List Rw:=match l[i]? with | some x=>l.set i (x.1,x.2.1,iu x.2.2 out) | none=>l
def cN (l:List Rw):List Rw:=l.filter fun x=>decide (0<x.2.2)
theorem vP {l:List Rw}(h:∀ x ∈ l,0<x.2.2):cN l=l:=List.filter_eq_self.2 fun x a=>decide_eq_true (h x a)
theorem xA {l:List Rw}{i out:Nat}(hi:i<l.length)(g:∀ x ∈ l,0<x.2.2):cN (jh l i out)=bh l i out:=by
 have b:=List.getElem?_eq_getElem hi;unfold jh bh;rw[b];simp only;generalize j:(l[i].1,l[i].2.1,iu l[i].2.2 out)=y;have c:y.2.2=iu l[i].2.2 out:=by rw[← j]
 have a:l.set i y=l.take i++y::l.drop (i+1):=List.set_eq_take_append_cons_drop.trans (if_pos hi);have h:cN (l.take i)=l.take i:=vP fun x b=>g x (List.mem_of_mem_take b);have d:cN (l.drop (i+1))=l.drop (i+1):=vP fun x b=>g x (List.mem_of_mem_drop b);have e:cN (l.set i y)=l.take i++cN (y::l.drop (i+1)):=by
  rw[a];unfold cN at h ⊢;rw[List.filter_append,h]
 rw[e];split
 ·rename_i f;have:cN (y::l.drop (i+1))=l.drop (i+1):=by
   unfold cN at d ⊢;rw[List.filter_cons,if_neg (by rw[c,f];decide),d]
  rw[this]
 ·rename_i f;have:cN (y::l.drop (i+1))=y::l.drop (i+1):=by
   unfold cN at d ⊢;rw[List.filter_cons,if_pos (by rw[c];exact decide_eq_true (Nat.pos_of_ne_zero f)),d]
  rw[this,a]
theorem Nk:enters prog 46=true:=by kernel_rfl
theorem c46 (l:List Rw)(i out:Nat)(hi:i<l.length)(b:out<8)(E:∀ x ∈ l,x.2.2<256)(F:∀ x,l[i]?=some x→x.2.2.testBit out=true)(G:l.length≤1000000)(A:Option Addr)(c:Nat)(w:World)(I:Sl w (.slice A l.length c) 3 l.length (flat a6 l)) :
  bw prog 46 [.slice A l.length c,.int .i64 (i:Int),.int .i64 (out:Int)] w fun r w'=>∃ D d,r=.slice D (jh l i out).length d∧eE w w' (own 50 3 (.slice D (jh l i out).length d) (jh l i out).length (flat a6 (jh l i out))):=by
 refine ar (N:=32) func46 Nk rfl rfl rfl (by simp) ?_;have H:=Hp.aC w;obtain ⟨x,n,e⟩:=iT hi;have f:=E x e;have a:=F x n;have p:jh l i out=l.set i (x.1,x.2.1,iu x.2.2 out):=by unfold jh;rw[n]
 rw[p,List.length_set];obtain ⟨m,v,o⟩:=x;simp only at f a;have s:=Ih f b a;have t:2^out≤o:=Nat.ge_two_pow_of_testBit a;refine aw (fun w'=>Hp w ab w' [] []) ⟨(),trivial,H⟩ ?_;clear H;rintro ⟨⟩ u O H;refine ak (γ:=Unit) (fun _=>[(7,.int .u8 1)]) (fun _ w'=>Hp w ab w' [] []) ⟨(),⟨rfl,trivial⟩,H⟩ ?_;clear H;rintro ⟨⟩ u J H;refine ak (γ:=Unit) (fun _=>[(7,.int .u8 ((2^out:Nat):Int))]) (fun _ w'=>Hp w ab w' [] []) ?_ ?_
 ·refine ax (γ:=Nat) (fun k=>[(8,.int .i64 (k:Int)),(7,.int .u8 ((2^k:Nat):Int))]) (fun k w'=>k≤out∧Hp w ab w' [] []) (fun k=>out - k) 0 ⟨rfl,rfl,trivial⟩ ⟨Nat.zero_le _,H⟩ ?_;clear H;rintro k u C ⟨Q,H⟩;refine au (fun h=>?_) (fun h=>?_)
  ·have K:k<out:=by have h:(k:Int)<(out:Int):=h;omega
   have y:2^k≤2^6:=Nat.pow_le_pow_right (by decide) (by omega);have j:(2^(k+1):Nat)=2^k*2:=Nat.pow_succ 2 k;refine ak (γ:=Unit) (fun _=>[(7,.int .u8 ((2^(k+1):Nat):Int))]) (fun _ w'=>Hp w ab w' [] []) ⟨(),⟨congrArg (Value.int .u8) (by rw[j];generalize 2^k=q at y;simp only[IntKind.wrap_u8];omega),trivial⟩,H⟩ ?_;clear H;rintro ⟨⟩ u M H;exact ⟨k+1,by show out - (k+1)<out - k;omega,⟨up (by omega),rfl,trivial⟩,by show k+1≤out;omega,H⟩
  ·obtain rfl:k=out:=by have h:¬ (k:Int)<(out:Int):=h;omega
   exact ⟨(),⟨rfl,trivial⟩,H⟩
 clear H;rintro ⟨⟩ u C H;refine ak (γ:=Nat × Nat) (fun (g,d)=>[(9,.slice (some ⟨g,0,none⟩) l.length d)]) (fun (g,d) w'=>Hp w ab w' [own 50 3 (.slice (some ⟨g,0,none⟩) l.length d) l.length (flat a6 l)] []) ?_ ?_
 ·refine Hp.dr H vz ?_;clear H;intro g20 J H;refine Hp.b_ H 0 vz rfl (I.same H.keeps) (ml l) (by omega) (by omega) ?_;clear H;intro S d1 C H;obtain ⟨g,rfl⟩:=H.lY 0 rfl (by omega);exact ⟨(g,d1),⟨rfl,trivial⟩,H⟩
 clear H;rintro ⟨g,d⟩ u M H;have B:IntKind.u8.wrap (((o:Nat):Int) - ((2^out:Nat):Int))=((iu o out:Nat):Int):=by
  rw[← s];generalize 2^out=q at t ⊢;simp only[IntKind.wrap_u8];omega
 refine ao underlying44 aZ i rfl hi (o':=0+i*3) rfl ?_;refine aa (dt _ _) ?_;refine H.kL 0 rfl bl b5 i 2 (by omega) n (u:=.int .u8 (o:Int)) rfl ?_;refine ao underlying44 aZ i rfl hi (o':=0+i*3) rfl ?_;refine aa (dt _ _) ?_;refine H.rM 0 (m,v,iu o out) rfl bl j4 i 2 (by omega) n (by decide) (congrArg (fun z=>[Value.int .u8 (m:Int),.int .u8 (v:Int),Value.int .u8 z]) B.symm) rfl ?_;clear H;intro T H;exact ⟨some ⟨g,0,none⟩,d,rfl,H.out⟩
theorem Nl:enters prog 45=true:=by kernel_rfl
theorem Pq (l:List Rw)(v:∀ x ∈ l,x.2.2<256)(o:l.length≤1000000)(A:Option Addr)(c:Nat)(w:World)(f:Sl w (.slice A l.length c) 3 l.length (flat a6 l)) :
  bw prog 45 [.slice A l.length c] w fun r w'=>∃ D d,r=.slice D (cN l).length d∧eE w w' (own 50 3 (.slice D (cN l).length d) (cN l).length (flat a6 (cN l))):=by
 refine ar (N:=25) func45 Nl rfl rfl rfl (by simp) ?_;have H:=Hp.aC w;refine aw (fun w'=>Hp w ab w' [] []) ⟨(),trivial,H⟩ ?_;clear H;rintro ⟨⟩ u y H;refine ak (γ:=Unit) (fun _=>[(3,.slice none 0 0)]) (fun _ w'=>Hp w ab w' [] []) ⟨(),⟨rfl,trivial⟩,H⟩ ?_;clear H;rintro ⟨⟩ u C H;replace H:=H.bx 50 3;refine ak (γ:=Option Addr × Nat) (fun (B,d)=>[(3,.slice B (cN l).length d)]) (fun (B,d) w'=>Hp w ab w' [own 50 3 (.slice B (cN l).length d) (cN l).length (flat a6 (cN l))] []) ?_ ?_
 ·refine ax (γ:=Nat × Option Addr × Nat) (fun (i,B,d)=>[(4,.int .i64 (i:Int)),(3,.slice B (cN (l.take i)).length d)]) (fun (i,B,d) w'=>i≤l.length∧Hp w ab w' [own 50 3 (.slice B (cN (l.take i)).length d) (cN (l.take i)).length (flat a6 (cN (l.take i)))] []) (fun (i,_)=>l.length - i) (0,none,0) ⟨rfl,rfl,trivial⟩ ⟨Nat.zero_le _,H⟩ ?_;clear H;rintro ⟨i,B,d⟩ u p ⟨hi,H⟩;refine ay underlying44 ?_;refine au (fun q=>?_) (fun q=>?_)
  ·have b:i<l.length:=by omega
   obtain ⟨x,g,s⟩:=iT (l:=l) (j:=i) (by omega);obtain ⟨E,k,rfl⟩:=f.A (by omega);have hle:(cN (l.take i)).length≤1000000:=Nat.le_trans (List.length_filter_le _ _) (by rw[List.length_take];omega);have a:cN (l.take (i+1))=cN (l.take i)++(if 0<x.2.2 then [x] else []):=by
    unfold cN;rw[List.take_add_one,g,List.filter_append];by_cases h:0<x.2.2 <;> simp[h]
   refine ak (γ:=Option Addr × Nat) (fun (B,d)=>[(3,.slice B (cN (l.take (i+1))).length d)]) (fun (B,d) w'=>Hp w ab w' [own 50 3 (.slice B (cN (l.take (i+1))).length d) (cN (l.take (i+1))).length (flat a6 (cN (l.take (i+1))))] []) ?_ ?_
   ·refine ao underlying44 aZ i rfl b (o':=k+i*3) (by omega) ?_;refine aa (xx _ _) ?_;refine Sl.oN H f bl b5 i 2 (by omega) g (u:=.int .u8 (x.2.2:Int)) rfl ?_;by_cases m:0<x.2.2
    ·rw[if_pos m] at a;have n:(cN (l.take i)++[x]).length=(cN (l.take i)).length+1:=by rw[List.length_append];rfl
     have t:flat a6 (cN (l.take i)++[x])=flat a6 (cN (l.take i))++a6 x:=de ..;refine ag (decide_eq_true (by show (x.2.2:Int)>0;omega)) ?_;refine ao underlying44 aZ i rfl b (o':=k+i*3) (by omega) ?_;refine Sl.cA H f bl gV aZ i rfl g ?_;refine H.bf vz (cs:=eo x.1 x.2.1 x.2.2) (by decide) (by decide) (by kernel_rfl) ?_;clear H;intro F G H;refine H.aG 1 0 vz rfl rfl rfl (dT _ _ _) (by omega) (by omega) ?_;clear H;intro e d2 I H;refine ⟨(e,d2),⟨congrArg (fun z=>Value.slice e z d2) (show (cN (l.take i)).length+1=(cN (l.take (i+1))).length by rw[a,n]),trivial⟩,?_⟩;rw[a,n,t];exact H.b7 [1] (by decide) rfl
    ·rw[if_neg m,List.append_nil] at a;refine af (decide_eq_false (by show ¬ (x.2.2:Int)>0;omega)) ?_;exact ⟨(B,d),⟨congrArg (fun z=>Value.slice B z d) (show (cN (l.take i)).length=(cN (l.take (i+1))).length by rw[a]),trivial⟩,by rw[a];exact H⟩
   ·clear H;rintro ⟨e,d2⟩ u J H;exact ⟨(i+1,e,d2),by show l.length - (i+1)<l.length - i;omega,⟨up (by omega),rfl,trivial⟩,by show i+1≤l.length;omega,H⟩
  ·obtain rfl:i=l.length:=by omega
   rw[List.take_length] at H;exact ⟨(B,d),⟨congrArg (fun z=>Value.slice B z d) (show (cN (l.take l.length)).length=(cN l).length by rw[List.take_length]),trivial⟩,H⟩
 clear H;rintro ⟨B,d⟩ u p H;exact ⟨B,d,rfl,H.out⟩
theorem Nn:enters prog 18=true:=by kernel_rfl
set_option maxHeartbeats 1000000 in
theorem Pr {S:dX}(z:cL S)(l:List Rw)(b:∀ x ∈ l,gE S.n S.on.length x)(B:bA S l=true)(s:nR S l l.length)(C:l.length≤1000000)(Bo:Option Addr)(co:Nat)(Bm:Option Addr)(cm:Nat)(A:Option Addr)(c:Nat)(w:World)(X:fY w S Bo co Bm cm)(J:Sl w (.slice A l.length c) 3 l.length (flat a6 l)) :
  bw prog 18 [r4 S.n (.slice Bo S.on.length co) (.slice Bm S.may.length cm),.slice A l.length c] w fun r w'=>r=.bool true∧aT w w':=by
 refine ar (N:=40) func18 Nn rfl rfl rfl (by simp) ?_;have H:=Hp.aC w;have h4:=z.few;have e:∀ x ∈ l,x.1<256∧x.2.1<256∧x.2.2<256:=fun x k=>⟨(b x k).m,(b x k).v,(b x k).o⟩;refine ak (γ:=Nat) (fun g2=>[(2,(ah g2)),(4,.bool false)]) (fun g2 w'=>Hp w ab w' [an g2 41 (bo S.n (.slice Bo S.on.length co) (.slice Bm S.may.length cm))] []) ?_ ?_
 ·refine H.box 41 _ (cs:=bo S.n (.slice Bo S.on.length co) (.slice Bm S.may.length cm)) rfl ?_;clear H;intro g2 Z H;exact ⟨g2,⟨rfl,rfl,trivial⟩,H⟩
 clear H;rintro g2 u Z H;refine aw (fun w'=>Hp w ab w' [an g2 41 (bo S.n (.slice Bo S.on.length co) (.slice Bm S.may.length cm))] []) ?_ ?_
 ·have K:=fun u M O=>OW z l e C Bo co Bm cm A c u M O;rw[(zm z e).2 ⟨b,B⟩] at K;refine H.ai 0 rfl dw bL ?_;refine aj (K _ (X.same H.keeps) (J.same H.keeps)) ?_;clear K;rintro _ w2 ⟨rfl,f⟩;replace H:=H.same f;clear f;refine af rfl ?_;exact ⟨(),trivial,H⟩
 clear H;rintro ⟨⟩ u w2 H;refine aw (fun w'=>Hp w ab w' [an g2 41 (bo S.n (.slice Bo S.on.length co) (.slice Bm S.may.length cm))] []) ?_ ?_
 ·refine ax (γ:=Nat) (fun i=>[(5,.int .i64 (i:Int))]) (fun i w'=>i≤l.length∧Hp w ab w' [an g2 41 (bo S.n (.slice Bo S.on.length co) (.slice Bm S.may.length cm))] []) (fun i=>l.length - i) 0 ⟨rfl,trivial⟩ ⟨Nat.zero_le _,H⟩ ?_;clear H;rintro i u w3 ⟨hi,H⟩;refine ay underlying44 ?_;refine au (fun h7=>?_) (fun h7=>?_)
  ·have p:i<l.length:=by omega
   obtain ⟨x,k,Q⟩:=iT (l:=l) (j:=i) (by omega);have g:=b x Q;obtain ⟨gA,Y,rfl⟩:=J.A (by omega);refine aw (fun w'=>Hp w ab w' [an g2 41 (bo S.n (.slice Bo S.on.length co) (.slice Bm S.may.length cm))] []) ?_ ?_
   ·refine ax (γ:=Nat) (fun j=>[(6,.int .i64 (j:Int))]) (fun j w'=>j≤S.on.length∧Hp w ab w' [an g2 41 (bo S.n (.slice Bo S.on.length co) (.slice Bm S.may.length cm))] []) (fun j=>S.on.length - j) 0 ⟨rfl,trivial⟩ ⟨Nat.zero_le _,H⟩ ?_;clear H;rintro j u w4 ⟨hj,H⟩;refine aa (fR _) ?_;refine H.load 0 rfl dS rfl ?_;refine ay underlying39 ?_;refine au (fun h8=>?_) (fun h8=>?_)
    ·refine aw (fun w'=>Hp w ab w' [an g2 41 (bo S.n (.slice Bo S.on.length co) (.slice Bm S.may.length cm))] []) ?_ ?_
     ·refine H.draw eO (by kernel_rfl) ?_;clear H;intro w5 H;refine quiet _ (fun w H=>ao underlying44 aZ i rfl p (o':=Y+i*3) (by omega) ae) ?_;refine quiet _ (fun w H=>aa (xx _ _) ae) ?_;refine quiet (.int .u8 (x.2.2:Int)) (fun w H=>Sl.oN H J bl b5 i 2 (by omega) k rfl ae) ?_;refine aj (OD x.2.2 j g.o (by omega) _) ?_;rintro _ w6 ⟨rfl,f⟩;replace H:=H.same f;clear f;refine ⟨.inl H,?_⟩
      cases hb:x.2.2.testBit j with
      | false=>
       iterate 9 refine af rfl ?_
       exact ⟨(),trivial,H⟩
      | true=>
       have t:=s i x j p k hb;rw[← xA p fun y a=>(b y a).some] at t;have E:∀ y ∈ jh l i j,y.1<256∧y.2.1<256∧y.2.2<256:=fun y a=>by
        unfold jh at a;rw[k] at a;rcases List.mem_or_eq_of_mem_set a with h | h
        ·exact e y h
        ·rw[h];exact ⟨g.m,g.v,Nat.lt_of_le_of_lt Nat.and_le_left g.o⟩
       have F:∀ y ∈ cN (jh l i j),y.1<256∧y.2.1<256∧y.2.2<256:=fun y a=>E y (List.mem_filter.1 a).1;have T:(jh l i j).length=l.length:=by unfold jh;rw[k];exact List.length_set
       have U:(cN (jh l i j)).length≤l.length:=Nat.le_trans (List.length_filter_le _ _) (by omega);have V:zl S (cN (jh l i j))=false:=by
        rw[Bool.eq_false_iff];intro h;rw[((zm z F).1 h).2] at t
        cases t
       have q:=fun D d u M O=>OW z (cN (jh l i j)) F (by omega) Bo co Bm cm D d u M O;rw[V] at q;have G:=fun u h=>c46 l i j p (by omega) (fun y a=>(b y a).o) (fun y a=>by rw[k] at a;injection a with a;rw[← a];exact hb) C (some ⟨gA,Y,none⟩) c u h;have I:=fun D d u h=>Pq (jh l i j) (fun y a=>(E y a).2.2) (by omega) D d u h;generalize jh l i j=L1 at *;generalize cN L1=L2 at *;refine ag rfl ?_;refine quiet _ (fun w H=>H.ai 0 rfl dw bL ae) ?_
       iterate 4 refine ag rfl ?_
       refine aj (G _ (J.same H.keeps)) ?_;rintro _ w15 ⟨D15,d15,rfl,f⟩;replace H:=H.bq f;clear f;refine ⟨.inl H.forget,?_⟩;refine ag rfl ?_;refine aj (I _ _ _ (bB (H.get 0 rfl))) ?_;rintro _ w17 ⟨D17,d17,rfl,f⟩;replace H:=H.bq f;clear f;refine ⟨.inl H.forget.forget,?_⟩;refine ag rfl ?_;refine aj (q _ _ _ (X.same H.keeps) (bB (H.get 0 rfl))) ?_;rintro _ w19 ⟨rfl,f⟩;replace H:=H.same f;clear f;refine ⟨.inl H.forget.forget,?_⟩;refine ag rfl ?_;refine af rfl ?_;exact ⟨(),trivial,H.forget.forget⟩
     ·clear H;rintro ⟨⟩ u w5 H;exact ⟨j+1,by show S.on.length - (j+1)<S.on.length - j;omega,⟨up (by omega),trivial⟩,by show j+1≤S.on.length;omega,H⟩
    ·exact ⟨(),trivial,H⟩
   ·clear H;rintro ⟨⟩ u w4 H;exact ⟨i+1,by show l.length - (i+1)<l.length - i;omega,⟨up (by omega),trivial⟩,by show i+1≤l.length;omega,H⟩
  ·exact ⟨(),trivial,H⟩
 clear H;rintro ⟨⟩ u w3 H;exact ⟨rfl,H.keeps⟩
theorem No:enters prog 35=true:=by kernel_rfl
set_option maxHeartbeats 4000000 in
theorem Ps {t:Tb}(J:kh t)(v:Value)(w:World)(C:jg w v t.ls):bw prog 35 [sF t.kd t.ni t.no v] w fun r w'=>r=.bool true∧aT w w':=by
 refine ar (N:=95) func35 No rfl rfl rfl (by simp) ?_;have H:=Hp.aC w;obtain ⟨kd,ni,no,ls⟩:=t;obtain ⟨K,D,M,O,Q,E⟩:=J;simp only at K D M O Q E C ⊢;obtain ⟨B,c,hs,rfl,k,S,p⟩:=C.ub;refine ak (γ:=Nat) (fun g1=>[(1,(ah g1)),(2,.bool false)]) (fun g1 w'=>Hp w ab w' [an g1 33 (di kd ni no (.slice B ls.length c))] []) ?_ ?_
 ·refine H.box 33 _ (cs:=di kd ni no (.slice B ls.length c)) rfl ?_;clear H;intro g1 T H;exact ⟨g1,⟨rfl,rfl,trivial⟩,H⟩
 clear H;rintro g1 u T H;refine aw (fun w'=>Hp w ab w' [an g1 33 (di kd ni no (.slice B ls.length c))] []) ?_ ?_
 ·refine aa (eB _ _) ?_;refine H.load 0 rfl aF rfl ?_;refine af rfl ?_;refine aa (eB _ _) ?_;refine af rfl ?_;refine H.load 0 rfl aF rfl ?_
  iterate 2 refine af rfl ?_
  refine af (decide_eq_false (by omega)) ?_;refine aa (eC _ _) ?_;refine af (decide_eq_false (by omega)) ?_;refine H.load 0 rfl aF rfl ?_
  iterate 2 refine af (decide_eq_false (by omega)) ?_
  refine af rfl ?_;refine aa (eC _ _) ?_;refine af rfl ?_;refine H.load 0 rfl aF rfl ?_
  iterate 2 refine af rfl ?_
  refine af (decide_eq_false (by omega)) ?_;refine aa (fB _ _) ?_;refine af (decide_eq_false (by omega)) ?_;refine H.load 0 rfl aF rfl ?_
  iterate 3 refine af (decide_eq_false (by omega)) ?_
  refine aa (fB _ _) ?_;refine af (decide_eq_false (by omega)) ?_;refine H.load 0 rfl aF rfl ?_
  iterate 3 refine af (decide_eq_false (by omega)) ?_
  refine aa (dy _ _) ?_;refine af (decide_eq_false (by omega)) ?_;refine H.load 0 rfl f_ rfl ?_;refine af (decide_eq_false (by omega)) ?_;refine ay underlying31 ?_
  iterate 3 refine af (decide_eq_false (by omega)) ?_
  exact ⟨(),trivial,H⟩
 clear H;rintro ⟨⟩ u w2 H;refine aw (fun w'=>Hp w ab w' [an g1 33 (di kd ni no (.slice B ls.length c))] []) ?_ ?_
 ·refine ax (γ:=Nat) (fun i=>[(3,.int .i64 (i:Int))]) (fun i w'=>i≤ls.length∧Hp w ab w' [an g1 33 (di kd ni no (.slice B ls.length c))] []) (fun i=>ls.length - i) 0 ⟨rfl,trivial⟩ ⟨Nat.zero_le _,H⟩ ?_;clear H;rintro i u U ⟨hi,H⟩;refine aa (dy _ _) ?_;refine H.load 0 rfl f_ rfl ?_;refine ay underlying31 ?_;refine au (fun V=>?_) (fun V=>?_)
  ·have f:i<ls.length:=by omega
   obtain ⟨l,X,q⟩:∃ l,ls[i]?=some l∧l ∈ ls:=⟨_,List.getElem?_eq_getElem f,List.getElem_mem f⟩;obtain ⟨s,o,y,b⟩:=p i l X;have e:=E l q;have Y:=e.len;obtain ⟨s1,s2,Z⟩:=kY D e;obtain ⟨n,h,rfl⟩:=k.A (by omega);refine aw (fun w'=>Hp w ab w' [an g1 33 (di kd ni no (.slice (some ⟨n,h,none⟩) ls.length c))] []) ?_ ?_
   ·refine ak (γ:=Nat) (fun g4=>[(4,(ah g4))]) (fun g4 w'=>Hp w ab w' [an g4 77 (fM l.1 l.2.1 (.slice s l.2.2.length o)),an g1 33 (di kd ni no (.slice (some ⟨n,h,none⟩) ls.length c))] []) ?_ ?_
    ·refine aa (dy _ _) ?_;refine H.load 0 rfl f_ rfl ?_;refine ao underlying31 cF i rfl f (o':=h+i*3) (by omega) ?_;refine Sl.cA H k eR mw cF i rfl y ?_;refine H.alloc 77 (cs:=fM 0 0 (.slice none 0 0)) lO rfl ?_;clear H;intro g4 z H;refine H.storeAll 0 rfl cF rfl (eS (m:=l.1) (v:=l.2.1)) ?_;clear H;intro F H;exact ⟨g4,⟨rfl,trivial⟩,H⟩
    clear H;rintro g4 u z H;refine aw (fun w'=>Hp w ab w' [an g4 77 (fM l.1 l.2.1 (.slice s l.2.2.length o)),an g1 33 (di kd ni no (.slice (some ⟨n,h,none⟩) ls.length c))] []) ?_ ?_
    ·refine aa (xn _) ?_;refine fJ (H.get 0 rfl) (cc l.1 l.2.1).toList bz aO (sG _ _ _) ?_;refine aa (eC _ _) ?_;refine H.load 1 rfl aF rfl ?_;have G:=OO l.1 l.2.1 s1 s2 (ni:Int) z;rw[Z] at G;refine aj G ?_;rintro _ F ⟨rfl,I⟩;replace H:=H.same I;clear I;have hlen:=e.len;refine af rfl ?_;refine aa (eI _) ?_;refine af rfl ?_;refine H.load 0 rfl e8 rfl ?_;refine af rfl ?_;refine ay underlying75 ?_;refine af rfl ?_;refine aa (fB _ _) ?_;refine af rfl ?_;refine H.load 1 rfl aF rfl ?_
     iterate 2 refine af rfl ?_
     refine af (bne_eq_false_iff_eq.2 (by omega)) ?_;exact ⟨(),trivial,H⟩
    clear H;rintro ⟨⟩ u F H;refine ax (γ:=Nat) (fun j=>[(5,.int .i64 (j:Int))]) (fun j w'=>j≤l.2.2.length∧Hp w ab w' [an g4 77 (fM l.1 l.2.1 (.slice s l.2.2.length o)),an g1 33 (di kd ni no (.slice (some ⟨n,h,none⟩) ls.length c))] []) (fun j=>l.2.2.length - j) 0 ⟨rfl,trivial⟩ ⟨Nat.zero_le _,H⟩ ?_;clear H;rintro j u w6 ⟨hj,H⟩;refine aa (eI _) ?_;refine H.load 0 rfl e8 rfl ?_;refine ay underlying75 ?_;refine au (fun h8=>?_) (fun h8=>?_)
    ·have a:j<l.2.2.length:=by omega
     obtain ⟨gO,g,rfl⟩:=b.A (by omega);have hx:=e.marks _ (List.getElem_mem a);have d:(ints l.2.2)[j]?=some (.int .i64 ((l.2.2[j]:Nat):Int)):=eP a;generalize l.2.2[j]=x at hx d;refine aw (fun w'=>Hp w ab w' [an g4 77 (fM l.1 l.2.1 (.slice (some ⟨gO,g,none⟩) l.2.2.length o)),an g1 33 (di kd ni no (.slice (some ⟨n,h,none⟩) ls.length c))] []) ?_ ?_
     ·rcases (by omega:x=0∨x=1∨x=2) with rfl | rfl | rfl
      ·refine aa (eI _) ?_;refine H.load 0 rfl e8 rfl ?_;refine ao underlying75 bc j rfl a (o':=g+j) (by omega) ?_;refine aB aF (((b.same H.keeps).cell j (by omega)).trans d) ?_
       iterate 15 refine af rfl ?_
       exact ⟨(),trivial,H⟩
      ·refine aa (eI _) ?_;refine H.load 0 rfl e8 rfl ?_;refine ao underlying75 bc j rfl a (o':=g+j) (by omega) ?_;refine aB aF (((b.same H.keeps).cell j (by omega)).trans d) ?_;refine ag rfl ?_;refine aa (eI _) ?_;refine ag rfl ?_;refine H.load 0 rfl e8 rfl ?_
       iterate 2 refine ag rfl ?_
       refine ao underlying75 bc j rfl a (o':=g+j) (by omega) ?_;refine ag rfl ?_;refine aB aF (((b.same H.keeps).cell j (by omega)).trans d) ?_
       iterate 2 refine ag rfl ?_
       iterate 8 refine af rfl ?_
       exact ⟨(),trivial,H⟩
      ·refine aa (eI _) ?_;refine H.load 0 rfl e8 rfl ?_;refine ao underlying75 bc j rfl a (o':=g+j) (by omega) ?_;refine aB aF (((b.same H.keeps).cell j (by omega)).trans d) ?_;refine ag rfl ?_;refine aa (eI _) ?_;refine ag rfl ?_;refine H.load 0 rfl e8 rfl ?_
       iterate 2 refine ag rfl ?_
       refine ao underlying75 bc j rfl a (o':=g+j) (by omega) ?_;refine ag rfl ?_;refine aB aF (((b.same H.keeps).cell j (by omega)).trans d) ?_
       iterate 3 refine ag rfl ?_
       refine aa (eI _) ?_;refine ag rfl ?_;refine H.load 0 rfl e8 rfl ?_
       iterate 2 refine ag rfl ?_
       refine ao underlying75 bc j rfl a (o':=g+j) (by omega) ?_;refine ag rfl ?_;refine aB aF (((b.same H.keeps).cell j (by omega)).trans d) ?_
       iterate 2 refine ag rfl ?_
       refine af rfl ?_;exact ⟨(),trivial,H⟩
     ·clear H;rintro ⟨⟩ u w7 H;exact ⟨j+1,by show l.2.2.length - (j+1)<l.2.2.length - j;omega,⟨up (by omega),trivial⟩,by show j+1≤l.2.2.length;omega,H⟩
    ·exact ⟨(),trivial,H.forget⟩
   ·clear H;rintro ⟨⟩ u z H;exact ⟨i+1,by show ls.length - (i+1)<ls.length - i;omega,⟨up (by omega),trivial⟩,by show i+1≤ls.length;omega,H⟩
  ·exact ⟨(),trivial,H⟩
 clear H;rintro ⟨⟩ u U H;exact ⟨rfl,H.keeps⟩
end Go.Proofs.YtpjihhgjbbihkaaGreatDoor
namespace Go.Dk
def fV (f:Nat→Bool)(k:Nat):List Bool:=(List.range 256).map fun p=>decide (p<k)&&f p
theorem b6 (f:Nat→Bool)(k:Nat):(fV f k).length=256:=by simp[fV]
theorem DI (f:Nat→Bool):fV f 0=List.replicate 256 false:=by simp[fV,List.map_const']
theorem DJ {f:Nat→Bool}{k:Nat}:(fV f k).set k (f k)=fV f (k+1):=by
 apply List.ext_getElem (by simp[fV]);intro p a b;simp only[fV,List.length_set,List.length_map,List.length_range] at a;rw[List.getElem_set];simp only[fV,List.getElem_map,List.getElem_range];by_cases h:k=p
 ·subst h;simp
 ·have:decide (p<k+1)=decide (p<k):=by rw[decide_eq_decide];omega
  simp[h,this]
def nn (t:Tb)(o p:Nat):Bool:=gh t.ls p o 1
def nk (t:Tb)(o p:Nat):Bool:=gh t.ls p o 0
def Bh (t:Tb)(o p:Nat):Bool:=gh t.ls p o 2
def n7 (t:Tb)(o p:Nat):Bool:=nn t o p||decide (t.kd=1)&&Bh t o p||decide (2≤t.kd)&& !nk t o p
end Go.Dk
namespace Go.Proofs.YtpjihhgjbbihkaaGreatDoor
open Go.Proofs.Tryz
open Go.Dk
set_option maxRecDepth 100000
attribute [local irreducible] IntKind.wrap
theorem zn {f:Nat→Bool}{k:Nat}{b:Bool}(h:f k=b):(ig (fV f k)).set k (.bool b)=ig (fV f (k+1)):=by
 rw[← DJ,h];simp[ig,List.map_set]
theorem zo (f:Nat→Bool){k:Nat}(b:k≤256)(p:Nat):(lz (fV f k)).testBit p=(decide (p<k)&&f p):=by
 rw[sd];by_cases a:p<256
 ·rw[decide_eq_true a,Bool.true_and,List.getD_eq_getElem?_getD];simp[fV,a]
 ·rw[decide_eq_false a,decide_eq_false (show ¬ p<k by omega)];rfl
theorem eW {t:Tb}(e:kh t)(o mk p:Nat):(gf t o mk t.ls.length).testBit p=(decide (p<2^t.ni)&&gh t.ls p o mk):=by
 rw[Bool.eq_iff_iff,vJ,Bool.and_eq_true,decide_eq_true_eq];unfold gh;rw[List.any_eq_true];have key:∀ l ∈ t.ls,(bd l.1 l.2.1 t.ni).testBit p=true↔p<2^t.ni∧uJ l.1 l.2.1 p=true:=fun l a=>by
  have b:=e.ls l a;rw[bD e.ni,Br (kY e.ni b).1 b.v,beq_iff_eq]
 constructor
 ·rintro ⟨i,l,_,a,hm,g⟩;have c:=List.mem_of_getElem? a;obtain ⟨f,d⟩:=(key l c).1 g;exact ⟨f,l,c,by rw[d,decide_eq_true hm];rfl⟩
 ·rintro ⟨f,l,a,d⟩;rw[Bool.and_eq_true,decide_eq_true_eq] at d;obtain ⟨i,hi⟩:=List.getElem?_of_mem a;exact ⟨i,l,(List.getElem?_eq_some_iff.1 hi).1,hi,d.1,(key l a).2 ⟨f,d.2⟩⟩
theorem Np {t:Tb}(a:kh t)(o:Nat):lz (fV (nn t o) (2^t.ni))=my t o:=by
 have b:2^t.ni≤2^8:=Nat.pow_le_pow_right (by decide) a.ni;refine Nat.eq_of_testBit_eq fun p=>?_;rw[zo _ (by omega)];unfold my;rw[eW a];rfl
theorem Lb {t:Tb}(a:kh t)(o:Nat)(b:∀ p,p<2^t.ni→2≤t.kd→nn t o p=true→nk t o p=false):lz (fV (n7 t o) (2^t.ni))=iv t o:=by
 have f:2^t.ni≤2^8:=Nat.pow_le_pow_right (by decide) a.ni;refine Nat.eq_of_testBit_eq fun p=>?_;rw[zo _ (by omega)];unfold iv n7;split
 ·rename_i h;unfold my;rw[eW a,h];simp[nn]
 ·rename_i h;split
  ·rename_i c;unfold my ud;rw[Nat.testBit_or,eW a,eW a,c]
   cases decide (p<2^t.ni) <;> simp[nn,Bh]
  ·rename_i c;have e:2≤t.kd:=by omega
   unfold uc;rw[bX (j7 _),gG a.ni,eW a,decide_eq_false c,decide_eq_true e];by_cases d:p<2^t.ni
   ·rw[decide_eq_true d];have:=b p d e;unfold nk at this ⊢
    cases h3:nn t o p with
    | false=>simp
    | true=>rw[this h3];rfl
   ·rw[decide_eq_false d];rfl
theorem rA {t:Tb}(b:kh t)(o:Nat):kZ t o=true↔2≤t.kd∧∃ p,p<2^t.ni∧nn t o p=true∧nk t o p=true:=by
 unfold kZ;rw[Bool.and_eq_true,decide_eq_true_eq,bne_iff_ne];refine and_congr_right fun _=>?_;constructor
 ·intro h;refine Classical.byContradiction fun c=>h (iw.2 fun p=>?_);rw[Bool.eq_false_iff];intro a;unfold my uc at a;rw[Nat.testBit_and,eW b,eW b] at a;simp only[Bool.and_eq_true,decide_eq_true_eq] at a;exact c ⟨p,a.1.1,a.1.2,a.2.2⟩
 ·rintro ⟨p,f,d,e⟩ g;have:=iw.1 g p;unfold my uc at this;unfold nn at d;unfold nk at e;rw[Nat.testBit_and,eW b,eW b,decide_eq_true f,d,e] at this
  cases this
theorem vQ {t:Tb}{o:Nat}(a:o<t.no)(h:kZ t o=true):cU t t.no=true:=by
 unfold cU;rw[List.any_eq_true];exact ⟨o,List.mem_range.2 a,h⟩
theorem Nq:enters prog 12=true:=by kernel_rfl
set_option maxHeartbeats 4000000 in
theorem c12 {t:Tb}(E:kh t)(v:Value)(w:World)(Y:jg w v t.ls):bw prog 12 [sF t.kd t.ni t.no v] w fun r w'=>
  (cU t t.no=true∧r=.tuple #[r4 0 (.slice none 0 0) (.slice none 0 0),.int .i64 4]∧aT w w')∨
  (cU t t.no=false∧∃ Bo co Bm cm,r=.tuple #[r4 t.ni (.slice Bo t.no co) (.slice Bm t.no cm),.int .i64 0]∧∃ F,eE w w' (pJ F (fm t) Bo co Bm cm)):=by
 refine ar (N:=96) func12 Nq rfl rfl rfl (by simp) ?_;have H:=Hp.aC w;have K:=E.ni;have hno:=E.no4;have hkd:=E.kd;have h2n:2^t.ni≤2^8:=Nat.pow_le_pow_right (by decide) K;refine ak (γ:=Nat × Nat) (fun (g1,g2)=>[(1,(ah g1)),(2,(ah g2)),(3,.int .i64 0)]) (fun (g1,g2) w'=>Hp w ab w' [an g2 41 (bo 0 (.slice none 0 0) (.slice none 0 0)),an g1 33 (di t.kd t.ni t.no v)] []) ?_ ?_
 ·refine H.box 33 _ (cs:=di t.kd t.ni t.no v) rfl ?_;clear H;intro g1 w1 H;refine H.alloc 41 (cs:=bo 0 (.slice none 0 0) (.slice none 0 0)) ue rfl ?_;clear H;intro g2 w2 H;exact ⟨(g1,g2),⟨rfl,rfl,rfl,trivial⟩,H⟩
 clear H;rintro ⟨g1,g2⟩ u w1 H;refine aw (fun w'=>Hp w ab w' [an g2 41 (bo 0 (.slice none 0 0) (.slice none 0 0)),an g1 33 (di t.kd t.ni t.no v)] []) ?_ ?_
 ·refine H.ai 1 rfl ft bG ?_;refine aj (Ps E v _ (Y.same H.keeps)) ?_;rintro _ w2 ⟨rfl,n⟩;replace H:=H.same n;clear n;refine af rfl ?_;exact ⟨(),trivial,H⟩
 clear H;rintro ⟨⟩ u w2 H;refine ak (γ:=Nat) (fun g4=>[(4,(ah g4))]) (fun g4 w'=>Hp w ab w' [an g4 41 (bo t.ni (.slice none 0 0) (.slice none 0 0)),own 86 4 (.slice none 0 0) 0 (flat bK []),own 86 4 (.slice none 0 0) 0 (flat bK []),an g2 41 (bo 0 (.slice none 0 0) (.slice none 0 0)),an g1 33 (di t.kd t.ni t.no v)] []) ?_ ?_
 ·refine aa (eC _ _) ?_;refine H.load 1 rfl aF rfl ?_;refine za ?_;refine H.alloc 41 (cs:=bo 0 (.slice none 0 0) (.slice none 0 0)) ue rfl ?_;clear H;intro g4 w3 H;refine H.storeAll (cs':=bo t.ni (.slice none 0 0) (.slice none 0 0)) 0 rfl bL rfl kj ?_;clear H;intro w4 H;exact ⟨g4,⟨rfl,trivial⟩,((H.bx 86 4).bx 86 4).b7 [2,0,1,3,4] (by decide) rfl⟩
 clear H;rintro g4 u w3 H;refine ak (γ:=Option Addr × Nat × Option Addr × Nat) (fun _=>[]) (fun (Bo,co,Bm,cm) w'=>cU t t.no=false∧Hp w ab w' [an g4 41 (bo t.ni (.slice Bo t.no co) (.slice Bm t.no cm)),own 86 4 (.slice Bo t.no co) t.no (flat bK (jH (my t) t.no)),own 86 4 (.slice Bm t.no cm) t.no (flat bK (jH (iv t) t.no)),an g2 41 (bo 0 (.slice none 0 0) (.slice none 0 0)),an g1 33 (di t.kd t.ni t.no v)] []) ?_ ?_
 ·refine ax (γ:=Nat × Option Addr × Nat × Option Addr × Nat) (fun (i,_)=>[(5,.int .i64 (i:Int))]) (fun (i,Bo,co,Bm,cm) w'=>(i≤t.no∧cU t i=false)∧Hp w ab w' [an g4 41 (bo t.ni (.slice Bo i co) (.slice Bm i cm)),own 86 4 (.slice Bo i co) i (flat bK (jH (my t) i)),own 86 4 (.slice Bm i cm) i (flat bK (jH (iv t) i)),an g2 41 (bo 0 (.slice none 0 0) (.slice none 0 0)),an g1 33 (di t.kd t.ni t.no v)] []) (fun (i,_)=>t.no - i) (0,none,0,none,0) ⟨rfl,trivial⟩ ⟨⟨Nat.zero_le _,rfl⟩,H⟩ ?_;clear H;rintro ⟨i,Bo,co,Bm,cm⟩ u w4 ⟨⟨hi,I⟩,H⟩;refine aa (fB _ _) ?_;refine H.load 4 rfl aF rfl ?_;refine au (fun h7=>?_) (fun h7=>?_)
  ·have J:i<t.no:=by omega
   have M:=r7 t i;rw[I,Bool.false_or] at M;refine ak (γ:=Option Addr × Nat × Option Addr × Nat) (fun _=>[]) (fun (Bo,co,Bm,cm) w'=>cU t (i+1)=false∧Hp w ab w' [an g4 41 (bo t.ni (.slice Bo (i+1) co) (.slice Bm (i+1) cm)),own 86 4 (.slice Bo (i+1) co) (i+1) (flat bK (jH (my t) (i+1))),own 86 4 (.slice Bm (i+1) cm) (i+1) (flat bK (jH (iv t) (i+1))),an g2 41 (bo 0 (.slice none 0 0) (.slice none 0 0)),an g1 33 (di t.kd t.ni t.no v)] []) ?_ ?_
   ·refine ak (γ:=Nat × Nat) (fun (B,y)=>[(6,.slice (some ⟨B,0,none⟩) 256 256),(7,.slice (some ⟨y,0,none⟩) 256 256)]) (fun (B,y) w'=>Hp w ab w' [own 4 1 (.slice (some ⟨y,0,none⟩) 256 256) 256 (ig (fV (n7 t i) 0)),own 4 1 (.slice (some ⟨B,0,none⟩) 256 256) 256 (ig (fV (nn t i) 0)),an g4 41 (bo t.ni (.slice Bo i co) (.slice Bm i cm)),own 86 4 (.slice Bo i co) i (flat bK (jH (my t) i)),own 86 4 (.slice Bm i cm) i (flat bK (jH (iv t) i)),an g2 41 (bo 0 (.slice none 0 0) (.slice none 0 0)),an g1 33 (di t.kd t.ni t.no v)] []) ?_ ?_
    ·refine ix (fun u=>Hp w ab u [an g4 41 (bo t.ni (.slice Bo i co) (.slice Bm i cm)),own 86 4 (.slice Bo i co) i (flat bK (jH (my t) i)),own 86 4 (.slice Bm i cm) i (flat bK (jH (iv t) i)),an g2 41 (bo 0 (.slice none 0 0) (.slice none 0 0)),an g1 33 (di t.kd t.ni t.no v)] []) [([0,1],[0,1,2,3]),([1,0],[1,0,2,3])] eO (by kernel_rfl) (H.same (aS.drew _)) ?_;replace H:=H.same (aS.drew _);generalize w4.drew=w5 at H;have D:∀ f,List.replicate 256 (Value.bool false)=ig (fV f 0):=fun f=>by rw[DI];exact List.map_replicate.symm
     intro z hz;simp only[List.mem_cons,List.not_mem_nil,or_false] at hz;rcases hz with rfl | rfl
     ·refine H.make Jl 256 rfl rfl (by omega) (by omega) ?_;clear H;intro B Z H;rw[nF,D (nn t i)] at H;refine ⟨.inl H.forget,?_⟩;refine H.make Jl 256 rfl rfl (by omega) (by omega) ?_;clear H;intro y w7 H;rw[nF,D (n7 t i)] at H;refine ⟨.inl H.forget.forget,?_⟩;exact ⟨(B,y),⟨rfl,rfl,trivial⟩,H⟩
     ·refine H.make Jl 256 rfl rfl (by omega) (by omega) ?_;clear H;intro y Z H;rw[nF,D (n7 t i)] at H;refine ⟨.inl H.forget,?_⟩;refine H.make Jl 256 rfl rfl (by omega) (by omega) ?_;clear H;intro B w7 H;rw[nF,D (nn t i)] at H;refine ⟨.inl H.forget.forget,?_⟩;exact ⟨(B,y),⟨rfl,rfl,trivial⟩,H.b7 [1,0,2,3,4,5,6] (by decide) rfl⟩
    clear H;rintro ⟨B,y⟩ u w5 H;refine aw (fun w'=>(∀ q,q<2^t.ni→2≤t.kd→nn t i q=true→nk t i q=false)∧Hp w ab w' [own 4 1 (.slice (some ⟨y,0,none⟩) 256 256) 256 (ig (fV (n7 t i) (2^t.ni))),own 4 1 (.slice (some ⟨B,0,none⟩) 256 256) 256 (ig (fV (nn t i) (2^t.ni))),an g4 41 (bo t.ni (.slice Bo i co) (.slice Bm i cm)),own 86 4 (.slice Bo i co) i (flat bK (jH (my t) i)),own 86 4 (.slice Bm i cm) i (flat bK (jH (iv t) i)),an g2 41 (bo 0 (.slice none 0 0) (.slice none 0 0)),an g1 33 (di t.kd t.ni t.no v)] []) ?_ ?_
    ·refine ax (γ:=Nat) (fun p=>[(8,.int .i64 (p:Int))]) (fun p w'=>(p≤2^t.ni∧∀ q,q<p→2≤t.kd→nn t i q=true→nk t i q=false)∧Hp w ab w' [own 4 1 (.slice (some ⟨y,0,none⟩) 256 256) 256 (ig (fV (n7 t i) p)),own 4 1 (.slice (some ⟨B,0,none⟩) 256 256) 256 (ig (fV (nn t i) p)),an g4 41 (bo t.ni (.slice Bo i co) (.slice Bm i cm)),own 86 4 (.slice Bo i co) i (flat bK (jH (my t) i)),own 86 4 (.slice Bm i cm) i (flat bK (jH (iv t) i)),an g2 41 (bo 0 (.slice none 0 0) (.slice none 0 0)),an g1 33 (di t.kd t.ni t.no v)] []) (fun p=>2^t.ni - p) 0 ⟨rfl,trivial⟩ ⟨⟨Nat.zero_le _,fun q hq=>absurd hq (Nat.not_lt_zero _)⟩,H⟩ ?_;clear H;rintro p u Z ⟨⟨hp,G⟩,H⟩;have hsz:=zi t.ni K;refine aa (eC _ _) ?_;refine H.load 6 rfl aF rfl ?_;refine aj (OV t.ni K _) ?_;rintro _ w7 ⟨rfl,n⟩;replace H:=H.same n;clear n;rw[hsz];refine au (fun h9=>?_) (fun h9=>?_)
     ·have hpn:p<2^t.ni:=by omega
      refine aw (fun w'=>(2≤t.kd→nn t i p=true→nk t i p=false)∧Hp w ab w' [own 4 1 (.slice (some ⟨y,0,none⟩) 256 256) 256 (ig (fV (n7 t i) (p+1))),own 4 1 (.slice (some ⟨B,0,none⟩) 256 256) 256 (ig (fV (nn t i) (p+1))),an g4 41 (bo t.ni (.slice Bo i co) (.slice Bm i cm)),own 86 4 (.slice Bo i co) i (flat bK (jH (my t) i)),own 86 4 (.slice Bm i cm) i (flat bK (jH (iv t) i)),an g2 41 (bo 0 (.slice none 0 0) (.slice none 0 0)),an g1 33 (di t.kd t.ni t.no v)] []) ?_ ?_
      ·refine ak (γ:=Unit) (fun _=>[(9,.bool (nn t i p)),(10,.bool (nk t i p)),(11,.bool (Bh t i p))]) (fun _ w'=>Hp w ab w' [own 4 1 (.slice (some ⟨y,0,none⟩) 256 256) 256 (ig (fV (n7 t i) p)),own 4 1 (.slice (some ⟨B,0,none⟩) 256 256) 256 (ig (fV (nn t i) p)),an g4 41 (bo t.ni (.slice Bo i co) (.slice Bm i cm)),own 86 4 (.slice Bo i co) i (flat bK (jH (my t) i)),own 86 4 (.slice Bm i cm) i (flat bK (jH (iv t) i)),an g2 41 (bo 0 (.slice none 0 0) (.slice none 0 0)),an g1 33 (di t.kd t.ni t.no v)] []) ?_ ?_
       ·refine H.draw eO (by kernel_rfl) ?_;clear H;intro w8 H;refine quiet _ (fun w H=>H.ai 6 rfl ft bG ae) ?_;refine aj (OC E p i 1 (by omega) J v _ (Y.same H.keeps)) ?_;rintro _ w9a ⟨rfl,n⟩;replace H:=H.same n;clear n;refine ⟨.inl H,?_⟩;refine quiet _ (fun w H=>H.ai 6 rfl ft bG ae) ?_;refine aj (OC E p i 0 (by omega) J v _ (Y.same H.keeps)) ?_;rintro _ w9b ⟨rfl,n⟩;replace H:=H.same n;clear n;refine ⟨.inl H,?_⟩;refine quiet _ (fun w H=>H.ai 6 rfl ft bG ae) ?_;refine aj (OC E p i 2 (by omega) J v _ (Y.same H.keeps)) ?_;rintro _ w9c ⟨rfl,n⟩;replace H:=H.same n;clear n;refine ⟨.inl H,?_⟩;exact ⟨(),⟨rfl,rfl,rfl,trivial⟩,H⟩
       clear H;rintro ⟨⟩ u w8 H;have U:2≤t.kd→nn t i p=true→nk t i p=true→cU t t.no=true:=fun a b c=>vQ J ((rA E i).2 ⟨a,p,hpn,b,c⟩);refine aw (fun w'=>(2≤t.kd→nn t i p=true→nk t i p=false)∧Hp w ab w' [own 4 1 (.slice (some ⟨y,0,none⟩) 256 256) 256 (ig (fV (n7 t i) p)),own 4 1 (.slice (some ⟨B,0,none⟩) 256 256) 256 (ig (fV (nn t i) p)),an g4 41 (bo t.ni (.slice Bo i co) (.slice Bm i cm)),own 86 4 (.slice Bo i co) i (flat bK (jH (my t) i)),own 86 4 (.slice Bm i cm) i (flat bK (jH (iv t) i)),an g2 41 (bo 0 (.slice none 0 0) (.slice none 0 0)),an g1 33 (di t.kd t.ni t.no v)] []) ?_ ?_
       ·refine aa (eB _ _) ?_;refine H.load 6 rfl aF rfl ?_;by_cases C:2≤t.kd
        ·cases h1:nn t i p <;> cases h0:nk t i p
         ·iterate 2 refine ag (decide_eq_true (by omega)) ?_
          iterate 3 refine af rfl ?_
          exact ⟨(),trivial,fun _ _=>rfl,H⟩
         ·iterate 2 refine ag (decide_eq_true (by omega)) ?_
          iterate 3 refine af rfl ?_
          exact ⟨(),trivial,(fun _ b=>by cases b),H⟩
         ·iterate 2 refine ag (decide_eq_true (by omega)) ?_
          iterate 2 refine ag rfl ?_
          refine af rfl ?_;exact ⟨(),trivial,fun _ _=>rfl,H⟩
         ·iterate 2 refine ag (decide_eq_true (by omega)) ?_
          iterate 3 refine ag rfl ?_
          refine y_ ?_;refine H.storeAll 5 rfl bL rfl kj ?_;clear H;intro l H;refine H.ai 5 rfl dw bL ?_;refine ⟨rfl,?_⟩;exact .inl ⟨U C h1 h0,rfl,H.keeps⟩
        ·iterate 2 refine af (decide_eq_false (by omega)) ?_
         iterate 3 refine af rfl ?_
         exact ⟨(),trivial,fun a=>absurd a C,H⟩
       clear H;rintro ⟨⟩ u w9 ⟨m,H⟩;refine aw (fun w'=>Hp w ab w' [own 4 1 (.slice (some ⟨y,0,none⟩) 256 256) 256 (ig (fV (n7 t i) p)),own 4 1 (.slice (some ⟨B,0,none⟩) 256 256) 256 (ig (fV (nn t i) (p+1))),an g4 41 (bo t.ni (.slice Bo i co) (.slice Bm i cm)),own 86 4 (.slice Bo i co) i (flat bK (jH (my t) i)),own 86 4 (.slice Bm i cm) i (flat bK (jH (iv t) i)),an g2 41 (bo 0 (.slice none 0 0) (.slice none 0 0)),an g1 33 (di t.kd t.ni t.no v)] []) ?_ ?_
       ·refine ao underlying37 (s:=1) (by kernel_rfl) p rfl (by omega) (o':=p) (by omega) ?_;refine H.dc 1 rfl iN (by rw[ig,List.length_map,b6];omega) rfl ?_;clear H;intro V H;exact ⟨(),trivial,by rw[← zn (f:=nn t i) (k:=p) rfl];exact H⟩
       clear H;rintro ⟨⟩ u V H;have g:∀ {b:Bool} {w':World},n7 t i p=b→Hp w ab w' [own 4 1 (.slice (some ⟨y,0,none⟩) 256 256) 256 ((ig (fV (n7 t i) p)).set p (.bool b)),own 4 1 (.slice (some ⟨B,0,none⟩) 256 256) 256 (ig (fV (nn t i) (p+1))),an g4 41 (bo t.ni (.slice Bo i co) (.slice Bm i cm)),own 86 4 (.slice Bo i co) i (flat bK (jH (my t) i)),own 86 4 (.slice Bm i cm) i (flat bK (jH (iv t) i)),an g2 41 (bo 0 (.slice none 0 0) (.slice none 0 0)),an g1 33 (di t.kd t.ni t.no v)] []→Hp w ab w' [own 4 1 (.slice (some ⟨y,0,none⟩) 256 256) 256 (ig (fV (n7 t i) (p+1))),own 4 1 (.slice (some ⟨B,0,none⟩) 256 256) 256 (ig (fV (nn t i) (p+1))),an g4 41 (bo t.ni (.slice Bo i co) (.slice Bm i cm)),own 86 4 (.slice Bo i co) i (flat bK (jH (my t) i)),own 86 4 (.slice Bm i cm) i (flat bK (jH (iv t) i)),an g2 41 (bo 0 (.slice none 0 0) (.slice none 0 0)),an g1 33 (di t.kd t.ni t.no v)] []:=fun h H=>by rw[← zn h];exact H
       have j:n7 t i p=(nn t i p||decide (t.kd=1)&&Bh t i p||decide (2≤t.kd)&& !nk t i p):=rfl;by_cases O:t.kd=1
       ·have C:¬ 2≤t.kd:=by omega
        rw[decide_eq_true O,decide_eq_false C] at j
        cases h1:nn t i p <;> cases h0:nk t i p <;> cases h2:Bh t i p <;> rw[h1,h0,h2] at j
        all_goals skip
        ·refine af rfl ?_;refine aa (eB _ _) ?_;refine af rfl ?_;refine H.load 6 rfl aF rfl ?_
         iterate 2 refine af rfl ?_
         refine ag (beq_iff_eq.2 (by omega)) ?_;refine af rfl ?_;refine ag (beq_iff_eq.2 (by omega)) ?_
         iterate 2 refine af rfl ?_
         refine aa (eB _ _) ?_;refine af rfl ?_;refine H.load 6 rfl aF rfl ?_
         iterate 2 refine af rfl ?_
         iterate 2 refine af (decide_eq_false (by omega)) ?_
         refine af rfl ?_;refine af (decide_eq_false (by omega)) ?_;refine af rfl ?_;refine ao underlying37 (s:=1) (by kernel_rfl) p rfl (by omega) (o':=p) (by omega) ?_;refine H.dc 0 rfl iN (by rw[ig,List.length_map,b6];omega) rfl ?_;clear H;intro l H;exact ⟨(),trivial,by have h:=m;rw[h1,h0] at h;exact h,g j H⟩
        ·refine af rfl ?_;refine aa (eB _ _) ?_;refine af rfl ?_;refine H.load 6 rfl aF rfl ?_
         iterate 2 refine af rfl ?_
         refine ag (beq_iff_eq.2 (by omega)) ?_;refine af rfl ?_;refine ag (beq_iff_eq.2 (by omega)) ?_;refine af rfl ?_
         iterate 6 refine ag rfl ?_
         refine ao underlying37 (s:=1) (by kernel_rfl) p rfl (by omega) (o':=p) (by omega) ?_;refine H.dc 0 rfl iN (by rw[ig,List.length_map,b6];omega) rfl ?_;clear H;intro l H;exact ⟨(),trivial,by have h:=m;rw[h1,h0] at h;exact h,g j H⟩
        ·refine af rfl ?_;refine aa (eB _ _) ?_;refine af rfl ?_;refine H.load 6 rfl aF rfl ?_
         iterate 2 refine af rfl ?_
         refine ag (beq_iff_eq.2 (by omega)) ?_;refine af rfl ?_;refine ag (beq_iff_eq.2 (by omega)) ?_
         iterate 2 refine af rfl ?_
         refine aa (eB _ _) ?_;refine af rfl ?_;refine H.load 6 rfl aF rfl ?_
         iterate 2 refine af rfl ?_
         iterate 2 refine af (decide_eq_false (by omega)) ?_
         refine af rfl ?_;refine af (decide_eq_false (by omega)) ?_;refine af rfl ?_;refine ao underlying37 (s:=1) (by kernel_rfl) p rfl (by omega) (o':=p) (by omega) ?_;refine H.dc 0 rfl iN (by rw[ig,List.length_map,b6];omega) rfl ?_;clear H;intro l H;exact ⟨(),trivial,by have h:=m;rw[h1,h0] at h;exact h,g j H⟩
        ·refine af rfl ?_;refine aa (eB _ _) ?_;refine af rfl ?_;refine H.load 6 rfl aF rfl ?_
         iterate 2 refine af rfl ?_
         refine ag (beq_iff_eq.2 (by omega)) ?_;refine af rfl ?_;refine ag (beq_iff_eq.2 (by omega)) ?_;refine af rfl ?_
         iterate 6 refine ag rfl ?_
         refine ao underlying37 (s:=1) (by kernel_rfl) p rfl (by omega) (o':=p) (by omega) ?_;refine H.dc 0 rfl iN (by rw[ig,List.length_map,b6];omega) rfl ?_;clear H;intro l H;exact ⟨(),trivial,by have h:=m;rw[h1,h0] at h;exact h,g j H⟩
        ·iterate 12 refine ag rfl ?_
         refine ao underlying37 (s:=1) (by kernel_rfl) p rfl (by omega) (o':=p) (by omega) ?_;refine H.dc 0 rfl iN (by rw[ig,List.length_map,b6];omega) rfl ?_;clear H;intro l H;exact ⟨(),trivial,by have h:=m;rw[h1,h0] at h;exact h,g j H⟩
        ·iterate 12 refine ag rfl ?_
         refine ao underlying37 (s:=1) (by kernel_rfl) p rfl (by omega) (o':=p) (by omega) ?_;refine H.dc 0 rfl iN (by rw[ig,List.length_map,b6];omega) rfl ?_;clear H;intro l H;exact ⟨(),trivial,by have h:=m;rw[h1,h0] at h;exact h,g j H⟩
        ·iterate 12 refine ag rfl ?_
         refine ao underlying37 (s:=1) (by kernel_rfl) p rfl (by omega) (o':=p) (by omega) ?_;refine H.dc 0 rfl iN (by rw[ig,List.length_map,b6];omega) rfl ?_;clear H;intro l H;exact ⟨(),trivial,by have h:=m;rw[h1,h0] at h;exact h,g j H⟩
        ·iterate 12 refine ag rfl ?_
         refine ao underlying37 (s:=1) (by kernel_rfl) p rfl (by omega) (o':=p) (by omega) ?_;refine H.dc 0 rfl iN (by rw[ig,List.length_map,b6];omega) rfl ?_;clear H;intro l H;exact ⟨(),trivial,by have h:=m;rw[h1,h0] at h;exact h,g j H⟩
       ·by_cases C:2≤t.kd
        ·rw[decide_eq_false O,decide_eq_true C] at j
         cases h1:nn t i p <;> cases h0:nk t i p <;> rw[h1,h0] at j
         all_goals skip
         ·refine af rfl ?_;refine aa (eB _ _) ?_;refine af rfl ?_;refine H.load 6 rfl aF rfl ?_
          iterate 2 refine af rfl ?_
          refine af (beq_eq_false_iff_ne.2 (by omega)) ?_;refine af rfl ?_;refine af (beq_eq_false_iff_ne.2 (by omega)) ?_
          iterate 2 refine af rfl ?_
          refine aa (eB _ _) ?_;refine af rfl ?_;refine H.load 6 rfl aF rfl ?_
          iterate 2 refine af rfl ?_
          iterate 2 refine ag (decide_eq_true (by omega)) ?_
          refine af rfl ?_;refine ag (decide_eq_true (by omega)) ?_;refine af rfl ?_;refine ao underlying37 (s:=1) (by kernel_rfl) p rfl (by omega) (o':=p) (by omega) ?_;refine H.dc 0 rfl iN (by rw[ig,List.length_map,b6];omega) rfl ?_;clear H;intro l H;exact ⟨(),trivial,by have h:=m;rw[h1,h0] at h;exact h,g j H⟩
         ·refine af rfl ?_;refine aa (eB _ _) ?_;refine af rfl ?_;refine H.load 6 rfl aF rfl ?_
          iterate 2 refine af rfl ?_
          refine af (beq_eq_false_iff_ne.2 (by omega)) ?_;refine af rfl ?_;refine af (beq_eq_false_iff_ne.2 (by omega)) ?_
          iterate 2 refine af rfl ?_
          refine aa (eB _ _) ?_;refine af rfl ?_;refine H.load 6 rfl aF rfl ?_
          iterate 2 refine af rfl ?_
          iterate 2 refine ag (decide_eq_true (by omega)) ?_
          refine af rfl ?_;refine ag (decide_eq_true (by omega)) ?_;refine af rfl ?_;refine ao underlying37 (s:=1) (by kernel_rfl) p rfl (by omega) (o':=p) (by omega) ?_;refine H.dc 0 rfl iN (by rw[ig,List.length_map,b6];omega) rfl ?_;clear H;intro l H;exact ⟨(),trivial,by have h:=m;rw[h1,h0] at h;exact h,g j H⟩
         ·iterate 12 refine ag rfl ?_
          refine ao underlying37 (s:=1) (by kernel_rfl) p rfl (by omega) (o':=p) (by omega) ?_;refine H.dc 0 rfl iN (by rw[ig,List.length_map,b6];omega) rfl ?_;clear H;intro l H;exact ⟨(),trivial,by have h:=m;rw[h1,h0] at h;exact h,g j H⟩
         ·iterate 12 refine ag rfl ?_
          refine ao underlying37 (s:=1) (by kernel_rfl) p rfl (by omega) (o':=p) (by omega) ?_;refine H.dc 0 rfl iN (by rw[ig,List.length_map,b6];omega) rfl ?_;clear H;intro l H;exact ⟨(),trivial,by have h:=m;rw[h1,h0] at h;exact h,g j H⟩
        ·rw[decide_eq_false O,decide_eq_false C] at j
         cases h1:nn t i p <;> rw[h1] at j
         all_goals skip
         ·refine af rfl ?_;refine aa (eB _ _) ?_;refine af rfl ?_;refine H.load 6 rfl aF rfl ?_
          iterate 2 refine af rfl ?_
          refine af (beq_eq_false_iff_ne.2 (by omega)) ?_;refine af rfl ?_;refine af (beq_eq_false_iff_ne.2 (by omega)) ?_
          iterate 2 refine af rfl ?_
          refine aa (eB _ _) ?_;refine af rfl ?_;refine H.load 6 rfl aF rfl ?_
          iterate 2 refine af rfl ?_
          iterate 2 refine af (decide_eq_false (by omega)) ?_
          refine af rfl ?_;refine af (decide_eq_false (by omega)) ?_;refine af rfl ?_;refine ao underlying37 (s:=1) (by kernel_rfl) p rfl (by omega) (o':=p) (by omega) ?_;refine H.dc 0 rfl iN (by rw[ig,List.length_map,b6];omega) rfl ?_;clear H;intro l H;exact ⟨(),trivial,by have h:=m;rw[h1] at h;exact h,g j H⟩
         ·iterate 12 refine ag rfl ?_
          refine ao underlying37 (s:=1) (by kernel_rfl) p rfl (by omega) (o':=p) (by omega) ?_;refine H.dc 0 rfl iN (by rw[ig,List.length_map,b6];omega) rfl ?_;clear H;intro l H;exact ⟨(),trivial,by have h:=m;rw[h1] at h;exact h,g j H⟩
      ·clear H;rintro ⟨⟩ u w7 ⟨m,H⟩;exact ⟨p+1,by show 2^t.ni - (p+1)<2^t.ni - p;omega,⟨up (by omega),trivial⟩,⟨by show p+1≤2^t.ni;omega,fun q hq=>by
        by_cases e:q=p
        ·subst e;exact m
        ·exact G q (by omega)⟩,H⟩
     ·obtain rfl:p=2^t.ni:=by omega
      exact ⟨(),trivial,G,H⟩
    clear H;rintro ⟨⟩ u Z ⟨G,H⟩;have hcb:kZ t i=false:=by
     rw[Bool.eq_false_iff];intro h;obtain ⟨a,p,b,c,d⟩:=(rA E i).1 h;rw[G p b a c] at d
     cases d
    rw[hcb] at M;have e1:flat bK (jH (my t) (i+1))=flat bK (jH (my t) i)++bK (my t i):=by rw[nX];exact de ..
    have e2:flat bK (jH (iv t) (i+1))=flat bK (jH (iv t) i)++bK (iv t i):=by rw[nX];exact de ..
    have f1:=fun A c u h=>c37 (fV (nn t i) (2^t.ni)) (b6 _ _) A c u h;have f2:=fun A c u h=>c37 (fV (n7 t i) (2^t.ni)) (b6 _ _) A c u h;rw[Np E] at f1;rw[Lb E i G] at f2;refine ak (γ:=Option Addr × Nat) (fun _=>[]) (fun (o,x) w'=>Hp w ab w' [own 4 1 (.slice (some ⟨y,0,none⟩) 256 256) 256 (ig (fV (n7 t i) (2^t.ni))),an g4 41 (bo t.ni (.slice o (i+1) x) (.slice Bm i cm)),own 86 4 (.slice o (i+1) x) (i+1) (flat bK (jH (my t) (i+1))),own 86 4 (.slice Bm i cm) i (flat bK (jH (iv t) i)),an g2 41 (bo 0 (.slice none 0 0) (.slice none 0 0)),an g1 33 (di t.kd t.ni t.no v)] []) ?_ ?_
    ·refine H.fp [an g4 41 (bo t.ni (.slice Bo i co) (.slice Bm i cm))] (fun u H=>H.b7 [2] (by decide) rfl) eO (by kernel_rfl) ?_;clear H;intro w8 H;refine quiet _ (fun w H=>aa (fR _) ae) ?_;refine quiet _ (fun w H=>H.load 0 rfl dS rfl ae) ?_;refine aj (f1 _ _ _ (bB (H.get 1 rfl))) ?_;rintro _ w9 ⟨rfl,n⟩;replace H:=H.same n;clear n;refine ⟨.inl (H.b7 [2] (by decide) rfl),?_⟩;refine H.bf Gv (cs:=sc (my t i)) (by decide) (by decide) (by kernel_rfl) ?_;clear H;intro gx w11 H;refine ⟨.inl (H.b7 [3] (by decide) rfl),?_⟩;refine H.aG 4 0 Gv rfl rfl rfl (fx _) (by omega) (by omega) ?_;clear H;intro o x l H;replace H:=H.forget;refine ⟨.inl (H.b7 [2] (by decide) rfl),?_⟩;refine quiet _ (fun w H=>aa (fR _) ae) ?_;refine H.store 2 rfl tH (Nat.le_of_ble_eq_true rfl) rfl ?_;clear H;intro w16 H;refine ⟨.inr (by kernel_rfl),?_⟩;refine ⟨(o,x),trivial,?_⟩;rw[e1];exact H.b7 [0,2,3,4,5,6] (by decide) rfl
    clear H;rintro ⟨o,x⟩ u w7 H;refine H.fp [an g4 41 (bo t.ni (.slice o (i+1) x) (.slice Bm i cm))] (fun u H=>H.b7 [1] (by decide) rfl) eO (by kernel_rfl) ?_;clear H;intro w8 H;refine quiet _ (fun w H=>aa (fS _) ae) ?_;refine quiet _ (fun w H=>H.load 0 rfl dS rfl ae) ?_;refine aj (f2 _ _ _ (bB (H.get 0 rfl))) ?_;rintro _ w9 ⟨rfl,n⟩;replace H:=H.same n;clear n;refine ⟨.inl (H.b7 [1] (by decide) rfl),?_⟩;refine H.bf Gv (cs:=sc (iv t i)) (by decide) (by decide) (by kernel_rfl) ?_;clear H;intro gx w11 H;refine ⟨.inl (H.b7 [2] (by decide) rfl),?_⟩;refine H.aG 4 0 Gv rfl rfl rfl (fx _) (by omega) (by omega) ?_;clear H;intro Q T l H;replace H:=H.forget;refine ⟨.inl (H.b7 [1] (by decide) rfl),?_⟩;refine quiet _ (fun w H=>aa (fS _) ae) ?_;refine H.store 1 rfl tH (Nat.le_of_ble_eq_true rfl) rfl ?_;clear H;intro w16 H;refine ⟨.inr (by kernel_rfl),?_⟩;refine ⟨(o,x,Q,T),trivial,M,?_⟩;rw[e2];exact H.b7 [1,2,3,4,5] (by decide) rfl
   clear H;rintro ⟨o,x,Q,T⟩ u V ⟨X,H⟩;exact ⟨(i+1,o,x,Q,T),by show t.no - (i+1)<t.no - i;omega,⟨up (by omega),trivial⟩,⟨by show i+1≤t.no;omega,X⟩,H⟩
  ·obtain rfl:i=t.no:=by omega
   exact ⟨(Bo,co,Bm,cm),trivial,I,H⟩
 clear H;rintro ⟨Bo,co,Bm,cm⟩ u Z ⟨I,H⟩;refine H.ai 0 rfl dw bL ?_;refine H.storeAll 3 rfl bL rfl kj ?_;clear H;intro w8 H;refine H.ai 3 rfl dw bL ?_;exact ⟨rfl,.inr ⟨I,Bo,co,Bm,cm,rfl,Cd (S:=fm t) (H.b7 [1,2] (by decide) rfl) (eD _ _).symm (eD _ _).symm⟩⟩
theorem Bi {P:Program}{a:Value}{args:List Value}{w:World}{k k':Value→World→Prop}(h:jL P a args w k)(b:∀ v w',k v w'→k' v w'):jL P a args w k':=by
 unfold jL at h ⊢;split at h
 ·exact h.mono b
 ·exact h.elim
theorem Nr:cP prog 1=some false:=by kernel_rfl
theorem Lc:bE prog 1=some 1:=by kernel_rfl
theorem il:cP prog 26=some false:=by kernel_rfl
theorem Bj (i:Nat)(hi:i<7)(g:Nat)(w:World):(Instr.fieldAt 60 (ah g) i).run prog w=.ok (.pointer (some ⟨g,[0,4,8,11,15,19,20].getD i 0,none⟩)) w:=by
 rcases (by omega:i=0∨i=1∨i=2∨i=3∨i=4∨i=5∨i=6) with rfl | rfl | rfl | rfl | rfl | rfl | rfl <;> kernel_rfl
theorem Bk (g:Nat)(w:World):(Instr.fieldAt 60 (ah g) 0).run prog w=.ok (ah g) w:=Bj 0 (by decide) g w
theorem Bn (g:Nat)(w:World):(Instr.fieldAt 60 (ah g) 1).run prog w=.ok (.pointer (some ⟨g,4,none⟩)) w:=Bj 1 (by decide) g w
theorem xB (g:Nat)(w:World):(Instr.fieldAt 60 (ah g) 2).run prog w=.ok (.pointer (some ⟨g,8,none⟩)) w:=Bj 2 (by decide) g w
theorem uB (g:Nat)(w:World):(Instr.fieldAt 60 (ah g) 3).run prog w=.ok (.pointer (some ⟨g,11,none⟩)) w:=Bj 3 (by decide) g w
theorem uC (g:Nat)(w:World):(Instr.fieldAt 60 (ah g) 4).run prog w=.ok (.pointer (some ⟨g,15,none⟩)) w:=Bj 4 (by decide) g w
theorem Bp (g:Nat)(w:World):(Instr.fieldAt 60 (ah g) 5).run prog w=.ok (.pointer (some ⟨g,19,none⟩)) w:=Bj 5 (by decide) g w
theorem k_ (g:Nat)(w:World):(Instr.fieldAt 60 (ah g) 6).run prog w=.ok (.pointer (some ⟨g,20,none⟩)) w:=Bj 6 (by decide) g w
theorem Ns:enters prog 19=true:=by kernel_rfl
theorem Pt {I:Nat→World→Prop}{Bad:World→Prop}(j:Nat→FuncId)(k:Nat→Array Value)(n f gs:Nat)(t:n≤100)(w:World)(a:I 0 w)(l:∀ i w',i<n→I i w'→w'.cell? ⟨gs,i,none⟩=some (.func (.func (j i)) #[] (k i)))(c:∀ i w',i<n→I i w'→jL prog (.func (.func (j i)) #[] (k i)) [] w' fun _ b=>(I (i+1) b∧b.cell? ⟨f,20,none⟩=some (.int .i64 0))∨(Bad b∧∃ e:Int,e≠0∧b.cell? ⟨f,20,none⟩=some (.int .i64 e))) :
  bw prog 19 [(ah f),.slice (some ⟨gs,0,none⟩) n n] w fun r w'=>(r=.bool true∧I n w')∨(r=.bool false∧Bad w'):=by
 refine ar (N:=21) func19 Ns rfl rfl rfl (by simp) ?_;refine ak (γ:=Unit) (fun _=>[(4,.bool false)]) (fun _ w'=>I 0 w') ⟨(),⟨rfl,trivial⟩,a⟩ ?_;clear a;rintro ⟨⟩ u x a;refine aw (fun w'=>I n w') ?_ ?_
 ·refine ay (by kernel_rfl:Tryz.prog.underlying 97=some (.slice 1)) ?_;refine ax (γ:=Nat) (fun i=>[(9,.int .i64 (i:Int))]) (fun i w'=>i≤n∧I i w') (fun i=>n - i) 0 ⟨rfl,trivial⟩ ⟨Nat.zero_le _,a⟩ ?_;clear a;rintro i u o ⟨hi,a⟩;refine au (fun g=>?_) (fun g=>?_)
  ·have d:i<n:=by have g:(i:Int)<(n:Int):=g;omega
   refine aw (fun w'=>I (i+1) w') ?_ ?_
   ·refine ak (γ:=Unit) (fun _=>[(6,.func (.func (j i)) #[] (k i))]) (fun _ w'=>I i w') ?_ ?_
    ·refine ao (by kernel_rfl:Tryz.prog.underlying 97=some (.slice 1)) Lc i rfl d (o':=i) (by omega) ?_;refine aB Nr (l i _ d a) ?_;exact ⟨(),⟨rfl,trivial⟩,a⟩
    clear a;rintro ⟨⟩ u p a;refine aw (fun w'=>(I (i+1) w'∧w'.cell? ⟨f,20,none⟩=some (.int .i64 0))∨(Bad w'∧∃ e:Int,e≠0∧w'.cell? ⟨f,20,none⟩=some (.int .i64 e))) ?_ ?_
    ·refine Bi (c i _ d a) ?_;intro v q h;exact ⟨(),trivial,h⟩
    clear a;rintro ⟨⟩ u q (⟨a,m⟩ | ⟨s,e,he,m⟩)
    ·refine aa (k_ _) ?_;refine aB il m ?_;refine af rfl ?_;exact ⟨(),trivial,a⟩
    ·refine aa (k_ _) ?_;refine aB il m ?_;refine ag (bne_iff_ne.2 he) ?_;exact .inr ⟨rfl,s⟩
   ·clear a;rintro ⟨⟩ u p a;exact ⟨i+1,by show n - (i+1)<n - i;omega,⟨up (by omega),trivial⟩,by show i+1≤n;omega,a⟩
  ·obtain rfl:i=n:=by have g:¬ (i:Int)<(n:Int):=g;omega
   exact ⟨(),trivial,a⟩
 clear a;rintro ⟨⟩ u o a;exact .inl ⟨rfl,a⟩
def rB (kd ni no:Int)(v:Value)(a b c:Int)(f:Value)(g:Int)(h sm i:Value)(st d j:Int)(k:List UInt8)(l m n ln e:Int):Array Value:=
 #[.int .i64 kd,.int .i64 ni,.int .i64 no,v,.int .i64 a,.int .i64 b,.int .i64 c,f,.int .i64 g,h,sm,i,.int .i64 st,.int .i64 d,.int .i64 j,aU k,.int .i64 l,.int .i64 m,.int .i64 n,.int .i64 ln,.int .i64 e]
abbrev ko:Value:=.slice none 0 0
def IZ:Array Value:=rB 0 0 0 ko 0 0 0 ko 0 ko ko ko 0 0 0 [] 0 0 0 0 0
theorem Ii {k:Value→World→Prop}{w:World}(h:k (.agg IZ) w):b8 prog 60 [] w k:=bt (fun w=>by kernel_rfl) h
theorem Ld:eL prog 56=some (.pointer none):=by kernel_rfl
theorem Le:bE prog 56=some 1:=by kernel_rfl
theorem gK:cP prog 56=some false:=by kernel_rfl
def la (a:List UInt8)(b c d:Int):Array Value:=#[aU a,.int .i64 b,.int .i64 c,.int .i64 d]
theorem uD:eL prog 28=some (.agg (la [] 0 0 0)):=by kernel_rfl
theorem mZ:bE prog 28=some 4:=by kernel_rfl
theorem Gf:cP prog 28=some true:=by kernel_rfl
theorem Pu:qI prog 97 1 .nilFunc 1 8:=⟨by kernel_rfl,by kernel_rfl,rfl,by decide⟩
theorem Gg (g o:Nat)(w:World):(Instr.fieldAt 28 (.pointer (some ⟨g,o,none⟩)) 0).run prog w=.ok (.pointer (some ⟨g,o,none⟩)) w:=by kernel_rfl
theorem pL (g o:Nat)(w:World):(Instr.fieldAt 28 (.pointer (some ⟨g,o,none⟩)) 1).run prog w=.ok (.pointer (some ⟨g,o+1,none⟩)) w:=by kernel_rfl
theorem uE (g o:Nat)(w:World):(Instr.fieldAt 28 (.pointer (some ⟨g,o,none⟩)) 2).run prog w=.ok (.pointer (some ⟨g,o+2,none⟩)) w:=by kernel_rfl
theorem rC (g o:Nat)(w:World):(Instr.fieldAt 28 (.pointer (some ⟨g,o,none⟩)) 3).run prog w=.ok (.pointer (some ⟨g,o+3,none⟩)) w:=by kernel_rfl
theorem Ck (g o:Nat)(w:World):(Instr.fieldAt 58 (.pointer (some ⟨g,o,none⟩)) 0).run prog w=.ok (.pointer (some ⟨g,o,none⟩)) w:=by kernel_rfl
theorem Ij (g o:Nat)(w:World):(Instr.fieldAt 58 (.pointer (some ⟨g,o,none⟩)) 1).run prog w=.ok (.pointer (some ⟨g,o+1,none⟩)) w:=by kernel_rfl
theorem Ik (g o:Nat)(w:World):(Instr.fieldAt 58 (.pointer (some ⟨g,o,none⟩)) 2).run prog w=.ok (.pointer (some ⟨g,o+2,none⟩)) w:=by kernel_rfl
theorem Nt:enters prog 20=true:=by kernel_rfl
set_option maxHeartbeats 1000000 in
theorem c20 {w0 w:World}{L M:List cH}(text:List UInt8)(f:text.length≤100000)(a g7 g2:Nat)(H:Hp w0 ab w (an a 60 IZ::an g7 56 #[(ah a)]::an g2 9 #[aU text]::L) (oK::M)) :
  bw prog 20 ([]++[(ah g2),(ah g7)]) w fun _ w'=>
   (∃ s v S,cu text=.ok s∧Hp w0 ab w' (ki S v s.ls::an a 60 (rB s.kd s.ni s.no v 0 0 0 ko 0 ko ko ko 0 0 0 [] 0 0 0 0 0)::an g7 56 #[(ah a)]::an g2 9 #[aU text]::L) (oK::M))∨
   (∃ (i:Nat) (e:Int),cu text=.error (i,e)∧e≠0∧Hp w0 ab w' (an a 60 (rB 0 0 0 ko 0 0 0 ko 0 ko ko ko 0 0 0 [] 0 0 0 i e)::an g7 56 #[(ah a)]::an g2 9 #[aU text]::L) (oK::M)):=by
 refine ar (N:=17) func20 Nt rfl rfl rfl (by simp) ?_;refine H.fp [an g7 56 #[(ah a)],an g2 9 #[aU text]] (fun u H=>H.b7 [1,2] (by decide) rfl) eO (by kernel_rfl) ?_;clear H;intro l H;refine quiet _ (fun w H=>H.load 0 rfl gK rfl ae) ?_;refine quiet _ (fun w H=>H.load 0 rfl gK rfl ae) ?_;refine quiet _ (fun w H=>H.load 0 rfl gK rfl ae) ?_;refine quiet _ (fun w H=>H.load 1 rfl wy rfl ae) ?_;refine aj (c21 text f _ (H.ro 0 rfl)) ?_;rintro _ m (⟨i,e,b,rfl,he,d⟩ | ⟨s,v,S,b,rfl,g⟩)
 ·replace H:=H.same d;clear d;refine ⟨.inl (H.b7 [1,2] (by decide) rfl),?_⟩;refine quiet _ (fun w H=>aa (Bk _) ae) ?_;refine H.fK (cs2:=IZ) 0 rfl bG (Nat.le_of_ble_eq_true rfl) dz rfl ?_;clear H;intro h H;refine ⟨.inl (H.b7 [1,2] (by decide) rfl),?_⟩;refine quiet _ (fun w H=>aa (Bp _) ae) ?_;refine H.store 0 rfl bc (Nat.le_of_ble_eq_true rfl) rfl ?_;clear H;intro j H;refine ⟨.inl (H.b7 [1,2] (by decide) rfl),?_⟩;refine quiet _ (fun w H=>aa (k_ _) ae) ?_;refine H.store 0 rfl jG (Nat.le_of_ble_eq_true rfl) rfl ?_;clear H;intro k H;refine ⟨.inl (H.b7 [1,2] (by decide) rfl),?_⟩;exact .inr ⟨i,e,b,he,H⟩
 ·replace H:=H.bq g;obtain ⟨B,c,hs,rfl,_⟩:=H.get 0 rfl;refine ⟨.inl (H.b7 [2,3] (by decide) rfl),?_⟩;refine quiet _ (fun w H=>aa (Bk _) ae) ?_;refine H.fK (cs2:=rB s.kd s.ni s.no (.slice B s.ls.length c) 0 0 0 ko 0 ko ko ko 0 0 0 [] 0 0 0 0 0) 1 rfl bG (Nat.le_of_ble_eq_true rfl) dz rfl ?_;clear H;intro h H;refine ⟨.inl (H.b7 [2,3] (by decide) rfl),?_⟩;refine quiet _ (fun w H=>aa (Bp _) ae) ?_;refine H.store 1 rfl bc (Nat.le_of_ble_eq_true rfl) rfl ?_;clear H;intro j H;refine ⟨.inl (H.b7 [2,3] (by decide) rfl),?_⟩;refine quiet _ (fun w H=>aa (k_ _) ae) ?_;refine H.store 1 rfl jG (Nat.le_of_ble_eq_true rfl) rfl ?_;clear H;intro k H;refine ⟨.inl (H.b7 [2,3] (by decide) rfl),?_⟩;exact .inl ⟨s,.slice B s.ls.length c,S,b,H⟩
end Go.Proofs.YtpjihhgjbbihkaaGreatDoor
