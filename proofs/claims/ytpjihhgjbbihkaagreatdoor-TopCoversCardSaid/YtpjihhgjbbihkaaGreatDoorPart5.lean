import Derived.Test.YtpjihhgjbbihkaaGreatDoorPart4
namespace Go.Proofs.YtpjihhgjbbihkaaGreatDoor
open Go.Proofs.Tryz
open Go.Dk
set_option maxRecDepth 100000
attribute [local irreducible] IntKind.wrap
def LI:Array Value:=#[pK 79,.bool false,pK 80,.bool false,pK 77,.bool true,pK 77,.bool true]
theorem Lg:cW prog 108=some true:=by kernel_rfl
theorem Cf:bF prog 108=some 8:=by kernel_rfl
theorem Ii:eU prog 108=some (.agg #[.nilFunc,.bool false,.nilFunc,.bool false,.nilFunc,.bool false,.nilFunc,.bool false]):=by kernel_rfl
theorem Cg:bF prog 107=some 2:=by kernel_rfl
theorem Ch:eU prog 107=some (.agg #[.nilFunc,.bool false]):=by kernel_rfl
theorem Lh:cW prog 105=some false:=by kernel_rfl
theorem Ij:∀ u ∈ LI.toList,u.oneCell'=true:=by
 intro u hu;simp[LI] at hu;rcases hu with rfl | rfl | rfl | rfl | rfl | rfl | rfl | rfl <;> rfl
theorem F8 {g:Nat}{b:Bool}{k:Value→World→Prop}{w:World}(h:k (.agg #[pK g,.bool b]) w):b6 prog 107 [(0,.func (.func g) #[] #[]),(1,.bool b)] w k:=bx (fun w=>by kernel_rfl) h
theorem F9 {k:Value→World→Prop}{w:World}(h:k (.agg LI) w):b6 prog 108 [(0,.agg #[pK 79,.bool false]),(1,.agg #[pK 80,.bool false]),(2,.agg #[pK 77,.bool true]),(3,.agg #[pK 77,.bool true])] w k:=bx (fun w=>by kernel_rfl) h
theorem M8:enters prog 51=true:=by kernel_rfl
theorem c51 (w:World):bz prog 51 [] w fun r w'=>r=.agg LI∧aT w w':=by
 refine ar (N:=9) func51 M8 rfl rfl rfl (by simp) ?_;have H:=Hp.aC w;refine H.alloc 108 (cs:=#[.nilFunc,.bool false,.nilFunc,.bool false,.nilFunc,.bool false,.nilFunc,.bool false]) Ii rfl ?_;clear H;intro g0 a H
 iterate 4 refine F8 ?_
 refine F9 ?_;refine H.storeAll (cs':=LI) 0 rfl Cf rfl Ij ?_;clear H;intro b H;refine H.ai 0 rfl Lg Cf ?_;exact ⟨rfl,rfl,H.keeps⟩
theorem M9:enters prog 77=true:=by kernel_rfl
theorem Pv (a on off c:Nat)(d:a<2^256)(w:World):bz prog 77 [sv a,sv on,sv off,sv c] w fun v w'=>v=sv (bQ a off)∧aT w w':=by
 refine ar (N:=12) func77 M9 rfl rfl rfl (by simp) ?_;have H:=Hp.aC w;refine H.box 86 (sv _) (cs:=sc _) rfl ?_;clear H;intro g1 e H;refine H.box 86 (sv _) (cs:=sc _) rfl ?_;clear H;intro g2 f H;refine H.box 86 (sv _) (cs:=sc _) rfl ?_;clear H;intro g3 g H;refine H.box 86 (sv _) (cs:=sc _) rfl ?_;clear H;intro g4 h H;refine H.alloc 86 (cs:=sc 0) br aZ ?_;clear H;intro g5 i H;refine H.ai 4 rfl aD av ?_;refine H.ai 2 rfl aD av ?_;refine aj (NV _ _ d _) ?_;rintro _ j ⟨rfl,b⟩;replace H:=H.same b;clear b;refine H.aV 0 rfl ?_;clear H;intro k H;refine H.ai 0 rfl aD av ?_;refine ⟨rfl,?_⟩;exact ⟨rfl,H.keeps⟩
theorem M_:enters prog 79=true:=by kernel_rfl
theorem Pw (a on off b:Nat)(w:World):bz prog 79 [sv a,sv on,sv off,sv b] w fun v w'=>v=sv on∧aT w w':=by
 refine ar (N:=10) func79 M_ rfl rfl rfl (by simp) ?_;have H:=Hp.aC w;refine H.box 86 (sv _) (cs:=sc _) rfl ?_;clear H;intro g1 c H;refine H.box 86 (sv _) (cs:=sc _) rfl ?_;clear H;intro g2 d H;refine H.box 86 (sv _) (cs:=sc _) rfl ?_;clear H;intro g3 e H;refine H.box 86 (sv _) (cs:=sc _) rfl ?_;clear H;intro g4 f H;refine H.alloc 86 (cs:=sc 0) br aZ ?_;clear H;intro g5 g H;refine H.ai 3 rfl aD av ?_;refine H.aV 0 rfl ?_;clear H;intro h H;refine H.ai 0 rfl aD av ?_;refine ⟨rfl,?_⟩;exact ⟨rfl,H.keeps⟩
theorem Na:enters prog 80=true:=by kernel_rfl
theorem c80 (c on off a:Nat)(w:World):bz prog 80 [sv c,sv on,sv off,sv a] w fun v w'=>v=sv (on |||a)∧aT w w':=by
 refine ar (N:=12) func80 Na rfl rfl rfl (by simp) ?_;have H:=Hp.aC w;refine H.box 86 (sv _) (cs:=sc _) rfl ?_;clear H;intro g1 d H;refine H.box 86 (sv _) (cs:=sc _) rfl ?_;clear H;intro g2 e H;refine H.box 86 (sv _) (cs:=sc _) rfl ?_;clear H;intro g3 f H;refine H.box 86 (sv _) (cs:=sc _) rfl ?_;clear H;intro g4 g H;refine H.alloc 86 (cs:=sc 0) br aZ ?_;clear H;intro g5 h H;refine H.ai 3 rfl aD av ?_;refine H.ai 1 rfl aD av ?_;refine aj (LU _ _ _) ?_;rintro _ i ⟨rfl,b⟩;replace H:=H.same b;clear b;refine H.aV 0 rfl ?_;clear H;intro j H;refine H.ai 0 rfl aD av ?_;refine ⟨rfl,?_⟩;exact ⟨rfl,H.keeps⟩
end Go.Proofs.YtpjihhgjbbihkaaGreatDoor
namespace Go.Dk
def l6 (t:Tb)(j:Nat):Nat:=gp t j 1 t.ls.length
def ur (t:Tb)(j:Nat):Nat:=gp t j 0 t.ls.length
def uu (t:Tb)(j:Nat):Nat:=gp t j 2 t.ls.length
def iv (t:Tb)(j:Nat):Nat:=if t.kd=0 then l6 t j else if t.kd=1 then l6 t j |||uu t j else bQ (bu t.ni) (ur t j)
def jJ (f:Nat→Nat)(k:Nat):List Nat:=(List.range k).map f
theorem og (f:Nat→Nat)(k:Nat):jJ f (k+1)=jJ f k++[f k]:=by unfold jJ;rw[List.range_succ,List.map_append];rfl
theorem eI (f:Nat→Nat)(k:Nat):(jJ f k).length=k:=by simp[jJ]
def bY (t:Tb):er:=⟨t.ni,jJ (l6 t) t.no,jJ (iv t) t.no⟩
def ld (t:Tb)(j:Nat):Bool:=decide (2≤t.kd)&&(l6 t j &&&ur t j !=0)
def dd (t:Tb)(k:Nat):Bool:=(List.range k).any (ld t)
theorem si (t:Tb)(k:Nat):dd t (k+1)=(dd t k||ld t k):=by unfold dd;rw[List.range_succ,List.any_append];simp
end Go.Dk
namespace Go.Proofs.YtpjihhgjbbihkaaGreatDoor
open Go.Proofs.Tryz
open Go.Dk
set_option maxRecDepth 100000
attribute [local irreducible] IntKind.wrap
def ze:List (List Nat × List Nat):=[([2,5,8,9,10,11,12,13,14],[0,1,3,4,6,7,2,5,8,9,10,11,12,13,14]),([2,5,8,9,11,10,12,13,14],[0,1,3,4,6,7,2,5,8,9,11,10,12,13,14]),([2,5,8,10,9,11,12,13,14],[0,1,3,4,6,7,2,5,8,10,9,11,12,13,14]),([2,5,8,10,11,9,12,13,14],[0,1,3,4,6,7,2,5,8,10,11,9,12,13,14]),([2,5,8,11,9,10,12,13,14],[0,1,3,4,6,7,2,5,8,11,9,10,12,13,14]),([2,5,8,11,10,9,12,13,14],[0,1,3,4,6,7,2,5,8,11,10,9,12,13,14]),([2,5,9,8,10,11,12,13,14],[0,1,3,4,6,7,2,5,9,8,10,11,12,13,14]),([2,5,9,8,11,10,12,13,14],[0,1,3,4,6,7,2,5,9,8,11,10,12,13,14]),([2,5,9,10,8,11,12,13,14],[0,1,3,4,6,7,2,5,9,10,8,11,12,13,14]),([2,5,9,10,11,8,12,13,14],[0,1,3,4,6,7,2,5,9,10,11,8,12,13,14]),([2,5,9,11,8,10,12,13,14],[0,1,3,4,6,7,2,5,9,11,8,10,12,13,14]),([2,5,9,11,10,8,12,13,14],[0,1,3,4,6,7,2,5,9,11,10,8,12,13,14]),([2,5,10,8,9,11,12,13,14],[0,1,3,4,6,7,2,5,10,8,9,11,12,13,14]),([2,5,10,8,11,9,12,13,14],[0,1,3,4,6,7,2,5,10,8,11,9,12,13,14]),([2,5,10,9,8,11,12,13,14],[0,1,3,4,6,7,2,5,10,9,8,11,12,13,14]),([2,5,10,9,11,8,12,13,14],[0,1,3,4,6,7,2,5,10,9,11,8,12,13,14]),([2,5,10,11,8,9,12,13,14],[0,1,3,4,6,7,2,5,10,11,8,9,12,13,14]),([2,5,10,11,9,8,12,13,14],[0,1,3,4,6,7,2,5,10,11,9,8,12,13,14]),([2,5,11,8,9,10,12,13,14],[0,1,3,4,6,7,2,5,11,8,9,10,12,13,14]),([2,5,11,8,10,9,12,13,14],[0,1,3,4,6,7,2,5,11,8,10,9,12,13,14]),([2,5,11,9,8,10,12,13,14],[0,1,3,4,6,7,2,5,11,9,8,10,12,13,14]),([2,5,11,9,10,8,12,13,14],[0,1,3,4,6,7,2,5,11,9,10,8,12,13,14]),([2,5,11,10,8,9,12,13,14],[0,1,3,4,6,7,2,5,11,10,8,9,12,13,14]),([2,5,11,10,9,8,12,13,14],[0,1,3,4,6,7,2,5,11,10,9,8,12,13,14]),([2,9,5,8,10,11,12,13,14],[0,1,3,4,6,7,2,9,5,8,10,11,12,13,14]),([2,9,5,8,11,10,12,13,14],[0,1,3,4,6,7,2,9,5,8,11,10,12,13,14]),([2,9,5,10,8,11,12,13,14],[0,1,3,4,6,7,2,9,5,10,8,11,12,13,14]),([2,9,5,10,11,8,12,13,14],[0,1,3,4,6,7,2,9,5,10,11,8,12,13,14]),([2,9,5,11,8,10,12,13,14],[0,1,3,4,6,7,2,9,5,11,8,10,12,13,14]),([2,9,5,11,10,8,12,13,14],[0,1,3,4,6,7,2,9,5,11,10,8,12,13,14]),([2,9,10,5,8,11,12,13,14],[0,1,3,4,6,7,2,9,10,5,8,11,12,13,14]),([2,9,10,5,11,8,12,13,14],[0,1,3,4,6,7,2,9,10,5,11,8,12,13,14]),([2,9,10,11,5,8,12,13,14],[0,1,3,4,6,7,2,9,10,11,5,8,12,13,14]),([2,9,11,5,8,10,12,13,14],[0,1,3,4,6,7,2,9,11,5,8,10,12,13,14]),([2,9,11,5,10,8,12,13,14],[0,1,3,4,6,7,2,9,11,5,10,8,12,13,14]),([2,9,11,10,5,8,12,13,14],[0,1,3,4,6,7,2,9,11,10,5,8,12,13,14]),([2,10,5,8,9,11,12,13,14],[0,1,3,4,6,7,2,10,5,8,9,11,12,13,14]),([2,10,5,8,11,9,12,13,14],[0,1,3,4,6,7,2,10,5,8,11,9,12,13,14]),([2,10,5,9,8,11,12,13,14],[0,1,3,4,6,7,2,10,5,9,8,11,12,13,14]),([2,10,5,9,11,8,12,13,14],[0,1,3,4,6,7,2,10,5,9,11,8,12,13,14]),([2,10,5,11,8,9,12,13,14],[0,1,3,4,6,7,2,10,5,11,8,9,12,13,14]),([2,10,5,11,9,8,12,13,14],[0,1,3,4,6,7,2,10,5,11,9,8,12,13,14]),([2,10,9,5,8,11,12,13,14],[0,1,3,4,6,7,2,10,9,5,8,11,12,13,14]),([2,10,9,5,11,8,12,13,14],[0,1,3,4,6,7,2,10,9,5,11,8,12,13,14]),([2,10,9,11,5,8,12,13,14],[0,1,3,4,6,7,2,10,9,11,5,8,12,13,14]),([2,10,11,5,8,9,12,13,14],[0,1,3,4,6,7,2,10,11,5,8,9,12,13,14]),([2,10,11,5,9,8,12,13,14],[0,1,3,4,6,7,2,10,11,5,9,8,12,13,14]),([2,10,11,9,5,8,12,13,14],[0,1,3,4,6,7,2,10,11,9,5,8,12,13,14]),([2,11,5,8,9,10,12,13,14],[0,1,3,4,6,7,2,11,5,8,9,10,12,13,14]),([2,11,5,8,10,9,12,13,14],[0,1,3,4,6,7,2,11,5,8,10,9,12,13,14]),([2,11,5,9,8,10,12,13,14],[0,1,3,4,6,7,2,11,5,9,8,10,12,13,14]),([2,11,5,9,10,8,12,13,14],[0,1,3,4,6,7,2,11,5,9,10,8,12,13,14]),([2,11,5,10,8,9,12,13,14],[0,1,3,4,6,7,2,11,5,10,8,9,12,13,14]),([2,11,5,10,9,8,12,13,14],[0,1,3,4,6,7,2,11,5,10,9,8,12,13,14]),([2,11,9,5,8,10,12,13,14],[0,1,3,4,6,7,2,11,9,5,8,10,12,13,14]),([2,11,9,5,10,8,12,13,14],[0,1,3,4,6,7,2,11,9,5,10,8,12,13,14]),([2,11,9,10,5,8,12,13,14],[0,1,3,4,6,7,2,11,9,10,5,8,12,13,14]),([2,11,10,5,8,9,12,13,14],[0,1,3,4,6,7,2,11,10,5,8,9,12,13,14]),([2,11,10,5,9,8,12,13,14],[0,1,3,4,6,7,2,11,10,5,9,8,12,13,14]),([2,11,10,9,5,8,12,13,14],[0,1,3,4,6,7,2,11,10,9,5,8,12,13,14]),([9,2,5,8,10,11,12,13,14],[0,1,3,4,6,7,9,2,5,8,10,11,12,13,14]),([9,2,5,8,11,10,12,13,14],[0,1,3,4,6,7,9,2,5,8,11,10,12,13,14]),([9,2,5,10,8,11,12,13,14],[0,1,3,4,6,7,9,2,5,10,8,11,12,13,14]),([9,2,5,10,11,8,12,13,14],[0,1,3,4,6,7,9,2,5,10,11,8,12,13,14]),([9,2,5,11,8,10,12,13,14],[0,1,3,4,6,7,9,2,5,11,8,10,12,13,14]),([9,2,5,11,10,8,12,13,14],[0,1,3,4,6,7,9,2,5,11,10,8,12,13,14]),([9,2,10,5,8,11,12,13,14],[0,1,3,4,6,7,9,2,10,5,8,11,12,13,14]),([9,2,10,5,11,8,12,13,14],[0,1,3,4,6,7,9,2,10,5,11,8,12,13,14]),([9,2,10,11,5,8,12,13,14],[0,1,3,4,6,7,9,2,10,11,5,8,12,13,14]),([9,2,11,5,8,10,12,13,14],[0,1,3,4,6,7,9,2,11,5,8,10,12,13,14]),([9,2,11,5,10,8,12,13,14],[0,1,3,4,6,7,9,2,11,5,10,8,12,13,14]),([9,2,11,10,5,8,12,13,14],[0,1,3,4,6,7,9,2,11,10,5,8,12,13,14]),([9,10,2,5,8,11,12,13,14],[0,1,3,4,6,7,9,10,2,5,8,11,12,13,14]),([9,10,2,5,11,8,12,13,14],[0,1,3,4,6,7,9,10,2,5,11,8,12,13,14]),([9,10,2,11,5,8,12,13,14],[0,1,3,4,6,7,9,10,2,11,5,8,12,13,14]),([9,10,11,2,5,8,12,13,14],[0,1,3,4,6,7,9,10,11,2,5,8,12,13,14]),([9,11,2,5,8,10,12,13,14],[0,1,3,4,6,7,9,11,2,5,8,10,12,13,14]),([9,11,2,5,10,8,12,13,14],[0,1,3,4,6,7,9,11,2,5,10,8,12,13,14]),([9,11,2,10,5,8,12,13,14],[0,1,3,4,6,7,9,11,2,10,5,8,12,13,14]),([9,11,10,2,5,8,12,13,14],[0,1,3,4,6,7,9,11,10,2,5,8,12,13,14]),([10,2,5,8,9,11,12,13,14],[0,1,3,4,6,7,10,2,5,8,9,11,12,13,14]),([10,2,5,8,11,9,12,13,14],[0,1,3,4,6,7,10,2,5,8,11,9,12,13,14]),([10,2,5,9,8,11,12,13,14],[0,1,3,4,6,7,10,2,5,9,8,11,12,13,14]),([10,2,5,9,11,8,12,13,14],[0,1,3,4,6,7,10,2,5,9,11,8,12,13,14]),([10,2,5,11,8,9,12,13,14],[0,1,3,4,6,7,10,2,5,11,8,9,12,13,14]),([10,2,5,11,9,8,12,13,14],[0,1,3,4,6,7,10,2,5,11,9,8,12,13,14]),([10,2,9,5,8,11,12,13,14],[0,1,3,4,6,7,10,2,9,5,8,11,12,13,14]),([10,2,9,5,11,8,12,13,14],[0,1,3,4,6,7,10,2,9,5,11,8,12,13,14]),([10,2,9,11,5,8,12,13,14],[0,1,3,4,6,7,10,2,9,11,5,8,12,13,14]),([10,2,11,5,8,9,12,13,14],[0,1,3,4,6,7,10,2,11,5,8,9,12,13,14]),([10,2,11,5,9,8,12,13,14],[0,1,3,4,6,7,10,2,11,5,9,8,12,13,14]),([10,2,11,9,5,8,12,13,14],[0,1,3,4,6,7,10,2,11,9,5,8,12,13,14]),([10,9,2,5,8,11,12,13,14],[0,1,3,4,6,7,10,9,2,5,8,11,12,13,14]),([10,9,2,5,11,8,12,13,14],[0,1,3,4,6,7,10,9,2,5,11,8,12,13,14]),([10,9,2,11,5,8,12,13,14],[0,1,3,4,6,7,10,9,2,11,5,8,12,13,14]),([10,9,11,2,5,8,12,13,14],[0,1,3,4,6,7,10,9,11,2,5,8,12,13,14]),([10,11,2,5,8,9,12,13,14],[0,1,3,4,6,7,10,11,2,5,8,9,12,13,14]),([10,11,2,5,9,8,12,13,14],[0,1,3,4,6,7,10,11,2,5,9,8,12,13,14]),([10,11,2,9,5,8,12,13,14],[0,1,3,4,6,7,10,11,2,9,5,8,12,13,14]),([10,11,9,2,5,8,12,13,14],[0,1,3,4,6,7,10,11,9,2,5,8,12,13,14]),([11,2,5,8,9,10,12,13,14],[0,1,3,4,6,7,11,2,5,8,9,10,12,13,14]),([11,2,5,8,10,9,12,13,14],[0,1,3,4,6,7,11,2,5,8,10,9,12,13,14]),([11,2,5,9,8,10,12,13,14],[0,1,3,4,6,7,11,2,5,9,8,10,12,13,14]),([11,2,5,9,10,8,12,13,14],[0,1,3,4,6,7,11,2,5,9,10,8,12,13,14]),([11,2,5,10,8,9,12,13,14],[0,1,3,4,6,7,11,2,5,10,8,9,12,13,14]),([11,2,5,10,9,8,12,13,14],[0,1,3,4,6,7,11,2,5,10,9,8,12,13,14]),([11,2,9,5,8,10,12,13,14],[0,1,3,4,6,7,11,2,9,5,8,10,12,13,14]),([11,2,9,5,10,8,12,13,14],[0,1,3,4,6,7,11,2,9,5,10,8,12,13,14]),([11,2,9,10,5,8,12,13,14],[0,1,3,4,6,7,11,2,9,10,5,8,12,13,14]),([11,2,10,5,8,9,12,13,14],[0,1,3,4,6,7,11,2,10,5,8,9,12,13,14]),([11,2,10,5,9,8,12,13,14],[0,1,3,4,6,7,11,2,10,5,9,8,12,13,14]),([11,2,10,9,5,8,12,13,14],[0,1,3,4,6,7,11,2,10,9,5,8,12,13,14]),([11,9,2,5,8,10,12,13,14],[0,1,3,4,6,7,11,9,2,5,8,10,12,13,14]),([11,9,2,5,10,8,12,13,14],[0,1,3,4,6,7,11,9,2,5,10,8,12,13,14]),([11,9,2,10,5,8,12,13,14],[0,1,3,4,6,7,11,9,2,10,5,8,12,13,14]),([11,9,10,2,5,8,12,13,14],[0,1,3,4,6,7,11,9,10,2,5,8,12,13,14]),([11,10,2,5,8,9,12,13,14],[0,1,3,4,6,7,11,10,2,5,8,9,12,13,14]),([11,10,2,5,9,8,12,13,14],[0,1,3,4,6,7,11,10,2,5,9,8,12,13,14]),([11,10,2,9,5,8,12,13,14],[0,1,3,4,6,7,11,10,2,9,5,8,12,13,14]),([11,10,9,2,5,8,12,13,14],[0,1,3,4,6,7,11,10,9,2,5,8,12,13,14])]
def oh (k:Nat):Array Value:=if k=0 then #[pK 79,.bool false] else if k=1 then #[pK 80,.bool false] else #[pK 77,.bool true]
theorem F_ {k:Nat}(a:k≤3){w:World}{kk:Value→World→Prop}(h:kk (.agg (oh k)) w):sW prog 108 (.agg LI) (.int .i64 (k:Int)) w kk:=by
 unfold sW;refine ⟨_,w,?_,h⟩;rcases (by omega:k=0∨k=1∨k=2∨k=3) with rfl | rfl | rfl | rfl <;> kernel_rfl
theorem zf (k:Nat):∀ u ∈ (oh k).toList,u.oneCell'=true:=by
 intro u hu;unfold oh at hu;split at hu
 ·simp at hu;rcases hu with rfl | rfl <;> rfl
 ·split at hu <;> (simp at hu;rcases hu with rfl | rfl <;> rfl)
theorem vQ (k:Nat):(oh k).size=2:=by unfold oh;split;rfl;split <;> rfl
theorem Ik (g:Nat)(w:World):(Instr.fieldAt 107 (ah g) 0).run prog w=.ok (ah g) w:=by kernel_rfl
theorem Il (g:Nat)(w:World):(Instr.fieldAt 107 (ah g) 1).run prog w=.ok (.pointer (some ⟨g,1,none⟩)) w:=by kernel_rfl
theorem zg {k:Value→World→Prop}{w:World}(h:k (sf 0 (.slice none 0 0) (.slice none 0 0)) w):b6 prog 41 [] w k:=bx (fun w=>by kernel_rfl) h
theorem zh {n:Nat}{k:Value→World→Prop}{w:World}(h:k (sf n (.slice none 0 0) (.slice none 0 0)) w):b6 prog 41 [(0,.int .i64 (n:Int))] w k:=bx (fun w=>by kernel_rfl) h
theorem uv:eU prog 41=some (sf 0 (.slice none 0 0) (.slice none 0 0)):=by kernel_rfl
theorem kp {n:Nat}{A B:Option Addr}{l c a b:Nat}:∀ u ∈ (bp n (.slice A l c) (.slice B a b)).toList,u.oneCell'=true:=by
 intro u hu;simp[bp] at hu;rcases hu with rfl | rfl | rfl <;> rfl
abbrev Im (t:Tb)(v:Value)(g1 g2 g4 g6 g7 i:Nat)(Bo:Option Addr)(co:Nat)(Bm:Option Addr)(cm:Nat):List cS:=
 [an g7 41 (bp t.ni (.slice Bo i co) (.slice Bm i cm)),own 86 4 (.slice Bo i co) i (flat bL (jJ (l6 t) i)),own 86 4 (.slice Bm i cm) i (flat bL (jJ (iv t) i)),an g6 107 (oh t.kd),an g4 86 (sc (bu t.ni)),an g2 41 (bp 0 (.slice none 0 0) (.slice none 0 0)),an g1 33 (cI t.kd t.ni t.no v)]
def nB (F:Nat→Prop)(S:er)(Bo:Option Addr)(co:Nat)(Bm:Option Addr)(cm:Nat):cS:=
 ⟨F,fun w=>(sl F (.slice Bo S.on.length co) 4 S.on.length (flat bL S.on)).ok w∧(sl F (.slice Bm S.may.length cm) 4 S.may.length (flat bL S.may)).ok w,
  fun w w' h ⟨a,b⟩=>⟨(sl _ _ _ _ _).bS w w' h a,(sl _ _ _ _ _).bS w w' h b⟩⟩
theorem xu {w:World}{F:Nat→Prop}{S:er}{Bo:Option Addr}{co:Nat}{Bm:Option Addr}{cm:Nat}(h:(nB F S Bo co Bm cm).ok w)(a:∀ g,F g→g<w.heap.size):gi w S Bo co Bm cm:=⟨sl.mono h.1 a,sl.mono h.2 a⟩
theorem Ci {w0 w:World}{S:er}{Bo:Option Addr}{co:Nat}{Bm:Option Addr}{cm n m:Nat}(H:Hp w0 ab w [own 86 4 (.slice Bo n co) n (flat bL S.on),own 86 4 (.slice Bm m cm) m (flat bL S.may)] [])(b:n=S.on.length)(hm:m=S.may.length):∃ F,eW w0 w (nB F S Bo co Bm cm):=by
 subst b;subst hm;have c:=Hp.join (Ls:=[own 86 4 (.slice Bo S.on.length co) S.on.length (flat bL S.on),own 86 4 (.slice Bm S.may.length cm) S.may.length (flat bL S.may)]) (L:=[]) H;refine ⟨(sr [own 86 4 (.slice Bo S.on.length co) S.on.length (flat bL S.on),own 86 4 (.slice Bm S.may.length cm) S.may.length (flat bL S.may)]).foot,?_⟩;exact (c.re (r':=nB _ S Bo co Bm cm) (fun _=>⟨sl.mono (iQ (H.get 0 rfl)) fun g a=>⟨_,.head _,a⟩,sl.mono (iQ (H.get 1 rfl)) fun g a=>⟨_,.tail _ (.head _),a⟩⟩) fun g a=>a).out
theorem Nb:enters prog 23=true:=by kernel_rfl
set_option maxHeartbeats 40000000 in
theorem Px {t:Tb}(n:j7 t)(v:Value)(w:World)(x:jm w v t.ls):bz prog 23 [sN t.kd t.ni t.no v] w fun r w'=>
  (dd t t.no=true∧r=.tuple #[sf 0 (.slice none 0 0) (.slice none 0 0),.int .i64 4]∧aT w w')∨
  (dd t t.no=false∧∃ Bo co Bm cm,r=.tuple #[sf t.ni (.slice Bo t.no co) (.slice Bm t.no cm),.int .i64 0]∧∃ F,eW w w' (nB F (bY t) Bo co Bm cm)):=by
 refine ar (N:=73) func23 Nb rfl rfl rfl (by simp) ?_;have H:=Hp.aC w;obtain ⟨B,c,hs,rfl,hSl,hsl,hln⟩:=x.uq;have hno:=n.no4;have G:=n.ni;have o:=n.kd;refine ak (γ:=Nat × Nat) (fun (g1,g2)=>[(1,(ah g1)),(2,(ah g2))]) (fun (g1,g2) w'=>Hp w ab w' [an g2 41 (bp 0 (.slice none 0 0) (.slice none 0 0)),an g1 33 (cI t.kd t.ni t.no (.slice B t.ls.length c))] []) ?_ ?_
 ·refine H.box 33 _ (cs:=cI t.kd t.ni t.no (.slice B t.ls.length c)) rfl ?_;clear H;intro g1 w1 H;refine H.alloc 41 (cs:=bp 0 (.slice none 0 0) (.slice none 0 0)) uv rfl ?_;clear H;intro g2 X H;exact ⟨(g1,g2),⟨rfl,rfl,trivial⟩,H⟩
 clear H;rintro ⟨g1,g2⟩ u w1 H;refine aw (fun w'=>Hp w ab w' [an g2 41 (bp 0 (.slice none 0 0) (.slice none 0 0)),an g1 33 (cI t.kd t.ni t.no (.slice B t.ls.length c))] []) ?_ ?_
 ·refine H.ai 1 rfl eL bw ?_;refine aj (c49 n _ _ (x.same H.keeps)) ?_;rintro _ X ⟨rfl,a⟩;replace H:=H.same a;refine ae rfl ?_;exact ⟨(),trivial,H⟩
 clear H;rintro ⟨⟩ u X H;refine ak (γ:=Nat) (fun g4=>[(4,(ah g4))]) (fun g4 w'=>Hp w ab w' [an g4 86 (sc (bu t.ni)),an g2 41 (bp 0 (.slice none 0 0) (.slice none 0 0)),an g1 33 (cI t.kd t.ni t.no (.slice B t.ls.length c))] []) ?_ ?_
 ·refine aa (dY _ _) ?_;refine H.load 1 rfl aE rfl ?_;refine aj (oI t.ni G _) ?_;rintro _ Y ⟨rfl,a⟩;replace H:=H.same a;clear a;refine H.alloc 86 (cs:=sc 0) br aZ ?_;clear H;intro g4 Z H;refine H.aV 0 rfl ?_;clear H;intro w5 H;exact ⟨g4,⟨rfl,trivial⟩,H⟩
 clear H;rintro g4 u Y H;refine ak (γ:=Nat) (fun g6=>[(6,(ah g6))]) (fun g6 w'=>Hp w ab w' [an g6 107 (oh t.kd),an g4 86 (sc (bu t.ni)),an g2 41 (bp 0 (.slice none 0 0) (.slice none 0 0)),an g1 33 (cI t.kd t.ni t.no (.slice B t.ls.length c))] []) ?_ ?_
 ·refine gH (fun u=>Hp w ab u [an g4 86 (sc (bu t.ni)),an g2 41 (bp 0 (.slice none 0 0) (.slice none 0 0)),an g1 33 (cI t.kd t.ni t.no (.slice B t.ls.length c))] []) [([0,4,5],[1,2,0,3,4,5]),([4,0,5],[1,2,4,0,3,5])] eN (by kernel_rfl) (H.same (aS.drew _)) ?_;replace H:=H.same (aS.drew _);generalize Y.drew=Z at H;refine List.forall_mem_cons.2 ⟨?_,List.forall_mem_cons.2 ⟨?_,fun z I=>by cases I⟩⟩
  ·refine quiet _ (fun w H=>aa (cC _ _) af) ?_;refine quiet _ (fun w H=>H.load 2 rfl aE rfl af) ?_;refine aj (c51 _) ?_;rintro _ y ⟨rfl,a⟩;replace H:=H.same a;clear a;refine ⟨.inl H,?_⟩;refine quiet _ (fun w H=>F_ o af) ?_;refine H.alloc 107 Ch rfl ?_;clear H;intro g6 J H;refine ⟨.inl H.forget,?_⟩;refine H.storeAll (cs':=oh t.kd) 0 rfl Cg (vQ _) (zf _) ?_;clear H;intro A H;refine ⟨.inl H.forget,?_⟩;exact ⟨g6,⟨rfl,trivial⟩,H⟩
  ·refine quiet _ (fun w H=>aa (cC _ _) af) ?_;refine quiet _ (fun w H=>H.load 2 rfl aE rfl af) ?_;refine H.alloc 107 Ch rfl ?_;clear H;intro g6 y H;refine ⟨.inl H.forget,?_⟩;refine aj (c51 _) ?_;rintro _ J ⟨rfl,a⟩;replace H:=H.same a;clear a;refine ⟨.inl H.forget,?_⟩;refine quiet _ (fun w H=>F_ o af) ?_;refine H.storeAll (cs':=oh t.kd) 0 rfl Cg (vQ _) (zf _) ?_;clear H;intro A H;refine ⟨.inl H.forget,?_⟩;exact ⟨g6,⟨rfl,trivial⟩,H⟩
 clear H;rintro g6 u Z H;refine ak (γ:=Nat) (fun g7=>[(7,(ah g7))]) (fun g7 w'=>Hp w ab w' [an g7 41 (bp t.ni (.slice none 0 0) (.slice none 0 0)),an g6 107 (oh t.kd),an g4 86 (sc (bu t.ni)),an g2 41 (bp 0 (.slice none 0 0) (.slice none 0 0)),an g1 33 (cI t.kd t.ni t.no (.slice B t.ls.length c))] []) ?_ ?_
 ·refine aa (dY _ _) ?_;refine H.load 3 rfl aE rfl ?_;refine zh ?_;refine H.alloc 41 (cs:=bp 0 (.slice none 0 0) (.slice none 0 0)) uv rfl ?_;clear H;intro g7 w5 H;refine H.storeAll (cs':=bp t.ni (.slice none 0 0) (.slice none 0 0)) 0 rfl bH rfl kp ?_;clear H;intro y H;exact ⟨g7,⟨rfl,trivial⟩,H⟩
 clear H;rintro g7 u w5 H;refine ak (γ:=Option Addr × Nat × Option Addr × Nat) (fun _=>[]) (fun (Bo,co,Bm,cm) w'=>dd t t.no=false∧Hp w ab w' (Im t (.slice B t.ls.length c) g1 g2 g4 g6 g7 t.no Bo co Bm cm) []) ?_ ?_
 ·refine aa (eP _ _) ?_;refine H.load 4 rfl aE rfl ?_;refine ax (γ:=Nat × Option Addr × Nat × Option Addr × Nat) (fun (i,_)=>[(31,.int .i64 (i:Int))]) (fun (i,Bo,co,Bm,cm) w'=>(i≤t.no∧dd t i=false)∧Hp w ab w' (Im t (.slice B t.ls.length c) g1 g2 g4 g6 g7 i Bo co Bm cm) []) (fun (i,_)=>t.no - i) (0,none,0,none,0) ⟨rfl,trivial⟩ ⟨⟨Nat.zero_le _,rfl⟩,(((H.bC 86 4).bC 86 4).front 2 rfl)⟩ ?_;clear H;rintro ⟨i,Bo,co,Bm,cm⟩ u y ⟨⟨hi,e⟩,H⟩;refine au (fun h7=>?_) (fun h7=>?_)
  ·have p:i<t.no:=by omega
   have hLn:∀ u,Hp w ab u (Im t (.slice B t.ls.length c) g1 g2 g4 g6 g7 i Bo co Bm cm) []→jm u (.slice B t.ls.length c) t.ls:=fun u H=>x.same H.keeps;refine ak (γ:=Option Addr × Nat × Option Addr × Nat) (fun _=>[]) (fun (Bo,co,Bm,cm) w'=>dd t (i+1)=false∧Hp w ab w' (Im t (.slice B t.ls.length c) g1 g2 g4 g6 g7 (i+1) Bo co Bm cm) []) ?_ ?_
   ·refine ak (γ:=Unit) (fun _=>[(8,.int .i64 (i:Int))]) (fun _ w'=>Hp w ab w' (Im t (.slice B t.ls.length c) g1 g2 g4 g6 g7 i Bo co Bm cm) []) ⟨(),⟨rfl,trivial⟩,H⟩ ?_;clear H;rintro ⟨⟩ u J H;refine ak (γ:=Nat × Nat × Nat) (fun (g9,g10,g11)=>[(9,(ah g9)),(10,(ah g10)),(11,(ah g11))]) (fun (g9,g10,g11) w'=>Hp w ab w' (an g9 86 (sc (l6 t i))::an g10 86 (sc (ur t i))::an g11 86 (sc (uu t i))::Im t (.slice B t.ls.length c) g1 g2 g4 g6 g7 i Bo co Bm cm) []) ?_ ?_
    ·refine gH (fun u=>Hp w ab u (Im t (.slice B t.ls.length c) g1 g2 g4 g6 g7 i Bo co Bm cm) []) ze eN (by kernel_rfl) (H.same (aS.drew _)) ?_;replace H:=H.same (aS.drew _);generalize J.drew=A at H;have K:∀ (u:World) (m:Int),jm u (.slice B t.ls.length c) t.ls→((m.toNat:Nat):Int)=m→bz prog 52 [sN t.kd t.ni t.no (.slice B t.ls.length c),.int .i64 (i:Int),.int .i64 m] u fun r w'=>r=sv (gp t i m.toNat t.ls.length)∧aT u w':=fun u m hu hm=>by
      have h:=Pu n i m.toNat p _ u hu;rw[hm] at h;exact h
     unfold ze
     iterate 120
      refine List.forall_mem_cons.2 ⟨?_,?_⟩
      ·iterate 3 refine quiet _ (fun w H=>H.ai 6 rfl eL bw af) ?_
       iterate 6
        first
        |refine H.alloc 86 (cs:=sc 0) br aZ ?_
         clear H;intro gx C H
        |refine aj (K _ _ (x.same H.keeps) rfl) ?_
         rintro _ C ⟨rfl,a⟩;replace H:=H.same a;clear a
        refine ⟨.inl (by first | exact H | exact H.forget | exact H.forget.forget | exact H.forget.forget.forget),?_⟩
       iterate 3
        first
        |refine H.aV 0 rfl ?_
        |refine H.aV 1 rfl ?_
        |refine H.aV 2 rfl ?_
        clear H;intro C H;refine ⟨.inl H.forget.forget.forget,?_⟩
       refine ⟨(_,_,_),⟨rfl,rfl,rfl,trivial⟩,?_⟩
       first
       |exact H.b9 [0,1,2,3,4,5,6,7,8,9] (by decide) rfl
       |exact H.b9 [0,2,1,3,4,5,6,7,8,9] (by decide) rfl
       |exact H.b9 [1,0,2,3,4,5,6,7,8,9] (by decide) rfl
       |exact H.b9 [1,2,0,3,4,5,6,7,8,9] (by decide) rfl
       |exact H.b9 [2,0,1,3,4,5,6,7,8,9] (by decide) rfl
       |exact H.b9 [2,1,0,3,4,5,6,7,8,9] (by decide) rfl
     intro z I
     cases I
    clear H;rintro ⟨g9,g10,g11⟩ u A H;refine aw (fun w'=>ld t i=false∧Hp w ab w' (an g9 86 (sc (l6 t i))::an g10 86 (sc (ur t i))::an g11 86 (sc (uu t i))::Im t (.slice B t.ls.length c) g1 g2 g4 g6 g7 i Bo co Bm cm) []) ?_ ?_
    ·refine aa (Il _) ?_;by_cases q:2≤t.kd
     ·have M:(oh t.kd)=#[pK 77,.bool true]:=by unfold oh;rw[if_neg (by omega),if_neg (by omega)]
      refine H.load 6 rfl ym (by rw[M];rfl) ?_;refine ag rfl ?_;refine H.ai 0 rfl aD av ?_;refine ag rfl ?_;refine H.ai 1 rfl aD av ?_;refine ag rfl ?_;refine aj (c53 _ _ _) ?_;rintro _ O ⟨rfl,a⟩;replace H:=H.same a;clear a;refine ag rfl ?_;refine tD ?_;refine ag rfl ?_;refine CL (Nat.lt_of_le_of_lt Nat.and_le_left (oe _ _ _ _)) (Nat.two_pow_pos 256) ?_;have f:ld t i=(l6 t i &&&ur t i !=0):=by unfold ld;rw[decide_eq_true q,Bool.true_and]
      refine ag rfl ?_;refine aF (fun Q=>?_) (fun Q=>?_)
      ·have s:dd t t.no=true:=by
        unfold dd;rw[List.any_eq_true];exact ⟨i,List.mem_range.2 p,f.trans Q⟩
       refine zg ?_;refine H.storeAll 8 rfl bH rfl kp ?_;clear H;intro w18 H;refine H.ai 8 rfl dz bH ?_;exact ⟨rfl,.inl ⟨s,rfl,H.keeps⟩⟩
      ·exact ⟨(),trivial,f.trans Q,H⟩
     ·have M:(oh t.kd)[1]?=some (.bool false):=by unfold oh;split;rfl;rw[if_pos (by omega)];rfl
      refine H.load 6 rfl ym M ?_
      iterate 7 refine ae rfl ?_
      exact ⟨(),trivial,by unfold ld;rw[decide_eq_false q];rfl,H⟩
    clear H;rintro ⟨⟩ u C ⟨f,H⟩;have d:dd t (i+1)=false:=by rw[si,e,f];rfl
    have b:∃ T,(oh t.kd)[0]?=some (pK T)∧∀ w,bz prog T [sv (bu t.ni),sv (l6 t i),sv (ur t i),sv (uu t i)] w fun v w'=>v=sv (iv t i)∧aT w w':=by
     unfold oh iv;by_cases D:t.kd=0
     ·rw[if_pos D,if_pos D];exact ⟨79,rfl,fun w=>Pw _ _ _ _ w⟩
     ·rw[if_neg D,if_neg D];by_cases E:t.kd=1
      ·rw[if_pos E,if_pos E];exact ⟨80,rfl,fun w=>c80 _ _ _ _ w⟩
      ·rw[if_neg E,if_neg E];exact ⟨77,rfl,fun w=>Pv _ _ _ _ (kb _) w⟩
    obtain ⟨T,U,b⟩:=b;have e1:flat bL (jJ (l6 t) (i+1))=flat bL (jJ (l6 t) i)++bL (l6 t i):=by rw[og];exact dD ..
    have e2:flat bL (jJ (iv t) (i+1))=flat bL (jJ (iv t) i)++bL (iv t i):=by rw[og];exact dD ..
    refine vg (fun i=>i==18) (fun u=>Hp w ab u [an g9 86 (sc (l6 t i)),an g10 86 (sc (ur t i)),an g11 86 (sc (uu t i)),an g7 41 (bp t.ni (.slice Bo i co) (.slice Bm i cm)),an g6 107 (oh t.kd),an g4 86 (sc (bu t.ni)),an g2 41 (bp 0 (.slice none 0 0) (.slice none 0 0)),an g1 33 (cI t.kd t.ni t.no (.slice B t.ls.length c))] []) eN (by kernel_rfl) ((H.same (aS.drew _)).b9 [0,1,2,3,6,7,8,9] (by decide) rfl) ?_;replace H:=H.same (aS.drew _);generalize C.drew=V at H;refine quiet _ (fun w H=>aa (ie _) af) ?_;refine quiet _ (fun w H=>H.load 3 rfl eo rfl af) ?_;refine quiet _ (fun w H=>H.ai 0 rfl aD av af) ?_;refine H.bk GO (cs:=sc (l6 t i)) (by decide) (by decide) (by kernel_rfl) ?_;clear H;intro gx w11 H;refine ⟨.inl (H.b9 [1,2,3,4,7,8,9,10] (by decide) rfl),?_⟩;refine H.aG 5 0 GO rfl rfl rfl (fI _) (by omega) (by omega) ?_;clear H;intro g j w12 H;replace H:=H.forget;refine ⟨.inl (H.b9 [0,1,2,3,6,7,8,9] (by decide) rfl),?_⟩;refine quiet _ (fun w H=>aa (fL _) af) ?_;refine quiet _ (fun w H=>H.load 3 rfl eo rfl af) ?_;refine quiet _ (fun w H=>aa (Ik _) af) ?_;refine quiet _ (fun w H=>H.load 4 rfl Lh U af) ?_;refine quiet _ (fun w H=>H.ai 5 rfl aD av af) ?_;refine quiet _ (fun w H=>H.ai 0 rfl aD av af) ?_;refine quiet _ (fun w H=>H.ai 1 rfl aD av af) ?_;refine quiet _ (fun w H=>H.ai 2 rfl aD av af) ?_;refine aj (b _) ?_;rintro _ w13 ⟨rfl,a⟩;replace H:=H.same a;clear a;refine ⟨.inl (H.b9 [0,1,2,3,6,7,8,9] (by decide) rfl),?_⟩;refine H.bk GO (cs:=sc (iv t i)) (by decide) (by decide) (by kernel_rfl) ?_;clear H;intro gy w14 H;refine ⟨.inl (H.b9 [1,2,3,4,7,8,9,10] (by decide) rfl),?_⟩;refine H.aG 6 0 GO rfl rfl rfl (fI _) (by omega) (by omega) ?_;clear H;intro k l w15 H;replace H:=H.forget;refine ⟨.inl (H.b9 [0,1,2,3,6,7,8,9] (by decide) rfl),?_⟩;refine quiet _ (fun w H=>aa (ie _) af) ?_;refine H.store 3 rfl tU (Nat.le_of_ble_eq_true rfl) rfl ?_;clear H;intro w16 H;refine ⟨.inr (by kernel_rfl),?_⟩;refine aa (fL _) ?_;refine ⟨.inr (by kernel_rfl),?_⟩;refine H.store 3 rfl tU (Nat.le_of_ble_eq_true rfl) rfl ?_;clear H;intro O H;refine ⟨.inr (by kernel_rfl),?_⟩;refine ⟨(g,j,k,l),trivial,d,?_⟩;unfold Im;rw[e1,e2];exact H.b9 [3,4,5,6,7,8,9] (by decide) rfl
   clear H;rintro ⟨g,j,k,l⟩ u V ⟨d,H⟩;exact ⟨(i+1,g,j,k,l),by show t.no - (i+1)<t.no - i;omega,⟨up (by omega),trivial⟩,⟨by show i+1≤t.no;omega,d⟩,H⟩
  ·obtain rfl:i=t.no:=by omega
   exact ⟨(Bo,co,Bm,cm),trivial,e,H⟩
 clear H;rintro ⟨Bo,co,Bm,cm⟩ u y ⟨e,H⟩;refine H.ai 0 rfl dz bH ?_;refine H.storeAll 5 rfl bH rfl kp ?_;clear H;intro A H;refine H.ai 5 rfl dz bH ?_;exact ⟨rfl,.inr ⟨e,Bo,co,Bm,cm,rfl,Ci (S:=bY t) (H.b9 [1,2] (by decide) rfl) (eI _ _).symm (eI _ _).symm⟩⟩
end Go.Proofs.YtpjihhgjbbihkaaGreatDoor
namespace Go.Dk
def gq (k o:Nat):List Nat:=jJ (fun j=>(o / 2^j) &&&1) k
def hZ (k:Nat)(x:Rw):Ln:=(x.1,x.2.1,gq k x.2.2)
def bf (S:er)(rows:List Rw):Tb:=⟨1,S.n,S.on.length,rows.map (hZ S.on.length)⟩
theorem np (k o:Nat):(gq k o).length=k:=eI _ _
theorem Ga {k o:Nat}:∀ x ∈ gq k o,x<2:=by
 intro x a;unfold gq jJ at a;rw[List.mem_map] at a;obtain ⟨j,_,rfl⟩:=a;exact Nat.lt_succ_of_le Nat.and_le_right
theorem Gb {n k:Nat}(f:n≤8){x:Rw}(h:im n k x):uW n k (hZ k x):=by
 obtain ⟨a,b,g,c,i,j⟩:=h;obtain ⟨_,_,hm,d⟩:=(dJ a b).1 c;rw[Int.toNat_natCast] at hm;exact ⟨hm,d,np _ _,fun y e=>Nat.lt_succ_of_lt (Ga y e)⟩
theorem Cj {S:er}(a:cF S){rows:List Rw}(h:∀ x ∈ rows,im S.n S.on.length x)(b:rows.length≤64):j7 (bf S rows):=by
 refine ⟨show 1≤3 by decide,a.n8,a.some,a.few,by show (rows.map _).length≤64;rw[List.length_map];exact b,fun l b=>?_⟩;obtain ⟨x,c,rfl⟩:=List.mem_map.1 b;exact Gb a.n8 (h x c)
end Go.Dk
namespace Go.Proofs.YtpjihhgjbbihkaaGreatDoor
open Go.Proofs.Tryz
open Go.Dk
set_option maxRecDepth 100000
attribute [local irreducible] IntKind.wrap
theorem _root_.Go.Dk.Hp.Nc {w0 w:World}{L M:List cS}{S:Nat→Prop}{hs:List Hd}{Q:List Ln}{v:Value}{l:Ln}(H:Hp w0 ab w (own 3 1 v l.2.2.length (ints l.2.2)::L) (qT S hs Q::M))(j:∀ g,S g→w0.heap.size≤g) :
  ∃ i,Hp w0 ab w L (qT i (hs++[(l.1,l.2.1,v)]) (Q++[l])::M)∧∀ g,i g→w0.heap.size≤g:=by
 have b:=H.get 0 rfl;have d:=H.ro 0 rfl;have e:=H.new _ (.head _);have f:=H.freeze;refine ⟨fun g=>S g∨v.ownBlock=some g,(f.pZ (aS.refl _ _) (qT (fun g=>S g∨v.ownBlock=some g) (hs++[(l.1,l.2.1,v)]) (Q++[l])) ?_ fun g a=>⟨?_,.inr ?_⟩).eD ?_,?_⟩
 ·obtain ⟨A,c,rfl,_⟩:=fz b;exact lX.snoc (lX.mono d fun g a=>.inl a) ⟨rfl,rfl,A,c,rfl,sl.mono (iQ b) fun g a=>.inr a⟩
 ·rcases a with a | a
  ·exact f.rlt _ (.tail _ (.head _)) g a
  ·exact f.rlt _ (.head _) g a
 ·rcases a with a | a
  ·exact ⟨_,.tail _ (.head _),a⟩
  ·exact ⟨_,.head _,a⟩
 ·intro r h;rcases List.mem_cons.1 h with rfl | h
  ·exact .head _
  ·exact .tail _ (.tail _ (.tail _ h))
 ·rintro g (a | a)
  ·exact j g a
  ·exact (e g a).resolve_right id
theorem _root_.Go.Dk.Hp.OR {w0 w:World}{F:Nat→Prop}{L M:List cS}(H:Hp w0 F w L M):Hp w0 F w L (qT (fun _=>False) [] []::M):=
 H.pZ (aS.refl _ _) _ (lX.nil _ _) fun g a=>a.elim
theorem jf {w:World}{kk:Value→World→Prop}(h:kk (sN 0 0 0 (.slice none 0 0)) w):b6 prog 33 [] w kk:=bx (fun w=>by kernel_rfl) h
theorem Gc {n k:Nat}{w:World}{kk:Value→World→Prop}(h:kk (sN 1 n k (.slice none 0 0)) w):b6 prog 33 [(0,.int .i64 1),(1,.int .i64 (n:Int)),(2,.int .i64 (k:Int))] w kk:=bx (fun w=>by kernel_rfl) h
theorem xv {m v:Nat}{w:World}{kk:Value→World→Prop}(h:kk (.agg (fW m v (.slice none 0 0))) w):b6 prog 77 [(0,cv m v)] w kk:=bx (fun w=>by kernel_rfl) h
abbrev D5 (S:er)(a b:Value)(g2 g4 g6 i:Nat)(B:Option Addr)(c:Nat)(hs:List Hd):List cS:=
 [an g6 33 (cI 1 S.n S.on.length (.slice B i c)),own 77 3 (.slice B i c) i (flat la hs),an g4 33 (cI 0 0 0 (.slice none 0 0)),an g2 41 (bp S.n a b)]
theorem Nf:enters prog 27=true:=by kernel_rfl
theorem Py {S:er}(z:cF S)(l:List Rw)(X:∀ x ∈ l,im S.n S.on.length x)(D:l.length≤9223372036854775807)(Bo:Option Addr)(co:Nat)(Bm:Option Addr)(cm:Nat)(A:Option Addr)(c:Nat)(w:World)(Y:gi w S Bo co Bm cm)(E:Sl w (.slice A l.length c) 3 l.length (flat bd l)) :
  bz prog 27 [sf S.n (.slice Bo S.on.length co) (.slice Bm S.may.length cm),.slice A l.length c] w fun r w'=>
   (64<l.length∧r=.tuple #[sN 0 0 0 (.slice none 0 0),.int .i64 3]∧aT w w')∨
   (l.length≤64∧∃ v F,r=.tuple #[sN 1 S.n S.on.length v,.int .i64 0]∧eW w w' (e9 F v (l.map (hZ S.on.length)))):=by
 refine ar (N:=67) func27 Nf rfl rfl rfl (by simp) ?_;have H:=Hp.aC w;have h8:=z.n8;have h4:=z.few;refine ak (γ:=Nat × Nat) (fun (g2,g4)=>[(2,(ah g2)),(4,(ah g4))]) (fun (g2,g4) w'=>Hp w ab w' [an g4 33 (cI 0 0 0 (.slice none 0 0)),an g2 41 (bp S.n (.slice Bo S.on.length co) (.slice Bm S.may.length cm))] []) ?_ ?_
 ·refine H.box 41 _ (cs:=bp S.n (.slice Bo S.on.length co) (.slice Bm S.may.length cm)) rfl ?_;clear H;intro g2 w1 H;refine H.alloc 33 (cs:=cI 0 0 0 (.slice none 0 0)) nn rfl ?_;clear H;intro g4 G H;exact ⟨(g2,g4),⟨rfl,rfl,trivial⟩,H⟩
 clear H;rintro ⟨g2,g4⟩ u w1 H;refine aw (fun w'=>l.length≤64∧Hp w ab w' [an g4 33 (cI 0 0 0 (.slice none 0 0)),an g2 41 (bp S.n (.slice Bo S.on.length co) (.slice Bm S.may.length cm))] []) ?_ ?_
 ·refine ak (γ:=Unit) (fun _=>[(11,.bool false)]) (fun _ w'=>Hp w ab w' [an g4 33 (cI 0 0 0 (.slice none 0 0)),an g2 41 (bp S.n (.slice Bo S.on.length co) (.slice Bm S.may.length cm))] []) ?_ ?_
  ·refine H.ai 1 rfl dz bH ?_;refine aj (Hv z Bo co Bm cm _ (Y.same H.keeps)) ?_;rintro _ G ⟨rfl,q⟩;replace H:=H.same q;clear q;refine ae rfl ?_;refine H.ai 1 rfl dz bH ?_
   iterate 2 refine ae rfl ?_
   refine aj (c59 z l X D Bo co (.slice Bm S.may.length cm) rfl A c _ (Y.on.same H.keeps) (E.same H.keeps)) ?_;rintro _ I ⟨rfl,q⟩;replace H:=H.same q;clear q
   iterate 2 refine ae rfl ?_
   exact ⟨(),⟨rfl,trivial⟩,H⟩
  clear H;rintro ⟨⟩ u G H;refine ae rfl ?_;refine ay underlying44 ?_;refine au (fun J=>?_) (fun J=>?_)
  ·refine jf ?_;refine H.storeAll 0 rfl bw rfl dH ?_;clear H;intro I H;refine H.ai 0 rfl eL bw ?_;exact ⟨rfl,.inl ⟨by omega,rfl,H.keeps⟩⟩
  ·exact ⟨(),trivial,by omega,H⟩
 clear H;rintro ⟨⟩ u G ⟨s,H⟩;refine ak (γ:=Nat) (fun g6=>[(6,(ah g6))]) (fun g6 w'=>Hp w ab w' (D5 S (.slice Bo S.on.length co) (.slice Bm S.may.length cm) g2 g4 g6 0 none 0 []) [qT (fun _=>False) [] []]) ?_ ?_
 ·refine aa (iD _) ?_;refine H.load 1 rfl aE rfl ?_;refine aa (ie _) ?_;refine H.load 1 rfl eo rfl ?_;refine ay underlying39 ?_;refine Gc ?_;refine H.alloc 33 (cs:=cI 0 0 0 (.slice none 0 0)) nn rfl ?_;clear H;intro g6 I H;refine H.storeAll 0 rfl bw rfl dH ?_;clear H;intro Z H;exact ⟨g6,⟨rfl,trivial⟩,((H.bC 77 3).OR).b9 [1,0,2,3] (by decide) rfl⟩
 clear H;rintro g6 u I H;refine ak (γ:=Option Addr × Nat × List Hd × (Nat→Prop)) (fun _=>[]) (fun (B,d,hs,e) w'=>(∀ g,e g→w.heap.size≤g)∧Hp w ab w' (D5 S (.slice Bo S.on.length co) (.slice Bm S.may.length cm) g2 g4 g6 l.length B d hs) [qT e hs (l.map (hZ S.on.length))]) ?_ ?_
 ·refine ay underlying44 ?_;refine ax (γ:=Nat × Option Addr × Nat × List Hd × (Nat→Prop)) (fun (i,_)=>[(35,.int .i64 (i:Int))]) (fun (i,B,d,hs,e) w'=>(i≤l.length∧∀ g,e g→w.heap.size≤g)∧Hp w ab w' (D5 S (.slice Bo S.on.length co) (.slice Bm S.may.length cm) g2 g4 g6 i B d hs) [qT e hs ((l.take i).map (hZ S.on.length))]) (fun (i,_)=>l.length - i) (0,none,0,[],fun _=>False) ⟨rfl,trivial⟩ ⟨⟨Nat.zero_le _,fun g h=>h.elim⟩,H⟩ ?_;clear H;rintro ⟨i,B,d,hs,e⟩ u Z ⟨⟨hi,f⟩,H⟩;refine au (fun J=>?_) (fun J=>?_)
  ·obtain ⟨x,hx,t⟩:=lU (l:=l) (j:=i) (by omega);have K:=X x t;obtain ⟨m,v,o⟩:=x;have ho:=K.o;simp only at ho;obtain ⟨gA,oA,rfl⟩:=E.A (by omega);refine ak (γ:=Option Addr × Nat × List Hd × (Nat→Prop)) (fun _=>[]) (fun (B,d,hs,e) w'=>(∀ g,e g→w.heap.size≤g)∧Hp w ab w' (D5 S (.slice Bo S.on.length co) (.slice Bm S.may.length cm) g2 g4 g6 (i+1) B d hs) [qT e hs ((l.take (i+1)).map (hZ S.on.length))]) ?_ ?_
   ·refine ak (γ:=Nat) (fun g8=>[(8,(ah g8))]) (fun g8 w'=>Hp w ab w' (an g8 50 (dc m v o)::D5 S (.slice Bo S.on.length co) (.slice Bm S.may.length cm) g2 g4 g6 i B d hs) [qT e hs ((l.take i).map (hZ S.on.length))]) ?_ ?_
    ·refine aq underlying44 aX i rfl (by omega) (o':=oA+i*3) (by omega) ?_;refine Sl.dj H E bR fo aX i rfl hx ?_;refine H.alloc 50 (cs:=dc 0 0 0) ic rfl ?_;clear H;intro g8 M H;refine H.storeAll (cs':=dc m v o) 0 rfl aX rfl (dA _ _ _) ?_;clear H;intro w6 H;exact ⟨g8,⟨rfl,trivial⟩,H⟩
    clear H;rintro g8 u M H;refine ak (γ:=Nat) (fun g9=>[(9,(ah g9))]) (fun g9 w'=>Hp w ab w' (an g9 77 (fW m v (.slice none 0 0))::own 3 1 (.slice none 0 0) 0 []::an g8 50 (dc m v o)::D5 S (.slice Bo S.on.length co) (.slice Bm S.may.length cm) g2 g4 g6 i B d hs) [qT e hs ((l.take i).map (hZ S.on.length))]) ?_ ?_
    ·refine aa (fC _ _) ?_;refine H.cB 0 rfl [.int .u8 (m:Int),.int .u8 (v:Int)] bl aJ (fun j u p=>by match j,p with | 0,p=>exact p | 1,p=>exact p) ?_;refine xv ?_;refine H.alloc 77 (cs:=fW 0 0 (.slice none 0 0)) lY rfl ?_;clear H;intro g9 w6 H;refine H.storeAll 0 rfl cO rfl (e_ (m:=m) (v:=v)) ?_;clear H;intro w7 H;exact ⟨g9,⟨rfl,trivial⟩,(H.bC 3 1).b9 [1,0,2,3,4,5,6] (by decide) rfl⟩
    clear H;rintro g9 u w6 H;refine ak (γ:=Option Addr × Nat) (fun _=>[]) (fun (a,d2) w'=>Hp w ab w' (an g9 77 (fW m v (.slice a S.on.length d2))::own 3 1 (.slice a S.on.length d2) S.on.length (ints (gq S.on.length o))::an g8 50 (dc m v o)::D5 S (.slice Bo S.on.length co) (.slice Bm S.may.length cm) g2 g4 g6 i B d hs) [qT e hs ((l.take i).map (hZ S.on.length))]) ?_ ?_
    ·refine aa (eP _ _) ?_;refine H.load 3 rfl aE rfl ?_;refine ax (γ:=Nat × Option Addr × Nat) (fun (j,_)=>[(44,.int .i64 (j:Int))]) (fun (j,a,d2) w'=>j≤S.on.length∧Hp w ab w' (an g9 77 (fW m v (.slice a j d2))::own 3 1 (.slice a j d2) j (ints (gq j o))::an g8 50 (dc m v o)::D5 S (.slice Bo S.on.length co) (.slice Bm S.may.length cm) g2 g4 g6 i B d hs) [qT e hs ((l.take i).map (hZ S.on.length))]) (fun (j,_)=>S.on.length - j) (0,none,0) ⟨rfl,trivial⟩ ⟨Nat.zero_le _,H⟩ ?_;clear H;rintro ⟨j,a,d2⟩ u w7 ⟨p,H⟩;refine au (fun h9=>?_) (fun h9=>?_)
     ·refine ak (γ:=Option Addr × Nat) (fun _=>[]) (fun (a,d2) w'=>Hp w ab w' (an g9 77 (fW m v (.slice a (j+1) d2))::own 3 1 (.slice a (j+1) d2) (j+1) (ints (gq (j+1) o))::an g8 50 (dc m v o)::D5 S (.slice Bo S.on.length co) (.slice Bm S.may.length cm) g2 g4 g6 i B d hs) [qT e hs ((l.take i).map (hZ S.on.length))]) ?_ ?_
      ·refine ak (γ:=Unit) (fun _=>[(10,.int .i64 (j:Int))]) (fun _ w'=>Hp w ab w' (an g9 77 (fW m v (.slice a j d2))::own 3 1 (.slice a j d2) j (ints (gq j o))::an g8 50 (dc m v o)::D5 S (.slice Bo S.on.length co) (.slice Bm S.may.length cm) g2 g4 g6 i B d hs) [qT e hs ((l.take i).map (hZ S.on.length))]) ⟨(),⟨rfl,trivial⟩,H⟩ ?_;clear H;rintro ⟨⟩ u w8 H;have e1:ints (gq (j+1) o)=ints (gq j o)++[.int .i64 (((o / 2^j) &&&1:Nat):Int)]:=by unfold gq;rw[og];unfold ints;rw[List.map_append];rfl
       refine H.fE [an g9 77 (fW m v (.slice a j d2)),an g8 50 (dc m v o)] (fun u h=>h.b9 [0,2] (by decide) rfl) eN (by kernel_rfl) ?_;clear H;intro k H;refine quiet _ (fun w H=>aa (eQ _) af) ?_;refine quiet _ (fun w H=>H.load 0 rfl fl rfl af) ?_;refine quiet _ (fun w H=>aa (dh _ _) af) ?_;refine quiet _ (fun w H=>H.load 1 rfl b7 rfl af) ?_;refine quiet _ (fun w H=>fj (by omega) af) ?_;refine quiet _ (fun w H=>eg (b:=1) (Nat.lt_of_le_of_lt (Nat.div_le_self _ _) ho) (by omega) af) ?_;have h1:(o / 2^j) &&&1≤1:=Nat.and_le_right;refine quiet _ (fun w H=>eF (by kernel_rfl) underlying3 (by omega) (by omega) af) ?_;refine H.aY dU rfl ?_;clear H;intro gx w11 H;refine ⟨.inl (H.b9 [1,3] (by decide) rfl),?_⟩;refine H.aG 2 0 dU rfl rfl rfl (fun u hu=>by rw[List.mem_singleton.1 hu];rfl) (by omega) (by omega) ?_;clear H;intro C d4 w12 H;refine ⟨.inl (H.b9 [1,3] (by decide) rfl),?_⟩;refine quiet _ (fun w H=>aa (eQ _) af) ?_;refine H.store 1 rfl qF (Nat.le_of_ble_eq_true rfl) rfl ?_;clear H;intro w13 H;refine ⟨.inr rfl,?_⟩;exact ⟨(C,d4),trivial,by rw[e1];exact H.forget⟩
      ·clear H;rintro ⟨O,d3⟩ u w8 H;exact ⟨(j+1,O,d3),by show S.on.length - (j+1)<S.on.length - j;omega,⟨up (by omega),trivial⟩,by show j+1≤S.on.length;omega,H⟩
     ·obtain rfl:j=S.on.length:=by omega
      exact ⟨(a,d2),trivial,H⟩
    clear H;rintro ⟨a,d2⟩ u w7 H;refine aa (dC _ _) ?_;refine H.load 3 rfl fQ rfl ?_;refine H.ai 0 rfl mK cO ?_;refine H.bk I6 (cs:=fW m v (.slice a S.on.length d2)) (by decide) (by decide) (by kernel_rfl) ?_;clear H;intro gx w8 H;refine H.aG 5 0 I6 rfl rfl rfl e_ (by omega) (by omega) ?_;clear H;intro C d4 w9 H;replace H:=H.forget;refine aa (dC _ _) ?_;refine H.store 3 rfl xr (Nat.le_of_ble_eq_true rfl) rfl ?_;clear H;intro k H;have hb:(gq S.on.length o).length=S.on.length:=np _ _;have Q:(l.take (i+1)).map (hZ S.on.length)=(l.take i).map (hZ S.on.length)++[(m,v,gq S.on.length o)]:=by rw[List.take_add_one,hx,List.map_append];rfl
    have H2:Hp w ab k (own 3 1 (.slice a S.on.length d2) ((m,v,gq S.on.length o):Ln).2.2.length (ints ((m,v,gq S.on.length o):Ln).2.2)::D5 S (.slice Bo S.on.length co) (.slice Bm S.may.length cm) g2 g4 g6 (i+1) C d4 (hs++[(m,v,.slice a S.on.length d2)])) [qT e hs ((l.take i).map (hZ S.on.length))]:=by
     show Hp w ab k (own 3 1 (.slice a S.on.length d2) (gq S.on.length o).length (ints (gq S.on.length o))::_) _;rw[hb];unfold D5;rw[show flat la (hs++[(m,v,.slice a S.on.length d2)])=flat la hs++la (m,v,.slice a S.on.length d2) from dD ..];exact H.b9 [1,3,4,5,6] (by decide) rfl
    clear H;obtain ⟨S',H3,T⟩:=H2.Nc f;exact ⟨(C,d4,hs++[(m,v,.slice a S.on.length d2)],S'),trivial,T,by rw[Q];exact H3⟩
   ·clear H;rintro ⟨O,d3,U,S3⟩ u M ⟨V,H⟩;exact ⟨(i+1,O,d3,U,S3),by show l.length - (i+1)<l.length - i;omega,⟨up (by omega),trivial⟩,⟨by show i+1≤l.length;omega,V⟩,H⟩
  ·obtain rfl:i=l.length:=by omega
   exact ⟨(B,d,hs,e),trivial,f,by rw[List.take_length] at H;exact H⟩
 clear H;rintro ⟨B,d,hs,e⟩ u Z ⟨f,H⟩;refine H.ai 0 rfl eL bw ?_;refine H.storeAll 2 rfl bw rfl dH ?_;clear H;intro M H;refine H.ai 2 rfl eL bw ?_;exact ⟨rfl,.inr ⟨s,_,_,rfl,xq H.keeps (H.get 1 rfl) (fun g y=>⟨(H.new _ (.tail _ (.head _)) g y).resolve_right id,H.lt _ (.tail _ (.head _)) g y⟩) (H.ro 0 rfl) (fun g y=>⟨f g y,H.rlt _ (.head _) g y⟩) (by rw[List.length_map])⟩⟩
end Go.Proofs.YtpjihhgjbbihkaaGreatDoor
namespace Go.Dk
section
variable {P:Program} {w:World} {kk:Value→World→Prop}
theorem Ck (l:List UInt8)(i j:Nat):(⟨l.toArray⟩:ByteArray).extract i j=⟨((l.take j).drop i).toArray⟩:=by
 rw[ByteArray.ext_iff,ByteArray.data_extract];apply Array.ext';simp[List.drop_take,List.extract_eq_take_drop]
theorem rE {t:TypeId}{l:List UInt8}{kd a:IntKind}{x y:Int}(b:P.underlying t=some .string)(i j:Nat)(c:x=(i:Int))(d:y=(j:Int))(e:i≤j)(f:j≤l.length)(h:kk (aU ((l.take j).drop i)) w) :
  fg P t (aU l) (some (.int kd x)) (some (.int a y)) none w kk:=by
 subst c;subst d;unfold fg;refine ⟨_,w,?_,h⟩;have hs:(⟨l.toArray⟩:ByteArray).size=l.length:=rfl;simp only[aU,Instr.sliceAt,Sem.run_bind,run_underlying b,Result.andThen_ok,Instr.slice,Instr.sliceBounds,Instr.sliceBound,asIntOf,Sem.run_pure,hs];simp[e,f,Ck,Sem.run_bind,Sem.run_pure]
theorem A_ {t:TypeId}{l:List UInt8}{kd:IntKind}{y:Int}(a:P.underlying t=some .string)(j:Nat)(b:y=(j:Int))(c:j≤l.length)(h:kk (aU (l.take j)) w) :
  fg P t (aU l) none (some (.int kd y)) none w kk:=by
 subst b;unfold fg;refine ⟨_,w,?_,h⟩;have hs:(⟨l.toArray⟩:ByteArray).size=l.length:=rfl;simp only[aU,Instr.sliceAt,Sem.run_bind,run_underlying a,Result.andThen_ok,Instr.slice,Instr.sliceBounds,Instr.sliceBound,asIntOf,Sem.run_pure,hs];simp[c,Ck,Sem.run_bind,Sem.run_pure]
end
def cX (n:Nat):List UInt8:=if n<10 then [UInt8.ofNat (48+n)] else [UInt8.ofNat (48+n / 10),UInt8.ofNat (48+n % 10)]
def dS (k:Nat):List UInt8:=if k=0 then [102] else if k=1 then [102,100] else if k=2 then [102,114] else [102,100,114]
def fa (x:Nat):UInt8:=if x=0 then 48 else if x=1 then 49 else 45
def gV (ni:Nat)(l:Ln):List UInt8:=dW l.1 l.2.1 ni++32::l.2.2.map fa
def fp (t:Tb):List UInt8:=[46,105,32]++cX t.ni++[10,46,111,32]++cX t.no++[10,46,116,121,112,101,32]++dS t.kd++[10,46,112,32]++cX t.ls.length++[10]
def dF (ni:Nat)(ls:List Ln):List UInt8:=ls.flatMap fun l=>gV ni l++[10]
def cP (t:Tb):List UInt8:=fp t++dF t.ni t.ls++[46,101,10]
theorem Ba (ni:Nat)(ls:List Ln)(l:Ln):dF ni (ls++[l])=dF ni ls++(gV ni l++[10]):=by simp[dF]
theorem j0 {n:Nat}(h:n<100):Lib.decDigits n=cX n:=by
 unfold cX;split
 ·exact Lib.decDigits_one (by assumption)
 ·exact Lib.decDigits_two (by assumption) h
theorem j1 (n:Nat):(cX n).length≤2:=by unfold cX;split <;> simp
theorem Gd {x:Nat}(h:x<3):(([48,49,45]:List UInt8).take (x+1)).drop x=[fa x]:=by
 rcases (by omega:x=0∨x=1∨x=2) with rfl | rfl | rfl <;> rfl
theorem rF (k:Nat):(dS k).length≤3:=by unfold dS;split;decide;split;decide;split <;> decide
end Go.Dk
namespace Go.Proofs.YtpjihhgjbbihkaaGreatDoor
open Go.Proofs.Tryz
open Go.Dk
set_option maxRecDepth 100000
attribute [local irreducible] IntKind.wrap
theorem DH {ni no:Nat}{l:Ln}(h:uW ni no l):(gV ni l).length=ni+1+no:=by
 unfold gV;rw[List.length_append,List.length_cons,List.length_map,h.len];simp[dW];omega
theorem mL {ni no:Nat}(a:ni≤8)(b:no≤4):∀ (ls:List Ln),(∀ l ∈ ls,uW ni no l)→(dF ni ls).length≤14*ls.length
 | [],_=>by simp[dF]
 | l::ls,h=>by
  have c:=DH (h l (.head _));have f:=mL a b ls fun x d=>h x (.tail _ d);have e:dF ni (l::ls)=(gV ni l++[10])++dF ni ls:=by simp[dF]
  rw[e,List.length_append,List.length_append,List.length_cons,List.length_cons,c];simp only[List.length_nil];omega
theorem rG {t:Tb}(a:j7 t):(fp t).length≤100:=by
 have b:=j1 t.ni;have c:=j1 t.no;have d:=j1 t.ls.length;have e:=rF t.kd;simp[fp];omega
theorem qG {k:Nat}(a:k≤3):(#[aU [102],aU [102,100],aU [102,114],aU [102,100,114]]:Array Value)[k]?=some (aU (dS k)):=by
 rcases (by omega:k=0∨k=1∨k=2∨k=3) with rfl | rfl | rfl | rfl <;> rfl
abbrev Li:Array Value:=#[aU [102],aU [102,100],aU [102,114],aU [102,100,114]]
theorem Io {l:List Nat}{i x:Nat}(h:l[i]?=some x):(ints l)[i]?=some (.int .i64 (x:Int)):=by simp[ints,h]
theorem Ng:enters prog 61=true:=by kernel_rfl
theorem OS (w:World):bz prog 61 [] w fun r w'=>∃ g,r=.slice (some ⟨g,0,none⟩) 4 4∧eW w w' (an g 9 Li):=by
 refine ar (N:=2) func61 Ng rfl rfl rfl (by simp) ?_;have H:=Hp.aC w;refine H.bk Ob (cs:=Li) (by decide) (by decide) (by kernel_rfl) ?_;clear H;intro g a H;exact ⟨g,rfl,H.out⟩
theorem Nh:enters prog 29=true:=by kernel_rfl
theorem Pz {t:Tb}(f:j7 t)(v:Value)(w:World)(hg:jD w)(hA:jm w v t.ls):bz prog 29 [sN t.kd t.ni t.no v] w fun r w'=>r=.tuple #[aU (cP t),.int .i64 0]∧aT w w':=by
 refine ar (N:=75) func29 Nh rfl rfl rfl (by simp) ?_;have H:=Hp.aC w;obtain ⟨B,c,hs,rfl,E,hsl,Q⟩:=hA.uq;have F:=f.no4;have q:=f.ni;have G:=f.kd;have hfew:=f.few;have S:=rG f;refine ak (γ:=Nat) (fun g1=>[(1,(ah g1))]) (fun g1 w'=>Hp w ab w' [an g1 33 (cI t.kd t.ni t.no (.slice B t.ls.length c))] []) ?_ ?_
 ·refine H.box 33 _ (cs:=cI t.kd t.ni t.no (.slice B t.ls.length c)) rfl ?_;clear H;intro g1 w1 H;exact ⟨g1,⟨rfl,trivial⟩,H⟩
 clear H;rintro g1 u w1 H;refine aw (fun w'=>Hp w ab w' [an g1 33 (cI t.kd t.ni t.no (.slice B t.ls.length c))] []) ?_ ?_
 ·refine H.ai 0 rfl eL bw ?_;refine aj (c49 f _ _ (hA.same H.keeps)) ?_;rintro _ w2 ⟨rfl,d⟩;replace H:=H.same d;refine ae rfl ?_;exact ⟨(),trivial,H⟩
 clear H;rintro ⟨⟩ u w2 H;refine ak (γ:=Unit) (fun _=>[(4,aU (fp t))]) (fun _ w'=>Hp w ab w' [an g1 33 (cI t.kd t.ni t.no (.slice B t.ls.length c))] []) ?_ ?_
 ·have l1:=j1 t.ni;have l2:=j1 t.no;have l3:=j1 t.ls.length;have l4:=rF t.kd;refine wq (fun i=>i==14) (fun u=>Hp w ab u [an g1 33 (cI t.kd t.ni t.no (.slice B t.ls.length c))] []) [([2,7,10,14,20],[0,1,2,3,4,5,6,7,8,9,10,11,12,13,14,15,16,17,18,19,20,21,22,23]),([2,7,10,20,14],[0,1,2,3,4,5,6,7,8,9,10,11,12,13,17,18,19,20,14,15,16,21,22,23])] eN (by kernel_rfl) (H.same (aS.drew _)) ?_;replace H:=H.same (aS.drew _);generalize w2.drew=w3 at H;refine List.forall_mem_cons.2 ⟨?_,List.forall_mem_cons.2 ⟨?_,fun z hz=>by cases hz⟩⟩
  ·refine quiet _ (fun w H=>aa (dY _ _) af) ?_;refine quiet _ (fun w H=>H.load 0 rfl aE rfl af) ?_;refine aj (vO t.ni (by omega) _) ?_;rintro _ g ⟨rfl,d⟩;rw[j0 (by omega)];replace H:=H.same d;clear d;refine ⟨.inl H,?_⟩;refine quiet _ (fun w H=>a8 (a:=[46,105,32]) (b:=cX t.ni) (by simp only[List.length_append,List.length_cons,List.length_nil];omega) af) ?_;refine quiet _ (fun w H=>a8 (a:=([46,105,32]++cX t.ni)) (b:=[10,46,111,32]) (by simp only[List.length_append,List.length_cons,List.length_nil];omega) af) ?_;refine quiet _ (fun w H=>aa (eP _ _) af) ?_;refine quiet _ (fun w H=>H.load 0 rfl aE rfl af) ?_;refine aj (vO t.no (by omega) _) ?_;rintro _ g ⟨rfl,d⟩;rw[j0 (by omega)];replace H:=H.same d;clear d;refine ⟨.inl H,?_⟩;refine quiet _ (fun w H=>a8 (a:=([46,105,32]++cX t.ni++[10,46,111,32])) (b:=cX t.no) (by simp only[List.length_append,List.length_cons,List.length_nil];omega) af) ?_;refine quiet _ (fun w H=>a8 (a:=([46,105,32]++cX t.ni++[10,46,111,32]++cX t.no)) (b:=[10,46,116,121,112,101,32]) (by simp only[List.length_append,List.length_cons,List.length_nil];omega) af) ?_;refine aj (OS _) ?_;rintro _ I ⟨gk,rfl,J⟩;replace H:=H.bq J;clear J;refine ⟨.inl H.forget,?_⟩;refine quiet _ (fun w H=>aa (cC _ _) af) ?_;refine quiet _ (fun w H=>H.load 0 rfl aE rfl af) ?_;refine quiet _ (fun w H=>aq underlying73 qc t.kd rfl (by omega) (o':=t.kd) (by omega) af) ?_;refine H.load 0 rfl wC (qG G) ?_;refine ⟨.inl H.forget,?_⟩;refine quiet _ (fun w H=>a8 (a:=([46,105,32]++cX t.ni++[10,46,111,32]++cX t.no++[10,46,116,121,112,101,32])) (b:=dS t.kd) (by simp only[List.length_append,List.length_cons,List.length_nil];omega) af) ?_;refine quiet _ (fun w H=>a8 (a:=([46,105,32]++cX t.ni++[10,46,111,32]++cX t.no++[10,46,116,121,112,101,32]++dS t.kd)) (b:=[10,46,112,32]) (by simp only[List.length_append,List.length_cons,List.length_nil];omega) af) ?_;refine quiet _ (fun w H=>aa (dC _ _) af) ?_;refine quiet _ (fun w H=>H.load 0 rfl fQ rfl af) ?_;refine quiet _ (fun w H=>ay underlying31 af) ?_;refine aj (vO t.ls.length (by omega) _) ?_;rintro _ g ⟨rfl,d⟩;rw[j0 (by omega)];replace H:=H.same d;clear d;refine ⟨.inl H.forget,?_⟩;refine quiet _ (fun w H=>a8 (a:=([46,105,32]++cX t.ni++[10,46,111,32]++cX t.no++[10,46,116,121,112,101,32]++dS t.kd++[10,46,112,32])) (b:=cX t.ls.length) (by simp only[List.length_append,List.length_cons,List.length_nil];omega) af) ?_;refine quiet _ (fun w H=>a8 (a:=([46,105,32]++cX t.ni++[10,46,111,32]++cX t.no++[10,46,116,121,112,101,32]++dS t.kd++[10,46,112,32]++cX t.ls.length)) (b:=[10]) (by simp only[List.length_append,List.length_cons,List.length_nil];omega) af) ?_;exact ⟨(),⟨rfl,trivial⟩,H.forget⟩
  ·refine quiet _ (fun w H=>aa (dY _ _) af) ?_;refine quiet _ (fun w H=>H.load 0 rfl aE rfl af) ?_;refine aj (vO t.ni (by omega) _) ?_;rintro _ g ⟨rfl,d⟩;rw[j0 (by omega)];replace H:=H.same d;clear d;refine ⟨.inl H,?_⟩;refine quiet _ (fun w H=>a8 (a:=[46,105,32]) (b:=cX t.ni) (by simp only[List.length_append,List.length_cons,List.length_nil];omega) af) ?_;refine quiet _ (fun w H=>a8 (a:=([46,105,32]++cX t.ni)) (b:=[10,46,111,32]) (by simp only[List.length_append,List.length_cons,List.length_nil];omega) af) ?_;refine quiet _ (fun w H=>aa (eP _ _) af) ?_;refine quiet _ (fun w H=>H.load 0 rfl aE rfl af) ?_;refine aj (vO t.no (by omega) _) ?_;rintro _ g ⟨rfl,d⟩;rw[j0 (by omega)];replace H:=H.same d;clear d;refine ⟨.inl H,?_⟩;refine quiet _ (fun w H=>a8 (a:=([46,105,32]++cX t.ni++[10,46,111,32])) (b:=cX t.no) (by simp only[List.length_append,List.length_cons,List.length_nil];omega) af) ?_;refine quiet _ (fun w H=>a8 (a:=([46,105,32]++cX t.ni++[10,46,111,32]++cX t.no)) (b:=[10,46,116,121,112,101,32]) (by simp only[List.length_append,List.length_cons,List.length_nil];omega) af) ?_;refine aj (OS _) ?_;rintro _ I ⟨gk,rfl,J⟩;replace H:=H.bq J;clear J;refine ⟨.inl H.forget,?_⟩;refine quiet _ (fun w H=>aa (cC _ _) af) ?_;refine quiet _ (fun w H=>H.load 0 rfl aE rfl af) ?_;refine quiet _ (fun w H=>aq underlying73 qc t.kd rfl (by omega) (o':=t.kd) (by omega) af) ?_;refine quiet _ (fun w H=>aa (dC _ _) af) ?_;refine quiet _ (fun w H=>H.load 0 rfl fQ rfl af) ?_;refine quiet _ (fun w H=>ay underlying31 af) ?_;refine aj (vO t.ls.length (by omega) _) ?_;rintro _ g ⟨rfl,d⟩;rw[j0 (by omega)];replace H:=H.same d;clear d;refine ⟨.inl H.forget,?_⟩;refine H.load 0 rfl wC (qG G) ?_;refine ⟨.inl H.forget,?_⟩;refine quiet _ (fun w H=>a8 (a:=([46,105,32]++cX t.ni++[10,46,111,32]++cX t.no++[10,46,116,121,112,101,32])) (b:=dS t.kd) (by simp only[List.length_append,List.length_cons,List.length_nil];omega) af) ?_;refine quiet _ (fun w H=>a8 (a:=([46,105,32]++cX t.ni++[10,46,111,32]++cX t.no++[10,46,116,121,112,101,32]++dS t.kd)) (b:=[10,46,112,32]) (by simp only[List.length_append,List.length_cons,List.length_nil];omega) af) ?_;refine quiet _ (fun w H=>a8 (a:=([46,105,32]++cX t.ni++[10,46,111,32]++cX t.no++[10,46,116,121,112,101,32]++dS t.kd++[10,46,112,32])) (b:=cX t.ls.length) (by simp only[List.length_append,List.length_cons,List.length_nil];omega) af) ?_;refine quiet _ (fun w H=>a8 (a:=([46,105,32]++cX t.ni++[10,46,111,32]++cX t.no++[10,46,116,121,112,101,32]++dS t.kd++[10,46,112,32]++cX t.ls.length)) (b:=[10]) (by simp only[List.length_append,List.length_cons,List.length_nil];omega) af) ?_;exact ⟨(),⟨rfl,trivial⟩,H.forget⟩
 clear H;rintro ⟨⟩ u w3 H;refine ak (γ:=Unit) (fun _=>[(4,aU (fp t++dF t.ni t.ls))]) (fun _ w'=>aT w w') ?_ ?_
 ·refine aa (dC _ _) ?_;refine H.load 0 rfl fQ rfl ?_;refine ay underlying31 ?_;refine ax (γ:=Nat) (fun i=>[(40,.int .i64 (i:Int)),(4,aU (fp t++dF t.ni (t.ls.take i)))]) (fun i w'=>i≤t.ls.length∧Hp w ab w' [an g1 33 (cI t.kd t.ni t.no (.slice B t.ls.length c))] []) (fun i=>t.ls.length - i) 0 ⟨rfl,congrArg aU (by rw[show dF t.ni (t.ls.take 0)=[] from rfl,List.append_nil]:fp t=fp t++dF t.ni (t.ls.take 0)),trivial⟩ ⟨Nat.zero_le _,H⟩ ?_;clear H;rintro i u g ⟨hi,H⟩;have T:(dF t.ni (t.ls.take i)).length≤14*64:=by
   have h:=mL q F (t.ls.take i) fun l O=>f.ls l (List.mem_of_mem_take O);rw[List.length_take] at h;omega
  refine au (fun h7=>?_) (fun h7=>?_)
  ·have s:i<t.ls.length:=by omega
   obtain ⟨l,O,U⟩:∃ l,t.ls[i]?=some l∧l ∈ t.ls:=⟨_,List.getElem?_eq_getElem s,List.getElem_mem s⟩;obtain ⟨B',y,V,K⟩:=Q i l O;have C:=f.ls l U;have hol:=C.len;obtain ⟨s1,s2,s3⟩:=lb f.ni C;obtain ⟨o,k,rfl⟩:=E.A (by omega);obtain ⟨D,p,rfl⟩:=K.A (by have:=f.no1;omega);have X:t.ls.take (i+1)=t.ls.take i++[l]:=by rw[List.take_add_one,O];rfl
   have n:(dW l.1 l.2.1 t.ni).length=t.ni:=by simp[dW]
   refine ak (γ:=Unit) (fun _=>[(4,aU (fp t++dF t.ni (t.ls.take (i+1))))]) (fun _ w'=>Hp w ab w' [an g1 33 (cI t.kd t.ni t.no (.slice (some ⟨o,k,none⟩) t.ls.length c))] []) ?_ ?_
   ·refine ak (γ:=Nat) (fun g9=>[(6,(ah g9))]) (fun g9 w'=>Hp w ab w' [an g9 77 (fW l.1 l.2.1 (.slice (some ⟨D,p,none⟩) l.2.2.length y)),an g1 33 (cI t.kd t.ni t.no (.slice (some ⟨o,k,none⟩) t.ls.length c))] []) ?_ ?_
    ·refine aq underlying31 cO i rfl s (o':=k+i*3) (by omega) ?_;refine Sl.dj H E e8 mK cO i rfl V ?_;refine H.alloc 77 (cs:=fW 0 0 (.slice none 0 0)) lY rfl ?_;clear H;intro g4 g H;refine H.storeAll 0 rfl cO rfl (e_ (m:=l.1) (v:=l.2.1)) ?_;clear H;intro I H;exact ⟨g4,⟨rfl,trivial⟩,H⟩
    clear H;rintro g9 u g H;refine ak (γ:=Unit) (fun _=>[(7,aU (dW l.1 l.2.1 t.ni))]) (fun _ w'=>Hp w ab w' [an g9 77 (fW l.1 l.2.1 (.slice (some ⟨D,p,none⟩) l.2.2.length y)),an g1 33 (cI t.kd t.ni t.no (.slice (some ⟨o,k,none⟩) t.ls.length c))] []) ?_ ?_
    ·refine aa (xt _) ?_;refine fT (H.get 0 rfl) (cc l.1 l.2.1).toList bl aJ (sO _ _ _) ?_;refine aa (dY _ _) ?_;refine H.load 1 rfl aE rfl ?_;refine aj (Mh l.1 l.2.1 s1 s2 t.ni q s3 _) ?_;rintro _ I ⟨rfl,d⟩;exact ⟨(),⟨rfl,trivial⟩,H.same d⟩
    clear H;rintro ⟨⟩ u I H;refine ak (γ:=Unit) (fun _=>[(4,aU (fp t++dF t.ni (t.ls.take i)++(dW l.1 l.2.1 t.ni++[32])))]) (fun _ w'=>Hp w ab w' [an g9 77 (fW l.1 l.2.1 (.slice (some ⟨D,p,none⟩) l.2.2.length y)),an g1 33 (cI t.kd t.ni t.no (.slice (some ⟨o,k,none⟩) t.ls.length c))] []) ?_ ?_
    ·refine a8 (a:=dW l.1 l.2.1 t.ni) (b:=[32]) (by rw[n];simp only[List.length_cons,List.length_nil];omega) ?_;refine a8 (a:=fp t++dF t.ni (t.ls.take i)) (by simp only[List.length_append,List.length_cons,List.length_nil,n];omega) ?_;exact ⟨(),⟨rfl,trivial⟩,H⟩
    clear H;rintro ⟨⟩ u w6 H;refine ak (γ:=Unit) (fun _=>[(4,aU (fp t++dF t.ni (t.ls.take i)++(dW l.1 l.2.1 t.ni++[32])++l.2.2.map fa))]) (fun _ w'=>Hp w ab w' [an g9 77 (fW l.1 l.2.1 (.slice (some ⟨D,p,none⟩) l.2.2.length y)),an g1 33 (cI t.kd t.ni t.no (.slice (some ⟨o,k,none⟩) t.ls.length c))] []) ?_ ?_
    ·refine aa (eQ _) ?_;refine H.load 0 rfl fl rfl ?_;refine ay underlying75 ?_;refine ax (γ:=Nat) (fun j=>[(59,.int .i64 (j:Int)),(4,aU (fp t++dF t.ni (t.ls.take i)++(dW l.1 l.2.1 t.ni++[32])++(l.2.2.take j).map fa))]) (fun j w'=>j≤l.2.2.length∧Hp w ab w' [an g9 77 (fW l.1 l.2.1 (.slice (some ⟨D,p,none⟩) l.2.2.length y)),an g1 33 (cI t.kd t.ni t.no (.slice (some ⟨o,k,none⟩) t.ls.length c))] []) (fun j=>l.2.2.length - j) 0 ⟨rfl,congrArg aU (by rw[List.take_zero,List.map_nil,List.append_nil]:fp t++dF t.ni (t.ls.take i)++(dW l.1 l.2.1 t.ni++[32])=fp t++dF t.ni (t.ls.take i)++(dW l.1 l.2.1 t.ni++[32])++(l.2.2.take 0).map fa),trivial⟩ ⟨Nat.zero_le _,H⟩ ?_;clear H;rintro j u w7 ⟨hj,H⟩;refine au (fun h9=>?_) (fun h9=>?_)
     ·have M:j<l.2.2.length:=by omega
      obtain ⟨x,hx,Y⟩:∃ x,l.2.2[j]?=some x∧x ∈ l.2.2:=⟨_,List.getElem?_eq_getElem M,List.getElem_mem M⟩;have Z:=C.marks x Y;have a0:l.2.2.take (j+1)=l.2.2.take j++[x]:=by rw[List.take_add_one,hx];rfl
      refine ak (γ:=Unit) (fun _=>[(4,aU (fp t++dF t.ni (t.ls.take i)++(dW l.1 l.2.1 t.ni++[32])++(l.2.2.take (j+1)).map fa))]) (fun _ w'=>Hp w ab w' [an g9 77 (fW l.1 l.2.1 (.slice (some ⟨D,p,none⟩) l.2.2.length y)),an g1 33 (cI t.kd t.ni t.no (.slice (some ⟨o,k,none⟩) t.ls.length c))] []) ?_ ?_
      ·refine ak (γ:=Unit) (fun _=>[(10,.int .i64 (x:Int))]) (fun _ w'=>Hp w ab w' [an g9 77 (fW l.1 l.2.1 (.slice (some ⟨D,p,none⟩) l.2.2.length y)),an g1 33 (cI t.kd t.ni t.no (.slice (some ⟨o,k,none⟩) t.ls.length c))] []) ?_ ?_
       ·refine aq underlying75 a_ j rfl (by omega) (o':=p+j) (by omega) ?_;refine aB aE (((K.same H.keeps).cell j (by omega)).trans (Io hx)) ?_;exact ⟨(),⟨rfl,trivial⟩,H⟩
       clear H;rintro ⟨⟩ u w8 H;refine rE (l:=[48,49,45]) underlying9 x (x+1) rfl (aH (by omega) (by omega)) (by omega) (by simp only[List.length_cons,List.length_nil];omega) ?_;rw[Gd Z];refine a8 (a:=fp t++dF t.ni (t.ls.take i)++(dW l.1 l.2.1 t.ni++[32])++(l.2.2.take j).map fa) (by simp only[List.length_append,List.length_cons,List.length_nil,List.length_map,List.length_take,n];omega) ?_;have e:fp t++dF t.ni (t.ls.take i)++(dW l.1 l.2.1 t.ni++[32])++(l.2.2.take j).map fa++[fa x]=fp t++dF t.ni (t.ls.take i)++(dW l.1 l.2.1 t.ni++[32])++(l.2.2.take (j+1)).map fa:=by rw[a0,List.map_append];exact List.append_assoc _ _ _
       exact ⟨(),⟨congrArg aU e,trivial⟩,H⟩
      ·clear H;rintro ⟨⟩ u w8 H;exact ⟨j+1,by show l.2.2.length - (j+1)<l.2.2.length - j;omega,⟨up (by omega),rfl,trivial⟩,by show j+1≤l.2.2.length;omega,H⟩
     ·obtain rfl:j=l.2.2.length:=by omega
      exact ⟨(),⟨congrArg aU (by rw[List.take_length]:fp t++dF t.ni (t.ls.take i)++(dW l.1 l.2.1 t.ni++[32])++(l.2.2.take l.2.2.length).map fa=fp t++dF t.ni (t.ls.take i)++(dW l.1 l.2.1 t.ni++[32])++l.2.2.map fa),trivial⟩,H⟩
    clear H;rintro ⟨⟩ u w7 H;refine a8 (a:=fp t++dF t.ni (t.ls.take i)++(dW l.1 l.2.1 t.ni++[32])++l.2.2.map fa) (b:=[10]) (by simp only[List.length_append,List.length_cons,List.length_nil,List.length_map,n];omega) ?_;have e:fp t++dF t.ni (t.ls.take i)++(dW l.1 l.2.1 t.ni++[32])++l.2.2.map fa++[10]=fp t++dF t.ni (t.ls.take (i+1)):=by
     rw[X,Ba];unfold gV;simp only[List.append_assoc,List.cons_append,List.nil_append]
    exact ⟨(),⟨congrArg aU e,trivial⟩,H.forget⟩
   ·clear H;rintro ⟨⟩ u I H;exact ⟨i+1,by show t.ls.length - (i+1)<t.ls.length - i;omega,⟨up (by omega),rfl,trivial⟩,by show i+1≤t.ls.length;omega,H⟩
  ·obtain rfl:i=t.ls.length:=by omega
   exact ⟨(),⟨congrArg aU (by rw[List.take_length]:fp t++dF t.ni (t.ls.take t.ls.length)=fp t++dF t.ni t.ls),trivial⟩,H.keeps⟩
 clear H;rintro ⟨⟩ u g d;have T:=mL q F t.ls f.ls;refine a8 (a:=fp t++dF t.ni t.ls) (b:=[46,101,10]) (by simp only[List.length_append,List.length_cons,List.length_nil];omega) ?_;exact ⟨rfl,d⟩
end Go.Proofs.YtpjihhgjbbihkaaGreatDoor
namespace Go.Dk
theorem Ip {l:List UInt8}{n:Int}(h:Lib.atoiAll l=.ok n):-9223372036854775808≤n∧n≤9223372036854775807:=by
 unfold Lib.atoiAll at h;split at h
 ·cases h
 ·simp only at h;split at h
  ·cases h
  ·cases h
  ·split at h
   ·cases h
   ·split at h
    ·cases h
    ·injection h with h;subst h;split <;> omega
def eu (wd:List UInt8)(lo hi:Nat)(line:List UInt8):Int:=
 match (List.range (hi+1)).find? (fun n=>decide (lo≤n)&&(line==wd++32::cX n)) with
 | some n=>n
 | none=> -1
theorem Ge {n m:Nat}(a:n<65)(hm:m<65)(h:cX n=cX m):n=m:=by
 have key:((List.range 65).all fun n=>(List.range 65).all fun m=>n==m||cX n !=cX m)=true:=by decide +kernel
 rw[List.all_eq_true] at key;have:=key n (List.mem_range.2 a);rw[List.all_eq_true] at this;have:=this m (List.mem_range.2 hm);rw[Bool.or_eq_true,beq_iff_eq,bne_iff_ne] at this;exact this.resolve_right fun b=>b h
theorem DI {n:Nat}(a:n<65):Lib.atoiAll (cX n)=.ok (n:Int):=by
 have key:((List.range 65).all fun n=>match Lib.atoiAll (cX n) with | .ok m=>m==(n:Int) | _=>false)=true:=by decide +kernel
 rw[List.all_eq_true] at key;have:=key n (List.mem_range.2 a);split at this
 ·rename_i m hm;rw[hm,beq_iff_eq.1 this]
 ·cases this
theorem qH {wd:List UInt8}{lo hi n:Nat}{line:List UInt8}(c:hi<65)(d:lo≤n)(e:n≤hi)(h:line=wd++32::cX n):eu wd lo hi line=n:=by
 unfold eu
 cases hf:(List.range (hi+1)).find? (fun n=>decide (lo≤n)&&(line==wd++32::cX n)) with
 | none=>
  have:=List.find?_eq_none.1 hf n (List.mem_range.2 (by omega));simp[d,h] at this
 | some m=>
  have b:=List.find?_some hf;have f:=List.mem_range.1 (List.mem_of_find?_eq_some hf);simp only[Bool.and_eq_true,decide_eq_true_eq,beq_iff_eq] at b;have a:=b.2;rw[h] at a;have a:=List.append_cancel_left a;injection a with _ a;have:=Ge (by omega) (by omega) a;subst this;rfl
theorem vR {wd:List UInt8}{lo hi:Nat}{line:List UInt8}(h:∀ n,lo≤n→n≤hi→line≠wd++32::cX n):eu wd lo hi line= -1:=by
 unfold eu;have:(List.range (hi+1)).find? (fun n=>decide (lo≤n)&&(line==wd++32::cX n))=none:=by
  rw[List.find?_eq_none];intro n b;have:=List.mem_range.1 b;intro a;simp only[Bool.and_eq_true,decide_eq_true_eq,beq_iff_eq] at a;exact h n a.1 (by omega) a.2
 rw[this]
theorem vS {wd:List UInt8}{lo hi:Nat}{line:List UInt8}(h:0≤eu wd lo hi line):∃ n,lo≤n∧n≤hi∧eu wd lo hi line=n∧line=wd++32::cX n:=by
 unfold eu at h ⊢
 cases hf:(List.range (hi+1)).find? (fun n=>decide (lo≤n)&&(line==wd++32::cX n)) with
 | none=>rw[hf] at h;exact absurd h (by decide)
 | some m=>
  have a:=List.find?_some hf;have b:=List.mem_range.1 (List.mem_of_find?_eq_some hf);simp only[Bool.and_eq_true,decide_eq_true_eq,beq_iff_eq] at a;exact ⟨m,a.1,by omega,rfl,a.2⟩
theorem vT {l p:List UInt8}(h:Lib.hasPrefix l p=true):l=p++l.drop p.length:=by
 obtain ⟨t,rfl⟩:=List.isPrefixOf_iff_prefix.1 h;simp
theorem DJ {wd:List UInt8}{lo hi:Nat}(a:hi<65){line:List UInt8}{n:Int}(c:Lib.hasPrefix line (wd++[32])=true)(he:Lib.atoiAll (line.drop (wd++[32]).length)=.ok n)(hit:Lib.itoa n=line.drop (wd++[32]).length)(d:(lo:Int)≤n)(e:n≤(hi:Int)):eu wd lo hi line=n:=by
 obtain ⟨k,rfl⟩:∃ k:Nat,n=k:=⟨n.toNat,by omega⟩;have b:=vT c;rw[Lib.itoa_nonneg,j0 (by omega)] at hit;rw[← hit] at b;exact qH a (by omega) (by omega) (by rw[b];simp)
theorem mM {wd:List UInt8}{lo hi:Nat}(c:hi<65){line:List UInt8}(h:∀ n,Lib.hasPrefix line (wd++[32])=true→Lib.atoiAll (line.drop (wd++[32]).length)=.ok (n:Int)→(line.drop (wd++[32]).length).length≤2→Lib.itoa n=line.drop (wd++[32]).length→(lo:Int)≤n→n≤(hi:Int)→False):eu wd lo hi line= -1:=by
 refine vR fun n d e b=>?_;have a:line.drop (wd++[32]).length=cX n:=by rw[b];simp
 refine h n ?_ ?_ ?_ ?_ (by omega) (by omega)
 ·rw[b];exact List.isPrefixOf_iff_prefix.2 ⟨cX n,by simp⟩
 ·rw[a];exact DI (by omega)
 ·rw[a];exact j1 n
 ·rw[a,Lib.itoa_nonneg,j0 (by omega)]
end Go.Dk
namespace Go.Proofs.YtpjihhgjbbihkaaGreatDoor
open Go.Proofs.Tryz
open Go.Dk
set_option maxRecDepth 100000
attribute [local irreducible] IntKind.wrap
theorem lf {x:Nat}{w:World}{kk:Value→World→Prop}(h:kk (.bool false) w):da prog .neq 155 (.tmp x) (.const .nilIface) .nilIface .nilIface w kk:=by
 unfold da;refine ⟨_,w,?_,h⟩
 kernel_rfl
theorem Bc {x:Nat}{N:Nat}{w:World}{kk:Value→World→Prop}(h:kk (.bool true) w):da prog .neq 155 (.tmp x) (.const .nilIface) (.iface 234 (ah N)) .nilIface w kk:=by
 unfold da;refine ⟨_,w,?_,h⟩
 kernel_rfl
theorem Ni:enters prog 72=true:=by kernel_rfl
set_option maxHeartbeats 4000000 in
theorem c72 (line wd:List UInt8)(z:line.length≤100000)(hw:wd.length≤10)(lo hi:Nat)(e:hi<65)(w:World)(o:jD w):bz prog 72 [aU line,aU wd,.int .i64 (lo:Int),.int .i64 (hi:Int)] w fun r w'=>r=.int .i64 (eu wd lo hi line)∧aT w w':=by
 refine ar (N:=53) func72 Ni rfl rfl rfl (by simp) ?_;have H:=Hp.aC w;refine ak (γ:=Unit) (fun _=>[(8,.int .i64 0)]) (fun _ w'=>Hp w ab w' [] []) ⟨(),⟨rfl,trivial⟩,H⟩ ?_;clear H;rintro ⟨⟩ u C H;refine ak (γ:=Unit) (fun _=>[(9,aU (Lib.trimPrefix line (wd++[32]))),(10,.bool (Lib.hasPrefix line (wd++[32])))]) (fun _ w'=>Hp w ab w' [] []) ?_ ?_
 ·refine a8 (b:=[32]) (by simp only[List.length_cons,List.length_nil];omega) ?_;refine aj (Pc _ _ _) ?_;rintro _ A ⟨rfl,d⟩;exact ⟨(),⟨rfl,rfl,trivial⟩,H.same d⟩
 clear H;rintro ⟨⟩ u A H;have p:(Lib.trimPrefix line (wd++[32])).length≤100000:=by
  unfold Lib.trimPrefix;split
  ·rw[List.length_drop];omega
  ·exact z
 have c:Lib.hasPrefix line (wd++[32])=true→Lib.trimPrefix line (wd++[32])=line.drop (wd++[32]).length:=fun s=>by unfold Lib.trimPrefix;rw[if_pos s]
 generalize Lib.trimPrefix line (wd++[32])=rest at p c;refine ak (γ:=Int × Value) (fun (n,ev)=>[(11,.int .i64 n),(12,ev)]) (fun (n,ev) w'=>((Lib.atoiAll rest=.ok n∧ev=.nilIface)∨((∀ m,Lib.atoiAll rest≠.ok m)∧∃ N,ev=.iface 234 (ah N)))∧Hp w ab w' [] []) ?_ ?_
 ·refine aj (Ps rest (by omega) _ (o.same H.keeps)) ?_;rintro _ B ⟨n,ev,rfl,t,d⟩;rcases t with ⟨a,rfl⟩ | ⟨a,N,rfl⟩
  ·exact ⟨(n,_),⟨rfl,rfl,trivial⟩,.inl ⟨a,rfl⟩,H.same d⟩
  ·exact ⟨(n,_),⟨rfl,rfl,trivial⟩,.inr ⟨a,N,rfl⟩,H.same d⟩
 clear H;rintro ⟨n,ev⟩ u B ⟨t,H⟩
 cases s:Lib.hasPrefix line (wd++[32]) with
 | false=>
  have f:=mM (wd:=wd) (lo:=lo) e (line:=line) fun n h=>absurd (s.symm.trans h) (by simp)
  iterate 21 refine ag rfl ?_
  exact ⟨by rw[f];rfl,H.keeps⟩
 | true=>
  replace c:=c s;subst c;have y:(⟨(line.drop (wd++[32]).length).toArray⟩:ByteArray).size=(line.drop (wd++[32]).length).length:=rfl;generalize g:line.drop (wd++[32]).length=q at y t p;rcases t with ⟨a,rfl⟩ | ⟨a,N,rfl⟩
  ·obtain ⟨v,x⟩:=Ip a;by_cases hlen:((⟨q.toArray⟩:ByteArray).size:Int)>2
   ·have f:=mM (wd:=wd) (lo:=lo) e (line:=line) fun m _ _ h _ _ _=>by rw[g] at h;omega
    iterate 2 refine ae rfl ?_
    refine lf ?_
    iterate 3 refine ae rfl ?_
    refine ep underlying9 ?_
    iterate 2 refine ae rfl ?_
    iterate 5 refine ag (decide_eq_true (by assumption)) ?_
    iterate 9 refine ag rfl ?_
    exact ⟨by rw[f];rfl,H.keeps⟩
   ·cases hit:(Lib.itoa n==q) with
    | false=>
     have f:=mM (wd:=wd) (lo:=lo) e (line:=line) fun m _ k _ l _ _=>by
      rw[g] at k l;rw[a] at k;injection k with k;rw[← k] at l;rw[l] at hit;simp at hit
     iterate 2 refine ae rfl ?_
     refine lf ?_
     iterate 3 refine ae rfl ?_
     refine ep underlying9 ?_
     iterate 2 refine ae rfl ?_
     iterate 2 refine ae (decide_eq_false (by assumption)) ?_
     refine aj (NY n v x _ (o.same H.keeps)) ?_;rintro _ i ⟨rfl,d⟩;replace H:=H.same d;clear d
     iterate 2 refine ae (decide_eq_false (by assumption)) ?_
     refine hH ?_;refine ae (decide_eq_false (by assumption)) ?_
     iterate 4 refine ag (by rw[hit];rfl) ?_
     iterate 5 refine ag rfl ?_
     exact ⟨by rw[f];rfl,H.keeps⟩
    | true=>
     by_cases k:n<(lo:Int)
     ·have f:=mM (wd:=wd) (lo:=lo) e (line:=line) fun m _ j _ _ l _=>by
       rw[g,a] at j;injection j with j;omega
      iterate 2 refine ae rfl ?_
      refine lf ?_
      iterate 3 refine ae rfl ?_
      refine ep underlying9 ?_
      iterate 2 refine ae rfl ?_
      iterate 2 refine ae (decide_eq_false (by assumption)) ?_
      refine aj (NY n v x _ (o.same H.keeps)) ?_;rintro _ i ⟨rfl,d⟩;replace H:=H.same d;clear d
      iterate 2 refine ae (decide_eq_false (by assumption)) ?_
      refine hH ?_;refine ae (decide_eq_false (by assumption)) ?_
      iterate 4 refine ae (by rw[hit];rfl) ?_
      iterate 4 refine ag (decide_eq_true (by assumption)) ?_
      refine ag rfl ?_;exact ⟨by rw[f];rfl,H.keeps⟩
     ·by_cases l:n>(hi:Int)
      ·have f:=mM (wd:=wd) (lo:=lo) e (line:=line) fun m _ j _ _ _ l=>by
        rw[g,a] at j;injection j with j;omega
       iterate 2 refine ae rfl ?_
       refine lf ?_
       iterate 3 refine ae rfl ?_
       refine ep underlying9 ?_
       iterate 2 refine ae rfl ?_
       iterate 2 refine ae (decide_eq_false (by assumption)) ?_
       refine aj (NY n v x _ (o.same H.keeps)) ?_;rintro _ i ⟨rfl,d⟩;replace H:=H.same d;clear d
       iterate 2 refine ae (decide_eq_false (by assumption)) ?_
       refine hH ?_;refine ae (decide_eq_false (by assumption)) ?_
       iterate 4 refine ae (by rw[hit];rfl) ?_
       iterate 4 refine ae (decide_eq_false (by assumption)) ?_
       refine ag (decide_eq_true (by assumption)) ?_;exact ⟨by rw[f];rfl,H.keeps⟩
      ·have f:=DJ (lo:=lo) e s (by rw[g];exact a) (by rw[g];exact beq_iff_eq.1 hit) (by omega) (by omega)
       iterate 2 refine ae rfl ?_
       refine lf ?_
       iterate 3 refine ae rfl ?_
       refine ep underlying9 ?_
       iterate 2 refine ae rfl ?_
       iterate 2 refine ae (decide_eq_false (by assumption)) ?_
       refine aj (NY n v x _ (o.same H.keeps)) ?_;rintro _ i ⟨rfl,d⟩;replace H:=H.same d;clear d
       iterate 2 refine ae (decide_eq_false (by assumption)) ?_
       refine hH ?_;refine ae (decide_eq_false (by assumption)) ?_
       iterate 4 refine ae (by rw[hit];rfl) ?_
       iterate 5 refine ae (decide_eq_false (by assumption)) ?_
       exact ⟨by rw[f];rfl,H.keeps⟩
  ·have f:=mM (wd:=wd) (lo:=lo) e (line:=line) fun m _ h _ _ _ _=>a m (by rw[← g];exact h)
   iterate 2 refine ae rfl ?_
   refine Bc ?_;refine ae rfl ?_
   iterate 18 refine ag rfl ?_
   exact ⟨by rw[f];rfl,H.keeps⟩
structure Rd where
 kd:Nat
 ni:Nat
 no:Nat
 st:Nat
 told:Int
 ls:List Ln
def lQ (ni no:Nat)(a b:List UInt8)(ok:Bool):Bool:=ok&&bj a&&(a.length==ni)&&(b.length==no)
def ku (ni no:Nat)(line:List UInt8):Option Ln:=
 if lQ ni no (Lib.cut line [32]).1 (Lib.cut line [32]).2.1 (Lib.cut line [32]).2.2=true∧(Lib.cut line [32]).2.1.all fH=true then
  some (dK (Lib.cut line [32]).1 (Lib.cut line [32]).1.length,dL (Lib.cut line [32]).1 (Lib.cut line [32]).1.length,(Lib.cut line [32]).2.1.map bI)
 else none
def LJ (kd ni no:Int)(v:Value)(st told:Int):Array Value:=#[.int .i64 kd,.int .i64 ni,.int .i64 no,v,.int .i64 st,.int .i64 told]
abbrev po (g:Nat)(s:Rd)(v:Value)(hs:List Hd)(S:Nat→Prop):List cS:=[an g 100 (LJ s.kd s.ni s.no v s.st s.told),own 77 3 v s.ls.length (flat la hs),qT S hs s.ls]
def oj (g:Nat)(s:Rd)(v:Value)(hs:List Hd)(S:Nat→Prop):cS:=sr (po g s v hs S)
theorem Nj {g:Nat}{s:Rd}{v:Value}{hs:List Hd}{S:Nat→Prop}{w:World}(h:(oj g s v hs S).ok w):∀ x,(oj g s v hs S).foot x→x<w.heap.size:=fun x ⟨q,a,b⟩=>h.2.1 q a x b
theorem qI {g:Nat}{s:Rd}{v:Value}{hs:List Hd}{S:Nat→Prop}{w:World}(h:(oj g s v hs S).ok w):Hp w (oj g s v hs S).foot w (po g s v hs S) []:=
 (Hp.Jj h (Nj h)).split
theorem jK {g:Nat}{s:Rd}{v:Value}{hs:List Hd}{S:Nat→Prop}{w0 w:World}{F:Nat→Prop}{L M:List cS}(H:Hp w0 F w (an g 100 (LJ s.kd s.ni s.no v s.st s.told)::own 77 3 v s.ls.length (flat la hs)::qT S hs s.ls::L) M):Hp w0 F w (oj g s v hs S::L) M:=
 Hp.join (Ls:=po g s v hs S) H
theorem _root_.Go.Dk.Hp.Gf {w0 w:World}{F:Nat→Prop}{L M:List cS}{S:Nat→Prop}{hs:List Hd}{Q:List Ln}{v:Value}{l:Ln}(H:Hp w0 F w (own 3 1 v l.2.2.length (ints l.2.2)::qT S hs Q::L) M) :
  ∃ e,Hp w0 F w (qT e (hs++[(l.1,l.2.1,v)]) (Q++[l])::L) M:=by
 have a:=H.get 0 rfl;have b:=H.get 1 rfl;have f:=Hp.join (Ls:=[own 3 1 v l.2.2.length (ints l.2.2),qT S hs Q]) H;refine ⟨(sr [own 3 1 v l.2.2.length (ints l.2.2),qT S hs Q]).foot,f.re (fun _=>?_) fun g d=>d⟩;obtain ⟨A,c,rfl,_⟩:=fz a;exact lX.snoc (lX.mono b fun g d=>⟨_,.tail _ (.head _),d⟩) ⟨rfl,rfl,A,c,rfl,sl.mono (iQ a) fun g d=>⟨_,.head _,d⟩⟩
theorem fM (g:Nat)(w:World):(Instr.fieldAt 100 (ah g) 0).run prog w=.ok (ah g) w:=by kernel_rfl
theorem iz (g:Nat)(w:World):(Instr.fieldAt 100 (ah g) 1).run prog w=.ok (.pointer (some ⟨g,4,none⟩)) w:=by kernel_rfl
theorem xw (g:Nat)(w:World):(Instr.fieldAt 100 (ah g) 2).run prog w=.ok (.pointer (some ⟨g,5,none⟩)) w:=by kernel_rfl
theorem uw {l:List UInt8}{i:Nat}(hi:i<l.length):(l.take (i+1)).map bI=(l.take i).map bI++[bI l[i]]:=by
 rw[List.take_add_one,List.getElem?_eq_getElem hi,List.map_append];rfl
theorem Nk:enters prog 74=true:=by kernel_rfl
set_option maxHeartbeats 4000000 in
theorem PB (line:List UInt8)(hl:line.length≤100000)(g:Nat)(s:Rd)(hls:s.ls.length≤64)(v:Value)(hs:List Hd)(S:Nat→Prop)(w:World)(hg:jD w)(Z:∀ x,Le x→¬ (oj g s v hs S).foot x)(hR:(oj g s v hs S).ok w) :
  bz prog 74 [(ah g),aU line] w fun r w'=>
   (ku s.ni s.no line=none∧r=.bool false∧∃ R',jU w w' (oj g s v hs S) R')∨
   (∃ l v' hs' X,ku s.ni s.no line=some l∧r=.bool true∧jU w w' (oj g s v hs S) (oj g { s with ls:=s.ls++[l] } v' hs' X)):=by
 refine ar (N:=88) func74 Nk rfl rfl rfl (by simp) ?_;obtain ⟨d,c0,rfl,hc0⟩:=fz ((qI hR).get 1 rfl);have H:=qI hR;have hgu:∀ u L M,Hp w (oj g s (.slice d s.ls.length c0) hs S).foot u L M→jD u:=fun u L M H=>hg.bS fun x hx=>H.keeps.old x (hg.lt x hx) (Z x hx);have G:(Lib.cut line [32]).1.length≤100000:=by
  unfold Lib.cut;split
  ·exact Nat.le_trans (List.length_take_le' _ _) hl
  ·exact hl
 have I:(Lib.cut line [32]).2.1.length≤100000:=by
  unfold Lib.cut;split
  ·show (List.drop _ _).length≤_;rw[List.length_drop];omega
  ·exact Nat.zero_le _
 have f:ku s.ni s.no line=if lQ s.ni s.no (Lib.cut line [32]).1 (Lib.cut line [32]).2.1 (Lib.cut line [32]).2.2=true∧(Lib.cut line [32]).2.1.all fH=true then some (dK (Lib.cut line [32]).1 (Lib.cut line [32]).1.length,dL (Lib.cut line [32]).1 (Lib.cut line [32]).1.length,(Lib.cut line [32]).2.1.map bI) else none:=rfl;have p:=OQ line [32] (by omega);generalize Lib.cut line [32]=q at G I f p;obtain ⟨a,b,ok⟩:=q;simp only at G I f p;refine ak (γ:=Unit) (fun _=>[(4,.bool false)]) (fun _ w'=>Hp w (oj g s (.slice d s.ls.length c0) hs S).foot w' (po g s (.slice d s.ls.length c0) hs S) []) ⟨(),⟨rfl,trivial⟩,H⟩ ?_;clear H;rintro ⟨⟩ u w1 H;refine ak (γ:=Unit) (fun _=>[(5,aU a),(6,aU b),(7,.bool ok)]) (fun _ w'=>Hp w (oj g s (.slice d s.ls.length c0) hs S).foot w' (po g s (.slice d s.ls.length c0) hs S) []) ?_ ?_
 ·refine aj (p _ (hgu _ _ _ H)) ?_;rintro _ w2 ⟨rfl,Y⟩;exact ⟨(),⟨rfl,rfl,rfl,trivial⟩,H.same Y⟩
 clear H p;rintro ⟨⟩ u w2 H;refine ak (γ:=Nat) (fun g8=>[(8,(ah g8)),(9,.int .i64 (if bj a then 0 else 2))]) (fun g8 w'=>Hp w (oj g s (.slice d s.ls.length c0) hs S).foot w' (an g8 48 (cc (if bj a then dK a a.length else 0) (if bj a then dL a a.length else 0))::po g s (.slice d s.ls.length c0) hs S) []) ?_ ?_
 ·refine aj (Od a (by omega) _) ?_;rintro _ w3 ⟨rfl,Y⟩;replace H:=H.same Y;clear Y;have e:jA a=cv (if bj a then dK a a.length else 0) (if bj a then dL a a.length else 0):=by unfold jA;split <;> rfl
  rw[e];refine H.alloc 48 (cs:=cc 0 0) fA rfl ?_;clear H;intro g8 w4 H;refine H.bT 0 rfl ?_;clear H;intro w5 H;exact ⟨g8,⟨rfl,rfl,trivial⟩,H⟩
 clear H;rintro g8 u w3 H;have o:lQ s.ni s.no a b ok=false→ku s.ni s.no line=none:=fun h=>by rw[f,h,if_neg (by simp)]
 have k:∀ (u:World) (L:List cS),Hp w (oj g s (.slice d s.ls.length c0) hs S).foot u (po g s (.slice d s.ls.length c0) hs S++L) []→∃ R',jU w u (oj g s (.slice d s.ls.length c0) hs S) R':=fun u L H=>⟨_,(jK H).bg⟩;refine aw (fun w'=>lQ s.ni s.no a b ok=true∧Hp w (oj g s (.slice d s.ls.length c0) hs S).foot w' (an g8 48 (cc (if bj a then dK a a.length else 0) (if bj a then dL a a.length else 0))::po g s (.slice d s.ls.length c0) hs S) []) ?_ ?_
 ·have hsa:(⟨a.toArray⟩:ByteArray).size=a.length:=ig a;have hsb:(⟨b.toArray⟩:ByteArray).size=b.length:=ig b
  cases ok with
  | false=>
   have z:=o rfl
   iterate 22 refine ag rfl ?_
   exact .inl ⟨z,rfl,k _ [] H.forget⟩
  | true=>
   cases A:bj a with
   | false=>
    have z:=o (by unfold lQ;rw[A];rfl)
    iterate 3 refine ae rfl ?_
    iterate 19 refine ag rfl ?_
    exact .inl ⟨z,rfl,k _ [] H.forget⟩
   | true=>
    by_cases h1:a.length=s.ni
    ·by_cases J:b.length=s.no
     ·have z:lQ s.ni s.no a b true=true:=by unfold lQ;rw[A,h1,J];simp
      iterate 5 refine ae rfl ?_
      refine ep underlying9 ?_
      iterate 3 refine ae rfl ?_
      refine aa (fM _) ?_;refine ae rfl ?_;refine aa (dY _ _) ?_;refine ae rfl ?_;refine H.load 1 rfl aE rfl ?_
      iterate 2 refine ae rfl ?_
      iterate 2 refine ae (bne_eq_false_iff_eq.2 (by omega)) ?_
      refine ep underlying9 ?_
      iterate 3 refine ae (bne_eq_false_iff_eq.2 (by omega)) ?_
      refine aa (fM _) ?_;refine ae (bne_eq_false_iff_eq.2 (by omega)) ?_;refine aa (eP _ _) ?_;refine ae (bne_eq_false_iff_eq.2 (by omega)) ?_;refine H.load 1 rfl aE rfl ?_
      iterate 3 refine ae (bne_eq_false_iff_eq.2 (by omega)) ?_
      exact ⟨(),trivial,z,by rw[A] at H;exact H⟩
     ·have z:=o (by unfold lQ;rw[beq_eq_false_iff_ne.2 J];simp)
      iterate 5 refine ae rfl ?_
      refine ep underlying9 ?_
      iterate 3 refine ae rfl ?_
      refine aa (fM _) ?_;refine ae rfl ?_;refine aa (dY _ _) ?_;refine ae rfl ?_;refine H.load 1 rfl aE rfl ?_
      iterate 2 refine ae rfl ?_
      iterate 2 refine ae (bne_eq_false_iff_eq.2 (by omega)) ?_
      refine ep underlying9 ?_
      iterate 3 refine ae (bne_eq_false_iff_eq.2 (by omega)) ?_
      refine aa (fM _) ?_;refine ae (bne_eq_false_iff_eq.2 (by omega)) ?_;refine aa (eP _ _) ?_;refine ae (bne_eq_false_iff_eq.2 (by omega)) ?_;refine H.load 1 rfl aE rfl ?_
      iterate 2 refine ae (bne_eq_false_iff_eq.2 (by omega)) ?_
      refine ag (bne_iff_ne.2 (by omega)) ?_;exact .inl ⟨z,rfl,k _ [] H.forget⟩
    ·have z:=o (by unfold lQ;rw[beq_eq_false_iff_ne.2 h1];simp)
     iterate 5 refine ae rfl ?_
     refine ep underlying9 ?_
     iterate 3 refine ae rfl ?_
     refine aa (fM _) ?_;refine ae rfl ?_;refine aa (dY _ _) ?_;refine ae rfl ?_;refine H.load 1 rfl aE rfl ?_
     iterate 2 refine ae rfl ?_
     iterate 9 refine ag (bne_iff_ne.2 (by omega)) ?_
     refine ag rfl ?_;exact .inl ⟨z,rfl,k _ [] H.forget⟩
 clear H;rintro ⟨⟩ u w4 ⟨K,H⟩;have B:=K;unfold lQ at B;simp only[Bool.and_eq_true,beq_iff_eq] at B;obtain ⟨⟨⟨hok,A⟩,hla⟩,hlb⟩:=B;rw[A,if_pos rfl,if_pos rfl] at H;clear o;generalize dK a a.length=m at H f;generalize dL a a.length=vv at H f;refine ak (γ:=Nat) (fun g10=>[(10,(ah g10))]) (fun g10 w'=>Hp w (oj g s (.slice d s.ls.length c0) hs S).foot w' (an g10 77 (fW m vv (.slice none 0 0))::own 3 1 (.slice none 0 0) 0 []::po g s (.slice d s.ls.length c0) hs S) []) ?_ ?_
 ·refine H.ai 0 rfl bl aJ ?_;refine xv ?_;refine H.alloc 77 (cs:=fW 0 0 (.slice none 0 0)) lY rfl ?_;clear H;intro g10 w6 H;refine H.storeAll 0 rfl cO rfl (e_ (m:=m) (v:=vv)) ?_;clear H;intro w7 H;exact ⟨g10,⟨rfl,trivial⟩,(H.bC 3 1).b9 [1,0,3,4,5] (by decide) rfl⟩
 clear H;rintro g10 u w5 H;refine ak (γ:=Option Addr × Nat) (fun _=>[]) (fun (n,d2) w'=>b.all fH=true∧Hp w (oj g s (.slice d s.ls.length c0) hs S).foot w' (an g10 77 (fW m vv (.slice n b.length d2))::own 3 1 (.slice n b.length d2) b.length (ints (b.map bI))::po g s (.slice d s.ls.length c0) hs S) []) ?_ ?_
 ·refine H.yd underlying9 ?_;clear H;intro g11 w6 H;refine ax (γ:=Nat × Option Addr × Nat) (fun _=>[]) (fun (i,n,d2) w'=>(i≤b.length∧∀ j (h:j<b.length),j<i→fH b[j]=true)∧Hp w (oj g s (.slice d s.ls.length c0) hs S).foot w' (r4 g11 ⟨b.toArray⟩ i::an g10 77 (fW m vv (.slice n i d2))::own 3 1 (.slice n i d2) i (ints ((b.take i).map bI))::po g s (.slice d s.ls.length c0) hs S) []) (fun (i,_)=>b.length - i) (0,none,0) trivial ⟨⟨by omega,by intro j _ hj;omega⟩,H⟩ ?_;clear H;rintro ⟨i,n,d2⟩ u w7 ⟨⟨hi,t⟩,H⟩;have hsz:=ig b;refine H.BE 0 rfl (fun hp w12 H=>?_) (fun hp=>?_)
  ·have E:i<b.length:=by omega
   refine ag rfl ?_;have C:fH b[i]=false→ku s.ni s.no line=none:=fun h=>by
    rw[f,if_neg];rintro ⟨_,J⟩;rw[List.all_eq_true] at J;rw[J _ (List.getElem_mem E)] at h
    cases h
   by_cases ha:b[i].toNat<128
   ·rw[vl E ha] at H ⊢;refine ak (γ:=Unit) (fun _=>[(12,.int .i32 (b[i].toNat:Int))]) (fun _ w'=>Hp w (oj g s (.slice d s.ls.length c0) hs S).foot w' (r4 g11 ⟨b.toArray⟩ (i+1)::an g10 77 (fW m vv (.slice n i d2))::own 3 1 (.slice n i d2) i (ints ((b.take i).map bI))::po g s (.slice d s.ls.length c0) hs S) []) ⟨(),⟨rfl,trivial⟩,H⟩ ?_;clear H;rintro ⟨⟩ u w8 H;have D:∀ (u:World) (O:Option Addr) (d3:Nat),fH b[i]=true→Hp w (oj g s (.slice d s.ls.length c0) hs S).foot u (r4 g11 ⟨b.toArray⟩ (i+1)::an g10 77 (fW m vv (.slice O (i+1) d3))::own 3 1 (.slice O (i+1) d3) (i+1) (ints ((b.take i).map bI)++[.int .i64 ((bI b[i]:Nat):Int)])::po g s (.slice d s.ls.length c0) hs S) []→
      (i+1≤b.length∧∀ j (h:j<b.length),j<i+1→fH b[j]=true)∧Hp w (oj g s (.slice d s.ls.length c0) hs S).foot u (r4 g11 ⟨b.toArray⟩ (i+1)::an g10 77 (fW m vv (.slice O (i+1) d3))::own 3 1 (.slice O (i+1) d3) (i+1) (ints ((b.take (i+1)).map bI))::po g s (.slice d s.ls.length c0) hs S) []:=fun u O d3 y H=>by
     refine ⟨⟨by omega,lF t y⟩,?_⟩;rw[jz,← uw E] at H;exact H
    refine ck (fun h9=>?_) (fun h9=>?_)
    ·refine ag (beq_iff_eq.2 (by assumption)) ?_;refine aa (eQ _) ?_;have y:b[i]=48:=UInt8.toNat_inj.1 (show b[i].toNat=48 by omega);have hw:IntKind.i32.wrap ((b[i].toNat:Int) - 48)=((bI b[i]:Nat):Int):=by rw[y];kernel_rfl
     refine H.load 1 rfl fl rfl ?_;refine eF (by kernel_rfl) underlying3 (by rw[hw];omega) (by rw[hw,y];decide) ?_;refine H.aY dU rfl ?_;clear H;intro gx Q H;refine H.aG 3 0 dU rfl rfl rfl (fun u hu=>by rw[List.mem_singleton.1 hu];rfl) (by omega) (by omega) ?_;clear H;intro F d4 T H;replace H:=H.forget;refine aa (eQ _) ?_;refine H.store 1 rfl qF (Nat.le_of_ble_eq_true rfl) rfl ?_;clear H;intro U H;exact ⟨(i+1,F,d4),by show b.length - (i+1)<b.length - i;omega,trivial,D _ _ _ (by rw[y];rfl) (by rw[← hw];exact H)⟩
    ·refine ck (fun h16=>?_) (fun h16=>?_)
     ·refine aa (eQ _) ?_;have y:b[i]=49:=UInt8.toNat_inj.1 (show b[i].toNat=49 by omega);have hw:IntKind.i32.wrap ((b[i].toNat:Int) - 48)=((bI b[i]:Nat):Int):=by rw[y];kernel_rfl
      refine H.load 1 rfl fl rfl ?_;refine eF (by kernel_rfl) underlying3 (by rw[hw];omega) (by rw[hw,y];decide) ?_;refine H.aY dU rfl ?_;clear H;intro gx Q H;refine H.aG 3 0 dU rfl rfl rfl (fun u hu=>by rw[List.mem_singleton.1 hu];rfl) (by omega) (by omega) ?_;clear H;intro F d4 T H;replace H:=H.forget;refine aa (eQ _) ?_;refine H.store 1 rfl qF (Nat.le_of_ble_eq_true rfl) rfl ?_;clear H;intro U H;exact ⟨(i+1,F,d4),by show b.length - (i+1)<b.length - i;omega,trivial,D _ _ _ (by rw[y];rfl) (by rw[← hw];exact H)⟩
     ·refine ck (fun h19=>?_) (fun h19=>?_)
      ·refine aa (eQ _) ?_;have y:b[i]=45:=UInt8.toNat_inj.1 (show b[i].toNat=45 by omega);refine H.load 1 rfl fl rfl ?_;refine H.aY dU rfl ?_;clear H;intro gx Q H;refine H.aG 3 0 dU rfl rfl rfl (fun u hu=>by rw[List.mem_singleton.1 hu];rfl) (by omega) (by omega) ?_;clear H;intro F d4 T H;replace H:=H.forget;refine aa (eQ _) ?_;refine H.store 1 rfl qF (Nat.le_of_ble_eq_true rfl) rfl ?_;clear H;intro U H;exact ⟨(i+1,F,d4),by show b.length - (i+1)<b.length - i;omega,trivial,D _ _ _ (by rw[y];rfl) (by rw[y];exact H)⟩
      ·exact .inl ⟨C (nS (by assumption) (by assumption) (by assumption)),rfl,k _ [] (H.b9 [3,4,5] (by decide) rfl)⟩
   ·have hge:=vn E ha;have z:=C (nS (by omega) (by omega) (by omega))
    iterate 3 refine ae (beq_eq_false_iff_ne.2 (by omega)) ?_
    exact .inl ⟨z,rfl,k _ [] (H.b9 [3,4,5] (by decide) rfl)⟩
  ·obtain rfl:i=b.length:=by omega
   refine ae rfl ?_;exact ⟨(n,d2),trivial,List.all_eq_true.2 fun c hc=>by obtain ⟨j,hj,rfl⟩:=List.getElem_of_mem hc;exact t j hj hj,by rw[List.take_length] at H;exact H.forget⟩
 clear H;rintro ⟨n,d2⟩ u w6 ⟨t,H⟩;rw[if_pos ⟨K,t⟩] at f;refine H.fE [an g10 77 (fW m vv (.slice n b.length d2)),an g 100 (LJ s.kd s.ni s.no (.slice d s.ls.length c0) s.st s.told)] (fun u h=>h.b9 [0,2] (by decide) rfl) eN (by kernel_rfl) ?_;clear H;intro w7 H;refine quiet _ (fun w H=>aa (fM _) af) ?_;refine quiet _ (fun w H=>aa (dC _ _) af) ?_;refine quiet _ (fun w H=>H.load 1 rfl fQ rfl af) ?_;refine quiet _ (fun w H=>H.ai 0 rfl mK cO af) ?_;refine H.bk I6 (cs:=fW m vv (.slice n b.length d2)) (by decide) (by decide) (by kernel_rfl) ?_;clear H;intro gx w8 H;refine ⟨.inl (H.b9 [1,3] (by decide) rfl),?_⟩;refine H.aG 4 0 I6 rfl rfl rfl e_ (by omega) (by omega) ?_;clear H;intro F d4 w9 H;refine ⟨.inl (H.b9 [1,3] (by decide) rfl),?_⟩;refine quiet _ (fun w H=>aa (fM _) af) ?_;refine quiet _ (fun w H=>aa (dC _ _) af) ?_;refine H.store 3 rfl xr (Nat.le_of_ble_eq_true rfl) rfl ?_;clear H;intro V H;refine ⟨.inr rfl,?_⟩;have e1:(s.ls++[((m,vv,b.map bI):Ln)]).length=s.ls.length+1:=by simp
 have H2:Hp w (oj g s (.slice d s.ls.length c0) hs S).foot V (own 3 1 (.slice n b.length d2) ((m,vv,b.map bI):Ln).2.2.length (ints ((m,vv,b.map bI):Ln).2.2)::qT S hs s.ls::an g 100 (LJ s.kd s.ni s.no (.slice F (s.ls.length+1) d4) s.st s.told)::own 77 3 (.slice F (s.ls.length+1) d4) (s.ls++[((m,vv,b.map bI):Ln)]).length (flat la (hs++[(m,vv,.slice n b.length d2)]))::[]) []:=by
  show Hp w (oj g s (.slice d s.ls.length c0) hs S).foot V (own 3 1 (.slice n b.length d2) (b.map bI).length (ints (b.map bI))::_) _;rw[List.length_map,e1,show flat la (hs++[(m,vv,.slice n b.length d2)])=flat la hs++la (m,vv,.slice n b.length d2) from dD ..];exact H.b9 [2,5,3,4] (by decide) rfl
 obtain ⟨X,H3⟩:=H2.Gf;exact .inr ⟨(m,vv,b.map bI),_,_,X,f,rfl,(jK (L:=[]) (s:={ s with ls:=s.ls++[(m,vv,b.map bI)] }) (v:=.slice F (s.ls.length+1) d4) (hs:=hs++[(m,vv,.slice n b.length d2)]) (S:=X) (H3.b9 [1,2,0] (by decide) rfl)).bg⟩
def qJ (r:List UInt8):Option Nat:=(List.range 4).find? fun k=>dS k==r
def jg (s:Rd)(line:List UInt8):Except Int Rd:=
 if line=[46,101] then (if s.told<0∨s.told=s.ls.length then .ok { s with st:=5 } else .error 2)
 else match ku s.ni s.no line with
  | none=>.error 2
  | some l=>if s.ls.length=64 then .error 3 else .ok { s with st:=4,ls:=s.ls++[l] }
def iw (s:Rd)(line:List UInt8):Except Int Rd:=
 if Lib.hasPrefix line [46,116,121,112,101,32]=true∧s.st=2 then
  match qJ (line.drop 6) with
  | some k=>.ok { s with kd:=k,st:=3 }
  | none=>.error 2
 else if 0≤eu [46,112] 0 64 line∧s.st≤3 then .ok { s with told:=eu [46,112] 0 64 line,st:=4 }
 else jg s line
def gr (s:Rd)(line:List UInt8):Except Int Rd:=
 if s.st=0 then (if 0≤eu [46,105] 0 8 line then .ok { s with ni:=(eu [46,105] 0 8 line).toNat,st:=1 } else .error 2)
 else if s.st=1 then (if 0≤eu [46,111] 1 4 line then .ok { s with no:=(eu [46,111] 1 4 line).toNat,st:=2 } else .error 2)
 else if s.st=5 then .error 2
 else iw s line
def Gg (o:Except Int Rd)(w:World)(R:cS)(g:Nat)(r:Value)(w':World):Prop:=
 (∃ b c a d,o=.ok b∧r=.int .i64 0∧jU w w' R (oj g b c a d))∨(∃ e f,o=.error e∧r=.int .i64 e∧e≠0∧jU w w' R f)
theorem _root_.Go.Dk.Hp.rH {w w':World}{r:cS}{L:List cS}(H:Hp w r.foot w' L []):∃ a,jU w w' r a:=
 ⟨_,(Hp.join (Ls:=L) (L:=[]) (by rw[List.append_nil];exact H)).bg⟩
theorem pP {r:List UInt8}{i:Nat}(hi:i<4)(h:dS i=r)(a:∀ j,j<i→dS j≠r):qJ r=some i:=by
 unfold qJ;rcases (by omega:i=0∨i=1∨i=2∨i=3) with rfl | rfl | rfl | rfl <;> subst h <;> rfl
theorem ux {r:List UInt8}(a:∀ j,j<4→dS j≠r):qJ r=none:=by
 unfold qJ;rw[List.find?_eq_none];intro j b h;exact a j (List.mem_range.1 b) (beq_iff_eq.1 h)
theorem Nl:enters prog 71=true:=by kernel_rfl
theorem NZ (b:Bool)(w:World):bz prog 71 [.bool b] w fun r w'=>r=.int .i64 (if b then 0 else 2)∧aT w w':=by
 refine ar (N:=4) func71 Nl rfl rfl rfl (by simp) ?_;have H:=Hp.aC w
 cases b with
 | false=>
  refine ae rfl ?_;exact ⟨rfl,H.keeps⟩
 | true=>
  refine ag rfl ?_;exact ⟨rfl,H.keeps⟩
theorem Nn:enters prog 48=true:=by kernel_rfl
set_option maxHeartbeats 4000000 in
theorem PC (line:List UInt8)(hl:line.length≤100000)(g:Nat)(s:Rd)(G:s.ls.length≤64)(hst:s.st≤5)(B:s.told≤64)(v:Value)(hs:List Hd)(S:Nat→Prop)(w:World)(hg:jD w)(C:∀ x,Le x→¬ (oj g s v hs S).foot x)(hR:(oj g s v hs S).ok w) :
  bz prog 48 [(ah g),aU line] w (Gg (gr s line) w (oj g s v hs S) g):=by
 refine ar (N:=154) func48 Nn rfl rfl rfl (by simp) ?_;obtain ⟨f,c0,rfl,hc0⟩:=fz ((qI hR).get 1 rfl);have H:=qI hR;obtain ⟨kd,ni,no,st,told,ls⟩:=s;simp only at G hst B;generalize hR0:oj g ⟨kd,ni,no,st,told,ls⟩ (.slice f ls.length c0) hs S=R0 at H C;have y:∀ u L M,Hp w R0.foot u L M→jD u:=fun u L M H=>hg.bS fun x I=>H.keeps.old x (hg.lt x I) (C x I);have n1:=c72 line [46,105] hl (by decide) 0 8 (by decide);have n2:=c72 line [46,111] hl (by decide) 1 4 (by decide);have n3:=c72 line [46,112] hl (by decide) 0 64 (by decide);have a:gr ⟨kd,ni,no,st,told,ls⟩ line=if st=0 then (if 0≤eu [46,105] 0 8 line then .ok ⟨kd,(eu [46,105] 0 8 line).toNat,no,1,told,ls⟩ else .error 2)
  else if st=1 then (if 0≤eu [46,111] 1 4 line then .ok ⟨kd,ni,(eu [46,111] 1 4 line).toNat,2,told,ls⟩ else .error 2)
  else if st=5 then .error 2
  else iw ⟨kd,ni,no,st,told,ls⟩ line:=rfl
 refine ak (γ:=Unit) (fun _=>[(4,.int .i64 0)]) (fun _ w'=>Hp w R0.foot w' (po g ⟨kd,ni,no,st,told,ls⟩ (.slice f ls.length c0) hs S) []) ⟨(),⟨rfl,trivial⟩,H⟩ ?_;clear H;rintro ⟨⟩ u w1 H;refine ak (γ:=Unit) (fun _=>[(5,pK 71)]) (fun _ w'=>Hp w R0.foot w' (po g ⟨kd,ni,no,st,told,ls⟩ (.slice f ls.length c0) hs S) []) ⟨(),⟨rfl,trivial⟩,H⟩ ?_;clear H;rintro ⟨⟩ u w2 H;refine aw (fun w'=>(2≤st∧st≤4)∧Hp w R0.foot w' (po g ⟨kd,ni,no,st,told,ls⟩ (.slice f ls.length c0) hs S) []) ?_ ?_
 ·refine aa (iz _) ?_;refine H.load 0 rfl aE rfl ?_;by_cases h0:st=0
  ·subst h0;rw[if_pos rfl] at a
   iterate 0 refine ae rfl ?_
   refine ag rfl ?_;refine aj (n1 _ (y _ _ _ H)) ?_;rintro _ J ⟨rfl,m⟩;replace H:=H.same m;clear m;refine aa (fM _) ?_;refine aa (dY _ _) ?_;refine H.store 0 rfl a_ (Nat.le_of_ble_eq_true rfl) rfl ?_;clear H;intro K H;refine aa (iz _) ?_;refine H.load 0 rfl aE rfl ?_;refine aa (iz _) ?_;refine H.store 0 rfl a_ (Nat.le_of_ble_eq_true rfl) rfl ?_;clear H;intro w7 H;refine aa (fM _) ?_;refine aa (dY _ _) ?_;refine H.load 0 rfl aE rfl ?_;refine aj (NZ _ _) ?_;rintro _ O ⟨rfl,m⟩;replace H:=H.same m;clear m;have hw:IntKind.i64.wrap (((0:Nat):Int)+1)=((1:Nat):Int):=aH (by omega) (by omega);rw[hw] at H;generalize eu [46,105] 0 8 line=N at H a ⊢;by_cases d:0≤N
   ·rw[if_pos d] at a;have e:N=((N.toNat:Nat):Int):=(Int.toNat_of_nonneg d).symm;rw[e] at H;refine .inl ⟨⟨kd,N.toNat,no,1,told,ls⟩,_,_,_,a,?_,(jK (L:=[]) (s:=⟨kd,N.toNat,no,1,told,ls⟩) H).bg⟩;rw[decide_eq_true d];rfl
   ·rw[if_neg d] at a;obtain ⟨o,c⟩:=H.rH;refine .inr ⟨2,o,a,?_,by decide,c⟩;rw[decide_eq_false d];rfl
  ·rw[if_neg h0] at a;by_cases h1:st=1
   ·subst h1;rw[if_pos rfl] at a
    iterate 1 refine ae rfl ?_
    refine ag rfl ?_;refine aj (n2 _ (y _ _ _ H)) ?_;rintro _ J ⟨rfl,m⟩;replace H:=H.same m;clear m;refine aa (fM _) ?_;refine aa (eP _ _) ?_;refine H.store 0 rfl a_ (Nat.le_of_ble_eq_true rfl) rfl ?_;clear H;intro K H;refine aa (iz _) ?_;refine H.load 0 rfl aE rfl ?_;refine aa (iz _) ?_;refine H.store 0 rfl a_ (Nat.le_of_ble_eq_true rfl) rfl ?_;clear H;intro w7 H;refine aa (fM _) ?_;refine aa (eP _ _) ?_;refine H.load 0 rfl aE rfl ?_;refine aj (NZ _ _) ?_;rintro _ O ⟨rfl,m⟩;replace H:=H.same m;clear m;have hw:IntKind.i64.wrap (((1:Nat):Int)+1)=((2:Nat):Int):=aH (by omega) (by omega);rw[hw] at H;generalize eu [46,111] 1 4 line=N at H a ⊢;by_cases d:0≤N
    ·rw[if_pos d] at a;have e:N=((N.toNat:Nat):Int):=(Int.toNat_of_nonneg d).symm;rw[e] at H;refine .inl ⟨⟨kd,ni,N.toNat,2,told,ls⟩,_,_,_,a,?_,(jK (L:=[]) (s:=⟨kd,ni,N.toNat,2,told,ls⟩) H).bg⟩;rw[decide_eq_true d];rfl
    ·rw[if_neg d] at a;obtain ⟨o,c⟩:=H.rH;refine .inr ⟨2,o,a,?_,by decide,c⟩;rw[decide_eq_false d];rfl
   ·rw[if_neg h1] at a;by_cases h5:st=5
    ·subst h5;rw[if_pos rfl] at a
     iterate 2 refine ae rfl ?_
     refine ag rfl ?_;obtain ⟨o,c⟩:=H.rH;exact .inr ⟨2,o,a,rfl,by decide,c⟩
    ·rw[if_neg h5] at a;refine ck (fun h=>absurd (show (st:Int)=0 from h) (by omega)) (fun _=>?_);refine ck (fun h=>absurd (show (st:Int)=1 from h) (by omega)) (fun _=>?_);refine ck (fun h=>absurd (show (st:Int)=5 from h) (by omega)) (fun _=>?_);exact ⟨(),trivial,⟨by omega,by omega⟩,H⟩
 clear H;rintro ⟨⟩ u w3 ⟨⟨hs2,hs4⟩,H⟩;rw[if_neg (by omega),if_neg (by omega),if_neg (by omega)] at a;have Q:iw ⟨kd,ni,no,st,told,ls⟩ line=if Lib.hasPrefix line [46,116,121,112,101,32]=true∧st=2 then
   match qJ (line.drop 6) with
   | some k=>.ok ⟨k,ni,no,3,told,ls⟩
   | none=>.error 2
  else if 0≤eu [46,112] 0 64 line∧st≤3 then .ok ⟨kd,ni,no,4,eu [46,112] 0 64 line,ls⟩
  else jg ⟨kd,ni,no,st,told,ls⟩ line:=rfl
 rw[Q] at a;clear Q;have n:Lib.hasPrefix line [46,116,121,112,101,32]=true→Lib.trimPrefix line [46,116,121,112,101,32]=line.drop 6:=fun h=>by unfold Lib.trimPrefix;rw[if_pos h];rfl
 refine aw (fun w'=>¬ (Lib.hasPrefix line [46,116,121,112,101,32]=true∧st=2)∧Hp w R0.foot w' (po g ⟨kd,ni,no,st,told,ls⟩ (.slice f ls.length c0) hs S) []) ?_ ?_
 ·refine ak (γ:=Unit) (fun _=>[(6,aU (Lib.trimPrefix line [46,116,121,112,101,32])),(7,.bool (Lib.hasPrefix line [46,116,121,112,101,32]))]) (fun _ w'=>Hp w R0.foot w' (po g ⟨kd,ni,no,st,told,ls⟩ (.slice f ls.length c0) hs S) []) ?_ ?_
  ·refine aj (Pc _ [46,116,121,112,101,32] _) ?_;rintro _ w4 ⟨rfl,m⟩;exact ⟨(),⟨rfl,rfl,trivial⟩,H.same m⟩
  clear H;rintro ⟨⟩ u w4 H;generalize Lib.trimPrefix line [46,116,121,112,101,32]=rest at n
  cases hpx:Lib.hasPrefix line [46,116,121,112,101,32] with
  | false=>
   repeat refine ae rfl ?_
   exact ⟨(),trivial,fun h=>absurd h.1 (by simp),H⟩
  | true=>
   rw[hpx] at a;replace n:=n hpx
   repeat refine ag rfl ?_
   refine aa (iz _) ?_
   repeat refine ag rfl ?_
   refine H.load 0 rfl aE rfl ?_
   repeat refine ag rfl ?_
   refine ck (fun h=>?_) (fun h=>?_)
   ·obtain rfl:st=2:=by have h:(st:Int)=2:=h;omega
    rw[if_pos ⟨rfl,rfl⟩,← n] at a;clear n;refine aw (fun w'=>Hp w R0.foot w' (po g ⟨kd,ni,no,3,told,ls⟩ (.slice f ls.length c0) hs S) []) ?_ ?_
    ·refine aa (iz _) ?_;refine H.store 0 rfl a_ (Nat.le_of_ble_eq_true rfl) rfl ?_;clear H;intro J H;exact ⟨(),trivial,H⟩
    clear H;rintro ⟨⟩ u J H;refine aw (fun w'=>(∀ j,j<4→dS j≠rest)∧Hp w R0.foot w' (po g ⟨kd,ni,no,3,told,ls⟩ (.slice f ls.length c0) hs S) []) ?_ ?_
    ·refine aj (OS _) ?_;rintro _ K ⟨gk,rfl,d⟩;replace H:=H.bq d;clear d;refine ay underlying73 ?_;refine ax (γ:=Nat) (fun i=>[(82,.int .i64 (i:Int))]) (fun i w'=>(i≤4∧∀ j,j<i→dS j≠rest)∧Hp w R0.foot w' (an gk 9 Li::(po g ⟨kd,ni,no,3,told,ls⟩ (.slice f ls.length c0) hs S)) []) (fun i=>4 - i) 0 ⟨rfl,trivial⟩ ⟨⟨Nat.zero_le _,fun j hj=>absurd hj (by omega)⟩,H⟩ ?_;clear H;rintro i u w7 ⟨⟨hi,p⟩,H⟩;refine au (fun T=>?_) (fun T=>?_)
     ·have D:i<4:=by have T:(i:Int)<((4:Nat):Int):=T;omega
      refine aw (fun w'=>dS i≠rest∧Hp w R0.foot w' (an gk 9 Li::(po g ⟨kd,ni,no,3,told,ls⟩ (.slice f ls.length c0) hs S)) []) ?_ ?_
      ·refine ak (γ:=Unit) (fun _=>[(8,.int .i64 (i:Int)),(9,aU (dS i))]) (fun _ w'=>Hp w R0.foot w' (an gk 9 Li::(po g ⟨kd,ni,no,3,told,ls⟩ (.slice f ls.length c0) hs S)) []) ?_ ?_
       ·refine aq underlying73 qc i rfl (by omega) (o':=i) (by omega) ?_;refine H.load 0 rfl wC (qG (by omega)) ?_;exact ⟨(),⟨rfl,rfl,trivial⟩,H⟩
       clear H;rintro ⟨⟩ u O H;refine eY ?_;refine aF (fun q=>?_) (fun q=>?_)
       ·have z:=pP D (beq_iff_eq.1 q) p;rw[z] at a;refine aa (fM _) ?_;refine aa (cC _ _) ?_;refine H.store 1 rfl a_ (Nat.le_of_ble_eq_true rfl) rfl ?_;clear H;intro w9 H;exact .inl ⟨⟨i,ni,no,3,told,ls⟩,_,_,_,a,rfl,(jK (L:=[]) (s:=⟨i,ni,no,3,told,ls⟩) (H.b9 [1,2,3] (by decide) rfl)).bg⟩
       ·exact ⟨(),trivial,fun h=>by rw[h] at q;simp at q,H⟩
      ·clear H;rintro ⟨⟩ u O ⟨q,H⟩;exact ⟨i+1,by show 4 - (i+1)<4 - i;omega,⟨up (by omega),trivial⟩,⟨by show i+1≤4;omega,fun j hj=>by rcases Nat.lt_succ_iff_lt_or_eq.1 hj with h | h;exact p j h;subst h;exact q⟩,H⟩
     ·have D:i=4:=by have T:¬ (i:Int)<((4:Nat):Int):=T;omega
      subst D;exact ⟨(),trivial,p,H.forget⟩
    clear H;rintro ⟨⟩ u K ⟨p,H⟩;rw[ux p] at a;obtain ⟨o,c⟩:=H.rH;exact .inr ⟨2,o,a,rfl,by decide,c⟩
   ·exact ⟨(),trivial,fun U=>h (show (st:Int)=2 by rw[U.2];rfl),H⟩
 clear H;rintro ⟨⟩ u J ⟨r,H⟩;rw[if_neg r] at a;clear r n;generalize eu [46,112] 0 64 line=N at a n3;refine aw (fun w'=>¬ (0≤N∧st≤3)∧Hp w R0.foot w' (po g ⟨kd,ni,no,st,told,ls⟩ (.slice f ls.length c0) hs S) []) ?_ ?_
 ·refine ak (γ:=Unit) (fun _=>[(10,.int .i64 (N))]) (fun _ w'=>Hp w R0.foot w' (po g ⟨kd,ni,no,st,told,ls⟩ (.slice f ls.length c0) hs S) []) ?_ ?_
  ·refine aj (n3 _ (y _ _ _ H)) ?_;rintro _ K ⟨rfl,m⟩;exact ⟨(),⟨rfl,trivial⟩,H.same m⟩
  clear H;rintro ⟨⟩ u K H;by_cases F:0≤N
  ·repeat refine ag (decide_eq_true F) ?_
   refine aa (iz _) ?_
   repeat refine ag (decide_eq_true F) ?_
   refine H.load 0 rfl aE rfl ?_
   repeat refine ag (decide_eq_true F) ?_
   refine au (fun h=>?_) (fun h=>?_)
   ·have h3:st≤3:=by have h:(st:Int)≤3:=h;omega
    rw[if_pos ⟨F,h3⟩] at a;refine aa (xw _) ?_;refine H.store 0 rfl a_ (Nat.le_of_ble_eq_true rfl) rfl ?_;clear H;intro w7 H;refine aa (iz _) ?_;refine H.store 0 rfl a_ (Nat.le_of_ble_eq_true rfl) rfl ?_;clear H;intro O H;exact .inl ⟨⟨kd,ni,no,4,N,ls⟩,_,_,_,a,rfl,(jK (L:=[]) (s:=⟨kd,ni,no,4,N,ls⟩) H).bg⟩
   ·exact ⟨(),trivial,fun U=>h (show (st:Int)≤3 by have:=U.2;omega),H⟩
  ·repeat refine ae (decide_eq_false F) ?_
   refine ae rfl ?_;exact ⟨(),trivial,fun U=>F U.1,H⟩
 clear H;rintro ⟨⟩ u w7 ⟨r,H⟩;rw[if_neg r] at a;clear r;refine aw (fun w'=>Hp w R0.foot w' (po g ⟨kd,ni,no,4,told,ls⟩ (.slice f ls.length c0) hs S) []) ?_ ?_
 ·refine aa (iz _) ?_;refine H.store 0 rfl a_ (Nat.le_of_ble_eq_true rfl) rfl ?_;clear H;intro J H;exact ⟨(),trivial,H⟩
 clear H;rintro ⟨⟩ u O H;have z:jg ⟨kd,ni,no,st,told,ls⟩ line=if line=[46,101] then (if told<0∨told=ls.length then .ok ⟨kd,ni,no,5,told,ls⟩ else .error 2)
  else match ku ni no line with
   | none=>.error 2
   | some l=>if ls.length=64 then .error 3 else .ok ⟨kd,ni,no,4,told,ls++[l]⟩:=rfl
 rw[z] at a;clear z;refine aw (fun w'=>line≠[46,101]∧Hp w R0.foot w' (po g ⟨kd,ni,no,4,told,ls⟩ (.slice f ls.length c0) hs S) []) ?_ ?_
 ·refine eY (b:=[46,101]) ?_;refine aF (fun q=>?_) (fun q=>?_)
  ·rw[if_pos (beq_iff_eq.1 q)] at a;refine aw (fun w'=>Hp w R0.foot w' (po g ⟨kd,ni,no,5,told,ls⟩ (.slice f ls.length c0) hs S) []) ?_ ?_
   ·refine aa (iz _) ?_;refine H.store 0 rfl a_ (Nat.le_of_ble_eq_true rfl) rfl ?_;clear H;intro w9 H;exact ⟨(),trivial,H⟩
   clear H;rintro ⟨⟩ u w9 H;refine H.draw eN (by kernel_rfl) ?_;clear H;intro V H;refine quiet _ (fun w H=>aa (xw _) af) ?_;refine quiet _ (fun w H=>H.load 0 rfl aE rfl af) ?_;by_cases t:told<0
   ·rw[if_pos (.inl t)] at a
    repeat refine ag (decide_eq_true t) ?_
    refine aj (NZ _ _) ?_;rintro _ E ⟨rfl,m⟩;replace H:=H.same m;refine ⟨.inl H,?_⟩;refine .inl ⟨⟨kd,ni,no,5,told,ls⟩,_,_,_,a,?_,(jK (L:=[]) (s:=⟨kd,ni,no,5,told,ls⟩) H).bg⟩;rfl
   ·repeat refine ae (decide_eq_false t) ?_
    refine quiet _ (fun w H=>aa (xw _) af) ?_
    repeat refine ae (decide_eq_false t) ?_
    refine quiet _ (fun w H=>H.load 0 rfl aE rfl af) ?_
    repeat refine ae (decide_eq_false t) ?_
    refine quiet _ (fun w H=>aa (fM _) af) ?_
    repeat refine ae (decide_eq_false t) ?_
    refine quiet _ (fun w H=>aa (dC _ _) af) ?_
    repeat refine ae (decide_eq_false t) ?_
    refine quiet _ (fun w H=>H.load 0 rfl fQ rfl af) ?_
    repeat refine ae (decide_eq_false t) ?_
    refine quiet _ (fun w H=>ay underlying31 af) ?_
    repeat refine ae (decide_eq_false t) ?_
    refine aj (NZ _ _) ?_;rintro _ E ⟨rfl,m⟩;replace H:=H.same m;refine ⟨.inl H,?_⟩;by_cases he:told=(ls.length:Int)
    ·rw[if_pos (.inr he)] at a;refine .inl ⟨⟨kd,ni,no,5,told,ls⟩,_,_,_,a,?_,(jK (L:=[]) (s:=⟨kd,ni,no,5,told,ls⟩) H).bg⟩;rw[beq_iff_eq.2 he];rfl
    ·rw[if_neg (fun h=>h.elim t he)] at a;obtain ⟨o,c⟩:=H.rH;refine .inr ⟨2,o,a,?_,by decide,c⟩;rw[beq_eq_false_iff_ne.2 he];rfl
  ·exact ⟨(),trivial,fun h=>by rw[h] at q;simp at q,H⟩
 clear H;rintro ⟨⟩ u w9 ⟨hne,H⟩;rw[if_neg hne] at a;refine ak (γ:=Unit) (fun _=>[(11,.bool ((ls.length:Int)==64))]) (fun _ w'=>Hp w R0.foot w' (po g ⟨kd,ni,no,4,told,ls⟩ (.slice f ls.length c0) hs S) []) ?_ ?_
 ·refine aa (fM _) ?_;refine aa (dC _ _) ?_;refine H.load 0 rfl fQ rfl ?_;refine ay underlying31 ?_;exact ⟨(),⟨rfl,trivial⟩,H⟩
 clear H;rintro ⟨⟩ u V H;have X:=jK (L:=[]) (s:=⟨kd,ni,no,4,told,ls⟩) H;have Y:∀ x,Le x→¬ (oj g ⟨kd,ni,no,4,told,ls⟩ (.slice f ls.length c0) hs S).foot x:=fun x I hf=>by
  rcases X.new _ (.head _) x hf with h | h
  ·have:=hg.lt x I;omega
  ·exact C x I h
 have hc:=PB line hl g ⟨kd,ni,no,4,told,ls⟩ G (.slice f ls.length c0) hs S V (y _ _ _ H) Y (X.get 0 rfl);refine ak (γ:=Ln × Value × List Hd × (Nat→Prop)) (fun _=>[]) (fun (l,v',A,S') w'=>ku ni no line=some l∧Hp w R0.foot w' [oj g ⟨kd,ni,no,4,told,ls++[l]⟩ v' A S'] []) ?_ ?_
 ·refine aj hc ?_;rintro _ E (⟨d,rfl,o,hT⟩ | ⟨l,v',A,S',d,rfl,hT⟩)
  ·refine ag rfl ?_;rw[d] at a;have H2:=X.cg 0 rfl hT;obtain ⟨o,c⟩:=H2.rH;exact .inr ⟨2,o,a,rfl,by decide,c⟩
  ·refine ae rfl ?_;exact ⟨(l,v',A,S'),trivial,d,X.cg 0 rfl hT⟩
 clear H X hc;rintro ⟨l,v',A,S'⟩ u E ⟨d,H⟩;rw[d] at a;simp only at a;by_cases Z:ls.length=64
 ·rw[if_pos Z] at a;refine ag (beq_iff_eq.2 (by omega)) ?_;exact .inr ⟨3,_,a,rfl,by decide,H.bg⟩
 ·rw[if_neg Z] at a;refine ae (beq_eq_false_iff_ne.2 (by omega)) ?_;exact .inl ⟨_,_,_,_,a,rfl,H.bg⟩
structure qM (s:Rd):Prop where
 kd:s.kd≤3
 ni:s.ni≤8
 no:2≤s.st→1≤s.no∧s.no≤4
 st:s.st≤5
 told:s.told≤64
 few:s.ls.length≤64
 none:s.st<2→s.ls=[]
 ls:∀ l ∈ s.ls,uW s.ni s.no l
theorem xx {wd line:List UInt8}{lo hi:Nat}(h:0≤eu wd lo hi line):lo≤(eu wd lo hi line).toNat∧(eu wd lo hi line).toNat≤hi:=by
 obtain ⟨n,a,b,c,_⟩:=vS h;rw[c,Int.toNat_natCast];exact ⟨a,b⟩
theorem Iq {ni no:Nat}{line:List UInt8}{l:Ln}(h:ku ni no line=some l):uW ni no l:=by
 unfold ku at h;generalize Lib.cut line [32]=q at h;obtain ⟨a,b,ok⟩:=q;simp only at h;split at h
 ·rename_i i;injection h with h;subst h;obtain ⟨d,_⟩:=i;unfold lQ at d;simp only[Bool.and_eq_true,beq_iff_eq] at d;obtain ⟨⟨_,e⟩,f⟩:=d;refine ⟨?_,?_,?_,?_⟩
  ·show dK a a.length<2^ni;rw[← e];exact ft _ _
  ·show dL a a.length &&&dK a a.length=dL a a.length;apply Nat.eq_of_testBit_eq;intro p;unfold dL dK;rw[Nat.testBit_and,bZ,bZ];by_cases g:a.getD p 45=49
   ·rw[g]
    cases decide (p<a.length) <;> rfl
   ·rw[show (a.getD p 45==49)=false by simpa using g];simp
  ·show (b.map bI).length=no;rw[List.length_map,f]
  ·intro x j;obtain ⟨c,_,rfl⟩:=List.mem_map.1 j;unfold bI;split <;> try split
   all_goals decide
 ·cases h
theorem Gh {r:List UInt8}{k:Nat}(h:qJ r=some k):k≤3:=by
 have:=List.mem_range.1 (List.mem_of_find?_eq_some h);omega
theorem qN {s j:Rd}{line:List UInt8}(hs:qM s)(h:gr s line=.ok j):qM j:=by
 obtain ⟨kd,ni,no,st,told,ls⟩:=s;obtain ⟨b,k2,k3,m,c,k6,g,d⟩:=hs;simp only at b k2 k3 m c k6 g d;unfold gr at h;simp only at h;split at h
 ·rename_i n;subst n;split at h
  ·rename_i e;injection h with h;subst h;have:=xx e;exact ⟨b,this.2,fun h=>absurd h (show ¬ 2≤1 by decide),show 1≤5 by decide,c,k6,fun _=>g (by decide),fun l a=>by rw[show ls=[] from g (by decide)] at a;cases a⟩
  ·cases h
 ·split at h
  ·rename_i o;subst o;split at h
   ·rename_i e;injection h with h;subst h;have:=xx e;exact ⟨b,k2,fun _=>this,show 2≤5 by decide,c,k6,fun h=>absurd h (show ¬ 2<2 by decide),fun l a=>by rw[show ls=[] from g (by decide)] at a;cases a⟩
   ·cases h
  ·split at h
   ·cases h
   ·have i:2≤st:=by omega
    unfold iw at h;simp only at h;split at h
    ·split at h
     ·rename_i k p;injection h with h;subst h;exact ⟨Gh p,k2,fun _=>k3 i,show 3≤5 by decide,c,k6,fun h=>absurd h (show ¬ 3<2 by decide),d⟩
     ·cases h
    ·split at h
     ·rename_i e;injection h with h;subst h;have:=xx e.1;exact ⟨b,k2,fun _=>k3 i,show 4≤5 by decide,by show eu [46,112] 0 64 line≤64;omega,k6,fun h=>absurd h (show ¬ 4<2 by decide),d⟩
     ·unfold jg at h;simp only at h;split at h
      ·split at h
       ·injection h with h;subst h;exact ⟨b,k2,fun _=>k3 i,show 5≤5 by decide,c,k6,fun h=>absurd h (show ¬ 5<2 by decide),d⟩
       ·cases h
      ·split at h
       ·cases h
       ·rename_i l a;split at h
        ·cases h
        ·injection h with h;subst h;refine ⟨b,k2,fun _=>k3 i,show 4≤5 by decide,c,?_,fun h=>absurd h (show ¬ 4<2 by decide),fun x f=>?_⟩
         ·show (ls++[l]).length≤64;rw[List.length_append,List.length_singleton];omega
         ·rcases List.mem_append.1 f with f | f
          ·exact d x f
          ·rw[List.mem_singleton.1 f];exact Iq a
def ix:Nat→Rd→List (List UInt8)→Except (Nat × Int) Rd
 | _,s,[]=>.ok s
 | i,s,l::r=>if l=[]∨l.head?=some 35 then ix (i+1) s r else match gr s l with
  | .error e=>.error (i,e)
  | .ok s'=>ix (i+1) s' r
def uX:Rd:=⟨1,0,0,0,-1,[]⟩
theorem xy:qM uX:=⟨show 1≤3 by decide,Nat.zero_le _,fun h=>absurd h (show ¬ 2≤0 by decide),Nat.zero_le _,show (-1:Int)≤64 by decide,Nat.zero_le _,fun _=>rfl,fun l a=>by cases a⟩
theorem uy:∀ {r:List (List UInt8)} {i:Nat} {s a:Rd},qM s→ix i s r=.ok a→qM a
 | [],i,s,a,hs,h=>by
  unfold ix at h;injection h with h;subst h;exact hs
 | l::r,i,s,a,hs,h=>by
  unfold ix at h;split at h
  ·exact uy hs h
  ·cases ht:gr s l with
   | error e=>rw[ht] at h;cases h
   | ok s1=>rw[ht] at h;exact uy (qN hs ht) h
def Bd (text:List UInt8)(s:Rd):Except (Nat × Int) Rd:=
 if (bM text).getLastD []≠[] then .error ((bM text).length - 1,2)
 else if s.st≠5 then .error ((bM text).length - 1,7)
 else .ok s
def cY (text:List UInt8):Except (Nat × Int) Rd:=
 if 8000<text.length then .error (0,3) else match ix 0 uX (bM text).dropLast with
  | .error x=>.error x
  | .ok s=>Bd text s
def Rd.tb (s:Rd):Tb:=⟨s.kd,s.ni,s.no,s.ls⟩
theorem kG {text:List UInt8}{s:Rd}(h:cY text=.ok s):j7 s.tb:=by
 unfold cY at h;split at h
 ·cases h
 ·split at h
  ·cases h
  ·rename_i s1 c;have a:=uy xy c;unfold Bd at h;split at h
   ·cases h
   ·split at h
    ·cases h
    ·rename_i d;injection h with h;subst h;have b:=a.no (by omega);exact ⟨a.kd,a.ni,b.1,b.2,a.few,a.ls⟩
theorem oW:∀ {t l:List UInt8},l ∈ bM t→l.length≤t.length
 | [],l,h=>by
  simp[bM] at h;subst h;exact Nat.le_refl _
 | c::t,l,h=>by
  by_cases a:c=10
  ·subst a;rw[lO] at h;rcases List.mem_cons.1 h with rfl | h
   ·exact Nat.zero_le _
   ·exact Nat.le_succ_of_le (oW h)
  ·cases hl:bM t with
   | nil=>exact absurd hl (mJ t)
   | cons x xs=>
    rw[iJ a hl] at h;rcases List.mem_cons.1 h with rfl | h
    ·exact Nat.succ_le_succ (oW (by rw[hl];exact .head _))
    ·exact Nat.le_succ_of_le (oW (by rw[hl];exact .tail _ h))
theorem zi {w:World}{kk:Value→World→Prop}(h:kk (sN 1 0 0 (.slice none 0 0)) w):b6 prog 33 [(0,.int .i64 1)] w kk:=bx (fun w=>by kernel_rfl) h
theorem Gi {w:World}{kk:Value→World→Prop}(h:kk (.agg (LJ 1 0 0 (.slice none 0 0) 0 (-1))) w):b6 prog 100 [(0,sN 1 0 0 (.slice none 0 0)),(2,.int .i64 (-1))] w kk:=bx (fun w=>by kernel_rfl) h
theorem gW {i:Nat}{s:Rd}{l:List UInt8}{r:List (List UInt8)}:ix i s (l::r)=if l=[]∨l.head?=some 35 then ix (i+1) s r else match gr s l with
  | .error e=>.error (i,e)
  | .ok s'=>ix (i+1) s' r:=rfl
abbrev I7 (g2 g5 g6 n:Nat)(ls:List (List UInt8))(s:Rd)(v:Value)(hs:List Hd)(S:Nat→Prop):List cS:=
 [oj g5 s v hs S,own 9 1 (.slice (some ⟨g6,0,none⟩) n n) n (ls.map aU),an g2 33 (cI 0 0 0 (.slice none 0 0))]
theorem No:enters prog 21=true:=by kernel_rfl
set_option maxHeartbeats 4000000 in
theorem c21 (text:List UInt8)(hl:text.length≤100000)(w:World)(p:jD w):bz prog 21 [aU text] w fun r w'=>
  (∃ (i:Nat) (e:Int),cY text=.error (i,e)∧r=.tuple #[sN 0 0 0 (.slice none 0 0),.int .i64 (i:Int),.int .i64 e]∧e≠0∧aT w w')∨
  (∃ s v S,cY text=.ok s∧r=.tuple #[sN s.kd s.ni s.no v,.int .i64 0,.int .i64 0]∧eW w w' (e9 S v s.ls)):=by
 refine ar (N:=68) func21 No rfl rfl rfl (by simp) ?_;have H:=Hp.aC w;have d:cY text=if 8000<text.length then .error (0,3) else match ix 0 uX (bM text).dropLast with
  | .error x=>.error x
  | .ok s=>Bd text s:=rfl
 refine ak (γ:=Nat) (fun g2=>[(2,(ah g2))]) (fun g2 w'=>Hp w ab w' [an g2 33 (cI 0 0 0 (.slice none 0 0))] []) ?_ ?_
 ·refine H.alloc 33 (cs:=cI 0 0 0 (.slice none 0 0)) nn rfl ?_;clear H;intro g2 w1 H;exact ⟨g2,⟨rfl,trivial⟩,H⟩
 clear H;rintro g2 u w1 H;have hsz:(⟨text.toArray⟩:ByteArray).size=text.length:=ig text;refine aw (fun w'=>¬ 8000<text.length∧Hp w ab w' [an g2 33 (cI 0 0 0 (.slice none 0 0))] []) ?_ ?_
 ·refine ep underlying9 ?_;refine au (fun h=>?_) (fun h=>?_)
  ·rw[if_pos (show 8000<text.length by omega)] at d;refine jf ?_;refine H.storeAll 0 rfl bw rfl dH ?_;clear H;intro w2 H;refine H.ai 0 rfl eL bw ?_;exact ⟨rfl,.inl ⟨0,3,d,rfl,by decide,H.keeps⟩⟩
  ·exact ⟨(),trivial,by omega,H⟩
 clear H;rintro ⟨⟩ u w2 ⟨h8,H⟩;rw[if_neg h8] at d;refine ak (γ:=Nat) (fun g5=>[(5,(ah g5))]) (fun g5 w'=>Hp w ab w' [oj g5 uX (.slice none 0 0) [] (fun _=>False),an g2 33 (cI 0 0 0 (.slice none 0 0))] []) ?_ ?_
 ·refine zi ?_;refine Gi ?_;refine H.box 100 _ (cs:=LJ 1 0 0 (.slice none 0 0) 0 (-1)) rfl ?_;clear H;intro g5 w3 H;have o:=H.add (aS.refl _ _) (qT (fun _=>False) [] []) (lX.nil _ _) (fun g p=>p.elim);exact ⟨g5,⟨rfl,trivial⟩,jK (s:=uX) ((o.bC 77 3).b9 [2,0,1,3] (by decide) rfl)⟩
 clear H;rintro g5 u w3 H;have I:=mJ text;have hle:∀ l ∈ bM text,l.length≤100000:=fun l h=>Nat.le_trans (oW h) hl;have J:(bM text).length≤100001:=by rw[lW];have:=List.count_le_length (a:=(10:UInt8)) (l:=text);omega
 have t:∀ s,Bd text s=if (bM text).getLastD []≠[] then .error ((bM text).length - 1,2) else if s.st≠5 then .error ((bM text).length - 1,7) else .ok s:=fun s=>rfl;have m:=Pt text hl;generalize bM text=Ls at d I hle J t m;obtain ⟨N,V⟩:∃ N,Ls.length=N+1:=⟨Ls.length - 1,by have:Ls.length≠0:=fun h=>I (List.length_eq_zero_iff.1 h);omega⟩;rw[V] at m;simp only[V,Nat.add_sub_cancel] at t;refine ak (γ:=Nat) (fun g6=>[(6,.slice (some ⟨g6,0,none⟩) (N+1) (N+1))]) (fun g6 w'=>Hp w ab w' (I7 g2 g5 g6 (N+1) Ls uX (.slice none 0 0) [] (fun _=>False)) []) ?_ ?_
 ·refine aj (m _ (p.same H.keeps)) ?_;rintro _ w4 ⟨g6,rfl,hn⟩;exact ⟨g6,⟨rfl,trivial⟩,(H.bq hn).front 1 rfl⟩
 clear H m;rintro g6 u w4 H;refine ak (γ:=Unit) (fun _=>[(7,.int .i64 (N:Int))]) (fun _ w'=>Hp w ab w' (I7 g2 g5 g6 (N+1) Ls uX (.slice none 0 0) [] (fun _=>False)) []) ?_ ?_
 ·refine ay underlying73 ?_;have e:IntKind.i64.wrap (((N+1:Nat):Int) - 1)=(N:Int):=by rw[aH (by omega) (by omega)];omega
  exact ⟨(),⟨congrArg (Value.int .i64) e,trivial⟩,H⟩
 clear H;rintro ⟨⟩ u w5 H;have hdl:Ls.dropLast.length=N:=by rw[List.length_dropLast,V];rfl
 have Y:∀ i,i<N→∃ l,Ls[i]?=some l∧l ∈ Ls∧Ls.dropLast.drop i=l::Ls.dropLast.drop (i+1):=fun i hi=>by
  refine ⟨Ls[i],List.getElem?_eq_getElem (by omega),List.getElem_mem _,?_⟩;rw[List.drop_eq_getElem_cons (by omega),List.getElem_dropLast]
 refine ak (γ:=Rd × Value × List Hd × (Nat→Prop)) (fun _=>[]) (fun (s,v,hs,S) w'=>(qM s∧cY text=Bd text s)∧Hp w ab w' (I7 g2 g5 g6 (N+1) Ls s v hs S) []) ?_ ?_
 ·refine vF underlying73 qc rfl (i:=N) (by omega) (Nat.le_refl _) (by omega) ?_;refine ay underlying73 ?_;refine ax (γ:=Nat × Rd × Value × List Hd × (Nat→Prop)) (fun (i,_)=>[(27,.int .i64 (i:Int))]) (fun (i,s,v,hs,S) w'=>(i≤N∧qM s∧ix 0 uX Ls.dropLast=ix i s (Ls.dropLast.drop i))∧Hp w ab w' (I7 g2 g5 g6 (N+1) Ls s v hs S) []) (fun (i,_)=>N - i) (0,uX,.slice none 0 0,[],fun _=>False) ⟨rfl,trivial⟩ ⟨⟨Nat.zero_le _,xy,rfl⟩,H⟩ ?_;clear H;rintro ⟨i,s,v,hs,S⟩ u w6 ⟨⟨hi,f,n⟩,H⟩;refine au (fun h7=>?_) (fun h7=>?_)
  ·have K:i<N:=by omega
   obtain ⟨line,C,M,D⟩:=Y i K;rw[D,gW] at n;have Z:=hle line M;refine ak (γ:=Rd × Value × List Hd × (Nat→Prop)) (fun _=>[]) (fun (E,v,hs,S) w'=>(qM E∧ix 0 uX Ls.dropLast=ix (i+1) E (Ls.dropLast.drop (i+1)))∧Hp w ab w' (I7 g2 g5 g6 (N+1) Ls E v hs S) []) ?_ ?_
   ·refine ak (γ:=Unit) (fun _=>[(8,.int .i64 (i:Int)),(9,aU line)]) (fun _ w'=>Hp w ab w' (I7 g2 g5 g6 (N+1) Ls s v hs S) []) ?_ ?_
    ·refine aq underlying73 qc i rfl K (o':=i) (by omega) ?_;refine H.eJ 1 rfl wC (by rw[List.getElem?_map,C];rfl) ?_;exact ⟨(),⟨rfl,rfl,trivial⟩,H⟩
    clear H;rintro ⟨⟩ u w7 H;refine aw (fun w'=>¬ (line=[]∨line.head?=some 35)∧Hp w ab w' (I7 g2 g5 g6 (N+1) Ls s v hs S) []) ?_ ?_
    ·refine eY (b:=[]) ?_
     cases line with
     | nil=>
      rw[if_pos (.inl rfl)] at n
      repeat refine ag rfl ?_
      exact ⟨(s,v,hs,S),trivial,⟨f,n⟩,H⟩
     | cons c line=>
      repeat refine ae rfl ?_
      refine iU (l:=c::line) (i:=0) (by simp) underlying9 ?_
      repeat refine ae rfl ?_
      have hc0:∀ {q:Prop},(c::line=[]∨(c::line).head?=some 35→q)→c=35→q:=fun h e=>h (.inr (by rw[e];rfl));refine ck (fun h=>?_) (fun h=>?_)
      ·have a0:c=35:=UInt8.toNat_inj.1 (show c.toNat=35 from Int.ofNat_inj.1 h);rw[if_pos (.inr (by rw[a0];rfl))] at n;exact ⟨(s,v,hs,S),trivial,⟨f,n⟩,H⟩
      ·refine ⟨(),trivial,fun F=>?_,H⟩;rcases F with F | F
       ·cases F
       ·injection F with F;exact h (by rw[F];rfl)
    clear H;rintro ⟨⟩ u w8 ⟨hno,H⟩;rw[if_neg hno] at n;have O:∀ x,Le x→¬ (oj g5 s v hs S).foot x:=fun x hx n=>by
     rcases H.new _ (.head _) x n with h | h
     ·have:=p.lt x hx;omega
     ·exact h
    have hc:=PC line Z g5 s f.few f.st f.told v hs S w8 (p.same H.keeps) O (H.get 0 rfl);refine aj hc ?_;rintro _ w9 (⟨E,v',G,S',X,rfl,hT⟩ | ⟨e,R',X,rfl,he,hT⟩)
    ·refine ae rfl ?_;rw[X] at n;exact ⟨(E,v',G,S'),trivial,⟨qN f X,n⟩,H.cg 0 rfl hT⟩
    ·refine ag (by simpa using he) ?_;rw[X] at n;rw[n] at d;have o:=H.cg 0 rfl hT;refine jf ?_;refine o.storeAll 2 rfl bw rfl dH ?_;clear H o;intro Q H;refine H.ai 2 rfl eL bw ?_;exact ⟨rfl,.inl ⟨i,e,d,rfl,he,H.keeps⟩⟩
   ·clear H;rintro ⟨E,v',G,S'⟩ u w8 ⟨⟨T,hf'⟩,H⟩;exact ⟨(i+1,E,v',G,S'),by show N - (i+1)<N - i;omega,⟨up (by omega),trivial⟩,⟨by show i+1≤N;omega,T,hf'⟩,H⟩
  ·obtain rfl:i=N:=by omega
   rw[show Ls.dropLast.drop i=[] from List.drop_eq_nil_of_le (by omega)] at n;rw[n] at d;exact ⟨(s,v,hs,S),trivial,⟨f,d⟩,H⟩
 clear H;rintro ⟨s,v,hs,S⟩ u w6 ⟨⟨f,B⟩,H⟩;rw[t] at B;obtain ⟨last,y,hlm⟩:∃ l,Ls[N]?=some l∧l ∈ Ls:=⟨Ls[N],List.getElem?_eq_getElem (by omega),List.getElem_mem _⟩;have hgl:Ls.getLastD []=last:=by
  rw[List.getLastD_eq_getLast?,List.getLast?_eq_getElem?,V];show (Ls[N]?).getD []=last;rw[y];rfl
 rw[hgl] at B;refine aw (fun w'=>(last=[]∧s.st=5)∧Hp w ab w' (I7 g2 g5 g6 (N+1) Ls s v hs S) []) ?_ ?_
 ·refine aq underlying73 qc N rfl (by omega) (o':=N) (by omega) ?_;refine H.eJ 1 rfl wC (by rw[List.getElem?_map,y];rfl) ?_;refine hH (b:=[]) ?_;by_cases k:last=[]
  ·rw[if_neg (fun h=>h k)] at B;refine ae (by rw[k];rfl) ?_;have o:=Hp.split (Ls:=po g5 s v hs S) H;refine aa (iz _) ?_;refine o.load 0 rfl aE rfl ?_;by_cases U:s.st=5
   ·refine ae (by rw[U];rfl) ?_;exact ⟨(),trivial,⟨k,U⟩,H⟩
   ·rw[if_pos U] at B;refine ag (bne_iff_ne.2 (by omega)) ?_;refine jf ?_;refine H.storeAll 2 rfl bw rfl dH ?_;clear H o;intro Q H;refine H.ai 2 rfl eL bw ?_;exact ⟨rfl,.inl ⟨N,7,B,rfl,by decide,H.keeps⟩⟩
  ·rw[if_pos k] at B;refine ag (by simpa using k) ?_;refine jf ?_;refine H.storeAll 2 rfl bw rfl dH ?_;clear H;intro Q H;refine H.ai 2 rfl eL bw ?_;exact ⟨rfl,.inl ⟨N,2,B,rfl,by decide,H.keeps⟩⟩
 clear H;rintro ⟨⟩ u w7 ⟨⟨k,U⟩,H⟩;rw[if_neg (fun h=>h k),if_neg (fun h=>h U)] at B;have o:=Hp.split (Ls:=po g5 s v hs S) H;clear H;obtain ⟨A,c,rfl,hc⟩:=fz (o.get 1 rfl);refine aa (fM _) ?_;refine o.cB 0 rfl (cI s.kd s.ni s.no (.slice A s.ls.length c)).toList eL bw (fun j u z=>?_) ?_
 ·match j,z with
  | 0,z=>exact z
  | 1,z=>exact z
  | 2,z=>exact z
  | 3,z=>exact z
  | j+4,z=>simp[cI] at z
 refine o.storeAll 4 rfl bw rfl dH ?_;clear o;intro w8 H;refine H.ai 4 rfl eL bw ?_;refine ⟨rfl,.inr ⟨s,.slice A s.ls.length c,_,B,rfl,xq H.keeps (H.get 1 rfl) (fun g p=>⟨(H.new _ (.tail _ (.head _)) g p).resolve_right id,H.lt _ (.tail _ (.head _)) g p⟩) (H.get 2 rfl) (fun g p=>⟨(H.new _ (.tail _ (.tail _ (.head _))) g p).resolve_right id,H.lt _ (.tail _ (.tail _ (.head _))) g p⟩) rfl⟩⟩
theorem Cl {w0 w:World}{F:Nat→Prop}{L M:List cS}{g k:Nat}{x:Int}{kk:Value→World→Prop}(H:Hp w0 F w (an g 5 #[.int .u8 x]::L) M)(c:k<256)(a:x=(k:Int))(h:kk (aU [UInt8.ofNat k]) w) :
  pV prog 151 9 (.slice (some ⟨g,0,none⟩) 1 1) w kk:=by
 have b:=H.pF (l:=1) (sz:=1) rfl (by decide);refine b.tl (bs:=[UInt8.ofNat k]) 0 underlying151 underlying5 underlying9 ?_ h;have e:(UInt8.ofNat k).toNat=k:=by simp;omega
 show some (own 5 1 (.slice (some ⟨g,0,none⟩) 1 1) 1 [.int .u8 x])=some (own 5 1 (.slice (some ⟨g,0,none⟩) 1 1) 1 [.int .u8 ((UInt8.ofNat k).toNat:Int)]);rw[a,e]
theorem zj {x:Nat}(h:x<10):IntKind.u8.wrap (IntKind.i64.wrap (48+(x:Int)))=((48+x:Nat):Int):=by
 rw[aH (by omega) (by omega),mT (by omega) (by omega)];omega
theorem Np:enters prog 63=true:=by kernel_rfl
theorem PD (n:Nat)(e:n<100)(w:World):bz prog 63 [.int .i64 (n:Int)] w fun r w'=>r=aU (cX n)∧aT w w':=by
 refine ar (N:=21) func63 Np rfl rfl rfl (by simp) ?_;have H:=Hp.aC w;have b:(n:Int) % (10:Int)=((n % 10:Nat):Int):=by omega
 have c:(n:Int) / (10:Int)=((n / 10:Nat):Int):=by omega
 refine ak (γ:=Unit) (fun _=>[(2,aU [])]) (fun _ w'=>Hp w ab w' [] []) ⟨(),⟨rfl,trivial⟩,H⟩ ?_;clear H;rintro ⟨⟩ u f H;refine ak (γ:=Unit) (fun _=>[(3,aU [UInt8.ofNat (48+n % 10)])]) (fun _ w'=>Hp w ab w' [] []) ?_ ?_
 ·refine ly (by omega) (by omega) ?_;refine jR (by kernel_rfl) underlying5 ?_;refine H.aY EE rfl ?_;clear H;intro g d H;refine Cl (k:=48+n % 10) H (by omega) (by rw[b];exact zj (by omega)) ?_;exact ⟨(),⟨rfl,trivial⟩,H.forget⟩
 clear H;rintro ⟨⟩ u d H;refine aw (fun w'=>¬ n<10∧Hp w ab w' [] []) ?_ ?_
 ·refine au (fun h=>?_) (fun h=>?_)
  ·have h:n<10:=by have h:(n:Int)<10:=h;omega
   refine ⟨congrArg aU (show [UInt8.ofNat (48+n % 10)]=cX n from ?_),H.keeps⟩;unfold cX;rw[if_pos h,Nat.mod_eq_of_lt h]
  ·exact ⟨(),trivial,fun i=>h (show (n:Int)<10 by omega),H⟩
 clear H;rintro ⟨⟩ u j ⟨a,H⟩;refine nJ (by omega) (by omega) (by omega) ?_;refine jR (by kernel_rfl) underlying5 ?_;refine H.aY EE rfl ?_;clear H;intro g l H;refine Cl (k:=48+n / 10) H (by omega) (by rw[c];exact zj (by omega)) ?_;refine a8 (by simp) ?_;refine ⟨congrArg aU (show [UInt8.ofNat (48+n / 10)]++[UInt8.ofNat (48+n % 10)]=cX n from ?_),H.keeps⟩;unfold cX;rw[if_neg a];rfl
theorem Nq:enters prog 31=true:=by kernel_rfl
theorem c31 (w:World):bz prog 31 [] w fun r w'=>∃ g,r=.slice (some ⟨g,0,none⟩) 4 4∧eW w w' (an g 9 Li):=by
 refine ar (N:=2) func31 Nq rfl rfl rfl (by simp) ?_;have H:=Hp.aC w;refine H.bk Ob (cs:=Li) (by decide) (by decide) (by kernel_rfl) ?_;clear H;intro g a H;exact ⟨g,rfl,H.out⟩
theorem Nr:enters prog 30=true:=by kernel_rfl
theorem OT (line wd:List UInt8)(hw:wd.length≤10)(lo hi:Nat)(i:hi<65)(o:lo≤hi)(w:World):bz prog 30 [aU line,aU wd,.int .i64 (lo:Int),.int .i64 (hi:Int)] w fun r w'=>r=.int .i64 (eu wd lo hi line)∧aT w w':=by
 refine ar (N:=24) func30 Nr rfl rfl rfl (by simp) ?_;have H:=Hp.aC w;refine ak (γ:=Unit) (fun _=>[(8,.int .i64 0)]) (fun _ w'=>Hp w ab w' [] []) ⟨(),⟨rfl,trivial⟩,H⟩ ?_;clear H;rintro ⟨⟩ u x H;refine aw (fun w'=>(∀ m,lo≤m→m≤hi→line≠wd++32::cX m)∧Hp w ab w' [] []) ?_ ?_
 ·refine ax (γ:=Nat) (fun n=>[(9,.int .i64 (n:Int))]) (fun n w'=>(lo≤n∧n≤hi+1∧∀ m,lo≤m→m<n→line≠wd++32::cX m)∧Hp w ab w' [] []) (fun n=>hi+1 - n) lo ⟨rfl,trivial⟩ ⟨⟨Nat.le_refl _,by omega,fun m k p=>by omega⟩,H⟩ ?_;clear H;rintro n u q ⟨⟨k,p,a⟩,H⟩;refine au (fun d=>?_) (fun d=>?_)
  ·have l:n≤hi:=by have d:(n:Int)≤(hi:Int):=d;omega
   have s:=j1 n;refine aw (fun w'=>line≠wd++32::cX n∧Hp w ab w' [] []) ?_ ?_
   ·refine a8 (b:=[32]) (by simp only[List.length_cons,List.length_nil];omega) ?_;refine aj (PD n (by omega) _) ?_;rintro _ t ⟨rfl,v⟩;replace H:=H.same v;refine a8 (by simp only[List.length_append,List.length_cons,List.length_nil];omega) ?_;refine eY ?_;have e:wd++[32]++cX n=wd++32::cX n:=by simp
    rw[e];refine aF (fun g=>?_) (fun g=>?_)
    ·exact ⟨by rw[qH i k l (beq_iff_eq.1 g)];rfl,H.keeps⟩
    ·exact ⟨(),trivial,fun h=>by rw[h] at g;simp at g,H⟩
   ·clear H;rintro ⟨⟩ u t ⟨j,H⟩;exact ⟨n+1,by show hi+1 - (n+1)<hi+1 - n;omega,⟨up (by omega),trivial⟩,⟨by show lo≤n+1;omega,by show n+1≤hi+1;omega,fun m c f=>by rcases Nat.lt_succ_iff_lt_or_eq.1 f with h | h;exact a m c h;subst h;exact j⟩,H⟩
  ·have l:hi<n:=by have d:¬ (n:Int)≤(hi:Int):=d;omega
   exact ⟨(),trivial,fun m c f=>a m c (by omega),H⟩
 clear H;rintro ⟨⟩ u q ⟨a,H⟩;exact ⟨by rw[vR a];rfl,H.keeps⟩
def sj (ni no:Nat)(line:List UInt8):Option Ln:=
 if (line.length=ni+1+no∧bj (line.take ni)=true∧line[ni]?=some 32)∧(line.drop (ni+1)).all fH=true then
  some (dK (line.take ni) ni,dL (line.take ni) ni,(line.drop (ni+1)).map bI)
 else none
def xK (c:UInt8):Nat→Nat
 | 0=>3
 | m+1=>if c=fa m then m else xK c m
theorem Lj (c:UInt8):xK c 3=if fH c then bI c else 3:=by
 by_cases a:c=48
 ·subst a;decide
 ·by_cases b:c=49
  ·subst b;decide
  ·by_cases d:c=45
   ·subst d;decide
   ·have e0:fa 0=48:=rfl;have e:fa 1=49:=rfl;have f:fa 2=45:=rfl;simp only[xK,e0,e,f,if_neg a,if_neg b,if_neg d];unfold fH;simp[a,b,d]
theorem Gj {m:Nat}(h:m<3):(#[aU [48],aU [49],aU [45]]:Array Value)[m]?=some (aU [fa m]):=by
 rcases (by omega:m=0∨m=1∨m=2) with rfl | rfl | rfl <;> rfl
theorem uz {l:List UInt8}{k:Nat}(h:k<l.length):(l.take (k+1)).drop k=[l[k]]:=by
 rw[List.take_add_one,List.getElem?_eq_getElem h,List.drop_append_of_le_length (by rw[List.length_take];omega),List.drop_eq_nil_of_le (by rw[List.length_take];omega)];rfl
theorem Gk (c:UInt8):bI c<3:=by
 unfold bI;split
 ·decide
 ·split <;> decide
theorem zk {w:World}{kk:Value→World→Prop}(h:kk (.agg (fW 0 0 (.slice none 0 0))) w):b6 prog 77 [] w kk:=bx (fun w=>by kernel_rfl) h
theorem Ns:enters prog 32=true:=by kernel_rfl
set_option maxHeartbeats 4000000 in
theorem PE (line:List UInt8)(hl:line.length≤100000)(ni no:Nat)(T:ni≤8)(U:no≤4)(w:World):bz prog 32 [aU line,.int .i64 (ni:Int),.int .i64 (no:Int)] w fun r w'=>
  (sj ni no line=none∧∃ m v B n c,r=.tuple #[.agg (fW m v (.slice B n c)),.bool false]∧aT w w')∨
  (∃ l B c,sj ni no line=some l∧r=.tuple #[.agg (fW l.1 l.2.1 (.slice B l.2.2.length c)),.bool true]∧eW w w' (own 3 1 (.slice B l.2.2.length c) l.2.2.length (ints l.2.2))):=by
 refine ar (N:=71) func32 Ns rfl rfl rfl (by simp) ?_;have H:=Hp.aC w;have V:(⟨line.toArray⟩:ByteArray).size=line.length:=ig line;have g:sj ni no line=if (line.length=ni+1+no∧bj (line.take ni)=true∧line[ni]?=some 32)∧(line.drop (ni+1)).all fH=true then some (dK (line.take ni) ni,dL (line.take ni) ni,(line.drop (ni+1)).map bI) else none:=rfl;refine ak (γ:=Nat) (fun g6=>[(6,(ah g6)),(7,.bool false)]) (fun g6 w'=>Hp w ab w' [an g6 77 (fW 0 0 (.slice none 0 0))] []) ?_ ?_
 ·refine H.alloc 77 (cs:=fW 0 0 (.slice none 0 0)) lY rfl ?_;clear H;intro g6 X H;exact ⟨g6,⟨rfl,rfl,trivial⟩,H⟩
 clear H;rintro g6 u X H;refine aw (fun w'=>line.length=ni+1+no∧Hp w ab w' [an g6 77 (fW 0 0 (.slice none 0 0))] []) ?_ ?_
 ·refine ep underlying9 ?_;have e:IntKind.i64.wrap (IntKind.i64.wrap ((ni:Int)+1)+(no:Int))=((ni+1+no:Nat):Int):=by
   rw[aH (x:=(ni:Int)+1) (by omega) (by omega),aH (by omega) (by omega)];omega
  refine dq (fun h=>?_) (fun h=>?_)
  ·rw[if_neg (fun y=>h (by rw[e];have:=y.1.1;omega))] at g;refine zk ?_;refine H.storeAll 0 rfl cO rfl (e_ (m:=0) (v:=0)) ?_;clear H;intro Y H;refine H.ai 0 rfl mK cO ?_;exact ⟨rfl,.inl ⟨g,0,0,none,0,0,rfl,H.keeps⟩⟩
  ·refine ⟨(),trivial,?_,H⟩;rw[e] at h;omega
 clear H;rintro ⟨⟩ u Y ⟨hlen,H⟩;have G:(line.take ni).length=ni:=by rw[List.length_take];omega
 refine ak (γ:=Nat) (fun g8=>[(8,(ah g8)),(9,.bool (bj (line.take ni)))]) (fun g8 w'=>Hp w ab w' [an g8 48 (cc (if bj (line.take ni) then dK (line.take ni) ni else 0) (if bj (line.take ni) then dL (line.take ni) ni else 0)),an g6 77 (fW 0 0 (.slice none 0 0))] []) ?_ ?_
 ·refine A_ underlying9 ni rfl (by omega) ?_;refine aj (Ph (line.take ni) (by omega) _) ?_;rintro _ Z ⟨rfl,F⟩;replace H:=H.same F;clear F;have e:jA (line.take ni)=cv (if bj (line.take ni) then dK (line.take ni) ni else 0) (if bj (line.take ni) then dL (line.take ni) ni else 0):=by unfold jA;rw[G];split <;> rfl
  rw[e];refine H.alloc 48 (cs:=cc 0 0) fA rfl ?_;clear H;intro g8 w4 H;refine H.bT 0 rfl ?_;clear H;intro M H;exact ⟨g8,⟨rfl,rfl,trivial⟩,H⟩
 clear H;rintro g8 u Z H;generalize hm:(if bj (line.take ni) then dK (line.take ni) ni else 0)=m at H;generalize O:(if bj (line.take ni) then dL (line.take ni) ni else 0)=v at H;refine ak (γ:=Nat) (fun g10=>[(10,(ah g10))]) (fun g10 w'=>Hp w ab w' [an g10 77 (fW m v (.slice none 0 0)),own 3 1 (.slice none 0 0) 0 [],an g6 77 (fW 0 0 (.slice none 0 0))] []) ?_ ?_
 ·refine H.ai 0 rfl bl aJ ?_;refine xv ?_;refine H.alloc 77 (cs:=fW 0 0 (.slice none 0 0)) lY rfl ?_;clear H;intro g10 I H;refine H.storeAll 0 rfl cO rfl (e_ (m:=m) (v:=v)) ?_;clear H;intro A H;exact ⟨g10,⟨rfl,trivial⟩,(H.bC 3 1).b9 [1,0,3] (by decide) rfl⟩
 clear H;rintro g10 u w4 H;refine ak (γ:=Option Addr × Nat) (fun _=>[]) (fun (B,d) w'=>(line.drop (ni+1)).all fH=true∧Hp w ab w' [an g10 77 (fW m v (.slice B no d)),own 3 1 (.slice B no d) no (ints ((line.drop (ni+1)).map bI)),an g6 77 (fW 0 0 (.slice none 0 0))] []) ?_ ?_
 ·refine ax (γ:=Nat × Option Addr × Nat) (fun (j,_)=>[(11,.int .i64 ((ni+1+j:Nat):Int))]) (fun (j,B,d) w'=>(j≤no∧∀ i (h:i<(line.drop (ni+1)).length),i<j→fH (line.drop (ni+1))[i]=true)∧Hp w ab w' [an g10 77 (fW m v (.slice B j d)),own 3 1 (.slice B j d) j (ints (((line.drop (ni+1)).take j).map bI)),an g6 77 (fW 0 0 (.slice none 0 0))] []) (fun (j,_)=>no - j) (0,none,0) ⟨up (by omega),trivial⟩ ⟨⟨Nat.zero_le _,fun i _ h=>by omega⟩,H⟩ ?_;clear H;rintro ⟨j,B,d⟩ u M ⟨⟨hj,a⟩,H⟩;refine ep underlying9 ?_;refine au (fun h7=>?_) (fun h7=>?_)
  ·have hjn:j<no:=by omega
   have F:ni+1+j<line.length:=by omega
   have k:j<(line.drop (ni+1)).length:=by rw[List.length_drop];omega
   have o:(line.drop (ni+1))[j]=line[ni+1+j]:=by rw[List.getElem_drop]
   refine ak (γ:=Option Addr × Nat) (fun _=>[]) (fun (B,d) w'=>fH line[ni+1+j]=true∧Hp w ab w' [an g10 77 (fW m v (.slice B (j+1) d)),own 3 1 (.slice B (j+1) d) (j+1) (ints (((line.drop (ni+1)).take (j+1)).map bI)),an g6 77 (fW 0 0 (.slice none 0 0))] []) ?_ ?_
   ·have f:fH line[ni+1+j]=false→sj ni no line=none:=fun h=>by
     rw[g,if_neg];rintro ⟨_,Q⟩;rw[List.all_eq_true] at Q;have:=Q _ (List.getElem_mem k);rw[o,h] at this
     cases this
    generalize J:line[ni+1+j]=c at f o;refine ak (γ:=Unit) (fun _=>[(12,.int .i64 ((3:Nat):Int))]) (fun _ w'=>Hp w ab w' [an g10 77 (fW m v (.slice B j d)),own 3 1 (.slice B j d) j (ints (((line.drop (ni+1)).take j).map bI)),an g6 77 (fW 0 0 (.slice none 0 0))] []) ⟨(),⟨rfl,trivial⟩,H⟩ ?_;clear H;rintro ⟨⟩ u I H;refine ak (γ:=Unit) (fun _=>[(12,.int .i64 ((xK c 3:Nat):Int))]) (fun _ w'=>Hp w ab w' [an g10 77 (fW m v (.slice B j d)),own 3 1 (.slice B j d) j (ints (((line.drop (ni+1)).take j).map bI)),an g6 77 (fW 0 0 (.slice none 0 0))] []) ?_ ?_
    ·refine ax (γ:=Nat) (fun q=>[(13,.int .i64 (q:Int)),(12,.int .i64 ((xK c q:Nat):Int))]) (fun q w'=>q≤3∧Hp w ab w' [an g10 77 (fW m v (.slice B j d)),own 3 1 (.slice B j d) j (ints (((line.drop (ni+1)).take j).map bI)),an g6 77 (fW 0 0 (.slice none 0 0))] []) (fun q=>3 - q) 0 ⟨rfl,rfl,trivial⟩ ⟨Nat.zero_le _,H⟩ ?_;clear H;rintro q u A ⟨hq,H⟩;refine au (fun C=>?_) (fun C=>?_)
     ·have p:q<3:=by have C:(q:Int)<3:=C;omega
      refine ak (γ:=Unit) (fun _=>[(12,.int .i64 ((xK c (q+1):Nat):Int))]) (fun _ w'=>Hp w ab w' [an g10 77 (fW m v (.slice B j d)),own 3 1 (.slice B j d) j (ints (((line.drop (ni+1)).take j).map bI)),an g6 77 (fW 0 0 (.slice none 0 0))] []) ?_ ?_
      ·refine vg (fun i=>i==8) (fun u=>Hp w ab u [] []) eN (by kernel_rfl) ((H.same (aS.drew _)).b9 [] (by decide) rfl) ?_;replace H:=H.same (aS.drew _);generalize A.drew=K at H;refine quiet (aU [c]) (fun w H=>rE underlying9 (ni+1+j) (ni+1+j+1) rfl (aH (by omega) (by omega)) (by omega) (by omega) (by rw[uz F,J];exact ⟨rfl,rfl⟩)) ?_;refine H.bk Ob (cs:=#[aU [48],aU [49],aU [45]]) (by decide) (by decide) (by kernel_rfl) ?_;clear H;intro gx w9 H;refine ⟨.inl (H.b9 [] (by decide) rfl),?_⟩;refine quiet _ (fun w H=>aq underlying73 qc q rfl p (o':=q) (by omega) af) ?_;refine H.load 0 rfl wC (Gj p) ?_;refine ⟨.inl (H.b9 [] (by decide) rfl),?_⟩;refine quiet _ (fun w H=>eY af) ?_;have S:xK c (q+1)=if c=fa q then q else xK c q:=rfl;refine aF (fun b=>?_) (fun b=>?_)
       ·have b:c=fa q:=by simpa using b
        exact ⟨(),⟨congrArg (fun z:Nat=>Value.int .i64 (z:Int)) (show q=xK c (q+1) by rw[S,if_pos b]),trivial⟩,H.forget⟩
       ·have b:c≠fa q:=by simpa using b
        exact ⟨(),⟨congrArg (fun z:Nat=>Value.int .i64 (z:Int)) (show xK c q=xK c (q+1) by rw[S,if_neg b]),trivial⟩,H.forget⟩
      ·clear H;rintro ⟨⟩ u K H;exact ⟨q+1,by show 3 - (q+1)<3 - q;omega,⟨up (by omega),rfl,trivial⟩,by show q+1≤3;omega,H⟩
     ·have p:q=3:=by have C:¬ (q:Int)<3:=C;omega
      subst p;exact ⟨(),⟨rfl,trivial⟩,H⟩
    clear H;rintro ⟨⟩ u A H;rw[Lj];refine aw (fun w'=>fH c=true∧Hp w ab w' [an g10 77 (fW m v (.slice B j d)),own 3 1 (.slice B j d) j (ints (((line.drop (ni+1)).take j).map bI)),an g6 77 (fW 0 0 (.slice none 0 0))] []) ?_ ?_
    ·cases b:fH c with
     | false=>
      refine ag rfl ?_;refine zk ?_;refine H.storeAll 2 rfl cO rfl (e_ (m:=0) (v:=0)) ?_;clear H;intro K H;refine H.ai 2 rfl mK cO ?_;exact ⟨rfl,.inl ⟨f b,0,0,none,0,0,rfl,H.keeps⟩⟩
     | true=>
      refine ae ?_ ?_
      ·rw[beq_eq_false_iff_ne];have:=Gk c;show ((bI c:Nat):Int)≠3;omega
      ·exact ⟨(),trivial,rfl,H⟩
    clear H;rintro ⟨⟩ u K ⟨b,H⟩;rw[b];refine aa (eQ _) ?_;refine H.load 0 rfl fl rfl ?_;refine H.aY dU rfl ?_;clear H;intro gx w9 H;refine H.aG 2 0 dU rfl rfl rfl (fun u hu=>by rw[List.mem_singleton.1 hu];rfl) (by omega) (by omega) ?_;clear H;intro B4 d4 w10 H;replace H:=H.forget;refine aa (eQ _) ?_;refine H.store 0 rfl qF (Nat.le_of_ble_eq_true rfl) rfl ?_;clear H;intro w11 H;refine ⟨(B4,d4),trivial,rfl,?_⟩;rw[uw k,o,← jz];exact H
   ·clear H;rintro ⟨B2,d2⟩ u I ⟨b,H⟩;refine ⟨(j+1,B2,d2),by show no - (j+1)<no - j;omega,⟨up (by omega),trivial⟩,⟨by show j+1≤no;omega,lF a (hi:=k) (by rw[o];exact b)⟩,H⟩
  ·obtain rfl:j=no:=by omega
   have k:(line.drop (ni+1)).length=j:=by rw[List.length_drop];omega
   refine ⟨(B,d),trivial,List.all_eq_true.2 fun c J=>by obtain ⟨i,hi,rfl⟩:=List.getElem_of_mem J;exact a i hi (by omega),?_⟩;rw[List.take_of_length_le (by omega)] at H;exact H
 clear H;rintro ⟨B,d⟩ u M ⟨a,H⟩;have t:ni<line.length:=by omega
 refine H.fE [an g10 77 (fW m v (.slice B no d))] (fun u h=>h.b9 [0] (by decide) rfl) eN (by kernel_rfl) ?_;clear H;intro I H;refine quiet _ (fun w H=>H.ai 0 rfl mK cO af) ?_
 cases hpo:bj (line.take ni) with
 | false=>
  rw[if_neg (fun y=>by rw[hpo] at y;exact absurd y.1.2.1 (by simp))] at g
  repeat refine ae rfl ?_
  refine H.storeAll 2 rfl cO rfl e_ ?_;clear H;intro A H;refine ⟨.inl (H.b9 [0] (by decide) rfl),?_⟩;refine H.ai 2 rfl mK cO ?_;exact ⟨rfl,.inl ⟨g,m,v,B,no,d,rfl,H.keeps⟩⟩
 | true=>
  rw[hpo,if_pos rfl] at hm O
  repeat refine ag rfl ?_
  refine quiet _ (fun w H=>iU t underlying9 af) ?_
  repeat refine ag rfl ?_
  refine H.storeAll 2 rfl cO rfl e_ ?_;clear H;intro A H;refine ⟨.inl (H.b9 [0] (by decide) rfl),?_⟩;refine H.ai 2 rfl mK cO ?_;have D:line[ni]?=some line[ni]:=List.getElem?_eq_getElem t;by_cases s:line[ni]=32
  ·rw[if_pos ⟨⟨hlen,hpo,by rw[D,s]⟩,a⟩,hm,O] at g;have E:((line.drop (ni+1)).map bI).length=no:=by rw[List.length_map,List.length_drop];omega
   refine ⟨rfl,.inr ⟨(m,v,(line.drop (ni+1)).map bI),B,d,g,?_,?_⟩⟩
   ·show Value.tuple #[_,_]=Value.tuple #[.agg (fW m v (.slice B ((line.drop (ni+1)).map bI).length d)),_];rw[E,s];rfl
   ·show eW w A (own 3 1 (.slice B ((line.drop (ni+1)).map bI).length d) ((line.drop (ni+1)).map bI).length (ints ((line.drop (ni+1)).map bI)));rw[E];exact H.u_ 1 rfl
  ·rw[if_neg (fun y=>s (by have:=y.1.2.2;rw[D] at this;exact Option.some.inj this))] at g;refine ⟨rfl,.inl ⟨g,m,v,B,no,d,?_,H.keeps⟩⟩;have e:((line[ni].toNat:Int)==32)=false:=beq_eq_false_iff_ne.2 fun h=>s (UInt8.toNat_inj.1 (show line[ni].toNat=32 from Int.ofNat_inj.1 h));rw[e];rfl
theorem zl (s:List UInt8):Lib.index (32::s) [32]=0:=by
 show (if [32].isPrefixOf (32::s) then _ else _)=_;rw[if_pos (by simp)]
theorem zm {c:UInt8}(h:c≠32)(s:List UInt8):Lib.index (c::s) [32]=if Lib.index s [32]== -1 then -1 else Lib.index s [32]+1:=by
 show (if [32].isPrefixOf (c::s) then _ else _)=_;rw[if_neg (by simp;exact fun e=>h e.symm)]
theorem Gl:∀ (a b:List UInt8),(∀ c ∈ a,c≠32)→Lib.index (a++32::b) [32]=(a.length:Int)
 | [],b,_=>zl b
 | c::a,b,h=>by
  rw[List.cons_append,zm (h c (.head _)),Gl a b fun x d=>h x (.tail _ d)];rw[if_neg (by simp)];simp
theorem Gm {a b:List UInt8}(h:∀ c ∈ a,c≠32):Lib.cut (a++32::b) [32]=(a,b,true):=by
 unfold Lib.cut;rw[Gl a b h,if_pos (by omega)];simp
theorem zn:∀ {l:List UInt8} {i:Nat},Lib.index l [32]=(i:Int)→l=l.take i++32::l.drop (i+1)
 | [],i,h=>by
  have:Lib.index [] [32]= -1:=rfl;rw[this] at h;omega
 | c::l,i,h=>by
  by_cases a:c=32
  ·subst a;rw[zl] at h;obtain rfl:i=0:=by omega
   rfl
  ·rw[zm a] at h;split at h
   ·omega
   ·rename_i b;have d:-1≤Lib.index l [32]:=Lib.index_ge l [32];have e:Lib.index l [32]≠ -1:=by simpa using b
    obtain ⟨k,rfl⟩:∃ k,i=k+1:=⟨i - 1,by omega⟩;have f:=zn (l:=l) (i:=k) (by omega);rw[List.take_succ_cons,List.drop_succ_cons,List.cons_append,← f]
theorem Lk {l:List UInt8}(h:(Lib.cut l [32]).2.2=true):l=(Lib.cut l [32]).1++32::(Lib.cut l [32]).2.1:=by
 unfold Lib.cut at h ⊢;split at h
 ·rename_i a;rw[if_pos a];have:=zn (l:=l) (i:=(Lib.index l [32]).toNat) (by omega);exact this
 ·cases h
theorem Cm {c:UInt8}(h:fH c=true):c≠32:=by
 rintro rfl;exact absurd h (by decide)
theorem sk {a:List UInt8}(h:bj a=true):∀ c ∈ a,fH c=true:=by
 unfold bj at h;rw[Bool.and_eq_true,List.all_eq_true] at h;exact h.2
theorem uA (ni no:Nat)(line:List UInt8):sj ni no line=ku ni no line:=by
 by_cases h:(line.length=ni+1+no∧bj (line.take ni)=true∧line[ni]?=some 32)∧(line.drop (ni+1)).all fH=true
 ·obtain ⟨⟨s,g,i⟩,r⟩:=h;have d:ni<line.length:=by omega
  have j:line=line.take ni++32::line.drop (ni+1):=by
   have e:line.drop ni=32::line.drop (ni+1):=by
    rw[List.drop_eq_getElem_cons d];rw[List.getElem?_eq_getElem d] at i;rw[Option.some.inj i]
   rw[← e,List.take_append_drop]
  have k:Lib.cut line [32]=(line.take ni,line.drop (ni+1),true):=by
   have:=Gm (a:=line.take ni) (b:=line.drop (ni+1)) fun c k=>Cm (sk g c k);rw[← j] at this;exact this
  have f:(line.take ni).length=ni:=by rw[List.length_take];omega
  have l:(line.drop (ni+1)).length=no:=by rw[List.length_drop];omega
  unfold sj ku;rw[k,if_pos ⟨⟨s,g,i⟩,r⟩,if_pos ⟨by unfold lQ;rw[g,f,l];simp,r⟩,f]
 ·unfold sj;rw[if_neg h];unfold ku;rw[if_neg];rintro ⟨m,t⟩;apply h;unfold lQ at m;simp only[Bool.and_eq_true,beq_iff_eq] at m;obtain ⟨⟨⟨n,u⟩,o⟩,p⟩:=m;have j:=Lk n;generalize Lib.cut line [32]=q at *;obtain ⟨a,b,ok⟩:=q;simp only at *;subst j;subst o;refine ⟨⟨by rw[List.length_append,List.length_cons,p];omega,by rw[List.take_left];exact u,by rw[List.getElem?_append_right (Nat.le_refl _)];simp⟩,?_⟩;rw[show a++32::b=(a++[32])++b by simp,List.drop_left' (by simp)];exact t
theorem Ir {ni no:Nat}{r:List UInt8}:ku ni no (46::r)=none:=by
 rw[← uA];unfold sj;rw[if_neg];rintro ⟨⟨c,a,b⟩,d⟩
 cases ni with
 | zero=>simp at b
 | succ n=>exact absurd (sk a 46 (by simp)) (by decide)
theorem uB {wd line:List UInt8}{lo hi:Nat}(h:0≤eu wd lo hi line):∃ r,line=wd++32::r:=by
 obtain ⟨n,_,_,_,h⟩:=vS h;exact ⟨_,h⟩
def uC (s:Rd)(line:List UInt8)(kind:Int)(n:Int):Option Rd:=
 if 0≤kind then (if s.st=2 then some { s with kd:=kind.toNat,st:=3 } else none)
 else if 0≤n then (if s.st<4 then some { s with told:=n,st:=4 } else none)
 else if line=[46,101] then (if s.told<0∨s.told=s.ls.length then some { s with st:=5 } else none)
 else match ku s.ni s.no line with
  | some l=>if 64≤s.ls.length then none else some { s with st:=4,ls:=s.ls++[l] }
  | none=>none
def fG (line:List UInt8):Nat→Int
 | 0=> -1
 | k+1=>if line=[46,116,121,112,101,32]++dS k then (k:Int) else fG line k
def sq (s:Rd)(line:List UInt8):Option Rd:=
 if s.st=0 then (if 0≤eu [46,105] 0 8 line then some { s with ni:=(eu [46,105] 0 8 line).toNat,st:=1 } else none)
 else if s.st=1 then (if 0≤eu [46,111] 1 4 line then some { s with no:=(eu [46,111] 1 4 line).toNat,st:=2 } else none)
 else if s.st=5 then none
 else uC s line (fG line 4) (eu [46,112] 0 64 line)
def OU {α:Type}:Except Int α→Option α
 | .ok a=>some a
 | .error _=>none
theorem Be (line:List UInt8):(∃ k:Nat,k<4∧fG line 4=(k:Int)∧line=[46,116,121,112,101,32]++dS k)∨(fG line 4= -1∧∀ k:Nat,k<4→line≠[46,116,121,112,101,32]++dS k):=by
 by_cases a:line=[46,116,121,112,101,32]++dS 3
 ·exact .inl ⟨3,by decide,by unfold fG;rw[if_pos a],a⟩
 ·by_cases b:line=[46,116,121,112,101,32]++dS 2
  ·exact .inl ⟨2,by decide,by unfold fG;rw[if_neg a];unfold fG;rw[if_pos b],b⟩
  ·by_cases c:line=[46,116,121,112,101,32]++dS 1
   ·exact .inl ⟨1,by decide,by unfold fG;rw[if_neg a];unfold fG;rw[if_neg b];unfold fG;rw[if_pos c],c⟩
   ·by_cases d:line=[46,116,121,112,101,32]++dS 0
    ·exact .inl ⟨0,by decide,by unfold fG;rw[if_neg a];unfold fG;rw[if_neg b];unfold fG;rw[if_neg c];unfold fG;rw[if_pos d],d⟩
    ·refine .inr ⟨by unfold fG;rw[if_neg a];unfold fG;rw[if_neg b];unfold fG;rw[if_neg c];unfold fG;rw[if_neg d];rfl,fun k e=>?_⟩;rcases (by omega:k=0∨k=1∨k=2∨k=3) with rfl | rfl | rfl | rfl <;> assumption
theorem vU {i j:Nat}(hi:i<4)(a:j<4)(h:dS i=dS j):i=j:=by
 rcases (by omega:i=0∨i=1∨i=2∨i=3) with rfl | rfl | rfl | rfl <;> rcases (by omega:j=0∨j=1∨j=2∨j=3) with rfl | rfl | rfl | rfl <;> first | rfl | exact absurd h (by decide)
theorem uD (s:Rd)(v:s.st≤5)(w:s.ls.length≤64)(line:List UInt8):sq s line=OU (gr s line):=by
 unfold sq gr;split
 ·split <;> rfl
 ·split
  ·split <;> rfl
  ·split
   ·rfl
   ·rename_i x y z;have b:∀ r,line=46::r→ku s.ni s.no line=none:=fun r h=>by rw[h];exact Ir
    rcases Be line with ⟨k,t,e,a⟩ | ⟨e,o⟩
    ·have g:Lib.hasPrefix line [46,116,121,112,101,32]=true:=by rw[a];exact List.isPrefixOf_iff_prefix.2 ⟨_,rfl⟩
     have p:line.drop 6=dS k:=by rw[a];simp
     have f:eu [46,112] 0 64 line<0:=by
      refine Int.not_le.1 fun h=>?_;obtain ⟨r,d⟩:=uB h;rw[a] at d;exact absurd (List.cons.inj (List.cons.inj d).2).1 (by decide)
     have c:line≠[46,101]:=by rw[a];intro h;exact absurd (List.cons.inj (List.cons.inj h).2).1 (by decide)
     unfold uC iw;rw[e,if_pos (by omega)];by_cases m:s.st=2
     ·rw[if_pos m,if_pos ⟨g,m⟩,p,pP t rfl fun j u h=>by have:=vU (by omega) t h;omega];rw[Int.toNat_natCast];rfl
     ·rw[if_neg m,if_neg (fun h=>m h.2),if_neg (fun h=>by omega)];unfold jg;rw[if_neg c,b _ a];rfl
    ·unfold uC iw;rw[e,if_neg (by omega)];by_cases g:Lib.hasPrefix line [46,116,121,112,101,32]=true∧s.st=2
     ·rw[if_pos g];have n:=vT g.1;have p:qJ (line.drop 6)=none:=ux fun j u h=>o j u (by rw[h];exact n);have f:eu [46,112] 0 64 line<0:=by
       refine Int.not_le.1 fun h=>?_;obtain ⟨r,d⟩:=uB h;rw[n] at d;exact absurd (List.cons.inj (List.cons.inj d).2).1 (by decide)
      have c:line≠[46,101]:=by rw[n];intro h;exact absurd (List.cons.inj (List.cons.inj h).2).1 (by decide)
      rw[p,if_neg (by omega),if_neg c,b _ n];rfl
     ·rw[if_neg g];by_cases f:0≤eu [46,112] 0 64 line
      ·rw[if_pos f];by_cases q:s.st<4
       ·rw[if_pos q,if_pos ⟨f,by omega⟩];rfl
       ·rw[if_neg q,if_neg (fun h=>q (by omega))];obtain ⟨r,d⟩:=uB f;have c:line≠[46,101]:=by rw[d];intro h;exact absurd (List.cons.inj (List.cons.inj h).2).1 (by decide)
        unfold jg;rw[if_neg c,b _ d];rfl
      ·rw[if_neg f,if_neg (show ¬ (0≤eu [46,112] 0 64 line∧s.st≤3) from fun h=>f h.1)];unfold jg;by_cases he:line=[46,101]
       ·rw[if_pos he,if_pos he];split <;> rfl
       ·rw[if_neg he,if_neg he]
        cases d:ku s.ni s.no line with
        | none=>rfl
        | some l=>
         simp only;by_cases i:s.ls.length=64
         ·rw[if_pos (by omega),if_pos i];rfl
         ·rw[if_neg (by omega),if_neg i];rfl
def jh:Rd→List UInt8→List UInt8→Option Rd
 | s,cur,[]=>if cur=[]∧s.st=5 then some s else none
 | s,cur,c::r=>if c=10 then (if cur=[]∨cur.head?=some 35 then jh s [] r else match sq s cur with
   | some s'=>jh s' [] r
   | none=>none)
  else jh s (cur++[c]) r
def Bf (i:Nat)(s:Rd)(ls:List (List UInt8)):Option Rd:=
 match ix i s ls.dropLast with
 | .ok s'=>if ls.getLastD []=[]∧s'.st=5 then some s' else none
 | .error _=>none
theorem DK {i:Nat}{s:Rd}{l:List UInt8}{ls:List (List UInt8)}(hs:qM s)(h:ls≠[]):Bf i s (l::ls)=if l=[]∨l.head?=some 35 then Bf (i+1) s ls else match sq s l with
   | some s'=>Bf (i+1) s' ls
   | none=>none:=by
 have b:(l::ls).dropLast=l::ls.dropLast:=List.dropLast_cons_of_ne_nil h;have c:(l::ls).getLastD []=ls.getLastD []:=by
  rw[List.getLastD_eq_getLast?,List.getLastD_eq_getLast?,List.getLast?_cons_of_ne_nil h]
 unfold Bf;rw[b,c,gW,uD s hs.st hs.few];by_cases a:l=[]∨l.head?=some 35
 ·rw[if_pos a,if_pos a]
 ·rw[if_neg a,if_neg a]
  cases gr s l with
  | ok s'=>rfl
  | error e=>rfl
theorem qO:∀ (r:List UInt8) (s:Rd) (cur:List UInt8) (i:Nat) (x:List UInt8) (xs:List (List UInt8)),qM s→bM r=x::xs→jh s cur r=Bf i s ((cur++x)::xs)
 | [],s,cur,i,x,xs,hs,h=>by
  have h:[[]]=x::xs:=h;injection h with d f;subst d;subst f;rw[List.append_nil];rfl
 | c::r,s,cur,i,x,xs,hs,h=>by
  obtain ⟨y,a,b⟩:∃ y a,bM r=y::a:=by
   cases hl:bM r with
   | nil=>exact absurd hl (mJ r)
   | cons y a=>exact ⟨y,a,rfl⟩
  by_cases g:c=10
  ·subst g;rw[lO] at h;injection h with d f;subst d;subst f;rw[List.append_nil,DK hs (mJ r)];unfold jh;rw[if_pos rfl];split
   ·rw[qO r s [] (i+1) y a hs b,b];rfl
   ·rw[uD s hs.st hs.few]
    cases ht:gr s cur with
    | error e=>rfl
    | ok s'=>
     show jh s' [] r=Bf (i+1) s' (bM r);rw[qO r s' [] (i+1) y a (qN hs ht) b,b];rfl
  ·rw[iJ g b] at h;injection h with d f;subst d;subst f;unfold jh;rw[if_neg g,qO r s (cur++[c]) i y a hs b];simp
theorem zo {text:List UInt8}(f:text.length≤8000):jh uX [] text=match cY text with | .ok s=>some s | .error _=>none:=by
 obtain ⟨y,a,d⟩:∃ y a,bM text=y::a:=by
  cases hl:bM text with
  | nil=>exact absurd hl (mJ text)
  | cons y a=>exact ⟨y,a,rfl⟩
 rw[qO text uX [] 0 y a xy d];unfold cY Bf;rw[if_neg (by omega),d,List.nil_append]
 cases hf:ix 0 uX (y::a).dropLast with
 | error e=>rfl
 | ok s=>
  simp only;unfold Bd;rw[d];by_cases b:(y::a).getLastD []=[]
  ·by_cases c:s.st=5
   ·rw[if_pos ⟨b,c⟩,if_neg (fun h=>h b),if_neg (fun h=>h c)]
   ·rw[if_neg (fun h=>c h.2),if_neg (fun h=>h b),if_pos c]
  ·rw[if_neg (fun h=>b h.1),if_pos b]
theorem Bg {text:List UInt8}(a:8000<text.length):cY text=.error (0,3):=by unfold cY;rw[if_pos a]
def uE (st:Nat):Nat:=if st=5 then 6 else st
abbrev qL (g2 g5:Nat)(kd ni no:Int)(v:Value)(n:Nat)(hs:List Hd)(S:Nat→Prop)(Q:List Ln):List cS:=
 [an g5 33 (cI kd ni no v),own 77 3 v n (flat la hs),qT S hs Q,an g2 33 (cI 0 0 0 (.slice none 0 0))]
def OV (o:Option Rd)(e at_ told kd ni no:Int)(n:Nat)(Q:List Ln):Prop:=
 (e≠0∧o=none)∨(e=0∧∃ a,o=some a∧kd=a.kd∧ni=a.ni∧no=a.no∧at_=(uE a.st:Nat)∧told=a.told∧Q=a.ls∧n=Q.length)
theorem OW:enters prog 9=true:=by kernel_rfl
set_option maxHeartbeats 4000000 in
theorem c9 (text:List UInt8)(hl:text.length≤100000)(w:World):bz prog 9 [aU text] w fun r w'=>
  ((∀ s,cY text≠.ok s)∧∃ (i n:Int),r=.tuple #[sN 0 0 0 (.slice none 0 0),.int .i64 i,.int .i64 n]∧n≠0∧aT w w')∨
  (∃ s v S,cY text=.ok s∧r=.tuple #[sN s.kd s.ni s.no v,.int .i64 0,.int .i64 0]∧eW w w' (e9 S v s.ls)):=by
 refine ar (N:=139) func9 OW rfl rfl rfl (by simp) ?_;have H:=Hp.aC w;have hsz:(⟨text.toArray⟩:ByteArray).size=text.length:=ig text;refine ak (γ:=Nat) (fun g2=>[(2,(ah g2))]) (fun g2 w'=>Hp w ab w' [an g2 33 (cI 0 0 0 (.slice none 0 0))] []) ?_ ?_
 ·refine H.alloc 33 (cs:=cI 0 0 0 (.slice none 0 0)) nn rfl ?_;clear H;intro g2 w1 H;exact ⟨g2,⟨rfl,trivial⟩,H⟩
 clear H;rintro g2 u w1 H;refine aw (fun w'=>¬ 8000<text.length∧Hp w ab w' [an g2 33 (cI 0 0 0 (.slice none 0 0))] []) ?_ ?_
 ·refine ep underlying9 ?_;refine au (fun h=>?_) (fun h=>?_)
  ·refine jf ?_;refine H.storeAll 0 rfl bw rfl dH ?_;clear H;intro w2 H;refine H.ai 0 rfl eL bw ?_;exact ⟨rfl,.inl ⟨fun s hs=>absurd ((Bg (show 8000<text.length by omega)).symm.trans hs) (fun h=>by cases h),0,3,rfl,by decide,H.keeps⟩⟩
  ·exact ⟨(),trivial,by omega,H⟩
 clear H;rintro ⟨⟩ u w2 ⟨h8,H⟩;have j:=zo (text:=text) (by omega);refine ak (γ:=Nat) (fun g5=>[(5,(ah g5))]) (fun g5 w'=>Hp w ab w' (qL g2 g5 1 0 0 (.slice none 0 0) 0 [] (fun _=>False) []) []) ?_ ?_
 ·refine zi ?_;refine H.alloc 33 (cs:=cI 0 0 0 (.slice none 0 0)) nn rfl ?_;clear H;intro g5 w3 H;refine H.storeAll 0 rfl bw rfl dH ?_;clear H;intro w4 H;have X:=H.add (aS.refl _ _) (qT (fun _=>False) [] []) (lX.nil _ _) (fun g Y=>Y.elim);exact ⟨g5,⟨rfl,trivial⟩,(X.bC 77 3).b9 [2,0,1,3] (by decide) rfl⟩
 clear H;rintro g5 u w3 H;refine ak (γ:=Unit) (fun _=>[(6,.int .i64 (-1))]) (fun _ w'=>Hp w ab w' (qL g2 g5 1 0 0 (.slice none 0 0) 0 [] (fun _=>False) []) []) ⟨(),⟨rfl,trivial⟩,H⟩ ?_;clear H;rintro ⟨⟩ u w4 H;refine ak (γ:=Unit) (fun _=>[(7,.int .i64 ((0:Nat):Int))]) (fun _ w'=>Hp w ab w' (qL g2 g5 1 0 0 (.slice none 0 0) 0 [] (fun _=>False) []) []) ⟨(),⟨rfl,trivial⟩,H⟩ ?_;clear H;rintro ⟨⟩ u w5 H;refine ak (γ:=Unit) (fun _=>[(8,.int .i64 ((0:Nat):Int))]) (fun _ w'=>Hp w ab w' (qL g2 g5 1 0 0 (.slice none 0 0) 0 [] (fun _=>False) []) []) ⟨(),⟨rfl,trivial⟩,H⟩ ?_;clear H;rintro ⟨⟩ u w6 H;refine ak (γ:=Unit) (fun _=>[(9,aU [])]) (fun _ w'=>Hp w ab w' (qL g2 g5 1 0 0 (.slice none 0 0) 0 [] (fun _=>False) []) []) ⟨(),⟨rfl,trivial⟩,H⟩ ?_;clear H;rintro ⟨⟩ u w7 H;refine ak (γ:=Rd × List UInt8 × Nat × Value × List Hd × (Nat→Prop)) (fun (s,cur,num,_)=>[(7,.int .i64 ((uE s.st:Nat):Int)),(8,.int .i64 (num:Int)),(9,aU cur)]) (fun (s,cur,num,v,hs,S) w'=>(jh uX [] text=jh s cur []∧qM s)∧Hp w ab w' (qL g2 g5 s.kd s.ni s.no v s.ls.length hs S s.ls) []) ?_ ?_
 ·refine ax (γ:=Nat × Rd × List UInt8 × Nat × Value × List Hd × (Nat→Prop)) (fun (i,s,cur,num,_)=>[(10,.int .i64 (i:Int)),(6,.int .i64 s.told),(7,.int .i64 ((uE s.st:Nat):Int)),(8,.int .i64 (num:Int)),(9,aU cur)])
   (fun (i,s,cur,num,v,hs,S) w'=>(i≤text.length∧num≤i∧cur.length≤i∧jh uX [] text=jh s cur (text.drop i)∧qM s)∧Hp w ab w' (qL g2 g5 s.kd s.ni s.no v s.ls.length hs S s.ls) []) (fun (i,_)=>text.length - i)
   (0,uX,[],0,.slice none 0 0,[],fun _=>False) ⟨rfl,rfl,rfl,rfl,rfl,trivial⟩ ⟨⟨Nat.zero_le _,Nat.zero_le _,Nat.zero_le _,rfl,xy⟩,H⟩ ?_
  clear H;rintro ⟨i,s,cur,num,v,hs,S⟩ u w8 ⟨⟨hi,hnum,hcur,p,f⟩,H⟩;refine ep underlying9 ?_;refine au (fun h7=>?_) (fun h7=>?_)
  ·have Z:i<text.length:=by omega
   obtain ⟨c,hc⟩:∃ c,text[i]=c:=⟨_,rfl⟩;have hdr:text.drop i=c::text.drop (i+1):=by rw[← hc];exact List.drop_eq_getElem_cons Z
   rw[hdr] at p;have hfs:jh s cur (c::text.drop (i+1))=if c=10 then (if cur=[]∨cur.head?=some 35 then jh s [] (text.drop (i+1)) else match sq s cur with
    | some x=>jh x [] (text.drop (i+1))
    | none=>none)
    else jh s (cur++[c]) (text.drop (i+1)):=rfl
   rw[hfs] at p;clear hfs;refine ak (γ:=Rd × List UInt8 × Nat × Value × List Hd × (Nat→Prop)) (fun (s,cur,num,_)=>[(6,.int .i64 s.told),(7,.int .i64 ((uE s.st:Nat):Int)),(8,.int .i64 (num:Int)),(9,aU cur)])
    (fun (s,cur,num,v,hs,S) w'=>(num≤i+1∧cur.length≤i+1∧jh uX [] text=jh s cur (text.drop (i+1))∧qM s)∧Hp w ab w' (qL g2 g5 s.kd s.ni s.no v s.ls.length hs S s.ls) []) ?_ ?_
   ·refine ak (γ:=Unit) (fun _=>[(9,aU cur)]) (fun _ w'=>c=10∧Hp w ab w' (qL g2 g5 s.kd s.ni s.no v s.ls.length hs S s.ls) []) ?_ ?_
    ·refine iU Z underlying9 ?_;refine dq (fun h=>?_) (fun h=>?_)
     ·have hne:c≠10:=fun e=>h (by rw[hc,e];rfl);rw[if_neg hne] at p;refine rE (l:=text) underlying9 i (i+1) rfl (aH (by omega) (by omega)) (by omega) (by omega) ?_;rw[uz Z,hc];refine a8 (by simp only[List.length_cons,List.length_nil];omega) ?_;exact ⟨(s,cur++[c],num,v,hs,S),⟨rfl,rfl,rfl,rfl,trivial⟩,⟨by show num≤i+1;omega,by show (cur++[c]).length≤i+1;rw[List.length_append,List.length_singleton];omega,p,f⟩,H⟩
     ·exact ⟨(),⟨rfl,trivial⟩,by rw[← hc];exact UInt8.toNat_inj.1 (show text[i].toNat=10 from Int.ofNat_inj.1 h),H⟩
    clear H;rintro ⟨⟩ u w9 ⟨h10,H⟩;rw[if_pos h10] at p;refine ak (γ:=Unit) (fun _=>[(11,aU cur)]) (fun _ w'=>Hp w ab w' (qL g2 g5 s.kd s.ni s.no v s.ls.length hs S s.ls) []) ⟨(),⟨rfl,trivial⟩,H⟩ ?_;clear H;rintro ⟨⟩ u w10 H;refine ak (γ:=Unit) (fun _=>[(9,aU [])]) (fun _ w'=>Hp w ab w' (qL g2 g5 s.kd s.ni s.no v s.ls.length hs S s.ls) []) ⟨(),⟨rfl,trivial⟩,H⟩ ?_;clear H;rintro ⟨⟩ u w11 H;refine ak (γ:=Unit) (fun _=>[(8,.int .i64 ((num+1:Nat):Int))]) (fun _ w'=>Hp w ab w' (qL g2 g5 s.kd s.ni s.no v s.ls.length hs S s.ls) []) ⟨(),⟨up (by omega),trivial⟩,H⟩ ?_;clear H;rintro ⟨⟩ u w12 H;refine aw (fun w'=>¬ (cur=[]∨cur.head?=some 35)∧Hp w ab w' (qL g2 g5 s.kd s.ni s.no v s.ls.length hs S s.ls) []) ?_ ?_
    ·refine eY (b:=[]) ?_
     cases cur with
     | nil=>
      rw[if_pos (.inl rfl)] at p
      repeat refine ag rfl ?_
      exact ⟨(s,[],num+1,v,hs,S),⟨rfl,rfl,rfl,rfl,trivial⟩,⟨by show num+1≤i+1;omega,Nat.zero_le _,p,f⟩,H⟩
     | cons b r=>
      repeat refine ae rfl ?_
      refine iU (l:=b::r) (i:=0) (by simp) underlying9 ?_
      repeat refine ae rfl ?_
      refine ck (fun h=>?_) (fun h=>?_)
      ·have h35:b=35:=UInt8.toNat_inj.1 (show b.toNat=35 from Int.ofNat_inj.1 h);rw[if_pos (.inr (by rw[h35];rfl))] at p;exact ⟨(s,[],num+1,v,hs,S),⟨rfl,rfl,rfl,rfl,trivial⟩,⟨by show num+1≤i+1;omega,Nat.zero_le _,p,f⟩,H⟩
      ·refine ⟨(),trivial,fun hh=>?_,H⟩;rcases hh with hh | hh
       ·cases hh
       ·injection hh with hh;exact h (by rw[hh];rfl)
    clear H;rintro ⟨⟩ u w13 ⟨hno,H⟩;rw[if_neg hno] at p;refine ak (γ:=Unit) (fun _=>[(12,.int .i64 2)]) (fun _ w'=>Hp w ab w' (qL g2 g5 s.kd s.ni s.no v s.ls.length hs S s.ls) []) ⟨(),⟨rfl,trivial⟩,H⟩ ?_;clear H;rintro ⟨⟩ u w14 H;refine ak (γ:=(Int × Int × Int) × (Int × Int × Int) × Value × Nat × List Hd × (Nat→Prop) × List Ln) (fun ((e,at_,told),_)=>[(12,.int .i64 e),(7,.int .i64 at_),(6,.int .i64 told)])
     (fun ((e,at_,told),(kd,ni,no),v,n,hs,S,Q) w'=>OV (sq s cur) e at_ told kd ni no n Q∧Hp w ab w' (qL g2 g5 kd ni no v n hs S Q) []) ?_ ?_
    ·have hst:=f.st;have d:sq s cur=if s.st=0 then (if 0≤eu [46,105] 0 8 cur then some { s with ni:=(eu [46,105] 0 8 cur).toNat,st:=1 } else none)
      else if s.st=1 then (if 0≤eu [46,111] 1 4 cur then some { s with no:=(eu [46,111] 1 4 cur).toNat,st:=2 } else none)
      else if s.st=5 then none
      else uC s cur (fG cur 4) (eu [46,112] 0 64 cur):=rfl
     generalize sq s cur=o at d ⊢;clear p;by_cases E:s.st=0
     ·rw[if_pos E] at d;refine ag (by rw[E];rfl) ?_;refine aj (OT cur [46,105] (by decide) 0 8 (by decide) (by decide) _) ?_;rintro _ w15 ⟨rfl,G⟩;replace H:=H.same G;clear G;refine aa (dY _ _) ?_;refine H.store 0 rfl a_ (Nat.le_of_ble_eq_true rfl) rfl ?_;clear H;intro I H;refine aa (dY _ _) ?_;refine H.load 0 rfl aE rfl ?_;generalize eu [46,105] 0 8 cur=N at H d ⊢;by_cases q:0≤N
      ·rw[if_pos q] at d;refine ag (decide_eq_true q) ?_;exact ⟨((0,1,s.told),(s.kd,N,s.no),v,s.ls.length,hs,S,s.ls),⟨rfl,rfl,rfl,trivial⟩,.inr ⟨rfl,{ s with ni:=N.toNat,st:=1 },d,rfl,(Int.toNat_of_nonneg q).symm,rfl,rfl,rfl,rfl,rfl⟩,H⟩
      ·rw[if_neg q] at d;refine ae (decide_eq_false q) ?_;exact ⟨((2,1,s.told),(s.kd,N,s.no),v,s.ls.length,hs,S,s.ls),⟨rfl,rfl,rfl,trivial⟩,.inl ⟨by decide,d⟩,H⟩
     ·rw[if_neg E] at d;have a0:((uE s.st:Nat):Int)≠0:=by unfold uE;split <;> omega
      refine ae (beq_eq_false_iff_ne.2 a0) ?_;by_cases h1:s.st=1
      ·rw[if_pos h1] at d;refine ag (by rw[h1];rfl) ?_;refine aj (OT cur [46,111] (by decide) 1 4 (by decide) (by decide) _) ?_;rintro _ w15 ⟨rfl,G⟩;replace H:=H.same G;clear G;refine aa (eP _ _) ?_;refine H.store 0 rfl a_ (Nat.le_of_ble_eq_true rfl) rfl ?_;clear H;intro I H;refine aa (eP _ _) ?_;refine H.load 0 rfl aE rfl ?_;generalize eu [46,111] 1 4 cur=N at H d ⊢;by_cases q:0≤N
       ·rw[if_pos q] at d;refine ag (decide_eq_true q) ?_;exact ⟨((0,2,s.told),(s.kd,s.ni,N),v,s.ls.length,hs,S,s.ls),⟨rfl,rfl,rfl,trivial⟩,.inr ⟨rfl,{ s with no:=N.toNat,st:=2 },d,rfl,rfl,(Int.toNat_of_nonneg q).symm,rfl,rfl,rfl,rfl⟩,H⟩
       ·rw[if_neg q] at d;refine ae (decide_eq_false q) ?_;exact ⟨((2,2,s.told),(s.kd,s.ni,N),v,s.ls.length,hs,S,s.ls),⟨rfl,rfl,rfl,trivial⟩,.inl ⟨by decide,d⟩,H⟩
      ·rw[if_neg h1] at d;have a1:((uE s.st:Nat):Int)≠1:=by unfold uE;split <;> omega
       refine ae (beq_eq_false_iff_ne.2 a1) ?_;by_cases y:s.st=5
       ·rw[if_pos y] at d;refine ae (by rw[y];rfl) ?_;exact ⟨((2,((uE s.st:Nat):Int),s.told),(s.kd,s.ni,s.no),v,s.ls.length,hs,S,s.ls),⟨rfl,rfl,rfl,trivial⟩,.inl ⟨by decide,d⟩,H⟩
       ·rw[if_neg y] at d;have ea:uE s.st=s.st:=by unfold uE;rw[if_neg y]
        refine ag (decide_eq_true (show ((uE s.st:Nat):Int)<6 by rw[ea];omega)) ?_;clear a0 a1;have hst2:2≤s.st:=by omega
        have hno4:=f.no hst2;refine ak (γ:=Unit) (fun _=>[(13,.int .i64 (fG cur 0))]) (fun _ w'=>Hp w ab w' (qL g2 g5 s.kd s.ni s.no v s.ls.length hs S s.ls) []) ⟨(),⟨rfl,trivial⟩,H⟩ ?_;clear H;rintro ⟨⟩ u w15 H;refine ak (γ:=Unit) (fun _=>[(13,.int .i64 (fG cur 4))]) (fun _ w'=>Hp w ab w' (qL g2 g5 s.kd s.ni s.no v s.ls.length hs S s.ls) []) ?_ ?_
        ·refine ax (γ:=Nat) (fun k=>[(14,.int .i64 (k:Int)),(13,.int .i64 (fG cur k))]) (fun k w'=>k≤4∧Hp w ab w' (qL g2 g5 s.kd s.ni s.no v s.ls.length hs S s.ls) []) (fun k=>4 - k) 0 ⟨rfl,rfl,trivial⟩ ⟨Nat.zero_le _,H⟩ ?_;clear H;rintro k u I ⟨hk4,H⟩;refine au (fun h9=>?_) (fun h9=>?_)
         ·have hk3:k<4:=by have h9:(k:Int)<4:=h9;omega
          refine ak (γ:=Unit) (fun _=>[(13,.int .i64 (fG cur (k+1)))]) (fun _ w'=>Hp w ab w' (qL g2 g5 s.kd s.ni s.no v s.ls.length hs S s.ls) []) ?_ ?_
          ·refine aj (c31 _) ?_;rintro _ w17 ⟨gk,rfl,hn⟩;replace H:=H.bq hn;clear hn;refine aq underlying73 qc k rfl (by omega) (o':=k) (by omega) ?_;refine H.load 0 rfl wC (qG (by omega)) ?_;refine a8 (a:=[46,116,121,112,101,32]) (by have:=rF k;simp only[List.length_cons,List.length_nil];omega) ?_;refine eY ?_;have hx:fG cur (k+1)=if cur=[46,116,121,112,101,32]++dS k then (k:Int) else fG cur k:=rfl;refine aF (fun J=>?_) (fun J=>?_)
           ·rw[if_pos (beq_iff_eq.1 J)] at hx;exact ⟨(),⟨congrArg (Value.int .i64) hx.symm,trivial⟩,H.forget⟩
           ·rw[if_neg (fun h=>by rw[beq_iff_eq.2 h] at J;cases J)] at hx;exact ⟨(),⟨congrArg (Value.int .i64) hx.symm,trivial⟩,H.forget⟩
          ·clear H;rintro ⟨⟩ u w17 H;exact ⟨k+1,by show 4 - (k+1)<4 - k;omega,⟨up (by omega),rfl,trivial⟩,by show k+1≤4;omega,H⟩
         ·have hk3:k=4:=by have h9:¬ (k:Int)<4:=h9;omega
          subst hk3;exact ⟨(),⟨rfl,trivial⟩,H⟩
        clear H;rintro ⟨⟩ u I H;generalize fG cur 4=kq at d ⊢;refine ak (γ:=Unit) (fun _=>[(15,.int .i64 (eu [46,112] 0 64 cur))]) (fun _ w'=>Hp w ab w' (qL g2 g5 s.kd s.ni s.no v s.ls.length hs S s.ls) []) ?_ ?_
        ·refine aj (OT cur [46,112] (by decide) 0 64 (by decide) (by decide) _) ?_;rintro _ w17 ⟨rfl,G⟩;exact ⟨(),⟨rfl,trivial⟩,H.same G⟩
        clear H;rintro ⟨⟩ u w17 H;generalize eu [46,112] 0 64 cur=N at d ⊢;refine ak (γ:=Nat × Bool) (fun (g16,ok)=>[(16,(ah g16)),(17,.bool ok)]) (fun (g16,ok) w'=>(ku s.ni s.no cur=none∧ok=false∧Hp w ab w' (qL g2 g5 s.kd s.ni s.no v s.ls.length hs S s.ls) [])∨(∃ l B c,ku s.ni s.no cur=some l∧ok=true∧Hp w ab w' (an g16 77 (fW l.1 l.2.1 (.slice B l.2.2.length c))::own 3 1 (.slice B l.2.2.length c) l.2.2.length (ints l.2.2)::(qL g2 g5 s.kd s.ni s.no v s.ls.length hs S s.ls)) [])) ?_ ?_
        ·refine aa (dY _ _) ?_;refine H.load 0 rfl aE rfl ?_;refine aa (eP _ _) ?_;refine H.load 0 rfl aE rfl ?_;refine aj (PE cur (by omega) s.ni s.no f.ni hno4.2 _) ?_;rintro _ K (⟨M,m,vv,B,n,c,rfl,G⟩ | ⟨l,B,c,M,rfl,hn⟩)
         ·replace H:=H.same G;refine H.alloc 77 (cs:=fW 0 0 (.slice none 0 0)) lY rfl ?_;clear H;intro g16 O H;refine H.storeAll 0 rfl cO rfl e_ ?_;clear H;intro w20 H;rw[uA] at M;exact ⟨(g16,false),⟨rfl,rfl,trivial⟩,.inl ⟨M,rfl,H.forget⟩⟩
         ·replace H:=H.bq hn;refine H.alloc 77 (cs:=fW 0 0 (.slice none 0 0)) lY rfl ?_;clear H;intro g16 O H;refine H.storeAll 0 rfl cO rfl e_ ?_;clear H;intro w20 H;rw[uA] at M;exact ⟨(g16,true),⟨rfl,rfl,trivial⟩,.inr ⟨l,B,c,M,rfl,H⟩⟩
        clear H;rintro ⟨g16,ok⟩ u K HH;replace HH:(ku s.ni s.no cur=none∧ok=false∧Hp w ab K (qL g2 g5 s.kd s.ni s.no v s.ls.length hs S s.ls) [])∨(∃ l B c,ku s.ni s.no cur=some l∧ok=true∧Hp w ab K (an g16 77 (fW l.1 l.2.1 (.slice B l.2.2.length c))::own 3 1 (.slice B l.2.2.length c) l.2.2.length (ints l.2.2)::(qL g2 g5 s.kd s.ni s.no v s.ls.length hs S s.ls)) []):=HH;have H:Hp w ab K (qL g2 g5 s.kd s.ni s.no v s.ls.length hs S s.ls) []:=by
         rcases HH with ⟨_,_,H⟩ | ⟨l,B,c,_,_,H⟩
         ·exact H
         ·exact H.forget.forget
        have hQ2:uC s cur kq N=if 0≤kq then (if s.st=2 then some { s with kd:=kq.toNat,st:=3 } else none)
         else if 0≤N then (if s.st<4 then some { s with told:=N,st:=4 } else none)
         else if cur=[46,101] then (if s.told<0∨s.told=s.ls.length then some { s with st:=5 } else none)
         else match ku s.ni s.no cur with
          | some l=>if 64≤s.ls.length then none else some { s with st:=4,ls:=s.ls++[l] }
          | none=>none:=rfl
        rw[hQ2] at d;clear hQ2;by_cases z:0≤kq
        ·rw[if_pos z] at d;refine ag (decide_eq_true z) ?_;by_cases h2:s.st=2
         ·rw[if_pos h2] at d;refine ag (by rw[h2];rfl) ?_;refine aa (cC _ _) ?_;refine H.store 0 rfl a_ (Nat.le_of_ble_eq_true rfl) rfl ?_;clear H;intro O H;exact ⟨((0,3,s.told),(kq,s.ni,s.no),v,s.ls.length,hs,S,s.ls),⟨rfl,rfl,rfl,trivial⟩,.inr ⟨rfl,_,d,(Int.toNat_of_nonneg z).symm,rfl,rfl,rfl,rfl,rfl,rfl⟩,H⟩
         ·rw[if_neg h2] at d;refine ae (beq_eq_false_iff_ne.2 (show ((uE s.st:Nat):Int)≠2 by rw[ea];omega)) ?_;exact ⟨((2,((uE s.st:Nat):Int),s.told),(s.kd,s.ni,s.no),v,s.ls.length,hs,S,s.ls),⟨rfl,rfl,rfl,trivial⟩,.inl ⟨by decide,d⟩,H⟩
        ·rw[if_neg z] at d;refine ae (decide_eq_false z) ?_;by_cases q:0≤N
         ·rw[if_pos q] at d;refine ag (decide_eq_true q) ?_;by_cases h4:s.st<4
          ·rw[if_pos h4] at d;refine ag (decide_eq_true (show ((uE s.st:Nat):Int)<4 by rw[ea];omega)) ?_;exact ⟨((0,4,N),(s.kd,s.ni,s.no),v,s.ls.length,hs,S,s.ls),⟨rfl,rfl,rfl,trivial⟩,.inr ⟨rfl,_,d,rfl,rfl,rfl,rfl,rfl,rfl,rfl⟩,H⟩
          ·rw[if_neg h4] at d;refine ae (decide_eq_false (show ¬ ((uE s.st:Nat):Int)<4 by rw[ea];omega)) ?_;exact ⟨((2,((uE s.st:Nat):Int),s.told),(s.kd,s.ni,s.no),v,s.ls.length,hs,S,s.ls),⟨rfl,rfl,rfl,trivial⟩,.inl ⟨by decide,d⟩,H⟩
         ·rw[if_neg q] at d;refine ae (decide_eq_false q) ?_;refine eY (b:=[46,101]) ?_;refine aF (fun J=>?_) (fun J=>?_)
          ·rw[if_pos (beq_iff_eq.1 J)] at d;obtain ⟨A,c0,rfl,_⟩:=fz (H.get 1 rfl);clear HH;by_cases C:s.told<0
           ·rw[if_pos (.inl C)] at d
            repeat refine ag (decide_eq_true C) ?_
            refine ag rfl ?_;exact ⟨((0,6,s.told),(s.kd,s.ni,s.no),_,s.ls.length,hs,S,s.ls),⟨rfl,rfl,rfl,trivial⟩,.inr ⟨rfl,{ s with st:=5 },d,rfl,rfl,rfl,rfl,rfl,rfl,rfl⟩,H⟩
           ·repeat refine ae (decide_eq_false C) ?_
            refine aa (dC _ _) ?_
            repeat refine ae (decide_eq_false C) ?_
            refine H.load 0 rfl fQ rfl ?_
            repeat refine ae (decide_eq_false C) ?_
            refine ay underlying31 ?_
            repeat refine ae (decide_eq_false C) ?_
            by_cases he:s.told=(s.ls.length:Int)
            ·rw[if_pos (.inr he)] at d;refine ag (beq_iff_eq.2 he) ?_;exact ⟨((0,6,s.told),(s.kd,s.ni,s.no),_,s.ls.length,hs,S,s.ls),⟨rfl,rfl,rfl,trivial⟩,.inr ⟨rfl,{ s with st:=5 },d,rfl,rfl,rfl,rfl,rfl,rfl,rfl⟩,H⟩
            ·rw[if_neg (fun h=>h.elim C he)] at d;refine ae (beq_eq_false_iff_ne.2 he) ?_;exact ⟨((2,((uE s.st:Nat):Int),s.told),(s.kd,s.ni,s.no),_,s.ls.length,hs,S,s.ls),⟨rfl,rfl,rfl,trivial⟩,.inl ⟨by decide,d⟩,H⟩
          ·rw[if_neg (fun h=>by rw[beq_iff_eq.2 h] at J;cases J)] at d;clear H;rcases HH with ⟨M,rfl,H⟩ | ⟨l,B,c0,M,rfl,H⟩
           ·rw[M] at d;refine ae rfl ?_;exact ⟨((2,((uE s.st:Nat):Int),s.told),(s.kd,s.ni,s.no),v,s.ls.length,hs,S,s.ls),⟨rfl,rfl,rfl,trivial⟩,.inl ⟨by decide,d⟩,H⟩
           ·rw[M] at d;simp only at d;refine ag rfl ?_;obtain ⟨A,c1,rfl,_⟩:=fz (H.get 3 rfl);have hll:s.ls.length≤64:=f.few;refine aa (dC _ _) ?_;refine H.load 2 rfl fQ rfl ?_;refine ay underlying31 ?_;have T:∀ (u:World) (F:Option Addr) (d4:Nat),Hp w ab u [an g16 77 (fW l.1 l.2.1 (.slice B l.2.2.length c0)),own 3 1 (.slice B l.2.2.length c0) l.2.2.length (ints l.2.2),an g5 33 (cI s.kd s.ni s.no (.slice F (s.ls.length+1) d4)),own 77 3 (.slice F (s.ls.length+1) d4) (s.ls.length+1) (flat la hs++la (l.1,l.2.1,.slice B l.2.2.length c0)),qT S hs s.ls,an g2 33 (cI 0 0 0 (.slice none 0 0))] []→
              ∃ D,Hp w ab u (qL g2 g5 s.kd s.ni s.no (.slice F (s.ls.length+1) d4) (s.ls.length+1) (hs++[(l.1,l.2.1,.slice B l.2.2.length c0)]) D (s.ls++[l])) []:=fun u F d4 H=>by
             obtain ⟨D,X⟩:=(H.b9 [1,4,2,3,5] (by decide) rfl:Hp w ab u (own 3 1 (.slice B l.2.2.length c0) l.2.2.length (ints l.2.2)::qT S hs s.ls::[an g5 33 (cI s.kd s.ni s.no (.slice F (s.ls.length+1) d4)),own 77 3 (.slice F (s.ls.length+1) d4) (s.ls.length+1) (flat la hs++la (l.1,l.2.1,.slice B l.2.2.length c0)),an g2 33 (cI 0 0 0 (.slice none 0 0))]) []).Gf;refine ⟨D,?_⟩;unfold qL;rw[show flat la (hs++[(l.1,l.2.1,.slice B l.2.2.length c0)])=flat la hs++la (l.1,l.2.1,.slice B l.2.2.length c0) from dD ..];exact X.b9 [1,2,0,3] (by decide) rfl
            by_cases h64:64≤s.ls.length
            ·rw[if_pos h64] at d;refine ag (decide_eq_true (show (s.ls.length:Int)≥64 by omega)) ?_;refine aa (dC _ _) ?_;refine H.load 2 rfl fQ rfl ?_;refine H.ai 0 rfl mK cO ?_;refine H.bk I6 (cs:=fW l.1 l.2.1 (.slice B l.2.2.length c0)) (by decide) (by decide) (by kernel_rfl) ?_;clear H;intro gx O H;refine H.aG 4 0 I6 rfl rfl rfl e_ (by omega) (by omega) ?_;clear H;intro F d4 w20 H;replace H:=H.forget;refine aa (dC _ _) ?_;refine H.store 2 rfl xr (Nat.le_of_ble_eq_true rfl) rfl ?_;clear H;intro w21 H;obtain ⟨D,X⟩:=T w21 F d4 H;exact ⟨((3,4,s.told),(s.kd,s.ni,s.no),_,s.ls.length+1,_,D,s.ls++[l]),⟨rfl,rfl,rfl,trivial⟩,.inl ⟨by decide,d⟩,X⟩
            ·rw[if_neg h64] at d;refine ae (decide_eq_false (show ¬ (s.ls.length:Int)≥64 by omega)) ?_;refine aa (dC _ _) ?_;refine H.load 2 rfl fQ rfl ?_;refine H.ai 0 rfl mK cO ?_;refine H.bk I6 (cs:=fW l.1 l.2.1 (.slice B l.2.2.length c0)) (by decide) (by decide) (by kernel_rfl) ?_;clear H;intro gx O H;refine H.aG 4 0 I6 rfl rfl rfl e_ (by omega) (by omega) ?_;clear H;intro F d4 w20 H;replace H:=H.forget;refine aa (dC _ _) ?_;refine H.store 2 rfl xr (Nat.le_of_ble_eq_true rfl) rfl ?_;clear H;intro w21 H;obtain ⟨D,X⟩:=T w21 F d4 H;exact ⟨((0,4,s.told),(s.kd,s.ni,s.no),_,s.ls.length+1,_,D,s.ls++[l]),⟨rfl,rfl,rfl,trivial⟩,.inr ⟨rfl,_,d,rfl,rfl,rfl,rfl,rfl,rfl,by simp⟩,X⟩
    clear H;rintro ⟨⟨e,at_,told⟩,⟨kd,ni,no⟩,v',n,t,D,Q⟩ u w15 ⟨hq,H⟩;rcases hq with ⟨he,U⟩ | ⟨rfl,x,U,rfl,rfl,rfl,rfl,rfl,rfl,rfl⟩
    ·rw[U] at p;refine ag (bne_iff_ne.2 he) ?_;refine jf ?_;refine H.storeAll 3 rfl bw rfl dH ?_;clear H;intro I H;refine H.ai 3 rfl eL bw ?_;refine ⟨rfl,.inl ⟨fun x t=>?_,_,e,rfl,he,H.keeps⟩⟩;rw[t,p] at j
     cases j
    ·rw[U] at p;refine ae rfl ?_;have hok':qM x:=by
      rw[uD s f.st f.few] at U
      cases C:gr s cur with
      | error e=>rw[C] at U;cases U
      | ok s2=>rw[C] at U;have:=Option.some.inj U;subst this;exact qN f C
     exact ⟨(x,[],num+1,v',t,D),⟨rfl,rfl,rfl,rfl,trivial⟩,⟨by show num+1≤i+1;omega,Nat.zero_le _,p,hok'⟩,H⟩
   ·clear H;rintro ⟨x,cur',num',v',t,D⟩ u w9 ⟨⟨h1,h2,h3,h4⟩,H⟩;exact ⟨(i+1,x,cur',num',v',t,D),by show text.length - (i+1)<text.length - i;omega,⟨up (by omega),rfl,rfl,rfl,rfl,trivial⟩,⟨by show i+1≤text.length;omega,h1,h2,h3,h4⟩,H⟩
  ·obtain rfl:i=text.length:=by omega
   rw[List.drop_length] at p;exact ⟨(s,cur,num,v,hs,S),⟨rfl,rfl,rfl,trivial⟩,⟨p,f⟩,H⟩
 clear H;rintro ⟨s,cur,num,v,hs,S⟩ u w8 ⟨⟨p,f⟩,H⟩;have hfe:jh s cur []=if cur=[]∧s.st=5 then some s else none:=rfl;rw[p,hfe] at j;clear hfe p;have V:¬ (cur=[]∧s.st=5)→∀ x,cY text≠.ok x:=fun h x t=>by
  rw[if_neg h,t] at j
  cases j
 refine aw (fun w'=>cur=[]∧Hp w ab w' (qL g2 g5 s.kd s.ni s.no v s.ls.length hs S s.ls) []) ?_ ?_
 ·refine hH (b:=[]) ?_;by_cases E:cur=[]
  ·refine ae (by rw[E];rfl) ?_;exact ⟨(),trivial,E,H⟩
  ·refine ag (by simpa using E) ?_;refine jf ?_;refine H.storeAll 3 rfl bw rfl dH ?_;clear H;intro w9 H;refine H.ai 3 rfl eL bw ?_;exact ⟨rfl,.inl ⟨V fun h=>E h.1,_,2,rfl,by decide,H.keeps⟩⟩
 clear H;rintro ⟨⟩ u w9 ⟨E,H⟩;refine aw (fun w'=>s.st=5∧Hp w ab w' (qL g2 g5 s.kd s.ni s.no v s.ls.length hs S s.ls) []) ?_ ?_
 ·by_cases y:s.st=5
  ·refine ae (by unfold uE;rw[if_pos y];rfl) ?_;exact ⟨(),trivial,y,H⟩
  ·have h6:uE s.st≠6:=by unfold uE;rw[if_neg y];have:=f.st;omega
   refine ag (bne_iff_ne.2 (show ((uE s.st:Nat):Int)≠6 by omega)) ?_;refine jf ?_;refine H.storeAll 3 rfl bw rfl dH ?_;clear H;intro w9 H;refine H.ai 3 rfl eL bw ?_;exact ⟨rfl,.inl ⟨V fun h=>y h.2,_,7,rfl,by decide,H.keeps⟩⟩
 clear H;rintro ⟨⟩ u w10 ⟨y,H⟩;rw[if_pos ⟨E,y⟩] at j;have hP:cY text=.ok s:=by
  cases hp:cY text with
  | error e=>rw[hp] at j;cases j
  | ok x=>rw[hp] at j;rw[Option.some.inj j]
 obtain ⟨A,c,rfl,hc⟩:=fz (H.get 1 rfl);refine H.ai 0 rfl eL bw ?_;refine H.storeAll 3 rfl bw rfl dH ?_;clear H;intro w11 H;refine H.ai 3 rfl eL bw ?_;exact ⟨rfl,.inr ⟨s,_,_,hP,rfl,xq H.keeps (H.get 1 rfl) (fun g Y=>⟨(H.new _ (.tail _ (.head _)) g Y).resolve_right id,H.lt _ (.tail _ (.head _)) g Y⟩) (H.get 2 rfl) (fun g Y=>⟨(H.new _ (.tail _ (.tail _ (.head _))) g Y).resolve_right id,H.lt _ (.tail _ (.tail _ (.head _))) g Y⟩) rfl⟩⟩
end Go.Proofs.YtpjihhgjbbihkaaGreatDoor
namespace Go.Dk
def fb (ls:List Ln)(p out mark:Nat):Bool:=ls.any fun l=>decide (l.2.2[out]?=some mark)&&pU l.1 l.2.1 p
section
variable {P:Program} {w0 w:World} {L M:List cS} {k:Value→World→Prop}
theorem Sl.xz {α:Type}(H:Hp w0 ab w L M){enc:α→List Value}{ty:TypeId}{sz g o o' l c:Nat}{xs:List α}(e:Sl w0 (.slice (some ⟨g,o,none⟩) l c) sz l (flat enc xs))(he:∀ a,(enc a).length=sz)(b:cW P ty=some false)(i j:Nat){a:α}{u:Value}(n:o'=o+(i*sz+j))(f:xs[i]?=some a)(m:(enc a)[j]?=some u)(h:k u w):fu P ty (.pointer (some ⟨g,o',none⟩)) w k:=by
 subst n;have hlen:(flat enc xs).length=l*sz:=e.1;rw[dp he] at hlen;have hi:=(List.getElem?_eq_some_iff.1 f).1;have d:j<sz:=by have:=(List.getElem?_eq_some_iff.1 m).1;rwa [he] at this
 have p:(i+1)*sz≤xs.length*sz:=Nat.mul_le_mul_right _ (by omega);rw[Nat.succ_mul] at p;exact aB b (((e.same H.keeps).cell (i*sz+j) (by omega)).trans ((jx he f j d).trans m)) h
theorem Sl.Cn {α:Type}(H:Hp w0 ab w L M){enc:α→List Value}{ty:TypeId}{sz g o o' l c:Nat}{xs:List α}(m:Sl w0 (.slice (some ⟨g,o,none⟩) l c) sz l (flat enc xs))(he:∀ a,(enc a).length=sz)(cs:List Value)(b:cW P ty=some true)(hs:bF P ty=some cs.length)(i:Nat){a:α}(p:o'=o+i*sz)(n:xs[i]?=some a)(q:∀ (j:Nat) v,cs[j]?=some v→(enc a)[j]?=some v)(h:k (.agg cs.toArray) w):fu P ty (.pointer (some ⟨g,o',none⟩)) w k:=by
 subst p;have hlen:(flat enc xs).length=l*sz:=m.1;rw[dp he] at hlen;have hi:=(List.getElem?_eq_some_iff.1 n).1;refine iB cs b hs (fun j v r=>?_) h;have d:=q j v r;have f:j<sz:=by have:=(List.getElem?_eq_some_iff.1 d).1;rwa [he] at this
 have e:(⟨g,o+i*sz,none⟩:Addr).add j=⟨g,o+(i*sz+j),none⟩:=by unfold Addr.add;split <;> simp_all[Nat.add_assoc]
 have s:(i+1)*sz≤xs.length*sz:=Nat.mul_le_mul_right _ (by omega);rw[Nat.succ_mul] at s;rw[e,(m.same H.keeps).cell (i*sz+j) (by omega),jx he n j f,d]
end
end Go.Dk
namespace Go.Proofs.YtpjihhgjbbihkaaGreatDoor
open Go.Proofs.Tryz
open Go.Dk
set_option maxRecDepth 100000
attribute [local irreducible] IntKind.wrap
theorem Co (g o:Nat)(w:World):(Instr.fieldAt 77 (.pointer (some ⟨g,o,none⟩)) 0).run prog w=.ok (.pointer (some ⟨g,o,none⟩)) w:=by kernel_rfl
theorem xA (g o:Nat)(w:World):(Instr.fieldAt 77 (.pointer (some ⟨g,o,none⟩)) 1).run prog w=.ok (.pointer (some ⟨g,o+2,none⟩)) w:=by kernel_rfl
theorem Nt:enters prog 10=true:=by kernel_rfl
set_option maxHeartbeats 1000000 in
theorem Ll {t:Tb}(x:j7 t)(p out mark:Nat)(G:p<9223372036854775808)(V:out<t.no)(v:Value)(w:World)(I:jm w v t.ls):bz prog 10 [sN t.kd t.ni t.no v,.int .i64 (p:Int),.int .i64 (out:Int),.int .i64 (mark:Int)] w fun r w'=>r=.bool (fb t.ls p out mark)∧aT w w':=by
 refine ar (N:=38) func10 Nt rfl rfl rfl (by simp) ?_;have H:=Hp.aC w;obtain ⟨B,c,hs,rfl,f,J,y⟩:=I.uq;have D:=x.few;refine ak (γ:=Nat) (fun g4=>[(4,(ah g4)),(8,.bool false)]) (fun g4 w'=>Hp w ab w' [an g4 33 (cI t.kd t.ni t.no (.slice B t.ls.length c))] []) ?_ ?_
 ·refine H.box 33 _ (cs:=cI t.kd t.ni t.no (.slice B t.ls.length c)) rfl ?_;clear H;intro g4 K H;exact ⟨g4,⟨rfl,rfl,trivial⟩,H⟩
 clear H;rintro g4 u K H;refine aw (fun w'=>fb t.ls p out mark=false∧Hp w ab w' [an g4 33 (cI t.kd t.ni t.no (.slice B t.ls.length c))] []) ?_ ?_
 ·refine ax (γ:=Nat) (fun i=>[(9,.int .i64 (i:Int))]) (fun i w'=>(i≤t.ls.length∧fb (t.ls.take i) p out mark=false)∧Hp w ab w' [an g4 33 (cI t.kd t.ni t.no (.slice B t.ls.length c))] []) (fun i=>t.ls.length - i) 0 ⟨rfl,trivial⟩ ⟨⟨Nat.zero_le _,rfl⟩,H⟩ ?_;clear H;rintro i u X ⟨⟨hi,a⟩,H⟩;refine aa (dC _ _) ?_;refine H.load 0 rfl fQ rfl ?_;refine ay underlying31 ?_;refine au (fun M=>?_) (fun M=>?_)
  ·have b:i<t.ls.length:=by omega
   obtain ⟨l,E,h⟩:∃ l,t.ls[i]?=some l∧l ∈ t.ls:=⟨_,List.getElem?_eq_getElem b,List.getElem_mem b⟩;obtain ⟨Y,Z,k,m⟩:=y i l E;have n:=x.ls l h;have O:=n.len;obtain ⟨s1,s2,s3⟩:=lb x.ni n;obtain ⟨Q,z,rfl⟩:=f.A (by omega);obtain ⟨gO,S,rfl⟩:=m.A (by omega);have F:l.2.2[out]?=some (l.2.2[out]'(by omega)):=List.getElem?_eq_getElem (by omega);have d:fb (t.ls.take (i+1)) p out mark=(fb (t.ls.take i) p out mark||(decide (l.2.2[out]?=some mark)&&pU l.1 l.2.1 p)):=by
    unfold fb;rw[List.take_add_one,E,List.any_append];simp
   refine aw (fun w'=>fb (t.ls.take (i+1)) p out mark=false∧Hp w ab w' [an g4 33 (cI t.kd t.ni t.no (.slice (some ⟨Q,z,none⟩) t.ls.length c))] []) ?_ ?_
   ·refine aa (dC _ _) ?_;refine H.load 0 rfl fQ rfl ?_;refine aq underlying31 cO i rfl b (o':=z+i*3) (by omega) ?_;refine aa (xA _ _) ?_;refine Sl.xz H f e8 fl i 2 (by omega) k rfl ?_;refine aq underlying75 a_ out rfl (by omega) (o':=S+out) (by omega) ?_;refine aB aE (((m.same H.keeps).cell out (by omega)).trans (eZ (by omega))) ?_;by_cases he:((l.2.2[out]'(by omega):Nat):Int)=(mark:Int)
    ·have s:decide (l.2.2[out]?=some mark)=true:=decide_eq_true (by rw[F];congr 1;omega);rw[s,a,Bool.false_or,Bool.true_and] at d
     repeat refine ag (beq_iff_eq.2 he) ?_
     refine aa (dC _ _) ?_
     repeat refine ag (beq_iff_eq.2 he) ?_
     refine H.load 0 rfl fQ rfl ?_
     repeat refine ag (beq_iff_eq.2 he) ?_
     refine aq underlying31 cO i rfl b (o':=z+i*3) (by omega) ?_
     repeat refine ag (beq_iff_eq.2 he) ?_
     refine aa (Co _ _) ?_
     repeat refine ag (beq_iff_eq.2 he) ?_
     refine Sl.Cn H f e8 (cc l.1 l.2.1).toList bl aJ i (by omega) k (fun j u g=>by match j,g with | 0,g=>exact g | 1,g=>exact g | j+2,g=>simp[cc] at g) ?_
     repeat refine ag (beq_iff_eq.2 he) ?_
     refine aj (O7 l.1 l.2.1 s1 s2 p G _) ?_;rintro _ T ⟨rfl,U⟩;replace H:=H.same U
     repeat refine ag (beq_iff_eq.2 he) ?_
     refine aF (fun C=>?_) (fun C=>?_)
     ·have o:fb t.ls p out mark=true:=by
       unfold fb;rw[List.any_eq_true];exact ⟨l,h,by rw[s,C];rfl⟩
      exact ⟨by rw[o];rfl,H.keeps⟩
     ·exact ⟨(),trivial,d.trans C,H⟩
    ·have s:decide (l.2.2[out]?=some mark)=false:=decide_eq_false (by rw[F];intro e;injection e with e;exact he (by rw[e]));rw[s,a] at d
     repeat refine ae (beq_eq_false_iff_ne.2 he) ?_
     refine ae rfl ?_;exact ⟨(),trivial,d,H⟩
   ·clear H;rintro ⟨⟩ u T ⟨q,H⟩;exact ⟨i+1,by show t.ls.length - (i+1)<t.ls.length - i;omega,⟨up (by omega),trivial⟩,⟨by show i+1≤t.ls.length;omega,q⟩,H⟩
  ·obtain rfl:i=t.ls.length:=by omega
   rw[List.take_length] at a;exact ⟨(),trivial,a,H⟩
 clear H;rintro ⟨⟩ u w2 ⟨a,H⟩;exact ⟨by rw[a];rfl,H.keeps⟩
theorem Nu:enters prog 36=true:=by kernel_rfl
theorem PF (n:Nat)(b:n≤8)(w:World):bz prog 36 [.int .i64 (n:Int)] w fun r w'=>r=.int .i64 ((cT (bu n)).length:Int)∧aT w w':=by
 refine ar (N:=8) func36 Nu rfl rfl rfl (by simp) ?_;have H:=Hp.aC w;refine aj (N7 n b _) ?_;rintro _ e ⟨A,c,rfl,a⟩;replace H:=H.bq a;clear a;refine aj (c37 (iV n) (by simp[iV]) A c _ (bB (H.get 0 rfl))) ?_;rintro _ f ⟨rfl,a⟩;replace H:=H.same a;clear a;rw[CM];refine aj (Pe _ _) ?_;rintro _ g ⟨B,d,rfl,a⟩;replace H:=H.bq a;refine ay underlying75 ?_;exact ⟨rfl,H.keeps⟩
theorem Gn:∀ n,n≤8→(cT (bu n)).length=2^n:=by
 have key:((List.range 9).all fun n=>(cT (bu n)).length==2^n)=true:=by decide +kernel
 intro n a;rw[List.all_eq_true] at key;exact beq_iff_eq.1 (key n (List.mem_range.2 (by omega)))
def rI (text:List UInt8)(a b:Nat):Bool:=match cY text with
 | .ok s=>decide (s.ni≤a)&&decide (s.no≤b)
 | .error _=>true
theorem Nv:enters prog 17=true:=by kernel_rfl
set_option maxHeartbeats 1000000 in
theorem PG (text:List UInt8)(m:text.length≤100000)(a b:Nat)(w:World):bz prog 17 [aU text,.int .i64 (a:Int),.int .i64 (b:Int)] w fun r w'=>r=.bool (rI text a b)∧aT w w':=by
 refine ar (N:=30) func17 Nv rfl rfl rfl (by simp) ?_;have H:=Hp.aC w;refine ak (γ:=Unit) (fun _=>[(6,.bool false)]) (fun _ w'=>Hp w ab w' [] []) ⟨(),⟨rfl,trivial⟩,H⟩ ?_;clear H;rintro ⟨⟩ u q H;refine aj (c9 text m _) ?_;rintro _ t (⟨f,i,n,rfl,h,k⟩ | ⟨s,v,S,f,rfl,h⟩)
 ·replace H:=H.same k;clear k;have j:rI text a b=true:=by
   unfold rI
   cases hp:cY text with
   | error e=>rfl
   | ok s=>exact absurd hp (f s)
  rw[j];refine H.alloc 33 (cs:=cI 0 0 0 (.slice none 0 0)) nn rfl ?_;clear H;intro g o H;refine H.storeAll 0 rfl bw rfl dH ?_;clear H;intro p H
  repeat refine ag (bne_iff_ne.2 h) ?_
  exact ⟨rfl,H.keeps⟩
 ·replace H:=H.bq h;obtain ⟨B,c,hs,rfl,_⟩:=H.get 0 rfl;replace H:=H.forget;have j:rI text a b=(decide (s.ni≤a)&&decide (s.no≤b)):=by unfold rI;rw[f]
  rw[j];refine H.alloc 33 (cs:=cI 0 0 0 (.slice none 0 0)) nn rfl ?_;clear H;intro g o H;refine H.storeAll 0 rfl bw rfl dH ?_;clear H;intro p H
  repeat refine ae rfl ?_
  refine aa (dY _ _) ?_
  repeat refine ae rfl ?_
  refine H.load 0 rfl aE rfl ?_
  repeat refine ae rfl ?_
  by_cases l:s.ni≤a
  ·have d:(s.ni:Int)≤(a:Int):=by omega
   rw[decide_eq_true l,Bool.true_and]
   repeat refine ag (decide_eq_true d) ?_
   refine aa (eP _ _) ?_
   repeat refine ag (decide_eq_true d) ?_
   refine H.load 0 rfl aE rfl ?_
   repeat refine ag (decide_eq_true d) ?_
   refine ae rfl ?_;refine ag (decide_eq_true (by assumption)) ?_;refine ae rfl ?_;refine ⟨congrArg Value.bool ?_,H.keeps⟩;exact decide_eq_decide.2 (by omega)
  ·have d:¬ (s.ni:Int)≤(a:Int):=by omega
   rw[decide_eq_false l,Bool.false_and]
   repeat refine ae (decide_eq_false d) ?_
   refine ae rfl ?_;refine ae (decide_eq_false (by assumption)) ?_;refine ae rfl ?_;exact ⟨rfl,H.keeps⟩
def xB (l:List Rw)(p out:Nat):Bool:=l.any fun x=>x.2.2.testBit out&&pU x.1 x.2.1 p
theorem Nw:enters prog 39=true:=by kernel_rfl
theorem OX (o i:Nat)(b:o<256)(hi:i≤62)(w:World):bz prog 39 [.int .u8 (o:Int),.int .i64 (i:Int)] w fun r w'=>r=.bool (o.testBit i)∧aT w w':=by
 refine ar (N:=10) func39 Nw rfl rfl rfl (by simp) ?_;have H:=Hp.aC w;have e:(((o / 2^i % 2:Nat):Int)==1)=o.testBit i:=by
  rw[Nat.testBit_eq_decide_div_mod_eq,Bool.eq_iff_iff,beq_iff_eq,decide_eq_true_eq];omega
 refine eF (by kernel_rfl) underlying3 (by omega) (by omega) ?_;refine aj (O6 o i (by omega) hi _) ?_;rintro _ c ⟨rfl,a⟩;exact ⟨congrArg Value.bool e,H.keeps.trans a (by simp)⟩
theorem Nx:enters prog 40=true:=by kernel_rfl
theorem c40 (m v s n:Nat)(hm:m<256)(b:v<256)(c:n≤8)(w:World):bz prog 40 [cv m v,sv s,.int .i64 (n:Int)] w fun r w'=>r=.bool (dr m v n&&(bQ (CR m v n) s==0))∧aT w w':=by
 refine ar (N:=17) func40 Nx rfl rfl rfl (by simp) ?_;have H:=Hp.aC w;refine H.box 48 (cv _ _) (cs:=cc _ _) rfl ?_;clear H;intro g3 d H;refine H.box 86 (sv s) (cs:=sc s) rfl ?_;clear H;intro g4 e H;refine H.draw eN (by kernel_rfl) ?_;clear H;intro f H;refine quiet _ (fun w H=>H.ai 1 rfl bl aJ af) ?_;refine aj (Oc m v hm b (n:Int) _) ?_;rintro _ g ⟨rfl,a⟩;replace H:=H.same a;clear a;refine ⟨.inl H,?_⟩
 cases hr:dr m v (n:Int) with
 | false=>
  repeat refine ae rfl ?_
  exact ⟨rfl,H.keeps⟩
 | true=>
  repeat refine ag rfl ?_
  refine quiet _ (fun w H=>H.ai 1 rfl bl aJ af) ?_
  repeat refine ag rfl ?_
  refine aj (Pg m v hm b n c _) ?_;rintro _ h ⟨rfl,a⟩;replace H:=H.same a;clear a;refine ⟨.inl H,?_⟩
  repeat refine ag rfl ?_
  refine quiet _ (fun w H=>H.ai 0 rfl aD av af) ?_
  repeat refine ag rfl ?_
  refine aj (Pf _ _ (by unfold CR;first | exact cw _ | exact ofFlags_lt _ | skip) _) ?_;rintro _ i ⟨rfl,a⟩;replace H:=H.same a;clear a;refine ⟨.inl H,?_⟩
  repeat refine ag rfl ?_
  exact ⟨rfl,H.keeps⟩
theorem DL {m v s n:Nat}(hm:m<256)(b:v<256):(dr m v n&&(bQ (CR m v n) s==0))=yK m v s n:=by
 unfold yK;by_cases a:dr m v (n:Int)=true
 ·have h:=(dJ hm b).1 a;rw[G6 n hm h.2.2.2]
 ·rw[Bool.not_eq_true] at a;rw[a,Bool.false_and,Bool.false_and]
def oo (o i:Nat):Bool:=(List.range i).any fun j=>o.testBit j
def uF (o k i:Nat):Bool:=(List.range i).all fun j=> !o.testBit j||decide (j<k)
theorem Bh (o i:Nat):oo o (i+1)=(oo o i||o.testBit i):=by unfold oo;rw[List.range_succ,List.any_append];simp
theorem DM (o k i:Nat):uF o k (i+1)=(uF o k i&&(!o.testBit i||decide (i<k))):=by unfold uF;rw[List.range_succ,List.all_append];simp
def zp (m v o n k:Nat):Bool:=uF o k 8&&(oo o 8&&dr m v n)
theorem Ny:enters prog 38=true:=by kernel_rfl
theorem PH (m v o n k:Nat)(hm:m<256)(q:v<256)(s:o<256)(y:k≤100)(w:World):bz prog 38 [mA m v o,.int .i64 (n:Int),.int .i64 (k:Int)] w fun r w'=>r=.bool (zp m v o n k)∧aT w w':=by
 refine ar (N:=27) func38 Ny rfl rfl rfl (by simp) ?_;have H:=Hp.aC w;refine ak (γ:=Nat) (fun g3=>[(3,(ah g3)),(6,.bool false)]) (fun g3 w'=>Hp w ab w' [an g3 50 (dc m v o)] []) ?_ ?_
 ·refine H.box 50 _ (cs:=dc m v o) rfl ?_;clear H;intro g3 t H;exact ⟨g3,⟨rfl,rfl,trivial⟩,H⟩
 clear H;rintro g3 u t H;refine ak (γ:=Unit) (fun _=>[(7,.bool (oo o 0))]) (fun _ w'=>Hp w ab w' [an g3 50 (dc m v o)] []) ⟨(),⟨rfl,trivial⟩,H⟩ ?_;clear H;rintro ⟨⟩ u z H;refine ak (γ:=Unit) (fun _=>[(7,.bool (oo o 8))]) (fun _ w'=>uF o k 8=true∧Hp w ab w' [an g3 50 (dc m v o)] []) ?_ ?_
 ·refine ax (γ:=Nat) (fun i=>[(8,.int .i64 (i:Int)),(7,.bool (oo o i))]) (fun i w'=>(i≤8∧uF o k i=true)∧Hp w ab w' [an g3 50 (dc m v o)] []) (fun i=>8 - i) 0 ⟨rfl,rfl,trivial⟩ ⟨⟨Nat.zero_le _,rfl⟩,H⟩ ?_;clear H;rintro i u x ⟨⟨hi,a⟩,H⟩;refine au (fun f=>?_) (fun f=>?_)
  ·have b:i<8:=by have f:(i:Int)<8:=f;omega
   have hs:=Bh o i;have e:=DM o k i;rw[a,Bool.true_and] at e;refine ak (γ:=Unit) (fun _=>[(7,.bool (oo o (i+1)))]) (fun _ w'=>uF o k (i+1)=true∧Hp w ab w' [an g3 50 (dc m v o)] []) ?_ ?_
   ·refine aa (dh _ _) ?_;refine H.load 0 rfl b7 rfl ?_;refine aj (OX o i s (by omega) _) ?_;rintro _ p ⟨rfl,c⟩;replace H:=H.same c
    cases hb:o.testBit i with
    | false=>
     rw[hb] at hs e;rw[Bool.or_false] at hs;refine ae rfl ?_;exact ⟨(),⟨congrArg Value.bool hs.symm,trivial⟩,e,H⟩
    | true=>
     rw[hb] at hs e;rw[Bool.or_true] at hs;refine ag rfl ?_;refine au (fun h=>?_) (fun h=>?_)
     ·have g:uF o k 8=false:=by
       unfold uF;rw[List.all_eq_false];exact ⟨i,List.mem_range.2 b,by rw[hb];have h:(i:Int)≥k:=h;simp;omega⟩
      exact ⟨by unfold zp;rw[g];rfl,H.keeps⟩
     ·have h:¬ (i:Int)≥k:=h;rw[decide_eq_true (show i<k by omega)] at e;exact ⟨(),⟨congrArg Value.bool hs.symm,trivial⟩,e,H⟩
   ·clear H;rintro ⟨⟩ u p ⟨d,H⟩;exact ⟨i+1,by show 8 - (i+1)<8 - i;omega,⟨up (by omega),rfl,trivial⟩,⟨by show i+1≤8;omega,d⟩,H⟩
  ·have b:i=8:=by have f:¬ (i:Int)<8:=f;omega
   subst b;exact ⟨(),⟨rfl,trivial⟩,a,H⟩
 clear H;rintro ⟨⟩ u x ⟨a,H⟩;unfold zp;rw[a,Bool.true_and]
 cases hsb:oo o 8 with
 | false=>
  repeat refine ae rfl ?_
  exact ⟨rfl,H.keeps⟩
 | true=>
  repeat refine ag rfl ?_
  refine aa (fC _ _) ?_
  repeat refine ag rfl ?_
  refine H.cB 0 rfl [.int .u8 (m:Int),.int .u8 (v:Int)] bl aJ (fun j u l=>by match j,l with | 0,l=>exact l | 1,l=>exact l) ?_
  repeat refine ag rfl ?_
  refine aj (Oc m v hm q (n:Int) _) ?_;rintro _ p ⟨rfl,c⟩;replace H:=H.same c
  repeat refine ag rfl ?_
  exact ⟨rfl,H.keeps⟩
end Go.Proofs.YtpjihhgjbbihkaaGreatDoor
namespace Go.Proofs.YtpjihhgjbbihkaaGreatDoor
open Go.Dk
set_option maxRecDepth 100000
theorem jE:∀ {x:List UInt8},(∀ c ∈ x,c≠10)→∀ s,bM (x++10::s)=x::bM s
 | [],_,s=>lO s
 | c::x,h,s=>iJ (h c (.head _)) (jE (fun d a=>h d (.tail _ a)) s)
theorem xC {n:Nat}(h:n<65):∀ c ∈ cX n,c≠10:=by
 have key:((List.range 65).all fun n=>(cX n).all fun c=>c !=10)=true:=by decide +kernel
 rw[List.all_eq_true] at key;have:=key n (List.mem_range.2 h);rw[List.all_eq_true] at this;exact fun c a=>bne_iff_ne.1 (this c a)
theorem Gp (k:Nat):∀ c ∈ dS k,c≠10:=by
 unfold dS;split
 ·decide
 ·split
  ·decide
  ·split <;> decide
theorem Lm (m v i:Nat):fH (zC m v i)=true:=by
 unfold fH zC
 cases m.testBit i <;> cases v.testBit i <;> rfl
theorem uG (m v n:Nat):∀ c ∈ dW m v n,fH c=true:=fun c a=>by
 obtain ⟨i,_,rfl⟩:=List.mem_map.1 a;exact Lm m v i
theorem uH (x:Nat):fH (fa x)=true:=by
 unfold fa;split
 ·rfl
 ·split <;> rfl
theorem Cp {c:UInt8}(h:fH c=true):c≠10:=by
 rintro rfl;exact absurd h (by decide)
theorem DN {x:Nat}(h:x<3):bI (fa x)=x:=by
 rcases (by omega:x=0∨x=1∨x=2) with rfl | rfl | rfl <;> rfl
theorem Gq (ni:Nat)(l:Ln):∀ c ∈ gV ni l,c≠10:=fun c a=>by
 unfold gV at a;rcases List.mem_append.1 a with h | h
 ·exact Cp (uG _ _ _ c h)
 ·rcases List.mem_cons.1 h with rfl | h
  ·decide
  ·obtain ⟨x,_,rfl⟩:=List.mem_map.1 h;exact Cp (uH x)
theorem Gr {ni no:Nat}(b:ni≤8){l:Ln}(h:uW ni no l):ku ni no (gV ni l)=some l:=by
 obtain ⟨m,v,o⟩:=l;obtain ⟨e,f,g,i⟩:=h;simp only at e f g i;have d:=zE e f b;have a:Lib.cut (gV ni (m,v,o)) [32]=(dW m v ni,o.map fa,true):=Gm fun c a=>Cm (uG _ _ _ c a);unfold ku;rw[a];simp only;have j:(o.map fa).all fH=true:=by
  rw[List.all_eq_true];intro c a;obtain ⟨x,_,rfl⟩:=List.mem_map.1 a;exact uH x
 have hm:(o.map fa).map bI=o:=by
  rw[List.map_map];have:o.map (bI ∘ fa)=o.map id:=List.map_congr_left fun x k=>DN (i x k);rw[this,List.map_id]
 rw[if_pos ⟨by unfold lQ;rw[d.1,iO,List.length_map,g];simp,j⟩,iO,d.2.1,d.2.2,hm]
def I8 (t:Tb):List UInt8:=[46,105]++32::cX t.ni
def I9 (t:Tb):List UInt8:=[46,111]++32::cX t.no
def Is (t:Tb):List UInt8:=[46,116,121,112,101,32]++dS t.kd
def I_ (t:Tb):List UInt8:=[46,112]++32::cX t.ls.length
theorem Gs (t:Tb):cP t=I8 t++10::(I9 t++10::(Is t++10::(I_ t++10::(dF t.ni t.ls++[46,101,10])))):=by
 unfold cP fp I8 I9 Is I_;simp[List.append_assoc]
theorem uI (ni:Nat):∀ ls:List Ln,bM (dF ni ls++[46,101,10])=ls.map (gV ni)++[[46,101],[]]
 | []=>rfl
 | l::ls=>by
  have e:dF ni (l::ls)++[46,101,10]=gV ni l++10::(dF ni ls++[46,101,10]):=by simp[dF]
  rw[e,jE (Gq ni l),uI ni ls];rfl
theorem xD {a b:List UInt8}(d:∀ c ∈ a,c≠10)(e:∀ c ∈ b,c≠10):∀ c ∈ a++b,c≠10:=fun c f=>(List.mem_append.1 f).elim (d c) (e c)
theorem zq {t:Tb}(b:j7 t):bM (cP t)=[I8 t,I9 t,Is t,I_ t]++(t.ls.map (gV t.ni)++[[46,101],[]]):=by
 have k:=b.ni;have m:=b.no4;have n:=b.few;have a:∀ {l:List UInt8},(∀ c ∈ l,c≠10)→∀ c ∈ 32::l,c≠10:=fun h c d=>(List.mem_cons.1 d).elim (fun e=>by rw[e];decide) (h c);have f:∀ c ∈ I8 t,c≠10:=xD (by decide) (a (xC (by omega)));have g:∀ c ∈ I9 t,c≠10:=xD (by decide) (a (xC (by omega)));have i:∀ c ∈ Is t,c≠10:=xD (by decide) (Gp _);have j:∀ c ∈ I_ t,c≠10:=xD (by decide) (a (xC (by omega)));rw[Gs,jE f,jE g,jE i,jE j,uI];rfl
theorem DO {s:Rd}(c:s.st=4)(a:s.ni≤8){l:Ln}(d:uW s.ni s.no l)(f:s.ls.length<64):gr s (gV s.ni l)=.ok { s with ls:=s.ls++[l] }:=by
 have b:gV s.ni l≠[46,101]:=fun e=>by
  have:(32:UInt8) ∈ gV s.ni l:=List.mem_append_right _ (.head _);rw[e] at this;exact absurd this (by decide)
 unfold gr;rw[if_neg (by omega),if_neg (by omega),if_neg (by omega)];unfold iw;rw[if_neg (by omega),if_neg (by omega)];unfold jg;rw[if_neg b,Gr a d];simp only;rw[if_neg (by omega)];obtain ⟨kd,ni,no,st,told,ls⟩:=s;simp only at c;subst c;rfl
theorem DP (ni:Nat)(l:Ln):¬ (gV ni l=[]∨(gV ni l).head?=some 35):=by
 rintro (h | h)
 ·have:(32:UInt8) ∈ gV ni l:=List.mem_append_right _ (.head _);rw[h] at this
  cases this
 ·have hm:(35:UInt8) ∈ gV ni l:=List.mem_of_mem_head? (by rw[h];rfl);unfold gV at hm;rcases List.mem_append.1 hm with h | h
  ·exact absurd (uG _ _ _ _ h) (by decide)
  ·rcases List.mem_cons.1 h with h | h
   ·exact absurd h (by decide)
   ·obtain ⟨x,_,a⟩:=List.mem_map.1 h;have:=uH x;rw[a] at this;exact absurd this (by decide)
theorem uJ {kd ni no:Nat}{told:Int}(c:ni≤8)(rest:List (List UInt8)):∀ (b:List Ln) (i:Nat) (a:List Ln),(∀ l ∈ b,uW ni no l)→(a++b).length≤64→
  ix i ⟨kd,ni,no,4,told,a⟩ (b.map (gV ni)++rest)=ix (i+b.length) ⟨kd,ni,no,4,told,a++b⟩ rest
 | [],i,a,_,_=>by simp
 | l::b,i,a,h,hl=>by
  rw[List.map_cons,List.cons_append];rw[List.length_append,List.length_cons] at hl;have d:=DO (s:=⟨kd,ni,no,4,told,a⟩) rfl c (h l (.head _)) (by show a.length<64;omega);simp only at d;rw[gW,if_neg (DP ni l),d];simp only;rw[uJ c rest b (i+1) (a++[l]) (fun x e=>h x (.tail _ e)) (by simp;omega)];rw[List.length_cons,List.append_assoc,show i+1+b.length=i+(b.length+1) by omega,List.singleton_append]
theorem Gt {α:Type}(l:List α)(a b:α):(l++[a,b]).dropLast=l++[a]:=by
 rw[show l++[a,b]=(l++[a])++[b] by simp,List.dropLast_concat]
theorem zr {t:Tb}(c:j7 t):∃ s,cY (cP t)=.ok s∧s.tb=t:=by
 obtain ⟨kd,ni,no,ls⟩:=t;have i:=c.ni;have m:=c.no4;have g:=c.no1;have k:=c.few;have q:=c.kd;have o:=c.ls;have hlen:(cP ⟨kd,ni,no,ls⟩).length≤8000:=by
  have a:=rG c;have b:=mL i m _ o;unfold cP;simp only[List.length_append,List.length_cons,List.length_nil];simp only at b k;omega
 simp only at i m g k q o;have p:=zq c;have r:=qH (wd:=[46,105]) (lo:=0) (hi:=8) (n:=ni) (line:=I8 ⟨kd,ni,no,ls⟩) (by decide) (Nat.zero_le _) i rfl;have u:=qH (wd:=[46,111]) (lo:=1) (hi:=4) (n:=no) (line:=I9 ⟨kd,ni,no,ls⟩) (by decide) g m rfl;have v:=qH (wd:=[46,112]) (lo:=0) (hi:=64) (n:=ls.length) (line:=I_ ⟨kd,ni,no,ls⟩) (by decide) (Nat.zero_le _) k rfl;have w:qJ ((Is ⟨kd,ni,no,ls⟩).drop 6)=some kd:=pP (by omega) rfl fun j y e=>by
  have e:dS j=dS kd:=e;have:=vU (by omega) (by omega) e;omega
 have x:Lib.hasPrefix (Is ⟨kd,ni,no,ls⟩) [46,116,121,112,101,32]=true:=rfl;refine ⟨⟨kd,ni,no,5,ls.length,ls⟩,?_,rfl⟩;unfold cY;rw[if_neg (by omega)];have d:ix 0 uX (bM (cP ⟨kd,ni,no,ls⟩)).dropLast=.ok ⟨kd,ni,no,5,ls.length,ls⟩:=by
  rw[p,← List.append_assoc,Gt,List.append_assoc];show ix 0 uX (I8 _::I9 _::Is _::I_ _::(ls.map (gV ni)++[[46,101]]))=_;rw[gW,if_neg (by unfold I8;simp)];have t1:gr uX (I8 ⟨kd,ni,no,ls⟩)=.ok ⟨1,ni,0,1,-1,[]⟩:=by
   unfold gr;rw[if_pos (show uX.st=0 from rfl),r,if_pos (by omega),Int.toNat_natCast];rfl
  rw[t1];simp only;rw[gW,if_neg (by unfold I9;simp)];have t2:gr ⟨1,ni,0,1,-1,[]⟩ (I9 ⟨kd,ni,no,ls⟩)=.ok ⟨1,ni,no,2,-1,[]⟩:=by
   unfold gr;rw[if_neg (by show ¬ 1=0;decide),if_pos rfl,u,if_pos (by omega),Int.toNat_natCast]
  rw[t2];simp only;rw[gW,if_neg (by unfold Is;simp)];have t3:gr ⟨1,ni,no,2,-1,[]⟩ (Is ⟨kd,ni,no,ls⟩)=.ok ⟨kd,ni,no,3,-1,[]⟩:=by
   unfold gr;rw[if_neg (by show ¬ 2=0;decide),if_neg (by show ¬ 2=1;decide),if_neg (by show ¬ 2=5;decide)];unfold iw;rw[if_pos ⟨x,rfl⟩,w]
  rw[t3];simp only;rw[gW,if_neg (by unfold I_;simp)];have t4:gr ⟨kd,ni,no,3,-1,[]⟩ (I_ ⟨kd,ni,no,ls⟩)=.ok ⟨kd,ni,no,4,ls.length,[]⟩:=by
   unfold gr;rw[if_neg (by show ¬ 3=0;decide),if_neg (by show ¬ 3=1;decide),if_neg (by show ¬ 3=5;decide)];unfold iw;rw[if_neg (fun h=>absurd h.2 (by show ¬ 3=2;decide)),v,if_pos ⟨by omega,by show 3≤3;decide⟩]
  rw[t4];simp only;rw[uJ i _ ls _ [] o (by simpa using k),List.nil_append];rw[gW,if_neg (by decide)];have t5:gr ⟨kd,ni,no,4,ls.length,ls⟩ [46,101]=.ok ⟨kd,ni,no,5,ls.length,ls⟩:=by
   unfold gr;rw[if_neg (by show ¬ 4=0;decide),if_neg (by show ¬ 4=1;decide),if_neg (by show ¬ 4=5;decide)];unfold iw;rw[if_neg (fun h=>absurd h.2 (by show ¬ 4=2;decide)),if_neg (fun h=>absurd h.2 (by show ¬ 4≤3;decide))];unfold jg;rw[if_pos rfl,if_pos (.inr rfl)]
  rw[t5];simp only;unfold ix;rfl
 rw[d];simp only;unfold Bd;have f:(bM (cP ⟨kd,ni,no,ls⟩)).getLastD []=[]:=by
  rw[p,← List.append_assoc,show ∀ l:List (List UInt8),l++[[46,101],[]]=(l++[[46,101]])++[[]] from fun l=>by simp,List.getLastD_concat]
 rw[f,if_neg (by simp),if_neg (by show ¬ ¬ 5=5;decide)]
end Go.Proofs.YtpjihhgjbbihkaaGreatDoor
namespace Go.Proofs.YtpjihhgjbbihkaaGreatDoor
open Go.Proofs.Tryz
open Go.Dk
set_option maxRecDepth 100000
attribute [local irreducible] IntKind.wrap
def D6 (S:er)(m v o i:Nat):Bool:=(List.range i).all fun j=> !o.testBit j||yK m v (S.may.getD j 0) S.n
theorem Gu (S:er)(m v o i:Nat):D6 S m v o (i+1)=(D6 S m v o i&&(!o.testBit i||yK m v (S.may.getD i 0) S.n)):=by unfold D6;rw[List.range_succ,List.all_append];simp
def nq (S:er)(m v o:Nat):Bool:=zp m v o S.n S.on.length&&D6 S m v o S.may.length
theorem Nz:enters prog 14=true:=by kernel_rfl
set_option maxHeartbeats 1000000 in
theorem OY {S:er}(q:cF S)(m v o:Nat)(hm:m<256)(s:v<256)(y:o<256)(Bo:Option Addr)(co:Nat)(Bm:Option Addr)(cm:Nat)(w:World)(z:gi w S Bo co Bm cm) :
  bz prog 14 [sf S.n (.slice Bo S.on.length co) (.slice Bm S.may.length cm),mA m v o] w fun r w'=>r=.bool (nq S m v o)∧aT w w':=by
 refine ar (N:=38) func14 Nz rfl rfl rfl (by simp) ?_;have H:=Hp.aC w;have Q:=q.few;have hlen:=q.len;refine ak (γ:=Nat × Nat) (fun (g2,g3)=>[(2,(ah g2)),(3,(ah g3)),(4,.bool false)]) (fun (g2,g3) w'=>Hp w ab w' [an g3 50 (dc m v o),an g2 41 (bp S.n (.slice Bo S.on.length co) (.slice Bm S.may.length cm))] []) ?_ ?_
 ·refine H.box 41 _ (cs:=bp S.n (.slice Bo S.on.length co) (.slice Bm S.may.length cm)) rfl ?_;clear H;intro g2 F H;refine H.box 50 _ (cs:=dc m v o) rfl ?_;clear H;intro g3 B H;exact ⟨(g2,g3),⟨rfl,rfl,rfl,trivial⟩,H⟩
 clear H;rintro ⟨g2,g3⟩ u F H;refine aw (fun w'=>zp m v o S.n S.on.length=true∧Hp w ab w' [an g3 50 (dc m v o),an g2 41 (bp S.n (.slice Bo S.on.length co) (.slice Bm S.may.length cm))] []) ?_ ?_
 ·refine H.ai 0 rfl fo aX ?_;refine aa (iD _) ?_;refine H.load 1 rfl aE rfl ?_;refine aa (ie _) ?_;refine H.load 1 rfl eo rfl ?_;refine ay underlying39 ?_;refine aj (PH m v o S.n S.on.length hm s y (by omega) _) ?_;rintro _ B ⟨rfl,e⟩;replace H:=H.same e
  cases a:zp m v o S.n S.on.length with
  | false=>
   refine ag rfl ?_;exact ⟨by unfold nq;rw[a];rfl,H.keeps⟩
  | true=>
   refine ae rfl ?_;exact ⟨(),trivial,rfl,H⟩
 clear H;rintro ⟨⟩ u B ⟨a,H⟩;refine aw (fun w'=>D6 S m v o S.may.length=true∧Hp w ab w' [an g3 50 (dc m v o),an g2 41 (bp S.n (.slice Bo S.on.length co) (.slice Bm S.may.length cm))] []) ?_ ?_
 ·refine ax (γ:=Nat) (fun i=>[(5,.int .i64 (i:Int))]) (fun i w'=>(i≤S.may.length∧D6 S m v o i=true)∧Hp w ab w' [an g3 50 (dc m v o),an g2 41 (bp S.n (.slice Bo S.on.length co) (.slice Bm S.may.length cm))] []) (fun i=>S.may.length - i) 0 ⟨rfl,trivial⟩ ⟨⟨Nat.zero_le _,rfl⟩,H⟩ ?_;clear H;rintro i u G ⟨⟨hi,c⟩,H⟩;refine aa (fL _) ?_;refine H.load 1 rfl eo rfl ?_;refine ay underlying39 ?_;refine au (fun I=>?_) (fun I=>?_)
  ·obtain ⟨b,C,D⟩:=mB (l:=S.may) (j:=i) (by omega);obtain ⟨J,E,rfl⟩:=z.may.A (by omega);have hs:=Gu S m v o i;rw[c,Bool.true_and,List.getD_eq_getElem?_getD,C] at hs;refine aw (fun w'=>D6 S m v o (i+1)=true∧Hp w ab w' [an g3 50 (dc m v o),an g2 41 (bp S.n (.slice Bo S.on.length co) (.slice (some ⟨J,E,none⟩) S.may.length cm))] []) ?_ ?_
   ·refine H.draw eN (by kernel_rfl) ?_;clear H;intro K H;refine quiet _ (fun w H=>aa (dh _ _) af) ?_;refine quiet _ (fun w H=>H.load 0 rfl b7 rfl af) ?_;refine aj (OX o i y (by omega) _) ?_;rintro _ T ⟨rfl,e⟩;replace H:=H.same e;clear e;refine ⟨.inl H,?_⟩;have g:D6 S m v o (i+1)=false→nq S m v o=false:=fun h=>by
     have:D6 S m v o S.may.length=false:=by
      unfold D6 at h ⊢;rw[List.all_eq_false] at h ⊢;obtain ⟨x,M,t⟩:=h;exact ⟨x,List.mem_range.2 (by have:=List.mem_range.1 M;omega),t⟩
     unfold nq;rw[this,Bool.and_false]
    cases hbo:o.testBit i with
    | false=>
     rw[hbo] at hs
     iterate 13 refine ae rfl ?_
     exact ⟨(),trivial,hs,H⟩
    | true=>
     rw[hbo] at hs;have d:=fun u=>c40 m v b S.n hm s q.n8 u;rw[DL hm s] at d;refine ag rfl ?_;refine quiet _ (fun w H=>aa (fC _ _) af) ?_;refine ag rfl ?_;refine quiet _ (fun w H=>H.cB 0 rfl [.int .u8 (m:Int),.int .u8 (v:Int)] bl aJ (fun j u k=>by match j,k with | 0,k=>exact k | 1,k=>exact k) af) ?_;refine ag rfl ?_;refine quiet _ (fun w H=>aa (fL _) af) ?_;refine ag rfl ?_;refine quiet _ (fun w H=>H.load 1 rfl eo rfl af) ?_
     iterate 2 refine ag rfl ?_
     refine quiet _ (fun w H=>aq underlying39 av i rfl (by omega) (o':=E+i*4) (by omega) af) ?_;refine ag rfl ?_;refine quiet (sv b) (fun w H=>Sl.dj H z.may bW aD av i rfl C af) ?_;refine ag rfl ?_;refine quiet _ (fun w H=>aa (iD _) af) ?_;refine ag rfl ?_;refine quiet _ (fun w H=>H.load 1 rfl aE rfl af) ?_;refine ag rfl ?_;refine aj (d _) ?_;rintro _ O ⟨rfl,e⟩;replace H:=H.same e;clear e;refine ⟨.inl H,?_⟩
     iterate 2 refine ag rfl ?_
     refine aF (fun f=>?_) (fun f=>?_)
     ·refine ⟨congrArg Value.bool ?_,H.keeps⟩;rw[g (by rw[hs];simpa using f)]
     ·exact ⟨(),trivial,by rw[hs];simpa using f,H⟩
   ·clear H;rintro ⟨⟩ u K ⟨p,H⟩;exact ⟨i+1,by show S.may.length - (i+1)<S.may.length - i;omega,⟨up (by omega),trivial⟩,⟨by show i+1≤S.may.length;omega,p⟩,H⟩
  ·obtain rfl:i=S.may.length:=by omega
   exact ⟨(),trivial,c,H⟩
 clear H;rintro ⟨⟩ u G ⟨c,H⟩;exact ⟨by unfold nq;rw[a,c];rfl,H.keeps⟩
end Go.Proofs.YtpjihhgjbbihkaaGreatDoor
namespace Go.Dk
theorem Gv {m v i:Nat}(hm:m<256)(c:v<256)(hi:i<8):sT ((lits m v).set i 2)=fq m i∧sU ((lits m v).set i 2)=v &&&fq m i:=by
 have b:∀ j,j<8→((lits m v).set i 2).getD j 2=if i=j then 2 else lS m v j:=fun j a=>by
  rw[List.getD_eq_getElem?_getD,List.getElem?_set];by_cases h:i=j
  ·subst h;rw[if_pos rfl,if_pos (by rw[dT];exact hi),if_pos rfl];rfl
  ·rw[if_neg h,sS a,if_neg h];rfl
 constructor
 ·unfold sT;rw[List.length_set,dT];refine vX (lT hm i) _ fun j a=>?_;rw[b j a,qs hi j a];by_cases h:i=j
  ·simp[h]
  ·rw[if_neg h,decide_eq_false h];unfold lS
   cases m.testBit j <;> cases v.testBit j <;> simp
 ·unfold sU;rw[List.length_set,dT];refine vX (cf c _) _ fun j a=>?_;rw[b j a,Nat.testBit_and,qs hi j a];by_cases h:i=j
  ·simp[h]
  ·rw[if_neg h,decide_eq_false h];unfold lS
   cases m.testBit j <;> cases v.testBit j <;> simp
theorem Lo {m i:Nat}(hm:m<256)(hi:i<8)(h:m.testBit i=false):fq m i=m:=D8 (lT hm i) hm fun j a=>by
 rw[qs hi j a];by_cases e:i=j
 ·subst e;rw[h];rfl
 ·simp[e]
theorem It {o j:Nat}(h:o.testBit j=false):(o+2^j).testBit j=true:=by
 rw[Nat.add_comm,Nat.testBit_two_pow_add_eq,h];rfl
end Go.Dk
namespace Go.Proofs.YtpjihhgjbbihkaaGreatDoor
open Go.Proofs.Tryz
open Go.Dk
set_option maxRecDepth 100000
attribute [local irreducible] IntKind.wrap
theorem DQ {o i:Nat}:oo o i=true↔∃ j,j<i∧o.testBit j=true:=by unfold oo;rw[List.any_eq_true];simp
theorem Gw {o k i:Nat}:uF o k i=true↔∀ j,j<i→o.testBit j=true→j<k:=by
 unfold uF;rw[List.all_eq_true];refine forall_congr' fun j=>?_;rw[List.mem_range];refine imp_congr_right fun _=>?_
 cases o.testBit j <;> simp
theorem Gx {m v o n k:Nat}(h:o<256):zp m v o n k=true↔0<o∧o<2^k∧dr m v n=true:=by
 unfold zp;rw[Bool.and_eq_true,Bool.and_eq_true,DQ,Gw];constructor
 ·rintro ⟨c,⟨j,_,a⟩,d⟩;refine ⟨Nat.pos_of_ne_zero fun e=>by rw[e] at a;simp at a,Nat.lt_pow_two_of_testBit _ fun i hi=>?_,d⟩;rw[Bool.eq_false_iff];intro b;by_cases f:i<8
  ·have:=c i f b;omega
  ·rw[ew h (by omega)] at b;cases b
 ·rintro ⟨c,l,d⟩;refine ⟨fun j _ a=>?_,?_,d⟩
  ·refine Nat.lt_of_not_le fun p=>?_;rw[cK l p] at a;cases a
  ·refine Classical.byContradiction fun g=>absurd (iE.2 fun i=>?_) (Nat.ne_of_gt c);by_cases f:i<8
   ·rw[Bool.eq_false_iff];exact fun b=>g ⟨i,f,b⟩
   ·exact ew h (by omega)
theorem pQ {S:er}(e:cF S){m v o:Nat}(hm:m<256)(i:v<256)(k:o<256):nq S m v o=true↔jZ S (m,v,o):=by
 unfold nq;rw[Bool.and_eq_true,Gx k];constructor
 ·rintro ⟨⟨l,n,p⟩,a⟩;obtain ⟨_,_,f,g⟩:=(dJ hm i).1 p;rw[Int.toNat_natCast] at f;refine ⟨f,g,l,n,fun j b c d=>?_⟩;unfold D6 at a;rw[List.all_eq_true] at a;have:=a j (List.mem_range.2 (List.getElem?_eq_some_iff.1 d).1);rw[show o.testBit j=true from c,List.getD_eq_getElem?_getD,d] at this;exact (oR e.n8 f g).1 (by simpa using this)
 ·intro h;refine ⟨⟨h.some,h.few,(h.ok e).right⟩,?_⟩;unfold D6;rw[List.all_eq_true];intro j c;have c:=List.mem_range.1 c
  cases d:o.testBit j with
  | false=>rfl
  | true=>
   rw[List.getD_eq_getElem?_getD,List.getElem?_eq_getElem c];simpa using (oR e.n8 h.lt h.sub).2 (h.qz j _ d (List.getElem?_eq_getElem c))
theorem Gy {S:er}(b:cF S){m v o:Nat}(h:dX S (m,v,o)){i:Nat}(hi:i<S.n)(d:m.testBit i=true):nq S (fq m i) (v &&&fq m i) o=false:=by
 have a:=(h.qz b).ok b;rw[Bool.eq_false_iff];intro e;have c:=(pQ b (lT a.m i) (cf a.v _) a.o).1 e;exact h.cube.2 i hi d ((qy (x:=(fq m i,v &&&fq m i,o)) b c.some c.few).1 c)
theorem DR {S:er}(a:cF S){m v o:Nat}(h:dX S (m,v,o)){j:Nat}(g:j<S.on.length)(e:o.testBit j=false):nq S m v (o+2^j)=false:=by
 have b:=(h.qz a).ok a;have i:o<16:=Nat.lt_of_lt_of_le b.few (show 2^S.on.length≤2^4 from Nat.pow_le_pow_right (by decide) a.few);have l:2^j≤2^3:=Nat.pow_le_pow_right (by decide) (by have:=a.few;omega);rw[Bool.eq_false_iff];intro k;have d:=(pQ a b.m b.v (by omega)).1 k;have c:j<S.may.length:=by rw[a.len];exact g
 have f:=(n6 a d.lt d.sub j).2 ⟨_,List.getElem?_eq_getElem c,d.qz j _ (It e) (List.getElem?_eq_getElem c)⟩;rw[show iI S m v=o from h.outs,e] at f
 cases f
theorem ints_set (l:List Nat)(i x:Nat):(ints l).set i (.int .i64 (x:Int))=ints (l.set i x):=by simp[ints,List.map_set]
theorem Bi {m v o:Nat}{x:Int}{w:World}{kk:Value→World→Prop}(a:x=(o:Int))(h:kk (mA m v o) w):b6 prog 50 [(0,cv m v),(1,.int .u8 x)] w kk:=by
 subst a;exact lH h
theorem NA:enters prog 15=true:=by kernel_rfl
set_option maxHeartbeats 2000000 in
theorem PI {S:er}(c:cF S)(m v o:Nat)(e:dX S (m,v,o))(Bo:Option Addr)(co:Nat)(Bm:Option Addr)(cm:Nat)(w:World)(Q:gi w S Bo co Bm cm) :
  bz prog 15 [sf S.n (.slice Bo S.on.length co) (.slice Bm S.may.length cm),mA m v o] w fun r w'=>r=mA m v o∧aT w w':=by
 refine ar (N:=62) func15 NA rfl rfl rfl (by simp) ?_;have H:=Hp.aC w;have f:=(e.qz c).ok c;have hm:=f.m;have l:=f.v;have F:=f.o;have h4:=c.few;have h8:=c.n8;have V:o<16:=Nat.lt_of_lt_of_le f.few (show 2^S.on.length≤2^4 from Nat.pow_le_pow_right (by decide) c.few);simp only at hm l F;refine ak (γ:=Nat × Nat × Nat) (fun (g2,g3,g4)=>[(2,(ah g2)),(3,(ah g3)),(4,(ah g4))]) (fun (g2,g3,g4) w'=>Hp w ab w' [an g4 50 (dc 0 0 0),an g3 50 (dc m v o),an g2 41 (bp S.n (.slice Bo S.on.length co) (.slice Bm S.may.length cm))] []) ?_ ?_
 ·refine H.box 41 _ (cs:=bp S.n (.slice Bo S.on.length co) (.slice Bm S.may.length cm)) rfl ?_;clear H;intro g2 X H;refine H.box 50 _ (cs:=dc m v o) rfl ?_;clear H;intro g3 Y H;refine H.alloc 50 (cs:=dc 0 0 0) ic rfl ?_;clear H;intro g4 T H;exact ⟨(g2,g3,g4),⟨rfl,rfl,rfl,trivial⟩,H⟩
 clear H;rintro ⟨g2,g3,g4⟩ u X H;refine aw (fun w'=>Hp w ab w' [an g4 50 (dc 0 0 0),an g3 50 (dc m v o),an g2 41 (bp S.n (.slice Bo S.on.length co) (.slice Bm S.may.length cm))] []) ?_ ?_
 ·refine ax (γ:=Nat) (fun i=>[(5,.int .i64 (i:Int))]) (fun i w'=>i≤S.n∧Hp w ab w' [an g4 50 (dc 0 0 0),an g3 50 (dc m v o),an g2 41 (bp S.n (.slice Bo S.on.length co) (.slice Bm S.may.length cm))] []) (fun i=>S.n - i) 0 ⟨rfl,trivial⟩ ⟨Nat.zero_le _,H⟩ ?_;clear H;rintro i u T ⟨hi,H⟩;refine aa (iD _) ?_;refine H.load 2 rfl aE rfl ?_;refine au (fun G=>?_) (fun G=>?_)
  ·have I:i<S.n:=by omega
   obtain ⟨Z,eV⟩:=Gv (m:=m) (v:=v) (i:=i) hm l (by omega);refine aw (fun w'=>Hp w ab w' [an g4 50 (dc 0 0 0),an g3 50 (dc m v o),an g2 41 (bp S.n (.slice Bo S.on.length co) (.slice Bm S.may.length cm))] []) ?_ ?_
   ·refine ak (γ:=Nat × Nat) (fun (d,cl)=>[(6,.slice (some ⟨d,0,none⟩) 8 cl)]) (fun (d,cl) w'=>Hp w ab w' [own 3 1 (.slice (some ⟨d,0,none⟩) 8 cl) 8 (ints (lits m v)),an g4 50 (dc 0 0 0),an g3 50 (dc m v o),an g2 41 (bp S.n (.slice Bo S.on.length co) (.slice Bm S.may.length cm))] []) ?_ ?_
    ·refine aa (fC _ _) ?_;refine H.cB 1 rfl [.int .u8 (m:Int),.int .u8 (v:Int)] bl aJ (fun j u b=>by match j,b with | 0,b=>exact b | 1,b=>exact b) ?_;refine aj (N_ m v hm l _) ?_;rintro _ E ⟨A,cl,rfl,hn⟩;replace H:=H.bq hn;obtain ⟨d,rfl⟩:=H.kM 0 rfl (by omega);exact ⟨(d,cl),⟨rfl,trivial⟩,H⟩
    clear H;rintro ⟨d,cl⟩ u E H;refine aw (fun w'=>Hp w ab w' [own 3 1 (.slice (some ⟨d,0,none⟩) 8 cl) 8 (ints ((lits m v).set i 2)),an g4 50 (dc 0 0 0),an g3 50 (dc m v o),an g2 41 (bp S.n (.slice Bo S.on.length co) (.slice Bm S.may.length cm))] []) ?_ ?_
    ·refine aq underlying75 a_ i rfl (by omega) (o':=i) (by omega) ?_;refine H.cL 0 rfl a_ (by rw[jX,dT];omega) rfl ?_;clear H;intro p H;exact ⟨(),trivial,by rw[← ints_set];exact H⟩
    clear H;rintro ⟨⟩ u p H;refine ak (γ:=Nat) (fun g7=>[(7,(ah g7))]) (fun g7 w'=>Hp w ab w' [an g7 50 (dc (fq m i) (v &&&fq m i) o),an g4 50 (dc 0 0 0),an g3 50 (dc m v o),an g2 41 (bp S.n (.slice Bo S.on.length co) (.slice Bm S.may.length cm))] []) ?_ ?_
    ·have s:((lits m v).set i 2).length=8:=by rw[List.length_set,dT]
     have g:=fun u (h:Sl u (.slice (some ⟨d,0,none⟩) 8 cl) 1 8 (ints ((lits m v).set i 2)))=>Oa ((lits m v).set i 2) (by omega) (fun x hx=>by
      rcases List.mem_or_eq_of_mem_set hx with h | h
      ·obtain ⟨j,_,rfl⟩:=List.mem_map.1 h;exact Bu m v j
      ·omega) (some ⟨d,0,none⟩) cl u (by rw[s];exact h)
     rw[s,Z,eV] at g;refine gH (fun u=>Hp w ab u [own 3 1 (.slice (some ⟨d,0,none⟩) 8 cl) 8 (ints ((lits m v).set i 2)),an g4 50 (dc 0 0 0),an g3 50 (dc m v o),an g2 41 (bp S.n (.slice Bo S.on.length co) (.slice Bm S.may.length cm))] []) [([1,5,6],[0,2,3,1,4,5,6]),([5,1,6],[0,2,3,5,1,4,6])] eN (by kernel_rfl) (H.same (aS.drew _)) ?_;replace H:=H.same (aS.drew _);generalize p.drew=J at H;intro z U;simp only[List.mem_cons,List.not_mem_nil,or_false] at U;rcases U with rfl | rfl
     ·refine quiet _ (fun w H=>aa (dh _ _) af) ?_;refine quiet _ (fun w H=>H.load 2 rfl b7 rfl af) ?_;refine aj (g _ (bB (H.get 0 rfl))) ?_;rintro _ t ⟨rfl,a⟩;replace H:=H.same a;clear a;refine ⟨.inl H,?_⟩;refine quiet _ (fun w H=>lH af) ?_;refine H.alloc 50 (cs:=dc 0 0 0) ic rfl ?_;clear H;intro g14 w14 H;refine ⟨.inl H.forget,?_⟩;refine H.storeAll (cs':=dc (fq m i) (v &&&fq m i) o) 0 rfl aX rfl (dA _ _ _) ?_;clear H;intro K H;refine ⟨.inl H.forget,?_⟩;exact ⟨g14,⟨rfl,trivial⟩,H.b9 [0,2,3,4] (by decide) rfl⟩
     ·refine quiet _ (fun w H=>aa (dh _ _) af) ?_;refine quiet _ (fun w H=>H.load 2 rfl b7 rfl af) ?_;refine H.alloc 50 (cs:=dc 0 0 0) ic rfl ?_;clear H;intro g10 t H;refine ⟨.inl H.forget,?_⟩;refine aj (g _ (bB (H.get 1 rfl))) ?_;rintro _ J ⟨rfl,a⟩;replace H:=H.same a;clear a;refine ⟨.inl H.forget,?_⟩;refine quiet _ (fun w H=>lH af) ?_;refine H.storeAll (cs':=dc (fq m i) (v &&&fq m i) o) 0 rfl aX rfl (dA _ _ _) ?_;clear H;intro K H;refine ⟨.inl H.forget,?_⟩;exact ⟨g10,⟨rfl,trivial⟩,H.b9 [0,2,3,4] (by decide) rfl⟩
    clear H;rintro g7 u w6 H;have g:=fun u h=>OY c (fq m i) (v &&&fq m i) o (lT hm i) (cf l _) F Bo co Bm cm u h;refine H.ai 3 rfl dz bH ?_;refine H.ai 0 rfl fo aX ?_;refine aj (g _ (Q.same H.keeps)) ?_;clear g;rintro _ w7 ⟨rfl,a⟩;replace H:=H.same a;clear a;refine aF (fun y=>?_) (fun y=>?_)
    ·have k:m.testBit i=false:=by
      rw[Bool.eq_false_iff];intro k;rw[Gy c e I k] at y
      cases y
     have B:v &&&m=v:=(e.qz c).sub;rw[Lo hm (by omega) k,B] at H;refine H.ai 0 rfl fo aX ?_;refine H.storeAll 2 rfl aX rfl (dA _ _ _) ?_;clear H;intro w8 H;exact ⟨(),trivial,H.forget⟩
    ·exact ⟨(),trivial,H.forget⟩
   ·clear H;rintro ⟨⟩ u E H;exact ⟨i+1,by show S.n - (i+1)<S.n - i;omega,⟨up (by omega),trivial⟩,by show i+1≤S.n;omega,H⟩
  ·exact ⟨(),trivial,H⟩
 clear H;rintro ⟨⟩ u Y H;refine ak (γ:=Unit) (fun _=>[(8,.int .u8 1)]) (fun _ w'=>Hp w ab w' [an g4 50 (dc 0 0 0),an g3 50 (dc m v o),an g2 41 (bp S.n (.slice Bo S.on.length co) (.slice Bm S.may.length cm))] []) ⟨(),⟨rfl,trivial⟩,H⟩ ?_;clear H;rintro ⟨⟩ u T H;refine aw (fun w'=>Hp w ab w' [an g4 50 (dc 0 0 0),an g3 50 (dc m v o),an g2 41 (bp S.n (.slice Bo S.on.length co) (.slice Bm S.may.length cm))] []) ?_ ?_
 ·refine ax (γ:=Nat) (fun j=>[(9,.int .i64 (j:Int)),(8,.int .u8 ((2^j:Nat):Int))]) (fun j w'=>j≤S.on.length∧Hp w ab w' [an g4 50 (dc 0 0 0),an g3 50 (dc m v o),an g2 41 (bp S.n (.slice Bo S.on.length co) (.slice Bm S.may.length cm))] []) (fun j=>S.on.length - j) 0 ⟨rfl,rfl,trivial⟩ ⟨Nat.zero_le _,H⟩ ?_;clear H;rintro j u E ⟨b,H⟩;refine aa (ie _) ?_;refine H.load 2 rfl eo rfl ?_;refine ay underlying39 ?_;refine au (fun G=>?_) (fun G=>?_)
  ·have M:j<S.on.length:=by omega
   have C:2^j≤2^3:=Nat.pow_le_pow_right (by decide) (by omega);have D:(2^(j+1):Nat)=2^j*2:=Nat.pow_succ 2 j;refine ak (γ:=Unit) (fun _=>[(8,.int .u8 ((2^(j+1):Nat):Int))]) (fun _ w'=>Hp w ab w' [an g4 50 (dc 0 0 0),an g3 50 (dc m v o),an g2 41 (bp S.n (.slice Bo S.on.length co) (.slice Bm S.may.length cm))] []) ?_ ?_
   ·refine aw (fun w'=>Hp w ab w' [an g4 50 (dc 0 0 0),an g3 50 (dc m v o),an g2 41 (bp S.n (.slice Bo S.on.length co) (.slice Bm S.may.length cm))] []) ?_ ?_
    ·refine aa (dh _ _) ?_;refine H.load 1 rfl b7 rfl ?_;refine aj (OX o j F (by omega) _) ?_;rintro _ p ⟨rfl,a⟩;replace H:=H.same a;clear a
     cases y:o.testBit j with
     | true=>
      iterate 11 refine ae rfl ?_
      exact ⟨(),trivial,H⟩
     | false=>
      have g:=fun u h=>OY c m v (o+2^j) hm l (by omega) Bo co Bm cm u h;rw[DR c e M y] at g;have O:IntKind.u8.wrap ((o:Int)+((2^j:Nat):Int))=((o+2^j:Nat):Int):=by
       generalize 2^j=q at C ⊢;simp only[IntKind.wrap_u8];omega
      refine ag rfl ?_;refine H.ai 2 rfl dz bH ?_;refine ag rfl ?_;refine aa (fC _ _) ?_;refine ag rfl ?_;refine H.cB 1 rfl [.int .u8 (m:Int),.int .u8 (v:Int)] bl aJ (fun j u b=>by match j,b with | 0,b=>exact b | 1,b=>exact b) ?_;refine ag rfl ?_;refine aa (dh _ _) ?_;refine ag rfl ?_;refine H.load 1 rfl b7 rfl ?_
      iterate 3 refine ag rfl ?_
      refine Bi O ?_;refine ag rfl ?_;refine aj (g _ (Q.same H.keeps)) ?_;rintro _ t ⟨rfl,a⟩;replace H:=H.same a;clear a;refine ag rfl ?_;refine ae rfl ?_;exact ⟨(),trivial,H⟩
    clear H;rintro ⟨⟩ u p H;exact ⟨(),⟨congrArg (Value.int .u8) (by rw[D];generalize 2^j=q at C;simp only[IntKind.wrap_u8];omega),trivial⟩,H⟩
   ·clear H;rintro ⟨⟩ u p H;exact ⟨j+1,by show S.on.length - (j+1)<S.on.length - j;omega,⟨up (by omega),rfl,trivial⟩,by show j+1≤S.on.length;omega,H⟩
  ·exact ⟨(),trivial,H⟩
 clear H;rintro ⟨⟩ u E H;refine H.ai 1 rfl fo aX ?_;refine H.storeAll 0 rfl aX rfl (dA _ _ _) ?_;clear H;intro w8 H;refine H.ai 0 rfl fo aX ?_;exact ⟨rfl,rfl,H.keeps⟩
end Go.Proofs.YtpjihhgjbbihkaaGreatDoor
namespace Go.Dk
def mN (os:List Nat)(k:Nat):Nat:=mkSet (fun j=>os.getD j 0==1) k
def lZ (l:Ln):Rw:=(l.1,l.2.1,mN l.2.2 l.2.2.length)
theorem Iu {n k:Nat}{x:Rw}(h:im n k x):lZ (hZ k x)=x:=by
 obtain ⟨m,v,o⟩:=x;have b:o<2^k:=h.few;unfold lZ hZ;refine Prod.ext rfl (Prod.ext rfl ?_);show mN (gq k o) (gq k o).length=o;rw[np];unfold mN;apply Nat.eq_of_testBit_eq;intro j;rw[bZ];by_cases a:j<k
 ·have c:(gq k o).getD j 0=(o / 2^j) &&&1:=by
   unfold gq jJ;simp[List.getD_eq_getElem?_getD,a]
  rw[c,decide_eq_true a,Bool.true_and,Nat.testBit_eq_decide_div_mod_eq,Nat.and_one_is_mod];by_cases hm:o / 2^j % 2=1
  ·rw[hm];rfl
  ·rw[decide_eq_false hm,beq_eq_false_iff_ne];exact hm
 ·rw[decide_eq_false a,Bool.false_and,cK b (by omega)]
theorem Iv {n k:Nat}{R:List Rw}(h:∀ x ∈ R,im n k x):(R.map (hZ k)).map lZ=R:=by
 rw[List.map_map];have:R.map (lZ ∘ hZ k)=R.map id:=List.map_congr_left fun x a=>Iu (h x a);rw[this,List.map_id]
end Go.Dk
namespace Go.Proofs.YtpjihhgjbbihkaaGreatDoor
open Go.Proofs.Tryz
open Go.Dk
set_option maxRecDepth 100000
attribute [local irreducible] IntKind.wrap
theorem NB:enters prog 13=true:=by kernel_rfl
theorem Gz {m v:Nat}{w:World}{kk:Value→World→Prop}(h:kk (mA m v 0) w):b6 prog 50 [(0,cv m v)] w kk:=bx (fun w=>by kernel_rfl) h
set_option maxHeartbeats 2000000 in
theorem PJ {t:Tb}(p:j7 t)(v:Value)(w:World)(S:jm w v t.ls):bz prog 13 [sN t.kd t.ni t.no v] w fun r w'=>∃ B d,r=.slice B t.ls.length d∧eW w w' (own 50 3 (.slice B t.ls.length d) t.ls.length (flat bd (t.ls.map lZ))):=by
 refine ar (N:=55) func13 NB rfl rfl rfl (by simp) ?_;have H:=Hp.aC w;obtain ⟨s,cl,hs,rfl,f,T,D⟩:=S.uq;have K:=p.few;have M:=p.no4;refine ak (γ:=Nat) (fun g1=>[(1,(ah g1)),(2,.slice none 0 0)]) (fun g1 w'=>Hp w ab w' [an g1 33 (cI t.kd t.ni t.no (.slice s t.ls.length cl))] []) ?_ ?_
 ·refine H.box 33 _ (cs:=cI t.kd t.ni t.no (.slice s t.ls.length cl)) rfl ?_;clear H;intro g1 U H;exact ⟨g1,⟨rfl,rfl,trivial⟩,H⟩
 clear H;rintro g1 u U H;refine ak (γ:=Unit) (fun _=>[(3,.slice none 0 0)]) (fun _ w'=>Hp w ab w' [an g1 33 (cI t.kd t.ni t.no (.slice s t.ls.length cl))] []) ⟨(),⟨rfl,trivial⟩,H⟩ ?_;clear H;rintro ⟨⟩ u w2 H;replace H:=H.bC 50 3;refine ak (γ:=Option Addr × Nat) (fun (B,d)=>[(3,.slice B t.ls.length d)]) (fun (B,d) w'=>Hp w ab w' [own 50 3 (.slice B t.ls.length d) t.ls.length (flat bd ((t.ls.take t.ls.length).map lZ)),an g1 33 (cI t.kd t.ni t.no (.slice s t.ls.length cl))] []) ?_ ?_
 ·refine ax (γ:=Nat × Option Addr × Nat) (fun (i,B,d)=>[(4,.int .i64 (i:Int)),(3,.slice B i d)]) (fun (i,B,d) w'=>i≤t.ls.length∧Hp w ab w' [own 50 3 (.slice B i d) i (flat bd ((t.ls.take i).map lZ)),an g1 33 (cI t.kd t.ni t.no (.slice s t.ls.length cl))] []) (fun (i,_)=>t.ls.length - i) (0,none,0) ⟨rfl,rfl,trivial⟩ ⟨Nat.zero_le _,H⟩ ?_;clear H;rintro ⟨i,B,d⟩ u V ⟨hi,H⟩;refine aa (dC _ _) ?_;refine H.load 1 rfl fQ rfl ?_;refine ay underlying31 ?_;refine au (fun X=>?_) (fun X=>?_)
  ·have b:i<t.ls.length:=by omega
   obtain ⟨l,O,E⟩:∃ l,t.ls[i]?=some l∧l ∈ t.ls:=⟨_,List.getElem?_eq_getElem b,List.getElem_mem b⟩;obtain ⟨B',c',h,x⟩:=D i l O;have y:=p.ls l E;have Y:=y.len;obtain ⟨s1,s2,s3⟩:=lb p.ni y;obtain ⟨m,c,rfl⟩:=f.A (by omega);have F:(t.ls.take (i+1)).map lZ=(t.ls.take i).map lZ++[lZ l]:=by rw[List.take_add_one,O,List.map_append];rfl
   refine ak (γ:=Option Addr × Nat) (fun (B,d)=>[(3,.slice B (i+1) d)]) (fun (B,d) w'=>Hp w ab w' [own 50 3 (.slice B (i+1) d) (i+1) (flat bd ((t.ls.take (i+1)).map lZ)),an g1 33 (cI t.kd t.ni t.no (.slice (some ⟨m,c,none⟩) t.ls.length cl))] []) ?_ ?_
   ·refine ak (γ:=Nat) (fun g5=>[(5,(ah g5))]) (fun g5 w'=>Hp w ab w' (an g5 50 (dc l.1 l.2.1 0)::[own 50 3 (.slice B i d) i (flat bd ((t.ls.take i).map lZ)),an g1 33 (cI t.kd t.ni t.no (.slice (some ⟨m,c,none⟩) t.ls.length cl))]) []) ?_ ?_
    ·refine aa (dC _ _) ?_;refine H.load 1 rfl fQ rfl ?_;refine aq underlying31 cO i rfl b (o':=c+i*3) (by omega) ?_;refine aa (Co _ _) ?_;refine Sl.Cn H f e8 (cc l.1 l.2.1).toList bl aJ i (by omega) h (fun j u n=>by match j,n with | 0,n=>exact n | 1,n=>exact n | j+2,n=>simp[cc] at n) ?_;refine Gz ?_;refine H.alloc 50 (cs:=dc 0 0 0) ic rfl ?_;clear H;intro g5 Z H;refine H.storeAll (cs':=dc l.1 l.2.1 0) 0 rfl aX rfl (dA _ _ _) ?_;clear H;intro w6 H;exact ⟨g5,⟨rfl,trivial⟩,H⟩
    clear H;rintro g5 u Z H;refine ak (γ:=Unit) (fun _=>[(6,.int .u8 1)]) (fun _ w'=>Hp w ab w' (an g5 50 (dc l.1 l.2.1 0)::[own 50 3 (.slice B i d) i (flat bd ((t.ls.take i).map lZ)),an g1 33 (cI t.kd t.ni t.no (.slice (some ⟨m,c,none⟩) t.ls.length cl))]) []) ⟨(),⟨rfl,trivial⟩,H⟩ ?_;clear H;rintro ⟨⟩ u w6 H;refine aw (fun w'=>Hp w ab w' (an g5 50 (dc l.1 l.2.1 (mN l.2.2 l.2.2.length))::[own 50 3 (.slice B i d) i (flat bd ((t.ls.take i).map lZ)),an g1 33 (cI t.kd t.ni t.no (.slice (some ⟨m,c,none⟩) t.ls.length cl))]) []) ?_ ?_
    ·refine ax (γ:=Nat) (fun k=>[(7,.int .i64 (k:Int)),(6,.int .u8 ((2^k:Nat):Int))]) (fun k w'=>k≤l.2.2.length∧Hp w ab w' (an g5 50 (dc l.1 l.2.1 (mN l.2.2 k))::[own 50 3 (.slice B i d) i (flat bd ((t.ls.take i).map lZ)),an g1 33 (cI t.kd t.ni t.no (.slice (some ⟨m,c,none⟩) t.ls.length cl))]) []) (fun k=>l.2.2.length - k) 0 ⟨rfl,rfl,trivial⟩ ⟨Nat.zero_le _,H⟩ ?_;clear H;rintro k u w7 ⟨hk,H⟩;obtain ⟨gO,oO,rfl⟩:=x.A (by have:=p.no1;omega);refine aa (dC _ _) ?_;refine H.load 2 rfl fQ rfl ?_;refine aq underlying31 cO i rfl b (o':=c+i*3) (by omega) ?_;refine aa (xA _ _) ?_;refine Sl.xz H f e8 fl i 2 (by omega) h rfl ?_;refine ay underlying75 ?_;refine au (fun h8=>?_) (fun h8=>?_)
     ·have a:k<l.2.2.length:=by omega
      have z:2^k≤2^3:=Nat.pow_le_pow_right (by decide) (by omega);have C:(2^(k+1):Nat)=2^k*2:=Nat.pow_succ 2 k;have G:mN l.2.2 k<2^k:=ft _ _;have hx:l.2.2[k]?=some (l.2.2[k]'a):=List.getElem?_eq_getElem a;have g:mN l.2.2 (k+1)=mN l.2.2 k+if l.2.2[k]'a==1 then 2^k else 0:=by
       show mkSet _ (k+1)=_;unfold mkSet;rw[List.getD_eq_getElem?_getD,hx];rfl
      refine ak (γ:=Unit) (fun _=>[(6,.int .u8 ((2^(k+1):Nat):Int))]) (fun _ w'=>Hp w ab w' (an g5 50 (dc l.1 l.2.1 (mN l.2.2 (k+1)))::[own 50 3 (.slice B i d) i (flat bd ((t.ls.take i).map lZ)),an g1 33 (cI t.kd t.ni t.no (.slice (some ⟨m,c,none⟩) t.ls.length cl))]) []) ?_ ?_
      ·refine aw (fun w'=>Hp w ab w' (an g5 50 (dc l.1 l.2.1 (mN l.2.2 (k+1)))::[own 50 3 (.slice B i d) i (flat bd ((t.ls.take i).map lZ)),an g1 33 (cI t.kd t.ni t.no (.slice (some ⟨m,c,none⟩) t.ls.length cl))]) []) ?_ ?_
       ·refine aa (dC _ _) ?_;refine H.load 2 rfl fQ rfl ?_;refine aq underlying31 cO i rfl b (o':=c+i*3) (by omega) ?_;refine aa (xA _ _) ?_;refine Sl.xz H f e8 fl i 2 (by omega) h rfl ?_;refine aq underlying75 a_ k rfl (by omega) (o':=oO+k) (by omega) ?_;refine aB aE (((x.same H.keeps).cell k (by omega)).trans (eZ (by omega))) ?_;refine ck (fun he=>?_) (fun he=>?_)
        ·have o:(l.2.2[k]'a==1)=true:=by rw[beq_iff_eq];have he:(((l.2.2[k]'a:Nat):Int)=1):=he;omega
         rw[o,if_pos rfl] at g;have I:IntKind.u8.wrap (((mN l.2.2 k:Nat):Int)+((2^k:Nat):Int))=((mN l.2.2 (k+1):Nat):Int):=by
          rw[g];generalize 2^k=q at z G ⊢;simp only[IntKind.wrap_u8];omega
         refine aa (dh _ _) ?_;refine H.load 0 rfl b7 rfl ?_;refine aa (dh _ _) ?_;refine H.store 0 rfl kT (Nat.le_of_ble_eq_true rfl) rfl ?_;clear H;intro w11 H;rw[I] at H;exact ⟨(),trivial,H⟩
        ·have o:(l.2.2[k]'a==1)=false:=by rw[beq_eq_false_iff_ne];intro e;exact he (by rw[e];rfl)
         rw[o,if_neg (by decide),Nat.add_zero] at g;rw[g];exact ⟨(),trivial,H⟩
       clear H;rintro ⟨⟩ u Q H;exact ⟨(),⟨congrArg (Value.int .u8) (by rw[C];generalize 2^k=q at z;simp only[IntKind.wrap_u8];omega),trivial⟩,H⟩
      ·clear H;rintro ⟨⟩ u Q H;exact ⟨k+1,by show l.2.2.length - (k+1)<l.2.2.length - k;omega,⟨up (by omega),rfl,trivial⟩,by show k+1≤l.2.2.length;omega,H⟩
     ·obtain rfl:k=l.2.2.length:=by omega
      exact ⟨(),trivial,H⟩
    clear H;rintro ⟨⟩ u w7 H;refine H.ai 0 rfl fo aX ?_;refine H.bk zx (cs:=dc l.1 l.2.1 (mN l.2.2 l.2.2.length)) (by decide) (by decide) (by kernel_rfl) ?_;clear H;intro gx Q H;refine H.aG 2 0 zx rfl rfl rfl (dA _ _ _) (by omega) (by omega) ?_;clear H;intro J d2 w9 H;have e2:flat bd ((t.ls.take (i+1)).map lZ)=flat bd ((t.ls.take i).map lZ)++bd (lZ l):=by rw[F];exact dD ..
    refine ⟨(J,d2),⟨rfl,trivial⟩,?_⟩;rw[e2];exact H.b9 [2,3] (by decide) rfl
   ·clear H;rintro ⟨J,d2⟩ u w4 H;exact ⟨(i+1,J,d2),by show t.ls.length - (i+1)<t.ls.length - i;omega,⟨up (by omega),rfl,trivial⟩,by show i+1≤t.ls.length;omega,H⟩
  ·obtain rfl:i=t.ls.length:=by omega
   exact ⟨(B,d),⟨rfl,trivial⟩,H⟩
 clear H;rintro ⟨B,d⟩ u V H;rw[List.take_length] at H;exact ⟨B,d,rfl,H.out⟩
theorem GA {n:Nat}(c:n≤8){l:List Rw}{k:Nat}(d:∀ x ∈ l,im n k x){p j:Nat}(e:p<2^n):xB l p j=(hK n j l).testBit p:=by
 rw[Bool.eq_iff_iff,gQ];unfold xB;rw[List.any_eq_true];refine exists_congr fun x=>and_congr_right fun f=>?_;have a:=d x f;have b:=((dJ a.m a.v).1 a.right).2.2.2;rw[Bool.and_eq_true,bP c,vY a.m b,beq_iff_eq];exact and_congr_right fun _=>⟨fun h=>⟨e,h⟩,fun h=>h.2⟩
theorem NC:enters prog 35=true:=by kernel_rfl
set_option maxHeartbeats 4000000 in
theorem PK {t:Tb}(J:j7 t)(v:Value)(w:World)(C:jm w v t.ls):bz prog 35 [sN t.kd t.ni t.no v] w fun r w'=>r=.bool true∧aT w w':=by
 refine ar (N:=95) func35 NC rfl rfl rfl (by simp) ?_;have H:=Hp.aC w;obtain ⟨kd,ni,no,ls⟩:=t;obtain ⟨K,D,M,O,Q,E⟩:=J;simp only at K D M O Q E C ⊢;obtain ⟨B,c,hs,rfl,k,S,p⟩:=C.uq;refine ak (γ:=Nat) (fun g1=>[(1,(ah g1)),(2,.bool false)]) (fun g1 w'=>Hp w ab w' [an g1 33 (cI kd ni no (.slice B ls.length c))] []) ?_ ?_
 ·refine H.box 33 _ (cs:=cI kd ni no (.slice B ls.length c)) rfl ?_;clear H;intro g1 T H;exact ⟨g1,⟨rfl,rfl,trivial⟩,H⟩
 clear H;rintro g1 u T H;refine aw (fun w'=>Hp w ab w' [an g1 33 (cI kd ni no (.slice B ls.length c))] []) ?_ ?_
 ·refine aa (cC _ _) ?_;refine H.load 0 rfl aE rfl ?_;refine ae rfl ?_;refine aa (cC _ _) ?_;refine ae rfl ?_;refine H.load 0 rfl aE rfl ?_
  iterate 2 refine ae rfl ?_
  refine ae (decide_eq_false (by omega)) ?_;refine aa (dY _ _) ?_;refine ae (decide_eq_false (by omega)) ?_;refine H.load 0 rfl aE rfl ?_
  iterate 2 refine ae (decide_eq_false (by omega)) ?_
  refine ae rfl ?_;refine aa (dY _ _) ?_;refine ae rfl ?_;refine H.load 0 rfl aE rfl ?_
  iterate 2 refine ae rfl ?_
  refine ae (decide_eq_false (by omega)) ?_;refine aa (eP _ _) ?_;refine ae (decide_eq_false (by omega)) ?_;refine H.load 0 rfl aE rfl ?_
  iterate 3 refine ae (decide_eq_false (by omega)) ?_
  refine aa (eP _ _) ?_;refine ae (decide_eq_false (by omega)) ?_;refine H.load 0 rfl aE rfl ?_
  iterate 3 refine ae (decide_eq_false (by omega)) ?_
  refine aa (dC _ _) ?_;refine ae (decide_eq_false (by omega)) ?_;refine H.load 0 rfl fQ rfl ?_;refine ae (decide_eq_false (by omega)) ?_;refine ay underlying31 ?_
  iterate 3 refine ae (decide_eq_false (by omega)) ?_
  exact ⟨(),trivial,H⟩
 clear H;rintro ⟨⟩ u w2 H;refine aw (fun w'=>Hp w ab w' [an g1 33 (cI kd ni no (.slice B ls.length c))] []) ?_ ?_
 ·refine ax (γ:=Nat) (fun i=>[(3,.int .i64 (i:Int))]) (fun i w'=>i≤ls.length∧Hp w ab w' [an g1 33 (cI kd ni no (.slice B ls.length c))] []) (fun i=>ls.length - i) 0 ⟨rfl,trivial⟩ ⟨Nat.zero_le _,H⟩ ?_;clear H;rintro i u U ⟨hi,H⟩;refine aa (dC _ _) ?_;refine H.load 0 rfl fQ rfl ?_;refine ay underlying31 ?_;refine au (fun V=>?_) (fun V=>?_)
  ·have f:i<ls.length:=by omega
   obtain ⟨l,X,q⟩:∃ l,ls[i]?=some l∧l ∈ ls:=⟨_,List.getElem?_eq_getElem f,List.getElem_mem f⟩;obtain ⟨s,o,y,b⟩:=p i l X;have e:=E l q;have Y:=e.len;obtain ⟨s1,s2,Z⟩:=lb D e;obtain ⟨n,h,rfl⟩:=k.A (by omega);refine aw (fun w'=>Hp w ab w' [an g1 33 (cI kd ni no (.slice (some ⟨n,h,none⟩) ls.length c))] []) ?_ ?_
   ·refine ak (γ:=Nat) (fun g4=>[(4,(ah g4))]) (fun g4 w'=>Hp w ab w' [an g4 77 (fW l.1 l.2.1 (.slice s l.2.2.length o)),an g1 33 (cI kd ni no (.slice (some ⟨n,h,none⟩) ls.length c))] []) ?_ ?_
    ·refine aa (dC _ _) ?_;refine H.load 0 rfl fQ rfl ?_;refine aq underlying31 cO i rfl f (o':=h+i*3) (by omega) ?_;refine Sl.dj H k e8 mK cO i rfl y ?_;refine H.alloc 77 (cs:=fW 0 0 (.slice none 0 0)) lY rfl ?_;clear H;intro g4 z H;refine H.storeAll 0 rfl cO rfl (e_ (m:=l.1) (v:=l.2.1)) ?_;clear H;intro F H;exact ⟨g4,⟨rfl,trivial⟩,H⟩
    clear H;rintro g4 u z H;refine aw (fun w'=>Hp w ab w' [an g4 77 (fW l.1 l.2.1 (.slice s l.2.2.length o)),an g1 33 (cI kd ni no (.slice (some ⟨n,h,none⟩) ls.length c))] []) ?_ ?_
    ·refine aa (xt _) ?_;refine fT (H.get 0 rfl) (cc l.1 l.2.1).toList bl aJ (sO _ _ _) ?_;refine aa (dY _ _) ?_;refine H.load 1 rfl aE rfl ?_;have G:=Oc l.1 l.2.1 s1 s2 (ni:Int) z;rw[Z] at G;refine aj G ?_;rintro _ F ⟨rfl,I⟩;replace H:=H.same I;clear I;have hlen:=e.len;refine ae rfl ?_;refine aa (eQ _) ?_;refine ae rfl ?_;refine H.load 0 rfl fl rfl ?_;refine ae rfl ?_;refine ay underlying75 ?_;refine ae rfl ?_;refine aa (eP _ _) ?_;refine ae rfl ?_;refine H.load 1 rfl aE rfl ?_
     iterate 2 refine ae rfl ?_
     refine ae (bne_eq_false_iff_eq.2 (by omega)) ?_;exact ⟨(),trivial,H⟩
    clear H;rintro ⟨⟩ u F H;refine ax (γ:=Nat) (fun j=>[(5,.int .i64 (j:Int))]) (fun j w'=>j≤l.2.2.length∧Hp w ab w' [an g4 77 (fW l.1 l.2.1 (.slice s l.2.2.length o)),an g1 33 (cI kd ni no (.slice (some ⟨n,h,none⟩) ls.length c))] []) (fun j=>l.2.2.length - j) 0 ⟨rfl,trivial⟩ ⟨Nat.zero_le _,H⟩ ?_;clear H;rintro j u w6 ⟨hj,H⟩;refine aa (eQ _) ?_;refine H.load 0 rfl fl rfl ?_;refine ay underlying75 ?_;refine au (fun h8=>?_) (fun h8=>?_)
    ·have a:j<l.2.2.length:=by omega
     obtain ⟨gO,g,rfl⟩:=b.A (by omega);have hx:=e.marks _ (List.getElem_mem a);have d:(ints l.2.2)[j]?=some (.int .i64 ((l.2.2[j]:Nat):Int)):=eZ a;generalize l.2.2[j]=x at hx d;refine aw (fun w'=>Hp w ab w' [an g4 77 (fW l.1 l.2.1 (.slice (some ⟨gO,g,none⟩) l.2.2.length o)),an g1 33 (cI kd ni no (.slice (some ⟨n,h,none⟩) ls.length c))] []) ?_ ?_
     ·rcases (by omega:x=0∨x=1∨x=2) with rfl | rfl | rfl
      ·refine aa (eQ _) ?_;refine H.load 0 rfl fl rfl ?_;refine aq underlying75 a_ j rfl a (o':=g+j) (by omega) ?_;refine aB aE (((b.same H.keeps).cell j (by omega)).trans d) ?_
       iterate 15 refine ae rfl ?_
       exact ⟨(),trivial,H⟩
      ·refine aa (eQ _) ?_;refine H.load 0 rfl fl rfl ?_;refine aq underlying75 a_ j rfl a (o':=g+j) (by omega) ?_;refine aB aE (((b.same H.keeps).cell j (by omega)).trans d) ?_;refine ag rfl ?_;refine aa (eQ _) ?_;refine ag rfl ?_;refine H.load 0 rfl fl rfl ?_
       iterate 2 refine ag rfl ?_
       refine aq underlying75 a_ j rfl a (o':=g+j) (by omega) ?_;refine ag rfl ?_;refine aB aE (((b.same H.keeps).cell j (by omega)).trans d) ?_
       iterate 2 refine ag rfl ?_
       iterate 8 refine ae rfl ?_
       exact ⟨(),trivial,H⟩
      ·refine aa (eQ _) ?_;refine H.load 0 rfl fl rfl ?_;refine aq underlying75 a_ j rfl a (o':=g+j) (by omega) ?_;refine aB aE (((b.same H.keeps).cell j (by omega)).trans d) ?_;refine ag rfl ?_;refine aa (eQ _) ?_;refine ag rfl ?_;refine H.load 0 rfl fl rfl ?_
       iterate 2 refine ag rfl ?_
       refine aq underlying75 a_ j rfl a (o':=g+j) (by omega) ?_;refine ag rfl ?_;refine aB aE (((b.same H.keeps).cell j (by omega)).trans d) ?_
       iterate 3 refine ag rfl ?_
       refine aa (eQ _) ?_;refine ag rfl ?_;refine H.load 0 rfl fl rfl ?_
       iterate 2 refine ag rfl ?_
       refine aq underlying75 a_ j rfl a (o':=g+j) (by omega) ?_;refine ag rfl ?_;refine aB aE (((b.same H.keeps).cell j (by omega)).trans d) ?_
       iterate 2 refine ag rfl ?_
       refine ae rfl ?_;exact ⟨(),trivial,H⟩
     ·clear H;rintro ⟨⟩ u w7 H;exact ⟨j+1,by show l.2.2.length - (j+1)<l.2.2.length - j;omega,⟨up (by omega),trivial⟩,by show j+1≤l.2.2.length;omega,H⟩
    ·exact ⟨(),trivial,H.forget⟩
   ·clear H;rintro ⟨⟩ u z H;exact ⟨i+1,by show ls.length - (i+1)<ls.length - i;omega,⟨up (by omega),trivial⟩,by show i+1≤ls.length;omega,H⟩
  ·exact ⟨(),trivial,H⟩
 clear H;rintro ⟨⟩ u U H;exact ⟨rfl,H.keeps⟩
end Go.Proofs.YtpjihhgjbbihkaaGreatDoor
namespace Go.Dk
def gf (f:Nat→Bool)(k:Nat):List Bool:=(List.range 256).map fun p=>decide (p<k)&&f p
theorem b_ (f:Nat→Bool)(k:Nat):(gf f k).length=256:=by simp[gf]
theorem DS (f:Nat→Bool):gf f 0=List.replicate 256 false:=by simp[gf,List.map_const']
theorem DT {f:Nat→Bool}{k:Nat}:(gf f k).set k (f k)=gf f (k+1):=by
 apply List.ext_getElem (by simp[gf]);intro p a b;simp only[gf,List.length_set,List.length_map,List.length_range] at a;rw[List.getElem_set];simp only[gf,List.getElem_map,List.getElem_range];by_cases h:k=p
 ·subst h;simp
 ·have:decide (p<k+1)=decide (p<k):=by rw[decide_eq_decide];omega
  simp[h,this]
def l5 (t:Tb)(o p:Nat):Bool:=fb t.ls p o 1
def lj (t:Tb)(o p:Nat):Bool:=fb t.ls p o 0
def uY (t:Tb)(o p:Nat):Bool:=fb t.ls p o 2
def lk (t:Tb)(o p:Nat):Bool:=l5 t o p||decide (t.kd=1)&&uY t o p||decide (2≤t.kd)&& !lj t o p
end Go.Dk
namespace Go.Proofs.YtpjihhgjbbihkaaGreatDoor
open Go.Proofs.Tryz
open Go.Dk
set_option maxRecDepth 100000
attribute [local irreducible] IntKind.wrap
theorem zt {f:Nat→Bool}{k:Nat}{b:Bool}(h:f k=b):(ib (gf f k)).set k (.bool b)=ib (gf f (k+1)):=by
 rw[← DT,h];simp[ib,List.map_set]
theorem zu (f:Nat→Bool){k:Nat}(b:k≤256)(p:Nat):(kh (gf f k)).testBit p=(decide (p<k)&&f p):=by
 rw[nt];by_cases a:p<256
 ·rw[decide_eq_true a,Bool.true_and,List.getD_eq_getElem?_getD];simp[gf,a]
 ·rw[decide_eq_false a,decide_eq_false (show ¬ p<k by omega)];rfl
theorem fc {t:Tb}(e:j7 t)(o mk p:Nat):(gp t o mk t.ls.length).testBit p=(decide (p<2^t.ni)&&fb t.ls p o mk):=by
 rw[Bool.eq_iff_iff,vP,Bool.and_eq_true,decide_eq_true_eq];unfold fb;rw[List.any_eq_true];have key:∀ l ∈ t.ls,(bc l.1 l.2.1 t.ni).testBit p=true↔p<2^t.ni∧pU l.1 l.2.1 p=true:=fun l a=>by
  have b:=e.ls l a;rw[bP e.ni,vY (lb e.ni b).1 b.v,beq_iff_eq]
 constructor
 ·rintro ⟨i,l,_,a,hm,g⟩;have c:=List.mem_of_getElem? a;obtain ⟨f,d⟩:=(key l c).1 g;exact ⟨f,l,c,by rw[d,decide_eq_true hm];rfl⟩
 ·rintro ⟨f,l,a,d⟩;rw[Bool.and_eq_true,decide_eq_true_eq] at d;obtain ⟨i,hi⟩:=List.getElem?_of_mem a;exact ⟨i,l,(List.getElem?_eq_some_iff.1 hi).1,hi,d.1,(key l a).2 ⟨f,d.2⟩⟩
theorem ND {t:Tb}(a:j7 t)(o:Nat):kh (gf (l5 t o) (2^t.ni))=l6 t o:=by
 have b:2^t.ni≤2^8:=Nat.pow_le_pow_right (by decide) a.ni;refine Nat.eq_of_testBit_eq fun p=>?_;rw[zu _ (by omega)];unfold l6;rw[fc a];rfl
theorem Lp {t:Tb}(a:j7 t)(o:Nat)(b:∀ p,p<2^t.ni→2≤t.kd→l5 t o p=true→lj t o p=false):kh (gf (lk t o) (2^t.ni))=iv t o:=by
 have f:2^t.ni≤2^8:=Nat.pow_le_pow_right (by decide) a.ni;refine Nat.eq_of_testBit_eq fun p=>?_;rw[zu _ (by omega)];unfold iv lk;split
 ·rename_i h;unfold l6;rw[fc a,h];simp[l5]
 ·rename_i h;split
  ·rename_i c;unfold l6 uu;rw[Nat.testBit_or,fc a,fc a,c]
   cases decide (p<2^t.ni) <;> simp[l5,uY]
  ·rename_i c;have e:2≤t.kd:=by omega
   unfold ur;rw[bO (kb _),gT a.ni,fc a,decide_eq_false c,decide_eq_true e];by_cases d:p<2^t.ni
   ·rw[decide_eq_true d];have:=b p d e;unfold lj at this ⊢
    cases h3:l5 t o p with
    | false=>simp
    | true=>rw[this h3];rfl
   ·rw[decide_eq_false d];rfl
theorem rJ {t:Tb}(b:j7 t)(o:Nat):ld t o=true↔2≤t.kd∧∃ p,p<2^t.ni∧l5 t o p=true∧lj t o p=true:=by
 unfold ld;rw[Bool.and_eq_true,decide_eq_true_eq,bne_iff_ne];refine and_congr_right fun _=>?_;constructor
 ·intro h;refine Classical.byContradiction fun c=>h (iE.2 fun p=>?_);rw[Bool.eq_false_iff];intro a;unfold l6 ur at a;rw[Nat.testBit_and,fc b,fc b] at a;simp only[Bool.and_eq_true,decide_eq_true_eq] at a;exact c ⟨p,a.1.1,a.1.2,a.2.2⟩
 ·rintro ⟨p,f,d,e⟩ g;have:=iE.1 g p;unfold l6 ur at this;unfold l5 at d;unfold lj at e;rw[Nat.testBit_and,fc b,fc b,decide_eq_true f,d,e] at this
  cases this
theorem vV {t:Tb}{o:Nat}(a:o<t.no)(h:ld t o=true):dd t t.no=true:=by
 unfold dd;rw[List.any_eq_true];exact ⟨o,List.mem_range.2 a,h⟩
theorem NF:enters prog 12=true:=by kernel_rfl
set_option maxHeartbeats 4000000 in
theorem c12 {t:Tb}(E:j7 t)(v:Value)(w:World)(Y:jm w v t.ls):bz prog 12 [sN t.kd t.ni t.no v] w fun r w'=>
  (dd t t.no=true∧r=.tuple #[sf 0 (.slice none 0 0) (.slice none 0 0),.int .i64 4]∧aT w w')∨
  (dd t t.no=false∧∃ Bo co Bm cm,r=.tuple #[sf t.ni (.slice Bo t.no co) (.slice Bm t.no cm),.int .i64 0]∧∃ F,eW w w' (nB F (bY t) Bo co Bm cm)):=by
 refine ar (N:=96) func12 NF rfl rfl rfl (by simp) ?_;have H:=Hp.aC w;have K:=E.ni;have hno:=E.no4;have hkd:=E.kd;have h2n:2^t.ni≤2^8:=Nat.pow_le_pow_right (by decide) K;refine ak (γ:=Nat × Nat) (fun (g1,g2)=>[(1,(ah g1)),(2,(ah g2)),(3,.int .i64 0)]) (fun (g1,g2) w'=>Hp w ab w' [an g2 41 (bp 0 (.slice none 0 0) (.slice none 0 0)),an g1 33 (cI t.kd t.ni t.no v)] []) ?_ ?_
 ·refine H.box 33 _ (cs:=cI t.kd t.ni t.no v) rfl ?_;clear H;intro g1 w1 H;refine H.alloc 41 (cs:=bp 0 (.slice none 0 0) (.slice none 0 0)) uv rfl ?_;clear H;intro g2 w2 H;exact ⟨(g1,g2),⟨rfl,rfl,rfl,trivial⟩,H⟩
 clear H;rintro ⟨g1,g2⟩ u w1 H;refine aw (fun w'=>Hp w ab w' [an g2 41 (bp 0 (.slice none 0 0) (.slice none 0 0)),an g1 33 (cI t.kd t.ni t.no v)] []) ?_ ?_
 ·refine H.ai 1 rfl eL bw ?_;refine aj (PK E v _ (Y.same H.keeps)) ?_;rintro _ w2 ⟨rfl,n⟩;replace H:=H.same n;clear n;refine ae rfl ?_;exact ⟨(),trivial,H⟩
 clear H;rintro ⟨⟩ u w2 H;refine ak (γ:=Nat) (fun g4=>[(4,(ah g4))]) (fun g4 w'=>Hp w ab w' [an g4 41 (bp t.ni (.slice none 0 0) (.slice none 0 0)),own 86 4 (.slice none 0 0) 0 (flat bL []),own 86 4 (.slice none 0 0) 0 (flat bL []),an g2 41 (bp 0 (.slice none 0 0) (.slice none 0 0)),an g1 33 (cI t.kd t.ni t.no v)] []) ?_ ?_
 ·refine aa (dY _ _) ?_;refine H.load 1 rfl aE rfl ?_;refine zh ?_;refine H.alloc 41 (cs:=bp 0 (.slice none 0 0) (.slice none 0 0)) uv rfl ?_;clear H;intro g4 w3 H;refine H.storeAll (cs':=bp t.ni (.slice none 0 0) (.slice none 0 0)) 0 rfl bH rfl kp ?_;clear H;intro w4 H;exact ⟨g4,⟨rfl,trivial⟩,((H.bC 86 4).bC 86 4).b9 [2,0,1,3,4] (by decide) rfl⟩
 clear H;rintro g4 u w3 H;refine ak (γ:=Option Addr × Nat × Option Addr × Nat) (fun _=>[]) (fun (Bo,co,Bm,cm) w'=>dd t t.no=false∧Hp w ab w' [an g4 41 (bp t.ni (.slice Bo t.no co) (.slice Bm t.no cm)),own 86 4 (.slice Bo t.no co) t.no (flat bL (jJ (l6 t) t.no)),own 86 4 (.slice Bm t.no cm) t.no (flat bL (jJ (iv t) t.no)),an g2 41 (bp 0 (.slice none 0 0) (.slice none 0 0)),an g1 33 (cI t.kd t.ni t.no v)] []) ?_ ?_
 ·refine ax (γ:=Nat × Option Addr × Nat × Option Addr × Nat) (fun (i,_)=>[(5,.int .i64 (i:Int))]) (fun (i,Bo,co,Bm,cm) w'=>(i≤t.no∧dd t i=false)∧Hp w ab w' [an g4 41 (bp t.ni (.slice Bo i co) (.slice Bm i cm)),own 86 4 (.slice Bo i co) i (flat bL (jJ (l6 t) i)),own 86 4 (.slice Bm i cm) i (flat bL (jJ (iv t) i)),an g2 41 (bp 0 (.slice none 0 0) (.slice none 0 0)),an g1 33 (cI t.kd t.ni t.no v)] []) (fun (i,_)=>t.no - i) (0,none,0,none,0) ⟨rfl,trivial⟩ ⟨⟨Nat.zero_le _,rfl⟩,H⟩ ?_;clear H;rintro ⟨i,Bo,co,Bm,cm⟩ u w4 ⟨⟨hi,I⟩,H⟩;refine aa (eP _ _) ?_;refine H.load 4 rfl aE rfl ?_;refine au (fun h7=>?_) (fun h7=>?_)
  ·have J:i<t.no:=by omega
   have M:=si t i;rw[I,Bool.false_or] at M;refine ak (γ:=Option Addr × Nat × Option Addr × Nat) (fun _=>[]) (fun (Bo,co,Bm,cm) w'=>dd t (i+1)=false∧Hp w ab w' [an g4 41 (bp t.ni (.slice Bo (i+1) co) (.slice Bm (i+1) cm)),own 86 4 (.slice Bo (i+1) co) (i+1) (flat bL (jJ (l6 t) (i+1))),own 86 4 (.slice Bm (i+1) cm) (i+1) (flat bL (jJ (iv t) (i+1))),an g2 41 (bp 0 (.slice none 0 0) (.slice none 0 0)),an g1 33 (cI t.kd t.ni t.no v)] []) ?_ ?_
   ·refine ak (γ:=Nat × Nat) (fun (B,y)=>[(6,.slice (some ⟨B,0,none⟩) 256 256),(7,.slice (some ⟨y,0,none⟩) 256 256)]) (fun (B,y) w'=>Hp w ab w' [own 4 1 (.slice (some ⟨y,0,none⟩) 256 256) 256 (ib (gf (lk t i) 0)),own 4 1 (.slice (some ⟨B,0,none⟩) 256 256) 256 (ib (gf (l5 t i) 0)),an g4 41 (bp t.ni (.slice Bo i co) (.slice Bm i cm)),own 86 4 (.slice Bo i co) i (flat bL (jJ (l6 t) i)),own 86 4 (.slice Bm i cm) i (flat bL (jJ (iv t) i)),an g2 41 (bp 0 (.slice none 0 0) (.slice none 0 0)),an g1 33 (cI t.kd t.ni t.no v)] []) ?_ ?_
    ·refine gH (fun u=>Hp w ab u [an g4 41 (bp t.ni (.slice Bo i co) (.slice Bm i cm)),own 86 4 (.slice Bo i co) i (flat bL (jJ (l6 t) i)),own 86 4 (.slice Bm i cm) i (flat bL (jJ (iv t) i)),an g2 41 (bp 0 (.slice none 0 0) (.slice none 0 0)),an g1 33 (cI t.kd t.ni t.no v)] []) [([0,1],[0,1,2,3]),([1,0],[1,0,2,3])] eN (by kernel_rfl) (H.same (aS.drew _)) ?_;replace H:=H.same (aS.drew _);generalize w4.drew=w5 at H;have D:∀ f,List.replicate 256 (Value.bool false)=ib (gf f 0):=fun f=>by rw[DS];exact List.map_replicate.symm
     intro z hz;simp only[List.mem_cons,List.not_mem_nil,or_false] at hz;rcases hz with rfl | rfl
     ·refine H.make Jw 256 rfl rfl (by omega) (by omega) ?_;clear H;intro B Z H;rw[nQ,D (l5 t i)] at H;refine ⟨.inl H.forget,?_⟩;refine H.make Jw 256 rfl rfl (by omega) (by omega) ?_;clear H;intro y w7 H;rw[nQ,D (lk t i)] at H;refine ⟨.inl H.forget.forget,?_⟩;exact ⟨(B,y),⟨rfl,rfl,trivial⟩,H⟩
     ·refine H.make Jw 256 rfl rfl (by omega) (by omega) ?_;clear H;intro y Z H;rw[nQ,D (lk t i)] at H;refine ⟨.inl H.forget,?_⟩;refine H.make Jw 256 rfl rfl (by omega) (by omega) ?_;clear H;intro B w7 H;rw[nQ,D (l5 t i)] at H;refine ⟨.inl H.forget.forget,?_⟩;exact ⟨(B,y),⟨rfl,rfl,trivial⟩,H.b9 [1,0,2,3,4,5,6] (by decide) rfl⟩
    clear H;rintro ⟨B,y⟩ u w5 H;refine aw (fun w'=>(∀ q,q<2^t.ni→2≤t.kd→l5 t i q=true→lj t i q=false)∧Hp w ab w' [own 4 1 (.slice (some ⟨y,0,none⟩) 256 256) 256 (ib (gf (lk t i) (2^t.ni))),own 4 1 (.slice (some ⟨B,0,none⟩) 256 256) 256 (ib (gf (l5 t i) (2^t.ni))),an g4 41 (bp t.ni (.slice Bo i co) (.slice Bm i cm)),own 86 4 (.slice Bo i co) i (flat bL (jJ (l6 t) i)),own 86 4 (.slice Bm i cm) i (flat bL (jJ (iv t) i)),an g2 41 (bp 0 (.slice none 0 0) (.slice none 0 0)),an g1 33 (cI t.kd t.ni t.no v)] []) ?_ ?_
    ·refine ax (γ:=Nat) (fun p=>[(8,.int .i64 (p:Int))]) (fun p w'=>(p≤2^t.ni∧∀ q,q<p→2≤t.kd→l5 t i q=true→lj t i q=false)∧Hp w ab w' [own 4 1 (.slice (some ⟨y,0,none⟩) 256 256) 256 (ib (gf (lk t i) p)),own 4 1 (.slice (some ⟨B,0,none⟩) 256 256) 256 (ib (gf (l5 t i) p)),an g4 41 (bp t.ni (.slice Bo i co) (.slice Bm i cm)),own 86 4 (.slice Bo i co) i (flat bL (jJ (l6 t) i)),own 86 4 (.slice Bm i cm) i (flat bL (jJ (iv t) i)),an g2 41 (bp 0 (.slice none 0 0) (.slice none 0 0)),an g1 33 (cI t.kd t.ni t.no v)] []) (fun p=>2^t.ni - p) 0 ⟨rfl,trivial⟩ ⟨⟨Nat.zero_le _,fun q hq=>absurd hq (Nat.not_lt_zero _)⟩,H⟩ ?_;clear H;rintro p u Z ⟨⟨hp,G⟩,H⟩;have hsz:=Gn t.ni K;refine aa (dY _ _) ?_;refine H.load 6 rfl aE rfl ?_;refine aj (PF t.ni K _) ?_;rintro _ w7 ⟨rfl,n⟩;replace H:=H.same n;clear n;rw[hsz];refine au (fun h9=>?_) (fun h9=>?_)
     ·have hpn:p<2^t.ni:=by omega
      refine aw (fun w'=>(2≤t.kd→l5 t i p=true→lj t i p=false)∧Hp w ab w' [own 4 1 (.slice (some ⟨y,0,none⟩) 256 256) 256 (ib (gf (lk t i) (p+1))),own 4 1 (.slice (some ⟨B,0,none⟩) 256 256) 256 (ib (gf (l5 t i) (p+1))),an g4 41 (bp t.ni (.slice Bo i co) (.slice Bm i cm)),own 86 4 (.slice Bo i co) i (flat bL (jJ (l6 t) i)),own 86 4 (.slice Bm i cm) i (flat bL (jJ (iv t) i)),an g2 41 (bp 0 (.slice none 0 0) (.slice none 0 0)),an g1 33 (cI t.kd t.ni t.no v)] []) ?_ ?_
      ·refine ak (γ:=Unit) (fun _=>[(9,.bool (l5 t i p)),(10,.bool (lj t i p)),(11,.bool (uY t i p))]) (fun _ w'=>Hp w ab w' [own 4 1 (.slice (some ⟨y,0,none⟩) 256 256) 256 (ib (gf (lk t i) p)),own 4 1 (.slice (some ⟨B,0,none⟩) 256 256) 256 (ib (gf (l5 t i) p)),an g4 41 (bp t.ni (.slice Bo i co) (.slice Bm i cm)),own 86 4 (.slice Bo i co) i (flat bL (jJ (l6 t) i)),own 86 4 (.slice Bm i cm) i (flat bL (jJ (iv t) i)),an g2 41 (bp 0 (.slice none 0 0) (.slice none 0 0)),an g1 33 (cI t.kd t.ni t.no v)] []) ?_ ?_
       ·refine H.draw eN (by kernel_rfl) ?_;clear H;intro w8 H;refine quiet _ (fun w H=>H.ai 6 rfl eL bw af) ?_;refine aj (Ll E p i 1 (by omega) J v _ (Y.same H.keeps)) ?_;rintro _ w9a ⟨rfl,n⟩;replace H:=H.same n;clear n;refine ⟨.inl H,?_⟩;refine quiet _ (fun w H=>H.ai 6 rfl eL bw af) ?_;refine aj (Ll E p i 0 (by omega) J v _ (Y.same H.keeps)) ?_;rintro _ w9b ⟨rfl,n⟩;replace H:=H.same n;clear n;refine ⟨.inl H,?_⟩;refine quiet _ (fun w H=>H.ai 6 rfl eL bw af) ?_;refine aj (Ll E p i 2 (by omega) J v _ (Y.same H.keeps)) ?_;rintro _ w9c ⟨rfl,n⟩;replace H:=H.same n;clear n;refine ⟨.inl H,?_⟩;exact ⟨(),⟨rfl,rfl,rfl,trivial⟩,H⟩
       clear H;rintro ⟨⟩ u w8 H;have U:2≤t.kd→l5 t i p=true→lj t i p=true→dd t t.no=true:=fun a b c=>vV J ((rJ E i).2 ⟨a,p,hpn,b,c⟩);refine aw (fun w'=>(2≤t.kd→l5 t i p=true→lj t i p=false)∧Hp w ab w' [own 4 1 (.slice (some ⟨y,0,none⟩) 256 256) 256 (ib (gf (lk t i) p)),own 4 1 (.slice (some ⟨B,0,none⟩) 256 256) 256 (ib (gf (l5 t i) p)),an g4 41 (bp t.ni (.slice Bo i co) (.slice Bm i cm)),own 86 4 (.slice Bo i co) i (flat bL (jJ (l6 t) i)),own 86 4 (.slice Bm i cm) i (flat bL (jJ (iv t) i)),an g2 41 (bp 0 (.slice none 0 0) (.slice none 0 0)),an g1 33 (cI t.kd t.ni t.no v)] []) ?_ ?_
       ·refine aa (cC _ _) ?_;refine H.load 6 rfl aE rfl ?_;by_cases C:2≤t.kd
        ·cases h1:l5 t i p <;> cases h0:lj t i p
         ·iterate 2 refine ag (decide_eq_true (by omega)) ?_
          iterate 3 refine ae rfl ?_
          exact ⟨(),trivial,fun _ _=>rfl,H⟩
         ·iterate 2 refine ag (decide_eq_true (by omega)) ?_
          iterate 3 refine ae rfl ?_
          exact ⟨(),trivial,(fun _ b=>by cases b),H⟩
         ·iterate 2 refine ag (decide_eq_true (by omega)) ?_
          iterate 2 refine ag rfl ?_
          refine ae rfl ?_;exact ⟨(),trivial,fun _ _=>rfl,H⟩
         ·iterate 2 refine ag (decide_eq_true (by omega)) ?_
          iterate 3 refine ag rfl ?_
          refine zg ?_;refine H.storeAll 5 rfl bH rfl kp ?_;clear H;intro l H;refine H.ai 5 rfl dz bH ?_;refine ⟨rfl,?_⟩;exact .inl ⟨U C h1 h0,rfl,H.keeps⟩
        ·iterate 2 refine ae (decide_eq_false (by omega)) ?_
         iterate 3 refine ae rfl ?_
         exact ⟨(),trivial,fun a=>absurd a C,H⟩
       clear H;rintro ⟨⟩ u w9 ⟨m,H⟩;refine aw (fun w'=>Hp w ab w' [own 4 1 (.slice (some ⟨y,0,none⟩) 256 256) 256 (ib (gf (lk t i) p)),own 4 1 (.slice (some ⟨B,0,none⟩) 256 256) 256 (ib (gf (l5 t i) (p+1))),an g4 41 (bp t.ni (.slice Bo i co) (.slice Bm i cm)),own 86 4 (.slice Bo i co) i (flat bL (jJ (l6 t) i)),own 86 4 (.slice Bm i cm) i (flat bL (jJ (iv t) i)),an g2 41 (bp 0 (.slice none 0 0) (.slice none 0 0)),an g1 33 (cI t.kd t.ni t.no v)] []) ?_ ?_
       ·refine aq underlying37 (s:=1) (by kernel_rfl) p rfl (by omega) (o':=p) (by omega) ?_;refine H.cL 1 rfl gJ (by rw[ib,List.length_map,b_];omega) rfl ?_;clear H;intro V H;exact ⟨(),trivial,by rw[← zt (f:=l5 t i) (k:=p) rfl];exact H⟩
       clear H;rintro ⟨⟩ u V H;have g:∀ {b:Bool} {w':World},lk t i p=b→Hp w ab w' [own 4 1 (.slice (some ⟨y,0,none⟩) 256 256) 256 ((ib (gf (lk t i) p)).set p (.bool b)),own 4 1 (.slice (some ⟨B,0,none⟩) 256 256) 256 (ib (gf (l5 t i) (p+1))),an g4 41 (bp t.ni (.slice Bo i co) (.slice Bm i cm)),own 86 4 (.slice Bo i co) i (flat bL (jJ (l6 t) i)),own 86 4 (.slice Bm i cm) i (flat bL (jJ (iv t) i)),an g2 41 (bp 0 (.slice none 0 0) (.slice none 0 0)),an g1 33 (cI t.kd t.ni t.no v)] []→Hp w ab w' [own 4 1 (.slice (some ⟨y,0,none⟩) 256 256) 256 (ib (gf (lk t i) (p+1))),own 4 1 (.slice (some ⟨B,0,none⟩) 256 256) 256 (ib (gf (l5 t i) (p+1))),an g4 41 (bp t.ni (.slice Bo i co) (.slice Bm i cm)),own 86 4 (.slice Bo i co) i (flat bL (jJ (l6 t) i)),own 86 4 (.slice Bm i cm) i (flat bL (jJ (iv t) i)),an g2 41 (bp 0 (.slice none 0 0) (.slice none 0 0)),an g1 33 (cI t.kd t.ni t.no v)] []:=fun h H=>by rw[← zt h];exact H
       have j:lk t i p=(l5 t i p||decide (t.kd=1)&&uY t i p||decide (2≤t.kd)&& !lj t i p):=rfl;by_cases O:t.kd=1
       ·have C:¬ 2≤t.kd:=by omega
        rw[decide_eq_true O,decide_eq_false C] at j
        cases h1:l5 t i p <;> cases h0:lj t i p <;> cases h2:uY t i p <;> rw[h1,h0,h2] at j
        all_goals skip
        ·refine ae rfl ?_;refine aa (cC _ _) ?_;refine ae rfl ?_;refine H.load 6 rfl aE rfl ?_
         iterate 2 refine ae rfl ?_
         refine ag (beq_iff_eq.2 (by omega)) ?_;refine ae rfl ?_;refine ag (beq_iff_eq.2 (by omega)) ?_
         iterate 2 refine ae rfl ?_
         refine aa (cC _ _) ?_;refine ae rfl ?_;refine H.load 6 rfl aE rfl ?_
         iterate 2 refine ae rfl ?_
         iterate 2 refine ae (decide_eq_false (by omega)) ?_
         refine ae rfl ?_;refine ae (decide_eq_false (by omega)) ?_;refine ae rfl ?_;refine aq underlying37 (s:=1) (by kernel_rfl) p rfl (by omega) (o':=p) (by omega) ?_;refine H.cL 0 rfl gJ (by rw[ib,List.length_map,b_];omega) rfl ?_;clear H;intro l H;exact ⟨(),trivial,by have h:=m;rw[h1,h0] at h;exact h,g j H⟩
        ·refine ae rfl ?_;refine aa (cC _ _) ?_;refine ae rfl ?_;refine H.load 6 rfl aE rfl ?_
         iterate 2 refine ae rfl ?_
         refine ag (beq_iff_eq.2 (by omega)) ?_;refine ae rfl ?_;refine ag (beq_iff_eq.2 (by omega)) ?_;refine ae rfl ?_
         iterate 6 refine ag rfl ?_
         refine aq underlying37 (s:=1) (by kernel_rfl) p rfl (by omega) (o':=p) (by omega) ?_;refine H.cL 0 rfl gJ (by rw[ib,List.length_map,b_];omega) rfl ?_;clear H;intro l H;exact ⟨(),trivial,by have h:=m;rw[h1,h0] at h;exact h,g j H⟩
        ·refine ae rfl ?_;refine aa (cC _ _) ?_;refine ae rfl ?_;refine H.load 6 rfl aE rfl ?_
         iterate 2 refine ae rfl ?_
         refine ag (beq_iff_eq.2 (by omega)) ?_;refine ae rfl ?_;refine ag (beq_iff_eq.2 (by omega)) ?_
         iterate 2 refine ae rfl ?_
         refine aa (cC _ _) ?_;refine ae rfl ?_;refine H.load 6 rfl aE rfl ?_
         iterate 2 refine ae rfl ?_
         iterate 2 refine ae (decide_eq_false (by omega)) ?_
         refine ae rfl ?_;refine ae (decide_eq_false (by omega)) ?_;refine ae rfl ?_;refine aq underlying37 (s:=1) (by kernel_rfl) p rfl (by omega) (o':=p) (by omega) ?_;refine H.cL 0 rfl gJ (by rw[ib,List.length_map,b_];omega) rfl ?_;clear H;intro l H;exact ⟨(),trivial,by have h:=m;rw[h1,h0] at h;exact h,g j H⟩
        ·refine ae rfl ?_;refine aa (cC _ _) ?_;refine ae rfl ?_;refine H.load 6 rfl aE rfl ?_
         iterate 2 refine ae rfl ?_
         refine ag (beq_iff_eq.2 (by omega)) ?_;refine ae rfl ?_;refine ag (beq_iff_eq.2 (by omega)) ?_;refine ae rfl ?_
         iterate 6 refine ag rfl ?_
         refine aq underlying37 (s:=1) (by kernel_rfl) p rfl (by omega) (o':=p) (by omega) ?_;refine H.cL 0 rfl gJ (by rw[ib,List.length_map,b_];omega) rfl ?_;clear H;intro l H;exact ⟨(),trivial,by have h:=m;rw[h1,h0] at h;exact h,g j H⟩
        ·iterate 12 refine ag rfl ?_
         refine aq underlying37 (s:=1) (by kernel_rfl) p rfl (by omega) (o':=p) (by omega) ?_;refine H.cL 0 rfl gJ (by rw[ib,List.length_map,b_];omega) rfl ?_;clear H;intro l H;exact ⟨(),trivial,by have h:=m;rw[h1,h0] at h;exact h,g j H⟩
        ·iterate 12 refine ag rfl ?_
         refine aq underlying37 (s:=1) (by kernel_rfl) p rfl (by omega) (o':=p) (by omega) ?_;refine H.cL 0 rfl gJ (by rw[ib,List.length_map,b_];omega) rfl ?_;clear H;intro l H;exact ⟨(),trivial,by have h:=m;rw[h1,h0] at h;exact h,g j H⟩
        ·iterate 12 refine ag rfl ?_
         refine aq underlying37 (s:=1) (by kernel_rfl) p rfl (by omega) (o':=p) (by omega) ?_;refine H.cL 0 rfl gJ (by rw[ib,List.length_map,b_];omega) rfl ?_;clear H;intro l H;exact ⟨(),trivial,by have h:=m;rw[h1,h0] at h;exact h,g j H⟩
        ·iterate 12 refine ag rfl ?_
         refine aq underlying37 (s:=1) (by kernel_rfl) p rfl (by omega) (o':=p) (by omega) ?_;refine H.cL 0 rfl gJ (by rw[ib,List.length_map,b_];omega) rfl ?_;clear H;intro l H;exact ⟨(),trivial,by have h:=m;rw[h1,h0] at h;exact h,g j H⟩
       ·by_cases C:2≤t.kd
        ·rw[decide_eq_false O,decide_eq_true C] at j
         cases h1:l5 t i p <;> cases h0:lj t i p <;> rw[h1,h0] at j
         all_goals skip
         ·refine ae rfl ?_;refine aa (cC _ _) ?_;refine ae rfl ?_;refine H.load 6 rfl aE rfl ?_
          iterate 2 refine ae rfl ?_
          refine ae (beq_eq_false_iff_ne.2 (by omega)) ?_;refine ae rfl ?_;refine ae (beq_eq_false_iff_ne.2 (by omega)) ?_
          iterate 2 refine ae rfl ?_
          refine aa (cC _ _) ?_;refine ae rfl ?_;refine H.load 6 rfl aE rfl ?_
          iterate 2 refine ae rfl ?_
          iterate 2 refine ag (decide_eq_true (by omega)) ?_
          refine ae rfl ?_;refine ag (decide_eq_true (by omega)) ?_;refine ae rfl ?_;refine aq underlying37 (s:=1) (by kernel_rfl) p rfl (by omega) (o':=p) (by omega) ?_;refine H.cL 0 rfl gJ (by rw[ib,List.length_map,b_];omega) rfl ?_;clear H;intro l H;exact ⟨(),trivial,by have h:=m;rw[h1,h0] at h;exact h,g j H⟩
         ·refine ae rfl ?_;refine aa (cC _ _) ?_;refine ae rfl ?_;refine H.load 6 rfl aE rfl ?_
          iterate 2 refine ae rfl ?_
          refine ae (beq_eq_false_iff_ne.2 (by omega)) ?_;refine ae rfl ?_;refine ae (beq_eq_false_iff_ne.2 (by omega)) ?_
          iterate 2 refine ae rfl ?_
          refine aa (cC _ _) ?_;refine ae rfl ?_;refine H.load 6 rfl aE rfl ?_
          iterate 2 refine ae rfl ?_
          iterate 2 refine ag (decide_eq_true (by omega)) ?_
          refine ae rfl ?_;refine ag (decide_eq_true (by omega)) ?_;refine ae rfl ?_;refine aq underlying37 (s:=1) (by kernel_rfl) p rfl (by omega) (o':=p) (by omega) ?_;refine H.cL 0 rfl gJ (by rw[ib,List.length_map,b_];omega) rfl ?_;clear H;intro l H;exact ⟨(),trivial,by have h:=m;rw[h1,h0] at h;exact h,g j H⟩
         ·iterate 12 refine ag rfl ?_
          refine aq underlying37 (s:=1) (by kernel_rfl) p rfl (by omega) (o':=p) (by omega) ?_;refine H.cL 0 rfl gJ (by rw[ib,List.length_map,b_];omega) rfl ?_;clear H;intro l H;exact ⟨(),trivial,by have h:=m;rw[h1,h0] at h;exact h,g j H⟩
         ·iterate 12 refine ag rfl ?_
          refine aq underlying37 (s:=1) (by kernel_rfl) p rfl (by omega) (o':=p) (by omega) ?_;refine H.cL 0 rfl gJ (by rw[ib,List.length_map,b_];omega) rfl ?_;clear H;intro l H;exact ⟨(),trivial,by have h:=m;rw[h1,h0] at h;exact h,g j H⟩
        ·rw[decide_eq_false O,decide_eq_false C] at j
         cases h1:l5 t i p <;> rw[h1] at j
         all_goals skip
         ·refine ae rfl ?_;refine aa (cC _ _) ?_;refine ae rfl ?_;refine H.load 6 rfl aE rfl ?_
          iterate 2 refine ae rfl ?_
          refine ae (beq_eq_false_iff_ne.2 (by omega)) ?_;refine ae rfl ?_;refine ae (beq_eq_false_iff_ne.2 (by omega)) ?_
          iterate 2 refine ae rfl ?_
          refine aa (cC _ _) ?_;refine ae rfl ?_;refine H.load 6 rfl aE rfl ?_
          iterate 2 refine ae rfl ?_
          iterate 2 refine ae (decide_eq_false (by omega)) ?_
          refine ae rfl ?_;refine ae (decide_eq_false (by omega)) ?_;refine ae rfl ?_;refine aq underlying37 (s:=1) (by kernel_rfl) p rfl (by omega) (o':=p) (by omega) ?_;refine H.cL 0 rfl gJ (by rw[ib,List.length_map,b_];omega) rfl ?_;clear H;intro l H;exact ⟨(),trivial,by have h:=m;rw[h1] at h;exact h,g j H⟩
         ·iterate 12 refine ag rfl ?_
          refine aq underlying37 (s:=1) (by kernel_rfl) p rfl (by omega) (o':=p) (by omega) ?_;refine H.cL 0 rfl gJ (by rw[ib,List.length_map,b_];omega) rfl ?_;clear H;intro l H;exact ⟨(),trivial,by have h:=m;rw[h1] at h;exact h,g j H⟩
      ·clear H;rintro ⟨⟩ u w7 ⟨m,H⟩;exact ⟨p+1,by show 2^t.ni - (p+1)<2^t.ni - p;omega,⟨up (by omega),trivial⟩,⟨by show p+1≤2^t.ni;omega,fun q hq=>by
        by_cases e:q=p
        ·subst e;exact m
        ·exact G q (by omega)⟩,H⟩
     ·obtain rfl:p=2^t.ni:=by omega
      exact ⟨(),trivial,G,H⟩
    clear H;rintro ⟨⟩ u Z ⟨G,H⟩;have hcb:ld t i=false:=by
     rw[Bool.eq_false_iff];intro h;obtain ⟨a,p,b,c,d⟩:=(rJ E i).1 h;rw[G p b a c] at d
     cases d
    rw[hcb] at M;have e1:flat bL (jJ (l6 t) (i+1))=flat bL (jJ (l6 t) i)++bL (l6 t i):=by rw[og];exact dD ..
    have e2:flat bL (jJ (iv t) (i+1))=flat bL (jJ (iv t) i)++bL (iv t i):=by rw[og];exact dD ..
    have f1:=fun A c u h=>c37 (gf (l5 t i) (2^t.ni)) (b_ _ _) A c u h;have f2:=fun A c u h=>c37 (gf (lk t i) (2^t.ni)) (b_ _ _) A c u h;rw[ND E] at f1;rw[Lp E i G] at f2;refine ak (γ:=Option Addr × Nat) (fun _=>[]) (fun (o,x) w'=>Hp w ab w' [own 4 1 (.slice (some ⟨y,0,none⟩) 256 256) 256 (ib (gf (lk t i) (2^t.ni))),an g4 41 (bp t.ni (.slice o (i+1) x) (.slice Bm i cm)),own 86 4 (.slice o (i+1) x) (i+1) (flat bL (jJ (l6 t) (i+1))),own 86 4 (.slice Bm i cm) i (flat bL (jJ (iv t) i)),an g2 41 (bp 0 (.slice none 0 0) (.slice none 0 0)),an g1 33 (cI t.kd t.ni t.no v)] []) ?_ ?_
    ·refine H.fE [an g4 41 (bp t.ni (.slice Bo i co) (.slice Bm i cm))] (fun u H=>H.b9 [2] (by decide) rfl) eN (by kernel_rfl) ?_;clear H;intro w8 H;refine quiet _ (fun w H=>aa (ie _) af) ?_;refine quiet _ (fun w H=>H.load 0 rfl eo rfl af) ?_;refine aj (f1 _ _ _ (bB (H.get 1 rfl))) ?_;rintro _ w9 ⟨rfl,n⟩;replace H:=H.same n;clear n;refine ⟨.inl (H.b9 [2] (by decide) rfl),?_⟩;refine H.bk GO (cs:=sc (l6 t i)) (by decide) (by decide) (by kernel_rfl) ?_;clear H;intro gx w11 H;refine ⟨.inl (H.b9 [3] (by decide) rfl),?_⟩;refine H.aG 4 0 GO rfl rfl rfl (fI _) (by omega) (by omega) ?_;clear H;intro o x l H;replace H:=H.forget;refine ⟨.inl (H.b9 [2] (by decide) rfl),?_⟩;refine quiet _ (fun w H=>aa (ie _) af) ?_;refine H.store 2 rfl tU (Nat.le_of_ble_eq_true rfl) rfl ?_;clear H;intro w16 H;refine ⟨.inr (by kernel_rfl),?_⟩;refine ⟨(o,x),trivial,?_⟩;rw[e1];exact H.b9 [0,2,3,4,5,6] (by decide) rfl
    clear H;rintro ⟨o,x⟩ u w7 H;refine H.fE [an g4 41 (bp t.ni (.slice o (i+1) x) (.slice Bm i cm))] (fun u H=>H.b9 [1] (by decide) rfl) eN (by kernel_rfl) ?_;clear H;intro w8 H;refine quiet _ (fun w H=>aa (fL _) af) ?_;refine quiet _ (fun w H=>H.load 0 rfl eo rfl af) ?_;refine aj (f2 _ _ _ (bB (H.get 0 rfl))) ?_;rintro _ w9 ⟨rfl,n⟩;replace H:=H.same n;clear n;refine ⟨.inl (H.b9 [1] (by decide) rfl),?_⟩;refine H.bk GO (cs:=sc (iv t i)) (by decide) (by decide) (by kernel_rfl) ?_;clear H;intro gx w11 H;refine ⟨.inl (H.b9 [2] (by decide) rfl),?_⟩;refine H.aG 4 0 GO rfl rfl rfl (fI _) (by omega) (by omega) ?_;clear H;intro Q T l H;replace H:=H.forget;refine ⟨.inl (H.b9 [1] (by decide) rfl),?_⟩;refine quiet _ (fun w H=>aa (fL _) af) ?_;refine H.store 1 rfl tU (Nat.le_of_ble_eq_true rfl) rfl ?_;clear H;intro w16 H;refine ⟨.inr (by kernel_rfl),?_⟩;refine ⟨(o,x,Q,T),trivial,M,?_⟩;rw[e2];exact H.b9 [1,2,3,4,5] (by decide) rfl
   clear H;rintro ⟨o,x,Q,T⟩ u V ⟨X,H⟩;exact ⟨(i+1,o,x,Q,T),by show t.no - (i+1)<t.no - i;omega,⟨up (by omega),trivial⟩,⟨by show i+1≤t.no;omega,X⟩,H⟩
  ·obtain rfl:i=t.no:=by omega
   exact ⟨(Bo,co,Bm,cm),trivial,I,H⟩
 clear H;rintro ⟨Bo,co,Bm,cm⟩ u Z ⟨I,H⟩;refine H.ai 0 rfl dz bH ?_;refine H.storeAll 3 rfl bH rfl kp ?_;clear H;intro w8 H;refine H.ai 3 rfl dz bH ?_;exact ⟨rfl,.inr ⟨I,Bo,co,Bm,cm,rfl,Ci (S:=bY t) (H.b9 [1,2] (by decide) rfl) (eI _ _).symm (eI _ _).symm⟩⟩
theorem Bj {P:Program}{a:Value}{args:List Value}{w:World}{k k':Value→World→Prop}(h:jN P a args w k)(b:∀ v w',k v w'→k' v w'):jN P a args w k':=by
 unfold jN at h ⊢;split at h
 ·exact h.mono b
 ·exact h.elim
theorem NG:cW prog 1=some false:=by kernel_rfl
theorem Lq:bF prog 1=some 1:=by kernel_rfl
theorem sP:cW prog 26=some false:=by kernel_rfl
theorem Bk (i:Nat)(hi:i<7)(g:Nat)(w:World):(Instr.fieldAt 60 (ah g) i).run prog w=.ok (.pointer (some ⟨g,[0,4,8,11,15,19,20].getD i 0,none⟩)) w:=by
 rcases (by omega:i=0∨i=1∨i=2∨i=3∨i=4∨i=5∨i=6) with rfl | rfl | rfl | rfl | rfl | rfl | rfl <;> kernel_rfl
theorem Bn (g:Nat)(w:World):(Instr.fieldAt 60 (ah g) 0).run prog w=.ok (ah g) w:=Bk 0 (by decide) g w
theorem Bp (g:Nat)(w:World):(Instr.fieldAt 60 (ah g) 1).run prog w=.ok (.pointer (some ⟨g,4,none⟩)) w:=Bk 1 (by decide) g w
theorem xE (g:Nat)(w:World):(Instr.fieldAt 60 (ah g) 2).run prog w=.ok (.pointer (some ⟨g,8,none⟩)) w:=Bk 2 (by decide) g w
theorem uK (g:Nat)(w:World):(Instr.fieldAt 60 (ah g) 3).run prog w=.ok (.pointer (some ⟨g,11,none⟩)) w:=Bk 3 (by decide) g w
theorem uL (g:Nat)(w:World):(Instr.fieldAt 60 (ah g) 4).run prog w=.ok (.pointer (some ⟨g,15,none⟩)) w:=Bk 4 (by decide) g w
theorem Bq (g:Nat)(w:World):(Instr.fieldAt 60 (ah g) 5).run prog w=.ok (.pointer (some ⟨g,19,none⟩)) w:=Bk 5 (by decide) g w
theorem lg (g:Nat)(w:World):(Instr.fieldAt 60 (ah g) 6).run prog w=.ok (.pointer (some ⟨g,20,none⟩)) w:=Bk 6 (by decide) g w
theorem NH:enters prog 19=true:=by kernel_rfl
theorem PL {I:Nat→World→Prop}{Bad:World→Prop}(j:Nat→FuncId)(k:Nat→Array Value)(n f gs:Nat)(t:n≤100)(w:World)(a:I 0 w)(l:∀ i w',i<n→I i w'→w'.cell? ⟨gs,i,none⟩=some (.func (.func (j i)) #[] (k i)))(c:∀ i w',i<n→I i w'→jN prog (.func (.func (j i)) #[] (k i)) [] w' fun _ b=>(I (i+1) b∧b.cell? ⟨f,20,none⟩=some (.int .i64 0))∨(Bad b∧∃ e:Int,e≠0∧b.cell? ⟨f,20,none⟩=some (.int .i64 e))) :
  bz prog 19 [(ah f),.slice (some ⟨gs,0,none⟩) n n] w fun r w'=>(r=.bool true∧I n w')∨(r=.bool false∧Bad w'):=by
 refine ar (N:=21) func19 NH rfl rfl rfl (by simp) ?_;refine ak (γ:=Unit) (fun _=>[(4,.bool false)]) (fun _ w'=>I 0 w') ⟨(),⟨rfl,trivial⟩,a⟩ ?_;clear a;rintro ⟨⟩ u x a;refine aw (fun w'=>I n w') ?_ ?_
 ·refine ay (by kernel_rfl:Tryz.prog.underlying 97=some (.slice 1)) ?_;refine ax (γ:=Nat) (fun i=>[(9,.int .i64 (i:Int))]) (fun i w'=>i≤n∧I i w') (fun i=>n - i) 0 ⟨rfl,trivial⟩ ⟨Nat.zero_le _,a⟩ ?_;clear a;rintro i u o ⟨hi,a⟩;refine au (fun g=>?_) (fun g=>?_)
  ·have d:i<n:=by have g:(i:Int)<(n:Int):=g;omega
   refine aw (fun w'=>I (i+1) w') ?_ ?_
   ·refine ak (γ:=Unit) (fun _=>[(6,.func (.func (j i)) #[] (k i))]) (fun _ w'=>I i w') ?_ ?_
    ·refine aq (by kernel_rfl:Tryz.prog.underlying 97=some (.slice 1)) Lq i rfl d (o':=i) (by omega) ?_;refine aB NG (l i _ d a) ?_;exact ⟨(),⟨rfl,trivial⟩,a⟩
    clear a;rintro ⟨⟩ u p a;refine aw (fun w'=>(I (i+1) w'∧w'.cell? ⟨f,20,none⟩=some (.int .i64 0))∨(Bad w'∧∃ e:Int,e≠0∧w'.cell? ⟨f,20,none⟩=some (.int .i64 e))) ?_ ?_
    ·refine Bj (c i _ d a) ?_;intro v q h;exact ⟨(),trivial,h⟩
    clear a;rintro ⟨⟩ u q (⟨a,m⟩ | ⟨s,e,he,m⟩)
    ·refine aa (lg _) ?_;refine aB sP m ?_;refine ae rfl ?_;exact ⟨(),trivial,a⟩
    ·refine aa (lg _) ?_;refine aB sP m ?_;refine ag (bne_iff_ne.2 he) ?_;exact .inr ⟨rfl,s⟩
   ·clear a;rintro ⟨⟩ u p a;exact ⟨i+1,by show n - (i+1)<n - i;omega,⟨up (by omega),trivial⟩,by show i+1≤n;omega,a⟩
  ·obtain rfl:i=n:=by have g:¬ (i:Int)<(n:Int):=g;omega
   exact ⟨(),trivial,a⟩
 clear a;rintro ⟨⟩ u o a;exact .inl ⟨rfl,a⟩
def rK (kd ni no:Int)(v:Value)(a b c:Int)(f:Value)(g:Int)(h sm i:Value)(st d j:Int)(k:List UInt8)(l m n ln e:Int):Array Value:=
 #[.int .i64 kd,.int .i64 ni,.int .i64 no,v,.int .i64 a,.int .i64 b,.int .i64 c,f,.int .i64 g,h,sm,i,.int .i64 st,.int .i64 d,.int .i64 j,aU k,.int .i64 l,.int .i64 m,.int .i64 n,.int .i64 ln,.int .i64 e]
abbrev kv:Value:=.slice none 0 0
def Ja:Array Value:=rK 0 0 0 kv 0 0 0 kv 0 kv kv kv 0 0 0 [] 0 0 0 0 0
theorem Iw {k:Value→World→Prop}{w:World}(h:k (.agg Ja) w):b6 prog 60 [] w k:=bx (fun w=>by kernel_rfl) h
theorem Lr:eU prog 56=some (.pointer none):=by kernel_rfl
theorem Lt:bF prog 56=some 1:=by kernel_rfl
theorem gX:cW prog 56=some false:=by kernel_rfl
def iK (a:List UInt8)(b c d:Int):Array Value:=#[aU a,.int .i64 b,.int .i64 c,.int .i64 d]
theorem xF:eU prog 28=some (.agg (iK [] 0 0 0)):=by kernel_rfl
theorem nr:bF prog 28=some 4:=by kernel_rfl
theorem Cq:cW prog 28=some true:=by kernel_rfl
theorem PM:qR prog 97 1 .nilFunc 1 8:=⟨by kernel_rfl,by kernel_rfl,rfl,by decide⟩
theorem GB (g o:Nat)(w:World):(Instr.fieldAt 28 (.pointer (some ⟨g,o,none⟩)) 0).run prog w=.ok (.pointer (some ⟨g,o,none⟩)) w:=by kernel_rfl
theorem Br (g o:Nat)(w:World):(Instr.fieldAt 28 (.pointer (some ⟨g,o,none⟩)) 1).run prog w=.ok (.pointer (some ⟨g,o+1,none⟩)) w:=by kernel_rfl
theorem Lu (g o:Nat)(w:World):(Instr.fieldAt 28 (.pointer (some ⟨g,o,none⟩)) 2).run prog w=.ok (.pointer (some ⟨g,o+2,none⟩)) w:=by kernel_rfl
theorem Bs (g o:Nat)(w:World):(Instr.fieldAt 28 (.pointer (some ⟨g,o,none⟩)) 3).run prog w=.ok (.pointer (some ⟨g,o+3,none⟩)) w:=by kernel_rfl
theorem Cr (g o:Nat)(w:World):(Instr.fieldAt 58 (.pointer (some ⟨g,o,none⟩)) 0).run prog w=.ok (.pointer (some ⟨g,o,none⟩)) w:=by kernel_rfl
theorem Ix (g o:Nat)(w:World):(Instr.fieldAt 58 (.pointer (some ⟨g,o,none⟩)) 1).run prog w=.ok (.pointer (some ⟨g,o+1,none⟩)) w:=by kernel_rfl
theorem Iy (g o:Nat)(w:World):(Instr.fieldAt 58 (.pointer (some ⟨g,o,none⟩)) 2).run prog w=.ok (.pointer (some ⟨g,o+2,none⟩)) w:=by kernel_rfl
theorem NI:enters prog 20=true:=by kernel_rfl
set_option maxHeartbeats 1000000 in
theorem c20 {w0 w:World}{L M:List cS}(text:List UInt8)(f:text.length≤100000)(a g7 g2:Nat)(H:Hp w0 ab w (an a 60 Ja::an g7 56 #[(ah a)]::an g2 9 #[aU text]::L) (lM::M)) :
  bz prog 20 ([]++[(ah g2),(ah g7)]) w fun _ w'=>
   (∃ s v S,cY text=.ok s∧Hp w0 ab w' (e9 S v s.ls::an a 60 (rK s.kd s.ni s.no v 0 0 0 kv 0 kv kv kv 0 0 0 [] 0 0 0 0 0)::an g7 56 #[(ah a)]::an g2 9 #[aU text]::L) (lM::M))∨
   (∃ (i:Nat) (e:Int),cY text=.error (i,e)∧e≠0∧Hp w0 ab w' (an a 60 (rK 0 0 0 kv 0 0 0 kv 0 kv kv kv 0 0 0 [] 0 0 0 i e)::an g7 56 #[(ah a)]::an g2 9 #[aU text]::L) (lM::M)):=by
 refine ar (N:=17) func20 NI rfl rfl rfl (by simp) ?_;refine H.fE [an g7 56 #[(ah a)],an g2 9 #[aU text]] (fun u H=>H.b9 [1,2] (by decide) rfl) eN (by kernel_rfl) ?_;clear H;intro l H;refine quiet _ (fun w H=>H.load 0 rfl gX rfl af) ?_;refine quiet _ (fun w H=>H.load 0 rfl gX rfl af) ?_;refine quiet _ (fun w H=>H.load 0 rfl gX rfl af) ?_;refine quiet _ (fun w H=>H.load 1 rfl wC rfl af) ?_;refine aj (c21 text f _ (H.ro 0 rfl)) ?_;rintro _ m (⟨i,e,b,rfl,he,d⟩ | ⟨s,v,S,b,rfl,g⟩)
 ·replace H:=H.same d;clear d;refine ⟨.inl (H.b9 [1,2] (by decide) rfl),?_⟩;refine quiet _ (fun w H=>aa (Bn _) af) ?_;refine H.fU (cs2:=Ja) 0 rfl bw (Nat.le_of_ble_eq_true rfl) dH rfl ?_;clear H;intro h H;refine ⟨.inl (H.b9 [1,2] (by decide) rfl),?_⟩;refine quiet _ (fun w H=>aa (Bq _) af) ?_;refine H.store 0 rfl a_ (Nat.le_of_ble_eq_true rfl) rfl ?_;clear H;intro j H;refine ⟨.inl (H.b9 [1,2] (by decide) rfl),?_⟩;refine quiet _ (fun w H=>aa (lg _) af) ?_;refine H.store 0 rfl jI (Nat.le_of_ble_eq_true rfl) rfl ?_;clear H;intro k H;refine ⟨.inl (H.b9 [1,2] (by decide) rfl),?_⟩;exact .inr ⟨i,e,b,he,H⟩
 ·replace H:=H.bq g;obtain ⟨B,c,hs,rfl,_⟩:=H.get 0 rfl;refine ⟨.inl (H.b9 [2,3] (by decide) rfl),?_⟩;refine quiet _ (fun w H=>aa (Bn _) af) ?_;refine H.fU (cs2:=rK s.kd s.ni s.no (.slice B s.ls.length c) 0 0 0 kv 0 kv kv kv 0 0 0 [] 0 0 0 0 0) 1 rfl bw (Nat.le_of_ble_eq_true rfl) dH rfl ?_;clear H;intro h H;refine ⟨.inl (H.b9 [2,3] (by decide) rfl),?_⟩;refine quiet _ (fun w H=>aa (Bq _) af) ?_;refine H.store 1 rfl a_ (Nat.le_of_ble_eq_true rfl) rfl ?_;clear H;intro j H;refine ⟨.inl (H.b9 [2,3] (by decide) rfl),?_⟩;refine quiet _ (fun w H=>aa (lg _) af) ?_;refine H.store 1 rfl jI (Nat.le_of_ble_eq_true rfl) rfl ?_;clear H;intro k H;refine ⟨.inl (H.b9 [2,3] (by decide) rfl),?_⟩;exact .inl ⟨s,.slice B s.ls.length c,S,b,H⟩
end Go.Proofs.YtpjihhgjbbihkaaGreatDoor
namespace Go.Dk
def Iz (g i:Nat)(cs:List Value):cS:=
 ⟨fun x=>x=g,fun w=>∀ (j:Nat) v,cs[j]?=some v→w.cell? ⟨g,i+j,none⟩=some v,fun w w' h a j v b=>by
  have:=a j v b;unfold World.cell? at *;rw[h g rfl];exact this⟩
theorem dZ {w0 w:World}{F:Nat→Prop}{L M:List cS}{g:Nat}{t:TypeId}{cs:Array Value}(H:Hp w0 F w (an g t cs::L) M)(i:Nat)(cs':List Value)(h:cs'=(cs.toList.drop i).take cs'.length):Hp w0 F w (Iz g i cs'::L) M:=
 H.re (r':=Iz g i cs') (fun b j v a=>(aQ b (i+j)).trans (by
  rw[h,List.getElem?_take] at a;split at a
  ·rw[List.getElem?_drop] at a;rw[← Array.getElem?_toList];exact a
  ·cases a)) (fun g c=>c)
theorem qP {P:Program}{w:World}{k:Value→World→Prop}{g i:Nat}{cs:List Value}(c:(Iz g i cs).ok w)(o n:Nat){ty:TypeId}(cs':List Value)(a:cW P ty=some true)(hs:bF P ty=some cs'.length)(d:cs'=(cs.drop n).take cs'.length)(e:o=i+n)(h:k (.agg cs'.toArray) w) :
  fu P ty (.pointer (some ⟨g,o,none⟩)) w k:=by
 subst e;refine iB cs' a hs (fun j v b=>?_) h;rw[addr_add,Nat.add_assoc];rw[d,List.getElem?_take] at b;split at b
 ·rw[List.getElem?_drop] at b;exact c _ _ b
 ·cases b
theorem oX {P:Program}{w:World}{k:Value→World→Prop}{g i:Nat}{cs:List Value}(b:(Iz g i cs).ok w)(o n:Nat){ty:TypeId}{v:Value}(a:cW P ty=some false)(c:cs[n]?=some v)(d:o=i+n)(h:k v w):fu P ty (.pointer (some ⟨g,o,none⟩)) w k:=by
 subst d;exact aB a (b n v c) h
end Go.Dk
namespace Go.Proofs.YtpjihhgjbbihkaaGreatDoor
open Go.Proofs.Tryz
open Go.Dk
set_option maxRecDepth 100000
attribute [local irreducible] IntKind.wrap
theorem lR {f:Nat→Nat}{k j x:Nat}:(jJ f k)[j]?=some x↔j<k∧f j=x:=by
 unfold jJ;rw[List.getElem?_map];by_cases h:j<k
 ·rw[List.getElem?_range h];simp[h]
 ·rw[List.getElem?_eq_none (by simpa using h)];simp[h]
theorem uM {t:Tb}(a:j7 t)(j p:Nat):(iv t j).testBit p=(decide (p<2^t.ni)&&(if t.kd=0 then l5 t j p else if t.kd=1 then l5 t j p||uY t j p else !lj t j p)):=by
 unfold iv;split
 ·unfold l6;rw[fc a];rfl
 ·split
  ·unfold l6 uu;rw[Nat.testBit_or,fc a,fc a];unfold l5 uY
   cases decide (p<2^t.ni) <;> simp
  ·unfold ur;rw[bO (kb _),gT a.ni,fc a];unfold lj
   cases decide (p<2^t.ni) <;> simp
theorem Cs {t:Tb}(a:j7 t)(j p:Nat):(l6 t j).testBit p=(decide (p<2^t.ni)&&l5 t j p):=fc a j 1 p
theorem GC {n:Nat}(a:n≤8){s:Nat}(h:∀ p,s.testBit p=true→p<2^n):s<2^256:=by
 have c:2^n≤2^8:=Nat.pow_le_pow_right (by decide) a;refine Nat.lt_pow_two_of_testBit _ fun p d=>?_;rw[Bool.eq_false_iff];intro b;have:=h p b;omega
theorem rL {t:Tb}(c:j7 t)(l:dd t t.no=false):cF (bY t):=by
 have d:∀ j p,(iv t j).testBit p=true→p<2^t.ni:=fun j p h=>by
  rw[uM c,Bool.and_eq_true,decide_eq_true_eq] at h;exact h.1
 refine ⟨c.ni,by show 1≤(jJ _ _).length;rw[eI];exact c.no1,by show (jJ _ _).length≤4;rw[eI];exact c.no4,by show (jJ _ _).length=(jJ _ _).length;rw[eI,eI],fun a g=>?_,fun a g=>?_,fun j a b g k=>?_,fun b k=>?_⟩
 ·obtain ⟨j,e⟩:=List.getElem?_of_mem g;obtain ⟨_,rfl⟩:=lR.1 e;exact oe _ _ _ _
 ·obtain ⟨j,e⟩:=List.getElem?_of_mem g;obtain ⟨_,rfl⟩:=lR.1 e;exact GC c.ni (d j)
 ·obtain ⟨e,rfl⟩:=lR.1 g;obtain ⟨_,rfl⟩:=lR.1 k;intro p f;rw[Cs c,Bool.and_eq_true] at f;rw[uM c,f.1,f.2,Bool.true_and];split
  ·rfl
  ·split
   ·rfl
   ·have i:ld t j=false:=by
     rw[Bool.eq_false_iff];intro h;rw[vV e h] at l
     cases l
    cases ho:lj t j p with
    | false=>rfl
    | true=>
     rw[Bool.eq_false_iff] at i;exact absurd ((rJ c j).2 ⟨by have:=c.kd;omega,p,of_decide_eq_true f.1,f.2,ho⟩) i
 ·obtain ⟨j,e⟩:=List.getElem?_of_mem k;obtain ⟨_,rfl⟩:=lR.1 e;intro p f;show (bu t.ni).testBit p=true;rw[gT c.ni];exact decide_eq_true (d j p f)
theorem NJ:enters prog 22=true:=by kernel_rfl
set_option maxHeartbeats 1000000 in
theorem PN {w0 w:World}{L M:List cS}{t:Tb}(d:j7 t)(v:Value)(e:Nat→Prop)(a g7:Nat)(H:Hp w0 ab w (e9 e v t.ls::an a 60 (rK t.kd t.ni t.no v 0 0 0 kv 0 kv kv kv 0 0 0 [] 0 0 0 0 0)::an g7 56 #[(ah a)]::L) M) :
  bz prog 22 ([]++[(ah g7)]) w fun _ w'=>
   (∃ Bo co Bm cm F,dd t t.no=false∧Hp w0 ab w' (nB F (bY t) Bo co Bm cm::an a 60 (rK t.kd t.ni t.no v 0 0 0 kv t.ni (.slice Bo t.no co) (.slice Bm t.no cm) kv 0 0 0 [] 0 0 0 0 0)::an g7 56 #[(ah a)]::L) M)∨
   (dd t t.no=true∧Hp w0 ab w' (an a 60 (rK t.kd t.ni t.no v 0 0 0 kv 0 kv kv kv 0 0 0 [] 0 0 0 0 4)::an g7 56 #[(ah a)]::L) M):=by
 refine ar (N:=15) func22 NJ rfl rfl rfl (by simp) ?_;refine gG (fun u=>Hp w0 ab u [Iz a 0 [.int .i64 t.kd,.int .i64 t.ni,.int .i64 t.no,v],an g7 56 #[(ah a)]] M) eN (by kernel_rfl) (dZ ((H.same (aS.drew _)).b9 [1,2] (by decide) rfl) 0 _ rfl) ?_;replace H:=H.same (aS.drew _);generalize w.drew=w1 at H;have f:jm w1 v t.ls:=qE.mono (H.get 0 rfl) fun g h=>H.lt _ (.head _) g h;refine quiet _ (fun w H=>H.load 1 rfl gX rfl af) ?_;refine quiet _ (fun w H=>H.load 1 rfl gX rfl af) ?_;refine quiet _ (fun w H=>H.load 1 rfl gX rfl af) ?_;refine quiet _ (fun w H=>aa (Bn _) af) ?_;refine quiet (sN t.kd t.ni t.no v) (fun w H=>qP (H.get 0 rfl) 0 0 [.int .i64 t.kd,.int .i64 t.ni,.int .i64 t.no,v] eL bw rfl rfl af) ?_;refine aj (Px d v _ f) ?_;rintro _ l (⟨b,rfl,c⟩ | ⟨b,Bo,co,Bm,cm,rfl,F,i⟩)
 ·replace H:=H.same c;clear c;refine ⟨.inl (dZ (H.b9 [1,2] (by decide) rfl) 0 _ rfl),?_⟩;refine quiet _ (fun w H=>aa (xE _) af) ?_;refine H.fU (cs2:=rK t.kd t.ni t.no v 0 0 0 kv 0 kv kv kv 0 0 0 [] 0 0 0 0 0) 1 rfl bH (Nat.le_of_ble_eq_true rfl) kp rfl ?_;clear H;intro j H;refine ⟨.inl (dZ (H.b9 [1,2] (by decide) rfl) 0 _ rfl),?_⟩;refine quiet _ (fun w H=>aa (lg _) af) ?_;refine H.store 1 rfl jI (Nat.le_of_ble_eq_true rfl) rfl ?_;clear H;intro k H;refine ⟨.inl (dZ (H.b9 [1,2] (by decide) rfl) 0 _ rfl),?_⟩;exact .inr ⟨b,H.forget⟩
 ·replace H:=(H.forget).bq i;refine ⟨.inl (dZ (H.b9 [1,2] (by decide) rfl) 0 _ rfl),?_⟩;refine quiet _ (fun w H=>aa (xE _) af) ?_;refine H.fU (cs2:=rK t.kd t.ni t.no v 0 0 0 kv t.ni (.slice Bo t.no co) (.slice Bm t.no cm) kv 0 0 0 [] 0 0 0 0 0) 1 rfl bH (Nat.le_of_ble_eq_true rfl) kp rfl ?_;clear H;intro j H;refine ⟨.inl (dZ (H.b9 [1,2] (by decide) rfl) 0 _ rfl),?_⟩;refine quiet _ (fun w H=>aa (lg _) af) ?_;refine H.store 1 rfl jI (Nat.le_of_ble_eq_true rfl) rfl ?_;clear H;intro k H;refine ⟨.inl (dZ (H.b9 [1,2] (by decide) rfl) 0 _ rfl),?_⟩;exact .inl ⟨Bo,co,Bm,cm,F,b,H⟩
theorem NK:enters prog 24=true:=by kernel_rfl
set_option maxHeartbeats 1000000 in
theorem c24 {w0 w:World}{L M:List cS}{S:er}(k:cF S)(f:S.n≤4)(h:S.may.length≤3)(nodes steps:Int)(kd ni no:Int)(v:Value)(F:Nat→Prop)(Bo:Option Addr)(co:Nat)(Bm:Option Addr)(cm:Nat)(b g7 g3:Nat)(H:Hp w0 ab w (nB F S Bo co Bm cm::an b 60 (rK kd ni no v 0 0 0 kv S.n (.slice Bo S.on.length co) (.slice Bm S.may.length cm) kv 0 0 0 [] 0 0 0 0 0)::an g7 56 #[(ah b)]::an g3 23 (ji nodes steps)::L) M) :
  bz prog 24 ([]++[(ah g7),(ah g3)]) w fun _ w'=>
   (∃ A c rows st a d,qD S nodes steps rows st a 0∧Hp w0 ab w' (own 50 3 (.slice A rows.length c) rows.length (flat bd rows)::nB F S Bo co Bm cm::an b 60 (rK kd ni no v 0 0 0 kv S.n (.slice Bo S.on.length co) (.slice Bm S.may.length cm) (.slice A rows.length c) st a d [] 0 0 0 0 0)::an g7 56 #[(ah b)]::an g3 23 (ji nodes steps)::L) M)∨
   (y_ nodes steps∧∃ v1 st a d,Hp w0 ab w' (an b 60 (rK kd ni no v 0 0 0 kv S.n (.slice Bo S.on.length co) (.slice Bm S.may.length cm) v1 st a d [] 0 0 0 0 1)::an g7 56 #[(ah b)]::an g3 23 (ji nodes steps)::L) M):=by
 refine ar (N:=17) func24 NK rfl rfl rfl (by simp) ?_;refine gG (fun u=>Hp w0 ab u [Iz b 8 [.int .i64 S.n,.slice Bo S.on.length co,.slice Bm S.may.length cm],an g7 56 #[(ah b)],an g3 23 (ji nodes steps)] M) eN (by kernel_rfl) (dZ ((H.same (aS.drew _)).b9 [1,2,3] (by decide) rfl) 8 _ rfl) ?_;replace H:=H.same (aS.drew _);generalize w.drew=w1 at H;have l:gi w1 S Bo co Bm cm:=xu (H.get 0 rfl) fun g m=>H.lt _ (.head _) g m;refine quiet _ (fun w H=>H.load 1 rfl gX rfl af) ?_;refine quiet _ (fun w H=>H.load 1 rfl gX rfl af) ?_;refine quiet _ (fun w H=>H.load 1 rfl gX rfl af) ?_;refine quiet _ (fun w H=>aa (xE _) af) ?_;refine quiet (sf S.n (.slice Bo S.on.length co) (.slice Bm S.may.length cm)) (fun w H=>qP (H.get 0 rfl) 8 0 [.int .i64 S.n,.slice Bo S.on.length co,.slice Bm S.may.length cm] dz bH rfl rfl af) ?_;refine quiet _ (fun w H=>H.ai 2 rfl Ce xl af) ?_;refine aj (Pr k f h nodes steps Bo co Bm cm _ l) ?_;rintro _ q ⟨A,c,rows,st,a,d,e,rfl,j,o⟩;replace H:=H.bq o;refine ⟨.inl (dZ (H.b9 [2,3,4] (by decide) rfl) 8 _ rfl),?_⟩;refine quiet _ (fun w H=>aa (uK _) af) ?_;refine H.fU (cs2:=rK kd ni no v 0 0 0 kv S.n (.slice Bo S.on.length co) (.slice Bm S.may.length cm) (.slice A rows.length c) st a d [] 0 0 0 0 0) 2 rfl dP (Nat.le_of_ble_eq_true rfl) gn rfl ?_;clear H;intro r H;refine ⟨.inl (dZ (H.b9 [2,3,4] (by decide) rfl) 8 _ rfl),?_⟩;refine quiet _ (fun w H=>aa (lg _) af) ?_;refine H.store 2 rfl jI (Nat.le_of_ble_eq_true rfl) rfl ?_;clear H;intro s H;refine ⟨.inl (dZ (H.b9 [2,3,4] (by decide) rfl) 8 _ rfl),?_⟩;have i:=j;rcases j with ⟨p,_,_,_,rfl⟩ | ⟨_,rfl,_⟩
 ·exact .inr ⟨p,_,st,a,d,H.forget.forget⟩
 ·exact .inl ⟨A,c,rows,st,a,d,i,H⟩
theorem uN {S:er}(b:cF S){nodes steps:Int}{rows:List Rw}{st a:Int}(h:qD S nodes steps rows st a 0):∀ x ∈ rows,im S.n S.on.length x:=by
 rcases h with ⟨_,_,_,_,h⟩ | ⟨_,_,(⟨_,_,h,_⟩ | ⟨_,h,_⟩)⟩
 ·cases h
 ·exact fun x c=>((h x c).qz b).ok b
 ·exact h.1
theorem IA {w:World}{A:Option Addr}{n c sz:Nat}{e:TypeId}{xs:List Value}(h:(own e sz (.slice A n c) n xs).ok w):n≤9223372036854775807:=by
 rcases h.2 with ⟨_,h⟩ | ⟨g,cap,cur,_,_,_,b,a,_⟩
 ·omega
 ·unfold maxLen at a;omega
theorem NL:enters prog 26=true:=by kernel_rfl
set_option maxHeartbeats 1000000 in
theorem PO {w0 w:World}{L M:List cS}{S:er}(j:cF S)(rows:List Rw)(k:∀ x ∈ rows,im S.n S.on.length x)(kd ni no:Int)(v:Value)(F:Nat→Prop)(Bo:Option Addr)(co:Nat)(Bm:Option Addr)(cm:Nat)(A:Option Addr)(c:Nat)(st a f:Int)(b g7:Nat)(H:Hp w0 ab w (own 50 3 (.slice A rows.length c) rows.length (flat bd rows)::nB F S Bo co Bm cm::an b 60 (rK kd ni no v 0 0 0 kv S.n (.slice Bo S.on.length co) (.slice Bm S.may.length cm) (.slice A rows.length c) st a f [] 0 0 0 0 0)::an g7 56 #[(ah b)]::L) M) :
  bz prog 26 ([]++[(ah g7)]) w fun _ w'=>
   (rows.length≤64∧∃ v2 h,Hp w0 ab w' (e9 h v2 (rows.map (hZ S.on.length))::an b 60 (rK kd ni no v 1 S.n S.on.length v2 S.n (.slice Bo S.on.length co) (.slice Bm S.may.length cm) (.slice A rows.length c) st a f [] 0 0 0 0 0)::an g7 56 #[(ah b)]::L) M)∨
   (64<rows.length∧Hp w0 ab w' (an b 60 (rK kd ni no v 0 0 0 kv S.n (.slice Bo S.on.length co) (.slice Bm S.may.length cm) (.slice A rows.length c) st a f [] 0 0 0 0 3)::an g7 56 #[(ah b)]::L) M):=by
 refine ar (N:=20) func26 NL rfl rfl rfl (by simp) ?_;refine gG (fun u=>Hp w0 ab u [Iz b 8 [.int .i64 S.n,.slice Bo S.on.length co,.slice Bm S.may.length cm,.slice A rows.length c],an g7 56 #[(ah b)]] M) eN (by kernel_rfl) (dZ ((H.same (aS.drew _)).b9 [2,3] (by decide) rfl) 8 _ rfl) ?_;replace H:=H.same (aS.drew _);generalize w.drew=w1 at H;have l:gi w1 S Bo co Bm cm:=xu (H.get 1 rfl) fun g m=>H.lt _ (.tail _ (.head _)) g m;refine quiet _ (fun w H=>H.load 1 rfl gX rfl af) ?_;refine quiet _ (fun w H=>H.load 1 rfl gX rfl af) ?_;refine quiet _ (fun w H=>H.load 1 rfl gX rfl af) ?_;refine quiet _ (fun w H=>aa (xE _) af) ?_;refine quiet (sf S.n (.slice Bo S.on.length co) (.slice Bm S.may.length cm)) (fun w H=>qP (H.get 0 rfl) 8 0 [.int .i64 S.n,.slice Bo S.on.length co,.slice Bm S.may.length cm] dz bH rfl rfl af) ?_;refine quiet _ (fun w H=>H.load 1 rfl gX rfl af) ?_;refine quiet _ (fun w H=>aa (uK _) af) ?_;refine quiet _ (fun w H=>aa (Cr _ _) af) ?_;refine quiet (.slice A rows.length c) (fun w H=>oX (H.get 0 rfl) 11 3 FZ rfl rfl af) ?_;refine aj (Py j rows k (IA (H.get 0 rfl)) Bo co Bm cm A c _ l (bB (H.get 0 rfl))) ?_;rintro _ r (⟨e,rfl,i⟩ | ⟨e,v2,h,rfl,o⟩)
 ·replace H:=(H.forget.forget).same i;clear i;refine ⟨.inl (dZ (H.b9 [0,1] (by decide) rfl) 8 _ rfl),?_⟩;refine quiet _ (fun w H=>aa (Bp _) af) ?_;refine H.fU (cs2:=rK kd ni no v 0 0 0 kv S.n (.slice Bo S.on.length co) (.slice Bm S.may.length cm) (.slice A rows.length c) st a f [] 0 0 0 0 0) 0 rfl bw (Nat.le_of_ble_eq_true rfl) dH rfl ?_;clear H;intro p H;refine ⟨.inl (dZ (H.b9 [0,1] (by decide) rfl) 8 _ rfl),?_⟩;refine quiet _ (fun w H=>aa (lg _) af) ?_;refine H.store 0 rfl jI (Nat.le_of_ble_eq_true rfl) rfl ?_;clear H;intro q H;refine ⟨.inl (dZ (H.b9 [0,1] (by decide) rfl) 8 _ rfl),?_⟩;exact .inr ⟨e,H⟩
 ·replace H:=(H.forget.forget).bq o;obtain ⟨B,d,hs,rfl,_⟩:=H.get 0 rfl;refine ⟨.inl (dZ (H.b9 [1,2] (by decide) rfl) 8 _ rfl),?_⟩;refine quiet _ (fun w H=>aa (Bp _) af) ?_;refine H.fU (cs2:=rK kd ni no v 1 S.n S.on.length (.slice B (rows.map (hZ S.on.length)).length d) S.n (.slice Bo S.on.length co) (.slice Bm S.may.length cm) (.slice A rows.length c) st a f [] 0 0 0 0 0) 1 rfl bw (Nat.le_of_ble_eq_true rfl) dH rfl ?_;clear H;intro p H;refine ⟨.inl (dZ (H.b9 [1,2] (by decide) rfl) 8 _ rfl),?_⟩;refine quiet _ (fun w H=>aa (lg _) af) ?_;refine H.store 1 rfl jI (Nat.le_of_ble_eq_true rfl) rfl ?_;clear H;intro q H;refine ⟨.inl (dZ (H.b9 [1,2] (by decide) rfl) 8 _ rfl),?_⟩;exact .inl ⟨e,_,h,H⟩
theorem NM:enters prog 28=true:=by kernel_rfl
set_option maxHeartbeats 1000000 in
theorem c28 {w0 w:World}{L M:List cS}{t:Tb}(i:j7 t)(kd ni no:Int)(v v2:Value)(j:Nat→Prop)(c:Int)(d sm e:Value)(st b f:Int)(a g7:Nat)(H:Hp w0 ab w (e9 j v2 t.ls::an a 60 (rK kd ni no v t.kd t.ni t.no v2 c d sm e st b f [] 0 0 0 0 0)::an g7 56 #[(ah a)]::L) (lM::M)) :
  bz prog 28 ([]++[(ah g7)]) w fun _ w'=>
   Hp w0 ab w' (an a 60 (rK kd ni no v t.kd t.ni t.no v2 c d sm e st b f (cP t) 0 0 0 0 0)::an g7 56 #[(ah a)]::L) (lM::M):=by
 refine ar (N:=16) func28 NM rfl rfl rfl (by simp) ?_;refine gG (fun u=>Hp w0 ab u [Iz a 4 [.int .i64 t.kd,.int .i64 t.ni,.int .i64 t.no,v2],an g7 56 #[(ah a)]] (lM::M)) eN (by kernel_rfl) (dZ ((H.same (aS.drew _)).b9 [1,2] (by decide) rfl) 4 _ rfl) ?_;replace H:=H.same (aS.drew _);generalize w.drew=w1 at H;have k:jm w1 v2 t.ls:=qE.mono (H.get 0 rfl) fun g l=>H.lt _ (.head _) g l;refine quiet _ (fun w H=>H.load 1 rfl gX rfl af) ?_;refine quiet _ (fun w H=>H.load 1 rfl gX rfl af) ?_;refine quiet _ (fun w H=>H.load 1 rfl gX rfl af) ?_;refine quiet _ (fun w H=>aa (Bp _) af) ?_;refine quiet (sN t.kd t.ni t.no v2) (fun w H=>qP (H.get 0 rfl) 4 0 [.int .i64 t.kd,.int .i64 t.ni,.int .i64 t.no,v2] eL bw rfl rfl af) ?_;refine aj (Pz i v2 _ (H.ro 0 rfl) k) ?_;rintro _ m ⟨rfl,h⟩;replace H:=(H.forget).same h;clear h;refine ⟨.inl (dZ (H.b9 [0,1] (by decide) rfl) 4 _ rfl),?_⟩;refine quiet _ (fun w H=>aa (uL _) af) ?_;refine quiet _ (fun w H=>aa (GB _ _) af) ?_;refine H.store 0 rfl qc (Nat.le_of_ble_eq_true rfl) rfl ?_;clear H;intro n H;refine ⟨.inl (dZ (H.b9 [0,1] (by decide) rfl) 4 _ rfl),?_⟩;refine quiet _ (fun w H=>aa (lg _) af) ?_;refine H.store 0 rfl jI (Nat.le_of_ble_eq_true rfl) rfl ?_;clear H;intro o H;refine ⟨.inl (dZ (H.b9 [0,1] (by decide) rfl) 4 _ rfl),?_⟩;exact H
end Go.Proofs.YtpjihhgjbbihkaaGreatDoor
