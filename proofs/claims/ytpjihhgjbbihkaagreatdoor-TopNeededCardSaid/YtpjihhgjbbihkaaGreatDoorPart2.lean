import Derived.Test.YtpjihhgjbbihkaaGreatDoorPart1
import Derived.Test.YtpjihhgjbbihkaaGreatDoorRows
import Derived.WalkKit
import Derived.ProofKit
import Derived.OpenShut
import Derived.Below
import Derived.ChangeSame
import Derived.Carry
import Derived.ChangeMaps5
import Derived.ChangeArms
import Derived.DataReads
namespace Go.Proofs.YtpjihhgjbbihkaaGreatDoor
open Go.Proofs.Tryz
set_option maxRecDepth 100000
open Go.Dk
attribute [local irreducible] IntKind.wrap
def lz (l:List Bool):Nat:=rE fun p=>l.getD p false
def part (l:List Bool)(m:Nat):Nat:=mkSet (fun p=>l.getD p false) m
theorem ij {l:List Bool}{i k j:Nat}(c:k≤64)(d:j≠i):word (part l (64*i+k)) j=word (part l (64*i)) j:=by
 apply Nat.eq_of_testBit_eq;intro b;simp only[ct,part,bW];by_cases a:b<64
 ·have:decide (64*j+b<64*i+k)=decide (64*j+b<64*i):=by rw[Bool.eq_iff_iff];simp;omega
  rw[this]
 ·simp[a]
theorem td (l:List Bool)(i k:Nat)(c:k<64):word (part l (64*i+(k+1))) i=word (part l (64*i+k)) i+if l.getD (64*i+k) false then 2^k else 0:=by
 have e:part l (64*i+(k+1))=part l (64*i+k)+if l.getD (64*i+k) false then 2^(64*i+k) else 0:=rfl;rw[e];have a:part l (64*i+k)<2^(64*i+k):=fa _ _;have d:part l (64*i+k) / 2^(64*i)<2^k:=by
  apply Nat.div_lt_of_lt_mul;rw[← Nat.pow_add];exact a
 have f:2^(k+1)≤2^64:=Nat.pow_le_pow_right (by decide) (by omega);have g:2^(k+1)=2^k*2:=Nat.pow_succ ..;unfold word;split
 ·have b:2^(64*i+k)=2^k*2^(64*i):=by rw[Nat.pow_add,Nat.mul_comm]
  rw[b,Nat.add_mul_div_right _ _ (Nat.two_pow_pos _),Nat.mod_eq_of_lt (by omega),Nat.mod_eq_of_lt (by omega)]
 ·simp
theorem LN:enters prog 37=true:=by kernel_rfl
theorem c37 (l:List Bool)(z:l.length=256)(A:Option Addr)(c:Nat)(w:World)(hs:Sl w (.slice A 256 c) 1 256 (ig l)):bw prog 37 [.slice A 256 c] w fun v w'=>v=sv (lz l)∧aT w w':=by
 refine ar (N:=30) func37 LN rfl rfl rfl (by simp) ?_;obtain ⟨g,o,rfl⟩:=hs.A (by omega);have H:=Hp.aC w;refine H.alloc 86 (cs:=sc 0) br aY ?_;intro g1 B H;refine H.alloc 86 (cs:=sc 0) br aY ?_;intro g2 C H;refine ax (γ:=Nat) (fun i=>[(4,.int .i64 (i:Int))])
  (fun i w'=>i≤4∧Hp w ab w' [an g2 86 (sc (part l (64*i))),an g1 86 (sc 0)] []) (fun i=>4 - i) 0 ⟨rfl,trivial⟩ ⟨by decide,H⟩ ?_
 clear H;rintro i u D ⟨hi,H⟩;refine aE (fun h=>?_) (fun h=>?_)
 ·have d:i<4:=by have:=of_decide_eq_true h;omega
  refine ax (γ:=Nat) (fun k=>[(5,.int .i64 (k:Int))])
   (fun k w'=>k≤64∧Hp w ab w' [an g2 86 (sc (part l (64*i+k))),an g1 86 (sc 0)] []) (fun k=>64 - k) 0 ⟨rfl,trivial⟩ ⟨by decide,H⟩ ?_
  clear H;rintro k E F ⟨s,H⟩;refine aE (fun h=>?_) (fun h=>?_)
  ·have f:k<64:=by have:=of_decide_eq_true h;omega
   have m:64*i+k<l.length:=by omega
   have n:l.getD (64*i+k) false=l[64*i+k]:=by simp[m]
   refine ao underlying37 iN (64*i+k) ?_ (by omega) (o':=o+(64*i+k)) (by omega) ?_
   ·rw[aH (x:=64*(i:Int)) (by omega) (by omega),aH (by omega) (by omega)];omega
   refine H.dq hs wm _ rfl (GO m) ?_;have a:=td l i k f;rw[n] at a;refine aE (fun p=>?_) (fun p=>?_)
   ·rw[p] at a;refine gY (fun w'=>Hp w ab w' [an g2 86 (sc (part l (64*i+k))),an g1 86 (sc 0)] []) eO (by kernel_rfl) (H.same (aS.drew _)) ?_;refine quiet (.pointer (some ⟨g2,i,none⟩)) (fun w _=>aK underlying86 js i rfl d (by omega) ae) ?_;refine quiet (.int .u64 (word (part l (64*i+k)) i:Int)) (fun w H=>H.load 0 rfl tc (kP _ i d) ae) ?_;refine aj (NO k (by omega) _) ?_;rintro v y ⟨rfl,s⟩;have H:=(H.same (aS.drew _)).same s;refine ⟨.inl H,?_⟩;refine quiet (.pointer (some ⟨g2,i,none⟩)) (fun w _=>aK underlying86 js i rfl d (by omega) ae) ?_;refine H.store 0 rfl js (by show i<4;omega) rfl ?_;intro G H;refine ⟨.inr (by kernel_rfl),?_⟩;refine ⟨k+1,by omega,⟨up (by omega),trivial⟩,by omega,?_⟩;have e:(sc (part l (64*i+k))).setIfInBounds i (.int .u64 (IntKind.u64.wrap ((word (part l (64*i+k)) i:Int)+((2^k:Nat):Int))))=sc (part l (64*i+(k+1))):=by
     refine ta (by simp[sc]) fun j r=>?_;by_cases b:j=i
     ·subst b;rw[Array.getElem?_setIfInBounds_self_of_lt (by show j<4;omega),a];have t:=lx (part l (64*j+(k+1))) j;rw[a] at t;simp only[if_true] at t ⊢;generalize 2^k=q at *;rw[jO (by omega) (by omega),Int.natCast_add]
     ·rw[Array.getElem?_setIfInBounds_ne (Ne.symm b),kP _ j r,ij (by omega) b,ij (by omega) b]
    rw[← e];exact H
   ·rw[p] at a;have e:sc (part l (64*i+(k+1)))=sc (part l (64*i+k)):=by
     refine (ta rfl fun j r=>?_).symm;rw[kP _ j r];by_cases b:j=i
     ·subst b;rw[a];simp
     ·rw[ij (by omega) b,ij (by omega) b]
    refine ⟨k+1,by omega,⟨up (by omega),trivial⟩,by omega,?_⟩;rw[e];exact H
  ·have f:k=64:=by have:=of_decide_eq_false h;omega
   subst f;exact ⟨i+1,by omega,⟨up (by omega),trivial⟩,by omega,H⟩
 ·have d:i=4:=by have:=of_decide_eq_false h;omega
  subst d;refine H.ai 0 rfl aD av ?_;refine H.storeAll 1 rfl av rfl (fx _) ?_;intro y H;refine H.ai 1 rfl aD av ?_;exact ⟨rfl,rfl,H.keeps⟩
def nE (n:Nat):List Bool:=(List.range 256).map fun p=>decide (p<2^n)
def o8 (j:Nat):List Bool:=(List.range 256).map fun p=>decide (p<j)
theorem zO:o8 0=List.replicate 256 false:=by simp[o8,List.map_const']
theorem zP {j:Nat}(_:j<256):(o8 j).set j true=o8 (j+1):=by
 apply List.ext_getElem (by simp[o8]);intro p a b;simp only[o8,List.length_set,List.length_map,List.length_range] at a;rw[List.getElem_set];simp only[o8,List.getElem_map,List.getElem_range];by_cases h:j=p
 ·subst h;simp
 ·simp[h];omega
theorem nF (n:Nat):(madeCells (Value.bool false).cells (n*1)).toList=List.replicate n (.bool false):=by
 rw[Nat.mul_one];exact toList_madeCells_one _ _
theorem LO:enters prog 11=true:=by kernel_rfl
theorem OY (n:Nat)(a:n≤8)(w:World):bw prog 11 [.int .i64 (n:Int)] w fun v w'=>∃ A c,v=.slice A 256 c∧eE w w' (own 4 1 (.slice A 256 c) 256 (ig (nE n))):=by
 refine ar (N:=17) func11 LO rfl rfl rfl (by simp) ?_;have H:=Hp.aC w;refine H.make Jl 256 rfl rfl (by omega) (by omega) ?_;intro g e H;rw[nF,show List.replicate 256 (Value.bool false)=ig (o8 0) from by rw[zO];exact List.map_replicate.symm] at H;have f:2^n≤2^8:=Nat.pow_le_pow_right (by decide) a;refine ax (γ:=Nat) (fun j=>[(4,.int .i64 (j:Int))])
  (fun j w'=>j≤2^n∧Hp w ab w' [own 4 1 (.slice (some ⟨g,0,none⟩) 256 256) 256 (ig (o8 j))] []) (fun j=>2^n - j) 0 ⟨rfl,trivial⟩ ⟨Nat.zero_le _,H⟩ ?_
 clear H;rintro j u i ⟨k,H⟩;refine jP (by kernel_rfl) underlying81 ?_;refine aj (NO n (by omega) _) ?_;rintro v l ⟨rfl,b⟩;have H:=H.same b;rw[jO (by omega) (by omega)];refine aE (fun h=>?_) (fun h=>?_)
 ·have d:j<2^n:=by have:=of_decide_eq_true h;omega
  refine ao underlying37 iN j rfl (by omega) (o':=j) (by omega) ?_;refine H.dc 0 rfl iN (by rw[ig,List.length_map,o8,List.length_map,List.length_range];omega) rfl ?_;intro m H;refine ⟨j+1,by omega,⟨up (by omega),trivial⟩,by omega,?_⟩;rw[← zP (by omega),ig,List.map_set];exact H
 ·have:j=2^n:=by have:=of_decide_eq_false h;omega
  subst this;exact ⟨_,_,rfl,H.out⟩
theorem LP:enters prog 67=true:=by kernel_rfl
theorem OZ (n:Nat)(w:World):bw prog 67 [sv n] w fun v w'=>∃ A c,v=.slice A (cI n).length c∧eE w w' (own 3 1 (.slice A (cI n).length c) (cI n).length (ints (cI n))):=by
 refine ar (N:=21) func67 LP rfl rfl rfl (by simp) ?_;have H:=Hp.aC w;refine H.box 86 (sv n) (cs:=sc n) rfl ?_;intro g1 p H;refine H.ai 0 rfl aD av ?_;refine aj (NP n _) ?_;rintro v m ⟨A,c,rfl,f⟩;have H:=H.bq f;obtain ⟨g,rfl⟩:=H.lY 0 rfl (by omega);have H:=H.bx 3 1;refine ax (γ:=Nat × Option Addr × Nat) (fun (i,A,c)=>[(5,.int .i64 (i:Int)),(4,.slice A (aN n i).length c)])
  (fun (i,A,d) w'=>i≤256∧Hp w ab w' [own 3 1 (.slice A (aN n i).length d) (aN n i).length (ints (aN n i)),own 4 1 (.slice (some ⟨g,0,none⟩) 256 c) 256 (ig (j0 n)),an g1 86 (sc n)] [])
  (fun (i,_,_)=>256 - i) (0,none,0) ⟨rfl,rfl,trivial⟩ ⟨by decide,H⟩ ?_
 clear H f;rintro ⟨i,A,d⟩ u m ⟨hi,H⟩;have q:=eK n i;refine aE (fun h=>?_) (fun h=>?_)
 ·have a:i<256:=by have:=of_decide_eq_true h;omega
  refine ao underlying37 iN i rfl a (o':=i) (by omega) ?_;refine H.ec 1 rfl wm (jt a) ?_;refine aE (fun b=>?_) (fun b=>?_)
  ·refine H.aX dH rfl ?_;intro g2 r H;refine H.cn 0 dH rfl rfl (by omega) (by omega) ?_;intro j k s H;have e:aN n (i+1)=aN n i++[i]:=by rw[iD,if_pos b]
   have l:(aN n (i+1)).length=(aN n i).length+1:=by rw[e];simp
   have o:ints (aN n (i+1))=ints (aN n i)++[.int .i64 (i:Int)]:=by rw[e];simp[ints]
   refine ⟨(i+1,j,k),by show 256 - (i+1)<256 - i;omega,⟨up (by omega),by rw[l];rfl,trivial⟩,by show i+1≤256;omega,?_⟩;show Hp w _ _ [own 3 1 (.slice j (aN n (i+1)).length k) (aN n (i+1)).length (ints (aN n (i+1))),_,_] [];rw[l,o];exact H
  ·have e:aN n (i+1)=aN n i:=by rw[iD,b];simp
   refine ⟨(i+1,A,d),by show 256 - (i+1)<256 - i;omega,⟨up (by omega),by rw[e];rfl,trivial⟩,by show i+1≤256;omega,?_⟩;show Hp w _ _ [own 3 1 (.slice A (aN n (i+1)).length d) (aN n (i+1)).length (ints (aN n (i+1))),_,_] [];rw[e];exact H
 ·have a:i=256:=by have:=of_decide_eq_false h;omega
  subst a;exact ⟨A,d,rfl,H.out⟩
theorem CC (n:Nat):lz (nE n)=bp n:=by
 refine n_ (dp _) (dp _) fun p a=>?_;rw[lz,bO,bp,bO];simp[a,nE]
end Go.Proofs.YtpjihhgjbbihkaaGreatDoor
namespace Go.Dk
set_option maxRecDepth 100000
open Go.ChangeShapes Go.WideShapes Go.ChangeAt Go.RowKit
section
variable {H:Type} {enc:TypeId × Value→H} {P:Program}
theorem aS.below {w w':World}(h:aT w w'):Below w.heap.size w w':=
 ⟨h.os,h.tape,h.output,h.size,fun k a=>h.old k a (fun h=>h)⟩
theorem uL (m:laidOutB P=true){W k:World}{sp:Nat→Bool}(n:Below W.heap.size W k):∀ (b:List TypeId) (e:List Value) (f:List (DataW H)) (c:List MemPlace),
  (∀ t ∈ b,P.readableRec t=true∧t<P.types.size)→DataW.TrodAll enc P W 0 (fun _=>true) true b e f c→(∀ x ∈ c,x.block<W.heap.size)→(∀ x ∈ c,sp x.block=true)→DataW.TrodAll enc P k 0 sp true b e f c:=by
 intro b
 induction b with
 | nil=>
  intro e f c _ h _ _;obtain ⟨rfl,rfl,rfl⟩:=trodAll_nil h;exact rfl
 | cons t b ih=>
  intro e f c l h g i;obtain ⟨v,e,d,f,p,q,rfl,rfl,rfl,o,r⟩:=trodAll_cons h;have j:=l t (.head _);exact ⟨p,q,WideElems.Trod_stays m j.1 j.2 o (fun x a=>n.same (g x (by simp[a]))) (fun x a=>i x (by simp[a])),ih _ _ _ (fun u hu=>l u (.tail _ hu)) r (fun x a=>g x (by simp[a])) (fun x a=>i x (by simp[a])),rfl⟩
def Ek (P:Program)(f:Func)(W:World)(args:Array Value):Prop:=
 (∃ base:Nat,∀ (j:Nat) t v,f.params[j]?=some t→args[j]?=some v→Value.okWide P W .any base t v)∧
 ∃ (H:Type) (enc:TypeId × Value→H) (a:List (DataW H)) (b:List MemPlace),DataW.TrodAll enc P W 0 (fun _=>true) true f.params.toList args.toList a b
end
theorem bw.answers {P:Program}{g:FuncId}{args:List Value}{w:World}(h:bw P g args w fun v w'=>v=.bool true∧aT w w') :
  Calls P g args.toArray w fun e a=>e=.returned (.bool true)∧aT w a:=h.2.mono fun _ _ ⟨_,he,b,hs⟩=>⟨by rw[he,b],hs⟩
section
variable {H:Type} {enc:TypeId × Value→H} {P:Program} {w:World} {base b:Nat} {spare:Nat→Bool} {held:Bool} {t:TypeId}
end
end Go.Dk
namespace Go.Proofs.YtpjihhgjbbihkaaGreatDoor
open Go.Proofs.Tryz
set_option maxRecDepth 100000
open Go.Dk Go.ChangeShapes Go.WideShapes Go.ChangeAt Go.RowKit
section
variable {H:Type} {enc:TypeId × Value→H} {w:World} {base b:Nat} {spare:Nat→Bool} {held:Bool}
end
theorem laidOut:laidOutB prog=true:=by kernel_rfl
end Go.Proofs.YtpjihhgjbbihkaaGreatDoor
namespace Go.Proofs.YtpjihhgjbbihkaaGreatDoor
set_option maxRecDepth 100000
open Go.Dk
attribute [local irreducible] IntKind.wrap
theorem sd (l:List Bool)(p:Nat):(lz l).testBit p=(decide (p<256)&&l.getD p false):=by
 rw[lz,bO]
theorem El {n p:Nat}(a:p ∈ cI n):p<256:=(ck.1 a).1
open Go.Proofs.Tryz
def cc (c s:Nat):Array Value:=#[.int .u8 (c:Int),.int .u8 (s:Int)]
def cv (c s:Nat):Value:=.agg (cc c s)
theorem fj:eL prog 48=some (.agg #[.int .u8 0,.int .u8 0]):=by kernel_rfl
theorem bz:cP prog 48=some true:=by kernel_rfl
theorem aO:bE prog 48=some 2:=by kernel_rfl
theorem b5:cP prog 5=some false:=by kernel_rfl
theorem j4:bE prog 5=some 1:=by kernel_rfl
theorem wq (c s:Nat):∀ v ∈ (cc c s).toList,v.oneCell'=true:=by
 intro v a;simp[cc] at a;rcases a with rfl | rfl <;> rfl
theorem cj (g:Nat)(w:World):(Instr.fieldAt 48 (ah g) 0).run prog w=.ok (ah g) w:=by kernel_rfl
theorem fO (g:Nat)(w:World):(Instr.fieldAt 48 (ah g) 1).run prog w=.ok (.pointer (some ⟨g,1,none⟩)) w:=by kernel_rfl
theorem GP {c s:Nat}{w:World}{kk:Value→World→Prop}(h:kk (cv c s) w):b8 prog 48 [(0,.int .u8 (c:Int)),(1,.int .u8 (s:Int))] w kk:=
 bt (fun w=>by kernel_rfl) h
theorem l9 {w:World}{kk:Value→World→Prop}(h:kk (cv 0 0) w):b8 prog 48 [] w kk:=
 bt (fun w=>by kernel_rfl) h
theorem LQ:Tryz.prog.eqGuardType Tryz.prog.depth 48=false:=by kernel_rfl
theorem yl (a b c d:Nat)(w:World):(Op.equal 48 (cv a b) (cv c d)).run prog w=.ok (a==c&&b==d) w:=by
 have g:∀ e,(Op.equalIn (e+2) 48 (cv a b) (cv c d)).run prog w=.ok (a==c&&b==d) w:=by
  intro e;unfold cv;rw[Op.equalIn];have i0:=dN underlying5 e (a:Int) (c:Int);have i1:=dN underlying5 e (b:Int) (d:Int);have h:∀ (x y:Nat) w,(Go.part 5 (cc x y) 0).run prog w=.ok (.int .u8 (x:Int)) w:=fun x y w=>gv b5 rfl w;have i:∀ (x y:Nat) w,(Go.part 5 (cc x y) 1).run prog w=.ok (.int .u8 (y:Int)) w:=fun x y w=>gv b5 rfl w;have e0:((a:Int)==(c:Int))=(a==c):=by rw[Bool.eq_iff_iff,beq_iff_eq,beq_iff_eq,Int.natCast_inj]
  have j:((b:Int)==(d:Int))=(b==d):=by rw[Bool.eq_iff_iff,beq_iff_eq,beq_iff_eq,Int.natCast_inj]
  rw[e0] at i0;rw[j] at i1;generalize (a==c)=b0 at *;generalize (b==d)=b1 at *;have f:Tryz.prog.stoodInHeld 48=false:=by kernel_rfl
  simp only[Sem.run_bind,run_underlying underlying48,Result.andThen_ok,Go.Dk.run_sizeOf aO,run_program,f]
  cases b0 <;> cases b1 <;> simp[h,i,i0,i1]
 exact g 9998
theorem _root_.Go.Dk.Hp.aW {w0 w:World}{F:Nat→Prop}{L M:List cH}{k:Value→World→Prop}(H:Hp w0 F w L M)(n:Nat){g a b:Nat}(c:L[n]?=some (an g 86 (sc a)))(h:∀ w',Hp w0 F w' (L.set n (an g 86 (sc b))) M→k undef w'):im prog 86 (ah g) (sv b) w k:=
 H.storeAll n c av rfl (fx _) h
theorem _root_.Go.Dk.Hp.bR {w0 w:World}{F:Nat→Prop}{L M:List cH}{k:Value→World→Prop}(H:Hp w0 F w L M)(n:Nat){g a b c d:Nat}(e:L[n]?=some (an g 48 (cc a b)))(h:∀ w',Hp w0 F w' (L.set n (an g 48 (cc c d))) M→k undef w'):im prog 48 (ah g) (cv c d) w k:=
 H.storeAll n e aO rfl (wq _ _) h
theorem II:enters prog 75=true:=by kernel_rfl
theorem LR (m v:Nat)(n:Int)(c:n<0∨8<n)(w:World):bw prog 75 [cv m v,.int .i64 n] w fun r w'=>r=.bool false∧aT w w':=by
 refine ar (N:=27) func75 II rfl rfl rfl (by simp) ?_;have H:=Hp.aC w;refine H.box 48 (cv _ _) (cs:=cc _ _) rfl ?_;clear H;intro g1 d H;refine H.draw eO (by kernel_rfl) ?_;clear H;intro e H;refine aE (fun a=>?_) (fun a=>?_)
 ·refine ag (by assumption) ?_;refine ag (by assumption) ?_;refine aE (fun b=>?_) (fun b=>?_)
  ·refine quiet _ (fun w H=>aa (cj _) ae) ?_;refine ag (by assumption) ?_;refine quiet _ (fun w H=>H.load 0 rfl b5 rfl ae) ?_;refine ag (by assumption) ?_;refine quiet _ (fun w H=>jP (by kernel_rfl) underlying3 ae) ?_
   iterate 2 refine ag (by assumption) ?_
   exfalso;simp only[decide_eq_true_eq,decide_eq_false_iff_not] at *;omega
  ·refine af (by assumption) ?_
   iterate 5 refine af (by assumption) ?_
   iterate 7 refine af rfl ?_
   exact ⟨rfl,H.keeps⟩
 ·refine af (by assumption) ?_;refine af (by assumption) ?_
  iterate 14 refine af rfl ?_
  exact ⟨rfl,H.keeps⟩
theorem IJ (m v:Nat)(hm:m<256)(d:v<256)(n:Nat)(e:n≤8)(w:World):bw prog 75 [cv m v,.int .i64 (n:Int)] w fun r w'=>r=.bool (dJ m v n)∧aT w w':=by
 refine ar (N:=27) func75 II rfl rfl rfl (by simp) ?_;have H:=Hp.aC w;refine H.box 48 (cv _ _) (cs:=cc _ _) rfl ?_;clear H;intro g1 f H;refine H.draw eO (by kernel_rfl) ?_;clear H;intro g H
 iterate 3 refine ag rfl ?_
 refine ag (decide_eq_true (by omega)) ?_;refine quiet _ (fun w H=>aa (cj _) ae) ?_;refine ag (decide_eq_true (by omega)) ?_;refine quiet _ (fun w H=>H.load 0 rfl b5 rfl ae) ?_;refine ag (decide_eq_true (by omega)) ?_;refine quiet _ (fun w H=>iK (by kernel_rfl) underlying3 (by omega) (by omega) ae) ?_
 iterate 2 refine ag (decide_eq_true (by omega)) ?_
 refine quiet _ (fun w H=>c6 (by omega) ae) ?_
 iterate 2 refine ag (decide_eq_true (by omega)) ?_
 refine aE (fun a=>?_) (fun a=>?_)
 ·refine quiet _ (fun w H=>aa (fO _) ae) ?_;refine ag (by assumption) ?_;refine quiet _ (fun w H=>H.load 0 rfl b5 rfl ae) ?_;refine ag (by assumption) ?_;refine quiet _ (fun w H=>aa (cj _) ae) ?_;refine ag (by assumption) ?_;refine quiet _ (fun w H=>H.load 0 rfl b5 rfl ae) ?_;refine ag (by assumption) ?_;refine quiet _ (fun w H=>jD (by omega) (by omega) ae) ?_
  iterate 2 refine ag (by assumption) ?_
  refine ⟨congrArg Value.bool ?_,H.keeps⟩;have b:m<2^n:=by have:=of_decide_eq_true a;exact_mod_cast this
  have c:(n:Int)≤8:=by omega
  simp only[dJ,Int.toNat_natCast,b,c,decide_true,Bool.true_and,Int.natCast_nonneg];rw[Bool.eq_iff_iff,beq_iff_eq,beq_iff_eq];omega
 ·refine af (by assumption) ?_
  iterate 5 refine af (by assumption) ?_
  refine ⟨congrArg Value.bool ?_,H.keeps⟩;have b:¬ m<2^n:=by have:=of_decide_eq_false a;exact_mod_cast this
  simp[dJ,b]
theorem c75 (m v:Nat)(hm:m<256)(a:v<256)(n:Int)(w:World):bw prog 75 [cv m v,.int .i64 n] w fun r w'=>r=.bool (dJ m v n)∧aT w w':=by
 by_cases h:n<0∨8<n
 ·have e:dJ m v n=false:=by unfold dJ;rcases h with h | h <;> simp <;> omega
  rw[e];exact LR m v n h w
 ·obtain ⟨k,rfl⟩:=Int.eq_ofNat_of_zero_le (show 0≤n by omega);exact IJ m v hm a k (by omega) w
theorem Jm:enters prog 161=true:=by kernel_rfl
theorem NQ (m v:Nat)(hm:m<256)(b:v<256)(w:World):bw prog 161 [cv m v] w fun r w'=>r=cv m (v &&&m)∧aT w w':=by
 refine ar (N:=11) func161 Jm rfl rfl rfl (by simp) ?_;have H:=Hp.aC w;refine H.box 48 (cv _ _) (cs:=cc _ _) rfl ?_;clear H;intro g1 c H;refine H.alloc 48 (cs:=cc 0 0) fj rfl ?_;clear H;intro g2 d H;refine aa (cj _) ?_;refine H.load 1 rfl b5 rfl ?_;refine aa (fO _) ?_;refine H.load 1 rfl b5 rfl ?_;refine aa (cj _) ?_;refine H.load 1 rfl b5 rfl ?_;refine dV (by omega) (by omega) ?_;refine GP ?_;refine H.bR 0 rfl ?_;clear H;intro a H;refine H.ai 0 rfl bz aO ?_;refine ⟨rfl,?_⟩;exact ⟨rfl,H.keeps⟩
theorem IK:enters prog 82=true:=by kernel_rfl
theorem LS (m v:Nat)(hm:m<256)(b:v<256)(n:Int)(c:dJ m v n=false)(w:World):bw prog 82 [cv m v,.int .i64 n] w fun r w'=>r=.tuple #[sv 0,.int .i64 1]∧aT w w':=by
 refine ar (N:=31) func82 IK rfl rfl rfl (by simp) ?_;have H:=Hp.aC w;refine H.box 48 (cv _ _) (cs:=cc _ _) rfl ?_;clear H;intro g1 d H;refine H.alloc 86 (cs:=sc 0) br aY ?_;clear H;intro g2 e H;refine H.ai 1 rfl bz aO ?_;refine aj (c75 _ _ (by first | assumption | omega | decide) (by first | assumption | omega | decide) _ _) ?_;rintro _ f ⟨rfl,a⟩;replace H:=H.same a;clear a;refine ag (by simp only[*,Bool.not_false,Bool.not_true]) ?_;refine ov ?_;refine H.aW 0 rfl ?_;clear H;intro g H;refine H.ai 0 rfl aD av ?_;refine ⟨rfl,?_⟩;exact ⟨rfl,H.keeps⟩
def te (m v k:Nat):Nat:=fW ((List.range k).filter fun p=>p &&&m==v)
theorem ym (m v k:Nat):te m v (k+1)=if k &&&m=v then te m v k |||2^k else te m v k:=by
 unfold te;rw[List.range_succ,List.filter_append];by_cases h:k &&&m=v
 ·rw[if_pos h,List.filter_cons_of_pos (by simpa using h),List.filter_nil,kF]
 ·rw[if_neg h,List.filter_cons_of_neg (by simpa using h),List.filter_nil,List.append_nil]
theorem Em (m v:Nat)(hm:m<256)(j:v<256)(n:Nat)(c:n≤8)(k:dJ m v n=true)(w:World):bw prog 82 [cv m v,.int .i64 (n:Int)] w fun r w'=>r=.tuple #[sv (bd m v n),.int .i64 0]∧aT w w':=by
 refine ar (N:=31) func82 IK rfl rfl rfl (by simp) ?_;have H:=Hp.aC w;have d:2^n≤256:=Nat.le_trans (Nat.pow_le_pow_right (by decide) c) (show 2^8≤256 by decide);rw[DR m v c];refine H.box 48 (cv _ _) (cs:=cc _ _) rfl ?_;clear H;intro g1 l H;refine H.alloc 86 (cs:=sc 0) br aY ?_;clear H;intro g3 o H;refine H.ai 1 rfl bz aO ?_;refine aj (c75 _ _ (by first | assumption | omega | decide) (by first | assumption | omega | decide) _ _) ?_;rintro _ p ⟨rfl,a⟩;replace H:=H.same a;clear a;refine af (by simp only[*,Bool.not_false,Bool.not_true]) ?_;refine H.alloc 86 (cs:=sc 0) br aY ?_;clear H;intro g7 q H;refine c6 (by omega) ?_;generalize 2^n=N at d ⊢;refine ax (γ:=Nat) (fun i=>[(15,.int .i64 (i:Int))]) (fun i w'=>i≤N∧Hp w ab w' [an g7 86 (sc (te m v i)),an g3 86 (sc 0),an g1 48 (cc m v)] []) (fun i=>N - i) 0 ⟨rfl,trivial⟩ ⟨by omega,H⟩ ?_;clear H;rintro i u s ⟨hi,H⟩;have hs:=ym m v i;refine au (fun e=>?_) (fun e=>?_)
 ·refine j_ (by kernel_rfl) underlying5 (by omega) (by omega) ?_;refine aa (cj _) ?_;refine H.load 2 rfl b5 rfl ?_;refine dV (by omega) (by omega) ?_;refine aa (fO _) ?_;refine H.load 2 rfl b5 rfl ?_;refine au (fun b=>?_) (fun b=>?_)
  ·refine H.ai 0 rfl aD av ?_;refine aj (pZ _ _ (by first | assumption | omega | decide) _) ?_;rintro _ f ⟨rfl,a⟩;replace H:=H.same a;clear a;refine H.aW 0 rfl ?_;clear H;intro g H;refine ⟨i+1,by omega,⟨up (by omega),trivial⟩,by omega,?_⟩;rw[if_pos (by omega)] at hs;rw[hs];exact H
  ·refine ⟨i+1,by omega,⟨up (by omega),trivial⟩,by omega,?_⟩;rw[if_neg (by omega)] at hs;rw[hs];exact H
 ·refine H.ai 0 rfl aD av ?_;refine H.aW 1 rfl ?_;clear H;intro h H;refine H.ai 1 rfl aD av ?_;refine ⟨rfl,?_⟩
  (obtain rfl:i=N:=by omega)
  exact ⟨rfl,H.keeps⟩
theorem NR (m v:Nat)(hm:m<256)(a:v<256)(n:Int)(w:World):bw prog 82 [cv m v,.int .i64 n] w fun r w'=>r=(if dJ m v n then .tuple #[sv (bd m v n.toNat),.int .i64 0] else .tuple #[sv 0,.int .i64 1])∧aT w w':=by
 cases h:dJ m v n with
 | false=>exact LS m v hm a n h w
 | true=>
  have b:=(ep hm a).1 h;obtain ⟨k,rfl⟩:=Int.eq_ofNat_of_zero_le b.1;exact Em m v hm a k (by omega) h w
theorem En:qI prog 151 5 (.int .u8 0) 1 1:=⟨underlying151,by kernel_rfl,rfl,by decide⟩
theorem ju (l:List Nat)(x:Nat):ints l++[.int .i64 (x:Int)]=ints (l++[x]):=by simp[ints]
theorem p4 (k:IntKind)(x i:Nat):Value.int k ((x / 2^i / 2:Nat):Int)=Value.int k ((x / 2^(i+1):Nat):Int):=by
 rw[Nat.div_div_eq_div_mul,Nat.pow_succ]
theorem p5 (m i:Nat):m / 2^i % 2=if m.testBit i then 1 else 0:=by
 rw[Nat.testBit_eq_decide_div_mod_eq];generalize m / 2^i=q;by_cases h:q % 2=1
 ·simp[h]
 ·simp[h];omega
theorem mK {m:Nat}(hm:m<256)(i:Nat):m / 2^i<256:=Nat.lt_of_le_of_lt (Nat.div_le_self _ _) hm
theorem CD (n:Nat):(madeCells (Value.int .u8 0).cells (n*1)).toList=fN (List.replicate n 0):=by
 rw[Nat.mul_one,show (Value.int .u8 0).cells=#[.int .u8 0] from rfl,toList_madeCells_one,fN,List.map_replicate];rfl
def rT (m v n i:Nat):List UInt8:=dK m v i++List.replicate (n - i) 0
theorem wu (m v:Nat){n i:Nat}(hi:i≤n):(rT m v n i).length=n:=by simp[rT,dK];omega
theorem qY {m v n i:Nat}(hi:i<n):(rT m v n i).set i (zz m v i)=rT m v n (i+1):=by
 unfold rT;rw[zA,List.set_append_right _ _ (by rw[iF];exact Nat.le_refl _),iF,Nat.sub_self,show n - i=(n - (i+1))+1 by omega,List.replicate_succ,List.set_cons_zero];simp
theorem po (l:List UInt8)(i:Nat)(b:UInt8):(fN l).set i (.int .u8 (b.toNat:Int))=fN (l.set i b):=by simp[fN,List.map_set]
theorem wv {a b c:Nat}{x:Int}(h:x=(c:Int)):(cc a b).setIfInBounds 0 (.int .u8 x)=cc c b:=by subst h;rfl
theorem BD {a b c:Nat}{x:Int}(h:x=(c:Int)):(cc a b).setIfInBounds 1 (.int .u8 x)=cc a c:=by subst h;rfl
theorem yn (k:IntKind)(m:Nat):Value.int k (m:Int)=Value.int k ((m / 2^0:Nat):Int):=by rw[Nat.pow_zero,Nat.div_one]
theorem p6 {i:Nat}(hi:i<8):2^i % 256=2^i∧2^i≤128:=by
 have:∀ i,i<8→2^i % 256=2^i∧2^i≤128:=by decide
 exact this i hi
theorem LU {f:Nat→Bool}{i:Nat}(hi:i<8)(a:f i=true):IntKind.u8.wrap ((mkSet f i:Int)+((2^i % 256:Nat):Int))=((mkSet f (i+1):Nat):Int):=by
 have b:=p6 hi;have c:=fa f i;rw[IntKind.wrap_u8,mkSet,a,b.1];generalize 2^i=p at *;simp only[if_true];omega
theorem LV {f:Nat→Bool}{i x:Nat}(hi:i<8)(c:x<2)(a:f i=decide (x=1)):IntKind.u8.wrap ((mkSet f i:Int)+IntKind.u8.wrap (((2^i % 256:Nat):Int)*(x:Int)))=((mkSet f (i+1):Nat):Int):=by
 have b:=p6 hi;have d:=fa f i;rw[IntKind.wrap_u8,IntKind.wrap_u8,mkSet,a,b.1];generalize 2^i=p at *;rcases (show x=0∨x=1 by omega) with rfl | rfl
 ·simp;omega
 ·simp;omega
theorem IL {i:Nat}(hi:i<8):Value.int .u8 (IntKind.u8.wrap (((2^i % 256:Nat):Int)*2))=Value.int .u8 ((2^(i+1) % 256:Nat):Int):=by
 have a:=p6 hi;rw[IntKind.wrap_u8,a.1,Nat.pow_succ];generalize 2^i=p at*
 congr 1
theorem vd {m i:Nat}(h:((m / 2^i &&&1:Nat):Int)=0):m.testBit i=false:=by
 have:=wg m i;rw[beq_iff_eq.2 h] at this;simpa using this.symm
theorem wx {m i:Nat}(h:¬ ((m / 2^i &&&1:Nat):Int)=0):m.testBit i=true:=by
 have:=wg m i;rw[beq_eq_false_iff_ne.2 h] at this;simpa using this.symm
theorem CE {m i:Nat}(h:((m / 2^i % 2:Nat):Int)=0):m.testBit i=false:=by
 have:=p5 m i;rw[show m / 2^i % 2=0 by exact_mod_cast h] at this;cases hb:m.testBit i <;> simp_all
theorem GQ {m i:Nat}(h:¬ ((m / 2^i % 2:Nat):Int)=0):m.testBit i=true:=by
 have:=p5 m i
 cases hb:m.testBit i
 ·rw[hb] at this;exact absurd (by exact_mod_cast this) h
 ·rfl
theorem LW:enters prog 41=true:=by kernel_rfl
theorem OL (m v:Nat)(hm:m<256)(f:v<256)(w:World):bw prog 41 [cv m v] w fun r w'=>∃ A c,r=.slice A 8 c∧eE w w' (own 3 1 (.slice A 8 c) 8 (ints (lits m v))):=by
 refine ar (N:=32) func41 LW rfl rfl rfl (by simp) ?_;have H:=Hp.aC w;refine H.box 48 (cv _ _) (cs:=cc _ _) rfl ?_;clear H;intro g1 q H;refine H.draw eO (by kernel_rfl) ?_;clear H;intro s H;refine quiet _ (fun w H=>aa (cj _) ae) ?_;refine quiet _ (fun w H=>H.load 0 rfl b5 rfl ae) ?_;refine quiet _ (fun w H=>aa (fO _) ae) ?_;refine quiet _ (fun w H=>H.load 0 rfl b5 rfl ae) ?_;have H:=H.bx 3 1;refine ax (γ:=Nat × Option Addr × Nat) (fun (i,A,c)=>[(6,.int .i64 (i:Int)),(4,.int .u8 ((m / 2^i:Nat):Int)),(5,.int .u8 ((v / 2^i:Nat):Int)),(3,.slice A i c)])
  (fun (i,A,c) w'=>i≤8∧Hp w ab w' [own 3 1 (.slice A i c) i (ints (mD m v i)),an g1 48 (cc m v)] []) (fun (i,_,_)=>8 - i) (0,none,0) ⟨rfl,yn _ _,yn _ _,rfl,trivial⟩ ⟨by omega,H⟩ ?_
 clear H;rintro ⟨i,A,c⟩ u t ⟨hi,H⟩;have g:=mK hm i;have h:=mK f i;have j:=p5 m i;have b:=p5 v i;have a:=xH m v i;refine au (fun k=>?_) (fun k=>?_)
 ·refine jl rfl (y':=((2:Nat):Int)) rfl (s5 (by omega) ?_);refine au (fun d=>?_) (fun d=>?_)
  ·refine H.aX dH rfl ?_;clear H;intro g6 x H;refine H.cn 0 dH rfl rfl (by omega) (by omega) ?_;clear H;intro y z B H
   iterate 2 refine jl rfl (y':=((2:Nat):Int)) rfl (s4 (by first | assumption | omega) (by omega) ?_)
   refine ⟨(i+1,_,_),by show 8 - (i+1)<8 - i;omega,⟨up (by omega),p4 _ _ _,p4 _ _ _,rfl,trivial⟩,by show i+1≤8;omega,?_⟩;have e:nb m v i=2:=by rw[nb,CE d];rfl
   rw[show (2:Int)=((2:Nat):Int) from rfl,← e,ju,← a] at H;exact H
  ·refine jl rfl (y':=((2:Nat):Int)) rfl (s5 (by omega) ?_);refine iK (by kernel_rfl) underlying3 (by omega) (by omega) ?_;refine H.aX dH rfl ?_;clear H;intro g14 l H;refine H.cn 0 dH rfl rfl (by omega) (by omega) ?_;clear H;intro n o p H
   iterate 2 refine jl rfl (y':=((2:Nat):Int)) rfl (s4 (by first | assumption | omega) (by omega) ?_)
   refine ⟨(i+1,_,_),by show 8 - (i+1)<8 - i;omega,⟨up (by omega),p4 _ _ _,p4 _ _ _,rfl,trivial⟩,by show i+1≤8;omega,?_⟩;have e:nb m v i=v / 2^i % 2:=by rw[nb,GQ d,if_pos rfl,b]
   rw[← e,ju,← a] at H;exact H
 ·obtain rfl:i=8:=by omega
  exact ⟨A,c,rfl,H.out⟩
theorem LX:enters prog 62=true:=by kernel_rfl
theorem LY (m v:Nat)(hm:m<256)(h:v<256)(n:Nat)(p:n≤8)(q:dJ m v n=true)(w:World):bw prog 62 [cv m v,.int .i64 (n:Int)] w fun r w'=>r=.tuple #[aU (dK m v n),.int .i64 0]∧aT w w':=by
 refine ar (N:=45) func62 LX rfl rfl rfl (by simp) ?_;have H:=Hp.aC w;refine H.box 48 (cv _ _) (cs:=cc _ _) rfl ?_;clear H;intro g1 t H;refine H.ai 0 rfl bz aO ?_;refine aj (IJ _ _ (by first | assumption | omega | decide) (by first | assumption | omega | decide) _ (by first | assumption | omega | decide) _) ?_;rintro _ x ⟨rfl,f⟩;replace H:=H.same f;clear f;refine af (by simp only[*,Bool.not_false,Bool.not_true]) ?_;refine H.make En n rfl rfl (by omega) (by omega) ?_;clear H;intro g5 y H;rw[CD] at H;refine ay underlying151 ?_;refine ax (γ:=Nat) (fun i=>[(16,.int .i64 (i:Int))])
  (fun i w'=>i≤n∧Hp w ab w' [own 5 1 (.slice (some ⟨g5,0,none⟩) n n) n (fN (rT m v n i)),an g1 48 (cc m v)] []) (fun i=>n - i) 0 ⟨rfl,trivial⟩ ⟨by omega,H⟩ ?_
 clear H;rintro i u z ⟨hi,H⟩;have j:=mK hm i;have k:=mK h i;have A:=wg m i;have l:=wg v i;have hlen:=wu m v hi;refine au (fun o=>?_) (fun o=>?_)
 ·refine aa (cj _) ?_;refine H.load 1 rfl b5 rfl ?_;refine e7 (by omega) ?_;refine jl rfl (y':=((1:Nat):Int)) rfl (dV (by first | assumption | omega) (by omega) ?_);refine au (fun d=>?_) (fun d=>?_)
  ·refine ao underlying151 (s:=1) (by kernel_rfl) _ rfl (by first | omega | decide | (simp only[IntKind.wrap_i64];omega) | (simp;done) | (simp;omega)) (o':=_) (by rw[Nat.zero_add,Nat.mul_one]) ?_;have a:=vd d;refine H.dc 0 rfl j4 (by rw[ek];omega) rfl ?_;clear H;intro g H;refine ⟨i+1,by omega,⟨up (by omega),trivial⟩,by omega,?_⟩;rw[← qY (by omega),show zz m v i=45 from by simp[zz,a],← po];exact H
  ·refine aa (fO _) ?_;refine H.load 1 rfl b5 rfl ?_;refine e7 (by omega) ?_;refine jl rfl (y':=((1:Nat):Int)) rfl (dV (by first | assumption | omega) (by omega) ?_);refine au (fun b=>?_) (fun b=>?_)
   ·refine ao underlying151 (s:=1) (by kernel_rfl) _ rfl (by first | omega | decide | (simp only[IntKind.wrap_i64];omega) | (simp;done) | (simp;omega)) (o':=_) (by rw[Nat.zero_add,Nat.mul_one]) ?_;have a:=wx d;have c:=vd b;refine H.dc 0 rfl j4 (by rw[ek];omega) rfl ?_;clear H;intro g H;refine ⟨i+1,by omega,⟨up (by omega),trivial⟩,by omega,?_⟩;rw[← qY (by omega),show zz m v i=48 from by simp[zz,a,c],← po];exact H
   ·refine ao underlying151 (s:=1) (by kernel_rfl) _ rfl (by first | omega | decide | (simp only[IntKind.wrap_i64];omega) | (simp;done) | (simp;omega)) (o':=_) (by rw[Nat.zero_add,Nat.mul_one]) ?_;have a:=wx d;have c:=wx b;refine H.dc 0 rfl j4 (by rw[ek];omega) rfl ?_;clear H;intro g H;refine ⟨i+1,by omega,⟨up (by omega),trivial⟩,by omega,?_⟩;rw[← qY (by omega),show zz m v i=49 from by simp[zz,a,c],← po];exact H
 ·refine H.s6 0 underlying151 underlying5 underlying9 rfl ?_;obtain rfl:i=n:=by omega
  have e:rT m v i i=dK m v i:=by simp[rT]
  rw[e];exact ⟨rfl,H.keeps⟩
theorem LZ:enters prog 42=true:=by kernel_rfl
theorem OM (l:List Nat)(m:l.length≤8)(d:∀ x ∈ l,x≤2)(A:Option Addr)(c:Nat)(w:World)(hs:Sl w (.slice A l.length c) 1 l.length (ints l)):bw prog 42 [.slice A l.length c] w fun r w'=>r=cv (xJ l) (xL l)∧aT w w':=by
 refine ar (N:=36) func42 LZ rfl rfl rfl (by simp) ?_;have H:=Hp.aC w;refine H.alloc 48 (cs:=cc 0 0) fj rfl ?_;clear H;intro g1 n H;refine H.alloc 48 (cs:=cc 0 0) fj rfl ?_;clear H;intro g3 o H;refine ax (γ:=Nat) (fun i=>[(5,.int .i64 (i:Int)),(4,.int .u8 ((2^i % 256:Nat):Int))])
  (fun i w'=>i≤l.length∧Hp w ab w' [an g3 48 (cc (mkSet (fun j=>decide (l.getD j 2<2)) i) (mkSet (fun j=>decide (l.getD j 2=1)) i)),an g1 48 (cc 0 0)] []) (fun i=>l.length - i) 0 ⟨rfl,rfl,trivial⟩ ⟨by omega,H⟩ ?_
 clear H;rintro i u p ⟨hi,H⟩;refine ay underlying75 ?_;refine au (fun e=>?_) (fun e=>?_)
 ·(obtain ⟨g6,q,rfl⟩:=hs.A (by omega))
  refine ao underlying75 (s:=1) (by kernel_rfl) _ rfl (by first | omega | decide | (simp only[IntKind.wrap_i64];omega) | (simp;done) | (simp;omega)) (o':=_) (by rw[Nat.mul_one]) ?_;refine H.dq hs aF _ rfl (eP (by omega)) ?_;refine au (fun b=>?_) (fun b=>?_)
  ·refine aa (cj _) ?_;refine H.load 0 rfl b5 rfl ?_;refine aa (cj _) ?_;refine H.store 0 rfl j4 (Nat.le_of_ble_eq_true rfl) rfl ?_;clear H;intro t H;refine H.draw eO (by kernel_rfl) ?_;clear H;intro v H;refine quiet _ (fun w H=>aa (fO _) ae) ?_;refine quiet _ (fun w H=>H.load 0 rfl b5 rfl ae) ?_;refine quiet _ (fun w H=>ao underlying75 (s:=1) (by kernel_rfl) _ rfl (by first | omega | decide | (simp only[IntKind.wrap_i64];omega) | (simp;done) | (simp;omega)) (o':=_) (by rw[Nat.mul_one]) ae) ?_;refine quiet _ (fun w H=>H.dq hs aF _ rfl (eP (by omega)) ae) ?_;refine quiet _ (fun w H=>j_ (by kernel_rfl) underlying5 (by omega) (by omega) ae) ?_;refine quiet _ (fun w H=>aa (fO _) ae) ?_;refine H.store 0 rfl j4 (Nat.le_of_ble_eq_true rfl) rfl ?_;clear H;intro f H;refine ⟨.inr rfl,?_⟩;have a:l.getD i 2=l[i]:=by simp[List.getD_eq_getElem?_getD,(by omega:i<l.length)]
   refine ⟨i+1,by omega,⟨up (by omega),IL (by omega),trivial⟩,by omega,?_⟩;simp only[List.set_cons_zero] at H;rw[wv (LU (by omega) (by show decide (l.getD i 2<2)=true;rw[a];exact decide_eq_true (by omega))),BD (LV (x:=l[i]) (by omega) (by omega) (by show decide (l.getD i 2=1)=_;rw[a]))] at H;exact H
  ·have a:l.getD i 2=l[i]:=by simp[List.getD_eq_getElem?_getD,(by omega:i<l.length)]
   have y:=d l[i] (List.getElem_mem _);refine ⟨i+1,by omega,⟨up (by omega),IL (by omega),trivial⟩,by omega,?_⟩;have g:mkSet (fun j=>decide (l.getD j 2<2)) (i+1)=mkSet (fun j=>decide (l.getD j 2<2)) i:=by
    rw[mkSet,a,if_neg (by simp;omega)];rfl
   have h:mkSet (fun j=>decide (l.getD j 2=1)) (i+1)=mkSet (fun j=>decide (l.getD j 2=1)) i:=by
    rw[mkSet,a,if_neg (by simp;omega)];rfl
   rw[g,h];exact H
 ·refine H.ai 0 rfl bz aO ?_;refine H.bR 1 rfl ?_;clear H;intro k H;refine H.ai 1 rfl bz aO ?_;refine ⟨rfl,?_⟩;obtain rfl:i=l.length:=by omega
  exact ⟨rfl,H.keeps⟩
theorem CF {a b c d:Nat}{xo yo:Operand}{w:World}{kk:Value→World→Prop}(h:kk (.bool (a==c&&b==d)) w):cW prog .eql 48 xo yo (cv a b) (cv c d) w kk:=
 rK LQ (fun w=>yl a b c d w) h
theorem tf {m v i:Nat}(hi:i<8):(ints (lits m v))[i]?=some (.int .i64 (nb m v i:Int)):=by
 rw[eP (by rw[jC];exact hi)];simp[mD]
theorem NS:qI prog 73 9 (.string ⟨#[]⟩) 1 16:=⟨underlying73,by kernel_rfl,rfl,by decide⟩
theorem wy:cP prog 9=some false:=by kernel_rfl
theorem p7:bE prog 9=some 1:=by kernel_rfl
theorem BE {m v i:Nat}(h:((nb m v i:Nat):Int)≠2):m.testBit i=true:=by
 cases hb:m.testBit i
 ·exact absurd (by rw[pO.2 hb];rfl) h
 ·rfl
theorem Eo {m v p i:Nat}(hm:m.testBit i=true):((nb m v i:Nat):Int)=((p / 2^i % 2:Nat):Int)↔v.testBit i=p.testBit i:=by
 rw[p5];unfold nb;rw[hm]
 cases v.testBit i <;> cases p.testBit i <;> simp
theorem IM:enters prog 66=true:=by kernel_rfl
theorem L3 (m v:Nat)(n:Int)(b:n<0∨8<n)(w:World):bw prog 66 [cv m v,.int .i64 n] w fun r w'=>r=.bool false∧aT w w':=by
 refine ar (N:=29) func66 IM rfl rfl rfl (by simp) ?_;have H:=Hp.aC w;refine H.box 48 (cv _ _) (cs:=cc _ _) rfl ?_;clear H;intro g1 c H;refine au (fun a=>?_) (fun a=>?_)
 ·refine ag (decide_eq_true (by assumption)) ?_;refine ag (decide_eq_true (by assumption)) ?_;refine ag rfl ?_;exact ⟨rfl,H.keeps⟩
 ·refine af (decide_eq_false (by assumption)) ?_;refine af (decide_eq_false (by assumption)) ?_;refine ag (decide_eq_true (by omega)) ?_;exact ⟨rfl,H.keeps⟩
theorem L4 (m v:Nat)(hm:m<256)(e:v<256)(n:Nat)(C:n≤8)(w:World):bw prog 66 [cv m v,.int .i64 (n:Int)] w fun r w'=>r=.bool (dJ m v n)∧aT w w':=by
 refine ar (N:=29) func66 IM rfl rfl rfl (by simp) ?_;have H:=Hp.aC w;refine H.box 48 (cv _ _) (cs:=cc _ _) rfl ?_;clear H;intro g1 D H
 iterate 3 refine af rfl ?_
 refine af (decide_eq_false (by omega)) ?_;refine H.ai 0 rfl bz aO ?_;refine aj (OL _ _ (by first | assumption | omega | decide | (repeat' (first | assumption | refine dh ?_ _ | refine xor_lt8 ?_ ?_ | refine or_lt8 ?_ ?_))) (by first | assumption | omega | decide | (repeat' (first | assumption | refine dh ?_ _ | refine xor_lt8 ?_ ?_ | refine or_lt8 ?_ ?_))) _) ?_;rintro _ E ⟨p,q,rfl,b⟩;replace H:=H.bq b;clear b;refine ax (γ:=Nat) (fun i=>[(6,.int .i64 (i:Int))])
  (fun i w'=>(n≤i∧i≤8∧∀ j,n≤j→j<i→m.testBit j=false)∧Hp w ab w' [own 3 1 (.slice p 8 q) 8 (ints (lits m v)),an g1 48 (cc m v)] []) (fun i=>8 - i) n ⟨rfl,trivial⟩ ⟨⟨by omega,by omega,by intro j c;omega⟩,H⟩ ?_
 clear H;rintro i u F ⟨⟨f,hi,a⟩,H⟩;refine au (fun t=>?_) (fun t=>?_)
 ·(obtain ⟨g3,rfl⟩:=H.lY 0 rfl (by omega))
  refine ao underlying75 (s:=1) (by kernel_rfl) _ rfl (by first | omega | decide | (simp only[IntKind.wrap_i64];omega) | (simp;done) | (simp;omega)) (o':=_) (by rw[Nat.zero_add,Nat.mul_one]) ?_;refine H.ec 0 rfl aF (tf (by omega)) ?_;refine df (fun g=>?_) (fun g=>?_)
  ·refine ⟨congrArg Value.bool ?_,H.keeps⟩;have d:m.testBit i=true:=by
    cases d:m.testBit i
    ·exact absurd (by rw[pO.2 d];rfl) g
    ·rfl
   symm;rw[Bool.eq_false_iff];intro y;have:=((ep hm e).1 y).2.2.1;rw[Int.toNat_natCast] at this;rw[cC this f] at d
   cases d
  ·refine ⟨i+1,by omega,⟨up (by omega),trivial⟩,⟨by omega,by omega,fun j c k=>?_⟩,H⟩;by_cases l:j=i
   ·subst l;exact pO.1 (by exact_mod_cast g)
   ·exact a j c (by omega)
 ·refine H.draw eO (by kernel_rfl) ?_;clear H;intro z H;refine aj (OM (lits m v) (by rw[jC];omega) (fun x A=>by obtain ⟨i,_,rfl⟩:=List.mem_map.1 A;exact GA m v i) _ _ _ (bB (H.get 0 rfl))) ?_;rintro _ B ⟨rfl,b⟩;rw[zx hm,zy hm e];replace H:=H.same b;clear b;refine ⟨.inl H,?_⟩;refine quiet _ (fun w H=>H.ai 1 rfl bz aO ae) ?_;refine quiet _ (fun w H=>CF ae) ?_;refine ⟨congrArg Value.bool ?_,H.keeps⟩;rw[beq_self_eq_true,Bool.true_and];have o:m<2^n:=sJ hm fun j c k=>a j c (by omega);rw[Bool.eq_iff_iff,ep hm e,beq_iff_eq,Int.toNat_natCast];exact ⟨fun h=>⟨by omega,by omega,o,h⟩,fun h=>h.2.2.2⟩
theorem L5:enters prog 33=true:=by kernel_rfl
theorem ON (m v:Nat)(hm:m<256)(q:v<256)(p:Nat)(t:p<9223372036854775808)(w:World):bw prog 33 [cv m v,.int .i64 (p:Int)] w fun r w'=>r=.bool (uJ m v p)∧aT w w':=by
 refine ar (N:=28) func33 L5 rfl rfl rfl (by simp) ?_;have H:=Hp.aC w;refine H.box 48 (cv _ _) (cs:=cc _ _) rfl ?_;clear H;intro g1 x H;refine H.ai 0 rfl bz aO ?_;refine aj (OL _ _ (by first | assumption | omega | decide | (repeat' (first | assumption | refine dh ?_ _ | refine xor_lt8 ?_ ?_ | refine or_lt8 ?_ ?_))) (by first | assumption | omega | decide | (repeat' (first | assumption | refine dh ?_ _ | refine xor_lt8 ?_ ?_ | refine or_lt8 ?_ ?_))) _) ?_;rintro _ y ⟨l,k3,rfl,e⟩;replace H:=H.bq e;clear e;refine ax (γ:=Nat) (fun i=>[(6,.int .i64 (i:Int))])
  (fun i w'=>(i≤8∧∀ j,j<i→(!m.testBit j||(v.testBit j==p.testBit j))=true)∧Hp w ab w' [own 3 1 (.slice l 8 k3) 8 (ints (lits m v)),an g1 48 (cc m v)] []) (fun i=>8 - i) 0 ⟨rfl,trivial⟩ ⟨⟨by omega,by intro j f;omega⟩,H⟩ ?_
 clear H;rintro i u z ⟨⟨hi,b⟩,H⟩;refine au (fun n=>?_) (fun n=>?_)
 ·refine H.draw eO (by kernel_rfl) ?_;clear H;intro A H
  (obtain ⟨g5,rfl⟩:=H.lY 0 rfl (by omega))
  refine quiet _ (fun w H=>ao underlying75 (s:=1) (by kernel_rfl) _ rfl (by first | omega | decide | (simp only[IntKind.wrap_i64];omega) | (rw[ig,List.length_map];omega) | (rw[ek];omega) | (rw[ints_length];omega) | (simp;done) | (simp;omega)) (o':=_) (by rw[Nat.zero_add,Nat.mul_one]) ae) ?_;refine quiet _ (fun w H=>H.ec 0 rfl aF (tf (by omega)) ae) ?_;refine df (fun g=>?_) (fun g=>?_)
  ·refine ag (bne_iff_ne.2 (by omega)) ?_;refine ag (bne_iff_ne.2 (by omega)) ?_;refine quiet _ (fun w H=>ao underlying75 (s:=1) (by kernel_rfl) _ rfl (by first | omega | decide | (simp only[IntKind.wrap_i64];omega) | (rw[ig,List.length_map];omega) | (rw[ek];omega) | (rw[ints_length];omega) | (simp;done) | (simp;omega)) (o':=_) (by rw[Nat.zero_add,Nat.mul_one]) ae) ?_;refine ag (bne_iff_ne.2 (by omega)) ?_;refine quiet _ (fun w H=>H.ec 0 rfl aF (tf (by omega)) ae) ?_
   iterate 3 refine ag (bne_iff_ne.2 (by omega)) ?_
   refine aj (OK _ _ (by first | assumption | omega | decide | (repeat' (first | assumption | refine dh ?_ _ | refine xor_lt8 ?_ ?_ | refine or_lt8 ?_ ?_))) (by first | assumption | omega | decide | (repeat' (first | assumption | refine dh ?_ _ | refine xor_lt8 ?_ ?_ | refine or_lt8 ?_ ?_))) _) ?_;rintro _ o ⟨rfl,e⟩;replace H:=H.same e;clear e;refine ⟨.inl H,?_⟩
   iterate 2 refine ag (bne_iff_ne.2 (by omega)) ?_
   refine df (fun c=>?_) (fun c=>?_)
   ·refine ⟨congrArg Value.bool ?_,H.keeps⟩;have a:=BE g;have h:=mt (Eo (v:=v) (p:=p) a).2 c;symm;rw[Bool.eq_false_iff];intro k;rw[uJ,List.all_eq_true] at k;have:=k i (List.mem_range.2 (by omega));rw[a] at this;exact h (by simpa using this)
   ·have a:=BE g;refine ⟨i+1,by omega,⟨up (by omega),trivial⟩,⟨by omega,fun j f=>?_⟩,H⟩;by_cases d:j=i
    ·subst d;rw[(Eo a).1 c];simp
    ·exact b j (by omega)
  ·refine af (bne_eq_false_iff_eq.2 (by omega)) ?_
   iterate 7 refine af (bne_eq_false_iff_eq.2 (by omega)) ?_
   refine af rfl ?_;have a:=pO.1 (show nb m v i=2 by exact_mod_cast g);refine ⟨i+1,by omega,⟨up (by omega),trivial⟩,⟨by omega,fun j f=>?_⟩,H⟩;by_cases d:j=i
   ·subst d;rw[a];rfl
   ·exact b j (by omega)
 ·refine ⟨congrArg Value.bool ?_,H.keeps⟩;symm;rw[uJ,List.all_eq_true];intro j f;exact b j (by have:=List.mem_range.1 f;omega)
theorem OO (m v:Nat)(hm:m<256)(a:v<256)(n:Int)(w:World):bw prog 66 [cv m v,.int .i64 n] w fun r w'=>r=.bool (dJ m v n)∧aT w w':=by
 by_cases h:n<0∨8<n
 ·have e:dJ m v n=false:=by unfold dJ;rcases h with h | h <;> simp <;> omega
  rw[e];exact L3 m v n h w
 ·obtain ⟨k,rfl⟩:=Int.eq_ofNat_of_zero_le (show 0≤n by omega);exact L4 m v hm a k (by omega) w
theorem gZ (l:List UInt8):(⟨l.toArray⟩:ByteArray).size=l.length:=by simp[ByteArray.size]
def bH (b:UInt8):Nat:=if b==48 then 0 else if b==49 then 1 else 2
theorem ve {l:List UInt8}{i:Nat}(hi:i<l.length)(a:l[i].toNat<128):Utf8.decode ⟨l.toArray⟩ i=(l[i].toNat,1):=by
 have:=decode_ascii ⟨l.toArray⟩ i (by rw[gZ];exact hi) a;exact this
theorem vf {l:List UInt8}{i:Nat}(hi:i<l.length)(a:¬ l[i].toNat<128):128≤(Utf8.decode ⟨l.toArray⟩ i).1:=
 (decode_high ⟨l.toArray⟩ i (by rw[gZ];exact hi) (show 128≤l[i].toNat from Nat.le_of_not_lt a)).1
theorem th {f:Nat→Bool}{i:Nat}(a:f i=true):mkSet f (i+1)=mkSet f i |||2^i:=by
 apply Nat.eq_of_testBit_eq;intro j;rw[Nat.testBit_or,bW,bW,Nat.testBit_two_pow];by_cases h:i=j
 ·subst h;simp[a]
 ·have:j<i+1↔j<i:=by omega
  simp[h,this]
theorem qZ {f:Nat→Bool}{i:Nat}(a:f i=false):mkSet f (i+1)=mkSet f i:=by
 rw[mkSet,a];rfl
theorem lA {l:List UInt8}{i:Nat}(a:∀ j (h:j<l.length),j<i→fw l[j]=true){hi:i<l.length}(c:fw l[i]=true):∀ j (h:j<l.length),j<i+1→fw l[j]=true:=by
 intro j d e;by_cases b:j=i
 ·subst b;exact c
 ·exact a j d (by omega)
theorem q3 {l:List UInt8}{i:Nat}(hi:i<l.length):(l.take (i+1)).map bH=(l.take i).map bH++[bH l[i]]:=by
 rw[List.take_succ_eq_append_getElem hi,List.map_append];rfl
theorem tj {l:List UInt8}(b:l.length≤8)(h:∀ j (a:j<l.length),fw l[j]=true):bk l=true:=by
 unfold bk;simp only[Bool.and_eq_true,decide_eq_true_eq,List.all_eq_true];refine ⟨b,fun x c=>?_⟩;obtain ⟨j,a,rfl⟩:=List.mem_iff_getElem.1 c;exact h j a
theorem nG {l:List UInt8}{i:Nat}(hi:i<l.length)(h:fw l[i]=false):bk l=false:=by
 rw[Bool.eq_false_iff];intro a;unfold bk at a;simp only[Bool.and_eq_true,decide_eq_true_eq,List.all_eq_true] at a;rw[a.2 _ (List.getElem_mem hi)] at h
 cases h
theorem nH {b:UInt8}(a:¬ (b.toNat:Int)=48)(c:¬ (b.toNat:Int)=49)(d:¬ (b.toNat:Int)=45):fw b=false:=by
 rw[Bool.eq_false_iff];intro h;unfold fw at h;simp only[Bool.or_eq_true,beq_iff_eq] at h;rcases h with (rfl | rfl) | rfl
 ·exact d rfl
 ·exact a rfl
 ·exact c rfl
theorem Ep {l:List UInt8}:∀ x ∈ l.map bH,x≤2:=by
 intro x a;obtain ⟨b,_,rfl⟩:=List.mem_map.1 a;unfold bH;split
 ·omega
 ·split <;> omega
theorem tk {b:UInt8}(h:fw b=true):b=45∨b=48∨b=49:=by
 unfold fw at h;simp only[Bool.or_eq_true,beq_iff_eq] at h;rcases h with (h | h) | h
 ·exact .inl h
 ·exact .inr (.inl h)
 ·exact .inr (.inr h)
theorem zQ {l:List UInt8}(h:bk l=true):xJ (l.map bH)=dA l l.length:=by
 unfold bk at h;simp only[Bool.and_eq_true,decide_eq_true_eq,List.all_eq_true] at h;unfold xJ dA;rw[List.length_map];refine rF fun i hi=>?_;have a:=tk (h.2 _ (List.getElem_mem hi));have b:(l.map bH).getD i 2=bH l[i]:=by simp[List.getD_eq_getElem?_getD,hi]
 have c:l.getD i 45=l[i]:=by simp[List.getD_eq_getElem?_getD,hi]
 rw[b,c];rcases a with a | a | a <;> rw[a] <;> rfl
theorem zR {l:List UInt8}(h:bk l=true):xL (l.map bH)=dB l l.length:=by
 unfold bk at h;simp only[Bool.and_eq_true,decide_eq_true_eq,List.all_eq_true] at h;unfold xL dB;rw[List.length_map];refine rF fun i hi=>?_;have a:=tk (h.2 _ (List.getElem_mem hi));have b:(l.map bH).getD i 2=bH l[i]:=by simp[List.getD_eq_getElem?_getD,hi]
 have c:l.getD i 45=l[i]:=by simp[List.getD_eq_getElem?_getD,hi]
 rw[b,c];rcases a with a | a | a <;> rw[a] <;> rfl
theorem L6:enters prog 64=true:=by kernel_rfl
def jv (l:List UInt8):Value:=if bk l then cv (dA l l.length) (dB l l.length) else cv 0 0
theorem O0 (l:List UInt8)(S:l.length<9223372036854775808)(w:World):bw prog 64 [aU l] w fun r w'=>r=.tuple #[jv l,.bool (bk l)]∧aT w w':=by
 refine ar (N:=44) func64 L6 rfl rfl rfl (by simp) ?_;have H:=Hp.aC w;have q:=gZ l;refine H.alloc 48 (cs:=cc 0 0) fj rfl ?_;clear H;intro g1 T H;refine ed underlying9 ?_;refine au (fun s=>?_) (fun s=>?_)
 ·refine l9 ?_;refine H.bR 0 rfl ?_;clear H;intro U H;refine H.ai 0 rfl bz aO ?_;refine ⟨rfl,?_⟩;have e:bk l=false:=by unfold bk;rw[decide_eq_false (by omega)];rfl
  refine ⟨?_,H.keeps⟩;simp only[jv,e,Bool.false_eq_true,if_false];rfl
 ·have H:=H.bx 3 1;refine ax (γ:=Nat × Option Addr × Nat) (fun (i,A,c)=>[(5,.int .i64 (i:Int)),(4,.slice A i c)])
   (fun (i,A,c) w'=>(i≤l.length∧∀ j (h:j<l.length),j<i→fw l[j]=true)∧Hp w ab w' [own 3 1 (.slice A i c) i (ints ((l.take i).map bH)),an g1 48 (cc 0 0)] []) (fun (i,_,_)=>l.length - i) (0,none,0) ⟨rfl,rfl,trivial⟩ ⟨⟨by omega,by intro j _ m;omega⟩,H⟩ ?_
  clear H;rintro ⟨i,A,c⟩ u t ⟨⟨hi,a⟩,H⟩;refine ed underlying9 ?_;refine au (fun v=>?_) (fun v=>?_)
  ·refine iM (by omega) underlying9 ?_;refine au (fun n=>?_) (fun n=>?_)
   ·refine ag (decide_eq_true (by assumption)) ?_
    iterate 3 refine ag (decide_eq_true (by assumption)) ?_
    refine ag rfl ?_;refine iM (by omega) underlying9 ?_;refine iK (by kernel_rfl) underlying3 (by omega) (by omega) ?_;refine H.aX dH rfl ?_;clear H;intro g15 x H;refine H.cn 0 dH rfl rfl (by omega) (by omega) ?_;clear H;intro y z B H;have b:l[i]=48:=UInt8.toNat_inj.1 (show l[i].toNat=48 by omega);refine ⟨(i+1,_,_),by show l.length - (i+1)<l.length - i;omega,⟨up (by omega),rfl,trivial⟩,⟨by show i+1≤l.length;omega,lA a (by rw[b];rfl)⟩,?_⟩;have e:IntKind.i64.wrap ((l[i].toNat:Int) - 48)=((bH l[i]:Nat):Int):=by rw[aH (by omega) (by omega),b];rfl
    rw[e,ju,← q3 (by omega)] at H;exact H
   ·refine af (decide_eq_false (by assumption)) ?_;refine af (decide_eq_false (by assumption)) ?_;refine iM (by omega) underlying9 ?_
    iterate 2 refine af (decide_eq_false (by assumption)) ?_
    refine au (fun f=>?_) (fun f=>?_)
    ·refine iM (by omega) underlying9 ?_;refine iK (by kernel_rfl) underlying3 (by omega) (by omega) ?_;refine H.aX dH rfl ?_;clear H;intro C D H;refine H.cn 0 dH rfl rfl (by omega) (by omega) ?_;clear H;intro E F G H;have b:l[i]=49:=UInt8.toNat_inj.1 (show l[i].toNat=49 by omega);refine ⟨(i+1,_,_),by show l.length - (i+1)<l.length - i;omega,⟨up (by omega),rfl,trivial⟩,⟨by show i+1≤l.length;omega,lA a (by rw[b];rfl)⟩,?_⟩;have e:IntKind.i64.wrap ((l[i].toNat:Int) - 48)=((bH l[i]:Nat):Int):=by rw[aH (by omega) (by omega),b];rfl
     rw[e,ju,← q3 (by omega)] at H;exact H
    ·refine iM (by omega) underlying9 ?_;refine au (fun g=>?_) (fun g=>?_)
     ·refine H.aX dH rfl ?_;clear H;intro I J H;refine H.cn 0 dH rfl rfl (by omega) (by omega) ?_;clear H;intro K M O H;have b:l[i]=45:=UInt8.toNat_inj.1 (show l[i].toNat=45 by omega);refine ⟨(i+1,_,_),by show l.length - (i+1)<l.length - i;omega,⟨up (by omega),rfl,trivial⟩,⟨by show i+1≤l.length;omega,lA a (by rw[b];rfl)⟩,?_⟩;have e:(2:Int)=((bH l[i]:Nat):Int):=by rw[b];rfl
      rw[e,ju,← q3 (by omega)] at H;exact H
     ·refine l9 ?_;refine H.bR 1 rfl ?_;clear H;intro Q H;refine H.ai 1 rfl bz aO ?_;refine ⟨rfl,?_⟩;have e:bk l=false:=nG (i:=i) (by omega) (nH n f g);refine ⟨?_,H.keeps⟩;simp only[jv,e,Bool.false_eq_true,if_false];rfl
  ·obtain rfl:i=l.length:=by omega
   rw[List.take_length] at H;have d:bk l=true:=tj (by omega) fun j m=>a j m m;have k:(l.map bH).length=l.length:=List.length_map ..;have o:=OM (l.map bH) (by omega) Ep A c t (by rw[k];exact bB (H.get 0 rfl));rw[k] at o;refine aj o ?_;rintro _ V ⟨rfl,p⟩;replace H:=H.same p;clear p;rw[zQ d,zR d];refine H.bR 1 rfl ?_;clear H;intro X H;refine H.ai 1 rfl bz aO ?_;refine ⟨rfl,?_⟩;refine ⟨?_,H.keeps⟩;simp only[jv,d,if_true];rfl
theorem Jn:enters prog 101=true:=by kernel_rfl
theorem NT (l:List UInt8)(K:l.length<9223372036854775808)(w:World):bw prog 101 [aU l] w fun r w'=>r=.tuple #[jv l,.int .i64 (if bk l then 0 else 2)]∧aT w w':=by
 refine ar (N:=44) func101 Jn rfl rfl rfl (by simp) ?_;have H:=Hp.aC w;have x:=gZ l;refine H.alloc 48 (cs:=cc 0 0) fj rfl ?_;clear H;intro g1 M H;refine ed underlying9 ?_;refine au (fun y=>?_) (fun y=>?_)
 ·refine l9 ?_;refine H.bR 0 rfl ?_;clear H;intro s H;refine H.ai 0 rfl bz aO ?_;refine ⟨rfl,?_⟩;have e:bk l=false:=by unfold bk;rw[decide_eq_false (by omega)];rfl
  refine ⟨?_,H.keeps⟩;simp only[jv,e,Bool.false_eq_true,if_false];rfl
 ·refine H.alloc 48 (cs:=cc 0 0) fj rfl ?_;clear H;intro g9 O H;refine H.ya underlying9 ?_;clear H;intro g10 z H;refine ax (γ:=Nat) (fun i=>[])
   (fun i w'=>(i≤l.length∧∀ j (h:j<l.length),j<i→fw l[j]=true)∧Hp w ab w' [rR g10 ⟨l.toArray⟩ i,an g9 48 (cc (dA l i) (dB l i)),an g1 48 (cc 0 0)] []) (fun i=>l.length - i) 0 trivial ⟨⟨by omega,by intro j _ n;omega⟩,H⟩ ?_
  clear H;rintro i u A ⟨⟨hi,a⟩,H⟩;refine H.BB 0 rfl (fun B C H=>?_) (fun B=>?_)
  ·have c:i<l.length:=by omega
   have t:dA l i<256:=uS (fun j=>l.getD j 45 !=45) (show i≤8 by omega);have o:dB l i<256:=uS (fun j=>l.getD j 45==49) (show i≤8 by omega);have D:2^i<256:=by have:=p6 (show i<8 by omega);omega
   have b:l.getD i 45=l[i]:=by simp[List.getD_eq_getElem?_getD,c]
   by_cases v:l[i].toNat<128
   ·rw[ve c v] at H ⊢;refine ag rfl ?_;refine au (fun p=>?_) (fun p=>?_)
    ·refine H.draw eO (by kernel_rfl) ?_;clear H;intro s H;refine quiet _ (fun w H=>aa (fO _) ae) ?_;refine quiet _ (fun w H=>H.load 1 rfl b5 rfl ae) ?_;refine quiet _ (fun w H=>cf (by omega) ae) ?_;refine quiet _ (fun w H=>jk (by first | assumption | omega | (repeat' (first | assumption | refine dh ?_ _ | refine xor_lt8 ?_ ?_ | refine or_lt8 ?_ ?_))) (by first | assumption | omega | (repeat' (first | assumption | refine dh ?_ _ | refine xor_lt8 ?_ ?_ | refine or_lt8 ?_ ?_))) ae) ?_;refine quiet _ (fun w H=>aa (fO _) ae) ?_;refine H.store 1 rfl j4 (Nat.le_of_ble_eq_true rfl) rfl ?_;clear H;intro Q H;refine ⟨.inr rfl,?_⟩;refine H.draw eO (by kernel_rfl) ?_;clear H;intro E H;refine quiet _ (fun w H=>aa (cj _) ae) ?_;refine quiet _ (fun w H=>H.load 1 rfl b5 rfl ae) ?_;refine quiet _ (fun w H=>cf (by omega) ae) ?_;refine quiet _ (fun w H=>jk (by first | assumption | omega | (repeat' (first | assumption | refine dh ?_ _ | refine xor_lt8 ?_ ?_ | refine or_lt8 ?_ ?_))) (by first | assumption | omega | (repeat' (first | assumption | refine dh ?_ _ | refine xor_lt8 ?_ ?_ | refine or_lt8 ?_ ?_))) ae) ?_;refine quiet _ (fun w H=>aa (cj _) ae) ?_;refine H.store 1 rfl j4 (Nat.le_of_ble_eq_true rfl) rfl ?_;clear H;intro F H;refine ⟨.inr rfl,?_⟩;have d:l[i]=49:=UInt8.toNat_inj.1 (show l[i].toNat=49 from Int.ofNat_inj.1 p);refine ⟨i+1,by omega,trivial,⟨by omega,lA a (by rw[d];rfl)⟩,?_⟩;have k:dA l (i+1)=dA l i |||2^i:=th (by rw[b,d];rfl);have m:dB l (i+1)=dB l i |||2^i:=th (by rw[b,d];rfl);rw[k,m];rw[BD rfl,wv rfl] at H;exact H
    ·refine au (fun f=>?_) (fun f=>?_)
     ·refine H.draw eO (by kernel_rfl) ?_;clear H;intro G H;refine quiet _ (fun w H=>aa (cj _) ae) ?_;refine quiet _ (fun w H=>H.load 1 rfl b5 rfl ae) ?_;refine quiet _ (fun w H=>cf (by omega) ae) ?_;refine quiet _ (fun w H=>jk (by first | assumption | omega | (repeat' (first | assumption | refine dh ?_ _ | refine xor_lt8 ?_ ?_ | refine or_lt8 ?_ ?_))) (by first | assumption | omega | (repeat' (first | assumption | refine dh ?_ _ | refine xor_lt8 ?_ ?_ | refine or_lt8 ?_ ?_))) ae) ?_;refine quiet _ (fun w H=>aa (cj _) ae) ?_;refine H.store 1 rfl j4 (Nat.le_of_ble_eq_true rfl) rfl ?_;clear H;intro S H;refine ⟨.inr rfl,?_⟩;have d:l[i]=48:=UInt8.toNat_inj.1 (show l[i].toNat=48 from Int.ofNat_inj.1 f);refine ⟨i+1,by omega,trivial,⟨by omega,lA a (by rw[d];rfl)⟩,?_⟩;have k:dA l (i+1)=dA l i |||2^i:=th (by rw[b,d];rfl);have m:dB l (i+1)=dB l i:=qZ (by rw[b,d];rfl);rw[k,m];rw[wv rfl] at H;exact H
     ·refine au (fun g=>?_) (fun g=>?_)
      ·have d:l[i]=45:=UInt8.toNat_inj.1 (show l[i].toNat=45 from Int.ofNat_inj.1 g);refine ⟨i+1,by omega,trivial,⟨by omega,lA a (by rw[d];rfl)⟩,?_⟩;have k:dA l (i+1)=dA l i:=qZ (by rw[b,d];rfl);have m:dB l (i+1)=dB l i:=qZ (by rw[b,d];rfl);rw[k,m];exact H
      ·refine l9 ?_;refine H.bR 2 rfl ?_;clear H;intro I H;refine H.ai 2 rfl bz aO ?_;refine ⟨rfl,?_⟩;have e:bk l=false:=nG (i:=i) c (nH f p g);refine ⟨?_,H.keeps⟩;simp only[jv,e,Bool.false_eq_true,if_false];rfl
   ·have J:=vf c v;refine ag rfl ?_
    iterate 3 refine af (beq_eq_false_iff_ne.2 (by omega)) ?_
    refine l9 ?_;refine H.bR 2 rfl ?_;clear H;intro T H;refine H.ai 2 rfl bz aO ?_;refine ⟨rfl,?_⟩;have e:bk l=false:=nG (i:=i) c (nH (by omega) (by omega) (by omega));refine ⟨?_,H.keeps⟩;simp only[jv,e,Bool.false_eq_true,if_false];rfl
  ·obtain rfl:i=l.length:=by omega
   refine af rfl ?_;refine H.ai 1 rfl bz aO ?_;refine H.bR 2 rfl ?_;clear H;intro s H;refine H.ai 2 rfl bz aO ?_;refine ⟨rfl,?_⟩;have q:bk l=true:=tj (by omega) fun j n=>a j n n;refine ⟨?_,H.keeps⟩;simp only[jv,q,if_true];rfl
theorem tl {w:World}{kk:Value→World→Prop}(h:kk (sv 0) w):b8 prog 86 [] w kk:=ov h
end Go.Proofs.YtpjihhgjbbihkaaGreatDoor
namespace Go.Proofs.YtpjihhgjbbihkaaGreatDoor
open Go.Proofs.Tryz
set_option maxRecDepth 100000
open Go.Dk Go.ChangeShapes Go.WideShapes Go.ChangeAt Go.RowKit Go.ChangeMaps
section
variable {H:Type} {enc:TypeId × Value→H} {w:World} {base b:Nat} {spare:Nat→Bool} {held:Bool}
set_option maxRecDepth 100000 in
theorem arg_str {v:Value}{d:DataW H}{c:List MemPlace}(a:Value.okWide prog w .any b 9 v)(h:DataW.Trod enc prog w base spare held 9 v d c):∃ l:List UInt8,l.length<9223372036854775808∧v=aU l:=by
 obtain ⟨s,rfl,_,_,hs⟩:=open_string underlying9 a h;refine ⟨s.data.toList,?_,?_⟩
 ·have:s.size=s.data.toList.length:=rfl;unfold maxLen at hs;omega
 ·unfold aU;simp
end
end Go.Proofs.YtpjihhgjbbihkaaGreatDoor
namespace Go.Dk
set_option maxRecDepth 100000
abbrev Hp.cl {w0 w:World}{F:Nat→Prop}{L M:List cH}(_:Hp w0 F w L M)(w':World):Prop:=Hp w0 F w' L M
end Go.Dk
namespace Go.Proofs.YtpjihhgjbbihkaaGreatDoor
open Go.Proofs.Tryz
set_option maxRecDepth 100000
open Go.Dk
attribute [local irreducible] IntKind.wrap
def k3 (a b c:Int):Value:=.agg #[.int .i64 a,.int .i64 b,.int .i64 c]
theorem sq:eL prog 292=some (k3 0 0 0):=by kernel_rfl
theorem nI:cP prog 292=some true:=by kernel_rfl
theorem dO:bE prog 292=some 3:=by kernel_rfl
theorem jx:cP prog 238=some false:=by kernel_rfl
theorem GR:bE prog 238=some 1:=by kernel_rfl
theorem pq:cP prog 237=some false:=by kernel_rfl
theorem BF:eL prog 3=some (.int .i64 0):=by kernel_rfl
theorem L7:qI prog 238 292 (k3 0 0 0) 3 24:=⟨underlying238,by kernel_rfl,rfl,by decide⟩
theorem CG (a b c d e f:Int)(w:World):(Op.equal 292 (k3 a b c) (k3 d e f)).run prog w=.ok (a==d&&(b==e&&c==f)) w:=by
 have i:∀ g,(Op.equalIn (g+2) 292 (k3 a b c) (k3 d e f)).run prog w=.ok (a==d&&(b==e&&c==f)) w:=by
  intro g;unfold k3;rw[Op.equalIn];have i0:=dN underlying3 g a d;have i1:=dN underlying3 g b e;have i2:=dN underlying3 g c f;have j:∀ (x y z:Int) w,(Go.part 3 #[.int .i64 x,.int .i64 y,.int .i64 z] 0).run prog w=.ok (.int .i64 x) w:=fun x y z w=>gv aF rfl w;have k:∀ (x y z:Int) w,(Go.part 3 #[.int .i64 x,.int .i64 y,.int .i64 z] 1).run prog w=.ok (.int .i64 y) w:=fun x y z w=>gv aF rfl w;have l:∀ (x y z:Int) w,(Go.part 3 #[.int .i64 x,.int .i64 y,.int .i64 z] 2).run prog w=.ok (.int .i64 z) w:=fun x y z w=>gv aF rfl w;generalize (a==d)=b0 at *;generalize (b==e)=b1 at *;generalize (c==f)=b2 at *;have h:Tryz.prog.stoodInHeld 292=false:=by kernel_rfl
  simp only[Sem.run_bind,run_underlying underlying292,Result.andThen_ok,Go.Dk.run_sizeOf dO,run_program,h]
  cases b0 <;> cases b1 <;> cases b2 <;> simp[j,k,l,i0,i1,i2]
 exact i 9998
theorem Er {a b c d e f:Int}:k3 a b c=k3 d e f↔a=d∧b=e∧c=f:=by simp[k3]
def L_ (v:Value):Prop:=∃ a b c,v=k3 a b c
theorem Es (a b c:Int)(em:Bool)(w:World):(Instr.checkKey em 10000 292 (k3 a b c)).run prog w=.ok () w:=by kernel_rfl
theorem vg (w:World)(a b c:Int):∀ (es:List MapEntry) (i:Nat),(∀ e ∈ es,L_ e.key)→
  ((Instr.findAsking 292 (k3 a b c) es i).run prog w=.ok none w∧∀ e ∈ es,e.key≠k3 a b c)∨∃ j e,(Instr.findAsking 292 (k3 a b c) es i).run prog w=.ok (some (i+j,e.val)) w∧es[j]?=some e∧e.key=k3 a b c
 | [],i,_=>.inl ⟨by simp[Instr.findAsking],by simp⟩
 | e::es,i,h=>by
  obtain ⟨k,l,m,he⟩:=h e (.head _);have g:=CG a b c k l m w;by_cases n:a=k∧b=l∧c=m
  ·obtain ⟨rfl,rfl,rfl⟩:=n;exact .inr ⟨0,e,by simp[Instr.findAsking,he,g],rfl,he⟩
  ·have r:(a==k&&(b==l&&c==m))=false:=by
    rw[Bool.eq_false_iff];intro d;simp at d;exact n d
   rw[r] at g;have o:e.key≠k3 a b c:=fun d=>n (by rw[he,Er] at d;exact ⟨d.1.symm,d.2.1.symm,d.2.2.symm⟩);rcases vg w a b c es (i+1) (fun x f=>h x (.tail _ f)) with ⟨p,q⟩ | ⟨j,s,p,q,t⟩
   ·refine .inl ⟨by simp[Instr.findAsking,he,g,p],fun x f=>?_⟩;rcases List.mem_cons.1 f with rfl | f
    ·exact o
    ·exact q x f
   ·exact .inr ⟨j+1,s,by simp[Instr.findAsking,he,g,p];omega,by simpa using q,t⟩
theorem Ma:KL prog 292 L_ where
 check:=by rintro w em _ ⟨a,b,c,rfl⟩;exact Es a b c em w
 find:=by
  rintro w _ ⟨a,b,c,rfl⟩ es he
  cases es with
  | nil=>exact .inl ⟨by simp[Instr.findKey,run_underlying underlying292,Instr.findNow],by simp⟩
  | cons e es=>
   have f:∀ d,Instr.findNow (.struct d) (k3 a b c) (e::es) 0=none:=fun d=>rfl;have:=vg w a b c (e::es) 0 he;simp only[Nat.zero_add] at this;simp only[Instr.findKey,Sem.run_bind,run_underlying underlying292,Result.andThen_ok,f];exact this
 stays:=by
  rintro w _ ⟨a,b,c,rfl⟩;have:Instr.sameBits 10000 (k3 a b c) (k3 a b c)=true:=by
   show (_&&_)=true;simp[Instr.sameBits]
  simp[Instr.keyThatStays,this]
def zt (n:Nd):Value:=k3 n.l n.lo n.hi
def zu (i:Nat):Value:=.int .i64 (i:Int)
theorem wz:ld prog 237 292 3 zt zu (.int .i64 0) where
 und:=underlying237
 key:=Ma.mono fun _ ⟨n,h⟩=>⟨_,_,_,h⟩
 inj:=by
  rintro ⟨l,lo,hi⟩ ⟨f,d,e⟩ h;obtain ⟨a,b,c⟩:=Er.1 h;simp only at a b c;obtain rfl:=Int.ofNat_inj.1 a;obtain rfl:=Int.ofNat_inj.1 b;obtain rfl:=Int.ofNat_inj.1 c;rfl
 zero:=BF
abbrev Slot:=Sum Nd (Int × Int)
def nf:Slot→List Value
 | .inl n=>[.int .i64 n.l,.int .i64 n.lo,.int .i64 n.hi]
 | .inr (x,y)=>[.int .i64 (-1),.int .i64 x,.int .i64 y]
theorem gw (s:Slot):(nf s).length=3:=by cases s <;> rfl
theorem l_ (s:Slot):∀ v ∈ nf s,v.oneCell'=true:=by
 intro v a
 cases s <;> simp[nf] at a <;> rcases a with rfl | rfl | rfl <;> rfl
def NF:Slot→Option Nd
 | .inl n=>some n
 | .inr _=>none
def iC (N:List Slot):Ar:=N.map NF
theorem fy (N:List Slot):(iC N).length=N.length:=by simp[iC]
theorem nJ {N:List Slot}{i:Nat}{s:Slot}(h:N[i]?=some s):slot (iC N) i=NF s:=by
 unfold slot iC;rw[List.getD_eq_getElem?_getD,List.getElem?_map,h];rfl
theorem GS (N:List Slot)(i:Nat)(s:Slot):iC (N.set i s)=(iC N).set i (NF s):=by simp[iC,List.map_set]
theorem Et (N:List Slot)(s:Slot):iC (N++[s])=iC N++[NF s]:=by simp[iC]
def nK (sv:Value)(A:Ar):cH:=
 ⟨fun g=>sv.ownBlock=some g,fun w=>∃ N:List Slot,iC N=A∧(own 292 3 sv N.length (flat nf N)).ok w,fun w w' h ⟨N,a,b⟩=>⟨N,a,(own 292 3 sv N.length (flat nf N)).bQ w w' h b⟩⟩
def yp (r:Nat)(A:Ar):cH:=
 ⟨fun g=>g=r,fun w=>∃ l,sY l A∧(aP zt zu r l).ok w,fun w w' h ⟨l,a,b⟩=>⟨l,a,(aP zt zu r l).bQ w w' h b⟩⟩
def GU (g r:Nat)(sv:Value)(room:Int)(A:Ar):List cH:=[an g 240 #[.int .i64 room,sv,.map (some r)],nK sv A,yp r A]
def bI (g r:Nat)(sv:Value)(room:Int)(A:Ar):cH:=sa (GU g r sv room A)
structure uM (room:Int) (A:Ar):Prop where
 inv:x7 A
 len:(A.length:Int)≤room
 room:room≤20000
def xF (B:Option Addr)(n c:Nat)(room:Int)(r:Nat):Array Value:=#[.int .i64 room,.slice B n c,.map (some r)]
theorem me {g r:Nat}{sv:Value}{room:Int}{A:Ar}{w:World}(h:(bI g r sv room A).ok w) :
  ∃ N B c l,iC N=A∧sv=.slice B N.length c∧sY l A∧(eM l).Nodup∧
   Hp w ab w [] [an g 240 (xF B N.length c room r),own 292 3 (.slice B N.length c) N.length (flat nf N),aP zt zu r l]:=by
 obtain ⟨e,f,n⟩:=h;obtain ⟨N,k,a⟩:=e (nK sv A) (by simp[GU]);obtain ⟨l,m,b⟩:=e (yp r A) (by simp[GU]);obtain ⟨B,c,rfl,o⟩:=fh a;have i:(eM l).Nodup:=by
  obtain ⟨es,clock,_,hs,he⟩:=b;exact jm wz.inj hs he
 refine ⟨N,B,c,l,k,rfl,m,i,Hp.start w _ _ ?_ ?_⟩
 ·intro q d;simp only[List.mem_cons,List.not_mem_nil,or_false] at d;rcases d with rfl | rfl | rfl
  ·exact e _ (by simp[GU,xF])
  ·exact a
  ·exact b
 ·intro q d x j;simp only[List.mem_cons,List.not_mem_nil,or_false] at d;rcases d with rfl | rfl | rfl
  ·exact f _ (by simp[GU];exact .inl rfl) x j
  ·exact f (nK (.slice B N.length c) A) (by simp[GU]) x j
  ·exact f (yp r A) (by simp[GU]) x j
theorem BH (g:Nat)(w:World):(Instr.fieldAt 240 (ah g) 0).run prog w=.ok (ah g) w:=by kernel_rfl
theorem fX (g:Nat)(w:World):(Instr.fieldAt 240 (ah g) 1).run prog w=.ok (.pointer (some ⟨g,1,none⟩)) w:=by kernel_rfl
theorem mL (g:Nat)(w:World):(Instr.fieldAt 240 (ah g) 2).run prog w=.ok (.pointer (some ⟨g,2,none⟩)) w:=by kernel_rfl
theorem oz (g o:Nat)(w:World):(Instr.fieldAt 292 (.pointer (some ⟨g,o,none⟩)) 0).run prog w=.ok (.pointer (some ⟨g,o,none⟩)) w:=by kernel_rfl
theorem GV (g o:Nat)(w:World):(Instr.fieldAt 292 (.pointer (some ⟨g,o,none⟩)) 1).run prog w=.ok (.pointer (some ⟨g,o+1,none⟩)) w:=by kernel_rfl
theorem GW (g o:Nat)(w:World):(Instr.fieldAt 292 (.pointer (some ⟨g,o,none⟩)) 2).run prog w=.ok (.pointer (some ⟨g,o+2,none⟩)) w:=by kernel_rfl
def j1 (A:Ar)(id:Int):Bool:=decide (2≤id)&&(slot A (id - 2).toNat).isSome
theorem Jo {k:Nat}(a:k<9223372036854775806):IntKind.i64.wrap ((k:Int)+2 - 2)=(k:Int):=by rw[aH (by omega) (by omega)];omega
theorem Eu:enters prog 213=true:=by kernel_rfl
theorem Ev {g r:Nat}{sv:Value}{room:Int}{A:Ar}(id:Int)(hid:id<2)(w:World)(h:(bI g r sv room A).ok w):bw prog 213 [(ah g),.int .i64 id] w fun v w'=>v=.bool false∧aT w w':=by
 refine ar (N:=29) func213 Eu rfl rfl rfl (by simp) ?_;have H:=Hp.aC w
 iterate 9 refine af (decide_eq_false (by omega)) ?_
 iterate 11 refine af rfl ?_
 exact ⟨rfl,H.keeps⟩
theorem wA {g r:Nat}{sv:Value}{room:Int}{A:Ar}(k:Nat)(d:k<9223372036854775806)(w:World)(h:(bI g r sv room A).ok w):bw prog 213 [(ah g),.int .i64 ((k:Int)+2)] w fun v w'=>v=.bool (slot A k).isSome∧aT w w':=by
 refine ar (N:=29) func213 Eu rfl rfl rfl (by simp) ?_;obtain ⟨N,B,c,l,rfl,rfl,f,e,H⟩:=me h;have hw:=Jo d
 iterate 5 refine ag (decide_eq_true (by omega)) ?_
 refine aa (fX _) ?_;refine ag (decide_eq_true (by omega)) ?_;refine jZ (H.ro 0 rfl) jx rfl ?_;refine ag (decide_eq_true (by omega)) ?_;refine ay underlying238 ?_
 iterate 2 refine ag (decide_eq_true (by omega)) ?_
 refine au (fun a=>?_) (fun a=>?_)
 ·refine ag (decide_eq_true (by assumption)) ?_;refine ag (decide_eq_true (by assumption)) ?_;refine aa (fX _) ?_;refine ag (decide_eq_true (by assumption)) ?_;refine jZ (H.ro 0 rfl) jx rfl ?_
  iterate 3 refine ag (decide_eq_true (by assumption)) ?_
  rw[hw] at a;have b:k<N.length:=by omega
  obtain ⟨g0,rfl⟩:=jT (H.ro 1 rfl) (by omega);obtain ⟨s,hs⟩:∃ s,N[k]?=some s:=⟨_,List.getElem?_eq_getElem b⟩;refine ao underlying238 dO k hw b (o':=k*3) (by omega) ?_;rw[nJ hs]
  cases s with
  | inl n=>
   refine ag (decide_eq_true (by omega)) ?_;refine aa (oz _ _) ?_;refine ag (decide_eq_true (by omega)) ?_;refine sZ (H.ro 1 rfl) gw aF k 0 rfl hs rfl ?_
   iterate 2 refine ag (decide_eq_true (by omega)) ?_
   exact ⟨rfl,H.keeps⟩
  | inr p=>
   refine ag (decide_eq_true (by omega)) ?_;refine aa (oz _ _) ?_;refine ag (decide_eq_true (by omega)) ?_;refine sZ (H.ro 1 rfl) gw aF k 0 rfl hs rfl ?_
   iterate 2 refine ag (decide_eq_true (by omega)) ?_
   exact ⟨rfl,H.keeps⟩
 ·refine af (decide_eq_false (by assumption)) ?_
  iterate 9 refine af (decide_eq_false (by assumption)) ?_
  refine ⟨congrArg Value.bool ?_,H.keeps⟩;rw[hw] at a;rw[u4 (by rw[fy];omega)];rfl
theorem c213 {g r:Nat}{sv:Value}{room:Int}{A:Ar}(id:Int)(hid:id<9223372036854775808)(w:World)(h:(bI g r sv room A).ok w):bw prog 213 [(ah g),.int .i64 id] w fun v w'=>v=.bool (j1 A id)∧aT w w':=by
 by_cases a:id<2
 ·have e:j1 A id=false:=by unfold j1;rw[decide_eq_false (by omega)];rfl
  rw[e];exact Ev id a w h
 ·obtain ⟨k,rfl⟩:∃ k:Nat,id=(k:Int)+2:=⟨(id - 2).toNat,by omega⟩;have e:j1 A ((k:Int)+2)=(slot A k).isSome:=by
   unfold j1;rw[decide_eq_true (by omega),show ((k:Int)+2 - 2).toNat=k by omega];rfl
  rw[e];exact wA k (by omega) w h
theorem jy {xo yo:Operand}{w:World}{kk:Value→World→Prop}{g:Nat}(h:kk (.bool false) w):cW prog .eql 201 xo yo (ah g) (.pointer none) w kk:=
 wc (fun w=>by rw[eqGuard_at_pointer];kernel_rfl) h
theorem Ew:enters prog 214=true:=by kernel_rfl
theorem Jp {g r:Nat}{sv:Value}{room:Int}{A:Ar}(id:Int)(hid:id<2)(w:World)(h:(bI g r sv room A).ok w):bw prog 214 [(ah g),.int .i64 id] w fun v w'=>v=.int .i64 (aR A id)∧aT w w':=by
 refine ar (N:=25) func214 Ew rfl rfl rfl (by simp) ?_;have H:=Hp.aC w;unfold aR;by_cases a:id=0∨id=1
 ·rw[if_pos a];refine cg (fun c=>?_) (fun c=>?_)
  ·refine ag (beq_iff_eq.2 (by assumption)) ?_;refine ag (beq_iff_eq.2 (by assumption)) ?_;refine ag rfl ?_;exact ⟨rfl,H.keeps⟩
  ·refine af (beq_eq_false_iff_ne.2 (by assumption)) ?_;refine af (beq_eq_false_iff_ne.2 (by assumption)) ?_;refine ag (beq_iff_eq.2 (by omega)) ?_;exact ⟨rfl,H.keeps⟩
 ·rw[if_neg a,if_neg (by omega)]
  iterate 4 refine af (beq_eq_false_iff_ne.2 (by omega)) ?_
  refine aj (Ev _ hid _ h) ?_;rintro _ d ⟨rfl,b⟩;replace H:=H.same b;clear b;refine af rfl ?_;exact ⟨rfl,H.keeps⟩
theorem Jq {g r:Nat}{sv:Value}{room:Int}{A:Ar}(k:Nat)(a:k<9223372036854775806)(w:World)(h:(bI g r sv room A).ok w):bw prog 214 [(ah g),.int .i64 ((k:Int)+2)] w fun v w'=>v=.int .i64 (aR A ((k:Int)+2))∧aT w w':=by
 refine ar (N:=25) func214 Ew rfl rfl rfl (by simp) ?_;have i:=h;obtain ⟨N,B,c,l,rfl,rfl,o,j,H⟩:=me h;have hw:=Jo a
 cases hs:slot (iC N) k with
 | none=>
  have e:aR (iC N) ((k:Int)+2)= -1:=by
   unfold aR;rw[if_neg (by omega),if_pos (by omega),show ((k:Int)+2 - 2).toNat=k by omega,hs]
  rw[e]
  iterate 4 refine af rfl ?_
  refine aj (wA k a _ i) ?_;rintro _ m ⟨rfl,a⟩;replace H:=H.same a;clear a;rw[hs];refine af rfl ?_;exact ⟨rfl,H.keeps⟩
 | some n=>
  have b:=pV hs;rw[fy] at b;obtain ⟨g0,rfl⟩:=jT (H.ro 1 rfl) (by omega);obtain ⟨s,f⟩:∃ s,N[k]?=some s:=⟨_,List.getElem?_eq_getElem b⟩;have d:=nJ f;rw[hs] at d
  cases s with
  | inr p=>cases d
  | inl n'=>
   cases d
   rw[jn hs]
   iterate 4 refine af rfl ?_
   refine aj (wA k a _ i) ?_;rintro _ m ⟨rfl,a⟩;replace H:=H.same a;clear a;rw[hs];refine ag rfl ?_;refine aa (fX _) ?_;refine jZ (H.ro 0 rfl) jx rfl ?_;refine ao underlying238 dO k hw b (o':=k*3) (by omega) ?_;refine aa (oz _ _) ?_;refine sZ (H.ro 1 rfl) gw aF k 0 rfl f rfl ?_;exact ⟨rfl,H.keeps⟩
theorem yq {g r:Nat}{sv:Value}{room:Int}{A:Ar}(id:Int)(hid:id<9223372036854775808)(w:World)(h:(bI g r sv room A).ok w):bw prog 214 [(ah g),.int .i64 id] w fun v w'=>v=.int .i64 (aR A id)∧aT w w':=by
 by_cases a:id<2
 ·exact Jp id a w h
 ·obtain ⟨k,rfl⟩:∃ k:Nat,id=(k:Int)+2:=⟨(id - 2).toNat,by omega⟩;exact Jq k (by omega) w h
theorem Ex:enters prog 211=true:=by kernel_rfl
theorem Ey {g r:Nat}{sv:Value}{room:Int}{A:Ar}(id:Int)(hid:id<9223372036854775808)(b:j1 A id=false)(w:World)(h:(bI g r sv room A).ok w):bw prog 211 [(ah g),.int .i64 id] w fun v w'=>v=.tuple #[.int .i64 0,.int .i64 0,.int .i64 0,.bool false]∧aT w w':=by
 refine ar (N:=31) func211 Ex rfl rfl rfl (by simp) ?_;have H:=Hp.aC w;refine jy ?_
 iterate 3 refine af rfl ?_
 refine aj (c213 id hid _ h) ?_;rintro _ c ⟨rfl,a⟩;replace H:=H.same a;clear a;rw[b]
 iterate 2 refine af rfl ?_
 refine ag rfl ?_;exact ⟨rfl,H.keeps⟩
theorem Ez {g r:Nat}{sv:Value}{room:Int}{A:Ar}(k:Nat)(d:k<9223372036854775806)(n:Nd)(hs:slot A k=some n)(w:World)(h:(bI g r sv room A).ok w) :
  bw prog 211 [(ah g),.int .i64 ((k:Int)+2)] w fun v w'=>v=.tuple #[.int .i64 n.l,.int .i64 n.lo,.int .i64 n.hi,.bool true]∧aT w w':=by
 refine ar (N:=31) func211 Ex rfl rfl rfl (by simp) ?_;have f:=h;obtain ⟨N,B,c,l,rfl,rfl,q,i,H⟩:=me h;have hw:=Jo d;have a:=pV hs;rw[fy] at a;obtain ⟨g0,rfl⟩:=jT (H.ro 1 rfl) (by omega);obtain ⟨s,e⟩:∃ s,N[k]?=some s:=⟨_,List.getElem?_eq_getElem a⟩;have b:=nJ e;rw[hs] at b
 cases s with
 | inr p=>cases b
 | inl n'=>
  cases b
  refine jy ?_
  iterate 3 refine af rfl ?_
  refine aj (wA k d _ f) ?_;rintro _ t ⟨rfl,d⟩;replace H:=H.same d;clear d;rw[hs]
  iterate 3 refine af rfl ?_
  refine aa (fX _) ?_;refine jZ (H.ro 0 rfl) jx rfl ?_;refine ao underlying238 dO k hw a (o':=k*3) (by omega) ?_;refine I_ (H.ro 1 rfl) gw nI dO k rfl e ?_;refine H.alloc 292 sq rfl ?_;clear H;intro g13 j H;refine H.storeAll 0 rfl dO rfl (fun v m=>l_ (.inl n) v m) ?_;clear H;intro o H;refine H.draw eO (by kernel_rfl) ?_;clear H;intro u H;refine quiet _ (fun w H=>aa (oz _ _) ae) ?_;refine quiet _ (fun w H=>H.load 0 rfl aF rfl ae) ?_;refine quiet _ (fun w H=>aa (GV _ _) ae) ?_;refine quiet _ (fun w H=>H.load 0 rfl aF rfl ae) ?_;refine quiet _ (fun w H=>aa (GW _ _) ae) ?_;refine quiet _ (fun w H=>H.load 0 rfl aF rfl ae) ?_;exact ⟨rfl,H.keeps⟩
theorem Jr:enters prog 143=true:=by kernel_rfl
theorem q4 {w0 w:World}{F:Nat→Prop}{L M:List cH}{g r:Nat}{B:Option Addr}{n c:Nat}{room:Int}{N:List Slot}{l:List (Nd × Nat)}(H:Hp w0 F w (an g 240 (xF B n c room r)::own 292 3 (.slice B n c) n (flat nf N)::aP zt zu r l::L) M)(b:N.length=n)(d:sY l (iC N)):Hp w0 F w (bI g r (.slice B n c) room (iC N)::L) M:=by
 subst b;have H:=H.front 1 rfl;have H:Hp w0 F w (own 292 3 (.slice B N.length c) N.length (flat nf N)::an g 240 (xF B N.length c room r)::aP zt zu r l::L) M:=H;have H:=H.re (r':=nK (.slice B N.length c) (iC N)) (fun h=>⟨N,rfl,h⟩) (fun g a=>a);have H:=H.front 2 rfl;have H:Hp w0 F w (aP zt zu r l::nK (.slice B N.length c) (iC N)::an g 240 (xF B N.length c room r)::L) M:=H;have H:=H.re (r':=yp r (iC N)) (fun h=>⟨l,d,h⟩) (fun g a=>a);have H:=H.front 1 rfl;have H:Hp w0 F w (nK (.slice B N.length c) (iC N)::yp r (iC N)::an g 240 (xF B N.length c room r)::L) M:=H;have H:=H.front 2 rfl;have H:Hp w0 F w (an g 240 (xF B N.length c room r)::nK (.slice B N.length c) (iC N)::yp r (iC N)::L) M:=H;exact Hp.join (Ls:=GU g r (.slice B N.length c) room (iC N)) H
theorem EA {n:Int}{r:Nat}{w:World}{kk:Value→World→Prop}(h:kk (.agg (xF none 0 0 n r)) w):b8 prog 240 [(0,.int .i64 n),(2,.map (some r))] w kk:=
 bt (fun w=>by kernel_rfl) h
theorem GX:sY [] []:=⟨fun n=>rfl,rfl⟩
theorem Js (n:Int)(c:0≤n)(d:n≤20000)(w:World):bw prog 143 [.int .i64 n] w fun v w'=>∃ g r,v=.tuple #[(ah g),.int .i64 0]∧eE w w' (bI g r (.slice none 0 0) n []):=by
 refine ar (N:=14) func143 Jr rfl rfl rfl (by simp) ?_;have H:=Hp.aC w
 iterate 4 refine af (decide_eq_false (by omega)) ?_
 refine H.makeMap zt zu ?_;clear H;intro a e H;refine EA ?_;refine H.box 240 _ (cs:=xF none 0 0 n a) rfl ?_;clear H;intro g6 b H;have H:=(H.bx 292 3).front 1 rfl;have H:Hp w ab b (an g6 240 (xF none 0 0 n a)::own 292 3 (.slice none 0 0) 0 (flat nf [])::aP zt zu a []::[]) []:=H;exact ⟨g6,a,rfl,(q4 H rfl GX).out⟩
theorem q5 {g r:Nat}{sv:Value}{room:Int}{A:Ar}{w:World}(h:(bI g r sv room A).ok w):∀ x,(bI g r sv room A).foot x→x<w.heap.size:=fun x ⟨q,a,b⟩=>h.2.1 q a x b
theorem iO {g r:Nat}{sv:Value}{room:Int}{A:Ar}{w w':World}(h:(bI g r sv room A).ok w)(a:aT w w'):(bI g r sv room A).ok w':=
 (bI g r sv room A).bQ w w' (fun x b=>a.old x (q5 h x b) id) h
theorem tm {g r:Nat}{sv:Value}{room:Int}{A:Ar}{w w':World}(h:(bI g r sv room A).ok w)(a:aT w w'):jS w w' (bI g r sv room A) (bI g r sv room A):=
 (jS.refl h (q5 h)).same a
theorem GY {g r:Nat}{sv:Value}{room:Int}{A:Ar}{w:World}(h:(bI g r sv room A).ok w) :
  ∃ N B c l,iC N=A∧sv=.slice B N.length c∧sY l A∧(eM l).Nodup∧
   Hp w (bI g r sv room A).foot w [an g 240 (xF B N.length c room r),own 292 3 (.slice B N.length c) N.length (flat nf N),aP zt zu r l] []:=by
 obtain ⟨N,B,c,l,rfl,rfl,o,m,_⟩:=me h;have n:=h;obtain ⟨p,q,s⟩:=n;have H:=Hp.I8 h (q5 h);have H:=Hp.split (Ls:=GU g r (.slice B N.length c) room (iC N)) (L:=[]) H;have H:Hp w (bI g r (.slice B N.length c) room (iC N)).foot w (nK (.slice B N.length c) (iC N)::an g 240 (xF B N.length c room r)::yp r (iC N)::[]) []:=H.front 1 rfl;obtain ⟨d,e,a⟩:=H.ok _ (.head _);have hlen:d.length=N.length:=by rw[← fy,e,fy]
 rw[hlen] at a;have H:=H.re (r':=own 292 3 (.slice B N.length c) N.length (flat nf d)) (fun _=>a) (fun g j=>j);have H:Hp w (bI g r (.slice B N.length c) room (iC N)).foot w (yp r (iC N)::own 292 3 (.slice B N.length c) N.length (flat nf d)::an g 240 (xF B N.length c room r)::[]) []:=H.front 2 rfl;obtain ⟨f,k,b⟩:=H.ok _ (.head _);have i:(eM f).Nodup:=by
  obtain ⟨es,clock,_,hs,he⟩:=b;exact jm wz.inj hs he
 have H:=H.re (r':=aP zt zu r f) (fun _=>b) (fun g j=>j);have H:Hp w (bI g r (.slice B N.length c) room (iC N)).foot w (own 292 3 (.slice B N.length c) N.length (flat nf d)::aP zt zu r f::an g 240 (xF B N.length c room r)::[]) []:=H.front 1 rfl;have H:Hp w (bI g r (.slice B N.length c) room (iC N)).foot w (an g 240 (xF B N.length c room r)::own 292 3 (.slice B N.length c) N.length (flat nf d)::aP zt zu r f::[]) []:=H.front 2 rfl;exact ⟨d,B,c,f,e,by rw[hlen],k,i,by rw[hlen];exact H⟩
theorem zS {α β:Type}[DecidableEq α]{ka:α→Value}{vb:β→Value}{z:Value}{P:Program}{t kt et:TypeId}{l:List (α × β)}{r:Nat}{w:World}{kk:Value→World→Prop}(f:(aP ka vb r l).ok w)(W:ld P t kt et ka vb z)(a:α){b:β}(d:bS l a=some b)(h:kk (.tuple #[vb b,.bool true]) w):gL P t (.map (some r)) (ka a) true w kk:=
 lr f W a (fun g c=>by rw[d] at c;cases c;exact h) (fun e=>by rw[d] at e;cases e)
theorem rU {α β:Type}[DecidableEq α]{ka:α→Value}{vb:β→Value}{z:Value}{P:Program}{t kt et:TypeId}{l:List (α × β)}{r:Nat}{w:World}{kk:Value→World→Prop}(c:(aP ka vb r l).ok w)(W:ld P t kt et ka vb z)(a:α)(d:bS l a=none)(h:kk (.tuple #[z,.bool false]) w):gL P t (.map (some r)) (ka a) true w kk:=
 lr c W a (fun e b=>by rw[d] at b;cases b) (fun _=>h)
theorem q6 {P:Program}{t:TypeId}{m i x x':Value}{w:World}{k:Value→World→Prop}(a:x=x')(h:od P t m i x' w k):od P t m i x w k:=by subst a;exact h
theorem tn {a b c:Int}{w:World}{kk:Value→World→Prop}(h:kk (k3 a b c) w):b8 prog 292 [(0,.int .i64 a),(1,.int .i64 b),(2,.int .i64 c)] w kk:=
 bt (fun w=>by kernel_rfl) h
theorem iA {A:Ar}{id:Int}(h:0≤aR A id):0≤id:=by
 rcases jo h with rfl | rfl | ⟨i,_,rfl,_⟩ <;> omega
theorem wB:enters prog 212=true:=by kernel_rfl
theorem Jt {g r:Nat}{sv:Value}{room:Int}{A:Ar}(l lo hi:Int)(b:lo<9223372036854775808)(c:hi<9223372036854775808)(j:l<0∨aR A lo≤l∨aR A hi≤l)(w:World)(h:(bI g r sv room A).ok w) :
  bw prog 212 [(ah g),.int .i64 l,.int .i64 lo,.int .i64 hi] w fun v w'=>v=.tuple #[.int .i64 0,.int .i64 1]∧aT w w':=by
 refine ar (N:=112) func212 wB rfl rfl rfl (by simp) ?_;have H:=Hp.aC w;refine jy ?_
 iterate 3 refine af rfl ?_
 refine au (fun e=>?_) (fun e=>?_)
 ·refine ag (decide_eq_true (by assumption)) ?_
  iterate 4 refine ag (decide_eq_true (by assumption)) ?_
  iterate 7 refine ag rfl ?_
  exact ⟨rfl,H.keeps⟩
 ·refine af (decide_eq_false (by assumption)) ?_;refine af (decide_eq_false (by assumption)) ?_;refine aj (yq _ b _ h) ?_;rintro _ f ⟨rfl,a⟩;replace h:=iO h a;replace H:=H.same a;clear a
  iterate 3 refine af (decide_eq_false (by assumption)) ?_
  refine au (fun d=>?_) (fun d=>?_)
  ·refine ag (decide_eq_true (by assumption)) ?_
   iterate 4 refine ag (decide_eq_true (by assumption)) ?_
   refine ag rfl ?_;exact ⟨rfl,H.keeps⟩
  ·refine af (decide_eq_false (by assumption)) ?_;refine af (decide_eq_false (by assumption)) ?_;refine aj (yq _ c _ h) ?_;rintro _ i ⟨rfl,a⟩;replace h:=iO h a;replace H:=H.same a;clear a
   iterate 3 refine af (decide_eq_false (by assumption)) ?_
   refine ag (decide_eq_true (by omega)) ?_;exact ⟨rfl,H.keeps⟩
theorem Ju {g r:Nat}{sv:Value}{room:Int}{A:Ar}(n:Nd)(b:(n.lo:Int)<9223372036854775808)(d:(n.hi:Int)<9223372036854775808)(x:(n.l:Int)<aR A n.lo)(y:(n.l:Int)<aR A n.hi)(i:Nat)(f:iJ A n=some i)(w:World)(h:(bI g r sv room A).ok w) :
  bw prog 212 [(ah g),.int .i64 n.l,.int .i64 n.lo,.int .i64 n.hi] w fun v w'=>v=.tuple #[.int .i64 ((i+2:Nat):Int),.int .i64 0]∧aT w w':=by
 refine ar (N:=112) func212 wB rfl rfl rfl (by simp) ?_;have e:=h;obtain ⟨N,B,c,l,rfl,rfl,j,k,H⟩:=me e;have m:bS l n=some (i+2):=by rw[j.get,f];rfl
 clear e;refine jy ?_
 iterate 6 refine af rfl ?_
 refine aj (yq _ b _ h) ?_;rintro _ o ⟨rfl,a⟩;replace h:=iO h a;replace H:=H.same a;clear a
 iterate 3 refine af rfl ?_
 iterate 3 refine af (decide_eq_false (by omega)) ?_
 refine aj (yq _ d _ h) ?_;rintro _ p ⟨rfl,a⟩;replace h:=iO h a;replace H:=H.same a;clear a
 iterate 4 refine af (decide_eq_false (by omega)) ?_
 refine tn ?_;refine H.alloc 292 sq rfl ?_;clear H;intro g23 q H;refine H.storeAll 0 rfl dO rfl (fun v s=>l_ (.inl n) v s) ?_;clear H;intro t H;refine H.draw eO (by kernel_rfl) ?_;clear H;intro u H;refine quiet _ (fun w H=>aa (mL _) ae) ?_;refine quiet _ (fun w H=>jZ (H.ro 0 rfl) pq rfl ae) ?_;refine quiet _ (fun w H=>H.ai 0 rfl nI dO ae) ?_;refine quiet _ (fun w H=>zS (H.ro 2 rfl) wz n m ae) ?_;refine ag rfl ?_;exact ⟨rfl,H.keeps⟩
theorem Jv {g r:Nat}{sv:Value}{room:Int}{A:Ar}(n:Nd)(b:(n.lo:Int)<9223372036854775808)(d:(n.hi:Int)<9223372036854775808)(y:(n.l:Int)<aR A n.lo)(z:(n.l:Int)<aR A n.hi)(j:iJ A n=none)(e:room≤(lp A:Int))(w:World)(h:(bI g r sv room A).ok w) :
  bw prog 212 [(ah g),.int .i64 n.l,.int .i64 n.lo,.int .i64 n.hi] w fun v w'=>v=.tuple #[.int .i64 0,.int .i64 5]∧aT w w':=by
 refine ar (N:=112) func212 wB rfl rfl rfl (by simp) ?_;have f:=h;obtain ⟨N,B,c,l,rfl,rfl,i,k,H⟩:=me f;have m:bS l n=none:=by rw[i.get,j];rfl
 have hlen:=i.len;clear f;refine jy ?_
 iterate 6 refine af rfl ?_
 refine aj (yq _ b _ h) ?_;rintro _ o ⟨rfl,a⟩;replace h:=iO h a;replace H:=H.same a;clear a
 iterate 3 refine af rfl ?_
 iterate 3 refine af (decide_eq_false (by omega)) ?_
 refine aj (yq _ d _ h) ?_;rintro _ p ⟨rfl,a⟩;replace h:=iO h a;replace H:=H.same a;clear a
 iterate 4 refine af (decide_eq_false (by omega)) ?_
 refine tn ?_;refine H.alloc 292 sq rfl ?_;clear H;intro g23 q H;refine H.storeAll 0 rfl dO rfl (fun v s=>l_ (.inl n) v s) ?_;clear H;intro t H;refine H.draw eO (by kernel_rfl) ?_;clear H;intro u H;refine quiet _ (fun w H=>aa (mL _) ae) ?_;refine quiet _ (fun w H=>jZ (H.ro 0 rfl) pq rfl ae) ?_;refine quiet _ (fun w H=>H.ai 0 rfl nI dO ae) ?_;refine quiet _ (fun w H=>rU (H.ro 2 rfl) wz n m ae) ?_;refine af rfl ?_;refine H.draw eO (by kernel_rfl) ?_;clear H;intro x H;refine quiet _ (fun w H=>aa (mL _) ae) ?_;refine quiet _ (fun w H=>jZ (H.ro 0 rfl) pq rfl ae) ?_;refine quiet _ (fun w H=>u5 (H.ro 2 rfl) wz ae) ?_;refine quiet _ (fun w H=>aa (BH _) ae) ?_;refine quiet _ (fun w H=>jZ (H.ro 0 rfl) aF rfl ae) ?_;refine ag (decide_eq_true (by omega)) ?_;exact ⟨rfl,H.keeps⟩
theorem Jw {k:Nat}(a:k<9223372036854775000):IntKind.i64.wrap ((k:Int)+2)=((k+2:Nat):Int):=by rw[aH (by omega) (by omega)];omega
theorem Jx {g r:Nat}{sv:Value}{room:Int}{A:Ar}(n:Nd)(y:(n.lo:Int)<9223372036854775808)(C:(n.hi:Int)<9223372036854775808)(h1:(n.l:Int)<aR A n.lo)(h2:(n.l:Int)<aR A n.hi)(D:iJ A n=none)(E:(lp A:Int)<room)(f:uM room A)(w:World)(h:(bI g r sv room A).ok w) :
  bw prog 212 [(ah g),.int .i64 n.l,.int .i64 n.lo,.int .i64 n.hi] w fun v w'=>∃ F,v=.tuple #[.int .i64 ((bT A+2:Nat):Int),.int .i64 0]∧jS w w' (bI g r sv room A) (bI g r F room (jd A n)):=by
 refine ar (N:=112) func212 wB rfl rfl rfl (by simp) ?_;have J:=h;obtain ⟨N,B,c,l,rfl,rfl,x,O,H⟩:=GY J;have Q:bS l n=none:=by rw[x.get,D];rfl
 have hlen:=x.len;clear J;refine jy ?_
 iterate 6 refine af rfl ?_
 refine aj (yq _ y _ h) ?_;rintro _ S ⟨rfl,o⟩;replace h:=iO h o;replace H:=H.same o;clear o
 iterate 3 refine af rfl ?_
 iterate 3 refine af (decide_eq_false (by omega)) ?_
 refine aj (yq _ C _ h) ?_;rintro _ T ⟨rfl,o⟩;replace h:=iO h o;replace H:=H.same o;clear o
 iterate 4 refine af (decide_eq_false (by omega)) ?_
 refine tn ?_;refine H.alloc 292 sq rfl ?_;clear H;intro g23 U H;refine H.storeAll 0 rfl dO rfl (fun v G=>l_ (.inl n) v G) ?_;clear H;intro V H;refine H.draw eO (by kernel_rfl) ?_;clear H;intro X H;refine quiet _ (fun w H=>aa (mL _) ae) ?_;refine quiet _ (fun w H=>H.load 1 rfl pq rfl ae) ?_;refine quiet _ (fun w H=>H.ai 0 rfl nI dO ae) ?_;refine quiet _ (fun w H=>rU (H.get 3 rfl) wz n Q ae) ?_;refine af rfl ?_;refine H.draw eO (by kernel_rfl) ?_;clear H;intro Y H;refine quiet _ (fun w H=>aa (mL _) ae) ?_;refine quiet _ (fun w H=>H.load 1 rfl pq rfl ae) ?_;refine quiet _ (fun w H=>u5 (H.get 3 rfl) wz ae) ?_;refine quiet _ (fun w H=>aa (BH _) ae) ?_;refine quiet _ (fun w H=>H.load 1 rfl aF rfl ae) ?_;refine af (decide_eq_false (by omega)) ?_;have I:=nA (iC N);rw[fy] at I;have Z:N.length≤20000:=by have h3:=f.len;have h4:=f.room;rw[fy] at h3;omega
 have j:IntKind.i64.wrap ((bT (iC N):Int)+2)=((bT (iC N)+2:Nat):Int):=Jw (by omega);refine ax (γ:=Nat) (fun i=>[(13,.int .i64 (i:Int))]) (fun i w'=>i≤bT (iC N)∧H.cl w') (fun i=>bT (iC N) - i) 0 ⟨rfl,trivial⟩ ⟨Nat.zero_le _,H⟩ ?_;rintro i u w8 ⟨hi,K⟩;have H:Hp _ _ _ _ _:=K;rcases Nat.lt_or_ge i (bT (iC N)) with q | q
 ·obtain ⟨m,hm⟩:=lq q;have a:i<N.length:=by omega
  obtain ⟨g0,rfl⟩:=jT (H.get 2 rfl) (by omega);obtain ⟨s,d⟩:∃ s,N[i]?=some s:=⟨_,List.getElem?_eq_getElem a⟩;have b:=nJ d;rw[hm] at b
  cases s with
  | inr p=>cases b
  | inl n'=>
   cases b
   refine aa (fX _) ?_;refine H.load 1 rfl jx rfl ?_;refine ay underlying238 ?_
   iterate 3 refine ag (decide_eq_true (by omega)) ?_
   refine aa (fX _) ?_;refine ag (decide_eq_true (by omega)) ?_;refine H.load 1 rfl jx rfl ?_
   iterate 2 refine ag (decide_eq_true (by omega)) ?_
   refine ao underlying238 dO i rfl a (o':=i*3) (by omega) ?_;refine ag (decide_eq_true (by omega)) ?_;refine aa (oz _ _) ?_;refine ag (decide_eq_true (by omega)) ?_;refine sZ (H.get 2 rfl) gw aF i 0 rfl d rfl ?_
   iterate 2 refine ag (decide_eq_true (by omega)) ?_
   refine ag rfl ?_;exact ⟨i+1,by omega,⟨up (by omega),trivial⟩,by omega,K⟩
 ·obtain rfl:i=bT (iC N):=by omega
  by_cases k:bT (iC N)=N.length
  ·refine aa (fX _) ?_;refine H.load 1 rfl jx rfl ?_;refine ay underlying238 ?_
   iterate 10 refine af (decide_eq_false (by omega)) ?_
   refine af rfl ?_;refine aa (fX _) ?_;refine H.load 1 rfl jx rfl ?_;refine ay underlying238 ?_;refine ag (beq_iff_eq.2 (by omega)) ?_;refine H.fp [an g23 292 #[.int .i64 n.l,.int .i64 n.lo,.int .i64 n.hi],an g 240 (xF B N.length c room r),aP zt zu r l] (fun u H=>(H.front 2 rfl).forget) eO (by kernel_rfl) ?_;clear H;intro w27 H;refine quiet _ (fun w H=>aa (fX _) ae) ?_;refine quiet _ (fun w H=>H.load 1 rfl jx rfl ae) ?_;refine quiet _ (fun w H=>H.ai 0 rfl nI dO ae) ?_;refine H.bf L7 (cs:=(nf (.inl n)).toArray) (by decide) (by decide) (by kernel_rfl) ?_;clear H;intro g28 w28 H;refine ⟨.inl ((H.forget).front 2 rfl).forget,?_⟩;refine H.aG 3 0 L7 rfl rfl rfl (fun v G=>l_ (.inl n) v G) (by omega) (by omega) ?_;intro t d29 w29 H;refine ⟨.inl ((H.forget).front 2 rfl).forget,?_⟩;refine quiet _ (fun w H=>aa (fX _) ae) ?_;refine H.store 2 rfl GR (Nat.le_of_ble_eq_true rfl) rfl ?_;clear H;intro w4 H;refine ⟨.inr rfl,?_⟩;refine H.draw eO (by kernel_rfl) ?_;clear H;intro M H;refine quiet _ (fun w H=>aa (mL _) ae) ?_;refine quiet _ (fun w H=>H.load 2 rfl pq rfl ae) ?_;refine quiet _ (fun w H=>H.ai 1 rfl nI dO ae) ?_;refine q6 (congrArg _ j) (H.iI 4 rfl wz n (bT (iC N)+2) ?_);clear H;intro w7 H;refine ⟨.inr rfl,?_⟩;have H:Hp w (bI g r (.slice B N.length c) room (iC N)).foot w7 (an g 240 (xF t (N.length+1) d29 room r)::own 292 3 (.slice t (N.length+1) d29) (N.length+1) (flat nf N++nf (.inl n))::aP zt zu r (dZ l n (bT (iC N)+2))::[]) []:=H.forget.forget;rw[← de] at H;have e:iC (N++[.inl n])=jd (iC N) n:=by
    rw[Et,jd,fy,if_pos k];rfl
   have H:=q4 H (by simp) (by rw[e];exact BA x f.inv.uniq D);rw[e] at H;exact ⟨_,congrArg (fun z=>Value.tuple #[.int .i64 z,.int .i64 0]) j,H.bg⟩
  ·have a:bT (iC N)<N.length:=by omega
   obtain ⟨g0,rfl⟩:=jT (H.get 2 rfl) (by omega);obtain ⟨s,d⟩:∃ s,N[bT (iC N)]?=some s:=⟨_,List.getElem?_eq_getElem a⟩;have b:=nJ d;rw[kv] at b
   cases s with
   | inl n'=>cases b
   | inr p=>
    refine aa (fX _) ?_;refine H.load 1 rfl jx rfl ?_;refine ay underlying238 ?_
    iterate 3 refine ag (decide_eq_true (by omega)) ?_
    refine aa (fX _) ?_;refine ag (decide_eq_true (by omega)) ?_;refine H.load 1 rfl jx rfl ?_
    iterate 2 refine ag (decide_eq_true (by omega)) ?_
    refine ao underlying238 dO (bT (iC N)) rfl a (o':=bT (iC N)*3) (by omega) ?_;refine ag (decide_eq_true (by omega)) ?_;refine aa (oz _ _) ?_;refine ag (decide_eq_true (by omega)) ?_;refine sZ (H.get 2 rfl) gw aF (bT (iC N)) 0 rfl d rfl ?_
    iterate 2 refine ag (decide_eq_true (by omega)) ?_
    refine af rfl ?_;refine aa (fX _) ?_;refine H.load 1 rfl jx rfl ?_;refine ay underlying238 ?_;refine af (beq_eq_false_iff_ne.2 (by omega)) ?_;refine H.draw eO (by kernel_rfl) ?_;clear H;intro w33 H;refine quiet _ (fun w H=>aa (fX _) ae) ?_;refine quiet _ (fun w H=>H.load 1 rfl jx rfl ae) ?_;refine quiet _ (fun w H=>H.ai 0 rfl nI dO ae) ?_;refine quiet _ (fun w H=>ao underlying238 dO (bT (iC N)) rfl a (o':=bT (iC N)*3) (by omega) ae) ?_;refine H.x8 2 (.inl n) rfl gw dO (bT (iC N)) rfl a rfl (l_ _) ?_;clear H;intro w34 H;refine ⟨.inr rfl,?_⟩;refine H.draw eO (by kernel_rfl) ?_;clear H;intro w35 H;refine quiet _ (fun w H=>aa (mL _) ae) ?_;refine quiet _ (fun w H=>H.load 1 rfl pq rfl ae) ?_;refine quiet _ (fun w H=>H.ai 0 rfl nI dO ae) ?_;refine q6 (congrArg _ j) (H.iI 3 rfl wz n (bT (iC N)+2) ?_);clear H;intro M H;refine ⟨.inr rfl,?_⟩;have H:Hp w (bI g r (.slice (some ⟨g0,0,none⟩) N.length c) room (iC N)).foot M (an g 240 (xF (some ⟨g0,0,none⟩) N.length c room r)::own 292 3 (.slice (some ⟨g0,0,none⟩) N.length c) N.length (flat nf (N.set (bT (iC N)) (.inl n)))::aP zt zu r (dZ l n (bT (iC N)+2))::[]) []:=H.forget;have e:iC (N.set (bT (iC N)) (.inl n))=jd (iC N) n:=by
     rw[GS,jd,fy,if_neg k];rfl
    have H:=q4 H (by rw[List.length_set]) (by rw[e];exact BA x f.inv.uniq D);rw[e] at H;exact ⟨_,congrArg (fun z=>Value.tuple #[.int .i64 z,.int .i64 0]) j,H.bg⟩
theorem zT {A:Ar}(h:bT A=A.length):lp A=A.length:=by
 unfold lp;rw[List.countP_eq_length];intro x a;obtain ⟨i,hi⟩:=List.mem_iff_getElem?.1 a;have b:=(List.getElem?_eq_some_iff.1 hi).1;obtain ⟨n,c⟩:=lq (A:=A) (i:=i) (by omega);rw[jR b,c] at hi;injection hi with hi;rw[← hi];rfl
theorem Jy {room:Int}{A:Ar}(a:uM room A){n:Nd}(c:iJ A n=none)(d:(n.l:Int)<aR A n.lo)(e:(n.l:Int)<aR A n.hi)(b:(lp A:Int)<room):uM room (jd A n):=by
 refine ⟨GJ a.inv c d e,?_,a.room⟩;rw[nB];split
 ·rename_i h;rw[zT h] at b;omega
 ·exact a.len
theorem Mb {room:Int}{A:Ar}(a:uM room A)(l lo hi:Int):uM room (we room A l lo hi).1:=by
 unfold we;split
 ·exact a
 ·rename_i h;rw[not_or,not_or] at h;have b:=iA (A:=A) (id:=lo) (by omega);have c:=iA (A:=A) (id:=hi) (by omega);split
  ·exact a
  ·rename_i d;split
   ·exact a
   ·rename_i e;refine Jy a d ?_ ?_ (by omega)
    ·show ((l.toNat:Nat):Int)<aR A ((lo.toNat:Nat):Int);rw[Int.toNat_of_nonneg (by omega),Int.toNat_of_nonneg b];omega
    ·show ((l.toNat:Nat):Int)<aR A ((hi.toNat:Nat):Int);rw[Int.toNat_of_nonneg (by omega),Int.toNat_of_nonneg c];omega
theorem c212 {g r:Nat}{sv:Value}{room:Int}{A:Ar}(l lo hi:Int)(s:l<9223372036854775808)(d:lo<9223372036854775808)(e:hi<9223372036854775808)(k:uM room A)(w:World)(h:(bI g r sv room A).ok w) :
  bw prog 212 [(ah g),.int .i64 l,.int .i64 lo,.int .i64 hi] w fun v w'=>
   ∃ m,v=.tuple #[.int .i64 (we room A l lo hi).2.1,.int .i64 (we room A l lo hi).2.2]∧jS w w' (bI g r sv room A) (bI g r m room (we room A l lo hi).1):=by
 unfold we;split
 ·rename_i n;refine (Jt l lo hi d e n w h).mono ?_;rintro v w' ⟨rfl,f⟩;exact ⟨sv,rfl,tm h f⟩
 ·rename_i n;rw[not_or,not_or] at n;have o:=iA (A:=A) (id:=lo) (by omega);have p:=iA (A:=A) (id:=hi) (by omega);obtain ⟨a,rfl⟩:=Int.eq_ofNat_of_zero_le (show 0≤l by omega);obtain ⟨b,rfl⟩:=Int.eq_ofNat_of_zero_le o;obtain ⟨c,rfl⟩:=Int.eq_ofNat_of_zero_le p;simp only[Int.toNat_natCast];split
  ·rename_i i j;refine (Ju ⟨a,b,c⟩ d e (by show (a:Int)<aR A (b:Int);omega) (by show (a:Int)<aR A (c:Int);omega) i j w h).mono ?_;rintro v w' ⟨rfl,f⟩;exact ⟨sv,rfl,tm h f⟩
  ·rename_i j;split
   ·rename_i q;refine (Jv ⟨a,b,c⟩ d e (by show (a:Int)<aR A (b:Int);omega) (by show (a:Int)<aR A (c:Int);omega) j q w h).mono ?_;rintro v w' ⟨rfl,f⟩;exact ⟨sv,rfl,tm h f⟩
   ·rename_i q;exact Jx ⟨a,b,c⟩ d e (by show (a:Int)<aR A (b:Int);omega) (by show (a:Int)<aR A (c:Int);omega) j (by omega) k w h
theorem zU {A:Ar}{id:Int}(h:0≤aR A id):id<(A.length:Int)+2:=by
 rcases jo h with rfl | rfl | ⟨i,n,rfl,hi,_⟩
 ·omega
 ·omega
 ·have:=pV hi;omega
def aA (l:List Int):List Value:=l.map (Value.int .i64)
theorem oC {l:List Int}{i:Nat}(hi:i<l.length):(aA l)[i]?=some (.int .i64 l[i]):=by simp[aA,hi]
theorem Jz {room:Int}(a:0≤room)(b:room≤20000):uM room []:=by
 refine ⟨⟨fun i j n h=>?_,fun i n h=>?_,fun i n h=>?_⟩,by simpa using a,b⟩ <;> (have:=pV h;simp at this)
end Go.Proofs.YtpjihhgjbbihkaaGreatDoor
namespace Go.Dk
set_option maxRecDepth 100000
open Go.ChangeShapes Go.WideShapes Go.ChangeAt Go.RowKit Go.ChangeMaps
section
variable {H:Type} {enc0:TypeId × Value→H} {P:Program} {w:World} {base:Nat} {spare:Nat→Bool} {held:Bool}
theorem CH {w:World}{a:Addr}{v:Value}(h:w.cell? a=some v):a.spot=none∧a.block<w.heap.size:=by
 unfold World.cell? at h;split at h
 ·rename_i c e d b;refine ⟨?_,(Array.getElem?_eq_some_iff.1 b).1⟩
  cases hs:a.spot with
  | none=>rfl
  | some x=>simp[hs] at h
 ·cases h
end
end Go.Dk
namespace Go.Proofs.YtpjihhgjbbihkaaGreatDoor
open Go.Proofs.Tryz
set_option maxRecDepth 100000
open Go.Dk Go.ChangeShapes Go.WideShapes Go.ChangeAt Go.RowKit Go.ChangeMaps
def O1 (n:Int):Prop:= -9223372036854775808≤n∧n<9223372036854775808
section
variable {H:Type} {enc:TypeId × Value→H} {w:World} {base b:Nat} {spare:Nat→Bool} {held:Bool}
theorem EB {fuel:Nat}{r:List Value}{x:DataW H × List MemPlace}(h:DataW.trod enc prog w base spare held fuel 3 r=some x):∃ n,O1 n∧r=[.int .i64 n]:=by
 obtain ⟨m,a,rfl,hw⟩:=DataW.trod_int underlying3 h;simp[Lit.wf,IntKind.min,IntKind.max,IntKind.signed,IntKind.bits] at hw;exact ⟨m,⟨by omega,by omega⟩,a⟩
set_option maxRecDepth 100000 in
theorem JA:Tryz.prog.cellsOf 3=1:=by kernel_rfl
end
end Go.Proofs.YtpjihhgjbbihkaaGreatDoor
namespace Go.Proofs.YtpjihhgjbbihkaaGreatDoor
set_option maxRecDepth 100000
open Go.Dk
attribute [local irreducible] IntKind.wrap
section
variable {P:Program} {w0 w w':World} {F:Nat→Prop} {L M:List cH} {k kk:Value→World→Prop}
theorem Hp.dr (H:Hp w0 F w L M){t e:TypeId}{z:Value}{sz b:Nat}(T:qI P t e z sz b)(h:∀ g w',Hp w0 F w' (own e sz (.slice (some ⟨g,0,none⟩) 0 0) 0 []::L) M→k (.slice (some ⟨g,0,none⟩) 0 0) w'):gq P t 0 [] w k:=by
 unfold gq;refine ⟨_,w.alloc (.cells #[] e),?_,h w.heap.size _ (H.add (aS.alloc _ _) _ ?_ ?_)⟩
 ·simp only[Instr.buildSlice,Sem.run_bind,run_underlying T.und,Result.andThen_ok,Go.Dk.run_sizeOf T.size];simp[Instr.fill,newRow];exact congrArg (fun x=>w.alloc (.cells x e)) (Array.eq_empty_of_size_eq_zero (by simp))
 ·exact ⟨by simp,.inr ⟨w.heap.size,0,#[],rfl,Nat.zero_le _,heap_alloc_new w _,Nat.le_refl _,by unfold maxLen;omega,by simp,by simp⟩⟩
 ·rintro g a;have:w.heap.size=g:=by injection a
  subst this;exact ⟨Nat.le_refl _,by simp⟩
theorem Hp.b_ (H:Hp w0 F w L M)(n:Nat){t e ty:TypeId}{z:Value}{sz b g c d:Nat}{A:Option Addr}{xs:List Value}{y:Array Bool}(T:qI P t e z sz b)(B:L[n]?=some (own e sz (.slice (some ⟨g,0,none⟩) 0 0) 0 []))(hs:Sl w (.slice A c d) sz c xs)(C:∀ u ∈ xs,u.oneCell'=true)(Q:c*b≤140737488355328)(S:c<1152921504606846976)(h:∀ A d w',Hp w0 F w' (L.set n (own e sz (.slice A c d) c xs)) M→kk (.slice A c d) w') :
  bV P .append #[t,t] ty y [.slice (some ⟨g,0,none⟩) 0 0,.slice A c d] w kk:=by
 obtain ⟨i,hi,U,D,V⟩:=T.parts;have p:w.ownsRow 0 e sz (.slice (some ⟨g,0,none⟩) 0 0) 0 []:=H.get n B;have k:=hs.1;rcases A with _ | a
 ·have E:c=0:=by
   rcases Nat.eq_zero_or_pos c with l | l
   ·exact l
   ·obtain ⟨_,_,X⟩:=hs.A l;cases X
  subst E;have o:xs=[]:=List.eq_nil_of_length_eq_zero (by simpa using k);subst o;have Y:L.set n (own e sz (.slice (some ⟨g,0,none⟩) 0 0) 0 [])=L:=by
   obtain ⟨C,Z⟩:=List.getElem?_eq_some_iff.1 B;rw[← Z];exact List.set_getElem_self C
  unfold bV;refine ⟨_,w,?_,h (some ⟨g,0,none⟩) 0 w (by rw[Y];exact H)⟩;show (do pure (.value (← Builtin.append_ #[t,t] ty #[.slice (some ⟨g,0,none⟩) 0 0,.slice none 0 d])):Sem Next).run P w=_;simp[Builtin.append_,run_underlying T.und,sizeOf,typeInfo,hi,Builtin.lenOf,Builtin.firstCells,storeCells]
 ·obtain ⟨G,w',q,f,r,_,s⟩:=run_append_own_at (P:=P) w 0 t ty e i z sz b T.und hi U D V T.zs T.pos (.slice (some ⟨g,0,none⟩) 0 0) 0 [] p a c d xs k
   (fun j u hu=>by
    have I:=(List.getElem?_eq_some_iff.1 hu).1;have E:0<c:=by
     rcases Nat.eq_zero_or_pos c with l | l
     ·subst l;simp at k;subst k;simp at I
     ·exact l
    obtain ⟨J,o',K⟩:=hs.A E;injection K with K;subst K;have v:(⟨J,o',none⟩:Addr).add j=⟨J,o'+j,none⟩:=by unfold Addr.add;split <;> simp_all
    rw[v,hs.cell j (by omega),hu]) C (by unfold maxLen;omega) (by rw[Nat.zero_add];exact Q) (Nat.zero_le _)
  rw[Nat.zero_add,List.nil_append] at f;have hk:aS (own e sz (.slice (some ⟨g,0,none⟩) 0 0) 0 []).foot w w':=⟨r.os,r.tape,r.output,r.size,fun x o N=>r.block x o fun e=>N e.symm⟩;have H':=H.nc n B (own e sz G c xs) hk f (fun x o=>⟨(World.ownsRow.lt (w:=w') (base:=0) f x o).2,by
   have m:G.ownBlock=some x:=o;rcases s with h | h
   ·left;show Value.ownBlock _=some x;rw[← h];exact m
   ·right;rw[h] at m;injection m with m;omega⟩)
  have O:∃ A d,G=.slice A c d:=by
   rcases f.2 with ⟨rfl,l⟩ | ⟨J,cap,cur,O,_⟩
   ·exact ⟨none,0,by rw[l]⟩
   ·exact ⟨_,_,O⟩
  obtain ⟨A,d',rfl⟩:=O;unfold bV;refine ⟨_,w',?_,h A d' w' H'⟩;show (do pure (.value (← Builtin.append_ #[t,t] ty #[.slice (some ⟨g,0,none⟩) 0 0,.slice (some a) c d])):Sem Next).run P w=_;rw[Sem.run_bind,q];rfl
end
open Go.Proofs.Tryz
theorem EC {k x:Int}{l:List Int}(h:k ∉ l)(b:x≠k):k ∉ l++[x]:=by
 simp only[List.mem_append,List.mem_singleton];rintro (a | a)
 ·exact h a
 ·exact b a.symm
theorem JB:enters prog 156=true:=by kernel_rfl
theorem c156 (a:List Int)(B:Option Addr)(c:Nat)(k:Int)(w:World)(m:a.length≤1000000000)(hs:Sl w (.slice B a.length c) 1 a.length (aA a)) :
  bw prog 156 [.slice B a.length c,.int .i64 k] w fun v w'=>v=.bool (decide (k ∈ a))∧aT w w':=by
 refine ar (N:=17) func156 JB rfl rfl rfl (by simp) ?_;have H:=Hp.aC w;refine aw (fun w'=>Hp.cl H w') ⟨(),trivial,H⟩ ?_;rintro ⟨⟩ u w0 H1;replace H:Hp _ _ _ _ _:=H1;clear H1;refine aw (fun w'=>k ∉ a∧Hp.cl H w') ?_ ?_
 ·refine ay underlying75 ?_;refine ax (γ:=Nat) (fun i=>[(9,.int .i64 (i:Int))]) (fun i w'=>(i≤a.length∧k ∉ a.take i)∧Hp.cl H w') (fun i=>a.length - i) 0 ⟨rfl,trivial⟩ ⟨⟨Nat.zero_le _,by simp⟩,H⟩ ?_;rintro i u h ⟨⟨hi,b⟩,H1⟩;replace H:Hp _ _ _ _ _:=H1;refine au (fun j=>?_) (fun j=>?_)
  ·obtain ⟨x,e⟩:∃ x,a[i]?=some x:=⟨_,List.getElem?_eq_getElem (by omega)⟩;obtain ⟨g0,l,rfl⟩:=hs.A (by omega);have d:(aA a)[i]?=some (.int .i64 x):=by rw[aA,List.getElem?_map,e];rfl
   have f:a.take (i+1)=a.take i++[x]:=by rw[List.take_add_one,e];rfl
   refine ao underlying75 (s:=1) bc i rfl (by omega) (o':=l+i) (by omega) ?_;refine H.dq (i:=i) hs aF _ rfl d ?_;refine cg (fun g=>?_) (fun g=>?_)
   ·refine ⟨congrArg Value.bool ?_,H.keeps⟩;exact (decide_eq_true (by rw[← g];exact List.mem_of_getElem? e)).symm
   ·exact ⟨i+1,by show a.length - (i+1)<a.length - i;omega,⟨up (by omega),trivial⟩,⟨by show i+1≤a.length;omega,by rw[f];exact EC b g⟩,H⟩
  ·have:i=a.length:=by omega
   subst this;rw[List.take_length] at b;exact ⟨(),trivial,b,H⟩
 ·rintro ⟨⟩ u h ⟨b,H1⟩;exact ⟨by rw[decide_eq_false b];rfl,H1.keeps⟩
theorem ED {l:List Int}{i:Nat}{x:Int}(p:Int→Bool)(a:l[i]?=some x):(l.take (i+1)).all p=((l.take i).all p&&p x):=by
 rw[List.take_add_one,a];simp
theorem JC:enters prog 157=true:=by kernel_rfl
theorem c157 (a b:List Int)(A B:Option Addr)(n f:Nat)(w:World)(C:a.length≤1000000000)(g:b.length≤1000000000)(o:Sl w (.slice A a.length n) 1 a.length (aA a))(q:Sl w (.slice B b.length f) 1 b.length (aA b)) :
  bw prog 157 [.slice A a.length n,.slice B b.length f] w fun v w'=>v=.bool (iG a b)∧aT w w':=by
 refine ar (N:=18) func157 JC rfl rfl rfl (by simp) ?_;have H:=Hp.aC w;refine aw (fun w'=>Hp.cl H w') ⟨(),trivial,H⟩ ?_;rintro ⟨⟩ u w0 H1;replace H:Hp _ _ _ _ _:=H1;clear H1;refine aw (fun w'=>iG a b=true∧Hp.cl H w') ?_ ?_
 ·refine ay underlying75 ?_;refine ax (γ:=Nat) (fun i=>[(9,.int .i64 (i:Int))]) (fun i w'=>(i≤a.length∧(a.take i).all (fun k=>decide (k ∈ b))=true)∧Hp.cl H w') (fun i=>a.length - i) 0 ⟨rfl,trivial⟩ ⟨⟨Nat.zero_le _,by simp⟩,H⟩ ?_;rintro i u r ⟨⟨hi,c⟩,H1⟩;replace H:Hp _ _ _ _ _:=H1;refine au (fun t=>?_) (fun t=>?_)
  ·obtain ⟨x,h⟩:∃ x,a[i]?=some x:=⟨_,List.getElem?_eq_getElem (by omega)⟩;obtain ⟨g0,y,rfl⟩:=o.A (by omega);have d:(aA a)[i]?=some (.int .i64 x):=by rw[aA,List.getElem?_map,h];rfl
   have e:=ED (fun k=>decide (k ∈ b)) h;rw[c,Bool.true_and] at e;refine ao underlying75 (s:=1) bc i rfl (by omega) (o':=y+i) (by omega) ?_;refine H.dq (i:=i) o aF _ rfl d ?_;refine aj (c156 b B f x _ g (q.same H.keeps)) ?_;rintro _ D ⟨rfl,p⟩;replace H:=H.same p;clear p;refine aE (fun j=>?_) (fun j=>?_)
   ·refine ⟨congrArg Value.bool ?_,H.keeps⟩;have l:x ∉ b:=by simpa using j
    symm;rw[Bool.eq_false_iff];exact fun z=>l (jJ.1 z x (List.mem_of_getElem? h))
   ·exact ⟨i+1,by show a.length - (i+1)<a.length - i;omega,⟨up (by omega),trivial⟩,⟨by show i+1≤a.length;omega,by rw[e];simpa using j⟩,H⟩
  ·have:i=a.length:=by omega
   subst this;rw[List.take_length] at c;exact ⟨(),trivial,c,H⟩
 ·rintro ⟨⟩ u r ⟨m,H1⟩;exact ⟨by rw[m];rfl,H1.keeps⟩
def q7 (S:Nat→Prop)(w:World)(v:Value)(a:List Int):Prop:=∃ B c,v=.slice B a.length c∧(sl S (.slice B a.length c) 1 a.length (aA a)).ok w
def ez (S:Nat→Prop)(v:Value)(R:a7)(w:World):Prop:=
 ∃ B c a,v=.slice B R.length c∧(sl S (.slice B R.length c) 1 R.length a).ok w∧∀ (i:Nat) (u:Value) (b:List Int),a[i]?=some u→R[i]?=some b→q7 S w u b
def bj (S:Nat→Prop)(v:Value)(R:a7):cH:=
 ⟨S,ez S v R,fun w w' h ⟨B,c,d,e,hs,f⟩=>⟨B,c,d,e,(sl _ _ _ _ _).bQ w w' h hs,fun i u g j k=>by
   obtain ⟨l,m,a,b⟩:=f i u g j k;exact ⟨l,m,a,(sl _ _ _ _ _).bQ w w' h b⟩⟩⟩
theorem bj.mono {S d:Nat→Prop}{v:Value}{R:a7}{w:World}(h:ez S v R w)(e:∀ g,S g→d g):ez d v R w:=by
 obtain ⟨B,c,f,j,hs,k⟩:=h;exact ⟨B,c,f,j,sl.mono hs e,fun i u l m n=>by
  obtain ⟨o,p,a,b⟩:=k i u l m n;exact ⟨o,p,a,sl.mono b e⟩⟩
def j5 (w:World)(v:Value)(R:a7):Prop:=ez (fun g=>g<w.heap.size) v R w
theorem j5.same {w w':World}{v:Value}{R:a7}(h:j5 w v R)(b:aT w w'):j5 w' v R:=
 bj.mono ((bj (fun g=>g<w.heap.size) v R).bQ w w' (fun g a=>b.old g a id) h) fun _ a=>Nat.lt_of_lt_of_le a b.size
theorem j5.rV {w:World}{v:Value}{R:a7}(h:j5 w v R):∃ B c a,v=.slice B R.length c∧Sl w (.slice B R.length c) 1 R.length a∧
  ∀ (i:Nat) (b:List Int),R[i]?=some b→∃ d e,a[i]?=some (.slice d b.length e)∧Sl w (.slice d b.length e) 1 b.length (aA b):=by
 obtain ⟨B,c,a,j,hs,k⟩:=h;refine ⟨B,c,a,j,hs,fun i b hi=>?_⟩;have l:=(List.getElem?_eq_some_iff.1 hi).1;have m:a.length=R.length:=by have:=hs.1;omega
 have hu:a[i]?=some (a[i]'(by omega)):=List.getElem?_eq_getElem (by omega);obtain ⟨d,e,f,g⟩:=k i _ b hu hi;exact ⟨d,e,by rw[hu,f],g⟩
theorem eA:cP prog 135=some false:=by kernel_rfl
theorem iP:cP prog 75=some false:=by kernel_rfl
theorem fP:bE prog 75=some 1:=by kernel_rfl
theorem az:bE prog 137=some 2:=by kernel_rfl
theorem aL:cP prog 137=some true:=by kernel_rfl
theorem iQ (g:Nat)(w:World):(Instr.fieldAt 137 (ah g) 0).run prog w=.ok (ah g) w:=by kernel_rfl
theorem cB (g:Nat)(w:World):(Instr.fieldAt 137 (ah g) 1).run prog w=.ok (.pointer (some ⟨g,1,none⟩)) w:=by kernel_rfl
def mc (cols:Int)(v:Value):Array Value:=#[.int .i64 cols,v]
def mv (cols:Int)(v:Value):Value:=.agg (mc cols v)
theorem CI {R:a7}{i:Nat}{x:List Int}(p:List Int→Bool)(a:R[i]?=some x):(R.take (i+1)).any p=((R.take i).any p||p x):=by
 rw[List.take_add_one,a];simp
end Go.Proofs.YtpjihhgjbbihkaaGreatDoor
namespace Go.Proofs.YtpjihhgjbbihkaaGreatDoor
set_option maxRecDepth 100000
open Go.Dk Go.ChangeShapes Go.WideShapes Go.ChangeAt Go.RowKit Go.ChangeMaps
section
variable {H:Type} {enc:TypeId × Value→H} {w:World} {base b:Nat} {spare:Nat→Bool} {held:Bool}
end
end Go.Proofs.YtpjihhgjbbihkaaGreatDoor
namespace Go.Proofs.YtpjihhgjbbihkaaGreatDoor
set_option maxRecDepth 100000
open Go.Dk
attribute [local irreducible] IntKind.wrap
def pr (cols:Int):Int→List Int→Bool
 | _,[]=>true
 | c,k::r=>decide (c<k)&&decide (k<cols)&&pr cols k r
def cD (cols:Int)(R:a7):Bool:=R.all (pr cols (-1))&&(decide (0≤cols)&&decide (cols≤4000))
theorem p8 {cols:Int}:∀ {c:Int} {r:List Int},pr cols c r=true↔oS (c::r)∧∀ k ∈ r,k<cols
 | c,[]=>by simp[pr,oS]
 | c,k::r=>by
  unfold pr;rw[Bool.and_eq_true,Bool.and_eq_true,decide_eq_true_eq,decide_eq_true_eq,p8];unfold oS;constructor
  ·rintro ⟨⟨e,b⟩,d,f⟩;refine ⟨List.pairwise_cons.2 ⟨fun x a=>?_,d⟩,fun x a=>?_⟩
   ·rcases List.mem_cons.1 a with rfl | a
    ·exact e
    ·have:=(List.pairwise_cons.1 d).1 x a;omega
   ·rcases List.mem_cons.1 a with rfl | a
    ·exact b
    ·exact f x a
  ·rintro ⟨e,b⟩;obtain ⟨d,f⟩:=List.pairwise_cons.1 e;exact ⟨⟨d k (.head _),b k (.head _)⟩,f,fun x a=>b x (.tail _ a)⟩
theorem gC {cols:Int}{R:a7}:cD cols R=true↔er cols R:=by
 unfold cD;rw[Bool.and_eq_true,Bool.and_eq_true,decide_eq_true_eq,decide_eq_true_eq,List.all_eq_true];constructor
 ·rintro ⟨c,d,e⟩;refine ⟨fun r a=>?_,fun r a k b=>?_,d,e⟩
  ·exact (List.pairwise_cons.1 (p8.1 (c r a)).1).2
  ·have:=p8.1 (c r a);have g:=(List.pairwise_cons.1 this.1).1 k b;exact ⟨by omega,this.2 k b⟩
 ·rintro ⟨c,d,e,f⟩;refine ⟨fun r a=>p8.2 ⟨List.pairwise_cons.2 ⟨fun k b=>?_,c r a⟩,fun k b=>(d r a k b).2⟩,e,f⟩;have:=(d r a k b).1;omega
open Go.Proofs.Tryz
theorem JD:enters prog 114=true:=by kernel_rfl
theorem EE {cols c k:Int}{r:List Int}{i:Nat}(a:r[i]?=some k):pr cols c (r.drop i)=(decide (c<k)&&decide (k<cols)&&pr cols k (r.drop (i+1))):=by
 have hi:=(List.getElem?_eq_some_iff.1 a).1;have e:r[i]=k:=by rw[List.getElem?_eq_getElem hi] at a;injection a
 rw[List.drop_eq_getElem_cons hi,e];rfl
theorem CK {R:a7}{i:Nat}{x:List Int}(p:List Int→Bool)(a:R[i]?=some x):(R.take (i+1)).all p=((R.take i).all p&&p x):=by
 rw[List.take_add_one,a];simp
theorem yr {cols:Int}{R:a7}{i:Nat}{x:List Int}(a:R[i]?=some x)(h:pr cols (-1) x=false):cD cols R=false:=by
 have:R.all (pr cols (-1))=false:=by
  rw[Bool.eq_false_iff];intro b;rw[List.all_eq_true.1 b x (List.mem_of_getElem? a)] at h
  cases h
 unfold cD;rw[this,Bool.false_and]
theorem EF (cols:Int)(R:a7)(v1:Value)(w:World)(I:R.length≤1000000000)(h:∀ r ∈ R,r.length≤1000000000)(t:j5 w v1 R) :
  bw prog 114 [mv cols v1] w fun v w'=>v=.bool (cD cols R)∧aT w w':=by
 refine ar (N:=41) func114 JD rfl rfl rfl (by simp) ?_;have H:=Hp.aC w;obtain ⟨A,J,K,rfl,p,l⟩:=t.rV;refine H.box 137 (mv _ _) (cs:=mc _ _) rfl ?_;clear H;intro g1 M H;refine aw (fun w'=>R.all (pr cols (-1))=true∧Hp.cl H w') ?_ ?_
 ·refine aa (cB _) ?_;refine H.load 0 rfl eA rfl ?_;refine ay underlying135 ?_;refine ax (γ:=Nat) (fun i=>[(11,.int .i64 (i:Int))]) (fun i w'=>(i≤R.length∧(R.take i).all (pr cols (-1))=true)∧Hp.cl H w') (fun i=>R.length - i) 0 ⟨rfl,trivial⟩ ⟨⟨Nat.zero_le _,by simp⟩,H⟩ ?_;rintro i u y ⟨⟨hi,b⟩,H1⟩;replace H:Hp _ _ _ _ _:=H1;refine au (fun z=>?_) (fun z=>?_)
  ·obtain ⟨x,d⟩:∃ x,R[i]?=some x:=⟨_,List.getElem?_eq_getElem (by omega)⟩;obtain ⟨g0,B,rfl⟩:=p.A (by omega);obtain ⟨O,Q,e,f⟩:=l i x d;have C:=h x (List.mem_of_getElem? d);have g:=CK (pr cols (-1)) d;rw[b,Bool.true_and] at g;refine aw (fun w'=>pr cols (-1) x=true∧Hp.cl H w') ?_ ?_
   ·refine ao underlying135 (s:=1) fP i rfl (by omega) (o':=B+i) (by omega) ?_;refine H.dq (i:=i) p iP _ rfl e ?_;refine ay underlying75 ?_;refine ax (γ:=Nat × Int) (fun (j,c)=>[(17,.int .i64 (j:Int)),(5,.int .i64 c)]) (fun (j,c) w'=>(j≤x.length∧pr cols (-1) x=pr cols c (x.drop j))∧Hp.cl H w') (fun (j,_)=>x.length - j) (0,-1) ⟨rfl,rfl,trivial⟩ ⟨⟨Nat.zero_le _,rfl⟩,H⟩ ?_;rintro ⟨j,c⟩ u D ⟨⟨S,a⟩,H1⟩;replace H:Hp _ _ _ _ _:=H1;refine au (fun E=>?_) (fun E=>?_)
    ·obtain ⟨k,q⟩:∃ k,x[j]?=some k:=⟨_,List.getElem?_eq_getElem (by omega)⟩;obtain ⟨g2,F,rfl⟩:=f.A (by omega);have m:(aA x)[j]?=some (.int .i64 k):=by rw[aA,List.getElem?_map,q];rfl
     rw[EE q] at a;refine ao underlying75 (s:=1) bc j rfl (by omega) (o':=F+j) (by omega) ?_;refine H.dq (i:=j) f aF _ rfl m ?_;refine au (fun G=>?_) (fun G=>?_)
     ·refine ag (decide_eq_true (by assumption)) ?_
      iterate 3 refine ag (decide_eq_true (by assumption)) ?_
      refine ag rfl ?_;refine ⟨congrArg Value.bool ?_,H.keeps⟩;rw[decide_eq_false (show ¬ c<k by omega),Bool.false_and,Bool.false_and] at a;exact (yr d a).symm
     ·refine af (decide_eq_false (by assumption)) ?_;refine aa (iQ _) ?_;refine af (decide_eq_false (by assumption)) ?_;refine H.load 0 rfl aF rfl ?_
      iterate 2 refine af (decide_eq_false (by assumption)) ?_
      refine au (fun n=>?_) (fun n=>?_)
      ·refine ⟨congrArg Value.bool ?_,H.keeps⟩;rw[decide_eq_false (show ¬ k<cols by omega),Bool.and_false,Bool.false_and] at a;exact (yr d a).symm
      ·rw[decide_eq_true (show c<k by omega),decide_eq_true (show k<cols by omega),Bool.true_and,Bool.true_and] at a;exact ⟨(j+1,k),by show x.length - (j+1)<x.length - j;omega,⟨up (by omega),rfl,trivial⟩,⟨by show j+1≤x.length;omega,a⟩,H⟩
    ·have:j=x.length:=by omega
     subst this;rw[List.drop_length] at a;exact ⟨(),trivial,a,H⟩
   ·rintro ⟨⟩ u D ⟨a,H1⟩;exact ⟨i+1,by show R.length - (i+1)<R.length - i;omega,⟨up (by omega),trivial⟩,⟨by show i+1≤R.length;omega,by rw[g];exact a⟩,H1⟩
  ·have:i=R.length:=by omega
   subst this;rw[List.take_length] at b;exact ⟨(),trivial,b,H⟩
 ·rintro ⟨⟩ u y ⟨b,H1⟩;replace H:Hp _ _ _ _ _:=H1;clear H1;refine aa (iQ _) ?_;refine H.load 0 rfl aF rfl ?_;refine au (fun o=>?_) (fun o=>?_)
  ·refine aa (iQ _) ?_;refine ag (decide_eq_true (by assumption)) ?_;refine H.load 0 rfl aF rfl ?_
   iterate 2 refine ag (decide_eq_true (by assumption)) ?_
   refine ⟨congrArg Value.bool ?_,H.keeps⟩;unfold cD;rw[b,Bool.true_and,decide_eq_true (show 0≤cols from o),Bool.true_and]
  ·refine af (decide_eq_false (by assumption)) ?_
   iterate 2 refine af (decide_eq_false (by assumption)) ?_
   refine ⟨congrArg Value.bool ?_,H.keeps⟩;unfold cD;rw[b,Bool.true_and,decide_eq_false (show ¬ 0≤cols from o),Bool.false_and]
end Go.Proofs.YtpjihhgjbbihkaaGreatDoor
namespace Go.Dk
set_option maxRecDepth 100000
def c_ (cols:Nat)(s:a7 × List Int):a7 × List Int:=cr cols s (eu s.1)
theorem EG {cols:Nat}{s:a7 × List Int}:∀ n,dj cols (cr cols s n)≠none→eu (cr cols s (n+1)).1+(n+1)≤eu s.1:=by
 have one:∀ t:a7 × List Int,dj cols t≠none→eu ((dj cols t).getD t).1+1≤eu t.1:=fun t h=>by
  cases hs:dj cols t with
  | none=>exact absurd hs h
  | some t'=>have:=oa hs;show eu t'.1+1≤_;omega
 intro n
 induction n with
 | zero=>intro h;exact one s h
 | succ n ih=>
  intro h;have b:dj cols (cr cols s n)≠none:=fun a=>by
   have:=run_stuck a (n+1) (by omega);rw[this] at h;exact h a
  have c:=ih b;have d:=one _ h;show eu ((dj cols (cr cols s (n+1))).getD (cr cols s (n+1))).1+(n+1+1)≤eu s.1;omega
theorem CL (cols:Nat)(s:a7 × List Int):dj cols (c_ cols s)=none:=by
 cases h:dj cols (c_ cols s) with
 | none=>rfl
 | some t=>
  have:=EG (cols:=cols) (s:=s) (eu s.1) (by show dj cols (c_ cols s)≠none;rw[h];simp);omega
theorem JE {cols:Nat}{s:a7 × List Int}{n:Nat}(h:dj cols (cr cols s n)=none):cr cols s n=c_ cols s:=zC h (CL cols s)
theorem mf {cols:Int}{R c:a7}(h:er cols R)(hs:∀ r' ∈ c,oS r'∧∃ r ∈ R,∀ k ∈ r',k ∈ r):er cols c:=
 ⟨fun r b=>(hs r b).1,fun r b k d=>by
  obtain ⟨q,e,a⟩:=(hs r b).2;exact h.rng q e k (a k d),h.ge,h.le⟩
theorem tq {R:a7}{j:Nat}(h:j<R.length):R.getD j []=R[j]:=by
 rw[List.getD_eq_getElem?_getD,List.getElem?_eq_getElem h];rfl
theorem p9 {R:a7}{i n:Nat}(b:n<R.length)(a:n≠i):R[n] ∈ R.eraseIdx i:=by
 rw[List.mem_eraseIdx_iff_getElem?];exact ⟨n,a,List.getElem?_eq_getElem b⟩
structure GZ (cols:Nat) (R R':a7) (T T':List Int):Prop where
 right:er cols R'
 sub:∀ r' ∈ R',∃ r ∈ R,∀ k ∈ r',k ∈ r
 what:(T'=T∧(∀ b,eX cols R' b→eX cols R b)∧∀ S,aJ R' S→aJ R S)∨
  ∃ k,T'=T++[k]∧[k] ∈ R∧(∀ r ∈ R',k ∉ r)∧(∀ b,eX cols R' b→eX cols R (if b<0 then -1 else b+1))∧∀ S,aJ R' S→aJ R (k::S)
theorem EH {cols:Nat}{R B:a7}{T C:List Int}(o:er cols R)(h:dj cols (R,T)=some (B,C)):GZ cols R B T C:=by
 unfold dj at h;simp only at h;split at h
 ·rename_i Q k D;injection h with h;injection h with q s;subst q;subst s;obtain ⟨z,m⟩:=lS D;have e:∀ r' ∈ Q,r' ∈ R∧k ∉ r':=fun r' a=>by
   rw[m] at a;have:=List.mem_filter.1 a;exact ⟨this.1,by simpa using this.2⟩
  refine ⟨mf o fun r' a=>⟨o.rise _ (e r' a).1,r',(e r' a).1,fun _ h=>h⟩,fun r' a=>⟨r',(e r' a).1,fun _ h=>h⟩,.inr ⟨k,rfl,z,fun r g=>(e r g).2,fun b t=>Cn (o.rng _ z k (.head _)) D t,fun S p r g=>?_⟩⟩;by_cases u:k ∈ r
  ·exact ⟨k,u,.head _⟩
  ·obtain ⟨x,v,l⟩:=p r (by rw[m];exact List.mem_filter.2 ⟨g,by simpa using u⟩);exact ⟨x,v,.tail _ l⟩
 ·split at h
  ·rename_i Q g;injection h with h;injection h with q s;subst q;subst s;obtain ⟨i,j,hi,E,A,e,m⟩:=lT g;have f:∀ r' ∈ Q,r' ∈ R:=fun r' a=>by rw[m] at a;exact List.mem_of_mem_eraseIdx a
   refine ⟨mf o fun r' a=>⟨o.rise _ (f r' a),r',f r' a,fun _ h=>h⟩,fun r' a=>⟨r',f r' a,fun _ h=>h⟩,.inl ⟨rfl,fun b t=>Co g t,fun S p r a=>?_⟩⟩;obtain ⟨n,F,rfl⟩:=List.getElem_of_mem a;by_cases w:n=i
   ·subst w;obtain ⟨x,v,l⟩:=p _ (by rw[m];exact p9 E A);refine ⟨x,?_,l⟩;have:=e x (by rw[tq E];exact v)
    rwa [tq hi] at this
   ·exact p _ (by rw[m];exact p9 F w)
  ·cases hc:jK cols R with
   | none=>rw[hc] at h;cases h
   | some Q=>
    rw[hc] at h;injection h with h;injection h with q s;subst q;subst s;obtain ⟨c,d,_,_,_,_,_,m⟩:=lU hc;have f:∀ r' ∈ Q,∃ r ∈ R,r'=r.filter fun k=>k !=(c:Int):=fun r' a=>by
     rw[m] at a;obtain ⟨r,g,he⟩:=List.mem_map.1 a;exact ⟨r,g,he.symm⟩
    have y:∀ r' ∈ Q,∃ r ∈ R,∀ k ∈ r',k ∈ r:=fun r' a=>by
     obtain ⟨r,g,rfl⟩:=f r' a;exact ⟨r,g,fun k z=>(List.mem_filter.1 z).1⟩
    refine ⟨mf o fun r' a=>⟨?_,y r' a⟩,y,.inl ⟨rfl,fun b t=>Cp hc t,fun S p r g=>?_⟩⟩
    ·obtain ⟨r,g,rfl⟩:=f r' a;exact (o.rise r g).sublist List.filter_sublist
    ·obtain ⟨x,v,l⟩:=p _ (by rw[m];exact List.mem_map.2 ⟨r,g,rfl⟩);exact ⟨x,(List.mem_filter.1 v).1,l⟩
structure tr (cols:Nat) (R:a7) (s:a7 × List Int):Prop where
 right:er cols s.1
 sub:∀ r' ∈ s.1,∃ r ∈ R,∀ k ∈ r',k ∈ r
 nodup:s.2.Nodup
 rng:∀ k ∈ s.2,0≤k∧k<cols
 gone:∀ k ∈ s.2,∀ r ∈ s.1,k ∉ r
 best:∀ b,eX cols s.1 b→eX cols R (if b<0 then -1 else b+s.2.length)
 solves:∀ S,aJ s.1 S→aJ R (s.2++S)
theorem tt {cols:Nat}{R:a7}{s t:a7 × List Int}(h:tr cols R s)(hs:dj cols s=some t):tr cols R t:=by
 obtain ⟨E,m⟩:=s;obtain ⟨B,F⟩:=t;have hi:=EH h.right hs;have g:∀ r' ∈ B,∃ r ∈ R,∀ k ∈ r',k ∈ r:=fun r' u=>by
  obtain ⟨q,v,f⟩:=hi.sub r' u;obtain ⟨r,w,C⟩:=h.sub q v;exact ⟨r,w,fun k n=>C k (f k n)⟩
 have c:∀ k ∈ m,∀ r ∈ B,k ∉ r:=fun k n r w y=>by
  obtain ⟨q,v,f⟩:=hi.sub r w;exact h.gone k n q v (f k y)
 rcases hi.what with ⟨rfl,o,z⟩ | ⟨k,rfl,n,A,o,z⟩
 ·exact ⟨hi.right,g,h.nodup,h.rng,c,fun b i=>h.best b (o b i),fun S j=>h.solves S (z S j)⟩
 ·have l:k ∉ m:=fun l=>h.gone k l _ n (.head _);refine ⟨hi.right,g,?_,fun x d=>?_,fun x d=>?_,fun b i=>?_,fun S j=>?_⟩
  ·exact List.nodup_append.2 ⟨h.nodup,List.nodup_cons.2 ⟨by simp,.nil⟩,fun a D b o e=>by
    obtain rfl:b=k:=by simpa using o
    subst e;exact l D⟩
  ·rcases List.mem_append.1 d with d | d
   ·exact h.rng x d
   ·obtain rfl:x=k:=by simpa using d
    exact h.right.rng _ n x (.head _)
  ·rcases List.mem_append.1 d with d | d
   ·exact c x d
   ·obtain rfl:x=k:=by simpa using d
    exact A
  ·have f:=h.best _ (o b i);by_cases p:b<0
   ·rw[if_pos p] at f ⊢
    rwa [if_pos (by decide)] at f
   ·rw[if_neg p] at f ⊢;rw[if_neg (by omega)] at f;have e:b+1+((m.length:Nat):Int)=b+(((m++[k]).length:Nat):Int):=by simp;omega
    show eX cols R (b+(((m++[k]).length:Nat):Int));rw[← e];exact f
  ·have:=h.solves _ (z S j);show aJ R ((m++[k])++S);rw[List.append_assoc];exact this
theorem sr {cols:Nat}{R:a7}(c:er cols R):∀ n,tr cols R (cr cols (R,[]) n)
 | 0=>⟨c,fun r e=>⟨r,e,fun _ h=>h⟩,.nil,by simp[cr],by simp[cr],fun b d=>by
   by_cases a:b<0
   ·rw[if_pos a];rcases d with ⟨rfl,f⟩ | ⟨S,_,_,rfl,_⟩
    ·exact .inl ⟨rfl,f⟩
    ·omega
   ·rw[if_neg a];simpa [cr] using d,fun S g=>g⟩
 | n+1=>by
  show tr cols R ((dj cols (cr cols (R,[]) n)).getD (cr cols (R,[]) n))
  cases hs:dj cols (cr cols (R,[]) n) with
  | none=>exact sr c n
  | some s'=>exact tt (sr c n) hs
theorem kb {cols:Nat}{R:a7}(a:er cols R):tr cols R (c_ cols (R,[])):=sr a _
def a8 (cols:Nat)(T:List Int):List Int:=((List.range cols).map fun n:Nat=>(n:Int)).filter fun c=>decide (c ∈ T)
theorem tu (n:Nat)(T:List Int):a8 (n+1) T=a8 n T++(if (n:Int) ∈ T then [(n:Int)] else []):=by
 unfold a8;rw[List.range_succ,List.map_append,List.filter_append]
 congr 1
 by_cases h:(n:Int) ∈ T <;> simp[h]
theorem kz {cols:Nat}{T:List Int}{c:Int}:c ∈ a8 cols T↔(0≤c∧c<cols)∧c ∈ T:=by
 unfold a8;rw[List.mem_filter,List.mem_map,decide_eq_true_eq];constructor
 ·rintro ⟨⟨n,a,rfl⟩,h⟩;exact ⟨⟨by omega,by have:=List.mem_range.1 a;omega⟩,h⟩
 ·rintro ⟨⟨b,d⟩,h⟩;exact ⟨⟨c.toNat,List.mem_range.2 (by omega),by omega⟩,h⟩
theorem zV (n:Nat):oS ((List.range n).map fun n:Nat=>(n:Int)):=by
 unfold oS;rw[List.pairwise_map];exact List.pairwise_lt_range.imp fun h=>by omega
theorem tv (cols:Nat)(T:List Int):oS (a8 cols T):=(zV cols).sublist List.filter_sublist
theorem fz (cols:Nat)(T:List Int):(a8 cols T).length≤cols:=by
 have:=List.length_filter_le (fun c=>decide (c ∈ T)) ((List.range cols).map fun n:Nat=>(n:Int));simpa [a8] using this
theorem nL (cols:Nat)(T:List Int):(a8 cols T).length≤T.length:=mE (tv cols T).nodup fun k a=>(kz.1 a).2
theorem CM {cols:Nat}{T:List Int}(b:T.Nodup)(c:∀ k ∈ T,0≤k∧k<cols):(a8 cols T).length=T.length:=
 Nat.le_antisymm (nL cols T) (mE b fun k a=>kz.2 ⟨c k a,a⟩)
theorem mM {cols:Nat}{R:a7}{T:List Int}(d:er cols R)(h:aJ R T):aJ R (a8 cols T):=fun r b=>by
 obtain ⟨k,c,a⟩:=h r b;exact ⟨k,c,kz.2 ⟨d.rng r b k c,a⟩⟩
theorem vh (cols:Nat)(T:List Int):dC cols (a8 cols T):=⟨(tv cols T).nodup,fun _ a=>(kz.1 a).1⟩
theorem zW (R:a7)(c:Int):oS (bu R c):=by
 unfold bu oS;rw[List.pairwise_map];exact (List.pairwise_lt_range.sublist List.filter_sublist).imp fun h=>by omega
def o9 (R:a7)(c d:Int):Bool:=(d !=c)&&iG (bu R c) (bu R d)&& !(decide ((bu R d).length=(bu R c).length)&&decide (c<d))
theorem yt (R:a7)(c d:Int):o9 R c d=xN R c d:=by
 unfold o9 xN
 cases h1:(d !=c) with
 | false=>rfl
 | true=>
  cases h2:iG (bu R c) (bu R d) with
  | false=>rfl
  | true=>
   have a:d≠c:=by simpa using h1
   have hle:=mE (zW R c).nodup (jJ.1 h2);simp only[Bool.true_and];rw[Bool.eq_iff_iff];simp only[Bool.not_eq_true',Bool.and_eq_false_imp,decide_eq_true_eq,decide_eq_false_iff_not,Bool.or_eq_true];constructor
   ·intro h;by_cases he:(bu R d).length=(bu R c).length
    ·have:=h he
     right;omega
    ·left;omega
   ·rintro (h | h) he <;> omega
theorem EI {cols:Nat}{R:a7}(f:er cols R){c:Int}{i0:Nat}{l:List Int}(hw:bu R c=(i0:Int)::l) :
  ((R.getD i0 []).any fun d=>o9 R c d)=(List.range cols).any fun d=>xN R c d:=by
 obtain ⟨n,e,g,_⟩:=kp.1 (show (i0:Int) ∈ bu R c by rw[hw];exact .head _);obtain rfl:n=i0:=by omega
 rw[Bool.eq_iff_iff,List.any_eq_true,List.any_eq_true];constructor
 ·rintro ⟨d,a,h⟩;rw[tq e] at a;have j:=f.rng _ (List.getElem_mem e) d a;refine ⟨d.toNat,List.mem_range.2 (by omega),?_⟩;rw[yt] at h
  rwa [show ((d.toNat:Nat):Int)=d by omega]
 ·rintro ⟨d,a,h⟩;refine ⟨d,?_,by rw[yt];exact h⟩;have b:=h;unfold xN at b;simp only[Bool.and_eq_true] at b;have:=jJ.1 b.1.2 (n:Int) (by rw[hw];exact .head _);obtain ⟨m,_,i,hm⟩:=kp.1 this;obtain rfl:m=n:=by omega
  exact hm
def dI (n cols:Nat):List Int:=(aN n cols).map fun k:Nat=>(k:Int)
theorem tw {n cols:Nat}{c:Int}:c ∈ dI n cols↔∃ k:Nat,c=k∧k<cols∧n.testBit k=true:=by
 unfold dI;rw[List.mem_map];constructor
 ·rintro ⟨k,a,rfl⟩;exact ⟨k,rfl,ck.1 a⟩
 ·rintro ⟨k,rfl,a⟩;exact ⟨k,ck.2 a,rfl⟩
theorem tz (n cols:Nat):dC cols (dI n cols):=by
 refine ⟨?_,fun k a=>?_⟩
 ·have:oS (dI n cols):=by
   unfold dI aN oS;rw[List.pairwise_map];exact (List.pairwise_lt_range.sublist List.filter_sublist).imp fun h=>by omega
  exact this.nodup
 ·obtain ⟨m,rfl,hm,_⟩:=tw.1 a;omega
def mN (cols:Nat)(R:a7)(n:Nat)(b:Int):Prop:=
 (b= -1∧∀ ch,ch<n→¬ aJ R (dI ch cols))∨∃ ch,ch<n∧aJ R (dI ch cols)∧b=((dI ch cols).length:Int)∧∀ a,a<n→aJ R (dI a cols)→(dI ch cols).length≤(dI a cols).length
theorem wC (cols:Nat)(R:a7):mN cols R 0 (-1):=.inl ⟨rfl,fun ch h=>by omega⟩
theorem yu {cols:Nat}{R:a7}{n:Nat}{b:Int}(h:mN cols R n b)(d:b<0∨((dI n cols).length:Int)<b)(hs:aJ R (dI n cols)):mN cols R (n+1) ((dI n cols).length:Int):=by
 refine .inr ⟨n,by omega,hs,rfl,fun a e c=>?_⟩;by_cases he:a=n
 ·subst he;exact Nat.le_refl _
 ·rcases h with ⟨rfl,f⟩ | ⟨ch,_,_,rfl,hm⟩
  ·exact absurd c (f a (by omega))
  ·have:=hm a (by omega) c;rcases d with d | d <;> omega
theorem tA {cols:Nat}{R:a7}{n:Nat}{b:Int}(h:mN cols R n b)(a:(0≤b∧b≤((dI n cols).length:Int))∨¬ aJ R (dI n cols)):mN cols R (n+1) b:=by
 rcases h with ⟨rfl,e⟩ | ⟨ch,f,hs,rfl,hm⟩
 ·refine .inl ⟨rfl,fun ch f=>?_⟩;by_cases he:ch=n
  ·subst he;rcases a with a | a
   ·omega
   ·exact a
  ·exact e ch (by omega)
 ·refine .inr ⟨ch,by omega,hs,rfl,fun c g d=>?_⟩;by_cases he:c=n
  ·subst he;rcases a with a | a
   ·omega
   ·exact absurd d a
  ·exact hm c (by omega) d
theorem vi {cols:Nat}{S:List Int}(h:dC cols S):∃ ch,ch<2^cols∧(∀ k,k ∈ dI ch cols↔k ∈ S)∧(dI ch cols).length=S.length:=by
 have hm:∀ k,k ∈ dI (mkSet (fun c=>decide ((c:Int) ∈ S)) cols) cols↔k ∈ S:=fun k=>by
  rw[tw];constructor
  ·rintro ⟨n,rfl,d,b⟩;rw[bW] at b;simp only[Bool.and_eq_true,decide_eq_true_eq] at b;exact b.2
  ·intro a;have e:=h.rng k a;refine ⟨k.toNat,by omega,by omega,?_⟩;rw[bW];simp only[Bool.and_eq_true,decide_eq_true_eq];exact ⟨by omega,by rw[show ((k.toNat:Nat):Int)=k by omega];exact a⟩
 exact ⟨_,fa _ _,hm,Nat.le_antisymm (mE (tz _ _).nodup fun k a=>(hm k).1 a) (mE h.nodup fun k a=>(hm k).2 a)⟩
theorem rW {R:a7}{S T:List Int}(h:∀ k,k ∈ S↔k ∈ T)(b:aJ R S):aJ R T:=fun r c=>by
 obtain ⟨k,d,a⟩:=b r c;exact ⟨k,d,(h k).1 a⟩
theorem yv {cols:Nat}{R:a7}{b:Int}(h:mN cols R (2^cols) b):eX cols R b:=by
 rcases h with ⟨rfl,i⟩ | ⟨ch,g,hs,rfl,hm⟩
 ·refine .inl ⟨rfl,fun S a hs=>?_⟩;obtain ⟨ch,g,c,_⟩:=vi a;exact i ch g (rW (fun k=>(c k).symm) hs)
 ·refine .inr ⟨_,tz ch cols,hs,rfl,fun S a d=>?_⟩;obtain ⟨e,f,c,j⟩:=vi a;have:=hm e f (rW (fun k=>(c k).symm) d);omega
def g_ (R:a7):Bool:=R.any fun r=>r.isEmpty
theorem kA {R:a7}:g_ R=true↔[] ∈ R:=by
 unfold g_;rw[List.any_eq_true];constructor
 ·rintro ⟨r,a,h⟩;obtain rfl:r=[]:=by simpa using h
  exact a
 ·intro h;exact ⟨[],h,rfl⟩
theorem CN {R:a7}(h:[] ∈ R)(S:List Int):¬ aJ R S:=fun hs=>by
 obtain ⟨k,a,_⟩:=hs _ h
 cases a
theorem CO {cols:Nat}{s f:a7 × List Int}(h:[] ∉ s.1)(hs:dj cols s=some f):[] ∉ f.1:=by
 unfold dj at hs;split at hs
 ·rename_i R k g;injection hs with hs;subst hs;obtain ⟨_,a⟩:=lS g;intro hm;rw[a] at hm;exact h (List.mem_filter.1 hm).1
 ·split at hs
  ·rename_i R e;injection hs with hs;subst hs;obtain ⟨i,j,_,_,_,_,a⟩:=lT e;intro hm;rw[a] at hm;exact h (List.mem_of_mem_eraseIdx hm)
  ·cases hc:jK cols s.1 with
   | none=>rw[hc] at hs;cases hs
   | some R=>
    rw[hc] at hs;injection hs with hs;subst hs;obtain ⟨c,d,_,_,l,_,b,a⟩:=lU hc;intro hm;rw[a] at hm;obtain ⟨r,e,he⟩:=List.mem_map.1 hm;rw[List.filter_eq_nil_iff] at he
    cases r with
    | nil=>exact h e
    | cons k r=>
     have m:=he k (.head _);obtain rfl:k=(c:Int):=by simpa using m
     have n:=he _ (b _ e (.head _));have:(d:Int)=c:=by simpa using n
     omega
theorem p_ {cols:Nat}{s:a7 × List Int}(h:[] ∉ s.1):∀ n,[] ∉ (cr cols s n).1
 | 0=>h
 | n+1=>by
  show [] ∉ ((dj cols (cr cols s n)).getD (cr cols s n)).1
  cases hs:dj cols (cr cols s n) with
  | none=>exact p_ h n
  | some s'=>exact CO (p_ h n) hs
theorem EJ {cols:Nat}{s b:a7 × List Int}(hs:dj cols s=some b):b.1.length≤s.1.length:=by
 unfold dj at hs;split at hs
 ·rename_i R k e;injection hs with hs;subst hs;obtain ⟨_,a⟩:=lS e;show R.length≤_;rw[a];exact List.length_filter_le _ _
 ·split at hs
  ·rename_i R f;injection hs with hs;subst hs;obtain ⟨i,j,_,_,_,_,a⟩:=lT f;show R.length≤_;rw[a];exact List.length_eraseIdx_le _ _
  ·cases hc:jK cols s.1 with
   | none=>rw[hc] at hs;cases hs
   | some R=>
    rw[hc] at hs;injection hs with hs;subst hs;obtain ⟨c,d,_,_,_,_,_,a⟩:=lU hc;show R.length≤_;rw[a];unfold bn;rw[List.length_map];exact Nat.le_refl _
theorem oD {cols:Nat}{s:a7 × List Int}:∀ n,(cr cols s n).1.length≤s.1.length
 | 0=>Nat.le_refl _
 | n+1=>by
  show ((dj cols (cr cols s n)).getD (cr cols s n)).1.length≤_
  cases hs:dj cols (cr cols s n) with
  | none=>exact oD n
  | some s'=>exact Nat.le_trans (EJ hs) (oD n)
theorem oE {cols:Nat}{R:a7}(h:er cols R){r:List Int}(c:r ∈ R):r.length≤cols:=by
 have:=mE (a:=r) (b:=(List.range cols).map fun n:Nat=>(n:Int)) (h.rise r c).nodup fun k d=>by
  have:=h.rng r c k d;exact List.mem_map.2 ⟨k.toNat,List.mem_range.2 (by omega),by omega⟩
 simpa using this
def eG:a7→List Int→Nat
 | [],_=>0
 | r::R,used=>if r.any fun k=>decide (k ∈ used) then eG R used else eG R (used++r)+1
theorem qa:∀ (R:a7) (used:List Int),eG R used≤R.length
 | [],_=>Nat.le_refl _
 | r::R,used=>by
  unfold eG;split
  ·have:=qa R used;simp only[List.length_cons];omega
  ·have:=qa R (used++r);simp only[List.length_cons];omega
theorem EK {α:Type}{l:List α}{p q:α→Bool}(h:∀ x ∈ l,p x=true→q x=true){x:α}(a:x ∈ l)(c:q x=true)(d:p x=false):l.countP p<l.countP q:=by
 induction l with
 | nil=>cases a
 | cons y l ih=>
  have b:l.countP p≤l.countP q:=List.countP_mono_left fun x a=>h x (.tail _ a);rw[List.countP_cons,List.countP_cons];rcases List.mem_cons.1 a with rfl | a
  ·rw[c,d];simp only[Bool.false_eq_true,if_false,if_true];omega
  ·have:=ih (fun x a=>h x (.tail _ a)) a;have e:=h y (.head _)
   cases hp:p y with
   | true=>rw[e hp];simp only[if_true];omega
   | false=>simp only[Bool.false_eq_true,if_false];split <;> omega
theorem q8:∀ (R:a7) (used S:List Int),aJ R S→eG R used≤S.countP fun k=> !decide (k ∈ used)
 | [],_,_,_=>Nat.zero_le _
 | r::R,used,S,hs=>by
  have c:aJ R S:=fun q g=>hs q (.tail _ g);unfold eG;split
  ·exact q8 R used S c
  ·rename_i a;obtain ⟨k,e,d⟩:=hs r (.head _);have b:k ∉ used:=fun b=>a (List.any_eq_true.2 ⟨k,e,decide_eq_true b⟩);have h:=q8 R (used++r) S c;have i:=EK (l:=S) (p:=fun k=> !decide (k ∈ used++r)) (q:=fun k=> !decide (k ∈ used)) (fun x _ f=>by
    simp only[Bool.not_eq_true',decide_eq_false_iff_not] at f ⊢;exact fun hu=>f (List.mem_append_left _ hu)) d (by simpa using b) (by simp[e])
   omega
theorem yw {R:a7}{S:List Int}(hs:aJ R S):eG R []≤S.length:=
 Nat.le_trans (q8 R [] S hs) List.countP_le_length
def aI (R:a7)(c:Int):a7:=R.filter fun r=> !decide (c ∈ r)
theorem nM {R:a7}{c:Int}{S:List Int}(h:aJ (aI R c) S):aJ R (c::S):=fun r d=>by
 by_cases b:c ∈ r
 ·exact ⟨c,b,.head _⟩
 ·obtain ⟨k,e,a⟩:=h r (List.mem_filter.2 ⟨d,by simpa using b⟩);exact ⟨k,e,.tail _ a⟩
theorem yx {R:a7}{c:Int}{S:List Int}(h:aJ (bn R c) S):aJ R S:=fun r b=>by
 obtain ⟨k,d,a⟩:=h _ (List.mem_map.2 ⟨r,b,rfl⟩);exact ⟨k,(List.mem_filter.1 d).1,a⟩
theorem branch {R:a7}{c:Int}{S:List Int}(h:aJ R S):(c ∈ S∧aJ (aI R c) (S.erase c))∨aJ (bn R c) S:=by
 by_cases i:c ∈ S
 ·refine .inl ⟨i,fun r b=>?_⟩;obtain ⟨b,g⟩:=List.mem_filter.1 b;obtain ⟨k,f,a⟩:=h r b;have d:c ∉ r:=by simpa using g
  exact ⟨k,f,(List.mem_erase_of_ne (fun (e:k=c)=>d (by rw[← e];exact f))).2 a⟩
 ·refine .inr fun r b=>?_;obtain ⟨q,j,rfl⟩:=List.mem_map.1 b;obtain ⟨k,f,a⟩:=h q j;exact ⟨k,List.mem_filter.2 ⟨f,by simpa using fun e:k=c=>i (by rw[← e];exact a)⟩,a⟩
theorem o_ {cols:Int}{R:a7}(h:er cols R)(c:Int):er cols (aI R c):=
 mf h fun r a=>⟨h.rise r (List.mem_filter.1 a).1,r,(List.mem_filter.1 a).1,fun _ h=>h⟩
theorem zX {cols:Int}{R:a7}(h:er cols R)(c:Int):er cols (bn R c):=
 mf h fun r b=>by
  obtain ⟨q,a,rfl⟩:=List.mem_map.1 b;exact ⟨(h.rise q a).sublist List.filter_sublist,q,a,fun k d=>(List.mem_filter.1 d).1⟩
def kinds (cols:Nat)(R:a7):Nat:=(List.range cols).countP fun c:Nat=>R.any fun r=>decide ((c:Int) ∈ r)
theorem EL (cols:Nat)(R:a7):kinds cols R≤cols:=by
 have:=List.countP_le_length (p:=fun c:Nat=>R.any fun r=>decide ((c:Int) ∈ r)) (l:=List.range cols);simpa [kinds] using this
theorem kB {R:a7}{c:Int}:(R.any fun r=>decide (c ∈ r))=true↔∃ r ∈ R,c ∈ r:=by
 simp only[List.any_eq_true,decide_eq_true_eq]
theorem CP {cols:Nat}{R b:a7}(h:∀ r' ∈ b,∃ r ∈ R,∀ k ∈ r',k ∈ r):kinds cols b≤kinds cols R:=
 List.countP_mono_left fun c _ d=>by
  obtain ⟨r',a,e⟩:=kB.1 d;obtain ⟨r,f,hs⟩:=h r' a;exact kB.2 ⟨r,f,hs _ e⟩
theorem yy {cols:Nat}{R b:a7}(h:∀ r' ∈ b,∃ r ∈ R,∀ k ∈ r',k ∈ r){c:Int}(l:0≤c)(m:c<cols)(f:∃ r ∈ R,c ∈ r)(g:∀ r ∈ b,c ∉ r):kinds cols b<kinds cols R:=
 EK (fun x _ i=>by
  obtain ⟨r',d,a⟩:=kB.1 i;obtain ⟨r,e,hs⟩:=h r' d;exact kB.2 ⟨r,e,hs _ a⟩) (x:=c.toNat) (List.mem_range.2 (by omega)) (kB.2 (by rw[show ((c.toNat:Nat):Int)=c by omega];exact f)) (by
   rw[Bool.eq_false_iff];intro j;obtain ⟨r,e,a⟩:=kB.1 j;rw[show ((c.toNat:Nat):Int)=c by omega] at a;exact g r e a)
theorem yz (R:a7)(c:Int):∀ r' ∈ aI R c,∃ r ∈ R,∀ k ∈ r',k ∈ r:=fun r' a=>⟨r',(List.mem_filter.1 a).1,fun _ h=>h⟩
theorem EM (R:a7)(c:Int):∀ r' ∈ bn R c,∃ r ∈ R,∀ k ∈ r',k ∈ r:=fun r' a=>by
 obtain ⟨q,b,rfl⟩:=List.mem_map.1 a;exact ⟨q,b,fun k d=>(List.mem_filter.1 d).1⟩
theorem wD (R:a7)(c:Int):∀ r ∈ aI R c,c ∉ r:=fun r a=>by simpa using (List.mem_filter.1 a).2
theorem CQ (R:a7)(c:Int):∀ r ∈ bn R c,c ∉ r:=fun r a h=>by
 obtain ⟨q,b,rfl⟩:=List.mem_map.1 a;simpa using (List.mem_filter.1 h).2
theorem G0 (cols:Nat)(R:a7):∃ b,eX cols R b:=by
 have:∀ n,∃ b,mN cols R n b:=fun n=>by
  induction n with
  | zero=>exact ⟨-1,wC cols R⟩
  | succ n ih=>
   obtain ⟨b,a⟩:=ih;by_cases hs:aJ R (dI n cols)
   ·by_cases c:b<0∨((dI n cols).length:Int)<b
    ·exact ⟨_,yu a c hs⟩
    ·exact ⟨b,tA a (.inl (by omega))⟩
   ·exact ⟨b,tA a (.inr hs)⟩
 obtain ⟨b,a⟩:=this (2^cols);exact ⟨b,yv a⟩
theorem qb {cols:Nat}{R:a7}(h:er cols R){S:List Int}(f:dC cols S)(hs:aJ R S) :
  ∃ c,dC cols c∧aJ (c_ cols (R,[])).1 c∧(c_ cols (R,[])).2.length+c.length≤S.length:=by
 have hi:=kb h;obtain ⟨b,g⟩:=G0 cols (c_ cols (R,[])).1;have a:=hi.best b g;rcases g with ⟨rfl,j⟩ | ⟨c,d,e,rfl,_⟩
 ·rw[if_pos (by decide)] at a;rcases a with ⟨_,a⟩ | ⟨T,_,_,a,_⟩
  ·exact absurd hs (a S f)
  ·omega
 ·rw[if_neg (by omega)] at a;rcases a with ⟨a,_⟩ | ⟨T,_,_,a,i⟩
  ·omega
  ·have:=i S f hs;exact ⟨c,d,e,by omega⟩
abbrev uH:=List (a7 × List Int)
def vj (cols:Nat)(st:uH):Nat:=(st.map fun x=>2^kinds cols x.1 - 1).sum
def qc (cols:Nat)(st:uH):Nat:=(st.map fun x=>2^(kinds cols x.1+1) - 1).sum
theorem oF (cols:Nat)(st:uH)(x:a7 × List Int):vj cols (st++[x])=vj cols st+(2^kinds cols x.1 - 1):=by simp[vj]
theorem oG (cols:Nat)(st:uH)(x:a7 × List Int):qc cols (st++[x])=qc cols st+(2^(kinds cols x.1+1) - 1):=by simp[qc]
theorem qd (cols:Nat)(st:uH)(x:a7 × List Int):qc cols st<qc cols (st++[x]):=by
 rw[oG];have:2≤2^(kinds cols x.1+1):=by rw[Nat.pow_succ];have:=Nat.one_le_two_pow (n:=kinds cols x.1);omega
 omega
structure fQ (cols:Nat) (R0:a7) (best:List Int) (n:Nat) (st:uH):Prop where
 right:∀ x ∈ st,er cols x.1
 rows:∀ x ∈ st,x.1.length≤R0.length
 ok:∀ x ∈ st,∀ S,aJ x.1 S→aJ R0 (x.2++S)
 solved:aJ R0 best
 low:∀ S,dC cols S→aJ R0 S→best.length≤S.length∨∃ x ∈ st,∃ S',dC cols S'∧aJ x.1 S'∧x.2.length+S'.length≤S.length
 steps:n+vj cols st≤2^cols - 1
 len:∀ x ∈ st,x.2.length+(cols+1)*kinds cols x.1≤(cols+1)*cols
 high:∀ i x,st[i]?=some x→i+kinds cols x.1≤cols
theorem CR {cols:Nat}{b:a7}(e:er cols b){g:List Int}(f:aJ b g):fQ cols b g 0 [(b,[])]:=by
 have c:=EL cols b;refine ⟨?_,?_,?_,f,fun S d hs=>.inr ⟨_,.head _,S,d,hs,by simp⟩,?_,?_,?_⟩
 ·intro x a;obtain rfl:=List.mem_singleton.1 a;exact e
 ·intro x a;obtain rfl:=List.mem_singleton.1 a;exact Nat.le_refl _
 ·intro x a S d;obtain rfl:=List.mem_singleton.1 a;exact d
 ·have h:=Nat.pow_le_pow_right (show 0<2 by decide) c;simp only[vj,List.map_cons,List.map_nil,List.sum_cons,List.sum_nil];omega
 ·intro x a;obtain rfl:=List.mem_singleton.1 a;have:=Nat.mul_le_mul_left (cols+1) c;simpa using this
 ·intro i x a;obtain ⟨hi,rfl⟩:=List.getElem?_eq_some_iff.1 a;have:i=0:=by simpa using hi
  subst this;simpa using c
theorem su {cols:Nat}{d:a7}{best:List Int}{n:Nat}{st:uH}{x:a7 × List Int}(h:fQ cols d best n (st++[x])){a:List Int}(f:aJ d a)(c:∀ S,dC cols S→aJ d S→a.length≤S.length∨∃ x ∈ st,∃ e,dC cols e∧aJ x.1 e∧x.2.length+e.length≤S.length):fQ cols d a n st:=by
 refine ⟨fun y b=>h.right y (by simp[b]),fun y b=>h.rows y (by simp[b]),fun y b=>h.ok y (by simp[b]),f,c,?_,fun y b=>h.len y (by simp[b]),fun i y b=>h.high i y ?_⟩
 ·have:=h.steps;rw[oF] at this;omega
 ·rw[List.getElem?_append_left (List.getElem?_eq_some_iff.1 b).1];exact b
theorem sw {cols:Nat}{f:a7}{best:List Int}{n:Nat}{st:uH}{x:a7 × List Int}(h:fQ cols f best n (st++[x])){a:List Int}(hle:a.length≤best.length)(j:∀ S b,dC cols S→dC cols b→aJ x.1 b→x.2.length+b.length≤S.length→a.length≤S.length) :
  ∀ S,dC cols S→aJ f S→a.length≤S.length∨∃ x ∈ st,∃ b,dC cols b∧aJ x.1 b∧x.2.length+b.length≤S.length:=fun S g hs=>by
 rcases h.low S g hs with k | ⟨y,c,b,d,e,i⟩
 ·left;omega
 ·rcases List.mem_append.1 c with c | c
  ·exact .inr ⟨y,c,b,d,e,i⟩
  ·obtain rfl:y=x:=by simpa using c
   exact .inl (j S b g d e i)
theorem EN {cols:Nat}{a:a7}{best:List Int}{n:Nat}{st:uH}{x:a7 × List Int}(h:fQ cols a best n (st++[x]))(b:[] ∈ x.1):fQ cols a best n st:=
 su h h.solved (sw h (Nat.le_refl _) fun _ c _ _ hs _=>absurd hs (CN b c))
theorem vk {cols:Nat}{c:a7}{best:List Int}{n:Nat}{st:uH}{x:a7 × List Int}(h:fQ cols c best n (st++[x])) :
  ∀ S,aJ (c_ cols (x.1,[])).1 S→aJ c ((x.2++a8 cols (c_ cols (x.1,[])).2)++S):=fun S g=>by
 have d:=h.right x (by simp);have hi:=kb d;have i:=hi.solves S g;have j:aJ x.1 (a8 cols (c_ cols (x.1,[])).2++S):=fun r e=>by
  obtain ⟨k,f,b⟩:=i r e;refine ⟨k,f,?_⟩;rcases List.mem_append.1 b with a | a
  ·exact List.mem_append_left _ (kz.2 ⟨d.rng r e k f,a⟩)
  ·exact List.mem_append_right _ a
 rw[List.append_assoc];exact h.ok x (by simp) _ j
theorem tB {cols:Nat}{a:a7}{best:List Int}{n:Nat}{st:uH}{x:a7 × List Int}(h:fQ cols a best n (st++[x])) :
  (a8 cols (c_ cols (x.1,[])).2).length=(c_ cols (x.1,[])).2.length:=
 CM (kb (h.right x (by simp))).nodup (kb (h.right x (by simp))).rng
theorem EO {cols:Nat}{f:a7}{best:List Int}{n:Nat}{st:uH}{x:a7 × List Int}(h:fQ cols f best n (st++[x]))(he:(c_ cols (x.1,[])).1=[]) :
  fQ cols f (if (x.2++a8 cols (c_ cols (x.1,[])).2).length<best.length then x.2++a8 cols (c_ cols (x.1,[])).2 else best) n st:=by
 have hs:aJ f (x.2++a8 cols (c_ cols (x.1,[])).2):=by
  have:=vk h [] (by rw[he];intro r k;cases k)
  rwa [List.append_nil] at this
 have j:∀ S e,dC cols S→dC cols e→aJ x.1 e→x.2.length+e.length≤S.length→(x.2++a8 cols (c_ cols (x.1,[])).2).length≤S.length:=fun S e _ g i hle=>by
  obtain ⟨T,_,_,o⟩:=qb (h.right x (by simp)) g i;rw[List.length_append,tB h];omega
 split
 ·rename_i l;exact su h hs (sw h (by omega) j)
 ·rename_i m;exact su h h.solved (sw h (Nat.le_refl _) fun S e a b c d=>by have:=j S e a b c d;omega)
theorem G1 {cols:Nat}{d:a7}{best:List Int}{n:Nat}{st:uH}{x:a7 × List Int}(h:fQ cols d best n (st++[x]))(e:best.length≤(x.2++a8 cols (c_ cols (x.1,[])).2).length+eG (c_ cols (x.1,[])).1 []):fQ cols d best n st:=
 su h h.solved (sw h (Nat.le_refl _) fun S f _ a b hle=>by
  obtain ⟨T,_,c,g⟩:=qb (h.right x (by simp)) a b;have:=yw c;rw[List.length_append,tB h] at e;omega)
theorem pa {a b k:Nat}(c:a<k)(d:b<k):(2^a - 1)+(2^b - 1)+1≤2^k - 1:=by
 have e:=Nat.pow_le_pow_right (show 0<2 by decide) (show a≤k - 1 by omega);have f:=Nat.pow_le_pow_right (show 0<2 by decide) (show b≤k - 1 by omega);have g:2^k=2*2^(k - 1):=by rw[← Nat.pow_succ'];congr 1;omega
 have:=Nat.one_le_two_pow (n:=a);have:=Nat.one_le_two_pow (n:=b);omega
theorem CS {cols:Nat}{e:a7}{best:List Int}{n:Nat}{st:uH}{x:a7 × List Int}(h:fQ cols e best n (st++[x])){c:Int}(f:∃ r ∈ (c_ cols (x.1,[])).1,c ∈ r) :
  (0≤c∧c<cols)∧kinds cols (bn (c_ cols (x.1,[])).1 c)<kinds cols x.1∧kinds cols (aI (c_ cols (x.1,[])).1 c)<kinds cols x.1:=by
 have hi:=kb (h.right x (by simp));obtain ⟨r,d,b⟩:=f;have a:=hi.right.rng r d c b;have g:=CP (cols:=cols) hi.sub;have i:=yy (cols:=cols) (EM (c_ cols (x.1,[])).1 c) a.1 a.2 ⟨r,d,b⟩ (CQ _ c);have j:=yy (cols:=cols) (yz (c_ cols (x.1,[])).1 c) a.1 a.2 ⟨r,d,b⟩ (wD _ c);exact ⟨a,by omega,by omega⟩
theorem zY {cols:Nat}{q:a7}{best:List Int}{n:Nat}{st:uH}{x:a7 × List Int}(h:fQ cols q best n (st++[x])){c:Int}(F:∃ r ∈ (c_ cols (x.1,[])).1,c ∈ r) :
  fQ cols q best (n+1) (st++[(bn (c_ cols (x.1,[])).1 c,x.2++a8 cols (c_ cols (x.1,[])).2),(aI (c_ cols (x.1,[])).1 c,(x.2++a8 cols (c_ cols (x.1,[])).2)++[c])])∧
   n+1≤2^cols - 1∧
   qc cols (st++[(bn (c_ cols (x.1,[])).1 c,x.2++a8 cols (c_ cols (x.1,[])).2),(aI (c_ cols (x.1,[])).1 c,(x.2++a8 cols (c_ cols (x.1,[])).2)++[c])])<qc cols (st++[x]):=by
 have z:=h.right x (by simp);have hi:=kb z;have A:=vk h;have d:=tB h;have G:=fz cols (c_ cols (x.1,[])).2;have hlen:(c_ cols (x.1,[])).1.length≤x.1.length:=oD (s:=(x.1,[])) _;obtain ⟨B,e,f⟩:=CS h F;have I:=pa e f;have t:=h.steps;have J:=h.len x (by simp);have K:=h.rows x (by simp);rw[oF] at t;have hmul:∀ k,k<kinds cols x.1→(cols+1)*k+(cols+1)≤(cols+1)*kinds cols x.1:=fun k V=>by
  have:=Nat.mul_le_mul_left (cols+1) (show k+1≤kinds cols x.1 by omega);rw[Nat.mul_add,Nat.mul_one] at this;exact this
 have b:=hi.right;generalize M:(c_ cols (x.1,[])).1=E at *;generalize X:a8 cols (c_ cols (x.1,[])).2=T at *;refine ⟨⟨?_,?_,?_,h.solved,?_,?_,?_,?_⟩,?_,?_⟩
 ·intro y a;rcases List.mem_append.1 a with a | a
  ·exact h.right y (by simp[a])
  ·simp only[List.mem_cons,List.not_mem_nil,or_false] at a;rcases a with rfl | rfl
   ·exact zX b c
   ·exact o_ b c
 ·intro y a;rcases List.mem_append.1 a with a | a
  ·exact h.rows y (by simp[a])
  ·simp only[List.mem_cons,List.not_mem_nil,or_false] at a;rcases a with rfl | rfl
   ·show (bn E c).length≤_;unfold bn;rw[List.length_map];omega
   ·show (aI E c).length≤_;have:=List.length_filter_le (fun r=> !decide (c ∈ r)) E;unfold aI;omega
 ·intro y a S g;rcases List.mem_append.1 a with a | a
  ·exact h.ok y (by simp[a]) S g
  ·simp only[List.mem_cons,List.not_mem_nil,or_false] at a;rcases a with rfl | rfl
   ·exact A S (yx g)
   ·have:=A (c::S) (nM g);show aJ q (((x.2++T)++[c])++S);rw[List.append_assoc];exact this
 ·intro S g hs;rcases h.low S g hs with C | ⟨y,a,N,j,l,O⟩
  ·exact .inl C
  ·right
   rcases List.mem_append.1 a with a | a
   ·exact ⟨y,by simp[a],N,j,l,O⟩
   ·obtain rfl:y=x:=by simpa using a
    obtain ⟨U,D,m,Q⟩:=qb z j l;rw[M] at m;rcases branch (c:=c) m with ⟨o,u⟩ | u
    ·refine ⟨(aI E c,(y.2++T)++[c]),by simp,U.erase c,j8 D c,u,?_⟩;have C:=List.length_erase_of_mem o;have Y:=List.length_pos_of_mem o;show ((y.2++T)++[c]).length+_≤_;rw[List.length_append,List.length_append,d];simp only[List.length_cons,List.length_nil];omega
    ·refine ⟨(bn E c,y.2++T),by simp,U,D,u,?_⟩;show (y.2++T).length+_≤_;rw[List.length_append,d];omega
 ·have:st++[(bn E c,x.2++T),(aI E c,(x.2++T)++[c])]=(st++[(bn E c,x.2++T)])++[(aI E c,(x.2++T)++[c])]:=by simp
  rw[this,oF,oF];show n+1+(vj cols st+(2^kinds cols (bn E c) - 1)+(2^kinds cols (aI E c) - 1))≤_;omega
 ·intro y a;rcases List.mem_append.1 a with a | a
  ·exact h.len y (by simp[a])
  ·simp only[List.mem_cons,List.not_mem_nil,or_false] at a;rcases a with rfl | rfl
   ·show (x.2++T).length+(cols+1)*kinds cols (bn E c)≤_;have:=hmul _ e;rw[List.length_append];omega
   ·show ((x.2++T)++[c]).length+(cols+1)*kinds cols (aI E c)≤_;have:=hmul _ f;rw[List.length_append,List.length_append];simp only[List.length_cons,List.length_nil];omega
 ·intro i y a;have Z:=h.high st.length x (by simp);by_cases p:i<st.length
  ·rw[List.getElem?_append_left p] at a;refine h.high i y ?_;rw[List.getElem?_append_left p];exact a
  ·rw[List.getElem?_append_right (by omega)] at a;obtain ⟨v,a⟩:=List.getElem?_eq_some_iff.1 a;simp only[List.length_cons,List.length_nil] at v;have:i - st.length=0∨i - st.length=1:=by omega
   rcases this with w | w
   ·simp only[w,List.getElem_cons_zero] at a;subst a;show i+kinds cols (bn E c)≤cols;omega
   ·simp only[w,List.getElem_cons_succ,List.getElem_cons_zero] at a;subst a;show i+kinds cols (aI E c)≤cols;omega
 ·omega
 ·have:st++[(bn E c,x.2++T),(aI E c,(x.2++T)++[c])]=(st++[(bn E c,x.2++T)])++[(aI E c,(x.2++T)++[c])]:=by simp
  rw[this,oG,oG,oG];show qc cols st+(2^(kinds cols (bn E c)+1) - 1)+(2^(kinds cols (aI E c)+1) - 1)<_;have:=pa (show kinds cols (bn E c)+1<kinds cols x.1+1 by omega) (show kinds cols (aI E c)+1<kinds cols x.1+1 by omega);omega
theorem G2 {cols:Nat}{a:a7}(c:er cols a){best:List Int}{n:Nat}(h:fQ cols a best n []) :
  eX cols a ((a8 cols best).length:Int)∧aJ a (a8 cols best):=by
 have hs:=mM c h.solved;refine ⟨.inr ⟨_,vh cols best,hs,rfl,fun S d b=>?_⟩,hs⟩;rcases h.low S d b with e | ⟨x,f,_⟩
 ·exact Nat.le_trans (nL cols best) e
 ·cases f
def d_ (R:a7)(c:Int):Nat:=R.countP fun r=>decide (c ∈ r)
def pt (R:a7)(c:Int):Prop:=0<d_ R c∧∀ d,d_ R d<d_ R c∨(d_ R d=d_ R c∧c≤d)
theorem wE {R:a7}{c:Int}:0<d_ R c↔∃ r ∈ R,c ∈ r:=by
 unfold d_;rw[List.countP_pos_iff];simp only[decide_eq_true_eq]
theorem BI {R:a7}{c:Int}(h:pt R c):∃ r ∈ R,c ∈ r:=wE.1 h.1
inductive mO:a7→List Int→Prop
 | nil:mO [] []
 | cons {R:a7} {c:Int} {l:List Int}:pt R c→mO (aI R c) l→mO R (c::l)
theorem uN {R:a7}{l:List Int}(h:mO R l):aJ R l:=by
 induction h with
 | nil=>intro r a;cases a
 | cons _ _ ih=>exact nM ih
theorem zZ {R:a7}{c:Int}(h:∃ r ∈ R,c ∈ r):(aI R c).length<R.length:=by
 obtain ⟨r,a,b⟩:=h;unfold aI;rw[List.length_filter_lt_length_iff_exists];exact ⟨r,a,by simp[b]⟩
def Gt (A:Ar)(id:Int):Option Nd:=if 2≤id then slot A (id - 2).toNat else none
theorem EP {A:Ar}{id:Int}{d:Nd}(h:Gt A id=some d):aR A id=d.l:=by
 unfold Gt at h;split at h
 ·rename_i a;have:=jn h
  rwa [show (((id - 2).toNat:Nat):Int)+2=id by omega] at this
 ·cases h
theorem BJ {A:Ar}{i:Nat}:Gt A ((i:Int)+2)=slot A i:=by
 unfold Gt;rw[if_pos (by omega),show ((i:Int)+2 - 2).toNat=i by omega]
theorem ER {A:Ar}{id:Int}{d:Nd}(h:Gt A id=some d):∃ i:Nat,id=(i:Int)+2∧slot A i=some d:=by
 unfold Gt at h;split at h
 ·exact ⟨(id - 2).toNat,by omega,h⟩
 ·cases h
theorem BK {A:Ar}{id:Int}(h:Gt A id=none)(b:0≤aR A id):id=0∨id=1:=by
 rcases jo b with a | a | ⟨i,n,rfl,hs,_⟩
 ·exact .inl a
 ·exact .inr a
 ·rw[BJ,hs] at h;cases h
theorem ke {A:Ar}{id:Int}(h:id=0∨id=1):aR A id=24:=by unfold aR;rw[if_pos h]
def Ext (A a:Ar):Prop:=∀ i d,slot A i=some d→slot a i=some d
theorem Ext.refl (A:Ar):Ext A A:=fun _ _ h=>h
theorem Ext.trans {A B C:Ar}(h:Ext A B)(k:Ext B C):Ext A C:=fun i d a=>k i d (h i d a)
theorem Ext.nd {A a:Ar}(h:Ext A a){id:Int}{d:Nd}(b:Gt A id=some d):Gt a id=some d:=by
 obtain ⟨i,rfl,hs⟩:=ER b;rw[BJ];exact h i d hs
theorem Ext.lvl {A a:Ar}(h:Ext A a){id:Int}(b:0≤aR A id):aR a id=aR A id:=by
 cases hd:Gt A id with
 | none=>rw[ke (BK hd b),ke (BK hd b)]
 | some d=>rw[EP hd,EP (h.nd hd)]
theorem G3 {A:Ar}{n:Nd}:Ext A (jd A n):=fun i d a=>by
 rw[fE];split
 ·rename_i he;subst he;rw[kv] at a;cases a
 ·exact a
theorem ES {A:Ar}{n:Nd}(h:bT A=A.length):bT (jd A n)=(jd A n).length:=by
 have c:=nA (jd A n);rcases Nat.eq_or_lt_of_le c with b | b
 ·exact b
 ·have a:=kv (jd A n);rw[fE] at a;split at a
  ·cases a
  ·rename_i e;rw[nB,if_pos h] at b;obtain ⟨d,f⟩:=lq (A:=A) (i:=bT (jd A n)) (by omega);rw[f] at a;cases a
theorem CT {A:Ar}(h:bT A=A.length):lp A=A.length:=by
 unfold lp;rw[List.countP_eq_length];intro x a;obtain ⟨i,hi,rfl⟩:=List.getElem_of_mem a;obtain ⟨d,b⟩:=lq (A:=A) (i:=i) (by omega);have:=jR hi;rw[List.getElem?_eq_getElem hi] at this;injection this with this;rw[this,b];rfl
theorem kQ {α:Type}[DecidableEq α]:∀ {a b:List α},a.Nodup→(∀ k ∈ a,k ∈ b)→a.length≤b.length
 | [],b,_,_=>Nat.zero_le _
 | k::a,b,ha,h=>by
  obtain ⟨i,c⟩:=List.nodup_cons.1 ha;have f:k ∈ b:=h k (.head _);have d:=kQ (b:=b.erase k) c fun x g=>(List.mem_erase_of_ne (fun (e:x=k)=>i (by rw[← e];exact g))).2 (h x (.tail _ g));rw[List.length_erase_of_mem f] at d;have:=List.length_pos_of_mem f;simp only[List.length_cons];omega
end Go.Dk
namespace Go.Proofs.YtpjihhgjbbihkaaGreatDoor
open Go.Proofs.Tryz
set_option maxRecDepth 100000
open Go.Dk
attribute [local irreducible] IntKind.wrap
def fF (p:Nat→List Int→Bool):Nat→a7→a7
 | _,[]=>[]
 | i,r::R=>if p i r then r::fF p (i+1) R else fF p (i+1) R
theorem qe (p:Nat→List Int→Bool):∀ (i:Nat) (R T:a7),fF p i (R++T)=fF p i R++fF p (i+R.length) T
 | i,[],T=>by simp[fF]
 | i,r::R,T=>by
  have e:i+1+R.length=i+(r::R).length:=by simp;omega
  simp only[List.cons_append,fF];rw[qe p (i+1) R T,e];split <;> rfl
theorem z1 (p:Nat→List Int→Bool){R:a7}{i:Nat}{x:List Int}(a:R[i]?=some x):fF p 0 (R.take (i+1))=fF p 0 (R.take i)++(if p i x then [x] else []):=by
 have hi:=(List.getElem?_eq_some_iff.1 a).1;rw[List.take_add_one,a,qe,List.length_take,Nat.min_eq_left (by omega),Nat.zero_add];simp only[Option.toList_some,fF]
theorem vl (p:Nat→List Int→Bool):∀ (i:Nat) (R:a7),(fF p i R).length≤R.length
 | _,[]=>Nat.le_refl _
 | i,r::R=>by
  have:=vl p (i+1) R;simp only[fF];split <;> simp only[List.length_cons] <;> omega
theorem dP:eL prog 137=some (mv 0 (.slice none 0 0)):=by kernel_rfl
theorem tC:qI prog 135 75 (.slice none 0 0) 1 24:=⟨underlying135,by kernel_rfl,rfl,by decide⟩
theorem mg {a:Int}{w:World}{kk:Value→World→Prop}(h:kk (mv a (.slice none 0 0)) w):b8 prog 137 [(0,.int .i64 a)] w kk:=bt (fun w=>by kernel_rfl) h
theorem qf:bE prog 135=some 1:=by kernel_rfl
theorem da {cols:Int}{A:Option Addr}{l c:Nat}:∀ v ∈ (mc cols (.slice A l c)).toList,v.oneCell'=true:=by
 intro v a;simp[mc] at a;rcases a with rfl | rfl <;> rfl
theorem qg {P:Program}{g:FuncId}{a:Array Value}{args:List Value}{w:World}{k:Value→World→Prop}{q:Value→World→Prop}(h:bw P g (args++a.toList) w q)(b:∀ v w',q v w'→k v w') :
  jL P (.func (.func g) #[] a) args w k:=by
 unfold jL;exact h.mono b
structure tD (S:Nat→Prop) (w w':World) (v:Value) (R:a7):Prop where
 keeps:aT w w'
 mat:∃ S',ez S' v R w'∧∀ g,S' g→g<w'.heap.size∧(w.heap.size≤g∨S g)
theorem JF:enters prog 154=true:=by kernel_rfl
theorem c154 (cols:Int)(R:a7)(v1:Value)(S:Nat→Prop)(g:FuncId)(m:Array Value)(p:Nat→List Int→Bool)(w:World)(hl:R.length≤1000000000)(G:ez S v1 R w)(C:∀ g,S g→g<w.heap.size)(hp:∀ (i:Nat) (b:List Int) (B:Option Addr) (c:Nat) (D:World),R[i]?=some b→aT w D→Sl w (.slice B b.length c) 1 b.length (aA b)→
   bw prog g (([.int .i64 (i:Int),.slice B b.length c]:List Value)++m.toList) D fun v w'=>v=.bool (p i b)∧aT D w') :
  bw prog 154 [mv cols v1,.func (.func g) #[] m] w fun v w'=>∃ Z,v=mv cols Z∧tD S w w' Z (fF p 0 R):=by
 refine ar (N:=31) func154 JF rfl rfl rfl (by simp) ?_;have H:=Hp.aC w;obtain ⟨A,E,F,rfl,I,J⟩:=G;have K:Sl w (.slice A R.length E) 1 R.length F:=sl.mono I C;have hvl:F.length=R.length:=by have:=K.1;omega
 refine H.box 137 (mv _ _) (cs:=mc _ _) rfl ?_;clear H;intro g1 D H;refine H.alloc 137 dP rfl ?_;clear H;intro g2 w2 H;refine ak (γ:=Nat) (fun g3=>[(5,(ah g3))]) (fun g3 w'=>Hp w ab w' [an g3 137 (mc cols (.slice none 0 0)),an g2 137 (mv 0 (.slice none 0 0)).cells,an g1 137 (mc cols (.slice A R.length E))] []) ?_ ?_
 ·refine aa (iQ _) ?_;refine H.load 1 rfl aF rfl ?_;refine mg ?_;refine H.alloc 137 dP rfl ?_;clear H;intro g3 w3 H;refine H.storeAll 0 rfl az rfl (fun v M=>da v M) ?_;clear H;intro w7 H;exact ⟨_,⟨rfl,trivial⟩,H⟩
 ·clear H;rintro g3 u w3 H;replace H:=(H.bx 75 1).front 1 rfl;refine ak (γ:=Option Addr × Nat × List Value) (fun _=>[]) (fun (B,d,hs) w'=>(hs.length=(fF p 0 R).length∧∀ (j:Nat) (u:Value) (b:List Int),hs[j]?=some u→(fF p 0 R)[j]?=some b→q7 S w u b)∧
   Hp w ab w' [an g3 137 (mc cols (.slice B hs.length d)),own 75 1 (.slice B hs.length d) hs.length hs,an g2 137 (mv 0 (.slice none 0 0)).cells,an g1 137 (mc cols (.slice A R.length E))] []) ?_ ?_
  ·refine aa (cB _) ?_;refine H.load 3 rfl eA rfl ?_;refine ay underlying135 ?_;refine ax (γ:=Nat × Option Addr × Nat × List Value) (fun (i,_)=>[(14,.int .i64 (i:Int))])
    (fun (i,B,d,hs) w'=>(i≤R.length∧hs.length=(fF p 0 (R.take i)).length∧∀ (j:Nat) (u:Value) (b:List Int),hs[j]?=some u→(fF p 0 (R.take i))[j]?=some b→q7 S w u b)∧
     Hp w ab w' [an g3 137 (mc cols (.slice B hs.length d)),own 75 1 (.slice B hs.length d) hs.length hs,an g2 137 (mv 0 (.slice none 0 0)).cells,an g1 137 (mc cols (.slice A R.length E))] [])
    (fun (i,_)=>R.length - i) (0,none,0,[]) ⟨rfl,trivial⟩ ⟨⟨Nat.zero_le _,by simp[fF],fun j u b h=>by simp at h⟩,H⟩ ?_
   clear H;rintro ⟨i,B,d,hs⟩ u w4 ⟨⟨hi,e,f⟩,H⟩;refine au (fun h7=>?_) (fun h7=>?_)
   ·obtain ⟨x,O⟩:∃ x,R[i]?=some x:=⟨_,List.getElem?_eq_getElem (by omega)⟩;have hu:F[i]?=some (F[i]'(by omega)):=List.getElem?_eq_getElem (by omega);obtain ⟨q,r,Q,n⟩:=J i _ x hu O;rw[Q] at hu;have T:Sl w (.slice q x.length r) 1 x.length (aA x):=sl.mono n C;obtain ⟨g0,o0,rfl⟩:=K.A (by omega);have k:=z1 p O;refine ao underlying135 (s:=1) fP i rfl (by omega) (o':=o0+i) (by omega) ?_;refine H.dq (i:=i) K iP _ rfl hu ?_;refine qg (hp i x q r _ O H.keeps T) ?_;rintro _ w5 ⟨rfl,hk⟩;replace H:=H.same hk;clear hk;refine aE (fun U=>?_) (fun U=>?_)
    ·rw[if_pos U] at k;refine aa (cB _) ?_;refine H.load 0 rfl eA rfl ?_;refine H.aX tC rfl ?_;clear H;intro g5 w6 H;have hb1:hs.length≤1000000000:=by have:=vl p 0 (R.take i);rw[List.length_take] at this;omega
     refine H.cn 1 tC rfl rfl (by omega) (by omega) ?_;clear H;intro B2 d2 w7 H;refine aa (cB _) ?_;refine H.store 0 rfl qf (by show 1<2;decide) rfl ?_;clear H;intro w8 H;have t:(hs++[Value.slice q x.length r]).length=hs.length+1:=by simp
     refine ⟨(i+1,B2,d2,hs++[Value.slice q x.length r]),by show R.length - (i+1)<R.length - i;omega,⟨up (by omega),trivial⟩,⟨by show i+1≤R.length;omega,by rw[k,t,List.length_append,e];rfl,?_⟩,by rw[t];exact H⟩;intro j u b o a;rw[k] at a;by_cases V:j<hs.length
     ·rw[List.getElem?_append_left V] at o;rw[List.getElem?_append_left (by omega)] at a;exact f j u b o a
     ·rw[List.getElem?_append_right (by omega)] at o a;have y:j - hs.length=0:=by have:=(List.getElem?_eq_some_iff.1 o).1;simp at this;omega
      rw[← e,y] at a;rw[y] at o;simp at o a;subst o;subst a;exact ⟨q,r,rfl,n⟩
    ·rw[if_neg (by rw[U];decide),List.append_nil] at k;exact ⟨(i+1,B,d,hs),by show R.length - (i+1)<R.length - i;omega,⟨up (by omega),trivial⟩,⟨by show i+1≤R.length;omega,by rw[k];exact e,by rw[k];exact f⟩,H⟩
   ·have:i=R.length:=by omega
    subst this;rw[List.take_length] at e f;exact ⟨(B,d,hs),trivial,⟨e,f⟩,H⟩
  ·clear H;rintro ⟨B,d,hs⟩ u w4 ⟨⟨e,f⟩,H⟩;refine H.ai 0 rfl aL az ?_;refine H.storeAll 2 rfl az rfl (fun v M=>da v M) ?_;clear H;intro w5 H;refine H.ai 2 rfl aL az ?_;refine ⟨rfl,?_⟩;refine ⟨.slice B hs.length d,rfl,H.keeps,?_⟩;refine ⟨fun g=>S g∨(w.heap.size≤g∧g<w5.heap.size),⟨B,d,hs,by rw[e],?_,fun i u b hu a=>?_⟩,?_⟩
   ·have z:=H.get 1 rfl;rw[← e];exact sl.mono (iH z) fun g l=>.inr ⟨(H.new _ (.tail _ (.head _)) g l).resolve_right id,H.lt _ (.tail _ (.head _)) g l⟩
   ·obtain ⟨B',c',X,Y⟩:=f i u b hu a;exact ⟨B',c',X,sl.mono ((sl _ _ _ _ _).bQ _ _ (fun g l=>H.keeps.old g (C g l) id) Y) fun g l=>.inl l⟩
   ·rintro g (l | ⟨G,h2⟩)
    ·exact ⟨Nat.lt_of_lt_of_le (C g l) H.keeps.size,.inr l⟩
    ·exact ⟨h2,.inl G⟩
theorem nN {P:Program}{fn:Fn}{a c:List Value}{w:World}{k:Value→World→Prop}(h:k (.func fn a.toArray c.toArray) w):cw P fn a c w k:=by
 unfold cw;exact ⟨_,w,by simp[Instr.makeFunc],h⟩
theorem wF {α:Type}{p:α→Bool}{l:List α}{i:Nat}{x:α}(b:∀ y ∈ l.take i,p y=false)(d:l[i]?=some x)(c:p x=true):l.find? p=some x:=by
 obtain ⟨hi,rfl⟩:=List.getElem?_eq_some_iff.1 d;have a:l=l.take i++l[i]::l.drop (i+1):=by rw[List.getElem_cons_drop,List.take_append_drop]
 generalize l[i]=y at a c;rw[a,List.find?_append,List.find?_eq_none.2 (fun y e=>by rw[b y e];decide),Option.none_or,List.find?_cons,c]
theorem G4 {α:Type}{p:α→Bool}{l:List α}{i:Nat}{x:α}(b:∀ y ∈ l.take i,p y=false)(c:l[i]?=some x)(d:p x=false):∀ y ∈ l.take (i+1),p y=false:=by
 intro y a;rw[List.take_add_one,c] at a;rcases List.mem_append.1 a with a | a
 ·exact b y a
 ·have:y=x:=by simpa using a
  rw[this];exact d
theorem _root_.Go.Dk.Hp.gm {w0 w w':World}{F:Nat→Prop}{L M:List cH}{S:Nat→Prop}{v d:Value}{R e:a7}(H:Hp w0 F w L M)(i:bj S v R ∈ M)(j:tD S w w' d e) :
  ∃ b,Hp w0 F w' L (bj b d e::M)∧∀ g,b g→w0.heap.size≤g∨S g:=by
 obtain ⟨k,b,f,a⟩:=j;refine ⟨b,H.pU k (bj b d e) f fun g c=>⟨(a g c).1,(a g c).2.imp id fun h=>⟨_,i,h⟩⟩,fun g c=>(a g c).2.imp (fun h=>Nat.le_trans H.keeps.size h) id⟩
theorem _root_.Go.Dk.Hp.yA {w w':World}{L M:List cH}{S a:Nat→Prop}{c:Value}{d:a7}(H:Hp w ab w' L (bj a c d::M))(b:∀ g,a g→w.heap.size≤g∨S g):tD S w w' c d:=
 ⟨H.keeps,a,H.ro 0 rfl,fun g e=>⟨H.rlt _ (.head _) g e,b g e⟩⟩
theorem ez.form {S:Nat→Prop}{v:Value}{R:a7}{w:World}(h:ez S v R w):∃ A c,v=.slice A R.length c:=by
 obtain ⟨B,c,b,a,_⟩:=h;exact ⟨B,c,a⟩
theorem pv {S:Nat→Prop}{v:Value}{R:a7}{w:World}(h:ez S v R w)(b:∀ g,S g→g<w.heap.size):Hp w ab w [] [bj S v R]:=
 Hp.start w _ _ (fun r a=>by rw[List.mem_singleton] at a;subst a;exact h) (fun r a=>by rw[List.mem_singleton] at a;subst a;exact b)
theorem JG:enters prog 155=true:=by kernel_rfl
theorem NU (i:Int)(a:List Int)(B:Option Addr)(c:Nat)(b:Int)(g7:Nat)(w:World)(d:a.length≤1000000000)(hs:Sl w (.slice B a.length c) 1 a.length (aA a))(e:(an g7 3 #[.int .i64 b]).ok w) :
  bw prog 155 [.int .i64 i,.slice B a.length c,(ah g7)] w fun v w'=>v=.bool (!decide (b ∈ a))∧aT w w':=by
 refine ar (N:=10) func155 JG rfl rfl rfl (by simp) ?_;refine jZ e aF rfl ?_;refine aj (c156 a B c b _ d hs) ?_;rintro _ g ⟨rfl,f⟩;exact ⟨rfl,f⟩
theorem JH:enters prog 158=true:=by kernel_rfl
theorem NV (i:Int)(v:Value)(i0:Int)(g7:Nat)(w:World)(a:(an g7 3 #[.int .i64 i0]).ok w) :
  bw prog 158 [.int .i64 i,v,(ah g7)] w fun v w'=>v=.bool (i !=i0)∧aT w w':=by
 refine ar (N:=9) func158 JH rfl rfl rfl (by simp) ?_;refine jZ a aF rfl ?_;exact ⟨rfl,aS.refl _ _⟩
theorem qh (q:List Int→Bool):∀ (i:Nat) (R:a7),fF (fun _ r=>q r) i R=R.filter q
 | _,[]=>rfl
 | i,r::R=>by simp only[fF,List.filter_cons,qh q (i+1) R]
theorem vn (p:Nat→List Int→Bool):∀ (i:Nat) (R:a7),(∀ j r,i≤j→p j r=true)→fF p i R=R
 | _,[],_=>rfl
 | i,r::R,h=>by
  simp only[fF];rw[if_pos (h i r (Nat.le_refl _)),vn p (i+1) R fun j r a=>h j r (by omega)]
theorem rX (i0:Nat):∀ (i:Nat) (R:a7),i≤i0→fF (fun x _=>(x:Int) !=(i0:Int)) i R=R.eraseIdx (i0 - i)
 | _,[],_=>by simp[fF]
 | i,r::R,h=>by
  simp only[fF];by_cases he:i=i0
  ·subst he;rw[if_neg (by simp),Nat.sub_self,List.eraseIdx_cons_zero];exact vn _ _ _ fun j r a=>by simp;omega
  ·obtain ⟨m,hm⟩:∃ m,i0 - i=m+1:=⟨i0 - i - 1,by omega⟩;rw[if_pos (by simp;omega),hm,List.eraseIdx_cons_succ,rX i0 (i+1) R (by omega),show i0 - (i+1)=m by omega]
def mh (cols:Int)(R:a7):Option (a7 × Int):=if cD cols R then lQ R else none
theorem JI:enters prog 116=true:=by kernel_rfl
theorem c116 (cols:Int)(R:a7)(v1:Value)(S:Nat→Prop)(w:World)(O:R.length≤1000000000)(e:∀ r ∈ R,r.length≤1000000000)(Q:ez S v1 R w)(T:∀ g,S g→g<w.heap.size) :
  bw prog 116 [mv cols v1] w fun v w'=>∃ n,v=.tuple #[mv cols n,.int .i64 (((mh cols R).map (·.2)).getD 0),.bool (mh cols R).isSome]∧tD S w w' n (((mh cols R).map (·.1)).getD R):=by
 refine ar (N:=31) func116 JI rfl rfl rfl (by simp) ?_;have H:=pv Q T;have f:j5 w v1 R:=bj.mono Q T;obtain ⟨A,o,va,rfl,U,p⟩:=f.rV;refine H.box 137 (mv _ _) (cs:=mc _ _) rfl ?_;clear H;intro g1 w1 H;refine H.alloc 137 dP rfl ?_;clear H;intro g2 w2 H;refine H.ai 1 rfl aL az ?_;refine aj (EF cols R _ _ O e (f.same H.keeps)) ?_;rintro _ w3 ⟨rfl,V⟩;replace H:=H.same V;clear V;refine aE (fun t=>?_) (fun t=>?_)
 ·have a:mh cols R=none:=by unfold mh;rw[if_neg];simpa using t
  rw[a];refine H.ai 1 rfl aL az ?_;refine H.storeAll 0 rfl az rfl (fun v h=>da v h) ?_;clear H;intro X H;refine H.ai 0 rfl aL az ?_;refine ⟨rfl,?_⟩;exact ⟨_,rfl,H.yA fun g z=>.inr z⟩
 ·have C:cD cols R=true:=by simpa using t
  have D:mh cols R=lQ R:=by unfold mh;rw[if_pos C]
  rw[D];refine aw (fun w'=>(∀ r ∈ R,(r.length==1)=false)∧Hp.cl H w') ?_ ?_
  ·refine aa (cB _) ?_;refine H.load 1 rfl eA rfl ?_;refine ay underlying135 ?_;refine ax (γ:=Nat) (fun i=>[(15,.int .i64 (i:Int))]) (fun i w'=>(i≤R.length∧∀ r ∈ R.take i,(r.length==1)=false)∧Hp.cl H w') (fun i=>R.length - i) 0 ⟨rfl,trivial⟩ ⟨⟨Nat.zero_le _,by simp⟩,H⟩ ?_;rintro i u X ⟨⟨hi,a⟩,H1⟩;replace H:Hp _ _ _ _ _:=H1;clear H1;refine au (fun h7=>?_) (fun h7=>?_)
   ·obtain ⟨x,E⟩:∃ x,R[i]?=some x:=⟨_,List.getElem?_eq_getElem (by omega)⟩;obtain ⟨g0,m,rfl⟩:=U.A (by omega);obtain ⟨Bx,cx,j,l⟩:=p i x E;refine ao underlying135 (s:=1) fP i rfl (by omega) (o':=m+i) (by omega) ?_;refine H.dq (i:=i) U iP _ rfl j ?_;refine ay underlying75 ?_;refine cg (fun h8=>?_) (fun h8=>?_)
    ·have F:x.length=1:=by omega
     obtain ⟨k,rfl⟩:∃ k,x=[k]:=List.length_eq_one_iff.1 F;have G:R.find? (fun r=>r.length==1)=some [k]:=wF a E (by rfl);have b:lQ R=some (R.filter fun q=> !decide (k ∈ q),k):=by unfold lQ;rw[G];rfl
     rw[b];obtain ⟨gx,ox,rfl⟩:=l.A (by simp);refine ao underlying75 (s:=1) bc 0 rfl (by simp) (o':=ox) (by omega) ?_;refine H.dq (i:=0) l aF _ rfl rfl ?_;refine H.alloc 3 BF rfl ?_;clear H;intro g7 w5 H;refine H.store 0 rfl bc (by show 0<1;decide) rfl ?_;clear H;intro w6 H;replace H:Hp w ab w6 [an g7 3 #[.int .i64 k],an g2 137 (mv 0 (.slice none 0 0)).cells,an g1 137 (mc cols (.slice (some ⟨g0,m,none⟩) R.length o))] [bj S (.slice (some ⟨g0,m,none⟩) R.length o) R]:=H;refine H.fp [an g7 3 #[.int .i64 k],an g1 137 (mc cols (.slice (some ⟨g0,m,none⟩) R.length o))] (fun u H=>(H.front 1 rfl).forget) eO (by kernel_rfl) ?_;clear H;intro w7 H;refine quiet _ (fun w H=>H.ai 1 rfl aL az ae) ?_;refine quiet _ (fun w H=>nN ae) ?_;refine aj (c154 cols R _ S 155 _ (fun _ r=> !decide (k ∈ r)) _ O (H.ro 0 rfl) (H.rlt _ (.head _)) (fun i ks B c u I d J=>NU _ ks B c k g7 u (e _ (List.mem_of_getElem? I)) (J.same d) ((H.same d).get 0 rfl))) ?_;rintro _ w8 ⟨n,rfl,Y⟩;rw[qh] at Y;obtain ⟨S',Z,K⟩:=H.gm (.head _) Y;clear H;replace H:=Z;clear Z;refine ⟨.inl ((H.front 1 rfl).forget).aq,?_⟩;refine quiet _ (fun w H=>H.load 0 rfl aF rfl ae) ?_;obtain ⟨A',c',M⟩:=(H.ro 0 rfl).form;subst M;refine H.storeAll 1 rfl az rfl (fun v h=>da v h) ?_;clear H;intro w9 H;refine ⟨.inl ((H.front 1 rfl).forget).aq,?_⟩;refine H.ai 1 rfl aL az ?_;refine ⟨rfl,?_⟩;exact ⟨_,rfl,H.yA K⟩
    ·exact ⟨i+1,by show R.length - (i+1)<R.length - i;omega,⟨up (by omega),trivial⟩,⟨by show i+1≤R.length;omega,G4 a E (by simp;omega)⟩,H⟩
   ·have:i=R.length:=by omega
    subst this;rw[List.take_length] at a;exact ⟨(),trivial,a,H⟩
  ·rintro ⟨⟩ u X ⟨a,H1⟩;replace H:Hp _ _ _ _ _:=H1;clear H1;have b:lQ R=none:=by unfold lQ;rw[List.find?_eq_none.2 (fun y hy=>by rw[a y hy];decide)];rfl
   rw[b];refine H.ai 1 rfl aL az ?_;refine H.storeAll 0 rfl az rfl (fun v h=>da v h) ?_;clear H;intro w5 H;refine H.ai 0 rfl aL az ?_;refine ⟨rfl,?_⟩;exact ⟨_,rfl,H.yA fun g z=>.inr z⟩
def pb (cols:Int)(R:a7):Option a7:=if cD cols R then lR R else none
theorem z6 {R:a7}{i k:Nat}(a:∀ b,b<i→(List.range R.length).any (qN R b)=false)(hi:i<R.length)(d:k<R.length)(e:qN R i k=true):lR R=some (R.eraseIdx i):=by
 unfold lR xM;rw[wF (i:=i) (x:=i) (fun y c=>?_) (by rw[List.getElem?_range hi]) (List.any_eq_true.2 ⟨k,List.mem_range.2 d,e⟩)]
 ·rfl
 ·rw[List.take_range,Nat.min_eq_left (by omega)] at c;exact a y (List.mem_range.1 c)
theorem CU {R:a7}(a:∀ b,b<R.length→(List.range R.length).any (qN R b)=false):lR R=none:=by
 unfold lR xM;rw[List.find?_eq_none.2 (fun y c=>by rw[a y (List.mem_range.1 c)];decide)];rfl
theorem JJ {n:Nat}{p:Nat→Bool}(h:∀ k,k<n→p k=false):(List.range n).any p=false:=by
 rw[Bool.eq_false_iff];intro b;obtain ⟨k,c,a⟩:=List.any_eq_true.1 b;rw[h k (List.mem_range.1 c)] at a;cases a
theorem wG {n:Nat}{p:Nat→Bool}(h:∀ k,k<n→p k=false)(b:p n=false):∀ k,k<n+1→p k=false:=fun k d=>by
 rcases Nat.lt_or_ge k n with a | c
 ·exact h k a
 ·obtain rfl:k=n:=by omega
  exact b
theorem JK {R:a7}{i k:Nat}{x y:List Int}(a:R[i]?=some x)(b:R[k]?=some y):qN R i k=((k !=i)&&iG y x&&(decide (y.length<x.length)||decide (k<i))):=by
 unfold qN;rw[List.getD_eq_getElem?_getD,List.getD_eq_getElem?_getD,a,b];rfl
theorem JL:enters prog 118=true:=by kernel_rfl
theorem NW (cols:Int)(R:a7)(v1:Value)(S:Nat→Prop)(w:World)(hl:R.length≤1000000000)(m:∀ r ∈ R,r.length≤1000000000)(h1:ez S v1 R w)(hS:∀ g,S g→g<w.heap.size) :
  bw prog 118 [mv cols v1] w fun v w'=>∃ I,v=.tuple #[mv cols I,.bool (pb cols R).isSome]∧tD S w w' I ((pb cols R).getD R):=by
 refine ar (N:=54) func118 JL rfl rfl rfl (by simp) ?_;have H:=pv h1 hS;have t:j5 w v1 R:=bj.mono h1 hS;obtain ⟨A,ca,va,rfl,J,z⟩:=t.rV;refine H.box 137 (mv _ _) (cs:=mc _ _) rfl ?_;clear H;intro g1 w1 H;refine H.alloc 137 dP rfl ?_;clear H;intro g2 w2 H;refine H.ai 1 rfl aL az ?_;refine aj (EF cols R _ _ hl m (t.same H.keeps)) ?_;rintro _ w3 ⟨rfl,hk⟩;replace H:=H.same hk;clear hk;refine aE (fun K=>?_) (fun K=>?_)
 ·have b:pb cols R=none:=by unfold pb;rw[if_neg];simpa using K
  rw[b];refine H.ai 1 rfl aL az ?_;refine H.storeAll 0 rfl az rfl (fun v C=>da v C) ?_;clear H;intro w4 H;refine H.ai 0 rfl aL az ?_;refine ⟨rfl,?_⟩;exact ⟨_,rfl,H.yA fun g M=>.inr M⟩
 ·have O:cD cols R=true:=by simpa using K
  have Q:pb cols R=lR R:=by unfold pb;rw[if_pos O]
  rw[Q];refine aw (fun w'=>(∀ i,i<R.length→(List.range R.length).any (qN R i)=false)∧Hp.cl H w') ?_ ?_
  ·refine aa (cB _) ?_;refine H.load 1 rfl eA rfl ?_;refine ay underlying135 ?_;refine ax (γ:=Nat) (fun i=>[(15,.int .i64 (i:Int))]) (fun i w'=>(i≤R.length∧∀ F,F<i→(List.range R.length).any (qN R F)=false)∧Hp.cl H w') (fun i=>R.length - i) 0 ⟨rfl,trivial⟩ ⟨⟨Nat.zero_le _,fun F h=>by omega⟩,H⟩ ?_;rintro i u w4 ⟨⟨hi,b⟩,H1⟩;replace H:Hp _ _ _ _ _:=H1;clear H1;refine au (fun h7=>?_) (fun h7=>?_)
   ·obtain ⟨x,T⟩:∃ x,R[i]?=some x:=⟨_,List.getElem?_eq_getElem (by omega)⟩;obtain ⟨g0,G,rfl⟩:=J.A (by omega);obtain ⟨Bx,cx,D,U⟩:=z i x T;have V:=m x (List.mem_of_getElem? T);refine aw (fun w'=>(∀ k,k<R.length→qN R i k=false)∧Hp.cl H w') ?_ ?_
    ·refine ao underlying135 (s:=1) fP i rfl (by omega) (o':=G+i) (by omega) ?_;refine H.dq (i:=i) J iP _ rfl D ?_;refine H.alloc 3 BF rfl ?_;intro g7 w5 a;refine a.store 0 rfl bc (by show 0<1;decide) rfl ?_;clear a;intro w6 a;replace a:Hp w ab w6 [an g7 3 #[.int .i64 i],an g2 137 (mv 0 (.slice none 0 0)).cells,an g1 137 (mc cols (.slice (some ⟨g0,G,none⟩) R.length ca))] [bj S (.slice (some ⟨g0,G,none⟩) R.length ca) R]:=a;refine aa (cB _) ?_;refine a.load 2 rfl eA rfl ?_;refine ay underlying135 ?_;refine ax (γ:=Nat) (fun k=>[(23,.int .i64 (k:Int))]) (fun k w'=>(k≤R.length∧∀ k',k'<k→qN R i k'=false)∧Hp.cl a w') (fun k=>R.length - k) 0 ⟨rfl,trivial⟩ ⟨⟨Nat.zero_le _,fun F h=>by omega⟩,a⟩ ?_;rintro k u w7 ⟨⟨hkk,E⟩,H1⟩;replace a:Hp _ _ _ _ _:=H1;clear H1;refine au (fun h8=>?_) (fun h8=>?_)
     ·obtain ⟨y,X⟩:∃ y,R[k]?=some y:=⟨_,List.getElem?_eq_getElem (by omega)⟩;obtain ⟨By,cy,n,Y⟩:=z k y X;have Z:=m y (List.mem_of_getElem? X);have d:=JK T X;refine aw (fun w'=>qN R i k=false∧Hp.cl a w') ?_ ?_
      ·refine ak (γ:=Unit) (fun _=>[(6,.int .i64 (k:Int)),(7,.slice By y.length cy)]) (fun _ w'=>Hp.cl a w') ?_ ?_
       ·refine ao underlying135 (s:=1) fP k rfl (by omega) (o':=G+k) (by omega) ?_;refine a.dq (i:=k) J iP _ rfl n ?_;exact ⟨(),⟨rfl,rfl,trivial⟩,a⟩
       ·rintro ⟨⟩ u w8 H1;replace a:Hp _ _ _ _ _:=H1;clear H1;refine ak (γ:=Unit) (fun _=>[(47,.bool (qN R i k))]) (fun _ w'=>Hp.cl a w') ?_ ?_
        ·refine a.load 0 rfl aF rfl ?_;refine df (fun a0=>?_) (fun a0=>?_)
         ·have e:(k !=i)=true:=by simp;omega
          refine ag (bne_iff_ne.2 (by omega)) ?_;refine ag (bne_iff_ne.2 (by omega)) ?_;refine aj (c157 y x By Bx cy cx _ Z V (Y.same a.keeps) (U.same a.keeps)) ?_;rintro _ w13 ⟨rfl,l⟩;replace a:=a.same l;clear l;refine ag (bne_iff_ne.2 (by omega)) ?_;refine aE (fun f=>?_) (fun f=>?_)
          ·refine ag (by assumption) ?_;refine ay underlying75 ?_
           iterate 2 refine ag (by assumption) ?_
           refine ay underlying75 ?_
           iterate 2 refine ag (by assumption) ?_
           refine au (fun a1=>?_) (fun a1=>?_)
           ·refine ag (decide_eq_true (by assumption)) ?_;refine ag (decide_eq_true (by assumption)) ?_;refine ag (by assumption) ?_;refine ag (decide_eq_true (by assumption)) ?_;refine ag (by assumption) ?_;exact ⟨(),⟨by rw[d,e,f,decide_eq_true (show y.length<x.length by omega)];rfl,trivial⟩,a⟩
           ·refine af (decide_eq_false (by assumption)) ?_;refine a.load 0 rfl aF rfl ?_;refine af (decide_eq_false (by assumption)) ?_;refine ag (by assumption) ?_;refine af (decide_eq_false (by assumption)) ?_;refine ag (by assumption) ?_;exact ⟨(),⟨by rw[d,e,f,decide_eq_false (show ¬ y.length<x.length by omega)];exact congrArg Value.bool (decide_eq_decide.2 (by omega)),trivial⟩,a⟩
          ·refine af (by assumption) ?_
           iterate 6 refine af (by assumption) ?_
           exact ⟨(),⟨by rw[d,e,f];rfl,trivial⟩,a⟩
         ·have e:(k !=i)=false:=by simp;omega
          iterate 3 refine af (bne_eq_false_iff_eq.2 (by omega)) ?_
          iterate 8 refine af rfl ?_
          exact ⟨(),⟨by rw[d,e];rfl,trivial⟩,a⟩
        ·rintro ⟨⟩ u w9 H1;replace a:Hp _ _ _ _ _:=H1;clear H1;refine aE (fun hd=>?_) (fun hd=>⟨(),trivial,hd,a⟩);rw[z6 b (by omega) (by omega) hd];refine a.ai 2 rfl aL az ?_;refine nN ?_;refine aj (c154 cols R _ S 158 _ (fun x _=>(x:Int) !=(i:Int)) _ hl (a.ro 0 rfl) (a.rlt _ (.head _)) (fun j ks B c u hks o hsl=>NV _ _ i g7 u ((a.same o).get 0 rfl))) ?_;rintro _ w10 ⟨I,rfl,hn⟩;rw[rX i 0 R (Nat.zero_le _),Nat.sub_zero] at hn;obtain ⟨S',q,hS'⟩:=a.gm (.head _) hn;obtain ⟨A',c',hv'⟩:=(q.ro 0 rfl).form;subst hv';refine q.storeAll 1 rfl az rfl (fun v C=>da v C) ?_;clear q;intro w11 q;refine q.ai 1 rfl aL az ?_;refine ⟨rfl,?_⟩;exact ⟨_,rfl,q.yA hS'⟩
      ·rintro ⟨⟩ u w9 ⟨p,H1⟩;exact ⟨k+1,by show R.length - (k+1)<R.length - k;omega,⟨up (by omega),trivial⟩,⟨by show k+1≤R.length;omega,wG E p⟩,H1⟩
     ·have:k=R.length:=by omega
      subst this;exact ⟨(),trivial,E,a.forget⟩
    ·rintro ⟨⟩ u w5 ⟨p,H1⟩;exact ⟨i+1,by show R.length - (i+1)<R.length - i;omega,⟨up (by omega),trivial⟩,⟨by show i+1≤R.length;omega,wG b (JJ p)⟩,H1⟩
   ·have:i=R.length:=by omega
    subst this;exact ⟨(),trivial,b,H⟩
  ·rintro ⟨⟩ u w4 ⟨b,H1⟩;replace H:Hp _ _ _ _ _:=H1;clear H1;rw[CU b];refine H.ai 1 rfl aL az ?_;refine H.storeAll 0 rfl az rfl (fun v C=>da v C) ?_;clear H;intro w5 H;refine H.ai 0 rfl aL az ?_;refine ⟨rfl,?_⟩;exact ⟨_,rfl,H.yA fun g M=>.inr M⟩
def jE (R:a7)(c:Int)(i:Nat):List Int:=((List.range i).filter fun i=>decide (c ∈ R.getD i [])).map (fun i:Nat=>(i:Int))
theorem z7 {R:a7}{c:Int}{i:Nat}{x:List Int}(a:R[i]?=some x):jE R c (i+1)=jE R c i++(if c ∈ x then [(i:Int)] else []):=by
 unfold jE;rw[List.range_succ,List.filter_append,List.map_append]
 congr 1
 have:R.getD i []=x:=by rw[List.getD_eq_getElem?_getD,a];rfl
 by_cases h:c ∈ x
 ·simp only[List.filter_cons,this,h,decide_true,if_true,List.filter_nil,List.map_cons,List.map_nil]
 ·simp only[List.filter_cons,this,h,decide_false,Bool.false_eq_true,if_false,List.filter_nil,List.map_nil]
theorem tE (R:a7)(c:Int)(i:Nat):(jE R c i).length≤i:=by
 have:=List.length_filter_le (fun i=>decide (c ∈ R.getD i [])) (List.range i);simpa [jE] using this
def na (cols:Nat)(R:a7)(c:Int):Bool:= !(bu R c).isEmpty&&(List.range cols).any fun d=>xN R c (d:Int)
theorem CV (R:a7)(c:Int):(bu R c).length≤R.length:=tE R c R.length
theorem ET {cols:Nat}{R:a7}{c:Int}(h:(bu R c).length=0):na cols R c=false:=by
 unfold na;rw[List.length_eq_zero_iff.1 h];rfl
def je (S:Nat→Prop)(w:World)(hs:List Value)(Q:a7):Prop:=hs.length=Q.length∧∀ (j:Nat) (u:Value) (a:List Int),hs[j]?=some u→Q[j]?=some a→q7 S w u a
theorem je.nil (S:Nat→Prop)(w:World):je S w [] []:=⟨rfl,fun j u a h=>by simp at h⟩
theorem je.snoc {S:Nat→Prop}{w:World}{hs:List Value}{Q:a7}(h:je S w hs Q){u:Value}{e:List Int}(hu:q7 S w u e):je S w (hs++[u]) (Q++[e]):=by
 obtain ⟨f,g⟩:=h;refine ⟨by simp[f],fun j v rs b a=>?_⟩;by_cases d:j<hs.length
 ·rw[List.getElem?_append_left d] at b;rw[List.getElem?_append_left (by omega)] at a;exact g j v rs b a
 ·rw[List.getElem?_append_right (by omega)] at b a;have c:j - hs.length=0:=by have:=(List.getElem?_eq_some_iff.1 b).1;simp at this;omega
  rw[← f,c] at a;rw[c] at b;simp at b a;subst b;subst a;exact hu
theorem q7.mono {S a:Nat→Prop}{w:World}{u:Value}{b:List Int}(h:q7 S w u b)(d:∀ g,S g→a g):q7 a w u b:=by
 obtain ⟨B,c,e,hs⟩:=h;exact ⟨B,c,e,sl.mono hs d⟩
theorem q7.bQ {S:Nat→Prop}{w w':World}{u:Value}{a:List Int}(h:q7 S w u a)(b:∀ g,S g→w'.heap[g]?=w.heap[g]?):q7 S w' u a:=by
 obtain ⟨B,c,d,hs⟩:=h;exact ⟨B,c,d,(sl _ _ _ _ _).bQ _ _ b hs⟩
theorem je.bQ {S:Nat→Prop}{w w':World}{hs:List Value}{Q:a7}(h:je S w hs Q)(b:∀ g,S g→w'.heap[g]?=w.heap[g]?):je S w' hs Q:=
 ⟨h.1,fun j u c d a=>(h.2 j u c d a).bQ b⟩
theorem je.mono {S b:Nat→Prop}{w:World}{hs:List Value}{Q:a7}(h:je S w hs Q)(c:∀ g,S g→b g):je b w hs Q:=
 ⟨h.1,fun j u d e a=>(h.2 j u d e a).mono c⟩
def dk (S:Nat→Prop)(hs:List Value)(Q:a7):cH:=⟨S,fun w=>je S w hs Q,fun _ _ h a=>a.bQ h⟩
theorem sx {w w':World}{L M:List cH}{S c:Nat→Prop}{B:Option Addr}{d n:Nat}{hs:List Value}{Q:a7}(H:Hp w ab w' L M)(i:Nat)(k:L[i]?=some (own 75 1 (.slice B n d) n hs))(l:je c w' hs Q)(m:∀ g,c g→g<w'.heap.size∧(w.heap.size≤g∨S g)):tD S w w' (.slice B n d) Q:=by
 have a:=H.get i k;have hm:=List.mem_of_getElem? k;have hlen:hs.length=n:=by have:=a.1;omega
 have e:n=Q.length:=by rw[← hlen];exact l.1
 subst e;refine ⟨H.keeps,fun g=>c g∨(w.heap.size≤g∧g<w'.heap.size),⟨B,d,hs,rfl,?_,fun i u o hu f=>?_⟩,?_⟩
 ·exact sl.mono (iH a) fun g b=>.inr ⟨(H.new _ hm g b).resolve_right id,H.lt _ hm g b⟩
 ·obtain ⟨p,q,h,j⟩:=l.2 i u o hu f;exact ⟨p,q,h,sl.mono j fun g b=>.inl b⟩
 ·rintro g (b | ⟨r,s⟩)
  ·exact m g b
  ·exact ⟨s,.inl r⟩
theorem EU {w w':World}{L M:List cH}{S:Nat→Prop}{B:Option Addr}{d n:Nat}{hs:List Value}{Q:a7}(H:Hp w ab w' L M)(i:Nat)(c:L[i]?=some (own 75 1 (.slice B n d) n hs))(e:je S w hs Q)(b:∀ g,S g→g<w.heap.size):tD S w w' (.slice B n d) Q:=
 sx H i c (e.bQ fun g a=>H.keeps.old g (b g a) id) fun g a=>⟨Nat.lt_of_lt_of_le (b g a) H.keeps.size,.inr a⟩
theorem _root_.Go.Dk.Hp.z8 {w0 w:World}{L M:List cH}{S:Nat→Prop}{hs:List Value}{Q:a7}{v:Value}{f:List Int}(H:Hp w0 ab w (own 3 1 v f.length (aA f)::L) (dk S hs Q::M))(k:∀ g,S g→w0.heap.size≤g) :
  ∃ j,Hp w0 ab w L (dk j (hs++[v]) (Q++[f])::M)∧∀ g,j g→w0.heap.size≤g:=by
 have b:=H.get 0 rfl;have d:=H.ro 0 rfl;have e:=H.new _ (.head _);have h:=H.freeze;refine ⟨fun g=>S g∨v.ownBlock=some g,(h.pU (aS.refl _ _) (dk (fun g=>S g∨v.ownBlock=some g) (hs++[v]) (Q++[f])) ?_ fun g a=>⟨?_,.inr ?_⟩).ey ?_,?_⟩
 ·obtain ⟨A,c,rfl,_⟩:=fh b;exact je.snoc (d.mono fun g a=>.inl a) ⟨A,c,rfl,sl.mono (iH b) fun g a=>.inr a⟩
 ·rcases a with a | a
  ·exact h.rlt _ (.tail _ (.head _)) g a
  ·exact h.rlt _ (.head _) g a
 ·rcases a with a | a
  ·exact ⟨_,.tail _ (.head _),a⟩
  ·exact ⟨_,.head _,a⟩
 ·intro r i;rcases List.mem_cons.1 i with rfl | i
  ·exact .head _
  ·exact .tail _ (.tail _ (.tail _ i))
 ·rintro g (a | a)
  ·exact k g a
  ·exact (e g a).resolve_right id
theorem _root_.Go.Dk.Hp.z_ {w0 w:World}{F:Nat→Prop}{L M:List cH}(H:Hp w0 F w L M):Hp w0 F w L (dk (fun _=>False) [] []::M):=
 H.pU (aS.refl _ _) _ (je.nil _ _) fun g a=>a.elim
theorem yB {R:a7}{i:Nat}{x:List Int}(q:List Int→Bool)(a:R[i]?=some x):(R.take (i+1)).filter q=(R.take i).filter q++(if q x then [x] else []):=by
 rw[List.take_add_one,a,List.filter_append]
 cases h:q x <;> simp[h]
theorem Aa {cols:Nat}{R:a7}{c:Nat}(a:∀ b,b<c→na cols R ((b:Nat):Int)=false)(e:c<cols)(f:na cols R (c:Int)=true):jK cols R=some (bn R c):=by
 unfold jK xO;rw[wF (i:=c) (x:=c) (fun y d=>?_) (by rw[List.getElem?_range e]) f]
 ·rfl
 ·rw[List.take_range,Nat.min_eq_left (by omega)] at d;exact a y (List.mem_range.1 d)
theorem CW {cols:Nat}{R:a7}(a:∀ c,c<cols→na cols R ((c:Nat):Int)=false):jK cols R=none:=by
 unfold jK xO;have:(List.range cols).find? (fun c:Nat=> !(bu R (c:Int)).isEmpty&&(List.range cols).any fun d:Nat=>xN R (c:Int) (d:Int))=none:=List.find?_eq_none.2 fun y b=>by
  have h:=a y (List.mem_range.1 b);unfold na at h;rw[h];decide
 rw[this];rfl
theorem vp {R:a7}{i:Nat}{x:List Int}{c:Int}(a:R[i]?=some x):bn (R.take (i+1)) c=bn (R.take i) c++[x.filter fun k=>k !=c]:=by
 unfold bn;rw[List.take_add_one,a,List.map_append];rfl
theorem vq {l:List Int}{i:Nat}{x:Int}(q:Int→Bool)(a:l[i]?=some x):(l.take (i+1)).filter q=(l.take i).filter q++(if q x then [x] else []):=by
 rw[List.take_add_one,a,List.filter_append]
 cases h:q x <;> simp[h]
theorem ir (l:List Int)(x:Int):aA (l++[x])=aA l++[.int .i64 x]:=by simp[aA]
def e9 (c:Int):Value:=.int .i64 c
theorem mP (a b:Int)(h:e9 a=e9 b):a=b:=by injection h
theorem NX:KL prog 3 fun v=>∃ a,v=e9 a:=(KL.D5 underlying3).mono fun v ⟨a,h⟩=>by subst h;exact rfl
theorem JM:ld prog 220 3 75 e9 (fun v:Value=>v) (.slice none 0 0):=⟨underlying220,NX,mP,by kernel_rfl⟩
def pe (cols:Int)(R:a7):Option a7:=if cD cols R then jK cols.toNat R else none
theorem CX (R:a7)(c d:Int):((d==c|| !iG (bu R c) (bu R d))||(decide ((bu R d).length=(bu R c).length)&&decide (d>c)))= !o9 R c d:=by
 unfold o9;have a:(d==c)= !(d !=c):=by simp[bne]
 rw[a];have b:decide (d>c)=decide (c<d):=rfl;rw[b]
 cases (d !=c) <;> cases iG (bu R c) (bu R d) <;> simp
theorem Ab {R:a7}{c:Int}(h:(bu R c).length≠0):∃ (n:Nat) (l:List Int),bu R c=(n:Int)::l∧n<R.length:=by
 cases hw:bu R c with
 | nil=>rw[hw] at h;simp at h
 | cons i l=>
  obtain ⟨n,a,rfl,_⟩:=kp.1 (show i ∈ bu R c by rw[hw];exact .head _);exact ⟨n,l,rfl,a⟩
def mi (R:a7)(c:Int)(i:Nat)(x:List Int)(j:Nat):List Int:=jE R c i++if c ∈ x.take j then [(i:Int)] else []
theorem CY (R:a7)(c:Int)(i:Nat)(x:List Int):mi R c i x 0=jE R c i:=by simp[mi]
theorem Ae {R:a7}{i:Nat}{x:List Int}(a:R[i]?=some x)(c:Int):mi R c i x x.length=jE R c (i+1):=by
 unfold mi;rw[List.take_length,z7 a]
theorem CZ (R:a7)(i:Nat){x:List Int}(f:x.Nodup){j:Nat}{k:Int}(e:x[j]?=some k)(c:Int):mi R c i x (j+1)=if c=k then mi R c i x j++[(i:Int)] else mi R c i x j:=by
 have a:x.take (j+1)=x.take j++[k]:=by rw[List.take_add_one,e];rfl
 have b:k ∉ x.take j:=fun h=>by
  obtain ⟨m,hm,he⟩:=List.getElem_of_mem h;rw[List.length_take] at hm;rw[List.getElem_take] at he;have g:x[m]?=some k:=by rw[List.getElem?_eq_getElem (by omega),he]
  have:=(List.getElem?_inj (by omega) f).1 (g.trans e.symm);omega
 unfold mi;rw[a];by_cases d:c=k
 ·subst d;rw[if_pos rfl,if_pos (List.mem_append_right _ (.head _)),if_neg b,List.append_nil]
 ·rw[if_neg d];have:(c ∈ x.take j++[k])↔c ∈ x.take j:=by simp[d]
  by_cases h:c ∈ x.take j
  ·rw[if_pos (this.2 h),if_pos h]
  ·rw[if_neg (fun l=>h (this.1 l)),if_neg h]
theorem G5 (R:a7)(c:Int)(i:Nat)(x:List Int)(j:Nat):(mi R c i x j).length≤i+1:=by
 have:=tE R c i;unfold mi;split
 ·simp;omega
 ·simp;omega
theorem JN:enters prog 120=true:=by kernel_rfl
theorem NY (cols:Int)(R:a7)(v1:Value)(S:Nat→Prop)(w:World)(hl:R.length≤1000000000)(O:∀ r ∈ R,r.length≤1000000000)(h1:ez S v1 R w)(hS:∀ g,S g→g<w.heap.size) :
  bw prog 120 [mv cols v1] w fun v w'=>∃ v',v=.tuple #[mv cols v',.bool (pe cols R).isSome]∧tD S w w' v' ((pe cols R).getD R):=by
 refine ar (N:=135) func120 JN rfl rfl rfl (by simp) ?_;have H:=pv h1 hS;have h1':j5 w v1 R:=bj.mono h1 hS;obtain ⟨A,a,va,rfl,ha,a0⟩:=h1'.rV;refine H.box 137 (mv _ _) (cs:=mc _ _) rfl ?_;clear H;intro g1 w1 H;refine H.alloc 137 dP rfl ?_;clear H;intro g2 w2 H;refine H.ai 1 rfl aL az ?_;refine aj (EF cols R _ _ hl O (h1'.same H.keeps)) ?_;rintro _ w3 ⟨rfl,V⟩;replace H:=H.same V;clear V;refine aE (fun hr=>?_) (fun hr=>?_)
 ·have t:pe cols R=none:=by unfold pe;rw[if_neg];simpa using hr
  rw[t];refine H.ai 1 rfl aL az ?_;refine H.storeAll 0 rfl az rfl (fun v G=>da v G) ?_;clear H;intro w4 H;refine H.ai 0 rfl aL az ?_;refine ⟨rfl,?_⟩;exact ⟨_,rfl,H.yA fun g hg=>.inr hg⟩
 have hr':cD cols R=true:=by simpa using hr
 have m:=gC.1 hr';obtain ⟨n,rfl⟩:∃ n:Nat,cols=n:=⟨cols.toNat,by have:=m.ge;omega⟩;have hn4:n≤4000:=by have:=m.le;omega
 have htk:pe (n:Int) R=jK n R:=by unfold pe;rw[if_pos hr',Int.toNat_natCast]
 rw[htk];refine ak (γ:=Nat) (fun r=>[(4,.map (some r))]) (fun r w'=>Hp w ab w' [pk e9 3 r ([]:u_ Int),an g2 137 (mv 0 (.slice none 0 0)).cells,an g1 137 (mc n (.slice A R.length a))] [bj S (.slice A R.length a) R]) ?_ ?_
 ·refine H.Jb e9 3 ?_;clear H;intro r w4 H;exact ⟨r,⟨rfl,trivial⟩,H⟩
 clear H;rintro r u w4 H;refine ak (γ:=u_ Int) (fun _=>[]) (fun l w'=>(∀ c,vc l c=aA (bu R c))∧Hp w ab w' [pk e9 3 r l,an g2 137 (mv 0 (.slice none 0 0)).cells,an g1 137 (mc n (.slice A R.length a))] [bj S (.slice A R.length a) R]) ?_ ?_
 ·refine aa (cB _) ?_;refine H.load 2 rfl eA rfl ?_;refine ay underlying135 ?_;refine ax (γ:=Nat × u_ Int) (fun (i,_)=>[(26,.int .i64 (i:Int))])
   (fun (i,l) w'=>(i≤R.length∧∀ c,vc l c=aA (jE R c i))∧Hp w ab w' [pk e9 3 r l,an g2 137 (mv 0 (.slice none 0 0)).cells,an g1 137 (mc n (.slice A R.length a))] [bj S (.slice A R.length a) R])
   (fun (i,_)=>R.length - i) (0,[]) ⟨rfl,trivial⟩ ⟨⟨Nat.zero_le _,fun c=>rfl⟩,H⟩ ?_
  clear H;rintro ⟨i,l⟩ u w5 ⟨⟨hi,hw⟩,H⟩;refine au (fun h7=>?_) (fun h7=>?_)
  ·obtain ⟨x,q⟩:∃ x,R[i]?=some x:=⟨_,List.getElem?_eq_getElem (by omega)⟩;obtain ⟨g0,b,rfl⟩:=ha.A (by omega);obtain ⟨Bx,cx,I,J⟩:=a0 i x q;have hxm:=List.mem_of_getElem? q;have hxl:=O x hxm;have hxn:=(m.rise x hxm).nodup;refine ak (γ:=u_ Int) (fun _=>[]) (fun l w'=>(∀ c,vc l c=aA (jE R c (i+1)))∧Hp w ab w' [pk e9 3 r l,an g2 137 (mv 0 (.slice none 0 0)).cells,an g1 137 (mc n (.slice (some ⟨g0,b,none⟩) R.length a))] [bj S (.slice (some ⟨g0,b,none⟩) R.length a) R]) ?_ ?_
   ·refine ak (γ:=Unit) (fun _=>[(5,.int .i64 (i:Int)),(6,.slice Bx x.length cx)]) (fun _ w'=>Hp.cl H w') ?_ ?_
    ·refine ao underlying135 (s:=1) fP i rfl (by omega) (o':=b+i) (by omega) ?_;refine H.dq (i:=i) ha iP _ rfl I ?_;exact ⟨(),⟨rfl,rfl,trivial⟩,H⟩
    rintro ⟨⟩ u w6 H1;replace H:Hp _ _ _ _ _:=H1;clear H1;refine ay underlying75 ?_;refine ax (γ:=Nat × u_ Int) (fun (j,_)=>[(33,.int .i64 (j:Int))])
     (fun (j,l) w'=>(j≤x.length∧∀ c,vc l c=aA (mi R c i x j))∧Hp w ab w' [pk e9 3 r l,an g2 137 (mv 0 (.slice none 0 0)).cells,an g1 137 (mc n (.slice (some ⟨g0,b,none⟩) R.length a))] [bj S (.slice (some ⟨g0,b,none⟩) R.length a) R])
     (fun (j,_)=>x.length - j) (0,l) ⟨rfl,trivial⟩ ⟨⟨Nat.zero_le _,fun c=>by rw[CY];exact hw c⟩,H⟩ ?_
    clear H hw;rintro ⟨j,l⟩ u w7 ⟨⟨hj,hw⟩,H⟩;refine au (fun h8=>?_) (fun h8=>?_)
    ·obtain ⟨k,V⟩:∃ k,x[j]?=some k:=⟨_,List.getElem?_eq_getElem (by omega)⟩;obtain ⟨g3,o3,rfl⟩:=J.A (by omega);have a1:(aA x)[j]?=some (.int .i64 k):=by rw[aA,List.getElem?_map,V];rfl
     have hle:=G5 R k i x j;have hlen:(vc l k).length=(mi R k i x j).length:=by rw[hw k];simp[aA]
     refine ak (γ:=u_ Int) (fun _=>[]) (fun l w'=>(∀ c,vc l c=aA (mi R c i x (j+1)))∧Hp w ab w' [pk e9 3 r l,an g2 137 (mv 0 (.slice none 0 0)).cells,an g1 137 (mc n (.slice (some ⟨g0,b,none⟩) R.length a))] [bj S (.slice (some ⟨g0,b,none⟩) R.length a) R]) ?_ ?_
     ·refine ak (γ:=Unit) (fun _=>[(8,.int .i64 k)]) (fun _ w'=>Hp.cl H w') ?_ ?_
      ·refine ao underlying75 (s:=1) bc j rfl (by omega) (o':=o3+j) (by omega) ?_;refine H.dq (i:=j) J aF _ rfl a1 ?_;exact ⟨(),⟨rfl,trivial⟩,H⟩
      rintro ⟨⟩ u w8 H1;replace H:Hp _ _ _ _ _:=H1;clear H1;obtain ⟨A0,c0,a2⟩:=ye (H.get 0 rfl) k;refine rS (H.get 0 rfl) JM k ?_;obtain ⟨v,xs,Ls,G,hxs,o,close⟩:=H.Jd mP k;subst G;subst hxs;clear H;rw[a2] at o ⊢;refine o.aX dH rfl ?_;clear o;intro g9 w9 o;refine o.cn 1 dH rfl rfl (by omega) (by omega) ?_;clear o;intro z d2 w10 o;refine o.iI 0 rfl JM k (.slice z ((vc l k).length+1) d2) ?_;clear o;intro w11 o;have e0:(vc l k).length+1=(vc l k++[Value.int .i64 (i:Int)]).length:=by simp
      rw[e0] at o;refine ⟨_,trivial,fun c=>?_,close _ _ _ o⟩;rw[Ed,CZ R i hxn V];by_cases hc:c=k
      ·rw[if_pos hc,if_pos hc,hc,hw k,ir]
      ·rw[if_neg hc,if_neg hc,hw c]
     ·clear H hw;rintro l2 u w8 ⟨hw,H⟩;exact ⟨(j+1,l2),by show x.length - (j+1)<x.length - j;omega,⟨up (by omega),trivial⟩,⟨by show j+1≤x.length;omega,hw⟩,H⟩
    ·have:j=x.length:=by omega
     subst this;exact ⟨l,trivial,fun c=>by rw[hw c,Ae q],H⟩
   ·clear H hw;rintro l2 u w6 ⟨hw,H⟩;exact ⟨(i+1,l2),by show R.length - (i+1)<R.length - i;omega,⟨up (by omega),trivial⟩,⟨by show i+1≤R.length;omega,hw⟩,H⟩
  ·have:i=R.length:=by omega
   subst this;exact ⟨l,trivial,hw,H⟩
 clear H;rintro l u w5 ⟨hw,H⟩;have hwl:=CV R;have hlen:∀ c,(vc l c).length=(bu R c).length:=fun c=>by rw[hw c];simp[aA]
 have X:∀ u:World,(pk e9 3 r l).ok u→∀ c,∃ A C,Gs l c=.slice A (bu R c).length C∧Sl u (.slice A (bu R c).length C) 1 (bu R c).length (aA (bu R c)):=fun u hu c=>by
  obtain ⟨A,C,h⟩:=ye hu c;have ho:=bB (wj hu c);rw[h,hlen c,hw c] at ho;rw[hlen c] at h;exact ⟨A,C,h,ho⟩
 have f:∀ (u:World) (c:Int) (A:Option Addr) (C:Nat) (kk:Value→World→Prop),(pk e9 3 r l).ok u→Gs l c=.slice A (bu R c).length C→kk (.slice A (bu R c).length C) u→gL prog 220 (.map (some r)) (.int .i64 c) false u kk:=fun u c A C kk hu G hkk=>
  rS hu JM c (by rw[G];exact hkk)
 refine aw (fun w'=>(∀ c,c<n→na n R ((c:Nat):Int)=false)∧Hp w ab w' [pk e9 3 r l,an g2 137 (mv 0 (.slice none 0 0)).cells,an g1 137 (mc n (.slice A R.length a))] [bj S (.slice A R.length a) R]) ?_ ?_
 ·refine aa (iQ _) ?_;refine H.load 2 rfl aF rfl ?_;refine ax (γ:=Nat) (fun c=>[(49,.int .i64 (c:Int))]) (fun c w'=>(c≤n∧∀ C,C<c→na n R ((C:Nat):Int)=false)∧Hp w ab w' [pk e9 3 r l,an g2 137 (mv 0 (.slice none 0 0)).cells,an g1 137 (mc n (.slice A R.length a))] [bj S (.slice A R.length a) R]) (fun c=>n - c) 0 ⟨rfl,trivial⟩ ⟨⟨Nat.zero_le _,fun i' h=>by omega⟩,H⟩ ?_;clear H;rintro c u w6 ⟨⟨hc,t⟩,H⟩;refine au (fun h7=>?_) (fun h7=>?_)
  ·refine aw (fun w'=>na n R (c:Int)=false∧Hp w ab w' [pk e9 3 r l,an g2 137 (mv 0 (.slice none 0 0)).cells,an g1 137 (mc n (.slice A R.length a))] [bj S (.slice A R.length a) R]) ?_ ?_
   ·obtain ⟨Ac,cc,D,hsc⟩:=X _ (H.get 0 rfl) (c:Int);refine f _ _ _ _ _ (H.get 0 rfl) D ?_;refine ay underlying75 ?_;refine cg (fun h9=>?_) (fun h9=>?_)
    ·exact ⟨(),trivial,ET (by omega),H⟩
    obtain ⟨i0,lw,a3,hi0⟩:=Ab (R:=R) (c:=(c:Int)) (by omega);have K:=EI m a3;obtain ⟨y,hy⟩:∃ y,R[i0]?=some y:=⟨_,List.getElem?_eq_getElem hi0⟩;rw[show R.getD i0 []=y by rw[List.getD_eq_getElem?_getD,hy];rfl] at K;have hyl:=O y (List.mem_of_getElem? hy);obtain ⟨g0,b,rfl⟩:=ha.A (by omega);obtain ⟨By,cy,a4,hsy⟩:=a0 i0 y hy;obtain ⟨gc,oc,rfl⟩:=hsc.A (by omega);have M:∀ u:World,(pk e9 3 r l).ok u→∀ (d:Int) (A:Option Addr) (C:Nat),Gs l d=.slice A (bu R d).length C→Sl u (.slice A (bu R d).length C) 1 (bu R d).length (aA (bu R d)):=fun u hu d A C h=>by
     have ho:=bB (wj hu d)
     rwa [h,hlen d,hw d] at ho
    refine H.draw eO (by kernel_rfl) ?_;clear H;intro w7 H;refine quiet _ (fun w H=>aa (cB _) ae) ?_;refine quiet _ (fun w H=>H.load 2 rfl eA rfl ae) ?_;refine quiet _ (fun w H=>f _ _ _ _ _ (H.get 0 rfl) D ae) ?_;refine quiet _ (fun w H=>ao underlying75 (s:=1) bc 0 rfl (by omega) (o':=oc) (by omega) ae) ?_;refine quiet (.int .i64 (i0:Int)) (fun w H=>aB aF (((M _ (H.get 0 rfl) _ _ _ D).cell 0 (by omega)).trans (by rw[a3];rfl)) ae) ?_;refine quiet _ (fun w H=>ao underlying135 (s:=1) fP i0 rfl (by omega) (o':=b+i0) (by omega) ae) ?_;refine quiet _ (fun w H=>H.dq (i:=i0) ha iP _ rfl a4 ae) ?_;refine quiet _ (fun w H=>ay underlying75 ae) ?_;refine ax (γ:=Nat) (fun j=>[(67,.int .i64 (j:Int))]) (fun j w'=>(j≤y.length∧∀ d ∈ y.take j,o9 R (c:Int) d=false)∧Hp w ab w' [pk e9 3 r l,an g2 137 (mv 0 (.slice none 0 0)).cells,an g1 137 (mc n (.slice (some ⟨g0,b,none⟩) R.length a))] [bj S (.slice (some ⟨g0,b,none⟩) R.length a) R]) (fun j=>y.length - j) 0 ⟨rfl,trivial⟩ ⟨⟨Nat.zero_le _,by simp⟩,H⟩ ?_;clear H hsc;rintro j u w8 ⟨⟨hj,a5⟩,H⟩;refine au (fun h10=>?_) (fun h10=>?_)
    ·obtain ⟨d,hd⟩:∃ d,y[j]?=some d:=⟨_,List.getElem?_eq_getElem (by omega)⟩;obtain ⟨gy,oy,rfl⟩:=hsy.A (by omega);have hgd:(aA y)[j]?=some (.int .i64 d):=by rw[aA,List.getElem?_map,hd];rfl
     refine aw (fun w'=>o9 R (c:Int) d=false∧Hp w ab w' [pk e9 3 r l,an g2 137 (mv 0 (.slice none 0 0)).cells,an g1 137 (mc n (.slice (some ⟨g0,b,none⟩) R.length a))] [bj S (.slice (some ⟨g0,b,none⟩) R.length a) R]) ?_ ?_
     ·refine ak (γ:=Unit) (fun _=>[(11,.int .i64 d)]) (fun _ w'=>Hp.cl H w') ?_ ?_
      ·refine ao underlying75 (s:=1) bc j rfl (by omega) (o':=oy+j) (by omega) ?_;refine H.dq (i:=j) hsy aF _ rfl hgd ?_;exact ⟨(),⟨rfl,trivial⟩,H⟩
      rintro ⟨⟩ u w9 H1;replace H:Hp _ _ _ _ _:=H1;clear H1;obtain ⟨Ad,cd,a6,hsd⟩:=X _ (H.get 0 rfl) d;have p:=CX R (c:Int) d;have hc1:=hwl (c:Int);have hd1:=hwl d;refine aw (fun w'=>o9 R (c:Int) d=true∧Hp w ab w' [pk e9 3 r l,an g2 137 (mv 0 (.slice none 0 0)).cells,an g1 137 (mc n (.slice (some ⟨g0,b,none⟩) R.length a))] [bj S (.slice (some ⟨g0,b,none⟩) R.length a) R]) ?_ ?_
      ·refine ak (γ:=Unit) (fun _=>[(99,.bool (!o9 R (c:Int) d))]) (fun _ w'=>Hp w ab w' [pk e9 3 r l,an g2 137 (mv 0 (.slice none 0 0)).cells,an g1 137 (mc n (.slice (some ⟨g0,b,none⟩) R.length a))] [bj S (.slice (some ⟨g0,b,none⟩) R.length a) R]) ?_ ?_
       ·refine cg (fun Q=>?_) (fun Q=>?_)
        ·refine ag (beq_iff_eq.2 (by assumption)) ?_
         iterate 7 refine ag (beq_iff_eq.2 (by assumption)) ?_
         iterate 12 refine ag rfl ?_
         exact ⟨(),⟨by rw[← p,beq_iff_eq.2 Q];rfl,trivial⟩,H⟩
        ·refine af (beq_eq_false_iff_ne.2 (by assumption)) ?_;refine af (beq_eq_false_iff_ne.2 (by assumption)) ?_;refine f _ (c:Int) _ _ _ (H.get 0 rfl) D ?_
         iterate 3 refine af (beq_eq_false_iff_ne.2 (by assumption)) ?_
         refine f _ d _ _ _ (H.get 0 rfl) a6 ?_;refine af (beq_eq_false_iff_ne.2 (by assumption)) ?_;refine aj (c157 _ _ _ _ _ _ _ (Nat.le_trans hc1 hl) (Nat.le_trans hd1 hl) (M _ (H.get 0 rfl) _ _ _ D) (M _ (H.get 0 rfl) _ _ _ a6)) ?_;rintro _ w42 ⟨rfl,Y⟩;replace H:=H.same Y;clear Y
         iterate 2 refine af (beq_eq_false_iff_ne.2 (by assumption)) ?_
         refine aE (fun T=>?_) (fun T=>?_)
         ·refine ag (by assumption) ?_
          iterate 10 refine ag (by assumption) ?_
          exact ⟨(),⟨by rw[← p,T];cases (d==(c:Int)) <;> rfl,trivial⟩,H⟩
         ·refine af (by assumption) ?_;refine af (by assumption) ?_;refine f _ d _ _ _ (H.get 0 rfl) a6 ?_;refine af (by assumption) ?_;refine ay underlying75 ?_
          iterate 3 refine af (by assumption) ?_
          refine f _ (c:Int) _ _ _ (H.get 0 rfl) D ?_;refine af (by assumption) ?_;refine ay underlying75 ?_
          iterate 2 refine af (by assumption) ?_
          refine cg (fun h72=>?_) (fun h72=>?_)
          ·refine ag (beq_iff_eq.2 (by assumption)) ?_;refine ag (beq_iff_eq.2 (by assumption)) ?_;refine af (by assumption) ?_;refine ag (beq_iff_eq.2 (by assumption)) ?_;refine af (by assumption) ?_;exact ⟨(),⟨by rw[← p,beq_eq_false_iff_ne.2 Q,T,decide_eq_true (show (bu R d).length=(bu R (c:Int)).length by omega)];rfl,trivial⟩,H⟩
          ·refine af (beq_eq_false_iff_ne.2 (by assumption)) ?_;refine af (beq_eq_false_iff_ne.2 (by assumption)) ?_;refine af (by assumption) ?_;refine af (beq_eq_false_iff_ne.2 (by assumption)) ?_;refine af (by assumption) ?_;exact ⟨(),⟨by rw[← p,beq_eq_false_iff_ne.2 Q,T,decide_eq_false (show ¬ (bu R d).length=(bu R (c:Int)).length by omega)];rfl,trivial⟩,H⟩
       ·clear H;rintro ⟨⟩ u w10 H;refine aE (fun Z=>?_) (fun Z=>?_)
        ·exact ⟨(),trivial,by simpa using Z,H⟩
        ·exact ⟨(),trivial,by simpa using Z,H⟩
      ·clear H;rintro ⟨⟩ u w10 ⟨hp',H⟩;have a8:na n R (c:Int)=true:=by
        unfold na;rw[← K,List.any_eq_true.2 ⟨d,List.mem_of_getElem? hd,hp'⟩,a3];rfl
       rw[Aa t (by omega) a8];refine aa (iQ _) ?_;refine H.load 2 rfl aF rfl ?_;refine mg ?_;refine H.alloc 137 dP rfl ?_;clear H;intro g12 w11 H;refine H.storeAll 0 rfl az rfl (fun v G=>da v G) ?_;clear H;intro w12 H;replace H:Hp w ab w12 [an g12 137 (mc n (.slice none 0 0)),pk e9 3 r l,an g2 137 (mv 0 (.slice none 0 0)).cells,an g1 137 (mc n (.slice (some ⟨g0,b,none⟩) R.length a))] [bj S (.slice (some ⟨g0,b,none⟩) R.length a) R]:=H;have o:=((H.bx 75 1).front 1 rfl).z_;clear H;refine ak (γ:=Option Addr × Nat × List Value × (Nat→Prop)) (fun _=>[])
        (fun (B,d,hs,E) w'=>(∀ g,E g→w.heap.size≤g)∧Hp w ab w' [an g12 137 (mc n (.slice B hs.length d)),own 75 1 (.slice B hs.length d) hs.length hs,pk e9 3 r l,an g2 137 (mv 0 (.slice none 0 0)).cells,an g1 137 (mc n (.slice (some ⟨g0,b,none⟩) R.length a))] [dk E hs (bn R (c:Int)),bj S (.slice (some ⟨g0,b,none⟩) R.length a) R]) ?_ ?_
       ·refine aa (cB _) ?_;refine o.load 4 rfl eA rfl ?_;refine ay underlying135 ?_;refine ax (γ:=Nat × Option Addr × Nat × List Value × (Nat→Prop)) (fun (i,_)=>[(106,.int .i64 (i:Int))])
         (fun (i,B,d,hs,E) w'=>(i≤R.length∧hs.length=i∧∀ g,E g→w.heap.size≤g)∧Hp w ab w' [an g12 137 (mc n (.slice B hs.length d)),own 75 1 (.slice B hs.length d) hs.length hs,pk e9 3 r l,an g2 137 (mv 0 (.slice none 0 0)).cells,an g1 137 (mc n (.slice (some ⟨g0,b,none⟩) R.length a))] [dk E hs (bn (R.take i) (c:Int)),bj S (.slice (some ⟨g0,b,none⟩) R.length a) R])
         (fun (i,_)=>R.length - i) (0,none,0,[],fun _=>False) ⟨rfl,trivial⟩ ⟨⟨Nat.zero_le _,rfl,fun g h=>h.elim⟩,o⟩ ?_
        clear o;rintro ⟨i,B,db,hs,E⟩ u w13 ⟨⟨hi,hhl,U⟩,H⟩;refine au (fun h20=>?_) (fun h20=>?_)
        ·obtain ⟨x,q⟩:∃ x,R[i]?=some x:=⟨_,List.getElem?_eq_getElem (by omega)⟩;obtain ⟨Bx,cx,I,J⟩:=a0 i x q;have hxl:=O x (List.mem_of_getElem? q);refine ak (γ:=Option Addr × Nat × List Value × (Nat→Prop)) (fun _=>[])
          (fun (B,d,hs,E) w'=>(hs.length=i+1∧∀ g,E g→w.heap.size≤g)∧Hp w ab w' [an g12 137 (mc n (.slice B hs.length d)),own 75 1 (.slice B hs.length d) hs.length hs,pk e9 3 r l,an g2 137 (mv 0 (.slice none 0 0)).cells,an g1 137 (mc n (.slice (some ⟨g0,b,none⟩) R.length a))] [dk E hs (bn (R.take (i+1)) (c:Int)),bj S (.slice (some ⟨g0,b,none⟩) R.length a) R]) ?_ ?_
         ·refine ak (γ:=Unit) (fun _=>[(14,.slice Bx x.length cx)]) (fun _ w'=>Hp.cl H w') ?_ ?_
          ·refine ao underlying135 (s:=1) fP i rfl (by omega) (o':=b+i) (by omega) ?_;refine H.dq (i:=i) ha iP _ rfl I ?_;exact ⟨(),⟨rfl,trivial⟩,H⟩
          rintro ⟨⟩ u a9 H1;replace H:Hp _ _ _ _ _:=H1;clear H1;refine ak (γ:=Unit) (fun _=>[(15,.slice none 0 0)]) (fun _ w'=>Hp.cl H w') ⟨(),⟨rfl,trivial⟩,H⟩ ?_;rintro ⟨⟩ u a9 H1;replace H:Hp _ _ _ _ _:=H1;clear H1;have o:=H.bx 3 1;clear H;refine ak (γ:=Option Addr × Nat) (fun (z,d2)=>[(15,.slice z (x.filter fun k=>k !=(c:Int)).length d2)])
           (fun (z,d2) w'=>Hp w ab w' [own 3 1 (.slice z (x.filter fun k=>k !=(c:Int)).length d2) (x.filter fun k=>k !=(c:Int)).length (aA (x.filter fun k=>k !=(c:Int))),an g12 137 (mc n (.slice B hs.length db)),own 75 1 (.slice B hs.length db) hs.length hs,pk e9 3 r l,an g2 137 (mv 0 (.slice none 0 0)).cells,an g1 137 (mc n (.slice (some ⟨g0,b,none⟩) R.length a))] [dk E hs (bn (R.take i) (c:Int)),bj S (.slice (some ⟨g0,b,none⟩) R.length a) R]) ?_ ?_
          ·refine ay underlying75 ?_;refine ax (γ:=Nat × Option Addr × Nat) (fun (j,z,d2)=>[(112,.int .i64 (j:Int)),(15,.slice z ((x.take j).filter fun k=>k !=(c:Int)).length d2)])
            (fun (j,z,d2) w'=>j≤x.length∧Hp w ab w' [own 3 1 (.slice z ((x.take j).filter fun k=>k !=(c:Int)).length d2) ((x.take j).filter fun k=>k !=(c:Int)).length (aA ((x.take j).filter fun k=>k !=(c:Int))),an g12 137 (mc n (.slice B hs.length db)),own 75 1 (.slice B hs.length db) hs.length hs,pk e9 3 r l,an g2 137 (mv 0 (.slice none 0 0)).cells,an g1 137 (mc n (.slice (some ⟨g0,b,none⟩) R.length a))] [dk E hs (bn (R.take i) (c:Int)),bj S (.slice (some ⟨g0,b,none⟩) R.length a) R])
            (fun (j,_)=>x.length - j) (0,none,0) ⟨rfl,rfl,trivial⟩ ⟨Nat.zero_le _,o⟩ ?_
           clear o;rintro ⟨j,z,d2⟩ u w15 ⟨hj,H⟩;refine au (fun h21=>?_) (fun h21=>?_)
           ·obtain ⟨k,V⟩:∃ k,x[j]?=some k:=⟨_,List.getElem?_eq_getElem (by omega)⟩;obtain ⟨g3,o3,rfl⟩:=J.A (by omega);have a1:(aA x)[j]?=some (.int .i64 k):=by rw[aA,List.getElem?_map,V];rfl
            have F:=vq (fun k=>k !=(c:Int)) V;have hfl:=List.length_filter_le (fun k=>k !=(c:Int)) (x.take j);rw[List.length_take] at hfl;refine ao underlying75 (s:=1) bc j rfl (by omega) (o':=o3+j) (by omega) ?_;refine H.dq (i:=j) J aF _ rfl a1 ?_;refine aE (fun hb=>?_) (fun hb=>?_)
            ·rw[if_pos hb] at F;refine H.aX dH rfl ?_;clear H;intro g7 w16 H;refine H.cn 0 dH rfl rfl (by omega) (by omega) ?_;clear H;intro B3 d3 w17 H;have e1:((x.take (j+1)).filter fun k=>k !=(c:Int)).length=((x.take j).filter fun k=>k !=(c:Int)).length+1:=by rw[F];simp
             have e2:aA ((x.take (j+1)).filter fun k=>k !=(c:Int))=aA ((x.take j).filter fun k=>k !=(c:Int))++[.int .i64 k]:=by rw[F,ir]
             exact ⟨(j+1,B3,d3),by show x.length - (j+1)<x.length - j;omega,⟨up (by omega),by rw[e1];rfl,trivial⟩,by show j+1≤x.length;omega,by rw[e1,e2];exact H⟩
            ·rw[if_neg (by rw[hb];decide),List.append_nil] at F;exact ⟨(j+1,z,d2),by show x.length - (j+1)<x.length - j;omega,⟨up (by omega),by rw[F];rfl,trivial⟩,by show j+1≤x.length;omega,by rw[F];exact H⟩
           ·have e:x.take j=x:=List.take_of_length_le (by omega);rw[e] at H;exact ⟨(z,d2),⟨congrArg (fun l:List Int=>Value.slice z (l.filter fun k=>k !=(c:Int)).length d2) e,trivial⟩,H⟩
          ·clear o;rintro ⟨z,d2⟩ u w15 H;refine aa (cB _) ?_;refine H.load 1 rfl eA rfl ?_;refine H.aX tC rfl ?_;clear H;intro g7 w16 H;refine H.cn 2 tC rfl rfl (by omega) (by omega) ?_;clear H;intro B3 d3 w17 H;refine aa (cB _) ?_;refine H.store 1 rfl qf (by show 1<2;decide) rfl ?_;clear H;intro w18 H;have e0:hs.length+1=(hs++[Value.slice z (x.filter fun k=>k !=(c:Int)).length d2]).length:=by simp
           obtain ⟨S2,H3,ac⟩:=H.z8 U;rw[← vp q] at H3;rw[e0] at H3;exact ⟨(B3,d3,_,S2),trivial,⟨by rw[← e0];omega,ac⟩,H3⟩
         ·clear H;rintro ⟨B3,d3,hs3,S2⟩ u a9 ⟨⟨hn1,ac⟩,H⟩;exact ⟨(i+1,B3,d3,hs3,S2),by show R.length - (i+1)<R.length - i;omega,⟨up (by omega),trivial⟩,⟨by show i+1≤R.length;omega,hn1,ac⟩,H⟩
        ·have e:R.take i=R:=List.take_of_length_le (by omega);rw[e] at H;exact ⟨(B,db,hs,E),trivial,U,H⟩
       ·clear o;rintro ⟨B,db,hs,E⟩ u w13 ⟨U,H⟩;refine H.ai 0 rfl aL az ?_;refine H.storeAll 3 rfl az rfl (fun v G=>da v G) ?_;clear H;intro a9 H;refine H.ai 3 rfl aL az ?_;refine ⟨rfl,?_⟩;exact ⟨_,rfl,sx H 1 rfl (H.ro 0 rfl) fun g hg=>⟨H.rlt _ (.head _) g hg,.inl (U g hg)⟩⟩
     ·clear H;rintro ⟨⟩ u w9 ⟨Z,H⟩;refine ⟨j+1,by show y.length - (j+1)<y.length - j;omega,⟨up (by omega),trivial⟩,⟨by show j+1≤y.length;omega,fun x q=>?_⟩,H⟩;rw[List.take_add_one,hd] at q;rcases List.mem_append.1 q with q | q
      ·exact a5 x q
      ·obtain rfl:x=d:=by simpa using q
       exact Z
    ·have:j=y.length:=by omega
     subst this;rw[List.take_length] at a5;refine ⟨(),trivial,?_,H⟩;unfold na;rw[← K];have:y.any (fun d=>o9 R (c:Int) d)=false:=by
      rw[Bool.eq_false_iff];intro hh;obtain ⟨x,q,Z⟩:=List.any_eq_true.1 hh;rw[a5 x q] at Z;cases Z
     rw[this,Bool.and_false]
   ·clear H;rintro ⟨⟩ u w7 ⟨hlc,H⟩;exact ⟨c+1,by show n - (c+1)<n - c;omega,⟨up (by omega),trivial⟩,⟨by show c+1≤n;omega,wG t hlc⟩,H⟩
  ·have:c=n:=by omega
   subst this;exact ⟨(),trivial,t,H⟩
 ·clear H;rintro ⟨⟩ u w6 ⟨t,H⟩;rw[CW t];refine H.ai 2 rfl aL az ?_;refine H.storeAll 1 rfl az rfl (fun v G=>da v G) ?_;clear H;intro w7 H;refine H.ai 1 rfl aL az ?_;refine ⟨rfl,?_⟩;exact ⟨_,rfl,H.yA fun g hg=>.inr hg⟩
section
variable {w0 w w':World} {F:Nat→Prop} {L M L2 M2:List cH} {r r':cH}
theorem _root_.Go.Dk.Hp.merge (H:Hp w0 F w L M)(c:Hp w ab w' L2 M2)(j:∀ r ∈ M2,∀ g,r.foot g→w.heap.size≤g∨∃ s ∈ M,s.foot g):Hp w0 F w' (L2++L) (M2++M):=by
 have f:=H.same c.keeps;have b:∀ r ∈ L2,∀ g,r.foot g→w.heap.size≤g:=fun r a g h=>(c.new r a g h).resolve_right id;refine ⟨f.keeps,?_,?_,?_,?_,?_,?_,?_⟩
 ·intro r a;rcases List.mem_append.1 a with a | a
  ·exact c.ok r a
  ·exact f.ok r a
 ·intro r a;rcases List.mem_append.1 a with a | a
  ·exact c.lt r a
  ·exact f.lt r a
 ·intro r a g h;rcases List.mem_append.1 a with a | a
  ·exact .inl (Nat.le_trans H.keeps.size (b r a g h))
  ·exact H.new r a g h
 ·refine List.pairwise_append.2 ⟨c.dis,H.dis,fun r a s hs g e d=>?_⟩;have:=b r a g e;have:=H.lt s hs g d;omega
 ·intro r a;rcases List.mem_append.1 a with a | a
  ·exact c.rok r a
  ·exact f.rok r a
 ·intro r a;rcases List.mem_append.1 a with a | a
  ·exact c.rlt r a
  ·exact f.rlt r a
 ·intro r a s hs g e d;rcases List.mem_append.1 a with a | a
  ·rcases List.mem_append.1 hs with hs | hs
   ·exact c.rdis r a s hs g e d
   ·rcases j r a g e with i | ⟨q,k,i⟩
    ·have:=H.lt s hs g d;omega
    ·exact H.rdis q k s hs g i d
  ·rcases List.mem_append.1 hs with hs | hs
   ·have:=b s hs g d;have:=H.rlt r a g e;omega
   ·exact H.rdis r a s hs g e d
theorem _root_.Go.Dk.Hp.wH (H:Hp w0 F w L M)(n:Nat)(m:L[n]?=some r)(h:jS w w' r r')(s:cH)(hs:s.ok w')(i:∀ g,s.foot g→g<w'.heap.size∧(w.heap.size≤g∨∃ q ∈ M,q.foot g))(o:∀ g,s.foot g→¬ r'.foot g) :
  Hp w0 F w' (L.set n r') (s::M):=by
 have b:=H.b9 n m h;refine ⟨b.keeps,b.ok,b.lt,b.new,b.dis,?_,?_,?_⟩
 ·intro q a;rcases List.mem_cons.1 a with rfl | a
  ·exact hs
  ·exact b.rok q a
 ·intro q a g k;rcases List.mem_cons.1 a with rfl | a
  ·exact (i g k).1
  ·exact b.rlt q a g k
 ·intro q a t c g e d;rcases List.mem_cons.1 a with rfl | a
  ·rcases List.mem_or_eq_of_mem_set c with c | rfl
   ·obtain ⟨j,v,p⟩:=List.getElem_of_mem c;rcases (i g e).2 with l | ⟨u,f,l⟩
    ·have:=H.lt t c g d;omega
    ·exact H.rdis u f t c g l d
   ·exact o g e d
  ·exact b.rdis q a t c g e d
end
def mQ (b:Bool):Value:=.bool b
theorem yC:ld prog 144 3 4 e9 mQ (.bool false):=⟨underlying144,NX,mP,by kernel_rfl⟩
theorem EV:cP prog 144=some false:=by kernel_rfl
def G6 (g1 r:Nat)(cols:Int)(v:Value)(l:List (Int × Bool)):List cH:=[an g1 137 (mc cols v),aP e9 mQ r l]
def wI (g1 r:Nat)(cols:Int)(v:Value)(l:List (Int × Bool)):cH:=sa (G6 g1 r cols v l)
structure BL (S:Nat→Prop) (w w':World) (g1 r:Nat) (cols:Int) (v v':Value) (l l':List (Int × Bool)) (R':a7) (S':Nat→Prop):Prop where
 nc:jS w w' (wI g1 r cols v l) (wI g1 r cols v' l')
 mat:ez S' v' R' w'
 foot:∀ g,S' g→g<w'.heap.size∧(w.heap.size≤g∨S g)
 dis:∀ g,S' g→¬ (wI g1 r cols v' l').foot g
theorem wJ {S:Nat→Prop}{w:World}{g1 r:Nat}{cols:Int}{v:Value}{l:List (Int × Bool)}{R:a7}{M:List cH}(h:(wI g1 r cols v l).ok w)(hm:ez S v R w)(e:∀ g,S g→g<w.heap.size)(f:∀ g,S g→¬ (wI g1 r cols v l).foot g)(c:∀ q ∈ M,q.ok w∧∀ g,q.foot g→g<w.heap.size∧¬ (wI g1 r cols v l).foot g):Hp w (wI g1 r cols v l).foot w [an g1 137 (mc cols v),aP e9 mQ r l] (bj S v R::M):=by
 have d:∀ g,(wI g1 r cols v l).foot g→g<w.heap.size:=fun g ⟨q,a,b⟩=>h.2.1 q a g b;have H:=Hp.rN (M:=bj S v R::M) h d (fun q a=>by
  rcases List.mem_cons.1 a with rfl | a
  ·exact hm
  ·exact (c q a).1) (fun q a g b=>by
  rcases List.mem_cons.1 a with rfl | a
  ·exact e g b
  ·exact ((c q a).2 g b).1) (fun q a g b=>by
  rcases List.mem_cons.1 a with rfl | a
  ·exact f g b
  ·exact ((c q a).2 g b).2)
 have i:=Hp.split (Ls:=G6 g1 r cols v l) (L:=[]) H;simpa [G6] using i
theorem BM {S b:Nat→Prop}{w w':World}{g1 r:Nat}{cols:Int}{v a:Value}{l c:List (Int × Bool)}{f:a7}{M:List cH}(H:Hp w (wI g1 r cols v l).foot w' [an g1 137 (mc cols a),aP e9 mQ r c] (bj b a f::M))(h:∀ g,b g→w.heap.size≤g∨S g):BL S w w' g1 r cols v a l c f b:=by
 have d:Hp w (wI g1 r cols v l).foot w' [wI g1 r cols a c] (bj b a f::M):=Hp.join (Ls:=G6 g1 r cols a c) (L:=[]) (by simpa [G6] using H);exact ⟨d.bg,d.ro 0 rfl,fun g e=>⟨d.rlt _ (.head _) g e,h g e⟩,fun g e=>d.rdis _ (.head _) _ (.head _) g e⟩
def Mc (l:List (Int × Bool)):Option (a7 × Int)→List (Int × Bool)
 | some (_,k)=>dZ l k true
 | none=>l
theorem JO:enters prog 115=true:=by kernel_rfl
theorem NZ (cols:Int)(R:a7)(v:Value)(S:Nat→Prop)(g1 g5 r:Nat)(l:List (Int × Bool))(w:World)(t:R.length≤1000000000)(d:∀ r ∈ R,r.length≤1000000000)(h:(wI g1 r cols v l).ok w)(hm:ez S v R w)(i:∀ g,S g→g<w.heap.size)(u:∀ g,S g→¬ (wI g1 r cols v l).foot g)(j:(an g5 144 #[.map (some r)]).ok w)(e:¬ (wI g1 r cols v l).foot g5) :
  bw prog 115 [(ah g1),(ah g5)] w fun o w'=>∃ m c,o=.bool (mh cols R).isSome∧BL S w w' g1 r cols v m l (Mc l (mh cols R)) (((mh cols R).map (·.1)).getD R) c:=by
 refine ar (N:=17) func115 JO rfl rfl rfl (by simp) ?_;have H:=wJ (M:=[an g5 144 #[.map (some r)]]) h hm i u (fun q n=>by
  rw[List.mem_singleton] at n;subst n;exact ⟨j,fun g x=>by subst x;exact ⟨jj j,e⟩⟩)
 obtain ⟨z,c0,rfl⟩:=hm.form;refine H.ai 0 rfl aL az ?_;refine aj (c116 cols R _ S _ t d hm i) ?_;rintro _ A ⟨m,rfl,y⟩;obtain ⟨c,s,b⟩:=H.gm (.head _) y;clear H;replace H:=s;clear s;obtain ⟨B,C,rfl⟩:=(H.ro 0 rfl).form;refine H.alloc 137 dP rfl ?_;clear H;intro g3 D H;refine H.storeAll 0 rfl az rfl (fun v f=>da v f) ?_;clear H;intro E H;refine H.ai 0 rfl aL az ?_;refine H.storeAll 1 rfl az rfl (fun v f=>da v f) ?_;clear H;intro F H;have a:=H.forget;clear H
 cases ht:mh cols R with
 | none=>
  rw[ht] at a;refine af rfl ?_;exact ⟨_,c,rfl,BM a b⟩
 | some p=>
  obtain ⟨G,k⟩:=p;rw[ht] at a;refine ag rfl ?_;refine jZ (a.ro 2 rfl) EV rfl ?_;refine a.iI 1 rfl yC k true ?_;clear a;intro I H;exact ⟨_,c,rfl,BM H b⟩
theorem JP:enters prog 117=true:=by kernel_rfl
theorem c117 (cols:Int)(R:a7)(v:Value)(S:Nat→Prop)(g1 r:Nat)(l:List (Int × Bool))(w:World)(j:R.length≤1000000000)(a:∀ r ∈ R,r.length≤1000000000)(h:(wI g1 r cols v l).ok w)(hm:ez S v R w)(e:∀ g,S g→g<w.heap.size)(k:∀ g,S g→¬ (wI g1 r cols v l).foot g) :
  bw prog 117 [(ah g1)] w fun o w'=>∃ f b,o=.bool (pb cols R).isSome∧BL S w w' g1 r cols v f l l ((pb cols R).getD R) b:=by
 refine ar (N:=11) func117 JP rfl rfl rfl (by simp) ?_;have H:=wJ (M:=[]) h hm e k (by simp);obtain ⟨n,c0,rfl⟩:=hm.form;refine H.ai 0 rfl aL az ?_;refine aj (NW cols R _ S _ j a hm e) ?_;rintro _ p ⟨f,rfl,m⟩;obtain ⟨b,i,c⟩:=H.gm (.head _) m;clear H;replace H:=i;clear i;obtain ⟨q,s,rfl⟩:=(H.ro 0 rfl).form;refine H.alloc 137 dP rfl ?_;clear H;intro g3 t H;refine H.storeAll 0 rfl az rfl (fun v d=>da v d) ?_;clear H;intro u H;refine H.ai 0 rfl aL az ?_;refine H.storeAll 1 rfl az rfl (fun v d=>da v d) ?_;clear H;intro x H;exact ⟨_,b,rfl,BM H.forget c⟩
theorem JQ:enters prog 119=true:=by kernel_rfl
theorem c119 (cols:Int)(R:a7)(v:Value)(S:Nat→Prop)(g1 r:Nat)(l:List (Int × Bool))(w:World)(j:R.length≤1000000000)(a:∀ r ∈ R,r.length≤1000000000)(h:(wI g1 r cols v l).ok w)(hm:ez S v R w)(e:∀ g,S g→g<w.heap.size)(k:∀ g,S g→¬ (wI g1 r cols v l).foot g) :
  bw prog 119 [(ah g1)] w fun o w'=>∃ f b,o=.bool (pe cols R).isSome∧BL S w w' g1 r cols v f l l ((pe cols R).getD R) b:=by
 refine ar (N:=11) func119 JQ rfl rfl rfl (by simp) ?_;have H:=wJ (M:=[]) h hm e k (by simp);obtain ⟨n,c0,rfl⟩:=hm.form;refine H.ai 0 rfl aL az ?_;refine aj (NY cols R _ S _ j a hm e) ?_;rintro _ p ⟨f,rfl,m⟩;obtain ⟨b,i,c⟩:=H.gm (.head _) m;clear H;replace H:=i;clear i;obtain ⟨q,s,rfl⟩:=(H.ro 0 rfl).form;refine H.alloc 137 dP rfl ?_;clear H;intro g3 t H;refine H.storeAll 0 rfl az rfl (fun v d=>da v d) ?_;clear H;intro u H;refine H.ai 0 rfl aL az ?_;refine H.storeAll 1 rfl az rfl (fun v d=>da v d) ?_;clear H;intro x H;exact ⟨_,b,rfl,BM H.forget c⟩
theorem _root_.Go.Dk.Hp.only {w0 w:World}{F:Nat→Prop}{L M:List cH}{r:cH}(H:Hp w0 F w (r::L) M):Hp w0 F w [r] M:=by
 have hm:∀ s,s ∈ [r]→s ∈ r::L:=fun s hs=>by rw[List.mem_singleton] at hs;subst hs;exact .head _
 exact ⟨H.keeps,fun s hs=>H.ok s (hm s hs),fun s hs=>H.lt s (hm s hs),fun s hs=>H.new s (hm s hs),List.pairwise_singleton _ _,H.rok,H.rlt,fun q a s hs=>H.rdis q a s (hm s hs)⟩
theorem _root_.Go.Dk.Hp.tF {w0 w:World}{F:Nat→Prop}{L M:List cH}{r:cH}(H:Hp w0 F w L (r::M)):Hp w0 F w L [r]:=H.ey fun q a=>by rw[List.mem_singleton] at a;subst a;exact .head _
theorem N0:qI prog 180 25 .nilFunc 1 8:=⟨underlying180,by kernel_rfl,rfl,by decide⟩
theorem EW:cP prog 25=some false:=by kernel_rfl
theorem Af:bE prog 25=some 1:=by kernel_rfl
theorem G7:eL prog 144=some (.map none):=by kernel_rfl
theorem G8:bE prog 144=some 1:=by kernel_rfl
theorem C0 {w:World}{kk:Value→World→Prop}(h:kk (mv 0 (.slice none 0 0)) w):b8 prog 137 [] w kk:=bt (fun w=>by kernel_rfl) h
def uO (cols:Int)(R:a7):List Int:=if cD cols R then a8 cols.toNat (c_ cols.toNat (R,[])).2 else []
def Ag (cols:Int)(R:a7):a7:=if cD cols R then (c_ cols.toNat (R,[])).1 else []
def Ah (cols:Int)(R:a7):Int:=if cD cols R then cols else 0
def Ai (cols:Int)(R:a7):Int:=if cD cols R then 0 else 1
def BN (l:List (Int × Bool))(T:List Int):Prop:=∀ c,bS l c=if c ∈ T then some true else none
theorem BN.add {l:List (Int × Bool)}{T:List Int}(h:BN l T)(k:Int):BN (dZ l k true) (T++[k]):=fun c=>by
 rw[fg,h c];by_cases a:c=k
 ·subst a;simp
 ·simp[a]
theorem JR (S:Nat→Prop)(w:World):ez S (.slice none 0 0) [] w:=⟨none,0,[],rfl,⟨rfl,none,0,rfl,Nat.le_refl _,.inl rfl⟩,fun i u a h=>by simp at h⟩
theorem tG {cols:Nat}{s a:a7 × List Int}{k:Nat}(h:dj cols (cr cols s k)=some a):cr cols s (k+1)=a:=by
 show (dj cols (cr cols s k)).getD (cr cols s k)=a;rw[h];rfl
def EX (g1 g5:Nat):Array Value:=#[.func (.func 115) #[] #[(ah g1),(ah g5)],.func (.func 117) #[] #[(ah g1)],.func (.func 119) #[] #[(ah g1)]]
def q9 (g1 r g7 g5 g3:Nat)(n:Int)(v:Value)(l:List (Int × Bool)):List cH:=[an g1 137 (mc n v),aP e9 mQ r l,an g7 25 (EX g1 g5),an g5 144 #[.map (some r)],an g3 137 (mv 0 (.slice none 0 0)).cells]
theorem Md:enters prog 88=true:=by kernel_rfl
theorem OP (cols:Int)(R:a7)(v1:Value)(S:Nat→Prop)(w:World)(hl:R.length≤1000000000)(hlr:∀ r ∈ R,r.length≤1000000000)(h1:ez S v1 R w)(hS:∀ g,S g→g<w.heap.size) :
  bw prog 88 [mv cols v1] w fun o w'=>∃ B d C a,o=.tuple #[.slice B (uO cols R).length d,mv (Ah cols R) C,.int .i64 (Ai cols R)]∧
   Hp w ab w' [own 3 1 (.slice B (uO cols R).length d) (uO cols R).length (aA (uO cols R))] [bj a C (Ag cols R)]∧∀ g,a g→w.heap.size≤g∨S g:=by
 refine ar (N:=44) func88 Md rfl rfl rfl (by simp) ?_;have H:=pv h1 hS;have h1':j5 w v1 R:=bj.mono h1 hS;obtain ⟨A,ca,rfl⟩:=h1.form;refine H.box 137 (mv _ _) (cs:=mc _ _) rfl ?_;clear H;intro g1 w1 H;refine H.alloc 137 dP rfl ?_;clear H;intro g3 w2 H;refine H.ai 1 rfl aL az ?_;refine aj (EF cols R _ _ hl hlr (h1'.same H.keeps)) ?_;rintro _ w3 ⟨rfl,hk⟩;replace H:=H.same hk;clear hk;refine aE (fun hr=>?_) (fun hr=>?_)
 ·have U:cD cols R=false:=by simpa using hr
  have Z:uO cols R=[]:=by unfold uO;rw[U];rfl
  have e2:Ag cols R=[]:=by unfold Ag;rw[U];rfl
  have e3:Ah cols R=0:=by unfold Ah;rw[U];rfl
  have e4:Ai cols R=1:=by unfold Ai;rw[U];rfl
  rw[Z,e2,e3,e4];refine C0 ?_;refine H.storeAll 0 rfl az rfl (fun v hv=>da v hv) ?_;clear H;intro w4 H;refine H.ai 0 rfl aL az ?_;refine ⟨rfl,?_⟩;have b:=((H.pU (aS.refl _ _) (bj (fun _=>False) (.slice none 0 0) []) (JR _ _) fun g e=>e.elim).ey (M':=[bj (fun _=>False) (.slice none 0 0) []]) (by simp)).bx 3 1;exact ⟨none,0,_,fun _=>False,rfl,b.only,fun g e=>e.elim⟩
 have O:cD cols R=true:=by simpa using hr
 have D:=gC.1 O;obtain ⟨n,rfl⟩:∃ n:Nat,cols=n:=⟨cols.toNat,by have:=D.ge;omega⟩;have hn4:n≤4000:=by have:=D.le;omega
 have Z:uO n R=a8 n (c_ n (R,[])).2:=by unfold uO;rw[O,Int.toNat_natCast];rfl
 have e2:Ag n R=(c_ n (R,[])).1:=by unfold Ag;rw[O,Int.toNat_natCast];rfl
 have e3:Ah n R=n:=by unfold Ah;rw[O];rfl
 have e4:Ai n R=0:=by unfold Ai;rw[O];rfl
 rw[Z,e2,e3,e4];clear Z e2 e3 e4;refine H.makeMap e9 mQ ?_;clear H;intro r w4 H;refine H.alloc 144 G7 rfl ?_;clear H;intro g5 w5 H;refine H.store 0 rfl G8 (by show 0<1;decide) rfl ?_;clear H;intro w6 H;replace H:=(H.front 1 rfl).front 3 rfl;replace H:Hp w ab w6 [an g1 137 (mc n (.slice A R.length ca)),aP e9 mQ r [],an g5 144 #[.map (some r)],an g3 137 (mv 0 (.slice none 0 0)).cells] [bj S (.slice A R.length ca) R]:=H;refine nN ?_;refine nN ?_;refine nN ?_;refine H.bf N0 (cs:=EX g1 g5) (by decide) (by decide) (by kernel_rfl) ?_;clear H;intro g7 w7 H;replace H:=(H.front 2 rfl).front 2 rfl;replace H:Hp w ab w7 (q9 g1 r g7 g5 g3 n (.slice A R.length ca) []) [bj S (.slice A R.length ca) R]:=H;have hrun:∀ k,er n (cr n (R,[]) k).1∧(cr n (R,[]) k).1.length≤1000000000∧∀ x ∈ (cr n (R,[]) k).1,x.length≤1000000000:=fun k=>by
  have h1:=(sr D k).right;have h2:(cr n (R,[]) k).1.length≤R.length:=oD (s:=(R,[])) k;exact ⟨h1,by omega,fun x hx=>by have:=oE h1 hx;omega⟩
 refine aw (fun w'=>Hp.cl H w') ⟨(),trivial,H⟩ ?_;rintro ⟨⟩ u w8 H1;replace H:Hp _ _ _ _ _:=H1;clear H1;refine ak (γ:=Value × (Nat→Prop) × List (Int × Bool)) (fun _=>[])
  (fun (v,a,l) w'=>(BN l (c_ n (R,[])).2∧∀ g,a g→w.heap.size≤g∨S g)∧Hp w ab w' (q9 g1 r g7 g5 g3 n v l) [bj a v (c_ n (R,[])).1]) ?_ ?_
 ·refine ax (γ:=Nat × Value × (Nat→Prop) × List (Int × Bool)) (fun _=>[])
   (fun (k,v,a,l) w'=>(BN l (cr n (R,[]) k).2∧∀ g,a g→w.heap.size≤g∨S g)∧Hp w ab w' (q9 g1 r g7 g5 g3 n v l) [bj a v (cr n (R,[]) k).1])
   (fun (k,_)=>eu (cr n (R,[]) k).1) (0,.slice A R.length ca,S,[]) trivial ⟨⟨fun c=>rfl,fun g e=>.inr e⟩,H⟩ ?_
  clear H;rintro ⟨k,v,a,l⟩ u w8 ⟨⟨y,m⟩,H⟩;obtain ⟨hr1,a0,Q⟩:=hrun k;have a1:=gC.2 hr1;refine ak (γ:=Value × (Nat→Prop)) (fun _=>[])
   (fun (v,a) w'=>(dj n (cr n (R,[]) k)=none∧∀ g,a g→w.heap.size≤g∨S g)∧Hp w ab w' (q9 g1 r g7 g5 g3 n v l) [bj a v (cr n (R,[]) k).1]) ?_ ?_
  ·refine ay underlying180 ?_;refine ax (γ:=Nat × Value × (Nat→Prop)) (fun (j,_)=>[(22,.int .i64 (j:Int))])
    (fun (j,v,a) w'=>(j≤3∧(0<j→lQ (cr n (R,[]) k).1=none)∧(1<j→lR (cr n (R,[]) k).1=none)∧(2<j→jK n (cr n (R,[]) k).1=none)∧∀ g,a g→w.heap.size≤g∨S g)∧
     Hp w ab w' (q9 g1 r g7 g5 g3 n v l) [bj a v (cr n (R,[]) k).1])
    (fun (j,_)=>3 - j) (0,v,a) ⟨rfl,trivial⟩ ⟨⟨by decide,fun h=>by omega,fun h=>by omega,fun h=>by omega,m⟩,H⟩ ?_
   clear H m;rintro ⟨j,v,a⟩ u w9 ⟨⟨hj,a2,hj1,hj2,m⟩,H⟩;replace H:Hp w ab w9 (q9 g1 r g7 g5 g3 n v l) [bj a v (cr n (R,[]) k).1]:=H;refine au (fun h7=>?_) (fun h7=>?_)
   ·have q:Hp w ab w9 [wI g1 r n v l,an g7 25 (EX g1 g5),an g5 144 #[.map (some r)],an g3 137 (mv 0 (.slice none 0 0)).cells] [bj a v (cr n (R,[]) k).1]:=Hp.join (Ls:=G6 g1 r n v l) H;clear H;have hj3:j=0∨j=1∨j=2:=by omega
    rcases hj3 with rfl | rfl | rfl
    ·refine ao underlying180 (s:=1) Af 0 rfl (by omega) (o':=0) (by omega) ?_;refine q.load 1 rfl EW rfl ?_;refine qg (NZ n _ v a g1 g5 r l _ a0 Q (q.get 0 rfl) (q.ro 0 rfl) (q.rlt _ (.head _)) (fun g e=>q.rdis _ (.head _) _ (.head _) g e) (q.get 2 rfl) (fun e=>(List.pairwise_cons.1 q.dis).1 _ (.tail _ (.head _)) g5 e rfl)) ?_;rintro _ F ⟨C,I,rfl,st⟩;have b:=(q.wH 0 rfl st.nc (bj I C _) st.mat (fun g e=>⟨(st.foot g e).1,(st.foot g e).2.imp id fun h=>⟨_,.head _,h⟩⟩) st.dis).tF;have G:∀ g,I g→w.heap.size≤g∨S g:=fun g e=>by
      rcases (st.foot g e).2 with h | h
      ·exact .inl (Nat.le_trans q.keeps.size h)
      ·exact m g h
     replace b:Hp w ab F (q9 g1 r g7 g5 g3 n C _) _:=Hp.split (Ls:=G6 g1 r n C _) b;have T:mh n (cr n (R,[]) k).1=lQ (cr n (R,[]) k).1:=by unfold mh;rw[if_pos a1]
     rw[T] at b ⊢
     cases V:lQ (cr n (R,[]) k).1 with
     | none=>
      rw[V] at b;refine af rfl ?_;exact ⟨(1,C,I),by show 3 - 1<3 - 0;decide,⟨up (i:=0) (by omega),trivial⟩,⟨by decide,fun _=>rfl,fun h=>by omega,fun h=>by omega,G⟩,b⟩
     | some p=>
      obtain ⟨R',c⟩:=p;rw[V] at b;have z:dj n (cr n (R,[]) k)=some (R',(cr n (R,[]) k).2++[c]):=by unfold dj;rw[V]
      have hm:=oa z;have t:=tG z;refine ag rfl ?_;refine ⟨(k+1,C,I,dZ l c true),?_,trivial,⟨?_,G⟩,?_⟩
      ·show eu (cr n (R,[]) (k+1)).1<eu (cr n (R,[]) k).1;rw[t];exact hm
      ·rw[t];exact y.add c
      ·rw[t];exact b
    ·have V:=a2 (by decide);refine ao underlying180 (s:=1) Af 1 rfl (by omega) (o':=1) (by omega) ?_;refine q.load 1 rfl EW rfl ?_;refine qg (c117 n _ v a g1 r l _ a0 Q (q.get 0 rfl) (q.ro 0 rfl) (q.rlt _ (.head _)) (fun g e=>q.rdis _ (.head _) _ (.head _) g e)) ?_;rintro _ F ⟨C,I,rfl,st⟩;have b:=(q.wH 0 rfl st.nc (bj I C _) st.mat (fun g e=>⟨(st.foot g e).1,(st.foot g e).2.imp id fun h=>⟨_,.head _,h⟩⟩) st.dis).tF;have G:∀ g,I g→w.heap.size≤g∨S g:=fun g e=>by
      rcases (st.foot g e).2 with h | h
      ·exact .inl (Nat.le_trans q.keeps.size h)
      ·exact m g h
     replace b:Hp w ab F (q9 g1 r g7 g5 g3 n C _) _:=Hp.split (Ls:=G6 g1 r n C _) b;have T:pb n (cr n (R,[]) k).1=lR (cr n (R,[]) k).1:=by unfold pb;rw[if_pos a1]
     rw[T] at b ⊢
     cases J:lR (cr n (R,[]) k).1 with
     | none=>
      rw[J] at b;refine af rfl ?_;exact ⟨(2,C,I),by show 3 - 2<3 - 1;decide,⟨up (i:=1) (by omega),trivial⟩,⟨by decide,fun _=>V,fun _=>rfl,fun h=>by omega,G⟩,b⟩
     | some R'=>
      rw[J] at b;have z:dj n (cr n (R,[]) k)=some (R',(cr n (R,[]) k).2):=by unfold dj;rw[V,J]
      have hm:=oa z;have t:=tG z;refine ag rfl ?_;refine ⟨(k+1,C,I,l),?_,trivial,⟨?_,G⟩,?_⟩
      ·show eu (cr n (R,[]) (k+1)).1<eu (cr n (R,[]) k).1;rw[t];exact hm
      ·rw[t];exact y
      ·rw[t];exact b
    ·have V:=a2 (by decide);have J:=hj1 (by decide);refine ao underlying180 (s:=1) Af 2 rfl (by omega) (o':=2) (by omega) ?_;refine q.load 1 rfl EW rfl ?_;refine qg (c119 n _ v a g1 r l _ a0 Q (q.get 0 rfl) (q.ro 0 rfl) (q.rlt _ (.head _)) (fun g e=>q.rdis _ (.head _) _ (.head _) g e)) ?_;rintro _ F ⟨C,I,rfl,st⟩;have b:=(q.wH 0 rfl st.nc (bj I C _) st.mat (fun g e=>⟨(st.foot g e).1,(st.foot g e).2.imp id fun h=>⟨_,.head _,h⟩⟩) st.dis).tF;have G:∀ g,I g→w.heap.size≤g∨S g:=fun g e=>by
      rcases (st.foot g e).2 with h | h
      ·exact .inl (Nat.le_trans q.keeps.size h)
      ·exact m g h
     replace b:Hp w ab F (q9 g1 r g7 g5 g3 n C _) _:=Hp.split (Ls:=G6 g1 r n C _) b;have T:pe n (cr n (R,[]) k).1=jK n (cr n (R,[]) k).1:=by unfold pe;rw[if_pos a1,Int.toNat_natCast]
     rw[T] at b ⊢
     cases hco:jK n (cr n (R,[]) k).1 with
     | none=>
      rw[hco] at b;refine af rfl ?_;exact ⟨(3,C,I),by show 3 - 3<3 - 2;decide,⟨up (i:=2) (by omega),trivial⟩,⟨by decide,fun _=>V,fun _=>J,fun _=>rfl,G⟩,b⟩
     | some R'=>
      rw[hco] at b;have z:dj n (cr n (R,[]) k)=some (R',(cr n (R,[]) k).2):=by unfold dj;rw[V,J,hco];rfl
      have hm:=oa z;have t:=tG z;refine ag rfl ?_;refine ⟨(k+1,C,I,l),?_,trivial,⟨?_,G⟩,?_⟩
      ·show eu (cr n (R,[]) (k+1)).1<eu (cr n (R,[]) k).1;rw[t];exact hm
      ·rw[t];exact y
      ·rw[t];exact b
   ·have:j=3:=by omega
    subst this;refine ⟨(v,a),trivial,⟨?_,m⟩,H⟩;unfold dj;rw[a2 (by decide),hj1 (by decide),hj2 (by decide)];rfl
  ·clear H m;rintro ⟨v,a⟩ u w9 ⟨⟨z,m⟩,H⟩;have he:=JE z;rw[he] at y H;exact ⟨(v,a,l),trivial,⟨y,m⟩,H⟩
 clear H;rintro ⟨v,a,l⟩ u w8 ⟨⟨y,m⟩,H⟩;replace H:Hp w ab w8 (q9 g1 r g7 g5 g3 n v l) [bj a v (c_ n (R,[])).1]:=H;obtain ⟨X,Y,rfl⟩:=(H.ro 0 rfl).form;generalize c_ n (R,[])=E at H y ⊢;obtain ⟨K,f⟩:=E;have b:=H.bx 3 1;clear H;simp only at b y ⊢;have hrl:∀ c,(a8 c f).length≤c:=fun c=>fz c f;refine ak (γ:=Option Addr × Nat) (fun (B,d)=>[(6,.slice B (a8 n f).length d)])
  (fun (B,d) w'=>Hp w ab w' (own 3 1 (.slice B (a8 n f).length d) (a8 n f).length (aA (a8 n f))::q9 g1 r g7 g5 g3 n (.slice X K.length Y) l) [bj a (.slice X K.length Y) K]) ?_ ?_
 ·refine aa (iQ _) ?_;refine b.load 1 rfl aF rfl ?_;refine ax (γ:=Nat × Option Addr × Nat) (fun (c,B,d)=>[(31,.int .i64 (c:Int)),(6,.slice B (a8 c f).length d)])
   (fun (c,B,d) w'=>c≤n∧Hp w ab w' (own 3 1 (.slice B (a8 c f).length d) (a8 c f).length (aA (a8 c f))::q9 g1 r g7 g5 g3 n (.slice X K.length Y) l) [bj a (.slice X K.length Y) K])
   (fun (c,_)=>n - c) (0,none,0) ⟨rfl,rfl,trivial⟩ ⟨Nat.zero_le _,b⟩ ?_
  clear b;rintro ⟨c,B,d⟩ u w9 ⟨hc,H⟩;refine au (fun h7=>?_) (fun h7=>?_)
  ·have M:=tu c f;have hcl:=hrl c;refine ak (γ:=Option Addr × Nat) (fun (B,d)=>[(6,.slice B (a8 (c+1) f).length d)])
    (fun (B,d) w'=>Hp w ab w' (own 3 1 (.slice B (a8 (c+1) f).length d) (a8 (c+1) f).length (aA (a8 (c+1) f))::q9 g1 r g7 g5 g3 n (.slice X K.length Y) l) [bj a (.slice X K.length Y) K]) ?_ ?_
   ·refine ak (γ:=Unit) (fun _=>[(10,.int .i64 (c:Int))]) (fun _ w'=>Hp.cl H w') ⟨(),⟨rfl,trivial⟩,H⟩ ?_;rintro ⟨⟩ u F H1;replace H:Hp _ _ _ _ _:=H1;clear H1;refine H.load 4 rfl EV rfl ?_;refine H.lookup 2 rfl yC (c:Int) ?_;by_cases hm:(c:Int) ∈ f
    ·rw[if_pos hm] at M;rw[y,if_pos hm];refine ag rfl ?_;refine H.aX dH rfl ?_;clear H;intro g11 w11 H;refine H.cn 0 dH rfl rfl (by omega) (by omega) ?_;clear H;intro B2 d2 w12 H;have Z:(a8 (c+1) f).length=(a8 c f).length+1:=by rw[M];simp
     have e2:aA (a8 (c+1) f)=aA (a8 c f)++[.int .i64 (c:Int)]:=by rw[M,ir]
     exact ⟨(B2,d2),⟨by rw[Z];rfl,trivial⟩,by rw[Z,e2];exact H⟩
    ·rw[if_neg hm,List.append_nil] at M;rw[y,if_neg hm];refine af rfl ?_;exact ⟨(B,d),⟨by rw[M];rfl,trivial⟩,by rw[M];exact H⟩
   ·clear H;rintro ⟨B2,d2⟩ u F H;exact ⟨(c+1,B2,d2),by show n - (c+1)<n - c;omega,⟨up (by omega),rfl,trivial⟩,by show c+1≤n;omega,H⟩
  ·have:c=n:=by omega
   subst this;exact ⟨(B,d),⟨rfl,trivial⟩,H⟩
 clear b;rintro ⟨B,d⟩ u w9 H;replace H:Hp w ab w9 [own 3 1 (.slice B (a8 n f).length d) (a8 n f).length (aA (a8 n f)),an g1 137 (mc n (.slice X K.length Y)),aP e9 mQ r l,an g7 25 (EX g1 g5),an g5 144 #[.map (some r)],an g3 137 (mv 0 (.slice none 0 0)).cells] [bj a (.slice X K.length Y) K]:=H;refine H.fp [own 3 1 (.slice B (a8 n f).length d) (a8 n f).length (aA (a8 n f)),an g1 137 (mc n (.slice X K.length Y)),aP e9 mQ r l,an g7 25 (EX g1 g5),an g5 144 #[.map (some r)]] (fun u H=>(H.front 5 rfl).forget) eO (by kernel_rfl) ?_;clear H;intro F H;refine quiet _ (fun w H=>H.ai 1 rfl aL az ae) ?_;refine H.storeAll 5 rfl az rfl (fun v hv=>da v hv) ?_;clear H;intro w11 H;refine ⟨.inl (H.front 5 rfl).forget,?_⟩;refine H.ai 5 rfl aL az ?_;refine ⟨rfl,?_⟩;exact ⟨B,d,_,a,rfl,H.only,m⟩
theorem BO {n:Nat}{R:a7}(h:cD n R=true):uO n R=a8 n (c_ n (R,[])).2∧Ag n R=(c_ n (R,[])).1∧Ah n R=n∧Ai n R=0:=by
 unfold uO Ag Ah Ai;rw[h,Int.toNat_natCast];exact ⟨rfl,rfl,rfl,rfl⟩
theorem C1 {l:List Int}{i:Nat}{x:Int}(p:Int→Bool)(a:l[i]?=some x):(l.take (i+1)).any p=((l.take i).any p||p x):=by
 rw[List.take_add_one,a];simp
theorem C3 {l:List Int}{i:Nat}{x:Int}(k:Int)(a:l[i]?=some x):decide (k ∈ l.take (i+1))=(decide (k ∈ l.take i)||(k==x)):=by
 rw[List.take_add_one,a,Bool.eq_iff_iff];simp
theorem qj (a b:List Int):aA (a++b)=aA a++aA b:=by simp[aA]
theorem cV (l:List Int):∀ u ∈ aA l,u.oneCell'=true:=fun u hu=>by
 obtain ⟨k,_,rfl⟩:=List.mem_map.1 hu;rfl
theorem C4 {α:Type}{l:List α}{i:Nat}{x:α}(a:l[i]?=some x):l.drop i=x::l.drop (i+1):=by
 obtain ⟨hi,rfl⟩:=List.getElem?_eq_some_iff.1 a;exact List.drop_eq_getElem_cons hi
theorem BN.get {l:List (Int × Bool)}{T:List Int}(h:BN l T)(k:Int):((bS l k).map mQ).getD (.bool false)=.bool (decide (k ∈ T)):=by
 rw[h k];by_cases a:k ∈ T
 ·rw[if_pos a,decide_eq_true a];rfl
 ·rw[if_neg a,decide_eq_false a];rfl
theorem C5 {R:a7}{r used:List Int}(h:(r.any fun k=>decide (k ∈ used))=true):eG (r::R) used=eG R used:=by
 show (if _ then _ else _)=_;rw[if_pos h]
theorem C6 {R:a7}{r used:List Int}(h:(r.any fun k=>decide (k ∈ used))=false):eG (r::R) used=eG R (used++r)+1:=by
 show (if _ then _ else _)=_;rw[if_neg (by rw[h];decide)]
theorem JS:enters prog 123=true:=by kernel_rfl
theorem N1 (cols:Int)(R:a7)(v1:Value)(w:World)(hl:R.length≤1000000000)(y:∀ r ∈ R,r.length≤1000000000)(Q:j5 w v1 R) :
  bw prog 123 [mv cols v1] w fun v w'=>v=.int .i64 ((eG R []:Nat):Int)∧aT w w':=by
 refine ar (N:=42) func123 JS rfl rfl rfl (by simp) ?_;have H:=Hp.aC w;obtain ⟨A,d,va,rfl,I,z⟩:=Q.rV;have S:=qa R [];refine ak (γ:=Nat) (fun g1=>[(1,(ah g1))]) (fun g1 w'=>Hp w ab w' [an g1 137 (mc cols (.slice A R.length d))] []) ?_ ?_
 ·refine H.box 137 (mv _ _) (cs:=mc _ _) rfl ?_;clear H;intro g1 T H;exact ⟨g1,⟨rfl,trivial⟩,H⟩
 clear H;rintro g1 u T H;refine ak (γ:=Nat) (fun r=>[(3,.map (some r))]) (fun r w'=>Hp w ab w' [aP e9 mQ r [],an g1 137 (mc cols (.slice A R.length d))] []) ?_ ?_
 ·refine H.makeMap e9 mQ ?_;clear H;intro r J H;exact ⟨r,⟨rfl,trivial⟩,H⟩
 clear H;rintro r u K H;refine ak (γ:=Unit) (fun _=>[(4,.int .i64 0)]) (fun _ w'=>Hp.cl H w') ⟨(),⟨rfl,trivial⟩,H⟩ ?_;rintro ⟨⟩ u K H1;replace H:Hp _ _ _ _ _:=H1;clear H1;refine aw (fun w'=>Hp w ab w' [aP e9 mQ r [],an g1 137 (mc cols (.slice A R.length d))] []) ⟨(),trivial,H⟩ ?_;clear H;rintro ⟨⟩ u K H;refine ak (γ:=List (Int × Bool)) (fun _=>[(4,.int .i64 ((eG R []:Nat):Int))]) (fun l w'=>Hp w ab w' [aP e9 mQ r l,an g1 137 (mc cols (.slice A R.length d))] []) ?_ ?_
 ·refine aa (cB _) ?_;refine H.load 1 rfl eA rfl ?_;refine ay underlying135 ?_;refine ax (γ:=Nat × Nat × List Int × List (Int × Bool)) (fun (i,n,_)=>[(15,.int .i64 (i:Int)),(4,.int .i64 (n:Int))])
   (fun (i,n,used,l) w'=>(i≤R.length∧n+eG (R.drop i) used=eG R []∧BN l used)∧Hp w ab w' [aP e9 mQ r l,an g1 137 (mc cols (.slice A R.length d))] [])
   (fun (i,_)=>R.length - i) (0,0,[],[]) ⟨rfl,rfl,trivial⟩ ⟨⟨Nat.zero_le _,by simp,fun c=>rfl⟩,H⟩ ?_
  clear H;rintro ⟨i,n,used,l⟩ u J ⟨⟨hi,f,a⟩,H⟩;refine au (fun U=>?_) (fun U=>?_)
  ·obtain ⟨x,B⟩:∃ x,R[i]?=some x:=⟨_,List.getElem?_eq_getElem (by omega)⟩;obtain ⟨g0,g,rfl⟩:=I.A (by omega);obtain ⟨V,X,q,h⟩:=z i x B;have Y:=y x (List.mem_of_getElem? B);rw[C4 B] at f;refine ak (γ:=Nat × List Int × List (Int × Bool)) (fun (n,_)=>[(4,.int .i64 (n:Int))]) (fun (n,used,l) w'=>(n+eG (R.drop (i+1)) used=eG R []∧BN l used)∧Hp w ab w' [aP e9 mQ r l,an g1 137 (mc cols (.slice (some ⟨g0,g,none⟩) R.length d))] []) ?_ ?_
   ·refine ak (γ:=Unit) (fun _=>[(6,.slice V x.length X)]) (fun _ w'=>Hp.cl H w') ?_ ?_
    ·refine ao underlying135 (s:=1) fP i rfl (by omega) (o':=g+i) (by omega) ?_;refine H.dq (i:=i) I iP _ rfl q ?_;exact ⟨(),⟨rfl,trivial⟩,H⟩
    rintro ⟨⟩ u M H1;replace H:Hp w ab M [aP e9 mQ r l,an g1 137 (mc cols (.slice (some ⟨g0,g,none⟩) R.length d))] []:=H1;clear H1;refine aw (fun w'=>(x.any fun k=>decide (k ∈ used))=false∧Hp w ab w' [aP e9 mQ r l,an g1 137 (mc cols (.slice (some ⟨g0,g,none⟩) R.length d))] []) ?_ ?_
    ·refine ay underlying75 ?_;refine ax (γ:=Nat) (fun j=>[(21,.int .i64 (j:Int))]) (fun j w'=>(j≤x.length∧((x.take j).any fun k=>decide (k ∈ used))=false)∧Hp w ab w' [aP e9 mQ r l,an g1 137 (mc cols (.slice (some ⟨g0,g,none⟩) R.length d))] []) (fun j=>x.length - j) 0 ⟨rfl,trivial⟩ ⟨⟨Nat.zero_le _,by simp⟩,H⟩ ?_;clear H;rintro j u O ⟨⟨Z,b⟩,H⟩;refine au (fun C=>?_) (fun C=>?_)
     ·obtain ⟨k,p⟩:∃ k,x[j]?=some k:=⟨_,List.getElem?_eq_getElem (by omega)⟩;obtain ⟨g2,D,rfl⟩:=h.A (by omega);have m:(aA x)[j]?=some (.int .i64 k):=by rw[aA,List.getElem?_map,p];rfl
      have E:=C1 (fun k=>decide (k ∈ used)) p;refine aw (fun w'=>((x.take (j+1)).any fun k=>decide (k ∈ used))=false∧Hp w ab w' [aP e9 mQ r l,an g1 137 (mc cols (.slice (some ⟨g0,g,none⟩) R.length d))] []) ?_ ?_
      ·refine ak (γ:=Unit) (fun _=>[(8,.int .i64 k)]) (fun _ w'=>Hp.cl H w') ?_ ?_
       ·refine ao underlying75 (s:=1) bc j rfl (by omega) (o':=D+j) (by omega) ?_;refine H.dq (i:=j) h aF _ rfl m ?_;exact ⟨(),⟨rfl,trivial⟩,H⟩
       rintro ⟨⟩ u F H1;replace H:Hp w ab F [aP e9 mQ r l,an g1 137 (mc cols (.slice (some ⟨g0,g,none⟩) R.length d))] []:=H1;clear H1;refine H.lookup 0 rfl yC k ?_;rw[a.get];refine au (fun hm=>?_) (fun hm=>?_)
       ·have t:(x.any fun k=>decide (k ∈ used))=true:=List.any_eq_true.2 ⟨k,List.mem_of_getElem? p,decide_eq_true hm⟩;rw[C5 t] at f;exact ⟨(n,used,l),⟨rfl,trivial⟩,⟨f,a⟩,H⟩
       ·exact ⟨(),trivial,by rw[E,b,decide_eq_false hm];rfl,H⟩
      ·clear H;rintro ⟨⟩ u F ⟨b,H⟩;exact ⟨j+1,by show x.length - (j+1)<x.length - j;omega,⟨up (by omega),trivial⟩,⟨by show j+1≤x.length;omega,b⟩,H⟩
     ·have e:x.take j=x:=List.take_of_length_le (by omega);rw[e] at b;exact ⟨(),trivial,b,H⟩
    clear H;rintro ⟨⟩ u O ⟨b,H⟩;rw[C6 b] at f;refine ak (γ:=Unit) (fun _=>[(4,.int .i64 ((n+1:Nat):Int))]) (fun _ w'=>Hp w ab w' [aP e9 mQ r l,an g1 137 (mc cols (.slice (some ⟨g0,g,none⟩) R.length d))] []) ⟨(),⟨up (by omega),trivial⟩,H⟩ ?_;clear H;rintro ⟨⟩ u O H;refine ay underlying75 ?_;refine ax (γ:=Nat × List (Int × Bool)) (fun (j,_)=>[(33,.int .i64 (j:Int))]) (fun (j,l) w'=>(j≤x.length∧BN l (used++x.take j))∧Hp w ab w' [aP e9 mQ r l,an g1 137 (mc cols (.slice (some ⟨g0,g,none⟩) R.length d))] []) (fun (j,_)=>x.length - j) (0,l) ⟨rfl,trivial⟩ ⟨⟨Nat.zero_le _,by simpa using a⟩,H⟩ ?_;clear H a;rintro ⟨j,l⟩ u F ⟨⟨Z,a⟩,H⟩;refine au (fun C=>?_) (fun C=>?_)
    ·obtain ⟨k,p⟩:∃ k,x[j]?=some k:=⟨_,List.getElem?_eq_getElem (by omega)⟩;obtain ⟨g2,D,rfl⟩:=h.A (by omega);have m:(aA x)[j]?=some (.int .i64 k):=by rw[aA,List.getElem?_map,p];rfl
     have G:used++x.take (j+1)=(used++x.take j)++[k]:=by rw[List.take_add_one,p,List.append_assoc];rfl
     refine ao underlying75 (s:=1) bc j rfl (by omega) (o':=D+j) (by omega) ?_;refine H.dq (i:=j) h aF _ rfl m ?_;refine H.iI 0 rfl yC k true ?_;clear H;intro w9 H;exact ⟨(j+1,dZ l k true),by show x.length - (j+1)<x.length - j;omega,⟨up (by omega),trivial⟩,⟨by show j+1≤x.length;omega,by rw[G];exact a.add k⟩,H⟩
    ·have e:x.take j=x:=List.take_of_length_le (by omega);rw[e] at a;exact ⟨(n+1,used++x,l),⟨rfl,trivial⟩,⟨by omega,a⟩,H⟩
   ·clear H a f;rintro ⟨n2,o,l2⟩ u M ⟨⟨f,a⟩,H⟩;exact ⟨(i+1,n2,o,l2),by show R.length - (i+1)<R.length - i;omega,⟨up (by omega),rfl,trivial⟩,⟨by show i+1≤R.length;omega,f,a⟩,H⟩
  ·have:i=R.length:=by omega
   subst this;rw[List.drop_length] at f;have f:n=eG R []:=by simpa [eG] using f
   exact ⟨l,⟨by rw[f];rfl,trivial⟩,H⟩
 ·clear H;rintro l u J H;exact ⟨rfl,H.keeps⟩
theorem C7 {R:a7}{i:Nat}{x:List Int}(a:R[i]?=some x)(h:g_ (R.take i)=false)(b:x≠[]):g_ (R.take (i+1))=false:=by
 have:=CI (fun r=>r.isEmpty) a;unfold g_ at h ⊢;rw[this,h]
 cases x with
 | nil=>exact absurd rfl b
 | cons=>rfl
theorem G9 {R:a7}{i:Nat}(a:R[i]?=some []):g_ R=true:=kA.2 (List.mem_of_getElem? a)
theorem JT:enters prog 122=true:=by kernel_rfl
theorem Me (cols:Int)(R:a7)(v1:Value)(w:World)(p:R.length≤1000000000)(k:j5 w v1 R) :
  bw prog 122 [mv cols v1] w fun v w'=>v=.bool (!g_ R)∧aT w w':=by
 refine ar (N:=16) func122 JT rfl rfl rfl (by simp) ?_;have H:=Hp.aC w;obtain ⟨A,c,q,rfl,g,d⟩:=k.rV;refine ak (γ:=Nat) (fun g1=>[(1,(ah g1))]) (fun g1 w'=>Hp w ab w' [an g1 137 (mc cols (.slice A R.length c))] []) ?_ ?_
 ·refine H.box 137 (mv _ _) (cs:=mc _ _) rfl ?_;clear H;intro g1 l H;exact ⟨g1,⟨rfl,trivial⟩,H⟩
 clear H;rintro g1 u l H;refine aw (fun w'=>g_ R=false∧Hp w ab w' [an g1 137 (mc cols (.slice A R.length c))] []) ?_ ?_
 ·refine aa (cB _) ?_;refine H.load 0 rfl eA rfl ?_;refine ay underlying135 ?_;refine ax (γ:=Nat) (fun i=>[(8,.int .i64 (i:Int))]) (fun i w'=>(i≤R.length∧g_ (R.take i)=false)∧Hp w ab w' [an g1 137 (mc cols (.slice A R.length c))] []) (fun i=>R.length - i) 0 ⟨rfl,trivial⟩ ⟨⟨Nat.zero_le _,rfl⟩,H⟩ ?_;clear H;rintro i u r ⟨⟨hi,a⟩,H⟩;refine au (fun m=>?_) (fun m=>?_)
  ·obtain ⟨x,f⟩:∃ x,R[i]?=some x:=⟨_,List.getElem?_eq_getElem (by omega)⟩;obtain ⟨g0,h,rfl⟩:=g.A (by omega);obtain ⟨t,y,b,n⟩:=d i x f;refine aw (fun w'=>g_ (R.take (i+1))=false∧Hp w ab w' [an g1 137 (mc cols (.slice (some ⟨g0,h,none⟩) R.length c))] []) ?_ ?_
   ·refine ao underlying135 (s:=1) fP i rfl (by omega) (o':=h+i) (by omega) ?_;refine H.dq (i:=i) g iP _ rfl b ?_;refine ay underlying75 ?_;refine cg (fun j=>?_) (fun j=>?_)
    ·obtain rfl:x=[]:=List.length_eq_zero_iff.1 (by omega);rw[G9 f];exact ⟨rfl,H.keeps⟩
    ·exact ⟨(),trivial,C7 f a (fun e=>j (by rw[e];rfl)),H⟩
   ·clear H;rintro ⟨⟩ u o ⟨a,H⟩;exact ⟨i+1,by show R.length - (i+1)<R.length - i;omega,⟨up (by omega),trivial⟩,⟨by show i+1≤R.length;omega,a⟩,H⟩
  ·have:i=R.length:=by omega
   subst this;rw[List.take_length] at a;exact ⟨(),trivial,a,H⟩
 ·clear H;rintro ⟨⟩ u o ⟨a,H⟩;rw[a];exact ⟨rfl,H.keeps⟩
theorem ez.rows {S:Nat→Prop}{v:Value}{R:a7}{w:World}(h:ez S v R w)(l:∀ g,S g→g<w.heap.size):∃ A c a,v=.slice A R.length c∧Sl w (.slice A R.length c) 1 R.length a∧
  ∀ (i:Nat) (x:List Int),R[i]?=some x→∃ d e,a[i]?=some (.slice d x.length e)∧q7 S w (.slice d x.length e) x∧Sl w (.slice d x.length e) 1 x.length (aA x):=by
 obtain ⟨A,m,a,rfl,f,j⟩:=h;have n:Sl w (.slice A R.length m) 1 R.length a:=sl.mono f l;have p:a.length=R.length:=by have:=n.1;omega
 refine ⟨A,m,a,rfl,n,fun i x o=>?_⟩;have q:=(List.getElem?_eq_some_iff.1 o).1;have hu:a[i]?=some (a[i]'(by omega)):=List.getElem?_eq_getElem (by omega);obtain ⟨d,e,k,b⟩:=j i _ x hu o;rw[k] at hu;exact ⟨d,e,hu,⟨d,e,rfl,b⟩,sl.mono b l⟩
theorem wK {R:a7}{i:Nat}{x:List Int}(c:Int)(a:R[i]?=some x):aI (R.take (i+1)) c=aI (R.take i) c++(if c ∈ x then [] else [x]):=by
 unfold aI;rw[yB _ a];by_cases h:c ∈ x <;> simp[h]
theorem rY (R:a7)(c:Int):(aI R c).length≤R.length:=List.length_filter_le _ _
theorem JU:enters prog 126=true:=by kernel_rfl
theorem oT (cols:Int)(R:a7)(c:Int)(v1:Value)(S:Nat→Prop)(w:World)(hl:R.length≤1000000000)(p:∀ r ∈ R,r.length≤1000000000)(M:ez S v1 R w)(O:∀ g,S g→g<w.heap.size) :
  bw prog 126 [mv cols v1,.int .i64 c] w fun v w'=>∃ Q,v=mv cols Q∧tD S w w' Q (aI R c):=by
 refine ar (N:=44) func126 JU rfl rfl rfl (by simp) ?_;have H:=Hp.aC w;obtain ⟨A,f,va,rfl,T,h⟩:=M.rows O;refine H.box 137 (mv _ _) (cs:=mc _ _) rfl ?_;clear H;intro g1 w1 H;refine H.alloc 137 dP rfl ?_;clear H;intro g2 w2 H;refine ak (γ:=Nat) (fun g3=>[(5,(ah g3))]) (fun g3 w'=>Hp w ab w' [an g3 137 (mc cols (.slice none 0 0)),an g2 137 (mv 0 (.slice none 0 0)).cells,an g1 137 (mc cols (.slice A R.length f))] []) ?_ ?_
 ·refine aa (iQ _) ?_;refine H.load 1 rfl aF rfl ?_;refine mg ?_;refine H.alloc 137 dP rfl ?_;clear H;intro g3 Z H;refine H.storeAll 0 rfl az rfl (fun v q=>da v q) ?_;clear H;intro U H;exact ⟨_,⟨rfl,trivial⟩,H⟩
 clear H;rintro g3 u Z H;replace H:=(H.bx 75 1).front 1 rfl;refine ak (γ:=Option Addr × Nat × List Value) (fun _=>[]) (fun (B,d,hs) w'=>je S w hs (aI R c)∧
  Hp w ab w' [an g3 137 (mc cols (.slice B hs.length d)),own 75 1 (.slice B hs.length d) hs.length hs,an g2 137 (mv 0 (.slice none 0 0)).cells,an g1 137 (mc cols (.slice A R.length f))] []) ?_ ?_
 ·refine aa (cB _) ?_;refine H.load 3 rfl eA rfl ?_;refine ay underlying135 ?_;refine ax (γ:=Nat × Option Addr × Nat × List Value) (fun (i,_)=>[(17,.int .i64 (i:Int))])
   (fun (i,B,d,hs) w'=>(i≤R.length∧je S w hs (aI (R.take i) c))∧
    Hp w ab w' [an g3 137 (mc cols (.slice B hs.length d)),own 75 1 (.slice B hs.length d) hs.length hs,an g2 137 (mv 0 (.slice none 0 0)).cells,an g1 137 (mc cols (.slice A R.length f))] [])
   (fun (i,_)=>R.length - i) (0,none,0,[]) ⟨rfl,trivial⟩ ⟨⟨Nat.zero_le _,je.nil _ _⟩,H⟩ ?_
  clear H;rintro ⟨i,B,d,hs⟩ u w4 ⟨⟨hi,a⟩,H⟩;refine au (fun h7=>?_) (fun h7=>?_)
  ·obtain ⟨x,t⟩:∃ x,R[i]?=some x:=⟨_,List.getElem?_eq_getElem (by omega)⟩;obtain ⟨g0,o,rfl⟩:=T.A (by omega);obtain ⟨y,z,m,C,n⟩:=h i x t;have hxl:=p x (List.mem_of_getElem? t);have b:=wK c t;have hb1:hs.length≤1000000000:=by have M:=a.1;have h2:=rY (R.take i) c;rw[List.length_take] at h2;omega
   refine ak (γ:=Option Addr × Nat × List Value) (fun _=>[]) (fun (B,d,hs) w'=>je S w hs (aI (R.take (i+1)) c)∧
    Hp w ab w' [an g3 137 (mc cols (.slice B hs.length d)),own 75 1 (.slice B hs.length d) hs.length hs,an g2 137 (mv 0 (.slice none 0 0)).cells,an g1 137 (mc cols (.slice (some ⟨g0,o,none⟩) R.length f))] []) ?_ ?_
   ·refine ak (γ:=Unit) (fun _=>[(7,.slice y x.length z)]) (fun _ w'=>Hp.cl H w') ?_ ?_
    ·refine ao underlying135 (s:=1) fP i rfl (by omega) (o':=o+i) (by omega) ?_;refine H.dq (i:=i) T iP _ rfl m ?_;exact ⟨(),⟨rfl,trivial⟩,H⟩
    rintro ⟨⟩ u V H1;replace H:Hp _ _ _ _ _:=H1;clear H1;refine ak (γ:=Unit) (fun _=>[(8,.bool false)]) (fun _ w'=>Hp.cl H w') ⟨(),⟨rfl,trivial⟩,H⟩ ?_;rintro ⟨⟩ u V H1;replace H:Hp _ _ _ _ _:=H1;clear H1;refine ak (γ:=Unit) (fun _=>[(8,.bool (decide (c ∈ x)))]) (fun _ w'=>Hp w ab w' [an g3 137 (mc cols (.slice B hs.length d)),own 75 1 (.slice B hs.length d) hs.length hs,an g2 137 (mv 0 (.slice none 0 0)).cells,an g1 137 (mc cols (.slice (some ⟨g0,o,none⟩) R.length f))] []) ?_ ?_
    ·refine ay underlying75 ?_;refine ax (γ:=Nat) (fun j=>[(23,.int .i64 (j:Int)),(8,.bool (decide (c ∈ x.take j)))]) (fun j w'=>j≤x.length∧Hp w ab w' [an g3 137 (mc cols (.slice B hs.length d)),own 75 1 (.slice B hs.length d) hs.length hs,an g2 137 (mv 0 (.slice none 0 0)).cells,an g1 137 (mc cols (.slice (some ⟨g0,o,none⟩) R.length f))] []) (fun j=>x.length - j) 0 ⟨rfl,by simp;rfl,trivial⟩ ⟨Nat.zero_le _,H⟩ ?_;clear H;rintro j u U ⟨hj,H⟩;refine au (fun h8=>?_) (fun h8=>?_)
     ·obtain ⟨k,X⟩:∃ k,x[j]?=some k:=⟨_,List.getElem?_eq_getElem (by omega)⟩;obtain ⟨g4,o4,rfl⟩:=n.A (by omega);have D:(aA x)[j]?=some (.int .i64 k):=by rw[aA,List.getElem?_map,X];rfl
      have E:=C3 c X;refine ak (γ:=Unit) (fun _=>[(8,.bool (decide (c ∈ x.take (j+1))))]) (fun _ w'=>Hp.cl H w') ?_ ?_
      ·refine ak (γ:=Unit) (fun _=>[(10,.int .i64 k)]) (fun _ w'=>Hp.cl H w') ?_ ?_
       ·refine ao underlying75 (s:=1) bc j rfl (by omega) (o':=o4+j) (by omega) ?_;refine H.dq (i:=j) n aF _ rfl D ?_;exact ⟨(),⟨rfl,trivial⟩,H⟩
       rintro ⟨⟩ u Y H1;replace H:Hp _ _ _ _ _:=H1;clear H1;rw[E];generalize decide (c ∈ x.take j)=b0;refine aE (fun F=>?_) (fun F=>?_)
       ·refine ag (by assumption) ?_
        iterate 2 refine ag (by assumption) ?_
        exact ⟨(),⟨by rw[F];rfl,trivial⟩,H⟩
       ·refine af (by assumption) ?_
        iterate 2 refine af (by assumption) ?_
        exact ⟨(),⟨by rw[F,Bool.false_or,BEq.comm];rfl,trivial⟩,H⟩
      ·rintro ⟨⟩ u Y H1;exact ⟨j+1,by show x.length - (j+1)<x.length - j;omega,⟨up (by omega),rfl,trivial⟩,by show j+1≤x.length;omega,H1⟩
     ·have e:x.take j=x:=List.take_of_length_le (by omega);exact ⟨(),⟨congrArg (fun l:List Int=>Value.bool (decide (c ∈ l))) e,trivial⟩,H⟩
    clear H;rintro ⟨⟩ u U H;refine aE (fun G=>?_) (fun G=>?_)
    ·rw[if_neg (by simpa using G)] at b;refine aa (cB _) ?_;refine H.load 0 rfl eA rfl ?_;refine H.aX tC rfl ?_;clear H;intro g5 Y H;refine H.cn 1 tC rfl rfl (by omega) (by omega) ?_;clear H;intro I d2 w9 H;refine aa (cB _) ?_;refine H.store 0 rfl qf (by show 1<2;decide) rfl ?_;clear H;intro w10 H;have J:hs.length+1=(hs++[Value.slice y x.length z]).length:=by simp
     rw[J] at H;exact ⟨(I,d2,hs++[Value.slice y x.length z]),trivial,by rw[b];exact a.snoc C,H⟩
    ·rw[if_pos (by simpa using G),List.append_nil] at b;exact ⟨(B,d,hs),trivial,by rw[b];exact a,H⟩
   ·clear H a;rintro ⟨I,d2,K⟩ u V ⟨a,H⟩;exact ⟨(i+1,I,d2,K),by show R.length - (i+1)<R.length - i;omega,⟨up (by omega),trivial⟩,⟨by show i+1≤R.length;omega,a⟩,H⟩
  ·have:i=R.length:=by omega
   subst this;rw[List.take_length] at a;exact ⟨(B,d,hs),trivial,a,H⟩
 clear H;rintro ⟨B,d,hs⟩ u w4 ⟨a,H⟩;refine H.ai 0 rfl aL az ?_;refine H.storeAll 2 rfl az rfl (fun v q=>da v q) ?_;clear H;intro w5 H;refine H.ai 2 rfl aL az ?_;refine ⟨rfl,?_⟩;exact ⟨_,rfl,EU H 1 rfl a O⟩
theorem JV:enters prog 127=true:=by kernel_rfl
theorem c127 (n:Nat)(T:List Int)(A:Option Addr)(q:Nat)(w:World)(K:n≤1000000000)(M:T.length≤1000000000)(hs:Sl w (.slice A T.length q) 1 T.length (aA T)) :
  bw prog 127 [.slice A T.length q,.int .i64 (n:Int)] w fun v w'=>∃ B d,v=.slice B (a8 n T).length d∧eE w w' (own 3 1 (.slice B (a8 n T).length d) (a8 n T).length (aA (a8 n T))):=by
 refine ar (N:=33) func127 JV rfl rfl rfl (by simp) ?_;have H:=Hp.aC w;refine aw (fun w'=>Hp w ab w' [] []) ⟨(),trivial,H⟩ ?_;clear H;rintro ⟨⟩ u w0 H;refine ak (γ:=Nat) (fun r=>[(5,.map (some r))]) (fun r w'=>Hp w ab w' [aP e9 mQ r []] []) ?_ ?_
 ·refine H.makeMap e9 mQ ?_;clear H;intro r z H;exact ⟨r,⟨rfl,trivial⟩,H⟩
 clear H;rintro r u O H;refine ak (γ:=List (Int × Bool)) (fun _=>[]) (fun l w'=>BN l T∧Hp w ab w' [aP e9 mQ r l] []) ?_ ?_
 ·refine ay underlying75 ?_;refine ax (γ:=Nat × List (Int × Bool)) (fun (j,_)=>[(13,.int .i64 (j:Int))]) (fun (j,l) w'=>(j≤T.length∧BN l (T.take j))∧Hp w ab w' [aP e9 mQ r l] []) (fun (j,_)=>T.length - j) (0,[]) ⟨rfl,trivial⟩ ⟨⟨Nat.zero_le _,fun c=>rfl⟩,H⟩ ?_;clear H;rintro ⟨j,l⟩ u Q ⟨⟨S,b⟩,H⟩;refine au (fun C=>?_) (fun C=>?_)
  ·obtain ⟨k,t⟩:∃ k,T[j]?=some k:=⟨_,List.getElem?_eq_getElem (by omega)⟩;obtain ⟨g2,D,rfl⟩:=hs.A (by omega);have f:(aA T)[j]?=some (.int .i64 k):=by rw[aA,List.getElem?_map,t];rfl
   have g:T.take (j+1)=T.take j++[k]:=by rw[List.take_add_one,t];rfl
   refine ao underlying75 (s:=1) bc j rfl (by omega) (o':=D+j) (by omega) ?_;refine H.dq (i:=j) hs aF _ rfl f ?_;refine H.iI 0 rfl yC k true ?_;clear H;intro x H;exact ⟨(j+1,dZ l k true),by show T.length - (j+1)<T.length - j;omega,⟨up (by omega),trivial⟩,⟨by show j+1≤T.length;omega,by rw[g];exact b.add k⟩,H⟩
  ·have e:T.take j=T:=List.take_of_length_le (by omega);rw[e] at b;exact ⟨l,trivial,b,H⟩
 clear H;rintro l u z ⟨b,H⟩;refine ak (γ:=Unit) (fun _=>[(8,.slice none 0 0)]) (fun _ w'=>Hp w ab w' [aP e9 mQ r l] []) ⟨(),⟨rfl,trivial⟩,H⟩ ?_;clear H;rintro ⟨⟩ u U H;have h:=H.bx 3 1;clear H;have m:∀ c,(a8 c T).length≤c:=fun c=>fz c T;refine ak (γ:=Option Addr × Nat) (fun (B,d)=>[(8,.slice B (a8 n T).length d)])
  (fun (B,d) w'=>Hp w ab w' [own 3 1 (.slice B (a8 n T).length d) (a8 n T).length (aA (a8 n T)),aP e9 mQ r l] []) ?_ ?_
 ·refine ax (γ:=Nat × Option Addr × Nat) (fun (c,B,d)=>[(21,.int .i64 (c:Int)),(8,.slice B (a8 c T).length d)])
   (fun (c,B,d) w'=>c≤n∧Hp w ab w' [own 3 1 (.slice B (a8 c T).length d) (a8 c T).length (aA (a8 c T)),aP e9 mQ r l] [])
   (fun (c,_)=>n - c) (0,none,0) ⟨rfl,rfl,trivial⟩ ⟨Nat.zero_le _,h⟩ ?_
  clear h;rintro ⟨c,B,d⟩ u x ⟨V,H⟩;refine au (fun E=>?_) (fun E=>?_)
  ·have a:=tu c T;have F:=m c;refine ak (γ:=Option Addr × Nat) (fun (B,d)=>[(8,.slice B (a8 (c+1) T).length d)])
    (fun (B,d) w'=>Hp w ab w' [own 3 1 (.slice B (a8 (c+1) T).length d) (a8 (c+1) T).length (aA (a8 (c+1) T)),aP e9 mQ r l] []) ?_ ?_
   ·refine ak (γ:=Unit) (fun _=>[(9,.int .i64 (c:Int))]) (fun _ w'=>Hp.cl H w') ⟨(),⟨rfl,trivial⟩,H⟩ ?_;rintro ⟨⟩ u o H1;replace H:Hp _ _ _ _ _:=H1;clear H1;refine H.lookup 1 rfl yC (c:Int) ?_;rw[b.get];refine au (fun hm=>?_) (fun hm=>?_)
    ·rw[if_pos hm] at a;refine H.aX dH rfl ?_;clear H;intro g11 G H;refine H.cn 0 dH rfl rfl (by omega) (by omega) ?_;clear H;intro p d2 I H;have y:(a8 (c+1) T).length=(a8 c T).length+1:=by rw[a];simp
     have J:aA (a8 (c+1) T)=aA (a8 c T)++[.int .i64 (c:Int)]:=by rw[a,ir]
     exact ⟨(p,d2),⟨by rw[y];rfl,trivial⟩,by rw[y,J];exact H⟩
    ·rw[if_neg hm,List.append_nil] at a;exact ⟨(B,d),⟨by rw[a];rfl,trivial⟩,by rw[a];exact H⟩
   ·clear H;rintro ⟨p,d2⟩ u o H;exact ⟨(c+1,p,d2),by show n - (c+1)<n - c;omega,⟨up (by omega),rfl,trivial⟩,by show c+1≤n;omega,H⟩
  ·have:c=n:=by omega
   subst this;exact ⟨(B,d),⟨rfl,trivial⟩,H⟩
 ·clear h;rintro ⟨B,d⟩ u x H;exact ⟨B,d,rfl,(H.only).out⟩
theorem EY (R:a7)(c:Int):(bn R c).length=R.length:=by unfold bn;rw[List.length_map]
theorem JW:enters prog 125=true:=by kernel_rfl
theorem pw (cols:Int)(R:a7)(c:Int)(v1:Value)(S:Nat→Prop)(w:World)(hl:R.length≤1000000000)(F:∀ r ∈ R,r.length≤1000000000)(h1:ez S v1 R w)(hS:∀ g,S g→g<w.heap.size) :
  bw prog 125 [mv cols v1,.int .i64 c] w fun v w'=>∃ v',v=mv cols v'∧tD S w w' v' (bn R c):=by
 refine ar (N:=43) func125 JW rfl rfl rfl (by simp) ?_;have H:=pv h1 hS;have G:j5 w v1 R:=bj.mono h1 hS;obtain ⟨A,b,va,rfl,ha,I⟩:=G.rV;refine H.box 137 (mv _ _) (cs:=mc _ _) rfl ?_;clear H;intro g1 w1 H;refine H.alloc 137 dP rfl ?_;clear H;intro g2 w2 H;refine ak (γ:=Nat) (fun g3=>[(5,(ah g3))]) (fun g3 w'=>Hp w ab w' [an g3 137 (mc cols (.slice none 0 0)),an g2 137 (mv 0 (.slice none 0 0)).cells,an g1 137 (mc cols (.slice A R.length b))] [bj S (.slice A R.length b) R]) ?_ ?_
 ·refine aa (iQ _) ?_;refine H.load 1 rfl aF rfl ?_;refine mg ?_;refine H.alloc 137 dP rfl ?_;clear H;intro g3 w3 H;refine H.storeAll 0 rfl az rfl (fun v J=>da v J) ?_;clear H;intro w7 H;exact ⟨_,⟨rfl,trivial⟩,H⟩
 clear H;rintro g12 u w3 H;have p:=((H.bx 75 1).front 1 rfl).z_;clear H;refine ak (γ:=Option Addr × Nat × List Value × (Nat→Prop)) (fun _=>[])
  (fun (B,d,hs,f) w'=>(∀ g,f g→w.heap.size≤g)∧Hp w ab w' [an g12 137 (mc cols (.slice B hs.length d)),own 75 1 (.slice B hs.length d) hs.length hs,an g2 137 (mv 0 (.slice none 0 0)).cells,an g1 137 (mc cols (.slice A R.length b))] [dk f hs (bn R c),bj S (.slice A R.length b) R]) ?_ ?_
 ·refine aa (cB _) ?_;refine p.load 3 rfl eA rfl ?_;refine ay underlying135 ?_;refine ax (γ:=Nat × Option Addr × Nat × List Value × (Nat→Prop)) (fun (i,_)=>[(17,.int .i64 (i:Int))])
   (fun (i,B,d,hs,f) w'=>(i≤R.length∧hs.length=i∧∀ g,f g→w.heap.size≤g)∧Hp w ab w' [an g12 137 (mc cols (.slice B hs.length d)),own 75 1 (.slice B hs.length d) hs.length hs,an g2 137 (mv 0 (.slice none 0 0)).cells,an g1 137 (mc cols (.slice A R.length b))] [dk f hs (bn (R.take i) c),bj S (.slice A R.length b) R])
   (fun (i,_)=>R.length - i) (0,none,0,[],fun _=>False) ⟨rfl,trivial⟩ ⟨⟨Nat.zero_le _,rfl,fun g h=>h.elim⟩,p⟩ ?_
  clear p;rintro ⟨i,B,q,hs,f⟩ u K ⟨⟨hi,hhl,n⟩,H⟩;refine au (fun M=>?_) (fun M=>?_)
  ·obtain ⟨x,O⟩:∃ x,R[i]?=some x:=⟨_,List.getElem?_eq_getElem (by omega)⟩;obtain ⟨g0,o,rfl⟩:=ha.A (by omega);obtain ⟨Bx,cx,D,E⟩:=I i x O;have hxl:=F x (List.mem_of_getElem? O);refine ak (γ:=Option Addr × Nat × List Value × (Nat→Prop)) (fun _=>[])
    (fun (B,d,hs,f) w'=>(hs.length=i+1∧∀ g,f g→w.heap.size≤g)∧Hp w ab w' [an g12 137 (mc cols (.slice B hs.length d)),own 75 1 (.slice B hs.length d) hs.length hs,an g2 137 (mv 0 (.slice none 0 0)).cells,an g1 137 (mc cols (.slice (some ⟨g0,o,none⟩) R.length b))] [dk f hs (bn (R.take (i+1)) c),bj S (.slice (some ⟨g0,o,none⟩) R.length b) R]) ?_ ?_
   ·refine ak (γ:=Unit) (fun _=>[(7,.slice Bx x.length cx)]) (fun _ w'=>Hp.cl H w') ?_ ?_
    ·refine ao underlying135 (s:=1) fP i rfl (by omega) (o':=o+i) (by omega) ?_;refine H.dq (i:=i) ha iP _ rfl D ?_;exact ⟨(),⟨rfl,trivial⟩,H⟩
    rintro ⟨⟩ u t H1;replace H:Hp _ _ _ _ _:=H1;clear H1;refine ak (γ:=Unit) (fun _=>[(8,.slice none 0 0)]) (fun _ w'=>Hp.cl H w') ⟨(),⟨rfl,trivial⟩,H⟩ ?_;rintro ⟨⟩ u t H1;replace H:Hp _ _ _ _ _:=H1;clear H1;have p:=H.bx 3 1;clear H;refine ak (γ:=Option Addr × Nat) (fun (a,d2)=>[(8,.slice a (x.filter fun k=>k !=c).length d2)])
     (fun (a,d2) w'=>Hp w ab w' [own 3 1 (.slice a (x.filter fun k=>k !=c).length d2) (x.filter fun k=>k !=c).length (aA (x.filter fun k=>k !=c)),an g12 137 (mc cols (.slice B hs.length q)),own 75 1 (.slice B hs.length q) hs.length hs,an g2 137 (mv 0 (.slice none 0 0)).cells,an g1 137 (mc cols (.slice (some ⟨g0,o,none⟩) R.length b))] [dk f hs (bn (R.take i) c),bj S (.slice (some ⟨g0,o,none⟩) R.length b) R]) ?_ ?_
    ·refine ay underlying75 ?_;refine ax (γ:=Nat × Option Addr × Nat) (fun (j,a,d2)=>[(23,.int .i64 (j:Int)),(8,.slice a ((x.take j).filter fun k=>k !=c).length d2)])
      (fun (j,a,d2) w'=>j≤x.length∧Hp w ab w' [own 3 1 (.slice a ((x.take j).filter fun k=>k !=c).length d2) ((x.take j).filter fun k=>k !=c).length (aA ((x.take j).filter fun k=>k !=c)),an g12 137 (mc cols (.slice B hs.length q)),own 75 1 (.slice B hs.length q) hs.length hs,an g2 137 (mv 0 (.slice none 0 0)).cells,an g1 137 (mc cols (.slice (some ⟨g0,o,none⟩) R.length b))] [dk f hs (bn (R.take i) c),bj S (.slice (some ⟨g0,o,none⟩) R.length b) R])
      (fun (j,_)=>x.length - j) (0,none,0) ⟨rfl,rfl,trivial⟩ ⟨Nat.zero_le _,p⟩ ?_
     clear p;rintro ⟨j,a,d2⟩ u Q ⟨hj,H⟩;refine au (fun T=>?_) (fun T=>?_)
     ·obtain ⟨k,hk⟩:∃ k,x[j]?=some k:=⟨_,List.getElem?_eq_getElem (by omega)⟩;obtain ⟨g3,o3,rfl⟩:=E.A (by omega);have U:(aA x)[j]?=some (.int .i64 k):=by rw[aA,List.getElem?_map,hk];rfl
      have m:=vq (fun k=>k !=c) hk;have V:=List.length_filter_le (fun k=>k !=c) (x.take j);rw[List.length_take] at V;refine ak (γ:=Option Addr × Nat) (fun (a,d2)=>[(8,.slice a ((x.take (j+1)).filter fun k=>k !=c).length d2)])
       (fun (a,d2) w'=>Hp w ab w' [own 3 1 (.slice a ((x.take (j+1)).filter fun k=>k !=c).length d2) ((x.take (j+1)).filter fun k=>k !=c).length (aA ((x.take (j+1)).filter fun k=>k !=c)),an g12 137 (mc cols (.slice B hs.length q)),own 75 1 (.slice B hs.length q) hs.length hs,an g2 137 (mv 0 (.slice none 0 0)).cells,an g1 137 (mc cols (.slice (some ⟨g0,o,none⟩) R.length b))] [dk f hs (bn (R.take i) c),bj S (.slice (some ⟨g0,o,none⟩) R.length b) R]) ?_ ?_
      ·refine ak (γ:=Unit) (fun _=>[(10,.int .i64 k)]) (fun _ w'=>Hp.cl H w') ?_ ?_
       ·refine ao underlying75 (s:=1) bc j rfl (by omega) (o':=o3+j) (by omega) ?_;refine H.dq (i:=j) E aF _ rfl U ?_;exact ⟨(),⟨rfl,trivial⟩,H⟩
       rintro ⟨⟩ u y H1;replace H:Hp _ _ _ _ _:=H1;clear H1;refine aE (fun X=>?_) (fun X=>?_)
       ·rw[if_pos X] at m;refine H.aX dH rfl ?_;clear H;intro g7 y H;refine H.cn 0 dH rfl rfl (by omega) (by omega) ?_;clear H;intro z d3 Y H;have e1:((x.take (j+1)).filter fun k=>k !=c).length=((x.take j).filter fun k=>k !=c).length+1:=by rw[m];simp
        have e2:aA ((x.take (j+1)).filter fun k=>k !=c)=aA ((x.take j).filter fun k=>k !=c)++[.int .i64 k]:=by rw[m,ir]
        exact ⟨(z,d3),⟨by rw[e1];rfl,trivial⟩,by rw[e1,e2];exact H⟩
       ·rw[if_neg (by rw[X];decide),List.append_nil] at m;exact ⟨(a,d2),⟨by rw[m];rfl,trivial⟩,by rw[m];exact H⟩
      ·clear H;rintro ⟨z,d3⟩ u y H;exact ⟨(j+1,z,d3),by show x.length - (j+1)<x.length - j;omega,⟨up (by omega),rfl,trivial⟩,by show j+1≤x.length;omega,H⟩
     ·have e:x.take j=x:=List.take_of_length_le (by omega);rw[e] at H;exact ⟨(a,d2),⟨congrArg (fun l:List Int=>Value.slice a (l.filter fun k=>k !=c).length d2) e,trivial⟩,H⟩
    ·clear p;rintro ⟨a,d2⟩ u Q H;refine aa (cB _) ?_;refine H.load 1 rfl eA rfl ?_;refine H.aX tC rfl ?_;clear H;intro g7 y H;refine H.cn 2 tC rfl rfl (by omega) (by omega) ?_;clear H;intro z d3 Y H;refine aa (cB _) ?_;refine H.store 1 rfl qf (by show 1<2;decide) rfl ?_;clear H;intro w18 H;have e0:hs.length+1=(hs++[Value.slice a (x.filter fun k=>k !=c).length d2]).length:=by simp
     obtain ⟨Z,H3,C⟩:=H.z8 n;rw[← vp O] at H3;rw[e0] at H3;exact ⟨(z,d3,_,Z),trivial,⟨by rw[← e0];omega,C⟩,H3⟩
   ·clear H;rintro ⟨z,d3,hs3,Z⟩ u t ⟨⟨hn1,C⟩,H⟩;exact ⟨(i+1,z,d3,hs3,Z),by show R.length - (i+1)<R.length - i;omega,⟨up (by omega),trivial⟩,⟨by show i+1≤R.length;omega,hn1,C⟩,H⟩
  ·have e:R.take i=R:=List.take_of_length_le (by omega);rw[e] at H;exact ⟨(B,q,hs,f),trivial,n,H⟩
 ·clear p;rintro ⟨B,q,hs,f⟩ u K ⟨n,H⟩;refine H.ai 0 rfl aL az ?_;refine H.storeAll 2 rfl az rfl (fun v J=>da v J) ?_;clear H;intro t H;refine H.ai 2 rfl aL az ?_;refine ⟨rfl,?_⟩;exact ⟨_,rfl,sx H 1 rfl (H.ro 0 rfl) fun g hg=>⟨H.rlt _ (.head _) g hg,.inl (n g hg)⟩⟩
theorem G_:ld prog 221 3 3 e9 e9 (.int .i64 0):=⟨underlying221,NX,mP,by kernel_rfl⟩
def Aj (l:List (Int × Int))(f:Int→Nat):Prop:=∀ c,bS l c=if f c=0 then none else some ((f c:Nat):Int)
theorem Aj.get {l:List (Int × Int)}{f:Int→Nat}(h:Aj l f)(k:Int):((bS l k).map e9).getD (.int .i64 0)=.int .i64 ((f k:Nat):Int):=by
 rw[h k];by_cases a:f k=0
 ·rw[if_pos a,a];rfl
 ·rw[if_neg a];rfl
theorem Aj.add {l:List (Int × Int)}{f g:Int→Nat}(h:Aj l f){k:Int}(b:∀ c,g c=if c=k then f k+1 else f c):Aj (dZ l k ((f k+1:Nat):Int)) g:=fun c=>by
 rw[fg,b c];by_cases a:c=k
 ·rw[if_pos a,if_pos a,if_neg (by omega)]
 ·rw[if_neg a,if_neg a];exact h c
theorem Aj.eq {l:List (Int × Int)}{f g:Int→Nat}(h:Aj l f)(a:∀ c,g c=f c):Aj l g:=fun c=>by rw[a c];exact h c
theorem Aj.mem {l:List (Int × Int)}{f:Int→Nat}(h:Aj l f)(c:(eM l).Nodup){a b:Int}:(a,b) ∈ l↔b=f a∧0<f a:=by
 constructor
 ·intro hm;have:=jQ c hm;rw[h a] at this;split at this
  ·cases this
  ·injection this with this;exact ⟨this.symm,by omega⟩
 ·rintro ⟨rfl,d⟩;refine D0 ?_;rw[h a,if_neg (by omega)]
def lB (R:a7)(i:Nat)(x:List Int)(j:Nat)(c:Int):Nat:=d_ (R.take i) c+if c ∈ x.take j then 1 else 0
theorem Ak (R:a7)(i:Nat)(x:List Int)(c:Int):lB R i x 0 c=d_ (R.take i) c:=by simp[lB]
theorem Al {R:a7}{i:Nat}{x:List Int}(a:R[i]?=some x)(c:Int):d_ (R.take (i+1)) c=lB R i x x.length c:=by
 unfold lB d_;rw[List.take_length,List.take_add_one,a,List.countP_append];by_cases h:c ∈ x <;> simp[h]
theorem Am (R:a7)(i:Nat){x:List Int}(f:x.Nodup){j:Nat}{k:Int}(e:x[j]?=some k)(c:Int):lB R i x (j+1) c=if c=k then lB R i x j k+1 else lB R i x j c:=by
 have a:x.take (j+1)=x.take j++[k]:=by rw[List.take_add_one,e];rfl
 have b:k ∉ x.take j:=fun h=>by
  obtain ⟨m,hm,he⟩:=List.getElem_of_mem h;rw[List.length_take] at hm;rw[List.getElem_take] at he;have g:x[m]?=some k:=by rw[List.getElem?_eq_getElem (by omega),he]
  have:=(List.getElem?_inj (by omega) f).1 (g.trans e.symm);omega
 unfold lB;rw[a];by_cases d:c=k
 ·subst d;rw[if_pos rfl,if_pos (List.mem_append_right _ (.head _)),if_neg b]
 ·rw[if_neg d];have:(c ∈ x.take j++[k])↔c ∈ x.take j:=by simp[d]
  by_cases h:c ∈ x.take j
  ·rw[if_pos (this.2 h),if_pos h]
  ·rw[if_neg (fun l=>h (this.1 l)),if_neg h]
theorem BP (R:a7)(c:Int):d_ R c≤R.length:=List.countP_le_length
theorem EZ (R:a7)(i:Nat)(x:List Int)(j:Nat)(c:Int):lB R i x j c≤R.length+1:=by
 have:=BP (R.take i) c;rw[List.length_take] at this;unfold lB;split <;> omega
def vr (R:a7)(D:List (Int × Int))(b:Int):Prop:=(b<0∧D=[])∨(0≤b∧0<d_ R b∧∀ p ∈ D,d_ R p.1<d_ R b∨(d_ R p.1=d_ R b∧b≤p.1))
theorem C8 {R:a7}{l:List (Int × Int)}{D:List (Int × Int)}{b:Int}(h:vr R D b)(g:Aj l (d_ R))(i:(eM l).Nodup)(j:∀ p ∈ l,p ∈ D)(c:∃ r ∈ R,r≠[]):pt R b:=by
 obtain ⟨r,n,e⟩:=c;obtain ⟨k,o⟩:=List.exists_mem_of_ne_nil r e;have q:0<d_ R k:=wE.2 ⟨r,n,o⟩;have f:=j _ ((g.mem i).2 ⟨rfl,q⟩);rcases h with ⟨_,rfl⟩ | ⟨_,s,a⟩
 ·cases f
 ·refine ⟨s,fun d=>?_⟩;rcases Nat.eq_zero_or_pos (d_ R d) with m | m
  ·left;omega
  ·exact a _ (j _ ((g.mem i).2 ⟨rfl,m⟩))
theorem q_ {R:a7}{D:List (Int × Int)}{b a v:Int}(h:vr R D b)(e:0≤a)(f:0<d_ R a)(g:b<0∨d_ R b<d_ R a∨(d_ R a=d_ R b∧a<b)):vr R (D++[(a,v)]) a:=by
 refine .inr ⟨e,f,fun p c=>?_⟩;rcases List.mem_append.1 c with c | c
 ·rcases h with ⟨_,rfl⟩ | ⟨_,i,d⟩
  ·cases c
  ·have:=d p c;omega
 ·obtain rfl:=List.mem_singleton.1 c;exact .inr ⟨rfl,Int.le_refl _⟩
theorem vt {R:a7}{D:List (Int × Int)}{b a v:Int}(h:vr R D b)(g:¬ b<0)(j:¬ d_ R b<d_ R a)(i:¬ (d_ R a=d_ R b∧a<b)):vr R (D++[(a,v)]) b:=by
 rcases h with ⟨e,_⟩ | ⟨e,f,d⟩
 ·exact absurd e g
 ·refine .inr ⟨e,f,fun p c=>?_⟩;rcases List.mem_append.1 c with c | c
  ·exact d p c
  ·obtain rfl:=List.mem_singleton.1 c;show d_ R a<d_ R b∨(d_ R a=d_ R b∧b≤a);omega
theorem en {P:Program}{t kt et:TypeId}{α β:Type}[DecidableEq α]{ka:α→Value}{vb:β→Value}{z:Value}{w:World}{kk:Value→World→Prop}{l:List (α × β)}{r:Nat}(b:(aP ka vb r l).ok w)(W:ld P t kt et ka vb z)(a:α){v:Value}(c:((bS l a).map vb).getD z=v)(h:kk v w):gL P t (.map (some r)) (ka a) false w kk:=u9 b W a (by rw[c];exact h)
theorem JX:enters prog 124=true:=by kernel_rfl
theorem c124 (n:Nat)(cols:Int)(R:a7)(v1:Value)(w:World)(hl:R.length≤1000000000)(Q:∀ r ∈ R,r.length≤1000000000)(h:er n R)(h1:j5 w v1 R) :
  bw prog 124 [mv cols v1] w fun v w'=>∃ b:Int,v=.int .i64 b∧((∃ r ∈ R,r≠[])→pt R b)∧aT w w':=by
 refine ar (N:=61) func124 JX rfl rfl rfl (by simp) ?_;have H:=Hp.aC w;obtain ⟨A,m,va,rfl,ha,S⟩:=h1.rV;refine ak (γ:=Nat) (fun g1=>[(1,(ah g1))]) (fun g1 w'=>Hp w ab w' [an g1 137 (mc cols (.slice A R.length m))] []) ?_ ?_
 ·refine H.box 137 (mv _ _) (cs:=mc _ _) rfl ?_;clear H;intro g1 w1 H;exact ⟨g1,⟨rfl,trivial⟩,H⟩
 clear H;rintro g1 u w1 H;refine ak (γ:=Nat) (fun r=>[(3,.map (some r))]) (fun r w'=>Hp w ab w' [aP e9 e9 r [],an g1 137 (mc cols (.slice A R.length m))] []) ?_ ?_
 ·refine H.makeMap e9 e9 ?_;clear H;intro r w4 H;exact ⟨r,⟨rfl,trivial⟩,H⟩
 clear H;rintro r u w3 H;refine ak (γ:=Unit) (fun _=>[(4,.int .i64 (-1))]) (fun _ w'=>Hp w ab w' [aP e9 e9 r [],an g1 137 (mc cols (.slice A R.length m))] []) ⟨(),⟨rfl,trivial⟩,H⟩ ?_;clear H;rintro ⟨⟩ u w3 H;refine ak (γ:=List (Int × Int)) (fun _=>[]) (fun l w'=>Aj l (d_ R)∧Hp w ab w' [aP e9 e9 r l,an g1 137 (mc cols (.slice A R.length m))] []) ?_ ?_
 ·refine aa (cB _) ?_;refine H.load 1 rfl eA rfl ?_;refine ay underlying135 ?_;refine ax (γ:=Nat × List (Int × Int)) (fun (i,_)=>[(15,.int .i64 (i:Int))])
   (fun (i,l) w'=>(i≤R.length∧Aj l (d_ (R.take i)))∧Hp w ab w' [aP e9 e9 r l,an g1 137 (mc cols (.slice A R.length m))] [])
   (fun (i,_)=>R.length - i) (0,[]) ⟨rfl,trivial⟩ ⟨⟨Nat.zero_le _,fun c=>rfl⟩,H⟩ ?_
  clear H;rintro ⟨i,l⟩ u w4 ⟨⟨hi,d⟩,H⟩;refine au (fun h7=>?_) (fun h7=>?_)
  ·obtain ⟨x,q⟩:∃ x,R[i]?=some x:=⟨_,List.getElem?_eq_getElem (by omega)⟩;obtain ⟨g0,M,rfl⟩:=ha.A (by omega);obtain ⟨Bx,cx,z,B⟩:=S i x q;have C:=List.mem_of_getElem? q;have hxl:=Q x C;have T:=(h.rise x C).nodup;refine ak (γ:=List (Int × Int)) (fun _=>[]) (fun l w'=>Aj l (d_ (R.take (i+1)))∧Hp w ab w' [aP e9 e9 r l,an g1 137 (mc cols (.slice (some ⟨g0,M,none⟩) R.length m))] []) ?_ ?_
   ·refine ak (γ:=Unit) (fun _=>[(6,.slice Bx x.length cx)]) (fun _ w'=>Hp w ab w' [aP e9 e9 r l,an g1 137 (mc cols (.slice (some ⟨g0,M,none⟩) R.length m))] []) ?_ ?_
    ·refine ao underlying135 (s:=1) fP i rfl (by omega) (o':=M+i) (by omega) ?_;refine H.dq (i:=i) ha iP _ rfl z ?_;exact ⟨(),⟨rfl,trivial⟩,H⟩
    clear H;rintro ⟨⟩ u w6 H;refine ay underlying75 ?_;refine ax (γ:=Nat × List (Int × Int)) (fun (j,_)=>[(21,.int .i64 (j:Int))]) (fun (j,l) w'=>(j≤x.length∧Aj l (lB R i x j))∧Hp w ab w' [aP e9 e9 r l,an g1 137 (mc cols (.slice (some ⟨g0,M,none⟩) R.length m))] []) (fun (j,_)=>x.length - j) (0,l) ⟨rfl,trivial⟩ ⟨⟨Nat.zero_le _,d.eq (Ak R i x)⟩,H⟩ ?_;clear H d;rintro ⟨j,l⟩ u w8 ⟨⟨hj,d⟩,H⟩;refine au (fun h8=>?_) (fun h8=>?_)
    ·obtain ⟨k,g⟩:∃ k,x[j]?=some k:=⟨_,List.getElem?_eq_getElem (by omega)⟩;obtain ⟨g2,o2,rfl⟩:=B.A (by omega);have U:(aA x)[j]?=some (.int .i64 k):=by rw[aA,List.getElem?_map,g];rfl
     have hpl:=EZ R i x j k;have V:=Am R i T g;refine ao underlying75 (s:=1) bc j rfl (by omega) (o':=o2+j) (by omega) ?_;refine H.dq (i:=j) B aF _ rfl U ?_;refine en (H.get 0 rfl) G_ k (d.get k) ?_;have X:IntKind.i64.wrap (((lB R i x j k:Nat):Int)+1)=((lB R i x j k+1:Nat):Int):=by rw[aH (by omega) (by omega)];rfl
     refine q6 (congrArg (Value.int .i64) X) (H.iI 0 rfl G_ k ((lB R i x j k+1:Nat):Int) ?_);clear H;intro w9 H;exact ⟨(j+1,_),by show x.length - (j+1)<x.length - j;omega,⟨up (by omega),trivial⟩,⟨by show j+1≤x.length;omega,d.add V⟩,H⟩
    ·have:j=x.length:=by omega
     subst this;exact ⟨l,trivial,d.eq (Al q),H⟩
   ·clear H d;rintro l2 u w6 ⟨d,H⟩;exact ⟨(i+1,l2),by show R.length - (i+1)<R.length - i;omega,⟨up (by omega),trivial⟩,⟨by show i+1≤R.length;omega,d⟩,H⟩
  ·have:i=R.length:=by omega
   subst this;rw[List.take_length] at d;exact ⟨l,trivial,d,H⟩
 clear H;rintro l u w4 ⟨d,H⟩;have E:=pj (H.get 0 rfl) mP;have F:=BP R;refine ak (γ:=Int) (fun b=>[(4,.int .i64 b)]) (fun b w'=>((∃ r ∈ R,r≠[])→pt R b)∧aT w w') ?_ ?_
 ·refine H.rangeMap (k0:=3) (e0:=3) underlying221 ?_;clear H;intro r2 w5 H;refine ax (γ:=Int × List (Int × Int)) (fun (b,_)=>[(4,.int .i64 b)])
   (fun (b,D) w'=>(vr R D b∧D.Nodup∧∀ p ∈ D,p ∈ l)∧Hp w ab w' [pn e9 e9 r r2 l D,an g1 137 (mc cols (.slice A R.length m))] [])
   (fun (_,D)=>l.length - D.length) (-1,[]) ⟨rfl,trivial⟩ ⟨⟨.inl ⟨by decide,rfl⟩,List.nodup_nil,by simp⟩,H⟩ ?_
  clear H;rintro ⟨b,D⟩ u w6 ⟨⟨o,G,I⟩,H⟩;refine H.wk 0 rfl mP mP (fun J=>?_) (fun a v w7 hm K H2=>?_)
  ·refine af rfl ?_;exact ⟨b,⟨rfl,trivial⟩,fun Y=>C8 o d E J Y,H.keeps⟩
  ·clear H;have H:=H2;clear H2;obtain ⟨rfl,O⟩:=(d.mem E).1 hm;refine ag rfl ?_;have t:0≤a:=by obtain ⟨r',Z,g⟩:=wE.1 O;exact (h.rng r' Z a g).1
   have hlen:D.length<l.length:=by
    have:=kQ (a:=D++[(a,((d_ R a:Nat):Int))]) (b:=l) (by
     rw[List.nodup_append];refine ⟨G,by simp,fun x q y hy=>?_⟩;obtain rfl:=List.mem_singleton.1 hy;exact fun e=>K (e ▸ q)) (fun k g=>by
     rcases List.mem_append.1 g with g | g
     ·exact I k g
     ·obtain rfl:=List.mem_singleton.1 g;exact hm)
    simp at this;omega
   have f:(D++[(a,((d_ R a:Nat):Int))]).Nodup∧(∀ p ∈ D++[(a,((d_ R a:Nat):Int))],p ∈ l):=by
    refine ⟨?_,fun k g=>?_⟩
    ·rw[List.nodup_append];refine ⟨G,by simp,fun x q y hy=>?_⟩;obtain rfl:=List.mem_singleton.1 hy;exact fun e=>K (e ▸ q)
    ·rcases List.mem_append.1 g with g | g
     ·exact I k g
     ·obtain rfl:=List.mem_singleton.1 g;exact hm
   refine ak (γ:=Unit) (fun _=>[(9,.int .i64 a),(10,.int .i64 ((d_ R a:Nat):Int))]) (fun _ w'=>Hp.cl H w') ?_ ?_
   ·refine nC (H.get 0 rfl) ?_;exact ⟨(),⟨rfl,rfl,trivial⟩,H⟩
   rintro ⟨⟩ u w8 H1;replace H:Hp _ _ _ _ _:=H1;clear H1;have hca:=F a;have hcb:=F b;refine au (fun h2=>?_) (fun h2=>?_)
   ·refine ag (decide_eq_true (by assumption)) ?_
    iterate 4 refine ag (decide_eq_true (by assumption)) ?_
    iterate 9 refine ag rfl ?_
    exact ⟨(a,D++[(a,((d_ R a:Nat):Int))]),by show l.length - (D++[(a,((d_ R a:Nat):Int))]).length<l.length - D.length;simp;omega,⟨rfl,trivial⟩,⟨q_ o t O (by omega),f⟩,H⟩
   ·refine af (decide_eq_false (by assumption)) ?_
    iterate 2 refine af (decide_eq_false (by assumption)) ?_
    refine en (pY (H.get 0 rfl)) G_ b (d.get b) ?_
    iterate 2 refine af (decide_eq_false (by assumption)) ?_
    refine au (fun h30=>?_) (fun h30=>?_)
    ·refine ag (decide_eq_true (by assumption)) ?_
     iterate 6 refine ag (decide_eq_true (by assumption)) ?_
     refine ag rfl ?_;exact ⟨(a,D++[(a,((d_ R a:Nat):Int))]),by show l.length - (D++[(a,((d_ R a:Nat):Int))]).length<l.length - D.length;simp;omega,⟨rfl,trivial⟩,⟨q_ o t O (by omega),f⟩,H⟩
    ·refine af (decide_eq_false (by assumption)) ?_
     iterate 2 refine af (decide_eq_false (by assumption)) ?_
     refine en (pY (H.get 0 rfl)) G_ b (d.get b) ?_
     iterate 2 refine af (decide_eq_false (by assumption)) ?_
     refine cg (fun h46=>?_) (fun h46=>?_)
     ·refine ag (beq_iff_eq.2 (by assumption)) ?_;refine ag (beq_iff_eq.2 (by assumption)) ?_;refine af (decide_eq_false (by assumption)) ?_;refine ag (beq_iff_eq.2 (by assumption)) ?_;refine af (decide_eq_false (by assumption)) ?_;refine au (fun h52=>?_) (fun h52=>?_)
      ·exact ⟨(a,D++[(a,((d_ R a:Nat):Int))]),by show l.length - (D++[(a,((d_ R a:Nat):Int))]).length<l.length - D.length;simp;omega,⟨rfl,trivial⟩,⟨q_ o t O (by omega),f⟩,H⟩
      ·exact ⟨(b,D++[(a,((d_ R a:Nat):Int))]),by show l.length - (D++[(a,((d_ R a:Nat):Int))]).length<l.length - D.length;simp;omega,⟨rfl,trivial⟩,⟨vt o (by omega) (by omega) (by omega),f⟩,H⟩
     ·refine af (beq_eq_false_iff_ne.2 (by assumption)) ?_;refine af (beq_eq_false_iff_ne.2 (by assumption)) ?_;refine af (decide_eq_false (by assumption)) ?_;refine af (beq_eq_false_iff_ne.2 (by assumption)) ?_;refine af (decide_eq_false (by assumption)) ?_;refine af rfl ?_;exact ⟨(b,D++[(a,((d_ R a:Nat):Int))]),by show l.length - (D++[(a,((d_ R a:Nat):Int))]).length<l.length - D.length;simp;omega,⟨rfl,trivial⟩,⟨vt o (by omega) (by omega) (by omega),f⟩,H⟩
 ·clear H;rintro b u w5 ⟨o,g⟩;exact ⟨b,rfl,o,g⟩
def BR (cols:Int)(R:a7)(G:List Int)(e:Int):Prop:=
 (cD cols R=false∧G=[]∧e=1)∨(cD cols R=true∧g_ R=true∧G=[]∧e=7)∨(cD cols R=true∧g_ R=false∧e=0∧∃ l,mO R l∧G=a8 cols.toNat l)
theorem yD {R:a7}(h:[] ∉ R)(a:0<R.length):∃ r ∈ R,r≠[]:=by
 cases R with
 | nil=>simp at a
 | cons r R=>exact ⟨r,.head _,fun e=>h (by rw[e];exact .head _)⟩
theorem wL {R:a7}{c:Int}(h:[] ∉ R):[] ∉ aI R c:=fun hm=>h (List.mem_filter.1 hm).1
theorem JY:enters prog 121=true:=by kernel_rfl
theorem N2 (cols:Int)(R:a7)(v1:Value)(S:Nat→Prop)(w:World)(hl:R.length≤100000000)(D:∀ r ∈ R,r.length≤1000000000)(E:ez S v1 R w)(Z:∀ g,S g→g<w.heap.size) :
  bw prog 121 [mv cols v1] w fun v w'=>∃ B d G e,v=.tuple #[.slice B G.length d,.int .i64 e]∧BR cols R G e∧eE w w' (own 3 1 (.slice B G.length d) G.length (aA G)):=by
 refine ar (N:=33) func121 JY rfl rfl rfl (by simp) ?_;have H:=pv E Z;have s:j5 w v1 R:=bj.mono E Z;obtain ⟨A,f,t⟩:=E.form;subst t;refine ak (γ:=Nat) (fun g1=>[(1,(ah g1))]) (fun g1 w'=>Hp w ab w' [an g1 137 (mc cols (.slice A R.length f))] [bj S (.slice A R.length f) R]) ?_ ?_
 ·refine H.box 137 (mv _ _) (cs:=mc _ _) rfl ?_;clear H;intro g1 w1 H;exact ⟨g1,⟨rfl,trivial⟩,H⟩
 clear H;rintro g1 u w1 H;refine aw (fun w'=>(cD cols R=true∧g_ R=false)∧Hp w ab w' [an g1 137 (mc cols (.slice A R.length f))] [bj S (.slice A R.length f) R]) ?_ ?_
 ·refine H.ai 0 rfl aL az ?_;refine aj (EF cols R _ _ (by omega) D (s.same H.keeps)) ?_;rintro _ w3 ⟨rfl,k⟩;replace H:=H.same k;clear k;refine aE (fun o=>?_) (fun o=>?_)
  ·have F:cD cols R=false:=by simpa using o
   exact ⟨none,0,[],1,rfl,.inl ⟨F,rfl,rfl⟩,((H.bx 3 1).only).out⟩
  ·have i:cD cols R=true:=by simpa using o
   refine H.ai 0 rfl aL az ?_;refine aj (Me cols R _ _ (by omega) (s.same H.keeps)) ?_;rintro _ I ⟨rfl,k⟩;replace H:=H.same k;clear k;refine aE (fun x=>?_) (fun x=>?_)
   ·have b:g_ R=true:=by simpa using x
    exact ⟨none,0,[],7,rfl,.inr (.inl ⟨i,b,rfl,rfl⟩),((H.bx 3 1).only).out⟩
   ·have b:g_ R=false:=by simpa using x
    exact ⟨(),trivial,⟨i,b⟩,H⟩
 clear H;rintro ⟨⟩ u w2 ⟨⟨i,b⟩,H⟩;have a:=gC.1 i;obtain ⟨n,rfl⟩:∃ n:Nat,cols=n:=⟨cols.toNat,by have:=a.ge;omega⟩;have hn4:n≤4000:=by have:=a.le;omega
 have p:[] ∉ R:=fun h=>by rw[kA.2 h] at b;cases b
 refine ak (γ:=Unit) (fun _=>[(4,.slice none 0 0)]) (fun _ w'=>Hp.cl H w') ⟨(),⟨rfl,trivial⟩,H⟩ ?_;rintro ⟨⟩ u w2 H1;replace H:Hp _ _ _ _ _:=H1;clear H1;refine ak (γ:=Nat) (fun g5=>[(5,(ah g5))]) (fun g5 w'=>Hp w ab w' [an g5 137 (mc n (.slice A R.length f)),an g1 137 (mc n (.slice A R.length f))] [bj S (.slice A R.length f) R]) ?_ ?_
 ·refine H.ai 0 rfl aL az ?_;refine H.alloc 137 dP rfl ?_;clear H;intro g5 w3 H;refine H.storeAll 0 rfl az rfl (fun v t=>da v t) ?_;clear H;intro I H;exact ⟨g5,⟨rfl,trivial⟩,H⟩
 clear H;rintro g5 u w3 H;replace H:=H.bx 3 1;refine ak (γ:=Option Addr × Nat × List Int) (fun (B,d,l)=>[(4,.slice B l.length d)]) (fun (B,d,l) w'=>(mO R l∧l.length≤R.length)∧Hp w ab w' [own 3 1 (.slice B l.length d) l.length (aA l),an g1 137 (mc n (.slice A R.length f))] []) ?_ ?_
 ·refine ax (γ:=Option Addr × Nat × List Int × a7 × Value × (Nat→Prop)) (fun (B,d,l,_)=>[(4,.slice B l.length d)])
   (fun (B,d,l,Q,v,z) w'=>((∀ rest,mO Q rest→mO R (l++rest))∧er n Q∧[] ∉ Q∧l.length+Q.length≤R.length)∧Hp w ab w' [own 3 1 (.slice B l.length d) l.length (aA l),an g5 137 (mc n v),an g1 137 (mc n (.slice A R.length f))] [bj z v Q])
   (fun (_,_,_,Q,_)=>Q.length) (none,0,[],R,.slice A R.length f,S) ⟨rfl,trivial⟩ ⟨⟨fun rest h=>h,a,p,by simp⟩,H⟩ ?_
  clear H;rintro ⟨B,d,l,Q,v,z⟩ u I ⟨⟨C,q,y,J⟩,H⟩;obtain ⟨K,M,O⟩:=(H.ro 0 rfl).form;subst O;have m:∀ r ∈ Q,r.length≤1000000000:=fun r o=>by have:=oE q o;omega
  refine aa (cB _) ?_;refine H.load 1 rfl eA rfl ?_;refine ay underlying135 ?_;refine au (fun h7=>?_) (fun h7=>?_)
  ·refine ak (γ:=Int) (fun c=>[(6,.int .i64 c)]) (fun c w'=>pt Q c∧Hp w ab w' [own 3 1 (.slice B l.length d) l.length (aA l),an g5 137 (mc n (.slice K Q.length M)),an g1 137 (mc n (.slice A R.length f))] [bj z (.slice K Q.length M) Q]) ?_ ?_
   ·refine H.ai 1 rfl aL az ?_;refine aj (c124 n n Q _ _ (by omega) m q (bj.mono (H.ro 0 rfl) (H.rlt _ (.head _)))) ?_;rintro _ w5 ⟨c,rfl,x,k⟩;replace H:=H.same k;clear k;exact ⟨c,⟨rfl,trivial⟩,x (yD y (by omega)),H⟩
   clear H;rintro c u w5 ⟨j,H⟩;have T:=zZ (BI j);refine H.fp [an g5 137 (mc n (.slice K Q.length M))] (fun u H=>(H.front 1 rfl).only) eO (by kernel_rfl) ?_;clear H;intro w6 H;refine H.aX dH rfl ?_;clear H;intro g7 w7 H;refine ⟨.inl ((H.front 2 rfl).only),?_⟩;refine H.cn 0 dH rfl rfl (by omega) (by omega) ?_;clear H;intro U d2 w8 H;refine ⟨.inl ((H.front 1 rfl).only),?_⟩;refine quiet _ (fun w H=>H.ai 0 rfl aL az ae) ?_;refine aj (oT n Q c _ z _ (by omega) m (H.ro 0 rfl) (H.rlt _ (.head _))) ?_;rintro _ w9 ⟨v',rfl,V⟩;obtain ⟨S2,H2,hS2⟩:=H.gm (.head _) V;clear H;have H:=H2;clear H2;obtain ⟨A2,c2,X⟩:=(H.ro 0 rfl).form;subst X;refine ⟨.inl ((H.front 1 rfl).only).aq,?_⟩;refine H.storeAll 1 rfl az rfl (fun v t=>da v t) ?_;clear H;intro w10 H;refine ⟨.inr rfl,?_⟩;have Y:l.length+1=(l++[c]).length:=by simp
   have e2:aA l++[Value.int .i64 c]=aA (l++[c]):=by rw[ir]
   rw[Y,e2] at H;refine ⟨(U,d2,l++[c],aI Q c,_,S2),T,⟨by rw[Y];rfl,trivial⟩,⟨fun rest o=>?_,o_ q c,wL y,by rw[← Y];omega⟩,H.tF⟩;rw[List.append_assoc];exact C _ (.cons j o)
  ·obtain rfl:Q=[]:=List.length_eq_zero_iff.1 (by omega);have:=C [] .nil;rw[List.append_nil] at this;exact ⟨(B,d,l),⟨rfl,trivial⟩,⟨this,by simpa using J⟩,((H.front 1 rfl).forget).tF.ey (by simp)⟩
 ·clear H;rintro ⟨B,d,l⟩ u I ⟨⟨C,hll⟩,H⟩;refine aa (iQ _) ?_;refine H.load 1 rfl aF rfl ?_;refine aj (c127 n l B d _ (by omega) (by omega) (bB (H.get 0 rfl))) ?_;rintro _ w5 ⟨U,d2,rfl,V⟩;replace H:=H.bq V;exact ⟨U,d2,a8 n l,0,rfl,.inr (.inr ⟨i,b,rfl,l,C,by rw[Int.toNat_natCast]⟩),(H.only).out⟩
end Go.Proofs.YtpjihhgjbbihkaaGreatDoor
namespace Go.Dk
set_option maxRecDepth 100000
variable {P:Program} {w0 w:World} {F:Nat→Prop} {L M:List cH} {kk:Value→World→Prop}
theorem Hp.Ha (H:Hp w0 F w L M)(n:Nat){t e:TypeId}{z:Value}{sz b l c i:Nat}{A:Option Addr}{xs:List Value}{kd:IntKind}{j:Int}(T:qI P t e z sz b)(o:L[n]?=some (own e sz (.slice A l c) l xs))(s:j=(i:Int))(hi:i≤l)(D:0<l)(h:∀ p q,Hp w0 F w (L.set n (own e sz (.slice p i q) i (xs.take (i*sz)))) M→kk (.slice p i q) w):eY P t (.slice A l c) none (some (.int kd j)) none w kk:=by
 subst s;obtain ⟨hlen,d⟩:=H.get n o;rcases d with ⟨r,E⟩ | ⟨g,cap,cur,r,u,v,y,hm,k,f⟩
 ·omega
 injection r with B _ C;subst B;subst C;have hmul:=Nat.mul_le_mul_right sz hi;have m:sliced (some ⟨g,0,none⟩) 0 i c sz=.slice (some ⟨g,0,none⟩) i c:=by
  unfold sliced;rw[if_neg (by omega)];simp[addr_add]
 have a:(own e sz (.slice (some ⟨g,0,none⟩) i c) i (xs.take (i*sz))).ok w:=by
  refine ⟨by rw[List.length_take,hlen];omega,.inr ⟨g,c,cur,rfl,u,v,by omega,hm,k,?_⟩⟩;rw[← f,List.take_take,Nat.min_eq_left hmul]
 unfold eY;refine ⟨sliced (some ⟨g,0,none⟩) 0 i c sz,w,?_,?_⟩
 ·rw[run_sliceAt_slice w t _ _ _ _ (elemOf T.und),run_slice_h w t _ l c (elemOf T.und) kd (i:Int) (by omega) (by omega),nD T.und,run_sizeOf T.size];rfl
 ·rw[m];refine h _ _ (H.nc n o _ (aS.refl _ _) a fun x f=>?_);exact ⟨(World.ownsRow.lt (w:=w) (base:=0) a x f).2,.inl f⟩
end Go.Dk
namespace Go.Proofs.YtpjihhgjbbihkaaGreatDoor
open Go.Proofs.Tryz
set_option maxRecDepth 100000
open Go.Dk
attribute [local irreducible] IntKind.wrap
theorem wM:bE prog 184=some 3:=by kernel_rfl
theorem JZ:cP prog 184=some true:=by kernel_rfl
theorem Hb:eL prog 184=some (.agg #[.int .i64 0,.slice none 0 0,.slice none 0 0]):=by kernel_rfl
theorem BS (g:Nat)(w:World):(Instr.fieldAt 184 (ah g) 0).run prog w=.ok (ah g) w:=by kernel_rfl
theorem Hc (g:Nat)(w:World):(Instr.fieldAt 184 (ah g) 1).run prog w=.ok (.pointer (some ⟨g,2,none⟩)) w:=by kernel_rfl
theorem hH:qI prog 185 184 (.agg #[.int .i64 0,.slice none 0 0,.slice none 0 0]) 3 56:=⟨underlying185,by kernel_rfl,rfl,by decide⟩
def gD (n:Int)(x:Value × Value):List Value:=[.int .i64 n,x.1,x.2]
theorem yE (n:Int)(x:Value × Value):(gD n x).length=3:=rfl
theorem bJ {a:Int}{A B:Option Addr}{l c m d:Nat}{w:World}{kk:Value→World→Prop}(h:kk (.agg (gD a (.slice A l c,.slice B m d)).toArray) w):b8 prog 184 [(0,mv a (.slice A l c)),(1,.slice B m d)] w kk:=bt (fun w=>by kernel_rfl) h
theorem J0 {a:Nat}{ty:TypeId}{b:Array Bool}{w:World}{kk:Value→World→Prop}(h:kk (.int .i64 (a:Int)) w):bV prog .max #[3,3] ty b [.int .i64 0,.int .i64 (a:Int)] w kk:=by
 unfold bV;refine ⟨_,w,?_,h⟩;show (do pure (.value (← Builtin.max_ #[3,3] ty #[.int .i64 0,.int .i64 (a:Int)])):Sem Next).run prog w=_;rw[Sem.run_bind,run_max_int2];have:(if (a:Int)>0 then (a:Int) else 0)=a:=by split <;> omega
 rw[this];rfl
def fl (S:Nat→Prop)(w:World)(b:List (Value × Value))(st:uH):Prop:=b.length=st.length∧∀ (j:Nat) (a:Value × Value) (x:a7 × List Int),b[j]?=some a→st[j]?=some x→
 ez S a.1 x.1 w∧∃ B c,a.2=.slice B x.2.length c∧(sl S (.slice B x.2.length c) 1 x.2.length (aA x.2)).ok w
theorem fl.bQ {S:Nat→Prop}{w w':World}{b:List (Value × Value)}{st:uH}(h:fl S w b st)(d:∀ g,S g→w'.heap[g]?=w.heap[g]?):fl S w' b st:=
 ⟨h.1,fun j a x e f=>by
  obtain ⟨hm,B,c,he,hs⟩:=h.2 j a x e f;exact ⟨(bj S a.1 x.1).bQ _ _ d hm,B,c,he,(sl S _ 1 _ _).bQ _ _ d hs⟩⟩
theorem fl.mono {S b:Nat→Prop}{w:World}{d:List (Value × Value)}{st:uH}(h:fl S w d st)(e:∀ g,S g→b g):fl b w d st:=
 ⟨h.1,fun j a x f i=>by
  obtain ⟨hm,B,c,he,hs⟩:=h.2 j a x f i;exact ⟨bj.mono hm e,B,c,he,sl.mono hs e⟩⟩
theorem fl.nil (S:Nat→Prop)(w:World):fl S w [] []:=⟨rfl,fun j a x h=>by simp at h⟩
theorem fl.snoc {S:Nat→Prop}{w:World}{g:List (Value × Value)}{st:uH}(h:fl S w g st){a:Value × Value}{x:a7 × List Int}(hm:ez S a.1 x.1 w){B:Option Addr}{c:Nat}(he:a.2=.slice B x.2.length c)(hs:(sl S (.slice B x.2.length c) 1 x.2.length (aA x.2)).ok w):fl S w (g++[a]) (st++[x]):=by
 refine ⟨by simp[h.1],fun j b y d e=>?_⟩;by_cases k:j<g.length
 ·rw[List.getElem?_append_left k] at d;rw[List.getElem?_append_left (by rw[← h.1];exact k)] at e;exact h.2 j b y d e
 ·have i:=h.1;rw[List.getElem?_append_right (by omega)] at d e;have f:j - g.length=0:=by have:=(List.getElem?_eq_some_iff.1 d).1;simp at this;omega
  rw[← i,f] at e;rw[f] at d;simp at d e;subst d;subst e;exact ⟨hm,B,c,he,hs⟩
theorem fl.pop {S:Nat→Prop}{w:World}{d:List (Value × Value)}{st:uH}{a:Value × Value}{x:a7 × List Int}(h:fl S w (d++[a]) (st++[x])) :
  fl S w d st∧ez S a.1 x.1 w∧∃ B c,a.2=.slice B x.2.length c∧(sl S (.slice B x.2.length c) 1 x.2.length (aA x.2)).ok w:=by
 have e:d.length=st.length:=by have:=h.1;simpa using this
 refine ⟨⟨e,fun j b y f g=>h.2 j b y ?_ ?_⟩,h.2 d.length a x (by simp) (by rw[e];simp)⟩
 ·rw[List.getElem?_append_left (List.getElem?_eq_some_iff.1 f).1];exact f
 ·rw[List.getElem?_append_left (List.getElem?_eq_some_iff.1 g).1];exact g
def jf (S:Nat→Prop)(b:List (Value × Value))(st:uH):cH:=⟨S,fun w=>fl S w b st,fun _ _ h a=>a.bQ h⟩
def C9 (M:List cH)(g:Nat):Prop:=∃ s ∈ M,s.foot g
theorem _root_.Go.Dk.Hp.px {w0 w:World}{F:Nat→Prop}{L M:List cH}(H:Hp w0 F w L M)(r:cH)(b:∀ g,r.foot g→C9 M g)(c:r.ok w):Hp w0 F w L (r::M):=
 H.pU (aS.refl _ _) r c fun g d=>by
  obtain ⟨s,hs,a⟩:=b g d;exact ⟨H.rlt s hs g a,.inr ⟨s,hs,a⟩⟩
end Go.Proofs.YtpjihhgjbbihkaaGreatDoor
