import Derived.Test.YtpjihhgjbbihkaaGreatDoorPart1
import Derived.Test.YtpjihhgjbbihkaaGreatDoorRows
import Derived.WalkKit
import Derived.ProofKit
import Derived.OpenShut
import Derived.Below
import Derived.ChangeSame
import Derived.Carry
import Derived.ChangeMaps5
import Derived.ChangeArms
import Derived.DataReads
namespace Go.Proofs.YtpjihhgjbbihkaaGreatDoor
open Go.Proofs.Tryz
set_option maxRecDepth 100000
open Go.Dk
attribute [local irreducible] IntKind.wrap
theorem up {i:Nat}(hi:i<4611686018427387904):Value.int .i64 (IntKind.i64.wrap ((i:Int)+1))=Value.int .i64 ((i+1:Nat):Int):=
 congrArg (Value.int .i64) (aH (by omega) (by omega))
theorem Lc:enters prog 34=true:=by kernel_rfl
theorem Nf (n:Nat)(hn:n≤63)(w:World):bt prog 34 [.int .i64 (n:Int)] w fun v w'=>v=.int .u64 ((2^n:Nat):Int)∧aT w w':=by
 refine ar (N:=13) func34 Lc rfl rfl rfl (by simp) ?_;refine ax (γ:=Nat) (fun i=>[(4,.int .i64 (i:Int)),(3,.int .u64 ((2^i:Nat):Int))]) (fun i w'=>i≤n∧w'=w) (fun i=>n - i) 0 ⟨rfl,rfl,trivial⟩ ⟨by omega,rfl⟩ ?_;rintro i u w' ⟨hi,rfl⟩;refine aF (fun h=>?_) (fun h=>?_)
 ·have hlt:i<n:=by have:=of_decide_eq_true h;omega
  refine ⟨i+1,by omega,⟨up (by omega),congrArg (Value.int .u64) ?_,trivial⟩,by omega,rfl⟩;have h1:2^(i+1)≤2^63:=Nat.pow_le_pow_right (by decide) (by omega);have h2:2^(i+1)=2^i*2:=Nat.pow_succ ..;rw[h2] at h1 ⊢;generalize 2^i=q at *;rw[jv (by omega) (by omega)];omega
 ·have:i=n:=by have:=of_decide_eq_false h;omega
  subst this;exact ⟨rfl,aS.refl _ _⟩
theorem Ld:enters prog 65=true:=by kernel_rfl
theorem Oa (p i:Nat)(hp:p<9223372036854775808)(hi:i≤62)(w:World):bt prog 65 [.int .i64 (p:Int),.int .i64 (i:Int)] w fun v w'=>v=.int .i64 ((p / 2^i % 2:Nat):Int)∧aT w w':=by
 refine ar (N:=11) func65 Ld rfl rfl rfl (by simp) ?_;refine aj (Nf i (by omega) _) ?_;rintro v w1 ⟨rfl,hk⟩;have h1:2^i≤2^62:=Nat.pow_le_pow_right (by decide) hi;have h2:0<2^i:=Nat.two_pow_pos i;refine jx (by kernel_rfl) underlying3 ?_;rw[aH (by omega) (by omega)];refine nc (by omega) (by omega) (by omega) ?_;refine nf (Int.ediv_nonneg (by omega) (by omega)) (by omega) ?_;exact ⟨congrArg (Value.int .i64) (by simp),hk⟩
theorem IJ:qu prog 37 4 (.bool false) 1 1:=⟨underlying37,by kernel_rfl,rfl,by decide⟩
theorem vR:cH prog 4=some false:=by kernel_rfl
theorem iB:bB prog 4=some 1:=by kernel_rfl
def gY (l:List Bool):List Value:=l.map Value.bool
theorem Gd {l:List Bool}{i:Nat}(hi:i<l.length):(gY l)[i]?=some (.bool l[i]):=by simp[gY,hi]
def lb (n k:Nat):List Bool:=(List.range k).map fun p=>n.testBit p
abbrev jN (n:Nat):List Bool:=lb n 256
theorem vS (n k:Nat):lb n (k+1)=lb n k++[n.testBit k]:=by simp[lb,List.range_succ]
theorem jc {n p:Nat}(hp:p<256):(gY (jN n))[p]?=some (.bool (n.testBit p)):=by simp[gY,jN,lb,hp]
theorem xU {x y:Nat}(hy:0<y){t:TypeId}{xo yo:Operand}{w:World}{kk:Value→World→Prop}{P:Program}(h:kk (.int .u64 ((x % y:Nat):Int)) w):cU P .rem t xo yo (.int .u64 (x:Int)) (.int .u64 (y:Int)) w kk:=
 vH (by omega) (by rw[Int.tmod_eq_emod_of_nonneg (by omega)];simpa using h)
theorem xV {x y:Nat}(hx:x<18446744073709551616)(hy:0<y){t:TypeId}{xo yo:Operand}{w:World}{kk:Value→World→Prop}{P:Program}(h:kk (.int .u64 ((x / y:Nat):Int)) w):cU P .quo t xo yo (.int .u64 (x:Int)) (.int .u64 (y:Int)) w kk:=
 vG (by omega) (by
  rw[Int.tdiv_eq_ediv_of_nonneg (by omega),jv (Int.ediv_nonneg (by omega) (by omega)) (by
   have:((x / y:Nat):Int)=(x:Int) / y:=by simp
   have h2:x / y≤x:=Nat.div_le_self x y;omega)]
  simpa using h)
theorem Le:enters prog 43=true:=by kernel_rfl
theorem Ng (n:Nat)(w:World):bt prog 43 [sv n] w fun v w'=>∃ A c,v=.slice A 256 c∧eX w w' (own 4 1 (.slice A 256 c) 256 (gY (jN n))):=by
 refine ar (N:=27) func43 Le rfl rfl rfl (by simp) ?_;have H:=Hp.aC w;refine H.box 86 (sv n) (cs:=sc n) rfl ?_;intro g1 w1 H;have H:=H.bx 4 1;refine ax (γ:=Nat × Option Addr × Nat) (fun (i,A,c)=>[(4,.int .i64 (i:Int)),(3,.slice A (64*i) c)])
  (fun (i,A,c) w'=>i≤4∧Hp w ab w' [own 4 1 (.slice A (64*i) c) (64*i) (gY (lb n (64*i))),an g1 86 (sc n)] [])
  (fun (i,_,_)=>4 - i) (0,none,0) ⟨rfl,rfl,trivial⟩ ⟨by decide,H⟩ ?_
 clear H;rintro ⟨i,A,c⟩ u w2 ⟨hi,H⟩;refine aF (fun h=>?_) (fun h=>?_)
 ·have hi4:i<4:=by have:=of_decide_eq_true h;omega
  refine aK underlying86 jb i rfl hi4 (o':=i) (by omega) ?_;refine H.load 1 rfl sT (kA n i hi4) ?_;refine ax (γ:=Nat × Option Addr × Nat) (fun (k,A,c)=>[(6,.int .i64 (k:Int)),(5,.int .u64 ((word n i / 2^k:Nat):Int)),(3,.slice A (64*i+k) c)])
   (fun (k,A,c) w'=>k≤64∧Hp w ab w' [own 4 1 (.slice A (64*i+k) c) (64*i+k) (gY (lb n (64*i+k))),an g1 86 (sc n)] [])
   (fun (k,_,_)=>64 - k) (0,A,c) ⟨rfl,by show Value.int .u64 _=_;simp,rfl,trivial⟩ ⟨by decide,H⟩ ?_
  clear H;rintro ⟨k,A,c⟩ u2 w3 ⟨hk,H⟩;refine aF (fun h=>?_) (fun h=>?_)
  ·have hk4:k<64:=by have:=of_decide_eq_true h;omega
   refine xU (y:=2) (by omega) ?_;have hb:(word n i / 2^k % 2:Nat)=1↔n.testBit (64*i+k)=true:=by
    have:=ct n i k;rw[Nat.testBit_eq_decide_div_mod_eq] at this;simp[hk4] at this;rw[← this];simp
   have hbv:(((word n i / 2^k % 2:Nat):Int)==(1:Int))=n.testBit (64*i+k):=by
    rw[Bool.eq_iff_iff,← hb,beq_iff_eq];omega
   refine H.aX IJ rfl ?_;intro g2 w4 H;refine H.cf 0 IJ rfl rfl (by omega) (by omega) ?_;intro A' c' w5 H;refine xV (y:=2) (Nat.lt_of_le_of_lt (Nat.div_le_self _ _) (la n i)) (by omega) ?_;refine ⟨(k+1,A',c'),by show 64 - (k+1)<64 - k;omega,⟨up (by omega),?_,rfl,trivial⟩,by show k+1≤64;omega,?_⟩
   ·refine congrArg (Value.int .u64) ?_;rw[Nat.div_div_eq_div_mul,Nat.pow_succ]
   ·rw[hbv] at H;show Hp w _ _ [own 4 1 (.slice A' (64*i+(k+1)) c') (64*i+(k+1)) (gY (lb n (64*i+(k+1)))),_] [];rw[show 64*i+(k+1)=64*i+k+1 from rfl,vS];simpa [gY] using H
  ·have hk4:k=64:=by have:=of_decide_eq_false h;omega
   subst hk4;exact ⟨(i+1,A,c),by show 4 - (i+1)<4 - i;omega,⟨up (by omega),rfl,trivial⟩,by show i+1≤4;omega,H⟩
 ·have hi4:i=4:=by have:=of_decide_eq_false h;omega
  subst hi4;exact ⟨A,c,rfl,H.out⟩
def ld (l:List Bool):Nat:=rj fun p=>l.getD p false
def part (l:List Bool)(m:Nat):Nat:=mkSet (fun p=>l.getD p false) m
theorem gZ {l:List Bool}{i k j:Nat}(hk:k≤64)(hj:j≠i):word (part l (64*i+k)) j=word (part l (64*i)) j:=by
 apply Nat.eq_of_testBit_eq;intro b;simp only[ct,part,cT];by_cases hb:b<64
 ·have:decide (64*j+b<64*i+k)=decide (64*j+b<64*i):=by rw[Bool.eq_iff_iff];simp;omega
  rw[this]
 ·simp[hb]
theorem sU (l:List Bool)(i k:Nat)(hk:k<64):word (part l (64*i+(k+1))) i=word (part l (64*i+k)) i+if l.getD (64*i+k) false then 2^k else 0:=by
 have e:part l (64*i+(k+1))=part l (64*i+k)+if l.getD (64*i+k) false then 2^(64*i+k) else 0:=rfl;rw[e];have hlt:part l (64*i+k)<2^(64*i+k):=fw _ _;have hd:part l (64*i+k) / 2^(64*i)<2^k:=by
  apply Nat.div_lt_of_lt_mul;rw[← Nat.pow_add];exact hlt
 have h2:2^(k+1)≤2^64:=Nat.pow_le_pow_right (by decide) (by omega);have h3:2^(k+1)=2^k*2:=Nat.pow_succ ..;unfold word;split
 ·have e2:2^(64*i+k)=2^k*2^(64*i):=by rw[Nat.pow_add,Nat.mul_comm]
  rw[e2,Nat.add_mul_div_right _ _ (Nat.two_pow_pos _),Nat.mod_eq_of_lt (by omega),Nat.mod_eq_of_lt (by omega)]
 ·simp
theorem Lf:enters prog 37=true:=by kernel_rfl
theorem c37 (l:List Bool)(hl:l.length=256)(A:Option Addr)(c:Nat)(w:World)(hs:Sl w (.slice A 256 c) 1 256 (gY l)):bt prog 37 [.slice A 256 c] w fun v w'=>v=sv (ld l)∧aT w w':=by
 refine ar (N:=30) func37 Lf rfl rfl rfl (by simp) ?_;obtain ⟨g,o,rfl⟩:=hs.A (by omega);have H:=Hp.aC w;refine H.alloc 86 (cs:=sc 0) bo aY ?_;intro g1 w1 H;refine H.alloc 86 (cs:=sc 0) bo aY ?_;intro g2 w2 H;refine ax (γ:=Nat) (fun i=>[(4,.int .i64 (i:Int))])
  (fun i w'=>i≤4∧Hp w ab w' [an g2 86 (sc (part l (64*i))),an g1 86 (sc 0)] []) (fun i=>4 - i) 0 ⟨rfl,trivial⟩ ⟨by decide,H⟩ ?_
 clear H;rintro i u w3 ⟨hi,H⟩;refine aF (fun h=>?_) (fun h=>?_)
 ·have hi4:i<4:=by have:=of_decide_eq_true h;omega
  refine ax (γ:=Nat) (fun k=>[(5,.int .i64 (k:Int))])
   (fun k w'=>k≤64∧Hp w ab w' [an g2 86 (sc (part l (64*i+k))),an g1 86 (sc 0)] []) (fun k=>64 - k) 0 ⟨rfl,trivial⟩ ⟨by decide,H⟩ ?_
  clear H;rintro k u2 w4 ⟨hk,H⟩;refine aF (fun h=>?_) (fun h=>?_)
  ·have hk4:k<64:=by have:=of_decide_eq_true h;omega
   have hlk:64*i+k<l.length:=by omega
   have hgd:l.getD (64*i+k) false=l[64*i+k]:=by simp[hlk]
   refine aq underlying37 iB (64*i+k) ?_ (by omega) (o':=o+(64*i+k)) (by omega) ?_
   ·rw[aH (x:=64*(i:Int)) (by omega) (by omega),aH (by omega) (by omega)];omega
   refine H.dn hs vR _ rfl (Gd hlk) ?_;have hstep:=sU l i k hk4;rw[hgd] at hstep;refine aF (fun hb=>?_) (fun hb=>?_)
   ·rw[hb] at hstep;refine gN (fun w'=>Hp w ab w' [an g2 86 (sc (part l (64*i+k))),an g1 86 (sc 0)] []) eS (by kernel_rfl) (H.same (aS.drew _)) ?_;refine quiet (.pointer (some ⟨g2,i,none⟩)) (fun w _=>aK underlying86 jb i rfl hi4 (by omega) ae) ?_;refine quiet (.int .u64 (word (part l (64*i+k)) i:Int)) (fun w H=>H.load 0 rfl sT (kA _ i hi4) ae) ?_;refine aj (Nf k (by omega) _) ?_;rintro v w6 ⟨rfl,hk⟩;have H:=(H.same (aS.drew _)).same hk;refine ⟨.inl H,?_⟩;refine quiet (.pointer (some ⟨g2,i,none⟩)) (fun w _=>aK underlying86 jb i rfl hi4 (by omega) ae) ?_;refine H.store 0 rfl jb (by show i<4;omega) rfl ?_;intro w7 H;refine ⟨.inr (by kernel_rfl),?_⟩;refine ⟨k+1,by omega,⟨up (by omega),trivial⟩,by omega,?_⟩;have e:(sc (part l (64*i+k))).setIfInBounds i (.int .u64 (IntKind.u64.wrap ((word (part l (64*i+k)) i:Int)+((2^k:Nat):Int))))=sc (part l (64*i+(k+1))):=by
     refine sS (by simp[sc]) fun j hj=>?_;by_cases hji:j=i
     ·subst hji;rw[Array.getElem?_setIfInBounds_self_of_lt (by show j<4;omega),hstep];have h1:=la (part l (64*j+(k+1))) j;rw[hstep] at h1;simp only[if_true] at h1 ⊢;generalize 2^k=q at *;rw[jv (by omega) (by omega),Int.natCast_add]
     ·rw[Array.getElem?_setIfInBounds_ne (Ne.symm hji),kA _ j hj,gZ (by omega) hji,gZ (by omega) hji]
    rw[← e];exact H
   ·rw[hb] at hstep;have e:sc (part l (64*i+(k+1)))=sc (part l (64*i+k)):=by
     refine (sS rfl fun j hj=>?_).symm;rw[kA _ j hj];by_cases hji:j=i
     ·subst hji;rw[hstep];simp
     ·rw[gZ (by omega) hji,gZ (by omega) hji]
    refine ⟨k+1,by omega,⟨up (by omega),trivial⟩,by omega,?_⟩;rw[e];exact H
  ·have hk4:k=64:=by have:=of_decide_eq_false h;omega
   subst hk4;exact ⟨i+1,by omega,⟨up (by omega),trivial⟩,by omega,H⟩
 ·have hi4:i=4:=by have:=of_decide_eq_false h;omega
  subst hi4;refine H.ai 0 rfl aD av ?_;refine H.storeAll 1 rfl av rfl (fl _) ?_;intro w6 H;refine H.ai 1 rfl aD av ?_;exact ⟨rfl,rfl,H.keeps⟩
def nq (n:Nat):List Bool:=(List.range 256).map fun p=>decide (p<2^n)
def oN (j:Nat):List Bool:=(List.range 256).map fun p=>decide (p<j)
theorem zk:oN 0=List.replicate 256 false:=by simp[oN,List.map_const']
theorem zl {j:Nat}(_:j<256):(oN j).set j true=oN (j+1):=by
 apply List.ext_getElem (by simp[oN]);intro p h1 h2;simp only[oN,List.length_set,List.length_map,List.length_range] at h1;rw[List.getElem_set];simp only[oN,List.getElem_map,List.getElem_range];by_cases h:j=p
 ·subst h;simp
 ·simp[h];omega
theorem nr (n:Nat):(madeCells (Value.bool false).cells (n*1)).toList=List.replicate n (.bool false):=by
 rw[Nat.mul_one];exact toList_madeCells_one _ _
theorem Lg:enters prog 11=true:=by kernel_rfl
theorem Oo (n:Nat)(hn:n≤8)(w:World):bt prog 11 [.int .i64 (n:Int)] w fun v w'=>∃ A c,v=.slice A 256 c∧eX w w' (own 4 1 (.slice A 256 c) 256 (gY (nq n))):=by
 refine ar (N:=17) func11 Lg rfl rfl rfl (by simp) ?_;have H:=Hp.aC w;refine H.make IJ 256 rfl rfl (by omega) (by omega) ?_;intro g w1 H;rw[nr,show List.replicate 256 (Value.bool false)=gY (oN 0) from by rw[zk];exact List.map_replicate.symm] at H;have h2:2^n≤2^8:=Nat.pow_le_pow_right (by decide) hn;refine ax (γ:=Nat) (fun j=>[(4,.int .i64 (j:Int))])
  (fun j w'=>j≤2^n∧Hp w ab w' [own 4 1 (.slice (some ⟨g,0,none⟩) 256 256) 256 (gY (oN j))] []) (fun j=>2^n - j) 0 ⟨rfl,trivial⟩ ⟨Nat.zero_le _,H⟩ ?_
 clear H;rintro j u w2 ⟨hj,H⟩;refine jx (by kernel_rfl) underlying81 ?_;refine aj (Nf n (by omega) _) ?_;rintro v w3 ⟨rfl,hk⟩;have H:=H.same hk;rw[jv (by omega) (by omega)];refine aF (fun h=>?_) (fun h=>?_)
 ·have hlt:j<2^n:=by have:=of_decide_eq_true h;omega
  refine aq underlying37 iB j rfl (by omega) (o':=j) (by omega) ?_;refine H.dd 0 rfl iB (by rw[gY,List.length_map,oN,List.length_map,List.length_range];omega) rfl ?_;intro w4 H;refine ⟨j+1,by omega,⟨up (by omega),trivial⟩,by omega,?_⟩;rw[← zl (by omega),gY,List.map_set];exact H
 ·have:j=2^n:=by have:=of_decide_eq_false h;omega
  subst this;exact ⟨_,_,rfl,H.out⟩
theorem Lh:enters prog 67=true:=by kernel_rfl
theorem Oq (n:Nat)(w:World):bt prog 67 [sv n] w fun v w'=>∃ A c,v=.slice A (cD n).length c∧eX w w' (own 3 1 (.slice A (cD n).length c) (cD n).length (ints (cD n))):=by
 refine ar (N:=21) func67 Lh rfl rfl rfl (by simp) ?_;have H:=Hp.aC w;refine H.box 86 (sv n) (cs:=sc n) rfl ?_;intro g1 w1 H;refine H.ai 0 rfl aD av ?_;refine aj (Ng n _) ?_;rintro v w2 ⟨A,c,rfl,hn⟩;have H:=H.bD hn;obtain ⟨g,rfl⟩:=H.mq 0 rfl (by omega);have H:=H.bx 3 1;refine ax (γ:=Nat × Option Addr × Nat) (fun (i,A,c)=>[(5,.int .i64 (i:Int)),(4,.slice A (aN n i).length c)])
  (fun (i,A,d) w'=>i≤256∧Hp w ab w' [own 3 1 (.slice A (aN n i).length d) (aN n i).length (ints (aN n i)),own 4 1 (.slice (some ⟨g,0,none⟩) 256 c) 256 (gY (jN n)),an g1 86 (sc n)] [])
  (fun (i,_,_)=>256 - i) (0,none,0) ⟨rfl,rfl,trivial⟩ ⟨by decide,H⟩ ?_
 clear H hn;rintro ⟨i,A,d⟩ u w2 ⟨hi,H⟩;have hl:=eG n i;refine aF (fun h=>?_) (fun h=>?_)
 ·have hi4:i<256:=by have:=of_decide_eq_true h;omega
  refine aq underlying37 iB i rfl hi4 (o':=i) (by omega) ?_;refine H.dX 1 rfl vR (jc hi4) ?_;refine aF (fun hb=>?_) (fun hb=>?_)
  ·refine H.aX dy rfl ?_;intro g2 w4 H;refine H.cf 0 dy rfl rfl (by omega) (by omega) ?_;intro A' c' w5 H;have e:aN n (i+1)=aN n i++[i]:=by rw[iq,if_pos hb]
   have e1:(aN n (i+1)).length=(aN n i).length+1:=by rw[e];simp
   have e2:ints (aN n (i+1))=ints (aN n i)++[.int .i64 (i:Int)]:=by rw[e];simp[ints]
   refine ⟨(i+1,A',c'),by show 256 - (i+1)<256 - i;omega,⟨up (by omega),by rw[e1];rfl,trivial⟩,by show i+1≤256;omega,?_⟩;show Hp w _ _ [own 3 1 (.slice A' (aN n (i+1)).length c') (aN n (i+1)).length (ints (aN n (i+1))),_,_] [];rw[e1,e2];exact H
  ·have e:aN n (i+1)=aN n i:=by rw[iq,hb];simp
   refine ⟨(i+1,A,d),by show 256 - (i+1)<256 - i;omega,⟨up (by omega),by rw[e];rfl,trivial⟩,by show i+1≤256;omega,?_⟩;show Hp w _ _ [own 3 1 (.slice A (aN n (i+1)).length d) (aN n (i+1)).length (ints (aN n (i+1))),_,_] [];rw[e];exact H
 ·have hi4:i=256:=by have:=of_decide_eq_false h;omega
  subst hi4;exact ⟨A,d,rfl,H.out⟩
theorem Cb (n:Nat):ld (nq n)=bn n:=by
 refine nT (dm _) (dm _) fun p hp=>?_;rw[ld,bK,bn,bK];simp[hp,nq]
end Go.Proofs.YtpjihhgjbbihkaaGreatDoor
namespace Go.Dk
set_option maxRecDepth 100000
open Go.ChangeShapes Go.WideShapes Go.ChangeAt Go.RowKit
section
variable {H:Type} {enc:TypeId × Value→H} {P:Program}
theorem aS.below {w w':World}(h:aT w w'):Below w.heap.size w w':=
 ⟨h.os,h.tape,h.output,h.size,fun k hk=>h.old k hk (fun h=>h)⟩
theorem uu (hl:laidOutB P=true){W W':World}{sp:Nat→Bool}(hb:Below W.heap.size W W'):∀ (ts:List TypeId) (vs:List Value) (ds:List (DataW H)) (ps:List MemPlace),
  (∀ t ∈ ts,P.readableRec t=true∧t<P.types.size)→DataW.TrodAll enc P W 0 (fun _=>true) true ts vs ds ps→(∀ x ∈ ps,x.block<W.heap.size)→(∀ x ∈ ps,sp x.block=true)→DataW.TrodAll enc P W' 0 sp true ts vs ds ps:=by
 intro ts
 induction ts with
 | nil=>
  intro vs ds ps _ h _ _;obtain ⟨rfl,rfl,rfl⟩:=trodAll_nil h;exact rfl
 | cons t ts ih=>
  intro vs ds ps ht h hlt hsp;obtain ⟨v,vs,d,ds,p,q,rfl,rfl,rfl,h1,h2⟩:=trodAll_cons h;have ht1:=ht t (.head _);exact ⟨p,q,WideElems.Trod_stays hl ht1.1 ht1.2 h1 (fun x hx=>hb.same (hlt x (by simp[hx]))) (fun x hx=>hsp x (by simp[hx])),ih _ _ _ (fun u hu=>ht u (.tail _ hu)) h2 (fun x hx=>hlt x (by simp[hx])) (fun x hx=>hsp x (by simp[hx])),rfl⟩
def DR (P:Program)(f:Func)(W:World)(args:Array Value):Prop:=
 (∃ base:Nat,∀ (j:Nat) t v,f.params[j]?=some t→args[j]?=some v→Value.okWide P W .any base t v)∧
 ∃ (H:Type) (enc:TypeId × Value→H) (ds:List (DataW H)) (ps:List MemPlace),DataW.TrodAll enc P W 0 (fun _=>true) true f.params.toList args.toList ds ps
end
theorem bt.answers {P:Program}{g:FuncId}{args:List Value}{w:World}(h:bt P g args w fun v w'=>v=.bool true∧aT w w') :
  Calls P g args.toArray w fun e W'=>e=.returned (.bool true)∧aT w W':=h.2.mono fun _ _ ⟨_,he,hv,hs⟩=>⟨by rw[he,hv],hs⟩
section
variable {H:Type} {enc:TypeId × Value→H} {P:Program} {w:World} {base b:Nat} {spare:Nat→Bool} {held:Bool} {t:TypeId}
end
end Go.Dk
namespace Go.Proofs.YtpjihhgjbbihkaaGreatDoor
open Go.Proofs.Tryz
set_option maxRecDepth 100000
open Go.Dk Go.ChangeShapes Go.WideShapes Go.ChangeAt Go.RowKit
section
variable {H:Type} {enc:TypeId × Value→H} {w:World} {base b:Nat} {spare:Nat→Bool} {held:Bool}
end
theorem laidOut:laidOutB prog=true:=by kernel_rfl
end Go.Proofs.YtpjihhgjbbihkaaGreatDoor
namespace Go.Proofs.YtpjihhgjbbihkaaGreatDoor
set_option maxRecDepth 100000
open Go.Dk
attribute [local irreducible] IntKind.wrap
theorem rU (l:List Bool)(p:Nat):(ld l).testBit p=(decide (p<256)&&l.getD p false):=by
 rw[ld,bK]
theorem DS {n p:Nat}(hp:p ∈ cD n):p<256:=(b_.1 hp).1
open Go.Proofs.Tryz
def cc (c s:Nat):Array Value:=#[.int .u8 (c:Int),.int .u8 (s:Int)]
def cv (c s:Nat):Value:=.agg (cc c s)
theorem fa:eH prog 48=some (.agg #[.int .u8 0,.int .u8 0]):=by kernel_rfl
theorem bw:cH prog 48=some true:=by kernel_rfl
theorem aO:bB prog 48=some 2:=by kernel_rfl
theorem cg:cH prog 5=some false:=by kernel_rfl
theorem lf:bB prog 5=some 1:=by kernel_rfl
theorem vT (c s:Nat):∀ v ∈ (cc c s).toList,v.oneCell'=true:=by
 intro v hv;simp[cc] at hv;rcases hv with rfl | rfl <;> rfl
theorem b9 (g:Nat)(w:World):(Instr.fieldAt 48 (ah g) 0).run prog w=.ok (ah g) w:=by kernel_rfl
theorem fJ (g:Nat)(w:World):(Instr.fieldAt 48 (ah g) 1).run prog w=.ok (.pointer (some ⟨g,1,none⟩)) w:=by kernel_rfl
theorem Ge {c s:Nat}{w:World}{kk:Value→World→Prop}(h:kk (cv c s) w):b7 prog 48 [(0,.int .u8 (c:Int)),(1,.int .u8 (s:Int))] w kk:=
 bu (fun w=>by kernel_rfl) h
theorem lP {w:World}{kk:Value→World→Prop}(h:kk (cv 0 0) w):b7 prog 48 [] w kk:=
 bu (fun w=>by kernel_rfl) h
theorem Li:Tryz.prog.eqGuardType Tryz.prog.depth 48=false:=by kernel_rfl
theorem xW (a b c d:Nat)(w:World):(Op.equal 48 (cv a b) (cv c d)).run prog w=.ok (a==c&&b==d) w:=by
 have hr:∀ d',(Op.equalIn (d'+2) 48 (cv a b) (cv c d)).run prog w=.ok (a==c&&b==d) w:=by
  intro d';unfold cv;rw[Op.equalIn];have i0:=dE underlying5 d' (a:Int) (c:Int);have i1:=dE underlying5 d' (b:Int) (d:Int);have p0:∀ (x y:Nat) w,(Go.part 5 (cc x y) 0).run prog w=.ok (.int .u8 (x:Int)) w:=fun x y w=>gg cg rfl w;have p1:∀ (x y:Nat) w,(Go.part 5 (cc x y) 1).run prog w=.ok (.int .u8 (y:Int)) w:=fun x y w=>gg cg rfl w;have e0:((a:Int)==(c:Int))=(a==c):=by rw[Bool.eq_iff_iff,beq_iff_eq,beq_iff_eq,Int.natCast_inj]
  have e1:((b:Int)==(d:Int))=(b==d):=by rw[Bool.eq_iff_iff,beq_iff_eq,beq_iff_eq,Int.natCast_inj]
  rw[e0] at i0;rw[e1] at i1;generalize (a==c)=b0 at *;generalize (b==d)=b1 at *;have hst:Tryz.prog.stoodInHeld 48=false:=by kernel_rfl
  simp only[Sem.run_bind,run_underlying underlying48,Result.andThen_ok,Go.Dk.run_sizeOf aO,run_program,hst]
  cases b0 <;> cases b1 <;> simp[p0,p1,i0,i1]
 exact hr 9998
theorem _root_.Go.Dk.Hp.aW {w0 w:World}{F:Nat→Prop}{L M:List cC}{k:Value→World→Prop}(H:Hp w0 F w L M)(n:Nat){g a b:Nat}(hn:L[n]?=some (an g 86 (sc a)))(h:∀ w',Hp w0 F w' (L.set n (an g 86 (sc b))) M→k undef w'):hH prog 86 (ah g) (sv b) w k:=
 H.storeAll n hn av rfl (fl _) h
theorem _root_.Go.Dk.Hp.bQ {w0 w:World}{F:Nat→Prop}{L M:List cC}{k:Value→World→Prop}(H:Hp w0 F w L M)(n:Nat){g a b c d:Nat}(hn:L[n]?=some (an g 48 (cc a b)))(h:∀ w',Hp w0 F w' (L.set n (an g 48 (cc c d))) M→k undef w'):hH prog 48 (ah g) (cv c d) w k:=
 H.storeAll n hn aO rfl (vT _ _) h
theorem H_:enters prog 75=true:=by kernel_rfl
theorem Lj (m v:Nat)(n:Int)(hn:n<0∨8<n)(w:World):bt prog 75 [cv m v,.int .i64 n] w fun r w'=>r=.bool false∧aT w w':=by
 refine ar (N:=27) func75 H_ rfl rfl rfl (by simp) ?_;have H:=Hp.aC w;refine H.box 48 (cv _ _) (cs:=cc _ _) rfl ?_;clear H;intro g1 w1 H;refine H.draw eS (by kernel_rfl) ?_;clear H;intro w2 H;refine aF (fun h3=>?_) (fun h3=>?_)
 ·refine ag (by assumption) ?_;refine ag (by assumption) ?_;refine aF (fun h6=>?_) (fun h6=>?_)
  ·refine quiet _ (fun w H=>aa (b9 _) ae) ?_;refine ag (by assumption) ?_;refine quiet _ (fun w H=>H.load 0 rfl cg rfl ae) ?_;refine ag (by assumption) ?_;refine quiet _ (fun w H=>jx (by kernel_rfl) underlying3 ae) ?_
   iterate 2 refine ag (by assumption) ?_
   exfalso;simp only[decide_eq_true_eq,decide_eq_false_iff_not] at *;omega
  ·refine af (by assumption) ?_
   iterate 5 refine af (by assumption) ?_
   iterate 7 refine af rfl ?_
   exact ⟨rfl,H.keeps⟩
 ·refine af (by assumption) ?_;refine af (by assumption) ?_
  iterate 14 refine af rfl ?_
  exact ⟨rfl,H.keeps⟩
theorem Ia (m v:Nat)(hm:m<256)(hv:v<256)(n:Nat)(hn:n≤8)(w:World):bt prog 75 [cv m v,.int .i64 (n:Int)] w fun r w'=>r=.bool (dC m v n)∧aT w w':=by
 refine ar (N:=27) func75 H_ rfl rfl rfl (by simp) ?_;have H:=Hp.aC w;refine H.box 48 (cv _ _) (cs:=cc _ _) rfl ?_;clear H;intro g1 w1 H;refine H.draw eS (by kernel_rfl) ?_;clear H;intro w2 H
 iterate 3 refine ag rfl ?_
 refine ag (decide_eq_true (by omega)) ?_;refine quiet _ (fun w H=>aa (b9 _) ae) ?_;refine ag (decide_eq_true (by omega)) ?_;refine quiet _ (fun w H=>H.load 0 rfl cg rfl ae) ?_;refine ag (decide_eq_true (by omega)) ?_;refine quiet _ (fun w H=>iy (by kernel_rfl) underlying3 (by omega) (by omega) ae) ?_
 iterate 2 refine ag (decide_eq_true (by omega)) ?_
 refine quiet _ (fun w H=>cZ (by omega) ae) ?_
 iterate 2 refine ag (decide_eq_true (by omega)) ?_
 refine aF (fun h17=>?_) (fun h17=>?_)
 ·refine quiet _ (fun w H=>aa (fJ _) ae) ?_;refine ag (by assumption) ?_;refine quiet _ (fun w H=>H.load 0 rfl cg rfl ae) ?_;refine ag (by assumption) ?_;refine quiet _ (fun w H=>aa (b9 _) ae) ?_;refine ag (by assumption) ?_;refine quiet _ (fun w H=>H.load 0 rfl cg rfl ae) ?_;refine ag (by assumption) ?_;refine quiet _ (fun w H=>jk (by omega) (by omega) ae) ?_
  iterate 2 refine ag (by assumption) ?_
  refine ⟨congrArg Value.bool ?_,H.keeps⟩;have h':m<2^n:=by have:=of_decide_eq_true h17;exact_mod_cast this
  have h8:(n:Int)≤8:=by omega
  simp only[dC,Int.toNat_natCast,h',h8,decide_true,Bool.true_and,Int.natCast_nonneg];rw[Bool.eq_iff_iff,beq_iff_eq,beq_iff_eq];omega
 ·refine af (by assumption) ?_
  iterate 5 refine af (by assumption) ?_
  refine ⟨congrArg Value.bool ?_,H.keeps⟩;have h':¬ m<2^n:=by have:=of_decide_eq_false h17;exact_mod_cast this
  simp[dC,h']
theorem c75 (m v:Nat)(hm:m<256)(hv:v<256)(n:Int)(w:World):bt prog 75 [cv m v,.int .i64 n] w fun r w'=>r=.bool (dC m v n)∧aT w w':=by
 by_cases h:n<0∨8<n
 ·have e:dC m v n=false:=by unfold dC;rcases h with h | h <;> simp <;> omega
  rw[e];exact Lj m v n h w
 ·obtain ⟨k,rfl⟩:=Int.eq_ofNat_of_zero_le (show 0≤n by omega);exact Ia m v hm hv k (by omega) w
theorem IK:enters prog 161=true:=by kernel_rfl
theorem Nh (m v:Nat)(hm:m<256)(hv:v<256)(w:World):bt prog 161 [cv m v] w fun r w'=>r=cv m (v &&&m)∧aT w w':=by
 refine ar (N:=11) func161 IK rfl rfl rfl (by simp) ?_;have H:=Hp.aC w;refine H.box 48 (cv _ _) (cs:=cc _ _) rfl ?_;clear H;intro g1 w1 H;refine H.alloc 48 (cs:=cc 0 0) fa rfl ?_;clear H;intro g2 w2 H;refine aa (b9 _) ?_;refine H.load 1 rfl cg rfl ?_;refine aa (fJ _) ?_;refine H.load 1 rfl cg rfl ?_;refine aa (b9 _) ?_;refine H.load 1 rfl cg rfl ?_;refine dL (by omega) (by omega) ?_;refine Ge ?_;refine H.bQ 0 rfl ?_;clear H;intro w11 H;refine H.ai 0 rfl bw aO ?_;refine ⟨rfl,?_⟩;exact ⟨rfl,H.keeps⟩
theorem Ib:enters prog 82=true:=by kernel_rfl
theorem Lk (m v:Nat)(hm:m<256)(hv:v<256)(n:Int)(hr:dC m v n=false)(w:World):bt prog 82 [cv m v,.int .i64 n] w fun r w'=>r=.tuple #[sv 0,.int .i64 1]∧aT w w':=by
 refine ar (N:=31) func82 Ib rfl rfl rfl (by simp) ?_;have H:=Hp.aC w;refine H.box 48 (cv _ _) (cs:=cc _ _) rfl ?_;clear H;intro g1 w1 H;refine H.alloc 86 (cs:=sc 0) bo aY ?_;clear H;intro g2 w2 H;refine H.ai 1 rfl bw aO ?_;refine aj (c75 _ _ (by first | assumption | omega | decide) (by first | assumption | omega | decide) _ _) ?_;rintro _ w4 ⟨rfl,hk⟩;replace H:=H.same hk;clear hk;refine ag (by simp only[*,Bool.not_false,Bool.not_true]) ?_;refine n7 ?_;refine H.aW 0 rfl ?_;clear H;intro w7 H;refine H.ai 0 rfl aD av ?_;refine ⟨rfl,?_⟩;exact ⟨rfl,H.keeps⟩
def sV (m v k:Nat):Nat:=fQ ((List.range k).filter fun p=>p &&&m==v)
theorem xX (m v k:Nat):sV m v (k+1)=if k &&&m=v then sV m v k |||2^k else sV m v k:=by
 unfold sV;rw[List.range_succ,List.filter_append];by_cases h:k &&&m=v
 ·rw[if_pos h,List.filter_cons_of_pos (by simpa using h),List.filter_nil,kh]
 ·rw[if_neg h,List.filter_cons_of_neg (by simpa using h),List.filter_nil,List.append_nil]
theorem DT (m v:Nat)(hm:m<256)(hv:v<256)(n:Nat)(hn:n≤8)(hr:dC m v n=true)(w:World):bt prog 82 [cv m v,.int .i64 (n:Int)] w fun r w'=>r=.tuple #[sv (ba m v n),.int .i64 0]∧aT w w':=by
 refine ar (N:=31) func82 Ib rfl rfl rfl (by simp) ?_;have H:=Hp.aC w;have h2:2^n≤256:=Nat.le_trans (Nat.pow_le_pow_right (by decide) hn) (show 2^8≤256 by decide);rw[Dq m v hn];refine H.box 48 (cv _ _) (cs:=cc _ _) rfl ?_;clear H;intro g1 w1 H;refine H.alloc 86 (cs:=sc 0) bo aY ?_;clear H;intro g3 w3 H;refine H.ai 1 rfl bw aO ?_;refine aj (c75 _ _ (by first | assumption | omega | decide) (by first | assumption | omega | decide) _ _) ?_;rintro _ w5 ⟨rfl,hk⟩;replace H:=H.same hk;clear hk;refine af (by simp only[*,Bool.not_false,Bool.not_true]) ?_;refine H.alloc 86 (cs:=sc 0) bo aY ?_;clear H;intro g7 w7 H;refine cZ (by omega) ?_;generalize 2^n=N at h2 ⊢;refine ax (γ:=Nat) (fun i=>[(15,.int .i64 (i:Int))]) (fun i w'=>i≤N∧Hp w ab w' [an g7 86 (sc (sV m v i)),an g3 86 (sc 0),an g1 48 (cc m v)] []) (fun i=>N - i) 0 ⟨rfl,trivial⟩ ⟨by omega,H⟩ ?_;clear H;rintro i u w8 ⟨hi,H⟩;have hs:=xX m v i;refine au (fun h4=>?_) (fun h4=>?_)
 ·refine jZ (by kernel_rfl) underlying5 (by omega) (by omega) ?_;refine aa (b9 _) ?_;refine H.load 2 rfl cg rfl ?_;refine dL (by omega) (by omega) ?_;refine aa (fJ _) ?_;refine H.load 2 rfl cg rfl ?_;refine au (fun h14=>?_) (fun h14=>?_)
  ·refine H.ai 0 rfl aD av ?_;refine aj (pL _ _ (by first | assumption | omega | decide) _) ?_;rintro _ w16 ⟨rfl,hk⟩;replace H:=H.same hk;clear hk;refine H.aW 0 rfl ?_;clear H;intro w17 H;refine ⟨i+1,by omega,⟨up (by omega),trivial⟩,by omega,?_⟩;rw[if_pos (by omega)] at hs;rw[hs];exact H
  ·refine ⟨i+1,by omega,⟨up (by omega),trivial⟩,by omega,?_⟩;rw[if_neg (by omega)] at hs;rw[hs];exact H
 ·refine H.ai 0 rfl aD av ?_;refine H.aW 1 rfl ?_;clear H;intro w23 H;refine H.ai 1 rfl aD av ?_;refine ⟨rfl,?_⟩
  (obtain rfl:i=N:=by omega)
  exact ⟨rfl,H.keeps⟩
theorem Ni (m v:Nat)(hm:m<256)(hv:v<256)(n:Int)(w:World):bt prog 82 [cv m v,.int .i64 n] w fun r w'=>r=(if dC m v n then .tuple #[sv (ba m v n.toNat),.int .i64 0] else .tuple #[sv 0,.int .i64 1])∧aT w w':=by
 cases h:dC m v n with
 | false=>exact Lk m v hm hv n h w
 | true=>
  have h':=(eh hm hv).1 h;obtain ⟨k,rfl⟩:=Int.eq_ofNat_of_zero_le h'.1;exact DT m v hm hv k (by omega) h w
theorem DU:qu prog 151 5 (.int .u8 0) 1 1:=⟨underlying151,by kernel_rfl,rfl,by decide⟩
theorem jd (l:List Nat)(x:Nat):ints l++[.int .i64 (x:Int)]=ints (l++[x]):=by simp[ints]
theorem pM (k:IntKind)(x i:Nat):Value.int k ((x / 2^i / 2:Nat):Int)=Value.int k ((x / 2^(i+1):Nat):Int):=by
 rw[Nat.div_div_eq_div_mul,Nat.pow_succ]
theorem pN (m i:Nat):m / 2^i % 2=if m.testBit i then 1 else 0:=by
 rw[Nat.testBit_eq_decide_div_mod_eq];generalize m / 2^i=q;by_cases h:q % 2=1
 ·simp[h]
 ·simp[h];omega
theorem mw {m:Nat}(hm:m<256)(i:Nat):m / 2^i<256:=Nat.lt_of_le_of_lt (Nat.div_le_self _ _) hm
theorem Cc (n:Nat):(madeCells (Value.int .u8 0).cells (n*1)).toList=fI (List.replicate n 0):=by
 rw[Nat.mul_one,show (Value.int .u8 0).cells=#[.int .u8 0] from rfl,toList_madeCells_one,fI,List.map_replicate];rfl
def rE (m v n i:Nat):List UInt8:=eV m v i++List.replicate (n - i) 0
theorem vU (m v:Nat){n i:Nat}(hi:i≤n):(rE m v n i).length=n:=by simp[rE,eV];omega
theorem qI {m v n i:Nat}(hi:i<n):(rE m v n i).set i (FZ m v i)=rE m v n (i+1):=by
 unfold rE;rw[y8,List.set_append_right _ _ (by rw[pB];exact Nat.le_refl _),pB,Nat.sub_self,show n - i=(n - (i+1))+1 by omega,List.replicate_succ,List.set_cons_zero];simp
theorem o7 (l:List UInt8)(i:Nat)(b:UInt8):(fI l).set i (.int .u8 (b.toNat:Int))=fI (l.set i b):=by simp[fI,List.map_set]
theorem vV {a b a':Nat}{x:Int}(h:x=(a':Int)):(cc a b).setIfInBounds 0 (.int .u8 x)=cc a' b:=by subst h;rfl
theorem AV {a b b':Nat}{x:Int}(h:x=(b':Int)):(cc a b).setIfInBounds 1 (.int .u8 x)=cc a b':=by subst h;rfl
theorem xY (k:IntKind)(m:Nat):Value.int k (m:Int)=Value.int k ((m / 2^0:Nat):Int):=by rw[Nat.pow_zero,Nat.div_one]
theorem pO {i:Nat}(hi:i<8):2^i % 256=2^i∧2^i≤128:=by
 have:∀ i,i<8→2^i % 256=2^i∧2^i≤128:=by decide
 exact this i hi
theorem Ll {f:Nat→Bool}{i:Nat}(hi:i<8)(hf:f i=true):IntKind.u8.wrap ((mkSet f i:Int)+((2^i % 256:Nat):Int))=((mkSet f (i+1):Nat):Int):=by
 have h1:=pO hi;have h2:=fw f i;rw[IntKind.wrap_u8,mkSet,hf,h1.1];generalize 2^i=p at *;simp only[if_true];omega
theorem Lm {f:Nat→Bool}{i x:Nat}(hi:i<8)(hx:x<2)(hf:f i=decide (x=1)):IntKind.u8.wrap ((mkSet f i:Int)+IntKind.u8.wrap (((2^i % 256:Nat):Int)*(x:Int)))=((mkSet f (i+1):Nat):Int):=by
 have h1:=pO hi;have h2:=fw f i;rw[IntKind.wrap_u8,IntKind.wrap_u8,mkSet,hf,h1.1];generalize 2^i=p at *;rcases (show x=0∨x=1 by omega) with rfl | rfl
 ·simp;omega
 ·simp;omega
theorem Ic {i:Nat}(hi:i<8):Value.int .u8 (IntKind.u8.wrap (((2^i % 256:Nat):Int)*2))=Value.int .u8 ((2^(i+1) % 256:Nat):Int):=by
 have h1:=pO hi;rw[IntKind.wrap_u8,h1.1,Nat.pow_succ];generalize 2^i=p at*
 congr 1
theorem uP {m i:Nat}(h:((m / 2^i &&&1:Nat):Int)=0):m.testBit i=false:=by
 have:=vM m i;rw[beq_iff_eq.2 h] at this;simpa using this.symm
theorem vW {m i:Nat}(h:¬ ((m / 2^i &&&1:Nat):Int)=0):m.testBit i=true:=by
 have:=vM m i;rw[beq_eq_false_iff_ne.2 h] at this;simpa using this.symm
theorem Cd {m i:Nat}(h:((m / 2^i % 2:Nat):Int)=0):m.testBit i=false:=by
 have:=pN m i;rw[show m / 2^i % 2=0 by exact_mod_cast h] at this;cases hb:m.testBit i <;> simp_all
theorem Gf {m i:Nat}(h:¬ ((m / 2^i % 2:Nat):Int)=0):m.testBit i=true:=by
 have:=pN m i
 cases hb:m.testBit i
 ·rw[hb] at this;exact absurd (by exact_mod_cast this) h
 ·rfl
theorem Lo:enters prog 41=true:=by kernel_rfl
theorem Ob (m v:Nat)(hm:m<256)(hv:v<256)(w:World):bt prog 41 [cv m v] w fun r w'=>∃ A c,r=.slice A 8 c∧eX w w' (own 3 1 (.slice A 8 c) 8 (ints (lits m v))):=by
 refine ar (N:=32) func41 Lo rfl rfl rfl (by simp) ?_;have H:=Hp.aC w;refine H.box 48 (cv _ _) (cs:=cc _ _) rfl ?_;clear H;intro g1 w1 H;refine H.draw eS (by kernel_rfl) ?_;clear H;intro w2 H;refine quiet _ (fun w H=>aa (b9 _) ae) ?_;refine quiet _ (fun w H=>H.load 0 rfl cg rfl ae) ?_;refine quiet _ (fun w H=>aa (fJ _) ae) ?_;refine quiet _ (fun w H=>H.load 0 rfl cg rfl ae) ?_;have H:=H.bx 3 1;refine ax (γ:=Nat × Option Addr × Nat) (fun (i,A,c)=>[(6,.int .i64 (i:Int)),(4,.int .u8 ((m / 2^i:Nat):Int)),(5,.int .u8 ((v / 2^i:Nat):Int)),(3,.slice A i c)])
  (fun (i,A,c) w'=>i≤8∧Hp w ab w' [own 3 1 (.slice A i c) i (ints (mi m v i)),an g1 48 (cc m v)] []) (fun (i,_,_)=>8 - i) (0,none,0) ⟨rfl,xY _ _,xY _ _,rfl,trivial⟩ ⟨by omega,H⟩ ?_
 clear H;rintro ⟨i,A,c⟩ u w8 ⟨hi,H⟩;have hm':=mw hm i;have hv':=mw hv i;have hbm:=pN m i;have hbv:=pN v i;have hls:=xg m v i;refine au (fun h3=>?_) (fun h3=>?_)
 ·refine iX rfl (y':=((2:Nat):Int)) rfl (sN (by omega) ?_);refine au (fun h5=>?_) (fun h5=>?_)
  ·refine H.aX dy rfl ?_;clear H;intro g6 w6 H;refine H.cf 0 dy rfl rfl (by omega) (by omega) ?_;clear H;intro A7 k7 w7 H
   iterate 2 refine iX rfl (y':=((2:Nat):Int)) rfl (sM (by first | assumption | omega) (by omega) ?_)
   refine ⟨(i+1,_,_),by show 8 - (i+1)<8 - i;omega,⟨up (by omega),pM _ _ _,pM _ _ _,rfl,trivial⟩,by show i+1≤8;omega,?_⟩;have e:mP m v i=2:=by rw[mP,Cd h5];rfl
   rw[show (2:Int)=((2:Nat):Int) from rfl,← e,jd,← hls] at H;exact H
  ·refine iX rfl (y':=((2:Nat):Int)) rfl (sN (by omega) ?_);refine iy (by kernel_rfl) underlying3 (by omega) (by omega) ?_;refine H.aX dy rfl ?_;clear H;intro g14 w14 H;refine H.cf 0 dy rfl rfl (by omega) (by omega) ?_;clear H;intro A15 k15 w15 H
   iterate 2 refine iX rfl (y':=((2:Nat):Int)) rfl (sM (by first | assumption | omega) (by omega) ?_)
   refine ⟨(i+1,_,_),by show 8 - (i+1)<8 - i;omega,⟨up (by omega),pM _ _ _,pM _ _ _,rfl,trivial⟩,by show i+1≤8;omega,?_⟩;have e:mP m v i=v / 2^i % 2:=by rw[mP,Gf h5,if_pos rfl,hbv]
   rw[← e,jd,← hls] at H;exact H
 ·obtain rfl:i=8:=by omega
  exact ⟨A,c,rfl,H.out⟩
theorem Lp:enters prog 62=true:=by kernel_rfl
theorem Lq (m v:Nat)(hm:m<256)(hv:v<256)(n:Nat)(hn:n≤8)(hr:dC m v n=true)(w:World):bt prog 62 [cv m v,.int .i64 (n:Int)] w fun r w'=>r=.tuple #[aU (eV m v n),.int .i64 0]∧aT w w':=by
 refine ar (N:=45) func62 Lp rfl rfl rfl (by simp) ?_;have H:=Hp.aC w;refine H.box 48 (cv _ _) (cs:=cc _ _) rfl ?_;clear H;intro g1 w1 H;refine H.ai 0 rfl bw aO ?_;refine aj (Ia _ _ (by first | assumption | omega | decide) (by first | assumption | omega | decide) _ (by first | assumption | omega | decide) _) ?_;rintro _ w3 ⟨rfl,hk⟩;replace H:=H.same hk;clear hk;refine af (by simp only[*,Bool.not_false,Bool.not_true]) ?_;refine H.make DU n rfl rfl (by omega) (by omega) ?_;clear H;intro g5 w5 H;rw[Cc] at H;refine ay underlying151 ?_;refine ax (γ:=Nat) (fun i=>[(16,.int .i64 (i:Int))])
  (fun i w'=>i≤n∧Hp w ab w' [own 5 1 (.slice (some ⟨g5,0,none⟩) n n) n (fI (rE m v n i)),an g1 48 (cc m v)] []) (fun i=>n - i) 0 ⟨rfl,trivial⟩ ⟨by omega,H⟩ ?_
 clear H;rintro i u w8 ⟨hi,H⟩;have hm':=mw hm i;have hv':=mw hv i;have hb:=vM m i;have hb2:=vM v i;have hlen:=vU m v hi;refine au (fun h2=>?_) (fun h2=>?_)
 ·refine aa (b9 _) ?_;refine H.load 1 rfl cg rfl ?_;refine eR (by omega) ?_;refine iX rfl (y':=((1:Nat):Int)) rfl (dL (by first | assumption | omega) (by omega) ?_);refine au (fun h6=>?_) (fun h6=>?_)
  ·refine aq underlying151 (s:=1) (by kernel_rfl) _ rfl (by first | omega | decide | (simp only[IntKind.wrap_i64];omega) | (simp;done) | (simp;omega)) (o':=_) (by rw[Nat.zero_add,Nat.mul_one]) ?_;have hmb:=uP h6;refine H.dd 0 rfl lf (by rw[ee];omega) rfl ?_;clear H;intro w9 H;refine ⟨i+1,by omega,⟨up (by omega),trivial⟩,by omega,?_⟩;rw[← qI (by omega),show FZ m v i=45 from by simp[FZ,hmb],← o7];exact H
  ·refine aa (fJ _) ?_;refine H.load 1 rfl cg rfl ?_;refine eR (by omega) ?_;refine iX rfl (y':=((1:Nat):Int)) rfl (dL (by first | assumption | omega) (by omega) ?_);refine au (fun h14=>?_) (fun h14=>?_)
   ·refine aq underlying151 (s:=1) (by kernel_rfl) _ rfl (by first | omega | decide | (simp only[IntKind.wrap_i64];omega) | (simp;done) | (simp;omega)) (o':=_) (by rw[Nat.zero_add,Nat.mul_one]) ?_;have hmb:=vW h6;have hvb:=uP h14;refine H.dd 0 rfl lf (by rw[ee];omega) rfl ?_;clear H;intro w9 H;refine ⟨i+1,by omega,⟨up (by omega),trivial⟩,by omega,?_⟩;rw[← qI (by omega),show FZ m v i=48 from by simp[FZ,hmb,hvb],← o7];exact H
   ·refine aq underlying151 (s:=1) (by kernel_rfl) _ rfl (by first | omega | decide | (simp only[IntKind.wrap_i64];omega) | (simp;done) | (simp;omega)) (o':=_) (by rw[Nat.zero_add,Nat.mul_one]) ?_;have hmb:=vW h6;have hvb:=vW h14;refine H.dd 0 rfl lf (by rw[ee];omega) rfl ?_;clear H;intro w9 H;refine ⟨i+1,by omega,⟨up (by omega),trivial⟩,by omega,?_⟩;rw[← qI (by omega),show FZ m v i=49 from by simp[FZ,hmb,hvb],← o7];exact H
 ·refine H.sO 0 underlying151 underlying5 underlying9 rfl ?_;obtain rfl:i=n:=by omega
  have e:rE m v i i=eV m v i:=by simp[rE]
  rw[e];exact ⟨rfl,H.keeps⟩
theorem Lr:enters prog 42=true:=by kernel_rfl
theorem Oc (l:List Nat)(hl:l.length≤8)(h2:∀ x ∈ l,x≤2)(A:Option Addr)(c:Nat)(w:World)(hs:Sl w (.slice A l.length c) 1 l.length (ints l)):bt prog 42 [.slice A l.length c] w fun r w'=>r=cv (xi l) (xj l)∧aT w w':=by
 refine ar (N:=36) func42 Lr rfl rfl rfl (by simp) ?_;have H:=Hp.aC w;refine H.alloc 48 (cs:=cc 0 0) fa rfl ?_;clear H;intro g1 w1 H;refine H.alloc 48 (cs:=cc 0 0) fa rfl ?_;clear H;intro g3 w3 H;refine ax (γ:=Nat) (fun i=>[(5,.int .i64 (i:Int)),(4,.int .u8 ((2^i % 256:Nat):Int))])
  (fun i w'=>i≤l.length∧Hp w ab w' [an g3 48 (cc (mkSet (fun j=>decide (l.getD j 2<2)) i) (mkSet (fun j=>decide (l.getD j 2=1)) i)),an g1 48 (cc 0 0)] []) (fun i=>l.length - i) 0 ⟨rfl,rfl,trivial⟩ ⟨by omega,H⟩ ?_
 clear H;rintro i u w8 ⟨hi,H⟩;refine ay underlying75 ?_;refine au (fun h5=>?_) (fun h5=>?_)
 ·(obtain ⟨g6,o6,rfl⟩:=hs.A (by omega))
  refine aq underlying75 (s:=1) (by kernel_rfl) _ rfl (by first | omega | decide | (simp only[IntKind.wrap_i64];omega) | (simp;done) | (simp;omega)) (o':=_) (by rw[Nat.mul_one]) ?_;refine H.dn hs aE _ rfl (e_ (by omega)) ?_;refine au (fun h10=>?_) (fun h10=>?_)
  ·refine aa (b9 _) ?_;refine H.load 0 rfl cg rfl ?_;refine aa (b9 _) ?_;refine H.store 0 rfl lf (Nat.le_of_ble_eq_true rfl) rfl ?_;clear H;intro w4 H;refine H.draw eS (by kernel_rfl) ?_;clear H;intro w7 H;refine quiet _ (fun w H=>aa (fJ _) ae) ?_;refine quiet _ (fun w H=>H.load 0 rfl cg rfl ae) ?_;refine quiet _ (fun w H=>aq underlying75 (s:=1) (by kernel_rfl) _ rfl (by first | omega | decide | (simp only[IntKind.wrap_i64];omega) | (simp;done) | (simp;omega)) (o':=_) (by rw[Nat.mul_one]) ae) ?_;refine quiet _ (fun w H=>H.dn hs aE _ rfl (e_ (by omega)) ae) ?_;refine quiet _ (fun w H=>jZ (by kernel_rfl) underlying5 (by omega) (by omega) ae) ?_;refine quiet _ (fun w H=>aa (fJ _) ae) ?_;refine H.store 0 rfl lf (Nat.le_of_ble_eq_true rfl) rfl ?_;clear H;intro w16 H;refine ⟨.inr rfl,?_⟩;have hg:l.getD i 2=l[i]:=by simp[List.getD_eq_getElem?_getD,(by omega:i<l.length)]
   refine ⟨i+1,by omega,⟨up (by omega),Ic (by omega),trivial⟩,by omega,?_⟩;simp only[List.set_cons_zero] at H;rw[vV (Ll (by omega) (by show decide (l.getD i 2<2)=true;rw[hg];exact decide_eq_true (by omega))),AV (Lm (x:=l[i]) (by omega) (by omega) (by show decide (l.getD i 2=1)=_;rw[hg]))] at H;exact H
  ·have hg:l.getD i 2=l[i]:=by simp[List.getD_eq_getElem?_getD,(by omega:i<l.length)]
   have hx:=h2 l[i] (List.getElem_mem _);refine ⟨i+1,by omega,⟨up (by omega),Ic (by omega),trivial⟩,by omega,?_⟩;have e1:mkSet (fun j=>decide (l.getD j 2<2)) (i+1)=mkSet (fun j=>decide (l.getD j 2<2)) i:=by
    rw[mkSet,hg,if_neg (by simp;omega)];rfl
   have e2:mkSet (fun j=>decide (l.getD j 2=1)) (i+1)=mkSet (fun j=>decide (l.getD j 2=1)) i:=by
    rw[mkSet,hg,if_neg (by simp;omega)];rfl
   rw[e1,e2];exact H
 ·refine H.ai 0 rfl bw aO ?_;refine H.bQ 1 rfl ?_;clear H;intro w17 H;refine H.ai 1 rfl bw aO ?_;refine ⟨rfl,?_⟩;obtain rfl:i=l.length:=by omega
  exact ⟨rfl,H.keeps⟩
theorem Ce {a b c d:Nat}{xo yo:Operand}{w:World}{kk:Value→World→Prop}(h:kk (.bool (a==c&&b==d)) w):cU prog .eql 48 xo yo (cv a b) (cv c d) w kk:=
 rr Li (fun w=>xW a b c d w) h
theorem sW {m v i:Nat}(hi:i<8):(ints (lits m v))[i]?=some (.int .i64 (mP m v i:Int)):=by
 rw[e_ (by rw[jj];exact hi)];simp[mi]
theorem Nj:qu prog 73 9 (.string ⟨#[]⟩) 1 16:=⟨underlying73,by kernel_rfl,rfl,by decide⟩
theorem xZ:cH prog 9=some false:=by kernel_rfl
theorem pP:bB prog 9=some 1:=by kernel_rfl
theorem AW {m v i:Nat}(h:((mP m v i:Nat):Int)≠2):m.testBit i=true:=by
 cases hb:m.testBit i
 ·exact absurd (by rw[pz.2 hb];rfl) h
 ·rfl
theorem DV {m v p i:Nat}(hm:m.testBit i=true):((mP m v i:Nat):Int)=((p / 2^i % 2:Nat):Int)↔v.testBit i=p.testBit i:=by
 rw[pN];unfold mP;rw[hm]
 cases v.testBit i <;> cases p.testBit i <;> simp
theorem Ie:enters prog 66=true:=by kernel_rfl
theorem Lt (m v:Nat)(n:Int)(hn:n<0∨8<n)(w:World):bt prog 66 [cv m v,.int .i64 n] w fun r w'=>r=.bool false∧aT w w':=by
 refine ar (N:=29) func66 Ie rfl rfl rfl (by simp) ?_;have H:=Hp.aC w;refine H.box 48 (cv _ _) (cs:=cc _ _) rfl ?_;clear H;intro g1 w1 H;refine au (fun h2=>?_) (fun h2=>?_)
 ·refine ag (decide_eq_true (by assumption)) ?_;refine ag (decide_eq_true (by assumption)) ?_;refine ag rfl ?_;exact ⟨rfl,H.keeps⟩
 ·refine af (decide_eq_false (by assumption)) ?_;refine af (decide_eq_false (by assumption)) ?_;refine ag (decide_eq_true (by omega)) ?_;exact ⟨rfl,H.keeps⟩
theorem Lu (m v:Nat)(hm:m<256)(hv:v<256)(n:Nat)(hn:n≤8)(w:World):bt prog 66 [cv m v,.int .i64 (n:Int)] w fun r w'=>r=.bool (dC m v n)∧aT w w':=by
 refine ar (N:=29) func66 Ie rfl rfl rfl (by simp) ?_;have H:=Hp.aC w;refine H.box 48 (cv _ _) (cs:=cc _ _) rfl ?_;clear H;intro g1 w1 H
 iterate 3 refine af rfl ?_
 refine af (decide_eq_false (by omega)) ?_;refine H.ai 0 rfl bw aO ?_;refine aj (Ob _ _ (by first | assumption | omega | decide | (repeat' (first | assumption | refine df ?_ _ | refine xor_lt8 ?_ ?_ | refine or_lt8 ?_ ?_))) (by first | assumption | omega | decide | (repeat' (first | assumption | refine df ?_ _ | refine xor_lt8 ?_ ?_ | refine or_lt8 ?_ ?_))) _) ?_;rintro _ w7 ⟨A7,k7,rfl,hk⟩;replace H:=H.bD hk;clear hk;refine ax (γ:=Nat) (fun i=>[(6,.int .i64 (i:Int))])
  (fun i w'=>(n≤i∧i≤8∧∀ j,n≤j→j<i→m.testBit j=false)∧Hp w ab w' [own 3 1 (.slice A7 8 k7) 8 (ints (lits m v)),an g1 48 (cc m v)] []) (fun i=>8 - i) n ⟨rfl,trivial⟩ ⟨⟨by omega,by omega,by intro j hj;omega⟩,H⟩ ?_
 clear H;rintro i u w8 ⟨⟨hni,hi,hall⟩,H⟩;refine au (fun h2=>?_) (fun h2=>?_)
 ·(obtain ⟨g3,rfl⟩:=H.mq 0 rfl (by omega))
  refine aq underlying75 (s:=1) (by kernel_rfl) _ rfl (by first | omega | decide | (simp only[IntKind.wrap_i64];omega) | (simp;done) | (simp;omega)) (o':=_) (by rw[Nat.zero_add,Nat.mul_one]) ?_;refine H.dX 0 rfl aE (sW (by omega)) ?_;refine de (fun h6=>?_) (fun h6=>?_)
  ·refine ⟨congrArg Value.bool ?_,H.keeps⟩;have hb:m.testBit i=true:=by
    cases hb:m.testBit i
    ·exact absurd (by rw[pz.2 hb];rfl) h6
    ·rfl
   symm;rw[Bool.eq_false_iff];intro hr;have:=((eh hm hv).1 hr).2.2.1;rw[Int.toNat_natCast] at this;rw[dB this hni] at hb
   cases hb
  ·refine ⟨i+1,by omega,⟨up (by omega),trivial⟩,⟨by omega,by omega,fun j hj hj'=>?_⟩,H⟩;by_cases hji:j=i
   ·subst hji;exact pz.1 (by exact_mod_cast h6)
   ·exact hall j hj (by omega)
 ·refine H.draw eS (by kernel_rfl) ?_;clear H;intro w12 H;refine aj (Oc (lits m v) (by rw[jj];omega) (fun x hx=>by obtain ⟨i,_,rfl⟩:=List.mem_map.1 hx;exact FY m v i) _ _ _ (bE (H.get 0 rfl))) ?_;rintro _ w13 ⟨rfl,hk⟩;rw[y6 hm,y7 hm hv];replace H:=H.same hk;clear hk;refine ⟨.inl H,?_⟩;refine quiet _ (fun w H=>H.ai 1 rfl bw aO ae) ?_;refine quiet _ (fun w H=>Ce ae) ?_;refine ⟨congrArg Value.bool ?_,H.keeps⟩;rw[beq_self_eq_true,Bool.true_and];have hlt:m<2^n:=sr hm fun j hj hj'=>hall j hj (by omega);rw[Bool.eq_iff_iff,eh hm hv,beq_iff_eq,Int.toNat_natCast];exact ⟨fun h=>⟨by omega,by omega,hlt,h⟩,fun h=>h.2.2.2⟩
theorem Lw:enters prog 33=true:=by kernel_rfl
theorem Od (m v:Nat)(hm:m<256)(hv:v<256)(p:Nat)(hp:p<9223372036854775808)(w:World):bt prog 33 [cv m v,.int .i64 (p:Int)] w fun r w'=>r=.bool (uq m v p)∧aT w w':=by
 refine ar (N:=28) func33 Lw rfl rfl rfl (by simp) ?_;have H:=Hp.aC w;refine H.box 48 (cv _ _) (cs:=cc _ _) rfl ?_;clear H;intro g1 w1 H;refine H.ai 0 rfl bw aO ?_;refine aj (Ob _ _ (by first | assumption | omega | decide | (repeat' (first | assumption | refine df ?_ _ | refine xor_lt8 ?_ ?_ | refine or_lt8 ?_ ?_))) (by first | assumption | omega | decide | (repeat' (first | assumption | refine df ?_ _ | refine xor_lt8 ?_ ?_ | refine or_lt8 ?_ ?_))) _) ?_;rintro _ w3 ⟨A3,k3,rfl,hk⟩;replace H:=H.bD hk;clear hk;refine ax (γ:=Nat) (fun i=>[(6,.int .i64 (i:Int))])
  (fun i w'=>(i≤8∧∀ j,j<i→(!m.testBit j||(v.testBit j==p.testBit j))=true)∧Hp w ab w' [own 3 1 (.slice A3 8 k3) 8 (ints (lits m v)),an g1 48 (cc m v)] []) (fun i=>8 - i) 0 ⟨rfl,trivial⟩ ⟨⟨by omega,by intro j hj;omega⟩,H⟩ ?_
 clear H;rintro i u w8 ⟨⟨hi,hall⟩,H⟩;refine au (fun h2=>?_) (fun h2=>?_)
 ·refine H.draw eS (by kernel_rfl) ?_;clear H;intro w4 H
  (obtain ⟨g5,rfl⟩:=H.mq 0 rfl (by omega))
  refine quiet _ (fun w H=>aq underlying75 (s:=1) (by kernel_rfl) _ rfl (by first | omega | decide | (simp only[IntKind.wrap_i64];omega) | (rw[gY,List.length_map];omega) | (rw[ee];omega) | (rw[ints_length];omega) | (simp;done) | (simp;omega)) (o':=_) (by rw[Nat.zero_add,Nat.mul_one]) ae) ?_;refine quiet _ (fun w H=>H.dX 0 rfl aE (sW (by omega)) ae) ?_;refine de (fun h9=>?_) (fun h9=>?_)
  ·refine ag (bne_iff_ne.2 (by omega)) ?_;refine ag (bne_iff_ne.2 (by omega)) ?_;refine quiet _ (fun w H=>aq underlying75 (s:=1) (by kernel_rfl) _ rfl (by first | omega | decide | (simp only[IntKind.wrap_i64];omega) | (rw[gY,List.length_map];omega) | (rw[ee];omega) | (rw[ints_length];omega) | (simp;done) | (simp;omega)) (o':=_) (by rw[Nat.zero_add,Nat.mul_one]) ae) ?_;refine ag (bne_iff_ne.2 (by omega)) ?_;refine quiet _ (fun w H=>H.dX 0 rfl aE (sW (by omega)) ae) ?_
   iterate 3 refine ag (bne_iff_ne.2 (by omega)) ?_
   refine aj (Oa _ _ (by first | assumption | omega | decide | (repeat' (first | assumption | refine df ?_ _ | refine xor_lt8 ?_ ?_ | refine or_lt8 ?_ ?_))) (by first | assumption | omega | decide | (repeat' (first | assumption | refine df ?_ _ | refine xor_lt8 ?_ ?_ | refine or_lt8 ?_ ?_))) _) ?_;rintro _ w18 ⟨rfl,hk⟩;replace H:=H.same hk;clear hk;refine ⟨.inl H,?_⟩
   iterate 2 refine ag (bne_iff_ne.2 (by omega)) ?_
   refine de (fun h22=>?_) (fun h22=>?_)
   ·refine ⟨congrArg Value.bool ?_,H.keeps⟩;have hmb:=AW h9;have hvb:=mt (DV (v:=v) (p:=p) hmb).2 h22;symm;rw[Bool.eq_false_iff];intro hc;rw[uq,List.all_eq_true] at hc;have:=hc i (List.mem_range.2 (by omega));rw[hmb] at this;exact hvb (by simpa using this)
   ·have hmb:=AW h9;refine ⟨i+1,by omega,⟨up (by omega),trivial⟩,⟨by omega,fun j hj=>?_⟩,H⟩;by_cases hji:j=i
    ·subst hji;rw[(DV hmb).1 h22];simp
    ·exact hall j (by omega)
  ·refine af (bne_eq_false_iff_eq.2 (by omega)) ?_
   iterate 7 refine af (bne_eq_false_iff_eq.2 (by omega)) ?_
   refine af rfl ?_;have hmb:=pz.1 (show mP m v i=2 by exact_mod_cast h9);refine ⟨i+1,by omega,⟨up (by omega),trivial⟩,⟨by omega,fun j hj=>?_⟩,H⟩;by_cases hji:j=i
   ·subst hji;rw[hmb];rfl
   ·exact hall j (by omega)
 ·refine ⟨congrArg Value.bool ?_,H.keeps⟩;symm;rw[uq,List.all_eq_true];intro j hj;exact hall j (by have:=List.mem_range.1 hj;omega)
theorem Oe (m v:Nat)(hm:m<256)(hv:v<256)(n:Int)(w:World):bt prog 66 [cv m v,.int .i64 n] w fun r w'=>r=.bool (dC m v n)∧aT w w':=by
 by_cases h:n<0∨8<n
 ·have e:dC m v n=false:=by unfold dC;rcases h with h | h <;> simp <;> omega
  rw[e];exact Lt m v n h w
 ·obtain ⟨k,rfl⟩:=Int.eq_ofNat_of_zero_le (show 0≤n by omega);exact Lu m v hm hv k (by omega) w
theorem gQ (l:List UInt8):(⟨l.toArray⟩:ByteArray).size=l.length:=by simp[ByteArray.size]
def bM (b:UInt8):Nat:=if b==48 then 0 else if b==49 then 1 else 2
theorem uQ {l:List UInt8}{i:Nat}(hi:i<l.length)(ha:l[i].toNat<128):Utf8.decode ⟨l.toArray⟩ i=(l[i].toNat,1):=by
 have:=decode_ascii ⟨l.toArray⟩ i (by rw[gQ];exact hi) ha;exact this
theorem uR {l:List UInt8}{i:Nat}(hi:i<l.length)(ha:¬ l[i].toNat<128):128≤(Utf8.decode ⟨l.toArray⟩ i).1:=
 (decode_high ⟨l.toArray⟩ i (by rw[gQ];exact hi) (show 128≤l[i].toNat from Nat.le_of_not_lt ha)).1
theorem sX {f:Nat→Bool}{i:Nat}(hf:f i=true):mkSet f (i+1)=mkSet f i |||2^i:=by
 apply Nat.eq_of_testBit_eq;intro j;rw[Nat.testBit_or,cT,cT,Nat.testBit_two_pow];by_cases h:i=j
 ·subst h;simp[hf]
 ·have:j<i+1↔j<i:=by omega
  simp[h,this]
theorem qJ {f:Nat→Bool}{i:Nat}(hf:f i=false):mkSet f (i+1)=mkSet f i:=by
 rw[mkSet,hf];rfl
theorem lg {l:List UInt8}{i:Nat}(hall:∀ j (h:j<l.length),j<i→gL l[j]=true){hi:i<l.length}(hb:gL l[i]=true):∀ j (h:j<l.length),j<i+1→gL l[j]=true:=by
 intro j hj hj';by_cases hji:j=i
 ·subst hji;exact hb
 ·exact hall j hj (by omega)
theorem qM {l:List UInt8}{i:Nat}(hi:i<l.length):(l.take (i+1)).map bM=(l.take i).map bM++[bM l[i]]:=by
 rw[List.take_succ_eq_append_getElem hi,List.map_append];rfl
theorem sY {l:List UInt8}(h8:l.length≤8)(h:∀ j (hj:j<l.length),gL l[j]=true):bl l=true:=by
 unfold bl;simp only[Bool.and_eq_true,decide_eq_true_eq,List.all_eq_true];refine ⟨h8,fun x hx=>?_⟩;obtain ⟨j,hj,rfl⟩:=List.mem_iff_getElem.1 hx;exact h j hj
theorem ns {l:List UInt8}{i:Nat}(hi:i<l.length)(h:gL l[i]=false):bl l=false:=by
 rw[Bool.eq_false_iff];intro hp;unfold bl at hp;simp only[Bool.and_eq_true,decide_eq_true_eq,List.all_eq_true] at hp;rw[hp.2 _ (List.getElem_mem hi)] at h
 cases h
theorem nt {b:UInt8}(h0:¬ (b.toNat:Int)=48)(h1:¬ (b.toNat:Int)=49)(h2:¬ (b.toNat:Int)=45):gL b=false:=by
 rw[Bool.eq_false_iff];intro h;unfold gL at h;simp only[Bool.or_eq_true,beq_iff_eq] at h;rcases h with (rfl | rfl) | rfl
 ·exact h2 rfl
 ·exact h0 rfl
 ·exact h1 rfl
theorem DW {l:List UInt8}:∀ x ∈ l.map bM,x≤2:=by
 intro x hx;obtain ⟨b,_,rfl⟩:=List.mem_map.1 hx;unfold bM;split
 ·omega
 ·split <;> omega
theorem sZ {b:UInt8}(h:gL b=true):b=45∨b=48∨b=49:=by
 unfold gL at h;simp only[Bool.or_eq_true,beq_iff_eq] at h;rcases h with (h | h) | h
 ·exact .inl h
 ·exact .inr (.inl h)
 ·exact .inr (.inr h)
theorem zm {l:List UInt8}(h:bl l=true):xi (l.map bM)=dJ l l.length:=by
 unfold bl at h;simp only[Bool.and_eq_true,decide_eq_true_eq,List.all_eq_true] at h;unfold xi dJ;rw[List.length_map];refine rk fun i hi=>?_;have hb:=sZ (h.2 _ (List.getElem_mem hi));have e1:(l.map bM).getD i 2=bM l[i]:=by simp[List.getD_eq_getElem?_getD,hi]
 have e2:l.getD i 45=l[i]:=by simp[List.getD_eq_getElem?_getD,hi]
 rw[e1,e2];rcases hb with hb | hb | hb <;> rw[hb] <;> rfl
theorem zn {l:List UInt8}(h:bl l=true):xj (l.map bM)=dK l l.length:=by
 unfold bl at h;simp only[Bool.and_eq_true,decide_eq_true_eq,List.all_eq_true] at h;unfold xj dK;rw[List.length_map];refine rk fun i hi=>?_;have hb:=sZ (h.2 _ (List.getElem_mem hi));have e1:(l.map bM).getD i 2=bM l[i]:=by simp[List.getD_eq_getElem?_getD,hi]
 have e2:l.getD i 45=l[i]:=by simp[List.getD_eq_getElem?_getD,hi]
 rw[e1,e2];rcases hb with hb | hb | hb <;> rw[hb] <;> rfl
theorem Lx:enters prog 64=true:=by kernel_rfl
def je (l:List UInt8):Value:=if bl l then cv (dJ l l.length) (dK l l.length) else cv 0 0
theorem Ot (l:List UInt8)(hl:l.length<9223372036854775808)(w:World):bt prog 64 [aU l] w fun r w'=>r=.tuple #[je l,.bool (bl l)]∧aT w w':=by
 refine ar (N:=44) func64 Lx rfl rfl rfl (by simp) ?_;have H:=Hp.aC w;have hsz:=gQ l;refine H.alloc 48 (cs:=cc 0 0) fa rfl ?_;clear H;intro g1 w1 H;refine dY underlying9 ?_;refine au (fun h3=>?_) (fun h3=>?_)
 ·refine lP ?_;refine H.bQ 0 rfl ?_;clear H;intro w5 H;refine H.ai 0 rfl bw aO ?_;refine ⟨rfl,?_⟩;have e:bl l=false:=by unfold bl;rw[decide_eq_false (by omega)];rfl
  refine ⟨?_,H.keeps⟩;simp only[je,e,Bool.false_eq_true,if_false];rfl
 ·have H:=H.bx 3 1;refine ax (γ:=Nat × Option Addr × Nat) (fun (i,A,c)=>[(5,.int .i64 (i:Int)),(4,.slice A i c)])
   (fun (i,A,c) w'=>(i≤l.length∧∀ j (h:j<l.length),j<i→gL l[j]=true)∧Hp w ab w' [own 3 1 (.slice A i c) i (ints ((l.take i).map bM)),an g1 48 (cc 0 0)] []) (fun (i,_,_)=>l.length - i) (0,none,0) ⟨rfl,rfl,trivial⟩ ⟨⟨by omega,by intro j _ hj;omega⟩,H⟩ ?_
  clear H;rintro ⟨i,A,c⟩ u w8 ⟨⟨hi,hall⟩,H⟩;refine dY underlying9 ?_;refine au (fun h4=>?_) (fun h4=>?_)
  ·refine iA (by omega) underlying9 ?_;refine au (fun h6=>?_) (fun h6=>?_)
   ·refine ag (decide_eq_true (by assumption)) ?_
    iterate 3 refine ag (decide_eq_true (by assumption)) ?_
    refine ag rfl ?_;refine iA (by omega) underlying9 ?_;refine iy (by kernel_rfl) underlying3 (by omega) (by omega) ?_;refine H.aX dy rfl ?_;clear H;intro g15 w15 H;refine H.cf 0 dy rfl rfl (by omega) (by omega) ?_;clear H;intro A16 k16 w16 H;have hb:l[i]=48:=UInt8.toNat_inj.1 (show l[i].toNat=48 by omega);refine ⟨(i+1,_,_),by show l.length - (i+1)<l.length - i;omega,⟨up (by omega),rfl,trivial⟩,⟨by show i+1≤l.length;omega,lg hall (by rw[hb];rfl)⟩,?_⟩;have e:IntKind.i64.wrap ((l[i].toNat:Int) - 48)=((bM l[i]:Nat):Int):=by rw[aH (by omega) (by omega),hb];rfl
    rw[e,jd,← qM (by omega)] at H;exact H
   ·refine af (decide_eq_false (by assumption)) ?_;refine af (decide_eq_false (by assumption)) ?_;refine iA (by omega) underlying9 ?_
    iterate 2 refine af (decide_eq_false (by assumption)) ?_
    refine au (fun h23=>?_) (fun h23=>?_)
    ·refine iA (by omega) underlying9 ?_;refine iy (by kernel_rfl) underlying3 (by omega) (by omega) ?_;refine H.aX dy rfl ?_;clear H;intro g26 w26 H;refine H.cf 0 dy rfl rfl (by omega) (by omega) ?_;clear H;intro A27 k27 w27 H;have hb:l[i]=49:=UInt8.toNat_inj.1 (show l[i].toNat=49 by omega);refine ⟨(i+1,_,_),by show l.length - (i+1)<l.length - i;omega,⟨up (by omega),rfl,trivial⟩,⟨by show i+1≤l.length;omega,lg hall (by rw[hb];rfl)⟩,?_⟩;have e:IntKind.i64.wrap ((l[i].toNat:Int) - 48)=((bM l[i]:Nat):Int):=by rw[aH (by omega) (by omega),hb];rfl
     rw[e,jd,← qM (by omega)] at H;exact H
    ·refine iA (by omega) underlying9 ?_;refine au (fun h30=>?_) (fun h30=>?_)
     ·refine H.aX dy rfl ?_;clear H;intro g31 w31 H;refine H.cf 0 dy rfl rfl (by omega) (by omega) ?_;clear H;intro A32 k32 w32 H;have hb:l[i]=45:=UInt8.toNat_inj.1 (show l[i].toNat=45 by omega);refine ⟨(i+1,_,_),by show l.length - (i+1)<l.length - i;omega,⟨up (by omega),rfl,trivial⟩,⟨by show i+1≤l.length;omega,lg hall (by rw[hb];rfl)⟩,?_⟩;have e:(2:Int)=((bM l[i]:Nat):Int):=by rw[hb];rfl
      rw[e,jd,← qM (by omega)] at H;exact H
     ·refine lP ?_;refine H.bQ 1 rfl ?_;clear H;intro w35 H;refine H.ai 1 rfl bw aO ?_;refine ⟨rfl,?_⟩;have e:bl l=false:=ns (i:=i) (by omega) (nt h6 h23 h30);refine ⟨?_,H.keeps⟩;simp only[je,e,Bool.false_eq_true,if_false];rfl
  ·obtain rfl:i=l.length:=by omega
   rw[List.take_length] at H;have hok:bl l=true:=sY (by omega) fun j hj=>hall j hj hj;have hlm:(l.map bM).length=l.length:=List.length_map ..;have hc:=Oc (l.map bM) (by omega) DW A c w8 (by rw[hlm];exact bE (H.get 0 rfl));rw[hlm] at hc;refine aj hc ?_;rintro _ w9 ⟨rfl,hk⟩;replace H:=H.same hk;clear hk;rw[zm hok,zn hok];refine H.bQ 1 rfl ?_;clear H;intro w2 H;refine H.ai 1 rfl bw aO ?_;refine ⟨rfl,?_⟩;refine ⟨?_,H.keeps⟩;simp only[je,hok,if_true];rfl
theorem IL:enters prog 101=true:=by kernel_rfl
theorem Nk (l:List UInt8)(hl:l.length<9223372036854775808)(w:World):bt prog 101 [aU l] w fun r w'=>r=.tuple #[je l,.int .i64 (if bl l then 0 else 2)]∧aT w w':=by
 refine ar (N:=44) func101 IL rfl rfl rfl (by simp) ?_;have H:=Hp.aC w;have hsz:=gQ l;refine H.alloc 48 (cs:=cc 0 0) fa rfl ?_;clear H;intro g1 w1 H;refine dY underlying9 ?_;refine au (fun h3=>?_) (fun h3=>?_)
 ·refine lP ?_;refine H.bQ 0 rfl ?_;clear H;intro w5 H;refine H.ai 0 rfl bw aO ?_;refine ⟨rfl,?_⟩;have e:bl l=false:=by unfold bl;rw[decide_eq_false (by omega)];rfl
  refine ⟨?_,H.keeps⟩;simp only[je,e,Bool.false_eq_true,if_false];rfl
 ·refine H.alloc 48 (cs:=cc 0 0) fa rfl ?_;clear H;intro g9 w9 H;refine H.xM underlying9 ?_;clear H;intro g10 w10 H;refine ax (γ:=Nat) (fun i=>[])
   (fun i w'=>(i≤l.length∧∀ j (h:j<l.length),j<i→gL l[j]=true)∧Hp w ab w' [rC g10 ⟨l.toArray⟩ i,an g9 48 (cc (dJ l i) (dK l i)),an g1 48 (cc 0 0)] []) (fun i=>l.length - i) 0 trivial ⟨⟨by omega,by intro j _ hj;omega⟩,H⟩ ?_
  clear H;rintro i u w11 ⟨⟨hi,hall⟩,H⟩;refine H.AT 0 rfl (fun hp w12 H=>?_) (fun hp=>?_)
  ·have hp':i<l.length:=by omega
   have hlt8:dJ l i<256:=uz (fun j=>l.getD j 45 !=45) (show i≤8 by omega);have hlt8v:dK l i<256:=uz (fun j=>l.getD j 45==49) (show i≤8 by omega);have hp2:2^i<256:=by have:=pO (show i<8 by omega);omega
   have hgd:l.getD i 45=l[i]:=by simp[List.getD_eq_getElem?_getD,hp']
   by_cases ha:l[i].toNat<128
   ·rw[uQ hp' ha] at H ⊢;refine ag rfl ?_;refine au (fun h4=>?_) (fun h4=>?_)
    ·refine H.draw eS (by kernel_rfl) ?_;clear H;intro w5 H;refine quiet _ (fun w H=>aa (fJ _) ae) ?_;refine quiet _ (fun w H=>H.load 1 rfl cg rfl ae) ?_;refine quiet _ (fun w H=>b8 (by omega) ae) ?_;refine quiet _ (fun w H=>iW (by first | assumption | omega | (repeat' (first | assumption | refine df ?_ _ | refine xor_lt8 ?_ ?_ | refine or_lt8 ?_ ?_))) (by first | assumption | omega | (repeat' (first | assumption | refine df ?_ _ | refine xor_lt8 ?_ ?_ | refine or_lt8 ?_ ?_))) ae) ?_;refine quiet _ (fun w H=>aa (fJ _) ae) ?_;refine H.store 1 rfl lf (Nat.le_of_ble_eq_true rfl) rfl ?_;clear H;intro w7 H;refine ⟨.inr rfl,?_⟩;refine H.draw eS (by kernel_rfl) ?_;clear H;intro w13 H;refine quiet _ (fun w H=>aa (b9 _) ae) ?_;refine quiet _ (fun w H=>H.load 1 rfl cg rfl ae) ?_;refine quiet _ (fun w H=>b8 (by omega) ae) ?_;refine quiet _ (fun w H=>iW (by first | assumption | omega | (repeat' (first | assumption | refine df ?_ _ | refine xor_lt8 ?_ ?_ | refine or_lt8 ?_ ?_))) (by first | assumption | omega | (repeat' (first | assumption | refine df ?_ _ | refine xor_lt8 ?_ ?_ | refine or_lt8 ?_ ?_))) ae) ?_;refine quiet _ (fun w H=>aa (b9 _) ae) ?_;refine H.store 1 rfl lf (Nat.le_of_ble_eq_true rfl) rfl ?_;clear H;intro w19 H;refine ⟨.inr rfl,?_⟩;have hb:l[i]=49:=UInt8.toNat_inj.1 (show l[i].toNat=49 from Int.ofNat_inj.1 h4);refine ⟨i+1,by omega,trivial,⟨by omega,lg hall (by rw[hb];rfl)⟩,?_⟩;have e1:dJ l (i+1)=dJ l i |||2^i:=sX (by rw[hgd,hb];rfl);have e2:dK l (i+1)=dK l i |||2^i:=sX (by rw[hgd,hb];rfl);rw[e1,e2];rw[AV rfl,vV rfl] at H;exact H
    ·refine au (fun h14=>?_) (fun h14=>?_)
     ·refine H.draw eS (by kernel_rfl) ?_;clear H;intro w15 H;refine quiet _ (fun w H=>aa (b9 _) ae) ?_;refine quiet _ (fun w H=>H.load 1 rfl cg rfl ae) ?_;refine quiet _ (fun w H=>b8 (by omega) ae) ?_;refine quiet _ (fun w H=>iW (by first | assumption | omega | (repeat' (first | assumption | refine df ?_ _ | refine xor_lt8 ?_ ?_ | refine or_lt8 ?_ ?_))) (by first | assumption | omega | (repeat' (first | assumption | refine df ?_ _ | refine xor_lt8 ?_ ?_ | refine or_lt8 ?_ ?_))) ae) ?_;refine quiet _ (fun w H=>aa (b9 _) ae) ?_;refine H.store 1 rfl lf (Nat.le_of_ble_eq_true rfl) rfl ?_;clear H;intro w6 H;refine ⟨.inr rfl,?_⟩;have hb:l[i]=48:=UInt8.toNat_inj.1 (show l[i].toNat=48 from Int.ofNat_inj.1 h14);refine ⟨i+1,by omega,trivial,⟨by omega,lg hall (by rw[hb];rfl)⟩,?_⟩;have e1:dJ l (i+1)=dJ l i |||2^i:=sX (by rw[hgd,hb];rfl);have e2:dK l (i+1)=dK l i:=qJ (by rw[hgd,hb];rfl);rw[e1,e2];rw[vV rfl] at H;exact H
     ·refine au (fun h20=>?_) (fun h20=>?_)
      ·have hb:l[i]=45:=UInt8.toNat_inj.1 (show l[i].toNat=45 from Int.ofNat_inj.1 h20);refine ⟨i+1,by omega,trivial,⟨by omega,lg hall (by rw[hb];rfl)⟩,?_⟩;have e1:dJ l (i+1)=dJ l i:=qJ (by rw[hgd,hb];rfl);have e2:dK l (i+1)=dK l i:=qJ (by rw[hgd,hb];rfl);rw[e1,e2];exact H
      ·refine lP ?_;refine H.bQ 2 rfl ?_;clear H;intro w23 H;refine H.ai 2 rfl bw aO ?_;refine ⟨rfl,?_⟩;have e:bl l=false:=ns (i:=i) hp' (nt h14 h4 h20);refine ⟨?_,H.keeps⟩;simp only[je,e,Bool.false_eq_true,if_false];rfl
   ·have hge:=uR hp' ha;refine ag rfl ?_
    iterate 3 refine af (beq_eq_false_iff_ne.2 (by omega)) ?_
    refine lP ?_;refine H.bQ 2 rfl ?_;clear H;intro w8 H;refine H.ai 2 rfl bw aO ?_;refine ⟨rfl,?_⟩;have e:bl l=false:=ns (i:=i) hp' (nt (by omega) (by omega) (by omega));refine ⟨?_,H.keeps⟩;simp only[je,e,Bool.false_eq_true,if_false];rfl
  ·obtain rfl:i=l.length:=by omega
   refine af rfl ?_;refine H.ai 1 rfl bw aO ?_;refine H.bQ 2 rfl ?_;clear H;intro w5 H;refine H.ai 2 rfl bw aO ?_;refine ⟨rfl,?_⟩;have hok:bl l=true:=sY (by omega) fun j hj=>hall j hj hj;refine ⟨?_,H.keeps⟩;simp only[je,hok,if_true];rfl
theorem s4 {w:World}{kk:Value→World→Prop}(h:kk (sv 0) w):b7 prog 86 [] w kk:=n7 h
end Go.Proofs.YtpjihhgjbbihkaaGreatDoor
namespace Go.Proofs.YtpjihhgjbbihkaaGreatDoor
open Go.Proofs.Tryz
set_option maxRecDepth 100000
open Go.Dk Go.ChangeShapes Go.WideShapes Go.ChangeAt Go.RowKit Go.ChangeMaps
section
variable {H:Type} {enc:TypeId × Value→H} {w:World} {base b:Nat} {spare:Nat→Bool} {held:Bool}
theorem byte_at {fuel:Nat}{c:Value}{x:DataW H × List MemPlace}(h:DataW.trod enc prog w base spare held fuel 5 [c]=some x):∃ n:Nat,c=.int .u8 n∧n<256:=by
 obtain ⟨m,hc,rfl,hw⟩:=DataW.trod_int underlying5 h;simp[Lit.wf,IntKind.min,IntKind.max,IntKind.signed,IntKind.bits] at hw;obtain ⟨n,rfl⟩:=Int.eq_ofNat_of_zero_le hw.1;simp at hc;exact ⟨n,hc,by omega⟩
set_option maxRecDepth 100000 in
theorem Gg {fuel:Nat}{cs:List Value}{x:DataW H × List MemPlace}(h:DataW.trod enc prog w base spare held fuel 48 cs=some x):∃ m s:Nat,m<256∧s<256∧cs=(cc m s).toList:=by
 obtain ⟨y0,y1,n,_,hl,h0,h1⟩:=trod_struct2 underlying48 h;have h2:Tryz.prog.cellsOf 48=2:=by kernel_rfl
 have h5:Tryz.prog.cellsOf 5=1:=by kernel_rfl
 rw[h2] at hl;rw[h5] at h0 h1
 match cs,hl,h0,h1 with
 | [c0,c1],_,h0,h1=>
  obtain ⟨m,rfl,hm⟩:=byte_at h0;obtain ⟨s,rfl,hs⟩:=byte_at h1;exact ⟨m,s,hm,hs,rfl⟩
set_option maxRecDepth 100000 in
theorem arg_str {v:Value}{d:DataW H}{ps:List MemPlace}(hval:Value.okWide prog w .any b 9 v)(h:DataW.Trod enc prog w base spare held 9 v d ps):∃ l:List UInt8,l.length<9223372036854775808∧v=aU l:=by
 obtain ⟨s,rfl,_,_,hs⟩:=open_string underlying9 hval h;refine ⟨s.data.toList,?_,?_⟩
 ·have:s.size=s.data.toList.length:=rfl;unfold maxLen at hs;omega
 ·unfold aU;simp
end
end Go.Proofs.YtpjihhgjbbihkaaGreatDoor
namespace Go.Dk
set_option maxRecDepth 100000
abbrev Hp.cl {w0 w:World}{F:Nat→Prop}{L M:List cC}(_:Hp w0 F w L M)(w':World):Prop:=Hp w0 F w' L M
end Go.Dk
namespace Go.Proofs.YtpjihhgjbbihkaaGreatDoor
open Go.Proofs.Tryz
set_option maxRecDepth 100000
open Go.Dk
attribute [local irreducible] IntKind.wrap
def k3 (a b c:Int):Value:=.agg #[.int .i64 a,.int .i64 b,.int .i64 c]
theorem r7:eH prog 292=some (k3 0 0 0):=by kernel_rfl
theorem nu:cH prog 292=some true:=by kernel_rfl
theorem dF:bB prog 292=some 3:=by kernel_rfl
theorem jf:cH prog 238=some false:=by kernel_rfl
theorem Gh:bB prog 238=some 1:=by kernel_rfl
theorem o8:cH prog 237=some false:=by kernel_rfl
theorem AX:eH prog 3=some (.int .i64 0):=by kernel_rfl
theorem Ly:qu prog 238 292 (k3 0 0 0) 3 24:=⟨underlying238,by kernel_rfl,rfl,by decide⟩
theorem Cf (a b c a' b' c':Int)(w:World):(Op.equal 292 (k3 a b c) (k3 a' b' c')).run prog w=.ok (a==a'&&(b==b'&&c==c')) w:=by
 have hr:∀ d',(Op.equalIn (d'+2) 292 (k3 a b c) (k3 a' b' c')).run prog w=.ok (a==a'&&(b==b'&&c==c')) w:=by
  intro d';unfold k3;rw[Op.equalIn];have i0:=dE underlying3 d' a a';have i1:=dE underlying3 d' b b';have i2:=dE underlying3 d' c c';have p0:∀ (x y z:Int) w,(Go.part 3 #[.int .i64 x,.int .i64 y,.int .i64 z] 0).run prog w=.ok (.int .i64 x) w:=fun x y z w=>gg aE rfl w;have p1:∀ (x y z:Int) w,(Go.part 3 #[.int .i64 x,.int .i64 y,.int .i64 z] 1).run prog w=.ok (.int .i64 y) w:=fun x y z w=>gg aE rfl w;have p2:∀ (x y z:Int) w,(Go.part 3 #[.int .i64 x,.int .i64 y,.int .i64 z] 2).run prog w=.ok (.int .i64 z) w:=fun x y z w=>gg aE rfl w;generalize (a==a')=b0 at *;generalize (b==b')=b1 at *;generalize (c==c')=b2 at *;have hst:Tryz.prog.stoodInHeld 292=false:=by kernel_rfl
  simp only[Sem.run_bind,run_underlying underlying292,Result.andThen_ok,Go.Dk.run_sizeOf dF,run_program,hst]
  cases b0 <;> cases b1 <;> cases b2 <;> simp[p0,p1,p2,i0,i1,i2]
 exact hr 9998
theorem DX {a b c a' b' c':Int}:k3 a b c=k3 a' b' c'↔a=a'∧b=b'∧c=c':=by simp[k3]
def Lz (v:Value):Prop:=∃ a b c,v=k3 a b c
theorem DY (a b c:Int)(em:Bool)(w:World):(Instr.checkKey em 10000 292 (k3 a b c)).run prog w=.ok () w:=by kernel_rfl
theorem uS (w:World)(a b c:Int):∀ (es:List MapEntry) (i:Nat),(∀ e ∈ es,Lz e.key)→
  ((Instr.findAsking 292 (k3 a b c) es i).run prog w=.ok none w∧∀ e ∈ es,e.key≠k3 a b c)∨∃ j e,(Instr.findAsking 292 (k3 a b c) es i).run prog w=.ok (some (i+j,e.val)) w∧es[j]?=some e∧e.key=k3 a b c
 | [],i,_=>.inl ⟨by simp[Instr.findAsking],by simp⟩
 | e::es,i,h=>by
  obtain ⟨a',b',c',he⟩:=h e (.head _);have hq:=Cf a b c a' b' c' w;by_cases hk:a=a'∧b=b'∧c=c'
  ·obtain ⟨rfl,rfl,rfl⟩:=hk;exact .inr ⟨0,e,by simp[Instr.findAsking,he,hq],rfl,he⟩
  ·have hf:(a==a'&&(b==b'&&c==c'))=false:=by
    rw[Bool.eq_false_iff];intro hh;simp at hh;exact hk hh
   rw[hf] at hq;have hne:e.key≠k3 a b c:=fun hh=>hk (by rw[he,DX] at hh;exact ⟨hh.1.symm,hh.2.1.symm,hh.2.2.symm⟩);rcases uS w a b c es (i+1) (fun x hx=>h x (.tail _ hx)) with ⟨h1,h2⟩ | ⟨j,e',h1,h2,h3⟩
   ·refine .inl ⟨by simp[Instr.findAsking,he,hq,h1],fun x hx=>?_⟩;rcases List.mem_cons.1 hx with rfl | hx
    ·exact hne
    ·exact h2 x hx
   ·exact .inr ⟨j+1,e',by simp[Instr.findAsking,he,hq,h1];omega,by simpa using h2,h3⟩
theorem LA:KL prog 292 Lz where
 check:=by rintro w em _ ⟨a,b,c,rfl⟩;exact DY a b c em w
 find:=by
  rintro w _ ⟨a,b,c,rfl⟩ es he
  cases es with
  | nil=>exact .inl ⟨by simp[Instr.findKey,run_underlying underlying292,Instr.findNow],by simp⟩
  | cons e es=>
   have hn:∀ fs,Instr.findNow (.struct fs) (k3 a b c) (e::es) 0=none:=fun fs=>rfl;have:=uS w a b c (e::es) 0 he;simp only[Nat.zero_add] at this;simp only[Instr.findKey,Sem.run_bind,run_underlying underlying292,Result.andThen_ok,hn];exact this
 stays:=by
  rintro w _ ⟨a,b,c,rfl⟩;have:Instr.sameBits 10000 (k3 a b c) (k3 a b c)=true:=by
   show (_&&_)=true;simp[Instr.sameBits]
  simp[Instr.keyThatStays,this]
def y2 (n:Nd):Value:=k3 n.l n.lo n.hi
def y3 (i:Nat):Value:=.int .i64 (i:Int)
theorem vX:kQ prog 237 292 3 y2 y3 (.int .i64 0) where
 und:=underlying237
 key:=LA.mono fun _ ⟨n,h⟩=>⟨_,_,_,h⟩
 inj:=by
  rintro ⟨l,lo,hi⟩ ⟨l',lo',hi'⟩ h;obtain ⟨h1,h2,h3⟩:=DX.1 h;simp only at h1 h2 h3;obtain rfl:=Int.ofNat_inj.1 h1;obtain rfl:=Int.ofNat_inj.1 h2;obtain rfl:=Int.ofNat_inj.1 h3;rfl
 zero:=AX
abbrev Slot:=Sum Nd (Int × Int)
def mR:Slot→List Value
 | .inl n=>[.int .i64 n.l,.int .i64 n.lo,.int .i64 n.hi]
 | .inr (x,y)=>[.int .i64 (-1),.int .i64 x,.int .i64 y]
theorem gh (s:Slot):(mR s).length=3:=by cases s <;> rfl
theorem lQ (s:Slot):∀ v ∈ mR s,v.oneCell'=true:=by
 intro v hv
 cases s <;> simp[mR] at hv <;> rcases hv with rfl | rfl | rfl <;> rfl
def M5:Slot→Option Nd
 | .inl n=>some n
 | .inr _=>none
def im (N:List Slot):Ar:=N.map M5
theorem fm (N:List Slot):(im N).length=N.length:=by simp[im]
theorem nv {N:List Slot}{i:Nat}{s:Slot}(h:N[i]?=some s):slot (im N) i=M5 s:=by
 unfold slot im;rw[List.getD_eq_getElem?_getD,List.getElem?_map,h];rfl
theorem Gi (N:List Slot)(i:Nat)(s:Slot):im (N.set i s)=(im N).set i (M5 s):=by simp[im,List.map_set]
theorem DZ (N:List Slot)(s:Slot):im (N++[s])=im N++[M5 s]:=by simp[im]
def nw (sv:Value)(A:Ar):cC:=
 ⟨fun g=>sv.ownBlock=some g,fun w=>∃ N:List Slot,im N=A∧(own 292 3 sv N.length (flat mR N)).ok w,fun w w' h ⟨N,h1,h2⟩=>⟨N,h1,(own 292 3 sv N.length (flat mR N)).bP w w' h h2⟩⟩
def x1 (r:Nat)(A:Ar):cC:=
 ⟨fun g=>g=r,fun w=>∃ l,sK l A∧(aP y2 y3 r l).ok w,fun w w' h ⟨l,h1,h2⟩=>⟨l,h1,(aP y2 y3 r l).bP w w' h h2⟩⟩
def Gj (g r:Nat)(sv:Value)(room:Int)(A:Ar):List cC:=[an g 240 #[.int .i64 room,sv,.map (some r)],nw sv A,x1 r A]
def bF (g r:Nat)(sv:Value)(room:Int)(A:Ar):cC:=rS (Gj g r sv room A)
structure uv (room:Int) (A:Ar):Prop where
 inv:xG A
 len:(A.length:Int)≤room
 room:room≤20000
def xe (B:Option Addr)(n c:Nat)(room:Int)(r:Nat):Array Value:=#[.int .i64 room,.slice B n c,.map (some r)]
theorem lR {g r:Nat}{sv:Value}{room:Int}{A:Ar}{w:World}(h:(bF g r sv room A).ok w) :
  ∃ N B c l,im N=A∧sv=.slice B N.length c∧sK l A∧(eI l).Nodup∧
   Hp w ab w [] [an g 240 (xe B N.length c room r),own 292 3 (.slice B N.length c) N.length (flat mR N),aP y2 y3 r l]:=by
 obtain ⟨h1,h2,h3⟩:=h;obtain ⟨N,hN,hown⟩:=h1 (nw sv A) (by simp[Gj]);obtain ⟨l,hl,hmap⟩:=h1 (x1 r A) (by simp[Gj]);obtain ⟨B,c,rfl,hc⟩:=e9 hown;have hnd:(eI l).Nodup:=by
  obtain ⟨es,clock,_,hs,he⟩:=hmap;exact iY vX.inj hs he
 refine ⟨N,B,c,l,hN,rfl,hl,hnd,Hp.start w _ _ ?_ ?_⟩
 ·intro q hq;simp only[List.mem_cons,List.not_mem_nil,or_false] at hq;rcases hq with rfl | rfl | rfl
  ·exact h1 _ (by simp[Gj,xe])
  ·exact hown
  ·exact hmap
 ·intro q hq x hx;simp only[List.mem_cons,List.not_mem_nil,or_false] at hq;rcases hq with rfl | rfl | rfl
  ·exact h2 _ (by simp[Gj];exact .inl rfl) x hx
  ·exact h2 (nw (.slice B N.length c) A) (by simp[Gj]) x hx
  ·exact h2 (x1 r A) (by simp[Gj]) x hx
theorem AY (g:Nat)(w:World):(Instr.fieldAt 240 (ah g) 0).run prog w=.ok (ah g) w:=by kernel_rfl
theorem fR (g:Nat)(w:World):(Instr.fieldAt 240 (ah g) 1).run prog w=.ok (.pointer (some ⟨g,1,none⟩)) w:=by kernel_rfl
theorem my (g:Nat)(w:World):(Instr.fieldAt 240 (ah g) 2).run prog w=.ok (.pointer (some ⟨g,2,none⟩)) w:=by kernel_rfl
theorem n_ (g o:Nat)(w:World):(Instr.fieldAt 292 (.pointer (some ⟨g,o,none⟩)) 0).run prog w=.ok (.pointer (some ⟨g,o,none⟩)) w:=by kernel_rfl
theorem Gk (g o:Nat)(w:World):(Instr.fieldAt 292 (.pointer (some ⟨g,o,none⟩)) 1).run prog w=.ok (.pointer (some ⟨g,o+1,none⟩)) w:=by kernel_rfl
theorem Gl (g o:Nat)(w:World):(Instr.fieldAt 292 (.pointer (some ⟨g,o,none⟩)) 2).run prog w=.ok (.pointer (some ⟨g,o+2,none⟩)) w:=by kernel_rfl
def jO (A:Ar)(id:Int):Bool:=decide (2≤id)&&(slot A (id - 2).toNat).isSome
theorem IM {k:Nat}(hk:k<9223372036854775806):IntKind.i64.wrap ((k:Int)+2 - 2)=(k:Int):=by rw[aH (by omega) (by omega)];omega
theorem D0:enters prog 213=true:=by kernel_rfl
theorem D4 {g r:Nat}{sv:Value}{room:Int}{A:Ar}(id:Int)(hid:id<2)(w:World)(h:(bF g r sv room A).ok w):bt prog 213 [(ah g),.int .i64 id] w fun v w'=>v=.bool false∧aT w w':=by
 refine ar (N:=29) func213 D0 rfl rfl rfl (by simp) ?_;have H:=Hp.aC w
 iterate 9 refine af (decide_eq_false (by omega)) ?_
 iterate 11 refine af rfl ?_
 exact ⟨rfl,H.keeps⟩
theorem vY {g r:Nat}{sv:Value}{room:Int}{A:Ar}(k:Nat)(hk:k<9223372036854775806)(w:World)(h:(bF g r sv room A).ok w):bt prog 213 [(ah g),.int .i64 ((k:Int)+2)] w fun v w'=>v=.bool (slot A k).isSome∧aT w w':=by
 refine ar (N:=29) func213 D0 rfl rfl rfl (by simp) ?_;obtain ⟨N,B,c,l,rfl,rfl,hl,hnd,H⟩:=lR h;have hw:=IM hk
 iterate 5 refine ag (decide_eq_true (by omega)) ?_
 refine aa (fR _) ?_;refine ag (decide_eq_true (by omega)) ?_;refine jM (H.ro 0 rfl) jf rfl ?_;refine ag (decide_eq_true (by omega)) ?_;refine ay underlying238 ?_
 iterate 2 refine ag (decide_eq_true (by omega)) ?_
 refine au (fun h13=>?_) (fun h13=>?_)
 ·refine ag (decide_eq_true (by assumption)) ?_;refine ag (decide_eq_true (by assumption)) ?_;refine aa (fR _) ?_;refine ag (decide_eq_true (by assumption)) ?_;refine jM (H.ro 0 rfl) jf rfl ?_
  iterate 3 refine ag (decide_eq_true (by assumption)) ?_
  rw[hw] at h13;have hk':k<N.length:=by omega
  obtain ⟨g0,rfl⟩:=jB (H.ro 1 rfl) (by omega);obtain ⟨s,hs⟩:∃ s,N[k]?=some s:=⟨_,List.getElem?_eq_getElem hk'⟩;refine aq underlying238 dF k hw hk' (o':=k*3) (by omega) ?_;rw[nv hs]
  cases s with
  | inl n=>
   refine ag (decide_eq_true (by omega)) ?_;refine aa (n_ _ _) ?_;refine ag (decide_eq_true (by omega)) ?_;refine sL (H.ro 1 rfl) gh aE k 0 rfl hs rfl ?_
   iterate 2 refine ag (decide_eq_true (by omega)) ?_
   exact ⟨rfl,H.keeps⟩
  | inr p=>
   refine ag (decide_eq_true (by omega)) ?_;refine aa (n_ _ _) ?_;refine ag (decide_eq_true (by omega)) ?_;refine sL (H.ro 1 rfl) gh aE k 0 rfl hs rfl ?_
   iterate 2 refine ag (decide_eq_true (by omega)) ?_
   exact ⟨rfl,H.keeps⟩
 ·refine af (decide_eq_false (by assumption)) ?_
  iterate 9 refine af (decide_eq_false (by assumption)) ?_
  refine ⟨congrArg Value.bool ?_,H.keeps⟩;rw[hw] at h13;rw[uI (by rw[fm];omega)];rfl
theorem c213 {g r:Nat}{sv:Value}{room:Int}{A:Ar}(id:Int)(hid:id<9223372036854775808)(w:World)(h:(bF g r sv room A).ok w):bt prog 213 [(ah g),.int .i64 id] w fun v w'=>v=.bool (jO A id)∧aT w w':=by
 by_cases h2:id<2
 ·have e:jO A id=false:=by unfold jO;rw[decide_eq_false (by omega)];rfl
  rw[e];exact D4 id h2 w h
 ·obtain ⟨k,rfl⟩:∃ k:Nat,id=(k:Int)+2:=⟨(id - 2).toNat,by omega⟩;have e:jO A ((k:Int)+2)=(slot A k).isSome:=by
   unfold jO;rw[decide_eq_true (by omega),show ((k:Int)+2 - 2).toNat=k by omega];rfl
  rw[e];exact vY k (by omega) w h
theorem jg {xo yo:Operand}{w:World}{kk:Value→World→Prop}{g:Nat}(h:kk (.bool false) w):cU prog .eql 201 xo yo (ah g) (.pointer none) w kk:=
 vK (fun w=>by rw[eqGuard_at_pointer];kernel_rfl) h
theorem D5:enters prog 214=true:=by kernel_rfl
theorem IN {g r:Nat}{sv:Value}{room:Int}{A:Ar}(id:Int)(hid:id<2)(w:World)(h:(bF g r sv room A).ok w):bt prog 214 [(ah g),.int .i64 id] w fun v w'=>v=.int .i64 (aR A id)∧aT w w':=by
 refine ar (N:=25) func214 D5 rfl rfl rfl (by simp) ?_;have H:=Hp.aC w;unfold aR;by_cases h0:id=0∨id=1
 ·rw[if_pos h0];refine cr (fun h1=>?_) (fun h1=>?_)
  ·refine ag (beq_iff_eq.2 (by assumption)) ?_;refine ag (beq_iff_eq.2 (by assumption)) ?_;refine ag rfl ?_;exact ⟨rfl,H.keeps⟩
  ·refine af (beq_eq_false_iff_ne.2 (by assumption)) ?_;refine af (beq_eq_false_iff_ne.2 (by assumption)) ?_;refine ag (beq_iff_eq.2 (by omega)) ?_;exact ⟨rfl,H.keeps⟩
 ·rw[if_neg h0,if_neg (by omega)]
  iterate 4 refine af (beq_eq_false_iff_ne.2 (by omega)) ?_
  refine aj (D4 _ hid _ h) ?_;rintro _ w5 ⟨rfl,hk⟩;replace H:=H.same hk;clear hk;refine af rfl ?_;exact ⟨rfl,H.keeps⟩
theorem IP {g r:Nat}{sv:Value}{room:Int}{A:Ar}(k:Nat)(hk:k<9223372036854775806)(w:World)(h:(bF g r sv room A).ok w):bt prog 214 [(ah g),.int .i64 ((k:Int)+2)] w fun v w'=>v=.int .i64 (aR A ((k:Int)+2))∧aT w w':=by
 refine ar (N:=25) func214 D5 rfl rfl rfl (by simp) ?_;have h':=h;obtain ⟨N,B,c,l,rfl,rfl,hl,hnd,H⟩:=lR h;have hw:=IM hk
 cases hs:slot (im N) k with
 | none=>
  have e:aR (im N) ((k:Int)+2)= -1:=by
   unfold aR;rw[if_neg (by omega),if_pos (by omega),show ((k:Int)+2 - 2).toNat=k by omega,hs]
  rw[e]
  iterate 4 refine af rfl ?_
  refine aj (vY k hk _ h') ?_;rintro _ w5 ⟨rfl,hk⟩;replace H:=H.same hk;clear hk;rw[hs];refine af rfl ?_;exact ⟨rfl,H.keeps⟩
 | some n=>
  have hk':=pH hs;rw[fm] at hk';obtain ⟨g0,rfl⟩:=jB (H.ro 1 rfl) (by omega);obtain ⟨s,hs'⟩:∃ s,N[k]?=some s:=⟨_,List.getElem?_eq_getElem hk'⟩;have hs2:=nv hs';rw[hs] at hs2
  cases s with
  | inr p=>cases hs2
  | inl n'=>
   cases hs2
   rw[iZ hs]
   iterate 4 refine af rfl ?_
   refine aj (vY k hk _ h') ?_;rintro _ w5 ⟨rfl,hk⟩;replace H:=H.same hk;clear hk;rw[hs];refine ag rfl ?_;refine aa (fR _) ?_;refine jM (H.ro 0 rfl) jf rfl ?_;refine aq underlying238 dF k hw hk' (o':=k*3) (by omega) ?_;refine aa (n_ _ _) ?_;refine sL (H.ro 1 rfl) gh aE k 0 rfl hs' rfl ?_;exact ⟨rfl,H.keeps⟩
theorem x2 {g r:Nat}{sv:Value}{room:Int}{A:Ar}(id:Int)(hid:id<9223372036854775808)(w:World)(h:(bF g r sv room A).ok w):bt prog 214 [(ah g),.int .i64 id] w fun v w'=>v=.int .i64 (aR A id)∧aT w w':=by
 by_cases h2:id<2
 ·exact IN id h2 w h
 ·obtain ⟨k,rfl⟩:∃ k:Nat,id=(k:Int)+2:=⟨(id - 2).toNat,by omega⟩;exact IP k (by omega) w h
theorem D6:enters prog 211=true:=by kernel_rfl
theorem D7 {g r:Nat}{sv:Value}{room:Int}{A:Ar}(id:Int)(hid:id<9223372036854775808)(ht:jO A id=false)(w:World)(h:(bF g r sv room A).ok w):bt prog 211 [(ah g),.int .i64 id] w fun v w'=>v=.tuple #[.int .i64 0,.int .i64 0,.int .i64 0,.bool false]∧aT w w':=by
 refine ar (N:=31) func211 D6 rfl rfl rfl (by simp) ?_;have H:=Hp.aC w;refine jg ?_
 iterate 3 refine af rfl ?_
 refine aj (c213 id hid _ h) ?_;rintro _ w5 ⟨rfl,hk⟩;replace H:=H.same hk;clear hk;rw[ht]
 iterate 2 refine af rfl ?_
 refine ag rfl ?_;exact ⟨rfl,H.keeps⟩
theorem D8 {g r:Nat}{sv:Value}{room:Int}{A:Ar}(k:Nat)(hk:k<9223372036854775806)(n:Nd)(hs:slot A k=some n)(w:World)(h:(bF g r sv room A).ok w) :
  bt prog 211 [(ah g),.int .i64 ((k:Int)+2)] w fun v w'=>v=.tuple #[.int .i64 n.l,.int .i64 n.lo,.int .i64 n.hi,.bool true]∧aT w w':=by
 refine ar (N:=31) func211 D6 rfl rfl rfl (by simp) ?_;have h':=h;obtain ⟨N,B,c,l,rfl,rfl,hl,hnd,H⟩:=lR h;have hw:=IM hk;have hk':=pH hs;rw[fm] at hk';obtain ⟨g0,rfl⟩:=jB (H.ro 1 rfl) (by omega);obtain ⟨s,hs'⟩:∃ s,N[k]?=some s:=⟨_,List.getElem?_eq_getElem hk'⟩;have hs2:=nv hs';rw[hs] at hs2
 cases s with
 | inr p=>cases hs2
 | inl n'=>
  cases hs2
  refine jg ?_
  iterate 3 refine af rfl ?_
  refine aj (vY k hk _ h') ?_;rintro _ w5 ⟨rfl,hk⟩;replace H:=H.same hk;clear hk;rw[hs]
  iterate 3 refine af rfl ?_
  refine aa (fR _) ?_;refine jM (H.ro 0 rfl) jf rfl ?_;refine aq underlying238 dF k hw hk' (o':=k*3) (by omega) ?_;refine Ix (H.ro 1 rfl) gh nu dF k rfl hs' ?_;refine H.alloc 292 r7 rfl ?_;clear H;intro g13 w13 H;refine H.storeAll 0 rfl dF rfl (fun v hv=>lQ (.inl n) v hv) ?_;clear H;intro w14 H;refine H.draw eS (by kernel_rfl) ?_;clear H;intro w1 H;refine quiet _ (fun w H=>aa (n_ _ _) ae) ?_;refine quiet _ (fun w H=>H.load 0 rfl aE rfl ae) ?_;refine quiet _ (fun w H=>aa (Gk _ _) ae) ?_;refine quiet _ (fun w H=>H.load 0 rfl aE rfl ae) ?_;refine quiet _ (fun w H=>aa (Gl _ _) ae) ?_;refine quiet _ (fun w H=>H.load 0 rfl aE rfl ae) ?_;exact ⟨rfl,H.keeps⟩
theorem IQ:enters prog 143=true:=by kernel_rfl
theorem qN {w0 w:World}{F:Nat→Prop}{L M:List cC}{g r:Nat}{B:Option Addr}{n c:Nat}{room:Int}{N:List Slot}{l:List (Nd × Nat)}(H:Hp w0 F w (an g 240 (xe B n c room r)::own 292 3 (.slice B n c) n (flat mR N)::aP y2 y3 r l::L) M)(hn:N.length=n)(hl:sK l (im N)):Hp w0 F w (bF g r (.slice B n c) room (im N)::L) M:=by
 subst hn;have H:=H.front 1 rfl;have H:Hp w0 F w (own 292 3 (.slice B N.length c) N.length (flat mR N)::an g 240 (xe B N.length c room r)::aP y2 y3 r l::L) M:=H;have H:=H.re (r':=nw (.slice B N.length c) (im N)) (fun h=>⟨N,rfl,h⟩) (fun g hg=>hg);have H:=H.front 2 rfl;have H:Hp w0 F w (aP y2 y3 r l::nw (.slice B N.length c) (im N)::an g 240 (xe B N.length c room r)::L) M:=H;have H:=H.re (r':=x1 r (im N)) (fun h=>⟨l,hl,h⟩) (fun g hg=>hg);have H:=H.front 1 rfl;have H:Hp w0 F w (nw (.slice B N.length c) (im N)::x1 r (im N)::an g 240 (xe B N.length c room r)::L) M:=H;have H:=H.front 2 rfl;have H:Hp w0 F w (an g 240 (xe B N.length c room r)::nw (.slice B N.length c) (im N)::x1 r (im N)::L) M:=H;exact Hp.join (Ls:=Gj g r (.slice B N.length c) room (im N)) H
theorem D9 {n:Int}{r:Nat}{w:World}{kk:Value→World→Prop}(h:kk (.agg (xe none 0 0 n r)) w):b7 prog 240 [(0,.int .i64 n),(2,.map (some r))] w kk:=
 bu (fun w=>by kernel_rfl) h
theorem Gm:sK [] []:=⟨fun n=>rfl,rfl⟩
theorem IS (n:Int)(h0:0≤n)(hn:n≤20000)(w:World):bt prog 143 [.int .i64 n] w fun v w'=>∃ g r,v=.tuple #[(ah g),.int .i64 0]∧eX w w' (bF g r (.slice none 0 0) n []):=by
 refine ar (N:=14) func143 IQ rfl rfl rfl (by simp) ?_;have H:=Hp.aC w
 iterate 4 refine af (decide_eq_false (by omega)) ?_
 refine H.makeMap y2 y3 ?_;clear H;intro r5 w5 H;refine D9 ?_;refine H.box 240 _ (cs:=xe none 0 0 n r5) rfl ?_;clear H;intro g6 w6 H;have H:=(H.bx 292 3).front 1 rfl;have H:Hp w ab w6 (an g6 240 (xe none 0 0 n r5)::own 292 3 (.slice none 0 0) 0 (flat mR [])::aP y2 y3 r5 []::[]) []:=H;exact ⟨g6,r5,rfl,(qN H rfl Gm).out⟩
theorem qO {g r:Nat}{sv:Value}{room:Int}{A:Ar}{w:World}(h:(bF g r sv room A).ok w):∀ x,(bF g r sv room A).foot x→x<w.heap.size:=fun x ⟨q,hq,hx⟩=>h.2.1 q hq x hx
theorem iC {g r:Nat}{sv:Value}{room:Int}{A:Ar}{w w':World}(h:(bF g r sv room A).ok w)(hk:aT w w'):(bF g r sv room A).ok w':=
 (bF g r sv room A).bP w w' (fun x hx=>hk.old x (qO h x hx) id) h
theorem s5 {g r:Nat}{sv:Value}{room:Int}{A:Ar}{w w':World}(h:(bF g r sv room A).ok w)(hk:aT w w'):jA w w' (bF g r sv room A) (bF g r sv room A):=
 (jA.refl h (qO h)).same hk
theorem Gn {g r:Nat}{sv:Value}{room:Int}{A:Ar}{w:World}(h:(bF g r sv room A).ok w) :
  ∃ N B c l,im N=A∧sv=.slice B N.length c∧sK l A∧(eI l).Nodup∧
   Hp w (bF g r sv room A).foot w [an g 240 (xe B N.length c room r),own 292 3 (.slice B N.length c) N.length (flat mR N),aP y2 y3 r l] []:=by
 obtain ⟨N,B,c,l,rfl,rfl,hl,hnd,_⟩:=lR h;have h':=h;obtain ⟨h1,h2,h3⟩:=h';have H:=Hp.Iv h (qO h);have H:=Hp.split (Ls:=Gj g r (.slice B N.length c) room (im N)) (L:=[]) H;have H:Hp w (bF g r (.slice B N.length c) room (im N)).foot w (nw (.slice B N.length c) (im N)::an g 240 (xe B N.length c room r)::x1 r (im N)::[]) []:=H.front 1 rfl;obtain ⟨N',hN',hown⟩:=H.ok _ (.head _);have hlen:N'.length=N.length:=by rw[← fm,hN',fm]
 rw[hlen] at hown;have H:=H.re (r':=own 292 3 (.slice B N.length c) N.length (flat mR N')) (fun _=>hown) (fun g hg=>hg);have H:Hp w (bF g r (.slice B N.length c) room (im N)).foot w (x1 r (im N)::own 292 3 (.slice B N.length c) N.length (flat mR N')::an g 240 (xe B N.length c room r)::[]) []:=H.front 2 rfl;obtain ⟨l',hl',hmap⟩:=H.ok _ (.head _);have hnd':(eI l').Nodup:=by
  obtain ⟨es,clock,_,hs,he⟩:=hmap;exact iY vX.inj hs he
 have H:=H.re (r':=aP y2 y3 r l') (fun _=>hmap) (fun g hg=>hg);have H:Hp w (bF g r (.slice B N.length c) room (im N)).foot w (own 292 3 (.slice B N.length c) N.length (flat mR N')::aP y2 y3 r l'::an g 240 (xe B N.length c room r)::[]) []:=H.front 1 rfl;have H:Hp w (bF g r (.slice B N.length c) room (im N)).foot w (an g 240 (xe B N.length c room r)::own 292 3 (.slice B N.length c) N.length (flat mR N')::aP y2 y3 r l'::[]) []:=H.front 2 rfl;exact ⟨N',B,c,l',hN',by rw[hlen],hl',hnd',by rw[hlen];exact H⟩
theorem zo {α β:Type}[DecidableEq α]{ka:α→Value}{vb:β→Value}{z:Value}{P:Program}{t kt et:TypeId}{l:List (α × β)}{r:Nat}{w:World}{kk:Value→World→Prop}(hr:(aP ka vb r l).ok w)(W:kQ P t kt et ka vb z)(a:α){b:β}(hg:bR l a=some b)(h:kk (.tuple #[vb b,.bool true]) w):gw P t (.map (some r)) (ka a) true w kk:=
 k9 hr W a (fun b' hb'=>by rw[hg] at hb';cases hb';exact h) (fun hn=>by rw[hg] at hn;cases hn)
theorem rF {α β:Type}[DecidableEq α]{ka:α→Value}{vb:β→Value}{z:Value}{P:Program}{t kt et:TypeId}{l:List (α × β)}{r:Nat}{w:World}{kk:Value→World→Prop}(hr:(aP ka vb r l).ok w)(W:kQ P t kt et ka vb z)(a:α)(hg:bR l a=none)(h:kk (.tuple #[z,.bool false]) w):gw P t (.map (some r)) (ka a) true w kk:=
 k9 hr W a (fun b' hb'=>by rw[hg] at hb';cases hb') (fun _=>h)
theorem qP {P:Program}{t:TypeId}{m i x x':Value}{w:World}{k:Value→World→Prop}(hx:x=x')(h:nV P t m i x' w k):nV P t m i x w k:=by subst hx;exact h
theorem s6 {a b c:Int}{w:World}{kk:Value→World→Prop}(h:kk (k3 a b c) w):b7 prog 292 [(0,.int .i64 a),(1,.int .i64 b),(2,.int .i64 c)] w kk:=
 bu (fun w=>by kernel_rfl) h
theorem ig {A:Ar}{id:Int}(h:0≤aR A id):0≤id:=by
 rcases i_ h with rfl | rfl | ⟨i,_,rfl,_⟩ <;> omega
theorem vZ:enters prog 212=true:=by kernel_rfl
theorem IT {g r:Nat}{sv:Value}{room:Int}{A:Ar}(l lo hi:Int)(hlo:lo<9223372036854775808)(hhi:hi<9223372036854775808)(hb:l<0∨aR A lo≤l∨aR A hi≤l)(w:World)(h:(bF g r sv room A).ok w) :
  bt prog 212 [(ah g),.int .i64 l,.int .i64 lo,.int .i64 hi] w fun v w'=>v=.tuple #[.int .i64 0,.int .i64 1]∧aT w w':=by
 refine ar (N:=112) func212 vZ rfl rfl rfl (by simp) ?_;have H:=Hp.aC w;refine jg ?_
 iterate 3 refine af rfl ?_
 refine au (fun h5=>?_) (fun h5=>?_)
 ·refine ag (decide_eq_true (by assumption)) ?_
  iterate 4 refine ag (decide_eq_true (by assumption)) ?_
  iterate 7 refine ag rfl ?_
  exact ⟨rfl,H.keeps⟩
 ·refine af (decide_eq_false (by assumption)) ?_;refine af (decide_eq_false (by assumption)) ?_;refine aj (x2 _ hlo _ h) ?_;rintro _ w21 ⟨rfl,hk⟩;replace h:=iC h hk;replace H:=H.same hk;clear hk
  iterate 3 refine af (decide_eq_false (by assumption)) ?_
  refine au (fun h25=>?_) (fun h25=>?_)
  ·refine ag (decide_eq_true (by assumption)) ?_
   iterate 4 refine ag (decide_eq_true (by assumption)) ?_
   refine ag rfl ?_;exact ⟨rfl,H.keeps⟩
  ·refine af (decide_eq_false (by assumption)) ?_;refine af (decide_eq_false (by assumption)) ?_;refine aj (x2 _ hhi _ h) ?_;rintro _ w35 ⟨rfl,hk⟩;replace h:=iC h hk;replace H:=H.same hk;clear hk
   iterate 3 refine af (decide_eq_false (by assumption)) ?_
   refine ag (decide_eq_true (by omega)) ?_;exact ⟨rfl,H.keeps⟩
theorem IU {g r:Nat}{sv:Value}{room:Int}{A:Ar}(n:Nd)(hlo:(n.lo:Int)<9223372036854775808)(hhi:(n.hi:Int)<9223372036854775808)(h1:(n.l:Int)<aR A n.lo)(h2:(n.l:Int)<aR A n.hi)(i:Nat)(hf:ix A n=some i)(w:World)(h:(bF g r sv room A).ok w) :
  bt prog 212 [(ah g),.int .i64 n.l,.int .i64 n.lo,.int .i64 n.hi] w fun v w'=>v=.tuple #[.int .i64 ((i+2:Nat):Int),.int .i64 0]∧aT w w':=by
 refine ar (N:=112) func212 vZ rfl rfl rfl (by simp) ?_;have h':=h;obtain ⟨N,B,c,l,rfl,rfl,hl,hnd,H⟩:=lR h';have hg:bR l n=some (i+2):=by rw[hl.get,hf];rfl
 clear h';refine jg ?_
 iterate 6 refine af rfl ?_
 refine aj (x2 _ hlo _ h) ?_;rintro _ w10 ⟨rfl,hk⟩;replace h:=iC h hk;replace H:=H.same hk;clear hk
 iterate 3 refine af rfl ?_
 iterate 3 refine af (decide_eq_false (by omega)) ?_
 refine aj (x2 _ hhi _ h) ?_;rintro _ w17 ⟨rfl,hk⟩;replace h:=iC h hk;replace H:=H.same hk;clear hk
 iterate 4 refine af (decide_eq_false (by omega)) ?_
 refine s6 ?_;refine H.alloc 292 r7 rfl ?_;clear H;intro g23 w23 H;refine H.storeAll 0 rfl dF rfl (fun v hv=>lQ (.inl n) v hv) ?_;clear H;intro w24 H;refine H.draw eS (by kernel_rfl) ?_;clear H;intro w25 H;refine quiet _ (fun w H=>aa (my _) ae) ?_;refine quiet _ (fun w H=>jM (H.ro 0 rfl) o8 rfl ae) ?_;refine quiet _ (fun w H=>H.ai 0 rfl nu dF ae) ?_;refine quiet _ (fun w H=>zo (H.ro 2 rfl) vX n hg ae) ?_;refine ag rfl ?_;exact ⟨rfl,H.keeps⟩
theorem IV {g r:Nat}{sv:Value}{room:Int}{A:Ar}(n:Nd)(hlo:(n.lo:Int)<9223372036854775808)(hhi:(n.hi:Int)<9223372036854775808)(h1:(n.l:Int)<aR A n.lo)(h2:(n.l:Int)<aR A n.hi)(hf:ix A n=none)(hfull:room≤(kY A:Int))(w:World)(h:(bF g r sv room A).ok w) :
  bt prog 212 [(ah g),.int .i64 n.l,.int .i64 n.lo,.int .i64 n.hi] w fun v w'=>v=.tuple #[.int .i64 0,.int .i64 5]∧aT w w':=by
 refine ar (N:=112) func212 vZ rfl rfl rfl (by simp) ?_;have h':=h;obtain ⟨N,B,c,l,rfl,rfl,hl,hnd,H⟩:=lR h';have hg:bR l n=none:=by rw[hl.get,hf];rfl
 have hlen:=hl.len;clear h';refine jg ?_
 iterate 6 refine af rfl ?_
 refine aj (x2 _ hlo _ h) ?_;rintro _ w10 ⟨rfl,hk⟩;replace h:=iC h hk;replace H:=H.same hk;clear hk
 iterate 3 refine af rfl ?_
 iterate 3 refine af (decide_eq_false (by omega)) ?_
 refine aj (x2 _ hhi _ h) ?_;rintro _ w17 ⟨rfl,hk⟩;replace h:=iC h hk;replace H:=H.same hk;clear hk
 iterate 4 refine af (decide_eq_false (by omega)) ?_
 refine s6 ?_;refine H.alloc 292 r7 rfl ?_;clear H;intro g23 w23 H;refine H.storeAll 0 rfl dF rfl (fun v hv=>lQ (.inl n) v hv) ?_;clear H;intro w24 H;refine H.draw eS (by kernel_rfl) ?_;clear H;intro w25 H;refine quiet _ (fun w H=>aa (my _) ae) ?_;refine quiet _ (fun w H=>jM (H.ro 0 rfl) o8 rfl ae) ?_;refine quiet _ (fun w H=>H.ai 0 rfl nu dF ae) ?_;refine quiet _ (fun w H=>rF (H.ro 2 rfl) vX n hg ae) ?_;refine af rfl ?_;refine H.draw eS (by kernel_rfl) ?_;clear H;intro w31 H;refine quiet _ (fun w H=>aa (my _) ae) ?_;refine quiet _ (fun w H=>jM (H.ro 0 rfl) o8 rfl ae) ?_;refine quiet _ (fun w H=>uJ (H.ro 2 rfl) vX ae) ?_;refine quiet _ (fun w H=>aa (AY _) ae) ?_;refine quiet _ (fun w H=>jM (H.ro 0 rfl) aE rfl ae) ?_;refine ag (decide_eq_true (by omega)) ?_;exact ⟨rfl,H.keeps⟩
theorem IW {k:Nat}(hk:k<9223372036854775000):IntKind.i64.wrap ((k:Int)+2)=((k+2:Nat):Int):=by rw[aH (by omega) (by omega)];omega
theorem IX {g r:Nat}{sv:Value}{room:Int}{A:Ar}(n:Nd)(hlo:(n.lo:Int)<9223372036854775808)(hhi:(n.hi:Int)<9223372036854775808)(h1:(n.l:Int)<aR A n.lo)(h2:(n.l:Int)<aR A n.hi)(hf:ix A n=none)(hfull:(kY A:Int)<room)(hok:uv room A)(w:World)(h:(bF g r sv room A).ok w) :
  bt prog 212 [(ah g),.int .i64 n.l,.int .i64 n.lo,.int .i64 n.hi] w fun v w'=>∃ sv',v=.tuple #[.int .i64 ((bS A+2:Nat):Int),.int .i64 0]∧jA w w' (bF g r sv room A) (bF g r sv' room (iQ A n)):=by
 refine ar (N:=112) func212 vZ rfl rfl rfl (by simp) ?_;have h':=h;obtain ⟨N,B,c,l,rfl,rfl,hl,hnd,H⟩:=Gn h';have hg:bR l n=none:=by rw[hl.get,hf];rfl
 have hlen:=hl.len;clear h';refine jg ?_
 iterate 6 refine af rfl ?_
 refine aj (x2 _ hlo _ h) ?_;rintro _ w10 ⟨rfl,hk⟩;replace h:=iC h hk;replace H:=H.same hk;clear hk
 iterate 3 refine af rfl ?_
 iterate 3 refine af (decide_eq_false (by omega)) ?_
 refine aj (x2 _ hhi _ h) ?_;rintro _ w17 ⟨rfl,hk⟩;replace h:=iC h hk;replace H:=H.same hk;clear hk
 iterate 4 refine af (decide_eq_false (by omega)) ?_
 refine s6 ?_;refine H.alloc 292 r7 rfl ?_;clear H;intro g23 w23 H;refine H.storeAll 0 rfl dF rfl (fun v hv=>lQ (.inl n) v hv) ?_;clear H;intro w24 H;refine H.draw eS (by kernel_rfl) ?_;clear H;intro w25 H;refine quiet _ (fun w H=>aa (my _) ae) ?_;refine quiet _ (fun w H=>H.load 1 rfl o8 rfl ae) ?_;refine quiet _ (fun w H=>H.ai 0 rfl nu dF ae) ?_;refine quiet _ (fun w H=>rF (H.get 3 rfl) vX n hg ae) ?_;refine af rfl ?_;refine H.draw eS (by kernel_rfl) ?_;clear H;intro w31 H;refine quiet _ (fun w H=>aa (my _) ae) ?_;refine quiet _ (fun w H=>H.load 1 rfl o8 rfl ae) ?_;refine quiet _ (fun w H=>uJ (H.get 3 rfl) vX ae) ?_;refine quiet _ (fun w H=>aa (AY _) ae) ?_;refine quiet _ (fun w H=>H.load 1 rfl aE rfl ae) ?_;refine af (decide_eq_false (by omega)) ?_;have hfl:=nj (im N);rw[fm] at hfl;have hN2:N.length≤20000:=by have h3:=hok.len;have h4:=hok.room;rw[fm] at h3;omega
 have hwi:IntKind.i64.wrap ((bS (im N):Int)+2)=((bS (im N)+2:Nat):Int):=IW (by omega);refine ax (γ:=Nat) (fun i=>[(13,.int .i64 (i:Int))]) (fun i w'=>i≤bS (im N)∧H.cl w') (fun i=>bS (im N) - i) 0 ⟨rfl,trivial⟩ ⟨Nat.zero_le _,H⟩ ?_;rintro i u w8 ⟨hi,H2⟩;have H:Hp _ _ _ _ _:=H2;rcases Nat.lt_or_ge i (bS (im N)) with hin | hin
 ·obtain ⟨m,hm⟩:=kZ hin;have hk':i<N.length:=by omega
  obtain ⟨g0,rfl⟩:=jB (H.get 2 rfl) (by omega);obtain ⟨s,hs'⟩:∃ s,N[i]?=some s:=⟨_,List.getElem?_eq_getElem hk'⟩;have hs2:=nv hs';rw[hm] at hs2
  cases s with
  | inr p=>cases hs2
  | inl n'=>
   cases hs2
   refine aa (fR _) ?_;refine H.load 1 rfl jf rfl ?_;refine ay underlying238 ?_
   iterate 3 refine ag (decide_eq_true (by omega)) ?_
   refine aa (fR _) ?_;refine ag (decide_eq_true (by omega)) ?_;refine H.load 1 rfl jf rfl ?_
   iterate 2 refine ag (decide_eq_true (by omega)) ?_
   refine aq underlying238 dF i rfl hk' (o':=i*3) (by omega) ?_;refine ag (decide_eq_true (by omega)) ?_;refine aa (n_ _ _) ?_;refine ag (decide_eq_true (by omega)) ?_;refine sL (H.get 2 rfl) gh aE i 0 rfl hs' rfl ?_
   iterate 2 refine ag (decide_eq_true (by omega)) ?_
   refine ag rfl ?_;exact ⟨i+1,by omega,⟨up (by omega),trivial⟩,by omega,H2⟩
 ·obtain rfl:i=bS (im N):=by omega
  by_cases hend:bS (im N)=N.length
  ·refine aa (fR _) ?_;refine H.load 1 rfl jf rfl ?_;refine ay underlying238 ?_
   iterate 10 refine af (decide_eq_false (by omega)) ?_
   refine af rfl ?_;refine aa (fR _) ?_;refine H.load 1 rfl jf rfl ?_;refine ay underlying238 ?_;refine ag (beq_iff_eq.2 (by omega)) ?_;refine H.fg [an g23 292 #[.int .i64 n.l,.int .i64 n.lo,.int .i64 n.hi],an g 240 (xe B N.length c room r),aP y2 y3 r l] (fun u H=>(H.front 2 rfl).forget) eS (by kernel_rfl) ?_;clear H;intro w27 H;refine quiet _ (fun w H=>aa (fR _) ae) ?_;refine quiet _ (fun w H=>H.load 1 rfl jf rfl ae) ?_;refine quiet _ (fun w H=>H.ai 0 rfl nu dF ae) ?_;refine H.bg Ly (cs:=(mR (.inl n)).toArray) (by decide) (by decide) (by kernel_rfl) ?_;clear H;intro g28 w28 H;refine ⟨.inl ((H.forget).front 2 rfl).forget,?_⟩;refine H.aG 3 0 Ly rfl rfl rfl (fun v hv=>lQ (.inl n) v hv) (by omega) (by omega) ?_;intro A29 d29 w29 H;refine ⟨.inl ((H.forget).front 2 rfl).forget,?_⟩;refine quiet _ (fun w H=>aa (fR _) ae) ?_;refine H.store 2 rfl Gh (Nat.le_of_ble_eq_true rfl) rfl ?_;clear H;intro w4 H;refine ⟨.inr rfl,?_⟩;refine H.draw eS (by kernel_rfl) ?_;clear H;intro w6 H;refine quiet _ (fun w H=>aa (my _) ae) ?_;refine quiet _ (fun w H=>H.load 2 rfl o8 rfl ae) ?_;refine quiet _ (fun w H=>H.ai 1 rfl nu dF ae) ?_;refine qP (congrArg _ hwi) (H.iw 4 rfl vX n (bS (im N)+2) ?_);clear H;intro w7 H;refine ⟨.inr rfl,?_⟩;have H:Hp w (bF g r (.slice B N.length c) room (im N)).foot w7 (an g 240 (xe A29 (N.length+1) d29 room r)::own 292 3 (.slice A29 (N.length+1) d29) (N.length+1) (flat mR N++mR (.inl n))::aP y2 y3 r (dS l n (bS (im N)+2))::[]) []:=H.forget.forget;rw[← du] at H;have e:im (N++[.inl n])=iQ (im N) n:=by
    rw[DZ,iQ,fm,if_pos hend];rfl
   have H:=qN H (by simp) (by rw[e];exact AS hl hok.inv.uniq hf);rw[e] at H;exact ⟨_,congrArg (fun z=>Value.tuple #[.int .i64 z,.int .i64 0]) hwi,H.bc⟩
  ·have hk':bS (im N)<N.length:=by omega
   obtain ⟨g0,rfl⟩:=jB (H.get 2 rfl) (by omega);obtain ⟨s,hs'⟩:∃ s,N[bS (im N)]?=some s:=⟨_,List.getElem?_eq_getElem hk'⟩;have hs2:=nv hs';rw[j8] at hs2
   cases s with
   | inl n'=>cases hs2
   | inr p=>
    refine aa (fR _) ?_;refine H.load 1 rfl jf rfl ?_;refine ay underlying238 ?_
    iterate 3 refine ag (decide_eq_true (by omega)) ?_
    refine aa (fR _) ?_;refine ag (decide_eq_true (by omega)) ?_;refine H.load 1 rfl jf rfl ?_
    iterate 2 refine ag (decide_eq_true (by omega)) ?_
    refine aq underlying238 dF (bS (im N)) rfl hk' (o':=bS (im N)*3) (by omega) ?_;refine ag (decide_eq_true (by omega)) ?_;refine aa (n_ _ _) ?_;refine ag (decide_eq_true (by omega)) ?_;refine sL (H.get 2 rfl) gh aE (bS (im N)) 0 rfl hs' rfl ?_
    iterate 2 refine ag (decide_eq_true (by omega)) ?_
    refine af rfl ?_;refine aa (fR _) ?_;refine H.load 1 rfl jf rfl ?_;refine ay underlying238 ?_;refine af (beq_eq_false_iff_ne.2 (by omega)) ?_;refine H.draw eS (by kernel_rfl) ?_;clear H;intro w33 H;refine quiet _ (fun w H=>aa (fR _) ae) ?_;refine quiet _ (fun w H=>H.load 1 rfl jf rfl ae) ?_;refine quiet _ (fun w H=>H.ai 0 rfl nu dF ae) ?_;refine quiet _ (fun w H=>aq underlying238 dF (bS (im N)) rfl hk' (o':=bS (im N)*3) (by omega) ae) ?_;refine H.xH 2 (.inl n) rfl gh dF (bS (im N)) rfl hk' rfl (lQ _) ?_;clear H;intro w34 H;refine ⟨.inr rfl,?_⟩;refine H.draw eS (by kernel_rfl) ?_;clear H;intro w35 H;refine quiet _ (fun w H=>aa (my _) ae) ?_;refine quiet _ (fun w H=>H.load 1 rfl o8 rfl ae) ?_;refine quiet _ (fun w H=>H.ai 0 rfl nu dF ae) ?_;refine qP (congrArg _ hwi) (H.iw 3 rfl vX n (bS (im N)+2) ?_);clear H;intro w6 H;refine ⟨.inr rfl,?_⟩;have H:Hp w (bF g r (.slice (some ⟨g0,0,none⟩) N.length c) room (im N)).foot w6 (an g 240 (xe (some ⟨g0,0,none⟩) N.length c room r)::own 292 3 (.slice (some ⟨g0,0,none⟩) N.length c) N.length (flat mR (N.set (bS (im N)) (.inl n)))::aP y2 y3 r (dS l n (bS (im N)+2))::[]) []:=H.forget;have e:im (N.set (bS (im N)) (.inl n))=iQ (im N) n:=by
     rw[Gi,iQ,fm,if_neg hend];rfl
    have H:=qN H (by rw[List.length_set]) (by rw[e];exact AS hl hok.inv.uniq hf);rw[e] at H;exact ⟨_,congrArg (fun z=>Value.tuple #[.int .i64 z,.int .i64 0]) hwi,H.bc⟩
theorem zp {A:Ar}(h:bS A=A.length):kY A=A.length:=by
 unfold kY;rw[List.countP_eq_length];intro x hx;obtain ⟨i,hi⟩:=List.mem_iff_getElem?.1 hx;have hl:=(List.getElem?_eq_some_iff.1 hi).1;obtain ⟨n,hn⟩:=kZ (A:=A) (i:=i) (by omega);rw[jz hl,hn] at hi;injection hi with hi;rw[← hi];rfl
theorem IY {room:Int}{A:Ar}(hok:uv room A){n:Nd}(hf:ix A n=none)(h1:(n.l:Int)<aR A n.lo)(h2:(n.l:Int)<aR A n.hi)(hfull:(kY A:Int)<room):uv room (iQ A n):=by
 refine ⟨F9 hok.inv hf h1 h2,?_,hok.room⟩;rw[nk];split
 ·rename_i h;rw[zp h] at hfull;omega
 ·exact hok.len
theorem LB {room:Int}{A:Ar}(hok:uv room A)(l lo hi:Int):uv room (vL room A l lo hi).1:=by
 unfold vL;split
 ·exact hok
 ·rename_i h;rw[not_or,not_or] at h;have hlo:=ig (A:=A) (id:=lo) (by omega);have hhi:=ig (A:=A) (id:=hi) (by omega);split
  ·exact hok
  ·rename_i hf;split
   ·exact hok
   ·rename_i hr;refine IY hok hf ?_ ?_ (by omega)
    ·show ((l.toNat:Nat):Int)<aR A ((lo.toNat:Nat):Int);rw[Int.toNat_of_nonneg (by omega),Int.toNat_of_nonneg hlo];omega
    ·show ((l.toNat:Nat):Int)<aR A ((hi.toNat:Nat):Int);rw[Int.toNat_of_nonneg (by omega),Int.toNat_of_nonneg hhi];omega
theorem c212 {g r:Nat}{sv:Value}{room:Int}{A:Ar}(l lo hi:Int)(hl:l<9223372036854775808)(hlo:lo<9223372036854775808)(hhi:hi<9223372036854775808)(hok:uv room A)(w:World)(h:(bF g r sv room A).ok w) :
  bt prog 212 [(ah g),.int .i64 l,.int .i64 lo,.int .i64 hi] w fun v w'=>
   ∃ sv',v=.tuple #[.int .i64 (vL room A l lo hi).2.1,.int .i64 (vL room A l lo hi).2.2]∧jA w w' (bF g r sv room A) (bF g r sv' room (vL room A l lo hi).1):=by
 unfold vL;split
 ·rename_i hb;refine (IT l lo hi hlo hhi hb w h).mono ?_;rintro v w' ⟨rfl,hk⟩;exact ⟨sv,rfl,s5 h hk⟩
 ·rename_i hb;rw[not_or,not_or] at hb;have hl0:=ig (A:=A) (id:=lo) (by omega);have hh0:=ig (A:=A) (id:=hi) (by omega);obtain ⟨a,rfl⟩:=Int.eq_ofNat_of_zero_le (show 0≤l by omega);obtain ⟨b,rfl⟩:=Int.eq_ofNat_of_zero_le hl0;obtain ⟨c,rfl⟩:=Int.eq_ofNat_of_zero_le hh0;simp only[Int.toNat_natCast];split
  ·rename_i i hf;refine (IU ⟨a,b,c⟩ hlo hhi (by show (a:Int)<aR A (b:Int);omega) (by show (a:Int)<aR A (c:Int);omega) i hf w h).mono ?_;rintro v w' ⟨rfl,hk⟩;exact ⟨sv,rfl,s5 h hk⟩
  ·rename_i hf;split
   ·rename_i hr;refine (IV ⟨a,b,c⟩ hlo hhi (by show (a:Int)<aR A (b:Int);omega) (by show (a:Int)<aR A (c:Int);omega) hf hr w h).mono ?_;rintro v w' ⟨rfl,hk⟩;exact ⟨sv,rfl,s5 h hk⟩
   ·rename_i hr;exact IX ⟨a,b,c⟩ hlo hhi (by show (a:Int)<aR A (b:Int);omega) (by show (a:Int)<aR A (c:Int);omega) hf (by omega) hok w h
theorem zq {A:Ar}{id:Int}(h:0≤aR A id):id<(A.length:Int)+2:=by
 rcases i_ h with rfl | rfl | ⟨i,n,rfl,hi,_⟩
 ·omega
 ·omega
 ·have:=pH hi;omega
def aA (l:List Int):List Value:=l.map (Value.int .i64)
theorem oa {l:List Int}{i:Nat}(hi:i<l.length):(aA l)[i]?=some (.int .i64 l[i]):=by simp[aA,hi]
theorem IZ {room:Int}(h0:0≤room)(hr:room≤20000):uv room []:=by
 refine ⟨⟨fun i j n h=>?_,fun i n h=>?_,fun i n h=>?_⟩,by simpa using h0,hr⟩ <;> (have:=pH h;simp at this)
end Go.Proofs.YtpjihhgjbbihkaaGreatDoor
namespace Go.Dk
set_option maxRecDepth 100000
open Go.ChangeShapes Go.WideShapes Go.ChangeAt Go.RowKit Go.ChangeMaps
section
variable {H:Type} {enc0:TypeId × Value→H} {P:Program} {w:World} {base:Nat} {spare:Nat→Bool} {held:Bool}
theorem uT {w:World}{a:Addr}{v:Value}(h:w.cell? a=some v):a.spot=none∧a.block<w.heap.size:=by
 unfold World.cell? at h;split at h
 ·rename_i c e fr hb;refine ⟨?_,(Array.getElem?_eq_some_iff.1 hb).1⟩
  cases hs:a.spot with
  | none=>rfl
  | some x=>simp[hs] at h
 ·cases h
theorem rG {α β:Type}{R:β→α→Prop}:∀ (l:List β),(∀ b ∈ l,∃ a,R b a)→∃ ys:List α,ys.length=l.length∧∀ (i:Nat) (b:β) (a:α),l[i]?=some b→ys[i]?=some a→R b a
 | [],_=>⟨[],rfl,by intro i b a h;simp at h⟩
 | b::l,h=>by
  obtain ⟨a,ha⟩:=h b (.head _);obtain ⟨ys,h1,h2⟩:=rG l fun x hx=>h x (.tail _ hx);refine ⟨a::ys,by simp[h1],fun i x y hx hy=>?_⟩
  cases i with
  | zero=>simp at hx hy;subst hx;subst hy;exact ha
  | succ i=>exact h2 i x y (by simpa using hx) (by simpa using hy)
theorem D_ {α:Type}{t e:TypeId}{sz:Nat}{fuel:Nat}{v:Value}{x:DataW H × List MemPlace}(ht:P.underlying t=some (.slice e))(hc:P.cellsOf e=sz)(hpos:0<sz)(enc:α→List Value)(φ:α→Prop)(henc:∀ a,(enc a).length=sz)(hel:∀ fuel r y,DataW.trod enc0 P w base spare held fuel e r=some y→∃ a,φ a∧r=enc a)(h:DataW.trod enc0 P w base spare held fuel t [v]=some x) :
  ∃ A c,∃ ys:List α,v=.slice A ys.length c∧ys.length≤maxLen∧(∀ a ∈ ys,φ a)∧Sl w (.slice A ys.length c) sz ys.length (flat enc ys):=by
 rcases DataW.trod_slice ht h with ⟨h0,_⟩ | ⟨a,len,cap,elems,rest,n,_,hcs,_,hb,hl,hm,hlen,hel2,_,_⟩
 ·simp at h0;subst h0;exact ⟨none,0,[],rfl,by simp,by simp,by simp[flat],none,0,rfl,Nat.le_refl _,.inl rfl⟩
 ·simp at hcs;subst hcs;have each:∀ i ∈ List.range len,∃ b:α,φ b∧w.cells? base (a.add (i*sz)) sz=some (enc b):=by
   intro i hi;have hi:=List.mem_range.1 hi;have:=hel2 i hi;rw[hc,List.getElem?_eq_getElem (by omega)] at this
   cases hcell:w.cells? base (a.add (i*sz)) sz with
   | none=>rw[hcell] at this;cases this
   | some r=>
    rw[hcell] at this;obtain ⟨b,hb,rfl⟩:=hel n r _ this;exact ⟨b,hb,rfl⟩
  obtain ⟨ys,has,hR⟩:=rG (List.range len) each;rw[List.length_range] at has;have hget:∀ (i:Nat) (b:α),ys[i]?=some b→φ b∧w.cells? base (a.add (i*sz)) sz=some (enc b):=by
   intro i b hib;have hi:=(List.getElem?_eq_some_iff.1 hib).1;exact hR i i b (List.getElem?_range (by omega)) hib
  have hcellat:∀ (i:Nat) (b:α) (j:Nat),ys[i]?=some b→j<sz→w.cell? ((a.add (i*sz)).add j)=(enc b)[j]?:=by
   intro i b j hib hj;exact (World.cells?_some (hget i b hib).2).2.2 j hj
  subst has;refine ⟨some a,cap,ys,rfl,by omega,fun b hb=>?_,?_⟩
  ·obtain ⟨i,hi⟩:=List.mem_iff_getElem?.1 hb;exact (hget i b hi).1
  ·refine ⟨cQ henc ys,some a,cap,rfl,hl,?_⟩
   cases ys with
   | nil=>exact .inl rfl
   | cons b bs=>
    right
    have h00:=hcellat 0 b 0 rfl hpos;obtain ⟨v0,hv0⟩:∃ v0,(enc b)[0]?=some v0:=⟨_,List.getElem?_eq_getElem (by rw[henc];exact hpos)⟩;rw[hv0,Nat.zero_mul] at h00;have hadd0:∀ y:Addr,y.add 0=y:=fun y=>by simp[Addr.add]
    rw[hadd0,hadd0] at h00;obtain ⟨hsp,hblk⟩:=uT h00;obtain ⟨g,o,sp⟩:=a;simp only at hsp hblk;subst hsp;refine ⟨g,o,rfl,hblk,fun j hj=>?_⟩;have hi:j / sz<(b::bs).length:=Nat.div_lt_of_lt_mul (by rw[Nat.mul_comm];exact hj);have hib:(b::bs)[j / sz]?=some (b::bs)[j / sz]:=List.getElem?_eq_getElem hi;have hmod:j % sz<sz:=Nat.mod_lt _ hpos;have hc2:=hcellat _ _ _ hib hmod;have hfc:=ie henc hib (j % sz) hmod;have hjj:j / sz*sz+j % sz=j:=by rw[Nat.mul_comm];exact Nat.div_add_mod j sz
    rw[hjj] at hfc;rw[hfc,← hc2]
    congr 1
    have ha:∀ (o k:Nat),(⟨g,o,none⟩:Addr).add k=⟨g,o+k,none⟩:=fun o k=>by unfold Addr.add;split <;> simp_all
    rw[ha,ha]
    congr 1
    omega
end
end Go.Dk
namespace Go.Proofs.YtpjihhgjbbihkaaGreatDoor
open Go.Proofs.Tryz
set_option maxRecDepth 100000
open Go.Dk Go.ChangeShapes Go.WideShapes Go.ChangeAt Go.RowKit Go.ChangeMaps
def Ou (n:Int):Prop:= -9223372036854775808≤n∧n<9223372036854775808
section
variable {H:Type} {enc:TypeId × Value→H} {w:World} {base b:Nat} {spare:Nat→Bool} {held:Bool}
theorem Ea {fuel:Nat}{r:List Value}{x:DataW H × List MemPlace}(h:DataW.trod enc prog w base spare held fuel 3 r=some x):∃ n,Ou n∧r=[.int .i64 n]:=by
 obtain ⟨m,hc,rfl,hw⟩:=DataW.trod_int underlying3 h;simp[Lit.wf,IntKind.min,IntKind.max,IntKind.signed,IntKind.bits] at hw;exact ⟨m,⟨by omega,by omega⟩,hc⟩
set_option maxRecDepth 100000 in
theorem I0:Tryz.prog.cellsOf 3=1:=by kernel_rfl
end
end Go.Proofs.YtpjihhgjbbihkaaGreatDoor
namespace Go.Proofs.YtpjihhgjbbihkaaGreatDoor
set_option maxRecDepth 100000
open Go.Dk
attribute [local irreducible] IntKind.wrap
section
variable {P:Program} {w0 w w':World} {F:Nat→Prop} {L M:List cC} {k kk:Value→World→Prop}
theorem Hp.dr (H:Hp w0 F w L M){t e:TypeId}{z:Value}{sz b:Nat}(T:qu P t e z sz b)(h:∀ g w',Hp w0 F w' (own e sz (.slice (some ⟨g,0,none⟩) 0 0) 0 []::L) M→k (.slice (some ⟨g,0,none⟩) 0 0) w'):fZ P t 0 [] w k:=by
 unfold fZ;refine ⟨_,w.alloc (.cells #[] e),?_,h w.heap.size _ (H.add (aS.alloc _ _) _ ?_ ?_)⟩
 ·simp only[Instr.buildSlice,Sem.run_bind,run_underlying T.und,Result.andThen_ok,Go.Dk.run_sizeOf T.size];simp[Instr.fill,newRow];exact congrArg (fun x=>w.alloc (.cells x e)) (Array.eq_empty_of_size_eq_zero (by simp))
 ·exact ⟨by simp,.inr ⟨w.heap.size,0,#[],rfl,Nat.zero_le _,heap_alloc_new w _,Nat.le_refl _,by unfold maxLen;omega,by simp,by simp⟩⟩
 ·rintro g hg;have:w.heap.size=g:=by injection hg
  subst this;exact ⟨Nat.le_refl _,by simp⟩
theorem Hp.cj (H:Hp w0 F w L M)(n:Nat){t e ty:TypeId}{z:Value}{sz b g c d:Nat}{A:Option Addr}{xs:List Value}{cst:Array Bool}(T:qu P t e z sz b)(hn:L[n]?=some (own e sz (.slice (some ⟨g,0,none⟩) 0 0) 0 []))(hs:Sl w (.slice A c d) sz c xs)(h1:∀ u ∈ xs,u.oneCell'=true)(hl:c*b≤140737488355328)(hl':c<1152921504606846976)(h:∀ A d w',Hp w0 F w' (L.set n (own e sz (.slice A c d) c xs)) M→kk (.slice A c d) w') :
  bU P .append #[t,t] ty cst [.slice (some ⟨g,0,none⟩) 0 0,.slice A c d] w kk:=by
 obtain ⟨i,hi,hz,hs',hb⟩:=T.parts;have hown:w.ownsRow 0 e sz (.slice (some ⟨g,0,none⟩) 0 0) 0 []:=H.get n hn;have hxl:=hs.1;rcases A with _ | a
 ·have hc:c=0:=by
   rcases Nat.eq_zero_or_pos c with h0 | h0
   ·exact h0
   ·obtain ⟨_,_,hA⟩:=hs.A h0;cases hA
  subst hc;have hx:xs=[]:=List.eq_nil_of_length_eq_zero (by simpa using hxl);subst hx;have hL:L.set n (own e sz (.slice (some ⟨g,0,none⟩) 0 0) 0 [])=L:=by
   obtain ⟨h1,h2⟩:=List.getElem?_eq_some_iff.1 hn;rw[← h2];exact List.set_getElem_self h1
  unfold bU;refine ⟨_,w,?_,h (some ⟨g,0,none⟩) 0 w (by rw[hL];exact H)⟩;show (do pure (.value (← Builtin.append_ #[t,t] ty #[.slice (some ⟨g,0,none⟩) 0 0,.slice none 0 d])):Sem Next).run P w=_;simp[Builtin.append_,run_underlying T.und,sizeOf,typeInfo,hi,Builtin.lenOf,Builtin.firstCells,storeCells]
 ·obtain ⟨v',w',hrun,hown',hg,_,hloc⟩:=run_append_own_at (P:=P) w 0 t ty e i z sz b T.und hi hz hs' hb T.zs T.pos (.slice (some ⟨g,0,none⟩) 0 0) 0 [] hown a c d xs hxl
   (fun j u hu=>by
    have hjl:=(List.getElem?_eq_some_iff.1 hu).1;have hc:0<c:=by
     rcases Nat.eq_zero_or_pos c with h0 | h0
     ·subst h0;simp at hxl;subst hxl;simp at hjl
     ·exact h0
    obtain ⟨g',o',ha⟩:=hs.A hc;injection ha with ha;subst ha;have hadd:(⟨g',o',none⟩:Addr).add j=⟨g',o'+j,none⟩:=by unfold Addr.add;split <;> simp_all
    rw[hadd,hs.cell j (by omega),hu]) h1 (by unfold maxLen;omega) (by rw[Nat.zero_add];exact hl) (Nat.zero_le _)
  rw[Nat.zero_add,List.nil_append] at hown';have hk:aS (own e sz (.slice (some ⟨g,0,none⟩) 0 0) 0 []).foot w w':=⟨hg.os,hg.tape,hg.output,hg.size,fun x hx hne=>hg.block x hx fun e=>hne e.symm⟩;have H':=H.mQ n hn (own e sz v' c xs) hk hown' (fun x hx=>⟨(World.ownsRow.lt (w:=w') (base:=0) hown' x hx).2,by
   have hx':v'.ownBlock=some x:=hx;rcases hloc with h | h
   ·left;show Value.ownBlock _=some x;rw[← h];exact hx'
   ·right;rw[h] at hx';injection hx' with hx';omega⟩)
  have hv:∃ A d,v'=.slice A c d:=by
   rcases hown'.2 with ⟨rfl,h0⟩ | ⟨g',cap,cur,hv,_⟩
   ·exact ⟨none,0,by rw[h0]⟩
   ·exact ⟨_,_,hv⟩
  obtain ⟨A,d',rfl⟩:=hv;unfold bU;refine ⟨_,w',?_,h A d' w' H'⟩;show (do pure (.value (← Builtin.append_ #[t,t] ty #[.slice (some ⟨g,0,none⟩) 0 0,.slice (some a) c d])):Sem Next).run P w=_;rw[Sem.run_bind,hrun];rfl
end
open Go.Proofs.Tryz
theorem Eb {k x:Int}{l:List Int}(h:k ∉ l)(hx:x≠k):k ∉ l++[x]:=by
 simp only[List.mem_append,List.mem_singleton];rintro (h' | h')
 ·exact h h'
 ·exact hx h'.symm
theorem I1:enters prog 156=true:=by kernel_rfl
theorem c156 (ks:List Int)(B:Option Addr)(c:Nat)(k:Int)(w:World)(hl:ks.length≤1000000000)(hs:Sl w (.slice B ks.length c) 1 ks.length (aA ks)) :
  bt prog 156 [.slice B ks.length c,.int .i64 k] w fun v w'=>v=.bool (decide (k ∈ ks))∧aT w w':=by
 refine ar (N:=17) func156 I1 rfl rfl rfl (by simp) ?_;have H:=Hp.aC w;refine aw (fun w'=>Hp.cl H w') ⟨(),trivial,H⟩ ?_;rintro ⟨⟩ u w0 H1;replace H:Hp _ _ _ _ _:=H1;clear H1;refine aw (fun w'=>k ∉ ks∧Hp.cl H w') ?_ ?_
 ·refine ay underlying75 ?_;refine ax (γ:=Nat) (fun i=>[(9,.int .i64 (i:Int))]) (fun i w'=>(i≤ks.length∧k ∉ ks.take i)∧Hp.cl H w') (fun i=>ks.length - i) 0 ⟨rfl,trivial⟩ ⟨⟨Nat.zero_le _,by simp⟩,H⟩ ?_;rintro i u w1 ⟨⟨hi,hno⟩,H1⟩;replace H:Hp _ _ _ _ _:=H1;refine au (fun h7=>?_) (fun h7=>?_)
  ·obtain ⟨x,hx⟩:∃ x,ks[i]?=some x:=⟨_,List.getElem?_eq_getElem (by omega)⟩;obtain ⟨g0,o0,rfl⟩:=hs.A (by omega);have hget:(aA ks)[i]?=some (.int .i64 x):=by rw[aA,List.getElem?_map,hx];rfl
   have htk:ks.take (i+1)=ks.take i++[x]:=by rw[List.take_add_one,hx];rfl
   refine aq underlying75 (s:=1) a_ i rfl (by omega) (o':=o0+i) (by omega) ?_;refine H.dn (i:=i) hs aE _ rfl hget ?_;refine cr (fun h4=>?_) (fun h4=>?_)
   ·refine ⟨congrArg Value.bool ?_,H.keeps⟩;exact (decide_eq_true (by rw[← h4];exact List.mem_of_getElem? hx)).symm
   ·exact ⟨i+1,by show ks.length - (i+1)<ks.length - i;omega,⟨up (by omega),trivial⟩,⟨by show i+1≤ks.length;omega,by rw[htk];exact Eb hno h4⟩,H⟩
  ·have:i=ks.length:=by omega
   subst this;rw[List.take_length] at hno;exact ⟨(),trivial,hno,H⟩
 ·rintro ⟨⟩ u w1 ⟨hno,H1⟩;exact ⟨by rw[decide_eq_false hno];rfl,H1.keeps⟩
theorem Ec {l:List Int}{i:Nat}{x:Int}(p:Int→Bool)(hx:l[i]?=some x):(l.take (i+1)).all p=((l.take i).all p&&p x):=by
 rw[List.take_add_one,hx];simp
theorem I3:enters prog 157=true:=by kernel_rfl
theorem c157 (a b:List Int)(A B:Option Addr)(ca cb:Nat)(w:World)(hl:a.length≤1000000000)(hl':b.length≤1000000000)(ha:Sl w (.slice A a.length ca) 1 a.length (aA a))(hb:Sl w (.slice B b.length cb) 1 b.length (aA b)) :
  bt prog 157 [.slice A a.length ca,.slice B b.length cb] w fun v w'=>v=.bool (iu a b)∧aT w w':=by
 refine ar (N:=18) func157 I3 rfl rfl rfl (by simp) ?_;have H:=Hp.aC w;refine aw (fun w'=>Hp.cl H w') ⟨(),trivial,H⟩ ?_;rintro ⟨⟩ u w0 H1;replace H:Hp _ _ _ _ _:=H1;clear H1;refine aw (fun w'=>iu a b=true∧Hp.cl H w') ?_ ?_
 ·refine ay underlying75 ?_;refine ax (γ:=Nat) (fun i=>[(9,.int .i64 (i:Int))]) (fun i w'=>(i≤a.length∧(a.take i).all (fun k=>decide (k ∈ b))=true)∧Hp.cl H w') (fun i=>a.length - i) 0 ⟨rfl,trivial⟩ ⟨⟨Nat.zero_le _,by simp⟩,H⟩ ?_;rintro i u w1 ⟨⟨hi,hyes⟩,H1⟩;replace H:Hp _ _ _ _ _:=H1;refine au (fun h7=>?_) (fun h7=>?_)
  ·obtain ⟨x,hx⟩:∃ x,a[i]?=some x:=⟨_,List.getElem?_eq_getElem (by omega)⟩;obtain ⟨g0,o0,rfl⟩:=ha.A (by omega);have hget:(aA a)[i]?=some (.int .i64 x):=by rw[aA,List.getElem?_map,hx];rfl
   have hsn:=Ec (fun k=>decide (k ∈ b)) hx;rw[hyes,Bool.true_and] at hsn;refine aq underlying75 (s:=1) a_ i rfl (by omega) (o':=o0+i) (by omega) ?_;refine H.dn (i:=i) ha aE _ rfl hget ?_;refine aj (c156 b B cb x _ hl' (hb.same H.keeps)) ?_;rintro _ w4 ⟨rfl,hk⟩;replace H:=H.same hk;clear hk;refine aF (fun h5=>?_) (fun h5=>?_)
   ·refine ⟨congrArg Value.bool ?_,H.keeps⟩;have h5':x ∉ b:=by simpa using h5
    symm;rw[Bool.eq_false_iff];exact fun hh=>h5' (jq.1 hh x (List.mem_of_getElem? hx))
   ·exact ⟨i+1,by show a.length - (i+1)<a.length - i;omega,⟨up (by omega),trivial⟩,⟨by show i+1≤a.length;omega,by rw[hsn];simpa using h5⟩,H⟩
  ·have:i=a.length:=by omega
   subst this;rw[List.take_length] at hyes;exact ⟨(),trivial,hyes,H⟩
 ·rintro ⟨⟩ u w1 ⟨hno,H1⟩;exact ⟨by rw[hno];rfl,H1.keeps⟩
def qQ (S:Nat→Prop)(w:World)(v:Value)(ks:List Int):Prop:=∃ B c,v=.slice B ks.length c∧(sl S (.slice B ks.length c) 1 ks.length (aA ks)).ok w
def er (S:Nat→Prop)(v:Value)(R:aZ)(w:World):Prop:=
 ∃ B c vs,v=.slice B R.length c∧(sl S (.slice B R.length c) 1 R.length vs).ok w∧∀ (i:Nat) (u:Value) (ks:List Int),vs[i]?=some u→R[i]?=some ks→qQ S w u ks
def bf (S:Nat→Prop)(v:Value)(R:aZ):cC:=
 ⟨S,er S v R,fun w w' h ⟨B,c,vs,hv,hs,hr⟩=>⟨B,c,vs,hv,(sl _ _ _ _ _).bP w w' h hs,fun i u ks h1 h2=>by
   obtain ⟨B',c',hv',hs'⟩:=hr i u ks h1 h2;exact ⟨B',c',hv',(sl _ _ _ _ _).bP w w' h hs'⟩⟩⟩
theorem bf.mono {S S':Nat→Prop}{v:Value}{R:aZ}{w:World}(h:er S v R w)(hS:∀ g,S g→S' g):er S' v R w:=by
 obtain ⟨B,c,vs,hv,hs,hr⟩:=h;exact ⟨B,c,vs,hv,sl.mono hs hS,fun i u ks h1 h2=>by
  obtain ⟨B',c',hv',hs'⟩:=hr i u ks h1 h2;exact ⟨B',c',hv',sl.mono hs' hS⟩⟩
def jT (w:World)(v:Value)(R:aZ):Prop:=er (fun g=>g<w.heap.size) v R w
theorem jT.same {w w':World}{v:Value}{R:aZ}(h:jT w v R)(hk:aT w w'):jT w' v R:=
 bf.mono ((bf (fun g=>g<w.heap.size) v R).bP w w' (fun g hg=>hk.old g hg id) h) fun _ hg=>Nat.lt_of_lt_of_le hg hk.size
theorem jT.rH {w:World}{v:Value}{R:aZ}(h:jT w v R):∃ B c vs,v=.slice B R.length c∧Sl w (.slice B R.length c) 1 R.length vs∧
  ∀ (i:Nat) (ks:List Int),R[i]?=some ks→∃ B' c',vs[i]?=some (.slice B' ks.length c')∧Sl w (.slice B' ks.length c') 1 ks.length (aA ks):=by
 obtain ⟨B,c,vs,hv,hs,hr⟩:=h;refine ⟨B,c,vs,hv,hs,fun i ks hi=>?_⟩;have hil:=(List.getElem?_eq_some_iff.1 hi).1;have hvl:vs.length=R.length:=by have:=hs.1;omega
 have hu:vs[i]?=some (vs[i]'(by omega)):=List.getElem?_eq_getElem (by omega);obtain ⟨B',c',hv',hs'⟩:=hr i _ ks hu hi;exact ⟨B',c',by rw[hu,hv'],hs'⟩
theorem eu:cH prog 135=some false:=by kernel_rfl
theorem iD:cH prog 75=some false:=by kernel_rfl
theorem fK:bB prog 75=some 1:=by kernel_rfl
theorem az:bB prog 137=some 2:=by kernel_rfl
theorem aL:cH prog 137=some true:=by kernel_rfl
theorem iE (g:Nat)(w:World):(Instr.fieldAt 137 (ah g) 0).run prog w=.ok (ah g) w:=by kernel_rfl
theorem cz (g:Nat)(w:World):(Instr.fieldAt 137 (ah g) 1).run prog w=.ok (.pointer (some ⟨g,1,none⟩)) w:=by kernel_rfl
def mc (cols:Int)(v:Value):Array Value:=#[.int .i64 cols,v]
def mv (cols:Int)(v:Value):Value:=.agg (mc cols v)
theorem Cg {R:aZ}{i:Nat}{x:List Int}(p:List Int→Bool)(hx:R[i]?=some x):(R.take (i+1)).any p=((R.take i).any p||p x):=by
 rw[List.take_add_one,hx];simp
end Go.Proofs.YtpjihhgjbbihkaaGreatDoor
namespace Go.Proofs.YtpjihhgjbbihkaaGreatDoor
set_option maxRecDepth 100000
open Go.Dk Go.ChangeShapes Go.WideShapes Go.ChangeAt Go.RowKit Go.ChangeMaps
section
variable {H:Type} {enc:TypeId × Value→H} {w:World} {base b:Nat} {spare:Nat→Bool} {held:Bool}
end
end Go.Proofs.YtpjihhgjbbihkaaGreatDoor
namespace Go.Proofs.YtpjihhgjbbihkaaGreatDoor
set_option maxRecDepth 100000
open Go.Dk
attribute [local irreducible] IntKind.wrap
def o9 (cols:Int):Int→List Int→Bool
 | _,[]=>true
 | c,k::r=>decide (c<k)&&decide (k<cols)&&o9 cols k r
def cA (cols:Int)(R:aZ):Bool:=R.all (o9 cols (-1))&&(decide (0≤cols)&&decide (cols≤4000))
theorem pQ {cols:Int}:∀ {c:Int} {r:List Int},o9 cols c r=true↔oC (c::r)∧∀ k ∈ r,k<cols
 | c,[]=>by simp[o9,oC]
 | c,k::r=>by
  unfold o9;rw[Bool.and_eq_true,Bool.and_eq_true,decide_eq_true_eq,decide_eq_true_eq,pQ];unfold oC;constructor
  ·rintro ⟨⟨h1,h2⟩,h3,h4⟩;refine ⟨List.pairwise_cons.2 ⟨fun x hx=>?_,h3⟩,fun x hx=>?_⟩
   ·rcases List.mem_cons.1 hx with rfl | hx
    ·exact h1
    ·have:=(List.pairwise_cons.1 h3).1 x hx;omega
   ·rcases List.mem_cons.1 hx with rfl | hx
    ·exact h2
    ·exact h4 x hx
  ·rintro ⟨h1,h2⟩;obtain ⟨h3,h4⟩:=List.pairwise_cons.1 h1;exact ⟨⟨h3 k (.head _),h2 k (.head _)⟩,h4,fun x hx=>h2 x (.tail _ hx)⟩
theorem gi {cols:Int}{R:aZ}:cA cols R=true↔ek cols R:=by
 unfold cA;rw[Bool.and_eq_true,Bool.and_eq_true,decide_eq_true_eq,decide_eq_true_eq,List.all_eq_true];constructor
 ·rintro ⟨h1,h2,h3⟩;refine ⟨fun r hr=>?_,fun r hr k hk=>?_,h2,h3⟩
  ·exact (List.pairwise_cons.1 (pQ.1 (h1 r hr)).1).2
  ·have:=pQ.1 (h1 r hr);have h5:=(List.pairwise_cons.1 this.1).1 k hk;exact ⟨by omega,this.2 k hk⟩
 ·rintro ⟨h1,h2,h3,h4⟩;refine ⟨fun r hr=>pQ.2 ⟨List.pairwise_cons.2 ⟨fun k hk=>?_,h1 r hr⟩,fun k hk=>(h2 r hr k hk).2⟩,h3,h4⟩;have:=(h2 r hr k hk).1;omega
open Go.Proofs.Tryz
theorem I4:enters prog 114=true:=by kernel_rfl
theorem Ed {cols c k:Int}{r:List Int}{i:Nat}(hk:r[i]?=some k):o9 cols c (r.drop i)=(decide (c<k)&&decide (k<cols)&&o9 cols k (r.drop (i+1))):=by
 have hi:=(List.getElem?_eq_some_iff.1 hk).1;have e:r[i]=k:=by rw[List.getElem?_eq_getElem hi] at hk;injection hk
 rw[List.drop_eq_getElem_cons hi,e];rfl
theorem Ch {R:aZ}{i:Nat}{x:List Int}(p:List Int→Bool)(hx:R[i]?=some x):(R.take (i+1)).all p=((R.take i).all p&&p x):=by
 rw[List.take_add_one,hx];simp
theorem x3 {cols:Int}{R:aZ}{i:Nat}{x:List Int}(hx:R[i]?=some x)(h:o9 cols (-1) x=false):cA cols R=false:=by
 have:R.all (o9 cols (-1))=false:=by
  rw[Bool.eq_false_iff];intro hh;rw[List.all_eq_true.1 hh x (List.mem_of_getElem? hx)] at h
  cases h
 unfold cA;rw[this,Bool.false_and]
theorem Ee (cols:Int)(R:aZ)(v1:Value)(w:World)(hl:R.length≤1000000000)(hlr:∀ r ∈ R,r.length≤1000000000)(h1:jT w v1 R) :
  bt prog 114 [mv cols v1] w fun v w'=>v=.bool (cA cols R)∧aT w w':=by
 refine ar (N:=41) func114 I4 rfl rfl rfl (by simp) ?_;have H:=Hp.aC w;obtain ⟨A,ca,va,rfl,ha,hra⟩:=h1.rH;refine H.box 137 (mv _ _) (cs:=mc _ _) rfl ?_;clear H;intro g1 w1 H;refine aw (fun w'=>R.all (o9 cols (-1))=true∧Hp.cl H w') ?_ ?_
 ·refine aa (cz _) ?_;refine H.load 0 rfl eu rfl ?_;refine ay underlying135 ?_;refine ax (γ:=Nat) (fun i=>[(11,.int .i64 (i:Int))]) (fun i w'=>(i≤R.length∧(R.take i).all (o9 cols (-1))=true)∧Hp.cl H w') (fun i=>R.length - i) 0 ⟨rfl,trivial⟩ ⟨⟨Nat.zero_le _,by simp⟩,H⟩ ?_;rintro i u w2 ⟨⟨hi,hyes⟩,H1⟩;replace H:Hp _ _ _ _ _:=H1;refine au (fun h7=>?_) (fun h7=>?_)
  ·obtain ⟨x,hx⟩:∃ x,R[i]?=some x:=⟨_,List.getElem?_eq_getElem (by omega)⟩;obtain ⟨g0,o0,rfl⟩:=ha.A (by omega);obtain ⟨Bx,cx,hget,hsx⟩:=hra i x hx;have hxl:=hlr x (List.mem_of_getElem? hx);have hsn:=Ch (o9 cols (-1)) hx;rw[hyes,Bool.true_and] at hsn;refine aw (fun w'=>o9 cols (-1) x=true∧Hp.cl H w') ?_ ?_
   ·refine aq underlying135 (s:=1) fK i rfl (by omega) (o':=o0+i) (by omega) ?_;refine H.dn (i:=i) ha iD _ rfl hget ?_;refine ay underlying75 ?_;refine ax (γ:=Nat × Int) (fun (j,c)=>[(17,.int .i64 (j:Int)),(5,.int .i64 c)]) (fun (j,c) w'=>(j≤x.length∧o9 cols (-1) x=o9 cols c (x.drop j))∧Hp.cl H w') (fun (j,_)=>x.length - j) (0,-1) ⟨rfl,rfl,trivial⟩ ⟨⟨Nat.zero_le _,rfl⟩,H⟩ ?_;rintro ⟨j,c⟩ u w3 ⟨⟨hj,hrow⟩,H1⟩;replace H:Hp _ _ _ _ _:=H1;refine au (fun h8=>?_) (fun h8=>?_)
    ·obtain ⟨k,hk⟩:∃ k,x[j]?=some k:=⟨_,List.getElem?_eq_getElem (by omega)⟩;obtain ⟨g2,o2,rfl⟩:=hsx.A (by omega);have hgk:(aA x)[j]?=some (.int .i64 k):=by rw[aA,List.getElem?_map,hk];rfl
     rw[Ed hk] at hrow;refine aq underlying75 (s:=1) a_ j rfl (by omega) (o':=o2+j) (by omega) ?_;refine H.dn (i:=j) hsx aE _ rfl hgk ?_;refine au (fun h6=>?_) (fun h6=>?_)
     ·refine ag (decide_eq_true (by assumption)) ?_
      iterate 3 refine ag (decide_eq_true (by assumption)) ?_
      refine ag rfl ?_;refine ⟨congrArg Value.bool ?_,H.keeps⟩;rw[decide_eq_false (show ¬ c<k by omega),Bool.false_and,Bool.false_and] at hrow;exact (x3 hx hrow).symm
     ·refine af (decide_eq_false (by assumption)) ?_;refine aa (iE _) ?_;refine af (decide_eq_false (by assumption)) ?_;refine H.load 0 rfl aE rfl ?_
      iterate 2 refine af (decide_eq_false (by assumption)) ?_
      refine au (fun h22=>?_) (fun h22=>?_)
      ·refine ⟨congrArg Value.bool ?_,H.keeps⟩;rw[decide_eq_false (show ¬ k<cols by omega),Bool.and_false,Bool.false_and] at hrow;exact (x3 hx hrow).symm
      ·rw[decide_eq_true (show c<k by omega),decide_eq_true (show k<cols by omega),Bool.true_and,Bool.true_and] at hrow;exact ⟨(j+1,k),by show x.length - (j+1)<x.length - j;omega,⟨up (by omega),rfl,trivial⟩,⟨by show j+1≤x.length;omega,hrow⟩,H⟩
    ·have:j=x.length:=by omega
     subst this;rw[List.drop_length] at hrow;exact ⟨(),trivial,hrow,H⟩
   ·rintro ⟨⟩ u w3 ⟨hrow,H1⟩;exact ⟨i+1,by show R.length - (i+1)<R.length - i;omega,⟨up (by omega),trivial⟩,⟨by show i+1≤R.length;omega,by rw[hsn];exact hrow⟩,H1⟩
  ·have:i=R.length:=by omega
   subst this;rw[List.take_length] at hyes;exact ⟨(),trivial,hyes,H⟩
 ·rintro ⟨⟩ u w2 ⟨hyes,H1⟩;replace H:Hp _ _ _ _ _:=H1;clear H1;refine aa (iE _) ?_;refine H.load 0 rfl aE rfl ?_;refine au (fun h5=>?_) (fun h5=>?_)
  ·refine aa (iE _) ?_;refine ag (decide_eq_true (by assumption)) ?_;refine H.load 0 rfl aE rfl ?_
   iterate 2 refine ag (decide_eq_true (by assumption)) ?_
   refine ⟨congrArg Value.bool ?_,H.keeps⟩;unfold cA;rw[hyes,Bool.true_and,decide_eq_true (show 0≤cols from h5),Bool.true_and]
  ·refine af (decide_eq_false (by assumption)) ?_
   iterate 2 refine af (decide_eq_false (by assumption)) ?_
   refine ⟨congrArg Value.bool ?_,H.keeps⟩;unfold cA;rw[hyes,Bool.true_and,decide_eq_false (show ¬ 0≤cols from h5),Bool.false_and]
end Go.Proofs.YtpjihhgjbbihkaaGreatDoor
namespace Go.Dk
set_option maxRecDepth 100000
def c_ (cols:Nat)(s:aZ × List Int):aZ × List Int:=cn cols s (en s.1)
theorem Ef {cols:Nat}{s:aZ × List Int}:∀ n,dh cols (cn cols s n)≠none→en (cn cols s (n+1)).1+(n+1)≤en s.1:=by
 have one:∀ t:aZ × List Int,dh cols t≠none→en ((dh cols t).getD t).1+1≤en t.1:=fun t h=>by
  cases hs:dh cols t with
  | none=>exact absurd hs h
  | some t'=>have:=nU hs;show en t'.1+1≤_;omega
 intro n
 induction n with
 | zero=>intro h;exact one s h
 | succ n ih=>
  intro h;have hn:dh cols (cn cols s n)≠none:=fun h0=>by
   have:=run_stuck h0 (n+1) (by omega);rw[this] at h;exact h h0
  have h1:=ih hn;have h2:=one _ h;show en ((dh cols (cn cols s (n+1))).getD (cn cols s (n+1))).1+(n+1+1)≤en s.1;omega
theorem Ci (cols:Nat)(s:aZ × List Int):dh cols (c_ cols s)=none:=by
 cases h:dh cols (c_ cols s) with
 | none=>rfl
 | some t=>
  have:=Ef (cols:=cols) (s:=s) (en s.1) (by show dh cols (c_ cols s)≠none;rw[h];simp);omega
theorem I5 {cols:Nat}{s:aZ × List Int}{n:Nat}(h:dh cols (cn cols s n)=none):cn cols s n=c_ cols s:=y9 h (Ci cols s)
theorem lS {cols:Int}{R R':aZ}(h:ek cols R)(hs:∀ r' ∈ R',oC r'∧∃ r ∈ R,∀ k ∈ r',k ∈ r):ek cols R':=
 ⟨fun r hr=>(hs r hr).1,fun r hr k hk=>by
  obtain ⟨q,hq,hsub⟩:=(hs r hr).2;exact h.rng q hq k (hsub k hk),h.ge,h.le⟩
theorem s8 {R:aZ}{j:Nat}(h:j<R.length):R.getD j []=R[j]:=by
 rw[List.getD_eq_getElem?_getD,List.getElem?_eq_getElem h];rfl
theorem pR {R:aZ}{i n:Nat}(hn:n<R.length)(hni:n≠i):R[n] ∈ R.eraseIdx i:=by
 rw[List.mem_eraseIdx_iff_getElem?];exact ⟨n,hni,List.getElem?_eq_getElem hn⟩
structure Gp (cols:Nat) (R R':aZ) (T T':List Int):Prop where
 right:ek cols R'
 sub:∀ r' ∈ R',∃ r ∈ R,∀ k ∈ r',k ∈ r
 what:(T'=T∧(∀ b,eO cols R' b→eO cols R b)∧∀ S,aJ R' S→aJ R S)∨
  ∃ k,T'=T++[k]∧[k] ∈ R∧(∀ r ∈ R',k ∉ r)∧(∀ b,eO cols R' b→eO cols R (if b<0 then -1 else b+1))∧∀ S,aJ R' S→aJ R (k::S)
theorem Eg {cols:Nat}{R R':aZ}{T T':List Int}(hR:ek cols R)(h:dh cols (R,T)=some (R',T')):Gp cols R R' T T':=by
 unfold dh at h;simp only at h;split at h
 ·rename_i Q k ht;injection h with h;injection h with h1 h2;subst h1;subst h2;obtain ⟨hk,hQ⟩:=lF ht;have hsub:∀ r' ∈ Q,r' ∈ R∧k ∉ r':=fun r' hr'=>by
   rw[hQ] at hr';have:=List.mem_filter.1 hr';exact ⟨this.1,by simpa using this.2⟩
  refine ⟨lS hR fun r' hr'=>⟨hR.rise _ (hsub r' hr').1,r',(hsub r' hr').1,fun _ h=>h⟩,fun r' hr'=>⟨r',(hsub r' hr').1,fun _ h=>h⟩,.inr ⟨k,rfl,hk,fun r hr=>(hsub r hr).2,fun b hb=>BS (hR.rng _ hk k (.head _)) ht hb,fun S hS r hr=>?_⟩⟩;by_cases hkr:k ∈ r
  ·exact ⟨k,hkr,.head _⟩
  ·obtain ⟨x,hx,hxS⟩:=hS r (by rw[hQ];exact List.mem_filter.2 ⟨hr,by simpa using hkr⟩);exact ⟨x,hx,.tail _ hxS⟩
 ·split at h
  ·rename_i Q hr;injection h with h;injection h with h1 h2;subst h1;subst h2;obtain ⟨i,j,hi,hj,hne,hsub,hQ⟩:=lG hr;have hmem:∀ r' ∈ Q,r' ∈ R:=fun r' hr'=>by rw[hQ] at hr';exact List.mem_of_mem_eraseIdx hr'
   refine ⟨lS hR fun r' hr'=>⟨hR.rise _ (hmem r' hr'),r',hmem r' hr',fun _ h=>h⟩,fun r' hr'=>⟨r',hmem r' hr',fun _ h=>h⟩,.inl ⟨rfl,fun b hb=>BT hr hb,fun S hS r hr'=>?_⟩⟩;obtain ⟨n,hn,rfl⟩:=List.getElem_of_mem hr';by_cases hni:n=i
   ·subst hni;obtain ⟨x,hx,hxS⟩:=hS _ (by rw[hQ];exact pR hj hne);refine ⟨x,?_,hxS⟩;have:=hsub x (by rw[s8 hj];exact hx)
    rwa [s8 hi] at this
   ·exact hS _ (by rw[hQ];exact pR hn hni)
  ·cases hc:jr cols R with
   | none=>rw[hc] at h;cases h
   | some Q=>
    rw[hc] at h;injection h with h;injection h with h1 h2;subst h1;subst h2;obtain ⟨c,d,_,_,_,_,_,hQ⟩:=lH hc;have hmem:∀ r' ∈ Q,∃ r ∈ R,r'=r.filter fun k=>k !=(c:Int):=fun r' hr'=>by
     rw[hQ] at hr';obtain ⟨r,hr,he⟩:=List.mem_map.1 hr';exact ⟨r,hr,he.symm⟩
    have hm2:∀ r' ∈ Q,∃ r ∈ R,∀ k ∈ r',k ∈ r:=fun r' hr'=>by
     obtain ⟨r,hr,rfl⟩:=hmem r' hr';exact ⟨r,hr,fun k hk=>(List.mem_filter.1 hk).1⟩
    refine ⟨lS hR fun r' hr'=>⟨?_,hm2 r' hr'⟩,hm2,.inl ⟨rfl,fun b hb=>BU hc hb,fun S hS r hr=>?_⟩⟩
    ·obtain ⟨r,hr,rfl⟩:=hmem r' hr';exact (hR.rise r hr).sublist List.filter_sublist
    ·obtain ⟨x,hx,hxS⟩:=hS _ (by rw[hQ];exact List.mem_map.2 ⟨r,hr,rfl⟩);exact ⟨x,(List.mem_filter.1 hx).1,hxS⟩
structure s9 (cols:Nat) (R:aZ) (s:aZ × List Int):Prop where
 right:ek cols s.1
 sub:∀ r' ∈ s.1,∃ r ∈ R,∀ k ∈ r',k ∈ r
 nodup:s.2.Nodup
 rng:∀ k ∈ s.2,0≤k∧k<cols
 gone:∀ k ∈ s.2,∀ r ∈ s.1,k ∉ r
 best:∀ b,eO cols s.1 b→eO cols R (if b<0 then -1 else b+s.2.length)
 solves:∀ S,aJ s.1 S→aJ R (s.2++S)
theorem s_ {cols:Nat}{R:aZ}{s s':aZ × List Int}(h:s9 cols R s)(hs:dh cols s=some s'):s9 cols R s':=by
 obtain ⟨R1,T1⟩:=s;obtain ⟨R2,T2⟩:=s';have hi:=Eg h.right hs;have hsub:∀ r' ∈ R2,∃ r ∈ R,∀ k ∈ r',k ∈ r:=fun r' hr'=>by
  obtain ⟨q,hq,h1⟩:=hi.sub r' hr';obtain ⟨r,hr,h2⟩:=h.sub q hq;exact ⟨r,hr,fun k hk=>h2 k (h1 k hk)⟩
 have hgone:∀ k ∈ T1,∀ r ∈ R2,k ∉ r:=fun k hk r hr hkr=>by
  obtain ⟨q,hq,h1⟩:=hi.sub r hr;exact h.gone k hk q hq (h1 k hkr)
 rcases hi.what with ⟨rfl,hb,hS⟩ | ⟨k,rfl,hk,hno,hb,hS⟩
 ·exact ⟨hi.right,hsub,h.nodup,h.rng,hgone,fun b hb'=>h.best b (hb b hb'),fun S hS'=>h.solves S (hS S hS')⟩
 ·have hkT:k ∉ T1:=fun hkT=>h.gone k hkT _ hk (.head _);refine ⟨hi.right,hsub,?_,fun x hx=>?_,fun x hx=>?_,fun b hb'=>?_,fun S hS'=>?_⟩
  ·exact List.nodup_append.2 ⟨h.nodup,List.nodup_cons.2 ⟨by simp,.nil⟩,fun a ha b hb e=>by
    obtain rfl:b=k:=by simpa using hb
    subst e;exact hkT ha⟩
  ·rcases List.mem_append.1 hx with hx | hx
   ·exact h.rng x hx
   ·obtain rfl:x=k:=by simpa using hx
    exact h.right.rng _ hk x (.head _)
  ·rcases List.mem_append.1 hx with hx | hx
   ·exact hgone x hx
   ·obtain rfl:x=k:=by simpa using hx
    exact hno
  ·have h1:=h.best _ (hb b hb');by_cases hlt:b<0
   ·rw[if_pos hlt] at h1 ⊢
    rwa [if_pos (by decide)] at h1
   ·rw[if_neg hlt] at h1 ⊢;rw[if_neg (by omega)] at h1;have e:b+1+((T1.length:Nat):Int)=b+(((T1++[k]).length:Nat):Int):=by simp;omega
    show eO cols R (b+(((T1++[k]).length:Nat):Int));rw[← e];exact h1
  ·have:=h.solves _ (hS S hS');show aJ R ((T1++[k])++S);rw[List.append_assoc];exact this
theorem r8 {cols:Nat}{R:aZ}(hR:ek cols R):∀ n,s9 cols R (cn cols (R,[]) n)
 | 0=>⟨hR,fun r hr=>⟨r,hr,fun _ h=>h⟩,.nil,by simp[cn],by simp[cn],fun b hb=>by
   by_cases hlt:b<0
   ·rw[if_pos hlt];rcases hb with ⟨rfl,hn⟩ | ⟨S,_,_,rfl,_⟩
    ·exact .inl ⟨rfl,hn⟩
    ·omega
   ·rw[if_neg hlt];simpa [cn] using hb,fun S hS=>hS⟩
 | n+1=>by
  show s9 cols R ((dh cols (cn cols (R,[]) n)).getD (cn cols (R,[]) n))
  cases hs:dh cols (cn cols (R,[]) n) with
  | none=>exact r8 hR n
  | some s'=>exact s_ (r8 hR n) hs
theorem j0 {cols:Nat}{R:aZ}(hR:ek cols R):s9 cols R (c_ cols (R,[])):=r8 hR _
def a6 (cols:Nat)(T:List Int):List Int:=((List.range cols).map fun n:Nat=>(n:Int)).filter fun c=>decide (c ∈ T)
theorem ta (n:Nat)(T:List Int):a6 (n+1) T=a6 n T++(if (n:Int) ∈ T then [(n:Int)] else []):=by
 unfold a6;rw[List.range_succ,List.map_append,List.filter_append]
 congr 1
 by_cases h:(n:Int) ∈ T <;> simp[h]
theorem j9 {cols:Nat}{T:List Int}{c:Int}:c ∈ a6 cols T↔(0≤c∧c<cols)∧c ∈ T:=by
 unfold a6;rw[List.mem_filter,List.mem_map,decide_eq_true_eq];constructor
 ·rintro ⟨⟨n,hn,rfl⟩,h⟩;exact ⟨⟨by omega,by have:=List.mem_range.1 hn;omega⟩,h⟩
 ·rintro ⟨⟨h0,h1⟩,h⟩;exact ⟨⟨c.toNat,List.mem_range.2 (by omega),by omega⟩,h⟩
theorem zr (n:Nat):oC ((List.range n).map fun n:Nat=>(n:Int)):=by
 unfold oC;rw[List.pairwise_map];exact List.pairwise_lt_range.imp fun h=>by omega
theorem tc (cols:Nat)(T:List Int):oC (a6 cols T):=(zr cols).sublist List.filter_sublist
theorem fo (cols:Nat)(T:List Int):(a6 cols T).length≤cols:=by
 have:=List.length_filter_le (fun c=>decide (c ∈ T)) ((List.range cols).map fun n:Nat=>(n:Int));simpa [a6] using this
theorem ny (cols:Nat)(T:List Int):(a6 cols T).length≤T.length:=mj (tc cols T).nodup fun k hk=>(j9.1 hk).2
theorem Cj {cols:Nat}{T:List Int}(hn:T.Nodup)(hr:∀ k ∈ T,0≤k∧k<cols):(a6 cols T).length=T.length:=
 Nat.le_antisymm (ny cols T) (mj hn fun k hk=>j9.2 ⟨hr k hk,hk⟩)
theorem mz {cols:Nat}{R:aZ}{T:List Int}(hR:ek cols R)(h:aJ R T):aJ R (a6 cols T):=fun r hr=>by
 obtain ⟨k,hk,hkT⟩:=h r hr;exact ⟨k,hk,j9.2 ⟨hR.rng r hr k hk,hkT⟩⟩
theorem uU (cols:Nat)(T:List Int):dt cols (a6 cols T):=⟨(tc cols T).nodup,fun _ hk=>(j9.1 hk).1⟩
theorem zt (R:aZ)(c:Int):oC (bp R c):=by
 unfold bp oC;rw[List.pairwise_map];exact (List.pairwise_lt_range.sublist List.filter_sublist).imp fun h=>by omega
def oP (R:aZ)(c d:Int):Bool:=(d !=c)&&iu (bp R c) (bp R d)&& !(decide ((bp R d).length=(bp R c).length)&&decide (c<d))
theorem x4 (R:aZ)(c d:Int):oP R c d=xl R c d:=by
 unfold oP xl
 cases h1:(d !=c) with
 | false=>rfl
 | true=>
  cases h2:iu (bp R c) (bp R d) with
  | false=>rfl
  | true=>
   have hne:d≠c:=by simpa using h1
   have hle:=mj (zt R c).nodup (jq.1 h2);simp only[Bool.true_and];rw[Bool.eq_iff_iff];simp only[Bool.not_eq_true',Bool.and_eq_false_imp,decide_eq_true_eq,decide_eq_false_iff_not,Bool.or_eq_true];constructor
   ·intro h;by_cases he:(bp R d).length=(bp R c).length
    ·have:=h he
     right;omega
    ·left;omega
   ·rintro (h | h) he <;> omega
theorem Eh {cols:Nat}{R:aZ}(hR:ek cols R){c:Int}{i0:Nat}{l:List Int}(hw:bp R c=(i0:Int)::l) :
  ((R.getD i0 []).any fun d=>oP R c d)=(List.range cols).any fun d=>xl R c d:=by
 obtain ⟨n,hn,hni,_⟩:=j6.1 (show (i0:Int) ∈ bp R c by rw[hw];exact .head _);obtain rfl:n=i0:=by omega
 rw[Bool.eq_iff_iff,List.any_eq_true,List.any_eq_true];constructor
 ·rintro ⟨d,hd,h⟩;rw[s8 hn] at hd;have hr:=hR.rng _ (List.getElem_mem hn) d hd;refine ⟨d.toNat,List.mem_range.2 (by omega),?_⟩;rw[x4] at h
  rwa [show ((d.toNat:Nat):Int)=d by omega]
 ·rintro ⟨d,hd,h⟩;refine ⟨d,?_,by rw[x4];exact h⟩;have h':=h;unfold xl at h';simp only[Bool.and_eq_true] at h';have:=jq.1 h'.1.2 (n:Int) (by rw[hw];exact .head _);obtain ⟨m,_,hmn,hm⟩:=j6.1 this;obtain rfl:m=n:=by omega
  exact hm
def dz (n cols:Nat):List Int:=(aN n cols).map fun k:Nat=>(k:Int)
theorem td {n cols:Nat}{c:Int}:c ∈ dz n cols↔∃ k:Nat,c=k∧k<cols∧n.testBit k=true:=by
 unfold dz;rw[List.mem_map];constructor
 ·rintro ⟨k,hk,rfl⟩;exact ⟨k,rfl,b_.1 hk⟩
 ·rintro ⟨k,rfl,hk⟩;exact ⟨k,b_.2 hk,rfl⟩
theorem te (n cols:Nat):dt cols (dz n cols):=by
 refine ⟨?_,fun k hk=>?_⟩
 ·have:oC (dz n cols):=by
   unfold dz aN oC;rw[List.pairwise_map];exact (List.pairwise_lt_range.sublist List.filter_sublist).imp fun h=>by omega
  exact this.nodup
 ·obtain ⟨m,rfl,hm,_⟩:=td.1 hk;omega
def mA (cols:Nat)(R:aZ)(n:Nat)(b:Int):Prop:=
 (b= -1∧∀ ch,ch<n→¬ aJ R (dz ch cols))∨∃ ch,ch<n∧aJ R (dz ch cols)∧b=((dz ch cols).length:Int)∧∀ ch',ch'<n→aJ R (dz ch' cols)→(dz ch cols).length≤(dz ch' cols).length
theorem v7 (cols:Nat)(R:aZ):mA cols R 0 (-1):=.inl ⟨rfl,fun ch h=>by omega⟩
theorem x5 {cols:Nat}{R:aZ}{n:Nat}{b:Int}(h:mA cols R n b)(hb:b<0∨((dz n cols).length:Int)<b)(hs:aJ R (dz n cols)):mA cols R (n+1) ((dz n cols).length:Int):=by
 refine .inr ⟨n,by omega,hs,rfl,fun ch' hc' hs'=>?_⟩;by_cases he:ch'=n
 ·subst he;exact Nat.le_refl _
 ·rcases h with ⟨rfl,hn⟩ | ⟨ch,_,_,rfl,hm⟩
  ·exact absurd hs' (hn ch' (by omega))
  ·have:=hm ch' (by omega) hs';rcases hb with hb | hb <;> omega
theorem tf {cols:Nat}{R:aZ}{n:Nat}{b:Int}(h:mA cols R n b)(hb:(0≤b∧b≤((dz n cols).length:Int))∨¬ aJ R (dz n cols)):mA cols R (n+1) b:=by
 rcases h with ⟨rfl,hn⟩ | ⟨ch,hc,hs,rfl,hm⟩
 ·refine .inl ⟨rfl,fun ch hc=>?_⟩;by_cases he:ch=n
  ·subst he;rcases hb with hb | hb
   ·omega
   ·exact hb
  ·exact hn ch (by omega)
 ·refine .inr ⟨ch,by omega,hs,rfl,fun ch' hc' hs'=>?_⟩;by_cases he:ch'=n
  ·subst he;rcases hb with hb | hb
   ·omega
   ·exact absurd hs' hb
  ·exact hm ch' (by omega) hs'
theorem uV {cols:Nat}{S:List Int}(h:dt cols S):∃ ch,ch<2^cols∧(∀ k,k ∈ dz ch cols↔k ∈ S)∧(dz ch cols).length=S.length:=by
 have hm:∀ k,k ∈ dz (mkSet (fun c=>decide ((c:Int) ∈ S)) cols) cols↔k ∈ S:=fun k=>by
  rw[td];constructor
  ·rintro ⟨n,rfl,hn,ht⟩;rw[cT] at ht;simp only[Bool.and_eq_true,decide_eq_true_eq] at ht;exact ht.2
  ·intro hk;have hr:=h.rng k hk;refine ⟨k.toNat,by omega,by omega,?_⟩;rw[cT];simp only[Bool.and_eq_true,decide_eq_true_eq];exact ⟨by omega,by rw[show ((k.toNat:Nat):Int)=k by omega];exact hk⟩
 exact ⟨_,fw _ _,hm,Nat.le_antisymm (mj (te _ _).nodup fun k hk=>(hm k).1 hk) (mj h.nodup fun k hk=>(hm k).2 hk)⟩
theorem rI {R:aZ}{S T:List Int}(h:∀ k,k ∈ S↔k ∈ T)(hS:aJ R S):aJ R T:=fun r hr=>by
 obtain ⟨k,hk,hkS⟩:=hS r hr;exact ⟨k,hk,(h k).1 hkS⟩
theorem x6 {cols:Nat}{R:aZ}{b:Int}(h:mA cols R (2^cols) b):eO cols R b:=by
 rcases h with ⟨rfl,hn⟩ | ⟨ch,hc,hs,rfl,hm⟩
 ·refine .inl ⟨rfl,fun S hS hs=>?_⟩;obtain ⟨ch,hc,h1,_⟩:=uV hS;exact hn ch hc (rI (fun k=>(h1 k).symm) hs)
 ·refine .inr ⟨_,te ch cols,hs,rfl,fun S hS hs'=>?_⟩;obtain ⟨ch',hc',h1,h2⟩:=uV hS;have:=hm ch' hc' (rI (fun k=>(h1 k).symm) hs');omega
def gS (R:aZ):Bool:=R.any fun r=>r.isEmpty
theorem j_ {R:aZ}:gS R=true↔[] ∈ R:=by
 unfold gS;rw[List.any_eq_true];constructor
 ·rintro ⟨r,hr,h⟩;obtain rfl:r=[]:=by simpa using h
  exact hr
 ·intro h;exact ⟨[],h,rfl⟩
theorem Ck {R:aZ}(h:[] ∈ R)(S:List Int):¬ aJ R S:=fun hs=>by
 obtain ⟨k,hk,_⟩:=hs _ h
 cases hk
theorem Cl {cols:Nat}{s s':aZ × List Int}(h:[] ∉ s.1)(hs:dh cols s=some s'):[] ∉ s'.1:=by
 unfold dh at hs;split at hs
 ·rename_i R k ht;injection hs with hs;subst hs;obtain ⟨_,hR⟩:=lF ht;intro hm;rw[hR] at hm;exact h (List.mem_filter.1 hm).1
 ·split at hs
  ·rename_i R hr;injection hs with hs;subst hs;obtain ⟨i,j,_,_,_,_,hR⟩:=lG hr;intro hm;rw[hR] at hm;exact h (List.mem_of_mem_eraseIdx hm)
  ·cases hc:jr cols s.1 with
   | none=>rw[hc] at hs;cases hs
   | some R=>
    rw[hc] at hs;injection hs with hs;subst hs;obtain ⟨c,d,_,_,hne,_,hsub,hR⟩:=lH hc;intro hm;rw[hR] at hm;obtain ⟨r,hr,he⟩:=List.mem_map.1 hm;rw[List.filter_eq_nil_iff] at he
    cases r with
    | nil=>exact h hr
    | cons k r=>
     have hk:=he k (.head _);obtain rfl:k=(c:Int):=by simpa using hk
     have hd:=he _ (hsub _ hr (.head _));have:(d:Int)=c:=by simpa using hd
     omega
theorem pS {cols:Nat}{s:aZ × List Int}(h:[] ∉ s.1):∀ n,[] ∉ (cn cols s n).1
 | 0=>h
 | n+1=>by
  show [] ∉ ((dh cols (cn cols s n)).getD (cn cols s n)).1
  cases hs:dh cols (cn cols s n) with
  | none=>exact pS h n
  | some s'=>exact Cl (pS h n) hs
theorem Ei {cols:Nat}{s s':aZ × List Int}(hs:dh cols s=some s'):s'.1.length≤s.1.length:=by
 unfold dh at hs;split at hs
 ·rename_i R k ht;injection hs with hs;subst hs;obtain ⟨_,hR⟩:=lF ht;show R.length≤_;rw[hR];exact List.length_filter_le _ _
 ·split at hs
  ·rename_i R hr;injection hs with hs;subst hs;obtain ⟨i,j,_,_,_,_,hR⟩:=lG hr;show R.length≤_;rw[hR];exact List.length_eraseIdx_le _ _
  ·cases hc:jr cols s.1 with
   | none=>rw[hc] at hs;cases hs
   | some R=>
    rw[hc] at hs;injection hs with hs;subst hs;obtain ⟨c,d,_,_,_,_,_,hR⟩:=lH hc;show R.length≤_;rw[hR];unfold bh;rw[List.length_map];exact Nat.le_refl _
theorem od {cols:Nat}{s:aZ × List Int}:∀ n,(cn cols s n).1.length≤s.1.length
 | 0=>Nat.le_refl _
 | n+1=>by
  show ((dh cols (cn cols s n)).getD (cn cols s n)).1.length≤_
  cases hs:dh cols (cn cols s n) with
  | none=>exact od n
  | some s'=>exact Nat.le_trans (Ei hs) (od n)
theorem oe {cols:Nat}{R:aZ}(h:ek cols R){r:List Int}(hr:r ∈ R):r.length≤cols:=by
 have:=mj (a:=r) (b:=(List.range cols).map fun n:Nat=>(n:Int)) (h.rise r hr).nodup fun k hk=>by
  have:=h.rng r hr k hk;exact List.mem_map.2 ⟨k.toNat,List.mem_range.2 (by omega),by omega⟩
 simpa using this
def eC:aZ→List Int→Nat
 | [],_=>0
 | r::R,used=>if r.any fun k=>decide (k ∈ used) then eC R used else eC R (used++r)+1
theorem pT:∀ (R:aZ) (used:List Int),eC R used≤R.length
 | [],_=>Nat.le_refl _
 | r::R,used=>by
  unfold eC;split
  ·have:=pT R used;simp only[List.length_cons];omega
  ·have:=pT R (used++r);simp only[List.length_cons];omega
theorem Ej {α:Type}{l:List α}{p q:α→Bool}(h:∀ x ∈ l,p x=true→q x=true){x:α}(hx:x ∈ l)(h1:q x=true)(h2:p x=false):l.countP p<l.countP q:=by
 induction l with
 | nil=>cases hx
 | cons y l ih=>
  have hmono:l.countP p≤l.countP q:=List.countP_mono_left fun x hx=>h x (.tail _ hx);rw[List.countP_cons,List.countP_cons];rcases List.mem_cons.1 hx with rfl | hx
  ·rw[h1,h2];simp only[Bool.false_eq_true,if_false,if_true];omega
  ·have:=ih (fun x hx=>h x (.tail _ hx)) hx;have hy:=h y (.head _)
   cases hp:p y with
   | true=>rw[hy hp];simp only[if_true];omega
   | false=>simp only[Bool.false_eq_true,if_false];split <;> omega
theorem qR:∀ (R:aZ) (used S:List Int),aJ R S→eC R used≤S.countP fun k=> !decide (k ∈ used)
 | [],_,_,_=>Nat.zero_le _
 | r::R,used,S,hs=>by
  have hs':aJ R S:=fun q hq=>hs q (.tail _ hq);unfold eC;split
  ·exact qR R used S hs'
  ·rename_i hfree;obtain ⟨k,hk,hkS⟩:=hs r (.head _);have hku:k ∉ used:=fun hku=>hfree (List.any_eq_true.2 ⟨k,hk,decide_eq_true hku⟩);have h1:=qR R (used++r) S hs';have h2:=Ej (l:=S) (p:=fun k=> !decide (k ∈ used++r)) (q:=fun k=> !decide (k ∈ used)) (fun x _ hx=>by
    simp only[Bool.not_eq_true',decide_eq_false_iff_not] at hx ⊢;exact fun hu=>hx (List.mem_append_left _ hu)) hkS (by simpa using hku) (by simp[hk])
   omega
theorem x7 {R:aZ}{S:List Int}(hs:aJ R S):eC R []≤S.length:=
 Nat.le_trans (qR R [] S hs) List.countP_le_length
def aI (R:aZ)(c:Int):aZ:=R.filter fun r=> !decide (c ∈ r)
theorem nz {R:aZ}{c:Int}{S:List Int}(h:aJ (aI R c) S):aJ R (c::S):=fun r hr=>by
 by_cases hc:c ∈ r
 ·exact ⟨c,hc,.head _⟩
 ·obtain ⟨k,hk,hkS⟩:=h r (List.mem_filter.2 ⟨hr,by simpa using hc⟩);exact ⟨k,hk,.tail _ hkS⟩
theorem x8 {R:aZ}{c:Int}{S:List Int}(h:aJ (bh R c) S):aJ R S:=fun r hr=>by
 obtain ⟨k,hk,hkS⟩:=h _ (List.mem_map.2 ⟨r,hr,rfl⟩);exact ⟨k,(List.mem_filter.1 hk).1,hkS⟩
theorem branch {R:aZ}{c:Int}{S:List Int}(h:aJ R S):(c ∈ S∧aJ (aI R c) (S.erase c))∨aJ (bh R c) S:=by
 by_cases hc:c ∈ S
 ·refine .inl ⟨hc,fun r hr=>?_⟩;obtain ⟨hr,hcr⟩:=List.mem_filter.1 hr;obtain ⟨k,hk,hkS⟩:=h r hr;have hcr':c ∉ r:=by simpa using hcr
  exact ⟨k,hk,(List.mem_erase_of_ne (fun (e:k=c)=>hcr' (by rw[← e];exact hk))).2 hkS⟩
 ·refine .inr fun r hr=>?_;obtain ⟨q,hq,rfl⟩:=List.mem_map.1 hr;obtain ⟨k,hk,hkS⟩:=h q hq;exact ⟨k,List.mem_filter.2 ⟨hk,by simpa using fun e:k=c=>hc (by rw[← e];exact hkS)⟩,hkS⟩
theorem oQ {cols:Int}{R:aZ}(h:ek cols R)(c:Int):ek cols (aI R c):=
 lS h fun r hr=>⟨h.rise r (List.mem_filter.1 hr).1,r,(List.mem_filter.1 hr).1,fun _ h=>h⟩
theorem zu {cols:Int}{R:aZ}(h:ek cols R)(c:Int):ek cols (bh R c):=
 lS h fun r hr=>by
  obtain ⟨q,hq,rfl⟩:=List.mem_map.1 hr;exact ⟨(h.rise q hq).sublist List.filter_sublist,q,hq,fun k hk=>(List.mem_filter.1 hk).1⟩
def kinds (cols:Nat)(R:aZ):Nat:=(List.range cols).countP fun c:Nat=>R.any fun r=>decide ((c:Int) ∈ r)
theorem Ek (cols:Nat)(R:aZ):kinds cols R≤cols:=by
 have:=List.countP_le_length (p:=fun c:Nat=>R.any fun r=>decide ((c:Int) ∈ r)) (l:=List.range cols);simpa [kinds] using this
theorem kb {R:aZ}{c:Int}:(R.any fun r=>decide (c ∈ r))=true↔∃ r ∈ R,c ∈ r:=by
 simp only[List.any_eq_true,decide_eq_true_eq]
theorem Cm {cols:Nat}{R R':aZ}(h:∀ r' ∈ R',∃ r ∈ R,∀ k ∈ r',k ∈ r):kinds cols R'≤kinds cols R:=
 List.countP_mono_left fun c _ hc=>by
  obtain ⟨r',hr',hk⟩:=kb.1 hc;obtain ⟨r,hr,hs⟩:=h r' hr';exact kb.2 ⟨r,hr,hs _ hk⟩
theorem x9 {cols:Nat}{R R':aZ}(h:∀ r' ∈ R',∃ r ∈ R,∀ k ∈ r',k ∈ r){c:Int}(h0:0≤c)(h1:c<cols)(h2:∃ r ∈ R,c ∈ r)(h3:∀ r ∈ R',c ∉ r):kinds cols R'<kinds cols R:=
 Ej (fun x _ hc=>by
  obtain ⟨r',hr',hk⟩:=kb.1 hc;obtain ⟨r,hr,hs⟩:=h r' hr';exact kb.2 ⟨r,hr,hs _ hk⟩) (x:=c.toNat) (List.mem_range.2 (by omega)) (kb.2 (by rw[show ((c.toNat:Nat):Int)=c by omega];exact h2)) (by
   rw[Bool.eq_false_iff];intro hh;obtain ⟨r,hr,hk⟩:=kb.1 hh;rw[show ((c.toNat:Nat):Int)=c by omega] at hk;exact h3 r hr hk)
theorem x_ (R:aZ)(c:Int):∀ r' ∈ aI R c,∃ r ∈ R,∀ k ∈ r',k ∈ r:=fun r' hr'=>⟨r',(List.mem_filter.1 hr').1,fun _ h=>h⟩
theorem El (R:aZ)(c:Int):∀ r' ∈ bh R c,∃ r ∈ R,∀ k ∈ r',k ∈ r:=fun r' hr'=>by
 obtain ⟨q,hq,rfl⟩:=List.mem_map.1 hr';exact ⟨q,hq,fun k hk=>(List.mem_filter.1 hk).1⟩
theorem v_ (R:aZ)(c:Int):∀ r ∈ aI R c,c ∉ r:=fun r hr=>by simpa using (List.mem_filter.1 hr).2
theorem Cn (R:aZ)(c:Int):∀ r ∈ bh R c,c ∉ r:=fun r hr h=>by
 obtain ⟨q,hq,rfl⟩:=List.mem_map.1 hr;simpa using (List.mem_filter.1 h).2
theorem Gq (cols:Nat)(R:aZ):∃ b,eO cols R b:=by
 have:∀ n,∃ b,mA cols R n b:=fun n=>by
  induction n with
  | zero=>exact ⟨-1,v7 cols R⟩
  | succ n ih=>
   obtain ⟨b,hb⟩:=ih;by_cases hs:aJ R (dz n cols)
   ·by_cases hlt:b<0∨((dz n cols).length:Int)<b
    ·exact ⟨_,x5 hb hlt hs⟩
    ·exact ⟨b,tf hb (.inl (by omega))⟩
   ·exact ⟨b,tf hb (.inr hs)⟩
 obtain ⟨b,hb⟩:=this (2^cols);exact ⟨b,x6 hb⟩
theorem pU {cols:Nat}{R:aZ}(hR:ek cols R){S:List Int}(hS:dt cols S)(hs:aJ R S) :
  ∃ S',dt cols S'∧aJ (c_ cols (R,[])).1 S'∧(c_ cols (R,[])).2.length+S'.length≤S.length:=by
 have hi:=j0 hR;obtain ⟨b,hb⟩:=Gq cols (c_ cols (R,[])).1;have h1:=hi.best b hb;rcases hb with ⟨rfl,hn⟩ | ⟨S',hS',hs',rfl,_⟩
 ·rw[if_pos (by decide)] at h1;rcases h1 with ⟨_,h1⟩ | ⟨T,_,_,h1,_⟩
  ·exact absurd hs (h1 S hS)
  ·omega
 ·rw[if_neg (by omega)] at h1;rcases h1 with ⟨h1,_⟩ | ⟨T,_,_,h1,h2⟩
  ·omega
  ·have:=h2 S hS hs;exact ⟨S',hS',hs',by omega⟩
abbrev uk:=List (aZ × List Int)
def uW (cols:Nat)(st:uk):Nat:=(st.map fun x=>2^kinds cols x.1 - 1).sum
def pV (cols:Nat)(st:uk):Nat:=(st.map fun x=>2^(kinds cols x.1+1) - 1).sum
theorem og (cols:Nat)(st:uk)(x:aZ × List Int):uW cols (st++[x])=uW cols st+(2^kinds cols x.1 - 1):=by simp[uW]
theorem oh (cols:Nat)(st:uk)(x:aZ × List Int):pV cols (st++[x])=pV cols st+(2^(kinds cols x.1+1) - 1):=by simp[pV]
theorem pW (cols:Nat)(st:uk)(x:aZ × List Int):pV cols st<pV cols (st++[x]):=by
 rw[oh];have:2≤2^(kinds cols x.1+1):=by rw[Nat.pow_succ];have:=Nat.one_le_two_pow (n:=kinds cols x.1);omega
 omega
structure fL (cols:Nat) (R0:aZ) (best:List Int) (n:Nat) (st:uk):Prop where
 right:∀ x ∈ st,ek cols x.1
 rows:∀ x ∈ st,x.1.length≤R0.length
 ok:∀ x ∈ st,∀ S,aJ x.1 S→aJ R0 (x.2++S)
 solved:aJ R0 best
 low:∀ S,dt cols S→aJ R0 S→best.length≤S.length∨∃ x ∈ st,∃ S',dt cols S'∧aJ x.1 S'∧x.2.length+S'.length≤S.length
 steps:n+uW cols st≤2^cols - 1
 len:∀ x ∈ st,x.2.length+(cols+1)*kinds cols x.1≤(cols+1)*cols
 high:∀ i x,st[i]?=some x→i+kinds cols x.1≤cols
theorem Co {cols:Nat}{R0:aZ}(hR:ek cols R0){g:List Int}(hg:aJ R0 g):fL cols R0 g 0 [(R0,[])]:=by
 have hk:=Ek cols R0;refine ⟨?_,?_,?_,hg,fun S hS hs=>.inr ⟨_,.head _,S,hS,hs,by simp⟩,?_,?_,?_⟩
 ·intro x hx;obtain rfl:=List.mem_singleton.1 hx;exact hR
 ·intro x hx;obtain rfl:=List.mem_singleton.1 hx;exact Nat.le_refl _
 ·intro x hx S hS;obtain rfl:=List.mem_singleton.1 hx;exact hS
 ·have h:=Nat.pow_le_pow_right (show 0<2 by decide) hk;simp only[uW,List.map_cons,List.map_nil,List.sum_cons,List.sum_nil];omega
 ·intro x hx;obtain rfl:=List.mem_singleton.1 hx;have:=Nat.mul_le_mul_left (cols+1) hk;simpa using this
 ·intro i x hx;obtain ⟨hi,rfl⟩:=List.getElem?_eq_some_iff.1 hx;have:i=0:=by simpa using hi
  subst this;simpa using hk
theorem r9 {cols:Nat}{R0:aZ}{best:List Int}{n:Nat}{st:uk}{x:aZ × List Int}(h:fL cols R0 best n (st++[x])){best':List Int}(hb:aJ R0 best')(hlow:∀ S,dt cols S→aJ R0 S→best'.length≤S.length∨∃ x ∈ st,∃ S',dt cols S'∧aJ x.1 S'∧x.2.length+S'.length≤S.length):fL cols R0 best' n st:=by
 refine ⟨fun y hy=>h.right y (by simp[hy]),fun y hy=>h.rows y (by simp[hy]),fun y hy=>h.ok y (by simp[hy]),hb,hlow,?_,fun y hy=>h.len y (by simp[hy]),fun i y hy=>h.high i y ?_⟩
 ·have:=h.steps;rw[og] at this;omega
 ·rw[List.getElem?_append_left (List.getElem?_eq_some_iff.1 hy).1];exact hy
theorem r_ {cols:Nat}{R0:aZ}{best:List Int}{n:Nat}{st:uk}{x:aZ × List Int}(h:fL cols R0 best n (st++[x])){best':List Int}(hle:best'.length≤best.length)(ht:∀ S S',dt cols S→dt cols S'→aJ x.1 S'→x.2.length+S'.length≤S.length→best'.length≤S.length) :
  ∀ S,dt cols S→aJ R0 S→best'.length≤S.length∨∃ x ∈ st,∃ S',dt cols S'∧aJ x.1 S'∧x.2.length+S'.length≤S.length:=fun S hS hs=>by
 rcases h.low S hS hs with h1 | ⟨y,hy,S',hS',hs',hl⟩
 ·left;omega
 ·rcases List.mem_append.1 hy with hy | hy
  ·exact .inr ⟨y,hy,S',hS',hs',hl⟩
  ·obtain rfl:y=x:=by simpa using hy
   exact .inl (ht S S' hS hS' hs' hl)
theorem Em {cols:Nat}{R0:aZ}{best:List Int}{n:Nat}{st:uk}{x:aZ × List Int}(h:fL cols R0 best n (st++[x]))(hb:[] ∈ x.1):fL cols R0 best n st:=
 r9 h h.solved (r_ h (Nat.le_refl _) fun _ S' _ _ hs _=>absurd hs (Ck hb S'))
theorem uX {cols:Nat}{R0:aZ}{best:List Int}{n:Nat}{st:uk}{x:aZ × List Int}(h:fL cols R0 best n (st++[x])) :
  ∀ S,aJ (c_ cols (x.1,[])).1 S→aJ R0 ((x.2++a6 cols (c_ cols (x.1,[])).2)++S):=fun S hS=>by
 have hR:=h.right x (by simp);have hi:=j0 hR;have h1:=hi.solves S hS;have h2:aJ x.1 (a6 cols (c_ cols (x.1,[])).2++S):=fun r hr=>by
  obtain ⟨k,hk,hkS⟩:=h1 r hr;refine ⟨k,hk,?_⟩;rcases List.mem_append.1 hkS with hk' | hk'
  ·exact List.mem_append_left _ (j9.2 ⟨hR.rng r hr k hk,hk'⟩)
  ·exact List.mem_append_right _ hk'
 rw[List.append_assoc];exact h.ok x (by simp) _ h2
theorem th {cols:Nat}{R0:aZ}{best:List Int}{n:Nat}{st:uk}{x:aZ × List Int}(h:fL cols R0 best n (st++[x])) :
  (a6 cols (c_ cols (x.1,[])).2).length=(c_ cols (x.1,[])).2.length:=
 Cj (j0 (h.right x (by simp))).nodup (j0 (h.right x (by simp))).rng
theorem En {cols:Nat}{R0:aZ}{best:List Int}{n:Nat}{st:uk}{x:aZ × List Int}(h:fL cols R0 best n (st++[x]))(he:(c_ cols (x.1,[])).1=[]) :
  fL cols R0 (if (x.2++a6 cols (c_ cols (x.1,[])).2).length<best.length then x.2++a6 cols (c_ cols (x.1,[])).2 else best) n st:=by
 have hs:aJ R0 (x.2++a6 cols (c_ cols (x.1,[])).2):=by
  have:=uX h [] (by rw[he];intro r hr;cases hr)
  rwa [List.append_nil] at this
 have hl:∀ S S',dt cols S→dt cols S'→aJ x.1 S'→x.2.length+S'.length≤S.length→(x.2++a6 cols (c_ cols (x.1,[])).2).length≤S.length:=fun S S' _ hS' hs' hle=>by
  obtain ⟨T,_,_,hT⟩:=pU (h.right x (by simp)) hS' hs';rw[List.length_append,th h];omega
 split
 ·rename_i hlt;exact r9 h hs (r_ h (by omega) hl)
 ·rename_i hge;exact r9 h h.solved (r_ h (Nat.le_refl _) fun S S' a b c d=>by have:=hl S S' a b c d;omega)
theorem Gr {cols:Nat}{R0:aZ}{best:List Int}{n:Nat}{st:uk}{x:aZ × List Int}(h:fL cols R0 best n (st++[x]))(hc:best.length≤(x.2++a6 cols (c_ cols (x.1,[])).2).length+eC (c_ cols (x.1,[])).1 []):fL cols R0 best n st:=
 r9 h h.solved (r_ h (Nat.le_refl _) fun S S' _ hS' hs' hle=>by
  obtain ⟨T,_,hTs,hT⟩:=pU (h.right x (by simp)) hS' hs';have:=x7 hTs;rw[List.length_append,th h] at hc;omega)
theorem oR {a b k:Nat}(ha:a<k)(hb:b<k):(2^a - 1)+(2^b - 1)+1≤2^k - 1:=by
 have h1:=Nat.pow_le_pow_right (show 0<2 by decide) (show a≤k - 1 by omega);have h2:=Nat.pow_le_pow_right (show 0<2 by decide) (show b≤k - 1 by omega);have h3:2^k=2*2^(k - 1):=by rw[← Nat.pow_succ'];congr 1;omega
 have:=Nat.one_le_two_pow (n:=a);have:=Nat.one_le_two_pow (n:=b);omega
theorem Cp {cols:Nat}{R0:aZ}{best:List Int}{n:Nat}{st:uk}{x:aZ × List Int}(h:fL cols R0 best n (st++[x])){c:Int}(hc:∃ r ∈ (c_ cols (x.1,[])).1,c ∈ r) :
  (0≤c∧c<cols)∧kinds cols (bh (c_ cols (x.1,[])).1 c)<kinds cols x.1∧kinds cols (aI (c_ cols (x.1,[])).1 c)<kinds cols x.1:=by
 have hi:=j0 (h.right x (by simp));obtain ⟨r,hr,hcr⟩:=hc;have hrng:=hi.right.rng r hr c hcr;have h1:=Cm (cols:=cols) hi.sub;have h2:=x9 (cols:=cols) (El (c_ cols (x.1,[])).1 c) hrng.1 hrng.2 ⟨r,hr,hcr⟩ (Cn _ c);have h3:=x9 (cols:=cols) (x_ (c_ cols (x.1,[])).1 c) hrng.1 hrng.2 ⟨r,hr,hcr⟩ (v_ _ c);exact ⟨hrng,by omega,by omega⟩
theorem zv {cols:Nat}{R0:aZ}{best:List Int}{n:Nat}{st:uk}{x:aZ × List Int}(h:fL cols R0 best n (st++[x])){c:Int}(hc:∃ r ∈ (c_ cols (x.1,[])).1,c ∈ r) :
  fL cols R0 best (n+1) (st++[(bh (c_ cols (x.1,[])).1 c,x.2++a6 cols (c_ cols (x.1,[])).2),(aI (c_ cols (x.1,[])).1 c,(x.2++a6 cols (c_ cols (x.1,[])).2)++[c])])∧
   n+1≤2^cols - 1∧
   pV cols (st++[(bh (c_ cols (x.1,[])).1 c,x.2++a6 cols (c_ cols (x.1,[])).2),(aI (c_ cols (x.1,[])).1 c,(x.2++a6 cols (c_ cols (x.1,[])).2)++[c])])<pV cols (st++[x]):=by
 have hR:=h.right x (by simp);have hi:=j0 hR;have ht:=uX h;have htl:=th h;have hrl:=fo cols (c_ cols (x.1,[])).2;have hlen:(c_ cols (x.1,[])).1.length≤x.1.length:=od (s:=(x.1,[])) _;obtain ⟨hrng,hk1,hk2⟩:=Cp h hc;have hsp:=oR hk1 hk2;have hst:=h.steps;have hlx:=h.len x (by simp);have hrx:=h.rows x (by simp);rw[og] at hst;have hmul:∀ k,k<kinds cols x.1→(cols+1)*k+(cols+1)≤(cols+1)*kinds cols x.1:=fun k hk=>by
  have:=Nat.mul_le_mul_left (cols+1) (show k+1≤kinds cols x.1 by omega);rw[Nat.mul_add,Nat.mul_one] at this;exact this
 have hright:=hi.right;generalize hE:(c_ cols (x.1,[])).1=E at *;generalize hT:a6 cols (c_ cols (x.1,[])).2=T at *;refine ⟨⟨?_,?_,?_,h.solved,?_,?_,?_,?_⟩,?_,?_⟩
 ·intro y hy;rcases List.mem_append.1 hy with hy | hy
  ·exact h.right y (by simp[hy])
  ·simp only[List.mem_cons,List.not_mem_nil,or_false] at hy;rcases hy with rfl | rfl
   ·exact zu hright c
   ·exact oQ hright c
 ·intro y hy;rcases List.mem_append.1 hy with hy | hy
  ·exact h.rows y (by simp[hy])
  ·simp only[List.mem_cons,List.not_mem_nil,or_false] at hy;rcases hy with rfl | rfl
   ·show (bh E c).length≤_;unfold bh;rw[List.length_map];omega
   ·show (aI E c).length≤_;have:=List.length_filter_le (fun r=> !decide (c ∈ r)) E;unfold aI;omega
 ·intro y hy S hS;rcases List.mem_append.1 hy with hy | hy
  ·exact h.ok y (by simp[hy]) S hS
  ·simp only[List.mem_cons,List.not_mem_nil,or_false] at hy;rcases hy with rfl | rfl
   ·exact ht S (x8 hS)
   ·have:=ht (c::S) (nz hS);show aJ R0 (((x.2++T)++[c])++S);rw[List.append_assoc];exact this
 ·intro S hS hs;rcases h.low S hS hs with h1 | ⟨y,hy,S',hS',hs',hl⟩
  ·exact .inl h1
  ·right
   rcases List.mem_append.1 hy with hy | hy
   ·exact ⟨y,by simp[hy],S',hS',hs',hl⟩
   ·obtain rfl:y=x:=by simpa using hy
    obtain ⟨U,hU,hUs,hUl⟩:=pU hR hS' hs';rw[hE] at hUs;rcases branch (c:=c) hUs with ⟨hcU,hb⟩ | hb
    ·refine ⟨(aI E c,(y.2++T)++[c]),by simp,U.erase c,jX hU c,hb,?_⟩;have h1:=List.length_erase_of_mem hcU;have h2:=List.length_pos_of_mem hcU;show ((y.2++T)++[c]).length+_≤_;rw[List.length_append,List.length_append,htl];simp only[List.length_cons,List.length_nil];omega
    ·refine ⟨(bh E c,y.2++T),by simp,U,hU,hb,?_⟩;show (y.2++T).length+_≤_;rw[List.length_append,htl];omega
 ·have:st++[(bh E c,x.2++T),(aI E c,(x.2++T)++[c])]=(st++[(bh E c,x.2++T)])++[(aI E c,(x.2++T)++[c])]:=by simp
  rw[this,og,og];show n+1+(uW cols st+(2^kinds cols (bh E c) - 1)+(2^kinds cols (aI E c) - 1))≤_;omega
 ·intro y hy;rcases List.mem_append.1 hy with hy | hy
  ·exact h.len y (by simp[hy])
  ·simp only[List.mem_cons,List.not_mem_nil,or_false] at hy;rcases hy with rfl | rfl
   ·show (x.2++T).length+(cols+1)*kinds cols (bh E c)≤_;have:=hmul _ hk1;rw[List.length_append];omega
   ·show ((x.2++T)++[c]).length+(cols+1)*kinds cols (aI E c)≤_;have:=hmul _ hk2;rw[List.length_append,List.length_append];simp only[List.length_cons,List.length_nil];omega
 ·intro i y hy;have hx:=h.high st.length x (by simp);by_cases hil:i<st.length
  ·rw[List.getElem?_append_left hil] at hy;refine h.high i y ?_;rw[List.getElem?_append_left hil];exact hy
  ·rw[List.getElem?_append_right (by omega)] at hy;obtain ⟨hi2,hy⟩:=List.getElem?_eq_some_iff.1 hy;simp only[List.length_cons,List.length_nil] at hi2;have:i - st.length=0∨i - st.length=1:=by omega
   rcases this with h0 | h0
   ·simp only[h0,List.getElem_cons_zero] at hy;subst hy;show i+kinds cols (bh E c)≤cols;omega
   ·simp only[h0,List.getElem_cons_succ,List.getElem_cons_zero] at hy;subst hy;show i+kinds cols (aI E c)≤cols;omega
 ·omega
 ·have:st++[(bh E c,x.2++T),(aI E c,(x.2++T)++[c])]=(st++[(bh E c,x.2++T)])++[(aI E c,(x.2++T)++[c])]:=by simp
  rw[this,oh,oh,oh];show pV cols st+(2^(kinds cols (bh E c)+1) - 1)+(2^(kinds cols (aI E c)+1) - 1)<_;have:=oR (show kinds cols (bh E c)+1<kinds cols x.1+1 by omega) (show kinds cols (aI E c)+1<kinds cols x.1+1 by omega);omega
theorem Gs {cols:Nat}{R0:aZ}(hR:ek cols R0){best:List Int}{n:Nat}(h:fL cols R0 best n []) :
  eO cols R0 ((a6 cols best).length:Int)∧aJ R0 (a6 cols best):=by
 have hs:=mz hR h.solved;refine ⟨.inr ⟨_,uU cols best,hs,rfl,fun S hS hs'=>?_⟩,hs⟩;rcases h.low S hS hs' with h1 | ⟨x,hx,_⟩
 ·exact Nat.le_trans (ny cols best) h1
 ·cases hx
def dT (R:aZ)(c:Int):Nat:=R.countP fun r=>decide (c ∈ r)
def o_ (R:aZ)(c:Int):Prop:=0<dT R c∧∀ d,dT R d<dT R c∨(dT R d=dT R c∧c≤d)
theorem wa {R:aZ}{c:Int}:0<dT R c↔∃ r ∈ R,c ∈ r:=by
 unfold dT;rw[List.countP_pos_iff];simp only[decide_eq_true_eq]
theorem AZ {R:aZ}{c:Int}(h:o_ R c):∃ r ∈ R,c ∈ r:=wa.1 h.1
inductive mB:aZ→List Int→Prop
 | nil:mB [] []
 | cons {R:aZ} {c:Int} {l:List Int}:o_ R c→mB (aI R c) l→mB R (c::l)
theorem uw {R:aZ}{l:List Int}(h:mB R l):aJ R l:=by
 induction h with
 | nil=>intro r hr;cases hr
 | cons _ _ ih=>exact nz ih
theorem zw {R:aZ}{c:Int}(h:∃ r ∈ R,c ∈ r):(aI R c).length<R.length:=by
 obtain ⟨r,hr,hc⟩:=h;unfold aI;rw[List.length_filter_lt_length_iff_exists];exact ⟨r,hr,by simp[hc]⟩
def FR (A:Ar)(id:Int):Option Nd:=if 2≤id then slot A (id - 2).toNat else none
theorem Eo {A:Ar}{id:Int}{d:Nd}(h:FR A id=some d):aR A id=d.l:=by
 unfold FR at h;split at h
 ·rename_i h2;have:=iZ h
  rwa [show (((id - 2).toNat:Nat):Int)+2=id by omega] at this
 ·cases h
theorem A_ {A:Ar}{i:Nat}:FR A ((i:Int)+2)=slot A i:=by
 unfold FR;rw[if_pos (by omega),show ((i:Int)+2 - 2).toNat=i by omega]
theorem Ep {A:Ar}{id:Int}{d:Nd}(h:FR A id=some d):∃ i:Nat,id=(i:Int)+2∧slot A i=some d:=by
 unfold FR at h;split at h
 ·exact ⟨(id - 2).toNat,by omega,h⟩
 ·cases h
theorem Ba {A:Ar}{id:Int}(h:FR A id=none)(h0:0≤aR A id):id=0∨id=1:=by
 rcases i_ h0 with h1 | h1 | ⟨i,n,rfl,hs,_⟩
 ·exact .inl h1
 ·exact .inr h1
 ·rw[A_,hs] at h;cases h
theorem j1 {A:Ar}{id:Int}(h:id=0∨id=1):aR A id=24:=by unfold aR;rw[if_pos h]
def Ext (A A':Ar):Prop:=∀ i d,slot A i=some d→slot A' i=some d
theorem Ext.refl (A:Ar):Ext A A:=fun _ _ h=>h
theorem Ext.trans {A B C:Ar}(h:Ext A B)(k:Ext B C):Ext A C:=fun i d hd=>k i d (h i d hd)
theorem Ext.nd {A A':Ar}(h:Ext A A'){id:Int}{d:Nd}(hd:FR A id=some d):FR A' id=some d:=by
 obtain ⟨i,rfl,hs⟩:=Ep hd;rw[A_];exact h i d hs
theorem Ext.lvl {A A':Ar}(h:Ext A A'){id:Int}(h0:0≤aR A id):aR A' id=aR A id:=by
 cases hd:FR A id with
 | none=>rw[j1 (Ba hd h0),j1 (Ba hd h0)]
 | some d=>rw[Eo hd,Eo (h.nd hd)]
theorem Gt {A:Ar}{n:Nd}:Ext A (iQ A n):=fun i d hd=>by
 rw[fy];split
 ·rename_i he;subst he;rw[j8] at hd;cases hd
 ·exact hd
theorem Er {A:Ar}{n:Nd}(h:bS A=A.length):bS (iQ A n)=(iQ A n).length:=by
 have h1:=nj (iQ A n);rcases Nat.eq_or_lt_of_le h1 with h2 | h2
 ·exact h2
 ·have h3:=j8 (iQ A n);rw[fy] at h3;split at h3
  ·cases h3
  ·rename_i hne;rw[nk,if_pos h] at h2;obtain ⟨d,hd⟩:=kZ (A:=A) (i:=bS (iQ A n)) (by omega);rw[hd] at h3;cases h3
theorem Cq {A:Ar}(h:bS A=A.length):kY A=A.length:=by
 unfold kY;rw[List.countP_eq_length];intro x hx;obtain ⟨i,hi,rfl⟩:=List.getElem_of_mem hx;obtain ⟨d,hd⟩:=kZ (A:=A) (i:=i) (by omega);have:=jz hi;rw[List.getElem?_eq_getElem hi] at this;injection this with this;rw[this,hd];rfl
theorem kB {α:Type}[DecidableEq α]:∀ {a b:List α},a.Nodup→(∀ k ∈ a,k ∈ b)→a.length≤b.length
 | [],b,_,_=>Nat.zero_le _
 | k::a,b,ha,h=>by
  obtain ⟨hk,ha'⟩:=List.nodup_cons.1 ha;have hb:k ∈ b:=h k (.head _);have hlt:=kB (b:=b.erase k) ha' fun x hx=>(List.mem_erase_of_ne (fun (e:x=k)=>hk (by rw[← e];exact hx))).2 (h x (.tail _ hx));rw[List.length_erase_of_mem hb] at hlt;have:=List.length_pos_of_mem hb;simp only[List.length_cons];omega
end Go.Dk
namespace Go.Proofs.YtpjihhgjbbihkaaGreatDoor
open Go.Proofs.Tryz
set_option maxRecDepth 100000
open Go.Dk
attribute [local irreducible] IntKind.wrap
def fz (p:Nat→List Int→Bool):Nat→aZ→aZ
 | _,[]=>[]
 | i,r::R=>if p i r then r::fz p (i+1) R else fz p (i+1) R
theorem pX (p:Nat→List Int→Bool):∀ (i:Nat) (R T:aZ),fz p i (R++T)=fz p i R++fz p (i+R.length) T
 | i,[],T=>by simp[fz]
 | i,r::R,T=>by
  have e:i+1+R.length=i+(r::R).length:=by simp;omega
  simp only[List.cons_append,fz];rw[pX p (i+1) R T,e];split <;> rfl
theorem zx (p:Nat→List Int→Bool){R:aZ}{i:Nat}{x:List Int}(hx:R[i]?=some x):fz p 0 (R.take (i+1))=fz p 0 (R.take i)++(if p i x then [x] else []):=by
 have hi:=(List.getElem?_eq_some_iff.1 hx).1;rw[List.take_add_one,hx,pX,List.length_take,Nat.min_eq_left (by omega),Nat.zero_add];simp only[Option.toList_some,fz]
theorem uY (p:Nat→List Int→Bool):∀ (i:Nat) (R:aZ),(fz p i R).length≤R.length
 | _,[]=>Nat.le_refl _
 | i,r::R=>by
  have:=uY p (i+1) R;simp only[fz];split <;> simp only[List.length_cons] <;> omega
theorem dH:eH prog 137=some (mv 0 (.slice none 0 0)):=by kernel_rfl
theorem tj:qu prog 135 75 (.slice none 0 0) 1 24:=⟨underlying135,by kernel_rfl,rfl,by decide⟩
theorem lT {a:Int}{w:World}{kk:Value→World→Prop}(h:kk (mv a (.slice none 0 0)) w):b7 prog 137 [(0,.int .i64 a)] w kk:=bu (fun w=>by kernel_rfl) h
theorem pY:bB prog 135=some 1:=by kernel_rfl
theorem dc {cols:Int}{A:Option Addr}{l c:Nat}:∀ v ∈ (mc cols (.slice A l c)).toList,v.oneCell'=true:=by
 intro v hv;simp[mc] at hv;rcases hv with rfl | rfl <;> rfl
theorem pZ {P:Program}{g:FuncId}{caps:Array Value}{args:List Value}{w:World}{k:Value→World→Prop}{q:Value→World→Prop}(h:bt P g (args++caps.toList) w q)(hk:∀ v w',q v w'→k v w') :
  js P (.func (.func g) #[] caps) args w k:=by
 unfold js;exact h.mono hk
structure tk (S:Nat→Prop) (w w':World) (v:Value) (R:aZ):Prop where
 keeps:aT w w'
 mat:∃ S',er S' v R w'∧∀ g,S' g→g<w'.heap.size∧(w.heap.size≤g∨S g)
theorem I6:enters prog 154=true:=by kernel_rfl
theorem c154 (cols:Int)(R:aZ)(v1:Value)(S:Nat→Prop)(g:FuncId)(caps:Array Value)(p:Nat→List Int→Bool)(w:World)(hl:R.length≤1000000000)(h1:er S v1 R w)(hS:∀ g,S g→g<w.heap.size)(hp:∀ (i:Nat) (ks:List Int) (B:Option Addr) (c:Nat) (w1:World),R[i]?=some ks→aT w w1→Sl w (.slice B ks.length c) 1 ks.length (aA ks)→
   bt prog g (([.int .i64 (i:Int),.slice B ks.length c]:List Value)++caps.toList) w1 fun v w'=>v=.bool (p i ks)∧aT w1 w') :
  bt prog 154 [mv cols v1,.func (.func g) #[] caps] w fun v w'=>∃ v',v=mv cols v'∧tk S w w' v' (fz p 0 R):=by
 refine ar (N:=31) func154 I6 rfl rfl rfl (by simp) ?_;have H:=Hp.aC w;obtain ⟨A,ca,va,rfl,ha0,hr0⟩:=h1;have ha:Sl w (.slice A R.length ca) 1 R.length va:=sl.mono ha0 hS;have hvl:va.length=R.length:=by have:=ha.1;omega
 refine H.box 137 (mv _ _) (cs:=mc _ _) rfl ?_;clear H;intro g1 w1 H;refine H.alloc 137 dH rfl ?_;clear H;intro g2 w2 H;refine ak (γ:=Nat) (fun g3=>[(5,(ah g3))]) (fun g3 w'=>Hp w ab w' [an g3 137 (mc cols (.slice none 0 0)),an g2 137 (mv 0 (.slice none 0 0)).cells,an g1 137 (mc cols (.slice A R.length ca))] []) ?_ ?_
 ·refine aa (iE _) ?_;refine H.load 1 rfl aE rfl ?_;refine lT ?_;refine H.alloc 137 dH rfl ?_;clear H;intro g3 w3 H;refine H.storeAll 0 rfl az rfl (fun v hv=>dc v hv) ?_;clear H;intro w7 H;exact ⟨_,⟨rfl,trivial⟩,H⟩
 ·clear H;rintro g3 u w3 H;replace H:=(H.bx 75 1).front 1 rfl;refine ak (γ:=Option Addr × Nat × List Value) (fun _=>[]) (fun (B,d,hs) w'=>(hs.length=(fz p 0 R).length∧∀ (j:Nat) (u:Value) (ks:List Int),hs[j]?=some u→(fz p 0 R)[j]?=some ks→qQ S w u ks)∧
   Hp w ab w' [an g3 137 (mc cols (.slice B hs.length d)),own 75 1 (.slice B hs.length d) hs.length hs,an g2 137 (mv 0 (.slice none 0 0)).cells,an g1 137 (mc cols (.slice A R.length ca))] []) ?_ ?_
  ·refine aa (cz _) ?_;refine H.load 3 rfl eu rfl ?_;refine ay underlying135 ?_;refine ax (γ:=Nat × Option Addr × Nat × List Value) (fun (i,_)=>[(14,.int .i64 (i:Int))])
    (fun (i,B,d,hs) w'=>(i≤R.length∧hs.length=(fz p 0 (R.take i)).length∧∀ (j:Nat) (u:Value) (ks:List Int),hs[j]?=some u→(fz p 0 (R.take i))[j]?=some ks→qQ S w u ks)∧
     Hp w ab w' [an g3 137 (mc cols (.slice B hs.length d)),own 75 1 (.slice B hs.length d) hs.length hs,an g2 137 (mv 0 (.slice none 0 0)).cells,an g1 137 (mc cols (.slice A R.length ca))] [])
    (fun (i,_)=>R.length - i) (0,none,0,[]) ⟨rfl,trivial⟩ ⟨⟨Nat.zero_le _,by simp[fz],fun j u ks h=>by simp at h⟩,H⟩ ?_
   clear H;rintro ⟨i,B,d,hs⟩ u w4 ⟨⟨hi,hhl,hrs⟩,H⟩;refine au (fun h7=>?_) (fun h7=>?_)
   ·obtain ⟨x,hx⟩:∃ x,R[i]?=some x:=⟨_,List.getElem?_eq_getElem (by omega)⟩;have hu:va[i]?=some (va[i]'(by omega)):=List.getElem?_eq_getElem (by omega);obtain ⟨Bx,cx,hux,hsx0⟩:=hr0 i _ x hu hx;rw[hux] at hu;have hsx:Sl w (.slice Bx x.length cx) 1 x.length (aA x):=sl.mono hsx0 hS;obtain ⟨g0,o0,rfl⟩:=ha.A (by omega);have hsn:=zx p hx;refine aq underlying135 (s:=1) fK i rfl (by omega) (o':=o0+i) (by omega) ?_;refine H.dn (i:=i) ha iD _ rfl hu ?_;refine pZ (hp i x Bx cx _ hx H.keeps hsx) ?_;rintro _ w5 ⟨rfl,hk⟩;replace H:=H.same hk;clear hk;refine aF (fun hb=>?_) (fun hb=>?_)
    ·rw[if_pos hb] at hsn;refine aa (cz _) ?_;refine H.load 0 rfl eu rfl ?_;refine H.aX tj rfl ?_;clear H;intro g5 w6 H;have hb1:hs.length≤1000000000:=by have:=uY p 0 (R.take i);rw[List.length_take] at this;omega
     refine H.cf 1 tj rfl rfl (by omega) (by omega) ?_;clear H;intro B2 d2 w7 H;refine aa (cz _) ?_;refine H.store 0 rfl pY (by show 1<2;decide) rfl ?_;clear H;intro w8 H;have hli:(hs++[Value.slice Bx x.length cx]).length=hs.length+1:=by simp
     refine ⟨(i+1,B2,d2,hs++[Value.slice Bx x.length cx]),by show R.length - (i+1)<R.length - i;omega,⟨up (by omega),trivial⟩,⟨by show i+1≤R.length;omega,by rw[hsn,hli,List.length_append,hhl];rfl,?_⟩,by rw[hli];exact H⟩;intro j u ks hj hks;rw[hsn] at hks;by_cases hjl:j<hs.length
     ·rw[List.getElem?_append_left hjl] at hj;rw[List.getElem?_append_left (by omega)] at hks;exact hrs j u ks hj hks
     ·rw[List.getElem?_append_right (by omega)] at hj hks;have hj0:j - hs.length=0:=by have:=(List.getElem?_eq_some_iff.1 hj).1;simp at this;omega
      rw[← hhl,hj0] at hks;rw[hj0] at hj;simp at hj hks;subst hj;subst hks;exact ⟨Bx,cx,rfl,hsx0⟩
    ·rw[if_neg (by rw[hb];decide),List.append_nil] at hsn;exact ⟨(i+1,B,d,hs),by show R.length - (i+1)<R.length - i;omega,⟨up (by omega),trivial⟩,⟨by show i+1≤R.length;omega,by rw[hsn];exact hhl,by rw[hsn];exact hrs⟩,H⟩
   ·have:i=R.length:=by omega
    subst this;rw[List.take_length] at hhl hrs;exact ⟨(B,d,hs),trivial,⟨hhl,hrs⟩,H⟩
  ·clear H;rintro ⟨B,d,hs⟩ u w4 ⟨⟨hhl,hrs⟩,H⟩;refine H.ai 0 rfl aL az ?_;refine H.storeAll 2 rfl az rfl (fun v hv=>dc v hv) ?_;clear H;intro w5 H;refine H.ai 2 rfl aL az ?_;refine ⟨rfl,?_⟩;refine ⟨.slice B hs.length d,rfl,H.keeps,?_⟩;refine ⟨fun g=>S g∨(w.heap.size≤g∧g<w5.heap.size),⟨B,d,hs,by rw[hhl],?_,fun i u ks hu hks=>?_⟩,?_⟩
   ·have hown:=H.get 1 rfl;rw[← hhl];exact sl.mono (iv hown) fun g hg=>.inr ⟨(H.new _ (.tail _ (.head _)) g hg).resolve_right id,H.lt _ (.tail _ (.head _)) g hg⟩
   ·obtain ⟨B',c',hv',hs'⟩:=hrs i u ks hu hks;exact ⟨B',c',hv',sl.mono ((sl _ _ _ _ _).bP _ _ (fun g hg=>H.keeps.old g (hS g hg) id) hs') fun g hg=>.inl hg⟩
   ·rintro g (hg | ⟨h1,h2⟩)
    ·exact ⟨Nat.lt_of_lt_of_le (hS g hg) H.keeps.size,.inr hg⟩
    ·exact ⟨h2,.inl h1⟩
theorem nA {P:Program}{fn:Fn}{a c:List Value}{w:World}{k:Value→World→Prop}(h:k (.func fn a.toArray c.toArray) w):cu P fn a c w k:=by
 unfold cu;exact ⟨_,w,by simp[Instr.makeFunc],h⟩
theorem wb {α:Type}{p:α→Bool}{l:List α}{i:Nat}{x:α}(hno:∀ y ∈ l.take i,p y=false)(hx:l[i]?=some x)(hp:p x=true):l.find? p=some x:=by
 obtain ⟨hi,rfl⟩:=List.getElem?_eq_some_iff.1 hx;have hsp:l=l.take i++l[i]::l.drop (i+1):=by rw[List.getElem_cons_drop,List.take_append_drop]
 generalize l[i]=y at hsp hp;rw[hsp,List.find?_append,List.find?_eq_none.2 (fun y hy=>by rw[hno y hy];decide),Option.none_or,List.find?_cons,hp]
theorem Gu {α:Type}{p:α→Bool}{l:List α}{i:Nat}{x:α}(hno:∀ y ∈ l.take i,p y=false)(hx:l[i]?=some x)(hp:p x=false):∀ y ∈ l.take (i+1),p y=false:=by
 intro y hy;rw[List.take_add_one,hx] at hy;rcases List.mem_append.1 hy with hy | hy
 ·exact hno y hy
 ·have:y=x:=by simpa using hy
  rw[this];exact hp
theorem _root_.Go.Dk.Hp.fW {w0 w w':World}{F:Nat→Prop}{L M:List cC}{S:Nat→Prop}{v v':Value}{R R':aZ}(H:Hp w0 F w L M)(hM:bf S v R ∈ M)(hn:tk S w w' v' R') :
  ∃ S',Hp w0 F w' L (bf S' v' R'::M)∧∀ g,S' g→w0.heap.size≤g∨S g:=by
 obtain ⟨hk,S',hok,hS'⟩:=hn;refine ⟨S',H.pG hk (bf S' v' R') hok fun g hg=>⟨(hS' g hg).1,(hS' g hg).2.imp id fun h=>⟨_,hM,h⟩⟩,fun g hg=>(hS' g hg).2.imp (fun h=>Nat.le_trans H.keeps.size h) id⟩
theorem _root_.Go.Dk.Hp.ya {w w':World}{L M:List cC}{S S':Nat→Prop}{v':Value}{R':aZ}(H:Hp w ab w' L (bf S' v' R'::M))(hS':∀ g,S' g→w.heap.size≤g∨S g):tk S w w' v' R':=
 ⟨H.keeps,S',H.ro 0 rfl,fun g hg=>⟨H.rlt _ (.head _) g hg,hS' g hg⟩⟩
theorem er.form {S:Nat→Prop}{v:Value}{R:aZ}{w:World}(h:er S v R w):∃ A c,v=.slice A R.length c:=by
 obtain ⟨B,c,vs,hv,_⟩:=h;exact ⟨B,c,hv⟩
theorem pa {S:Nat→Prop}{v:Value}{R:aZ}{w:World}(h:er S v R w)(hS:∀ g,S g→g<w.heap.size):Hp w ab w [] [bf S v R]:=
 Hp.start w _ _ (fun r hr=>by rw[List.mem_singleton] at hr;subst hr;exact h) (fun r hr=>by rw[List.mem_singleton] at hr;subst hr;exact hS)
theorem I7:enters prog 155=true:=by kernel_rfl
theorem Nl (i:Int)(ks:List Int)(B:Option Addr)(c:Nat)(col:Int)(g7:Nat)(w:World)(hl:ks.length≤1000000000)(hs:Sl w (.slice B ks.length c) 1 ks.length (aA ks))(hc:(an g7 3 #[.int .i64 col]).ok w) :
  bt prog 155 [.int .i64 i,.slice B ks.length c,(ah g7)] w fun v w'=>v=.bool (!decide (col ∈ ks))∧aT w w':=by
 refine ar (N:=10) func155 I7 rfl rfl rfl (by simp) ?_;refine jM hc aE rfl ?_;refine aj (c156 ks B c col _ hl hs) ?_;rintro _ w1 ⟨rfl,hk⟩;exact ⟨rfl,hk⟩
theorem I8:enters prog 158=true:=by kernel_rfl
theorem Nn (i:Int)(v:Value)(i0:Int)(g7:Nat)(w:World)(hc:(an g7 3 #[.int .i64 i0]).ok w) :
  bt prog 158 [.int .i64 i,v,(ah g7)] w fun v w'=>v=.bool (i !=i0)∧aT w w':=by
 refine ar (N:=9) func158 I8 rfl rfl rfl (by simp) ?_;refine jM hc aE rfl ?_;exact ⟨rfl,aS.refl _ _⟩
theorem p3 (q:List Int→Bool):∀ (i:Nat) (R:aZ),fz (fun _ r=>q r) i R=R.filter q
 | _,[]=>rfl
 | i,r::R=>by simp only[fz,List.filter_cons,p3 q (i+1) R]
theorem uZ (p:Nat→List Int→Bool):∀ (i:Nat) (R:aZ),(∀ j r,i≤j→p j r=true)→fz p i R=R
 | _,[],_=>rfl
 | i,r::R,h=>by
  simp only[fz];rw[if_pos (h i r (Nat.le_refl _)),uZ p (i+1) R fun j r hj=>h j r (by omega)]
theorem rJ (i0:Nat):∀ (i:Nat) (R:aZ),i≤i0→fz (fun x _=>(x:Int) !=(i0:Int)) i R=R.eraseIdx (i0 - i)
 | _,[],_=>by simp[fz]
 | i,r::R,h=>by
  simp only[fz];by_cases he:i=i0
  ·subst he;rw[if_neg (by simp),Nat.sub_self,List.eraseIdx_cons_zero];exact uZ _ _ _ fun j r hj=>by simp;omega
  ·obtain ⟨m,hm⟩:∃ m,i0 - i=m+1:=⟨i0 - i - 1,by omega⟩;rw[if_pos (by simp;omega),hm,List.eraseIdx_cons_succ,rJ i0 (i+1) R (by omega),show i0 - (i+1)=m by omega]
def lU (cols:Int)(R:aZ):Option (aZ × Int):=if cA cols R then lD R else none
theorem I9:enters prog 116=true:=by kernel_rfl
theorem c116 (cols:Int)(R:aZ)(v1:Value)(S:Nat→Prop)(w:World)(hl:R.length≤1000000000)(hlr:∀ r ∈ R,r.length≤1000000000)(h1:er S v1 R w)(hS:∀ g,S g→g<w.heap.size) :
  bt prog 116 [mv cols v1] w fun v w'=>∃ v',v=.tuple #[mv cols v',.int .i64 (((lU cols R).map (·.2)).getD 0),.bool (lU cols R).isSome]∧tk S w w' v' (((lU cols R).map (·.1)).getD R):=by
 refine ar (N:=31) func116 I9 rfl rfl rfl (by simp) ?_;have H:=pa h1 hS;have h1':jT w v1 R:=bf.mono h1 hS;obtain ⟨A,ca,va,rfl,ha,hra⟩:=h1'.rH;refine H.box 137 (mv _ _) (cs:=mc _ _) rfl ?_;clear H;intro g1 w1 H;refine H.alloc 137 dH rfl ?_;clear H;intro g2 w2 H;refine H.ai 1 rfl aL az ?_;refine aj (Ee cols R _ _ hl hlr (h1'.same H.keeps)) ?_;rintro _ w3 ⟨rfl,hk⟩;replace H:=H.same hk;clear hk;refine aF (fun hr=>?_) (fun hr=>?_)
 ·have hno:lU cols R=none:=by unfold lU;rw[if_neg];simpa using hr
  rw[hno];refine H.ai 1 rfl aL az ?_;refine H.storeAll 0 rfl az rfl (fun v hv=>dc v hv) ?_;clear H;intro w4 H;refine H.ai 0 rfl aL az ?_;refine ⟨rfl,?_⟩;exact ⟨_,rfl,H.ya fun g hg=>.inr hg⟩
 ·have hr':cA cols R=true:=by simpa using hr
  have htk:lU cols R=lD R:=by unfold lU;rw[if_pos hr']
  rw[htk];refine aw (fun w'=>(∀ r ∈ R,(r.length==1)=false)∧Hp.cl H w') ?_ ?_
  ·refine aa (cz _) ?_;refine H.load 1 rfl eu rfl ?_;refine ay underlying135 ?_;refine ax (γ:=Nat) (fun i=>[(15,.int .i64 (i:Int))]) (fun i w'=>(i≤R.length∧∀ r ∈ R.take i,(r.length==1)=false)∧Hp.cl H w') (fun i=>R.length - i) 0 ⟨rfl,trivial⟩ ⟨⟨Nat.zero_le _,by simp⟩,H⟩ ?_;rintro i u w4 ⟨⟨hi,hno⟩,H1⟩;replace H:Hp _ _ _ _ _:=H1;clear H1;refine au (fun h7=>?_) (fun h7=>?_)
   ·obtain ⟨x,hx⟩:∃ x,R[i]?=some x:=⟨_,List.getElem?_eq_getElem (by omega)⟩;obtain ⟨g0,o0,rfl⟩:=ha.A (by omega);obtain ⟨Bx,cx,hget,hsx⟩:=hra i x hx;refine aq underlying135 (s:=1) fK i rfl (by omega) (o':=o0+i) (by omega) ?_;refine H.dn (i:=i) ha iD _ rfl hget ?_;refine ay underlying75 ?_;refine cr (fun h8=>?_) (fun h8=>?_)
    ·have hx1:x.length=1:=by omega
     obtain ⟨k,rfl⟩:∃ k,x=[k]:=List.length_eq_one_iff.1 hx1;have hfd:R.find? (fun r=>r.length==1)=some [k]:=wb hno hx (by rfl);have htake:lD R=some (R.filter fun q=> !decide (k ∈ q),k):=by unfold lD;rw[hfd];rfl
     rw[htake];obtain ⟨gx,ox,rfl⟩:=hsx.A (by simp);refine aq underlying75 (s:=1) a_ 0 rfl (by simp) (o':=ox) (by omega) ?_;refine H.dn (i:=0) hsx aE _ rfl rfl ?_;refine H.alloc 3 AX rfl ?_;clear H;intro g7 w5 H;refine H.store 0 rfl a_ (by show 0<1;decide) rfl ?_;clear H;intro w6 H;replace H:Hp w ab w6 [an g7 3 #[.int .i64 k],an g2 137 (mv 0 (.slice none 0 0)).cells,an g1 137 (mc cols (.slice (some ⟨g0,o0,none⟩) R.length ca))] [bf S (.slice (some ⟨g0,o0,none⟩) R.length ca) R]:=H;refine H.fg [an g7 3 #[.int .i64 k],an g1 137 (mc cols (.slice (some ⟨g0,o0,none⟩) R.length ca))] (fun u H=>(H.front 1 rfl).forget) eS (by kernel_rfl) ?_;clear H;intro w7 H;refine quiet _ (fun w H=>H.ai 1 rfl aL az ae) ?_;refine quiet _ (fun w H=>nA ae) ?_;refine aj (c154 cols R _ S 155 _ (fun _ r=> !decide (k ∈ r)) _ hl (H.ro 0 rfl) (H.rlt _ (.head _)) (fun i ks B c u hks hsame hsl=>Nl _ ks B c k g7 u (hlr _ (List.mem_of_getElem? hks)) (hsl.same hsame) ((H.same hsame).get 0 rfl))) ?_;rintro _ w8 ⟨v',rfl,hn⟩;rw[p3] at hn;obtain ⟨S',H2,hS'⟩:=H.fW (.head _) hn;clear H;replace H:=H2;clear H2;refine ⟨.inl ((H.front 1 rfl).forget).ao,?_⟩;refine quiet _ (fun w H=>H.load 0 rfl aE rfl ae) ?_;obtain ⟨A',c',hv'⟩:=(H.ro 0 rfl).form;subst hv';refine H.storeAll 1 rfl az rfl (fun v hv=>dc v hv) ?_;clear H;intro w9 H;refine ⟨.inl ((H.front 1 rfl).forget).ao,?_⟩;refine H.ai 1 rfl aL az ?_;refine ⟨rfl,?_⟩;exact ⟨_,rfl,H.ya hS'⟩
    ·exact ⟨i+1,by show R.length - (i+1)<R.length - i;omega,⟨up (by omega),trivial⟩,⟨by show i+1≤R.length;omega,Gu hno hx (by simp;omega)⟩,H⟩
   ·have:i=R.length:=by omega
    subst this;rw[List.take_length] at hno;exact ⟨(),trivial,hno,H⟩
  ·rintro ⟨⟩ u w4 ⟨hno,H1⟩;replace H:Hp _ _ _ _ _:=H1;clear H1;have htake:lD R=none:=by unfold lD;rw[List.find?_eq_none.2 (fun y hy=>by rw[hno y hy];decide)];rfl
   rw[htake];refine H.ai 1 rfl aL az ?_;refine H.storeAll 0 rfl az rfl (fun v hv=>dc v hv) ?_;clear H;intro w5 H;refine H.ai 0 rfl aL az ?_;refine ⟨rfl,?_⟩;exact ⟨_,rfl,H.ya fun g hg=>.inr hg⟩
def oS (cols:Int)(R:aZ):Option aZ:=if cA cols R then lE R else none
theorem zy {R:aZ}{i k:Nat}(hno:∀ i',i'<i→(List.range R.length).any (qx R i')=false)(hi:i<R.length)(hk:k<R.length)(hd:qx R i k=true):lE R=some (R.eraseIdx i):=by
 unfold lE xk;rw[wb (i:=i) (x:=i) (fun y hy=>?_) (by rw[List.getElem?_range hi]) (List.any_eq_true.2 ⟨k,List.mem_range.2 hk,hd⟩)]
 ·rfl
 ·rw[List.take_range,Nat.min_eq_left (by omega)] at hy;exact hno y (List.mem_range.1 hy)
theorem Cr {R:aZ}(hno:∀ i',i'<R.length→(List.range R.length).any (qx R i')=false):lE R=none:=by
 unfold lE xk;rw[List.find?_eq_none.2 (fun y hy=>by rw[hno y (List.mem_range.1 hy)];decide)];rfl
theorem I_ {n:Nat}{p:Nat→Bool}(h:∀ k,k<n→p k=false):(List.range n).any p=false:=by
 rw[Bool.eq_false_iff];intro hh;obtain ⟨k,hk,hp⟩:=List.any_eq_true.1 hh;rw[h k (List.mem_range.1 hk)] at hp;cases hp
theorem wc {n:Nat}{p:Nat→Bool}(h:∀ k,k<n→p k=false)(hn:p n=false):∀ k,k<n+1→p k=false:=fun k hk=>by
 rcases Nat.lt_or_ge k n with hlt | hge
 ·exact h k hlt
 ·obtain rfl:k=n:=by omega
  exact hn
theorem Ja {R:aZ}{i k:Nat}{x y:List Int}(hx:R[i]?=some x)(hy:R[k]?=some y):qx R i k=((k !=i)&&iu y x&&(decide (y.length<x.length)||decide (k<i))):=by
 unfold qx;rw[List.getD_eq_getElem?_getD,List.getD_eq_getElem?_getD,hx,hy];rfl
theorem Jb:enters prog 118=true:=by kernel_rfl
theorem No (cols:Int)(R:aZ)(v1:Value)(S:Nat→Prop)(w:World)(hl:R.length≤1000000000)(hlr:∀ r ∈ R,r.length≤1000000000)(h1:er S v1 R w)(hS:∀ g,S g→g<w.heap.size) :
  bt prog 118 [mv cols v1] w fun v w'=>∃ v',v=.tuple #[mv cols v',.bool (oS cols R).isSome]∧tk S w w' v' ((oS cols R).getD R):=by
 refine ar (N:=54) func118 Jb rfl rfl rfl (by simp) ?_;have H:=pa h1 hS;have h1':jT w v1 R:=bf.mono h1 hS;obtain ⟨A,ca,va,rfl,ha,hra⟩:=h1'.rH;refine H.box 137 (mv _ _) (cs:=mc _ _) rfl ?_;clear H;intro g1 w1 H;refine H.alloc 137 dH rfl ?_;clear H;intro g2 w2 H;refine H.ai 1 rfl aL az ?_;refine aj (Ee cols R _ _ hl hlr (h1'.same H.keeps)) ?_;rintro _ w3 ⟨rfl,hk⟩;replace H:=H.same hk;clear hk;refine aF (fun hr=>?_) (fun hr=>?_)
 ·have hno:oS cols R=none:=by unfold oS;rw[if_neg];simpa using hr
  rw[hno];refine H.ai 1 rfl aL az ?_;refine H.storeAll 0 rfl az rfl (fun v hv=>dc v hv) ?_;clear H;intro w4 H;refine H.ai 0 rfl aL az ?_;refine ⟨rfl,?_⟩;exact ⟨_,rfl,H.ya fun g hg=>.inr hg⟩
 ·have hr':cA cols R=true:=by simpa using hr
  have htk:oS cols R=lE R:=by unfold oS;rw[if_pos hr']
  rw[htk];refine aw (fun w'=>(∀ i,i<R.length→(List.range R.length).any (qx R i)=false)∧Hp.cl H w') ?_ ?_
  ·refine aa (cz _) ?_;refine H.load 1 rfl eu rfl ?_;refine ay underlying135 ?_;refine ax (γ:=Nat) (fun i=>[(15,.int .i64 (i:Int))]) (fun i w'=>(i≤R.length∧∀ i',i'<i→(List.range R.length).any (qx R i')=false)∧Hp.cl H w') (fun i=>R.length - i) 0 ⟨rfl,trivial⟩ ⟨⟨Nat.zero_le _,fun i' h=>by omega⟩,H⟩ ?_;rintro i u w4 ⟨⟨hi,hno⟩,H1⟩;replace H:Hp _ _ _ _ _:=H1;clear H1;refine au (fun h7=>?_) (fun h7=>?_)
   ·obtain ⟨x,hx⟩:∃ x,R[i]?=some x:=⟨_,List.getElem?_eq_getElem (by omega)⟩;obtain ⟨g0,o0,rfl⟩:=ha.A (by omega);obtain ⟨Bx,cx,hget,hsx⟩:=hra i x hx;have hxl:=hlr x (List.mem_of_getElem? hx);refine aw (fun w'=>(∀ k,k<R.length→qx R i k=false)∧Hp.cl H w') ?_ ?_
    ·refine aq underlying135 (s:=1) fK i rfl (by omega) (o':=o0+i) (by omega) ?_;refine H.dn (i:=i) ha iD _ rfl hget ?_;refine H.alloc 3 AX rfl ?_;intro g7 w5 H2;refine H2.store 0 rfl a_ (by show 0<1;decide) rfl ?_;clear H2;intro w6 H2;replace H2:Hp w ab w6 [an g7 3 #[.int .i64 i],an g2 137 (mv 0 (.slice none 0 0)).cells,an g1 137 (mc cols (.slice (some ⟨g0,o0,none⟩) R.length ca))] [bf S (.slice (some ⟨g0,o0,none⟩) R.length ca) R]:=H2;refine aa (cz _) ?_;refine H2.load 2 rfl eu rfl ?_;refine ay underlying135 ?_;refine ax (γ:=Nat) (fun k=>[(23,.int .i64 (k:Int))]) (fun k w'=>(k≤R.length∧∀ k',k'<k→qx R i k'=false)∧Hp.cl H2 w') (fun k=>R.length - k) 0 ⟨rfl,trivial⟩ ⟨⟨Nat.zero_le _,fun i' h=>by omega⟩,H2⟩ ?_;rintro k u w7 ⟨⟨hkk,hnk⟩,H1⟩;replace H2:Hp _ _ _ _ _:=H1;clear H1;refine au (fun h8=>?_) (fun h8=>?_)
     ·obtain ⟨y,hy⟩:∃ y,R[k]?=some y:=⟨_,List.getElem?_eq_getElem (by omega)⟩;obtain ⟨By,cy,hgety,hsy⟩:=hra k y hy;have hyl:=hlr y (List.mem_of_getElem? hy);have hdom:=Ja hx hy;refine aw (fun w'=>qx R i k=false∧Hp.cl H2 w') ?_ ?_
      ·refine ak (γ:=Unit) (fun _=>[(6,.int .i64 (k:Int)),(7,.slice By y.length cy)]) (fun _ w'=>Hp.cl H2 w') ?_ ?_
       ·refine aq underlying135 (s:=1) fK k rfl (by omega) (o':=o0+k) (by omega) ?_;refine H2.dn (i:=k) ha iD _ rfl hgety ?_;exact ⟨(),⟨rfl,rfl,trivial⟩,H2⟩
       ·rintro ⟨⟩ u w8 H1;replace H2:Hp _ _ _ _ _:=H1;clear H1;refine ak (γ:=Unit) (fun _=>[(47,.bool (qx R i k))]) (fun _ w'=>Hp.cl H2 w') ?_ ?_
        ·refine H2.load 0 rfl aE rfl ?_;refine de (fun h10=>?_) (fun h10=>?_)
         ·have hki:(k !=i)=true:=by simp;omega
          refine ag (bne_iff_ne.2 (by omega)) ?_;refine ag (bne_iff_ne.2 (by omega)) ?_;refine aj (c157 y x By Bx cy cx _ hyl hxl (hsy.same H2.keeps) (hsx.same H2.keeps)) ?_;rintro _ w13 ⟨rfl,hk13⟩;replace H2:=H2.same hk13;clear hk13;refine ag (bne_iff_ne.2 (by omega)) ?_;refine aF (fun h15=>?_) (fun h15=>?_)
          ·refine ag (by assumption) ?_;refine ay underlying75 ?_
           iterate 2 refine ag (by assumption) ?_
           refine ay underlying75 ?_
           iterate 2 refine ag (by assumption) ?_
           refine au (fun h23=>?_) (fun h23=>?_)
           ·refine ag (decide_eq_true (by assumption)) ?_;refine ag (decide_eq_true (by assumption)) ?_;refine ag (by assumption) ?_;refine ag (decide_eq_true (by assumption)) ?_;refine ag (by assumption) ?_;exact ⟨(),⟨by rw[hdom,hki,h15,decide_eq_true (show y.length<x.length by omega)];rfl,trivial⟩,H2⟩
           ·refine af (decide_eq_false (by assumption)) ?_;refine H2.load 0 rfl aE rfl ?_;refine af (decide_eq_false (by assumption)) ?_;refine ag (by assumption) ?_;refine af (decide_eq_false (by assumption)) ?_;refine ag (by assumption) ?_;exact ⟨(),⟨by rw[hdom,hki,h15,decide_eq_false (show ¬ y.length<x.length by omega)];exact congrArg Value.bool (decide_eq_decide.2 (by omega)),trivial⟩,H2⟩
          ·refine af (by assumption) ?_
           iterate 6 refine af (by assumption) ?_
           exact ⟨(),⟨by rw[hdom,hki,h15];rfl,trivial⟩,H2⟩
         ·have hki:(k !=i)=false:=by simp;omega
          iterate 3 refine af (bne_eq_false_iff_eq.2 (by omega)) ?_
          iterate 8 refine af rfl ?_
          exact ⟨(),⟨by rw[hdom,hki];rfl,trivial⟩,H2⟩
        ·rintro ⟨⟩ u w9 H1;replace H2:Hp _ _ _ _ _:=H1;clear H1;refine aF (fun hd=>?_) (fun hd=>⟨(),trivial,hd,H2⟩);rw[zy hno (by omega) (by omega) hd];refine H2.ai 2 rfl aL az ?_;refine nA ?_;refine aj (c154 cols R _ S 158 _ (fun x _=>(x:Int) !=(i:Int)) _ hl (H2.ro 0 rfl) (H2.rlt _ (.head _)) (fun j ks B c u hks hsame hsl=>Nn _ _ i g7 u ((H2.same hsame).get 0 rfl))) ?_;rintro _ w10 ⟨v',rfl,hn⟩;rw[rJ i 0 R (Nat.zero_le _),Nat.sub_zero] at hn;obtain ⟨S',H3,hS'⟩:=H2.fW (.head _) hn;obtain ⟨A',c',hv'⟩:=(H3.ro 0 rfl).form;subst hv';refine H3.storeAll 1 rfl az rfl (fun v hv=>dc v hv) ?_;clear H3;intro w11 H3;refine H3.ai 1 rfl aL az ?_;refine ⟨rfl,?_⟩;exact ⟨_,rfl,H3.ya hS'⟩
      ·rintro ⟨⟩ u w9 ⟨hdk,H1⟩;exact ⟨k+1,by show R.length - (k+1)<R.length - k;omega,⟨up (by omega),trivial⟩,⟨by show k+1≤R.length;omega,wc hnk hdk⟩,H1⟩
     ·have:k=R.length:=by omega
      subst this;exact ⟨(),trivial,hnk,H2.forget⟩
    ·rintro ⟨⟩ u w5 ⟨hdk,H1⟩;exact ⟨i+1,by show R.length - (i+1)<R.length - i;omega,⟨up (by omega),trivial⟩,⟨by show i+1≤R.length;omega,wc hno (I_ hdk)⟩,H1⟩
   ·have:i=R.length:=by omega
    subst this;exact ⟨(),trivial,hno,H⟩
  ·rintro ⟨⟩ u w4 ⟨hno,H1⟩;replace H:Hp _ _ _ _ _:=H1;clear H1;rw[Cr hno];refine H.ai 1 rfl aL az ?_;refine H.storeAll 0 rfl az rfl (fun v hv=>dc v hv) ?_;clear H;intro w5 H;refine H.ai 0 rfl aL az ?_;refine ⟨rfl,?_⟩;exact ⟨_,rfl,H.ya fun g hg=>.inr hg⟩
def jl (R:aZ)(c:Int)(i:Nat):List Int:=((List.range i).filter fun i=>decide (c ∈ R.getD i [])).map (fun i:Nat=>(i:Int))
theorem zz {R:aZ}{c:Int}{i:Nat}{x:List Int}(hx:R[i]?=some x):jl R c (i+1)=jl R c i++(if c ∈ x then [(i:Int)] else []):=by
 unfold jl;rw[List.range_succ,List.filter_append,List.map_append]
 congr 1
 have:R.getD i []=x:=by rw[List.getD_eq_getElem?_getD,hx];rfl
 by_cases h:c ∈ x
 ·simp only[List.filter_cons,this,h,decide_true,if_true,List.filter_nil,List.map_cons,List.map_nil]
 ·simp only[List.filter_cons,this,h,decide_false,Bool.false_eq_true,if_false,List.filter_nil,List.map_nil]
theorem tl (R:aZ)(c:Int)(i:Nat):(jl R c i).length≤i:=by
 have:=List.length_filter_le (fun i=>decide (c ∈ R.getD i [])) (List.range i);simpa [jl] using this
def mN (cols:Nat)(R:aZ)(c:Int):Bool:= !(bp R c).isEmpty&&(List.range cols).any fun d=>xl R c (d:Int)
theorem Cs (R:aZ)(c:Int):(bp R c).length≤R.length:=tl R c R.length
theorem Es {cols:Nat}{R:aZ}{c:Int}(h:(bp R c).length=0):mN cols R c=false:=by
 unfold mN;rw[List.length_eq_zero_iff.1 h];rfl
def iR (S:Nat→Prop)(w:World)(hs:List Value)(Q:aZ):Prop:=hs.length=Q.length∧∀ (j:Nat) (u:Value) (ks:List Int),hs[j]?=some u→Q[j]?=some ks→qQ S w u ks
theorem iR.nil (S:Nat→Prop)(w:World):iR S w [] []:=⟨rfl,fun j u ks h=>by simp at h⟩
theorem iR.snoc {S:Nat→Prop}{w:World}{hs:List Value}{Q:aZ}(h:iR S w hs Q){u:Value}{ks:List Int}(hu:qQ S w u ks):iR S w (hs++[u]) (Q++[ks]):=by
 obtain ⟨h1,h2⟩:=h;refine ⟨by simp[h1],fun j v rs hj hrs=>?_⟩;by_cases hjl:j<hs.length
 ·rw[List.getElem?_append_left hjl] at hj;rw[List.getElem?_append_left (by omega)] at hrs;exact h2 j v rs hj hrs
 ·rw[List.getElem?_append_right (by omega)] at hj hrs;have hj0:j - hs.length=0:=by have:=(List.getElem?_eq_some_iff.1 hj).1;simp at this;omega
  rw[← h1,hj0] at hrs;rw[hj0] at hj;simp at hj hrs;subst hj;subst hrs;exact hu
theorem qQ.mono {S S':Nat→Prop}{w:World}{u:Value}{ks:List Int}(h:qQ S w u ks)(hS:∀ g,S g→S' g):qQ S' w u ks:=by
 obtain ⟨B,c,hv,hs⟩:=h;exact ⟨B,c,hv,sl.mono hs hS⟩
theorem qQ.bP {S:Nat→Prop}{w w':World}{u:Value}{ks:List Int}(h:qQ S w u ks)(hS:∀ g,S g→w'.heap[g]?=w.heap[g]?):qQ S w' u ks:=by
 obtain ⟨B,c,hv,hs⟩:=h;exact ⟨B,c,hv,(sl _ _ _ _ _).bP _ _ hS hs⟩
theorem iR.bP {S:Nat→Prop}{w w':World}{hs:List Value}{Q:aZ}(h:iR S w hs Q)(hS:∀ g,S g→w'.heap[g]?=w.heap[g]?):iR S w' hs Q:=
 ⟨h.1,fun j u ks hj hks=>(h.2 j u ks hj hks).bP hS⟩
theorem iR.mono {S S':Nat→Prop}{w:World}{hs:List Value}{Q:aZ}(h:iR S w hs Q)(hS:∀ g,S g→S' g):iR S' w hs Q:=
 ⟨h.1,fun j u ks hj hks=>(h.2 j u ks hj hks).mono hS⟩
def di (S:Nat→Prop)(hs:List Value)(Q:aZ):cC:=⟨S,fun w=>iR S w hs Q,fun _ _ h hok=>hok.bP h⟩
theorem sa {w w':World}{L M:List cC}{S S':Nat→Prop}{B:Option Addr}{d n:Nat}{hs:List Value}{Q:aZ}(H:Hp w ab w' L M)(i:Nat)(hn:L[i]?=some (own 75 1 (.slice B n d) n hs))(hq:iR S' w' hs Q)(hS:∀ g,S' g→g<w'.heap.size∧(w.heap.size≤g∨S g)):tk S w w' (.slice B n d) Q:=by
 have hown:=H.get i hn;have hm:=List.mem_of_getElem? hn;have hlen:hs.length=n:=by have:=hown.1;omega
 have hnQ:n=Q.length:=by rw[← hlen];exact hq.1
 subst hnQ;refine ⟨H.keeps,fun g=>S' g∨(w.heap.size≤g∧g<w'.heap.size),⟨B,d,hs,rfl,?_,fun i u ks hu hks=>?_⟩,?_⟩
 ·exact sl.mono (iv hown) fun g hg=>.inr ⟨(H.new _ hm g hg).resolve_right id,H.lt _ hm g hg⟩
 ·obtain ⟨B',c',hv',hs'⟩:=hq.2 i u ks hu hks;exact ⟨B',c',hv',sl.mono hs' fun g hg=>.inl hg⟩
 ·rintro g (hg | ⟨h1,h2⟩)
  ·exact hS g hg
  ·exact ⟨h2,.inl h1⟩
theorem Et {w w':World}{L M:List cC}{S:Nat→Prop}{B:Option Addr}{d n:Nat}{hs:List Value}{Q:aZ}(H:Hp w ab w' L M)(i:Nat)(hn:L[i]?=some (own 75 1 (.slice B n d) n hs))(hq:iR S w hs Q)(hS:∀ g,S g→g<w.heap.size):tk S w w' (.slice B n d) Q:=
 sa H i hn (hq.bP fun g hg=>H.keeps.old g (hS g hg) id) fun g hg=>⟨Nat.lt_of_lt_of_le (hS g hg) H.keeps.size,.inr hg⟩
theorem _root_.Go.Dk.Hp.zA {w0 w:World}{L M:List cC}{S:Nat→Prop}{hs:List Value}{Q:aZ}{v:Value}{ks:List Int}(H:Hp w0 ab w (own 3 1 v ks.length (aA ks)::L) (di S hs Q::M))(hS:∀ g,S g→w0.heap.size≤g) :
  ∃ S',Hp w0 ab w L (di S' (hs++[v]) (Q++[ks])::M)∧∀ g,S' g→w0.heap.size≤g:=by
 have hown:=H.get 0 rfl;have hrow:=H.ro 0 rfl;have hnew:=H.new _ (.head _);have H2:=H.freeze;refine ⟨fun g=>S g∨v.ownBlock=some g,(H2.pG (aS.refl _ _) (di (fun g=>S g∨v.ownBlock=some g) (hs++[v]) (Q++[ks])) ?_ fun g hg=>⟨?_,.inr ?_⟩).ep ?_,?_⟩
 ·obtain ⟨A,c,rfl,_⟩:=e9 hown;exact iR.snoc (hrow.mono fun g hg=>.inl hg) ⟨A,c,rfl,sl.mono (iv hown) fun g hg=>.inr hg⟩
 ·rcases hg with hg | hg
  ·exact H2.rlt _ (.tail _ (.head _)) g hg
  ·exact H2.rlt _ (.head _) g hg
 ·rcases hg with hg | hg
  ·exact ⟨_,.tail _ (.head _),hg⟩
  ·exact ⟨_,.head _,hg⟩
 ·intro r hr;rcases List.mem_cons.1 hr with rfl | hr
  ·exact .head _
  ·exact .tail _ (.tail _ (.tail _ hr))
 ·rintro g (hg | hg)
  ·exact hS g hg
  ·exact (hnew g hg).resolve_right id
theorem _root_.Go.Dk.Hp.zB {w0 w:World}{F:Nat→Prop}{L M:List cC}(H:Hp w0 F w L M):Hp w0 F w L (di (fun _=>False) [] []::M):=
 H.pG (aS.refl _ _) _ (iR.nil _ _) fun g hg=>hg.elim
theorem yb {R:aZ}{i:Nat}{x:List Int}(q:List Int→Bool)(hx:R[i]?=some x):(R.take (i+1)).filter q=(R.take i).filter q++(if q x then [x] else []):=by
 rw[List.take_add_one,hx,List.filter_append]
 cases h:q x <;> simp[h]
theorem zC {cols:Nat}{R:aZ}{c:Nat}(hno:∀ c',c'<c→mN cols R ((c':Nat):Int)=false)(hc:c<cols)(hd:mN cols R (c:Int)=true):jr cols R=some (bh R c):=by
 unfold jr xm;rw[wb (i:=c) (x:=c) (fun y hy=>?_) (by rw[List.getElem?_range hc]) hd]
 ·rfl
 ·rw[List.take_range,Nat.min_eq_left (by omega)] at hy;exact hno y (List.mem_range.1 hy)
theorem Ct {cols:Nat}{R:aZ}(hno:∀ c,c<cols→mN cols R ((c:Nat):Int)=false):jr cols R=none:=by
 unfold jr xm;have:(List.range cols).find? (fun c:Nat=> !(bp R (c:Int)).isEmpty&&(List.range cols).any fun d:Nat=>xl R (c:Int) (d:Int))=none:=List.find?_eq_none.2 fun y hy=>by
  have h:=hno y (List.mem_range.1 hy);unfold mN at h;rw[h];decide
 rw[this];rfl
theorem u3 {R:aZ}{i:Nat}{x:List Int}{c:Int}(hx:R[i]?=some x):bh (R.take (i+1)) c=bh (R.take i) c++[x.filter fun k=>k !=c]:=by
 unfold bh;rw[List.take_add_one,hx,List.map_append];rfl
theorem u4 {l:List Int}{i:Nat}{x:Int}(q:Int→Bool)(hx:l[i]?=some x):(l.take (i+1)).filter q=(l.take i).filter q++(if q x then [x] else []):=by
 rw[List.take_add_one,hx,List.filter_append]
 cases h:q x <;> simp[h]
theorem hY (l:List Int)(x:Int):aA (l++[x])=aA l++[.int .i64 x]:=by simp[aA]
def eW (c:Int):Value:=.int .i64 c
theorem mD (a b:Int)(h:eW a=eW b):a=b:=by injection h
theorem Np:KL prog 3 fun v=>∃ a,v=eW a:=(KL.DB underlying3).mono fun v ⟨a,h⟩=>by subst h;exact rfl
theorem Jd:kQ prog 220 3 75 eW (fun v:Value=>v) (.slice none 0 0):=⟨underlying220,Np,mD,by kernel_rfl⟩
def oT (cols:Int)(R:aZ):Option aZ:=if cA cols R then jr cols.toNat R else none
theorem Cu (R:aZ)(c d:Int):((d==c|| !iu (bp R c) (bp R d))||(decide ((bp R d).length=(bp R c).length)&&decide (d>c)))= !oP R c d:=by
 unfold oP;have h1:(d==c)= !(d !=c):=by simp[bne]
 rw[h1];have h2:decide (d>c)=decide (c<d):=rfl;rw[h2]
 cases (d !=c) <;> cases iu (bp R c) (bp R d) <;> simp
theorem zD {R:aZ}{c:Int}(h:(bp R c).length≠0):∃ (n:Nat) (l:List Int),bp R c=(n:Int)::l∧n<R.length:=by
 cases hw:bp R c with
 | nil=>rw[hw] at h;simp at h
 | cons i l=>
  obtain ⟨n,hn,rfl,_⟩:=j6.1 (show i ∈ bp R c by rw[hw];exact .head _);exact ⟨n,l,rfl,hn⟩
def lV (R:aZ)(c:Int)(i:Nat)(x:List Int)(j:Nat):List Int:=jl R c i++if c ∈ x.take j then [(i:Int)] else []
theorem Cv (R:aZ)(c:Int)(i:Nat)(x:List Int):lV R c i x 0=jl R c i:=by simp[lV]
theorem zE {R:aZ}{i:Nat}{x:List Int}(hx:R[i]?=some x)(c:Int):lV R c i x x.length=jl R c (i+1):=by
 unfold lV;rw[List.take_length,zz hx]
theorem Cw (R:aZ)(i:Nat){x:List Int}(hn:x.Nodup){j:Nat}{k:Int}(hk:x[j]?=some k)(c:Int):lV R c i x (j+1)=if c=k then lV R c i x j++[(i:Int)] else lV R c i x j:=by
 have htk:x.take (j+1)=x.take j++[k]:=by rw[List.take_add_one,hk];rfl
 have hkn:k ∉ x.take j:=fun h=>by
  obtain ⟨m,hm,he⟩:=List.getElem_of_mem h;rw[List.length_take] at hm;rw[List.getElem_take] at he;have h1:x[m]?=some k:=by rw[List.getElem?_eq_getElem (by omega),he]
  have:=(List.getElem?_inj (by omega) hn).1 (h1.trans hk.symm);omega
 unfold lV;rw[htk];by_cases hc:c=k
 ·subst hc;rw[if_pos rfl,if_pos (List.mem_append_right _ (.head _)),if_neg hkn,List.append_nil]
 ·rw[if_neg hc];have:(c ∈ x.take j++[k])↔c ∈ x.take j:=by simp[hc]
  by_cases h:c ∈ x.take j
  ·rw[if_pos (this.2 h),if_pos h]
  ·rw[if_neg (fun h'=>h (this.1 h')),if_neg h]
theorem Gv (R:aZ)(c:Int)(i:Nat)(x:List Int)(j:Nat):(lV R c i x j).length≤i+1:=by
 have:=tl R c i;unfold lV;split
 ·simp;omega
 ·simp;omega
theorem Je:enters prog 120=true:=by kernel_rfl
theorem Nq (cols:Int)(R:aZ)(v1:Value)(S:Nat→Prop)(w:World)(hl:R.length≤1000000000)(hlr:∀ r ∈ R,r.length≤1000000000)(h1:er S v1 R w)(hS:∀ g,S g→g<w.heap.size) :
  bt prog 120 [mv cols v1] w fun v w'=>∃ v',v=.tuple #[mv cols v',.bool (oT cols R).isSome]∧tk S w w' v' ((oT cols R).getD R):=by
 refine ar (N:=135) func120 Je rfl rfl rfl (by simp) ?_;have H:=pa h1 hS;have h1':jT w v1 R:=bf.mono h1 hS;obtain ⟨A,ca,va,rfl,ha,hra⟩:=h1'.rH;refine H.box 137 (mv _ _) (cs:=mc _ _) rfl ?_;clear H;intro g1 w1 H;refine H.alloc 137 dH rfl ?_;clear H;intro g2 w2 H;refine H.ai 1 rfl aL az ?_;refine aj (Ee cols R _ _ hl hlr (h1'.same H.keeps)) ?_;rintro _ w3 ⟨rfl,hk⟩;replace H:=H.same hk;clear hk;refine aF (fun hr=>?_) (fun hr=>?_)
 ·have hno:oT cols R=none:=by unfold oT;rw[if_neg];simpa using hr
  rw[hno];refine H.ai 1 rfl aL az ?_;refine H.storeAll 0 rfl az rfl (fun v hv=>dc v hv) ?_;clear H;intro w4 H;refine H.ai 0 rfl aL az ?_;refine ⟨rfl,?_⟩;exact ⟨_,rfl,H.ya fun g hg=>.inr hg⟩
 have hr':cA cols R=true:=by simpa using hr
 have hright:=gi.1 hr';obtain ⟨n,rfl⟩:∃ n:Nat,cols=n:=⟨cols.toNat,by have:=hright.ge;omega⟩;have hn4:n≤4000:=by have:=hright.le;omega
 have htk:oT (n:Int) R=jr n R:=by unfold oT;rw[if_pos hr',Int.toNat_natCast]
 rw[htk];refine ak (γ:=Nat) (fun r=>[(4,.map (some r))]) (fun r w'=>Hp w ab w' [oZ eW 3 r ([]:uN Int),an g2 137 (mv 0 (.slice none 0 0)).cells,an g1 137 (mc n (.slice A R.length ca))] [bf S (.slice A R.length ca) R]) ?_ ?_
 ·refine H.Iz eW 3 ?_;clear H;intro r w4 H;exact ⟨r,⟨rfl,trivial⟩,H⟩
 clear H;rintro r u w4 H;refine ak (γ:=uN Int) (fun _=>[]) (fun l w'=>(∀ c,uO l c=aA (bp R c))∧Hp w ab w' [oZ eW 3 r l,an g2 137 (mv 0 (.slice none 0 0)).cells,an g1 137 (mc n (.slice A R.length ca))] [bf S (.slice A R.length ca) R]) ?_ ?_
 ·refine aa (cz _) ?_;refine H.load 2 rfl eu rfl ?_;refine ay underlying135 ?_;refine ax (γ:=Nat × uN Int) (fun (i,_)=>[(26,.int .i64 (i:Int))])
   (fun (i,l) w'=>(i≤R.length∧∀ c,uO l c=aA (jl R c i))∧Hp w ab w' [oZ eW 3 r l,an g2 137 (mv 0 (.slice none 0 0)).cells,an g1 137 (mc n (.slice A R.length ca))] [bf S (.slice A R.length ca) R])
   (fun (i,_)=>R.length - i) (0,[]) ⟨rfl,trivial⟩ ⟨⟨Nat.zero_le _,fun c=>rfl⟩,H⟩ ?_
  clear H;rintro ⟨i,l⟩ u w5 ⟨⟨hi,hw⟩,H⟩;refine au (fun h7=>?_) (fun h7=>?_)
  ·obtain ⟨x,hx⟩:∃ x,R[i]?=some x:=⟨_,List.getElem?_eq_getElem (by omega)⟩;obtain ⟨g0,o0,rfl⟩:=ha.A (by omega);obtain ⟨Bx,cx,hget,hsx⟩:=hra i x hx;have hxm:=List.mem_of_getElem? hx;have hxl:=hlr x hxm;have hxn:=(hright.rise x hxm).nodup;refine ak (γ:=uN Int) (fun _=>[]) (fun l w'=>(∀ c,uO l c=aA (jl R c (i+1)))∧Hp w ab w' [oZ eW 3 r l,an g2 137 (mv 0 (.slice none 0 0)).cells,an g1 137 (mc n (.slice (some ⟨g0,o0,none⟩) R.length ca))] [bf S (.slice (some ⟨g0,o0,none⟩) R.length ca) R]) ?_ ?_
   ·refine ak (γ:=Unit) (fun _=>[(5,.int .i64 (i:Int)),(6,.slice Bx x.length cx)]) (fun _ w'=>Hp.cl H w') ?_ ?_
    ·refine aq underlying135 (s:=1) fK i rfl (by omega) (o':=o0+i) (by omega) ?_;refine H.dn (i:=i) ha iD _ rfl hget ?_;exact ⟨(),⟨rfl,rfl,trivial⟩,H⟩
    rintro ⟨⟩ u w6 H1;replace H:Hp _ _ _ _ _:=H1;clear H1;refine ay underlying75 ?_;refine ax (γ:=Nat × uN Int) (fun (j,_)=>[(33,.int .i64 (j:Int))])
     (fun (j,l) w'=>(j≤x.length∧∀ c,uO l c=aA (lV R c i x j))∧Hp w ab w' [oZ eW 3 r l,an g2 137 (mv 0 (.slice none 0 0)).cells,an g1 137 (mc n (.slice (some ⟨g0,o0,none⟩) R.length ca))] [bf S (.slice (some ⟨g0,o0,none⟩) R.length ca) R])
     (fun (j,_)=>x.length - j) (0,l) ⟨rfl,trivial⟩ ⟨⟨Nat.zero_le _,fun c=>by rw[Cv];exact hw c⟩,H⟩ ?_
    clear H hw;rintro ⟨j,l⟩ u w7 ⟨⟨hj,hw⟩,H⟩;refine au (fun h8=>?_) (fun h8=>?_)
    ·obtain ⟨k,hk⟩:∃ k,x[j]?=some k:=⟨_,List.getElem?_eq_getElem (by omega)⟩;obtain ⟨g3,o3,rfl⟩:=hsx.A (by omega);have hgk:(aA x)[j]?=some (.int .i64 k):=by rw[aA,List.getElem?_map,hk];rfl
     have hle:=Gv R k i x j;have hlen:(uO l k).length=(lV R k i x j).length:=by rw[hw k];simp[aA]
     refine ak (γ:=uN Int) (fun _=>[]) (fun l w'=>(∀ c,uO l c=aA (lV R c i x (j+1)))∧Hp w ab w' [oZ eW 3 r l,an g2 137 (mv 0 (.slice none 0 0)).cells,an g1 137 (mc n (.slice (some ⟨g0,o0,none⟩) R.length ca))] [bf S (.slice (some ⟨g0,o0,none⟩) R.length ca) R]) ?_ ?_
     ·refine ak (γ:=Unit) (fun _=>[(8,.int .i64 k)]) (fun _ w'=>Hp.cl H w') ?_ ?_
      ·refine aq underlying75 (s:=1) a_ j rfl (by omega) (o':=o3+j) (by omega) ?_;refine H.dn (i:=j) hsx aE _ rfl hgk ?_;exact ⟨(),⟨rfl,trivial⟩,H⟩
      rintro ⟨⟩ u w8 H1;replace H:Hp _ _ _ _ _:=H1;clear H1;obtain ⟨A0,c0,hform⟩:=xQ (H.get 0 rfl) k;refine rD (H.get 0 rfl) Jd k ?_;obtain ⟨v,xs,Ls,hv,hxs,H2,close⟩:=H.IA mD k;subst hv;subst hxs;clear H;rw[hform] at H2 ⊢;refine H2.aX dy rfl ?_;clear H2;intro g9 w9 H2;refine H2.cf 1 dy rfl rfl (by omega) (by omega) ?_;clear H2;intro B2 d2 w10 H2;refine H2.iw 0 rfl Jd k (.slice B2 ((uO l k).length+1) d2) ?_;clear H2;intro w11 H2;have e0:(uO l k).length+1=(uO l k++[Value.int .i64 (i:Int)]).length:=by simp
      rw[e0] at H2;refine ⟨_,trivial,fun c=>?_,close _ _ _ H2⟩;rw[DK,Cw R i hxn hk];by_cases hc:c=k
      ·rw[if_pos hc,if_pos hc,hc,hw k,hY]
      ·rw[if_neg hc,if_neg hc,hw c]
     ·clear H hw;rintro l2 u w8 ⟨hw,H⟩;exact ⟨(j+1,l2),by show x.length - (j+1)<x.length - j;omega,⟨up (by omega),trivial⟩,⟨by show j+1≤x.length;omega,hw⟩,H⟩
    ·have:j=x.length:=by omega
     subst this;exact ⟨l,trivial,fun c=>by rw[hw c,zE hx],H⟩
   ·clear H hw;rintro l2 u w6 ⟨hw,H⟩;exact ⟨(i+1,l2),by show R.length - (i+1)<R.length - i;omega,⟨up (by omega),trivial⟩,⟨by show i+1≤R.length;omega,hw⟩,H⟩
  ·have:i=R.length:=by omega
   subst this;exact ⟨l,trivial,hw,H⟩
 clear H;rintro l u w5 ⟨hw,H⟩;have hwl:=Cs R;have hlen:∀ c,(uO l c).length=(bp R c).length:=fun c=>by rw[hw c];simp[aA]
 have hmsl:∀ u:World,(oZ eW 3 r l).ok u→∀ c,∃ A c',FQ l c=.slice A (bp R c).length c'∧Sl u (.slice A (bp R c).length c') 1 (bp R c).length (aA (bp R c)):=fun u hu c=>by
  obtain ⟨A,c',h⟩:=xQ hu c;have ho:=bE (vP hu c);rw[h,hlen c,hw c] at ho;rw[hlen c] at h;exact ⟨A,c',h,ho⟩
 have hlook:∀ (u:World) (c:Int) (A:Option Addr) (c':Nat) (kk:Value→World→Prop),(oZ eW 3 r l).ok u→FQ l c=.slice A (bp R c).length c'→kk (.slice A (bp R c).length c') u→gw prog 220 (.map (some r)) (.int .i64 c) false u kk:=fun u c A c' kk hu hv hkk=>
  rD hu Jd c (by rw[hv];exact hkk)
 refine aw (fun w'=>(∀ c,c<n→mN n R ((c:Nat):Int)=false)∧Hp w ab w' [oZ eW 3 r l,an g2 137 (mv 0 (.slice none 0 0)).cells,an g1 137 (mc n (.slice A R.length ca))] [bf S (.slice A R.length ca) R]) ?_ ?_
 ·refine aa (iE _) ?_;refine H.load 2 rfl aE rfl ?_;refine ax (γ:=Nat) (fun c=>[(49,.int .i64 (c:Int))]) (fun c w'=>(c≤n∧∀ c',c'<c→mN n R ((c':Nat):Int)=false)∧Hp w ab w' [oZ eW 3 r l,an g2 137 (mv 0 (.slice none 0 0)).cells,an g1 137 (mc n (.slice A R.length ca))] [bf S (.slice A R.length ca) R]) (fun c=>n - c) 0 ⟨rfl,trivial⟩ ⟨⟨Nat.zero_le _,fun i' h=>by omega⟩,H⟩ ?_;clear H;rintro c u w6 ⟨⟨hc,hno⟩,H⟩;refine au (fun h7=>?_) (fun h7=>?_)
  ·refine aw (fun w'=>mN n R (c:Int)=false∧Hp w ab w' [oZ eW 3 r l,an g2 137 (mv 0 (.slice none 0 0)).cells,an g1 137 (mc n (.slice A R.length ca))] [bf S (.slice A R.length ca) R]) ?_ ?_
   ·obtain ⟨Ac,cc,hvc,hsc⟩:=hmsl _ (H.get 0 rfl) (c:Int);refine hlook _ _ _ _ _ (H.get 0 rfl) hvc ?_;refine ay underlying75 ?_;refine cr (fun h9=>?_) (fun h9=>?_)
    ·exact ⟨(),trivial,Es (by omega),H⟩
    obtain ⟨i0,lw,hwc,hi0⟩:=zD (R:=R) (c:=(c:Int)) (by omega);have hany:=Eh hright hwc;obtain ⟨y,hy⟩:∃ y,R[i0]?=some y:=⟨_,List.getElem?_eq_getElem hi0⟩;rw[show R.getD i0 []=y by rw[List.getD_eq_getElem?_getD,hy];rfl] at hany;have hyl:=hlr y (List.mem_of_getElem? hy);obtain ⟨g0,o0,rfl⟩:=ha.A (by omega);obtain ⟨By,cy,hgety,hsy⟩:=hra i0 y hy;obtain ⟨gc,oc,rfl⟩:=hsc.A (by omega);have hsl2:∀ u:World,(oZ eW 3 r l).ok u→∀ (d:Int) (A:Option Addr) (c':Nat),FQ l d=.slice A (bp R d).length c'→Sl u (.slice A (bp R d).length c') 1 (bp R d).length (aA (bp R d)):=fun u hu d A c' h=>by
     have ho:=bE (vP hu d)
     rwa [h,hlen d,hw d] at ho
    refine H.draw eS (by kernel_rfl) ?_;clear H;intro w7 H;refine quiet _ (fun w H=>aa (cz _) ae) ?_;refine quiet _ (fun w H=>H.load 2 rfl eu rfl ae) ?_;refine quiet _ (fun w H=>hlook _ _ _ _ _ (H.get 0 rfl) hvc ae) ?_;refine quiet _ (fun w H=>aq underlying75 (s:=1) a_ 0 rfl (by omega) (o':=oc) (by omega) ae) ?_;refine quiet (.int .i64 (i0:Int)) (fun w H=>aB aE (((hsl2 _ (H.get 0 rfl) _ _ _ hvc).cell 0 (by omega)).trans (by rw[hwc];rfl)) ae) ?_;refine quiet _ (fun w H=>aq underlying135 (s:=1) fK i0 rfl (by omega) (o':=o0+i0) (by omega) ae) ?_;refine quiet _ (fun w H=>H.dn (i:=i0) ha iD _ rfl hgety ae) ?_;refine quiet _ (fun w H=>ay underlying75 ae) ?_;refine ax (γ:=Nat) (fun j=>[(67,.int .i64 (j:Int))]) (fun j w'=>(j≤y.length∧∀ d ∈ y.take j,oP R (c:Int) d=false)∧Hp w ab w' [oZ eW 3 r l,an g2 137 (mv 0 (.slice none 0 0)).cells,an g1 137 (mc n (.slice (some ⟨g0,o0,none⟩) R.length ca))] [bf S (.slice (some ⟨g0,o0,none⟩) R.length ca) R]) (fun j=>y.length - j) 0 ⟨rfl,trivial⟩ ⟨⟨Nat.zero_le _,by simp⟩,H⟩ ?_;clear H hsc;rintro j u w8 ⟨⟨hj,hnj⟩,H⟩;refine au (fun h10=>?_) (fun h10=>?_)
    ·obtain ⟨d,hd⟩:∃ d,y[j]?=some d:=⟨_,List.getElem?_eq_getElem (by omega)⟩;obtain ⟨gy,oy,rfl⟩:=hsy.A (by omega);have hgd:(aA y)[j]?=some (.int .i64 d):=by rw[aA,List.getElem?_map,hd];rfl
     refine aw (fun w'=>oP R (c:Int) d=false∧Hp w ab w' [oZ eW 3 r l,an g2 137 (mv 0 (.slice none 0 0)).cells,an g1 137 (mc n (.slice (some ⟨g0,o0,none⟩) R.length ca))] [bf S (.slice (some ⟨g0,o0,none⟩) R.length ca) R]) ?_ ?_
     ·refine ak (γ:=Unit) (fun _=>[(11,.int .i64 d)]) (fun _ w'=>Hp.cl H w') ?_ ?_
      ·refine aq underlying75 (s:=1) a_ j rfl (by omega) (o':=oy+j) (by omega) ?_;refine H.dn (i:=j) hsy aE _ rfl hgd ?_;exact ⟨(),⟨rfl,trivial⟩,H⟩
      rintro ⟨⟩ u w9 H1;replace H:Hp _ _ _ _ _:=H1;clear H1;obtain ⟨Ad,cd,hvd,hsd⟩:=hmsl _ (H.get 0 rfl) d;have htest:=Cu R (c:Int) d;have hc1:=hwl (c:Int);have hd1:=hwl d;refine aw (fun w'=>oP R (c:Int) d=true∧Hp w ab w' [oZ eW 3 r l,an g2 137 (mv 0 (.slice none 0 0)).cells,an g1 137 (mc n (.slice (some ⟨g0,o0,none⟩) R.length ca))] [bf S (.slice (some ⟨g0,o0,none⟩) R.length ca) R]) ?_ ?_
      ·refine ak (γ:=Unit) (fun _=>[(99,.bool (!oP R (c:Int) d))]) (fun _ w'=>Hp w ab w' [oZ eW 3 r l,an g2 137 (mv 0 (.slice none 0 0)).cells,an g1 137 (mc n (.slice (some ⟨g0,o0,none⟩) R.length ca))] [bf S (.slice (some ⟨g0,o0,none⟩) R.length ca) R]) ?_ ?_
       ·refine cr (fun h11=>?_) (fun h11=>?_)
        ·refine ag (beq_iff_eq.2 (by assumption)) ?_
         iterate 7 refine ag (beq_iff_eq.2 (by assumption)) ?_
         iterate 12 refine ag rfl ?_
         exact ⟨(),⟨by rw[← htest,beq_iff_eq.2 h11];rfl,trivial⟩,H⟩
        ·refine af (beq_eq_false_iff_ne.2 (by assumption)) ?_;refine af (beq_eq_false_iff_ne.2 (by assumption)) ?_;refine hlook _ (c:Int) _ _ _ (H.get 0 rfl) hvc ?_
         iterate 3 refine af (beq_eq_false_iff_ne.2 (by assumption)) ?_
         refine hlook _ d _ _ _ (H.get 0 rfl) hvd ?_;refine af (beq_eq_false_iff_ne.2 (by assumption)) ?_;refine aj (c157 _ _ _ _ _ _ _ (Nat.le_trans hc1 hl) (Nat.le_trans hd1 hl) (hsl2 _ (H.get 0 rfl) _ _ _ hvc) (hsl2 _ (H.get 0 rfl) _ _ _ hvd)) ?_;rintro _ w42 ⟨rfl,hk42⟩;replace H:=H.same hk42;clear hk42
         iterate 2 refine af (beq_eq_false_iff_ne.2 (by assumption)) ?_
         refine aF (fun h45=>?_) (fun h45=>?_)
         ·refine ag (by assumption) ?_
          iterate 10 refine ag (by assumption) ?_
          exact ⟨(),⟨by rw[← htest,h45];cases (d==(c:Int)) <;> rfl,trivial⟩,H⟩
         ·refine af (by assumption) ?_;refine af (by assumption) ?_;refine hlook _ d _ _ _ (H.get 0 rfl) hvd ?_;refine af (by assumption) ?_;refine ay underlying75 ?_
          iterate 3 refine af (by assumption) ?_
          refine hlook _ (c:Int) _ _ _ (H.get 0 rfl) hvc ?_;refine af (by assumption) ?_;refine ay underlying75 ?_
          iterate 2 refine af (by assumption) ?_
          refine cr (fun h72=>?_) (fun h72=>?_)
          ·refine ag (beq_iff_eq.2 (by assumption)) ?_;refine ag (beq_iff_eq.2 (by assumption)) ?_;refine af (by assumption) ?_;refine ag (beq_iff_eq.2 (by assumption)) ?_;refine af (by assumption) ?_;exact ⟨(),⟨by rw[← htest,beq_eq_false_iff_ne.2 h11,h45,decide_eq_true (show (bp R d).length=(bp R (c:Int)).length by omega)];rfl,trivial⟩,H⟩
          ·refine af (beq_eq_false_iff_ne.2 (by assumption)) ?_;refine af (beq_eq_false_iff_ne.2 (by assumption)) ?_;refine af (by assumption) ?_;refine af (beq_eq_false_iff_ne.2 (by assumption)) ?_;refine af (by assumption) ?_;exact ⟨(),⟨by rw[← htest,beq_eq_false_iff_ne.2 h11,h45,decide_eq_false (show ¬ (bp R d).length=(bp R (c:Int)).length by omega)];rfl,trivial⟩,H⟩
       ·clear H;rintro ⟨⟩ u w10 H;refine aF (fun hp=>?_) (fun hp=>?_)
        ·exact ⟨(),trivial,by simpa using hp,H⟩
        ·exact ⟨(),trivial,by simpa using hp,H⟩
      ·clear H;rintro ⟨⟩ u w10 ⟨hp',H⟩;have hless:mN n R (c:Int)=true:=by
        unfold mN;rw[← hany,List.any_eq_true.2 ⟨d,List.mem_of_getElem? hd,hp'⟩,hwc];rfl
       rw[zC hno (by omega) hless];refine aa (iE _) ?_;refine H.load 2 rfl aE rfl ?_;refine lT ?_;refine H.alloc 137 dH rfl ?_;clear H;intro g12 w11 H;refine H.storeAll 0 rfl az rfl (fun v hv=>dc v hv) ?_;clear H;intro w12 H;replace H:Hp w ab w12 [an g12 137 (mc n (.slice none 0 0)),oZ eW 3 r l,an g2 137 (mv 0 (.slice none 0 0)).cells,an g1 137 (mc n (.slice (some ⟨g0,o0,none⟩) R.length ca))] [bf S (.slice (some ⟨g0,o0,none⟩) R.length ca) R]:=H;have H2:=((H.bx 75 1).front 1 rfl).zB;clear H;refine ak (γ:=Option Addr × Nat × List Value × (Nat→Prop)) (fun _=>[])
        (fun (B,d,hs,S') w'=>(∀ g,S' g→w.heap.size≤g)∧Hp w ab w' [an g12 137 (mc n (.slice B hs.length d)),own 75 1 (.slice B hs.length d) hs.length hs,oZ eW 3 r l,an g2 137 (mv 0 (.slice none 0 0)).cells,an g1 137 (mc n (.slice (some ⟨g0,o0,none⟩) R.length ca))] [di S' hs (bh R (c:Int)),bf S (.slice (some ⟨g0,o0,none⟩) R.length ca) R]) ?_ ?_
       ·refine aa (cz _) ?_;refine H2.load 4 rfl eu rfl ?_;refine ay underlying135 ?_;refine ax (γ:=Nat × Option Addr × Nat × List Value × (Nat→Prop)) (fun (i,_)=>[(106,.int .i64 (i:Int))])
         (fun (i,B,d,hs,S') w'=>(i≤R.length∧hs.length=i∧∀ g,S' g→w.heap.size≤g)∧Hp w ab w' [an g12 137 (mc n (.slice B hs.length d)),own 75 1 (.slice B hs.length d) hs.length hs,oZ eW 3 r l,an g2 137 (mv 0 (.slice none 0 0)).cells,an g1 137 (mc n (.slice (some ⟨g0,o0,none⟩) R.length ca))] [di S' hs (bh (R.take i) (c:Int)),bf S (.slice (some ⟨g0,o0,none⟩) R.length ca) R])
         (fun (i,_)=>R.length - i) (0,none,0,[],fun _=>False) ⟨rfl,trivial⟩ ⟨⟨Nat.zero_le _,rfl,fun g h=>h.elim⟩,H2⟩ ?_
        clear H2;rintro ⟨i,B,db,hs,S'⟩ u w13 ⟨⟨hi,hhl,hS'⟩,H⟩;refine au (fun h20=>?_) (fun h20=>?_)
        ·obtain ⟨x,hx⟩:∃ x,R[i]?=some x:=⟨_,List.getElem?_eq_getElem (by omega)⟩;obtain ⟨Bx,cx,hget,hsx⟩:=hra i x hx;have hxl:=hlr x (List.mem_of_getElem? hx);refine ak (γ:=Option Addr × Nat × List Value × (Nat→Prop)) (fun _=>[])
          (fun (B,d,hs,S') w'=>(hs.length=i+1∧∀ g,S' g→w.heap.size≤g)∧Hp w ab w' [an g12 137 (mc n (.slice B hs.length d)),own 75 1 (.slice B hs.length d) hs.length hs,oZ eW 3 r l,an g2 137 (mv 0 (.slice none 0 0)).cells,an g1 137 (mc n (.slice (some ⟨g0,o0,none⟩) R.length ca))] [di S' hs (bh (R.take (i+1)) (c:Int)),bf S (.slice (some ⟨g0,o0,none⟩) R.length ca) R]) ?_ ?_
         ·refine ak (γ:=Unit) (fun _=>[(14,.slice Bx x.length cx)]) (fun _ w'=>Hp.cl H w') ?_ ?_
          ·refine aq underlying135 (s:=1) fK i rfl (by omega) (o':=o0+i) (by omega) ?_;refine H.dn (i:=i) ha iD _ rfl hget ?_;exact ⟨(),⟨rfl,trivial⟩,H⟩
          rintro ⟨⟩ u w14 H1;replace H:Hp _ _ _ _ _:=H1;clear H1;refine ak (γ:=Unit) (fun _=>[(15,.slice none 0 0)]) (fun _ w'=>Hp.cl H w') ⟨(),⟨rfl,trivial⟩,H⟩ ?_;rintro ⟨⟩ u w14 H1;replace H:Hp _ _ _ _ _:=H1;clear H1;have H2:=H.bx 3 1;clear H;refine ak (γ:=Option Addr × Nat) (fun (B2,d2)=>[(15,.slice B2 (x.filter fun k=>k !=(c:Int)).length d2)])
           (fun (B2,d2) w'=>Hp w ab w' [own 3 1 (.slice B2 (x.filter fun k=>k !=(c:Int)).length d2) (x.filter fun k=>k !=(c:Int)).length (aA (x.filter fun k=>k !=(c:Int))),an g12 137 (mc n (.slice B hs.length db)),own 75 1 (.slice B hs.length db) hs.length hs,oZ eW 3 r l,an g2 137 (mv 0 (.slice none 0 0)).cells,an g1 137 (mc n (.slice (some ⟨g0,o0,none⟩) R.length ca))] [di S' hs (bh (R.take i) (c:Int)),bf S (.slice (some ⟨g0,o0,none⟩) R.length ca) R]) ?_ ?_
          ·refine ay underlying75 ?_;refine ax (γ:=Nat × Option Addr × Nat) (fun (j,B2,d2)=>[(112,.int .i64 (j:Int)),(15,.slice B2 ((x.take j).filter fun k=>k !=(c:Int)).length d2)])
            (fun (j,B2,d2) w'=>j≤x.length∧Hp w ab w' [own 3 1 (.slice B2 ((x.take j).filter fun k=>k !=(c:Int)).length d2) ((x.take j).filter fun k=>k !=(c:Int)).length (aA ((x.take j).filter fun k=>k !=(c:Int))),an g12 137 (mc n (.slice B hs.length db)),own 75 1 (.slice B hs.length db) hs.length hs,oZ eW 3 r l,an g2 137 (mv 0 (.slice none 0 0)).cells,an g1 137 (mc n (.slice (some ⟨g0,o0,none⟩) R.length ca))] [di S' hs (bh (R.take i) (c:Int)),bf S (.slice (some ⟨g0,o0,none⟩) R.length ca) R])
            (fun (j,_)=>x.length - j) (0,none,0) ⟨rfl,rfl,trivial⟩ ⟨Nat.zero_le _,H2⟩ ?_
           clear H2;rintro ⟨j,B2,d2⟩ u w15 ⟨hj,H⟩;refine au (fun h21=>?_) (fun h21=>?_)
           ·obtain ⟨k,hk⟩:∃ k,x[j]?=some k:=⟨_,List.getElem?_eq_getElem (by omega)⟩;obtain ⟨g3,o3,rfl⟩:=hsx.A (by omega);have hgk:(aA x)[j]?=some (.int .i64 k):=by rw[aA,List.getElem?_map,hk];rfl
            have hsn:=u4 (fun k=>k !=(c:Int)) hk;have hfl:=List.length_filter_le (fun k=>k !=(c:Int)) (x.take j);rw[List.length_take] at hfl;refine aq underlying75 (s:=1) a_ j rfl (by omega) (o':=o3+j) (by omega) ?_;refine H.dn (i:=j) hsx aE _ rfl hgk ?_;refine aF (fun hb=>?_) (fun hb=>?_)
            ·rw[if_pos hb] at hsn;refine H.aX dy rfl ?_;clear H;intro g7 w16 H;refine H.cf 0 dy rfl rfl (by omega) (by omega) ?_;clear H;intro B3 d3 w17 H;have e1:((x.take (j+1)).filter fun k=>k !=(c:Int)).length=((x.take j).filter fun k=>k !=(c:Int)).length+1:=by rw[hsn];simp
             have e2:aA ((x.take (j+1)).filter fun k=>k !=(c:Int))=aA ((x.take j).filter fun k=>k !=(c:Int))++[.int .i64 k]:=by rw[hsn,hY]
             exact ⟨(j+1,B3,d3),by show x.length - (j+1)<x.length - j;omega,⟨up (by omega),by rw[e1];rfl,trivial⟩,by show j+1≤x.length;omega,by rw[e1,e2];exact H⟩
            ·rw[if_neg (by rw[hb];decide),List.append_nil] at hsn;exact ⟨(j+1,B2,d2),by show x.length - (j+1)<x.length - j;omega,⟨up (by omega),by rw[hsn];rfl,trivial⟩,by show j+1≤x.length;omega,by rw[hsn];exact H⟩
           ·have e:x.take j=x:=List.take_of_length_le (by omega);rw[e] at H;exact ⟨(B2,d2),⟨congrArg (fun l:List Int=>Value.slice B2 (l.filter fun k=>k !=(c:Int)).length d2) e,trivial⟩,H⟩
          ·clear H2;rintro ⟨B2,d2⟩ u w15 H;refine aa (cz _) ?_;refine H.load 1 rfl eu rfl ?_;refine H.aX tj rfl ?_;clear H;intro g7 w16 H;refine H.cf 2 tj rfl rfl (by omega) (by omega) ?_;clear H;intro B3 d3 w17 H;refine aa (cz _) ?_;refine H.store 1 rfl pY (by show 1<2;decide) rfl ?_;clear H;intro w18 H;have e0:hs.length+1=(hs++[Value.slice B2 (x.filter fun k=>k !=(c:Int)).length d2]).length:=by simp
           obtain ⟨S2,H3,hS2⟩:=H.zA hS';rw[← u3 hx] at H3;rw[e0] at H3;exact ⟨(B3,d3,_,S2),trivial,⟨by rw[← e0];omega,hS2⟩,H3⟩
         ·clear H;rintro ⟨B3,d3,hs3,S2⟩ u w14 ⟨⟨hn1,hS2⟩,H⟩;exact ⟨(i+1,B3,d3,hs3,S2),by show R.length - (i+1)<R.length - i;omega,⟨up (by omega),trivial⟩,⟨by show i+1≤R.length;omega,hn1,hS2⟩,H⟩
        ·have e:R.take i=R:=List.take_of_length_le (by omega);rw[e] at H;exact ⟨(B,db,hs,S'),trivial,hS',H⟩
       ·clear H2;rintro ⟨B,db,hs,S'⟩ u w13 ⟨hS',H⟩;refine H.ai 0 rfl aL az ?_;refine H.storeAll 3 rfl az rfl (fun v hv=>dc v hv) ?_;clear H;intro w14 H;refine H.ai 3 rfl aL az ?_;refine ⟨rfl,?_⟩;exact ⟨_,rfl,sa H 1 rfl (H.ro 0 rfl) fun g hg=>⟨H.rlt _ (.head _) g hg,.inl (hS' g hg)⟩⟩
     ·clear H;rintro ⟨⟩ u w9 ⟨hp,H⟩;refine ⟨j+1,by show y.length - (j+1)<y.length - j;omega,⟨up (by omega),trivial⟩,⟨by show j+1≤y.length;omega,fun x hx=>?_⟩,H⟩;rw[List.take_add_one,hd] at hx;rcases List.mem_append.1 hx with hx | hx
      ·exact hnj x hx
      ·obtain rfl:x=d:=by simpa using hx
       exact hp
    ·have:j=y.length:=by omega
     subst this;rw[List.take_length] at hnj;refine ⟨(),trivial,?_,H⟩;unfold mN;rw[← hany];have:y.any (fun d=>oP R (c:Int) d)=false:=by
      rw[Bool.eq_false_iff];intro hh;obtain ⟨x,hx,hp⟩:=List.any_eq_true.1 hh;rw[hnj x hx] at hp;cases hp
     rw[this,Bool.and_false]
   ·clear H;rintro ⟨⟩ u w7 ⟨hlc,H⟩;exact ⟨c+1,by show n - (c+1)<n - c;omega,⟨up (by omega),trivial⟩,⟨by show c+1≤n;omega,wc hno hlc⟩,H⟩
  ·have:c=n:=by omega
   subst this;exact ⟨(),trivial,hno,H⟩
 ·clear H;rintro ⟨⟩ u w6 ⟨hno,H⟩;rw[Ct hno];refine H.ai 2 rfl aL az ?_;refine H.storeAll 1 rfl az rfl (fun v hv=>dc v hv) ?_;clear H;intro w7 H;refine H.ai 1 rfl aL az ?_;refine ⟨rfl,?_⟩;exact ⟨_,rfl,H.ya fun g hg=>.inr hg⟩
section
variable {w0 w w':World} {F:Nat→Prop} {L M L2 M2:List cC} {r r':cC}
theorem _root_.Go.Dk.Hp.merge (H:Hp w0 F w L M)(H2:Hp w ab w' L2 M2)(hM:∀ r ∈ M2,∀ g,r.foot g→w.heap.size≤g∨∃ s ∈ M,s.foot g):Hp w0 F w' (L2++L) (M2++M):=by
 have H':=H.same H2.keeps;have hnew2:∀ r ∈ L2,∀ g,r.foot g→w.heap.size≤g:=fun r hr g hg=>(H2.new r hr g hg).resolve_right id;refine ⟨H'.keeps,?_,?_,?_,?_,?_,?_,?_⟩
 ·intro r hr;rcases List.mem_append.1 hr with hr | hr
  ·exact H2.ok r hr
  ·exact H'.ok r hr
 ·intro r hr;rcases List.mem_append.1 hr with hr | hr
  ·exact H2.lt r hr
  ·exact H'.lt r hr
 ·intro r hr g hg;rcases List.mem_append.1 hr with hr | hr
  ·exact .inl (Nat.le_trans H.keeps.size (hnew2 r hr g hg))
  ·exact H.new r hr g hg
 ·refine List.pairwise_append.2 ⟨H2.dis,H.dis,fun r hr s hs g h1 h2=>?_⟩;have:=hnew2 r hr g h1;have:=H.lt s hs g h2;omega
 ·intro r hr;rcases List.mem_append.1 hr with hr | hr
  ·exact H2.rok r hr
  ·exact H'.rok r hr
 ·intro r hr;rcases List.mem_append.1 hr with hr | hr
  ·exact H2.rlt r hr
  ·exact H'.rlt r hr
 ·intro r hr s hs g h1 h2;rcases List.mem_append.1 hr with hr | hr
  ·rcases List.mem_append.1 hs with hs | hs
   ·exact H2.rdis r hr s hs g h1 h2
   ·rcases hM r hr g h1 with h3 | ⟨q,hq,h3⟩
    ·have:=H.lt s hs g h2;omega
    ·exact H.rdis q hq s hs g h3 h2
  ·rcases List.mem_append.1 hs with hs | hs
   ·have:=hnew2 s hs g h2;have:=H.rlt r hr g h1;omega
   ·exact H.rdis r hr s hs g h1 h2
theorem _root_.Go.Dk.Hp.we (H:Hp w0 F w L M)(n:Nat)(hn:L[n]?=some r)(h:jA w w' r r')(s:cC)(hs:s.ok w')(hf:∀ g,s.foot g→g<w'.heap.size∧(w.heap.size≤g∨∃ q ∈ M,q.foot g))(hd:∀ g,s.foot g→¬ r'.foot g) :
  Hp w0 F w' (L.set n r') (s::M):=by
 have H':=H.b5 n hn h;refine ⟨H'.keeps,H'.ok,H'.lt,H'.new,H'.dis,?_,?_,?_⟩
 ·intro q hq;rcases List.mem_cons.1 hq with rfl | hq
  ·exact hs
  ·exact H'.rok q hq
 ·intro q hq g hg;rcases List.mem_cons.1 hq with rfl | hq
  ·exact (hf g hg).1
  ·exact H'.rlt q hq g hg
 ·intro q hq t ht g h1 h2;rcases List.mem_cons.1 hq with rfl | hq
  ·rcases List.mem_or_eq_of_mem_set ht with ht | rfl
   ·obtain ⟨j,hj,hje⟩:=List.getElem_of_mem ht;rcases (hf g h1).2 with h3 | ⟨q2,hq2,h3⟩
    ·have:=H.lt t ht g h2;omega
    ·exact H.rdis q2 hq2 t ht g h3 h2
   ·exact hd g h1 h2
  ·exact H'.rdis q hq t ht g h1 h2
end
def mE (b:Bool):Value:=.bool b
theorem yc:kQ prog 144 3 4 eW mE (.bool false):=⟨underlying144,Np,mD,by kernel_rfl⟩
theorem Eu:cH prog 144=some false:=by kernel_rfl
def Gw (g1 r:Nat)(cols:Int)(v:Value)(l:List (Int × Bool)):List cC:=[an g1 137 (mc cols v),aP eW mE r l]
def wg (g1 r:Nat)(cols:Int)(v:Value)(l:List (Int × Bool)):cC:=rS (Gw g1 r cols v l)
structure Bc (S:Nat→Prop) (w w':World) (g1 r:Nat) (cols:Int) (v v':Value) (l l':List (Int × Bool)) (R':aZ) (S':Nat→Prop):Prop where
 mQ:jA w w' (wg g1 r cols v l) (wg g1 r cols v' l')
 mat:er S' v' R' w'
 foot:∀ g,S' g→g<w'.heap.size∧(w.heap.size≤g∨S g)
 dis:∀ g,S' g→¬ (wg g1 r cols v' l').foot g
theorem wh {S:Nat→Prop}{w:World}{g1 r:Nat}{cols:Int}{v:Value}{l:List (Int × Bool)}{R:aZ}{M:List cC}(h:(wg g1 r cols v l).ok w)(hm:er S v R w)(hS:∀ g,S g→g<w.heap.size)(hd:∀ g,S g→¬ (wg g1 r cols v l).foot g)(hM:∀ q ∈ M,q.ok w∧∀ g,q.foot g→g<w.heap.size∧¬ (wg g1 r cols v l).foot g):Hp w (wg g1 r cols v l).foot w [an g1 137 (mc cols v),aP eW mE r l] (bf S v R::M):=by
 have hlt:∀ g,(wg g1 r cols v l).foot g→g<w.heap.size:=fun g ⟨q,hq,hg⟩=>h.2.1 q hq g hg;have H:=Hp.ry (M:=bf S v R::M) h hlt (fun q hq=>by
  rcases List.mem_cons.1 hq with rfl | hq
  ·exact hm
  ·exact (hM q hq).1) (fun q hq g hg=>by
  rcases List.mem_cons.1 hq with rfl | hq
  ·exact hS g hg
  ·exact ((hM q hq).2 g hg).1) (fun q hq g hg=>by
  rcases List.mem_cons.1 hq with rfl | hq
  ·exact hd g hg
  ·exact ((hM q hq).2 g hg).2)
 have H2:=Hp.split (Ls:=Gw g1 r cols v l) (L:=[]) H;simpa [Gw] using H2
theorem Bd {S S':Nat→Prop}{w w':World}{g1 r:Nat}{cols:Int}{v v':Value}{l l':List (Int × Bool)}{R':aZ}{M:List cC}(H:Hp w (wg g1 r cols v l).foot w' [an g1 137 (mc cols v'),aP eW mE r l'] (bf S' v' R'::M))(hS':∀ g,S' g→w.heap.size≤g∨S g):Bc S w w' g1 r cols v v' l l' R' S':=by
 have H2:Hp w (wg g1 r cols v l).foot w' [wg g1 r cols v' l'] (bf S' v' R'::M):=Hp.join (Ls:=Gw g1 r cols v' l') (L:=[]) (by simpa [Gw] using H);exact ⟨H2.bc,H2.ro 0 rfl,fun g hg=>⟨H2.rlt _ (.head _) g hg,hS' g hg⟩,fun g hg=>H2.rdis _ (.head _) _ (.head _) g hg⟩
def LC (l:List (Int × Bool)):Option (aZ × Int)→List (Int × Bool)
 | some (_,k)=>dS l k true
 | none=>l
theorem Jf:enters prog 115=true:=by kernel_rfl
theorem Nr (cols:Int)(R:aZ)(v:Value)(S:Nat→Prop)(g1 g5 r:Nat)(l:List (Int × Bool))(w:World)(hl:R.length≤1000000000)(hlr:∀ r ∈ R,r.length≤1000000000)(h:(wg g1 r cols v l).ok w)(hm:er S v R w)(hS:∀ g,S g→g<w.heap.size)(hd:∀ g,S g→¬ (wg g1 r cols v l).foot g)(h5:(an g5 144 #[.map (some r)]).ok w)(h5d:¬ (wg g1 r cols v l).foot g5) :
  bt prog 115 [(ah g1),(ah g5)] w fun o w'=>∃ v' S',o=.bool (lU cols R).isSome∧Bc S w w' g1 r cols v v' l (LC l (lU cols R)) (((lU cols R).map (·.1)).getD R) S':=by
 refine ar (N:=17) func115 Jf rfl rfl rfl (by simp) ?_;have H:=wh (M:=[an g5 144 #[.map (some r)]]) h hm hS hd (fun q hq=>by
  rw[List.mem_singleton] at hq;subst hq;exact ⟨h5,fun g hg=>by subst hg;exact ⟨iV h5,h5d⟩⟩)
 obtain ⟨A0,c0,rfl⟩:=hm.form;refine H.ai 0 rfl aL az ?_;refine aj (c116 cols R _ S _ hl hlr hm hS) ?_;rintro _ w1 ⟨v',rfl,hn⟩;obtain ⟨S',H2,hS'⟩:=H.fW (.head _) hn;clear H;replace H:=H2;clear H2;obtain ⟨A1,c1,rfl⟩:=(H.ro 0 rfl).form;refine H.alloc 137 dH rfl ?_;clear H;intro g3 w2 H;refine H.storeAll 0 rfl az rfl (fun v hv=>dc v hv) ?_;clear H;intro w3 H;refine H.ai 0 rfl aL az ?_;refine H.storeAll 1 rfl az rfl (fun v hv=>dc v hv) ?_;clear H;intro w4 H;have H3:=H.forget;clear H
 cases ht:lU cols R with
 | none=>
  rw[ht] at H3;refine af rfl ?_;exact ⟨_,S',rfl,Bd H3 hS'⟩
 | some p=>
  obtain ⟨R',k⟩:=p;rw[ht] at H3;refine ag rfl ?_;refine jM (H3.ro 2 rfl) Eu rfl ?_;refine H3.iw 1 rfl yc k true ?_;clear H3;intro w5 H;exact ⟨_,S',rfl,Bd H hS'⟩
theorem Jg:enters prog 117=true:=by kernel_rfl
theorem c117 (cols:Int)(R:aZ)(v:Value)(S:Nat→Prop)(g1 r:Nat)(l:List (Int × Bool))(w:World)(hl:R.length≤1000000000)(hlr:∀ r ∈ R,r.length≤1000000000)(h:(wg g1 r cols v l).ok w)(hm:er S v R w)(hS:∀ g,S g→g<w.heap.size)(hd:∀ g,S g→¬ (wg g1 r cols v l).foot g) :
  bt prog 117 [(ah g1)] w fun o w'=>∃ v' S',o=.bool (oS cols R).isSome∧Bc S w w' g1 r cols v v' l l ((oS cols R).getD R) S':=by
 refine ar (N:=11) func117 Jg rfl rfl rfl (by simp) ?_;have H:=wh (M:=[]) h hm hS hd (by simp);obtain ⟨A0,c0,rfl⟩:=hm.form;refine H.ai 0 rfl aL az ?_;refine aj (No cols R _ S _ hl hlr hm hS) ?_;rintro _ w1 ⟨v',rfl,hn⟩;obtain ⟨S',H2,hS'⟩:=H.fW (.head _) hn;clear H;replace H:=H2;clear H2;obtain ⟨A1,c1,rfl⟩:=(H.ro 0 rfl).form;refine H.alloc 137 dH rfl ?_;clear H;intro g3 w2 H;refine H.storeAll 0 rfl az rfl (fun v hv=>dc v hv) ?_;clear H;intro w3 H;refine H.ai 0 rfl aL az ?_;refine H.storeAll 1 rfl az rfl (fun v hv=>dc v hv) ?_;clear H;intro w4 H;exact ⟨_,S',rfl,Bd H.forget hS'⟩
theorem Jh:enters prog 119=true:=by kernel_rfl
theorem c119 (cols:Int)(R:aZ)(v:Value)(S:Nat→Prop)(g1 r:Nat)(l:List (Int × Bool))(w:World)(hl:R.length≤1000000000)(hlr:∀ r ∈ R,r.length≤1000000000)(h:(wg g1 r cols v l).ok w)(hm:er S v R w)(hS:∀ g,S g→g<w.heap.size)(hd:∀ g,S g→¬ (wg g1 r cols v l).foot g) :
  bt prog 119 [(ah g1)] w fun o w'=>∃ v' S',o=.bool (oT cols R).isSome∧Bc S w w' g1 r cols v v' l l ((oT cols R).getD R) S':=by
 refine ar (N:=11) func119 Jh rfl rfl rfl (by simp) ?_;have H:=wh (M:=[]) h hm hS hd (by simp);obtain ⟨A0,c0,rfl⟩:=hm.form;refine H.ai 0 rfl aL az ?_;refine aj (Nq cols R _ S _ hl hlr hm hS) ?_;rintro _ w1 ⟨v',rfl,hn⟩;obtain ⟨S',H2,hS'⟩:=H.fW (.head _) hn;clear H;replace H:=H2;clear H2;obtain ⟨A1,c1,rfl⟩:=(H.ro 0 rfl).form;refine H.alloc 137 dH rfl ?_;clear H;intro g3 w2 H;refine H.storeAll 0 rfl az rfl (fun v hv=>dc v hv) ?_;clear H;intro w3 H;refine H.ai 0 rfl aL az ?_;refine H.storeAll 1 rfl az rfl (fun v hv=>dc v hv) ?_;clear H;intro w4 H;exact ⟨_,S',rfl,Bd H.forget hS'⟩
theorem _root_.Go.Dk.Hp.only {w0 w:World}{F:Nat→Prop}{L M:List cC}{r:cC}(H:Hp w0 F w (r::L) M):Hp w0 F w [r] M:=by
 have hm:∀ s,s ∈ [r]→s ∈ r::L:=fun s hs=>by rw[List.mem_singleton] at hs;subst hs;exact .head _
 exact ⟨H.keeps,fun s hs=>H.ok s (hm s hs),fun s hs=>H.lt s (hm s hs),fun s hs=>H.new s (hm s hs),List.pairwise_singleton _ _,H.rok,H.rlt,fun q hq s hs=>H.rdis q hq s (hm s hs)⟩
theorem _root_.Go.Dk.Hp.tm {w0 w:World}{F:Nat→Prop}{L M:List cC}{r:cC}(H:Hp w0 F w L (r::M)):Hp w0 F w L [r]:=H.ep fun q hq=>by rw[List.mem_singleton] at hq;subst hq;exact .head _
theorem Ns:qu prog 180 25 .nilFunc 1 8:=⟨underlying180,by kernel_rfl,rfl,by decide⟩
theorem Ev:cH prog 25=some false:=by kernel_rfl
theorem zF:bB prog 25=some 1:=by kernel_rfl
theorem Gx:eH prog 144=some (.map none):=by kernel_rfl
theorem Gy:bB prog 144=some 1:=by kernel_rfl
theorem Cx {w:World}{kk:Value→World→Prop}(h:kk (mv 0 (.slice none 0 0)) w):b7 prog 137 [] w kk:=bu (fun w=>by kernel_rfl) h
def ux (cols:Int)(R:aZ):List Int:=if cA cols R then a6 cols.toNat (c_ cols.toNat (R,[])).2 else []
def zG (cols:Int)(R:aZ):aZ:=if cA cols R then (c_ cols.toNat (R,[])).1 else []
def zH (cols:Int)(R:aZ):Int:=if cA cols R then cols else 0
def zI (cols:Int)(R:aZ):Int:=if cA cols R then 0 else 1
def Be (l:List (Int × Bool))(T:List Int):Prop:=∀ c,bR l c=if c ∈ T then some true else none
theorem Be.add {l:List (Int × Bool)}{T:List Int}(h:Be l T)(k:Int):Be (dS l k true) (T++[k]):=fun c=>by
 rw[e8,h c];by_cases hc:c=k
 ·subst hc;simp
 ·simp[hc]
theorem Ji (S:Nat→Prop)(w:World):er S (.slice none 0 0) [] w:=⟨none,0,[],rfl,⟨rfl,none,0,rfl,Nat.le_refl _,.inl rfl⟩,fun i u ks h=>by simp at h⟩
theorem tn {cols:Nat}{s s':aZ × List Int}{k:Nat}(h:dh cols (cn cols s k)=some s'):cn cols s (k+1)=s':=by
 show (dh cols (cn cols s k)).getD (cn cols s k)=s';rw[h];rfl
def Ew (g1 g5:Nat):Array Value:=#[.func (.func 115) #[] #[(ah g1),(ah g5)],.func (.func 117) #[] #[(ah g1)],.func (.func 119) #[] #[(ah g1)]]
def qS (g1 r g7 g5 g3:Nat)(n:Int)(v:Value)(l:List (Int × Bool)):List cC:=[an g1 137 (mc n v),aP eW mE r l,an g7 25 (Ew g1 g5),an g5 144 #[.map (some r)],an g3 137 (mv 0 (.slice none 0 0)).cells]
theorem LD:enters prog 88=true:=by kernel_rfl
theorem Of (cols:Int)(R:aZ)(v1:Value)(S:Nat→Prop)(w:World)(hl:R.length≤1000000000)(hlr:∀ r ∈ R,r.length≤1000000000)(h1:er S v1 R w)(hS:∀ g,S g→g<w.heap.size) :
  bt prog 88 [mv cols v1] w fun o w'=>∃ B d v' S',o=.tuple #[.slice B (ux cols R).length d,mv (zH cols R) v',.int .i64 (zI cols R)]∧
   Hp w ab w' [own 3 1 (.slice B (ux cols R).length d) (ux cols R).length (aA (ux cols R))] [bf S' v' (zG cols R)]∧∀ g,S' g→w.heap.size≤g∨S g:=by
 refine ar (N:=44) func88 LD rfl rfl rfl (by simp) ?_;have H:=pa h1 hS;have h1':jT w v1 R:=bf.mono h1 hS;obtain ⟨A,ca,rfl⟩:=h1.form;refine H.box 137 (mv _ _) (cs:=mc _ _) rfl ?_;clear H;intro g1 w1 H;refine H.alloc 137 dH rfl ?_;clear H;intro g3 w2 H;refine H.ai 1 rfl aL az ?_;refine aj (Ee cols R _ _ hl hlr (h1'.same H.keeps)) ?_;rintro _ w3 ⟨rfl,hk⟩;replace H:=H.same hk;clear hk;refine aF (fun hr=>?_) (fun hr=>?_)
 ·have hno:cA cols R=false:=by simpa using hr
  have e1:ux cols R=[]:=by unfold ux;rw[hno];rfl
  have e2:zG cols R=[]:=by unfold zG;rw[hno];rfl
  have e3:zH cols R=0:=by unfold zH;rw[hno];rfl
  have e4:zI cols R=1:=by unfold zI;rw[hno];rfl
  rw[e1,e2,e3,e4];refine Cx ?_;refine H.storeAll 0 rfl az rfl (fun v hv=>dc v hv) ?_;clear H;intro w4 H;refine H.ai 0 rfl aL az ?_;refine ⟨rfl,?_⟩;have H2:=((H.pG (aS.refl _ _) (bf (fun _=>False) (.slice none 0 0) []) (Ji _ _) fun g hg=>hg.elim).ep (M':=[bf (fun _=>False) (.slice none 0 0) []]) (by simp)).bx 3 1;exact ⟨none,0,_,fun _=>False,rfl,H2.only,fun g hg=>hg.elim⟩
 have hr':cA cols R=true:=by simpa using hr
 have hright:=gi.1 hr';obtain ⟨n,rfl⟩:∃ n:Nat,cols=n:=⟨cols.toNat,by have:=hright.ge;omega⟩;have hn4:n≤4000:=by have:=hright.le;omega
 have e1:ux n R=a6 n (c_ n (R,[])).2:=by unfold ux;rw[hr',Int.toNat_natCast];rfl
 have e2:zG n R=(c_ n (R,[])).1:=by unfold zG;rw[hr',Int.toNat_natCast];rfl
 have e3:zH n R=n:=by unfold zH;rw[hr'];rfl
 have e4:zI n R=0:=by unfold zI;rw[hr'];rfl
 rw[e1,e2,e3,e4];clear e1 e2 e3 e4;refine H.makeMap eW mE ?_;clear H;intro r w4 H;refine H.alloc 144 Gx rfl ?_;clear H;intro g5 w5 H;refine H.store 0 rfl Gy (by show 0<1;decide) rfl ?_;clear H;intro w6 H;replace H:=(H.front 1 rfl).front 3 rfl;replace H:Hp w ab w6 [an g1 137 (mc n (.slice A R.length ca)),aP eW mE r [],an g5 144 #[.map (some r)],an g3 137 (mv 0 (.slice none 0 0)).cells] [bf S (.slice A R.length ca) R]:=H;refine nA ?_;refine nA ?_;refine nA ?_;refine H.bg Ns (cs:=Ew g1 g5) (by decide) (by decide) (by kernel_rfl) ?_;clear H;intro g7 w7 H;replace H:=(H.front 2 rfl).front 2 rfl;replace H:Hp w ab w7 (qS g1 r g7 g5 g3 n (.slice A R.length ca) []) [bf S (.slice A R.length ca) R]:=H;have hrun:∀ k,ek n (cn n (R,[]) k).1∧(cn n (R,[]) k).1.length≤1000000000∧∀ x ∈ (cn n (R,[]) k).1,x.length≤1000000000:=fun k=>by
  have h1:=(r8 hright k).right;have h2:(cn n (R,[]) k).1.length≤R.length:=od (s:=(R,[])) k;exact ⟨h1,by omega,fun x hx=>by have:=oe h1 hx;omega⟩
 refine aw (fun w'=>Hp.cl H w') ⟨(),trivial,H⟩ ?_;rintro ⟨⟩ u w8 H1;replace H:Hp _ _ _ _ _:=H1;clear H1;refine ak (γ:=Value × (Nat→Prop) × List (Int × Bool)) (fun _=>[])
  (fun (v,S',l) w'=>(Be l (c_ n (R,[])).2∧∀ g,S' g→w.heap.size≤g∨S g)∧Hp w ab w' (qS g1 r g7 g5 g3 n v l) [bf S' v (c_ n (R,[])).1]) ?_ ?_
 ·refine ax (γ:=Nat × Value × (Nat→Prop) × List (Int × Bool)) (fun _=>[])
   (fun (k,v,S',l) w'=>(Be l (cn n (R,[]) k).2∧∀ g,S' g→w.heap.size≤g∨S g)∧Hp w ab w' (qS g1 r g7 g5 g3 n v l) [bf S' v (cn n (R,[]) k).1])
   (fun (k,_)=>en (cn n (R,[]) k).1) (0,.slice A R.length ca,S,[]) trivial ⟨⟨fun c=>rfl,fun g hg=>.inr hg⟩,H⟩ ?_
  clear H;rintro ⟨k,v,S',l⟩ u w8 ⟨⟨hlk,hS'⟩,H⟩;obtain ⟨hr1,hl1,hlr1⟩:=hrun k;have hrb:=gi.2 hr1;refine ak (γ:=Value × (Nat→Prop)) (fun _=>[])
   (fun (v,S') w'=>(dh n (cn n (R,[]) k)=none∧∀ g,S' g→w.heap.size≤g∨S g)∧Hp w ab w' (qS g1 r g7 g5 g3 n v l) [bf S' v (cn n (R,[]) k).1]) ?_ ?_
  ·refine ay underlying180 ?_;refine ax (γ:=Nat × Value × (Nat→Prop)) (fun (j,_)=>[(22,.int .i64 (j:Int))])
    (fun (j,v,S') w'=>(j≤3∧(0<j→lD (cn n (R,[]) k).1=none)∧(1<j→lE (cn n (R,[]) k).1=none)∧(2<j→jr n (cn n (R,[]) k).1=none)∧∀ g,S' g→w.heap.size≤g∨S g)∧
     Hp w ab w' (qS g1 r g7 g5 g3 n v l) [bf S' v (cn n (R,[]) k).1])
    (fun (j,_)=>3 - j) (0,v,S') ⟨rfl,trivial⟩ ⟨⟨by decide,fun h=>by omega,fun h=>by omega,fun h=>by omega,hS'⟩,H⟩ ?_
   clear H hS';rintro ⟨j,v,S'⟩ u w9 ⟨⟨hj,hj0,hj1,hj2,hS'⟩,H⟩;replace H:Hp w ab w9 (qS g1 r g7 g5 g3 n v l) [bf S' v (cn n (R,[]) k).1]:=H;refine au (fun h7=>?_) (fun h7=>?_)
   ·have HJ:Hp w ab w9 [wg g1 r n v l,an g7 25 (Ew g1 g5),an g5 144 #[.map (some r)],an g3 137 (mv 0 (.slice none 0 0)).cells] [bf S' v (cn n (R,[]) k).1]:=Hp.join (Ls:=Gw g1 r n v l) H;clear H;have hj3:j=0∨j=1∨j=2:=by omega
    rcases hj3 with rfl | rfl | rfl
    ·refine aq underlying180 (s:=1) zF 0 rfl (by omega) (o':=0) (by omega) ?_;refine HJ.load 1 rfl Ev rfl ?_;refine pZ (Nr n _ v S' g1 g5 r l _ hl1 hlr1 (HJ.get 0 rfl) (HJ.ro 0 rfl) (HJ.rlt _ (.head _)) (fun g hg=>HJ.rdis _ (.head _) _ (.head _) g hg) (HJ.get 2 rfl) (fun hg=>(List.pairwise_cons.1 HJ.dis).1 _ (.tail _ (.head _)) g5 hg rfl)) ?_;rintro _ w10 ⟨v',S2,rfl,st⟩;have H2:=(HJ.we 0 rfl st.mQ (bf S2 v' _) st.mat (fun g hg=>⟨(st.foot g hg).1,(st.foot g hg).2.imp id fun h=>⟨_,.head _,h⟩⟩) st.dis).tm;have hS2:∀ g,S2 g→w.heap.size≤g∨S g:=fun g hg=>by
      rcases (st.foot g hg).2 with h | h
      ·exact .inl (Nat.le_trans HJ.keeps.size h)
      ·exact hS' g h
     replace H2:Hp w ab w10 (qS g1 r g7 g5 g3 n v' _) _:=Hp.split (Ls:=Gw g1 r n v' _) H2;have hto:lU n (cn n (R,[]) k).1=lD (cn n (R,[]) k).1:=by unfold lU;rw[if_pos hrb]
     rw[hto] at H2 ⊢
     cases ht:lD (cn n (R,[]) k).1 with
     | none=>
      rw[ht] at H2;refine af rfl ?_;exact ⟨(1,v',S2),by show 3 - 1<3 - 0;decide,⟨up (i:=0) (by omega),trivial⟩,⟨by decide,fun _=>rfl,fun h=>by omega,fun h=>by omega,hS2⟩,H2⟩
     | some p=>
      obtain ⟨R',c⟩:=p;rw[ht] at H2;have hst:dh n (cn n (R,[]) k)=some (R',(cn n (R,[]) k).2++[c]):=by unfold dh;rw[ht]
      have hm:=nU hst;have hsu:=tn hst;refine ag rfl ?_;refine ⟨(k+1,v',S2,dS l c true),?_,trivial,⟨?_,hS2⟩,?_⟩
      ·show en (cn n (R,[]) (k+1)).1<en (cn n (R,[]) k).1;rw[hsu];exact hm
      ·rw[hsu];exact hlk.add c
      ·rw[hsu];exact H2
    ·have ht:=hj0 (by decide);refine aq underlying180 (s:=1) zF 1 rfl (by omega) (o':=1) (by omega) ?_;refine HJ.load 1 rfl Ev rfl ?_;refine pZ (c117 n _ v S' g1 r l _ hl1 hlr1 (HJ.get 0 rfl) (HJ.ro 0 rfl) (HJ.rlt _ (.head _)) (fun g hg=>HJ.rdis _ (.head _) _ (.head _) g hg)) ?_;rintro _ w10 ⟨v',S2,rfl,st⟩;have H2:=(HJ.we 0 rfl st.mQ (bf S2 v' _) st.mat (fun g hg=>⟨(st.foot g hg).1,(st.foot g hg).2.imp id fun h=>⟨_,.head _,h⟩⟩) st.dis).tm;have hS2:∀ g,S2 g→w.heap.size≤g∨S g:=fun g hg=>by
      rcases (st.foot g hg).2 with h | h
      ·exact .inl (Nat.le_trans HJ.keeps.size h)
      ·exact hS' g h
     replace H2:Hp w ab w10 (qS g1 r g7 g5 g3 n v' _) _:=Hp.split (Ls:=Gw g1 r n v' _) H2;have hto:oS n (cn n (R,[]) k).1=lE (cn n (R,[]) k).1:=by unfold oS;rw[if_pos hrb]
     rw[hto] at H2 ⊢
     cases hro:lE (cn n (R,[]) k).1 with
     | none=>
      rw[hro] at H2;refine af rfl ?_;exact ⟨(2,v',S2),by show 3 - 2<3 - 1;decide,⟨up (i:=1) (by omega),trivial⟩,⟨by decide,fun _=>ht,fun _=>rfl,fun h=>by omega,hS2⟩,H2⟩
     | some R'=>
      rw[hro] at H2;have hst:dh n (cn n (R,[]) k)=some (R',(cn n (R,[]) k).2):=by unfold dh;rw[ht,hro]
      have hm:=nU hst;have hsu:=tn hst;refine ag rfl ?_;refine ⟨(k+1,v',S2,l),?_,trivial,⟨?_,hS2⟩,?_⟩
      ·show en (cn n (R,[]) (k+1)).1<en (cn n (R,[]) k).1;rw[hsu];exact hm
      ·rw[hsu];exact hlk
      ·rw[hsu];exact H2
    ·have ht:=hj0 (by decide);have hro:=hj1 (by decide);refine aq underlying180 (s:=1) zF 2 rfl (by omega) (o':=2) (by omega) ?_;refine HJ.load 1 rfl Ev rfl ?_;refine pZ (c119 n _ v S' g1 r l _ hl1 hlr1 (HJ.get 0 rfl) (HJ.ro 0 rfl) (HJ.rlt _ (.head _)) (fun g hg=>HJ.rdis _ (.head _) _ (.head _) g hg)) ?_;rintro _ w10 ⟨v',S2,rfl,st⟩;have H2:=(HJ.we 0 rfl st.mQ (bf S2 v' _) st.mat (fun g hg=>⟨(st.foot g hg).1,(st.foot g hg).2.imp id fun h=>⟨_,.head _,h⟩⟩) st.dis).tm;have hS2:∀ g,S2 g→w.heap.size≤g∨S g:=fun g hg=>by
      rcases (st.foot g hg).2 with h | h
      ·exact .inl (Nat.le_trans HJ.keeps.size h)
      ·exact hS' g h
     replace H2:Hp w ab w10 (qS g1 r g7 g5 g3 n v' _) _:=Hp.split (Ls:=Gw g1 r n v' _) H2;have hto:oT n (cn n (R,[]) k).1=jr n (cn n (R,[]) k).1:=by unfold oT;rw[if_pos hrb,Int.toNat_natCast]
     rw[hto] at H2 ⊢
     cases hco:jr n (cn n (R,[]) k).1 with
     | none=>
      rw[hco] at H2;refine af rfl ?_;exact ⟨(3,v',S2),by show 3 - 3<3 - 2;decide,⟨up (i:=2) (by omega),trivial⟩,⟨by decide,fun _=>ht,fun _=>hro,fun _=>rfl,hS2⟩,H2⟩
     | some R'=>
      rw[hco] at H2;have hst:dh n (cn n (R,[]) k)=some (R',(cn n (R,[]) k).2):=by unfold dh;rw[ht,hro,hco];rfl
      have hm:=nU hst;have hsu:=tn hst;refine ag rfl ?_;refine ⟨(k+1,v',S2,l),?_,trivial,⟨?_,hS2⟩,?_⟩
      ·show en (cn n (R,[]) (k+1)).1<en (cn n (R,[]) k).1;rw[hsu];exact hm
      ·rw[hsu];exact hlk
      ·rw[hsu];exact H2
   ·have:j=3:=by omega
    subst this;refine ⟨(v,S'),trivial,⟨?_,hS'⟩,H⟩;unfold dh;rw[hj0 (by decide),hj1 (by decide),hj2 (by decide)];rfl
  ·clear H hS';rintro ⟨v,S'⟩ u w9 ⟨⟨hst,hS'⟩,H⟩;have he:=I5 hst;rw[he] at hlk H;exact ⟨(v,S',l),trivial,⟨hlk,hS'⟩,H⟩
 clear H;rintro ⟨v,S',l⟩ u w8 ⟨⟨hlk,hS'⟩,H⟩;replace H:Hp w ab w8 (qS g1 r g7 g5 g3 n v l) [bf S' v (c_ n (R,[])).1]:=H;obtain ⟨A1,c1,rfl⟩:=(H.ro 0 rfl).form;generalize c_ n (R,[])=E at H hlk ⊢;obtain ⟨RE,TE⟩:=E;have H2:=H.bx 3 1;clear H;simp only at H2 hlk ⊢;have hrl:∀ c,(a6 c TE).length≤c:=fun c=>fo c TE;refine ak (γ:=Option Addr × Nat) (fun (B,d)=>[(6,.slice B (a6 n TE).length d)])
  (fun (B,d) w'=>Hp w ab w' (own 3 1 (.slice B (a6 n TE).length d) (a6 n TE).length (aA (a6 n TE))::qS g1 r g7 g5 g3 n (.slice A1 RE.length c1) l) [bf S' (.slice A1 RE.length c1) RE]) ?_ ?_
 ·refine aa (iE _) ?_;refine H2.load 1 rfl aE rfl ?_;refine ax (γ:=Nat × Option Addr × Nat) (fun (c,B,d)=>[(31,.int .i64 (c:Int)),(6,.slice B (a6 c TE).length d)])
   (fun (c,B,d) w'=>c≤n∧Hp w ab w' (own 3 1 (.slice B (a6 c TE).length d) (a6 c TE).length (aA (a6 c TE))::qS g1 r g7 g5 g3 n (.slice A1 RE.length c1) l) [bf S' (.slice A1 RE.length c1) RE])
   (fun (c,_)=>n - c) (0,none,0) ⟨rfl,rfl,trivial⟩ ⟨Nat.zero_le _,H2⟩ ?_
  clear H2;rintro ⟨c,B,d⟩ u w9 ⟨hc,H⟩;refine au (fun h7=>?_) (fun h7=>?_)
  ·have hsn:=ta c TE;have hcl:=hrl c;refine ak (γ:=Option Addr × Nat) (fun (B,d)=>[(6,.slice B (a6 (c+1) TE).length d)])
    (fun (B,d) w'=>Hp w ab w' (own 3 1 (.slice B (a6 (c+1) TE).length d) (a6 (c+1) TE).length (aA (a6 (c+1) TE))::qS g1 r g7 g5 g3 n (.slice A1 RE.length c1) l) [bf S' (.slice A1 RE.length c1) RE]) ?_ ?_
   ·refine ak (γ:=Unit) (fun _=>[(10,.int .i64 (c:Int))]) (fun _ w'=>Hp.cl H w') ⟨(),⟨rfl,trivial⟩,H⟩ ?_;rintro ⟨⟩ u w10 H1;replace H:Hp _ _ _ _ _:=H1;clear H1;refine H.load 4 rfl Eu rfl ?_;refine H.lookup 2 rfl yc (c:Int) ?_;by_cases hm:(c:Int) ∈ TE
    ·rw[if_pos hm] at hsn;rw[hlk,if_pos hm];refine ag rfl ?_;refine H.aX dy rfl ?_;clear H;intro g11 w11 H;refine H.cf 0 dy rfl rfl (by omega) (by omega) ?_;clear H;intro B2 d2 w12 H;have e1:(a6 (c+1) TE).length=(a6 c TE).length+1:=by rw[hsn];simp
     have e2:aA (a6 (c+1) TE)=aA (a6 c TE)++[.int .i64 (c:Int)]:=by rw[hsn,hY]
     exact ⟨(B2,d2),⟨by rw[e1];rfl,trivial⟩,by rw[e1,e2];exact H⟩
    ·rw[if_neg hm,List.append_nil] at hsn;rw[hlk,if_neg hm];refine af rfl ?_;exact ⟨(B,d),⟨by rw[hsn];rfl,trivial⟩,by rw[hsn];exact H⟩
   ·clear H;rintro ⟨B2,d2⟩ u w10 H;exact ⟨(c+1,B2,d2),by show n - (c+1)<n - c;omega,⟨up (by omega),rfl,trivial⟩,by show c+1≤n;omega,H⟩
  ·have:c=n:=by omega
   subst this;exact ⟨(B,d),⟨rfl,trivial⟩,H⟩
 clear H2;rintro ⟨B,d⟩ u w9 H;replace H:Hp w ab w9 [own 3 1 (.slice B (a6 n TE).length d) (a6 n TE).length (aA (a6 n TE)),an g1 137 (mc n (.slice A1 RE.length c1)),aP eW mE r l,an g7 25 (Ew g1 g5),an g5 144 #[.map (some r)],an g3 137 (mv 0 (.slice none 0 0)).cells] [bf S' (.slice A1 RE.length c1) RE]:=H;refine H.fg [own 3 1 (.slice B (a6 n TE).length d) (a6 n TE).length (aA (a6 n TE)),an g1 137 (mc n (.slice A1 RE.length c1)),aP eW mE r l,an g7 25 (Ew g1 g5),an g5 144 #[.map (some r)]] (fun u H=>(H.front 5 rfl).forget) eS (by kernel_rfl) ?_;clear H;intro w10 H;refine quiet _ (fun w H=>H.ai 1 rfl aL az ae) ?_;refine H.storeAll 5 rfl az rfl (fun v hv=>dc v hv) ?_;clear H;intro w11 H;refine ⟨.inl (H.front 5 rfl).forget,?_⟩;refine H.ai 5 rfl aL az ?_;refine ⟨rfl,?_⟩;exact ⟨B,d,_,S',rfl,H.only,hS'⟩
theorem Bf {n:Nat}{R:aZ}(h:cA n R=true):ux n R=a6 n (c_ n (R,[])).2∧zG n R=(c_ n (R,[])).1∧zH n R=n∧zI n R=0:=by
 unfold ux zG zH zI;rw[h,Int.toNat_natCast];exact ⟨rfl,rfl,rfl,rfl⟩
theorem Cy {l:List Int}{i:Nat}{x:Int}(p:Int→Bool)(hx:l[i]?=some x):(l.take (i+1)).any p=((l.take i).any p||p x):=by
 rw[List.take_add_one,hx];simp
theorem Cz {l:List Int}{i:Nat}{x:Int}(k:Int)(hx:l[i]?=some x):decide (k ∈ l.take (i+1))=(decide (k ∈ l.take i)||(k==x)):=by
 rw[List.take_add_one,hx,Bool.eq_iff_iff];simp
theorem p4 (a b:List Int):aA (a++b)=aA a++aA b:=by simp[aA]
theorem cS (l:List Int):∀ u ∈ aA l,u.oneCell'=true:=fun u hu=>by
 obtain ⟨k,_,rfl⟩:=List.mem_map.1 hu;rfl
theorem CA {α:Type}{l:List α}{i:Nat}{x:α}(hx:l[i]?=some x):l.drop i=x::l.drop (i+1):=by
 obtain ⟨hi,rfl⟩:=List.getElem?_eq_some_iff.1 hx;exact List.drop_eq_getElem_cons hi
theorem Be.get {l:List (Int × Bool)}{T:List Int}(h:Be l T)(k:Int):((bR l k).map mE).getD (.bool false)=.bool (decide (k ∈ T)):=by
 rw[h k];by_cases hk:k ∈ T
 ·rw[if_pos hk,decide_eq_true hk];rfl
 ·rw[if_neg hk,decide_eq_false hk];rfl
theorem CB {R:aZ}{r used:List Int}(h:(r.any fun k=>decide (k ∈ used))=true):eC (r::R) used=eC R used:=by
 show (if _ then _ else _)=_;rw[if_pos h]
theorem CC {R:aZ}{r used:List Int}(h:(r.any fun k=>decide (k ∈ used))=false):eC (r::R) used=eC R (used++r)+1:=by
 show (if _ then _ else _)=_;rw[if_neg (by rw[h];decide)]
theorem Jj:enters prog 123=true:=by kernel_rfl
theorem Nt (cols:Int)(R:aZ)(v1:Value)(w:World)(hl:R.length≤1000000000)(hlr:∀ r ∈ R,r.length≤1000000000)(h1:jT w v1 R) :
  bt prog 123 [mv cols v1] w fun v w'=>v=.int .i64 ((eC R []:Nat):Int)∧aT w w':=by
 refine ar (N:=42) func123 Jj rfl rfl rfl (by simp) ?_;have H:=Hp.aC w;obtain ⟨A,ca,va,rfl,ha,hra⟩:=h1.rH;have hbl:=pT R [];refine ak (γ:=Nat) (fun g1=>[(1,(ah g1))]) (fun g1 w'=>Hp w ab w' [an g1 137 (mc cols (.slice A R.length ca))] []) ?_ ?_
 ·refine H.box 137 (mv _ _) (cs:=mc _ _) rfl ?_;clear H;intro g1 w1 H;exact ⟨g1,⟨rfl,trivial⟩,H⟩
 clear H;rintro g1 u w1 H;refine ak (γ:=Nat) (fun r=>[(3,.map (some r))]) (fun r w'=>Hp w ab w' [aP eW mE r [],an g1 137 (mc cols (.slice A R.length ca))] []) ?_ ?_
 ·refine H.makeMap eW mE ?_;clear H;intro r w4 H;exact ⟨r,⟨rfl,trivial⟩,H⟩
 clear H;rintro r u w3 H;refine ak (γ:=Unit) (fun _=>[(4,.int .i64 0)]) (fun _ w'=>Hp.cl H w') ⟨(),⟨rfl,trivial⟩,H⟩ ?_;rintro ⟨⟩ u w3 H1;replace H:Hp _ _ _ _ _:=H1;clear H1;refine aw (fun w'=>Hp w ab w' [aP eW mE r [],an g1 137 (mc cols (.slice A R.length ca))] []) ⟨(),trivial,H⟩ ?_;clear H;rintro ⟨⟩ u w3 H;refine ak (γ:=List (Int × Bool)) (fun _=>[(4,.int .i64 ((eC R []:Nat):Int))]) (fun l w'=>Hp w ab w' [aP eW mE r l,an g1 137 (mc cols (.slice A R.length ca))] []) ?_ ?_
 ·refine aa (cz _) ?_;refine H.load 1 rfl eu rfl ?_;refine ay underlying135 ?_;refine ax (γ:=Nat × Nat × List Int × List (Int × Bool)) (fun (i,n,_)=>[(15,.int .i64 (i:Int)),(4,.int .i64 (n:Int))])
   (fun (i,n,used,l) w'=>(i≤R.length∧n+eC (R.drop i) used=eC R []∧Be l used)∧Hp w ab w' [aP eW mE r l,an g1 137 (mc cols (.slice A R.length ca))] [])
   (fun (i,_)=>R.length - i) (0,0,[],[]) ⟨rfl,rfl,trivial⟩ ⟨⟨Nat.zero_le _,by simp,fun c=>rfl⟩,H⟩ ?_
  clear H;rintro ⟨i,n,used,l⟩ u w4 ⟨⟨hi,hn,hlk⟩,H⟩;refine au (fun h7=>?_) (fun h7=>?_)
  ·obtain ⟨x,hx⟩:∃ x,R[i]?=some x:=⟨_,List.getElem?_eq_getElem (by omega)⟩;obtain ⟨g0,o0,rfl⟩:=ha.A (by omega);obtain ⟨Bx,cx,hget,hsx⟩:=hra i x hx;have hxl:=hlr x (List.mem_of_getElem? hx);rw[CA hx] at hn;refine ak (γ:=Nat × List Int × List (Int × Bool)) (fun (n,_)=>[(4,.int .i64 (n:Int))]) (fun (n,used,l) w'=>(n+eC (R.drop (i+1)) used=eC R []∧Be l used)∧Hp w ab w' [aP eW mE r l,an g1 137 (mc cols (.slice (some ⟨g0,o0,none⟩) R.length ca))] []) ?_ ?_
   ·refine ak (γ:=Unit) (fun _=>[(6,.slice Bx x.length cx)]) (fun _ w'=>Hp.cl H w') ?_ ?_
    ·refine aq underlying135 (s:=1) fK i rfl (by omega) (o':=o0+i) (by omega) ?_;refine H.dn (i:=i) ha iD _ rfl hget ?_;exact ⟨(),⟨rfl,trivial⟩,H⟩
    rintro ⟨⟩ u w6 H1;replace H:Hp w ab w6 [aP eW mE r l,an g1 137 (mc cols (.slice (some ⟨g0,o0,none⟩) R.length ca))] []:=H1;clear H1;refine aw (fun w'=>(x.any fun k=>decide (k ∈ used))=false∧Hp w ab w' [aP eW mE r l,an g1 137 (mc cols (.slice (some ⟨g0,o0,none⟩) R.length ca))] []) ?_ ?_
    ·refine ay underlying75 ?_;refine ax (γ:=Nat) (fun j=>[(21,.int .i64 (j:Int))]) (fun j w'=>(j≤x.length∧((x.take j).any fun k=>decide (k ∈ used))=false)∧Hp w ab w' [aP eW mE r l,an g1 137 (mc cols (.slice (some ⟨g0,o0,none⟩) R.length ca))] []) (fun j=>x.length - j) 0 ⟨rfl,trivial⟩ ⟨⟨Nat.zero_le _,by simp⟩,H⟩ ?_;clear H;rintro j u w7 ⟨⟨hj,hno⟩,H⟩;refine au (fun h8=>?_) (fun h8=>?_)
     ·obtain ⟨k,hk⟩:∃ k,x[j]?=some k:=⟨_,List.getElem?_eq_getElem (by omega)⟩;obtain ⟨g2,o2,rfl⟩:=hsx.A (by omega);have hgk:(aA x)[j]?=some (.int .i64 k):=by rw[aA,List.getElem?_map,hk];rfl
      have hsj:=Cy (fun k=>decide (k ∈ used)) hk;refine aw (fun w'=>((x.take (j+1)).any fun k=>decide (k ∈ used))=false∧Hp w ab w' [aP eW mE r l,an g1 137 (mc cols (.slice (some ⟨g0,o0,none⟩) R.length ca))] []) ?_ ?_
      ·refine ak (γ:=Unit) (fun _=>[(8,.int .i64 k)]) (fun _ w'=>Hp.cl H w') ?_ ?_
       ·refine aq underlying75 (s:=1) a_ j rfl (by omega) (o':=o2+j) (by omega) ?_;refine H.dn (i:=j) hsx aE _ rfl hgk ?_;exact ⟨(),⟨rfl,trivial⟩,H⟩
       rintro ⟨⟩ u w8 H1;replace H:Hp w ab w8 [aP eW mE r l,an g1 137 (mc cols (.slice (some ⟨g0,o0,none⟩) R.length ca))] []:=H1;clear H1;refine H.lookup 0 rfl yc k ?_;rw[hlk.get];refine au (fun hm=>?_) (fun hm=>?_)
       ·have hany:(x.any fun k=>decide (k ∈ used))=true:=List.any_eq_true.2 ⟨k,List.mem_of_getElem? hk,decide_eq_true hm⟩;rw[CB hany] at hn;exact ⟨(n,used,l),⟨rfl,trivial⟩,⟨hn,hlk⟩,H⟩
       ·exact ⟨(),trivial,by rw[hsj,hno,decide_eq_false hm];rfl,H⟩
      ·clear H;rintro ⟨⟩ u w8 ⟨hno,H⟩;exact ⟨j+1,by show x.length - (j+1)<x.length - j;omega,⟨up (by omega),trivial⟩,⟨by show j+1≤x.length;omega,hno⟩,H⟩
     ·have e:x.take j=x:=List.take_of_length_le (by omega);rw[e] at hno;exact ⟨(),trivial,hno,H⟩
    clear H;rintro ⟨⟩ u w7 ⟨hno,H⟩;rw[CC hno] at hn;refine ak (γ:=Unit) (fun _=>[(4,.int .i64 ((n+1:Nat):Int))]) (fun _ w'=>Hp w ab w' [aP eW mE r l,an g1 137 (mc cols (.slice (some ⟨g0,o0,none⟩) R.length ca))] []) ⟨(),⟨up (by omega),trivial⟩,H⟩ ?_;clear H;rintro ⟨⟩ u w7 H;refine ay underlying75 ?_;refine ax (γ:=Nat × List (Int × Bool)) (fun (j,_)=>[(33,.int .i64 (j:Int))]) (fun (j,l) w'=>(j≤x.length∧Be l (used++x.take j))∧Hp w ab w' [aP eW mE r l,an g1 137 (mc cols (.slice (some ⟨g0,o0,none⟩) R.length ca))] []) (fun (j,_)=>x.length - j) (0,l) ⟨rfl,trivial⟩ ⟨⟨Nat.zero_le _,by simpa using hlk⟩,H⟩ ?_;clear H hlk;rintro ⟨j,l⟩ u w8 ⟨⟨hj,hlk⟩,H⟩;refine au (fun h8=>?_) (fun h8=>?_)
    ·obtain ⟨k,hk⟩:∃ k,x[j]?=some k:=⟨_,List.getElem?_eq_getElem (by omega)⟩;obtain ⟨g2,o2,rfl⟩:=hsx.A (by omega);have hgk:(aA x)[j]?=some (.int .i64 k):=by rw[aA,List.getElem?_map,hk];rfl
     have htk:used++x.take (j+1)=(used++x.take j)++[k]:=by rw[List.take_add_one,hk,List.append_assoc];rfl
     refine aq underlying75 (s:=1) a_ j rfl (by omega) (o':=o2+j) (by omega) ?_;refine H.dn (i:=j) hsx aE _ rfl hgk ?_;refine H.iw 0 rfl yc k true ?_;clear H;intro w9 H;exact ⟨(j+1,dS l k true),by show x.length - (j+1)<x.length - j;omega,⟨up (by omega),trivial⟩,⟨by show j+1≤x.length;omega,by rw[htk];exact hlk.add k⟩,H⟩
    ·have e:x.take j=x:=List.take_of_length_le (by omega);rw[e] at hlk;exact ⟨(n+1,used++x,l),⟨rfl,trivial⟩,⟨by omega,hlk⟩,H⟩
   ·clear H hlk hn;rintro ⟨n2,used2,l2⟩ u w6 ⟨⟨hn,hlk⟩,H⟩;exact ⟨(i+1,n2,used2,l2),by show R.length - (i+1)<R.length - i;omega,⟨up (by omega),rfl,trivial⟩,⟨by show i+1≤R.length;omega,hn,hlk⟩,H⟩
  ·have:i=R.length:=by omega
   subst this;rw[List.drop_length] at hn;have hn:n=eC R []:=by simpa [eC] using hn
   exact ⟨l,⟨by rw[hn];rfl,trivial⟩,H⟩
 ·clear H;rintro l u w4 H;exact ⟨rfl,H.keeps⟩
theorem CD {R:aZ}{i:Nat}{x:List Int}(hx:R[i]?=some x)(h:gS (R.take i)=false)(hn:x≠[]):gS (R.take (i+1))=false:=by
 have:=Cg (fun r=>r.isEmpty) hx;unfold gS at h ⊢;rw[this,h]
 cases x with
 | nil=>exact absurd rfl hn
 | cons=>rfl
theorem Gz {R:aZ}{i:Nat}(hx:R[i]?=some []):gS R=true:=j_.2 (List.mem_of_getElem? hx)
theorem Jk:enters prog 122=true:=by kernel_rfl
theorem LF (cols:Int)(R:aZ)(v1:Value)(w:World)(hl:R.length≤1000000000)(h1:jT w v1 R) :
  bt prog 122 [mv cols v1] w fun v w'=>v=.bool (!gS R)∧aT w w':=by
 refine ar (N:=16) func122 Jk rfl rfl rfl (by simp) ?_;have H:=Hp.aC w;obtain ⟨A,ca,va,rfl,ha,hra⟩:=h1.rH;refine ak (γ:=Nat) (fun g1=>[(1,(ah g1))]) (fun g1 w'=>Hp w ab w' [an g1 137 (mc cols (.slice A R.length ca))] []) ?_ ?_
 ·refine H.box 137 (mv _ _) (cs:=mc _ _) rfl ?_;clear H;intro g1 w1 H;exact ⟨g1,⟨rfl,trivial⟩,H⟩
 clear H;rintro g1 u w1 H;refine aw (fun w'=>gS R=false∧Hp w ab w' [an g1 137 (mc cols (.slice A R.length ca))] []) ?_ ?_
 ·refine aa (cz _) ?_;refine H.load 0 rfl eu rfl ?_;refine ay underlying135 ?_;refine ax (γ:=Nat) (fun i=>[(8,.int .i64 (i:Int))]) (fun i w'=>(i≤R.length∧gS (R.take i)=false)∧Hp w ab w' [an g1 137 (mc cols (.slice A R.length ca))] []) (fun i=>R.length - i) 0 ⟨rfl,trivial⟩ ⟨⟨Nat.zero_le _,rfl⟩,H⟩ ?_;clear H;rintro i u w5 ⟨⟨hi,hno⟩,H⟩;refine au (fun h7=>?_) (fun h7=>?_)
  ·obtain ⟨x,hx⟩:∃ x,R[i]?=some x:=⟨_,List.getElem?_eq_getElem (by omega)⟩;obtain ⟨g0,o0,rfl⟩:=ha.A (by omega);obtain ⟨Bx,cx,hget,hsx⟩:=hra i x hx;refine aw (fun w'=>gS (R.take (i+1))=false∧Hp w ab w' [an g1 137 (mc cols (.slice (some ⟨g0,o0,none⟩) R.length ca))] []) ?_ ?_
   ·refine aq underlying135 (s:=1) fK i rfl (by omega) (o':=o0+i) (by omega) ?_;refine H.dn (i:=i) ha iD _ rfl hget ?_;refine ay underlying75 ?_;refine cr (fun h8=>?_) (fun h8=>?_)
    ·obtain rfl:x=[]:=List.length_eq_zero_iff.1 (by omega);rw[Gz hx];exact ⟨rfl,H.keeps⟩
    ·exact ⟨(),trivial,CD hx hno (fun e=>h8 (by rw[e];rfl)),H⟩
   ·clear H;rintro ⟨⟩ u w6 ⟨hno,H⟩;exact ⟨i+1,by show R.length - (i+1)<R.length - i;omega,⟨up (by omega),trivial⟩,⟨by show i+1≤R.length;omega,hno⟩,H⟩
  ·have:i=R.length:=by omega
   subst this;rw[List.take_length] at hno;exact ⟨(),trivial,hno,H⟩
 ·clear H;rintro ⟨⟩ u w6 ⟨hno,H⟩;rw[hno];exact ⟨rfl,H.keeps⟩
theorem er.rows {S:Nat→Prop}{v:Value}{R:aZ}{w:World}(h:er S v R w)(hS:∀ g,S g→g<w.heap.size):∃ A c va,v=.slice A R.length c∧Sl w (.slice A R.length c) 1 R.length va∧
  ∀ (i:Nat) (x:List Int),R[i]?=some x→∃ Bx cx,va[i]?=some (.slice Bx x.length cx)∧qQ S w (.slice Bx x.length cx) x∧Sl w (.slice Bx x.length cx) 1 x.length (aA x):=by
 obtain ⟨A,ca,va,rfl,ha0,hr0⟩:=h;have ha:Sl w (.slice A R.length ca) 1 R.length va:=sl.mono ha0 hS;have hvl:va.length=R.length:=by have:=ha.1;omega
 refine ⟨A,ca,va,rfl,ha,fun i x hx=>?_⟩;have hil:=(List.getElem?_eq_some_iff.1 hx).1;have hu:va[i]?=some (va[i]'(by omega)):=List.getElem?_eq_getElem (by omega);obtain ⟨Bx,cx,hux,hsx0⟩:=hr0 i _ x hu hx;rw[hux] at hu;exact ⟨Bx,cx,hu,⟨Bx,cx,rfl,hsx0⟩,sl.mono hsx0 hS⟩
theorem wi {R:aZ}{i:Nat}{x:List Int}(c:Int)(hx:R[i]?=some x):aI (R.take (i+1)) c=aI (R.take i) c++(if c ∈ x then [] else [x]):=by
 unfold aI;rw[yb _ hx];by_cases h:c ∈ x <;> simp[h]
theorem rK (R:aZ)(c:Int):(aI R c).length≤R.length:=List.length_filter_le _ _
theorem Jl:enters prog 126=true:=by kernel_rfl
theorem oD (cols:Int)(R:aZ)(c:Int)(v1:Value)(S:Nat→Prop)(w:World)(hl:R.length≤1000000000)(hlr:∀ r ∈ R,r.length≤1000000000)(h1:er S v1 R w)(hS:∀ g,S g→g<w.heap.size) :
  bt prog 126 [mv cols v1,.int .i64 c] w fun v w'=>∃ v',v=mv cols v'∧tk S w w' v' (aI R c):=by
 refine ar (N:=44) func126 Jl rfl rfl rfl (by simp) ?_;have H:=Hp.aC w;obtain ⟨A,ca,va,rfl,ha,hrow⟩:=h1.rows hS;refine H.box 137 (mv _ _) (cs:=mc _ _) rfl ?_;clear H;intro g1 w1 H;refine H.alloc 137 dH rfl ?_;clear H;intro g2 w2 H;refine ak (γ:=Nat) (fun g3=>[(5,(ah g3))]) (fun g3 w'=>Hp w ab w' [an g3 137 (mc cols (.slice none 0 0)),an g2 137 (mv 0 (.slice none 0 0)).cells,an g1 137 (mc cols (.slice A R.length ca))] []) ?_ ?_
 ·refine aa (iE _) ?_;refine H.load 1 rfl aE rfl ?_;refine lT ?_;refine H.alloc 137 dH rfl ?_;clear H;intro g3 w3 H;refine H.storeAll 0 rfl az rfl (fun v hv=>dc v hv) ?_;clear H;intro w7 H;exact ⟨_,⟨rfl,trivial⟩,H⟩
 clear H;rintro g3 u w3 H;replace H:=(H.bx 75 1).front 1 rfl;refine ak (γ:=Option Addr × Nat × List Value) (fun _=>[]) (fun (B,d,hs) w'=>iR S w hs (aI R c)∧
  Hp w ab w' [an g3 137 (mc cols (.slice B hs.length d)),own 75 1 (.slice B hs.length d) hs.length hs,an g2 137 (mv 0 (.slice none 0 0)).cells,an g1 137 (mc cols (.slice A R.length ca))] []) ?_ ?_
 ·refine aa (cz _) ?_;refine H.load 3 rfl eu rfl ?_;refine ay underlying135 ?_;refine ax (γ:=Nat × Option Addr × Nat × List Value) (fun (i,_)=>[(17,.int .i64 (i:Int))])
   (fun (i,B,d,hs) w'=>(i≤R.length∧iR S w hs (aI (R.take i) c))∧
    Hp w ab w' [an g3 137 (mc cols (.slice B hs.length d)),own 75 1 (.slice B hs.length d) hs.length hs,an g2 137 (mv 0 (.slice none 0 0)).cells,an g1 137 (mc cols (.slice A R.length ca))] [])
   (fun (i,_)=>R.length - i) (0,none,0,[]) ⟨rfl,trivial⟩ ⟨⟨Nat.zero_le _,iR.nil _ _⟩,H⟩ ?_
  clear H;rintro ⟨i,B,d,hs⟩ u w4 ⟨⟨hi,hhs⟩,H⟩;refine au (fun h7=>?_) (fun h7=>?_)
  ·obtain ⟨x,hx⟩:∃ x,R[i]?=some x:=⟨_,List.getElem?_eq_getElem (by omega)⟩;obtain ⟨g0,o0,rfl⟩:=ha.A (by omega);obtain ⟨Bx,cx,hget,hrv,hsx⟩:=hrow i x hx;have hxl:=hlr x (List.mem_of_getElem? hx);have hsn:=wi c hx;have hb1:hs.length≤1000000000:=by have h1:=hhs.1;have h2:=rK (R.take i) c;rw[List.length_take] at h2;omega
   refine ak (γ:=Option Addr × Nat × List Value) (fun _=>[]) (fun (B,d,hs) w'=>iR S w hs (aI (R.take (i+1)) c)∧
    Hp w ab w' [an g3 137 (mc cols (.slice B hs.length d)),own 75 1 (.slice B hs.length d) hs.length hs,an g2 137 (mv 0 (.slice none 0 0)).cells,an g1 137 (mc cols (.slice (some ⟨g0,o0,none⟩) R.length ca))] []) ?_ ?_
   ·refine ak (γ:=Unit) (fun _=>[(7,.slice Bx x.length cx)]) (fun _ w'=>Hp.cl H w') ?_ ?_
    ·refine aq underlying135 (s:=1) fK i rfl (by omega) (o':=o0+i) (by omega) ?_;refine H.dn (i:=i) ha iD _ rfl hget ?_;exact ⟨(),⟨rfl,trivial⟩,H⟩
    rintro ⟨⟩ u w6 H1;replace H:Hp _ _ _ _ _:=H1;clear H1;refine ak (γ:=Unit) (fun _=>[(8,.bool false)]) (fun _ w'=>Hp.cl H w') ⟨(),⟨rfl,trivial⟩,H⟩ ?_;rintro ⟨⟩ u w6 H1;replace H:Hp _ _ _ _ _:=H1;clear H1;refine ak (γ:=Unit) (fun _=>[(8,.bool (decide (c ∈ x)))]) (fun _ w'=>Hp w ab w' [an g3 137 (mc cols (.slice B hs.length d)),own 75 1 (.slice B hs.length d) hs.length hs,an g2 137 (mv 0 (.slice none 0 0)).cells,an g1 137 (mc cols (.slice (some ⟨g0,o0,none⟩) R.length ca))] []) ?_ ?_
    ·refine ay underlying75 ?_;refine ax (γ:=Nat) (fun j=>[(23,.int .i64 (j:Int)),(8,.bool (decide (c ∈ x.take j)))]) (fun j w'=>j≤x.length∧Hp w ab w' [an g3 137 (mc cols (.slice B hs.length d)),own 75 1 (.slice B hs.length d) hs.length hs,an g2 137 (mv 0 (.slice none 0 0)).cells,an g1 137 (mc cols (.slice (some ⟨g0,o0,none⟩) R.length ca))] []) (fun j=>x.length - j) 0 ⟨rfl,by simp;rfl,trivial⟩ ⟨Nat.zero_le _,H⟩ ?_;clear H;rintro j u w7 ⟨hj,H⟩;refine au (fun h8=>?_) (fun h8=>?_)
     ·obtain ⟨k,hk⟩:∃ k,x[j]?=some k:=⟨_,List.getElem?_eq_getElem (by omega)⟩;obtain ⟨g4,o4,rfl⟩:=hsx.A (by omega);have hgk:(aA x)[j]?=some (.int .i64 k):=by rw[aA,List.getElem?_map,hk];rfl
      have hsj:=Cz c hk;refine ak (γ:=Unit) (fun _=>[(8,.bool (decide (c ∈ x.take (j+1))))]) (fun _ w'=>Hp.cl H w') ?_ ?_
      ·refine ak (γ:=Unit) (fun _=>[(10,.int .i64 k)]) (fun _ w'=>Hp.cl H w') ?_ ?_
       ·refine aq underlying75 (s:=1) a_ j rfl (by omega) (o':=o4+j) (by omega) ?_;refine H.dn (i:=j) hsx aE _ rfl hgk ?_;exact ⟨(),⟨rfl,trivial⟩,H⟩
       rintro ⟨⟩ u w8 H1;replace H:Hp _ _ _ _ _:=H1;clear H1;rw[hsj];generalize decide (c ∈ x.take j)=b0;refine aF (fun h5=>?_) (fun h5=>?_)
       ·refine ag (by assumption) ?_
        iterate 2 refine ag (by assumption) ?_
        exact ⟨(),⟨by rw[h5];rfl,trivial⟩,H⟩
       ·refine af (by assumption) ?_
        iterate 2 refine af (by assumption) ?_
        exact ⟨(),⟨by rw[h5,Bool.false_or,BEq.comm];rfl,trivial⟩,H⟩
      ·rintro ⟨⟩ u w8 H1;exact ⟨j+1,by show x.length - (j+1)<x.length - j;omega,⟨up (by omega),rfl,trivial⟩,by show j+1≤x.length;omega,H1⟩
     ·have e:x.take j=x:=List.take_of_length_le (by omega);exact ⟨(),⟨congrArg (fun l:List Int=>Value.bool (decide (c ∈ l))) e,trivial⟩,H⟩
    clear H;rintro ⟨⟩ u w7 H;refine aF (fun hb=>?_) (fun hb=>?_)
    ·rw[if_neg (by simpa using hb)] at hsn;refine aa (cz _) ?_;refine H.load 0 rfl eu rfl ?_;refine H.aX tj rfl ?_;clear H;intro g5 w8 H;refine H.cf 1 tj rfl rfl (by omega) (by omega) ?_;clear H;intro B2 d2 w9 H;refine aa (cz _) ?_;refine H.store 0 rfl pY (by show 1<2;decide) rfl ?_;clear H;intro w10 H;have hli:hs.length+1=(hs++[Value.slice Bx x.length cx]).length:=by simp
     rw[hli] at H;exact ⟨(B2,d2,hs++[Value.slice Bx x.length cx]),trivial,by rw[hsn];exact hhs.snoc hrv,H⟩
    ·rw[if_pos (by simpa using hb),List.append_nil] at hsn;exact ⟨(B,d,hs),trivial,by rw[hsn];exact hhs,H⟩
   ·clear H hhs;rintro ⟨B2,d2,hs2⟩ u w6 ⟨hhs,H⟩;exact ⟨(i+1,B2,d2,hs2),by show R.length - (i+1)<R.length - i;omega,⟨up (by omega),trivial⟩,⟨by show i+1≤R.length;omega,hhs⟩,H⟩
  ·have:i=R.length:=by omega
   subst this;rw[List.take_length] at hhs;exact ⟨(B,d,hs),trivial,hhs,H⟩
 clear H;rintro ⟨B,d,hs⟩ u w4 ⟨hhs,H⟩;refine H.ai 0 rfl aL az ?_;refine H.storeAll 2 rfl az rfl (fun v hv=>dc v hv) ?_;clear H;intro w5 H;refine H.ai 2 rfl aL az ?_;refine ⟨rfl,?_⟩;exact ⟨_,rfl,Et H 1 rfl hhs hS⟩
theorem Jm:enters prog 127=true:=by kernel_rfl
theorem c127 (n:Nat)(T:List Int)(A:Option Addr)(ca:Nat)(w:World)(hn:n≤1000000000)(hl:T.length≤1000000000)(hs:Sl w (.slice A T.length ca) 1 T.length (aA T)) :
  bt prog 127 [.slice A T.length ca,.int .i64 (n:Int)] w fun v w'=>∃ B d,v=.slice B (a6 n T).length d∧eX w w' (own 3 1 (.slice B (a6 n T).length d) (a6 n T).length (aA (a6 n T))):=by
 refine ar (N:=33) func127 Jm rfl rfl rfl (by simp) ?_;have H:=Hp.aC w;refine aw (fun w'=>Hp w ab w' [] []) ⟨(),trivial,H⟩ ?_;clear H;rintro ⟨⟩ u w0 H;refine ak (γ:=Nat) (fun r=>[(5,.map (some r))]) (fun r w'=>Hp w ab w' [aP eW mE r []] []) ?_ ?_
 ·refine H.makeMap eW mE ?_;clear H;intro r w4 H;exact ⟨r,⟨rfl,trivial⟩,H⟩
 clear H;rintro r u w3 H;refine ak (γ:=List (Int × Bool)) (fun _=>[]) (fun l w'=>Be l T∧Hp w ab w' [aP eW mE r l] []) ?_ ?_
 ·refine ay underlying75 ?_;refine ax (γ:=Nat × List (Int × Bool)) (fun (j,_)=>[(13,.int .i64 (j:Int))]) (fun (j,l) w'=>(j≤T.length∧Be l (T.take j))∧Hp w ab w' [aP eW mE r l] []) (fun (j,_)=>T.length - j) (0,[]) ⟨rfl,trivial⟩ ⟨⟨Nat.zero_le _,fun c=>rfl⟩,H⟩ ?_;clear H;rintro ⟨j,l⟩ u w8 ⟨⟨hj,hlk⟩,H⟩;refine au (fun h8=>?_) (fun h8=>?_)
  ·obtain ⟨k,hk⟩:∃ k,T[j]?=some k:=⟨_,List.getElem?_eq_getElem (by omega)⟩;obtain ⟨g2,o2,rfl⟩:=hs.A (by omega);have hgk:(aA T)[j]?=some (.int .i64 k):=by rw[aA,List.getElem?_map,hk];rfl
   have htk:T.take (j+1)=T.take j++[k]:=by rw[List.take_add_one,hk];rfl
   refine aq underlying75 (s:=1) a_ j rfl (by omega) (o':=o2+j) (by omega) ?_;refine H.dn (i:=j) hs aE _ rfl hgk ?_;refine H.iw 0 rfl yc k true ?_;clear H;intro w9 H;exact ⟨(j+1,dS l k true),by show T.length - (j+1)<T.length - j;omega,⟨up (by omega),trivial⟩,⟨by show j+1≤T.length;omega,by rw[htk];exact hlk.add k⟩,H⟩
  ·have e:T.take j=T:=List.take_of_length_le (by omega);rw[e] at hlk;exact ⟨l,trivial,hlk,H⟩
 clear H;rintro l u w4 ⟨hlk,H⟩;refine ak (γ:=Unit) (fun _=>[(8,.slice none 0 0)]) (fun _ w'=>Hp w ab w' [aP eW mE r l] []) ⟨(),⟨rfl,trivial⟩,H⟩ ?_;clear H;rintro ⟨⟩ u w5 H;have H2:=H.bx 3 1;clear H;have hrl:∀ c,(a6 c T).length≤c:=fun c=>fo c T;refine ak (γ:=Option Addr × Nat) (fun (B,d)=>[(8,.slice B (a6 n T).length d)])
  (fun (B,d) w'=>Hp w ab w' [own 3 1 (.slice B (a6 n T).length d) (a6 n T).length (aA (a6 n T)),aP eW mE r l] []) ?_ ?_
 ·refine ax (γ:=Nat × Option Addr × Nat) (fun (c,B,d)=>[(21,.int .i64 (c:Int)),(8,.slice B (a6 c T).length d)])
   (fun (c,B,d) w'=>c≤n∧Hp w ab w' [own 3 1 (.slice B (a6 c T).length d) (a6 c T).length (aA (a6 c T)),aP eW mE r l] [])
   (fun (c,_)=>n - c) (0,none,0) ⟨rfl,rfl,trivial⟩ ⟨Nat.zero_le _,H2⟩ ?_
  clear H2;rintro ⟨c,B,d⟩ u w9 ⟨hc,H⟩;refine au (fun h7=>?_) (fun h7=>?_)
  ·have hsn:=ta c T;have hcl:=hrl c;refine ak (γ:=Option Addr × Nat) (fun (B,d)=>[(8,.slice B (a6 (c+1) T).length d)])
    (fun (B,d) w'=>Hp w ab w' [own 3 1 (.slice B (a6 (c+1) T).length d) (a6 (c+1) T).length (aA (a6 (c+1) T)),aP eW mE r l] []) ?_ ?_
   ·refine ak (γ:=Unit) (fun _=>[(9,.int .i64 (c:Int))]) (fun _ w'=>Hp.cl H w') ⟨(),⟨rfl,trivial⟩,H⟩ ?_;rintro ⟨⟩ u w10 H1;replace H:Hp _ _ _ _ _:=H1;clear H1;refine H.lookup 1 rfl yc (c:Int) ?_;rw[hlk.get];refine au (fun hm=>?_) (fun hm=>?_)
    ·rw[if_pos hm] at hsn;refine H.aX dy rfl ?_;clear H;intro g11 w11 H;refine H.cf 0 dy rfl rfl (by omega) (by omega) ?_;clear H;intro B2 d2 w12 H;have e1:(a6 (c+1) T).length=(a6 c T).length+1:=by rw[hsn];simp
     have e2:aA (a6 (c+1) T)=aA (a6 c T)++[.int .i64 (c:Int)]:=by rw[hsn,hY]
     exact ⟨(B2,d2),⟨by rw[e1];rfl,trivial⟩,by rw[e1,e2];exact H⟩
    ·rw[if_neg hm,List.append_nil] at hsn;exact ⟨(B,d),⟨by rw[hsn];rfl,trivial⟩,by rw[hsn];exact H⟩
   ·clear H;rintro ⟨B2,d2⟩ u w10 H;exact ⟨(c+1,B2,d2),by show n - (c+1)<n - c;omega,⟨up (by omega),rfl,trivial⟩,by show c+1≤n;omega,H⟩
  ·have:c=n:=by omega
   subst this;exact ⟨(B,d),⟨rfl,trivial⟩,H⟩
 ·clear H2;rintro ⟨B,d⟩ u w9 H;exact ⟨B,d,rfl,(H.only).out⟩
theorem Ex (R:aZ)(c:Int):(bh R c).length=R.length:=by unfold bh;rw[List.length_map]
theorem Jn:enters prog 125=true:=by kernel_rfl
theorem pb (cols:Int)(R:aZ)(c:Int)(v1:Value)(S:Nat→Prop)(w:World)(hl:R.length≤1000000000)(hlr:∀ r ∈ R,r.length≤1000000000)(h1:er S v1 R w)(hS:∀ g,S g→g<w.heap.size) :
  bt prog 125 [mv cols v1,.int .i64 c] w fun v w'=>∃ v',v=mv cols v'∧tk S w w' v' (bh R c):=by
 refine ar (N:=43) func125 Jn rfl rfl rfl (by simp) ?_;have H:=pa h1 hS;have h1':jT w v1 R:=bf.mono h1 hS;obtain ⟨A,ca,va,rfl,ha,hra⟩:=h1'.rH;refine H.box 137 (mv _ _) (cs:=mc _ _) rfl ?_;clear H;intro g1 w1 H;refine H.alloc 137 dH rfl ?_;clear H;intro g2 w2 H;refine ak (γ:=Nat) (fun g3=>[(5,(ah g3))]) (fun g3 w'=>Hp w ab w' [an g3 137 (mc cols (.slice none 0 0)),an g2 137 (mv 0 (.slice none 0 0)).cells,an g1 137 (mc cols (.slice A R.length ca))] [bf S (.slice A R.length ca) R]) ?_ ?_
 ·refine aa (iE _) ?_;refine H.load 1 rfl aE rfl ?_;refine lT ?_;refine H.alloc 137 dH rfl ?_;clear H;intro g3 w3 H;refine H.storeAll 0 rfl az rfl (fun v hv=>dc v hv) ?_;clear H;intro w7 H;exact ⟨_,⟨rfl,trivial⟩,H⟩
 clear H;rintro g12 u w3 H;have H2:=((H.bx 75 1).front 1 rfl).zB;clear H;refine ak (γ:=Option Addr × Nat × List Value × (Nat→Prop)) (fun _=>[])
  (fun (B,d,hs,S') w'=>(∀ g,S' g→w.heap.size≤g)∧Hp w ab w' [an g12 137 (mc cols (.slice B hs.length d)),own 75 1 (.slice B hs.length d) hs.length hs,an g2 137 (mv 0 (.slice none 0 0)).cells,an g1 137 (mc cols (.slice A R.length ca))] [di S' hs (bh R c),bf S (.slice A R.length ca) R]) ?_ ?_
 ·refine aa (cz _) ?_;refine H2.load 3 rfl eu rfl ?_;refine ay underlying135 ?_;refine ax (γ:=Nat × Option Addr × Nat × List Value × (Nat→Prop)) (fun (i,_)=>[(17,.int .i64 (i:Int))])
   (fun (i,B,d,hs,S') w'=>(i≤R.length∧hs.length=i∧∀ g,S' g→w.heap.size≤g)∧Hp w ab w' [an g12 137 (mc cols (.slice B hs.length d)),own 75 1 (.slice B hs.length d) hs.length hs,an g2 137 (mv 0 (.slice none 0 0)).cells,an g1 137 (mc cols (.slice A R.length ca))] [di S' hs (bh (R.take i) c),bf S (.slice A R.length ca) R])
   (fun (i,_)=>R.length - i) (0,none,0,[],fun _=>False) ⟨rfl,trivial⟩ ⟨⟨Nat.zero_le _,rfl,fun g h=>h.elim⟩,H2⟩ ?_
  clear H2;rintro ⟨i,B,db,hs,S'⟩ u w13 ⟨⟨hi,hhl,hS'⟩,H⟩;refine au (fun h20=>?_) (fun h20=>?_)
  ·obtain ⟨x,hx⟩:∃ x,R[i]?=some x:=⟨_,List.getElem?_eq_getElem (by omega)⟩;obtain ⟨g0,o0,rfl⟩:=ha.A (by omega);obtain ⟨Bx,cx,hget,hsx⟩:=hra i x hx;have hxl:=hlr x (List.mem_of_getElem? hx);refine ak (γ:=Option Addr × Nat × List Value × (Nat→Prop)) (fun _=>[])
    (fun (B,d,hs,S') w'=>(hs.length=i+1∧∀ g,S' g→w.heap.size≤g)∧Hp w ab w' [an g12 137 (mc cols (.slice B hs.length d)),own 75 1 (.slice B hs.length d) hs.length hs,an g2 137 (mv 0 (.slice none 0 0)).cells,an g1 137 (mc cols (.slice (some ⟨g0,o0,none⟩) R.length ca))] [di S' hs (bh (R.take (i+1)) c),bf S (.slice (some ⟨g0,o0,none⟩) R.length ca) R]) ?_ ?_
   ·refine ak (γ:=Unit) (fun _=>[(7,.slice Bx x.length cx)]) (fun _ w'=>Hp.cl H w') ?_ ?_
    ·refine aq underlying135 (s:=1) fK i rfl (by omega) (o':=o0+i) (by omega) ?_;refine H.dn (i:=i) ha iD _ rfl hget ?_;exact ⟨(),⟨rfl,trivial⟩,H⟩
    rintro ⟨⟩ u w14 H1;replace H:Hp _ _ _ _ _:=H1;clear H1;refine ak (γ:=Unit) (fun _=>[(8,.slice none 0 0)]) (fun _ w'=>Hp.cl H w') ⟨(),⟨rfl,trivial⟩,H⟩ ?_;rintro ⟨⟩ u w14 H1;replace H:Hp _ _ _ _ _:=H1;clear H1;have H2:=H.bx 3 1;clear H;refine ak (γ:=Option Addr × Nat) (fun (B2,d2)=>[(8,.slice B2 (x.filter fun k=>k !=c).length d2)])
     (fun (B2,d2) w'=>Hp w ab w' [own 3 1 (.slice B2 (x.filter fun k=>k !=c).length d2) (x.filter fun k=>k !=c).length (aA (x.filter fun k=>k !=c)),an g12 137 (mc cols (.slice B hs.length db)),own 75 1 (.slice B hs.length db) hs.length hs,an g2 137 (mv 0 (.slice none 0 0)).cells,an g1 137 (mc cols (.slice (some ⟨g0,o0,none⟩) R.length ca))] [di S' hs (bh (R.take i) c),bf S (.slice (some ⟨g0,o0,none⟩) R.length ca) R]) ?_ ?_
    ·refine ay underlying75 ?_;refine ax (γ:=Nat × Option Addr × Nat) (fun (j,B2,d2)=>[(23,.int .i64 (j:Int)),(8,.slice B2 ((x.take j).filter fun k=>k !=c).length d2)])
      (fun (j,B2,d2) w'=>j≤x.length∧Hp w ab w' [own 3 1 (.slice B2 ((x.take j).filter fun k=>k !=c).length d2) ((x.take j).filter fun k=>k !=c).length (aA ((x.take j).filter fun k=>k !=c)),an g12 137 (mc cols (.slice B hs.length db)),own 75 1 (.slice B hs.length db) hs.length hs,an g2 137 (mv 0 (.slice none 0 0)).cells,an g1 137 (mc cols (.slice (some ⟨g0,o0,none⟩) R.length ca))] [di S' hs (bh (R.take i) c),bf S (.slice (some ⟨g0,o0,none⟩) R.length ca) R])
      (fun (j,_)=>x.length - j) (0,none,0) ⟨rfl,rfl,trivial⟩ ⟨Nat.zero_le _,H2⟩ ?_
     clear H2;rintro ⟨j,B2,d2⟩ u w15 ⟨hj,H⟩;refine au (fun h21=>?_) (fun h21=>?_)
     ·obtain ⟨k,hk⟩:∃ k,x[j]?=some k:=⟨_,List.getElem?_eq_getElem (by omega)⟩;obtain ⟨g3,o3,rfl⟩:=hsx.A (by omega);have hgk:(aA x)[j]?=some (.int .i64 k):=by rw[aA,List.getElem?_map,hk];rfl
      have hsn:=u4 (fun k=>k !=c) hk;have hfl:=List.length_filter_le (fun k=>k !=c) (x.take j);rw[List.length_take] at hfl;refine ak (γ:=Option Addr × Nat) (fun (B2,d2)=>[(8,.slice B2 ((x.take (j+1)).filter fun k=>k !=c).length d2)])
       (fun (B2,d2) w'=>Hp w ab w' [own 3 1 (.slice B2 ((x.take (j+1)).filter fun k=>k !=c).length d2) ((x.take (j+1)).filter fun k=>k !=c).length (aA ((x.take (j+1)).filter fun k=>k !=c)),an g12 137 (mc cols (.slice B hs.length db)),own 75 1 (.slice B hs.length db) hs.length hs,an g2 137 (mv 0 (.slice none 0 0)).cells,an g1 137 (mc cols (.slice (some ⟨g0,o0,none⟩) R.length ca))] [di S' hs (bh (R.take i) c),bf S (.slice (some ⟨g0,o0,none⟩) R.length ca) R]) ?_ ?_
      ·refine ak (γ:=Unit) (fun _=>[(10,.int .i64 k)]) (fun _ w'=>Hp.cl H w') ?_ ?_
       ·refine aq underlying75 (s:=1) a_ j rfl (by omega) (o':=o3+j) (by omega) ?_;refine H.dn (i:=j) hsx aE _ rfl hgk ?_;exact ⟨(),⟨rfl,trivial⟩,H⟩
       rintro ⟨⟩ u w16 H1;replace H:Hp _ _ _ _ _:=H1;clear H1;refine aF (fun hb=>?_) (fun hb=>?_)
       ·rw[if_pos hb] at hsn;refine H.aX dy rfl ?_;clear H;intro g7 w16 H;refine H.cf 0 dy rfl rfl (by omega) (by omega) ?_;clear H;intro B3 d3 w17 H;have e1:((x.take (j+1)).filter fun k=>k !=c).length=((x.take j).filter fun k=>k !=c).length+1:=by rw[hsn];simp
        have e2:aA ((x.take (j+1)).filter fun k=>k !=c)=aA ((x.take j).filter fun k=>k !=c)++[.int .i64 k]:=by rw[hsn,hY]
        exact ⟨(B3,d3),⟨by rw[e1];rfl,trivial⟩,by rw[e1,e2];exact H⟩
       ·rw[if_neg (by rw[hb];decide),List.append_nil] at hsn;exact ⟨(B2,d2),⟨by rw[hsn];rfl,trivial⟩,by rw[hsn];exact H⟩
      ·clear H;rintro ⟨B3,d3⟩ u w16 H;exact ⟨(j+1,B3,d3),by show x.length - (j+1)<x.length - j;omega,⟨up (by omega),rfl,trivial⟩,by show j+1≤x.length;omega,H⟩
     ·have e:x.take j=x:=List.take_of_length_le (by omega);rw[e] at H;exact ⟨(B2,d2),⟨congrArg (fun l:List Int=>Value.slice B2 (l.filter fun k=>k !=c).length d2) e,trivial⟩,H⟩
    ·clear H2;rintro ⟨B2,d2⟩ u w15 H;refine aa (cz _) ?_;refine H.load 1 rfl eu rfl ?_;refine H.aX tj rfl ?_;clear H;intro g7 w16 H;refine H.cf 2 tj rfl rfl (by omega) (by omega) ?_;clear H;intro B3 d3 w17 H;refine aa (cz _) ?_;refine H.store 1 rfl pY (by show 1<2;decide) rfl ?_;clear H;intro w18 H;have e0:hs.length+1=(hs++[Value.slice B2 (x.filter fun k=>k !=c).length d2]).length:=by simp
     obtain ⟨S2,H3,hS2⟩:=H.zA hS';rw[← u3 hx] at H3;rw[e0] at H3;exact ⟨(B3,d3,_,S2),trivial,⟨by rw[← e0];omega,hS2⟩,H3⟩
   ·clear H;rintro ⟨B3,d3,hs3,S2⟩ u w14 ⟨⟨hn1,hS2⟩,H⟩;exact ⟨(i+1,B3,d3,hs3,S2),by show R.length - (i+1)<R.length - i;omega,⟨up (by omega),trivial⟩,⟨by show i+1≤R.length;omega,hn1,hS2⟩,H⟩
  ·have e:R.take i=R:=List.take_of_length_le (by omega);rw[e] at H;exact ⟨(B,db,hs,S'),trivial,hS',H⟩
 ·clear H2;rintro ⟨B,db,hs,S'⟩ u w13 ⟨hS',H⟩;refine H.ai 0 rfl aL az ?_;refine H.storeAll 2 rfl az rfl (fun v hv=>dc v hv) ?_;clear H;intro w14 H;refine H.ai 2 rfl aL az ?_;refine ⟨rfl,?_⟩;exact ⟨_,rfl,sa H 1 rfl (H.ro 0 rfl) fun g hg=>⟨H.rlt _ (.head _) g hg,.inl (hS' g hg)⟩⟩
theorem GA:kQ prog 221 3 3 eW eW (.int .i64 0):=⟨underlying221,Np,mD,by kernel_rfl⟩
def zJ (l:List (Int × Int))(f:Int→Nat):Prop:=∀ c,bR l c=if f c=0 then none else some ((f c:Nat):Int)
theorem zJ.get {l:List (Int × Int)}{f:Int→Nat}(h:zJ l f)(k:Int):((bR l k).map eW).getD (.int .i64 0)=.int .i64 ((f k:Nat):Int):=by
 rw[h k];by_cases hk:f k=0
 ·rw[if_pos hk,hk];rfl
 ·rw[if_neg hk];rfl
theorem zJ.add {l:List (Int × Int)}{f g:Int→Nat}(h:zJ l f){k:Int}(hg:∀ c,g c=if c=k then f k+1 else f c):zJ (dS l k ((f k+1:Nat):Int)) g:=fun c=>by
 rw[e8,hg c];by_cases hc:c=k
 ·rw[if_pos hc,if_pos hc,if_neg (by omega)]
 ·rw[if_neg hc,if_neg hc];exact h c
theorem zJ.eq {l:List (Int × Int)}{f g:Int→Nat}(h:zJ l f)(hg:∀ c,g c=f c):zJ l g:=fun c=>by rw[hg c];exact h c
theorem zJ.mem {l:List (Int × Int)}{f:Int→Nat}(h:zJ l f)(hn:(eI l).Nodup){a b:Int}:(a,b) ∈ l↔b=f a∧0<f a:=by
 constructor
 ·intro hm;have:=jy hn hm;rw[h a] at this;split at this
  ·cases this
  ·injection this with this;exact ⟨this.symm,by omega⟩
 ·rintro ⟨rfl,hp⟩;refine Dz ?_;rw[h a,if_neg (by omega)]
def lh (R:aZ)(i:Nat)(x:List Int)(j:Nat)(c:Int):Nat:=dT (R.take i) c+if c ∈ x.take j then 1 else 0
theorem zK (R:aZ)(i:Nat)(x:List Int)(c:Int):lh R i x 0 c=dT (R.take i) c:=by simp[lh]
theorem zL {R:aZ}{i:Nat}{x:List Int}(hx:R[i]?=some x)(c:Int):dT (R.take (i+1)) c=lh R i x x.length c:=by
 unfold lh dT;rw[List.take_length,List.take_add_one,hx,List.countP_append];by_cases h:c ∈ x <;> simp[h]
theorem zM (R:aZ)(i:Nat){x:List Int}(hn:x.Nodup){j:Nat}{k:Int}(hk:x[j]?=some k)(c:Int):lh R i x (j+1) c=if c=k then lh R i x j k+1 else lh R i x j c:=by
 have htk:x.take (j+1)=x.take j++[k]:=by rw[List.take_add_one,hk];rfl
 have hkn:k ∉ x.take j:=fun h=>by
  obtain ⟨m,hm,he⟩:=List.getElem_of_mem h;rw[List.length_take] at hm;rw[List.getElem_take] at he;have h1:x[m]?=some k:=by rw[List.getElem?_eq_getElem (by omega),he]
  have:=(List.getElem?_inj (by omega) hn).1 (h1.trans hk.symm);omega
 unfold lh;rw[htk];by_cases hc:c=k
 ·subst hc;rw[if_pos rfl,if_pos (List.mem_append_right _ (.head _)),if_neg hkn]
 ·rw[if_neg hc];have:(c ∈ x.take j++[k])↔c ∈ x.take j:=by simp[hc]
  by_cases h:c ∈ x.take j
  ·rw[if_pos (this.2 h),if_pos h]
  ·rw[if_neg (fun h'=>h (this.1 h')),if_neg h]
theorem Bg (R:aZ)(c:Int):dT R c≤R.length:=List.countP_le_length
theorem Ey (R:aZ)(i:Nat)(x:List Int)(j:Nat)(c:Int):lh R i x j c≤R.length+1:=by
 have:=Bg (R.take i) c;rw[List.length_take] at this;unfold lh;split <;> omega
def u5 (R:aZ)(D:List (Int × Int))(b:Int):Prop:=(b<0∧D=[])∨(0≤b∧0<dT R b∧∀ p ∈ D,dT R p.1<dT R b∨(dT R p.1=dT R b∧b≤p.1))
theorem CE {R:aZ}{l:List (Int × Int)}{D:List (Int × Int)}{b:Int}(h:u5 R D b)(hl:zJ l (dT R))(hn:(eI l).Nodup)(hD:∀ p ∈ l,p ∈ D)(hne:∃ r ∈ R,r≠[]):o_ R b:=by
 obtain ⟨r,hr,hre⟩:=hne;obtain ⟨k,hk⟩:=List.exists_mem_of_ne_nil r hre;have hp:0<dT R k:=wa.2 ⟨r,hr,hk⟩;have hkD:=hD _ ((hl.mem hn).2 ⟨rfl,hp⟩);rcases h with ⟨_,rfl⟩ | ⟨_,hb,hall⟩
 ·cases hkD
 ·refine ⟨hb,fun d=>?_⟩;rcases Nat.eq_zero_or_pos (dT R d) with h0 | h0
  ·left;omega
  ·exact hall _ (hD _ ((hl.mem hn).2 ⟨rfl,h0⟩))
theorem qT {R:aZ}{D:List (Int × Int)}{b a v:Int}(h:u5 R D b)(ha:0≤a)(hp:0<dT R a)(hc:b<0∨dT R b<dT R a∨(dT R a=dT R b∧a<b)):u5 R (D++[(a,v)]) a:=by
 refine .inr ⟨ha,hp,fun p hp'=>?_⟩;rcases List.mem_append.1 hp' with hp' | hp'
 ·rcases h with ⟨_,rfl⟩ | ⟨_,hb,hall⟩
  ·cases hp'
  ·have:=hall p hp';omega
 ·obtain rfl:=List.mem_singleton.1 hp';exact .inr ⟨rfl,Int.le_refl _⟩
theorem u6 {R:aZ}{D:List (Int × Int)}{b a v:Int}(h:u5 R D b)(hb:¬ b<0)(hc:¬ dT R b<dT R a)(hc2:¬ (dT R a=dT R b∧a<b)):u5 R (D++[(a,v)]) b:=by
 rcases h with ⟨h0,_⟩ | ⟨h0,hbp,hall⟩
 ·exact absurd h0 hb
 ·refine .inr ⟨h0,hbp,fun p hp'=>?_⟩;rcases List.mem_append.1 hp' with hp' | hp'
  ·exact hall p hp'
  ·obtain rfl:=List.mem_singleton.1 hp';show dT R a<dT R b∨(dT R a=dT R b∧b≤a);omega
theorem eg {P:Program}{t kt et:TypeId}{α β:Type}[DecidableEq α]{ka:α→Value}{vb:β→Value}{z:Value}{w:World}{kk:Value→World→Prop}{l:List (α × β)}{r:Nat}(hr:(aP ka vb r l).ok w)(W:kQ P t kt et ka vb z)(a:α){v:Value}(hv:((bR l a).map vb).getD z=v)(h:kk v w):gw P t (.map (some r)) (ka a) false w kk:=uM hr W a (by rw[hv];exact h)
theorem Jo:enters prog 124=true:=by kernel_rfl
theorem c124 (n:Nat)(cols:Int)(R:aZ)(v1:Value)(w:World)(hl:R.length≤1000000000)(hlr:∀ r ∈ R,r.length≤1000000000)(hright:ek n R)(h1:jT w v1 R) :
  bt prog 124 [mv cols v1] w fun v w'=>∃ b:Int,v=.int .i64 b∧((∃ r ∈ R,r≠[])→o_ R b)∧aT w w':=by
 refine ar (N:=61) func124 Jo rfl rfl rfl (by simp) ?_;have H:=Hp.aC w;obtain ⟨A,ca,va,rfl,ha,hra⟩:=h1.rH;refine ak (γ:=Nat) (fun g1=>[(1,(ah g1))]) (fun g1 w'=>Hp w ab w' [an g1 137 (mc cols (.slice A R.length ca))] []) ?_ ?_
 ·refine H.box 137 (mv _ _) (cs:=mc _ _) rfl ?_;clear H;intro g1 w1 H;exact ⟨g1,⟨rfl,trivial⟩,H⟩
 clear H;rintro g1 u w1 H;refine ak (γ:=Nat) (fun r=>[(3,.map (some r))]) (fun r w'=>Hp w ab w' [aP eW eW r [],an g1 137 (mc cols (.slice A R.length ca))] []) ?_ ?_
 ·refine H.makeMap eW eW ?_;clear H;intro r w4 H;exact ⟨r,⟨rfl,trivial⟩,H⟩
 clear H;rintro r u w3 H;refine ak (γ:=Unit) (fun _=>[(4,.int .i64 (-1))]) (fun _ w'=>Hp w ab w' [aP eW eW r [],an g1 137 (mc cols (.slice A R.length ca))] []) ⟨(),⟨rfl,trivial⟩,H⟩ ?_;clear H;rintro ⟨⟩ u w3 H;refine ak (γ:=List (Int × Int)) (fun _=>[]) (fun l w'=>zJ l (dT R)∧Hp w ab w' [aP eW eW r l,an g1 137 (mc cols (.slice A R.length ca))] []) ?_ ?_
 ·refine aa (cz _) ?_;refine H.load 1 rfl eu rfl ?_;refine ay underlying135 ?_;refine ax (γ:=Nat × List (Int × Int)) (fun (i,_)=>[(15,.int .i64 (i:Int))])
   (fun (i,l) w'=>(i≤R.length∧zJ l (dT (R.take i)))∧Hp w ab w' [aP eW eW r l,an g1 137 (mc cols (.slice A R.length ca))] [])
   (fun (i,_)=>R.length - i) (0,[]) ⟨rfl,trivial⟩ ⟨⟨Nat.zero_le _,fun c=>rfl⟩,H⟩ ?_
  clear H;rintro ⟨i,l⟩ u w4 ⟨⟨hi,hlk⟩,H⟩;refine au (fun h7=>?_) (fun h7=>?_)
  ·obtain ⟨x,hx⟩:∃ x,R[i]?=some x:=⟨_,List.getElem?_eq_getElem (by omega)⟩;obtain ⟨g0,o0,rfl⟩:=ha.A (by omega);obtain ⟨Bx,cx,hget,hsx⟩:=hra i x hx;have hxm:=List.mem_of_getElem? hx;have hxl:=hlr x hxm;have hxn:=(hright.rise x hxm).nodup;refine ak (γ:=List (Int × Int)) (fun _=>[]) (fun l w'=>zJ l (dT (R.take (i+1)))∧Hp w ab w' [aP eW eW r l,an g1 137 (mc cols (.slice (some ⟨g0,o0,none⟩) R.length ca))] []) ?_ ?_
   ·refine ak (γ:=Unit) (fun _=>[(6,.slice Bx x.length cx)]) (fun _ w'=>Hp w ab w' [aP eW eW r l,an g1 137 (mc cols (.slice (some ⟨g0,o0,none⟩) R.length ca))] []) ?_ ?_
    ·refine aq underlying135 (s:=1) fK i rfl (by omega) (o':=o0+i) (by omega) ?_;refine H.dn (i:=i) ha iD _ rfl hget ?_;exact ⟨(),⟨rfl,trivial⟩,H⟩
    clear H;rintro ⟨⟩ u w6 H;refine ay underlying75 ?_;refine ax (γ:=Nat × List (Int × Int)) (fun (j,_)=>[(21,.int .i64 (j:Int))]) (fun (j,l) w'=>(j≤x.length∧zJ l (lh R i x j))∧Hp w ab w' [aP eW eW r l,an g1 137 (mc cols (.slice (some ⟨g0,o0,none⟩) R.length ca))] []) (fun (j,_)=>x.length - j) (0,l) ⟨rfl,trivial⟩ ⟨⟨Nat.zero_le _,hlk.eq (zK R i x)⟩,H⟩ ?_;clear H hlk;rintro ⟨j,l⟩ u w8 ⟨⟨hj,hlk⟩,H⟩;refine au (fun h8=>?_) (fun h8=>?_)
    ·obtain ⟨k,hk⟩:∃ k,x[j]?=some k:=⟨_,List.getElem?_eq_getElem (by omega)⟩;obtain ⟨g2,o2,rfl⟩:=hsx.A (by omega);have hgk:(aA x)[j]?=some (.int .i64 k):=by rw[aA,List.getElem?_map,hk];rfl
     have hpl:=Ey R i x j k;have hst:=zM R i hxn hk;refine aq underlying75 (s:=1) a_ j rfl (by omega) (o':=o2+j) (by omega) ?_;refine H.dn (i:=j) hsx aE _ rfl hgk ?_;refine eg (H.get 0 rfl) GA k (hlk.get k) ?_;have hwr:IntKind.i64.wrap (((lh R i x j k:Nat):Int)+1)=((lh R i x j k+1:Nat):Int):=by rw[aH (by omega) (by omega)];rfl
     refine qP (congrArg (Value.int .i64) hwr) (H.iw 0 rfl GA k ((lh R i x j k+1:Nat):Int) ?_);clear H;intro w9 H;exact ⟨(j+1,_),by show x.length - (j+1)<x.length - j;omega,⟨up (by omega),trivial⟩,⟨by show j+1≤x.length;omega,hlk.add hst⟩,H⟩
    ·have:j=x.length:=by omega
     subst this;exact ⟨l,trivial,hlk.eq (zL hx),H⟩
   ·clear H hlk;rintro l2 u w6 ⟨hlk,H⟩;exact ⟨(i+1,l2),by show R.length - (i+1)<R.length - i;omega,⟨up (by omega),trivial⟩,⟨by show i+1≤R.length;omega,hlk⟩,H⟩
  ·have:i=R.length:=by omega
   subst this;rw[List.take_length] at hlk;exact ⟨l,trivial,hlk,H⟩
 clear H;rintro l u w4 ⟨hlk,H⟩;have hnd:=oY (H.get 0 rfl) mD;have hcl:=Bg R;refine ak (γ:=Int) (fun b=>[(4,.int .i64 b)]) (fun b w'=>((∃ r ∈ R,r≠[])→o_ R b)∧aT w w') ?_ ?_
 ·refine H.rangeMap (k0:=3) (e0:=3) underlying221 ?_;clear H;intro r2 w5 H;refine ax (γ:=Int × List (Int × Int)) (fun (b,_)=>[(4,.int .i64 b)])
   (fun (b,D) w'=>(u5 R D b∧D.Nodup∧∀ p ∈ D,p ∈ l)∧Hp w ab w' [o5 eW eW r r2 l D,an g1 137 (mc cols (.slice A R.length ca))] [])
   (fun (_,D)=>l.length - D.length) (-1,[]) ⟨rfl,trivial⟩ ⟨⟨.inl ⟨by decide,rfl⟩,List.nodup_nil,by simp⟩,H⟩ ?_
  clear H;rintro ⟨b,D⟩ u w6 ⟨⟨hb,hDn,hDl⟩,H⟩;refine H.vQ 0 rfl mD mD (fun hall=>?_) (fun a v w7 hm hnm H2=>?_)
  ·refine af rfl ?_;exact ⟨b,⟨rfl,trivial⟩,fun hne=>CE hb hlk hnd hall hne,H.keeps⟩
  ·clear H;have H:=H2;clear H2;obtain ⟨rfl,hp⟩:=(hlk.mem hnd).1 hm;refine ag rfl ?_;have ha0:0≤a:=by obtain ⟨r',hr',hk⟩:=wa.1 hp;exact (hright.rng r' hr' a hk).1
   have hlen:D.length<l.length:=by
    have:=kB (a:=D++[(a,((dT R a:Nat):Int))]) (b:=l) (by
     rw[List.nodup_append];refine ⟨hDn,by simp,fun x hx y hy=>?_⟩;obtain rfl:=List.mem_singleton.1 hy;exact fun e=>hnm (e ▸ hx)) (fun k hk=>by
     rcases List.mem_append.1 hk with hk | hk
     ·exact hDl k hk
     ·obtain rfl:=List.mem_singleton.1 hk;exact hm)
    simp at this;omega
   have hnext:(D++[(a,((dT R a:Nat):Int))]).Nodup∧(∀ p ∈ D++[(a,((dT R a:Nat):Int))],p ∈ l):=by
    refine ⟨?_,fun k hk=>?_⟩
    ·rw[List.nodup_append];refine ⟨hDn,by simp,fun x hx y hy=>?_⟩;obtain rfl:=List.mem_singleton.1 hy;exact fun e=>hnm (e ▸ hx)
    ·rcases List.mem_append.1 hk with hk | hk
     ·exact hDl k hk
     ·obtain rfl:=List.mem_singleton.1 hk;exact hm
   refine ak (γ:=Unit) (fun _=>[(9,.int .i64 a),(10,.int .i64 ((dT R a:Nat):Int))]) (fun _ w'=>Hp.cl H w') ?_ ?_
   ·refine nn (H.get 0 rfl) ?_;exact ⟨(),⟨rfl,rfl,trivial⟩,H⟩
   rintro ⟨⟩ u w8 H1;replace H:Hp _ _ _ _ _:=H1;clear H1;have hca:=hcl a;have hcb:=hcl b;refine au (fun h2=>?_) (fun h2=>?_)
   ·refine ag (decide_eq_true (by assumption)) ?_
    iterate 4 refine ag (decide_eq_true (by assumption)) ?_
    iterate 9 refine ag rfl ?_
    exact ⟨(a,D++[(a,((dT R a:Nat):Int))]),by show l.length - (D++[(a,((dT R a:Nat):Int))]).length<l.length - D.length;simp;omega,⟨rfl,trivial⟩,⟨qT hb ha0 hp (by omega),hnext⟩,H⟩
   ·refine af (decide_eq_false (by assumption)) ?_
    iterate 2 refine af (decide_eq_false (by assumption)) ?_
    refine eg (pK (H.get 0 rfl)) GA b (hlk.get b) ?_
    iterate 2 refine af (decide_eq_false (by assumption)) ?_
    refine au (fun h30=>?_) (fun h30=>?_)
    ·refine ag (decide_eq_true (by assumption)) ?_
     iterate 6 refine ag (decide_eq_true (by assumption)) ?_
     refine ag rfl ?_;exact ⟨(a,D++[(a,((dT R a:Nat):Int))]),by show l.length - (D++[(a,((dT R a:Nat):Int))]).length<l.length - D.length;simp;omega,⟨rfl,trivial⟩,⟨qT hb ha0 hp (by omega),hnext⟩,H⟩
    ·refine af (decide_eq_false (by assumption)) ?_
     iterate 2 refine af (decide_eq_false (by assumption)) ?_
     refine eg (pK (H.get 0 rfl)) GA b (hlk.get b) ?_
     iterate 2 refine af (decide_eq_false (by assumption)) ?_
     refine cr (fun h46=>?_) (fun h46=>?_)
     ·refine ag (beq_iff_eq.2 (by assumption)) ?_;refine ag (beq_iff_eq.2 (by assumption)) ?_;refine af (decide_eq_false (by assumption)) ?_;refine ag (beq_iff_eq.2 (by assumption)) ?_;refine af (decide_eq_false (by assumption)) ?_;refine au (fun h52=>?_) (fun h52=>?_)
      ·exact ⟨(a,D++[(a,((dT R a:Nat):Int))]),by show l.length - (D++[(a,((dT R a:Nat):Int))]).length<l.length - D.length;simp;omega,⟨rfl,trivial⟩,⟨qT hb ha0 hp (by omega),hnext⟩,H⟩
      ·exact ⟨(b,D++[(a,((dT R a:Nat):Int))]),by show l.length - (D++[(a,((dT R a:Nat):Int))]).length<l.length - D.length;simp;omega,⟨rfl,trivial⟩,⟨u6 hb (by omega) (by omega) (by omega),hnext⟩,H⟩
     ·refine af (beq_eq_false_iff_ne.2 (by assumption)) ?_;refine af (beq_eq_false_iff_ne.2 (by assumption)) ?_;refine af (decide_eq_false (by assumption)) ?_;refine af (beq_eq_false_iff_ne.2 (by assumption)) ?_;refine af (decide_eq_false (by assumption)) ?_;refine af rfl ?_;exact ⟨(b,D++[(a,((dT R a:Nat):Int))]),by show l.length - (D++[(a,((dT R a:Nat):Int))]).length<l.length - D.length;simp;omega,⟨rfl,trivial⟩,⟨u6 hb (by omega) (by omega) (by omega),hnext⟩,H⟩
 ·clear H;rintro b u w5 ⟨hb,hk⟩;exact ⟨b,rfl,hb,hk⟩
def Bh (cols:Int)(R:aZ)(G:List Int)(e:Int):Prop:=
 (cA cols R=false∧G=[]∧e=1)∨(cA cols R=true∧gS R=true∧G=[]∧e=7)∨(cA cols R=true∧gS R=false∧e=0∧∃ l,mB R l∧G=a6 cols.toNat l)
theorem yd {R:aZ}(h:[] ∉ R)(hp:0<R.length):∃ r ∈ R,r≠[]:=by
 cases R with
 | nil=>simp at hp
 | cons r R=>exact ⟨r,.head _,fun e=>h (by rw[e];exact .head _)⟩
theorem wj {R:aZ}{c:Int}(h:[] ∉ R):[] ∉ aI R c:=fun hm=>h (List.mem_filter.1 hm).1
theorem Jp:enters prog 121=true:=by kernel_rfl
theorem Nu (cols:Int)(R:aZ)(v1:Value)(S:Nat→Prop)(w:World)(hl:R.length≤100000000)(hlr:∀ r ∈ R,r.length≤1000000000)(h1:er S v1 R w)(hS:∀ g,S g→g<w.heap.size) :
  bt prog 121 [mv cols v1] w fun v w'=>∃ B d G e,v=.tuple #[.slice B G.length d,.int .i64 e]∧Bh cols R G e∧eX w w' (own 3 1 (.slice B G.length d) G.length (aA G)):=by
 refine ar (N:=33) func121 Jp rfl rfl rfl (by simp) ?_;have H:=pa h1 hS;have h1':jT w v1 R:=bf.mono h1 hS;obtain ⟨A,ca,hv⟩:=h1.form;subst hv;refine ak (γ:=Nat) (fun g1=>[(1,(ah g1))]) (fun g1 w'=>Hp w ab w' [an g1 137 (mc cols (.slice A R.length ca))] [bf S (.slice A R.length ca) R]) ?_ ?_
 ·refine H.box 137 (mv _ _) (cs:=mc _ _) rfl ?_;clear H;intro g1 w1 H;exact ⟨g1,⟨rfl,trivial⟩,H⟩
 clear H;rintro g1 u w1 H;refine aw (fun w'=>(cA cols R=true∧gS R=false)∧Hp w ab w' [an g1 137 (mc cols (.slice A R.length ca))] [bf S (.slice A R.length ca) R]) ?_ ?_
 ·refine H.ai 0 rfl aL az ?_;refine aj (Ee cols R _ _ (by omega) hlr (h1'.same H.keeps)) ?_;rintro _ w3 ⟨rfl,hk⟩;replace H:=H.same hk;clear hk;refine aF (fun hr=>?_) (fun hr=>?_)
  ·have hno:cA cols R=false:=by simpa using hr
   exact ⟨none,0,[],1,rfl,.inl ⟨hno,rfl,rfl⟩,((H.bx 3 1).only).out⟩
  ·have hr':cA cols R=true:=by simpa using hr
   refine H.ai 0 rfl aL az ?_;refine aj (LF cols R _ _ (by omega) (h1'.same H.keeps)) ?_;rintro _ w4 ⟨rfl,hk⟩;replace H:=H.same hk;clear hk;refine aF (fun hb=>?_) (fun hb=>?_)
   ·have hb':gS R=true:=by simpa using hb
    exact ⟨none,0,[],7,rfl,.inr (.inl ⟨hr',hb',rfl,rfl⟩),((H.bx 3 1).only).out⟩
   ·have hb':gS R=false:=by simpa using hb
    exact ⟨(),trivial,⟨hr',hb'⟩,H⟩
 clear H;rintro ⟨⟩ u w2 ⟨⟨hr',hb'⟩,H⟩;have hright:=gi.1 hr';obtain ⟨n,rfl⟩:∃ n:Nat,cols=n:=⟨cols.toNat,by have:=hright.ge;omega⟩;have hn4:n≤4000:=by have:=hright.le;omega
 have hbare:[] ∉ R:=fun h=>by rw[j_.2 h] at hb';cases hb'
 refine ak (γ:=Unit) (fun _=>[(4,.slice none 0 0)]) (fun _ w'=>Hp.cl H w') ⟨(),⟨rfl,trivial⟩,H⟩ ?_;rintro ⟨⟩ u w2 H1;replace H:Hp _ _ _ _ _:=H1;clear H1;refine ak (γ:=Nat) (fun g5=>[(5,(ah g5))]) (fun g5 w'=>Hp w ab w' [an g5 137 (mc n (.slice A R.length ca)),an g1 137 (mc n (.slice A R.length ca))] [bf S (.slice A R.length ca) R]) ?_ ?_
 ·refine H.ai 0 rfl aL az ?_;refine H.alloc 137 dH rfl ?_;clear H;intro g5 w3 H;refine H.storeAll 0 rfl az rfl (fun v hv=>dc v hv) ?_;clear H;intro w4 H;exact ⟨g5,⟨rfl,trivial⟩,H⟩
 clear H;rintro g5 u w3 H;replace H:=H.bx 3 1;refine ak (γ:=Option Addr × Nat × List Int) (fun (B,d,l)=>[(4,.slice B l.length d)]) (fun (B,d,l) w'=>(mB R l∧l.length≤R.length)∧Hp w ab w' [own 3 1 (.slice B l.length d) l.length (aA l),an g1 137 (mc n (.slice A R.length ca))] []) ?_ ?_
 ·refine ax (γ:=Option Addr × Nat × List Int × aZ × Value × (Nat→Prop)) (fun (B,d,l,_)=>[(4,.slice B l.length d)])
   (fun (B,d,l,Q,v,S') w'=>((∀ rest,mB Q rest→mB R (l++rest))∧ek n Q∧[] ∉ Q∧l.length+Q.length≤R.length)∧Hp w ab w' [own 3 1 (.slice B l.length d) l.length (aA l),an g5 137 (mc n v),an g1 137 (mc n (.slice A R.length ca))] [bf S' v Q])
   (fun (_,_,_,Q,_)=>Q.length) (none,0,[],R,.slice A R.length ca,S) ⟨rfl,trivial⟩ ⟨⟨fun rest h=>h,hright,hbare,by simp⟩,H⟩ ?_
  clear H;rintro ⟨B,d,l,Q,v,S'⟩ u w4 ⟨⟨hg,hQr,hQb,hQl⟩,H⟩;obtain ⟨A',c',hv'⟩:=(H.ro 0 rfl).form;subst hv';have hQlr:∀ r ∈ Q,r.length≤1000000000:=fun r hr=>by have:=oe hQr hr;omega
  refine aa (cz _) ?_;refine H.load 1 rfl eu rfl ?_;refine ay underlying135 ?_;refine au (fun h7=>?_) (fun h7=>?_)
  ·refine ak (γ:=Int) (fun c=>[(6,.int .i64 c)]) (fun c w'=>o_ Q c∧Hp w ab w' [own 3 1 (.slice B l.length d) l.length (aA l),an g5 137 (mc n (.slice A' Q.length c')),an g1 137 (mc n (.slice A R.length ca))] [bf S' (.slice A' Q.length c') Q]) ?_ ?_
   ·refine H.ai 1 rfl aL az ?_;refine aj (c124 n n Q _ _ (by omega) hQlr hQr (bf.mono (H.ro 0 rfl) (H.rlt _ (.head _)))) ?_;rintro _ w5 ⟨c,rfl,hb,hk⟩;replace H:=H.same hk;clear hk;exact ⟨c,⟨rfl,trivial⟩,hb (yd hQb (by omega)),H⟩
   clear H;rintro c u w5 ⟨hbusy,H⟩;have hwl:=zw (AZ hbusy);refine H.fg [an g5 137 (mc n (.slice A' Q.length c'))] (fun u H=>(H.front 1 rfl).only) eS (by kernel_rfl) ?_;clear H;intro w6 H;refine H.aX dy rfl ?_;clear H;intro g7 w7 H;refine ⟨.inl ((H.front 2 rfl).only),?_⟩;refine H.cf 0 dy rfl rfl (by omega) (by omega) ?_;clear H;intro B2 d2 w8 H;refine ⟨.inl ((H.front 1 rfl).only),?_⟩;refine quiet _ (fun w H=>H.ai 0 rfl aL az ae) ?_;refine aj (oD n Q c _ S' _ (by omega) hQlr (H.ro 0 rfl) (H.rlt _ (.head _))) ?_;rintro _ w9 ⟨v',rfl,hn⟩;obtain ⟨S2,H2,hS2⟩:=H.fW (.head _) hn;clear H;have H:=H2;clear H2;obtain ⟨A2,c2,hv2⟩:=(H.ro 0 rfl).form;subst hv2;refine ⟨.inl ((H.front 1 rfl).only).ao,?_⟩;refine H.storeAll 1 rfl az rfl (fun v hv=>dc v hv) ?_;clear H;intro w10 H;refine ⟨.inr rfl,?_⟩;have e1:l.length+1=(l++[c]).length:=by simp
   have e2:aA l++[Value.int .i64 c]=aA (l++[c]):=by rw[hY]
   rw[e1,e2] at H;refine ⟨(B2,d2,l++[c],aI Q c,_,S2),hwl,⟨by rw[e1];rfl,trivial⟩,⟨fun rest hr=>?_,oQ hQr c,wj hQb,by rw[← e1];omega⟩,H.tm⟩;rw[List.append_assoc];exact hg _ (.cons hbusy hr)
  ·obtain rfl:Q=[]:=List.length_eq_zero_iff.1 (by omega);have:=hg [] .nil;rw[List.append_nil] at this;exact ⟨(B,d,l),⟨rfl,trivial⟩,⟨this,by simpa using hQl⟩,((H.front 1 rfl).forget).tm.ep (by simp)⟩
 ·clear H;rintro ⟨B,d,l⟩ u w4 ⟨⟨hg,hll⟩,H⟩;refine aa (iE _) ?_;refine H.load 1 rfl aE rfl ?_;refine aj (c127 n l B d _ (by omega) (by omega) (bE (H.get 0 rfl))) ?_;rintro _ w5 ⟨B2,d2,rfl,hn⟩;replace H:=H.bD hn;exact ⟨B2,d2,a6 n l,0,rfl,.inr (.inr ⟨hr',hb',rfl,l,hg,by rw[Int.toNat_natCast]⟩),(H.only).out⟩
end Go.Proofs.YtpjihhgjbbihkaaGreatDoor
