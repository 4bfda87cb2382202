import Derived.Tactics
import Derived.Deep.Quiet
import Derived.Orders
import Derived.Scope
import Derived.Laws.Rows
import Derived.Laws.OwnMore
import Derived.Laws.MakeOwn
import Derived.Laws.Entries
import Derived.Laws.Small
import Derived.Laws.BitsAllLaws
import Derived.Laws.BitsLemmas
import Derived.Maps.AppendAt
import Derived.MapKept
import Derived.DeepKeys5
import Derived.Laws.Cells
import Derived.Laws.BytesString
import Derived.Laws.RangeAny
import Derived.Laws.RangeString
import Derived.Laws.Strings
import Derived.Maps.RangeRun
import Derived.Laws.Slices
import Derived.Test.YtpjihhgjbbihkaaGreatDoorChecked
import Derived.KernelRfl
namespace Go.Dk
set_option maxRecDepth 100000
def aN (n k:Nat):List Nat:=(List.range k).filter fun p=>n.testBit p
theorem iq (n k:Nat):aN n (k+1)=aN n k++(if n.testBit k then [k] else []):=by
 unfold aN;rw[List.range_succ,List.filter_append];by_cases h:n.testBit k <;> simp[h]
theorem b_ {n k p:Nat}:p ∈ aN n k↔p<k∧n.testBit p=true:=by
 unfold aN;simp
theorem eG (n k:Nat):(aN n k).length≤k:=by
 unfold aN;have:=List.length_filter_le (fun p=>n.testBit p) (List.range k);simpa using this
abbrev cD (n:Nat):List Nat:=aN n 256
def mkSet (f:Nat→Bool):Nat→Nat
 | 0=>0
 | k+1=>mkSet f k+if f k then 2^k else 0
theorem fw (f:Nat→Bool)(k:Nat):mkSet f k<2^k:=by
 induction k with
 | zero=>simp[mkSet]
 | succ k ih=>simp only[mkSet];split <;> (rw[Nat.pow_succ];omega)
theorem cT (f:Nat→Bool)(k p:Nat):(mkSet f k).testBit p=(decide (p<k)&&f p):=by
 induction k with
 | zero=>simp[mkSet]
 | succ k ih=>
  simp only[mkSet];have hlt:=fw f k;by_cases hf:f k
  ·simp only[hf,if_true];have e:mkSet f k+2^k=mkSet f k |||2^k:=by
    rw[Nat.or_comm];have:=Nat.two_pow_add_eq_or_of_lt hlt 1;simp at this;omega
   rw[e,Nat.testBit_or,ih,Nat.testBit_two_pow];by_cases h1:p<k
   ·have:¬ k=p:=by omega
    simp[h1,this,Nat.lt_succ_of_lt h1]
   ·by_cases h2:k=p
    ·subst h2;simp[hf]
    ·have:¬ p<k+1:=by omega
     simp[h1,h2,this]
  ·simp only[hf,if_false,Bool.false_eq_true,Nat.add_zero];rw[ih];by_cases h1:p<k
   ·simp[h1,Nat.lt_succ_of_lt h1]
   ·by_cases h2:p=k
    ·subst h2;simp[hf]
    ·have:¬ p<k+1:=by omega
     simp[h1,this]
abbrev rj (f:Nat→Bool):Nat:=mkSet f 256
theorem dm (f:Nat→Bool):rj f<2^256:=fw f 256
theorem bK (f:Nat→Bool)(p:Nat):(rj f).testBit p=(decide (p<256)&&f p):=cT f 256 p
theorem kg {n p:Nat}(hn:n<2^256)(hp:256≤p):n.testBit p=false:=
 Nat.testBit_lt_two_pow (Nat.lt_of_lt_of_le hn (Nat.pow_le_pow_right (by decide) hp))
theorem nT {n m:Nat}(hn:n<2^256)(hm:m<2^256)(h:∀ p,p<256→n.testBit p=m.testBit p):n=m:=by
 apply Nat.eq_of_testBit_eq;intro p;by_cases hp:p<256
 ·exact h p hp
 ·rw[kg hn (by omega),kg hm (by omega)]
theorem H7 {a b:Nat}(ha:a<2^256)(hb:b<2^256):a |||b<2^256:=Nat.or_lt_two_pow ha hb
def bT (a b:Nat):Nat:=rj fun p=>a.testBit p&& !b.testBit p
theorem bW {a:Nat}(ha:a<2^256)(b p:Nat):(bT a b).testBit p=(a.testBit p&& !b.testBit p):=by
 unfold bT;rw[bK];by_cases hp:p<256
 ·simp[hp]
 ·simp[hp,kg ha (Nat.le_of_not_lt hp)]
theorem px (a b:Nat):bT a b<2^256:=dm _
def bn (n:Nat):Nat:=rj fun p=>decide (p<2^n)
def cF (n i:Nat)(one:Bool):Nat:=rj fun p=>n.testBit p&&(p.testBit i==one)
def fQ:List Nat→Nat
 | []=>0
 | p::l=>2^p |||fQ l
theorem fC (l:List Nat)(q:Nat):(fQ l).testBit q=decide (q ∈ l):=by
 induction l with
 | nil=>simp[fQ]
 | cons p l ih=>
  simp only[fQ,Nat.testBit_or,ih,Nat.testBit_two_pow,List.mem_cons];rw[Bool.eq_iff_iff];simp;constructor
  ·rintro (h | h)
   ·exact .inl h.symm
   ·exact .inr h
  ·rintro (h | h)
   ·exact .inl h.symm
   ·exact .inr h
theorem kh (l:List Nat)(p:Nat):fQ (l++[p])=fQ l |||2^p:=by
 apply Nat.eq_of_testBit_eq;intro q;rw[fC,Nat.testBit_or,fC,Nat.testBit_two_pow,Bool.eq_iff_iff];simp;constructor
 ·rintro (h | h)
  ·exact .inl h
  ·exact .inr h.symm
 ·rintro (h | h)
  ·exact .inl h
  ·exact .inr h.symm
theorem py {l:List Nat}{k:Nat}(h:∀ p ∈ l,p<k):fQ l<2^k:=by
 induction l with
 | nil=>simp[fQ];exact Nat.two_pow_pos k
 | cons p l ih=>exact Nat.or_lt_two_pow (Nat.pow_lt_pow_right (by decide) (h p (.head _))) (ih fun q hq=>h q (.tail _ hq))
theorem cB (p i:Nat):((((p / 2^i &&&1:Nat):Int)==1):Bool)=p.testBit i:=by
 rw[Nat.testBit_eq_decide_div_mod_eq,Nat.and_one_is_mod];generalize p / 2^i=q;rw[Bool.eq_iff_iff,beq_iff_eq,decide_eq_true_eq];omega
theorem FV (n:Nat)(hn:n≤8):bn n=fQ (List.range (2^n)):=by
 have h2:2^n≤2^8:=Nat.pow_le_pow_right (by decide) hn;refine nT (dm _) (py (fun p hp=>by have:=List.mem_range.1 hp;omega)) fun p hp=>?_;rw[fC,bn,bK];simp[hp]
theorem Dn (n i:Nat)(one:Bool):cF n i one=fQ ((cD n).filter fun p=>p.testBit i==one):=by
 refine nT (dm _) (py (fun p hp=>by have:=(b_.1 (List.mem_filter.1 hp).1).1;omega)) fun p hp=>?_;rw[fC,cF,bK,Bool.eq_iff_iff];simp[hp,b_]
theorem xf (n i:Nat)(one:Bool):cF n i one<2^256:=dm _
theorem jW (n:Nat):bn n<2^256:=dm _
theorem ec {n i:Nat}(hn:n<256)(hi:8≤i):n.testBit i=false:=
 Nat.testBit_lt_two_pow (Nat.lt_of_lt_of_le hn (show 2^8≤2^i from Nat.pow_le_pow_right (by decide) hi))
theorem FW {a b:Nat}(ha:a<256)(hb:b<256)(h:∀ i,i<8→a.testBit i=b.testBit i):a=b:=by
 apply Nat.eq_of_testBit_eq;intro i;by_cases hi:i<8
 ·exact h i hi
 ·rw[ec ha (by omega),ec hb (by omega)]
theorem ir {m:Nat}(hm:m<256)(i:Nat):(255 - m).testBit i=(decide (i<8)&& !m.testBit i):=by
 have e:255 - m=2^8 - (m+1):=by omega
 rw[e,Nat.testBit_two_pow_sub_succ (by omega)]
theorem df {a:Nat}(ha:a<256)(b:Nat):a &&&b<256:=Nat.lt_of_le_of_lt Nat.and_le_left ha
theorem sq (a:Nat){b:Nat}(hb:b<256):a &&&b<256:=Nat.lt_of_le_of_lt Nat.and_le_right hb
theorem BP {a:Nat}(ha:a<256):a=0↔∀ i,i<8→a.testBit i=false:=by
 constructor
 ·rintro rfl i _;simp
 ·intro h;exact FW ha (by decide) fun i hi=>by rw[h i hi];simp
theorem FX {m v:Nat}(hm:m<256)(hv:v<256):v &&&(255 - m)=0↔v &&&m=v:=by
 rw[BP (df hv _)];constructor
 ·intro h;refine FW (df hv _) hv fun i hi=>?_;have:=h i hi;rw[Nat.testBit_and,ir hm] at this;rw[Nat.testBit_and];simp[hi] at this
  cases hvi:v.testBit i <;> simp_all
 ·intro h i hi;have:=congrArg (·.testBit i) h;simp only[Nat.testBit_and] at this;rw[Nat.testBit_and,ir hm]
  cases hvi:v.testBit i <;> simp_all
theorem Dp {m:Nat}(hm:m<256)(f:Nat→Bool)(h:∀ i,i<8→f i=m.testBit i):mkSet f 8=m:=by
 refine FW (fw f 8) hm fun i hi=>?_;rw[cT];simp[hi,h i hi]
theorem rk {f g:Nat→Bool}{k:Nat}(h:∀ i,i<k→f i=g i):mkSet f k=mkSet g k:=by
 induction k with
 | zero=>rfl
 | succ k ih=>rw[mkSet,mkSet,ih fun i hi=>h i (by omega),h k (by omega)]
theorem uz (f:Nat→Bool){k:Nat}(hk:k≤8):mkSet f k<256:=Nat.lt_of_lt_of_le (fw f k) (show 2^k≤2^8 from Nat.pow_le_pow_right (by decide) hk)
theorem sr {m n:Nat}(hm:m<256)(h:∀ i,n≤i→i<8→m.testBit i=false):m<2^n:=by
 refine Nat.lt_pow_two_of_testBit m fun i hi=>?_;by_cases h8:i<8
 ·exact h i hi h8
 ·exact ec hm (by omega)
theorem dB {m n i:Nat}(h:m<2^n)(hi:n≤i):m.testBit i=false:=
 Nat.testBit_lt_two_pow (Nat.lt_of_lt_of_le h (Nat.pow_le_pow_right (by decide) hi))
def mP (m v i:Nat):Nat:=if m.testBit i then (if v.testBit i then 1 else 0) else 2
def mi (m v k:Nat):List Nat:=(List.range k).map (mP m v)
abbrev lits (m v:Nat):List Nat:=mi m v 8
theorem jj (m v k:Nat):(mi m v k).length=k:=by simp[mi]
theorem xg (m v k:Nat):mi m v (k+1)=mi m v k++[mP m v k]:=by simp[mi,List.range_succ]
theorem xh {m v i:Nat}(hi:i<8):(lits m v)[i]?=some (mP m v i):=by simp[mi,hi]
theorem FY (m v i:Nat):mP m v i≤2:=by unfold mP;split <;> (try split) <;> omega
theorem pz {m v i:Nat}:mP m v i=2↔m.testBit i=false:=by unfold mP;cases m.testBit i <;> simp;split <;> omega
def xi (l:List Nat):Nat:=mkSet (fun i=>decide (l.getD i 2<2)) l.length
def xj (l:List Nat):Nat:=mkSet (fun i=>decide (l.getD i 2=1)) l.length
theorem y6 {m:Nat}(hm:m<256)(v:Nat):xi (lits m v)=m:=by
 unfold xi;rw[jj];refine Dp hm _ fun i hi=>?_;rw[List.getD_eq_getElem?_getD,xh hi];unfold mP
 cases m.testBit i <;> cases v.testBit i <;> simp
theorem y7 {m v:Nat}(hm:m<256)(hv:v<256):xj (lits m v)=v &&&m:=by
 unfold xj;rw[jj];refine Dp (df hv _) _ fun i hi=>?_;rw[List.getD_eq_getElem?_getD,xh hi,Nat.testBit_and];unfold mP
 cases m.testBit i <;> cases v.testBit i <;> simp
def dC (m v:Nat)(n:Int):Bool:=decide (0≤n)&&(decide (n≤8)&&(decide (m<2^n.toNat)&&(v &&&(255 - m)==0)))
theorem eh {m v:Nat}{n:Int}(hm:m<256)(hv:v<256):dC m v n=true↔0≤n∧n≤8∧m<2^n.toNat∧v &&&m=v:=by
 unfold dC;simp only[Bool.and_eq_true,decide_eq_true_eq,beq_iff_eq,FX hm hv]
def ba (m v n:Nat):Nat:=rj fun p=>decide (p<2^n)&&(p &&&m==v)
theorem pA (m v n:Nat):ba m v n<2^256:=dm _
theorem Dq (m v:Nat){n:Nat}(hn:n≤8):ba m v n=fQ ((List.range (2^n)).filter fun p=>p &&&m==v):=by
 have h2:2^n≤2^8:=Nat.pow_le_pow_right (by decide) hn;refine nT (dm _) (py (fun p hp=>by have:=List.mem_range.1 (List.mem_filter.1 hp).1;omega)) fun p hp=>?_;rw[fC,ba,bK,Bool.eq_iff_iff];simp[hp]
def uq (m v p:Nat):Bool:=(List.range 8).all fun i=> !m.testBit i||(v.testBit i==p.testBit i)
theorem AK {m v p:Nat}(hm:m<256)(hv:v &&&m=v):uq m v p=(p &&&m==v):=by
 rw[Bool.eq_iff_iff,uq,List.all_eq_true,beq_iff_eq];have hlt:v<256:=by rw[← hv];exact sq v hm
 constructor
 ·intro h;rw[← hv];refine FW (sq p hm) (sq v hm) fun i hi=>?_;have:=h i (List.mem_range.2 hi);rw[Nat.testBit_and,Nat.testBit_and]
  cases hmi:m.testBit i <;> simp_all
 ·intro h i hi;have:=congrArg (·.testBit i) h;rw[Nat.testBit_and] at this
  cases hmi:m.testBit i <;> simp_all
def FZ (m v i:Nat):UInt8:=if m.testBit i then (if v.testBit i then 49 else 48) else 45
def eV (m v n:Nat):List UInt8:=(List.range n).map (FZ m v)
theorem pB (m v n:Nat):(eV m v n).length=n:=by simp[eV]
theorem y8 (m v n:Nat):eV m v (n+1)=eV m v n++[FZ m v n]:=by simp[eV,List.range_succ]
def gL (b:UInt8):Bool:=b==45||b==48||b==49
def dJ (l:List UInt8)(k:Nat):Nat:=mkSet (fun i=>l.getD i 45 !=45) k
def dK (l:List UInt8)(k:Nat):Nat:=mkSet (fun i=>l.getD i 45==49) k
def bl (l:List UInt8):Bool:=decide (l.length≤8)&&l.all gL
theorem iU {m v:Nat}(hv:v &&&m=v)(p:Nat):p &&&m=v↔∀ i,m.testBit i=true→p.testBit i=v.testBit i:=by
 constructor
 ·intro h i hi;have:=congrArg (·.testBit i) h;simp only[Nat.testBit_and,hi,Bool.and_true] at this;exact this
 ·intro h;apply Nat.eq_of_testBit_eq;intro i;have hvi:=congrArg (·.testBit i) hv;simp only[Nat.testBit_and] at hvi;rw[Nat.testBit_and]
  cases hm:m.testBit i
  ·rw[hm] at hvi;simpa using hvi
  ·simp[h i hm]
theorem bA {m v n p:Nat}(hn:n≤8):(ba m v n).testBit p=true↔p<2^n∧p &&&m=v:=by
 have h2:2^n≤2^8:=Nat.pow_le_pow_right (by decide) hn;rw[ba,bK];simp;intro h _;omega
theorem Ip {m n i:Nat}(hm:m<2^n)(hi:m.testBit i=true):i<n:=by
 rcases Nat.lt_or_ge i n with h | h
 ·exact h
 ·rw[dB hm h] at hi;cases hi
theorem sub_lt {m v n:Nat}(hm:m<2^n)(hv:v &&&m=v):v<2^n:=by rw[← hv];exact Nat.lt_of_le_of_lt Nat.and_le_right hm
theorem h_ {a:Nat}:a=0↔∀ i,a.testBit i=false:=by
 constructor
 ·rintro rfl i;simp
 ·intro h;exact Nat.eq_of_testBit_eq fun i=>by rw[h i];simp
abbrev aZ:=List (List Int)
def oC (r:List Int):Prop:=r.Pairwise (· < ·)
instance (r:List Int):Decidable (oC r):=inferInstanceAs (Decidable (r.Pairwise (· < ·)))
structure ek (cols:Int) (R:aZ):Prop where
 rise:∀ r ∈ R,oC r
 rng:∀ r ∈ R,∀ k ∈ r,0≤k∧k<cols
 ge:0≤cols
 le:cols≤4000
theorem oC.nodup {r:List Int}(h:oC r):r.Nodup:=h.imp fun h=>by omega
def iu (a b:List Int):Bool:=a.all fun k=>decide (k ∈ b)
theorem jq {a b:List Int}:iu a b=true↔∀ k ∈ a,k ∈ b:=by simp[iu]
def lD (R:aZ):Option (aZ × Int):=(R.find? fun r=>r.length==1).map fun r=>(R.filter fun q=> !decide (r.headD 0 ∈ q),r.headD 0)
def qx (R:aZ)(i j:Nat):Bool:=(j !=i)&&iu (R.getD j []) (R.getD i [])&&(decide ((R.getD j []).length<(R.getD i []).length)||decide (j<i))
def xk (R:aZ):Option Nat:=(List.range R.length).find? fun i=>(List.range R.length).any (qx R i)
def lE (R:aZ):Option aZ:=(xk R).map R.eraseIdx
def bp (R:aZ)(c:Int):List Int:=((List.range R.length).filter fun i=>decide (c ∈ R.getD i [])).map (fun i:Nat=>(i:Int))
def xl (R:aZ)(c d:Int):Bool:=(d !=c)&&iu (bp R c) (bp R d)&&(decide ((bp R c).length<(bp R d).length)||decide (d<c))
def xm (cols:Nat)(R:aZ):Option Nat:=(List.range cols).find? fun c=> !(bp R c).isEmpty&&(List.range cols).any fun d=>xl R c d
def bh (R:aZ)(c:Int):aZ:=R.map fun r=>r.filter fun k=>k !=c
def jr (cols:Nat)(R:aZ):Option aZ:=(xm cols R).map fun c=>bh R c
theorem mj:∀ {a b:List Int},a.Nodup→(∀ k ∈ a,k ∈ b)→a.length≤b.length
 | [],b,_,_=>Nat.zero_le _
 | k::a,b,ha,h=>by
  obtain ⟨hk,ha'⟩:=List.nodup_cons.1 ha;have hb:k ∈ b:=h k (.head _);have hlt:=mj (b:=b.erase k) ha' fun x hx=>(List.mem_erase_of_ne (fun (e:x=k)=>hk (by rw[← e];exact hx))).2 (h x (.tail _ hx));rw[List.length_erase_of_mem hb] at hlt;have:=List.length_pos_of_mem hb;simp only[List.length_cons];omega
def dh (cols:Nat)(s:aZ × List Int):Option (aZ × List Int):=
 match lD s.1 with
 | some (R,k)=>some (R,s.2++[k])
 | none=>
  match lE s.1 with
  | some R=>some (R,s.2)
  | none=>(jr cols s.1).map fun R=>(R,s.2)
def cn (cols:Nat)(s:aZ × List Int):Nat→aZ × List Int
 | 0=>s
 | n+1=>(dh cols (cn cols s n)).getD (cn cols s n)
theorem run_stuck {cols:Nat}{s:aZ × List Int}{i:Nat}(h:dh cols (cn cols s i)=none):∀ j,i≤j→cn cols s j=cn cols s i:=by
 intro j hj
 induction j with
 | zero=>
  obtain rfl:i=0:=by omega
  rfl
 | succ j ih=>
  by_cases hij:i≤j
  ·show (dh cols (cn cols s j)).getD (cn cols s j)=_;rw[ih hij,h];rfl
  ·obtain rfl:i=j+1:=by omega
   rfl
theorem y9 {cols:Nat}{s:aZ × List Int}{i j:Nat}(hi:dh cols (cn cols s i)=none)(hj:dh cols (cn cols s j)=none):cn cols s i=cn cols s j:=by
 rcases Nat.le_total i j with h | h
 ·exact (run_stuck hi j h).symm
 ·exact run_stuck hj i h
def en (R:aZ):Nat:=R.length+(R.map List.length).sum
theorem eF (r:List Int)(R:aZ):en (r::R)=1+r.length+en R:=by
 unfold en;simp;omega
theorem xn (R:aZ)(p:List Int→Bool):en (R.filter p)≤en R:=by
 induction R with
 | nil=>simp
 | cons r R ih=>
  rw[List.filter_cons];split
  ·rw[eF,eF];omega
  ·rw[eF];omega
theorem su {R:aZ}{p:List Int→Bool}{r:List Int}(hr:r ∈ R)(hp:p r=false):en (R.filter p)<en R:=by
 induction R with
 | nil=>cases hr
 | cons q R ih=>
  rw[List.filter_cons,eF];rcases List.mem_cons.1 hr with rfl | hr
  ·rw[hp];simp only[Bool.false_eq_true,if_false];have:=xn R p;omega
  ·have:=ih hr;split
   ·rw[eF];omega
   ·omega
theorem y_ {R:aZ}{i:Nat}(h:i<R.length):en (R.eraseIdx i)<en R:=by
 induction R generalizing i with
 | nil=>simp at h
 | cons r R ih=>
  cases i with
  | zero=>rw[List.eraseIdx_cons_zero,eF];omega
  | succ i=>rw[List.eraseIdx_cons_succ,eF,eF];have:=ih (i:=i) (by simpa using h);omega
theorem BR (R:aZ)(c:Int):en (bh R c)≤en R:=by
 induction R with
 | nil=>simp[bh]
 | cons r R ih=>
  have:bh (r::R) c=(r.filter fun k=>k !=c)::bh R c:=rfl;rw[this,eF,eF];have:=List.length_filter_le (fun k=>k !=c) r;omega
theorem vz {R:aZ}{c:Int}{r:List Int}(hr:r ∈ R)(hc:c ∈ r):en (bh R c)<en R:=by
 induction R with
 | nil=>cases hr
 | cons q R ih=>
  have:bh (q::R) c=(q.filter fun k=>k !=c)::bh R c:=rfl;rw[this,eF,eF];rcases List.mem_cons.1 hr with rfl | hr
  ·have h1:(r.filter fun k=>k !=c).length<r.length:=by
    rw[List.length_filter_lt_length_iff_exists];exact ⟨c,hc,by simp⟩
   have:=BR R c;omega
  ·have:=ih hr;have:=List.length_filter_le (fun k=>k !=c) q;omega
theorem lF {R R':aZ}{k:Int}(h:lD R=some (R',k)):[k] ∈ R∧R'=R.filter fun q=> !decide (k ∈ q):=by
 unfold lD at h
 cases hf:R.find? fun r=>r.length==1 with
 | none=>rw[hf] at h;cases h
 | some r=>
  rw[hf] at h;injection h with h;injection h with h1 h2;have hl:=List.find?_some hf;have hm:=List.mem_of_find?_eq_some hf
  match r,hl with
  | [x],_=>
   have:x=k:=h2;subst this;exact ⟨hm,h1.symm⟩
theorem lG {R R':aZ}(h:lE R=some R'):∃ i j,i<R.length∧j<R.length∧j≠i∧(∀ k ∈ R.getD j [],k ∈ R.getD i [])∧R'=R.eraseIdx i:=by
 unfold lE at h
 cases hf:xk R with
 | none=>rw[hf] at h;cases h
 | some i=>
  rw[hf] at h;injection h with h;unfold xk at hf;have h1:=List.find?_some hf;have h2:=List.mem_of_find?_eq_some hf;obtain ⟨j,hj,hd⟩:=List.any_eq_true.1 h1;unfold qx at hd;simp only[Bool.and_eq_true,bne_iff_ne] at hd;exact ⟨i,j,List.mem_range.1 h2,List.mem_range.1 hj,hd.1.1,jq.1 hd.1.2,h.symm⟩
theorem j6 {R:aZ}{c i:Int}:i ∈ bp R c↔∃ n:Nat,n<R.length∧i=n∧c ∈ R.getD n []:=by
 unfold bp;simp only[List.mem_map,List.mem_filter,List.mem_range,decide_eq_true_eq];constructor
 ·rintro ⟨n,⟨h1,h2⟩,rfl⟩;exact ⟨n,h1,rfl,h2⟩
 ·rintro ⟨n,h1,rfl,h2⟩;exact ⟨n,⟨h1,h2⟩,rfl⟩
theorem lH {cols:Nat}{R R':aZ}(h:jr cols R=some R'):∃ c d:Nat,c<cols∧d<cols∧d≠c∧(∃ r ∈ R,(c:Int) ∈ r)∧(∀ r ∈ R,(c:Int) ∈ r→(d:Int) ∈ r)∧R'=bh R c:=by
 unfold jr at h
 cases hf:xm cols R with
 | none=>rw[hf] at h;cases h
 | some c=>
  rw[hf] at h;injection h with h;unfold xm at hf;have h1:=List.find?_some hf;have h2:=List.mem_of_find?_eq_some hf;simp only[Bool.and_eq_true,Bool.not_eq_true'] at h1;obtain ⟨hne,hany⟩:=h1;obtain ⟨d,hd,hdom⟩:=List.any_eq_true.1 hany;unfold xl at hdom;simp only[Bool.and_eq_true,bne_iff_ne] at hdom;refine ⟨c,d,List.mem_range.1 h2,List.mem_range.1 hd,fun e=>hdom.1.1 (by rw[e]),?_,?_,h.symm⟩
  ·cases hw:bp R (c:Int) with
   | nil=>rw[hw] at hne;cases hne
   | cons i l=>
    obtain ⟨n,hn,_,hc⟩:=j6.1 (show i ∈ bp R (c:Int) by rw[hw];exact .head _);rw[List.getD_eq_getElem?_getD,List.getElem?_eq_getElem hn] at hc;exact ⟨_,List.getElem_mem hn,hc⟩
  ·intro r hr hc;obtain ⟨n,hn,rfl⟩:=List.getElem_of_mem hr;have e:R.getD n []=R[n]:=by rw[List.getD_eq_getElem?_getD,List.getElem?_eq_getElem hn];rfl
   have:=jq.1 hdom.1.2 (n:Int) (j6.2 ⟨n,hn,rfl,by rw[e];exact hc⟩);obtain ⟨m,hm,hnm,hdm⟩:=j6.1 this;obtain rfl:m=n:=by omega
   rw[e] at hdm;exact hdm
theorem nU {cols:Nat}{s s':aZ × List Int}(h:dh cols s=some s'):en s'.1<en s.1:=by
 unfold dh at h;split at h
 ·rename_i R k ht;injection h with h;subst h;obtain ⟨hk,rfl⟩:=lF ht;exact su hk (by simp)
 ·split at h
  ·rename_i R hr;injection h with h;subst h;obtain ⟨i,j,hi,_,_,_,rfl⟩:=lG hr;exact y_ hi
  ·cases hc:jr cols s.1 with
   | none=>rw[hc] at h;cases h
   | some R=>
    rw[hc] at h;injection h with h;subst h;obtain ⟨c,d,_,_,_,⟨r,hr,hcr⟩,_,rfl⟩:=lH hc;exact vz hr hcr
def aJ (R:aZ)(S:List Int):Prop:=∀ r ∈ R,∃ k ∈ r,k ∈ S
structure dt (cols:Nat) (S:List Int):Prop where
 nodup:S.Nodup
 rng:∀ k ∈ S,0≤k∧k<cols
def eO (cols:Nat)(R:aZ)(b:Int):Prop:=
 (b= -1∧∀ S,dt cols S→¬ aJ R S)∨∃ S,dt cols S∧aJ R S∧b=(S.length:Int)∧∀ S',dt cols S'→aJ R S'→S.length≤S'.length
theorem uA {cols:Nat}{R R':aZ}(h1:∀ S,dt cols S→aJ R S→∃ S',dt cols S'∧aJ R' S'∧S'.length≤S.length)(h2:∀ S,dt cols S→aJ R' S→∃ S',dt cols S'∧aJ R S'∧S'.length≤S.length){b:Int}(hb:eO cols R' b):eO cols R b:=by
 rcases hb with ⟨rfl,hn⟩ | ⟨S,hS,hs,rfl,hm⟩
 ·refine .inl ⟨rfl,fun S hS hs=>?_⟩;obtain ⟨S',hS',hs',_⟩:=h1 S hS hs;exact hn S' hS' hs'
 ·obtain ⟨T,hT,ht,hl⟩:=h2 S hS hs;have hl':S.length≤T.length:=by
   obtain ⟨U,hU,hu,hlu⟩:=h1 T hT ht;exact Nat.le_trans (hm U hU hu) hlu
  refine .inr ⟨T,hT,ht,by omega,fun S' hS' hs'=>?_⟩;obtain ⟨U,hU,hu,hlu⟩:=h1 S' hS' hs';have:=hm U hU hu;omega
theorem jX {cols:Nat}{S:List Int}(h:dt cols S)(k:Int):dt cols (S.erase k):=
 ⟨h.nodup.erase k,fun x hx=>h.rng x (List.mem_of_mem_erase hx)⟩
theorem BS {cols:Nat}{R R':aZ}{k:Int}(hk:0≤k∧k<cols)(h:lD R=some (R',k)){b:Int}(hb:eO cols R' b):eO cols R (if b<0 then -1 else b+1):=by
 obtain ⟨hrow,rfl⟩:=lF h;have hno:∀ r ∈ R.filter (fun q=> !decide (k ∈ q)),k ∉ r:=fun r hr=>by have:=(List.mem_filter.1 hr).2;simpa using this
 have down:∀ S,dt cols S→aJ R S→k ∈ S∧aJ (R.filter fun q=> !decide (k ∈ q)) (S.erase k):=fun S hS hs=>by
  obtain ⟨x,hx,hxS⟩:=hs _ hrow;obtain rfl:x=k:=by simpa using hx
  refine ⟨hxS,fun r hr=>?_⟩;obtain ⟨y,hy,hyS⟩:=hs r (List.mem_filter.1 hr).1;exact ⟨y,hy,(List.mem_erase_of_ne (fun (e:y=x)=>hno r hr (by rw[← e];exact hy))).2 hyS⟩
 have up:∀ S,dt cols S→aJ (R.filter fun q=> !decide (k ∈ q)) S→dt cols (k::S.erase k)∧aJ R (k::S.erase k):=fun S hS hs=>by
  refine ⟨⟨List.nodup_cons.2 ⟨hS.nodup.not_mem_erase,hS.nodup.erase k⟩,fun x hx=>?_⟩,fun r hr=>?_⟩
  ·rcases List.mem_cons.1 hx with rfl | hx
   ·exact hk
   ·exact hS.rng x (List.mem_of_mem_erase hx)
  ·by_cases hkr:k ∈ r
   ·exact ⟨k,hkr,.head _⟩
   ·obtain ⟨y,hy,hyS⟩:=hs r (List.mem_filter.2 ⟨hr,by simp[hkr]⟩);exact ⟨y,hy,.tail _ ((List.mem_erase_of_ne (fun (e:y=k)=>hkr (by rw[← e];exact hy))).2 hyS)⟩
 rcases hb with ⟨rfl,hn⟩ | ⟨S,hS,hs,rfl,hm⟩
 ·rw[if_pos (by decide)];exact .inl ⟨rfl,fun S hS hs=>hn _ (jX hS k) (down S hS hs).2⟩
 ·rw[if_neg (by omega)];obtain ⟨hT,ht⟩:=up S hS hs;have hkS:k ∉ S:=fun hk'=>by
   have hs':aJ (R.filter fun q=> !decide (k ∈ q)) (S.erase k):=fun r hr=>by
    obtain ⟨y,hy,hyS⟩:=hs r hr;exact ⟨y,hy,(List.mem_erase_of_ne (fun (e:y=k)=>hno r hr (by rw[← e];exact hy))).2 hyS⟩
   have:=hm _ (jX hS k) hs';rw[List.length_erase_of_mem hk'] at this;have:=List.length_pos_of_mem hk';omega
  refine .inr ⟨k::S.erase k,hT,ht,by rw[List.erase_of_not_mem hkS];simp,fun S' hS' hs'=>?_⟩;obtain ⟨hk',hd⟩:=down S' hS' hs';have:=hm _ (jX hS' k) hd;rw[List.length_erase_of_mem hk'] at this;have:=List.length_pos_of_mem hk';rw[List.erase_of_not_mem hkS];simp only[List.length_cons];omega
theorem BT {cols:Nat}{R R':aZ}(h:lE R=some R'){b:Int}(hb:eO cols R' b):eO cols R b:=by
 obtain ⟨i,j,hi,hj,hne,hsub,rfl⟩:=lG h;refine uA (fun S hS hs=>⟨S,hS,fun r hr=>hs r (List.mem_of_mem_eraseIdx hr),Nat.le_refl _⟩) (fun S hS hs=>⟨S,hS,fun r hr=>?_,Nat.le_refl _⟩) hb;have key:∀ n,n<R.length→n≠i→R.getD n [] ∈ R.eraseIdx i:=fun n hn hni=>by
  rw[List.mem_eraseIdx_iff_getElem?];exact ⟨n,hni,by rw[List.getElem?_eq_getElem hn,List.getD_eq_getElem?_getD,List.getElem?_eq_getElem hn];rfl⟩
 obtain ⟨n,hn,rfl⟩:=List.getElem_of_mem hr;have e:R.getD n []=R[n]:=by rw[List.getD_eq_getElem?_getD,List.getElem?_eq_getElem hn];rfl
 by_cases hni:n=i
 ·subst hni;obtain ⟨k,hk,hkS⟩:=hs _ (key j hj hne);exact ⟨k,by rw[← e];exact hsub k hk,hkS⟩
 ·have:=hs _ (key n hn hni);rw[e] at this;exact this
theorem BU {cols:Nat}{R R':aZ}(h:jr cols R=some R'){b:Int}(hb:eO cols R' b):eO cols R b:=by
 obtain ⟨c,d,hc,hd,hne,_,hsub,rfl⟩:=lH h;have hne':(d:Int)≠c:=by omega
 refine uA (fun S hS hs=>?_) (fun S hS hs=>⟨S,hS,fun r hr=>?_,Nat.le_refl _⟩) hb
 ·by_cases hcS:(c:Int) ∈ S
  ·refine ⟨(d:Int)::(S.erase c).erase d,⟨List.nodup_cons.2 ⟨(hS.nodup.erase _).not_mem_erase,(hS.nodup.erase _).erase _⟩,fun x hx=>?_⟩,fun r hr=>?_,?_⟩
   ·rcases List.mem_cons.1 hx with rfl | hx
    ·omega
    ·exact hS.rng x (List.mem_of_mem_erase (List.mem_of_mem_erase hx))
   ·obtain ⟨q,hq,rfl⟩:=List.mem_map.1 hr;obtain ⟨k,hk,hkS⟩:=hs q hq;by_cases hdq:(d:Int) ∈ q
    ·exact ⟨d,List.mem_filter.2 ⟨hdq,by simpa using hne'⟩,.head _⟩
    ·have hcq:(c:Int) ∉ q:=fun h=>hdq (hsub q hq h);have hkc:k≠c:=fun e=>hcq (by rw[← e];exact hk);have hkd:k≠d:=fun e=>hdq (by rw[← e];exact hk);exact ⟨k,List.mem_filter.2 ⟨hk,by simpa using hkc⟩,.tail _ ((List.mem_erase_of_ne hkd).2 ((List.mem_erase_of_ne hkc).2 hkS))⟩
   ·have h1:=List.length_erase_of_mem hcS;have h2:=List.length_pos_of_mem hcS;have h3:((S.erase (c:Int)).erase (d:Int)).length≤(S.erase (c:Int)).length:=List.length_erase_le;simp only[List.length_cons];omega
  ·refine ⟨S,hS,fun r hr=>?_,Nat.le_refl _⟩;obtain ⟨q,hq,rfl⟩:=List.mem_map.1 hr;obtain ⟨k,hk,hkS⟩:=hs q hq;exact ⟨k,List.mem_filter.2 ⟨hk,by simpa using fun e:k=c=>hcS (by rw[← e];exact hkS)⟩,hkS⟩
 ·obtain ⟨k,hk,hkS⟩:=hs _ (List.mem_map.2 ⟨r,hr,rfl⟩);exact ⟨k,(List.mem_filter.1 hk).1,hkS⟩
abbrev Fr:=Nat→Value
def Na (N:Nat)(f:Fr)(d:Nat)(v:Value):Fr:=fun t=>bif (Nat.beq t d&&Nat.blt d N) then v else f t
def dq (N:Nat)(f:Fr)(d:Option Nat)(v:Value):Fr:=match d with | some d=>Na N f d v | none=>f
def ev (f:Fr):Operand→Value
 | .tmp t=>f t
 | .const v=>v
 | .global g=>.pointer (some ⟨g,0,none⟩)
 | .func k=>.func (.func k) #[] #[]
structure R (N:Nat) (a:Act) (f:Fr):Prop where
 defers:a.defers=[]
 size:a.tmps.size=N
 get:∀ t,a.tmps.getD t undef=f t
theorem R.eval {N:Nat}{a:Act}{f:Fr}(h:R N a f):a.eval=ev f:=by
 funext x;cases x <;> simp[Act.eval,ev,h.get]
theorem R.put {N:Nat}{a:Act}{f:Fr}(h:R N a f)(d:Option Nat)(v:Value):R N (a.put d v) (dq N f d v):=by
 cases d with
 | none=>exact h
 | some d=>
  refine ⟨h.defers,by simp[Act.put,h.size],fun t=>?_⟩;have hg:=h.get t;simp only[Act.put,dq,Na];by_cases hd:d<N
  ·have hb:Nat.blt d N=true:=by simp[Nat.blt_eq,hd]
   by_cases ht:t=d
   ·subst ht;simp[Array.getD,h.size,hd,hb]
   ·have:Nat.beq t d=false:=by
     rw[Bool.eq_false_iff];intro hh;exact ht (Nat.eq_of_beq_eq_true hh)
    simp only[this,Bool.false_and,cond_false,← hg];by_cases hs:t<a.tmps.size
    ·simp[Array.getD,hs,Ne.symm ht]
    ·simp[Array.getD,hs]
  ·have hb:Nat.blt d N=false:=by
    rw[Bool.eq_false_iff];intro hh;rw[Nat.blt_eq] at hh;exact hd hh
   have hst:a.tmps.setIfInBounds d v=a.tmps:=by
    apply Array.setIfInBounds_eq_of_size_le;rw[h.size];omega
   simp[hb,hst,hg]
def enters (P:Program)(g:FuncId):Bool:=
 match P.funcs[g]? with
 | some fn => !(fn.name == "runtime.NumGoroutine") && fn.body.isSome
 | none=>false
theorem vA {P:Program}{g:FuncId}(h:enters P g=true)(args:Array Value)(w:World) :
  (callFunc g args).run P w=.ok (.enter g args) w:=by
 unfold enters at h
 cases hf:P.funcs[g]? with
 | none=>simp[hf] at h
 | some fn=>
  simp[hf] at h;have hb:fn.body.isNone=false:=by
   cases hbb:fn.body <;> simp_all
  have hne:fn.body≠none:=by intro hn;rw[hn] at hb;cases hb
  simp[callFunc,program,hf,h.1,hne,Sem.run]
def bt (P:Program)(g:FuncId)(args:List Value)(w:World)(post:Value→World→Prop):Prop:=
 enters P g=true∧Calls P g args.toArray w fun e w'=>∃ v,e=.returned v∧post v w'
theorem bt.mono {P:Program}{g:FuncId}{args:List Value}{w:World}{p q:Value→World→Prop}(h:bt P g args w p)(hpq:∀ v w',p v w'→q v w'):bt P g args w q:=
 ⟨h.1,h.2.mono fun _ _ ⟨v,he,hp⟩=>⟨v,he,hpq _ _ hp⟩⟩
def js (P:Program)(fv:Value)(args:List Value)(w:World)(k:Value→World→Prop):Prop:=
 match fv with
 | .func (.func g) first cap=>bt P g (first.toList++args++cap.toList) w k
 | _=>False
def ki (P:Program)(s:Sem Value)(w:World)(k:Value→World→Prop):Prop:=
 ∃ v w',s.run P w=.ok v w'∧k v w'
def Dr (P:Program)(s:Sem Unit)(w:World)(k:Value→World→Prop):Prop:=
 ∃ w',s.run P w=.ok () w'∧k undef w'
def vB (P:Program)(t:TypeId)(w:World)(k:Value→World→Prop):Prop:=ki P (Instr.alloc t true (.tuple #[])) w k
def F0 (P:Program)(t:TypeId)(v:Value)(w:World)(k:Value→World→Prop):Prop:=ki P (Instr.box t v) w k
def b7 (P:Program)(t:TypeId)(parts:List (Nat × Value))(w:World)(k:Value→World→Prop):Prop:=ki P (Instr.build t parts.toArray) w k
def fZ (P:Program)(t:TypeId)(n:Nat)(parts:List (Nat × Value))(w:World)(k:Value→World→Prop):Prop:=ki P (Instr.buildSlice t n parts.toArray) w k
def eY (P:Program)(t:TypeId)(a:Value)(w:World)(k:Value→World→Prop):Prop:=ki P (Instr.loadAt t a) w k
def hH (P:Program)(t:TypeId)(a v:Value)(w:World)(k:Value→World→Prop):Prop:=Dr P (Instr.storeAt t a v) w k
def KZ (P:Program)(ρ:Operand→Value)(x:Operand)(w:World)(k:Value→World→Prop):Prop:=∃ v,(∀ dst ty pos after guard,(execOp ρ { dst,op:=.nilCheck x,type:=ty,pos,after,guard }).run P w=.ok (.value v) w)∧k v w
def cU (P:Program)(op:BinOp)(t:TypeId)(xo yo:Operand)(x y:Value)(w:World)(k:Value→World→Prop):Prop:=ki P (do eqGuard op t xo yo x y;binOp op t x y) w k
def N_ (P:Program)(op:UnOp)(x:Value)(w:World)(k:Value→World→Prop):Prop:=ki P (Op.unary op x) w k
def pC (P:Program)(s d:TypeId)(x:Value)(w:World)(k:Value→World→Prop):Prop:=ki P (convert s d x) w k
def mX (P:Program)(t:TypeId)(r:Option Value)(w:World)(k:Value→World→Prop):Prop:=ki P (Instr.makeMap t r) w k
def ml (P:Program)(t:TypeId)(l c:Value)(w:World)(k:Value→World→Prop):Prop:=ki P (Instr.makeSlice t l c) w k
def cu (P:Program)(fn:Fn)(first cap:List Value)(w:World)(k:Value→World→Prop):Prop:=ki P (Instr.makeFunc fn first.toArray cap.toArray) w k
def eP (P:Program)(t:TypeId)(x:Value)(lo hi mx:Option Value)(w:World)(k:Value→World→Prop):Prop:=ki P (Instr.sliceAt t x lo hi mx) w k
def mm (P:Program)(t:TypeId)(x:Value)(i:Nat)(w:World)(k:Value→World→Prop):Prop:=ki P (Instr.fieldAt t x i) w k
def Ds (P:Program)(t:TypeId)(x:Value)(i:Nat)(w:World)(k:Value→World→Prop):Prop:=ki P (Instr.field t x i) w k
def lI (P:Program)(t:TypeId)(x i:Value)(w:World)(k:Value→World→Prop):Prop:=ki P (Instr.indexAt t x i) w k
def sw (P:Program)(t:TypeId)(x i:Value)(w:World)(k:Value→World→Prop):Prop:=ki P (Instr.index t x i) w k
def gw (P:Program)(t:TypeId)(m i:Value)(ok:Bool)(w:World)(k:Value→World→Prop):Prop:=ki P (Instr.lookup t m i ok) w k
def nV (P:Program)(t:TypeId)(m i x:Value)(w:World)(k:Value→World→Prop):Prop:=Dr P (Instr.mapUpdate t m i x) w k
def nW (P:Program)(t:TypeId)(m i:Value)(w:World)(k:Value→World→Prop):Prop:=ki P (Instr.mapEntry t m i) w k
def kS (P:Program)(t:TypeId)(m i x:Value)(w:World)(k:Value→World→Prop):Prop:=Dr P (Instr.entryStore t m i x) w k
def qy (P:Program)(t:TypeId)(x:Value)(w:World)(k:Value→World→Prop):Prop:=ki P (Instr.range t x) w k
def uB (P:Program)(it:Value)(s:Bool)(t:TypeId)(w:World)(k:Value→World→Prop):Prop:=ki P (Instr.next it s t) w k
def vC (P:Program)(it:Value)(w:World)(k:Value→World→Prop):Prop:=ki P (Instr.entry it) w k
def bU (P:Program)(b:Builtin)(ats:Array TypeId)(t:TypeId)(consts:Array Bool)(args:List Value)(w:World)(k:Value→World→Prop):Prop:=
 ∃ v w',(builtin b ats t consts args.toArray).run P w=.ok (.value v) w'∧k v w'
inductive gG (b:Bool) (p q:Prop):Prop
 | yes (hb:b=true) (hp:p):gG b p q
 | no (hb:b=false) (hq:q):gG b p q
theorem dP (b:Bool)(p q:Prop):gG b p q=if b then p else q:=by
 apply propext;constructor
 ·intro h
  cases h with
  | yes hb hp=>rw[hb];exact hp
  | no hb hq=>rw[hb];exact hq
 ·intro h
  cases b
  ·exact .no rfl h
  ·exact .yes rfl h
def Iq (op:BinOp)(k:IntKind)(a b:Int):Option Value:=
 match op with
 | .add=>some (.int k (k.wrap (a+b)))
 | .sub=>some (.int k (k.wrap (a - b)))
 | .mul=>some (.int k (k.wrap (a*b)))
 | .eql=>some (.bool (a==b))
 | .neq=>some (.bool (a !=b))
 | .lss=>some (.bool (a<b))
 | .leq=>some (.bool (a≤b))
 | .gtr=>some (.bool (a>b))
 | .geq=>some (.bool (a≥b))
 | _=>none
def sameKind:IntKind→IntKind→Bool
 | .i64,.i64 | .u64,.u64 | .u8,.u8 | .i32,.i32 | .u32,.u32 | .i8,.i8 | .i16,.i16 | .u16,.u16=>true
 | _,_=>false
theorem xp {a b:IntKind}(h:sameKind a b=true):a=b:=by cases a <;> cases b <;> first | rfl | cases h
def Ir (op:BinOp)(x y:Value):Option Value:=
 match x,y with
 | .int k a,.int k' b=>bif sameKind k k' then Iq op k a b else none
 | _,_=>none
def force (v:Value)(k:Value→Prop):Prop:=
 match v with
 | .bool b=>k (.bool b)
 | .int i n=>k (.int i n)
 | .float i n=>k (.float i n)
 | .complex i n m=>k (.complex i n m)
 | .string s=>k (.string s)
 | .pointer a=>k (.pointer a)
 | .slice a n c=>k (.slice a n c)
 | .map r=>k (.map r)
 | .chan r=>k (.chan r)
 | .func fn a c=>k (.func fn a c)
 | .nilFunc=>k .nilFunc
 | .iface t v=>k (.iface t v)
 | .nilIface=>k .nilIface
 | .agg cs=>k (.agg cs)
 | .tuple vs=>k (.tuple vs)
theorem force_eq (v:Value)(k:Value→Prop):force v k=k v:=by cases v <;> rfl
def oW (f:Fr):List Operand→(List Value→Prop)→Prop
 | [],k=>k []
 | x::xs,k=>force (ev f x) fun v=>oW f xs fun vs=>k (v::vs)
theorem qz (f:Fr):∀ (xs:List Operand) (k:List Value→Prop),oW f xs k=k (xs.map (ev f))
 | [],_=>rfl
 | x::xs,k=>by simp only[oW,force_eq,qz f xs,List.map_cons]
def sx (f:Fr):List (Nat × Operand)→(List (Nat × Value)→Prop)→Prop
 | [],k=>k []
 | (i,x)::xs,k=>force (ev f x) fun v=>sx f xs fun vs=>k ((i,v)::vs)
theorem qA (f:Fr):∀ (xs:List (Nat × Operand)) (k:List (Nat × Value)→Prop),sx f xs k=k (xs.map fun p=>(p.1,ev f p.2))
 | [],_=>rfl
 | (i,x)::xs,k=>by simp only[sx,force_eq,qA f xs,List.map_cons]
def qB (f:Fr):Option Operand→(Option Value→Prop)→Prop
 | none,k=>k none
 | some x,k=>force (ev f x) fun v=>k (some v)
theorem uC (f:Fr):∀ (x:Option Operand) (k:Option Value→Prop),qB f x k=k (x.map (ev f))
 | none,_=>rfl
 | some x,k=>by simp only[qB,force_eq,Option.map_some]
def oJ (P:Program)(op:Op)(ty:TypeId)(f:Fr)(w:World)(k:Value→World→Prop):Prop:=
 match op with
 | .move x | .assign x=>force (ev f x) fun v=>k v w
 | .alloc t=>vB P t w k
 | .box t x=>force (ev f x) fun x=>F0 P t x w k
 | .build t ps=>sx f ps.toList fun ps=>b7 P t ps w k
 | .buildSlice t n ps=>sx f ps.toList fun ps=>fZ P t n ps w k
 | .pick c a b=>
  match ev f c with
  | .bool t=>gG t (force (ev f a) fun v=>k v w) (force (ev f b) fun v=>k v w)
  | _=>False
 | .load t a=>force (ev f a) fun a=>eY P t a w k
 | .store t a x=>force (ev f a) fun a=>force (ev f x) fun x=>hH P t a x w k
 | .nilCheck x=>
  match ev f x with
  | .pointer (some a)=>k (.pointer (some a)) w
  | _=>KZ P (ev f) x w k
 | .binOp op t x y _=>
  match Ir op (ev f x) (ev f y) with
  | some v=>k v w
  | none=>force (ev f x) fun a=>force (ev f y) fun b=>cU P op t x y a b w k
 | .unOp op _ x=>
  match op,ev f x with
  | .not,.bool b=>k (.bool !b) w
  | _,_=>N_ P op (ev f x) w k
 | .convert s d x=>force (ev f x) fun x=>pC P s d x w k
 | .makeMap t r=>qB f r fun r=>mX P t r w k
 | .makeSlice t l c=>force (ev f l) fun l=>force (ev f c) fun c=>ml P t l c w k
 | .makeFunc fn a c=>oW f a.toList fun a=>oW f c.toList fun c=>cu P fn a c w k
 | .slice t x lo hi mx=>force (ev f x) fun x=>qB f lo fun lo=>qB f hi fun hi=>qB f mx fun mx=>eP P t x lo hi mx w k
 | .fieldAddr t x i=>force (ev f x) fun x=>mm P t x i w k
 | .field t x i=>force (ev f x) fun x=>Ds P t x i w k
 | .indexAddr t x i=>force (ev f x) fun x=>force (ev f i) fun i=>lI P t x i w k
 | .index t x i=>force (ev f x) fun x=>force (ev f i) fun i=>sw P t x i w k
 | .lookup t x i ok=>force (ev f x) fun x=>force (ev f i) fun i=>gw P t x i ok w k
 | .mapUpdate t m i x | .insert t m i x=>force (ev f m) fun m=>force (ev f i) fun i=>force (ev f x) fun x=>nV P t m i x w k
 | .mapEntry t m i=>force (ev f m) fun m=>force (ev f i) fun i=>nW P t m i w k
 | .entryStore t m i x=>force (ev f m) fun m=>force (ev f i) fun i=>force (ev f x) fun x=>kS P t m i x w k
 | .range t x=>force (ev f x) fun x=>qy P t x w k
 | .next x s=>force (ev f x) fun x=>uB P x s ty w k
 | .entry x=>force (ev f x) fun x=>vC P x w k
 | .extract x i=>
  match ev f x with
  | .tuple ⟨vs⟩=>match vs[i]? with | some v=>force v fun v=>k v w | none=>False
  | _=>False
 | .call c=>
  match c.callee with
  | .value fv=>force (ev f fv) fun fv=>oW f c.args.toList fun args=>js P fv args w k
  | .builtin b=>oW f c.args.toList fun args=>bU P b c.argTypes ty (c.args.map fun | .const _=>true | _=>false) args w k
  | _=>False
 | _=>False
def pD (P:Program)(N:Nat)(dst:Option Tmp)(op:Op)(ty:TypeId)(f:Fr)(w:World)(k:Fr→World→Prop):Prop:=
 oJ P op ty f w fun v w'=>k (dq N f dst v) w'
theorem Dt {P:Program}{op:BinOp}{k:IntKind}{a b:Int}{v:Value}(h:Iq op k a b=some v)(t:TypeId)(w:World) :
  (binOp op t (.int k a) (.int k b)).run P w=.ok v w:=by
 cases op <;> simp[Iq] at h <;> subst h <;> simp[binOp,Op.intArith,Op.intCmp,pure]
theorem xq (op:BinOp)(t:TypeId)(x y:Operand)(k:IntKind)(n:Int)(v:Value):eqGuard op t x y (.int k n) v=pure ():=by cases op <;> rfl
def bC (P:Program)(o:Oper)(ρ:Operand→Value)(w:World)(k:Value→World→Prop):Prop:=
 match (execOp ρ o).run P w with
 | .ok (.value v) w'=>k v w'
 | .ok .skip w'=>k undef w'
 | .ok (.enter f args) w'=>Calls P f args w' fun e w''=>∃ v,e=.returned v∧k v w''
 | _=>False
theorem bC.wp {P:Program}{o:Oper}{a:Act}{w:World}{k:Value→World→Prop}{K:Act→World→Prop}{Q:Exit→Act→World→Prop}(h:bC P o a.eval w k)(hk:∀ v w',k v w'→K (a.put o.dst v) w'):o.wp P a w K Q:=by
 unfold bC at h;unfold Oper.wp;split at h
 ·rename_i v w' hr;rw[hr];exact hk _ _ h
 ·rename_i w' hr;rw[hr];exact hk _ _ h
 ·rename_i g args w' hr;rw[hr];show Calls _ _ _ _ _;refine h.mono fun e w'' ⟨v,he,hv⟩=>?_;subst he;exact hk _ _ hv
 ·exact h.elim
theorem bC.mono {P:Program}{o:Oper}{ρ:Operand→Value}{w:World}{k k':Value→World→Prop}(h:bC P o ρ w k)(hk:∀ v w',k v w'→k' v w'):bC P o ρ w k':=by
 unfold bC at *;split at h
 ·exact hk _ _ h
 ·exact hk _ _ h
 ·exact h.mono fun e w'' ⟨v,he,hv⟩=>⟨v,he,hk _ _ hv⟩
 ·exact h.elim
theorem bC.some {P:Program}{o:Oper}{ρ:Operand→Value}{w:World}{k:Value→World→Prop}(h:bC P o ρ w k):∃ v w',k v w':=by
 unfold bC at h;split at h
 ·exact ⟨_,_,h⟩
 ·exact ⟨_,_,h⟩
 ·obtain ⟨e,w',fr,⟨v,_,hv⟩,_⟩:=h [];exact ⟨v,w',hv⟩
 ·exact h.elim
theorem cG {P:Program}{o:Oper}{ρ:Operand→Value}{w w':World}{v:Value}{k:Value→World→Prop}(hr:(execOp ρ o).run P w=.ok (.value v) w')(h:k v w'):bC P o ρ w k:=by
 unfold bC;rw[hr];exact h
theorem nX {P:Program}(o:Oper){f:Fr}{w:World}{k:Value→World→Prop}(h:oJ P o.op o.type f w k):bC P o (ev f) w k:=by
 obtain ⟨dst,op,ty,pos,after,guard⟩:=o
 cases op <;> simp only[oJ,force_eq,qz,qA,uC] at h
 case move x=>exact cG rfl h
 case assign x=>exact cG rfl h
 case alloc t=>obtain ⟨v,w',hr,h⟩:=h;simpa [bC,execOp,hr] using h
 case box t x=>obtain ⟨v,w',hr,h⟩:=h;simpa [bC,execOp,hr] using h
 case build t ps=>
  obtain ⟨v,w',hr,h⟩:=h;have e:(List.map (fun p=>(p.1,ev f p.2)) ps.toList).toArray=ps.map fun (i,x)=>(i,ev f x):=by
   rw[← Array.toList_inj];simp
  rw[e] at hr;simpa [bC,execOp,hr] using h
 case buildSlice t n ps=>
  obtain ⟨v,w',hr,h⟩:=h;have e:(List.map (fun p=>(p.1,ev f p.2)) ps.toList).toArray=ps.map fun (i,x)=>(i,ev f x):=by
   rw[← Array.toList_inj];simp
  rw[e] at hr;simpa [bC,execOp,hr] using h
 case pick c a b=>
  split at h
  ·rename_i t hx;rw[dP] at h
   cases t
   ·exact cG (v:=ev f b) (w':=w) (by simp[execOp,hx,asBool]) (by simpa using h)
   ·exact cG (v:=ev f a) (w':=w) (by simp[execOp,hx,asBool]) (by simpa using h)
  ·exact h.elim
 case load t x=>obtain ⟨v,w',hr,h⟩:=h;simpa [bC,execOp,hr] using h
 case store t x y=>obtain ⟨w',hr,h⟩:=h;simpa [bC,execOp,hr] using h
 case nilCheck x=>
  split at h
  ·rename_i ad hx;exact cG (by simp[execOp,hx]) h
  ·obtain ⟨v,hr,h⟩:=h;exact cG (hr ..) h
 case binOp op t x y u=>
  split at h
  ·rename_i v hv;unfold Ir at hv;split at hv
   ·rename_i k1 n1 k2 n2 hx hy
    cases hs:sameKind k1 k2 with
    | false=>simp[hs] at hv
    | true=>
     obtain rfl:=xp hs;simp[hs] at hv;exact cG (by simp[execOp,hx,hy,xq,Dt hv]) h
   ·cases hv
  ·obtain ⟨v,w',hr,h⟩:=h;have:(execOp (ev f) { dst,op:=.binOp op t x y u,type:=ty,pos,after,guard }).run P w=.ok (.value v) w':=by
    simp only[execOp];rw[Sem.run_bind,hr];rfl
   exact cG this h
 case unOp op t x=>
  split at h
  ·rename_i b hx;exact cG (by simp[execOp,hx,Op.unary]) h
  ·obtain ⟨v,w',hr,h⟩:=h;simpa [bC,execOp,hr] using h
 case convert s d x=>obtain ⟨v,w',hr,h⟩:=h;simpa [bC,execOp,hr] using h
 case makeMap t r=>obtain ⟨v,w',hr,h⟩:=h;simpa [bC,execOp,hr] using h
 case makeSlice t l c=>obtain ⟨v,w',hr,h⟩:=h;simpa [bC,execOp,hr] using h
 case makeFunc fn as' cs=>
  obtain ⟨v,w',hr,h⟩:=h;have e1:(List.map (ev f) as'.toList).toArray=as'.map (ev f):=by rw[← Array.toList_inj];simp
  have e2:(List.map (ev f) cs.toList).toArray=cs.map (ev f):=by rw[← Array.toList_inj];simp
  rw[e1,e2] at hr;simpa [bC,execOp,hr] using h
 case slice t x lo hi mx=>obtain ⟨v,w',hr,h⟩:=h;simpa [bC,execOp,hr] using h
 case fieldAddr t x i=>obtain ⟨v,w',hr,h⟩:=h;simpa [bC,execOp,hr] using h
 case field t x i=>obtain ⟨v,w',hr,h⟩:=h;simpa [bC,execOp,hr] using h
 case indexAddr t x i=>obtain ⟨v,w',hr,h⟩:=h;simpa [bC,execOp,hr] using h
 case index t x i=>obtain ⟨v,w',hr,h⟩:=h;simpa [bC,execOp,hr] using h
 case lookup t x i ok=>obtain ⟨v,w',hr,h⟩:=h;simpa [bC,execOp,hr] using h
 case mapUpdate t m i x=>obtain ⟨w',hr,h⟩:=h;simpa [bC,execOp,hr] using h
 case insert t m i x=>obtain ⟨w',hr,h⟩:=h;simpa [bC,execOp,hr] using h
 case mapEntry t m i=>obtain ⟨v,w',hr,h⟩:=h;simpa [bC,execOp,hr] using h
 case entryStore t m i x=>obtain ⟨w',hr,h⟩:=h;simpa [bC,execOp,hr] using h
 case range t x=>obtain ⟨v,w',hr,h⟩:=h;simpa [bC,execOp,hr] using h
 case next x s=>obtain ⟨v,w',hr,h⟩:=h;simpa [bC,execOp,hr] using h
 case entry x=>obtain ⟨v,w',hr,h⟩:=h;simpa [bC,execOp,hr] using h
 case extract x i=>
  split at h
  ·rename_i vs hx;split at h
   ·rename_i v hv;have hv':vs[i]?=some v:=hv;exact cG (by simp[execOp,Instr.extract,hx,hv']) h
   ·exact h.elim
  ·exact h.elim
 case call c=>
  obtain ⟨callee,args,ats⟩:=c
  cases callee with
  | value fv=>
   simp only[] at h;unfold js at h;split at h
   ·rename_i g first cap hfv;have e1:((first.toList++List.map (ev f) args.toList++cap.toList)).toArray=first++args.map (ev f)++cap:=by
     rw[← Array.toList_inj];simp
    obtain ⟨hent,hc⟩:=h;rw[e1] at hc;have hrun:(execOp (ev f) { dst,op:=.call { callee:=.value fv,args,argTypes:=ats },type:=ty,pos,after,guard }).run P w=.ok (.enter g (first++args.map (ev f)++cap)) w:=by
     simp[execOp,resolve,Deferred.ofValue,hfv,invoke,vA hent]
    unfold bC;rw[hrun];exact hc
   ·exact h.elim
  | builtin b=>
   obtain ⟨v,w',hr,h⟩:=h;have e1:(List.map (ev f) args.toList).toArray=args.map (ev f):=by rw[← Array.toList_inj];simp
   rw[e1] at hr;have hrun:(execOp (ev f) { dst,op:=.call { callee:=.builtin b,args,argTypes:=ats },type:=ty,pos,after,guard }).run P w=.ok (.value v) w':=by
    simp only[execOp,resolve,invoke];exact hr
   exact cG hrun h
  | invoke r m=>exact h.elim
theorem xr {P:Program}{N:Nat}{o:Oper}{f:Fr}{w:World}{k:Fr→World→Prop}{a:Act}{K:Act→World→Prop}{Q:Exit→Act→World→Prop}(hR:R N a f)(hk:∀ a' f' w',R N a' f'→k f' w'→K a' w')(h:pD P N o.dst o.op o.type f w k):o.wp P a w K Q:=by
 have h':=nX o h;rw[← hR.eval] at h';exact h'.wp fun v w' hv=>hk _ _ _ (hR.put _ _) hv
theorem qC {P:Program}{s:Sem Value}{w:World}{k k':Value→World→Prop}(hk:∀ v w',k v w'→k' v w')(h:ki P s w k):ki P s w k':=
 let ⟨v,w',hr,hh⟩:=h;⟨v,w',hr,hk _ _ hh⟩
theorem nY {P:Program}{s:Sem Unit}{w:World}{k k':Value→World→Prop}(hk:∀ v w',k v w'→k' v w')(h:Dr P s w k):Dr P s w k':=
 let ⟨w',hr,hh⟩:=h;⟨w',hr,hk _ _ hh⟩
theorem pE {P:Program}{op:Op}{ty:TypeId}{f:Fr}{w:World}{k k':Value→World→Prop}(hk:∀ v w',k v w'→k' v w')(h:oJ P op ty f w k):oJ P op ty f w k':=by
 cases op <;> simp only[oJ,force_eq,qz,qA,uC] at h ⊢
 case move x=>exact hk _ _ h
 case assign x=>exact hk _ _ h
 case pick c a b=>
  split
  ·rename_i t hc;simp only[hc] at h;rw[dP] at h ⊢
   cases t
   ·exact hk _ _ h
   ·exact hk _ _ h
  ·rename_i hc;split at h
   ·rename_i t ht;exact absurd ht (hc t)
   ·exact h
 case nilCheck x=>
  split
  ·rename_i a hx;simp only[hx] at h;exact hk _ _ h
  ·rename_i hx;split at h
   ·rename_i a ha;exact absurd ha (hx a)
   ·obtain ⟨v,h1,h2⟩:=h;exact ⟨v,h1,hk _ _ h2⟩
 case binOp op t x y u=>
  split
  ·rename_i v hv;simp only[hv] at h;exact hk _ _ h
  ·rename_i hv;simp only[hv] at h;exact qC hk h
 case unOp op t x=>
  split
  ·rename_i b hb;simp only[hb] at h;exact hk _ _ h
  ·rename_i hb;split at h
   ·rename_i b hb';exact (hb b rfl hb').elim
   ·exact qC hk h
 case extract x i=>
  split
  ·rename_i vs hx;simp only[hx] at h;split
   ·rename_i v hv;simp only[hv] at h;exact hk _ _ h
   ·rename_i hv;simp only[hv] at h
  ·rename_i hx;split at h
   ·rename_i vs hvs;exact absurd hvs (hx vs)
   ·exact h
 case call c=>
  split
  ·rename_i fv hc;simp only[hc] at h;unfold js at h ⊢;split
   ·rename_i g a b hg;simp only[hg] at h;exact h.mono hk
   ·rename_i hg;split at h
    ·rename_i g a b hg';exact absurd hg' (hg g a b)
    ·exact h
  ·rename_i b hc;simp only[hc] at h;obtain ⟨v,w',hr,hh⟩:=h;exact ⟨v,w',hr,hk _ _ hh⟩
  ·rename_i h1 h2;split at h
   ·rename_i fv hfv;exact absurd hfv (h1 fv)
   ·rename_i b hb;exact absurd hb (h2 b)
   ·exact h
 case store t a x=>exact nY hk h
 case mapUpdate t m i x=>exact nY hk h
 case insert t m i x=>exact nY hk h
 case entryStore t m i x=>exact nY hk h
 all_goals first | exact qC hk h | exact h
attribute [irreducible] vB F0 b7 fZ eY hH KZ cU N_ pC mX ml cu eP mm Ds lI sw
 gw nV nW kS qy uB vC bU js
def jt (P:Program)(N:Nat)(ops:Array Oper)(k:Fr→World→Prop):List Oper→Fr→World→Prop
 | [],f,w=>k f w
 | ⟨dst,op,ty,_,_,none⟩::rest,f,w=>pD P N dst op ty f w (jt P N ops k rest)
 | ⟨dst,op,ty,_,_,some (j,want)⟩::rest,f,w=>
   match (ops[j]?).bind (·.dst) with
   | some d=>
    match f d with
    | .bool b=>match want with
     | true=>gG b (pD P N dst op ty f w (jt P N ops k rest)) (jt P N ops k rest (dq N f dst undef) w)
     | false=>gG b (jt P N ops k rest (dq N f dst undef) w) (pD P N dst op ty f w (jt P N ops k rest))
    | _=>jt P N ops k rest (dq N f dst undef) w
   | none=>jt P N ops k rest (dq N f dst undef) w
def fV:Op→Bool
 | .move _ | .assign _ | .pick .. | .load .. | .nilCheck _ | .binOp .. | .unOp .. | .convert .. | .slice .. | .fieldAddr .. | .field .. | .indexAddr .. | .index ..
 | .lookup .. | .extract .. | .build .. | .makeFunc .. =>false
 | .call { callee:=.builtin .len,.. } | .call { callee:=.builtin .cap,.. } | .call { callee:=.builtin .min,.. } | .call { callee:=.builtin .max,.. }=>false
 | _=>true
def kT (ops:Array Oper):Bool:=
 (List.range ops.size).all fun j=>match ops[j]? with
  | some o=>o.after.all fun e=> !Region.binds .any e||decide (e.on<j)
  | none=>true
def F3 (after:List Edge)(acc:Array Nat):Nat:=after.foldl (fun s e=>bif Region.binds .any e then s |||2^e.on |||acc.getD e.on 0 else s) 0
def kU:List Oper→Array Nat→Array Nat
 | [],acc=>acc
 | o::l,acc=>kU l (acc.push (F3 o.after.toList acc))
def f_ (c:Array Nat)(j i:Nat):Bool:=(c.getD j 0).testBit i
def H8 (ops:Array Oper)(c:Array Nat)(i j:Nat):Bool:=
 match ops[i]?,ops[j]? with
 | some x,some y=>(x.apart ops y&& !(fV x.op&&fV y.op))||f_ c j i
 | _,_=>true
def xt (ops:Array Oper):Bool:=
 kT ops&&(List.range ops.size).all fun j=>(List.range j).all fun i=>H8 ops (kU ops.toList #[]) i j
def kV (ops:Array Oper)(i:Nat):Bool:=
 (List.range ops.size).all fun j=>j==i||(match ops[j]? with | some o=>fV o.op | none=>true)||f_ (kU ops.toList #[]) i j
def mY (ops:Array Oper)(D:Nat→Prop):Prop:=∀ j,D j→∀ o,ops[j]?=some o→∀ e ∈ o.after,Region.binds .any e=true→D e.on
theorem vD {acc:Array Nat}{i:Nat}:∀ (after:List Edge) (s:Nat),(after.foldl (fun s e=>bif Region.binds .any e then s |||2^e.on |||acc.getD e.on 0 else s) s).testBit i=true→
  s.testBit i=true∨∃ e ∈ after,Region.binds .any e=true∧(e.on=i∨(acc.getD e.on 0).testBit i=true):=by
 intro after
 induction after with
 | nil=>intro s h;exact .inl h
 | cons e l ih=>
  intro s h;simp only[List.foldl_cons] at h;rcases ih _ h with h | ⟨e',he',h⟩
  ·cases hb:Region.binds .any e with
   | false=>rw[hb] at h;exact .inl h
   | true=>
    rw[hb] at h;simp only[cond_true,Nat.testBit_or,Bool.or_eq_true,Nat.testBit_two_pow,decide_eq_true_eq] at h;rcases h with (h | h) | h
    ·exact .inl h
    ·exact .inr ⟨e,.head _,hb,.inl h⟩
    ·exact .inr ⟨e,.head _,hb,.inr h⟩
  ·exact .inr ⟨e',.tail _ he',h⟩
theorem za {ops:Array Oper}{D:Nat→Prop}(hD:mY ops D):∀ (l:List Oper) (acc:Array Nat),(∀ k,l[k]?=ops[acc.size+k]?)→
  (∀ j i,D j→f_ acc j i=true→D i)→∀ j i,D j→f_ (kU l acc) j i=true→D i:=by
 intro l
 induction l with
 | nil=>intro acc _ h;exact h
 | cons o l ih=>
  intro acc hl h;refine ih _ (fun k=>by have:=hl (k+1);simpa [Nat.add_assoc,Nat.add_comm 1 k] using this) ?_;intro j i hj hw;by_cases hjs:j<acc.size
  ·refine h j i hj ?_;unfold f_ at hw ⊢;simpa [Array.getD,hjs,Nat.lt_succ_of_lt hjs,Array.getElem_push_lt hjs] using hw
  ·by_cases hje:j=acc.size
   ·subst hje;have ho:ops[acc.size]?=some o:=by have:=hl 0;simpa using this.symm
    unfold f_ at hw;simp[Array.getD] at hw;rcases vD _ _ hw with h0 | ⟨e,he,hb,h1⟩
    ·simp at h0
    ·have hde:=hD _ hj o ho e (by simpa using he) hb;rcases h1 with h1 | h1
     ·exact h1 ▸ hde
     ·exact h _ _ hde h1
   ·unfold f_ at hw;have:¬ j<acc.size+1:=by omega
    simp[Array.getD,this] at hw
theorem ju {ops:Array Oper}{D:Nat→Prop}(hD:mY ops D)(j i:Nat)(hj:D j)(hw:f_ (kU ops.toList #[]) j i=true):D i:=
 za hD ops.toList #[] (fun k=>by simp) (fun j i _ h=>by simp[f_] at h) j i hj hw
def eQ (P:Program)(C:World→Prop)(o:Oper)(a:Act)(v:Value):Prop:=∀ w,C w→(execOp a.eval o).run P w=.ok (.value v) w
def eZ (P:Program)(ops:Array Oper)(C:World→Prop)(Q:Act→World→Prop):List Nat→Act→World→Prop
 | [],a,w=>Q a w
 | i::rest,a,w=>
  match ops[i]? with
  | none=>eZ P ops C Q rest a w
  | some o=>
   if Region.wanted o (yielded ops a.tmps) then
    (if fV o.op then bC P o a.eval w fun v w'=>(C w'∨kV ops i=true)∧eZ P ops C Q rest (a.put o.dst v) w'
     else ∃ v,eQ P C o a v∧eZ P ops C Q rest (a.put o.dst v) w)
   else eZ P ops C Q rest (a.put o.dst undef) w
def mn (P:Program)(ops:Array Oper)(C:World→Prop)(i:Nat)(K:Act→World→Prop)(a:Act)(w:World):Prop:=
 match ops[i]? with
 | none=>K a w
 | some o=>
  if Region.wanted o (yielded ops a.tmps) then
   (if fV o.op then bC P o a.eval w fun v w'=>(C w'∨kV ops i=true)∧K (a.put o.dst v) w'
    else ∃ v,eQ P C o a v∧K (a.put o.dst v) w)
  else K (a.put o.dst undef) w
section mix
variable {P:Program} {ops:Array Oper} {C:World→Prop}
theorem ff {o:Oper}{ρ ρ':Operand→Value}{w:World}{k:Value→World→Prop}(he:execOp ρ' o=execOp ρ o):bC P o ρ' w k=bC P o ρ w k:=by
 unfold bC;rw[he]
theorem pull {Q:Act→World→Prop}{i:Nat}{oi:Oper}(hi:ops[i]?=some oi)(hns:Region.noSelect ops=true)(post:List Nat):∀ (pre:List Nat) (a:Act) (w:World),(C w∨∀ k ∈ pre++i::post,∀ o,ops[k]?=some o→fV o.op=true)→
  (∀ k ∈ pre,∀ ok,ops[k]?=some ok→ok.apart ops oi=true∧(fV ok.op&&fV oi.op)=false∧(fV oi.op=false→kV ops k=false))→
  eZ P ops C Q (pre++i::post) a w→mn P ops C i (eZ P ops C Q (pre++post)) a w:=by
 have hsel:=Region.noSelect_spec hns;intro pre
 induction pre with
 | nil=>intro a w _ _ h;exact h
 | cons k pre ih=>
  intro a w hC hp h;have ih':=fun a w hC h=>ih a w hC (fun k hk=>hp k (.tail _ hk)) h;have hC':C w∨∀ k ∈ pre++i::post,∀ o,ops[k]?=some o→fV o.op=true:=hC.imp id fun hh k hk=>hh k (.tail _ hk);simp only[List.cons_append,eZ] at h
  cases hk:ops[k]? with
  | none=>
   simp only[hk] at h;have:=ih' a w hC' h;unfold mn at this ⊢;simp only[hi] at this ⊢;simpa only[List.cons_append,eZ,hk] using this
  | some ok=>
   simp only[hk] at h;obtain ⟨hap,hll,htl⟩:=hp k (.head _) ok hk;obtain ⟨h1,h2,h3⟩:=Oper.apart_spec hap;have selk:=fun cs b=>hsel k ok cs b hk;have seli:=fun cs b=>hsel i oi cs b hi;have exi:∀ (a:Act) (u:Value),execOp (a.put ok.dst u).eval oi=execOp a.eval oi:=fun a u=>execOp_put oi seli a ok.dst u h1;have exk:∀ (a:Act) (u:Value),execOp (a.put oi.dst u).eval ok=execOp a.eval ok:=fun a u=>execOp_put ok selk a oi.dst u h3;have wai:∀ (a:Act) (u:Value),Region.wanted oi (yielded ops (a.put ok.dst u).tmps)=Region.wanted oi (yielded ops a.tmps):=fun a u=>wanted_put oi a ok.dst u h1;have wak:∀ (a:Act) (u:Value),Region.wanted ok (yielded ops (a.put oi.dst u).tmps)=Region.wanted ok (yielded ops a.tmps):=fun a u=>wanted_put ok a oi.dst u h3;have comm:∀ (a:Act) (u v:Value),(a.put ok.dst u).put oi.dst v=(a.put oi.dst v).put ok.dst u:=fun a u v=>(Act.put_comm a u v h2);have qi:∀ (a:Act) (u v:Value),eQ P C oi (a.put ok.dst u) v↔eQ P C oi a v:=fun a u v=>by unfold eQ;rw[exi]
   have qk:∀ (a:Act) (u v:Value),eQ P C ok (a.put oi.dst u) v↔eQ P C ok a v:=fun a u v=>by unfold eQ;rw[exk]
   by_cases hwk:Region.wanted ok (yielded ops a.tmps)=true
   ·rw[if_pos hwk] at h;by_cases hlk:fV ok.op=true
    ·rw[if_pos hlk] at h;have hli:fV oi.op=false:=by simpa [hlk] using hll
     have hCw:C w:=hC.resolve_right fun hh=>by
      have:=hh i (by simp) oi hi;rw[hli] at this;cases this
     have h':=h.mono (k':=fun v w'=>C w'∧mn P ops C i (eZ P ops C Q (pre++post)) (a.put ok.dst v) w') fun v w' hh=>
      have hc:=hh.1.resolve_right (by rw[htl hli];simp)
      ⟨hc,ih' _ _ (.inl hc) hh.2⟩
     unfold mn at h' ⊢;simp only[hi,hli,wai] at h' ⊢;by_cases hwi:Region.wanted oi (yielded ops a.tmps)=true
     ·simp only[hwi,if_true,Bool.false_eq_true,if_false] at h' ⊢;obtain ⟨v0,w0,_,u0,hu0,_⟩:=h'.some;rw[qi] at hu0;refine ⟨u0,hu0,?_⟩;simp only[List.cons_append,eZ,hk,wak,hwk,if_true,hlk];rw[ff (exk a u0)];refine h'.mono fun v w' ⟨hC',u,hu,hh⟩=>⟨.inl hC',?_⟩;rw[qi] at hu;have e:=(hu w hCw).symm.trans (hu0 w hCw);injection e with e _;injection e with e;subst e;rw[← comm];exact hh
     ·simp only[hwi,if_false,Bool.false_eq_true] at h' ⊢;simp only[List.cons_append,eZ,hk,wak,hwk,if_true,hlk];rw[ff (exk a undef)];refine h'.mono fun v w' ⟨hC',hh⟩=>⟨.inl hC',?_⟩;rw[← comm];exact hh
    ·rw[if_neg hlk] at h;obtain ⟨v,hv,h⟩:=h;have h':=ih' _ _ hC' h;unfold mn at h' ⊢;simp only[hi,wai,ff (exi a v)] at h' ⊢;have fin:∀ u w',eZ P ops C Q (pre++post) ((a.put ok.dst v).put oi.dst u) w'→eZ P ops C Q (k::pre++post) (a.put oi.dst u) w':=by
      intro u w' hh;simp only[List.cons_append,eZ,hk,wak,hwk,if_true,hlk,if_false,Bool.false_eq_true];exact ⟨v,(qk a u v).2 hv,by rw[← comm];exact hh⟩
     split
     ·rename_i hwi;rw[if_pos hwi] at h';split
      ·rename_i hli;rw[if_pos hli] at h';exact h'.mono fun u w' hh=>⟨hh.1,fin _ _ hh.2⟩
      ·rename_i hli;rw[if_neg hli] at h';obtain ⟨u,hu,hh⟩:=h';exact ⟨u,(qi a v u).1 hu,fin _ _ hh⟩
     ·rename_i hwi;rw[if_neg hwi] at h';exact fin _ _ h'
   ·rw[if_neg hwk] at h;have h':=ih' _ _ hC' h;unfold mn at h' ⊢;simp only[hi,wai,ff (exi a undef)] at h' ⊢;have fin:∀ u w',eZ P ops C Q (pre++post) ((a.put ok.dst undef).put oi.dst u) w'→eZ P ops C Q (k::pre++post) (a.put oi.dst u) w':=by
     intro u w' hh;simp only[List.cons_append,eZ,hk,wak,hwk,if_false,Bool.false_eq_true];rw[← comm];exact hh
    split
    ·rename_i hwi;rw[if_pos hwi] at h';split
     ·rename_i hli;rw[if_pos hli] at h';exact h'.mono fun u w' hh=>⟨hh.1,fin _ _ hh.2⟩
     ·rename_i hli;rw[if_neg hli] at h';obtain ⟨u,hu,hh⟩:=h';exact ⟨u,(qi a undef u).1 hu,fin _ _ hh⟩
    ·rename_i hwi;rw[if_neg hwi] at h';exact fin _ _ h'
theorem gC (h:kT ops=true){j:Nat}{o:Oper}(hj:ops[j]?=some o){e:Edge}(he:e ∈ o.after)(hb:Region.binds .any e=true):e.on<j:=by
 unfold kT at h;rw[List.all_eq_true] at h;have hlt:j<ops.size:=(Array.getElem?_eq_some_iff.1 hj).1;have:=h j (List.mem_range.2 hlt);rw[hj] at this;simp only at this;rw[Array.all_eq_true] at this;obtain ⟨x,hx,hex⟩:=Array.mem_iff_getElem.1 he;have:=this x hx;rw[hex] at this;simpa [hb] using this
theorem sy {Q:Act→World→Prop}{Q':Exit→Act→World→Prop}(hQ:∀ a w,Q a w→Q' .normal a w)(hns:Region.noSelect ops=true)(hm:xt ops=true) :
  ∀ (l:List Nat) (listed:Array Bool) (a:Act) (w:World),l.Pairwise (· < ·)→(∀ j,j ∈ l↔j<ops.size∧listed.getD j true=false)→listed.size=ops.size→
  (∀ j o,ops[j]?=some o→listed.getD j false=true→∀ e ∈ o.after,Region.binds .any e=true→listed.getD e.on false=true)→
  (C w∨∀ k ∈ l,∀ o,ops[k]?=some o→fV o.op=true)→eZ P ops C Q l a w→wpAny P .any ops Q' l.length listed a w:=by
 simp only[xt,Bool.and_eq_true] at hm;obtain ⟨hdir,hpair⟩:=hm;have key:∀ (n:Nat) (l:List Nat) (listed:Array Bool) (a:Act) (w:World),l.length=n→l.Pairwise (· < ·)→(∀ j,j ∈ l↔j<ops.size∧listed.getD j true=false)→listed.size=ops.size→
  (∀ j o,ops[j]?=some o→listed.getD j false=true→∀ e ∈ o.after,Region.binds .any e=true→listed.getD e.on false=true)→
  (C w∨∀ k ∈ l,∀ o,ops[k]?=some o→fV o.op=true)→eZ P ops C Q l a w→wpAny P .any ops Q' n listed a w:=by
  intro n
  induction n with
  | zero=>
   intro l listed a w hn hpw hmem hsz hcl hC h;have hl:l=[]:=List.eq_nil_of_length_eq_zero hn;subst hl;refine ⟨?_,hQ _ _ h⟩;rw[List.eq_nil_iff_forall_not_mem];intro i hi;obtain ⟨h1,oi,h2,_⟩:=mem_ready.1 hi;have:=(hmem i).2 ⟨(Array.getElem?_eq_some_iff.1 h2).1,h1⟩
   cases this
  | succ n ih=>
   intro l listed a w hn hpw hmem hsz hcl hC h;have gfalse:∀ j,j<ops.size→j ∉ l→listed.getD j false=true:=by
    intro j hj hjl;have:¬ listed.getD j true=false:=fun hh=>hjl ((hmem j).2 ⟨hj,hh⟩);have hjs:j<listed.size:=by omega
    simp only[Array.getD,hjs,dif_pos] at this ⊢;simpa using this
   constructor
   ·intro hr;exfalso
    cases l with
    | nil=>simp at hn
    | cons i l=>
     have hi:=(hmem i).1 (.head _);have hin:i ∈ Region.ready .any ops listed:=by
      refine mem_ready.2 ⟨hi.2,ops[i],Array.getElem?_eq_getElem hi.1,?_⟩;intro e he hb;have hlt:=gC hdir (Array.getElem?_eq_getElem hi.1) he hb;refine gfalse _ (by omega) fun hmem'=>?_;rcases List.mem_cons.1 hmem' with h | h
      ·omega
      ·have:=(List.pairwise_cons.1 hpw).1 _ h;omega
     rw[hr] at hin
     cases hin
   ·intro i hi;obtain ⟨hun,oi,hoi,hpre⟩:=mem_ready.1 hi;have hilt:i<ops.size:=(Array.getElem?_eq_some_iff.1 hoi).1;have hil:i ∈ l:=(hmem i).2 ⟨hilt,hun⟩;obtain ⟨pre,post,rfl⟩:=List.append_of_mem hil;have hpw':=List.pairwise_append.1 hpw;have hlt:∀ k ∈ pre,k<i:=fun k hk=>hpw'.2.2 k hk i (.head _);have hgt:∀ k ∈ post,i<k:=fun k hk=>(List.pairwise_cons.1 hpw'.2.1).1 k hk;have hclD:mY ops fun j=>j=i∨listed.getD j false=true:=fun j hj o ho e he hb=>by
     rcases hj with rfl | hj
     ·rw[hoi] at ho;injection ho with ho;subst ho;exact .inr (hpre e he hb)
     ·exact .inr (hcl j o ho hj e he hb)
    have hnw:∀ k,k≠i→k ∈ pre++i::post→f_ (kU ops.toList #[]) i k=false:=by
     intro k hki hk;rw[Bool.eq_false_iff];intro hw;rcases ju hclD i k (.inl rfl) hw with h | h
     ·exact hki h
     ·have:=((hmem k).1 hk);have hks:k<listed.size:=by omega
      have h2:=this.2;simp only[Array.getD,hks,dif_pos] at h h2;rw[h] at h2;cases h2
    have hp:∀ k ∈ pre,∀ ok,ops[k]?=some ok→ok.apart ops oi=true∧(fV ok.op&&fV oi.op)=false∧(fV oi.op=false→kV ops k=false):=by
     intro k hk ok hok;rw[List.all_eq_true] at hpair;have h1:=hpair i (List.mem_range.2 hilt);rw[List.all_eq_true] at h1;have h2:=h1 k (List.mem_range.2 (hlt k hk));unfold H8 at h2;have hki:k≠i:=by have:=hlt k hk;omega
     simp only[hok,hoi,hnw k hki (by simp[hk]),Bool.or_false,Bool.and_eq_true] at h2;refine ⟨h2.1,?_,?_⟩
     ·have:=h2.2
      cases hx:(fV ok.op&&fV oi.op)
      ·rfl
      ·rw[hx] at this;cases this
     ·intro hq;rw[Bool.eq_false_iff];intro ht;unfold kV at ht;rw[List.all_eq_true] at ht;have h3:=ht i (List.mem_range.2 hilt);simp only[hoi,hq,Bool.or_false,Bool.or_eq_true,beq_iff_eq] at h3;rcases h3 with h3 | h3
      ·exact hki h3.symm
      ·have:=ju (ops:=ops) (D:=fun j=>j≤k) (fun j hj o ho e he hb=>by have:=gC hdir ho he hb;show e.on≤k;omega) k i (Nat.le_refl _) h3;have:=hlt k hk;omega
    have hs:=pull hoi hns post pre a w hC hp h;have hnext:∀ a' w',(C w'∨kV ops i=true∨∀ k ∈ pre++i::post,∀ o,ops[k]?=some o→fV o.op=true)→eZ P ops C Q (pre++post) a' w'→wpAny P .any ops Q' n (listed.setIfInBounds i true) a' w':=by
     intro a' w' hC' hh;have his:i<listed.size:=by omega
     have hC':C w'∨∀ k ∈ pre++post,∀ o,ops[k]?=some o→fV o.op=true:=by
      rcases hC' with h | h | h
      ·exact .inl h
      ·refine .inr fun k hk o ho=>?_;have hki:k≠i:=by
        rcases List.mem_append.1 hk with h | h
        ·have:=hlt k h;omega
        ·have:=hgt k h;omega
       have hkl:k ∈ pre++i::post:=by
        rcases List.mem_append.1 hk with h | h
        ·simp[h]
        ·simp[h]
       unfold kV at h;rw[List.all_eq_true] at h;have h3:=h k (List.mem_range.2 ((hmem k).1 hkl).1);simp only[ho,hnw k hki hkl,Bool.or_false,Bool.or_eq_true,beq_iff_eq] at h3;exact h3.resolve_left hki
      ·exact .inr fun k hk=>h k (by
        rcases List.mem_append.1 hk with h | h
        ·simp[h]
        ·simp[h])
     refine ih (pre++post) _ a' w' (by simp at hn ⊢;omega) ?_ ?_ (by simp[hsz]) ?_ hC' hh
     ·exact List.pairwise_append.2 ⟨hpw'.1,(List.pairwise_cons.1 hpw'.2.1).2,fun x hx y hy=>hpw'.2.2 x hx y (.tail _ hy)⟩
     ·intro j;have hj:=hmem j;by_cases hji:j=i
      ·subst hji;simp only[Array.getD,Array.size_setIfInBounds,his,dif_pos];constructor
       ·intro hh;rcases List.mem_append.1 hh with h | h
        ·have:=hlt j h;omega
        ·have:=hgt j h;omega
       ·intro hh;simp at hh
      ·rw[getD_set_ne true (Ne.symm hji)];rw[← hj];simp[hji]
     ·intro j o ho hj e he hb;have gset:∀ k,(listed.setIfInBounds i true).getD k false=true↔k=i∨listed.getD k false=true:=by
       intro k;by_cases hki:k=i
       ·subst hki;simp[Array.getD,his]
       ·rw[getD_set_ne false (Ne.symm hki)];simp[hki]
      rw[gset] at hj ⊢;rcases hj with rfl | hj
      ·rw[hoi] at ho;injection ho with ho;subst ho;exact .inr (hpre e he hb)
      ·exact .inr (hcl j o ho hj e he hb)
    unfold mn at hs;unfold wpOp;simp only[hoi] at hs ⊢;split
    ·rename_i hw;rw[if_pos hw] at hs
     left
     split at hs
     ·exact hs.wp fun v w' hh=>hnext _ _ (hh.1.imp id .inl) hh.2
     ·rename_i hlo;obtain ⟨v,hv,hh⟩:=hs;have hCw:C w:=hC.resolve_right fun hh=>hlo (hh i (by simp) oi hoi);exact (cG (hv w hCw) (k:=fun u w'=>u=v∧w'=w) ⟨rfl,rfl⟩).wp fun u w' ⟨hu,hw'⟩=>by subst hu;subst hw';exact hnext _ _ (.inl hCw) hh
    ·rename_i hw;rw[if_neg hw] at hs;exact hnext _ _ (hC.imp id .inr) hs
 intro l listed a w hpw hmem hsz hcl hC h;exact key _ l listed a w rfl hpw hmem hsz hcl hC h
theorem zb {id:Nat}{Q:Act→World→Prop}{Q':Exit→Act→World→Prop}(hQ:∀ a w,Q a w→Q' .normal a w)(hf:P.follows .mixedOrders=true)(hns:Region.noSelect ops=true)(hm:xt ops=true){a:Act}{w:World}(hC:C { w with drawn:=w.drawn+1 })(h:eZ P ops C Q (List.range ops.size) a { w with drawn:=w.drawn+1 }):(Code.region id ops true).wp P Q' a w:=by
 refine wp_region_any hf ?_;have:=sy (P:=P) (C:=C) hQ hns hm (List.range ops.size) (Array.replicate ops.size false) a _ List.pairwise_lt_range (fun j=>by
  simp only[List.mem_range];constructor
  ·intro hj;exact ⟨hj,by simp[Array.getD,hj]⟩
  ·intro hj;exact hj.1) (by simp) (fun j o ho hj=>by
   have hjs:j<ops.size:=(Array.getElem?_eq_some_iff.1 ho).1;simp[Array.getD,hjs] at hj) (.inl hC) h
 simpa using this
end mix
def cV (M:List Nat)(f g:Fr):Prop:=∀ t,¬ t ∈ M→f t=g t
theorem cV.refl (M:List Nat)(f:Fr):cV M f f:=fun _ _=>rfl
theorem cV.trans {M:List Nat}{f g h:Fr}(a:cV M f g)(b:cV M g h):cV M f h:=fun t ht=>(a t ht).trans (b t ht)
theorem cV.mono {M M':List Nat}{f g:Fr}(a:cV M f g)(h:∀ t,t ∈ M→t ∈ M'):cV M' f g:=fun t ht=>a t fun hh=>ht (h t hh)
theorem cV.dq {M:List Nat}{N:Nat}{f:Fr}{d:Option Nat}{v:Value}(h:∀ x,d=some x→x ∈ M):cV M (dq N f d v) f:=by
 intro t ht
 cases d with
 | none=>rfl
 | some d=>
  have hne:t≠d:=fun e=>ht (e ▸ h d rfl);have:Nat.beq t d=false:=by
   rw[Bool.eq_false_iff];intro hh;exact hne (Nat.eq_of_beq_eq_true hh)
  simp[Dk.dq,Na,this]
def gI (l:List Oper):List Nat:=l.filterMap (·.dst)
def kW (P:Program)(N:Nat)(ops:Array Oper)(k:Fr→World→Prop)(f:Fr)(w:World):Prop:=
 ∀ a,R N a f→∀ id Q,(∀ a' f' w',R N a' f'→cV (gI ops.toList) f' f→k f' w'→Q .normal a' w')→(Code.region id ops true).wp P Q a w
theorem oX {N:Nat}{a:Act}{f:Fr}(hR:R N a f)(ops:Array Oper)(j d:Nat)(hd:(ops[j]?).bind (·.dst)=some d) :
  yielded ops a.tmps j=match f d with | .bool b=>some b | _=>none:=by
 have hg:=hR.get d;unfold yielded;simp only[hd,Option.bind_some];by_cases hs:d<a.tmps.size
 ·simp only[Array.getD,hs,dif_pos] at hg;rw[Array.getElem?_eq_getElem hs];have hg':a.tmps[d]=f d:=hg;rw[hg']
  cases f d <;> rfl
 ·simp only[Array.getD,hs,dif_neg,not_false_eq_true] at hg;rw[Array.getElem?_eq_none (by omega),← hg];rfl
theorem oK {α:Type}{r:Result α}{g:α→Value}{n:Next}{w':World}(h:(r.andThen fun a w=>Result.ok (Next.value (g a)) w)=.ok n w'):∃ v,n=.value v:=by
 cases r with
 | ok a w=>simp at h;exact ⟨_,h.1.symm⟩
 | halt x w=>simp[Result.andThen] at h
theorem rl {P:Program}{o:Oper}(hq:fV o.op=false)(ρ:Operand→Value)(w:World){n:Next}{w':World}(h:(execOp ρ o).run P w=.ok n w'):∃ v,n=.value v:=by
 obtain ⟨dst,op,ty,pos,after,guard⟩:=o;have val:∀ {s:Sem Value},((do let v ← s;pure (Next.value v):Sem Next).run P w=.ok n w')→∃ v,n=.value v:=by
  intro s hs;rw[Sem.run_bind] at hs;exact oK (g:=fun v=>v) hs
 cases op <;> simp only[fV,Bool.true_eq_false] at hq
 case move x=>simp[execOp] at h;exact ⟨_,h.1.symm⟩
 case assign x=>simp[execOp] at h;exact ⟨_,h.1.symm⟩
 case pick c a b=>
  simp only[execOp,Sem.run_bind] at h;exact oK h
 case load t x=>exact val h
 case nilCheck x=>
  simp only[execOp] at h;split at h
  ·simp[runtimePanic] at h
  ·simp[runtimePanic] at h
  ·simp[runtimePanic] at h
  ·split at h
   ·simp[runtimePanic] at h
   ·rw[Sem.run_bind] at h;simp only[run_program,Result.andThen_ok,Sem.run_bind] at h;generalize (nilAhead _ _ _ _).run P w=r at h
    cases r with
    | halt x w=>simp[Result.andThen] at h
    | ok a w2=>
     simp only[Result.andThen_ok] at h;split at h
     ·simp at h
     ·simp at h;exact ⟨_,h.1.symm⟩
   ·simp at h;exact ⟨_,h.1.symm⟩
  ·simp at h;exact ⟨_,h.1.symm⟩
 case binOp a b c d e=>exact val h
 case unOp a b c=>exact val h
 case convert a b c=>exact val h
 case makeFunc a b c=>exact val h
 case build a b=>exact val h
 case slice a b c d e=>exact val h
 case fieldAddr a b c=>exact val h
 case field a b c=>exact val h
 case indexAddr a b c=>exact val h
 case index a b c=>exact val h
 case lookup a b c d=>exact val h
 case extract a b=>exact val h
 case call c=>
  obtain ⟨callee,args,ats⟩:=c
  cases callee with
  | value f=>simp only[Bool.true_eq_false] at hq
  | invoke f m=>simp only[Bool.true_eq_false] at hq
  | builtin b=>
   cases b <;> simp only[Bool.true_eq_false] at hq <;> simp only[execOp,resolve,invoke,builtin] at h <;> exact val h
def qK (C:World→Prop)(step:World→(Value→World→Prop)→Prop)(k:Value→Prop):Prop:=∃ v,(∀ w,C w→step w fun u w'=>u=v∧w'=w)∧k v
theorem quiet {C:World→Prop}{step:World→(Value→World→Prop)→Prop}{k:Value→Prop}(v:Value)(h:∀ w,C w→step w fun u w'=>u=v∧w'=w)(hk:k v):qK C step k:=⟨v,h,hk⟩
def mZ (P:Program)(C:World→Prop)(op:Op)(ty:TypeId)(f:Fr)(k:Value→Prop):Prop:=
 match op with
 | .move x | .assign x=>force (ev f x) k
 | .pick c a b=>
  match ev f c with
  | .bool t=>gG t (force (ev f a) k) (force (ev f b) k)
  | _=>False
 | .nilCheck x=>
  match ev f x with
  | .pointer (some a)=>k (.pointer (some a))
  | _=>qK C (fun w k'=>oJ P op ty f w k') k
 | .binOp o t x y u=>
  match Ir o (ev f x) (ev f y) with
  | some v=>k v
  | none=>qK C (fun w k'=>oJ P (.binOp o t x y u) ty f w k') k
 | .unOp o t x=>
  match o,ev f x with
  | .not,.bool b=>k (.bool !b)
  | _,_=>qK C (fun w k'=>oJ P (.unOp o t x) ty f w k') k
 | .extract x i=>
  match ev f x with
  | .tuple ⟨vs⟩=>match vs[i]? with | some v=>force v k | none=>False
  | _=>False
 | op=>qK C (fun w k'=>oJ P op ty f w k') k
theorem m_ {P:Program}{C:World→Prop}{o:Oper}{a:Act}{f:Fr}{N:Nat}(hR:R N a f)(hq:fV o.op=false){k:Value→Prop}(h:qK C (fun w k'=>oJ P o.op o.type f w k') k):∃ v,eQ P C o a v∧k v:=by
 obtain ⟨v,h1,h2⟩:=h;refine ⟨v,fun w hw=>?_,h2⟩;have h3:=nX o (h1 w hw);rw[← hR.eval] at h3;unfold bC at h3;split at h3
 ·rename_i u w' hr;rw[hr,h3.1,h3.2]
 ·rename_i w' hr;obtain ⟨u,hu⟩:=rl hq _ _ hr;cases hu
 ·rename_i g as' w' hr;obtain ⟨u,hu⟩:=rl hq _ _ hr;cases hu
 ·exact h3.elim
theorem sA {P:Program}{C:World→Prop}{o:Oper}{a:Act}{f:Fr}{N:Nat}(hR:R N a f)(hq:fV o.op=false){k:Value→Prop}(h:mZ P C o.op o.type f k):∃ v,eQ P C o a v∧k v:=by
 have gen:∀ v,(∀ w,oJ P o.op o.type f w fun u w'=>u=v∧w'=w)→k v→∃ v,eQ P C o a v∧k v:=
  fun v h1 h2=>m_ hR hq ⟨v,fun w _=>h1 w,h2⟩
 obtain ⟨dst,op,ty,pos,after,guard⟩:=o
 cases op <;> simp only[mZ] at h
 case move x=>rw[force_eq] at h;exact gen _ (fun w=>by simp[oJ,force_eq]) h
 case assign x=>rw[force_eq] at h;exact gen _ (fun w=>by simp[oJ,force_eq]) h
 case pick c x y=>
  split at h
  ·rename_i t hc;rw[dP] at h
   cases t
   ·simp[force_eq] at h;exact gen _ (fun w=>by simp[oJ,hc,dP,force_eq]) h
   ·simp[force_eq] at h;exact gen _ (fun w=>by simp[oJ,hc,dP,force_eq]) h
  ·exact h.elim
 case nilCheck x=>
  split at h
  ·rename_i ad hx;exact gen _ (fun w=>by simp[oJ,hx]) h
  ·exact m_ hR hq h
 case binOp op t x y u=>
  split at h
  ·rename_i v hv;exact gen _ (fun w=>by simp[oJ,hv]) h
  ·exact m_ hR hq h
 case unOp op t x=>
  split at h
  ·rename_i b hx;exact gen _ (fun w=>by simp[oJ,hx]) h
  ·exact m_ hR hq h
 case extract x i=>
  split at h
  ·rename_i vs hx;split at h
   ·rename_i v hv;rw[force_eq] at h;exact gen _ (fun w=>by simp[oJ,hx,hv,force_eq]) h
   ·exact h.elim
  ·exact h.elim
 all_goals exact m_ hR hq h
def gD (P:Program)(N:Nat)(C:World→Prop)(ops:Array Oper)(k:Fr→World→Prop):Nat→List Oper→Fr→World→Prop
 | _,[],f,w=>k f w
 | s,⟨dst,op,ty,_,_,none⟩::rest,f,w=>
  match fV op with
  | true=>oJ P op ty f w fun v w'=>(C w'∨kV ops s=true)∧gD P N C ops k (s+1) rest (dq N f dst v) w'
  | false=>mZ P C op ty f fun v=>gD P N C ops k (s+1) rest (dq N f dst v) w
 | s,⟨dst,op,ty,_,_,some (j,want)⟩::rest,f,w=>
  match (ops[j]?).bind (·.dst) with
  | some d=>
   match f d with
   | .bool b=>
    match want,fV op with
    | true,true=>gG b (oJ P op ty f w fun v w'=>(C w'∨kV ops s=true)∧gD P N C ops k (s+1) rest (dq N f dst v) w') (gD P N C ops k (s+1) rest (dq N f dst undef) w)
    | true,false=>gG b (mZ P C op ty f fun v=>gD P N C ops k (s+1) rest (dq N f dst v) w) (gD P N C ops k (s+1) rest (dq N f dst undef) w)
    | false,true=>gG b (gD P N C ops k (s+1) rest (dq N f dst undef) w) (oJ P op ty f w fun v w'=>(C w'∨kV ops s=true)∧gD P N C ops k (s+1) rest (dq N f dst v) w')
    | false,false=>gG b (gD P N C ops k (s+1) rest (dq N f dst undef) w) (mZ P C op ty f fun v=>gD P N C ops k (s+1) rest (dq N f dst v) w)
   | _=>gD P N C ops k (s+1) rest (dq N f dst undef) w
  | none=>gD P N C ops k (s+1) rest (dq N f dst undef) w
theorem sB {P:Program}{N:Nat}{C:World→Prop}{ops:Array Oper}{k:Fr→World→Prop}:∀ (l:List Oper) (s:Nat) (f:Fr) (w:World) (a:Act),
  (∀ j,j<l.length→l[j]?=ops[s+j]?)→R N a f→gD P N C ops k s l f w→eZ P ops C (fun a w=>∃ f,R N a f∧k f w) (List.range' s l.length) a w:=by
 intro l
 induction l with
 | nil=>intro s f w a _ hR h;exact ⟨f,hR,h⟩
 | cons o rest ih=>
  intro s f w a hl hR h;have h0:ops[s]?=some o:=by have:=hl 0 (by simp);simpa using this.symm
  have hl':∀ j,j<rest.length→rest[j]?=ops[s+1+j]?:=fun j hj=>by
   have:=hl (j+1) (by simp;omega);simpa [Nat.add_assoc,Nat.add_comm 1 j] using this
  have next:∀ v w',gD P N C ops k (s+1) rest (dq N f o.dst v) w'→eZ P ops C (fun a w=>∃ f,R N a f∧k f w) (List.range' (s+1) rest.length) (a.put o.dst v) w':=
   fun v w' hh=>ih (s+1) _ _ _ hl' (hR.put _ _) hh
  have run1:(oJ P o.op o.type f w fun v w'=>(C w'∨kV ops s=true)∧gD P N C ops k (s+1) rest (dq N f o.dst v) w')→
    bC P o a.eval w fun v w'=>(C w'∨kV ops s=true)∧eZ P ops C (fun a w=>∃ f,R N a f∧k f w) (List.range' (s+1) rest.length) (a.put o.dst v) w':=by
   intro hh;have:=nX o hh;rw[← hR.eval] at this;exact this.mono fun v w' hv=>⟨hv.1,next _ _ hv.2⟩
  have run2:fV o.op=false→(mZ P C o.op o.type f fun v=>gD P N C ops k (s+1) rest (dq N f o.dst v) w)→
    ∃ v,eQ P C o a v∧eZ P ops C (fun a w=>∃ f,R N a f∧k f w) (List.range' (s+1) rest.length) (a.put o.dst v) w:=by
   intro hq hh;obtain ⟨v,hv,hh⟩:=sA hR hq hh;exact ⟨v,hv,next _ _ hh⟩
  simp only[List.length_cons,List.range'_succ,eZ,h0];obtain ⟨dst,op,ty,pos,after,guard⟩:=o
  cases guard with
  | none=>
   simp only[Region.wanted,if_true];simp only[gD] at h
   cases hlo:fV op with
   | true=>simp only[hlo] at h;rw[if_pos rfl];exact run1 h
   | false=>simp only[hlo] at h;rw[if_neg (by simp)];exact run2 hlo h
  | some jw=>
   obtain ⟨j,want⟩:=jw;simp only[gD] at h;simp only[Region.wanted]
   cases hd:(ops[j]?).bind (·.dst) with
   | none=>
    simp only[hd] at h;have:yielded ops a.tmps j=none:=by unfold yielded;simp[hd]
    simp[this];exact next _ _ h
   | some d=>
    simp only[hd] at h;have hy:=oX hR ops j d hd
    cases hfd:f d with
    | bool b=>
     simp only[hfd] at h hy
     cases hlo:fV op <;> cases want <;> cases b <;> simp[dP,hlo] at h <;> simp[hy] <;>
      first | exact run1 h | exact run2 hlo h | exact next _ _ h
    | _=>simp only[hfd] at h hy;simp[hy];exact next _ _ h
theorem uD {P:Program}{C:World→Prop}{op:Op}{ty:TypeId}{f:Fr}{k k':Value→Prop}(hk:∀ v,k v→k' v)(h:mZ P C op ty f k):mZ P C op ty f k':=by
 have hq:∀ {step:World→(Value→World→Prop)→Prop},qK C step k→qK C step k':=fun ⟨v,h1,h2⟩=>⟨v,h1,hk _ h2⟩
 cases op <;> simp only[mZ,force_eq] at h ⊢
 case move x=>exact hk _ h
 case assign x=>exact hk _ h
 case pick c a b=>
  split
  ·rename_i t hc;simp only[hc] at h;rw[dP] at h ⊢
   cases t
   ·exact hk _ h
   ·exact hk _ h
  ·rename_i hc;split at h
   ·rename_i t ht;exact absurd ht (hc t)
   ·exact h
 case nilCheck x=>
  split
  ·rename_i a hx;simp only[hx] at h;exact hk _ h
  ·rename_i hx;split at h
   ·rename_i a ha;exact absurd ha (hx a)
   ·exact hq h
 case binOp op t x y u=>
  split
  ·rename_i v hv;simp only[hv] at h;exact hk _ h
  ·rename_i hv;simp only[hv] at h;exact hq h
 case unOp op t x=>
  split
  ·rename_i b hb;simp only[hb] at h;exact hk _ h
  ·rename_i hb;split at h
   ·rename_i b hb';exact (hb b rfl hb').elim
   ·exact hq h
 case extract x i=>
  split
  ·rename_i vs hx;simp only[hx] at h;split
   ·rename_i v hv;simp only[hv] at h;exact hk _ h
   ·rename_i hv;simp only[hv] at h
  ·rename_i hx;split at h
   ·rename_i vs hvs;exact absurd hvs (hx vs)
   ·exact h
 all_goals exact hq h
theorem sC {P:Program}{N:Nat}{C:World→Prop}{ops:Array Oper}{k:Fr→World→Prop}(D:List Nat):∀ (s:Nat) (l:List Oper) (f:Fr) (w:World),(∀ x ∈ gI l,x ∈ D)→
  gD P N C ops k s l f w→gD P N C ops (fun f' w'=>cV D f' f∧k f' w') s l f w:=by
 have gen:∀ (l:List Oper) (s:Nat) (f0 f:Fr) (w:World),cV D f f0→(∀ x ∈ gI l,x ∈ D)→gD P N C ops k s l f w→gD P N C ops (fun f' w'=>cV D f' f0∧k f' w') s l f w:=by
  intro l
  induction l with
  | nil=>intro s f0 f w ha _ h;exact ⟨ha,h⟩
  | cons o rest ih=>
   intro s f0 f w ha hD h;obtain ⟨dst,op,ty,pos,after,guard⟩:=o;have hD':∀ x ∈ gI rest,x ∈ D:=fun x hx=>hD x (by
    cases dst with
    | none=>simpa [gI] using hx
    | some d=>simp only[gI,List.filterMap_cons];exact .tail _ hx)
   have hd:∀ x,dst=some x→x ∈ D:=fun x hx=>hD x (by subst hx;simp[gI]);have nx:∀ v w',gD P N C ops k (s+1) rest (dq N f dst v) w'→gD P N C ops (fun f' w'=>cV D f' f0∧k f' w') (s+1) rest (dq N f dst v) w':=
    fun v w' hh=>ih (s+1) f0 _ _ ((cV.dq hd).trans ha) hD' hh
   have r1:(oJ P op ty f w fun v w'=>(C w'∨kV ops s=true)∧gD P N C ops k (s+1) rest (dq N f dst v) w')→oJ P op ty f w fun v w'=>(C w'∨kV ops s=true)∧gD P N C ops (fun f' w'=>cV D f' f0∧k f' w') (s+1) rest (dq N f dst v) w':=
    fun hh=>pE (fun v w' hv=>⟨hv.1,nx _ _ hv.2⟩) hh
   have r2:(mZ P C op ty f fun v=>gD P N C ops k (s+1) rest (dq N f dst v) w)→mZ P C op ty f fun v=>gD P N C ops (fun f' w'=>cV D f' f0∧k f' w') (s+1) rest (dq N f dst v) w:=
    fun hh=>uD (fun v hv=>nx _ _ hv) hh
   cases guard with
   | none=>
    simp only[gD] at h ⊢
    cases hlo:fV op <;> simp only[hlo] at h ⊢
    ·exact r2 h
    ·exact r1 h
   | some jw=>
    obtain ⟨j,want⟩:=jw;simp only[gD] at h ⊢
    cases hdj:(ops[j]?).bind (·.dst) with
    | none=>simp only[hdj] at h ⊢;exact nx _ _ h
    | some d=>
     simp only[hdj] at h ⊢
     cases hfd:f d with
     | bool b=>
      simp only[hfd] at h ⊢
      cases hlo:fV op <;> cases want <;> cases b <;> simp only[hlo,dP,if_true,if_false,Bool.false_eq_true] at h ⊢ <;> first | exact r1 h | exact r2 h | exact nx _ _ h
     | _=>simp only[hfd] at h ⊢;exact nx _ _ h
 exact fun s l f w hD h=>gen l s f f w (.refl _ _) hD h
theorem gN {P:Program}{N:Nat}{ops:Array Oper}{k:Fr→World→Prop}{f:Fr}{w:World}(C:World→Prop)(hf:P.follows .mixedOrders=true)(hB:(Region.noSelect ops&&xt ops)=true)(hC:C w.drew)(h:gD P N C ops k 0 ops.toList f w.drew):kW P N ops k f w:=by
 intro a hR id Q hQ;simp only[Bool.and_eq_true] at hB;refine zb (C:=C) (Q:=fun a w=>∃ f',R N a f'∧(cV (gI ops.toList) f' f∧k f' w)) (fun a w ⟨f,hR,hk⟩=>hQ _ _ _ hR hk.1 hk.2) hf hB.1 hB.2 hC ?_;have:=sB ops.toList 0 f w.drew a (fun j _=>by simp) hR (sC (gI ops.toList) 0 ops.toList f w.drew (fun _ h=>h) h);simpa [List.range_eq_range'] using this
attribute [irreducible] qK kW
def AL (body:(Fr→World→Prop)→Fr→World→Prop)(f:Fr)(w:World):Prop:=
 ∃ J:Nat→Fr→World→Prop,(∃ n,J n f w)∧∀ n f w,J n f w→body (fun f' w'=>∃ m,m<n∧J m f' w') f w
def AM (v:Value)(p q:Prop):Prop:=match v with | .bool b=>gG b p q | _=>False
def W (P:Program)(N:Nat):Code→(Fr→World→Prop)→(Nat→Fr→World→Prop)→(Fr→World→Prop)→Fr→World→Prop
 | .skip,kn,_,_,f,w=>kn f w
 | .label _,kn,_,_,f,w=>kn f w
 | .seq a b,kn,kx,kr,f,w=>W P N a (fun f w=>W P N b kn kx kr f w) kx kr f w
 | .cond c x y,kn,kx,kr,f,w=>AM (ev f c) (W P N x kn kx kr f w) (W P N y kn kx kr f w)
 | .block id c,kn,kx,kr,f,w=>W P N c kn (fun j f w=>bif Nat.beq j id then kn f w else kx j f w) kr f w
 | .exit id,_,kx,_,f,w=>kx id f w
 | .ret,_,_,kr,f,w=>kr f w
 | .loop c,_,kx,kr,f,w=>AL (fun kn f w=>W P N c kn kx kr f w) f w
 | .scope c,kn,kx,kr,f,w=>W P N c kn kx kr f w
 | .region _ ops draw,kn,_,_,f,w=>match draw with
  | true=>kW P N ops kn f w
  | false=>jt P N ops kn ops.toList f w
 | _,_,_,_,_,_=>False
def postOf (N:Nat)(kn:Fr→World→Prop)(kx:Nat→Fr→World→Prop)(kr:Fr→World→Prop):Exit→Act→World→Prop
 | .normal,a,w=>∃ f,R N a f∧kn f w
 | .exit id,a,w=>∃ f,R N a f∧kx id f w
 | .ret,a,w=>∃ f,R N a f∧kr f w
 | _,_,_=>False
theorem zc {P:Program}{N:Nat}{ops:Array Oper}{k:Fr→World→Prop}{Q:Exit→Act→World→Prop}(hk:∀ a' f' w',R N a' f'→k f' w'→Q .normal a' w') :
  ∀ (l:List Oper) (a:Act) (f:Fr) (w:World),R N a f→jt P N ops k l f w→wpList P ops Q l a w:=by
 intro l
 induction l with
 | nil=>intro a f w hR h;exact hk _ _ _ hR h
 | cons o rest ih=>
  intro a f w hR h;have run:pD P N o.dst o.op o.type f w (jt P N ops k rest)→o.wp P a w (wpList P ops Q rest) Q:=
   fun hh=>xr hR (fun a' f' w' hR' h'=>ih _ _ _ hR' h') hh
  have skip:jt P N ops k rest (dq N f o.dst undef) w→wpList P ops Q rest (a.put o.dst undef) w:=
   fun hh=>ih _ _ _ (hR.put _ _) hh
  obtain ⟨dst,op,ty,pos,after,guard⟩:=o;unfold wpList
  cases guard with
  | none=>
   simp only[Region.wanted,if_true];exact .inl (run h)
  | some jw=>
   obtain ⟨j,want⟩:=jw;simp only[jt] at h;simp only[Region.wanted]
   cases hd:(ops[j]?).bind (·.dst) with
   | none=>
    simp only[hd] at h;have:yielded ops a.tmps j=none:=by unfold yielded;simp[hd]
    simp[this];exact skip h
   | some d=>
    simp only[hd] at h;have hy:=oX hR ops j d hd
    cases hfd:f d with
    | bool b=>
     simp only[hfd] at h hy
     cases want <;> cases b <;> simp[dP] at h <;> simp[hy] <;> first | exact .inl (run h) | exact skip h
    | _=>simp only[hfd] at h hy;simp[hy];exact skip h
theorem na {p:Nat→Prop}(h:∃ n,p n):∃ n,p n∧∀ m,p m→n≤m:=by
 obtain ⟨n,hn⟩:=h
 induction n using Nat.strongRecOn with
 | _ n ih=>
  by_cases hm:∃ m,m<n∧p m
  ·obtain ⟨m,hlt,hp⟩:=hm;exact ih m hlt hp
  ·exact ⟨n,hn,fun m hp=>Nat.le_of_not_lt fun hlt=>hm ⟨m,hlt,hp⟩⟩
theorem F4 {P:Program}{N:Nat}(c:Code):∀ (kn:Fr→World→Prop) (kx:Nat→Fr→World→Prop) (kr:Fr→World→Prop) (f:Fr) (w:World) (a:Act),
  R N a f→W P N c kn kx kr f w→c.wp P (postOf N kn kx kr) a w:=by
 induction c with
 | skip=>intro kn kx kr f w a hR h;exact wp_skip ⟨f,hR,h⟩
 | label l=>intro kn kx kr f w a hR h;exact wp_label ⟨f,hR,h⟩
 | exit id=>intro kn kx kr f w a hR h;exact wp_exit ⟨f,hR,h⟩
 | ret=>intro kn kx kr f w a hR h;exact wp_ret ⟨f,hR,h⟩
 | goto l=>intro kn kx kr f w a hR h;exact h.elim
 | refuse y=>intro kn kx kr f w a hR h;exact h.elim
 | scope c ih=>
  intro kn kx kr f w a hR h;refine wp_scope_straight (Code.wp_mono ?_ (ih _ _ _ _ _ _ hR h));intro e a w hq
  cases e with
  | normal=>exact hq
  | exit id=>exact hq
  | goto l=>exact hq.elim
  | ret=>exact hq
  | panic ch=>exact hq.elim
  | outgrown=>exact hq.elim
 | rangeFunc x p s b ih1 ih2=>intro kn kx kr f w a hR h;exact h.elim
 | seq x y ihx ihy=>
  intro kn kx kr f w a hR h;refine wp_seq (Code.wp_mono ?_ (ihx _ _ _ _ _ _ hR h));intro e a w hq
  cases e with
  | normal=>obtain ⟨f',hR',h'⟩:=hq;exact ihy _ _ _ _ _ _ hR' h'
  | exit id=>exact hq
  | goto l=>exact hq.elim
  | ret=>exact hq
  | panic ch=>exact hq.elim
  | outgrown=>exact hq.elim
 | cond c x y ihx ihy=>
  intro kn kx kr f w a hR h;simp only[W,AM] at h;split at h
  ·rename_i b hb;have hc:a.eval c=.bool b:=by rw[hR.eval,hb]
   rw[dP] at h;refine wp_cond hc ?_
   cases b
   ·exact ihy _ _ _ _ _ _ hR (by simpa using h)
   ·exact ihx _ _ _ _ _ _ hR (by simpa using h)
  ·exact h.elim
 | block id c ih=>
  intro kn kx kr f w a hR h;refine wp_block (Code.wp_mono ?_ (ih _ _ _ _ _ _ hR h));intro e a w hq
  cases e with
  | normal=>exact hq
  | exit j=>
   obtain ⟨f',hR',h'⟩:=hq;simp only[Exit.inBlock];by_cases hj:j=id
   ·subst hj;rw[if_pos rfl];have:Nat.beq j j=true:=Nat.beq_refl j;rw[this] at h';exact ⟨f',hR',h'⟩
   ·rw[if_neg hj];have:Nat.beq j id=false:=by
     rw[Bool.eq_false_iff];intro hh;exact hj (Nat.eq_of_beq_eq_true hh)
    rw[this] at h';exact ⟨f',hR',h'⟩
  | goto l=>exact hq.elim
  | ret=>exact hq
  | panic ch=>exact hq.elim
  | outgrown=>exact hq.elim
 | loop c ih=>
  intro kn kx kr f w a hR h;obtain ⟨J,⟨n0,h0⟩,hstep⟩:=h
  classical
  let I:Act→World→Prop:=fun a w=>∃ n f,R N a f∧J n f w
  let μ:Act→World→Nat:=fun a w=>if h:∃ n,∃ f,R N a f∧J n f w then Classical.choose (na h) else 0
  refine wp_loop I μ ⟨n0,f,hR,h0⟩ ?_;intro a w hI;have hex:∃ n,∃ f,R N a f∧J n f w:=hI;obtain ⟨⟨f1,hR1,hJ1⟩,_⟩:=Classical.choose_spec (na hex);refine Code.wp_mono ?_ (ih _ _ _ _ _ _ hR1 (hstep _ _ _ hJ1));intro e a' w' hq
  cases e with
  | normal=>
   obtain ⟨f',hR',m,hm,hJ'⟩:=hq;refine ⟨⟨m,f',hR',hJ'⟩,?_⟩;have hex':∃ n,∃ f,R N a' f∧J n f w':=⟨m,f',hR',hJ'⟩;show (if h:∃ n,∃ f,R N a' f∧J n f w' then Classical.choose (na h) else 0)<(if h:∃ n,∃ f,R N a f∧J n f w then Classical.choose (na h) else 0);rw[dif_pos hex',dif_pos hex];exact Nat.lt_of_le_of_lt ((Classical.choose_spec (na hex')).2 m ⟨f',hR',hJ'⟩) hm
  | exit id=>exact hq
  | goto l=>exact hq.elim
  | ret=>exact hq
  | panic ch=>exact hq.elim
  | outgrown=>exact hq.elim
 | region id ops draw=>
  intro kn kx kr f w a hR h
  cases draw with
  | true=>simp only[W] at h;unfold kW at h;exact h a hR id _ fun a' f' w' hR' _ h'=>⟨f',hR',h'⟩
  | false=>exact wp_region_list (zc (fun a' f' w' hR' h'=>⟨f',hR',h'⟩) _ _ _ _ hR h)
def writes:Code→List Nat
 | .seq a b=>writes a++writes b
 | .cond _ x y=>writes x++writes y
 | .block _ c=>writes c
 | .loop c=>writes c
 | .scope c=>writes c
 | .region _ ops _=>gI ops.toList
 | _=>[]
theorem zd {P:Program}{N:Nat}{ops:Array Oper}{k:Fr→World→Prop}(D:List Nat):∀ (l:List Oper) (f0 f:Fr) (w:World),cV D f f0→(∀ x ∈ gI l,x ∈ D)→
  jt P N ops k l f w→jt P N ops (fun f' w'=>cV D f' f0∧k f' w') l f w:=by
 intro l
 induction l with
 | nil=>intro f0 f w ha _ h;exact ⟨ha,h⟩
 | cons o rest ih=>
  intro f0 f w ha hD h;obtain ⟨dst,op,ty,pos,after,guard⟩:=o;have hD':∀ x ∈ gI rest,x ∈ D:=fun x hx=>hD x (by
   cases dst with
   | none=>simpa [gI] using hx
   | some d=>simp only[gI,List.filterMap_cons];exact .tail _ hx)
  have hd:∀ x,dst=some x→x ∈ D:=fun x hx=>hD x (by subst hx;simp[gI]);have nx:∀ v w',jt P N ops k rest (dq N f dst v) w'→jt P N ops (fun f' w'=>cV D f' f0∧k f' w') rest (dq N f dst v) w':=
   fun v w' hh=>ih f0 _ _ ((cV.dq hd).trans ha) hD' hh
  have r1:pD P N dst op ty f w (jt P N ops k rest)→pD P N dst op ty f w (jt P N ops (fun f' w'=>cV D f' f0∧k f' w') rest):=
   fun hh=>pE (fun v w' hv=>nx _ _ hv) hh
  cases guard with
  | none=>simp only[jt] at h ⊢;exact r1 h
  | some jw=>
   obtain ⟨j,want⟩:=jw;simp only[jt] at h ⊢
   cases hdj:(ops[j]?).bind (·.dst) with
   | none=>simp only[hdj] at h ⊢;exact nx _ _ h
   | some d=>
    simp only[hdj] at h ⊢
    cases hfd:f d with
    | bool b=>
     simp only[hfd] at h ⊢
     cases want <;> cases b <;> simp only[dP,if_true,if_false,Bool.false_eq_true] at h ⊢ <;> first | exact r1 h | exact nx _ _ h
    | _=>simp only[hfd] at h ⊢;exact nx _ _ h
theorem qD {P:Program}{N:Nat}(c:Code):∀ {kn kn':Fr→World→Prop} {kx kx':Nat→Fr→World→Prop} {kr kr':Fr→World→Prop} {f:Fr} {w:World},
  (∀ f w,kn f w→kn' f w)→(∀ j f w,kx j f w→kx' j f w)→(∀ f w,kr f w→kr' f w)→W P N c kn kx kr f w→W P N c kn' kx' kr' f w:=by
 induction c with
 | skip=>intro kn kn' kx kx' kr kr' f w h1 h2 h3 h;exact h1 _ _ h
 | label l=>intro kn kn' kx kx' kr kr' f w h1 h2 h3 h;exact h1 _ _ h
 | exit id=>intro kn kn' kx kx' kr kr' f w h1 h2 h3 h;exact h2 _ _ _ h
 | ret=>intro kn kn' kx kx' kr kr' f w h1 h2 h3 h;exact h3 _ _ h
 | goto l=>intro kn kn' kx kx' kr kr' f w h1 h2 h3 h;exact h.elim
 | refuse y=>intro kn kn' kx kx' kr kr' f w h1 h2 h3 h;exact h.elim
 | scope c ih=>intro kn kn' kx kx' kr kr' f w h1 h2 h3 h;exact ih h1 h2 h3 h
 | rangeFunc x p s b ih1 ih2=>intro kn kn' kx kx' kr kr' f w h1 h2 h3 h;exact h.elim
 | seq x y ihx ihy=>intro kn kn' kx kx' kr kr' f w h1 h2 h3 h;exact ihx (fun f w hh=>ihy h1 h2 h3 hh) h2 h3 h
 | cond c x y ihx ihy=>
  intro kn kn' kx kx' kr kr' f w h1 h2 h3 h;simp only[W,AM] at h ⊢;split
  ·rename_i b hb;simp only[hb] at h;rw[dP] at h ⊢
   cases b
   ·exact ihy h1 h2 h3 h
   ·exact ihx h1 h2 h3 h
  ·rename_i hb;split at h
   ·rename_i b hb';exact absurd hb' (hb b)
   ·exact h
 | block id c ih=>
  intro kn kn' kx kx' kr kr' f w h1 h2 h3 h;refine ih h1 (fun j f w hh=>?_) h3 h
  cases hj:Nat.beq j id <;> simp only[hj,cond_true,cond_false] at hh ⊢
  ·exact h2 _ _ _ hh
  ·exact h1 _ _ hh
 | loop c ih=>
  intro kn kn' kx kx' kr kr' f w h1 h2 h3 h;obtain ⟨J,h0,hs⟩:=h;exact ⟨J,h0,fun n f w hJ=>ih (fun _ _ h=>h) h2 h3 (hs n f w hJ)⟩
 | region id ops draw=>
  intro kn kn' kx kx' kr kr' f w h1 h2 h3 h
  cases draw with
  | true=>
   simp only[W] at h ⊢;unfold kW at h ⊢;exact fun a hR id Q hQ=>h a hR id Q fun a' f' w' hR' ha hk=>hQ _ _ _ hR' ha (h1 _ _ hk)
  | false=>
   simp only[W] at h ⊢;have gen:∀ (l:List Oper) (f:Fr) (w:World),jt P N ops kn l f w→jt P N ops kn' l f w:=by
    intro l
    induction l with
    | nil=>intro f w h;exact h1 _ _ h
    | cons o rest ih=>
     intro f w h;obtain ⟨dst,op,ty,pos,after,guard⟩:=o;have r1:pD P N dst op ty f w (jt P N ops kn rest)→pD P N dst op ty f w (jt P N ops kn' rest):=fun hh=>pE (fun v w' hv=>ih _ _ hv) hh
     cases guard with
     | none=>simp only[jt] at h ⊢;exact r1 h
     | some jw=>
      obtain ⟨j,want⟩:=jw;simp only[jt] at h ⊢
      cases hdj:(ops[j]?).bind (·.dst) with
      | none=>simp only[hdj] at h ⊢;exact ih _ _ h
      | some d=>
       simp only[hdj] at h ⊢
       cases hfd:f d with
       | bool b=>
        simp only[hfd] at h ⊢
        cases want <;> cases b <;> simp only[dP,if_true,if_false,Bool.false_eq_true] at h ⊢ <;> first | exact r1 h | exact ih _ _ h
       | _=>simp only[hfd] at h ⊢;exact ih _ _ h
   exact gen _ _ _ h
theorem AN {P:Program}{N:Nat}(c:Code):∀ {D:List Nat} {kn:Fr→World→Prop} {kx:Nat→Fr→World→Prop} {kr:Fr→World→Prop} {f0 f:Fr} {w:World},
  cV D f f0→(∀ x ∈ writes c,x ∈ D)→W P N c kn kx kr f w→W P N c (fun f' w'=>cV D f' f0∧kn f' w') kx kr f w:=by
 have aux:∀ (c:Code) {D:List Nat} {kn:Fr→World→Prop} {kx:Nat→Fr→World→Prop} {kr:Fr→World→Prop} {f0 f:Fr} {w:World},
   cV D f f0→(∀ x ∈ writes c,x ∈ D)→W P N c kn kx kr f w→W P N c (fun f' w'=>cV D f' f0∧kn f' w') (fun j f' w'=>cV D f' f0∧kx j f' w') kr f w:=by
  intro c
  induction c with
  | skip=>intro D kn kx kr f0 f w ha _ h;exact ⟨ha,h⟩
  | label l=>intro D kn kx kr f0 f w ha _ h;exact ⟨ha,h⟩
  | exit id=>intro D kn kx kr f0 f w ha _ h;exact ⟨ha,h⟩
  | ret=>intro D kn kx kr f0 f w ha _ h;exact h
  | goto l=>intro D kn kx kr f0 f w ha _ h;exact h.elim
  | refuse y=>intro D kn kx kr f0 f w ha _ h;exact h.elim
  | scope c ih=>intro D kn kx kr f0 f w ha hD h;exact ih ha (fun x hx=>hD x (by simpa [writes] using hx)) h
  | rangeFunc x p s b ih1 ih2=>intro D kn kx kr f0 f w ha _ h;exact h.elim
  | seq x y ihx ihy=>
   intro D kn kx kr f0 f w ha hD h;have h':=ihx ha (fun x hx=>hD x (by simp[writes,hx])) h;exact qD x (fun f' w' hh=>ihy hh.1 (fun x hx=>hD x (by simp[writes,hx])) hh.2) (fun _ _ _ hh=>hh) (fun _ _ hh=>hh) h'
  | cond c x y ihx ihy=>
   intro D kn kx kr f0 f w ha hD h;simp only[W,AM] at h ⊢;split
   ·rename_i b hb;simp only[hb] at h;rw[dP] at h ⊢
    cases b
    ·exact ihy ha (fun x hx=>hD x (by simp[writes,hx])) h
    ·exact ihx ha (fun x hx=>hD x (by simp[writes,hx])) h
   ·rename_i hb;split at h
    ·rename_i b hb';exact absurd hb' (hb b)
    ·exact h
  | block id c ih=>
   intro D kn kx kr f0 f w ha hD h;refine qD c (fun _ _ hh=>hh) (fun j f w hh=>?_) (fun _ _ hh=>hh) (ih ha hD h)
   cases hj:Nat.beq j id <;> simp only[hj,cond_true,cond_false] at hh ⊢
   ·exact hh
   ·exact hh
  | loop c ih=>
   intro D kn kx kr f0 f w ha hD h;obtain ⟨J,⟨n0,h0⟩,hs⟩:=h;refine ⟨fun n f w=>cV D f f0∧J n f w,⟨n0,ha,h0⟩,fun n f w hJ=>?_⟩;exact qD c (fun f' w' ⟨ha',m,hm,hJ'⟩=>⟨m,hm,ha',hJ'⟩) (fun _ _ _ hh=>hh) (fun _ _ hh=>hh) (ih hJ.1 hD (hs n f w hJ.2))
  | region id ops draw=>
   intro D kn kx kr f0 f w ha hD h
   cases draw with
   | true=>
    simp only[W] at h ⊢;unfold kW at h ⊢;exact fun a hR id Q hQ=>h a hR id Q fun a' f' w' hR' ha' hk=>hQ _ _ _ hR' ha' ⟨(ha'.mono hD).trans ha,hk⟩
   | false=>exact zd D _ f0 f w ha hD h
 intro D kn kx kr f0 f w ha hD h;exact qD c (fun _ _ hh=>hh) (fun _ _ _ hh=>hh.2) (fun _ _ hh=>hh) (aux c ha hD h)
def look:List (Nat × Value)→Nat→Value→Value
 | [],_,d=>d
 | (s,v)::l,t,d=>bif Nat.beq t s then v else look l t d
def KU (l:List (Nat × Value))(M:List Nat)(u f:Fr):Fr:=fun t=>look l t (bif M.elem t then u t else f t)
def Has (f:Fr):List (Nat × Value)→Prop
 | []=>True
 | (s,v)::l=>f s=v∧Has f l
theorem Du {l:List (Nat × Value)}{M:List Nat}{f f0:Fr}(ha:cV M f f0)(hl:Has f l):f=KU l M f f0:=by
 funext t
 have hbase:(bif M.elem t then f t else f0 t)=f t:=by
  cases he:M.elem t with
  | true=>rfl
  | false=>simp only[cond_false];exact (ha t (by simpa using he)).symm
 show f t=look l t (bif M.elem t then f t else f0 t);rw[hbase]
 induction l with
 | nil=>rfl
 | cons p l ih=>
  obtain ⟨s,v⟩:=p;obtain ⟨h1,h2⟩:=hl;simp only[look]
  cases hb:Nat.beq t s with
  | true=>rw[Nat.eq_of_beq_eq_true hb];exact h1
  | false=>exact ih h2
theorem uE {P:Program}{N:Nat}{c:Code}{kx:Nat→Fr→World→Prop}{kr:Fr→World→Prop}{f:Fr}{w:World}{γ:Type}(M:List Nat)(hM:writes c=M)(l:γ→List (Nat × Value))(I:γ→World→Prop)(μ:γ→Nat)(x0:γ)(h0:Has f (l x0))(hI:I x0 w)(step:∀ x u w,I x w→W P N c (fun f' w'=>∃ y,μ y<μ x∧Has f' (l y)∧I y w') kx kr (KU (l x) M u f) w):AL (fun kn f w=>W P N c kn kx kr f w) f w:=by
 subst hM;refine ⟨fun n f' w'=>cV (writes c) f' f∧∃ x,μ x=n∧Has f' (l x)∧I x w',⟨μ x0,.refl _ _,x0,rfl,h0,hI⟩,?_⟩;rintro n f' w' ⟨ha,x,rfl,hl,hI'⟩;have hs:=step x f' w' hI';rw[← Du ha hl] at hs;refine qD c (fun f2 w2 hh=>?_) (fun _ _ _ hh=>hh) (fun _ _ hh=>hh) (AN c ha (fun _ h=>h) hs);obtain ⟨ha2,y,hlt,hl2,hI2⟩:=hh;exact ⟨μ y,hlt,ha2,y,rfl,hl2,hI2⟩
attribute [irreducible] AL
theorem xu {P:Program}{N:Nat}{a b:Code}{kn:Fr→World→Prop}{kx:Nat→Fr→World→Prop}{kr:Fr→World→Prop}{f:Fr}{w:World}{γ:Type}(M:List Nat)(hM:writes a=M)(l:γ→List (Nat × Value))(I:γ→World→Prop)(h1:W P N a (fun f' w'=>∃ y,Has f' (l y)∧I y w') kx kr f w)(h2:∀ x u w,I x w→W P N b kn kx kr (KU (l x) M u f) w):W P N (.seq a b) kn kx kr f w:=by
 subst hM;refine qD a (fun f2 w2 hh=>?_) (fun _ _ _ hh=>hh) (fun _ _ hh=>hh) (AN a (.refl _ _) (fun _ h=>h) h1);obtain ⟨ha,y,hl,hI⟩:=hh;have:=h2 y f2 w2 hI
 rwa [← Du ha hl] at this
theorem ak {P:Program}{N:Nat}{a b:Code}{kn:Fr→World→Prop}{kx:Nat→Fr→World→Prop}{kr:Fr→World→Prop}{f:Fr}{w:World}{γ:Type}(l:γ→List (Nat × Value))(I:γ→World→Prop)(h1:W P N a (fun f' w'=>∃ y,Has f' (l y)∧I y w') kx kr f w)(h2:∀ x u w,I x w→W P N b kn kx kr (KU (l x) (writes a) u f) w):W P N (.seq a b) kn kx kr f w:=xu _ rfl l I h1 h2
theorem aw {P:Program}{N:Nat}{a b:Code}{kn:Fr→World→Prop}{kx:Nat→Fr→World→Prop}{kr:Fr→World→Prop}{f:Fr}{w:World}(I:World→Prop)(h1:W P N a (fun f' w'=>∃ y:Unit,Has f' ((fun _=>[]) y)∧I w') kx kr f w)(h2:∀ (_:Unit) u w,I w→W P N b kn kx kr (KU [] (writes a) u f) w):W P N (.seq a b) kn kx kr f w:=xu (γ:=Unit) _ rfl (fun _=>[]) (fun _ w'=>I w') h1 h2
theorem ax {P:Program}{N:Nat}{c:Code}{kx:Nat→Fr→World→Prop}{kr:Fr→World→Prop}{f:Fr}{w:World}{γ:Type}(l:γ→List (Nat × Value))(I:γ→World→Prop)(μ:γ→Nat)(x0:γ)(h0:Has f (l x0))(hI:I x0 w)(step:∀ x u w,I x w→W P N c (fun f' w'=>∃ y,μ y<μ x∧Has f' (l y)∧I y w') kx kr (KU (l x) (writes c) u f) w):AL (fun kn f w=>W P N c kn kx kr f w) f w:=uE _ rfl l I μ x0 h0 hI step
def vE (P:Program)(f:Fr)(w:World)(k:Value→World→Prop):List ResultVar→List Value→Prop
 | [],acc=>k (match acc with | [v]=>v | vs=>.tuple vs.toArray) w
 | .tmp t::rs,acc=>force (f t) fun v=>vE P f w k rs (acc++[v])
 | .cell p t::rs,acc=>eY P t (f p) w fun v w'=>w'=w∧vE P f w k rs (acc++[v])
def ze (l:List Value):Fr:=fun t=>l.getD t undef
def F5 (tmps:Array Value):ResultVar→Sem Value
 | .tmp t=>pure (tmps.getD t undef)
 | .cell a t=>do loadVar t (← asAddr (tmps.getD a undef))
theorem Dv {P:Program}{N:Nat}{a:Act}{f:Fr}(hR:R N a f){post:Value→World→Prop}{w:World} :
  ∀ (rs:List ResultVar) (acc:List Value),vE P f w post rs acc→
   ∃ vs,(rs.mapM (F5 a.tmps)).run P w=.ok vs w∧post (match acc++vs with | [v]=>v | vs=>.tuple vs.toArray) w:=by
 intro rs
 induction rs with
 | nil=>intro acc h;exact ⟨[],rfl,by simpa [vE] using h⟩
 | cons r rs ih=>
  intro acc h
  cases r with
  | tmp t=>
   simp only[vE,force_eq] at h;obtain ⟨vs,h1,h2⟩:=ih _ h;refine ⟨f t::vs,?_,by simpa using h2⟩;simp only[List.mapM_cons,F5,pure_bind,hR.get];rw[Sem.run_bind,h1];rfl
  | cell p t=>
   simp only[vE] at h;unfold eY at h;obtain ⟨v,w',hr,rfl,h⟩:=h;obtain ⟨vs,h1,h2⟩:=ih _ h;refine ⟨v::vs,?_,by simpa using h2⟩;simp only[List.mapM_cons,F5,hR.get];have hr2:(do loadVar t (← asAddr (f p))).run P w'=.ok v w':=by
    unfold Instr.loadAt at hr
    cases hfp:f p with
    | pointer ad=>
     cases ad with
     | some ad=>simpa [hfp,Instr.sureAddr,asAddr] using hr
     | none=>simp[hfp,Instr.sureAddr,stuck,bind,Sem.bind] at hr
    | _=>simp[hfp,Instr.sureAddr,stuck,bind,Sem.bind] at hr
   rw[Sem.run_bind,hr2];simp only[Result.andThen_ok];rw[Sem.run_bind,h1];rfl
theorem rn {P:Program}{N:Nat}{fn:Func}{a:Act}{f:Fr}(hR:R N a f){post:Value→World→Prop}{w:World}{rs:List ResultVar}(hrs:fn.results=rs.toArray)(h:vE P f w post rs []):∃ v,(results fn a.tmps).run P w=.ok v w∧post v w:=by
 obtain ⟨vs,h1,h2⟩:=Dv hR rs [] h;refine ⟨_,?_,h2⟩;have e:results fn a.tmps=(do let vs ← rs.mapM (F5 a.tmps);pure (match vs with | [v]=>v | vs=>.tuple vs.toArray)):=by
  unfold results;rw[hrs,List.mapM_toArray];simp only[map_eq_pure_bind,bind_assoc,pure_bind]
  congr 1
  funext vs
  match vs with
  | []=>rfl
  | [v]=>rfl
  | v::u::vs=>simp
 rw[e,Sem.run_bind,h1];simp
theorem ar {P:Program}{g:FuncId}{fn:Func}{c:Code}{args:List Value}{w:World}{post:Value→World→Prop}{N:Nat}{rs:List ResultVar}(hf:P.funcs[g]?=some fn)(hent:enters P g=true)(hb:fn.body=some c)(hN:fn.ntmps=N)(hrs:fn.results=rs.toArray)(hl:args.length≤N)(h:W P N c (fun f w=>vE P f w post rs []) (fun _ _ _=>False) (fun f w=>vE P f w post rs []) (ze args) w):bt P g args w post:=by
 refine ⟨hent,calls_of_wp hf hb ?_⟩;have hR:R N { tmps:=args.toArray++Array.replicate (fn.ntmps - args.toArray.size) undef,defers:=[] } (ze args):=by
  subst hN;refine ⟨rfl,by simp;omega,fun t=>?_⟩;simp only[ze,Array.getD_eq_getD_getElem?,List.getD_eq_getElem?_getD];by_cases ht:t<args.length
  ·simp[Array.getElem?_append,ht]
  ·simp[Array.getElem?_append,ht,Array.getElem?_replicate];split <;> simp
 refine Code.wp_mono ?_ (F4 c _ _ _ _ _ _ hR h);intro e a w' hq
 cases e with
 | normal=>obtain ⟨f,hR,h⟩:=hq;obtain ⟨v,h1,h2⟩:=rn hR hrs h;exact ⟨hR.defers,v,h1,v,rfl,h2⟩
 | ret=>obtain ⟨f,hR,h⟩:=hq;obtain ⟨v,h1,h2⟩:=rn hR hrs h;exact ⟨hR.defers,v,h1,v,rfl,h2⟩
 | exit id=>obtain ⟨f,hR,h⟩:=hq;exact h.elim
 | goto l=>exact hq.elim
 | panic ch=>exact hq.elim
 | outgrown=>exact hq.elim
open Go
def gJ (ops:Array Oper):Array Bool→List Nat→Prop
 | listed,[]=>Region.ready .any ops listed=[]
 | listed,i::r=>i ∈ Region.ready .any ops listed∧gJ ops (listed.setIfInBounds i true) r
theorem xv {P:Program}{ops:Array Oper}{Q:Exit→Act→World→Prop}:∀ (σ:List Nat) (fuel:Nat) (listed:Array Bool) (a:Act) (w:World),σ.length≤fuel→gJ ops listed σ→
  wpAny P .any ops Q fuel listed a w→wpOps P ops Q σ a w:=by
 intro σ
 induction σ with
 | nil=>
  intro fuel listed a w _ hv h
  cases fuel with
  | zero=>simpa [wpOps] using h.2
  | succ n=>simpa [wpOps] using h.1 hv
 | cons i r ih=>
  intro fuel listed a w hl hv h
  cases fuel with
  | zero=>simp at hl
  | succ n=>
   rw[wpOps_cons];exact wpOp_mono (fun a w hh=>ih n _ a w (by simpa using hl) hv.2 hh) (h.2 i hv.1)
def Is (n:Nat)(listed:Array Bool):Nat:=((List.range n).filter fun i=> !listed.getD i true).length
theorem F6 {n:Nat}{listed:Array Bool}{i:Nat}(hi:i<n)(hu:listed.getD i true=false):Is n (listed.setIfInBounds i true)+1=Is n listed:=by
 unfold Is;have his:i<listed.size:=by
  rcases Nat.lt_or_ge i listed.size with h | h
  ·exact h
  ·simp[Array.getElem?_eq_none h] at hu
 have hp:((List.range n).filter fun j=> !listed.getD j true).Perm (i::(List.range n).filter fun j=> !(listed.setIfInBounds i true).getD j true):=by
  refine (List.perm_ext_iff_of_nodup (List.nodup_range.filter _) (List.nodup_cons.2 ⟨?_,List.nodup_range.filter _⟩)).2 fun j=>?_
  ·rw[List.mem_filter];simp[his]
  ·rw[List.mem_filter,List.mem_cons,List.mem_filter];by_cases hj:i=j
   ·subst hj;simp[hi,hu]
   ·rw[getD_set_ne true hj];simp[Ne.symm hj]
 have:=hp.length_eq;simpa using this.symm
theorem xw {ops:Array Oper}:∀ (fuel t:Nat) (listed:Array Bool),Is ops.size listed≤fuel→gJ ops listed (Region.linearise.go .any ops fuel t listed []):=by
 intro fuel
 induction fuel with
 | zero=>
  intro t listed h;simp only[Region.linearise.go,List.reverse_nil,gJ];rw[List.eq_nil_iff_forall_not_mem];intro i hi;obtain ⟨hun,oi,hoi,_⟩:=mem_ready.1 hi;have hlt:i<ops.size:=(Array.getElem?_eq_some_iff.1 hoi).1;have:i ∈ (List.range ops.size).filter fun i=> !listed.getD i true:=List.mem_filter.2 ⟨List.mem_range.2 hlt,by simp[hun]⟩;have h0:Is ops.size listed=0:=by omega
  rw[List.length_eq_zero_iff.1 h0] at this
  cases this
 | succ fuel ih=>
  intro t listed h;simp only[Region.linearise.go];change gJ ops listed (match (Region.ready .any ops listed)[t % (Region.ready .any ops listed).length]? with
   | some i=>Region.linearise.go .any ops fuel (t / (Region.ready .any ops listed).length) (listed.setIfInBounds i true) [i]
   | none=>[].reverse)
  cases hi:(Region.ready .any ops listed)[t % (Region.ready .any ops listed).length]? with
  | none=>
   cases hr:Region.ready .any ops listed with
   | nil=>simp[gJ,hr]
   | cons x xs=>
    rw[hr] at hi;have hlt:t % (x::xs).length<(x::xs).length:=Nat.mod_lt _ (by simp);simp at hi;simp at hlt;omega
  | some i=>
   simp only[];rw[linearise_go_acc,List.reverse_singleton,List.singleton_append];have hin:=List.mem_of_getElem? hi;obtain ⟨hun,oi,hoi,_⟩:=mem_ready.1 hin;have hlt:i<ops.size:=(Array.getElem?_eq_some_iff.1 hoi).1;have:=F6 hlt hun;exact ⟨hin,ih _ _ (by omega)⟩
def nb (ops:Array Oper)(i:Nat):Bool:=match ops[i]? with | some o=>fV o.op | none=>false
def kX (pos:Nat→Nat)(extra:List Edge)(o:Oper):Oper:=
 { o with after:=((o.after.toList.map fun e=>(⟨pos e.on,e.ground⟩:Edge))++extra).toArray,guard:=o.guard.map fun gb=>(pos gb.1,gb.2) }
def zf (ops:Array Oper)(lam ord:List Nat)(i:Nat):List Edge:=
 bif nb ops i then (lam.takeWhile fun k=>k !=i).map fun k=>⟨ord.idxOf k,.data⟩ else []
def rp (ops:Array Oper)(lam ord:List Nat):Array Oper:=(ord.map fun i=>kX (fun j=>ord.idxOf j) (zf ops lam ord i) ((ops[i]?).getD default)).toArray
def eo (n:Nat)(ord:List Nat):Bool:=decide ord.Nodup&&(ord.length==n)&&(List.range n).all (fun i=>ord.contains i)&&ord.all (fun i=>decide (i<n))
section
variable {ops:Array Oper} {lam ord:List Nat}
theorem fx (h:eo ops.size ord=true){i:Nat}(hi:i<ops.size):ord.idxOf i<ops.size∧ord[ord.idxOf i]?=some i:=by
 unfold eo at h;simp only[Bool.and_eq_true,decide_eq_true_eq,beq_iff_eq,List.all_eq_true,List.mem_range,List.contains_iff_mem] at h;have hm:=h.1.2 i hi;have hl:=List.idxOf_lt_length_of_mem hm;exact ⟨by have:=h.1.1.2;omega,by rw[List.getElem?_eq_getElem hl,List.getElem_idxOf]⟩
theorem xx (h:eo ops.size ord=true){i j:Nat}(hi:i<ops.size)(hj:j<ops.size)(e:ord.idxOf i=ord.idxOf j):i=j:=by
 have h1:=(fx h hi).2;have h2:=(fx h hj).2;rw[e,h2] at h1;injection h1 with h1;exact h1.symm
theorem j7 (h:eo ops.size ord=true){p:Nat}(hp:p<ops.size):∃ i,i<ops.size∧ord.idxOf i=p:=by
 have h':=h;unfold eo at h';simp only[Bool.and_eq_true,decide_eq_true_eq,beq_iff_eq,List.all_eq_true,List.mem_range,List.contains_iff_mem] at h';obtain ⟨⟨⟨hn,hl⟩,_⟩,hlt⟩:=h';have hp':p<ord.length:=by omega
 refine ⟨ord[p],hlt _ (List.getElem_mem hp'),?_⟩;exact List.Nodup.idxOf_getElem hn p hp'
theorem pF (h:eo ops.size ord=true):(rp ops lam ord).size=ops.size:=by
 unfold eo at h;simp only[Bool.and_eq_true,beq_iff_eq] at h;simp[rp,h.1.1.2]
theorem qE (h:eo ops.size ord=true){i:Nat}{o:Oper}(ho:ops[i]?=some o):(rp ops lam ord)[ord.idxOf i]?=some (kX (fun j=>ord.idxOf j) (zf ops lam ord i) o):=by
 have hlt:i<ops.size:=(Array.getElem?_eq_some_iff.1 ho).1;unfold rp;rw[List.getElem?_toArray,List.getElem?_map,(fx h hlt).2];simp[ho]
theorem F7 (h:eo ops.size ord=true)(g:Nat):((rp ops lam ord)[ord.idxOf g]?).bind (·.dst)=(ops[g]?).bind (·.dst):=by
 cases hg:ops[g]? with
 | some o=>rw[qE h hg];rfl
 | none=>
  have hge:ops.size≤g:=Array.getElem?_eq_none_iff.1 hg;have hnot:¬ g ∈ ord:=by
   intro hm;have hp:ord.idxOf g<ops.size:=by
    have:=List.idxOf_lt_length_of_mem hm;unfold eo at h;simp only[Bool.and_eq_true,beq_iff_eq] at h;omega
   obtain ⟨i,hi,e⟩:=j7 h hp;have h1:=(fx h hi).2;rw[e,List.getElem?_eq_getElem (List.idxOf_lt_length_of_mem hm),List.getElem_idxOf] at h1;injection h1 with h1;omega
  have:(rp ops lam ord)[ord.idxOf g]?=none:=by
   rw[Array.getElem?_eq_none_iff,pF h];rw[List.idxOf_eq_length hnot];unfold eo at h;simp only[Bool.and_eq_true,beq_iff_eq] at h;omega
  rw[this]
theorem vF (h:eo ops.size ord=true)(ex:List Edge)(o:Oper)(tmps:Array Value):Region.wanted (kX (fun j=>ord.idxOf j) ex o) (yielded (rp ops lam ord) tmps)=Region.wanted o (yielded ops tmps):=by
 unfold Region.wanted kX
 cases hg:o.guard with
 | none=>simp
 | some gb=>
  obtain ⟨g,b⟩:=gb;simp only[Option.map_some];have:yielded (rp ops lam ord) tmps (ord.idxOf g)=yielded ops tmps g:=by
   unfold yielded;rw[F7 h]
  rw[this]
theorem It {P:Program}{Q:Exit→Act→World→Prop}(h:eo ops.size ord=true):∀ (σ:List Nat),(∀ i ∈ σ,i<ops.size)→∀ a w,wpOps P (rp ops lam ord) Q (σ.map fun i=>ord.idxOf i) a w→wpOps P ops Q σ a w:=by
 intro σ
 induction σ with
 | nil=>intro _ a w hh;exact hh
 | cons i r ih=>
  intro hr a w hh;rw[List.map_cons,wpOps_cons] at hh;rw[wpOps_cons];have hh:=wpOp_mono (fun a w hx=>ih (fun j hj=>hr j (.tail _ hj)) a w hx) hh;have hi:=hr i (.head _);have ho:ops[i]?=some ops[i]:=Array.getElem?_eq_getElem hi;unfold wpOp at hh ⊢;rw[qE h ho] at hh;rw[ho];simp only[vF h] at hh ⊢;exact hh
theorem jY {l:Array Bool}{i:Nat}(h:l.getD i false=true):i<l.size:=by
 rcases Nat.lt_or_ge i l.size with h' | h'
 ·exact h'
 ·simp[Array.getElem?_eq_none h'] at h
theorem sD {l:Array Bool}{i:Nat}(h:i<l.size)(d d':Bool):l.getD i d=l.getD i d':=by simp[Array.getD,h]
theorem nZ (h:eo ops.size ord=true){g:Nat}(hg:ops.size≤g):ord.idxOf g=ops.size:=by
 unfold eo at h;simp only[Bool.and_eq_true,decide_eq_true_eq,beq_iff_eq,List.all_eq_true] at h;rw[List.idxOf_eq_length fun hm=>by have:=h.2 g hm;omega];exact h.1.1.2
theorem lJ {i:Nat}:∀ (done rest:List Nat),¬ i ∈ done→(done++i::rest).takeWhile (fun k=>k !=i)=done:=by
 intro done
 induction done with
 | nil=>intro rest _;simp
 | cons a l ih=>
  intro rest h;simp only[List.mem_cons,not_or] at h;rw[List.cons_append,List.takeWhile_cons_of_pos (by simpa using Ne.symm h.1),ih rest h.2]
theorem BV (h:eo ops.size ord=true)(hn:lam.Nodup):∀ (σ:List Nat) (listed listed':Array Bool) (done:List Nat),listed.size=ops.size→listed'.size=ops.size→
  (∀ i,i<ops.size→∀ d,listed'.getD (ord.idxOf i) d=listed.getD i d)→lam=done++σ.filter (nb ops)→(∀ k ∈ done,listed.getD k false=true)→
  gJ ops listed σ→gJ (rp ops lam ord) listed' (σ.map fun i=>ord.idxOf i):=by
 intro σ
 induction σ with
 | nil=>
  intro listed listed' done hs hs' hl _ _ hv;show Region.ready .any (rp ops lam ord) listed'=[];have hv:Region.ready .any ops listed=[]:=hv;rw[List.eq_nil_iff_forall_not_mem];intro p hp;obtain ⟨hun,o',ho',hpre⟩:=mem_ready.1 hp;have hlt:p<ops.size:=by have:=(Array.getElem?_eq_some_iff.1 ho').1;rwa [pF h] at this
  obtain ⟨i,hi,rfl⟩:=j7 h hlt;have ho:ops[i]?=some ops[i]:=Array.getElem?_eq_getElem hi;rw[qE h ho] at ho';injection ho' with ho';subst ho';have:i ∈ Region.ready .any ops listed:=mem_ready.2 ⟨by rw[← hl i hi];exact hun,_,ho,fun e he hb=>by
   have h1:=hpre ⟨ord.idxOf e.on,e.ground⟩ (by simp only[kX,List.mem_toArray,List.mem_append,List.mem_map];exact .inl ⟨e,by simpa using he,rfl⟩) hb;have h1:listed'.getD (ord.idxOf e.on) false=true:=h1;rcases Nat.lt_or_ge e.on ops.size with h2 | h2
   ·rw[← hl _ h2];exact h1
   ·rw[nZ h h2] at h1;have:=jY h1;omega⟩
  rw[hv] at this
  cases this
 | cons i r ih=>
  intro listed listed' done hs hs' hl hlam hdone hv;obtain ⟨hin,hv⟩:=hv;obtain ⟨hun,o,ho,hpre⟩:=mem_ready.1 hin;have hi:i<ops.size:=(Array.getElem?_eq_some_iff.1 ho).1;have hpi:=(fx h hi).1;refine ⟨mem_ready.2 ⟨by rw[hl i hi];exact hun,_,qE h ho,?_⟩,?_⟩
  ·intro e' he' hb;simp only[kX,List.mem_toArray,List.mem_append,List.mem_map] at he';rcases he' with ⟨e,he,rfl⟩ | he'
   ·have h1:=hpre e (by simpa using he) hb;have h2:=jY h1;show listed'.getD (ord.idxOf e.on) false=true;rw[hl _ (by omega)];exact h1
   ·unfold zf at he'
    cases hlo:nb ops i with
    | false=>rw[hlo] at he';cases he'
    | true=>
     rw[hlo] at he';have hlam2:=hlam;rw[List.filter_cons_of_pos hlo] at hlam2;have hid:¬ i ∈ done:=by
      rw[hlam2] at hn;intro hm;exact (List.nodup_append.1 hn).2.2 i hm i (.head _) rfl
     rw[cond_true,hlam2,lJ _ _ hid,List.mem_map] at he';obtain ⟨k,hk,rfl⟩:=he';have h1:=hdone k hk;have h2:=jY h1;show listed'.getD (ord.idxOf k) false=true;rw[hl _ (by omega)];exact h1
  ·have hset:∀ j,j<ops.size→∀ d,(listed'.setIfInBounds (ord.idxOf i) true).getD (ord.idxOf j) d=(listed.setIfInBounds i true).getD j d:=by
    intro j hj d;by_cases hji:i=j
    ·subst hji;have h1:ord.idxOf i<listed'.size:=by omega
     have h2:i<listed.size:=by omega
     simp[Array.getD,h1,h2]
    ·rw[getD_set_ne d hji,getD_set_ne d (fun e=>hji (xx h hi hj e))];exact hl j hj d
   cases hlo:nb ops i with
   | false=>
    rw[List.filter_cons_of_neg (by simp[hlo])] at hlam;exact ih _ _ done (by simpa using hs) (by simpa using hs') hset hlam (fun k hk=>getD_set_true (hdone k hk)) hv
   | true=>
    rw[List.filter_cons_of_pos hlo] at hlam;refine ih _ _ (done++[i]) (by simpa using hs) (by simpa using hs') hset (by rw[List.append_assoc];exact hlam) ?_ hv;intro k hk;rcases List.mem_append.1 hk with hk | hk
    ·exact getD_set_true (hdone k hk)
    ·have:k=i:=by simpa using hk
     subst this;have h2:k<listed.size:=by omega
     simp[Array.getD,h2]
def exts (c:Array Nat):Nat→List Nat→List (List Nat)
 | 0,_=>[[]]
 | n+1,R=>R.flatMap fun i=>bif R.all (fun k=>k==i|| !f_ c i k) then (exts c n (R.erase i)).map (i::·) else []
theorem uF (c:Array Nat):∀ (τ R:List Nat),τ.Perm R→τ.Nodup→τ.Pairwise (fun i k=>f_ c i k=false)→τ ∈ exts c τ.length R:=by
 intro τ
 induction τ with
 | nil=>intro R _ _ _;simp[exts]
 | cons i r ih=>
  intro R hp hn hw;have hw:=List.pairwise_cons.1 hw;have hn:=List.nodup_cons.1 hn;have hi:i ∈ R:=hp.mem_iff.1 (.head _);rw[List.length_cons,exts,List.mem_flatMap];refine ⟨i,hi,?_⟩;have hall:R.all (fun k=>k==i|| !f_ c i k)=true:=by
   rw[List.all_eq_true];intro k hk;rcases List.mem_cons.1 (hp.mem_iff.2 hk) with h | h
   ·simp[h]
   ·simp[hw.1 k h]
  rw[hall,cond_true,List.mem_map];exact ⟨r,ih _ (List.cons_perm_iff_perm_erase.1 hp).2 hn.2 hw.2,rfl⟩
section
variable {ops:Array Oper} {lam ord:List Nat}
theorem qF:∀ (σ:List Nat) (listed:Array Bool),gJ ops listed σ→(∀ i ∈ σ,i<ops.size∧listed.getD i true=false)∧σ.Nodup:=by
 intro σ
 induction σ with
 | nil=>intro _ _;simp
 | cons i r ih=>
  intro listed ⟨hin,hv⟩;obtain ⟨hun,o,ho,_⟩:=mem_ready.1 hin;have hi:i<ops.size:=(Array.getElem?_eq_some_iff.1 ho).1;have his:i<listed.size:=by
   rcases Nat.lt_or_ge i listed.size with h | h
   ·exact h
   ·simp[Array.getElem?_eq_none h] at hun
  obtain ⟨h1,h2⟩:=ih _ hv;have hne:∀ j ∈ r,i≠j:=by
   intro j hj e;have:=(h1 j hj).2;subst e;simp[Array.getD,his] at this
  refine ⟨?_,List.nodup_cons.2 ⟨fun h=>hne i h rfl,h2⟩⟩;intro j hj;rcases List.mem_cons.1 hj with rfl | hj
  ·exact ⟨hi,hun⟩
  ·have:=h1 j hj;rw[getD_set_ne true (hne j hj)] at this;exact this
theorem sE:∀ (σ:List Nat) (listed:Array Bool),(mY ops fun j=>listed.getD j false=true)→gJ ops listed σ→σ.Pairwise (fun i k=>f_ (kU ops.toList #[]) i k=false):=by
 intro σ
 induction σ with
 | nil=>intro _ _ _;exact .nil
 | cons i r ih=>
  intro listed hc hv;have hm:=qF _ _ hv;obtain ⟨hin,hv⟩:=hv;obtain ⟨hun,o,ho,hpre⟩:=mem_ready.1 hin;have his:i<listed.size:=by
   rcases Nat.lt_or_ge i listed.size with h | h
   ·exact h
   ·simp[Array.getElem?_eq_none h] at hun
  have hD:mY ops fun j=>j=i∨listed.getD j false=true:=fun j hj o' ho' e he hb=>by
   rcases hj with rfl | hj
   ·rw[ho] at ho';injection ho' with ho';subst ho';exact .inr (hpre e he hb)
   ·exact .inr (hc j hj o' ho' e he hb)
  refine List.pairwise_cons.2 ⟨fun k hk=>?_,ih _ ?_ hv⟩
  ·rw[Bool.eq_false_iff];intro hw;rcases ju hD i k (.inl rfl) hw with h | h
   ·subst h;exact (List.nodup_cons.1 hm.2).1 hk
   ·have h1:=(hm.1 k (.tail _ hk)).2;rw[sD (jY h) true false] at h1;rw[h] at h1;cases h1
  ·have gset:∀ k,(listed.setIfInBounds i true).getD k false=true↔k=i∨listed.getD k false=true:=by
    intro k;by_cases hki:k=i
    ·subst hki;simp[Array.getD,his]
    ·rw[getD_set_ne false (Ne.symm hki)];simp[hki]
   intro j hj o' ho' e he hb;rw[gset] at hj ⊢;exact hD j hj o' ho' e he hb
theorem BW (h:eo ops.size ord=true)(hd:kT (rp ops lam ord)=true):∀ (σ:List Nat) (listed:Array Bool),listed.size=ops.size→gJ ops listed σ→∀ i,i<ops.size→listed.getD i true=true∨i ∈ σ:=by
 intro σ
 induction σ with
 | nil=>
  intro listed hs hv;have hv:Region.ready .any ops listed=[]:=hv;have key:∀ n i,i<ops.size→ord.idxOf i=n→listed.getD i true=true:=by
   intro n
   induction n using Nat.strongRecOn with
   | _ n ih=>
    intro i hi hn
    cases hun:listed.getD i true with
    | true=>rfl
    | false=>
     have ho:ops[i]?=some ops[i]:=Array.getElem?_eq_getElem hi;have:i ∈ Region.ready .any ops listed:=mem_ready.2 ⟨hun,_,ho,fun e he hb=>by
      have h1:=gC hd (qE h ho) (e:=⟨ord.idxOf e.on,e.ground⟩) (by simp only[kX,List.mem_toArray,List.mem_append,List.mem_map];exact .inl ⟨e,by simpa using he,rfl⟩) hb;have h1:ord.idxOf e.on<ord.idxOf i:=h1;have h2:e.on<ops.size:=by
       rcases Nat.lt_or_ge e.on ops.size with h2 | h2
       ·exact h2
       ·rw[nZ h h2] at h1;have:=(fx h hi).1;omega
      rw[sD (by omega) false true];exact ih _ (by omega) e.on h2 rfl⟩
     rw[hv] at this
     cases this
  intro i hi;exact .inl (key _ i hi rfl)
 | cons i r ih=>
  intro listed hs ⟨hin,hv⟩ j hj;rcases ih _ (by simpa using hs) hv j hj with h1 | h1
  ·by_cases hji:i=j
   ·exact .inr (hji ▸ .head _)
   ·rw[getD_set_ne true hji] at h1;exact .inl h1
  ·exact .inr (.tail _ h1)
theorem Dw (h:eo ops.size ord=true):∀ x ∈ gI (rp ops lam ord).toList,x ∈ gI ops.toList:=by
 intro x hx;unfold gI at hx ⊢;rw[List.mem_filterMap] at hx ⊢;obtain ⟨o',ho',hd⟩:=hx;obtain ⟨p,hp⟩:=List.getElem?_of_mem ho';have hp':(rp ops lam ord)[p]?=some o':=by simpa using hp
 have hlt:p<ops.size:=by have:=(Array.getElem?_eq_some_iff.1 hp').1;rwa [pF h] at this
 obtain ⟨i,hi,rfl⟩:=j7 h hlt;have ho:ops[i]?=some ops[i]:=Array.getElem?_eq_getElem hi;rw[qE h ho] at hp';injection hp' with hp';exact ⟨ops[i],by simp,by rw[← hd,← hp'];rfl⟩
def AO (ops:Array Oper)(Λ:List (List Nat × List Nat)):Bool:=
 !Λ.isEmpty&&(exts (kU ops.toList #[]) ((List.range ops.size).filter (nb ops)).length ((List.range ops.size).filter (nb ops))).all (fun τ=>Λ.any fun x=>x.1==τ)&&
  Λ.all fun x=>eo ops.size x.2&&(Region.noSelect (rp ops x.1 x.2)&&xt (rp ops x.1 x.2))
theorem ia {P:Program}{N:Nat}{k:Fr→World→Prop}{f:Fr}{w:World}(C:World→Prop)(Λ:List (List Nat × List Nat))(hf:P.follows .mixedOrders=true)(hB:AO ops Λ=true)(hC:C w.drew)(h:∀ x ∈ Λ,gD P N C (rp ops x.1 x.2) k 0 (rp ops x.1 x.2).toList f w.drew):kW P N ops k f w:=by
 unfold kW;intro a hR id Q hQ;refine wp_region_draw fun t=>?_;simp only[Region.schedule,hf,Bool.true_or,if_true];unfold AO at hB;simp only[Bool.and_eq_true] at hB;obtain ⟨⟨hne,hcov⟩,hall⟩:=hB;rw[List.all_eq_true] at hcov hall;have hv:gJ ops (Array.replicate ops.size false) (Region.linearise .any ops t):=xw _ _ _ (by unfold Is;exact Nat.le_trans (List.length_filter_le _ _) (by simp));generalize hσ:Region.linearise .any ops t=σ at hv ⊢;have hcl:mY ops fun j=>(Array.replicate ops.size false).getD j false=true:=fun j hj=>by
  have:=jY hj;simp[Array.getD] at hj
 have hm:=qF _ _ hv;have hpw:=sE _ _ hcl hv;obtain ⟨x0,hx0⟩:∃ x,x ∈ Λ:=by
  cases Λ with
  | nil=>simp at hne
  | cons x l=>exact ⟨x,.head _⟩
 have h0:=hall x0 hx0;simp only[Bool.and_eq_true] at h0;have hdir0:kT (rp ops x0.1 x0.2)=true:=by have:=h0.2.2;unfold xt at this;simp only[Bool.and_eq_true] at this;exact this.1
 have hfull:=BW h0.1 hdir0 _ _ (by simp) hv;have hperm:(σ.filter (nb ops)).Perm ((List.range ops.size).filter (nb ops)):=by
  refine (List.perm_ext_iff_of_nodup (hm.2.filter _) (List.nodup_range.filter _)).2 fun i=>?_;rw[List.mem_filter,List.mem_filter,List.mem_range];constructor
  ·rintro ⟨h1,h2⟩;exact ⟨(hm.1 i h1).1,h2⟩
  ·rintro ⟨h1,h2⟩;refine ⟨(hfull i h1).resolve_left ?_,h2⟩;simp[Array.getD,h1]
 have hex:=uF (kU ops.toList #[]) _ _ hperm (hm.2.filter _) (hpw.filter _);rw[hperm.length_eq] at hex;have hany:=hcov _ hex;rw[List.any_eq_true] at hany;obtain ⟨x,hx,hxe⟩:=hany;have hxe:=eq_of_beq hxe;have hxx:=hall x hx;simp only[Bool.and_eq_true] at hxx;obtain ⟨hp,hns,hmix⟩:=hxx;refine It (lam:=x.1) (ord:=x.2) hp σ (fun i hi=>(hm.1 i hi).1) _ _ ?_;have hval:=BV (lam:=x.1) (ord:=x.2) hp (by rw[hxe];exact hm.2.filter _) σ (Array.replicate ops.size false) (Array.replicate ops.size false) [] (by simp) (by simp)
  (fun i hi d=>by simp[Array.getD,hi,(fx hp hi).1]) (by rw[hxe];rfl) (fun k hk=>by cases hk) hv
 have hsz:=pF (lam:=x.1) hp;have hk:=h x hx;have hw:eZ P (rp ops x.1 x.2) C (fun a w=>∃ f',R N a f'∧(cV (gI ops.toList) f' f∧k f' w)) (List.range (rp ops x.1 x.2).size) a w.drew:=by
  have:=sB (rp ops x.1 x.2).toList 0 f w.drew a (fun j _=>by simp) hR (sC (gI ops.toList) 0 (rp ops x.1 x.2).toList f w.drew (Dw hp) hk);simpa [List.range_eq_range'] using this
 have hA:=sy (P:=P) (C:=C) (Q':=Q) (fun a w ⟨f,hR,hk⟩=>hQ _ _ _ hR hk.1 hk.2) hns hmix (List.range (rp ops x.1 x.2).size) (Array.replicate (rp ops x.1 x.2).size false) a _ List.pairwise_lt_range (fun j=>by
  simp only[List.mem_range];constructor
  ·intro hj;exact ⟨hj,by simp[Array.getD,hj]⟩
  ·intro hj;exact hj.1) (by simp) (fun j o ho hj=>by
   have hjs:j<(rp ops x.1 x.2).size:=(Array.getElem?_eq_some_iff.1 ho).1;simp[Array.getD,hjs] at hj) (.inl hC) hw
 rw[hsz] at hA;have hlen:(σ.map fun i=>x.2.idxOf i).length≤(List.range ops.size).length:=by
  rw[List.length_map,List.length_range];have:σ.Subset (List.range ops.size):=fun i hi=>List.mem_range.2 (hm.1 i hi).1;have:=(List.perm_ext_iff_of_nodup hm.2 List.nodup_range).2 fun i=>⟨fun hi=>List.mem_range.2 (hm.1 i hi).1,fun hi=>(hfull i (List.mem_range.1 hi)).resolve_left (by simp[Array.getD,List.mem_range.1 hi])⟩;rw[this.length_eq];simp
 exact xv _ _ _ _ _ hlen hval hA
end
end
abbrev ab:Nat→Prop:=fun _=>False
abbrev ah (g:Nat):Value:=.pointer (some ⟨g,0,none⟩)
theorem ae {α β:Type}{a:α}{b:β}:a=a∧b=b:=⟨rfl,rfl⟩
structure cC where
 foot:Nat→Prop
 ok:World→Prop
 bP:∀ w w',(∀ g,foot g→w'.heap[g]?=w.heap[g]?)→ok w→ok w'
structure aS (F:Nat→Prop) (w w':World):Prop where
 os:w'.os=w.os
 tape:w'.tape=w.tape
 output:w'.output=w.output
 size:w.heap.size≤w'.heap.size
 old:∀ g,g<w.heap.size→¬ F g→w'.heap[g]?=w.heap[g]?
abbrev aT (w w':World):Prop:=aS ab w w'
theorem aS.refl (F:Nat→Prop)(w:World):aS F w w:=⟨rfl,rfl,rfl,Nat.le_refl _,fun _ _ _=>rfl⟩
theorem aS.trans {F G:Nat→Prop}{a b c:World}(h:aS F a b)(k:aS G b c)(hFG:∀ g,g<a.heap.size→G g→F g):aS F a c:=
 ⟨k.os.trans h.os,k.tape.trans h.tape,k.output.trans h.output,Nat.le_trans h.size k.size,fun g hg hf=>
  (k.old g (Nat.lt_of_lt_of_le hg h.size) (fun hG=>hf (hFG g hg hG))).trans (h.old g hg hf)⟩
theorem aS.mono {F G:Nat→Prop}{a b:World}(h:aS F a b)(hFG:∀ g,F g→G g):aS G a b:=
 ⟨h.os,h.tape,h.output,h.size,fun g hg hf=>h.old g hg fun hh=>hf (hFG g hh)⟩
theorem aS.alloc (w:World)(o:Obj):aT w (w.alloc o):=
 ⟨rfl,rfl,rfl,by simp,fun g hg _=>by apply heap_alloc_old;exact hg⟩
theorem aS.drew (w:World):aT w w.drew:=⟨rfl,rfl,rfl,Nat.le_refl _,fun _ _ _=>rfl⟩
theorem aS.setCell (w:World)(a:Addr)(v:Value):aS (fun g=>g=a.block) w (w.setCell a v):=
 ⟨rfl,rfl,rfl,by simp,fun g _ hne=>heap_setCell_other w a g v hne⟩
structure Hp (w0:World) (F:Nat→Prop) (w:World) (L M:List cC):Prop where
 keeps:aS F w0 w
 ok:∀ r ∈ L,r.ok w
 lt:∀ r ∈ L,∀ g,r.foot g→g<w.heap.size
 new:∀ r ∈ L,∀ g,r.foot g→w0.heap.size≤g∨F g
 dis:L.Pairwise fun r s=>∀ g,r.foot g→¬ s.foot g
 rok:∀ r ∈ M,r.ok w
 rlt:∀ r ∈ M,∀ g,r.foot g→g<w.heap.size
 rdis:∀ r ∈ M,∀ s ∈ L,∀ g,r.foot g→¬ s.foot g
section
variable {w0 w w':World} {F:Nat→Prop} {L M:List cC}
theorem Hp.start (w:World)(F:Nat→Prop)(M:List cC)(hM:∀ r ∈ M,r.ok w)(hlt:∀ r ∈ M,∀ g,r.foot g→g<w.heap.size):Hp w F w [] M:=
 ⟨aS.refl _ _,by simp,by simp,by simp,.nil,hM,hlt,by simp⟩
theorem Hp.aC (w:World):Hp w ab w [] []:=Hp.start w _ [] (by simp) (by simp)
theorem Hp.same (H:Hp w0 F w L M)(hk:aT w w'):Hp w0 F w' L M:=by
 have hold:∀ g,g<w.heap.size→w'.heap[g]?=w.heap[g]?:=fun g hg=>hk.old g hg id;exact ⟨H.keeps.trans hk (by simp),fun r hr=>r.bP _ _ (fun g hg=>hold g (H.lt r hr g hg)) (H.ok r hr),
  fun r hr g hg=>Nat.lt_of_lt_of_le (H.lt r hr g hg) hk.size,H.new,H.dis,
  fun r hr=>r.bP _ _ (fun g hg=>hold g (H.rlt r hr g hg)) (H.rok r hr),
  fun r hr g hg=>Nat.lt_of_lt_of_le (H.rlt r hr g hg) hk.size,H.rdis⟩
theorem Hp.add (H:Hp w0 F w L M)(hk:aT w w')(r:cC)(hok:r.ok w')(hn:∀ g,r.foot g→w.heap.size≤g∧g<w'.heap.size):Hp w0 F w' (r::L) M:=by
 have H':=H.same hk;refine ⟨H'.keeps,?_,?_,?_,?_,H'.rok,H'.rlt,?_⟩
 ·intro s hs;rcases List.mem_cons.1 hs with rfl | hs
  ·exact hok
  ·exact H'.ok s hs
 ·intro s hs;rcases List.mem_cons.1 hs with rfl | hs
  ·exact fun g hg=>(hn g hg).2
  ·exact H'.lt s hs
 ·intro s hs;rcases List.mem_cons.1 hs with rfl | hs
  ·exact fun g hg=>.inl (Nat.le_trans H.keeps.size (hn g hg).1)
  ·exact H'.new s hs
 ·exact .cons (fun s hs g hg hg'=>absurd (H.lt s hs g hg') (Nat.not_lt.2 (hn g hg).1)) H'.dis
 ·intro r' hr' s hs g hg hg';rcases List.mem_cons.1 hs with rfl | hs
  ·exact absurd (H.rlt r' hr' g hg) (Nat.not_lt.2 (hn g hg').1)
  ·exact H'.rdis r' hr' s hs g hg hg'
theorem Hp.pG (H:Hp w0 F w L M)(hk:aT w w')(r:cC)(hok:r.ok w')(hn:∀ g,r.foot g→g<w'.heap.size∧(w.heap.size≤g∨∃ s ∈ M,s.foot g)):Hp w0 F w' L (r::M):=by
 have H':=H.same hk;refine ⟨H'.keeps,H'.ok,H'.lt,H'.new,H'.dis,?_,?_,?_⟩
 ·intro s hs;rcases List.mem_cons.1 hs with rfl | hs
  ·exact hok
  ·exact H'.rok s hs
 ·intro s hs;rcases List.mem_cons.1 hs with rfl | hs
  ·exact fun g hg=>(hn g hg).1
  ·exact H'.rlt s hs
 ·intro r' hr' s hs g hg hg';rcases List.mem_cons.1 hr' with rfl | hr'
  ·rcases (hn g hg).2 with hge | ⟨q,hq,hqg⟩
   ·exact absurd (H.lt s hs g hg') (Nat.not_lt.2 hge)
   ·exact H.rdis q hq s hs g hqg hg'
  ·exact H'.rdis r' hr' s hs g hg hg'
theorem Hp.freeze {r:cC}(H:Hp w0 F w (r::L) M):Hp w0 F w L (r::M):=by
 refine ⟨H.keeps,fun s hs=>H.ok s (.tail _ hs),fun s hs=>H.lt s (.tail _ hs),fun s hs=>H.new s (.tail _ hs),(List.pairwise_cons.1 H.dis).2,?_,?_,?_⟩
 ·intro s hs;rcases List.mem_cons.1 hs with rfl | hs
  ·exact H.ok _ (.head _)
  ·exact H.rok s hs
 ·intro s hs;rcases List.mem_cons.1 hs with rfl | hs
  ·exact H.lt _ (.head _)
  ·exact H.rlt s hs
 ·intro s hs q hq g hg hg';rcases List.mem_cons.1 hs with rfl | hs
  ·exact (List.pairwise_cons.1 H.dis).1 q hq g hg hg'
  ·exact H.rdis s hs q (.tail _ hq) g hg hg'
theorem Hp.forget {r:cC}(H:Hp w0 F w (r::L) M):Hp w0 F w L M:=
 ⟨H.keeps,fun s hs=>H.ok s (.tail _ hs),fun s hs=>H.lt s (.tail _ hs),fun s hs=>H.new s (.tail _ hs),(List.pairwise_cons.1 H.dis).2,H.rok,H.rlt,
  fun s hs q hq=>H.rdis s hs q (.tail _ hq)⟩
theorem Hp.ao {r:cC}(H:Hp w0 F w L (r::M)):Hp w0 F w L M:=
 ⟨H.keeps,H.ok,H.lt,H.new,H.dis,fun s hs=>H.rok s (.tail _ hs),fun s hs=>H.rlt s (.tail _ hs),fun s hs=>H.rdis s (.tail _ hs)⟩
theorem Hp.perm {L':List cC}(H:Hp w0 F w L M)(hp:L.Perm L'):Hp w0 F w L' M:=
 ⟨H.keeps,fun s hs=>H.ok s (hp.mem_iff.2 hs),fun s hs=>H.lt s (hp.mem_iff.2 hs),fun s hs=>H.new s (hp.mem_iff.2 hs),
  hp.pairwise H.dis (fun h g h1 h2=>h g h2 h1),H.rok,H.rlt,fun s hs q hq=>H.rdis s hs q (hp.mem_iff.2 hq)⟩
theorem Hp.front {r:cC}(H:Hp w0 F w L M)(n:Nat)(hn:L[n]?=some r):Hp w0 F w (r::L.eraseIdx n) M:=by
 refine H.perm ?_;clear H
 induction L generalizing n with
 | nil=>simp at hn
 | cons s L ih=>
  cases n with
  | zero=>simp at hn;subst hn;exact .refl _
  | succ n=>exact ((ih n (by simpa using hn)).cons s).trans (.swap _ _ _)
theorem Hp.ep {M':List cC}(H:Hp w0 F w L M)(hM:∀ r ∈ M',r ∈ M):Hp w0 F w L M':=
 ⟨H.keeps,H.ok,H.lt,H.new,H.dis,fun s hs=>H.rok s (hM s hs),fun s hs=>H.rlt s (hM s hs),fun s hs=>H.rdis s (hM s hs)⟩
theorem Hp.mQ {r:cC}(H:Hp w0 F w L M)(n:Nat)(hn:L[n]?=some r)(r':cC)(hk:aS r.foot w w')(hok:r'.ok w')(hf:∀ g,r'.foot g→g<w'.heap.size∧(r.foot g∨w.heap.size≤g)):Hp w0 F w' (L.set n r') M:=by
 obtain ⟨hlt,hget⟩:=List.getElem?_eq_some_iff.1 hn;have hrL:r ∈ L:=hget ▸ List.getElem_mem hlt;have hpw:=List.pairwise_iff_getElem.1 H.dis;have hapart:∀ (j:Nat) (hj:j<L.length),j≠n→∀ g,L[j].foot g→¬ r.foot g:=by
  intro j hj hne g h1 h2;rw[← hget] at h2;rcases Nat.lt_or_gt_of_ne hne with h | h
  ·exact hpw j n hj hlt h g h1 h2
  ·exact hpw n j hlt hj h g h2 h1
 have hmem:∀ s ∈ L.set n r',s=r'∨∃ (j:Nat) (hj:j<L.length),j≠n∧s=L[j]:=by
  intro s hs;obtain ⟨j,hj,rfl⟩:=List.mem_iff_getElem.1 hs;rw[List.length_set] at hj;by_cases hjn:n=j
  ·subst hjn;left;simp
  ·right;exact ⟨j,hj,fun h=>hjn h.symm,by rw[List.getElem_set_ne hjn]⟩
 refine ⟨H.keeps.trans hk ?_,?_,?_,?_,?_,?_,?_,?_⟩
 ·intro g hg hr;rcases H.new r hrL g hr with h | h
  ·exact absurd hg (Nat.not_lt.2 h)
  ·exact h
 ·intro s hs;rcases hmem s hs with rfl | ⟨j,hj,hne,rfl⟩
  ·exact hok
  ·exact (L[j]).bP _ _ (fun g hg=>hk.old g (H.lt _ (List.getElem_mem hj) g hg) (hapart j hj hne g hg)) (H.ok _ (List.getElem_mem hj))
 ·intro s hs g hg;rcases hmem s hs with rfl | ⟨j,hj,hne,rfl⟩
  ·exact (hf g hg).1
  ·exact Nat.lt_of_lt_of_le (H.lt _ (List.getElem_mem hj) g hg) hk.size
 ·intro s hs g hg;rcases hmem s hs with rfl | ⟨j,hj,hne,rfl⟩
  ·rcases (hf g hg).2 with h | h
   ·exact H.new r hrL g h
   ·exact .inl (Nat.le_trans H.keeps.size h)
  ·exact H.new _ (List.getElem_mem hj) g hg
 ·refine List.pairwise_iff_getElem.2 fun i j hi hj hij g h1 h2=>?_;rw[List.length_set] at hi hj;by_cases hin:n=i
  ·subst hin;rw[List.getElem_set_self] at h1;rw[List.getElem_set_ne (by omega)] at h2;rcases (hf g h1).2 with h | h
   ·exact hapart j hj (by omega) g h2 h
   ·exact absurd (H.lt _ (List.getElem_mem hj) g h2) (Nat.not_lt.2 h)
  ·by_cases hjn:n=j
   ·subst hjn;rw[List.getElem_set_self] at h2;rw[List.getElem_set_ne (by omega)] at h1;rcases (hf g h2).2 with h | h
    ·exact hapart i hi (by omega) g h1 h
    ·exact absurd (H.lt _ (List.getElem_mem hi) g h1) (Nat.not_lt.2 h)
   ·rw[List.getElem_set_ne hin] at h1;rw[List.getElem_set_ne hjn] at h2;exact hpw i j hi hj hij g h1 h2
 ·intro s hs;exact s.bP _ _ (fun g hg=>hk.old g (H.rlt s hs g hg) (H.rdis s hs r hrL g hg)) (H.rok s hs)
 ·intro s hs g hg;exact Nat.lt_of_lt_of_le (H.rlt s hs g hg) hk.size
 ·intro s hs q hq g hg hg';rcases hmem q hq with rfl | ⟨j,hj,hne,rfl⟩
  ·rcases (hf g hg').2 with h | h
   ·exact H.rdis s hs r hrL g hg h
   ·exact absurd (H.rlt s hs g hg) (Nat.not_lt.2 h)
  ·exact H.rdis s hs _ (List.getElem_mem hj) g hg hg'
theorem Hp.get {r:cC}(H:Hp w0 F w L M)(n:Nat)(hn:L[n]?=some r):r.ok w:=H.ok r (List.mem_of_getElem? hn)
theorem Hp.ro {r:cC}(H:Hp w0 F w L M)(n:Nat)(hn:M[n]?=some r):r.ok w:=H.rok r (List.mem_of_getElem? hn)
end
def an (g:Nat)(t:TypeId)(cs:Array Value):cC:=
 ⟨fun x=>x=g,fun w=>w.heap[g]?=some (.cells cs t (0,0)),fun _ _ h hw=>(h g rfl).trans hw⟩
theorem aQ {w:World}{g:Nat}{t:TypeId}{cs:Array Value}(h:(an g t cs).ok w)(i:Nat):w.cell? ⟨g,i,none⟩=cs[i]?:=cell_of_row w g i cs t (0,0) h
theorem iV {w:World}{g:Nat}{t:TypeId}{cs:Array Value}(h:(an g t cs).ok w):g<w.heap.size:=by
 have h':w.heap[g]?=some (.cells cs t (0,0)):=h;exact (Array.getElem?_eq_some_iff.1 h').1
def cH (P:Program)(t:TypeId):Option Bool:=(P.underlying t).map fun d=>match d with | .struct _ | .array _ _=>true | _=>false
def bB (P:Program)(t:TypeId):Option Nat:=(P.info? t).map (·.size)
def eH (P:Program)(t:TypeId):Option Value:=(P.info? t).bind (·.zero)
theorem qG {P:Program}{t:TypeId}{b:Bool}(h:cH P t=some b)(w:World):(isAgg t).run P w=.ok b w:=by
 unfold cH at h
 cases hu:P.underlying t with
 | none=>simp[hu] at h
 | some d=>
  simp[hu] at h;unfold isAgg;rw[Sem.run_bind,run_underlying hu w]
  cases d <;> simp_all
theorem run_sizeOf {P:Program}{t:TypeId}{n:Nat}(h:bB P t=some n)(w:World):(sizeOf t).run P w=.ok n w:=by
 unfold bB at h
 cases hq:P.info? t with
 | none=>simp[hq] at h
 | some i=>simp[hq] at h;simp[sizeOf,typeInfo,hq,h]
theorem lK {P:Program}{t:TypeId}{z:Value}(h:eH P t=some z)(w:World):(zeroValue t).run P w=.ok z w:=by
 unfold eH at h
 cases hq:P.info? t with
 | none=>simp[hq] at h
 | some i=>simp[hq] at h;simp[zeroValue,typeInfo,hq,h]
section
variable {P:Program} {w0 w:World} {F:Nat→Prop} {L M:List cC} {k:Value→World→Prop}
theorem Hp.alloc (H:Hp w0 F w L M)(t:TypeId){z:Value}{cs:Array Value}(hz:eH P t=some z)(hcs:z.cells=cs)(h:∀ g w',Hp w0 F w' (an g t cs::L) M→k (.pointer (some ⟨g,0,none⟩)) w'):vB P t w k:=by
 unfold vB;refine ⟨_,w.alloc (.cells z.cells t),?_,h w.heap.size _ (H.add (aS.alloc _ _) _ (by subst hcs;exact heap_alloc_new w _) ?_)⟩
 ·simp[Instr.alloc,lK hz,newVar,newRow]
 ·rintro g rfl;exact ⟨Nat.le_refl _,by simp⟩
theorem Hp.box (H:Hp w0 F w L M)(t:TypeId)(v:Value){cs:Array Value}(hcs:v.cells=cs)(h:∀ g w',Hp w0 F w' (an g t cs::L) M→k (.pointer (some ⟨g,0,none⟩)) w'):F0 P t v w k:=by
 unfold F0;refine ⟨_,w.alloc (.cells v.cells t),?_,h w.heap.size _ (H.add (aS.alloc _ _) _ (by subst hcs;exact heap_alloc_new w _) ?_)⟩
 ·simp[Instr.box,newVar,newRow]
 ·rintro g rfl;exact ⟨Nat.le_refl _,by simp⟩
theorem aB {a:Addr}{ty:TypeId}{u:Value}(hagg:cH P ty=some false)(hc:w.cell? a=some u)(h:k u w):eY P ty (.pointer (some a)) w k:=by
 unfold eY;refine ⟨u,w,?_,h⟩;simp[Instr.loadAt,Instr.sureAddr,loadVar,qG hagg,hc]
theorem Hp.load (H:Hp w0 F w L M)(n:Nat){g i:Nat}{t ty:TypeId}{cs:Array Value}{u:Value}(hn:L[n]?=some (an g t cs))(hagg:cH P ty=some false)(hc:cs[i]?=some u)(h:k u w):eY P ty (.pointer (some ⟨g,i,none⟩)) w k:=aB hagg ((aQ (H.get n hn) i).trans hc) h
theorem Hp.ai (H:Hp w0 F w L M)(n:Nat){g:Nat}{t ty:TypeId}{cs:Array Value}(hn:L[n]?=some (an g t cs))(hagg:cH P ty=some true)(hs:bB P ty=some cs.size)(h:k (.agg cs) w):eY P ty (.pointer (some ⟨g,0,none⟩)) w k:=by
 unfold eY;refine ⟨_,w,?_,h⟩;have hb:w.heap[g]?=some (.cells cs t (0,0)):=H.get n hn;unfold cH at hagg
 cases hu:P.underlying ty with
 | none=>simp[hu] at hagg
 | some d=>
  simp[hu] at hagg;have:=run_loadVar_row (P:=P) w g t ty cs (0,0) d hb hu (by cases d <;> simp_all) hs;simpa [Instr.loadAt,Instr.sureAddr] using this
theorem kj {P:Program}{g:Nat}{t:TypeId}(vs:List Value):∀ (w:World) (cs:Array Value) (i:Nat),w.heap[g]?=some (.cells cs t (0,0))→i+vs.length≤cs.size→
  (∀ v ∈ vs,v.oneCell'=true)→∃ w',(storeCells ⟨g,0,none⟩ vs i).run P w=.ok () w'∧aS (fun x=>x=g) w w'∧
   w'.heap[g]?=some (.cells (cs.toList.take i++vs++cs.toList.drop (i+vs.length)).toArray t (0,0)):=by
 induction vs with
 | nil=>
  intro w cs i hb _ _;refine ⟨w,by simp[storeCells],aS.refl _ _,?_⟩;simp[hb]
 | cons v vs ih=>
  intro w cs i hb hlen h1;simp only[List.length_cons] at hlen;have hadd:(⟨g,0,none⟩:Addr).add i=⟨g,i,none⟩:=by unfold Addr.add;split <;> simp_all
  have hcell:w.cell? ⟨g,i,none⟩=some cs[i]:=by rw[cell_of_row w g i cs t (0,0) hb];exact Array.getElem?_eq_getElem (by omega)
  have hfz:w.frozen? ⟨g,i,none⟩=false:=frozen_of_row w g i cs t hb;have hb':=heap_setCell_same w g i cs t v hb;obtain ⟨w',hr,hk,hb2⟩:=ih (w.setCell ⟨g,i,none⟩ v) (cs.setIfInBounds i v) (i+1) hb' (by simp;omega) (fun u hu=>h1 u (.tail _ hu));refine ⟨w',?_,(aS.setCell w ⟨g,i,none⟩ v).trans hk (fun _ _ h=>h),?_⟩
  ·have hs:=run_store P w ⟨g,i,none⟩ v .plain (h1 v (.head _));simp[storeCells,hadd,hs,hcell,hfz,hr]
  ·rw[hb2]
   congr 3
   simp only[Array.toList_setIfInBounds,List.length_cons];rw[List.take_set,List.drop_set_of_lt (by omega)];have:(cs.toList.take (i+1)).set i v=cs.toList.take i++[v]:=by
    rw[List.take_succ_eq_append_getElem (by simpa using (by omega:i<cs.size))];rw[List.set_append_right _ _ (by simp;omega)];simp[Nat.min_eq_left (by omega:i≤cs.size)]
   rw[this];simp[Nat.add_assoc,Nat.add_comm 1]
theorem Hp.store (H:Hp w0 F w L M)(n:Nat){g i:Nat}{t ty:TypeId}{cs:Array Value}{u:Value}(hn:L[n]?=some (an g t cs))(hs:bB P ty=some 1)(hi:i<cs.size)(h1:u.oneCell'=true)(h:∀ w',Hp w0 F w' (L.set n (an g t (cs.setIfInBounds i u))) M→k undef w'):hH P ty (.pointer (some ⟨g,i,none⟩)) u w k:=by
 have hb:w.heap[g]?=some (.cells cs t (0,0)):=H.get n hn;have hcell:w.cell? ⟨g,i,none⟩=some cs[i]:=by rw[cell_of_row w g i cs t (0,0) hb];exact Array.getElem?_eq_getElem hi
 have hfz:w.frozen? ⟨g,i,none⟩=false:=frozen_of_row w g i cs t hb;have hcells:u.cells=#[u]:=by cases u <;> first | rfl | cases h1
 unfold hH;refine ⟨w.setCell ⟨g,i,none⟩ u,?_,h _ (H.mQ n hn _ (aS.setCell w ⟨g,i,none⟩ u) (heap_setCell_same w g i cs t u hb) ?_)⟩
 ·have hst:=run_store P w ⟨g,i,none⟩ u .plain h1;have hadd:(⟨g,i,none⟩:Addr).add 0=⟨g,i,none⟩:=by simp[Addr.add]
  simp[Instr.storeAt,Instr.sureAddr,storeVar,hcells,run_sizeOf hs,storeCells,hadd,hst,hcell,hfz]
 ·rintro x rfl;exact ⟨by simpa using iV (H.get n hn),.inl rfl⟩
theorem Hp.storeAll (H:Hp w0 F w L M)(n:Nat){g:Nat}{t ty:TypeId}{cs cs':Array Value}(hn:L[n]?=some (an g t cs))(hs:bB P ty=some cs.size)(hs':cs'.size=cs.size)(h1:∀ v ∈ cs'.toList,v.oneCell'=true)(h:∀ w',Hp w0 F w' (L.set n (an g t cs')) M→k undef w'):hH P ty (.pointer (some ⟨g,0,none⟩)) (.agg cs') w k:=by
 have hb:w.heap[g]?=some (.cells cs t (0,0)):=H.get n hn;obtain ⟨w',hr,hk,hb'⟩:=kj (P:=P) cs'.toList w cs 0 hb (by simp;omega) h1;unfold hH;refine ⟨w',?_,h _ (H.mQ n hn _ hk ?_ ?_)⟩
 ·simp[Instr.storeAt,Instr.sureAddr,storeVar,Value.cells,run_sizeOf hs,hs',hr]
 ·show w'.heap[g]?=_;rw[hb'];have:cs.toList.drop (0+cs'.toList.length)=[]:=by rw[List.drop_eq_nil_iff];simp;omega
  rw[this];simp
 ·rintro x rfl;refine ⟨?_,.inl rfl⟩;exact Nat.lt_of_lt_of_le (iV (H.get n hn)) hk.size
theorem aj {g:FuncId}{args:List Value}{post:Value→World→Prop}(hc:bt P g args w post)(h:∀ v w',post v w'→k v w'):js P (.func (.func g) #[] #[]) args w k:=by
 unfold js;have:(#[]:Array Value).toList++args++(#[]:Array Value).toList=args:=by simp
 show bt P g _ w k;rw[this];exact hc.mono h
theorem e7 {g:FuncId}{args cap:List Value}{post:Value→World→Prop}(hc:bt P g (args++cap) w post)(h:∀ v w',post v w'→k v w'):js P (.func (.func g) #[] cap.toArray) args w k:=by
 unfold js;show bt P g _ w k;simpa using hc.mono h
theorem aF {b:Bool}{p q:Prop}(hp:b=true→p)(hq:b=false→q):gG b p q:=by
 cases h:b
 ·exact .no rfl (hq h)
 ·exact .yes rfl (hp h)
theorem ag {b:Bool}{p q:Prop}(hb:b=true)(hp:p):gG b p q:=.yes hb hp
theorem af {b:Bool}{p q:Prop}(hb:b=false)(hq:q):gG b p q:=.no hb hq
end
section
variable {P:Program} {w:World} {kk:Value→World→Prop} {t:TypeId} {xo yo:Operand}
theorem vG {k:IntKind}{x y:Int}(hy:y≠0)(h:kk (.int k (k.wrap (x.tdiv y))) w):cU P .quo t xo yo (.int k x) (.int k y) w kk:=by
 unfold cU;exact ⟨_,w,by simp[eqGuard,binOp,Op.intDiv,hy],h⟩
theorem vH {k:IntKind}{x y:Int}(hy:y≠0)(h:kk (.int k (x.tmod y)) w):cU P .rem t xo yo (.int k x) (.int k y) w kk:=by
 unfold cU;exact ⟨_,w,by simp[eqGuard,binOp,Op.intDiv,hy],h⟩
theorem r4 {k yk:IntKind}{x y:Int}(hy:0≤y)(h:kk (.int k (k.wrap (x*2^(min y.toNat k.bits)))) w):cU P .shl t xo yo (.int k x) (.int yk y) w kk:=by
 unfold cU;exact ⟨_,w,by simp[eqGuard,binOp,Op.shift,Int.not_lt.2 hy],h⟩
theorem AP {k yk:IntKind}{x y:Int}(hy:0≤y)(h:kk (.int k (x.fdiv (2^(min y.toNat k.bits)))) w):cU P .shr t xo yo (.int k x) (.int yk y) w kk:=by
 unfold cU;exact ⟨_,w,by simp[eqGuard,binOp,Op.shift,Int.not_lt.2 hy],h⟩
theorem vI {k:IntKind}{x y:Int}(h:kk (.int k (bits .and k x y)) w):cU P .and t xo yo (.int k x) (.int k y) w kk:=by
 unfold cU;exact ⟨_,w,by simp[eqGuard,binOp,intBits_and],h⟩
theorem Dx {k:IntKind}{x y:Int}(h:kk (.int k (bits .or k x y)) w):cU P .or t xo yo (.int k x) (.int k y) w kk:=by
 unfold cU;exact ⟨_,w,by simp[eqGuard,binOp,intBits_or],h⟩
theorem AQ {k:IntKind}{x y:Int}(h:kk (.int k (bits .xor k x y)) w):cU P .xor t xo yo (.int k x) (.int k y) w kk:=by
 unfold cU;exact ⟨_,w,by simp[eqGuard,binOp,intBits_xor],h⟩
theorem sF {k:IntKind}{x y:Int}(h:kk (.int k (bits .andNot k x y)) w):cU P .andNot t xo yo (.int k x) (.int k y) w kk:=by
 unfold cU;exact ⟨_,w,by simp[eqGuard,binOp,intBits_andNot],h⟩
theorem F8 {x y:Int}(hx:0≤x)(hx':x<9223372036854775808)(hy:0<y):IntKind.i64.wrap (x.tdiv y)=x / y:=by
 rw[Int.tdiv_eq_ediv_of_nonneg hx,IntKind.wrap_i64];have h1:0≤x / y:=Int.ediv_nonneg hx (Int.le_of_lt hy);have h2:x / y≤x:=Int.ediv_le_self y hx;omega
theorem nc {x y:Int}(hx:0≤x)(hx':x<9223372036854775808)(hy:0<y)(h:kk (.int .i64 (x / y)) w):cU P .quo t xo yo (.int .i64 x) (.int .i64 y) w kk:=
 vG (by omega) (by rw[F8 hx hx' hy];exact h)
theorem nf {x y:Int}(hx:0≤x)(hy:0<y)(h:kk (.int .i64 (x % y)) w):cU P .rem t xo yo (.int .i64 x) (.int .i64 y) w kk:=
 vH (by omega) (by rw[Int.tmod_eq_emod_of_nonneg hx];exact h)
theorem aH {x:Int}(h0:-9223372036854775808≤x)(h1:x<9223372036854775808):IntKind.i64.wrap x=x:=by rw[IntKind.wrap_i64];omega
theorem mo {x:Int}(h0:0≤x)(h1:x<256):IntKind.u8.wrap x=x:=by rw[IntKind.wrap_u8];omega
theorem wrap_u64 (n:Int):IntKind.u64.wrap n=n % 18446744073709551616:=by simp[IntKind.wrap,IntKind.bits,IntKind.signed]
theorem jv {x:Int}(h0:0≤x)(h1:x<18446744073709551616):IntKind.u64.wrap x=x:=by rw[wrap_u64];omega
theorem xy {yk:IntKind}{x n:Nat}(hn:n<64)(hx:x*2^n<18446744073709551616)(h:kk (.int .u64 ((x*2^n:Nat):Int)) w):cU P .shl t xo yo (.int .u64 (x:Int)) (.int yk (n:Int)) w kk:=by
 refine r4 (by omega) ?_;have:min (n:Int).toNat IntKind.u64.bits=n:=by simp[IntKind.bits];omega
 rw[this,show ((x:Int)*2^n)=((x*2^n:Nat):Int) by simp,jv (by omega) (by omega)];exact h
theorem n4 (a:Nat)(ha:a<9223372036854775808):(BitVec.ofInt 64 (a:Int)).toNat=a:=by
 rw[BitVec.ofInt_natCast,BitVec.toNat_ofNat];exact Nat.mod_eq_of_lt (by omega)
theorem xz (a b:Nat)(ha:a<9223372036854775808)(hb:b<9223372036854775808):bits .and .i64 (a:Int) (b:Int)=((a &&&b:Nat):Int):=by
 have hx:a &&&b<2^63:=Nat.and_lt_two_pow _ (by omega);show IntKind.i64.wrap ((BitVec.ofInt 64 (a:Int) &&&BitVec.ofInt 64 (b:Int)).toNat:Int)=_;rw[BitVec.toNat_and,n4 a ha,n4 b hb,IntKind.wrap_i64];omega
theorem ib {a b:Nat}(ha:a<9223372036854775808)(hb:b<9223372036854775808)(h:kk (.int .i64 ((a &&&b:Nat):Int)) w):cU P .and t xo yo (.int .i64 (a:Int)) (.int .i64 (b:Int)) w kk:=
 vI (by rw[xz a b ha hb];exact h)
theorem ic {yk:IntKind}{x n:Nat}(hn:n≤64)(h:kk (.int .i64 ((x / 2^n:Nat):Int)) w):cU P .shr t xo yo (.int .i64 (x:Int)) (.int yk (n:Int)) w kk:=by
 refine AP (by omega) ?_;have:min (n:Int).toNat IntKind.i64.bits=n:=by simp[IntKind.bits];omega
 rw[this,Int.fdiv_eq_ediv_of_nonneg _ (by exact_mod_cast Nat.zero_le _)];have e:((x:Int) / 2^n)=((x / 2^n:Nat):Int):=by simp
 rw[e];exact h
theorem ng {yk:IntKind}{x n:Nat}(hn:n≤64)(hx:x*2^n<9223372036854775808)(h:kk (.int .i64 ((x*2^n:Nat):Int)) w):cU P .shl t xo yo (.int .i64 (x:Int)) (.int yk (n:Int)) w kk:=by
 refine r4 (by omega) ?_;have:min (n:Int).toNat IntKind.i64.bits=n:=by simp[IntKind.bits];omega
 rw[this,show ((x:Int)*2^n)=((x*2^n:Nat):Int) by simp,aH (by omega) (by omega)];exact h
theorem rq {a b:Nat}(ha:a<18446744073709551616)(hb:b<18446744073709551616)(h:kk (.int .u64 ((a &&&b:Nat):Int)) w):cU P .and t xo yo (.int .u64 (a:Int)) (.int .u64 (b:Int)) w kk:=
 vI (by rw[u64_and_nat a b ha hb];exact h)
theorem sG {a b:Nat}(ha:a<18446744073709551616)(hb:b<18446744073709551616)(h:kk (.int .u64 ((a |||b:Nat):Int)) w):cU P .or t xo yo (.int .u64 (a:Int)) (.int .u64 (b:Int)) w kk:=
 Dx (by rw[u64_or_nat a b ha hb];exact h)
theorem sH {a b:Nat}(ha:a<18446744073709551616)(hb:b<18446744073709551616)(h:kk (.int .u64 ((a &&&(18446744073709551615 - b):Nat):Int)) w):cU P .andNot t xo yo (.int .u64 (a:Int)) (.int .u64 (b:Int)) w kk:=
 sF (by rw[u64_andNot_nat a b ha hb];exact h)
theorem dL {a b:Nat}(ha:a<256)(hb:b<256)(h:kk (.int .u8 ((a &&&b:Nat):Int)) w):cU P .and t xo yo (.int .u8 (a:Int)) (.int .u8 (b:Int)) w kk:=
 vI (by rw[u8_and_nat a b ha hb];exact h)
theorem iW {a b:Nat}(ha:a<256)(hb:b<256)(h:kk (.int .u8 ((a |||b:Nat):Int)) w):cU P .or t xo yo (.int .u8 (a:Int)) (.int .u8 (b:Int)) w kk:=
 Dx (by rw[u8_or_nat a b ha hb];exact h)
theorem zg {a b:Nat}(ha:a<256)(hb:b<256)(h:kk (.int .u8 ((a ^^^ b:Nat):Int)) w):cU P .xor t xo yo (.int .u8 (a:Int)) (.int .u8 (b:Int)) w kk:=
 AQ (by rw[u8_xor_nat a b ha hb];exact h)
theorem jk {a b:Nat}(ha:a<256)(hb:b<256)(h:kk (.int .u8 ((a &&&(255 - b):Nat):Int)) w):cU P .andNot t xo yo (.int .u8 (a:Int)) (.int .u8 (b:Int)) w kk:=
 sF (by rw[u8_andNot_nat a b ha hb];exact h)
theorem vJ {a b:Bool}(ht:P.underlying t=some .bool)(h:kk (.bool (a==b)) w):cU P .eql t xo yo (.bool a) (.bool b) w kk:=by
 unfold cU;exact ⟨_,w,by rw[eqGuard_at_bool];exact run_eql_bool w t a b ht,h⟩
theorem xA {a b:ByteArray}(h:kk (.bool (a.toList==b.toList)) w):cU P .eql t xo yo (.string a) (.string b) w kk:=by
 unfold cU;exact ⟨_,w,by rw[eqGuard_at_string];simp[binOp,Op.stringOp],h⟩
theorem xB {a b:ByteArray}(h:kk (.bool (!(a.toList==b.toList))) w):cU P .neq t xo yo (.string a) (.string b) w kk:=by
 unfold cU;exact ⟨_,w,by rw[eqGuard_at_string];simp[binOp,Op.stringOp],h⟩
theorem vK {op:BinOp}{x y v:Value}(hr:∀ w,(do eqGuard op t xo yo x y;binOp op t x y:Sem Value).run P w=.ok v w)(h:kk v w):cU P op t xo yo x y w kk:=by
 unfold cU;exact ⟨_,w,hr w,h⟩
theorem rr {a b:Array Value}{r:Bool}(hg:P.eqGuardType P.depth t=false)(hr:∀ w,(Op.equal t (.agg a) (.agg b)).run P w=.ok r w)(h:kk (.bool r) w):cU P .eql t xo yo (.agg a) (.agg b) w kk:=
 vK (fun w=>by
  have e2:binOp .eql t (.agg a) (.agg b)=(do pure (.bool (← Op.equal t (.agg a) (.agg b))):Sem Value):=rfl;rw[e2];simp[eqGuard,hg,hr]) h
theorem xC {a b:Array Value}{r:Bool}(hg:P.eqGuardType P.depth t=false)(hr:∀ w,(Op.equal t (.agg a) (.agg b)).run P w=.ok r w)(h:kk (.bool (!r)) w):cU P .neq t xo yo (.agg a) (.agg b) w kk:=
 vK (fun w=>by
  have e2:binOp .neq t (.agg a) (.agg b)=(do pure (.bool (!(← Op.equal t (.agg a) (.agg b)))):Sem Value):=rfl;rw[e2];simp[eqGuard,hg,hr]) h
theorem iX {op:BinOp}{kx ky:IntKind}{x y x' y':Int}(hx:x=x')(hy:y=y')(h:cU P op t xo yo (.int kx x') (.int ky y') w kk):cU P op t xo yo (.int kx x) (.int ky y) w kk:=by subst hx;subst hy;exact h
theorem jx {s d:TypeId}{k k':IntKind}{n:Int}(hs:(P.underlying s).isSome=true)(hd:P.underlying d=some (.int k'))(h:kk (.int k' (k'.wrap n)) w):pC P s d (.int k n) w kk:=by
 unfold pC;refine ⟨_,w,?_,h⟩
 cases hsd:P.underlying s with
 | none=>simp[hsd] at hs
 | some ds=>simp[convert,run_underlying hsd,run_underlying hd,Conv.intToInt]
theorem aK {g o o':Nat}{i:Int}{n e s:Nat}{k:IntKind}(ht:P.underlying t=some (.array n e))(hs:bB P e=some s)(i':Nat)(hi:i=(i':Int))(h1:i'<n)(ho:o+i'*s=o')(h:kk (.pointer (some ⟨g,o',none⟩)) w):lI P t (.pointer (some ⟨g,o,none⟩)) (.int k i) w kk:=by
 unfold lI;subst hi;subst ho;refine ⟨_,w,?_,h⟩;simp only[Instr.indexAt,asIntOf,pure_bind,Sem.run_bind,run_underlying ht,Result.andThen_ok,Instr.sureAddr];rw[if_pos ⟨by omega,by omega⟩];simp only[Sem.run_bind,run_sizeOf hs,Result.andThen_ok,Sem.run_pure,Addr.add_lit,Int.toNat_natCast]
theorem aq {g o o' l c:Nat}{i:Int}{e s:Nat}{k:IntKind}(ht:P.underlying t=some (.slice e))(hs:bB P e=some s)(i':Nat)(hi:i=(i':Int))(h1:i'<l)(ho:o+i'*s=o')(h:kk (.pointer (some ⟨g,o',none⟩)) w):lI P t (.slice (some ⟨g,o,none⟩) l c) (.int k i) w kk:=by
 unfold lI;subst hi;subst ho;refine ⟨_,w,?_,h⟩;simp only[Instr.indexAt,asIntOf,pure_bind,Sem.run_bind,run_underlying ht,Result.andThen_ok];rw[if_pos ⟨by omega,by omega⟩];simp only[Sem.run_bind,run_sizeOf hs,Result.andThen_ok,Sem.run_pure,Addr.add_lit,Int.toNat_natCast]
theorem aa {x v:Value}{i:Nat}(hr:∀ w,(Instr.fieldAt t x i).run P w=.ok v w)(h:kk v w):mm P t x i w kk:=by
 unfold mm;exact ⟨_,w,hr w,h⟩
theorem bu {ps:List (Nat × Value)}{v:Value}(hr:∀ w,(Instr.build t ps.toArray).run P w=.ok v w)(h:kk v w):b7 P t ps w kk:=by
 unfold b7;exact ⟨_,w,hr w,h⟩
end
structure qu (P:Program) (t e:TypeId) (z:Value) (sz by_:Nat):Prop where
 und:P.underlying t=some (.slice e)
 info:(P.info? e).map (fun i=>(i.zero,i.size,i.bytes))=some (some z,sz,by_)
 zs:z.cells.size=sz
 pos:0<sz
theorem qu.size {P:Program}{t e:TypeId}{z:Value}{sz b:Nat}(T:qu P t e z sz b):bB P e=some sz:=by
 have h:=T.info;unfold bB
 cases hq:P.info? e with
 | none=>simp[hq] at h
 | some i=>simp[hq] at h;simp[h]
theorem qu.parts {P:Program}{t e:TypeId}{z:Value}{sz b:Nat}(T:qu P t e z sz b):∃ i,P.info? e=some i∧i.zero=some z∧i.size=sz∧i.bytes=b:=by
 have h:=T.info
 cases hq:P.info? e with
 | none=>simp[hq] at h
 | some i=>simp[hq] at h;exact ⟨i,rfl,h.1,h.2.1,h.2.2⟩
def own (e:TypeId)(sz:Nat)(v:Value)(n:Nat)(xs:List Value):cC:=
 ⟨fun g=>v.ownBlock=some g,fun w=>w.ownsRow 0 e sz v n xs,fun w w' h ⟨h1,h2⟩=>⟨h1,h2.imp id fun ⟨g,cap,cur,hv,h3,h4,h5⟩=>⟨g,cap,cur,hv,h3,(h g (by subst hv;rfl)).trans h4,h5⟩⟩⟩
def sl (S:Nat→Prop)(v:Value)(sz n:Nat)(xs:List Value):cC:=
 ⟨S,fun w=>xs.length=n*sz∧∃ A c,v=.slice A n c∧n≤c∧(n=0∨∃ g o,A=some ⟨g,o,none⟩∧S g∧∀ j,j<n*sz→w.cell? ⟨g,o+j,none⟩=xs[j]?),
  fun w w' h ⟨h1,A,c,hv,hc,h2⟩=>⟨h1,A,c,hv,hc,h2.imp id fun ⟨g,o,hA,hS,hx⟩=>⟨g,o,hA,hS,fun j hj=>by
   rw[← hx j hj];unfold World.cell?;rw[h g hS]⟩⟩⟩
def Sl (w:World)(v:Value)(sz n:Nat)(xs:List Value):Prop:=(sl (fun g=>g<w.heap.size) v sz n xs).ok w
theorem sl.mono {S S':Nat→Prop}{v:Value}{sz n:Nat}{xs:List Value}{w:World}(h:(sl S v sz n xs).ok w)(hS:∀ g,S g→S' g):(sl S' v sz n xs).ok w:=
 let ⟨h1,A,c,hv,hc,h2⟩:=h
 ⟨h1,A,c,hv,hc,h2.imp id fun ⟨g,o,hA,hg,hx⟩=>⟨g,o,hA,hS g hg,hx⟩⟩
theorem km {w:World}{e:TypeId}{sz n:Nat}{g c:Nat}{xs:List Value}(h:(own e sz (.slice (some ⟨g,0,none⟩) n c) n xs).ok w)(j:Nat)(hj:j<n*sz):w.cell? ⟨g,j,none⟩=xs[j]?:=
 World.ownsRow.cellAt (w:=w) (base:=0) h j hj
theorem iv {w:World}{e:TypeId}{sz:Nat}{v:Value}{n:Nat}{xs:List Value}(h:(own e sz v n xs).ok w):(sl (fun g=>v.ownBlock=some g) v sz n xs).ok w:=by
 obtain ⟨h1,h2⟩:=h;rcases h2 with ⟨rfl,rfl⟩ | ⟨g,cap,cur,rfl,_,hh,hc,_,hcs,htake⟩
 ·exact ⟨h1,none,0,rfl,Nat.le_refl _,.inl rfl⟩
 ·refine ⟨h1,_,cap,rfl,hc,.inr ⟨g,0,rfl,rfl,fun j hj=>?_⟩⟩;rw[Nat.zero_add];exact km ⟨h1,.inr ⟨g,cap,cur,rfl,Nat.zero_le _,hh,hc,‹_›,hcs,htake⟩⟩ j hj
theorem bE {w:World}{e:TypeId}{sz:Nat}{v:Value}{n:Nat}{xs:List Value}(h:(own e sz v n xs).ok w):Sl w v sz n xs:=
 sl.mono (iv h) fun g hg=>(World.ownsRow.lt (w:=w) (base:=0) h g hg).2
theorem nh {S:Nat→Prop}{v:Value}{sz n:Nat}{xs:List Value}{w:World}(h:(sl S v sz n xs).ok w)(hS:∀ g,S g→g<w.heap.size):Sl w v sz n xs:=sl.mono h hS
theorem Sl.same {w w':World}{v:Value}{sz n:Nat}{xs:List Value}(h:Sl w v sz n xs)(hk:aT w w'):Sl w' v sz n xs:=
 sl.mono ((sl _ v sz n xs).bP w w' (fun g hg=>hk.old g hg id) h) fun _ hg=>Nat.lt_of_lt_of_le hg hk.size
structure eX (w w':World) (r:cC):Prop where
 keeps:aT w w'
 ok:r.ok w'
 foot:∀ g,r.foot g→w.heap.size≤g∧g<w'.heap.size
section
variable {P:Program} {w0 w w':World} {F:Nat→Prop} {L M:List cC} {k kk:Value→World→Prop}
theorem Hp.bD {r:cC}(H:Hp w0 F w L M)(h:eX w w' r):Hp w0 F w' (r::L) M:=H.add h.keeps r h.ok h.foot
theorem Hp.out {r:cC}(H:Hp w ab w' (r::L) M):eX w w' r:=
 ⟨H.keeps,H.ok r (.head _),fun g hg=>⟨(H.new r (.head _) g hg).resolve_right id,H.lt r (.head _) g hg⟩⟩
theorem Hp.uG {r:cC}(H:Hp w ab w' L M)(n:Nat)(hn:L[n]?=some r):eX w w' r:=
 have hm:=List.mem_of_getElem? hn
 ⟨H.keeps,H.ok r hm,fun g hg=>⟨(H.new r hm g hg).resolve_right id,H.lt r hm g hg⟩⟩
theorem Hp.bx (H:Hp w0 F w L M)(e:TypeId)(sz:Nat):Hp w0 F w (own e sz (.slice none 0 0) 0 []::L) M:=
 H.add (aS.refl _ _) _ (World.ownsRow_nil w 0 e sz) (fun g hg=>by cases hg)
theorem Hp.mq (H:Hp w0 F w L M)(n:Nat){e:TypeId}{sz:Nat}{A:Option Addr}{l c:Nat}{xs:List Value}(hn:L[n]?=some (own e sz (.slice A l c) l xs))(hl:0<l) :
  ∃ g,A=some ⟨g,0,none⟩:=by
 obtain ⟨h1,h2⟩:=H.get n hn;rcases h2 with ⟨_,rfl⟩ | ⟨g,cap,cur,hv,_⟩
 ·omega
 ·injection hv with hA _ _;exact ⟨g,hA⟩
theorem Sl.A {sz l:Nat}{xs:List Value}{A:Option Addr}{c:Nat}(h:Sl w (.slice A l c) sz l xs)(hl:0<l):∃ g o,A=some ⟨g,o,none⟩:=by
 obtain ⟨h1,A',c',hv,_,h2⟩:=h;injection hv with hA _ _;subst hA;rcases h2 with rfl | ⟨g,o,hA,_⟩
 ·omega
 ·exact ⟨g,o,hA⟩
theorem Sl.cell {sz l g o c:Nat}{xs:List Value}(h:Sl w (.slice (some ⟨g,o,none⟩) l c) sz l xs)(j:Nat)(hj:j<l*sz):w.cell? ⟨g,o+j,none⟩=xs[j]?:=by
 obtain ⟨h1,A',c',hv,_,h2⟩:=h;injection hv with hA _ _;subst hA;rcases h2 with rfl | ⟨g',o',hA,_,hx⟩
 ·simp at hj
 ·injection hA with hA;injection hA with e1 e2 _;subst e1;subst e2;exact hx j hj
theorem Hp.dX (H:Hp w0 F w L M)(n:Nat){e ty:TypeId}{sz g i l c:Nat}{xs:List Value}{u:Value}(hn:L[n]?=some (own e sz (.slice (some ⟨g,0,none⟩) l c) l xs))(hagg:cH P ty=some false)(hx:xs[i]?=some u)(h:k u w):eY P ty (.pointer (some ⟨g,i,none⟩)) w k:=by
 have hok:=H.get n hn;have hlen:=hok.1;refine aB hagg ?_ h;rw[km hok i (by have:=(List.getElem?_eq_some_iff.1 hx).1;omega),hx]
theorem Hp.dn (H:Hp w0 ab w L M){ty:TypeId}{sz g o i l c:Nat}{xs:List Value}{u:Value}(hs:Sl w0 (.slice (some ⟨g,o,none⟩) l c) sz l xs)(hagg:cH P ty=some false)(o':Nat)(ho:o'=o+i)(hx:xs[i]?=some u)(h:k u w):eY P ty (.pointer (some ⟨g,o',none⟩)) w k:=by
 subst ho;have hs':=hs.same H.keeps;have hlen:=hs.1;refine aB hagg ?_ h;rw[hs'.cell i (by have:=(List.getElem?_eq_some_iff.1 hx).1;omega),hx]
theorem Hp.dd (H:Hp w0 F w L M)(n:Nat){e ty:TypeId}{sz g i l c:Nat}{xs:List Value}{u:Value}(hn:L[n]?=some (own e sz (.slice (some ⟨g,0,none⟩) l c) l xs))(hs:bB P ty=some 1)(hi:i<xs.length)(h1:u.oneCell'=true)(h:∀ w',Hp w0 F w' (L.set n (own e sz (.slice (some ⟨g,0,none⟩) l c) l (xs.set i u))) M→k undef w'):hH P ty (.pointer (some ⟨g,i,none⟩)) u w k:=by
 have hok:=H.get n hn;have hlen:=hok.1;have hcell:w.cell? ⟨g,i,none⟩=some xs[i]:=by rw[km hok i (by omega)];exact List.getElem?_eq_getElem hi
 have hfz:w.frozen? ⟨g,i,none⟩=false:=World.ownsRow.frozenAt (w:=w) (base:=0) hok i;have hcells:u.cells=#[u]:=by cases u <;> first | rfl | cases h1
 unfold hH;have hown:=(World.ownsRow.stored (w:=w) (base:=0) hok i u).1;refine ⟨w.setCell ⟨g,i,none⟩ u,?_,h _ (H.mQ n hn _ ((aS.setCell w ⟨g,i,none⟩ u).mono fun x hx=>by subst hx;rfl) hown ?_)⟩
 ·have hst:=run_store P w ⟨g,i,none⟩ u .plain h1;have hadd:(⟨g,i,none⟩:Addr).add 0=⟨g,i,none⟩:=by simp[Addr.add]
  simp[Instr.storeAt,Instr.sureAddr,storeVar,hcells,run_sizeOf hs,storeCells,hadd,hst,hcell,hfz]
 ·intro x hx;exact ⟨by simpa using (World.ownsRow.lt (w:=w) (base:=0) hok x hx).2,.inl hx⟩
theorem ay {t e ty:TypeId}{cs:Array Bool}{A:Option Addr}{n c:Nat}(ht:P.underlying t=some (.slice e))(h:kk (.int .i64 (n:Int)) w):bU P .len #[t] ty cs [.slice A n c] w kk:=by
 unfold bU;refine ⟨_,w,?_,h⟩;show (do pure (.value (← Builtin.len_ #[t] ty #[.slice A n c])):Sem Next).run P w=_;simp[Builtin.len_,run_underlying ht,goInt]
theorem dY {t ty:TypeId}{cs:Array Bool}{s:ByteArray}(ht:P.underlying t=some .string)(h:kk (.int .i64 (s.size:Int)) w):bU P .len #[t] ty cs [.string s] w kk:=by
 unfold bU;refine ⟨_,w,?_,h⟩;show (do pure (.value (← Builtin.len_ #[t] ty #[.string s])):Sem Next).run P w=_;simp[Builtin.len_,run_underlying ht,goInt]
theorem Hp.bg (H:Hp w0 F w L M){t e:TypeId}{z:Value}{sz b n:Nat}{ps:List (Nat × Value)}{cs:Array Value}(T:qu P t e z sz b)(hn:0<n)(hsm:n*sz≤16777216)(hf:Instr.fill (fun i=>some (i*sz,sz)) ((Array.range (n*sz)).map (z.cells[· % z.cells.size]!)) ps=some cs)(h:∀ g w',Hp w0 F w' (an g e cs::L) M→k (.slice (some ⟨g,0,none⟩) n n) w'):fZ P t n ps w k:=by
 unfold fZ;refine ⟨_,w.alloc (.cells cs e),?_,h w.heap.size _ (H.add (aS.alloc _ _) _ (heap_alloc_new w _) ?_)⟩
 ·obtain ⟨i,hi,hz,hs,hb⟩:=T.parts;have hnz:n*sz≠0:=Nat.mul_ne_zero (by omega) (by have:=T.pos;omega);have hzr:eH P e=some z:=by unfold eH;rw[hi];exact hz
  simp only[Instr.buildSlice,Sem.run_bind,run_underlying T.und,Result.andThen_ok,run_sizeOf T.size];rw[if_neg (by omega)];simp only[hnz,if_false,Sem.run_bind,lK hzr,Result.andThen_ok,Sem.run_pure,hf];simp[newRow]
 ·rintro g rfl;exact ⟨Nat.le_refl _,by simp⟩
theorem Dy {x z:Value}(hx:x.cells=#[x])(hz:z.cells.size=1):Instr.fill (fun i=>some (i*1,1)) ((Array.range (1*1)).map (z.cells[· % z.cells.size]!)) [(0,x)]=some #[x]:=by
 have:(Array.range (1*1)).map (fun i=>z.cells[i % z.cells.size]!)=#[z.cells[0]!]:=by
  simp[hz];exact ⟨0,by decide,getElem!_pos z.cells 0 (by omega)⟩
 rw[this];simp only[Instr.fill,hx];simp
theorem Hp.aX (H:Hp w0 F w L M){t e:TypeId}{z x:Value}{b:Nat}(T:qu P t e z 1 b)(hx:x.cells=#[x])(h:∀ g w',Hp w0 F w' (an g e #[x]::L) M→k (.slice (some ⟨g,0,none⟩) 1 1) w'):fZ P t 1 [(0,x)] w k:=
 H.bg T (by omega) (by omega) (Dy hx T.zs) h
theorem Hp.aG (H:Hp w0 F w L M)(n:Nat)(m:Nat){t e ty:TypeId}{z v:Value}{sz b l g c d:Nat}{xs:List Value}{cs:Array Value}{cst:Array Bool}(T:qu P t e z sz b)(hn:L[n]?=some (own e sz v l xs))(hm:L[m]?=some (an g e cs))(hcs:cs.size=c*sz)(h1:∀ u ∈ cs.toList,u.oneCell'=true)(hl:(l+c)*b≤140737488355328)(hl':l+c<1152921504606846976)(h:∀ A d w',Hp w0 F w' (L.set n (own e sz (.slice A (l+c) d) (l+c) (xs++cs.toList))) M→kk (.slice A (l+c) d) w') :
  bU P .append #[t,t] ty cst [v,.slice (some ⟨g,0,none⟩) c d] w kk:=by
 obtain ⟨i,hi,hz,hs,hb⟩:=T.parts;have hown:w.ownsRow 0 e sz v l xs:=H.get n hn;have hblk:=H.get m hm;obtain ⟨v',w',hrun,hown',hg,_,hloc⟩:=run_append_own_at (P:=P) w 0 t ty e i z sz b T.und hi hz hs hb T.zs T.pos v l xs hown ⟨g,0,none⟩ c d cs.toList (by simp[hcs])
  (fun j u hu=>by
   have hadd:(⟨g,0,none⟩:Addr).add j=⟨g,j,none⟩:=by unfold Addr.add;split <;> simp_all
   rw[hadd,aQ hblk];simpa using hu) h1 (by unfold maxLen;omega) hl (Nat.zero_le _)
 have hk:aS (own e sz v l xs).foot w w':=⟨hg.os,hg.tape,hg.output,hg.size,fun x hx hne=>hg.block x hx fun e=>hne e.symm⟩;have H':=H.mQ n hn (own e sz v' (l+c) (xs++cs.toList)) hk hown' (fun x hx=>⟨(World.ownsRow.lt (w:=w') (base:=0) hown' x hx).2,by
  have hx':v'.ownBlock=some x:=hx;rcases hloc with h | h
  ·left;show v.ownBlock=some x;rw[← h];exact hx'
  ·right;rw[h] at hx';injection hx' with hx';omega⟩)
 have hv:∃ A d,v'=.slice A (l+c) d:=by
  rcases hown'.2 with ⟨rfl,h0⟩ | ⟨g',cap,cur,hv,_⟩
  ·exact ⟨none,0,by rw[h0]⟩
  ·exact ⟨_,_,hv⟩
 obtain ⟨A,d',rfl⟩:=hv;unfold bU;refine ⟨_,w',?_,h A d' w' H'⟩;show (do pure (.value (← Builtin.append_ #[t,t] ty #[v,.slice (some ⟨g,0,none⟩) c d])):Sem Next).run P w=_;rw[Sem.run_bind,hrun];rfl
theorem Hp.cf {g:Nat}{e:TypeId}{x:Value}(H:Hp w0 F w (an g e #[x]::L) M)(n:Nat){t ty:TypeId}{z v:Value}{b l d:Nat}{xs:List Value}{cst:Array Bool}(T:qu P t e z 1 b)(hn:L[n]?=some (own e 1 v l xs))(h1:x.oneCell'=true)(hl:(l+1)*b≤140737488355328)(hl':l+1<1152921504606846976)(h:∀ A d w',Hp w0 F w' (L.set n (own e 1 (.slice A (l+1) d) (l+1) (xs++[x]))) M→kk (.slice A (l+1) d) w') :
  bU P .append #[t,t] ty cst [v,.slice (some ⟨g,0,none⟩) 1 d] w kk:=
 H.aG (n+1) 0 T (by simpa using hn) rfl rfl (by simpa using h1) hl hl' fun A d w' H'=>h A d w' (by simpa using H'.forget)
theorem Hp.make (H:Hp w0 F w L M){t e:TypeId}{z:Value}{sz b:Nat}(T:qu P t e z sz b){kl kc:IntKind}(n:Nat){i j:Int}(hi:i=(n:Int))(hj:j=(n:Int))(hb:b*n≤281474976710656)(hn:n<1152921504606846976)(h:∀ g w',Hp w0 F w' (own e sz (.slice (some ⟨g,0,none⟩) n n) n (madeCells z.cells (n*sz)).toList::L) M→k (.slice (some ⟨g,0,none⟩) n n) w'):ml P t (.int kl i) (.int kc j) w k:=by
 subst hi;subst hj;obtain ⟨i,hi,hz,hs,hby⟩:=T.parts;obtain ⟨w',hr,hown,hg⟩:=run_make_full (P:=P) w 0 t e i z sz T.und hi hz hs kl kc n (by rw[hby];exact hb) (by unfold maxLen;omega) (Nat.zero_le _);unfold ml;refine ⟨_,w',hr,h w.heap.size w' (H.add ⟨hg.os,hg.tape,hg.output,hg.size,fun x hx _=>hg.block x hx (by simp)⟩ _ hown fun x hx=>?_)⟩;have h2:=(World.ownsRow.lt (w:=w') (base:=0) hown x hx).2;have hx':w.heap.size=x:=by injection hx
 exact ⟨by omega,h2⟩
end
open Go.MapKept (Stamped)
section
variable {α β:Type} [DecidableEq α]
def bR (l:List (α × β))(a:α):Option β:=(l.find? fun p=>decide (p.1=a)).map (·.2)
def dS (l:List (α × β))(a:α)(b:β):List (α × β):=
 if (bR l a).isSome then l.map fun p=>if p.1=a then (a,b) else p else l++[(a,b)]
def eI (l:List (α × β)):List α:=l.map (·.1)
theorem uH {l:List (α × β)}{a:α}:bR l a=none↔∀ p ∈ l,p.1≠a:=by
 unfold bR;rw[Option.map_eq_none_iff,List.find?_eq_none];simp
theorem Dz {l:List (α × β)}{a:α}{b:β}(h:bR l a=some b):(a,b) ∈ l:=by
 unfold bR at h;rw[Option.map_eq_some_iff] at h;obtain ⟨p,hp,rfl⟩:=h;have h1:=List.find?_some hp;have h2:=List.mem_of_find?_eq_some hp;simp at h1;subst h1;exact h2
theorem jy {l:List (α × β)}(hn:(eI l).Nodup){a:α}{b:β}(h:(a,b) ∈ l):bR l a=some b:=by
 induction l with
 | nil=>cases h
 | cons p l ih=>
  simp only[eI,List.map_cons,List.nodup_cons] at hn;rcases List.mem_cons.1 h with rfl | h
  ·simp[bR]
  ·have hne:p.1≠a:=fun e=>hn.1 (by rw[e];exact List.mem_map.2 ⟨_,h,rfl⟩);have:=ih hn.2 h;simpa [bR,List.find?_cons,hne] using this
theorem sI (a:α):bR ([]:List (α × β)) a=none:=rfl
theorem DA (l:List (α × β))(a c:α)(b:β):bR (l.map fun p=>if p.1=a then (a,b) else p) c=if c=a then (bR l c).map (fun _=>b) else bR l c:=by
 induction l with
 | nil=>simp[bR]
 | cons p l ih=>
  by_cases hp:p.1=c
  ·subst hp;by_cases hc:p.1=a
   ·simp[bR,List.find?_cons,hc]
   ·simp[bR,List.find?_cons,hc]
  ·have e1:bR (p::l) c=bR l c:=by simp[bR,List.find?_cons,hp]
   have e2:bR ((p::l).map fun p=>if p.1=a then (a,b) else p) c=bR (l.map fun p=>if p.1=a then (a,b) else p) c:=by
    by_cases hc:p.1=a
    ·have:¬ a=c:=fun h=>hp (hc.trans h);simp[bR,List.find?_cons,hc,this]
    ·simp[bR,List.find?_cons,hc,hp]
   rw[e1,e2,ih]
theorem xD (l m:List (α × β))(c:α):bR (l++m) c=(bR l c).or (bR m c):=by
 unfold bR;rw[List.find?_append]
 cases l.find? fun p=>decide (p.1=c) <;> simp
theorem e8 (l:List (α × β))(a c:α)(b:β):bR (dS l a b) c=if c=a then some b else bR l c:=by
 unfold dS;split
 ·rename_i h;rw[DA];split
  ·rename_i hc;subst hc;obtain ⟨v,hv⟩:=Option.isSome_iff_exists.1 h;simp[hv]
  ·rfl
 ·rename_i h;rw[xD];split
  ·rename_i hc;subst hc;have:bR l c=none:=by simpa using h
   rw[this];simp[bR]
  ·rename_i hc;have:bR [(a,b)] c=none:=uH.2 (by rintro p hp;rw[List.mem_singleton] at hp;subst hp;exact fun e=>hc e.symm);rw[this];cases bR l c <;> rfl
theorem xE (l:List (α × β))(a:α)(b:β):(dS l a b).length=if (bR l a).isSome then l.length else l.length+1:=by
 unfold dS;split <;> simp
end
structure KL (P:Program) (k:TypeId) (K:Value→Prop):Prop where
 check:∀ (w:World) (em:Bool) {v:Value},K v→(Instr.checkKey em 10000 k v).run P w=.ok () w
 find:∀ (w:World) {x:Value},K x→∀ es:List MapEntry,(∀ e ∈ es,K e.key)→
  ((Instr.findKey k x es).run P w=.ok none w∧∀ e ∈ es,e.key≠x)∨∃ j e,(Instr.findKey k x es).run P w=.ok (some (j,e.val)) w∧es[j]?=some e∧e.key=x
 stays:∀ (w:World) {v:Value},K v→(Instr.keyThatStays v v).run P w=.ok v w
theorem KL.DB {P:Program}{k:TypeId}{d:TypeDesc}(hd:P.underlying k=some d):KL P k (MapKept.IsKey d):=
 ⟨fun w em _ h=>MapKept.run_checkKey hd h em 9999,fun w x hx es he=>by
  rcases MapKept.findNow_spec hx es 0 he with ⟨h1,h2⟩ | ⟨j,e,h1,h2,h3⟩
  ·exact .inl ⟨MapKept.run_findKey hd h1,h2⟩
  ·rw[Nat.zero_add] at h1;exact .inr ⟨j,e,MapKept.run_findKey hd h1,h2,h3⟩,fun w _ h=>MapKept.run_keyThatStays h⟩
theorem KL.mono {P:Program}{k:TypeId}{K K':Value→Prop}(h:KL P k K)(hk:∀ v,K' v→K v):KL P k K':=
 ⟨fun w em _ hv=>h.check w em (hk _ hv),fun w _ hx es he=>h.find w (hk _ hx) es (fun e hm=>hk _ (he e hm)),fun w _ hv=>h.stays w (hk _ hv)⟩
structure kQ (P:Program) (t kt et:TypeId) {α β:Type} (ka:α→Value) (vb:β→Value) (z:Value):Prop where
 und:P.underlying t=some (.map kt et)
 key:KL P kt fun v=>∃ a,v=ka a
 inj:∀ a b,ka a=ka b→a=b
 zero:eH P et=some z
def aP {α β:Type}(ka:α→Value)(vb:β→Value)(r:Nat)(l:List (α × β)):cC:=
 ⟨fun g=>g=r,fun w=>∃ es clock,w.heap[r]?=some (.map es clock)∧Stamped es clock∧es.toList.map (fun e=>(e.key,e.val))=l.map fun p=>(ka p.1,vb p.2),
  fun _ _ h ⟨es,clock,h1,h2,h3⟩=>⟨es,clock,(h r rfl).trans h1,h2,h3⟩⟩
section
variable {α β:Type} {ka:α→Value} {vb:β→Value} {z:Value} {P:Program} {t kt et:TypeId} {w0 w:World} {F:Nat→Prop} {L M:List cC} {k kk:Value→World→Prop} {l:List (α × β)} {r:Nat}
theorem iY (hinj:∀ a b,ka a=ka b→a=b){es:Array MapEntry}{clock:Nat}(hs:Stamped es clock)(hl:es.toList.map (fun e=>(e.key,e.val))=l.map fun p=>(ka p.1,vb p.2)):(eI l).Nodup:=by
 have h:=hs.2.2;have e:es.toList.map (·.key)=l.map fun p=>ka p.1:=by
  have:=congrArg (List.map Prod.fst) hl;simpa [List.map_map,Function.comp_def] using this
 rw[e] at h;have h':(l.map fun p=>ka p.1).Nodup:=h;rw[show (l.map fun p=>ka p.1)=(eI l).map ka by simp[eI,List.map_map,Function.comp_def]] at h';exact List.Pairwise.of_map ka (fun a b hne e=>hne (congrArg ka e)) h'
theorem lL [DecidableEq α](W:kQ P t kt et ka vb z){es:Array MapEntry}{clock:Nat}(hs:Stamped es clock)(hl:es.toList.map (fun e=>(e.key,e.val))=l.map fun p=>(ka p.1,vb p.2))(a:α)(w:World) :
  ((Instr.findKey kt (ka a) es.toList).run P w=.ok none w∧bR l a=none∧∀ e ∈ es.toList,e.key≠ka a)∨
   ∃ j e b,(Instr.findKey kt (ka a) es.toList).run P w=.ok (some (j,e.val)) w∧es[j]?=some e∧e.key=ka a∧l[j]?=some (a,b)∧e.val=vb b∧bR l a=some b:=by
 have hk:∀ e ∈ es.toList,∃ a,e.key=ka a:=by
  intro e he;have:(e.key,e.val) ∈ es.toList.map (fun e=>(e.key,e.val)):=List.mem_map.2 ⟨e,he,rfl⟩;rw[hl] at this;obtain ⟨p,_,hp⟩:=List.mem_map.1 this;exact ⟨p.1,(congrArg Prod.fst hp).symm⟩
 rcases W.key.find w ⟨a,rfl⟩ es.toList hk with ⟨h1,h2⟩ | ⟨j,e,h1,h2,h3⟩
 ·refine .inl ⟨h1,uH.2 fun p hp e=>?_,h2⟩;have:(ka p.1,vb p.2) ∈ es.toList.map (fun e=>(e.key,e.val)):=by rw[hl];exact List.mem_map.2 ⟨p,hp,rfl⟩
  obtain ⟨x,hx,hxe⟩:=List.mem_map.1 this;refine h2 x hx ?_;rw[show x.key=ka p.1 from congrArg Prod.fst hxe,e]
 ·have hg:=congrArg (·[j]?) hl;simp only[List.getElem?_map,h2,Option.map_some] at hg
  cases hj:l[j]? with
  | none=>rw[hj] at hg;cases hg
  | some p=>
   rw[hj] at hg;simp only[Option.map_some,Option.some.injEq,Prod.mk.injEq] at hg;obtain rfl:p.1=a:=W.inj _ _ (by rw[← hg.1,h3]);exact .inr ⟨j,e,p.2,h1,by simpa using h2,h3,hj,hg.2,jy (iY W.inj hs hl) (List.mem_of_getElem? hj)⟩
theorem Hp.makeMap (H:Hp w0 F w L M)(ka:α→Value)(vb:β→Value)(h:∀ r w',Hp w0 F w' (aP ka vb r []::L) M→k (.map (some r)) w'):mX P t none w k:=by
 unfold mX;refine ⟨_,w.alloc (.map #[] 0),?_,h w.heap.size _ (H.add (aS.alloc _ _) _ ⟨#[],0,heap_alloc_new w _,MapKept.stamped_empty 0,rfl⟩ ?_)⟩
 ·simp[Instr.makeMap]
 ·rintro g rfl;exact ⟨Nat.le_refl _,by simp⟩
theorem Hp.lookup [DecidableEq α](H:Hp w0 F w L M)(n:Nat)(hn:L[n]?=some (aP ka vb r l))(W:kQ P t kt et ka vb z)(a:α)(h:kk (((bR l a).map vb).getD z) w):gw P t (.map (some r)) (ka a) false w kk:=by
 obtain ⟨es,clock,hb,hs,hl⟩:=H.get n hn;unfold gw;rcases lL W hs hl a w with ⟨hf,hg,_⟩ | ⟨j,e,b,hf,he,hek,hlj,hv,hg⟩
 ·rw[hg] at h;exact ⟨_,w,by simp[Instr.lookup,run_underlying W.und,MapKept.run_getObj_map hb,W.key.check w _ ⟨a,rfl⟩,hf,lK W.zero,Result.andThen],h⟩
 ·rw[hg] at h;exact ⟨_,w,by simp[Instr.lookup,run_underlying W.und,MapKept.run_getObj_map hb,W.key.check w _ ⟨a,rfl⟩,hf,hv,Result.andThen],h⟩
theorem lM (H:Hp w0 F w L M)(n:Nat){l':List (α × β)}(hn:L[n]?=some (aP ka vb r l)){es:Array MapEntry}{clock:Nat}{es':Array MapEntry}{clock':Nat}(hb:w.heap[r]?=some (.map es clock))(hs:Stamped es' clock')(hl:es'.toList.map (fun e=>(e.key,e.val))=l'.map fun p=>(ka p.1,vb p.2)) :
  Hp w0 F { w with heap:=w.heap.setIfInBounds r (.map es' clock') } (L.set n (aP ka vb r l')) M:=by
 have hset:=MapKept.heap_set (o':=.map es' clock') hb;refine H.mQ n hn _ ⟨rfl,rfl,rfl,by simp,fun g hg hne=>hset.2 g hne⟩ ⟨es',clock',hset.1,hs,hl⟩ ?_;rintro g rfl;exact ⟨by simpa using (Array.getElem?_eq_some_iff.1 hb).1,.inl rfl⟩
theorem ru [DecidableEq α]{es:Array MapEntry}{j:Nat}{a:α}{b b':β}(hn:(eI l).Nodup)(hl:es.toList.map (fun e=>(e.key,e.val))=l.map fun p=>(ka p.1,vb p.2))(hlj:l[j]?=some (a,b)) :
  (es.modify j fun e=>{ e with key:=ka a,val:=vb b' }).toList.map (fun e=>(e.key,e.val))=(dS l a b').map fun p=>(ka p.1,vb p.2):=by
 have hg:bR l a=some b:=jy hn (List.mem_of_getElem? hlj);unfold dS;rw[hg];simp only[Option.isSome_some,if_true];apply List.ext_getElem?;intro i;have hli:=congrArg (·[i]?) hl;simp only[List.getElem?_map,Array.getElem?_toList] at hli;simp only[List.getElem?_map,Array.getElem?_toList,Array.getElem?_modify];by_cases hij:j=i
 ·subst hij;simp only[if_true];rw[hlj] at hli ⊢
  cases he:es[j]? with
  | none=>rw[he] at hli;cases hli
  | some x=>simp
 ·simp only[hij,if_false];rw[hli]
  cases hi:l[i]? with
  | none=>rfl
  | some p=>
   have hne:p.1≠a:=by
    intro h;have hk:=hn;have h1:(eI l)[i]?=some a:=by simp[eI,hi,h]
    have h2:(eI l)[j]?=some a:=by simp[eI,hlj]
    exact hij ((List.getElem?_inj (List.getElem?_eq_some_iff.1 h2).1 hk).1 (h2.trans h1.symm))
   simp[hne]
theorem Hp.iw [DecidableEq α](H:Hp w0 F w L M)(n:Nat)(hn:L[n]?=some (aP ka vb r l))(W:kQ P t kt et ka vb z)(a:α)(b:β)(h:∀ w',Hp w0 F w' (L.set n (aP ka vb r (dS l a b))) M→k undef w'):nV P t (.map (some r)) (ka a) (vb b) w k:=by
 obtain ⟨es,clock,hb,hs,hl⟩:=H.get n hn;unfold nV;rcases lL W hs hl a w with ⟨hf,hg,hno⟩ | ⟨j,e,b0,hf,he,hek,hlj,hv,hg⟩
 ·have hs':=MapKept.stamped_push (val:=vb b) hs hno;refine ⟨_,?_,h _ (lM H n hn hb hs' ?_)⟩
  ·simp[Instr.mapUpdate,run_underlying W.und,MapKept.run_getObj_map hb,W.key.check w _ ⟨a,rfl⟩,hf,MapKept.run_setObj_map _ hb,Result.andThen]
  ·simp[dS,hg,hl]
 ·have hkey:∀ e',es[j]?=some e'→({ e' with key:=ka a,val:=vb b }:MapEntry).key=e'.key:=fun e' he'=>by rw[he] at he';cases he';exact hek.symm
  have hs':=MapKept.stamped_modify hs j (fun e=>{ e with key:=ka a,val:=vb b }) (fun _ _=>rfl) (fun e' _ he'=>hkey e' he');refine ⟨_,?_,h _ (lM H n hn hb hs' (ru (iY W.inj hs hl) hl hlj))⟩;have hst:=W.key.stays w (v:=ka a) ⟨a,rfl⟩;simp[Instr.mapUpdate,run_underlying W.und,MapKept.run_getObj_map hb,W.key.check w _ ⟨a,rfl⟩,hf,he,hek,hst,MapKept.run_setObj_map _ hb,Result.andThen]
theorem Hp.Iu (H:Hp w0 F w L M)(n:Nat)(hn:L[n]?=some (aP ka vb r l))(W:kQ P t kt et ka vb z){ty:TypeId}{cst:Array Bool}(h:kk (.int .i64 (l.length:Int)) w):bU P .len #[t] ty cst [.map (some r)] w kk:=by
 obtain ⟨es,clock,hb,hs,hl⟩:=H.get n hn;have hlen:es.size=l.length:=by have:=congrArg List.length hl;simpa using this
 unfold bU;refine ⟨_,w,?_,h⟩;show (do pure (.value (← Builtin.len_ #[t] ty #[.map (some r)])):Sem Next).run P w=_;simp[Builtin.len_,run_underlying W.und,MapKept.run_getObj_map hb,goInt,hlen,Result.andThen]
end
structure Nd where
 l:Nat
 lo:Nat
 hi:Nat
 deriving DecidableEq
abbrev Ar:=List (Option Nd)
def slot (A:Ar)(i:Nat):Option Nd:=A.getD i none
def aR (A:Ar)(id:Int):Int:=if id=0∨id=1 then 24 else if 2≤id then (match slot A (id - 2).toNat with | some n=>(n.l:Int) | none=> -1) else -1
def ix (A:Ar)(n:Nd):Option Nat:=A.findIdx? fun x=>x==some n
def kY (A:Ar):Nat:=A.countP (·.isSome)
def bS (A:Ar):Nat:=A.findIdx (·.isNone)
def iQ (A:Ar)(n:Nd):Ar:=if bS A=A.length then A++[some n] else A.set (bS A) (some n)
def DC (A:Ar):Prop:=∀ i j n,slot A i=some n→slot A j=some n→i=j
def vL (room:Int)(A:Ar)(l lo hi:Int):Ar × Int × Int:=
 if l<0∨aR A lo≤l∨aR A hi≤l then (A,0,1)
 else match ix A ⟨l.toNat,lo.toNat,hi.toNat⟩ with
  | some i=>(A,((i+2:Nat):Int),0)
  | none=>if room≤(kY A:Int) then (A,0,5) else (iQ A ⟨l.toNat,lo.toNat,hi.toNat⟩,((bS A+2:Nat):Int),0)
theorem pH {A:Ar}{i:Nat}{n:Nd}(h:slot A i=some n):i<A.length:=by
 unfold slot at h;rw[List.getD_eq_getElem?_getD] at h;by_cases hi:i<A.length
 ·exact hi
 ·rw[List.getElem?_eq_none (by omega)] at h;cases h
theorem jz {A:Ar}{i:Nat}(h:i<A.length):A[i]?=some (slot A i):=by
 unfold slot;rw[List.getD_eq_getElem?_getD,List.getElem?_eq_getElem h];rfl
theorem uI {A:Ar}{i:Nat}(h:A.length≤i):slot A i=none:=by
 unfold slot;rw[List.getD_eq_getElem?_getD,List.getElem?_eq_none h];rfl
theorem DD {A:Ar}{i:Nat}(hi:i<A.length)(x:Option Nd)(j:Nat):slot (A.set i x) j=if j=i then x else slot A j:=by
 unfold slot;rw[List.getD_eq_getElem?_getD,List.getD_eq_getElem?_getD,List.getElem?_set];by_cases h:i=j
 ·subst h;simp[hi]
 ·simp[h,Ne.symm h]
theorem BX (A:Ar)(x:Option Nd)(j:Nat):slot (A++[x]) j=if j=A.length then x else slot A j:=by
 unfold slot;rw[List.getD_eq_getElem?_getD,List.getD_eq_getElem?_getD];by_cases h:j<A.length
 ·rw[List.getElem?_append_left h,if_neg (by omega)]
 ·rw[List.getElem?_append_right (by omega)];by_cases h2:j=A.length
  ·subst h2;simp
  ·rw[if_neg h2,List.getElem?_eq_none (by simp;omega),List.getElem?_eq_none (by omega)]
theorem nj (A:Ar):bS A≤A.length:=List.findIdx_le_length
theorem j8 (A:Ar):slot A (bS A)=none:=by
 by_cases h:bS A<A.length
 ·have:=List.findIdx_getElem (w:=h);have e:A[bS A]?=some A[bS A]:=List.getElem?_eq_getElem h;rw[jz h] at e;injection e with e;rw[e];have h':(A[bS A]).isNone=true:=this;simpa using h'
 ·exact uI (by omega)
theorem kZ {A:Ar}{i:Nat}(h:i<bS A):∃ n,slot A i=some n:=by
 have h1:=List.not_of_lt_findIdx h;have hl:i<A.length:=Nat.lt_of_lt_of_le h (nj A);have e:A[i]?=some A[i]:=List.getElem?_eq_getElem hl;rw[jz hl] at e;injection e with e;rw[e]
 cases hx:A[i] with
 | none=>simp[hx] at h1
 | some n=>exact ⟨n,rfl⟩
theorem fy (A:Ar)(n:Nd)(j:Nat):slot (iQ A n) j=if j=bS A then some n else slot A j:=by
 unfold iQ;split
 ·rename_i h;rw[BX,h]
 ·rename_i h;exact DD (by have:=nj A;omega) _ _
theorem nk (A:Ar)(n:Nd):(iQ A n).length=if bS A=A.length then A.length+1 else A.length:=by
 unfold iQ;split <;> simp
theorem ko {A:Ar}{n:Nd}:ix A n=none↔∀ i,slot A i≠some n:=by
 unfold ix;rw[List.findIdx?_eq_none_iff];constructor
 ·intro h i hi;have hl:=pH hi;have:=h _ (List.mem_of_getElem? (jz hl));simp[hi] at this
 ·intro h x hx;obtain ⟨i,hi⟩:=List.mem_iff_getElem?.1 hx;have hl:=(List.getElem?_eq_some_iff.1 hi).1;rw[jz hl] at hi;injection hi with hi;have:=h i;rw[hi] at this;simpa using this
theorem kp {A:Ar}{n:Nd}{i:Nat}(h:ix A n=some i):slot A i=some n:=by
 unfold ix at h;rw[List.findIdx?_eq_some_iff_getElem] at h;obtain ⟨hl,hp,_⟩:=h;have e:A[i]?=some A[i]:=List.getElem?_eq_getElem hl;rw[jz hl] at e;injection e with e;rw[e];simpa using hp
theorem sJ {A:Ar}(hu:DC A){n:Nd}{i:Nat}:ix A n=some i↔slot A i=some n:=by
 constructor
 ·exact kp
 ·intro h
  cases hf:ix A n with
  | none=>exact absurd h (ko.1 hf i)
  | some j=>rw[hu j i n (kp hf) h]
theorem BY (A:Ar)(n:Nd):kY (iQ A n)=kY A+1:=by
 unfold iQ kY;split
 ·simp
 ·rename_i h;have hl:bS A<A.length:=by have:=nj A;omega
  have hs:=j8 A;rw[List.countP_set hl];have e:A[bS A]=none:=by
   have e:A[bS A]?=some A[bS A]:=List.getElem?_eq_getElem hl;rw[jz hl,hs] at e;injection e with e;exact e.symm
  simp[e]
theorem xF {A:Ar}(hu:DC A){n:Nd}(hn:ix A n=none):DC (iQ A n):=by
 intro i j m hi hj;rw[fy] at hi hj;split at hi <;> split at hj
 ·omega
 ·injection hi with hi;subst hi;exact absurd hj (ko.1 hn j)
 ·injection hj with hj;subst hj;exact absurd hi (ko.1 hn i)
 ·exact hu i j m hi hj
structure sK (l:List (Nd × Nat)) (A:Ar):Prop where
 get:∀ n,bR l n=(ix A n).map (· + 2)
 len:l.length=kY A
theorem AS {l:List (Nd × Nat)}{A:Ar}(h:sK l A)(hu:DC A){n:Nd}(hn:ix A n=none):sK (dS l n (bS A+2)) (iQ A n):=by
 have hu':=xF hu hn;refine ⟨fun c=>?_,?_⟩
 ·rw[e8,h.get];split
  ·rename_i hc;subst hc;have:ix (iQ A c) c=some (bS A):=(sJ hu').2 (by rw[fy];simp);rw[this];rfl
  ·rename_i hc
   congr 1
   cases hf:ix A c with
   | none=>
    refine (ko.2 fun i hi=>?_).symm;rw[fy] at hi;split at hi
    ·injection hi with hi;exact hc hi.symm
    ·exact ko.1 hf i hi
   | some i=>
    have hi:=kp hf;refine ((sJ hu').2 ?_).symm;rw[fy,if_neg,hi];intro e;subst e;rw[j8] at hi;cases hi
 ·rw[xE,h.get,hn];simp[h.len,BY]
structure xG (A:Ar):Prop where
 uniq:DC A
 lev:∀ i n,slot A i=some n→(n.l:Int)<aR A n.lo∧(n.l:Int)<aR A n.hi
 top:∀ i n,slot A i=some n→n.l<24
theorem pI {A:Ar}(h:xG A)(id:Int):aR A id≤24:=by
 unfold aR;split
 ·omega
 ·split
  ·split
   ·rename_i n hn;have:=h.top _ n hn;omega
   ·omega
  ·omega
theorem iZ {A:Ar}{i:Nat}{n:Nd}(h:slot A i=some n):aR A ((i:Int)+2)=n.l:=by
 unfold aR;rw[if_neg (by omega),if_pos (by omega),show ((i:Int)+2 - 2).toNat=i by omega,h]
theorem i_ {A:Ar}{id:Int}(h:0≤aR A id):id=0∨id=1∨∃ (i:Nat) (n:Nd),id=(i:Int)+2∧slot A i=some n∧aR A id=n.l:=by
 by_cases h0:id=0∨id=1
 ·rcases h0 with h0 | h0
  ·exact .inl h0
  ·exact .inr (.inl h0)
 ·right;right
  have h':=h;unfold aR at h';rw[if_neg h0] at h';by_cases h2:2≤id
  ·rw[if_pos h2] at h';obtain ⟨i,rfl⟩:∃ i:Nat,id=(i:Int)+2:=⟨(id - 2).toNat,by omega⟩;rw[show ((i:Int)+2 - 2).toNat=i by omega] at h'
   cases hs:slot A i with
   | none=>rw[hs] at h';simp at h'
   | some n=>exact ⟨i,n,rfl,hs,iZ hs⟩
  ·rw[if_neg h2] at h';omega
theorem pJ {A:Ar}(n:Nd){id:Int}(h:id≠(bS A:Int)+2):aR (iQ A n) id=aR A id:=by
 unfold aR;split
 ·rfl
 ·split
  ·rename_i h2;rw[fy,if_neg (by omega)]
  ·rfl
theorem BZ (A:Ar):aR A ((bS A:Int)+2)= -1:=by
 unfold aR;rw[if_neg (by omega),if_pos (by omega),show ((bS A:Int)+2 - 2).toNat=bS A by omega,j8]
theorem F9 {A:Ar}(h:xG A){n:Nd}(hn:ix A n=none)(h1:(n.l:Int)<aR A n.lo)(h2:(n.l:Int)<aR A n.hi):xG (iQ A n):=by
 have hne:∀ id:Int,0≤aR A id→id≠(bS A:Int)+2:=by
  rintro id hid rfl;rw[BZ] at hid;omega
 refine ⟨xF h.uniq hn,fun i m hi=>?_,fun i m hi=>?_⟩
 ·rw[fy] at hi;split at hi
  ·injection hi with hi;subst hi;rw[pJ _ (hne _ (by omega)),pJ _ (hne _ (by omega))];exact ⟨h1,h2⟩
  ·have:=h.lev i m hi;rw[pJ _ (hne _ (by omega)),pJ _ (hne _ (by omega))];exact this
 ·rw[fy] at hi;split at hi
  ·injection hi with hi;subst hi;have:=pI h n.lo;omega
  ·exact h.top i m hi
section
variable {α:Type}
def flat (enc:α→List Value)(l:List α):List Value:=l.flatMap enc
theorem cQ {enc:α→List Value}{sz:Nat}(he:∀ a,(enc a).length=sz)(l:List α):(flat enc l).length=l.length*sz:=by
 induction l with
 | nil=>simp[flat]
 | cons a l ih=>
  have:flat enc (a::l)=enc a++flat enc l:=rfl;rw[this,List.length_append,ih,he,List.length_cons,Nat.succ_mul,Nat.add_comm]
theorem ja {enc:α→List Value}{l:List α}{i:Nat}{a:α}(h:l[i]?=some a):flat enc l=flat enc (l.take i)++enc a++flat enc (l.drop (i+1)):=by
 have hi:=(List.getElem?_eq_some_iff.1 h).1;have e:l=l.take i++a::l.drop (i+1):=by
  have h2:=(List.getElem?_eq_some_iff.1 h).2;rw[← h2,← List.drop_eq_getElem_cons hi,List.take_append_drop]
 conv=>lhs;rw[e]
 simp[flat]
theorem ie {enc:α→List Value}{sz:Nat}(he:∀ a,(enc a).length=sz){l:List α}{i:Nat}{a:α}(h:l[i]?=some a)(j:Nat)(hj:j<sz):(flat enc l)[i*sz+j]?=(enc a)[j]?:=by
 have hi:=(List.getElem?_eq_some_iff.1 h).1;rw[ja h,List.append_assoc,List.getElem?_append_right,cQ he,List.length_take,Nat.min_eq_left (by omega),Nat.add_sub_cancel_left,List.getElem?_append_left (by rw[he];exact hj)];rw[cQ he,List.length_take,Nat.min_eq_left (by omega)];omega
theorem DE {enc:α→List Value}{sz:Nat}(he:∀ a,(enc a).length=sz){l:List α}{i:Nat}(hi:i<l.length)(a:α) :
  flat enc (l.set i a)=(flat enc l).take (i*sz)++enc a++(flat enc l).drop (i*sz+sz):=by
 have hl:(flat enc (l.take i)).length=i*sz:=by rw[cQ he,List.length_take,Nat.min_eq_left (by omega)]
 have hg:l[i]?=some l[i]:=List.getElem?_eq_getElem hi;have hs:(l.set i a)[i]?=some a:=by simp[hi]
 have e1:(l.set i a).take i=l.take i:=by rw[List.take_set_of_le (Nat.le_refl _)]
 have e2:(l.set i a).drop (i+1)=l.drop (i+1):=by rw[List.drop_set_of_lt (by omega)]
 have h1:(flat enc l).take (i*sz)=flat enc (l.take i):=by
  rw[ja hg,List.append_assoc,List.take_append_of_le_length (by rw[hl];exact Nat.le_refl _),List.take_of_length_le (by rw[hl];exact Nat.le_refl _)]
 have h2:(flat enc l).drop (i*sz+sz)=flat enc (l.drop (i+1)):=by
  rw[ja hg,List.drop_left' (by rw[List.length_append,hl,he])]
 rw[ja hs,e1,e2,h1,h2]
theorem du (enc:α→List Value)(l:List α)(a:α):flat enc (l++[a])=flat enc l++enc a:=by simp[flat]
end
section
variable {P:Program} {w0 w w':World} {F:Nat→Prop} {L M:List cC} {k kk:Value→World→Prop}
theorem Hp.draw {N:Nat}{ops:Array Oper}{K:Fr→World→Prop}{f:Fr}(H:Hp w0 F w L M)(hf:P.follows .mixedOrders=true)(hB:(Region.noSelect ops&&xt ops)=true)(h:∀ w',Hp w0 F w' L M→gD P N (fun u=>Hp w0 F u L M) ops K 0 ops.toList f w'):kW P N ops K f w:=
 gN (fun u=>Hp w0 F u L M) hf hB (H.same (aS.drew _)) (h _ (H.same (aS.drew _)))
theorem hK {a:Addr}{ty:TypeId}(cs:List Value)(hagg:cH P ty=some true)(hs:bB P ty=some cs.length)(hc:∀ j v,cs[j]?=some v→w.cell? (a.add j)=some v)(h:k (.agg cs.toArray) w):eY P ty (.pointer (some a)) w k:=by
 unfold eY;refine ⟨_,w,?_,h⟩;simp[Instr.loadAt,Instr.sureAddr,loadVar,qG hagg,run_sizeOf hs,run_loadCells_list w a cs hc]
theorem Hp.gf {α:Type}(H:Hp w0 F w L M)(n:Nat){enc:α→List Value}{e ty:TypeId}{sz g o l c:Nat}{xs:List α}(hn:L[n]?=some (own e sz (.slice (some ⟨g,0,none⟩) l c) l (flat enc xs)))(he:∀ a,(enc a).length=sz)(hagg:cH P ty=some true)(hs:bB P ty=some sz)(i:Nat){a:α}(ho:o=i*sz)(hx:xs[i]?=some a)(h:k (.agg (enc a).toArray) w):eY P ty (.pointer (some ⟨g,o,none⟩)) w k:=by
 subst ho;have hok:=H.get n hn;have hlen:(flat enc xs).length=l*sz:=hok.1;rw[cQ he] at hlen;have hi:=(List.getElem?_eq_some_iff.1 hx).1;refine hK (enc a) hagg (by rw[he];exact hs) (fun j v hj=>?_) h;have hjs:j<sz:=by have:=(List.getElem?_eq_some_iff.1 hj).1;rwa [he] at this
 have hadd:(⟨g,i*sz,none⟩:Addr).add j=⟨g,i*sz+j,none⟩:=by unfold Addr.add;split <;> simp_all
 have h1:(i+1)*sz≤xs.length*sz:=Nat.mul_le_mul_right _ (by omega);rw[Nat.succ_mul] at h1;rw[hadd,km hok (i*sz+j) (by omega),ie he hx j hjs,hj]
theorem Hp.mr {α:Type}(H:Hp w0 F w L M)(n:Nat){enc:α→List Value}{e ty:TypeId}{sz g o l c:Nat}{xs:List α}(hn:L[n]?=some (own e sz (.slice (some ⟨g,0,none⟩) l c) l (flat enc xs)))(he:∀ a,(enc a).length=sz)(hagg:cH P ty=some false)(i j:Nat){a:α}{u:Value}(ho:o=i*sz+j)(hx:xs[i]?=some a)(hj:(enc a)[j]?=some u)(h:k u w):eY P ty (.pointer (some ⟨g,o,none⟩)) w k:=by
 subst ho;have hjs:j<sz:=by have:=(List.getElem?_eq_some_iff.1 hj).1;rwa [he] at this
 exact H.dX n hn hagg ((ie he hx j hjs).trans hj) h
theorem Sl.cI {α:Type}(H:Hp w0 ab w L M){enc:α→List Value}{ty:TypeId}{sz g o o' l c:Nat}{xs:List α}(hS:Sl w0 (.slice (some ⟨g,o,none⟩) l c) sz l (flat enc xs))(he:∀ a,(enc a).length=sz)(hagg:cH P ty=some true)(hs:bB P ty=some sz)(i:Nat){a:α}(ho:o'=o+i*sz)(hx:xs[i]?=some a)(h:k (.agg (enc a).toArray) w):eY P ty (.pointer (some ⟨g,o',none⟩)) w k:=by
 subst ho;have hS':=hS.same H.keeps;have hlen:(flat enc xs).length=l*sz:=hS.1;rw[cQ he] at hlen;have hi:=(List.getElem?_eq_some_iff.1 hx).1;refine hK (enc a) hagg (by rw[he];exact hs) (fun j v hj=>?_) h;have hjs:j<sz:=by have:=(List.getElem?_eq_some_iff.1 hj).1;rwa [he] at this
 have hadd:(⟨g,o+i*sz,none⟩:Addr).add j=⟨g,o+(i*sz+j),none⟩:=by unfold Addr.add;split <;> simp_all[Nat.add_assoc]
 have h1:(i+1)*sz≤xs.length*sz:=Nat.mul_le_mul_right _ (by omega);rw[Nat.succ_mul] at h1;rw[hadd,hS'.cell (i*sz+j) (by omega),ie he hx j hjs,hj]
theorem ku (g o:Nat):∀ (vs:List Value) (i:Nat),storeCells ⟨g,o,none⟩ vs i=storeCells ⟨g,0,none⟩ vs (o+i)
 | [],_=>rfl
 | v::vs,i=>by
  have e1:(⟨g,o,none⟩:Addr).add i=⟨g,o+i,none⟩:=by unfold Addr.add;split <;> simp_all
  have e2:(⟨g,0,none⟩:Addr).add (o+i)=⟨g,o+i,none⟩:=by unfold Addr.add;split <;> simp_all
  rw[storeCells,storeCells,e1,e2,ku g o vs (i+1),Nat.add_assoc]
theorem Hp.xH {α:Type}(H:Hp w0 F w L M)(n:Nat){enc:α→List Value}{e ty:TypeId}{sz g o l c:Nat}{xs:List α}{cs:Array Value}(a:α)(hn:L[n]?=some (own e sz (.slice (some ⟨g,0,none⟩) l c) l (flat enc xs)))(he:∀ a,(enc a).length=sz)(hs:bB P ty=some sz)(i:Nat)(ho:o=i*sz)(hi:i<xs.length)(hcs:cs=(enc a).toArray)(h1:∀ v ∈ enc a,v.oneCell'=true)(h:∀ w',Hp w0 F w' (L.set n (own e sz (.slice (some ⟨g,0,none⟩) l c) l (flat enc (xs.set i a)))) M→k undef w'):hH P ty (.pointer (some ⟨g,o,none⟩)) (.agg cs) w k:=by
 subst ho;subst hcs;have hok:=H.get n hn;have hlen:(flat enc xs).length=l*sz:=hok.1;have hlen':=hlen;rw[cQ he] at hlen';have h2:(i+1)*sz≤xs.length*sz:=Nat.mul_le_mul_right _ (by omega);rw[Nat.succ_mul] at h2;rcases hok.2 with ⟨hv,_⟩ | ⟨g',cap,cur,hv,hb,hg,hc,hm,hcur,htake⟩
 ·cases hv
 ·injection hv with hv1 _ hv2;injection hv1 with hv1;injection hv1 with hv1 _ _;subst hv1;subst hv2;have hcl:cur.toList.length=c*sz:=by simpa using hcur
  have hls:l*sz≤c*sz:=Nat.mul_le_mul_right _ hc;obtain ⟨w',hr,hk,hb'⟩:=kj (P:=P) (enc a) w cur (i*sz) hg (by rw[he];omega) h1;rw[he] at hb';unfold hH;have hown:(own e sz (.slice (some ⟨g,0,none⟩) l c) l (flat enc (xs.set i a))).ok w':=by
   refine ⟨by rw[cQ he,List.length_set];exact hlen',.inr ⟨g,c,_,rfl,hb,hb',hc,hm,?_,?_⟩⟩
   ·simp only[List.size_toArray,List.length_append,List.length_take,List.length_drop,he];omega
   ·rw[DE he hi,← htake];simp only[List.append_assoc];rw[List.take_append,List.take_append,List.length_take,he,List.take_take,List.take_take,List.drop_take];have e1:min (l*sz) (i*sz)=i*sz:=by omega
    have e2:min (i*sz) cur.toList.length=i*sz:=by omega
    have e3:min (i*sz) (l*sz)=i*sz:=by omega
    rw[e1,e2,e3,List.take_of_length_le (l:=enc a) (by rw[he];omega)]
    congr 3
    omega
  refine ⟨w',?_,h _ (H.mQ n hn _ (hk.mono fun x hx=>by subst hx;rfl) hown ?_)⟩
  ·have:storeCells ⟨g,i*sz,none⟩ (enc a) 0=storeCells ⟨g,0,none⟩ (enc a) (i*sz):=ku g (i*sz) (enc a) 0;simp[Instr.storeAt,Instr.sureAddr,storeVar,Value.cells,run_sizeOf hs,he,this,hr]
  ·intro x hx;refine ⟨Nat.lt_of_lt_of_le (World.ownsRow.lt (w:=w) (base:=0) hok x ?_).2 hk.size,.inl hx⟩;exact hx
theorem Hp.xI {α:Type}(H:Hp w0 F w L M)(n:Nat){enc:α→List Value}{e ty:TypeId}{sz g o l c:Nat}{xs:List α}{u:Value}(a':α)(hn:L[n]?=some (own e sz (.slice (some ⟨g,0,none⟩) l c) l (flat enc xs)))(he:∀ a,(enc a).length=sz)(hs:bB P ty=some 1)(i j:Nat){a:α}(ho:o=i*sz+j)(hx:xs[i]?=some a)(hj:j<sz)(ha':enc a'=(enc a).set j u)(h1:u.oneCell'=true)(h:∀ w',Hp w0 F w' (L.set n (own e sz (.slice (some ⟨g,0,none⟩) l c) l (flat enc (xs.set i a')))) M→k undef w'):hH P ty (.pointer (some ⟨g,o,none⟩)) u w k:=by
 subst ho;have hi:=(List.getElem?_eq_some_iff.1 hx).1;have h2:(i+1)*sz≤xs.length*sz:=Nat.mul_le_mul_right _ (by omega);rw[Nat.succ_mul] at h2;refine H.dd n hn hs (by rw[cQ he];omega) h1 fun w' H'=>h w' ?_;have e:(flat enc xs).set (i*sz+j) u=flat enc (xs.set i a'):=by
  have hl:(flat enc (xs.take i)).length=i*sz:=by rw[cQ he,List.length_take,Nat.min_eq_left (by omega)]
  have hs':(xs.set i a')[i]?=some a':=by simp[hi]
  rw[ja hx,ja hs',List.take_set_of_le (Nat.le_refl _),List.drop_set_of_lt (by omega),ha',List.append_assoc,List.append_assoc,
   List.set_append_right _ _ (by omega),hl,Nat.add_sub_cancel_left,List.set_append_left _ _ (by rw[he];exact hj)]
 rwa [e] at H'
end
def rS (Ls:List cC):cC:=
 ⟨fun g=>∃ r ∈ Ls,r.foot g,fun w=>(∀ r ∈ Ls,r.ok w)∧(∀ r ∈ Ls,∀ g,r.foot g→g<w.heap.size)∧Ls.Pairwise fun (r s:cC)=>∀ g:Nat,r.foot g→¬ s.foot g,
  fun w w' h ⟨h1,h2,h3⟩=>⟨fun r hr=>r.bP w w' (fun g hg=>h g ⟨r,hr,hg⟩) (h1 r hr),fun r hr g hg=>by
   have:=h2 r hr g hg;have e:=h g ⟨r,hr,hg⟩;rw[Array.getElem?_eq_getElem this] at e;exact (Array.getElem?_eq_some_iff.1 e).1,h3⟩⟩
section
variable {P:Program} {w0 w w':World} {F:Nat→Prop} {L M Ls:List cC} {k kk:Value→World→Prop} {r r':cC}
theorem Hp.join (H:Hp w0 F w (Ls++L) M):Hp w0 F w (rS Ls::L) M:=by
 obtain ⟨h1,h2,h3⟩:=List.pairwise_append.1 H.dis;refine ⟨H.keeps,?_,?_,?_,?_,H.rok,H.rlt,?_⟩
 ·intro r hr;rcases List.mem_cons.1 hr with rfl | hr
  ·exact ⟨fun r hr=>H.ok r (List.mem_append_left _ hr),fun r hr=>H.lt r (List.mem_append_left _ hr),h1⟩
  ·exact H.ok r (List.mem_append_right _ hr)
 ·intro r hr g hg;rcases List.mem_cons.1 hr with rfl | hr
  ·obtain ⟨s,hs,hg⟩:=hg;exact H.lt s (List.mem_append_left _ hs) g hg
  ·exact H.lt r (List.mem_append_right _ hr) g hg
 ·intro r hr g hg;rcases List.mem_cons.1 hr with rfl | hr
  ·obtain ⟨s,hs,hg⟩:=hg;exact H.new s (List.mem_append_left _ hs) g hg
  ·exact H.new r (List.mem_append_right _ hr) g hg
 ·refine .cons (fun s hs g ⟨q,hq,hg⟩ hg'=>h3 q hq s hs g hg hg') h2
 ·intro r hr s hs g hg hg';rcases List.mem_cons.1 hs with rfl | hs
  ·obtain ⟨q,hq,hg'⟩:=hg';exact H.rdis r hr q (List.mem_append_left _ hq) g hg hg'
  ·exact H.rdis r hr s (List.mem_append_right _ hs) g hg hg'
theorem Hp.split (H:Hp w0 F w (rS Ls::L) M):Hp w0 F w (Ls++L) M:=by
 obtain ⟨h1,h2,h3⟩:=H.ok _ (.head _);have hd:=List.pairwise_cons.1 H.dis;refine ⟨H.keeps,?_,?_,?_,?_,H.rok,H.rlt,?_⟩
 ·intro r hr;rcases List.mem_append.1 hr with hr | hr
  ·exact h1 r hr
  ·exact H.ok r (.tail _ hr)
 ·intro r hr;rcases List.mem_append.1 hr with hr | hr
  ·exact h2 r hr
  ·exact H.lt r (.tail _ hr)
 ·intro r hr g hg;rcases List.mem_append.1 hr with hr | hr
  ·exact H.new _ (.head _) g ⟨r,hr,hg⟩
  ·exact H.new r (.tail _ hr) g hg
 ·exact List.pairwise_append.2 ⟨h3,hd.2,fun r hr s hs g hg hg'=>hd.1 s hs g ⟨r,hr,hg⟩ hg'⟩
 ·intro r hr s hs g hg hg';rcases List.mem_append.1 hs with hs | hs
  ·exact H.rdis r hr _ (.head _) g hg ⟨s,hs,hg'⟩
  ·exact H.rdis r hr s (.tail _ hs) g hg hg'
structure jA (w w':World) (r r':cC):Prop where
 keeps:aS r.foot w w'
 ok:r'.ok w'
 foot:∀ g,r'.foot g→g<w'.heap.size∧(r.foot g∨w.heap.size≤g)
theorem Hp.b5 (H:Hp w0 F w L M)(n:Nat)(hn:L[n]?=some r)(h:jA w w' r r'):Hp w0 F w' (L.set n r') M:=H.mQ n hn r' h.keeps h.ok h.foot
theorem Hp.Iv (hr:r.ok w)(hlt:∀ g,r.foot g→g<w.heap.size):Hp w r.foot w [r] []:=
 ⟨aS.refl _ _,by simpa using hr,by simpa using hlt,by intro s hs g hg;rw[List.mem_singleton] at hs;subst hs;exact .inr hg,by simp,by simp,by simp,by simp⟩
theorem Hp.ry (hr:r.ok w)(hlt:∀ g,r.foot g→g<w.heap.size)(hM:∀ s ∈ M,s.ok w)(hMlt:∀ s ∈ M,∀ g,s.foot g→g<w.heap.size)(hd:∀ s ∈ M,∀ g,s.foot g→¬ r.foot g):Hp w r.foot w [r] M:=
 ⟨aS.refl _ _,by simpa using hr,by simpa using hlt,by intro s hs g hg;rw[List.mem_singleton] at hs;subst hs;exact .inr hg,by simp,hM,hMlt,by simpa using hd⟩
theorem Hp.bc (H:Hp w r.foot w' (r'::L) M):jA w w' r r':=
 ⟨H.keeps,H.ok _ (.head _),fun g hg=>⟨H.lt _ (.head _) g hg,(H.new _ (.head _) g hg).symm⟩⟩
theorem jA.refl (hr:r.ok w)(hlt:∀ g,r.foot g→g<w.heap.size):jA w w r r:=⟨aS.refl _ _,hr,fun g hg=>⟨hlt g hg,.inl hg⟩⟩
theorem jA.same {w1:World}(h:jA w w1 r r')(hk:aT w1 w'):jA w w' r r':=
 ⟨h.keeps.trans hk (by simp),r'.bP _ _ (fun g hg=>hk.old g (h.foot g hg).1 id) h.ok,fun g hg=>⟨Nat.lt_of_lt_of_le (h.foot g hg).1 hk.size,(h.foot g hg).2⟩⟩
theorem Hp.re (H:Hp w0 F w (r::L) M)(hok:r.ok w→r'.ok w)(hf:∀ g,r'.foot g→r.foot g):Hp w0 F w (r'::L) M:=by
 have hd:=List.pairwise_cons.1 H.dis;refine ⟨H.keeps,?_,?_,?_,?_,H.rok,H.rlt,?_⟩
 ·intro s hs;rcases List.mem_cons.1 hs with rfl | hs
  ·exact hok (H.ok _ (.head _))
  ·exact H.ok s (.tail _ hs)
 ·intro s hs g hg;rcases List.mem_cons.1 hs with rfl | hs
  ·exact H.lt _ (.head _) g (hf g hg)
  ·exact H.lt s (.tail _ hs) g hg
 ·intro s hs g hg;rcases List.mem_cons.1 hs with rfl | hs
  ·exact H.new _ (.head _) g (hf g hg)
  ·exact H.new s (.tail _ hs) g hg
 ·exact .cons (fun s hs g hg=>hd.1 s hs g (hf g hg)) hd.2
 ·intro q hq s hs g hg hg';rcases List.mem_cons.1 hs with rfl | hs
  ·exact H.rdis q hq _ (.head _) g hg (hf g hg')
  ·exact H.rdis q hq s (.tail _ hs) g hg hg'
theorem Hp.DF (H:Hp w0 F w L M)(n:Nat){S:Nat→Prop}{ty:TypeId}{sz g o o' i l c:Nat}{xs:List Value}{u:Value}(hn:M[n]?=some (sl S (.slice (some ⟨g,o,none⟩) l c) sz l xs))(hagg:cH P ty=some false)(ho:o'=o+i)(hx:xs[i]?=some u)(h:k u w):eY P ty (.pointer (some ⟨g,o',none⟩)) w k:=by
 subst ho;obtain ⟨h1,A,c',hv,_,h2⟩:=H.ro n hn;injection hv with hA _ hc;subst hA;subst hc;have hi:=(List.getElem?_eq_some_iff.1 hx).1;rcases h2 with rfl | ⟨g',o2,hA,_,hcell⟩
 ·simp at h1;subst h1;simp at hi
 ·injection hA with hA;injection hA with e1 e2 _;subst e1;subst e2;exact aB hagg ((hcell i (by omega)).trans hx) h
end
section
variable {P:Program} {w:World} {k kk:Value→World→Prop}
theorem jM {g i:Nat}{t ty:TypeId}{cs:Array Value}{u:Value}(hr:(an g t cs).ok w)(hagg:cH P ty=some false)(hc:cs[i]?=some u)(h:k u w):eY P ty (.pointer (some ⟨g,i,none⟩)) w k:=aB hagg ((aQ hr i).trans hc) h
theorem Iw {e ty:TypeId}{sz g i l c:Nat}{xs:List Value}{u:Value}(hr:(own e sz (.slice (some ⟨g,0,none⟩) l c) l xs).ok w)(hagg:cH P ty=some false)(hx:xs[i]?=some u)(h:k u w):eY P ty (.pointer (some ⟨g,i,none⟩)) w k:=by
 have hlen:=hr.1;refine aB hagg ?_ h;rw[km hr i (by have:=(List.getElem?_eq_some_iff.1 hx).1;omega),hx]
theorem sL {α:Type}{enc:α→List Value}{e ty:TypeId}{sz g o l c:Nat}{xs:List α}(hr:(own e sz (.slice (some ⟨g,0,none⟩) l c) l (flat enc xs)).ok w)(he:∀ a,(enc a).length=sz)(hagg:cH P ty=some false)(i j:Nat){a:α}{u:Value}(ho:o=i*sz+j)(hx:xs[i]?=some a)(hj:(enc a)[j]?=some u)(h:k u w):eY P ty (.pointer (some ⟨g,o,none⟩)) w k:=by
 subst ho;have hjs:j<sz:=by have:=(List.getElem?_eq_some_iff.1 hj).1;rwa [he] at this
 exact Iw hr hagg ((ie he hx j hjs).trans hj) h
theorem Ix {α:Type}{enc:α→List Value}{e ty:TypeId}{sz g o l c:Nat}{xs:List α}(hok:(own e sz (.slice (some ⟨g,0,none⟩) l c) l (flat enc xs)).ok w)(he:∀ a,(enc a).length=sz)(hagg:cH P ty=some true)(hs:bB P ty=some sz)(i:Nat){a:α}(ho:o=i*sz)(hx:xs[i]?=some a)(h:k (.agg (enc a).toArray) w):eY P ty (.pointer (some ⟨g,o,none⟩)) w k:=by
 subst ho;have hlen:(flat enc xs).length=l*sz:=hok.1;rw[cQ he] at hlen;have hi:=(List.getElem?_eq_some_iff.1 hx).1;refine hK (enc a) hagg (by rw[he];exact hs) (fun j v hj=>?_) h;have hjs:j<sz:=by have:=(List.getElem?_eq_some_iff.1 hj).1;rwa [he] at this
 have hadd:(⟨g,i*sz,none⟩:Addr).add j=⟨g,i*sz+j,none⟩:=by unfold Addr.add;split <;> simp_all
 have h1:(i+1)*sz≤xs.length*sz:=Nat.mul_le_mul_right _ (by omega);rw[Nat.succ_mul] at h1;rw[hadd,km hok (i*sz+j) (by omega),ie he hx j hjs,hj]
theorem jB {e:TypeId}{sz:Nat}{A:Option Addr}{l c:Nat}{xs:List Value}(hr:(own e sz (.slice A l c) l xs).ok w)(hl:0<l):∃ g,A=some ⟨g,0,none⟩:=by
 rcases hr.2 with ⟨_,rfl⟩ | ⟨g,cap,cur,hv,_⟩
 ·omega
 ·injection hv with hA _ _;exact ⟨g,hA⟩
theorem e9 {e:TypeId}{sz:Nat}{v:Value}{l:Nat}{xs:List Value}(hr:(own e sz v l xs).ok w):∃ A c,v=.slice A l c∧l≤c:=by
 rcases hr.2 with ⟨rfl,rfl⟩ | ⟨g,cap,cur,hv,_,_,hc,_⟩
 ·exact ⟨_,_,rfl,Nat.le_refl _⟩
 ·exact ⟨_,_,hv,hc⟩
section
variable {α β:Type} {ka:α→Value} {vb:β→Value} {z:Value} {t kt et:TypeId} {l:List (α × β)} {r:Nat}
theorem k9 [DecidableEq α](hr:(aP ka vb r l).ok w)(W:kQ P t kt et ka vb z)(a:α)(h1:∀ b,bR l a=some b→kk (.tuple #[vb b,.bool true]) w)(h2:bR l a=none→kk (.tuple #[z,.bool false]) w):gw P t (.map (some r)) (ka a) true w kk:=by
 obtain ⟨es,clock,hb,hs,hl⟩:=hr;unfold gw;rcases lL W hs hl a w with ⟨hf,hg,_⟩ | ⟨j,e,b,hf,he,hek,hlj,hv,hg⟩
 ·exact ⟨_,w,by simp[Instr.lookup,run_underlying W.und,MapKept.run_getObj_map hb,W.key.check w _ ⟨a,rfl⟩,hf,lK W.zero,Result.andThen],h2 hg⟩
 ·exact ⟨_,w,by simp[Instr.lookup,run_underlying W.und,MapKept.run_getObj_map hb,W.key.check w _ ⟨a,rfl⟩,hf,hv,Result.andThen],h1 b hg⟩
theorem uJ (hr:(aP ka vb r l).ok w)(W:kQ P t kt et ka vb z){ty:TypeId}{cst:Array Bool}(h:kk (.int .i64 (l.length:Int)) w):bU P .len #[t] ty cst [.map (some r)] w kk:=by
 obtain ⟨es,clock,hb,hs,hl⟩:=hr;have hlen:es.size=l.length:=by have:=congrArg List.length hl;simpa using this
 unfold bU;refine ⟨_,w,?_,h⟩;show (do pure (.value (← Builtin.len_ #[t] ty #[.map (some r)])):Sem Next).run P w=_;simp[Builtin.len_,run_underlying W.und,MapKept.run_getObj_map hb,goInt,hlen,Result.andThen]
end
end
section
variable {P:Program} {w:World} {kk:Value→World→Prop} {s d:TypeId} {kd:IntKind} {n:Int}
theorem iy (hs:(P.underlying s).isSome=true)(hd:P.underlying d=some (.int .i64))(h0:-9223372036854775808≤n)(h1:n<9223372036854775808)(h:kk (.int .i64 n) w):pC P s d (.int kd n) w kk:=
 jx hs hd (by rw[aH h0 h1];exact h)
theorem jZ (hs:(P.underlying s).isSome=true)(hd:P.underlying d=some (.int .u8))(h0:0≤n)(h1:n<256)(h:kk (.int .u8 n) w):pC P s d (.int kd n) w kk:=
 jx hs hd (by rw[mo h0 h1];exact h)
end
section
variable {P:Program} {w:World} {kk:Value→World→Prop} {t:TypeId} {xo yo:Operand}
theorem cZ {yk:IntKind}{n:Nat}(hn:n≤62)(h:kk (.int .i64 ((2^n:Nat):Int)) w):cU P .shl t xo yo (.int .i64 1) (.int yk (n:Int)) w kk:=by
 have h2:2^n≤2^62:=Nat.pow_le_pow_right (by decide) hn;refine iX (x':=((1:Nat):Int)) rfl rfl (ng (by omega) (by omega) ?_)
 rwa [Nat.one_mul]
theorem b8 {yk:IntKind}{n:Nat}(hn:n≤7)(h:kk (.int .u8 ((2^n:Nat):Int)) w):cU P .shl t xo yo (.int .u8 1) (.int yk (n:Int)) w kk:=by
 have h2:2^n≤2^7:=Nat.pow_le_pow_right (by decide) hn;refine r4 (by omega) ?_;have:min (n:Int).toNat IntKind.u8.bits=n:=by simp[IntKind.bits];omega
 rw[this,show ((1:Int)*2^n)=((2^n:Nat):Int) by simp];generalize 2^n=k at h2 h ⊢;rw[mo (by omega) (by omega)];exact h
theorem eR {yk:IntKind}{x n:Nat}(hn:n≤8)(h:kk (.int .u8 ((x / 2^n:Nat):Int)) w):cU P .shr t xo yo (.int .u8 (x:Int)) (.int yk (n:Int)) w kk:=by
 refine AP (by omega) ?_;have:min (n:Int).toNat IntKind.u8.bits=n:=by simp[IntKind.bits];omega
 rw[this,Int.fdiv_eq_ediv_of_nonneg _ (by exact_mod_cast Nat.zero_le _)];have e:((x:Int) / 2^n)=((x / 2^n:Nat):Int):=by simp
 rw[e];exact h
theorem sM {x y:Nat}(hx:x<256)(hy:0<y)(h:kk (.int .u8 ((x / y:Nat):Int)) w):cU P .quo t xo yo (.int .u8 (x:Int)) (.int .u8 (y:Int)) w kk:=by
 refine vG (by omega) ?_;have h2:x / y≤x:=Nat.div_le_self x y;rw[Int.tdiv_eq_ediv_of_nonneg (by omega),show ((x:Int) / (y:Int))=((x / y:Nat):Int) by simp];generalize x / y=q at h2 h ⊢;rw[mo (by omega) (by omega)];exact h
theorem sN {x y:Nat}(hy:0<y)(h:kk (.int .u8 ((x % y:Nat):Int)) w):cU P .rem t xo yo (.int .u8 (x:Int)) (.int .u8 (y:Int)) w kk:=by
 refine vH (by omega) ?_;rw[Int.tmod_eq_emod_of_nonneg (by omega),show ((x:Int) % (y:Int))=((x % y:Nat):Int) by simp];exact h
theorem vM (m i:Nat):(((m / 2^i &&&1:Nat):Int)==0)= !m.testBit i:=by
 rw[Nat.testBit_eq_decide_div_mod_eq,Nat.and_one_is_mod];generalize m / 2^i=q;rw[Bool.eq_iff_iff,beq_iff_eq,Bool.not_eq_true',decide_eq_false_iff_not];omega
end
theorem au {p:Prop}[Decidable p]{q r:Prop}(h1:p→q)(h2:¬ p→r):gG (decide p) q r:=
 aF (fun h=>h1 (of_decide_eq_true h)) (fun h=>h2 (of_decide_eq_false h))
theorem cr {a b:Int}{q r:Prop}(h1:a=b→q)(h2:a≠b→r):gG (a==b) q r:=
 aF (fun h=>h1 (beq_iff_eq.1 h)) (fun h=>h2 (beq_eq_false_iff_ne.1 h))
theorem de {a b:Int}{q r:Prop}(h1:a≠b→q)(h2:a=b→r):gG (a !=b) q r:=
 aF (fun h=>h1 (by simpa using h)) (fun h=>h2 (by simpa using h))
def eB (S:Nat→Bool)(i:Nat)(op:Op):Bool:=S i||fV op
theorem DG {S:Nat→Bool}{i:Nat}{op:Op}(h:eB S i op=false):fV op=false:=by
 unfold eB at h;cases hS:S i <;> rw[hS] at h <;> first | exact h | cases h
def DH (S:Nat→Bool)(ops:Array Oper)(c:Array Nat)(i j:Nat):Bool:=
 match ops[i]?,ops[j]? with
 | some x,some y=>(x.apart ops y&& !(eB S i x.op&&eB S j y.op))||f_ c j i
 | _,_=>true
def uK (S:Nat→Bool)(ops:Array Oper):Bool:=
 kT ops&&(List.range ops.size).all fun j=>(List.range j).all fun i=>DH S ops (kU ops.toList #[]) i j
def iz (S:Nat→Bool)(ops:Array Oper)(i:Nat):Bool:=
 (List.range ops.size).all fun j=>j==i||(match ops[j]? with | some o=>eB S j o.op | none=>true)||f_ (kU ops.toList #[]) i j
def dv (S:Nat→Bool)(P:Program)(ops:Array Oper)(C:World→Prop)(Q:Act→World→Prop):List Nat→Act→World→Prop
 | [],a,w=>Q a w
 | i::rest,a,w=>
  match ops[i]? with
  | none=>dv S P ops C Q rest a w
  | some o=>
   if Region.wanted o (yielded ops a.tmps) then
    (if eB S i o.op then bC P o a.eval w fun v w'=>(C w'∨iz S ops i=true)∧dv S P ops C Q rest (a.put o.dst v) w'
     else ∃ v,eQ P C o a v∧dv S P ops C Q rest (a.put o.dst v) w)
   else dv S P ops C Q rest (a.put o.dst undef) w
def kv (S:Nat→Bool)(P:Program)(ops:Array Oper)(C:World→Prop)(i:Nat)(K:Act→World→Prop)(a:Act)(w:World):Prop:=
 match ops[i]? with
 | none=>K a w
 | some o=>
  if Region.wanted o (yielded ops a.tmps) then
   (if eB S i o.op then bC P o a.eval w fun v w'=>(C w'∨iz S ops i=true)∧K (a.put o.dst v) w'
    else ∃ v,eQ P C o a v∧K (a.put o.dst v) w)
  else K (a.put o.dst undef) w
section mix
variable {S:Nat→Bool} {P:Program} {ops:Array Oper} {C:World→Prop}
theorem K0 {Q:Act→World→Prop}{i:Nat}{oi:Oper}(hi:ops[i]?=some oi)(hns:Region.noSelect ops=true)(post:List Nat):∀ (pre:List Nat) (a:Act) (w:World),(C w∨∀ k ∈ pre++i::post,∀ o,ops[k]?=some o→eB S k o.op=true)→
  (∀ k ∈ pre,∀ ok,ops[k]?=some ok→ok.apart ops oi=true∧(eB S k ok.op&&eB S i oi.op)=false∧(eB S i oi.op=false→iz S ops k=false))→
  dv S P ops C Q (pre++i::post) a w→kv S P ops C i (dv S P ops C Q (pre++post)) a w:=by
 have hsel:=Region.noSelect_spec hns;intro pre
 induction pre with
 | nil=>intro a w _ _ h;exact h
 | cons k pre ih=>
  intro a w hC hp h;have ih':=fun a w hC h=>ih a w hC (fun k hk=>hp k (.tail _ hk)) h;have hC':C w∨∀ k ∈ pre++i::post,∀ o,ops[k]?=some o→eB S k o.op=true:=hC.imp id fun hh k hk=>hh k (.tail _ hk);simp only[List.cons_append,dv] at h
  cases hk:ops[k]? with
  | none=>
   simp only[hk] at h;have:=ih' a w hC' h;unfold kv at this ⊢;simp only[hi] at this ⊢;simpa only[List.cons_append,dv,hk] using this
  | some ok=>
   simp only[hk] at h;obtain ⟨hap,hll,htl⟩:=hp k (.head _) ok hk;obtain ⟨h1,h2,h3⟩:=Oper.apart_spec hap;have selk:=fun cs b=>hsel k ok cs b hk;have seli:=fun cs b=>hsel i oi cs b hi;have exi:∀ (a:Act) (u:Value),execOp (a.put ok.dst u).eval oi=execOp a.eval oi:=fun a u=>execOp_put oi seli a ok.dst u h1;have exk:∀ (a:Act) (u:Value),execOp (a.put oi.dst u).eval ok=execOp a.eval ok:=fun a u=>execOp_put ok selk a oi.dst u h3;have wai:∀ (a:Act) (u:Value),Region.wanted oi (yielded ops (a.put ok.dst u).tmps)=Region.wanted oi (yielded ops a.tmps):=fun a u=>wanted_put oi a ok.dst u h1;have wak:∀ (a:Act) (u:Value),Region.wanted ok (yielded ops (a.put oi.dst u).tmps)=Region.wanted ok (yielded ops a.tmps):=fun a u=>wanted_put ok a oi.dst u h3;have comm:∀ (a:Act) (u v:Value),(a.put ok.dst u).put oi.dst v=(a.put oi.dst v).put ok.dst u:=fun a u v=>(Act.put_comm a u v h2);have qi:∀ (a:Act) (u v:Value),eQ P C oi (a.put ok.dst u) v↔eQ P C oi a v:=fun a u v=>by unfold eQ;rw[exi]
   have qk:∀ (a:Act) (u v:Value),eQ P C ok (a.put oi.dst u) v↔eQ P C ok a v:=fun a u v=>by unfold eQ;rw[exk]
   by_cases hwk:Region.wanted ok (yielded ops a.tmps)=true
   ·rw[if_pos hwk] at h;by_cases hlk:eB S k ok.op=true
    ·rw[if_pos hlk] at h;have hli:eB S i oi.op=false:=by simpa [hlk] using hll
     have hCw:C w:=hC.resolve_right fun hh=>by
      have:=hh i (by simp) oi hi;rw[hli] at this;cases this
     have h':=h.mono (k':=fun v w'=>C w'∧kv S P ops C i (dv S P ops C Q (pre++post)) (a.put ok.dst v) w') fun v w' hh=>
      have hc:=hh.1.resolve_right (by rw[htl hli];simp)
      ⟨hc,ih' _ _ (.inl hc) hh.2⟩
     unfold kv at h' ⊢;simp only[hi,hli,wai] at h' ⊢;by_cases hwi:Region.wanted oi (yielded ops a.tmps)=true
     ·simp only[hwi,if_true,Bool.false_eq_true,if_false] at h' ⊢;obtain ⟨v0,w0,_,u0,hu0,_⟩:=h'.some;rw[qi] at hu0;refine ⟨u0,hu0,?_⟩;simp only[List.cons_append,dv,hk,wak,hwk,if_true,hlk];rw[ff (exk a u0)];refine h'.mono fun v w' ⟨hC',u,hu,hh⟩=>⟨.inl hC',?_⟩;rw[qi] at hu;have e:=(hu w hCw).symm.trans (hu0 w hCw);injection e with e _;injection e with e;subst e;rw[← comm];exact hh
     ·simp only[hwi,if_false,Bool.false_eq_true] at h' ⊢;simp only[List.cons_append,dv,hk,wak,hwk,if_true,hlk];rw[ff (exk a undef)];refine h'.mono fun v w' ⟨hC',hh⟩=>⟨.inl hC',?_⟩;rw[← comm];exact hh
    ·rw[if_neg hlk] at h;obtain ⟨v,hv,h⟩:=h;have h':=ih' _ _ hC' h;unfold kv at h' ⊢;simp only[hi,wai,ff (exi a v)] at h' ⊢;have fin:∀ u w',dv S P ops C Q (pre++post) ((a.put ok.dst v).put oi.dst u) w'→dv S P ops C Q (k::pre++post) (a.put oi.dst u) w':=by
      intro u w' hh;simp only[List.cons_append,dv,hk,wak,hwk,if_true,hlk,if_false,Bool.false_eq_true];exact ⟨v,(qk a u v).2 hv,by rw[← comm];exact hh⟩
     split
     ·rename_i hwi;rw[if_pos hwi] at h';split
      ·rename_i hli;rw[if_pos hli] at h';exact h'.mono fun u w' hh=>⟨hh.1,fin _ _ hh.2⟩
      ·rename_i hli;rw[if_neg hli] at h';obtain ⟨u,hu,hh⟩:=h';exact ⟨u,(qi a v u).1 hu,fin _ _ hh⟩
     ·rename_i hwi;rw[if_neg hwi] at h';exact fin _ _ h'
   ·rw[if_neg hwk] at h;have h':=ih' _ _ hC' h;unfold kv at h' ⊢;simp only[hi,wai,ff (exi a undef)] at h' ⊢;have fin:∀ u w',dv S P ops C Q (pre++post) ((a.put ok.dst undef).put oi.dst u) w'→dv S P ops C Q (k::pre++post) (a.put oi.dst u) w':=by
     intro u w' hh;simp only[List.cons_append,dv,hk,wak,hwk,if_false,Bool.false_eq_true];rw[← comm];exact hh
    split
    ·rename_i hwi;rw[if_pos hwi] at h';split
     ·rename_i hli;rw[if_pos hli] at h';exact h'.mono fun u w' hh=>⟨hh.1,fin _ _ hh.2⟩
     ·rename_i hli;rw[if_neg hli] at h';obtain ⟨u,hu,hh⟩:=h';exact ⟨u,(qi a undef u).1 hu,fin _ _ hh⟩
    ·rename_i hwi;rw[if_neg hwi] at h';exact fin _ _ h'
theorem rz {Q:Act→World→Prop}{Q':Exit→Act→World→Prop}(hQ:∀ a w,Q a w→Q' .normal a w)(hns:Region.noSelect ops=true)(hm:uK S ops=true) :
  ∀ (l:List Nat) (listed:Array Bool) (a:Act) (w:World),l.Pairwise (· < ·)→(∀ j,j ∈ l↔j<ops.size∧listed.getD j true=false)→listed.size=ops.size→
  (∀ j o,ops[j]?=some o→listed.getD j false=true→∀ e ∈ o.after,Region.binds .any e=true→listed.getD e.on false=true)→
  (C w∨∀ k ∈ l,∀ o,ops[k]?=some o→eB S k o.op=true)→dv S P ops C Q l a w→wpAny P .any ops Q' l.length listed a w:=by
 simp only[uK,Bool.and_eq_true] at hm;obtain ⟨hdir,hpair⟩:=hm;have key:∀ (n:Nat) (l:List Nat) (listed:Array Bool) (a:Act) (w:World),l.length=n→l.Pairwise (· < ·)→(∀ j,j ∈ l↔j<ops.size∧listed.getD j true=false)→listed.size=ops.size→
  (∀ j o,ops[j]?=some o→listed.getD j false=true→∀ e ∈ o.after,Region.binds .any e=true→listed.getD e.on false=true)→
  (C w∨∀ k ∈ l,∀ o,ops[k]?=some o→eB S k o.op=true)→dv S P ops C Q l a w→wpAny P .any ops Q' n listed a w:=by
  intro n
  induction n with
  | zero=>
   intro l listed a w hn hpw hmem hsz hcl hC h;have hl:l=[]:=List.eq_nil_of_length_eq_zero hn;subst hl;refine ⟨?_,hQ _ _ h⟩;rw[List.eq_nil_iff_forall_not_mem];intro i hi;obtain ⟨h1,oi,h2,_⟩:=mem_ready.1 hi;have:=(hmem i).2 ⟨(Array.getElem?_eq_some_iff.1 h2).1,h1⟩
   cases this
  | succ n ih=>
   intro l listed a w hn hpw hmem hsz hcl hC h;have gfalse:∀ j,j<ops.size→j ∉ l→listed.getD j false=true:=by
    intro j hj hjl;have:¬ listed.getD j true=false:=fun hh=>hjl ((hmem j).2 ⟨hj,hh⟩);have hjs:j<listed.size:=by omega
    simp only[Array.getD,hjs,dif_pos] at this ⊢;simpa using this
   constructor
   ·intro hr;exfalso
    cases l with
    | nil=>simp at hn
    | cons i l=>
     have hi:=(hmem i).1 (.head _);have hin:i ∈ Region.ready .any ops listed:=by
      refine mem_ready.2 ⟨hi.2,ops[i],Array.getElem?_eq_getElem hi.1,?_⟩;intro e he hb;have hlt:=gC hdir (Array.getElem?_eq_getElem hi.1) he hb;refine gfalse _ (by omega) fun hmem'=>?_;rcases List.mem_cons.1 hmem' with h | h
      ·omega
      ·have:=(List.pairwise_cons.1 hpw).1 _ h;omega
     rw[hr] at hin
     cases hin
   ·intro i hi;obtain ⟨hun,oi,hoi,hpre⟩:=mem_ready.1 hi;have hilt:i<ops.size:=(Array.getElem?_eq_some_iff.1 hoi).1;have hil:i ∈ l:=(hmem i).2 ⟨hilt,hun⟩;obtain ⟨pre,post,rfl⟩:=List.append_of_mem hil;have hpw':=List.pairwise_append.1 hpw;have hlt:∀ k ∈ pre,k<i:=fun k hk=>hpw'.2.2 k hk i (.head _);have hgt:∀ k ∈ post,i<k:=fun k hk=>(List.pairwise_cons.1 hpw'.2.1).1 k hk;have hclD:mY ops fun j=>j=i∨listed.getD j false=true:=fun j hj o ho e he hb=>by
     rcases hj with rfl | hj
     ·rw[hoi] at ho;injection ho with ho;subst ho;exact .inr (hpre e he hb)
     ·exact .inr (hcl j o ho hj e he hb)
    have hnw:∀ k,k≠i→k ∈ pre++i::post→f_ (kU ops.toList #[]) i k=false:=by
     intro k hki hk;rw[Bool.eq_false_iff];intro hw;rcases ju hclD i k (.inl rfl) hw with h | h
     ·exact hki h
     ·have:=((hmem k).1 hk);have hks:k<listed.size:=by omega
      have h2:=this.2;simp only[Array.getD,hks,dif_pos] at h h2;rw[h] at h2;cases h2
    have hp:∀ k ∈ pre,∀ ok,ops[k]?=some ok→ok.apart ops oi=true∧(eB S k ok.op&&eB S i oi.op)=false∧(eB S i oi.op=false→iz S ops k=false):=by
     intro k hk ok hok;rw[List.all_eq_true] at hpair;have h1:=hpair i (List.mem_range.2 hilt);rw[List.all_eq_true] at h1;have h2:=h1 k (List.mem_range.2 (hlt k hk));unfold DH at h2;have hki:k≠i:=by have:=hlt k hk;omega
     simp only[hok,hoi,hnw k hki (by simp[hk]),Bool.or_false,Bool.and_eq_true] at h2;refine ⟨h2.1,?_,?_⟩
     ·have:=h2.2
      cases hx:(eB S k ok.op&&eB S i oi.op)
      ·rfl
      ·rw[hx] at this;cases this
     ·intro hq;rw[Bool.eq_false_iff];intro ht;unfold iz at ht;rw[List.all_eq_true] at ht;have h3:=ht i (List.mem_range.2 hilt);simp only[hoi,hq,Bool.or_false,Bool.or_eq_true,beq_iff_eq] at h3;rcases h3 with h3 | h3
      ·exact hki h3.symm
      ·have:=ju (ops:=ops) (D:=fun j=>j≤k) (fun j hj o ho e he hb=>by have:=gC hdir ho he hb;show e.on≤k;omega) k i (Nat.le_refl _) h3;have:=hlt k hk;omega
    have hs:=K0 hoi hns post pre a w hC hp h;have hnext:∀ a' w',(C w'∨iz S ops i=true∨∀ k ∈ pre++i::post,∀ o,ops[k]?=some o→eB S k o.op=true)→dv S P ops C Q (pre++post) a' w'→wpAny P .any ops Q' n (listed.setIfInBounds i true) a' w':=by
     intro a' w' hC' hh;have his:i<listed.size:=by omega
     have hC':C w'∨∀ k ∈ pre++post,∀ o,ops[k]?=some o→eB S k o.op=true:=by
      rcases hC' with h | h | h
      ·exact .inl h
      ·refine .inr fun k hk o ho=>?_;have hki:k≠i:=by
        rcases List.mem_append.1 hk with h | h
        ·have:=hlt k h;omega
        ·have:=hgt k h;omega
       have hkl:k ∈ pre++i::post:=by
        rcases List.mem_append.1 hk with h | h
        ·simp[h]
        ·simp[h]
       unfold iz at h;rw[List.all_eq_true] at h;have h3:=h k (List.mem_range.2 ((hmem k).1 hkl).1);simp only[ho,hnw k hki hkl,Bool.or_false,Bool.or_eq_true,beq_iff_eq] at h3;exact h3.resolve_left hki
      ·exact .inr fun k hk=>h k (by
        rcases List.mem_append.1 hk with h | h
        ·simp[h]
        ·simp[h])
     refine ih (pre++post) _ a' w' (by simp at hn ⊢;omega) ?_ ?_ (by simp[hsz]) ?_ hC' hh
     ·exact List.pairwise_append.2 ⟨hpw'.1,(List.pairwise_cons.1 hpw'.2.1).2,fun x hx y hy=>hpw'.2.2 x hx y (.tail _ hy)⟩
     ·intro j;have hj:=hmem j;by_cases hji:j=i
      ·subst hji;simp only[Array.getD,Array.size_setIfInBounds,his,dif_pos];constructor
       ·intro hh;rcases List.mem_append.1 hh with h | h
        ·have:=hlt j h;omega
        ·have:=hgt j h;omega
       ·intro hh;simp at hh
      ·rw[getD_set_ne true (Ne.symm hji)];rw[← hj];simp[hji]
     ·intro j o ho hj e he hb;have gset:∀ k,(listed.setIfInBounds i true).getD k false=true↔k=i∨listed.getD k false=true:=by
       intro k;by_cases hki:k=i
       ·subst hki;simp[Array.getD,his]
       ·rw[getD_set_ne false (Ne.symm hki)];simp[hki]
      rw[gset] at hj ⊢;rcases hj with rfl | hj
      ·rw[hoi] at ho;injection ho with ho;subst ho;exact .inr (hpre e he hb)
      ·exact .inr (hcl j o ho hj e he hb)
    unfold kv at hs;unfold wpOp;simp only[hoi] at hs ⊢;split
    ·rename_i hw;rw[if_pos hw] at hs
     left
     split at hs
     ·exact hs.wp fun v w' hh=>hnext _ _ (hh.1.imp id .inl) hh.2
     ·rename_i hlo;obtain ⟨v,hv,hh⟩:=hs;have hCw:C w:=hC.resolve_right fun hh=>hlo (hh i (by simp) oi hoi);exact (cG (hv w hCw) (k:=fun u w'=>u=v∧w'=w) ⟨rfl,rfl⟩).wp fun u w' ⟨hu,hw'⟩=>by subst hu;subst hw';exact hnext _ _ (.inl hCw) hh
    ·rename_i hw;rw[if_neg hw] at hs;exact hnext _ _ (hC.imp id .inr) hs
 intro l listed a w hpw hmem hsz hcl hC h;exact key _ l listed a w rfl hpw hmem hsz hcl hC h
theorem xJ {id:Nat}{Q:Act→World→Prop}{Q':Exit→Act→World→Prop}(hQ:∀ a w,Q a w→Q' .normal a w)(hf:P.follows .mixedOrders=true)(hns:Region.noSelect ops=true)(hm:uK S ops=true){a:Act}{w:World}(hC:C { w with drawn:=w.drawn+1 })(h:dv S P ops C Q (List.range ops.size) a { w with drawn:=w.drawn+1 }):(Code.region id ops true).wp P Q' a w:=by
 refine wp_region_any hf ?_;have:=rz (P:=P) (C:=C) hQ hns hm (List.range ops.size) (Array.replicate ops.size false) a _ List.pairwise_lt_range (fun j=>by
  simp only[List.mem_range];constructor
  ·intro hj;exact ⟨hj,by simp[Array.getD,hj]⟩
  ·intro hj;exact hj.1) (by simp) (fun j o ho hj=>by
   have hjs:j<ops.size:=(Array.getElem?_eq_some_iff.1 ho).1;simp[Array.getD,hjs] at hj) (.inl hC) h
 simpa using this
end mix
def ed (S:Nat→Bool)(P:Program)(N:Nat)(C:World→Prop)(ops:Array Oper)(k:Fr→World→Prop):Nat→List Oper→Fr→World→Prop
 | _,[],f,w=>k f w
 | s,⟨dst,op,ty,_,_,none⟩::rest,f,w=>
  match eB S s op with
  | true=>oJ P op ty f w fun v w'=>(C w'∨iz S ops s=true)∧ed S P N C ops k (s+1) rest (dq N f dst v) w'
  | false=>mZ P C op ty f fun v=>ed S P N C ops k (s+1) rest (dq N f dst v) w
 | s,⟨dst,op,ty,_,_,some (j,want)⟩::rest,f,w=>
  match (ops[j]?).bind (·.dst) with
  | some d=>
   match f d with
   | .bool b=>
    match want,eB S s op with
    | true,true=>gG b (oJ P op ty f w fun v w'=>(C w'∨iz S ops s=true)∧ed S P N C ops k (s+1) rest (dq N f dst v) w') (ed S P N C ops k (s+1) rest (dq N f dst undef) w)
    | true,false=>gG b (mZ P C op ty f fun v=>ed S P N C ops k (s+1) rest (dq N f dst v) w) (ed S P N C ops k (s+1) rest (dq N f dst undef) w)
    | false,true=>gG b (ed S P N C ops k (s+1) rest (dq N f dst undef) w) (oJ P op ty f w fun v w'=>(C w'∨iz S ops s=true)∧ed S P N C ops k (s+1) rest (dq N f dst v) w')
    | false,false=>gG b (ed S P N C ops k (s+1) rest (dq N f dst undef) w) (mZ P C op ty f fun v=>ed S P N C ops k (s+1) rest (dq N f dst v) w)
   | _=>ed S P N C ops k (s+1) rest (dq N f dst undef) w
  | none=>ed S P N C ops k (s+1) rest (dq N f dst undef) w
theorem rA {S:Nat→Bool}{P:Program}{N:Nat}{C:World→Prop}{ops:Array Oper}{k:Fr→World→Prop}:∀ (l:List Oper) (s:Nat) (f:Fr) (w:World) (a:Act),
  (∀ j,j<l.length→l[j]?=ops[s+j]?)→R N a f→ed S P N C ops k s l f w→dv S P ops C (fun a w=>∃ f,R N a f∧k f w) (List.range' s l.length) a w:=by
 intro l
 induction l with
 | nil=>intro s f w a _ hR h;exact ⟨f,hR,h⟩
 | cons o rest ih=>
  intro s f w a hl hR h;have h0:ops[s]?=some o:=by have:=hl 0 (by simp);simpa using this.symm
  have hl':∀ j,j<rest.length→rest[j]?=ops[s+1+j]?:=fun j hj=>by
   have:=hl (j+1) (by simp;omega);simpa [Nat.add_assoc,Nat.add_comm 1 j] using this
  have next:∀ v w',ed S P N C ops k (s+1) rest (dq N f o.dst v) w'→dv S P ops C (fun a w=>∃ f,R N a f∧k f w) (List.range' (s+1) rest.length) (a.put o.dst v) w':=
   fun v w' hh=>ih (s+1) _ _ _ hl' (hR.put _ _) hh
  have run1:(oJ P o.op o.type f w fun v w'=>(C w'∨iz S ops s=true)∧ed S P N C ops k (s+1) rest (dq N f o.dst v) w')→
    bC P o a.eval w fun v w'=>(C w'∨iz S ops s=true)∧dv S P ops C (fun a w=>∃ f,R N a f∧k f w) (List.range' (s+1) rest.length) (a.put o.dst v) w':=by
   intro hh;have:=nX o hh;rw[← hR.eval] at this;exact this.mono fun v w' hv=>⟨hv.1,next _ _ hv.2⟩
  have run2:eB S s o.op=false→(mZ P C o.op o.type f fun v=>ed S P N C ops k (s+1) rest (dq N f o.dst v) w)→
    ∃ v,eQ P C o a v∧dv S P ops C (fun a w=>∃ f,R N a f∧k f w) (List.range' (s+1) rest.length) (a.put o.dst v) w:=by
   intro hq hh;obtain ⟨v,hv,hh⟩:=sA hR (DG hq) hh;exact ⟨v,hv,next _ _ hh⟩
  simp only[List.length_cons,List.range'_succ,dv,h0];obtain ⟨dst,op,ty,pos,after,guard⟩:=o
  cases guard with
  | none=>
   simp only[Region.wanted,if_true];simp only[ed] at h
   cases hlo:eB S s op with
   | true=>simp only[hlo] at h;rw[if_pos rfl];exact run1 h
   | false=>simp only[hlo] at h;rw[if_neg (by simp)];exact run2 hlo h
  | some jw=>
   obtain ⟨j,want⟩:=jw;simp only[ed] at h;simp only[Region.wanted]
   cases hd:(ops[j]?).bind (·.dst) with
   | none=>
    simp only[hd] at h;have:yielded ops a.tmps j=none:=by unfold yielded;simp[hd]
    simp[this];exact next _ _ h
   | some d=>
    simp only[hd] at h;have hy:=oX hR ops j d hd
    cases hfd:f d with
    | bool b=>
     simp only[hfd] at h hy
     cases hlo:eB S s op <;> cases want <;> cases b <;> simp[dP,hlo] at h <;> simp[hy] <;>
      first | exact run1 h | exact run2 hlo h | exact next _ _ h
    | _=>simp only[hfd] at h hy;simp[hy];exact next _ _ h
theorem rB {S:Nat→Bool}{P:Program}{N:Nat}{C:World→Prop}{ops:Array Oper}{k:Fr→World→Prop}(D:List Nat):∀ (s:Nat) (l:List Oper) (f:Fr) (w:World),(∀ x ∈ gI l,x ∈ D)→
  ed S P N C ops k s l f w→ed S P N C ops (fun f' w'=>cV D f' f∧k f' w') s l f w:=by
 have gen:∀ (l:List Oper) (s:Nat) (f0 f:Fr) (w:World),cV D f f0→(∀ x ∈ gI l,x ∈ D)→ed S P N C ops k s l f w→ed S P N C ops (fun f' w'=>cV D f' f0∧k f' w') s l f w:=by
  intro l
  induction l with
  | nil=>intro s f0 f w ha _ h;exact ⟨ha,h⟩
  | cons o rest ih=>
   intro s f0 f w ha hD h;obtain ⟨dst,op,ty,pos,after,guard⟩:=o;have hD':∀ x ∈ gI rest,x ∈ D:=fun x hx=>hD x (by
    cases dst with
    | none=>simpa [gI] using hx
    | some d=>simp only[gI,List.filterMap_cons];exact .tail _ hx)
   have hd:∀ x,dst=some x→x ∈ D:=fun x hx=>hD x (by subst hx;simp[gI]);have nx:∀ v w',ed S P N C ops k (s+1) rest (dq N f dst v) w'→ed S P N C ops (fun f' w'=>cV D f' f0∧k f' w') (s+1) rest (dq N f dst v) w':=
    fun v w' hh=>ih (s+1) f0 _ _ ((cV.dq hd).trans ha) hD' hh
   have r1:(oJ P op ty f w fun v w'=>(C w'∨iz S ops s=true)∧ed S P N C ops k (s+1) rest (dq N f dst v) w')→oJ P op ty f w fun v w'=>(C w'∨iz S ops s=true)∧ed S P N C ops (fun f' w'=>cV D f' f0∧k f' w') (s+1) rest (dq N f dst v) w':=
    fun hh=>pE (fun v w' hv=>⟨hv.1,nx _ _ hv.2⟩) hh
   have r2:(mZ P C op ty f fun v=>ed S P N C ops k (s+1) rest (dq N f dst v) w)→mZ P C op ty f fun v=>ed S P N C ops (fun f' w'=>cV D f' f0∧k f' w') (s+1) rest (dq N f dst v) w:=
    fun hh=>uD (fun v hv=>nx _ _ hv) hh
   cases guard with
   | none=>
    simp only[ed] at h ⊢
    cases hlo:eB S s op <;> simp only[hlo] at h ⊢
    ·exact r2 h
    ·exact r1 h
   | some jw=>
    obtain ⟨j,want⟩:=jw;simp only[ed] at h ⊢
    cases hdj:(ops[j]?).bind (·.dst) with
    | none=>simp only[hdj] at h ⊢;exact nx _ _ h
    | some d=>
     simp only[hdj] at h ⊢
     cases hfd:f d with
     | bool b=>
      simp only[hfd] at h ⊢
      cases hlo:eB S s op <;> cases want <;> cases b <;> simp only[hlo,dP,if_true,if_false,Bool.false_eq_true] at h ⊢ <;> first | exact r1 h | exact r2 h | exact nx _ _ h
     | _=>simp only[hfd] at h ⊢;exact nx _ _ h
 exact fun s l f w hD h=>gen l s f f w (.refl _ _) hD h
theorem uL (S:Nat→Bool){P:Program}{N:Nat}{ops:Array Oper}{k:Fr→World→Prop}{f:Fr}{w:World}(C:World→Prop)(hf:P.follows .mixedOrders=true)(hB:(Region.noSelect ops&&uK S ops)=true)(hC:C w.drew)(h:ed S P N C ops k 0 ops.toList f w.drew):kW P N ops k f w:=by
 unfold kW;intro a hR id Q hQ;simp only[Bool.and_eq_true] at hB;refine xJ (C:=C) (Q:=fun a w=>∃ f',R N a f'∧(cV (gI ops.toList) f' f∧k f' w)) (fun a w ⟨f,hR,hk⟩=>hQ _ _ _ hR hk.1 hk.2) hf hB.1 hB.2 hC ?_;have:=rA ops.toList 0 f w.drew a (fun j _=>by simp) hR (rB (gI ops.toList) 0 ops.toList f w.drew (fun _ h=>h) h);simpa [List.range_eq_range'] using this
def k_ (S:Nat→Bool)(ops:Array Oper)(i:Nat):Bool:=match ops[i]? with | some o=>S i||fV o.op | none=>false
def vN (S:Nat→Bool)(ops:Array Oper)(lam ord:List Nat)(i:Nat):List Edge:=
 bif k_ S ops i then (lam.takeWhile fun k=>k !=i).map fun k=>⟨ord.idxOf k,.data⟩ else []
def jC (S:Nat→Bool)(ops:Array Oper)(lam ord:List Nat):Array Oper:=(ord.map fun i=>kX (fun j=>ord.idxOf j) (vN S ops lam ord i) ((ops[i]?).getD default)).toArray
section
variable {S:Nat→Bool} {ops:Array Oper} {lam ord:List Nat}
theorem n5 (h:eo ops.size ord=true):(jC S ops lam ord).size=ops.size:=by
 unfold eo at h;simp only[Bool.and_eq_true,beq_iff_eq] at h;simp[jC,h.1.1.2]
theorem n6 (h:eo ops.size ord=true){i:Nat}{o:Oper}(ho:ops[i]?=some o):(jC S ops lam ord)[ord.idxOf i]?=some (kX (fun j=>ord.idxOf j) (vN S ops lam ord i) o):=by
 have hlt:i<ops.size:=(Array.getElem?_eq_some_iff.1 ho).1;unfold jC;rw[List.getElem?_toArray,List.getElem?_map,(fx h hlt).2];simp[ho]
theorem DI (h:eo ops.size ord=true)(g:Nat):((jC S ops lam ord)[ord.idxOf g]?).bind (·.dst)=(ops[g]?).bind (·.dst):=by
 cases hg:ops[g]? with
 | some o=>rw[n6 h hg];rfl
 | none=>
  have hge:ops.size≤g:=Array.getElem?_eq_none_iff.1 hg;have hnot:¬ g ∈ ord:=by
   intro hm;have hp:ord.idxOf g<ops.size:=by
    have:=List.idxOf_lt_length_of_mem hm;unfold eo at h;simp only[Bool.and_eq_true,beq_iff_eq] at h;omega
   obtain ⟨i,hi,e⟩:=j7 h hp;have h1:=(fx h hi).2;rw[e,List.getElem?_eq_getElem (List.idxOf_lt_length_of_mem hm),List.getElem_idxOf] at h1;injection h1 with h1;omega
  have:(jC S ops lam ord)[ord.idxOf g]?=none:=by
   rw[Array.getElem?_eq_none_iff,n5 h];rw[List.idxOf_eq_length hnot];unfold eo at h;simp only[Bool.and_eq_true,beq_iff_eq] at h;omega
  rw[this]
theorem ur (h:eo ops.size ord=true)(ex:List Edge)(o:Oper)(tmps:Array Value):Region.wanted (kX (fun j=>ord.idxOf j) ex o) (yielded (jC S ops lam ord) tmps)=Region.wanted o (yielded ops tmps):=by
 unfold Region.wanted kX
 cases hg:o.guard with
 | none=>simp
 | some gb=>
  obtain ⟨g,b⟩:=gb;simp only[Option.map_some];have:yielded (jC S ops lam ord) tmps (ord.idxOf g)=yielded ops tmps g:=by
   unfold yielded;rw[DI h]
  rw[this]
theorem F_ {P:Program}{Q:Exit→Act→World→Prop}(h:eo ops.size ord=true):∀ (σ:List Nat),(∀ i ∈ σ,i<ops.size)→∀ a w,wpOps P (jC S ops lam ord) Q (σ.map fun i=>ord.idxOf i) a w→wpOps P ops Q σ a w:=by
 intro σ
 induction σ with
 | nil=>intro _ a w hh;exact hh
 | cons i r ih=>
  intro hr a w hh;rw[List.map_cons,wpOps_cons] at hh;rw[wpOps_cons];have hh:=wpOp_mono (fun a w hx=>ih (fun j hj=>hr j (.tail _ hj)) a w hx) hh;have hi:=hr i (.head _);have ho:ops[i]?=some ops[i]:=Array.getElem?_eq_getElem hi;unfold wpOp at hh ⊢;rw[n6 h ho] at hh;rw[ho];simp only[ur h] at hh ⊢;exact hh
theorem zh (h:eo ops.size ord=true)(hn:lam.Nodup):∀ (σ:List Nat) (listed listed':Array Bool) (done:List Nat),listed.size=ops.size→listed'.size=ops.size→
  (∀ i,i<ops.size→∀ d,listed'.getD (ord.idxOf i) d=listed.getD i d)→lam=done++σ.filter (k_ S ops)→(∀ k ∈ done,listed.getD k false=true)→
  gJ ops listed σ→gJ (jC S ops lam ord) listed' (σ.map fun i=>ord.idxOf i):=by
 intro σ
 induction σ with
 | nil=>
  intro listed listed' done hs hs' hl _ _ hv;show Region.ready .any (jC S ops lam ord) listed'=[];have hv:Region.ready .any ops listed=[]:=hv;rw[List.eq_nil_iff_forall_not_mem];intro p hp;obtain ⟨hun,o',ho',hpre⟩:=mem_ready.1 hp;have hlt:p<ops.size:=by have:=(Array.getElem?_eq_some_iff.1 ho').1;rwa [n5 h] at this
  obtain ⟨i,hi,rfl⟩:=j7 h hlt;have ho:ops[i]?=some ops[i]:=Array.getElem?_eq_getElem hi;rw[n6 h ho] at ho';injection ho' with ho';subst ho';have:i ∈ Region.ready .any ops listed:=mem_ready.2 ⟨by rw[← hl i hi];exact hun,_,ho,fun e he hb=>by
   have h1:=hpre ⟨ord.idxOf e.on,e.ground⟩ (by simp only[kX,List.mem_toArray,List.mem_append,List.mem_map];exact .inl ⟨e,by simpa using he,rfl⟩) hb;have h1:listed'.getD (ord.idxOf e.on) false=true:=h1;rcases Nat.lt_or_ge e.on ops.size with h2 | h2
   ·rw[← hl _ h2];exact h1
   ·rw[nZ h h2] at h1;have:=jY h1;omega⟩
  rw[hv] at this
  cases this
 | cons i r ih=>
  intro listed listed' done hs hs' hl hlam hdone hv;obtain ⟨hin,hv⟩:=hv;obtain ⟨hun,o,ho,hpre⟩:=mem_ready.1 hin;have hi:i<ops.size:=(Array.getElem?_eq_some_iff.1 ho).1;have hpi:=(fx h hi).1;refine ⟨mem_ready.2 ⟨by rw[hl i hi];exact hun,_,n6 h ho,?_⟩,?_⟩
  ·intro e' he' hb;simp only[kX,List.mem_toArray,List.mem_append,List.mem_map] at he';rcases he' with ⟨e,he,rfl⟩ | he'
   ·have h1:=hpre e (by simpa using he) hb;have h2:=jY h1;show listed'.getD (ord.idxOf e.on) false=true;rw[hl _ (by omega)];exact h1
   ·unfold vN at he'
    cases hlo:k_ S ops i with
    | false=>rw[hlo] at he';cases he'
    | true=>
     rw[hlo] at he';have hlam2:=hlam;rw[List.filter_cons_of_pos hlo] at hlam2;have hid:¬ i ∈ done:=by
      rw[hlam2] at hn;intro hm;exact (List.nodup_append.1 hn).2.2 i hm i (.head _) rfl
     rw[cond_true,hlam2,lJ _ _ hid,List.mem_map] at he';obtain ⟨k,hk,rfl⟩:=he';have h1:=hdone k hk;have h2:=jY h1;show listed'.getD (ord.idxOf k) false=true;rw[hl _ (by omega)];exact h1
  ·have hset:∀ j,j<ops.size→∀ d,(listed'.setIfInBounds (ord.idxOf i) true).getD (ord.idxOf j) d=(listed.setIfInBounds i true).getD j d:=by
    intro j hj d;by_cases hji:i=j
    ·subst hji;have h1:ord.idxOf i<listed'.size:=by omega
     have h2:i<listed.size:=by omega
     simp[Array.getD,h1,h2]
    ·rw[getD_set_ne d hji,getD_set_ne d (fun e=>hji (xx h hi hj e))];exact hl j hj d
   cases hlo:k_ S ops i with
   | false=>
    rw[List.filter_cons_of_neg (by simp[hlo])] at hlam;exact ih _ _ done (by simpa using hs) (by simpa using hs') hset hlam (fun k hk=>getD_set_true (hdone k hk)) hv
   | true=>
    rw[List.filter_cons_of_pos hlo] at hlam;refine ih _ _ (done++[i]) (by simpa using hs) (by simpa using hs') hset (by rw[List.append_assoc];exact hlam) ?_ hv;intro k hk;rcases List.mem_append.1 hk with hk | hk
    ·exact getD_set_true (hdone k hk)
    ·have:k=i:=by simpa using hk
     subst this;have h2:k<listed.size:=by omega
     simp[Array.getD,h2]
theorem zi (h:eo ops.size ord=true)(hd:kT (jC S ops lam ord)=true):∀ (σ:List Nat) (listed:Array Bool),listed.size=ops.size→gJ ops listed σ→∀ i,i<ops.size→listed.getD i true=true∨i ∈ σ:=by
 intro σ
 induction σ with
 | nil=>
  intro listed hs hv;have hv:Region.ready .any ops listed=[]:=hv;have key:∀ n i,i<ops.size→ord.idxOf i=n→listed.getD i true=true:=by
   intro n
   induction n using Nat.strongRecOn with
   | _ n ih=>
    intro i hi hn
    cases hun:listed.getD i true with
    | true=>rfl
    | false=>
     have ho:ops[i]?=some ops[i]:=Array.getElem?_eq_getElem hi;have:i ∈ Region.ready .any ops listed:=mem_ready.2 ⟨hun,_,ho,fun e he hb=>by
      have h1:=gC hd (n6 h ho) (e:=⟨ord.idxOf e.on,e.ground⟩) (by simp only[kX,List.mem_toArray,List.mem_append,List.mem_map];exact .inl ⟨e,by simpa using he,rfl⟩) hb;have h1:ord.idxOf e.on<ord.idxOf i:=h1;have h2:e.on<ops.size:=by
       rcases Nat.lt_or_ge e.on ops.size with h2 | h2
       ·exact h2
       ·rw[nZ h h2] at h1;have:=(fx h hi).1;omega
      rw[sD (by omega) false true];exact ih _ (by omega) e.on h2 rfl⟩
     rw[hv] at this
     cases this
  intro i hi;exact .inl (key _ i hi rfl)
 | cons i r ih=>
  intro listed hs ⟨hin,hv⟩ j hj;rcases ih _ (by simpa using hs) hv j hj with h1 | h1
  ·by_cases hji:i=j
   ·exact .inr (hji ▸ .head _)
   ·rw[getD_set_ne true hji] at h1;exact .inl h1
  ·exact .inr (.tail _ h1)
theorem B0 (h:eo ops.size ord=true):∀ x ∈ gI (jC S ops lam ord).toList,x ∈ gI ops.toList:=by
 intro x hx;unfold gI at hx ⊢;rw[List.mem_filterMap] at hx ⊢;obtain ⟨o',ho',hd⟩:=hx;obtain ⟨p,hp⟩:=List.getElem?_of_mem ho';have hp':(jC S ops lam ord)[p]?=some o':=by simpa using hp
 have hlt:p<ops.size:=by have:=(Array.getElem?_eq_some_iff.1 hp').1;rwa [n5 h] at this
 obtain ⟨i,hi,rfl⟩:=j7 h hlt;have ho:ops[i]?=some ops[i]:=Array.getElem?_eq_getElem hi;rw[n6 h ho] at hp';injection hp' with hp';exact ⟨ops[i],by simp,by rw[← hd,← hp'];rfl⟩
end
def xL (S:Nat→Bool)(ops:Array Oper)(Λ:List (List Nat × List Nat)):Bool:=
 !Λ.isEmpty&&(exts (kU ops.toList #[]) ((List.range ops.size).filter (k_ S ops)).length ((List.range ops.size).filter (k_ S ops))).all (fun τ=>Λ.any fun x=>x.1==τ)&&
  Λ.all fun x=>eo ops.size x.2&&(Region.noSelect (jC S ops x.1 x.2)&&uK (fun j=>S (x.2.getD j 0)) (jC S ops x.1 x.2))
theorem vO (S:Nat→Bool){P:Program}{ops:Array Oper}{N:Nat}{k:Fr→World→Prop}{f:Fr}{w:World}(C:World→Prop)(Λ:List (List Nat × List Nat))(hf:P.follows .mixedOrders=true)(hB:xL S ops Λ=true)(hC:C w.drew)(h:∀ x ∈ Λ,ed (fun j=>S (x.2.getD j 0)) P N C (jC S ops x.1 x.2) k 0 (jC S ops x.1 x.2).toList f w.drew):kW P N ops k f w:=by
 unfold kW;intro a hR id Q hQ;refine wp_region_draw fun t=>?_;simp only[Region.schedule,hf,Bool.true_or,if_true];unfold xL at hB;simp only[Bool.and_eq_true] at hB;obtain ⟨⟨hne,hcov⟩,hall⟩:=hB;rw[List.all_eq_true] at hcov hall;have hv:gJ ops (Array.replicate ops.size false) (Region.linearise .any ops t):=xw _ _ _ (by unfold Is;exact Nat.le_trans (List.length_filter_le _ _) (by simp));generalize hσ:Region.linearise .any ops t=σ at hv ⊢;have hcl:mY ops fun j=>(Array.replicate ops.size false).getD j false=true:=fun j hj=>by
  have:=jY hj;simp[Array.getD] at hj
 have hm:=qF _ _ hv;have hpw:=sE _ _ hcl hv;obtain ⟨x0,hx0⟩:∃ x,x ∈ Λ:=by
  cases Λ with
  | nil=>simp at hne
  | cons x l=>exact ⟨x,.head _⟩
 have h0:=hall x0 hx0;simp only[Bool.and_eq_true] at h0;have hdir0:kT (jC S ops x0.1 x0.2)=true:=by have:=h0.2.2;unfold uK at this;simp only[Bool.and_eq_true] at this;exact this.1
 have hfull:=zi h0.1 hdir0 _ _ (by simp) hv;have hperm:(σ.filter (k_ S ops)).Perm ((List.range ops.size).filter (k_ S ops)):=by
  refine (List.perm_ext_iff_of_nodup (hm.2.filter _) (List.nodup_range.filter _)).2 fun i=>?_;rw[List.mem_filter,List.mem_filter,List.mem_range];constructor
  ·rintro ⟨h1,h2⟩;exact ⟨(hm.1 i h1).1,h2⟩
  ·rintro ⟨h1,h2⟩;refine ⟨(hfull i h1).resolve_left ?_,h2⟩;simp[Array.getD,h1]
 have hex:=uF (kU ops.toList #[]) _ _ hperm (hm.2.filter _) (hpw.filter _);rw[hperm.length_eq] at hex;have hany:=hcov _ hex;rw[List.any_eq_true] at hany;obtain ⟨x,hx,hxe⟩:=hany;have hxe:=eq_of_beq hxe;have hxx:=hall x hx;simp only[Bool.and_eq_true] at hxx;obtain ⟨hp,hns,hmix⟩:=hxx;refine F_ (S:=S) (lam:=x.1) (ord:=x.2) hp σ (fun i hi=>(hm.1 i hi).1) _ _ ?_;have hval:=zh (S:=S) (lam:=x.1) (ord:=x.2) hp (by rw[hxe];exact hm.2.filter _) σ (Array.replicate ops.size false) (Array.replicate ops.size false) [] (by simp) (by simp)
  (fun i hi d=>by simp[Array.getD,hi,(fx hp hi).1]) (by rw[hxe];rfl) (fun k hk=>by cases hk) hv
 have hsz:=n5 (S:=S) (lam:=x.1) hp;have hk:=h x hx;have hw:dv (fun j=>S (x.2.getD j 0)) P (jC S ops x.1 x.2) C (fun a w=>∃ f',R N a f'∧(cV (gI ops.toList) f' f∧k f' w)) (List.range (jC S ops x.1 x.2).size) a w.drew:=by
  have:=rA (jC S ops x.1 x.2).toList 0 f w.drew a (fun j _=>by simp) hR (rB (gI ops.toList) 0 (jC S ops x.1 x.2).toList f w.drew (B0 hp) hk);simpa [List.range_eq_range'] using this
 have hA:=rz (P:=P) (C:=C) (Q':=Q) (fun a w ⟨f,hR,hk⟩=>hQ _ _ _ hR hk.1 hk.2) hns hmix (List.range (jC S ops x.1 x.2).size) (Array.replicate (jC S ops x.1 x.2).size false) a _ List.pairwise_lt_range (fun j=>by
  simp only[List.mem_range];constructor
  ·intro hj;exact ⟨hj,by simp[Array.getD,hj]⟩
  ·intro hj;exact hj.1) (by simp) (fun j o ho hj=>by
   have hjs:j<(jC S ops x.1 x.2).size:=(Array.getElem?_eq_some_iff.1 ho).1;simp[Array.getD,hjs] at hj) (.inl hC) hw
 rw[hsz] at hA;have hlen:(σ.map fun i=>x.2.idxOf i).length≤(List.range ops.size).length:=by
  rw[List.length_map,List.length_range];have:σ.Subset (List.range ops.size):=fun i hi=>List.mem_range.2 (hm.1 i hi).1;have:=(List.perm_ext_iff_of_nodup hm.2 List.nodup_range).2 fun i=>⟨fun hi=>List.mem_range.2 (hm.1 i hi).1,fun hi=>(hfull i (List.mem_range.1 hi)).resolve_left (by simp[Array.getD,List.mem_range.1 hi])⟩;rw[this.length_eq];simp
 exact xv _ _ _ _ _ hlen hval hA
def fI (l:List UInt8):List Value:=l.map fun b=>Value.int .u8 (b.toNat:Int)
def aU (l:List UInt8):Value:=.string ⟨l.toArray⟩
theorem ee (l:List UInt8):(fI l).length=l.length:=by simp[fI]
def rC (r:Nat)(s:ByteArray)(pos:Nat):cC:=⟨fun g=>g=r,fun w=>w.heap[r]?=some (.stringIter s pos),fun _ _ h hw=>(h r rfl).trans hw⟩
section
variable {P:Program} {w0 w:World} {F:Nat→Prop} {L M:List cC} {k kk:Value→World→Prop}
theorem Hp.xM (H:Hp w0 F w L M){t:TypeId}{s:ByteArray}(ht:P.underlying t=some .string)(h:∀ r w',Hp w0 F w' (rC r s 0::L) M→k (.pointer (some ⟨r,0,none⟩)) w'):qy P t (.string s) w k:=by
 unfold qy;refine ⟨_,w.alloc (.stringIter s 0),?_,h w.heap.size _ (H.add (aS.alloc _ _) _ (heap_alloc_new w _) ?_)⟩
 ·simp[Instr.range,run_underlying ht]
 ·rintro g rfl;exact ⟨Nat.le_refl _,by simp⟩
theorem mM {r pos:Nat}{s:ByteArray}(hb:w.heap[r]?=some (.stringIter s pos)):(getObj r).run P w=.ok (.stringIter s pos) w:=by
 simp[getObj,Sem.run,hb]
theorem rT {r pos:Nat}{s:ByteArray}(o:Obj)(hb:w.heap[r]?=some (.stringIter s pos)):(setObj r o).run P w=.ok () { w with heap:=w.heap.setIfInBounds r o }:=by
 simp[setObj,Sem.run,hb]
theorem Hp.AT (H:Hp w0 F w L M)(n:Nat){ty:TypeId}{r pos:Nat}{s:ByteArray}(hn:L[n]?=some (rC r s pos))(h1:pos<s.size→∀ w',Hp w0 F w' (L.set n (rC r s (pos+(Utf8.decode s pos).2))) M→k (.tuple #[.bool true,.int .i64 (pos:Int),.int .i32 ((Utf8.decode s pos).1:Int)]) w')(h2:¬ pos<s.size→k (.tuple #[.bool false]) w):uB P (.pointer (some ⟨r,0,none⟩)) true ty w k:=by
 have hb:w.heap[r]?=some (.stringIter s pos):=H.get n hn;have hlt:=(Array.getElem?_eq_some_iff.1 hb).1;unfold uB;by_cases hp:pos<s.size
 ·have hset:=MapKept.heap_set (o':=.stringIter s (pos+(Utf8.decode s pos).2)) hb;refine ⟨_,{ w with heap:=w.heap.setIfInBounds r (.stringIter s (pos+(Utf8.decode s pos).2)) },?_,h1 hp _ (H.mQ n hn _ ⟨rfl,rfl,rfl,by simp,fun g _ hne=>hset.2 g hne⟩ hset.1 ?_)⟩
  ·simp only[Instr.next,Sem.run_bind,mM hb,Result.andThen_ok,hp,if_true,rT _ hb,Sem.run_pure,goInt]
  ·rintro g rfl;exact ⟨by simpa using hlt,.inl rfl⟩
 ·exact ⟨_,w,by simp only[Instr.next,Sem.run_bind,mM hb,Result.andThen_ok,hp,if_false,Sem.run_pure],h2 hp⟩
theorem Ga {t:TypeId}{s:ByteArray}{i:Nat}{kd:IntKind}(hi:i<s.size)(ht:P.underlying t=some .string)(h:kk (.int .u8 (s[i].toNat:Int)) w):sw P t (.string s) (.int kd (i:Int)) w kk:=by
 unfold sw;refine ⟨_,w,?_,h⟩;have e:s[i]?=some s[i]:=getElem?_pos s i hi;simp[Instr.index,asIntOf,run_underlying ht,e]
theorem zj (a b:List UInt8):(⟨a.toArray⟩++⟨b.toArray⟩:ByteArray)=⟨(a++b).toArray⟩:=by
 ext1
 simp
theorem a7 {t:TypeId}{xo yo:Operand}{a b:List UInt8}(hs:a.length+b.length<9223372036854775808)(h:kk (aU (a++b)) w):cU P .add t xo yo (aU a) (aU b) w kk:=by
 unfold cU aU;refine ⟨_,w,?_,h⟩;have e1:(⟨a.toArray⟩:ByteArray).size=a.length:=by simp[ByteArray.size]
 have e2:(⟨b.toArray⟩:ByteArray).size=b.length:=by simp[ByteArray.size]
 rw[eqGuard_at_string];simp only[binOp,Op.stringOp,e1,e2,pure_bind];rw[if_neg (by simp only[IntKind.max_i64];omega),zj];rfl
theorem iA {t:TypeId}{l:List UInt8}{i:Nat}{kd:IntKind}(hi:i<l.length)(ht:P.underlying t=some .string)(h:kk (.int .u8 (l[i].toNat:Int)) w):sw P t (aU l) (.int kd (i:Int)) w kk:=
 Ga (s:=⟨l.toArray⟩) (by simpa [ByteArray.size] using hi) ht h
theorem eJ {t:TypeId}{xo yo:Operand}{a b:List UInt8}(h:kk (.bool (a==b)) w):cU P .eql t xo yo (aU a) (aU b) w kk:=
 xA (by rw[ByteArray.toList_mk,ByteArray.toList_mk];exact h)
theorem gE {t:TypeId}{xo yo:Operand}{a b:List UInt8}(h:kk (.bool (!(a==b))) w):cU P .neq t xo yo (aU a) (aU b) w kk:=
 xB (by rw[ByteArray.toList_mk,ByteArray.toList_mk];exact h)
theorem foldl_push (bs:List UInt8):∀ r:ByteArray,((bs.map fun b=>(b.toNat:Int)).foldl (fun r n=>r.push (UInt8.ofNat n.toNat)) r)=⟨r.data++bs.toArray⟩:=by
 induction bs with
 | nil=>intro r;simp
 | cons b bs ih=>
  intro r;simp only[List.map_cons,List.foldl_cons,ih];simp[ByteArray.push]
theorem Hp.sO (H:Hp w0 F w L M)(n:Nat){s d e:TypeId}{A:Option Addr}{l c:Nat}{bs:List UInt8}(hs:P.underlying s=some (.slice e))(he:P.underlying e=some (.int .u8))(hd:P.underlying d=some .string)(hn:L[n]?=some (own e 1 (.slice A l c) l (fI bs)))(h:kk (aU bs) w):pC P s d (.slice A l c) w kk:=by
 have hok:=H.get n hn;have hlen:bs.length=l:=by have:=hok.1;rw[ee] at this;omega
 unfold pC;rcases hok.2 with ⟨hv,h0⟩ | ⟨g,cap,cur,hv,_⟩
 ·injection hv with hv _ _;subst hv;have:bs=[]:=List.length_eq_zero_iff.1 (by omega);subst this;refine ⟨aU [],w,?_,h⟩;rw[run_convert_bytes_string w s d e none l c hs he hd];simp[Conv.bytesToString];rfl
 ·injection hv with hv _ _;subst hv;refine ⟨aU bs,w,?_,h⟩;rw[run_convert_bytes_string w s d e _ l c hs he hd];have hl:=run_loadCells_list (P:=P) w ⟨g,0,none⟩ (fI bs) (fun j v hj=>by
   have hadd:(⟨g,0,none⟩:Addr).add j=⟨g,j,none⟩:=by unfold Addr.add;split <;> simp_all
   have hj':=(List.getElem?_eq_some_iff.1 hj).1;rw[ee] at hj';rw[hadd,km hok j (by omega),hj])
  rw[ee,hlen] at hl;have:=run_bytesToString (P:=P) w ⟨g,0,none⟩ l c (bs.map fun b=>(b.toNat:Int)) (by rw[hl];simp[fI,Function.comp_def]);rw[this,foldl_push];simp[aU]
end
open Go.ChangeMaps (setBlock)
theorem sP {α:Type}:∀ {l:List α} {j:Nat},j<l.length→∀ x:α,(l.set j x).Perm (x::l.eraseIdx j)
 | [],_,h,_=>by simp at h
 | y::l,0,_,x=>by simp
 | y::l,j+1,h,x=>by
  rw[List.set_cons_succ,List.eraseIdx_cons_succ];exact ((sP (l:=l) (j:=j) (by simpa using h) x).cons y).trans (List.Perm.swap x y _)
theorem DJ {α:Type}{l:List α}{j:Nat}{x:α}(h:l[j]?=some x):l.Perm (x::l.eraseIdx j):=by
 obtain ⟨hj,rfl⟩:=List.getElem?_eq_some_iff.1 h;have:=sP hj l[j]
 rwa [List.set_getElem_self] at this
section
variable {α β:Type} {ka:α→Value} {vb:β→Value} {z:Value} {P:Program} {t kt et:TypeId} {w0 w:World} {F:Nat→Prop} {L M:List cC} {k kk:Value→World→Prop}
theorem uM [DecidableEq α]{l:List (α × β)}{r:Nat}(hr:(aP ka vb r l).ok w)(W:kQ P t kt et ka vb z)(a:α)(h:kk (((bR l a).map vb).getD z) w):gw P t (.map (some r)) (ka a) false w kk:=by
 obtain ⟨es,clock,hb,hs,hl⟩:=hr;unfold gw;rcases lL W hs hl a w with ⟨hf,hg,_⟩ | ⟨j,e,b,hf,he,hek,hlj,hv,hg⟩
 ·rw[hg] at h;exact ⟨_,w,by simp[Instr.lookup,run_underlying W.und,MapKept.run_getObj_map hb,W.key.check w _ ⟨a,rfl⟩,hf,lK W.zero,Result.andThen],h⟩
 ·rw[hg] at h;exact ⟨_,w,by simp[Instr.lookup,run_underlying W.und,MapKept.run_getObj_map hb,W.key.check w _ ⟨a,rfl⟩,hf,hv,Result.andThen],h⟩
theorem oY {l:List (α × β)}{r:Nat}(hr:(aP ka vb r l).ok w)(hi:∀ a b,ka a=ka b→a=b):(eI l).Nodup:=by
 obtain ⟨es,clock,_,hs,hl⟩:=hr;exact iY hi hs hl
abbrev uN (α:Type):=List (α × Value × List Value)
def B1 (l:uN α):List (α × Value):=l.map fun x=>(x.1,x.2.1)
def Iy (e:TypeId)(x:α × Value × List Value):cC:=own e 1 x.2.1 x.2.2.length x.2.2
def oZ (ka:α→Value)(e:TypeId)(r:Nat)(l:uN α):cC:=rS (aP ka (fun v:Value=>v) r (B1 l)::l.map (Iy e))
theorem B5 (l:uN α):eI (B1 l)=eI l:=by unfold eI B1;rw[List.map_map];rfl
theorem Hp.Iz (H:Hp w0 F w L M)(ka:α→Value)(e:TypeId)(h:∀ r w',Hp w0 F w' (oZ ka e r []::L) M→k (.map (some r)) w'):mX P t none w k:=
 H.makeMap ka (fun v:Value=>v) fun r w' H=>h r w' (Hp.join (Ls:=[aP ka (fun v:Value=>v) r (B1 ([]:uN α))]) H)
theorem Gb {e:TypeId}{r:Nat}{l:uN α}(h:(oZ ka e r l).ok w):(aP ka (fun v:Value=>v) r (B1 l)).ok w:=h.1 _ (.head _)
variable [DecidableEq α]
def FQ (l:uN α)(a:α):Value:=((bR l a).map (·.1)).getD (.slice none 0 0)
def uO (l:uN α)(a:α):List Value:=((bR l a).map (·.2)).getD []
theorem xN (l:uN α)(a:α):bR (B1 l) a=(bR l a).map (·.1):=by
 unfold bR B1
 induction l with
 | nil=>rfl
 | cons x l ih=>
  rw[List.map_cons,List.find?_cons,List.find?_cons];by_cases h:x.1=a
  ·simp[h]
  ·simp only[h,decide_false];exact ih
theorem mu {γ:Type}{l:List (α × γ)}{a:α}{b:γ}(h:bR l a=some b):∃ j:Nat,l[j]?=some (a,b):=by
 unfold bR at h
 cases hf:l.find? fun p=>decide (p.1=a) with
 | none=>rw[hf] at h;cases h
 | some p=>
  rw[hf] at h;injection h with h;have h1:=List.find?_some hf;have h2:=List.mem_of_find?_eq_some hf;obtain ⟨j,hj⟩:=List.getElem?_of_mem h2;refine ⟨j,?_⟩;rw[hj];obtain ⟨x,y⟩:=p;have:x=a:=by simpa using h1
  simp only at h;rw[this,h]
theorem xO {γ:Type}{l:List (α × γ)}(hn:(eI l).Nodup){j:Nat}{a:α}{b0:γ}(h:l[j]?=some (a,b0))(b:γ):dS l a b=l.set j (a,b):=by
 have hg:=jy hn (List.mem_of_getElem? h);unfold dS;rw[hg];simp only[Option.isSome_some,if_true];apply List.ext_getElem?;intro i;rw[List.getElem?_map,List.getElem?_set];obtain ⟨hj,_⟩:=List.getElem?_eq_some_iff.1 h;by_cases hij:j=i
 ·subst hij;rw[if_pos rfl,if_pos hj,h];simp
 ·rw[if_neg hij]
  cases hi:l[i]? with
  | none=>rfl
  | some p=>
   have hne:p.1≠a:=fun e=>by
    have h1:(eI l)[i]?=some a:=by unfold eI;rw[List.getElem?_map,hi,← e];rfl
    have h2:(eI l)[j]?=some a:=by unfold eI;rw[List.getElem?_map,h];rfl
    exact hij ((List.getElem?_inj (List.getElem?_eq_some_iff.1 h2).1 hn).1 (h2.trans h1.symm))
   simp[hne]
theorem xP (l:uN α)(a:α)(v:Value)(xs:List Value):B1 (dS l a (v,xs))=dS (B1 l) a v:=by
 unfold dS;rw[xN]
 cases bR l a with
 | none=>simp[B1]
 | some b=>
  simp only[Option.isSome_some,Option.map_some,if_true];unfold B1;rw[List.map_map,List.map_map];refine List.map_congr_left fun p _=>?_;simp only[Function.comp_apply];split <;> rfl
theorem Hp.IA {e:TypeId}{r:Nat}{l:uN α}(H:Hp w0 F w (oZ ka e r l::L) M)(hi:∀ a b,ka a=ka b→a=b)(a:α):∃ v xs Ls,FQ l a=v∧uO l a=xs∧Hp w0 F w (aP ka (fun v:Value=>v) r (B1 l)::own e 1 v xs.length xs::(Ls++L)) M∧
  ∀ w' v' xs',Hp w0 F w' (aP ka (fun v:Value=>v) r (dS (B1 l) a v')::own e 1 v' xs'.length xs'::(Ls++L)) M→Hp w0 F w' (oZ ka e r (dS l a (v',xs'))::L) M:=by
 have H':=H.split;have hn:(eI l).Nodup:=by
  have:=oY (H'.get 0 rfl) hi
  rwa [B5] at this
 cases hg:bR l a with
 | none=>
  refine ⟨.slice none 0 0,[],l.map (Iy e),by unfold FQ;rw[hg];rfl,by unfold uO;rw[hg];rfl,?_,fun w' v' xs' H2=>?_⟩
  ·exact (H'.bx e 1).perm (List.Perm.swap _ _ _)
  ·have e1:dS l a (v',xs')=l++[(a,v',xs')]:=by unfold dS;rw[hg];rfl
   unfold oZ;refine Hp.join ?_;rw[xP,e1,List.map_append,List.cons_append,List.append_assoc];refine H2.perm (List.Perm.cons _ ?_);exact (List.perm_middle (a:=own e 1 v' xs'.length xs') (l₁:=l.map (Iy e)) (l₂:=L)).symm
 | some b=>
  obtain ⟨v,xs⟩:=b;obtain ⟨j,hj⟩:=mu hg;have hjl:=(List.getElem?_eq_some_iff.1 hj).1;have hjm:(l.map (Iy e))[j]?=some (own e 1 v xs.length xs):=by rw[List.getElem?_map,hj];rfl
  refine ⟨v,xs,(l.map (Iy e)).eraseIdx j,by unfold FQ;rw[hg];rfl,by unfold uO;rw[hg];rfl,?_,fun w' v' xs' H2=>?_⟩
  ·refine H'.perm ?_;rw[List.cons_append];refine List.Perm.cons _ ?_;have:=(DJ hjm).append_right L
   rwa [List.cons_append] at this
  ·unfold oZ;refine Hp.join ?_;rw[xP,xO hn hj,List.map_set,List.cons_append];refine H2.perm (List.Perm.cons _ ?_);have:=((sP (l:=l.map (Iy e)) (j:=j) (by simpa using hjl) (Iy e (a,v',xs'))).append_right L).symm
   rwa [List.cons_append] at this
theorem vP {e:TypeId}{r:Nat}{l:uN α}(h:(oZ ka e r l).ok w)(a:α):(own e 1 (FQ l a) (uO l a).length (uO l a)).ok w:=by
 unfold FQ uO
 cases hg:bR l a with
 | none=>exact World.ownsRow_nil w 0 e 1
 | some b=>
  obtain ⟨j,hj⟩:=mu hg;exact h.1 _ (.tail _ (List.mem_map.2 ⟨_,List.mem_of_getElem? hj,rfl⟩))
theorem xQ {e:TypeId}{r:Nat}{l:uN α}(h:(oZ ka e r l).ok w)(a:α):∃ A c,FQ l a=.slice A (uO l a).length c:=by
 obtain ⟨A,c,hv,_⟩:=e9 (vP h a);exact ⟨A,c,hv⟩
theorem rD {e:TypeId}{r:Nat}{l:uN α}(h:(oZ ka e r l).ok w)(W:kQ P t kt et ka (fun v:Value=>v) (.slice none 0 0))(a:α)(hk:kk (FQ l a) w):gw P t (.map (some r)) (ka a) false w kk:=by
 refine uM (Gb h) W a ?_;rw[xN,Option.map_map];exact hk
theorem DK (l:uN α)(a c:α)(b:Value × List Value):uO (dS l a b) c=if c=a then b.2 else uO l c:=by
 unfold uO;rw[e8];split <;> rfl
end
section
variable {α β:Type} {ka:α→Value} {vb:β→Value} {z:Value} {P:Program} {t kt et:TypeId} {w0 w:World} {F:Nat→Prop} {L M:List cC} {k kk:Value→World→Prop}
def sQ (e:MapEntry):Value × Value:=(e.key,e.val)
def oL (ka:α→Value)(vb:β→Value)(p:α × β):Value × Value:=(ka p.1,vb p.2)
def K1 (ka:α→Value)(vb:β→Value)(bm r:Nat)(l D:List (α × β))(w:World):Prop:=
 ∃ (es:Array MapEntry) (clock since:Nat) (seen:Array Nat) (ds:List MapEntry),w.heap[bm]?=some (.map es clock)∧Stamped es clock∧es.toList.map sQ=l.map (oL ka vb)∧
  w.heap[r]?=some (.mapIter (some bm) since seen clock)∧(∀ x ∈ es.toList,x.born<since)∧since≤clock∧r≠bm∧seen.toList=ds.map (·.born)∧(∀ d ∈ ds,d ∈ es.toList)∧ds.map sQ=D.map (oL ka vb)
def o5 (ka:α→Value)(vb:β→Value)(bm r:Nat)(l D:List (α × β)):cC:=
 ⟨fun g=>g=bm∨g=r,K1 ka vb bm r l D,fun w w' h ⟨es,clock,since,seen,ds,h1,h2,h3,h4,h5⟩=>⟨es,clock,since,seen,ds,(h bm (.inl rfl)).trans h1,h2,h3,(h r (.inr rfl)).trans h4,h5⟩⟩
theorem pK {bm r:Nat}{l D:List (α × β)}(h:(o5 ka vb bm r l D).ok w):(aP ka vb bm l).ok w:=by
 obtain ⟨es,clock,_,_,_,h1,h2,h3,_⟩:=h;exact ⟨es,clock,h1,h2,h3⟩
theorem Hp.rangeMap {l:List (α × β)}{bm:Nat}(H:Hp w0 F w (aP ka vb bm l::L) M){k0 e0:TypeId}(ht:P.underlying t=some (.map k0 e0))(h:∀ r w',Hp w0 F w' (o5 ka vb bm r l []::L) M→k (.pointer (some ⟨r,0,none⟩)) w'):qy P t (.map (some bm)) w k:=by
 obtain ⟨es,clock,hb,hs,hl⟩:=H.get 0 rfl;have hlt:bm<w.heap.size:=(Array.getElem?_eq_some_iff.1 hb).1;unfold qy;refine ⟨_,w.alloc (.mapIter (some bm) clock #[] clock),run_range_map w t k0 e0 bm es clock ht hb,h w.heap.size _ ?_⟩;have H1:=H.add (aS.alloc w (.mapIter (some bm) clock #[] clock)) ⟨fun g=>g=w.heap.size,fun u=>u.heap[w.heap.size]?=some (.mapIter (some bm) clock #[] clock),fun _ _ h hw=>(h _ rfl).trans hw⟩ (heap_alloc_new w _)
  (by rintro g rfl;exact ⟨Nat.le_refl _,by simp⟩)
 have hb':(w.alloc (.mapIter (some bm) clock #[] clock)).heap[bm]?=some (.map es clock):=(heap_alloc_old w _ hlt).trans hb;refine (Hp.join (Ls:=[_,aP ka vb bm l]) (L:=L) H1).re (fun hok=>?_) (fun g hg=>?_)
 ·have h1:=hok.1 _ (.head _);refine ⟨es,clock,clock,#[],[],hb',hs,hl,h1,hs.1,Nat.le_refl _,by omega,rfl,by simp,rfl⟩
 ·rcases hg with rfl | rfl
  ·exact ⟨aP ka vb g l,.tail _ (.head _),rfl⟩
  ·exact ⟨_,.head _,rfl⟩
theorem Hp.B6 {l D:List (α × β)}{bm r:Nat}(H:Hp w0 F w (o5 ka vb bm r l D::L) M):Hp w0 F w (aP ka vb bm l::L) M:=H.re pK (by rintro g rfl;exact .inl rfl)
theorem B7 (hi:∀ a b,ka a=ka b→a=b)(hv:∀ a b,vb a=vb b→a=b){p q:α × β}(h:oL ka vb p=oL ka vb q):p=q:=by
 obtain ⟨a,b⟩:=p;obtain ⟨c,d⟩:=q;unfold oL at h;injection h with h1 h2;rw[show a=c from hi _ _ h1,show b=d from hv _ _ h2]
theorem Hp.vQ (H:Hp w0 F w L M)(n:Nat){ty:TypeId}{bm r:Nat}{l D:List (α × β)}(hn:L[n]?=some (o5 ka vb bm r l D))(hi:∀ a b,ka a=ka b→a=b)(hv:∀ a b,vb a=vb b→a=b)(h1:(∀ p ∈ l,p ∈ D)→kk (.tuple #[.bool false]) w)(h2:∀ a b w',(a,b) ∈ l→(a,b) ∉ D→Hp w0 F w' (L.set n (o5 ka vb bm r l (D++[(a,b)]))) M→kk (.tuple #[.bool true,ka a,vb b]) w'):uB P (.pointer (some ⟨r,0,none⟩)) false ty w kk:=by
 obtain ⟨es,clock,since,seen,ds,hb,hs,hl,hr,hold,hsc,hne,hseen,hds,hD⟩:=H.get n hn;have hrl:r<w.heap.size:=(Array.getElem?_eq_some_iff.1 hr).1;have hbl:bm<w.heap.size:=(Array.getElem?_eq_some_iff.1 hb).1;have hcon:∀ x:MapEntry,x ∈ es.toList→(seen.contains x.born=true↔x ∈ ds):=fun x hx=>by
  rw[Array.contains_iff_mem,← Array.mem_toList_iff,hseen,List.mem_map];constructor
  ·rintro ⟨d,hd,he⟩;have hn2:=hs.2.1;have h3:=find_born d es.toList hn2 (hds d hd);have h4:=find_born x es.toList hn2 hx;rw[← he] at h4;rw[h3] at h4;injection h4 with h4;exact h4 ▸ hd
  ·intro hx;exact ⟨x,hx,rfl⟩
 have hent:∀ x ∈ es.toList,∃ p ∈ l,sQ x=oL ka vb p:=fun x hx=>by
  have:sQ x ∈ es.toList.map sQ:=List.mem_map.2 ⟨x,hx,rfl⟩;rw[hl] at this;obtain ⟨p,hp,he⟩:=List.mem_map.1 this;exact ⟨p,hp,he.symm⟩
 unfold uB;rcases run_next_at (P:=P) w ty r bm since clock seen es clock hr hb hold hsc with ⟨h0,hrun⟩ | ⟨e,he,w1,hw1,hrun⟩
 ·refine ⟨_,w,hrun,h1 fun p hp=>?_⟩;have:oL ka vb p ∈ l.map (oL ka vb):=List.mem_map.2 ⟨p,hp,rfl⟩;rw[← hl] at this;obtain ⟨x,hx,hxe⟩:=List.mem_map.1 this;have hxs:x ∈ ds:=(hcon x hx).1 (by
   cases hc:seen.contains x.born with
   | true=>rfl
   | false=>
    have hm:x ∈ leftOf es seen:=Array.mem_filter.2 ⟨Array.mem_toList_iff.1 hx,by rw[hc];rfl⟩;have:=Array.size_pos_of_mem hm;omega)
  have:sQ x ∈ ds.map sQ:=List.mem_map.2 ⟨x,hxs,rfl⟩;rw[hD,hxe] at this;obtain ⟨q,hq,hqe⟩:=List.mem_map.1 this;exact B7 hi hv hqe ▸ hq
 ·obtain ⟨hee,hec⟩:=mem_left he;obtain ⟨⟨a,b⟩,hp,hpe⟩:=hent e hee;have hkey:e.key=ka a:=congrArg Prod.fst hpe;have hval:e.val=vb b:=congrArg Prod.snd hpe;rw[hkey,hval] at hrun;have hheap:w1.heap=w.heap∧w1.os=w.os∧w1.tape=w.tape∧w1.output=w.output:=by rcases hw1 with rfl | rfl <;> exact ⟨rfl,rfl,rfl,rfl⟩
  obtain ⟨hh,ho,htp,hou⟩:=hheap;have hset:=MapKept.heap_set (w:=w1) (o':=.mapIter (some bm) since (seen.push e.born) clock) (by rw[hh];exact hr);have hnd:e ∉ ds:=fun hd=>by rw[(hcon e hee).2 hd] at hec;cases hec
  refine ⟨_,_,hrun,h2 a b _ hp (fun hpD=>?_) (H.mQ n hn _ ⟨by show (setBlock w1 r _).os=w.os;exact ho,htp,hou,?_,fun g hg hgf=>?_⟩ ?_ ?_)⟩
  ·have:oL ka vb (a,b) ∈ D.map (oL ka vb):=List.mem_map.2 ⟨_,hpD,rfl⟩;rw[← hD] at this;obtain ⟨d,hd,hde⟩:=List.mem_map.1 this;have hk:d.key=e.key:=by rw[hkey];exact congrArg Prod.fst hde
   have hn3:=hs.2.2;have:d=e:=by
    obtain ⟨i,hi1,hi2⟩:=List.getElem_of_mem (hds d hd);obtain ⟨j,hj1,hj2⟩:=List.getElem_of_mem hee;have hij:i=j:=by
     refine (List.getElem?_inj (by simpa using hi1) hn3).1 ?_;rw[List.getElem?_map,List.getElem?_map,List.getElem?_eq_getElem hi1,List.getElem?_eq_getElem hj1,hi2,hj2];exact congrArg some hk
    subst hij;rw[← hi2,← hj2]
   exact hnd (this ▸ hd)
  ·show w.heap.size≤(w1.heap.setIfInBounds r _).size;simp[hh]
  ·have hgr:g≠r:=fun e=>hgf (.inr e);rw[← hh];exact hset.2 g hgr
  ·refine ⟨es,clock,since,seen.push e.born,ds++[e],?_,hs,hl,hset.1,hold,hsc,hne,?_,?_,?_⟩
   ·exact (hset.2 bm (Ne.symm hne)).trans (by rw[hh];exact hb)
   ·simp[hseen]
   ·intro d hd;rcases List.mem_append.1 hd with hd | hd
    ·exact hds d hd
    ·rw[List.mem_singleton.1 hd];exact hee
   ·rw[List.map_append,List.map_append,hD];simp[hpe]
  ·intro g hg;refine ⟨?_,.inl hg⟩;show g<(w1.heap.setIfInBounds r _).size;rw[Array.size_setIfInBounds,hh];rcases hg with rfl | rfl
   ·exact hbl
   ·exact hrl
theorem nn {bm r:Nat}{l D:List (α × β)}{a:α}{b:β}(h:(o5 ka vb bm r l (D++[(a,b)])).ok w)(hk:kk (.tuple #[ka a,vb b]) w):vC P (.pointer (some ⟨r,0,none⟩)) w kk:=by
 obtain ⟨es,clock,since,seen,ds,hb,hs,hl,hr,hold,hsc,hne,hseen,hds,hD⟩:=h;rw[List.map_append,List.map_cons,List.map_nil] at hD;have hlen:ds≠[]:=fun e=>by subst e;simp at hD
 obtain ⟨ds0,e,rfl⟩:∃ ds0 e,ds=ds0++[e]:=by
  rcases List.eq_nil_or_concat ds with e | ⟨ds0,e,he⟩
  ·exact absurd e hlen
  ·exact ⟨ds0,e,by simpa using he⟩
 rw[List.map_append,List.map_cons,List.map_nil] at hD hseen;have he:=(List.append_inj' hD rfl).2;injection he with he _;have hkey:e.key=ka a:=congrArg Prod.fst he;have hval:e.val=vb b:=congrArg Prod.snd he;have hpush:seen=((ds0.map (·.born)).toArray).push e.born:=by
  apply Array.toList_inj.1;rw[hseen];simp
 rw[hpush] at hr;unfold vC;refine ⟨_,w,run_entry_at w r bm since _ es clock e hr hb (hds e (by simp)) hs.2.1,?_⟩;rw[hkey,hval];exact hk
end
section
variable {P:Program} {w0 w w':World} {F:Nat→Prop} {L M:List cC} {k kk:Value→World→Prop}
theorem addr_add (g o j:Nat):(⟨g,o,none⟩:Addr).add j=⟨g,o+j,none⟩:=by unfold Addr.add;split <;> simp_all
theorem elemOf {t e:TypeId}(ht:P.underlying t=some (.slice e)):P.underlying t=some (.slice (P.elem t)):=by
 have:P.elem t=e:=by simp[Program.elem,ht]
 rw[this];exact ht
theorem np {t e:TypeId}(ht:P.underlying t=some (.slice e)):P.elem t=e:=by simp[Program.elem,ht]
theorem Sl.empty {v:Value}{sz:Nat}{xs:List Value}{A:Option Addr}{c:Nat}(hv:v=.slice A 0 c)(hx:xs=[]):Sl w v sz 0 xs:=by
 subst hx;subst hv;exact ⟨by simp,A,c,rfl,Nat.zero_le _,.inl rfl⟩
theorem Sl.sliceTo {t e:TypeId}{sz l c i:Nat}{A:Option Addr}{xs:List Value}{kd:IntKind}{j:Int}(hs:Sl w (.slice A l c) sz l xs)(ht:P.underlying t=some (.slice e))(hz:bB P e=some sz)(hj:j=(i:Int))(hi:i≤l)(h:∀ A' c',Sl w (.slice A' i c') sz i (xs.take (i*sz))→kk (.slice A' i c') w):eP P t (.slice A l c) none (some (.int kd j)) none w kk:=by
 subst hj;obtain ⟨hlen,A1,c1,hv,hlc,hcase⟩:=hs;injection hv with e1 _ e2;subst e1;subst e2;unfold eP;refine ⟨sliced A 0 i c sz,w,?_,?_⟩
 ·rw[run_sliceAt_slice w t _ _ _ _ (elemOf ht),run_slice_h w t A l c (elemOf ht) kd (i:Int) (by omega) (by omega),np ht,run_sizeOf hz];rfl
 ·have e:sliced A 0 i c sz=.slice (if c=0 then A else A.map (·.add 0)) i c:=by unfold sliced;simp
  rw[e];refine h _ _ ?_;rcases Nat.eq_zero_or_pos i with rfl | h0
  ·exact Sl.empty rfl (by simp)
  ·rcases hcase with h1 | ⟨g,o,rfl,hg,hx⟩
   ·omega
   ·refine ⟨?_,_,c,rfl,by omega,.inr ⟨g,o,?_,hg,fun j hj=>?_⟩⟩
    ·rw[List.length_take,hlen];have:=Nat.mul_le_mul_right sz hi;omega
    ·rw[if_neg (by omega)];simp[addr_add]
    ·have:=Nat.mul_le_mul_right sz hi;rw[hx j (by omega),List.getElem?_take];rw[if_pos hj]
theorem Sl.sliceFrom {t e:TypeId}{sz l c i:Nat}{A:Option Addr}{xs:List Value}{kd:IntKind}{j:Int}(hs:Sl w (.slice A l c) sz l xs)(ht:P.underlying t=some (.slice e))(hz:bB P e=some sz)(hj:j=(i:Int))(hi:i≤l)(h:∀ A' c',Sl w (.slice A' (l - i) c') sz (l - i) (xs.drop (i*sz))→kk (.slice A' (l - i) c') w):eP P t (.slice A l c) (some (.int kd j)) none none w kk:=by
 subst hj;obtain ⟨hlen,A1,c1,hv,hlc,hcase⟩:=hs;injection hv with e1 _ e2;subst e1;subst e2;unfold eP;refine ⟨sliced A i l c sz,w,?_,?_⟩
 ·rw[run_sliceAt_slice w t _ _ _ _ (elemOf ht),run_slice_l w t A l c (elemOf ht) kd (i:Int) (by omega) (by omega),np ht,run_sizeOf hz];rfl
 ·have e:sliced A i l c sz=.slice (if c=i then A else A.map (·.add (i*sz))) (l - i) (c - i):=rfl;rw[e];refine h _ _ ?_;rcases Nat.eq_zero_or_pos (l - i) with h0 | h0
  ·rw[h0];refine Sl.empty rfl (List.drop_eq_nil_iff.2 ?_);have:l=i:=by omega
   rw[hlen,this];exact Nat.le_refl _
  ·rcases hcase with h1 | ⟨g,o,rfl,hg,hx⟩
   ·omega
   ·refine ⟨?_,_,c - i,rfl,by omega,.inr ⟨g,o+i*sz,?_,hg,fun j hj=>?_⟩⟩
    ·rw[List.length_drop,hlen,Nat.sub_mul]
    ·rw[if_neg (by omega)];simp[addr_add]
    ·rw[Nat.sub_mul] at hj;rw[Nat.add_assoc,hx (i*sz+j) (by omega),List.getElem?_drop]
theorem Hp.kz (H:Hp w0 F w L M)(n:Nat){t e ty:TypeId}{z v:Value}{sz b l c d:Nat}{A:Option Addr}{xs ys:List Value}{cst:Array Bool}(T:qu P t e z sz b)(hn:L[n]?=some (own e sz v l xs))(hs:Sl w (.slice A c d) sz c ys)(h1:∀ u ∈ ys,u.oneCell'=true)(hl:(l+c)*b≤140737488355328)(hl':l+c<1152921504606846976)(h:∀ A d w',Hp w0 F w' (L.set n (own e sz (.slice A (l+c) d) (l+c) (xs++ys))) M→kk (.slice A (l+c) d) w') :
  bU P .append #[t,t] ty cst [v,.slice A c d] w kk:=by
 obtain ⟨i,hi,hz,hs',hb⟩:=T.parts;have hown:w.ownsRow 0 e sz v l xs:=H.get n hn;have hyl:=hs.1;rcases A with _ | a
 ·have hc:c=0:=by
   rcases Nat.eq_zero_or_pos c with h0 | h0
   ·exact h0
   ·obtain ⟨_,_,hA⟩:=hs.A h0;cases hA
  subst hc;have hy:ys=[]:=List.eq_nil_of_length_eq_zero (by simpa using hyl);subst hy;obtain ⟨A',c',rfl,hlc'⟩:=e9 (H.get n hn);have hL:L.set n (own e sz (.slice A' (l+0) c') (l+0) (xs++[]))=L:=by
   obtain ⟨h1,h2⟩:=List.getElem?_eq_some_iff.1 hn;rw[List.append_nil,Nat.add_zero,← h2];exact List.set_getElem_self h1
  unfold bU;refine ⟨_,w,?_,h A' c' w (by rw[hL];exact H)⟩;show (do pure (.value (← Builtin.append_ #[t,t] ty #[.slice A' l c',.slice none 0 d])):Sem Next).run P w=_;simp[Builtin.append_,run_underlying T.und,sizeOf,typeInfo,hi,Builtin.lenOf,Builtin.firstCells,storeCells,hlc']
  cases A' <;> simp[Result.andThen]
 ·obtain ⟨v',w',hrun,hown',hg,_,hloc⟩:=run_append_own_at (P:=P) w 0 t ty e i z sz b T.und hi hz hs' hb T.zs T.pos v l xs hown a c d ys hyl
   (fun j u hu=>by
    have hjl:=(List.getElem?_eq_some_iff.1 hu).1;have hc:0<c:=by
     rcases Nat.eq_zero_or_pos c with h0 | h0
     ·subst h0;simp at hyl;subst hyl;simp at hjl
     ·exact h0
    obtain ⟨g',o',ha⟩:=hs.A hc;injection ha with ha;subst ha;rw[addr_add,hs.cell j (by omega),hu]) h1 (by unfold maxLen;omega) hl (Nat.zero_le _)
  have hk:aS (own e sz v l xs).foot w w':=⟨hg.os,hg.tape,hg.output,hg.size,fun x hx hne=>hg.block x hx fun e=>hne e.symm⟩;have H':=H.mQ n hn (own e sz v' (l+c) (xs++ys)) hk hown' (fun x hx=>⟨(World.ownsRow.lt (w:=w') (base:=0) hown' x hx).2,by
   have hx':v'.ownBlock=some x:=hx;rcases hloc with h | h
   ·left;show v.ownBlock=some x;rw[← h];exact hx'
   ·right;rw[h] at hx';injection hx' with hx';omega⟩)
  have hv:∃ A d,v'=.slice A (l+c) d:=by
   rcases hown'.2 with ⟨rfl,h0⟩ | ⟨g',cap,cur,hv,_⟩
   ·exact ⟨none,0,by rw[h0]⟩
   ·exact ⟨_,_,hv⟩
  obtain ⟨A,d',rfl⟩:=hv;unfold bU;refine ⟨_,w',?_,h A d' w' H'⟩;show (do pure (.value (← Builtin.append_ #[t,t] ty #[v,.slice (some a) c d])):Sem Next).run P w=_;rw[Sem.run_bind,hrun];rfl
end
section
variable {P:Program} {w0 w w':World} {F:Nat→Prop} {L M:List cC} {k kk:Value→World→Prop}
theorem Sl.M3 {t e:TypeId}{sz l c i:Nat}{A:Option Addr}{xs:List Value}{kd kd':IntKind}{j j':Int}(hs:Sl w (.slice A l c) sz l xs)(ht:P.underlying t=some (.slice e))(hz:bB P e=some sz)(hj:j=(i:Int))(hj':j'=(i:Int))(hi:i≤l)(h:∀ A',Sl w (.slice A' i i) sz i (xs.take (i*sz))→kk (.slice A' i i) w):eP P t (.slice A l c) none (some (.int kd j)) (some (.int kd' j')) w kk:=by
 subst hj;subst hj';obtain ⟨hlen,A1,c1,hv,hlc,hcase⟩:=hs;injection hv with e1 _ e2;subst e1;subst e2;unfold eP;refine ⟨sliced A 0 i i sz,w,?_,?_⟩
 ·rw[run_sliceAt_slice w t _ _ _ _ (elemOf ht),run_slice_hm w t A l c (elemOf ht) kd kd' (i:Int) (i:Int) (by omega) (by omega) (by omega),np ht,run_sizeOf hz];rfl
 ·have e:sliced A 0 i i sz=.slice (if i=0 then A else A.map (·.add 0)) i i:=by unfold sliced;simp
  rw[e];refine h _ ?_;rcases Nat.eq_zero_or_pos i with rfl | h0
  ·exact Sl.empty rfl (by simp)
  ·rcases hcase with h1 | ⟨g,o,rfl,hg,hx⟩
   ·omega
   ·refine ⟨?_,_,i,rfl,by omega,.inr ⟨g,o,?_,hg,fun j hj=>?_⟩⟩
    ·rw[List.length_take,hlen];have:=Nat.mul_le_mul_right sz hi;omega
    ·rw[if_neg (by omega)];simp[addr_add]
    ·have:=Nat.mul_le_mul_right sz hi;rw[hx j (by omega),List.getElem?_take];rw[if_pos hj]
theorem sR {t e:TypeId}{sz l c i:Nat}{A:Option Addr}{kd kd':IntKind}{j j':Int}(ht:P.underlying t=some (.slice e))(hz:bB P e=some sz)(hj:j=(i:Int))(hj':j'=(i:Int))(hi:i≤c)(h:kk (sliced A 0 i i sz) w):eP P t (.slice A l c) none (some (.int kd j)) (some (.int kd' j')) w kk:=by
 subst hj;subst hj';unfold eP;refine ⟨sliced A 0 i i sz,w,?_,h⟩;rw[run_sliceAt_slice w t _ _ _ _ (elemOf ht),run_slice_hm w t A l c (elemOf ht) kd kd' (i:Int) (i:Int) (by omega) (by omega) (by omega),np ht,run_sizeOf hz];rfl
theorem r6 {t e:TypeId}{sz l c i:Nat}{A:Option Addr}{kd:IntKind}{j:Int}(ht:P.underlying t=some (.slice e))(hz:bB P e=some sz)(hj:j=(i:Int))(hi:i≤l)(h:kk (sliced A i l c sz) w):eP P t (.slice A l c) (some (.int kd j)) none none w kk:=by
 subst hj;unfold eP;refine ⟨sliced A i l c sz,w,?_,h⟩;rw[run_sliceAt_slice w t _ _ _ _ (elemOf ht),run_slice_l w t A l c (elemOf ht) kd (i:Int) (by omega) (by omega),np ht,run_sizeOf hz];rfl
theorem lN {sz l c i:Nat}{A:Option Addr}{xs:List Value}(hs:Sl w (.slice A l c) sz l xs)(hi:i≤l):∃ A',sliced A 0 i i sz=.slice A' i i∧(A'=none→i=0)∧Sl w (.slice A' i i) sz i (xs.take (i*sz)):=by
 obtain ⟨hlen,A1,c1,hv,hlc,hcase⟩:=hs;injection hv with e1 _ e2;subst e1;subst e2;have e:sliced A 0 i i sz=.slice (if i=0 then A else A.map (·.add 0)) i i:=by unfold sliced;simp
 refine ⟨_,e,?_,?_⟩
 ·intro hn;split at hn
  ·assumption
  ·rcases hcase with h1 | ⟨g,o,rfl,hg,hx⟩
   ·omega
   ·cases hn
 ·rcases Nat.eq_zero_or_pos i with rfl | h0
  ·exact Sl.empty rfl (by simp)
  ·rcases hcase with h1 | ⟨g,o,rfl,hg,hx⟩
   ·omega
   ·refine ⟨?_,_,i,rfl,by omega,.inr ⟨g,o,?_,hg,fun j hj=>?_⟩⟩
    ·rw[List.length_take,hlen];have:=Nat.mul_le_mul_right sz hi;omega
    ·rw[if_neg (by omega)];simp[addr_add]
    ·have:=Nat.mul_le_mul_right sz hi;rw[hx j (by omega),List.getElem?_take];rw[if_pos hj]
theorem lO {t e:TypeId}{sz l c i:Nat}{A:Option Addr}{xs:List Value}(ht:P.underlying t=some (.slice e))(hz:bB P e=some sz)(hs:Sl w (.slice A l c) sz l xs)(hi:i≤l):∃ A' c',sliced A i l c sz=.slice A' (l - i) c'∧Sl w (.slice A' (l - i) c') sz (l - i) (xs.drop (i*sz)):=by
 have e:sliced A i l c sz=.slice (if c=i then A else A.map (·.add (i*sz))) (l - i) (c - i):=rfl;have h:=hs.sliceFrom (kk:=fun v _=>∃ A' c',v=.slice A' (l - i) c'∧Sl w (.slice A' (l - i) c') sz (l - i) (xs.drop (i*sz))) (kd:=.i64) (j:=(i:Int)) ht hz rfl hi (fun A' c' h=>⟨A',c',rfl,h⟩);unfold eP at h;obtain ⟨v,w2,hr,hk⟩:=h;rw[run_sliceAt_slice w t _ _ _ _ (elemOf ht),run_slice_l w t A l c (elemOf ht) .i64 (i:Int) (by omega) (by omega),np ht,run_sizeOf hz] at hr;have hr':Result.ok (sliced A (i:Int).toNat l c sz) w=Result.ok v w2:=hr;injection hr' with h1 h2;rw[← h1] at hk;exact hk
theorem Sl.cells {sz l c:Nat}{a:Addr}{xs:List Value}(hs:Sl w (.slice (some a) l c) sz l xs):∀ j u,xs[j]?=some u→w.cell? (a.add j)=some u:=fun j u hu=>by
 have hjl:=(List.getElem?_eq_some_iff.1 hu).1;have hl:=hs.1;have hc:0<l:=by
  rcases Nat.eq_zero_or_pos l with h0 | h0
  ·subst h0;simp at hl;subst hl;simp at hjl
  ·exact h0
 obtain ⟨g',o',ha⟩:=hs.A hc;injection ha with ha;subst ha;rw[addr_add,hs.cell j (by omega),hu]
theorem Hp.qH (H:Hp w0 F w L M){t e ty:TypeId}{z:Value}{sz b l m c:Nat}{A D:Option Addr}{xs ys:List Value}{cst:Array Bool}(T:qu P t e z sz b)(hs:Sl w (.slice A l l) sz l xs)(hn:Sl w (.slice D m c) sz m ys)(hA:A=none→l=0)(hm:0<m)(hl:(l+m)*b≤140737488355328)(hl':l+m<1152921504606846976)(h:∀ g c' w',Hp w0 F w' (own e sz (.slice (some ⟨g,0,none⟩) (l+m) c') (l+m) (xs++ys)::L) M→kk (.slice (some ⟨g,0,none⟩) (l+m) c') w'):bU P .append #[t,t] ty cst [.slice A l l,.slice D m c] w kk:=by
 obtain ⟨i,hi,hz,hsz,hb⟩:=T.parts;subst hsz;subst hb;obtain ⟨g',o',rfl⟩:=hn.A hm;have hlen:(xs++ys).length=(l+m)*i.size:=by rw[List.length_append,hs.1,hn.1,Nat.add_mul]
 have hml:l+m≤maxLen:=by unfold maxLen;omega
 have hfit:=growslice_fits (need:=l+m) (old:=l) (by omega) hl;have grown:∀ (old:Nat),old<l+m→
   Hp w0 F (w.drew.alloc (.cells (xs.toArray++ys.toArray++Builtin.zeroCells z.cells (grownCap w (l+m) old e - (l+m))) e)) (own e i.size (.slice (some ⟨w.heap.size,0,none⟩) (l+m) (grownCap w (l+m) old e)) (l+m) (xs++ys)::L) M:=by
  intro old ho;have hge:=grownCap_ge w (l+m) old e;have hcm:grownCap w (l+m) old e≤maxLen:=grownCap_le_maxLen w (l+m) old e hml;refine H.add ((aS.drew w).trans (aS.alloc _ _) (fun _ _ h=>h)) _ ⟨hlen,.inr ⟨w.heap.size,_,_,rfl,Nat.zero_le _,heap_alloc_new w.drew _,hge,hcm,?_,?_⟩⟩ ?_
  ·simp only[Array.size_append,List.size_toArray,size_zeroCells,T.zs,hs.1,hn.1,← Nat.add_mul]
   congr 1
   omega
  ·simp only[Array.toList_append,List.append_assoc];rw[← List.append_assoc,← hlen];exact List.take_left
  ·intro x hx;have hx:some w.heap.size=some x:=hx;injection hx with hx;subst hx;exact ⟨Nat.le_refl _,by simp⟩
 rcases A with _ | a
 ·have h0:=hA rfl;subst h0;have hx:xs=[]:=List.eq_nil_of_length_eq_zero (by simpa using hs.1);subst hx;have hgr:=grown 0 (by omega);rw[Nat.zero_add] at *;unfold bU;refine ⟨_,_,?_,h _ _ _ hgr⟩;show (do pure (.value (← Builtin.append_ #[t,t] ty #[.slice none 0 0,.slice (some ⟨g',o',none⟩) m c])):Sem Next).run P w=_;rw[Sem.run_bind,run_append_nil w t ty e i z T.und hi hz _ m c ys hn.1 hn.cells hm (by unfold maxLen at hml;omega) (by omega)];simp[Result.andThen]
 ·have hgr:=grown l (by omega);unfold bU;refine ⟨_,_,?_,h _ _ _ hgr⟩;show (do pure (.value (← Builtin.append_ #[t,t] ty #[.slice (some a) l l,.slice (some ⟨g',o',none⟩) m c])):Sem Next).run P w=_;rw[Sem.run_bind,run_append_grow w t ty e i z T.und hi hz a l l xs hs.1 hs.cells _ m c ys hn.1 hn.cells (by omega) (by unfold maxLen at hml;omega) hfit];rfl
end
end Go.Dk
namespace Go.Proofs.YtpjihhgjbbihkaaGreatDoor
open Go.Dk
theorem _root_.Go.Dk.Hp.b6 {w0 w:World}{F:Nat→Prop}{L L' M:List cC}(H:Hp w0 F w L M)(is:List Nat)(hn:is.Nodup)(hL:is.map (fun i=>L[i]?)=L'.map some):Hp w0 F w L' M:=by
 have hmem:∀ r ∈ L',r ∈ L:=fun r hr=>by
  have:some r ∈ is.map (fun i=>L[i]?):=by rw[hL];exact List.mem_map.2 ⟨r,hr,rfl⟩
  obtain ⟨i,_,hi⟩:=List.mem_map.1 this;exact List.mem_of_getElem? hi
 have hd:∀ (i j:Nat) (r s:cC),i≠j→L[i]?=some r→L[j]?=some s→∀ g,r.foot g→¬ s.foot g:=fun i j r s hij hi hj g hg hg'=>by
  obtain ⟨hi1,rfl⟩:=List.getElem?_eq_some_iff.1 hi;obtain ⟨hj1,rfl⟩:=List.getElem?_eq_some_iff.1 hj;rcases Nat.lt_or_gt_of_ne hij with h | h
  ·exact List.pairwise_iff_getElem.1 H.dis i j hi1 hj1 h g hg hg'
  ·exact List.pairwise_iff_getElem.1 H.dis j i hj1 hi1 h g hg' hg
 refine ⟨H.keeps,fun r hr=>H.ok r (hmem r hr),fun r hr=>H.lt r (hmem r hr),fun r hr=>H.new r (hmem r hr),?_,H.rok,H.rlt,fun q hq s hs=>H.rdis q hq s (hmem s hs)⟩;have hp:(is.map (fun i=>L[i]?)).Pairwise fun x y=>∀ r s:cC,x=some r→y=some s→∀ g,r.foot g→¬ s.foot g:=by
  rw[List.pairwise_map];exact (List.nodup_iff_pairwise_ne.1 hn).imp fun hij r s hr hs=>hd _ _ r s hij hr hs
 rw[hL,List.pairwise_map] at hp;exact hp.imp fun h=>h _ _ rfl rfl
theorem _root_.Go.Dk.Hp.fg {P:Program}{w0 w:World}{F:Nat→Prop}{L M:List cC}{N:Nat}{ops:Array Oper}{K:Fr→World→Prop}{f:Fr}(H:Hp w0 F w L M)(L':List cC)(hsub:∀ u,Hp w0 F u L M→Hp w0 F u L' M)(hf:P.follows .mixedOrders=true)(hB:(Region.noSelect ops&&xt ops)=true)(h:∀ w',Hp w0 F w' L M→gD P N (fun u=>Hp w0 F u L' M) ops K 0 ops.toList f w'):kW P N ops K f w:=
 gN (fun u=>Hp w0 F u L' M) hf hB (hsub _ (H.same (aS.drew _))) (h _ (H.same (aS.drew _)))
end Go.Proofs.YtpjihhgjbbihkaaGreatDoor
namespace Go.Proofs.YtpjihhgjbbihkaaGreatDoor
open Go.Proofs.Tryz
set_option maxRecDepth 100000
open Go.Dk
attribute [local irreducible] IntKind.wrap
theorem eS:Tryz.prog.follows .mixedOrders=true:=by kernel_rfl
def word (n i:Nat):Nat:=n / 2^(64*i) % 2^64
def sc (n:Nat):Array Value:=#[.int .u64 (word n 0:Int),.int .u64 (word n 1:Int),.int .u64 (word n 2:Int),.int .u64 (word n 3:Int)]
def sv (n:Nat):Value:=.agg (sc n)
theorem la (n i:Nat):word n i<18446744073709551616:=Nat.mod_lt _ (by decide)
theorem ct (n i j:Nat):(word n i).testBit j=(decide (j<64)&&n.testBit (64*i+j)):=by
 unfold word;rw[Nat.testBit_mod_two_pow,Nat.testBit_div_two_pow,Nat.add_comm]
theorem kA (n i:Nat)(hi:i<4):(sc n)[i]?=some (.int .u64 (word n i:Int)):=by
 match i,hi with
 | 0,_=>rfl
 | 1,_=>rfl
 | 2,_=>rfl
 | 3,_=>rfl
theorem sS {cs:Array Value}{n:Nat}(hs:cs.size=4)(h:∀ i,i<4→cs[i]?=some (.int .u64 (word n i:Int))):cs=sc n:=by
 apply Array.ext_getElem?;intro i;by_cases hi:i<4
 ·rw[h i hi,kA n i hi]
 ·rw[Array.getElem?_eq_none (by omega),Array.getElem?_eq_none (by show 4≤i;omega)]
theorem aY:#[Value.int .u64 0,.int .u64 0,.int .u64 0,.int .u64 0]=sc 0:=sS rfl fun i hi=>by
 match i,hi with
 | 0,_=>rfl
 | 1,_=>rfl
 | 2,_=>rfl
 | 3,_=>rfl
theorem AU (n m i:Nat):word (n |||m) i=word n i |||word m i:=by
 apply Nat.eq_of_testBit_eq;intro j;rw[Nat.testBit_or,ct,ct,ct,Nat.testBit_or]
 cases decide (j<64) <;> simp
theorem DL (p i:Nat):word (2^p) i=if p / 64=i then 2^(p % 64) else 0:=by
 apply Nat.eq_of_testBit_eq;intro j;rw[ct,Nat.testBit_two_pow];split
 ·rename_i h;subst h;rw[Nat.testBit_two_pow];by_cases hj:j<64
  ·simp only[hj,decide_true,Bool.true_and];rw[Bool.eq_iff_iff];simp;omega
  ·simp only[hj,decide_false,Bool.false_and];have:p % 64≠j:=by omega
   simp[this]
 ·rename_i h;by_cases hj:j<64
  ·have:¬ p=64*i+j:=by omega
   simp[this]
  ·simp[hj]
theorem Gc (n p:Nat)(_:p<256):(sc n).setIfInBounds (p / 64) (.int .u64 ((word n (p / 64) |||2^(p % 64):Nat):Int))=sc (n |||2^p):=by
 refine sS (by simp[sc]) fun i hi=>?_;rw[AU,DL];by_cases h:p / 64=i
 ·subst h;rw[if_pos rfl,Array.getElem?_setIfInBounds_self_of_lt (by show p / 64<4;omega)]
 ·rw[if_neg h,Array.getElem?_setIfInBounds_ne h,kA n i hi,Nat.or_zero]
theorem fl (n:Nat):∀ v ∈ (sc n).toList,v.oneCell'=true:=by
 intro v hv;simp[sc] at hv;rcases hv with rfl | rfl | rfl | rfl <;> rfl
def DM (p:Int):Bool:=decide (0≤p)&&decide (p<256)
theorem IB:enters prog 102=true:=by kernel_rfl
theorem K2 (p:Int)(w:World):bt prog 102 [.int .i64 p] w fun v w'=>v=.bool (DM p)∧w'=w:=by
 refine ar (N:=9) func102 IB rfl rfl rfl (by simp) ?_;refine aF (fun h=>?_) (fun h=>?_)
 ·refine ag h ?_;refine ag h ?_;refine ⟨?_,rfl⟩;have h':decide (0≤p)=true:=h;simp only[DM,h',Bool.true_and];rfl
 ·refine af h ?_;refine af h ?_;refine ⟨?_,rfl⟩;have h':decide (0≤p)=false:=h;simp only[DM,h',Bool.false_and];rfl
theorem IC:enters prog 103=true:=by kernel_rfl
theorem K3 (p:Nat)(hp:p<256)(w:World):bt prog 103 [.int .i64 (p:Int)] w fun v w'=>v=.tuple #[.int .i64 ((p / 64:Nat):Int),.int .u64 ((2^(p % 64):Nat):Int)]∧aT w w':=by
 refine ar (N:=9) func103 IC rfl rfl rfl (by simp) ?_;refine gN (fun _=>True) eS (by kernel_rfl) trivial ?_;refine quiet (.int .i64 ((p / 64:Nat):Int)) (fun w _=>nc (by omega) (by omega) (by omega) ⟨by simp,rfl⟩) ?_;refine quiet (.int .i64 ((p % 64:Nat):Int)) (fun w _=>nf (by omega) (by omega) ⟨by simp,rfl⟩) ?_;refine quiet (.int .u64 ((2^(p % 64):Nat):Int)) (fun w _=>xy (x:=1) (n:=p % 64) (by omega) ?_ ⟨by simp,rfl⟩) ?_
 ·have:2^(p % 64)<2^64:=Nat.pow_lt_pow_right (by decide) (by omega);omega
 exact ⟨rfl,aS.drew w⟩
theorem bo:eH prog 86=some (.agg #[.int .u64 0,.int .u64 0,.int .u64 0,.int .u64 0]):=by kernel_rfl
theorem aD:cH prog 86=some true:=by kernel_rfl
theorem av:bB prog 86=some 4:=by kernel_rfl
theorem sT:cH prog 81=some false:=by kernel_rfl
theorem jb:bB prog 81=some 1:=by kernel_rfl
theorem K4:enters prog 76=true:=by kernel_rfl
theorem pL (n p:Nat)(hp:p<256)(w:World):bt prog 76 [sv n,.int .i64 (p:Int)] w fun v w'=>v=sv (n |||2^p)∧aT w w':=by
 refine ar (N:=21) func76 K4 rfl rfl rfl (by simp) ?_;have H:=Hp.aC w;refine H.box 86 (sv n) (cs:=sc n) rfl ?_;intro g1 w1 H;refine H.alloc 86 (cs:=sc 0) bo aY ?_;intro g2 w2 H;refine aj (K2 _ _) ?_;rintro v w2' ⟨rfl,rfl⟩;refine ag (by simp[DM];omega) ?_;refine aj (K3 p hp _) ?_;rintro v w3 ⟨rfl,hk⟩;have H:=H.same hk;refine aK underlying86 jb (p / 64) rfl (by omega) (o':=p / 64) (by omega) ?_;refine H.load 1 rfl sT (kA n (p / 64) (by omega)) ?_;refine sG (la _ _) ?_ ?_
 ·have:2^(p % 64)<2^64:=Nat.pow_lt_pow_right (by decide) (by omega);omega
 refine aK underlying86 jb (p / 64) rfl (by omega) (o':=p / 64) (by omega) ?_;refine H.store 1 rfl jb (by show p / 64<4;omega) rfl ?_;rw[Gc n p hp];intro w4 H;refine H.ai 1 rfl aD av ?_;refine H.storeAll 0 rfl av rfl (fl _) ?_;intro w5 H;refine H.ai 0 rfl aD av ?_;exact ⟨rfl,rfl,H.keeps⟩
theorem DN (n m i:Nat):word (n &&&m) i=word n i &&&word m i:=by
 apply Nat.eq_of_testBit_eq;intro j;rw[Nat.testBit_and,ct,ct,ct,Nat.testBit_and]
 cases decide (j<64) <;> simp
theorem B_ {n:Nat}(hn:n<2^256)(m i:Nat):word (bT n m) i=word n i &&&(18446744073709551615 - word m i):=by
 apply Nat.eq_of_testBit_eq;intro j;have e:(18446744073709551615 - word m i:Nat)=2^64 - (word m i+1):=by have:=la m i;omega
 rw[Nat.testBit_and,ct,ct,e,Nat.testBit_two_pow_sub_succ (la m i),ct,bW hn];by_cases hj:j<64 <;> simp[hj]
theorem DO {n m:Nat}(hn:n<2^256)(hm:m<2^256)(h:∀ i,i<4→word n i=word m i):n=m:=by
 refine nT hn hm fun p hp=>?_;have:=congrArg (fun x=>Nat.testBit x (p % 64)) (h (p / 64) (by omega));simp only[ct] at this;have e:64*(p / 64)+p % 64=p:=by omega
 have hm:p % 64<64:=by omega
 simpa [hm,e] using this
theorem K5:enters prog 83=true:=by kernel_rfl
theorem Nb (a b r:Nat)(g:FuncId)(op:Nat→Nat→Nat)(_:∀ x y:Nat,x<18446744073709551616→y<18446744073709551616→op x y<18446744073709551616)(hr:∀ i,i<4→word r i=op (word a i) (word b i))(hg:∀ x y:Nat,x<18446744073709551616→y<18446744073709551616→∀ w,bt prog g [.int .u64 (x:Int),.int .u64 (y:Int)] w fun v w'=>v=.int .u64 (op x y:Int)∧aT w w')(w:World) :
  bt prog 83 [sv a,sv b,.func (.func g) #[] #[]] w fun v w'=>v=sv r∧aT w w':=by
 refine ar (N:=24) func83 K5 rfl rfl rfl (by simp) ?_;have H:=Hp.aC w;refine H.box 86 (sv a) (cs:=sc a) rfl ?_;intro g1 w1 H;refine H.box 86 (sv b) (cs:=sc b) rfl ?_;intro g2 w2 H;refine H.alloc 86 (cs:=sc 0) bo aY ?_;intro g3 w3 H;refine H.alloc 86 (cs:=sc 0) bo aY ?_;intro g4 w4 H;refine ax (γ:=Nat) (fun i=>[(9,.int .i64 (i:Int))])
  (fun i w'=>i≤4∧∃ cs:Array Value,cs.size=4∧(∀ j,j<i→cs[j]?=some (.int .u64 (word r j:Int)))∧Hp w ab w' [an g4 86 cs,an g3 86 (sc 0),an g2 86 (sc b),an g1 86 (sc a)] [])
  (fun i=>4 - i) 0 ⟨rfl,trivial⟩ ⟨by omega,sc 0,rfl,by omega,H⟩ ?_
 clear H;rintro i u w5 ⟨hi,cs,hcs,hpre,H⟩;refine aF (fun h=>?_) (fun h=>?_)
 ·have hi4:i<4:=by have:=of_decide_eq_true h;omega
  refine gN (fun w'=>Hp w ab w' [an g4 86 cs,an g3 86 (sc 0),an g2 86 (sc b),an g1 86 (sc a)] []) eS (by kernel_rfl) (H.same (aS.drew _)) ?_;refine quiet (.pointer (some ⟨g1,i,none⟩)) (fun w _=>aK underlying86 jb i rfl hi4 (by omega) ae) ?_;refine quiet (.int .u64 (word a i:Int)) (fun w H=>H.load 3 rfl sT (kA a i hi4) ae) ?_;refine quiet (.pointer (some ⟨g2,i,none⟩)) (fun w _=>aK underlying86 jb i rfl hi4 (by omega) ae) ?_;refine quiet (.int .u64 (word b i:Int)) (fun w H=>H.load 2 rfl sT (kA b i hi4) ae) ?_;refine aj (hg _ _ (la _ _) (la _ _) _) ?_;rintro v w6 ⟨rfl,hk⟩;have H:=(H.same (aS.drew _)).same hk;refine ⟨.inl H,?_⟩;refine quiet (.pointer (some ⟨g4,i,none⟩)) (fun w _=>aK underlying86 jb i rfl hi4 (by omega) ae) ?_;refine H.store 0 rfl jb (by omega) rfl ?_;intro w7 H;refine ⟨.inr (by kernel_rfl),?_⟩;refine ⟨i+1,by omega,⟨congrArg (Value.int .i64) (aH (by omega) (by omega)),trivial⟩,by omega,_,?_,?_,H⟩
  ·simpa using hcs
  ·intro j hj;by_cases hji:j=i
   ·subst hji;rw[Array.getElem?_setIfInBounds_self_of_lt (by omega),hr j hi4]
   ·rw[Array.getElem?_setIfInBounds_ne (Ne.symm hji)];exact hpre j (by omega)
 ·have hi4:i=4:=by have:=of_decide_eq_false h;omega
  subst hi4;obtain rfl:=sS hcs hpre;refine H.ai 0 rfl aD av ?_;refine H.storeAll 1 rfl av rfl (fl _) ?_;intro w6 H;refine H.ai 1 rfl aD av ?_;exact ⟨rfl,rfl,H.keeps⟩
theorem ID:enters prog 105=true:=by kernel_rfl
theorem c105 (x y:Nat)(hx:x<18446744073709551616)(hy:y<18446744073709551616)(w:World):bt prog 105 [.int .u64 (x:Int),.int .u64 (y:Int)] w fun v w'=>v=.int .u64 ((x |||y:Nat):Int)∧aT w w':=by
 refine ar (N:=8) func105 ID rfl rfl rfl (by simp) ?_;refine sG hx hy ?_;exact ⟨rfl,aS.refl _ _⟩
theorem K6:enters prog 84=true:=by kernel_rfl
theorem On (x y:Nat)(hx:x<18446744073709551616)(hy:y<18446744073709551616)(w:World):bt prog 84 [.int .u64 (x:Int),.int .u64 (y:Int)] w fun v w'=>v=.int .u64 ((x &&&y:Nat):Int)∧aT w w':=by
 refine ar (N:=8) func84 K6 rfl rfl rfl (by simp) ?_;refine rq hx hy ?_;exact ⟨rfl,aS.refl _ _⟩
theorem IE:enters prog 104=true:=by kernel_rfl
theorem Nc (x y:Nat)(hx:x<18446744073709551616)(hy:y<18446744073709551616)(w:World):bt prog 104 [.int .u64 (x:Int),.int .u64 (y:Int)] w fun v w'=>v=.int .u64 ((x &&&(18446744073709551615 - y):Nat):Int)∧aT w w':=by
 refine ar (N:=8) func104 IE rfl rfl rfl (by simp) ?_;refine sH hx hy ?_;exact ⟨rfl,aS.refl _ _⟩
theorem K7:enters prog 81=true:=by kernel_rfl
theorem K8 (a b:Nat)(w:World):bt prog 81 [sv a,sv b] w fun v w'=>v=sv (a |||b)∧aT w w':=by
 refine ar (N:=8) func81 K7 rfl rfl rfl (by simp) ?_;have H:=Hp.aC w;refine H.box 86 (sv a) (cs:=sc a) rfl ?_;intro g1 w1 H;refine H.box 86 (sv b) (cs:=sc b) rfl ?_;intro g2 w2 H;refine H.alloc 86 (cs:=sc 0) bo aY ?_;intro g3 w3 H;refine H.ai 2 rfl aD av ?_;refine H.ai 1 rfl aD av ?_;refine aj (Nb a b (a |||b) 105 (· |||·) (fun x y hx hy=>Nat.or_lt_two_pow (n:=64) hx hy) (fun i _=>AU a b i) c105 _) ?_;rintro v w4 ⟨rfl,hk⟩;have H:=H.same hk;refine H.storeAll 0 rfl av rfl (fl _) ?_;intro w5 H;refine H.ai 0 rfl aD av ?_;exact ⟨rfl,rfl,H.keeps⟩
theorem K9:enters prog 53=true:=by kernel_rfl
theorem c53 (a b:Nat)(w:World):bt prog 53 [sv a,sv b] w fun v w'=>v=sv (a &&&b)∧aT w w':=by
 refine ar (N:=8) func53 K9 rfl rfl rfl (by simp) ?_;have H:=Hp.aC w;refine H.box 86 (sv a) (cs:=sc a) rfl ?_;intro g1 w1 H;refine H.box 86 (sv b) (cs:=sc b) rfl ?_;intro g2 w2 H;refine H.alloc 86 (cs:=sc 0) bo aY ?_;intro g3 w3 H;refine H.ai 2 rfl aD av ?_;refine H.ai 1 rfl aD av ?_;refine aj (Nb a b (a &&&b) 84 (· &&&·) (fun x y hx _=>Nat.lt_of_le_of_lt Nat.and_le_left hx) (fun i _=>DN a b i) On _) ?_;rintro v w4 ⟨rfl,hk⟩;have H:=H.same hk;refine H.storeAll 0 rfl av rfl (fl _) ?_;intro w5 H;refine H.ai 0 rfl aD av ?_;exact ⟨rfl,rfl,H.keeps⟩
theorem K_:enters prog 78=true:=by kernel_rfl
theorem M4 (a b:Nat)(ha:a<2^256)(w:World):bt prog 78 [sv a,sv b] w fun v w'=>v=sv (bT a b)∧aT w w':=by
 refine ar (N:=8) func78 K_ rfl rfl rfl (by simp) ?_;have H:=Hp.aC w;refine H.box 86 (sv a) (cs:=sc a) rfl ?_;intro g1 w1 H;refine H.box 86 (sv b) (cs:=sc b) rfl ?_;intro g2 w2 H;refine H.alloc 86 (cs:=sc 0) bo aY ?_;intro g3 w3 H;refine H.ai 2 rfl aD av ?_;refine H.ai 1 rfl aD av ?_;refine aj (Nb a b (bT a b) 104 (fun x y=>x &&&(18446744073709551615 - y)) (fun x y hx _=>Nat.lt_of_le_of_lt Nat.and_le_left hx) (fun i _=>B_ ha b i) Nc _) ?_;rintro v w4 ⟨rfl,hk⟩;have H:=H.same hk;refine H.storeAll 0 rfl av rfl (fl _) ?_;intro w5 H;refine H.ai 0 rfl aD av ?_;exact ⟨rfl,rfl,H.keeps⟩
theorem DP (n p:Nat):decide ((0:Int)<((word n (p / 64) &&&2^(p % 64):Nat):Int))=n.testBit p:=by
 have e:64*(p / 64)+p % 64=p:=by omega
 have hb:(word n (p / 64)).testBit (p % 64)=n.testBit p:=by
  rw[ct,e];have:p % 64<64:=by omega
  simp[this]
 rw[← hb];by_cases h:(word n (p / 64)).testBit (p % 64)=true
 ·rw[h];have:word n (p / 64) &&&2^(p % 64)≠0:=by
   intro hz;have:=congrArg (fun x=>Nat.testBit x (p % 64)) hz;simp[Nat.testBit_and,h,Nat.testBit_two_pow_self] at this
  simp;omega
 ·simp only[Bool.not_eq_true] at h;rw[h];have:word n (p / 64) &&&2^(p % 64)=0:=by
   apply Nat.eq_of_testBit_eq;intro j;rw[Nat.testBit_and,Nat.testBit_two_pow,Nat.zero_testBit];by_cases hj:p % 64=j
   ·subst hj;simp[h]
   ·simp[hj]
  simp[this]
theorem IF:enters prog 110=true:=by kernel_rfl
theorem xR (n p:Nat)(hp:p<256)(w:World):bt prog 110 [sv n,.int .i64 (p:Int)] w fun v w'=>v=.bool (n.testBit p)∧aT w w':=by
 refine ar (N:=21) func110 IF rfl rfl rfl (by simp) ?_;have H:=Hp.aC w;refine H.box 86 (sv n) (cs:=sc n) rfl ?_;intro g1 w1 H;refine aj (K2 _ _) ?_;rintro v w2' ⟨rfl,rfl⟩;refine af (by simp[DM];omega) ?_;refine aj (K3 p hp _) ?_;rintro v w3 ⟨rfl,hk⟩;have H:=H.same hk;refine aK underlying86 jb (p / 64) rfl (by omega) (o':=p / 64) (by omega) ?_;refine H.load 0 rfl sT (kA n (p / 64) (by omega)) ?_;refine rq (la _ _) ?_ ?_
 ·have:2^(p % 64)<2^64:=Nat.pow_lt_pow_right (by decide) (by omega);omega
 exact ⟨congrArg Value.bool (DP n p),H.keeps⟩
theorem dy:qu prog 75 3 (.int .i64 0) 1 8:=⟨underlying75,by kernel_rfl,rfl,by decide⟩
theorem aE:cH prog 3=some false:=by kernel_rfl
theorem a_:bB prog 3=some 1:=by kernel_rfl
def ints (l:List Nat):List Value:=l.map fun (p:Nat)=>Value.int .i64 (p:Int)
theorem e_ {l:List Nat}{i:Nat}(hi:i<l.length):(ints l)[i]?=some (.int .i64 (l[i]:Int)):=by simp[ints,hi]
theorem IG:enters prog 113=true:=by kernel_rfl
theorem DQ (n:Nat)(w:World):bt prog 113 [sv n] w fun v w'=>∃ A c,v=.slice A (cD n).length c∧eX w w' (own 3 1 (.slice A (cD n).length c) (cD n).length (ints (cD n))):=by
 refine ar (N:=17) func113 IG rfl rfl rfl (by simp) ?_;have H:=Hp.aC w;refine H.box 86 (sv n) (cs:=sc n) rfl ?_;intro g1 w1 H;have H:=H.bx 3 1;refine ax (γ:=Nat × Option Addr × Nat) (fun (i,A,c)=>[(5,.int .i64 (i:Int)),(3,.slice A (aN n i).length c)])
  (fun (i,A,c) w'=>i≤256∧Hp w ab w' [own 3 1 (.slice A (aN n i).length c) (aN n i).length (ints (aN n i)),an g1 86 (sc n)] [])
  (fun (i,_,_)=>256 - i) (0,none,0) ⟨rfl,rfl,trivial⟩ ⟨by decide,H⟩ ?_
 clear H;rintro ⟨i,A,c⟩ u w2 ⟨hi,H⟩;refine aF (fun h=>?_) (fun h=>?_)
 ·have hi4:i<256:=by have:=of_decide_eq_true h;omega
  refine H.ai 1 rfl aD av ?_;refine aj (xR n i hi4 _) ?_;rintro v w3 ⟨rfl,hk⟩;have H:=H.same hk;have hl:=eG n i;refine aF (fun hb=>?_) (fun hb=>?_)
  ·refine H.aX dy rfl ?_;intro g2 w4 H;refine H.cf 0 dy rfl rfl (by omega) (by omega) ?_;intro A' c' w5 H;have e:aN n (i+1)=aN n i++[i]:=by rw[iq,if_pos hb]
   have e1:(aN n (i+1)).length=(aN n i).length+1:=by rw[e];simp
   have e2:ints (aN n (i+1))=ints (aN n i)++[.int .i64 (i:Int)]:=by rw[e];simp[ints]
   refine ⟨(i+1,A',c'),by show 256 - (i+1)<256 - i;omega,⟨congrArg (Value.int .i64) (aH (by omega) (by omega)),by rw[e1];rfl,trivial⟩,by show i+1≤256;omega,?_⟩;show Hp w _ _ [own 3 1 (.slice A' (aN n (i+1)).length c') (aN n (i+1)).length (ints (aN n (i+1))),_] [];rw[e1,e2];exact H
  ·have e:aN n (i+1)=aN n i:=by rw[iq,hb];simp
   refine ⟨(i+1,A,c),by show 256 - (i+1)<256 - i;omega,⟨congrArg (Value.int .i64) (aH (by omega) (by omega)),by rw[e];rfl,trivial⟩,by show i+1≤256;omega,?_⟩;show Hp w _ _ [own 3 1 (.slice A (aN n (i+1)).length c) (aN n (i+1)).length (ints (aN n (i+1))),_] [];rw[e];exact H
 ·have hi4:i=256:=by have:=of_decide_eq_false h;omega
  subst hi4;exact ⟨A,c,rfl,H.out⟩
theorem gg {P:Program}{t:TypeId}(h:cH P t=some false){cs:Array Value}{o:Nat}{v:Value}(hv:cs[o]?=some v)(w:World):(part t cs o).run P w=.ok v w:=by
 simp[part,qG h,hv]
theorem dE {P:Program}{t:TypeId}{k:IntKind}(h:P.underlying t=some (.int k))(d:Nat)(a b:Int)(w:World):(Op.equalIn (d+1) t (.int k a) (.int k b)).run P w=.ok (a==b) w:=by
 simp[Op.equalIn,run_underlying h]
theorem H9:Tryz.prog.eqGuardType Tryz.prog.depth 86=false:=by kernel_rfl
theorem xS (a b:Nat)(ha:a<2^256)(hb:b<2^256)(w:World):(Op.equal 86 (sv a) (sv b)).run prog w=.ok (a==b) w:=by
 have hp:∀ (n i:Nat),i<4→∀ w,(part 81 (sc n) i).run prog w=.ok (.int .u64 (word n i:Int)) w:=fun n i hi w=>gg sT (kA n i hi) w;have he:(a==b)=((word a 0:Int)==(word b 0:Int)&&((word a 1:Int)==(word b 1:Int)&&((word a 2:Int)==(word b 2:Int)&&(word a 3:Int)==(word b 3:Int)))):=by
  rw[Bool.eq_iff_iff];simp only[beq_iff_eq,Bool.and_eq_true,Int.natCast_inj];constructor
  ·rintro rfl;simp
  ·rintro ⟨h0,h1,h2,h3⟩;refine DO ha hb fun i hi=>?_
   match i,hi with
   | 0,_=>exact h0
   | 1,_=>exact h1
   | 2,_=>exact h2
   | 3,_=>exact h3
 have hr:∀ d,(Op.equalIn (d+2) 86 (.agg (sc a)) (.agg (sc b))).run prog w=.ok (a==b) w:=by
  intro d;rw[he];rw[Op.equalIn];simp only[Sem.run_bind,run_underlying underlying86,Result.andThen_ok,Go.Dk.run_sizeOf jb];have i0:=dE underlying81 d (word a 0:Int) (word b 0:Int);have i1:=dE underlying81 d (word a 1:Int) (word b 1:Int);have i2:=dE underlying81 d (word a 2:Int) (word b 2:Int);have i3:=dE underlying81 d (word a 3:Int) (word b 3:Int);generalize ((word a 0:Int)==(word b 0:Int))=b0 at *;generalize ((word a 1:Int)==(word b 1:Int))=b1 at *;generalize ((word a 2:Int)==(word b 2:Int))=b2 at *;generalize ((word a 3:Int)==(word b 3:Int))=b3 at*
  cases b0 <;> cases b1 <;> cases b2 <;> cases b3 <;>
   simp[Std.Legacy.Range.forIn_eq_forIn_range',List.range',hp,i0,i1,i2,i3,Std.Legacy.Range.size]
 have:=hr 9998;exact this
theorem fD {a b:Nat}(ha:a<2^256)(hb:b<2^256){xo yo:Operand}{w:World}{kk:Value→World→Prop}(h:kk (.bool (a==b)) w):cU prog .eql 86 xo yo (sv a) (sv b) w kk:=
 rr H9 (xS a b ha hb) h
theorem Ca {a b:Nat}(ha:a<2^256)(hb:b<2^256){xo yo:Operand}{w:World}{kk:Value→World→Prop}(h:kk (.bool (a !=b)) w):cU prog .neq 86 xo yo (sv a) (sv b) w kk:=
 xC H9 (xS a b ha hb) h
theorem n7 {w:World}{kk:Value→World→Prop}(h:kk (sv 0) w):b7 prog 86 [] w kk:=by
 refine bu (v:=.agg #[.int .u64 0,.int .u64 0,.int .u64 0,.int .u64 0]) (fun w=>by kernel_rfl) ?_;rw[aY];exact h
theorem La:enters prog 85=true:=by kernel_rfl
theorem c85 (a b:Nat)(ha:a<2^256)(w:World):bt prog 85 [sv a,sv b] w fun v w'=>v=.bool (bT a b==0)∧aT w w':=by
 refine ar (N:=10) func85 La rfl rfl rfl (by simp) ?_;have H:=Hp.aC w;refine H.box 86 (sv a) (cs:=sc a) rfl ?_;intro g1 w1 H;refine H.box 86 (sv b) (cs:=sc b) rfl ?_;intro g2 w2 H;refine H.ai 1 rfl aD av ?_;refine H.ai 0 rfl aD av ?_;refine aj (M4 a b ha _) ?_;rintro v w4 ⟨rfl,hk⟩;have H:=H.same hk;refine n7 ?_;refine fD (px _ _) (by decide) ?_;exact ⟨rfl,H.keeps⟩
theorem II:enters prog 177=true:=by kernel_rfl
theorem xT (n i:Nat)(one:Bool)(hi:i<8)(w:World):bt prog 177 [sv n,.int .i64 (i:Int),.bool one] w fun v w'=>v=sv (cF n i one)∧aT w w':=by
 refine ar (N:=36) func177 II rfl rfl rfl (by simp) ?_;have H:=Hp.aC w;refine H.box 86 (sv n) (cs:=sc n) rfl ?_;intro g1 w1 H;refine H.alloc 86 (cs:=sc 0) bo aY ?_;intro g2 w2 H;refine H.alloc 86 (cs:=sc 0) bo aY ?_;intro g3 w3 H;have hd:decide ((i:Int)<0)=false:=by simp
 refine af hd ?_;refine af hd ?_;refine af hd ?_;refine af (by simp;omega) ?_;refine H.ai 2 rfl aD av ?_;refine aj (DQ n _) ?_;rintro v w4 ⟨A,c,rfl,hn⟩;have H:=H.bD hn;refine ay underlying75 ?_;refine ax (γ:=Nat) (fun j=>[(20,.int .i64 (j:Int))])
  (fun j w'=>j≤(cD n).length∧Hp w ab w' [own 3 1 (.slice A (cD n).length c) (cD n).length (ints (cD n)),an g3 86 (sc (fQ (((cD n).take j).filter fun p=>p.testBit i==one))),an g2 86 (sc 0),an g1 86 (sc n)] [])
  (fun j=>(cD n).length - j) 0 ⟨rfl,trivial⟩ ⟨by omega,H⟩ ?_
 clear H hn;rintro j u w5 ⟨hj,H⟩;refine aF (fun h=>?_) (fun h=>?_)
 ·have hjl:j<(cD n).length:=by have:=of_decide_eq_true h;omega
  obtain ⟨g,rfl⟩:=H.mq 0 rfl (by omega);have hp:(cD n)[j]<256:=(b_.1 (List.getElem_mem hjl)).1;have ht:(cD n).take (j+1)=(cD n).take j++[(cD n)[j]]:=(List.take_append_getElem hjl).symm;refine aq underlying75 a_ j rfl hjl (by omega) (o':=j) ?_;refine H.dX 0 rfl aE (e_ hjl) ?_;refine ic (by omega) ?_;refine ib (b:=1) (Nat.lt_of_le_of_lt (Nat.div_le_self _ _) (by omega)) (by omega) ?_;refine vJ underlying4 ?_;rw[cB];refine aF (fun hb=>?_) (fun hb=>?_)
  ·refine H.ai 1 rfl aD av ?_;refine aj (pL _ _ hp _) ?_;rintro v w6 ⟨rfl,hk⟩;have H:=H.same hk;refine H.storeAll 1 rfl av rfl (fl _) ?_;intro w7 H;refine ⟨j+1,by omega,⟨congrArg (Value.int .i64) (aH (by omega) (by have:=eG n 256;simp only[cD] at hjl;omega)),trivial⟩,by omega,?_⟩;have e:((cD n).take (j+1)).filter (fun p=>p.testBit i==one)=((cD n).take j).filter (fun p=>p.testBit i==one)++[(cD n)[j]]:=by
    rw[ht,List.filter_append,List.filter_cons,hb,List.filter_nil];rfl
   rw[e,kh];exact H
  ·refine ⟨j+1,by omega,⟨congrArg (Value.int .i64) (aH (by omega) (by have:=eG n 256;simp only[cD] at hjl;omega)),trivial⟩,by omega,?_⟩;have e:((cD n).take (j+1)).filter (fun p=>p.testBit i==one)=((cD n).take j).filter (fun p=>p.testBit i==one):=by
    rw[ht,List.filter_append,List.filter_cons,hb,List.filter_nil];simp
   rw[e];exact H
 ·have hjl:j=(cD n).length:=by have:=of_decide_eq_false h;omega
  subst hjl;refine H.ai 1 rfl aD av ?_;refine H.storeAll 2 rfl av rfl (fl _) ?_;intro w6 H;refine H.ai 2 rfl aD av ?_;refine ⟨rfl,?_,H.keeps⟩;rw[List.take_length,← Dn];rfl
theorem Lb:enters prog 50=true:=by kernel_rfl
theorem n9 (n:Nat)(hn:n≤8)(w:World):bt prog 50 [.int .i64 (n:Int)] w fun v w'=>v=.tuple #[sv (bn n),.int .i64 0]∧aT w w':=by
 refine ar (N:=23) func50 Lb rfl rfl rfl (by simp) ?_;have H:=Hp.aC w;refine H.alloc 86 (cs:=sc 0) bo aY ?_;intro g1 w1 H;have hd:decide ((n:Int)<0)=false:=by simp
 refine af hd ?_;refine af hd ?_;refine af hd ?_;refine af (by simp;omega) ?_;refine H.alloc 86 (cs:=sc 0) bo aY ?_;intro g2 w2 H;have h2:2^n≤2^8:=Nat.pow_le_pow_right (by decide) hn;refine ng (x:=1) (n:=n) (by omega) (by omega) ?_;rw[Nat.one_mul];refine ax (γ:=Nat) (fun j=>[(15,.int .i64 (j:Int))])
  (fun j w'=>j≤2^n∧Hp w ab w' [an g2 86 (sc (fQ (List.range j))),an g1 86 (sc 0)] [])
  (fun j=>2^n - j) 0 ⟨rfl,trivial⟩ ⟨Nat.zero_le _,H⟩ ?_
 clear H;rintro j u w5 ⟨hj,H⟩;refine aF (fun h=>?_) (fun h=>?_)
 ·have hjl:j<2^n:=by have:=of_decide_eq_true h;omega
  refine H.ai 0 rfl aD av ?_;refine aj (pL _ j (by omega) _) ?_;rintro v w6 ⟨rfl,hk⟩;have H:=H.same hk;refine H.storeAll 0 rfl av rfl (fl _) ?_;intro w7 H;refine ⟨j+1,by omega,⟨congrArg (Value.int .i64) (aH (by omega) (by omega)),trivial⟩,by omega,?_⟩;rw[List.range_succ,kh];exact H
 ·have hjl:j=2^n:=by have:=of_decide_eq_false h;omega
  subst hjl;refine H.ai 0 rfl aD av ?_;refine H.storeAll 1 rfl av rfl (fl _) ?_;intro w6 H;refine H.ai 1 rfl aD av ?_;refine ⟨rfl,?_,H.keeps⟩;rw[FV n hn];rfl
end Go.Proofs.YtpjihhgjbbihkaaGreatDoor
