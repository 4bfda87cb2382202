import Derived.Tactics
import Derived.Deep.Quiet
import Derived.Orders
import Derived.Scope
import Derived.Laws.Rows
import Derived.Laws.OwnMore
import Derived.Laws.MakeOwn
import Derived.Laws.Entries
import Derived.Laws.Small
import Derived.Laws.BitsAllLaws
import Derived.Laws.BitsLemmas
import Derived.Maps.AppendAt
import Derived.MapKept
import Derived.DeepKeys5
import Derived.Laws.Cells
import Derived.Laws.BytesString
import Derived.Laws.RangeAny
import Derived.Laws.RangeString
import Derived.Laws.Strings
import Derived.Maps.RangeRun
import Derived.Laws.Slices
import Derived.Test.YtpjihhgjbbihkaaGreatDoorChecked
import Derived.KernelRfl
namespace Go.Dk
set_option maxRecDepth 100000
def aN (n k:Nat):List Nat:=(List.range k).filter fun p=>n.testBit p
theorem iD (n k:Nat):aN n (k+1)=aN n k++(if n.testBit k then [k] else []):=by
 unfold aN;rw[List.range_succ,List.filter_append];by_cases h:n.testBit k <;> simp[h]
theorem ck {n k p:Nat}:p ∈ aN n k↔p<k∧n.testBit p=true:=by
 unfold aN;simp
theorem eK (n k:Nat):(aN n k).length≤k:=by
 unfold aN;have:=List.length_filter_le (fun p=>n.testBit p) (List.range k);simpa using this
abbrev cI (n:Nat):List Nat:=aN n 256
def mkSet (f:Nat→Bool):Nat→Nat
 | 0=>0
 | k+1=>mkSet f k+if f k then 2^k else 0
theorem fa (f:Nat→Bool)(k:Nat):mkSet f k<2^k:=by
 induction k with
 | zero=>simp[mkSet]
 | succ k ih=>simp only[mkSet];split <;> (rw[Nat.pow_succ];omega)
theorem bW (f:Nat→Bool)(k p:Nat):(mkSet f k).testBit p=(decide (p<k)&&f p):=by
 induction k with
 | zero=>simp[mkSet]
 | succ k ih=>
  simp only[mkSet];have d:=fa f k;by_cases b:f k
  ·simp only[b,if_true];have e:mkSet f k+2^k=mkSet f k |||2^k:=by
    rw[Nat.or_comm];have:=Nat.two_pow_add_eq_or_of_lt d 1;simp at this;omega
   rw[e,Nat.testBit_or,ih,Nat.testBit_two_pow];by_cases a:p<k
   ·have:¬ k=p:=by omega
    simp[a,this,Nat.lt_succ_of_lt a]
   ·by_cases c:k=p
    ·subst c;simp[b]
    ·have:¬ p<k+1:=by omega
     simp[a,c,this]
  ·simp only[b,if_false,Bool.false_eq_true,Nat.add_zero];rw[ih];by_cases a:p<k
   ·simp[a,Nat.lt_succ_of_lt a]
   ·by_cases c:p=k
    ·subst c;simp[b]
    ·have:¬ p<k+1:=by omega
     simp[a,this]
abbrev rE (f:Nat→Bool):Nat:=mkSet f 256
theorem dp (f:Nat→Bool):rE f<2^256:=fa f 256
theorem bO (f:Nat→Bool)(p:Nat):(rE f).testBit p=(decide (p<256)&&f p):=bW f 256 p
theorem kE {n p:Nat}(a:n<2^256)(b:256≤p):n.testBit p=false:=
 Nat.testBit_lt_two_pow (Nat.lt_of_lt_of_le a (Nat.pow_le_pow_right (by decide) b))
theorem n_ {n m:Nat}(a:n<2^256)(hm:m<2^256)(h:∀ p,p<256→n.testBit p=m.testBit p):n=m:=by
 apply Nat.eq_of_testBit_eq;intro p;by_cases b:p<256
 ·exact h p b
 ·rw[kE a (by omega),kE hm (by omega)]
theorem IE {a b:Nat}(c:a<2^256)(d:b<2^256):a |||b<2^256:=Nat.or_lt_two_pow c d
def bU (a b:Nat):Nat:=rE fun p=>a.testBit p&& !b.testBit p
theorem bX {a:Nat}(d:a<2^256)(b p:Nat):(bU a b).testBit p=(a.testBit p&& !b.testBit p):=by
 unfold bU;rw[bO];by_cases c:p<256
 ·simp[c]
 ·simp[c,kE d (Nat.le_of_not_lt c)]
theorem pM (a b:Nat):bU a b<2^256:=dp _
def bp (n:Nat):Nat:=rE fun p=>decide (p<2^n)
def cK (n i:Nat)(one:Bool):Nat:=rE fun p=>n.testBit p&&(p.testBit i==one)
def fW:List Nat→Nat
 | []=>0
 | p::l=>2^p |||fW l
theorem fH (l:List Nat)(q:Nat):(fW l).testBit q=decide (q ∈ l):=by
 induction l with
 | nil=>simp[fW]
 | cons p l ih=>
  simp only[fW,Nat.testBit_or,ih,Nat.testBit_two_pow,List.mem_cons];rw[Bool.eq_iff_iff];simp;constructor
  ·rintro (h | h)
   ·exact .inl h.symm
   ·exact .inr h
  ·rintro (h | h)
   ·exact .inl h.symm
   ·exact .inr h
theorem kF (l:List Nat)(p:Nat):fW (l++[p])=fW l |||2^p:=by
 apply Nat.eq_of_testBit_eq;intro q;rw[fH,Nat.testBit_or,fH,Nat.testBit_two_pow,Bool.eq_iff_iff];simp;constructor
 ·rintro (h | h)
  ·exact .inl h
  ·exact .inr h.symm
 ·rintro (h | h)
  ·exact .inl h
  ·exact .inr h.symm
theorem pN {l:List Nat}{k:Nat}(h:∀ p ∈ l,p<k):fW l<2^k:=by
 induction l with
 | nil=>simp[fW];exact Nat.two_pow_pos k
 | cons p l ih=>exact Nat.or_lt_two_pow (Nat.pow_lt_pow_right (by decide) (h p (.head _))) (ih fun q a=>h q (.tail _ a))
theorem cG (p i:Nat):((((p / 2^i &&&1:Nat):Int)==1):Bool)=p.testBit i:=by
 rw[Nat.testBit_eq_decide_div_mod_eq,Nat.and_one_is_mod];generalize p / 2^i=q;rw[Bool.eq_iff_iff,beq_iff_eq,decide_eq_true_eq];omega
theorem Gx (n:Nat)(b:n≤8):bp n=fW (List.range (2^n)):=by
 have c:2^n≤2^8:=Nat.pow_le_pow_right (by decide) b;refine n_ (dp _) (pN (fun p a=>by have:=List.mem_range.1 a;omega)) fun p a=>?_;rw[fH,bp,bO];simp[a]
theorem DP (n i:Nat)(one:Bool):cK n i one=fW ((cI n).filter fun p=>p.testBit i==one):=by
 refine n_ (dp _) (pN (fun p a=>by have:=(ck.1 (List.mem_filter.1 a).1).1;omega)) fun p a=>?_;rw[fH,cK,bO,Bool.eq_iff_iff];simp[a,ck]
theorem xG (n i:Nat)(one:Bool):cK n i one<2^256:=dp _
theorem j7 (n:Nat):bp n<2^256:=dp _
theorem eg {n i:Nat}(a:n<256)(hi:8≤i):n.testBit i=false:=
 Nat.testBit_lt_two_pow (Nat.lt_of_lt_of_le a (show 2^8≤2^i from Nat.pow_le_pow_right (by decide) hi))
theorem Gy {a b:Nat}(c:a<256)(d:b<256)(h:∀ i,i<8→a.testBit i=b.testBit i):a=b:=by
 apply Nat.eq_of_testBit_eq;intro i;by_cases hi:i<8
 ·exact h i hi
 ·rw[eg c (by omega),eg d (by omega)]
theorem iE {m:Nat}(hm:m<256)(i:Nat):(255 - m).testBit i=(decide (i<8)&& !m.testBit i):=by
 have e:255 - m=2^8 - (m+1):=by omega
 rw[e,Nat.testBit_two_pow_sub_succ (by omega)]
theorem dh {a:Nat}(c:a<256)(b:Nat):a &&&b<256:=Nat.lt_of_le_of_lt Nat.and_le_left c
theorem sI (a:Nat){b:Nat}(c:b<256):a &&&b<256:=Nat.lt_of_le_of_lt Nat.and_le_right c
theorem Cl {a:Nat}(b:a<256):a=0↔∀ i,i<8→a.testBit i=false:=by
 constructor
 ·rintro rfl i _;simp
 ·intro h;exact Gy b (by decide) fun i hi=>by rw[h i hi];simp
theorem Gz {m v:Nat}(hm:m<256)(a:v<256):v &&&(255 - m)=0↔v &&&m=v:=by
 rw[Cl (dh a _)];constructor
 ·intro h;refine Gy (dh a _) a fun i hi=>?_;have:=h i hi;rw[Nat.testBit_and,iE hm] at this;rw[Nat.testBit_and];simp[hi] at this
  cases hvi:v.testBit i <;> simp_all
 ·intro h i hi;have:=congrArg (·.testBit i) h;simp only[Nat.testBit_and] at this;rw[Nat.testBit_and,iE hm]
  cases hvi:v.testBit i <;> simp_all
theorem DQ {m:Nat}(hm:m<256)(f:Nat→Bool)(h:∀ i,i<8→f i=m.testBit i):mkSet f 8=m:=by
 refine Gy (fa f 8) hm fun i hi=>?_;rw[bW];simp[hi,h i hi]
theorem rF {f g:Nat→Bool}{k:Nat}(h:∀ i,i<k→f i=g i):mkSet f k=mkSet g k:=by
 induction k with
 | zero=>rfl
 | succ k ih=>rw[mkSet,mkSet,ih fun i hi=>h i (by omega),h k (by omega)]
theorem uS (f:Nat→Bool){k:Nat}(a:k≤8):mkSet f k<256:=Nat.lt_of_lt_of_le (fa f k) (show 2^k≤2^8 from Nat.pow_le_pow_right (by decide) a)
theorem sJ {m n:Nat}(hm:m<256)(h:∀ i,n≤i→i<8→m.testBit i=false):m<2^n:=by
 refine Nat.lt_pow_two_of_testBit m fun i hi=>?_;by_cases a:i<8
 ·exact h i hi a
 ·exact eg hm (by omega)
theorem cC {m n i:Nat}(h:m<2^n)(hi:n≤i):m.testBit i=false:=
 Nat.testBit_lt_two_pow (Nat.lt_of_lt_of_le h (Nat.pow_le_pow_right (by decide) hi))
def nb (m v i:Nat):Nat:=if m.testBit i then (if v.testBit i then 1 else 0) else 2
def mD (m v k:Nat):List Nat:=(List.range k).map (nb m v)
abbrev lits (m v:Nat):List Nat:=mD m v 8
theorem jC (m v k:Nat):(mD m v k).length=k:=by simp[mD]
theorem xH (m v k:Nat):mD m v (k+1)=mD m v k++[nb m v k]:=by simp[mD,List.range_succ]
theorem xI {m v i:Nat}(hi:i<8):(lits m v)[i]?=some (nb m v i):=by simp[mD,hi]
theorem GA (m v i:Nat):nb m v i≤2:=by unfold nb;split <;> (try split) <;> omega
theorem pO {m v i:Nat}:nb m v i=2↔m.testBit i=false:=by unfold nb;cases m.testBit i <;> simp;split <;> omega
def xJ (l:List Nat):Nat:=mkSet (fun i=>decide (l.getD i 2<2)) l.length
def xL (l:List Nat):Nat:=mkSet (fun i=>decide (l.getD i 2=1)) l.length
theorem zx {m:Nat}(hm:m<256)(v:Nat):xJ (lits m v)=m:=by
 unfold xJ;rw[jC];refine DQ hm _ fun i hi=>?_;rw[List.getD_eq_getElem?_getD,xI hi];unfold nb
 cases m.testBit i <;> cases v.testBit i <;> simp
theorem zy {m v:Nat}(hm:m<256)(a:v<256):xL (lits m v)=v &&&m:=by
 unfold xL;rw[jC];refine DQ (dh a _) _ fun i hi=>?_;rw[List.getD_eq_getElem?_getD,xI hi,Nat.testBit_and];unfold nb
 cases m.testBit i <;> cases v.testBit i <;> simp
def dJ (m v:Nat)(n:Int):Bool:=decide (0≤n)&&(decide (n≤8)&&(decide (m<2^n.toNat)&&(v &&&(255 - m)==0)))
theorem ep {m v:Nat}{n:Int}(hm:m<256)(a:v<256):dJ m v n=true↔0≤n∧n≤8∧m<2^n.toNat∧v &&&m=v:=by
 unfold dJ;simp only[Bool.and_eq_true,decide_eq_true_eq,beq_iff_eq,Gz hm a]
def bd (m v n:Nat):Nat:=rE fun p=>decide (p<2^n)&&(p &&&m==v)
theorem pP (m v n:Nat):bd m v n<2^256:=dp _
theorem DR (m v:Nat){n:Nat}(b:n≤8):bd m v n=fW ((List.range (2^n)).filter fun p=>p &&&m==v):=by
 have c:2^n≤2^8:=Nat.pow_le_pow_right (by decide) b;refine n_ (dp _) (pN (fun p a=>by have:=List.mem_range.1 (List.mem_filter.1 a).1;omega)) fun p a=>?_;rw[fH,bd,bO,Bool.eq_iff_iff];simp[a]
def uJ (m v p:Nat):Bool:=(List.range 8).all fun i=> !m.testBit i||(v.testBit i==p.testBit i)
theorem Br {m v p:Nat}(hm:m<256)(a:v &&&m=v):uJ m v p=(p &&&m==v):=by
 rw[Bool.eq_iff_iff,uJ,List.all_eq_true,beq_iff_eq];have b:v<256:=by rw[← a];exact sI v hm
 constructor
 ·intro h;rw[← a];refine Gy (sI p hm) (sI v hm) fun i hi=>?_;have:=h i (List.mem_range.2 hi);rw[Nat.testBit_and,Nat.testBit_and]
  cases hmi:m.testBit i <;> simp_all
 ·intro h i hi;have:=congrArg (·.testBit i) h;rw[Nat.testBit_and] at this
  cases hmi:m.testBit i <;> simp_all
def zz (m v i:Nat):UInt8:=if m.testBit i then (if v.testBit i then 49 else 48) else 45
def dK (m v n:Nat):List UInt8:=(List.range n).map (zz m v)
theorem iF (m v n:Nat):(dK m v n).length=n:=by simp[dK]
theorem zA (m v n:Nat):dK m v (n+1)=dK m v n++[zz m v n]:=by simp[dK,List.range_succ]
def fw (b:UInt8):Bool:=b==45||b==48||b==49
def dA (l:List UInt8)(k:Nat):Nat:=mkSet (fun i=>l.getD i 45 !=45) k
def dB (l:List UInt8)(k:Nat):Nat:=mkSet (fun i=>l.getD i 45==49) k
def bk (l:List UInt8):Bool:=decide (l.length≤8)&&l.all fw
theorem zB {m v n:Nat}(hm:m<2^n)(c:v &&&m=v)(d:n≤8) :
  bk (dK m v n)=true∧dA (dK m v n) n=m∧dB (dK m v n) n=v:=by
 have g:2^n≤2^8:=Nat.pow_le_pow_right (by decide) d;have a:v<2^n:=by rw[← c];exact Nat.lt_of_le_of_lt Nat.and_le_right hm
 have e:∀ i,i<n→(dK m v n).getD i 45=zz m v i:=fun i hi=>by simp[dK,hi]
 refine ⟨?_,?_,?_⟩
 ·unfold bk;rw[iF];simp only[Bool.and_eq_true,decide_eq_true_eq,List.all_eq_true];refine ⟨d,fun b f=>?_⟩;obtain ⟨i,_,rfl⟩:=List.mem_map.1 f;unfold fw zz
  cases m.testBit i <;> cases v.testBit i <;> rfl
 ·apply Nat.eq_of_testBit_eq;intro i;rw[dA,bW];by_cases hi:i<n
  ·rw[e i hi];unfold zz
   cases m.testBit i <;> cases v.testBit i <;> simp[hi]
  ·simp[hi,cC hm (Nat.le_of_not_lt hi)]
 ·apply Nat.eq_of_testBit_eq;intro i;rw[dB,bW];by_cases hi:i<n
  ·rw[e i hi];unfold zz;have:=congrArg (·.testBit i) c;simp only[Nat.testBit_and] at this
   cases hmi:m.testBit i <;> cases hvi:v.testBit i <;> simp_all
  ·simp[hi,cC a (Nat.le_of_not_lt hi)]
theorem ji {m v:Nat}(b:v &&&m=v)(p:Nat):p &&&m=v↔∀ i,m.testBit i=true→p.testBit i=v.testBit i:=by
 constructor
 ·intro h i hi;have:=congrArg (·.testBit i) h;simp only[Nat.testBit_and,hi,Bool.and_true] at this;exact this
 ·intro h;apply Nat.eq_of_testBit_eq;intro i;have a:=congrArg (·.testBit i) b;simp only[Nat.testBit_and] at a;rw[Nat.testBit_and]
  cases hm:m.testBit i
  ·rw[hm] at a;simpa using a
  ·simp[h i hm]
theorem bD {m v n p:Nat}(a:n≤8):(bd m v n).testBit p=true↔p<2^n∧p &&&m=v:=by
 have b:2^n≤2^8:=Nat.pow_le_pow_right (by decide) a;rw[bd,bO];simp;intro h _;omega
theorem I1 {m n i:Nat}(hm:m<2^n)(hi:m.testBit i=true):i<n:=by
 rcases Nat.lt_or_ge i n with h | h
 ·exact h
 ·rw[cC hm h] at hi;cases hi
theorem sub_lt {m v n:Nat}(hm:m<2^n)(a:v &&&m=v):v<2^n:=by rw[← a];exact Nat.lt_of_le_of_lt Nat.and_le_right hm
theorem iw {a:Nat}:a=0↔∀ i,a.testBit i=false:=by
 constructor
 ·rintro rfl i;simp
 ·intro h;exact Nat.eq_of_testBit_eq fun i=>by rw[h i];simp
abbrev a7:=List (List Int)
def oS (r:List Int):Prop:=r.Pairwise (· < ·)
instance (r:List Int):Decidable (oS r):=inferInstanceAs (Decidable (r.Pairwise (· < ·)))
structure er (cols:Int) (R:a7):Prop where
 rise:∀ r ∈ R,oS r
 rng:∀ r ∈ R,∀ k ∈ r,0≤k∧k<cols
 ge:0≤cols
 le:cols≤4000
theorem oS.nodup {r:List Int}(h:oS r):r.Nodup:=h.imp fun h=>by omega
def iG (a b:List Int):Bool:=a.all fun k=>decide (k ∈ b)
theorem jJ {a b:List Int}:iG a b=true↔∀ k ∈ a,k ∈ b:=by simp[iG]
def lQ (R:a7):Option (a7 × Int):=(R.find? fun r=>r.length==1).map fun r=>(R.filter fun q=> !decide (r.headD 0 ∈ q),r.headD 0)
def qN (R:a7)(i j:Nat):Bool:=(j !=i)&&iG (R.getD j []) (R.getD i [])&&(decide ((R.getD j []).length<(R.getD i []).length)||decide (j<i))
def xM (R:a7):Option Nat:=(List.range R.length).find? fun i=>(List.range R.length).any (qN R i)
def lR (R:a7):Option a7:=(xM R).map R.eraseIdx
def bu (R:a7)(c:Int):List Int:=((List.range R.length).filter fun i=>decide (c ∈ R.getD i [])).map (fun i:Nat=>(i:Int))
def xN (R:a7)(c d:Int):Bool:=(d !=c)&&iG (bu R c) (bu R d)&&(decide ((bu R c).length<(bu R d).length)||decide (d<c))
def xO (cols:Nat)(R:a7):Option Nat:=(List.range cols).find? fun c=> !(bu R c).isEmpty&&(List.range cols).any fun d=>xN R c d
def bn (R:a7)(c:Int):a7:=R.map fun r=>r.filter fun k=>k !=c
def jK (cols:Nat)(R:a7):Option a7:=(xO cols R).map fun c=>bn R c
theorem mE:∀ {a b:List Int},a.Nodup→(∀ k ∈ a,k ∈ b)→a.length≤b.length
 | [],b,_,_=>Nat.zero_le _
 | k::a,b,ha,h=>by
  obtain ⟨i,c⟩:=List.nodup_cons.1 ha;have f:k ∈ b:=h k (.head _);have d:=mE (b:=b.erase k) c fun x g=>(List.mem_erase_of_ne (fun (e:x=k)=>i (by rw[← e];exact g))).2 (h x (.tail _ g));rw[List.length_erase_of_mem f] at d;have:=List.length_pos_of_mem f;simp only[List.length_cons];omega
def dj (cols:Nat)(s:a7 × List Int):Option (a7 × List Int):=
 match lQ s.1 with
 | some (R,k)=>some (R,s.2++[k])
 | none=>
  match lR s.1 with
  | some R=>some (R,s.2)
  | none=>(jK cols s.1).map fun R=>(R,s.2)
def cr (cols:Nat)(s:a7 × List Int):Nat→a7 × List Int
 | 0=>s
 | n+1=>(dj cols (cr cols s n)).getD (cr cols s n)
theorem run_stuck {cols:Nat}{s:a7 × List Int}{i:Nat}(h:dj cols (cr cols s i)=none):∀ j,i≤j→cr cols s j=cr cols s i:=by
 intro j b
 induction j with
 | zero=>
  obtain rfl:i=0:=by omega
  rfl
 | succ j ih=>
  by_cases a:i≤j
  ·show (dj cols (cr cols s j)).getD (cr cols s j)=_;rw[ih a,h];rfl
  ·obtain rfl:i=j+1:=by omega
   rfl
theorem zC {cols:Nat}{s:a7 × List Int}{i j:Nat}(hi:dj cols (cr cols s i)=none)(a:dj cols (cr cols s j)=none):cr cols s i=cr cols s j:=by
 rcases Nat.le_total i j with h | h
 ·exact (run_stuck hi j h).symm
 ·exact run_stuck a i h
def eu (R:a7):Nat:=R.length+(R.map List.length).sum
theorem eJ (r:List Int)(R:a7):eu (r::R)=1+r.length+eu R:=by
 unfold eu;simp;omega
theorem xP (R:a7)(p:List Int→Bool):eu (R.filter p)≤eu R:=by
 induction R with
 | nil=>simp
 | cons r R ih=>
  rw[List.filter_cons];split
  ·rw[eJ,eJ];omega
  ·rw[eJ];omega
theorem sK {R:a7}{p:List Int→Bool}{r:List Int}(a:r ∈ R)(b:p r=false):eu (R.filter p)<eu R:=by
 induction R with
 | nil=>cases a
 | cons q R ih=>
  rw[List.filter_cons,eJ];rcases List.mem_cons.1 a with rfl | a
  ·rw[b];simp only[Bool.false_eq_true,if_false];have:=xP R p;omega
  ·have:=ih a;split
   ·rw[eJ];omega
   ·omega
theorem zD {R:a7}{i:Nat}(h:i<R.length):eu (R.eraseIdx i)<eu R:=by
 induction R generalizing i with
 | nil=>simp at h
 | cons r R ih=>
  cases i with
  | zero=>rw[List.eraseIdx_cons_zero,eJ];omega
  | succ i=>rw[List.eraseIdx_cons_succ,eJ,eJ];have:=ih (i:=i) (by simpa using h);omega
theorem Cm (R:a7)(c:Int):eu (bn R c)≤eu R:=by
 induction R with
 | nil=>simp[bn]
 | cons r R ih=>
  have:bn (r::R) c=(r.filter fun k=>k !=c)::bn R c:=rfl;rw[this,eJ,eJ];have:=List.length_filter_le (fun k=>k !=c) r;omega
theorem vT {R:a7}{c:Int}{r:List Int}(a:r ∈ R)(b:c ∈ r):eu (bn R c)<eu R:=by
 induction R with
 | nil=>cases a
 | cons q R ih=>
  have:bn (q::R) c=(q.filter fun k=>k !=c)::bn R c:=rfl;rw[this,eJ,eJ];rcases List.mem_cons.1 a with rfl | a
  ·have d:(r.filter fun k=>k !=c).length<r.length:=by
    rw[List.length_filter_lt_length_iff_exists];exact ⟨c,b,by simp⟩
   have:=Cm R c;omega
  ·have:=ih a;have:=List.length_filter_le (fun k=>k !=c) q;omega
theorem lS {R a:a7}{k:Int}(h:lQ R=some (a,k)):[k] ∈ R∧a=R.filter fun q=> !decide (k ∈ q):=by
 unfold lQ at h
 cases hf:R.find? fun r=>r.length==1 with
 | none=>rw[hf] at h;cases h
 | some r=>
  rw[hf] at h;injection h with h;injection h with b c;have d:=List.find?_some hf;have hm:=List.mem_of_find?_eq_some hf
  match r,d with
  | [x],_=>
   have:x=k:=c;subst this;exact ⟨hm,b.symm⟩
theorem lT {R b:a7}(h:lR R=some b):∃ i j,i<R.length∧j<R.length∧j≠i∧(∀ k ∈ R.getD j [],k ∈ R.getD i [])∧b=R.eraseIdx i:=by
 unfold lR at h
 cases hf:xM R with
 | none=>rw[hf] at h;cases h
 | some i=>
  rw[hf] at h;injection h with h;unfold xM at hf;have c:=List.find?_some hf;have d:=List.mem_of_find?_eq_some hf;obtain ⟨j,e,a⟩:=List.any_eq_true.1 c;unfold qN at a;simp only[Bool.and_eq_true,bne_iff_ne] at a;exact ⟨i,j,List.mem_range.1 d,List.mem_range.1 e,a.1.1,jJ.1 a.1.2,h.symm⟩
theorem kp {R:a7}{c i:Int}:i ∈ bu R c↔∃ n:Nat,n<R.length∧i=n∧c ∈ R.getD n []:=by
 unfold bu;simp only[List.mem_map,List.mem_filter,List.mem_range,decide_eq_true_eq];constructor
 ·rintro ⟨n,⟨a,b⟩,rfl⟩;exact ⟨n,a,rfl,b⟩
 ·rintro ⟨n,a,rfl,b⟩;exact ⟨n,⟨a,b⟩,rfl⟩
theorem lU {cols:Nat}{R o:a7}(h:jK cols R=some o):∃ c d:Nat,c<cols∧d<cols∧d≠c∧(∃ r ∈ R,(c:Int) ∈ r)∧(∀ r ∈ R,(c:Int) ∈ r→(d:Int) ∈ r)∧o=bn R c:=by
 unfold jK at h
 cases hf:xO cols R with
 | none=>rw[hf] at h;cases h
 | some c=>
  rw[hf] at h;injection h with h;unfold xO at hf;have p:=List.find?_some hf;have q:=List.mem_of_find?_eq_some hf;simp only[Bool.and_eq_true,Bool.not_eq_true'] at p;obtain ⟨b,f⟩:=p;obtain ⟨d,s,a⟩:=List.any_eq_true.1 f;unfold xN at a;simp only[Bool.and_eq_true,bne_iff_ne] at a;refine ⟨c,d,List.mem_range.1 q,List.mem_range.1 s,fun e=>a.1.1 (by rw[e]),?_,?_,h.symm⟩
  ·cases hw:bu R (c:Int) with
   | nil=>rw[hw] at b;cases b
   | cons i l=>
    obtain ⟨n,g,_,k⟩:=kp.1 (show i ∈ bu R (c:Int) by rw[hw];exact .head _);rw[List.getD_eq_getElem?_getD,List.getElem?_eq_getElem g] at k;exact ⟨_,List.getElem_mem g,k⟩
  ·intro r t k;obtain ⟨n,g,rfl⟩:=List.getElem_of_mem t;have e:R.getD n []=R[n]:=by rw[List.getD_eq_getElem?_getD,List.getElem?_eq_getElem g];rfl
   have:=jJ.1 a.1.2 (n:Int) (kp.2 ⟨n,g,rfl,by rw[e];exact k⟩);obtain ⟨m,hm,u,j⟩:=kp.1 this;obtain rfl:m=n:=by omega
   rw[e] at j;exact j
theorem oa {cols:Nat}{s e:a7 × List Int}(h:dj cols s=some e):eu e.1<eu s.1:=by
 unfold dj at h;split at h
 ·rename_i R k f;injection h with h;subst h;obtain ⟨g,rfl⟩:=lS f;exact sK g (by simp)
 ·split at h
  ·rename_i R a;injection h with h;subst h;obtain ⟨i,j,hi,_,_,_,rfl⟩:=lT a;exact zD hi
  ·cases hc:jK cols s.1 with
   | none=>rw[hc] at h;cases h
   | some R=>
    rw[hc] at h;injection h with h;subst h;obtain ⟨c,d,_,_,_,⟨r,a,b⟩,_,rfl⟩:=lU hc;exact vT a b
def aJ (R:a7)(S:List Int):Prop:=∀ r ∈ R,∃ k ∈ r,k ∈ S
structure dC (cols:Nat) (S:List Int):Prop where
 nodup:S.Nodup
 rng:∀ k ∈ S,0≤k∧k<cols
def eX (cols:Nat)(R:a7)(b:Int):Prop:=
 (b= -1∧∀ S,dC cols S→¬ aJ R S)∨∃ S,dC cols S∧aJ R S∧b=(S.length:Int)∧∀ a,dC cols a→aJ R a→S.length≤a.length
theorem uT {cols:Nat}{R f:a7}(g:∀ S,dC cols S→aJ R S→∃ a,dC cols a∧aJ f a∧a.length≤S.length)(l:∀ S,dC cols S→aJ f S→∃ a,dC cols a∧aJ R a∧a.length≤S.length){b:Int}(m:eX cols f b):eX cols R b:=by
 rcases m with ⟨rfl,n⟩ | ⟨S,h,hs,rfl,hm⟩
 ·refine .inl ⟨rfl,fun S h hs=>?_⟩;obtain ⟨a,c,d,_⟩:=g S h hs;exact n a c d
 ·obtain ⟨T,j,k,p⟩:=l S h hs;have o:S.length≤T.length:=by
   obtain ⟨U,i,hu,e⟩:=g T j k;exact Nat.le_trans (hm U i hu) e
  refine .inr ⟨T,j,k,by omega,fun a c d=>?_⟩;obtain ⟨U,i,hu,e⟩:=g a c d;have:=hm U i hu;omega
theorem j8 {cols:Nat}{S:List Int}(h:dC cols S)(k:Int):dC cols (S.erase k):=
 ⟨h.nodup.erase k,fun x a=>h.rng x (List.mem_of_mem_erase a)⟩
theorem Cn {cols:Nat}{R t:a7}{k:Int}(u:0≤k∧k<cols)(h:lQ R=some (t,k)){b:Int}(v:eX cols t b):eX cols R (if b<0 then -1 else b+1):=by
 obtain ⟨l,rfl⟩:=lS h;have m:∀ r ∈ R.filter (fun q=> !decide (k ∈ q)),k ∉ r:=fun r f=>by have:=(List.mem_filter.1 f).2;simpa using this
 have down:∀ S,dC cols S→aJ R S→k ∈ S∧aJ (R.filter fun q=> !decide (k ∈ q)) (S.erase k):=fun S d hs=>by
  obtain ⟨x,n,s⟩:=hs _ l;obtain rfl:x=k:=by simpa using n
  refine ⟨s,fun r f=>?_⟩;obtain ⟨y,g,a⟩:=hs r (List.mem_filter.1 f).1;exact ⟨y,g,(List.mem_erase_of_ne (fun (e:y=x)=>m r f (by rw[← e];exact g))).2 a⟩
 have up:∀ S,dC cols S→aJ (R.filter fun q=> !decide (k ∈ q)) S→dC cols (k::S.erase k)∧aJ R (k::S.erase k):=fun S d hs=>by
  refine ⟨⟨List.nodup_cons.2 ⟨d.nodup.not_mem_erase,d.nodup.erase k⟩,fun x n=>?_⟩,fun r f=>?_⟩
  ·rcases List.mem_cons.1 n with rfl | n
   ·exact u
   ·exact d.rng x (List.mem_of_mem_erase n)
  ·by_cases i:k ∈ r
   ·exact ⟨k,i,.head _⟩
   ·obtain ⟨y,g,a⟩:=hs r (List.mem_filter.2 ⟨f,by simp[i]⟩);exact ⟨y,g,.tail _ ((List.mem_erase_of_ne (fun (e:y=k)=>i (by rw[← e];exact g))).2 a)⟩
 rcases v with ⟨rfl,w⟩ | ⟨S,d,hs,rfl,hm⟩
 ·rw[if_pos (by decide)];exact .inl ⟨rfl,fun S d hs=>w _ (j8 d k) (down S d hs).2⟩
 ·rw[if_neg (by omega)];obtain ⟨z,A⟩:=up S d hs;have o:k ∉ S:=fun c=>by
   have j:aJ (R.filter fun q=> !decide (k ∈ q)) (S.erase k):=fun r f=>by
    obtain ⟨y,g,a⟩:=hs r f;exact ⟨y,g,(List.mem_erase_of_ne (fun (e:y=k)=>m r f (by rw[← e];exact g))).2 a⟩
   have:=hm _ (j8 d k) j;rw[List.length_erase_of_mem c] at this;have:=List.length_pos_of_mem c;omega
  refine .inr ⟨k::S.erase k,z,A,by rw[List.erase_of_not_mem o];simp,fun B p j=>?_⟩;obtain ⟨c,C⟩:=down B p j;have:=hm _ (j8 p k) C;rw[List.length_erase_of_mem c] at this;have:=List.length_pos_of_mem c;rw[List.erase_of_not_mem o];simp only[List.length_cons];omega
theorem Co {cols:Nat}{R o:a7}(h:lR R=some o){b:Int}(p:eX cols o b):eX cols R b:=by
 obtain ⟨i,j,hi,q,f,c,rfl⟩:=lT h;refine uT (fun S g hs=>⟨S,g,fun r l=>hs r (List.mem_of_mem_eraseIdx l),Nat.le_refl _⟩) (fun S g hs=>⟨S,g,fun r l=>?_,Nat.le_refl _⟩) p;have key:∀ n,n<R.length→n≠i→R.getD n [] ∈ R.eraseIdx i:=fun n d a=>by
  rw[List.mem_eraseIdx_iff_getElem?];exact ⟨n,a,by rw[List.getElem?_eq_getElem d,List.getD_eq_getElem?_getD,List.getElem?_eq_getElem d];rfl⟩
 obtain ⟨n,d,rfl⟩:=List.getElem_of_mem l;have e:R.getD n []=R[n]:=by rw[List.getD_eq_getElem?_getD,List.getElem?_eq_getElem d];rfl
 by_cases a:n=i
 ·subst a;obtain ⟨k,s,m⟩:=hs _ (key j q f);exact ⟨k,by rw[← e];exact c k s,m⟩
 ·have:=hs _ (key n d a);rw[e] at this;exact this
theorem Cp {cols:Nat}{R v:a7}(h:jK cols R=some v){b:Int}(w:eX cols v b):eX cols R b:=by
 obtain ⟨c,d,z,A,y,_,l,rfl⟩:=lU h;have m:(d:Int)≠c:=by omega
 refine uT (fun S j hs=>?_) (fun S j hs=>⟨S,j,fun r n=>?_,Nat.le_refl _⟩) w
 ·by_cases f:(c:Int) ∈ S
  ·refine ⟨(d:Int)::(S.erase c).erase d,⟨List.nodup_cons.2 ⟨(j.nodup.erase _).not_mem_erase,(j.nodup.erase _).erase _⟩,fun x s=>?_⟩,fun r n=>?_,?_⟩
   ·rcases List.mem_cons.1 s with rfl | s
    ·omega
    ·exact j.rng x (List.mem_of_mem_erase (List.mem_of_mem_erase s))
   ·obtain ⟨q,p,rfl⟩:=List.mem_map.1 n;obtain ⟨k,g,a⟩:=hs q p;by_cases i:(d:Int) ∈ q
    ·exact ⟨d,List.mem_filter.2 ⟨i,by simpa using m⟩,.head _⟩
    ·have t:(c:Int) ∉ q:=fun h=>i (l q p h);have o:k≠c:=fun e=>t (by rw[← e];exact g);have u:k≠d:=fun e=>i (by rw[← e];exact g);exact ⟨k,List.mem_filter.2 ⟨g,by simpa using o⟩,.tail _ ((List.mem_erase_of_ne u).2 ((List.mem_erase_of_ne o).2 a))⟩
   ·have B:=List.length_erase_of_mem f;have C:=List.length_pos_of_mem f;have D:((S.erase (c:Int)).erase (d:Int)).length≤(S.erase (c:Int)).length:=List.length_erase_le;simp only[List.length_cons];omega
  ·refine ⟨S,j,fun r n=>?_,Nat.le_refl _⟩;obtain ⟨q,p,rfl⟩:=List.mem_map.1 n;obtain ⟨k,g,a⟩:=hs q p;exact ⟨k,List.mem_filter.2 ⟨g,by simpa using fun e:k=c=>f (by rw[← e];exact a)⟩,a⟩
 ·obtain ⟨k,g,a⟩:=hs _ (List.mem_map.2 ⟨r,n,rfl⟩);exact ⟨k,(List.mem_filter.1 g).1,a⟩
abbrev Fr:=Nat→Value
def NL (N:Nat)(f:Fr)(d:Nat)(v:Value):Fr:=fun t=>bif (Nat.beq t d&&Nat.blt d N) then v else f t
def dv (N:Nat)(f:Fr)(d:Option Nat)(v:Value):Fr:=match d with | some d=>NL N f d v | none=>f
def ev (f:Fr):Operand→Value
 | .tmp t=>f t
 | .const v=>v
 | .global g=>.pointer (some ⟨g,0,none⟩)
 | .func k=>.func (.func k) #[] #[]
structure R (N:Nat) (a:Act) (f:Fr):Prop where
 defers:a.defers=[]
 size:a.tmps.size=N
 get:∀ t,a.tmps.getD t undef=f t
theorem R.eval {N:Nat}{a:Act}{f:Fr}(h:R N a f):a.eval=ev f:=by
 funext x;cases x <;> simp[Act.eval,ev,h.get]
theorem R.put {N:Nat}{a:Act}{f:Fr}(h:R N a f)(d:Option Nat)(v:Value):R N (a.put d v) (dv N f d v):=by
 cases d with
 | none=>exact h
 | some d=>
  refine ⟨h.defers,by simp[Act.put,h.size],fun t=>?_⟩;have j:=h.get t;simp only[Act.put,dv,NL];by_cases c:d<N
  ·have e:Nat.blt d N=true:=by simp[Nat.blt_eq,c]
   by_cases g:t=d
   ·subst g;simp[Array.getD,h.size,c,e]
   ·have:Nat.beq t d=false:=by
     rw[Bool.eq_false_iff];intro b;exact g (Nat.eq_of_beq_eq_true b)
    simp only[this,Bool.false_and,cond_false,← j];by_cases hs:t<a.tmps.size
    ·simp[Array.getD,hs,Ne.symm g]
    ·simp[Array.getD,hs]
  ·have e:Nat.blt d N=false:=by
    rw[Bool.eq_false_iff];intro b;rw[Nat.blt_eq] at b;exact c b
   have i:a.tmps.setIfInBounds d v=a.tmps:=by
    apply Array.setIfInBounds_eq_of_size_le;rw[h.size];omega
   simp[e,i,j]
def enters (P:Program)(g:FuncId):Bool:=
 match P.funcs[g]? with
 | some fn => !(fn.name == "runtime.NumGoroutine") && fn.body.isSome
 | none=>false
theorem vU {P:Program}{g:FuncId}(h:enters P g=true)(args:Array Value)(w:World) :
  (callFunc g args).run P w=.ok (.enter g args) w:=by
 unfold enters at h
 cases hf:P.funcs[g]? with
 | none=>simp[hf] at h
 | some fn=>
  simp[hf] at h;have b:fn.body.isNone=false:=by
   cases hbb:fn.body <;> simp_all
  have a:fn.body≠none:=by intro c;rw[c] at b;cases b
  simp[callFunc,program,hf,h.1,a,Sem.run]
def bw (P:Program)(g:FuncId)(args:List Value)(w:World)(post:Value→World→Prop):Prop:=
 enters P g=true∧Calls P g args.toArray w fun e w'=>∃ v,e=.returned v∧post v w'
theorem bw.mono {P:Program}{g:FuncId}{args:List Value}{w:World}{p q:Value→World→Prop}(h:bw P g args w p)(a:∀ v w',p v w'→q v w'):bw P g args w q:=
 ⟨h.1,h.2.mono fun _ _ ⟨v,he,b⟩=>⟨v,he,a _ _ b⟩⟩
def jL (P:Program)(a:Value)(args:List Value)(w:World)(k:Value→World→Prop):Prop:=
 match a with
 | .func (.func g) first cap=>bw P g (first.toList++args++cap.toList) w k
 | _=>False
def kG (P:Program)(s:Sem Value)(w:World)(k:Value→World→Prop):Prop:=
 ∃ v w',s.run P w=.ok v w'∧k v w'
def DS (P:Program)(s:Sem Unit)(w:World)(k:Value→World→Prop):Prop:=
 ∃ w',s.run P w=.ok () w'∧k undef w'
def vV (P:Program)(t:TypeId)(w:World)(k:Value→World→Prop):Prop:=kG P (Instr.alloc t true (.tuple #[])) w k
def GB (P:Program)(t:TypeId)(v:Value)(w:World)(k:Value→World→Prop):Prop:=kG P (Instr.box t v) w k
def b8 (P:Program)(t:TypeId)(parts:List (Nat × Value))(w:World)(k:Value→World→Prop):Prop:=kG P (Instr.build t parts.toArray) w k
def gq (P:Program)(t:TypeId)(n:Nat)(parts:List (Nat × Value))(w:World)(k:Value→World→Prop):Prop:=kG P (Instr.buildSlice t n parts.toArray) w k
def fb (P:Program)(t:TypeId)(a:Value)(w:World)(k:Value→World→Prop):Prop:=kG P (Instr.loadAt t a) w k
def im (P:Program)(t:TypeId)(a v:Value)(w:World)(k:Value→World→Prop):Prop:=DS P (Instr.storeAt t a v) w k
def Lu (P:Program)(a:Operand→Value)(x:Operand)(w:World)(k:Value→World→Prop):Prop:=∃ v,(∀ dst ty pos after guard,(execOp a { dst,op:=.nilCheck x,type:=ty,pos,after,guard }).run P w=.ok (.value v) w)∧k v w
def cW (P:Program)(op:BinOp)(t:TypeId)(xo yo:Operand)(x y:Value)(w:World)(k:Value→World→Prop):Prop:=kG P (do eqGuard op t xo yo x y;binOp op t x y) w k
def OJ (P:Program)(op:UnOp)(x:Value)(w:World)(k:Value→World→Prop):Prop:=kG P (Op.unary op x) w k
def pQ (P:Program)(s d:TypeId)(x:Value)(w:World)(k:Value→World→Prop):Prop:=kG P (convert s d x) w k
def np (P:Program)(t:TypeId)(r:Option Value)(w:World)(k:Value→World→Prop):Prop:=kG P (Instr.makeMap t r) w k
def mF (P:Program)(t:TypeId)(l c:Value)(w:World)(k:Value→World→Prop):Prop:=kG P (Instr.makeSlice t l c) w k
def cw (P:Program)(fn:Fn)(first cap:List Value)(w:World)(k:Value→World→Prop):Prop:=kG P (Instr.makeFunc fn first.toArray cap.toArray) w k
def eY (P:Program)(t:TypeId)(x:Value)(lo hi a:Option Value)(w:World)(k:Value→World→Prop):Prop:=kG P (Instr.sliceAt t x lo hi a) w k
def mG (P:Program)(t:TypeId)(x:Value)(i:Nat)(w:World)(k:Value→World→Prop):Prop:=kG P (Instr.fieldAt t x i) w k
def DT (P:Program)(t:TypeId)(x:Value)(i:Nat)(w:World)(k:Value→World→Prop):Prop:=kG P (Instr.field t x i) w k
def lV (P:Program)(t:TypeId)(x i:Value)(w:World)(k:Value→World→Prop):Prop:=kG P (Instr.indexAt t x i) w k
def sL (P:Program)(t:TypeId)(x i:Value)(w:World)(k:Value→World→Prop):Prop:=kG P (Instr.index t x i) w k
def gL (P:Program)(t:TypeId)(m i:Value)(ok:Bool)(w:World)(k:Value→World→Prop):Prop:=kG P (Instr.lookup t m i ok) w k
def od (P:Program)(t:TypeId)(m i x:Value)(w:World)(k:Value→World→Prop):Prop:=DS P (Instr.mapUpdate t m i x) w k
def oe (P:Program)(t:TypeId)(m i:Value)(w:World)(k:Value→World→Prop):Prop:=kG P (Instr.mapEntry t m i) w k
def lf (P:Program)(t:TypeId)(m i x:Value)(w:World)(k:Value→World→Prop):Prop:=DS P (Instr.entryStore t m i x) w k
def qO (P:Program)(t:TypeId)(x:Value)(w:World)(k:Value→World→Prop):Prop:=kG P (Instr.range t x) w k
def uU (P:Program)(it:Value)(s:Bool)(t:TypeId)(w:World)(k:Value→World→Prop):Prop:=kG P (Instr.next it s t) w k
def vW (P:Program)(it:Value)(w:World)(k:Value→World→Prop):Prop:=kG P (Instr.entry it) w k
def bV (P:Program)(b:Builtin)(a:Array TypeId)(t:TypeId)(consts:Array Bool)(args:List Value)(w:World)(k:Value→World→Prop):Prop:=
 ∃ v w',(builtin b a t consts args.toArray).run P w=.ok (.value v) w'∧k v w'
inductive gU (b:Bool) (p q:Prop):Prop
 | yes (hb:b=true) (hp:p):gU b p q
 | no (hb:b=false) (hq:q):gU b p q
theorem dY (b:Bool)(p q:Prop):gU b p q=if b then p else q:=by
 apply propext;constructor
 ·intro h
  cases h with
  | yes hb hp=>rw[hb];exact hp
  | no hb hq=>rw[hb];exact hq
 ·intro h
  cases b
  ·exact .no rfl h
  ·exact .yes rfl h
def I3 (op:BinOp)(k:IntKind)(a b:Int):Option Value:=
 match op with
 | .add=>some (.int k (k.wrap (a+b)))
 | .sub=>some (.int k (k.wrap (a - b)))
 | .mul=>some (.int k (k.wrap (a*b)))
 | .eql=>some (.bool (a==b))
 | .neq=>some (.bool (a !=b))
 | .lss=>some (.bool (a<b))
 | .leq=>some (.bool (a≤b))
 | .gtr=>some (.bool (a>b))
 | .geq=>some (.bool (a≥b))
 | _=>none
def sameKind:IntKind→IntKind→Bool
 | .i64,.i64 | .u64,.u64 | .u8,.u8 | .i32,.i32 | .u32,.u32 | .i8,.i8 | .i16,.i16 | .u16,.u16=>true
 | _,_=>false
theorem xQ {a b:IntKind}(h:sameKind a b=true):a=b:=by cases a <;> cases b <;> first | rfl | cases h
def I4 (op:BinOp)(x y:Value):Option Value:=
 match x,y with
 | .int k a,.int k' b=>bif sameKind k k' then I3 op k a b else none
 | _,_=>none
def force (v:Value)(k:Value→Prop):Prop:=
 match v with
 | .bool b=>k (.bool b)
 | .int i n=>k (.int i n)
 | .float i n=>k (.float i n)
 | .complex i n m=>k (.complex i n m)
 | .string s=>k (.string s)
 | .pointer a=>k (.pointer a)
 | .slice a n c=>k (.slice a n c)
 | .map r=>k (.map r)
 | .chan r=>k (.chan r)
 | .func fn a c=>k (.func fn a c)
 | .nilFunc=>k .nilFunc
 | .iface t v=>k (.iface t v)
 | .nilIface=>k .nilIface
 | .agg cs=>k (.agg cs)
 | .tuple vs=>k (.tuple vs)
theorem force_eq (v:Value)(k:Value→Prop):force v k=k v:=by cases v <;> rfl
def pg (f:Fr):List Operand→(List Value→Prop)→Prop
 | [],k=>k []
 | x::xs,k=>force (ev f x) fun v=>pg f xs fun a=>k (v::a)
theorem qP (f:Fr):∀ (xs:List Operand) (k:List Value→Prop),pg f xs k=k (xs.map (ev f))
 | [],_=>rfl
 | x::xs,k=>by simp only[pg,force_eq,qP f xs,List.map_cons]
def sM (f:Fr):List (Nat × Operand)→(List (Nat × Value)→Prop)→Prop
 | [],k=>k []
 | (i,x)::xs,k=>force (ev f x) fun v=>sM f xs fun a=>k ((i,v)::a)
theorem qQ (f:Fr):∀ (xs:List (Nat × Operand)) (k:List (Nat × Value)→Prop),sM f xs k=k (xs.map fun p=>(p.1,ev f p.2))
 | [],_=>rfl
 | (i,x)::xs,k=>by simp only[sM,force_eq,qQ f xs,List.map_cons]
def qR (f:Fr):Option Operand→(Option Value→Prop)→Prop
 | none,k=>k none
 | some x,k=>force (ev f x) fun v=>k (some v)
theorem uV (f:Fr):∀ (x:Option Operand) (k:Option Value→Prop),qR f x k=k (x.map (ev f))
 | none,_=>rfl
 | some x,k=>by simp only[qR,force_eq,Option.map_some]
def oZ (P:Program)(op:Op)(ty:TypeId)(f:Fr)(w:World)(k:Value→World→Prop):Prop:=
 match op with
 | .move x | .assign x=>force (ev f x) fun v=>k v w
 | .alloc t=>vV P t w k
 | .box t x=>force (ev f x) fun x=>GB P t x w k
 | .build t e=>sM f e.toList fun e=>b8 P t e w k
 | .buildSlice t n e=>sM f e.toList fun e=>gq P t n e w k
 | .pick c a b=>
  match ev f c with
  | .bool t=>gU t (force (ev f a) fun v=>k v w) (force (ev f b) fun v=>k v w)
  | _=>False
 | .load t a=>force (ev f a) fun a=>fb P t a w k
 | .store t a x=>force (ev f a) fun a=>force (ev f x) fun x=>im P t a x w k
 | .nilCheck x=>
  match ev f x with
  | .pointer (some a)=>k (.pointer (some a)) w
  | _=>Lu P (ev f) x w k
 | .binOp op t x y _=>
  match I4 op (ev f x) (ev f y) with
  | some v=>k v w
  | none=>force (ev f x) fun a=>force (ev f y) fun b=>cW P op t x y a b w k
 | .unOp op _ x=>
  match op,ev f x with
  | .not,.bool b=>k (.bool !b) w
  | _,_=>OJ P op (ev f x) w k
 | .convert s d x=>force (ev f x) fun x=>pQ P s d x w k
 | .makeMap t r=>qR f r fun r=>np P t r w k
 | .makeSlice t l c=>force (ev f l) fun l=>force (ev f c) fun c=>mF P t l c w k
 | .makeFunc fn a c=>pg f a.toList fun a=>pg f c.toList fun c=>cw P fn a c w k
 | .slice t x lo hi g=>force (ev f x) fun x=>qR f lo fun lo=>qR f hi fun hi=>qR f g fun g=>eY P t x lo hi g w k
 | .fieldAddr t x i=>force (ev f x) fun x=>mG P t x i w k
 | .field t x i=>force (ev f x) fun x=>DT P t x i w k
 | .indexAddr t x i=>force (ev f x) fun x=>force (ev f i) fun i=>lV P t x i w k
 | .index t x i=>force (ev f x) fun x=>force (ev f i) fun i=>sL P t x i w k
 | .lookup t x i ok=>force (ev f x) fun x=>force (ev f i) fun i=>gL P t x i ok w k
 | .mapUpdate t m i x | .insert t m i x=>force (ev f m) fun m=>force (ev f i) fun i=>force (ev f x) fun x=>od P t m i x w k
 | .mapEntry t m i=>force (ev f m) fun m=>force (ev f i) fun i=>oe P t m i w k
 | .entryStore t m i x=>force (ev f m) fun m=>force (ev f i) fun i=>force (ev f x) fun x=>lf P t m i x w k
 | .range t x=>force (ev f x) fun x=>qO P t x w k
 | .next x s=>force (ev f x) fun x=>uU P x s ty w k
 | .entry x=>force (ev f x) fun x=>vW P x w k
 | .extract x i=>
  match ev f x with
  | .tuple ⟨vs⟩=>match vs[i]? with | some v=>force v fun v=>k v w | none=>False
  | _=>False
 | .call c=>
  match c.callee with
  | .value h=>force (ev f h) fun h=>pg f c.args.toList fun args=>jL P h args w k
  | .builtin b=>pg f c.args.toList fun args=>bV P b c.argTypes ty (c.args.map fun | .const _=>true | _=>false) args w k
  | _=>False
 | _=>False
def pR (P:Program)(N:Nat)(dst:Option Tmp)(op:Op)(ty:TypeId)(f:Fr)(w:World)(k:Fr→World→Prop):Prop:=
 oZ P op ty f w fun v w'=>k (dv N f dst v) w'
theorem DU {P:Program}{op:BinOp}{k:IntKind}{a b:Int}{v:Value}(h:I3 op k a b=some v)(t:TypeId)(w:World) :
  (binOp op t (.int k a) (.int k b)).run P w=.ok v w:=by
 cases op <;> simp[I3] at h <;> subst h <;> simp[binOp,Op.intArith,Op.intCmp,pure]
theorem xR (op:BinOp)(t:TypeId)(x y:Operand)(k:IntKind)(n:Int)(v:Value):eqGuard op t x y (.int k n) v=pure ():=by cases op <;> rfl
def bF (P:Program)(o:Oper)(b:Operand→Value)(w:World)(k:Value→World→Prop):Prop:=
 match (execOp b o).run P w with
 | .ok (.value v) w'=>k v w'
 | .ok .skip w'=>k undef w'
 | .ok (.enter f args) w'=>Calls P f args w' fun e a=>∃ v,e=.returned v∧k v a
 | _=>False
theorem bF.wp {P:Program}{o:Oper}{a:Act}{w:World}{k:Value→World→Prop}{K:Act→World→Prop}{Q:Exit→Act→World→Prop}(h:bF P o a.eval w k)(c:∀ v w',k v w'→K (a.put o.dst v) w'):o.wp P a w K Q:=by
 unfold bF at h;unfold Oper.wp;split at h
 ·rename_i v w' b;rw[b];exact c _ _ h
 ·rename_i w' b;rw[b];exact c _ _ h
 ·rename_i g args w' b;rw[b];show Calls _ _ _ _ _;refine h.mono fun e d ⟨v,he,f⟩=>?_;subst he;exact c _ _ f
 ·exact h.elim
theorem bF.mono {P:Program}{o:Oper}{b:Operand→Value}{w:World}{k k':Value→World→Prop}(h:bF P o b w k)(a:∀ v w',k v w'→k' v w'):bF P o b w k':=by
 unfold bF at *;split at h
 ·exact a _ _ h
 ·exact a _ _ h
 ·exact h.mono fun e c ⟨v,he,d⟩=>⟨v,he,a _ _ d⟩
 ·exact h.elim
theorem bF.some {P:Program}{o:Oper}{a:Operand→Value}{w:World}{k:Value→World→Prop}(h:bF P o a w k):∃ v w',k v w':=by
 unfold bF at h;split at h
 ·exact ⟨_,_,h⟩
 ·exact ⟨_,_,h⟩
 ·obtain ⟨e,w',c,⟨v,_,b⟩,_⟩:=h [];exact ⟨v,w',b⟩
 ·exact h.elim
theorem cO {P:Program}{o:Oper}{a:Operand→Value}{w w':World}{v:Value}{k:Value→World→Prop}(b:(execOp a o).run P w=.ok (.value v) w')(h:k v w'):bF P o a w k:=by
 unfold bF;rw[b];exact h
theorem og {P:Program}(o:Oper){f:Fr}{w:World}{k:Value→World→Prop}(h:oZ P o.op o.type f w k):bF P o (ev f) w k:=by
 obtain ⟨dst,op,ty,pos,after,guard⟩:=o
 cases op <;> simp only[oZ,force_eq,qP,qQ,uV] at h
 case move x=>exact cO rfl h
 case assign x=>exact cO rfl h
 case alloc t=>obtain ⟨v,w',j,h⟩:=h;simpa [bF,execOp,j] using h
 case box t x=>obtain ⟨v,w',j,h⟩:=h;simpa [bF,execOp,j] using h
 case build t ps=>
  obtain ⟨v,w',j,h⟩:=h;have e:(List.map (fun p=>(p.1,ev f p.2)) ps.toList).toArray=ps.map fun (i,x)=>(i,ev f x):=by
   rw[← Array.toList_inj];simp
  rw[e] at j;simpa [bF,execOp,j] using h
 case buildSlice t n ps=>
  obtain ⟨v,w',j,h⟩:=h;have e:(List.map (fun p=>(p.1,ev f p.2)) ps.toList).toArray=ps.map fun (i,x)=>(i,ev f x):=by
   rw[← Array.toList_inj];simp
  rw[e] at j;simpa [bF,execOp,j] using h
 case pick c a b=>
  split at h
  ·rename_i t z;rw[dY] at h
   cases t
   ·exact cO (v:=ev f b) (w':=w) (by simp[execOp,z,asBool]) (by simpa using h)
   ·exact cO (v:=ev f a) (w':=w) (by simp[execOp,z,asBool]) (by simpa using h)
  ·exact h.elim
 case load t x=>obtain ⟨v,w',j,h⟩:=h;simpa [bF,execOp,j] using h
 case store t x y=>obtain ⟨w',j,h⟩:=h;simpa [bF,execOp,j] using h
 case nilCheck x=>
  split at h
  ·rename_i N z;exact cO (by simp[execOp,z]) h
  ·obtain ⟨v,j,h⟩:=h;exact cO (j ..) h
 case binOp op t x y u=>
  split at h
  ·rename_i v A;unfold I4 at A;split at A
   ·rename_i I O k2 Q z J
    cases hs:sameKind I k2 with
    | false=>simp[hs] at A
    | true=>
     obtain rfl:=xQ hs;simp[hs] at A;exact cO (by simp[execOp,z,J,xR,DU A]) h
   ·cases A
  ·obtain ⟨v,w',j,h⟩:=h;have:(execOp (ev f) { dst,op:=.binOp op t x y u,type:=ty,pos,after,guard }).run P w=.ok (.value v) w':=by
    simp only[execOp];rw[Sem.run_bind,j];rfl
   exact cO this h
 case unOp op t x=>
  split at h
  ·rename_i b z;exact cO (by simp[execOp,z,Op.unary]) h
  ·obtain ⟨v,w',j,h⟩:=h;simpa [bF,execOp,j] using h
 case convert s d x=>obtain ⟨v,w',j,h⟩:=h;simpa [bF,execOp,j] using h
 case makeMap t r=>obtain ⟨v,w',j,h⟩:=h;simpa [bF,execOp,j] using h
 case makeSlice t l c=>obtain ⟨v,w',j,h⟩:=h;simpa [bF,execOp,j] using h
 case makeFunc fn as' cs=>
  obtain ⟨v,w',j,h⟩:=h;have B:(List.map (ev f) as'.toList).toArray=as'.map (ev f):=by rw[← Array.toList_inj];simp
  have K:(List.map (ev f) cs.toList).toArray=cs.map (ev f):=by rw[← Array.toList_inj];simp
  rw[B,K] at j;simpa [bF,execOp,j] using h
 case slice t x lo hi mx=>obtain ⟨v,w',j,h⟩:=h;simpa [bF,execOp,j] using h
 case fieldAddr t x i=>obtain ⟨v,w',j,h⟩:=h;simpa [bF,execOp,j] using h
 case field t x i=>obtain ⟨v,w',j,h⟩:=h;simpa [bF,execOp,j] using h
 case indexAddr t x i=>obtain ⟨v,w',j,h⟩:=h;simpa [bF,execOp,j] using h
 case index t x i=>obtain ⟨v,w',j,h⟩:=h;simpa [bF,execOp,j] using h
 case lookup t x i ok=>obtain ⟨v,w',j,h⟩:=h;simpa [bF,execOp,j] using h
 case mapUpdate t m i x=>obtain ⟨w',j,h⟩:=h;simpa [bF,execOp,j] using h
 case insert t m i x=>obtain ⟨w',j,h⟩:=h;simpa [bF,execOp,j] using h
 case mapEntry t m i=>obtain ⟨v,w',j,h⟩:=h;simpa [bF,execOp,j] using h
 case entryStore t m i x=>obtain ⟨w',j,h⟩:=h;simpa [bF,execOp,j] using h
 case range t x=>obtain ⟨v,w',j,h⟩:=h;simpa [bF,execOp,j] using h
 case next x s=>obtain ⟨v,w',j,h⟩:=h;simpa [bF,execOp,j] using h
 case entry x=>obtain ⟨v,w',j,h⟩:=h;simpa [bF,execOp,j] using h
 case extract x i=>
  split at h
  ·rename_i M z;split at h
   ·rename_i v A;have E:M[i]?=some v:=A;exact cO (by simp[execOp,Instr.extract,z,E]) h
   ·exact h.elim
  ·exact h.elim
 case call c=>
  obtain ⟨callee,args,C⟩:=c
  cases callee with
  | value fv=>
   simp only[] at h;unfold jL at h;split at h
   ·rename_i g first cap F;have B:((first.toList++List.map (ev f) args.toList++cap.toList)).toArray=first++args.map (ev f)++cap:=by
     rw[← Array.toList_inj];simp
    obtain ⟨D,G⟩:=h;rw[B] at G;have q:(execOp (ev f) { dst,op:=.call { callee:=.value fv,args,argTypes:=C },type:=ty,pos,after,guard }).run P w=.ok (.enter g (first++args.map (ev f)++cap)) w:=by
     simp[execOp,resolve,Deferred.ofValue,F,invoke,vU D]
    unfold bF;rw[q];exact G
   ·exact h.elim
  | builtin b=>
   obtain ⟨v,w',j,h⟩:=h;have B:(List.map (ev f) args.toList).toArray=args.map (ev f):=by rw[← Array.toList_inj];simp
   rw[B] at j;have q:(execOp (ev f) { dst,op:=.call { callee:=.builtin b,args,argTypes:=C },type:=ty,pos,after,guard }).run P w=.ok (.value v) w':=by
    simp only[execOp,resolve,invoke];exact j
   exact cO q h
  | invoke r m=>exact h.elim
theorem xS {P:Program}{N:Nat}{o:Oper}{f:Fr}{w:World}{k:Fr→World→Prop}{a:Act}{K:Act→World→Prop}{Q:Exit→Act→World→Prop}(b:R N a f)(g:∀ c d w',R N c d→k d w'→K c w')(h:pR P N o.dst o.op o.type f w k):o.wp P a w K Q:=by
 have e:=og o h;rw[← b.eval] at e;exact e.wp fun v w' i=>g _ _ _ (b.put _ _) i
theorem qS {P:Program}{s:Sem Value}{w:World}{k k':Value→World→Prop}(a:∀ v w',k v w'→k' v w')(h:kG P s w k):kG P s w k':=
 let ⟨v,w',hr,hh⟩:=h;⟨v,w',hr,a _ _ hh⟩
theorem oh {P:Program}{s:Sem Unit}{w:World}{k k':Value→World→Prop}(a:∀ v w',k v w'→k' v w')(h:DS P s w k):DS P s w k':=
 let ⟨w',hr,hh⟩:=h;⟨w',hr,a _ _ hh⟩
theorem pS {P:Program}{op:Op}{ty:TypeId}{f:Fr}{w:World}{k k':Value→World→Prop}(d:∀ v w',k v w'→k' v w')(h:oZ P op ty f w k):oZ P op ty f w k':=by
 cases op <;> simp only[oZ,force_eq,qP,qQ,uV] at h ⊢
 case move x=>exact d _ _ h
 case assign x=>exact d _ _ h
 case pick c a b=>
  split
  ·rename_i t e;simp only[e] at h;rw[dY] at h ⊢
   cases t
   ·exact d _ _ h
   ·exact d _ _ h
  ·rename_i e;split at h
   ·rename_i t D;exact absurd D (e t)
   ·exact h
 case nilCheck x=>
  split
  ·rename_i a j;simp only[j] at h;exact d _ _ h
  ·rename_i j;split at h
   ·rename_i a E;exact absurd E (j a)
   ·obtain ⟨v,o,p⟩:=h;exact ⟨v,o,d _ _ p⟩
 case binOp op t x y u=>
  split
  ·rename_i v l;simp only[l] at h;exact d _ _ h
  ·rename_i l;simp only[l] at h;exact qS d h
 case unOp op t x=>
  split
  ·rename_i b n;simp only[n] at h;exact d _ _ h
  ·rename_i n;split at h
   ·rename_i b q;exact (n b rfl q).elim
   ·exact qS d h
 case extract x i=>
  split
  ·rename_i B j;simp only[j] at h;split
   ·rename_i v l;simp only[l] at h;exact d _ _ h
   ·rename_i l;simp only[l] at h
  ·rename_i j;split at h
   ·rename_i B r;exact absurd r (j B)
   ·exact h
 case call c=>
  split
  ·rename_i C e;simp only[e] at h;unfold jL at h ⊢;split
   ·rename_i g a b s;simp only[s] at h;exact h.mono d
   ·rename_i s;split at h
    ·rename_i g a b z;exact absurd z (s g a b)
    ·exact h
  ·rename_i b e;simp only[e] at h;obtain ⟨v,w',F,G⟩:=h;exact ⟨v,w',F,d _ _ G⟩
  ·rename_i o p;split at h
   ·rename_i C A;exact absurd A (o C)
   ·rename_i b n;exact absurd n (p b)
   ·exact h
 case store t a x=>exact oh d h
 case mapUpdate t m i x=>exact oh d h
 case insert t m i x=>exact oh d h
 case entryStore t m i x=>exact oh d h
 all_goals first | exact qS d h | exact h
attribute [irreducible] vV GB b8 gq fb im Lu cW OJ pQ np mF cw eY mG DT lV sL
 gL od oe lf qO uU vW bV jL
def jM (P:Program)(N:Nat)(ops:Array Oper)(k:Fr→World→Prop):List Oper→Fr→World→Prop
 | [],f,w=>k f w
 | ⟨dst,op,ty,_,_,none⟩::rest,f,w=>pR P N dst op ty f w (jM P N ops k rest)
 | ⟨dst,op,ty,_,_,some (j,want)⟩::rest,f,w=>
   match (ops[j]?).bind (·.dst) with
   | some d=>
    match f d with
    | .bool b=>match want with
     | true=>gU b (pR P N dst op ty f w (jM P N ops k rest)) (jM P N ops k rest (dv N f dst undef) w)
     | false=>gU b (jM P N ops k rest (dv N f dst undef) w) (pR P N dst op ty f w (jM P N ops k rest))
    | _=>jM P N ops k rest (dv N f dst undef) w
   | none=>jM P N ops k rest (dv N f dst undef) w
def gi:Op→Bool
 | .move _ | .assign _ | .pick .. | .load .. | .nilCheck _ | .binOp .. | .unOp .. | .convert .. | .slice .. | .fieldAddr .. | .field .. | .indexAddr .. | .index ..
 | .lookup .. | .extract .. | .build .. | .makeFunc .. =>false
 | .call { callee:=.builtin .len,.. } | .call { callee:=.builtin .cap,.. } | .call { callee:=.builtin .min,.. } | .call { callee:=.builtin .max,.. }=>false
 | _=>true
def lg (ops:Array Oper):Bool:=
 (List.range ops.size).all fun j=>match ops[j]? with
  | some o=>o.after.all fun e=> !Region.binds .any e||decide (e.on<j)
  | none=>true
def GC (after:List Edge)(acc:Array Nat):Nat:=after.foldl (fun s e=>bif Region.binds .any e then s |||2^e.on |||acc.getD e.on 0 else s) 0
def lh:List Oper→Array Nat→Array Nat
 | [],acc=>acc
 | o::l,acc=>lh l (acc.push (GC o.after.toList acc))
def gr (c:Array Nat)(j i:Nat):Bool:=(c.getD j 0).testBit i
def IF (ops:Array Oper)(c:Array Nat)(i j:Nat):Bool:=
 match ops[i]?,ops[j]? with
 | some x,some y=>(x.apart ops y&& !(gi x.op&&gi y.op))||gr c j i
 | _,_=>true
def xT (ops:Array Oper):Bool:=
 lg ops&&(List.range ops.size).all fun j=>(List.range j).all fun i=>IF ops (lh ops.toList #[]) i j
def lj (ops:Array Oper)(i:Nat):Bool:=
 (List.range ops.size).all fun j=>j==i||(match ops[j]? with | some o=>gi o.op | none=>true)||gr (lh ops.toList #[]) i j
def nq (ops:Array Oper)(D:Nat→Prop):Prop:=∀ j,D j→∀ o,ops[j]?=some o→∀ e ∈ o.after,Region.binds .any e=true→D e.on
theorem vX {acc:Array Nat}{i:Nat}:∀ (after:List Edge) (s:Nat),(after.foldl (fun s e=>bif Region.binds .any e then s |||2^e.on |||acc.getD e.on 0 else s) s).testBit i=true→
  s.testBit i=true∨∃ e ∈ after,Region.binds .any e=true∧(e.on=i∨(acc.getD e.on 0).testBit i=true):=by
 intro after
 induction after with
 | nil=>intro s h;exact .inl h
 | cons e l b=>
  intro s h;simp only[List.foldl_cons] at h;rcases b _ h with h | ⟨c,a,h⟩
  ·cases hb:Region.binds .any e with
   | false=>rw[hb] at h;exact .inl h
   | true=>
    rw[hb] at h;simp only[cond_true,Nat.testBit_or,Bool.or_eq_true,Nat.testBit_two_pow,decide_eq_true_eq] at h;rcases h with (h | h) | h
    ·exact .inl h
    ·exact .inr ⟨e,.head _,hb,.inl h⟩
    ·exact .inr ⟨e,.head _,hb,.inr h⟩
  ·exact .inr ⟨c,.tail _ a,h⟩
theorem zE {ops:Array Oper}{D:Nat→Prop}(m:nq ops D):∀ (l:List Oper) (acc:Array Nat),(∀ k,l[k]?=ops[acc.size+k]?)→
  (∀ j i,D j→gr acc j i=true→D i)→∀ j i,D j→gr (lh l acc) j i=true→D i:=by
 intro l
 induction l with
 | nil=>intro acc _ h;exact h
 | cons o l ih=>
  intro acc f h;refine ih _ (fun k=>by have:=f (k+1);simpa [Nat.add_assoc,Nat.add_comm 1 k] using this) ?_;intro j i g hw;by_cases a:j<acc.size
  ·refine h j i g ?_;unfold gr at hw ⊢;simpa [Array.getD,a,Nat.lt_succ_of_lt a,Array.getElem_push_lt a] using hw
  ·by_cases d:j=acc.size
   ·subst d;have n:ops[acc.size]?=some o:=by have:=f 0;simpa using this.symm
    unfold gr at hw;simp[Array.getD] at hw;rcases vX _ _ hw with p | ⟨e,he,q,b⟩
    ·simp at p
    ·have c:=m _ g o n e (by simpa using he) q;rcases b with b | b
     ·exact b ▸ c
     ·exact h _ _ c b
   ·unfold gr at hw;have:¬ j<acc.size+1:=by omega
    simp[Array.getD,this] at hw
theorem jN {ops:Array Oper}{D:Nat→Prop}(a:nq ops D)(j i:Nat)(b:D j)(hw:gr (lh ops.toList #[]) j i=true):D i:=
 zE a ops.toList #[] (fun k=>by simp) (fun j i _ h=>by simp[gr] at h) j i b hw
def eZ (P:Program)(C:World→Prop)(o:Oper)(a:Act)(v:Value):Prop:=∀ w,C w→(execOp a.eval o).run P w=.ok (.value v) w
def fc (P:Program)(ops:Array Oper)(C:World→Prop)(Q:Act→World→Prop):List Nat→Act→World→Prop
 | [],a,w=>Q a w
 | i::rest,a,w=>
  match ops[i]? with
  | none=>fc P ops C Q rest a w
  | some o=>
   if Region.wanted o (yielded ops a.tmps) then
    (if gi o.op then bF P o a.eval w fun v w'=>(C w'∨lj ops i=true)∧fc P ops C Q rest (a.put o.dst v) w'
     else ∃ v,eZ P C o a v∧fc P ops C Q rest (a.put o.dst v) w)
   else fc P ops C Q rest (a.put o.dst undef) w
def mH (P:Program)(ops:Array Oper)(C:World→Prop)(i:Nat)(K:Act→World→Prop)(a:Act)(w:World):Prop:=
 match ops[i]? with
 | none=>K a w
 | some o=>
  if Region.wanted o (yielded ops a.tmps) then
   (if gi o.op then bF P o a.eval w fun v w'=>(C w'∨lj ops i=true)∧K (a.put o.dst v) w'
    else ∃ v,eZ P C o a v∧K (a.put o.dst v) w)
  else K (a.put o.dst undef) w
section mix
variable {P:Program} {ops:Array Oper} {C:World→Prop}
theorem fo {o:Oper}{b a:Operand→Value}{w:World}{k:Value→World→Prop}(he:execOp a o=execOp b o):bF P o a w k=bF P o b w k:=by
 unfold bF;rw[he]
theorem pull {Q:Act→World→Prop}{i:Nat}{c:Oper}(hi:ops[i]?=some c)(G:Region.noSelect ops=true)(post:List Nat):∀ (pre:List Nat) (a:Act) (w:World),(C w∨∀ k ∈ pre++i::post,∀ o,ops[k]?=some o→gi o.op=true)→
  (∀ k ∈ pre,∀ ok,ops[k]?=some ok→ok.apart ops c=true∧(gi ok.op&&gi c.op)=false∧(gi c.op=false→lj ops k=false))→
  fc P ops C Q (pre++i::post) a w→mH P ops C i (fc P ops C Q (pre++post)) a w:=by
 have s:=Region.noSelect_spec G;intro pre
 induction pre with
 | nil=>intro a w _ _ h;exact h
 | cons k pre ih=>
  intro a w E M h;have q:=fun a w E h=>ih a w E (fun k m=>M k (.tail _ m)) h;have l:C w∨∀ k ∈ pre++i::post,∀ o,ops[k]?=some o→gi o.op=true:=E.imp id fun f k m=>f k (.tail _ m);simp only[List.cons_append,fc] at h
  cases m:ops[k]? with
  | none=>
   simp only[m] at h;have:=q a w l h;unfold mH at this ⊢;simp only[hi] at this ⊢;simpa only[List.cons_append,fc,m] using this
  | some ok=>
   simp only[m] at h;obtain ⟨I,J,K⟩:=M k (.head _) ok m;obtain ⟨N,U,O⟩:=Oper.apart_spec I;have A:=fun cs b=>s k ok cs b m;have B:=fun cs b=>s i c cs b hi;have t:∀ (a:Act) (u:Value),execOp (a.put ok.dst u).eval c=execOp a.eval c:=fun a u=>execOp_put c B a ok.dst u N;have x:∀ (a:Act) (u:Value),execOp (a.put c.dst u).eval ok=execOp a.eval ok:=fun a u=>execOp_put ok A a c.dst u O;have y:∀ (a:Act) (u:Value),Region.wanted c (yielded ops (a.put ok.dst u).tmps)=Region.wanted c (yielded ops a.tmps):=fun a u=>wanted_put c a ok.dst u N;have r:∀ (a:Act) (u:Value),Region.wanted ok (yielded ops (a.put c.dst u).tmps)=Region.wanted ok (yielded ops a.tmps):=fun a u=>wanted_put ok a c.dst u O;have comm:∀ (a:Act) (u v:Value),(a.put ok.dst u).put c.dst v=(a.put c.dst v).put ok.dst u:=fun a u v=>(Act.put_comm a u v U);have F:∀ (a:Act) (u v:Value),eZ P C c (a.put ok.dst u) v↔eZ P C c a v:=fun a u v=>by unfold eZ;rw[t]
   have V:∀ (a:Act) (u v:Value),eZ P C ok (a.put c.dst u) v↔eZ P C ok a v:=fun a u v=>by unfold eZ;rw[x]
   by_cases n:Region.wanted ok (yielded ops a.tmps)=true
   ·rw[if_pos n] at h;by_cases p:gi ok.op=true
    ·rw[if_pos p] at h;have g:gi c.op=false:=by simpa [p] using J
     have D:C w:=E.resolve_right fun f=>by
      have:=f i (by simp) c hi;rw[g] at this;cases this
     have d:=h.mono (k':=fun v w'=>C w'∧mH P ops C i (fc P ops C Q (pre++post)) (a.put ok.dst v) w') fun v w' f=>
      have S:=f.1.resolve_right (by rw[K g];simp)
      ⟨S,q _ _ (.inl S) f.2⟩
     unfold mH at d ⊢;simp only[hi,g,y] at d ⊢;by_cases j:Region.wanted c (yielded ops a.tmps)=true
     ·simp only[j,if_true,Bool.false_eq_true,if_false] at d ⊢;obtain ⟨v0,w0,_,T,z,_⟩:=d.some;rw[F] at z;refine ⟨T,z,?_⟩;simp only[List.cons_append,fc,m,r,n,if_true,p];rw[fo (x a T)];refine d.mono fun v w' ⟨l,u,hu,f⟩=>⟨.inl l,?_⟩;rw[F] at hu;have e:=(hu w D).symm.trans (z w D);injection e with e _;injection e with e;subst e;rw[← comm];exact f
     ·simp only[j,if_false,Bool.false_eq_true] at d ⊢;simp only[List.cons_append,fc,m,r,n,if_true,p];rw[fo (x a undef)];refine d.mono fun v w' ⟨l,f⟩=>⟨.inl l,?_⟩;rw[← comm];exact f
    ·rw[if_neg p] at h;obtain ⟨v,X,h⟩:=h;have d:=q _ _ l h;unfold mH at d ⊢;simp only[hi,y,fo (t a v)] at d ⊢;have fin:∀ u w',fc P ops C Q (pre++post) ((a.put ok.dst v).put c.dst u) w'→fc P ops C Q (k::pre++post) (a.put c.dst u) w':=by
      intro u w' f;simp only[List.cons_append,fc,m,r,n,if_true,p,if_false,Bool.false_eq_true];exact ⟨v,(V a u v).2 X,by rw[← comm];exact f⟩
     split
     ·rename_i j;rw[if_pos j] at d;split
      ·rename_i g;rw[if_pos g] at d;exact d.mono fun u w' f=>⟨f.1,fin _ _ f.2⟩
      ·rename_i g;rw[if_neg g] at d;obtain ⟨u,hu,f⟩:=d;exact ⟨u,(F a v u).1 hu,fin _ _ f⟩
     ·rename_i j;rw[if_neg j] at d;exact fin _ _ d
   ·rw[if_neg n] at h;have d:=q _ _ l h;unfold mH at d ⊢;simp only[hi,y,fo (t a undef)] at d ⊢;have fin:∀ u w',fc P ops C Q (pre++post) ((a.put ok.dst undef).put c.dst u) w'→fc P ops C Q (k::pre++post) (a.put c.dst u) w':=by
     intro u w' f;simp only[List.cons_append,fc,m,r,n,if_false,Bool.false_eq_true];rw[← comm];exact f
    split
    ·rename_i j;rw[if_pos j] at d;split
     ·rename_i g;rw[if_pos g] at d;exact d.mono fun u w' f=>⟨f.1,fin _ _ f.2⟩
     ·rename_i g;rw[if_neg g] at d;obtain ⟨u,hu,f⟩:=d;exact ⟨u,(F a undef u).1 hu,fin _ _ f⟩
    ·rename_i j;rw[if_neg j] at d;exact fin _ _ d
theorem gN (h:lg ops=true){j:Nat}{o:Oper}(b:ops[j]?=some o){e:Edge}(he:e ∈ o.after)(c:Region.binds .any e=true):e.on<j:=by
 unfold lg at h;rw[List.all_eq_true] at h;have a:j<ops.size:=(Array.getElem?_eq_some_iff.1 b).1;have:=h j (List.mem_range.2 a);rw[b] at this;simp only at this;rw[Array.all_eq_true] at this;obtain ⟨x,d,hex⟩:=Array.mem_iff_getElem.1 he;have:=this x d;rw[hex] at this;simpa [c] using this
theorem sN {Q:Act→World→Prop}{Q':Exit→Act→World→Prop}(hQ:∀ a w,Q a w→Q' .normal a w)(hns:Region.noSelect ops=true)(hm:xT ops=true) :
  ∀ (l:List Nat) (listed:Array Bool) (a:Act) (w:World),l.Pairwise (· < ·)→(∀ j,j ∈ l↔j<ops.size∧listed.getD j true=false)→listed.size=ops.size→
  (∀ j o,ops[j]?=some o→listed.getD j false=true→∀ e ∈ o.after,Region.binds .any e=true→listed.getD e.on false=true)→
  (C w∨∀ k ∈ l,∀ o,ops[k]?=some o→gi o.op=true)→fc P ops C Q l a w→wpAny P .any ops Q' l.length listed a w:=by
 simp only[xT,Bool.and_eq_true] at hm;obtain ⟨K,t⟩:=hm;have key:∀ (n:Nat) (l:List Nat) (listed:Array Bool) (a:Act) (w:World),l.length=n→l.Pairwise (· < ·)→(∀ j,j ∈ l↔j<ops.size∧listed.getD j true=false)→listed.size=ops.size→
  (∀ j o,ops[j]?=some o→listed.getD j false=true→∀ e ∈ o.after,Region.binds .any e=true→listed.getD e.on false=true)→
  (C w∨∀ k ∈ l,∀ o,ops[k]?=some o→gi o.op=true)→fc P ops C Q l a w→wpAny P .any ops Q' n listed a w:=by
  intro n
  induction n with
  | zero=>
   intro l listed a w hn z b F A T h;have hl:l=[]:=List.eq_nil_of_length_eq_zero hn;subst hl;refine ⟨?_,hQ _ _ h⟩;rw[List.eq_nil_iff_forall_not_mem];intro i hi;obtain ⟨h1,U,E,_⟩:=mem_ready.1 hi;have:=(b i).2 ⟨(Array.getElem?_eq_some_iff.1 E).1,h1⟩
   cases this
  | succ n ih=>
   intro l listed a w hn z b F A T h;have G:∀ j,j<ops.size→j ∉ l→listed.getD j false=true:=by
    intro j r hjl;have:¬ listed.getD j true=false:=fun q=>hjl ((b j).2 ⟨r,q⟩);have hjs:j<listed.size:=by omega
    simp only[Array.getD,hjs,dif_pos] at this ⊢;simpa using this
   constructor
   ·intro hr;exfalso
    cases l with
    | nil=>simp at hn
    | cons i l=>
     have hi:=(b i).1 (.head _);have V:i ∈ Region.ready .any ops listed:=by
      refine mem_ready.2 ⟨hi.2,ops[i],Array.getElem?_eq_getElem hi.1,?_⟩;intro e he I;have s:=gN K (Array.getElem?_eq_getElem hi.1) he I;refine G _ (by omega) fun N=>?_;rcases List.mem_cons.1 N with h | h
      ·omega
      ·have:=(List.pairwise_cons.1 z).1 _ h;omega
     rw[hr] at V
     cases V
   ·intro i hi;obtain ⟨hun,U,d,M⟩:=mem_ready.1 hi;have B:i<ops.size:=(Array.getElem?_eq_some_iff.1 d).1;have hil:i ∈ l:=(b i).2 ⟨B,hun⟩;obtain ⟨pre,post,rfl⟩:=List.append_of_mem hil;have f:=List.pairwise_append.1 z;have s:∀ k ∈ pre,k<i:=fun k g=>f.2.2 k g i (.head _);have X:∀ k ∈ post,i<k:=fun k g=>(List.pairwise_cons.1 f.2.1).1 k g;have Y:nq ops fun j=>j=i∨listed.getD j false=true:=fun j r o m e he I=>by
     rcases r with rfl | r
     ·rw[d] at m;injection m with m;subst m;exact .inr (M e he I)
     ·exact .inr (A j o m r e he I)
    have Z:∀ k,k≠i→k ∈ pre++i::post→gr (lh ops.toList #[]) i k=false:=by
     intro k c g;rw[Bool.eq_false_iff];intro hw;rcases jN Y i k (.inl rfl) hw with h | h
     ·exact c h
     ·have:=((b k).1 g);have hks:k<listed.size:=by omega
      have E:=this.2;simp only[Array.getD,hks,dif_pos] at h E;rw[h] at E;cases E
    have hp:∀ k ∈ pre,∀ ok,ops[k]?=some ok→ok.apart ops U=true∧(gi ok.op&&gi U.op)=false∧(gi U.op=false→lj ops k=false):=by
     intro k g ok hok;rw[List.all_eq_true] at t;have h1:=t i (List.mem_range.2 B);rw[List.all_eq_true] at h1;have E:=h1 k (List.mem_range.2 (s k g));unfold IF at E;have c:k≠i:=by have:=s k g;omega
     simp only[hok,d,Z k c (by simp[g]),Bool.or_false,Bool.and_eq_true] at E;refine ⟨E.1,?_,?_⟩
     ·have:=E.2
      cases hx:(gi ok.op&&gi U.op)
      ·rfl
      ·rw[hx] at this;cases this
     ·intro hq;rw[Bool.eq_false_iff];intro ht;unfold lj at ht;rw[List.all_eq_true] at ht;have J:=ht i (List.mem_range.2 B);simp only[d,hq,Bool.or_false,Bool.or_eq_true,beq_iff_eq] at J;rcases J with J | J
      ·exact c J.symm
      ·have:=jN (ops:=ops) (D:=fun j=>j≤k) (fun j r o m e he I=>by have:=gN K m he I;show e.on≤k;omega) k i (Nat.le_refl _) J;have:=s k g;omega
    have hs:=pull d hns post pre a w T hp h;have p:∀ a' w',(C w'∨lj ops i=true∨∀ k ∈ pre++i::post,∀ o,ops[k]?=some o→gi o.op=true)→fc P ops C Q (pre++post) a' w'→wpAny P .any ops Q' n (listed.setIfInBounds i true) a' w':=by
     intro a' w' O q;have a0:i<listed.size:=by omega
     have O:C w'∨∀ k ∈ pre++post,∀ o,ops[k]?=some o→gi o.op=true:=by
      rcases O with h | h | h
      ·exact .inl h
      ·refine .inr fun k g o m=>?_;have c:k≠i:=by
        rcases List.mem_append.1 g with h | h
        ·have:=s k h;omega
        ·have:=X k h;omega
       have a1:k ∈ pre++i::post:=by
        rcases List.mem_append.1 g with h | h
        ·simp[h]
        ·simp[h]
       unfold lj at h;rw[List.all_eq_true] at h;have J:=h k (List.mem_range.2 ((b k).1 a1).1);simp only[m,Z k c a1,Bool.or_false,Bool.or_eq_true,beq_iff_eq] at J;exact J.resolve_left c
      ·exact .inr fun k g=>h k (by
        rcases List.mem_append.1 g with h | h
        ·simp[h]
        ·simp[h])
     refine ih (pre++post) _ a' w' (by simp at hn ⊢;omega) ?_ ?_ (by simp[F]) ?_ O q
     ·exact List.pairwise_append.2 ⟨f.1,(List.pairwise_cons.1 f.2.1).2,fun x hx y hy=>f.2.2 x hx y (.tail _ hy)⟩
     ·intro j;have r:=b j;by_cases S:j=i
      ·subst S;simp only[Array.getD,Array.size_setIfInBounds,a0,dif_pos];constructor
       ·intro q;rcases List.mem_append.1 q with h | h
        ·have:=s j h;omega
        ·have:=X j h;omega
       ·intro q;simp at q
      ·rw[getD_set_ne true (Ne.symm S)];rw[← r];simp[S]
     ·intro j o m r e he I;have a2:∀ k,(listed.setIfInBounds i true).getD k false=true↔k=i∨listed.getD k false=true:=by
       intro k;by_cases c:k=i
       ·subst c;simp[Array.getD,a0]
       ·rw[getD_set_ne false (Ne.symm c)];simp[c]
      rw[a2] at r ⊢;rcases r with rfl | r
      ·rw[d] at m;injection m with m;subst m;exact .inr (M e he I)
      ·exact .inr (A j o m r e he I)
    unfold mH at hs;unfold wpOp;simp only[d] at hs ⊢;split
    ·rename_i hw;rw[if_pos hw] at hs
     left
     split at hs
     ·exact hs.wp fun v w' q=>p _ _ (q.1.imp id .inl) q.2
     ·rename_i hlo;obtain ⟨v,hv,q⟩:=hs;have a3:C w:=T.resolve_right fun q=>hlo (q i (by simp) U d);exact (cO (hv w a3) (k:=fun u w'=>u=v∧w'=w) ⟨rfl,rfl⟩).wp fun u w' ⟨hu,hw'⟩=>by subst hu;subst hw';exact p _ _ (.inl a3) q
    ·rename_i hw;rw[if_neg hw] at hs;exact p _ _ (T.imp id .inr) hs
 intro l listed a w z b F A T h;exact key _ l listed a w rfl z b F A T h
theorem zF {id:Nat}{Q:Act→World→Prop}{Q':Exit→Act→World→Prop}(e:∀ a w,Q a w→Q' .normal a w)(f:P.follows .mixedOrders=true)(c:Region.noSelect ops=true)(hm:xT ops=true){a:Act}{w:World}(g:C { w with drawn:=w.drawn+1 })(h:fc P ops C Q (List.range ops.size) a { w with drawn:=w.drawn+1 }):(Code.region id ops true).wp P Q' a w:=by
 refine wp_region_any f ?_;have:=sN (P:=P) (C:=C) e c hm (List.range ops.size) (Array.replicate ops.size false) a _ List.pairwise_lt_range (fun j=>by
  simp only[List.mem_range];constructor
  ·intro b;exact ⟨b,by simp[Array.getD,b]⟩
  ·intro b;exact b.1) (by simp) (fun j o i b=>by
   have d:j<ops.size:=(Array.getElem?_eq_some_iff.1 i).1;simp[Array.getD,d] at b) (.inl g) h
 simpa using this
end mix
def cX (M:List Nat)(f g:Fr):Prop:=∀ t,¬ t ∈ M→f t=g t
theorem cX.refl (M:List Nat)(f:Fr):cX M f f:=fun _ _=>rfl
theorem cX.trans {M:List Nat}{f g h:Fr}(a:cX M f g)(b:cX M g h):cX M f h:=fun t c=>(a t c).trans (b t c)
theorem cX.mono {M M':List Nat}{f g:Fr}(a:cX M f g)(h:∀ t,t ∈ M→t ∈ M'):cX M' f g:=fun t b=>a t fun c=>b (h t c)
theorem cX.dv {M:List Nat}{N:Nat}{f:Fr}{d:Option Nat}{v:Value}(h:∀ x,d=some x→x ∈ M):cX M (dv N f d v) f:=by
 intro t b
 cases d with
 | none=>rfl
 | some d=>
  have a:t≠d:=fun e=>b (e ▸ h d rfl);have:Nat.beq t d=false:=by
   rw[Bool.eq_false_iff];intro c;exact a (Nat.eq_of_beq_eq_true c)
  simp[Dk.dv,NL,this]
def gW (l:List Oper):List Nat:=l.filterMap (·.dst)
def lk (P:Program)(N:Nat)(ops:Array Oper)(k:Fr→World→Prop)(f:Fr)(w:World):Prop:=
 ∀ a,R N a f→∀ id Q,(∀ c b w',R N c b→cX (gW ops.toList) b f→k b w'→Q .normal c w')→(Code.region id ops true).wp P Q a w
theorem ph {N:Nat}{a:Act}{f:Fr}(g:R N a f)(ops:Array Oper)(j d:Nat)(h:(ops[j]?).bind (·.dst)=some d) :
  yielded ops a.tmps j=match f d with | .bool b=>some b | _=>none:=by
 have c:=g.get d;unfold yielded;simp only[h,Option.bind_some];by_cases hs:d<a.tmps.size
 ·simp only[Array.getD,hs,dif_pos] at c;rw[Array.getElem?_eq_getElem hs];have e:a.tmps[d]=f d:=c;rw[e]
  cases f d <;> rfl
 ·simp only[Array.getD,hs,dif_neg,not_false_eq_true] at c;rw[Array.getElem?_eq_none (by omega),← c];rfl
theorem o5 {α:Type}{r:Result α}{g:α→Value}{n:Next}{w':World}(h:(r.andThen fun a w=>Result.ok (Next.value (g a)) w)=.ok n w'):∃ v,n=.value v:=by
 cases r with
 | ok a w=>simp at h;exact ⟨_,h.1.symm⟩
 | halt x w=>simp[Result.andThen] at h
theorem rG {P:Program}{o:Oper}(i:gi o.op=false)(j:Operand→Value)(w:World){n:Next}{w':World}(h:(execOp j o).run P w=.ok n w'):∃ v,n=.value v:=by
 obtain ⟨dst,op,ty,pos,after,guard⟩:=o;have val:∀ {s:Sem Value},((do let v ← s;pure (Next.value v):Sem Next).run P w=.ok n w')→∃ v,n=.value v:=by
  intro s hs;rw[Sem.run_bind] at hs;exact o5 (g:=fun v=>v) hs
 cases op <;> simp only[gi,Bool.true_eq_false] at i
 case move x=>simp[execOp] at h;exact ⟨_,h.1.symm⟩
 case assign x=>simp[execOp] at h;exact ⟨_,h.1.symm⟩
 case pick c a b=>
  simp only[execOp,Sem.run_bind] at h;exact o5 h
 case load t x=>exact val h
 case nilCheck x=>
  simp only[execOp] at h;split at h
  ·simp[runtimePanic] at h
  ·simp[runtimePanic] at h
  ·simp[runtimePanic] at h
  ·split at h
   ·simp[runtimePanic] at h
   ·rw[Sem.run_bind] at h;simp only[run_program,Result.andThen_ok,Sem.run_bind] at h;generalize (nilAhead _ _ _ _).run P w=r at h
    cases r with
    | halt x w=>simp[Result.andThen] at h
    | ok a w2=>
     simp only[Result.andThen_ok] at h;split at h
     ·simp at h
     ·simp at h;exact ⟨_,h.1.symm⟩
   ·simp at h;exact ⟨_,h.1.symm⟩
  ·simp at h;exact ⟨_,h.1.symm⟩
 case binOp a b c d e=>exact val h
 case unOp a b c=>exact val h
 case convert a b c=>exact val h
 case makeFunc a b c=>exact val h
 case build a b=>exact val h
 case slice a b c d e=>exact val h
 case fieldAddr a b c=>exact val h
 case field a b c=>exact val h
 case indexAddr a b c=>exact val h
 case index a b c=>exact val h
 case lookup a b c d=>exact val h
 case extract a b=>exact val h
 case call c=>
  obtain ⟨callee,args,k⟩:=c
  cases callee with
  | value f=>simp only[Bool.true_eq_false] at i
  | invoke f m=>simp only[Bool.true_eq_false] at i
  | builtin b=>
   cases b <;> simp only[Bool.true_eq_false] at i <;> simp only[execOp,resolve,invoke,builtin] at h <;> exact val h
def qK (C:World→Prop)(step:World→(Value→World→Prop)→Prop)(k:Value→Prop):Prop:=∃ v,(∀ w,C w→step w fun u w'=>u=v∧w'=w)∧k v
theorem quiet {C:World→Prop}{step:World→(Value→World→Prop)→Prop}{k:Value→Prop}(v:Value)(h:∀ w,C w→step w fun u w'=>u=v∧w'=w)(a:k v):qK C step k:=⟨v,h,a⟩
def nr (P:Program)(C:World→Prop)(op:Op)(ty:TypeId)(f:Fr)(k:Value→Prop):Prop:=
 match op with
 | .move x | .assign x=>force (ev f x) k
 | .pick c a b=>
  match ev f c with
  | .bool t=>gU t (force (ev f a) k) (force (ev f b) k)
  | _=>False
 | .nilCheck x=>
  match ev f x with
  | .pointer (some a)=>k (.pointer (some a))
  | _=>qK C (fun w k'=>oZ P op ty f w k') k
 | .binOp o t x y u=>
  match I4 o (ev f x) (ev f y) with
  | some v=>k v
  | none=>qK C (fun w k'=>oZ P (.binOp o t x y u) ty f w k') k
 | .unOp o t x=>
  match o,ev f x with
  | .not,.bool b=>k (.bool !b)
  | _,_=>qK C (fun w k'=>oZ P (.unOp o t x) ty f w k') k
 | .extract x i=>
  match ev f x with
  | .tuple ⟨vs⟩=>match vs[i]? with | some v=>force v k | none=>False
  | _=>False
 | op=>qK C (fun w k'=>oZ P op ty f w k') k
theorem ns {P:Program}{C:World→Prop}{o:Oper}{a:Act}{f:Fr}{N:Nat}(e:R N a f)(d:gi o.op=false){k:Value→Prop}(h:qK C (fun w k'=>oZ P o.op o.type f w k') k):∃ v,eZ P C o a v∧k v:=by
 obtain ⟨v,i,j⟩:=h;refine ⟨v,fun w hw=>?_,j⟩;have b:=og o (i w hw);rw[← e.eval] at b;unfold bF at b;split at b
 ·rename_i u w' c;rw[c,b.1,b.2]
 ·rename_i w' c;obtain ⟨u,hu⟩:=rG d _ _ c;cases hu
 ·rename_i g l w' c;obtain ⟨u,hu⟩:=rG d _ _ c;cases hu
 ·exact b.elim
theorem sO {P:Program}{C:World→Prop}{o:Oper}{a:Act}{f:Fr}{N:Nat}(d:R N a f)(e:gi o.op=false){k:Value→Prop}(h:nr P C o.op o.type f k):∃ v,eZ P C o a v∧k v:=by
 have gen:∀ v,(∀ w,oZ P o.op o.type f w fun u w'=>u=v∧w'=w)→k v→∃ v,eZ P C o a v∧k v:=
  fun v m n=>ns d e ⟨v,fun w _=>m w,n⟩
 obtain ⟨dst,op,ty,pos,after,guard⟩:=o
 cases op <;> simp only[nr] at h
 case move x=>rw[force_eq] at h;exact gen _ (fun w=>by simp[oZ,force_eq]) h
 case assign x=>rw[force_eq] at h;exact gen _ (fun w=>by simp[oZ,force_eq]) h
 case pick c x y=>
  split at h
  ·rename_i t l;rw[dY] at h
   cases t
   ·simp[force_eq] at h;exact gen _ (fun w=>by simp[oZ,l,dY,force_eq]) h
   ·simp[force_eq] at h;exact gen _ (fun w=>by simp[oZ,l,dY,force_eq]) h
  ·exact h.elim
 case nilCheck x=>
  split at h
  ·rename_i p g;exact gen _ (fun w=>by simp[oZ,g]) h
  ·exact ns d e h
 case binOp op t x y u=>
  split at h
  ·rename_i v j;exact gen _ (fun w=>by simp[oZ,j]) h
  ·exact ns d e h
 case unOp op t x=>
  split at h
  ·rename_i b g;exact gen _ (fun w=>by simp[oZ,g]) h
  ·exact ns d e h
 case extract x i=>
  split at h
  ·rename_i q g;split at h
   ·rename_i v j;rw[force_eq] at h;exact gen _ (fun w=>by simp[oZ,g,j,force_eq]) h
   ·exact h.elim
  ·exact h.elim
 all_goals exact ns d e h
def gQ (P:Program)(N:Nat)(C:World→Prop)(ops:Array Oper)(k:Fr→World→Prop):Nat→List Oper→Fr→World→Prop
 | _,[],f,w=>k f w
 | s,⟨dst,op,ty,_,_,none⟩::rest,f,w=>
  match gi op with
  | true=>oZ P op ty f w fun v w'=>(C w'∨lj ops s=true)∧gQ P N C ops k (s+1) rest (dv N f dst v) w'
  | false=>nr P C op ty f fun v=>gQ P N C ops k (s+1) rest (dv N f dst v) w
 | s,⟨dst,op,ty,_,_,some (j,want)⟩::rest,f,w=>
  match (ops[j]?).bind (·.dst) with
  | some d=>
   match f d with
   | .bool b=>
    match want,gi op with
    | true,true=>gU b (oZ P op ty f w fun v w'=>(C w'∨lj ops s=true)∧gQ P N C ops k (s+1) rest (dv N f dst v) w') (gQ P N C ops k (s+1) rest (dv N f dst undef) w)
    | true,false=>gU b (nr P C op ty f fun v=>gQ P N C ops k (s+1) rest (dv N f dst v) w) (gQ P N C ops k (s+1) rest (dv N f dst undef) w)
    | false,true=>gU b (gQ P N C ops k (s+1) rest (dv N f dst undef) w) (oZ P op ty f w fun v w'=>(C w'∨lj ops s=true)∧gQ P N C ops k (s+1) rest (dv N f dst v) w')
    | false,false=>gU b (gQ P N C ops k (s+1) rest (dv N f dst undef) w) (nr P C op ty f fun v=>gQ P N C ops k (s+1) rest (dv N f dst v) w)
   | _=>gQ P N C ops k (s+1) rest (dv N f dst undef) w
  | none=>gQ P N C ops k (s+1) rest (dv N f dst undef) w
theorem sP {P:Program}{N:Nat}{C:World→Prop}{ops:Array Oper}{k:Fr→World→Prop}:∀ (l:List Oper) (s:Nat) (f:Fr) (w:World) (a:Act),
  (∀ j,j<l.length→l[j]?=ops[s+j]?)→R N a f→gQ P N C ops k s l f w→fc P ops C (fun a w=>∃ f,R N a f∧k f w) (List.range' s l.length) a w:=by
 intro l
 induction l with
 | nil=>intro s f w a _ i h;exact ⟨f,i,h⟩
 | cons o rest ih=>
  intro s f w a q i h;have r:ops[s]?=some o:=by have:=q 0 (by simp);simpa using this.symm
  have p:∀ j,j<rest.length→rest[j]?=ops[s+1+j]?:=fun j u=>by
   have:=q (j+1) (by simp;omega);simpa [Nat.add_assoc,Nat.add_comm 1 j] using this
  have next:∀ v w',gQ P N C ops k (s+1) rest (dv N f o.dst v) w'→fc P ops C (fun a w=>∃ f,R N a f∧k f w) (List.range' (s+1) rest.length) (a.put o.dst v) w':=
   fun v w' g=>ih (s+1) _ _ _ p (i.put _ _) g
  have c:(oZ P o.op o.type f w fun v w'=>(C w'∨lj ops s=true)∧gQ P N C ops k (s+1) rest (dv N f o.dst v) w')→
    bF P o a.eval w fun v w'=>(C w'∨lj ops s=true)∧fc P ops C (fun a w=>∃ f,R N a f∧k f w) (List.range' (s+1) rest.length) (a.put o.dst v) w':=by
   intro g;have:=og o g;rw[← i.eval] at this;exact this.mono fun v w' m=>⟨m.1,next _ _ m.2⟩
  have e:gi o.op=false→(nr P C o.op o.type f fun v=>gQ P N C ops k (s+1) rest (dv N f o.dst v) w)→
    ∃ v,eZ P C o a v∧fc P ops C (fun a w=>∃ f,R N a f∧k f w) (List.range' (s+1) rest.length) (a.put o.dst v) w:=by
   intro t g;obtain ⟨v,m,g⟩:=sO i t g;exact ⟨v,m,next _ _ g⟩
  simp only[List.length_cons,List.range'_succ,fc,r];obtain ⟨dst,op,ty,pos,after,guard⟩:=o
  cases guard with
  | none=>
   simp only[Region.wanted,if_true];simp only[gQ] at h
   cases hlo:gi op with
   | true=>simp only[hlo] at h;rw[if_pos rfl];exact c h
   | false=>simp only[hlo] at h;rw[if_neg (by simp)];exact e hlo h
  | some jw=>
   obtain ⟨j,want⟩:=jw;simp only[gQ] at h;simp only[Region.wanted]
   cases hd:(ops[j]?).bind (·.dst) with
   | none=>
    simp only[hd] at h;have:yielded ops a.tmps j=none:=by unfold yielded;simp[hd]
    simp[this];exact next _ _ h
   | some d=>
    simp only[hd] at h;have n:=ph i ops j d hd
    cases hfd:f d with
    | bool b=>
     simp only[hfd] at h n
     cases hlo:gi op <;> cases want <;> cases b <;> simp[dY,hlo] at h <;> simp[n] <;>
      first | exact c h | exact e hlo h | exact next _ _ h
    | _=>simp only[hfd] at h n;simp[n];exact next _ _ h
theorem uW {P:Program}{C:World→Prop}{op:Op}{ty:TypeId}{f:Fr}{k k':Value→Prop}(d:∀ v,k v→k' v)(h:nr P C op ty f k):nr P C op ty f k':=by
 have j:∀ {step:World→(Value→World→Prop)→Prop},qK C step k→qK C step k':=fun ⟨v,q,r⟩=>⟨v,q,d _ r⟩
 cases op <;> simp only[nr,force_eq] at h ⊢
 case move x=>exact d _ h
 case assign x=>exact d _ h
 case pick c a b=>
  split
  ·rename_i t l;simp only[l] at h;rw[dY] at h ⊢
   cases t
   ·exact d _ h
   ·exact d _ h
  ·rename_i l;split at h
   ·rename_i t s;exact absurd s (l t)
   ·exact h
 case nilCheck x=>
  split
  ·rename_i a e;simp only[e] at h;exact d _ h
  ·rename_i e;split at h
   ·rename_i a w;exact absurd w (e a)
   ·exact j h
 case binOp op t x y u=>
  split
  ·rename_i v g;simp only[g] at h;exact d _ h
  ·rename_i g;simp only[g] at h;exact j h
 case unOp op t x=>
  split
  ·rename_i b m;simp only[m] at h;exact d _ h
  ·rename_i m;split at h
   ·rename_i b n;exact (m b rfl n).elim
   ·exact j h
 case extract x i=>
  split
  ·rename_i p e;simp only[e] at h;split
   ·rename_i v g;simp only[g] at h;exact d _ h
   ·rename_i g;simp only[g] at h
  ·rename_i e;split at h
   ·rename_i p o;exact absurd o (e p)
   ·exact h
 all_goals exact j h
theorem sQ {P:Program}{N:Nat}{C:World→Prop}{ops:Array Oper}{k:Fr→World→Prop}(D:List Nat):∀ (s:Nat) (l:List Oper) (f:Fr) (w:World),(∀ x ∈ gW l,x ∈ D)→
  gQ P N C ops k s l f w→gQ P N C ops (fun a w'=>cX D a f∧k a w') s l f w:=by
 have gen:∀ (l:List Oper) (s:Nat) (f0 f:Fr) (w:World),cX D f f0→(∀ x ∈ gW l,x ∈ D)→gQ P N C ops k s l f w→gQ P N C ops (fun a w'=>cX D a f0∧k a w') s l f w:=by
  intro l
  induction l with
  | nil=>intro s f0 f w n _ h;exact ⟨n,h⟩
  | cons o rest ih=>
   intro s f0 f w n g h;obtain ⟨dst,op,ty,pos,after,guard⟩:=o;have p:∀ x ∈ gW rest,x ∈ D:=fun x i=>g x (by
    cases dst with
    | none=>simpa [gW] using i
    | some d=>simp only[gW,List.filterMap_cons];exact .tail _ i)
   have t:∀ x,dst=some x→x ∈ D:=fun x i=>g x (by subst i;simp[gW]);have c:∀ v w',gQ P N C ops k (s+1) rest (dv N f dst v) w'→gQ P N C ops (fun a w'=>cX D a f0∧k a w') (s+1) rest (dv N f dst v) w':=
    fun v w' e=>ih (s+1) f0 _ _ ((cX.dv t).trans n) p e
   have q:(oZ P op ty f w fun v w'=>(C w'∨lj ops s=true)∧gQ P N C ops k (s+1) rest (dv N f dst v) w')→oZ P op ty f w fun v w'=>(C w'∨lj ops s=true)∧gQ P N C ops (fun a w'=>cX D a f0∧k a w') (s+1) rest (dv N f dst v) w':=
    fun e=>pS (fun v w' m=>⟨m.1,c _ _ m.2⟩) e
   have r:(nr P C op ty f fun v=>gQ P N C ops k (s+1) rest (dv N f dst v) w)→nr P C op ty f fun v=>gQ P N C ops (fun a w'=>cX D a f0∧k a w') (s+1) rest (dv N f dst v) w:=
    fun e=>uW (fun v m=>c _ _ m) e
   cases guard with
   | none=>
    simp only[gQ] at h ⊢
    cases hlo:gi op <;> simp only[hlo] at h ⊢
    ·exact r h
    ·exact q h
   | some jw=>
    obtain ⟨j,want⟩:=jw;simp only[gQ] at h ⊢
    cases hdj:(ops[j]?).bind (·.dst) with
    | none=>simp only[hdj] at h ⊢;exact c _ _ h
    | some d=>
     simp only[hdj] at h ⊢
     cases hfd:f d with
     | bool b=>
      simp only[hfd] at h ⊢
      cases hlo:gi op <;> cases want <;> cases b <;> simp only[hlo,dY,if_true,if_false,Bool.false_eq_true] at h ⊢ <;> first | exact q h | exact r h | exact c _ _ h
     | _=>simp only[hfd] at h ⊢;exact c _ _ h
 exact fun s l f w g h=>gen l s f f w (.refl _ _) g h
theorem gY {P:Program}{N:Nat}{ops:Array Oper}{k:Fr→World→Prop}{f:Fr}{w:World}(C:World→Prop)(g:P.follows .mixedOrders=true)(b:(Region.noSelect ops&&xT ops)=true)(i:C w.drew)(h:gQ P N C ops k 0 ops.toList f w.drew):lk P N ops k f w:=by
 intro a c id Q l;simp only[Bool.and_eq_true] at b;refine zF (C:=C) (Q:=fun a w=>∃ d,R N a d∧(cX (gW ops.toList) d f∧k d w)) (fun a w ⟨f,c,e⟩=>l _ _ _ c e.1 e.2) g b.1 b.2 i ?_;have:=sP ops.toList 0 f w.drew a (fun j _=>by simp) c (sQ (gW ops.toList) 0 ops.toList f w.drew (fun _ h=>h) h);simpa [List.range_eq_range'] using this
attribute [irreducible] qK lk
def Bs (body:(Fr→World→Prop)→Fr→World→Prop)(f:Fr)(w:World):Prop:=
 ∃ J:Nat→Fr→World→Prop,(∃ n,J n f w)∧∀ n f w,J n f w→body (fun a w'=>∃ m,m<n∧J m a w') f w
def Bt (v:Value)(p q:Prop):Prop:=match v with | .bool b=>gU b p q | _=>False
def W (P:Program)(N:Nat):Code→(Fr→World→Prop)→(Nat→Fr→World→Prop)→(Fr→World→Prop)→Fr→World→Prop
 | .skip,d,_,_,f,w=>d f w
 | .label _,d,_,_,f,w=>d f w
 | .seq a b,d,kx,kr,f,w=>W P N a (fun f w=>W P N b d kx kr f w) kx kr f w
 | .cond c x y,d,kx,kr,f,w=>Bt (ev f c) (W P N x d kx kr f w) (W P N y d kx kr f w)
 | .block id c,d,kx,kr,f,w=>W P N c d (fun j f w=>bif Nat.beq j id then d f w else kx j f w) kr f w
 | .exit id,_,kx,_,f,w=>kx id f w
 | .ret,_,_,kr,f,w=>kr f w
 | .loop c,_,kx,kr,f,w=>Bs (fun d f w=>W P N c d kx kr f w) f w
 | .scope c,d,kx,kr,f,w=>W P N c d kx kr f w
 | .region _ ops draw,d,_,_,f,w=>match draw with
  | true=>lk P N ops d f w
  | false=>jM P N ops d ops.toList f w
 | _,_,_,_,_,_=>False
def postOf (N:Nat)(b:Fr→World→Prop)(c:Nat→Fr→World→Prop)(d:Fr→World→Prop):Exit→Act→World→Prop
 | .normal,a,w=>∃ f,R N a f∧b f w
 | .exit id,a,w=>∃ f,R N a f∧c id f w
 | .ret,a,w=>∃ f,R N a f∧d f w
 | _,_,_=>False
theorem zG {P:Program}{N:Nat}{ops:Array Oper}{k:Fr→World→Prop}{Q:Exit→Act→World→Prop}(p:∀ g i w',R N g i→k i w'→Q .normal g w') :
  ∀ (l:List Oper) (a:Act) (f:Fr) (w:World),R N a f→jM P N ops k l f w→wpList P ops Q l a w:=by
 intro l
 induction l with
 | nil=>intro a f w c h;exact p _ _ _ c h
 | cons o rest ih=>
  intro a f w c h;have run:pR P N o.dst o.op o.type f w (jM P N ops k rest)→o.wp P a w (wpList P ops Q rest) Q:=
   fun m=>xS c (fun g i w' n q=>ih _ _ _ n q) m
  have skip:jM P N ops k rest (dv N f o.dst undef) w→wpList P ops Q rest (a.put o.dst undef) w:=
   fun m=>ih _ _ _ (c.put _ _) m
  obtain ⟨dst,op,ty,pos,after,guard⟩:=o;unfold wpList
  cases guard with
  | none=>
   simp only[Region.wanted,if_true];exact .inl (run h)
  | some jw=>
   obtain ⟨j,want⟩:=jw;simp only[jM] at h;simp only[Region.wanted]
   cases hd:(ops[j]?).bind (·.dst) with
   | none=>
    simp only[hd] at h;have:yielded ops a.tmps j=none:=by unfold yielded;simp[hd]
    simp[this];exact skip h
   | some d=>
    simp only[hd] at h;have e:=ph c ops j d hd
    cases hfd:f d with
    | bool b=>
     simp only[hfd] at h e
     cases want <;> cases b <;> simp[dY] at h <;> simp[e] <;> first | exact .inl (run h) | exact skip h
    | _=>simp only[hfd] at h e;simp[e];exact skip h
theorem nt {p:Nat→Prop}(h:∃ n,p n):∃ n,p n∧∀ m,p m→n≤m:=by
 obtain ⟨n,c⟩:=h
 induction n using Nat.strongRecOn with
 | _ n ih=>
  by_cases hm:∃ m,m<n∧p m
  ·obtain ⟨m,a,b⟩:=hm;exact ih m a b
  ·exact ⟨n,c,fun m b=>Nat.le_of_not_lt fun a=>hm ⟨m,a,b⟩⟩
theorem GD {P:Program}{N:Nat}(c:Code):∀ (k:Fr→World→Prop) (o:Nat→Fr→World→Prop) (q:Fr→World→Prop) (f:Fr) (w:World) (a:Act),
  R N a f→W P N c k o q f w→c.wp P (postOf N k o q) a w:=by
 induction c with
 | skip=>intro k o q f w a g h;exact wp_skip ⟨f,g,h⟩
 | label l=>intro k o q f w a g h;exact wp_label ⟨f,g,h⟩
 | exit id=>intro k o q f w a g h;exact wp_exit ⟨f,g,h⟩
 | ret=>intro k o q f w a g h;exact wp_ret ⟨f,g,h⟩
 | goto l=>intro k o q f w a g h;exact h.elim
 | refuse y=>intro k o q f w a g h;exact h.elim
 | scope c ih=>
  intro k o q f w a g h;refine wp_scope_straight (Code.wp_mono ?_ (ih _ _ _ _ _ _ g h));intro e a w d
  cases e with
  | normal=>exact d
  | exit id=>exact d
  | goto l=>exact d.elim
  | ret=>exact d
  | panic ch=>exact d.elim
  | outgrown=>exact d.elim
 | rangeFunc x p s b ih1 ih2=>intro k o q f w a g h;exact h.elim
 | seq x y ihx ihy=>
  intro k o q f w a g h;refine wp_seq (Code.wp_mono ?_ (ihx _ _ _ _ _ _ g h));intro e a w d
  cases e with
  | normal=>obtain ⟨r,i,t⟩:=d;exact ihy _ _ _ _ _ _ i t
  | exit id=>exact d
  | goto l=>exact d.elim
  | ret=>exact d
  | panic ch=>exact d.elim
  | outgrown=>exact d.elim
 | cond c x y ihx ihy=>
  intro k o q f w a g h;simp only[W,Bt] at h;split at h
  ·rename_i b E;have F:a.eval c=.bool b:=by rw[g.eval,E]
   rw[dY] at h;refine wp_cond F ?_
   cases b
   ·exact ihy _ _ _ _ _ _ g (by simpa using h)
   ·exact ihx _ _ _ _ _ _ g (by simpa using h)
  ·exact h.elim
 | block id c ih=>
  intro k o q f w a g h;refine wp_block (Code.wp_mono ?_ (ih _ _ _ _ _ _ g h));intro e a w d
  cases e with
  | normal=>exact d
  | exit j=>
   obtain ⟨r,i,t⟩:=d;simp only[Exit.inBlock];by_cases B:j=id
   ·subst B;rw[if_pos rfl];have:Nat.beq j j=true:=Nat.beq_refl j;rw[this] at t;exact ⟨r,i,t⟩
   ·rw[if_neg B];have:Nat.beq j id=false:=by
     rw[Bool.eq_false_iff];intro G;exact B (Nat.eq_of_beq_eq_true G)
    rw[this] at t;exact ⟨r,i,t⟩
  | goto l=>exact d.elim
  | ret=>exact d
  | panic ch=>exact d.elim
  | outgrown=>exact d.elim
 | loop c ih=>
  intro k o q f w a g h;obtain ⟨J,⟨K,M⟩,v⟩:=h
  classical
  let I:Act→World→Prop:=fun a w=>∃ n f,R N a f∧J n f w
  let O:Act→World→Nat:=fun a w=>if h:∃ n,∃ f,R N a f∧J n f w then Classical.choose (nt h) else 0
  refine wp_loop I O ⟨K,f,g,M⟩ ?_;intro a w Q;have hex:∃ n,∃ f,R N a f∧J n f w:=Q;obtain ⟨⟨f1,C,D⟩,_⟩:=Classical.choose_spec (nt hex);refine Code.wp_mono ?_ (ih _ _ _ _ _ _ C (v _ _ _ D));intro e A w' d
  cases e with
  | normal=>
   obtain ⟨r,i,m,hm,z⟩:=d;refine ⟨⟨m,r,i,z⟩,?_⟩;have u:∃ n,∃ f,R N A f∧J n f w':=⟨m,r,i,z⟩;show (if h:∃ n,∃ f,R N A f∧J n f w' then Classical.choose (nt h) else 0)<(if h:∃ n,∃ f,R N a f∧J n f w then Classical.choose (nt h) else 0);rw[dif_pos u,dif_pos hex];exact Nat.lt_of_le_of_lt ((Classical.choose_spec (nt u)).2 m ⟨r,i,z⟩) hm
  | exit id=>exact d
  | goto l=>exact d.elim
  | ret=>exact d
  | panic ch=>exact d.elim
  | outgrown=>exact d.elim
 | region id ops draw=>
  intro k o q f w a g h
  cases draw with
  | true=>simp only[W] at h;unfold lk at h;exact h a g id _ fun A r w' i _ t=>⟨r,i,t⟩
  | false=>exact wp_region_list (zG (fun A r w' i t=>⟨r,i,t⟩) _ _ _ _ g h)
def writes:Code→List Nat
 | .seq a b=>writes a++writes b
 | .cond _ x y=>writes x++writes y
 | .block _ c=>writes c
 | .loop c=>writes c
 | .scope c=>writes c
 | .region _ ops _=>gW ops.toList
 | _=>[]
theorem zH {P:Program}{N:Nat}{ops:Array Oper}{k:Fr→World→Prop}(D:List Nat):∀ (l:List Oper) (f0 f:Fr) (w:World),cX D f f0→(∀ x ∈ gW l,x ∈ D)→
  jM P N ops k l f w→jM P N ops (fun a w'=>cX D a f0∧k a w') l f w:=by
 intro l
 induction l with
 | nil=>intro f0 f w g _ h;exact ⟨g,h⟩
 | cons o rest ih=>
  intro f0 f w g n h;obtain ⟨dst,op,ty,pos,after,guard⟩:=o;have i:∀ x ∈ gW rest,x ∈ D:=fun x c=>n x (by
   cases dst with
   | none=>simpa [gW] using c
   | some d=>simp only[gW,List.filterMap_cons];exact .tail _ c)
  have q:∀ x,dst=some x→x ∈ D:=fun x c=>n x (by subst c;simp[gW]);have e:∀ v w',jM P N ops k rest (dv N f dst v) w'→jM P N ops (fun a w'=>cX D a f0∧k a w') rest (dv N f dst v) w':=
   fun v w' m=>ih f0 _ _ ((cX.dv q).trans g) i m
  have p:pR P N dst op ty f w (jM P N ops k rest)→pR P N dst op ty f w (jM P N ops (fun a w'=>cX D a f0∧k a w') rest):=
   fun m=>pS (fun v w' r=>e _ _ r) m
  cases guard with
  | none=>simp only[jM] at h ⊢;exact p h
  | some jw=>
   obtain ⟨j,want⟩:=jw;simp only[jM] at h ⊢
   cases hdj:(ops[j]?).bind (·.dst) with
   | none=>simp only[hdj] at h ⊢;exact e _ _ h
   | some d=>
    simp only[hdj] at h ⊢
    cases hfd:f d with
    | bool b=>
     simp only[hfd] at h ⊢
     cases want <;> cases b <;> simp only[dY,if_true,if_false,Bool.false_eq_true] at h ⊢ <;> first | exact p h | exact e _ _ h
    | _=>simp only[hfd] at h ⊢;exact e _ _ h
theorem qT {P:Program}{N:Nat}(c:Code):∀ {r e:Fr→World→Prop} {t g:Nat→Fr→World→Prop} {u i:Fr→World→Prop} {f:Fr} {w:World},
  (∀ f w,r f w→e f w)→(∀ j f w,t j f w→g j f w)→(∀ f w,u f w→i f w)→W P N c r t u f w→W P N c e g i f w:=by
 induction c with
 | skip=>intro r e t g u i f w k m q h;exact k _ _ h
 | label l=>intro r e t g u i f w k m q h;exact k _ _ h
 | exit id=>intro r e t g u i f w k m q h;exact m _ _ _ h
 | ret=>intro r e t g u i f w k m q h;exact q _ _ h
 | goto l=>intro r e t g u i f w k m q h;exact h.elim
 | refuse y=>intro r e t g u i f w k m q h;exact h.elim
 | scope c ih=>intro r e t g u i f w k m q h;exact ih k m q h
 | rangeFunc x p s b ih1 ih2=>intro r e t g u i f w k m q h;exact h.elim
 | seq x y ihx ihy=>intro r e t g u i f w k m q h;exact ihx (fun f w z=>ihy k m q z) m q h
 | cond c x y ihx ihy=>
  intro r e t g u i f w k m q h;simp only[W,Bt] at h ⊢;split
  ·rename_i b A;simp only[A] at h;rw[dY] at h ⊢
   cases b
   ·exact ihy k m q h
   ·exact ihx k m q h
  ·rename_i A;split at h
   ·rename_i b B;exact absurd B (A b)
   ·exact h
 | block id c ih=>
  intro r e t g u i f w k m q h;refine ih k (fun j f w z=>?_) q h
  cases hj:Nat.beq j id <;> simp only[hj,cond_true,cond_false] at z ⊢
  ·exact m _ _ _ z
  ·exact k _ _ z
 | loop c ih=>
  intro r e t g u i f w k m q h;obtain ⟨J,E,hs⟩:=h;exact ⟨J,E,fun n f w F=>ih (fun _ _ h=>h) m q (hs n f w F)⟩
 | region id ops draw=>
  intro r e t g u i f w k m q h
  cases draw with
  | true=>
   simp only[W] at h ⊢;unfold lk at h ⊢;exact fun a G id Q I=>h a G id Q fun S T w' C K M=>I _ _ _ C K (k _ _ M)
  | false=>
   simp only[W] at h ⊢;have gen:∀ (l:List Oper) (f:Fr) (w:World),jM P N ops r l f w→jM P N ops e l f w:=by
    intro l
    induction l with
    | nil=>intro f w h;exact k _ _ h
    | cons o rest ih=>
     intro f w h;obtain ⟨dst,op,ty,pos,after,guard⟩:=o;have D:pR P N dst op ty f w (jM P N ops r rest)→pR P N dst op ty f w (jM P N ops e rest):=fun z=>pS (fun v w' O=>ih _ _ O) z
     cases guard with
     | none=>simp only[jM] at h ⊢;exact D h
     | some jw=>
      obtain ⟨j,want⟩:=jw;simp only[jM] at h ⊢
      cases hdj:(ops[j]?).bind (·.dst) with
      | none=>simp only[hdj] at h ⊢;exact ih _ _ h
      | some d=>
       simp only[hdj] at h ⊢
       cases hfd:f d with
       | bool b=>
        simp only[hfd] at h ⊢
        cases want <;> cases b <;> simp only[dY,if_true,if_false,Bool.false_eq_true] at h ⊢ <;> first | exact D h | exact ih _ _ h
       | _=>simp only[hfd] at h ⊢;exact ih _ _ h
   exact gen _ _ _ h
theorem Bu {P:Program}{N:Nat}(c:Code):∀ {D:List Nat} {g:Fr→World→Prop} {i:Nat→Fr→World→Prop} {k:Fr→World→Prop} {f0 f:Fr} {w:World},
  cX D f f0→(∀ x ∈ writes c,x ∈ D)→W P N c g i k f w→W P N c (fun q w'=>cX D q f0∧g q w') i k f w:=by
 have aux:∀ (c:Code) {D:List Nat} {g:Fr→World→Prop} {i:Nat→Fr→World→Prop} {k:Fr→World→Prop} {f0 f:Fr} {w:World},
   cX D f f0→(∀ x ∈ writes c,x ∈ D)→W P N c g i k f w→W P N c (fun q w'=>cX D q f0∧g q w') (fun j q w'=>cX D q f0∧i j q w') k f w:=by
  intro c
  induction c with
  | skip=>intro D g i k f0 f w d _ h;exact ⟨d,h⟩
  | label l=>intro D g i k f0 f w d _ h;exact ⟨d,h⟩
  | exit id=>intro D g i k f0 f w d _ h;exact ⟨d,h⟩
  | ret=>intro D g i k f0 f w d _ h;exact h
  | goto l=>intro D g i k f0 f w d _ h;exact h.elim
  | refuse y=>intro D g i k f0 f w d _ h;exact h.elim
  | scope c ih=>intro D g i k f0 f w d o h;exact ih d (fun x r=>o x (by simpa [writes] using r)) h
  | rangeFunc x p s b ih1 ih2=>intro D g i k f0 f w d _ h;exact h.elim
  | seq x y ihx ihy=>
   intro D g i k f0 f w d o h;have C:=ihx d (fun x r=>o x (by simp[writes,r])) h;exact qT x (fun q w' e=>ihy e.1 (fun x r=>o x (by simp[writes,r])) e.2) (fun _ _ _ e=>e) (fun _ _ e=>e) C
  | cond c x y ihx ihy=>
   intro D g i k f0 f w d o h;simp only[W,Bt] at h ⊢;split
   ·rename_i b u;simp only[u] at h;rw[dY] at h ⊢
    cases b
    ·exact ihy d (fun x r=>o x (by simp[writes,r])) h
    ·exact ihx d (fun x r=>o x (by simp[writes,r])) h
   ·rename_i u;split at h
    ·rename_i b v;exact absurd v (u b)
    ·exact h
  | block id c ih=>
   intro D g i k f0 f w d o h;refine qT c (fun _ _ e=>e) (fun j f w e=>?_) (fun _ _ e=>e) (ih d o h)
   cases hj:Nat.beq j id <;> simp only[hj,cond_true,cond_false] at e ⊢
   ·exact e
   ·exact e
  | loop c ih=>
   intro D g i k f0 f w d o h;obtain ⟨J,⟨E,F⟩,hs⟩:=h;refine ⟨fun n f w=>cX D f f0∧J n f w,⟨E,d,F⟩,fun n f w B=>?_⟩;exact qT c (fun q w' ⟨t,m,hm,z⟩=>⟨m,hm,t,z⟩) (fun _ _ _ e=>e) (fun _ _ e=>e) (ih B.1 o (hs n f w B.2))
  | region id ops draw=>
   intro D g i k f0 f w d o h
   cases draw with
   | true=>
    simp only[W] at h ⊢;unfold lk at h ⊢;exact fun a G id Q I=>h a G id Q fun M q w' A t K=>I _ _ _ A t ⟨(t.mono o).trans d,K⟩
   | false=>exact zH D _ f0 f w d o h
 intro D g i k f0 f w d o h;exact qT c (fun _ _ e=>e) (fun _ _ _ e=>e.2) (fun _ _ e=>e) (aux c d o h)
def look:List (Nat × Value)→Nat→Value→Value
 | [],_,d=>d
 | (s,v)::l,t,d=>bif Nat.beq t s then v else look l t d
def Lo (l:List (Nat × Value))(M:List Nat)(u f:Fr):Fr:=fun t=>look l t (bif M.elem t then u t else f t)
def Has (f:Fr):List (Nat × Value)→Prop
 | []=>True
 | (s,v)::l=>f s=v∧Has f l
theorem DV {l:List (Nat × Value)}{M:List Nat}{f f0:Fr}(b:cX M f f0)(c:Has f l):f=Lo l M f f0:=by
 funext t
 have a:(bif M.elem t then f t else f0 t)=f t:=by
  cases he:M.elem t with
  | true=>rfl
  | false=>simp only[cond_false];exact (b t (by simpa using he)).symm
 show f t=look l t (bif M.elem t then f t else f0 t);rw[a]
 induction l with
 | nil=>rfl
 | cons p l ih=>
  obtain ⟨s,v⟩:=p;obtain ⟨d,e⟩:=c;simp only[look]
  cases hb:Nat.beq t s with
  | true=>rw[Nat.eq_of_beq_eq_true hb];exact d
  | false=>exact ih e
theorem uX {P:Program}{N:Nat}{c:Code}{o:Nat→Fr→World→Prop}{p:Fr→World→Prop}{f:Fr}{w:World}{γ:Type}(M:List Nat)(r:writes c=M)(l:γ→List (Nat × Value))(I:γ→World→Prop)(b:γ→Nat)(e:γ)(s:Has f (l e))(t:I e w)(step:∀ x u w,I x w→W P N c (fun a w'=>∃ y,b y<b x∧Has a (l y)∧I y w') o p (Lo (l x) M u f) w):Bs (fun v f w=>W P N c v o p f w) f w:=by
 subst r;refine ⟨fun n a w'=>cX (writes c) a f∧∃ x,b x=n∧Has a (l x)∧I x w',⟨b e,.refl _ _,e,rfl,s,t⟩,?_⟩;rintro n a w' ⟨q,x,rfl,z,g⟩;have hs:=step x a w' g;rw[← DV q z] at hs;refine qT c (fun f2 A d=>?_) (fun _ _ _ d=>d) (fun _ _ d=>d) (Bu c q (fun _ h=>h) hs);obtain ⟨i,y,j,k,m⟩:=d;exact ⟨b y,j,i,y,rfl,k,m⟩
attribute [irreducible] Bs
theorem xU {P:Program}{N:Nat}{a b:Code}{g:Fr→World→Prop}{d:Nat→Fr→World→Prop}{e:Fr→World→Prop}{f:Fr}{w:World}{γ:Type}(M:List Nat)(i:writes a=M)(l:γ→List (Nat × Value))(I:γ→World→Prop)(j:W P N a (fun k w'=>∃ y,Has k (l y)∧I y w') d e f w)(m:∀ x u w,I x w→W P N b g d e (Lo (l x) M u f) w):W P N (.seq a b) g d e f w:=by
 subst i;refine qT a (fun f2 n c=>?_) (fun _ _ _ c=>c) (fun _ _ c=>c) (Bu a (.refl _ _) (fun _ h=>h) j);obtain ⟨o,y,p,q⟩:=c;have:=m y f2 n q
 rwa [← DV o p] at this
theorem ak {P:Program}{N:Nat}{a b:Code}{e:Fr→World→Prop}{c:Nat→Fr→World→Prop}{d:Fr→World→Prop}{f:Fr}{w:World}{γ:Type}(l:γ→List (Nat × Value))(I:γ→World→Prop)(g:W P N a (fun h w'=>∃ y,Has h (l y)∧I y w') c d f w)(i:∀ x u w,I x w→W P N b e c d (Lo (l x) (writes a) u f) w):W P N (.seq a b) e c d f w:=xU _ rfl l I g i
theorem aw {P:Program}{N:Nat}{a b:Code}{e:Fr→World→Prop}{c:Nat→Fr→World→Prop}{d:Fr→World→Prop}{f:Fr}{w:World}(I:World→Prop)(g:W P N a (fun h w'=>∃ y:Unit,Has h ((fun _=>[]) y)∧I w') c d f w)(i:∀ (_:Unit) u w,I w→W P N b e c d (Lo [] (writes a) u f) w):W P N (.seq a b) e c d f w:=xU (γ:=Unit) _ rfl (fun _=>[]) (fun _ w'=>I w') g i
theorem ax {P:Program}{N:Nat}{c:Code}{d:Nat→Fr→World→Prop}{e:Fr→World→Prop}{f:Fr}{w:World}{γ:Type}(l:γ→List (Nat × Value))(I:γ→World→Prop)(a:γ→Nat)(b:γ)(g:Has f (l b))(h:I b w)(step:∀ x u w,I x w→W P N c (fun i w'=>∃ y,a y<a x∧Has i (l y)∧I y w') d e (Lo (l x) (writes c) u f) w):Bs (fun j f w=>W P N c j d e f w) f w:=uX _ rfl l I a b g h step
def vY (P:Program)(f:Fr)(w:World)(k:Value→World→Prop):List ResultVar→List Value→Prop
 | [],acc=>k (match acc with | [v]=>v | vs=>.tuple vs.toArray) w
 | .tmp t::rs,acc=>force (f t) fun v=>vY P f w k rs (acc++[v])
 | .cell p t::rs,acc=>fb P t (f p) w fun v w'=>w'=w∧vY P f w k rs (acc++[v])
def zI (l:List Value):Fr:=fun t=>l.getD t undef
def GF (tmps:Array Value):ResultVar→Sem Value
 | .tmp t=>pure (tmps.getD t undef)
 | .cell a t=>do loadVar t (← asAddr (tmps.getD a undef))
theorem DW {P:Program}{N:Nat}{a:Act}{f:Fr}(i:R N a f){post:Value→World→Prop}{w:World} :
  ∀ (rs:List ResultVar) (acc:List Value),vY P f w post rs acc→
   ∃ b,(rs.mapM (GF a.tmps)).run P w=.ok b w∧post (match acc++b with | [v]=>v | b=>.tuple b.toArray) w:=by
 intro rs
 induction rs with
 | nil=>intro acc h;exact ⟨[],rfl,by simpa [vY] using h⟩
 | cons r rs ih=>
  intro acc h
  cases r with
  | tmp t=>
   simp only[vY,force_eq] at h;obtain ⟨b,d,e⟩:=ih _ h;refine ⟨f t::b,?_,by simpa using e⟩;simp only[List.mapM_cons,GF,pure_bind,i.get];rw[Sem.run_bind,d];rfl
  | cell p t=>
   simp only[vY] at h;unfold fb at h;obtain ⟨v,w',c,rfl,h⟩:=h;obtain ⟨b,d,e⟩:=ih _ h;refine ⟨v::b,?_,by simpa using e⟩;simp only[List.mapM_cons,GF,i.get];have g:(do loadVar t (← asAddr (f p))).run P w'=.ok v w':=by
    unfold Instr.loadAt at c
    cases hfp:f p with
    | pointer ad=>
     cases ad with
     | some ad=>simpa [hfp,Instr.sureAddr,asAddr] using c
     | none=>simp[hfp,Instr.sureAddr,stuck,bind,Sem.bind] at c
    | _=>simp[hfp,Instr.sureAddr,stuck,bind,Sem.bind] at c
   rw[Sem.run_bind,g];simp only[Result.andThen_ok];rw[Sem.run_bind,d];rfl
theorem rH {P:Program}{N:Nat}{fn:Func}{a:Act}{f:Fr}(d:R N a f){post:Value→World→Prop}{w:World}{rs:List ResultVar}(c:fn.results=rs.toArray)(h:vY P f w post rs []):∃ v,(results fn a.tmps).run P w=.ok v w∧post v w:=by
 obtain ⟨b,g,i⟩:=DW d rs [] h;refine ⟨_,?_,i⟩;have e:results fn a.tmps=(do let b ← rs.mapM (GF a.tmps);pure (match b with | [v]=>v | b=>.tuple b.toArray)):=by
  unfold results;rw[c,List.mapM_toArray];simp only[map_eq_pure_bind,bind_assoc,pure_bind]
  congr 1
  funext b
  match b with
  | []=>rfl
  | [v]=>rfl
  | v::u::b=>simp
 rw[e,Sem.run_bind,g];simp
theorem ar {P:Program}{g:FuncId}{fn:Func}{c:Code}{args:List Value}{w:World}{post:Value→World→Prop}{N:Nat}{rs:List ResultVar}(o:P.funcs[g]?=some fn)(i:enters P g=true)(p:fn.body=some c)(q:fn.ntmps=N)(j:fn.results=rs.toArray)(r:args.length≤N)(h:W P N c (fun f w=>vY P f w post rs []) (fun _ _ _=>False) (fun f w=>vY P f w post rs []) (zI args) w):bw P g args w post:=by
 refine ⟨i,calls_of_wp o p ?_⟩;have b:R N { tmps:=args.toArray++Array.replicate (fn.ntmps - args.toArray.size) undef,defers:=[] } (zI args):=by
  subst q;refine ⟨rfl,by simp;omega,fun t=>?_⟩;simp only[zI,Array.getD_eq_getD_getElem?,List.getD_eq_getElem?_getD];by_cases n:t<args.length
  ·simp[Array.getElem?_append,n]
  ·simp[Array.getElem?_append,n,Array.getElem?_replicate];split <;> simp
 refine Code.wp_mono ?_ (GD c _ _ _ _ _ _ b h);intro e a w' d
 cases e with
 | normal=>obtain ⟨f,b,h⟩:=d;obtain ⟨v,k,m⟩:=rH b j h;exact ⟨b.defers,v,k,v,rfl,m⟩
 | ret=>obtain ⟨f,b,h⟩:=d;obtain ⟨v,k,m⟩:=rH b j h;exact ⟨b.defers,v,k,v,rfl,m⟩
 | exit id=>obtain ⟨f,b,h⟩:=d;exact h.elim
 | goto l=>exact d.elim
 | panic ch=>exact d.elim
 | outgrown=>exact d.elim
open Go
def gX (ops:Array Oper):Array Bool→List Nat→Prop
 | listed,[]=>Region.ready .any ops listed=[]
 | listed,i::r=>i ∈ Region.ready .any ops listed∧gX ops (listed.setIfInBounds i true) r
theorem xV {P:Program}{ops:Array Oper}{Q:Exit→Act→World→Prop}:∀ (b:List Nat) (fuel:Nat) (listed:Array Bool) (a:Act) (w:World),b.length≤fuel→gX ops listed b→
  wpAny P .any ops Q fuel listed a w→wpOps P ops Q b a w:=by
 intro b
 induction b with
 | nil=>
  intro fuel listed a w _ c h
  cases fuel with
  | zero=>simpa [wpOps] using h.2
  | succ n=>simpa [wpOps] using h.1 c
 | cons i r ih=>
  intro fuel listed a w d c h
  cases fuel with
  | zero=>simp at d
  | succ n=>
   rw[wpOps_cons];exact wpOp_mono (fun a w e=>ih n _ a w (by simpa using d) c.2 e) (h.2 i c.1)
def I5 (n:Nat)(listed:Array Bool):Nat:=((List.range n).filter fun i=> !listed.getD i true).length
theorem GG {n:Nat}{listed:Array Bool}{i:Nat}(hi:i<n)(hu:listed.getD i true=false):I5 n (listed.setIfInBounds i true)+1=I5 n listed:=by
 unfold I5;have a:i<listed.size:=by
  rcases Nat.lt_or_ge i listed.size with h | h
  ·exact h
  ·simp[Array.getElem?_eq_none h] at hu
 have c:((List.range n).filter fun j=> !listed.getD j true).Perm (i::(List.range n).filter fun j=> !(listed.setIfInBounds i true).getD j true):=by
  refine (List.perm_ext_iff_of_nodup (List.nodup_range.filter _) (List.nodup_cons.2 ⟨?_,List.nodup_range.filter _⟩)).2 fun j=>?_
  ·rw[List.mem_filter];simp[a]
  ·rw[List.mem_filter,List.mem_cons,List.mem_filter];by_cases b:i=j
   ·subst b;simp[hi,hu]
   ·rw[getD_set_ne true b];simp[Ne.symm b]
 have:=c.length_eq;simpa using this.symm
theorem xW {ops:Array Oper}:∀ (fuel t:Nat) (listed:Array Bool),I5 ops.size listed≤fuel→gX ops listed (Region.linearise.go .any ops fuel t listed []):=by
 intro fuel
 induction fuel with
 | zero=>
  intro t listed h;simp only[Region.linearise.go,List.reverse_nil,gX];rw[List.eq_nil_iff_forall_not_mem];intro i hi;obtain ⟨b,e,c,_⟩:=mem_ready.1 hi;have a:i<ops.size:=(Array.getElem?_eq_some_iff.1 c).1;have:i ∈ (List.range ops.size).filter fun i=> !listed.getD i true:=List.mem_filter.2 ⟨List.mem_range.2 a,by simp[b]⟩;have f:I5 ops.size listed=0:=by omega
  rw[List.length_eq_zero_iff.1 f] at this
  cases this
 | succ fuel ih=>
  intro t listed h;simp only[Region.linearise.go];change gX ops listed (match (Region.ready .any ops listed)[t % (Region.ready .any ops listed).length]? with
   | some i=>Region.linearise.go .any ops fuel (t / (Region.ready .any ops listed).length) (listed.setIfInBounds i true) [i]
   | none=>[].reverse)
  cases hi:(Region.ready .any ops listed)[t % (Region.ready .any ops listed).length]? with
  | none=>
   cases hr:Region.ready .any ops listed with
   | nil=>simp[gX,hr]
   | cons x xs=>
    rw[hr] at hi;have a:t % (x::xs).length<(x::xs).length:=Nat.mod_lt _ (by simp);simp at hi;simp at a;omega
  | some i=>
   simp only[];rw[linearise_go_acc,List.reverse_singleton,List.singleton_append];have d:=List.mem_of_getElem? hi;obtain ⟨b,e,c,_⟩:=mem_ready.1 d;have a:i<ops.size:=(Array.getElem?_eq_some_iff.1 c).1;have:=GG a b;exact ⟨d,ih _ _ (by omega)⟩
def nu (ops:Array Oper)(i:Nat):Bool:=match ops[i]? with | some o=>gi o.op | none=>false
def ll (pos:Nat→Nat)(extra:List Edge)(o:Oper):Oper:=
 { o with after:=((o.after.toList.map fun e=>(⟨pos e.on,e.ground⟩:Edge))++extra).toArray,guard:=o.guard.map fun a=>(pos a.1,a.2) }
def zJ (ops:Array Oper)(lam ord:List Nat)(i:Nat):List Edge:=
 bif nu ops i then (lam.takeWhile fun k=>k !=i).map fun k=>⟨ord.idxOf k,.data⟩ else []
def rI (ops:Array Oper)(lam ord:List Nat):Array Oper:=(ord.map fun i=>ll (fun j=>ord.idxOf j) (zJ ops lam ord i) ((ops[i]?).getD default)).toArray
def ew (n:Nat)(ord:List Nat):Bool:=decide ord.Nodup&&(ord.length==n)&&(List.range n).all (fun i=>ord.contains i)&&ord.all (fun i=>decide (i<n))
section
variable {ops:Array Oper} {lam ord:List Nat}
theorem fD (h:ew ops.size ord=true){i:Nat}(hi:i<ops.size):ord.idxOf i<ops.size∧ord[ord.idxOf i]?=some i:=by
 unfold ew at h;simp only[Bool.and_eq_true,decide_eq_true_eq,beq_iff_eq,List.all_eq_true,List.mem_range,List.contains_iff_mem] at h;have hm:=h.1.2 i hi;have a:=List.idxOf_lt_length_of_mem hm;exact ⟨by have:=h.1.1.2;omega,by rw[List.getElem?_eq_getElem a,List.getElem_idxOf]⟩
theorem xX (h:ew ops.size ord=true){i j:Nat}(hi:i<ops.size)(b:j<ops.size)(e:ord.idxOf i=ord.idxOf j):i=j:=by
 have a:=(fD h hi).2;have c:=(fD h b).2;rw[e,c] at a;injection a with a;exact a.symm
theorem ku (h:ew ops.size ord=true){p:Nat}(e:p<ops.size):∃ i,i<ops.size∧ord.idxOf i=p:=by
 have b:=h;unfold ew at b;simp only[Bool.and_eq_true,decide_eq_true_eq,beq_iff_eq,List.all_eq_true,List.mem_range,List.contains_iff_mem] at b;obtain ⟨⟨⟨d,f⟩,_⟩,c⟩:=b;have a:p<ord.length:=by omega
 refine ⟨ord[p],c _ (List.getElem_mem a),?_⟩;exact List.Nodup.idxOf_getElem d p a
theorem pT (h:ew ops.size ord=true):(rI ops lam ord).size=ops.size:=by
 unfold ew at h;simp only[Bool.and_eq_true,beq_iff_eq] at h;simp[rI,h.1.1.2]
theorem qU (h:ew ops.size ord=true){i:Nat}{o:Oper}(b:ops[i]?=some o):(rI ops lam ord)[ord.idxOf i]?=some (ll (fun j=>ord.idxOf j) (zJ ops lam ord i) o):=by
 have a:i<ops.size:=(Array.getElem?_eq_some_iff.1 b).1;unfold rI;rw[List.getElem?_toArray,List.getElem?_map,(fD h a).2];simp[b]
theorem GH (h:ew ops.size ord=true)(g:Nat):((rI ops lam ord)[ord.idxOf g]?).bind (·.dst)=(ops[g]?).bind (·.dst):=by
 cases hg:ops[g]? with
 | some o=>rw[qU h hg];rfl
 | none=>
  have c:ops.size≤g:=Array.getElem?_eq_none_iff.1 hg;have a:¬ g ∈ ord:=by
   intro hm;have d:ord.idxOf g<ops.size:=by
    have:=List.idxOf_lt_length_of_mem hm;unfold ew at h;simp only[Bool.and_eq_true,beq_iff_eq] at h;omega
   obtain ⟨i,hi,e⟩:=ku h d;have b:=(fD h hi).2;rw[e,List.getElem?_eq_getElem (List.idxOf_lt_length_of_mem hm),List.getElem_idxOf] at b;injection b with b;omega
  have:(rI ops lam ord)[ord.idxOf g]?=none:=by
   rw[Array.getElem?_eq_none_iff,pT h];rw[List.idxOf_eq_length a];unfold ew at h;simp only[Bool.and_eq_true,beq_iff_eq] at h;omega
  rw[this]
theorem vZ (h:ew ops.size ord=true)(ex:List Edge)(o:Oper)(tmps:Array Value):Region.wanted (ll (fun j=>ord.idxOf j) ex o) (yielded (rI ops lam ord) tmps)=Region.wanted o (yielded ops tmps):=by
 unfold Region.wanted ll
 cases hg:o.guard with
 | none=>simp
 | some gb=>
  obtain ⟨g,b⟩:=gb;simp only[Option.map_some];have:yielded (rI ops lam ord) tmps (ord.idxOf g)=yielded ops tmps g:=by
   unfold yielded;rw[GH h]
  rw[this]
theorem I6 {P:Program}{Q:Exit→Act→World→Prop}(h:ew ops.size ord=true):∀ (c:List Nat),(∀ i ∈ c,i<ops.size)→∀ a w,wpOps P (rI ops lam ord) Q (c.map fun i=>ord.idxOf i) a w→wpOps P ops Q c a w:=by
 intro c
 induction c with
 | nil=>intro _ a w b;exact b
 | cons i r ih=>
  intro d a w b;rw[List.map_cons,wpOps_cons] at b;rw[wpOps_cons];have b:=wpOp_mono (fun a w f=>ih (fun j g=>d j (.tail _ g)) a w f) b;have hi:=d i (.head _);have e:ops[i]?=some ops[i]:=Array.getElem?_eq_getElem hi;unfold wpOp at b ⊢;rw[qU h e] at b;rw[e];simp only[vZ h] at b ⊢;exact b
theorem j9 {l:Array Bool}{i:Nat}(h:l.getD i false=true):i<l.size:=by
 rcases Nat.lt_or_ge i l.size with a | a
 ·exact a
 ·simp[Array.getElem?_eq_none a] at h
theorem sR {l:Array Bool}{i:Nat}(h:i<l.size)(d a:Bool):l.getD i d=l.getD i a:=by simp[Array.getD,h]
theorem oj (h:ew ops.size ord=true){g:Nat}(a:ops.size≤g):ord.idxOf g=ops.size:=by
 unfold ew at h;simp only[Bool.and_eq_true,decide_eq_true_eq,beq_iff_eq,List.all_eq_true] at h;rw[List.idxOf_eq_length fun hm=>by have:=h.2 g hm;omega];exact h.1.1.2
theorem lW {i:Nat}:∀ (done rest:List Nat),¬ i ∈ done→(done++i::rest).takeWhile (fun k=>k !=i)=done:=by
 intro done
 induction done with
 | nil=>intro rest _;simp
 | cons a l ih=>
  intro rest h;simp only[List.mem_cons,not_or] at h;rw[List.cons_append,List.takeWhile_cons_of_pos (by simpa using Ne.symm h.1),ih rest h.2]
theorem Cq (h:ew ops.size ord=true)(E:lam.Nodup):∀ (z:List Nat) (listed a:Array Bool) (done:List Nat),listed.size=ops.size→a.size=ops.size→
  (∀ i,i<ops.size→∀ d,a.getD (ord.idxOf i) d=listed.getD i d)→lam=done++z.filter (nu ops)→(∀ k ∈ done,listed.getD k false=true)→
  gX ops listed z→gX (rI ops lam ord) a (z.map fun i=>ord.idxOf i):=by
 intro z
 induction z with
 | nil=>
  intro listed a done hs v w _ _ t;show Region.ready .any (rI ops lam ord) a=[];have t:Region.ready .any ops listed=[]:=t;rw[List.eq_nil_iff_forall_not_mem];intro p G;obtain ⟨x,o',m,n⟩:=mem_ready.1 G;have B:p<ops.size:=by have:=(Array.getElem?_eq_some_iff.1 m).1;rwa [pT h] at this
  obtain ⟨i,hi,rfl⟩:=ku h B;have A:ops[i]?=some ops[i]:=Array.getElem?_eq_getElem hi;rw[qU h A] at m;injection m with m;subst m;have:i ∈ Region.ready .any ops listed:=mem_ready.2 ⟨by rw[← w i hi];exact x,_,A,fun e he C=>by
   have l:=n ⟨ord.idxOf e.on,e.ground⟩ (by simp only[ll,List.mem_toArray,List.mem_append,List.mem_map];exact .inl ⟨e,by simpa using he,rfl⟩) C;have l:a.getD (ord.idxOf e.on) false=true:=l;rcases Nat.lt_or_ge e.on ops.size with q | q
   ·rw[← w _ q];exact l
   ·rw[oj h q] at l;have:=j9 l;omega⟩
  rw[t] at this
  cases this
 | cons i r ih=>
  intro listed a done hs v w c f t;obtain ⟨D,t⟩:=t;obtain ⟨x,o,A,n⟩:=mem_ready.1 D;have hi:i<ops.size:=(Array.getElem?_eq_some_iff.1 A).1;have I:=(fD h hi).1;refine ⟨mem_ready.2 ⟨by rw[w i hi];exact x,_,qU h A,?_⟩,?_⟩
  ·intro J b C;simp only[ll,List.mem_toArray,List.mem_append,List.mem_map] at b;rcases b with ⟨e,he,rfl⟩ | b
   ·have l:=n e (by simpa using he) C;have q:=j9 l;show a.getD (ord.idxOf e.on) false=true;rw[w _ (by omega)];exact l
   ·unfold zJ at b
    cases hlo:nu ops i with
    | false=>rw[hlo] at b;cases b
    | true=>
     rw[hlo] at b;have g:=c;rw[List.filter_cons_of_pos hlo] at g;have hid:¬ i ∈ done:=by
      rw[g] at E;intro hm;exact (List.nodup_append.1 E).2.2 i hm i (.head _) rfl
     rw[cond_true,g,lW _ _ hid,List.mem_map] at b;obtain ⟨k,s,rfl⟩:=b;have l:=f k s;have q:=j9 l;show a.getD (ord.idxOf k) false=true;rw[w _ (by omega)];exact l
  ·have u:∀ j,j<ops.size→∀ d,(a.setIfInBounds (ord.idxOf i) true).getD (ord.idxOf j) d=(listed.setIfInBounds i true).getD j d:=by
    intro j F d;by_cases y:i=j
    ·subst y;have l:ord.idxOf i<a.size:=by omega
     have q:i<listed.size:=by omega
     simp[Array.getD,l,q]
    ·rw[getD_set_ne d y,getD_set_ne d (fun e=>y (xX h hi F e))];exact w j F d
   cases hlo:nu ops i with
   | false=>
    rw[List.filter_cons_of_neg (by simp[hlo])] at c;exact ih _ _ done (by simpa using hs) (by simpa using v) u c (fun k s=>getD_set_true (f k s)) t
   | true=>
    rw[List.filter_cons_of_pos hlo] at c;refine ih _ _ (done++[i]) (by simpa using hs) (by simpa using v) u (by rw[List.append_assoc];exact c) ?_ t;intro k s;rcases List.mem_append.1 s with s | s
    ·exact getD_set_true (f k s)
    ·have:k=i:=by simpa using s
     subst this;have q:k<listed.size:=by omega
     simp[Array.getD,q]
def exts (c:Array Nat):Nat→List Nat→List (List Nat)
 | 0,_=>[[]]
 | n+1,R=>R.flatMap fun i=>bif R.all (fun k=>k==i|| !gr c i k) then (exts c n (R.erase i)).map (i::·) else []
theorem uY (c:Array Nat):∀ (a R:List Nat),a.Perm R→a.Nodup→a.Pairwise (fun i k=>gr c i k=false)→a ∈ exts c a.length R:=by
 intro a
 induction a with
 | nil=>intro R _ _ _;simp[exts]
 | cons i r ih=>
  intro R d e hw;have hw:=List.pairwise_cons.1 hw;have e:=List.nodup_cons.1 e;have hi:i ∈ R:=d.mem_iff.1 (.head _);rw[List.length_cons,exts,List.mem_flatMap];refine ⟨i,hi,?_⟩;have b:R.all (fun k=>k==i|| !gr c i k)=true:=by
   rw[List.all_eq_true];intro k f;rcases List.mem_cons.1 (d.mem_iff.2 f) with h | h
   ·simp[h]
   ·simp[hw.1 k h]
  rw[b,cond_true,List.mem_map];exact ⟨r,ih _ (List.cons_perm_iff_perm_erase.1 d).2 e.2 hw.2,rfl⟩
section
variable {ops:Array Oper} {lam ord:List Nat}
theorem qV:∀ (b:List Nat) (listed:Array Bool),gX ops listed b→(∀ i ∈ b,i<ops.size∧listed.getD i true=false)∧b.Nodup:=by
 intro b
 induction b with
 | nil=>intro _ _;simp
 | cons i r ih=>
  intro listed ⟨f,l⟩;obtain ⟨c,o,m,_⟩:=mem_ready.1 f;have hi:i<ops.size:=(Array.getElem?_eq_some_iff.1 m).1;have g:i<listed.size:=by
   rcases Nat.lt_or_ge i listed.size with h | h
   ·exact h
   ·simp[Array.getElem?_eq_none h] at c
  obtain ⟨k,n⟩:=ih _ l;have d:∀ j ∈ r,i≠j:=by
   intro j a e;have:=(k j a).2;subst e;simp[Array.getD,g] at this
  refine ⟨?_,List.nodup_cons.2 ⟨fun h=>d i h rfl,n⟩⟩;intro j a;rcases List.mem_cons.1 a with rfl | a
  ·exact ⟨hi,c⟩
  ·have:=k j a;rw[getD_set_ne true (d j a)] at this;exact this
theorem sS:∀ (g:List Nat) (listed:Array Bool),(nq ops fun j=>listed.getD j false=true)→gX ops listed g→g.Pairwise (fun i k=>gr (lh ops.toList #[]) i k=false):=by
 intro g
 induction g with
 | nil=>intro _ _ _;exact .nil
 | cons i r ih=>
  intro listed v l;have hm:=qV _ _ l;obtain ⟨n,l⟩:=l;obtain ⟨p,o,w,d⟩:=mem_ready.1 n;have q:i<listed.size:=by
   rcases Nat.lt_or_ge i listed.size with h | h
   ·exact h
   ·simp[Array.getElem?_eq_none h] at p
  have t:nq ops fun j=>j=i∨listed.getD j false=true:=fun j c o' a e he m=>by
   rcases c with rfl | c
   ·rw[w] at a;injection a with a;subst a;exact .inr (d e he m)
   ·exact .inr (v j c o' a e he m)
  refine List.pairwise_cons.2 ⟨fun k u=>?_,ih _ ?_ l⟩
  ·rw[Bool.eq_false_iff];intro hw;rcases jN t i k (.inl rfl) hw with h | h
   ·subst h;exact (List.nodup_cons.1 hm.2).1 u
   ·have s:=(hm.1 k (.tail _ u)).2;rw[sR (j9 h) true false] at s;rw[h] at s;cases s
  ·have f:∀ k,(listed.setIfInBounds i true).getD k false=true↔k=i∨listed.getD k false=true:=by
    intro k;by_cases b:k=i
    ·subst b;simp[Array.getD,q]
    ·rw[getD_set_ne false (Ne.symm b)];simp[b]
   intro j c o' a e he m;rw[f] at c ⊢;exact t j c o' a e he m
theorem Cr (h:ew ops.size ord=true)(l:lg (rI ops lam ord)=true):∀ (f:List Nat) (listed:Array Bool),listed.size=ops.size→gX ops listed f→∀ i,i<ops.size→listed.getD i true=true∨i ∈ f:=by
 intro f
 induction f with
 | nil=>
  intro listed hs b;have b:Region.ready .any ops listed=[]:=b;have key:∀ n i,i<ops.size→ord.idxOf i=n→listed.getD i true=true:=by
   intro n
   induction n using Nat.strongRecOn with
   | _ n g=>
    intro i hi q
    cases hun:listed.getD i true with
    | true=>rfl
    | false=>
     have k:ops[i]?=some ops[i]:=Array.getElem?_eq_getElem hi;have:i ∈ Region.ready .any ops listed:=mem_ready.2 ⟨hun,_,k,fun e he m=>by
      have a:=gN l (qU h k) (e:=⟨ord.idxOf e.on,e.ground⟩) (by simp only[ll,List.mem_toArray,List.mem_append,List.mem_map];exact .inl ⟨e,by simpa using he,rfl⟩) m;have a:ord.idxOf e.on<ord.idxOf i:=a;have c:e.on<ops.size:=by
       rcases Nat.lt_or_ge e.on ops.size with c | c
       ·exact c
       ·rw[oj h c] at a;have:=(fD h hi).1;omega
      rw[sR (by omega) false true];exact g _ (by omega) e.on c rfl⟩
     rw[b] at this
     cases this
  intro i hi;exact .inl (key _ i hi rfl)
 | cons i r g=>
  intro listed hs ⟨o,b⟩ j p;rcases g _ (by simpa using hs) b j p with a | a
  ·by_cases d:i=j
   ·exact .inr (d ▸ .head _)
   ·rw[getD_set_ne true d] at a;exact .inl a
  ·exact .inr (.tail _ a)
theorem DX (h:ew ops.size ord=true):∀ x ∈ gW (rI ops lam ord).toList,x ∈ gW ops.toList:=by
 intro x b;unfold gW at b ⊢;rw[List.mem_filterMap] at b ⊢;obtain ⟨o',c,e⟩:=b;obtain ⟨p,f⟩:=List.getElem?_of_mem c;have a:(rI ops lam ord)[p]?=some o':=by simpa using f
 have d:p<ops.size:=by have:=(Array.getElem?_eq_some_iff.1 a).1;rwa [pT h] at this
 obtain ⟨i,hi,rfl⟩:=ku h d;have g:ops[i]?=some ops[i]:=Array.getElem?_eq_getElem hi;rw[qU h g] at a;injection a with a;exact ⟨ops[i],by simp,by rw[← e,← a];rfl⟩
def Bv (ops:Array Oper)(a:List (List Nat × List Nat)):Bool:=
 !a.isEmpty&&(exts (lh ops.toList #[]) ((List.range ops.size).filter (nu ops)).length ((List.range ops.size).filter (nu ops))).all (fun b=>a.any fun x=>x.1==b)&&
  a.all fun x=>ew ops.size x.2&&(Region.noSelect (rI ops x.1 x.2)&&xT (rI ops x.1 x.2))
theorem ix {P:Program}{N:Nat}{k:Fr→World→Prop}{f:Fr}{w:World}(C:World→Prop)(A:List (List Nat × List Nat))(Z:P.follows .mixedOrders=true)(D:Bv ops A=true)(hC:C w.drew)(h:∀ x ∈ A,gQ P N C (rI ops x.1 x.2) k 0 (rI ops x.1 x.2).toList f w.drew):lk P N ops k f w:=by
 unfold lk;intro a E id Q hQ;refine wp_region_draw fun t=>?_;simp only[Region.schedule,Z,Bool.true_or,if_true];unfold Bv at D;simp only[Bool.and_eq_true] at D;obtain ⟨⟨F,n⟩,b⟩:=D;rw[List.all_eq_true] at n b;have s:gX ops (Array.replicate ops.size false) (Region.linearise .any ops t):=xW _ _ _ (by unfold I5;exact Nat.le_trans (List.length_filter_le _ _) (by simp));generalize hσ:Region.linearise .any ops t=σ at s ⊢;have G:nq ops fun j=>(Array.replicate ops.size false).getD j false=true:=fun j g=>by
  have:=j9 g;simp[Array.getD] at g
 have hm:=qV _ _ s;have I:=sS _ _ G s;obtain ⟨J,K⟩:∃ x,x ∈ A:=by
  cases A with
  | nil=>simp at F
  | cons x l=>exact ⟨x,.head _⟩
 have M:=b J K;simp only[Bool.and_eq_true] at M;have q:lg (rI ops J.1 J.2)=true:=by have:=M.2.2;unfold xT at this;simp only[Bool.and_eq_true] at this;exact this.1
 have c:=Cr M.1 q _ _ (by simp) s;have e:(σ.filter (nu ops)).Perm ((List.range ops.size).filter (nu ops)):=by
  refine (List.perm_ext_iff_of_nodup (hm.2.filter _) (List.nodup_range.filter _)).2 fun i=>?_;rw[List.mem_filter,List.mem_filter,List.mem_range];constructor
  ·rintro ⟨B,O⟩;exact ⟨(hm.1 i B).1,O⟩
  ·rintro ⟨B,O⟩;refine ⟨(c i B).resolve_left ?_,O⟩;simp[Array.getD,B]
 have hex:=uY (lh ops.toList #[]) _ _ e (hm.2.filter _) (I.filter _);rw[e.length_eq] at hex;have p:=n _ hex;rw[List.any_eq_true] at p;obtain ⟨x,X,m⟩:=p;have m:=eq_of_beq m;have u:=b x X;simp only[Bool.and_eq_true] at u;obtain ⟨v,S,y⟩:=u;refine I6 (lam:=x.1) (ord:=x.2) v σ (fun i hi=>(hm.1 i hi).1) _ _ ?_;have z:=Cq (lam:=x.1) (ord:=x.2) v (by rw[m];exact hm.2.filter _) σ (Array.replicate ops.size false) (Array.replicate ops.size false) [] (by simp) (by simp)
  (fun i hi d=>by simp[Array.getD,hi,(fD v hi).1]) (by rw[m];rfl) (fun k r=>by cases r) s
 have T:=pT (lam:=x.1) v;have r:=h x X;have hw:fc P (rI ops x.1 x.2) C (fun a w=>∃ U,R N a U∧(cX (gW ops.toList) U f∧k U w)) (List.range (rI ops x.1 x.2).size) a w.drew:=by
  have:=sP (rI ops x.1 x.2).toList 0 f w.drew a (fun j _=>by simp) E (sQ (gW ops.toList) 0 (rI ops x.1 x.2).toList f w.drew (DX v) r);simpa [List.range_eq_range'] using this
 have Y:=sN (P:=P) (C:=C) (Q':=Q) (fun a w ⟨f,E,r⟩=>hQ _ _ _ E r.1 r.2) S y (List.range (rI ops x.1 x.2).size) (Array.replicate (rI ops x.1 x.2).size false) a _ List.pairwise_lt_range (fun j=>by
  simp only[List.mem_range];constructor
  ·intro g;exact ⟨g,by simp[Array.getD,g]⟩
  ·intro g;exact g.1) (by simp) (fun j o ho g=>by
   have V:j<(rI ops x.1 x.2).size:=(Array.getElem?_eq_some_iff.1 ho).1;simp[Array.getD,V] at g) (.inl hC) hw
 rw[T] at Y;have hlen:(σ.map fun i=>x.2.idxOf i).length≤(List.range ops.size).length:=by
  rw[List.length_map,List.length_range];have:σ.Subset (List.range ops.size):=fun i hi=>List.mem_range.2 (hm.1 i hi).1;have:=(List.perm_ext_iff_of_nodup hm.2 List.nodup_range).2 fun i=>⟨fun hi=>List.mem_range.2 (hm.1 i hi).1,fun hi=>(c i (List.mem_range.1 hi)).resolve_left (by simp[Array.getD,List.mem_range.1 hi])⟩;rw[this.length_eq];simp
 exact xV _ _ _ _ _ hlen z Y
end
end
abbrev ab:Nat→Prop:=fun _=>False
abbrev ah (g:Nat):Value:=.pointer (some ⟨g,0,none⟩)
theorem ae {α β:Type}{a:α}{b:β}:a=a∧b=b:=⟨rfl,rfl⟩
structure cH where
 foot:Nat→Prop
 ok:World→Prop
 bQ:∀ w w',(∀ g,foot g→w'.heap[g]?=w.heap[g]?)→ok w→ok w'
structure aS (F:Nat→Prop) (w w':World):Prop where
 os:w'.os=w.os
 tape:w'.tape=w.tape
 output:w'.output=w.output
 size:w.heap.size≤w'.heap.size
 old:∀ g,g<w.heap.size→¬ F g→w'.heap[g]?=w.heap[g]?
abbrev aT (w w':World):Prop:=aS ab w w'
theorem aS.refl (F:Nat→Prop)(w:World):aS F w w:=⟨rfl,rfl,rfl,Nat.le_refl _,fun _ _ _=>rfl⟩
theorem aS.trans {F G:Nat→Prop}{a b c:World}(h:aS F a b)(k:aS G b c)(d:∀ g,g<a.heap.size→G g→F g):aS F a c:=
 ⟨k.os.trans h.os,k.tape.trans h.tape,k.output.trans h.output,Nat.le_trans h.size k.size,fun g e f=>
  (k.old g (Nat.lt_of_lt_of_le e h.size) (fun i=>f (d g e i))).trans (h.old g e f)⟩
theorem aS.mono {F G:Nat→Prop}{a b:World}(h:aS F a b)(c:∀ g,F g→G g):aS G a b:=
 ⟨h.os,h.tape,h.output,h.size,fun g d e=>h.old g d fun f=>e (c g f)⟩
theorem aS.alloc (w:World)(o:Obj):aT w (w.alloc o):=
 ⟨rfl,rfl,rfl,by simp,fun g a _=>by apply heap_alloc_old;exact a⟩
theorem aS.drew (w:World):aT w w.drew:=⟨rfl,rfl,rfl,Nat.le_refl _,fun _ _ _=>rfl⟩
theorem aS.setCell (w:World)(a:Addr)(v:Value):aS (fun g=>g=a.block) w (w.setCell a v):=
 ⟨rfl,rfl,rfl,by simp,fun g _ b=>heap_setCell_other w a g v b⟩
structure Hp (w0:World) (F:Nat→Prop) (w:World) (L M:List cH):Prop where
 keeps:aS F w0 w
 ok:∀ r ∈ L,r.ok w
 lt:∀ r ∈ L,∀ g,r.foot g→g<w.heap.size
 new:∀ r ∈ L,∀ g,r.foot g→w0.heap.size≤g∨F g
 dis:L.Pairwise fun r s=>∀ g,r.foot g→¬ s.foot g
 rok:∀ r ∈ M,r.ok w
 rlt:∀ r ∈ M,∀ g,r.foot g→g<w.heap.size
 rdis:∀ r ∈ M,∀ s ∈ L,∀ g,r.foot g→¬ s.foot g
section
variable {w0 w w':World} {F:Nat→Prop} {L M:List cH}
theorem Hp.start (w:World)(F:Nat→Prop)(M:List cH)(b:∀ r ∈ M,r.ok w)(a:∀ r ∈ M,∀ g,r.foot g→g<w.heap.size):Hp w F w [] M:=
 ⟨aS.refl _ _,by simp,by simp,by simp,.nil,b,a,by simp⟩
theorem Hp.aC (w:World):Hp w ab w [] []:=Hp.start w _ [] (by simp) (by simp)
theorem Hp.same (H:Hp w0 F w L M)(c:aT w w'):Hp w0 F w' L M:=by
 have hold:∀ g,g<w.heap.size→w'.heap[g]?=w.heap[g]?:=fun g a=>c.old g a id;exact ⟨H.keeps.trans c (by simp),fun r b=>r.bQ _ _ (fun g a=>hold g (H.lt r b g a)) (H.ok r b),
  fun r b g a=>Nat.lt_of_lt_of_le (H.lt r b g a) c.size,H.new,H.dis,
  fun r b=>r.bQ _ _ (fun g a=>hold g (H.rlt r b g a)) (H.rok r b),
  fun r b g a=>Nat.lt_of_lt_of_le (H.rlt r b g a) c.size,H.rdis⟩
theorem Hp.add (H:Hp w0 F w L M)(h:aT w w')(r:cH)(f:r.ok w')(e:∀ g,r.foot g→w.heap.size≤g∧g<w'.heap.size):Hp w0 F w' (r::L) M:=by
 have b:=H.same h;refine ⟨b.keeps,?_,?_,?_,?_,b.rok,b.rlt,?_⟩
 ·intro s hs;rcases List.mem_cons.1 hs with rfl | hs
  ·exact f
  ·exact b.ok s hs
 ·intro s hs;rcases List.mem_cons.1 hs with rfl | hs
  ·exact fun g c=>(e g c).2
  ·exact b.lt s hs
 ·intro s hs;rcases List.mem_cons.1 hs with rfl | hs
  ·exact fun g c=>.inl (Nat.le_trans H.keeps.size (e g c).1)
  ·exact b.new s hs
 ·exact .cons (fun s hs g c a=>absurd (H.lt s hs g a) (Nat.not_lt.2 (e g c).1)) b.dis
 ·intro r' d s hs g c a;rcases List.mem_cons.1 hs with rfl | hs
  ·exact absurd (H.rlt r' d g c) (Nat.not_lt.2 (e g a).1)
  ·exact b.rdis r' d s hs g c a
theorem Hp.pU (H:Hp w0 F w L M)(j:aT w w')(r:cH)(e:r.ok w')(i:∀ g,r.foot g→g<w'.heap.size∧(w.heap.size≤g∨∃ s ∈ M,s.foot g)):Hp w0 F w' L (r::M):=by
 have a:=H.same j;refine ⟨a.keeps,a.ok,a.lt,a.new,a.dis,?_,?_,?_⟩
 ·intro s hs;rcases List.mem_cons.1 hs with rfl | hs
  ·exact e
  ·exact a.rok s hs
 ·intro s hs;rcases List.mem_cons.1 hs with rfl | hs
  ·exact fun g d=>(i g d).1
  ·exact a.rlt s hs
 ·intro r' b s hs g d c;rcases List.mem_cons.1 b with rfl | b
  ·rcases (i g d).2 with f | ⟨q,k,h⟩
   ·exact absurd (H.lt s hs g c) (Nat.not_lt.2 f)
   ·exact H.rdis q k s hs g h c
  ·exact a.rdis r' b s hs g d c
theorem Hp.freeze {r:cH}(H:Hp w0 F w (r::L) M):Hp w0 F w L (r::M):=by
 refine ⟨H.keeps,fun s hs=>H.ok s (.tail _ hs),fun s hs=>H.lt s (.tail _ hs),fun s hs=>H.new s (.tail _ hs),(List.pairwise_cons.1 H.dis).2,?_,?_,?_⟩
 ·intro s hs;rcases List.mem_cons.1 hs with rfl | hs
  ·exact H.ok _ (.head _)
  ·exact H.rok s hs
 ·intro s hs;rcases List.mem_cons.1 hs with rfl | hs
  ·exact H.lt _ (.head _)
  ·exact H.rlt s hs
 ·intro s hs q b g c a;rcases List.mem_cons.1 hs with rfl | hs
  ·exact (List.pairwise_cons.1 H.dis).1 q b g c a
  ·exact H.rdis s hs q (.tail _ b) g c a
theorem Hp.forget {r:cH}(H:Hp w0 F w (r::L) M):Hp w0 F w L M:=
 ⟨H.keeps,fun s hs=>H.ok s (.tail _ hs),fun s hs=>H.lt s (.tail _ hs),fun s hs=>H.new s (.tail _ hs),(List.pairwise_cons.1 H.dis).2,H.rok,H.rlt,
  fun s hs q a=>H.rdis s hs q (.tail _ a)⟩
theorem Hp.aq {r:cH}(H:Hp w0 F w L (r::M)):Hp w0 F w L M:=
 ⟨H.keeps,H.ok,H.lt,H.new,H.dis,fun s hs=>H.rok s (.tail _ hs),fun s hs=>H.rlt s (.tail _ hs),fun s hs=>H.rdis s (.tail _ hs)⟩
theorem Hp.perm {L':List cH}(H:Hp w0 F w L M)(a:L.Perm L'):Hp w0 F w L' M:=
 ⟨H.keeps,fun s hs=>H.ok s (a.mem_iff.2 hs),fun s hs=>H.lt s (a.mem_iff.2 hs),fun s hs=>H.new s (a.mem_iff.2 hs),
  a.pairwise H.dis (fun h g b c=>h g c b),H.rok,H.rlt,fun s hs q d=>H.rdis s hs q (a.mem_iff.2 d)⟩
theorem Hp.front {r:cH}(H:Hp w0 F w L M)(n:Nat)(a:L[n]?=some r):Hp w0 F w (r::L.eraseIdx n) M:=by
 refine H.perm ?_;clear H
 induction L generalizing n with
 | nil=>simp at a
 | cons s L ih=>
  cases n with
  | zero=>simp at a;subst a;exact .refl _
  | succ n=>exact ((ih n (by simpa using a)).cons s).trans (.swap _ _ _)
theorem Hp.ey {M':List cH}(H:Hp w0 F w L M)(a:∀ r ∈ M',r ∈ M):Hp w0 F w L M':=
 ⟨H.keeps,H.ok,H.lt,H.new,H.dis,fun s hs=>H.rok s (a s hs),fun s hs=>H.rlt s (a s hs),fun s hs=>H.rdis s (a s hs)⟩
theorem Hp.nc {r:cH}(H:Hp w0 F w L M)(n:Nat)(B:L[n]?=some r)(r':cH)(u:aS r.foot w w')(z:r'.ok w')(v:∀ g,r'.foot g→g<w'.heap.size∧(r.foot g∨w.heap.size≤g)):Hp w0 F w' (L.set n r') M:=by
 obtain ⟨p,o⟩:=List.getElem?_eq_some_iff.1 B;have m:r ∈ L:=o ▸ List.getElem_mem p;have t:=List.pairwise_iff_getElem.1 H.dis;have b:∀ (j:Nat) (a:j<L.length),j≠n→∀ g,L[j].foot g→¬ r.foot g:=by
  intro j a e g l k;rw[← o] at k;rcases Nat.lt_or_gt_of_ne e with h | h
  ·exact t j n a p h g l k
  ·exact t n j p a h g k l
 have d:∀ s ∈ L.set n r',s=r'∨∃ (j:Nat) (a:j<L.length),j≠n∧s=L[j]:=by
  intro s hs;obtain ⟨j,a,rfl⟩:=List.mem_iff_getElem.1 hs;rw[List.length_set] at a;by_cases f:n=j
  ·subst f;left;simp
  ·right;exact ⟨j,a,fun h=>f h.symm,by rw[List.getElem_set_ne f]⟩
 refine ⟨H.keeps.trans u ?_,?_,?_,?_,?_,?_,?_,?_⟩
 ·intro g c C;rcases H.new r m g C with h | h
  ·exact absurd c (Nat.not_lt.2 h)
  ·exact h
 ·intro s hs;rcases d s hs with rfl | ⟨j,a,e,rfl⟩
  ·exact z
  ·exact (L[j]).bQ _ _ (fun g c=>u.old g (H.lt _ (List.getElem_mem a) g c) (b j a e g c)) (H.ok _ (List.getElem_mem a))
 ·intro s hs g c;rcases d s hs with rfl | ⟨j,a,e,rfl⟩
  ·exact (v g c).1
  ·exact Nat.lt_of_lt_of_le (H.lt _ (List.getElem_mem a) g c) u.size
 ·intro s hs g c;rcases d s hs with rfl | ⟨j,a,e,rfl⟩
  ·rcases (v g c).2 with h | h
   ·exact H.new r m g h
   ·exact .inl (Nat.le_trans H.keeps.size h)
  ·exact H.new _ (List.getElem_mem a) g c
 ·refine List.pairwise_iff_getElem.2 fun i j hi a A g l k=>?_;rw[List.length_set] at hi a;by_cases x:n=i
  ·subst x;rw[List.getElem_set_self] at l;rw[List.getElem_set_ne (by omega)] at k;rcases (v g l).2 with h | h
   ·exact b j a (by omega) g k h
   ·exact absurd (H.lt _ (List.getElem_mem a) g k) (Nat.not_lt.2 h)
  ·by_cases f:n=j
   ·subst f;rw[List.getElem_set_self] at k;rw[List.getElem_set_ne (by omega)] at l;rcases (v g k).2 with h | h
    ·exact b i hi (by omega) g l h
    ·exact absurd (H.lt _ (List.getElem_mem hi) g l) (Nat.not_lt.2 h)
   ·rw[List.getElem_set_ne x] at l;rw[List.getElem_set_ne f] at k;exact t i j hi a A g l k
 ·intro s hs;exact s.bQ _ _ (fun g c=>u.old g (H.rlt s hs g c) (H.rdis s hs r m g c)) (H.rok s hs)
 ·intro s hs g c;exact Nat.lt_of_lt_of_le (H.rlt s hs g c) u.size
 ·intro s hs q D g c y;rcases d q D with rfl | ⟨j,a,e,rfl⟩
  ·rcases (v g y).2 with h | h
   ·exact H.rdis s hs r m g c h
   ·exact absurd (H.rlt s hs g c) (Nat.not_lt.2 h)
  ·exact H.rdis s hs _ (List.getElem_mem a) g c y
theorem Hp.get {r:cH}(H:Hp w0 F w L M)(n:Nat)(a:L[n]?=some r):r.ok w:=H.ok r (List.mem_of_getElem? a)
theorem Hp.ro {r:cH}(H:Hp w0 F w L M)(n:Nat)(a:M[n]?=some r):r.ok w:=H.rok r (List.mem_of_getElem? a)
end
def an (g:Nat)(t:TypeId)(cs:Array Value):cH:=
 ⟨fun x=>x=g,fun w=>w.heap[g]?=some (.cells cs t (0,0)),fun _ _ h hw=>(h g rfl).trans hw⟩
theorem aQ {w:World}{g:Nat}{t:TypeId}{cs:Array Value}(h:(an g t cs).ok w)(i:Nat):w.cell? ⟨g,i,none⟩=cs[i]?:=cell_of_row w g i cs t (0,0) h
theorem jj {w:World}{g:Nat}{t:TypeId}{cs:Array Value}(h:(an g t cs).ok w):g<w.heap.size:=by
 have a:w.heap[g]?=some (.cells cs t (0,0)):=h;exact (Array.getElem?_eq_some_iff.1 a).1
def cP (P:Program)(t:TypeId):Option Bool:=(P.underlying t).map fun d=>match d with | .struct _ | .array _ _=>true | _=>false
def bE (P:Program)(t:TypeId):Option Nat:=(P.info? t).map (·.size)
def eL (P:Program)(t:TypeId):Option Value:=(P.info? t).bind (·.zero)
theorem qW {P:Program}{t:TypeId}{b:Bool}(h:cP P t=some b)(w:World):(isAgg t).run P w=.ok b w:=by
 unfold cP at h
 cases hu:P.underlying t with
 | none=>simp[hu] at h
 | some d=>
  simp[hu] at h;unfold isAgg;rw[Sem.run_bind,run_underlying hu w]
  cases d <;> simp_all
theorem run_sizeOf {P:Program}{t:TypeId}{n:Nat}(h:bE P t=some n)(w:World):(sizeOf t).run P w=.ok n w:=by
 unfold bE at h
 cases hq:P.info? t with
 | none=>simp[hq] at h
 | some i=>simp[hq] at h;simp[sizeOf,typeInfo,hq,h]
theorem lX {P:Program}{t:TypeId}{z:Value}(h:eL P t=some z)(w:World):(zeroValue t).run P w=.ok z w:=by
 unfold eL at h
 cases hq:P.info? t with
 | none=>simp[hq] at h
 | some i=>simp[hq] at h;simp[zeroValue,typeInfo,hq,h]
section
variable {P:Program} {w0 w:World} {F:Nat→Prop} {L M:List cH} {k:Value→World→Prop}
theorem Hp.alloc (H:Hp w0 F w L M)(t:TypeId){z:Value}{cs:Array Value}(b:eL P t=some z)(a:z.cells=cs)(h:∀ g w',Hp w0 F w' (an g t cs::L) M→k (.pointer (some ⟨g,0,none⟩)) w'):vV P t w k:=by
 unfold vV;refine ⟨_,w.alloc (.cells z.cells t),?_,h w.heap.size _ (H.add (aS.alloc _ _) _ (by subst a;exact heap_alloc_new w _) ?_)⟩
 ·simp[Instr.alloc,lX b,newVar,newRow]
 ·rintro g rfl;exact ⟨Nat.le_refl _,by simp⟩
theorem Hp.box (H:Hp w0 F w L M)(t:TypeId)(v:Value){cs:Array Value}(a:v.cells=cs)(h:∀ g w',Hp w0 F w' (an g t cs::L) M→k (.pointer (some ⟨g,0,none⟩)) w'):GB P t v w k:=by
 unfold GB;refine ⟨_,w.alloc (.cells v.cells t),?_,h w.heap.size _ (H.add (aS.alloc _ _) _ (by subst a;exact heap_alloc_new w _) ?_)⟩
 ·simp[Instr.box,newVar,newRow]
 ·rintro g rfl;exact ⟨Nat.le_refl _,by simp⟩
theorem aB {a:Addr}{ty:TypeId}{u:Value}(b:cP P ty=some false)(c:w.cell? a=some u)(h:k u w):fb P ty (.pointer (some a)) w k:=by
 unfold fb;refine ⟨u,w,?_,h⟩;simp[Instr.loadAt,Instr.sureAddr,loadVar,qW b,c]
theorem Hp.load (H:Hp w0 F w L M)(n:Nat){g i:Nat}{t ty:TypeId}{cs:Array Value}{u:Value}(b:L[n]?=some (an g t cs))(a:cP P ty=some false)(c:cs[i]?=some u)(h:k u w):fb P ty (.pointer (some ⟨g,i,none⟩)) w k:=aB a ((aQ (H.get n b) i).trans c) h
theorem Hp.ai (H:Hp w0 F w L M)(n:Nat){g:Nat}{t ty:TypeId}{cs:Array Value}(b:L[n]?=some (an g t cs))(a:cP P ty=some true)(hs:bE P ty=some cs.size)(h:k (.agg cs) w):fb P ty (.pointer (some ⟨g,0,none⟩)) w k:=by
 unfold fb;refine ⟨_,w,?_,h⟩;have c:w.heap[g]?=some (.cells cs t (0,0)):=H.get n b;unfold cP at a
 cases hu:P.underlying ty with
 | none=>simp[hu] at a
 | some d=>
  simp[hu] at a;have:=run_loadVar_row (P:=P) w g t ty cs (0,0) d c hu (by cases d <;> simp_all) hs;simpa [Instr.loadAt,Instr.sureAddr] using this
theorem kH {P:Program}{g:Nat}{t:TypeId}(a:List Value):∀ (w:World) (cs:Array Value) (i:Nat),w.heap[g]?=some (.cells cs t (0,0))→i+a.length≤cs.size→
  (∀ v ∈ a,v.oneCell'=true)→∃ w',(storeCells ⟨g,0,none⟩ a i).run P w=.ok () w'∧aS (fun x=>x=g) w w'∧
   w'.heap[g]?=some (.cells (cs.toList.take i++a++cs.toList.drop (i+a.length)).toArray t (0,0)):=by
 induction a with
 | nil=>
  intro w cs i c _ _;refine ⟨w,by simp[storeCells],aS.refl _ _,?_⟩;simp[c]
 | cons v a ih=>
  intro w cs i c hlen k;simp only[List.length_cons] at hlen;have d:(⟨g,0,none⟩:Addr).add i=⟨g,i,none⟩:=by unfold Addr.add;split <;> simp_all
  have b:w.cell? ⟨g,i,none⟩=some cs[i]:=by rw[cell_of_row w g i cs t (0,0) c];exact Array.getElem?_eq_getElem (by omega)
  have e:w.frozen? ⟨g,i,none⟩=false:=frozen_of_row w g i cs t c;have f:=heap_setCell_same w g i cs t v c;obtain ⟨w',l,m,j⟩:=ih (w.setCell ⟨g,i,none⟩ v) (cs.setIfInBounds i v) (i+1) f (by simp;omega) (fun u hu=>k u (.tail _ hu));refine ⟨w',?_,(aS.setCell w ⟨g,i,none⟩ v).trans m (fun _ _ h=>h),?_⟩
  ·have hs:=run_store P w ⟨g,i,none⟩ v .plain (k v (.head _));simp[storeCells,d,hs,b,e,l]
  ·rw[j]
   congr 3
   simp only[Array.toList_setIfInBounds,List.length_cons];rw[List.take_set,List.drop_set_of_lt (by omega)];have:(cs.toList.take (i+1)).set i v=cs.toList.take i++[v]:=by
    rw[List.take_succ_eq_append_getElem (by simpa using (by omega:i<cs.size))];rw[List.set_append_right _ _ (by simp;omega)];simp[Nat.min_eq_left (by omega:i≤cs.size)]
   rw[this];simp[Nat.add_assoc,Nat.add_comm 1]
theorem Hp.store (H:Hp w0 F w L M)(n:Nat){g i:Nat}{t ty:TypeId}{cs:Array Value}{u:Value}(d:L[n]?=some (an g t cs))(hs:bE P ty=some 1)(hi:i<cs.size)(l:u.oneCell'=true)(h:∀ w',Hp w0 F w' (L.set n (an g t (cs.setIfInBounds i u))) M→k undef w'):im P ty (.pointer (some ⟨g,i,none⟩)) u w k:=by
 have e:w.heap[g]?=some (.cells cs t (0,0)):=H.get n d;have b:w.cell? ⟨g,i,none⟩=some cs[i]:=by rw[cell_of_row w g i cs t (0,0) e];exact Array.getElem?_eq_getElem hi
 have f:w.frozen? ⟨g,i,none⟩=false:=frozen_of_row w g i cs t e;have a:u.cells=#[u]:=by cases u <;> first | rfl | cases l
 unfold im;refine ⟨w.setCell ⟨g,i,none⟩ u,?_,h _ (H.nc n d _ (aS.setCell w ⟨g,i,none⟩ u) (heap_setCell_same w g i cs t u e) ?_)⟩
 ·have j:=run_store P w ⟨g,i,none⟩ u .plain l;have c:(⟨g,i,none⟩:Addr).add 0=⟨g,i,none⟩:=by simp[Addr.add]
  simp[Instr.storeAt,Instr.sureAddr,storeVar,a,run_sizeOf hs,storeCells,c,j,b,f]
 ·rintro x rfl;exact ⟨by simpa using jj (H.get n d),.inl rfl⟩
theorem Hp.storeAll (H:Hp w0 F w L M)(n:Nat){g:Nat}{t ty:TypeId}{cs cs':Array Value}(a:L[n]?=some (an g t cs))(hs:bE P ty=some cs.size)(b:cs'.size=cs.size)(e:∀ v ∈ cs'.toList,v.oneCell'=true)(h:∀ w',Hp w0 F w' (L.set n (an g t cs')) M→k undef w'):im P ty (.pointer (some ⟨g,0,none⟩)) (.agg cs') w k:=by
 have f:w.heap[g]?=some (.cells cs t (0,0)):=H.get n a;obtain ⟨w',i,d,c⟩:=kH (P:=P) cs'.toList w cs 0 f (by simp;omega) e;unfold im;refine ⟨w',?_,h _ (H.nc n a _ d ?_ ?_)⟩
 ·simp[Instr.storeAt,Instr.sureAddr,storeVar,Value.cells,run_sizeOf hs,b,i]
 ·show w'.heap[g]?=_;rw[c];have:cs.toList.drop (0+cs'.toList.length)=[]:=by rw[List.drop_eq_nil_iff];simp;omega
  rw[this];simp
 ·rintro x rfl;refine ⟨?_,.inl rfl⟩;exact Nat.lt_of_lt_of_le (jj (H.get n a)) d.size
theorem aj {g:FuncId}{args:List Value}{post:Value→World→Prop}(a:bw P g args w post)(h:∀ v w',post v w'→k v w'):jL P (.func (.func g) #[] #[]) args w k:=by
 unfold jL;have:(#[]:Array Value).toList++args++(#[]:Array Value).toList=args:=by simp
 show bw P g _ w k;rw[this];exact a.mono h
theorem ff {g:FuncId}{args cap:List Value}{post:Value→World→Prop}(a:bw P g (args++cap) w post)(h:∀ v w',post v w'→k v w'):jL P (.func (.func g) #[] cap.toArray) args w k:=by
 unfold jL;show bw P g _ w k;simpa using a.mono h
theorem aE {b:Bool}{p q:Prop}(a:b=true→p)(c:b=false→q):gU b p q:=by
 cases h:b
 ·exact .no rfl (c h)
 ·exact .yes rfl (a h)
theorem ag {b:Bool}{p q:Prop}(a:b=true)(c:p):gU b p q:=.yes a c
theorem af {b:Bool}{p q:Prop}(a:b=false)(c:q):gU b p q:=.no a c
end
section
variable {P:Program} {w:World} {kk:Value→World→Prop} {t:TypeId} {xo yo:Operand}
theorem v7 {k:IntKind}{x y:Int}(a:y≠0)(h:kk (.int k (k.wrap (x.tdiv y))) w):cW P .quo t xo yo (.int k x) (.int k y) w kk:=by
 unfold cW;exact ⟨_,w,by simp[eqGuard,binOp,Op.intDiv,a],h⟩
theorem v_ {k:IntKind}{x y:Int}(a:y≠0)(h:kk (.int k (x.tmod y)) w):cW P .rem t xo yo (.int k x) (.int k y) w kk:=by
 unfold cW;exact ⟨_,w,by simp[eqGuard,binOp,Op.intDiv,a],h⟩
theorem sj {k a:IntKind}{x y:Int}(b:0≤y)(h:kk (.int k (k.wrap (x*2^(min y.toNat k.bits)))) w):cW P .shl t xo yo (.int k x) (.int a y) w kk:=by
 unfold cW;exact ⟨_,w,by simp[eqGuard,binOp,Op.shift,Int.not_lt.2 b],h⟩
theorem Bw {k a:IntKind}{x y:Int}(b:0≤y)(h:kk (.int k (x.fdiv (2^(min y.toNat k.bits)))) w):cW P .shr t xo yo (.int k x) (.int a y) w kk:=by
 unfold cW;exact ⟨_,w,by simp[eqGuard,binOp,Op.shift,Int.not_lt.2 b],h⟩
theorem wa {k:IntKind}{x y:Int}(h:kk (.int k (bits .and k x y)) w):cW P .and t xo yo (.int k x) (.int k y) w kk:=by
 unfold cW;exact ⟨_,w,by simp[eqGuard,binOp,intBits_and],h⟩
theorem DY {k:IntKind}{x y:Int}(h:kk (.int k (bits .or k x y)) w):cW P .or t xo yo (.int k x) (.int k y) w kk:=by
 unfold cW;exact ⟨_,w,by simp[eqGuard,binOp,intBits_or],h⟩
theorem Bz {k:IntKind}{x y:Int}(h:kk (.int k (bits .xor k x y)) w):cW P .xor t xo yo (.int k x) (.int k y) w kk:=by
 unfold cW;exact ⟨_,w,by simp[eqGuard,binOp,intBits_xor],h⟩
theorem sT {k:IntKind}{x y:Int}(h:kk (.int k (bits .andNot k x y)) w):cW P .andNot t xo yo (.int k x) (.int k y) w kk:=by
 unfold cW;exact ⟨_,w,by simp[eqGuard,binOp,intBits_andNot],h⟩
theorem GI {x y:Int}(a:0≤x)(b:x<9223372036854775808)(c:0<y):IntKind.i64.wrap (x.tdiv y)=x / y:=by
 rw[Int.tdiv_eq_ediv_of_nonneg a,IntKind.wrap_i64];have d:0≤x / y:=Int.ediv_nonneg a (Int.le_of_lt c);have e:x / y≤x:=Int.ediv_le_self y a;omega
theorem nv {x y:Int}(b:0≤x)(a:x<9223372036854775808)(c:0<y)(h:kk (.int .i64 (x / y)) w):cW P .quo t xo yo (.int .i64 x) (.int .i64 y) w kk:=
 v7 (by omega) (by rw[GI b a c];exact h)
theorem nw {x y:Int}(a:0≤x)(b:0<y)(h:kk (.int .i64 (x % y)) w):cW P .rem t xo yo (.int .i64 x) (.int .i64 y) w kk:=
 v_ (by omega) (by rw[Int.tmod_eq_emod_of_nonneg a];exact h)
theorem aH {x:Int}(a:-9223372036854775808≤x)(b:x<9223372036854775808):IntKind.i64.wrap x=x:=by rw[IntKind.wrap_i64];omega
theorem mI {x:Int}(a:0≤x)(b:x<256):IntKind.u8.wrap x=x:=by rw[IntKind.wrap_u8];omega
theorem wrap_u64 (n:Int):IntKind.u64.wrap n=n % 18446744073709551616:=by simp[IntKind.wrap,IntKind.bits,IntKind.signed]
theorem jO {x:Int}(a:0≤x)(b:x<18446744073709551616):IntKind.u64.wrap x=x:=by rw[wrap_u64];omega
theorem xY {a:IntKind}{x n:Nat}(b:n<64)(c:x*2^n<18446744073709551616)(h:kk (.int .u64 ((x*2^n:Nat):Int)) w):cW P .shl t xo yo (.int .u64 (x:Int)) (.int a (n:Int)) w kk:=by
 refine sj (by omega) ?_;have:min (n:Int).toNat IntKind.u64.bits=n:=by simp[IntKind.bits];omega
 rw[this,show ((x:Int)*2^n)=((x*2^n:Nat):Int) by simp,jO (by omega) (by omega)];exact h
theorem oo (a:Nat)(b:a<9223372036854775808):(BitVec.ofInt 64 (a:Int)).toNat=a:=by
 rw[BitVec.ofInt_natCast,BitVec.toNat_ofNat];exact Nat.mod_eq_of_lt (by omega)
theorem xZ (a b:Nat)(c:a<9223372036854775808)(d:b<9223372036854775808):bits .and .i64 (a:Int) (b:Int)=((a &&&b:Nat):Int):=by
 have e:a &&&b<2^63:=Nat.and_lt_two_pow _ (by omega);show IntKind.i64.wrap ((BitVec.ofInt 64 (a:Int) &&&BitVec.ofInt 64 (b:Int)).toNat:Int)=_;rw[BitVec.toNat_and,oo a c,oo b d,IntKind.wrap_i64];omega
theorem iy {a b:Nat}(c:a<9223372036854775808)(d:b<9223372036854775808)(h:kk (.int .i64 ((a &&&b:Nat):Int)) w):cW P .and t xo yo (.int .i64 (a:Int)) (.int .i64 (b:Int)) w kk:=
 wa (by rw[xZ a b c d];exact h)
theorem iz {a:IntKind}{x n:Nat}(b:n≤64)(h:kk (.int .i64 ((x / 2^n:Nat):Int)) w):cW P .shr t xo yo (.int .i64 (x:Int)) (.int a (n:Int)) w kk:=by
 refine Bw (by omega) ?_;have:min (n:Int).toNat IntKind.i64.bits=n:=by simp[IntKind.bits];omega
 rw[this,Int.fdiv_eq_ediv_of_nonneg _ (by exact_mod_cast Nat.zero_le _)];have e:((x:Int) / 2^n)=((x / 2^n:Nat):Int):=by simp
 rw[e];exact h
theorem ny {a:IntKind}{x n:Nat}(b:n≤64)(c:x*2^n<9223372036854775808)(h:kk (.int .i64 ((x*2^n:Nat):Int)) w):cW P .shl t xo yo (.int .i64 (x:Int)) (.int a (n:Int)) w kk:=by
 refine sj (by omega) ?_;have:min (n:Int).toNat IntKind.i64.bits=n:=by simp[IntKind.bits];omega
 rw[this,show ((x:Int)*2^n)=((x*2^n:Nat):Int) by simp,aH (by omega) (by omega)];exact h
theorem rJ {a b:Nat}(c:a<18446744073709551616)(d:b<18446744073709551616)(h:kk (.int .u64 ((a &&&b:Nat):Int)) w):cW P .and t xo yo (.int .u64 (a:Int)) (.int .u64 (b:Int)) w kk:=
 wa (by rw[u64_and_nat a b c d];exact h)
theorem sU {a b:Nat}(c:a<18446744073709551616)(d:b<18446744073709551616)(h:kk (.int .u64 ((a |||b:Nat):Int)) w):cW P .or t xo yo (.int .u64 (a:Int)) (.int .u64 (b:Int)) w kk:=
 DY (by rw[u64_or_nat a b c d];exact h)
theorem sV {a b:Nat}(c:a<18446744073709551616)(d:b<18446744073709551616)(h:kk (.int .u64 ((a &&&(18446744073709551615 - b):Nat):Int)) w):cW P .andNot t xo yo (.int .u64 (a:Int)) (.int .u64 (b:Int)) w kk:=
 sT (by rw[u64_andNot_nat a b c d];exact h)
theorem dV {a b:Nat}(c:a<256)(d:b<256)(h:kk (.int .u8 ((a &&&b:Nat):Int)) w):cW P .and t xo yo (.int .u8 (a:Int)) (.int .u8 (b:Int)) w kk:=
 wa (by rw[u8_and_nat a b c d];exact h)
theorem jk {a b:Nat}(c:a<256)(d:b<256)(h:kk (.int .u8 ((a |||b:Nat):Int)) w):cW P .or t xo yo (.int .u8 (a:Int)) (.int .u8 (b:Int)) w kk:=
 DY (by rw[u8_or_nat a b c d];exact h)
theorem zK {a b:Nat}(c:a<256)(d:b<256)(h:kk (.int .u8 ((a ^^^ b:Nat):Int)) w):cW P .xor t xo yo (.int .u8 (a:Int)) (.int .u8 (b:Int)) w kk:=
 Bz (by rw[u8_xor_nat a b c d];exact h)
theorem jD {a b:Nat}(c:a<256)(d:b<256)(h:kk (.int .u8 ((a &&&(255 - b):Nat):Int)) w):cW P .andNot t xo yo (.int .u8 (a:Int)) (.int .u8 (b:Int)) w kk:=
 sT (by rw[u8_andNot_nat a b c d];exact h)
theorem wb {a b:Bool}(c:P.underlying t=some .bool)(h:kk (.bool (a==b)) w):cW P .eql t xo yo (.bool a) (.bool b) w kk:=by
 unfold cW;exact ⟨_,w,by rw[eqGuard_at_bool];exact run_eql_bool w t a b c,h⟩
theorem x1 {a b:ByteArray}(h:kk (.bool (a.toList==b.toList)) w):cW P .eql t xo yo (.string a) (.string b) w kk:=by
 unfold cW;exact ⟨_,w,by rw[eqGuard_at_string];simp[binOp,Op.stringOp],h⟩
theorem x2 {a b:ByteArray}(h:kk (.bool (!(a.toList==b.toList))) w):cW P .neq t xo yo (.string a) (.string b) w kk:=by
 unfold cW;exact ⟨_,w,by rw[eqGuard_at_string];simp[binOp,Op.stringOp],h⟩
theorem wc {op:BinOp}{x y v:Value}(a:∀ w,(do eqGuard op t xo yo x y;binOp op t x y:Sem Value).run P w=.ok v w)(h:kk v w):cW P op t xo yo x y w kk:=by
 unfold cW;exact ⟨_,w,a w,h⟩
theorem rK {a b:Array Value}{r:Bool}(c:P.eqGuardType P.depth t=false)(d:∀ w,(Op.equal t (.agg a) (.agg b)).run P w=.ok r w)(h:kk (.bool r) w):cW P .eql t xo yo (.agg a) (.agg b) w kk:=
 wc (fun w=>by
  have e:binOp .eql t (.agg a) (.agg b)=(do pure (.bool (← Op.equal t (.agg a) (.agg b))):Sem Value):=rfl;rw[e];simp[eqGuard,c,d]) h
theorem x3 {a b:Array Value}{r:Bool}(c:P.eqGuardType P.depth t=false)(d:∀ w,(Op.equal t (.agg a) (.agg b)).run P w=.ok r w)(h:kk (.bool (!r)) w):cW P .neq t xo yo (.agg a) (.agg b) w kk:=
 wc (fun w=>by
  have e:binOp .neq t (.agg a) (.agg b)=(do pure (.bool (!(← Op.equal t (.agg a) (.agg b)))):Sem Value):=rfl;rw[e];simp[eqGuard,c,d]) h
theorem jl {op:BinOp}{a b:IntKind}{x y x' y':Int}(c:x=x')(d:y=y')(h:cW P op t xo yo (.int a x') (.int b y') w kk):cW P op t xo yo (.int a x) (.int b y) w kk:=by subst c;subst d;exact h
theorem jP {s d:TypeId}{k k':IntKind}{n:Int}(hs:(P.underlying s).isSome=true)(a:P.underlying d=some (.int k'))(h:kk (.int k' (k'.wrap n)) w):pQ P s d (.int k n) w kk:=by
 unfold pQ;refine ⟨_,w,?_,h⟩
 cases hsd:P.underlying s with
 | none=>simp[hsd] at hs
 | some ds=>simp[convert,run_underlying hsd,run_underlying a,Conv.intToInt]
theorem aK {g o o':Nat}{i:Int}{n e s:Nat}{k:IntKind}(b:P.underlying t=some (.array n e))(hs:bE P e=some s)(a:Nat)(hi:i=(a:Int))(d:a<n)(c:o+a*s=o')(h:kk (.pointer (some ⟨g,o',none⟩)) w):lV P t (.pointer (some ⟨g,o,none⟩)) (.int k i) w kk:=by
 unfold lV;subst hi;subst c;refine ⟨_,w,?_,h⟩;simp only[Instr.indexAt,asIntOf,pure_bind,Sem.run_bind,run_underlying b,Result.andThen_ok,Instr.sureAddr];rw[if_pos ⟨by omega,by omega⟩];simp only[Sem.run_bind,run_sizeOf hs,Result.andThen_ok,Sem.run_pure,Addr.add_lit,Int.toNat_natCast]
theorem ao {g o o' l c:Nat}{i:Int}{e s:Nat}{k:IntKind}(b:P.underlying t=some (.slice e))(hs:bE P e=some s)(a:Nat)(hi:i=(a:Int))(f:a<l)(d:o+a*s=o')(h:kk (.pointer (some ⟨g,o',none⟩)) w):lV P t (.slice (some ⟨g,o,none⟩) l c) (.int k i) w kk:=by
 unfold lV;subst hi;subst d;refine ⟨_,w,?_,h⟩;simp only[Instr.indexAt,asIntOf,pure_bind,Sem.run_bind,run_underlying b,Result.andThen_ok];rw[if_pos ⟨by omega,by omega⟩];simp only[Sem.run_bind,run_sizeOf hs,Result.andThen_ok,Sem.run_pure,Addr.add_lit,Int.toNat_natCast]
theorem aa {x v:Value}{i:Nat}(a:∀ w,(Instr.fieldAt t x i).run P w=.ok v w)(h:kk v w):mG P t x i w kk:=by
 unfold mG;exact ⟨_,w,a w,h⟩
theorem bt {a:List (Nat × Value)}{v:Value}(b:∀ w,(Instr.build t a.toArray).run P w=.ok v w)(h:kk v w):b8 P t a w kk:=by
 unfold b8;exact ⟨_,w,b w,h⟩
end
structure qI (P:Program) (t e:TypeId) (z:Value) (sz by_:Nat):Prop where
 und:P.underlying t=some (.slice e)
 info:(P.info? e).map (fun i=>(i.zero,i.size,i.bytes))=some (some z,sz,by_)
 zs:z.cells.size=sz
 pos:0<sz
theorem qI.size {P:Program}{t e:TypeId}{z:Value}{sz b:Nat}(T:qI P t e z sz b):bE P e=some sz:=by
 have h:=T.info;unfold bE
 cases hq:P.info? e with
 | none=>simp[hq] at h
 | some i=>simp[hq] at h;simp[h]
theorem qI.parts {P:Program}{t e:TypeId}{z:Value}{sz b:Nat}(T:qI P t e z sz b):∃ i,P.info? e=some i∧i.zero=some z∧i.size=sz∧i.bytes=b:=by
 have h:=T.info
 cases hq:P.info? e with
 | none=>simp[hq] at h
 | some i=>simp[hq] at h;exact ⟨i,rfl,h.1,h.2.1,h.2.2⟩
def own (e:TypeId)(sz:Nat)(v:Value)(n:Nat)(xs:List Value):cH:=
 ⟨fun g=>v.ownBlock=some g,fun w=>w.ownsRow 0 e sz v n xs,fun w w' h ⟨b,c⟩=>⟨b,c.imp id fun ⟨g,cap,cur,a,d,f,i⟩=>⟨g,cap,cur,a,d,(h g (by subst a;rfl)).trans f,i⟩⟩⟩
def sl (S:Nat→Prop)(v:Value)(sz n:Nat)(xs:List Value):cH:=
 ⟨S,fun w=>xs.length=n*sz∧∃ A c,v=.slice A n c∧n≤c∧(n=0∨∃ g o,A=some ⟨g,o,none⟩∧S g∧∀ j,j<n*sz→w.cell? ⟨g,o+j,none⟩=xs[j]?),
  fun w w' h ⟨b,A,c,d,e,f⟩=>⟨b,A,c,d,e,f.imp id fun ⟨g,o,i,a,k⟩=>⟨g,o,i,a,fun j l=>by
   rw[← k j l];unfold World.cell?;rw[h g a]⟩⟩⟩
def Sl (w:World)(v:Value)(sz n:Nat)(xs:List Value):Prop:=(sl (fun g=>g<w.heap.size) v sz n xs).ok w
theorem sl.mono {S a:Nat→Prop}{v:Value}{sz n:Nat}{xs:List Value}{w:World}(h:(sl S v sz n xs).ok w)(b:∀ g,S g→a g):(sl a v sz n xs).ok w:=
 let ⟨h1,A,c,hv,hc,h2⟩:=h
 ⟨h1,A,c,hv,hc,h2.imp id fun ⟨g,o,d,e,f⟩=>⟨g,o,d,b g e,f⟩⟩
theorem kI {w:World}{e:TypeId}{sz n:Nat}{g c:Nat}{xs:List Value}(h:(own e sz (.slice (some ⟨g,0,none⟩) n c) n xs).ok w)(j:Nat)(a:j<n*sz):w.cell? ⟨g,j,none⟩=xs[j]?:=
 World.ownsRow.cellAt (w:=w) (base:=0) h j a
theorem iH {w:World}{e:TypeId}{sz:Nat}{v:Value}{n:Nat}{xs:List Value}(h:(own e sz v n xs).ok w):(sl (fun g=>v.ownBlock=some g) v sz n xs).ok w:=by
 obtain ⟨b,f⟩:=h;rcases f with ⟨rfl,rfl⟩ | ⟨g,cap,cur,rfl,_,i,d,_,c,a⟩
 ·exact ⟨b,none,0,rfl,Nat.le_refl _,.inl rfl⟩
 ·refine ⟨b,_,cap,rfl,d,.inr ⟨g,0,rfl,rfl,fun j k=>?_⟩⟩;rw[Nat.zero_add];exact kI ⟨b,.inr ⟨g,cap,cur,rfl,Nat.zero_le _,i,d,‹_›,c,a⟩⟩ j k
theorem bB {w:World}{e:TypeId}{sz:Nat}{v:Value}{n:Nat}{xs:List Value}(h:(own e sz v n xs).ok w):Sl w v sz n xs:=
 sl.mono (iH h) fun g a=>(World.ownsRow.lt (w:=w) (base:=0) h g a).2
theorem nz {S:Nat→Prop}{v:Value}{sz n:Nat}{xs:List Value}{w:World}(h:(sl S v sz n xs).ok w)(a:∀ g,S g→g<w.heap.size):Sl w v sz n xs:=sl.mono h a
theorem Sl.same {w w':World}{v:Value}{sz n:Nat}{xs:List Value}(h:Sl w v sz n xs)(b:aT w w'):Sl w' v sz n xs:=
 sl.mono ((sl _ v sz n xs).bQ w w' (fun g a=>b.old g a id) h) fun _ a=>Nat.lt_of_lt_of_le a b.size
structure eE (w w':World) (r:cH):Prop where
 keeps:aT w w'
 ok:r.ok w'
 foot:∀ g,r.foot g→w.heap.size≤g∧g<w'.heap.size
section
variable {P:Program} {w0 w w':World} {F:Nat→Prop} {L M:List cH} {k kk:Value→World→Prop}
theorem Hp.bq {r:cH}(H:Hp w0 F w L M)(h:eE w w' r):Hp w0 F w' (r::L) M:=H.add h.keeps r h.ok h.foot
theorem Hp.out {r:cH}(H:Hp w ab w' (r::L) M):eE w w' r:=
 ⟨H.keeps,H.ok r (.head _),fun g a=>⟨(H.new r (.head _) g a).resolve_right id,H.lt r (.head _) g a⟩⟩
theorem Hp.uZ {r:cH}(H:Hp w ab w' L M)(n:Nat)(b:L[n]?=some r):eE w w' r:=
 have hm:=List.mem_of_getElem? b
 ⟨H.keeps,H.ok r hm,fun g a=>⟨(H.new r hm g a).resolve_right id,H.lt r hm g a⟩⟩
theorem Hp.bx (H:Hp w0 F w L M)(e:TypeId)(sz:Nat):Hp w0 F w (own e sz (.slice none 0 0) 0 []::L) M:=
 H.add (aS.refl _ _) _ (World.ownsRow_nil w 0 e sz) (fun g a=>by cases a)
theorem Hp.lY (H:Hp w0 F w L M)(n:Nat){e:TypeId}{sz:Nat}{A:Option Addr}{l c:Nat}{xs:List Value}(a:L[n]?=some (own e sz (.slice A l c) l xs))(h:0<l) :
  ∃ g,A=some ⟨g,0,none⟩:=by
 obtain ⟨i,b⟩:=H.get n a;rcases b with ⟨_,rfl⟩ | ⟨g,cap,cur,d,_⟩
 ·omega
 ·injection d with f _ _;exact ⟨g,f⟩
theorem Sl.A {sz l:Nat}{xs:List Value}{A:Option Addr}{c:Nat}(h:Sl w (.slice A l c) sz l xs)(e:0<l):∃ g o,A=some ⟨g,o,none⟩:=by
 obtain ⟨f,i,j,b,_,d⟩:=h;injection b with a _ _;subst a;rcases d with rfl | ⟨g,o,a,_⟩
 ·omega
 ·exact ⟨g,o,a⟩
theorem Sl.cell {sz l g o c:Nat}{xs:List Value}(h:Sl w (.slice (some ⟨g,o,none⟩) l c) sz l xs)(j:Nat)(b:j<l*sz):w.cell? ⟨g,o+j,none⟩=xs[j]?:=by
 obtain ⟨m,n,p,d,_,e⟩:=h;injection d with a _ _;subst a;rcases e with rfl | ⟨q,o',a,_,f⟩
 ·simp at b
 ·injection a with a;injection a with i k _;subst i;subst k;exact f j b
theorem Hp.ec (H:Hp w0 F w L M)(n:Nat){e ty:TypeId}{sz g i l c:Nat}{xs:List Value}{u:Value}(f:L[n]?=some (own e sz (.slice (some ⟨g,0,none⟩) l c) l xs))(a:cP P ty=some false)(d:xs[i]?=some u)(h:k u w):fb P ty (.pointer (some ⟨g,i,none⟩)) w k:=by
 have b:=H.get n f;have hlen:=b.1;refine aB a ?_ h;rw[kI b i (by have:=(List.getElem?_eq_some_iff.1 d).1;omega),d]
theorem Hp.dq (H:Hp w0 ab w L M){ty:TypeId}{sz g o i l c:Nat}{xs:List Value}{u:Value}(hs:Sl w0 (.slice (some ⟨g,o,none⟩) l c) sz l xs)(a:cP P ty=some false)(o':Nat)(e:o'=o+i)(d:xs[i]?=some u)(h:k u w):fb P ty (.pointer (some ⟨g,o',none⟩)) w k:=by
 subst e;have b:=hs.same H.keeps;have hlen:=hs.1;refine aB a ?_ h;rw[b.cell i (by have:=(List.getElem?_eq_some_iff.1 d).1;omega),d]
theorem Hp.dc (H:Hp w0 F w L M)(n:Nat){e ty:TypeId}{sz g i l c:Nat}{xs:List Value}{u:Value}(q:L[n]?=some (own e sz (.slice (some ⟨g,0,none⟩) l c) l xs))(hs:bE P ty=some 1)(hi:i<xs.length)(r:u.oneCell'=true)(h:∀ w',Hp w0 F w' (L.set n (own e sz (.slice (some ⟨g,0,none⟩) l c) l (xs.set i u))) M→k undef w'):im P ty (.pointer (some ⟨g,i,none⟩)) u w k:=by
 have a:=H.get n q;have hlen:=a.1;have d:w.cell? ⟨g,i,none⟩=some xs[i]:=by rw[kI a i (by omega)];exact List.getElem?_eq_getElem hi
 have o:w.frozen? ⟨g,i,none⟩=false:=World.ownsRow.frozenAt (w:=w) (base:=0) a i;have b:u.cells=#[u]:=by cases u <;> first | rfl | cases r
 unfold im;have f:=(World.ownsRow.stored (w:=w) (base:=0) a i u).1;refine ⟨w.setCell ⟨g,i,none⟩ u,?_,h _ (H.nc n q _ ((aS.setCell w ⟨g,i,none⟩ u).mono fun x m=>by subst m;rfl) f ?_)⟩
 ·have p:=run_store P w ⟨g,i,none⟩ u .plain r;have j:(⟨g,i,none⟩:Addr).add 0=⟨g,i,none⟩:=by simp[Addr.add]
  simp[Instr.storeAt,Instr.sureAddr,storeVar,b,run_sizeOf hs,storeCells,j,p,d,o]
 ·intro x m;exact ⟨by simpa using (World.ownsRow.lt (w:=w) (base:=0) a x m).2,.inl m⟩
theorem ay {t e ty:TypeId}{cs:Array Bool}{A:Option Addr}{n c:Nat}(a:P.underlying t=some (.slice e))(h:kk (.int .i64 (n:Int)) w):bV P .len #[t] ty cs [.slice A n c] w kk:=by
 unfold bV;refine ⟨_,w,?_,h⟩;show (do pure (.value (← Builtin.len_ #[t] ty #[.slice A n c])):Sem Next).run P w=_;simp[Builtin.len_,run_underlying a,goInt]
theorem ed {t ty:TypeId}{cs:Array Bool}{s:ByteArray}(a:P.underlying t=some .string)(h:kk (.int .i64 (s.size:Int)) w):bV P .len #[t] ty cs [.string s] w kk:=by
 unfold bV;refine ⟨_,w,?_,h⟩;show (do pure (.value (← Builtin.len_ #[t] ty #[.string s])):Sem Next).run P w=_;simp[Builtin.len_,run_underlying a,goInt]
theorem Hp.bf (H:Hp w0 F w L M){t e:TypeId}{z:Value}{sz b n:Nat}{d:List (Nat × Value)}{cs:Array Value}(T:qI P t e z sz b)(m:0<n)(f:n*sz≤16777216)(j:Instr.fill (fun i=>some (i*sz,sz)) ((Array.range (n*sz)).map (z.cells[· % z.cells.size]!)) d=some cs)(h:∀ g w',Hp w0 F w' (an g e cs::L) M→k (.slice (some ⟨g,0,none⟩) n n) w'):gq P t n d w k:=by
 unfold gq;refine ⟨_,w.alloc (.cells cs e),?_,h w.heap.size _ (H.add (aS.alloc _ _) _ (heap_alloc_new w _) ?_)⟩
 ·obtain ⟨i,hi,l,hs,o⟩:=T.parts;have a:n*sz≠0:=Nat.mul_ne_zero (by omega) (by have:=T.pos;omega);have c:eL P e=some z:=by unfold eL;rw[hi];exact l
  simp only[Instr.buildSlice,Sem.run_bind,run_underlying T.und,Result.andThen_ok,run_sizeOf T.size];rw[if_neg (by omega)];simp only[a,if_false,Sem.run_bind,lX c,Result.andThen_ok,Sem.run_pure,j];simp[newRow]
 ·rintro g rfl;exact ⟨Nat.le_refl _,by simp⟩
theorem DZ {x z:Value}(a:x.cells=#[x])(b:z.cells.size=1):Instr.fill (fun i=>some (i*1,1)) ((Array.range (1*1)).map (z.cells[· % z.cells.size]!)) [(0,x)]=some #[x]:=by
 have:(Array.range (1*1)).map (fun i=>z.cells[i % z.cells.size]!)=#[z.cells[0]!]:=by
  simp[b];exact ⟨0,by decide,getElem!_pos z.cells 0 (by omega)⟩
 rw[this];simp only[Instr.fill,a];simp
theorem Hp.aX (H:Hp w0 F w L M){t e:TypeId}{z x:Value}{b:Nat}(T:qI P t e z 1 b)(a:x.cells=#[x])(h:∀ g w',Hp w0 F w' (an g e #[x]::L) M→k (.slice (some ⟨g,0,none⟩) 1 1) w'):gq P t 1 [(0,x)] w k:=
 H.bf T (by omega) (by omega) (DZ a T.zs) h
theorem Hp.aG (H:Hp w0 F w L M)(n:Nat)(m:Nat){t e ty:TypeId}{z v:Value}{sz b l g c d:Nat}{xs:List Value}{cs:Array Value}{B:Array Bool}(T:qI P t e z sz b)(I:L[n]?=some (own e sz v l xs))(hm:L[m]?=some (an g e cs))(C:cs.size=c*sz)(J:∀ u ∈ cs.toList,u.oneCell'=true)(K:(l+c)*b≤140737488355328)(N:l+c<1152921504606846976)(h:∀ A d w',Hp w0 F w' (L.set n (own e sz (.slice A (l+c) d) (l+c) (xs++cs.toList))) M→kk (.slice A (l+c) d) w') :
  bV P .append #[t,t] ty B [v,.slice (some ⟨g,0,none⟩) c d] w kk:=by
 obtain ⟨i,hi,O,hs,Q⟩:=T.parts;have k:w.ownsRow 0 e sz v l xs:=H.get n I;have o:=H.get m hm;obtain ⟨D,w',p,a,q,_,r⟩:=run_append_own_at (P:=P) w 0 t ty e i z sz b T.und hi O hs Q T.zs T.pos v l xs k ⟨g,0,none⟩ c d cs.toList (by simp[C])
  (fun j u hu=>by
   have s:(⟨g,0,none⟩:Addr).add j=⟨g,j,none⟩:=by unfold Addr.add;split <;> simp_all
   rw[s,aQ o];simpa using hu) J (by unfold maxLen;omega) K (Nat.zero_le _)
 have S:aS (own e sz v l xs).foot w w':=⟨q.os,q.tape,q.output,q.size,fun x y E=>q.block x y fun e=>E e.symm⟩;have U:=H.nc n I (own e sz D (l+c) (xs++cs.toList)) S a (fun x y=>⟨(World.ownsRow.lt (w:=w') (base:=0) a x y).2,by
  have f:D.ownBlock=some x:=y;rcases r with h | h
  ·left;show v.ownBlock=some x;rw[← h];exact f
  ·right;rw[h] at f;injection f with f;omega⟩)
 have G:∃ A d,D=.slice A (l+c) d:=by
  rcases a.2 with ⟨rfl,V⟩ | ⟨Y,cap,cur,G,_⟩
  ·exact ⟨none,0,by rw[V]⟩
  ·exact ⟨_,_,G⟩
 obtain ⟨A,X,rfl⟩:=G;unfold bV;refine ⟨_,w',?_,h A X w' U⟩;show (do pure (.value (← Builtin.append_ #[t,t] ty #[v,.slice (some ⟨g,0,none⟩) c d])):Sem Next).run P w=_;rw[Sem.run_bind,p];rfl
theorem Hp.cn {g:Nat}{e:TypeId}{x:Value}(H:Hp w0 F w (an g e #[x]::L) M)(n:Nat){t ty:TypeId}{z v:Value}{b l d:Nat}{xs:List Value}{a:Array Bool}(T:qI P t e z 1 b)(f:L[n]?=some (own e 1 v l xs))(i:x.oneCell'=true)(j:(l+1)*b≤140737488355328)(c:l+1<1152921504606846976)(h:∀ A d w',Hp w0 F w' (L.set n (own e 1 (.slice A (l+1) d) (l+1) (xs++[x]))) M→kk (.slice A (l+1) d) w') :
  bV P .append #[t,t] ty a [v,.slice (some ⟨g,0,none⟩) 1 d] w kk:=
 H.aG (n+1) 0 T (by simpa using f) rfl rfl (by simpa using i) j c fun A d w' k=>h A d w' (by simpa using k.forget)
theorem Hp.make (H:Hp w0 F w L M){t e:TypeId}{z:Value}{sz b:Nat}(T:qI P t e z sz b){l m:IntKind}(n:Nat){i j:Int}(hi:i=(n:Int))(o:j=(n:Int))(p:b*n≤281474976710656)(v:n<1152921504606846976)(h:∀ g w',Hp w0 F w' (own e sz (.slice (some ⟨g,0,none⟩) n n) n (madeCells z.cells (n*sz)).toList::L) M→k (.slice (some ⟨g,0,none⟩) n n) w'):mF P t (.int l i) (.int m j) w k:=by
 subst hi;subst o;obtain ⟨i,hi,q,hs,f⟩:=T.parts;obtain ⟨w',r,a,c⟩:=run_make_full (P:=P) w 0 t e i z sz T.und hi q hs l m n (by rw[f];exact p) (by unfold maxLen;omega) (Nat.zero_le _);unfold mF;refine ⟨_,w',r,h w.heap.size w' (H.add ⟨c.os,c.tape,c.output,c.size,fun x d _=>c.block x d (by simp)⟩ _ a fun x d=>?_)⟩;have s:=(World.ownsRow.lt (w:=w') (base:=0) a x d).2;have u:w.heap.size=x:=by injection d
 exact ⟨by omega,s⟩
end
open Go.MapKept (Stamped)
section
variable {α β:Type} [DecidableEq α]
def bS (l:List (α × β))(a:α):Option β:=(l.find? fun p=>decide (p.1=a)).map (·.2)
def dZ (l:List (α × β))(a:α)(b:β):List (α × β):=
 if (bS l a).isSome then l.map fun p=>if p.1=a then (a,b) else p else l++[(a,b)]
def eM (l:List (α × β)):List α:=l.map (·.1)
theorem u3 {l:List (α × β)}{a:α}:bS l a=none↔∀ p ∈ l,p.1≠a:=by
 unfold bS;rw[Option.map_eq_none_iff,List.find?_eq_none];simp
theorem D0 {l:List (α × β)}{a:α}{b:β}(h:bS l a=some b):(a,b) ∈ l:=by
 unfold bS at h;rw[Option.map_eq_some_iff] at h;obtain ⟨p,c,rfl⟩:=h;have d:=List.find?_some c;have e:=List.mem_of_find?_eq_some c;simp at d;subst d;exact e
theorem jQ {l:List (α × β)}(c:(eM l).Nodup){a:α}{b:β}(h:(a,b) ∈ l):bS l a=some b:=by
 induction l with
 | nil=>cases h
 | cons p l ih=>
  simp only[eM,List.map_cons,List.nodup_cons] at c;rcases List.mem_cons.1 h with rfl | h
  ·simp[bS]
  ·have d:p.1≠a:=fun e=>c.1 (by rw[e];exact List.mem_map.2 ⟨_,h,rfl⟩);have:=ih c.2 h;simpa [bS,List.find?_cons,d] using this
theorem sW (a:α):bS ([]:List (α × β)) a=none:=rfl
theorem D4 (l:List (α × β))(a c:α)(b:β):bS (l.map fun p=>if p.1=a then (a,b) else p) c=if c=a then (bS l c).map (fun _=>b) else bS l c:=by
 induction l with
 | nil=>simp[bS]
 | cons p l ih=>
  by_cases e:p.1=c
  ·subst e;by_cases d:p.1=a
   ·simp[bS,List.find?_cons,d]
   ·simp[bS,List.find?_cons,d]
  ·have f:bS (p::l) c=bS l c:=by simp[bS,List.find?_cons,e]
   have g:bS ((p::l).map fun p=>if p.1=a then (a,b) else p) c=bS (l.map fun p=>if p.1=a then (a,b) else p) c:=by
    by_cases d:p.1=a
    ·have:¬ a=c:=fun h=>e (d.trans h);simp[bS,List.find?_cons,d,this]
    ·simp[bS,List.find?_cons,d,e]
   rw[f,g,ih]
theorem x4 (l m:List (α × β))(c:α):bS (l++m) c=(bS l c).or (bS m c):=by
 unfold bS;rw[List.find?_append]
 cases l.find? fun p=>decide (p.1=c) <;> simp
theorem fg (l:List (α × β))(a c:α)(b:β):bS (dZ l a b) c=if c=a then some b else bS l c:=by
 unfold dZ;split
 ·rename_i h;rw[D4];split
  ·rename_i d;subst d;obtain ⟨v,g⟩:=Option.isSome_iff_exists.1 h;simp[g]
  ·rfl
 ·rename_i h;rw[x4];split
  ·rename_i d;subst d;have:bS l c=none:=by simpa using h
   rw[this];simp[bS]
  ·rename_i d;have:bS [(a,b)] c=none:=u3.2 (by rintro p f;rw[List.mem_singleton] at f;subst f;exact fun e=>d e.symm);rw[this];cases bS l c <;> rfl
theorem x5 (l:List (α × β))(a:α)(b:β):(dZ l a b).length=if (bS l a).isSome then l.length else l.length+1:=by
 unfold dZ;split <;> simp
end
structure KL (P:Program) (k:TypeId) (K:Value→Prop):Prop where
 check:∀ (w:World) (em:Bool) {v:Value},K v→(Instr.checkKey em 10000 k v).run P w=.ok () w
 find:∀ (w:World) {x:Value},K x→∀ es:List MapEntry,(∀ e ∈ es,K e.key)→
  ((Instr.findKey k x es).run P w=.ok none w∧∀ e ∈ es,e.key≠x)∨∃ j e,(Instr.findKey k x es).run P w=.ok (some (j,e.val)) w∧es[j]?=some e∧e.key=x
 stays:∀ (w:World) {v:Value},K v→(Instr.keyThatStays v v).run P w=.ok v w
theorem KL.D5 {P:Program}{k:TypeId}{d:TypeDesc}(b:P.underlying k=some d):KL P k (MapKept.IsKey d):=
 ⟨fun w em _ h=>MapKept.run_checkKey b h em 9999,fun w x f es he=>by
  rcases MapKept.findNow_spec f es 0 he with ⟨a,c⟩ | ⟨j,e,a,c,g⟩
  ·exact .inl ⟨MapKept.run_findKey b a,c⟩
  ·rw[Nat.zero_add] at a;exact .inr ⟨j,e,MapKept.run_findKey b a,c,g⟩,fun w _ h=>MapKept.run_keyThatStays h⟩
theorem KL.mono {P:Program}{k:TypeId}{K c:Value→Prop}(h:KL P k K)(a:∀ v,c v→K v):KL P k c:=
 ⟨fun w em _ b=>h.check w em (a _ b),fun w _ d es he=>h.find w (a _ d) es (fun e hm=>a _ (he e hm)),fun w _ b=>h.stays w (a _ b)⟩
structure ld (P:Program) (t kt et:TypeId) {α β:Type} (ka:α→Value) (vb:β→Value) (z:Value):Prop where
 und:P.underlying t=some (.map kt et)
 key:KL P kt fun v=>∃ a,v=ka a
 inj:∀ a b,ka a=ka b→a=b
 zero:eL P et=some z
def aP {α β:Type}(ka:α→Value)(vb:β→Value)(r:Nat)(l:List (α × β)):cH:=
 ⟨fun g=>g=r,fun w=>∃ es clock,w.heap[r]?=some (.map es clock)∧Stamped es clock∧es.toList.map (fun e=>(e.key,e.val))=l.map fun p=>(ka p.1,vb p.2),
  fun _ _ h ⟨es,clock,a,b,c⟩=>⟨es,clock,(h r rfl).trans a,b,c⟩⟩
section
variable {α β:Type} {ka:α→Value} {vb:β→Value} {z:Value} {P:Program} {t kt et:TypeId} {w0 w:World} {F:Nat→Prop} {L M:List cH} {k kk:Value→World→Prop} {l:List (α × β)} {r:Nat}
theorem jm (d:∀ a b,ka a=ka b→a=b){es:Array MapEntry}{clock:Nat}(hs:Stamped es clock)(g:es.toList.map (fun e=>(e.key,e.val))=l.map fun p=>(ka p.1,vb p.2)):(eM l).Nodup:=by
 have h:=hs.2.2;have e:es.toList.map (·.key)=l.map fun p=>ka p.1:=by
  have:=congrArg (List.map Prod.fst) g;simpa [List.map_map,Function.comp_def] using this
 rw[e] at h;have f:(l.map fun p=>ka p.1).Nodup:=h;rw[show (l.map fun p=>ka p.1)=(eM l).map ka by simp[eM,List.map_map,Function.comp_def]] at f;exact List.Pairwise.of_map ka (fun a b c e=>c (congrArg ka e)) f
theorem lZ [DecidableEq α](W:ld P t kt et ka vb z){es:Array MapEntry}{clock:Nat}(hs:Stamped es clock)(f:es.toList.map (fun e=>(e.key,e.val))=l.map fun p=>(ka p.1,vb p.2))(a:α)(w:World) :
  ((Instr.findKey kt (ka a) es.toList).run P w=.ok none w∧bS l a=none∧∀ e ∈ es.toList,e.key≠ka a)∨
   ∃ j e b,(Instr.findKey kt (ka a) es.toList).run P w=.ok (some (j,e.val)) w∧es[j]?=some e∧e.key=ka a∧l[j]?=some (a,b)∧e.val=vb b∧bS l a=some b:=by
 have m:∀ e ∈ es.toList,∃ a,e.key=ka a:=by
  intro e he;have:(e.key,e.val) ∈ es.toList.map (fun e=>(e.key,e.val)):=List.mem_map.2 ⟨e,he,rfl⟩;rw[f] at this;obtain ⟨p,_,g⟩:=List.mem_map.1 this;exact ⟨p.1,(congrArg Prod.fst g).symm⟩
 rcases W.key.find w ⟨a,rfl⟩ es.toList m with ⟨h,d⟩ | ⟨j,e,h,d,k⟩
 ·refine .inl ⟨h,u3.2 fun p g e=>?_,d⟩;have:(ka p.1,vb p.2) ∈ es.toList.map (fun e=>(e.key,e.val)):=by rw[f];exact List.mem_map.2 ⟨p,g,rfl⟩
  obtain ⟨x,n,i⟩:=List.mem_map.1 this;refine d x n ?_;rw[show x.key=ka p.1 from congrArg Prod.fst i,e]
 ·have c:=congrArg (·[j]?) f;simp only[List.getElem?_map,d,Option.map_some] at c
  cases hj:l[j]? with
  | none=>rw[hj] at c;cases c
  | some p=>
   rw[hj] at c;simp only[Option.map_some,Option.some.injEq,Prod.mk.injEq] at c;obtain rfl:p.1=a:=W.inj _ _ (by rw[← c.1,k]);exact .inr ⟨j,e,p.2,h,by simpa using d,k,hj,c.2,jQ (jm W.inj hs f) (List.mem_of_getElem? hj)⟩
theorem Hp.makeMap (H:Hp w0 F w L M)(ka:α→Value)(vb:β→Value)(h:∀ r w',Hp w0 F w' (aP ka vb r []::L) M→k (.map (some r)) w'):np P t none w k:=by
 unfold np;refine ⟨_,w.alloc (.map #[] 0),?_,h w.heap.size _ (H.add (aS.alloc _ _) _ ⟨#[],0,heap_alloc_new w _,MapKept.stamped_empty 0,rfl⟩ ?_)⟩
 ·simp[Instr.makeMap]
 ·rintro g rfl;exact ⟨Nat.le_refl _,by simp⟩
theorem Hp.lookup [DecidableEq α](H:Hp w0 F w L M)(n:Nat)(g:L[n]?=some (aP ka vb r l))(W:ld P t kt et ka vb z)(a:α)(h:kk (((bS l a).map vb).getD z) w):gL P t (.map (some r)) (ka a) false w kk:=by
 obtain ⟨es,clock,f,hs,i⟩:=H.get n g;unfold gL;rcases lZ W hs i a w with ⟨c,d,_⟩ | ⟨j,e,b,c,he,k,m,o,d⟩
 ·rw[d] at h;exact ⟨_,w,by simp[Instr.lookup,run_underlying W.und,MapKept.run_getObj_map f,W.key.check w _ ⟨a,rfl⟩,c,lX W.zero,Result.andThen],h⟩
 ·rw[d] at h;exact ⟨_,w,by simp[Instr.lookup,run_underlying W.und,MapKept.run_getObj_map f,W.key.check w _ ⟨a,rfl⟩,c,o,Result.andThen],h⟩
theorem l5 (H:Hp w0 F w L M)(n:Nat){f:List (α × β)}(i:L[n]?=some (aP ka vb r l)){es:Array MapEntry}{clock:Nat}{b:Array MapEntry}{a:Nat}(h:w.heap[r]?=some (.map es clock))(hs:Stamped b a)(j:b.toList.map (fun e=>(e.key,e.val))=f.map fun p=>(ka p.1,vb p.2)) :
  Hp w0 F { w with heap:=w.heap.setIfInBounds r (.map b a) } (L.set n (aP ka vb r f)) M:=by
 have c:=MapKept.heap_set (o':=.map b a) h;refine H.nc n i _ ⟨rfl,rfl,rfl,by simp,fun g k d=>c.2 g d⟩ ⟨b,a,c.1,hs,j⟩ ?_;rintro g rfl;exact ⟨by simpa using (Array.getElem?_eq_some_iff.1 h).1,.inl rfl⟩
theorem rL [DecidableEq α]{es:Array MapEntry}{j:Nat}{a:α}{b k:β}(m:(eM l).Nodup)(o:es.toList.map (fun e=>(e.key,e.val))=l.map fun p=>(ka p.1,vb p.2))(d:l[j]?=some (a,b)) :
  (es.modify j fun e=>{ e with key:=ka a,val:=vb k }).toList.map (fun e=>(e.key,e.val))=(dZ l a k).map fun p=>(ka p.1,vb p.2):=by
 have q:bS l a=some b:=jQ m (List.mem_of_getElem? d);unfold dZ;rw[q];simp only[Option.isSome_some,if_true];apply List.ext_getElem?;intro i;have c:=congrArg (·[i]?) o;simp only[List.getElem?_map,Array.getElem?_toList] at c;simp only[List.getElem?_map,Array.getElem?_toList,Array.getElem?_modify];by_cases f:j=i
 ·subst f;simp only[if_true];rw[d] at c ⊢
  cases he:es[j]? with
  | none=>rw[he] at c;cases c
  | some x=>simp
 ·simp only[f,if_false];rw[c]
  cases hi:l[i]? with
  | none=>rfl
  | some p=>
   have g:p.1≠a:=by
    intro h;have r:=m;have s:(eM l)[i]?=some a:=by simp[eM,hi,h]
    have n:(eM l)[j]?=some a:=by simp[eM,d]
    exact f ((List.getElem?_inj (List.getElem?_eq_some_iff.1 n).1 r).1 (n.trans s.symm))
   simp[g]
theorem Hp.iI [DecidableEq α](H:Hp w0 F w L M)(n:Nat)(p:L[n]?=some (aP ka vb r l))(W:ld P t kt et ka vb z)(a:α)(b:β)(h:∀ w',Hp w0 F w' (L.set n (aP ka vb r (dZ l a b))) M→k undef w'):od P t (.map (some r)) (ka a) (vb b) w k:=by
 obtain ⟨es,clock,f,hs,o⟩:=H.get n p;unfold od;rcases lZ W hs o a w with ⟨q,y,s⟩ | ⟨j,e,b0,q,he,i,u,A,y⟩
 ·have d:=MapKept.stamped_push (val:=vb b) hs s;refine ⟨_,?_,h _ (l5 H n p f d ?_)⟩
  ·simp[Instr.mapUpdate,run_underlying W.und,MapKept.run_getObj_map f,W.key.check w _ ⟨a,rfl⟩,q,MapKept.run_setObj_map _ f,Result.andThen]
  ·simp[dZ,y,o]
 ·have m:∀ g,es[j]?=some g→({ g with key:=ka a,val:=vb b }:MapEntry).key=g.key:=fun g c=>by rw[he] at c;cases c;exact i.symm
  have d:=MapKept.stamped_modify hs j (fun e=>{ e with key:=ka a,val:=vb b }) (fun _ _=>rfl) (fun g _ c=>m g c);refine ⟨_,?_,h _ (l5 H n p f d (rL (jm W.inj hs o) o u))⟩;have x:=W.key.stays w (v:=ka a) ⟨a,rfl⟩;simp[Instr.mapUpdate,run_underlying W.und,MapKept.run_getObj_map f,W.key.check w _ ⟨a,rfl⟩,q,he,i,x,MapKept.run_setObj_map _ f,Result.andThen]
theorem Hp.I7 (H:Hp w0 F w L M)(n:Nat)(b:L[n]?=some (aP ka vb r l))(W:ld P t kt et ka vb z){ty:TypeId}{a:Array Bool}(h:kk (.int .i64 (l.length:Int)) w):bV P .len #[t] ty a [.map (some r)] w kk:=by
 obtain ⟨es,clock,c,hs,d⟩:=H.get n b;have hlen:es.size=l.length:=by have:=congrArg List.length d;simpa using this
 unfold bV;refine ⟨_,w,?_,h⟩;show (do pure (.value (← Builtin.len_ #[t] ty #[.map (some r)])):Sem Next).run P w=_;simp[Builtin.len_,run_underlying W.und,MapKept.run_getObj_map c,goInt,hlen,Result.andThen]
end
structure Nd where
 l:Nat
 lo:Nat
 hi:Nat
 deriving DecidableEq
abbrev Ar:=List (Option Nd)
def slot (A:Ar)(i:Nat):Option Nd:=A.getD i none
def aR (A:Ar)(id:Int):Int:=if id=0∨id=1 then 24 else if 2≤id then (match slot A (id - 2).toNat with | some n=>(n.l:Int) | none=> -1) else -1
def iJ (A:Ar)(n:Nd):Option Nat:=A.findIdx? fun x=>x==some n
def lp (A:Ar):Nat:=A.countP (·.isSome)
def bT (A:Ar):Nat:=A.findIdx (·.isNone)
def jd (A:Ar)(n:Nd):Ar:=if bT A=A.length then A++[some n] else A.set (bT A) (some n)
def D6 (A:Ar):Prop:=∀ i j n,slot A i=some n→slot A j=some n→i=j
def we (room:Int)(A:Ar)(l lo hi:Int):Ar × Int × Int:=
 if l<0∨aR A lo≤l∨aR A hi≤l then (A,0,1)
 else match iJ A ⟨l.toNat,lo.toNat,hi.toNat⟩ with
  | some i=>(A,((i+2:Nat):Int),0)
  | none=>if room≤(lp A:Int) then (A,0,5) else (jd A ⟨l.toNat,lo.toNat,hi.toNat⟩,((bT A+2:Nat):Int),0)
theorem pV {A:Ar}{i:Nat}{n:Nd}(h:slot A i=some n):i<A.length:=by
 unfold slot at h;rw[List.getD_eq_getElem?_getD] at h;by_cases hi:i<A.length
 ·exact hi
 ·rw[List.getElem?_eq_none (by omega)] at h;cases h
theorem jR {A:Ar}{i:Nat}(h:i<A.length):A[i]?=some (slot A i):=by
 unfold slot;rw[List.getD_eq_getElem?_getD,List.getElem?_eq_getElem h];rfl
theorem u4 {A:Ar}{i:Nat}(h:A.length≤i):slot A i=none:=by
 unfold slot;rw[List.getD_eq_getElem?_getD,List.getElem?_eq_none h];rfl
theorem D7 {A:Ar}{i:Nat}(hi:i<A.length)(x:Option Nd)(j:Nat):slot (A.set i x) j=if j=i then x else slot A j:=by
 unfold slot;rw[List.getD_eq_getElem?_getD,List.getD_eq_getElem?_getD,List.getElem?_set];by_cases h:i=j
 ·subst h;simp[hi]
 ·simp[h,Ne.symm h]
theorem Cs (A:Ar)(x:Option Nd)(j:Nat):slot (A++[x]) j=if j=A.length then x else slot A j:=by
 unfold slot;rw[List.getD_eq_getElem?_getD,List.getD_eq_getElem?_getD];by_cases h:j<A.length
 ·rw[List.getElem?_append_left h,if_neg (by omega)]
 ·rw[List.getElem?_append_right (by omega)];by_cases a:j=A.length
  ·subst a;simp
  ·rw[if_neg a,List.getElem?_eq_none (by simp;omega),List.getElem?_eq_none (by omega)]
theorem nA (A:Ar):bT A≤A.length:=List.findIdx_le_length
theorem kv (A:Ar):slot A (bT A)=none:=by
 by_cases h:bT A<A.length
 ·have:=List.findIdx_getElem (w:=h);have e:A[bT A]?=some A[bT A]:=List.getElem?_eq_getElem h;rw[jR h] at e;injection e with e;rw[e];have a:(A[bT A]).isNone=true:=this;simpa using a
 ·exact u4 (by omega)
theorem lq {A:Ar}{i:Nat}(h:i<bT A):∃ n,slot A i=some n:=by
 have b:=List.not_of_lt_findIdx h;have a:i<A.length:=Nat.lt_of_lt_of_le h (nA A);have e:A[i]?=some A[i]:=List.getElem?_eq_getElem a;rw[jR a] at e;injection e with e;rw[e]
 cases hx:A[i] with
 | none=>simp[hx] at b
 | some n=>exact ⟨n,rfl⟩
theorem fE (A:Ar)(n:Nd)(j:Nat):slot (jd A n) j=if j=bT A then some n else slot A j:=by
 unfold jd;split
 ·rename_i h;rw[Cs,h]
 ·rename_i h;exact D7 (by have:=nA A;omega) _ _
theorem nB (A:Ar)(n:Nd):(jd A n).length=if bT A=A.length then A.length+1 else A.length:=by
 unfold jd;split <;> simp
theorem kJ {A:Ar}{n:Nd}:iJ A n=none↔∀ i,slot A i≠some n:=by
 unfold iJ;rw[List.findIdx?_eq_none_iff];constructor
 ·intro h i hi;have a:=pV hi;have:=h _ (List.mem_of_getElem? (jR a));simp[hi] at this
 ·intro h x b;obtain ⟨i,hi⟩:=List.mem_iff_getElem?.1 b;have a:=(List.getElem?_eq_some_iff.1 hi).1;rw[jR a] at hi;injection hi with hi;have:=h i;rw[hi] at this;simpa using this
theorem kK {A:Ar}{n:Nd}{i:Nat}(h:iJ A n=some i):slot A i=some n:=by
 unfold iJ at h;rw[List.findIdx?_eq_some_iff_getElem] at h;obtain ⟨a,b,_⟩:=h;have e:A[i]?=some A[i]:=List.getElem?_eq_getElem a;rw[jR a] at e;injection e with e;rw[e];simpa using b
theorem sX {A:Ar}(hu:D6 A){n:Nd}{i:Nat}:iJ A n=some i↔slot A i=some n:=by
 constructor
 ·exact kK
 ·intro h
  cases hf:iJ A n with
  | none=>exact absurd h (kJ.1 hf i)
  | some j=>rw[hu j i n (kK hf) h]
theorem Ct (A:Ar)(n:Nd):lp (jd A n)=lp A+1:=by
 unfold jd lp;split
 ·simp
 ·rename_i h;have a:bT A<A.length:=by have:=nA A;omega
  have hs:=kv A;rw[List.countP_set a];have e:A[bT A]=none:=by
   have e:A[bT A]?=some A[bT A]:=List.getElem?_eq_getElem a;rw[jR a,hs] at e;injection e with e;exact e.symm
  simp[e]
theorem x6 {A:Ar}(hu:D6 A){n:Nd}(b:iJ A n=none):D6 (jd A n):=by
 intro i j m hi a;rw[fE] at hi a;split at hi <;> split at a
 ·omega
 ·injection hi with hi;subst hi;exact absurd a (kJ.1 b j)
 ·injection a with a;subst a;exact absurd hi (kJ.1 b i)
 ·exact hu i j m hi a
structure sY (l:List (Nd × Nat)) (A:Ar):Prop where
 get:∀ n,bS l n=(iJ A n).map (· + 2)
 len:l.length=lp A
theorem BA {l:List (Nd × Nat)}{A:Ar}(h:sY l A)(hu:D6 A){n:Nd}(d:iJ A n=none):sY (dZ l n (bT A+2)) (jd A n):=by
 have a:=x6 hu d;refine ⟨fun c=>?_,?_⟩
 ·rw[fg,h.get];split
  ·rename_i b;subst b;have:iJ (jd A c) c=some (bT A):=(sX a).2 (by rw[fE];simp);rw[this];rfl
  ·rename_i b
   congr 1
   cases hf:iJ A c with
   | none=>
    refine (kJ.2 fun i hi=>?_).symm;rw[fE] at hi;split at hi
    ·injection hi with hi;exact b hi.symm
    ·exact kJ.1 hf i hi
   | some i=>
    have hi:=kK hf;refine ((sX a).2 ?_).symm;rw[fE,if_neg,hi];intro e;subst e;rw[kv] at hi;cases hi
 ·rw[x5,h.get,d];simp[h.len,Ct]
structure x7 (A:Ar):Prop where
 uniq:D6 A
 lev:∀ i n,slot A i=some n→(n.l:Int)<aR A n.lo∧(n.l:Int)<aR A n.hi
 top:∀ i n,slot A i=some n→n.l<24
theorem pW {A:Ar}(h:x7 A)(id:Int):aR A id≤24:=by
 unfold aR;split
 ·omega
 ·split
  ·split
   ·rename_i n a;have:=h.top _ n a;omega
   ·omega
  ·omega
theorem jn {A:Ar}{i:Nat}{n:Nd}(h:slot A i=some n):aR A ((i:Int)+2)=n.l:=by
 unfold aR;rw[if_neg (by omega),if_pos (by omega),show ((i:Int)+2 - 2).toNat=i by omega,h]
theorem jo {A:Ar}{id:Int}(h:0≤aR A id):id=0∨id=1∨∃ (i:Nat) (n:Nd),id=(i:Int)+2∧slot A i=some n∧aR A id=n.l:=by
 by_cases b:id=0∨id=1
 ·rcases b with b | b
  ·exact .inl b
  ·exact .inr (.inl b)
 ·right;right
  have a:=h;unfold aR at a;rw[if_neg b] at a;by_cases c:2≤id
  ·rw[if_pos c] at a;obtain ⟨i,rfl⟩:∃ i:Nat,id=(i:Int)+2:=⟨(id - 2).toNat,by omega⟩;rw[show ((i:Int)+2 - 2).toNat=i by omega] at a
   cases hs:slot A i with
   | none=>rw[hs] at a;simp at a
   | some n=>exact ⟨i,n,rfl,hs,jn hs⟩
  ·rw[if_neg c] at a;omega
theorem pX {A:Ar}(n:Nd){id:Int}(h:id≠(bT A:Int)+2):aR (jd A n) id=aR A id:=by
 unfold aR;split
 ·rfl
 ·split
  ·rename_i a;rw[fE,if_neg (by omega)]
  ·rfl
theorem Cu (A:Ar):aR A ((bT A:Int)+2)= -1:=by
 unfold aR;rw[if_neg (by omega),if_pos (by omega),show ((bT A:Int)+2 - 2).toNat=bT A by omega,kv]
theorem GJ {A:Ar}(h:x7 A){n:Nd}(b:iJ A n=none)(c:(n.l:Int)<aR A n.lo)(d:(n.l:Int)<aR A n.hi):x7 (jd A n):=by
 have a:∀ id:Int,0≤aR A id→id≠(bT A:Int)+2:=by
  rintro id hid rfl;rw[Cu] at hid;omega
 refine ⟨x6 h.uniq b,fun i m hi=>?_,fun i m hi=>?_⟩
 ·rw[fE] at hi;split at hi
  ·injection hi with hi;subst hi;rw[pX _ (a _ (by omega)),pX _ (a _ (by omega))];exact ⟨c,d⟩
  ·have:=h.lev i m hi;rw[pX _ (a _ (by omega)),pX _ (a _ (by omega))];exact this
 ·rw[fE] at hi;split at hi
  ·injection hi with hi;subst hi;have:=pW h n.lo;omega
  ·exact h.top i m hi
section
variable {α:Type}
def flat (enc:α→List Value)(l:List α):List Value:=l.flatMap enc
theorem dd {enc:α→List Value}{sz:Nat}(he:∀ a,(enc a).length=sz)(l:List α):(flat enc l).length=l.length*sz:=by
 induction l with
 | nil=>simp[flat]
 | cons a l ih=>
  have:flat enc (a::l)=enc a++flat enc l:=rfl;rw[this,List.length_append,ih,he,List.length_cons,Nat.succ_mul,Nat.add_comm]
theorem jq {enc:α→List Value}{l:List α}{i:Nat}{a:α}(h:l[i]?=some a):flat enc l=flat enc (l.take i)++enc a++flat enc (l.drop (i+1)):=by
 have hi:=(List.getElem?_eq_some_iff.1 h).1;have e:l=l.take i++a::l.drop (i+1):=by
  have b:=(List.getElem?_eq_some_iff.1 h).2;rw[← b,← List.drop_eq_getElem_cons hi,List.take_append_drop]
 conv=>lhs;rw[e]
 simp[flat]
theorem jr {enc:α→List Value}{sz:Nat}(he:∀ a,(enc a).length=sz){l:List α}{i:Nat}{a:α}(h:l[i]?=some a)(j:Nat)(b:j<sz):(flat enc l)[i*sz+j]?=(enc a)[j]?:=by
 have hi:=(List.getElem?_eq_some_iff.1 h).1;rw[jq h,List.append_assoc,List.getElem?_append_right,dd he,List.length_take,Nat.min_eq_left (by omega),Nat.add_sub_cancel_left,List.getElem?_append_left (by rw[he];exact b)];rw[dd he,List.length_take,Nat.min_eq_left (by omega)];omega
theorem D8 {enc:α→List Value}{sz:Nat}(he:∀ a,(enc a).length=sz){l:List α}{i:Nat}(hi:i<l.length)(a:α) :
  flat enc (l.set i a)=(flat enc l).take (i*sz)++enc a++(flat enc l).drop (i*sz+sz):=by
 have b:(flat enc (l.take i)).length=i*sz:=by rw[dd he,List.length_take,Nat.min_eq_left (by omega)]
 have c:l[i]?=some l[i]:=List.getElem?_eq_getElem hi;have hs:(l.set i a)[i]?=some a:=by simp[hi]
 have d:(l.set i a).take i=l.take i:=by rw[List.take_set_of_le (Nat.le_refl _)]
 have e:(l.set i a).drop (i+1)=l.drop (i+1):=by rw[List.drop_set_of_lt (by omega)]
 have f:(flat enc l).take (i*sz)=flat enc (l.take i):=by
  rw[jq c,List.append_assoc,List.take_append_of_le_length (by rw[b];exact Nat.le_refl _),List.take_of_length_le (by rw[b];exact Nat.le_refl _)]
 have g:(flat enc l).drop (i*sz+sz)=flat enc (l.drop (i+1)):=by
  rw[jq c,List.drop_left' (by rw[List.length_append,b,he])]
 rw[jq hs,d,e,f,g]
theorem de (enc:α→List Value)(l:List α)(a:α):flat enc (l++[a])=flat enc l++enc a:=by simp[flat]
end
section
variable {P:Program} {w0 w w':World} {F:Nat→Prop} {L M:List cH} {k kk:Value→World→Prop}
theorem Hp.draw {N:Nat}{ops:Array Oper}{K:Fr→World→Prop}{f:Fr}(H:Hp w0 F w L M)(a:P.follows .mixedOrders=true)(b:(Region.noSelect ops&&xT ops)=true)(h:∀ w',Hp w0 F w' L M→gQ P N (fun u=>Hp w0 F u L M) ops K 0 ops.toList f w'):lk P N ops K f w:=
 gY (fun u=>Hp w0 F u L M) a b (H.same (aS.drew _)) (h _ (H.same (aS.drew _)))
theorem iq {a:Addr}{ty:TypeId}(cs:List Value)(b:cP P ty=some true)(hs:bE P ty=some cs.length)(c:∀ j v,cs[j]?=some v→w.cell? (a.add j)=some v)(h:k (.agg cs.toArray) w):fb P ty (.pointer (some a)) w k:=by
 unfold fb;refine ⟨_,w,?_,h⟩;simp[Instr.loadAt,Instr.sureAddr,loadVar,qW b,run_sizeOf hs,run_loadCells_list w a cs c]
theorem Hp.gu {α:Type}(H:Hp w0 F w L M)(n:Nat){enc:α→List Value}{e ty:TypeId}{sz g o l c:Nat}{xs:List α}(r:L[n]?=some (own e sz (.slice (some ⟨g,0,none⟩) l c) l (flat enc xs)))(he:∀ a,(enc a).length=sz)(b:cP P ty=some true)(hs:bE P ty=some sz)(i:Nat){a:α}(s:o=i*sz)(p:xs[i]?=some a)(h:k (.agg (enc a).toArray) w):fb P ty (.pointer (some ⟨g,o,none⟩)) w k:=by
 subst s;have d:=H.get n r;have hlen:(flat enc xs).length=l*sz:=d.1;rw[dd he] at hlen;have hi:=(List.getElem?_eq_some_iff.1 p).1;refine iq (enc a) b (by rw[he];exact hs) (fun j v q=>?_) h;have m:j<sz:=by have:=(List.getElem?_eq_some_iff.1 q).1;rwa [he] at this
 have f:(⟨g,i*sz,none⟩:Addr).add j=⟨g,i*sz+j,none⟩:=by unfold Addr.add;split <;> simp_all
 have t:(i+1)*sz≤xs.length*sz:=Nat.mul_le_mul_right _ (by omega);rw[Nat.succ_mul] at t;rw[f,kI d (i*sz+j) (by omega),jr he p j m,q]
theorem Hp.kL {α:Type}(H:Hp w0 F w L M)(n:Nat){enc:α→List Value}{e ty:TypeId}{sz g o l c:Nat}{xs:List α}(m:L[n]?=some (own e sz (.slice (some ⟨g,0,none⟩) l c) l (flat enc xs)))(he:∀ a,(enc a).length=sz)(b:cP P ty=some false)(i j:Nat){a:α}{u:Value}(p:o=i*sz+j)(q:xs[i]?=some a)(f:(enc a)[j]?=some u)(h:k u w):fb P ty (.pointer (some ⟨g,o,none⟩)) w k:=by
 subst p;have d:j<sz:=by have:=(List.getElem?_eq_some_iff.1 f).1;rwa [he] at this
 exact H.ec n m b ((jr he q j d).trans f) h
theorem Sl.cA {α:Type}(H:Hp w0 ab w L M){enc:α→List Value}{ty:TypeId}{sz g o o' l c:Nat}{xs:List α}(m:Sl w0 (.slice (some ⟨g,o,none⟩) l c) sz l (flat enc xs))(he:∀ a,(enc a).length=sz)(b:cP P ty=some true)(hs:bE P ty=some sz)(i:Nat){a:α}(q:o'=o+i*sz)(n:xs[i]?=some a)(h:k (.agg (enc a).toArray) w):fb P ty (.pointer (some ⟨g,o',none⟩)) w k:=by
 subst q;have e:=m.same H.keeps;have hlen:(flat enc xs).length=l*sz:=m.1;rw[dd he] at hlen;have hi:=(List.getElem?_eq_some_iff.1 n).1;refine iq (enc a) b (by rw[he];exact hs) (fun j v p=>?_) h;have f:j<sz:=by have:=(List.getElem?_eq_some_iff.1 p).1;rwa [he] at this
 have d:(⟨g,o+i*sz,none⟩:Addr).add j=⟨g,o+(i*sz+j),none⟩:=by unfold Addr.add;split <;> simp_all[Nat.add_assoc]
 have r:(i+1)*sz≤xs.length*sz:=Nat.mul_le_mul_right _ (by omega);rw[Nat.succ_mul] at r;rw[d,e.cell (i*sz+j) (by omega),jr he n j f,p]
theorem kM (g o:Nat):∀ (a:List Value) (i:Nat),storeCells ⟨g,o,none⟩ a i=storeCells ⟨g,0,none⟩ a (o+i)
 | [],_=>rfl
 | v::a,i=>by
  have b:(⟨g,o,none⟩:Addr).add i=⟨g,o+i,none⟩:=by unfold Addr.add;split <;> simp_all
  have c:(⟨g,0,none⟩:Addr).add (o+i)=⟨g,o+i,none⟩:=by unfold Addr.add;split <;> simp_all
  rw[storeCells,storeCells,b,c,kM g o a (i+1),Nat.add_assoc]
theorem Hp.x8 {α:Type}(H:Hp w0 F w L M)(n:Nat){enc:α→List Value}{e ty:TypeId}{sz g o l c:Nat}{xs:List α}{cs:Array Value}(a:α)(y:L[n]?=some (own e sz (.slice (some ⟨g,0,none⟩) l c) l (flat enc xs)))(he:∀ a,(enc a).length=sz)(hs:bE P ty=some sz)(i:Nat)(B:o=i*sz)(hi:i<xs.length)(s:cs=(enc a).toArray)(C:∀ v ∈ enc a,v.oneCell'=true)(h:∀ w',Hp w0 F w' (L.set n (own e sz (.slice (some ⟨g,0,none⟩) l c) l (flat enc (xs.set i a)))) M→k undef w'):im P ty (.pointer (some ⟨g,o,none⟩)) (.agg cs) w k:=by
 subst B;subst s;have f:=H.get n y;have hlen:(flat enc xs).length=l*sz:=f.1;have b:=hlen;rw[dd he] at b;have D:(i+1)*sz≤xs.length*sz:=Nat.mul_le_mul_right _ (by omega);rw[Nat.succ_mul] at D;rcases f.2 with ⟨t,_⟩ | ⟨S,cap,cur,t,E,G,z,hm,m,j⟩
 ·cases t
 ·injection t with d _ u;injection d with d;injection d with d _ _;subst d;subst u;have I:cur.toList.length=c*sz:=by simpa using m
  have J:l*sz≤c*sz:=Nat.mul_le_mul_right _ z;obtain ⟨w',K,A,p⟩:=kH (P:=P) (enc a) w cur (i*sz) G (by rw[he];omega) C;rw[he] at p;unfold im;have q:(own e sz (.slice (some ⟨g,0,none⟩) l c) l (flat enc (xs.set i a))).ok w':=by
   refine ⟨by rw[dd he,List.length_set];exact b,.inr ⟨g,c,_,rfl,E,p,z,hm,?_,?_⟩⟩
   ·simp only[List.size_toArray,List.length_append,List.length_take,List.length_drop,he];omega
   ·rw[D8 he hi,← j];simp only[List.append_assoc];rw[List.take_append,List.take_append,List.length_take,he,List.take_take,List.take_take,List.drop_take];have N:min (l*sz) (i*sz)=i*sz:=by omega
    have O:min (i*sz) cur.toList.length=i*sz:=by omega
    have Q:min (i*sz) (l*sz)=i*sz:=by omega
    rw[N,O,Q,List.take_of_length_le (l:=enc a) (by rw[he];omega)]
    congr 3
    omega
  refine ⟨w',?_,h _ (H.nc n y _ (A.mono fun x r=>by subst r;rfl) q ?_)⟩
  ·have:storeCells ⟨g,i*sz,none⟩ (enc a) 0=storeCells ⟨g,0,none⟩ (enc a) (i*sz):=kM g (i*sz) (enc a) 0;simp[Instr.storeAt,Instr.sureAddr,storeVar,Value.cells,run_sizeOf hs,he,this,K]
  ·intro x r;refine ⟨Nat.lt_of_lt_of_le (World.ownsRow.lt (w:=w) (base:=0) f x ?_).2 A.size,.inl r⟩;exact r
theorem Hp.rM {α:Type}(H:Hp w0 F w L M)(n:Nat){enc:α→List Value}{e ty:TypeId}{sz g o l c:Nat}{xs:List α}{u:Value}(b:α)(p:L[n]?=some (own e sz (.slice (some ⟨g,0,none⟩) l c) l (flat enc xs)))(he:∀ a,(enc a).length=sz)(hs:bE P ty=some 1)(i j:Nat){a:α}(q:o=i*sz+j)(m:xs[i]?=some a)(r:j<sz)(d:enc b=(enc a).set j u)(s:u.oneCell'=true)(h:∀ w',Hp w0 F w' (L.set n (own e sz (.slice (some ⟨g,0,none⟩) l c) l (flat enc (xs.set i b)))) M→k undef w'):im P ty (.pointer (some ⟨g,o,none⟩)) u w k:=by
 subst q;have hi:=(List.getElem?_eq_some_iff.1 m).1;have t:(i+1)*sz≤xs.length*sz:=Nat.mul_le_mul_right _ (by omega);rw[Nat.succ_mul] at t;refine H.dc n p hs (by rw[dd he];omega) s fun w' v=>h w' ?_;have e:(flat enc xs).set (i*sz+j) u=flat enc (xs.set i b):=by
  have x:(flat enc (xs.take i)).length=i*sz:=by rw[dd he,List.length_take,Nat.min_eq_left (by omega)]
  have f:(xs.set i b)[i]?=some b:=by simp[hi]
  rw[jq m,jq f,List.take_set_of_le (Nat.le_refl _),List.drop_set_of_lt (by omega),d,List.append_assoc,List.append_assoc,
   List.set_append_right _ _ (by omega),x,Nat.add_sub_cancel_left,List.set_append_left _ _ (by rw[he];exact r)]
 rwa [e] at v
end
def sa (Ls:List cH):cH:=
 ⟨fun g=>∃ r ∈ Ls,r.foot g,fun w=>(∀ r ∈ Ls,r.ok w)∧(∀ r ∈ Ls,∀ g,r.foot g→g<w.heap.size)∧Ls.Pairwise fun (r s:cH)=>∀ g:Nat,r.foot g→¬ s.foot g,
  fun w w' h ⟨c,d,f⟩=>⟨fun r a=>r.bQ w w' (fun g b=>h g ⟨r,a,b⟩) (c r a),fun r a g b=>by
   have:=d r a g b;have e:=h g ⟨r,a,b⟩;rw[Array.getElem?_eq_getElem this] at e;exact (Array.getElem?_eq_some_iff.1 e).1,f⟩⟩
section
variable {P:Program} {w0 w w':World} {F:Nat→Prop} {L M Ls:List cH} {k kk:Value→World→Prop} {r r':cH}
theorem Hp.join (H:Hp w0 F w (Ls++L) M):Hp w0 F w (sa Ls::L) M:=by
 obtain ⟨e,f,h⟩:=List.pairwise_append.1 H.dis;refine ⟨H.keeps,?_,?_,?_,?_,H.rok,H.rlt,?_⟩
 ·intro r a;rcases List.mem_cons.1 a with rfl | a
  ·exact ⟨fun r a=>H.ok r (List.mem_append_left _ a),fun r a=>H.lt r (List.mem_append_left _ a),e⟩
  ·exact H.ok r (List.mem_append_right _ a)
 ·intro r a g b;rcases List.mem_cons.1 a with rfl | a
  ·obtain ⟨s,hs,b⟩:=b;exact H.lt s (List.mem_append_left _ hs) g b
  ·exact H.lt r (List.mem_append_right _ a) g b
 ·intro r a g b;rcases List.mem_cons.1 a with rfl | a
  ·obtain ⟨s,hs,b⟩:=b;exact H.new s (List.mem_append_left _ hs) g b
  ·exact H.new r (List.mem_append_right _ a) g b
 ·refine .cons (fun s hs g ⟨q,d,b⟩ c=>h q d s hs g b c) f
 ·intro r a s hs g b c;rcases List.mem_cons.1 hs with rfl | hs
  ·obtain ⟨q,d,c⟩:=c;exact H.rdis r a q (List.mem_append_left _ d) g b c
  ·exact H.rdis r a s (List.mem_append_right _ hs) g b c
theorem Hp.split (H:Hp w0 F w (sa Ls::L) M):Hp w0 F w (Ls++L) M:=by
 obtain ⟨e,f,h⟩:=H.ok _ (.head _);have d:=List.pairwise_cons.1 H.dis;refine ⟨H.keeps,?_,?_,?_,?_,H.rok,H.rlt,?_⟩
 ·intro r a;rcases List.mem_append.1 a with a | a
  ·exact e r a
  ·exact H.ok r (.tail _ a)
 ·intro r a;rcases List.mem_append.1 a with a | a
  ·exact f r a
  ·exact H.lt r (.tail _ a)
 ·intro r a g c;rcases List.mem_append.1 a with a | a
  ·exact H.new _ (.head _) g ⟨r,a,c⟩
  ·exact H.new r (.tail _ a) g c
 ·exact List.pairwise_append.2 ⟨h,d.2,fun r a s hs g c b=>d.1 s hs g ⟨r,a,c⟩ b⟩
 ·intro r a s hs g c b;rcases List.mem_append.1 hs with hs | hs
  ·exact H.rdis r a _ (.head _) g c ⟨s,hs,b⟩
  ·exact H.rdis r a s (.tail _ hs) g c b
structure jS (w w':World) (r r':cH):Prop where
 keeps:aS r.foot w w'
 ok:r'.ok w'
 foot:∀ g,r'.foot g→g<w'.heap.size∧(r.foot g∨w.heap.size≤g)
theorem Hp.b9 (H:Hp w0 F w L M)(n:Nat)(a:L[n]?=some r)(h:jS w w' r r'):Hp w0 F w' (L.set n r') M:=H.nc n a r' h.keeps h.ok h.foot
theorem Hp.I8 (b:r.ok w)(a:∀ g,r.foot g→g<w.heap.size):Hp w r.foot w [r] []:=
 ⟨aS.refl _ _,by simpa using b,by simpa using a,by intro s hs g c;rw[List.mem_singleton] at hs;subst hs;exact .inr c,by simp,by simp,by simp,by simp⟩
theorem Hp.rN (c:r.ok w)(b:∀ g,r.foot g→g<w.heap.size)(d:∀ s ∈ M,s.ok w)(a:∀ s ∈ M,∀ g,s.foot g→g<w.heap.size)(e:∀ s ∈ M,∀ g,s.foot g→¬ r.foot g):Hp w r.foot w [r] M:=
 ⟨aS.refl _ _,by simpa using c,by simpa using b,by intro s hs g f;rw[List.mem_singleton] at hs;subst hs;exact .inr f,by simp,d,a,by simpa using e⟩
theorem Hp.bg (H:Hp w r.foot w' (r'::L) M):jS w w' r r':=
 ⟨H.keeps,H.ok _ (.head _),fun g a=>⟨H.lt _ (.head _) g a,(H.new _ (.head _) g a).symm⟩⟩
theorem jS.refl (c:r.ok w)(a:∀ g,r.foot g→g<w.heap.size):jS w w r r:=⟨aS.refl _ _,c,fun g b=>⟨a g b,.inl b⟩⟩
theorem jS.same {c:World}(h:jS w c r r')(b:aT c w'):jS w w' r r':=
 ⟨h.keeps.trans b (by simp),r'.bQ _ _ (fun g a=>b.old g (h.foot g a).1 id) h.ok,fun g a=>⟨Nat.lt_of_lt_of_le (h.foot g a).1 b.size,(h.foot g a).2⟩⟩
theorem Hp.re (H:Hp w0 F w (r::L) M)(d:r.ok w→r'.ok w)(c:∀ g,r'.foot g→r.foot g):Hp w0 F w (r'::L) M:=by
 have e:=List.pairwise_cons.1 H.dis;refine ⟨H.keeps,?_,?_,?_,?_,H.rok,H.rlt,?_⟩
 ·intro s hs;rcases List.mem_cons.1 hs with rfl | hs
  ·exact d (H.ok _ (.head _))
  ·exact H.ok s (.tail _ hs)
 ·intro s hs g a;rcases List.mem_cons.1 hs with rfl | hs
  ·exact H.lt _ (.head _) g (c g a)
  ·exact H.lt s (.tail _ hs) g a
 ·intro s hs g a;rcases List.mem_cons.1 hs with rfl | hs
  ·exact H.new _ (.head _) g (c g a)
  ·exact H.new s (.tail _ hs) g a
 ·exact .cons (fun s hs g a=>e.1 s hs g (c g a)) e.2
 ·intro q f s hs g a b;rcases List.mem_cons.1 hs with rfl | hs
  ·exact H.rdis q f _ (.head _) g a (c g b)
  ·exact H.rdis q f s (.tail _ hs) g a b
theorem Hp.D9 (H:Hp w0 F w L M)(n:Nat){S:Nat→Prop}{ty:TypeId}{sz g o o' i l c:Nat}{xs:List Value}{u:Value}(j:M[n]?=some (sl S (.slice (some ⟨g,o,none⟩) l c) sz l xs))(b:cP P ty=some false)(m:o'=o+i)(e:xs[i]?=some u)(h:k u w):fb P ty (.pointer (some ⟨g,o',none⟩)) w k:=by
 subst m;obtain ⟨f,A,v,p,_,q⟩:=H.ro n j;injection p with d _ r;subst d;subst r;have hi:=(List.getElem?_eq_some_iff.1 e).1;rcases q with rfl | ⟨x,y,d,_,a⟩
 ·simp at f;subst f;simp at hi
 ·injection d with d;injection d with s t _;subst s;subst t;exact aB b ((a i (by omega)).trans e) h
end
section
variable {P:Program} {w:World} {k kk:Value→World→Prop}
theorem jZ {g i:Nat}{t ty:TypeId}{cs:Array Value}{u:Value}(b:(an g t cs).ok w)(a:cP P ty=some false)(c:cs[i]?=some u)(h:k u w):fb P ty (.pointer (some ⟨g,i,none⟩)) w k:=aB a ((aQ b i).trans c) h
theorem I9 {e ty:TypeId}{sz g i l c:Nat}{xs:List Value}{u:Value}(b:(own e sz (.slice (some ⟨g,0,none⟩) l c) l xs).ok w)(a:cP P ty=some false)(d:xs[i]?=some u)(h:k u w):fb P ty (.pointer (some ⟨g,i,none⟩)) w k:=by
 have hlen:=b.1;refine aB a ?_ h;rw[kI b i (by have:=(List.getElem?_eq_some_iff.1 d).1;omega),d]
theorem sZ {α:Type}{enc:α→List Value}{e ty:TypeId}{sz g o l c:Nat}{xs:List α}(m:(own e sz (.slice (some ⟨g,0,none⟩) l c) l (flat enc xs)).ok w)(he:∀ a,(enc a).length=sz)(b:cP P ty=some false)(i j:Nat){a:α}{u:Value}(n:o=i*sz+j)(p:xs[i]?=some a)(f:(enc a)[j]?=some u)(h:k u w):fb P ty (.pointer (some ⟨g,o,none⟩)) w k:=by
 subst n;have d:j<sz:=by have:=(List.getElem?_eq_some_iff.1 f).1;rwa [he] at this
 exact I9 m b ((jr he p j d).trans f) h
theorem I_ {α:Type}{enc:α→List Value}{e ty:TypeId}{sz g o l c:Nat}{xs:List α}(b:(own e sz (.slice (some ⟨g,0,none⟩) l c) l (flat enc xs)).ok w)(he:∀ a,(enc a).length=sz)(d:cP P ty=some true)(hs:bE P ty=some sz)(i:Nat){a:α}(q:o=i*sz)(n:xs[i]?=some a)(h:k (.agg (enc a).toArray) w):fb P ty (.pointer (some ⟨g,o,none⟩)) w k:=by
 subst q;have hlen:(flat enc xs).length=l*sz:=b.1;rw[dd he] at hlen;have hi:=(List.getElem?_eq_some_iff.1 n).1;refine iq (enc a) d (by rw[he];exact hs) (fun j v p=>?_) h;have m:j<sz:=by have:=(List.getElem?_eq_some_iff.1 p).1;rwa [he] at this
 have f:(⟨g,i*sz,none⟩:Addr).add j=⟨g,i*sz+j,none⟩:=by unfold Addr.add;split <;> simp_all
 have r:(i+1)*sz≤xs.length*sz:=Nat.mul_le_mul_right _ (by omega);rw[Nat.succ_mul] at r;rw[f,kI b (i*sz+j) (by omega),jr he n j m,p]
theorem jT {e:TypeId}{sz:Nat}{A:Option Addr}{l c:Nat}{xs:List Value}(a:(own e sz (.slice A l c) l xs).ok w)(f:0<l):∃ g,A=some ⟨g,0,none⟩:=by
 rcases a.2 with ⟨_,rfl⟩ | ⟨g,cap,cur,b,_⟩
 ·omega
 ·injection b with d _ _;exact ⟨g,d⟩
theorem fh {e:TypeId}{sz:Nat}{v:Value}{l:Nat}{xs:List Value}(a:(own e sz v l xs).ok w):∃ A c,v=.slice A l c∧l≤c:=by
 rcases a.2 with ⟨rfl,rfl⟩ | ⟨g,cap,cur,b,_,_,d,_⟩
 ·exact ⟨_,_,rfl,Nat.le_refl _⟩
 ·exact ⟨_,_,b,d⟩
section
variable {α β:Type} {ka:α→Value} {vb:β→Value} {z:Value} {t kt et:TypeId} {l:List (α × β)} {r:Nat}
theorem lr [DecidableEq α](g:(aP ka vb r l).ok w)(W:ld P t kt et ka vb z)(a:α)(h:∀ b,bS l a=some b→kk (.tuple #[vb b,.bool true]) w)(i:bS l a=none→kk (.tuple #[z,.bool false]) w):gL P t (.map (some r)) (ka a) true w kk:=by
 obtain ⟨es,clock,f,hs,k⟩:=g;unfold gL;rcases lZ W hs k a w with ⟨c,d,_⟩ | ⟨j,e,b,c,he,m,n,o,d⟩
 ·exact ⟨_,w,by simp[Instr.lookup,run_underlying W.und,MapKept.run_getObj_map f,W.key.check w _ ⟨a,rfl⟩,c,lX W.zero,Result.andThen],i d⟩
 ·exact ⟨_,w,by simp[Instr.lookup,run_underlying W.und,MapKept.run_getObj_map f,W.key.check w _ ⟨a,rfl⟩,c,o,Result.andThen],h b d⟩
theorem u5 (b:(aP ka vb r l).ok w)(W:ld P t kt et ka vb z){ty:TypeId}{a:Array Bool}(h:kk (.int .i64 (l.length:Int)) w):bV P .len #[t] ty a [.map (some r)] w kk:=by
 obtain ⟨es,clock,c,hs,d⟩:=b;have hlen:es.size=l.length:=by have:=congrArg List.length d;simpa using this
 unfold bV;refine ⟨_,w,?_,h⟩;show (do pure (.value (← Builtin.len_ #[t] ty #[.map (some r)])):Sem Next).run P w=_;simp[Builtin.len_,run_underlying W.und,MapKept.run_getObj_map c,goInt,hlen,Result.andThen]
end
end
section
variable {P:Program} {w:World} {kk:Value→World→Prop} {s d:TypeId} {kd:IntKind} {n:Int}
theorem iK (hs:(P.underlying s).isSome=true)(a:P.underlying d=some (.int .i64))(b:-9223372036854775808≤n)(c:n<9223372036854775808)(h:kk (.int .i64 n) w):pQ P s d (.int kd n) w kk:=
 jP hs a (by rw[aH b c];exact h)
theorem j_ (hs:(P.underlying s).isSome=true)(a:P.underlying d=some (.int .u8))(b:0≤n)(c:n<256)(h:kk (.int .u8 n) w):pQ P s d (.int kd n) w kk:=
 jP hs a (by rw[mI b c];exact h)
end
section
variable {P:Program} {w:World} {kk:Value→World→Prop} {t:TypeId} {xo yo:Operand}
theorem c6 {a:IntKind}{n:Nat}(b:n≤62)(h:kk (.int .i64 ((2^n:Nat):Int)) w):cW P .shl t xo yo (.int .i64 1) (.int a (n:Int)) w kk:=by
 have c:2^n≤2^62:=Nat.pow_le_pow_right (by decide) b;refine jl (x':=((1:Nat):Int)) rfl rfl (ny (by omega) (by omega) ?_)
 rwa [Nat.one_mul]
theorem cf {a:IntKind}{n:Nat}(b:n≤7)(h:kk (.int .u8 ((2^n:Nat):Int)) w):cW P .shl t xo yo (.int .u8 1) (.int a (n:Int)) w kk:=by
 have c:2^n≤2^7:=Nat.pow_le_pow_right (by decide) b;refine sj (by omega) ?_;have:min (n:Int).toNat IntKind.u8.bits=n:=by simp[IntKind.bits];omega
 rw[this,show ((1:Int)*2^n)=((2^n:Nat):Int) by simp];generalize 2^n=k at c h ⊢;rw[mI (by omega) (by omega)];exact h
theorem e7 {a:IntKind}{x n:Nat}(b:n≤8)(h:kk (.int .u8 ((x / 2^n:Nat):Int)) w):cW P .shr t xo yo (.int .u8 (x:Int)) (.int a (n:Int)) w kk:=by
 refine Bw (by omega) ?_;have:min (n:Int).toNat IntKind.u8.bits=n:=by simp[IntKind.bits];omega
 rw[this,Int.fdiv_eq_ediv_of_nonneg _ (by exact_mod_cast Nat.zero_le _)];have e:((x:Int) / 2^n)=((x / 2^n:Nat):Int):=by simp
 rw[e];exact h
theorem s4 {x y:Nat}(b:x<256)(c:0<y)(h:kk (.int .u8 ((x / y:Nat):Int)) w):cW P .quo t xo yo (.int .u8 (x:Int)) (.int .u8 (y:Int)) w kk:=by
 refine v7 (by omega) ?_;have a:x / y≤x:=Nat.div_le_self x y;rw[Int.tdiv_eq_ediv_of_nonneg (by omega),show ((x:Int) / (y:Int))=((x / y:Nat):Int) by simp];generalize x / y=q at a h ⊢;rw[mI (by omega) (by omega)];exact h
theorem s5 {x y:Nat}(a:0<y)(h:kk (.int .u8 ((x % y:Nat):Int)) w):cW P .rem t xo yo (.int .u8 (x:Int)) (.int .u8 (y:Int)) w kk:=by
 refine v_ (by omega) ?_;rw[Int.tmod_eq_emod_of_nonneg (by omega),show ((x:Int) % (y:Int))=((x % y:Nat):Int) by simp];exact h
theorem wg (m i:Nat):(((m / 2^i &&&1:Nat):Int)==0)= !m.testBit i:=by
 rw[Nat.testBit_eq_decide_div_mod_eq,Nat.and_one_is_mod];generalize m / 2^i=q;rw[Bool.eq_iff_iff,beq_iff_eq,Bool.not_eq_true',decide_eq_false_iff_not];omega
end
theorem au {p:Prop}[Decidable p]{q r:Prop}(a:p→q)(b:¬ p→r):gU (decide p) q r:=
 aE (fun h=>a (of_decide_eq_true h)) (fun h=>b (of_decide_eq_false h))
theorem cg {a b:Int}{q r:Prop}(c:a=b→q)(d:a≠b→r):gU (a==b) q r:=
 aE (fun h=>c (beq_iff_eq.1 h)) (fun h=>d (beq_eq_false_iff_ne.1 h))
theorem df {a b:Int}{q r:Prop}(c:a≠b→q)(d:a=b→r):gU (a !=b) q r:=
 aE (fun h=>c (by simpa using h)) (fun h=>d (by simpa using h))
def eF (S:Nat→Bool)(i:Nat)(op:Op):Bool:=S i||gi op
theorem D_ {S:Nat→Bool}{i:Nat}{op:Op}(h:eF S i op=false):gi op=false:=by
 unfold eF at h;cases hS:S i <;> rw[hS] at h <;> first | exact h | cases h
def Ea (S:Nat→Bool)(ops:Array Oper)(c:Array Nat)(i j:Nat):Bool:=
 match ops[i]?,ops[j]? with
 | some x,some y=>(x.apart ops y&& !(eF S i x.op&&eF S j y.op))||gr c j i
 | _,_=>true
def u6 (S:Nat→Bool)(ops:Array Oper):Bool:=
 lg ops&&(List.range ops.size).all fun j=>(List.range j).all fun i=>Ea S ops (lh ops.toList #[]) i j
def iL (S:Nat→Bool)(ops:Array Oper)(i:Nat):Bool:=
 (List.range ops.size).all fun j=>j==i||(match ops[j]? with | some o=>eF S j o.op | none=>true)||gr (lh ops.toList #[]) i j
def dD (S:Nat→Bool)(P:Program)(ops:Array Oper)(C:World→Prop)(Q:Act→World→Prop):List Nat→Act→World→Prop
 | [],a,w=>Q a w
 | i::rest,a,w=>
  match ops[i]? with
  | none=>dD S P ops C Q rest a w
  | some o=>
   if Region.wanted o (yielded ops a.tmps) then
    (if eF S i o.op then bF P o a.eval w fun v w'=>(C w'∨iL S ops i=true)∧dD S P ops C Q rest (a.put o.dst v) w'
     else ∃ v,eZ P C o a v∧dD S P ops C Q rest (a.put o.dst v) w)
   else dD S P ops C Q rest (a.put o.dst undef) w
def kN (S:Nat→Bool)(P:Program)(ops:Array Oper)(C:World→Prop)(i:Nat)(K:Act→World→Prop)(a:Act)(w:World):Prop:=
 match ops[i]? with
 | none=>K a w
 | some o=>
  if Region.wanted o (yielded ops a.tmps) then
   (if eF S i o.op then bF P o a.eval w fun v w'=>(C w'∨iL S ops i=true)∧K (a.put o.dst v) w'
    else ∃ v,eZ P C o a v∧K (a.put o.dst v) w)
  else K (a.put o.dst undef) w
section mix
variable {S:Nat→Bool} {P:Program} {ops:Array Oper} {C:World→Prop}
theorem Lw {Q:Act→World→Prop}{i:Nat}{c:Oper}(hi:ops[i]?=some c)(G:Region.noSelect ops=true)(post:List Nat):∀ (pre:List Nat) (a:Act) (w:World),(C w∨∀ k ∈ pre++i::post,∀ o,ops[k]?=some o→eF S k o.op=true)→
  (∀ k ∈ pre,∀ ok,ops[k]?=some ok→ok.apart ops c=true∧(eF S k ok.op&&eF S i c.op)=false∧(eF S i c.op=false→iL S ops k=false))→
  dD S P ops C Q (pre++i::post) a w→kN S P ops C i (dD S P ops C Q (pre++post)) a w:=by
 have s:=Region.noSelect_spec G;intro pre
 induction pre with
 | nil=>intro a w _ _ h;exact h
 | cons k pre ih=>
  intro a w E M h;have q:=fun a w E h=>ih a w E (fun k m=>M k (.tail _ m)) h;have l:C w∨∀ k ∈ pre++i::post,∀ o,ops[k]?=some o→eF S k o.op=true:=E.imp id fun f k m=>f k (.tail _ m);simp only[List.cons_append,dD] at h
  cases m:ops[k]? with
  | none=>
   simp only[m] at h;have:=q a w l h;unfold kN at this ⊢;simp only[hi] at this ⊢;simpa only[List.cons_append,dD,m] using this
  | some ok=>
   simp only[m] at h;obtain ⟨I,J,K⟩:=M k (.head _) ok m;obtain ⟨N,V,O⟩:=Oper.apart_spec I;have A:=fun cs b=>s k ok cs b m;have B:=fun cs b=>s i c cs b hi;have t:∀ (a:Act) (u:Value),execOp (a.put ok.dst u).eval c=execOp a.eval c:=fun a u=>execOp_put c B a ok.dst u N;have x:∀ (a:Act) (u:Value),execOp (a.put c.dst u).eval ok=execOp a.eval ok:=fun a u=>execOp_put ok A a c.dst u O;have y:∀ (a:Act) (u:Value),Region.wanted c (yielded ops (a.put ok.dst u).tmps)=Region.wanted c (yielded ops a.tmps):=fun a u=>wanted_put c a ok.dst u N;have r:∀ (a:Act) (u:Value),Region.wanted ok (yielded ops (a.put c.dst u).tmps)=Region.wanted ok (yielded ops a.tmps):=fun a u=>wanted_put ok a c.dst u O;have comm:∀ (a:Act) (u v:Value),(a.put ok.dst u).put c.dst v=(a.put c.dst v).put ok.dst u:=fun a u v=>(Act.put_comm a u v V);have F:∀ (a:Act) (u v:Value),eZ P C c (a.put ok.dst u) v↔eZ P C c a v:=fun a u v=>by unfold eZ;rw[t]
   have X:∀ (a:Act) (u v:Value),eZ P C ok (a.put c.dst u) v↔eZ P C ok a v:=fun a u v=>by unfold eZ;rw[x]
   by_cases n:Region.wanted ok (yielded ops a.tmps)=true
   ·rw[if_pos n] at h;by_cases p:eF S k ok.op=true
    ·rw[if_pos p] at h;have g:eF S i c.op=false:=by simpa [p] using J
     have D:C w:=E.resolve_right fun f=>by
      have:=f i (by simp) c hi;rw[g] at this;cases this
     have d:=h.mono (k':=fun v w'=>C w'∧kN S P ops C i (dD S P ops C Q (pre++post)) (a.put ok.dst v) w') fun v w' f=>
      have T:=f.1.resolve_right (by rw[K g];simp)
      ⟨T,q _ _ (.inl T) f.2⟩
     unfold kN at d ⊢;simp only[hi,g,y] at d ⊢;by_cases j:Region.wanted c (yielded ops a.tmps)=true
     ·simp only[j,if_true,Bool.false_eq_true,if_false] at d ⊢;obtain ⟨v0,w0,_,U,z,_⟩:=d.some;rw[F] at z;refine ⟨U,z,?_⟩;simp only[List.cons_append,dD,m,r,n,if_true,p];rw[fo (x a U)];refine d.mono fun v w' ⟨l,u,hu,f⟩=>⟨.inl l,?_⟩;rw[F] at hu;have e:=(hu w D).symm.trans (z w D);injection e with e _;injection e with e;subst e;rw[← comm];exact f
     ·simp only[j,if_false,Bool.false_eq_true] at d ⊢;simp only[List.cons_append,dD,m,r,n,if_true,p];rw[fo (x a undef)];refine d.mono fun v w' ⟨l,f⟩=>⟨.inl l,?_⟩;rw[← comm];exact f
    ·rw[if_neg p] at h;obtain ⟨v,Y,h⟩:=h;have d:=q _ _ l h;unfold kN at d ⊢;simp only[hi,y,fo (t a v)] at d ⊢;have fin:∀ u w',dD S P ops C Q (pre++post) ((a.put ok.dst v).put c.dst u) w'→dD S P ops C Q (k::pre++post) (a.put c.dst u) w':=by
      intro u w' f;simp only[List.cons_append,dD,m,r,n,if_true,p,if_false,Bool.false_eq_true];exact ⟨v,(X a u v).2 Y,by rw[← comm];exact f⟩
     split
     ·rename_i j;rw[if_pos j] at d;split
      ·rename_i g;rw[if_pos g] at d;exact d.mono fun u w' f=>⟨f.1,fin _ _ f.2⟩
      ·rename_i g;rw[if_neg g] at d;obtain ⟨u,hu,f⟩:=d;exact ⟨u,(F a v u).1 hu,fin _ _ f⟩
     ·rename_i j;rw[if_neg j] at d;exact fin _ _ d
   ·rw[if_neg n] at h;have d:=q _ _ l h;unfold kN at d ⊢;simp only[hi,y,fo (t a undef)] at d ⊢;have fin:∀ u w',dD S P ops C Q (pre++post) ((a.put ok.dst undef).put c.dst u) w'→dD S P ops C Q (k::pre++post) (a.put c.dst u) w':=by
     intro u w' f;simp only[List.cons_append,dD,m,r,n,if_false,Bool.false_eq_true];rw[← comm];exact f
    split
    ·rename_i j;rw[if_pos j] at d;split
     ·rename_i g;rw[if_pos g] at d;exact d.mono fun u w' f=>⟨f.1,fin _ _ f.2⟩
     ·rename_i g;rw[if_neg g] at d;obtain ⟨u,hu,f⟩:=d;exact ⟨u,(F a undef u).1 hu,fin _ _ f⟩
    ·rename_i j;rw[if_neg j] at d;exact fin _ _ d
theorem rO {Q:Act→World→Prop}{Q':Exit→Act→World→Prop}(hQ:∀ a w,Q a w→Q' .normal a w)(hns:Region.noSelect ops=true)(hm:u6 S ops=true) :
  ∀ (l:List Nat) (listed:Array Bool) (a:Act) (w:World),l.Pairwise (· < ·)→(∀ j,j ∈ l↔j<ops.size∧listed.getD j true=false)→listed.size=ops.size→
  (∀ j o,ops[j]?=some o→listed.getD j false=true→∀ e ∈ o.after,Region.binds .any e=true→listed.getD e.on false=true)→
  (C w∨∀ k ∈ l,∀ o,ops[k]?=some o→eF S k o.op=true)→dD S P ops C Q l a w→wpAny P .any ops Q' l.length listed a w:=by
 simp only[u6,Bool.and_eq_true] at hm;obtain ⟨K,t⟩:=hm;have key:∀ (n:Nat) (l:List Nat) (listed:Array Bool) (a:Act) (w:World),l.length=n→l.Pairwise (· < ·)→(∀ j,j ∈ l↔j<ops.size∧listed.getD j true=false)→listed.size=ops.size→
  (∀ j o,ops[j]?=some o→listed.getD j false=true→∀ e ∈ o.after,Region.binds .any e=true→listed.getD e.on false=true)→
  (C w∨∀ k ∈ l,∀ o,ops[k]?=some o→eF S k o.op=true)→dD S P ops C Q l a w→wpAny P .any ops Q' n listed a w:=by
  intro n
  induction n with
  | zero=>
   intro l listed a w hn z b F A U h;have hl:l=[]:=List.eq_nil_of_length_eq_zero hn;subst hl;refine ⟨?_,hQ _ _ h⟩;rw[List.eq_nil_iff_forall_not_mem];intro i hi;obtain ⟨h1,V,E,_⟩:=mem_ready.1 hi;have:=(b i).2 ⟨(Array.getElem?_eq_some_iff.1 E).1,h1⟩
   cases this
  | succ n ih=>
   intro l listed a w hn z b F A U h;have G:∀ j,j<ops.size→j ∉ l→listed.getD j false=true:=by
    intro j r hjl;have:¬ listed.getD j true=false:=fun q=>hjl ((b j).2 ⟨r,q⟩);have hjs:j<listed.size:=by omega
    simp only[Array.getD,hjs,dif_pos] at this ⊢;simpa using this
   constructor
   ·intro hr;exfalso
    cases l with
    | nil=>simp at hn
    | cons i l=>
     have hi:=(b i).1 (.head _);have X:i ∈ Region.ready .any ops listed:=by
      refine mem_ready.2 ⟨hi.2,ops[i],Array.getElem?_eq_getElem hi.1,?_⟩;intro e he I;have s:=gN K (Array.getElem?_eq_getElem hi.1) he I;refine G _ (by omega) fun N=>?_;rcases List.mem_cons.1 N with h | h
      ·omega
      ·have:=(List.pairwise_cons.1 z).1 _ h;omega
     rw[hr] at X
     cases X
   ·intro i hi;obtain ⟨hun,V,d,M⟩:=mem_ready.1 hi;have B:i<ops.size:=(Array.getElem?_eq_some_iff.1 d).1;have hil:i ∈ l:=(b i).2 ⟨B,hun⟩;obtain ⟨pre,post,rfl⟩:=List.append_of_mem hil;have f:=List.pairwise_append.1 z;have s:∀ k ∈ pre,k<i:=fun k g=>f.2.2 k g i (.head _);have Y:∀ k ∈ post,i<k:=fun k g=>(List.pairwise_cons.1 f.2.1).1 k g;have Z:nq ops fun j=>j=i∨listed.getD j false=true:=fun j r o m e he I=>by
     rcases r with rfl | r
     ·rw[d] at m;injection m with m;subst m;exact .inr (M e he I)
     ·exact .inr (A j o m r e he I)
    have a0:∀ k,k≠i→k ∈ pre++i::post→gr (lh ops.toList #[]) i k=false:=by
     intro k c g;rw[Bool.eq_false_iff];intro hw;rcases jN Z i k (.inl rfl) hw with h | h
     ·exact c h
     ·have:=((b k).1 g);have hks:k<listed.size:=by omega
      have E:=this.2;simp only[Array.getD,hks,dif_pos] at h E;rw[h] at E;cases E
    have hp:∀ k ∈ pre,∀ ok,ops[k]?=some ok→ok.apart ops V=true∧(eF S k ok.op&&eF S i V.op)=false∧(eF S i V.op=false→iL S ops k=false):=by
     intro k g ok hok;rw[List.all_eq_true] at t;have h1:=t i (List.mem_range.2 B);rw[List.all_eq_true] at h1;have E:=h1 k (List.mem_range.2 (s k g));unfold Ea at E;have c:k≠i:=by have:=s k g;omega
     simp only[hok,d,a0 k c (by simp[g]),Bool.or_false,Bool.and_eq_true] at E;refine ⟨E.1,?_,?_⟩
     ·have:=E.2
      cases hx:(eF S k ok.op&&eF S i V.op)
      ·rfl
      ·rw[hx] at this;cases this
     ·intro hq;rw[Bool.eq_false_iff];intro ht;unfold iL at ht;rw[List.all_eq_true] at ht;have J:=ht i (List.mem_range.2 B);simp only[d,hq,Bool.or_false,Bool.or_eq_true,beq_iff_eq] at J;rcases J with J | J
      ·exact c J.symm
      ·have:=jN (ops:=ops) (D:=fun j=>j≤k) (fun j r o m e he I=>by have:=gN K m he I;show e.on≤k;omega) k i (Nat.le_refl _) J;have:=s k g;omega
    have hs:=Lw d hns post pre a w U hp h;have p:∀ a' w',(C w'∨iL S ops i=true∨∀ k ∈ pre++i::post,∀ o,ops[k]?=some o→eF S k o.op=true)→dD S P ops C Q (pre++post) a' w'→wpAny P .any ops Q' n (listed.setIfInBounds i true) a' w':=by
     intro a' w' O q;have a1:i<listed.size:=by omega
     have O:C w'∨∀ k ∈ pre++post,∀ o,ops[k]?=some o→eF S k o.op=true:=by
      rcases O with h | h | h
      ·exact .inl h
      ·refine .inr fun k g o m=>?_;have c:k≠i:=by
        rcases List.mem_append.1 g with h | h
        ·have:=s k h;omega
        ·have:=Y k h;omega
       have a2:k ∈ pre++i::post:=by
        rcases List.mem_append.1 g with h | h
        ·simp[h]
        ·simp[h]
       unfold iL at h;rw[List.all_eq_true] at h;have J:=h k (List.mem_range.2 ((b k).1 a2).1);simp only[m,a0 k c a2,Bool.or_false,Bool.or_eq_true,beq_iff_eq] at J;exact J.resolve_left c
      ·exact .inr fun k g=>h k (by
        rcases List.mem_append.1 g with h | h
        ·simp[h]
        ·simp[h])
     refine ih (pre++post) _ a' w' (by simp at hn ⊢;omega) ?_ ?_ (by simp[F]) ?_ O q
     ·exact List.pairwise_append.2 ⟨f.1,(List.pairwise_cons.1 f.2.1).2,fun x hx y hy=>f.2.2 x hx y (.tail _ hy)⟩
     ·intro j;have r:=b j;by_cases T:j=i
      ·subst T;simp only[Array.getD,Array.size_setIfInBounds,a1,dif_pos];constructor
       ·intro q;rcases List.mem_append.1 q with h | h
        ·have:=s j h;omega
        ·have:=Y j h;omega
       ·intro q;simp at q
      ·rw[getD_set_ne true (Ne.symm T)];rw[← r];simp[T]
     ·intro j o m r e he I;have a3:∀ k,(listed.setIfInBounds i true).getD k false=true↔k=i∨listed.getD k false=true:=by
       intro k;by_cases c:k=i
       ·subst c;simp[Array.getD,a1]
       ·rw[getD_set_ne false (Ne.symm c)];simp[c]
      rw[a3] at r ⊢;rcases r with rfl | r
      ·rw[d] at m;injection m with m;subst m;exact .inr (M e he I)
      ·exact .inr (A j o m r e he I)
    unfold kN at hs;unfold wpOp;simp only[d] at hs ⊢;split
    ·rename_i hw;rw[if_pos hw] at hs
     left
     split at hs
     ·exact hs.wp fun v w' q=>p _ _ (q.1.imp id .inl) q.2
     ·rename_i hlo;obtain ⟨v,hv,q⟩:=hs;have a4:C w:=U.resolve_right fun q=>hlo (q i (by simp) V d);exact (cO (hv w a4) (k:=fun u w'=>u=v∧w'=w) ⟨rfl,rfl⟩).wp fun u w' ⟨hu,hw'⟩=>by subst hu;subst hw';exact p _ _ (.inl a4) q
    ·rename_i hw;rw[if_neg hw] at hs;exact p _ _ (U.imp id .inr) hs
 intro l listed a w z b F A U h;exact key _ l listed a w rfl z b F A U h
theorem x9 {id:Nat}{Q:Act→World→Prop}{Q':Exit→Act→World→Prop}(e:∀ a w,Q a w→Q' .normal a w)(f:P.follows .mixedOrders=true)(c:Region.noSelect ops=true)(hm:u6 S ops=true){a:Act}{w:World}(g:C { w with drawn:=w.drawn+1 })(h:dD S P ops C Q (List.range ops.size) a { w with drawn:=w.drawn+1 }):(Code.region id ops true).wp P Q' a w:=by
 refine wp_region_any f ?_;have:=rO (P:=P) (C:=C) e c hm (List.range ops.size) (Array.replicate ops.size false) a _ List.pairwise_lt_range (fun j=>by
  simp only[List.mem_range];constructor
  ·intro b;exact ⟨b,by simp[Array.getD,b]⟩
  ·intro b;exact b.1) (by simp) (fun j o i b=>by
   have d:j<ops.size:=(Array.getElem?_eq_some_iff.1 i).1;simp[Array.getD,d] at b) (.inl g) h
 simpa using this
end mix
def eh (S:Nat→Bool)(P:Program)(N:Nat)(C:World→Prop)(ops:Array Oper)(k:Fr→World→Prop):Nat→List Oper→Fr→World→Prop
 | _,[],f,w=>k f w
 | s,⟨dst,op,ty,_,_,none⟩::rest,f,w=>
  match eF S s op with
  | true=>oZ P op ty f w fun v w'=>(C w'∨iL S ops s=true)∧eh S P N C ops k (s+1) rest (dv N f dst v) w'
  | false=>nr P C op ty f fun v=>eh S P N C ops k (s+1) rest (dv N f dst v) w
 | s,⟨dst,op,ty,_,_,some (j,want)⟩::rest,f,w=>
  match (ops[j]?).bind (·.dst) with
  | some d=>
   match f d with
   | .bool b=>
    match want,eF S s op with
    | true,true=>gU b (oZ P op ty f w fun v w'=>(C w'∨iL S ops s=true)∧eh S P N C ops k (s+1) rest (dv N f dst v) w') (eh S P N C ops k (s+1) rest (dv N f dst undef) w)
    | true,false=>gU b (nr P C op ty f fun v=>eh S P N C ops k (s+1) rest (dv N f dst v) w) (eh S P N C ops k (s+1) rest (dv N f dst undef) w)
    | false,true=>gU b (eh S P N C ops k (s+1) rest (dv N f dst undef) w) (oZ P op ty f w fun v w'=>(C w'∨iL S ops s=true)∧eh S P N C ops k (s+1) rest (dv N f dst v) w')
    | false,false=>gU b (eh S P N C ops k (s+1) rest (dv N f dst undef) w) (nr P C op ty f fun v=>eh S P N C ops k (s+1) rest (dv N f dst v) w)
   | _=>eh S P N C ops k (s+1) rest (dv N f dst undef) w
  | none=>eh S P N C ops k (s+1) rest (dv N f dst undef) w
theorem rP {S:Nat→Bool}{P:Program}{N:Nat}{C:World→Prop}{ops:Array Oper}{k:Fr→World→Prop}:∀ (l:List Oper) (s:Nat) (f:Fr) (w:World) (a:Act),
  (∀ j,j<l.length→l[j]?=ops[s+j]?)→R N a f→eh S P N C ops k s l f w→dD S P ops C (fun a w=>∃ f,R N a f∧k f w) (List.range' s l.length) a w:=by
 intro l
 induction l with
 | nil=>intro s f w a _ i h;exact ⟨f,i,h⟩
 | cons o rest ih=>
  intro s f w a q i h;have r:ops[s]?=some o:=by have:=q 0 (by simp);simpa using this.symm
  have p:∀ j,j<rest.length→rest[j]?=ops[s+1+j]?:=fun j u=>by
   have:=q (j+1) (by simp;omega);simpa [Nat.add_assoc,Nat.add_comm 1 j] using this
  have next:∀ v w',eh S P N C ops k (s+1) rest (dv N f o.dst v) w'→dD S P ops C (fun a w=>∃ f,R N a f∧k f w) (List.range' (s+1) rest.length) (a.put o.dst v) w':=
   fun v w' g=>ih (s+1) _ _ _ p (i.put _ _) g
  have c:(oZ P o.op o.type f w fun v w'=>(C w'∨iL S ops s=true)∧eh S P N C ops k (s+1) rest (dv N f o.dst v) w')→
    bF P o a.eval w fun v w'=>(C w'∨iL S ops s=true)∧dD S P ops C (fun a w=>∃ f,R N a f∧k f w) (List.range' (s+1) rest.length) (a.put o.dst v) w':=by
   intro g;have:=og o g;rw[← i.eval] at this;exact this.mono fun v w' m=>⟨m.1,next _ _ m.2⟩
  have e:eF S s o.op=false→(nr P C o.op o.type f fun v=>eh S P N C ops k (s+1) rest (dv N f o.dst v) w)→
    ∃ v,eZ P C o a v∧dD S P ops C (fun a w=>∃ f,R N a f∧k f w) (List.range' (s+1) rest.length) (a.put o.dst v) w:=by
   intro t g;obtain ⟨v,m,g⟩:=sO i (D_ t) g;exact ⟨v,m,next _ _ g⟩
  simp only[List.length_cons,List.range'_succ,dD,r];obtain ⟨dst,op,ty,pos,after,guard⟩:=o
  cases guard with
  | none=>
   simp only[Region.wanted,if_true];simp only[eh] at h
   cases hlo:eF S s op with
   | true=>simp only[hlo] at h;rw[if_pos rfl];exact c h
   | false=>simp only[hlo] at h;rw[if_neg (by simp)];exact e hlo h
  | some jw=>
   obtain ⟨j,want⟩:=jw;simp only[eh] at h;simp only[Region.wanted]
   cases hd:(ops[j]?).bind (·.dst) with
   | none=>
    simp only[hd] at h;have:yielded ops a.tmps j=none:=by unfold yielded;simp[hd]
    simp[this];exact next _ _ h
   | some d=>
    simp only[hd] at h;have n:=ph i ops j d hd
    cases hfd:f d with
    | bool b=>
     simp only[hfd] at h n
     cases hlo:eF S s op <;> cases want <;> cases b <;> simp[dY,hlo] at h <;> simp[n] <;>
      first | exact c h | exact e hlo h | exact next _ _ h
    | _=>simp only[hfd] at h n;simp[n];exact next _ _ h
theorem rQ {S:Nat→Bool}{P:Program}{N:Nat}{C:World→Prop}{ops:Array Oper}{k:Fr→World→Prop}(D:List Nat):∀ (s:Nat) (l:List Oper) (f:Fr) (w:World),(∀ x ∈ gW l,x ∈ D)→
  eh S P N C ops k s l f w→eh S P N C ops (fun a w'=>cX D a f∧k a w') s l f w:=by
 have gen:∀ (l:List Oper) (s:Nat) (f0 f:Fr) (w:World),cX D f f0→(∀ x ∈ gW l,x ∈ D)→eh S P N C ops k s l f w→eh S P N C ops (fun a w'=>cX D a f0∧k a w') s l f w:=by
  intro l
  induction l with
  | nil=>intro s f0 f w n _ h;exact ⟨n,h⟩
  | cons o rest ih=>
   intro s f0 f w n g h;obtain ⟨dst,op,ty,pos,after,guard⟩:=o;have p:∀ x ∈ gW rest,x ∈ D:=fun x i=>g x (by
    cases dst with
    | none=>simpa [gW] using i
    | some d=>simp only[gW,List.filterMap_cons];exact .tail _ i)
   have t:∀ x,dst=some x→x ∈ D:=fun x i=>g x (by subst i;simp[gW]);have c:∀ v w',eh S P N C ops k (s+1) rest (dv N f dst v) w'→eh S P N C ops (fun a w'=>cX D a f0∧k a w') (s+1) rest (dv N f dst v) w':=
    fun v w' e=>ih (s+1) f0 _ _ ((cX.dv t).trans n) p e
   have q:(oZ P op ty f w fun v w'=>(C w'∨iL S ops s=true)∧eh S P N C ops k (s+1) rest (dv N f dst v) w')→oZ P op ty f w fun v w'=>(C w'∨iL S ops s=true)∧eh S P N C ops (fun a w'=>cX D a f0∧k a w') (s+1) rest (dv N f dst v) w':=
    fun e=>pS (fun v w' m=>⟨m.1,c _ _ m.2⟩) e
   have r:(nr P C op ty f fun v=>eh S P N C ops k (s+1) rest (dv N f dst v) w)→nr P C op ty f fun v=>eh S P N C ops (fun a w'=>cX D a f0∧k a w') (s+1) rest (dv N f dst v) w:=
    fun e=>uW (fun v m=>c _ _ m) e
   cases guard with
   | none=>
    simp only[eh] at h ⊢
    cases hlo:eF S s op <;> simp only[hlo] at h ⊢
    ·exact r h
    ·exact q h
   | some jw=>
    obtain ⟨j,want⟩:=jw;simp only[eh] at h ⊢
    cases hdj:(ops[j]?).bind (·.dst) with
    | none=>simp only[hdj] at h ⊢;exact c _ _ h
    | some d=>
     simp only[hdj] at h ⊢
     cases hfd:f d with
     | bool b=>
      simp only[hfd] at h ⊢
      cases hlo:eF S s op <;> cases want <;> cases b <;> simp only[hlo,dY,if_true,if_false,Bool.false_eq_true] at h ⊢ <;> first | exact q h | exact r h | exact c _ _ h
     | _=>simp only[hfd] at h ⊢;exact c _ _ h
 exact fun s l f w g h=>gen l s f f w (.refl _ _) g h
theorem u7 (S:Nat→Bool){P:Program}{N:Nat}{ops:Array Oper}{k:Fr→World→Prop}{f:Fr}{w:World}(C:World→Prop)(g:P.follows .mixedOrders=true)(b:(Region.noSelect ops&&u6 S ops)=true)(i:C w.drew)(h:eh S P N C ops k 0 ops.toList f w.drew):lk P N ops k f w:=by
 unfold lk;intro a c id Q l;simp only[Bool.and_eq_true] at b;refine x9 (C:=C) (Q:=fun a w=>∃ d,R N a d∧(cX (gW ops.toList) d f∧k d w)) (fun a w ⟨f,c,e⟩=>l _ _ _ c e.1 e.2) g b.1 b.2 i ?_;have:=rP ops.toList 0 f w.drew a (fun j _=>by simp) c (rQ (gW ops.toList) 0 ops.toList f w.drew (fun _ h=>h) h);simpa [List.range_eq_range'] using this
def lu (S:Nat→Bool)(ops:Array Oper)(i:Nat):Bool:=match ops[i]? with | some o=>S i||gi o.op | none=>false
def wh (S:Nat→Bool)(ops:Array Oper)(lam ord:List Nat)(i:Nat):List Edge:=
 bif lu S ops i then (lam.takeWhile fun k=>k !=i).map fun k=>⟨ord.idxOf k,.data⟩ else []
def jU (S:Nat→Bool)(ops:Array Oper)(lam ord:List Nat):Array Oper:=(ord.map fun i=>ll (fun j=>ord.idxOf j) (wh S ops lam ord i) ((ops[i]?).getD default)).toArray
section
variable {S:Nat→Bool} {ops:Array Oper} {lam ord:List Nat}
theorem oq (h:ew ops.size ord=true):(jU S ops lam ord).size=ops.size:=by
 unfold ew at h;simp only[Bool.and_eq_true,beq_iff_eq] at h;simp[jU,h.1.1.2]
theorem ot (h:ew ops.size ord=true){i:Nat}{o:Oper}(b:ops[i]?=some o):(jU S ops lam ord)[ord.idxOf i]?=some (ll (fun j=>ord.idxOf j) (wh S ops lam ord i) o):=by
 have a:i<ops.size:=(Array.getElem?_eq_some_iff.1 b).1;unfold jU;rw[List.getElem?_toArray,List.getElem?_map,(fD h a).2];simp[b]
theorem Eb (h:ew ops.size ord=true)(g:Nat):((jU S ops lam ord)[ord.idxOf g]?).bind (·.dst)=(ops[g]?).bind (·.dst):=by
 cases hg:ops[g]? with
 | some o=>rw[ot h hg];rfl
 | none=>
  have c:ops.size≤g:=Array.getElem?_eq_none_iff.1 hg;have a:¬ g ∈ ord:=by
   intro hm;have d:ord.idxOf g<ops.size:=by
    have:=List.idxOf_lt_length_of_mem hm;unfold ew at h;simp only[Bool.and_eq_true,beq_iff_eq] at h;omega
   obtain ⟨i,hi,e⟩:=ku h d;have b:=(fD h hi).2;rw[e,List.getElem?_eq_getElem (List.idxOf_lt_length_of_mem hm),List.getElem_idxOf] at b;injection b with b;omega
  have:(jU S ops lam ord)[ord.idxOf g]?=none:=by
   rw[Array.getElem?_eq_none_iff,oq h];rw[List.idxOf_eq_length a];unfold ew at h;simp only[Bool.and_eq_true,beq_iff_eq] at h;omega
  rw[this]
theorem uK (h:ew ops.size ord=true)(ex:List Edge)(o:Oper)(tmps:Array Value):Region.wanted (ll (fun j=>ord.idxOf j) ex o) (yielded (jU S ops lam ord) tmps)=Region.wanted o (yielded ops tmps):=by
 unfold Region.wanted ll
 cases hg:o.guard with
 | none=>simp
 | some gb=>
  obtain ⟨g,b⟩:=gb;simp only[Option.map_some];have:yielded (jU S ops lam ord) tmps (ord.idxOf g)=yielded ops tmps g:=by
   unfold yielded;rw[Eb h]
  rw[this]
theorem GK {P:Program}{Q:Exit→Act→World→Prop}(h:ew ops.size ord=true):∀ (c:List Nat),(∀ i ∈ c,i<ops.size)→∀ a w,wpOps P (jU S ops lam ord) Q (c.map fun i=>ord.idxOf i) a w→wpOps P ops Q c a w:=by
 intro c
 induction c with
 | nil=>intro _ a w b;exact b
 | cons i r ih=>
  intro d a w b;rw[List.map_cons,wpOps_cons] at b;rw[wpOps_cons];have b:=wpOp_mono (fun a w f=>ih (fun j g=>d j (.tail _ g)) a w f) b;have hi:=d i (.head _);have e:ops[i]?=some ops[i]:=Array.getElem?_eq_getElem hi;unfold wpOp at b ⊢;rw[ot h e] at b;rw[e];simp only[uK h] at b ⊢;exact b
theorem zL (h:ew ops.size ord=true)(E:lam.Nodup):∀ (z:List Nat) (listed a:Array Bool) (done:List Nat),listed.size=ops.size→a.size=ops.size→
  (∀ i,i<ops.size→∀ d,a.getD (ord.idxOf i) d=listed.getD i d)→lam=done++z.filter (lu S ops)→(∀ k ∈ done,listed.getD k false=true)→
  gX ops listed z→gX (jU S ops lam ord) a (z.map fun i=>ord.idxOf i):=by
 intro z
 induction z with
 | nil=>
  intro listed a done hs v w _ _ t;show Region.ready .any (jU S ops lam ord) a=[];have t:Region.ready .any ops listed=[]:=t;rw[List.eq_nil_iff_forall_not_mem];intro p G;obtain ⟨x,o',m,n⟩:=mem_ready.1 G;have B:p<ops.size:=by have:=(Array.getElem?_eq_some_iff.1 m).1;rwa [oq h] at this
  obtain ⟨i,hi,rfl⟩:=ku h B;have A:ops[i]?=some ops[i]:=Array.getElem?_eq_getElem hi;rw[ot h A] at m;injection m with m;subst m;have:i ∈ Region.ready .any ops listed:=mem_ready.2 ⟨by rw[← w i hi];exact x,_,A,fun e he C=>by
   have l:=n ⟨ord.idxOf e.on,e.ground⟩ (by simp only[ll,List.mem_toArray,List.mem_append,List.mem_map];exact .inl ⟨e,by simpa using he,rfl⟩) C;have l:a.getD (ord.idxOf e.on) false=true:=l;rcases Nat.lt_or_ge e.on ops.size with q | q
   ·rw[← w _ q];exact l
   ·rw[oj h q] at l;have:=j9 l;omega⟩
  rw[t] at this
  cases this
 | cons i r ih=>
  intro listed a done hs v w c f t;obtain ⟨D,t⟩:=t;obtain ⟨x,o,A,n⟩:=mem_ready.1 D;have hi:i<ops.size:=(Array.getElem?_eq_some_iff.1 A).1;have I:=(fD h hi).1;refine ⟨mem_ready.2 ⟨by rw[w i hi];exact x,_,ot h A,?_⟩,?_⟩
  ·intro J b C;simp only[ll,List.mem_toArray,List.mem_append,List.mem_map] at b;rcases b with ⟨e,he,rfl⟩ | b
   ·have l:=n e (by simpa using he) C;have q:=j9 l;show a.getD (ord.idxOf e.on) false=true;rw[w _ (by omega)];exact l
   ·unfold wh at b
    cases hlo:lu S ops i with
    | false=>rw[hlo] at b;cases b
    | true=>
     rw[hlo] at b;have g:=c;rw[List.filter_cons_of_pos hlo] at g;have hid:¬ i ∈ done:=by
      rw[g] at E;intro hm;exact (List.nodup_append.1 E).2.2 i hm i (.head _) rfl
     rw[cond_true,g,lW _ _ hid,List.mem_map] at b;obtain ⟨k,s,rfl⟩:=b;have l:=f k s;have q:=j9 l;show a.getD (ord.idxOf k) false=true;rw[w _ (by omega)];exact l
  ·have u:∀ j,j<ops.size→∀ d,(a.setIfInBounds (ord.idxOf i) true).getD (ord.idxOf j) d=(listed.setIfInBounds i true).getD j d:=by
    intro j F d;by_cases y:i=j
    ·subst y;have l:ord.idxOf i<a.size:=by omega
     have q:i<listed.size:=by omega
     simp[Array.getD,l,q]
    ·rw[getD_set_ne d y,getD_set_ne d (fun e=>y (xX h hi F e))];exact w j F d
   cases hlo:lu S ops i with
   | false=>
    rw[List.filter_cons_of_neg (by simp[hlo])] at c;exact ih _ _ done (by simpa using hs) (by simpa using v) u c (fun k s=>getD_set_true (f k s)) t
   | true=>
    rw[List.filter_cons_of_pos hlo] at c;refine ih _ _ (done++[i]) (by simpa using hs) (by simpa using v) u (by rw[List.append_assoc];exact c) ?_ t;intro k s;rcases List.mem_append.1 s with s | s
    ·exact getD_set_true (f k s)
    ·have:k=i:=by simpa using s
     subst this;have q:k<listed.size:=by omega
     simp[Array.getD,q]
theorem zM (h:ew ops.size ord=true)(l:lg (jU S ops lam ord)=true):∀ (f:List Nat) (listed:Array Bool),listed.size=ops.size→gX ops listed f→∀ i,i<ops.size→listed.getD i true=true∨i ∈ f:=by
 intro f
 induction f with
 | nil=>
  intro listed hs b;have b:Region.ready .any ops listed=[]:=b;have key:∀ n i,i<ops.size→ord.idxOf i=n→listed.getD i true=true:=by
   intro n
   induction n using Nat.strongRecOn with
   | _ n g=>
    intro i hi q
    cases hun:listed.getD i true with
    | true=>rfl
    | false=>
     have k:ops[i]?=some ops[i]:=Array.getElem?_eq_getElem hi;have:i ∈ Region.ready .any ops listed:=mem_ready.2 ⟨hun,_,k,fun e he m=>by
      have a:=gN l (ot h k) (e:=⟨ord.idxOf e.on,e.ground⟩) (by simp only[ll,List.mem_toArray,List.mem_append,List.mem_map];exact .inl ⟨e,by simpa using he,rfl⟩) m;have a:ord.idxOf e.on<ord.idxOf i:=a;have c:e.on<ops.size:=by
       rcases Nat.lt_or_ge e.on ops.size with c | c
       ·exact c
       ·rw[oj h c] at a;have:=(fD h hi).1;omega
      rw[sR (by omega) false true];exact g _ (by omega) e.on c rfl⟩
     rw[b] at this
     cases this
  intro i hi;exact .inl (key _ i hi rfl)
 | cons i r g=>
  intro listed hs ⟨o,b⟩ j p;rcases g _ (by simpa using hs) b j p with a | a
  ·by_cases d:i=j
   ·exact .inr (d ▸ .head _)
   ·rw[getD_set_ne true d] at a;exact .inl a
  ·exact .inr (.tail _ a)
theorem Cv (h:ew ops.size ord=true):∀ x ∈ gW (jU S ops lam ord).toList,x ∈ gW ops.toList:=by
 intro x b;unfold gW at b ⊢;rw[List.mem_filterMap] at b ⊢;obtain ⟨o',c,e⟩:=b;obtain ⟨p,f⟩:=List.getElem?_of_mem c;have a:(jU S ops lam ord)[p]?=some o':=by simpa using f
 have d:p<ops.size:=by have:=(Array.getElem?_eq_some_iff.1 a).1;rwa [oq h] at this
 obtain ⟨i,hi,rfl⟩:=ku h d;have g:ops[i]?=some ops[i]:=Array.getElem?_eq_getElem hi;rw[ot h g] at a;injection a with a;exact ⟨ops[i],by simp,by rw[← e,← a];rfl⟩
end
def x_ (S:Nat→Bool)(ops:Array Oper)(a:List (List Nat × List Nat)):Bool:=
 !a.isEmpty&&(exts (lh ops.toList #[]) ((List.range ops.size).filter (lu S ops)).length ((List.range ops.size).filter (lu S ops))).all (fun b=>a.any fun x=>x.1==b)&&
  a.all fun x=>ew ops.size x.2&&(Region.noSelect (jU S ops x.1 x.2)&&u6 (fun j=>S (x.2.getD j 0)) (jU S ops x.1 x.2))
theorem wi (S:Nat→Bool){P:Program}{ops:Array Oper}{N:Nat}{k:Fr→World→Prop}{f:Fr}{w:World}(C:World→Prop)(A:List (List Nat × List Nat))(hf:P.follows .mixedOrders=true)(D:x_ S ops A=true)(hC:C w.drew)(h:∀ x ∈ A,eh (fun j=>S (x.2.getD j 0)) P N C (jU S ops x.1 x.2) k 0 (jU S ops x.1 x.2).toList f w.drew):lk P N ops k f w:=by
 unfold lk;intro a E id Q hQ;refine wp_region_draw fun t=>?_;simp only[Region.schedule,hf,Bool.true_or,if_true];unfold x_ at D;simp only[Bool.and_eq_true] at D;obtain ⟨⟨F,n⟩,b⟩:=D;rw[List.all_eq_true] at n b;have s:gX ops (Array.replicate ops.size false) (Region.linearise .any ops t):=xW _ _ _ (by unfold I5;exact Nat.le_trans (List.length_filter_le _ _) (by simp));generalize hσ:Region.linearise .any ops t=σ at s ⊢;have G:nq ops fun j=>(Array.replicate ops.size false).getD j false=true:=fun j g=>by
  have:=j9 g;simp[Array.getD] at g
 have hm:=qV _ _ s;have I:=sS _ _ G s;obtain ⟨J,K⟩:∃ x,x ∈ A:=by
  cases A with
  | nil=>simp at F
  | cons x l=>exact ⟨x,.head _⟩
 have M:=b J K;simp only[Bool.and_eq_true] at M;have q:lg (jU S ops J.1 J.2)=true:=by have:=M.2.2;unfold u6 at this;simp only[Bool.and_eq_true] at this;exact this.1
 have c:=zM M.1 q _ _ (by simp) s;have e:(σ.filter (lu S ops)).Perm ((List.range ops.size).filter (lu S ops)):=by
  refine (List.perm_ext_iff_of_nodup (hm.2.filter _) (List.nodup_range.filter _)).2 fun i=>?_;rw[List.mem_filter,List.mem_filter,List.mem_range];constructor
  ·rintro ⟨B,O⟩;exact ⟨(hm.1 i B).1,O⟩
  ·rintro ⟨B,O⟩;refine ⟨(c i B).resolve_left ?_,O⟩;simp[Array.getD,B]
 have hex:=uY (lh ops.toList #[]) _ _ e (hm.2.filter _) (I.filter _);rw[e.length_eq] at hex;have p:=n _ hex;rw[List.any_eq_true] at p;obtain ⟨x,Y,m⟩:=p;have m:=eq_of_beq m;have u:=b x Y;simp only[Bool.and_eq_true] at u;obtain ⟨v,T,y⟩:=u;refine GK (S:=S) (lam:=x.1) (ord:=x.2) v σ (fun i hi=>(hm.1 i hi).1) _ _ ?_;have z:=zL (S:=S) (lam:=x.1) (ord:=x.2) v (by rw[m];exact hm.2.filter _) σ (Array.replicate ops.size false) (Array.replicate ops.size false) [] (by simp) (by simp)
  (fun i hi d=>by simp[Array.getD,hi,(fD v hi).1]) (by rw[m];rfl) (fun k r=>by cases r) s
 have U:=oq (S:=S) (lam:=x.1) v;have r:=h x Y;have hw:dD (fun j=>S (x.2.getD j 0)) P (jU S ops x.1 x.2) C (fun a w=>∃ V,R N a V∧(cX (gW ops.toList) V f∧k V w)) (List.range (jU S ops x.1 x.2).size) a w.drew:=by
  have:=rP (jU S ops x.1 x.2).toList 0 f w.drew a (fun j _=>by simp) E (rQ (gW ops.toList) 0 (jU S ops x.1 x.2).toList f w.drew (Cv v) r);simpa [List.range_eq_range'] using this
 have Z:=rO (P:=P) (C:=C) (Q':=Q) (fun a w ⟨f,E,r⟩=>hQ _ _ _ E r.1 r.2) T y (List.range (jU S ops x.1 x.2).size) (Array.replicate (jU S ops x.1 x.2).size false) a _ List.pairwise_lt_range (fun j=>by
  simp only[List.mem_range];constructor
  ·intro g;exact ⟨g,by simp[Array.getD,g]⟩
  ·intro g;exact g.1) (by simp) (fun j o ho g=>by
   have X:j<(jU S ops x.1 x.2).size:=(Array.getElem?_eq_some_iff.1 ho).1;simp[Array.getD,X] at g) (.inl hC) hw
 rw[U] at Z;have hlen:(σ.map fun i=>x.2.idxOf i).length≤(List.range ops.size).length:=by
  rw[List.length_map,List.length_range];have:σ.Subset (List.range ops.size):=fun i hi=>List.mem_range.2 (hm.1 i hi).1;have:=(List.perm_ext_iff_of_nodup hm.2 List.nodup_range).2 fun i=>⟨fun hi=>List.mem_range.2 (hm.1 i hi).1,fun hi=>(c i (List.mem_range.1 hi)).resolve_left (by simp[Array.getD,List.mem_range.1 hi])⟩;rw[this.length_eq];simp
 exact xV _ _ _ _ _ hlen z Z
def fN (l:List UInt8):List Value:=l.map fun b=>Value.int .u8 (b.toNat:Int)
def aU (l:List UInt8):Value:=.string ⟨l.toArray⟩
theorem ek (l:List UInt8):(fN l).length=l.length:=by simp[fN]
def rR (r:Nat)(s:ByteArray)(pos:Nat):cH:=⟨fun g=>g=r,fun w=>w.heap[r]?=some (.stringIter s pos),fun _ _ h hw=>(h r rfl).trans hw⟩
section
variable {P:Program} {w0 w:World} {F:Nat→Prop} {L M:List cH} {k kk:Value→World→Prop}
theorem Hp.ya (H:Hp w0 F w L M){t:TypeId}{s:ByteArray}(a:P.underlying t=some .string)(h:∀ r w',Hp w0 F w' (rR r s 0::L) M→k (.pointer (some ⟨r,0,none⟩)) w'):qO P t (.string s) w k:=by
 unfold qO;refine ⟨_,w.alloc (.stringIter s 0),?_,h w.heap.size _ (H.add (aS.alloc _ _) _ (heap_alloc_new w _) ?_)⟩
 ·simp[Instr.range,run_underlying a]
 ·rintro g rfl;exact ⟨Nat.le_refl _,by simp⟩
theorem m_ {r pos:Nat}{s:ByteArray}(a:w.heap[r]?=some (.stringIter s pos)):(getObj r).run P w=.ok (.stringIter s pos) w:=by
 simp[getObj,Sem.run,a]
theorem sb {r pos:Nat}{s:ByteArray}(o:Obj)(a:w.heap[r]?=some (.stringIter s pos)):(setObj r o).run P w=.ok () { w with heap:=w.heap.setIfInBounds r o }:=by
 simp[setObj,Sem.run,a]
theorem Hp.BB (H:Hp w0 F w L M)(n:Nat){ty:TypeId}{r pos:Nat}{s:ByteArray}(f:L[n]?=some (rR r s pos))(h:pos<s.size→∀ w',Hp w0 F w' (L.set n (rR r s (pos+(Utf8.decode s pos).2))) M→k (.tuple #[.bool true,.int .i64 (pos:Int),.int .i32 ((Utf8.decode s pos).1:Int)]) w')(i:¬ pos<s.size→k (.tuple #[.bool false]) w):uU P (.pointer (some ⟨r,0,none⟩)) true ty w k:=by
 have b:w.heap[r]?=some (.stringIter s pos):=H.get n f;have d:=(Array.getElem?_eq_some_iff.1 b).1;unfold uU;by_cases c:pos<s.size
 ·have a:=MapKept.heap_set (o':=.stringIter s (pos+(Utf8.decode s pos).2)) b;refine ⟨_,{ w with heap:=w.heap.setIfInBounds r (.stringIter s (pos+(Utf8.decode s pos).2)) },?_,h c _ (H.nc n f _ ⟨rfl,rfl,rfl,by simp,fun g _ e=>a.2 g e⟩ a.1 ?_)⟩
  ·simp only[Instr.next,Sem.run_bind,m_ b,Result.andThen_ok,c,if_true,sb _ b,Sem.run_pure,goInt]
  ·rintro g rfl;exact ⟨by simpa using d,.inl rfl⟩
 ·exact ⟨_,w,by simp only[Instr.next,Sem.run_bind,m_ b,Result.andThen_ok,c,if_false,Sem.run_pure],i c⟩
theorem GL {t:TypeId}{s:ByteArray}{i:Nat}{kd:IntKind}(hi:i<s.size)(a:P.underlying t=some .string)(h:kk (.int .u8 (s[i].toNat:Int)) w):sL P t (.string s) (.int kd (i:Int)) w kk:=by
 unfold sL;refine ⟨_,w,?_,h⟩;have e:s[i]?=some s[i]:=getElem?_pos s i hi;simp[Instr.index,asIntOf,run_underlying a,e]
theorem zN (a b:List UInt8):(⟨a.toArray⟩++⟨b.toArray⟩:ByteArray)=⟨(a++b).toArray⟩:=by
 ext1
 simp
theorem a_ {t:TypeId}{xo yo:Operand}{a b:List UInt8}(hs:a.length+b.length<9223372036854775808)(h:kk (aU (a++b)) w):cW P .add t xo yo (aU a) (aU b) w kk:=by
 unfold cW aU;refine ⟨_,w,?_,h⟩;have c:(⟨a.toArray⟩:ByteArray).size=a.length:=by simp[ByteArray.size]
 have d:(⟨b.toArray⟩:ByteArray).size=b.length:=by simp[ByteArray.size]
 rw[eqGuard_at_string];simp only[binOp,Op.stringOp,c,d,pure_bind];rw[if_neg (by simp only[IntKind.max_i64];omega),zN];rfl
theorem iM {t:TypeId}{l:List UInt8}{i:Nat}{kd:IntKind}(hi:i<l.length)(a:P.underlying t=some .string)(h:kk (.int .u8 (l[i].toNat:Int)) w):sL P t (aU l) (.int kd (i:Int)) w kk:=
 GL (s:=⟨l.toArray⟩) (by simpa [ByteArray.size] using hi) a h
theorem eN {t:TypeId}{xo yo:Operand}{a b:List UInt8}(h:kk (.bool (a==b)) w):cW P .eql t xo yo (aU a) (aU b) w kk:=
 x1 (by rw[ByteArray.toList_mk,ByteArray.toList_mk];exact h)
theorem gS {t:TypeId}{xo yo:Operand}{a b:List UInt8}(h:kk (.bool (!(a==b))) w):cW P .neq t xo yo (aU a) (aU b) w kk:=
 x2 (by rw[ByteArray.toList_mk,ByteArray.toList_mk];exact h)
theorem foldl_push (bs:List UInt8):∀ r:ByteArray,((bs.map fun b=>(b.toNat:Int)).foldl (fun r n=>r.push (UInt8.ofNat n.toNat)) r)=⟨r.data++bs.toArray⟩:=by
 induction bs with
 | nil=>intro r;simp
 | cons b bs ih=>
  intro r;simp only[List.map_cons,List.foldl_cons,ih];simp[ByteArray.push]
theorem Hp.s6 (H:Hp w0 F w L M)(n:Nat){s d e:TypeId}{A:Option Addr}{l c:Nat}{bs:List UInt8}(hs:P.underlying s=some (.slice e))(he:P.underlying e=some (.int .u8))(m:P.underlying d=some .string)(q:L[n]?=some (own e 1 (.slice A l c) l (fN bs)))(h:kk (aU bs) w):pQ P s d (.slice A l c) w kk:=by
 have a:=H.get n q;have hlen:bs.length=l:=by have:=a.1;rw[ek] at this;omega
 unfold pQ;rcases a.2 with ⟨f,r⟩ | ⟨g,cap,cur,f,_⟩
 ·injection f with f _ _;subst f;have:bs=[]:=List.length_eq_zero_iff.1 (by omega);subst this;refine ⟨aU [],w,?_,h⟩;rw[run_convert_bytes_string w s d e none l c hs he m];simp[Conv.bytesToString];rfl
 ·injection f with f _ _;subst f;refine ⟨aU bs,w,?_,h⟩;rw[run_convert_bytes_string w s d e _ l c hs he m];have o:=run_loadCells_list (P:=P) w ⟨g,0,none⟩ (fN bs) (fun j v p=>by
   have i:(⟨g,0,none⟩:Addr).add j=⟨g,j,none⟩:=by unfold Addr.add;split <;> simp_all
   have k:=(List.getElem?_eq_some_iff.1 p).1;rw[ek] at k;rw[i,kI a j (by omega),p])
  rw[ek,hlen] at o;have:=run_bytesToString (P:=P) w ⟨g,0,none⟩ l c (bs.map fun b=>(b.toNat:Int)) (by rw[o];simp[fN,Function.comp_def]);rw[this,foldl_push];simp[aU]
end
open Go.ChangeMaps (setBlock)
theorem s8 {α:Type}:∀ {l:List α} {j:Nat},j<l.length→∀ x:α,(l.set j x).Perm (x::l.eraseIdx j)
 | [],_,h,_=>by simp at h
 | y::l,0,_,x=>by simp
 | y::l,j+1,h,x=>by
  rw[List.set_cons_succ,List.eraseIdx_cons_succ];exact ((s8 (l:=l) (j:=j) (by simpa using h) x).cons y).trans (List.Perm.swap x y _)
theorem Ec {α:Type}{l:List α}{j:Nat}{x:α}(h:l[j]?=some x):l.Perm (x::l.eraseIdx j):=by
 obtain ⟨a,rfl⟩:=List.getElem?_eq_some_iff.1 h;have:=s8 a l[j]
 rwa [List.set_getElem_self] at this
section
variable {α β:Type} {ka:α→Value} {vb:β→Value} {z:Value} {P:Program} {t kt et:TypeId} {w0 w:World} {F:Nat→Prop} {L M:List cH} {k kk:Value→World→Prop}
theorem u9 [DecidableEq α]{l:List (α × β)}{r:Nat}(g:(aP ka vb r l).ok w)(W:ld P t kt et ka vb z)(a:α)(h:kk (((bS l a).map vb).getD z) w):gL P t (.map (some r)) (ka a) false w kk:=by
 obtain ⟨es,clock,f,hs,i⟩:=g;unfold gL;rcases lZ W hs i a w with ⟨c,d,_⟩ | ⟨j,e,b,c,he,k,m,n,d⟩
 ·rw[d] at h;exact ⟨_,w,by simp[Instr.lookup,run_underlying W.und,MapKept.run_getObj_map f,W.key.check w _ ⟨a,rfl⟩,c,lX W.zero,Result.andThen],h⟩
 ·rw[d] at h;exact ⟨_,w,by simp[Instr.lookup,run_underlying W.und,MapKept.run_getObj_map f,W.key.check w _ ⟨a,rfl⟩,c,n,Result.andThen],h⟩
theorem pj {l:List (α × β)}{r:Nat}(c:(aP ka vb r l).ok w)(hi:∀ a b,ka a=ka b→a=b):(eM l).Nodup:=by
 obtain ⟨es,clock,_,hs,d⟩:=c;exact jm hi hs d
abbrev u_ (α:Type):=List (α × Value × List Value)
def Cw (l:u_ α):List (α × Value):=l.map fun x=>(x.1,x.2.1)
def Ja (e:TypeId)(x:α × Value × List Value):cH:=own e 1 x.2.1 x.2.2.length x.2.2
def pk (ka:α→Value)(e:TypeId)(r:Nat)(l:u_ α):cH:=sa (aP ka (fun v:Value=>v) r (Cw l)::l.map (Ja e))
theorem Cx (l:u_ α):eM (Cw l)=eM l:=by unfold eM Cw;rw[List.map_map];rfl
theorem Hp.Jb (H:Hp w0 F w L M)(ka:α→Value)(e:TypeId)(h:∀ r w',Hp w0 F w' (pk ka e r []::L) M→k (.map (some r)) w'):np P t none w k:=
 H.makeMap ka (fun v:Value=>v) fun r w' H=>h r w' (Hp.join (Ls:=[aP ka (fun v:Value=>v) r (Cw ([]:u_ α))]) H)
theorem GM {e:TypeId}{r:Nat}{l:u_ α}(h:(pk ka e r l).ok w):(aP ka (fun v:Value=>v) r (Cw l)).ok w:=h.1 _ (.head _)
variable [DecidableEq α]
def Gs (l:u_ α)(a:α):Value:=((bS l a).map (·.1)).getD (.slice none 0 0)
def vc (l:u_ α)(a:α):List Value:=((bS l a).map (·.2)).getD []
theorem yb (l:u_ α)(a:α):bS (Cw l) a=(bS l a).map (·.1):=by
 unfold bS Cw
 induction l with
 | nil=>rfl
 | cons x l ih=>
  rw[List.map_cons,List.find?_cons,List.find?_cons];by_cases h:x.1=a
  ·simp[h]
  ·simp only[h,decide_false];exact ih
theorem mJ {γ:Type}{l:List (α × γ)}{a:α}{b:γ}(h:bS l a=some b):∃ j:Nat,l[j]?=some (a,b):=by
 unfold bS at h
 cases hf:l.find? fun p=>decide (p.1=a) with
 | none=>rw[hf] at h;cases h
 | some p=>
  rw[hf] at h;injection h with h;have c:=List.find?_some hf;have d:=List.mem_of_find?_eq_some hf;obtain ⟨j,e⟩:=List.getElem?_of_mem d;refine ⟨j,?_⟩;rw[e];obtain ⟨x,y⟩:=p;have:x=a:=by simpa using c
  simp only at h;rw[this,h]
theorem yc {γ:Type}{l:List (α × γ)}(f:(eM l).Nodup){j:Nat}{a:α}{b0:γ}(h:l[j]?=some (a,b0))(b:γ):dZ l a b=l.set j (a,b):=by
 have k:=jQ f (List.mem_of_getElem? h);unfold dZ;rw[k];simp only[Option.isSome_some,if_true];apply List.ext_getElem?;intro i;rw[List.getElem?_map,List.getElem?_set];obtain ⟨m,_⟩:=List.getElem?_eq_some_iff.1 h;by_cases c:j=i
 ·subst c;rw[if_pos rfl,if_pos m,h];simp
 ·rw[if_neg c]
  cases hi:l[i]? with
  | none=>rfl
  | some p=>
   have d:p.1≠a:=fun e=>by
    have n:(eM l)[i]?=some a:=by unfold eM;rw[List.getElem?_map,hi,← e];rfl
    have g:(eM l)[j]?=some a:=by unfold eM;rw[List.getElem?_map,h];rfl
    exact c ((List.getElem?_inj (List.getElem?_eq_some_iff.1 g).1 f).1 (g.trans n.symm))
   simp[d]
theorem yd (l:u_ α)(a:α)(v:Value)(xs:List Value):Cw (dZ l a (v,xs))=dZ (Cw l) a v:=by
 unfold dZ;rw[yb]
 cases bS l a with
 | none=>simp[Cw]
 | some b=>
  simp only[Option.isSome_some,Option.map_some,if_true];unfold Cw;rw[List.map_map,List.map_map];refine List.map_congr_left fun p _=>?_;simp only[Function.comp_apply];split <;> rfl
theorem Hp.Jd {e:TypeId}{r:Nat}{l:u_ α}(H:Hp w0 F w (pk ka e r l::L) M)(hi:∀ a b,ka a=ka b→a=b)(a:α):∃ v xs Ls,Gs l a=v∧vc l a=xs∧Hp w0 F w (aP ka (fun v:Value=>v) r (Cw l)::own e 1 v xs.length xs::(Ls++L)) M∧
  ∀ w' d c,Hp w0 F w' (aP ka (fun v:Value=>v) r (dZ (Cw l) a d)::own e 1 d c.length c::(Ls++L)) M→Hp w0 F w' (pk ka e r (dZ l a (d,c))::L) M:=by
 have f:=H.split;have m:(eM l).Nodup:=by
  have:=pj (f.get 0 rfl) hi
  rwa [Cx] at this
 cases hg:bS l a with
 | none=>
  refine ⟨.slice none 0 0,[],l.map (Ja e),by unfold Gs;rw[hg];rfl,by unfold vc;rw[hg];rfl,?_,fun w' d c g=>?_⟩
  ·exact (f.bx e 1).perm (List.Perm.swap _ _ _)
  ·have n:dZ l a (d,c)=l++[(a,d,c)]:=by unfold dZ;rw[hg];rfl
   unfold pk;refine Hp.join ?_;rw[yd,n,List.map_append,List.cons_append,List.append_assoc];refine g.perm (List.Perm.cons _ ?_);exact (List.perm_middle (a:=own e 1 d c.length c) (l₁:=l.map (Ja e)) (l₂:=L)).symm
 | some b=>
  obtain ⟨v,xs⟩:=b;obtain ⟨j,h⟩:=mJ hg;have i:=(List.getElem?_eq_some_iff.1 h).1;have k:(l.map (Ja e))[j]?=some (own e 1 v xs.length xs):=by rw[List.getElem?_map,h];rfl
  refine ⟨v,xs,(l.map (Ja e)).eraseIdx j,by unfold Gs;rw[hg];rfl,by unfold vc;rw[hg];rfl,?_,fun w' d c g=>?_⟩
  ·refine f.perm ?_;rw[List.cons_append];refine List.Perm.cons _ ?_;have:=(Ec k).append_right L
   rwa [List.cons_append] at this
  ·unfold pk;refine Hp.join ?_;rw[yd,yc m h,List.map_set,List.cons_append];refine g.perm (List.Perm.cons _ ?_);have:=((s8 (l:=l.map (Ja e)) (j:=j) (by simpa using i) (Ja e (a,d,c))).append_right L).symm
   rwa [List.cons_append] at this
theorem wj {e:TypeId}{r:Nat}{l:u_ α}(h:(pk ka e r l).ok w)(a:α):(own e 1 (Gs l a) (vc l a).length (vc l a)).ok w:=by
 unfold Gs vc
 cases hg:bS l a with
 | none=>exact World.ownsRow_nil w 0 e 1
 | some b=>
  obtain ⟨j,c⟩:=mJ hg;exact h.1 _ (.tail _ (List.mem_map.2 ⟨_,List.mem_of_getElem? c,rfl⟩))
theorem ye {e:TypeId}{r:Nat}{l:u_ α}(h:(pk ka e r l).ok w)(a:α):∃ A c,Gs l a=.slice A (vc l a).length c:=by
 obtain ⟨A,c,b,_⟩:=fh (wj h a);exact ⟨A,c,b⟩
theorem rS {e:TypeId}{r:Nat}{l:u_ α}(h:(pk ka e r l).ok w)(W:ld P t kt et ka (fun v:Value=>v) (.slice none 0 0))(a:α)(b:kk (Gs l a) w):gL P t (.map (some r)) (ka a) false w kk:=by
 refine u9 (GM h) W a ?_;rw[yb,Option.map_map];exact b
theorem Ed (l:u_ α)(a c:α)(b:Value × List Value):vc (dZ l a b) c=if c=a then b.2 else vc l c:=by
 unfold vc;rw[fg];split <;> rfl
end
section
variable {α β:Type} {ka:α→Value} {vb:β→Value} {z:Value} {P:Program} {t kt et:TypeId} {w0 w:World} {F:Nat→Prop} {L M:List cH} {k kk:Value→World→Prop}
def s9 (e:MapEntry):Value × Value:=(e.key,e.val)
def o7 (ka:α→Value)(vb:β→Value)(p:α × β):Value × Value:=(ka p.1,vb p.2)
def Lx (ka:α→Value)(vb:β→Value)(a r:Nat)(l D:List (α × β))(w:World):Prop:=
 ∃ (es:Array MapEntry) (clock since:Nat) (seen:Array Nat) (b:List MapEntry),w.heap[a]?=some (.map es clock)∧Stamped es clock∧es.toList.map s9=l.map (o7 ka vb)∧
  w.heap[r]?=some (.mapIter (some a) since seen clock)∧(∀ x ∈ es.toList,x.born<since)∧since≤clock∧r≠a∧seen.toList=b.map (·.born)∧(∀ d ∈ b,d ∈ es.toList)∧b.map s9=D.map (o7 ka vb)
def pn (ka:α→Value)(vb:β→Value)(a r:Nat)(l D:List (α × β)):cH:=
 ⟨fun g=>g=a∨g=r,Lx ka vb a r l D,fun w w' h ⟨es,clock,since,seen,b,c,d,e,f,i⟩=>⟨es,clock,since,seen,b,(h a (.inl rfl)).trans c,d,e,(h r (.inr rfl)).trans f,i⟩⟩
theorem pY {a r:Nat}{l D:List (α × β)}(h:(pn ka vb a r l D).ok w):(aP ka vb a l).ok w:=by
 obtain ⟨es,clock,_,_,_,b,c,d,_⟩:=h;exact ⟨es,clock,b,c,d⟩
theorem Hp.rangeMap {l:List (α × β)}{a:Nat}(H:Hp w0 F w (aP ka vb a l::L) M){k0 e0:TypeId}(f:P.underlying t=some (.map k0 e0))(h:∀ r w',Hp w0 F w' (pn ka vb a r l []::L) M→k (.pointer (some ⟨r,0,none⟩)) w'):qO P t (.map (some a)) w k:=by
 obtain ⟨es,clock,b,hs,i⟩:=H.get 0 rfl;have c:a<w.heap.size:=(Array.getElem?_eq_some_iff.1 b).1;unfold qO;refine ⟨_,w.alloc (.mapIter (some a) clock #[] clock),run_range_map w t k0 e0 a es clock f b,h w.heap.size _ ?_⟩;have H1:=H.add (aS.alloc w (.mapIter (some a) clock #[] clock)) ⟨fun g=>g=w.heap.size,fun u=>u.heap[w.heap.size]?=some (.mapIter (some a) clock #[] clock),fun _ _ h hw=>(h _ rfl).trans hw⟩ (heap_alloc_new w _)
  (by rintro g rfl;exact ⟨Nat.le_refl _,by simp⟩)
 have d:(w.alloc (.mapIter (some a) clock #[] clock)).heap[a]?=some (.map es clock):=(heap_alloc_old w _ c).trans b;refine (Hp.join (Ls:=[_,aP ka vb a l]) (L:=L) H1).re (fun e=>?_) (fun g j=>?_)
 ·have m:=e.1 _ (.head _);refine ⟨es,clock,clock,#[],[],d,hs,i,m,hs.1,Nat.le_refl _,by omega,rfl,by simp,rfl⟩
 ·rcases j with rfl | rfl
  ·exact ⟨aP ka vb g l,.tail _ (.head _),rfl⟩
  ·exact ⟨_,.head _,rfl⟩
theorem Hp.Cy {l D:List (α × β)}{a r:Nat}(H:Hp w0 F w (pn ka vb a r l D::L) M):Hp w0 F w (aP ka vb a l::L) M:=H.re pY (by rintro g rfl;exact .inl rfl)
theorem Cz (hi:∀ a b,ka a=ka b→a=b)(e:∀ a b,vb a=vb b→a=b){p q:α × β}(h:o7 ka vb p=o7 ka vb q):p=q:=by
 obtain ⟨a,b⟩:=p;obtain ⟨c,d⟩:=q;unfold o7 at h;injection h with f g;rw[show a=c from hi _ _ f,show b=d from e _ _ g]
theorem Hp.wk (H:Hp w0 F w L M)(n:Nat){ty:TypeId}{A r:Nat}{l D:List (α × β)}(hn:L[n]?=some (pn ka vb A r l D))(hi:∀ a b,ka a=ka b→a=b)(hv:∀ a b,vb a=vb b→a=b)(h1:(∀ p ∈ l,p ∈ D)→kk (.tuple #[.bool false]) w)(h2:∀ a b w',(a,b) ∈ l→(a,b) ∉ D→Hp w0 F w' (L.set n (pn ka vb A r l (D++[(a,b)]))) M→kk (.tuple #[.bool true,ka a,vb b]) w'):uU P (.pointer (some ⟨r,0,none⟩)) false ty w kk:=by
 obtain ⟨es,clock,since,seen,B,V,hs,X,Y,hold,C,E,h,v,Z⟩:=H.get n hn;have a0:r<w.heap.size:=(Array.getElem?_eq_some_iff.1 Y).1;have a1:A<w.heap.size:=(Array.getElem?_eq_some_iff.1 V).1;have o:∀ x:MapEntry,x ∈ es.toList→(seen.contains x.born=true↔x ∈ B):=fun x s=>by
  rw[Array.contains_iff_mem,← Array.mem_toList_iff,h,List.mem_map];constructor
  ·rintro ⟨d,f,he⟩;have G:=hs.2.1;have h3:=find_born d es.toList G (v d f);have I:=find_born x es.toList G s;rw[← he] at I;rw[h3] at I;injection I with I;exact I ▸ f
  ·intro s;exact ⟨x,s,rfl⟩
 have J:∀ x ∈ es.toList,∃ p ∈ l,s9 x=o7 ka vb p:=fun x s=>by
  have:s9 x ∈ es.toList.map s9:=List.mem_map.2 ⟨x,s,rfl⟩;rw[X] at this;obtain ⟨p,K,he⟩:=List.mem_map.1 this;exact ⟨p,K,he.symm⟩
 unfold uU;rcases run_next_at (P:=P) w ty r A since clock seen es clock Y V hold C with ⟨h0,c⟩ | ⟨e,he,t,a2,c⟩
 ·refine ⟨_,w,c,h1 fun p K=>?_⟩;have:o7 ka vb p ∈ l.map (o7 ka vb):=List.mem_map.2 ⟨p,K,rfl⟩;rw[← X] at this;obtain ⟨x,s,a3⟩:=List.mem_map.1 this;have a4:x ∈ B:=(o x s).1 (by
   cases hc:seen.contains x.born with
   | true=>rfl
   | false=>
    have hm:x ∈ leftOf es seen:=Array.mem_filter.2 ⟨Array.mem_toList_iff.1 s,by rw[hc];rfl⟩;have:=Array.size_pos_of_mem hm;omega)
  have:s9 x ∈ B.map s9:=List.mem_map.2 ⟨x,a4,rfl⟩;rw[Z,a3] at this;obtain ⟨q,hq,a5⟩:=List.mem_map.1 this;exact Cz hi hv a5 ▸ hq
 ·obtain ⟨m,N⟩:=mem_left he;obtain ⟨⟨a,b⟩,K,y⟩:=J e m;have u:e.key=ka a:=congrArg Prod.fst y;have O:e.val=vb b:=congrArg Prod.snd y;rw[u,O] at c;have z:t.heap=w.heap∧t.os=w.os∧t.tape=w.tape∧t.output=w.output:=by rcases a2 with rfl | rfl <;> exact ⟨rfl,rfl,rfl,rfl⟩
  obtain ⟨Q,ho,a6,a7⟩:=z;have k:=MapKept.heap_set (w:=t) (o':=.mapIter (some A) since (seen.push e.born) clock) (by rw[Q];exact Y);have a8:e ∉ B:=fun f=>by rw[(o e m).2 f] at N;cases N
  refine ⟨_,_,c,h2 a b _ K (fun a9=>?_) (H.nc n hn _ ⟨by show (setBlock t r _).os=w.os;exact ho,a6,a7,?_,fun g hg hgf=>?_⟩ ?_ ?_)⟩
  ·have:o7 ka vb (a,b) ∈ D.map (o7 ka vb):=List.mem_map.2 ⟨_,a9,rfl⟩;rw[← Z] at this;obtain ⟨d,f,hde⟩:=List.mem_map.1 this;have hk:d.key=e.key:=by rw[u];exact congrArg Prod.fst hde
   have hn3:=hs.2.2;have:d=e:=by
    obtain ⟨i,S,T⟩:=List.getElem_of_mem (v d f);obtain ⟨j,hj1,U⟩:=List.getElem_of_mem m;have hij:i=j:=by
     refine (List.getElem?_inj (by simpa using S) hn3).1 ?_;rw[List.getElem?_map,List.getElem?_map,List.getElem?_eq_getElem S,List.getElem?_eq_getElem hj1,T,U];exact congrArg some hk
    subst hij;rw[← T,← U]
   exact a8 (this ▸ f)
  ·show w.heap.size≤(t.heap.setIfInBounds r _).size;simp[Q]
  ·have hgr:g≠r:=fun e=>hgf (.inr e);rw[← Q];exact k.2 g hgr
  ·refine ⟨es,clock,since,seen.push e.born,B++[e],?_,hs,X,k.1,hold,C,E,?_,?_,?_⟩
   ·exact (k.2 A (Ne.symm E)).trans (by rw[Q];exact V)
   ·simp[h]
   ·intro d f;rcases List.mem_append.1 f with f | f
    ·exact v d f
    ·rw[List.mem_singleton.1 f];exact m
   ·rw[List.map_append,List.map_append,Z];simp[y]
  ·intro g hg;refine ⟨?_,.inl hg⟩;show g<(t.heap.setIfInBounds r _).size;rw[Array.size_setIfInBounds,Q];rcases hg with rfl | rfl
   ·exact a1
   ·exact a0
theorem nC {n r:Nat}{l D:List (α × β)}{a:α}{b:β}(h:(pn ka vb n r l (D++[(a,b)])).ok w)(p:kk (.tuple #[ka a,vb b]) w):vW P (.pointer (some ⟨r,0,none⟩)) w kk:=by
 obtain ⟨es,clock,since,seen,k,q,hs,u,o,hold,s,t,c,m,j⟩:=h;rw[List.map_append,List.map_cons,List.map_nil] at j;have hlen:k≠[]:=fun e=>by subst e;simp at j
 obtain ⟨d,e,rfl⟩:∃ d e,k=d++[e]:=by
  rcases List.eq_nil_or_concat k with e | ⟨d,e,he⟩
  ·exact absurd e hlen
  ·exact ⟨d,e,by simpa using he⟩
 rw[List.map_append,List.map_cons,List.map_nil] at j c;have he:=(List.append_inj' j rfl).2;injection he with he _;have g:e.key=ka a:=congrArg Prod.fst he;have i:e.val=vb b:=congrArg Prod.snd he;have f:seen=((d.map (·.born)).toArray).push e.born:=by
  apply Array.toList_inj.1;rw[c];simp
 rw[f] at o;unfold vW;refine ⟨_,w,run_entry_at w r n since _ es clock e o q (m e (by simp)) hs.2.1,?_⟩;rw[g,i];exact p
end
section
variable {P:Program} {w0 w w':World} {F:Nat→Prop} {L M:List cH} {k kk:Value→World→Prop}
theorem addr_add (g o j:Nat):(⟨g,o,none⟩:Addr).add j=⟨g,o+j,none⟩:=by unfold Addr.add;split <;> simp_all
theorem elemOf {t e:TypeId}(a:P.underlying t=some (.slice e)):P.underlying t=some (.slice (P.elem t)):=by
 have:P.elem t=e:=by simp[Program.elem,a]
 rw[this];exact a
theorem nD {t e:TypeId}(a:P.underlying t=some (.slice e)):P.elem t=e:=by simp[Program.elem,a]
theorem Sl.empty {v:Value}{sz:Nat}{xs:List Value}{A:Option Addr}{c:Nat}(a:v=.slice A 0 c)(b:xs=[]):Sl w v sz 0 xs:=by
 subst b;subst a;exact ⟨by simp,A,c,rfl,Nat.zero_le _,.inl rfl⟩
theorem Sl.sliceTo {t e:TypeId}{sz l c i:Nat}{A:Option Addr}{xs:List Value}{kd:IntKind}{j:Int}(hs:Sl w (.slice A l c) sz l xs)(b:P.underlying t=some (.slice e))(m:bE P e=some sz)(d:j=(i:Int))(hi:i≤l)(h:∀ f k,Sl w (.slice f i k) sz i (xs.take (i*sz))→kk (.slice f i k) w):eY P t (.slice A l c) none (some (.int kd j)) none w kk:=by
 subst d;obtain ⟨hlen,v,x,n,p,a⟩:=hs;injection n with q _ r;subst q;subst r;unfold eY;refine ⟨sliced A 0 i c sz,w,?_,?_⟩
 ·rw[run_sliceAt_slice w t _ _ _ _ (elemOf b),run_slice_h w t A l c (elemOf b) kd (i:Int) (by omega) (by omega),nD b,run_sizeOf m];rfl
 ·have e:sliced A 0 i c sz=.slice (if c=0 then A else A.map (·.add 0)) i c:=by unfold sliced;simp
  rw[e];refine h _ _ ?_;rcases Nat.eq_zero_or_pos i with rfl | y
  ·exact Sl.empty rfl (by simp)
  ·rcases a with z | ⟨g,o,rfl,s,u⟩
   ·omega
   ·refine ⟨?_,_,c,rfl,by omega,.inr ⟨g,o,?_,s,fun j d=>?_⟩⟩
    ·rw[List.length_take,hlen];have:=Nat.mul_le_mul_right sz hi;omega
    ·rw[if_neg (by omega)];simp[addr_add]
    ·have:=Nat.mul_le_mul_right sz hi;rw[u j (by omega),List.getElem?_take];rw[if_pos d]
theorem Sl.sliceFrom {t e:TypeId}{sz l c i:Nat}{A:Option Addr}{xs:List Value}{kd:IntKind}{j:Int}(hs:Sl w (.slice A l c) sz l xs)(b:P.underlying t=some (.slice e))(n:bE P e=some sz)(d:j=(i:Int))(hi:i≤l)(h:∀ f k,Sl w (.slice f (l - i) k) sz (l - i) (xs.drop (i*sz))→kk (.slice f (l - i) k) w):eY P t (.slice A l c) (some (.int kd j)) none none w kk:=by
 subst d;obtain ⟨hlen,x,y,p,q,a⟩:=hs;injection p with r _ s;subst r;subst s;unfold eY;refine ⟨sliced A i l c sz,w,?_,?_⟩
 ·rw[run_sliceAt_slice w t _ _ _ _ (elemOf b),run_slice_l w t A l c (elemOf b) kd (i:Int) (by omega) (by omega),nD b,run_sizeOf n];rfl
 ·have e:sliced A i l c sz=.slice (if c=i then A else A.map (·.add (i*sz))) (l - i) (c - i):=rfl;rw[e];refine h _ _ ?_;rcases Nat.eq_zero_or_pos (l - i) with m | m
  ·rw[m];refine Sl.empty rfl (List.drop_eq_nil_iff.2 ?_);have:l=i:=by omega
   rw[hlen,this];exact Nat.le_refl _
  ·rcases a with z | ⟨g,o,rfl,u,v⟩
   ·omega
   ·refine ⟨?_,_,c - i,rfl,by omega,.inr ⟨g,o+i*sz,?_,u,fun j d=>?_⟩⟩
    ·rw[List.length_drop,hlen,Nat.sub_mul]
    ·rw[if_neg (by omega)];simp[addr_add]
    ·rw[Nat.sub_mul] at d;rw[Nat.add_assoc,v (i*sz+j) (by omega),List.getElem?_drop]
theorem Hp.kO (H:Hp w0 F w L M)(n:Nat){t e ty:TypeId}{z v:Value}{sz b l c d:Nat}{A:Option Addr}{xs o:List Value}{E:Array Bool}(T:qI P t e z sz b)(B:L[n]?=some (own e sz v l xs))(hs:Sl w (.slice A c d) sz c o)(G:∀ u ∈ o,u.oneCell'=true)(V:(l+c)*b≤140737488355328)(X:l+c<1152921504606846976)(h:∀ A d w',Hp w0 F w' (L.set n (own e sz (.slice A (l+c) d) (l+c) (xs++o))) M→kk (.slice A (l+c) d) w') :
  bV P .append #[t,t] ty E [v,.slice A c d] w kk:=by
 obtain ⟨i,hi,Y,I,Z⟩:=T.parts;have p:w.ownsRow 0 e sz v l xs:=H.get n B;have g:=hs.1;rcases A with _ | a
 ·have J:c=0:=by
   rcases Nat.eq_zero_or_pos c with k | k
   ·exact k
   ·obtain ⟨_,_,hA⟩:=hs.A k;cases hA
  subst J;have hy:o=[]:=List.eq_nil_of_length_eq_zero (by simpa using g);subst hy;obtain ⟨C,K,rfl,q⟩:=fh (H.get n B);have hL:L.set n (own e sz (.slice C (l+0) K) (l+0) (xs++[]))=L:=by
   obtain ⟨G,h2⟩:=List.getElem?_eq_some_iff.1 B;rw[List.append_nil,Nat.add_zero,← h2];exact List.set_getElem_self G
  unfold bV;refine ⟨_,w,?_,h C K w (by rw[hL];exact H)⟩;show (do pure (.value (← Builtin.append_ #[t,t] ty #[.slice C l K,.slice none 0 d])):Sem Next).run P w=_;simp[Builtin.append_,run_underlying T.und,sizeOf,typeInfo,hi,Builtin.lenOf,Builtin.firstCells,storeCells,q]
  cases C <;> simp[Result.andThen]
 ·obtain ⟨N,w',r,f,s,_,y⟩:=run_append_own_at (P:=P) w 0 t ty e i z sz b T.und hi Y I Z T.zs T.pos v l xs p a c d o g
   (fun j u hu=>by
    have O:=(List.getElem?_eq_some_iff.1 hu).1;have J:0<c:=by
     rcases Nat.eq_zero_or_pos c with k | k
     ·subst k;simp at g;subst g;simp at O
     ·exact k
    obtain ⟨g',o',Q⟩:=hs.A J;injection Q with Q;subst Q;rw[addr_add,hs.cell j (by omega),hu]) G (by unfold maxLen;omega) V (Nat.zero_le _)
  have hk:aS (own e sz v l xs).foot w w':=⟨s.os,s.tape,s.output,s.size,fun x D S=>s.block x D fun e=>S e.symm⟩;have H':=H.nc n B (own e sz N (l+c) (xs++o)) hk f (fun x D=>⟨(World.ownsRow.lt (w:=w') (base:=0) f x D).2,by
   have m:N.ownBlock=some x:=D;rcases y with h | h
   ·left;show v.ownBlock=some x;rw[← h];exact m
   ·right;rw[h] at m;injection m with m;omega⟩)
  have U:∃ A d,N=.slice A (l+c) d:=by
   rcases f.2 with ⟨rfl,k⟩ | ⟨g',cap,cur,U,_⟩
   ·exact ⟨none,0,by rw[k]⟩
   ·exact ⟨_,_,U⟩
  obtain ⟨A,d',rfl⟩:=U;unfold bV;refine ⟨_,w',?_,h A d' w' H'⟩;show (do pure (.value (← Builtin.append_ #[t,t] ty #[v,.slice (some a) c d])):Sem Next).run P w=_;rw[Sem.run_bind,r];rfl
end
section
variable {P:Program} {w0 w w':World} {F:Nat→Prop} {L M:List cH} {k kk:Value→World→Prop}
theorem Sl.NC {t e:TypeId}{sz l c i:Nat}{A:Option Addr}{xs:List Value}{kd b:IntKind}{j m:Int}(hs:Sl w (.slice A l c) sz l xs)(d:P.underlying t=some (.slice e))(p:bE P e=some sz)(f:j=(i:Int))(k:m=(i:Int))(hi:i≤l)(h:∀ n,Sl w (.slice n i i) sz i (xs.take (i*sz))→kk (.slice n i i) w):eY P t (.slice A l c) none (some (.int kd j)) (some (.int b m)) w kk:=by
 subst f;subst k;obtain ⟨hlen,y,z,q,r,a⟩:=hs;injection q with s _ u;subst s;subst u;unfold eY;refine ⟨sliced A 0 i i sz,w,?_,?_⟩
 ·rw[run_sliceAt_slice w t _ _ _ _ (elemOf d),run_slice_hm w t A l c (elemOf d) kd b (i:Int) (i:Int) (by omega) (by omega) (by omega),nD d,run_sizeOf p];rfl
 ·have e:sliced A 0 i i sz=.slice (if i=0 then A else A.map (·.add 0)) i i:=by unfold sliced;simp
  rw[e];refine h _ ?_;rcases Nat.eq_zero_or_pos i with rfl | B
  ·exact Sl.empty rfl (by simp)
  ·rcases a with C | ⟨g,o,rfl,v,x⟩
   ·omega
   ·refine ⟨?_,_,i,rfl,by omega,.inr ⟨g,o,?_,v,fun j f=>?_⟩⟩
    ·rw[List.length_take,hlen];have:=Nat.mul_le_mul_right sz hi;omega
    ·rw[if_neg (by omega)];simp[addr_add]
    ·have:=Nat.mul_le_mul_right sz hi;rw[x j (by omega),List.getElem?_take];rw[if_pos f]
theorem s_ {t e:TypeId}{sz l c i:Nat}{A:Option Addr}{kd a:IntKind}{j f:Int}(b:P.underlying t=some (.slice e))(g:bE P e=some sz)(k:j=(i:Int))(d:f=(i:Int))(hi:i≤c)(h:kk (sliced A 0 i i sz) w):eY P t (.slice A l c) none (some (.int kd j)) (some (.int a f)) w kk:=by
 subst k;subst d;unfold eY;refine ⟨sliced A 0 i i sz,w,?_,h⟩;rw[run_sliceAt_slice w t _ _ _ _ (elemOf b),run_slice_hm w t A l c (elemOf b) kd a (i:Int) (i:Int) (by omega) (by omega) (by omega),nD b,run_sizeOf g];rfl
theorem sk {t e:TypeId}{sz l c i:Nat}{A:Option Addr}{kd:IntKind}{j:Int}(a:P.underlying t=some (.slice e))(b:bE P e=some sz)(d:j=(i:Int))(hi:i≤l)(h:kk (sliced A i l c sz) w):eY P t (.slice A l c) (some (.int kd j)) none none w kk:=by
 subst d;unfold eY;refine ⟨sliced A i l c sz,w,?_,h⟩;rw[run_sliceAt_slice w t _ _ _ _ (elemOf a),run_slice_l w t A l c (elemOf a) kd (i:Int) (by omega) (by omega),nD a,run_sizeOf b];rfl
theorem l6 {sz l c i:Nat}{A:Option Addr}{xs:List Value}(hs:Sl w (.slice A l c) sz l xs)(hi:i≤l):∃ b,sliced A 0 i i sz=.slice b i i∧(b=none→i=0)∧Sl w (.slice b i i) sz i (xs.take (i*sz)):=by
 obtain ⟨hlen,s,t,k,m,a⟩:=hs;injection k with n _ p;subst n;subst p;have e:sliced A 0 i i sz=.slice (if i=0 then A else A.map (·.add 0)) i i:=by unfold sliced;simp
 refine ⟨_,e,?_,?_⟩
 ·intro d;split at d
  ·assumption
  ·rcases a with q | ⟨g,o,rfl,f,h⟩
   ·omega
   ·cases d
 ·rcases Nat.eq_zero_or_pos i with rfl | u
  ·exact Sl.empty rfl (by simp)
  ·rcases a with q | ⟨g,o,rfl,f,h⟩
   ·omega
   ·refine ⟨?_,_,i,rfl,by omega,.inr ⟨g,o,?_,f,fun j r=>?_⟩⟩
    ·rw[List.length_take,hlen];have:=Nat.mul_le_mul_right sz hi;omega
    ·rw[if_neg (by omega)];simp[addr_add]
    ·have:=Nat.mul_le_mul_right sz hi;rw[h j (by omega),List.getElem?_take];rw[if_pos r]
theorem l7 {t e:TypeId}{sz l c i:Nat}{A:Option Addr}{xs:List Value}(d:P.underlying t=some (.slice e))(g:bE P e=some sz)(hs:Sl w (.slice A l c) sz l xs)(hi:i≤l):∃ a b,sliced A i l c sz=.slice a (l - i) b∧Sl w (.slice a (l - i) b) sz (l - i) (xs.drop (i*sz)):=by
 have e:sliced A i l c sz=.slice (if c=i then A else A.map (·.add (i*sz))) (l - i) (c - i):=rfl;have h:=hs.sliceFrom (kk:=fun v _=>∃ a b,v=.slice a (l - i) b∧Sl w (.slice a (l - i) b) sz (l - i) (xs.drop (i*sz))) (kd:=.i64) (j:=(i:Int)) d g rfl hi (fun a b h=>⟨a,b,rfl,h⟩);unfold eY at h;obtain ⟨v,n,k,m⟩:=h;rw[run_sliceAt_slice w t _ _ _ _ (elemOf d),run_slice_l w t A l c (elemOf d) .i64 (i:Int) (by omega) (by omega),nD d,run_sizeOf g] at k;have f:Result.ok (sliced A (i:Int).toNat l c sz) w=Result.ok v n:=k;injection f with o p;rw[← o] at m;exact m
theorem Sl.cells {sz l c:Nat}{a:Addr}{xs:List Value}(hs:Sl w (.slice (some a) l c) sz l xs):∀ j u,xs[j]?=some u→w.cell? (a.add j)=some u:=fun j u hu=>by
 have b:=(List.getElem?_eq_some_iff.1 hu).1;have f:=hs.1;have g:0<l:=by
  rcases Nat.eq_zero_or_pos l with d | d
  ·subst d;simp at f;subst f;simp at b
  ·exact d
 obtain ⟨h,o',e⟩:=hs.A g;injection e with e;subst e;rw[addr_add,hs.cell j (by omega),hu]
theorem Hp.qX (H:Hp w0 F w L M){t e ty:TypeId}{z:Value}{sz b l m c:Nat}{A D:Option Addr}{xs d:List Value}{p:Array Bool}(T:qI P t e z sz b)(hs:Sl w (.slice A l l) sz l xs)(f:Sl w (.slice D m c) sz m d)(B:A=none→l=0)(hm:0<m)(C:(l+m)*b≤140737488355328)(E:l+m<1152921504606846976)(h:∀ g u w',Hp w0 F w' (own e sz (.slice (some ⟨g,0,none⟩) (l+m) u) (l+m) (xs++d)::L) M→kk (.slice (some ⟨g,0,none⟩) (l+m) u) w'):bV P .append #[t,t] ty p [.slice A l l,.slice D m c] w kk:=by
 obtain ⟨i,hi,v,q,G⟩:=T.parts;subst q;subst G;obtain ⟨y,o',rfl⟩:=f.A hm;have hlen:(xs++d).length=(l+m)*i.size:=by rw[List.length_append,hs.1,f.1,Nat.add_mul]
 have j:l+m≤maxLen:=by unfold maxLen;omega
 have o:=growslice_fits (need:=l+m) (old:=l) (by omega) C;have grown:∀ (old:Nat),old<l+m→
   Hp w0 F (w.drew.alloc (.cells (xs.toArray++d.toArray++Builtin.zeroCells z.cells (grownCap w (l+m) old e - (l+m))) e)) (own e i.size (.slice (some ⟨w.heap.size,0,none⟩) (l+m) (grownCap w (l+m) old e)) (l+m) (xs++d)::L) M:=by
  intro old J;have r:=grownCap_ge w (l+m) old e;have s:grownCap w (l+m) old e≤maxLen:=grownCap_le_maxLen w (l+m) old e j;refine H.add ((aS.drew w).trans (aS.alloc _ _) (fun _ _ h=>h)) _ ⟨hlen,.inr ⟨w.heap.size,_,_,rfl,Nat.zero_le _,heap_alloc_new w.drew _,r,s,?_,?_⟩⟩ ?_
  ·simp only[Array.size_append,List.size_toArray,size_zeroCells,T.zs,hs.1,f.1,← Nat.add_mul]
   congr 1
   omega
  ·simp only[Array.toList_append,List.append_assoc];rw[← List.append_assoc,← hlen];exact List.take_left
  ·intro x k;have k:some w.heap.size=some x:=k;injection k with k;subst k;exact ⟨Nat.le_refl _,by simp⟩
 rcases A with _ | a
 ·have I:=B rfl;subst I;have k:xs=[]:=List.eq_nil_of_length_eq_zero (by simpa using hs.1);subst k;have n:=grown 0 (by omega);rw[Nat.zero_add] at *;unfold bV;refine ⟨_,_,?_,h _ _ _ n⟩;show (do pure (.value (← Builtin.append_ #[t,t] ty #[.slice none 0 0,.slice (some ⟨y,o',none⟩) m c])):Sem Next).run P w=_;rw[Sem.run_bind,run_append_nil w t ty e i z T.und hi v _ m c d f.1 f.cells hm (by unfold maxLen at j;omega) (by omega)];simp[Result.andThen]
 ·have n:=grown l (by omega);unfold bV;refine ⟨_,_,?_,h _ _ _ n⟩;show (do pure (.value (← Builtin.append_ #[t,t] ty #[.slice (some a) l l,.slice (some ⟨y,o',none⟩) m c])):Sem Next).run P w=_;rw[Sem.run_bind,run_append_grow w t ty e i z T.und hi v a l l xs hs.1 hs.cells _ m c d f.1 f.cells (by omega) (by unfold maxLen at j;omega) o];rfl
end
end Go.Dk
namespace Go.Proofs.YtpjihhgjbbihkaaGreatDoor
open Go.Dk
theorem _root_.Go.Dk.Hp.b7 {w0 w:World}{F:Nat→Prop}{L L' M:List cH}(H:Hp w0 F w L M)(is:List Nat)(n:is.Nodup)(k:is.map (fun i=>L[i]?)=L'.map some):Hp w0 F w L' M:=by
 have a:∀ r ∈ L',r ∈ L:=fun r b=>by
  have:some r ∈ is.map (fun i=>L[i]?):=by rw[k];exact List.mem_map.2 ⟨r,b,rfl⟩
  obtain ⟨i,_,hi⟩:=List.mem_map.1 this;exact List.mem_of_getElem? hi
 have o:∀ (i j:Nat) (r s:cH),i≠j→L[i]?=some r→L[j]?=some s→∀ g,r.foot g→¬ s.foot g:=fun i j r s c hi p g l d=>by
  obtain ⟨e,rfl⟩:=List.getElem?_eq_some_iff.1 hi;obtain ⟨f,rfl⟩:=List.getElem?_eq_some_iff.1 p;rcases Nat.lt_or_gt_of_ne c with h | h
  ·exact List.pairwise_iff_getElem.1 H.dis i j e f h g l d
  ·exact List.pairwise_iff_getElem.1 H.dis j i f e h g d l
 refine ⟨H.keeps,fun r b=>H.ok r (a r b),fun r b=>H.lt r (a r b),fun r b=>H.new r (a r b),?_,H.rok,H.rlt,fun q t s hs=>H.rdis q t s (a s hs)⟩;have m:(is.map (fun i=>L[i]?)).Pairwise fun x y=>∀ r s:cH,x=some r→y=some s→∀ g,r.foot g→¬ s.foot g:=by
  rw[List.pairwise_map];exact (List.nodup_iff_pairwise_ne.1 n).imp fun c r s b hs=>o _ _ r s c b hs
 rw[k,List.pairwise_map] at m;exact m.imp fun h=>h _ _ rfl rfl
theorem _root_.Go.Dk.Hp.fp {P:Program}{w0 w:World}{F:Nat→Prop}{L M:List cH}{N:Nat}{ops:Array Oper}{K:Fr→World→Prop}{f:Fr}(H:Hp w0 F w L M)(L':List cH)(a:∀ u,Hp w0 F u L M→Hp w0 F u L' M)(b:P.follows .mixedOrders=true)(c:(Region.noSelect ops&&xT ops)=true)(h:∀ w',Hp w0 F w' L M→gQ P N (fun u=>Hp w0 F u L' M) ops K 0 ops.toList f w'):lk P N ops K f w:=
 gY (fun u=>Hp w0 F u L' M) b c (a _ (H.same (aS.drew _))) (h _ (H.same (aS.drew _)))
end Go.Proofs.YtpjihhgjbbihkaaGreatDoor
namespace Go.Proofs.YtpjihhgjbbihkaaGreatDoor
open Go.Proofs.Tryz
set_option maxRecDepth 100000
open Go.Dk
attribute [local irreducible] IntKind.wrap
theorem eO:Tryz.prog.follows .mixedOrders=true:=by kernel_rfl
def word (n i:Nat):Nat:=n / 2^(64*i) % 2^64
def sc (n:Nat):Array Value:=#[.int .u64 (word n 0:Int),.int .u64 (word n 1:Int),.int .u64 (word n 2:Int),.int .u64 (word n 3:Int)]
def sv (n:Nat):Value:=.agg (sc n)
theorem lx (n i:Nat):word n i<18446744073709551616:=Nat.mod_lt _ (by decide)
theorem ct (n i j:Nat):(word n i).testBit j=(decide (j<64)&&n.testBit (64*i+j)):=by
 unfold word;rw[Nat.testBit_mod_two_pow,Nat.testBit_div_two_pow,Nat.add_comm]
theorem kP (n i:Nat)(hi:i<4):(sc n)[i]?=some (.int .u64 (word n i:Int)):=by
 match i,hi with
 | 0,_=>rfl
 | 1,_=>rfl
 | 2,_=>rfl
 | 3,_=>rfl
theorem ta {cs:Array Value}{n:Nat}(hs:cs.size=4)(h:∀ i,i<4→cs[i]?=some (.int .u64 (word n i:Int))):cs=sc n:=by
 apply Array.ext_getElem?;intro i;by_cases hi:i<4
 ·rw[h i hi,kP n i hi]
 ·rw[Array.getElem?_eq_none (by omega),Array.getElem?_eq_none (by show 4≤i;omega)]
theorem aY:#[Value.int .u64 0,.int .u64 0,.int .u64 0,.int .u64 0]=sc 0:=ta rfl fun i hi=>by
 match i,hi with
 | 0,_=>rfl
 | 1,_=>rfl
 | 2,_=>rfl
 | 3,_=>rfl
theorem BC (n m i:Nat):word (n |||m) i=word n i |||word m i:=by
 apply Nat.eq_of_testBit_eq;intro j;rw[Nat.testBit_or,ct,ct,ct,Nat.testBit_or]
 cases decide (j<64) <;> simp
theorem Ee (p i:Nat):word (2^p) i=if p / 64=i then 2^(p % 64) else 0:=by
 apply Nat.eq_of_testBit_eq;intro j;rw[ct,Nat.testBit_two_pow];split
 ·rename_i h;subst h;rw[Nat.testBit_two_pow];by_cases a:j<64
  ·simp only[a,decide_true,Bool.true_and];rw[Bool.eq_iff_iff];simp;omega
  ·simp only[a,decide_false,Bool.false_and];have:p % 64≠j:=by omega
   simp[this]
 ·rename_i h;by_cases a:j<64
  ·have:¬ p=64*i+j:=by omega
   simp[this]
  ·simp[a]
theorem GN (n p:Nat)(_:p<256):(sc n).setIfInBounds (p / 64) (.int .u64 ((word n (p / 64) |||2^(p % 64):Nat):Int))=sc (n |||2^p):=by
 refine ta (by simp[sc]) fun i hi=>?_;rw[BC,Ee];by_cases h:p / 64=i
 ·subst h;rw[if_pos rfl,Array.getElem?_setIfInBounds_self_of_lt (by show p / 64<4;omega)]
 ·rw[if_neg h,Array.getElem?_setIfInBounds_ne h,kP n i hi,Nat.or_zero]
theorem fx (n:Nat):∀ v ∈ (sc n).toList,v.oneCell'=true:=by
 intro v a;simp[sc] at a;rcases a with rfl | rfl | rfl | rfl <;> rfl
def Ef (p:Int):Bool:=decide (0≤p)&&decide (p<256)
theorem Je:enters prog 102=true:=by kernel_rfl
theorem Ly (p:Int)(w:World):bw prog 102 [.int .i64 p] w fun v w'=>v=.bool (Ef p)∧w'=w:=by
 refine ar (N:=9) func102 Je rfl rfl rfl (by simp) ?_;refine aE (fun h=>?_) (fun h=>?_)
 ·refine ag h ?_;refine ag h ?_;refine ⟨?_,rfl⟩;have a:decide (0≤p)=true:=h;simp only[Ef,a,Bool.true_and];rfl
 ·refine af h ?_;refine af h ?_;refine ⟨?_,rfl⟩;have a:decide (0≤p)=false:=h;simp only[Ef,a,Bool.false_and];rfl
theorem Jf:enters prog 103=true:=by kernel_rfl
theorem Lz (p:Nat)(a:p<256)(w:World):bw prog 103 [.int .i64 (p:Int)] w fun v w'=>v=.tuple #[.int .i64 ((p / 64:Nat):Int),.int .u64 ((2^(p % 64):Nat):Int)]∧aT w w':=by
 refine ar (N:=9) func103 Jf rfl rfl rfl (by simp) ?_;refine gY (fun _=>True) eO (by kernel_rfl) trivial ?_;refine quiet (.int .i64 ((p / 64:Nat):Int)) (fun w _=>nv (by omega) (by omega) (by omega) ⟨by simp,rfl⟩) ?_;refine quiet (.int .i64 ((p % 64:Nat):Int)) (fun w _=>nw (by omega) (by omega) ⟨by simp,rfl⟩) ?_;refine quiet (.int .u64 ((2^(p % 64):Nat):Int)) (fun w _=>xY (x:=1) (n:=p % 64) (by omega) ?_ ⟨by simp,rfl⟩) ?_
 ·have:2^(p % 64)<2^64:=Nat.pow_lt_pow_right (by decide) (by omega);omega
 exact ⟨rfl,aS.drew w⟩
theorem br:eL prog 86=some (.agg #[.int .u64 0,.int .u64 0,.int .u64 0,.int .u64 0]):=by kernel_rfl
theorem aD:cP prog 86=some true:=by kernel_rfl
theorem av:bE prog 86=some 4:=by kernel_rfl
theorem tc:cP prog 81=some false:=by kernel_rfl
theorem js:bE prog 81=some 1:=by kernel_rfl
theorem LA:enters prog 76=true:=by kernel_rfl
theorem pZ (n p:Nat)(a:p<256)(w:World):bw prog 76 [sv n,.int .i64 (p:Int)] w fun v w'=>v=sv (n |||2^p)∧aT w w':=by
 refine ar (N:=21) func76 LA rfl rfl rfl (by simp) ?_;have H:=Hp.aC w;refine H.box 86 (sv n) (cs:=sc n) rfl ?_;intro g1 d H;refine H.alloc 86 (cs:=sc 0) br aY ?_;intro g2 e H;refine aj (Ly _ _) ?_;rintro v b ⟨rfl,rfl⟩;refine ag (by simp[Ef];omega) ?_;refine aj (Lz p a _) ?_;rintro v f ⟨rfl,c⟩;have H:=H.same c;refine aK underlying86 js (p / 64) rfl (by omega) (o':=p / 64) (by omega) ?_;refine H.load 1 rfl tc (kP n (p / 64) (by omega)) ?_;refine sU (lx _ _) ?_ ?_
 ·have:2^(p % 64)<2^64:=Nat.pow_lt_pow_right (by decide) (by omega);omega
 refine aK underlying86 js (p / 64) rfl (by omega) (o':=p / 64) (by omega) ?_;refine H.store 1 rfl js (by show p / 64<4;omega) rfl ?_;rw[GN n p a];intro g H;refine H.ai 1 rfl aD av ?_;refine H.storeAll 0 rfl av rfl (fx _) ?_;intro h H;refine H.ai 0 rfl aD av ?_;exact ⟨rfl,rfl,H.keeps⟩
theorem Eg (n m i:Nat):word (n &&&m) i=word n i &&&word m i:=by
 apply Nat.eq_of_testBit_eq;intro j;rw[Nat.testBit_and,ct,ct,ct,Nat.testBit_and]
 cases decide (j<64) <;> simp
theorem CA {n:Nat}(a:n<2^256)(m i:Nat):word (bU n m) i=word n i &&&(18446744073709551615 - word m i):=by
 apply Nat.eq_of_testBit_eq;intro j;have e:(18446744073709551615 - word m i:Nat)=2^64 - (word m i+1):=by have:=lx m i;omega
 rw[Nat.testBit_and,ct,ct,e,Nat.testBit_two_pow_sub_succ (lx m i),ct,bX a];by_cases b:j<64 <;> simp[b]
theorem Eh {n m:Nat}(a:n<2^256)(hm:m<2^256)(h:∀ i,i<4→word n i=word m i):n=m:=by
 refine n_ a hm fun p b=>?_;have:=congrArg (fun x=>Nat.testBit x (p % 64)) (h (p / 64) (by omega));simp only[ct] at this;have e:64*(p / 64)+p % 64=p:=by omega
 have hm:p % 64<64:=by omega
 simpa [hm,e] using this
theorem LB:enters prog 83=true:=by kernel_rfl
theorem NM (a b r:Nat)(g:FuncId)(op:Nat→Nat→Nat)(_:∀ x y:Nat,x<18446744073709551616→y<18446744073709551616→op x y<18446744073709551616)(k:∀ i,i<4→word r i=op (word a i) (word b i))(l:∀ x y:Nat,x<18446744073709551616→y<18446744073709551616→∀ w,bw prog g [.int .u64 (x:Int),.int .u64 (y:Int)] w fun v w'=>v=.int .u64 (op x y:Int)∧aT w w')(w:World) :
  bw prog 83 [sv a,sv b,.func (.func g) #[] #[]] w fun v w'=>v=sv r∧aT w w':=by
 refine ar (N:=24) func83 LB rfl rfl rfl (by simp) ?_;have H:=Hp.aC w;refine H.box 86 (sv a) (cs:=sc a) rfl ?_;intro g1 o H;refine H.box 86 (sv b) (cs:=sc b) rfl ?_;intro g2 p H;refine H.alloc 86 (cs:=sc 0) br aY ?_;intro g3 q H;refine H.alloc 86 (cs:=sc 0) br aY ?_;intro g4 s H;refine ax (γ:=Nat) (fun i=>[(9,.int .i64 (i:Int))])
  (fun i w'=>i≤4∧∃ cs:Array Value,cs.size=4∧(∀ j,j<i→cs[j]?=some (.int .u64 (word r j:Int)))∧Hp w ab w' [an g4 86 cs,an g3 86 (sc 0),an g2 86 (sc b),an g1 86 (sc a)] [])
  (fun i=>4 - i) 0 ⟨rfl,trivial⟩ ⟨by omega,sc 0,rfl,by omega,H⟩ ?_
 clear H;rintro i u t ⟨hi,cs,e,d,H⟩;refine aE (fun h=>?_) (fun h=>?_)
 ·have c:i<4:=by have:=of_decide_eq_true h;omega
  refine gY (fun w'=>Hp w ab w' [an g4 86 cs,an g3 86 (sc 0),an g2 86 (sc b),an g1 86 (sc a)] []) eO (by kernel_rfl) (H.same (aS.drew _)) ?_;refine quiet (.pointer (some ⟨g1,i,none⟩)) (fun w _=>aK underlying86 js i rfl c (by omega) ae) ?_;refine quiet (.int .u64 (word a i:Int)) (fun w H=>H.load 3 rfl tc (kP a i c) ae) ?_;refine quiet (.pointer (some ⟨g2,i,none⟩)) (fun w _=>aK underlying86 js i rfl c (by omega) ae) ?_;refine quiet (.int .u64 (word b i:Int)) (fun w H=>H.load 2 rfl tc (kP b i c) ae) ?_;refine aj (l _ _ (lx _ _) (lx _ _) _) ?_;rintro v m ⟨rfl,n⟩;have H:=(H.same (aS.drew _)).same n;refine ⟨.inl H,?_⟩;refine quiet (.pointer (some ⟨g4,i,none⟩)) (fun w _=>aK underlying86 js i rfl c (by omega) ae) ?_;refine H.store 0 rfl js (by omega) rfl ?_;intro z H;refine ⟨.inr (by kernel_rfl),?_⟩;refine ⟨i+1,by omega,⟨congrArg (Value.int .i64) (aH (by omega) (by omega)),trivial⟩,by omega,_,?_,?_,H⟩
  ·simpa using e
  ·intro j A;by_cases f:j=i
   ·subst f;rw[Array.getElem?_setIfInBounds_self_of_lt (by omega),k j c]
   ·rw[Array.getElem?_setIfInBounds_ne (Ne.symm f)];exact d j (by omega)
 ·have c:i=4:=by have:=of_decide_eq_false h;omega
  subst c;obtain rfl:=ta e d;refine H.ai 0 rfl aD av ?_;refine H.storeAll 1 rfl av rfl (fx _) ?_;intro m H;refine H.ai 1 rfl aD av ?_;exact ⟨rfl,rfl,H.keeps⟩
theorem Jg:enters prog 105=true:=by kernel_rfl
theorem c105 (x y:Nat)(a:x<18446744073709551616)(b:y<18446744073709551616)(w:World):bw prog 105 [.int .u64 (x:Int),.int .u64 (y:Int)] w fun v w'=>v=.int .u64 ((x |||y:Nat):Int)∧aT w w':=by
 refine ar (N:=8) func105 Jg rfl rfl rfl (by simp) ?_;refine sU a b ?_;exact ⟨rfl,aS.refl _ _⟩
theorem LC:enters prog 84=true:=by kernel_rfl
theorem OX (x y:Nat)(a:x<18446744073709551616)(b:y<18446744073709551616)(w:World):bw prog 84 [.int .u64 (x:Int),.int .u64 (y:Int)] w fun v w'=>v=.int .u64 ((x &&&y:Nat):Int)∧aT w w':=by
 refine ar (N:=8) func84 LC rfl rfl rfl (by simp) ?_;refine rJ a b ?_;exact ⟨rfl,aS.refl _ _⟩
theorem Jh:enters prog 104=true:=by kernel_rfl
theorem NN (x y:Nat)(a:x<18446744073709551616)(b:y<18446744073709551616)(w:World):bw prog 104 [.int .u64 (x:Int),.int .u64 (y:Int)] w fun v w'=>v=.int .u64 ((x &&&(18446744073709551615 - y):Nat):Int)∧aT w w':=by
 refine ar (N:=8) func104 Jh rfl rfl rfl (by simp) ?_;refine sV a b ?_;exact ⟨rfl,aS.refl _ _⟩
theorem LD:enters prog 81=true:=by kernel_rfl
theorem LF (a b:Nat)(w:World):bw prog 81 [sv a,sv b] w fun v w'=>v=sv (a |||b)∧aT w w':=by
 refine ar (N:=8) func81 LD rfl rfl rfl (by simp) ?_;have H:=Hp.aC w;refine H.box 86 (sv a) (cs:=sc a) rfl ?_;intro g1 f H;refine H.box 86 (sv b) (cs:=sc b) rfl ?_;intro g2 g H;refine H.alloc 86 (cs:=sc 0) br aY ?_;intro g3 h H;refine H.ai 2 rfl aD av ?_;refine H.ai 1 rfl aD av ?_;refine aj (NM a b (a |||b) 105 (· |||·) (fun x y c d=>Nat.or_lt_two_pow (n:=64) c d) (fun i _=>BC a b i) c105 _) ?_;rintro v j ⟨rfl,e⟩;have H:=H.same e;refine H.storeAll 0 rfl av rfl (fx _) ?_;intro k H;refine H.ai 0 rfl aD av ?_;exact ⟨rfl,rfl,H.keeps⟩
theorem LG:enters prog 53=true:=by kernel_rfl
theorem c53 (a b:Nat)(w:World):bw prog 53 [sv a,sv b] w fun v w'=>v=sv (a &&&b)∧aT w w':=by
 refine ar (N:=8) func53 LG rfl rfl rfl (by simp) ?_;have H:=Hp.aC w;refine H.box 86 (sv a) (cs:=sc a) rfl ?_;intro g1 e H;refine H.box 86 (sv b) (cs:=sc b) rfl ?_;intro g2 f H;refine H.alloc 86 (cs:=sc 0) br aY ?_;intro g3 g H;refine H.ai 2 rfl aD av ?_;refine H.ai 1 rfl aD av ?_;refine aj (NM a b (a &&&b) 84 (· &&&·) (fun x y c _=>Nat.lt_of_le_of_lt Nat.and_le_left c) (fun i _=>Eg a b i) OX _) ?_;rintro v h ⟨rfl,d⟩;have H:=H.same d;refine H.storeAll 0 rfl av rfl (fx _) ?_;intro j H;refine H.ai 0 rfl aD av ?_;exact ⟨rfl,rfl,H.keeps⟩
theorem LH:enters prog 78=true:=by kernel_rfl
theorem ND (a b:Nat)(c:a<2^256)(w:World):bw prog 78 [sv a,sv b] w fun v w'=>v=sv (bU a b)∧aT w w':=by
 refine ar (N:=8) func78 LH rfl rfl rfl (by simp) ?_;have H:=Hp.aC w;refine H.box 86 (sv a) (cs:=sc a) rfl ?_;intro g1 f H;refine H.box 86 (sv b) (cs:=sc b) rfl ?_;intro g2 g H;refine H.alloc 86 (cs:=sc 0) br aY ?_;intro g3 h H;refine H.ai 2 rfl aD av ?_;refine H.ai 1 rfl aD av ?_;refine aj (NM a b (bU a b) 104 (fun x y=>x &&&(18446744073709551615 - y)) (fun x y d _=>Nat.lt_of_le_of_lt Nat.and_le_left d) (fun i _=>CA c b i) NN _) ?_;rintro v j ⟨rfl,e⟩;have H:=H.same e;refine H.storeAll 0 rfl av rfl (fx _) ?_;intro k H;refine H.ai 0 rfl aD av ?_;exact ⟨rfl,rfl,H.keeps⟩
theorem Ei (n p:Nat):decide ((0:Int)<((word n (p / 64) &&&2^(p % 64):Nat):Int))=n.testBit p:=by
 have e:64*(p / 64)+p % 64=p:=by omega
 have b:(word n (p / 64)).testBit (p % 64)=n.testBit p:=by
  rw[ct,e];have:p % 64<64:=by omega
  simp[this]
 rw[← b];by_cases h:(word n (p / 64)).testBit (p % 64)=true
 ·rw[h];have:word n (p / 64) &&&2^(p % 64)≠0:=by
   intro c;have:=congrArg (fun x=>Nat.testBit x (p % 64)) c;simp[Nat.testBit_and,h,Nat.testBit_two_pow_self] at this
  simp;omega
 ·simp only[Bool.not_eq_true] at h;rw[h];have:word n (p / 64) &&&2^(p % 64)=0:=by
   apply Nat.eq_of_testBit_eq;intro j;rw[Nat.testBit_and,Nat.testBit_two_pow,Nat.zero_testBit];by_cases a:p % 64=j
   ·subst a;simp[h]
   ·simp[a]
  simp[this]
theorem Ji:enters prog 110=true:=by kernel_rfl
theorem yf (n p:Nat)(a:p<256)(w:World):bw prog 110 [sv n,.int .i64 (p:Int)] w fun v w'=>v=.bool (n.testBit p)∧aT w w':=by
 refine ar (N:=21) func110 Ji rfl rfl rfl (by simp) ?_;have H:=Hp.aC w;refine H.box 86 (sv n) (cs:=sc n) rfl ?_;intro g1 d H;refine aj (Ly _ _) ?_;rintro v b ⟨rfl,rfl⟩;refine af (by simp[Ef];omega) ?_;refine aj (Lz p a _) ?_;rintro v e ⟨rfl,c⟩;have H:=H.same c;refine aK underlying86 js (p / 64) rfl (by omega) (o':=p / 64) (by omega) ?_;refine H.load 0 rfl tc (kP n (p / 64) (by omega)) ?_;refine rJ (lx _ _) ?_ ?_
 ·have:2^(p % 64)<2^64:=Nat.pow_lt_pow_right (by decide) (by omega);omega
 exact ⟨congrArg Value.bool (Ei n p),H.keeps⟩
theorem dH:qI prog 75 3 (.int .i64 0) 1 8:=⟨underlying75,by kernel_rfl,rfl,by decide⟩
theorem aF:cP prog 3=some false:=by kernel_rfl
theorem bc:bE prog 3=some 1:=by kernel_rfl
def ints (l:List Nat):List Value:=l.map fun (p:Nat)=>Value.int .i64 (p:Int)
theorem eP {l:List Nat}{i:Nat}(hi:i<l.length):(ints l)[i]?=some (.int .i64 (l[i]:Int)):=by simp[ints,hi]
theorem Jj:enters prog 113=true:=by kernel_rfl
theorem Ej (n:Nat)(w:World):bw prog 113 [sv n] w fun v w'=>∃ A c,v=.slice A (cI n).length c∧eE w w' (own 3 1 (.slice A (cI n).length c) (cI n).length (ints (cI n))):=by
 refine ar (N:=17) func113 Jj rfl rfl rfl (by simp) ?_;have H:=Hp.aC w;refine H.box 86 (sv n) (cs:=sc n) rfl ?_;intro g1 l H;have H:=H.bx 3 1;refine ax (γ:=Nat × Option Addr × Nat) (fun (i,A,c)=>[(5,.int .i64 (i:Int)),(3,.slice A (aN n i).length c)])
  (fun (i,A,c) w'=>i≤256∧Hp w ab w' [own 3 1 (.slice A (aN n i).length c) (aN n i).length (ints (aN n i)),an g1 86 (sc n)] [])
  (fun (i,_,_)=>256 - i) (0,none,0) ⟨rfl,rfl,trivial⟩ ⟨by decide,H⟩ ?_
 clear H;rintro ⟨i,A,c⟩ u m ⟨hi,H⟩;refine aE (fun h=>?_) (fun h=>?_)
 ·have a:i<256:=by have:=of_decide_eq_true h;omega
  refine H.ai 1 rfl aD av ?_;refine aj (yf n i a _) ?_;rintro v o ⟨rfl,j⟩;have H:=H.same j;have p:=eK n i;refine aE (fun b=>?_) (fun b=>?_)
  ·refine H.aX dH rfl ?_;intro g2 q H;refine H.cn 0 dH rfl rfl (by omega) (by omega) ?_;intro d f r H;have e:aN n (i+1)=aN n i++[i]:=by rw[iD,if_pos b]
   have g:(aN n (i+1)).length=(aN n i).length+1:=by rw[e];simp
   have k:ints (aN n (i+1))=ints (aN n i)++[.int .i64 (i:Int)]:=by rw[e];simp[ints]
   refine ⟨(i+1,d,f),by show 256 - (i+1)<256 - i;omega,⟨congrArg (Value.int .i64) (aH (by omega) (by omega)),by rw[g];rfl,trivial⟩,by show i+1≤256;omega,?_⟩;show Hp w _ _ [own 3 1 (.slice d (aN n (i+1)).length f) (aN n (i+1)).length (ints (aN n (i+1))),_] [];rw[g,k];exact H
  ·have e:aN n (i+1)=aN n i:=by rw[iD,b];simp
   refine ⟨(i+1,A,c),by show 256 - (i+1)<256 - i;omega,⟨congrArg (Value.int .i64) (aH (by omega) (by omega)),by rw[e];rfl,trivial⟩,by show i+1≤256;omega,?_⟩;show Hp w _ _ [own 3 1 (.slice A (aN n (i+1)).length c) (aN n (i+1)).length (ints (aN n (i+1))),_] [];rw[e];exact H
 ·have a:i=256:=by have:=of_decide_eq_false h;omega
  subst a;exact ⟨A,c,rfl,H.out⟩
theorem gv {P:Program}{t:TypeId}(h:cP P t=some false){cs:Array Value}{o:Nat}{v:Value}(a:cs[o]?=some v)(w:World):(part t cs o).run P w=.ok v w:=by
 simp[part,qW h,a]
theorem dN {P:Program}{t:TypeId}{k:IntKind}(h:P.underlying t=some (.int k))(d:Nat)(a b:Int)(w:World):(Op.equalIn (d+1) t (.int k a) (.int k b)).run P w=.ok (a==b) w:=by
 simp[Op.equalIn,run_underlying h]
theorem IG:Tryz.prog.eqGuardType Tryz.prog.depth 86=false:=by kernel_rfl
theorem yg (a b:Nat)(c:a<2^256)(e:b<2^256)(w:World):(Op.equal 86 (sv a) (sv b)).run prog w=.ok (a==b) w:=by
 have f:∀ (n i:Nat),i<4→∀ w,(part 81 (sc n) i).run prog w=.ok (.int .u64 (word n i:Int)) w:=fun n i hi w=>gv tc (kP n i hi) w;have he:(a==b)=((word a 0:Int)==(word b 0:Int)&&((word a 1:Int)==(word b 1:Int)&&((word a 2:Int)==(word b 2:Int)&&(word a 3:Int)==(word b 3:Int)))):=by
  rw[Bool.eq_iff_iff];simp only[beq_iff_eq,Bool.and_eq_true,Int.natCast_inj];constructor
  ·rintro rfl;simp
  ·rintro ⟨g,h,j,k⟩;refine Eh c e fun i hi=>?_
   match i,hi with
   | 0,_=>exact g
   | 1,_=>exact h
   | 2,_=>exact j
   | 3,_=>exact k
 have l:∀ d,(Op.equalIn (d+2) 86 (.agg (sc a)) (.agg (sc b))).run prog w=.ok (a==b) w:=by
  intro d;rw[he];rw[Op.equalIn];simp only[Sem.run_bind,run_underlying underlying86,Result.andThen_ok,Go.Dk.run_sizeOf js];have i0:=dN underlying81 d (word a 0:Int) (word b 0:Int);have i1:=dN underlying81 d (word a 1:Int) (word b 1:Int);have i2:=dN underlying81 d (word a 2:Int) (word b 2:Int);have i3:=dN underlying81 d (word a 3:Int) (word b 3:Int);generalize ((word a 0:Int)==(word b 0:Int))=b0 at *;generalize ((word a 1:Int)==(word b 1:Int))=b1 at *;generalize ((word a 2:Int)==(word b 2:Int))=b2 at *;generalize ((word a 3:Int)==(word b 3:Int))=b3 at*
  cases b0 <;> cases b1 <;> cases b2 <;> cases b3 <;>
   simp[Std.Legacy.Range.forIn_eq_forIn_range',List.range',f,i0,i1,i2,i3,Std.Legacy.Range.size]
 have:=l 9998;exact this
theorem fI {a b:Nat}(c:a<2^256)(d:b<2^256){xo yo:Operand}{w:World}{kk:Value→World→Prop}(h:kk (.bool (a==b)) w):cW prog .eql 86 xo yo (sv a) (sv b) w kk:=
 rK IG (yg a b c d) h
theorem CB {a b:Nat}(c:a<2^256)(d:b<2^256){xo yo:Operand}{w:World}{kk:Value→World→Prop}(h:kk (.bool (a !=b)) w):cW prog .neq 86 xo yo (sv a) (sv b) w kk:=
 x3 IG (yg a b c d) h
theorem ov {w:World}{kk:Value→World→Prop}(h:kk (sv 0) w):b8 prog 86 [] w kk:=by
 refine bt (v:=.agg #[.int .u64 0,.int .u64 0,.int .u64 0,.int .u64 0]) (fun w=>by kernel_rfl) ?_;rw[aY];exact h
theorem LI:enters prog 85=true:=by kernel_rfl
theorem c85 (a b:Nat)(c:a<2^256)(w:World):bw prog 85 [sv a,sv b] w fun v w'=>v=.bool (bU a b==0)∧aT w w':=by
 refine ar (N:=10) func85 LI rfl rfl rfl (by simp) ?_;have H:=Hp.aC w;refine H.box 86 (sv a) (cs:=sc a) rfl ?_;intro g1 e H;refine H.box 86 (sv b) (cs:=sc b) rfl ?_;intro g2 f H;refine H.ai 1 rfl aD av ?_;refine H.ai 0 rfl aD av ?_;refine aj (ND a b c _) ?_;rintro v g ⟨rfl,d⟩;have H:=H.same d;refine ov ?_;refine fI (pM _ _) (by decide) ?_;exact ⟨rfl,H.keeps⟩
theorem Jk:enters prog 177=true:=by kernel_rfl
theorem yh (n i:Nat)(one:Bool)(hi:i<8)(w:World):bw prog 177 [sv n,.int .i64 (i:Int),.bool one] w fun v w'=>v=sv (cK n i one)∧aT w w':=by
 refine ar (N:=36) func177 Jk rfl rfl rfl (by simp) ?_;have H:=Hp.aC w;refine H.box 86 (sv n) (cs:=sc n) rfl ?_;intro g1 r H;refine H.alloc 86 (cs:=sc 0) br aY ?_;intro g2 s H;refine H.alloc 86 (cs:=sc 0) br aY ?_;intro g3 t H;have d:decide ((i:Int)<0)=false:=by simp
 refine af d ?_;refine af d ?_;refine af d ?_;refine af (by simp;omega) ?_;refine H.ai 2 rfl aD av ?_;refine aj (Ej n _) ?_;rintro v x ⟨A,c,rfl,k⟩;have H:=H.bq k;refine ay underlying75 ?_;refine ax (γ:=Nat) (fun j=>[(20,.int .i64 (j:Int))])
  (fun j w'=>j≤(cI n).length∧Hp w ab w' [own 3 1 (.slice A (cI n).length c) (cI n).length (ints (cI n)),an g3 86 (sc (fW (((cI n).take j).filter fun p=>p.testBit i==one))),an g2 86 (sc 0),an g1 86 (sc n)] [])
  (fun j=>(cI n).length - j) 0 ⟨rfl,trivial⟩ ⟨by omega,H⟩ ?_
 clear H k;rintro j u y ⟨z,H⟩;refine aE (fun h=>?_) (fun h=>?_)
 ·have a:j<(cI n).length:=by have:=of_decide_eq_true h;omega
  obtain ⟨g,rfl⟩:=H.lY 0 rfl (by omega);have m:(cI n)[j]<256:=(ck.1 (List.getElem_mem a)).1;have l:(cI n).take (j+1)=(cI n).take j++[(cI n)[j]]:=(List.take_append_getElem a).symm;refine ao underlying75 bc j rfl a (by omega) (o':=j) ?_;refine H.ec 0 rfl aF (eP a) ?_;refine iz (by omega) ?_;refine iy (b:=1) (Nat.lt_of_le_of_lt (Nat.div_le_self _ _) (by omega)) (by omega) ?_;refine wb underlying4 ?_;rw[cG];refine aE (fun f=>?_) (fun f=>?_)
  ·refine H.ai 1 rfl aD av ?_;refine aj (pZ _ _ m _) ?_;rintro v o ⟨rfl,q⟩;have H:=H.same q;refine H.storeAll 1 rfl av rfl (fx _) ?_;intro B H;refine ⟨j+1,by omega,⟨congrArg (Value.int .i64) (aH (by omega) (by have:=eK n 256;simp only[cI] at a;omega)),trivial⟩,by omega,?_⟩;have e:((cI n).take (j+1)).filter (fun p=>p.testBit i==one)=((cI n).take j).filter (fun p=>p.testBit i==one)++[(cI n)[j]]:=by
    rw[l,List.filter_append,List.filter_cons,f,List.filter_nil];rfl
   rw[e,kF];exact H
  ·refine ⟨j+1,by omega,⟨congrArg (Value.int .i64) (aH (by omega) (by have:=eK n 256;simp only[cI] at a;omega)),trivial⟩,by omega,?_⟩;have e:((cI n).take (j+1)).filter (fun p=>p.testBit i==one)=((cI n).take j).filter (fun p=>p.testBit i==one):=by
    rw[l,List.filter_append,List.filter_cons,f,List.filter_nil];simp
   rw[e];exact H
 ·have a:j=(cI n).length:=by have:=of_decide_eq_false h;omega
  subst a;refine H.ai 1 rfl aD av ?_;refine H.storeAll 2 rfl av rfl (fx _) ?_;intro o H;refine H.ai 2 rfl aD av ?_;refine ⟨rfl,?_,H.keeps⟩;rw[List.take_length,← DP];rfl
theorem LJ:enters prog 50=true:=by kernel_rfl
theorem ow (n:Nat)(c:n≤8)(w:World):bw prog 50 [.int .i64 (n:Int)] w fun v w'=>v=.tuple #[sv (bp n),.int .i64 0]∧aT w w':=by
 refine ar (N:=23) func50 LJ rfl rfl rfl (by simp) ?_;have H:=Hp.aC w;refine H.alloc 86 (cs:=sc 0) br aY ?_;intro g1 f H;have b:decide ((n:Int)<0)=false:=by simp
 refine af b ?_;refine af b ?_;refine af b ?_;refine af (by simp;omega) ?_;refine H.alloc 86 (cs:=sc 0) br aY ?_;intro g2 g H;have i:2^n≤2^8:=Nat.pow_le_pow_right (by decide) c;refine ny (x:=1) (n:=n) (by omega) (by omega) ?_;rw[Nat.one_mul];refine ax (γ:=Nat) (fun j=>[(15,.int .i64 (j:Int))])
  (fun j w'=>j≤2^n∧Hp w ab w' [an g2 86 (sc (fW (List.range j))),an g1 86 (sc 0)] [])
  (fun j=>2^n - j) 0 ⟨rfl,trivial⟩ ⟨Nat.zero_le _,H⟩ ?_
 clear H;rintro j u k ⟨l,H⟩;refine aE (fun h=>?_) (fun h=>?_)
 ·have a:j<2^n:=by have:=of_decide_eq_true h;omega
  refine H.ai 0 rfl aD av ?_;refine aj (pZ _ j (by omega) _) ?_;rintro v d ⟨rfl,e⟩;have H:=H.same e;refine H.storeAll 0 rfl av rfl (fx _) ?_;intro m H;refine ⟨j+1,by omega,⟨congrArg (Value.int .i64) (aH (by omega) (by omega)),trivial⟩,by omega,?_⟩;rw[List.range_succ,kF];exact H
 ·have a:j=2^n:=by have:=of_decide_eq_false h;omega
  subst a;refine H.ai 0 rfl aD av ?_;refine H.storeAll 1 rfl av rfl (fx _) ?_;intro d H;refine H.ai 1 rfl aD av ?_;refine ⟨rfl,?_,H.keeps⟩;rw[Gx n c];rfl
theorem up {i:Nat}(hi:i<4611686018427387904):Value.int .i64 (IntKind.i64.wrap ((i:Int)+1))=Value.int .i64 ((i+1:Nat):Int):=
 congrArg (Value.int .i64) (aH (by omega) (by omega))
theorem LK:enters prog 34=true:=by kernel_rfl
theorem NO (n:Nat)(d:n≤63)(w:World):bw prog 34 [.int .i64 (n:Int)] w fun v w'=>v=.int .u64 ((2^n:Nat):Int)∧aT w w':=by
 refine ar (N:=13) func34 LK rfl rfl rfl (by simp) ?_;refine ax (γ:=Nat) (fun i=>[(4,.int .i64 (i:Int)),(3,.int .u64 ((2^i:Nat):Int))]) (fun i w'=>i≤n∧w'=w) (fun i=>n - i) 0 ⟨rfl,rfl,trivial⟩ ⟨by omega,rfl⟩ ?_;rintro i u w' ⟨hi,rfl⟩;refine aE (fun h=>?_) (fun h=>?_)
 ·have a:i<n:=by have:=of_decide_eq_true h;omega
  refine ⟨i+1,by omega,⟨up (by omega),congrArg (Value.int .u64) ?_,trivial⟩,by omega,rfl⟩;have b:2^(i+1)≤2^63:=Nat.pow_le_pow_right (by decide) (by omega);have c:2^(i+1)=2^i*2:=Nat.pow_succ ..;rw[c] at b ⊢;generalize 2^i=q at *;rw[jO (by omega) (by omega)];omega
 ·have:i=n:=by have:=of_decide_eq_false h;omega
  subst this;exact ⟨rfl,aS.refl _ _⟩
theorem LL:enters prog 65=true:=by kernel_rfl
theorem OK (p i:Nat)(b:p<9223372036854775808)(hi:i≤62)(w:World):bw prog 65 [.int .i64 (p:Int),.int .i64 (i:Int)] w fun v w'=>v=.int .i64 ((p / 2^i % 2:Nat):Int)∧aT w w':=by
 refine ar (N:=11) func65 LL rfl rfl rfl (by simp) ?_;refine aj (NO i (by omega) _) ?_;rintro v c ⟨rfl,a⟩;have d:2^i≤2^62:=Nat.pow_le_pow_right (by decide) hi;have e:0<2^i:=Nat.two_pow_pos i;refine jP (by kernel_rfl) underlying3 ?_;rw[aH (by omega) (by omega)];refine nv (by omega) (by omega) (by omega) ?_;refine nw (Int.ediv_nonneg (by omega) (by omega)) (by omega) ?_;exact ⟨congrArg (Value.int .i64) (by simp),a⟩
theorem Jl:qI prog 37 4 (.bool false) 1 1:=⟨underlying37,by kernel_rfl,rfl,by decide⟩
theorem wm:cP prog 4=some false:=by kernel_rfl
theorem iN:bE prog 4=some 1:=by kernel_rfl
def ig (l:List Bool):List Value:=l.map Value.bool
theorem GO {l:List Bool}{i:Nat}(hi:i<l.length):(ig l)[i]?=some (.bool l[i]):=by simp[ig,hi]
def ly (n k:Nat):List Bool:=(List.range k).map fun p=>n.testBit p
abbrev j0 (n:Nat):List Bool:=ly n 256
theorem wo (n k:Nat):ly n (k+1)=ly n k++[n.testBit k]:=by simp[ly,List.range_succ]
theorem jt {n p:Nat}(a:p<256):(ig (j0 n))[p]?=some (.bool (n.testBit p)):=by simp[ig,j0,ly,a]
theorem yi {x y:Nat}(a:0<y){t:TypeId}{xo yo:Operand}{w:World}{kk:Value→World→Prop}{P:Program}(h:kk (.int .u64 ((x % y:Nat):Int)) w):cW P .rem t xo yo (.int .u64 (x:Int)) (.int .u64 (y:Int)) w kk:=
 v_ (by omega) (by rw[Int.tmod_eq_emod_of_nonneg (by omega)];simpa using h)
theorem yj {x y:Nat}(a:x<18446744073709551616)(b:0<y){t:TypeId}{xo yo:Operand}{w:World}{kk:Value→World→Prop}{P:Program}(h:kk (.int .u64 ((x / y:Nat):Int)) w):cW P .quo t xo yo (.int .u64 (x:Int)) (.int .u64 (y:Int)) w kk:=
 v7 (by omega) (by
  rw[Int.tdiv_eq_ediv_of_nonneg (by omega),jO (Int.ediv_nonneg (by omega) (by omega)) (by
   have:((x / y:Nat):Int)=(x:Int) / y:=by simp
   have c:x / y≤x:=Nat.div_le_self x y;omega)]
  simpa using h)
theorem LM:enters prog 43=true:=by kernel_rfl
theorem NP (n:Nat)(w:World):bw prog 43 [sv n] w fun v w'=>∃ A c,v=.slice A 256 c∧eE w w' (own 4 1 (.slice A 256 c) 256 (ig (j0 n))):=by
 refine ar (N:=27) func43 LM rfl rfl rfl (by simp) ?_;have H:=Hp.aC w;refine H.box 86 (sv n) (cs:=sc n) rfl ?_;intro g1 j H;have H:=H.bx 4 1;refine ax (γ:=Nat × Option Addr × Nat) (fun (i,A,c)=>[(4,.int .i64 (i:Int)),(3,.slice A (64*i) c)])
  (fun (i,A,c) w'=>i≤4∧Hp w ab w' [own 4 1 (.slice A (64*i) c) (64*i) (ig (ly n (64*i))),an g1 86 (sc n)] [])
  (fun (i,_,_)=>4 - i) (0,none,0) ⟨rfl,rfl,trivial⟩ ⟨by decide,H⟩ ?_
 clear H;rintro ⟨i,A,c⟩ u l ⟨hi,H⟩;refine aE (fun h=>?_) (fun h=>?_)
 ·have a:i<4:=by have:=of_decide_eq_true h;omega
  refine aK underlying86 js i rfl a (o':=i) (by omega) ?_;refine H.load 1 rfl tc (kP n i a) ?_;refine ax (γ:=Nat × Option Addr × Nat) (fun (k,A,c)=>[(6,.int .i64 (k:Int)),(5,.int .u64 ((word n i / 2^k:Nat):Int)),(3,.slice A (64*i+k) c)])
   (fun (k,A,c) w'=>k≤64∧Hp w ab w' [own 4 1 (.slice A (64*i+k) c) (64*i+k) (ig (ly n (64*i+k))),an g1 86 (sc n)] [])
   (fun (k,_,_)=>64 - k) (0,A,c) ⟨rfl,by show Value.int .u64 _=_;simp,rfl,trivial⟩ ⟨by decide,H⟩ ?_
  clear H;rintro ⟨k,A,c⟩ m o ⟨p,H⟩;refine aE (fun h=>?_) (fun h=>?_)
  ·have b:k<64:=by have:=of_decide_eq_true h;omega
   refine yi (y:=2) (by omega) ?_;have g:(word n i / 2^k % 2:Nat)=1↔n.testBit (64*i+k)=true:=by
    have:=ct n i k;rw[Nat.testBit_eq_decide_div_mod_eq] at this;simp[b] at this;rw[← this];simp
   have d:(((word n i / 2^k % 2:Nat):Int)==(1:Int))=n.testBit (64*i+k):=by
    rw[Bool.eq_iff_iff,← g,beq_iff_eq];omega
   refine H.aX Jl rfl ?_;intro g2 q H;refine H.cn 0 Jl rfl rfl (by omega) (by omega) ?_;intro e f r H;refine yj (y:=2) (Nat.lt_of_le_of_lt (Nat.div_le_self _ _) (lx n i)) (by omega) ?_;refine ⟨(k+1,e,f),by show 64 - (k+1)<64 - k;omega,⟨up (by omega),?_,rfl,trivial⟩,by show k+1≤64;omega,?_⟩
   ·refine congrArg (Value.int .u64) ?_;rw[Nat.div_div_eq_div_mul,Nat.pow_succ]
   ·rw[d] at H;show Hp w _ _ [own 4 1 (.slice e (64*i+(k+1)) f) (64*i+(k+1)) (ig (ly n (64*i+(k+1)))),_] [];rw[show 64*i+(k+1)=64*i+k+1 from rfl,wo];simpa [ig] using H
  ·have b:k=64:=by have:=of_decide_eq_false h;omega
   subst b;exact ⟨(i+1,A,c),by show 4 - (i+1)<4 - i;omega,⟨up (by omega),rfl,trivial⟩,by show i+1≤4;omega,H⟩
 ·have a:i=4:=by have:=of_decide_eq_false h;omega
  subst a;exact ⟨A,c,rfl,H.out⟩
end Go.Proofs.YtpjihhgjbbihkaaGreatDoor
