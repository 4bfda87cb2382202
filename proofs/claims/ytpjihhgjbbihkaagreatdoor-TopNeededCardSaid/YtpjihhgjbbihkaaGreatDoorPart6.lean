import Derived.Test.YtpjihhgjbbihkaaGreatDoorPart5
import Derived.Stop.LaidErr
import Derived.Lib.LaidTab
import Derived.Lay
import Derived.HandedShaped
import Derived.Shelf.Vars
import Derived.MakeChecks
namespace Go.Dk
def Il (g i:Nat)(cs:List Value):cH:=
 ⟨fun x=>x=g,fun w=>∀ (j:Nat) v,cs[j]?=some v→w.cell? ⟨g,i+j,none⟩=some v,fun w w' h a j v b=>by
  have:=a j v b;unfold World.cell? at *;rw[h g rfl];exact this⟩
theorem dL {w0 w:World}{F:Nat→Prop}{L M:List cH}{g:Nat}{t:TypeId}{cs:Array Value}(H:Hp w0 F w (an g t cs::L) M)(i:Nat)(cs':List Value)(h:cs'=(cs.toList.drop i).take cs'.length):Hp w0 F w (Il g i cs'::L) M:=
 H.re (r':=Il g i cs') (fun b j v a=>(aQ b (i+j)).trans (by
  rw[h,List.getElem?_take] at a;split at a
  ·rw[List.getElem?_drop] at a;rw[← Array.getElem?_toList];exact a
  ·cases a)) (fun g c=>c)
theorem qG {P:Program}{w:World}{k:Value→World→Prop}{g i:Nat}{cs:List Value}(c:(Il g i cs).ok w)(o n:Nat){ty:TypeId}(cs':List Value)(a:cP P ty=some true)(hs:bE P ty=some cs'.length)(d:cs'=(cs.drop n).take cs'.length)(e:o=i+n)(h:k (.agg cs'.toArray) w) :
  fb P ty (.pointer (some ⟨g,o,none⟩)) w k:=by
 subst e;refine iq cs' a hs (fun j v b=>?_) h;rw[addr_add,Nat.add_assoc];rw[d,List.getElem?_take] at b;split at b
 ·rw[List.getElem?_drop] at b;exact c _ _ b
 ·cases b
theorem oP {P:Program}{w:World}{k:Value→World→Prop}{g i:Nat}{cs:List Value}(b:(Il g i cs).ok w)(o n:Nat){ty:TypeId}{v:Value}(a:cP P ty=some false)(c:cs[n]?=some v)(d:o=i+n)(h:k v w):fb P ty (.pointer (some ⟨g,o,none⟩)) w k:=by
 subst d;exact aB a (b n v c) h
end Go.Dk
namespace Go.Proofs.YtpjihhgjbbihkaaGreatDoor
open Go.Proofs.Tryz
open Go.Dk
set_option maxRecDepth 100000
attribute [local irreducible] IntKind.wrap
theorem qH {f:Nat→Nat}{k j x:Nat}:(jH f k)[j]?=some x↔j<k∧f j=x:=by
 unfold jH;rw[List.getElem?_map];by_cases h:j<k
 ·rw[List.getElem?_range h];simp[h]
 ·rw[List.getElem?_eq_none (by simpa using h)];simp[h]
theorem zp {t:Tb}(a:kh t)(j p:Nat):(iv t j).testBit p=(decide (p<2^t.ni)&&(if t.kd=0 then nn t j p else if t.kd=1 then nn t j p||Bh t j p else !nk t j p)):=by
 unfold iv;split
 ·unfold my;rw[eW a];rfl
 ·split
  ·unfold my ud;rw[Nat.testBit_or,eW a,eW a];unfold nn Bh
   cases decide (p<2^t.ni) <;> simp
  ·unfold uc;rw[bX (j7 _),gG a.ni,eW a];unfold nk
   cases decide (p<2^t.ni) <;> simp
theorem Im {t:Tb}(a:kh t)(j p:Nat):(my t j).testBit p=(decide (p<2^t.ni)&&nn t j p):=eW a j 1 p
theorem Gh {n:Nat}(a:n≤8){s:Nat}(h:∀ p,s.testBit p=true→p<2^n):s<2^256:=by
 have c:2^n≤2^8:=Nat.pow_le_pow_right (by decide) a;refine Nat.lt_pow_two_of_testBit _ fun p d=>?_;rw[Bool.eq_false_iff];intro b;have:=h p b;omega
theorem uF {t:Tb}(c:kh t)(l:cU t t.no=false):cL (fm t):=by
 have d:∀ j p,(iv t j).testBit p=true→p<2^t.ni:=fun j p h=>by
  rw[zp c,Bool.and_eq_true,decide_eq_true_eq] at h;exact h.1
 refine ⟨c.ni,by show 1≤(jH _ _).length;rw[eD];exact c.no1,by show (jH _ _).length≤4;rw[eD];exact c.no4,by show (jH _ _).length=(jH _ _).length;rw[eD,eD],fun a g=>?_,fun a g=>?_,fun j a b g k=>?_,fun b k=>?_⟩
 ·obtain ⟨j,e⟩:=List.getElem?_of_mem g;obtain ⟨_,rfl⟩:=qH.1 e;exact nW _ _ _ _
 ·obtain ⟨j,e⟩:=List.getElem?_of_mem g;obtain ⟨_,rfl⟩:=qH.1 e;exact Gh c.ni (d j)
 ·obtain ⟨e,rfl⟩:=qH.1 g;obtain ⟨_,rfl⟩:=qH.1 k;intro p f;rw[Im c,Bool.and_eq_true] at f;rw[zp c,f.1,f.2,Bool.true_and];split
  ·rfl
  ·split
   ·rfl
   ·have i:kZ t j=false:=by
     rw[Bool.eq_false_iff];intro h;rw[vQ e h] at l
     cases l
    cases ho:nk t j p with
    | false=>rfl
    | true=>
     rw[Bool.eq_false_iff] at i;exact absurd ((rA c j).2 ⟨by have:=c.kd;omega,p,of_decide_eq_true f.1,f.2,ho⟩) i
 ·obtain ⟨j,e⟩:=List.getElem?_of_mem k;obtain ⟨_,rfl⟩:=qH.1 e;intro p f;show (bp t.ni).testBit p=true;rw[gG c.ni];exact decide_eq_true (d j p f)
theorem Nu:enters prog 22=true:=by kernel_rfl
set_option maxHeartbeats 1000000 in
theorem Pv {w0 w:World}{L M:List cH}{t:Tb}(d:kh t)(v:Value)(e:Nat→Prop)(a g7:Nat)(H:Hp w0 ab w (ki e v t.ls::an a 60 (rB t.kd t.ni t.no v 0 0 0 ko 0 ko ko ko 0 0 0 [] 0 0 0 0 0)::an g7 56 #[(ah a)]::L) M) :
  bw prog 22 ([]++[(ah g7)]) w fun _ w'=>
   (∃ Bo co Bm cm F,cU t t.no=false∧Hp w0 ab w' (pJ F (fm t) Bo co Bm cm::an a 60 (rB t.kd t.ni t.no v 0 0 0 ko t.ni (.slice Bo t.no co) (.slice Bm t.no cm) ko 0 0 0 [] 0 0 0 0 0)::an g7 56 #[(ah a)]::L) M)∨
   (cU t t.no=true∧Hp w0 ab w' (an a 60 (rB t.kd t.ni t.no v 0 0 0 ko 0 ko ko ko 0 0 0 [] 0 0 0 0 4)::an g7 56 #[(ah a)]::L) M):=by
 refine ar (N:=15) func22 Nu rfl rfl rfl (by simp) ?_;refine gY (fun u=>Hp w0 ab u [Il a 0 [.int .i64 t.kd,.int .i64 t.ni,.int .i64 t.no,v],an g7 56 #[(ah a)]] M) eO (by kernel_rfl) (dL ((H.same (aS.drew _)).b7 [1,2] (by decide) rfl) 0 _ rfl) ?_;replace H:=H.same (aS.drew _);generalize w.drew=w1 at H;have f:jg w1 v t.ls:=qw.mono (H.get 0 rfl) fun g h=>H.lt _ (.head _) g h;refine quiet _ (fun w H=>H.load 1 rfl gK rfl ae) ?_;refine quiet _ (fun w H=>H.load 1 rfl gK rfl ae) ?_;refine quiet _ (fun w H=>H.load 1 rfl gK rfl ae) ?_;refine quiet _ (fun w H=>aa (Bk _) ae) ?_;refine quiet (sF t.kd t.ni t.no v) (fun w H=>qG (H.get 0 rfl) 0 0 [.int .i64 t.kd,.int .i64 t.ni,.int .i64 t.no,v] ft bG rfl rfl ae) ?_;refine aj (Pe d v _ f) ?_;rintro _ l (⟨b,rfl,c⟩ | ⟨b,Bo,co,Bm,cm,rfl,F,i⟩)
 ·replace H:=H.same c;clear c;refine ⟨.inl (dL (H.b7 [1,2] (by decide) rfl) 0 _ rfl),?_⟩;refine quiet _ (fun w H=>aa (xB _) ae) ?_;refine H.fK (cs2:=rB t.kd t.ni t.no v 0 0 0 ko 0 ko ko ko 0 0 0 [] 0 0 0 0 0) 1 rfl bL (Nat.le_of_ble_eq_true rfl) kj rfl ?_;clear H;intro j H;refine ⟨.inl (dL (H.b7 [1,2] (by decide) rfl) 0 _ rfl),?_⟩;refine quiet _ (fun w H=>aa (k_ _) ae) ?_;refine H.store 1 rfl jG (Nat.le_of_ble_eq_true rfl) rfl ?_;clear H;intro k H;refine ⟨.inl (dL (H.b7 [1,2] (by decide) rfl) 0 _ rfl),?_⟩;exact .inr ⟨b,H.forget⟩
 ·replace H:=(H.forget).bq i;refine ⟨.inl (dL (H.b7 [1,2] (by decide) rfl) 0 _ rfl),?_⟩;refine quiet _ (fun w H=>aa (xB _) ae) ?_;refine H.fK (cs2:=rB t.kd t.ni t.no v 0 0 0 ko t.ni (.slice Bo t.no co) (.slice Bm t.no cm) ko 0 0 0 [] 0 0 0 0 0) 1 rfl bL (Nat.le_of_ble_eq_true rfl) kj rfl ?_;clear H;intro j H;refine ⟨.inl (dL (H.b7 [1,2] (by decide) rfl) 0 _ rfl),?_⟩;refine quiet _ (fun w H=>aa (k_ _) ae) ?_;refine H.store 1 rfl jG (Nat.le_of_ble_eq_true rfl) rfl ?_;clear H;intro k H;refine ⟨.inl (dL (H.b7 [1,2] (by decide) rfl) 0 _ rfl),?_⟩;exact .inl ⟨Bo,co,Bm,cm,F,b,H⟩
theorem Nv:enters prog 24=true:=by kernel_rfl
set_option maxHeartbeats 1000000 in
theorem c24 {w0 w:World}{L M:List cH}{S:dX}(k:cL S)(f:S.n≤4)(h:S.may.length≤3)(nodes steps:Int)(kd ni no:Int)(v:Value)(F:Nat→Prop)(Bo:Option Addr)(co:Nat)(Bm:Option Addr)(cm:Nat)(b g7 g3:Nat)(H:Hp w0 ab w (pJ F S Bo co Bm cm::an b 60 (rB kd ni no v 0 0 0 ko S.n (.slice Bo S.on.length co) (.slice Bm S.may.length cm) ko 0 0 0 [] 0 0 0 0 0)::an g7 56 #[(ah b)]::an g3 23 (lb nodes steps)::L) M) :
  bw prog 24 ([]++[(ah g7),(ah g3)]) w fun _ w'=>
   (∃ A c rows st a d,pH S nodes steps rows st a 0∧Hp w0 ab w' (own 50 3 (.slice A rows.length c) rows.length (flat a6 rows)::pJ F S Bo co Bm cm::an b 60 (rB kd ni no v 0 0 0 ko S.n (.slice Bo S.on.length co) (.slice Bm S.may.length cm) (.slice A rows.length c) st a d [] 0 0 0 0 0)::an g7 56 #[(ah b)]::an g3 23 (lb nodes steps)::L) M)∨
   (xi nodes steps∧∃ v1 st a d,Hp w0 ab w' (an b 60 (rB kd ni no v 0 0 0 ko S.n (.slice Bo S.on.length co) (.slice Bm S.may.length cm) v1 st a d [] 0 0 0 0 1)::an g7 56 #[(ah b)]::an g3 23 (lb nodes steps)::L) M):=by
 refine ar (N:=17) func24 Nv rfl rfl rfl (by simp) ?_;refine gY (fun u=>Hp w0 ab u [Il b 8 [.int .i64 S.n,.slice Bo S.on.length co,.slice Bm S.may.length cm],an g7 56 #[(ah b)],an g3 23 (lb nodes steps)] M) eO (by kernel_rfl) (dL ((H.same (aS.drew _)).b7 [1,2,3] (by decide) rfl) 8 _ rfl) ?_;replace H:=H.same (aS.drew _);generalize w.drew=w1 at H;have l:fY w1 S Bo co Bm cm:=xp (H.get 0 rfl) fun g m=>H.lt _ (.head _) g m;refine quiet _ (fun w H=>H.load 1 rfl gK rfl ae) ?_;refine quiet _ (fun w H=>H.load 1 rfl gK rfl ae) ?_;refine quiet _ (fun w H=>H.load 1 rfl gK rfl ae) ?_;refine quiet _ (fun w H=>aa (xB _) ae) ?_;refine quiet (r4 S.n (.slice Bo S.on.length co) (.slice Bm S.may.length cm)) (fun w H=>qG (H.get 0 rfl) 8 0 [.int .i64 S.n,.slice Bo S.on.length co,.slice Bm S.may.length cm] dw bL rfl rfl ae) ?_;refine quiet _ (fun w H=>H.ai 2 rfl FH AQ ae) ?_;refine aj (O9 k f h nodes steps Bo co Bm cm _ l) ?_;rintro _ q ⟨A,c,rows,st,a,d,e,rfl,j,o⟩;replace H:=H.bq o;refine ⟨.inl (dL (H.b7 [2,3,4] (by decide) rfl) 8 _ rfl),?_⟩;refine quiet _ (fun w H=>aa (uB _) ae) ?_;refine H.fK (cs2:=rB kd ni no v 0 0 0 ko S.n (.slice Bo S.on.length co) (.slice Bm S.may.length cm) (.slice A rows.length c) st a d [] 0 0 0 0 0) 2 rfl dE (Nat.le_of_ble_eq_true rfl) fZ rfl ?_;clear H;intro r H;refine ⟨.inl (dL (H.b7 [2,3,4] (by decide) rfl) 8 _ rfl),?_⟩;refine quiet _ (fun w H=>aa (k_ _) ae) ?_;refine H.store 2 rfl jG (Nat.le_of_ble_eq_true rfl) rfl ?_;clear H;intro s H;refine ⟨.inl (dL (H.b7 [2,3,4] (by decide) rfl) 8 _ rfl),?_⟩;have i:=j;rcases j with ⟨p,_,_,_,rfl⟩ | ⟨_,rfl,_⟩
 ·exact .inr ⟨p,_,st,a,d,H.forget.forget⟩
 ·exact .inl ⟨A,c,rows,st,a,d,i,H⟩
theorem uG {S:dX}(b:cL S){nodes steps:Int}{rows:List Rw}{st a:Int}(h:pH S nodes steps rows st a 0):∀ x ∈ rows,gE S.n S.on.length x:=by
 rcases h with ⟨_,_,_,_,h⟩ | ⟨_,_,(⟨_,_,h,_⟩ | ⟨_,h,_⟩)⟩
 ·cases h
 ·exact fun x c=>((h x c).uI b).ok b
 ·exact h.1
theorem Io {w:World}{A:Option Addr}{n c sz:Nat}{e:TypeId}{xs:List Value}(h:(own e sz (.slice A n c) n xs).ok w):n≤9223372036854775807:=by
 rcases h.2 with ⟨_,h⟩ | ⟨g,cap,cur,_,_,_,b,a,_⟩
 ·omega
 ·unfold maxLen at a;omega
theorem Nw:enters prog 26=true:=by kernel_rfl
set_option maxHeartbeats 1000000 in
theorem Pw {w0 w:World}{L M:List cH}{S:dX}(j:cL S)(rows:List Rw)(k:∀ x ∈ rows,gE S.n S.on.length x)(kd ni no:Int)(v:Value)(F:Nat→Prop)(Bo:Option Addr)(co:Nat)(Bm:Option Addr)(cm:Nat)(A:Option Addr)(c:Nat)(st a f:Int)(b g7:Nat)(H:Hp w0 ab w (own 50 3 (.slice A rows.length c) rows.length (flat a6 rows)::pJ F S Bo co Bm cm::an b 60 (rB kd ni no v 0 0 0 ko S.n (.slice Bo S.on.length co) (.slice Bm S.may.length cm) (.slice A rows.length c) st a f [] 0 0 0 0 0)::an g7 56 #[(ah b)]::L) M) :
  bw prog 26 ([]++[(ah g7)]) w fun _ w'=>
   (rows.length≤64∧∃ v2 h,Hp w0 ab w' (ki h v2 (rows.map (ib S.on.length))::an b 60 (rB kd ni no v 1 S.n S.on.length v2 S.n (.slice Bo S.on.length co) (.slice Bm S.may.length cm) (.slice A rows.length c) st a f [] 0 0 0 0 0)::an g7 56 #[(ah b)]::L) M)∨
   (64<rows.length∧Hp w0 ab w' (an b 60 (rB kd ni no v 0 0 0 ko S.n (.slice Bo S.on.length co) (.slice Bm S.may.length cm) (.slice A rows.length c) st a f [] 0 0 0 0 3)::an g7 56 #[(ah b)]::L) M):=by
 refine ar (N:=20) func26 Nw rfl rfl rfl (by simp) ?_;refine gY (fun u=>Hp w0 ab u [Il b 8 [.int .i64 S.n,.slice Bo S.on.length co,.slice Bm S.may.length cm,.slice A rows.length c],an g7 56 #[(ah b)]] M) eO (by kernel_rfl) (dL ((H.same (aS.drew _)).b7 [2,3] (by decide) rfl) 8 _ rfl) ?_;replace H:=H.same (aS.drew _);generalize w.drew=w1 at H;have l:fY w1 S Bo co Bm cm:=xp (H.get 1 rfl) fun g m=>H.lt _ (.tail _ (.head _)) g m;refine quiet _ (fun w H=>H.load 1 rfl gK rfl ae) ?_;refine quiet _ (fun w H=>H.load 1 rfl gK rfl ae) ?_;refine quiet _ (fun w H=>H.load 1 rfl gK rfl ae) ?_;refine quiet _ (fun w H=>aa (xB _) ae) ?_;refine quiet (r4 S.n (.slice Bo S.on.length co) (.slice Bm S.may.length cm)) (fun w H=>qG (H.get 0 rfl) 8 0 [.int .i64 S.n,.slice Bo S.on.length co,.slice Bm S.may.length cm] dw bL rfl rfl ae) ?_;refine quiet _ (fun w H=>H.load 1 rfl gK rfl ae) ?_;refine quiet _ (fun w H=>aa (uB _) ae) ?_;refine quiet _ (fun w H=>aa (Ck _ _) ae) ?_;refine quiet (.slice A rows.length c) (fun w H=>oP (H.get 0 rfl) 11 3 FI rfl rfl ae) ?_;refine aj (Pf j rows k (Io (H.get 0 rfl)) Bo co Bm cm A c _ l (bB (H.get 0 rfl))) ?_;rintro _ r (⟨e,rfl,i⟩ | ⟨e,v2,h,rfl,o⟩)
 ·replace H:=(H.forget.forget).same i;clear i;refine ⟨.inl (dL (H.b7 [0,1] (by decide) rfl) 8 _ rfl),?_⟩;refine quiet _ (fun w H=>aa (Bn _) ae) ?_;refine H.fK (cs2:=rB kd ni no v 0 0 0 ko S.n (.slice Bo S.on.length co) (.slice Bm S.may.length cm) (.slice A rows.length c) st a f [] 0 0 0 0 0) 0 rfl bG (Nat.le_of_ble_eq_true rfl) dz rfl ?_;clear H;intro p H;refine ⟨.inl (dL (H.b7 [0,1] (by decide) rfl) 8 _ rfl),?_⟩;refine quiet _ (fun w H=>aa (k_ _) ae) ?_;refine H.store 0 rfl jG (Nat.le_of_ble_eq_true rfl) rfl ?_;clear H;intro q H;refine ⟨.inl (dL (H.b7 [0,1] (by decide) rfl) 8 _ rfl),?_⟩;exact .inr ⟨e,H⟩
 ·replace H:=(H.forget.forget).bq o;obtain ⟨B,d,hs,rfl,_⟩:=H.get 0 rfl;refine ⟨.inl (dL (H.b7 [1,2] (by decide) rfl) 8 _ rfl),?_⟩;refine quiet _ (fun w H=>aa (Bn _) ae) ?_;refine H.fK (cs2:=rB kd ni no v 1 S.n S.on.length (.slice B (rows.map (ib S.on.length)).length d) S.n (.slice Bo S.on.length co) (.slice Bm S.may.length cm) (.slice A rows.length c) st a f [] 0 0 0 0 0) 1 rfl bG (Nat.le_of_ble_eq_true rfl) dz rfl ?_;clear H;intro p H;refine ⟨.inl (dL (H.b7 [1,2] (by decide) rfl) 8 _ rfl),?_⟩;refine quiet _ (fun w H=>aa (k_ _) ae) ?_;refine H.store 1 rfl jG (Nat.le_of_ble_eq_true rfl) rfl ?_;clear H;intro q H;refine ⟨.inl (dL (H.b7 [1,2] (by decide) rfl) 8 _ rfl),?_⟩;exact .inl ⟨e,_,h,H⟩
theorem Nx:enters prog 28=true:=by kernel_rfl
set_option maxHeartbeats 1000000 in
theorem c28 {w0 w:World}{L M:List cH}{t:Tb}(i:kh t)(kd ni no:Int)(v v2:Value)(j:Nat→Prop)(c:Int)(d sm e:Value)(st b f:Int)(a g7:Nat)(H:Hp w0 ab w (ki j v2 t.ls::an a 60 (rB kd ni no v t.kd t.ni t.no v2 c d sm e st b f [] 0 0 0 0 0)::an g7 56 #[(ah a)]::L) (oK::M)) :
  bw prog 28 ([]++[(ah g7)]) w fun _ w'=>
   Hp w0 ab w' (an a 60 (rB kd ni no v t.kd t.ni t.no v2 c d sm e st b f (dW t) 0 0 0 0 0)::an g7 56 #[(ah a)]::L) (oK::M):=by
 refine ar (N:=16) func28 Nx rfl rfl rfl (by simp) ?_;refine gY (fun u=>Hp w0 ab u [Il a 4 [.int .i64 t.kd,.int .i64 t.ni,.int .i64 t.no,v2],an g7 56 #[(ah a)]] (oK::M)) eO (by kernel_rfl) (dL ((H.same (aS.drew _)).b7 [1,2] (by decide) rfl) 4 _ rfl) ?_;replace H:=H.same (aS.drew _);generalize w.drew=w1 at H;have k:jg w1 v2 t.ls:=qw.mono (H.get 0 rfl) fun g l=>H.lt _ (.head _) g l;refine quiet _ (fun w H=>H.load 1 rfl gK rfl ae) ?_;refine quiet _ (fun w H=>H.load 1 rfl gK rfl ae) ?_;refine quiet _ (fun w H=>H.load 1 rfl gK rfl ae) ?_;refine quiet _ (fun w H=>aa (Bn _) ae) ?_;refine quiet (sF t.kd t.ni t.no v2) (fun w H=>qG (H.get 0 rfl) 4 0 [.int .i64 t.kd,.int .i64 t.ni,.int .i64 t.no,v2] ft bG rfl rfl ae) ?_;refine aj (Pg i v2 _ (H.ro 0 rfl) k) ?_;rintro _ m ⟨rfl,h⟩;replace H:=(H.forget).same h;clear h;refine ⟨.inl (dL (H.b7 [0,1] (by decide) rfl) 4 _ rfl),?_⟩;refine quiet _ (fun w H=>aa (uC _) ae) ?_;refine quiet _ (fun w H=>aa (Gg _ _) ae) ?_;refine H.store 0 rfl p7 (Nat.le_of_ble_eq_true rfl) rfl ?_;clear H;intro n H;refine ⟨.inl (dL (H.b7 [0,1] (by decide) rfl) 4 _ rfl),?_⟩;refine quiet _ (fun w H=>aa (k_ _) ae) ?_;refine H.store 0 rfl jG (Nat.le_of_ble_eq_true rfl) rfl ?_;clear H;intro o H;refine ⟨.inl (dL (H.b7 [0,1] (by decide) rfl) 4 _ rfl),?_⟩;exact H
theorem Gi (t:Tb):(fm t).on.length=t.no:=eD _ _
theorem sH (t:Tb):(fm t).may.length=t.no:=eD _ _
def Lf (text:List UInt8)(nodes steps:Int)(ln:Nat)(e:Int):Prop:=
 cu text=.error (ln,e)∨∃ s,cu text=.ok s∧((cU s.tb s.no=true∧e=4)∨(cU s.tb s.no=false∧(xi nodes steps∨∃ rows st a,pH (fm s.tb) nodes steps rows st a 0∧64<rows.length)))
def Ip (text:List UInt8)(nodes steps:Int)(v:Value):Prop:=
 (∃ (ln:Nat) (e:Int),v=.tuple #[.agg (la [] 0 0 0),.int .i64 (ln:Int),.int .i64 e]∧e≠0∧Lf text nodes steps ln e)∨
 (∃ s rows st a,v=.tuple #[.agg (la (dW (eU (fm s.tb) rows)) st a (rows.length:Int)),.int .i64 0,.int .i64 0]∧cu text=.ok s∧cU s.tb s.no=false∧pH (fm s.tb) nodes steps rows st a 0∧rows.length≤64)
def Ny (i:Nat):FuncId:=if i=0 then 20 else if i=1 then 22 else if i=2 then 24 else if i=3 then 26 else 28
def Nz (g2 g3 g7:Nat)(i:Nat):Array Value:=if i=0 then #[(ah g2),(ah g7)] else if i=2 then #[(ah g7),(ah g3)] else #[(ah g7)]
def xC (g2 g3 g7:Nat):Array Value:=#[.func (.func 20) #[] #[(ah g2),(ah g7)],.func (.func 22) #[] #[(ah g7)],.func (.func 24) #[] #[(ah g7),(ah g3)],.func (.func 26) #[] #[(ah g7)],.func (.func 28) #[] #[(ah g7)]]
theorem Lg {g2 g3 g7 i:Nat}(hi:i<5):(xC g2 g3 g7)[i]?=some (.func (.func (Ny i)) #[] (Nz g2 g3 g7 i)):=by
 rcases (by omega:i=0∨i=1∨i=2∨i=3∨i=4) with rfl | rfl | rfl | rfl | rfl <;> rfl
def DK (w0:World)(text:List UInt8)(nodes steps:Int)(g2 g3 g4 g7 b gs:Nat):Nat→World→Prop
 | 0,w=>Hp w0 ab w [an b 60 IZ,an g7 56 #[.pointer (some ⟨b,0,none⟩)],an g3 23 (lb nodes steps),an g2 9 #[aU text],an gs 1 (xC g2 g3 g7),an g4 28 (la [] 0 0 0)] [oK]
 | 1,w=>∃ s v S,cu text=.ok s∧Hp w0 ab w [ki S v s.ls,an b 60 (rB s.kd s.ni s.no v 0 0 0 ko 0 ko ko ko 0 0 0 [] 0 0 0 0 0),an g7 56 #[.pointer (some ⟨b,0,none⟩)],an g3 23 (lb nodes steps),an g2 9 #[aU text],an gs 1 (xC g2 g3 g7),an g4 28 (la [] 0 0 0)] [oK]
 | 2,w=>∃ s v Bo co Bm cm F,(cu text=.ok s∧cU s.tb s.no=false)∧Hp w0 ab w [pJ F (fm s.tb) Bo co Bm cm,an b 60 (rB s.kd s.ni s.no v 0 0 0 ko (fm s.tb).n (.slice Bo (fm s.tb).on.length co) (.slice Bm (fm s.tb).may.length cm) ko 0 0 0 [] 0 0 0 0 0),an g7 56 #[.pointer (some ⟨b,0,none⟩)],an g3 23 (lb nodes steps),an g2 9 #[aU text],an gs 1 (xC g2 g3 g7),an g4 28 (la [] 0 0 0)] [oK]
 | 3,w=>∃ s v Bo co Bm cm F A c rows st a d,(cu text=.ok s∧cU s.tb s.no=false∧pH (fm s.tb) nodes steps rows st a 0)∧Hp w0 ab w [own 50 3 (.slice A rows.length c) rows.length (flat a6 rows),pJ F (fm s.tb) Bo co Bm cm,an b 60 (rB s.kd s.ni s.no v 0 0 0 ko (fm s.tb).n (.slice Bo (fm s.tb).on.length co) (.slice Bm (fm s.tb).may.length cm) (.slice A rows.length c) st a d [] 0 0 0 0 0),an g7 56 #[.pointer (some ⟨b,0,none⟩)],an g3 23 (lb nodes steps),an g2 9 #[aU text],an gs 1 (xC g2 g3 g7),an g4 28 (la [] 0 0 0)] [oK]
 | 4,w=>∃ s v v2 g e f sm A c rows st a d,(cu text=.ok s∧cU s.tb s.no=false∧pH (fm s.tb) nodes steps rows st a 0∧rows.length≤64)∧Hp w0 ab w [ki g v2 (eU (fm s.tb) rows).ls,an b 60 (rB s.kd s.ni s.no v (eU (fm s.tb) rows).kd (eU (fm s.tb) rows).ni (eU (fm s.tb) rows).no v2 e f sm (.slice A rows.length c) st a d [] 0 0 0 0 0),an g7 56 #[.pointer (some ⟨b,0,none⟩)],an g3 23 (lb nodes steps),an g2 9 #[aU text],an gs 1 (xC g2 g3 g7),an g4 28 (la [] 0 0 0)] [oK]
 | _,w=>∃ s v v2 e f sm A c rows st a d kd ni no,(cu text=.ok s∧cU s.tb s.no=false∧pH (fm s.tb) nodes steps rows st a 0∧rows.length≤64)∧Hp w0 ab w [an b 60 (rB s.kd s.ni s.no v kd ni no v2 e f sm (.slice A rows.length c) st a d (dW (eU (fm s.tb) rows)) 0 0 0 0 0),an g7 56 #[.pointer (some ⟨b,0,none⟩)],an g3 23 (lb nodes steps),an g2 9 #[aU text],an gs 1 (xC g2 g3 g7),an g4 28 (la [] 0 0 0)] [oK]
def Iq (w0:World)(text:List UInt8)(nodes steps:Int)(g2 g3 g4 g7 a gs:Nat)(w:World):Prop:=∃ (cs:Array Value) (ln:Nat) (e:Int),(e≠0∧Lf text nodes steps ln e∧cs[19]?=some (.int .i64 (ln:Int))∧cs[20]?=some (.int .i64 e))∧Hp w0 ab w [an a 60 cs,an g7 56 #[(ah a)],an g3 23 (lb nodes steps),an g2 9 #[aU text],an gs 1 (xC g2 g3 g7),an g4 28 (la [] 0 0 0)] [oK]
theorem Gj {text:List UInt8}{a b:Nat}(h:oY text a b=true){s:Rd}(hs:cu text=.ok s):s.ni≤a∧s.no≤b:=by
 unfold oY at h;rw[hs] at h;simpa using h
theorem Lh {w0:World}{text:List UInt8}{nodes steps:Int}{g2 g3 g4 g7 a gs:Nat}{i:Nat}{w:World}(hi:i<5)(h:DK w0 text nodes steps g2 g3 g4 g7 a gs i w):w.cell? ⟨gs,i,none⟩=some (.func (.func (Ny i)) #[] (Nz g2 g3 g7 i)):=by
 have key:∀ {L:List cH} {M:List cH} {n:Nat},Hp w0 ab w L M→L[n]?=some (an gs 1 (xC g2 g3 g7))→w.cell? ⟨gs,i,none⟩=some (.func (.func (Ny i)) #[] (Nz g2 g3 g7 i)):=fun H b=>(aQ (H.get _ b) i).trans (Lg hi);rcases (by omega:i=0∨i=1∨i=2∨i=3∨i=4) with rfl | rfl | rfl | rfl | rfl
 ·exact key (n:=4) h rfl
 ·obtain ⟨_,_,_,_,H⟩:=h;exact key (n:=5) H rfl
 ·obtain ⟨_,_,_,_,_,_,_,_,H⟩:=h;exact key (n:=5) H rfl
 ·obtain ⟨_,_,_,_,_,_,_,_,_,_,_,_,_,_,H⟩:=h;exact key (n:=6) H rfl
 ·obtain ⟨_,_,_,_,_,_,_,_,_,_,_,_,_,_,H⟩:=h;exact key (n:=5) H rfl
theorem tt {w0:World}{text:List UInt8}{nodes steps:Int}{g2 g3 g4 g7 d gs:Nat}(x:text.length≤100000)(y:oY text 4 3=true){i:Nat}{w:World}(hi:i<5)(h:DK w0 text nodes steps g2 g3 g4 g7 d gs i w) :
  jL prog (.func (.func (Ny i)) #[] (Nz g2 g3 g7 i)) [] w fun _ w'=>(DK w0 text nodes steps g2 g3 g4 g7 d gs (i+1) w'∧w'.cell? ⟨d,20,none⟩=some (.int .i64 0))∨(Iq w0 text nodes steps g2 g3 g4 g7 d gs w'∧∃ e:Int,e≠0∧w'.cell? ⟨d,20,none⟩=some (.int .i64 e)):=by
 have bad:∀ {w':World} {cs:Array Value} {ln:Nat} {e:Int},Hp w0 ab w' [an d 60 cs,an g7 56 #[(ah d)],an g3 23 (lb nodes steps),an g2 9 #[aU text],an gs 1 (xC g2 g3 g7),an g4 28 (la [] 0 0 0)] [oK]→e≠0→Lf text nodes steps ln e→cs[19]?=some (.int .i64 (ln:Int))→cs[20]?=some (.int .i64 e)→Iq w0 text nodes steps g2 g3 g4 g7 d gs w'∧∃ e:Int,e≠0∧w'.cell? ⟨d,20,none⟩=some (.int .i64 e):=fun H he z B r=>⟨⟨_,_,_,⟨he,z,B,r⟩,H⟩,_,he,(aQ (H.get 0 rfl) 20).trans r⟩;rcases (by omega:i=0∨i=1∨i=2∨i=3∨i=4) with rfl | rfl | rfl | rfl | rfl
 ·have H:Hp w0 ab w [an d 60 IZ,an g7 56 #[(ah d)],an g3 23 (lb nodes steps),an g2 9 #[aU text],an gs 1 (xC g2 g3 g7),an g4 28 (la [] 0 0 0)] [oK]:=h;refine ff (g:=20) (args:=[]) (cap:=[(ah g2),(ah g7)]) (c20 (L:=[an g3 23 (lb nodes steps),an gs 1 (xC g2 g3 g7),an g4 28 (la [] 0 0 0)]) text x d g7 g2 (H.b7 [0,1,3,2,4,5] (by decide) rfl)) ?_;rintro v w' (⟨s,v,S,a,H⟩ | ⟨ln,e,a,he,H⟩)
  ·exact .inl ⟨⟨s,v,S,a,H.b7 [0,1,2,4,3,5,6] (by decide) rfl⟩,(aQ (H.get 1 rfl) 20).trans rfl⟩
  ·exact .inr (bad (H.b7 [0,1,3,2,4,5] (by decide) rfl) he (.inl a) rfl rfl)
 ·obtain ⟨s,v,S,a,H⟩:=h;have m:=kD a;refine ff (g:=22) (args:=[]) (cap:=[(ah g7)]) (Pv (L:=[an g3 23 (lb nodes steps),an g2 9 #[aU text],an gs 1 (xC g2 g3 g7),an g4 28 (la [] 0 0 0)]) m v S d g7 H) ?_;rintro _ w' (⟨Bo,co,Bm,cm,F,f,H⟩ | ⟨f,H⟩)
  ·refine .inl ⟨⟨s,v,Bo,co,Bm,cm,F,⟨a,f⟩,?_⟩,(aQ (H.get 1 rfl) 20).trans rfl⟩;rw[Gi,sH];exact H
  ·exact .inr (bad (ln:=0) (e:=4) H (by decide) (.inr ⟨s,a,.inl ⟨f,rfl⟩⟩) rfl rfl)
 ·obtain ⟨s,v,Bo,co,Bm,cm,F,⟨a,f⟩,H⟩:=h;have m:=kD a;have n:=uF m f;obtain ⟨o,p⟩:=Gj y a;refine ff (g:=24) (args:=[]) (cap:=[(ah g7),(ah g3)]) (c24 (L:=[an g2 9 #[aU text],an gs 1 (xC g2 g3 g7),an g4 28 (la [] 0 0 0)]) n o (by rw[sH];exact p) nodes steps s.kd s.ni s.no v F Bo co Bm cm d g7 g3 H) ?_;rintro _ w' (⟨A,c,rows,st,b,k,l,H⟩ | ⟨C,v1,st,b,k,H⟩)
  ·exact .inl ⟨⟨s,v,Bo,co,Bm,cm,F,A,c,rows,st,b,k,⟨a,f,l⟩,H⟩,(aQ (H.get 2 rfl) 20).trans rfl⟩
  ·exact .inr (bad (ln:=0) (e:=1) H (by decide) (.inr ⟨s,a,.inr ⟨f,.inl C⟩⟩) rfl rfl)
 ·obtain ⟨s,v,Bo,co,Bm,cm,F,A,c,rows,st,b,k,⟨a,f,l⟩,H⟩:=h;have m:=kD a;have n:=uF m f;refine ff (g:=26) (args:=[]) (cap:=[(ah g7)]) (Pw (L:=[an g3 23 (lb nodes steps),an g2 9 #[aU text],an gs 1 (xC g2 g3 g7),an g4 28 (la [] 0 0 0)]) n rows (uG n l) s.kd s.ni s.no v F Bo co Bm cm A c st b k d g7 H) ?_;rintro _ w' (⟨j,v2,q,H⟩ | ⟨j,H⟩)
  ·exact .inl ⟨⟨s,v,v2,q,_,_,_,A,c,rows,st,b,k,⟨a,f,l,j⟩,H⟩,(aQ (H.get 1 rfl) 20).trans rfl⟩
  ·exact .inr (bad (ln:=0) (e:=3) H (by decide) (.inr ⟨s,a,.inr ⟨f,.inr ⟨rows,st,b,l,j⟩⟩⟩) rfl rfl)
 ·obtain ⟨s,v,v2,q,t,u,sm,A,c,rows,st,b,k,⟨a,f,l,j⟩,H⟩:=h;have m:=kD a;have n:=uF m f;refine ff (g:=28) (args:=[]) (cap:=[(ah g7)]) (c28 (L:=[an g3 23 (lb nodes steps),an g2 9 #[aU text],an gs 1 (xC g2 g3 g7),an g4 28 (la [] 0 0 0)]) (Ce n (uG n l) j) s.kd s.ni s.no v v2 q t u sm _ st b k d g7 H) ?_;rintro _ w' H;exact .inl ⟨⟨s,v,v2,t,u,sm,A,c,rows,st,b,k,_,_,_,⟨a,f,l,j⟩,H⟩,(aQ (H.get 0 rfl) 20).trans rfl⟩
theorem Ir {g2 g7:Nat}{w:World}{kk:Value→World→Prop}(h:kk (.func (.func 20) #[] #[(ah g2),(ah g7)]) w):cw prog (.func 20) [] [(ah g2),(ah g7)] w kk:=by
 unfold cw;exact ⟨_,w,by kernel_rfl,h⟩
theorem Is {g7:Nat}{w:World}{kk:Value→World→Prop}(h:kk (.func (.func 22) #[] #[(ah g7)]) w):cw prog (.func 22) [] [(ah g7)] w kk:=by
 unfold cw;exact ⟨_,w,by kernel_rfl,h⟩
theorem It {g3 g7:Nat}{w:World}{kk:Value→World→Prop}(h:kk (.func (.func 24) #[] #[(ah g7),(ah g3)]) w):cw prog (.func 24) [] [(ah g7),(ah g3)] w kk:=by
 unfold cw;exact ⟨_,w,by kernel_rfl,h⟩
theorem Iu {g7:Nat}{w:World}{kk:Value→World→Prop}(h:kk (.func (.func 26) #[] #[(ah g7)]) w):cw prog (.func 26) [] [(ah g7)] w kk:=by
 unfold cw;exact ⟨_,w,by kernel_rfl,h⟩
theorem Iv {g7:Nat}{w:World}{kk:Value→World→Prop}(h:kk (.func (.func 28) #[] #[(ah g7)]) w):cw prog (.func 28) [] [(ah g7)] w kk:=by
 unfold cw;exact ⟨_,w,by kernel_rfl,h⟩
theorem Iw {k:Value→World→Prop}{w:World}(h:k (.agg (la [] 0 0 0)) w):b8 prog 28 [] w k:=bt (fun w=>by kernel_rfl) h
theorem oQ {d:List UInt8}{a b c:Int}:∀ u ∈ (la d a b c).toList,u.oneCell'=true:=by
 intro u hu;simp[la] at hu;rcases hu with rfl | rfl | rfl | rfl <;> rfl
theorem Hp.xD {w:World}(b:jA w):Hp w ab w [] [oK]:=Hp.start w _ [oK] (by intro r a;rw[List.mem_singleton] at a;subst a;exact b) (by intro r a g h;rw[List.mem_singleton] at a;subst a;exact b.lt g h)
theorem OE:enters prog 8=true:=by kernel_rfl
set_option maxHeartbeats 2000000 in
theorem c8 (text:List UInt8)(r:text.length≤100000)(t:oY text 4 3=true)(nodes steps:Int)(w:World)(x:jA w) :
  bw prog 8 [aU text,Gw nodes steps] w fun v w'=>Ip text nodes steps v∧aT w w':=by
 refine ar (N:=62) func8 OE rfl rfl rfl (by simp) ?_;have H:=Hp.xD x;refine ak (γ:=Nat × Nat × Nat) (fun (g2,g3,g4)=>[(2,(ah g2)),(3,(ah g3)),(4,(ah g4)),(5,.int .i64 0),(6,.int .i64 0)]) (fun (g2,g3,g4) w'=>Hp w ab w' [an g4 28 (la [] 0 0 0),an g3 23 (lb nodes steps),an g2 9 #[aU text]] [oK]) ?_ ?_
 ·refine H.box 9 (aU text) (cs:=#[aU text]) rfl ?_;clear H;intro g2 y H;refine H.box 23 (Gw nodes steps) (cs:=lb nodes steps) rfl ?_;clear H;intro g3 n H;refine H.alloc 28 uD rfl ?_;clear H;intro g4 g H;exact ⟨(g2,g3,g4),⟨rfl,rfl,rfl,rfl,rfl,trivial⟩,H⟩
 clear H;rintro ⟨g2,g3,g4⟩ u y H;refine ak (γ:=Nat × Nat) (fun (a,g7)=>[(7,(ah g7))]) (fun (a,g7) w'=>Hp w ab w' [an g7 56 #[(ah a)],an a 60 IZ,an g4 28 (la [] 0 0 0),an g3 23 (lb nodes steps),an g2 9 #[aU text]] [oK]) ?_ ?_
 ·refine Ii ?_;refine H.box 60 (.agg IZ) (cs:=IZ) rfl ?_;clear H;intro a n H;refine H.alloc 56 (cs:=#[.pointer none]) Ld rfl ?_;clear H;intro g7 g H;refine H.store 0 rfl Le (Nat.le_of_ble_eq_true rfl) rfl ?_;clear H;intro k H;exact ⟨(a,g7),⟨rfl,trivial⟩,H⟩
 clear H;rintro ⟨a,g7⟩ u n H;refine ak (γ:=Nat × Bool) (fun (_,b)=>[(8,.bool b)]) (fun (gs,b) w'=>(b=true∧DK w text nodes steps g2 g3 g4 g7 a gs 5 w')∨(b=false∧Iq w text nodes steps g2 g3 g4 g7 a gs w')) ?_ ?_
 ·refine H.load 0 rfl gK rfl ?_;refine Ir ?_;refine Is ?_;refine It ?_;refine Iu ?_;refine Iv ?_;refine H.bf Pu (cs:=xC g2 g3 g7) (by decide) (by decide) (by kernel_rfl) ?_;clear H;intro gs g H;have z:DK w text nodes steps g2 g3 g4 g7 a gs 0 g:=H.b7 [2,1,4,5,0,3] (by decide) rfl;refine aj (Pt (I:=DK w text nodes steps g2 g3 g4 g7 a gs) (Bad:=Iq w text nodes steps g2 g3 g4 g7 a gs) Ny (Nz g2 g3 g7) 5 a gs (by decide) g z (fun i w' hi h=>Lh hi h) (fun i w' hi h=>tt r t hi h)) ?_;rintro _ k (⟨rfl,h⟩ | ⟨rfl,h⟩)
  ·exact ⟨(gs,true),⟨rfl,trivial⟩,.inl ⟨rfl,h⟩⟩
  ·exact ⟨(gs,false),⟨rfl,trivial⟩,.inr ⟨rfl,h⟩⟩
 clear H;rintro ⟨gs,b⟩ u g (⟨rfl,h⟩ | ⟨rfl,h⟩)
 ·obtain ⟨s,v,v2,o,p,sm,A,c,rows,st,d,q,kd,ni,no,B,H⟩:=h;refine aw (fun w'=>Hp w ab w' [an a 60 (rB s.kd s.ni s.no v kd ni no v2 o p sm (.slice A rows.length c) st d q (dW (eU (fm s.tb) rows)) 0 0 0 0 0),an g7 56 #[(ah a)],an g3 23 (lb nodes steps),an g2 9 #[aU text],an gs 1 (xC g2 g3 g7),an g4 28 (la [] 0 0 0)] [oK]) ?_ ?_
  ·refine af rfl ?_;exact ⟨(),trivial,H⟩
  clear H;rintro ⟨⟩ u k H;refine aw (fun w'=>Hp w ab w' [an a 60 (rB s.kd s.ni s.no v kd ni no v2 o p sm (.slice A rows.length c) st d q (dW (eU (fm s.tb) rows)) st d rows.length 0 0),an g7 56 #[(ah a)],an g3 23 (lb nodes steps),an g2 9 #[aU text],an gs 1 (xC g2 g3 g7),an g4 28 (la [] 0 0 0)] [oK]) ?_ ?_
  ·refine gY (fun u=>Hp w ab u [Il a 11 [.slice A rows.length c,.int .i64 st,.int .i64 d],an g7 56 #[(ah a)]] [oK]) eO (by kernel_rfl) (dL ((H.same (aS.drew _)).b7 [0,1] (by decide) rfl) 11 _ rfl) ?_;replace H:=H.same (aS.drew _);generalize k.drew=C at H
   iterate 4 refine quiet _ (fun w H=>H.load 1 rfl gK rfl ae) ?_
   refine quiet _ (fun w H=>aa (uB _) ae) ?_;refine quiet _ (fun w H=>aa (Ij _ _) ae) ?_;refine quiet (.int .i64 st) (fun w H=>oP (H.get 0 rfl) 12 1 aF rfl rfl ae) ?_;refine quiet _ (fun w H=>H.load 1 rfl gK rfl ae) ?_;refine quiet _ (fun w H=>aa (uB _) ae) ?_;refine quiet _ (fun w H=>aa (Ik _ _) ae) ?_;refine quiet (.int .i64 d) (fun w H=>oP (H.get 0 rfl) 13 2 il rfl rfl ae) ?_;refine quiet _ (fun w H=>H.load 1 rfl gK rfl ae) ?_;refine quiet _ (fun w H=>aa (uB _) ae) ?_;refine quiet _ (fun w H=>aa (Ck _ _) ae) ?_;refine quiet (.slice A rows.length c) (fun w H=>oP (H.get 0 rfl) 11 0 FI rfl rfl ae) ?_;refine quiet _ (fun w H=>ay underlying44 ae) ?_;refine quiet _ (fun w H=>aa (uC _) ae) ?_;refine quiet _ (fun w H=>aa (pL _ _) ae) ?_;refine H.store 0 rfl bc (Nat.le_of_ble_eq_true rfl) rfl ?_;clear H;intro D H;refine ⟨.inl (dL (H.b7 [0,1] (by decide) rfl) 11 _ rfl),?_⟩;refine quiet _ (fun w H=>aa (uC _) ae) ?_;refine quiet _ (fun w H=>aa (uE _ _) ae) ?_;refine H.store 0 rfl bc (Nat.le_of_ble_eq_true rfl) rfl ?_;clear H;intro E H;refine ⟨.inl (dL (H.b7 [0,1] (by decide) rfl) 11 _ rfl),?_⟩;refine quiet _ (fun w H=>aa (uC _) ae) ?_;refine quiet _ (fun w H=>aa (rC _ _) ae) ?_;refine H.store 0 rfl bc (Nat.le_of_ble_eq_true rfl) rfl ?_;clear H;intro F H;refine ⟨.inl (dL (H.b7 [0,1] (by decide) rfl) 11 _ rfl),?_⟩;exact ⟨(),trivial,H⟩
  clear H;rintro ⟨⟩ u C H;refine H.load 1 rfl gK rfl ?_;refine aa (uC _) ?_;refine H.cY 0 rfl (la (dW (eU (fm s.tb) rows)) st d rows.length).toList Gf mZ (fun j u f=>?_) ?_
  ·match j,f with
   | 0,f=>exact f
   | 1,f=>exact f
   | 2,f=>exact f
   | 3,f=>exact f
   | j+4,f=>simp[la] at f
  refine H.storeAll 5 rfl mZ rfl oQ ?_;clear H;intro S H;refine H.ai 5 rfl Gf mZ ?_;obtain ⟨G,J,K,M⟩:=B;exact ⟨rfl,.inr ⟨s,rows,st,d,rfl,G,J,K,M⟩,H.keeps⟩
 ·obtain ⟨cs,ln,e,⟨he,O,l,m⟩,H⟩:=h;refine ag rfl ?_;refine H.fp [an a 60 cs,an g7 56 #[(ah a)]] (fun u H=>H.b7 [0,1] (by decide) rfl) eO (by kernel_rfl) ?_;clear H;intro k H;refine quiet _ (fun w H=>Iw ae) ?_;refine quiet _ (fun w H=>H.load 1 rfl gK rfl ae) ?_;refine quiet _ (fun w H=>aa (Bp _) ae) ?_;refine quiet _ (fun w H=>H.load 0 rfl aF l ae) ?_;refine quiet _ (fun w H=>H.load 1 rfl gK rfl ae) ?_;refine quiet _ (fun w H=>aa (k_ _) ae) ?_;refine quiet _ (fun w H=>H.load 0 rfl il m ae) ?_;refine H.storeAll 5 rfl mZ rfl oQ ?_;clear H;intro Q H;refine ⟨.inl (H.b7 [0,1] (by decide) rfl),?_⟩;refine H.ai 5 rfl Gf mZ ?_;refine ⟨rfl,?_⟩;exact ⟨.inl ⟨ln,e,rfl,he,O⟩,H.keeps⟩
def NJ:List UInt8:=[46,105,32,50,10,46,111,32,49,10,48,49,32,49,10,49,48,32,49,10,49,49,32,49,10,46,101,10]
def NK:List UInt8:=[46,105,32,50,10,46,111,32,49,10,48,32,49,10,46,101,10]
def NA:Rd:=⟨1,2,1,5,-1,[(3,2,[1]),(3,1,[1]),(3,3,[1])]⟩
theorem oR:cu NJ=.ok NA:=by kernel_rfl
theorem rD:cu NK=.error (2,2):=by kernel_rfl
theorem Li:fm NA.tb=⟨2,[14],[14]⟩:=by kernel_rfl
theorem vR:cU NA.tb NA.no=false:=by kernel_rfl
theorem Lj:bA ⟨2,[14],[14]⟩ [(1,1,1),(2,2,1)]=true:=by kernel_rfl
theorem Lk:bA ⟨2,[14],[14]⟩ []=false:=by kernel_rfl
theorem Ll:((List.range 4).all fun m=>(List.range 4).all fun v=>(List.range 2).all fun o=> !bA ⟨2,[14],[14]⟩ [(m,v,o)])=true:=by kernel_rfl
theorem Ix:oY NJ 4 3=true:=by kernel_rfl
theorem Iy:oY NK 4 3=true:=by kernel_rfl
theorem vS {S:dX}(e:S.n≤3)(f:S.may.length≤2){rows:List Rw}{st a:Int}(h:pH S 20000 1000000 rows st a 0):st=1∧(∀ x ∈ rows,eH S x)∧bA S rows=true∧∀ L,(∀ x ∈ L,gE S.n S.on.length x)→bA S L=true→rows.length≤L.length:=by
 rcases h with ⟨_,_,_,_,h⟩ | ⟨_,_,(⟨b,_,c,g,i⟩ | ⟨_,_,(⟨_,h⟩ | ⟨_,R,b,c,g⟩)⟩)⟩
 ·cases h
 ·exact ⟨b,c,g,i⟩
 ·have:=HO e f;omega
 ·have d:=AK e f c fun x j=>(b x).1 j;have:2^R.length≤2^18:=Nat.pow_le_pow_right (by decide) d;omega
theorem Gk {rows:List Rw}{st d:Int}(h:pH (fm NA.tb) 20000 1000000 rows st d 0):st=1∧rows.length=2:=by
 have b:=uF (kD oR) vR;rw[Li] at h b;obtain ⟨i,e,c,j⟩:=vS (by decide) (by decide) h;refine ⟨i,?_⟩;have hle:=j [(1,1,1),(2,2,1)] (fun x a=>by
  rcases List.mem_cons.1 a with rfl | a
  ·exact ⟨by decide,by decide,by decide,by decide,by decide,by decide⟩
  ·rcases List.mem_cons.1 a with rfl | a
   ·exact ⟨by decide,by decide,by decide,by decide,by decide,by decide⟩
   ·cases a) Lj
 have hle:rows.length≤2:=hle
 match rows,e,c,hle with
 | [],_,c,_=>rw[Lk] at c;cases c
 | [x],e,c,_=>
  have a:=((e x (.head _)).uI b).ok b;obtain ⟨m,v,o⟩:=x;have f:=(ep a.m a.v).1 a.right;have hm:m<4:=f.2.2.1;have hs:v &&&m=v:=f.2.2.2;have k:v<4:=by rw[← hs];exact Nat.lt_of_le_of_lt Nat.and_le_right hm
  have n:o<2:=a.few;have key:=Ll;rw[List.all_eq_true] at key;have g:=key m (List.mem_range.2 hm);rw[List.all_eq_true] at g;have k2:=g v (List.mem_range.2 k);rw[List.all_eq_true] at k2;have k3:=k2 o (List.mem_range.2 n);rw[c] at k3
  cases k3
 | [_,_],_,_,_=>rfl
 | _::_::_::l,_,_,h=>exact absurd h (by simp)
theorem Iz {v:Value}(h:Ip NJ 20000 1000000 v):∃ d,v=.tuple #[.agg (la d 1 0 2),.int .i64 0,.int .i64 0]∨∃ b,v=.tuple #[.agg (la d 1 b 2),.int .i64 0,.int .i64 0]:=by
 rcases h with ⟨ln,e,rfl,he,f⟩ | ⟨s,rows,st,b,rfl,a,j,c,g⟩
 ·exfalso;rcases f with a | ⟨s,a,h⟩
  ·rw[oR] at a;cases a
  ·rw[oR] at a;injection a with a;subst a;rcases h with ⟨h,_⟩ | ⟨_,(h | ⟨rows,st,b,c,h⟩)⟩
   ·rw[vR] at h;cases h
   ·unfold xi at h;omega
   ·have:=(Gk c).2;omega
 ·rw[oR] at a;injection a with a;subst a;obtain ⟨rfl,i⟩:=Gk c;exact ⟨_,.inr ⟨b,by rw[i];rfl⟩⟩
theorem IA {v:Value}(h:Ip NK 0 0 v):v=.tuple #[.agg (la [] 0 0 0),.int .i64 2,.int .i64 2]:=by
 rcases h with ⟨ln,e,rfl,he,b⟩ | ⟨s,rows,st,c,rfl,a,i,j,d⟩
 ·rcases b with a | ⟨s,a,h⟩
  ·rw[rD] at a;injection a with a;injection a with f g;subst f;subst g;rfl
  ·rw[rD] at a;cases a
 ·rw[rD] at a;cases a
theorem zq {w:World}{kk:Value→World→Prop}(h:kk (Gw 20000 1000000) w):b8 prog 23 [(0,.int .i64 20000),(1,.int .i64 1000000)] w kk:=bt (fun w=>by kernel_rfl) h
theorem Gl {w:World}{kk:Value→World→Prop}(h:kk (Gw 0 0) w):b8 prog 23 [] w kk:=bt (fun w=>by kernel_rfl) h
theorem OF:enters prog 7=true:=by kernel_rfl
set_option maxHeartbeats 1000000 in
theorem c7 (w:World)(f:jA w):bw prog 7 [] w fun v w'=>v=.bool true∧aT w w':=by
 refine ar (N:=39) func7 OF rfl rfl rfl (by simp) ?_;have H:=Hp.xD f;refine aw (fun w'=>Hp w ab w' [] [oK]) ⟨(),trivial,H⟩ ?_;clear H;rintro ⟨⟩ u j H;refine ak (γ:=Nat × List UInt8 × Int) (fun (g1,_)=>[(1,(ah g1)),(2,.int .i64 0),(3,.int .i64 0)]) (fun (g1,b,a) w'=>Hp w ab w' [an g1 28 (la b 1 a 2)] [oK]) ?_ ?_
 ·refine zq ?_;refine aj (c8 NJ (by decide) Ix 20000 1000000 _ (H.ro 0 rfl)) ?_;rintro v g ⟨d,c⟩;replace H:=H.same c;clear c;obtain ⟨b,a,rfl⟩:∃ b a,v=.tuple #[.agg (la b 1 a 2),.int .i64 0,.int .i64 0]:=by
   obtain ⟨b,(h | ⟨a,h⟩)⟩:=Iz d
   ·exact ⟨b,0,h⟩
   ·exact ⟨b,a,h⟩
  refine H.alloc 28 uD rfl ?_;clear H;intro g1 e H;refine H.storeAll (cs':=la b 1 a 2) 0 rfl mZ rfl oQ ?_;clear H;intro i H;exact ⟨(g1,b,a),⟨rfl,rfl,rfl,trivial⟩,H⟩
 clear H;rintro ⟨g1,b,a⟩ u g H;refine ak (γ:=Nat) (fun g4=>[(4,(ah g4)),(5,.int .i64 2),(6,.int .i64 2)]) (fun g4 w'=>Hp w ab w' [an g4 28 (la [] 0 0 0),an g1 28 (la b 1 a 2)] [oK]) ?_ ?_
 ·refine Gl ?_;refine aj (c8 NK (by decide) Iy 0 0 _ (H.ro 0 rfl)) ?_;rintro v e ⟨d,c⟩;replace H:=H.same c;clear c;obtain rfl:=IA d;refine H.alloc 28 uD rfl ?_;clear H;intro g4 i H;refine H.storeAll (cs':=la [] 0 0 0) 0 rfl mZ rfl oQ ?_;clear H;intro k H;exact ⟨g4,⟨rfl,rfl,rfl,trivial⟩,H⟩
 clear H;rintro g4 u e H;refine aa (rC _ _) ?_;refine H.load 1 rfl aF rfl ?_;refine ag rfl ?_;refine aa (pL _ _) ?_;refine ag rfl ?_;refine H.load 1 rfl aF rfl ?_
 iterate 11 refine ag rfl ?_
 exact ⟨rfl,H.keeps⟩
theorem DL {t:Tb}(d:kh t):(dW t).length≤100000:=by
 have a:=ry d;have b:=mz d.ni d.no4 _ d.ls;have c:=d.few;unfold dW;simp only[List.length_append,List.length_cons,List.length_nil];omega
theorem I0 {text:List UInt8}(c:text.length≤100000){s:Rd}(b:cu text=.ok s)(w:World):bw prog 9 [aU text] w fun r w'=>∃ v S,r=.tuple #[sF s.kd s.ni s.no v,.int .i64 0,.int .i64 0]∧eE w w' (ki S v s.ls):=
 (c9 text c w).mono fun r w' h=>by
  rcases h with ⟨h,_⟩ | ⟨f,v,S,a,d,e⟩
  ·exact absurd b (h s)
  ·rw[b] at a;injection a with a;subst a;exact ⟨v,S,d,e⟩
theorem Gm {t:Tb}(a:kh t)(w:World):bw prog 9 [aU (dW t)] w fun r w'=>∃ v S,r=.tuple #[sF t.kd t.ni t.no v,.int .i64 0,.int .i64 0]∧eE w w' (ki S v t.ls):=by
 obtain ⟨s,b,e⟩:=zk a;subst e;exact I0 (DL a) b w
theorem Gn {w0 w:World}{F:Nat→Prop}{L M:List cH}{S:Nat→Prop}{v:Value}{ls:List Ln}(H:Hp w0 F w L M)(n:Nat)(a:L[n]?=some (ki S v ls)):jg w v ls:=qw.mono (H.get n a) fun g b=>H.lt _ (List.mem_of_getElem? a) g b
theorem Lm {w0 w:World}{F:Nat→Prop}{L M:List cH}{b:Nat→Prop}{S:dX}{Bo Bm:Option Addr}{co cm:Nat}(H:Hp w0 F w L M)(n:Nat)(a:L[n]?=some (pJ b S Bo co Bm cm)):fY w S Bo co Bm cm:=xp (H.get n a) fun g c=>H.lt _ (List.mem_of_getElem? a) g c
theorem zr {w:World}{S:Nat→Prop}{v:Value}{ls:List Ln}(h:(ki S v ls).ok w):∃ B c,v=.slice B ls.length c:=by
 obtain ⟨B,c,_,h,_⟩:=h;exact ⟨B,c,h⟩
theorem DM {text:List UInt8}{nodes steps:Int}{v:Value}(f:Ip text nodes steps v):∃ a b c d ln e,v=.tuple #[.agg (la a b c d),.int .i64 ln,.int .i64 e]∧(e≠0∨(e=0∧∃ s rows,a=dW (eU (fm s.tb) rows)∧d=(rows.length:Int)∧cu text=.ok s∧cU s.tb s.no=false∧pH (fm s.tb) nodes steps rows b c 0∧rows.length≤64)):=by
 rcases f with ⟨ln,e,rfl,he,_⟩ | ⟨s,rows,st,g,rfl,h,i,j,k⟩
 ·exact ⟨_,_,_,_,_,_,rfl,.inl he⟩
 ·exact ⟨_,_,_,_,_,_,rfl,.inr ⟨rfl,s,rows,rfl,rfl,h,i,j,k⟩⟩
theorem Gp {S:dX}{nodes steps:Int}{rows:List Rw}{st a:Int}(h:pH S nodes steps rows st a 0):(st=1∧a=0∧∀ L,(∀ x ∈ L,gE S.n S.on.length x)→bA S L=true→rows.length≤L.length)∨(st=2∧y3 S rows∧(a=5∨a=6)):=by
 rcases h with ⟨_,_,_,_,h⟩ | ⟨_,_,(⟨b,c,_,_,d⟩ | ⟨b,c,d⟩)⟩
 ·cases h
 ·exact .inl ⟨b,c,d⟩
 ·exact .inr ⟨b,c,d.imp (fun h=>h.1) fun h=>h.1⟩
theorem Gq {text:List UInt8}(h:oY text 3 2=true):oY text 4 3=true:=by
 unfold oY at h ⊢
 cases hp:cu text with
 | error e=>rfl
 | ok s=>
  rw[hp] at h;simp only[Bool.and_eq_true,decide_eq_true_eq] at h ⊢;omega
theorem OG:enters prog 5=true:=by kernel_rfl
set_option maxHeartbeats 4000000 in
theorem c5 (text:List UInt8)(hlt:text.length<9223372036854775808)(nodes steps:Int)(w:World)(hg:jA w) :
  bw prog 5 [aU text,Gw nodes steps] w fun v w'=>v=.bool true∧aT w w':=by
 refine ar (N:=115) func5 OG rfl rfl rfl (by simp) ?_;have H:=Hp.xD hg;refine ak (γ:=Nat) (fun g3=>[(3,(ah g3)),(4,.bool false)]) (fun g3 w'=>Hp w ab w' [an g3 23 (lb nodes steps)] [oK]) ?_ ?_
 ·refine H.box 23 (Gw nodes steps) (cs:=lb nodes steps) rfl ?_;clear H;intro g3 w1 H;exact ⟨g3,⟨rfl,rfl,trivial⟩,H⟩
 clear H;rintro g3 u w1 H;refine aw (fun w'=>(text.length≤9000∧oY text 3 2=true)∧Hp w ab w' [an g3 23 (lb nodes steps)] [oK]) ?_ ?_
 ·refine ed (by kernel_rfl:Tryz.prog.underlying 9=some .string) ?_;have hsz:(⟨text.toArray⟩:ByteArray).size=text.length:=rfl;by_cases h9:text.length≤9000
  ·have l:¬ (((⟨text.toArray⟩:ByteArray).size:Int)>9000):=by omega
   have x:=fun u=>Pm text (by omega) 3 2 u
   cases hf:oY text 3 2 with
   | true=>
    rw[hf] at x
    iterate 2 refine af (decide_eq_false l) ?_
    refine aj (x _) ?_;rintro _ X ⟨rfl,b⟩;replace H:=H.same b;clear b
    iterate 2 refine af (decide_eq_false l) ?_
    refine af rfl ?_;exact ⟨(),trivial,⟨h9,rfl⟩,H⟩
   | false=>
    rw[hf] at x
    iterate 2 refine af (decide_eq_false l) ?_
    refine aj (x _) ?_;rintro _ X ⟨rfl,b⟩;replace H:=H.same b;clear b
    iterate 2 refine af (decide_eq_false l) ?_
    refine ag rfl ?_;refine aj (c7 _ (H.ro 0 rfl)) ?_;rintro _ S ⟨rfl,b⟩;replace H:=H.same b;clear b;exact ⟨rfl,H.keeps⟩
  ·have l:(((⟨text.toArray⟩:ByteArray).size:Int)>9000):=by omega
   iterate 4 refine ag (decide_eq_true l) ?_
   refine ag rfl ?_;refine aj (c7 _ (H.ro 0 rfl)) ?_;rintro _ Y ⟨rfl,b⟩;replace H:=H.same b;clear b;exact ⟨rfl,H.keeps⟩
 clear H;rintro ⟨⟩ u w2 ⟨⟨Z,y⟩,H⟩;have o:=Gq y;refine ak (γ:=Nat × List UInt8 × Int × Int × Int × Int × Int) (fun (g5,_,_,_,_,ln,e)=>[(5,(ah g5)),(6,.int .i64 ln),(7,.int .i64 e)]) (fun (g5,I,z,k,J,ln,e) w'=>(e≠0∨(e=0∧∃ s rows,I=dW (eU (fm s.tb) rows)∧J=(rows.length:Int)∧cu text=.ok s∧cU s.tb s.no=false∧pH (fm s.tb) nodes steps rows z k 0∧rows.length≤64))∧Hp w ab w' [an g5 28 (la I z k J),an g3 23 (lb nodes steps)] [oK]) ?_ ?_
 ·refine H.ai 0 rfl FH AQ ?_;refine aj (c8 text (by omega) o nodes steps _ (H.ro 0 rfl)) ?_;rintro v w3 ⟨hR,b⟩;replace H:=H.same b;clear b;obtain ⟨I,z,k,J,ln,e,rfl,T⟩:=DM hR;refine H.alloc 28 uD rfl ?_;clear H;intro g5 w4 H;refine H.storeAll (cs':=la I z k J) 0 rfl mZ rfl oQ ?_;clear H;intro X H;exact ⟨(g5,I,z,k,J,ln,e),⟨rfl,rfl,rfl,trivial⟩,T,H⟩
 clear H;rintro ⟨g5,I,z,k,J,ln,e⟩ u w3 ⟨T,H⟩;refine aw (fun w'=>(e=0∧z=2)∧Hp w ab w' [an g5 28 (la I z k J),an g3 23 (lb nodes steps)] [oK]) ?_ ?_
 ·by_cases he:e=0
  ·subst he;obtain ⟨s,rows,_,_,_,_,U,_⟩:=(T.resolve_left fun h=>h rfl).2;rcases Gp U with ⟨rfl,rfl,_⟩ | ⟨rfl,_⟩
   ·refine af rfl ?_;refine aa (pL _ _) ?_;refine af rfl ?_;refine H.load 0 rfl il rfl ?_
    iterate 2 refine af rfl ?_
    refine ag rfl ?_;refine af rfl ?_;refine aa (pL _ _) ?_;refine af rfl ?_;refine H.load 0 rfl il rfl ?_
    iterate 2 refine af rfl ?_
    refine ag rfl ?_;refine aa (uE _ _) ?_;refine ag rfl ?_;refine H.load 0 rfl il rfl ?_;refine ag rfl ?_;refine af rfl ?_;refine ag rfl ?_;refine af rfl ?_;refine ag rfl ?_;refine aj (c7 _ (H.ro 0 rfl)) ?_;rintro _ w27 ⟨rfl,b⟩;replace H:=H.same b;clear b;refine ag rfl ?_;exact ⟨rfl,H.keeps⟩
   ·refine af rfl ?_;refine aa (pL _ _) ?_;refine af rfl ?_;refine H.load 0 rfl aF rfl ?_
    iterate 3 refine af rfl ?_
    exact ⟨(),trivial,⟨rfl,rfl⟩,H⟩
  ·iterate 4 refine ag (bne_iff_ne.2 he) ?_
   refine ag rfl ?_
   iterate 6 refine ag (bne_iff_ne.2 he) ?_
   refine ag rfl ?_;refine aj (c7 _ (H.ro 0 rfl)) ?_;rintro _ w17 ⟨rfl,b⟩;replace H:=H.same b;clear b;refine ag rfl ?_;exact ⟨rfl,H.keeps⟩
 clear H;rintro ⟨⟩ u w4 ⟨⟨rfl,rfl⟩,H⟩;obtain ⟨s,rows,rfl,rfl,Q,x,U,h64⟩:=(T.resolve_left fun h=>h rfl).2;have ht:=kD Q;have hS:=uF ht x;have g:=uG hS U;have A:=Ce hS g h64;obtain ⟨hn3,hk2⟩:=Gj y Q;have c:y3 (fm s.tb) rows∧(k=5∨k=6):=by
  rcases Gp U with ⟨h,_⟩ | ⟨_,h⟩
  ·cases h
  ·exact h
 refine ak (γ:=Nat × Value × (Nat→Prop)) (fun (g8,_)=>[(8,(ah g8))]) (fun (g8,v1,C) w'=>Hp w ab w' [an g8 33 (di s.kd s.ni s.no v1),ki C v1 s.ls,an g5 28 (la (dW (eU (fm s.tb) rows)) 2 k (rows.length:Int)),an g3 23 (lb nodes steps)] [oK]) ?_ ?_
 ·refine aj (I0 (by omega) Q _) ?_;rintro _ X ⟨v1,C,rfl,K⟩;replace H:=H.bq K;obtain ⟨B,cc',rfl⟩:=zr (H.get 0 rfl);refine H.alloc 33 (cs:=di 0 0 0 (.slice none 0 0)) mX rfl ?_;clear H;intro g8 w6 H;refine H.storeAll 0 rfl bG rfl dz ?_;clear H;intro w7 H;exact ⟨(g8,_,C),⟨rfl,trivial⟩,H⟩
 clear H;rintro ⟨g8,v1,C⟩ u X H;refine ak (γ:=Nat × Option Addr × Nat × (Nat→Prop)) (fun (g11,_)=>[(11,(ah g11))]) (fun (g11,m,d2,M) w'=>Hp w ab w' [an g11 33 (di (eU (fm s.tb) rows).kd (eU (fm s.tb) rows).ni (eU (fm s.tb) rows).no (.slice m (eU (fm s.tb) rows).ls.length d2)),ki M (.slice m (eU (fm s.tb) rows).ls.length d2) (eU (fm s.tb) rows).ls,an g8 33 (di s.kd s.ni s.no v1),ki C v1 s.ls,an g5 28 (la (dW (eU (fm s.tb) rows)) 2 k (rows.length:Int)),an g3 23 (lb nodes steps)] [oK]) ?_ ?_
 ·refine aa (Gg _ _) ?_;refine H.load 2 rfl wy rfl ?_;refine aj (Gm A _) ?_;rintro _ w6 ⟨v2,M,rfl,K⟩;replace H:=H.bq K;obtain ⟨m,d2,rfl⟩:=zr (H.get 0 rfl);refine H.alloc 33 (cs:=di 0 0 0 (.slice none 0 0)) mX rfl ?_;clear H;intro g11 w7 H;refine H.storeAll 0 rfl bG rfl dz ?_;clear H;intro Y H;exact ⟨(g11,m,d2,M),⟨rfl,trivial⟩,H⟩
 clear H;rintro ⟨g11,m,d2,M⟩ u w6 H;refine ak (γ:=Nat × Option Addr × Nat × Option Addr × Nat × (Nat→Prop)) (fun (g14,_)=>[(14,(ah g14))]) (fun (g14,Bo,co,Bm,cm,F) w'=>Hp w ab w' [an g14 41 (bo (fm s.tb).n (.slice Bo (fm s.tb).on.length co) (.slice Bm (fm s.tb).may.length cm)),pJ F (fm s.tb) Bo co Bm cm,an g11 33 (di (eU (fm s.tb) rows).kd (eU (fm s.tb) rows).ni (eU (fm s.tb) rows).no (.slice m (eU (fm s.tb) rows).ls.length d2)),ki M (.slice m (eU (fm s.tb) rows).ls.length d2) (eU (fm s.tb) rows).ls,an g8 33 (di s.kd s.ni s.no v1),ki C v1 s.ls,an g5 28 (la (dW (eU (fm s.tb) rows)) 2 k (rows.length:Int)),an g3 23 (lb nodes steps)] [oK]) ?_ ?_
 ·refine H.ai 2 rfl ft bG ?_;refine aj (c12 ht v1 _ (Gn H 3 rfl)) ?_;rintro _ w14 (⟨O,_⟩ | ⟨_,Bo,co,Bm,cm,rfl,F,K⟩)
  ·rw[show cU s.tb s.tb.no=false from x] at O;cases O
  replace H:=H.bq K;refine H.alloc 41 (cs:=bo 0 (.slice none 0 0) (.slice none 0 0)) ue rfl ?_;clear H;intro g14 w15 H;refine H.storeAll (cs':=bo s.ni (.slice Bo s.no co) (.slice Bm s.no cm)) 0 rfl bL rfl kj ?_;clear H;intro w16 H;refine ⟨(g14,Bo,co,Bm,cm,F),⟨rfl,trivial⟩,?_⟩;have e1:=Gi s.tb;have e2:=sH s.tb;show Hp w ab w16 [an g14 41 (bo (fm s.tb).n (.slice Bo (fm s.tb).on.length co) (.slice Bm (fm s.tb).may.length cm)),pJ F (fm s.tb) Bo co Bm cm,an g11 33 (di (eU (fm s.tb) rows).kd (eU (fm s.tb) rows).ni (eU (fm s.tb) rows).no (.slice m (eU (fm s.tb) rows).ls.length d2)),ki M (.slice m (eU (fm s.tb) rows).ls.length d2) (eU (fm s.tb) rows).ls,an g8 33 (di s.kd s.ni s.no v1),ki C v1 s.ls,an g5 28 (la (dW (eU (fm s.tb) rows)) 2 k (rows.length:Int)),an g3 23 (lb nodes steps)] [oK];rw[e1,e2];exact H
 clear H;rintro ⟨g14,Bo,co,Bm,cm,F⟩ u w7 H;refine ak (γ:=Nat × List UInt8 × Int × List Rw) (fun (g16,_)=>[(16,(ah g16)),(18,.int .i64 0)]) (fun (g16,i,j,a) w'=>a.length≤rows.length∧Hp w ab w' [an g16 28 (la i 1 j (a.length:Int)),an g14 41 (bo (fm s.tb).n (.slice Bo (fm s.tb).on.length co) (.slice Bm (fm s.tb).may.length cm)),pJ F (fm s.tb) Bo co Bm cm,an g11 33 (di (eU (fm s.tb) rows).kd (eU (fm s.tb) rows).ni (eU (fm s.tb) rows).no (.slice m (eU (fm s.tb) rows).ls.length d2)),ki M (.slice m (eU (fm s.tb) rows).ls.length d2) (eU (fm s.tb) rows).ls,an g8 33 (di s.kd s.ni s.no v1),ki C v1 s.ls,an g5 28 (la (dW (eU (fm s.tb) rows)) 2 k (rows.length:Int)),an g3 23 (lb nodes steps)] [oK]) ?_ ?_
 ·refine zq ?_;refine aj (c8 text (by omega) o 20000 1000000 _ (H.ro 0 rfl)) ?_;rintro v Y ⟨hR,b⟩;replace H:=H.same b;clear b;have E:∀ {a:List Rw} {t p:Int},pH (fm s.tb) 20000 1000000 a t p 0→t=1∧a.length≤rows.length:=fun q=>by
   obtain ⟨h1,_,_,h4⟩:=vS (show (fm s.tb).n≤3 from hn3) (by rw[sH];exact hk2) q;exact ⟨h1,h4 rows c.1.1 c.1.2.1⟩
  obtain ⟨i,j,a,rfl,hle⟩:∃ i j,∃ a:List Rw,v=.tuple #[.agg (la i 1 j (a.length:Int)),.int .i64 0,.int .i64 0]∧a.length≤rows.length:=by
   rcases hR with ⟨ln,e,rfl,he,hr⟩ | ⟨s',a,t,p,rfl,f,O,q,_⟩
   ·exfalso;rcases hr with f | ⟨s',f,h⟩
    ·rw[Q] at f;cases f
    ·rw[Q] at f;injection f with f;subst f;rcases h with ⟨h,_⟩ | ⟨_,(h | ⟨a,t,p,q,h⟩)⟩
     ·rw[x] at h;cases h
     ·unfold xi at h;omega
     ·have:=(E q).2;omega
   ·rw[Q] at f;injection f with f;subst f;obtain ⟨rfl,h⟩:=E q;exact ⟨_,_,a,rfl,h⟩
  refine H.alloc 28 uD rfl ?_;clear H;intro g16 w9 H;refine H.storeAll (cs':=la i 1 j (a.length:Int)) 0 rfl mZ rfl oQ ?_;clear H;intro S H;exact ⟨(g16,i,j,a),⟨rfl,rfl,trivial⟩,hle,H⟩
 clear H;rintro ⟨g16,i,j,a⟩ u Y ⟨hle,H⟩;have hle':(a.length:Int)≤(rows.length:Int):=by omega
 have r:(eU (fm s.tb) rows).ls.length=rows.length:=List.length_map _;have G:=fun u h=>Pp A (.slice m (eU (fm s.tb) rows).ls.length d2) u h;rw[show (eU (fm s.tb) rows).ls.map lP=rows from Ic g,r] at G;have V:=fun D d u h1 h2=>Pr hS rows g c.1.2.1 c.1.2.2 (by omega) Bo co Bm cm D d u h1 h2;rw[r] at H;have h5:=c.2;have hhl:text.length≤9000:=Z;clear c T U;refine H.draw eO (by kernel_rfl) ?_;clear H;intro w9 H;refine quiet _ (fun w H=>H.ai 1 rfl dw bL ae) ?_;refine quiet _ (fun w H=>H.ai 3 rfl ft bG ae) ?_;refine aj (G _ (Gn H 4 rfl)) ?_;rintro _ S ⟨D,d,rfl,K⟩;replace H:=H.bq K;refine ⟨.inl H.forget,?_⟩;refine aj (V _ _ _ (Lm H 3 rfl) (bB (H.get 0 rfl))) ?_;rintro _ w11 ⟨rfl,b⟩;replace H:=(H.forget).same b;clear b;refine ⟨.inl H,?_⟩;rcases h5 with rfl | rfl
 ·refine ag rfl ?_;refine quiet _ (fun w H=>aa (uE _ _) ae) ?_;refine ag rfl ?_;refine quiet _ (fun w H=>H.load 7 rfl il rfl ae) ?_
  iterate 12 refine ag rfl ?_
  refine quiet _ (fun w H=>aa (pL _ _) ae) ?_;refine ag rfl ?_;refine quiet _ (fun w H=>H.load 0 rfl aF rfl ae) ?_
  iterate 3 refine ag rfl ?_
  refine quiet _ (fun w H=>aa (rC _ _) ae) ?_;refine ag rfl ?_;refine quiet _ (fun w H=>H.load 0 rfl aF rfl ae) ?_;refine ag rfl ?_;refine quiet _ (fun w H=>aa (rC _ _) ae) ?_;refine ag rfl ?_;refine quiet _ (fun w H=>H.load 7 rfl il rfl ae) ?_
  iterate 2 refine ag rfl ?_
  refine ag (decide_eq_true (by assumption)) ?_;refine aj (c7 _ (H.ro 0 rfl)) ?_;rintro _ w46 ⟨rfl,b⟩;replace H:=H.same b;clear b;refine ⟨.inl H,?_⟩;refine ag (decide_eq_true (by assumption)) ?_;exact ⟨rfl,H.keeps⟩
 ·refine ag rfl ?_;refine quiet _ (fun w H=>aa (uE _ _) ae) ?_;refine ag rfl ?_;refine quiet _ (fun w H=>H.load 7 rfl il rfl ae) ?_
  iterate 2 refine ag rfl ?_
  refine af rfl ?_;refine quiet _ (fun w H=>aa (uE _ _) ae) ?_;refine af rfl ?_;refine quiet _ (fun w H=>H.load 7 rfl il rfl ae) ?_;refine af rfl ?_;refine ag rfl ?_;refine af rfl ?_
  iterate 5 refine ag rfl ?_
  refine quiet _ (fun w H=>aa (pL _ _) ae) ?_;refine ag rfl ?_;refine quiet _ (fun w H=>H.load 0 rfl aF rfl ae) ?_
  iterate 3 refine ag rfl ?_
  refine quiet _ (fun w H=>aa (rC _ _) ae) ?_;refine ag rfl ?_;refine quiet _ (fun w H=>H.load 0 rfl aF rfl ae) ?_;refine ag rfl ?_;refine quiet _ (fun w H=>aa (rC _ _) ae) ?_;refine ag rfl ?_;refine quiet _ (fun w H=>H.load 7 rfl il rfl ae) ?_
  iterate 2 refine ag rfl ?_
  refine ag (decide_eq_true (by assumption)) ?_;refine aj (c7 _ (H.ro 0 rfl)) ?_;rintro _ w48 ⟨rfl,b⟩;replace H:=H.same b;clear b;refine ⟨.inl H,?_⟩;refine ag (decide_eq_true (by assumption)) ?_;exact ⟨rfl,H.keeps⟩
end Go.Proofs.YtpjihhgjbbihkaaGreatDoor
namespace Go.Dk
open Go.ChangeShapes Go.WideShapes Go.ChangeAt Go.RowKit
section
variable {H:Type} {enc:TypeId × Value→H}
theorem xE {a:Assume}{C:Checked}{os:Os}{f:FuncId}{fn:Func}{s:ChangeSpec}{conds:List PathCond}{apart fresh handsOn again:Bool}{X:World→Array Value→Prop}(r:∀ (w w':World) (args:Array Value),w.heap=w'.heap→X w args→X w' args)(own:ownKnob C.prog.godebug=none)(started:os.Started)(c:C.prog.inits.idxOf? f=none)(k:C.prog.funcs[f]?=some fn)(witness:∃ (w:World) (tape:Tape) (i:Input),w.os=os∧(w.forCall tape i).Shaped C.prog∧i.vars=[]∧Input.okWide C.prog (w.forCall tape i) .any w.heap.size f i∧((s.pre enc C.prog fn conds apart (w.forCall tape i).memory i.args∧X (w.forCall tape i).memory i.args)∧sizedMet enc C.prog fn (OpenSpec.ofChange s) apart (w.forCall tape i).memory i.args)∧a.holds C.prog (lone (Frame.enter C.prog f i.args .normal) [] (w.forCall tape i)))(b:∀ (W:World) (base:Nat) (args:Array Value) (l gs:List (DataW H)) (before:List MemPlace),
   (∀ (j:Nat) t v,fn.params[j]?=some t→args[j]?=some v→Value.okWide C.prog W .any base t v)→
   DataW.Whole enc C.prog fn.params.toList s.vars apart W args.toList l gs before→X W args→W.ShapedOpen C.prog→
   Calls C.prog f args W fun e q=>∃ v,e=.returned v∧s.post enc C.prog fn apart fresh handsOn again W args v q) :
  ReturnsInHanded a C os f .any (fun w args=>(s.pre enc C.prog fn conds apart w args∧X w args)∧sizedMet enc C.prog fn (OpenSpec.ofChange s) apart w args) (s.post enc C.prog fn apart fresh handsOn again):=by
 refine returnsInHanded_of_calls own started c witness ?_;intro w tape i _ m _ n d _;obtain ⟨_,_,_,o,g,_,_,_,_,h⟩:=n;have e:o=fn:=Option.some.inj (g.symm.trans k);subst e;obtain ⟨⟨⟨l,gs,before,hw,y⟩,u⟩,z⟩:=d;have p:=DataW.Whole.of_heap (w':=w.forCall tape i) (by rfl) hw;refine (b (w.forCall tape i) w.heap.size i.args l gs before h p (r _ _ _ (by rfl) u) m).mono fun e q ⟨v,he,x⟩=>?_;subst he;exact ChangeSpec.post_blind x
end
end Go.Dk
namespace Go.Proofs.YtpjihhgjbbihkaaGreatDoor
open Go.Proofs.Tryz
open Go.Dk Go.ChangeShapes Go.WideShapes Go.ChangeAt Go.RowKit
set_option maxRecDepth 100000
abbrev n9:List (String × DataW Unit):=Rows.topCoversRow.laid
theorem OH {H:Type}:(Rows.laid_internal_strconv_uint64pow10:DataW H)=Lib.tabData .u64 Lib.pow10Tab:=by kernel_rfl
theorem Gr (u : TypeId) (h : Tryz.prog.typeName? 3 u = some "*errors.errorString") : u = 284 :=
 typeName_ptr_named (nm := "errors.errorString") (by kernel_rfl) (by kernel_rfl) (by decide) u h
theorem NB {W:World}(h0:laidMetH prog n9 W)(hsh:W.ShapedOpen prog):jA W:=by
 have h:laidMet prog n9 W:=by
  rw[MakeChecks.laidMetH_plain _ _ _ (by kernel_rfl)] at h0;exact h0
 have h2 : laidMet prog (("internal/strconv.uint64pow10", Lib.tabData .u64 Lib.pow10Tab) :: n9.drop 3) W := by
  rw[← OH];exact h.tail.tail
 obtain ⟨a1,_,hr,_⟩:=laid_sentinel (g:=5) h.tail.tail.tail.tail (by kernel_rfl) (by kernel_rfl) underlying155 Gr underlying284 underlying286 rfl rfl underlying9 (by kernel_rfl) (by kernel_rfl);obtain ⟨a2,_,hs,_⟩:=laid_sentinel (g:=4) h.tail.tail.tail.tail.tail (by kernel_rfl) (by kernel_rfl) underlying155 Gr underlying284 underlying286 rfl rfl underlying9 (by kernel_rfl) (by kernel_rfl);exact ⟨cell_of_shapedOpen_int (P:=prog) (g:=0) (t:=3) (zero:=#[.int .i64 0]) hsh (of_decide_eq_true (by kernel_rfl)) (by kernel_rfl) rfl (by kernel_rfl) (by kernel_rfl) underlying3,
  ⟨_,_,hs⟩,⟨_,_,hr⟩,Lib.tabIs_of_head (g:=1) (by kernel_rfl) (by kernel_rfl) (by kernel_rfl:Tryz.prog.underlying 257=some (.array 20 81)) (by kernel_rfl) (by kernel_rfl) (by kernel_rfl) h2⟩
theorem IB {g:FuncId}{f:Func}{s:ChangeSpec}(os:Os)(started:os.Started)(H:Type)(enc:TypeId × Value→H)(k:Tryz.checked.prog.inits.idxOf? g=none)(S:Tryz.checked.prog.funcs[g]?=some f)(y:(f.params.toList.all fun t=>Tryz.checked.prog.readableRec t&&decide (t<Tryz.checked.prog.types.size))=true)(z:f.resultTypes=#[4])(c:s.vars=[])(l:∀ a:List (DataW H),a.length=f.params.size→s.fn H a={ results:=[.lit (.bool true)],args:=a })(witness:∃ (w:World) (tape:Tape) (i:Input),w.os=os∧(w.forCall tape i).Shaped Tryz.checked.prog∧i.vars=[]∧Input.okWide Tryz.checked.prog (w.forCall tape i) .any w.heap.size g i∧((s.pre enc Tryz.checked.prog f [] false (w.forCall tape i).memory i.args∧laidMetH prog n9 (w.forCall tape i).memory)∧sizedMet enc Tryz.checked.prog f (OpenSpec.ofChange s) false (w.forCall tape i).memory i.args)∧({}:Assume).holds Tryz.checked.prog (lone (Frame.enter Tryz.checked.prog g i.args .normal) [] (w.forCall tape i)))(m:∀ (W:World) (args:Array Value),Ek Tryz.checked.prog f W args→jA W→Calls Tryz.checked.prog g args W fun e A=>e=.returned (.bool true)∧aT W A) :
  ReturnsInHanded {} Tryz.checked os g .any (fun w args=>(s.pre enc Tryz.checked.prog f [] false w args∧laidMetH prog n9 w)∧sizedMet enc Tryz.checked.prog f (OpenSpec.ofChange s) false w args) (s.post enc Tryz.checked.prog f false true false false):=by
 have j:∀ t ∈ f.params.toList,Tryz.checked.prog.readableRec t=true∧t<Tryz.checked.prog.types.size:=fun t T=>by
  have:=List.all_eq_true.1 y t T;simpa using this
 refine xE (C:=Tryz.checked) (X:=fun w _=>laidMetH prog n9 w) (fun _ _ _ U h=>h.of_heap U) (by kernel_rfl) started k S witness ?_;intro W base args a gs before B M V I;have Y:=NB V I;have D:=M;obtain ⟨p,q,J,N,rfl,Z,a0⟩:=M;rw[c] at N;obtain ⟨rfl,rfl⟩:=trodVars_none N;have hlen:a.length=f.params.size:=by
  have:∀ (E:List TypeId) (G:List Value) (a:List (DataW H)) (K:List MemPlace) ,DataW.TrodAll enc Tryz.checked.prog W 0 (fun _=>true) true E G a K→a.length=E.length:=by
   intro E
   induction E with
   | nil=>intro G a K h;obtain ⟨_,rfl,_⟩:=trodAll_nil h;rfl
   | cons t E ih=>intro G a K h;obtain ⟨v,G,d,a,p,q,rfl,rfl,rfl,_,h2⟩:=trodAll_cons h;simp[ih _ _ _ h2]
  simpa using this _ _ _ _ J
 have n:s.fn H (a++[])={ results:=[.lit (.bool true)],args:=a }:=by rw[List.append_nil];exact l a hlen
 refine (m W args ⟨⟨base,B⟩,H,enc,a,p,J⟩ Y).mono fun e A ⟨he,O⟩=>?_;subst he;have F:∀ x ∈ p,x.block<W.heap.size:=fun x u=>D.lt x (by simp[u]);have reads:∀ sp:Nat→Bool,(∀ x ∈ p,sp x.block=true)→DataW.TrodAll enc Tryz.checked.prog A 0 sp true f.params.toList args.toList a p:=
  fun sp hs=>uL laidOut O.below _ _ _ _ j J F hs
 have answer:∀ (b:Nat) (sp:Nat→Bool) (Q:Bool),DataW.TrodAll enc Tryz.checked.prog A b sp Q f.resultTypes.toList ((Value.bool true).resultList f.resultTypes.size) [.lit (.bool true)] []:=fun b sp Q=>by
  rw[z];exact trodAll_cons_mk (p:=[]) (shut_bool underlying4 _) trodAll_mk0
 have o:∀ sp:Nat→Bool,DataW.TrodVars enc Tryz.checked.prog A sp s.vars [] []:=fun sp=>by rw[c];exact rfl
 have r:∀ x ∈ p,decide (x.block<W.heap.size)=true:=fun x u=>decide_eq_true (F x u);refine ⟨_,rfl,a,[],p++[],[],p,[],D,?_,?_,?_,?_,fun again=>by cases again⟩
 ·rw[n];exact answer _ _ _
 ·rw[n];exact reads _ r
 ·rw[n];exact o _
 ·exact World.keptBut_mono (fun x u=>⟨u,Or.inr (by simpa using u)⟩) (O.below.frame (· ∈ p++[]))
theorem IC (os:Os)(args:Array Value):((World.laidAll prog os n9).forCall (fun _ _=>0) ⟨#[],args,[]⟩).Shaped prog:=World.shaped_of_ZipB (by kernel_rfl) (by kernel_rfl)
theorem OI (os:Os)(args:Array Value):laidMetH prog n9 ((World.laidAll prog os n9).forCall (fun _ _=>0) ⟨#[],args,[]⟩).memory:=by
 rw[MakeChecks.laidMetH_plain _ _ _ (by kernel_rfl)];exact laidMet_laidAll _ (by kernel_rfl) (by kernel_rfl)
open Go.ChangeMaps
section
variable {H:Type} {enc:TypeId × Value→H} {w:World} {base b:Nat} {spare:Nat→Bool} {held:Bool}
theorem ID:Tryz.prog.cellsOf 23=2:=by kernel_rfl
theorem Bq {v:Value}{d:DataW H}{g:List MemPlace}(a:Value.okWide prog w .any b 23 v)(h:DataW.Trod enc prog w base spare held 23 v d g):∃ n s:Int,v=Gw n s:=by
 unfold Value.okWide at a;rw[underlying23] at a;obtain ⟨⟨cs⟩,rfl,i,_⟩:=a;obtain ⟨fuel,j⟩:=h;obtain ⟨o,p,n,_,f,c,e⟩:=trod_struct2 underlying23 j;rw[ID] at f;rw[JA] at c e
 match cs,f,c,e with
 | [c0,c1],_,c,e=>
  obtain ⟨m,_,e0⟩:=EB c;obtain ⟨s,_,k⟩:=EB e;have k0:c0=Value.int .i64 m:=(List.cons.inj e0).1;have l:c1=Value.int .i64 s:=(List.cons.inj k).1;exact ⟨m,s,by rw[k0,l];rfl⟩
end
end Go.Proofs.YtpjihhgjbbihkaaGreatDoor
