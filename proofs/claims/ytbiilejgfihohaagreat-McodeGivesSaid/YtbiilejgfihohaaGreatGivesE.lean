/- A part of what the last text of this claim leans on. -/
import Derived.Test.YtbiilejgfihohaaGreatGivesD
import Derived.Shelf.Sort.Plain
import Derived.Shelf.Slices.In.SortNone
import Derived.Ground.NamesProg
import Derived.Test.YtbiilejgfihohaaGreatProg
import Derived.Shelf.SlGeneric
import Derived.Shelf.SlSortCmp.WholeK
import Derived.Ground.SlsfProg
import Derived.Sort.Grow
import Derived.Sort.Row
import Derived.Shelf.SlSortCmp.NoneTotal
set_option linter.all false
set_option maxHeartbeats 4000000
set_option maxRecDepth 100000
set_option autoImplicit false
namespace Go.Proofs.YtbiilejgfihohaaGreat.Tr
open Go Go.Cu Go.RowKit
theorem tI:Tryz.prog.underlying 25=some (.slice 3):=by kernel_rfl
theorem sI:aWZ Tryz.prog 3 1=true:=by kernel_rfl
theorem oI:isOne Tryz.prog 3=true:=by kernel_rfl
theorem iI:(Tryz.prog.info? 3).map (fun i=>(i.zero,i.size,i.bytes))=some (some (.int .i64 0),1,8):=by kernel_rfl
theorem tB:Tryz.prog.underlying 24=some (.slice 5):=by kernel_rfl
theorem sB:aWZ Tryz.prog 5 1=true:=by kernel_rfl
theorem oB:isOne Tryz.prog 5=true:=by kernel_rfl
theorem iB:(Tryz.prog.info? 5).map (fun i=>(i.zero,i.size,i.bytes))=some (some (.int .u8 0),1,1):=by kernel_rfl
theorem tBB:Tryz.prog.underlying 30=some (.slice 24):=by kernel_rfl
theorem sBB:aWZ Tryz.prog 24 1=true:=by kernel_rfl
theorem oBB:isOne Tryz.prog 24=true:=by kernel_rfl
theorem tII:Tryz.prog.underlying 53=some (.slice 25):=by kernel_rfl
theorem sII:aWZ Tryz.prog 25 1=true:=by kernel_rfl
theorem oII:isOne Tryz.prog 25=true:=by kernel_rfl
def goodFrom:Int→List Int→Bool
 | _,[]=>true
 | p,x::r=>decide (p<x∧x≤255)&&goodFrom x r
def goodB(l:List Int):Bool:=goodFrom (-1) l
def prevI(l:List Int)(i:Nat):Int:=if i=0 then -1 else l.getD (i-1) 0
theorem drop_at{l:List Int}{i:Nat}{x:Int}(h:l[i]? =some x):l.drop i=x::l.drop (i+1):=by
 obtain⟨hi,he⟩:=List.getElem?_eq_some_iff.1 h
 rw[List.drop_eq_getElem_cons hi,he]
theorem prevI_succ{l:List Int}{i:Nat}{x:Int}(h:l[i]? =some x):prevI l (i+1)=x:=by
 unfold prevI;rw[if_neg (by omega),Nat.add_sub_cancel,List.getD_eq_getElem?_getD,h];rfl
theorem isKey_gv(s:Sl)(l:List Int)(w:World)(hr:Rds i64v w s l)(hl:l.length≤9223372036854775806):Gv Tryz.prog 71 #[slv s] (.bool (goodB l)) w:=by
 refine trie_isKey.run _ s w ?_
 unfold trie_isKey.M trie_isKey.l1
 rw[hr.1]
 refine acZ (fun st w'=>st.1=s∧st.2.1=s∧st.2.2.1=(l.length:Int)∧w'=w∧∃i:Nat,i≤l.length∧st.2.2.2.1=(i:Int)∧goodB l=goodFrom (prevI l i) (l.drop i)∧-1≤prevI l i∧(0<i→0≤prevI l i)) (fun st _=>l.length-st.2.2.2.1.toNat) ?_
  ⟨rfl,rfl,rfl,rfl,0,Nat.zero_le _,rfl,rfl,Int.le_refl _,fun h=>absurd h (by omega)⟩
 rintro k ⟨s',t',n',i',u⟩ w' hI hk
 dsimp only at hI hk ⊢
 obtain⟨rfl,rfl,rfl,rfl,i,hi,rfl,hg,hp,hp0⟩:=hI
 unfold trie_isKey.b1
 refine abZ (fun hlt=>?_) (fun hge=>?_)
 ·refine Pu_idx hr tI sI (by omega) (by omega) fun a x hx hc _=>?_
  rw[Int.toNat_natCast]at hx
  refine bwZ (c:=.int .i64) (x:=x) oI hc ?_
  rw[drop_at hx]at hg
  have bad:¬(prevI l i<x∧x≤255)→goodB l=false:=fun h=>by rw[hg];unfold goodFrom;rw[decide_eq_false h];rfl
  have j1f:∀b:Bool,(b=true→goodB l=false)→(b=false→prevI l i<x∧x≤255)→trie_isKey.j1 (fun en w1=>en=Ending.returned (.bool (goodB l))∧Ex w' w1) k t' t' (l.length:Int) (i:Int) b w':=by
   intro b h1 h2
   unfold trie_isKey.j1
   refine Cd_of (fun hb=>⟨by rw[h1 hb],Ex.refl _⟩) (fun hb=>?_)
   obtain⟨q1,q2⟩:=h2 hb
   rw[adZ (x:=(i:Int)+1) (by omega) (by omega)]
   have hps:=prevI_succ hx
   refine hk _ _ ⟨rfl,rfl,rfl,rfl,i+1,by omega,by simp,?_,by omega,fun _=>by omega⟩ (by simp only;omega)
   rw[hg,hps]
   show(decide (prevI l i<x∧x≤255)&&goodFrom x (l.drop (i+1)))=_
   rw[decide_eq_true ⟨q1,q2⟩,Bool.true_and]
  refine abZ (fun h=>j1f true (fun _=>bad ?_) (fun h=>by cases h)) (fun h0=>?_)
  ·omega
  refine abZ (fun h=>j1f true (fun _=>bad ?_) (fun h=>by cases h)) (fun h255=>?_)
  ·omega
  refine abZ (fun hi0=>?_) (fun hi0=>j1f false (fun h=>by cases h) (fun _=>?_))
  ·rw[adZ (x:=(i:Int)-1) (by omega) (by omega)]
   refine Pu_idx hr tI sI (by omega) (by omega) fun a2 y hy hc2 _=>?_
   refine bwZ (c:=.int .i64) (x:=y) oI hc2 ?_
   have hyp:prevI l i=y:=by
    unfold prevI
    rw[if_neg (by omega),List.getD_eq_getElem?_getD,show i-1=((i:Int)-1).toNat by omega,hy];rfl
   refine j1f _ (fun h=>bad ?_) (fun h=>?_)
   ·have:=of_decide_eq_true h;omega
   ·have:=of_decide_eq_false h;omega
  ·have:i=0:=by omega
   subst this
   have:prevI l 0=-1:=rfl
   omega
 ·have:i=l.length:=by omega
  subst this
  rw[List.drop_length]at hg
  exact⟨by rw[hg];rfl,Ex.refl _⟩
end Go.Proofs.YtbiilejgfihohaaGreat.Tr
namespace Go.Proofs.YtbiilejgfihohaaGreat.Tr
open Go Go.Cu Go.RowKit
def RowsLe{α:Type}(ls:List (List α)):Prop:=ls.length≤5864062014634∧∀l∈ls,l.length≤140737488351232
theorem nest_len{α:Type}{f:α→Value}{F:Nat→Prop}{w:World}{s:Sl}{ls:List (List α)}(h:Nest f F w s ls):s.len=ls.length:=by
 obtain⟨ss,h1,h2,_⟩:=h
 rw[h1.1,h2]
end Go.Proofs.YtbiilejgfihohaaGreat.Tr
namespace Go.Proofs.YtbiilejgfihohaaGreat.Tr
open Go Go.Cu Go.RowKit
structure RowsOwn{α:Type}(f:α→Value)(e:TypeId)(base:Nat)(w:World)(ss:List Sl)(ls:List (List α)):Prop where
 len:ss.length=ls.length
 own:∀(i:Nat) (s':Sl) (l:List α),ss[i]? =some s'→ls[i]? =some l→Own f e base w s' l
 apart:∀(i j:Nat) (si sj:Sl) (b:Nat),ss[i]? =some si→ss[j]? =some sj→i≠j→SlIn si b→¬SlIn sj b
theorem RowsOwn.nil{α:Type}(f:α→Value)(e:TypeId)(base:Nat)(w:World):RowsOwn f e base w [] []:=⟨rfl,fun i s' l h=>(by simp at h),fun i j si sj b h=>(by simp at h)⟩
theorem RowsOwn.blk{α:Type}{f:α→Value}{e:TypeId}{base:Nat}{w:World}{ss:List Sl}{ls:List (List α)}(h:RowsOwn f e base w ss ls){i:Nat}{si:Sl}{b:Nat}(hi:ss[i]? =some si)(hb:SlIn si b):base≤b∧b<w.heap.size:=by
 have hil:i<ls.length:=by rw[←h.len];exact(List.getElem?_eq_some_iff.1 hi).1
 exact(h.own i si _ hi (List.getElem?_eq_getElem hil)).base b hb
theorem RowsOwn.mo{α:Type}{f:α→Value}{e:TypeId}{base:Nat}{X:Nat→Prop}{w w':World}{ss:List Sl}{ls:List (List α)}(h:RowsOwn f e base w ss ls)(k:Mo X w w')(hx:∀(i:Nat) (si:Sl) b,ss[i]? =some si→SlIn si b→¬X b):RowsOwn f e base w' ss ls:=
 ⟨h.len,fun i s' l hs hl=>(h.own i s' l hs hl).mo k (fun b hb=>hx i s' b hs hb),h.apart⟩
theorem bjZ{α:Type}{l:List α}{x y:α}{i:Nat}(h:(l++[x])[i]? =some y):(l[i]? =some y∧i<l.length)∨(i=l.length∧y=x):=by
 by_cases hlt:i<l.length
 ·rw[List.getElem?_append_left hlt]at h;exact .inl ⟨h,hlt⟩
 ·rw[List.getElem?_append_right (by omega)]at h
  have hlt2:=(List.getElem?_eq_some_iff.1 h).1
  simp at hlt2
  have:i=l.length:=by omega
  subst this
  rw[Nat.sub_self]at h
  simp at h
  exact .inr ⟨rfl,h.symm⟩
theorem RowsOwn.snoc{α:Type}{f:α→Value}{e:TypeId}{base:Nat}{w0 w1:World}{ss:List Sl}{ls:List (List α)}{row:Sl}{l:List α}(h:RowsOwn f e base w0 ss ls)(hx:Ex w0 w1)(hr:Own f e base w1 row l)(hnew:∀b,SlIn row b→w0.heap.size≤b):
  RowsOwn f e base w1 (ss++[row]) (ls++[l]):=by
 refine⟨by simp[h.len],fun i si m hi hm=>?_,fun i j si sj b hi hj hij hbi hbj=>?_⟩
 ·rcases bjZ hi with ⟨hi',hlt⟩ | ⟨rfl,rfl⟩
  ·rw[List.getElem?_append_left (by rw[←h.len];exact hlt)]at hm
   exact(h.own i si m hi' hm).ex hx
  ·rw[h.len,List.getElem?_append_right (Nat.le_refl _),Nat.sub_self]at hm
   simp at hm
   subst hm;exact hr
 ·rcases bjZ hi with ⟨hi',_⟩ | ⟨rfl,rfl⟩
  ·rcases bjZ hj with ⟨hj',_⟩ | ⟨rfl,rfl⟩
   ·exact h.apart i j si sj b hi' hj' hij hbi hbj
   ·have:=(h.blk hi' hbi).2;have:=hnew b hbj;omega
  ·rcases bjZ hj with ⟨hj',_⟩ | ⟨rfl,rfl⟩
   ·have:=(h.blk hj' hbj).2;have:=hnew b hbi;omega
   ·exact hij rfl
theorem RowsOwn.nestOwn{α:Type}{f:α→Value}{e eo:TypeId}{base:Nat}{w:World}{ss:List Sl}{ls:List (List α)}{s:Sl}(h:RowsOwn f e base w ss ls)(ho:Own slv eo base w s ss)(hne:∀(i:Nat) (si:Sl) b,ss[i]? =some si→SlIn si b→¬SlIn s b):NestOwn f e eo base w s ls:=
 ⟨ss,ho,h.len,h.own,h.apart,hne⟩
theorem set_next{α:Type}(rows:List α)(x z:α)(n:Nat)(f:α→Value):(((rows++List.replicate (n+1) z).map f).take rows.length++[f x]++((rows++List.replicate (n+1) z).map f).drop (rows.length+1))=(rows++[x]++List.replicate n z).map f:=by
 rw[←List.map_take,←List.map_drop,List.take_left,List.replicate_succ,List.drop_append,List.drop_of_length_le (by omega)]
 simp
theorem copied_nest(s:Sl)(ls:List (List Int))(F:Nat→Prop)(w:World)(hr:Nest b8 F w s ls)(hl:RowsLe ls):
  Calls Tryz.prog 66 #[slv s] w fun en w'=>∃s',en=.returned (slv s')∧NestOwn b8 5 24 w.heap.size w' s' ls∧Ex w w':=by
 have h1:=nest_len hr
 obtain⟨ss0,r1,r2,r3,r4⟩:=hr
 have hl1:=hl.1
 refine trie_copied.run _ s w ?_
 unfold trie_copied.M
 rw[h1]
 refine bOZ (f:=slv) (z:=⟨none,0,0⟩) (e:=24) (bytes:=24) tBB (by kernel_rfl) rfl ls.length (by omega) (by omega) rfl rfl fun so w2 hso hB2 hx2=>?_
 unfold trie_copied.l1
 refine acZ (fun st w'=>Ex w w'∧st.1=so∧st.2.1=s∧st.2.2.1=(ls.length:Int)∧∃(i:Nat) (rows:List Sl),i≤ls.length∧st.2.2.2.1=(i:Int)∧rows.length=i∧RowsOwn b8 5 w.heap.size w' rows (ls.take i)∧Has w' w.heap.size ((rows++List.replicate (ls.length-i) (⟨none,0,0⟩:Sl)).map slv) 24∧
   ∀(j:Nat) (si:Sl) b,rows[j]? =some si→SlIn si b→b≠w.heap.size) (fun st _=>ls.length-st.2.2.2.1.toNat) ?_
  ⟨hx2,rfl,rfl,rfl,0,[],Nat.zero_le _,rfl,rfl,RowsOwn.nil _ _ _ _,by simpa using hB2,fun j si b h=>by simp at h⟩
 rintro k ⟨out,t',n',i',u⟩ w' hI hk
 dsimp only at hI hk ⊢
 obtain⟨hx,rfl,rfl,rfl,i,rows,hi,rfl,hri,hro,hB,hne⟩:=hI
 unfold trie_copied.b1
 refine abZ (fun h=>?_) (fun h=>?_)
 ·refine Pu_idx (r1.ex hx) tBB sBB (by omega) (by omega) fun a x hx1 hc1 _=>?_
  refine bwZ (c:=.sl) (x:=x) oBB hc1 ?_
  rw[Int.toNat_natCast]at hx1
  have hil:i<ls.length:=by omega
  have hl1':ls[i]? =some ls[i]:=List.getElem?_eq_getElem hil
  have hrow:=(r4 i x _ hx1 hl1').1
  have hrl:=hl.2 ls[i] (List.getElem_mem hil)
  refine aGZ (s:=⟨none,0,0⟩) (l:=[]) tB iB rfl (Own.nil b8 5 w'.heap.size w') (hrow.ex hx) (fun y=>rfl) (by simp;omega) (by simp;omega) (Nat.le_refl _) fun s2 w3 ho3 hm3 hin3=>?_
  rw[List.nil_append]at ho3
  have hx3:Ex w' w3:=hm3.new (fun i ⟨a,ha,_⟩=>by cases ha)
  rw[hso]
  refine Pu_ix (s:=⟨some ⟨w.heap.size,0,none⟩,ls.length,ls.length⟩) tBB sBB rfl (by omega) (by show(i:Int)<(ls.length:Int);omega) ?_
  rw[Int.toNat_natCast,add_lit]
  have hB3:=hB.ex hx3
  refine awZ (v:=slv s2) hB3 sBB (by simp[Value.cells,Value.oneCell']) (by simp[Value.cells];omega) fun w4 hB4 hm4=>?_
  rw[adZ (x:=(i:Int)+1) (by omega) (by omega)]
  rw[←hso]
  have hx4:Ex w w4:=(hx.trans hx3).into hm4 (fun b hb=>by rw[hb];exact Nat.le_refl _)
  have hnew:∀b,SlIn s2 b→w'.heap.size≤b:=fun b hb=>(ho3.base b hb).1
  have hgl:w.heap.size<w'.heap.size:=hB.lt
  have hro4:RowsOwn b8 5 w.heap.size w4 (rows++[s2]) (ls.take i++[ls[i]]):=by
   refine(hro.snoc hx3 (ho3.weak hx.size) hnew).mo hm4 fun j si b hj hb hn=>?_
   rcases bjZ hj with ⟨hj',_⟩ | ⟨_,rfl⟩
   ·exact hne j si b hj' hb hn
   ·have:=hnew b hb;omega
  refine hk _ _ ⟨hx4,rfl,rfl,rfl,i+1,rows++[s2],by omega,by simp,by simp[hri],?_,?_,?_⟩ (by simp only;omega)
  ·rw[List.take_add_one,hl1'];exact hro4
  ·have hrep:ls.length-i=(ls.length-(i+1))+1:=by omega
   rw[hrep]at hB4
   have:=set_next rows s2 (⟨none,0,0⟩:Sl) (ls.length-(i+1)) slv
   rw[hri]at this
   rw[←this]
   exact hB4
  ·intro j si b hj hb hn
   rcases bjZ hj with ⟨hj',_⟩ | ⟨_,rfl⟩
   ·exact hne j si b hj' hb hn
   ·have:=hnew b hb;omega
 ·have:i=ls.length:=by omega
  subst this
  rw[List.take_length]at hro
  rw[Nat.sub_self,List.replicate_zero,List.append_nil]at hB
  refine⟨out,rfl,?_,hx⟩
  rw[hso]
  exact hro.nestOwn (blZ hri (by omega) hB (Nat.le_refl _)) (fun j si b hj hb hn=>hne j si b hj hb hn.fresh)
theorem clone_own(s:Sl)(l:List Int)(w:World)(hr:Rds i64v w s l)(hl:l.length≤17592186044000):GivesSl Tryz.prog 117 #[slv s] i64v 3 l w:=by
 refine slices_Clone_intint.run _ s w ?_
 unfold slices_Clone_intint.M
 refine Pu_eqnilS tI ?_
 ·refine Cd_of (fun hn=>?_) (fun hn=>?_)
  ·have hb:s.base=none:=by simpa using hn
   have:l=[]:=by
    cases l with
    | nil=>rfl
    | cons y r=>obtain⟨a,ha,_⟩:=hr.2.2 0 y rfl;rw[hb]at ha;cases ha
   subst this
   exact⟨⟨none,0,0⟩,rfl,Own.nil _ _ _ _,Ex.refl w⟩
  ·refine bvZ (f:=i64v) (e:=3) (base:=w.heap.size) [] (by kernel_rfl) (Nat.le_refl _) (by simp) fun s1 w1 ho1 hx1 _=>?_
   refine aGZ tI iI rfl ho1 (hr.ex hx1) (fun y=>rfl) (by simp;omega) (by simp;omega) hx1.size fun s2 w2 ho2 hm2 _=>?_
   rw[List.nil_append]at ho2
   exact⟨s2,rfl,ho2,hx1.into hm2 (fun i hi=>(ho1.base i hi).1)⟩
end Go.Proofs.YtbiilejgfihohaaGreat.Tr
namespace Go.Proofs.YtbiilejgfihohaaGreat.Tr
open Go Go.Cu Go.RowKit
abbrev Path:=List Int
structure Lay where
 nd:Path→Nat
 mp:Path→Nat
 here:Path→Bool
 val:Path→Sl
 rows:Path→List (List Int)
 used:Path→Int
abbrev nodeV(y:Lay)(p:Path):List Value:=[.map (some (y.mp p)),.bool (y.here p),slv (y.val p),.int .i64 (y.used p)]
abbrev topV(y:Lay)(lim n clock:Int):List Value:=[.pointer (some ⟨y.nd [],0,none⟩),.int .i64 lim,.int .i64 n,.int .i64 clock]
abbrev ndP(y:Lay)(p:Path):Option Addr:=some ⟨y.nd p,0,none⟩
structure Mem(w:World)(own vown:Nat→Prop)(tb:Nat)(lim n clock:Int)(ns:List Path)(y:Lay):Prop where
 top:Has w tb (topV y lim n clock) 128
 node:∀p∈ns,Has w (y.nd p) (nodeV y p) 123
 kids:∀p∈ns,∃l,MapIs w (y.mp p) l∧∀x v,(x,v)∈l↔(p++[x]∈ns∧v=.pointer (ndP y (p++[x])))
 injN:∀p∈ns,∀q∈ns,y.nd p=y.nd q→p=q
 injM:∀p∈ns,∀q∈ns,y.mp p=y.mp q→p=q
 topN:∀p∈ns,y.nd p≠tb
 vals:∀p∈ns,y.here p=true→Nest b8 vown w (y.val p) (y.rows p)
 ownN:∀p∈ns,own (y.nd p)∧own (y.mp p)∧¬vown (y.nd p)∧¬vown (y.mp p)
 ownT:own tb∧¬vown tb
 ownV:∀b,vown b→own b
 ownL:∀b,own b→b<w.heap.size
 root:[]∈ns
 pre:∀p x,p++[x]∈ns→p∈ns
theorem bgZ{w:World}{b c:Nat}{cs:List Value}{t:TypeId}{l:List (Int×Value)}(h:Has w b cs t)(m:MapIs w c l):b≠c:=by
 rintro rfl
 obtain⟨es,k,h1,_⟩:=m
 unfold Has at h
 rw[h]at h1;cases h1
theorem Mem.mo{w w':World}{own vown X:Nat→Prop}{tb:Nat}{lim n clock:Int}{ns:List Path}{y:Lay}(h:Mem w own vown tb lim n clock ns y)(k:Mo X w w')(hx:∀b,own b→¬X b):Mem w' own vown tb lim n clock ns y:=
 {h with
  top:=h.top.mo k (hx _ h.ownT.1)
  node:=fun p hp=>(h.node p hp).mo k (hx _ (h.ownN p hp).1)
  kids:=fun p hp=>by obtain⟨l,h1,h2⟩:=h.kids p hp;exact⟨l,h1.mo k (hx _ (h.ownN p hp).2.1),h2⟩
  vals:=fun p hp hh=>(h.vals p hp hh).mo k (fun b hb=>hx b (h.ownV b hb))
  ownL:=fun b hb=>Nat.lt_of_lt_of_le (h.ownL b hb) k.size }
theorem Mem.ex{w w':World}{own vown:Nat→Prop}{tb:Nat}{lim n clock:Int}{ns:List Path}{y:Lay}(h:Mem w own vown tb lim n clock ns y)(k:Ex w w'):Mem w' own vown tb lim n clock ns y:=h.mo k (fun _ _=>id)
theorem Mem.top_set{w w':World}{own vown:Nat→Prop}{tb:Nat}{lim n clock n' clock':Int}{ns:List Path}{y:Lay}(h:Mem w own vown tb lim n clock ns y)(ht:Has w' tb (topV y lim n' clock') 128)(k:Mo (fun b=>b=tb) w w'):Mem w' own vown tb lim n' clock' ns y:=
 {h with
  top:=ht
  node:=fun p hp=>(h.node p hp).mo k (h.topN p hp)
  kids:=fun p hp=>by obtain⟨l,h1,h2⟩:=h.kids p hp;exact⟨l,h1.mo k (fun e=>bgZ h.top h1 e.symm),h2⟩
  vals:=fun p hp hh=>(h.vals p hp hh).mo k (fun b hb e=>h.ownT.2 (e▸hb))
  ownL:=fun b hb=>Nat.lt_of_lt_of_le (h.ownL b hb) k.size }
theorem Mem.node_set{w w':World}{own vown:Nat→Prop}{tb:Nat}{lim n clock:Int}{ns:List Path}{y y':Lay}{p:Path}(h:Mem w own vown tb lim n clock ns y)(hp:p∈ns)(k:Mo (fun b=>b=y.nd p) w w')
  (hn:y'.nd=y.nd) (hm:y'.mp=y.mp) (hB:Has w' (y.nd p) (nodeV y' p) 123) (hq:∀q,q≠p→y'.here q=y.here q∧y'.val q=y.val q∧y'.rows q=y.rows q∧y'.used q=y.used q)
  (hv:y'.here p=true→Nest b8 vown w' (y'.val p) (y'.rows p)):Mem w' own vown tb lim n clock ns y':=by
 have hne:∀q∈ns,q≠p→y.nd q≠y.nd p:=fun q hqn hne e=>hne (h.injN q hqn p hp e)
 refine { h with
  top:=?_,node:=fun q hqn=>?_,kids:=fun q hqn=>?_,injN:=?_,injM:=?_,topN:=?_,vals:=fun q hqn hh=>?_,ownN:=?_,ownL:=fun b hb=>Nat.lt_of_lt_of_le (h.ownL b hb) k.size }
 ·show Has w' tb [.pointer (some ⟨y'.nd [],0,none⟩),_,_,_] _
  rw[hn];exact h.top.mo k (fun e=>h.topN p hp e.symm)
 ·by_cases hqp:q=p
  ·subst hqp;rw[hn];exact hB
  ·obtain⟨e1,e2,e3,e4⟩:=hq q hqp
   show Has w' (y'.nd q) [.map (some (y'.mp q)),.bool (y'.here q),slv (y'.val q),.int .i64 (y'.used q)] _
   rw[hn,hm,e1,e2,e4]
   exact(h.node q hqn).mo k (hne q hqn hqp)
 ·obtain⟨l,h1,h2⟩:=h.kids q hqn
  refine⟨l,?_,fun x v=>?_⟩
  ·rw[hm];exact h1.mo k (fun e=>bgZ (h.node p hp) h1 e.symm)
  ·show _↔(_∧v=.pointer (some ⟨y'.nd _,0,none⟩))
   rw[hn];exact h2 x v
 ·rw[hn];exact h.injN
 ·rw[hm];exact h.injM
 ·rw[hn];exact h.topN
 ·by_cases hqp:q=p
  ·subst hqp;exact hv hh
  ·obtain⟨e1,e2,e3,_⟩:=hq q hqp
   rw[e1]at hh
   rw[e2,e3]
   exact(h.vals q hqn hh).mo k (fun b hb e=>(h.ownN p hp).2.2.1 (e▸hb))
 ·rw[hn,hm];exact h.ownN
theorem tN:Tryz.prog.underlying 118=some (.pointer 123):=by kernel_rfl
theorem tT:Tryz.prog.underlying 76=some (.pointer 128):=by kernel_rfl
theorem tMap:Tryz.prog.underlying 121=some (.map 3 118):=by kernel_rfl
theorem uInt:Tryz.prog.underlying 3=some (.int .i64):=by kernel_rfl
theorem zN:(Tryz.prog.info? 118).bind (·.zero)=some (.pointer none):=by kernel_rfl
theorem Mem.child{w:World}{own vown:Nat→Prop}{tb:Nat}{lim n clock:Int}{ns:List Path}{y:Lay}{p:Path}{x:Int}(h:Mem w own vown tb lim n clock ns y)(hp:p∈ns):
  ∃l,MapIs w (y.mp p) l∧(∀x v,(x,v)∈l↔(p++[x]∈ns∧v=.pointer (ndP y (p++[x]))))∧getM (.pointer none) (lk l x 0)=.pointer (if p++[x]∈ns then ndP y (p++[x]) else none):=by
 obtain⟨l,h1,h2⟩:=h.kids p hp
 refine⟨l,h1,h2,?_⟩
 split
 ·rename_i hin
  exact getM_mem h1 ((h2 x _).2 ⟨hin,rfl⟩)
 ·rename_i hin
  exact getM_not fun v hv=>hin ((h2 x v).1 hv).1
theorem pre_take{ns:List Path}(hpre:∀p x,p++[x]∈ns→p∈ns){l:Path}:∀(d i:Nat),l.length-i=d→l.take (i)∉ns→l∉ns
 | 0,i,hd,h=>by rw[List.take_of_length_le (by omega)]at h;exact h
 | d+1,i,hd,h=>by
  refine pre_take hpre d (i+1) (by omega) (fun hn=>h ?_)
  have hi:i<l.length:=by omega
  rw[List.take_add_one,List.getElem?_eq_getElem hi]at hn
  exact hpre _ _ hn
theorem find_gv{w:World}{own vown:Nat→Prop}{tb:Nat}{lim n clock:Int}{ns:List Path}{y:Lay}(h:Mem w own vown tb lim n clock ns y)(hgood:∀p∈ns,goodB p=true)(s:Sl)(l:Path)(hr:Rds i64v w s l)(hl:l.length≤9223372036854775806):
  Gv Tryz.prog 88 #[.pointer (some ⟨tb,0,none⟩),slv s] (.pointer (if l∈ns then ndP y l else none)) w:=by
 refine trie_Trie_find.run _ _ s w ?_
 unfold trie_Trie_find.M
 refine aCZ tT ?_
 refine aAZ ?_
 refine agZ ?_
 refine ajZ h.top (by kernel_rfl) rfl ?_
 refine aCZ tN ?_
 refine aAZ ?_
 refine auZ (isKey_gv s l w hr hl) fun w1 hx1=>?_
 unfold trie_Trie_find.j1
 refine Cd_not (fun hk=>?_) (fun hk=>?_)
 ·have:l∉ns:=fun hn=>by rw[hgood l hn]at hk;cases hk
  exact⟨by rw[if_neg this],hx1⟩
 refine agZ ?_
 have h1:=h.ex hx1
 refine ajZ h1.top (by kernel_rfl) rfl ?_
 unfold trie_Trie_find.l1
 rw[hr.1]
 refine acZ (fun st w'=>Ex w w'∧st.2.1=s∧st.2.2.1=(l.length:Int)∧∃i:Nat,i≤l.length∧st.2.2.2.1=(i:Int)∧l.take i∈ns∧st.1=ndP y (l.take i)) (fun st _=>l.length-st.2.2.2.1.toNat) ?_
  ⟨hx1,rfl,rfl,0,Nat.zero_le _,rfl,h.root,rfl⟩
 rintro k ⟨p',s',n',i',u⟩ w' hI hk
 dsimp only at hI hk ⊢
 obtain⟨hx,rfl,rfl,i,hi,rfl,hin,rfl⟩:=hI
 unfold trie_Trie_find.b1
 have h':=h.ex hx
 refine abZ (fun hlt=>?_) (fun hge=>?_)
 ·refine Pu_idx (hr.ex hx) tI sI (by omega) (by omega) fun a x hx1 hc1 _=>?_
  refine bwZ (c:=.int .i64) (x:=x) oI hc1 ?_
  rw[Int.toNat_natCast]at hx1
  refine agZ ?_
  have hnode:=h'.node _ hin
  refine ajZ (c:=.map) (x:=some (y.mp (l.take i))) hnode (by kernel_rfl) rfl ?_
  obtain⟨kl,hm,_,hget⟩:=h'.child (x:=x) hin
  have htk:l.take i++[x]=l.take (i+1):=by rw[List.take_add_one,hx1];rfl
  refine Rd_lookup tMap uInt zN hm hget ?_
  refine aCZ tN ?_
  by_cases hnx:l.take i++[x]∈ns
  ·rw[if_pos hnx]
   refine aAZ ?_
   rw[adZ (x:=(i:Int)+1) (by omega) (by omega)]
   rw[htk]at hnx ⊢
   exact hk _ _ ⟨hx,rfl,rfl,i+1,by omega,by simp,hnx,rfl⟩ (by simp only;omega)
  ·rw[if_neg hnx]
   refine Cd_t ?_
   rw[htk]at hnx
   exact⟨by rw[if_neg (pre_take h.pre _ (i+1) rfl hnx)],hx⟩
 ·have:i=l.length:=by omega
  subst this
  rw[List.take_length]at hin ⊢
  exact⟨by rw[if_pos hin],hx⟩
theorem holder_gv{w:World}{own vown:Nat→Prop}{tb:Nat}{lim n clock:Int}{ns:List Path}{y:Lay}(h:Mem w own vown tb lim n clock ns y)(hgood:∀p∈ns,goodB p=true)(s:Sl)(l:Path)(hr:Rds i64v w s l)(hl:l.length≤9223372036854775806):
  Gv Tryz.prog 64 #[.pointer (some ⟨tb,0,none⟩),slv s] (.pointer (if l∈ns∧y.here l=true then ndP y l else none)) w:=by
 refine trie_Trie_holder.run _ _ s w ?_
 unfold trie_Trie_holder.M
 refine auZ (find_gv h hgood s l hr hl) fun w1 hx1=>?_
 refine Pu_nenil tN ?_
 by_cases hin:l∈ns
 ·rw[if_pos hin]
  refine Cd_t ?_
  refine agZ ?_
  refine ajZ (c:=.bool) (x:=y.here l) ((h.ex hx1).node l hin) (by kernel_rfl) rfl ?_
  unfold trie_Trie_holder.j1
  refine Cd_of (fun hh=>⟨by rw[if_pos ⟨hin,hh⟩],hx1⟩) (fun hh=>⟨by rw[if_neg (fun hn=>by rw[hn.2]at hh;cases hh)],hx1⟩)
 ·rw[if_neg hin]
  refine aAZ ?_
  unfold trie_Trie_holder.j1
  refine aAZ ?_
  exact⟨by rw[if_neg (fun hn=>hin hn.1)],hx1⟩
end Go.Proofs.YtbiilejgfihohaaGreat.Tr
namespace Go.Proofs.YtbiilejgfihohaaGreat.Tr
open Go Go.Cu Go.RowKit
def upd{α:Type}(f:Path→α)(p:Path)(v:α):Path→α:=fun q=>if q=p then v else f q
theorem axZ{α:Type}(f:Path→α)(p:Path)(v:α):upd f p v p=v:=if_pos rfl
theorem apZ{α:Type}(f:Path→α){p q:Path}(v:α)(h:q≠p):upd f p v q=f q:=if_neg h
abbrev Ent:=List Int×List (List Int)
structure Ents(es:List Ent)(ns:List Path)(y:Lay)(lim clock:Int):Prop where
 here:∀p∈ns,y.here p=true↔∃e∈es,e.1=p
 rows:∀e∈es,e.1∈ns∧y.rows e.1=e.2
 le:∀e∈es,RowsLe e.2
 nodup:(es.map (·.1)).Nodup
 order:es.Pairwise (fun a b=>y.used b.1<y.used a.1)
 clk:∀e∈es,y.used e.1≤clock
 clk0:0≤clock
 pos:∀e∈es,0≤y.used e.1
 clean:∀p∈ns,p=[]∨∃e∈es,p <+:e.1
 good:∀e∈es,goodB e.1=true
 uniq:ns.Nodup
 room:(es.length:Int)≤lim
 lim1:1≤lim
 lim2:lim≤1024
theorem goodFrom_prefix:∀{l m:List Int} {p:Int},l <+:m→goodFrom p m=true→goodFrom p l=true
 | [],_,_,_,_=>rfl
 | x::l,[],_,h,_=>by obtain⟨t,ht⟩:=h;cases ht
 | x::l,y::m,p,h,hg=>by
  rw[List.cons_prefix_cons]at h
  obtain⟨rfl,h⟩:=h
  unfold goodFrom at hg ⊢
  rw[Bool.and_eq_true]at hg ⊢
  exact⟨hg.1,goodFrom_prefix h hg.2⟩
theorem Ents.goodN{es:List Ent}{ns:List Path}{y:Lay}{lim clock:Int}(h:Ents es ns y lim clock):∀p∈ns,goodB p=true:=by
 intro p hp
 rcases h.clean p hp with rfl | ⟨e,he,hpe⟩
 ·rfl
 ·exact goodFrom_prefix hpe (h.good e he)
def TrieSt(w:World)(own:Nat→Prop)(tb:Nat)(lim:Int)(es:List Ent)(clock:Int):Prop:=∃vown ns y,Mem w own vown tb lim es.length clock ns y∧Ents es ns y lim clock
theorem TrieSt.mo{w w':World}{own X:Nat→Prop}{tb:Nat}{lim clock:Int}{es:List Ent}(h:TrieSt w own tb lim es clock)(k:Mo X w w')(hx:∀b,own b→¬X b):TrieSt w' own tb lim es clock:=by
 obtain⟨v,ns,y,h1,h2⟩:=h;exact⟨v,ns,y,h1.mo k hx,h2⟩
theorem TrieSt.ex{w w':World}{own:Nat→Prop}{tb:Nat}{lim clock:Int}{es:List Ent}(h:TrieSt w own tb lim es clock)(k:Ex w w'):TrieSt w' own tb lim es clock:=h.mo k (fun _ _=>id)
theorem Cl_gvp{f:FuncId}{args:Array Value}{x:Option Addr}{k:Option Addr→World→Prop}{w:World}(h:Gv Tryz.prog f args (.pointer x) w)(hk:∀w',Ex w w'→k x w'):Cl Tryz.prog f args (.one (.at .ptr)) k w:=auZ (d:=.one (.at .ptr)) (x:=x) h hk
theorem fresh_ok(w:World):Calls Tryz.prog 74 #[] w fun en w'=>∃m b,en=.returned (.pointer (some ⟨b,0,none⟩))∧Has w' b [.map (some m),.bool false,slv ⟨none,0,0⟩,.int .i64 0] 123∧MapIs w' m []∧
  w.heap.size≤b∧w.heap.size≤m∧m<w'.heap.size∧Ex w w':=by
 refine trie_fresh.run _ w ?_
 unfold trie_fresh.M
 refine Wr_makeMap fun w1 hm1 hx1=>?_
 refine bcZ fun w2 hB2 hx2=>?_
 exact⟨w.heap.size,w1.heap.size,rfl,hB2,hm1.ex hx2,hx1.size,Nat.le_refl _,(hm1.ex hx2).lt,hx1.trans hx2⟩
theorem new_ok(lim:Int)(w:World):Calls Tryz.prog 53 #[.int .i64 lim] w fun en w'=>Ex w w'∧
  ((lim<1∨lim>1024)∧en=.returned (.tuple #[.pointer none,.int .i64 7])∨¬(lim<1∨lim>1024)∧∃tb,en=.returned (.tuple #[.pointer (some ⟨tb,0,none⟩),.int .i64 0])∧w.heap.size≤tb∧
   TrieSt w' (fun b=>w.heap.size≤b∧b<w'.heap.size) tb lim [] 0):=by
 refine trie_New.run _ lim w ?_
 unfold trie_New.M
 have bad:∀b:Bool,(b=true→lim<1∨lim>1024)→(b=false→¬(lim<1∨lim>1024))→trie_New.j1 (fun en w'=>Ex w w'∧((lim<1∨lim>1024)∧en=.returned (.tuple #[.pointer none,.int .i64 7])∨¬(lim<1∨lim>1024)∧∃tb,en=.returned (.tuple #[.pointer (some ⟨tb,0,none⟩),.int .i64 0])∧w.heap.size≤tb∧
   TrieSt w' (fun b=>w.heap.size≤b∧b<w'.heap.size) tb lim [] 0)) lim b w:=by
  intro b h1 h2
  unfold trie_New.j1
  refine Cd_of (fun hb=>⟨Ex.refl w,.inl ⟨h1 hb,rfl⟩⟩) (fun hb=>?_)
  refine Calls.mono (fresh_ok w) ?_
  rintro en w1 ⟨m,b1,rfl,hB,hm,hb1,hm1,hml,hx1⟩
  refine⟨some ⟨b1,0,none⟩,rfl,?_⟩
  refine bcZ fun w2 hB2 hx2=>⟨hx1.trans hx2,.inr ⟨h2 hb,w1.heap.size,rfl,hx1.size,?_⟩⟩
  have hg:=h2 hb
  refine⟨fun _=>False,[[]],{ nd:=fun _=>b1,mp:=fun _=>m,here:=fun _=>false,val:=fun _=>⟨none,0,0⟩,rows:=fun _=>[],used:=fun _=>0 },?_,?_⟩
  ·refine { top:=hB2,node:=fun p hp=>hB.ex hx2,kids:=fun p hp=>⟨[],hm.ex hx2,fun x v=>⟨fun h=>by simp at h,fun h=>?_⟩⟩,injN:=?_,injM:=?_,topN:=?_,vals:=fun p hp h=>(by cases h),ownN:=?_,ownT:=⟨⟨hx1.size,hB2.lt⟩,id⟩,ownV:=fun b h=>h.elim,ownL:=fun b h=>h.2,root:=by simp,pre:=?_ }
   ·have hp:p=[]:=by simpa using hp
    have:=h.1
    rw[hp]at this
    simp at this
   ·intro p hp q hq _
    have hp:p=[]:=by simpa using hp
    have hq:q=[]:=by simpa using hq
    rw[hp,hq]
   ·intro p hp q hq _
    have hp:p=[]:=by simpa using hp
    have hq:q=[]:=by simpa using hq
    rw[hp,hq]
   ·intro p hp e
    have:=hB.lt
    have e:b1=w1.heap.size:=e
    omega
   ·intro p hp
    exact⟨⟨hb1,(hB.ex hx2).lt⟩,⟨hm1,(hm.ex hx2).lt⟩,id,id⟩
   ·intro p x hp
    simp at hp
  ·refine { here:=fun p hp=>by simp,rows:=by simp,le:=by simp,nodup:=by simp,order:=by simp,clk:=by simp,clk0:=Int.le_refl _,pos:=by simp,clean:=fun p hp=>.inl (by simpa using hp),good:=by simp,uniq:=by simp,room:=?_,lim1:=?_,lim2:=?_ }
   ·show((0:Nat):Int)≤lim;omega
   ·omega
   ·omega
 refine abZ (fun h=>bad true (fun _=>.inl h) (fun h=>by cases h)) (fun h=>bad _ (fun h2=>.inr (of_decide_eq_true h2)) (fun h2 hn=>?_))
 have:=of_decide_eq_false h2
 omega
theorem use_ok{w:World}{own vown:Nat→Prop}{tb:Nat}{lim n clock:Int}{ns:List Path}{y:Lay}{p:Path}(h:Mem w own vown tb lim n clock ns y)(hp:p∈ns)(h0:0≤clock)(hc:clock<9223372036854775807):
  Calls Tryz.prog 65 #[.pointer (some ⟨tb,0,none⟩),.pointer (ndP y p)] w fun en w'=>en=.returned (.tuple #[])∧Mem w' own vown tb lim n (clock+1) ns { y with used:=upd y.used p (clock+1) }∧Mo own w w':=by
 refine trie_Trie_use.run _ _ _ w ?_
 unfold trie_Trie_use.M
 refine agZ ?_
 refine ajZ h.top (by kernel_rfl) rfl ?_
 refine agZ ?_
 rw[adZ (x:=clock+1) (by omega) (by omega)]
 refine awZ (v:=.int .i64 (clock+1)) h.top sI (by simp[Value.cells,Value.oneCell']) (Nat.le_of_ble_eq_true (by kernel_rfl)) fun w1 hB1 hm1=>?_
 have hB1':Has w1 tb (topV y lim n (clock+1)) 128:=hB1
 have h1:=h.top_set hB1' hm1
 refine agZ ?_
 refine ajZ h1.top (by kernel_rfl) rfl ?_
 refine agZ ?_
 refine awZ (v:=.int .i64 (clock+1)) (h1.node p hp) sI (by simp[Value.cells,Value.oneCell']) (Nat.le_of_ble_eq_true (by kernel_rfl)) fun w2 hB2 hm2=>?_
 refine⟨rfl,?_,?_⟩
 ·refine h1.node_set hp hm2 rfl rfl ?_ (fun q hq=>⟨rfl,rfl,rfl,apZ _ _ hq⟩) (fun hh=>(h1.vals p hp hh).mo hm2 (fun b hb e=>(h1.ownN p hp).2.2.1 (by rw[←(show b=y.nd p from e)];exact hb)))
  show Has w2 (y.nd p) [.map (some (y.mp p)),.bool (y.here p),slv (y.val p),.int .i64 (upd y.used p (clock+1) p)] _
  rw[axZ]
  exact hB2
 ·refine(hm1.weak (fun b _ hb=>?_)).trans (hm2.weak (Y:=own) (fun b _ hb=>?_)) (fun _=>id) (fun _ _=>id)
  ·rw[hb];exact h.ownT.1
  ·rw[hb];exact(h.ownN p hp).1
end Go.Proofs.YtbiilejgfihohaaGreat.Tr
namespace Go.Proofs.YtbiilejgfihohaaGreat.Tr
open Go Go.Cu Go.RowKit
def without(es:List Ent)(l:Path):List Ent:=es.filter fun e=>decide (e.1≠l)
def frontE(es:List Ent)(l:Path)(v:List (List Int)):List Ent:=(l,v)::without es l
theorem mem_without{es:List Ent}{l:Path}{e:Ent}:e∈without es l↔e∈es∧e.1≠l:=by unfold without;simp
theorem bDZ:∀{es:List Ent} {l:Path},(∀e∈es,e.1≠l)→without es l=es:=by
 intro es l h
 unfold without
 rw[List.filter_eq_self]
 intro e he;simp[h e he]
theorem without_length:∀{es:List Ent} {l:Path} {v:List (List Int)},(es.map (·.1)).Nodup→(l,v)∈es→(without es l).length+1=es.length
 | e::es,l,v,hn,hm=>by
  rw[List.map_cons,List.nodup_cons]at hn
  rcases List.mem_cons.1 hm with rfl | hm'
  ·have:without es l=es:=bDZ fun x hx hxl=>hn.1 (List.mem_map.2 ⟨x,hx,hxl⟩)
   unfold without at this ⊢
   rw[List.filter_cons_of_neg (by simp),this];rfl
  ·have hne:e.1≠l:=fun h=>hn.1 (List.mem_map.2 ⟨(l,v),hm',h.symm⟩)
   have ih:=without_length hn.2 hm'
   unfold without at ih ⊢
   rw[List.filter_cons_of_pos (by simpa using hne),List.length_cons,ih];rfl
theorem front_length{es:List Ent}{l:Path}{v:List (List Int)}(hn:(es.map (·.1)).Nodup)(hm:(l,v)∈es):(frontE es l v).length=es.length:=by
 unfold frontE;rw[List.length_cons,without_length hn hm]
theorem without_nodup{es:List Ent}{l:Path}(hn:(es.map (·.1)).Nodup):((without es l).map (·.1)).Nodup:=hn.sublist (List.Sublist.map _ List.filter_sublist)
theorem Ents.front{es:List Ent}{ns:List Path}{y:Lay}{lim clock:Int}{l:Path}{v:List (List Int)}(h:Ents es ns y lim clock)(hm:(l,v)∈es):Ents (frontE es l v) ns { y with used:=upd y.used l (clock+1) } lim (clock+1):=by
 have hmem:∀e,e∈frontE es l v↔e∈es:=by
  intro e
  unfold frontE
  rw[List.mem_cons,mem_without]
  constructor
  ·rintro(rfl | h')
   ·exact hm
   ·exact h'.1
  ·intro he
   by_cases hel:e.1=l
   ·left
    have h1:=(h.rows e he).2
    have h2:=(h.rows _ hm).2
    rw[hel]at h1
    obtain⟨a,b⟩:=e
    simp only at hel h1 h2
    rw[hel,←h1,h2]
   ·exact .inr ⟨he,hel⟩
 have hne:∀e∈without es l,e.1≠l:=fun e he=>(mem_without.1 he).2
 refine { here:=fun p hp=>?_,rows:=fun e he=>h.rows e ((hmem e).1 he),le:=fun e he=>h.le e ((hmem e).1 he),nodup:=?_,order:=?_,clk:=fun e he=>?_,clk0:=by have:=h.clk0;omega,pos:=fun e he=>?_,clean:=fun p hp=>?_,good:=fun e he=>h.good e ((hmem e).1 he),uniq:=h.uniq,room:=?_,lim1:=h.lim1,lim2:=h.lim2 }
 ·rw[h.here p hp]
  constructor
  ·rintro⟨e,he,hep⟩;exact⟨e,(hmem e).2 he,hep⟩
  ·rintro⟨e,he,hep⟩;exact⟨e,(hmem e).1 he,hep⟩
 ·unfold frontE
  rw[List.map_cons,List.nodup_cons]
  refine⟨fun hin=>?_,without_nodup h.nodup⟩
  obtain⟨e,he,hel⟩:=List.mem_map.1 hin
  exact hne e he hel
 ·unfold frontE
  rw[List.pairwise_cons]
  refine⟨fun e he=>?_,?_⟩
  ·show upd y.used l (clock+1) e.1<upd y.used l (clock+1) l
   rw[axZ,apZ _ _ (hne e he)]
   have:=h.clk e (mem_without.1 he).1
   omega
  ·refine List.Pairwise.imp_of_mem ?_ (h.order.sublist List.filter_sublist)
   intro a b ha hb hab
   show upd y.used l (clock+1) b.1<upd y.used l (clock+1) a.1
   rw[apZ _ _ (hne a ha),apZ _ _ (hne b hb)]
   exact hab
 ·show upd y.used l (clock+1) e.1≤clock+1
  by_cases hel:e.1=l
  ·rw[hel,axZ];exact Int.le_refl _
  ·rw[apZ _ _ hel]
   have:=h.clk e ((hmem e).1 he)
   omega
 ·show 0≤upd y.used l (clock+1) e.1
  have:=h.clk0
  by_cases hel:e.1=l
  ·rw[hel,axZ];omega
  ·rw[apZ _ _ hel];exact h.pos e ((hmem e).1 he)
 ·rcases h.clean p hp with rfl | ⟨e,he,hpe⟩
  ·exact .inl rfl
  ·exact .inr ⟨e,(hmem e).2 he,hpe⟩
 ·rw[front_length h.nodup hm];exact h.room
theorem Ents.held{es:List Ent}{ns:List Path}{y:Lay}{lim clock:Int}{l:Path}(h:Ents es ns y lim clock)(hh:l∈ns∧y.here l=true):(l,y.rows l)∈es:=by
 obtain⟨e,he,hel⟩:=(h.here l hh.1).1 hh.2
 have:=(h.rows e he).2
 obtain⟨a,b⟩:=e
 simp only at hel this
 rw[←hel,this];exact he
theorem Ents.unheld{es:List Ent}{ns:List Path}{y:Lay}{lim clock:Int}{l:Path}(h:Ents es ns y lim clock)(hh:¬(l∈ns∧y.here l=true)):∀e∈es,e.1≠l:=by
 rintro e he rfl
 exact hh ⟨(h.rows e he).1,(h.here _ (h.rows e he).1).2 ⟨e,he,rfl⟩⟩
abbrev nilS:Sl:=⟨none,0,0⟩
def Found(w w':World)(en:Ending)(v:List (List Int)):Prop:=∃s':Sl,en=.returned (.tuple #[slv s',.bool true])∧NestOwn b8 5 24 w.heap.size w' s' v
theorem get_ok{w:World}{own:Nat→Prop}{tb:Nat}{lim clock:Int}{es:List Ent}(h:TrieSt w own tb lim es clock)(s:Sl)(l:Path)(hr:Rds i64v w s l)(hl:l.length≤9223372036854775806)(hc:clock<9223372036854775807):
  Calls Tryz.prog 42 #[.pointer (some ⟨tb,0,none⟩),slv s] w fun en w'=>
   ((∀e∈es,e.1≠l)∧en=.returned (.tuple #[slv nilS,.bool false])∧Ex w w')∨
   ∃v,(l,v)∈es∧Found w w' en v∧TrieSt w' own tb lim (frontE es l v) (clock+1)∧Mo own w w':=by
 obtain⟨vown,ns,y,hm,he⟩:=h
 refine trie_Trie_Get.run _ _ s w ?_
 unfold trie_Trie_Get.M
 refine Cl_gvp (holder_gv hm he.goodN s l hr hl) fun w1 hx1=>?_
 refine aCZ tN ?_
 by_cases hh:l∈ns∧y.here l=true
 ·rw[if_pos hh]
  refine aAZ ?_
  have hm1:=hm.ex hx1
  refine Calls.mono (use_ok hm1 hh.1 he.clk0 hc) ?_
  rintro en w2 ⟨rfl,hm2,hmo2⟩
  refine⟨(),rfl,?_⟩
  refine agZ ?_
  refine ajZ (c:=.sl) (x:=y.val l) (hm2.node l hh.1) (by kernel_rfl) rfl ?_
  have hin:=he.held hh
  refine Calls.mono (copied_nest (y.val l) (y.rows l) vown w2 (hm2.vals l hh.1 hh.2) (he.le _ hin)) ?_
  rintro en w3 ⟨s3,rfl,hn3,hx3⟩
  refine⟨s3,rfl,.inr ⟨y.rows l,hin,⟨s3,rfl,hn3.weak (Nat.le_trans hx1.size hmo2.size)⟩,?_,(hx1.mo hmo2).ex hx3⟩⟩
  refine⟨vown,ns,_,?_,he.front hin⟩
  rw[front_length he.nodup hin]
  exact hm2.ex hx3
 ·rw[if_neg hh]
  refine Cd_t ?_
  exact .inl ⟨he.unheld hh,rfl,hx1⟩
end Go.Proofs.YtbiilejgfihohaaGreat.Tr
namespace Go.Proofs.YtbiilejgfihohaaGreat.Tr
open Go Go.Cu Go.RowKit
theorem snoc_inj{p q:Path}{x z:Int}(h:p++[x]=q++[z]):p=q∧x=z:=by
 have:=List.append_inj' h rfl
 exact⟨this.1,by simpa using this.2⟩
def drop1(ns:List Path)(c:Path):List Path:=ns.filter fun x=>decide (x≠c)
theorem mem_drop1{ns:List Path}{c x:Path}:x∈drop1 ns c↔x∈ns∧x≠c:=by unfold drop1;simp
theorem Mem.del{w w':World}{own vown:Nat→Prop}{tb:Nat}{lim n clock:Int}{ns:List Path}{y:Lay}{p:Path}{x:Int}{l:List (Int×Value)}(h:Mem w own vown tb lim n clock ns y)(hp:p∈ns)(hno:∀z,p++[x]++[z]∉ns)
  (hl:MapIs w (y.mp p) l) (hk:∀x v,(x,v)∈l↔(p++[x]∈ns∧v=.pointer (ndP y (p++[x])))) (k:Mo (fun b=>b=y.mp p) w w') (hm:MapIs w' (y.mp p) (delM l x)):Mem w' own vown tb lim n clock (drop1 ns (p++[x])) y:=by
 have sub:∀{q},q∈drop1 ns (p++[x])→q∈ns:=fun hq=>(mem_drop1.1 hq).1
 have hln:(l.map (·.1)).Nodup:=by obtain⟨_,_,_,_,hn,_⟩:=hl;exact hn
 have hpc:p≠p++[x]:=fun e=>by have:=congrArg List.length e;simp at this
 refine { top:=h.top.mo k (fun e=>bgZ h.top hl e),node:=fun q hq=>(h.node q (sub hq)).mo k (fun e=>bgZ (h.node q (sub hq)) hl e),kids:=fun q hq=>?_,injN:=fun a ha b hb=>h.injN a (sub ha) b (sub hb),injM:=fun a ha b hb=>h.injM a (sub ha) b (sub hb),topN:=fun q hq=>h.topN q (sub hq),vals:=fun q hq hh=>(h.vals q (sub hq) hh).mo k (fun b hb e=>(h.ownN p hp).2.2.2 (by rw[←(show b=y.mp p from e)];exact hb)),ownN:=fun q hq=>h.ownN q (sub hq),ownT:=h.ownT,ownV:=h.ownV,ownL:=fun b hb=>Nat.lt_of_lt_of_le (h.ownL b hb) k.size,root:=mem_drop1.2 ⟨h.root,fun e=>by have:=congrArg List.length e;simp at this⟩,pre:=fun q z hq=>?_ }
 ·by_cases hqp:q=p
  ·subst hqp
   refine⟨_,hm,fun z v=>?_⟩
   rw[delM_mem hln,hk,mem_drop1]
   constructor
   ·rintro⟨h1,h2,h3⟩;exact⟨⟨h2,fun e=>h1 (snoc_inj e).2⟩,h3⟩
   ·rintro⟨⟨h1,h2⟩,h3⟩;exact⟨fun e=>h2 (by rw[e]),h1,h3⟩
  ·obtain⟨l',h1,h2⟩:=h.kids q (sub hq)
   refine⟨l',h1.mo k (fun e=>hqp (h.injM q (sub hq) p hp e)),fun z v=>?_⟩
   rw[h2,mem_drop1]
   exact⟨fun⟨a,b⟩=>⟨⟨a,fun e=>hqp (snoc_inj e).1⟩,b⟩,fun⟨a,b⟩=>⟨a.1,b⟩⟩
 ·have hin:=(mem_drop1.1 hq).1
  refine mem_drop1.2 ⟨h.pre q z hin,fun e=>?_⟩
  rw[e]at hin
  exact hno z hin
structure Pruned(y:Lay)(p q:Path)(ns ns':List Path):Prop where
 sub:ns'.Sublist ns
 gone:∀x∈ns,x∉ns'→p <+:x∧x≠p∧x <+:p++q∧y.here x=false∧∀c,x++[c]∉ns'
 stay:∀x∈ns',p <+:x→x≠p→x <+:p++q→y.here x=true∨∃c,x++[c]∈ns'
theorem prune_ok{own vown:Nat→Prop}{tb:Nat}{lim n clock:Int}{y:Lay}:∀(q p:Path) (s:Sl) (w:World) (ns:List Path),Mem w own vown tb lim n clock ns y→p∈ns→Rds i64v w s q→q.length≤9223372036854775806→(∀a,s.base=some a→¬own a.block)→
  Calls Tryz.prog 99 #[.pointer (ndP y p),slv s] w fun en w'=>∃ns' b,en=.returned (.bool b)∧Mem w' own vown tb lim n clock ns' y∧Mo own w w'∧Pruned y p q ns ns'∧(b=true↔y.here p=true∨∃c,p++[c]∈ns'):=by
 intro q
 induction q with
 | nil=>
  intro p s w ns h hp hr hl hs
  refine trie_prune.run _ _ s w ?_
  unfold trie_prune.M
  rw[hr.1]
  refine abZ (fun h0=>by simp at h0) (fun _=>?_)
  have hpr:Pruned y p [] ns ns:=⟨List.Sublist.refl _,fun x hx hn=>absurd hx hn,fun x hx hpx hne hxp=>by rw[List.append_nil]at hxp;exact absurd (List.IsPrefix.eq_of_length_le hxp hpx.length_le) hne⟩
  unfold trie_prune.j1
  refine agZ ?_
  refine ajZ (c:=.bool) (x:=y.here p) (h.node p hp) (by kernel_rfl) rfl ?_
  refine Cd_of (fun hh=>⟨ns,true,rfl,h,Mo.refl _ _,hpr,by simp[hh]⟩) (fun hh=>?_)
  refine agZ ?_
  refine ajZ (c:=.map) (x:=some (y.mp p)) (h.node p hp) (by kernel_rfl) rfl ?_
  obtain⟨l,hm,hk⟩:=h.kids p hp
  refine Rd_lenMap tMap hm ?_
  refine⟨ns,_,rfl,h,Mo.refl _ _,hpr,?_⟩
  rw[decide_eq_true_iff,hh]
  simp only[Bool.false_eq_true,false_or]
  constructor
  ·intro hpos
   cases l with
   | nil=>simp at hpos
   | cons a r=>obtain⟨x,v⟩:=a;exact⟨x,((hk x v).1 (by simp)).1⟩
  ·rintro⟨c,hc⟩
   have:=(hk c _).2 ⟨hc,rfl⟩
   cases l with
   | nil=>simp at this
   | cons a r=>simp only[List.length_cons];omega
 | cons x r ih=>
  intro p s w ns h hp hr hl hs
  have hl':r.length+1≤9223372036854775806:=by simpa using hl
  refine trie_prune.run _ _ s w ?_
  unfold trie_prune.M
  rw[hr.1]
  refine abZ (fun _=>?_) (fun h0=>absurd (show(((x::r).length:Nat):Int)>0 by simp only[List.length_cons];omega) h0)
  refine agZ ?_
  have hd:=h.ex (Ex.drew w)
  refine boZ (ajZ (c:=.map) (x:=some (y.mp p)) (hd.node p hp) (by kernel_rfl) rfl ?_)
  have hrd:=hr.ex (Ex.drew w)
  rw[←hr.1]
  refine Pu_idx hrd tI sI (by omega) (by simp only[List.length_cons];omega) fun a x0 hx0 hc0 _=>?_
  have hx0:x0=x:=by simpa using hx0.symm
  subst hx0
  refine boZ (bwZ (c:=.int .i64) (x:=x0) oI hc0 ?_)
  obtain⟨l,hm,hk,hget⟩:=hd.child (x:=x0) hp
  refine boZ (Rd_lookup tMap uInt zN hm hget ?_)
  have fin:∀(ns':List Path) (v:World),Mem v own vown tb lim n clock ns' y→Mo own w v→Pruned y p (x0::r) ns ns'→p∈ns'→
    trie_prune.j1 (fun en w'=>∃ns' b,en=.returned (.bool b)∧Mem w' own vown tb lim n clock ns' y∧Mo own w w'∧Pruned y p (x0::r) ns ns'∧(b=true↔y.here p=true∨∃c,p++[c]∈ns')) (ndP y p) v:=by
   intro ns' v hv hmo hpr hp'
   unfold trie_prune.j1
   refine agZ ?_
   refine ajZ (c:=.bool) (x:=y.here p) (hv.node p hp') (by kernel_rfl) rfl ?_
   refine Cd_of (fun hh=>⟨ns',true,rfl,hv,hmo,hpr,by simp[hh]⟩) (fun hh=>?_)
   refine agZ ?_
   refine ajZ (c:=.map) (x:=some (y.mp p)) (hv.node p hp') (by kernel_rfl) rfl ?_
   obtain⟨l,hm,hk⟩:=hv.kids p hp'
   refine Rd_lenMap tMap hm ?_
   refine⟨ns',_,rfl,hv,hmo,hpr,?_⟩
   rw[decide_eq_true_iff,hh]
   simp only[Bool.false_eq_true,false_or]
   constructor
   ·intro hpos
    cases l with
    | nil=>simp at hpos
    | cons a r=>obtain⟨x,v⟩:=a;exact⟨x,((hk x v).1 (by simp)).1⟩
   ·rintro⟨c,hc⟩
    have:=(hk c _).2 ⟨hc,rfl⟩
    cases l with
    | nil=>simp at this
    | cons a r=>simp only[List.length_cons];omega
  have hmo0:Mo own w w.drew:=(Ex.drew w).weak (fun _ _ h=>h.elim)
  have strict:∀z:Path,p <+:z→z≠p→z <+:p++x0::r→(p++[x0]) <+:z:=by
   rintro z ⟨t,rfl⟩ hne ⟨u,hu⟩
   cases t with
   | nil=>simp at hne
   | cons b t=>
    rw[List.append_assoc]at hu
    have:=List.append_cancel_left hu
    simp only[List.cons_append,List.cons.injEq]at this
    rw[this.1]
    exact⟨t,by simp⟩
  have hpc:p++[x0]≠p:=fun e=>by have:=congrArg List.length e;simp at this
  refine Pu_nenil tN ?_
  by_cases hin:p++[x0]∈ns
  ·rw[if_pos hin]
   refine Cd_t ?_
   refine Pu_slice 1 (r.length+1) hrd tI sI (.inr ⟨_,rfl⟩) (.inl ⟨rfl,rfl⟩) (by omega) (by simp) fun s1 hs1 _ _ hsb=>?_
   have hr1:Rds i64v w.drew s1 r:=by
    have:=hs1 _ hrd
    simpa using this
   refine Calls.mono (ih (p++[x0]) s1 w.drew ns hd hin hr1 (by omega) (fun a ha=>?_)) ?_
   ·obtain⟨b,hb,hbb⟩:=hsb a ha
    rw[hbb];exact hs b hb
   rintro en w1 ⟨ns1,b1,rfl,h1,hmo1,hpr1,hb1⟩
   refine⟨b1,rfl,?_⟩
   have hmo01:Mo own w w1:=(Ex.drew w).mo hmo1
   have hp1:p∈ns1:=by
    refine Classical.byContradiction fun hn=>?_
    have:=(hpr1.gone p hp hn).1.length_le
    simp at this
    omega
   unfold trie_prune.j2
   refine Cd_not (fun hbf=>?_) (fun hbt=>fin ns1 w1 h1 hmo01 ?_ hp1)
   ·have hnl:¬(y.here (p++[x0])=true∨∃c,p++[x0]++[c]∈ns1):=fun hn=>by rw[hb1.2 hn]at hbf;cases hbf
    obtain⟨l1,hm1,hk1⟩:=h1.kids p hp1
    refine asZ (fun v=>Has v (y.nd p) (nodeV y p) 123∧Rds i64v v s (x0::r)) ?_ ?_
    ·refine⟨(h1.node p hp1).ex (Ex.drew w1),?_⟩
     exact((hr.mo hmo01 hs)).ex (Ex.drew w1)
    refine agZ ?_
    refine akZ (c:=.map) (x:=some (y.mp p)) (fun v hv=>hv.1) (by kernel_rfl) rfl ?_
    have hr1d:=(hr.mo hmo01 hs).ex (Ex.drew w1)
    refine Pu_idxB hr1d tI sI (by omega) (by simp only[List.length_cons];omega) fun a2 x2 ha2 hx2=>?_
    have hx2:x2=x0:=by simpa using hx2.symm
    subst hx2
    refine RdS_one (c:=.int .i64) (x:=x2) oI (fun v hv=>?_) ?_
    ·obtain⟨a3,ha3,hc3⟩:=hv.2.2.2 0 x2 rfl
     rw[ha2]at ha3;cases ha3
     exact hc3
    refine Wr_delete tMap uInt (hm1.ex (Ex.drew w1)) fun w2 hm2 hmo2=>?_
    have hd1:=h1.ex (Ex.drew w1)
    refine⟨⟨(hd1.node p hp1).mo hmo2 (fun e=>bgZ (hd1.node p hp1) (hm1.ex (Ex.drew w1)) e),hr1d.mo hmo2 (fun a ha e=>hs a ha (by rw[(show a.block=y.mp p from e)];exact(h1.ownN p hp1).2.1))⟩,?_⟩
    have h2:=hd1.del (x:=x2) hp1 (fun z hz=>hnl (.inr ⟨z,hz⟩)) (hm1.ex (Ex.drew w1)) hk1 hmo2 hm2
    refine fin _ w2 h2 (((hmo01.ex (Ex.drew w1))).trans (hmo2.weak (Y:=own) (fun b _ hb=>by rw[hb];exact(h1.ownN p hp1).2.1)) (fun _=>id) (fun _ _=>id)) ?_ (mem_drop1.2 ⟨hp1,fun e=>hpc e.symm⟩)
    refine⟨(List.filter_sublist).trans hpr1.sub,fun z hz hzn=>?_,fun z hz hpz hne hzp=>?_⟩
    ·by_cases hz1:z∈ns1
     ·have hzc:z=p++[x2]:=Classical.byContradiction fun hne=>hzn (mem_drop1.2 ⟨hz1,hne⟩)
      subst hzc
      refine⟨⟨[x2],rfl⟩,hpc,⟨r,by simp⟩,?_,fun c hc=>hnl (.inr ⟨c,(mem_drop1.1 hc).1⟩)⟩
      cases hh:y.here (p++[x2])
      ·rfl
      ·exact absurd (.inl hh) hnl
     ·obtain⟨g1,g2,g3,g4,g5⟩:=hpr1.gone z hz hz1
      refine⟨(List.prefix_append p [x2]).trans g1,fun e=>?_,by simpa using g3,g4,fun c hc=>g5 c (mem_drop1.1 hc).1⟩
      rw[e]at g1
      have:=g1.length_le
      simp at this
      omega
    ·obtain⟨hz1,hzc⟩:=mem_drop1.1 hz
     have hcz:=strict z hpz hne hzp
     rcases hpr1.stay z hz1 hcz hzc (by simpa using hzp) with g | ⟨c,hc⟩
     ·exact .inl g
     ·refine .inr ⟨c,mem_drop1.2 ⟨hc,fun e=>?_⟩⟩
      have h1:=congrArg List.length e
      have h2:=hcz.length_le
      simp at h1 h2
      omega
   ·refine⟨hpr1.sub,fun z hz hzn=>?_,fun z hz hpz hne hzp=>?_⟩
    ·obtain⟨g1,g2,g3,g4,g5⟩:=hpr1.gone z hz hzn
     refine⟨(List.prefix_append p [x0]).trans g1,fun e=>?_,by simpa using g3,g4,g5⟩
     rw[e]at g1
     have:=g1.length_le
     simp at this
     omega
    ·have hcz:=strict z hpz hne hzp
     by_cases hzc:z=p++[x0]
     ·subst hzc;exact hb1.1 hbt
     ·exact hpr1.stay z hz hcz hzc (by simpa using hzp)
  ·rw[if_neg hin]
   refine aAZ ?_
   unfold trie_prune.j2
   refine aAZ ?_
   refine fin ns w.drew hd hmo0 ⟨List.Sublist.refl _,fun z hz hn=>absurd hz hn,fun z hz hpz hne hzp=>?_⟩ hp
   exfalso
   have hcz:=strict z hpz hne hzp
   obtain⟨t,rfl⟩:=hcz
   have htk:(p++[x0]++t).take (p++[x0]).length=p++[x0]:=List.take_left
   exact pre_take h.pre _ (p++[x0]).length rfl (by rw[htk];exact hin) hz
end Go.Proofs.YtbiilejgfihohaaGreat.Tr
namespace Go.Proofs.YtbiilejgfihohaaGreat.Tr
open Go Go.Cu Go.RowKit
theorem Ents.dropped{es:List Ent}{ns ns':List Path}{y:Lay}{lim clock:Int}{l:Path}{v:List (List Int)}{va:Path→Sl}(h:Ents es ns y lim clock)(hin:(l,v)∈es)(hpr:Pruned { y with here:=upd y.here l false,val:=va } [] l ns ns'):
  Ents (without es l) ns' { y with here:=upd y.here l false,val:=va } lim clock:=by
 have hsub:∀{p},p∈ns'→p∈ns:=fun hp=>hpr.sub.subset hp
 have keep:∀e∈without es l,e.1∈ns':=by
  intro e he
  obtain⟨he1,he2⟩:=mem_without.1 he
  refine Classical.byContradiction fun hn=>?_
  have hen:=(h.rows e he1).1
  have hg:=(hpr.gone e.1 hen hn).2.2.2.1
  have hhere:=(h.here e.1 hen).2 ⟨e,he1,rfl⟩
  have:upd y.here l false e.1=false:=hg
  rw[apZ _ _ he2,hhere]at this
  cases this
 have hhere:∀p∈ns',upd y.here l false p=true↔∃e∈without es l,e.1=p:=by
  intro p hp
  by_cases hpl:p=l
  ·subst hpl
   rw[axZ]
   refine⟨fun h=>(by cases h),?_⟩
   rintro⟨e,he,hep⟩
   exact absurd hep (mem_without.1 he).2
  ·rw[apZ _ _ hpl,h.here p (hsub hp)]
   constructor
   ·rintro⟨e,he,rfl⟩;exact⟨e,mem_without.2 ⟨he,hpl⟩,rfl⟩
   ·rintro⟨e,he,rfl⟩;exact⟨e,(mem_without.1 he).1,rfl⟩
 refine { here:=hhere,rows:=fun e he=>⟨keep e he,(h.rows e (mem_without.1 he).1).2⟩,le:=fun e he=>h.le e (mem_without.1 he).1,nodup:=without_nodup h.nodup,order:=h.order.sublist List.filter_sublist,clk:=fun e he=>h.clk e (mem_without.1 he).1,clk0:=h.clk0,pos:=fun e he=>h.pos e (mem_without.1 he).1,clean:=?_,good:=fun e he=>h.good e (mem_without.1 he).1,uniq:=h.uniq.sublist hpr.sub,room:=?_,lim1:=h.lim1,lim2:=h.lim2 }
 ·have key:∀(d:Nat) (p:Path),l.length-p.length=d→p∈ns'→p=[]∨∃e∈without es l,p <+:e.1:=by
   intro d
   induction d with
   | zero=>
    intro p hd hp
    by_cases hp0:p=[]
    ·exact .inl hp0
    right
    rcases h.clean p (hsub hp) with h0 | ⟨e,he,hpe⟩
    ·exact absurd h0 hp0
    by_cases hel:e.1=l
    ·rw[hel]at hpe
     have hpl:p=l:=List.IsPrefix.eq_of_length_le hpe (by omega)
     rcases hpr.stay p hp (List.nil_prefix) hp0 (by simpa using hpe) with g | ⟨c,hc⟩
     ·have g:upd y.here l false p=true:=g
      rw[hpl,axZ]at g;cases g
     ·rcases h.clean _ (hsub hc) with h0 | ⟨e',he',hpe'⟩
      ·simp at h0
      ·refine⟨e',mem_without.2 ⟨he',fun hl'=>?_⟩,(List.prefix_append p [c]).trans hpe'⟩
       rw[hl']at hpe'
       have:=hpe'.length_le
       rw[List.length_append,hpl,List.length_singleton]at this
       exact absurd this (Nat.not_succ_le_self _)
    ·exact⟨e,mem_without.2 ⟨he,hel⟩,hpe⟩
   | succ d ih=>
    intro p hd hp
    by_cases hp0:p=[]
    ·exact .inl hp0
    right
    rcases h.clean p (hsub hp) with h0 | ⟨e,he,hpe⟩
    ·exact absurd h0 hp0
    by_cases hel:e.1=l
    ·rw[hel]at hpe
     rcases hpr.stay p hp (List.nil_prefix) hp0 (by simpa using hpe) with g | ⟨c,hc⟩
     ·obtain⟨e',he',hpe'⟩:=(hhere p hp).1 g
      exact⟨e',he',by rw[hpe'];exact List.prefix_refl p⟩
     ·rcases ih (p++[c]) (by simp;omega) hc with h0 | ⟨e',he',hpe'⟩
      ·simp at h0
      ·exact⟨e',he',(List.prefix_append p [c]).trans hpe'⟩
    ·exact⟨e,mem_without.2 ⟨he,hel⟩,hpe⟩
  exact fun p hp=>key _ p rfl hp
 ·have:=without_length h.nodup hin
  have:=h.room
  omega
theorem drop_ok{w:World}{own:Nat→Prop}{tb:Nat}{lim clock:Int}{es:List Ent}(h:TrieSt w own tb lim es clock)(s:Sl)(l:Path)(hr:Rds i64v w s l)(hl:l.length≤9223372036854775806)(hs:∀a,s.base=some a→¬own a.block):
  Calls Tryz.prog 73 #[.pointer (some ⟨tb,0,none⟩),slv s] w fun en w'=>
   ((∀e∈es,e.1≠l)∧en=.returned (.bool false)∧Ex w w')∨∃v,(l,v)∈es∧en=.returned (.bool true)∧TrieSt w' own tb lim (without es l) clock∧Mo own w w':=by
 obtain⟨vown,ns,y,hm,he⟩:=h
 refine trie_Trie_Drop.run _ _ s w ?_
 unfold trie_Trie_Drop.M
 refine Cl_gvp (holder_gv hm he.goodN s l hr hl) fun w1 hx1=>?_
 refine aCZ tN ?_
 by_cases hh:l∈ns∧y.here l=true
 ·rw[if_pos hh]
  refine aAZ ?_
  have hin:=he.held hh
  have hm1:=hm.ex hx1
  have hB1:=hm1.node l hh.1
  refine agZ ?_
  refine awZ (v:=.bool false) hB1 (by kernel_rfl) (by simp[Value.cells,Value.oneCell']) (Nat.le_of_ble_eq_true (by kernel_rfl)) fun w2 hB2 hmo2=>?_
  refine agZ ?_
  refine awZ (v:=slv nilS) hB2 (by kernel_rfl) (by simp[Value.cells,Value.oneCell']) (Nat.le_of_ble_eq_true (by kernel_rfl)) fun w3 hB3 hmo3=>?_
  have hmo13:Mo (fun b=>b=y.nd l) w1 w3:=hmo2.trans hmo3 (fun _=>id) (fun _ _=>id)
  have hB3':Has w3 (y.nd l) [.map (some (y.mp l)),.bool false,slv nilS,.int .i64 (y.used l)] 123:=hB3
  have hm3:Mem w3 own vown tb lim es.length clock ns { y with here:=upd y.here l false,val:=upd y.val l nilS }:=by
   refine hm1.node_set hh.1 hmo13 rfl rfl ?_ (fun q hq=>⟨apZ _ _ hq,apZ _ _ hq,rfl,rfl⟩) (fun hx=>?_)
   ·show Has w3 (y.nd l) [.map (some (y.mp l)),.bool (upd y.here l false l),slv (upd y.val l nilS l),.int .i64 (y.used l)] _
    rw[axZ,axZ];exact hB3'
   ·have hx:upd y.here l false l=true:=hx
    rw[axZ]at hx;cases hx
  refine agZ ?_
  refine ajZ hm3.top (by kernel_rfl) rfl ?_
  refine agZ ?_
  have hlen:=without_length he.nodup hin
  have hroom:=he.room
  have hl2:=he.lim2
  rw[adZ (x:=(es.length:Int)-1) (by omega) (by omega)]
  refine awZ (v:=.int .i64 ((es.length:Int)-1)) hm3.top sI (by simp[Value.cells,Value.oneCell']) (Nat.le_of_ble_eq_true (by kernel_rfl)) fun w4 hB4 hmo4=>?_
  have hm4:=hm3.top_set (n':=(es.length:Int)-1) (clock':=clock) hB4 hmo4
  refine agZ ?_
  refine ajZ hm4.top (by kernel_rfl) rfl ?_
  have own1:∀b,b=y.nd l→own b:=fun b hb=>by rw[hb];exact(hm.ownN l hh.1).1
  have hmo04:Mo own w w4:=((hx1.mo (hmo13.weak (Y:=own) (fun b _ hb=>own1 b hb)))).trans (hmo4.weak (Y:=own) (fun b _ hb=>by rw[hb];exact hm.ownT.1)) (fun _=>id) (fun _ _=>id)
  refine Calls.mono (prune_ok l [] s w4 ns hm4 hm4.root (hr.mo hmo04 hs) hl hs) ?_
  rintro en w5 ⟨ns',b,rfl,hm5,hmo5,hpr,_⟩
  refine⟨b,rfl,.inr ⟨y.rows l,hin,rfl,⟨vown,ns',_,?_,he.dropped hin hpr⟩,hmo04.trans hmo5 (fun _=>id) (fun _ _=>id)⟩⟩
  have e1:((without es l).length:Int)=(es.length:Int)-1:=by omega
  rw[e1];exact hm5
 ·rw[if_neg hh]
  refine Cd_t ?_
  exact .inl ⟨he.unheld hh,rfl,hx1⟩
end Go.Proofs.YtbiilejgfihohaaGreat.Tr
namespace Go.Proofs.YtbiilejgfihohaaGreat
open Go Go.Cu Go.RowKit
theorem sh_of_mat{W0 w:World}{T:Ths}{k:Ky}{s:Sl}{hs:List Sl}{M:Mtx}(hS:Sep W0 w T)(hk:T k=buZ s hs M):Sep W0 w (T.up k (ShT s hs M)):=by
 obtain⟨F,ht,_,hc⟩:=hS.get k hk
 exact hc w _ F (Mo.refl _ _) ⟨ht.hdr,ht.len,ht.row,ht.dis,ht.apt,ht.own⟩ (fun b hb=>.inl hb)
theorem bdZ{W0 w:World}{T:Ths}{k:Ky}{s:Sl}{hs:List Sl}{M:Mtx}(hS:Sep W0 w T)(hk:T k=ShT s hs M):MatR w s hs M:=by
 obtain⟨h1,h2,h3⟩:=sh_get hS hk
 exact⟨h1.rds,h2,fun i h r e1 e2=>(h3 i h r e1 e2).rds⟩
theorem sh_out{W0 w w':World}{T:Ths}{k q:Ky}{s h:Sl}{hs:List Sl}{M:Mtx}{i:Nat}{r:List F8}(hkq:k≠q)(hS:Sep W0 w T)(hk:T k=ShT s hs M)(hh:hs[i]? =some h)(hr:M[i]? =some r)
  (ho:Own slV 24 0 w' s (hs.set i ⟨none,0,0⟩)) (m:Mo (SlIn s) w w'):Sep W0 w' ((T.up k (ShT s (hs.set i ⟨none,0,0⟩) (M.set i []))).up q (Rdo f8v h r)):=by
 obtain⟨hm,F,h1,h2,h3⟩:=hS
 have hi:=(List.getElem?_eq_some_iff.1 hh).1
 have ht:ShIn w (F k) s hs M:=by
  have:=h1 k
  rw[hk]at this
  exact this
 have hmF:Mo (F k) w w':=m.weak (fun b _ hb=>ht.own b hb)
 refine⟨Mo.trans hm m (fun _=>id) (fun b _ hb=>(h2 k b (ht.own b hb)).1),fun j=>if j=q then SlIn h else if j=k then (fun b=>F k b∧¬SlIn h b) else F j,fun j=>?_,fun j b hb=>?_,fun a j b haj ha hj=>?_⟩
 ·unfold Ths.up
  dsimp only
  by_cases e:j=q
  ·rw[if_pos e,if_pos e]
   exact⟨((ht.row i h r hh hr).mo m (fun b hb hb'=>(ht.apt i h hh b hb).1 hb')).rds,fun b hb=>hb⟩
  ·rw[if_neg e,if_neg e]
   by_cases e2:j=k
   ·rw[if_pos e2,if_pos e2]
    refine⟨ho,by rw[List.length_set,List.length_set];exact ht.len,fun j' g x g1 g2=>?_,fun i1 i2 g g' hne g1 g2 b hb hb'=>?_,fun j' g g1 b hb=>?_,fun b hb=>⟨ht.own b hb,fun hb'=>(ht.apt i h hh b hb').1 hb⟩⟩
    ·rw[List.getElem?_set]at g1 g2
     by_cases e3:i=j'
     ·subst e3
      rw[if_pos rfl,if_pos hi]at g1
      rw[if_pos rfl,if_pos (by have:=ht.len;omega)]at g2
      obtain rfl:=Option.some.inj g1
      obtain rfl:=Option.some.inj g2
      exact Own.nil _ _ _ _
     ·rw[if_neg e3]at g1 g2
      exact(ht.row j' g x g1 g2).mo m (fun b hb hb'=>(ht.apt j' g g1 b hb).1 hb')
    ·rw[List.getElem?_set]at g1 g2
     by_cases e3:i=i1
     ·subst e3
      rw[if_pos rfl,if_pos hi]at g1
      obtain rfl:=Option.some.inj g1
      obtain⟨a,ha,_⟩:=hb
      cases ha
     ·rw[if_neg e3]at g1
      by_cases e4:i=i2
      ·subst e4
       rw[if_pos rfl,if_pos hi]at g2
       obtain rfl:=Option.some.inj g2
       obtain⟨a,ha,_⟩:=hb'
       cases ha
      ·rw[if_neg e4]at g2
       exact ht.dis i1 i2 g g' hne g1 g2 b hb hb'
    ·rw[List.getElem?_set]at g1
     by_cases e3:i=j'
     ·subst e3
      rw[if_pos rfl,if_pos hi]at g1
      obtain rfl:=Option.some.inj g1
      obtain⟨a,ha,_⟩:=hb
      cases ha
     ·rw[if_neg e3]at g1
      have:=ht.apt j' g g1 b hb
      exact⟨this.1,this.2,fun hb'=>ht.dis j' i g h (fun e=>e3 e.symm) g1 hh b hb hb'⟩
   ·rw[if_neg e2,if_neg e2]
    exact(T j).fr (h1 j) hmF (fun b hb hb'=>h3 j k b e2 hb hb')
 ·dsimp only at hb
  by_cases e:j=q
  ·rw[if_pos e]at hb
   have:=h2 k b (ht.apt i h hh b hb).2
   exact⟨this.1,Nat.lt_of_lt_of_le this.2 m.size⟩
  ·rw[if_neg e]at hb
   by_cases e2:j=k
   ·rw[if_pos e2]at hb
    have:=h2 k b hb.1
    exact⟨this.1,Nat.lt_of_lt_of_le this.2 m.size⟩
   ·rw[if_neg e2]at hb
    have:=h2 j b hb
    exact⟨this.1,Nat.lt_of_lt_of_le this.2 m.size⟩
 ·dsimp only at ha hj
  by_cases e:a=q
  ·rw[if_pos e]at ha
   rw[if_neg (fun e'=>haj (e.trans e'.symm))]at hj
   by_cases e2:j=k
   ·rw[if_pos e2]at hj
    exact hj.2 ha
   ·rw[if_neg e2]at hj
    exact h3 j k b e2 hj (ht.apt i h hh b ha).2
  ·rw[if_neg e]at ha
   by_cases e1:j=q
   ·rw[if_pos e1]at hj
    by_cases e2:a=k
    ·rw[if_pos e2]at ha
     exact ha.2 hj
    ·rw[if_neg e2]at ha
     exact h3 a k b e2 ha (ht.apt i h hh b hj).2
   ·rw[if_neg e1]at hj
    by_cases e2:a=k
    ·rw[if_pos e2]at ha
     by_cases e3:j=k
     ·exact haj (e2.trans e3.symm)
     ·rw[if_neg e3]at hj
      exact h3 j k b e3 hj ha.1
    ·rw[if_neg e2]at ha
     by_cases e3:j=k
     ·rw[if_pos e3]at hj
      exact h3 a k b e2 ha hj.1
     ·rw[if_neg e3]at hj
      exact h3 a j b haj ha hj
def SetT(sp b kb:Nat):Th:=⟨fun w F=>SetH w sp b kb∧F sp∧F kb,fun h m hx=>⟨h.1.mo m (hx _ h.2.1) (hx _ h.2.2),h.2⟩⟩
def TriT(tb:Nat)(es:List Tr.Ent)(clock:Int):Th:=⟨fun w F=>Tr.TrieSt w F tb 16 es clock,fun h m hx=>h.mo m hx⟩
structure CodA where
 cp:Nat
 sp:Nat
 kb:Nat
 tb:Nat
 ps:Sl
 phs:List Sl
abbrev codV(a:CodA)(f:Int)(k m:Nat):List Value:=[.int .i64 f,aOZ k,aOZ m,.pointer (at0 a.sp),slV a.ps,.pointer (at0 a.tb)]
def intsM(D:Mtx):List (List Int):=D.map (fun r=>r.map (fun x=>(x.toNat:Int)))
def CachOk(k m:Nat)(Q:Mtx)(e:Tr.Ent):Prop:=∃(L:List Nat) (D:Mtx),e.1=(L.map fun(n:Nat)=>((n:Nat):Int))∧decM k (gM k Q) ((aIZ (k+m) L).take k) L=some D∧e.2=intsM D
structure Cod(T:Ths)(j:Nat)(a:CodA)(f:Int)(k m b:Nat)(Q:Mtx)(es:List Tr.Ent)(clock:Int):Prop where
 c0:T (.bx (4*j))=Cel a.cp (codV a f k m) 78
 c1:T (.bx (4*j+1))=SetT a.sp b a.kb
 c2:T (.bx (4*j+2))=RoM a.ps a.phs Q
 c3:T (.bx (4*j+3))=TriT a.tb es clock
 hf:f=0∨f=1
 hk1:1≤k
 hm1:1≤m
 hkm:k+m≤256
 hQ:parM f k m=some Q
 hes:∀e∈es,CachOk k m Q e
theorem Cod.next{T T':Ths}{j:Nat}{a:CodA}{f:Int}{k m b:Nat}{Q:Mtx}{es:List Tr.Ent}{clock:Int}(h:Cod T j a f k m b Q es clock)(hT:∀i,T' (.bx i)=T (.bx i)):Cod T' j a f k m b Q es clock:=
 {h with c0:=(hT _).trans h.c0,c1:=(hT _).trans h.c1,c2:=(hT _).trans h.c2,c3:=(hT _).trans h.c3 }
theorem Cod.shp{T:Ths}{j:Nat}{a:CodA}{f:Int}{k m b:Nat}{Q:Mtx}{es:List Tr.Ent}{clock:Int}(h:Cod T j a f k m b Q es clock):Shp Q m k∧Mds k m (ent (gM k Q)):=by
 obtain⟨p,h1,h2,h3⟩:=par_ok h.hf h.hkm
 rw[h.hQ]at h1
 cases h1
 exact⟨h2,h3⟩
theorem Cod.cel{T:Ths}{j:Nat}{a:CodA}{f:Int}{k m b:Nat}{Q:Mtx}{es:List Tr.Ent}{clock:Int}{W0 w:World}(h:Cod T j a f k m b Q es clock)(hS:Sep W0 w T):Has w a.cp (codV a f k m) 78:=hS.has h.c0
theorem Cod.set{T:Ths}{j:Nat}{a:CodA}{f:Int}{k m b:Nat}{Q:Mtx}{es:List Tr.Ent}{clock:Int}{W0 w:World}(h:Cod T j a f k m b Q es clock)(hS:Sep W0 w T):SetH w a.sp b a.kb:=by
 obtain⟨F,ht,_⟩:=hS.get _ h.c1
 exact ht.1
theorem Cod.par{T:Ths}{j:Nat}{a:CodA}{f:Int}{k m b:Nat}{Q:Mtx}{es:List Tr.Ent}{clock:Int}{W0 w:World}(h:Cod T j a f k m b Q es clock)(hS:Sep W0 w T):MatR w a.ps a.phs Q:=ro_get hS h.c2
theorem mnew_ok{W0 w:World}{T:Ths}{j:Nat}{f:Int}{k m b:Nat}(hS:Sep W0 w T)(hf:f=0∨f=1)(hb:b≤2)(hk1:1≤k)(hm1:1≤m)(hkm:k+m≤256):
  Cl Tryz.prog 32 #[.int .i64 f,aOZ b,aOZ k,aOZ m] (.tup [.at .ptr,.at (.int .i64)]) (fun x w'=>∃a T' Q,x=(at0 a.cp,0,())∧Sep W0 w' T'∧(∀q,(∀i,q≠.tm i)→(∀i,i<4→q≠.bx (4*j+i))→T' q=T q)∧Cod T' j a f k m b Q [] 0) w:=by
 obtain⟨Q,hQ,hsh,hmds⟩:=par_ok hf hkm
 refine mcode_New.run _ f (b:Int) (k:Int) (m:Int) w ?_
 generalize hRR:(fun(e:Ending) (w':World)=>∃x:Option Addr×Int×Unit,e=.returned ((Sh.tup [.at .ptr,.at (.int .i64)]).enc x)∧∃a T' Q,x=(at0 a.cp,0,())∧Sep W0 w' T'∧(∀q,(∀i,q≠.tm i)→(∀i,i<4→q≠.bx (4*j+i))→T' q=T q)∧Cod T' j a f k m b Q [] 0)=R
 unfold mcode_New.M
 have main:mcode_New.j1 R f (b:Int) (k:Int) (m:Int) false w:=by
  unfold mcode_New.j1
  refine aAZ ?_
  refine aeZ (newSet_ok hb w) ?_
  rintro _ w1 ⟨sp,kb,rfl,hK,h1,h2,h3,h4,hx1⟩
  refine aAZ ?_
  have hS1:Sep W0 w1 (T.up (.bx (4*j+1)) (SetT sp b kb)):=hS.new (.bx (4*j+1)) (G:=fun i=>i=sp∨i=kb) hx1 ⟨hK,.inl rfl,.inr rfl⟩ (fun i hi=>by rcases hi with rfl | rfl <;> omega)
  refine aeZ (parity_ok (.bx (4*j+2)) (fun i=>by simp) hS1 hf hk1 hm1 hkm hQ) ?_
  rintro _ w2 ⟨ps,phs,T2,rfl,hS2,hT2,hk2⟩
  refine aAZ ?_
  refine Cl_of (Tr.new_ok 16 w2) ?_
  rintro e w3 ⟨hx3,⟨h,_⟩ | ⟨_,tb,rfl,htb,hst⟩⟩
  ·omega
  refine⟨(at0 tb,0,()),rfl,aAZ ?_⟩
  have hS3:Sep W0 w3 (T2.up (.bx (4*j+3)) (TriT tb [] 0)):=hS2.new (.bx (4*j+3)) hx3 hst (fun _ h=>h)
  refine bcZ fun w4 hB hx4=>?_
  have hS4:=hS3.box (.bx (4*j)) hx4 hB
  subst hRR
  refine⟨(at0 w3.heap.size,0,()),rfl,⟨w3.heap.size,sp,kb,tb,ps,phs⟩,_,Q,rfl,hS4,fun q hq1 hq2=>?_,?_⟩
  ·have e0:q≠.bx (4*j):=hq2 0 (by omega)
   have e1:=hq2 1 (by omega)
   have e2:=hq2 2 (by omega)
   have e3:=hq2 3 (by omega)
   rw[Ths.up_ne _ _ e0,Ths.up_ne _ _ e3,hT2 q hq1 e2,Ths.up_ne _ _ e1]
  ·have n1:(Ky.bx (4*j+1))≠.bx (4*j):=by simp
   have n2:(Ky.bx (4*j+2))≠.bx (4*j):=by simp
   have n3:(Ky.bx (4*j+3))≠.bx (4*j):=by simp
   have n13:(Ky.bx (4*j+1))≠.bx (4*j+3):=by simp
   have n23:(Ky.bx (4*j+2))≠.bx (4*j+3):=by simp
   have n12:(Ky.bx (4*j+1))≠.bx (4*j+2):=by simp
   refine { c0:=Ths.up_same _ _ _,c1:=?_,c2:=?_,c3:=?_,hf:=hf,hk1:=hk1,hm1:=hm1,hkm:=hkm,hQ:=hQ,hes:=by simp }
   ·rw[Ths.up_ne _ _ n1,Ths.up_ne _ _ n13,hT2 _ (fun i=>by simp) n12,Ths.up_same]
   ·rw[Ths.up_ne _ _ n2,Ths.up_ne _ _ n23,hk2]
   ·rw[Ths.up_ne _ _ n3,Ths.up_same]
 rcases hf with rfl | rfl
 ·exact aEZ (fun h=>absurd rfl h) (fun _=>main)
 ·exact aEZ (fun _=>main) (fun h=>by omega)
end Go.Proofs.YtbiilejgfihohaaGreat
namespace Go.Proofs.YtbiilejgfihohaaGreat
open Go Go.Cu Go.RowKit
theorem mwithin_gv{w:World}{fr to n:Nat}(h1:fr≤to):Gv Tryz.prog 35 #[.agg #[.int .i64 (fr:Int),.int .i64 (to:Int)],.int .i64 (n:Int)] (.int .i64 (if to≤n then 0 else 7)) w:=by
 refine mcode_within.run _ ((fr:Int),(to:Int),()) (n:Int) w ?_
 unfold mcode_within.M
 refine bcZ fun w1 hB hx=>?_
 have e:(⟨w.heap.size,0,none⟩:Addr).add 1=⟨w.heap.size,1,none⟩:=rfl
 refine ajZ (c:=.int .i64) (x:=(fr:Int)) hB (by kernel_rfl) rfl ?_
 refine abZ (fun h=>by omega) (fun _=>?_)
 rw[e]
 refine ajZ (c:=.int .i64) (x:=(to:Int)) hB (by kernel_rfl) rfl ?_
 refine ajZ (c:=.int .i64) (x:=(fr:Int)) hB (by kernel_rfl) rfl ?_
 refine abZ (fun h=>by omega) (fun _=>?_)
 refine ajZ (c:=.int .i64) (x:=(to:Int)) hB (by kernel_rfl) rfl ?_
 unfold mcode_within.j1
 refine abZ (fun h=>⟨by rw[if_neg (by omega)],hx⟩) (fun h=>⟨by rw[if_pos (by omega)],hx⟩)
theorem Pu_codnil{x y:Operand}{a:Addr}{k:Bool→World→Prop}{w:World}(hk:k false w):
  Pu Tryz.prog (do eqGuard .eql 26 x y (.pointer (some a)) (.pointer none);binOp .eql 26 (.pointer (some a)) (.pointer none)) (.one (.at .bool)) k w:=Pu_notnil (e:=78) (by kernel_rfl) hk
theorem cwhole_ok{w:World}{a:CodA}{s:Sl}{hs:List Sl}{f:Int}{k m n:Nat}(hB:Has w a.cp (codV a f k m) 78)(hr:Rds slV w s hs)(hl:hs.length=k+m)(hn:Len n hs)(hn1:1≤n)(hn2:n≤140737488355328)(hf:f=0∨f=1)(hk1:1≤k)(hm1:1≤m)(hkm:k+m≤256):
  Cl Tryz.prog 34 #[.pointer (at0 a.cp),.slice s.base s.len s.cap] (.tup [.at (.int .i64),.at (.int .i64)]) (fun x w'=>x=((n:Int),0,())∧Ex w w') w:=by
 refine mC_whole.run _ (at0 a.cp) s w ?_
 unfold mC_whole.M
 refine Pu_codnil (aAZ ?_)
 have hd:=Ex.drew w
 refine asZ (fun w'=>Has w' a.cp (codV a f k m) 78) (hB.ex hd) ?_
 refine agZ (akZ (c:=.int .i64) (x:=f) (fun w' h=>h) (by kernel_rfl) rfl ?_)
 refine agZ (akZ (c:=.int .i64) (x:=(k:Int)) (B:=a.cp) (i:=1) (fun w' h=>h) (by kernel_rfl) rfl ?_)
 refine agZ (akZ (c:=.int .i64) (x:=(m:Int)) (B:=a.cp) (i:=2) (fun w' h=>h) (by kernel_rfl) rfl ?_)
 refine aeZ (whole_ok (hr.ex hd) hl hn hn1 hn2 hf hk1 hm1 hkm) ?_
 rintro _ w2 ⟨rfl,hx⟩
 exact⟨(hB.ex hd).ex hx,_,rfl,rfl,hd.trans hx⟩
theorem matR_take{w:World}{s:Sl}{hs:List Sl}{A D:Mtx}{k:Nat}(h:MatR w s hs (A++D))(hA:A.length=k):MatR w (beZ s 0 k) (hs.take k) A:=by
 have hl:=h.len
 rw[List.length_append]at hl
 refine⟨?_,by rw[List.length_take];omega,fun i g r e1 e2=>?_⟩
 ·have:=bTZ h.hdr (a:=0) (b:=k) (Nat.zero_le _) (by omega)
  rwa [List.drop_zero]at this
 ·rw[List.getElem?_take]at e1
  split at e1
  ·exact h.row i g r e1 (by rw[List.getElem?_append_left (List.getElem?_eq_some_iff.1 e2).1];exact e2)
  ·cases e1
theorem matR_drop{w:World}{s:Sl}{hs:List Sl}{A D:Mtx}{k:Nat}(h:MatR w s hs (A++D))(hA:A.length=k):MatR w (beZ s k s.len) (hs.drop k) D:=by
 have hl:=h.len
 rw[List.length_append]at hl
 have hsl:=h.hdr.1
 refine⟨?_,by rw[List.length_drop];omega,fun i g r e1 e2=>?_⟩
 ·have:=bTZ h.hdr (a:=k) (b:=s.len) (by omega) (by omega)
  have e:hs.take s.len=hs:=List.take_of_length_le (by omega)
  rw[e]at this
  exact this
 ·rw[List.getElem?_drop]at e1
  exact h.row (k+i) g r e1 (by rw[List.getElem?_append_right (by omega),hA,Nat.add_sub_cancel_left];exact e2)
def StE(W0:World)(T:Ths)(ks:Ky)(s:Sl)(hs:List Sl)(A:Mtx)(k m:Nat)(w:World)(D:Mtx):Prop:=Sep W0 w (T.up ks (ShT s hs (A++D)))∧A.length=k∧D.length=m
theorem ds_sh{W0:World}{T:Ths}{ks:Ky}{s:Sl}{hs:List Sl}{A:Mtx}{k m:Nat}{Q:World→Prop}(hQ:∀w D,StE W0 T ks s hs A k m w D→Q w):DsSt (StE W0 T ks s hs A k m) (hs.drop k) Q where
 read:=fun h=>hQ _ _ h
 len:=fun {w D} h=>by
  obtain⟨h1,h2,h3⟩:=h
  have hl:=(sh_get h1 (Ths.up_same _ _ _)).2.1
  rw[List.length_append]at hl
  rw[List.length_drop];omega
 own:=fun {w D i g r} h e1 e2=>by
  obtain⟨h1,h2,h3⟩:=h
  rw[List.getElem?_drop]at e1
  exact(sh_get h1 (Ths.up_same _ _ _)).2.2 (k+i) g r e1 (by rw[List.getElem?_append_right (by omega),h2,Nat.add_sub_cancel_left];exact e2)
 put:=fun {w D w' i g r} h e1 ho m=>by
  obtain⟨h1,h2,h3⟩:=h
  rw[List.getElem?_drop]at e1
  have:=sh_row h1 (Ths.up_same _ _ _) e1 ho m
  rw[Ths.up_up,List.set_append_right _ _ (by omega),h2,Nat.add_sub_cancel_left]at this
  exact⟨this,h2,by rw[List.length_set];exact h3⟩
 ex:=fun h x=>⟨h.1.exx x,h.2⟩
theorem sep_nd{W0 w:World}{T:Ths}{ks q:Ky}{s:Sl}{hs:List Sl}{M:Mtx}(k:Nat)(hS:Sep W0 w T)(hk:T ks=ShT s hs M)(hq:q≠ks):∃G:Nat→Prop,(T q).h w G∧∀b,G b→Nd (hs.drop k) b:=by
 obtain⟨F,G,h1,h2,h3⟩:=hS.apart (k:=ks) (j:=q) (fun e=>hq e.symm)
 rw[hk]at h1
 have ht:ShIn w F s hs M:=h1
 refine⟨G,h2,fun b hb i g hg hb'=>?_⟩
 rw[List.getElem?_drop]at hg
 exact h3 b (ht.apt _ g hg b hb').2 hb
theorem sh_nd{W0 w:World}{T:Ths}{ks:Ky}{s:Sl}{hs:List Sl}{M:Mtx}(k:Nat)(hS:Sep W0 w T)(hk:T ks=ShT s hs M):(∀b,SlIn s b→Nd (hs.drop k) b)∧∀(i:Nat) (h:Sl),(hs.take k)[i]? =some h→∀b,SlIn h b→Nd (hs.drop k) b:=by
 obtain⟨F,ht,_⟩:=hS.get ks hk
 refine⟨fun b hb i g hg hb'=>?_,fun i h hh b hb j g hg hb'=>?_⟩
 ·rw[List.getElem?_drop]at hg
  exact(ht.apt _ g hg b hb').1 hb
 ·rw[List.getElem?_drop]at hg
  rw[List.getElem?_take]at hh
  split at hh
  ·exact ht.dis i (k+j) h g (by omega) hh hg b hb hb'
  ·cases hh
def encM(fr to n k:Nat)(Q M:Mtx):Mtx:=M.take k++applyM fr to n Q (M.take k) (M.drop k)
theorem encSpan_ok{W0 w:World}{T:Ths}{j:Nat}{a:CodA}{f:Int}{k m b n fr to:Nat}{Q M:Mtx}{es:List Tr.Ent}{clock:Int}{ks:Ky}{s:Sl}{hs:List Sl}(hS:Sep W0 w T)(hC:Cod T j a f k m b Q es clock)(hk:T ks=ShT s hs M)(hkb:∀i,ks≠.bx i)
  (hM:Shp M (k+m) n) (hn1:1≤n) (hn2:n≤140737488355328) (h1:fr≤to) (h2:to≤n):
  Cl Tryz.prog 28 #[.pointer (at0 a.cp),.slice s.base s.len s.cap,.agg #[.int .i64 (fr:Int),.int .i64 (to:Int)]] (.one (.at (.int .i64))) (fun x w'=>x=0∧Sep W0 w' (T.up ks (ShT s hs (encM fr to n k Q M)))) w:=by
 refine mC_EncodeSpan.run _ (at0 a.cp) s ((fr:Int),(to:Int),()) w ?_
 generalize hRR:(fun(e:Ending) (w':World)=>∃x:Int,e=.returned ((Sh.one (.at (.int .i64))).enc x)∧x=0∧Sep W0 w' (T.up ks (ShT s hs (encM fr to n k Q M))))=R
 unfold mC_EncodeSpan.M
 obtain⟨hQs,_⟩:=hC.shp
 have hB:=hC.cel hS
 have hMR:=bdZ hS hk
 have hhl:hs.length=k+m:=by rw[hMR.len,hM.1]
 have hLen:Len n hs:=hMR.lenS hM.2
 refine bcZ fun w1 hBs hx1=>?_
 refine aeZ (cwhole_ok (hB.ex hx1) (hMR.hdr.ex hx1) hhl hLen hn1 hn2 hC.hf hC.hk1 hC.hm1 hC.hkm) ?_
 rintro _ w2 ⟨rfl,hx2⟩
 refine Cd_t ?_
 have hBs2:=hBs.ex hx2
 have hab:w.heap.size<w1.heap.size:=hBs.lt
 refine bxZ (x:=((fr:Int),(to:Int),())) hBs2 (by kernel_rfl) rfl ?_
 refine auZ (d:=.one (.at (.int .i64))) (x:=0) (by have:=mwithin_gv (w:=w2) (n:=n) h1;rw[if_pos h2]at this;exact this) fun w3 hx3=>?_
 unfold mC_EncodeSpan.j1
 refine aAZ ?_
 have hd:=Ex.drew w3
 have hx:=((hx1.trans hx2).trans hx3).trans hd
 have hS3:=hS.exx hx
 have hBs3:Has w3.drew w.heap.size [.int .i64 (fr:Int),.int .i64 (to:Int)] 41:=(hBs2.ex hx3).ex hd
 have hB3:=hB.ex hx
 generalize habE:w.heap.size=ab at hBs3 hab ⊢
 have hsp:∀(w':World) (D:Mtx),True:=fun _ _=>trivial
 refine asZ (fun w'=>Has w' a.cp (codV a f k m) 78∧Has w' ab [.int .i64 (fr:Int),.int .i64 (to:Int)] 41) ⟨hB3,hBs3⟩ ?_
 refine agZ (akZ (c:=.ptr) (x:=at0 a.sp) (B:=a.cp) (i:=3) (fun w' h=>h.1) (by kernel_rfl) rfl ?_)
 refine agZ (akZ (c:=.sl) (x:=a.ps) (B:=a.cp) (i:=4) (fun w' h=>h.1) (by kernel_rfl) rfl ?_)
 refine agZ (akZ (c:=.int .i64) (x:=(k:Int)) (B:=a.cp) (i:=1) (fun w' h=>h.1) (by kernel_rfl) rfl ?_)
 have hsl:=hMR.hdr.1
 have hsc:=hMR.hdr.2.1
 refine bKZ 0 k tBB sS (.inl ⟨rfl,rfl⟩) (.inr ⟨_,rfl⟩) (Nat.zero_le _) (by omega) ?_
 refine agZ (akZ (c:=.int .i64) (x:=(k:Int)) (B:=a.cp) (i:=1) (fun w' h=>h.1) (by kernel_rfl) rfl ?_)
 refine bKZ k s.len tBB sS (.inr ⟨_,rfl⟩) (.inl ⟨rfl,rfl⟩) (by omega) (by omega) ?_
 refine RdS_hasN (x:=((fr:Int),(to:Int),())) (fun w' h=>h.2) (by kernel_rfl) rfl ?_
 have hAl:(M.take k).length=k:=by rw[List.length_take,hM.1];omega
 have hDl:(M.drop k).length=m:=by rw[List.length_drop,hM.1];omega
 have ks1:∀i,(Ky.bx i)≠ks:=fun i e=>hkb i e.symm
 let St:World→Mtx→Prop:=fun w' D=>StE W0 T ks s hs (M.take k) k m w' D∧Has w' ab [.int .i64 (fr:Int),.int .i64 (to:Int)] 41
 have hrd:∀w' D,StE W0 T ks s hs (M.take k) k m w' D→SetH w' a.sp b a.kb∧MatR w' a.ps a.phs Q∧MatR w' (beZ s 0 k) (hs.take k) (M.take k)∧Rds slV w' (beZ s k s.len) (hs.drop k):=by
  rintro w' D ⟨g1,g2,g3⟩
  have hC':=hC.next (T':=T.up ks (ShT s hs (M.take k++D))) (fun i=>Ths.up_ne _ _ (ks1 i))
  have hM':=bdZ g1 (Ths.up_same _ _ _)
  exact⟨hC'.set g1,hC'.par g1,matR_take hM' g2,(matR_drop hM' g2).hdr⟩
 have hds:=ds_sh (Q:=fun w'=>SetH w' a.sp b a.kb∧MatR w' a.ps a.phs Q∧MatR w' (beZ s 0 k) (hs.take k) (M.take k)∧Rds slV w' (beZ s k s.len) (hs.drop k)) hrd
 have habN:∀{w':World} {D:Mtx},StE W0 T ks s hs (M.take k) k m w' D→Nd (hs.drop k) ab:=by
  intro w' D _ i g hg hb
  rw[List.getElem?_drop]at hg
  obtain⟨F,ht,hF,_⟩:=hS.get ks hk
  have:=(hF _ (ht.apt _ g hg ab hb).2).2
  omega
 have hdsS:DsSt St (hs.drop k) (fun w'=>SetH w' a.sp b a.kb∧MatR w' a.ps a.phs Q∧MatR w' (beZ s 0 k) (hs.take k) (M.take k)∧Rds slV w' (beZ s k s.len) (hs.drop k)):=
  {read:=fun h=>hds.read h.1,len:=fun h=>hds.len h.1,own:=fun h=>hds.own h.1,ex:=fun h x=>⟨hds.ex h.1 x,h.2.ex x⟩,
   put:=fun h e ho mo=>⟨hds.put h.1 e ho mo,h.2.mo mo (fun hb=>habN h.1 _ _ e hb)⟩ }
 have h0:St w3.drew (M.drop k):=⟨⟨by rw[List.take_append_drop,←hk,Ths.up_id];exact hS3,hAl,hDl⟩,hBs3⟩
 obtain⟨G1,g1,g1'⟩:=sep_nd k hS hk (q:=.bx (4*j+1)) (ks1 _)
 obtain⟨G2,g2,g2'⟩:=sep_nd k hS hk (q:=.bx (4*j+2)) (ks1 _)
 rw[hC.c1]at g1
 rw[hC.c2]at g2
 obtain⟨nd1,nd2⟩:=sh_nd k hS hk
 refine aeZ (apply_ok hdsS h0 (g1' _ g1.2.1) (g1' _ g1.2.2) (fun i h hh b hb=>g2' b (g2.2.2 i h hh b hb)) (fun b hb=>nd1 b (cut_in hb)) nd2 (by rw[hDl,hAl];exact hQs) (fun x hx=>hM.2 x (List.mem_of_mem_take hx)) (fun x hx=>hM.2 x (List.mem_of_mem_drop hx)) (by rw[hAl];exact hC.hk1) (by have:=hC.hkm;omega) (by have:=hC.hkm;omega) hn1 hn2 h1 h2) ?_
 rintro _ w4 ⟨rfl,hS4,hB4⟩
 have hC4:=hC.next (T':=T.up ks (ShT s hs (M.take k++applyM fr to n Q (M.take k) (M.drop k)))) (fun i=>Ths.up_ne _ _ (ks1 i))
 refine⟨⟨hC4.cel hS4.1,hB4⟩,?_⟩
 subst hRR
 exact⟨0,rfl,rfl,hS4.1⟩
theorem encode_ok{W0 w:World}{T:Ths}{j:Nat}{a:CodA}{f:Int}{k m b n:Nat}{Q M:Mtx}{es:List Tr.Ent}{clock:Int}{ks:Ky}{s:Sl}{hs:List Sl}(hS:Sep W0 w T)(hC:Cod T j a f k m b Q es clock)(hk:T ks=ShT s hs M)(hkb:∀i,ks≠.bx i)
  (hM:Shp M (k+m) n) (hn1:1≤n) (hn2:n≤140737488355328):
  Cl Tryz.prog 13 #[.pointer (at0 a.cp),.slice s.base s.len s.cap] (.one (.at (.int .i64))) (fun x w'=>x=0∧Sep W0 w' (T.up ks (ShT s hs (encM 0 n n k Q M)))) w:=by
 refine mC_Encode.run _ (at0 a.cp) s w ?_
 unfold mC_Encode.M
 have hMR:=bdZ hS hk
 refine aeZ (cwhole_ok (hC.cel hS) hMR.hdr (by rw[hMR.len,hM.1]) (hMR.lenS hM.2) hn1 hn2 hC.hf hC.hk1 hC.hm1 hC.hkm) ?_
 rintro _ w2 ⟨rfl,hx2⟩
 refine aAZ ?_
 refine aeZ (encSpan_ok (fr:=0) (hS.exx hx2) hC hk hkb hM hn1 hn2 (Nat.zero_le _) (Nat.le_refl _)) ?_
 rintro _ w3 ⟨rfl,hS3⟩
 exact⟨0,rfl,rfl,hS3⟩
theorem verSpan_ok{W0 w:World}{T:Ths}{j:Nat}{a:CodA}{f:Int}{k m b n fr to:Nat}{Q M:Mtx}{es:List Tr.Ent}{clock:Int}{ks:Ky}{s:Sl}{hs:List Sl}(hS:Sep W0 w T)(hC:Cod T j a f k m b Q es clock)(hk:T ks=ShT s hs M)(hkb:∀i,ks≠.bx i)
  (hM:Shp M (k+m) n) (hn1:1≤n) (hn2:n≤140737488355328) (h1:fr≤to) (h2:to≤n):
  Cl Tryz.prog 17 #[.pointer (at0 a.cp),.slice s.base s.len s.cap,.agg #[.int .i64 (fr:Int),.int .i64 (to:Int)]] (.tup [.at .bool,.at (.int .i64)]) (fun x w'=>x=(agreeM fr to n Q (M.take k) (M.drop k),0,())∧Ex w w') w:=by
 refine mC_VerifySpan.run _ (at0 a.cp) s ((fr:Int),(to:Int),()) w ?_
 unfold mC_VerifySpan.M
 obtain⟨hQs,_⟩:=hC.shp
 have hB:=hC.cel hS
 have hMR:=bdZ hS hk
 have hhl:hs.length=k+m:=by rw[hMR.len,hM.1]
 refine bcZ fun w1 hBs hx1=>?_
 refine aeZ (cwhole_ok (hB.ex hx1) (hMR.hdr.ex hx1) hhl (hMR.lenS hM.2) hn1 hn2 hC.hf hC.hk1 hC.hm1 hC.hkm) ?_
 rintro _ w2 ⟨rfl,hx2⟩
 refine Cd_t ?_
 have hBs2:=hBs.ex hx2
 refine bxZ (x:=((fr:Int),(to:Int),())) hBs2 (by kernel_rfl) rfl ?_
 refine auZ (d:=.one (.at (.int .i64))) (x:=0) (by have:=mwithin_gv (w:=w2) (n:=n) h1;rw[if_pos h2]at this;exact this) fun w3 hx3=>?_
 unfold mC_VerifySpan.j1
 refine aAZ ?_
 have hd:=Ex.drew w3
 have hx:=((hx1.trans hx2).trans hx3).trans hd
 have hS3:=hS.exx hx
 have hBs3:Has w3.drew w.heap.size [.int .i64 (fr:Int),.int .i64 (to:Int)] 41:=(hBs2.ex hx3).ex hd
 have hB3:=hB.ex hx
 generalize habE:w.heap.size=ab at hBs3 ⊢
 refine asZ (fun w'=>Has w' a.cp (codV a f k m) 78∧Has w' ab [.int .i64 (fr:Int),.int .i64 (to:Int)] 41) ⟨hB3,hBs3⟩ ?_
 refine agZ (akZ (c:=.ptr) (x:=at0 a.sp) (B:=a.cp) (i:=3) (fun w' h=>h.1) (by kernel_rfl) rfl ?_)
 refine agZ (akZ (c:=.sl) (x:=a.ps) (B:=a.cp) (i:=4) (fun w' h=>h.1) (by kernel_rfl) rfl ?_)
 refine agZ (akZ (c:=.int .i64) (x:=(k:Int)) (B:=a.cp) (i:=1) (fun w' h=>h.1) (by kernel_rfl) rfl ?_)
 have hsl:=hMR.hdr.1
 have hsc:=hMR.hdr.2.1
 refine bKZ 0 k tBB sS (.inl ⟨rfl,rfl⟩) (.inr ⟨_,rfl⟩) (Nat.zero_le _) (by omega) ?_
 refine agZ (akZ (c:=.int .i64) (x:=(k:Int)) (B:=a.cp) (i:=1) (fun w' h=>h.1) (by kernel_rfl) rfl ?_)
 refine bKZ k s.len tBB sS (.inr ⟨_,rfl⟩) (.inl ⟨rfl,rfl⟩) (by omega) (by omega) ?_
 refine RdS_hasN (x:=((fr:Int),(to:Int),())) (fun w' h=>h.2) (by kernel_rfl) rfl ?_
 have hAl:(M.take k).length=k:=by rw[List.length_take,hM.1];omega
 have hDl:(M.drop k).length=m:=by rw[List.length_drop,hM.1];omega
 have hMR3:=hMR.ex hx
 rw[←List.take_append_drop k M]at hMR3
 have hkl:a.kb<w3.drew.heap.size:=by
  obtain⟨F,ht,hF,_⟩:=hS3.get _ hC.c1
  exact(hF _ ht.2.2).2
 refine aeZ (agrees_ok (hC.set hS3) (hC.par hS3) (matR_take hMR3 hAl) (matR_drop hMR3 hAl) hkl (by rw[hDl,hAl];exact hQs) (fun x hx=>hM.2 x (List.mem_of_mem_take hx)) (fun x hx=>hM.2 x (List.mem_of_mem_drop hx)) (by rw[hAl];exact hC.hk1) (by have:=hC.hkm;omega) (by have:=hC.hkm;omega) hn1 hn2 h1 h2) ?_
 rintro _ w4 ⟨rfl,hx4⟩
 exact⟨⟨hB3.ex hx4,hBs3.ex hx4⟩,_,rfl,rfl,hx.trans hx4⟩
theorem verify_ok{W0 w:World}{T:Ths}{j:Nat}{a:CodA}{f:Int}{k m b n:Nat}{Q M:Mtx}{es:List Tr.Ent}{clock:Int}{ks:Ky}{s:Sl}{hs:List Sl}(hS:Sep W0 w T)(hC:Cod T j a f k m b Q es clock)(hk:T ks=ShT s hs M)(hkb:∀i,ks≠.bx i)
  (hM:Shp M (k+m) n) (hn1:1≤n) (hn2:n≤140737488355328):
  Cl Tryz.prog 14 #[.pointer (at0 a.cp),.slice s.base s.len s.cap] (.tup [.at .bool,.at (.int .i64)]) (fun x w'=>x=(agreeM 0 n n Q (M.take k) (M.drop k),0,())∧Ex w w') w:=by
 refine mC_Verify.run _ (at0 a.cp) s w ?_
 unfold mC_Verify.M
 have hMR:=bdZ hS hk
 refine aeZ (cwhole_ok (hC.cel hS) hMR.hdr (by rw[hMR.len,hM.1]) (hMR.lenS hM.2) hn1 hn2 hC.hf hC.hk1 hC.hm1 hC.hkm) ?_
 rintro _ w2 ⟨rfl,hx2⟩
 refine aAZ ?_
 refine aeZ (verSpan_ok (fr:=0) (hS.exx hx2) hC hk hkb hM hn1 hn2 (Nat.zero_le _) (Nat.le_refl _)) ?_
 rintro _ w3 ⟨rfl,hx3⟩
 exact⟨_,rfl,rfl,hx2.trans hx3⟩
end Go.Proofs.YtbiilejgfihohaaGreat
namespace Go.Proofs.YtbiilejgfihohaaGreat
open Go Go.Cu Go.RowKit
def WinT(s:Sl)(g o:Nat)(cs:List Value)(l:List F8):Th:=⟨fun w F=>Win w s g o cs l∧F g,fun h m hx=>⟨h.1.mo m (hx _ h.2),h.2⟩⟩
theorem win_get{W0 w:World}{T:Ths}{q:Ky}{s:Sl}{g o:Nat}{cs:List Value}{l:List F8}(hS:Sep W0 w T)(hq:T q=WinT s g o cs l):Win w s g o cs l:=by
 obtain⟨F,ht,_⟩:=hS.get q hq
 exact ht.1
theorem win_put{W0 w w':World}{T:Ths}{q:Ky}{s:Sl}{g o:Nat}{cs:List Value}{l l':List F8}(hS:Sep W0 w T)(hq:T q=WinT s g o cs l)(hW:Win w' s g o cs l')(m:Mo (fun b=>b=g) w w'):Sep W0 w' (T.up q (WinT s g o cs l')):=by
 obtain⟨F,ht,_,hc⟩:=hS.get q hq
 exact hc w' _ (fun b=>b=g) (m.weak (fun b _ hb=>hb▸ht.2)) ⟨hW,rfl⟩ (fun b hb=>.inl (hb▸ht.2))
theorem win_new{W0 w w':World}{T:Ths}{s:Sl}{g o:Nat}{cs:List Value}{l:List F8}(q:Ky)(hS:Sep W0 w T)(hx:Ex w w')(hW:Win w' s g o cs l)(hg:w.heap.size≤g):Sep W0 w' (T.up q (WinT s g o cs l)):=
 hS.new q (G:=fun b=>b=g) hx ⟨hW,rfl⟩ (fun b hb=>by subst hb;exact⟨hg,hW.has.lt⟩)
theorem Wr_mkwin{w:World}{n:Nat}{a b:Int}{K:Sl→World→Prop}(hn:n≤140737488355328)(ha:a=n)(hb:b=n)(hk:∀s w' cs,s.len=n→Win w' s w.heap.size 0 cs (List.replicate n 0#8)→cs.length=n→s.cap=n→s.base=at0 w.heap.size→Ex w w'→K s w'):
  Wr Tryz.prog (Instr.makeSlice 24 (.int .i64 a) (.int .i64 b)) (.one (.at .sl)) K w:=by
 refine bOZ (f:=f8v) (z:=0#8) tB iB rfl n (by omega) (by omega) ha hb fun s w' hs hB hx=>?_
 have e:bFZ ((List.replicate n 0#8).map f8v) 0 (List.replicate n 0#8)=(List.replicate n 0#8).map f8v:=by
  unfold bFZ
  rw[List.take_zero,List.nil_append,List.drop_of_length_le (by simp),List.append_nil]
 exact hk s w' ((List.replicate n 0#8).map f8v) (by rw[hs]) ⟨by rw[e];exact hB,by rw[List.length_map];omega,by rw[hs];simp,by rw[hs];exact Nat.le_refl _,fun _=>by rw[hs]⟩ (by simp) (by rw[hs]) (by rw[hs]) hx
theorem Wr_cpwin{w:World}{s:Sl}{l:List F8}{ty:TypeId}{K:Sl→World→Prop}(hr:Rds f8v w s l)(hl1:1≤l.length)(hl:l.length≤140737488355328)(hk:∀d w' g cs,Win w' d g 0 cs l→w.heap.size≤g→Ex w w'→K d w'):
  Wr Tryz.prog (Builtin.append_ #[24,24] ty #[.slice none 0 0,.slice s.base s.len s.cap]) (.one (.at .sl)) K w:=by
 refine aGZ (f:=f8v) (s:=⟨none,0,0⟩) (l:=[]) (base:=w.heap.size) tB iB rfl (Own.nil _ _ _ _) hr (fun _=>rfl) (by simp;omega) (by simp;omega) (Nat.le_refl _) fun d w' ho hm hin=>?_
 rw[List.nil_append]at ho
 obtain⟨g,cs,hsb,hb,hcs,hcm,hW⟩:=win_of_own ho hl1
 refine hk d w' g cs hW hb (hm.new (fun i hi=>?_))
 obtain⟨a,ha,_⟩:=hi
 cases ha
def colF'(Q:Mtx)(i:Nat):List F8:=Q.map (fun r=>r.getD i 0#8)
def updM(fr to:Nat)(Q M Fm:Mtx)(L:List Nat)(D:Mtx):Mtx:=L.foldl (fun D i=>bMZ fr to (colF' Q i) (List.zipWith (· ^^^ ·) (M.getD i []) (Fm.getD i [])) D) D
theorem updM_snoc(fr to:Nat)(Q M Fm:Mtx)(L:List Nat)(x:Nat)(D:Mtx):updM fr to Q M Fm (L++[x]) D=bMZ fr to (colF' Q x) (List.zipWith (· ^^^ ·) (M.getD x []) (Fm.getD x [])) (updM fr to Q M Fm L D):=by
 unfold updM
 rw[List.foldl_append]
 rfl
theorem spreadM_shp{fr to m n:Nat}{c d:List F8}{D:Mtx}(h1:fr≤to)(h2:to≤n)(hc:c.length=m)(hd:d.length=n)(hD:Shp D m n):Shp (bMZ fr to c d D) m n:=by
 refine⟨by unfold bMZ;rw[List.length_zipWith,hc,hD.1,Nat.min_self],fun row hr=>?_⟩
 unfold bMZ at hr
 obtain⟨i,hi⟩:=List.mem_iff_getElem?.1 hr
 rw[List.getElem?_zipWith]at hi
 cases hci:c[i]? with
 | none=>rw[hci]at hi;simp at hi
 | some x=>
  cases hdi:D[i]? with
  | none=>rw[hci,hdi]at hi;simp at hi
  | some y=>
   rw[hci,hdi]at hi
   simp only[Option.some.injEq]at hi
   have hy:=hD.2 y (List.mem_of_getElem? hdi)
   rw[←hi,spanR_len h1 (by omega) (by rw[btZ (by omega)];omega),hy]
theorem updM_shp{fr to k m n:Nat}{Q M Fm:Mtx}(h1:fr≤to)(h2:to≤n)(hQ:Q.length=m)(hM:∀i,i<k→(M.getD i []).length=n):∀(L:List Nat) (D:Mtx),(∀x∈L,x<k∧(Fm.getD x []).length=n)→Shp D m n→Shp (updM fr to Q M Fm L D) m n
 | [],D,_,h=>h
 | x::L,D,hL,h=>by
  have hx:=hL x (by simp)
  have:=spreadM_shp (c:=colF' Q x) (d:=List.zipWith (· ^^^ ·) (M.getD x []) (Fm.getD x [])) h1 h2 (by unfold colF';rw[List.length_map];exact hQ) (by rw[List.length_zipWith,hM x hx.1,hx.2,Nat.min_self]) h
  unfold updM
  rw[List.foldl_cons]
  exact updM_shp h1 h2 hQ hM L _ (fun y hy=>hL y (by simp[hy])) this
theorem givenL_mem{hs:List Sl}{k x:Nat}:x∈aKZ hs k↔x<k∧∃h,hs[x]? =some h∧h.len≠0:=by
 unfold aKZ
 rw[List.mem_filter,List.mem_range,decide_eq_true_iff]
def UpK(q:Ky):Prop:=q=.rk 0∨q=.rk 1
theorem updSpan_ok{W0 w:World}{T:Ths}{j:Nat}{a:CodA}{f:Int}{k m b n fr to:Nat}{Q M Fm:Mtx}{es:List Tr.Ent}{clock:Int}{ks kf:Ky}{s sf:Sl}{hs hf:List Sl}(hS:Sep W0 w T)(hC:Cod T j a f k m b Q es clock)(hk:T ks=ShT s hs M)(hkb:∀i,ks≠.bx i)
  (hkf:T kf=ShT sf hf Fm) (hne:ks≠kf) (hks:¬UpK ks) (hkf':¬UpK kf)
  (hM:Shp M (k+m) n) (hFl:Fm.length=k) (hFn:∀x∈Fm,x.length=0∨x.length=n) (hn1:1≤n) (hn2:n≤140737488355328) (h1:fr≤to) (h2:to≤n):
  Cl Tryz.prog 29 #[.pointer (at0 a.cp),.slice s.base s.len s.cap,.slice sf.base sf.len sf.cap,.agg #[.int .i64 (fr:Int),.int .i64 (to:Int)]] (.one (.at (.int .i64)))
   (fun x w'=>x=0∧∃T',Sep W0 w' T'∧T' ks=ShT s hs (M.take k++updM fr to Q M Fm (aKZ hf k) (M.drop k))∧∀q,q≠ks→¬UpK q→T' q=T q) w:=by
 refine mC_UpdateSpan.run _ (at0 a.cp) s sf ((fr:Int),(to:Int),()) w ?_
 generalize hRR:(fun(e:Ending) (w':World)=>∃x:Int,e=.returned ((Sh.one (.at (.int .i64))).enc x)∧x=0∧∃T',Sep W0 w' T'∧T' ks=ShT s hs (M.take k++updM fr to Q M Fm (aKZ hf k) (M.drop k))∧∀q,q≠ks→¬UpK q→T' q=T q)=R
 unfold mC_UpdateSpan.M
 obtain⟨hQs,_⟩:=hC.shp
 have hB:=hC.cel hS
 have hMR:=bdZ hS hk
 have hFR:=bdZ hS hkf
 have hhl:hs.length=k+m:=by rw[hMR.len,hM.1]
 have hfl:hf.length=k:=by rw[hFR.len,hFl]
 have hflen:∀(i:Nat) (h:Sl) (r:List F8),hf[i]? =some h→Fm[i]? =some r→h.len=r.length:=fun i h r e1 e2=>(hFR.row i h r e1 e2).1
 have hkm:=hC.hkm
 have hk1:=hC.hk1
 have hm1:=hC.hm1
 refine bcZ fun w1 hBs hx1=>?_
 refine Pu_codnil (aAZ ?_)
 have hd:=Ex.drew w1
 have hx:=hx1.trans hd
 have hBs1:Has w1.drew w.heap.size [.int .i64 (fr:Int),.int .i64 (to:Int)] 41:=hBs.ex hd
 have hab:w.heap.size<w1.drew.heap.size:=hBs.lt
 have habF:∀{q:Ky} {F:Nat→Prop},(∀b,F b→W0.heap.size≤b∧b<w.heap.size)→¬F w.heap.size:=fun h hb=>absurd (h _ hb).2 (by omega)
 have hW0:=hS.mo.size
 refine asZ (fun w'=>Has w' a.cp (codV a f k m) 78) (hB.ex hx) ?_
 refine agZ (akZ (c:=.int .i64) (x:=f) (fun w' h=>h) (by kernel_rfl) rfl ?_)
 refine agZ (akZ (c:=.int .i64) (x:=(k:Int)) (B:=a.cp) (i:=1) (fun w' h=>h) (by kernel_rfl) rfl ?_)
 refine agZ (akZ (c:=.int .i64) (x:=(m:Int)) (B:=a.cp) (i:=2) (fun w' h=>h) (by kernel_rfl) rfl ?_)
 refine aeZ (fresh_shape_ok (hMR.hdr.ex hx) hhl (hMR.lenS hM.2) (hFR.hdr.ex hx) hfl (fun h hh=>?_) hn1 hn2 hC.hf hk1 hm1 hkm) ?_
 ·obtain⟨i,hi⟩:=List.mem_iff_getElem?.1 hh
  have hil:=(List.getElem?_eq_some_iff.1 hi).1
  obtain⟨r,hr⟩:=atx (l:=Fm) (i:=i) (by omega)
  rw[hflen i h r hi hr]
  exact hFn r (List.mem_of_getElem? hr)
 rintro _ w2 ⟨sg,rfl,hsg,hx2⟩
 have hx12:=hx.trans hx2
 refine⟨hB.ex hx12,?_⟩
 unfold mC_UpdateSpan.j1
 have hBs2:=hBs1.ex hx2
 refine Cd_t ?_
 refine bxZ (x:=((fr:Int),(to:Int),())) hBs2 (by kernel_rfl) rfl ?_
 refine auZ (d:=.one (.at (.int .i64))) (x:=0) (by have:=mwithin_gv (w:=w2) (n:=n) h1;rw[if_pos h2]at this;exact this) fun w3 hx3=>?_
 unfold mC_UpdateSpan.j2
 refine aAZ (agZ ?_)
 have hx13:=hx12.trans hx3
 refine ajZ (c:=.int .i64) (x:=(m:Int)) (B:=a.cp) (i:=2) (hB.ex hx13) (by kernel_rfl) rfl ?_
 refine Wr_mkwin (n:=m) (by omega) rfl rfl fun col w4 ccs hcl hWc hccs hccap hcb hx4=>?_
 have hx14:=hx13.trans hx4
 have hS4:=win_new (.rk 0) (hS.exx hx13) hx4 hWc (Nat.le_refl _)
 have hBs4:=(hBs2.ex hx3).ex hx4
 have hsg4:Own aOZ 3 w1.drew.heap.size w4 sg (aKZ hf k):=(hsg.ex hx3).ex hx4
 have hab3:w.heap.size<w3.heap.size:=(hBs2.ex hx3).lt
 have hsgl:∀x,SlIn sg x→x<w3.heap.size:=fun x hx=>((hsg.ex hx3).base x hx).2
 generalize hcg:w3.heap.size=cg at hWc hcb hS4 hab3 hsgl
 have hgl:=givenL_len hf k
 have hks0:ks≠.rk 0:=fun e=>hks (.inl e)
 have hks1:ks≠.rk 1:=fun e=>hks (.inr e)
 have hkf0:kf≠.rk 0:=fun e=>hkf' (.inl e)
 have hkf1:kf≠.rk 1:=fun e=>hkf' (.inr e)
 have ks1:∀i,(Ky.bx i)≠ks:=fun i e=>hkb i e.symm
 have hAl:(M.take k).length=k:=by rw[List.length_take,hM.1];omega
 have hDl:(M.drop k).length=m:=by rw[List.length_drop,hM.1];omega
 have hsgen:=hsg4.1
 let Z:World→Prop:=fun w'=>Has w' w.heap.size [.int .i64 (fr:Int),.int .i64 (to:Int)] 41∧Rds aOZ w' sg (aKZ hf k)
 have hZ4:Z w4:=⟨hBs4,hsg4.rds⟩
 have hZm:∀{X:Nat→Prop} {w5 w6:World},Z w5→Mo X w5 w6→¬X w.heap.size→(∀x,SlIn sg x→¬X x)→Z w6:=fun h m e1 e2=>⟨h.1.mo m e1,h.2.mo m (fun x hx=>e2 _ (aYZ hx))⟩
 have hZx:∀{w5 w6:World},Z w5→Ex w5 w6→Z w6:=fun h m=>hZm h m id (fun _ _=>id)
 have rowZ:∀(i:Nat) (h:Sl),hs[i]? =some h→∀x,SlIn h x→x<w.heap.size:=by
  intro i h hh x hx
  obtain⟨F,ht,hF,_⟩:=hS.get ks hk
  exact(hF _ (ht.apt i h hh x hx).2).2
 have sgZ:∀x,SlIn sg x→w.heap.size<x:=fun x hx=>by have:=(hsg.base x hx).1;omega
 have hgiv:∀x∈aKZ hf k,x<k∧(Fm.getD x []).length=n:=by
  intro x hx
  obtain⟨h1,h,hh,h0⟩:=givenL_mem.1 hx
  refine⟨h1,?_⟩
  obtain⟨r,hr⟩:=atx (l:=Fm) (i:=x) (by omega)
  rw[hflen x h r hh hr]at h0
  rw[List.getD_eq_getElem?_getD,hr]
  exact(hFn r (List.mem_of_getElem? hr)).resolve_left h0
 have hMrow:∀i,i<k→(M.getD i []).length=n:=fun i hi=>hM.row (by omega)
 unfold mC_UpdateSpan.l1
 refine acZ (fun st w'=>∃(i:Nat) (cl:List F8) (T':Ths),st=(at0 a.cp,s,sf,⟨w.heap.size,0,none⟩,col,sg,((sg.len:Nat):Int),(i:Int),())∧i≤(aKZ hf k).length∧Sep W0 w' T'∧T' ks=ShT s hs (M.take k++updM fr to Q M Fm ((aKZ hf k).take i) (M.drop k))∧
   T' (.rk 0)=WinT col cg 0 ccs cl∧cl.length=m∧(∀q,q≠ks→¬UpK q→T' q=T q)∧Z w') (fun st _=>(((sg.len:Nat):Int)-st.2.2.2.2.2.2.2.1).toNat) ?_
  ⟨0,_,_,rfl,Nat.zero_le _,hS4,by rw[Ths.up_ne _ _ hks0,hk,List.take_zero];show _=ShT s hs (M.take k++M.drop k);rw[List.take_append_drop],Ths.up_same _ _ _,by simp,fun q hq1 hq2=>Ths.up_ne _ _ (fun e=>hq2 (.inl e)),hZ4⟩
 rintro k1 _ w5 ⟨i,cl,T5,rfl,hi,hS5,hk5,hc5,hcl5,hT5,hZ5⟩ hk1'
 unfold mC_UpdateSpan.b1
 dsimp only at hk1' ⊢
 refine abZ (fun hlt=>?_) (fun hge=>?_)
 ·obtain⟨x,hx⟩:=atx (l:=aKZ hf k) (i:=i) (by omega)
  have hxm:=List.mem_of_getElem? hx
  obtain⟨hxk,hxn⟩:=hgiv x hxm
  refine rd_nat hZ5.2 hx ?_
  have hkf5:T5 kf=ShT sf hf Fm:=(hT5 kf hne.symm hkf').trans hkf
  have hM5:=bdZ hS5 hk5
  have hF5:=bdZ hS5 hkf5
  obtain⟨h,hh⟩:=atx (l:=hs) (i:=x) (by omega)
  obtain⟨r,hr⟩:=atx (l:=M) (i:=x) (by rw[hM.1];omega)
  obtain⟨fh,hfh⟩:=atx (l:=hf) (i:=x) (by omega)
  obtain⟨fr',hfr⟩:=atx (l:=Fm) (i:=x) (by omega)
  have hrM:M.getD x []=r:=by rw[List.getD_eq_getElem?_getD,hr];rfl
  have hrF:Fm.getD x []=fr':=by rw[List.getD_eq_getElem?_getD,hfr];rfl
  have hrn:r.length=n:=hM.2 r (List.mem_of_getElem? hr)
  rw[hrF]at hxn
  have hrA:(M.take k++updM fr to Q M Fm ((aKZ hf k).take i) (M.drop k))[x]? =some r:=by
   rw[List.getElem?_append_left (by omega),List.getElem?_take,if_pos hxk];exact hr
  refine atZ hM5.hdr hh ?_
  refine Wr_cpwin (hM5.row x h r hh hrA) (by omega) (by omega) fun d w6 dg dcs hWd hdg hx6=>?_
  have hS6:=win_new (.rk 1) hS5 hx6 hWd hdg
  refine atZ (hF5.hdr.ex hx6) hfh ?_
  have hdapt:∀y,SlIn fh y→y≠dg:=by
   intro y hy e
   obtain⟨F,ht,hF,_⟩:=hS5.get kf hkf5
   have:=(hF _ (ht.apt x fh hfh y hy).2).2
   omega
  refine aeZ (xor_ok hWd ((hF5.row x fh fr' hfh hfr).ex hx6) (by omega) hdapt (by omega)) ?_
  rintro _ w7 ⟨rfl,hWd7,hm7⟩
  refine aAZ ?_
  have hS7:=win_put hS6 (Ths.up_same _ _ _) hWd7 hm7
  rw[Ths.up_up]at hS7
  generalize hdf:List.zipWith (· ^^^ ·) r fr'=df at hWd7 hS7
  have hdfl:df.length=n:=by rw[←hdf,List.length_zipWith,hrn,hxn,Nat.min_self]
  have hdgw:w.heap.size≠dg:=by have:=hZ5.1.lt;omega
  have hZ7:Z w7:=hZm (hZx hZ5 hx6) hm7 hdgw (fun y hy e=>by
   have h1:=hsgl y hy
   have h2:=(win_get hS5 hc5).has.lt
   omega)
  obtain⟨T7,hT7e⟩:∃T7,T7=T5.up (.rk 1) (WinT d dg 0 dcs df):=⟨_,rfl⟩
  rw[←hT7e]at hS7
  have hk7:T7 ks=ShT s hs (M.take k++updM fr to Q M Fm ((aKZ hf k).take i) (M.drop k)):=by rw[hT7e,Ths.up_ne _ _ hks1];exact hk5
  have hc7:T7 (.rk 0)=WinT col cg 0 ccs cl:=by rw[hT7e,Ths.up_ne _ _ (by simp)];exact hc5
  have hd7:T7 (.rk 1)=WinT d dg 0 dcs df:=by rw[hT7e];exact Ths.up_same _ _ _
  have hT7:∀q,q≠ks→¬UpK q→T7 q=T q:=fun q e1 e2=>by rw[hT7e,Ths.up_ne _ _ (fun e=>e2 (.inr e))];exact hT5 q e1 e2
  have hCT:∀{T':Ths},(∀q,q≠ks→¬UpK q→T' q=T q)→Cod T' j a f k m b Q es clock:=fun h=>hC.next (fun i=>h _ (ks1 i) (by unfold UpK;simp))
  have hcolx:(colF' Q x).length=m:=by unfold colF';rw[List.length_map];exact hQs.1
  unfold mC_UpdateSpan.l2
  refine acZ (fun st w'=>∃(t:Nat) (T':Ths),st=(at0 a.cp,s,sf,⟨w.heap.size,0,none⟩,col,(x:Int),d,sg,((sg.len:Nat):Int),(i:Int),((col.len:Nat):Int),(t:Int),())∧t≤m∧Sep W0 w' T'∧T' ks=ShT s hs (M.take k++updM fr to Q M Fm ((aKZ hf k).take i) (M.drop k))∧
    T' (.rk 0)=WinT col cg 0 ccs ((colF' Q x).take t++cl.drop t)∧T' (.rk 1)=WinT d dg 0 dcs df∧(∀q,q≠ks→¬UpK q→T' q=T q)∧Z w') (fun st _=>(((col.len:Nat):Int)-st.2.2.2.2.2.2.2.2.2.2.2.1).toNat) ?_
   ⟨0,T7,rfl,Nat.zero_le _,hS7,hk7,by rw[hc7];simp,hd7,hT7,hZ7⟩
  rintro k2 _ w8 ⟨t,T8,rfl,ht,hS8,hk8,hc8,hd8,hT8,hZ8⟩ hk2
  unfold mC_UpdateSpan.b2
  dsimp only at hk2 ⊢
  have hC8:=hCT hT8
  have hB8:=hC8.cel hS8
  refine abZ (fun hlt2=>?_) (fun hge2=>?_)
  ·have htm:t<m:=by omega
   have hP8:=hC8.par hS8
   obtain⟨qh,hqh⟩:=atx (l:=a.phs) (i:=t) (by rw[hP8.len,hQs.1];exact htm)
   obtain⟨qr,hqr⟩:=atx (l:=Q) (i:=t) (by rw[hQs.1];exact htm)
   have hqn:=hQs.2 qr (List.mem_of_getElem? hqr)
   obtain⟨y,hy⟩:=atx (l:=qr) (i:=x) (by omega)
   refine agZ (ajZ (c:=.sl) (x:=a.ps) (B:=a.cp) (i:=4) hB8 (by kernel_rfl) rfl ?_)
   refine atZ hP8.hdr hqh ?_
   refine byZ (hP8.row t qh qr hqh hqr) hy ?_
   have hW8:=win_get hS8 hc8
   have hcur:((colF' Q x).take t++cl.drop t).length=m:=by rw[List.length_append,List.length_take,List.length_drop];omega
   refine Wu_win hW8 (by omega) rfl fun w9 hW9 hm9=>?_
   have hcx:(colF' Q x)[t]? =some y:=by
    unfold colF'
    rw[List.getElem?_map,hqr]
    show some (qr.getD x 0#8)=_
    rw[List.getD_eq_getElem?_getD,hy];rfl
   rw[step_set (by omega) hcx]at hW9
   have hS9:=win_put hS8 hc8 hW9 hm9
   have hcg':w.heap.size≠cg:=by omega
   rw[adZ (by omega) (by omega),show(t:Int)+1=((t+1:Nat):Int) by omega]
   refine hk2 _ _ ⟨t+1,_,rfl,by omega,hS9,?_,Ths.up_same _ _ _,?_,fun q e1 e2=>?_,hZm hZ8 hm9 hcg' (fun z hz e=>by have:=hsgl z hz;omega)⟩ (by dsimp only;omega)
   ·rw[Ths.up_ne _ _ hks0];exact hk8
   ·rw[Ths.up_ne _ _ (by simp)];exact hd8
   ·rw[Ths.up_ne _ _ (fun e=>e2 (.inl e))];exact hT8 q e1 e2
  ·have htm:t=m:=by omega
   subst htm
   rw[List.take_of_length_le (by omega),List.drop_of_length_le (by omega),List.append_nil]at hc8
   have hd9:=Ex.drew w8
   have hS9:=hS8.exx hd9
   have hZ9:=hZx hZ8 hd9
   refine asZ (fun w'=>Has w' a.cp (codV a f k t) 78∧Z w') ⟨hB8.ex hd9,hZ9⟩ ?_
   refine agZ (akZ (c:=.ptr) (x:=at0 a.sp) (B:=a.cp) (i:=3) (fun w' h=>h.1) (by kernel_rfl) rfl ?_)
   refine agZ (akZ (c:=.int .i64) (x:=(k:Int)) (B:=a.cp) (i:=1) (fun w' h=>h.1) (by kernel_rfl) rfl ?_)
   have hsl:=hMR.hdr.1
   have hsc:=hMR.hdr.2.1
   refine bKZ k s.len tBB sS (.inr ⟨_,rfl⟩) (.inl ⟨rfl,rfl⟩) (by omega) (by omega) ?_
   refine RdS_hasN (x:=((fr:Int),(to:Int),())) (fun w' h=>h.2.1) (by kernel_rfl) rfl ?_
   have hDi:=updM_shp (fr:=fr) (to:=to) (n:=n) h1 h2 hQs.1 hMrow ((aKZ hf k).take i) (M.drop k) (fun y hy=>hgiv y (List.mem_of_mem_take hy)) ⟨hDl,fun y hy=>hM.2 y (List.mem_of_mem_drop hy)⟩
   generalize hDe:updM fr to Q M Fm ((aKZ hf k).take i) (M.drop k)=Di at hk8 hDi
   let St:World→Mtx→Prop:=fun w' D=>StE W0 T8 ks s hs (M.take k) k t w' D∧Z w'
   have hrd:∀w' D,StE W0 T8 ks s hs (M.take k) k t w' D→SetH w' a.sp b a.kb∧Rds f8v w' col (colF' Q x)∧Rds f8v w' d df∧Rds slV w' (beZ s k s.len) (hs.drop k):=by
    rintro w' D ⟨g1,g2,g3⟩
    have hC':=hC8.next (T':=T8.up ks (ShT s hs (M.take k++D))) (fun i=>Ths.up_ne _ _ (ks1 i))
    have hM':=bdZ g1 (Ths.up_same _ _ _)
    exact⟨hC'.set g1,(win_get (q:=.rk 0) g1 (by rw[Ths.up_ne _ _ hks0.symm];exact hc8)).rds,(win_get (q:=.rk 1) g1 (by rw[Ths.up_ne _ _ hks1.symm];exact hd8)).rds,(matR_drop hM' g2).hdr⟩
   have hds:=ds_sh (Q:=fun w'=>SetH w' a.sp b a.kb∧Rds f8v w' col (colF' Q x)∧Rds f8v w' d df∧Rds slV w' (beZ s k s.len) (hs.drop k)) hrd
   have hrowN:∀(i':Nat) (g:Sl),(hs.drop k)[i']? =some g→∀y,SlIn g y→y<w.heap.size:=fun i' g hg y hy=>by
    rw[List.getElem?_drop]at hg
    exact rowZ _ g hg y hy
   have hdsS:DsSt St (hs.drop k) (fun w'=>SetH w' a.sp b a.kb∧Rds f8v w' col (colF' Q x)∧Rds f8v w' d df∧Rds slV w' (beZ s k s.len) (hs.drop k)):=
    {read:=fun h=>hds.read h.1,len:=fun h=>hds.len h.1,own:=fun h=>hds.own h.1,ex:=fun h x=>⟨hds.ex h.1 x,hZx h.2 x⟩,
     put:=fun h e ho mo=>⟨hds.put h.1 e ho mo,hZm h.2 mo (fun hb=>by have:=hrowN _ _ e _ hb;omega) (fun y hy hb=>by have:=hrowN _ _ e _ hb;have:=sgZ y hy;omega)⟩ }
   have h0:St w8.drew Di:=⟨⟨by rw[←hk8,Ths.up_id];exact hS9,hAl,hDi.1⟩,hZ9⟩
   obtain⟨G1,g1,g1'⟩:=sep_nd k hS8 hk8 (q:=.bx (4*j+1)) (ks1 _)
   obtain⟨G2,g2,g2'⟩:=sep_nd k hS8 hk8 (q:=.rk 1) hks1.symm
   rw[hC8.c1]at g1
   rw[hd8]at g2
   refine aeZ (spread_ok hdsS h0 (g1' _ g1.2.1) (g1' _ g1.2.2) (fun y hy=>?_) (by rw[hcolx,hDi.1]) hdfl hDi.2 (by rw[hDi.1];omega) hn1 hn2 h1 h2) ?_
   ·have:y=dg:=slin_one (g:=dg) (by have:=g2.1.base (by omega);exact this) hy
    rw[this]
    exact g2' _ g2.2
   rintro _ w10 ⟨rfl,hS10,hZ10⟩
   obtain⟨hS10,hA10,hD10⟩:=hS10
   have hC10:=hC8.next (T':=T8.up ks (ShT s hs (M.take k++bMZ fr to (colF' Q x) df Di))) (fun i=>Ths.up_ne _ _ (ks1 i))
   refine⟨⟨hC10.cel hS10,hZ10⟩,aAZ ?_⟩
   rw[adZ (by omega) (by omega),show(i:Int)+1=((i+1:Nat):Int) by omega]
   refine hk1' _ _ ⟨i+1,colF' Q x,_,rfl,by omega,hS10,?_,?_,hcolx,fun q e1 e2=>?_,hZ10⟩ (by dsimp only;omega)
   ·rw[Ths.up_same,List.take_add_one,hx]
    show _=ShT s hs (M.take k++updM fr to Q M Fm ((aKZ hf k).take i++[x]) (M.drop k))
    rw[updM_snoc,hDe,hrM,hrF,hdf]
   ·rw[Ths.up_ne _ _ hks0.symm];exact hc8
   ·rw[Ths.up_ne _ _ e1];exact hT8 q e1 e2
 ·have hil:i=(aKZ hf k).length:=by omega
  subst hil
  rw[List.take_length]at hk5
  subst hRR
  exact⟨0,rfl,rfl,T5,hS5,hk5,hT5⟩
theorem update_ok{W0 w:World}{T:Ths}{j:Nat}{a:CodA}{f:Int}{k m b n:Nat}{Q M Fm:Mtx}{es:List Tr.Ent}{clock:Int}{ks kf:Ky}{s sf:Sl}{hs hf:List Sl}(hS:Sep W0 w T)(hC:Cod T j a f k m b Q es clock)(hk:T ks=ShT s hs M)(hkb:∀i,ks≠.bx i)
  (hkf:T kf=ShT sf hf Fm) (hne:ks≠kf) (hks:¬UpK ks) (hkf':¬UpK kf)
  (hM:Shp M (k+m) n) (hFl:Fm.length=k) (hFn:∀x∈Fm,x.length=0∨x.length=n) (hn1:1≤n) (hn2:n≤140737488355328):
  Cl Tryz.prog 19 #[.pointer (at0 a.cp),.slice s.base s.len s.cap,.slice sf.base sf.len sf.cap] (.one (.at (.int .i64)))
   (fun x w'=>x=0∧∃T',Sep W0 w' T'∧T' ks=ShT s hs (M.take k++updM 0 n Q M Fm (aKZ hf k) (M.drop k))∧∀q,q≠ks→¬UpK q→T' q=T q) w:=by
 refine mC_Update.run _ (at0 a.cp) s sf w ?_
 unfold mC_Update.M
 have hB:=hC.cel hS
 have hMR:=bdZ hS hk
 have hFR:=bdZ hS hkf
 refine Pu_codnil (aAZ ?_)
 have hd:=Ex.drew w
 refine asZ (fun w'=>Has w' a.cp (codV a f k m) 78) (hB.ex hd) ?_
 refine agZ (akZ (c:=.int .i64) (x:=f) (fun w' h=>h) (by kernel_rfl) rfl ?_)
 refine agZ (akZ (c:=.int .i64) (x:=(k:Int)) (B:=a.cp) (i:=1) (fun w' h=>h) (by kernel_rfl) rfl ?_)
 refine agZ (akZ (c:=.int .i64) (x:=(m:Int)) (B:=a.cp) (i:=2) (fun w' h=>h) (by kernel_rfl) rfl ?_)
 refine aeZ (fresh_shape_ok (hMR.hdr.ex hd) (by rw[hMR.len,hM.1]) (hMR.lenS hM.2) (hFR.hdr.ex hd) (by rw[hFR.len,hFl]) (fun h hh=>?_) hn1 hn2 hC.hf hC.hk1 hC.hm1 hC.hkm) ?_
 ·obtain⟨i,hi⟩:=List.mem_iff_getElem?.1 hh
  have hil:=(List.getElem?_eq_some_iff.1 hi).1
  obtain⟨r,hr⟩:=atx (l:=Fm) (i:=i) (by rw[←hFR.len];omega)
  rw[(hFR.row i h r hi hr).1]
  exact hFn r (List.mem_of_getElem? hr)
 rintro _ w2 ⟨sg,rfl,hsg,hx2⟩
 have hx:=hd.trans hx2
 refine⟨hB.ex hx,aAZ ?_⟩
 refine aeZ (updSpan_ok (fr:=0) (hS.exx hx) hC hk hkb hkf hne hks hkf' hM hFl hFn hn1 hn2 (Nat.zero_le _) (Nat.le_refl _)) ?_
 rintro _ w3 ⟨rfl,h3⟩
 exact⟨0,rfl,rfl,h3⟩
end Go.Proofs.YtbiilejgfihohaaGreat
namespace Go.Proofs
open Go.Shelf
def Tryz.lays189_ren:Go.Shelf.Ren:=⟨fun | 189=>118 | 125=>120 | 257=>135 | 128=>144 | 129=>145 | 294=>149 | 295=>150 | 296=>151 | 297=>152 | 298=>153 | 299=>154 | 216=>155 | 300=>156 | 301=>157 | 328=>163 | 329=>159 | 330=>160 | 331=>164 | 332=>165 | 215=>166 | 343=>168 | n=>n,fun | 28=>25 | 3=>3 | 46=>200 | 0=>0 | 51=>225 | 53=>227 | 4=>4 | 183=>218 | 182=>217 | 131=>222 | 5=>5 | 9=>9 | 218=>234 | 222=>238 | 228=>243 | 229=>205 | n=>n,fun | n=>n⟩
theorem Tryz.lays189:Go.Proofs.Lays.n189 Tryz.prog Tryz.lays189_ren:={
 mixed:=by kernel_rfl
 f125:=Tryz.func120.trans (congrArg some (by kernel_rfl))
 f128:=Tryz.func144.trans (congrArg some (by kernel_rfl))
 f129:=Tryz.func145.trans (congrArg some (by kernel_rfl))
 f189:=Tryz.func118.trans (congrArg some (by kernel_rfl))
 f215:=Tryz.func166.trans (congrArg some (by kernel_rfl))
 f216:=Tryz.func155.trans (congrArg some (by kernel_rfl))
 f257:=Tryz.func135.trans (congrArg some (by kernel_rfl))
 f294:=Tryz.func149.trans (congrArg some (by kernel_rfl))
 f295:=Tryz.func150.trans (congrArg some (by kernel_rfl))
 f296:=Tryz.func151.trans (congrArg some (by kernel_rfl))
 f297:=Tryz.func152.trans (congrArg some (by kernel_rfl))
 f298:=Tryz.func153.trans (congrArg some (by kernel_rfl))
 f299:=Tryz.func154.trans (congrArg some (by kernel_rfl))
 f300:=Tryz.func156.trans (congrArg some (by kernel_rfl))
 f301:=Tryz.func157.trans (congrArg some (by kernel_rfl))
 f328:=Tryz.func163.trans (congrArg some (by kernel_rfl))
 f329:=Tryz.func159.trans (congrArg some (by kernel_rfl))
 f330:=Tryz.func160.trans (congrArg some (by kernel_rfl))
 f331:=Tryz.func164.trans (congrArg some (by kernel_rfl))
 f332:=Tryz.func165.trans (congrArg some (by kernel_rfl))
 f343:=Tryz.func168.trans (congrArg some (by kernel_rfl))
 t0:=Tryz.underlying0
 a0:=Tryz.isAgg0
 z0:=Tryz.sizeOf0
 v0:=Tryz.zeroValue0
 t3:=Tryz.underlying3
 a3:=Tryz.isAgg3
 z3:=Tryz.sizeOf3
 v3:=Tryz.zeroValue3
 t4:=Tryz.underlying4
 a4:=Tryz.isAgg4
 z4:=Tryz.sizeOf4
 v4:=Tryz.zeroValue4
 t5:=Tryz.underlying5
 a5:=Tryz.isAgg5
 z5:=Tryz.sizeOf5
 v5:=Tryz.zeroValue5
 t9:=Tryz.underlying9
 a9:=Tryz.isAgg9
 z9:=Tryz.sizeOf9
 v9:=Tryz.zeroValue9
 t28:=Tryz.underlying25
 a28:=Tryz.isAgg25
 z28:=Tryz.sizeOf25
 v28:=Tryz.zeroValue25
 t46:=Tryz.underlying200
 a46:=Tryz.isAgg200
 z46:=Tryz.sizeOf200
 v46:=Tryz.zeroValue200
 t51:=Tryz.underlying225
 a51:=Tryz.isAgg225
 z51:=Tryz.sizeOf225
 v51:=Tryz.zeroValue225
 t53:=Tryz.underlying227
 a53:=Tryz.isAgg227
 z53:=Tryz.sizeOf227
 v53:=Tryz.zeroValue227
 t131:=Tryz.underlying222
 a131:=Tryz.isAgg222
 z131:=Tryz.sizeOf222
 v131:=Tryz.zeroValue222
 t182:=Tryz.underlying217
 a182:=Tryz.isAgg217
 z182:=Tryz.sizeOf217
 v182:=Tryz.zeroValue217
 t183:=Tryz.underlying218
 a183:=Tryz.isAgg218
 z183:=Tryz.sizeOf218
 v183:=Tryz.zeroValue218
 t218:=Tryz.underlying234
 a218:=Tryz.isAgg234
 z218:=Tryz.sizeOf234
 v218:=Tryz.zeroValue234
 t222:=Tryz.underlying238
 a222:=Tryz.isAgg238
 z222:=Tryz.sizeOf238
 v222:=Tryz.zeroValue238
 t228:=Tryz.underlying243
 a228:=Tryz.isAgg243
 z228:=Tryz.sizeOf243
 v228:=Tryz.zeroValue243
 t229:=Tryz.underlying205
 a229:=Tryz.isAgg205
 z229:=Tryz.sizeOf205
 v229:=Tryz.zeroValue205 }
open Go.Sort Go.RowKit in
theorem Tryz.slices_Sort_int(blk off cap:Nat)(zs:List Int)(w:World)(hH:Holds (Value.int .i64) w blk off zs.toArray)(hblk:blk<w.heap.size)(hsz:zs.length<4611686018427387904):
  Calls Tryz.prog 118 #[.slice (some ⟨blk,off,none⟩) zs.length cap] w fun e w'=>
   e=.returned (.tuple #[])∧∃n os,w'=grow (putRow (Value.int .i64) (Sort.ahead w n) blk off (zs.mergeSort fun x y=>decide (x≤y)).toArray) os:=Any.slices_Sort_int Tryz.lays189 blk off cap zs w hH hblk hsz
open Go.RowKit Go.Sort in
theorem Tryz.slices_Sort_int_none(p:Option Addr)(cap:Nat)(w:World):
  Calls Tryz.prog 118 #[.slice p 0 cap] w fun e w'=>e=.returned (.tuple #[])∧w'=w:=Any.slices_Sort_int_none Tryz.lays189 p cap w
def Tryz.sortFound_ren:Go.Shelf.Ren:=⟨fun | 6=>96 | 15=>120 | 14=>119 | 28=>144 | 29=>145 | 20=>136 | 21=>137 | 22=>138 | 23=>139 | 24=>140 | 25=>141 | 26=>142 | 27=>143 | 46=>158 | 47=>159 | 48=>160 | 49=>161 | 50=>162 | 57=>167 | n=>n,fun | 22=>154 | 24=>158 | 25=>159 | 3=>3 | 39=>200 | 0=>0 | 53=>225 | 55=>227 | 4=>4 | 46=>218 | 45=>217 | 50=>222 | 5=>5 | 9=>9 | 66=>234 | 70=>238 | 76=>243 | 77=>205 | n=>n,fun | n=>n⟩
theorem Tryz.sortFound:Go.Proofs.SlLaysF0.n6 Tryz.prog Tryz.sortFound_ren:={
 mixed:=by kernel_rfl
 f6:=⟨Tryz.f96.name,by decide,Tryz.func96.trans (congrArg some (by kernel_rfl))⟩
 f14:=⟨Tryz.f119.name,by decide,Tryz.func119.trans (congrArg some (by kernel_rfl))⟩
 f15:=Tryz.func120.trans (congrArg some (by kernel_rfl))
 f20:=⟨Tryz.f136.name,by decide,Tryz.func136.trans (congrArg some (by kernel_rfl))⟩
 f21:=⟨Tryz.f137.name,by decide,Tryz.func137.trans (congrArg some (by kernel_rfl))⟩
 f22:=⟨Tryz.f138.name,by decide,Tryz.func138.trans (congrArg some (by kernel_rfl))⟩
 f23:=⟨Tryz.f139.name,by decide,Tryz.func139.trans (congrArg some (by kernel_rfl))⟩
 f24:=⟨Tryz.f140.name,by decide,Tryz.func140.trans (congrArg some (by kernel_rfl))⟩
 f25:=⟨Tryz.f141.name,by decide,Tryz.func141.trans (congrArg some (by kernel_rfl))⟩
 f26:=⟨Tryz.f142.name,by decide,Tryz.func142.trans (congrArg some (by kernel_rfl))⟩
 f27:=⟨Tryz.f143.name,by decide,Tryz.func143.trans (congrArg some (by kernel_rfl))⟩
 f28:=Tryz.func144.trans (congrArg some (by kernel_rfl))
 f29:=Tryz.func145.trans (congrArg some (by kernel_rfl))
 f46:=⟨Tryz.f158.name,by decide,Tryz.func158.trans (congrArg some (by kernel_rfl))⟩
 f47:=Tryz.func159.trans (congrArg some (by kernel_rfl))
 f48:=Tryz.func160.trans (congrArg some (by kernel_rfl))
 f49:=⟨Tryz.f161.name,by decide,Tryz.func161.trans (congrArg some (by kernel_rfl))⟩
 f50:=⟨Tryz.f162.name,by decide,Tryz.func162.trans (congrArg some (by kernel_rfl))⟩
 f57:=⟨Tryz.f167.name,by decide,Tryz.func167.trans (congrArg some (by kernel_rfl))⟩
 t0:=Tryz.underlying0
 a0:=Tryz.isAgg0
 z0:=Tryz.sizeOf0
 v0:=Tryz.zeroValue0
 t3:=Tryz.underlying3
 a3:=Tryz.isAgg3
 z3:=Tryz.sizeOf3
 v3:=Tryz.zeroValue3
 t4:=Tryz.underlying4
 a4:=Tryz.isAgg4
 z4:=Tryz.sizeOf4
 v4:=Tryz.zeroValue4
 t5:=Tryz.underlying5
 a5:=Tryz.isAgg5
 z5:=Tryz.sizeOf5
 v5:=Tryz.zeroValue5
 t9:=Tryz.underlying9
 a9:=Tryz.isAgg9
 z9:=Tryz.sizeOf9
 v9:=Tryz.zeroValue9
 t22:=Tryz.underlying154
 a22:=Tryz.isAgg154
 z22:=Tryz.sizeOf154
 v22:=Tryz.zeroValue154
 t25:=Tryz.underlying159
 a25:=Tryz.isAgg159
 z25:=Tryz.sizeOf159
 v25:=Tryz.zeroValue159
 t39:=Tryz.underlying200
 a39:=Tryz.isAgg200
 z39:=Tryz.sizeOf200
 v39:=Tryz.zeroValue200
 t45:=Tryz.underlying217
 a45:=Tryz.isAgg217
 z45:=Tryz.sizeOf217
 v45:=Tryz.zeroValue217
 t46:=Tryz.underlying218
 a46:=Tryz.isAgg218
 z46:=Tryz.sizeOf218
 v46:=Tryz.zeroValue218
 t50:=Tryz.underlying222
 a50:=Tryz.isAgg222
 z50:=Tryz.sizeOf222
 v50:=Tryz.zeroValue222
 t53:=Tryz.underlying225
 a53:=Tryz.isAgg225
 z53:=Tryz.sizeOf225
 v53:=Tryz.zeroValue225
 t55:=Tryz.underlying227
 a55:=Tryz.isAgg227
 z55:=Tryz.sizeOf227
 v55:=Tryz.zeroValue227
 t66:=Tryz.underlying234
 a66:=Tryz.isAgg234
 z66:=Tryz.sizeOf234
 v66:=Tryz.zeroValue234
 t70:=Tryz.underlying238
 a70:=Tryz.isAgg238
 z70:=Tryz.sizeOf238
 v70:=Tryz.zeroValue238
 t76:=Tryz.underlying243
 a76:=Tryz.isAgg243
 z76:=Tryz.sizeOf243
 v76:=Tryz.zeroValue243
 t77:=Tryz.underlying205
 a77:=Tryz.isAgg205
 z77:=Tryz.sizeOf205
 v77:=Tryz.zeroValue205 }
end Go.Proofs
namespace Go.Cu
open Go Go.RowKit
open Go.ChangeMaps (setBlock)
abbrev kvE(e:MapEntry):Value×Value:=(e.key,e.val)
abbrev kvP(p:Int×Value):Value×Value:=(.int .i64 p.1,p.2)
def IterIs(w:World)(r b:Nat)(l rem:List (Int×Value)):Prop:=
 ∃(es:Array MapEntry) (clock:Nat) (seen:Array Nat),w.heap[r]? =some (.mapIter (some b) clock seen clock)∧w.heap[b]? =some (.map es clock)∧es.toList.map kvE=l.map kvP∧(l.map (·.1)).Nodup∧(es.toList.map (·.born)).Nodup∧(∀e∈es.toList,e.born<clock)∧
  (leftOf es seen).toList.map kvE=rem.map kvP
def CurIs(w:World)(r b:Nat)(x:Int)(v:Value):Prop:=
 ∃(es:Array MapEntry) (clock:Nat) (seen:Array Nat) (e:MapEntry),w.heap[r]? =some (.mapIter (some b) clock (seen.push e.born) clock)∧w.heap[b]? =some (.map es clock)∧e∈es.toList∧e.key=.int .i64 x∧e.val=v∧(es.toList.map (·.born)).Nodup
theorem IterIs.lt{w:World}{r b:Nat}{l rem:List (Int×Value)}(h:IterIs w r b l rem):r<w.heap.size∧b<w.heap.size:=by
 obtain⟨es,clock,seen,h1,h2,_⟩:=h
 constructor
 ·rcases Nat.lt_or_ge r w.heap.size with h' | h'
  ·exact h'
  ·rw[Array.getElem?_eq_none h']at h1;cases h1
 ·rcases Nat.lt_or_ge b w.heap.size with h' | h'
  ·exact h'
  ·rw[Array.getElem?_eq_none h']at h2;cases h2
theorem IterIs.mo{X:Nat→Prop}{w w':World}{r b:Nat}{l rem:List (Int×Value)}(h:IterIs w r b l rem)(k:Mo X w w')(hr:¬X r)(hb:¬X b):IterIs w' r b l rem:=by
 have hlt:=h.lt
 obtain⟨es,clock,seen,h1,h2,h3⟩:=h
 exact⟨es,clock,seen,by rw[k.keep r hlt.1 hr];exact h1,by rw[k.keep b hlt.2 hb];exact h2,h3⟩
theorem IterIs.ex{w w':World}{r b:Nat}{l rem:List (Int×Value)}(h:IterIs w r b l rem)(k:Ex w w'):IterIs w' r b l rem:=h.mo k id id
def iterLeft(w:World)(r:Nat):Nat:=match w.heap[r]? with
 | some (.mapIter (some b) _ seen _)=>match w.heap[b]? with
  | some (.map es _)=>(leftOf es seen).size
  | _=>0
 | _=>0
theorem IterIs.left{w:World}{r b:Nat}{l rem:List (Int×Value)}(h:IterIs w r b l rem):iterLeft w r=rem.length:=by
 obtain⟨es,clock,seen,h1,h2,_,_,_,_,h3⟩:=h
 unfold iterLeft
 rw[h1]
 simp only
 rw[h2]
 have:=congrArg List.length h3
 simpa using this
theorem left_step:∀(L:List MapEntry) (rem:List (Int×Value)) (b0:Nat) (x:Int),L.map kvE=rem.map kvP→(∀e∈L,e.born=b0↔e.key=.int .i64 x)→(L.filter fun e=>decide (e.born≠b0)).map kvE=(rem.filter fun p=>decide (p.1≠x)).map kvP
 | [],[],_,_,_,_=>rfl
 | [],_::_,_,_,h,_=>by cases h
 | _::_,[],_,_,h,_=>by cases h
 | e::L,p::rem,b0,x,h,hb=>by
  simp only[List.map_cons,List.cons.injEq,Prod.mk.injEq]at h
  obtain⟨⟨h1,h2⟩,h3⟩:=h
  have ih:=left_step L rem b0 x h3 (fun e' he'=>hb e' (List.mem_cons_of_mem _ he'))
  have he:=hb e (List.mem_cons_self ..)
  have hx:e.born=b0↔p.1=x:=by
   rw[he,h1]
   constructor
   ·intro h';injection h'
   ·intro h';rw[h']
  by_cases hbe:e.born=b0
  ·rw[List.filter_cons_of_neg (by simp[hbe]),List.filter_cons_of_neg (by simp[hx.1 hbe])];exact ih
  ·rw[List.filter_cons_of_pos (by simp[hbe]),List.filter_cons_of_pos (by simpa using fun h'=>hbe (hx.2 h')),List.map_cons,List.map_cons,ih]
   show(e.key,e.val)::_=(Value.int .i64 p.1,p.2)::_
   rw[h1,h2]
section
variable {P:Program}
theorem Wr_range{t kt e:TypeId}{b:Nat}{l:List (Int×Value)}{K:Addr→World→Prop}{w:World}(ht:P.underlying t=some (.map kt e))(hm:MapIs w b l)
  (hK:∀w',IterIs w' w.heap.size b l l→Ex w w'→K ⟨w.heap.size,0,none⟩ w'):Wr P (Instr.range t (.map (some b))) (.one (.at .addr)) K w:=by
 have hlt:=hm.lt
 obtain⟨es,clock,h1,h2,h3,h4,h5⟩:=hm
 refine⟨_,_,run_range_map w t kt e b es clock ht h1,hK _ ⟨es,clock,#[],heap_alloc_new w _,?_,h2,h3,h4,h5,?_⟩ (Ex.alloc w _)⟩
 ·rw[heap_alloc_old w _ hlt];exact h1
 ·have:leftOf es #[]=es:=by unfold leftOf;simp
  rw[this];exact h2
theorem key_unique{es:List MapEntry}{l:List (Int×Value)}(h:es.map kvE=l.map kvP)(hn:(l.map (·.1)).Nodup)(hb:(es.map (·.born)).Nodup){e e':MapEntry}(he:e∈es)(he':e'∈es):e'.born=e.born↔e'.key=e.key:=by
 obtain⟨i,hi⟩:=List.getElem?_of_mem he
 obtain⟨j,hj⟩:=List.getElem?_of_mem he'
 have hil:i<es.length:=(List.getElem?_eq_some_iff.1 hi).1
 have hjl:j<es.length:=(List.getElem?_eq_some_iff.1 hj).1
 have hlen:es.length=l.length:=by have:=congrArg List.length h;simpa using this
 have key:∀k (x:MapEntry),es[k]? =some x→x.key=.int .i64 ((l.map (·.1)).getD k 0):=by
  intro k x hk
  have hkl:k<l.length:=by rw[←hlen];exact(List.getElem?_eq_some_iff.1 hk).1
  have:=congrArg (fun z=>z[k]?) h
  simp only[List.getElem?_map,hk,List.getElem?_eq_getElem hkl,Option.map_some,Option.some.injEq,Prod.mk.injEq]at this
  rw[this.1,List.getD_eq_getElem?_getD,List.getElem?_map,List.getElem?_eq_getElem hkl];rfl
 constructor
 ·intro hbe
  have h1:(es.map (·.born))[i]? =some e.born:=by rw[List.getElem?_map,hi];rfl
  have h2:(es.map (·.born))[j]? =some e.born:=by rw[List.getElem?_map,hj];simp[hbe]
  have:i=j:=(List.getElem?_inj (by simpa using hil) hb).1 (h1.trans h2.symm)
  subst this
  rw[hi]at hj;cases hj;rfl
 ·intro hke
  rw[key i e hi,key j e' hj]at hke
  injection hke with _ hke
  have hi2:i<(l.map (·.1)).length:=by simpa using (by omega:i<l.length)
  have hj2:j<(l.map (·.1)).length:=by simpa using (by omega:j<l.length)
  rw[List.getD_eq_getElem?_getD,List.getD_eq_getElem?_getD,List.getElem?_eq_getElem hi2,List.getElem?_eq_getElem hj2]at hke
  simp only[Option.getD_some]at hke
  have:j=i:=(List.getElem?_inj hj2 hn).1 (by rw[List.getElem?_eq_getElem hi2,List.getElem?_eq_getElem hj2,hke])
  subst this
  rw[hi]at hj;cases hj;rfl
theorem Wr_next{ty:TypeId}{r b:Nat}{l rem:List (Int×Value)}{K:Option (Int×Option Addr)→World→Prop}{w:World}(h:IterIs w r b l rem)(hrb:r≠b)(hp:∀p∈l,∃z,p.2=.pointer z)
  (h0:rem=[]→K none w) (h1:∀x z w',(x,Value.pointer z)∈rem→IterIs w' r b l (rem.filter fun p=>decide (p.1≠x))→CurIs w' r b x (.pointer z)→Mo (fun c=>c=r) w w'→K (some (x,z)) w'):
  Wr P (Instr.next (.pointer (some ⟨r,0,none⟩)) false ty) (.nxt (.int .i64) .ptr) K w:=by
 obtain⟨es,clock,seen,hr,hb,hkv,hn,hbn,hlt,hleft⟩:=h
 rcases run_next_at (P:=P) w ty r b clock clock seen es clock hr hb hlt (Nat.le_refl _) with ⟨hsz,hrun⟩ | ⟨e,he,w1,hw1,hrun⟩
 ·refine⟨none,w,hrun,h0 ?_⟩
  have:(leftOf es seen).toList=[]:=by simpa using Array.eq_empty_of_size_eq_zero hsz
  rw[this]at hleft
  cases rem with
  | nil=>rfl
  | cons a r=>cases hleft
 ·have hel:e∈es.toList:=by unfold leftOf at he;rw[Array.toList_filter]at he;exact(List.mem_filter.1 he).1
  have hin:kvE e∈rem.map kvP:=by rw[←hleft];exact List.mem_map.2 ⟨e,he,rfl⟩
  obtain⟨⟨x,v⟩,hxv,hxe⟩:=List.mem_map.1 hin
  simp only[kvP,kvE,Prod.mk.injEq]at hxe
  obtain⟨hx,hv⟩:=hxe
  have hinl:kvE e∈l.map kvP:=by rw[←hkv];exact List.mem_map.2 ⟨e,hel,rfl⟩
  obtain⟨⟨x',v'⟩,hxv',hxe'⟩:=List.mem_map.1 hinl
  simp only[kvP,kvE,Prod.mk.injEq]at hxe'
  obtain⟨z,hz⟩:=hp _ hxv'
  have hvz:v=.pointer z:=by rw[hv,←hxe'.2];exact hz
  subst hvz
  have hw1r:w1.heap[r]? =some (.mapIter (some b) clock seen clock):=by rcases hw1 with rfl | rfl <;> exact hr
  have hw1b:w1.heap[b]? =some (.map es clock):=by rcases hw1 with rfl | rfl <;> exact hb
  have hmo:Mo (fun c=>c=r) w (setBlock w1 r (.mapIter (some b) clock (seen.push e.born) clock)):=by
   rcases hw1 with rfl | rfl
   ·exact Mo.setBlock _ _ _
   ·exact(Ex.drew w).mo (Mo.setBlock _ _ _)
  have hr':(setBlock w1 r (.mapIter (some b) clock (seen.push e.born) clock)).heap[r]? =some (.mapIter (some b) clock (seen.push e.born) clock):=heap_set' hw1r
  have hb':(setBlock w1 r (.mapIter (some b) clock (seen.push e.born) clock)).heap[b]? =some (.map es clock):=by rw[setBlock_heap,if_neg (fun h=>hrb h.1.symm)];exact hw1b
  refine⟨some (x,z),_,?_,h1 x z _ hxv ⟨es,clock,seen.push e.born,hr',hb',hkv,hn,hbn,hlt,?_⟩ ⟨es,clock,seen,e,hr',hb',hel,hx.symm,hv.symm,hbn⟩ hmo⟩
  ·rw[hrun]
   show Result.ok (Value.tuple #[.bool true,e.key,e.val]) _=Result.ok (Value.tuple ⟨[.bool true,.int .i64 x,.pointer z]⟩) _
   rw[←hx,←hv]
  ·have:=left_step (leftOf es seen).toList rem e.born x hleft (fun e' he'=>by
    have he'l:e'∈es.toList:=by unfold leftOf at he';rw[Array.toList_filter]at he';exact(List.mem_filter.1 he').1
    rw[hx];exact key_unique hkv hn hbn hel he'l)
   rw[←this]
   congr 1
   unfold leftOf
   rw[Array.toList_filter,Array.toList_filter,List.filter_filter]
   apply List.filter_congr
   intro e' _
   simp[Bool.and_comm,eq_comm]
theorem Rd_entry{r b:Nat}{x:Int}{z:Option Addr}{K:(Int×Option Addr×Unit)→World→Prop}{w:World}(h:CurIs w r b x (.pointer z))(hK:K (x,z,()) w):Rd P (Instr.entry (.pointer (some ⟨r,0,none⟩))) (.tup [.at (.int .i64),.at .ptr]) K w:=by
 obtain⟨es,clock,seen,e,h1,h2,h3,h4,h5,h6⟩:=h
 refine⟨(x,z,()),?_,hK⟩
 rw[run_entry_at w r b clock seen es clock e h1 h2 h3 h6,h4,h5]
 rfl
end
end Go.Cu
namespace Go.Cu
open Go Go.RowKit
theorem put_cells{α:Type}[Inhabited α](enc:α→Value)(d:Array α)(cur:Array Value)(h:d.size≤cur.size):Sort.putCells enc 0 d cur=((d.toList.map enc)++cur.toList.drop d.size).toArray:=by
 apply Array.ext_getElem?
 intro k
 unfold Sort.putCells
 rw[Array.getElem?_mapIdx]
 simp only[List.getElem?_toArray]
 by_cases hk:k<d.size
 ·rw[List.getElem?_append_left (by simpa using hk),List.getElem?_map,Array.getElem?_toList,Array.getElem?_eq_getElem hk,Array.getElem?_eq_getElem (by omega)]
  simp only[Option.map_some]
  rw[if_pos ⟨Nat.zero_le _,by omega⟩,Nat.sub_zero,getElem!_pos d k hk]
 ·rw[List.getElem?_append_right (by simpa using Nat.le_of_not_lt hk),List.length_map,Array.length_toList,List.getElem?_drop,Array.getElem?_toList,show d.size+(k-d.size)=k by omega]
  cases cur[k]? with
  | none=>rfl
  | some v=>simp only[Option.map_some];rw[if_neg (by omega)]
theorem put_world{α:Type}[Inhabited α](enc:α→Value){w:World}{g:Nat}{e:TypeId}{cur:Array Value}(hg:w.heap[g]? =some (.cells cur e (0,0)))(d:Array α)(hd:d.size≤cur.size)(n:Nat)(os:Array Obj):
  (Sort.grow (Sort.putRow enc (Sort.ahead w n) g 0 d) os).heap[g]? =some (.cells ((d.toList.map enc)++cur.toList.drop d.size).toArray e (0,0))∧Mo (fun b=>b=g) w (Sort.grow (Sort.putRow enc (Sort.ahead w n) g 0 d) os):=by
 have hlt:g<w.heap.size:=by
  rcases Nat.lt_or_ge g w.heap.size with h' | h'
  ·exact h'
  ·rw[Array.getElem?_eq_none h']at hg;cases hg
 have hsz:(Sort.putRow enc (Sort.ahead w n) g 0 d).heap.size=w.heap.size:=by rw[Sort.size_putRow];rfl
 have hh:(Sort.putRow enc (Sort.ahead w n) g 0 d).heap=w.heap.modify g (Sort.onCells (Sort.putCells enc 0 d)):=rfl
 refine⟨?_,rfl,rfl,rfl,?_,fun b hb hbg=>?_⟩
 ·show((Sort.putRow enc (Sort.ahead w n) g 0 d).heap++os)[g]? =_
  rw[Array.getElem?_append_left (by rw[hsz];exact hlt),hh,Array.getElem?_modify,if_pos rfl,hg,Option.map_some]
  show some (Obj.cells (Sort.putCells enc 0 d cur) e (0,0))=_
  rw[put_cells enc d cur hd]
 ·show _≤((Sort.putRow enc (Sort.ahead w n) g 0 d).heap++os).size
  rw[Array.size_append,hsz];omega
 ·show((Sort.putRow enc (Sort.ahead w n) g 0 d).heap++os)[b]? =_
  rw[Array.getElem?_append_left (by rw[hsz];exact hb),hh,Array.getElem?_modify,if_neg (fun h=>hbg h.symm)]
theorem Own.holds{α:Type}[Inhabited α]{f:α→Value}{e:TypeId}{base:Nat}{w:World}{s:Sl}{l:List α}(h:Own f e base w s l){a:Addr}(ha:s.base=some a):∃g,a=⟨g,0,none⟩∧Sort.Holds f w g 0 l.toArray∧g<w.heap.size∧base≤g:=by
 have hb:=h.base _ ⟨a,ha,rfl⟩
 have hr:=h.rds
 obtain⟨h1,h2⟩:=h
 rcases h2.2 with ⟨e1,_⟩ | ⟨g,cap,cur,e1,_,hg,_⟩
 ·rw[ha]at e1;cases e1
 ·rw[ha]at e1
  injection e1 with e1
  injection e1 with e1
  refine⟨g,e1,fun j hj=>?_,by rw[e1]at hb;exact hb.2,by rw[e1]at hb;exact hb.1⟩
  have hj':j<l.length:=by simpa using hj
  obtain⟨a',ha',hc⟩:=hr.2.2 j _ (List.getElem?_eq_getElem hj')
  rw[ha]at ha';cases ha'
  rw[e1,add_lit]at hc
  refine⟨?_,?_⟩
  ·rw[Nat.zero_add,hc,getElem!_pos l.toArray j hj];simp
  ·simp[World.frozen?,hg]
theorem Own.put{α:Type}[Inhabited α]{f:α→Value}{e:TypeId}{base:Nat}{w:World}{s:Sl}{l l':List α}(h:Own f e base w s l){g:Nat}(ha:s.base=some ⟨g,0,none⟩)(hl:l'.length=l.length)(n:Nat)(os:Array Obj):
  Own f e base (Sort.grow (Sort.putRow f (Sort.ahead w n) g 0 l'.toArray) os) s l'∧Mo (SlIn s) w (Sort.grow (Sort.putRow f (Sort.ahead w n) g 0 l'.toArray) os):=by
 obtain⟨h1,h2,h3⟩:=h
 rcases h3 with ⟨e1,_⟩ | ⟨g',cap,cur,e1,hbg,hg,hc1,hc2,hc3,htake⟩
 ·rw[ha]at e1;cases e1
 ·rw[ha]at e1
  injection e1 with e1 e2 e3
  injection e1 with e1
  injection e1 with e1
  subst e1
  have hsz:l'.toArray.size≤cur.size:=by rw[hc3];simp;omega
  obtain⟨p1,p2⟩:=put_world f hg l'.toArray hsz n os
  refine⟨⟨by rw[h1,hl],by rw[List.length_map,hl,h1,Nat.mul_one],.inr ⟨g,cap,_,?_,hbg,p1,hc1,hc2,?_,?_⟩⟩,p2.weak (fun b _ hb=>⟨_,ha,hb.symm⟩)⟩
  ·rw[ha,e3]
  ·simp[hc3];omega
  ·simp only[Nat.mul_one]
   rw[h1,←hl]
   exact List.take_left' (by simp)
end Go.Cu
namespace Go.Proofs.YtbiilejgfihohaaGreat.Tr
open Go Go.Cu Go.RowKit
def lessP:Path→Path→Prop
 | [],[]=>False
 | [],_::_=>True
 | _::_,[]=>False
 | x::a,y::b=>x<y∨(x=y∧lessP a b)
theorem less_ext(p:Path)(a b:Path):lessP (p++a) (p++b)↔lessP a b:=by
 induction p with
 | nil=>rfl
 | cons x p ih=>simp[lessP,ih]
theorem less_prefix(p:Path)(x:Int)(t:Path):lessP p (p++x::t):=by
 have:=(less_ext p [] (x::t)).2 trivial
 rwa [List.append_nil]at this
abbrev fAts:List At:=[.sl,.int .i64]
abbrev Fd:Type:=Ats fAts
def FoundAt(base:Nat)(w:World)(s:Sl)(ks:List (Path×Int)):Prop:=
 ∃es:List Fd,OwnA fAts 158 base w s es∧es.length=ks.length∧∀(i:Nat) (e:Fd) (k:Path×Int),es[i]? =some e→ks[i]? =some k→e.2.1=k.2∧Own i64v 3 base w e.1 k.1∧∀b,SlIn e.1 b→¬SlIn s b
theorem FoundAt.mo{base:Nat}{X:Nat→Prop}{w w':World}{s:Sl}{ks:List (Path×Int)}(h:FoundAt base w s ks)(k:Mo X w w')(hx:∀b,base≤b→b<w.heap.size→¬X b):FoundAt base w' s ks:=by
 obtain⟨es,h1,h2,h3⟩:=h
 refine⟨es,h1.mo k (fun b hb=>hx b (h1.base b hb).1 (h1.base b hb).2),h2,fun i e q he hq=>?_⟩
 obtain⟨g1,g2,g3⟩:=h3 i e q he hq
 exact⟨g1,g2.mo k (fun b hb=>hx b (g2.base b hb).1 (g2.base b hb).2),g3⟩
theorem FoundAt.ex{base:Nat}{w w':World}{s:Sl}{ks:List (Path×Int)}(h:FoundAt base w s ks)(k:Ex w w'):FoundAt base w' s ks:=h.mo k (fun _ _ _=>id)
theorem FoundAt.nil(base:Nat)(w:World):FoundAt base w nilS []:=⟨[],OwnA.nil _ _ _ _,rfl,fun i e k h=>(by simp at h)⟩
theorem FoundAt.base{base:Nat}{w:World}{s:Sl}{ks:List (Path×Int)}(h:FoundAt base w s ks):∀b,SlIn s b→base≤b∧b<w.heap.size:=by obtain⟨es,h1,_⟩:=h;exact h1.base
theorem FoundAt.len{base:Nat}{w:World}{s:Sl}{ks:List (Path×Int)}(h:FoundAt base w s ks):s.len=ks.length:=by obtain⟨es,h1,h2,_⟩:=h;rw[h1.1,h2]
theorem fd_one(y:Fd):∀u∈afZ fAts y,u.oneCell'=true:=by
 intro u hu
 simp only[fAts,afZ,List.mem_cons,List.not_mem_nil,or_false]at hu
 rcases hu with rfl | rfl <;> rfl
theorem tF:Tryz.prog.underlying 154=some (.slice 158):=by kernel_rfl
structure Listed(y:Lay)(ns:List Path)(p:Path)(out:List (Path×Int)):Prop where
 order:out.Pairwise fun a b=>lessP a.1 b.1
 mem:∀k u,(k,u)∈out↔(k∈ns∧p <+:k∧y.here k=true∧u=y.used k)
theorem Listed.join{y:Lay}{ns:List Path}{p:Path}{xs:List Int}{outs:List (List (Path×Int))}(hpre:∀p x,p++[x]∈ns→p∈ns)(hp:p∈ns)(hs:xs.Pairwise (· < ·))(hx:∀x,x∈xs↔p++[x]∈ns)(hlen:outs.length=xs.length)
  (ho:∀(i:Nat) x o,xs[i]? =some x→outs[i]? =some o→Listed y ns (p++[x]) o):Listed y ns p ((if y.here p=true then [(p,y.used p)] else [])++outs.flatten):=by
 have hout:∀o∈outs,∃x∈xs,Listed y ns (p++[x]) o:=by
  intro o hoo
  obtain⟨i,hi⟩:=List.getElem?_of_mem hoo
  have hil:i<xs.length:=by rw[←hlen];exact(List.getElem?_eq_some_iff.1 hi).1
  exact⟨xs[i],List.getElem_mem hil,ho i _ o (List.getElem?_eq_getElem hil) hi⟩
 constructor
 ·rw[List.pairwise_append]
  refine⟨?_,?_,?_⟩
  ·split <;> simp
  ·rw[List.pairwise_flatten]
   refine⟨fun o hoo=>by obtain⟨x,_,h⟩:=hout o hoo;exact h.order,?_⟩
   rw[List.pairwise_iff_getElem]
   intro i j hi hj hij a ha b hb
   have hi':i<xs.length:=by omega
   have hj':j<xs.length:=by omega
   obtain⟨ka,ua⟩:=a
   obtain⟨kb,ub⟩:=b
   have h1:=(ho i _ _ (List.getElem?_eq_getElem hi') (List.getElem?_eq_getElem hi)).mem ka ua |>.1 ha
   have h2:=(ho j _ _ (List.getElem?_eq_getElem hj') (List.getElem?_eq_getElem hj)).mem kb ub |>.1 hb
   obtain⟨ta,hta⟩:=h1.2.1
   obtain⟨tb,htb⟩:=h2.2.1
   show lessP ka kb
   rw[←hta,←htb,List.append_assoc,List.append_assoc,less_ext]
   exact .inl (List.pairwise_iff_getElem.1 hs i j hi' hj' hij)
  ·intro a ha b hb
   split at ha
   ·simp only[List.mem_cons,List.not_mem_nil,or_false]at ha
    subst ha
    obtain⟨o,hoo,hbo⟩:=List.mem_flatten.1 hb
    obtain⟨x,_,hL⟩:=hout o hoo
    obtain⟨kb,ub⟩:=b
    obtain⟨t,ht⟩:=((hL.mem kb ub).1 hbo).2.1
    show lessP p kb
    rw[←ht,List.append_assoc]
    exact less_prefix p x t
   ·simp at ha
 ·intro k u
  rw[List.mem_append,List.mem_flatten]
  constructor
  ·rintro(h | ⟨o,hoo,h⟩)
   ·split at h
    ·rename_i hh
     simp only[List.mem_cons,List.not_mem_nil,or_false,Prod.mk.injEq]at h
     obtain⟨rfl,rfl⟩:=h
     exact⟨hp,List.prefix_refl _,hh,rfl⟩
    ·simp at h
   ·obtain⟨x,_,hL⟩:=hout o hoo
    obtain⟨g1,g2,g3,g4⟩:=(hL.mem k u).1 h
    exact⟨g1,(List.prefix_append p [x]).trans g2,g3,g4⟩
  ·rintro⟨g1,⟨t,rfl⟩,g3,rfl⟩
   cases t with
   | nil=>left;rw[List.append_nil]at g3 ⊢;rw[if_pos g3];simp
   | cons x t=>
    right
    have htk:(p++x::t).take (p.length+1)=p++[x]:=by
     rw[show p++x::t=(p++[x])++t by simp,show p.length+1=(p++[x]).length by simp,List.take_left]
    have hin:p++[x]∈ns:=by
     refine Classical.byContradiction fun hn=>?_
     exact pre_take hpre _ (p.length+1) rfl (by rw[htk];exact hn) g1
    have hxm:=(hx x).2 hin
    obtain⟨i,hi⟩:=List.getElem?_of_mem hxm
    have hil:i<outs.length:=by rw[hlen];exact(List.getElem?_eq_some_iff.1 hi).1
    exact⟨outs[i],List.getElem_mem hil,((ho i x _ hi (List.getElem?_eq_getElem hil)).mem _ _).2 ⟨g1,⟨t,by simp⟩,g3,rfl⟩⟩
end Go.Proofs.YtbiilejgfihohaaGreat.Tr
namespace Go.Proofs.YtbiilejgfihohaaGreat.Tr
open Go Go.Cu Go.RowKit
theorem iF:(Tryz.prog.info? 158).map (fun i=>(i.zero,i.size,i.bytes))=some (some (.agg #[slv nilS,.int .i64 0]),fAts.length,32):=by kernel_rfl
theorem less_irr:∀p:Path,¬lessP p p
 | []=>id
 | x::a=>fun h=>by
  rcases h with h | ⟨_,h⟩
  ·omega
  ·exact less_irr a h
theorem Listed.nodup{y:Lay}{ns:List Path}{p:Path}{out:List (Path×Int)}(h:Listed y ns p out):(out.map (·.1)).Nodup:=by
 unfold List.Nodup
 rw[List.pairwise_map]
 exact h.order.imp fun {a b} hab (e:a.1=b.1)=>less_irr b.1 (by rw[e]at hab;exact hab)
theorem sort_ok(s:Sl)(l:List Int)(base:Nat)(w:World)(ho:Own i64v 3 base w s l)(hl:l.length<4611686018427387904)(hn:l.Nodup):
  Calls Tryz.prog 118 #[slv s] w fun en w'=>∃xs:List Int,en=.returned (.tuple #[])∧Own i64v 3 base w' s xs∧Mo (SlIn s) w w'∧xs.Pairwise (· < ·)∧(∀x,x∈xs↔x∈l)∧xs.length=l.length:=by
 cases hb:s.base with
 | none=>
  have hl0:l=[]:=by
   cases l with
   | nil=>rfl
   | cons y r=>obtain⟨a,ha,_⟩:=ho.rds.2.2 0 y rfl;rw[hb]at ha;cases ha
  have hs0:s.len=0:=by rw[ho.1,hl0];rfl
  have:=Tryz.slices_Sort_int_none s.base s.cap w
  rw[←hs0]at this
  refine this.mono ?_
  rintro e w' ⟨rfl,rfl⟩
  subst hl0
  exact⟨[],rfl,ho,Mo.refl _ _,List.Pairwise.nil,fun x=>Iff.rfl,rfl⟩
 | some a=>
  obtain⟨g,rfl,hH,hg,_⟩:=ho.holds hb
  have:=Tryz.slices_Sort_int g 0 s.cap l w hH hg hl
  rw[←ho.1,←hb]at this
  refine this.mono ?_
  rintro e w' ⟨rfl,n,os,rfl⟩
  have hperm:(l.mergeSort fun x y=>decide (x≤y)).Perm l:=List.mergeSort_perm l _
  obtain⟨h1,h2⟩:=ho.put hb hperm.length_eq n os
  refine⟨_,rfl,h1,h2,?_,fun x=>hperm.mem_iff,hperm.length_eq⟩
  have hs:(l.mergeSort fun x y=>decide (x≤y)).Pairwise (fun x y=>decide (x≤y)=true):=List.pairwise_mergeSort (fun a b c=>by simp;omega) (fun a b=>by simp;omega) l
  have hnd:(l.mergeSort fun x y=>decide (x≤y)).Nodup:=hperm.nodup_iff.2 hn
  refine(hs.and hnd).imp fun h=>?_
  have:=of_decide_eq_true h.1
  have:=h.2
  omega
theorem order_join{y:Lay}{ns:List Path}{p:Path}{xs:List Int}{outs:List (List (Path×Int))}(hs:xs.Pairwise (· < ·))(hlen:outs.length≤xs.length)(ho:∀(i:Nat) x o,xs[i]? =some x→outs[i]? =some o→Listed y ns (p++[x]) o)(b:Bool)(u:Int):
  ((if b=true then [(p,u)] else [])++outs.flatten).Pairwise fun a b=>lessP a.1 b.1:=by
 rw[List.pairwise_append]
 refine⟨?_,?_,?_⟩
 ·split <;> simp
 ·rw[List.pairwise_flatten]
  refine⟨fun o hoo=>?_,?_⟩
  ·obtain⟨i,hi⟩:=List.getElem?_of_mem hoo
   have hil:i<xs.length:=by have:=(List.getElem?_eq_some_iff.1 hi).1;omega
   exact(ho i _ o (List.getElem?_eq_getElem hil) hi).order
  rw[List.pairwise_iff_getElem]
  intro i j hi hj hij a ha b hb
  have hi':i<xs.length:=by omega
  have hj':j<xs.length:=by omega
  obtain⟨ka,ua⟩:=a
  obtain⟨kb,ub⟩:=b
  have h1:=(ho i _ _ (List.getElem?_eq_getElem hi') (List.getElem?_eq_getElem hi)).mem ka ua |>.1 ha
  have h2:=(ho j _ _ (List.getElem?_eq_getElem hj') (List.getElem?_eq_getElem hj)).mem kb ub |>.1 hb
  obtain⟨ta,hta⟩:=h1.2.1
  obtain⟨tb,htb⟩:=h2.2.1
  show lessP ka kb
  rw[←hta,←htb,List.append_assoc,List.append_assoc,less_ext]
  exact .inl (List.pairwise_iff_getElem.1 hs i j hi' hj' hij)
 ·intro a ha b hb
  split at ha
  ·simp only[List.mem_cons,List.not_mem_nil,or_false]at ha
   subst ha
   obtain⟨o,hoo,hbo⟩:=List.mem_flatten.1 hb
   obtain⟨i,hi⟩:=List.getElem?_of_mem hoo
   have hil:i<xs.length:=by have:=(List.getElem?_eq_some_iff.1 hi).1;omega
   obtain⟨kb,ub⟩:=b
   obtain⟨t,ht⟩:=(((ho i _ o (List.getElem?_eq_getElem hil) hi).mem kb ub).1 hbo).2.1
   show lessP p kb
   rw[←ht,List.append_assoc]
   exact less_prefix p _ t
  ·simp at ha
structure WalkPre(own:Nat→Prop)(base:Nat)(y:Lay)(ns:List Path)(p:Path)(key list:Sl)(ks:List (Path×Int))(w:World):Prop where
 rd:Rds i64v w key p
 keyB:∀a,key.base=some a→a.block<w.heap.size∧¬SlIn list a.block
 fnd:FoundAt base w list ks
 le:base≤w.heap.size
 nodup:(ks.map (·.1)).Nodup
 ksI:∀k∈ks,(k.1∈ns∧y.here k.1=true)∧¬p <+:k.1
abbrev WalkPost(base:Nat)(y:Lay)(ns:List Path)(p:Path)(list:Sl)(ks:List (Path×Int))(w:World)(en:Ending)(w':World):Prop:=
 ∃s' out,en=.returned (slv s')∧FoundAt base w' s' (ks++out)∧Mo (SlIn list) w w'∧(∀b,SlIn s' b→SlIn list b∨w.heap.size≤b)∧Listed y ns p out
theorem found_snoc{base:Nat}{w0 w1 w2 w3:World}{list s' key:Sl}{ks:List (Path×Int)}{p:Path}{u:Int}(h:FoundAt base w0 list ks)(hx:Ex w0 w1)(hk:Own i64v 3 base w1 key p)(hnew:∀b,SlIn key b→w0.heap.size≤b)
  (hx2:Ex w1 w2) (es:List Fd) (hes:OwnA fAts 158 base w0 list es) (hlen:es.length=ks.length) (hi:∀(i:Nat) (e:Fd) (k:Path×Int),es[i]? =some e→ks[i]? =some k→e.2.1=k.2∧Own i64v 3 base w0 e.1 k.1∧∀b,SlIn e.1 b→¬SlIn list b)
  (ho:OwnA fAts 158 base w3 s' (es++[(key,u,())])) (hm:Mo (SlIn list) w2 w3) (hin:∀b,SlIn s' b→SlIn list b∨w2.heap.size≤b):FoundAt base w3 s' (ks++[(p,u)]):=by
 refine⟨_,ho,by simp[hlen],fun i e k he hk'=>?_⟩
 rcases bjZ he with ⟨he',hlt⟩ | ⟨rfl,rfl⟩
 ·rw[List.getElem?_append_left (by omega)]at hk'
  obtain⟨g1,g2,g3⟩:=hi i e k he' hk'
  refine⟨g1,((g2.ex hx).ex hx2).mo hm g3,fun b hb hbs=>?_⟩
  rcases hin b hbs with h' | h'
  ·exact g3 b hb h'
  ·have:=(g2.base b hb).2;have:=hx.size;have:=hx2.size;omega
 ·rw[hlen,List.getElem?_append_right (Nat.le_refl _),Nat.sub_self]at hk'
  simp at hk'
  subst hk'
  have hdis:∀b,SlIn key b→¬SlIn list b:=fun b hb hbl=>by have:=hnew b hb;have:=(hes.base b hbl).2;omega
  refine⟨rfl,(hk.ex hx2).mo hm hdis,fun b hb hbs=>?_⟩
  rcases hin b hbs with h' | h'
  ·exact hdis b hb h'
  ·have:=(hk.base b hb).2;have:=hx2.size;omega
theorem walk_ok{own vown:Nat→Prop}{tb:Nat}{lim n clock:Int}{y:Lay}{ns:List Path}(base:Nat)(hob:∀b,own b→b<base)(hcap:∀l:List Path,l.Nodup→(∀k∈l,k∈ns∧y.here k=true)→l.length≤1024)(hlen:∀k∈ns,k.length≤300)(h256:∀(p:Path) (xs:List Int),xs.Nodup→(∀x∈xs,p++[x]∈ns)→xs.length≤300):
  ∀(d:Nat) (p:Path) (key list:Sl) (ks:List (Path×Int)) (w:World),Mem w own vown tb lim n clock ns y→p∈ns→(∀x∈ns,p <+:x→x.length≤p.length+d)→WalkPre own base y ns p key list ks w→
   Calls Tryz.prog 95 #[.pointer (ndP y p),slv key,slv list] w (WalkPost base y ns p list ks w):=by
 intro d
 induction d using Nat.strongRecOn with
 | _ d ih=>
 intro p key list ks w h hp hd hpre
 have hpl:=hlen p hp
 refine trie_node_walk.run _ _ key list w ?_
 unfold trie_node_walk.M
 refine agZ ?_
 refine ajZ (c:=.bool) (x:=y.here p) (h.node p hp) (by kernel_rfl) rfl ?_
 have j1f:∀(list1:Sl) (w1:World),(∀b,SlIn list1 b→SlIn list b∨w.heap.size≤b)→Mo (SlIn list) w w1→FoundAt base w1 list1 (ks++(if y.here p=true then [(p,y.used p)] else []))→
   trie_node_walk.j1 (WalkPost base y ns p list ks w) (ndP y p) key list1 w1:=by
  intro list1 w1 hin1 hmo1 hf1
  have hown:∀b,own b→¬SlIn list b:=fun b hb hbl=>by have:=hob b hb;have:=(hpre.fnd.base b hbl).1;omega
  have h1:Mem w1 own vown tb lim n clock ns y:=h.mo hmo1 hown
  have hkey1:Rds i64v w1 key p:=hpre.rd.mo hmo1 (fun a ha=>(hpre.keyB a ha).2)
  unfold trie_node_walk.j1
  refine agZ ?_
  refine ajZ (c:=.map) (x:=some (y.mp p)) (h1.node p hp) (by kernel_rfl) rfl ?_
  obtain⟨l,hm,hk⟩:=h1.kids p hp
  have hln:(l.map (·.1)).Nodup:=by obtain⟨_,_,_,_,hn,_⟩:=hm;exact hn
  have hl300:l.length≤300:=by
   have:=h256 p (l.map (·.1)) hln (fun x hx=>by obtain⟨⟨x',v⟩,hv,rfl⟩:=List.mem_map.1 hx;exact((hk x' v).1 hv).1)
   simpa using this
  refine Rd_lenMap tMap hm ?_
  refine Wr_makeCap (α:=Int) (f:=i64v) (e:=3) (z:=.int .i64 0) (bytes:=8) tI (by kernel_rfl) l.length (by omega) (by omega) rfl w1.heap.size (Nat.le_refl _) fun nums w2 hno2 _ hx2 hnb2=>?_
  refine agZ ?_
  refine ajZ (c:=.map) (x:=some (y.mp p)) ((h1.ex hx2).node p hp) (by kernel_rfl) rfl ?_
  refine Wr_range tMap (hm.ex hx2) fun w3 hit3 hx3=>?_
  have hmp:y.mp p<w1.heap.size:=hm.lt
  unfold trie_node_walk.l1
  refine acZ (fun st w'=>st.1=ndP y p∧st.2.1=key∧st.2.2.1=list1∧st.2.2.2.2.1=⟨w2.heap.size,0,none⟩∧∃(done:List Int) (rem:List (Int×Value)),Ex w1 w'∧IterIs w' w2.heap.size (y.mp p) l rem∧Own i64v 3 w1.heap.size w' st.2.2.2.1 done∧
    (∀b,SlIn st.2.2.2.1 b→b≠w2.heap.size)∧done.Nodup∧(∀x,x∈l.map (·.1)↔x∈done∨x∈rem.map (·.1))∧(∀x∈done,x∉rem.map (·.1)))
   (fun st w'=>iterLeft w' st.2.2.2.2.1.block) ?_ ⟨rfl,rfl,rfl,rfl,[],l,hx2.trans hx3,hit3,hno2.ex hx3,fun b hb=>?_,List.nodup_nil,fun x=>by simp,fun x hx=>by simp at hx⟩
  rotate_left
  ·have:=hnb2 b hb;have:=(hno2.base b hb).2;omega
  rintro k ⟨n',key',list',nums',it',u⟩ w' hI hkk
  dsimp only at hI hkk ⊢
  obtain⟨rfl,rfl,rfl,rfl,done,rem,hx,hit,hno,hnb,hdn,hmem,hdis⟩:=hI
  unfold trie_node_walk.b1
  have hmd:y.mp p<w1.heap.size:=hm.lt
  have hrm:w2.heap.size≠y.mp p:=by have:=hx2.size;omega
  have hdl:done.length≤300:=h256 p done hdn (fun x hxd=>by
   obtain⟨⟨x',v⟩,hv,hxe⟩:=List.mem_map.1 ((hmem x).2 (.inl hxd))
   simp only at hxe;subst hxe
   exact((hk _ _).1 hv).1)
  refine Wr_next hit hrm (fun q hq=>⟨_,((hk q.1 q.2).1 hq).2⟩) (fun hrem=>?_) (fun x z w4 hxz hit4 hcur4 hmo4=>?_)
  ·-- all are collected
   refine aAZ ?_
   subst hrem
   refine Calls.mono (sort_ok nums' done _ w' hno (by omega) hdn) ?_
   rintro en w5 ⟨xs,rfl,hno5,hmo5,hsort,hxs,hxl⟩
   refine⟨(),rfl,?_⟩
   have hx15:Ex w1 w5:=hx.into hmo5 (fun b hb=>(hno.base b hb).1)
   have hxin:∀x,x∈xs↔p++[x]∈ns:=by
    intro x
    have hmx:=hmem x
    simp only[List.map_nil,List.not_mem_nil,or_false]at hmx
    rw[hxs x,←hmx]
    constructor
    ·intro hx'
     obtain⟨⟨x',v⟩,hv,hxe⟩:=List.mem_map.1 hx'
     simp only at hxe;subst hxe
     exact((hk _ _).1 hv).1
    ·intro hx';exact List.mem_map.2 ⟨(x,_),(hk x _).2 ⟨hx',rfl⟩,rfl⟩
   have hl1b:∀b,SlIn list' b→base≤b∧b<w1.heap.size:=hf1.base
   unfold trie_node_walk.l2
   refine acZ (fun st w''=>st.1=ndP y p∧st.2.1=key'∧st.2.2.2.1=nums'∧st.2.2.2.2.1=(nums'.len:Int)∧∃(i:Nat) (acc:List (List (Path×Int))),i≤xs.length∧st.2.2.2.2.2.1=(i:Int)∧acc.length=i∧(∀(j:Nat) x o,xs[j]? =some x→acc[j]? =some o→Listed y ns (p++[x]) o)∧
     FoundAt base w'' st.2.2.1 (ks++((if y.here p=true then [(p,y.used p)] else [])++acc.flatten))∧Mo (SlIn list') w5 w''∧∀b,SlIn st.2.2.1 b→SlIn list' b∨w5.heap.size≤b) (fun st _=>xs.length-st.2.2.2.2.2.1.toNat) ?_
    ⟨rfl,rfl,rfl,rfl,0,[],Nat.zero_le _,rfl,rfl,fun j x o _ ho=>by simp at ho,by simpa using hf1.ex hx15,Mo.refl _ _,fun b hb=>.inl hb⟩
   rintro k2 ⟨n2,key2,list2,nums2,len2,i2,u2⟩ w6 hI2 hk2
   dsimp only at hI2 hk2 ⊢
   obtain⟨rfl,rfl,rfl,rfl,i,acc,hi,rfl,hacc,hlst,hf6,hmo6,hin6⟩:=hI2
   unfold trie_node_walk.b2
   have hno6:Own i64v 3 w1.heap.size w6 nums2 xs:=hno5.mo hmo6 (fun b hb hbl=>by have:=(hno5.base b hb).1;have:=(hl1b b hbl).2;omega)
   have hnl:=hno6.1
   have hmo16:Mo (SlIn list') w1 w6:=hx15.mo hmo6
   have hl2b:∀b,SlIn list2 b→base≤b∧b<w6.heap.size:=hf6.base
   have notown:∀b,own b→¬SlIn list' b:=fun b hb hbl=>by have:=hob b hb;have:=(hl1b b hbl).1;omega
   have notown2:∀b,own b→¬SlIn list2 b:=fun b hb hbl=>by have:=hob b hb;have:=(hl2b b hbl).1;omega
   refine abZ (fun hlt=>?_) (fun hge=>?_)
   ·have hio:i<xs.length:=by omega
    refine Pu_idx hno6.rds tI sI (by omega) (by omega) fun a x hxg hc _=>?_
    rw[Int.toNat_natCast]at hxg
    refine bwZ (c:=.int .i64) (x:=x) oI hc ?_
    have hpx:p++[x]∈ns:=(hxin x).1 (List.mem_of_getElem? hxg)
    have h6:Mem w6 own vown tb lim n clock ns y:=h1.mo hmo16 notown
    have hm6:MapIs w6 (y.mp p) l:=hm.mo hmo16 (notown _ (h.ownN p hp).2.1)
    have hkey6:Rds i64v w6.drew key2 p:=(hkey1.mo hmo16 (fun a ha hbl=>by
     rcases hin1 _ hbl with g | g
     ·exact(hpre.keyB a ha).2 g
     ·have:=(hpre.keyB a ha).1;omega)).ex (Ex.drew w6)
    have hS:∀v,Ex w6.drew v→Has v (y.nd p) (nodeV y p) 123∧MapIs v (y.mp p) l:=fun v hv=>⟨((h6.node p hp).ex (Ex.drew w6)).ex hv,(hm6.ex (Ex.drew w6)).ex hv⟩
    refine asZ (fun v=>Has v (y.nd p) (nodeV y p) 123∧MapIs v (y.mp p) l) (hS _ (Ex.refl _)) ?_
    refine agZ ?_
    refine akZ (c:=.map) (x:=some (y.mp p)) (fun v hv=>hv.1) (by kernel_rfl) rfl ?_
    refine RdS_lookup (z:=ndP y (p++[x])) tMap uInt zN (fun v hv=>hv.2) (getM_mem hm ((hk x _).2 ⟨hpx,rfl⟩)) ?_
    have hord:=order_join (y:=y) (ns:=ns) (p:=p) hsort (by omega) hlst (y.here p) (y.used p)
    have hall:∀q∈(if y.here p=true then [(p,y.used p)] else [])++acc.flatten,(q.1∈ns∧y.here q.1=true)∧p <+:q.1∧¬(p++[x]) <+:q.1:=by
     intro q hq
     rcases List.mem_append.1 hq with g | g
     ·split at g
      ·rename_i hh
       simp only[List.mem_cons,List.not_mem_nil,or_false]at g
       subst g
       exact⟨⟨hp,hh⟩,List.prefix_refl _,fun hn=>by have:=hn.length_le;simp at this;omega⟩
      ·simp at g
     ·obtain⟨o,ho,hqo⟩:=List.mem_flatten.1 g
      obtain⟨j,hj⟩:=List.getElem?_of_mem ho
      have hjl:j<acc.length:=(List.getElem?_eq_some_iff.1 hj).1
      have hjx:j<xs.length:=by omega
      obtain⟨kq,uq⟩:=q
      obtain⟨g1,g2,g3,_⟩:=((hlst j _ o (List.getElem?_eq_getElem hjx) hj).mem kq uq).1 hqo
      refine⟨⟨g1,g3⟩,(List.prefix_append p _).trans g2,fun hn=>?_⟩
      have he:=List.prefix_of_prefix_length_le hn g2 (by simp)
      have he:=(List.IsPrefix.eq_of_length_le he (by simp))
      have hxx:=(snoc_inj he).2
      have hlt':=List.pairwise_iff_getElem.1 hsort j i hjx hio (by omega)
      have hxi:xs[i]=x:=by have:=List.getElem?_eq_getElem hio;rw[this]at hxg;exact Option.some.inj hxg
      omega
    have hnd:((ks++((if y.here p=true then [(p,y.used p)] else [])++acc.flatten)).map (·.1)).Nodup:=by
     rw[List.map_append,List.nodup_append]
     refine⟨hpre.nodup,?_,fun a ha c hc e=>?_⟩
     ·unfold List.Nodup
      rw[List.pairwise_map]
      exact hord.imp fun {a b} hab (e:a.1=b.1)=>less_irr b.1 (by rw[e]at hab;exact hab)
     ·obtain⟨q1,hq1,rfl⟩:=List.mem_map.1 ha
      obtain⟨q2,hq2,rfl⟩:=List.mem_map.1 hc
      refine(hpre.ksI q1 hq1).2 ?_
      rw[e];exact(hall q2 hq2).2.1
    have hd1:1≤d:=by have:=hd _ hpx (List.prefix_append p [x]);simp at this;omega
    have tail:∀(k3:Sl) (v:World),Ex w6.drew v→Own i64v 3 w6.heap.size v k3 (p++[x])→
      Cl Tryz.prog 95 #[.pointer (ndP y (p++[x])),slv k3,slv list2] (.one (.at .sl)) (fun x42 w43=>(Has w43 (y.nd p) (nodeV y p) 123∧MapIs w43 (y.mp p) l)∧trie_node_walk.j2 (WalkPost base y ns p list ks w) k2 (ndP y p) key2 x42 nums2 (nums2.len:Int) (i:Int) w43) v:=by
     intro k3 v hv hok
     have hvx:Ex w6 v:=(Ex.drew w6).trans hv
     refine Calls.mono (ih (d-1) (by omega) (p++[x]) k3 list2 _ v (h6.ex hvx) hpx (fun z hz hpz=>?_) ⟨hok.rds,fun a ha=>?_,hf6.ex hvx,?_,hnd,fun q hq=>?_⟩) ?_
     ·have:=hd z hz ((List.prefix_append p [x]).trans hpz)
      rw[List.length_append,List.length_singleton];omega
     ·have:=hok.base _ (aYZ ha)
      exact⟨this.2,fun hbl=>by have:=(hl2b _ hbl).2;omega⟩
     ·have:=hpre.le;have:=hmo1.size;have:=hmo16.size;have:=hvx.size;omega
     ·rcases List.mem_append.1 hq with g | g
      ·exact⟨(hpre.ksI q g).1,fun hn=>(hpre.ksI q g).2 ((List.prefix_append p [x]).trans hn)⟩
      ·exact⟨(hall q g).1,(hall q g).2.2⟩
     ·rintro en wb ⟨s',out,rfl,hfb,hmob,hinb,hLb⟩
      refine⟨s',rfl,⟨((hS v hv).1).mo hmob (notown2 _ (h.ownN p hp).1),((hS v hv).2).mo hmob (notown2 _ (h.ownN p hp).2.1)⟩,?_⟩
      unfold trie_node_walk.j2
      rw[adZ (x:=(i:Int)+1) (by have:=h256 p xs (hsort.imp (fun h=>by omega)) (fun x hx=>(hxin x).1 hx);omega) (by have:=h256 p xs (hsort.imp (fun h=>by omega)) (fun x hx=>(hxin x).1 hx);omega)]
      refine hk2 _ _ ⟨rfl,rfl,rfl,rfl,i+1,acc++[out],by omega,by simp,by simp[hacc],?_,?_,?_,?_⟩ (by simp only;omega)
      ·intro j x' o hj ho
       rcases bjZ ho with ⟨g,_⟩ | ⟨g,rfl⟩
       ·exact hlst j x' o hj g
       ·rw[g,hacc,hxg]at hj
        cases hj;exact hLb
      ·have e:ks++((if y.here p=true then [(p,y.used p)] else [])++(acc++[out]).flatten)=(ks++((if y.here p=true then [(p,y.used p)] else [])++acc.flatten))++out:=by simp[List.append_assoc]
       rw[e];exact hfb
      ·refine(hmo6.ex hvx).trans hmob (fun _=>id) (fun b hb hbl=>?_)
       rcases hin6 b hbl with g | g
       ·exact g
       ·omega
      ·intro b hb
       rcases hinb b hb with g | g
       ·exact hin6 b g
       ·exact .inr (by have:=hmo6.size;have:=hvx.size;omega)
    refine⟨?_,?_⟩
    ·refine Cl_sl (clone_own key2 p w6.drew hkey6 (by omega)) fun s7 w7 ho7 hx7=>⟨hS _ hx7,?_⟩
     refine bvZ (f:=i64v) (e:=3) (base:=w7.heap.size) [x] (by kernel_rfl) (Nat.le_refl _) (by simp) fun s8 w8 ho8 hx8 _=>⟨hS _ (hx7.trans hx8),?_⟩
     refine aGZ tI iI rfl (ho7.ex hx8) ho8.rds (fun y=>rfl) (by simp;omega) (by simp;omega) (Nat.le_trans hx7.size hx8.size) fun s9 w9 ho9 hm9 _=>?_
     have hx9:Ex w6.drew w9:=(hx7.trans hx8).into hm9 (fun b hb=>(ho7.base b hb).1)
     exact⟨hS _ hx9,tail s9 w9 hx9 ho9⟩
    ·refine bvZ (f:=i64v) (e:=3) (base:=w6.heap.size) [x] (by kernel_rfl) (Nat.le_refl _) (by simp) fun s8 w8 ho8 hx8 _=>⟨hS _ hx8,?_⟩
     refine Cl_sl (clone_own key2 p w8 (hkey6.ex hx8) (by omega)) fun s7 w7 ho7 hx7=>⟨hS _ (hx8.trans hx7),?_⟩
     refine aGZ tI iI rfl ho7 (ho8.ex hx7).rds (fun y=>rfl) (by simp;omega) (by simp;omega) hx7.size fun s9 w9 ho9 hm9 _=>?_
     have hx9:Ex w6.drew w9:=(hx8.trans hx7).into hm9 (fun b hb=>by have:=(ho7.base b hb).1;have:=hx8.size;omega)
     exact⟨hS _ hx9,tail s9 w9 hx9 (ho9.weak (by have:=hx8.size;exact this))⟩
   ·have hie:i=xs.length:=by omega
    refine⟨list2,(if y.here p=true then [(p,y.used p)] else [])++acc.flatten,rfl,hf6,?_,?_,?_⟩
    ·refine hmo1.trans hmo16 (fun _=>id) (fun b hb hbl=>?_)
     rcases hin1 b hbl with g | g
     ·exact g
     ·omega
    ·intro b hb
     rcases hin6 b hb with g | g
     ·exact hin1 b g
     ·exact .inr (by have:=hmo1.size;have:=hx15.size;omega)
    ·exact Listed.join h.pre hp hsort hxin (by omega) hlst
  ·-- one more
   refine Cd_t ?_
   refine Rd_entry hcur4 ?_
   refine bvZ (f:=i64v) (e:=3) (base:=w4.heap.size) [x] (by kernel_rfl) (Nat.le_refl _) (by simp) fun s5 w5 ho5 hx5 _=>?_
   have hno4:Own i64v 3 w1.heap.size w4 nums' done:=hno.mo hmo4 (fun b hb e=>hnb b hb e)
   have hw14:w1.heap.size≤w4.heap.size:=Nat.le_trans hx.size hmo4.size
   refine aGZ tI iI rfl (hno4.ex hx5) ho5.rds (fun y=>rfl) (by simp;omega) (by simp;omega) (Nat.le_trans hw14 hx5.size) fun s6 w6 ho6 hmo6 hin6=>?_
   have hx46:Ex w1 w6:=((hx.into hmo4 (fun b hb=>by rw[hb];exact hx2.size)).trans hx5).into hmo6 (fun b hb=>(hno4.base b hb).1)
   have hr4:w2.heap.size<w4.heap.size:=hit4.lt.1
   have hxin:x∈rem.map (·.1):=List.mem_map.2 ⟨_,hxz,rfl⟩
   refine hkk _ _ ⟨rfl,rfl,rfl,rfl,done++[x],rem.filter (fun p=>decide (p.1≠x)),hx46,?_,ho6,?_,?_,?_,?_⟩ ?_
   ·refine(hit4.ex hx5).mo hmo6 (fun hb=>hnb _ hb rfl) (fun hb=>?_)
    have:=(hno4.base _ hb).1
    omega
   ·intro b hb
    rcases hin6 b hb with h' | h'
    ·exact hnb b h'
    ·have:=hx5.size;omega
   ·rw[List.nodup_append]
    refine⟨hdn,by simp,fun a ha c hc=>?_⟩
    simp only[List.mem_cons,List.not_mem_nil,or_false]at hc
    subst hc
    rintro rfl
    exact hdis _ ha hxin
   ·intro z'
    rw[hmem z',List.mem_append]
    simp only[List.mem_map,List.mem_filter,List.mem_cons,List.not_mem_nil,or_false,decide_eq_true_eq]
    constructor
    ·rintro(g | ⟨q,hq,rfl⟩)
     ·exact .inl (.inl g)
     ·by_cases hqx:q.1=x
      ·exact .inl (.inr hqx)
      ·exact .inr ⟨q,⟨hq,hqx⟩,rfl⟩
    ·rintro((g | g) | ⟨q,⟨hq,_⟩,rfl⟩)
     ·exact .inl g
     ·subst g;exact .inr ⟨_,hxz,rfl⟩
     ·exact .inr ⟨q,hq,rfl⟩
   ·intro z' hz' hzm
    simp only[List.mem_map,List.mem_filter,decide_eq_true_eq]at hzm
    obtain⟨q,⟨hq,hqx⟩,rfl⟩:=hzm
    rcases List.mem_append.1 hz' with g | g
    ·exact hdis _ g (List.mem_map.2 ⟨q,hq,rfl⟩)
    ·simp only[List.mem_cons,List.not_mem_nil,or_false]at g
     exact hqx g
   ·show iterLeft w6 w2.heap.size<iterLeft w' w2.heap.size
    have hit6:IterIs w6 w2.heap.size (y.mp p) l (rem.filter (fun p=>decide (p.1≠x))):=by
     refine(hit4.ex hx5).mo hmo6 (fun hb=>hnb _ hb rfl) (fun hb=>?_)
     have:=(hno4.base _ hb).1
     omega
    rw[hit6.left,hit.left]
    exact List.length_filter_lt_length_iff_exists.2 ⟨_,hxz,by simp⟩
 have hk1024:ks.length≤1024:=by
  have:=hcap (ks.map (·.1)) hpre.nodup (fun k hk=>by obtain⟨q,hq,rfl⟩:=List.mem_map.1 hk;exact(hpre.ksI q hq).1)
  simpa using this
 refine Cd_of (fun hh=>?_) (fun hh=>?_)
 ·refine asZ (fun v=>Has v (y.nd p) (nodeV y p) 123) ((h.node p hp).ex (Ex.drew w)) ?_
  refine agZ ?_
  refine akZ (c:=.int .i64) (x:=y.used p) (fun v hv=>hv) (by kernel_rfl) rfl ?_
  refine Cl_sl (clone_own key p w.drew (hpre.rd.ex (Ex.drew w)) (by omega)) fun s1 w1 ho1 hx1=>⟨((h.node p hp).ex (Ex.drew w)).ex hx1,?_⟩
  have hx01:Ex w w1:=(Ex.drew w).trans hx1
  refine Wr_litA (ats:=fAts) (e:=158) (base:=w1.heap.size) [(s1,y.used p,())] (by kernel_rfl) (Nat.le_refl _) (by simp) fun s2 w2 ho2 hx2 _=>⟨((h.node p hp).ex hx01).ex hx2,?_⟩
  have hx02:=hx01.trans hx2
  obtain⟨es,e1,e2,e3⟩:=hpre.fnd
  refine Wr_appendA tF iF rfl (e1.ex hx02) ho2.rda fd_one (by simp;omega) (by simp;omega) (Nat.le_trans hpre.le hx02.size) fun s3 w3 ho3 hm3 hin3=>?_
  refine⟨((h.node p hp).ex hx02).mo hm3 (fun hb=>by have:=(e1.base _ hb).1;have:=hob _ (h.ownN p hp).1;omega),?_⟩
  refine j1f s3 w3 (fun b hb=>?_) (hx02.mo hm3) ?_
  ·rcases hin3 b hb with g | g
   ·exact .inl g
   ·exact .inr (by have:=hx02.size;omega)
  ·rw[if_pos hh]
   exact found_snoc hpre.fnd hx01 (ho1.weak hpre.le) (fun b hb=>(ho1.base b hb).1) hx2 es e1 e2 e3 ho3 hm3 hin3
 ·refine j1f list w (fun b hb=>.inl hb) (Mo.refl _ _) ?_
  rw[hh]
  simpa using hpre.fnd
end Go.Proofs.YtbiilejgfihohaaGreat.Tr
namespace Go.Proofs.YtbiilejgfihohaaGreat.Tr
open Go Go.Cu Go.RowKit
theorem keys_nest(base:Nat)(s:Sl)(ks:List (Path×Int))(w:World)(h:FoundAt base w s ks)(hl:ks.length≤1024)(hk:∀k∈ks,k.1.length≤300):
  Calls Tryz.prog 98 #[slv s] w fun en w'=>∃s',en=.returned (slv s')∧NestOwn i64v 3 25 w.heap.size w' s' (ks.map (·.1))∧Ex w w':=by
 have h1:=h.len
 obtain⟨es,e1,e2,e3⟩:=h
 refine trie_keys.run _ s w ?_
 unfold trie_keys.M
 rw[h1]
 refine bOZ (f:=slv) (z:=⟨none,0,0⟩) (e:=25) (bytes:=24) tII (by kernel_rfl) rfl ks.length (by omega) (by omega) rfl rfl fun so w2 hso hB2 hx2=>?_
 unfold trie_keys.l1
 refine acZ (fun st w'=>Ex w w'∧st.1=so∧st.2.1=s∧st.2.2.1=(ks.length:Int)∧∃(i:Nat) (rows:List Sl),i≤ks.length∧st.2.2.2.1=(i:Int)∧rows.length=i∧RowsOwn i64v 3 w.heap.size w' rows ((ks.map (·.1)).take i)∧Has w' w.heap.size ((rows++List.replicate (ks.length-i) (⟨none,0,0⟩:Sl)).map slv) 25∧
   ∀(j:Nat) (si:Sl) b,rows[j]? =some si→SlIn si b→b≠w.heap.size) (fun st _=>ks.length-st.2.2.2.1.toNat) ?_
  ⟨hx2,rfl,rfl,rfl,0,[],Nat.zero_le _,rfl,rfl,RowsOwn.nil _ _ _ _,by simpa using hB2,fun j si b h=>by simp at h⟩
 rintro k ⟨out,t',n',i',u⟩ w' hI hkk
 dsimp only at hI hkk ⊢
 obtain⟨hx,rfl,rfl,rfl,i,rows,hi,rfl,hri,hro,hB,hne⟩:=hI
 unfold trie_keys.b1
 refine abZ (fun hlt=>?_) (fun hge=>?_)
 ·have hik:i<ks.length:=by omega
  have hk1:ks[i]? =some ks[i]:=List.getElem?_eq_getElem hik
  refine Pu_idxA (e1.rda.ex hx) tF (by kernel_rfl) (by omega) (by omega) fun a x hxg hc _=>?_
  rw[Int.toNat_natCast]at hxg
  refine Rd_agg (ats:=fAts) (x:=x) (by kernel_rfl) hc ?_
  obtain⟨_,hok,_⟩:=e3 i x _ hxg hk1
  have hkl:=hk ks[i] (List.getElem_mem hik)
  refine Wr_alloc (z:=.agg #[slv nilS,.int .i64 0]) (by kernel_rfl) fun w3 hB3 hx3=>?_
  refine awZ (v:=.agg #[slv x.1,.int .i64 x.2.1]) hB3 (by kernel_rfl) (fd_one x) (Nat.le_of_ble_eq_true (by kernel_rfl)) fun w4 hB4 hm4=>?_
  have hx34:Ex w' w4:=hx3.into hm4 (fun b hb=>by rw[hb];exact Nat.le_refl _)
  refine ajZ (c:=.sl) (x:=x.1) hB4 (by kernel_rfl) rfl ?_
  refine aGZ (s:=⟨none,0,0⟩) (l:=[]) tI iI rfl (Own.nil i64v 3 w4.heap.size w4) ((hok.rds.ex hx).ex hx34) (fun y=>rfl) (by simp;omega) (by simp;omega) (Nat.le_refl _) fun s5 w5 ho5 hm5 hin5=>?_
  rw[List.nil_append]at ho5
  have hx5:Ex w4 w5:=hm5.new (fun i ⟨a,ha,_⟩=>by cases ha)
  rw[hso]
  refine Pu_ix (s:=⟨some ⟨w.heap.size,0,none⟩,ks.length,ks.length⟩) tII sII rfl (by omega) (by show(i:Int)<(ks.length:Int);omega) ?_
  rw[Int.toNat_natCast,add_lit]
  have hx45:=hx34.trans hx5
  have hB5:=hB.ex hx45
  refine awZ (v:=slv s5) hB5 sII (by simp[Value.cells,Value.oneCell']) (by simp[Value.cells];omega) fun w6 hB6 hm6=>?_
  rw[adZ (x:=(i:Int)+1) (by omega) (by omega)]
  rw[←hso]
  have hx6:Ex w w6:=(hx.trans hx45).into hm6 (fun b hb=>by rw[hb];exact Nat.le_refl _)
  have hnew:∀b,SlIn s5 b→w'.heap.size≤b:=fun b hb=>by have:=(ho5.base b hb).1;have:=hx34.size;omega
  have hgl:w.heap.size<w'.heap.size:=hB.lt
  have hro6:RowsOwn i64v 3 w.heap.size w6 (rows++[s5]) ((ks.map (·.1)).take i++[ks[i].1]):=by
   refine(hro.snoc hx45 (ho5.weak (by have:=hx.size;have:=hx34.size;omega)) hnew).mo hm6 fun j si b hj hb hn=>?_
   rcases bjZ hj with ⟨hj',_⟩ | ⟨_,rfl⟩
   ·exact hne j si b hj' hb hn
   ·have:=hnew b hb
    have hn:b=w.heap.size:=hn
    omega
  refine hkk _ _ ⟨hx6,rfl,rfl,rfl,i+1,rows++[s5],by omega,by simp,by simp[hri],?_,?_,?_⟩ (by simp only;omega)
  ·rw[List.take_add_one,List.getElem?_map,hk1];exact hro6
  ·have hrep:ks.length-i=(ks.length-(i+1))+1:=by omega
   rw[hrep]at hB6
   have:=set_next rows s5 (⟨none,0,0⟩:Sl) (ks.length-(i+1)) slv
   rw[hri]at this
   rw[←this]
   exact hB6
  ·intro j si b hj hb hn
   rcases bjZ hj with ⟨hj',_⟩ | ⟨_,rfl⟩
   ·exact hne j si b hj' hb hn
   ·have:=hnew b hb;omega
 ·have hie:i=ks.length:=by omega
  subst hie
  rw[List.take_of_length_le (by simp)]at hro
  rw[Nat.sub_self,List.replicate_zero,List.append_nil]at hB
  refine⟨out,rfl,?_,hx⟩
  rw[hso]
  exact hro.nestOwn (blZ hri (by omega) hB (Nat.le_refl _)) (fun j si b hj hb hn=>hne j si b hj hb hn.fresh)
end Go.Proofs.YtbiilejgfihohaaGreat.Tr
namespace Go.Proofs.YtbiilejgfihohaaGreat.Tr
open Go Go.Cu Go.RowKit
theorem goodFrom_len:∀(l:List Int) (p:Int),goodFrom p l=true→(l.length:Int)≤255-p∨l=[]
 | [],_,_=>.inr rfl
 | x::r,p,h=>by
  unfold goodFrom at h
  rw[Bool.and_eq_true,decide_eq_true_iff]at h
  left
  rcases goodFrom_len r x h.2 with g | g
  ·simp only[List.length_cons];omega
  ·subst g;simp only[List.length_cons,List.length_nil];omega
theorem good_len{l:List Int}(h:goodB l=true):l.length≤256:=by
 rcases goodFrom_len l (-1) h with g | g
 ·omega
 ·subst g;simp
theorem goodFrom_last:∀(p:Path) (x q:Int),goodFrom q (p++[x])=true→q<x∧x≤255
 | [],x,q,h=>by
  simp only[List.nil_append,goodFrom,Bool.and_eq_true,decide_eq_true_iff]at h
  exact h.1
 | z::p,x,q,h=>by
  rw[List.cons_append]at h
  unfold goodFrom at h
  rw[Bool.and_eq_true,decide_eq_true_iff]at h
  have:=goodFrom_last p x z h.2
  omega
theorem nodup_bound{lo hi:Int}:∀(n:Nat) (xs:List Int),xs.Nodup→(∀x∈xs,lo≤x∧x≤hi)→hi-lo+1≤n→xs.length≤n
 | 0,xs,hn,hb,hle=>by
  cases xs with
  | nil=>simp
  | cons x r=>have:=hb x (by simp);omega
 | n+1,xs,hn,hb,hle=>by
  by_cases hin:hi∈xs
  ·have h1:(xs.erase hi).length≤n∨True:=.inr trivial
   have hp:=List.perm_cons_erase hin
   have hn2:(xs.erase hi).Nodup:=hn.erase hi
   have hlen:=hp.length_eq
   rw[List.length_cons]at hlen
   have:=nodup_bound (lo:=lo) (hi:=hi-1) n (xs.erase hi) hn2 (fun x hx=>by
    have hne:x≠hi:=by
     have:=(hp.nodup_iff.1 hn)
     rw[List.nodup_cons]at this
     rintro rfl;exact this.1 hx
    have:=hb x (List.mem_of_mem_erase hx)
    omega) (by omega)
   omega
  ·have:=nodup_bound (lo:=lo) (hi:=hi-1) n xs hn (fun x hx=>by
    have hne:x≠hi:=by rintro rfl;exact hin hx
    have:=hb x hx
    omega) (by omega)
   omega
theorem nodup_sub_len:∀(l m:List Path),l.Nodup→(∀x∈l,x∈m)→l.length≤m.length
 | [],_,_,_=>Nat.zero_le _
 | x::l,m,hn,h=>by
  rw[List.nodup_cons]at hn
  have hp:=List.perm_cons_erase (h x (by simp))
  have:=nodup_sub_len l (m.erase x) hn.2 (fun z hz=>(List.mem_erase_of_ne (fun e=>hn.1 (by rw[←e];exact hz))).2 (h z (by simp[hz])))
  have hl:=hp.length_eq
  rw[List.length_cons]at hl ⊢
  omega
theorem Ents.cap{es:List Ent}{ns:List Path}{y:Lay}{lim clock:Int}(h:Ents es ns y lim clock):∀l:List Path,l.Nodup→(∀k∈l,k∈ns∧y.here k=true)→l.length≤1024:=by
 intro l hn hl
 have hsub:∀k∈l,k∈es.map (·.1):=fun k hk=>by
  obtain⟨e,he,hek⟩:=(h.here k (hl k hk).1).1 (hl k hk).2
  exact List.mem_map.2 ⟨e,he,hek⟩
 have h1:l.length≤(es.map (·.1)).length:=nodup_sub_len l _ hn hsub
 have:=h.room
 have:=h.lim2
 rw[List.length_map]at h1
 omega
theorem Ents.lens{es:List Ent}{ns:List Path}{y:Lay}{lim clock:Int}(h:Ents es ns y lim clock):∀k∈ns,k.length≤300:=fun k hk=>by have:=good_len (h.goodN k hk);omega
theorem Ents.kids{es:List Ent}{ns:List Path}{y:Lay}{lim clock:Int}(h:Ents es ns y lim clock):∀(p:Path) (xs:List Int),xs.Nodup→(∀x∈xs,p++[x]∈ns)→xs.length≤300:=by
 intro p xs hn hx
 exact nodup_bound (lo:=0) (hi:=255) 300 xs hn (fun x hxx=>by have:=goodFrom_last p x (-1) (h.goodN _ (hx x hxx));omega) (by omega)
structure KeysUnder(es:List Ent)(p:Path)(ks:List Path):Prop where
 order:ks.Pairwise lessP
 mem:∀k,k∈ks↔(∃e∈es,e.1=k)∧p <+:k
theorem Listed.keys{es:List Ent}{ns:List Path}{y:Lay}{lim clock:Int}{p:Path}{out:List (Path×Int)}(he:Ents es ns y lim clock)(h:Listed y ns p out):KeysUnder es p (out.map (·.1)):=by
 constructor
 ·rw[List.pairwise_map];exact h.order
 ·intro k
  constructor
  ·intro hk
   obtain⟨⟨k',u⟩,hq,rfl⟩:=List.mem_map.1 hk
   obtain⟨g1,g2,g3,_⟩:=(h.mem _ u).1 hq
   exact⟨(he.here _ g1).1 g3,g2⟩
  ·rintro⟨⟨e,hee,rfl⟩,hp⟩
   have hin:=(he.rows e hee).1
   exact List.mem_map.2 ⟨(e.1,y.used e.1),(h.mem _ _).2 ⟨hin,hp,(he.here _ hin).2 ⟨e,hee,rfl⟩,rfl⟩,rfl⟩
theorem Listed.len{es:List Ent}{ns:List Path}{y:Lay}{lim clock:Int}{p:Path}{out:List (Path×Int)}(he:Ents es ns y lim clock)(h:Listed y ns p out):out.length≤1024∧∀k∈out,k.1.length≤300:=by
 refine⟨?_,fun k hk=>?_⟩
 ·have:=he.cap (out.map (·.1)) h.nodup (fun k hk=>by
   obtain⟨⟨k',u⟩,hq,rfl⟩:=List.mem_map.1 hk
   have:=(h.mem _ u).1 hq
   exact⟨this.1,this.2.2.1⟩)
  simpa using this
 ·obtain⟨k',u⟩:=k
  exact he.lens _ ((h.mem _ u).1 hk).1
end Go.Proofs.YtbiilejgfihohaaGreat.Tr
namespace Go.Cu
open Go Go.RowKit Go.Proofs
theorem flat_getG{α:Type}(enc:α→List Value)(k:Nat)(hk:∀x,(enc x).length=k):∀(l:List α) (i j:Nat) (x:α),l[i]? =some x→j<k→(l.flatMap enc)[i*k+j]? =(enc x)[j]?
 | y::l,0,j,x,h,hj=>by
  simp only[List.getElem?_cons_zero,Option.some.injEq]at h
  subst h
  rw[List.flatMap_cons,Nat.zero_mul,Nat.zero_add,List.getElem?_append_left (by rw[hk];exact hj)]
 | y::l,i+1,j,x,h,hj=>by
  simp only[List.getElem?_cons_succ]at h
  rw[List.flatMap_cons,List.getElem?_append_right (by rw[hk,Nat.add_mul];omega),hk,Nat.add_mul,show i*k+1*k+j-k=i*k+j by omega]
  exact flat_getG enc k hk l i j x h hj
theorem flat_lenG{α:Type}(enc:α→List Value)(k:Nat)(hk:∀x,(enc x).length=k):∀l:List α,(l.flatMap enc).length=l.length*k
 | []=>by simp
 | x::l=>by rw[List.flatMap_cons,List.length_append,hk,flat_lenG enc k hk l,List.length_cons,Nat.add_mul];omega
theorem flatK_eq{α:Type}[Inhabited α](enc:α→List Value)(k:Nat)(hk:∀x,(enc x).length=k)(l:List α):Sort.flatK enc k l.toArray=(l.flatMap enc).toArray:=by
 apply Array.ext
 ·rw[Sort.size_flatK,List.size_toArray,List.size_toArray,flat_lenG enc k hk]
 ·intro t h1 h2
  have ht:t<l.length*k:=by rw[Sort.size_flatK,List.size_toArray]at h1;exact h1
  have hk0:0<k:=by
   rcases Nat.eq_zero_or_pos k with h | h
   ·rw[h,Nat.mul_zero]at ht;omega
   ·exact h
  have hq:t / k<l.length:=Nat.div_lt_of_lt_mul (by rw[Nat.mul_comm];exact ht)
  have hmod:=Nat.mod_lt t hk0
  have hje:t / k*k+t % k=t:=by rw[Nat.mul_comm];exact Nat.div_add_mod t k
  have hf:=flat_getG enc k hk l (t / k) (t % k) _ (List.getElem?_eq_getElem hq) hmod
  rw[hje]at hf
  have hg:=Sort.get_flatK enc k l.toArray t (by rw[List.size_toArray];exact ht)
  rw[getElem!_pos (Sort.flatK enc k l.toArray) t h1,getElem!_pos l.toArray (t / k) (by simpa using hq)]at hg
  rw[hg]
  have hm2:t % k<(enc l[t / k]).length:=by rw[hk];exact hmod
  have e1:(l.toArray[t / k]'(by simpa using hq))=l[t / k]:=by simp
  rw[e1,getElem!_pos (enc l[t / k]) (t % k) hm2]
  rw[List.getElem?_eq_getElem hm2]at hf
  have:=(List.getElem?_eq_some_iff.1 hf).2
  rw[List.getElem_toArray,this]
theorem OwnA.holds{ats:List At}{α:Type}[Inhabited α]{enc:α→List Value}{e:TypeId}{base:Nat}{w:World}{s:Sl}{l:List (Ats ats)}{d:List α}(h:OwnA ats e base w s l)(hd:d.flatMap enc=l.flatMap (afZ ats))(hk:∀x,(enc x).length=ats.length){a:Addr}(ha:s.base=some a):
  ∃g,a=⟨g,0,none⟩∧Sort.HoldsK enc ats.length w g 0 d.toArray∧g<w.heap.size:=by
 have hb:=h.base _ ⟨a,ha,rfl⟩
 obtain⟨h1,h2⟩:=h
 rcases h2.2 with ⟨e1,_⟩ | ⟨g,cap,cur,e1,_,hg,_⟩
 ·rw[ha]at e1;cases e1
 ·have e0:=e1
  rw[ha]at e1
  injection e1 with e1
  injection e1 with e1
  refine⟨g,e1,?_,by rw[e1]at hb;exact hb.2⟩
  unfold Sort.HoldsK
  rw[flatK_eq enc _ hk,hd]
  intro j hj
  have hj':j<(l.flatMap (afZ ats)).length:=by simpa using hj
  have hc:=h2.cells (g:=g) (by rw[ha,e1];rfl) j _ (List.getElem?_eq_getElem hj')
  rw[add_lit]at hc
  refine⟨?_,?_⟩
  ·rw[Nat.zero_add,hc,getElem!_pos _ j hj];simp
  ·simp[World.frozen?,hg]
theorem OwnA.put{ats:List At}{α:Type}[Inhabited α]{enc:α→List Value}{e:TypeId}{base:Nat}{w:World}{s:Sl}{l l':List (Ats ats)}{d:List α}(h:OwnA ats e base w s l){g:Nat}(ha:s.base=some ⟨g,0,none⟩)(hl:l'.length=l.length)(hd:d.flatMap enc=l'.flatMap (afZ ats))(hk:∀x,(enc x).length=ats.length)(n:Nat)(os:Array Obj):
  OwnA ats e base (sortWorldK enc ats.length w g 0 n d.toArray os) s l'∧Mo (SlIn s) w (sortWorldK enc ats.length w g 0 n d.toArray os):=by
 obtain⟨h1,h2,h3⟩:=h
 unfold sortWorldK Sort.putRowK
 rw[flatK_eq enc _ hk,hd]
 rcases h3 with ⟨e1,_⟩ | ⟨g',cap,cur,e1,hbg,hg,hc1,hc2,hc3,htake⟩
 ·rw[ha]at e1;cases e1
 ·rw[ha]at e1
  injection e1 with e1 e2 e3
  injection e1 with e1
  injection e1 with e1
  subst e1
  have hsz0:(l'.flatMap (afZ ats)).length=s.len*ats.length:=by rw[bnZ,hl,h1]
  have hmul:s.len*ats.length≤cap*ats.length:=Nat.mul_le_mul_right _ hc1
  have hsz:(l'.flatMap (afZ ats)).toArray.size≤cur.size:=by rw[hc3,List.size_toArray,hsz0];exact hmul
  obtain⟨p1,p2⟩:=put_world id hg (l'.flatMap (afZ ats)).toArray hsz n os
  refine⟨⟨by rw[h1,hl],hsz0,.inr ⟨g,cap,_,?_,hbg,p1,hc1,hc2,?_,?_⟩⟩,p2.weak (fun b _ hb=>⟨_,ha,hb.symm⟩)⟩
  ·rw[ha,e3]
  ·simp only[List.map_id,List.size_toArray,List.length_append,List.length_drop,Array.length_toList,List.toList_toArray]at hsz ⊢
   rw[hc3]at hsz ⊢
   omega
  ·simp only[List.map_id,List.toList_toArray]
   exact List.take_left' hsz0
end Go.Cu
namespace Go.Proofs.YtbiilejgfihohaaGreat.Tr
open Go Go.Cu Go.RowKit Go.Proofs
def uF(x:Fd):Int:=x.2.1
abbrev FdK:Type:={ x:Fd×Path // 0≤uF x.1∧uF x.1<4611686018427387904 }
abbrev uK(x:FdK):Int:=uF x.1.1
instance:Inhabited FdK:=⟨⟨((nilS,0,()),[]),by decide⟩⟩
abbrev encK(x:FdK):List Value:=afZ fAts x.1.1
abbrev cfK(x y:FdK):Int:=uK y-uK x
theorem swoK:Sort.SWO (ltOf cfK) where
 irrefl x:=by unfold ltOf cfK;simp
 trans x y z h1 h2:=by unfold ltOf cfK at*;simp at*;omega
 ntrans x y z h1 h2:=by unfold ltOf cfK at*;simp at*;omega
theorem cmp_ok(x y:FdK)(W:World):Calls Tryz.prog 97 #[.agg (encK x).toArray,.agg (encK y).toArray] W fun e w'=>e=.returned (.int .i64 (cfK x y))∧∃q os',w'=Sort.grow (W.drewN q) os':=by
 refine trie_Trie_Recent_1.run _ x.1.1 y.1.1 W ?_
 unfold trie_Trie_Recent_1.M
 refine⟨_,W.alloc (.cells (encK x).toArray 158),rfl,?_⟩
 refine⟨_,(W.alloc (.cells (encK x).toArray 158)).alloc (.cells (encK y).toArray 158),rfl,?_⟩
 have h1:Has (W.alloc (.cells (encK x).toArray 158)) W.heap.size (encK x) 158:=Has.alloc W _ _
 have h2:Has ((W.alloc (.cells (encK x).toArray 158)).alloc (.cells (encK y).toArray 158)) (W.alloc (.cells (encK x).toArray 158)).heap.size (encK y) 158:=Has.alloc _ _ _
 have h1':=h1.ex (Ex.alloc _ (.cells (encK y).toArray 158))
 refine ajZ (c:=.int .i64) (x:=uK y) h2 (by kernel_rfl) rfl ?_
 refine ajZ (c:=.int .i64) (x:=uK x) h1' (by kernel_rfl) rfl ?_
 have hx:0≤uK x∧uK x<4611686018427387904:=x.2
 have hy:0≤uK y∧uK y<4611686018427387904:=y.2
 refine⟨by rw[adZ (by omega) (by omega)],0,#[.cells (encK x).toArray 158,.cells (encK y).toArray 158],?_⟩
 rw[Sort.alloc_eq_grow,Sort.alloc_eq_grow,Sort.grow_grow]
 rfl
theorem desc_unique(u:Path→Int):∀l m:List Path,l.Pairwise (fun a b=>u b<u a)→m.Pairwise (fun a b=>u b<u a)→(∀x,x∈l↔x∈m)→l=m
 | [],[],_,_,_=>rfl
 | [],y::m,_,_,h=>by have:=(h y).2 (by simp);simp at this
 | x::l,[],_,_,h=>by have:=(h x).1 (by simp);simp at this
 | x::l,y::m,h1,h2,h=>by
  rw[List.pairwise_cons]at h1 h2
  have hxy:x=y:=by
   rcases List.mem_cons.1 ((h x).1 (by simp)) with e | e
   ·exact e
   ·rcases List.mem_cons.1 ((h y).2 (by simp)) with e' | e'
    ·exact e'.symm
    ·have:=h1.1 y e';have:=h2.1 x e;omega
  subst hxy
  rw[desc_unique u l m h1.2 h2.2 fun z=>?_]
  constructor
  ·intro hz
   rcases List.mem_cons.1 ((h z).1 (by simp[hz])) with e | e
   ·have:=h1.1 z hz;rw[e]at this;omega
   ·exact e
  ·intro hz
   rcases List.mem_cons.1 ((h z).2 (by simp[hz])) with e | e
   ·have:=h2.1 z hz;rw[e]at this;omega
   ·exact e
theorem aggF:∀w,(isAgg 158).run Tryz.prog w=.ok true w:=fun w=>(run_isAgg_agg (n:=2) (by kernel_rfl) w).1
theorem sizF:∀w,(Go.sizeOf 158).run Tryz.prog w=.ok 2 w:=fun w=>Go.Cu.run_sizeOf (n:=2) (by kernel_rfl) w
theorem sortF_ok(base:Nat)(s:Sl)(w:World)(d:List FdK)(hl:d.length≤1024)(ho:OwnA fAts 158 base w s (d.map (·.1.1)))(hk:∀x∈d,Own i64v 3 base w x.1.1.1 x.1.2∧∀b,SlIn x.1.1.1 b→¬SlIn s b):
  Calls Tryz.prog 96 #[slv s,.func (.func 97) #[] #[]] w fun en w'=>∃d':List FdK,en=.returned (.tuple #[])∧FoundAt base w' s (d'.map fun x=>(x.1.2,uK x))∧Mo (SlIn s) w w'∧d'.Perm d∧d'.Pairwise (fun a b=>uK b≤uK a):=by
 have found:∀(w':World) (d':List FdK),d'.Perm d→OwnA fAts 158 base w' s (d'.map (·.1.1))→Mo (SlIn s) w w'→FoundAt base w' s (d'.map fun x=>(x.1.2,uK x)):=by
  intro w' d' hp ho' hm
  refine⟨d'.map (·.1.1),ho',by simp,fun i e k he hk'=>?_⟩
  rw[List.getElem?_map]at he hk'
  cases hd:d'[i]? with
  | none=>rw[hd]at he;cases he
  | some x=>
   rw[hd]at he hk'
   cases he;cases hk'
   obtain⟨g1,g2⟩:=hk x (hp.mem_iff.1 (List.mem_of_getElem? hd))
   exact⟨rfl,g1.mo hm g2,g2⟩
 cases hb:s.base with
 | none=>
  have hd0:d=[]:=by
   cases d with
   | nil=>rfl
   | cons y r=>obtain⟨a,ha,_⟩:=ho.rda.2.2 0 y.1.1 rfl;rw[hb]at ha;cases ha
  have hs0:s.len=0:=by rw[ho.1,hd0];rfl
  have:=AnyF.slices_SortFunc_none Tryz.sortFound s.base s.cap (.func (.func 97) #[] #[]) w
  rw[←hs0]at this
  refine this.mono ?_
  rintro e w' ⟨rfl,rfl⟩
  exact⟨d,rfl,found w' d (List.Perm.refl _) ho (Mo.refl _ _),Mo.refl _ _,List.Perm.refl _,by rw[hd0];exact List.Pairwise.nil⟩
 | some a=>
  have hflat:∀l:List FdK,l.flatMap encK=(l.map (·.1.1)).flatMap (afZ fAts):=fun l=>by rw[List.flatMap_map]
  have hlen:∀x:FdK,(encK x).length=fAts.length:=fun x=>bsZ fAts x.1.1
  obtain⟨g,rfl,hH,hg⟩:=ho.holds (hflat d) hlen hb
  have:=AnyQ.slices_SortFunc Tryz.sortFound 2 aggF sizF encK hlen (fun x=>fd_one x.1.1) cfK swoK 97 #[] g 0 s.cap d.toArray w (enters_of Tryz.func97 (by kernel_rfl) rfl) (fun m os dk hdk x y=>cmp_ok x y _) hH hg (by simp;omega)
  have hsz:d.toArray.size=s.len:=by rw[ho.1];simp
  rw[hsz,←hb]at this
  refine this.mono ?_
  rintro e w' ⟨rfl,d',n,os,hperm,hsort,rfl⟩
  obtain⟨p1,_,p3⟩:=hperm
  have hps:d'.size=d.length:=by rw[p1];simp
  have hp:d'.toList.Perm d:=by
   have e1:(d'.extract 0 s.len).toList=d'.toList:=by rw[←hsz,←p1];simp
   have e2:(d.toArray.extract 0 s.len).toList=d:=by rw[←hsz];simp
   rwa [e1,e2]at p3
  have hd':d'.toList.toArray=d':=by simp
  obtain⟨h1,h2⟩:=ho.put (d:=d'.toList) (l':=d'.toList.map (·.1.1)) hb (by simp[hps]) (hflat _) hlen n os
  rw[hd']at h1 h2
  refine⟨d'.toList,rfl,found _ _ hp h1 h2,h2,hp,?_⟩
  rw[List.pairwise_iff_getElem]
  intro i j hi hj hij
  have hi':i<d'.size:=by simpa using hi
  have hj':j<d'.size:=by simpa using hj
  have:=hsort i j (Nat.zero_le _) hij (by rw[←hsz];simp;omega)
  rw[getElem!_pos d' i hi',getElem!_pos d' j hj']at this
  unfold ltOf at this
  have:=of_decide_eq_false this
  simp only[Array.getElem_toList]
  have h5:¬(uK d'[i]-uK d'[j]<0):=this
  omega
theorem recent_ok{w:World}{own:Nat→Prop}{tb:Nat}{lim clock:Int}{es:List Ent}(h:TrieSt w own tb lim es clock)(hc:clock<4611686018427387904):
  Calls Tryz.prog 72 #[.pointer (some ⟨tb,0,none⟩)] w fun en w'=>∃s',en=.returned (slv s')∧NestOwn i64v 3 25 w.heap.size w' s' (es.map (·.1))∧Ex w w':=by
 obtain⟨vown,ns,y,hm,he⟩:=h
 refine trie_Trie_Recent.run _ _ w ?_
 unfold trie_Trie_Recent.M
 refine aCZ tT ?_
 refine aAZ ?_
 refine agZ ?_
 refine ajZ hm.top (by kernel_rfl) rfl ?_
 refine aCZ tN ?_
 unfold trie_Trie_Recent.j1
 refine aAZ ?_
 refine agZ ?_
 refine ajZ hm.top (by kernel_rfl) rfl ?_
 refine Calls.mono (walk_ok w.heap.size (fun b hb=>hm.ownL b hb) he.cap he.lens he.kids 300 [] nilS nilS [] w hm hm.root (fun x hx _=>by have:=he.lens x hx;simp;omega) ⟨Rds.nil _ _,fun a ha=>(by cases ha),FoundAt.nil _ _,Nat.le_refl _,List.nodup_nil,fun k hk=>by simp at hk⟩) ?_
 rintro en w1 ⟨s1,out,rfl,hf1,hmo1,_,hL⟩
 refine⟨s1,rfl,?_⟩
 have hx1:Ex w w1:=hmo1.new (fun i ⟨a,ha,_⟩=>by cases ha)
 rw[List.nil_append]at hf1
 obtain⟨hlen,hkl⟩:=hL.len he
 have hku:=hL.keys he
 obtain⟨fs,f1,f2,f3⟩:=hf1
 have husedr:∀k u,(k,u)∈out→u=y.used k∧0≤u∧u<4611686018427387904:=by
  intro k u hk
  obtain⟨g1,_,g3,rfl⟩:=(hL.mem k u).1 hk
  obtain⟨e,hee,rfl⟩:=(he.here k g1).1 g3
  have:=he.pos e hee
  have:=he.clk e hee
  exact⟨rfl,by omega,by omega⟩
 have hz:∀q∈fs.zip (out.map (·.1)),0≤uF q.1∧uF q.1<4611686018427387904:=by
  intro q hq
  obtain⟨i,hi⟩:=List.getElem?_of_mem hq
  rw[List.getElem?_zip_eq_some,List.getElem?_map]at hi
  obtain⟨h1,h2⟩:=hi
  cases ho:out[i]? with
  | none=>rw[ho]at h2;cases h2
  | some k=>
   obtain⟨kk,u⟩:=k
   have hu:=(f3 i q.1 (kk,u) h1 ho).1
   have:=husedr kk u (List.mem_of_getElem? ho)
   have hu':uF q.1=u:=hu
   omega
 have hd1:((fs.zip (out.map (·.1))).pmap (fun q hq=>(⟨q,hq⟩:FdK)) hz).map (·.1.1)=fs:=by
  rw[List.map_pmap]
  simp only[List.pmap_eq_map]
  rw[List.map_fst_zip]
  simp[f2]
 have hd2:((fs.zip (out.map (·.1))).pmap (fun q hq=>(⟨q,hq⟩:FdK)) hz).map (·.1.2)=out.map (·.1):=by
  rw[List.map_pmap]
  simp only[List.pmap_eq_map]
  rw[List.map_snd_zip]
  simp[f2]
 have hpair:∀x∈(fs.zip (out.map (·.1))).pmap (fun q hq=>(⟨q,hq⟩:FdK)) hz,(Own i64v 3 w.heap.size w1 x.1.1.1 x.1.2∧∀b,SlIn x.1.1.1 b→¬SlIn s1 b)∧uK x=y.used x.1.2:=by
  intro x hx
  obtain⟨q,hq,rfl⟩:=List.mem_pmap.1 hx
  obtain⟨i,hi⟩:=List.getElem?_of_mem hq
  rw[List.getElem?_zip_eq_some,List.getElem?_map]at hi
  obtain⟨h1,h2⟩:=hi
  cases ho:out[i]? with
  | none=>rw[ho]at h2;cases h2
  | some k=>
   obtain⟨kk,u⟩:=k
   rw[ho]at h2
   have h2:q.2=kk:=by simpa using h2.symm
   obtain⟨g1,g2,g3⟩:=f3 i q.1 (kk,u) h1 ho
   have hu:=(husedr kk u (List.mem_of_getElem? ho)).1
   have g1:uF q.1=u:=g1
   refine⟨⟨?_,g3⟩,?_⟩
   ·show Own i64v 3 w.heap.size w1 q.1.1 q.2
    rw[h2];exact g2
   ·show uF q.1=y.used q.2
    rw[g1,h2];exact hu
 generalize (fs.zip (out.map (·.1))).pmap (fun q hq=>(⟨q,hq⟩:FdK)) hz=d at hd1 hd2 hpair
 have hdl:d.length≤1024:=by have:=congrArg List.length hd2;simp at this;omega
 refine Calls.mono (sortF_ok w.heap.size s1 w1 d hdl (by rw[hd1];exact f1) (fun x hx=>(hpair x hx).1)) ?_
 rintro en w2 ⟨d',rfl,hf2,hmo2,hperm,hsort⟩
 refine⟨(),rfl,?_⟩
 have hx2:Ex w w2:=hx1.into hmo2 (fun b hb=>(f1.base b hb).1)
 have hk':(d'.map fun x=>(x.1.2,uK x)).map (·.1)=es.map (·.1):=by
  rw[List.map_map]
  have hkeys:∀k,k∈d'.map ((fun x:Path×Int=>x.1) ∘ fun x:FdK=>(x.1.2,uK x))↔k∈es.map (·.1):=by
   intro k
   have e1:(d'.map ((fun x:Path×Int=>x.1) ∘ fun x:FdK=>(x.1.2,uK x))).Perm (out.map (·.1)):=by
    rw[←hd2];exact hperm.map _
   rw[e1.mem_iff,hku.mem]
   simp[List.nil_prefix]
  have hnd:(d'.map ((fun x:Path×Int=>x.1) ∘ fun x:FdK=>(x.1.2,uK x))).Nodup:=by
   have e1:(d'.map ((fun x:Path×Int=>x.1) ∘ fun x:FdK=>(x.1.2,uK x))).Perm (out.map (·.1)):=by
    rw[←hd2];exact hperm.map _
   exact e1.nodup_iff.2 hL.nodup
  have hinj:∀a∈es.map (·.1),∀b∈es.map (·.1),y.used a=y.used b→a=b:=by
   intro a ha b hb hab
   obtain⟨i,hi⟩:=List.getElem?_of_mem ha
   obtain⟨j,hj⟩:=List.getElem?_of_mem hb
   have ho:(es.map (·.1)).Pairwise (fun a b=>y.used b<y.used a):=by rw[List.pairwise_map];exact he.order
   have hil:=(List.getElem?_eq_some_iff.1 hi).1
   have hjl:=(List.getElem?_eq_some_iff.1 hj).1
   have hie:=(List.getElem?_eq_some_iff.1 hi).2
   have hje:=(List.getElem?_eq_some_iff.1 hj).2
   rcases Nat.lt_trichotomy i j with g | g | g
   ·have:=List.pairwise_iff_getElem.1 ho i j hil hjl g;rw[hie,hje]at this;omega
   ·subst g;rw[←hie,←hje]
   ·have:=List.pairwise_iff_getElem.1 ho j i hjl hil g;rw[hie,hje]at this;omega
  refine desc_unique y.used _ _ ?_ (by rw[List.pairwise_map];exact he.order) hkeys
  rw[List.pairwise_map]
  have hnd2:=hnd
  unfold List.Nodup at hnd2
  rw[List.pairwise_map]at hnd2
  refine List.Pairwise.imp_of_mem ?_ (hsort.and hnd2)
  intro a b ha hb hab
  have hua:=(hpair a (hperm.mem_iff.1 ha)).2
  have hub:=(hpair b (hperm.mem_iff.1 hb)).2
  show y.used b.1.2<y.used a.1.2
  have h1:y.used b.1.2≤y.used a.1.2:=by rw[←hua,←hub];exact hab.1
  have hne:y.used b.1.2≠y.used a.1.2:=fun e=>hab.2 (hinj _ ((hkeys _).1 (List.mem_map.2 ⟨a,ha,rfl⟩)) _ ((hkeys _).1 (List.mem_map.2 ⟨b,hb,rfl⟩)) e.symm)
  omega
 refine Calls.mono (keys_nest _ s1 _ w2 hf2 (by rw[List.length_map,hperm.length_eq];exact hdl) (fun k hk=>?_)) ?_
 ·have:k.1∈es.map (·.1):=by rw[←hk'];exact List.mem_map.2 ⟨k,hk,rfl⟩
  obtain⟨e,hee,hek⟩:=List.mem_map.1 this
  rw[←hek]
  exact he.lens _ (he.rows e hee).1
 ·rintro en w3 ⟨s3,rfl,hn3,hx3⟩
  rw[hk']at hn3
  exact⟨s3,rfl,s3,rfl,hn3.weak hx2.size,hx2.trans hx3⟩
end Go.Proofs.YtbiilejgfihohaaGreat.Tr
namespace Go.Proofs.YtbiilejgfihohaaGreat.Tr
open Go Go.Cu Go.RowKit
def addLay(y:Lay)(c:Path)(b m:Nat):Lay:=
 {nd:=upd y.nd c b,mp:=upd y.mp c m,here:=upd y.here c false,val:=upd y.val c nilS,rows:=upd y.rows c [],used:=upd y.used c 0 }
theorem Mem.add{w w1 w2:World}{own vown:Nat→Prop}{tb:Nat}{lim n clock:Int}{ns:List Path}{y:Lay}{p:Path}{x:Int}{b m:Nat}{l:List (Int×Value)}(h:Mem w own vown tb lim n clock ns y)(hp:p∈ns)(hno:p++[x]∉ns)
  (hx1:Ex w w1) (hB:Has w1 b [.map (some m),.bool false,slv nilS,.int .i64 0] 123) (hm:MapIs w1 m []) (hb1:w.heap.size≤b) (hm1:w.heap.size≤m)
  (hl:MapIs w1 (y.mp p) l) (hk:∀x v,(x,v)∈l↔(p++[x]∈ns∧v=.pointer (ndP y (p++[x])))) (k:Mo (fun c=>c=y.mp p) w1 w2) (hm2:MapIs w2 (y.mp p) (putM l x (.pointer (some ⟨b,0,none⟩)))):
  Mem w2 (fun c=>own c∨c=b∨c=m) vown tb lim n clock ((p++[x])::ns) (addLay y (p++[x]) b m):=by
 have h1:=h.ex hx1
 have hpc:∀q∈ns,q≠p++[x]:=fun q hq e=>hno (e▸hq)
 have hnd:∀q∈ns,(addLay y (p++[x]) b m).nd q=y.nd q:=fun q hq=>apZ _ _ (hpc q hq)
 have hmp:∀q∈ns,(addLay y (p++[x]) b m).mp q=y.mp q:=fun q hq=>apZ _ _ (hpc q hq)
 have hnd0:(addLay y (p++[x]) b m).nd (p++[x])=b:=axZ _ _ _
 have hmp0:(addLay y (p++[x]) b m).mp (p++[x])=m:=axZ _ _ _
 have hlt:∀q∈ns,y.nd q<w.heap.size∧y.mp q<w.heap.size:=fun q hq=>⟨h.ownL _ (h.ownN q hq).1,h.ownL _ (h.ownN q hq).2.1⟩
 have hbm:b≠m:=bgZ hB hm
 have hpm:=(hlt p hp).2
 have hln:(l.map (·.1)).Nodup:=by obtain⟨_,_,_,_,hn,_⟩:=hl;exact hn
 have hvlt:∀c,vown c→c<w.heap.size:=fun c hc=>h.ownL c (h.ownV c hc)
 have hchild:∀q∈ns,∀z,(q++[z]∈(p++[x])::ns)↔(q++[z]∈ns∨(q=p∧z=x)):=by
  intro q hq z
  rw[List.mem_cons]
  constructor
  ·rintro(e | e)
   ·exact .inr ⟨(snoc_inj e).1,(snoc_inj e).2⟩
   ·exact .inl e
  ·rintro(e | ⟨rfl,rfl⟩)
   ·exact .inr e
   ·exact .inl rfl
 refine { top:=?_,node:=fun q hq=>?_,kids:=fun q hq=>?_,injN:=?_,injM:=?_,topN:=?_,vals:=fun q hq hh=>?_,ownN:=fun q hq=>?_,ownT:=⟨.inl h.ownT.1,h.ownT.2⟩,ownV:=fun c hc=>.inl (h.ownV c hc),ownL:=?_,root:=List.mem_cons_of_mem _ h.root,pre:=?_ }
 ·have e:topV (addLay y (p++[x]) b m) lim n clock=topV y lim n clock:=by
   show [Value.pointer (some ⟨(addLay y (p++[x]) b m).nd [],0,none⟩),_,_,_]=_
   rw[hnd [] h.root]
  rw[e]
  exact h1.top.mo k (fun e=>bgZ h1.top hl e)
 ·rcases List.mem_cons.1 hq with rfl | hq
  ·rw[hnd0]
   have e:nodeV (addLay y (p++[x]) b m) (p++[x])=[.map (some m),.bool false,slv nilS,.int .i64 0]:=by
    show [Value.map (some (upd y.mp (p++[x]) m (p++[x]))),.bool (upd y.here (p++[x]) false (p++[x])),slv (upd y.val (p++[x]) nilS (p++[x])),.int .i64 (upd y.used (p++[x]) 0 (p++[x]))]=_
    rw[axZ,axZ,axZ,axZ]
   rw[e]
   exact hB.mo k (fun e=>bgZ hB hl e)
  ·rw[hnd q hq]
   have e:nodeV (addLay y (p++[x]) b m) q=nodeV y q:=by
    show [Value.map (some (upd y.mp (p++[x]) m q)),.bool (upd y.here (p++[x]) false q),slv (upd y.val (p++[x]) nilS q),.int .i64 (upd y.used (p++[x]) 0 q)]=_
    rw[apZ _ _ (hpc q hq),apZ _ _ (hpc q hq),apZ _ _ (hpc q hq),apZ _ _ (hpc q hq)]
   rw[e]
   exact(h1.node q hq).mo k (fun e=>bgZ (h1.node q hq) hl e)
 ·rcases List.mem_cons.1 hq with rfl | hq
  ·rw[hmp0]
   refine⟨[],hm.mo k (fun e=>by have e:m=y.mp p:=e;omega),fun z v=>⟨fun h=>(by simp at h),fun h=>?_⟩⟩
   exfalso
   rcases List.mem_cons.1 h.1 with e | e
   ·have:=congrArg List.length e;simp at this
   ·exact hno (h1.pre _ z e)
  ·rw[hmp q hq]
   by_cases hqp:q=p
   ·have hch:=hchild q hq
    subst hqp
    refine⟨_,hm2,fun z v=>?_⟩
    rw[putM_mem hln,hk,hch z]
    constructor
    ·rintro(⟨rfl,rfl⟩ | ⟨g1,g2,g3⟩)
     ·exact⟨.inr ⟨rfl,rfl⟩,by show _=Value.pointer (some ⟨(addLay y (q++[z]) b m).nd (q++[z]),0,none⟩);rw[hnd0]⟩
     ·exact⟨.inl g2,by show _=Value.pointer (some ⟨(addLay y (q++[x]) b m).nd (q++[z]),0,none⟩);rw[hnd _ g2];exact g3⟩
    ·rintro⟨g | ⟨_,rfl⟩,g3⟩
     ·refine .inr ⟨fun e=>hno (e▸g),g,?_⟩
      have g3:v=Value.pointer (some ⟨(addLay y (q++[x]) b m).nd (q++[z]),0,none⟩):=g3
      rw[hnd _ g]at g3;exact g3
     ·have g3:v=Value.pointer (some ⟨(addLay y (q++[z]) b m).nd (q++[z]),0,none⟩):=g3
      rw[hnd0]at g3;exact .inl ⟨rfl,g3⟩
   ·obtain⟨l',g1,g2⟩:=h1.kids q hq
    refine⟨l',g1.mo k (fun e=>hqp (h.injM q hq p hp e)),fun z v=>?_⟩
    rw[g2,hchild q hq z]
    constructor
    ·rintro⟨a1,a2⟩
     exact⟨.inl a1,by show _=Value.pointer (some ⟨(addLay y (p++[x]) b m).nd (q++[z]),0,none⟩);rw[hnd _ a1];exact a2⟩
    ·rintro⟨a1 | ⟨a1,_⟩,a2⟩
     ·have a2:v=Value.pointer (some ⟨(addLay y (p++[x]) b m).nd (q++[z]),0,none⟩):=a2
      rw[hnd _ a1]at a2;exact⟨a1,a2⟩
     ·exact absurd a1 hqp
 ·intro q hq r hr e
  rcases List.mem_cons.1 hq with rfl | hq <;> rcases List.mem_cons.1 hr with rfl | hr
  ·rfl
  ·rw[hnd0,hnd r hr]at e;have:=(hlt r hr).1;omega
  ·rw[hnd0,hnd q hq]at e;have:=(hlt q hq).1;omega
  ·rw[hnd q hq,hnd r hr]at e;exact h.injN q hq r hr e
 ·intro q hq r hr e
  rcases List.mem_cons.1 hq with rfl | hq <;> rcases List.mem_cons.1 hr with rfl | hr
  ·rfl
  ·rw[hmp0,hmp r hr]at e;have:=(hlt r hr).2;omega
  ·rw[hmp0,hmp q hq]at e;have:=(hlt q hq).2;omega
  ·rw[hmp q hq,hmp r hr]at e;exact h.injM q hq r hr e
 ·intro q hq e
  rcases List.mem_cons.1 hq with rfl | hq
  ·rw[hnd0]at e;have:=h.ownL _ h.ownT.1;omega
  ·rw[hnd q hq]at e;exact h.topN q hq e
 ·rcases List.mem_cons.1 hq with rfl | hq
  ·have hh:upd y.here (p++[x]) false (p++[x])=true:=hh
   rw[axZ]at hh;cases hh
  ·have hh:upd y.here (p++[x]) false q=true:=hh
   rw[apZ _ _ (hpc q hq)]at hh
   show Nest b8 vown w2 (upd y.val (p++[x]) nilS q) (upd y.rows (p++[x]) [] q)
   rw[apZ _ _ (hpc q hq),apZ _ _ (hpc q hq)]
   exact(h1.vals q hq hh).mo k (fun c hc e=>(h.ownN p hp).2.2.2 (by rw[←(show c=y.mp p from e)];exact hc))
 ·rcases List.mem_cons.1 hq with rfl | hq
  ·rw[hnd0,hmp0]
   exact⟨.inr (.inl rfl),.inr (.inr rfl),fun hc=>by have:=hvlt _ hc;omega,fun hc=>by have:=hvlt _ hc;omega⟩
  ·rw[hnd q hq,hmp q hq]
   obtain⟨g1,g2,g3,g4⟩:=h.ownN q hq
   exact⟨.inl g1,.inl g2,g3,g4⟩
 ·intro c hc
  rcases hc with g | rfl | rfl
  ·have:=h.ownL c g;have:=hx1.size;have:=k.size;omega
  ·have:=hB.lt;have:=k.size;omega
  ·have:=hm.lt;have:=k.size;omega
 ·intro q z hq
  rcases List.mem_cons.1 hq with e | hq
  ·rw[(snoc_inj e).1];exact List.mem_cons_of_mem _ hp
  ·exact List.mem_cons_of_mem _ (h.pre q z hq)
end Go.Proofs.YtbiilejgfihohaaGreat.Tr
namespace Go.Proofs.YtbiilejgfihohaaGreat.Tr
open Go Go.Cu Go.RowKit
theorem Mem.grow{w:World}{own vown own2 vown2:Nat→Prop}{tb:Nat}{lim n clock:Int}{ns:List Path}{y:Lay}(h:Mem w own vown tb lim n clock ns y)(h1:∀b,own b→own2 b)(h2:∀b,vown b→vown2 b)(h3:∀b,vown2 b→own2 b)(h4:∀b,own2 b→b<w.heap.size)
  (h5:∀b,vown2 b→vown b∨¬own b):Mem w own2 vown2 tb lim n clock ns y:=
 {h with
  vals:=fun p hp hh=>(h.vals p hp hh).weak h2
  ownN:=fun p hp=>by
   obtain⟨a,b,c,d⟩:=h.ownN p hp
   exact⟨h1 _ a,h1 _ b,fun e=>(h5 _ e).elim c (fun g=>g a),fun e=>(h5 _ e).elim d (fun g=>g b)⟩
  ownT:=⟨h1 _ h.ownT.1,fun e=>(h5 _ e).elim h.ownT.2 (fun g=>g h.ownT.1)⟩
  ownV:=h3
  ownL:=h4 }
theorem put_set{R:Ending→World→Prop}{w:World}{own vown F:Nat→Prop}{tb:Nat}{lim n clock:Int}{ns:List Path}{y:Lay}{p:Path}{s:Sl}{v:List (List Int)}(h:Mem w own vown tb lim n clock ns y)(hp:p∈ns)(h0:0≤clock)(hc:clock<9223372036854775807)
  (hv:Nest b8 F w s v) (hl:RowsLe v)
  (hR:∀own2 vown2 s2 w2,(∀b,own b→own2 b)→(∀b,own2 b→own b∨w.heap.size≤b)→Mem w2 own2 vown2 tb lim n (clock+1) ns { y with here:=upd y.here p true,val:=upd y.val p s2,rows:=upd y.rows p v,used:=upd y.used p (clock+1) }→Mo own w w2→R (.returned (.int .i64 0)) w2):
  trie_Trie_Put.j3 R (some ⟨tb,0,none⟩) s (ndP y p) w:=by
 unfold trie_Trie_Put.j3
 refine Calls.mono (copied_nest s v F w hv hl) ?_
 rintro en w1 ⟨s2,rfl,hn,hx1⟩
 refine⟨s2,rfl,?_⟩
 have hm1:Mem w1 (fun b=>own b∨(w.heap.size≤b∧b<w1.heap.size)) (fun b=>vown b∨(w.heap.size≤b∧b<w1.heap.size)) tb lim n clock ns y:=by
  refine(h.ex hx1).grow (fun b=>.inl) (fun b=>.inl) (fun b hb=>hb.elim (fun g=>.inl (h.ownV b g)) .inr) (fun b hb=>hb.elim (fun g=>Nat.lt_of_lt_of_le (h.ownL b g) hx1.size) (fun g=>g.2)) (fun b hb=>hb.elim .inl (fun g=>.inr (fun e=>?_)))
  have:=h.ownL b e
  omega
 have hB1:=hm1.node p hp
 refine agZ ?_
 refine awZ (v:=.bool true) hB1 (by kernel_rfl) (by simp[Value.cells,Value.oneCell']) (Nat.le_of_ble_eq_true (by kernel_rfl)) fun w2 hB2 hmo2=>?_
 refine agZ ?_
 refine awZ (v:=slv s2) hB2 (by kernel_rfl) (by simp[Value.cells,Value.oneCell']) (Nat.le_of_ble_eq_true (by kernel_rfl)) fun w3 hB3 hmo3=>?_
 have hmo13:Mo (fun b=>b=y.nd p) w1 w3:=hmo2.trans hmo3 (fun _=>id) (fun _ _=>id)
 have hB3':Has w3 (y.nd p) [.map (some (y.mp p)),.bool true,slv s2,.int .i64 (y.used p)] 123:=hB3
 have hm3:Mem w3 (fun b=>own b∨(w.heap.size≤b∧b<w1.heap.size)) (fun b=>vown b∨(w.heap.size≤b∧b<w1.heap.size)) tb lim n clock ns { y with here:=upd y.here p true,val:=upd y.val p s2,rows:=upd y.rows p v }:=by
  refine hm1.node_set hp hmo13 rfl rfl ?_ (fun q hq=>⟨apZ _ _ hq,apZ _ _ hq,apZ _ _ hq,rfl⟩) (fun _=>?_)
  ·show Has w3 (y.nd p) [.map (some (y.mp p)),.bool (upd y.here p true p),slv (upd y.val p s2 p),.int .i64 (y.used p)] _
   rw[axZ,axZ];exact hB3'
  ·show Nest b8 _ w3 (upd y.val p s2 p) (upd y.rows p v p)
   rw[axZ,axZ]
   exact(hn.nest.weak (fun b hb=>.inr hb)).mo hmo13 (fun b hb e=>(hm1.ownN p hp).2.2.1 (by rw[←(show b=y.nd p from e)];exact hb))
 have hu:=use_ok hm3 hp h0 hc
 refine Calls.mono hu ?_
 rintro en w4 ⟨rfl,hm4,hmo4⟩
 refine⟨(),rfl,?_⟩
 refine hR _ _ s2 w4 (fun b=>.inl) (fun b hb=>hb.elim .inl (fun g=>.inr g.1)) hm4 ?_
 have k1:Mo own w w3:=hx1.mo (hmo13.weak (Y:=own) (fun b _ hb=>by rw[hb];exact(h.ownN p hp).1))
 exact k1.trans hmo4 (fun _=>id) (fun b hb hh=>hh.elim id (fun g=>absurd g.1 (by omega)))
structure Grown(l:Path)(i:Nat)(ns:List Path)(y:Lay)(ns2:List Path)(y2:Lay):Prop where
 mem:∀q,q∈ns2↔q∈ns∨(q <+:l∧q.length≤i)
 nodup:ns.Nodup→ns2.Nodup
 old:∀q∈ns,y2.here q=y.here q∧y2.rows q=y.rows q∧y2.used q=y.used q
 new:∀q∈ns2,q∉ns→y2.here q=false∧y2.used q=0
theorem Grown.here{l:Path}{i:Nat}{ns ns2:List Path}{y y2:Lay}(g:Grown l i ns y ns2 y2)(hs:i+1≤l.length)(hin:l.take (i+1)∈ns2):Grown l (i+1) ns y ns2 y2:=by
 refine { g with mem:=fun q=>?_ }
 rw[g.mem]
 constructor
 ·rintro(h | ⟨h1,h2⟩)
  ·exact .inl h
  ·exact .inr ⟨h1,by omega⟩
 ·rintro(h | ⟨h1,h2⟩)
  ·exact .inl h
  ·by_cases h3:q.length≤i
   ·exact .inr ⟨h1,h3⟩
   ·have e:q=l.take (i+1):=by
     have:=List.prefix_iff_eq_take.1 h1
     rw[this];congr 1;omega
    rw[←e]at hin
    exact(g.mem q).1 hin
theorem Grown.add{l:Path}{i b m:Nat}{ns ns2:List Path}{y y2:Lay}(g:Grown l i ns y ns2 y2)(hs:i+1≤l.length)(hin:l.take (i+1)∉ns2):Grown l (i+1) ns y (l.take (i+1)::ns2) (addLay y2 (l.take (i+1)) b m):=by
 have hne:∀q∈ns2,q≠l.take (i+1):=fun q hq e=>hin (e▸hq)
 have hold:∀q∈ns,q∈ns2:=fun q hq=>(g.mem q).2 (.inl hq)
 refine { mem:=fun q=>?_,nodup:=fun hn=>List.nodup_cons.2 ⟨hin,g.nodup hn⟩,old:=fun q hq=>?_,new:=fun q hq hqn=>?_ }
 ·rw[List.mem_cons,g.mem]
  constructor
  ·rintro(rfl | h | ⟨h1,h2⟩)
   ·exact .inr ⟨List.take_prefix _ _,by rw[List.length_take];omega⟩
   ·exact .inl h
   ·exact .inr ⟨h1,by omega⟩
  ·rintro(h | ⟨h1,h2⟩)
   ·exact .inr (.inl h)
   ·by_cases h3:q.length≤i
    ·exact .inr (.inr ⟨h1,h3⟩)
    ·left
     have:=List.prefix_iff_eq_take.1 h1
     rw[this];congr 1;omega
 ·have h:=hne q (hold q hq)
  show upd y2.here _ false q=_∧upd y2.rows _ [] q=_∧upd y2.used _ 0 q=_
  rw[apZ _ _ h,apZ _ _ h,apZ _ _ h]
  exact g.old q hq
 ·show upd y2.here _ false q=_∧upd y2.used _ 0 q=_
  rcases List.mem_cons.1 hq with rfl | hq
  ·rw[axZ,axZ];exact⟨rfl,rfl⟩
  ·rw[apZ _ _ (hne q hq),apZ _ _ (hne q hq)]
   exact g.new q hq hqn
theorem put_walk{R:Ending→World→Prop}{w:World}{own vown F:Nat→Prop}{tb:Nat}{lim n clock:Int}{ns:List Path}{y:Lay}{l:Path}{s vs:Sl}{v:List (List Int)}(h:Mem w own vown tb lim n clock ns y)(h0:0≤clock)(hc:clock<9223372036854775807)
  (hr:Rds i64v w s l) (hs:∀a,s.base=some a→¬own a.block) (hll:l.length≤9223372036854775806) (hn0:0≤n) (hn1:n≤1024)
  (hv:Nest b8 F w vs v) (hF:∀b,F b→¬own b) (hl:RowsLe v)
  (hR:∀own2 vown2 s2 w2 ns2 y2,(∀b,own b→own2 b)→(∀b,own2 b→own b∨w.heap.size≤b)→Grown l l.length ns y ns2 y2→Mem w2 own2 vown2 tb lim (if y2.here l=true then n else n+1) (clock+1) ns2 { y2 with here:=upd y2.here l true,val:=upd y2.val l s2,rows:=upd y2.rows l v,used:=upd y2.used l (clock+1) }→Mo own w w2→R (.returned (.int .i64 0)) w2):
  trie_Trie_Put.j1 R (some ⟨tb,0,none⟩) s vs w:=by
 unfold trie_Trie_Put.j1
 refine agZ ?_
 refine ajZ h.top (by kernel_rfl) rfl ?_
 unfold trie_Trie_Put.l1
 rw[hr.1]
 refine acZ (fun st w'=>st.1=some ⟨tb,0,none⟩∧st.2.1=vs∧st.2.2.2.1=s∧st.2.2.2.2.1=(l.length:Int)∧∃i:Nat,i≤l.length∧st.2.2.2.2.2.1=(i:Int)∧∃own2 ns2 y2,(∀b,own b→own2 b)∧(∀b,own2 b→own b∨w.heap.size≤b)∧Grown l i ns y ns2 y2∧Mem w' own2 vown tb lim n clock ns2 y2∧Mo own w w'∧st.2.2.1=ndP y2 (l.take i)) (fun st _=>l.length-st.2.2.2.2.2.1.toNat) ?_
  ⟨rfl,rfl,rfl,rfl,0,Nat.zero_le _,rfl,own,ns,y,fun _=>id,fun _=>.inl,⟨fun q=>⟨.inl,fun g=>g.elim id (fun g=>?_)⟩,id,fun q _=>⟨rfl,rfl,rfl⟩,fun q hq hn=>absurd hq hn⟩,h,Mo.refl _ _,rfl⟩
 ·rintro k ⟨t',vs',p',s',n',i',u⟩ w' hI hk
  dsimp only at hI hk ⊢
  obtain⟨rfl,rfl,rfl,rfl,i,hi,rfl,own2,ns2,y2,ho1,ho2,hg,hm,hmo,rfl⟩:=hI
  unfold trie_Trie_Put.b1
  have hin:l.take i∈ns2:=(hg.mem _).2 (.inr ⟨List.take_prefix _ _,by rw[List.length_take];omega⟩)
  have hnode:=hm.node _ hin
  refine abZ (fun hlt=>?_) (fun hge=>?_)
  ·refine Pu_idx (hr.mo hmo hs) tI sI (by omega) (by omega) fun a x hx1 hc1 _=>?_
   refine bwZ (c:=.int .i64) (x:=x) oI hc1 ?_
   rw[Int.toNat_natCast]at hx1
   refine agZ ?_
   refine ajZ (c:=.map) (x:=some (y2.mp (l.take i))) hnode (by kernel_rfl) rfl ?_
   obtain⟨kl,hmap,hkids,hget⟩:=hm.child (x:=x) hin
   have htk:l.take i++[x]=l.take (i+1):=by rw[List.take_add_one,hx1];rfl
   refine Rd_lookup tMap uInt zN hmap hget ?_
   refine aCZ tN ?_
   by_cases hnx:l.take i++[x]∈ns2
   ·rw[if_pos hnx]
    refine aAZ ?_
    unfold trie_Trie_Put.j2
    rw[adZ (x:=(i:Int)+1) (by omega) (by omega)]
    rw[htk]at hnx ⊢
    exact hk _ _ ⟨rfl,rfl,rfl,rfl,i+1,by omega,by simp,own2,ns2,y2,ho1,ho2,hg.here (by omega) hnx,hm,hmo,rfl⟩ (by simp only;omega)
   ·rw[if_neg hnx]
    refine Cd_t ?_
    refine Calls.mono (fresh_ok w') ?_
    rintro en w1 ⟨m,b,rfl,hB,hmb,hb1,hm1,hml,hx1'⟩
    refine⟨some ⟨b,0,none⟩,rfl,?_⟩
    refine agZ ?_
    refine ajZ (c:=.map) (x:=some (y2.mp (l.take i))) (hnode.ex hx1') (by kernel_rfl) rfl ?_
    refine Wu_update tMap uInt (hmap.ex hx1') fun w2 hm2 hmo2=>?_
    have hadd:=hm.add hin hnx hx1' hB hmb hb1 hm1 (hmap.ex hx1') hkids hmo2 hm2
    unfold trie_Trie_Put.j2
    rw[adZ (x:=(i:Int)+1) (by omega) (by omega)]
    rw[htk]at hnx hadd
    refine hk _ _ ⟨rfl,rfl,rfl,rfl,i+1,by omega,by simp,_,_,_,fun c hc=>.inl (ho1 c hc),?_,hg.add (by omega) hnx,hadd,?_,?_⟩ (by simp only;omega)
    ·rintro c (hc | rfl | rfl)
     ·exact ho2 c hc
     ·have:=hmo.size;right;omega
     ·have:=hmo.size;right;omega
    ·refine hmo.trans (hx1'.mo hmo2) (fun _=>id) (fun c hc e=>?_)
     have e:c=y2.mp (l.take i):=e
     rcases ho2 _ (hm.ownN _ hin).2.1 with g | g
     ·rw[e];exact g
     ·omega
    ·show some _=some _
     congr 2
     exact(axZ _ _ _).symm
  ·have:i=l.length:=by omega
   subst this
   rw[List.take_length]at hin hnode ⊢
   have hF2:=hv.mo hmo hF
   refine agZ ?_
   refine ajZ (c:=.bool) (x:=y2.here l) hnode (by kernel_rfl) rfl ?_
   refine Cd_not (fun hf=>?_) (fun ht=>?_)
   ·refine agZ ?_
    refine ajZ hm.top (by kernel_rfl) rfl ?_
    refine agZ ?_
    rw[adZ (x:=n+1) (by omega) (by omega)]
    refine awZ (v:=.int .i64 (n+1)) hm.top sI (by simp[Value.cells,Value.oneCell']) (Nat.le_of_ble_eq_true (by kernel_rfl)) fun w4 hB4 hmo4=>?_
    have hm4:=hm.top_set (n':=n+1) (clock':=clock) hB4 hmo4
    have hmo5:Mo own w w4:=hmo.trans hmo4 (fun _=>id) (fun b _ hb=>by rw[hb];exact h.ownT.1)
    refine put_set hm4 hin h0 hc (hv.mo hmo5 hF) hl fun own3 vown3 s2 w2 e1 e2 e3 e4=>?_
    refine hR own3 vown3 s2 w2 ns2 y2 (fun b hb=>e1 b (ho1 b hb)) (fun b hb=>(e2 b hb).elim (ho2 b) (fun g=>.inr (Nat.le_trans hmo5.size g))) hg (by rw[if_neg (by rw[hf];simp)];exact e3) ?_
    exact hmo5.trans e4 (fun _=>id) (fun b hb g=>(ho2 b g).elim id (fun g=>absurd g (by omega)))
   ·refine put_set hm hin h0 hc hF2 hl fun own3 vown3 s2 w2 e1 e2 e3 e4=>?_
    refine hR own3 vown3 s2 w2 ns2 y2 (fun b hb=>e1 b (ho1 b hb)) (fun b hb=>(e2 b hb).elim (ho2 b) (fun g=>.inr (Nat.le_trans hmo.size g))) hg (by rw[if_pos ht];exact e3) ?_
    exact hmo.trans e4 (fun _=>id) (fun b hb g=>(ho2 b g).elim id (fun g=>absurd g (by omega)))
 ·have:q=[]:=List.eq_nil_of_length_eq_zero (by omega)
  rw[this];exact h.root
end Go.Proofs.YtbiilejgfihohaaGreat.Tr
namespace Go.Proofs.YtbiilejgfihohaaGreat.Tr
open Go Go.Cu Go.RowKit
theorem Ents.put{es:List Ent}{ns ns2:List Path}{y y2:Lay}{lim clock:Int}{l:Path}{s2:Sl}{v:List (List Int)}(h:Ents es ns y lim clock)(g:Grown l l.length ns y ns2 y2)(hg:goodB l=true)(hv:RowsLe v)(hroom:((without es l).length:Int)+1≤lim):
  Ents ((l,v)::without es l) ns2 { y2 with here:=upd y2.here l true,val:=upd y2.val l s2,rows:=upd y2.rows l v,used:=upd y2.used l (clock+1) } lim (clock+1):=by
 have hl:l∈ns2:=(g.mem l).2 (.inr ⟨List.prefix_refl l,Nat.le_refl _⟩)
 have hw:∀e∈without es l,e∈es∧e.1≠l:=fun e he=>mem_without.1 he
 have hu:∀e∈without es l,upd y2.used l (clock+1) e.1=y.used e.1:=fun e he=>by
  rw[apZ _ _ (hw e he).2];exact(g.old _ (h.rows e (hw e he).1).1).2.2
 have hc0:=h.clk0
 refine { here:=fun p hp=>?_,rows:=fun e he=>?_,le:=fun e he=>?_,nodup:=?_,order:=?_,clk:=fun e he=>?_,clk0:=by omega,pos:=fun e he=>?_,clean:=fun p hp=>?_,good:=fun e he=>?_,uniq:=g.nodup h.uniq,room:=?_,lim1:=h.lim1,lim2:=h.lim2 }
 ·show upd y2.here l true p=true↔_
  by_cases hpl:p=l
  ·subst hpl
   rw[axZ]
   exact⟨fun _=>⟨(p,v),List.mem_cons_self,rfl⟩,fun _=>rfl⟩
  ·rw[apZ _ _ hpl]
   by_cases hpn:p∈ns
   ·rw[(g.old p hpn).1,h.here p hpn]
    constructor
    ·rintro⟨e,he,rfl⟩;exact⟨e,List.mem_cons_of_mem _ (mem_without.2 ⟨he,hpl⟩),rfl⟩
    ·rintro⟨e,he,rfl⟩
     rcases List.mem_cons.1 he with rfl | he
     ·exact absurd rfl hpl
     ·exact⟨e,(hw e he).1,rfl⟩
   ·rw[(g.new p hp hpn).1]
    refine⟨fun h=>(by cases h),?_⟩
    rintro⟨e,he,rfl⟩
    rcases List.mem_cons.1 he with rfl | he
    ·exact absurd rfl hpl
    ·exact absurd (h.rows e (hw e he).1).1 hpn
 ·show e.1∈ns2∧upd y2.rows l v e.1=e.2
  rcases List.mem_cons.1 he with rfl | he
  ·exact⟨hl,axZ _ _ _⟩
  ·have:=h.rows e (hw e he).1
   rw[apZ _ _ (hw e he).2,(g.old _ this.1).2.1]
   exact⟨(g.mem _).2 (.inl this.1),this.2⟩
 ·rcases List.mem_cons.1 he with rfl | he
  ·exact hv
  ·exact h.le e (hw e he).1
 ·rw[List.map_cons,List.nodup_cons]
  refine⟨fun hm=>?_,without_nodup h.nodup⟩
  obtain⟨e,he,hel⟩:=List.mem_map.1 hm
  exact(hw e he).2 hel
 ·rw[List.pairwise_cons]
  constructor
  ·intro e he
   show upd y2.used l (clock+1) e.1<upd y2.used l (clock+1) l
   rw[hu e he,axZ]
   have:=h.clk e (hw e he).1
   omega
  ·refine List.Pairwise.imp_of_mem ?_ (h.order.sublist (List.filter_sublist:(without es l).Sublist es))
   intro a b ha hb hab
   show upd y2.used l (clock+1) b.1<upd y2.used l (clock+1) a.1
   rw[hu a ha,hu b hb];exact hab
 ·show upd y2.used l (clock+1) e.1≤clock+1
  rcases List.mem_cons.1 he with rfl | he
  ·rw[axZ];omega
  ·rw[hu e he];have:=h.clk e (hw e he).1;omega
 ·show 0≤upd y2.used l (clock+1) e.1
  rcases List.mem_cons.1 he with rfl | he
  ·rw[axZ];omega
  ·rw[hu e he];exact h.pos e (hw e he).1
 ·rcases(g.mem p).1 hp with hpn | ⟨hpl,_⟩
  ·rcases h.clean p hpn with h0 | ⟨e,he,hpe⟩
   ·exact .inl h0
   ·right
    by_cases hel:e.1=l
    ·exact⟨(l,v),List.mem_cons_self,by rw[←hel];exact hpe⟩
    ·exact⟨e,List.mem_cons_of_mem _ (mem_without.2 ⟨he,hel⟩),hpe⟩
  ·exact .inr ⟨(l,v),List.mem_cons_self,hpl⟩
 ·rcases List.mem_cons.1 he with rfl | he
  ·exact hg
  ·exact h.good e (hw e he).1
 ·rw[List.length_cons];omega
theorem without_last:∀{es:List Ent} (hne:es≠[]),(es.map (·.1)).Nodup→without es (es.getLast hne).1=es.dropLast
 | [e],_,_=>by unfold without;simp
 | e::f::es,hne,hn=>by
  rw[List.map_cons,List.nodup_cons]at hn
  have ih:=without_last (es:=f::es) (by simp) hn.2
  have hne2:e.1≠((f::es).getLast (by simp)).1:=fun h=>hn.1 (List.mem_map.2 ⟨_,List.getLast_mem _,h.symm⟩)
  rw[List.getLast_cons (by simp),List.dropLast_cons_of_ne_nil (by simp),←ih]
  unfold without
  rw[List.filter_cons_of_pos (by simpa using hne2)]
def putE(es:List Ent)(lim:Int)(l:Path)(v:List (List Int)):List Ent:=((l,v)::without es l).take lim.toNat
theorem put_rest{w:World}{own own' F:Nat→Prop}{tb:Nat}{lim clock:Int}{es es':List Ent}{w1:World}{l:Path}{s vs:Sl}{v:List (List Int)}(h:TrieSt w1 own tb lim es' clock)(hmo:Mo own w w1)(hc:clock<4611686018427387904)(hg:goodB l=true)
  (hr:Rds i64v w s l) (hs:∀a,s.base=some a→¬own a.block) (hv:Nest b8 F w vs v) (hF:∀b,F b→¬own b) (hl:RowsLe v) (hroom:((without es' l).length:Int)+1≤lim) (he:(l,v)::without es' l=putE es lim l v) (R:Ending→World→Prop)
  (hR:∀w2 own2,(∀b,own b→own2 b)→(∀b,own2 b→own b∨w.heap.size≤b)→TrieSt w2 own2 tb lim (putE es lim l v) (clock+1)→Mo own w w2→R (.returned (.int .i64 0)) w2):
  trie_Trie_Put.j1 R (some ⟨tb,0,none⟩) s vs w1:=by
 obtain⟨vown,ns,y,hm,hen⟩:=h
 have h0:=hen.clk0
 have hr1:=hen.room
 have hr2:=hen.lim2
 have hl6:=good_len hg
 refine put_walk hm h0 (by omega) (hr.mo hmo hs) hs (by omega) (by omega) (by omega) (hv.mo hmo hF) hF hl fun own2 vown2 s2 w2 ns2 y2 e1 e2 g e4 e5=>?_
 refine hR w2 own2 e1 (fun b hb=>(e2 b hb).elim .inl (fun g=>.inr (Nat.le_trans hmo.size g))) ?_ (hmo.trans e5 (fun _=>id) (fun _ _=>id))
 rw[←he]
 refine⟨vown2,ns2,_,?_,hen.put (s2:=s2) g hg hl hroom⟩
 have hlen:(if y2.here l=true then (es'.length:Int) else (es'.length:Int)+1)=(((l,v)::without es' l).length:Int):=by
  rw[List.length_cons]
  by_cases hin:l∈ns∧y.here l=true
  ·rw[if_pos (by rw[(g.old l hin.1).1];exact hin.2)]
   have:=without_length hen.nodup (hen.held hin)
   omega
  ·rw[bDZ (hen.unheld hin),if_neg ?_]
   ·omega
   ·intro hh
    by_cases hn:l∈ns
    ·rw[(g.old l hn).1]at hh;exact hin ⟨hn,hh⟩
    ·rw[(g.new l ((g.mem l).2 (.inr ⟨List.prefix_refl l,Nat.le_refl _⟩)) hn).1]at hh;cases hh
 rw[←hlen];exact e4
theorem put_ok{w:World}{own F:Nat→Prop}{tb:Nat}{lim clock:Int}{es:List Ent}(h:TrieSt w own tb lim es clock)(hc:clock<4611686018427387904)(s vs:Sl)(l:Path)(v:List (List Int))(hr:Rds i64v w s l)(hll:l.length≤9223372036854775806)(hs:∀a,s.base=some a→¬own a.block)
  (hv:Nest b8 F w vs v) (hF:∀b,F b→¬own b) (hl:RowsLe v):
  Calls Tryz.prog 44 #[.pointer (some ⟨tb,0,none⟩),slv s,slv vs] w fun en w'=>
   (goodB l=false∧en=.returned (.int .i64 120)∧Ex w w')∨
   (goodB l=true∧en=.returned (.int .i64 0)∧∃own2,(∀b,own b→own2 b)∧(∀b,own2 b→own b∨w.heap.size≤b)∧TrieSt w' own2 tb lim (putE es lim l v) (clock+1)∧Mo own w w'):=by
 have hst:=h
 obtain⟨vown,ns,y,hm,he⟩:=h
 refine trie_Trie_Put.run _ _ s vs w ?_
 unfold trie_Trie_Put.M
 refine aCZ tT ?_
 refine aAZ ?_
 refine auZ (isKey_gv s l w hr hll) fun w1 hx1=>?_
 refine Cd_not (fun hk=>.inl ⟨hk,rfl,hx1⟩) (fun hk=>?_)
 refine agZ ?_
 have hm1:=hm.ex hx1
 refine ajZ hm1.top (by kernel_rfl) rfl ?_
 refine aCZ tN ?_
 refine aAZ ?_
 have hxd:=hx1.trans (Ex.drew w1)
 have hmd:=hm.ex hxd
 refine Held_ex ?_
 refine Cl_gvp (holder_gv hmd he.goodN s l (hr.ex hxd) hll) fun w2 hx2=>⟨hx2,?_⟩
 have hx02:=hxd.trans hx2
 have k02:Mo own w w2:=hx02.weak (fun _ _ g=>g.elim)
 have hroom:=he.room
 have hlim:=he.lim1
 refine aCZ tN ?_
 by_cases hh:l∈ns∧y.here l=true
 ·rw[if_pos hh]
  refine aAZ ?_
  unfold trie_Trie_Put.j4
  refine aAZ ?_
  have hlen:=without_length he.nodup (he.held hh)
  refine put_rest (es:=es) (own':=own) (hst.ex hx02) k02 hc hk hr hs hv hF hl (by omega) ?_ _ fun w3 own2 a1 a2 a3 a4=>.inr ⟨hk,rfl,own2,a1,a2,a3,a4⟩
  unfold putE
  rw[List.take_of_length_le (by rw[List.length_cons];omega)]
 ·rw[if_neg hh]
  refine Cd_t ?_
  have hno:=he.unheld hh
  refine agZ ?_
  refine akZ (c:=.int .i64) (x:=(es.length:Int)) (fun w' hS=>(hmd.ex hS).top) (by kernel_rfl) rfl ?_
  refine agZ ?_
  refine akZ (c:=.int .i64) (x:=lim) (fun w' hS=>(hmd.ex hS).top) (by kernel_rfl) rfl ?_
  unfold trie_Trie_Put.j4
  refine abZ (fun hfull=>?_) (fun hfree=>?_)
  ·have hne:es≠[]:=by rintro rfl;simp at hfull;omega
   have hpos:0<es.length:=List.length_pos_iff.2 hne
   have hl2:=he.lim2
   refine Calls.mono (recent_ok (hst.ex hx02) hc) ?_
   rintro en w3 ⟨s3,rfl,hn3,hx3⟩
   refine⟨s3,rfl,?_⟩
   have hx03:=hx02.trans hx3
   have hlen3:=nest_len hn3.nest
   rw[List.length_map]at hlen3
   obtain⟨ss,r1,r2,r3,r4⟩:=hn3.nest
   rw[List.length_map]at r2
   dsimp only
   rw[adZ (x:=((s3.len:Nat):Int)-1) (by omega) (by omega)]
   refine Pu_idx r1 tII sII (by omega) (by omega) fun a x hx1' hc1 _=>?_
   refine bwZ (c:=.sl) (x:=x) oII hc1 ?_
   have hidx:((s3.len:Int)-1).toNat=es.length-1:=by omega
   rw[hidx]at hx1'
   have hlast:(es.map (·.1))[es.length-1]? =some (es.getLast hne).1:=by
    rw[List.getElem?_map,←List.getLast?_eq_getElem?,List.getLast?_eq_some_getLast hne];rfl
   obtain⟨q1,q2⟩:=r4 _ x _ hx1' hlast
   have hgl:=good_len (he.good _ (List.getLast_mem hne))
   refine Calls.mono (drop_ok (hst.ex hx03) x _ q1 (by omega) (fun a ha ho=>?_)) ?_
   ·have:=(q2 a ha).1
    have:=hm.ownL _ ho
    have:=hx02.size
    omega
   ·rintro en w4 (⟨hno2,_⟩ | ⟨v4,hin4,rfl,hst4,hmo4⟩)
    ·exact absurd rfl (hno2 _ (List.getLast_mem hne))
    ·refine⟨true,rfl,?_⟩
     rw[without_last hne he.nodup]at hst4
     have k04:Mo own w w4:=hx03.mo hmo4
     have hno4:∀e∈es.dropLast,e.1≠l:=fun e he=>hno e (List.dropLast_subset _ he)
     have hw4:=bDZ hno4
     refine put_rest (es:=es) (own':=own) hst4 k04 hc hk hr hs hv hF hl (by rw[hw4,List.length_dropLast];omega) ?_ _ fun w5 own2 a1 a2 a3 a4=>.inr ⟨hk,rfl,own2,a1,a2,a3,a4⟩
     unfold putE
     rw[hw4,bDZ hno]
     have:lim.toNat=(es.length-1)+1:=by omega
     rw[this,List.take_succ_cons,List.dropLast_eq_take]
  ·refine put_rest (es:=es) (own':=own) (hst.ex hx02) k02 hc hk hr hs hv hF hl (by rw[bDZ hno];omega) ?_ _ fun w3 own2 a1 a2 a3 a4=>.inr ⟨hk,rfl,own2,a1,a2,a3,a4⟩
   unfold putE
   rw[List.take_of_length_le (by rw[List.length_cons,bDZ hno];omega)]
end Go.Proofs.YtbiilejgfihohaaGreat.Tr
