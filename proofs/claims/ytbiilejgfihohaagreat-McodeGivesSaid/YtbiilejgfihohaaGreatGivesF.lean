/- A part of what the last text of this claim leans on. -/
import Derived.Test.YtbiilejgfihohaaGreatGivesE
import Derived.Test.YtbiilejgfihohaaGreatProg
set_option linter.all false
set_option maxHeartbeats 4000000
set_option maxRecDepth 100000
set_option autoImplicit false
namespace Go.Proofs.YtbiilejgfihohaaGreat
open Go Go.Cu Go.RowKit
abbrev keyI(L:List Nat):List Int:=L.map fun(n:Nat)=>((n:Nat):Int)
theorem keyI_inj:∀{L L':List Nat},keyI L=keyI L'→L=L'
 | [],[],_=>rfl
 | [],_::_,h=>by cases h
 | _::_,[],h=>by cases h
 | a::L,b::L',h=>by
  simp only[keyI,List.map_cons,List.cons.injEq]at h
  rw[keyI_inj (L:=L) (L':=L') h.2,show a=b by omega]
theorem rds_keyI{w:World}{s:Sl}{L:List Nat}(h:Rds aOZ w s L):Rds i64v w s (keyI L):=by
 refine⟨by rw[h.1,List.length_map],h.2.1,fun i x hi=>?_⟩
 rw[List.getElem?_map]at hi
 cases hl:L[i]? with
 | none=>rw[hl]at hi;cases hi
 | some y=>
  rw[hl]at hi
  cases hi
  exact h.2.2 i y hl
theorem map_ints(r:List F8):(r.map (fun x=>(x.toNat:Int))).map b8=r.map f8v:=by rw[List.map_map];rfl
theorem intsM_at{D:Mtx}{i:Nat}{r:List F8}(h:D[i]? =some r):(intsM D)[i]? =some (r.map (fun x=>(x.toNat:Int))):=by unfold intsM;rw[List.getElem?_map,h];rfl
theorem own_f8{e:TypeId}{b:Nat}{w:World}{s:Sl}{r:List F8}:Own b8 e b w s (r.map (fun x=>(x.toNat:Int)))↔Own f8v e b w s r:=by
 unfold Own
 rw[map_ints,List.length_map]
theorem rds_f8{w:World}{s:Sl}{r:List F8}(h:Rds f8v w s r):Rds b8 w s (r.map (fun x=>(x.toNat:Int))):=by
 refine⟨by rw[h.1,List.length_map],h.2.1,fun i x hi=>?_⟩
 rw[List.getElem?_map]at hi
 cases hl:r[i]? with
 | none=>rw[hl]at hi;cases hi
 | some y=>
  rw[hl]at hi
  cases hi
  exact h.2.2 i y hl
theorem Sep.get2{W0 w:World}{T:Ths}{k:Ky}{t:Th}(h:Sep W0 w T)(hk:T k=t):∃F:Nat→Prop,t.h w F∧(∀b,F b→W0.heap.size≤b∧b<w.heap.size)∧
  ∀(w':World) (q:Ky) (t' u:Th) (H:Nat→Prop),k≠q→Mo F w w'→t'.h w' F→u.h w' H→(∀b,H b→w.heap.size≤b∧b<w'.heap.size)→Sep W0 w' ((T.up k t').up q u):=by
 obtain⟨hmo,F,h1,h2,h3⟩:=h
 refine⟨F k,hk▸h1 k,h2 k,fun w' q t' u H hkq hG2 hG1 hu hH=>⟨Mo.trans hmo hG2 (fun _=>id) (fun i _ hi=>(h2 k i hi).1),fun j=>if j=q then H else F j,fun j=>?_,fun j b hb=>?_,fun a j b haj ha hj=>?_⟩⟩
 ·unfold Ths.up
  dsimp only
  by_cases e:j=q
  ·rw[if_pos e,if_pos e];exact hu
  ·rw[if_neg e,if_neg e]
   by_cases e2:j=k
   ·rw[if_pos e2,e2];exact hG1
   ·rw[if_neg e2];exact(T j).fr (h1 j) hG2 (fun b hb hb'=>h3 j k b e2 hb hb')
 ·dsimp only at hb
  by_cases e:j=q
  ·rw[if_pos e]at hb
   have:=hH b hb
   exact⟨Nat.le_trans hmo.size this.1,this.2⟩
  ·rw[if_neg e]at hb
   have:=h2 j b hb
   exact⟨this.1,Nat.lt_of_lt_of_le this.2 hG2.size⟩
 ·dsimp only at ha hj
  by_cases e:a=q
  ·rw[if_pos e]at ha
   rw[if_neg (fun e'=>haj (e.trans e'.symm))]at hj
   have h5:=(hH b ha).1
   have:=(h2 j b hj).2
   omega
  ·rw[if_neg e]at ha
   by_cases e1:j=q
   ·rw[if_pos e1]at hj
    have h5:=(hH b hj).1
    have:=(h2 a b ha).2
    omega
   ·rw[if_neg e1]at hj
    exact h3 a j b haj ha hj
theorem frontE_mem{es:List Tr.Ent}{l:Tr.Path}{v:List (List Int)}(h:(l,v)∈es):∀e∈Tr.frontE es l v,e∈es:=by
 intro e he
 unfold Tr.frontE at he
 rcases List.mem_cons.1 he with rfl | h'
 ·exact h
 ·exact(Tr.mem_without.1 h').1
theorem putE_mem{es:List Tr.Ent}{l:Tr.Path}{v:List (List Int)}:∀e∈Tr.putE es 16 l v,e=(l,v)∨e∈es:=by
 intro e he
 unfold Tr.putE at he
 rcases List.mem_cons.1 (List.mem_of_mem_take he) with rfl | h'
 ·exact .inl rfl
 ·exact .inr (Tr.mem_without.1 h').1
def UseK(es es':List Tr.Ent)(L:List Nat):Prop:=es'.map (·.1)=(keyI L::(es.map (·.1)).filter (fun x=>decide (x≠keyI L))).take 16
theorem UseK.one{es es':List Tr.Ent}{L:List Nat}(h:UseK es es' L)(he:es=[]):es'.length=1:=by
 unfold UseK at h
 subst he
 have:=congrArg List.length h
 simpa using this
theorem without_keys(es:List Tr.Ent)(l:Tr.Path):(Tr.without es l).map (·.1)=(es.map (·.1)).filter (fun x=>decide (x≠l)):=by
 induction es with
 | nil=>rfl
 | cons e es ih=>
  unfold Tr.without at ih ⊢
  rw[List.filter_cons,List.map_cons,List.filter_cons]
  split
  ·rename_i h
   rw[List.map_cons,ih]
  ·rename_i h
   rw[ih]
theorem put_use(es:List Tr.Ent)(L:List Nat)(v:List (List Int)):UseK es (Tr.putE es 16 (keyI L) v) L:=by
 unfold UseK Tr.putE
 rw[List.map_take,List.map_cons,without_keys]
 rfl
theorem front_use{w:World}{F:Nat→Prop}{tb:Nat}{es:List Tr.Ent}{clock:Int}{L:List Nat}{v:List (List Int)}(ht:Tr.TrieSt w F tb 16 es clock)(hm:(keyI L,v)∈es):UseK es (Tr.frontE es (keyI L) v) L:=by
 obtain⟨_,_,_,_,hen⟩:=ht
 have h1:=hen.room
 have h2:=Tr.without_length hen.nodup hm
 unfold UseK Tr.frontE
 rw[List.map_cons,without_keys,List.take_of_length_le]
 rw[List.length_cons,←without_keys,List.length_map]
 omega
theorem cget_ok{W0 w:World}{T:Ths}{kc kr:Ky}{tb k m:Nat}{Q:Mtx}{es:List Tr.Ent}{clock:Int}{s:Sl}{L:List Nat}(hS:Sep W0 w T)(hc:T kc=TriT tb es clock)(hkr:kc≠kr)(hes:∀e∈es,CachOk k m Q e)(hr:Rds aOZ w s L)(hl:L.length≤65536)(hcl:clock<4611686018427387904):
  Cl Tryz.prog 42 #[.pointer (at0 tb),.slice s.base s.len s.cap] (.tup [.at .sl,.at .bool]) (fun x w'=>(x=(⟨none,0,0⟩,false,())∧Ex w w'∧∀e∈es,e.1≠keyI L)∨
   ∃s' hs D es',x=(s',true,())∧decM k (gM k Q) ((aIZ (k+m) L).take k) L=some D∧Sep W0 w' ((T.up kc (TriT tb es' (clock+1))).up kr (ShT s' hs D))∧(∀e∈es',CachOk k m Q e)∧UseK es es' L) w:=by
 obtain⟨F,ht,hF,hcc⟩:=Sep.get2 hS hc
 have ht':Tr.TrieSt w F tb 16 es clock:=ht
 refine Cl_of (Tr.get_ok ht' s (keyI L) (rds_keyI hr) (by rw[List.length_map];omega) (by omega)) ?_
 rintro e w' (⟨h1,rfl,hx⟩ | ⟨v,hin,⟨s',rfl,hn⟩,hst,hmo⟩)
 ·exact⟨(⟨none,0,0⟩,false,()),rfl,.inl ⟨rfl,hx,h1⟩⟩
 ·obtain⟨L',D,e1,e2,e3⟩:=hes _ hin
  have:L=L':=keyI_inj e1
  subst this
  dsimp only at e3
  subst e3
  obtain⟨ss,ho,hlen,hrow,hap,hsep⟩:=hn
  have hlD:ss.length=D.length:=by rw[hlen];unfold intsM;rw[List.length_map]
  have hrow':∀(i:Nat) (g:Sl) (r:List F8),ss[i]? =some g→D[i]? =some r→Own f8v 5 w.heap.size w' g r:=fun i g r g1 g2=>own_f8.1 (hrow i g _ g1 (intsM_at g2))
  have hblk:∀(i:Nat) (g:Sl),ss[i]? =some g→∀b,SlIn g b→w.heap.size≤b∧b<w'.heap.size:=by
   intro i g hg b hb
   obtain⟨r,hr⟩:=atx (l:=D) (i:=i) (by have:=(List.getElem?_eq_some_iff.1 hg).1;omega)
   exact(hrow' i g r hg hr).base b hb
  refine⟨(s',true,()),rfl,.inr ⟨s',ss,D,Tr.frontE es (keyI L) (intsM D),rfl,e2,?_,fun e he=>hes e (frontE_mem hin e he),front_use ht' hin⟩⟩
  refine hcc w' kr (TriT tb (Tr.frontE es (keyI L) (intsM D)) (clock+1)) (ShT s' ss D) (fun b=>w.heap.size≤b∧b<w'.heap.size) hkr hmo hst ?_ (fun _ h=>h)
  exact⟨ho.weak (Nat.zero_le _),hlD,fun i g r g1 g2=>(hrow' i g r g1 g2).weak (Nat.zero_le _),fun i j g g' hne g1 g2 b hb=>hap i j g g' b g1 g2 hne hb,fun i g g1 b hb=>⟨hsep i g b g1 hb,hblk i g g1 b hb⟩,fun b hb=>ho.base b hb⟩
theorem good_num{n:Nat}{L:List Nat}(h:NumL n L)(hn:n≤256):Tr.goodB (keyI L)=true:=by
 have main:∀(l:List Nat) (p:Int),(∀x∈l,(x:Int)>p∧x<256)→(∀(i:Nat) (x y:Nat),l[i]? =some x→l[i+1]? =some y→x<y)→Tr.goodFrom p (keyI l)=true:=by
  intro l
  induction l with
  | nil=>intro p _ _;rfl
  | cons a l ih=>
   intro p h1 h2
   have ha:=h1 a (by simp)
   simp only[keyI,List.map_cons,Tr.goodFrom,Bool.and_eq_true,decide_eq_true_eq]
   refine⟨by first | exact⟨by omega,by omega⟩ | (refine⟨⟨?_,?_⟩,?_⟩ <;> omega),?_⟩
   refine ih (a:Int) (fun x hx=>⟨?_,(h1 x (by simp[hx])).2⟩) (fun i x y e1 e2=>h2 (i+1) x y (by simpa using e1) (by simpa using e2))
   have hN:NumL 256 (a::l):=⟨fun z hz=>(h1 z hz).2,h2⟩
   obtain⟨i,hi⟩:=List.mem_iff_getElem?.1 hx
   have:=hN.mono (i:=0) (j:=i+1) (by omega) (x:=a) (y:=x) rfl (by simpa using hi)
   omega
 exact main L (-1) (fun x hx=>⟨by omega,by have:=h.lt x hx;omega⟩) h.up
theorem cput_ok{W0 w:World}{T:Ths}{kc kr km:Ky}{tb k m:Nat}{Q D:Mtx}{es:List Tr.Ent}{clock:Int}{s sr:Sl}{hsr:List Sl}{L:List Nat}(hS:Sep W0 w T)(hc:T kc=TriT tb es clock)(hkr:kc≠kr)(hkm:kc≠km)(hr':T kr=ShT sr hsr D)
  (hmg:∀w F,(T km).h w F→Rds aOZ w s L∧∀b,SlIn s b→F b) (hes:∀e∈es,CachOk k m Q e) (hL:NumL (k+m) L) (hkm2:k+m≤256) (hD:decM k (gM k Q) ((aIZ (k+m) L).take k) L=some D) (hDs:D.length≤256∧∀r∈D,r.length≤256) (hcl:clock<4611686018427387904):
  Cl Tryz.prog 44 #[.pointer (at0 tb),.slice s.base s.len s.cap,.slice sr.base sr.len sr.cap] (.one (.at (.int .i64))) (fun x w'=>x=0∧∃es',Sep W0 w' (T.up kc (TriT tb es' (clock+1)))∧(∀e∈es',CachOk k m Q e)∧UseK es es' L) w:=by
 obtain⟨F1,G1,a1,a2,a3⟩:=hS.apart hkr
 obtain⟨hmo,Fa,f1,f2,f3⟩:=hS
 have hS':Sep W0 w T:=⟨hmo,Fa,f1,f2,f3⟩
 have ht:Tr.TrieSt w (Fa kc) tb 16 es clock:=by have:=f1 kc;rw[hc]at this;exact this
 have hsh:ShIn w (Fa kr) sr hsr D:=by have:=f1 kr;rw[hr']at this;exact this
 obtain⟨hrd,hrb⟩:=hmg w (Fa km) (f1 km)
 have hLl:=hL.len
 have hint:(intsM D).length=D.length:=by unfold intsM;rw[List.length_map]
 refine Cl_of (Tr.put_ok (F:=Fa kr) ht (by omega) s sr (keyI L) (intsM D) (rds_keyI hrd) (by rw[List.length_map];omega) (fun a ha hb=>f3 kc km a.block hkm hb (hrb _ (aYZ ha))) ?_ (fun b hb hb'=>f3 kc kr b hkr hb' hb) ?_) ?_
 ·refine⟨hsr,hsh.hdr.rds,by rw[hint];exact hsh.len,fun a ha=>hsh.own _ (aYZ ha),fun i g l g1 g2=>?_⟩
  obtain⟨r,hri⟩:=atx (l:=D) (i:=i) (by have:=(List.getElem?_eq_some_iff.1 g1).1;have:=hsh.len;omega)
  rw[intsM_at hri]at g2
  cases g2
  exact⟨rds_f8 (hsh.row i g r g1 hri).rds,fun a ha=>(hsh.apt i g g1 _ (aYZ ha)).2⟩
 ·refine⟨by rw[hint];omega,fun l hl=>?_⟩
  unfold intsM at hl
  obtain⟨r,hr,rfl⟩:=List.mem_map.1 hl
  rw[List.length_map]
  have:=hDs.2 r hr
  omega
 ·rintro e w' (⟨h1,_,_⟩ | ⟨_,rfl,own2,o1,o2,o3,o4⟩)
  ·rw[good_num hL hkm2]at h1;cases h1
  ·refine⟨0,rfl,rfl,Tr.putE es 16 (keyI L) (intsM D),?_,fun e he=>?_,put_use es L _⟩
   ·refine⟨Mo.trans hmo o4 (fun _=>id) (fun i _ hi=>(f2 kc i hi).1),fun j=>if j=kc then own2 else Fa j,fun j=>?_,fun j b hb=>?_,fun x y b hxy hx hy=>?_⟩
    ·unfold Ths.up
     dsimp only
     by_cases e:j=kc
     ·rw[if_pos e,if_pos e];exact o3
     ·rw[if_neg e,if_neg e];exact(T j).fr (f1 j) o4 (fun b hb hb'=>f3 j kc b e hb hb')
    ·dsimp only at hb
     by_cases e:j=kc
     ·rw[if_pos e]at hb
      obtain⟨_,_,_,hm,_⟩:=o3
      have hlt:=hm.ownL b hb
      rcases o2 b hb with h | h
      ·exact⟨(f2 kc b h).1,hlt⟩
      ·exact⟨Nat.le_trans hmo.size h,hlt⟩
     ·rw[if_neg e]at hb
      exact⟨(f2 j b hb).1,Nat.lt_of_lt_of_le (f2 j b hb).2 o4.size⟩
    ·dsimp only at hx hy
     by_cases e:x=kc
     ·rw[if_pos e]at hx
      rw[if_neg (fun e'=>hxy (e.trans e'.symm))]at hy
      rcases o2 b hx with h | h
      ·exact f3 kc y b (fun e'=>hxy (e.trans e')) h hy
      ·have:=(f2 y b hy).2;omega
     ·rw[if_neg e]at hx
      by_cases e':y=kc
      ·rw[if_pos e']at hy
       rcases o2 b hy with h | h
       ·exact f3 x kc b e hx h
       ·have:=(f2 x b hx).2;omega
      ·rw[if_neg e']at hy
       exact f3 x y b hxy hx hy
   ·rcases putE_mem e he with rfl | h
    ·exact⟨L,D,rfl,hD,rfl⟩
    ·exact hes e h
theorem clen_gv{W0 w:World}{T:Ths}{kc:Ky}{tb:Nat}{es:List Tr.Ent}{clock:Int}(hS:Sep W0 w T)(hc:T kc=TriT tb es clock):Gv Tryz.prog 54 #[.pointer (at0 tb)] (.int .i64 (es.length:Int)) w:=by
 obtain⟨F,ht,_⟩:=hS.get kc hc
 have ht':Tr.TrieSt w F tb 16 es clock:=ht
 obtain⟨v,ns,y,hm,_⟩:=ht'
 refine trie_Trie_Len.run _ (at0 tb) w ?_
 unfold trie_Trie_Len.M
 refine aCZ Tr.tT (aAZ (agZ ?_))
 refine ajZ (c:=.int .i64) (x:=(es.length:Int)) (B:=tb) (i:=2) hm.top (by kernel_rfl) rfl ⟨rfl,Ex.refl _⟩
theorem cached_gv{W0 w:World}{T:Ths}{j:Nat}{a:CodA}{f:Int}{k m b:Nat}{Q:Mtx}{es:List Tr.Ent}{clock:Int}(hS:Sep W0 w T)(hC:Cod T j a f k m b Q es clock):Gv Tryz.prog 33 #[.pointer (at0 a.cp)] (.int .i64 (es.length:Int)) w:=by
 refine mC_Cached.run _ (at0 a.cp) w ?_
 unfold mC_Cached.M
 refine Pu_codnil (aAZ (agZ ?_))
 refine ajZ (c:=.ptr) (x:=at0 a.tb) (B:=a.cp) (i:=5) (hC.cel hS) (by kernel_rfl) rfl ?_
 exact auZ (d:=.one (.at (.int .i64))) (x:=(es.length:Int)) (clen_gv hS hC.c3) fun w1 hx=>⟨rfl,hx⟩
theorem rising_gv{W0 w:World}{T:Ths}{j:Nat}{a:CodA}{f:Int}{k m b:Nat}{Q:Mtx}{es:List Tr.Ent}{clock:Int}{s:Sl}{L:List Nat}(hS:Sep W0 w T)(hC:Cod T j a f k m b Q es clock)(hr:Rds aOZ w s L)(hL:NumL (k+m) L):Gv Tryz.prog 40 #[.pointer (at0 a.cp),.slice s.base s.len s.cap] (.bool true) w:=by
 refine mC_rising.run _ (at0 a.cp) s w ?_
 unfold mC_rising.M mC_rising.l1
 have hB:=hC.cel hS
 have hsl:=hr.1
 have hLl:=hL.len
 have hkm:=hC.hkm
 refine acZ (fun st w'=>∃i:Nat,st=(at0 a.cp,s,s,((s.len:Nat):Int),(i:Int),())∧i≤L.length∧Ex w w') (fun st _=>(((s.len:Nat):Int)-st.2.2.2.2.1).toNat) ?_ ⟨0,rfl,Nat.zero_le _,Ex.refl _⟩
 rintro kk _ w1 ⟨i,rfl,hi,hx⟩ hk
 unfold mC_rising.b1
 dsimp only at hk ⊢
 refine abZ (fun hlt=>?_) (fun hge=>?_)
 ·obtain⟨x,hxi⟩:=atx (l:=L) (i:=i) (by omega)
  have hxl:=hL.lt x (List.mem_of_getElem? hxi)
  refine rd_nat (hr.ex hx) hxi ?_
  refine abZ (fun h=>by omega) (fun _=>?_)
  have hd:=Ex.drew w1
  have hx2:=hx.trans hd
  refine agZ (boZ (ajZ (c:=.int .i64) (x:=(k:Int)) (B:=a.cp) (i:=1) (hB.ex hx2) (by kernel_rfl) rfl ?_))
  refine agZ (boZ (ajZ (c:=.int .i64) (x:=(m:Int)) (B:=a.cp) (i:=2) (hB.ex hx2) (by kernel_rfl) rfl ?_))
  rw[adZ (by omega) (by omega)]
  refine abZ (fun h=>by omega) (fun _=>?_)
  have next:∀t:Bool,t=false→mC_rising.j1 (fun e w'=>e=.returned (.bool true)∧Ex w w') kk (at0 a.cp) s s ((s.len:Nat):Int) (i:Int) t w1.drew:=by
   rintro _ rfl
   unfold mC_rising.j1
   refine aAZ ?_
   rw[adZ (by omega) (by omega),show(i:Int)+1=((i+1:Nat):Int) by omega]
   exact hk _ _ ⟨i+1,rfl,by omega,hx2⟩ (by dsimp only;omega)
  refine abZ (fun h0=>?_) (fun h0=>next false rfl)
  obtain⟨y,hy⟩:=atx (l:=L) (i:=i-1) (by omega)
  have hyx:=hL.mono (i:=i-1) (j:=i) (by omega) hy hxi
  rw[adZ (by omega) (by omega),show(i:Int)-1=((i-1:Nat):Int) by omega]
  refine Pu_idxB (hr.ex hx2) tI sI (by omega) (by omega) fun a2 y2 ha2 hy2=>?_
  rw[Int.toNat_natCast,hy]at hy2
  cases hy2
  refine boZ (bwZ (c:=.int .i64) (x:=(y:Int)) (by kernel_rfl) (show _=some (aOZ y) from rds_at (f:=aOZ) (hr.ex hx2) ha2 hy) ?_)
  exact next _ (decide_eq_false (by omega))
 ·exact⟨rfl,hx⟩
end Go.Proofs.YtbiilejgfihohaaGreat
namespace Go.Proofs.YtbiilejgfihohaaGreat
open Go Go.Cu Go.RowKit
theorem lostL_length{n:Nat}{L:List Nat}(h:NumL n L):(aIZ n L).length+L.length=n:=by
 have h1:=filter_parts (fun x=>decide (x∈L)) (List.range n)
 rw[List.length_range,below_len L h.nodup n]at h1
 have h2:(L.filter (fun c=>decide (c<n))).length=L.length:=by
  rw[List.filter_eq_self.2 (fun x hx=>decide_eq_true (h.lt x hx))]
 unfold aIZ
 have h3:(List.range n).filter (fun x=>decide (x∉L))=(List.range n).filter (fun x=>!decide (x∈L)):=by
  refine List.filter_congr fun x _=>?_
  by_cases h:x∈L <;> simp[h]
 rw[h3]
 omega
theorem lostL_nodup(n:Nat)(L:List Nat):(aIZ n L).Nodup:=List.nodup_range.sublist List.filter_sublist
theorem lostL_num{n:Nat}(L:List Nat):NumL n (aIZ n L):=by
 have hp:(aIZ n L).Pairwise (· < ·):=List.Pairwise.sublist (List.filter_sublist (l:=List.range n)) List.pairwise_lt_range
 refine⟨fun x hx=>(mem_lostL.1 hx).1,fun i x y h1 h2=>?_⟩
 rw[List.pairwise_iff_getElem]at hp
 obtain⟨a1,e1⟩:=List.getElem?_eq_some_iff.1 h1
 obtain⟨a2,e2⟩:=List.getElem?_eq_some_iff.1 h2
 have:=hp i (i+1) a1 a2 (by omega)
 rw[e1,e2]at this
 exact this
structure IntIn(w:World)(g:Nat)(cs:List Value)(s:Sl)(l:List Nat):Prop where
 base:s.base=at0 g
 has:Has w g cs 3
 len:s.len=l.length
 cap:s.len≤s.cap
 room:s.cap≤cs.length
 most:s.cap≤maxLen
 cells:cs.take l.length=l.map aOZ
def IntT(s:Sl)(l:List Nat):Th:=⟨fun w F=>∃g cs,IntIn w g cs s l∧F g,fun⟨g,cs,h,hF⟩ m hx=>⟨g,cs,{ h with has:=h.has.mo m (hx _ hF) },hF⟩⟩
theorem IntIn.rds{w:World}{g:Nat}{cs:List Value}{s:Sl}{l:List Nat}(h:IntIn w g cs s l):Rds aOZ w s l:=by
 refine⟨h.len,h.cap,fun i x hi=>⟨_,h.base,?_⟩⟩
 have:(⟨g,0,none⟩:Addr).add i=⟨g,i,none⟩:=by
  unfold Addr.add;split
  ·rename_i e;rw[e]
  ·simp
 rw[this]
 refine(h.has.cell i).trans ?_
 have hil:=(List.getElem?_eq_some_iff.1 hi).1
 have:(cs.take l.length)[i]? =some (aOZ x):=by rw[h.cells,List.getElem?_map,hi];rfl
 rw[List.getElem?_take,if_pos hil]at this
 exact this
theorem int_get{W0 w:World}{T:Ths}{q:Ky}{s:Sl}{l:List Nat}(hS:Sep W0 w T)(hq:T q=IntT s l):Rds aOZ w s l:=by
 obtain⟨F,⟨g,cs,h,_⟩,_⟩:=hS.get q hq
 exact h.rds
theorem int_props{w:World}{F:Nat→Prop}{s:Sl}{l:List Nat}(h:(IntT s l).h w F):Rds aOZ w s l∧∀b,SlIn s b→F b:=by
 obtain⟨g,cs,h1,h2⟩:=h
 exact⟨h1.rds,fun b hb=>by rw[slin_one h1.base hb];exact h2⟩
theorem int_own{W0 w w':World}{T:Ths}{s:Sl}{l:List Nat}(q:Ky)(hS:Sep W0 w T)(hx:Ex w w')(ho:Own aOZ 3 w.heap.size w' s l)(hl:0<l.length):Sep W0 w' (T.up q (IntT s l)):=by
 obtain⟨g,cs,hsb,hb,hB,hll,hlc,hcm,hcs,htk⟩:=ho.inv hl
 exact hS.new q (G:=fun b=>b=g) hx ⟨g,cs,⟨hsb,hB,hll,hlc,by omega,hcm,htk⟩,rfl⟩ (fun b hb'=>by subst hb';exact⟨hb,hB.lt⟩)
theorem int_cut{W0 w:World}{T:Ths}{q:Ky}{s:Sl}{l:List Nat}{n:Nat}(hS:Sep W0 w T)(hq:T q=IntT s l)(hn:n≤l.length):Sep W0 w (T.up q (IntT ⟨s.base,n,n⟩ (l.take n))):=by
 obtain⟨F,⟨g,cs,h,hF⟩,_,hc⟩:=hS.get q hq
 have hl:=h.len
 have hcp:=h.cap
 have hrm:=h.room
 have hms:=h.most
 refine hc w _ F (Mo.refl _ _) ⟨g,cs,⟨h.base,h.has,by rw[List.length_take];simp only;omega,Nat.le_refl _,by simp only;omega,by simp only;omega,?_⟩,hF⟩ (fun b hb=>.inl hb)
 rw[List.length_take,Nat.min_eq_left hn,List.map_take,←h.cells,List.take_take,Nat.min_eq_left hn]
theorem Pu_cut3{t e:TypeId}{s:Sl}{h:Nat}{ik1 ik2:IntKind}{k:Sl→World→Prop}{w:World}(ht:Tryz.prog.underlying t=some (.slice e))(hs:aWZ Tryz.prog e 1=true)(h2:h≤s.cap)(hk:k ⟨s.base,h,h⟩ w):
  Pu Tryz.prog (Instr.sliceAt t (.slice s.base s.len s.cap) none (some (.int ik1 (h:Int))) (some (.int ik2 (h:Int)))) (.one (.at .sl)) k w:=by
 refine⟨⟨s.base,h,h⟩,fun w'=>?_,hk⟩
 have hsz:=Go.Cu.run_sizeOf hs w'
 have e:s.base.map (·.add 0)=s.base:=by
  cases hb:s.base with
  | none=>rfl
  | some a=>simp only[Option.map_some];rw[addr_zero' a]
 simp[Instr.sliceAt,Instr.slice,Instr.sliceBounds,Instr.sliceBound,run_underlying ht,asIntOf,hsz,h2,Sh.enc,Cx.enc,At.enc]
 exact fun _=>e
def PlK(j:Nat)(q:Ky):Prop:=GnK q∨q=.bx (4*j+3)∨q=.rs 0∨q=.rs 1∨q=.ps 0∨q=.ps 1∨q=.mx 1 0
abbrev P4:List At:=[.sl,.sl,.sl,.sl]
abbrev nil4:List Value:=[slV ⟨none,0,0⟩,slV ⟨none,0,0⟩,slV ⟨none,0,0⟩,slV ⟨none,0,0⟩]
theorem alloc4{w:World}{K:Addr→World→Prop}(hk:∀w',Has w' w.heap.size nil4 49→Ex w w'→K ⟨w.heap.size,0,none⟩ w'):Wr Tryz.prog (Instr.alloc 49 true (.tuple #[])) (.one (.at .addr)) K w:=
 Wr_alloc (z:=.agg #[.slice none 0 0,.slice none 0 0,.slice none 0 0,.slice none 0 0]) (by kernel_rfl) (fun w' h hx=>hk w' h hx)
theorem sto4{w5:World}{g:Nat}{x:Ats P4}{cs:List Value}{K:World→Prop}(hB:Has w5 g cs 49)(hc:cs.length=4)(hk:∀w6,Has w6 g (afZ P4 x) 49→Mo (fun b=>b=g) w5 w6→K w6):Wu Tryz.prog (Instr.storeAt 49 (.pointer (some ⟨g,0,none⟩)) (.agg (afZ P4 x).toArray)) K w5:=by
 refine awZ (v:=.agg (afZ P4 x).toArray) hB (by kernel_rfl) (by simp[Value.cells,afZ,Value.oneCell',At.enc]) (by rw[hc];exact Nat.le_refl 4) fun w6 hB6 hm6=>hk w6 ?_ hm6
 have e3:cs.drop (0+(Value.agg (afZ P4 x).toArray).cells.size)=[]:=List.drop_of_length_le (by rw[hc];exact Nat.le_refl 4)
 rw[e3,List.append_nil]at hB6
 exact hB6
theorem plan_dec{f:Int}{k m:Nat}{Q:Mtx}{L:List Nat}(hQs:Shp Q m k)(hM:Mds k m (ent (gM k Q)))(hL:NumL (k+m) L)(hlm:L.length≤m):∃D,decM k (gM k Q) ((aIZ (k+m) L).take k) L=some D∧Shp D L.length k:=by
 have hll:=lostL_length hL
 have hlt:((aIZ (k+m) L).take k).length=k:=by rw[List.length_take];omega
 have hg:Shp (gM k Q) (k+m) k:=shp_append (aPZ k k _) hQs
 obtain⟨D,h1,h2,_⟩:=dec_ok (want:=L) hg hM hlt ((lostL_nodup _ _).sublist (List.take_sublist _ _)) (fun r hr=>(mem_lostL.1 (List.mem_of_mem_take hr)).1) hL.lt
 exact⟨D,h1,h2⟩
theorem plan_ok{W0 w:World}{T:Ths}{j:Nat}{a:CodA}{f:Int}{k m b:Nat}{Q:Mtx}{es:List Tr.Ent}{clock:Int}{km:Ky}{sl:Sl}{L:List Nat}(hS:Sep W0 w T)(hC:Cod T j a f k m b Q es clock)(hkm:¬PlK j km)
  (hmg:∀w F,(T km).h w F→Rds aOZ w sl L∧∀b,SlIn sl b→F b) (hL:NumL (k+m) L) (hl1:1≤L.length) (hlm:L.length≤m) (hcl:clock<4611686018427387904):
  Cl Tryz.prog 22 #[.pointer (at0 a.cp),.slice sl.base sl.len sl.cap] (.tup [.agg P4,.at (.int .i64)]) (fun x w'=>∃sm su sr hsr D T' es' clock',x=((sm,su,sr,⟨none,0,0⟩,()),0,())∧Sep W0 w' T'∧decM k (gM k Q) ((aIZ (k+m) L).take k) L=some D∧
   T' (.rs 0)=IntT sm L∧T' (.rs 1)=IntT su ((aIZ (k+m) L).take k)∧T' (.mx 1 0)=ShT sr hsr D∧Cod T' j a f k m b Q es' clock'∧clock'≤clock+1∧UseK es es' L∧∀q,¬PlK j q→T' q=T q) w:=by
 refine mC_Plan.run _ (at0 a.cp) sl w ?_
 generalize hRR:(fun(e:Ending) (w':World)=>∃x:Ats P4×Int×Unit,e=.returned ((Sh.tup [.agg P4,.at (.int .i64)]).enc x)∧∃sm su sr hsr D T' es' clock',x=((sm,su,sr,⟨none,0,0⟩,()),0,())∧Sep W0 w' T'∧decM k (gM k Q) ((aIZ (k+m) L).take k) L=some D∧
   T' (.rs 0)=IntT sm L∧T' (.rs 1)=IntT su ((aIZ (k+m) L).take k)∧T' (.mx 1 0)=ShT sr hsr D∧Cod T' j a f k m b Q es' clock'∧clock'≤clock+1∧UseK es es' L∧∀q,¬PlK j q→T' q=T q)=R
 unfold mC_Plan.M
 obtain⟨hQs,hMds⟩:=hC.shp
 obtain⟨D,hD,hDs⟩:=plan_dec (f:=f) hQs hMds hL hlm
 have hkm':=hC.hkm
 have hk1:=hC.hk1
 have hm1:=hC.hm1
 have hll:=lostL_length hL
 have bxne:∀i,i≠3→i<4→¬PlK j (.bx (4*j+i)):=by
  intro i h1 h2 h
  unfold PlK GnK at h
  rcases h with (⟨x,hx⟩ | ⟨x,hx⟩) | h | h | h | h | h | h
  ·cases hx
  ·cases hx
  ·rw[Ky.bx.injEq]at h;omega
  ·cases h
  ·cases h
  ·cases h
  ·cases h
  ·cases h
 have codN:∀{T':Ths},(∀q,¬PlK j q→T' q=T q)→∀{es':List Tr.Ent} {clock':Int},T' (.bx (4*j+3))=TriT a.tb es' clock'→(∀e∈es',CachOk k m Q e)→Cod T' j a f k m b Q es' clock':=by
  intro T' h es' clock' h3 hes
  exact { c0:=(h _ (bxne 0 (by omega) (by omega))).trans hC.c0,c1:=(h _ (bxne 1 (by omega) (by omega))).trans hC.c1,c2:=(h _ (bxne 2 (by omega) (by omega))).trans hC.c2,c3:=h3,hf:=hC.hf,hk1:=hk1,hm1:=hm1,hkm:=hkm',hQ:=hC.hQ,hes:=hes }
 refine alloc4 fun w1 hB1 hx1=>?_
 have hS1:=hS.box (.ps 0) hx1 hB1
 generalize w.heap.size=t4 at hS1 ⊢
 obtain⟨T1,hT1e⟩:∃T1,T1=T.up (.ps 0) (Cel t4 nil4 49):=⟨_,rfl⟩
 rw[←hT1e]at hS1
 have hT1:∀q,q≠.ps 0→T1 q=T q:=fun q h=>by rw[hT1e];exact Ths.up_ne _ _ h
 have ht4:T1 (.ps 0)=Cel t4 nil4 49:=by rw[hT1e];exact Ths.up_same _ _ _
 have hkmps:km≠.ps 0:=fun e=>hkm (by unfold PlK;simp[e])
 have hC1:Cod T1 j a f k m b Q es clock:=hC.next (fun i=>hT1 _ (by simp))
 have hmg1:∀{T':Ths},T' km=T km→∀w F,(T' km).h w F→Rds aOZ w sl L∧∀b,SlIn sl b→F b:=fun h w F h'=>hmg w F (h▸h')
 have hrd:∀{w':World} {T':Ths},Sep W0 w' T'→T' km=T km→Rds aOZ w' sl L:=by
  intro w' T' h1 h2
  obtain⟨F,ht,_⟩:=h1.get km h2
  exact(hmg w' F ht).1
 refine Pu_codnil (aAZ ?_)
 refine auZ (d:=.one (.at .bool)) (x:=true) (rising_gv hS1 hC1 (hrd hS1 (hT1 _ hkmps)) hL) fun w2 hx2=>aAZ ?_
 have hS2:=hS1.exx hx2
 refine agZ (ajZ (c:=.int .i64) (x:=(m:Int)) (B:=a.cp) (i:=2) (hC1.cel hS2) (by kernel_rfl) rfl ?_)
 have hsll:=(hrd hS2 (hT1 _ hkmps)).1
 refine abZ (fun h=>by omega) (fun _=>?_)
 have hd2:=Ex.drew w2
 have hS3:=hS2.exx hd2
 refine asZ (fun w'=>Has w' a.cp (codV a f k m) 78) (hC1.cel hS3) ?_
 refine agZ (akZ (c:=.int .i64) (x:=(k:Int)) (B:=a.cp) (i:=1) (fun w' h=>h) (by kernel_rfl) rfl ?_)
 refine agZ (akZ (c:=.int .i64) (x:=(m:Int)) (B:=a.cp) (i:=2) (fun w' h=>h) (by kernel_rfl) rfl ?_)
 rw[adZ (by omega) (by omega),show(k:Int)+(m:Int)=((k+m:Nat):Int) by omega]
 refine aeZ (lost_ok (hrd hS3 (hT1 _ hkmps)) hL (by omega)) ?_
 rintro _ w4 ⟨sp,rfl,hsp,hx4⟩
 have hS4:=int_own (.rs 1) hS3 hx4 hsp (by omega)
 obtain⟨T4,hT4e⟩:∃T4,T4=T1.up (.rs 1) (IntT sp (aIZ (k+m) L)):=⟨_,rfl⟩
 rw[←hT4e]at hS4
 have hT4:∀q,q≠.ps 0→q≠.rs 1→T4 q=T q:=fun q h h'=>by rw[hT4e,Ths.up_ne _ _ h'];exact hT1 q h
 have hp4:T4 (.rs 1)=IntT sp (aIZ (k+m) L):=by rw[hT4e];exact Ths.up_same _ _ _
 have ht4':T4 (.ps 0)=Cel t4 nil4 49:=by rw[hT4e,Ths.up_ne _ _ (by simp)];exact ht4
 have hC4:Cod T4 j a f k m b Q es clock:=hC.next (fun i=>hT4 _ (by simp) (by simp))
 refine⟨hC4.cel hS4,?_⟩
 unfold mC_Plan.j1
 refine aAZ ?_
 have hd4:=Ex.drew w4
 have hS5:=hS4.exx hd4
 refine asZ (fun w'=>Has w' a.cp (codV a f k m) 78) (hC4.cel hS5) ?_
 refine agZ (akZ (c:=.int .i64) (x:=(k:Int)) (B:=a.cp) (i:=1) (fun w' h=>h) (by kernel_rfl) rfl ?_)
 refine agZ (akZ (c:=.int .i64) (x:=(k:Int)) (B:=a.cp) (i:=1) (fun w' h=>h) (by kernel_rfl) rfl ?_)
 have hpl:=(int_get hS5 hp4).1
 have hpc:=(int_get hS5 hp4).2.1
 refine Pu_cut3 (s:=sp) (h:=k) tI sI (by omega) ?_
 have hkmr1:km≠.rs 1:=fun e=>hkm (by unfold PlK;simp[e])
 have hkmr0:km≠.rs 0:=fun e=>hkm (by unfold PlK;simp[e])
 have hkmp1:km≠.ps 1:=fun e=>hkm (by unfold PlK;simp[e])
 have hkmm:km≠.mx 1 0:=fun e=>hkm (by unfold PlK;simp[e])
 have hkmb:km≠.bx (4*j+3):=fun e=>hkm (by unfold PlK;simp[e])
 have hkmG:¬GnK km:=fun e=>hkm (.inl e)
 have cpy:∀{w6:World} {K:Sl→World→Prop},Rds aOZ w6 sl L→(∀d w',Own aOZ 3 w6.heap.size w' d L→Ex w6 w'→K d w')→Wr Tryz.prog (Builtin.append_ #[25,25] 25 #[.slice none 0 0,.slice sl.base sl.len sl.cap]) (.one (.at .sl)) K w6:=by
  intro w6 K hr hk
  refine aGZ (f:=aOZ) (s:=⟨none,0,0⟩) (l:=[]) (base:=w6.heap.size) tI iI rfl (Own.nil _ _ _ _) hr (fun _=>rfl) (by simp;omega) (by simp;omega) (Nat.le_refl _) fun d w' ho hm hin=>?_
  rw[List.nil_append]at ho
  refine hk d w' ho (hm.new (fun i hi=>?_))
  obtain⟨a,ha,_⟩:=hi
  cases ha
 have main:∀{w6:World} {T6:Ths} {pb:Nat} {sm:Sl},Sep W0 w6 T6→T6 (.ps 0)=Cel t4 nil4 49→T6 (.ps 1)=Cel pb nil4 49→T6 (.rs 0)=IntT sm L→T6 (.rs 1)=IntT sp (aIZ (k+m) L)→(∀q,q≠.ps 0→q≠.ps 1→q≠.rs 0→q≠.rs 1→T6 q=T q)→
   Wu Tryz.prog (Instr.storeAt 49 (.pointer (some ⟨pb,0,none⟩)) (.agg #[(.slice sm.base sm.len sm.cap),(.slice sp.base k k),(.slice none 0 0),(.slice none 0 0)])) (fun w79=>Has w79 a.cp (codV a f k m) 78∧(mC_Plan.j2 R (at0 a.cp) sl ⟨t4,0,none⟩ sp ⟨pb,0,none⟩ w79)) w6:=by
  intro w6 T6 pb sm hS6 h60 h61 h6m h6p hT6
  refine sto4 (x:=(sm,⟨sp.base,k,k⟩,⟨none,0,0⟩,⟨none,0,0⟩,())) (hS6.has h61) rfl fun w7 hB7 hm7=>?_
  have hS7:=hS6.cel h61 hB7 hm7
  obtain⟨T7,hT7e⟩:∃T7,T7=T6.up (.ps 1) (Cel pb (afZ P4 (sm,⟨sp.base,k,k⟩,⟨none,0,0⟩,⟨none,0,0⟩,())) 49):=⟨_,rfl⟩
  rw[←hT7e]at hS7
  have hT7:∀q,q≠.ps 0→q≠.ps 1→q≠.rs 0→q≠.rs 1→T7 q=T q:=fun q a1 a2 a3 a4=>by rw[hT7e,Ths.up_ne _ _ a2];exact hT6 q a1 a2 a3 a4
  have h71:T7 (.ps 1)=Cel pb (afZ P4 (sm,⟨sp.base,k,k⟩,⟨none,0,0⟩,⟨none,0,0⟩,())) 49:=by rw[hT7e];exact Ths.up_same _ _ _
  have h70:T7 (.ps 0)=Cel t4 nil4 49:=by rw[hT7e,Ths.up_ne _ _ (by simp)];exact h60
  have h7m:T7 (.rs 0)=IntT sm L:=by rw[hT7e,Ths.up_ne _ _ (by simp)];exact h6m
  have h7p:T7 (.rs 1)=IntT sp (aIZ (k+m) L):=by rw[hT7e,Ths.up_ne _ _ (by simp)];exact h6p
  have hC7:Cod T7 j a f k m b Q es clock:=hC.next (fun i=>hT7 _ (by simp) (by simp) (by simp) (by simp))
  refine⟨hC7.cel hS7,?_⟩
  unfold mC_Plan.j2
  refine aJZ (fun h=>by omega) (fun _=>agZ ?_)
  refine ajZ (c:=.ptr) (x:=at0 a.tb) (B:=a.cp) (i:=5) (hC7.cel hS7) (by kernel_rfl) rfl ?_
  have hkm7:T7 km=T km:=hT7 km hkmps hkmp1 hkmr0 hkmr1
  have fin:∀{w8:World} {T8:Ths} {sr:Sl} {hsr:List Sl} {es':List Tr.Ent} {clock':Int},Sep W0 w8 T8→T8 (.ps 0)=Cel t4 nil4 49→T8 (.ps 1)=Cel pb (afZ P4 (sm,⟨sp.base,k,k⟩,⟨none,0,0⟩,⟨none,0,0⟩,())) 49→T8 (.rs 0)=IntT sm L→T8 (.rs 1)=IntT sp (aIZ (k+m) L)→T8 (.mx 1 0)=ShT sr hsr D→
    (∀q,¬PlK j q→T8 q=T q)→T8 (.bx (4*j+3))=TriT a.tb es' clock'→(∀e∈es',CachOk k m Q e)→clock'≤clock+1→UseK es es' L→
    Wu Tryz.prog (Instr.storeAt 30 (.pointer (some ((⟨pb,0,none⟩:Addr).add 2))) (.slice sr.base sr.len sr.cap)) (fun w29=>
     Rd Tryz.prog (Instr.loadAt 49 (.pointer (some ⟨pb,0,none⟩))) (.one (.agg P4)) (fun x30 w31=>
     Wu Tryz.prog (Instr.storeAt 49 (.pointer (some ⟨t4,0,none⟩)) (.agg #[(.slice x30.1.base x30.1.len x30.1.cap),(.slice x30.2.1.base x30.2.1.len x30.2.1.cap),(.slice x30.2.2.1.base x30.2.2.1.len x30.2.2.1.cap),(.slice x30.2.2.2.1.base x30.2.2.2.1.len x30.2.2.2.1.cap)])) (fun w32=>
     ∃r33:(Sl×Sl×Sl×Sl×Unit),(loadVar 49 ⟨t4,0,none⟩).run Tryz.prog w32=.ok (.agg #[(.slice r33.1.base r33.1.len r33.1.cap),(.slice r33.2.1.base r33.2.1.len r33.2.1.cap),(.slice r33.2.2.1.base r33.2.2.1.len r33.2.2.1.cap),(.slice r33.2.2.2.1.base r33.2.2.2.1.len r33.2.2.2.1.cap)]) w32∧R (.returned (.tuple #[(.agg #[(.slice r33.1.base r33.1.len r33.1.cap),(.slice r33.2.1.base r33.2.1.len r33.2.1.cap),(.slice r33.2.2.1.base r33.2.2.1.len r33.2.2.1.cap),(.slice r33.2.2.2.1.base r33.2.2.2.1.len r33.2.2.2.1.cap)]),(.int .i64 0)])) w32) w31) w29) w8:=by
   intro w8 T8 sr hsr es' clock' hS8 h80 h81 h8m h8p h8r hT8 h8b hes' hcl' hone
   rw[show(⟨pb,0,none⟩:Addr).add 2=⟨pb,2,none⟩ from rfl]
   refine awZ (v:=slV sr) (hS8.has h81) (by kernel_rfl) (by simp[Value.cells,Value.oneCell']) (by show 2+1≤4;omega) fun w9 hB9 hm9=>?_
   have hB9':Has w9 pb (afZ P4 (sm,⟨sp.base,k,k⟩,sr,⟨none,0,0⟩,())) 49:=hB9
   have hS9:=hS8.cel h81 hB9' hm9
   refine bxZ (x:=(sm,⟨sp.base,k,k⟩,sr,⟨none,0,0⟩,())) hB9' (by kernel_rfl) rfl ?_
   have h90:(T8.up (.ps 1) (Cel pb (afZ P4 (sm,⟨sp.base,k,k⟩,sr,⟨none,0,0⟩,())) 49)) (.ps 0)=Cel t4 nil4 49:=by rw[Ths.up_ne _ _ (by simp)];exact h80
   refine sto4 (x:=(sm,⟨sp.base,k,k⟩,sr,⟨none,0,0⟩,())) (hS9.has h90) rfl fun w10 hB10 hm10=>?_
   have hS10:=hS9.cel h90 hB10 hm10
   refine⟨(sm,⟨sp.base,k,k⟩,sr,⟨none,0,0⟩,()),bfZ (cs:=afZ P4 (sm,⟨sp.base,k,k⟩,sr,⟨none,0,0⟩,())) (by kernel_rfl) (has_part (l:=P4) (x:=(sm,⟨sp.base,k,k⟩,sr,⟨none,0,0⟩,())) (i:=0) hB10 rfl),?_⟩
   obtain⟨T10,hT10e⟩:∃T10,T10=(T8.up (.ps 1) (Cel pb (afZ P4 (sm,⟨sp.base,k,k⟩,sr,⟨none,0,0⟩,())) 49)).up (.ps 0) (Cel t4 (afZ P4 (sm,⟨sp.base,k,k⟩,sr,⟨none,0,0⟩,())) 49):=⟨_,rfl⟩
   rw[←hT10e]at hS10
   have hT10:∀q,q≠.ps 0→q≠.ps 1→T10 q=T8 q:=fun q a1 a2=>by rw[hT10e,Ths.up_ne _ _ a1,Ths.up_ne _ _ a2]
   have hS11:=int_cut (n:=k) hS10 ((hT10 (.rs 1) (by simp) (by simp)).trans h8p) (by omega)
   have hps:∀q,¬PlK j q→q≠.ps 0∧q≠.ps 1∧q≠.rs 1:=fun q hq=>⟨fun e=>hq (by unfold PlK;simp[e]),fun e=>hq (by unfold PlK;simp[e]),fun e=>hq (by unfold PlK;simp[e])⟩
   have hT11:∀q,¬PlK j q→(T10.up (.rs 1) (IntT ⟨sp.base,k,k⟩ ((aIZ (k+m) L).take k))) q=T q:=fun q hq=>by rw[Ths.up_ne _ _ (hps q hq).2.2,hT10 q (hps q hq).1 (hps q hq).2.1];exact hT8 q hq
   subst hRR
   refine⟨((sm,⟨sp.base,k,k⟩,sr,⟨none,0,0⟩,()),0,()),rfl,sm,⟨sp.base,k,k⟩,sr,hsr,D,T10.up (.rs 1) (IntT ⟨sp.base,k,k⟩ ((aIZ (k+m) L).take k)),es',clock',rfl,hS11,hD,?_,Ths.up_same _ _ _,?_,codN hT11 ?_ hes',hcl',hone,hT11⟩
   ·rw[Ths.up_ne _ _ (by simp),hT10 _ (by simp) (by simp)];exact h8m
   ·rw[Ths.up_ne _ _ (by simp),hT10 _ (by simp) (by simp)];exact h8r
   ·rw[Ths.up_ne _ _ (by simp),hT10 _ (by simp) (by simp)];exact h8b
  have plk:∀q,¬PlK j q→q≠.ps 0∧q≠.ps 1∧q≠.rs 0∧q≠.rs 1∧q≠.mx 1 0∧q≠.bx (4*j+3)∧¬GnK q:=fun q hq=>⟨fun e=>hq (by unfold PlK;simp[e]),fun e=>hq (by unfold PlK;simp[e]),fun e=>hq (by unfold PlK;simp[e]),fun e=>hq (by unfold PlK;simp[e]),fun e=>hq (by unfold PlK;simp[e]),fun e=>hq (by unfold PlK;simp[e]),fun e=>hq (.inl e)⟩
  refine aeZ (cget_ok (kr:=.mx 1 0) (k:=k) (m:=m) (Q:=Q) hS7 hC7.c3 (by simp) hC7.hes (hrd hS7 hkm7) (by omega) hcl) ?_
  rintro _ w8 (⟨rfl,hx8,hno⟩ | ⟨sr,hsr,D',es',rfl,hD',hS8,hes',hne⟩)
  ·refine aAZ ?_
   have hd8:=Ex.drew w8
   have hS8:=(hS7.exx hx8).exx hd8
   refine asZ (fun w'=>Has w' a.cp (codV a f k m) 78) (hC7.cel hS8) ?_
   refine agZ (akZ (c:=.int .i64) (x:=f) (fun w' h=>h) (by kernel_rfl) rfl ?_)
   refine agZ (akZ (c:=.int .i64) (x:=(k:Int)) (B:=a.cp) (i:=1) (fun w' h=>h) (by kernel_rfl) rfl ?_)
   refine agZ (akZ (c:=.int .i64) (x:=(m:Int)) (B:=a.cp) (i:=2) (fun w' h=>h) (by kernel_rfl) rfl ?_)
   have hnG:¬GnK (.mx 1 0):=by unfold GnK;rintro(⟨x,hx⟩ | ⟨x,hx⟩) <;> simp at hx
   have hKp:Keep W0 T7 (fun q=>GnK q∨q=.mx 1 0) (fun w=>Rds aOZ w sp (aIZ (k+m) L)):=fun w' T' hS' hT'=>int_get hS' ((hT' (.rs 1) (by unfold GnK;simp)).trans h7p)
   have hKm:Keep W0 T7 (fun q=>GnK q∨q=.mx 1 0) (fun w=>Rds aOZ w sl L):=fun w' T' hS' hT'=>hrd hS' ((hT' km (by rintro(h | h);exact hkmG h;exact hkmm h)).trans hkm7)
   refine aeZ (decoder_ok (.mx 1 0) hnG hS8 hC.hf hk1 hm1 hkm' hC.hQ hKp hKm (lostL_num L) hL (by omega) hl1 hD) ?_
   rintro _ w9 ⟨sr,hsr,T9,rfl,hS9,hT9,hr9⟩
   have h9:∀q,¬GnK q→q≠.mx 1 0→T9 q=T7 q:=fun q a1 a2=>hT9 q (by rintro(h | h);exact a1 h;exact a2 h)
   have gps:∀i,¬GnK (.ps i):=fun i=>by unfold GnK;simp
   have grs:∀i,¬GnK (.rs i):=fun i=>by unfold GnK;simp
   have gbx:∀i,¬GnK (.bx i):=fun i=>by unfold GnK;simp
   have hC9:Cod T9 j a f k m b Q es clock:=hC7.next (fun i=>h9 _ (gbx i) (by simp))
   refine⟨hC9.cel hS9,aAZ (agZ ?_)⟩
   refine ajZ (c:=.ptr) (x:=at0 a.tb) (B:=a.cp) (i:=5) (hC9.cel hS9) (by kernel_rfl) rfl ?_
   have hS10:=sh_of_mat hS9 hr9
   have hkm9:T9 km=T km:=(h9 km hkmG hkmm).trans hkm7
   have hkm10:(T9.up (.mx 1 0) (ShT sr hsr D)) km=T km:=(Ths.up_ne _ _ hkmm).trans hkm9
   have hc10:(T9.up (.mx 1 0) (ShT sr hsr D)) (.bx (4*j+3))=TriT a.tb es clock:=(Ths.up_ne _ _ (by simp)).trans hC9.c3
   refine aeZ (cput_ok (kr:=.mx 1 0) (km:=km) (k:=k) (m:=m) (Q:=Q) (D:=D) hS10 hc10 (by simp) (fun e=>hkmb e.symm) (Ths.up_same _ _ _) (fun w F h=>hmg1 hkm10 w F h) hC9.hes hL hkm' hD ⟨by rw[hDs.1];omega,fun r hr=>by rw[hDs.2 r hr];omega⟩ hcl) ?_
   rintro _ w11 ⟨rfl,es',hS11,hes',hone⟩
   refine aAZ ?_
   refine fin (sr:=sr) (hsr:=hsr) hS11 ?_ ?_ ?_ ?_ ?_ (fun q hq=>?_) (Ths.up_same _ _ _) hes' (Int.le_refl _) hone
   ·rw[Ths.up_ne _ _ (by simp),Ths.up_ne _ _ (by simp),h9 _ (gps 0) (by simp)];exact h70
   ·rw[Ths.up_ne _ _ (by simp),Ths.up_ne _ _ (by simp),h9 _ (gps 1) (by simp)];exact h71
   ·rw[Ths.up_ne _ _ (by simp),Ths.up_ne _ _ (by simp),h9 _ (grs 0) (by simp)];exact h7m
   ·rw[Ths.up_ne _ _ (by simp),Ths.up_ne _ _ (by simp),h9 _ (grs 1) (by simp)];exact h7p
   ·rw[Ths.up_ne _ _ (by simp),Ths.up_same]
   ·obtain⟨a1,a2,a3,a4,a5,a6,a7⟩:=plk q hq
    rw[Ths.up_ne _ _ a6,Ths.up_ne _ _ a5,h9 q a7 a5];exact hT7 q a1 a2 a3 a4
  ·refine Cd_t ?_
   rw[hD]at hD'
   cases hD'
   refine fin (sr:=sr) (hsr:=hsr) hS8 ?_ ?_ ?_ ?_ (Ths.up_same _ _ _) (fun q hq=>?_) (by rw[Ths.up_ne _ _ (by simp)];exact Ths.up_same _ _ _) hes' (Int.le_refl _) hne
   ·rw[Ths.up_ne _ _ (by simp),Ths.up_ne _ _ (by simp)];exact h70
   ·rw[Ths.up_ne _ _ (by simp),Ths.up_ne _ _ (by simp)];exact h71
   ·rw[Ths.up_ne _ _ (by simp),Ths.up_ne _ _ (by simp)];exact h7m
   ·rw[Ths.up_ne _ _ (by simp),Ths.up_ne _ _ (by simp)];exact h7p
   ·obtain⟨a1,a2,a3,a4,a5,a6,a7⟩:=plk q hq
    rw[Ths.up_ne _ _ a5,Ths.up_ne _ _ a6];exact hT7 q a1 a2 a3 a4
 have hT4km:T4 km=T km:=hT4 km hkmps hkmr1
 refine⟨?_,?_⟩
 ·refine cpy (hrd hS5 hT4km) fun sm w6 ho hx6=>⟨hC4.cel (hS5.exx hx6),?_⟩
  have hS6:=int_own (.rs 0) hS5 hx6 ho (by omega)
  refine alloc4 fun w7 hB7 hx7=>?_
  have hS7:=hS6.box (.ps 1) hx7 hB7
  have hC6:Cod ((T4.up (.rs 0) (IntT sm L)).up (.ps 1) (Cel w6.heap.size nil4 49)) j a f k m b Q es clock:=hC4.next (fun i=>by rw[Ths.up_ne _ _ (by simp),Ths.up_ne _ _ (by simp)])
  refine⟨hC6.cel hS7,?_⟩
  refine main hS7 ?_ (Ths.up_same _ _ _) ?_ ?_ (fun q a1 a2 a3 a4=>?_)
  ·rw[Ths.up_ne _ _ (by simp),Ths.up_ne _ _ (by simp)];exact ht4'
  ·rw[Ths.up_ne _ _ (by simp),Ths.up_same]
  ·rw[Ths.up_ne _ _ (by simp),Ths.up_ne _ _ (by simp)];exact hp4
  ·rw[Ths.up_ne _ _ a2,Ths.up_ne _ _ a3];exact hT4 q a1 a4
 ·refine alloc4 fun w6 hB6 hx6=>?_
  have hS6:=hS5.box (.ps 1) hx6 hB6
  have hC6:Cod (T4.up (.ps 1) (Cel w4.drew.heap.size nil4 49)) j a f k m b Q es clock:=hC4.next (fun i=>Ths.up_ne _ _ (by simp))
  refine⟨hC6.cel hS6,?_⟩
  refine cpy (hrd hS6 ((Ths.up_ne _ _ hkmp1).trans hT4km)) fun sm w7 ho hx7=>⟨hC6.cel (hS6.exx hx7),?_⟩
  have hS7:=int_own (.rs 0) hS6 hx7 ho (by omega)
  refine main hS7 ?_ ?_ (Ths.up_same _ _ _) ?_ (fun q a1 a2 a3 a4=>?_)
  ·rw[Ths.up_ne _ _ (by simp),Ths.up_ne _ _ (by simp)];exact ht4'
  ·rw[Ths.up_ne _ _ (by simp),Ths.up_same]
  ·rw[Ths.up_ne _ _ (by simp),Ths.up_ne _ _ (by simp)];exact hp4
  ·rw[Ths.up_ne _ _ a3,Ths.up_ne _ _ a2];exact hT4 q a1 a4
end Go.Proofs.YtbiilejgfihohaaGreat
namespace Go.Proofs.YtbiilejgfihohaaGreat
open Go Go.Cu Go.RowKit
def scan(st:Nat×Bool)(x:Nat):Nat×Bool:=if x=0 then st else if st.1=0 then (x,st.2) else (st.1,st.2&&decide (st.1=x))
def aBZ(l:List Nat):Nat×Bool:=l.foldl scan (0,true)
theorem scanL_snoc(l:List Nat)(x:Nat):aBZ (l++[x])=scan (aBZ l) x:=by unfold aBZ;rw[List.foldl_append];rfl
theorem scan_even:∀(l:List Nat) (st:Nat×Bool),(l.foldl scan st).2=true→st.2=true∧(st.1≠0→(l.foldl scan st).1=st.1)∧∀x∈l,x=0∨x=(l.foldl scan st).1
 | [],st,h=>⟨h,fun _=>rfl,by simp⟩
 | y::l,st,h=>by
  rw[List.foldl_cons]at h ⊢
  obtain⟨h1,h2,h3⟩:=scan_even l _ h
  unfold scan at h1 h2
  by_cases e:y=0
  ·rw[if_pos e]at h1 h2
   have e2:scan st y=st:=by unfold scan;rw[if_pos e]
   rw[e2]at h3 ⊢
   exact⟨h1,h2,fun x hx=>by rcases List.mem_cons.1 hx with rfl | hx;exact .inl e;exact h3 x hx⟩
  ·rw[if_neg e]at h1 h2
   by_cases e2:st.1=0
   ·rw[if_pos e2]at h1 h2
    have e3:scan st y=(y,st.2):=by unfold scan;rw[if_neg e,if_pos e2]
    rw[e3]at h3 ⊢
    exact⟨h1,fun h=>absurd e2 h,fun x hx=>by rcases List.mem_cons.1 hx with rfl | hx;exact .inr (h2 e).symm;exact h3 x hx⟩
   ·rw[if_neg e2]at h1 h2
    have e3:scan st y=(st.1,st.2&&decide (st.1=y)):=by unfold scan;rw[if_neg e,if_neg e2]
    rw[e3]at h3 ⊢
    dsimp only at h1
    rw[Bool.and_eq_true,decide_eq_true_iff]at h1
    exact⟨h1.1,fun _=>h2 e2,fun x hx=>by rcases List.mem_cons.1 hx with rfl | hx;exact .inr (h1.2.symm.trans (h2 e2).symm);exact h3 x hx⟩
theorem scan_zero:∀(l:List Nat) (st:Nat×Bool),(l.foldl scan st).1=0→st.1=0∧∀x∈l,x=0
 | [],st,h=>⟨h,by simp⟩
 | y::l,st,h=>by
  rw[List.foldl_cons]at h
  obtain⟨h1,h2⟩:=scan_zero l _ h
  by_cases e:y=0
  ·have e2:scan st y=st:=by unfold scan;rw[if_pos e]
   rw[e2]at h1
   exact⟨h1,fun x hx=>by rcases List.mem_cons.1 hx with rfl | hx;exact e;exact h2 x hx⟩
  ·unfold scan at h1
   rw[if_neg e]at h1
   by_cases e2:st.1=0
   ·rw[if_pos e2]at h1;exact absurd h1 e
   ·rw[if_neg e2]at h1;exact absurd h1 e2
theorem scan_one{n:Nat}(hn:1≤n):∀(l:List Nat) (st:Nat×Bool),st=(0,true)∨st=(n,true)→(∀x∈l,x=0∨x=n)→l.foldl scan st=(n,true)∨l.foldl scan st=st
 | [],st,_,_=>.inr rfl
 | y::l,st,hst,h=>by
  rw[List.foldl_cons]
  have e:scan st y=st∨scan st y=(n,true):=by
   unfold scan
   rcases h y (by simp) with rfl | rfl
   ·rw[if_pos rfl];exact .inl rfl
   ·rw[if_neg (by omega)]
    rcases hst with rfl | rfl
    ·exact .inr rfl
    ·rw[if_neg (by show ¬y=0;omega)];exact .inl (by simp)
  rcases e with e | e
  ·rw[e];exact scan_one hn l st hst (fun x hx=>h x (by simp[hx]))
  ·rw[e]
   rcases scan_one hn l (n,true) (.inr rfl) (fun x hx=>h x (by simp[hx])) with h' | h' <;> exact .inl h'
theorem scan_uni{n:Nat}{l:List Nat}(hn:1≤n)(h:∀x∈l,x=0∨x=n)(h1:∃x∈l,x≠0):aBZ l=(n,true):=by
 rcases scan_one hn l (0,true) (.inl rfl) h with e | e
 ·exact e
 ·obtain⟨x,hx,hx0⟩:=h1
  exact absurd ((scan_zero l (0,true) (by rw[e])).2 x hx) hx0
def zerL(l:List Nat):List Nat:=(List.range l.length).filter (fun j=>decide (l[j]? =some 0))
theorem empty_zer(hs:List Sl):aLZ hs hs.length=zerL (hs.map Sl.len):=by
 unfold aLZ zerL
 rw[List.length_map]
 refine List.filter_congr fun j _=>?_
 rw[List.getElem?_map]
 cases hs[j]? with
 | none=>simp
 | some h=>simp
def parS(k m:Nat)(l:List Nat):Int:=if l.length≠k+m then 160 else if (aBZ l).1=0 then 161 else if (aBZ l).2=false then 162 else if m<(zerL l).length then 9 else 0
theorem parS_ok{k m:Nat}{l:List Nat}(h:parS k m l=0):l.length=k+m∧1≤(aBZ l).1∧(∀x∈l,x=0∨x=(aBZ l).1)∧(zerL l).length≤m:=by
 unfold parS at h
 by_cases h1:l.length≠k+m
 ·rw[if_pos h1]at h;cases h
 rw[if_neg h1]at h
 by_cases h2:(aBZ l).1=0
 ·rw[if_pos h2]at h;cases h
 rw[if_neg h2]at h
 by_cases h3:(aBZ l).2=false
 ·rw[if_pos h3]at h;cases h
 rw[if_neg h3]at h
 by_cases h4:m<(zerL l).length
 ·rw[if_pos h4]at h;cases h
 exact⟨by omega,by omega,(scan_even l (0,true) (by unfold aBZ at h3;simpa using h3)).2.2,by omega⟩
theorem parS_uni{k m n:Nat}{l:List Nat}(hl:l.length=k+m)(hn:1≤n)(h:∀x∈l,x=0∨x=n)(h1:∃x∈l,x≠0):parS k m l=if m<(zerL l).length then 9 else 0:=by
 unfold parS
 rw[scan_uni hn h h1,if_neg (by omega),if_neg (by show ¬n=0;omega),if_neg (by simp)]
theorem lengths_gen{w:World}{s:Sl}{hs:List Sl}(hr:Rds slV w s hs)(hl:hs.length≤65536)(hn:∀h∈hs,h.len≤140737488355328):
  Cl Tryz.prog 59 #[.slice s.base s.len s.cap] (.tup [.at (.int .i64),.at .sl,.at .bool]) (fun x w'=>∃se,x=(((aBZ (hs.map Sl.len)).1:Int),se,(aBZ (hs.map Sl.len)).2,())∧Own aOZ 3 w.heap.size w' se (aLZ hs hs.length)∧Ex w w') w:=by
 refine shape_lengths.run _ s w ?_
 generalize hRR:(fun(e:Ending) (w':World)=>∃x:Int×Sl×Bool×Unit,e=.returned ((Sh.tup [.at (.int .i64),.at .sl,.at .bool]).enc x)∧∃se,x=(((aBZ (hs.map Sl.len)).1:Int),se,(aBZ (hs.map Sl.len)).2,())∧Own aOZ 3 w.heap.size w' se (aLZ hs hs.length)∧Ex w w')=R
 unfold shape_lengths.M shape_lengths.l1
 have hsl:=hr.1
 refine acZ (fun st w'=>∃(i:Nat) (q:Sl),st=(((aBZ ((hs.map Sl.len).take i)).1:Int),q,(aBZ ((hs.map Sl.len).take i)).2,s,((s.len:Nat):Int),(i:Int),())∧i≤hs.length∧Own aOZ 3 w.heap.size w' q (aLZ hs i)∧Ex w w') (fun st _=>(((s.len:Nat):Int)-st.2.2.2.2.2.1).toNat) ?_
  ⟨0,⟨none,0,0⟩,rfl,Nat.zero_le _,Own.nil _ _ _ _,Ex.refl _⟩
 rintro k _ w1 ⟨i,q,rfl,hi,ho,hx⟩ hk
 unfold shape_lengths.b1
 dsimp only at hk ⊢
 refine abZ (fun hlt=>?_) (fun hge=>?_)
 ·obtain⟨h,hh⟩:=atx (l:=hs) (i:=i) (by omega)
  refine atZ (hr.ex hx) hh ?_
  have hhn:=hn h (List.mem_of_getElem? hh)
  have hel:=emptyL_len hs i
  have hsn:aBZ ((hs.map Sl.len).take (i+1))=scan (aBZ ((hs.map Sl.len).take i)) h.len:=by
   rw[List.take_add_one,List.getElem?_map,hh]
   exact scanL_snoc _ _
  have next:∀(q':Sl) (len:Int) (ev:Bool) (w':World),Own aOZ 3 w.heap.size w' q' (aLZ hs (i+1))→Ex w w'→len=((scan (aBZ ((hs.map Sl.len).take i)) h.len).1:Int)→ev=(scan (aBZ ((hs.map Sl.len).take i)) h.len).2→shape_lengths.j1 R k len q' ev s ((s.len:Nat):Int) (i:Int) w':=by
   intro q' len ev w' h1 h2 h3 h4
   unfold shape_lengths.j1
   rw[adZ (by omega) (by omega),show(i:Int)+1=((i+1:Nat):Int) by omega]
   exact hk _ _ ⟨i+1,q',by rw[hsn,h3,h4],by omega,h1,h2⟩ (by dsimp only;omega)
  generalize aBZ ((hs.map Sl.len).take i)=st at next hsn
  refine aJZ (fun h0=>?_) (fun h0=>?_)
  ·have he:aLZ hs (i+1)=aLZ hs i++[i]:=by rw[emptyL_succ,if_pos ⟨h,hh,by omega⟩]
   refine append_one ho hx (by omega) fun q' w2 ho2 hx2=>?_
   have e:scan st h.len=st:=by unfold scan;rw[if_pos (by omega)]
   exact next q' _ _ w2 (by rw[he];exact ho2) hx2 (by rw[e]) (by rw[e])
  ·have he:aLZ hs (i+1)=aLZ hs i:=by rw[emptyL_succ,if_neg (fun⟨h',hh',h0'⟩=>by rw[hh]at hh';cases hh';omega),List.append_nil]
   have nx:=fun len ev=>next q len ev w1 (by rw[he];exact ho) hx
   refine aJZ (fun hz=>?_) (fun hz=>aEZ (fun hne=>?_) (fun hee=>?_))
   ·have e:scan st h.len=(h.len,st.2):=by unfold scan;rw[if_neg (by omega),if_pos (by omega)]
    exact nx _ _ (by rw[e]) (by rw[e])
   ·have e:scan st h.len=(st.1,st.2&&decide (st.1=h.len)):=by unfold scan;rw[if_neg (by omega),if_neg (by omega)]
    exact nx _ _ (by rw[e]) (by rw[e,decide_eq_false (by omega)];simp)
   ·have e:scan st h.len=(st.1,st.2&&decide (st.1=h.len)):=by unfold scan;rw[if_neg (by omega),if_neg (by omega)]
    exact nx _ _ (by rw[e]) (by rw[e,decide_eq_true (by omega)];simp)
 ·have hil:i=hs.length:=by omega
  subst hil
  subst hRR
  rw[List.take_of_length_le (by simp)]
  exact⟨_,rfl,q,rfl,ho,hx⟩
theorem counted_gen{f:Int}{k m:Nat}{s:Sl}(hf:f=0∨f=1)(hk1:1≤k)(hm1:1≤m)(hkm:k+m≤256)(w:World):Gv Tryz.prog 58 #[.int .i64 f,.int .i64 (k:Int),.int .i64 (m:Int),.slice s.base s.len s.cap] (.int .i64 (if s.len=k+m then 0 else 160)) w:=by
 refine shape_counted.run _ f (k:Int) (m:Int) s w ?_
 unfold shape_counted.M
 refine auZ (d:=.one (.at (.int .i64))) (x:=0) (params_gv hf hk1 hm1 hkm w) fun w1 hx1=>aAZ ?_
 rw[adZ (by omega) (by omega)]
 refine aEZ (fun h=>⟨?_,hx1⟩) (fun h=>⟨?_,hx1⟩)
 ·rw[if_neg (by omega)]
 ·rw[if_pos (by omega)]
theorem partial_gen{w:World}{s:Sl}{hs:List Sl}{f:Int}{k m:Nat}(hr:Rds slV w s hs)(hn:∀h∈hs,h.len≤140737488355328)(hf:f=0∨f=1)(hk1:1≤k)(hm1:1≤m)(hkm:k+m≤256):
  Cl Tryz.prog 61 #[.int .i64 f,.int .i64 (k:Int),.int .i64 (m:Int),.slice s.base s.len s.cap] (.tup [.at (.int .i64),.at .sl,.at (.int .i64)]) (fun x w'=>Ex w w'∧((parS k m (hs.map Sl.len)≠0∧x=(0,⟨none,0,0⟩,parS k m (hs.map Sl.len),()))∨
   (parS k m (hs.map Sl.len)=0∧∃se,x=(((aBZ (hs.map Sl.len)).1:Int),se,0,())∧Own aOZ 3 w.heap.size w' se (zerL (hs.map Sl.len))))) w:=by
 refine shape_Partial.run _ f (k:Int) (m:Int) s w ?_
 have hsl:=hr.1
 generalize hRR:(fun(e:Ending) (w':World)=>∃x:Int×Sl×Int×Unit,e=.returned ((Sh.tup [.at (.int .i64),.at .sl,.at (.int .i64)]).enc x)∧Ex w w'∧((parS k m (hs.map Sl.len)≠0∧x=(0,⟨none,0,0⟩,parS k m (hs.map Sl.len),()))∨
   (parS k m (hs.map Sl.len)=0∧∃se,x=(((aBZ (hs.map Sl.len)).1:Int),se,0,())∧Own aOZ 3 w.heap.size w' se (zerL (hs.map Sl.len)))))=R
 have bad:∀{w':World} {c:Int},parS k m (hs.map Sl.len)=c→c≠0→Ex w w'→R (.returned (.tuple #[.int .i64 0,.slice none 0 0,.int .i64 c])) w':=by
  intro w' c h1 h2 h3
  subst hRR
  exact⟨(0,⟨none,0,0⟩,c,()),rfl,h3,.inl ⟨by rw[h1];exact h2,by rw[h1]⟩⟩
 have hpe:parS k m (hs.map Sl.len)=(if hs.length≠k+m then 160 else if (aBZ (hs.map Sl.len)).1=0 then 161 else if (aBZ (hs.map Sl.len)).2=false then 162 else if m<(zerL (hs.map Sl.len)).length then 9 else 0):=by unfold parS;rw[List.length_map]
 unfold shape_Partial.M
 refine auZ (d:=.one (.at (.int .i64))) (x:=if s.len=k+m then 0 else 160) (counted_gen hf hk1 hm1 hkm w) fun w1 hx1=>?_
 by_cases hc:hs.length=k+m
 ·rw[if_pos (by omega)]
  rw[if_neg (by omega)]at hpe
  refine aAZ ?_
  refine aeZ (lengths_gen (hr.ex hx1) (by omega) hn) ?_
  rintro _ w2 ⟨se,rfl,ho,hx2⟩
  rw[empty_zer]at ho
  have hse:=ho.1
  dsimp only
  have hx12:=hx1.trans hx2
  refine aJZ (fun h=>bad (by rw[hpe,if_pos (by omega)]) (by decide) hx12) (fun h=>?_)
  rw[if_neg (by omega)]at hpe
  cases hev:(aBZ (hs.map Sl.len)).2 with
  | false=>
   rw[hev,if_pos rfl]at hpe
   exact Cd_t (bad hpe (by decide) hx12)
  | true=>
   rw[hev,if_neg (by simp)]at hpe
   refine aAZ ?_
   refine auZ (d:=.one (.at .bool)) (x:=false) (odd_gv hf w2) fun w3 hx3=>aAZ ?_
   have hx:=hx12.trans hx3
   refine abZ (fun h4=>bad (by rw[hpe,if_pos (by omega)]) (by decide) hx) (fun h4=>?_)
   rw[if_neg (by omega)]at hpe
   subst hRR
   exact⟨(_,se,0,()),rfl,hx,.inr ⟨hpe,se,rfl,(ho.weak hx1.size).ex hx3⟩⟩
 ·rw[if_neg (by omega)]
  rw[if_pos hc]at hpe
  exact Cd_t (bad hpe (by decide) hx1)
end Go.Proofs.YtbiilejgfihohaaGreat
namespace Go.Proofs.YtbiilejgfihohaaGreat
open Go Go.Cu Go.RowKit
def alZ(M:Mtx):List Nat:=(List.range M.length).filter (fun i=>decide ((M.getD i []).length=0))
theorem mem_missL{M:Mtx}{x:Nat}:x∈alZ M↔x<M.length∧(M.getD x []).length=0:=by
 unfold alZ
 rw[List.mem_filter,List.mem_range,decide_eq_true_iff]
theorem missL_num(M:Mtx):NumL M.length (alZ M):=by
 have hp:(alZ M).Pairwise (· < ·):=List.Pairwise.sublist (List.filter_sublist (l:=List.range M.length)) List.pairwise_lt_range
 refine⟨fun x hx=>(mem_missL.1 hx).1,fun i x y h1 h2=>?_⟩
 rw[List.pairwise_iff_getElem]at hp
 obtain⟨a1,e1⟩:=List.getElem?_eq_some_iff.1 h1
 obtain⟨a2,e2⟩:=List.getElem?_eq_some_iff.1 h2
 have:=hp i (i+1) a1 a2 (by omega)
 rw[e1,e2]at this
 exact this
def presL(k:Nat)(n:Nat)(L:List Nat):List Nat:=(aIZ n L).take k
def usedM(M:Mtx)(P:List Nat):Mtx:=P.map (fun i=>M.getD i [])
def bUZ(da:Bool)(k n:Nat)(U:Mtx)(LD:List (Nat×List F8))(M:Mtx):Mtx:=LD.foldl (fun M p=>if da&&decide (k≤p.1) then M else M.set p.1 (baZ n p.2 U)) M
theorem giveM_len(da:Bool)(k n:Nat)(U:Mtx):∀(LD:List (Nat×List F8)) (M:Mtx),(bUZ da k n U LD M).length=M.length
 | [],M=>rfl
 | p::LD,M=>by
  unfold bUZ
  rw[List.foldl_cons]
  have:=giveM_len da k n U LD (if da&&decide (k≤p.1) then M else M.set p.1 (baZ n p.2 U))
  unfold bUZ at this
  rw[this]
  split
  ·rfl
  ·rw[List.length_set]
theorem giveM_snoc(da:Bool)(k n:Nat)(U:Mtx)(LD:List (Nat×List F8))(p:Nat×List F8)(M:Mtx):bUZ da k n U (LD++[p]) M=if da&&decide (k≤p.1) then bUZ da k n U LD M else (bUZ da k n U LD M).set p.1 (baZ n p.2 U):=by
 unfold bUZ
 rw[List.foldl_append]
 rfl
theorem giveM_at(da:Bool)(k n:Nat)(U:Mtx)(x:Nat):∀(LD:List (Nat×List F8)) (M:Mtx),(∀p∈LD,p.1≠x)→(bUZ da k n U LD M)[x]? =M[x]?
 | [],M,_=>rfl
 | p::LD,M,h=>by
  unfold bUZ
  rw[List.foldl_cons]
  have:=giveM_at da k n U x LD (if da&&decide (k≤p.1) then M else M.set p.1 (baZ n p.2 U)) (fun q hq=>h q (by simp[hq]))
  unfold bUZ at this
  rw[this]
  split
  ·rfl
  ·rw[List.getElem?_set_ne (h p (by simp))]
def GvK(j:Nat)(q:Ky):Prop:=PlK j q∨q=.rs 2∨q=.rk 2∨q=.ps 2
structure Shx(X:List Sl→Mtx→Th)(s:Sl):Prop where
 mat:∀{W0 w:World} {T:Ths} {k:Ky} {hs:List Sl} {M:Mtx},Sep W0 w T→T k=X hs M→MatR w s hs M
 blk:∀{w:World} {F:Nat→Prop} {hs:List Sl} {M:Mtx} {i:Nat} {g:Sl},(X hs M).h w F→hs[i]? =some g→∀y,SlIn g y→F y
 put:∀{W0 w w1:World} {T:Ths} {k:Ky} {hs:List Sl} {M:Mtx} {h:Sl} {r:List F8} {i:Nat} {ik:IntKind} {K:World→Prop},Sep W0 w T→T k=X hs M→Ex w w1→Own f8v 5 w.heap.size w1 h r→i<hs.length→(∀w',Sep W0 w' (T.up k (X (hs.set i h) (M.set i r)))→K w')→
  Pu Tryz.prog (Instr.indexAt 30 (.slice s.base s.len s.cap) (.int ik (i:Int))) (.one (.at .addr)) (fun a w2=>Wu Tryz.prog (Instr.storeAt 24 (.pointer (some a)) (slV h)) K w2) w1
theorem shx_sh(s:Sl):Shx (ShT s) s:=
 ⟨fun hS hk=>bdZ hS hk,fun ht hg y hy=>(ht.apt _ _ hg y hy).2,fun hS hk hx ho hi hK=>Wu_set (f:=slV) (sh_get (hS.exx hx) hk).1 hi tBB sS sS rfl rfl fun w' hO hm=>hK w' (sh_new hS hk hx ho hi hO hm)⟩
theorem matR_lens{w:World}{s:Sl}{hs:List Sl}{M:Mtx}(h:MatR w s hs M):hs.map Sl.len=M.map List.length:=by
 refine List.ext_getElem? fun i=>?_
 rw[List.getElem?_map,List.getElem?_map]
 by_cases hi:i<hs.length
 ·obtain⟨g,hg⟩:=atx hi
  obtain⟨r,hr⟩:=atx (l:=M) (i:=i) (by rw[←h.len];exact hi)
  rw[hg,hr]
  show some g.len=some r.length
  rw[(h.row i g r hg hr).1]
 ·rw[List.getElem?_eq_none (by omega),List.getElem?_eq_none (by rw[←h.len];omega)]
  rfl
theorem miss_zer(M:Mtx):alZ M=zerL (M.map List.length):=by
 unfold alZ zerL
 rw[List.length_map]
 refine List.filter_congr fun j hj=>?_
 obtain⟨r,hr⟩:=atx (l:=M) (i:=j) (List.mem_range.1 hj)
 rw[List.getElem?_map,List.getD_eq_getElem?_getD,hr]
 simp
theorem scan_le{M:Mtx}(hn1:1≤(aBZ (M.map List.length)).1)(hrl:∀x∈M,x.length≤140737488355328)(hMn:∀x∈M,x.length=0∨x.length=(aBZ (M.map List.length)).1):(aBZ (M.map List.length)).1≤140737488355328:=by
 refine Classical.byContradiction fun hc=>?_
 have hz:∀x∈M.map List.length,x=0:=fun x hx=>by
  obtain⟨r,hr,rfl⟩:=List.mem_map.1 hx
  have:=hrl r hr
  rcases hMn r hr with h | h
  ·exact h
  ·omega
 have hall:∀(l:List Nat),(∀x∈l,x=0)→aBZ l=(0,true):=fun l hl=>by
  unfold aBZ
  rcases scan_one (n:=1) (by omega) l (0,true) (.inl rfl) (fun x hx=>.inl (hl x hx)) with e | e
  ·exact absurd (scan_one (n:=2) (by omega) l (0,true) (.inl rfl) (fun x hx=>.inl (hl x hx))) (by rw[e];simp)
  ·exact e
 rw[hall _ hz]at hn1
 exact absurd hn1 (by decide)
theorem give_gen{X:List Sl→Mtx→Th}{W0 w:World}{T:Ths}{j:Nat}{a:CodA}{f:Int}{k m b:Nat}{Q M:Mtx}{es:List Tr.Ent}{clock:Int}{ks:Ky}{s:Sl}{hs:List Sl}(da:Bool)(hX:Shx X s)(hS:Sep W0 w T)(hC:Cod T j a f k m b Q es clock)(hk:T ks=X hs M)(hkb:∀i,ks≠.bx i)(hkg:¬GvK j ks)
  (hrl:∀x∈M,x.length≤140737488355328) (hcl:clock<4611686018427387904):
  Cl Tryz.prog 39 #[.pointer (at0 a.cp),.slice s.base s.len s.cap,.bool da] (.one (.at (.int .i64))) (fun x w'=>(parS k m (M.map List.length)≠0∧x=parS k m (M.map List.length)∧Sep W0 w' T)∨(parS k m (M.map List.length)=0∧alZ M=[]∧x=0∧Sep W0 w' T)∨
   (parS k m (M.map List.length)=0∧alZ M≠[]∧x=0∧∃T' hs' D es' clock',Sep W0 w' T'∧decM k (gM k Q) (presL k (k+m) (alZ M)) (alZ M)=some D∧T' ks=X hs' (bUZ da k (aBZ (M.map List.length)).1 (usedM M (presL k (k+m) (alZ M))) ((alZ M).zip D) M)∧Cod T' j a f k m b Q es' clock'∧clock'≤clock+1∧UseK es es' (alZ M)∧∀q,¬GvK j q→q≠ks→T' q=T q)) w:=by
 refine mC_give.run _ (at0 a.cp) s da w ?_
 generalize hRR:(fun(e:Ending) (w':World)=>∃x:Int,e=.returned ((Sh.one (.at (.int .i64))).enc x)∧((parS k m (M.map List.length)≠0∧x=parS k m (M.map List.length)∧Sep W0 w' T)∨(parS k m (M.map List.length)=0∧alZ M=[]∧x=0∧Sep W0 w' T)∨
   (parS k m (M.map List.length)=0∧alZ M≠[]∧x=0∧∃T' hs' D es' clock',Sep W0 w' T'∧decM k (gM k Q) (presL k (k+m) (alZ M)) (alZ M)=some D∧T' ks=X hs' (bUZ da k (aBZ (M.map List.length)).1 (usedM M (presL k (k+m) (alZ M))) ((alZ M).zip D) M)∧Cod T' j a f k m b Q es' clock'∧clock'≤clock+1∧UseK es es' (alZ M)∧∀q,¬GvK j q→q≠ks→T' q=T q)))=R
 unfold mC_give.M
 have hMR:=hX.mat hS hk
 have hB:=hC.cel hS
 have hkm:=hC.hkm
 have hk1:=hC.hk1
 have hm1:=hC.hm1
 have hlens:=matR_lens hMR
 refine Pu_codnil (aAZ ?_)
 have hd:=Ex.drew w
 refine asZ (fun w'=>Has w' a.cp (codV a f k m) 78) (hB.ex hd) ?_
 refine agZ (akZ (c:=.int .i64) (x:=f) (fun w' h=>h) (by kernel_rfl) rfl ?_)
 refine agZ (akZ (c:=.int .i64) (x:=(k:Int)) (B:=a.cp) (i:=1) (fun w' h=>h) (by kernel_rfl) rfl ?_)
 refine agZ (akZ (c:=.int .i64) (x:=(m:Int)) (B:=a.cp) (i:=2) (fun w' h=>h) (by kernel_rfl) rfl ?_)
 refine aeZ (partial_gen (hMR.hdr.ex hd) (fun h hh=>?_) hC.hf hk1 hm1 hkm) ?_
 ·obtain⟨i,hi⟩:=List.mem_iff_getElem?.1 hh
  obtain⟨r,hr⟩:=atx (l:=M) (i:=i) (by rw[←hMR.len];exact(List.getElem?_eq_some_iff.1 hi).1)
  rw[(hMR.row i h r hi hr).1]
  exact hrl r (List.mem_of_getElem? hr)
 rw[hlens,←miss_zer]
 rintro⟨xn,se,xe,_⟩ w2 ⟨hx2,⟨hpe,hxe⟩ | ⟨hp0,se',hxe,hse⟩⟩
 ·cases hxe
  have hS2:=(hS.exx hd).exx hx2
  refine⟨hC.cel hS2,?_⟩
  unfold mC_give.j1
  refine aEZ (fun _=>?_) (fun h=>absurd h hpe)
  unfold mC_give.j2
  refine Cd_t ?_
  subst hRR
  exact⟨_,rfl,.inl ⟨hpe,rfl,hS2⟩⟩
 cases hxe
 obtain⟨hM,hn1,hMn,hlm⟩:=parS_ok hp0
 rw[List.length_map]at hM
 rw[←miss_zer]at hlm
 have hMn:∀x∈M,x.length=0∨x.length=(aBZ (M.map List.length)).1:=fun x hx=>hMn _ (List.mem_map.2 ⟨x,hx,rfl⟩)
 have hn2:(aBZ (M.map List.length)).1≤140737488355328:=scan_le hn1 hrl hMn
 generalize (aBZ (M.map List.length)).1=n at*
 have hhl:hs.length=k+m:=by rw[hMR.len,hM]
 have hLn:NumL (k+m) (alZ M):=by rw[←hM];exact missL_num M
 have hS1:=hS.exx hd
 refine⟨hC.cel (hS1.exx hx2),?_⟩
 have hsel:=hse.1
 unfold mC_give.j1
 refine aAZ ?_
 unfold mC_give.j2
 dsimp only
 refine aJZ (fun h0=>?_) (fun h0=>?_)
 ·subst hRR
  exact⟨0,rfl,.inr (.inl ⟨hp0,List.eq_nil_of_length_eq_zero (by omega),rfl,hS1.exx hx2⟩)⟩
 have hl1:1≤(alZ M).length:=by omega
 have hS2:=int_own (.rs 2) hS1 hx2 hse (by omega)
 have gv2:∀{q:Ky},¬GvK j q→q≠.rs 2∧q≠.rk 2∧q≠.ps 2∧¬PlK j q:=fun h=>⟨fun e=>h (.inr (.inl e)),fun e=>h (.inr (.inr (.inl e))),fun e=>h (.inr (.inr (.inr e))),fun e=>h (.inl e)⟩
 obtain⟨ks2,ks3,ks4,ks5⟩:=gv2 hkg
 have plN:∀q:Ky,q=.rs 2∨q=.rk 2∨q=.ps 2→¬PlK j q:=by
  rintro q (rfl | rfl | rfl) h <;> unfold PlK GnK at h <;> simp at h
 have hC2:Cod (T.up (.rs 2) (IntT se (alZ M))) j a f k m b Q es clock:=hC.next (fun i=>Ths.up_ne _ _ (by simp))
 refine aeZ (plan_ok (km:=.rs 2) (sl:=se) (L:=alZ M) hS2 hC2 (plN _ (.inl rfl)) (fun w' F h=>by rw[Ths.up_same]at h;exact int_props h) hLn hl1 hlm hcl) ?_
 rintro _ w3 ⟨sm,su,sr,hsr,D,T3,es',clock',rfl,hS3,hD,h3m,h3u,h3r,hC3,hcl',hone,hT3⟩
 have hDs:Shp D (alZ M).length k:=by
  obtain⟨hQs,hMds⟩:=hC.shp
  obtain⟨D',h1,h2⟩:=plan_dec (f:=f) hQs hMds hLn hlm
  rw[hD]at h1
  cases h1
  exact h2
 have h3k:T3 ks=X hs M:=by rw[hT3 ks ks5,Ths.up_ne _ _ ks2];exact hk
 have hT3':∀q,¬GvK j q→T3 q=T q:=fun q hq=>by rw[hT3 q (gv2 hq).2.2.2,Ths.up_ne _ _ (gv2 hq).1]
 refine alloc4 fun w4 hB4 hx4=>?_
 dsimp only
 refine sto4 (x:=(sm,su,sr,⟨none,0,0⟩,())) hB4 rfl fun w5 hB5 hm5=>?_
 have hx35:Ex w3 w5:=hx4.into hm5 (fun i hi=>by omega)
 have hS5:=hS3.new (.ps 2) (t:=Cel w3.heap.size (afZ P4 (sm,su,sr,⟨none,0,0⟩,())) 49) (G:=fun b=>b=w3.heap.size) hx35 ⟨hB5,rfl⟩ (fun b hb=>by subst hb;exact⟨Nat.le_refl _,hB5.lt⟩)
 refine aAZ ?_
 generalize w3.heap.size=pb at hB5 hS5 ⊢
 have eadd1:(⟨pb,0,none⟩:Addr).add 1=⟨pb,1,none⟩:=rfl
 rw[eadd1]
 refine ajZ (c:=.sl) (x:=su) (B:=pb) (i:=1) hB5 (by kernel_rfl) rfl ?_
 have hul:=(int_get hS3 h3u).1
 have hll:=lostL_length hLn
 have hPl:(presL k (k+m) (alZ M)).length=k:=by unfold presL;rw[List.length_take];omega
 have hPe:(aIZ (k+m) (alZ M)).take k=presL k (k+m) (alZ M):=rfl
 rw[hPe]at h3u hul hD
 generalize hP:presL k (k+m) (alZ M)=P at*
 have hPm:∀u∈P,u<k+m∧u∉alZ M:=fun u hu=>by rw[←hP]at hu;exact mem_lostL.1 (List.mem_of_mem_take hu)
 refine bOZ (f:=slV) (z:=⟨none,0,0⟩) tBB iS rfl k (by omega) (by omega) (by omega) (by omega) fun used w6 hus hB6 hx6=>?_
 have hO6:Own slV 24 w5.heap.size w6 used (List.replicate k ⟨none,0,0⟩):=by rw[hus];exact blZ (by simp) (by omega) hB6 (Nat.le_refl _)
 have hS6:=hS5.newOwn (.rk 2) hx6 hO6
 refine ajZ (c:=.sl) (x:=su) (B:=pb) (i:=1) (hB5.ex hx6) (by kernel_rfl) rfl ?_
 generalize hT6e:(T3.up (.ps 2) (Cel pb (afZ P4 (sm,su,sr,⟨none,0,0⟩,())) 49))=T5 at hS5 hS6
 have hT5:∀q,q≠.ps 2→T5 q=T3 q:=fun q h=>by rw[←hT6e];exact Ths.up_ne _ _ h
 have h5p:T5 (.ps 2)=Cel pb (afZ P4 (sm,su,sr,⟨none,0,0⟩,())) 49:=by rw[←hT6e];exact Ths.up_same _ _ _
 have hhuE:∃hu:List Sl,hu=P.map (fun u=>hs.getD u ⟨none,0,0⟩):=⟨_,rfl⟩
 obtain⟨hu,hhu⟩:=hhuE
 have hhul:hu.length=k:=by rw[hhu,List.length_map,hPl]
 have hhui:∀(i u:Nat) (h:Sl),P[i]? =some u→hs[u]? =some h→hu[i]? =some h:=fun i u h h1 h2=>by rw[hhu,List.getElem?_map,h1];show some (hs.getD u _)=_;rw[List.getD_eq_getElem?_getD,h2];rfl
 unfold mC_give.l1
 have hNN:∀{q:Ky},q=.rk 2∨q=.ps 2→q≠ks:=by rintro q (rfl | rfl) e <;> first | exact ks3 e.symm | exact ks4 e.symm
 refine acZ (fun st w'=>∃(i:Nat) (T':Ths),st=(at0 a.cp,s,da,(n:Int),⟨pb,0,none⟩,used,su,((su.len:Nat):Int),(i:Int),())∧i≤k∧Sep W0 w' T'∧T' (.rk 2)=Owt slV 24 used (hu.take i++List.replicate (k-i) ⟨none,0,0⟩)∧∀q,q≠.rk 2→T' q=T5 q) (fun st _=>(((su.len:Nat):Int)-st.2.2.2.2.2.2.2.2.1).toNat) ?_
  ⟨0,_,rfl,Nat.zero_le _,hS6,by rw[Ths.up_same];simp,fun q h=>Ths.up_ne _ _ h⟩
 rintro kk _ w7 ⟨i,T7,rfl,hi,hS7,hu7,hT7⟩ hkk
 unfold mC_give.b1
 dsimp only at hkk ⊢
 refine abZ (fun hlt=>?_) (fun hge=>?_)
 ·have hik:i<k:=by omega
  obtain⟨u,hui⟩:=atx (l:=P) (i:=i) (by omega)
  obtain⟨hul1,hul2⟩:=hPm u (List.mem_of_getElem? hui)
  obtain⟨h,hh⟩:=atx (l:=hs) (i:=u) (by omega)
  have h7u:T7 (.rs 1)=IntT su P:=by rw[hT7 _ (by simp),hT5 _ (by simp)];exact h3u
  have h7k:T7 ks=X hs M:=by rw[hT7 _ (fun e=>ks3 e),hT5 _ (fun e=>ks4 e)];exact h3k
  refine rd_nat (int_get hS7 h7u) hui ?_
  refine atZ (hX.mat hS7 h7k).hdr hh ?_
  have hO7:=hS7.owt hu7
  have hcl7:(hu.take i++List.replicate (k-i) (⟨none,0,0⟩:Sl)).length=k:=by rw[List.length_append,List.length_take,List.length_replicate];omega
  refine Wu_set (f:=slV) (x:=h) (i:=i) hO7 (by omega) tBB sS sS rfl rfl fun w8 hO8 hm8=>?_
  have hS8:=hS7.grow hu7 hO8 hm8 (fun b hb=>.inl hb)
  have e:(hu.take i++List.replicate (k-i) (⟨none,0,0⟩:Sl)).set i h=hu.take (i+1)++List.replicate (k-(i+1)) ⟨none,0,0⟩:=by
   have hr:List.replicate (k-i) (⟨none,0,0⟩:Sl)=(List.replicate k ⟨none,0,0⟩).drop i:=by rw[List.drop_replicate]
   have hr2:List.replicate (k-(i+1)) (⟨none,0,0⟩:Sl)=(List.replicate k ⟨none,0,0⟩).drop (i+1):=by rw[List.drop_replicate]
   rw[hr,hr2]
   exact stepG (by simp[hhul]) (hhui i u h hui hh)
  rw[e]at hS8
  rw[adZ (by omega) (by omega),show(i:Int)+1=((i+1:Nat):Int) by omega]
  exact hkk _ _ ⟨i+1,_,rfl,by omega,hS8,Ths.up_same _ _ _,fun q h=>by rw[Ths.up_ne _ _ h];exact hT7 q h⟩ (by dsimp only;omega)
 clear hkk
 have hik:i=k:=by omega
 subst hik
 rw[Nat.sub_self,List.replicate_zero,List.append_nil,List.take_of_length_le (by omega)]at hu7
 have h7p:T7 (.ps 2)=Cel pb (afZ P4 (sm,su,sr,⟨none,0,0⟩,())) 49:=(hT7 _ (by simp)).trans h5p
 refine ajZ (c:=.sl) (x:=sm) (B:=pb) (i:=0) (hS7.has h7p) (by kernel_rfl) rfl ?_
 have h7m:T7 (.rs 0)=IntT sm (alZ M):=by rw[hT7 _ (by simp),hT5 _ (by simp)];exact h3m
 have h7r:T7 (.mx 1 0)=ShT sr hsr D:=by rw[hT7 _ (by simp),hT5 _ (by simp)];exact h3r
 have h7k:T7 ks=X hs M:=by rw[hT7 _ (fun e=>ks3 e),hT5 _ (fun e=>ks4 e)];exact h3k
 have hsml:=(int_get hS7 h7m).1
 have hC7:Cod T7 j a f i m b Q es' clock':=hC3.next (fun i=>by rw[hT7 _ (by simp),hT5 _ (by simp)])
 have hT7':∀q,¬GvK j q→T7 q=T q:=fun q hq=>by rw[hT7 q (gv2 hq).2.1,hT5 q (gv2 hq).2.2.1];exact hT3' q hq
 have ks0:ks≠.rs 0:=fun e=>ks5 (by unfold PlK;simp[e])
 have ksm:ks≠.mx 1 0:=fun e=>ks5 (by unfold PlK;simp[e])
 have hLDl:((alZ M).zip D).length=(alZ M).length:=by rw[List.length_zip,hDs.1,Nat.min_self]
 generalize hU:usedM M P=U at*
 have hUn:∀x∈U,x.length=n:=by
  intro x hx
  rw[←hU]at hx
  unfold usedM at hx
  obtain⟨u,hu1,rfl⟩:=List.mem_map.1 hx
  obtain⟨g1,g2⟩:=hPm u hu1
  obtain⟨r,hr⟩:=atx (l:=M) (i:=u) (by omega)
  have e:M.getD u []=r:=by rw[List.getD_eq_getElem?_getD,hr];rfl
  rcases hMn r (List.mem_of_getElem? hr) with h | h
  ·exact absurd (mem_missL.2 ⟨by omega,by rw[e];exact h⟩) g2
  ·rw[e];exact h
 have hUl:U.length=i:=by rw[←hU];unfold usedM;rw[List.length_map,hPl]
 unfold mC_give.l2
 refine acZ (fun st w'=>∃(r:Nat) (T':Ths) (hs':List Sl),st=(at0 a.cp,s,da,(n:Int),⟨pb,0,none⟩,used,sm,((sm.len:Nat):Int),(r:Int),())∧r≤(alZ M).length∧Sep W0 w' T'∧T' ks=X hs' (bUZ da i n U (((alZ M).zip D).take r) M)∧
   (∀u∈P,hs'[u]? =hs[u]?)∧∀q,q≠ks→T' q=T7 q) (fun st _=>(((sm.len:Nat):Int)-st.2.2.2.2.2.2.2.2.1).toNat) ?_ ⟨0,T7,hs,rfl,Nat.zero_le _,hS7,h7k,fun _ _=>rfl,fun _ _=>rfl⟩
 rintro k2 _ w8 ⟨r,T8,hs8,rfl,hr,hS8,hk8,hP8,hT8⟩ hk2
 unfold mC_give.b2
 dsimp only at hk2 ⊢
 have h8m:T8 (.rs 0)=IntT sm (alZ M):=(hT8 _ ks0.symm).trans h7m
 have h8r:T8 (.mx 1 0)=ShT sr hsr D:=(hT8 _ ksm.symm).trans h7r
 have h8u:T8 (.rk 2)=Owt slV 24 used hu:=(hT8 _ (hNN (.inl rfl))).trans hu7
 have h8p:T8 (.ps 2)=Cel pb (afZ P4 (sm,su,sr,⟨none,0,0⟩,())) 49:=(hT8 _ (hNN (.inr rfl))).trans h7p
 have hC8:Cod T8 j a f i m b Q es' clock':=hC7.next (fun i'=>hT8 _ (fun e=>hkb i' e.symm))
 refine abZ (fun hlt=>?_) (fun hge=>?_)
 ·have hrl:r<(alZ M).length:=by omega
  obtain⟨x,hxr⟩:=atx hrl
  obtain⟨dr,hdr⟩:=atx (l:=D) (i:=r) (by rw[hDs.1];exact hrl)
  have hxm:=mem_missL.1 (List.mem_of_getElem? hxr)
  have hLD:((alZ M).zip D)[r]? =some (x,dr):=by rw[List.getElem?_zip_eq_some];exact⟨hxr,hdr⟩
  have hsnoc:((alZ M).zip D).take (r+1)=((alZ M).zip D).take r++[(x,dr)]:=by rw[List.take_add_one,hLD];rfl
  refine rd_nat (int_get hS8 h8m) hxr ?_
  have next:∀{w':World} {T':Ths} {hs':List Sl},Sep W0 w' T'→T' ks=X hs' (bUZ da i n U (((alZ M).zip D).take (r+1)) M)→(∀u∈P,hs'[u]? =hs[u]?)→(∀q,q≠ks→T' q=T7 q)→mC_give.j3 R k2 (at0 a.cp) s da (n:Int) ⟨pb,0,none⟩ used sm ((sm.len:Nat):Int) (r:Int) w':=by
   intro w' T' hs' a1 a2 a3 a4
   unfold mC_give.j3
   rw[adZ (by omega) (by omega),show(r:Int)+1=((r+1:Nat):Int) by omega]
   exact hk2 _ _ ⟨r+1,T',hs',rfl,by omega,a1,a2,a3,a4⟩ (by dsimp only;omega)
  have step:∀t:Bool,t=(da&&decide (i≤x))→mC_give.j4 R k2 (at0 a.cp) s da (n:Int) ⟨pb,0,none⟩ used (r:Int) (x:Int) sm ((sm.len:Nat):Int) (r:Int) t w8:=by
   intro t ht
   unfold mC_give.j4
   refine Cd_of (fun hc=>?_) (fun hc=>?_)
   ·refine next hS8 ?_ hP8 hT8
    rw[hsnoc,giveM_snoc,←ht,hc,if_pos rfl]
    exact hk8
   ·refine Wr_mkwin (n:=n) (by omega) rfl rfl fun back w9 bcs hbl hWb hbcs hbcap hbb hx9=>?_
    generalize hbg:w8.heap.size=bg at hWb hbb
    have hd9:=Ex.drew w9
    have hx9':=hx9.trans hd9
    have hS9:=hS8.exx hx9'
    have hWb9:=hWb.ex hd9
    have hrows:=bdZ hS9 h8r
    refine asZ (fun w'=>Has w' a.cp (codV a f i m) 78∧Has w' pb (afZ P4 (sm,su,sr,⟨none,0,0⟩,())) 49∧Rds slV w' sr hsr) ⟨hC8.cel hS9,hS9.has h8p,hrows.hdr⟩ ?_
    refine agZ (akZ (c:=.ptr) (x:=at0 a.sp) (B:=a.cp) (i:=3) (fun w' h=>h.1) (by kernel_rfl) rfl ?_)
    rw[show(⟨pb,0,none⟩:Addr).add 2=⟨pb,2,none⟩ from rfl]
    refine akZ (c:=.sl) (x:=sr) (B:=pb) (i:=2) (fun w' h=>h.2.1) (by kernel_rfl) rfl ?_
    obtain⟨hrow,hhr⟩:=atx (l:=hsr) (i:=r) (by rw[hrows.len,hDs.1];exact hrl)
    refine aQZ hrows.hdr (fun w' h=>h.2.2) hhr ?_
    have old:∀{q:Ky} {F:Nat→Prop},(T8 q).h w8 F→True:=fun _=>trivial
    obtain⟨Fs,ts,bs,_⟩:=hS8.get _ hC8.c1
    obtain⟨Fr,tr,br,_⟩:=hS8.get _ h8r
    obtain⟨Fu,tu,bu,_⟩:=hS8.get _ h8u
    obtain⟨Fk,tk,bk,_⟩:=hS8.get _ hk8
    have hsmU:MatR w9.drew used hu U:=by
     have hM9:=hX.mat hS9 hk8
     refine⟨(hS9.owt h8u).rds,by rw[hhul,hUl],fun i' g rr g1 g2=>?_⟩
     obtain⟨u,hui⟩:=atx (l:=P) (i:=i') (by have:=(List.getElem?_eq_some_iff.1 g1).1;omega)
     obtain⟨e1,e2⟩:=hPm u (List.mem_of_getElem? hui)
     obtain⟨h,hh⟩:=atx (l:=hs) (i:=u) (by omega)
     have:=hhui i' u h hui hh
     rw[g1]at this
     cases this
     obtain⟨mr,hmr⟩:=atx (l:=M) (i:=u) (by omega)
     have e3:rr=mr:=by
      rw[←hU]at g2
      unfold usedM at g2
      rw[List.getElem?_map,hui]at g2
      have:some (M.getD u [])=some rr:=g2
      rw[List.getD_eq_getElem?_getD,hmr]at this
      exact(Option.some.inj this).symm
     subst e3
     refine hM9.row u g rr ((hP8 u (List.mem_of_getElem? hui)).trans hh) ?_
     rw[giveM_at _ _ _ _ u _ _ (fun p hp=>fun e=>e2 ?_)]
     ·exact hmr
     ·rw[←e]
      exact(List.of_mem_zip (List.mem_of_mem_take hp)).1
    refine aeZ (dot_ok (n:=n) (hC8.set hS9) (fun e=>by have:=(bs _ ts.2.1).2;omega) (fun e=>by have:=(bs _ ts.2.2).2;omega) (hrows.row r hrow dr hhr hdr) (fun y hy e=>by have:=(br y (tr.apt r hrow hhr y hy).2).2;omega) hsmU (fun y hy e=>by have:=(bu y (tu.2 y hy)).2;omega) (fun i' g hg y hy e=>?_) (by rw[hDs.2 dr (List.mem_of_getElem? hdr),hUl]) (by rw[hDs.2 dr (List.mem_of_getElem? hdr)];omega) hUn (by simp) hWb9 (by omega)) ?_
    ·obtain⟨u,hui⟩:=atx (l:=P) (i:=i') (by have:=(List.getElem?_eq_some_iff.1 hg).1;omega)
     obtain⟨e1,e2⟩:=hPm u (List.mem_of_getElem? hui)
     obtain⟨h,hh⟩:=atx (l:=hs) (i:=u) (by omega)
     have:=hhui i' u h hui hh
     rw[hg]at this
     cases this
     have:=(bk y (hX.blk tk ((hP8 u (List.mem_of_getElem? hui)).trans hh) y hy)).2
     omega
    rintro _ w10 ⟨rfl,hW10,hm10⟩
    have hx10:Ex w8 w10:=hx9'.into hm10 (fun y hy=>by omega)
    have hS10:=hS8.exx hx10
    refine⟨⟨hC8.cel hS10,hS10.has h8p,(bdZ hS10 h8r).hdr⟩,aAZ ?_⟩
    have hsumL:=sumRow_len (row:=dr) hUn
    have hO10:Own f8v 5 w8.heap.size w10 back (baZ n dr U):=hW10.own hbb (by omega) (by omega) (by rw[hbcap];show n≤9223372036854775807;omega)
    have h8len:hs8.length=i+m:=by rw[(hX.mat hS10 hk8).len,giveM_len,hM]
    refine hX.put (h:=back) (i:=x) hS8 hk8 hx10 hO10 (by omega) fun w11 hS11=>?_
    refine next (hs':=hs8.set x back) hS11 ?_ (fun u hu'=>?_) (fun q hq=>by rw[Ths.up_ne _ _ hq];exact hT8 q hq)
    ·rw[Ths.up_same,hsnoc,giveM_snoc,←ht,hc,if_neg (by simp)]
    ·have hne':x≠u:=fun e=>(hPm u hu').2 (e▸List.mem_of_getElem? hxr)
     rw[List.getElem?_set_ne hne']
     exact hP8 u hu'
  cases da with
  | true=>
   refine Cd_t (agZ ?_)
   refine ajZ (c:=.int .i64) (x:=(i:Int)) (B:=a.cp) (i:=1) (hC8.cel hS8) (by kernel_rfl) rfl ?_
   refine step _ ?_
   rw[Bool.true_and]
   by_cases h:i≤x
   ·rw[decide_eq_true h,decide_eq_true (by omega)]
   ·rw[decide_eq_false h,decide_eq_false (by omega)]
  | false=>
   refine aAZ ?_
   exact step _ (by rw[Bool.false_and])
 ·have hrl:r=(alZ M).length:=by omega
  subst hrl
  rw[List.take_of_length_le (by omega)]at hk8
  subst hRR
  exact⟨0,rfl,.inr (.inr ⟨hp0,fun e=>by rw[e]at hl1;exact absurd hl1 (by decide),rfl,T8,hs8,D,es',clock',hS8,hD,hk8,hC8,hcl',hone,fun q hq hqk=>(hT8 q hqk).trans (hT7' q hq)⟩)⟩
theorem give_ok{W0 w:World}{T:Ths}{j:Nat}{a:CodA}{f:Int}{k m b n:Nat}{Q M:Mtx}{es:List Tr.Ent}{clock:Int}{ks:Ky}{s:Sl}{hs:List Sl}(da:Bool)(hS:Sep W0 w T)(hC:Cod T j a f k m b Q es clock)(hk:T ks=ShT s hs M)(hkb:∀i,ks≠.bx i)(hkg:¬GvK j ks)
  (hM:M.length=k+m) (hMn:∀x∈M,x.length=0∨x.length=n) (hne:(alZ M).length<k+m) (hn1:1≤n) (hn2:n≤140737488355328) (hcl:clock<4611686018427387904):
  Cl Tryz.prog 39 #[.pointer (at0 a.cp),.slice s.base s.len s.cap,.bool da] (.one (.at (.int .i64))) (fun x w'=>(alZ M=[]∧x=0∧Sep W0 w' T)∨(m<(alZ M).length∧x=9∧Sep W0 w' T)∨
   ((alZ M).length≤m∧x=0∧∃T' hs' D es' clock',Sep W0 w' T'∧decM k (gM k Q) (presL k (k+m) (alZ M)) (alZ M)=some D∧T' ks=ShT s hs' (bUZ da k n (usedM M (presL k (k+m) (alZ M))) ((alZ M).zip D) M)∧Cod T' j a f k m b Q es' clock'∧clock'≤clock+1∧UseK es es' (alZ M)∧∀q,¬GvK j q→q≠ks→T' q=T q)) w:=by
 have hMR:=bdZ hS hk
 have hmz:=miss_zer M
 have hlm:∃x∈M.map List.length,x≠0:=by
  refine Classical.byContradiction fun hc=>?_
  have:alZ M=List.range M.length:=by
   unfold alZ
   rw[List.filter_eq_self]
   intro i hi
   obtain⟨r,hr⟩:=atx (l:=M) (i:=i) (List.mem_range.1 hi)
   rw[List.getD_eq_getElem?_getD,hr]
   refine decide_eq_true (Classical.byContradiction fun h=>hc ⟨r.length,List.mem_map.2 ⟨r,List.mem_of_getElem? hr,rfl⟩,h⟩)
  rw[this,List.length_range]at hne
  omega
 have hu:∀x∈M.map List.length,x=0∨x=n:=fun x hx=>by obtain⟨r,hr,rfl⟩:=List.mem_map.1 hx;exact hMn r hr
 have hps:=parS_uni (k:=k) (m:=m) (by rw[List.length_map];exact hM) hn1 hu hlm
 have hsc:=scan_uni hn1 hu hlm
 rw[←hmz]at hps
 refine aeZ (give_gen da (shx_sh s) hS hC hk hkb hkg (fun x hx=>by rcases hMn x hx with h | h <;> omega) hcl) ?_
 rintro x w1 (⟨h1,h2,h3⟩ | ⟨h1,h2,h3,h4⟩ | ⟨h1,h1',h2,h3⟩)
 ·refine .inr (.inl ?_)
  by_cases h:m<(alZ M).length
  ·rw[if_pos h]at hps;exact⟨h,by rw[h2,hps],h3⟩
  ·rw[if_neg h]at hps;exact absurd hps h1
 ·exact .inl ⟨h2,h3,h4⟩
 ·rw[hsc]at h3
  refine .inr (.inr ⟨?_,h2,h3⟩)
  by_cases h:m<(alZ M).length
  ·rw[if_pos h,h1]at hps;cases hps
  ·omega
end Go.Proofs.YtbiilejgfihohaaGreat
namespace Go.Proofs.YtbiilejgfihohaaGreat
open Go Go.Cu
theorem mix_eqd:Tryz.prog.follows .mixedOrders=true:=by kernel_rfl
noncomputable def q17awake.body:Code:=(Tryz.f11.body).getD .skip
def q17awake.j4(R:EPq)(v1:(Option Addr))(v3:Sl)(t63:Bool)(w:World):Prop:=
 Cd t63 (R (.returned (.bool false)) w) (Wr Tryz.prog (Instr.buildSlice 24 0 #[]) (.one (.at .sl)) (fun(x16:Sl) w17=>
 Wr Tryz.prog (Instr.buildSlice 24 2 #[(0,(.int .u8 6)),(1,(.int .u8 1))]) (.one (.at .sl)) (fun(x18:Sl) w19=>
 Wr Tryz.prog (Instr.buildSlice 30 2 #[(0,(.slice x16.base x16.len x16.cap)),(1,(.slice x18.base x18.len x18.cap))]) (.one (.at .sl)) (fun(x20:Sl) w21=>
 Cl Tryz.prog 19 #[(.pointer v1),(.slice v3.base v3.len v3.cap),(.slice x20.base x20.len x20.cap)] (.one (.at (.int .i64))) (fun(x22:Int) w23=>
 Cd (x22 !=0) (R (.returned (.bool false)) w23) (Wr Tryz.prog (Instr.buildSlice 24 2 #[(0,(.int .u8 5)),(1,(.int .u8 0))]) (.one (.at .sl)) (fun(x24:Sl) w25=>
 Wr Tryz.prog (Instr.buildSlice 24 2 #[(0,(.int .u8 7)),(1,(.int .u8 1))]) (.one (.at .sl)) (fun(x26:Sl) w27=>
 Wr Tryz.prog (Instr.buildSlice 24 2 #[(0,(.int .u8 3)),(1,(.int .u8 2))]) (.one (.at .sl)) (fun(x28:Sl) w29=>
 Wr Tryz.prog (Instr.buildSlice 30 3 #[(0,(.slice x24.base x24.len x24.cap)),(1,(.slice x26.base x26.len x26.cap)),(2,(.slice x28.base x28.len x28.cap))]) (.one (.at .sl)) (fun(x30:Sl) w31=>
 Cl Tryz.prog 20 #[(.slice v3.base v3.len v3.cap),(.slice x30.base x30.len x30.cap)] (.one (.at .bool)) (fun(x32:Bool) w33=>
 R (.returned (.bool x32)) w33) w31) w29) w27) w25) w23)) w21) w19) w17) w)
def q17awake.j3(R:EPq)(v1:(Option Addr))(v3:Sl)(t43:Bool)(w:World):Prop:=
 Cd t43 (R (.returned (.bool false)) w) (Pu Tryz.prog (Instr.indexAt 30 (.slice v3.base v3.len v3.cap) (.int .i64 0)) (.one (.at .addr)) (fun(x13:Addr) w14=>
 Wu Tryz.prog (Instr.storeAt 24 (.pointer (some x13)) (.slice none 0 0)) (fun w15=>
 Cl Tryz.prog 21 #[(.pointer v1),(.slice v3.base v3.len v3.cap)] (.one (.at (.int .i64))) (fun(x34:Int) w35=>
 Cd (x34 !=0) (q17awake.j4 R v1 v3 true w35) (Wr Tryz.prog (Instr.buildSlice 24 2 #[(0,(.int .u8 5)),(1,(.int .u8 0))]) (.one (.at .sl)) (fun(x36:Sl) w37=>
 Wr Tryz.prog (Instr.buildSlice 24 2 #[(0,(.int .u8 7)),(1,(.int .u8 1))]) (.one (.at .sl)) (fun(x38:Sl) w39=>
 Wr Tryz.prog (Instr.buildSlice 24 2 #[(0,(.int .u8 1)),(1,(.int .u8 2))]) (.one (.at .sl)) (fun(x40:Sl) w41=>
 Wr Tryz.prog (Instr.buildSlice 30 3 #[(0,(.slice x36.base x36.len x36.cap)),(1,(.slice x38.base x38.len x38.cap)),(2,(.slice x40.base x40.len x40.cap))]) (.one (.at .sl)) (fun(x42:Sl) w43=>
 Cl Tryz.prog 20 #[(.slice v3.base v3.len v3.cap),(.slice x42.base x42.len x42.cap)] (.one (.at .bool)) (fun(x44:Bool) w45=>
 Cd (!x44) (q17awake.j4 R v1 v3 true w45) (Cl Tryz.prog 33 #[(.pointer v1)] (.one (.at (.int .i64))) (fun(x46:Int) w47=>
 q17awake.j4 R v1 v3 (x46 !=1) w47) w45)) w43) w41) w39) w37) w35)) w15) w14) w)
def q17awake.j2(R:EPq)(v1:(Option Addr))(v3:Sl)(t31:Bool)(w:World):Prop:=
 Cd t31 (R (.returned (.bool false)) w) (Cl Tryz.prog 14 #[(.pointer v1),(.slice v3.base v3.len v3.cap)] (.tup [.at .bool,.at (.int .i64)]) (fun x11 w12=>
 Cd (!x11.1) (q17awake.j3 R v1 v3 true w12) (q17awake.j3 R v1 v3 (x11.2.1 !=0) w12)) w)
def q17awake.j1(R:EPq)(v1:(Option Addr))(t14:Bool)(w:World):Prop:=
 Cd t14 (R (.returned (.bool false)) w) (Wr Tryz.prog (Instr.buildSlice 24 2 #[(0,(.int .u8 5)),(1,(.int .u8 0))]) (.one (.at .sl)) (fun(x3:Sl) w4=>
 Wr Tryz.prog (Instr.buildSlice 24 2 #[(0,(.int .u8 7)),(1,(.int .u8 1))]) (.one (.at .sl)) (fun(x5:Sl) w6=>
 Wr Tryz.prog (Instr.buildSlice 24 2 #[(0,(.int .u8 0)),(1,(.int .u8 0))]) (.one (.at .sl)) (fun(x7:Sl) w8=>
 Wr Tryz.prog (Instr.buildSlice 30 3 #[(0,(.slice x3.base x3.len x3.cap)),(1,(.slice x5.base x5.len x5.cap)),(2,(.slice x7.base x7.len x7.cap))]) (.one (.at .sl)) (fun(x9:Sl) w10=>
 Cl Tryz.prog 13 #[(.pointer v1),(.slice x9.base x9.len x9.cap)] (.one (.at (.int .i64))) (fun(x48:Int) w49=>
 Cd (x48 !=0) (q17awake.j2 R v1 x9 true w49) (Wr Tryz.prog (Instr.buildSlice 24 2 #[(0,(.int .u8 5)),(1,(.int .u8 0))]) (.one (.at .sl)) (fun(x50:Sl) w51=>
 Wr Tryz.prog (Instr.buildSlice 24 2 #[(0,(.int .u8 7)),(1,(.int .u8 1))]) (.one (.at .sl)) (fun(x52:Sl) w53=>
 Wr Tryz.prog (Instr.buildSlice 24 2 #[(0,(.int .u8 1)),(1,(.int .u8 2))]) (.one (.at .sl)) (fun(x54:Sl) w55=>
 Wr Tryz.prog (Instr.buildSlice 30 3 #[(0,(.slice x50.base x50.len x50.cap)),(1,(.slice x52.base x52.len x52.cap)),(2,(.slice x54.base x54.len x54.cap))]) (.one (.at .sl)) (fun(x56:Sl) w57=>
 Cl Tryz.prog 20 #[(.slice x9.base x9.len x9.cap),(.slice x56.base x56.len x56.cap)] (.one (.at .bool)) (fun(x58:Bool) w59=>
 q17awake.j2 R v1 x9 (!x58) w59) w57) w55) w53) w51) w49)) w10) w8) w6) w4) w)
def q17awake.M(R:EPq)(w:World):Prop:=
 Cl Tryz.prog 32 #[(.int .i64 0),(.int .i64 0),(.int .i64 2),(.int .i64 1)] (.tup [.at .ptr,.at (.int .i64)]) (fun x1 w2=>
 Cd (x1.2.1 !=0) (q17awake.j1 R x1.1 true w2) (Pu Tryz.prog (do eqGuard .eql 26 (.tmp 12) (.const (.pointer none)) (.pointer x1.1) (.pointer none);binOp .eql 26 (.pointer x1.1) (.pointer none)) (.one (.at .bool)) (fun(x60:Bool) w61=>
 q17awake.j1 R x1.1 x60 w61) w2)) w
noncomputable def q17awake.ann(R:EPq):Ann:=
 .seq (.reg qN1) (.seq (.reg (.op 0 (.cl (.tup [.at .ptr,.at (.int .i64)])) (.op 1 .now (.op 2 .now (.op 3 .now (.op 4 .now (.op 5 .now (.done)))))))) (.seq (.join [(1,qcP),(14,.at .bool)] (fun s w=>q17awake.j1 R s.1 s.2.1 w) (.reg (.op 0 .now (.op 1 .now (.op 2 .now (.split 2 (.skip 3 (.skip 4 (.op 5 .now (.done)))) (.op 3 .now (.op 4 (.pu (.one (.at .bool))) (.op 5 .now (.done))))))))) (.cond (.seq (.reg qN1) (.leaf)) (.leaf))) (.seq (.reg (.op 0 (.wr (.one qcS)) (.op 1 (.wr (.one qcS)) (.op 2 (.wr (.one qcS)) (.op 3 (.wr (.one qcS)) (.op 4 .now (.done))))))) (.seq (.join [(1,qcP),(3,qcS),(31,.at .bool)] (fun s w=>q17awake.j2 R s.1 s.2.1 s.2.2.1 w) (.reg (.op 0 .now (.op 1 .now (.op 2 (.cl (.one qcI)) (.op 3 .now (.op 4 .now (.split 4 (.skip 5 (.skip 6 (.skip 7 (.skip 8 (.skip 9 (.skip 10 (.skip 11 (.op 12 .now (.done))))))))) (.op 5 .now (.op 6 (.wr (.one qcS)) (.op 7 (.wr (.one qcS)) (.op 8 (.wr (.one qcS)) (.op 9 (.wr (.one qcS)) (.op 10 (.cl (.one (.at .bool))) (.op 11 .now (.op 12 .now (.done)))))))))))))))) (.cond (.seq (.reg qN1) (.leaf)) (.leaf))) (.seq (.reg (.op 0 .now (.op 1 .now (.op 2 (.cl (.tup [.at .bool,.at (.int .i64)])) (.op 3 .now (.op 4 .now (.op 5 .now (.op 6 .now (.op 7 .now (.done)))))))))) (.seq (.join [(1,qcP),(3,qcS),(43,.at .bool)] (fun s w=>q17awake.j3 R s.1 s.2.1 s.2.2.1 w) (.reg (.op 0 .now (.op 1 .now (.op 2 .now (.split 2 (.skip 3 (.skip 4 (.op 5 .now (.done)))) (.op 3 .now (.op 4 .now (.op 5 .now (.done))))))))) (.cond (.seq (.reg qN1) (.leaf)) (.leaf))) (.seq (.reg (.op 0 .now (.op 1 qpA (.op 2 .wu (.done))))) (.seq (.join [(1,qcP),(3,qcS),(63,.at .bool)] (fun s w=>q17awake.j4 R s.1 s.2.1 s.2.2.1 w) (.reg (.op 0 .now (.op 1 .now (.op 2 (.cl (.one qcI)) (.op 3 .now (.op 4 .now (.split 4 (.skip 5 (.skip 6 (.skip 7 (.skip 8 (.skip 9 (.skip 10 (.skip 11 (.op 12 .now (.op 13 .now (.skip 14 (.skip 15 (.skip 16 (.op 17 .now (.done)))))))))))))) (.op 5 .now (.op 6 (.wr (.one qcS)) (.op 7 (.wr (.one qcS)) (.op 8 (.wr (.one qcS)) (.op 9 (.wr (.one qcS)) (.op 10 (.cl (.one (.at .bool))) (.op 11 .now (.op 12 .now (.op 13 .now (.split 13 (.skip 14 (.skip 15 (.skip 16 (.op 17 .now (.done))))) (.op 14 .now (.op 15 (.cl (.one qcI)) (.op 16 .now (.op 17 .now (.done)))))))))))))))))))))) (.cond (.seq (.reg qN1) (.leaf)) (.leaf))) (.seq (.seq (.reg (.op 0 .now (.op 1 .now (.op 2 (.wr (.one qcS)) (.op 3 (.wr (.one qcS)) (.op 4 (.wr (.one qcS)) (.op 5 (.cl (.one qcI)) (.op 6 .now (.done))))))))) (.cond (.seq (.reg qN1) (.leaf)) (.leaf))) (.seq (.reg (.op 0 .now (.op 1 (.wr (.one qcS)) (.op 2 (.wr (.one qcS)) (.op 3 (.wr (.one qcS)) (.op 4 (.wr (.one qcS)) (.op 5 (.cl (.one (.at .bool))) (.op 6 .now (.done))))))))) (.leaf)))))))))))
theorem q17awake.run(R:EPq)(w:World)(h:q17awake.M R w):Calls Tryz.prog 11 #[] w R:=by
 refine aaZ mix_eqd Tryz.func11 (c:=q17awake.body) (by kernel_rfl) [.at .bool] (q17awake.ann R) 77 Tryz.ntmps11 [.tmp 0] (by kernel_rfl) (Nat.le_of_ble_eq_true (by kernel_rfl)) ?_ ?_
 ·exact⟨tv,⟨tv,⟨⟨fun s w=>mq,tv,⟨⟨tv,tv⟩,tv⟩⟩,⟨tv,⟨⟨fun s w=>mq,tv,⟨⟨tv,tv⟩,tv⟩⟩,⟨tv,⟨⟨fun s w=>mq,tv,⟨⟨tv,tv⟩,tv⟩⟩,⟨tv,⟨⟨fun s w=>mq,tv,⟨⟨tv,tv⟩,tv⟩⟩,⟨⟨tv,⟨⟨tv,tv⟩,tv⟩⟩,⟨tv,tv⟩⟩⟩⟩⟩⟩⟩⟩⟩⟩⟩
 ·exact Eq.mp (show q17awake.M R w=_ by kernel_rfl) h
noncomputable def q17alike.body:Code:=(Tryz.f20.body).getD .skip
def q17alike.b1(R:EPq)(k1:(Sl×Sl×Int×Unit)→WPq)(v0:Sl)(v1:Sl)(v5:Int)(w:World):Prop:=
 Cd (decide (v5<((v0.len:Nat):Int))) (Held w.drew (fun S1=>Pu Tryz.prog (Instr.indexAt 30 (.slice v0.base v0.len v0.cap) (.int .i64 v5)) (.one (.at .addr)) (fun(x2:Addr) w3=>
 RdS Tryz.prog S1 (Instr.loadAt 24 (.pointer (some x2))) (.one (.at .sl)) (fun(x4:Sl) w5=>
 Pu Tryz.prog (Instr.indexAt 30 (.slice v1.base v1.len v1.cap) (.int .i64 v5)) (.one (.at .addr)) (fun(x6:Addr) w7=>
 RdS Tryz.prog S1 (Instr.loadAt 24 (.pointer (some x6))) (.one (.at .sl)) (fun(x8:Sl) w9=>
 Cl Tryz.prog 38 #[(.slice x4.base x4.len x4.cap),(.slice x8.base x8.len x8.cap)] (.one (.at .bool)) (fun(x10:Bool) w11=>
 S1 w11∧(Cd (!x10) (R (.returned (.bool false)) w11) (k1 (v0,v1,(IntKind.wrap .i64 (v5+1)),()) w11))) w9) w7) w5) w3) w.drew)) (R (.returned (.bool true)) w)
def q17alike.l1(R:EPq):(Sl×Sl×Int×Unit)→World→Prop:=arZ (fun k1 s w=>q17alike.b1 R k1 s.1 s.2.1 s.2.2.1 w)
def q17alike.M(R:EPq)(v0:Sl)(v1:Sl)(w:World):Prop:=
 Cd (((v0.len:Nat):Int) !=((v1.len:Nat):Int)) (R (.returned (.bool false)) w) (q17alike.l1 R (v0,v1,0,()) w)
noncomputable def q17alike.ann(R:EPq):Ann:=
 .seq (.reg qN1) (.seq (.seq (.reg qN5) (.cond (.seq (.reg qN1) (.leaf)) (.leaf))) (.seq (.seq (.reg qN1) (.block (.loop [(0,qcS),(1,qcS),(5,qcI)] (fun k1 s w=>q17alike.b1 R k1 s.1 s.2.1 s.2.2.1 w) (fun k1=>.seq (.seq (.reg qN4) (.cond (.leaf) (.leaf))) (.seq (.block (.seq (.regD (.op 0 .now (.op 1 .now (.op 2 qpA (.op 3 qrS (.op 4 .now (.op 5 .now (.op 6 qpA (.op 7 qrS (.op 8 (.cl (.one (.at .bool))) (.op 9 .now (.done)))))))))))) (.cond (.seq (.reg qN1) (.leaf)) (.leaf)))) (.reg qN3)))))) (.seq (.reg qN1) (.leaf))))
theorem q17alike.run(R:EPq)(v0:Sl)(v1:Sl)(w:World)(h:q17alike.M R v0 v1 w):Calls Tryz.prog 20 #[(.slice v0.base v0.len v0.cap),(.slice v1.base v1.len v1.cap)] w R:=by
 refine aaZ mix_eqd Tryz.func20 (c:=q17alike.body) (by kernel_rfl) [.at .bool] (q17alike.ann R) 27 Tryz.ntmps20 [.tmp 4] (by kernel_rfl) (Nat.le_of_ble_eq_true (by kernel_rfl)) ?_ ?_
 ·exact⟨tv,⟨⟨tv,⟨⟨tv,tv⟩,tv⟩⟩,⟨⟨tv,(fun k1=>⟨fun s w=>mq,⟨⟨tv,⟨tv,tv⟩⟩,⟨⟨(show Region.noSelect _=true by kernel_rfl),⟨⟨tv,tv⟩,tv⟩⟩,tv⟩⟩⟩)⟩,⟨tv,tv⟩⟩⟩⟩
 ·exact Eq.mp (show q17alike.M R v0 v1 w=_ by kernel_rfl) h
noncomputable def q17equal.body:Code:=(Tryz.f38.body).getD .skip
def q17equal.b1(R:EPq)(k1:(Sl×Sl×Int×Unit)→WPq)(v0:Sl)(v1:Sl)(v5:Int)(w:World):Prop:=
 Cd (decide (v5<((v0.len:Nat):Int))) (Pu Tryz.prog (Instr.indexAt 24 (.slice v0.base v0.len v0.cap) (.int .i64 v5)) (.one (.at .addr)) (fun(x1:Addr) w2=>
 RdS Tryz.prog (Same w.drew) (Instr.loadAt 5 (.pointer (some x1))) (.one (.at (.int .u8))) (fun(x3:Int) w4=>
 Pu Tryz.prog (Instr.indexAt 24 (.slice v1.base v1.len v1.cap) (.int .i64 v5)) (.one (.at .addr)) (fun(x5:Addr) w6=>
 RdS Tryz.prog (Same w.drew) (Instr.loadAt 5 (.pointer (some x5))) (.one (.at (.int .u8))) (fun(x7:Int) w8=>
 Cd (x3 !=x7) (R (.returned (.bool false)) w8) (k1 (v0,v1,(IntKind.wrap .i64 (v5+1)),()) w8)) w6) w4) w2) w.drew) (R (.returned (.bool true)) w)
def q17equal.l1(R:EPq):(Sl×Sl×Int×Unit)→World→Prop:=arZ (fun k1 s w=>q17equal.b1 R k1 s.1 s.2.1 s.2.2.1 w)
def q17equal.M(R:EPq)(v0:Sl)(v1:Sl)(w:World):Prop:=
 Cd (((v0.len:Nat):Int) !=((v1.len:Nat):Int)) (R (.returned (.bool false)) w) (q17equal.l1 R (v0,v1,0,()) w)
noncomputable def q17equal.ann(R:EPq):Ann:=
 .seq (.reg qN1) (.seq (.seq (.reg qN5) (.cond (.seq (.reg qN1) (.leaf)) (.leaf))) (.seq (.seq (.reg qN1) (.block (.loop [(0,qcS),(1,qcS),(5,qcI)] (fun k1 s w=>q17equal.b1 R k1 s.1 s.2.1 s.2.2.1 w) (fun k1=>.seq (.seq (.reg qN4) (.cond (.leaf) (.leaf))) (.seq (.block (.seq (.regQ (.op 0 .now (.op 1 .now (.op 2 qpA (.op 3 qrB (.op 4 .now (.op 5 .now (.op 6 qpA (.op 7 qrB (.op 8 .now (.done))))))))))) (.cond (.seq (.reg qN1) (.leaf)) (.leaf)))) (.reg qN3)))))) (.seq (.reg qN1) (.leaf))))
theorem q17equal.run(R:EPq)(v0:Sl)(v1:Sl)(w:World)(h:q17equal.M R v0 v1 w):Calls Tryz.prog 38 #[(.slice v0.base v0.len v0.cap),(.slice v1.base v1.len v1.cap)] w R:=by
 refine aaZ mix_eqd Tryz.func38 (c:=q17equal.body) (by kernel_rfl) [.at .bool] (q17equal.ann R) 26 Tryz.ntmps38 [.tmp 4] (by kernel_rfl) (Nat.le_of_ble_eq_true (by kernel_rfl)) ?_ ?_
 ·exact⟨tv,⟨⟨tv,⟨⟨tv,tv⟩,tv⟩⟩,⟨⟨tv,(fun k1=>⟨fun s w=>mq,⟨⟨tv,⟨tv,tv⟩⟩,⟨⟨(show Region.noSelect _=true by kernel_rfl),⟨⟨tv,tv⟩,tv⟩⟩,tv⟩⟩⟩)⟩,⟨tv,tv⟩⟩⟩⟩
 ·exact Eq.mp (show q17equal.M R v0 v1 w=_ by kernel_rfl) h
end Go.Proofs.YtbiilejgfihohaaGreat
namespace Go.Proofs.YtbiilejgfihohaaGreat
open Go Go.Cu Go.RowKit
def I64(n:Int):Prop:=-9223372036854775808≤n∧n≤9223372036854775807
abbrev CodeI:Type:=Int×Int×Int×Int×Unit
structure Code64(n:CodeI):Prop where
 f:I64 n.1
 b:I64 n.2.1
 k:I64 n.2.2.1
 m:I64 n.2.2.2.1
theorem equal_gv{w:World}{a b:Sl}{x y:List F8}(ha:Rds f8v w a x)(hb:Rds f8v w b y)(hl:x.length≤140737488355328):Gv Tryz.prog 38 #[.slice a.base a.len a.cap,.slice b.base b.len b.cap] (.bool (decide (x=y))) w:=by
 refine q17equal.run _ a b w ?_
 unfold q17equal.M
 have e1:=ha.1
 have e2:=hb.1
 refine aEZ (fun h=>⟨?_,Ex.refl _⟩) (fun h=>?_)
 ·rw[decide_eq_false (fun e=>h (by rw[e1,e2,e]))]
 have hxy:x.length=y.length:=by omega
 unfold q17equal.l1
 refine acZ (fun st w'=>∃i:Nat,st=(a,b,(i:Int),())∧i≤x.length∧Ex w w'∧∀j,j<i→x[j]? =y[j]?) (fun st _=>(((a.len:Nat):Int)-st.2.2.1).toNat) ?_ ⟨0,rfl,Nat.zero_le _,Ex.refl _,fun j h=>by omega⟩
 rintro k _ w1 ⟨i,rfl,hi,hx,heq⟩ hk
 unfold q17equal.b1
 dsimp only at hk ⊢
 refine abZ (fun hlt=>?_) (fun hge=>?_)
 ·obtain⟨p,hp⟩:=atx (l:=x) (i:=i) (by omega)
  obtain⟨q,hq⟩:=atx (l:=y) (i:=i) (by omega)
  have hx2:=hx.trans (Ex.drew w1)
  refine rdS_ent (ha.ex hx2) (fun w' h=>by cases h;exact⟨x,ha.ex hx2,hp⟩) hp ?_
  refine rdS_ent (hb.ex hx2) (fun w' h=>by cases h;exact⟨y,hb.ex hx2,hq⟩) hq ?_
  refine aEZ (fun hne=>⟨?_,hx2⟩) (fun he=>?_)
  ·rw[decide_eq_false (fun e=>hne (by rw[e,hq]at hp;rw[Option.some.inj hp]))]
  ·have hpq:p=q:=BitVec.eq_of_toNat_eq (by omega)
   rw[adZ (by omega) (by omega),show(i:Int)+1=((i+1:Nat):Int) by omega]
   refine hk _ _ ⟨i+1,rfl,by omega,hx2,fun j hj=>?_⟩ (by dsimp only;omega)
   by_cases hji:j=i
   ·rw[hji,hp,hq,hpq]
   ·exact heq j (by omega)
 ·refine⟨?_,hx⟩
  rw[decide_eq_true (List.ext_getElem? fun j=>?_)]
  by_cases hj:j<i
  ·exact heq j hj
  ·rw[List.getElem?_eq_none (by omega),List.getElem?_eq_none (by omega)]
theorem alike_gv{w:World}{a b:Sl}{ha hb:List Sl}{A B:Mtx}(hA:MatR w a ha A)(hB:MatR w b hb B)(hl:A.length≤140737488355328)(hrl:∀r∈A,r.length≤140737488355328):Gv Tryz.prog 20 #[.slice a.base a.len a.cap,.slice b.base b.len b.cap] (.bool (decide (A=B))) w:=by
 refine q17alike.run _ a b w ?_
 unfold q17alike.M
 have e1:=hA.hdr.1
 have e2:=hB.hdr.1
 have e3:=hA.len
 have e4:=hB.len
 refine aEZ (fun h=>⟨?_,Ex.refl _⟩) (fun h=>?_)
 ·rw[decide_eq_false (fun e=>h (by rw[e1,e2,e3,e4,e]))]
 have hxy:A.length=B.length:=by omega
 unfold q17alike.l1
 refine acZ (fun st w'=>∃i:Nat,st=(a,b,(i:Int),())∧i≤A.length∧Ex w w'∧∀j,j<i→A[j]? =B[j]?) (fun st _=>(((a.len:Nat):Int)-st.2.2.1).toNat) ?_ ⟨0,rfl,Nat.zero_le _,Ex.refl _,fun j h=>by omega⟩
 rintro k _ w1 ⟨i,rfl,hi,hx,heq⟩ hk
 unfold q17alike.b1
 dsimp only at hk ⊢
 refine abZ (fun hlt=>?_) (fun hge=>?_)
 ·obtain⟨p,hp⟩:=atx (l:=A) (i:=i) (by omega)
  obtain⟨q,hq⟩:=atx (l:=B) (i:=i) (by omega)
  obtain⟨gp,hgp⟩:=atx (l:=ha) (i:=i) (by omega)
  obtain⟨gq,hgq⟩:=atx (l:=hb) (i:=i) (by omega)
  have hx2:=hx.trans (Ex.drew w1)
  have hA2:=hA.ex hx2
  have hB2:=hB.ex hx2
  refine asZ (fun w'=>MatR w' a ha A∧MatR w' b hb B) ⟨hA2,hB2⟩ ?_
  refine aQZ hA2.hdr (fun w' h=>h.1.hdr) hgp ?_
  refine aQZ hB2.hdr (fun w' h=>h.2.hdr) hgq ?_
  refine auZ (d:=.one (.at .bool)) (x:=decide (p=q)) (equal_gv (hA2.row i gp p hgp hp) (hB2.row i gq q hgq hq) (hrl p (List.mem_of_getElem? hp))) fun w3 hx3=>⟨⟨hA2.ex hx3,hB2.ex hx3⟩,?_⟩
  refine Cd_not (fun hne=>⟨?_,hx2.trans hx3⟩) (fun he=>?_)
  ·rw[decide_eq_false (fun e=>of_decide_eq_false hne (by rw[e,hq]at hp;exact(Option.some.inj hp).symm))]
  ·rw[adZ (by omega) (by omega),show(i:Int)+1=((i+1:Nat):Int) by omega]
   refine hk _ _ ⟨i+1,rfl,by omega,hx2.trans hx3,fun j hj=>?_⟩ (by dsimp only;omega)
   by_cases hji:j=i
   ·rw[hji,hp,hq,of_decide_eq_true he]
   ·exact heq j (by omega)
 ·refine⟨?_,hx⟩
  rw[decide_eq_true (List.ext_getElem? fun j=>?_)]
  by_cases hj:j<i
  ·exact heq j hj
  ·rw[List.getElem?_eq_none (by omega),List.getElem?_eq_none (by omega)]
end Go.Proofs.YtbiilejgfihohaaGreat
namespace Go.Proofs.YtbiilejgfihohaaGreat
open Go Go.Cu Go.RowKit
def givenM(Fm:Mtx):List Nat:=(List.range Fm.length).filter (fun i=>decide ((Fm.getD i []).length≠0))
theorem givenL_eq{w:World}{s:Sl}{hs:List Sl}{M:Mtx}(h:MatR w s hs M):aKZ hs M.length=givenM M:=by
 unfold aKZ givenM
 refine List.filter_congr fun i hi=>?_
 have hil:=List.mem_range.1 hi
 obtain⟨r,hr⟩:=atx hil
 obtain⟨g,hg⟩:=atx (l:=hs) (i:=i) (by rw[h.len];exact hil)
 have hl:=(h.row i g r hg hr).1
 have e:M.getD i []=r:=by rw[List.getD_eq_getElem?_getD,hr];rfl
 rw[e]
 by_cases h0:r.length=0
 ·have e2:decide (r.length≠0)=false:=decide_eq_false (fun h=>h h0)
  rw[e2]
  exact decide_eq_false (fun⟨g',hg',h'⟩=>by rw[hg]at hg';cases hg';omega)
 ·have e2:decide (r.length≠0)=true:=decide_eq_true h0
  rw[e2]
  exact decide_eq_true ⟨g,hg,by omega⟩
def GiveR(W0:World)(T:Ths)(j:Nat)(a:CodA)(f:Int)(k m b n:Nat)(Q M:Mtx)(es:List Tr.Ent)(clock:Int)(ks:Ky)(s:Sl)(da:Bool)(x:Int)(w':World):Prop:=
 (alZ M=[]∧x=0∧Sep W0 w' T)∨(m<(alZ M).length∧x=9∧Sep W0 w' T)∨
   ((alZ M).length≤m∧x=0∧∃T' hs' D es' clock',Sep W0 w' T'∧decM k (gM k Q) (presL k (k+m) (alZ M)) (alZ M)=some D∧T' ks=ShT s hs' (bUZ da k n (usedM M (presL k (k+m) (alZ M))) ((alZ M).zip D) M)∧Cod T' j a f k m b Q es' clock'∧clock'≤clock+1∧UseK es es' (alZ M)∧∀q,¬GvK j q→q≠ks→T' q=T q)
theorem recon_ok{W0 w:World}{T:Ths}{j:Nat}{a:CodA}{f:Int}{k m b n:Nat}{Q M:Mtx}{es:List Tr.Ent}{clock:Int}{ks:Ky}{s:Sl}{hs:List Sl}(hS:Sep W0 w T)(hC:Cod T j a f k m b Q es clock)(hk:T ks=ShT s hs M)(hkb:∀i,ks≠.bx i)(hkg:¬GvK j ks)
  (hM:M.length=k+m) (hMn:∀x∈M,x.length=0∨x.length=n) (hne:(alZ M).length<k+m) (hn1:1≤n) (hn2:n≤140737488355328) (hcl:clock<4611686018427387904):
  Cl Tryz.prog 21 #[.pointer (at0 a.cp),.slice s.base s.len s.cap] (.one (.at (.int .i64))) (GiveR W0 T j a f k m b n Q M es clock ks s false) w:=by
 refine mC_Reconstruct.run _ (at0 a.cp) s w ?_
 unfold mC_Reconstruct.M
 exact aeZ (give_ok false hS hC hk hkb hkg hM hMn hne hn1 hn2 hcl) fun x w' h=>⟨x,rfl,h⟩
structure Lit(w0 w:World)(hs:List Sl)(M:Mtx):Prop where
 ex:Ex w0 w
 len:hs.length=M.length
 row:∀(i:Nat) (h:Sl) (r:List F8),hs[i]? =some h→M[i]? =some r→Own f8v 5 w0.heap.size w h r
 dis:∀(i j:Nat) (h h':Sl),i≠j→hs[i]? =some h→hs[j]? =some h'→∀b,SlIn h b→¬SlIn h' b
theorem Lit.nil(w:World):Lit w w [] []:=⟨Ex.refl _,rfl,fun i h r h1 _=>(by simp at h1),fun i j h h' _ h1 _=>(by simp at h1)⟩
theorem Lit.low{w0 w:World}{hs:List Sl}{M:Mtx}(h:Lit w0 w hs M){i:Nat}{g:Sl}(hg:hs[i]? =some g){b:Nat}(hb:SlIn g b):w0.heap.size≤b∧b<w.heap.size:=by
 obtain⟨r,hr⟩:=atx (l:=M) (i:=i) (by rw[←h.len];exact(List.getElem?_eq_some_iff.1 hg).1)
 exact(h.row i g r hg hr).base b hb
theorem bSZ{α:Type}{l:List α}{x y:α}{i:Nat}(h:(l++[x])[i]? =some y):(i<l.length∧l[i]? =some y)∨(i=l.length∧y=x):=by
 by_cases hi:i<l.length
 ·rw[List.getElem?_append_left hi]at h;exact .inl ⟨hi,h⟩
 ·rw[List.getElem?_append_right (by omega)]at h
  have h0:i-l.length=0:=by
   rcases Nat.eq_zero_or_pos (i-l.length) with h1 | h1
   ·exact h1
   ·rw[List.getElem?_eq_none (by simp;omega)]at h;cases h
  rw[h0]at h
  exact .inr ⟨by omega,(by simpa using h.symm)⟩
theorem Lit.snoc{w0 w w':World}{hs:List Sl}{M:Mtx}{h:Sl}{r:List F8}(hL:Lit w0 w hs M)(ho:Own f8v 5 w.heap.size w' h r)(hx:Ex w w'):Lit w0 w' (hs++[h]) (M++[r]):=by
 have hs0:=hL.ex.size
 refine⟨hL.ex.trans hx,by simp[hL.len],fun i g q h1 h2=>?_,fun i j g g' hne h1 h2 b hb hb'=>?_⟩
 ·rcases bSZ h1 with ⟨a1,a2⟩ | ⟨a1,rfl⟩
  ·rw[List.getElem?_append_left (by rw[←hL.len];exact a1)]at h2
   exact(hL.row i g q a2 h2).ex hx
  ·rw[a1,hL.len,List.getElem?_append_right (Nat.le_refl _),Nat.sub_self]at h2
   have:r=q:=by simpa using h2
   subst this
   exact ho.weak hs0
 ·rcases bSZ h1 with ⟨a1,a2⟩ | ⟨a1,rfl⟩
  ·rcases bSZ h2 with ⟨c1,c2⟩ | ⟨c1,rfl⟩
   ·exact hL.dis i j g g' hne a2 c2 b hb hb'
   ·have:=(hL.low a2 hb).2
    have:=(ho.base b hb').1
    omega
  ·rcases bSZ h2 with ⟨c1,c2⟩ | ⟨c1,rfl⟩
   ·have:=(hL.low c2 hb').2
    have:=(ho.base b hb).1
    omega
   ·omega
theorem Lit.fin{W0 w0 w w':World}{T:Ths}{s:Sl}{hs:List Sl}{M:Mtx}(ks:Ky)(hS:Sep W0 w0 T)(hL:Lit w0 w hs M)(ho:Own slV 24 w.heap.size w' s hs)(hx:Ex w w'):Sep W0 w' (T.up ks (ShT s hs M)):=by
 have hs0:=hL.ex.size
 refine hS.new ks (G:=fun b=>w0.heap.size≤b∧b<w'.heap.size) (hL.ex.trans hx) ⟨ho.weak (Nat.zero_le _),hL.len,fun i h r h1 h2=>((hL.row i h r h1 h2).ex hx).weak (Nat.zero_le _),hL.dis,fun i h h1 b hb=>⟨fun hb'=>?_,?_⟩,fun b hb=>?_⟩ (fun b hb=>hb)
 ·have:=(hL.low h1 hb).2
  have:=(ho.base b hb').1
  omega
 ·have:=hL.low h1 hb
  exact⟨this.1,Nat.lt_of_lt_of_le this.2 hx.size⟩
 ·have:=ho.base b hb
  exact⟨Nat.le_trans hs0 this.1,this.2⟩
theorem Wr_row2{w0 w:World}{hs:List Sl}{M:Mtx}{p q:F8}{a b:Int}{K:Sl→World→Prop}(ha:a=(p.toNat:Int))(hb:b=(q.toNat:Int))(hL:Lit w0 w hs M)(hk:∀h w',Lit w0 w' (hs++[h]) (M++[[p,q]])→K h w'):
  Wr Tryz.prog (Instr.buildSlice 24 2 #[(0,(.int .u8 a)),(1,(.int .u8 b))]) (.one (.at .sl)) K w:=by
 subst ha hb
 exact bvZ (f:=f8v) (e:=5) (base:=w.heap.size) [p,q] (by kernel_rfl) (Nat.le_refl _) (by simp) fun s w' ho hx _=>hk s w' (hL.snoc ho hx)
theorem Wr_row0{w0 w:World}{hs:List Sl}{M:Mtx}{K:Sl→World→Prop}(hL:Lit w0 w hs M)(hk:∀h w',Lit w0 w' (hs++[h]) (M++[[]])→K h w'):
  Wr Tryz.prog (Instr.buildSlice 24 0 #[]) (.one (.at .sl)) K w:=
 bvZ (f:=f8v) (e:=5) (base:=w.heap.size) [] (by kernel_rfl) (Nat.le_refl _) (by simp) fun s w' ho hx _=>hk s w' (hL.snoc ho hx)
theorem Wr_hd3{W0 w0 w:World}{T:Ths}{a b c:Sl}{M:Mtx}{K:Sl→World→Prop}(ks:Ky)(hS:Sep W0 w0 T)(hL:Lit w0 w [a,b,c] M)(hk:∀s w',Sep W0 w' (T.up ks (ShT s [a,b,c] M))→K s w'):
  Wr Tryz.prog (Instr.buildSlice 30 3 #[(0,(.slice a.base a.len a.cap)),(1,(.slice b.base b.len b.cap)),(2,(.slice c.base c.len c.cap))]) (.one (.at .sl)) K w:=
 bvZ (f:=slV) (e:=24) (base:=w.heap.size) [a,b,c] (by kernel_rfl) (Nat.le_refl _) (by simp) fun s w' ho hx _=>hk s w' (hL.fin ks hS ho hx)
theorem Wr_hd2{W0 w0 w:World}{T:Ths}{a b:Sl}{M:Mtx}{K:Sl→World→Prop}(ks:Ky)(hS:Sep W0 w0 T)(hL:Lit w0 w [a,b] M)(hk:∀s w',Sep W0 w' (T.up ks (ShT s [a,b] M))→K s w'):
  Wr Tryz.prog (Instr.buildSlice 30 2 #[(0,(.slice a.base a.len a.cap)),(1,(.slice b.base b.len b.cap))]) (.one (.at .sl)) K w:=
 bvZ (f:=slV) (e:=24) (base:=w.heap.size) [a,b] (by kernel_rfl) (Nat.le_refl _) (by simp) fun s w' ho hx _=>hk s w' (hL.fin ks hS ho hx)
def JK(q:Ky):Prop:=GnK q∨(∃i,q=.rs i)∨(∃i,q=.rk i)∨(∃i,q=.ps i)∨(∃i,q=.pk i)∨∃i,q=.mx 1 i
theorem gv_jk{j:Nat}{q:Ky}(h:GvK j q):JK q∨q=.bx (4*j+3):=by
 unfold GvK PlK at h
 unfold JK
 rcases h with (h | h | h | h | h | h | h) | h | h | h
 ·exact .inl (.inl h)
 ·exact .inr h
 ·exact .inl (.inr (.inl ⟨_,h⟩))
 ·exact .inl (.inr (.inl ⟨_,h⟩))
 ·exact .inl (.inr (.inr (.inr (.inl ⟨_,h⟩))))
 ·exact .inl (.inr (.inr (.inr (.inl ⟨_,h⟩))))
 ·exact .inl (.inr (.inr (.inr (.inr (.inr ⟨_,h⟩)))))
 ·exact .inl (.inr (.inl ⟨_,h⟩))
 ·exact .inl (.inr (.inr (.inl ⟨_,h⟩)))
 ·exact .inl (.inr (.inr (.inr (.inl ⟨_,h⟩))))
theorem up_jk{q:Ky}(h:UpK q):JK q:=by
 rcases h with h | h
 ·exact .inr (.inr (.inl ⟨_,h⟩))
 ·exact .inr (.inr (.inl ⟨_,h⟩))
abbrev QA:Mtx:=[[3#8,2#8]]
abbrev MA0:Mtx:=[[5#8,0#8],[7#8,1#8],[0#8,0#8]]
abbrev MA1:Mtx:=[[5#8,0#8],[7#8,1#8],[1#8,2#8]]
abbrev MA2:Mtx:=[[],[7#8,1#8],[1#8,2#8]]
abbrev MA3:Mtx:=[[5#8,0#8],[7#8,1#8],[3#8,2#8]]
abbrev FA:Mtx:=[[],[6#8,1#8]]
theorem aw_par:parM 0 2 1=some QA:=by decide+kernel
theorem aw_enc:encM 0 2 2 2 QA MA0=MA1:=by decide+kernel
theorem aw_agr:agreeM 0 2 2 QA (MA1.take 2) (MA1.drop 2)=true:=by decide+kernel
theorem aw_dec:decM 2 (gM 2 QA) [1,2] [0]=some [[245#8,244#8]]:=by decide+kernel
theorem aw_miss:alZ MA2=[0]:=by decide+kernel
theorem aw_pres:presL 2 3 [0]=[1,2]:=by decide+kernel
theorem aw_give:bUZ false 2 2 (usedM MA2 [1,2]) ([0].zip [[245#8,244#8]]) MA2=MA1:=by decide+kernel
theorem aw_given:givenM FA=[1]:=by decide+kernel
theorem aw_upd:MA1.take 2++updM 0 2 QA MA1 FA [1] (MA1.drop 2)=MA3:=by decide+kernel
theorem shp_of{M:Mtx}{a n:Nat}(h:M.length=a∧M.all (fun r=>decide (r.length=n))=true):Shp M a n:=⟨h.1,fun r hr=>of_decide_eq_true (List.all_eq_true.1 h.2 r hr)⟩
theorem awake_ok{W0 w:World}{T:Ths}(hS:Sep W0 w T):Cl Tryz.prog 11 #[] (.one (.at .bool)) (fun x w'=>x=true∧∃T',Sep W0 w' T'∧∀q,¬JK q→(∀i,i<4→q≠.bx (36+i))→T' q=T q) w:=by
 refine q17awake.run _ w ?_
 generalize hRR:(fun(e:Ending) (w':World)=>∃x:Bool,e=.returned ((Sh.one (.at .bool)).enc x)∧x=true∧∃T',Sep W0 w' T'∧∀q,¬JK q→(∀i,i<4→q≠.bx (36+i))→T' q=T q)=R
 unfold q17awake.M
 have jpk:∀i,JK (.pk i):=fun i=>.inr (.inr (.inr (.inr (.inl ⟨i,rfl⟩))))
 have nbk:∀i j:Nat,Ky.pk i≠.bx j:=fun i j=>by simp
 have ngv:∀i,¬GvK 9 (.pk i):=fun i=>by unfold GvK PlK GnK;simp
 have nup:∀i,¬UpK (.pk i):=fun i=>by unfold UpK;simp
 refine aeZ (mnew_ok (j:=9) (f:=0) (k:=2) (m:=1) (b:=0) hS (.inl rfl) (by omega) (by omega) (by omega) (by omega)) ?_
 rintro _ w1 ⟨a,T1,Q,rfl,hS1,hT1,hC1⟩
 obtain rfl:Q=QA:=by
  have:=hC1.hQ
  rw[aw_par]at this
  exact(Option.some.inj this).symm
 have hT1':∀q,¬JK q→(∀i,i<4→q≠.bx (36+i))→T1 q=T q:=fun q h1 h2=>hT1 q (fun i e=>h1 (.inl (.inl ⟨i,e⟩))) h2
 refine aAZ (Pu_codnil ?_)
 unfold q17awake.j1
 refine aAZ ?_
 refine Wr_row2 (p:=5#8) (q:=0#8) rfl rfl (Lit.nil w1) fun h1 w2 hL2=>Wr_row2 (p:=7#8) (q:=1#8) rfl rfl hL2 fun h2 w3 hL3=>Wr_row2 (p:=0#8) (q:=0#8) rfl rfl hL3 fun h3 w4 hL4=>?_
 refine Wr_hd3 (M:=MA0) (.pk 0) hS1 hL4 fun s w5 hS5=>?_
 generalize hhs:[h1,h2,h3]=hs5 at hS5
 have hC5:=hC1.next (T':=T1.up (.pk 0) (ShT s hs5 MA0)) (fun i=>Ths.up_ne _ _ (by simp))
 refine aeZ (encode_ok hS5 hC5 (Ths.up_same _ _ _) (nbk 0) (shp_of (M:=MA0) (a:=2+1) (n:=2) (by decide)) (by omega) (by omega)) ?_
 rintro _ w6 ⟨rfl,hS6⟩
 rw[Ths.up_up,aw_enc]at hS6
 have hC6:=hC1.next (T':=T1.up (.pk 0) (ShT s hs5 MA1)) (fun i=>Ths.up_ne _ _ (by simp))
 refine aAZ ?_
 have same:∀{w7 w8:World} {T7:Ths} {hs7:List Sl} {M:Mtx} {K:Bool→World→Prop} {p q:Int} {P Q':F8},p=(P.toNat:Int)→q=(Q'.toNat:Int)→M=[[5#8,0#8],[7#8,1#8],[P,Q']]→Sep W0 w7 T7→T7 (.pk 0)=ShT s hs7 M→(∀w9 T9,Sep W0 w9 T9→(∀x,x≠.pk 1→T9 x=T7 x)→K true w9)→
   Wr Tryz.prog (Instr.buildSlice 24 2 #[(0,(.int .u8 5)),(1,(.int .u8 0))]) (.one (.at .sl)) (fun(x50:Sl) w51=>Wr Tryz.prog (Instr.buildSlice 24 2 #[(0,(.int .u8 7)),(1,(.int .u8 1))]) (.one (.at .sl)) (fun(x52:Sl) w53=>Wr Tryz.prog (Instr.buildSlice 24 2 #[(0,(.int .u8 p)),(1,(.int .u8 q))]) (.one (.at .sl)) (fun(x54:Sl) w55=>
    Wr Tryz.prog (Instr.buildSlice 30 3 #[(0,(.slice x50.base x50.len x50.cap)),(1,(.slice x52.base x52.len x52.cap)),(2,(.slice x54.base x54.len x54.cap))]) (.one (.at .sl)) (fun(x56:Sl) w57=>Cl Tryz.prog 20 #[(.slice s.base s.len s.cap),(.slice x56.base x56.len x56.cap)] (.one (.at .bool)) K w57) w55) w53) w51) w7:=by
  intro w7 w8 T7 hs7 M K p q P Q' hp hq hM h7 h7k hk
  refine Wr_row2 (p:=5#8) (q:=0#8) rfl rfl (Lit.nil w7) fun h1 w2 hL2=>Wr_row2 (p:=7#8) (q:=1#8) rfl rfl hL2 fun h2 w3 hL3=>Wr_row2 (p:=P) (q:=Q') hp hq hL3 fun h3 w4 hL4=>?_
  refine Wr_hd3 (M:=[[5#8,0#8],[7#8,1#8],[P,Q']]) (.pk 1) h7 hL4 fun s2 w5 hS5=>?_
  have hA:=bdZ hS5 ((Ths.up_ne _ _ (by simp)).trans h7k)
  have hB:=bdZ hS5 (Ths.up_same _ _ _)
  subst hM
  refine auZ (d:=.one (.at .bool)) (x:=true) ?_ fun w6 hx6=>hk w6 _ (hS5.exx hx6) (fun x hx=>Ths.up_ne _ _ hx)
  have:=alike_gv hA hB (by simp) (fun r hr=>by
   simp only[List.mem_cons,List.mem_nil_iff,or_false]at hr
   rcases hr with rfl | rfl | rfl <;> simp)
  rw[decide_eq_true (by rfl)]at this
  exact this
 refine same (w8:=w6) (P:=1#8) (Q':=2#8) rfl rfl rfl hS6 (Ths.up_same _ _ _) fun w7 T7 hS7 hT7=>?_
 unfold q17awake.j2
 refine aAZ ?_
 have h7k:T7 (.pk 0)=ShT s hs5 MA1:=(hT7 _ (by simp)).trans (Ths.up_same _ _ _)
 have hT7':∀q,¬JK q→(∀i,i<4→q≠.bx (36+i))→T7 q=T q:=fun q a1 a2=>by
  have n0:q≠.pk 0:=fun e=>a1 (e▸jpk 0)
  rw[hT7 q (fun e=>a1 (e▸jpk 1)),Ths.up_ne _ _ n0];exact hT1' q a1 a2
 have hC7:Cod T7 9 a 0 2 1 0 QA [] 0:=hC6.next (fun i=>hT7 _ (by simp))
 refine aeZ (verify_ok hS7 hC7 h7k (nbk 0) (shp_of (M:=MA1) (a:=2+1) (n:=2) (by decide)) (by omega) (by omega)) ?_
 rintro _ w8 ⟨rfl,hx8⟩
 rw[aw_agr]
 refine aAZ ?_
 unfold q17awake.j3
 refine aAZ ?_
 have hS8:=hS7.exx hx8
 obtain⟨q1,q2,_⟩:=sh_get hS8 h7k
 have hl5:hs5.length=3:=q2
 obtain⟨g0,hg0⟩:=atx (l:=hs5) (i:=0) (by omega)
 refine Wu_set (f:=slV) (x:=⟨none,0,0⟩) (i:=0) q1 (by omega) tBB sS sS rfl rfl fun w9 hO9 hm9=>?_
 have hS9:=sh_out (q:=.pk 2) (by simp) hS8 h7k hg0 rfl hO9 hm9
 generalize hT9e:(T7.up (.pk 0) (ShT s (hs5.set 0 ⟨none,0,0⟩) (List.set MA1 0 []))).up (.pk 2) (Rdo f8v g0 [5#8,0#8])=T9 at hS9
 have h9k:T9 (.pk 0)=ShT s (hs5.set 0 ⟨none,0,0⟩) MA2:=by rw[←hT9e,Ths.up_ne _ _ (by simp),Ths.up_same];rfl
 have hT9:∀q,q≠.pk 0→q≠.pk 2→T9 q=T7 q:=fun q a1 a2=>by rw[←hT9e,Ths.up_ne _ _ a2,Ths.up_ne _ _ a1]
 have hC9:Cod T9 9 a 0 2 1 0 QA [] 0:=hC7.next (fun i=>hT9 _ (by simp) (by simp))
 refine aeZ (recon_ok (n:=2) hS9 hC9 h9k (nbk 0) (ngv 0) rfl (fun x hx=>?_) (by rw[aw_miss];decide) (by omega) (by omega) (by omega)) ?_
 ·simp only[List.mem_cons,List.mem_nil_iff,or_false]at hx
  rcases hx with rfl | rfl | rfl <;> simp
 rintro x w10 h10
 unfold GiveR at h10
 rw[aw_miss,aw_pres]at h10
 rcases h10 with ⟨h,_⟩ | ⟨h,_⟩ | ⟨_,rfl,T10,hs10,D,es',clock',hS10,hD,h10k,hC10,hcl,hone,hT10⟩
 ·cases h
 ·simp at h
 rw[aw_dec]at hD
 cases hD
 rw[aw_give]at h10k
 refine aAZ ?_
 have hT10':∀q,¬JK q→(∀i,i<4→q≠.bx (36+i))→T10 q=T q:=fun q a1 a2=>by
  have hne0:q≠.pk 0:=fun e=>a1 (e▸jpk 0)
  rw[hT10 q (fun h=>(gv_jk h).elim a1 (fun e=>a2 3 (by omega) e)) hne0,hT9 q hne0 (fun e=>a1 (e▸jpk 2))]
  exact hT7' q a1 a2
 refine same (w8:=w10) (P:=1#8) (Q':=2#8) rfl rfl rfl hS10 h10k fun w11 T11 hS11 hT11=>?_
 refine aAZ ?_
 have hC11:Cod T11 9 a 0 2 1 0 QA es' clock':=hC10.next (fun i=>hT11 _ (by simp))
 refine auZ (d:=.one (.at (.int .i64))) (x:=(es'.length:Int)) (cached_gv hS11 hC11) fun w12 hx12=>?_
 rw[hone.one rfl]
 unfold q17awake.j4
 refine aAZ ?_
 have hS12:=hS11.exx hx12
 refine Wr_row0 (Lit.nil w12) fun h1 w13 hL13=>Wr_row2 (p:=6#8) (q:=1#8) rfl rfl hL13 fun h2 w14 hL14=>?_
 refine Wr_hd2 (M:=FA) (.pk 3) hS12 hL14 fun sf w15 hS15=>?_
 have h15k:(T11.up (.pk 3) (ShT sf [h1,h2] FA)) (.pk 0)=ShT s hs10 MA1:=by rw[Ths.up_ne _ _ (by simp),hT11 _ (by simp)];exact h10k
 have hC15:=hC11.next (T':=T11.up (.pk 3) (ShT sf [h1,h2] FA)) (fun i=>Ths.up_ne _ _ (by simp))
 refine aeZ (update_ok (kf:=.pk 3) hS15 hC15 h15k (nbk 0) (Ths.up_same _ _ _) (by simp) (nup 0) (nup 3) (shp_of (M:=MA1) (a:=2+1) (n:=2) (by decide)) rfl (fun x hx=>?_) (by omega) (by omega)) ?_
 ·simp only[List.mem_cons,List.mem_nil_iff,or_false]at hx
  rcases hx with rfl | rfl <;> simp
 rintro _ w16 ⟨rfl,T16,hS16,h16k,hT16⟩
 have hgl:aKZ [h1,h2] 2=[1]:=by
  have:=givenL_eq (bdZ hS15 (Ths.up_same _ _ _))
  rw[←aw_given]
  exact this
 rw[hgl,aw_upd]at h16k
 refine aAZ ?_
 refine same (w8:=w16) (P:=3#8) (Q':=2#8) rfl rfl rfl hS16 h16k fun w17 T17 hS17 hT17=>?_
 subst hRR
 refine⟨true,rfl,rfl,T17,hS17,fun q a1 a2=>?_⟩
 have hne0:q≠.pk 0:=fun e=>a1 (e▸jpk 0)
 have hne3:q≠.pk 3:=fun e=>a1 (e▸jpk 3)
 rw[hT17 q (fun e=>a1 (e▸jpk 1)),hT16 q hne0 (fun h=>a1 (up_jk h)),Ths.up_ne _ _ hne3,hT11 q (fun e=>a1 (e▸jpk 1))]
 exact hT10' q a1 a2
end Go.Proofs.YtbiilejgfihohaaGreat
namespace Go.Cu
def pf(c:F8)(i:Nat)(g:Nat→F8):Nat→F8
 | 0=>c
 | n+1=>if n=i then pf c i g n else ahZ (pf c i g n) (g n)
theorem pf_mul(c:F8)(i:Nat)(g:Nat→F8):∀n,pf c i g n=ahZ c (pf 1#8 i g n)
 | 0=>(bAZ c).symm
 | n+1=>by
  simp only[pf]
  split
  ·exact pf_mul c i g n
  ·rw[pf_mul c i g n,anZ]
theorem pf_ne{i:Nat}{g:Nat→F8}:∀{n:Nat},(∀l,l<n→l≠i→g l≠0#8)→pf 1#8 i g n≠0#8
 | 0,_=>by simp[pf]
 | n+1,h=>by
  have ih:=pf_ne (n:=n) (fun l hl=>h l (by omega))
  simp only[pf]
  split
  ·exact ih
  ·rename_i hn
   intro e
   rcases bEZ e with e | e
   ·exact ih e
   ·exact h n (by omega) hn e
theorem pf_zero{i:Nat}{g:Nat→F8}{l:Nat}(hi:l≠i)(h:g l=0#8):∀{n:Nat},l<n→pf 1#8 i g n=0#8
 | 0,hl=>absurd hl (by omega)
 | n+1,hl=>by
  simp only[pf]
  by_cases e:l=n
  ·subst e
   rw[if_neg hi,h,aqZ]
  ·have ih:=pf_zero hi h (n:=n) (by omega)
   rw[ih,aZZ]
   split <;> rfl
def pp(i:Nat)(y:Nat→F8):Nat→List F8
 | 0=>[1#8]
 | n+1=>if n=i then pp i y n else plin (y n) (pp i y n)
theorem pp_ev(i:Nat)(y:Nat→F8)(x:F8):∀n,pev (pp i y n) x=pf 1#8 i (fun l=>x ^^^ y l) n
 | 0=>by simp[pp,pev,pf,aqZ]
 | n+1=>by
  simp only[pp,pf]
  split
  ·exact pp_ev i y x n
  ·rw[plin_ev,pp_ev i y x n,aFZ]
theorem pp_len(i:Nat)(y:Nat→F8):∀n,(pp i y n).length=n+1-(if i<n then 1 else 0)
 | 0=>by simp[pp]
 | n+1=>by
  have ih:=pp_len i y n
  simp only[pp]
  split
  ·rename_i h
   rw[ih,if_neg (by omega),if_pos (by omega)]
   omega
  ·rename_i h
   rw[plin_len,ih]
   by_cases h2:i<n
   ·rw[if_pos h2,if_pos (by omega)];omega
   ·rw[if_neg h2,if_neg (by omega)];omega
def lg(c:Nat→F8)(y:Nat→F8)(k:Nat):Nat→List F8
 | 0=>List.replicate k 0#8
 | n+1=>padd (lg c y k n) (pscale (c n) (pp n y k))
theorem pev_zero(x:F8):∀k,pev (List.replicate k 0#8) x=0#8
 | 0=>rfl
 | k+1=>by rw[List.replicate_succ];simp only[pev];rw[pev_zero x k,aqZ,BitVec.xor_zero]
theorem lg_ev(c y:Nat→F8)(k:Nat)(x:F8):∀n,pev (lg c y k n) x=aHZ n (fun i=>ahZ (c i) (pf 1#8 i (fun l=>x ^^^ y l) k))
 | 0=>pev_zero x k
 | n+1=>by
  simp only[lg,aHZ]
  rw[padd_ev,pscale_ev,pp_ev,lg_ev c y k x n]
theorem lg_len(c y:Nat→F8)(k:Nat):∀n,n≤k→(lg c y k n).length=k
 | 0,_=>List.length_replicate
 | n+1,h=>by
  simp only[lg]
  unfold pscale
  rw[padd_len,List.length_map,pp_len,lg_len c y k n (by omega),if_pos (by omega)]
  omega
theorem pev_all_zero{p:List F8}(h:∀a∈p,a=0#8)(x:F8):pev p x=0#8:=by
 have:p=List.replicate p.length 0#8:=List.eq_replicate_iff.2 ⟨rfl,h⟩
 rw[this];exact pev_zero x _
theorem lagrange{k:Nat}{p:List F8}{y:Nat→F8}(hp:p.length=k)(hy:∀i j,i<k→j<k→y i=y j→i=j)(x:F8):
  aHZ k (fun i=>ahZ (ahZ (pev p (y i)) (bIZ (pf 1#8 i (fun l=>y i ^^^ y l) k))) (pf 1#8 i (fun l=>x ^^^ y l) k))=pev p x:=by
 have hne:∀i,i<k→pf 1#8 i (fun l=>y i ^^^ y l) k≠0#8:=fun i hi=>pf_ne fun l hl hli e=>hli (hy l i hl hi (aMZ e).symm)
 rw[←lg_ev (fun i=>ahZ (pev p (y i)) (bIZ (pf 1#8 i (fun l=>y i ^^^ y l) k))) y k x k]
 generalize hc:(fun i=>ahZ (pev p (y i)) (bIZ (pf 1#8 i (fun l=>y i ^^^ y l) k)))=c
 have hz:∀a∈padd (lg c y k k) p,a=0#8:=by
  refine roots k _ ((List.range k).map y) (by rw[padd_len,lg_len _ _ _ _ (Nat.le_refl _),hp,Nat.max_self]) (by simp) ?_ (fun z hz=>?_)
  ·exact nodup_map List.nodup_range (fun a ha b hb e=>hy a b (List.mem_range.1 ha) (List.mem_range.1 hb) e)
  ·obtain⟨j,hj,rfl⟩:=List.mem_map.1 hz
   have hj:=List.mem_range.1 hj
   rw[padd_ev,lg_ev,fsum_one hj (fun i hi hij=>?_)]
   ·rw[←hc,anZ,aFZ (bIZ _),fmul_inv (hne j hj),bAZ,BitVec.xor_self]
   ·rw[pf_zero (l:=j) (fun e=>hij e.symm) BitVec.xor_self hj,aqZ]
 have:=pev_all_zero hz x
 rw[padd_ev]at this
 exact aMZ this
def wgt(f:Int)(k s:Nat):F8:=if f=1 then pf 1#8 s (fun l=>bf s ^^^ bf l) k else 1#8
def rowE(f:Int)(k:Nat)(used:List Nat)(w i:Nat):F8:=
 ahZ (pf (ahZ (wgt f k (used.getD i 0)) (bIZ (wgt f k w))) i (fun l=>bf w ^^^ bf (used.getD l 0)) k) (bIZ (pf 1#8 i (fun l=>bf (used.getD i 0) ^^^ bf (used.getD l 0)) k))
def rowR(f:Int)(k:Nat)(used:List Nat)(w:Nat):List F8:=(List.range k).map (rowE f k used w)
theorem wgt_ne{f:Int}{k s:Nat}(hk:k≤256)(hs:s<256):wgt f k s≠0#8:=by
 unfold wgt
 split
 ·exact pf_ne fun l hl hls e=>hls (bf_inj (by omega) hs (aMZ e).symm)
 ·decide
theorem col_poly{f:Int}{k m:Nat}{Q:Mtx}(hf:f=0∨f=1)(hkm:k+m≤256)(hQ:parM f k m=some Q){c:Nat}(hc:c<k):∃p:List F8,p.length=k∧∀s,s<k+m→ahZ (wgt f k s) (ent (gM k Q) s c)=pev p (bf s):=by
 rcases hf with rfl | rfl
 ·have hv:Shp (vandM (k+m) k) (k+m) k:=aPZ _ _ _
  have hiS:Shp (aXZ k) k k:=aPZ _ _ _
  obtain⟨x,hx,hxs,hxe⟩:=solve_ok (shp_take hv (by omega)) hiS (vand_inj (m:=m) (by omega))
  have hQe:Q=(mulM k (vandM (k+m) k) x).drop k:=by
   unfold parM sysM at hQ
   rw[hx]at hQ
   exact(Option.some.inj hQ).symm
  have hwe:∀r,r<k+m→∀c,c<k→ent (mulM k (vandM (k+m) k) x) r c=aHZ k (fun b=>ahZ (fpow (bf r) b) (ent x b c)):=by
   intro r hr c hc
   rw[ent_mul hv hxs hr]
   refine aiZ (fun b hb=>?_)
   unfold vandM
   rw[bVZ _ hr hb]
  refine⟨(List.range' 0 k).map (fun b=>ent x b c),by simp,fun s hs=>?_⟩
  rw[ev_sum]
  simp only[Nat.zero_add]
  rw[←hwe s hs c hc]
  unfold wgt
  rw[if_neg (by decide),one_fmul]
  unfold gM
  rw[ent_append hiS]
  split
  ·rename_i h
   have:=hxe s h c hc
   rw[←this,hwe s hs c hc]
   refine aiZ (fun b hb=>?_)
   rw[ent_take h]
   unfold vandM
   rw[bVZ _ hs hb]
  ·rw[hQe,ent_drop,show k+(s-k)=s by omega]
 ·have hQe:Q=cauM m k:=by
   unfold parM at hQ
   rw[if_pos rfl]at hQ
   exact(Option.some.inj hQ).symm
  refine⟨pp c (fun l=>bf l) k,by rw[pp_len,if_pos hc];omega,fun s hs=>?_⟩
  rw[pp_ev]
  unfold wgt gM
  have hiS:Shp (aXZ k) k k:=aPZ _ _ _
  rw[if_pos rfl,ent_append hiS]
  split
  ·rename_i h
   unfold aXZ
   rw[bVZ _ h hc]
   by_cases e:s=c
   ·subst e;rw[if_pos rfl,bAZ]
   ·rw[if_neg e,aqZ]
    exact(pf_zero (l:=s) e BitVec.xor_self h).symm
  ·rename_i h
   rw[hQe]
   unfold cauM
   rw[bVZ _ (by omega) hc,show k+(s-k)=s by omega]
   have hne:bf s ^^^ bf c≠0#8:=fun e=>by have:=bf_inj (a:=s) (b:=c) (by omega) (by omega) (aMZ e);omega
   have key:∀n,n≤k→pf 1#8 s (fun l=>bf s ^^^ bf l) n=if c<n then ahZ (pf 1#8 c (fun l=>bf s ^^^ bf l) n) (bf s ^^^ bf c) else pf 1#8 c (fun l=>bf s ^^^ bf l) n:=by
    intro n
    induction n with
    | zero=>intro _;rfl
    | succ n ih=>
     intro hn
     have ih:=ih (by omega)
     simp only[pf]
     rw[if_neg (by omega),ih]
     by_cases e:n=c
     ·subst e
      rw[if_neg (by omega),if_pos (by omega),if_pos rfl]
     ·rw[if_neg e]
      by_cases e2:c<n
      ·rw[if_pos e2,if_pos (by omega),anZ,anZ,aFZ (bf s ^^^ bf c)]
      ·rw[if_neg e2,if_neg (by omega)]
   rw[key k (Nat.le_refl _),if_pos hc,anZ,fmul_inv hne,bAZ]
theorem rowR_ok{f:Int}{k m:Nat}{Q:Mtx}(hf:f=0∨f=1)(hkm:k+m≤256)(hQ:parM f k m=some Q){used:List Nat}(hl:used.length=k)(hd:used.Nodup)(hu:∀u∈used,u<k+m){w:Nat}(hw:w<k+m){c:Nat}(hc:c<k):
  aHZ k (fun i=>ahZ (rowE f k used w i) (ent (gM k Q) (used.getD i 0) c))=ent (gM k Q) w c:=by
 obtain⟨p,hp,hpe⟩:=col_poly hf hkm hQ hc
 have hun:∀i,i<k→used.getD i 0<k+m:=fun i hi=>hu _ (by rw[List.getD_eq_getElem?_getD,List.getElem?_eq_getElem (by omega)];exact List.getElem_mem _)
 have hinj:∀i j,i<k→j<k→bf (used.getD i 0)=bf (used.getD j 0)→i=j:=by
  intro i j hi hj e
  have e2:=bf_inj (by have:=hun i hi;omega) (by have:=hun j hj;omega) e
  rw[List.getD_eq_getElem?_getD,List.getD_eq_getElem?_getD,List.getElem?_eq_getElem (by omega),List.getElem?_eq_getElem (by omega)]at e2
  exact(List.getElem_inj hd).1 e2
 have hW:=wgt_ne (f:=f) (k:=k) (s:=w) (by omega) (by omega)
 have hlag:=lagrange (y:=fun i=>bf (used.getD i 0)) hp hinj (bf w)
 rw[←hpe w hw]at hlag
 have:ahZ (bIZ (wgt f k w)) (ahZ (wgt f k w) (ent (gM k Q) w c))=ent (gM k Q) w c:=by rw[←anZ,aFZ (bIZ _),fmul_inv hW,one_fmul]
 rw[←this,←hlag,←fsum_mul]
 refine aiZ (fun i hi=>?_)
 rw[←hpe _ (hun i hi)]
 unfold rowE
 rw[pf_mul]
 generalize pf 1#8 i (fun l=>bf w ^^^ bf (used.getD l 0)) k=A
 generalize bIZ (pf 1#8 i (fun l=>bf (used.getD i 0) ^^^ bf (used.getD l 0)) k)=B
 generalize wgt f k (used.getD i 0)=C
 generalize bIZ (wgt f k w)=E
 generalize ent (gM k Q) (used.getD i 0) c=G
 have left:∀a b c,ahZ a (ahZ b c)=ahZ b (ahZ a c):=fun a b c=>by rw[←anZ,aFZ a b,anZ]
 simp only[anZ,aFZ,left]
theorem rowR_dec{f:Int}{k m:Nat}{Q:Mtx}(hf:f=0∨f=1)(hkm:k+m≤256)(hQ:parM f k m=some Q){P W:List Nat}{D:Mtx}(hl:P.length=k)(hd:P.Nodup)(hu:∀u∈P,u<k+m)(hw:∀u∈W,u<k+m)(hD:decM k (gM k Q) P W=some D):
  Shp D W.length k∧∀r,r<W.length→∀i,i<k→ent D r i=rowE f k P (W.getD r 0) i:=by
 obtain⟨Q',hQ',hQs,hMds⟩:=par_ok (f:=f) hf hkm
 rw[hQ]at hQ'
 cases hQ'
 have hiS:Shp (aXZ k) k k:=aPZ _ _ _
 have hg:Shp (gM k Q) (k+m) k:=shp_append hiS hQs
 have hps:Shp (aRZ (gM k Q) P) k k:=by have:=shp_pick hg hu;rwa [hl]at this
 have hinj:Inj (aRZ (gM k Q) P) k:=by
  intro v h
  refine hMds P hl hd hu v (fun r hr=>?_)
  obtain⟨i,hi,rfl⟩:=List.getElem_of_mem hr
  have:=h i (by omega)
  rw[aiZ (fun c _=>by rw[ent_pick hi])]at this
  rw[List.getD_eq_getElem?_getD,List.getElem?_eq_getElem hi]at this
  exact this
 obtain⟨x,hx,hxs,hxe⟩:=solve_ok hps hiS hinj
 have hDe:D=mulM k (aRZ (gM k Q) W) x:=by
  unfold decM at hD
  rw[hx]at hD
  exact(Option.some.inj hD).symm
 refine⟨by rw[hDe];exact shp_mul (shp_pick hg hw) hxs,fun r hr i hi=>?_⟩
 have hwr:W.getD r 0<k+m:=hw _ (by rw[List.getD_eq_getElem?_getD,List.getElem?_eq_getElem hr];exact List.getElem_mem _)
 rw[hDe,ent_mul (shp_pick hg hw) hxs hr]
 rw[aiZ (g:=fun c=>aHZ k (fun j=>ahZ (rowE f k P (W.getD r 0) j) (ahZ (ent (aRZ (gM k Q) P) j c) (ent x c i)))) (fun c hc=>by
  rw[ent_pick hr,←rowR_ok hf hkm hQ hl hd hu hwr hc,←bPZ]
  exact aiZ (fun j hj=>by rw[anZ,ent_pick (by omega)]))]
 rw[fsum_swap,aiZ (g:=fun j=>ahZ (rowE f k P (W.getD r 0) j) (if j=i then 1#8 else 0#8)) (fun j hj=>by
  rw[fsum_mul,hxe j hj i hi]
  unfold aXZ
  rw[bVZ _ hj hi])]
 rw[fsum_one hi (fun j _ hj=>by rw[if_neg hj,aqZ]),if_pos rfl,bAZ]
end Go.Cu
namespace Go.Cu
def stpM(a b n p:Nat):Nat:=if (b >>> n) &&& 1=1 then p ^^^ (a <<< n) else p
def mulP(a b:Nat):Nat→Nat
 | 0=>0
 | n+1=>stpM a b n (mulP a b n)
def stR(i p:Nat):Nat:=if (p >>> i) &&& 1=1 then p ^^^ (285 <<< (i-8)) else p
def redP(p:Nat):Nat→Nat
 | 0=>p
 | t+1=>stR (14-t) (redP p t)
theorem bit_iff(p i:Nat):(p >>> i) &&& 1=1↔p.testBit i=true:=by
 unfold Nat.testBit
 rw[Nat.and_comm,Nat.one_and_eq_mod_two]
 have:=Nat.mod_two_eq_zero_or_one (p >>> i)
 simp only[bne_iff_ne,ne_eq]
 omega
theorem stpM_eq(a b n p:Nat):stpM a b n p=p ^^^ (if b.testBit n then a <<< n else 0):=by
 unfold stpM
 by_cases h:b.testBit n=true
 ·rw[if_pos ((bit_iff b n).2 h),if_pos h]
 ·rw[if_neg (fun e=>h ((bit_iff b n).1 e)),if_neg h,Nat.xor_zero]
theorem stR_eq(i p:Nat):stR i p=p ^^^ (if p.testBit i then 285 <<< (i-8) else 0):=by
 unfold stR
 by_cases h:p.testBit i=true
 ·rw[if_pos ((bit_iff p i).2 h),if_pos h]
 ·rw[if_neg (fun e=>h ((bit_iff p i).1 e)),if_neg h,Nat.xor_zero]
theorem xor4(a b c d:Nat):(a ^^^ b) ^^^ (c ^^^ d)=(a ^^^ c) ^^^ (b ^^^ d):=by
 rw[Nat.xor_assoc,Nat.xor_assoc,←Nat.xor_assoc b,Nat.xor_comm b c,Nat.xor_assoc]
theorem ite_xor(b c:Bool)(x:Nat):(if (b ^^ c)=true then x else 0)=(if b=true then x else 0) ^^^ (if c=true then x else 0):=by
 cases b <;> cases c <;> simp
theorem stR_xor(i p q:Nat):stR i (p ^^^ q)=stR i p ^^^ stR i q:=by
 rw[stR_eq,stR_eq,stR_eq,Nat.testBit_xor,ite_xor,xor4]
theorem redP_xor(p q:Nat):∀t,redP (p ^^^ q) t=redP p t ^^^ redP q t
 | 0=>rfl
 | t+1=>by simp only[redP];rw[redP_xor p q t,stR_xor]
theorem mulP_left(a a' b:Nat):∀n,mulP (a ^^^ a') b n=mulP a b n ^^^ mulP a' b n
 | 0=>by simp[mulP]
 | n+1=>by
  simp only[mulP]
  rw[mulP_left a a' b n,stpM_eq,stpM_eq,stpM_eq,xor4]
  congr 1
  split
  ·exact Nat.shiftLeft_xor_distrib
  ·rfl
theorem mulP_right(a b b':Nat):∀n,mulP a (b ^^^ b') n=mulP a b n ^^^ mulP a b' n
 | 0=>by simp[mulP]
 | n+1=>by
  simp only[mulP]
  rw[mulP_right a b b' n,stpM_eq,stpM_eq,stpM_eq,Nat.testBit_xor,ite_xor,xor4]
def mulF(a b:F8):F8:=BitVec.ofNat 8 (redP (mulP a.toNat b.toNat 8) 7)
theorem mulF_basis:∀x∈basis,∀y∈basis,mulF x y=ahZ x y:=by decide+kernel
theorem mulF_eq(a b:F8):mulF a b=ahZ a b:=by
 refine lin_ext (f:=fun b=>mulF a b) (g:=fun b=>ahZ a b) (fun x y=>?_) (fun x y=>aoZ a x y) (fun y hy=>?_) b
 ·unfold mulF;dsimp only;rw[BitVec.toNat_xor,mulP_right,redP_xor,BitVec.ofNat_xor]
 ·refine lin_ext (f:=fun a=>mulF a y) (g:=fun a=>ahZ a y) (fun p q=>?_) (fun p q=>avZ p q y) (fun x hx=>mulF_basis x hx y hy) a
  unfold mulF;dsimp only;rw[BitVec.toNat_xor,mulP_left,redP_xor,BitVec.ofNat_xor]
theorem xor_lt{a b n:Nat}(ha:a<2 ^ n)(hb:b<2 ^ n):a ^^^ b<2 ^ n:=Nat.xor_lt_two_pow ha hb
theorem mulP_lt{a b:Nat}(ha:a<256):∀n,n≤8→mulP a b n<2 ^ 16
 | 0,_=>by simp[mulP]
 | n+1,h=>by
  simp only[mulP]
  rw[stpM_eq]
  refine xor_lt (mulP_lt ha n (by omega)) ?_
  split
  ·rw[Nat.shiftLeft_eq]
   have:2 ^ n≤2 ^ 7:=Nat.pow_le_pow_right (by omega) (by omega)
   have:a*2 ^ n≤255*2 ^ 7:=Nat.mul_le_mul (by omega) this
   omega
  ·decide
theorem redP_lt{p:Nat}(hp:p<2 ^ 16):∀t,t≤7→redP p t<2 ^ 16
 | 0,_=>hp
 | t+1,h=>by
  simp only[redP]
  rw[stR_eq]
  refine xor_lt (redP_lt hp t (by omega)) ?_
  split
  ·rw[Nat.shiftLeft_eq]
   have:2 ^ (14-t-8)≤2 ^ 6:=Nat.pow_le_pow_right (by omega) (by omega)
   have:285*2 ^ (14-t-8)≤285*2 ^ 6:=Nat.mul_le_mul (Nat.le_refl _) this
   omega
  ·decide
def invP:Nat→F8→F8→F8
 | 0,p,_=>p
 | n+1,p,two=>invP n (ahZ p two) (ahZ two two)
theorem inv_all:∀n:Fin 256,n.val≠0→invP 7 1#8 (ahZ (BitVec.ofFin n) (BitVec.ofFin n))=bIZ (BitVec.ofFin n):=by decide+kernel
theorem invP_eq{a:F8}(h:a≠0#8):invP 7 1#8 (ahZ a a)=bIZ a:=inv_all a.toFin (fun e=>h (BitVec.eq_of_toNat_eq (by simpa using e)))
end Go.Cu
