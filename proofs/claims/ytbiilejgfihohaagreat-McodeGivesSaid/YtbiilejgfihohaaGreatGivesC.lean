/- A part of what the last text of this claim leans on. -/
import Derived.Test.YtbiilejgfihohaaGreatGivesB
import Derived.Test.YtbiilejgfihohaaGreatProg
set_option linter.all false
set_option maxHeartbeats 4000000
set_option maxRecDepth 100000
set_option autoImplicit false
namespace Go.Proofs.YtbiilejgfihohaaGreat
open Go Go.Cu Go.RowKit
theorem scale_loop{R:Ending→World→Prop}{k1:(Sl×(Option Addr)×Sl×Int×Int×Int×Int×Unit)→World→Prop}{W0 w:World}{T:Ths}{kw kt kp:Ky}{s sp ht:Sl}{hs:List Sl}{M:Mtx}{piv:List Nat}{g n wd top c:Nat}{det t21 t22:Int}
  (hkt:kw≠kt) (hkp:kw≠kp) (hR:RS W0 T kw kt kp w s hs M sp piv g) (hM:Shp M n wd) (hn:n≤256) (hwd:wd≤1048576) (htop:top<n) (hht:hs[top]? =some ht) (hsl:s.len=n)
  (hgo:∀w',RS W0 T kw kt kp w' s hs (scaleM M top c) sp piv g→matrix_reduce.l3 R k1 (s,at0 g,sp,det,(top:Int),(c:Int),t21,t22,(n:Int),0,()) w'):
  matrix_reduce.l2 R k1 (s,at0 g,sp,det,(top:Int),(c:Int),((bIZ (ent M top c)).toNat:Int),t21,t22,ht,(wd:Int),0,()) w:=by
 have hMl:=hM.1
 have hMt:M[top]? =some (M.getD top []):=by rw[List.getD_eq_getElem?_getD,List.getElem?_eq_getElem (by omega)];rfl
 have hpl:(M.getD top []).length=wd:=hM.row htop
 have hgo':∀w',RS W0 T kw kt kp w' s hs (M.set top ((M.getD top []).map (fun x=>ahZ x (bIZ (ent M top c))))) sp piv g→matrix_reduce.l3 R k1 (s,at0 g,sp,det,(top:Int),(c:Int),t21,t22,(n:Int),0,()) w':=hgo
 generalize bIZ (ent M top c)=ov at hgo' ⊢
 generalize M.getD top []=p at hMt hpl hgo'
 have hset0:M.set top p=M:=by
  apply List.ext_getElem?
  intro q
  rw[List.getElem?_set]
  split
  ·rename_i e
   subst e
   rw[if_pos (by omega),hMt]
  ·rfl
 unfold matrix_reduce.l2
 refine acZ (fun st w'=>∃i:Nat,st=(s,at0 g,sp,det,(top:Int),(c:Int),(ov.toNat:Int),t21,t22,ht,(wd:Int),(i:Int),())∧i≤wd∧RS W0 T kw kt kp w' s hs (M.set top ((p.take i).map (fun x=>ahZ x ov)++p.drop i)) sp piv g)
  (fun st _=>((wd:Int)-st.2.2.2.2.2.2.2.2.2.2.2.1).toNat) ?_ ⟨0,rfl,Nat.zero_le _,by rw[List.take_zero,List.drop_zero,List.map_nil,List.nil_append,hset0];exact hR⟩
 rintro k2 _ w2 ⟨i,rfl,hi,hR2⟩ hk2
 unfold matrix_reduce.b2
 dsimp only at hk2 ⊢
 refine abZ (fun hlt=>?_) (fun hge=>?_)
 ·have hlt:i<wd:=by omega
  have htk:((p.take i).map (fun x=>ahZ x ov)).length=i:=by rw[List.length_map,List.length_take];omega
  have hrr:(M.set top ((p.take i).map (fun x=>ahZ x ov)++p.drop i))[top]? =some ((p.take i).map (fun x=>ahZ x ov)++p.drop i):=by
   rw[List.getElem?_set,if_pos rfl,if_pos (by omega)]
  have hri:((p.take i).map (fun x=>ahZ x ov)++p.drop i)[i]? =some (p.getD i 0#8):=by
   rw[List.getElem?_append_right (by omega),htk,Nat.sub_self,List.getElem?_drop,Nat.add_zero,List.getD_eq_getElem?_getD,List.getElem?_eq_getElem (by omega)];rfl
  refine byZ (i:=i) (hR2.mat.row top ht _ hht hrr) hri ?_
  have hR3:=hR2.exx (Ex.drew w2)
  refine asZ (fun w'=>Rds slV w' s hs) hR3.mat.hdr ?_
  refine aQZ (i:=top) hR3.mat.hdr (fun w' h'=>h') hht ?_
  refine auZ (d:=.one (.at (.int .u8))) (x:=((ahZ (p.getD i 0#8) ov).toNat:Int)) (tmul_gv hR3.tab (p.getD i 0#8) ov) fun w4 hx4=>?_
  have hR4:=hR3.exx hx4
  refine⟨hR4.mat.hdr,?_⟩
  refine hR4.st hkt hkp (x:=ahZ (p.getD i 0#8) ov) (j:=i) hht hrr (by rw[List.length_append,htk,List.length_drop];omega) fun w5 hR5=>?_
  have hset:((p.take i).map (fun x=>ahZ x ov)++p.drop i).set i (ahZ (p.getD i 0#8) ov)=(p.take (i+1)).map (fun x=>ahZ x ov)++p.drop (i+1):=by
   have hip:i<p.length:=by omega
   have hg:p.getD i 0#8=p[i]:=by rw[List.getD_eq_getElem?_getD,List.getElem?_eq_getElem hip];rfl
   rw[List.set_append_right _ _ (by omega),htk,Nat.sub_self,List.drop_eq_getElem_cons hip,List.set_cons_zero,List.take_succ,List.getElem?_eq_getElem hip,hg,List.map_append,List.append_assoc]
   rfl
  rw[hset,List.set_set]at hR5
  refine⟨hR5.mat.hdr,?_⟩
  unfold matrix_reduce.j3
  rw[adZ (by omega) (by omega),show(i:Int)+1=((i+1:Nat):Int) by omega]
  exact hk2 _ _ ⟨i+1,rfl,by omega,hR5⟩ (by dsimp only;omega)
 ·have hiw:i=wd:=by omega
  subst hiw
  rw[List.take_of_length_le (by omega),List.drop_of_length_le (by omega),List.append_nil]at hR2
  rw[show((s.len:Nat):Int)=(n:Int) by omega]
  exact hgo' _ hR2
theorem red_shp{M:Mtx}{n wd:Nat}(h:Shp M n wd):∀c,Shp (bJZ c M).1 n wd∧(bJZ c M).2.length≤n∧(bJZ c M).2.length≤c
 | 0=>⟨h,Nat.zero_le _,Nat.zero_le _⟩
 | c+1=>by
  obtain⟨h1,h2,h3⟩:=red_shp h c
  simp only[bJZ]
  cases hs:stepM (bJZ c M).1 c (bJZ c M).2.length with
  | none=>exact⟨h1,h2,Nat.le_succ_of_le h3⟩
  | some M'=>
   unfold stepM at hs
   cases hf:findM (bJZ c M).1 c (bJZ c M).2.length with
   | none=>rw[hf]at hs;cases hs
   | some r=>
    rw[hf]at hs
    cases hs
    obtain⟨f1,f2,_⟩:=find_some hf
    rw[h1.1]at f2
    refine⟨shp_clear (shp_scale (shp_swap h1 (by omega) f2) (by omega)) (by omega),?_,?_⟩
    ·simp only[List.length_append,List.length_singleton];omega
    ·simp only[List.length_append,List.length_singleton];omega
theorem find_is{M:Mtx}{c top r:Nat}(h1:top≤r)(h2:r<M.length)(hz:∀q,top≤q→q<r→ent M q c=0#8)(hne:ent M r c≠0#8):findM M c top=some r:=by
 unfold findM
 rw[List.find?_range'_eq_some]
 refine⟨by simpa using hne,by rw[List.mem_range'_1];omega,fun j hj1 hj2=>?_⟩
 simpa using hz j hj1 hj2
theorem find_not{M:Mtx}{c top:Nat}(hz:∀q,top≤q→q<M.length→ent M q c=0#8):findM M c top=none:=by
 unfold findM
 rw[List.find?_eq_none]
 intro x hx
 rw[List.mem_range'_1]at hx
 simpa using hz x hx.1 (by omega)
theorem reduce_ok{W0 w:World}{T:Ths}{kw kt kp:Ky}{s:Sl}{hs:List Sl}{M:Mtx}{n wd cols:Nat}(hkt:kw≠kt)(hkp:kw≠kp)(hktp:kt≠kp)(hS:Sep W0 w T)(hk:T kw=buZ s hs M)(hM:Shp M n wd)(hn:n≤256)(hwd:wd≤1048576)(hcols:cols≤wd):
  Cl Tryz.prog 116 #[.slice s.base s.len s.cap,.int .i64 (cols:Int)] (.tup [.at .sl,.at (.int .u8)]) (fun x w'=>x.1.len=(bJZ cols M).2.length∧∃hs' T',Sep W0 w' T'∧(∀q,q≠kw→q≠kt→q≠kp→T' q=T q)∧T' kw=buZ s hs' (bJZ cols M).1) w:=by
 refine matrix_reduce.run _ s (cols:Int) w ?_
 generalize hRR:(fun(e:Ending) (w':World)=>∃x:Sl×Int×Unit,e=.returned ((Sh.tup [.at .sl,.at (.int .u8)]).enc x)∧x.1.len=(bJZ cols M).2.length∧∃hs' T',Sep W0 w' T'∧(∀q,q≠kw→q≠kt→q≠kp→T' q=T q)∧T' kw=buZ s hs' (bJZ cols M).1)=R
 unfold matrix_reduce.M
 refine aeZ (newTab_sep kt hS) ?_
 rintro _ w1 ⟨g,rfl,hS1⟩
 have hR1:RS W0 T kw kt kp w1 s hs M ⟨none,0,0⟩ [] g:=⟨_,hS1.newOwn kp (Ex.refl w1) (Own.nil _ _ _ _),fun q _ b c=>by rw[Ths.up_ne _ _ c,Ths.up_ne _ _ b],by rw[Ths.up_ne _ _ hkp,Ths.up_ne _ _ hkt];exact hk,by rw[Ths.up_ne _ _ hktp,Ths.up_same],Ths.up_same _ _ _⟩
 have hsl:s.len=n:=by rw[hR1.mat.hdr.1,hR1.mat.len,hM.1]
 unfold matrix_reduce.l1
 refine acZ (fun st w'=>∃(c:Nat) (sp:Sl) (hs1:List Sl) (d:F8),st=(s,at0 g,sp,(d.toNat:Int),((bJZ c M).2.length:Int),(cols:Int),(c:Int),())∧c≤cols∧RS W0 T kw kt kp w' s hs1 (bJZ c M).1 sp (bJZ c M).2 g)
  (fun st _=>((cols:Int)-st.2.2.2.2.2.2.1).toNat) ?_ ⟨0,⟨none,0,0⟩,hs,1#8,rfl,Nat.zero_le _,hR1⟩
 rintro k1 _ w2 ⟨c,sp,hs1,d,rfl,hc,hR2⟩ hk1
 unfold matrix_reduce.b1
 dsimp only at hk1 ⊢
 obtain⟨hsh,hpn,hpc⟩:=red_shp hM c
 refine abZ (fun hlt=>?_) (fun hge=>?_)
 ·have hlt:c<cols:=by omega
  have hredS:∀M',stepM (bJZ c M).1 c (bJZ c M).2.length=some M'→bJZ (c+1) M=(M',(bJZ c M).2++[c]):=fun M' h=>by simp only[bJZ];rw[h]
  have hredN:stepM (bJZ c M).1 c (bJZ c M).2.length=none→bJZ (c+1) M=bJZ c M:=fun h=>by simp only[bJZ];rw[h]
  generalize hrc:bJZ c M=rc at hR2 hsh hpn hpc hredS hredN ⊢
  obtain⟨M1,piv⟩:=rc
  dsimp only at hR2 hsh hpn hpc hredS hredN ⊢
  have hMl:=hsh.1
  have hhl:hs1.length=n:=by rw[hR2.mat.len,hMl]
  unfold matrix_reduce.l5
  refine acZ (fun st w'=>∃r:Nat,st=(s,at0 g,sp,(d.toNat:Int),(piv.length:Int),(c:Int),(r:Int),(cols:Int),(c:Int),())∧piv.length≤r∧r≤n∧w'=w2∧∀q,piv.length≤q→q<r→ent M1 q c=0#8)
   (fun st _=>((n:Int)-st.2.2.2.2.2.2.1).toNat) ?_ ⟨piv.length,rfl,Nat.le_refl _,hpn,rfl,fun q h1 h2=>by omega⟩
  rintro k5 _ w3 ⟨r,rfl,hr1,hr2,rfl,hz⟩ hk5
  unfold matrix_reduce.b5
  dsimp only at hk5 ⊢
  refine aJZ (fun he=>?_) (fun hne=>?_)
  ·have hrn:r=n:=by omega
   have hst:stepM M1 c piv.length=none:=by
    unfold stepM
    rw[find_not (fun q h1 h2=>hz q h1 (by omega))]
   have hnx:=hredN hst
   unfold matrix_reduce.j1
   rw[adZ (by omega) (by omega),show(c:Int)+1=((c+1:Nat):Int) by omega]
   exact hk1 _ _ ⟨c+1,sp,hs1,0#8,by rw[hnx];rfl,by omega,by rw[hnx];exact hR2⟩ (by dsimp only;omega)
  ·have hrn:r<n:=by omega
   obtain⟨hR_,hhr⟩:∃h,hs1[r]? =some h:=⟨_,List.getElem?_eq_getElem (by omega)⟩
   have hMr:M1[r]? =some (M1.getD r []):=by rw[List.getD_eq_getElem?_getD,List.getElem?_eq_getElem (by omega)];rfl
   refine atZ (i:=r) hR2.mat.hdr hhr ?_
   refine byZ (i:=c) (hR2.mat.row r hR_ _ hhr hMr) (row_ent hsh hrn hMr (by omega)) ?_
   refine aEZ (fun h0=>?_) (fun h0=>?_)
   ·have hent:ent M1 r c≠0#8:=fun e=>h0 ((aTZ _).2 e)
    have hf:=find_is hr1 (by omega) hz hent
    have hst:stepM M1 c piv.length=some (clearM (scaleM (bRZ M1 piv.length r) piv.length c) piv.length c):=by unfold stepM;rw[hf]
    have hnx:=hredS _ hst
    have htop:piv.length<n:=by omega
    obtain⟨hT_,hht⟩:∃h,hs1[piv.length]? =some h:=⟨_,List.getElem?_eq_getElem (by omega)⟩
    have hshS:Shp (bRZ M1 piv.length r) n wd:=shp_swap hsh htop hrn
    have hentS:ent (bRZ M1 piv.length r) piv.length c≠0#8:=by
     rw[ent_swap hsh htop hrn]
     by_cases e:piv.length=r
     ·rw[if_pos e];rw[←e]at hent;exact hent
     ·rw[if_neg e,if_pos rfl];exact hent
    have j2f:∀w' hs2,RS W0 T kw kt kp w' s hs2 (bRZ M1 piv.length r) sp piv g→matrix_reduce.j2 R k1 s (at0 g) sp (d.toNat:Int) (piv.length:Int) (c:Int) (cols:Int) (c:Int) w':=by
     intro w' hs2 hR'
     unfold matrix_reduce.j2
     have hMs:=hR'.mat
     have hl2:hs2.length=n:=by rw[hMs.len,hshS.1]
     obtain⟨h2,hh2⟩:∃h,hs2[piv.length]? =some h:=⟨_,List.getElem?_eq_getElem (by omega)⟩
     have hSr:(bRZ M1 piv.length r)[piv.length]? =some ((bRZ M1 piv.length r).getD piv.length []):=by rw[List.getD_eq_getElem?_getD,List.getElem?_eq_getElem (by rw[hshS.1];omega)];rfl
     have hre:=row_ent hshS htop hSr (show c<wd by omega)
     refine atZ (i:=piv.length) hMs.hdr hh2 ?_
     refine byZ (i:=c) (hMs.row _ h2 _ hh2 hSr) hre ?_
     refine auZ (d:=.one (.at (.int .u8))) (x:=((ahZ d (ent (bRZ M1 piv.length r) piv.length c)).toNat:Int)) (tmul_gv hR'.tab d _) fun w4 hx4=>?_
     have hR4:=hR'.exx hx4
     refine atZ (i:=piv.length) hR4.mat.hdr hh2 ?_
     refine byZ (i:=c) (hR4.mat.row _ h2 _ hh2 hSr) hre ?_
     refine auZ (d:=.tup [.at (.int .u8),.at (.int .i64)]) (x:=(((bIZ (ent (bRZ M1 piv.length r) piv.length c)).toNat:Int),0,())) (tinv_gv hR4.tab hentS) fun w5 hx5=>?_
     have hR5:=hR4.exx hx5
     refine atZ (i:=piv.length) hR5.mat.hdr hh2 ?_
     have hh2l:h2.len=wd:=by have:=(hR5.mat.row _ h2 _ hh2 hSr).1;rw[hshS.row htop]at this;exact this
     rw[show((h2.len:Nat):Int)=(wd:Int) by omega]
     refine scale_loop hkt hkp hR5 hshS hn hwd htop hh2 hsl fun w6 hR6=>?_
     refine clear_loop hkt hkp hktp hR6 (shp_scale hshS htop) hn hwd htop (by omega) (by omega) fun w7 sp' hR7=>?_
     unfold matrix_reduce.j1
     rw[adZ (by omega) (by omega),adZ (by omega) (by omega),show(c:Int)+1=((c+1:Nat):Int) by omega]
     exact hk1 _ _ ⟨c+1,sp',hs2,ahZ d (ent (bRZ M1 piv.length r) piv.length c),by rw[hnx];simp,by omega,by rw[hnx];exact hR7⟩ (by dsimp only;omega)
    have hRd:=hR2.exx (Ex.drew w3)
    have ix:∀(i:Nat) (h:Sl) (K:Addr→World→Prop) (w':World),hs1[i]? =some h→(∀b,s.base=some b→K (b.add i) w')→Pu Tryz.prog (Instr.indexAt 30 (.slice s.base s.len s.cap) (.int .i64 (i:Int))) (.one (.at .addr)) K w':=by
     intro i h K w' hh hK
     have hlt':=(List.getElem?_eq_some_iff.1 hh).1
     obtain⟨b,hb,_⟩:=hRd.mat.hdr.2.2 i h hh
     exact Pu_ix tBB sS hb (by omega) (by omega) (by rw[Int.toNat_natCast];exact hK b hb)
    have ld:∀(i:Nat) (h:Sl) (b:Addr) (K:Sl→World→Prop) (w':World),hs1[i]? =some h→s.base=some b→Rds slV w' s hs1→K h w'→Wr Tryz.prog (Instr.loadAt 24 (.pointer (some (b.add i)))) (.one (.at .sl)) K w':=by
     intro i h b K w' hh hb hr' hK
     have hcell:=rds_at hr' hb hh
     exact Wr_of_Rd (bwZ (c:=.sl) (x:=h) oS hcell hK)
    have swp:Pu Tryz.prog (Instr.indexAt 30 (.slice s.base s.len s.cap) (.int .i64 (piv.length:Int))) (.one (.at .addr)) (fun x99 w100=>Wu Tryz.prog (Instr.storeAt 24 (.pointer (some x99)) (.slice hR_.base hR_.len hR_.cap)) (fun w101=>True∧(Pu Tryz.prog (Instr.indexAt 30 (.slice s.base s.len s.cap) (.int .i64 (r:Int))) (.one (.at .addr)) (fun x102 w103=>
      Wu Tryz.prog (Instr.storeAt 24 (.pointer (some x102)) (.slice hT_.base hT_.len hT_.cap)) (fun w104=>True∧(matrix_reduce.j2 R k1 s (at0 g) sp (d.toNat:Int) (piv.length:Int) (c:Int) (cols:Int) (c:Int) w104)) w103) w101)) w100) w3.drew:=by
     obtain⟨T1,q1,q2,q3,q4,q5⟩:=hRd
     obtain⟨hO,_,_⟩:=mat_get q1 q3
     refine Wu_set (f:=slV) (x:=hR_) (i:=piv.length) hO (by omega) tBB sS sS rfl rfl fun w4 hO4 hm4=>⟨trivial,?_⟩
     refine Wu_set (f:=slV) (x:=hT_) (i:=r) hO4 (by rw[List.length_set];omega) tBB sS sS rfl rfl fun w5 hO5 hm5=>⟨trivial,?_⟩
     have hS5:=mat_swap q1 q3 hht hhr hO5 (Mo.trans hm4 hm5 (fun _=>id) (fun _ _ h=>h))
     exact j2f w5 _ ⟨_,hS5,fun q a b e=>(Ths.up_ne _ _ a).trans (q2 q a b e),Ths.up_same _ _ _,(Ths.up_ne _ _ (fun e=>hkt e.symm)).trans q4,(Ths.up_ne _ _ (fun e=>hkp e.symm)).trans q5⟩
    refine asZ (fun _=>True) trivial ?_
    refine ix r hR_ _ _ hhr fun b hb=>ix piv.length hT_ _ _ hht fun b' hb'=>?_
    obtain rfl:b=b':=by rw[hb]at hb';cases hb';rfl
    exact⟨ld r hR_ b _ _ hhr hb hRd.mat.hdr ⟨trivial,ld piv.length hT_ b _ _ hht hb hRd.mat.hdr ⟨trivial,swp⟩⟩,ld piv.length hT_ b _ _ hht hb hRd.mat.hdr ⟨trivial,ld r hR_ b _ _ hhr hb hRd.mat.hdr ⟨trivial,swp⟩⟩⟩
   ·have hent:ent M1 r c=0#8:=(aTZ _).1 h0
    rw[adZ (by omega) (by omega),show(r:Int)+1=((r+1:Nat):Int) by omega]
    refine hk5 _ _ ⟨r+1,rfl,by omega,by omega,rfl,fun q h1 h2=>?_⟩ (by dsimp only;omega)
    by_cases e:q=r
    ·rw[e];exact hent
    ·exact hz q h1 (by omega)
 ·have hcc:c=cols:=by omega
  subst hcc
  obtain⟨T1,q1,q2,q3,q4,q5⟩:=hR2
  have hpl:=(q1.owt q5).rds.1
  subst hRR
  exact⟨(sp,(d.toNat:Int),()),rfl,hpl,hs1,T1,q1,q2,q3⟩
end Go.Proofs.YtbiilejgfihohaaGreat
namespace Go.Proofs.YtbiilejgfihohaaGreat
open Go Go.Cu Go.RowKit
def Stay(W0:World)(T:Ths)(L:List Ky)(Q:World→Prop):Prop:=∀w' T',Sep W0 w' T'→(∀q,q∉L→T' q=T q)→Q w'
theorem Stay.here{W0 w:World}{T:Ths}{L:List Ky}{Q:World→Prop}(h:Stay W0 T L Q)(hS:Sep W0 w T):Q w:=h w T hS (fun _ _=>rfl)
theorem Pu_from{h:Sl}{n:Nat}{ik:IntKind}{K:Sl→World→Prop}{w:World}(h1:n<h.cap)(h2:h.len=h.cap)(hk:K ⟨h.base.map (·.add n),h.len-n,h.cap-n⟩ w):
  Pu Tryz.prog (Instr.sliceAt 24 (.slice h.base h.len h.cap) (some (.int ik (n:Int))) none none) (.one (.at .sl)) K w:=by
 refine⟨_,fun w'=>?_,hk⟩
 have:=run_sliceAt (P:=Tryz.prog) (s:=h) (w:=w') (l:=n) (h:=h.len) (lo:=some (.int ik (n:Int))) (hi:=none) tB sB (.inr ⟨ik,rfl⟩) (.inl ⟨rfl,rfl⟩) (by omega) (by omega)
 rw[if_neg (by omega),Nat.mul_one]at this
 exact this
def augP(A B:Mtx)(n wd r:Nat):Mtx:=(augM A B).take r++List.replicate (n-r) (List.replicate wd 0#8)
theorem augP_get{A B:Mtx}{n p q r:Nat}(hA:Shp A n p)(hB:Shp B n q)(hr:r<n):(augP A B n (p+q) r)[r]? =some (List.replicate (p+q) 0#8):=by
 have hl:(augM A B).length=n:=(shp_aug hA hB).1
 unfold augP
 rw[List.getElem?_append_right (by rw[List.length_take];omega),List.length_take,hl,Nat.min_eq_left (by omega),Nat.sub_self,List.getElem?_replicate,if_pos (by omega)]
theorem augP_set{A B:Mtx}{n p q r:Nat}{ra rb:List F8}(hA:Shp A n p)(hB:Shp B n q)(hr:r<n)(ha:A[r]? =some ra)(hb:B[r]? =some rb):(augP A B n (p+q) r).set r (ra++rb)=augP A B n (p+q) (r+1):=by
 have hl:(augM A B).length=n:=(shp_aug hA hB).1
 have hg:(augM A B)[r]? =some (ra++rb):=by
  unfold augM
  rw[List.getElem?_zipWith,ha,hb]
 unfold augP
 rw[List.set_append_right _ _ (by rw[List.length_take];omega),List.length_take,hl,Nat.min_eq_left (by omega),Nat.sub_self]
 obtain⟨d,hd⟩:∃d,n-r=d+1:=⟨n-r-1,by omega⟩
 rw[hd,List.replicate_succ,List.set_cons_zero,show n-(r+1)=d by omega,List.take_succ,hg,List.append_assoc]
 rfl
theorem augP_len{A B:Mtx}{n p q r:Nat}(hA:Shp A n p)(hB:Shp B n q)(hr:r≤n):(augP A B n (p+q) r).length=n:=by
 have hl:(augM A B).length=n:=(shp_aug hA hB).1
 unfold augP
 rw[List.length_append,List.length_take,List.length_replicate];omega
theorem solve_go{W0 w:World}{T:Ths}{ko kw kt kp:Ky}{n c:Nat}{sa sb:Sl}{ha hb:List Sl}{A B X:Mtx}(d1:kw≠kt)(d2:kw≠kp)(d3:kt≠kp)(d4:kw≠ko)(hS:Sep W0 w T)
  (hRA:Stay W0 T [ko,kw,kt,kp] (fun w=>MatR w sa ha A)) (hRB:Stay W0 T [ko,kw,kt,kp] (fun w=>MatR w sb hb B)) (hA:Shp A n n) (hB:Shp B n c) (hn1:1≤n) (hn2:n≤256) (hc1:1≤c) (hc2:c≤512) (hX:solveM n A B=some X):
  Cl Tryz.prog 92 #[.slice sa.base sa.len sa.cap,.slice sb.base sb.len sb.cap] (.tup [.at .sl,.at (.int .i64)]) (fun x w'=>∃s hs T',x=(s,0,())∧Sep W0 w' T'∧(∀q,q∉[ko,kw,kt,kp]→T' q=T q)∧T' ko=buZ s hs X) w:=by
 refine matrix_Solve.run _ sa sb w ?_
 generalize hRR:(fun(e:Ending) (w':World)=>∃x:Sl×Int×Unit,e=.returned ((Sh.tup [.at .sl,.at (.int .i64)]).enc x)∧∃s hs T',x=(s,0,())∧Sep W0 w' T'∧(∀q,q∉[ko,kw,kt,kp]→T' q=T q)∧T' ko=buZ s hs X)=R
 unfold matrix_Solve.M
 have hMA:=hRA.here hS
 have hMB:=hRB.here hS
 refine auZ (d:=.one (.at (.int .i64))) (x:=0) (check_gv hMA hA hn1 hn2 hn1 (by omega)) fun w1 hx1=>aAZ ?_
 refine auZ (d:=.one (.at (.int .i64))) (x:=0) (check_gv (hMB.ex hx1) hB hn1 hn2 hc1 hc2) fun w2 hx2=>?_
 have hx02:=hx1.trans hx2
 have hS2:=hS.exx hx02
 have hMA2:=hMA.ex hx02
 have hMB2:=hMB.ex hx02
 have hal:ha.length=n:=by rw[hMA.len,hA.1]
 have hbl:hb.length=n:=by rw[hMB.len,hB.1]
 have hsal:sa.len=n:=by rw[hMA.hdr.1,hal]
 have hsbl:sb.len=n:=by rw[hMB.hdr.1,hbl]
 obtain⟨ga0,ra0,ea1,ea2,ea3,ea4⟩:=hMA2.at (i:=0) (by rw[hA.1];omega)
 obtain⟨gb0,rb0,eb1,eb2,eb3,eb4⟩:=hMB2.at (i:=0) (by rw[hB.1];omega)
 have hga0:ga0.len=n:=by rw[ea3.1,ea4,hA.row (by omega)]
 have hgb0:gb0.len=c:=by rw[eb3.1,eb4,hB.row (by omega)]
 unfold matrix_Solve.j1
 refine aAZ ?_
 refine atZ (i:=0) hMA2.hdr ea1 ?_
 refine aEZ (fun h=>by omega) (fun _=>?_)
 unfold matrix_Solve.j2
 refine aEZ (fun h=>by omega) (fun _=>?_)
 refine atZ (i:=0) hMB2.hdr eb1 ?_
 rw[adZ (by omega) (by omega),show((sa.len:Nat):Int)=(n:Int) by omega,show(n:Int)+((gb0.len:Nat):Int)=((n+c:Nat):Int) by omega]
 refine aeZ (blank_ok kw hS2 (n:=n) (c:=n+c) (by omega) (by omega)) ?_
 rintro sw w3 ⟨⟨hw,hS3⟩,_⟩
 have e0:List.replicate n (List.replicate (n+c) (0#8:F8))=augP A B n (n+c) 0:=by unfold augP;simp
 rw[e0]at hS3
 have hwl:hw.length=n:=by rw[(azZ hS3 (Ths.up_same _ _ _)).len,augP_len hA hB (by omega)]
 have hswl:sw.len=n:=by rw[(azZ hS3 (Ths.up_same _ _ _)).hdr.1,hwl]
 have stA:∀(w':World) (t:Th),Sep W0 w' (T.up kw t)→MatR w' sa ha A∧MatR w' sb hb B:=fun w' t hS'=>
  ⟨hRA w' _ hS' (fun q h=>Ths.up_ne _ _ (fun e=>h (by simp[e]))),hRB w' _ hS' (fun q h=>Ths.up_ne _ _ (fun e=>h (by simp[e])))⟩
 rw[show((sw.len:Nat):Int)=(n:Int) by omega]
 unfold matrix_Solve.l1
 refine acZ (fun st w'=>∃r:Nat,st=(sa,sb,(n:Int),sw,(n:Int),(r:Int),())∧r≤n∧Sep W0 w' (T.up kw (buZ sw hw (augP A B n (n+c) r))))
  (fun st _=>((n:Int)-st.2.2.2.2.2.1).toNat) ?_ ⟨0,rfl,Nat.zero_le _,hS3⟩
 rintro k1 _ w4 ⟨r,rfl,hr,hS4⟩ hk1
 unfold matrix_Solve.b1
 dsimp only at hk1 ⊢
 refine abZ (fun hlt=>?_) (fun hge=>?_)
 ·have hlt:r<n:=by omega
  obtain⟨hwr,hhr⟩:∃h,hw[r]? =some h:=⟨_,List.getElem?_eq_getElem (by omega)⟩
  have hS5:=hS4.exx (Ex.drew w4)
  have mkS:∀(w':World) (M:Mtx),Sep W0 w' (T.up kw (buZ sw hw M))→Rds slV w' sw hw∧Rds slV w' sa ha∧Rds slV w' sb hb:=fun w' M hS'=>⟨(azZ hS' (Ths.up_same _ _ _)).hdr,(stA _ _ hS').1.hdr,(stA _ _ hS').2.hdr⟩
  obtain⟨gr,ra,ra1,ra2,ra3,ra4⟩:=(stA _ _ hS5).1.at (i:=r) (by rw[hA.1];exact hlt)
  have hral:ra.length=n:=by rw[ra4,hA.row hlt]
  have hrow:=augP_get hA hB hlt
  have hfull:hwr.cap=hwr.len∧hwr.len=n+c:=by
   obtain⟨F,ht,_⟩:=hS5.get kw (Ths.up_same _ _ _)
   have h1:=(ht.row r hwr _ hhr hrow).1
   simp at h1
   exact⟨ht.full r hwr hhr,h1⟩
  refine asZ (fun w'=>Rds slV w' sw hw∧Rds slV w' sa ha∧Rds slV w' sb hb) (mkS _ _ hS5) ?_
  refine aQZ (i:=r) (mkS _ _ hS5).1 (fun w' h'=>h'.1) hhr ?_
  refine aQZ (i:=r) (mkS _ _ hS5).2.1 (fun w' h'=>h'.2.1) ra1 ?_
  refine cp_row (k:=kw) (o:=0) hS5 (Ths.up_same _ _ _) hhr hrow (fun b hb'=>by rw[hb',addr_zero']) (by omega) ra3 (by intro e;rw[e]at hral;simp at hral;omega) (by simp;omega) fun w6 hS6=>?_
  rw[Ths.up_up,List.take_zero,List.nil_append,Nat.zero_add,hral]at hS6
  refine⟨mkS _ _ hS6,?_⟩
  have hS7:=hS6.exx (Ex.drew w6)
  obtain⟨gb,rb,rb1,rb2,rb3,rb4⟩:=(stA _ _ hS7).2.at (i:=r) (by rw[hB.1];exact hlt)
  have hrbl:rb.length=c:=by rw[rb4,hB.row hlt]
  have hrow7:((augP A B n (n+c) r).set r (ra++(List.replicate (n+c) (0#8:F8)).drop n))[r]? =some (ra++(List.replicate (n+c) (0#8:F8)).drop n):=by
   rw[List.getElem?_set,if_pos rfl,if_pos (by rw[augP_len hA hB hr];exact hlt)]
  refine asZ (fun w'=>Rds slV w' sw hw∧Rds slV w' sa ha∧Rds slV w' sb hb) (mkS _ _ hS7) ?_
  refine aQZ (i:=r) (mkS _ _ hS7).1 (fun w' h'=>h'.1) hhr ?_
  refine Pu_from (n:=n) (by omega) (by omega) ?_
  refine aQZ (i:=r) (mkS _ _ hS7).2.2 (fun w' h'=>h'.2.2) rb1 ?_
  refine cp_row (k:=kw) (o:=n) (d:=⟨hwr.base.map (·.add n),hwr.len-n,hwr.cap-n⟩) hS7 (Ths.up_same _ _ _) hhr hrow7 (fun b hb'=>by simp[hb']) (by simp only;omega) rb3 (by intro e;rw[e]at hrbl;simp at hrbl;omega) (by simp;omega) fun w8 hS8=>?_
  have et:(ra++(List.replicate (n+c) (0#8:F8)).drop n).take n=ra:=by rw[←hral];exact List.take_left
  have ed:(ra++(List.replicate (n+c) (0#8:F8)).drop n).drop (n+rb.length)=[]:=List.drop_of_length_le (by simp;omega)
  rw[Ths.up_up,et,ed,List.append_nil,List.set_set,augP_set hA hB hlt ra2 rb2]at hS8
  refine⟨mkS _ _ hS8,?_⟩
  rw[adZ (by omega) (by omega),show(r:Int)+1=((r+1:Nat):Int) by omega]
  exact hk1 _ _ ⟨r+1,rfl,by omega,hS8⟩ (by dsimp only;omega)
 ·have hrn:r=n:=by omega
  subst hrn
  have ea:augP A B r (r+c) r=augM A B:=by
   unfold augP
   rw[Nat.sub_self,List.replicate_zero,List.append_nil,List.take_of_length_le (by rw[(shp_aug hA hB).1];exact Nat.le_refl _)]
  rw[ea]at hS4
  have hsh:=shp_aug hA hB
  refine aeZ (reduce_ok d1 d2 d3 hS4 (Ths.up_same _ _ _) hsh hn2 (by omega) (cols:=r) (by omega)) ?_
  rintro x w5 ⟨hxl,hw2,T5,hS5,hT5,hk5⟩
  have hge2:¬(bJZ r (augM A B)).2.length<r∧X=(bJZ r (augM A B)).1.map (List.drop r):=by
   unfold solveM at hX
   split at hX
   ·cases hX
   ·rename_i h
    exact⟨h,(Option.some.inj hX).symm⟩
  refine abZ (fun h=>absurd (show((x.1.len:Nat):Int)<(r:Int) from h) (by have:=hge2.1;omega)) (fun _=>?_)
  have hT5':∀q,q∉[ko,kw,kt,kp]→T5 q=T q:=fun q hq=>by
   simp only[List.mem_cons,List.not_mem_nil,or_false,not_or]at hq
   rw[hT5 q hq.2.1 hq.2.2.1 hq.2.2.2,Ths.up_ne _ _ hq.2.1]
  have hMB5:=hRB w5 T5 hS5 hT5'
  refine atZ (i:=0) hMB5.hdr eb1 ?_
  rw[show((gb0.len:Nat):Int)=(c:Int) by omega]
  refine aeZ (blank_ok ko hS5 (n:=r) (c:=c) (by omega) (by omega)) ?_
  rintro so w6 ⟨⟨hso,hS6⟩,_⟩
  have hrsh:=(red_shp hsh r).1
  have hkw:∀t:Th,(T5.up ko t) kw=buZ sw hw2 (bJZ r (augM A B)).1:=fun t=>(Ths.up_ne _ _ d4).trans hk5
  have hol:hso.length=r:=by rw[(azZ hS6 (Ths.up_same _ _ _)).len,List.length_replicate]
  have hsol:so.len=r:=by rw[(azZ hS6 (Ths.up_same _ _ _)).hdr.1,hol]
  have hw2l:hw2.length=r:=by rw[(azZ hS5 hk5).len,hrsh.1]
  rw[show((so.len:Nat):Int)=(r:Int) by omega]
  unfold matrix_Solve.l2
  refine acZ (fun st w'=>∃(i:Nat) (M:Mtx),st=((r:Int),sw,so,(r:Int),(i:Int),())∧i≤r∧M=X.take i++List.replicate (r-i) (List.replicate c 0#8)∧Sep W0 w' (T5.up ko (buZ so hso M)))
   (fun st _=>((r:Int)-st.2.2.2.2.1).toNat) ?_ ⟨0,_,rfl,Nat.zero_le _,by simp,hS6⟩
  rintro k2 _ w7 ⟨i,M,rfl,hi,hM,hS7⟩ hk2
  unfold matrix_Solve.b2
  dsimp only at hk2 ⊢
  have hXl:X.length=r:=by rw[hge2.2,List.length_map,hrsh.1]
  refine abZ (fun hlt2=>?_) (fun hge3=>?_)
  ·have hlt2:i<r:=by omega
   obtain⟨ho,hho⟩:∃h,hso[i]? =some h:=⟨_,List.getElem?_eq_getElem (by omega)⟩
   obtain⟨h2,hh2⟩:∃h,hw2[i]? =some h:=⟨_,List.getElem?_eq_getElem (by omega)⟩
   have hS8:=hS7.exx (Ex.drew w7)
   have mkS:∀(w':World) (M':Mtx),Sep W0 w' (T5.up ko (buZ so hso M'))→Rds slV w' so hso∧Rds slV w' sw hw2:=fun w' M' hS'=>⟨(azZ hS' (Ths.up_same _ _ _)).hdr,(azZ hS' (hkw _)).hdr⟩
   have hMi:M[i]? =some (List.replicate c 0#8):=by
    rw[hM,List.getElem?_append_right (by rw[List.length_take];omega),List.length_take,Nat.min_eq_left (by omega),Nat.sub_self,List.getElem?_replicate,if_pos (by omega)]
   have hWi:(bJZ r (augM A B)).1[i]? =some ((bJZ r (augM A B)).1.getD i []):=by rw[List.getD_eq_getElem?_getD,List.getElem?_eq_getElem (by rw[hrsh.1];exact hlt2)];rfl
   have hWl:=hrsh.row hlt2
   have hXi:X[i]? =some (((bJZ r (augM A B)).1.getD i []).drop r):=by rw[hge2.2,List.getElem?_map,hWi];rfl
   have hol2:ho.len=c:=by have:=((azZ hS8 (Ths.up_same _ _ _)).row i ho _ hho hMi).1;simpa using this
   have hfull2:h2.cap=h2.len:=by
    obtain⟨F,ht,_⟩:=hS8.get kw (hkw _)
    exact ht.full i h2 hh2
   have hR2:=(azZ hS8 (hkw _)).row i h2 _ hh2 hWi
   have h2l:h2.len=r+c:=by rw[hR2.1,hWl]
   refine asZ (fun w'=>Rds slV w' so hso∧Rds slV w' sw hw2) (mkS _ _ hS8) ?_
   refine aQZ (i:=i) (mkS _ _ hS8).1 (fun w' h'=>h'.1) hho ?_
   refine aQZ (i:=i) (mkS _ _ hS8).2 (fun w' h'=>h'.2) hh2 ?_
   refine Pu_slice r (r+c) hR2 tB sB (.inr ⟨.i64,rfl⟩) (.inl ⟨rfl,by rw[hWl]⟩) (by omega) (by rw[hWl];exact Nat.le_refl _) fun d hd hdl hdc _=>?_
   have hdr:=hd _ hR2
   rw[List.take_of_length_le (by rw[hWl];exact Nat.le_refl _)]at hdr
   have hdlen:(((bJZ r (augM A B)).1.getD i []).drop r).length=c:=by rw[List.length_drop,hWl];omega
   generalize ((bJZ r (augM A B)).1.getD i []).drop r=xr at hdr hdlen hXi
   have e9:(List.replicate c (0#8:F8)).take 0++xr++(List.replicate c (0#8:F8)).drop (0+xr.length)=xr:=by
    rw[List.take_zero,List.nil_append,List.drop_of_length_le (by rw[List.length_replicate];omega),List.append_nil]
   refine cp_row (k:=ko) (o:=0) hS8 (Ths.up_same _ _ _) hho hMi (fun b hb'=>by rw[hb',addr_zero']) (by omega) hdr (by intro e;rw[e]at hdlen;simp at hdlen;omega) (by rw[List.length_replicate];omega) fun w9 hS9=>?_
   rw[Ths.up_up,e9]at hS9
   refine⟨mkS _ _ hS9,?_⟩
   rw[adZ (by omega) (by omega),show(i:Int)+1=((i+1:Nat):Int) by omega]
   refine hk2 _ _ ⟨i+1,_,rfl,by omega,?_,hS9⟩ (by dsimp only;omega)
   rw[hM,List.set_append_right _ _ (by rw[List.length_take];omega),List.length_take,Nat.min_eq_left (by omega),Nat.sub_self]
   obtain⟨e,he⟩:∃e,r-i=e+1:=⟨r-i-1,by omega⟩
   rw[he,List.replicate_succ,List.set_cons_zero,show r-(i+1)=e by omega,List.take_succ,hXi,List.append_assoc]
   rfl
  ·have hir:i=r:=by omega
   subst hir
   rw[hM,Nat.sub_self,List.replicate_zero,List.append_nil,List.take_of_length_le (by omega)]at hS7
   subst hRR
   exact⟨(so,0,()),rfl,so,hso,_,rfl,hS7,fun q hq=>(Ths.up_ne _ _ (fun e=>hq (by simp[e]))).trans (hT5' q hq),Ths.up_same _ _ _⟩
end Go.Proofs.YtbiilejgfihohaaGreat
namespace Go.Proofs.YtbiilejgfihohaaGreat
open Go Go.Cu Go.RowKit
theorem MatR.mo{X:Nat→Prop}{w w':World}{s:Sl}{hs:List Sl}{M:Mtx}(h:MatR w s hs M)(m:Mo X w w')(h1:∀b,SlIn s b→¬X b)(h2:∀(i:Nat) (g:Sl),hs[i]? =some g→∀b,SlIn g b→¬X b):MatR w' s hs M:=
 ⟨h.hdr.mo m (fun a ha=>h1 _ (aYZ ha)),h.len,fun i g r e1 e2=>(h.row i g r e1 e2).mo m (fun a ha=>h2 i g e1 _ (aYZ ha))⟩
def RoM(s:Sl)(hs:List Sl)(M:Mtx):Th:=⟨fun w F=>MatR w s hs M∧(∀b,SlIn s b→F b)∧∀(i:Nat) (g:Sl),hs[i]? =some g→∀b,SlIn g b→F b,fun h m hx=>⟨h.1.mo m (fun b hb=>hx b (h.2.1 b hb)) (fun i g e b hb=>hx b (h.2.2 i g e b hb)),h.2⟩⟩
theorem ro_get{W0 w:World}{T:Ths}{k:Ky}{s:Sl}{hs:List Sl}{M:Mtx}(hS:Sep W0 w T)(hk:T k=RoM s hs M):MatR w s hs M:=by
 obtain⟨F,ht,_⟩:=hS.get k hk
 exact ht.1
theorem ro_of{W0 w:World}{T:Ths}{k:Ky}{s:Sl}{hs:List Sl}{M:Mtx}(hS:Sep W0 w T)(hk:T k=buZ s hs M):Sep W0 w (T.up k (RoM s hs M)):=by
 obtain⟨F,ht,_,hc⟩:=hS.get k hk
 exact hc w _ F (Mo.refl _ _) ⟨⟨ht.hdr.rds,ht.len,fun i h r e1 e2=>(ht.row i h r e1 e2).rds⟩,ht.own,fun i g e b hb=>(ht.apt i g e b hb).2⟩ (fun b hb=>.inl hb)
theorem stay_mono{W0:World}{T:Ths}{L L':List Ky}{Q:World→Prop}(h:Stay W0 T L Q)(hL:∀q,q∈L'→q∈L):Stay W0 T L' Q:=fun w' T' hS' hT'=>h w' T' hS' (fun q hq=>hT' q (fun h'=>hq (hL q h')))
theorem stay_next{W0:World}{T T':Ths}{L:List Ky}{Q:World→Prop}(h:Stay W0 T L Q)(hT:∀q,q∉L→T' q=T q):Stay W0 T' L Q:=fun w' T'' hS' hT''=>h w' T'' hS' (fun q hq=>(hT'' q hq).trans (hT q hq))
theorem stab_of{W0:World}{T:Ths}{L:List Ky}{ko kt:Ky}{Q:World→Prop}(h:Stay W0 T L Q)(h1:ko∈L)(h2:kt∈L):Stab W0 T ko kt Q:=fun w' T' hS' hT'=>h w' T' hS' (fun q hq=>hT' q (fun e=>hq (e▸h1)) (fun e=>hq (e▸h2)))
abbrev invL:List Ky:=[.tm 5,.tm 1,.tm 2,.tm 3,.tm 4]
theorem invert_ok{W0 w:World}{T:Ths}{n:Nat}{sa:Sl}{ha:List Sl}{A X:Mtx}(hS:Sep W0 w T)(hRA:Stay W0 T invL (fun w=>MatR w sa ha A))(hA:Shp A n n)(hn1:1≤n)(hn2:n≤256)(hX:solveM n A (aXZ n)=some X):
  Cl Tryz.prog 69 #[.slice sa.base sa.len sa.cap] (.tup [.at .sl,.at (.int .i64)]) (fun x w'=>∃s hs T',x=(s,0,())∧Sep W0 w' T'∧(∀q,q∉invL→T' q=T q)∧T' (.tm 5)=buZ s hs X) w:=by
 refine matrix_Invert.run _ sa w ?_
 generalize hRR:(fun(e:Ending) (w':World)=>∃x:Sl×Int×Unit,e=.returned ((Sh.tup [.at .sl,.at (.int .i64)]).enc x)∧∃s hs T',x=(s,0,())∧Sep W0 w' T'∧(∀q,q∉invL→T' q=T q)∧T' (.tm 5)=buZ s hs X)=R
 unfold matrix_Invert.M
 have hMA:=hRA.here hS
 have hal:ha.length=n:=by rw[hMA.len,hA.1]
 have hsal:sa.len=n:=by rw[hMA.hdr.1,hal]
 refine auZ (d:=.one (.at (.int .i64))) (x:=0) (check_gv hMA hA hn1 hn2 hn1 (by omega)) fun w1 hx1=>aAZ ?_
 have hS1:=hS.exx hx1
 obtain⟨g0,r0,e1,e2,e3,e4⟩:=(hMA.ex hx1).at (i:=0) (by rw[hA.1];omega)
 have hg0:g0.len=n:=by rw[e3.1,e4,hA.row (by omega)]
 refine atZ (i:=0) (hMA.ex hx1).hdr e1 ?_
 refine aEZ (fun h=>by omega) (fun _=>?_)
 rw[show((sa.len:Nat):Int)=(n:Int) by omega]
 refine aeZ (ident_ok (.tm 4) hS1 hn1 hn2) ?_
 rintro _ w2 ⟨si,hi,rfl,hS2⟩
 have hT2:∀q,q∉invL→(T.up (.tm 4) (buZ si hi (aXZ n))) q=T q:=fun q hq=>Ths.up_ne _ _ (fun e=>hq (by simp[e]))
 refine aeZ (solve_go (ko:=.tm 5) (kw:=.tm 1) (kt:=.tm 2) (kp:=.tm 3) (by simp) (by simp) (by simp) (by simp) hS2 (ha:=ha) (hb:=hi) (A:=A) (B:=aXZ n) (X:=X) (stay_mono (stay_next hRA hT2) (by simp)) ?_ hA (aPZ _ _ _) hn1 hn2 hn1 (by omega) hX) ?_
 ·exact fun w' T' hS' hT'=>azZ hS' ((hT' (.tm 4) (by simp)).trans (Ths.up_same _ _ _))
 ·rintro _ w3 ⟨s,hs,T3,rfl,hS3,hT3,hk3⟩
  subst hRR
  exact⟨(s,0,()),rfl,s,hs,T3,rfl,hS3,fun q hq=>(hT3 q (fun h=>hq (by simp only[List.mem_cons,List.not_mem_nil,or_false]at h ⊢;rcases h with h | h | h | h <;> simp[h]))).trans (hT2 q hq),hk3⟩
abbrev sysL:List Ky:=[.tm 5,.tm 1,.tm 2,.tm 3,.tm 4]
theorem systematic_ok{W0 w:World}{T:Ths}(ko:Ky){n k:Nat}{sa:Sl}{ha:List Sl}{A X:Mtx}(hko:∀j,ko≠.tm j)(hS:Sep W0 w T)(hRA:Stay W0 T (ko::sysL) (fun w=>MatR w sa ha A))(hA:Shp A n k)(hk1:1≤k)(hkn:k≤n)(hn2:n≤256)(hX:solveM k (A.take k) (aXZ k)=some X)(hXs:Shp X k k):
  Cl Tryz.prog 86 #[.slice sa.base sa.len sa.cap] (.tup [.at .sl,.at (.int .i64)]) (fun x w'=>∃s hs T',x=(s,0,())∧Sep W0 w' T'∧(∀q,q∉ko::sysL→T' q=T q)∧T' ko=buZ s hs (mulM k A X)) w:=by
 refine gener_systematic.run _ sa w ?_
 generalize hRR:(fun(e:Ending) (w':World)=>∃x:Sl×Int×Unit,e=.returned ((Sh.tup [.at .sl,.at (.int .i64)]).enc x)∧∃s hs T',x=(s,0,())∧Sep W0 w' T'∧(∀q,q∉ko::sysL→T' q=T q)∧T' ko=buZ s hs (mulM k A X))=R
 unfold gener_systematic.M
 have hMA:=hRA.here hS
 have hal:ha.length=n:=by rw[hMA.len,hA.1]
 have hsal:sa.len=n:=by rw[hMA.hdr.1,hal]
 refine auZ (d:=.one (.at (.int .i64))) (x:=0) (check_gv hMA hA (by omega) hn2 hk1 (by omega)) fun w1 hx1=>aAZ ?_
 have hS1:=hS.exx hx1
 have hMA1:=hMA.ex hx1
 obtain⟨g0,r0,e1,e2,e3,e4⟩:=hMA1.at (i:=0) (by rw[hA.1];omega)
 have hg0:g0.len=k:=by rw[e3.1,e4,hA.row (by omega)]
 refine atZ (i:=0) hMA1.hdr e1 ?_
 refine abZ (fun h=>by omega) (fun _=>?_)
 rw[show((g0.len:Nat):Int)=(k:Int) by omega]
 refine Pu_slice 0 k hMA1.hdr tBB sS (.inl ⟨rfl,rfl⟩) (.inr ⟨.i64,rfl⟩) (Nat.zero_le _) (by omega) fun st hst _ _ _=>?_
 have hRT:Stay W0 T (ko::sysL) (fun w=>MatR w st (ha.take k) (A.take k)):=fun w' T' hS' hT'=>by
  have hM':=hRA w' T' hS' hT'
  refine⟨by have:=hst w' hM'.hdr;rwa [List.drop_zero]at this,by rw[List.length_take,List.length_take,hM'.len],fun i h r q1 q2=>?_⟩
  rw[List.getElem?_take]at q1 q2
  split at q1
  ·rename_i hi
   rw[if_pos hi]at q2
   exact hM'.row i h r q1 q2
  ·cases q1
 refine aeZ (invert_ok hS1 (stay_mono hRT (fun q hq=>List.mem_cons_of_mem _ hq)) (shp_take hA hkn) hk1 (by omega) hX) ?_
 rintro _ w2 ⟨sx,hx,T2,rfl,hS2,hT2,hk2⟩
 refine aAZ ?_
 have hT2':∀q,q∉ko::sysL→T2 q=T q:=fun q hq=>hT2 q (fun h=>hq (List.mem_cons_of_mem _ h))
 refine aeZ (mul_ok ko (.tm 2) (hko 2) hS2 (stab_of (stay_next hRA hT2') (by simp) (by simp)) (stab_mat hk2 (fun e=>hko 5 e.symm) (by simp)) hA hXs (by omega) hn2 hk1 (by omega) hk1 (by omega)) ?_
 rintro _ w3 ⟨s,hs,g,rfl,hS3⟩
 subst hRR
 refine⟨(s,0,()),rfl,s,hs,_,rfl,hS3,fun q hq=>?_,Ths.up_same _ _ _⟩
 rw[Ths.up_ne _ _ (fun e=>hq (by simp[e])),Ths.up_ne _ _ (fun e=>hq (by simp[e]))]
 exact hT2' q hq
theorem parity_ok{W0 w:World}{T:Ths}(ko:Ky){f:Int}{k m:Nat}{Q:Mtx}(hko:∀j,ko≠.tm j)(hS:Sep W0 w T)(hf:f=0∨f=1)(hk1:1≤k)(hm1:1≤m)(hkm:k+m≤256)(hQ:parM f k m=some Q):
  Cl Tryz.prog 52 #[.int .i64 f,.int .i64 (k:Int),.int .i64 (m:Int)] (.tup [.at .sl,.at (.int .i64)]) (fun x w'=>∃s hs T',x=(s,0,())∧Sep W0 w' T'∧(∀q,(∀j,q≠.tm j)→q≠ko→T' q=T q)∧T' ko=RoM s hs Q) w:=by
 refine gener_Parity.run _ f (k:Int) (m:Int) w ?_
 generalize hRR:(fun(e:Ending) (w':World)=>∃x:Sl×Int×Unit,e=.returned ((Sh.tup [.at .sl,.at (.int .i64)]).enc x)∧∃s hs T',x=(s,0,())∧Sep W0 w' T'∧(∀q,(∀j,q≠.tm j)→q≠ko→T' q=T q)∧T' ko=RoM s hs Q)=R
 have j1f:gener_Parity.j1 R f (k:Int) (m:Int) false w:=by
  unfold gener_Parity.j1
  refine aAZ (abZ (fun h=>by omega) (fun _=>abZ (fun h=>by omega) (fun _=>abZ (fun h=>by omega) (fun _=>abZ (fun h=>by omega) (fun _=>?_)))))
  rw[adZ (by omega) (by omega)]
  unfold gener_Parity.j2
  refine abZ (fun h=>by omega) (fun _=>?_)
  refine aJZ (fun h1=>?_) (fun h1=>?_)
  ·subst h1
   have hQ':Q=cauM m k:=by unfold parM at hQ;rw[if_pos rfl]at hQ;exact(Option.some.inj hQ).symm
   refine aeZ (cauchy_ok ko (.tm 2) (hko 2) hS hm1 hk1 (by omega)) ?_
   rintro _ w1 ⟨s,hs,g,rfl,hS1⟩
   have hS2:=ro_of (k:=ko) hS1 (Ths.up_same _ _ _)
   subst hRR hQ'
   exact⟨(s,0,()),rfl,s,hs,_,rfl,hS2,fun q h1 h2=>by rw[Ths.up_ne _ _ h2,Ths.up_ne _ _ h2,Ths.up_ne _ _ (h1 2)],Ths.up_same _ _ _⟩
  ·have hf0:f=0:=by omega
   subst hf0
   rw[adZ (by omega) (by omega),show(k:Int)+(m:Int)=((k+m:Nat):Int) by omega]
   have hv:Shp (vandM (k+m) k) (k+m) k:=aPZ _ _ _
   have hiS:Shp (aXZ k) k k:=aPZ _ _ _
   obtain⟨X,hX,hXs,_⟩:=solve_ok (shp_take hv (by omega)) hiS (vand_inj (m:=m) (by omega))
   have hQ':Q=(mulM k (vandM (k+m) k) X).drop k:=by
    unfold parM sysM at hQ
    rw[if_neg (by decide),hX]at hQ
    exact(Option.some.inj hQ).symm
   refine aeZ (vand_ok (.tm 6) hS (n:=k+m) (c:=k) (by omega) (by omega) hk1 (by omega)) ?_
   rintro _ w1 ⟨sv,hv',rfl,hS1⟩
   refine aAZ ?_
   refine aeZ (systematic_ok ko hko hS1 (ha:=hv') (A:=vandM (k+m) k) (fun w' T' hS' hT'=>azZ hS' ((hT' (.tm 6) (by simpa using fun e=>hko 6 e.symm)).trans (Ths.up_same _ _ _))) hv hk1 (by omega) (by omega) hX hXs) ?_
   rintro _ w2 ⟨s,hs,T2,rfl,hS2,hT2,hk2⟩
   refine aAZ ?_
   have hwS:=shp_mul hv hXs
   obtain⟨hO,hlen,_⟩:=mat_get hS2 hk2
   have hhl:hs.length=k+m:=by rw[hlen,hwS.1]
   refine Pu_slice k (k+m) hO.rds tBB sS (.inr ⟨.i64,rfl⟩) (.inl ⟨rfl,by omega⟩) (by omega) (by omega) fun s' hs' _ _ hblk=>?_
   have hS3:Sep W0 w2 (T2.up ko (RoM s' (hs.drop k) Q)):=by
    obtain⟨F,ht,_,hc⟩:=hS2.get ko hk2
    refine hc w2 _ F (Mo.refl _ _) ⟨⟨?_,?_,fun i h r q1 q2=>?_⟩,fun b hb=>?_,fun i g q1 b hb=>?_⟩ (fun b hb=>.inl hb)
    ·have:=hs' w2 ht.hdr.rds
     rwa [List.take_of_length_le (by omega)]at this
    ·rw[hQ',List.length_drop,List.length_drop,ht.len]
    ·rw[hQ']at q2
     rw[List.getElem?_drop]at q1 q2
     exact(ht.row _ h r q1 q2).rds
    ·obtain⟨a,ha,rfl⟩:=hb
     obtain⟨y,hy,e⟩:=hblk a ha
     exact ht.own _ ⟨y,hy,e.symm⟩
    ·rw[List.getElem?_drop]at q1
     exact(ht.apt _ g q1 b hb).2
   subst hRR
   refine⟨(s',0,()),rfl,s',hs.drop k,_,rfl,hS3,fun q h1 h2=>?_,Ths.up_same _ _ _⟩
   rw[Ths.up_ne _ _ h2,hT2 q (by simp[h1,h2]),Ths.up_ne _ _ (h1 6)]
 unfold gener_Parity.M
 refine aEZ (fun h=>?_) (fun _=>j1f)
 have:(f !=1)=false:=by
  have:f=1:=by omega
  rw[this];rfl
 rw[this]
 exact j1f
end Go.Proofs.YtbiilejgfihohaaGreat
namespace Go.Proofs.YtbiilejgfihohaaGreat
open Go Go.Cu Go.RowKit
theorem rd_nat{w:World}{s:Sl}{l:List Nat}{ik:IntKind}{i x:Nat}{K:Int→World→Prop}(hr:Rds aOZ w s l)(hx:l[i]? =some x)(hk:K (x:Int) w):
  Pu Tryz.prog (Instr.indexAt 25 (.slice s.base s.len s.cap) (.int ik (i:Int))) (.one (.at .addr)) (fun a w1=>Rd Tryz.prog (Instr.loadAt 3 (.pointer (some a))) (.one (.at (.int .i64))) K w1) w:=by
 have hlt:=(List.getElem?_eq_some_iff.1 hx).1
 refine Pu_idx hr tI sI (by omega) (by omega) fun a y hy hc _=>?_
 rw[Int.toNat_natCast,hx]at hy
 obtain rfl:=Option.some.inj hy
 exact bwZ (c:=.int .i64) (x:=(x:Int)) (by kernel_rfl) hc hk
structure NumL(n:Nat)(l:List Nat):Prop where
 lt:∀x∈l,x<n
 up:∀(i:Nat) (x y:Nat),l[i]? =some x→l[i+1]? =some y→x<y
theorem NumL.lts{n:Nat}{l:List Nat}(h:NumL n l):∀(d i:Nat) (x y:Nat),l[i]? =some x→l[i+1+d]? =some y→x<y
 | 0,i,x,y,h1,h2=>h.up i x y h1 h2
 | d+1,i,x,y,h1,h2=>by
  have hl:=(List.getElem?_eq_some_iff.1 h2).1
  have h3:l[i+1+d]? =some l[i+1+d]:=List.getElem?_eq_getElem (by omega)
  exact Nat.lt_trans (h.lts d i x _ h1 h3) (h.up _ _ _ h3 h2)
theorem NumL.mono{n:Nat}{l:List Nat}(h:NumL n l){i j x y:Nat}(hij:i<j)(h1:l[i]? =some x)(h2:l[j]? =some y):x<y:=
 h.lts (j-i-1) i x y h1 (by rw[show i+1+(j-i-1)=j by omega];exact h2)
theorem NumL.nodup{n:Nat}{l:List Nat}(h:NumL n l):l.Nodup:=by
 rw[List.nodup_iff_pairwise_ne,List.pairwise_iff_getElem]
 intro i j hi hj hij e
 have h1:l[i]? =some l[i]:=List.getElem?_eq_getElem hi
 have h2:l[j]? =some l[j]:=List.getElem?_eq_getElem hj
 have:=h.mono hij h1 h2
 omega
theorem NumL.ge{n:Nat}{l:List Nat}(h:NumL n l):∀(i x:Nat),l[i]? =some x→i≤x
 | 0,x,_=>Nat.zero_le _
 | i+1,x,e=>by
  have hl:=(List.getElem?_eq_some_iff.1 e).1
  have h1:l[i]? =some l[i]:=List.getElem?_eq_getElem (by omega)
  have:=h.ge i _ h1
  have:=h.up i _ _ h1 e
  omega
theorem NumL.len{n:Nat}{l:List Nat}(h:NumL n l):l.length≤n:=by
 by_cases e:l.length=0
 ·omega
 ·have h1:l[l.length-1]? =some l[l.length-1]:=List.getElem?_eq_getElem (by omega)
  have:=h.ge _ _ h1
  have:=h.lt _ (List.mem_of_getElem? h1)
  omega
theorem numbers_gv{w:World}{s:Sl}{l:List Nat}{n:Nat}(hr:Rds aOZ w s l)(hl:NumL n l)(hn:n≤65536):Gv Tryz.prog 63 #[.slice s.base s.len s.cap,.int .i64 (n:Int)] (.bool true) w:=by
 refine gener_numbers.run _ s (n:Int) w ?_
 have hlen:=hr.1
 have hln:=hl.len
 unfold gener_numbers.M gener_numbers.l1
 refine acZ (fun st w'=>∃i:Nat,st=(s,(n:Int),s,((s.len:Nat):Int),(i:Int),())∧i≤l.length∧w'=w) (fun st _=>((s.len:Int)-st.2.2.2.2.1).toNat) ?_ ⟨0,rfl,Nat.zero_le _,rfl⟩
 rintro k _ w' ⟨i,rfl,hi,rfl⟩ hk
 unfold gener_numbers.b1
 dsimp only at hk ⊢
 refine abZ (fun hlt=>?_) (fun hge=>⟨rfl,Ex.refl _⟩)
 have hil:i<l.length:=by omega
 have hx:=List.getElem?_eq_getElem hil
 have hxn:=hl.lt _ (List.getElem_mem hil)
 refine rd_nat hr hx ?_
 refine abZ (fun h=>by omega) (fun _=>abZ (fun h=>by omega) (fun _=>abZ (fun h0=>?_) (fun h0=>?_)))
 ·have hy:=List.getElem?_eq_getElem (l:=l) (i:=i-1) (by omega)
  rw[adZ (by omega) (by omega),show(i:Int)-1=((i-1:Nat):Int) by omega]
  refine rd_nat hr hy ?_
  unfold gener_numbers.j1
  have:=hl.mono (show i-1<i by omega) hy hx
  refine abZ (fun h=>by omega) (fun _=>?_)
  rw[adZ (by omega) (by omega),show(i:Int)+1=((i+1:Nat):Int) by omega]
  exact hk _ _ ⟨i+1,rfl,by omega,rfl⟩ (by dsimp only;omega)
 ·unfold gener_numbers.j1
  refine aAZ ?_
  rw[adZ (by omega) (by omega),show(i:Int)+1=((i+1:Nat):Int) by omega]
  exact hk _ _ ⟨i+1,rfl,by omega,rfl⟩ (by dsimp only;omega)
def aIZ(n:Nat)(l:List Nat):List Nat:=(List.range n).filter (fun x=>decide (x∉l))
theorem lostL_succ(n:Nat)(l:List Nat):aIZ (n+1) l=aIZ n l++(if n∈l then [] else [n]):=by
 unfold aIZ
 rw[List.range_succ,List.filter_append]
 congr 1
 by_cases h:n∈l <;> simp[h]
theorem mem_lostL{n:Nat}{l:List Nat}{x:Nat}:x∈aIZ n l↔x<n∧x∉l:=by
 unfold aIZ
 rw[List.mem_filter,List.mem_range];simp
theorem lostL_len(n:Nat)(l:List Nat):(aIZ n l).length≤n:=by
 unfold aIZ
 have:=List.length_filter_le (fun x=>decide (x∉l)) (List.range n)
 rwa [List.length_range]at this
theorem lost_ok{w:World}{s:Sl}{l:List Nat}{n:Nat}(hr:Rds aOZ w s l)(hl:NumL n l)(hn:n≤65536):
  Cl Tryz.prog 41 #[.int .i64 (n:Int),.slice s.base s.len s.cap] (.tup [.at .sl,.at (.int .i64)]) (fun x w'=>∃s',x=(s',0,())∧Own aOZ 3 w.heap.size w' s' (aIZ n l)∧Ex w w') w:=by
 refine gener_Lost.run _ (n:Int) s w ?_
 generalize hRR:(fun(e:Ending) (w':World)=>∃x:Sl×Int×Unit,e=.returned ((Sh.tup [.at .sl,.at (.int .i64)]).enc x)∧∃s',x=(s',0,())∧Own aOZ 3 w.heap.size w' s' (aIZ n l)∧Ex w w')=R
 have hlen:=hr.1
 have hln:=hl.len
 unfold gener_Lost.M
 refine abZ (fun h=>by omega) (fun _=>?_)
 unfold gener_Lost.j1
 refine abZ (fun h=>by omega) (fun _=>?_)
 refine auZ (d:=.one (.at .bool)) (x:=true) (numbers_gv hr hl hn) fun w1 hx1=>aAZ ?_
 rw[adZ (by omega) (by omega),show(n:Int)-(s.len:Nat)=((n-l.length:Nat):Int) by omega]
 refine Wr_makeCap (f:=aOZ) tI iI (n-l.length) (by omega) (by omega) rfl w.heap.size hx1.size fun s2 w2 ho2 hc2 hx2 hb2=>?_
 unfold gener_Lost.l1
 refine acZ (fun st w'=>∃(i j:Nat) (p q:Sl),st=(p,q,(n:Int),(i:Int),())∧i≤n∧j≤l.length∧(∀x∈l.take j,x<i)∧(∀x∈l.drop j,i≤x)∧(∀w2,Ex w w2→Rds aOZ w2 p (l.drop j))∧Own aOZ 3 w.heap.size w' q (aIZ i l)∧Ex w w')
  (fun st _=>((n:Int)-st.2.2.2.1).toNat) ?_ ⟨0,0,s,s2,rfl,Nat.zero_le _,Nat.zero_le _,by simp,by simp,fun w' h=>hr.ex h,by simpa [aIZ] using ho2,hx1.trans hx2⟩
 ·rintro k _ w3 ⟨i,j,p,q,rfl,hi,hj,hb,ha,hpp,hq,hx3⟩ hk
  have hp:=hpp w3 hx3
  unfold gener_Lost.b1
  dsimp only at hk ⊢
  have hpl:=hp.1
  rw[List.length_drop]at hpl
  refine abZ (fun hlt=>?_) (fun hge=>?_)
  ·have hin:i<n:=by omega
   have step:∀(t:Bool),(t=true↔i∈l)→gener_Lost.j3 R k p q (i:Int) (n:Int) (i:Int) t w3:=by
    intro t ht
    unfold gener_Lost.j3
    refine Cd_of (fun e=>?_) (fun e=>?_)
    ·have hil:=ht.1 e
     have hjl:j<l.length:=by
      refine Nat.lt_of_not_ge fun h=>?_
      have:=hb i (by rw[List.take_of_length_le h];exact hil)
      omega
     refine Pu_slice 1 (l.drop j).length hp tI sI (.inr ⟨.i64,rfl⟩) (.inl ⟨rfl,rfl⟩) (by rw[List.length_drop];omega) (Nat.le_refl _) fun p' hp' _ _ hblk=>?_
     have hp2:=fun w' h=>hp' w' (hpp w' h)
     rw[List.take_length,List.drop_drop]at hp2
     unfold gener_Lost.j2
     rw[adZ (by omega) (by omega),show(i:Int)+1=((i+1:Nat):Int) by omega]
     have hd:l[j]? =some l[j]:=List.getElem?_eq_getElem hjl
     have hji:l[j]=i:=by
      obtain⟨a,hal,hae⟩:=List.getElem_of_mem hil
      have hle:=ha l[j] (List.mem_of_getElem? (i:=0) (by rw[List.getElem?_drop,Nat.add_zero];exact hd))
      by_cases h:a<j
      ·have:=hb l[a] (List.mem_of_getElem? (i:=a) (by rw[List.getElem?_take,if_pos h];exact List.getElem?_eq_getElem hal))
       omega
      ·by_cases h2:a=j
       ·subst h2;exact hae
       ·have:=hl.mono (show j<a by omega) hd (List.getElem?_eq_getElem hal)
        omega
     refine hk _ _ ⟨i+1,j+1,p',q,rfl,by omega,by omega,fun x hx=>?_,fun x hx=>?_,hp2,?_,hx3⟩ (by dsimp only;omega)
     ·rw[List.take_succ,hd]at hx
      rcases List.mem_append.1 hx with h | h
      ·have:=hb x h;omega
      ·have:x=l[j]:=by simpa using h
       omega
     ·obtain⟨a,ha1⟩:=List.getElem?_of_mem hx
      rw[List.getElem?_drop]at ha1
      have:=hl.mono (show j<j+1+a by omega) hd ha1
      omega
     ·rw[lostL_succ,if_pos hil,List.append_nil];exact hq
    ·have hil:i∉l:=fun h=>by rw[ht.2 h]at e;cases e
     refine bvZ (f:=aOZ) (e:=3) (base:=w3.heap.size) [i] (by kernel_rfl) (Nat.le_refl _) (by simp) fun s4 w4 ho4 hx4 _=>?_
     refine aGZ (f:=aOZ) tI iI rfl (hq.ex hx4) ho4.rds (fun _=>rfl) (by have:=lostL_len i l;simp;omega) (by have:=lostL_len i l;simp;omega) (Nat.le_trans hx3.size hx4.size) fun q' w5 ho5 hm5 hb5=>?_
     unfold gener_Lost.j2
     rw[adZ (by omega) (by omega),show(i:Int)+1=((i+1:Nat):Int) by omega]
     have hqb:∀b,SlIn q b→w.heap.size≤b:=fun b hb'=>(hq.base b hb').1
     refine hk _ _ ⟨i+1,j,p,q',rfl,by omega,hj,fun x hx=>by have:=hb x hx;omega,fun x hx=>?_,hpp,?_,(hx3.trans hx4).into hm5 hqb⟩ (by dsimp only;omega)
     ·have:=ha x hx
      have:x≠i:=fun h=>hil (h▸List.mem_of_mem_drop hx)
      omega
     ·rw[lostL_succ,if_neg hil];exact ho5
   refine abZ (fun h0=>?_) (fun h0=>?_)
   ·have hjl:j<l.length:=by omega
    have hd:l[j]? =some l[j]:=List.getElem?_eq_getElem hjl
    refine rd_nat (i:=0) (x:=l[j]) hp (by rw[List.getElem?_drop,Nat.add_zero];exact hd) ?_
    refine step _ ⟨fun h=>?_,fun h=>?_⟩
    ·have:=beq_t h
     have h2:l[j]=i:=by omega
     exact h2▸List.getElem_mem hjl
    ·obtain⟨a,hal,hae⟩:=List.getElem_of_mem h
     have hle:=ha l[j] (List.mem_of_getElem? (i:=0) (by rw[List.getElem?_drop,Nat.add_zero];exact hd))
     have:l[j]=i:=by
      by_cases h:a<j
      ·have:=hb l[a] (List.mem_of_getElem? (i:=a) (by rw[List.getElem?_take,if_pos h];exact List.getElem?_eq_getElem hal))
       omega
      ·by_cases h2:a=j
       ·subst h2;exact hae
       ·have:=hl.mono (show j<a by omega) hd (List.getElem?_eq_getElem hal)
        omega
     rw[this];simp
   ·refine step _ ⟨fun h=>(by cases h),fun h=>?_⟩
    have:=hb i (by rw[List.take_of_length_le (by omega)];exact h)
    omega
  ·have hin:i=n:=by omega
   subst hin
   subst hRR
   exact⟨(q,0,()),rfl,q,rfl,hq,hx3⟩
end Go.Proofs.YtbiilejgfihohaaGreat
namespace Go.Proofs.YtbiilejgfihohaaGreat
open Go Go.Cu Go.RowKit
theorem sep_merge{W0 w:World}{T:Ths}{k j:Ky}(h:Sep W0 w T)(hkj:k≠j):∃F G:Nat→Prop,(T k).h w F∧(T j).h w G∧(∀b,F b→W0.heap.size≤b∧b<w.heap.size)∧(∀b,G b→W0.heap.size≤b∧b<w.heap.size)∧(∀b,F b→¬G b)∧
  ∀(w':World) (t':Th) (H:Nat→Prop),Mo (fun b=>F b∨G b) w w'→t'.h w' H→(∀b,H b→(F b∨G b)∨(w.heap.size≤b∧b<w'.heap.size))→Sep W0 w' ((T.up j Th.none).up k t'):=by
 obtain⟨hm,F,h1,h2,h3⟩:=h
 refine⟨F k,F j,h1 k,h1 j,h2 k,h2 j,(fun b=>h3 k j b hkj),fun w' t' H m ht hH=>⟨Mo.trans hm m (fun _=>id) (fun i _ hi=>hi.elim (fun h=>(h2 k i h).1) (fun h=>(h2 j i h).1)),fun i=>if i=k then H else if i=j then (fun _=>False) else F i,fun i=>?_,fun i b hb=>?_,fun a i b hai ha hi=>?_⟩⟩
 ·unfold Ths.up
  dsimp only
  by_cases e:i=k
  ·rw[if_pos e,if_pos e];exact ht
  ·rw[if_neg e,if_neg e]
   by_cases e2:i=j
   ·rw[if_pos e2,if_pos e2];exact trivial
   ·rw[if_neg e2,if_neg e2]
    exact(T i).fr (h1 i) m (fun b hb hb'=>hb'.elim (fun h=>h3 i k b e hb h) (fun h=>h3 i j b e2 hb h))
 ·dsimp only at hb
  by_cases e:i=k
  ·rw[if_pos e]at hb
   rcases hH b hb with (h | h) | h
   ·exact⟨(h2 k b h).1,Nat.lt_of_lt_of_le (h2 k b h).2 m.size⟩
   ·exact⟨(h2 j b h).1,Nat.lt_of_lt_of_le (h2 j b h).2 m.size⟩
   ·exact⟨Nat.le_trans hm.size h.1,h.2⟩
  ·rw[if_neg e]at hb
   by_cases e2:i=j
   ·rw[if_pos e2]at hb;exact hb.elim
   ·rw[if_neg e2]at hb
    exact⟨(h2 i b hb).1,Nat.lt_of_lt_of_le (h2 i b hb).2 m.size⟩
 ·dsimp only at ha hi
  by_cases ea:a=k
  ·rw[if_pos ea]at ha
   rw[if_neg (fun e'=>hai (ea.trans e'.symm))]at hi
   by_cases e2:i=j
   ·rw[if_pos e2]at hi;exact hi
   ·rw[if_neg e2]at hi
    rcases hH b ha with (h | h) | h
    ·exact h3 k i b (fun e'=>hai (ea.trans e')) h hi
    ·exact h3 j i b (fun e'=>e2 e'.symm) h hi
    ·exact absurd (h2 i b hi).2 (by omega)
  ·rw[if_neg ea]at ha
   by_cases e2:a=j
   ·rw[if_pos e2]at ha;exact ha
   ·rw[if_neg e2]at ha
    by_cases ei:i=k
    ·rw[if_pos ei]at hi
     rcases hH b hi with (h | h) | h
     ·exact h3 a k b ea ha h
     ·exact h3 a j b e2 ha h
     ·exact absurd (h2 a b ha).2 (by omega)
    ·rw[if_neg ei]at hi
     by_cases ej:i=j
     ·rw[if_pos ej]at hi;exact hi
     ·rw[if_neg ej]at hi
      exact h3 a i b hai ha hi
def Keep(W0:World)(T:Ths)(D:Ky→Prop)(Q:World→Prop):Prop:=∀w' T',Sep W0 w' T'→(∀q,¬D q→T' q=T q)→Q w'
theorem Keep.here{W0 w:World}{T:Ths}{D:Ky→Prop}{Q:World→Prop}(h:Keep W0 T D Q)(hS:Sep W0 w T):Q w:=h w T hS (fun _ _=>rfl)
theorem Keep.next{W0:World}{T T':Ths}{D:Ky→Prop}{Q:World→Prop}(h:Keep W0 T D Q)(hT:∀q,¬D q→T' q=T q):Keep W0 T' D Q:=fun w' T'' hS' hT''=>h w' T'' hS' (fun q hq=>(hT'' q hq).trans (hT q hq))
theorem Keep.stab{W0:World}{T:Ths}{D:Ky→Prop}{ko kt:Ky}{Q:World→Prop}(h:Keep W0 T D Q)(h1:D ko)(h2:D kt):Stab W0 T ko kt Q:=fun w' T' hS' hT'=>h w' T' hS' (fun q hq=>hT' q (fun e=>hq (e▸h1)) (fun e=>hq (e▸h2)))
theorem Keep.stay{W0:World}{T:Ths}{D:Ky→Prop}{L:List Ky}{Q:World→Prop}(h:Keep W0 T D Q)(hL:∀q,q∈L→D q):Stay W0 T L Q:=fun w' T' hS' hT'=>h w' T' hS' (fun q hq=>hT' q (fun e=>hq (hL q e)))
theorem keep_mat{W0:World}{T:Ths}{k:Ky}{D:Ky→Prop}{s:Sl}{hs:List Sl}{M:Mtx}(hk:T k=buZ s hs M)(h:¬D k):Keep W0 T D (fun w=>MatR w s hs M):=fun w' T' hS' hT'=>azZ hS' ((hT' k h).trans hk)
theorem keep_ro{W0:World}{T:Ths}{k:Ky}{D:Ky→Prop}{s:Sl}{hs:List Sl}{M:Mtx}(hk:T k=RoM s hs M)(h:¬D k):Keep W0 T D (fun w=>MatR w s hs M):=fun w' T' hS' hT'=>ro_get hS' ((hT' k h).trans hk)
def GnK(q:Ky):Prop:=(∃j,q=.tm j)∨∃i,q=.mx 0 i
theorem generator_ok{W0 w:World}{T:Ths}{f:Int}{k m:Nat}{Q:Mtx}(hS:Sep W0 w T)(hf:f=0∨f=1)(hk1:1≤k)(hm1:1≤m)(hkm:k+m≤256)(hQ:parM f k m=some Q):
  Cl Tryz.prog 67 #[.int .i64 f,.int .i64 (k:Int),.int .i64 (m:Int)] (.tup [.at .sl,.at (.int .i64)]) (fun x w'=>∃s hs T',x=(s,0,())∧Sep W0 w' T'∧(∀q,¬GnK q→T' q=T q)∧T' (.mx 0 1)=RoM s hs (gM k Q)) w:=by
 refine gener_Generator.run _ f (k:Int) (m:Int) w ?_
 generalize hRR:(fun(e:Ending) (w':World)=>∃x:Sl×Int×Unit,e=.returned ((Sh.tup [.at .sl,.at (.int .i64)]).enc x)∧∃s hs T',x=(s,0,())∧Sep W0 w' T'∧(∀q,¬GnK q→T' q=T q)∧T' (.mx 0 1)=RoM s hs (gM k Q))=R
 unfold gener_Generator.M
 refine aeZ (parity_ok (.mx 0 0) (by intro j;simp) hS hf hk1 hm1 hkm hQ) ?_
 rintro _ w1 ⟨sp,hp,T1,rfl,hS1,hT1,hk1'⟩
 refine aAZ ?_
 refine aeZ (ident_ok (.mx 0 1) hS1 hk1 (by omega)) ?_
 rintro _ w2 ⟨si,hi,rfl,hS2⟩
 refine aAZ ?_
 have e0:(T1.up (.mx 0 1) (buZ si hi (aXZ k))) (.mx 0 0)=RoM sp hp Q:=(Ths.up_ne _ _ (by simp)).trans hk1'
 have e1:(T1.up (.mx 0 1) (buZ si hi (aXZ k))) (.mx 0 1)=buZ si hi (aXZ k):=Ths.up_same _ _ _
 have hp2:=ro_get hS2 e0
 have hOi:=(mat_get hS2 e1).1
 have hil:=(mat_get hS2 e1).2.1
 have hiS:Shp (aXZ k) k k:=aPZ _ _ _
 obtain⟨Q',hQ',hQs,_⟩:=par_ok (m:=m) hf hkm
 rw[hQ]at hQ'
 obtain rfl:=Option.some.inj hQ'
 have hpl:hp.length=m:=by rw[hp2.len,hQs.1]
 have hil':hi.length=k:=by rw[hil,hiS.1]
 obtain⟨F,G,hF,hG,hFb,hGb,hFG,hc⟩:=sep_merge hS2 (k:=.mx 0 1) (j:=.mx 0 0) (by simp)
 rw[e1]at hF
 rw[e0]at hG
 refine aGZ (f:=slV) tBB iS rfl hOi hp2.hdr (fun _=>rfl) (by omega) (by omega) (Nat.zero_le _) fun s' w3 ho3 hm3 hin3=>?_
 have hrow:∀(i:Nat) (g:Sl),(hi++hp)[i]? =some g→(i<hi.length∧hi[i]? =some g)∨(hi.length≤i∧hp[i-hi.length]? =some g):=fun i g e=>by
  by_cases h:i<hi.length
  ·rw[List.getElem?_append_left h]at e;exact .inl ⟨h,e⟩
  ·rw[List.getElem?_append_right (by omega)]at e;exact .inr ⟨by omega,e⟩
 have hS3:=hc w3 (RoM s' (hi++hp) (gM k Q)) (fun b=>(F b∨G b)∨SlIn s' b) (hm3.weak (fun b _ hb=>.inl (hF.own b hb))) ⟨⟨ho3.rds,?_,fun i g r h1 h2=>?_⟩,fun b hb=>.inr hb,fun i g h1 b hb=>?_⟩ (fun b hb=>?_)
 ·subst hRR
  refine⟨(s',0,()),rfl,s',_,_,rfl,hS3,fun q hq=>?_,Ths.up_same _ _ _⟩
  have q0:∀i,q≠.mx 0 i:=fun i e=>hq (.inr ⟨i,e⟩)
  rw[Ths.up_ne _ _ (q0 1),Ths.up_ne _ _ (q0 0),Ths.up_ne _ _ (q0 1)]
  exact hT1 q (fun j e=>hq (.inl ⟨j,e⟩)) (q0 0)
 ·unfold gM
  rw[List.length_append,List.length_append,hil,hp2.len]
 ·unfold gM at h2
  rcases hrow i g h1 with ⟨h,e⟩ | ⟨h,e⟩
  ·rw[List.getElem?_append_left (by omega)]at h2
   exact(hF.row i g r e h2).rds.mo hm3 (fun a ha hb=>(hF.apt i g e _ (aYZ ha)).1 hb)
  ·rw[List.getElem?_append_right (by omega),←hil]at h2
   exact(hG.1.row _ g r e h2).mo hm3 (fun a ha hb=>hFG _ (hF.own _ hb) (hG.2.2 _ g e _ (aYZ ha)))
 ·rcases hrow i g h1 with ⟨h,e⟩ | ⟨h,e⟩
  ·exact .inl (.inl (hF.apt i g e b hb).2)
  ·exact .inl (.inr (hG.2.2 _ g e b hb))
 ·rcases hb with hb | hb
  ·exact .inl hb
  ·rcases hin3 b hb with h | h
   ·exact .inl (.inl (hF.own b h))
   ·exact .inr ⟨h,(ho3.base b hb).2⟩
theorem decoder_ok{W0 w:World}{T:Ths}(ko:Ky){f:Int}{k m:Nat}{Q D:Mtx}{sp sw:Sl}{present want:List Nat}(hko:¬GnK ko)(hS:Sep W0 w T)(hf:f=0∨f=1)(hk1:1≤k)(hm1:1≤m)(hkm:k+m≤256)(hQ:parM f k m=some Q)
  (hRp:Keep W0 T (fun q=>GnK q∨q=ko) (fun w=>Rds aOZ w sp present)) (hRw:Keep W0 T (fun q=>GnK q∨q=ko) (fun w=>Rds aOZ w sw want)) (hp:NumL (k+m) present) (hw:NumL (k+m) want) (hpl:k≤present.length) (hwl:1≤want.length) (hD:decM k (gM k Q) (present.take k) want=some D):
  Cl Tryz.prog 43 #[.int .i64 f,.int .i64 (k:Int),.int .i64 (m:Int),.slice sp.base sp.len sp.cap,.slice sw.base sw.len sw.cap] (.tup [.at .sl,.at (.int .i64)]) (fun x w'=>∃s hs T',x=(s,0,())∧Sep W0 w' T'∧(∀q,¬(GnK q∨q=ko)→T' q=T q)∧T' ko=buZ s hs D) w:=by
 refine gener_Decoder.run _ f (k:Int) (m:Int) sp sw w ?_
 generalize hRR:(fun(e:Ending) (w':World)=>∃x:Sl×Int×Unit,e=.returned ((Sh.tup [.at .sl,.at (.int .i64)]).enc x)∧∃s hs T',x=(s,0,())∧Sep W0 w' T'∧(∀q,¬(GnK q∨q=ko)→T' q=T q)∧T' ko=buZ s hs D)=R
 unfold gener_Decoder.M
 obtain⟨Q',hQ',hQs,hmds⟩:=par_ok (m:=m) hf hkm
 rw[hQ]at hQ'
 obtain rfl:=Option.some.inj hQ'
 have hgS:Shp (gM k Q) (k+m) k:=shp_append (aPZ _ _ _) hQs
 refine aeZ (generator_ok hS hf hk1 hm1 hkm hQ) ?_
 rintro _ w1 ⟨sg,hg,T1,rfl,hS1,hT1,hkg⟩
 have hT1':∀q,¬(GnK q∨q=ko)→T1 q=T q:=fun q hq=>hT1 q (fun h=>hq (.inl h))
 refine aAZ ?_
 have hRp1:=hRp.next hT1'
 have hRw1:=hRw.next hT1'
 rw[adZ (by omega) (by omega),show(k:Int)+m=((k+m:Nat):Int) by omega]
 refine auZ (d:=.one (.at .bool)) (x:=true) (numbers_gv (hRp1.here hS1) hp (by omega)) fun w2 hx2=>aAZ ?_
 have hS2:=hS1.exx hx2
 refine auZ (d:=.one (.at .bool)) (x:=true) (numbers_gv (hRw1.here hS2) hw (by omega)) fun w3 hx3=>?_
 have hS3:=hS2.exx hx3
 have hp3:=hRp1.here hS3
 have hw3:=hRw1.here hS3
 have hpl':=hp3.1
 have hwl':=hw3.1
 have hpn:=hp.len
 have hwn:=hw.len
 unfold gener_Decoder.j1
 refine aAZ (abZ (fun h=>by omega) (fun _=>aJZ (fun h=>by omega) (fun _=>?_)))
 refine Pu_slice 0 k hp3 tI sI (.inl ⟨rfl,rfl⟩) (.inr ⟨.i64,rfl⟩) (Nat.zero_le _) hpl fun st hst _ _ _=>?_
 have hRt:Keep W0 T1 (fun q=>GnK q∨q=ko) (fun w=>Rds aOZ w st (present.take k)):=fun w' T' hS' hT'=>by
  have:=hst w' (hRp1 w' T' hS' hT')
  rwa [List.drop_zero]at this
 have hkG:∀{T':Ths} {D:Ky→Prop},T' (.mx 0 1)=RoM sg hg (gM k Q)→¬D (.mx 0 1)→Keep W0 T' D (fun w=>MatR w sg hg (gM k Q)):=fun h hd=>keep_ro h hd
 have d2:GnK (.mx 0 2):=.inr ⟨2,rfl⟩
 have d3:GnK (.mx 0 3):=.inr ⟨3,rfl⟩
 have dt:∀i,GnK (.tm i):=fun i=>.inl ⟨i,rfl⟩
 have ko1:∀i,ko≠.mx 0 i:=fun i e=>hko (.inr ⟨i,e⟩)
 have kot:∀i,ko≠.tm i:=fun i e=>hko (.inl ⟨i,e⟩)
 have ht:(present.take k).length=k:=by rw[List.length_take];omega
 have stG:Stab W0 T1 (.mx 0 2) (.mx 0 2) (fun w=>MatR w sg hg (gM k Q)):=(hkG (D:=fun q=>q=.mx 0 2) hkg (by simp)).stab rfl rfl
 refine aeZ (pick_ok (.mx 0 2) hS3 stG (hRt.stab (.inl d2) (.inl d2)) hgS (by omega) hkm hk1 (by omega) (by omega) (by omega) (fun r hr=>hp.lt r (List.mem_of_mem_take hr))) ?_
 rintro _ w4 ⟨s4,h4,rfl,hS4⟩
 refine aAZ ?_
 have hpS:Shp (aRZ (gM k Q) (present.take k)) k k:=by have:=shp_pick (rows:=present.take k) hgS (fun r hr=>hp.lt r (List.mem_of_mem_take hr));rwa [ht]at this
 obtain⟨X,hX,hXs,hDX⟩:∃X,solveM k (aRZ (gM k Q) (present.take k)) (aXZ k)=some X∧Shp X k k∧D=mulM k (aRZ (gM k Q) want) X:=by
  unfold decM at hD
  cases hx:solveM k (aRZ (gM k Q) (present.take k)) (aXZ k) with
  | none=>rw[hx]at hD;cases hD
  | some X=>
   rw[hx]at hD
   have hinj:Inj (aRZ (gM k Q) (present.take k)) k:=by
    intro v h
    refine hmds _ ht (List.Nodup.sublist (List.take_sublist _ _) hp.nodup) (fun r hr=>hp.lt r (List.mem_of_mem_take hr)) v (fun r hr=>?_)
    obtain⟨i,hi,rfl⟩:=List.getElem_of_mem hr
    have:=h i (by omega)
    rw[aiZ (fun c _=>by rw[ent_pick hi])]at this
    rw[List.getD_eq_getElem?_getD,List.getElem?_eq_getElem hi]at this
    exact this
   obtain⟨Y,hY,hYs,_⟩:=solve_ok hpS (aPZ k k (fun r c=>if r=c then 1#8 else 0#8)) hinj
   rw[show bNZ k k (fun r c=>if r=c then 1#8 else 0#8)=aXZ k from rfl,hx]at hY
   obtain rfl:=Option.some.inj hY
   exact⟨X,rfl,hYs,(Option.some.inj hD).symm⟩
 have k4:(T1.up (.mx 0 2) (buZ s4 h4 (aRZ (gM k Q) (present.take k)))) (.mx 0 1)=RoM sg hg (gM k Q):=(Ths.up_ne _ _ (by simp)).trans hkg
 have hT4:∀q,¬(GnK q∨q=ko)→(T1.up (.mx 0 2) (buZ s4 h4 (aRZ (gM k Q) (present.take k)))) q=T1 q:=fun q hq=>Ths.up_ne _ _ (fun e=>hq (.inl (e▸d2)))
 refine aeZ (invert_ok hS4 (ha:=h4) ((keep_mat (D:=fun q=>∃j,q=.tm j) (Ths.up_same _ _ _) (by simp)).stay (by simp)) hpS hk1 (by omega) hX) ?_
 rintro _ w5 ⟨s5,h5,T5,rfl,hS5,hT5,hk5⟩
 refine aAZ ?_
 have k5:T5 (.mx 0 1)=RoM sg hg (gM k Q):=(hT5 _ (by simp)).trans k4
 have hT5':∀q,¬(GnK q∨q=ko)→T5 q=T1 q:=fun q hq=>(hT5 q (fun h=>hq (.inl (by
  simp only[List.mem_cons,List.not_mem_nil,or_false]at h
  rcases h with h | h | h | h | h <;> exact h▸dt _)))).trans (hT4 q hq)
 have hRw5:=hRw1.next hT5'
 refine aeZ (pick_ok (.mx 0 3) hS5 ((hkG (D:=fun q=>q=.mx 0 3) k5 (by simp)).stab rfl rfl) (hRw5.stab (.inl d3) (.inl d3)) hgS (by omega) hkm hk1 (by omega) hwl (by omega) hw.lt) ?_
 rintro _ w6 ⟨s6,h6,rfl,hS6⟩
 refine aAZ ?_
 have hwS:=shp_pick (rows:=want) hgS hw.lt
 refine aeZ (mul_ok ko (.tm 2) (kot 2) hS6 (stab_mat (Ths.up_same _ _ _) (fun e=>ko1 3 e.symm) (by simp)) (stab_mat ((Ths.up_ne _ _ (by simp)).trans hk5) (fun e=>kot 5 e.symm) (by simp)) hwS hXs hwl (by omega) hk1 (by omega) hk1 (by omega)) ?_
 rintro _ w7 ⟨s7,h7,g7,rfl,hS7⟩
 subst hRR
 refine⟨(s7,0,()),rfl,s7,h7,_,rfl,hS7,fun q hq=>?_,by rw[hDX];exact Ths.up_same _ _ _⟩
 rw[Ths.up_ne _ _ (fun e=>hq (.inr e)),Ths.up_ne _ _ (show q≠.tm 2 from fun e=>hq (.inl (e▸dt 2))),Ths.up_ne _ _ (show q≠.mx 0 3 from fun e=>hq (.inl (e▸d3)))]
 exact(hT5' q hq).trans (hT1' q hq)
end Go.Proofs.YtbiilejgfihohaaGreat
namespace Go.Proofs.YtbiilejgfihohaaGreat
open Go Go.Cu
theorem bqZ:Tryz.prog.follows .mixedOrders=true:=by kernel_rfl
noncomputable def table_New.body:Code:=(Tryz.f81.body).getD .skip
def table_New.j1(R:EPq)(k1:((Option Addr)×(Option Addr)×Int×Unit)→WPq)(k2:((Option Addr)×(Option Addr)×Int×Int×Int×Unit)→WPq)(v1:(Option Addr))(v2:(Option Addr))(v3:Int)(t8:Int)(t11:Int)(w:World):Prop:=
 k2 (v1,v2,v3,t8,(IntKind.wrap .i64 (t11+1)),()) w
def table_New.b2(R:EPq)(k1:((Option Addr)×(Option Addr)×Int×Unit)→WPq)(k2:((Option Addr)×(Option Addr)×Int×Int×Int×Unit)→WPq)(v1:(Option Addr))(v2:(Option Addr))(v3:Int)(t8:Int)(t11:Int)(w:World):Prop:=
 Cd (decide (t11<256)) (Held w.drew (fun S7=>Pu Tryz.prog (amZ v1) (.one (.at .addr)) (fun(x8:Addr) w9=>
 Pu Tryz.prog (Instr.indexAt 179 (.pointer (some x8)) (.int .i64 v3)) (.one (.at .addr)) (fun(x10:Addr) w11=>
 Cl Tryz.prog 94 #[(.pointer v2),(.int .u8 (IntKind.wrap .u8 v3)),(.int .u8 (IntKind.wrap .u8 t11))] (.one (.at (.int .u8))) (fun(x12:Int) w13=>
 S7 w13∧(Pu Tryz.prog (Instr.indexAt 178 (.pointer (some x10)) (.int .i64 t11)) (.one (.at .addr)) (fun(x14:Addr) w15=>
 Wu Tryz.prog (Instr.storeAt 5 (.pointer (some x14)) (.int .u8 x12)) (fun w16=>
 S7 w16∧(table_New.j1 R k1 k2 v1 v2 v3 t8 t11 w16)) w15) w13)) w11) w9) w.drew)) (k1 (v1,v2,(IntKind.wrap .i64 (t8+1)),()) w)
def table_New.l2(R:EPq)(k1:((Option Addr)×(Option Addr)×Int×Unit)→WPq):((Option Addr)×(Option Addr)×Int×Int×Int×Unit)→World→Prop:=arZ (fun k2 s w=>table_New.b2 R k1 k2 s.1 s.2.1 s.2.2.1 s.2.2.2.1 s.2.2.2.2.1 w)
def table_New.b1(R:EPq)(k1:((Option Addr)×(Option Addr)×Int×Unit)→WPq)(v1:(Option Addr))(v2:(Option Addr))(t8:Int)(w:World):Prop:=
 Cd (decide (t8<256)) (table_New.l2 R k1 (v1,v2,t8,t8,0,()) w) (R (.returned (.pointer v1)) w)
def table_New.l1(R:EPq):((Option Addr)×(Option Addr)×Int×Unit)→World→Prop:=arZ (fun k1 s w=>table_New.b1 R k1 s.1 s.2.1 s.2.2.1 w)
def table_New.M(R:EPq)(w:World):Prop:=
 Pu Tryz.prog (Instr.build 181 #[]) (.one (.at .any)) (fun x1 w2=>
 Wr Tryz.prog (Instr.box 181 x1) (.one (.at .addr)) (fun(x3:Addr) w4=>
 Cl Tryz.prog 93 #[] (.one (.at .ptr)) (fun(x5:(Option Addr)) w6=>
 table_New.l1 R ((some x3),x5,0,()) w6) w4) w2) w
noncomputable def table_New.ann(R:EPq):Ann:=
 .seq (.reg qN1) (.seq (.reg (.op 0 (.pu (.one (.at .any))) (.op 1 (.wr (.one (.at .addr))) (.op 2 .now (.done))))) (.seq (.reg (.op 0 (.cl (.one qcP)) (.op 1 .now (.done)))) (.seq (.seq (.reg qN1) (.block (.loop [(1,qcP),(2,qcP),(8,qcI)] (fun k1 s w=>table_New.b1 R k1 s.1 s.2.1 s.2.2.1 w) (fun k1=>.seq (.reg qN1) (.seq (.cond (.leaf) (.leaf)) (.seq (.block (.seq (.reg qN2) (.seq (.reg qN1) (.block (.loop [(1,qcP),(2,qcP),(3,qcI),(8,qcI),(11,qcI)] (fun k2 s w=>table_New.b2 R k1 k2 s.1 s.2.1 s.2.2.1 s.2.2.2.1 s.2.2.2.2.1 w) (fun k2=>.seq (.reg qN1) (.seq (.cond (.leaf) (.leaf)) (.join [(1,qcP),(2,qcP),(3,qcI),(8,qcI),(11,qcI)] (fun s w=>table_New.j1 R k1 k2 s.1 s.2.1 s.2.2.1 s.2.2.2.1 s.2.2.2.2.1 w) (.block (.seq (.reg qN2) (.regD (.op 0 .now (.op 1 .now (.op 2 .now (.op 3 .now (.op 4 .now (.op 5 .now (.op 6 .now (.op 7 .now (.op 9 qpA (.op 10 .now (.op 11 qpA (.op 8 (.cl (.one qcB)) (.op 12 qpA (.op 13 .wu (.done)))))))))))))))))) (.reg qN2))))))))) (.reg qN2))))))) (.seq (.reg qN2) (.leaf)))))
theorem table_New.run(R:EPq)(w:World)(h:table_New.M R w):Calls Tryz.prog 81 #[] w R:=by
 refine aaZ bqZ Tryz.func81 (c:=table_New.body) (by kernel_rfl) [.at .ptr] (table_New.ann R) 30 Tryz.ntmps81 [.tmp 0] (by kernel_rfl) (Nat.le_of_ble_eq_true (by kernel_rfl)) ?_ ?_
 ·exact⟨tv,⟨tv,⟨tv,⟨⟨tv,(fun k1=>⟨fun s w=>mq,⟨tv,⟨⟨tv,tv⟩,⟨⟨tv,⟨tv,(fun k2=>⟨fun s w=>mq,⟨tv,⟨⟨tv,tv⟩,⟨fun s w=>mq,⟨tv,(show Region.noSelect _=true by kernel_rfl)⟩,tv⟩⟩⟩⟩)⟩⟩,tv⟩⟩⟩⟩)⟩,⟨tv,tv⟩⟩⟩⟩⟩
 ·exact Eq.mp (show table_New.M R w=_ by kernel_rfl) h
noncomputable def nibble_New.body:Code:=(Tryz.f82.body).getD .skip
def nibble_New.M(R:EPq)(w:World):Prop:=
 Wr Tryz.prog (Instr.box 183 (.agg #[(.int .u8 0)])) (.one (.at .addr)) (fun(x1:Addr) w2=>
 R (.returned (.pointer (some x1))) w2) w
noncomputable def nibble_New.ann(R:EPq):Ann:=
 .seq (.reg qN1) (.seq (.reg (.op 0 .now (.op 1 (.wr (.one (.at .addr))) (.op 2 .now (.done))))) (.leaf))
theorem nibble_New.run(R:EPq)(w:World)(h:nibble_New.M R w):Calls Tryz.prog 82 #[] w R:=by
 refine aaZ bqZ Tryz.func82 (c:=nibble_New.body) (by kernel_rfl) [.at .ptr] (nibble_New.ann R) 3 Tryz.ntmps82 [.tmp 0] (by kernel_rfl) (Nat.le_of_ble_eq_true (by kernel_rfl)) ?_ ?_
 ·exact⟨tv,⟨tv,tv⟩⟩
 ·exact Eq.mp (show nibble_New.M R w=_ by kernel_rfl) h
noncomputable def sliced_New.body:Code:=(Tryz.f83.body).getD .skip
def sliced_New.M(R:EPq)(w:World):Prop:=
 Wr Tryz.prog (Instr.box 185 (.agg #[(.bool true)])) (.one (.at .addr)) (fun(x1:Addr) w2=>
 R (.returned (.pointer (some x1))) w2) w
noncomputable def sliced_New.ann(R:EPq):Ann:=
 .seq (.reg qN1) (.seq (.reg (.op 0 .now (.op 1 (.wr (.one (.at .addr))) (.op 2 .now (.done))))) (.leaf))
theorem sliced_New.run(R:EPq)(w:World)(h:sliced_New.M R w):Calls Tryz.prog 83 #[] w R:=by
 refine aaZ bqZ Tryz.func83 (c:=sliced_New.body) (by kernel_rfl) [.at .ptr] (sliced_New.ann R) 3 Tryz.ntmps83 [.tmp 0] (by kernel_rfl) (Nat.le_of_ble_eq_true (by kernel_rfl)) ?_ ?_
 ·exact⟨tv,⟨tv,tv⟩⟩
 ·exact Eq.mp (show sliced_New.M R w=_ by kernel_rfl) h
noncomputable def table_Kernel_MulAdd.body:Code:=(Tryz.f189.body).getD .skip
def table_Kernel_MulAdd.b1(R:EPq)(k1:(Sl×(Option Addr)×Sl×Int×Int×Unit)→WPq)(v2:Sl)(v10:(Option Addr))(t25:Sl)(t26:Int)(t27:Int)(w:World):Prop:=
 Cd (decide (t27<t26)) (Pu Tryz.prog (Instr.indexAt 24 (.slice t25.base t25.len t25.cap) (.int .i64 t27)) (.one (.at .addr)) (fun(x7:Addr) w8=>
 Rd Tryz.prog (Instr.loadAt 5 (.pointer (some x7))) (.one (.at (.int .u8))) (fun(x9:Int) w10=>
 Held w10.drew (fun S11=>Pu Tryz.prog (Instr.indexAt 24 (.slice v2.base v2.len v2.cap) (.int .i64 t27)) (.one (.at .addr)) (fun(x12:Addr) w13=>
 Pu Tryz.prog (amZ v10) (.one (.at .addr)) (fun(x14:Addr) w15=>
 Pu Tryz.prog (Instr.indexAt 178 (.pointer (some x14)) (.int .u8 x9)) (.one (.at .addr)) (fun(x16:Addr) w17=>
 RdS Tryz.prog S11 (Instr.loadAt 5 (.pointer (some x16))) (.one (.at (.int .u8))) (fun(x18:Int) w19=>
 Wr Tryz.prog (Instr.loadAt 5 (.pointer (some x12))) (.one (.at (.int .u8))) (fun(x20:Int) w21=>
 S11 w21∧(Pu Tryz.prog (Instr.indexAt 24 (.slice v2.base v2.len v2.cap) (.int .i64 t27)) (.one (.at .addr)) (fun(x22:Addr) w23=>
 Wu Tryz.prog (Instr.storeAt 5 (.pointer (some x22)) (.int .u8 (bXor .u8 x20 x18))) (fun w24=>
 S11 w24∧(k1 (v2,v10,t25,t26,(IntKind.wrap .i64 (t27+1)),()) w24)) w23) w21)) w19) w17) w15) w13) w10.drew)) w8) w) (R (.returned (.int .i64 0)) w)
def table_Kernel_MulAdd.l1(R:EPq):(Sl×(Option Addr)×Sl×Int×Int×Unit)→World→Prop:=arZ (fun k1 s w=>table_Kernel_MulAdd.b1 R k1 s.1 s.2.1 s.2.2.1 s.2.2.2.1 s.2.2.2.2.1 w)
def table_Kernel_MulAdd.M(R:EPq)(v0:(Option Addr))(v1:Int)(v2:Sl)(v3:Sl)(w:World):Prop:=
 Cl Tryz.prog 191 #[(.pointer v0),(.slice v2.base v2.len v2.cap),(.slice v3.base v3.len v3.cap)] (.one (.at (.int .i64))) (fun(x1:Int) w2=>
 Cd (x1 !=0) (R (.returned (.int .i64 x1)) w2) (Pu Tryz.prog (amZ v0) (.one (.at .addr)) (fun(x3:Addr) w4=>
 Pu Tryz.prog (Instr.indexAt 179 (.pointer (some x3)) (.int .u8 v1)) (.one (.at .addr)) (fun(x5:Addr) w6=>
 table_Kernel_MulAdd.l1 R (v2,(some x5),v3,((v3.len:Nat):Int),0,()) w6) w4) w2)) w
noncomputable def table_Kernel_MulAdd.ann(R:EPq):Ann:=
 .seq (.reg qN1) (.seq (.seq (.reg (.op 0 .now (.op 1 .now (.op 2 .now (.op 3 (.cl (.one qcI)) (.op 4 .now (.done))))))) (.seq (.reg qN2) (.cond (.seq (.reg qN2) (.leaf)) (.leaf)))) (.seq (.reg (.op 0 .now (.op 1 .now (.op 2 qpA (.op 3 .now (.op 4 qpA (.op 5 .now (.done)))))))) (.seq (.seq (.reg qN3) (.block (.loop [(2,qcS),(10,qcP),(25,qcS),(26,qcI),(27,qcI)] (fun k1 s w=>table_Kernel_MulAdd.b1 R k1 s.1 s.2.1 s.2.2.1 s.2.2.2.1 s.2.2.2.2.1 w) (fun k1=>.seq (.reg qN1) (.seq (.cond (.leaf) (.leaf)) (.seq (.block (.seq (.reg (.op 0 .now (.op 1 qpA (.op 2 qrB (.op 3 .now (.op 4 .now (.done))))))) (.regD (.op 0 .now (.op 1 .now (.op 2 qpA (.op 4 .now (.op 5 .now (.op 6 qpA (.op 7 qpA (.op 8 qrB (.op 3 (.wr (.one qcB)) (.op 9 .now (.op 10 qpA (.op 11 .wu (.done)))))))))))))))) (.reg qN2))))))) (.seq (.reg qN1) (.leaf)))))
theorem table_Kernel_MulAdd.run(R:EPq)(v0:(Option Addr))(v1:Int)(v2:Sl)(v3:Sl)(w:World)(h:table_Kernel_MulAdd.M R v0 v1 v2 v3 w):Calls Tryz.prog 189 #[(.pointer v0),(.int .u8 v1),(.slice v2.base v2.len v2.cap),(.slice v3.base v3.len v3.cap)] w R:=by
 refine aaZ bqZ Tryz.func189 (c:=table_Kernel_MulAdd.body) (by kernel_rfl) [.at (.int .i64)] (table_Kernel_MulAdd.ann R) 44 Tryz.ntmps189 [.tmp 8] (by kernel_rfl) (Nat.le_of_ble_eq_true (by kernel_rfl)) ?_ ?_
 ·exact⟨tv,⟨⟨tv,⟨tv,⟨⟨tv,tv⟩,tv⟩⟩⟩,⟨tv,⟨⟨tv,(fun k1=>⟨fun s w=>mq,⟨tv,⟨⟨tv,tv⟩,⟨⟨tv,(show Region.noSelect _=true by kernel_rfl)⟩,tv⟩⟩⟩⟩)⟩,⟨tv,tv⟩⟩⟩⟩⟩
 ·exact Eq.mp (show table_Kernel_MulAdd.M R v0 v1 v2 v3 w=_ by kernel_rfl) h
noncomputable def table_Kernel_refuses.body:Code:=(Tryz.f191.body).getD .skip
def table_Kernel_refuses.M(R:EPq)(v0:(Option Addr))(v1:Sl)(v2:Sl)(w:World):Prop:=
 Pu Tryz.prog (do eqGuard .eql 140 (.tmp 8) (.const (.pointer none)) (.pointer v0) (.pointer none);binOp .eql 140 (.pointer v0) (.pointer none)) (.one (.at .bool)) (fun(x1:Bool) w2=>
 Cd x1 (R (.returned (.int .i64 1)) w2) (Cd (((v1.len:Nat):Int) !=((v2.len:Nat):Int)) (R (.returned (.int .i64 6)) w2) (R (.returned (.int .i64 0)) w2))) w
noncomputable def table_Kernel_refuses.ann(R:EPq):Ann:=
 .seq (.reg qN1) (.seq (.block (.seq (.reg (.op 0 .now (.op 1 (.pu (.one (.at .bool))) (.op 2 .now (.done))))) (.cond (.seq (.reg qN1) (.leaf)) (.seq (.reg qN6) (.cond (.seq (.reg qN1) (.leaf)) (.leaf)))))) (.seq (.reg qN1) (.leaf)))
theorem table_Kernel_refuses.run(R:EPq)(v0:(Option Addr))(v1:Sl)(v2:Sl)(w:World)(h:table_Kernel_refuses.M R v0 v1 v2 w):Calls Tryz.prog 191 #[(.pointer v0),(.slice v1.base v1.len v1.cap),(.slice v2.base v2.len v2.cap)] w R:=by
 refine aaZ bqZ Tryz.func191 (c:=table_Kernel_refuses.body) (by kernel_rfl) [.at (.int .i64)] (table_Kernel_refuses.ann R) 16 Tryz.ntmps191 [.tmp 6] (by kernel_rfl) (Nat.le_of_ble_eq_true (by kernel_rfl)) ?_ ?_
 ·exact⟨tv,⟨⟨tv,⟨⟨tv,tv⟩,⟨tv,⟨⟨tv,tv⟩,tv⟩⟩⟩⟩,⟨tv,tv⟩⟩⟩
 ·exact Eq.mp (show table_Kernel_refuses.M R v0 v1 v2 w=_ by kernel_rfl) h
noncomputable def nibble_Kernel_MulAdd.body:Code:=(Tryz.f193.body).getD .skip
def nibble_Kernel_MulAdd.b1(R:EPq)(k1:(Sl×Addr×Addr×Sl×Int×Int×Unit)→WPq)(v2:Sl)(v9:Addr)(v10:Addr)(t25:Sl)(t26:Int)(t27:Int)(w:World):Prop:=
 Cd (decide (t27<t26)) (Pu Tryz.prog (Instr.indexAt 24 (.slice t25.base t25.len t25.cap) (.int .i64 t27)) (.one (.at .addr)) (fun(x11:Addr) w12=>
 Rd Tryz.prog (Instr.loadAt 5 (.pointer (some x11))) (.one (.at (.int .u8))) (fun(x13:Int) w14=>
 Held w14.drew (fun S15=>Pu Tryz.prog (Instr.indexAt 24 (.slice v2.base v2.len v2.cap) (.int .i64 t27)) (.one (.at .addr)) (fun(x16:Addr) w17=>
 Pu Tryz.prog (Instr.indexAt 262 (.pointer (some v9)) (.int .u8 (bAnd .u8 x13 15))) (.one (.at .addr)) (fun(x18:Addr) w19=>
 RdS Tryz.prog S15 (Instr.loadAt 5 (.pointer (some x18))) (.one (.at (.int .u8))) (fun(x20:Int) w21=>
 Pu Tryz.prog (Instr.indexAt 262 (.pointer (some v10)) (.int .u8 (shR .u8 x13 4))) (.one (.at .addr)) (fun(x22:Addr) w23=>
 RdS Tryz.prog S15 (Instr.loadAt 5 (.pointer (some x22))) (.one (.at (.int .u8))) (fun(x24:Int) w25=>
 Wr Tryz.prog (Instr.loadAt 5 (.pointer (some x16))) (.one (.at (.int .u8))) (fun(x26:Int) w27=>
 S15 w27∧(Pu Tryz.prog (Instr.indexAt 24 (.slice v2.base v2.len v2.cap) (.int .i64 t27)) (.one (.at .addr)) (fun(x28:Addr) w29=>
 Wu Tryz.prog (Instr.storeAt 5 (.pointer (some x28)) (.int .u8 (bXor .u8 x26 (bXor .u8 x20 x24)))) (fun w30=>
 S15 w30∧(k1 (v2,v9,v10,t25,t26,(IntKind.wrap .i64 (t27+1)),()) w30)) w29) w27)) w25) w23) w21) w19) w17) w14.drew)) w12) w) (R (.returned (.int .i64 0)) w)
def nibble_Kernel_MulAdd.l1(R:EPq):(Sl×Addr×Addr×Sl×Int×Int×Unit)→World→Prop:=arZ (fun k1 s w=>nibble_Kernel_MulAdd.b1 R k1 s.1 s.2.1 s.2.2.1 s.2.2.2.1 s.2.2.2.2.1 s.2.2.2.2.2.1 w)
def nibble_Kernel_MulAdd.M(R:EPq)(v0:(Option Addr))(v1:Int)(v2:Sl)(v3:Sl)(w:World):Prop:=
 Pu Tryz.prog (do eqGuard .eql 142 (.tmp 13) (.const (.pointer none)) (.pointer v0) (.pointer none);binOp .eql 142 (.pointer v0) (.pointer none)) (.one (.at .bool)) (fun(x1:Bool) w2=>
 Cd x1 (R (.returned (.int .i64 1)) w2) (Cd (((v2.len:Nat):Int) !=((v3.len:Nat):Int)) (R (.returned (.int .i64 6)) w2) (Cl Tryz.prog 194 #[(.int .u8 v1)] (.tup [.agg [.int .u8,.int .u8,.int .u8,.int .u8,.int .u8,.int .u8,.int .u8,.int .u8,.int .u8,.int .u8,.int .u8,.int .u8,.int .u8,.int .u8,.int .u8,.int .u8],.agg [.int .u8,.int .u8,.int .u8,.int .u8,.int .u8,.int .u8,.int .u8,.int .u8,.int .u8,.int .u8,.int .u8,.int .u8,.int .u8,.int .u8,.int .u8,.int .u8]]) (fun x3 w4=>
 Wr Tryz.prog (Instr.alloc 262 true (.tuple #[])) (.one (.at .addr)) (fun(x5:Addr) w6=>
 Wr Tryz.prog (Instr.alloc 262 true (.tuple #[])) (.one (.at .addr)) (fun(x7:Addr) w8=>
 Wu Tryz.prog (Instr.storeAt 262 (.pointer (some x5)) (.agg #[(.int .u8 x3.1.1),(.int .u8 x3.1.2.1),(.int .u8 x3.1.2.2.1),(.int .u8 x3.1.2.2.2.1),(.int .u8 x3.1.2.2.2.2.1),(.int .u8 x3.1.2.2.2.2.2.1),(.int .u8 x3.1.2.2.2.2.2.2.1),(.int .u8 x3.1.2.2.2.2.2.2.2.1),(.int .u8 x3.1.2.2.2.2.2.2.2.2.1),(.int .u8 x3.1.2.2.2.2.2.2.2.2.2.1),(.int .u8 x3.1.2.2.2.2.2.2.2.2.2.2.1),(.int .u8 x3.1.2.2.2.2.2.2.2.2.2.2.2.1),(.int .u8 x3.1.2.2.2.2.2.2.2.2.2.2.2.2.1),(.int .u8 x3.1.2.2.2.2.2.2.2.2.2.2.2.2.2.1),(.int .u8 x3.1.2.2.2.2.2.2.2.2.2.2.2.2.2.2.1),(.int .u8 x3.1.2.2.2.2.2.2.2.2.2.2.2.2.2.2.2.1)])) (fun w9=>
 Wu Tryz.prog (Instr.storeAt 262 (.pointer (some x7)) (.agg #[(.int .u8 x3.2.1.1),(.int .u8 x3.2.1.2.1),(.int .u8 x3.2.1.2.2.1),(.int .u8 x3.2.1.2.2.2.1),(.int .u8 x3.2.1.2.2.2.2.1),(.int .u8 x3.2.1.2.2.2.2.2.1),(.int .u8 x3.2.1.2.2.2.2.2.2.1),(.int .u8 x3.2.1.2.2.2.2.2.2.2.1),(.int .u8 x3.2.1.2.2.2.2.2.2.2.2.1),(.int .u8 x3.2.1.2.2.2.2.2.2.2.2.2.1),(.int .u8 x3.2.1.2.2.2.2.2.2.2.2.2.2.1),(.int .u8 x3.2.1.2.2.2.2.2.2.2.2.2.2.2.1),(.int .u8 x3.2.1.2.2.2.2.2.2.2.2.2.2.2.2.1),(.int .u8 x3.2.1.2.2.2.2.2.2.2.2.2.2.2.2.2.1),(.int .u8 x3.2.1.2.2.2.2.2.2.2.2.2.2.2.2.2.2.1),(.int .u8 x3.2.1.2.2.2.2.2.2.2.2.2.2.2.2.2.2.2.1)])) (fun w10=>
 nibble_Kernel_MulAdd.l1 R (v2,x5,x7,v3,((v3.len:Nat):Int),0,()) w10) w9) w8) w6) w4) w2))) w
noncomputable def nibble_Kernel_MulAdd.ann(R:EPq):Ann:=
 .seq (.reg qN1) (.seq (.seq (.reg (.op 0 .now (.op 1 (.pu (.one (.at .bool))) (.done)))) (.cond (.seq (.reg qN1) (.leaf)) (.leaf))) (.seq (.seq (.reg qN5) (.cond (.seq (.reg qN1) (.leaf)) (.leaf))) (.seq (.reg (.op 0 .now (.op 1 (.cl (.tup [.agg [.int .u8,.int .u8,.int .u8,.int .u8,.int .u8,.int .u8,.int .u8,.int .u8,.int .u8,.int .u8,.int .u8,.int .u8,.int .u8,.int .u8,.int .u8,.int .u8],.agg [.int .u8,.int .u8,.int .u8,.int .u8,.int .u8,.int .u8,.int .u8,.int .u8,.int .u8,.int .u8,.int .u8,.int .u8,.int .u8,.int .u8,.int .u8,.int .u8]])) (.op 2 .now (.op 3 .now (.op 4 .now (.op 5 (.wr (.one (.at .addr))) (.op 6 (.wr (.one (.at .addr))) (.op 7 .wu (.op 8 .wu (.done))))))))))) (.seq (.seq (.reg qN3) (.block (.loop [(2,qcS),(9,.at .addr),(10,.at .addr),(25,qcS),(26,qcI),(27,qcI)] (fun k1 s w=>nibble_Kernel_MulAdd.b1 R k1 s.1 s.2.1 s.2.2.1 s.2.2.2.1 s.2.2.2.2.1 s.2.2.2.2.2.1 w) (fun k1=>.seq (.reg qN1) (.seq (.cond (.leaf) (.leaf)) (.seq (.block (.seq (.reg (.op 0 .now (.op 1 qpA (.op 2 qrB (.op 3 .now (.op 4 .now (.done))))))) (.regD (.op 0 .now (.op 1 .now (.op 2 qpA (.op 4 .now (.op 5 .now (.op 6 qpA (.op 7 qrB (.op 8 .now (.op 9 .now (.op 10 qpA (.op 11 qrB (.op 12 .now (.op 3 (.wr (.one qcB)) (.op 13 .now (.op 14 qpA (.op 15 .wu (.done)))))))))))))))))))) (.reg qN2))))))) (.seq (.reg qN1) (.leaf))))))
theorem nibble_Kernel_MulAdd.run(R:EPq)(v0:(Option Addr))(v1:Int)(v2:Sl)(v3:Sl)(w:World)(h:nibble_Kernel_MulAdd.M R v0 v1 v2 v3 w):Calls Tryz.prog 193 #[(.pointer v0),(.int .u8 v1),(.slice v2.base v2.len v2.cap),(.slice v3.base v3.len v3.cap)] w R:=by
 refine aaZ bqZ Tryz.func193 (c:=nibble_Kernel_MulAdd.body) (by kernel_rfl) [.at (.int .i64)] (nibble_Kernel_MulAdd.ann R) 48 Tryz.ntmps193 [.tmp 8] (by kernel_rfl) (Nat.le_of_ble_eq_true (by kernel_rfl)) ?_ ?_
 ·exact⟨tv,⟨⟨tv,⟨⟨tv,tv⟩,tv⟩⟩,⟨⟨tv,⟨⟨tv,tv⟩,tv⟩⟩,⟨tv,⟨⟨tv,(fun k1=>⟨fun s w=>mq,⟨tv,⟨⟨tv,tv⟩,⟨⟨tv,(show Region.noSelect _=true by kernel_rfl)⟩,tv⟩⟩⟩⟩)⟩,⟨tv,tv⟩⟩⟩⟩⟩⟩
 ·exact Eq.mp (show nibble_Kernel_MulAdd.M R v0 v1 v2 v3 w=_ by kernel_rfl) h
noncomputable def nibble_halves.body:Code:=(Tryz.f194.body).getD .skip
def nibble_halves.b2(R:EPq)(k1:(Int×Addr×Addr×Int×Unit)→WPq)(k2:(Int×Addr×Addr×Int×Int×Int×Unit)→WPq)(v0:Int)(v2:Addr)(v3:Addr)(v4:Int)(v5:Int)(t6:Int)(w:World):Prop:=
 Pu Tryz.prog (do eqGuard .shl 3 (.const (.int .i64 1)) (.tmp 24) (.int .i64 1) (.int .i64 v4);binOp .shl 3 (.int .i64 1) (.int .i64 v4)) (.one (.at (.int .i64))) (fun(x5:Int) w6=>
 Cd (decide (v5<x5)) (Held w6.drew (fun S7=>Pu Tryz.prog (do eqGuard .shl 3 (.const (.int .i64 1)) (.tmp 29) (.int .i64 1) (.int .i64 v4);binOp .shl 3 (.int .i64 1) (.int .i64 v4)) (.one (.at (.int .i64))) (fun(x8:Int) w9=>
 Pu Tryz.prog (do eqGuard .shl 3 (.const (.int .i64 1)) (.tmp 33) (.int .i64 1) (.int .i64 v4);binOp .shl 3 (.int .i64 1) (.int .i64 v4)) (.one (.at (.int .i64))) (fun(x10:Int) w11=>
 Pu Tryz.prog (Instr.indexAt 262 (.pointer (some v2)) (.int .i64 x10)) (.one (.at .addr)) (fun(x12:Addr) w13=>
 RdS Tryz.prog S7 (Instr.loadAt 5 (.pointer (some x12))) (.one (.at (.int .u8))) (fun(x14:Int) w15=>
 Pu Tryz.prog (Instr.indexAt 262 (.pointer (some v2)) (.int .i64 v5)) (.one (.at .addr)) (fun(x16:Addr) w17=>
 RdS Tryz.prog S7 (Instr.loadAt 5 (.pointer (some x16))) (.one (.at (.int .u8))) (fun(x18:Int) w19=>
 Pu Tryz.prog (Instr.indexAt 262 (.pointer (some v2)) (.int .i64 (IntKind.wrap .i64 (x8+v5)))) (.one (.at .addr)) (fun(x20:Addr) w21=>
 Wu Tryz.prog (Instr.storeAt 5 (.pointer (some x20)) (.int .u8 (bXor .u8 x14 x18))) (fun w22=>
 S7 w22∧(Held w22.drew (fun S23=>Pu Tryz.prog (do eqGuard .shl 3 (.const (.int .i64 1)) (.tmp 42) (.int .i64 1) (.int .i64 v4);binOp .shl 3 (.int .i64 1) (.int .i64 v4)) (.one (.at (.int .i64))) (fun(x24:Int) w25=>
 Pu Tryz.prog (do eqGuard .shl 3 (.const (.int .i64 1)) (.tmp 46) (.int .i64 1) (.int .i64 v4);binOp .shl 3 (.int .i64 1) (.int .i64 v4)) (.one (.at (.int .i64))) (fun(x26:Int) w27=>
 Pu Tryz.prog (Instr.indexAt 262 (.pointer (some v3)) (.int .i64 x26)) (.one (.at .addr)) (fun(x28:Addr) w29=>
 RdS Tryz.prog S23 (Instr.loadAt 5 (.pointer (some x28))) (.one (.at (.int .u8))) (fun(x30:Int) w31=>
 Pu Tryz.prog (Instr.indexAt 262 (.pointer (some v3)) (.int .i64 v5)) (.one (.at .addr)) (fun(x32:Addr) w33=>
 RdS Tryz.prog S23 (Instr.loadAt 5 (.pointer (some x32))) (.one (.at (.int .u8))) (fun(x34:Int) w35=>
 Pu Tryz.prog (Instr.indexAt 262 (.pointer (some v3)) (.int .i64 (IntKind.wrap .i64 (x24+v5)))) (.one (.at .addr)) (fun(x36:Addr) w37=>
 Wu Tryz.prog (Instr.storeAt 5 (.pointer (some x36)) (.int .u8 (bXor .u8 x30 x34))) (fun w38=>
 S23 w38∧(k2 (v0,v2,v3,v4,(IntKind.wrap .i64 (v5+1)),t6,()) w38)) w37) w35) w33) w31) w29) w27) w25) w22.drew))) w21) w19) w17) w15) w13) w11) w9) w6.drew)) (k1 (v0,v2,v3,(IntKind.wrap .i64 (t6+1)),()) w6)) w
def nibble_halves.l2(R:EPq)(k1:(Int×Addr×Addr×Int×Unit)→WPq):(Int×Addr×Addr×Int×Int×Int×Unit)→World→Prop:=arZ (fun k2 s w=>nibble_halves.b2 R k1 k2 s.1 s.2.1 s.2.2.1 s.2.2.2.1 s.2.2.2.2.1 s.2.2.2.2.2.1 w)
def nibble_halves.j2(R:EPq)(k1:(Int×Addr×Addr×Int×Unit)→WPq)(v0:Int)(v2:Addr)(v3:Addr)(v4:Int)(t6:Int)(w:World):Prop:=
 nibble_halves.l2 R k1 (v0,v2,v3,v4,1,t6,()) w
def nibble_halves.j1(R:EPq)(k1:(Int×Addr×Addr×Int×Unit)→WPq)(v0:Int)(v2:Addr)(v3:Addr)(v4:Int)(t6:Int)(w:World):Prop:=
 Held w.drew (fun S39=>Pu Tryz.prog (do eqGuard .shl 3 (.const (.int .i64 1)) (.tmp 16) (.int .i64 1) (.int .i64 v4);binOp .shl 3 (.int .i64 1) (.int .i64 v4)) (.one (.at (.int .i64))) (fun(x40:Int) w41=>
 Pu Tryz.prog (do eqGuard .shl 5 (.const (.int .u8 16)) (.tmp 19) (.int .u8 16) (.int .i64 v4);binOp .shl 5 (.int .u8 16) (.int .i64 v4)) (.one (.at (.int .u8))) (fun(x42:Int) w43=>
 Cl Tryz.prog 113 #[(.int .u8 v0),(.int .u8 x42)] (.one (.at (.int .u8))) (fun(x44:Int) w45=>
 S39 w45∧(Pu Tryz.prog (Instr.indexAt 262 (.pointer (some v3)) (.int .i64 x40)) (.one (.at .addr)) (fun(x46:Addr) w47=>
 Wu Tryz.prog (Instr.storeAt 5 (.pointer (some x46)) (.int .u8 x44)) (fun w48=>
 S39 w48∧(nibble_halves.j2 R k1 v0 v2 v3 v4 t6 w48)) w47) w45)) w43) w41) w.drew)
def nibble_halves.b1(R:EPq)(k1:(Int×Addr×Addr×Int×Unit)→WPq)(v0:Int)(v2:Addr)(v3:Addr)(t6:Int)(w:World):Prop:=
 Cd (decide (t6<4)) (Held w.drew (fun S49=>Pu Tryz.prog (do eqGuard .shl 3 (.const (.int .i64 1)) (.tmp 9) (.int .i64 1) (.int .i64 t6);binOp .shl 3 (.int .i64 1) (.int .i64 t6)) (.one (.at (.int .i64))) (fun(x50:Int) w51=>
 Pu Tryz.prog (do eqGuard .shl 5 (.const (.int .u8 1)) (.tmp 12) (.int .u8 1) (.int .i64 t6);binOp .shl 5 (.int .u8 1) (.int .i64 t6)) (.one (.at (.int .u8))) (fun(x52:Int) w53=>
 Cl Tryz.prog 113 #[(.int .u8 v0),(.int .u8 x52)] (.one (.at (.int .u8))) (fun(x54:Int) w55=>
 S49 w55∧(Pu Tryz.prog (Instr.indexAt 262 (.pointer (some v2)) (.int .i64 x50)) (.one (.at .addr)) (fun(x56:Addr) w57=>
 Wu Tryz.prog (Instr.storeAt 5 (.pointer (some x56)) (.int .u8 x54)) (fun w58=>
 S49 w58∧(nibble_halves.j1 R k1 v0 v2 v3 t6 t6 w58)) w57) w55)) w53) w51) w.drew)) (Held w.drew (fun S59=>RdS Tryz.prog S59 (Instr.loadAt 262 (.pointer (some v2))) (.one (.agg [.int .u8,.int .u8,.int .u8,.int .u8,.int .u8,.int .u8,.int .u8,.int .u8,.int .u8,.int .u8,.int .u8,.int .u8,.int .u8,.int .u8,.int .u8,.int .u8])) (fun x60 w61=>
 RdS Tryz.prog S59 (Instr.loadAt 262 (.pointer (some v3))) (.one (.agg [.int .u8,.int .u8,.int .u8,.int .u8,.int .u8,.int .u8,.int .u8,.int .u8,.int .u8,.int .u8,.int .u8,.int .u8,.int .u8,.int .u8,.int .u8,.int .u8])) (fun x62 w63=>
 Wu Tryz.prog (Instr.storeAt 262 (.pointer (some v2)) (.agg #[(.int .u8 x60.1),(.int .u8 x60.2.1),(.int .u8 x60.2.2.1),(.int .u8 x60.2.2.2.1),(.int .u8 x60.2.2.2.2.1),(.int .u8 x60.2.2.2.2.2.1),(.int .u8 x60.2.2.2.2.2.2.1),(.int .u8 x60.2.2.2.2.2.2.2.1),(.int .u8 x60.2.2.2.2.2.2.2.2.1),(.int .u8 x60.2.2.2.2.2.2.2.2.2.1),(.int .u8 x60.2.2.2.2.2.2.2.2.2.2.1),(.int .u8 x60.2.2.2.2.2.2.2.2.2.2.2.1),(.int .u8 x60.2.2.2.2.2.2.2.2.2.2.2.2.1),(.int .u8 x60.2.2.2.2.2.2.2.2.2.2.2.2.2.1),(.int .u8 x60.2.2.2.2.2.2.2.2.2.2.2.2.2.2.1),(.int .u8 x60.2.2.2.2.2.2.2.2.2.2.2.2.2.2.2.1)])) (fun w64=>
 S59 w64∧(Wu Tryz.prog (Instr.storeAt 262 (.pointer (some v3)) (.agg #[(.int .u8 x62.1),(.int .u8 x62.2.1),(.int .u8 x62.2.2.1),(.int .u8 x62.2.2.2.1),(.int .u8 x62.2.2.2.2.1),(.int .u8 x62.2.2.2.2.2.1),(.int .u8 x62.2.2.2.2.2.2.1),(.int .u8 x62.2.2.2.2.2.2.2.1),(.int .u8 x62.2.2.2.2.2.2.2.2.1),(.int .u8 x62.2.2.2.2.2.2.2.2.2.1),(.int .u8 x62.2.2.2.2.2.2.2.2.2.2.1),(.int .u8 x62.2.2.2.2.2.2.2.2.2.2.2.1),(.int .u8 x62.2.2.2.2.2.2.2.2.2.2.2.2.1),(.int .u8 x62.2.2.2.2.2.2.2.2.2.2.2.2.2.1),(.int .u8 x62.2.2.2.2.2.2.2.2.2.2.2.2.2.2.1),(.int .u8 x62.2.2.2.2.2.2.2.2.2.2.2.2.2.2.2.1)])) (fun w65=>
 S59 w65∧(∃r66:(Int×Int×Int×Int×Int×Int×Int×Int×Int×Int×Int×Int×Int×Int×Int×Int×Unit),(loadVar 262 v2).run Tryz.prog w65=.ok (.agg #[(.int .u8 r66.1),(.int .u8 r66.2.1),(.int .u8 r66.2.2.1),(.int .u8 r66.2.2.2.1),(.int .u8 r66.2.2.2.2.1),(.int .u8 r66.2.2.2.2.2.1),(.int .u8 r66.2.2.2.2.2.2.1),(.int .u8 r66.2.2.2.2.2.2.2.1),(.int .u8 r66.2.2.2.2.2.2.2.2.1),(.int .u8 r66.2.2.2.2.2.2.2.2.2.1),(.int .u8 r66.2.2.2.2.2.2.2.2.2.2.1),(.int .u8 r66.2.2.2.2.2.2.2.2.2.2.2.1),(.int .u8 r66.2.2.2.2.2.2.2.2.2.2.2.2.1),(.int .u8 r66.2.2.2.2.2.2.2.2.2.2.2.2.2.1),(.int .u8 r66.2.2.2.2.2.2.2.2.2.2.2.2.2.2.1),(.int .u8 r66.2.2.2.2.2.2.2.2.2.2.2.2.2.2.2.1)]) w65∧∃r67:(Int×Int×Int×Int×Int×Int×Int×Int×Int×Int×Int×Int×Int×Int×Int×Int×Unit),(loadVar 262 v3).run Tryz.prog w65=.ok (.agg #[(.int .u8 r67.1),(.int .u8 r67.2.1),(.int .u8 r67.2.2.1),(.int .u8 r67.2.2.2.1),(.int .u8 r67.2.2.2.2.1),(.int .u8 r67.2.2.2.2.2.1),(.int .u8 r67.2.2.2.2.2.2.1),(.int .u8 r67.2.2.2.2.2.2.2.1),(.int .u8 r67.2.2.2.2.2.2.2.2.1),(.int .u8 r67.2.2.2.2.2.2.2.2.2.1),(.int .u8 r67.2.2.2.2.2.2.2.2.2.2.1),(.int .u8 r67.2.2.2.2.2.2.2.2.2.2.2.1),(.int .u8 r67.2.2.2.2.2.2.2.2.2.2.2.2.1),(.int .u8 r67.2.2.2.2.2.2.2.2.2.2.2.2.2.1),(.int .u8 r67.2.2.2.2.2.2.2.2.2.2.2.2.2.2.1),(.int .u8 r67.2.2.2.2.2.2.2.2.2.2.2.2.2.2.2.1)]) w65∧R (.returned (.tuple #[(.agg #[(.int .u8 r66.1),(.int .u8 r66.2.1),(.int .u8 r66.2.2.1),(.int .u8 r66.2.2.2.1),(.int .u8 r66.2.2.2.2.1),(.int .u8 r66.2.2.2.2.2.1),(.int .u8 r66.2.2.2.2.2.2.1),(.int .u8 r66.2.2.2.2.2.2.2.1),(.int .u8 r66.2.2.2.2.2.2.2.2.1),(.int .u8 r66.2.2.2.2.2.2.2.2.2.1),(.int .u8 r66.2.2.2.2.2.2.2.2.2.2.1),(.int .u8 r66.2.2.2.2.2.2.2.2.2.2.2.1),(.int .u8 r66.2.2.2.2.2.2.2.2.2.2.2.2.1),(.int .u8 r66.2.2.2.2.2.2.2.2.2.2.2.2.2.1),(.int .u8 r66.2.2.2.2.2.2.2.2.2.2.2.2.2.2.1),(.int .u8 r66.2.2.2.2.2.2.2.2.2.2.2.2.2.2.2.1)]),(.agg #[(.int .u8 r67.1),(.int .u8 r67.2.1),(.int .u8 r67.2.2.1),(.int .u8 r67.2.2.2.1),(.int .u8 r67.2.2.2.2.1),(.int .u8 r67.2.2.2.2.2.1),(.int .u8 r67.2.2.2.2.2.2.1),(.int .u8 r67.2.2.2.2.2.2.2.1),(.int .u8 r67.2.2.2.2.2.2.2.2.1),(.int .u8 r67.2.2.2.2.2.2.2.2.2.1),(.int .u8 r67.2.2.2.2.2.2.2.2.2.2.1),(.int .u8 r67.2.2.2.2.2.2.2.2.2.2.2.1),(.int .u8 r67.2.2.2.2.2.2.2.2.2.2.2.2.1),(.int .u8 r67.2.2.2.2.2.2.2.2.2.2.2.2.2.1),(.int .u8 r67.2.2.2.2.2.2.2.2.2.2.2.2.2.2.1),(.int .u8 r67.2.2.2.2.2.2.2.2.2.2.2.2.2.2.2.1)])])) w65)) w64)) w63) w61) w.drew))
def nibble_halves.l1(R:EPq):(Int×Addr×Addr×Int×Unit)→World→Prop:=arZ (fun k1 s w=>nibble_halves.b1 R k1 s.1 s.2.1 s.2.2.1 s.2.2.2.1 w)
def nibble_halves.M(R:EPq)(v0:Int)(w:World):Prop:=
 Wr Tryz.prog (Instr.alloc 262 true (.tuple #[])) (.one (.at .addr)) (fun(x1:Addr) w2=>
 Wr Tryz.prog (Instr.alloc 262 true (.tuple #[])) (.one (.at .addr)) (fun(x3:Addr) w4=>
 nibble_halves.l1 R (v0,x1,x3,0,()) w4) w2) w
noncomputable def nibble_halves.ann(R:EPq):Ann:=
 .seq (.reg (.op 0 (.wr (.one (.at .addr))) (.op 1 (.wr (.one (.at .addr))) (.done)))) (.seq (.seq (.reg qN1) (.block (.loop [(0,qcB),(2,.at .addr),(3,.at .addr),(6,qcI)] (fun k1 s w=>nibble_halves.b1 R k1 s.1 s.2.1 s.2.2.1 s.2.2.2.1 w) (fun k1=>.seq (.reg qN1) (.seq (.cond (.leaf) (.leaf)) (.seq (.block (.seq (.reg qN2) (.join [(0,qcB),(2,.at .addr),(3,.at .addr),(4,qcI),(6,qcI)] (fun s w=>nibble_halves.j1 R k1 s.1 s.2.1 s.2.2.1 s.2.2.2.1 s.2.2.2.2.1 w) (.regD (.op 0 .now (.op 1 (.pu (.one qcI)) (.op 2 .now (.op 3 .now (.op 4 (.pu (.one qcB)) (.op 5 (.cl (.one qcB)) (.op 6 qpA (.op 7 .wu (.done)))))))))) (.join [(0,qcB),(2,.at .addr),(3,.at .addr),(4,qcI),(6,qcI)] (fun s w=>nibble_halves.j2 R k1 s.1 s.2.1 s.2.2.1 s.2.2.2.1 s.2.2.2.2.1 w) (.regD (.op 0 .now (.op 1 (.pu (.one qcI)) (.op 2 .now (.op 3 .now (.op 4 (.pu (.one qcB)) (.op 5 (.cl (.one qcB)) (.op 6 qpA (.op 7 .wu (.done)))))))))) (.seq (.reg qN1) (.block (.loop [(0,qcB),(2,.at .addr),(3,.at .addr),(4,qcI),(5,qcI),(6,qcI)] (fun k2 s w=>nibble_halves.b2 R k1 k2 s.1 s.2.1 s.2.2.1 s.2.2.2.1 s.2.2.2.2.1 s.2.2.2.2.2.1 w) (fun k2=>.seq (.seq (.reg (.op 0 .now (.op 1 .now (.op 2 (.pu (.one qcI)) (.op 3 .now (.done)))))) (.cond (.leaf) (.leaf))) (.seq (.block (.seq (.regD (.op 0 .now (.op 1 (.pu (.one qcI)) (.op 2 .now (.op 3 .now (.op 4 .now (.op 5 (.pu (.one qcI)) (.op 6 qpA (.op 7 qrB (.op 8 .now (.op 9 qpA (.op 10 qrB (.op 11 .now (.op 12 qpA (.op 13 .wu (.done)))))))))))))))) (.regD (.op 0 .now (.op 1 (.pu (.one qcI)) (.op 2 .now (.op 3 .now (.op 4 .now (.op 5 (.pu (.one qcI)) (.op 6 qpA (.op 7 qrB (.op 8 .now (.op 9 qpA (.op 10 qrB (.op 11 .now (.op 12 qpA (.op 13 .wu (.done)))))))))))))))))) (.reg qN3)))))))))) (.reg qN2))))))) (.seq (.regD (.op 0 (.rd (.one (.agg [.int .u8,.int .u8,.int .u8,.int .u8,.int .u8,.int .u8,.int .u8,.int .u8,.int .u8,.int .u8,.int .u8,.int .u8,.int .u8,.int .u8,.int .u8,.int .u8]))) (.op 1 (.rd (.one (.agg [.int .u8,.int .u8,.int .u8,.int .u8,.int .u8,.int .u8,.int .u8,.int .u8,.int .u8,.int .u8,.int .u8,.int .u8,.int .u8,.int .u8,.int .u8,.int .u8]))) (.op 2 .wu (.op 3 .wu (.done)))))) (.leaf)))
theorem nibble_halves.run(R:EPq)(v0:Int)(w:World)(h:nibble_halves.M R v0 w):Calls Tryz.prog 194 #[(.int .u8 v0)] w R:=by
 refine aaZ bqZ Tryz.func194 (c:=nibble_halves.body) (by kernel_rfl) [.agg [.int .u8,.int .u8,.int .u8,.int .u8,.int .u8,.int .u8,.int .u8,.int .u8,.int .u8,.int .u8,.int .u8,.int .u8,.int .u8,.int .u8,.int .u8,.int .u8],.agg [.int .u8,.int .u8,.int .u8,.int .u8,.int .u8,.int .u8,.int .u8,.int .u8,.int .u8,.int .u8,.int .u8,.int .u8,.int .u8,.int .u8,.int .u8,.int .u8]] (nibble_halves.ann R) 58 Tryz.ntmps194 [.cell 2 262,.cell 3 262] (by kernel_rfl) (Nat.le_of_ble_eq_true (by kernel_rfl)) ?_ ?_
 ·exact⟨tv,⟨⟨tv,(fun k1=>⟨fun s w=>mq,⟨tv,⟨⟨tv,tv⟩,⟨⟨tv,⟨fun s w=>mq,(show Region.noSelect _=true by kernel_rfl),⟨fun s w=>mq,(show Region.noSelect _=true by kernel_rfl),⟨tv,(fun k2=>⟨fun s w=>mq,⟨⟨tv,⟨tv,tv⟩⟩,⟨⟨(show Region.noSelect _=true by kernel_rfl),(show Region.noSelect _=true by kernel_rfl)⟩,tv⟩⟩⟩)⟩⟩⟩⟩,tv⟩⟩⟩⟩)⟩,⟨(show Region.noSelect _=true by kernel_rfl),tv⟩⟩⟩
 ·exact Eq.mp (show nibble_halves.M R v0 w=_ by kernel_rfl) h
noncomputable def sliced_Kernel_MulAdd.body:Code:=(Tryz.f196.body).getD .skip
def sliced_Kernel_MulAdd.M(R:EPq)(v0:(Option Addr))(v1:Int)(v2:Sl)(v3:Sl)(w:World):Prop:=
 Cl Tryz.prog 197 #[(.pointer v0),(.slice v2.base v2.len v2.cap),(.slice v3.base v3.len v3.cap)] (.one (.at (.int .i64))) (fun(x1:Int) w2=>
 Cd (x1 !=0) (R (.returned (.int .i64 x1)) w2) (Cl Tryz.prog 198 #[(.int .u8 v1),(.slice v2.base v2.len v2.cap),(.slice v3.base v3.len v3.cap),(.int .u8 255)] (.tup []) (fun x3 w4=>
 R (.returned (.int .i64 0)) w4) w2)) w
noncomputable def sliced_Kernel_MulAdd.ann(R:EPq):Ann:=
 .seq (.reg qN1) (.seq (.seq (.reg (.op 0 .now (.op 1 .now (.op 2 .now (.op 3 (.cl (.one qcI)) (.op 4 .now (.done))))))) (.seq (.reg qN2) (.cond (.seq (.reg qN2) (.leaf)) (.leaf)))) (.seq (.reg (.op 0 .now (.op 1 .now (.op 2 .now (.op 3 (.cl (.tup [])) (.done)))))) (.seq (.reg qN1) (.leaf))))
theorem sliced_Kernel_MulAdd.run(R:EPq)(v0:(Option Addr))(v1:Int)(v2:Sl)(v3:Sl)(w:World)(h:sliced_Kernel_MulAdd.M R v0 v1 v2 v3 w):Calls Tryz.prog 196 #[(.pointer v0),(.int .u8 v1),(.slice v2.base v2.len v2.cap),(.slice v3.base v3.len v3.cap)] w R:=by
 refine aaZ bqZ Tryz.func196 (c:=sliced_Kernel_MulAdd.body) (by kernel_rfl) [.at (.int .i64)] (sliced_Kernel_MulAdd.ann R) 21 Tryz.ntmps196 [.tmp 8] (by kernel_rfl) (Nat.le_of_ble_eq_true (by kernel_rfl)) ?_ ?_
 ·exact⟨tv,⟨⟨tv,⟨tv,⟨⟨tv,tv⟩,tv⟩⟩⟩,⟨tv,⟨tv,tv⟩⟩⟩⟩
 ·exact Eq.mp (show sliced_Kernel_MulAdd.M R v0 v1 v2 v3 w=_ by kernel_rfl) h
noncomputable def sliced_Kernel_refuses.body:Code:=(Tryz.f197.body).getD .skip
def sliced_Kernel_refuses.M(R:EPq)(v0:(Option Addr))(v1:Sl)(v2:Sl)(w:World):Prop:=
 Pu Tryz.prog (do eqGuard .eql 144 (.tmp 8) (.const (.pointer none)) (.pointer v0) (.pointer none);binOp .eql 144 (.pointer v0) (.pointer none)) (.one (.at .bool)) (fun(x1:Bool) w2=>
 Cd x1 (R (.returned (.int .i64 1)) w2) (Cd (((v1.len:Nat):Int) !=((v2.len:Nat):Int)) (R (.returned (.int .i64 6)) w2) (R (.returned (.int .i64 0)) w2))) w
noncomputable def sliced_Kernel_refuses.ann(R:EPq):Ann:=
 .seq (.reg qN1) (.seq (.block (.seq (.reg (.op 0 .now (.op 1 (.pu (.one (.at .bool))) (.op 2 .now (.done))))) (.cond (.seq (.reg qN1) (.leaf)) (.seq (.reg qN6) (.cond (.seq (.reg qN1) (.leaf)) (.leaf)))))) (.seq (.reg qN1) (.leaf)))
theorem sliced_Kernel_refuses.run(R:EPq)(v0:(Option Addr))(v1:Sl)(v2:Sl)(w:World)(h:sliced_Kernel_refuses.M R v0 v1 v2 w):Calls Tryz.prog 197 #[(.pointer v0),(.slice v1.base v1.len v1.cap),(.slice v2.base v2.len v2.cap)] w R:=by
 refine aaZ bqZ Tryz.func197 (c:=sliced_Kernel_refuses.body) (by kernel_rfl) [.at (.int .i64)] (sliced_Kernel_refuses.ann R) 16 Tryz.ntmps197 [.tmp 6] (by kernel_rfl) (Nat.le_of_ble_eq_true (by kernel_rfl)) ?_ ?_
 ·exact⟨tv,⟨⟨tv,⟨⟨tv,tv⟩,⟨tv,⟨⟨tv,tv⟩,tv⟩⟩⟩⟩,⟨tv,tv⟩⟩⟩
 ·exact Eq.mp (show sliced_Kernel_refuses.M R v0 v1 v2 w=_ by kernel_rfl) h
noncomputable def sliced_run.body:Code:=(Tryz.f198.body).getD .skip
def sliced_run.j1(R:EPq)(k1:(Sl×Sl×Int×Addr×Int×Int×Unit)→WPq)(v1:Sl)(v2:Sl)(v3:Int)(v8:Addr)(v9:Int)(v10:Int)(v11:Int)(w:World):Prop:=
 Pu Tryz.prog (Instr.sliceAt 24 (.slice v1.base v1.len v1.cap) (some (.int .i64 v10)) none none) (.one (.at .sl)) (fun(x12:Sl) w13=>
 Cl Tryz.prog 202 #[(.slice x12.base x12.len x12.cap),(.int .u64 v11)] (.tup []) (fun x14 w15=>
 k1 (v1,v2,v3,v8,v9,(IntKind.wrap .i64 (v10+8)),()) w15) w13) w
def sliced_run.b1(R:EPq)(k1:(Sl×Sl×Int×Addr×Int×Int×Unit)→WPq)(v1:Sl)(v2:Sl)(v3:Int)(v8:Addr)(v9:Int)(v10:Int)(w:World):Prop:=
 Cd (decide (v10<v9)) (Pu Tryz.prog (Instr.sliceAt 24 (.slice v2.base v2.len v2.cap) (some (.int .i64 v10)) none none) (.one (.at .sl)) (fun(x6:Sl) w7=>
 Cl Tryz.prog 201 #[(.slice x6.base x6.len x6.cap)] (.one (.at (.int .u64))) (fun(x8:Int) w9=>
 Cl Tryz.prog 200 #[(.pointer (some v8)),(.int .u64 x8)] (.one (.at (.int .u64))) (fun(x10:Int) w11=>
 Cd (v3 !=0) (Pu Tryz.prog (Instr.sliceAt 24 (.slice v1.base v1.len v1.cap) (some (.int .i64 v10)) none none) (.one (.at .sl)) (fun(x16:Sl) w17=>
 Cl Tryz.prog 201 #[(.slice x16.base x16.len x16.cap)] (.one (.at (.int .u64))) (fun(x18:Int) w19=>
 sliced_run.j1 R k1 v1 v2 v3 v8 v9 v10 (bXor .u64 x10 x18) w19) w17) w11) (sliced_run.j1 R k1 v1 v2 v3 v8 v9 v10 x10 w11)) w9) w7) w) (Held w.drew (fun S20=>Pu Tryz.prog (Instr.sliceAt 24 (.slice v1.base v1.len v1.cap) (some (.int .i64 v9)) none none) (.one (.at .sl)) (fun(x21:Sl) w22=>
 Pu Tryz.prog (Instr.sliceAt 24 (.slice v2.base v2.len v2.cap) (some (.int .i64 v9)) none none) (.one (.at .sl)) (fun(x23:Sl) w24=>
 Cl Tryz.prog 203 #[(.pointer (some v8)),(.slice x21.base x21.len x21.cap),(.slice x23.base x23.len x23.cap),(.int .u8 v3)] (.tup []) (fun x25 w26=>
 S20 w26∧(R (.returned (.tuple #[])) w26)) w24) w22) w.drew))
def sliced_run.l1(R:EPq):(Sl×Sl×Int×Addr×Int×Int×Unit)→World→Prop:=arZ (fun k1 s w=>sliced_run.b1 R k1 s.1 s.2.1 s.2.2.1 s.2.2.2.1 s.2.2.2.2.1 s.2.2.2.2.2.1 w)
def sliced_run.M(R:EPq)(v0:Int)(v1:Sl)(v2:Sl)(v3:Int)(w:World):Prop:=
 Cl Tryz.prog 199 #[(.int .u8 v0)] (.one (.agg [.int .u8,.int .u8,.int .u8,.int .u8,.int .u8,.int .u8,.int .u8,.int .u8])) (fun x1 w2=>
 Wr Tryz.prog (Instr.alloc 266 true (.tuple #[])) (.one (.at .addr)) (fun(x3:Addr) w4=>
 Wu Tryz.prog (Instr.storeAt 266 (.pointer (some x3)) (.agg #[(.int .u8 x1.1),(.int .u8 x1.2.1),(.int .u8 x1.2.2.1),(.int .u8 x1.2.2.2.1),(.int .u8 x1.2.2.2.2.1),(.int .u8 x1.2.2.2.2.2.1),(.int .u8 x1.2.2.2.2.2.2.1),(.int .u8 x1.2.2.2.2.2.2.2.1)])) (fun w5=>
 sliced_run.l1 R (v1,v2,v3,x3,(IntKind.wrap .i64 ((IntKind.wrap .i64 (Int.tdiv ((v2.len:Nat):Int) 8))*8)),0,()) w5) w4) w2) w
noncomputable def sliced_run.ann(R:EPq):Ann:=
 .seq (.reg (.op 0 .now (.op 1 (.cl (.one (.agg [.int .u8,.int .u8,.int .u8,.int .u8,.int .u8,.int .u8,.int .u8,.int .u8]))) (.op 2 (.wr (.one (.at .addr))) (.op 3 .wu (.done)))))) (.seq (.reg qN5) (.seq (.seq (.reg qN1) (.block (.loop [(1,qcS),(2,qcS),(3,qcB),(8,.at .addr),(9,qcI),(10,qcI)] (fun k1 s w=>sliced_run.b1 R k1 s.1 s.2.1 s.2.2.1 s.2.2.2.1 s.2.2.2.2.1 s.2.2.2.2.2.1 w) (fun k1=>.seq (.seq (.reg qN3) (.cond (.leaf) (.leaf))) (.seq (.block (.seq (.reg (.op 0 .now (.op 1 .now (.op 2 (.pu (.one qcS)) (.op 3 (.cl (.one (.at (.int .u64)))) (.op 4 (.cl (.one (.at (.int .u64)))) (.op 5 .now (.done)))))))) (.join [(1,qcS),(2,qcS),(3,qcB),(8,.at .addr),(9,qcI),(10,qcI),(11,.at (.int .u64))] (fun s w=>sliced_run.j1 R k1 s.1 s.2.1 s.2.2.1 s.2.2.2.1 s.2.2.2.2.1 s.2.2.2.2.2.1 s.2.2.2.2.2.2.1 w) (.seq (.reg qN2) (.cond (.reg (.op 0 .now (.op 1 .now (.op 2 .now (.op 3 (.pu (.one qcS)) (.op 4 (.cl (.one (.at (.int .u64)))) (.op 5 .now (.op 6 .now (.done))))))))) (.leaf))) (.reg (.op 0 .now (.op 1 .now (.op 2 (.pu (.one qcS)) (.op 3 .now (.op 4 (.cl (.tup [])) (.done)))))))))) (.reg qN3)))))) (.regD (.op 0 .now (.op 1 .now (.op 2 (.pu (.one qcS)) (.op 3 .now (.op 4 .now (.op 5 (.pu (.one qcS)) (.op 6 .now (.op 7 (.cl (.tup [])) (.done))))))))))))
theorem sliced_run.run(R:EPq)(v0:Int)(v1:Sl)(v2:Sl)(v3:Int)(w:World)(h:sliced_run.M R v0 v1 v2 v3 w):Calls Tryz.prog 198 #[(.int .u8 v0),(.slice v1.base v1.len v1.cap),(.slice v2.base v2.len v2.cap),(.int .u8 v3)] w R:=by
 refine aaZ bqZ Tryz.func198 (c:=sliced_run.body) (by kernel_rfl) [] (sliced_run.ann R) 49 Tryz.ntmps198 [] (by kernel_rfl) (Nat.le_of_ble_eq_true (by kernel_rfl)) ?_ ?_
 ·exact⟨tv,⟨tv,⟨⟨tv,(fun k1=>⟨fun s w=>mq,⟨⟨tv,⟨tv,tv⟩⟩,⟨⟨tv,⟨fun s w=>mq,⟨tv,⟨tv,tv⟩⟩,tv⟩⟩,tv⟩⟩⟩)⟩,(show Region.noSelect _=true by kernel_rfl)⟩⟩⟩
 ·exact Eq.mp (show sliced_run.M R v0 v1 v2 v3 w=_ by kernel_rfl) h
noncomputable def sliced_columns.body:Code:=(Tryz.f199.body).getD .skip
def sliced_columns.b1(R:EPq)(k1:(Int×Addr×Addr×Int×Unit)→WPq)(v0:Int)(t2:Addr)(v3:Addr)(t5:Int)(w:World):Prop:=
 Cd (decide (t5<8)) (Pu Tryz.prog (Instr.indexAt 266 (.pointer (some v3)) (.int .i64 t5)) (.one (.at .addr)) (fun(x5:Addr) w6=>
 Wu Tryz.prog (Instr.storeAt 5 (.pointer (some x5)) (.int .u8 v0)) (fun w7=>
 Cl Tryz.prog 113 #[(.int .u8 v0),(.int .u8 2)] (.one (.at (.int .u8))) (fun(x8:Int) w9=>
 k1 (x8,t2,v3,(IntKind.wrap .i64 (t5+1)),()) w9) w7) w6) w) (Rd Tryz.prog (Instr.loadAt 266 (.pointer (some v3))) (.one (.agg [.int .u8,.int .u8,.int .u8,.int .u8,.int .u8,.int .u8,.int .u8,.int .u8])) (fun x10 w11=>
 Wu Tryz.prog (Instr.storeAt 266 (.pointer (some t2)) (.agg #[(.int .u8 x10.1),(.int .u8 x10.2.1),(.int .u8 x10.2.2.1),(.int .u8 x10.2.2.2.1),(.int .u8 x10.2.2.2.2.1),(.int .u8 x10.2.2.2.2.2.1),(.int .u8 x10.2.2.2.2.2.2.1),(.int .u8 x10.2.2.2.2.2.2.2.1)])) (fun w12=>
 ∃r13:(Int×Int×Int×Int×Int×Int×Int×Int×Unit),(loadVar 266 t2).run Tryz.prog w12=.ok (.agg #[(.int .u8 r13.1),(.int .u8 r13.2.1),(.int .u8 r13.2.2.1),(.int .u8 r13.2.2.2.1),(.int .u8 r13.2.2.2.2.1),(.int .u8 r13.2.2.2.2.2.1),(.int .u8 r13.2.2.2.2.2.2.1),(.int .u8 r13.2.2.2.2.2.2.2.1)]) w12∧R (.returned (.agg #[(.int .u8 r13.1),(.int .u8 r13.2.1),(.int .u8 r13.2.2.1),(.int .u8 r13.2.2.2.1),(.int .u8 r13.2.2.2.2.1),(.int .u8 r13.2.2.2.2.2.1),(.int .u8 r13.2.2.2.2.2.2.1),(.int .u8 r13.2.2.2.2.2.2.2.1)])) w12) w11) w)
def sliced_columns.l1(R:EPq):(Int×Addr×Addr×Int×Unit)→World→Prop:=arZ (fun k1 s w=>sliced_columns.b1 R k1 s.1 s.2.1 s.2.2.1 s.2.2.2.1 w)
def sliced_columns.M(R:EPq)(v0:Int)(w:World):Prop:=
 Wr Tryz.prog (Instr.alloc 266 true (.tuple #[])) (.one (.at .addr)) (fun(x1:Addr) w2=>
 Wr Tryz.prog (Instr.alloc 266 true (.tuple #[])) (.one (.at .addr)) (fun(x3:Addr) w4=>
 sliced_columns.l1 R (v0,x1,x3,0,()) w4) w2) w
noncomputable def sliced_columns.ann(R:EPq):Ann:=
 .seq (.reg (.op 0 (.wr (.one (.at .addr))) (.done))) (.seq (.reg (.op 0 (.wr (.one (.at .addr))) (.done))) (.seq (.seq (.reg qN1) (.block (.loop [(0,qcB),(2,.at .addr),(3,.at .addr),(5,qcI)] (fun k1 s w=>sliced_columns.b1 R k1 s.1 s.2.1 s.2.2.1 s.2.2.2.1 w) (fun k1=>.seq (.reg qN1) (.seq (.cond (.leaf) (.leaf)) (.seq (.block (.seq (.reg qN2) (.seq (.reg (.op 0 .now (.op 1 .now (.op 2 qpA (.op 3 .wu (.done)))))) (.reg (.op 0 .now (.op 1 (.cl (.one qcB)) (.op 2 .now (.done)))))))) (.reg qN2))))))) (.seq (.reg (.op 0 (.rd (.one (.agg [.int .u8,.int .u8,.int .u8,.int .u8,.int .u8,.int .u8,.int .u8,.int .u8]))) (.op 1 .wu (.done)))) (.leaf))))
theorem sliced_columns.run(R:EPq)(v0:Int)(w:World)(h:sliced_columns.M R v0 w):Calls Tryz.prog 199 #[(.int .u8 v0)] w R:=by
 refine aaZ bqZ Tryz.func199 (c:=sliced_columns.body) (by kernel_rfl) [.agg [.int .u8,.int .u8,.int .u8,.int .u8,.int .u8,.int .u8,.int .u8,.int .u8]] (sliced_columns.ann R) 15 Tryz.ntmps199 [.cell 2 266] (by kernel_rfl) (Nat.le_of_ble_eq_true (by kernel_rfl)) ?_ ?_
 ·exact⟨tv,⟨tv,⟨⟨tv,(fun k1=>⟨fun s w=>mq,⟨tv,⟨⟨tv,tv⟩,⟨⟨tv,⟨tv,tv⟩⟩,tv⟩⟩⟩⟩)⟩,⟨tv,tv⟩⟩⟩⟩
 ·exact Eq.mp (show sliced_columns.M R v0 w=_ by kernel_rfl) h
noncomputable def sliced_word.body:Code:=(Tryz.f200.body).getD .skip
def sliced_word.b1(R:EPq)(k1:(Int×Int×(Option Addr)×Int×Unit)→WPq)(v1:Int)(v5:Int)(t9:(Option Addr))(t10:Int)(w:World):Prop:=
 Cd (decide (t10<8)) (Pu Tryz.prog (amZ t9) (.one (.at .addr)) (fun(x1:Addr) w2=>
 Pu Tryz.prog (Instr.indexAt 266 (.pointer (some x1)) (.int .i64 t10)) (.one (.at .addr)) (fun(x3:Addr) w4=>
 RdS Tryz.prog (Same w.drew) (Instr.loadAt 5 (.pointer (some x3))) (.one (.at (.int .u8))) (fun(x5:Int) w6=>
 Pu Tryz.prog (do eqGuard .shr 227 (.tmp 16) (.tmp 17) (.int .u64 v1) (.int .i64 t10);binOp .shr 227 (.int .u64 v1) (.int .i64 t10)) (.one (.at (.int .u64))) (fun(x7:Int) w8=>
 k1 (v1,(bXor .u64 v5 (bAnd .u64 (IntKind.wrap .u64 ((bAnd .u64 x7 72340172838076673)*255)) (IntKind.wrap .u64 ((IntKind.wrap .u64 x5)*72340172838076673)))),t9,(IntKind.wrap .i64 (t10+1)),()) w8) w6) w4) w2) w.drew) (R (.returned (.int .u64 v5)) w)
def sliced_word.l1(R:EPq):(Int×Int×(Option Addr)×Int×Unit)→World→Prop:=arZ (fun k1 s w=>sliced_word.b1 R k1 s.1 s.2.1 s.2.2.1 s.2.2.2.1 w)
def sliced_word.M(R:EPq)(v0:(Option Addr))(v1:Int)(w:World):Prop:=
 sliced_word.l1 R (v1,0,v0,0,()) w
noncomputable def sliced_word.ann(R:EPq):Ann:=
 .seq (.reg qN1) (.seq (.reg qN1) (.seq (.seq (.reg qN2) (.block (.loop [(1,.at (.int .u64)),(5,.at (.int .u64)),(9,qcP),(10,qcI)] (fun k1 s w=>sliced_word.b1 R k1 s.1 s.2.1 s.2.2.1 s.2.2.2.1 w) (fun k1=>.seq (.reg qN1) (.seq (.cond (.leaf) (.leaf)) (.seq (.block (.seq (.regQ (.op 0 .now (.op 1 qpA (.op 2 qpA (.op 3 qrB (.op 4 .now (.op 5 .now (.done)))))))) (.seq (.reg (.op 0 .now (.op 1 .now (.op 2 (.pu (.one (.at (.int .u64)))) (.op 3 .now (.op 4 .now (.op 5 .now (.done)))))))) (.reg (.op 0 .now (.op 1 .now (.op 2 .now (.op 3 .now (.op 4 .now (.op 5 .now (.op 6 .now (.op 7 .now (.done))))))))))))) (.reg qN2))))))) (.seq (.reg qN2) (.leaf))))
theorem sliced_word.run(R:EPq)(v0:(Option Addr))(v1:Int)(w:World)(h:sliced_word.M R v0 v1 w):Calls Tryz.prog 200 #[(.pointer v0),(.int .u64 v1)] w R:=by
 refine aaZ bqZ Tryz.func200 (c:=sliced_word.body) (by kernel_rfl) [.at (.int .u64)] (sliced_word.ann R) 30 Tryz.ntmps200 [.tmp 4] (by kernel_rfl) (Nat.le_of_ble_eq_true (by kernel_rfl)) ?_ ?_
 ·exact⟨tv,⟨tv,⟨⟨tv,(fun k1=>⟨fun s w=>mq,⟨tv,⟨⟨tv,tv⟩,⟨⟨(show Region.noSelect _=true by kernel_rfl),⟨tv,tv⟩⟩,tv⟩⟩⟩⟩)⟩,⟨tv,tv⟩⟩⟩⟩
 ·exact Eq.mp (show sliced_word.M R v0 v1 w=_ by kernel_rfl) h
noncomputable def sliced_load.body:Code:=(Tryz.f201.body).getD .skip
def sliced_load.b1(R:EPq)(k1:(Sl×Int×Int×Unit)→WPq)(v0:Sl)(v3:Int)(v4:Int)(w:World):Prop:=
 Cd (decide (v4≥0)) (Pu Tryz.prog (Instr.indexAt 24 (.slice v0.base v0.len v0.cap) (.int .i64 v4)) (.one (.at .addr)) (fun(x1:Addr) w2=>
 Rd Tryz.prog (Instr.loadAt 5 (.pointer (some x1))) (.one (.at (.int .u8))) (fun(x3:Int) w4=>
 k1 (v0,(bOr .u64 (shL .u64 v3 8) (IntKind.wrap .u64 x3)),(IntKind.wrap .i64 (v4-1)),()) w4) w2) w) (R (.returned (.int .u64 v3)) w)
def sliced_load.l1(R:EPq):(Sl×Int×Int×Unit)→World→Prop:=arZ (fun k1 s w=>sliced_load.b1 R k1 s.1 s.2.1 s.2.2.1 w)
def sliced_load.M(R:EPq)(v0:Sl)(w:World):Prop:=
 sliced_load.l1 R (v0,0,7,()) w
noncomputable def sliced_load.ann(R:EPq):Ann:=
 .seq (.reg qN1) (.seq (.reg qN1) (.seq (.seq (.reg qN1) (.block (.loop [(0,qcS),(3,.at (.int .u64)),(4,qcI)] (fun k1 s w=>sliced_load.b1 R k1 s.1 s.2.1 s.2.2.1 w) (fun k1=>.seq (.seq (.reg qN2) (.cond (.leaf) (.leaf))) (.seq (.block (.reg (.op 0 .now (.op 1 .now (.op 2 .now (.op 3 .now (.op 4 qpA (.op 5 qrB (.op 6 .now (.op 7 .now (.op 8 .now (.done)))))))))))) (.reg qN3)))))) (.seq (.reg qN2) (.leaf))))
theorem sliced_load.run(R:EPq)(v0:Sl)(w:World)(h:sliced_load.M R v0 w):Calls Tryz.prog 201 #[(.slice v0.base v0.len v0.cap)] w R:=by
 refine aaZ bqZ Tryz.func201 (c:=sliced_load.body) (by kernel_rfl) [.at (.int .u64)] (sliced_load.ann R) 18 Tryz.ntmps201 [.tmp 2] (by kernel_rfl) (Nat.le_of_ble_eq_true (by kernel_rfl)) ?_ ?_
 ·exact⟨tv,⟨tv,⟨⟨tv,(fun k1=>⟨fun s w=>mq,⟨⟨tv,⟨tv,tv⟩⟩,⟨tv,tv⟩⟩⟩)⟩,⟨tv,tv⟩⟩⟩⟩
 ·exact Eq.mp (show sliced_load.M R v0 w=_ by kernel_rfl) h
noncomputable def sliced_lay.body:Code:=(Tryz.f202.body).getD .skip
def sliced_lay.b1(R:EPq)(k1:(Sl×Int×Int×Unit)→WPq)(v0:Sl)(v1:Int)(t5:Int)(w:World):Prop:=
 Cd (decide (t5<8)) (Pu Tryz.prog (do eqGuard .shr 227 (.tmp 10) (.tmp 12) (.int .u64 v1) (.int .i64 (IntKind.wrap .i64 (8*t5)));binOp .shr 227 (.int .u64 v1) (.int .i64 (IntKind.wrap .i64 (8*t5)))) (.one (.at (.int .u64))) (fun(x1:Int) w2=>
 Pu Tryz.prog (Instr.indexAt 24 (.slice v0.base v0.len v0.cap) (.int .i64 t5)) (.one (.at .addr)) (fun(x3:Addr) w4=>
 Wu Tryz.prog (Instr.storeAt 5 (.pointer (some x3)) (.int .u8 (IntKind.wrap .u8 x1))) (fun w5=>
 k1 (v0,v1,(IntKind.wrap .i64 (t5+1)),()) w5) w4) w2) w) (R (.returned (.tuple #[])) w)
def sliced_lay.l1(R:EPq):(Sl×Int×Int×Unit)→World→Prop:=arZ (fun k1 s w=>sliced_lay.b1 R k1 s.1 s.2.1 s.2.2.1 w)
def sliced_lay.M(R:EPq)(v0:Sl)(v1:Int)(w:World):Prop:=
 sliced_lay.l1 R (v0,v1,0,()) w
noncomputable def sliced_lay.ann(R:EPq):Ann:=
 .seq (.reg qN1) (.block (.loop [(0,qcS),(1,.at (.int .u64)),(5,qcI)] (fun k1 s w=>sliced_lay.b1 R k1 s.1 s.2.1 s.2.2.1 w) (fun k1=>.seq (.reg qN1) (.seq (.cond (.leaf) (.leaf)) (.seq (.block (.seq (.reg qN2) (.reg (.op 0 .now (.op 1 .now (.op 2 .now (.op 3 .now (.op 4 .now (.op 5 (.pu (.one (.at (.int .u64)))) (.op 6 .now (.op 7 qpA (.op 8 .wu (.done))))))))))))) (.reg qN2))))))
theorem sliced_lay.run(R:EPq)(v0:Sl)(v1:Int)(w:World)(h:sliced_lay.M R v0 v1 w):Calls Tryz.prog 202 #[(.slice v0.base v0.len v0.cap),(.int .u64 v1)] w R:=by
 refine aaZ bqZ Tryz.func202 (c:=sliced_lay.body) (by kernel_rfl) [] (sliced_lay.ann R) 17 Tryz.ntmps202 [] (by kernel_rfl) (Nat.le_of_ble_eq_true (by kernel_rfl)) ?_ ?_
 ·exact⟨tv,(fun k1=>⟨fun s w=>mq,⟨tv,⟨⟨tv,tv⟩,⟨⟨tv,tv⟩,tv⟩⟩⟩⟩)⟩
 ·exact Eq.mp (show sliced_lay.M R v0 v1 w=_ by kernel_rfl) h
noncomputable def sliced_tail.body:Code:=(Tryz.f203.body).getD .skip
def sliced_tail.j1(R:EPq)(v8:Value)(w:World):Prop:=
 Nx Tryz.prog (do let d ←Deferred.ofValue v8 #[(.int .i64 0)];invoke d.target d.args) (.tup []) (fun x11 w12=>
 R (.returned (.tuple #[])) w12) w
def sliced_tail.j2(R:EPq)(v8:Value)(w:World):Prop:=
 Nx Tryz.prog (do let d ←Deferred.ofValue v8 #[(.int .i64 1)];invoke d.target d.args) (.tup []) (fun x13 w14=>
 sliced_tail.j1 R v8 w14) w
def sliced_tail.j3(R:EPq)(v8:Value)(w:World):Prop:=
 Nx Tryz.prog (do let d ←Deferred.ofValue v8 #[(.int .i64 2)];invoke d.target d.args) (.tup []) (fun x15 w16=>
 sliced_tail.j2 R v8 w16) w
def sliced_tail.j4(R:EPq)(v8:Value)(w:World):Prop:=
 Nx Tryz.prog (do let d ←Deferred.ofValue v8 #[(.int .i64 3)];invoke d.target d.args) (.tup []) (fun x17 w18=>
 sliced_tail.j3 R v8 w18) w
def sliced_tail.j5(R:EPq)(v8:Value)(w:World):Prop:=
 Nx Tryz.prog (do let d ←Deferred.ofValue v8 #[(.int .i64 4)];invoke d.target d.args) (.tup []) (fun x19 w20=>
 sliced_tail.j4 R v8 w20) w
def sliced_tail.j6(R:EPq)(v8:Value)(w:World):Prop:=
 Nx Tryz.prog (do let d ←Deferred.ofValue v8 #[(.int .i64 5)];invoke d.target d.args) (.tup []) (fun x21 w22=>
 sliced_tail.j5 R v8 w22) w
def sliced_tail.M(R:EPq)(v0:(Option Addr))(v1:Sl)(v2:Sl)(v3:Int)(w:World):Prop:=
 Wr Tryz.prog (Instr.box 269 (.pointer v0)) (.one (.at .addr)) (fun(x1:Addr) w2=>
 Wr Tryz.prog (Instr.box 24 (.slice v1.base v1.len v1.cap)) (.one (.at .addr)) (fun(x3:Addr) w4=>
 Wr Tryz.prog (Instr.box 24 (.slice v2.base v2.len v2.cap)) (.one (.at .addr)) (fun(x5:Addr) w6=>
 Wr Tryz.prog (Instr.box 5 (.int .u8 v3)) (.one (.at .addr)) (fun(x7:Addr) w8=>
 Rd Tryz.prog (Instr.loadAt 24 (.pointer (some x5))) (.one (.at .sl)) (fun(x9:Sl) w10=>
 Cd (((x9.len:Nat):Int)==7) (Cl Tryz.prog 204 #[(.int .i64 6),(.pointer (some x3)),(.pointer (some x7)),(.pointer (some x1)),(.pointer (some x5))] (.tup []) (fun x23 w24=>
 sliced_tail.j6 R (.func (.func 204) #[] #[(.pointer (some x3)),(.pointer (some x7)),(.pointer (some x1)),(.pointer (some x5))]) w24) w10) (Cd (((x9.len:Nat):Int)==6) (sliced_tail.j6 R (.func (.func 204) #[] #[(.pointer (some x3)),(.pointer (some x7)),(.pointer (some x1)),(.pointer (some x5))]) w10) (Cd (((x9.len:Nat):Int)==5) (sliced_tail.j5 R (.func (.func 204) #[] #[(.pointer (some x3)),(.pointer (some x7)),(.pointer (some x1)),(.pointer (some x5))]) w10) (Cd (((x9.len:Nat):Int)==4) (sliced_tail.j4 R (.func (.func 204) #[] #[(.pointer (some x3)),(.pointer (some x7)),(.pointer (some x1)),(.pointer (some x5))]) w10) (Cd (((x9.len:Nat):Int)==3) (sliced_tail.j3 R (.func (.func 204) #[] #[(.pointer (some x3)),(.pointer (some x7)),(.pointer (some x1)),(.pointer (some x5))]) w10) (Cd (((x9.len:Nat):Int)==2) (sliced_tail.j2 R (.func (.func 204) #[] #[(.pointer (some x3)),(.pointer (some x7)),(.pointer (some x1)),(.pointer (some x5))]) w10) (Cd (((x9.len:Nat):Int)==1) (sliced_tail.j1 R (.func (.func 204) #[] #[(.pointer (some x3)),(.pointer (some x7)),(.pointer (some x1)),(.pointer (some x5))]) w10) (R (.returned (.tuple #[])) w10)))))))) w8) w6) w4) w2) w
noncomputable def sliced_tail.ann(R:EPq):Ann:=
 .seq (.reg (.op 0 (.wr (.one (.at .addr))) (.op 1 (.wr (.one (.at .addr))) (.op 2 (.wr (.one (.at .addr))) (.op 3 (.wr (.one (.at .addr))) (.done)))))) (.seq (.reg qN2) (.seq (.reg (.op 0 qrS (.op 1 .now (.done)))) (.block (.join [(8,.at .any)] (fun s w=>sliced_tail.j1 R s.1 w) (.block (.join [(8,.at .any)] (fun s w=>sliced_tail.j2 R s.1 w) (.block (.join [(8,.at .any)] (fun s w=>sliced_tail.j3 R s.1 w) (.block (.join [(8,.at .any)] (fun s w=>sliced_tail.j4 R s.1 w) (.block (.join [(8,.at .any)] (fun s w=>sliced_tail.j5 R s.1 w) (.block (.join [(8,.at .any)] (fun s w=>sliced_tail.j6 R s.1 w) (.block (.seq (.block (.seq (.seq (.seq (.reg qN2) (.cond (.leaf) (.leaf))) (.seq (.seq (.reg qN2) (.cond (.leaf) (.leaf))) (.seq (.seq (.reg qN2) (.cond (.leaf) (.leaf))) (.seq (.seq (.reg qN2) (.cond (.leaf) (.leaf))) (.seq (.seq (.reg qN2) (.cond (.leaf) (.leaf))) (.seq (.seq (.reg qN2) (.cond (.leaf) (.leaf))) (.seq (.reg qN2) (.cond (.leaf) (.leaf))))))))) (.leaf))) (.reg (.op 0 .now (.op 1 (.cl (.tup [])) (.done)))))) (.reg (.op 0 .now (.op 1 (.nx (.tup [])) (.done)))))) (.reg (.op 0 .now (.op 1 (.nx (.tup [])) (.done)))))) (.reg (.op 0 .now (.op 1 (.nx (.tup [])) (.done)))))) (.reg (.op 0 .now (.op 1 (.nx (.tup [])) (.done)))))) (.reg (.op 0 .now (.op 1 (.nx (.tup [])) (.done)))))) (.seq (.reg (.op 0 .now (.op 1 (.nx (.tup [])) (.done)))) (.leaf))))))
theorem sliced_tail.run(R:EPq)(v0:(Option Addr))(v1:Sl)(v2:Sl)(v3:Int)(w:World)(h:sliced_tail.M R v0 v1 v2 v3 w):Calls Tryz.prog 203 #[(.pointer v0),(.slice v1.base v1.len v1.cap),(.slice v2.base v2.len v2.cap),(.int .u8 v3)] w R:=by
 refine aaZ bqZ Tryz.func203 (c:=sliced_tail.body) (by kernel_rfl) [] (sliced_tail.ann R) 40 Tryz.ntmps203 [] (by kernel_rfl) (Nat.le_of_ble_eq_true (by kernel_rfl)) ?_ ?_
 ·exact⟨tv,⟨tv,⟨tv,⟨fun s w=>mq,⟨fun s w=>mq,⟨fun s w=>mq,⟨fun s w=>mq,⟨fun s w=>mq,⟨fun s w=>mq,⟨⟨⟨⟨tv,⟨tv,tv⟩⟩,⟨⟨tv,⟨tv,tv⟩⟩,⟨⟨tv,⟨tv,tv⟩⟩,⟨⟨tv,⟨tv,tv⟩⟩,⟨⟨tv,⟨tv,tv⟩⟩,⟨⟨tv,⟨tv,tv⟩⟩,⟨tv,⟨tv,tv⟩⟩⟩⟩⟩⟩⟩⟩,tv⟩,tv⟩,tv⟩,tv⟩,tv⟩,tv⟩,tv⟩,⟨tv,tv⟩⟩⟩⟩⟩
 ·exact Eq.mp (show sliced_tail.M R v0 v1 v2 v3 w=_ by kernel_rfl) h
noncomputable def sliced_tail_1.body:Code:=(Tryz.f204.body).getD .skip
def sliced_tail_1.M(R:EPq)(v0:Int)(free_t1:Addr)(free_t2:Addr)(free_t3:Addr)(free_t4:Addr)(w:World):Prop:=
 Held w.drew (fun S1=>RdS Tryz.prog S1 (Instr.loadAt 24 (.pointer (some free_t1))) (.one (.at .sl)) (fun(x2:Sl) w3=>
 RdS Tryz.prog S1 (Instr.loadAt 24 (.pointer (some free_t1))) (.one (.at .sl)) (fun(x4:Sl) w5=>
 Pu Tryz.prog (Instr.indexAt 24 (.slice x4.base x4.len x4.cap) (.int .i64 v0)) (.one (.at .addr)) (fun(x6:Addr) w7=>
 RdS Tryz.prog S1 (Instr.loadAt 5 (.pointer (some free_t2))) (.one (.at (.int .u8))) (fun(x8:Int) w9=>
 RdS Tryz.prog S1 (Instr.loadAt 269 (.pointer (some free_t3))) (.one (.at .ptr)) (fun(x10:(Option Addr)) w11=>
 RdS Tryz.prog S1 (Instr.loadAt 24 (.pointer (some free_t4))) (.one (.at .sl)) (fun(x12:Sl) w13=>
 Pu Tryz.prog (Instr.indexAt 24 (.slice x12.base x12.len x12.cap) (.int .i64 v0)) (.one (.at .addr)) (fun(x14:Addr) w15=>
 RdS Tryz.prog S1 (Instr.loadAt 5 (.pointer (some x14))) (.one (.at (.int .u8))) (fun(x16:Int) w17=>
 (Wr Tryz.prog (Instr.loadAt 5 (.pointer (some x6))) (.one (.at (.int .u8))) (fun(x18:Int) w19=>
 S1 w19∧(Cl Tryz.prog 200 #[(.pointer x10),(.int .u64 (IntKind.wrap .u64 x16))] (.one (.at (.int .u64))) (fun(x20:Int) w21=>
 S1 w21∧(Pu Tryz.prog (Instr.indexAt 24 (.slice x2.base x2.len x2.cap) (.int .i64 v0)) (.one (.at .addr)) (fun(x22:Addr) w23=>
 Wu Tryz.prog (Instr.storeAt 5 (.pointer (some x22)) (.int .u8 (bXor .u8 (bAnd .u8 x18 x8) (IntKind.wrap .u8 x20)))) (fun w24=>
 S1 w24∧(R (.returned (.tuple #[])) w24)) w23) w21)) w19)) w17)∧(Cl Tryz.prog 200 #[(.pointer x10),(.int .u64 (IntKind.wrap .u64 x16))] (.one (.at (.int .u64))) (fun(x25:Int) w26=>
 S1 w26∧(Wr Tryz.prog (Instr.loadAt 5 (.pointer (some x6))) (.one (.at (.int .u8))) (fun(x27:Int) w28=>
 S1 w28∧(Pu Tryz.prog (Instr.indexAt 24 (.slice x2.base x2.len x2.cap) (.int .i64 v0)) (.one (.at .addr)) (fun(x29:Addr) w30=>
 Wu Tryz.prog (Instr.storeAt 5 (.pointer (some x29)) (.int .u8 (bXor .u8 (bAnd .u8 x27 x8) (IntKind.wrap .u8 x25)))) (fun w31=>
 S1 w31∧(R (.returned (.tuple #[])) w31)) w30) w28)) w26)) w17)) w15) w13) w11) w9) w7) w5) w3) w.drew)
noncomputable def sliced_tail_1.ann(R:EPq):Ann:=
 .regD (.op 0 qrS (.op 1 .now (.op 2 qrS (.op 3 .now (.op 4 qpA (.op 6 qrB (.op 8 (.rd (.one qcP)) (.op 9 qrS (.op 10 .now (.op 11 qpA (.op 12 qrB (.op 13 .now (.fork2 5 (.wr (.one qcB)) (.op 7 .now (.op 14 (.cl (.one (.at (.int .u64)))) (.op 15 .now (.op 16 .now (.op 17 qpA (.op 18 .wu (.done))))))) 14 (.cl (.one (.at (.int .u64)))) (.op 15 .now (.op 5 (.wr (.one qcB)) (.op 7 .now (.op 16 .now (.op 17 qpA (.op 18 .wu (.done))))))))))))))))))))
theorem sliced_tail_1.run(R:EPq)(v0:Int)(free_t1:Addr)(free_t2:Addr)(free_t3:Addr)(free_t4:Addr)(w:World)(h:sliced_tail_1.M R v0 free_t1 free_t2 free_t3 free_t4 w):Calls Tryz.prog 204 #[(.int .i64 v0),(.pointer (some free_t1)),(.pointer (some free_t2)),(.pointer (some free_t3)),(.pointer (some free_t4))] w R:=by
 refine aaZ bqZ Tryz.func204 (c:=sliced_tail_1.body) (by kernel_rfl) [] (sliced_tail_1.ann R) 24 Tryz.ntmps204 [] (by kernel_rfl) (Nat.le_of_ble_eq_true (by kernel_rfl)) ?_ ?_
 ·exact(show Region.noSelect _=true by kernel_rfl)
 ·exact Eq.mp (show sliced_tail_1.M R v0 free_t1 free_t2 free_t3 free_t4 w=_ by kernel_rfl) h
noncomputable def kernel_New.body:Code:=(Tryz.f51.body).getD .skip
def kernel_New.j1(R:EPq)(v0:Int)(v4:Value)(w:World):Prop:=
 Pu Tryz.prog (Instr.build 134 #[(0,v4),(1,(.int .i64 v0))]) (.one (.agg [.any,.int .i64])) (fun x1 w2=>
 Wr Tryz.prog (Instr.box 136 (.agg #[x1.1,(.int .i64 x1.2.1)])) (.one (.at .addr)) (fun(x3:Addr) w4=>
 R (.returned (.tuple #[(.pointer (some x3)),(.int .i64 0)])) w4) w2) w
def kernel_New.M(R:EPq)(v0:Int)(w:World):Prop:=
 Cd (v0==0) (Cl Tryz.prog 81 #[] (.one (.at .ptr)) (fun(x5:(Option Addr)) w6=>
 kernel_New.j1 R v0 (.iface 140 (.pointer x5)) w6) w) (Cd (v0==1) (Cl Tryz.prog 82 #[] (.one (.at .ptr)) (fun(x7:(Option Addr)) w8=>
 kernel_New.j1 R v0 (.iface 142 (.pointer x7)) w8) w) (Cd (v0==2) (Cl Tryz.prog 83 #[] (.one (.at .ptr)) (fun(x9:(Option Addr)) w10=>
 kernel_New.j1 R v0 (.iface 144 (.pointer x9)) w10) w) (R (.returned (.tuple #[(.pointer none),(.int .i64 3)])) w)))
noncomputable def kernel_New.ann(R:EPq):Ann:=
 .seq (.reg qN2) (.seq (.reg qN1) (.join [(0,qcI),(4,.at .any)] (fun s w=>kernel_New.j1 R s.1 s.2.1 w) (.seq (.reg qN1) (.block (.seq (.reg qN2) (.cond (.reg (.op 0 (.cl (.one qcP)) (.op 1 .now (.op 2 .now (.done))))) (.seq (.reg qN2) (.cond (.reg (.op 0 (.cl (.one qcP)) (.op 1 .now (.op 2 .now (.done))))) (.seq (.reg qN2) (.cond (.reg (.op 0 (.cl (.one qcP)) (.op 1 .now (.op 2 .now (.done))))) (.seq (.reg qN2) (.leaf)))))))))) (.seq (.reg (.op 0 .now (.op 1 .now (.op 2 (.pu (.one (.agg [.any,.int .i64]))) (.op 3 .now (.op 4 (.wr (.one (.at .addr))) (.op 5 .now (.op 6 .now (.done))))))))) (.leaf))))
theorem kernel_New.run(R:EPq)(v0:Int)(w:World)(h:kernel_New.M R v0 w):Calls Tryz.prog 51 #[(.int .i64 v0)] w R:=by
 refine aaZ bqZ Tryz.func51 (c:=kernel_New.body) (by kernel_rfl) [.at .ptr,.at (.int .i64)] (kernel_New.ann R) 23 Tryz.ntmps51 [.tmp 2,.tmp 3] (by kernel_rfl) (Nat.le_of_ble_eq_true (by kernel_rfl)) ?_ ?_
 ·exact⟨tv,⟨tv,⟨fun s w=>mq,⟨tv,⟨tv,⟨tv,⟨tv,⟨tv,⟨tv,⟨tv,⟨tv,tv⟩⟩⟩⟩⟩⟩⟩⟩,⟨tv,tv⟩⟩⟩⟩
 ·exact Eq.mp (show kernel_New.M R v0 w=_ by kernel_rfl) h
end Go.Proofs.YtbiilejgfihohaaGreat
namespace Go.Proofs.YtbiilejgfihohaaGreat
open Go Go.Cu Go.RowKit
def bFZ(cs:List Value)(o:Nat)(l:List F8):List Value:=cs.take o++l.map f8v++cs.drop (o+l.length)
structure Win(w:World)(s:Sl)(g o:Nat)(cs:List Value)(l:List F8):Prop where
 has:Has w g (bFZ cs o l) 5
 le:o+l.length≤cs.length
 len:s.len=l.length
 cap:s.len≤s.cap
 base:0<l.length→s.base=some ⟨g,o,none⟩
theorem putW_len{cs:List Value}{o:Nat}{l:List F8}(h:o+l.length≤cs.length):(bFZ cs o l).length=cs.length:=by
 unfold bFZ
 rw[List.length_append,List.length_append,List.length_take,List.length_drop,List.length_map];omega
theorem putW_get{cs:List Value}{o:Nat}{l:List F8}{i:Nat}{x:F8}(h:o+l.length≤cs.length)(hx:l[i]? =some x):(bFZ cs o l)[o+i]? =some (f8v x):=by
 have hlt:=(List.getElem?_eq_some_iff.1 hx).1
 unfold bFZ
 rw[List.append_assoc,List.getElem?_append_right (by rw[List.length_take];omega),List.length_take,Nat.min_eq_left (by omega),Nat.add_sub_cancel_left,List.getElem?_append_left (by rw[List.length_map];exact hlt),List.getElem?_map,hx]
 rfl
theorem putW_put{cs:List Value}{o:Nat}{a b:List F8}(h:o+a.length≤cs.length)(e:b.length=a.length):bFZ (bFZ cs o a) o b=bFZ cs o b:=by
 unfold bFZ
 have h1:(cs.take o).length=o:=by rw[List.length_take];omega
 have h2:(cs.take o++a.map f8v).length=o+b.length:=by rw[List.length_append,h1,List.length_map,e]
 rw[List.append_assoc (cs.take o) (a.map f8v),List.take_append_of_le_length (by omega),List.take_take,Nat.min_self,←List.append_assoc (cs.take o) (a.map f8v),List.drop_append,List.drop_of_length_le (by omega),List.nil_append,List.drop_drop]
 congr 2
 omega
theorem putW_set{cs:List Value}{o:Nat}{l:List F8}{i:Nat}{x:F8}(h:o+l.length≤cs.length)(hi:i<l.length):(bFZ cs o l).take (o+i)++[f8v x]++(bFZ cs o l).drop (o+i+1)=bFZ cs o (l.set i x):=by
 have h0:(bFZ cs o l).take (o+i)++[f8v x]++(bFZ cs o l).drop (o+i+1)=(bFZ cs o l).set (o+i) (f8v x):=by
  rw[List.set_eq_take_append_cons_drop,if_pos (by rw[putW_len h];omega),List.append_assoc];rfl
 rw[h0]
 unfold bFZ
 rw[List.append_assoc,List.set_append_right _ _ (by rw[List.length_take];omega),List.length_take,Nat.min_eq_left (by omega),Nat.add_sub_cancel_left,List.set_append_left _ _ (by rw[List.length_map];exact hi),List.length_set,List.map_set,List.append_assoc]
theorem Win.rds{w:World}{s:Sl}{g o:Nat}{cs:List Value}{l:List F8}(h:Win w s g o cs l):Rds f8v w s l:=by
 refine⟨h.len,h.cap,fun i x hi=>?_⟩
 have hlt:=(List.getElem?_eq_some_iff.1 hi).1
 refine⟨_,h.base (by omega),?_⟩
 have:(⟨g,o,none⟩:Addr).add i=⟨g,o+i,none⟩:=by
  unfold Addr.add;split
  ·rename_i e;rw[e];rfl
  ·rfl
 rw[this]
 exact(h.has.cell _).trans (putW_get h.le hi)
theorem Win.mo{X:Nat→Prop}{w w':World}{s:Sl}{g o:Nat}{cs:List Value}{l:List F8}(h:Win w s g o cs l)(m:Mo X w w')(hx:¬X g):Win w' s g o cs l:=⟨h.has.mo m hx,h.le,h.len,h.cap,h.base⟩
theorem Win.ex{w w':World}{s:Sl}{g o:Nat}{cs:List Value}{l:List F8}(h:Win w s g o cs l)(m:Ex w w'):Win w' s g o cs l:=h.mo m id
theorem Win.to{w w':World}{s:Sl}{g o:Nat}{cs:List Value}{l l':List F8}(h:Win w s g o cs l)(e:l'.length=l.length)(hB:Has w' g (bFZ cs o l') 5):Win w' s g o cs l':=⟨hB,by rw[e];exact h.le,by rw[e];exact h.len,h.cap,by rw[e];exact h.base⟩
theorem Wu_win{w:World}{s:Sl}{g o:Nat}{cs:List Value}{l:List F8}{ik:IntKind}{i:Nat}{x:F8}{v:Int}{K:World→Prop}(h:Win w s g o cs l)(hi:i<l.length)(hv:v=(x.toNat:Int))(hk:∀w',Win w' s g o cs (l.set i x)→Mo (fun b=>b=g) w w'→K w'):
  Pu Tryz.prog (Instr.indexAt 24 (.slice s.base s.len s.cap) (.int ik (i:Int))) (.one (.at .addr)) (fun a w1=>Wu Tryz.prog (Instr.storeAt 5 (.pointer (some a)) (.int .u8 v)) K w1) w:=by
 subst hv
 have hb:=h.base (by omega)
 have hadd:(⟨g,o,none⟩:Addr).add (i*1)=⟨g,o+i,none⟩:=by
  rw[Nat.mul_one]
  unfold Addr.add;split
  ·rename_i e;rw[e];rfl
  ·rfl
 refine⟨⟨g,o+i,none⟩,fun w'=>?_,?_⟩
 ·have:=bBZ (P:=Tryz.prog) (s:=s) (ik:=ik) (i:=(i:Int)) (w:=w') tB sB hb (by omega) (by have:=h.len;omega)
  rw[Int.toNat_natCast,hadd]at this
  exact this
 ·refine awZ (v:=f8v x) h.has sB (by intro u hu;obtain rfl:u=f8v x:=(by simpa [Value.cells] using hu);rfl) (by rw[putW_len h.le];show o+i+1≤_;have:=h.le;omega) fun w' hB' hm=>?_
  refine hk w' (h.to (by simp) ?_) hm
  have e:=putW_set (x:=x) h.le hi
  rw[←e]
  exact hB'
theorem Pu_arr{t e:TypeId}{n sz:Nat}{B o:Nat}{ik:IntKind}{i:Nat}{k:Addr→World→Prop}{w:World}(ht:Tryz.prog.underlying t=some (.array n e))(hs:aWZ Tryz.prog e sz=true)(h1:i<n)(hk:k ⟨B,o+i*sz,none⟩ w):
  Pu Tryz.prog (Instr.indexAt t (.pointer (some ⟨B,o,none⟩)) (.int ik (i:Int))) (.one (.at .addr)) k w:=by
 refine⟨_,fun w'=>?_,hk⟩
 have hsz:=run_sizeOf hs w'
 have e:(⟨B,o,none⟩:Addr).add (i*sz)=⟨B,o+i*sz,none⟩:=by
  unfold Addr.add;split
  ·rename_i h;rw[h];rfl
  ·rfl
 simp[Instr.indexAt,asIntOf,run_underlying ht,Instr.sureAddr,h1,hsz,Cx.enc,At.enc,Sh.enc]
 exact e
theorem win_of_own{w:World}{s:Sl}{l:List F8}{base:Nat}(h:Own f8v 5 base w s l)(hl:0<l.length):∃g cs,s.base=at0 g∧base≤g∧cs.length=s.cap∧s.cap≤maxLen∧Win w s g 0 cs l:=by
 obtain⟨g,cs,hsb,hb,hB,hll,hlc,hcm,hcs,htk⟩:=h.inv hl
 have e:bFZ cs 0 l=cs:=by
  unfold bFZ
  rw[List.take_zero,List.nil_append,Nat.zero_add,←htk,List.take_append_drop]
 exact⟨g,cs,hsb,hb,hcs,hcm,⟨by rw[e];exact hB,by omega,hll,hlc,fun _=>hsb⟩⟩
theorem Win.own{w:World}{s:Sl}{g:Nat}{cs:List Value}{l:List F8}{base:Nat}(h:Win w s g 0 cs l)(hsb:s.base=at0 g)(hb:base≤g)(hcs:cs.length=s.cap)(hcm:s.cap≤maxLen):Own f8v 5 base w s l:=by
 refine Own.mk hsb hb h.has h.len h.cap hcm (by rw[putW_len h.le];exact hcs) ?_
 unfold bFZ
 rw[List.take_zero,List.nil_append,List.take_left' (by rw[List.length_map])]
theorem putW_sub{cs:List Value}{o:Nat}{l:List F8}{a b:Nat}(hab:a≤b)(hb:b≤l.length)(h:o+l.length≤cs.length):bFZ cs o l=bFZ (bFZ cs o l) (o+a) ((l.take b).drop a):=by
 have hl:((l.take b).drop a).length=b-a:=by rw[List.length_drop,List.length_take];omega
 have hc:=putW_len h
 refine List.ext_getElem? fun i=>?_
 show(bFZ cs o l)[i]? =((bFZ cs o l).take (o+a)++((l.take b).drop a).map f8v++(bFZ cs o l).drop (o+a+((l.take b).drop a).length))[i]?
 rw[hl]
 by_cases h1:i<o+a
 ·rw[List.append_assoc,List.getElem?_append_left (by rw[List.length_take,hc];omega),List.getElem?_take,if_pos h1]
 ·by_cases h2:i<o+b
  ·rw[List.append_assoc,List.getElem?_append_right (by rw[List.length_take,hc];omega),List.length_take,hc,Nat.min_eq_left (by omega),List.getElem?_append_left (by rw[List.length_map,hl];omega),List.getElem?_map,List.getElem?_drop,List.getElem?_take,if_pos (by omega)]
   have hi:l[i-o]? =some l[i-o]:=List.getElem?_eq_getElem (by omega)
   have:=putW_get h hi
   rw[show o+(i-o)=i by omega]at this
   rw[this,show a+(i-(o+a))=i-o by omega,hi]
   rfl
  ·rw[List.getElem?_append_right (by rw[List.length_append,List.length_take,List.length_map,hl,hc];omega),List.length_append,List.length_take,List.length_map,hl,hc,List.getElem?_drop]
   congr 1
   omega
theorem Win.sub{w:World}{s s':Sl}{g o:Nat}{cs:List Value}{l:List F8}{a b:Nat}(h:Win w s g o cs l)(hab:a≤b)(hb:b≤l.length)(hl:s'.len=b-a)(hc:s'.len≤s'.cap)(hbase:a<b→s'.base=some ⟨g,o+a,none⟩):Win w s' g (o+a) (bFZ cs o l) ((l.take b).drop a):=by
 have e:((l.take b).drop a).length=b-a:=by rw[List.length_drop,List.length_take];omega
 refine⟨by rw[←putW_sub hab hb h.le];exact h.has,by rw[e,putW_len h.le];have:=h.le;omega,by rw[hl,e],hc,fun h0=>hbase (by omega)⟩
end Go.Proofs.YtbiilejgfihohaaGreat
namespace Go.Proofs.YtbiilejgfihohaaGreat
open Go Go.Cu Go.RowKit
theorem step_set{A l:List F8}{i:Nat}{x:F8}(h:A.length=l.length)(hx:A[i]? =some x):(A.take i++l.drop i).set i x=A.take (i+1)++l.drop (i+1):=by
 have hi:=(List.getElem?_eq_some_iff.1 hx).1
 rw[List.set_append_right _ _ (by rw[List.length_take];omega),List.length_take,Nat.min_eq_left (by omega),Nat.sub_self,List.take_succ,hx,List.drop_eq_getElem_cons (by omega:i<l.length),List.set_cons_zero,List.append_assoc]
 rfl
theorem step_get{A l:List F8}{i:Nat}{x:F8}(h:A.length=l.length)(hx:l[i]? =some x):(A.take i++l.drop i)[i]? =some x:=by
 have hi:=(List.getElem?_eq_some_iff.1 hx).1
 rw[List.getElem?_append_right (by rw[List.length_take];omega),List.length_take,Nat.min_eq_left (by omega),Nat.sub_self,List.getElem?_drop]
 exact hx
theorem addM_at{p row:List F8}{c x y:F8}{i:Nat}(hx:row[i]? =some x)(hy:p[i]? =some y):(aUZ p c row)[i]? =some (x ^^^ ahZ c y):=by
 unfold aUZ
 rw[List.getElem?_zipWith,hx,hy]
theorem Pu_win{w:World}{s:Sl}{g o:Nat}{cs:List Value}{l:List F8}{ik:IntKind}{i:Nat}{K:Addr→World→Prop}(h:Win w s g o cs l)(hi:i<l.length)(hk:K ⟨g,o+i,none⟩ w):
  Pu Tryz.prog (Instr.indexAt 24 (.slice s.base s.len s.cap) (.int ik (i:Int))) (.one (.at .addr)) K w:=by
 have hadd:(⟨g,o,none⟩:Addr).add (i*1)=⟨g,o+i,none⟩:=by
  rw[Nat.mul_one]
  unfold Addr.add;split
  ·rename_i e;rw[e];rfl
  ·rfl
 refine⟨⟨g,o+i,none⟩,fun w'=>?_,hk⟩
 have:=bBZ (P:=Tryz.prog) (s:=s) (ik:=ik) (i:=(i:Int)) (w:=w') tB sB (h.base (by omega)) (by omega) (by have:=h.len;omega)
 rw[Int.toNat_natCast,hadd]at this
 exact this
theorem Wr_win{w:World}{s:Sl}{g o:Nat}{cs:List Value}{l:List F8}{i:Nat}{x:F8}{K:Int→World→Prop}(h:Win w s g o cs l)(hx:l[i]? =some x)(hk:K (x.toNat:Int) w):
  Wr Tryz.prog (Instr.loadAt 5 (.pointer (some ⟨g,o+i,none⟩))) (.one (.at (.int .u8))) K w:=
 Wr_of_Rd (ajZ (c:=.int .u8) (x:=(x.toNat:Int)) h.has oB (putW_get h.le hx) hk)
def tabF(i:Nat):Value:=f8v (ahZ (bf (i / 256)) (bf (i % 256)))
def tabC:List Value:=(List.range 65536).map tabF
theorem tabC_at(c x:F8):tabC[c.toNat*256+x.toNat]? =some (f8v (ahZ c x)):=by
 have h1:=c.isLt
 have h2:=x.isLt
 unfold tabC
 rw[List.getElem?_map,List.getElem?_range (by omega)]
 show some (tabF _)=_
 unfold tabF
 have e1:(c.toNat*256+x.toNat) / 256=c.toNat:=by omega
 have e2:(c.toNat*256+x.toNat) % 256=x.toNat:=by omega
 rw[e1,e2]
 unfold bf
 rw[BitVec.ofNat_toNat,BitVec.ofNat_toNat,BitVec.setWidth_eq,BitVec.setWidth_eq]
abbrev TabK(w:World)(kb:Nat):Prop:=Has w kb tabC 181
theorem Pu_notnil{t e:TypeId}{x y:Operand}{a:Addr}{k:Bool→World→Prop}{w:World}(ht:Tryz.prog.underlying t=some (.pointer e))(hk:k false w):
  Pu Tryz.prog (do eqGuard .eql t x y (.pointer (some a)) (.pointer none);binOp .eql t (.pointer (some a)) (.pointer none)) (.one (.at .bool)) k w:=aCZ ht hk
theorem tabref_gv{w:World}{kb:Nat}{s src:Sl}(h:s.len=src.len):Gv Tryz.prog 191 #[.pointer (at0 kb),.slice s.base s.len s.cap,.slice src.base src.len src.cap] (.int .i64 0) w:=by
 refine table_Kernel_refuses.run _ (at0 kb) s src w ?_
 unfold table_Kernel_refuses.M
 refine Pu_notnil (e:=181) (by kernel_rfl) ?_
 refine aAZ (aEZ (fun h'=>by omega) (fun _=>⟨rfl,Ex.refl _⟩))
theorem tab_add{w:World}{kb g o:Nat}{s src:Sl}{cs:List Value}{l ls:List F8}{c:F8}(hK:TabK w kb)(hW:Win w s g o cs l)(hr:Rds f8v w src ls)(hl:ls.length=l.length)(hg:∀b,SlIn src b→b≠g)(hkb:kb≠g)(hm:l.length≤140737488355328):
  Cl Tryz.prog 189 #[.pointer (at0 kb),f8v c,.slice s.base s.len s.cap,.slice src.base src.len src.cap] (.one (.at (.int .i64))) (fun x w'=>x=0∧Win w' s g o cs (aUZ ls c l)∧Mo (fun b=>b=g) w w') w:=by
 refine table_Kernel_MulAdd.run _ (at0 kb) (c.toNat:Int) s src w ?_
 generalize hRR:(fun(e:Ending) (w':World)=>∃x:Int,e=.returned ((Sh.one (.at (.int .i64))).enc x)∧x=0∧Win w' s g o cs (aUZ ls c l)∧Mo (fun b=>b=g) w w')=R
 unfold table_Kernel_MulAdd.M
 have hsl:=hW.len
 have hrl:=hr.1
 have hcl:=c.isLt
 refine auZ (d:=.one (.at (.int .i64))) (x:=0) (tabref_gv (by omega)) fun w1 hx1=>aAZ ?_
 refine agZ ?_
 refine Pu_arr (o:=0) (n:=256) (e:=178) (sz:=256) (by kernel_rfl) (by kernel_rfl) hcl ?_
 rw[Nat.zero_add]
 have hAl:(aUZ ls c l).length=l.length:=by rw[btZ hl.symm,hl]
 unfold table_Kernel_MulAdd.l1
 refine acZ (fun st w'=>∃i:Nat,st=(s,some ⟨kb,c.toNat*256,none⟩,src,((src.len:Nat):Int),(i:Int),())∧i≤l.length∧Win w' s g o cs ((aUZ ls c l).take i++l.drop i)∧Mo (fun b=>b=g) w w') (fun st _=>((src.len:Int)-st.2.2.2.2.1).toNat) ?_
  ⟨0,rfl,Nat.zero_le _,by simpa using hW.ex hx1,hx1.weak (fun _ _ h=>h.elim)⟩
 rintro k _ w2 ⟨i,rfl,hi,hW2,hm2⟩ hk
 unfold table_Kernel_MulAdd.b1
 dsimp only at hk ⊢
 refine abZ (fun hlt=>?_) (fun hge=>?_)
 ·have hil:i<l.length:=by omega
  have hy:ls[i]? =some ls[i]:=List.getElem?_eq_getElem (by omega)
  have hx:l[i]? =some l[i]:=List.getElem?_eq_getElem hil
  have hyl:=(ls[i]).isLt
  have hr2:Rds f8v w2 src ls:=hr.mo hm2 (fun a ha=>hg _ (aYZ ha))
  have hcur:((aUZ ls c l).take i++l.drop i).length=l.length:=by simp[hAl];omega
  refine byZ hr2 hy ?_
  have hW3:=hW2.ex (Ex.drew w2)
  have hT3:TabK w2.drew kb:=Has.mo hK (hm2.ex (Ex.drew w2)) hkb
  refine asZ (fun w'=>TabK w' kb) hT3 ?_
  refine Pu_win hW3 (by omega) ?_
  refine agZ ?_
  refine Pu_arr (n:=256) (e:=5) (sz:=1) (by kernel_rfl) sB hyl ?_
  rw[Nat.mul_one]
  refine akZ (c:=.int .u8) (x:=((ahZ c ls[i]).toNat:Int)) (fun w' h=>h) oB (tabC_at _ _) ?_
  refine Wr_win hW3 (step_get hAl hx) ?_
  refine⟨hT3,?_⟩
  rw[bXor_f8]
  refine Wu_win hW3 (by omega) rfl fun w4 hW4 hm4=>?_
  refine⟨Has.mo hT3 hm4 hkb,?_⟩
  rw[step_set hAl (addM_at hx hy)]at hW4
  rw[adZ (by omega) (by omega),show(i:Int)+1=((i+1:Nat):Int) by omega]
  exact hk _ _ ⟨i+1,rfl,by omega,hW4,Mo.trans (hm2.ex (Ex.drew w2)) hm4 (fun _=>id) (fun _ _=>id)⟩ (by dsimp only;omega)
 ·have hil:i=l.length:=by omega
  subst hil
  subst hRR
  rw[List.drop_length,List.append_nil,List.take_of_length_le (by omega)]at hW2
  exact⟨0,rfl,rfl,hW2,hm2⟩
def zz0:List Value:=[.int .u8 0,.int .u8 0,.int .u8 0,.int .u8 0,.int .u8 0,.int .u8 0,.int .u8 0,.int .u8 0,.int .u8 0,.int .u8 0,.int .u8 0,.int .u8 0,.int .u8 0,.int .u8 0,.int .u8 0,.int .u8 0,.int .u8 0,.int .u8 0,.int .u8 0,.int .u8 0,.int .u8 0,.int .u8 0,.int .u8 0,.int .u8 0,.int .u8 0,.int .u8 0,.int .u8 0,.int .u8 0,.int .u8 0,.int .u8 0,.int .u8 0,.int .u8 0,.int .u8 0,.int .u8 0,.int .u8 0,.int .u8 0,.int .u8 0,.int .u8 0,.int .u8 0,.int .u8 0,.int .u8 0,.int .u8 0,.int .u8 0,.int .u8 0,.int .u8 0,.int .u8 0,.int .u8 0,.int .u8 0,.int .u8 0,.int .u8 0,.int .u8 0,.int .u8 0,.int .u8 0,.int .u8 0,.int .u8 0,.int .u8 0,.int .u8 0,.int .u8 0,.int .u8 0,.int .u8 0,.int .u8 0,.int .u8 0,.int .u8 0,.int .u8 0]
def zz1:List Value:=zz0.append zz0
def zz2:List Value:=zz1.append zz1
def zz3:List Value:=zz2.append zz2
def zz4:List Value:=zz3.append zz3
def zz5:List Value:=zz4.append zz4
def zz6:List Value:=zz5.append zz5
def zz7:List Value:=zz6.append zz6
def zz8:List Value:=zz7.append zz7
def zz9:List Value:=zz8.append zz8
def zz10:List Value:=zz9.append zz9
theorem zz_step{z:List Value}{n:Nat}(h:z=List.replicate n (.int .u8 0)):z.append z=List.replicate (n+n) (.int .u8 0):=by
 subst h
 exact(List.replicate_append_replicate).trans rfl
theorem zz_all:zz10=List.replicate 65536 (.int .u8 0):=
 zz_step (n:=32768) (zz_step (n:=16384) (zz_step (n:=8192) (zz_step (n:=4096) (zz_step (n:=2048) (zz_step (n:=1024) (zz_step (n:=512) (zz_step (n:=256) (zz_step (n:=128) (zz_step (n:=64) (show zz0=_ from rfl))))))))))
theorem zz_type:(Tryz.prog.info? 181).bind (·.zero)=some (.agg zz10.toArray):=by kernel_rfl
theorem run_build1{t:TypeId}{f:Field}{z:Value}{n:Nat}{w:World}(ht:Tryz.prog.underlying t=some (.struct #[f]))(hz:(Tryz.prog.info? t).bind (·.zero)=some z)(hs:aWZ Tryz.prog f.type n=true):(Instr.build t #[]).run Tryz.prog w=.ok (.agg z.cells) w:=by
 have hsz:=run_sizeOf hs w
 cases hi:Tryz.prog.info? t with
 | none=>rw[hi]at hz;cases hz
 | some i=>
  rw[hi]at hz
  simp only[Option.bind_some]at hz
  have h0:(zeroValue t).run Tryz.prog w=.ok z w:=by simp[zeroValue,typeInfo,hi,hz]
  simp[Instr.build,h0,run_underlying ht,hsz,Instr.fill]
def genT(n:Nat):List Value:=(List.range 65536).map (fun i=>if i<n then tabF i else .int .u8 0)
theorem genT_zero:genT 0=List.replicate 65536 (.int .u8 0):=by
 unfold genT
 refine List.ext_getElem? fun i=>?_
 rw[List.getElem?_map,List.getElem?_replicate]
 by_cases h:i<65536
 ·rw[List.getElem?_range h,if_pos h];rfl
 ·rw[List.getElem?_eq_none (by rw[List.length_range];omega),if_neg h];rfl
theorem genT_all:genT 65536=tabC:=by
 unfold genT tabC
 refine List.map_congr_left fun i hi=>?_
 rw[if_pos (List.mem_range.1 hi)]
theorem genT_len(n:Nat):(genT n).length=65536:=by unfold genT;rw[List.length_map,List.length_range]
theorem genT_set{n:Nat}(h:n<65536):(genT n).take n++[tabF n]++(genT n).drop (n+1)=genT (n+1):=by
 have h0:(genT n).take n++[tabF n]++(genT n).drop (n+1)=(genT n).set n (tabF n):=by
  rw[List.set_eq_take_append_cons_drop,if_pos (by rw[genT_len];exact h),List.append_assoc];rfl
 rw[h0]
 refine List.ext_getElem? fun i=>?_
 rw[List.getElem?_set,genT_len]
 unfold genT
 rw[List.getElem?_map,List.getElem?_map]
 by_cases hi:i<65536
 ·rw[List.getElem?_range hi]
  by_cases e:n=i
  ·subst e
   rw[if_pos rfl,if_pos h]
   simp
  ·rw[if_neg e]
   by_cases e2:i<n
   ·simp[e2,show i<n+1 by omega]
   ·simp[e2,show ¬i<n+1 by omega]
 ·rw[if_neg (by omega),List.getElem?_eq_none (by rw[List.length_range];omega)];rfl
theorem tabNew_ok(w:World):Cl Tryz.prog 81 #[] (.one (.at .ptr)) (fun x w'=>∃g,x=at0 g∧w.heap.size≤g∧g<w'.heap.size∧TabK w' g∧Ex w w') w:=by
 refine table_New.run _ w ?_
 generalize hRR:(fun(e:Ending) (w':World)=>∃x:Option Addr,e=.returned ((Sh.one (.at .ptr)).enc x)∧∃g,x=at0 g∧w.heap.size≤g∧g<w'.heap.size∧TabK w' g∧Ex w w')=R
 unfold table_New.M
 refine ⟨.agg zz10.toArray, fun w' => run_build1 (n := 65536) (f := { name := "product", type := 179, offset := 0, embedded := false, tag := "", pkgPath := "cullet/table", byteOffset := 0 }) (by kernel_rfl) zz_type (by kernel_rfl), ?_⟩
 refine bcZ fun w1 hB1 hx1=>?_
 have e1:(Value.agg zz10.toArray).cells.toList=genT 0:=by rw[genT_zero,←zz_all];rfl
 rw[e1]at hB1
 generalize hg:w.heap.size=g at hB1 ⊢
 refine aeZ (newTab_ok w1) ?_
 rintro _ w2 ⟨tb,rfl,htb1,htb2,hT2,hx2⟩
 have hgl:=hB1.lt
 have hne:tb≠g:=by omega
 have hi2:Has w2 g (genT 0) 181:=hB1.ex hx2
 unfold table_New.l1
 have hxx:Ex w w2:=hx1.trans hx2
 refine acZ (fun st w'=>∃c:Nat,st=(at0 g,at0 tb,(c:Int),())∧c≤256∧Has w' g (genT (c*256)) 181∧TabIs w' tb∧Ex w w') (fun st _=>((256:Int)-st.2.2.1).toNat) ?_ ⟨0,rfl,Nat.zero_le _,by simpa using hi2,hT2,hxx⟩
 rintro k1 _ w3 ⟨c,rfl,hc,hB3,hT3,hx3⟩ hk1
 unfold table_New.b1
 dsimp only at hk1 ⊢
 refine abZ (fun hlt=>?_) (fun hge=>?_)
 ·have hc':c<256:=by omega
  unfold table_New.l2
  refine acZ (fun st w'=>∃x:Nat,st=(at0 g,at0 tb,(c:Int),(c:Int),(x:Int),())∧x≤256∧Has w' g (genT (c*256+x)) 181∧TabIs w' tb∧Ex w w') (fun st _=>((256:Int)-st.2.2.2.2.1).toNat) ?_ ⟨0,rfl,Nat.zero_le _,hB3,hT3,hx3⟩
  rintro k2 _ w4 ⟨x,rfl,hx,hB4,hT4,hx4⟩ hk2
  unfold table_New.b2
  dsimp only at hk2 ⊢
  refine abZ (fun hlt2=>?_) (fun hge2=>?_)
  ·have hx':x<256:=by omega
   refine asZ (fun _=>True) trivial ?_
   refine agZ ?_
   refine Pu_arr (o:=0) (n:=256) (e:=178) (sz:=256) (by kernel_rfl) (by kernel_rfl) hc' ?_
   rw[aVZ,aVZ,Nat.zero_add]
   have hxd:=Ex.drew w4
   have ef:∀n,n<256→(Value.int .u8 ((n % 256:Nat):Int))=f8v (bf n):=fun n hn=>by
    unfold f8v bf
    rw[BitVec.toNat_ofNat]
   rw[ef c hc',ef x hx']
   refine auZ (d:=.one (.at (.int .u8))) (x:=((ahZ (bf c) (bf x)).toNat:Int)) (tmul_gv (hT4.ex hxd) (bf c) (bf x)) fun w5 hx5=>?_
   refine⟨trivial,?_⟩
   refine Pu_arr (n:=256) (e:=5) (sz:=1) (by kernel_rfl) sB hx' ?_
   rw[Nat.mul_one]
   have hB5:Has w5 g (genT (c*256+x)) 181:=(hB4.ex hxd).ex hx5
   have e3:tabF (c*256+x)=f8v (ahZ (bf c) (bf x)):=by
    unfold tabF
    rw[show(c*256+x) / 256=c by omega,show(c*256+x) % 256=x by omega]
   refine awZ (v:=f8v (ahZ (bf c) (bf x))) hB5 sB (by intro u hu;obtain rfl:u=f8v (ahZ (bf c) (bf x)):=(by simpa [Value.cells] using hu);rfl) (by rw[genT_len];show c*256+x+1≤_;omega) fun w6 hB6 hm6=>?_
   have hB6':Has w6 g (genT (c*256+(x+1))) 181:=by
    rw[←Nat.add_assoc,←genT_set (by omega),e3]
    exact hB6
   refine⟨trivial,?_⟩
   unfold table_New.j1
   rw[adZ (by omega) (by omega),show(x:Int)+1=((x+1:Nat):Int) by omega]
   exact hk2 _ _ ⟨x+1,rfl,by omega,hB6',TabIs.mo ((hT4.ex hxd).ex hx5) hm6 hne,(hx4.trans (hxd.trans hx5)).into hm6 (fun b hb=>by omega)⟩ (by dsimp only;omega)
  ·have hx':x=256:=by omega
   subst hx'
   rw[adZ (by omega) (by omega),show(c:Int)+1=((c+1:Nat):Int) by omega]
   exact hk1 _ _ ⟨c+1,rfl,by omega,by rw[Nat.add_mul,Nat.one_mul];exact hB4,hT4,hx4⟩ (by dsimp only;omega)
 ·have hc':c=256:=by omega
  subst hc' hRR
  exact⟨at0 g,rfl,g,rfl,by omega,hB3.lt,by show Has w3 g tabC _;rw[←genT_all];exact hB3,hx3⟩
end Go.Proofs.YtbiilejgfihohaaGreat
namespace Go.Proofs.YtbiilejgfihohaaGreat
open Go Go.Cu Go.RowKit
theorem Pu_shl{t:TypeId}{x y:Operand}{k yk:IntKind}{a b:Int}{K:Int→World→Prop}{w:World}(hb:0≤b)(hk:K (shL k a b) w):Pu Tryz.prog (do eqGuard .shl t x y (.int k a) (.int yk b);binOp .shl t (.int k a) (.int yk b)) (.one (.at (.int k))) K w:=by
 refine⟨shL k a b,fun w'=>?_,hk⟩
 have:¬b<0:=by omega
 simp[eqGuard,binOp,Op.shift,this,shL,Sh.enc,Cx.enc,At.enc]
theorem Pu_shr{t:TypeId}{x y:Operand}{k yk:IntKind}{a b:Int}{K:Int→World→Prop}{w:World}(hb:0≤b)(hk:K (shR k a b) w):Pu Tryz.prog (do eqGuard .shr t x y (.int k a) (.int yk b);binOp .shr t (.int k a) (.int yk b)) (.one (.at (.int k))) K w:=by
 refine⟨shR k a b,fun w'=>?_,hk⟩
 have:¬b<0:=by omega
 simp[eqGuard,binOp,Op.shift,this,shR,Sh.enc,Cx.enc,At.enc]
abbrev A16:List At:=[.int .u8,.int .u8,.int .u8,.int .u8,.int .u8,.int .u8,.int .u8,.int .u8,.int .u8,.int .u8,.int .u8,.int .u8,.int .u8,.int .u8,.int .u8,.int .u8]
def bGZ(F:Nat→F8):Ats A16:=(((F 0).toNat:Int),((F 1).toNat:Int),((F 2).toNat:Int),((F 3).toNat:Int),((F 4).toNat:Int),((F 5).toNat:Int),((F 6).toNat:Int),((F 7).toNat:Int),((F 8).toNat:Int),((F 9).toNat:Int),((F 10).toNat:Int),((F 11).toNat:Int),((F 12).toNat:Int),((F 13).toNat:Int),((F 14).toNat:Int),((F 15).toNat:Int),())
def bhZ(F:Nat→F8)(n:Nat):List Value:=(List.range 16).map (fun i=>if i<n then f8v (F i) else .int .u8 0)
theorem enc16(F:Nat→F8):afZ A16 (bGZ F)=bhZ F 16:=rfl
theorem halfG_len(F:Nat→F8)(n:Nat):(bhZ F n).length=16:=by unfold bhZ;rw[List.length_map,List.length_range]
theorem halfG_at{F:Nat→F8}{n i:Nat}(h:i<n)(h2:i<16):(bhZ F n)[i]? =some (f8v (F i)):=by
 unfold bhZ
 rw[List.getElem?_map,List.getElem?_range h2]
 show some (if i<n then f8v (F i) else .int .u8 0)=_
 rw[if_pos h]
theorem halfG_set{F:Nat→F8}{n:Nat}(h:n<16):(bhZ F n).take n++[f8v (F n)]++(bhZ F n).drop (n+1)=bhZ F (n+1):=by
 have h0:(bhZ F n).take n++[f8v (F n)]++(bhZ F n).drop (n+1)=(bhZ F n).set n (f8v (F n)):=by
  rw[List.set_eq_take_append_cons_drop,if_pos (by rw[halfG_len];exact h),List.append_assoc];rfl
 rw[h0]
 refine List.ext_getElem? fun i=>?_
 rw[List.getElem?_set,halfG_len]
 unfold bhZ
 rw[List.getElem?_map,List.getElem?_map]
 by_cases hi:i<16
 ·rw[List.getElem?_range hi]
  by_cases e:n=i
  ·subst e
   rw[if_pos rfl,if_pos h]
   simp
  ·rw[if_neg e]
   by_cases e2:i<n
   ·simp[e2,show i<n+1 by omega]
   ·simp[e2,show ¬i<n+1 by omega]
 ·rw[if_neg (by omega),List.getElem?_eq_none (by rw[List.length_range];omega)];rfl
theorem Wu_half{w:World}{g n:Nat}{F:Nat→F8}{v:Int}{ik:IntKind}{j:Int}{K:World→Prop}(hB:Has w g (bhZ F n) 262)(hn:n<16)(hj:j=(n:Int))(hv:v=((F n).toNat:Int))(hk:∀w',Has w' g (bhZ F (n+1)) 262→Mo (fun b=>b=g) w w'→K w'):
  Pu Tryz.prog (Instr.indexAt 262 (.pointer (some ⟨g,0,none⟩)) (.int ik j)) (.one (.at .addr)) (fun a w1=>Wu Tryz.prog (Instr.storeAt 5 (.pointer (some a)) (.int .u8 v)) K w1) w:=by
 subst hj hv
 refine Pu_arr (o:=0) (n:=16) (e:=5) (sz:=1) (by kernel_rfl) sB hn ?_
 rw[Nat.zero_add,Nat.mul_one]
 refine awZ (v:=f8v (F n)) hB sB (by intro u hu;obtain rfl:u=f8v (F n):=(by simpa [Value.cells] using hu);rfl) (by rw[halfG_len];show n+1≤_;omega) fun w6 hB6 hm6=>hk w6 ?_ hm6
 rw[←halfG_set hn]
 exact hB6
theorem RdS_half{S:World→Prop}{w:World}{g i:Nat}{F:Nat→F8}{ik:IntKind}{j:Int}{K:Int→World→Prop}(hB:∀w',S w'→w'.cell? ⟨g,i,none⟩=some (f8v (F i)))(hn:i<16)(hj:j=(i:Int))(hk:K ((F i).toNat:Int) w):
  Pu Tryz.prog (Instr.indexAt 262 (.pointer (some ⟨g,0,none⟩)) (.int ik j)) (.one (.at .addr)) (fun a w1=>RdS Tryz.prog S (Instr.loadAt 5 (.pointer (some a))) (.one (.at (.int .u8))) K w1) w:=by
 subst hj
 refine Pu_arr (o:=0) (n:=16) (e:=5) (sz:=1) (by kernel_rfl) sB hn ?_
 rw[Nat.zero_add,Nat.mul_one]
 exact RdS_one (c:=.int .u8) (x:=((F i).toNat:Int)) oB hB hk
theorem shl_i:∀t:Fin 4,shL .i64 1 (t.val:Int)=((2 ^ t.val:Nat):Int):=by decide+kernel
theorem shl_b:∀t:Fin 4,shL .u8 1 (t.val:Int)=((bf (2 ^ t.val)).toNat:Int):=by decide+kernel
theorem shl_c:∀t:Fin 4,shL .u8 16 (t.val:Int)=((bf (16*2 ^ t.val)).toNat:Int):=by decide+kernel
def lowF(c:F8)(i:Nat):F8:=ahZ c (bf i)
def brZ(c:F8)(i:Nat):F8:=ahZ c (bf (16*i))
theorem bf_low:∀(t:Fin 4) (i:Fin 8),i.val<2 ^ t.val→bf (2 ^ t.val+i.val)=bf (2 ^ t.val) ^^^ bf i.val:=by decide+kernel
theorem bf_high:∀(t:Fin 4) (i:Fin 8),i.val<2 ^ t.val→bf (16*(2 ^ t.val+i.val))=bf (16*2 ^ t.val) ^^^ bf (16*i.val):=by decide+kernel
theorem pow_le8{t:Nat}(h:t<4):2 ^ t≤8∧1≤2 ^ t:=by
 have h1:2 ^ t≤2 ^ 3:=Nat.pow_le_pow_right (by decide) (by omega)
 exact⟨by simpa using h1,Nat.one_le_two_pow⟩
theorem low_add(c:F8){t i:Nat}(ht:t<4)(hi:i<2 ^ t):lowF c (2 ^ t+i)=lowF c (2 ^ t) ^^^ lowF c i:=by
 unfold lowF
 have h8:=(pow_le8 ht).1
 rw[bf_low ⟨t,ht⟩ ⟨i,by omega⟩ hi,aoZ]
theorem high_add(c:F8){t i:Nat}(ht:t<4)(hi:i<2 ^ t):brZ c (2 ^ t+i)=brZ c (2 ^ t) ^^^ brZ c i:=by
 unfold brZ
 have h8:=(pow_le8 ht).1
 rw[bf_high ⟨t,ht⟩ ⟨i,by omega⟩ hi,aoZ]
theorem alloc16{w:World}{K:Addr→World→Prop}(F:Nat→F8)(hk:∀w',Has w' w.heap.size (bhZ F 0) 262→Ex w w'→K ⟨w.heap.size,0,none⟩ w'):Wr Tryz.prog (Instr.alloc 262 true (.tuple #[])) (.one (.at .addr)) K w:=
 Wr_alloc (z:=.agg #[.int .u8 0,.int .u8 0,.int .u8 0,.int .u8 0,.int .u8 0,.int .u8 0,.int .u8 0,.int .u8 0,.int .u8 0,.int .u8 0,.int .u8 0,.int .u8 0,.int .u8 0,.int .u8 0,.int .u8 0,.int .u8 0]) (by kernel_rfl) (fun w' h hx=>hk w' h hx)
theorem halves_ok(c:F8)(w:World):Cl Tryz.prog 194 #[f8v c] (.tup [.agg A16,.agg A16]) (fun x w'=>x=(bGZ (lowF c),bGZ (brZ c),())∧Ex w w') w:=by
 refine nibble_halves.run _ (c.toNat:Int) w ?_
 generalize hRR:(fun(e:Ending) (w':World)=>∃x:Ats A16×Ats A16×Unit,e=.returned ((Sh.tup [.agg A16,.agg A16]).enc x)∧x=(bGZ (lowF c),bGZ (brZ c),())∧Ex w w')=R
 unfold nibble_halves.M
 refine alloc16 (lowF c) fun w1 hL1 hx1=>alloc16 (brZ c) fun w2 hH2 hx2=>?_
 have hla:=hL1.lt
 have hx12:Ex w w2:=hx1.trans hx2
 have hgl:w.heap.size<w1.heap.size:=hla
 have hL2:Has w2 w.heap.size (bhZ (lowF c) 0) 262:=hL1.ex hx2
 have hge:w.heap.size≤w1.heap.size:=Nat.le_of_lt hgl
 have hle:w.heap.size≤w.heap.size:=Nat.le_refl _
 generalize hgla:w.heap.size=la at hL2 hgl ⊢
 generalize hgha:w1.heap.size=ha at hH2 hgl ⊢
 have hne:la≠ha:=by omega
 have hne':ha≠la:=by omega
 have z0:lowF c 0=0#8:=aqZ c
 have z1:brZ c 0=0#8:=aqZ c
 have one:∀F:Nat→F8,F 0=0#8→bhZ F 0=bhZ F 1:=fun F h=>by
  unfold bhZ
  refine List.map_congr_left fun i _=>?_
  by_cases e:i=0
  ·subst e;simp[h]
  ·rw[if_neg (by omega),if_neg (by omega)]
 have cells:∀{w':World} {g n i:Nat} {F:Nat→F8},Has w' g (bhZ F n) 262→i<n→i<16→w'.cell? ⟨g,i,none⟩=some (f8v (F i)):=fun h h1 h2=>(h.cell _).trans (halfG_at h1 h2)
 have step:∀{w1 w2:World} {b:Nat},Ex w w1→Mo (fun i=>i=b) w1 w2→(b=la∨b=ha)→Ex w w2:=fun h m hb=>h.into m (fun i hi=>by omega)
 unfold nibble_halves.l1
 refine acZ (fun st w'=>∃t:Nat,st=((c.toNat:Int),⟨la,0,none⟩,⟨ha,0,none⟩,(t:Int),())∧t≤4∧Has w' la (bhZ (lowF c) (2 ^ t)) 262∧Has w' ha (bhZ (brZ c) (2 ^ t)) 262∧Ex w w')
  (fun st _=>((4:Int)-st.2.2.2.1).toNat) ?_ ⟨0,rfl,Nat.zero_le _,by rw[Nat.pow_zero,←one _ z0];exact hL2,by rw[Nat.pow_zero,←one _ z1];exact hH2,hx12⟩
 rintro k1 _ w3 ⟨t,rfl,ht,hL3,hH3,hx3⟩ hk1
 unfold nibble_halves.b1
 dsimp only at hk1 ⊢
 refine abZ (fun hlt=>?_) (fun hge=>?_)
 ·have ht4:t<4:=by omega
  obtain⟨hp8,hp1⟩:=pow_le8 ht4
  have ei:shL .i64 1 (t:Int)=((2 ^ t:Nat):Int):=shl_i ⟨t,ht4⟩
  have eb:shL .u8 1 (t:Int)=((bf (2 ^ t)).toNat:Int):=shl_b ⟨t,ht4⟩
  have ec:shL .u8 16 (t:Int)=((bf (16*2 ^ t)).toNat:Int):=shl_c ⟨t,ht4⟩
  refine asZ (fun _=>True) trivial ?_
  refine Pu_shl (by omega) (Pu_shl (by omega) ?_)
  rw[ei,eb]
  refine auZ (d:=.one (.at (.int .u8))) (x:=((ahZ c (bf (2 ^ t))).toNat:Int)) (mul_gv c (bf (2 ^ t)) _) fun w4 hx4=>⟨trivial,?_⟩
  have hx34:=(Ex.drew w3).trans hx4
  refine Wu_half (F:=lowF c) (hL3.ex hx34) (by omega) rfl rfl fun w5 hL5 hm5=>⟨trivial,?_⟩
  have hH5:Has w5 ha (bhZ (brZ c) (2 ^ t)) 262:=(hH3.ex hx34).mo hm5 hne'
  have hx5:=step (hx3.trans hx34) hm5 (.inl rfl)
  unfold nibble_halves.j1
  refine asZ (fun _=>True) trivial ?_
  refine Pu_shl (by omega) (Pu_shl (by omega) ?_)
  rw[ei,ec]
  refine auZ (d:=.one (.at (.int .u8))) (x:=((ahZ c (bf (16*2 ^ t))).toNat:Int)) (mul_gv c (bf (16*2 ^ t)) _) fun w6 hx6=>⟨trivial,?_⟩
  have hx56:=(Ex.drew w5).trans hx6
  refine Wu_half (F:=brZ c) (hH5.ex hx56) (by omega) rfl rfl fun w7 hH7 hm7=>⟨trivial,?_⟩
  have hL7:Has w7 la (bhZ (lowF c) (2 ^ t+1)) 262:=(hL5.ex hx56).mo hm7 hne
  have hx7:=step (hx5.trans hx56) hm7 (.inr rfl)
  unfold nibble_halves.j2 nibble_halves.l2
  refine acZ (fun st w'=>∃i:Nat,st=((c.toNat:Int),⟨la,0,none⟩,⟨ha,0,none⟩,(t:Int),(i:Int),(t:Int),())∧1≤i∧i≤2 ^ t∧Has w' la (bhZ (lowF c) (2 ^ t+i)) 262∧Has w' ha (bhZ (brZ c) (2 ^ t+i)) 262∧Ex w w')
   (fun st _=>((16:Int)-st.2.2.2.2.1).toNat) ?_ ⟨1,rfl,Nat.le_refl _,hp1,hL7,hH7,hx7⟩
  rintro k2 _ w8 ⟨i,rfl,hi1,hi,hL8,hH8,hx8⟩ hk2
  unfold nibble_halves.b2
  dsimp only at hk2 ⊢
  refine Pu_shl (by omega) ?_
  rw[ei]
  refine abZ (fun hlt2=>?_) (fun hge2=>?_)
  ·have hi2:i<2 ^ t:=by omega
   have hd:=Ex.drew w8
   have hL8':=hL8.ex hd
   have hH8':=hH8.ex hd
   have mkL:∀(w':World) (m:Nat),2 ^ t+i≤m→Has w' la (bhZ (lowF c) m) 262→w'.cell? ⟨la,2 ^ t,none⟩=some (f8v (lowF c (2 ^ t)))∧w'.cell? ⟨la,i,none⟩=some (f8v (lowF c i)):=fun w' m hm h=>⟨cells h (by omega) (by omega),cells h (by omega) (by omega)⟩
   have mkH:∀(w':World) (m:Nat),2 ^ t+i≤m→Has w' ha (bhZ (brZ c) m) 262→w'.cell? ⟨ha,2 ^ t,none⟩=some (f8v (brZ c (2 ^ t)))∧w'.cell? ⟨ha,i,none⟩=some (f8v (brZ c i)):=fun w' m hm h=>⟨cells h (by omega) (by omega),cells h (by omega) (by omega)⟩
   have ew:IntKind.wrap .i64 (((2 ^ t:Nat):Int)+(i:Int))=((2 ^ t+i:Nat):Int):=by rw[adZ (by omega) (by omega)];omega
   refine asZ (fun w'=>w'.cell? ⟨la,2 ^ t,none⟩=some (f8v (lowF c (2 ^ t)))∧w'.cell? ⟨la,i,none⟩=some (f8v (lowF c i))) (mkL _ _ (Nat.le_refl _) hL8') ?_
   refine Pu_shl (by omega) (Pu_shl (by omega) ?_)
   rw[ei]
   refine RdS_half (F:=lowF c) (i:=2 ^ t) (fun w' h=>h.1) (by omega) rfl ?_
   refine RdS_half (F:=lowF c) (i:=i) (fun w' h=>h.2) (by omega) rfl ?_
   refine Wu_half (F:=lowF c) hL8' (by omega) ew (by rw[bXor_f8,←low_add c ht4 hi2]) fun w9 hL9 hm9=>?_
   refine⟨mkL _ _ (by omega) hL9,?_⟩
   have hH9:Has w9 ha (bhZ (brZ c) (2 ^ t+i)) 262:=hH8'.mo hm9 hne'
   have hx9:=step (hx8.trans hd) hm9 (.inl rfl)
   have hd9:=Ex.drew w9
   refine asZ (fun w'=>w'.cell? ⟨ha,2 ^ t,none⟩=some (f8v (brZ c (2 ^ t)))∧w'.cell? ⟨ha,i,none⟩=some (f8v (brZ c i))) (mkH _ _ (Nat.le_refl _) (hH9.ex hd9)) ?_
   refine Pu_shl (by omega) (Pu_shl (by omega) ?_)
   rw[ei]
   refine RdS_half (F:=brZ c) (i:=2 ^ t) (fun w' h=>h.1) (by omega) rfl ?_
   refine RdS_half (F:=brZ c) (i:=i) (fun w' h=>h.2) (by omega) rfl ?_
   refine Wu_half (F:=brZ c) (hH9.ex hd9) (by omega) ew (by rw[bXor_f8,←high_add c ht4 hi2]) fun w10 hH10 hm10=>?_
   refine⟨mkH _ _ (by omega) hH10,?_⟩
   have hL10:Has w10 la (bhZ (lowF c) (2 ^ t+i+1)) 262:=(hL9.ex hd9).mo hm10 hne
   rw[adZ (by omega) (by omega),show(i:Int)+1=((i+1:Nat):Int) by omega]
   exact hk2 _ _ ⟨i+1,rfl,by omega,by omega,hL10,hH10,step (hx9.trans hd9) hm10 (.inr rfl)⟩ (by dsimp only;omega)
  ·have hie:i=2 ^ t:=by omega
   rw[hie]at hL8 hH8
   rw[adZ (by omega) (by omega),show(t:Int)+1=((t+1:Nat):Int) by omega]
   have e2:2 ^ (t+1)=2 ^ t+2 ^ t:=by rw[Nat.pow_succ];omega
   exact hk1 _ _ ⟨t+1,rfl,by omega,by rw[e2];exact hL8,by rw[e2];exact hH8,hx8⟩ (by dsimp only;omega)
 ·have ht4:t=4:=by omega
  subst ht4
  have hd:=Ex.drew w3
  have hL4:Has w3.drew la (afZ A16 (bGZ (lowF c))) 262:=hL3.ex hd
  have hH4:Has w3.drew ha (afZ A16 (bGZ (brZ c))) 262:=hH3.ex hd
  refine asZ (fun w'=>Has w' la (afZ A16 (bGZ (lowF c))) 262∧Has w' ha (afZ A16 (bGZ (brZ c))) 262) ⟨hL4,hH4⟩ ?_
  refine RdS_hasN (x:=bGZ (lowF c)) (fun w' h=>h.1) (by kernel_rfl) rfl ?_
  refine RdS_hasN (x:=bGZ (brZ c)) (fun w' h=>h.2) (by kernel_rfl) rfl ?_
  have sto:∀{w5:World} {g:Nat} {F:Nat→F8} {K:World→Prop},Has w5 g (afZ A16 (bGZ F)) 262→(∀w6,Has w6 g (afZ A16 (bGZ F)) 262→Mo (fun b=>b=g) w5 w6→K w6)→Wu Tryz.prog (Instr.storeAt 262 (.pointer (some ⟨g,0,none⟩)) (.agg (afZ A16 (bGZ F)).toArray)) K w5:=by
   intro w5 g F K hB hk
   refine awZ (v:=.agg (afZ A16 (bGZ F)).toArray) hB (by kernel_rfl) (by simp[Value.cells,afZ,Value.oneCell',At.enc]) (by rw[enc16,halfG_len];exact Nat.le_refl 16) fun w6 hB6 hm6=>hk w6 ?_ hm6
   have e3:(afZ A16 (bGZ F)).drop (0+(Value.agg (afZ A16 (bGZ F)).toArray).cells.size)=[]:=List.drop_of_length_le (by rw[enc16,halfG_len];exact Nat.le_refl 16)
   rw[e3,List.append_nil]at hB6
   exact hB6
  refine sto hL4 fun w6 hL6 hm6=>⟨⟨hL6,hH4.mo hm6 hne'⟩,?_⟩
  refine sto (hH4.mo hm6 hne') fun w7 hH7 hm7=>?_
  have hL7:Has w7 la (afZ A16 (bGZ (lowF c))) 262:=hL6.mo hm7 hne
  refine⟨⟨hL7,hH7⟩,bGZ (lowF c),bfZ (cs:=afZ A16 (bGZ (lowF c))) (by kernel_rfl) (has_part (l:=A16) (x:=bGZ (lowF c)) (i:=0) hL7 rfl),bGZ (brZ c),bfZ (cs:=afZ A16 (bGZ (brZ c))) (by kernel_rfl) (has_part (l:=A16) (x:=bGZ (brZ c)) (i:=0) hH7 rfl),?_⟩
  subst hRR
  exact⟨(bGZ (lowF c),bGZ (brZ c),()),rfl,rfl,step (step (hx3.trans hd) hm6 (.inl rfl)) hm7 (.inr rfl)⟩
end Go.Proofs.YtbiilejgfihohaaGreat
namespace Go.Proofs.YtbiilejgfihohaaGreat
open Go Go.Cu Go.RowKit
theorem half_join:∀n:Fin 256,bf (n.val &&& 15) ^^^ bf (16*(n.val / 16))=bf n.val:=by decide+kernel
theorem half_mul(c x:F8):lowF c (x.toNat &&& 15) ^^^ brZ c (x.toNat / 16)=ahZ c x:=by
 unfold lowF brZ
 rw[←aoZ,half_join ⟨x.toNat,x.isLt⟩]
 unfold bf
 rw[BitVec.ofNat_toNat,BitVec.setWidth_eq]
theorem nib_add{w:World}{kb g o:Nat}{s src:Sl}{cs:List Value}{l ls:List F8}{c:F8}(hW:Win w s g o cs l)(hr:Rds f8v w src ls)(hl:ls.length=l.length)(hg:∀b,SlIn src b→b≠g)(hm:l.length≤140737488355328):
  Cl Tryz.prog 193 #[.pointer (at0 kb),f8v c,.slice s.base s.len s.cap,.slice src.base src.len src.cap] (.one (.at (.int .i64))) (fun x w'=>x=0∧Win w' s g o cs (aUZ ls c l)∧Mo (fun b=>b=g) w w') w:=by
 refine nibble_Kernel_MulAdd.run _ (at0 kb) (c.toNat:Int) s src w ?_
 generalize hRR:(fun(e:Ending) (w':World)=>∃x:Int,e=.returned ((Sh.one (.at (.int .i64))).enc x)∧x=0∧Win w' s g o cs (aUZ ls c l)∧Mo (fun b=>b=g) w w')=R
 unfold nibble_Kernel_MulAdd.M
 have hsl:=hW.len
 have hrl:=hr.1
 have hgl:=hW.has.lt
 refine Pu_notnil (e:=183) (by kernel_rfl) (aAZ (aEZ (fun h=>by omega) (fun _=>?_)))
 refine aeZ (halves_ok c w) ?_
 rintro _ w1 ⟨rfl,hx1⟩
 refine alloc16 (lowF c) fun w2 hL2 hx2=>alloc16 (brZ c) fun w3 hH3 hx3=>?_
 have hla:=hL2.lt
 have hL3:=hL2.ex hx3
 have h1:g<w1.heap.size:=Nat.lt_of_lt_of_le hgl hx1.size
 have hx13:Ex w w3:=(hx1.trans hx2).trans hx3
 have hs1:=hx1.size
 have hs2:=hx2.size
 generalize hgla:w1.heap.size=la at hL3 h1 hla hs1 ⊢
 generalize hgha:w2.heap.size=ha at hH3 hla hs2 ⊢
 have hne:la≠ha:=by omega
 have sto:∀{w5:World} {g:Nat} {F:Nat→F8} {K:World→Prop},Has w5 g (bhZ F 0) 262→(∀w6,Has w6 g (bhZ F 16) 262→Mo (fun b=>b=g) w5 w6→K w6)→Wu Tryz.prog (Instr.storeAt 262 (.pointer (some ⟨g,0,none⟩)) (.agg (afZ A16 (bGZ F)).toArray)) K w5:=by
  intro w5 g F K hB hk
  refine awZ (v:=.agg (afZ A16 (bGZ F)).toArray) hB (by kernel_rfl) (by simp[Value.cells,afZ,Value.oneCell',At.enc]) (by rw[halfG_len];exact Nat.le_refl 16) fun w6 hB6 hm6=>hk w6 ?_ hm6
  have e3:(bhZ F 0).drop (0+(Value.agg (afZ A16 (bGZ F)).toArray).cells.size)=[]:=List.drop_of_length_le (by rw[halfG_len];exact Nat.le_refl 16)
  rw[e3,List.append_nil]at hB6
  exact hB6
 refine sto hL3 fun w4 hL4 hm4=>?_
 refine sto (hH3.mo hm4 (fun e=>hne e.symm)) fun w5 hH5 hm5=>?_
 have hL5:=hL4.mo hm5 hne
 have hx5:Ex w w5:=(hx13.into hm4 (fun i hi=>by omega)).into hm5 (fun i hi=>by omega)
 have hAl:(aUZ ls c l).length=l.length:=by rw[btZ hl.symm,hl]
 unfold nibble_Kernel_MulAdd.l1
 refine acZ (fun st w'=>∃i:Nat,st=(s,⟨la,0,none⟩,⟨ha,0,none⟩,src,((src.len:Nat):Int),(i:Int),())∧i≤l.length∧Win w' s g o cs ((aUZ ls c l).take i++l.drop i)∧Mo (fun b=>b=g) w w'∧Has w' la (bhZ (lowF c) 16) 262∧Has w' ha (bhZ (brZ c) 16) 262)
  (fun st _=>((src.len:Int)-st.2.2.2.2.2.1).toNat) ?_ ⟨0,rfl,Nat.zero_le _,by simpa using hW.ex hx5,hx5.weak (fun _ _ h=>h.elim),hL5,hH5⟩
 rintro k _ w6 ⟨i,rfl,hi,hW6,hm6,hL6,hH6⟩ hk
 unfold nibble_Kernel_MulAdd.b1
 dsimp only at hk ⊢
 refine abZ (fun hlt=>?_) (fun hge=>?_)
 ·have hil:i<l.length:=by omega
  have hy:ls[i]? =some ls[i]:=List.getElem?_eq_getElem (by omega)
  have hx:l[i]? =some l[i]:=List.getElem?_eq_getElem hil
  have hyl:=(ls[i]).isLt
  have hr6:Rds f8v w6 src ls:=hr.mo hm6 (fun a ha=>hg _ (aYZ ha))
  have hcur:((aUZ ls c l).take i++l.drop i).length=l.length:=by simp[hAl];omega
  refine byZ hr6 hy ?_
  have hd:=Ex.drew w6
  have hW7:=hW6.ex hd
  have hand:bAnd .u8 ((ls[i]).toNat:Int) 15=(((ls[i]).toNat &&& 15:Nat):Int):=bAnd_nat .u8 8 (.inl ⟨rfl,rfl⟩) _ 15 (by omega) (by decide)
  have hshr:shR .u8 ((ls[i]).toNat:Int) 4=(((ls[i]).toNat / 16:Nat):Int):=by
   unfold shR
   show Int.fdiv ((ls[i]).toNat:Int) (2 ^ 4)=_
   rw[Int.fdiv_eq_ediv_of_nonneg _ (by decide)]
   omega
  have h15:(ls[i]).toNat &&& 15<16:=Nat.lt_succ_of_le Nat.and_le_right
  refine asZ (fun w'=>Has w' la (bhZ (lowF c) 16) 262∧Has w' ha (bhZ (brZ c) 16) 262) ⟨hL6.ex hd,hH6.ex hd⟩ ?_
  refine Pu_win hW7 (by omega) ?_
  refine RdS_half (F:=lowF c) (fun w' h=>(h.1.cell _).trans (halfG_at h15 h15)) h15 hand ?_
  refine RdS_half (F:=brZ c) (i:=(ls[i]).toNat / 16) (fun w' h=>(h.2.cell _).trans (halfG_at (by omega) (by omega))) (by omega) hshr ?_
  refine Wr_win hW7 (step_get hAl hx) ?_
  refine⟨⟨hL6.ex hd,hH6.ex hd⟩,?_⟩
  rw[bXor_f8,bXor_f8,half_mul]
  refine Wu_win hW7 (by omega) rfl fun w8 hW8 hm8=>?_
  have hL8:Has w8 la (bhZ (lowF c) 16) 262:=(hL6.ex hd).mo hm8 (by omega)
  have hH8:Has w8 ha (bhZ (brZ c) 16) 262:=(hH6.ex hd).mo hm8 (by omega)
  refine⟨⟨hL8,hH8⟩,?_⟩
  rw[step_set hAl (addM_at hx hy)]at hW8
  rw[adZ (by omega) (by omega),show(i:Int)+1=((i+1:Nat):Int) by omega]
  exact hk _ _ ⟨i+1,rfl,by omega,hW8,Mo.trans (hm6.ex hd) hm8 (fun _=>id) (fun _ _=>id),hL8,hH8⟩ (by dsimp only;omega)
 ·have hil:i=l.length:=by omega
  subst hil
  subst hRR
  rw[List.drop_length,List.append_nil,List.take_of_length_le (by omega)]at hW6
  exact⟨0,rfl,rfl,hW6,hm6⟩
theorem nibNew_ok(w:World):Cl Tryz.prog 82 #[] (.one (.at .ptr)) (fun x w'=>∃g,x=at0 g∧w.heap.size≤g∧g<w'.heap.size∧Ex w w') w:=by
 refine nibble_New.run _ w ?_
 unfold nibble_New.M
 exact bcZ fun w' h hx=>⟨at0 w.heap.size,rfl,w.heap.size,rfl,Nat.le_refl _,h.lt,hx⟩
theorem sliNew_ok(w:World):Cl Tryz.prog 83 #[] (.one (.at .ptr)) (fun x w'=>∃g,x=at0 g∧w.heap.size≤g∧g<w'.heap.size∧Ex w w') w:=by
 refine sliced_New.run _ w ?_
 unfold sliced_New.M
 exact bcZ fun w' h hx=>⟨at0 w.heap.size,rfl,w.heap.size,rfl,Nat.le_refl _,h.lt,hx⟩
end Go.Proofs.YtbiilejgfihohaaGreat
namespace Go.Cu
def wrd:List F8→Nat
 | []=>0
 | x::xs=>x.toNat+256*wrd xs
theorem wrd_lt:∀xs:List F8,wrd xs<256 ^ xs.length
 | []=>by simp[wrd]
 | x::xs=>by
  have h:=wrd_lt xs
  have hx:=x.isLt
  rw[wrd,List.length_cons,Nat.pow_succ]
  omega
theorem bit_cons(d a i:Nat)(hd:d<256):(d+256*a).testBit i=if i<8 then d.testBit i else a.testBit (i-8):=by
 have:=Nat.testBit_two_pow_mul_add a (b:=d) (i:=8) hd i
 rw[show(2:Nat) ^ 8=256 by decide]at this
 rw[Nat.add_comm]
 exact this
theorem xor_cons(d a e b:Nat)(hd:d<256)(he:e<256):(d+256*a) ^^^ (e+256*b)=(d ^^^ e)+256*(a ^^^ b):=by
 refine Nat.eq_of_testBit_eq fun i=>?_
 have hx:d ^^^ e<256:=Nat.xor_lt_two_pow (n:=8) hd he
 rw[Nat.testBit_xor,bit_cons _ _ _ hd,bit_cons _ _ _ he,bit_cons _ _ _ hx]
 split
 ·rw[Nat.testBit_xor]
 ·rw[Nat.testBit_xor]
theorem and_cons(d a e b:Nat)(hd:d<256)(he:e<256):(d+256*a) &&& (e+256*b)=(d &&& e)+256*(a &&& b):=by
 refine Nat.eq_of_testBit_eq fun i=>?_
 have hx:d &&& e<256:=Nat.lt_of_le_of_lt Nat.and_le_left hd
 rw[Nat.testBit_and,bit_cons _ _ _ hd,bit_cons _ _ _ he,bit_cons _ _ _ hx]
 split
 ·rw[Nat.testBit_and]
 ·rw[Nat.testBit_and]
theorem wrd_xor:∀(a b:List F8),a.length=b.length→wrd a ^^^ wrd b=wrd (List.zipWith (· ^^^ ·) a b)
 | [],[],_=>by simp[wrd]
 | x::a,y::b,h=>by
  rw[wrd,wrd,xor_cons _ _ _ _ x.isLt y.isLt,wrd_xor a b (by simpa using h),List.zipWith_cons_cons,wrd,BitVec.toNat_xor]
theorem wrd_and:∀(a b:List F8),a.length=b.length→wrd a &&& wrd b=wrd (List.zipWith (· &&& ·) a b)
 | [],[],_=>by simp[wrd]
 | x::a,y::b,h=>by
  rw[wrd,wrd,and_cons _ _ _ _ x.isLt y.isLt,wrd_and a b (by simpa using h),List.zipWith_cons_cons,wrd,BitVec.toNat_and]
def bitF(b:Nat)(x:F8):F8:=if x.getLsbD b then 1#8 else 0#8
def maskF(b:Nat)(x:F8):F8:=if x.getLsbD b then 255#8 else 0#8
theorem mask_cons(d a o b:Nat)(hd:d<256)(hb:b<8):((d+256*a) >>> b) &&& (1+256*o)=((d >>> b) &&& 1)+256*((a >>> b) &&& o):=by
 refine Nat.eq_of_testBit_eq fun i=>?_
 have hx:(d >>> b) &&& 1<256:=Nat.lt_of_le_of_lt Nat.and_le_right (by decide)
 rw[Nat.testBit_and,bit_cons _ _ _ (show 1<256 by decide),bit_cons _ _ _ hx,Nat.testBit_shiftRight,bit_cons _ _ _ hd]
 by_cases h:i<8
 ·rw[if_pos h,if_pos h,Nat.testBit_and,Nat.testBit_shiftRight]
  by_cases h0:i=0
  ·subst h0
   rw[if_pos (by omega)]
  ·have:Nat.testBit 1 i=false:=by
    have:(1:Nat)<2 ^ i:=Nat.one_lt_two_pow h0
    exact Nat.testBit_lt_two_pow this
   rw[this,Bool.and_false,Bool.and_false]
 ·rw[if_neg h,if_neg h,if_neg (by omega),Nat.testBit_and,Nat.testBit_shiftRight]
  congr 2
  omega
theorem shift_one:∀(n:Fin 256) (b:Fin 8),(n.val >>> b.val) &&& 1=(bitF b.val (.ofFin n)).toNat:=by decide+kernel
theorem wrd_mask(b:Nat)(hb:b<8):∀xs:List F8,(wrd xs >>> b) &&& wrd (List.replicate xs.length 1#8)=wrd (xs.map (bitF b))
 | []=>by simp[wrd]
 | x::xs=>by
  rw[List.length_cons,List.replicate_succ,wrd,wrd,List.map_cons,wrd]
  show((x.toNat+256*wrd xs) >>> b) &&& (1+256*wrd (List.replicate xs.length 1#8))=_
  rw[mask_cons _ _ _ _ x.isLt hb,wrd_mask b hb xs]
  have:=shift_one x.toFin ⟨b,hb⟩
  have e1:(x.toFin).val=x.toNat:=rfl
  have e2:BitVec.ofFin x.toFin=x:=rfl
  rw[e1,e2]at this
  rw[this]
theorem wrd_255(b:Nat):∀xs:List F8,wrd (xs.map (bitF b))*255=wrd (xs.map (maskF b))
 | []=>by simp[wrd]
 | x::xs=>by
  have ih:=wrd_255 b xs
  rw[List.map_cons,List.map_cons,wrd,wrd,←ih]
  have h1:(bitF b x).toNat*255=(maskF b x).toNat:=by
   unfold bitF maskF
   split <;> decide
  rw[←h1,Nat.add_mul,Nat.mul_assoc]
theorem wrd_mul(p:F8):∀n:Nat,p.toNat*wrd (List.replicate n 1#8)=wrd (List.replicate n p)
 | 0=>by simp[wrd]
 | n+1=>by
  rw[List.replicate_succ,List.replicate_succ,wrd,wrd,←wrd_mul p n,Nat.mul_add]
  show p.toNat*1+_=_
  rw[Nat.mul_one,Nat.mul_left_comm]
theorem and_mask(b:Nat)(x p:F8):maskF b x &&& p=sel x b p:=by
 unfold maskF sel
 split
 ·have:(255#8:F8)=BitVec.allOnes 8:=by decide
  rw[this,BitVec.allOnes_and]
 ·rw[BitVec.zero_and]
def colF(c:F8):Nat→F8
 | 0=>c
 | n+1=>xt (colF c n)
def selS(c x:F8):Nat→F8
 | 0=>0#8
 | n+1=>selS c x n ^^^ sel x n (colF c n)
theorem selS_8(c x:F8):selS c x 8=ahZ c x:=by
 simp only[selS,colF,BitVec.zero_xor,ahZ]
theorem zip_map(xs:List F8)(f g h:F8→F8)(op:F8→F8→F8)(e:∀x,op (f x) (g x)=h x):List.zipWith op (xs.map f) (xs.map g)=xs.map h:=by
 induction xs with
 | nil=>rfl
 | cons x xs ih=>rw[List.map_cons,List.map_cons,List.zipWith_cons_cons,ih,List.map_cons,e]
theorem wrd_step(c:F8)(n:Nat)(hn:n<8)(xs:List F8):
  wrd (xs.map (fun x=>selS c x n)) ^^^ ((((wrd xs >>> n) &&& wrd (List.replicate xs.length 1#8))*255) &&& ((colF c n).toNat*wrd (List.replicate xs.length 1#8)))=wrd (xs.map (fun x=>selS c x (n+1))):=by
 have e1:List.zipWith (· &&& ·) (xs.map (maskF n)) (List.replicate xs.length (colF c n))=xs.map (fun x=>sel x n (colF c n)):=by
  rw[←List.map_const']
  exact zip_map xs (maskF n) (fun _=>colF c n) (fun x=>sel x n (colF c n)) (· &&& ·) (fun x=>and_mask n x _)
 have e2:List.zipWith (· ^^^ ·) (xs.map (fun x=>selS c x n)) (xs.map (fun x=>sel x n (colF c n)))=xs.map (fun x=>selS c x (n+1)):=
  zip_map xs (fun x=>selS c x n) (fun x=>sel x n (colF c n)) (fun x=>selS c x (n+1)) (· ^^^ ·) (fun x=>rfl)
 rw[wrd_mask n hn,wrd_255,wrd_mul,wrd_and _ _ (by simp),e1,wrd_xor _ _ (by simp),e2]
theorem wrd_byte:∀(xs:List F8) (j:Nat) (x:F8),xs[j]? =some x→(wrd xs >>> (8*j)) % 256=x.toNat
 | [],j,x,h=>by simp at h
 | y::xs,0,x,h=>by
  obtain rfl:y=x:=by simpa using h
  have:=y.isLt
  rw[wrd]
  simp only[Nat.mul_zero,Nat.shiftRight_zero]
  omega
 | y::xs,j+1,x,h=>by
  have ih:=wrd_byte xs j x (by simpa using h)
  have hy:=y.isLt
  rw[wrd,Nat.mul_add,Nat.add_comm (8*j),Nat.shiftRight_add,show(y.toNat+256*wrd xs) >>> (8*1)=wrd xs from ?_]
  ·exact ih
  ·rw[Nat.shiftRight_eq_div_pow]
   show(y.toNat+256*wrd xs) / 256=_
   omega
theorem bQZ{xs:List F8}(h:xs.length≤8):wrd xs<18446744073709551616:=by
 have h1:=wrd_lt xs
 have h2:256 ^ xs.length≤256 ^ 8:=Nat.pow_le_pow_right (by decide) h
 have h3:(256:Nat) ^ 8=18446744073709551616:=by decide
 omega
end Go.Cu
namespace Go.Proofs.YtbiilejgfihohaaGreat
open Go Go.Cu Go.RowKit
abbrev A8:List At:=[.int .u8,.int .u8,.int .u8,.int .u8,.int .u8,.int .u8,.int .u8,.int .u8]
def tup8(F:Nat→F8):Ats A8:=(((F 0).toNat:Int),((F 1).toNat:Int),((F 2).toNat:Int),((F 3).toNat:Int),((F 4).toNat:Int),((F 5).toNat:Int),((F 6).toNat:Int),((F 7).toNat:Int),())
def octG(F:Nat→F8)(n:Nat):List Value:=(List.range 8).map (fun i=>if i<n then f8v (F i) else .int .u8 0)
theorem octG_len(F:Nat→F8)(n:Nat):(octG F n).length=8:=by unfold octG;rw[List.length_map,List.length_range]
theorem octG_at{F:Nat→F8}{n i:Nat}(h:i<n)(h2:i<8):(octG F n)[i]? =some (f8v (F i)):=by
 unfold octG
 rw[List.getElem?_map,List.getElem?_range h2]
 show some (if i<n then f8v (F i) else .int .u8 0)=_
 rw[if_pos h]
theorem octG_set{F:Nat→F8}{n:Nat}(h:n<8):(octG F n).take n++[f8v (F n)]++(octG F n).drop (n+1)=octG F (n+1):=by
 have h0:(octG F n).take n++[f8v (F n)]++(octG F n).drop (n+1)=(octG F n).set n (f8v (F n)):=by
  rw[List.set_eq_take_append_cons_drop,if_pos (by rw[octG_len];exact h),List.append_assoc];rfl
 rw[h0]
 refine List.ext_getElem? fun i=>?_
 rw[List.getElem?_set,octG_len]
 unfold octG
 rw[List.getElem?_map,List.getElem?_map]
 by_cases hi:i<8
 ·rw[List.getElem?_range hi]
  by_cases e:n=i
  ·subst e
   rw[if_pos rfl,if_pos h]
   simp
  ·rw[if_neg e]
   by_cases e2:i<n
   ·simp[e2,show i<n+1 by omega]
   ·simp[e2,show ¬i<n+1 by omega]
 ·rw[if_neg (by omega),List.getElem?_eq_none (by rw[List.length_range];omega)];rfl
theorem alloc8{w:World}{K:Addr→World→Prop}(F:Nat→F8)(hk:∀w',Has w' w.heap.size (octG F 0) 266→Ex w w'→K ⟨w.heap.size,0,none⟩ w'):Wr Tryz.prog (Instr.alloc 266 true (.tuple #[])) (.one (.at .addr)) K w:=
 Wr_alloc (z:=.agg #[.int .u8 0,.int .u8 0,.int .u8 0,.int .u8 0,.int .u8 0,.int .u8 0,.int .u8 0,.int .u8 0]) (by kernel_rfl) (fun w' h hx=>hk w' h hx)
theorem sto8{w5:World}{g:Nat}{F:Nat→F8}{cs:List Value}{K:World→Prop}(hB:Has w5 g cs 266)(hc:cs.length=8)(hk:∀w6,Has w6 g (octG F 8) 266→Mo (fun b=>b=g) w5 w6→K w6):Wu Tryz.prog (Instr.storeAt 266 (.pointer (some ⟨g,0,none⟩)) (.agg (afZ A8 (tup8 F)).toArray)) K w5:=by
 refine awZ (v:=.agg (afZ A8 (tup8 F)).toArray) hB (by kernel_rfl) (by simp[Value.cells,afZ,Value.oneCell',At.enc]) (by rw[hc];exact Nat.le_refl 8) fun w6 hB6 hm6=>hk w6 ?_ hm6
 have e3:cs.drop (0+(Value.agg (afZ A8 (tup8 F)).toArray).cells.size)=[]:=List.drop_of_length_le (by rw[hc];exact Nat.le_refl 8)
 rw[e3,List.append_nil]at hB6
 exact hB6
theorem columns_ok(c:F8)(w:World):Cl Tryz.prog 199 #[f8v c] (.one (.agg A8)) (fun x w'=>x=tup8 (colF c)∧Ex w w') w:=by
 refine sliced_columns.run _ (c.toNat:Int) w ?_
 generalize hRR:(fun(e:Ending) (w':World)=>∃x:Ats A8,e=.returned ((Sh.one (.agg A8)).enc x)∧x=tup8 (colF c)∧Ex w w')=R
 unfold sliced_columns.M
 refine alloc8 (colF c) fun w1 hL1 hx1=>alloc8 (colF c) fun w2 hH2 hx2=>?_
 have hgl:=hL1.lt
 have hx12:=hx1.trans hx2
 have hL2:=hL1.ex hx2
 have hge:=Nat.le_refl w.heap.size
 generalize hga:w.heap.size=ga at hL2 hgl ⊢
 generalize hgb:w1.heap.size=gb at hH2 hgl ⊢
 have hne:ga≠gb:=by omega
 unfold sliced_columns.l1
 refine acZ (fun st w'=>∃n:Nat,st=(((colF c n).toNat:Int),⟨ga,0,none⟩,⟨gb,0,none⟩,(n:Int),())∧n≤8∧Has w' gb (octG (colF c) n) 266∧Has w' ga (octG (colF c) 0) 266∧Ex w w') (fun st _=>((8:Int)-st.2.2.2.1).toNat) ?_
  ⟨0,rfl,Nat.zero_le _,hH2,hL2,hx12⟩
 rintro k _ w3 ⟨n,rfl,hn,hB3,hA3,hx3⟩ hk
 unfold sliced_columns.b1
 dsimp only at hk ⊢
 refine abZ (fun hlt=>?_) (fun hge=>?_)
 ·have hn8:n<8:=by omega
  refine Pu_arr (o:=0) (n:=8) (e:=5) (sz:=1) (by kernel_rfl) sB hn8 ?_
  rw[Nat.zero_add,Nat.mul_one]
  refine awZ (v:=f8v (colF c n)) hB3 sB (by intro u hu;obtain rfl:u=f8v (colF c n):=(by simpa [Value.cells] using hu);rfl) (by rw[octG_len];show n+1≤_;omega) fun w4 hB4 hm4=>?_
  have hB4':Has w4 gb (octG (colF c) (n+1)) 266:=by rw[←octG_set hn8];exact hB4
  refine auZ (d:=.one (.at (.int .u8))) (x:=((ahZ (colF c n) 2#8).toNat:Int)) (mul_gv (colF c n) 2#8 _) fun w5 hx5=>?_
  rw[adZ (by omega) (by omega),show(n:Int)+1=((n+1:Nat):Int) by omega]
  refine hk _ _ ⟨n+1,?_,by omega,hB4'.ex hx5,((hA3.mo hm4 hne).ex hx5),((hx3.into hm4 (fun i hi=>by omega)).trans hx5)⟩ (by dsimp only;omega)
  rw[colF,xt_fmul]
 ·have hn8:n=8:=by omega
  subst hn8
  refine bxZ (x:=tup8 (colF c)) hB3 (by kernel_rfl) rfl ?_
  refine sto8 (F:=colF c) hA3 (octG_len _ _) fun w4 hA4 hm4=>?_
  refine⟨tup8 (colF c),bfZ (cs:=afZ A8 (tup8 (colF c))) (by kernel_rfl) (has_part (l:=A8) (x:=tup8 (colF c)) (i:=0) hA4 rfl),?_⟩
  subst hRR
  exact⟨tup8 (colF c),rfl,rfl,hx3.into hm4 (fun i hi=>by omega)⟩
theorem shr_nat(x i:Nat)(hi:i<64):shR .u64 (x:Int) (i:Int)=((x >>> i:Nat):Int):=by
 unfold shR
 have:min ((i:Int).toNat) (IntKind.bits .u64)=i:=by
  show min ((i:Int).toNat) 64=i
  rw[Int.toNat_natCast];omega
 rw[this,Int.fdiv_eq_ediv_of_nonneg _ (Int.le_of_lt (Int.pow_pos (by decide))),Nat.shiftRight_eq_div_pow]
 norm_cast
theorem ones8:(72340172838076673:Int)=((wrd (List.replicate 8 1#8):Nat):Int):=by decide+kernel
abbrev ColK(w:World)(pb:Nat)(c:F8):Prop:=Has w pb (octG (colF c) 8) 266
theorem word_gv{w:World}{pb:Nat}{c:F8}{xs:List F8}(hK:ColK w pb c)(hl:xs.length=8):Gv Tryz.prog 200 #[.pointer (at0 pb),.int .u64 ((wrd xs:Nat):Int)] (.int .u64 ((wrd (xs.map (ahZ c)):Nat):Int)) w:=by
 refine sliced_word.run _ (at0 pb) ((wrd xs:Nat):Int) w ?_
 unfold sliced_word.M sliced_word.l1
 have hz:wrd (xs.map (fun x=>selS c x 0))=0:=by
  have:∀ys:List F8,wrd (ys.map (fun x=>selS c x 0))=0:=fun ys=>by
   induction ys with
   | nil=>rfl
   | cons y ys ih=>rw[List.map_cons,wrd,ih];rfl
  exact this xs
 refine acZ (fun st w'=>∃n:Nat,st=(((wrd xs:Nat):Int),((wrd (xs.map (fun x=>selS c x n)):Nat):Int),at0 pb,(n:Int),())∧n≤8∧Ex w w') (fun st _=>((8:Int)-st.2.2.2.1).toNat) ?_ ⟨0,by rw[hz];rfl,Nat.zero_le _,Ex.refl _⟩
 rintro k _ w1 ⟨n,rfl,hn,hx1⟩ hk
 unfold sliced_word.b1
 dsimp only at hk ⊢
 refine abZ (fun hlt=>?_) (fun hge=>?_)
 ·have hn8:n<8:=by omega
  have hx2:=hx1.trans (Ex.drew w1)
  refine agZ ?_
  refine Pu_arr (o:=0) (n:=8) (e:=5) (sz:=1) (by kernel_rfl) sB hn8 ?_
  rw[Nat.zero_add,Nat.mul_one]
  refine boZ (ajZ (c:=.int .u8) (x:=((colF c n).toNat:Int)) (hK.ex hx2) oB (octG_at hn8 hn8) ?_)
  refine Pu_shr (by omega) ?_
  have hc:=(colF c n).isLt
  have hb:=bQZ (xs:=xs) (by omega)
  have hs:=bQZ (xs:=xs.map (fun x=>selS c x n)) (by simp;omega)
  have ho:=bQZ (xs:=List.replicate 8 1#8) (by simp)
  have hm:=bQZ (xs:=xs.map (maskF n)) (by simp;omega)
  have hp:=bQZ (xs:=List.replicate 8 (colF c n)) (by simp)
  have e1:=wrd_mask n hn8 xs
  have e2:=wrd_255 n xs
  have e3:=wrd_mul (colF c n) 8
  have e4:=wrd_step c n hn8 xs
  rw[hl]at e1 e4
  have hsh:wrd xs >>> n<18446744073709551616:=Nat.lt_of_le_of_lt (Nat.shiftRight_le _ _) hb
  rw[shr_nat _ _ (by omega),ones8,bAnd_nat .u64 64 (.inr ⟨rfl,rfl⟩) _ _ hsh ho,aNZ (x:=((colF c n).toNat:Int)) (by omega) (by omega)]
  rw[show(((wrd xs >>> n &&& wrd (List.replicate 8 1#8):Nat):Int))*255=(((wrd xs >>> n &&& wrd (List.replicate 8 1#8))*255:Nat):Int) by norm_cast]
  rw[show(((colF c n).toNat:Nat):Int)*((wrd (List.replicate 8 1#8):Nat):Int)=(((colF c n).toNat*wrd (List.replicate 8 1#8):Nat):Int) by norm_cast]
  have hm':(wrd xs >>> n &&& wrd (List.replicate 8 1#8))*255<18446744073709551616:=by rw[e1,e2];exact hm
  have hp':(colF c n).toNat*wrd (List.replicate 8 1#8)<18446744073709551616:=by rw[e3];exact hp
  rw[aNZ (x:=(((wrd xs >>> n &&& wrd (List.replicate 8 1#8))*255:Nat):Int)) (by omega) (by omega),aNZ (x:=(((colF c n).toNat*wrd (List.replicate 8 1#8):Nat):Int)) (by omega) (by omega)]
  rw[bAnd_nat .u64 64 (.inr ⟨rfl,rfl⟩) _ _ hm' hp',bXor_nat .u64 64 (.inr ⟨rfl,rfl⟩) _ _ hs (Nat.lt_of_le_of_lt Nat.and_le_left hm'),e4]
  rw[adZ (by omega) (by omega),show(n:Int)+1=((n+1:Nat):Int) by omega]
  exact hk _ _ ⟨n+1,rfl,by omega,hx2⟩ (by dsimp only;omega)
 ·have hn8:n=8:=by omega
  subst hn8
  refine⟨?_,hx1⟩
  rw[show(fun x=>selS c x 8)=ahZ c from funext fun x=>selS_8 c x]
theorem load_gv{w:World}{s:Sl}{l:List F8}(hr:Rds f8v w s l)(hl:8≤l.length):Gv Tryz.prog 201 #[.slice s.base s.len s.cap] (.int .u64 ((wrd (l.take 8):Nat):Int)) w:=by
 refine sliced_load.run _ s w ?_
 unfold sliced_load.M sliced_load.l1
 have hl8:(l.take 8).length=8:=by rw[List.length_take];omega
 refine acZ (fun st w'=>∃n:Nat,st=(s,((wrd ((l.take 8).drop n):Nat):Int),(n:Int)-1,())∧n≤8∧w'=w) (fun st _=>(st.2.2.1+1).toNat) ?_ ⟨8,by rw[List.drop_of_length_le (by omega)];rfl,Nat.le_refl _,rfl⟩
 rintro k _ w1 ⟨n,rfl,hn,rfl⟩ hk
 unfold sliced_load.b1
 dsimp only at hk ⊢
 refine abZ (fun hlt=>?_) (fun hge=>?_)
 ·obtain⟨j,rfl⟩:∃j,n=j+1:=⟨n-1,by omega⟩
  rw[show((j+1:Nat):Int)-1=(j:Int) by omega]
  have hj:l[j]? =some l[j]:=List.getElem?_eq_getElem (by omega)
  have hj2:(l.take 8)[j]? =some l[j]:=by rw[List.getElem?_take,if_pos (by omega)];exact hj
  refine byZ hr hj ?_
  have hb:=bQZ (xs:=(l.take 8).drop j) (by rw[List.length_drop];omega)
  have hc:=(l[j]).isLt
  have e:(l.take 8).drop j=l[j]::(l.take 8).drop (j+1):=by
   have:=List.drop_eq_getElem_cons (l:=l.take 8) (i:=j) (by omega)
   rw[this]
   congr 1
   rw[List.getElem?_eq_getElem (by omega)]at hj2
   exact Option.some.inj hj2
  have e2:wrd ((l.take 8).drop (j+1))*256+(l[j]).toNat=wrd ((l.take 8).drop j):=by rw[e,wrd];omega
  rw[byte_or hc (by rw[e2];exact hb),e2,adZ (by omega) (by omega)]
  exact hk _ _ ⟨j,rfl,by omega,rfl⟩ (by dsimp only;omega)
 ·have h0:n=0:=by omega
  subst h0
  rw[List.drop_zero]
  exact⟨rfl,Ex.refl _⟩
theorem lay_ok{w:World}{d:Sl}{g o:Nat}{cs:List Value}{l xs:List F8}(hW:Win w d g o cs l)(hl:8≤l.length)(hx:xs.length=8):
  Cl Tryz.prog 202 #[.slice d.base d.len d.cap,.int .u64 ((wrd xs:Nat):Int)] (.tup []) (fun _ w'=>Win w' d g o cs (xs++l.drop 8)∧Mo (fun b=>b=g) w w') w:=by
 refine sliced_lay.run _ d ((wrd xs:Nat):Int) w ?_
 unfold sliced_lay.M sliced_lay.l1
 have hA:(xs++l.drop 8).length=l.length:=by rw[List.length_append,List.length_drop];omega
 refine acZ (fun st w'=>∃j:Nat,st=(d,((wrd xs:Nat):Int),(j:Int),())∧j≤8∧Win w' d g o cs ((xs++l.drop 8).take j++l.drop j)∧Mo (fun b=>b=g) w w') (fun st _=>((8:Int)-st.2.2.1).toNat) ?_ ⟨0,rfl,Nat.zero_le _,by simpa using hW,Mo.refl _ _⟩
 rintro k _ w1 ⟨j,rfl,hj,hW1,hm1⟩ hk
 unfold sliced_lay.b1
 dsimp only at hk ⊢
 refine abZ (fun hlt=>?_) (fun hge=>?_)
 ·have hj8:j<8:=by omega
  have ew:IntKind.wrap .i64 (8*(j:Int))=((8*j:Nat):Int):=by rw[adZ (by omega) (by omega)];omega
  rw[ew]
  refine Pu_shr (by omega) ?_
  rw[shr_nat _ _ (by omega)]
  have hxj:xs[j]? =some xs[j]:=List.getElem?_eq_getElem (by omega)
  have hAj:(xs++l.drop 8)[j]? =some xs[j]:=by rw[List.getElem?_append_left (by omega)];exact hxj
  have hcur:((xs++l.drop 8).take j++l.drop j).length=l.length:=by rw[List.length_append,List.length_take,List.length_drop,hA];omega
  refine Wu_win (x:=xs[j]) hW1 (by omega) (by rw[aVZ,wrd_byte xs j _ hxj]) fun w2 hW2 hm2=>?_
  rw[step_set hA hAj]at hW2
  rw[adZ (by omega) (by omega),show(j:Int)+1=((j+1:Nat):Int) by omega]
  exact hk _ _ ⟨j+1,rfl,by omega,hW2,Mo.trans hm1 hm2 (fun _=>id) (fun _ _=>id)⟩ (by dsimp only;omega)
 ·have hj8:j=8:=by omega
  subst hj8
  have e:(xs++l.drop 8).take 8++l.drop 8=xs++l.drop 8:=by rw[List.take_left' hx]
  rw[e]at hW1
  exact⟨(),rfl,hW1,hm1⟩
end Go.Proofs.YtbiilejgfihohaaGreat
namespace Go.Proofs.YtbiilejgfihohaaGreat
open Go Go.Cu Go.RowKit
def beZ(s:Sl)(a b:Nat):Sl:=⟨if s.cap=a then s.base else s.base.map (·.add a),b-a,s.cap-a⟩
theorem bKZ{t e:TypeId}{s:Sl}{lo hi:Option Value}(a b:Nat){k:Sl→World→Prop}{w:World}(ht:Tryz.prog.underlying t=some (.slice e))(hs:aWZ Tryz.prog e 1=true)
  (hlo:(lo=none∧a=0)∨∃k,lo=some (.int k a)) (hhi:(hi=none∧b=s.len)∨∃k,hi=some (.int k b)) (h1:a≤b) (h2:b≤s.cap) (hk:k (beZ s a b) w):
  Pu Tryz.prog (Instr.sliceAt t (.slice s.base s.len s.cap) lo hi none) (.one (.at .sl)) k w:=by
 refine⟨beZ s a b,fun w'=>?_,hk⟩
 have:=run_sliceAt (P:=Tryz.prog) (s:=s) (w:=w') (l:=a) (h:=b) ht hs hlo hhi h1 h2
 rw[Nat.mul_one]at this
 exact this
theorem bTZ{α:Type}{f:α→Value}{w:World}{s:Sl}{l:List α}(hr:Rds f w s l){a b:Nat}(h1:a≤b)(h2:b≤l.length):Rds f w (beZ s a b) ((l.take b).drop a):=Rds.slice hr h1 h2
theorem cut_in{s:Sl}{a b:Nat}{g:Nat}(h:SlIn (beZ s a b) g):SlIn s g:=by
 obtain⟨x,hx,hg⟩:=h
 unfold beZ at hx
 simp only at hx
 split at hx
 ·exact⟨x,hx,hg⟩
 ·cases hb:s.base with
  | none=>rw[hb]at hx;cases hx
  | some y=>rw[hb]at hx;cases hx;exact⟨y,hb,by rw[←hg];exact(Addr.add_block y a).symm⟩
theorem Win.cut{w:World}{s:Sl}{g o:Nat}{cs:List Value}{l:List F8}{a b:Nat}(h:Win w s g o cs l)(hab:a≤b)(hb:b≤l.length):Win w (beZ s a b) g (o+a) (bFZ cs o l) ((l.take b).drop a):=by
 have hc:=h.cap
 have hl:=h.len
 refine h.sub hab hb rfl (by unfold beZ;simp only;omega) (fun hlt=>?_)
 unfold beZ
 simp only
 rw[if_neg (by omega),h.base (by omega)]
 simp only[Option.map_some,Option.some.injEq]
 unfold Addr.add;split
 ·rename_i e;rw[e];rfl
 ·rfl
theorem putW_back{cs:List Value}{o:Nat}{l m:List F8}{a b:Nat}(hab:a≤b)(hb:b≤l.length)(hm:m.length=b-a)(h:o+l.length≤cs.length):bFZ (bFZ cs o l) (o+a) m=bFZ cs o (l.take a++m++l.drop b):=by
 have hl:(l.take a++m++l.drop b).length=l.length:=by rw[List.length_append,List.length_append,List.length_take,List.length_drop];omega
 have hA:(cs.take o).length=o:=by rw[List.length_take];omega
 have h1:(bFZ cs o l).take (o+a)=cs.take o++(l.map f8v).take a:=by
  unfold bFZ
  rw[List.append_assoc,List.take_append,hA,List.take_of_length_le (by omega),Nat.add_sub_cancel_left,List.take_append_of_le_length (by rw[List.length_map];omega)]
 have h2:(bFZ cs o l).drop (o+b)=(l.map f8v).drop b++cs.drop (o+l.length):=by
  unfold bFZ
  rw[List.append_assoc,List.drop_append,hA,List.drop_of_length_le (by omega),List.nil_append,Nat.add_sub_cancel_left,List.drop_append_of_le_length (by rw[List.length_map];omega)]
 have e:bFZ (bFZ cs o l) (o+a) m=(bFZ cs o l).take (o+a)++m.map f8v++(bFZ cs o l).drop (o+a+m.length):=rfl
 rw[e,show o+a+m.length=o+b by omega,h1,h2]
 unfold bFZ
 rw[hl,List.map_append,List.map_append,List.map_take,List.map_drop]
 simp only[List.append_assoc]
theorem Win.back{w w':World}{s:Sl}{g o:Nat}{cs:List Value}{l m:List F8}{a b:Nat}(h:Win w s g o cs l)(hab:a≤b)(hb:b≤l.length)(hm:m.length=b-a)(h':Win w' (beZ s a b) g (o+a) (bFZ cs o l) m):Win w' s g o cs (l.take a++m++l.drop b):=by
 refine h.to (by simp;omega) ?_
 rw[←putW_back hab hb hm h.le]
 exact h'.has
structure TailB(w:World)(bp bd bs bk pb g:Nat)(d sc:Sl)(c:F8)(ls:List F8):Prop where
 hp:Has w bp [.pointer (at0 pb)] 269
 hd:Has w bd [slV d] 24
 hs:Has w bs [slV sc] 24
 hk:Has w bk [.int .u8 255] 5
 col:ColK w pb c
 src:Rds f8v w sc ls
 np:bp≠g
 nd:bd≠g
 ns:bs≠g
 nk:bk≠g
 nc:pb≠g
 nr:∀b,b<w.heap.size→SlIn sc b→b≠g
theorem TailB.mo{w w':World}{bp bd bs bk pb g:Nat}{d sc:Sl}{c:F8}{ls:List F8}(h:TailB w bp bd bs bk pb g d sc c ls)(m:Mo (fun b=>b=g) w w')(hnr:∀b,SlIn sc b→b≠g):TailB w' bp bd bs bk pb g d sc c ls:=
 ⟨h.hp.mo m h.np,h.hd.mo m h.nd,h.hs.mo m h.ns,h.hk.mo m h.nk,h.col.mo m h.nc,h.src.mo m (fun a ha=>hnr _ (aYZ ha)),h.np,h.nd,h.ns,h.nk,h.nc,fun b _ hb=>hnr b hb⟩
theorem TailB.ex{w w':World}{bp bd bs bk pb g:Nat}{d sc:Sl}{c:F8}{ls:List F8}(h:TailB w bp bd bs bk pb g d sc c ls)(x:Ex w w')(hnr:∀b,SlIn sc b→b≠g):TailB w' bp bd bs bk pb g d sc c ls:=h.mo (x.weak (fun _ _ h=>h.elim)) hnr
theorem word1_gv{w:World}{pb:Nat}{c x:F8}(hK:ColK w pb c):∃v:Int,Gv Tryz.prog 200 #[.pointer (at0 pb),.int .u64 (IntKind.wrap .u64 (x.toNat:Int))] (.int .u64 v) w∧IntKind.wrap .u8 v=((ahZ c x).toNat:Int):=by
 have hx:=x.isLt
 have e:wrd (x::List.replicate 7 0#8)=x.toNat:=by simp[wrd]
 have h:=word_gv (xs:=x::List.replicate 7 0#8) hK rfl
 rw[e]at h
 refine⟨_,by rw[aNZ (x:=(x.toNat:Int)) (by omega) (by omega)];exact h,?_⟩
 rw[aVZ,List.map_cons]
 have:=wrd_byte (ahZ c x::(List.replicate 7 0#8).map (ahZ c)) 0 (ahZ c x) rfl
 simp only[Nat.mul_zero,Nat.shiftRight_zero]at this
 rw[this]
theorem one_ok{w:World}{bp bd bs bk pb g o i:Nat}{d sc:Sl}{c x y:F8}{cs:List Value}{l ls:List F8}(hB:TailB w bp bd bs bk pb g d sc c ls)(hnr:∀b,SlIn sc b→b≠g)(hW:Win w d g o cs l)(hx:l[i]? =some x)(hy:ls[i]? =some y):
  Cl Tryz.prog 204 #[.int .i64 (i:Int),.pointer (some ⟨bd,0,none⟩),.pointer (some ⟨bk,0,none⟩),.pointer (some ⟨bp,0,none⟩),.pointer (some ⟨bs,0,none⟩)] (.tup []) (fun _ w'=>Win w' d g o cs (l.set i (x ^^^ ahZ c y))∧Mo (fun b=>b=g) w w') w:=by
 refine sliced_tail_1.run _ (i:Int) ⟨bd,0,none⟩ ⟨bk,0,none⟩ ⟨bp,0,none⟩ ⟨bs,0,none⟩ w ?_
 generalize hRR:(fun(e:Ending) (w':World)=>∃x_1:Cxs [],e=.returned ((Sh.tup []).enc x_1)∧Win w' d g o cs (l.set i (x ^^^ ahZ c y))∧Mo (fun b=>b=g) w w')=R
 unfold sliced_tail_1.M
 have hi:=(List.getElem?_eq_some_iff.1 hx).1
 have hxl:=x.isLt
 have hd:=Ex.drew w
 have hBd:=hB.ex hd hnr
 have hWd:=hW.ex hd
 refine asZ (fun w'=>TailB w' bp bd bs bk pb g d sc c ls) hBd ?_
 refine akZ (c:=.sl) (x:=d) (fun w' h=>h.hd) (by kernel_rfl) rfl ?_
 refine akZ (c:=.sl) (x:=d) (fun w' h=>h.hd) (by kernel_rfl) rfl ?_
 refine Pu_win hWd hi ?_
 refine akZ (c:=.int .u8) (x:=255) (fun w' h=>h.hk) oB rfl ?_
 refine akZ (c:=.ptr) (x:=at0 pb) (fun w' h=>h.hp) (by kernel_rfl) rfl ?_
 refine akZ (c:=.sl) (x:=sc) (fun w' h=>h.hs) (by kernel_rfl) rfl ?_
 refine rdS_ent hBd.src (fun w' h=>⟨ls,h.src,hy⟩) hy ?_
 have hand:bAnd .u8 (x.toNat:Int) 255=(x.toNat:Int):=by
  rw[show(255:Int)=((255:Nat):Int) from rfl,bAnd_nat .u8 8 (.inl ⟨rfl,rfl⟩) _ 255 (by omega) (by decide)]
  have:=Nat.and_two_pow_sub_one_eq_mod x.toNat 8
  rw[show(2:Nat) ^ 8-1=255 by decide]at this
  rw[this,Nat.mod_eq_of_lt (by omega)]
 have fin:∀{w5:World},TailB w5 bp bd bs bk pb g d sc c ls→Win w5 d g o cs l→Ex w w5→∀v:Int,IntKind.wrap .u8 v=((ahZ c y).toNat:Int)→Pu Tryz.prog (Instr.indexAt 24 (.slice d.base d.len d.cap) (.int .i64 (i:Int))) (.one (.at .addr)) (fun(x22:Addr) w23=>
   Wu Tryz.prog (Instr.storeAt 5 (.pointer (some x22)) (.int .u8 (bXor .u8 (bAnd .u8 (x.toNat:Int) 255) (IntKind.wrap .u8 v)))) (fun w24=>TailB w24 bp bd bs bk pb g d sc c ls∧(R (.returned (.tuple #[])) w24)) w23) w5:=by
  intro w5 h5 hW5 hx5 v hv
  rw[hand,hv,bXor_f8]
  refine Wu_win hW5 hi rfl fun w6 hW6 hm6=>⟨h5.mo hm6 hnr,?_⟩
  subst hRR
  exact⟨(),rfl,hW6,hx5.mo hm6⟩
 obtain⟨v,hgv,hv⟩:=word1_gv (x:=y) hBd.col
 constructor
 ·refine Wr_win hWd hx ⟨hBd,?_⟩
  refine auZ (d:=.one (.at (.int .u64))) (x:=v) hgv fun w5 hx5=>⟨hBd.ex hx5 hnr,fin (hBd.ex hx5 hnr) (hWd.ex hx5) (hd.trans hx5) v hv⟩
 ·refine auZ (d:=.one (.at (.int .u64))) (x:=v) hgv fun w5 hx5=>⟨hBd.ex hx5 hnr,?_⟩
  refine Wr_win (hWd.ex hx5) hx ⟨hBd.ex hx5 hnr,fin (hBd.ex hx5 hnr) (hWd.ex hx5) (hd.trans hx5) v hv⟩
theorem call_one(i:Int)(a b c d:Addr)(w:World):(do let d ←Deferred.ofValue (.func (.func 204) #[] #[(.pointer (some a)),(.pointer (some b)),(.pointer (some c)),(.pointer (some d))]) #[(.int .i64 i)];invoke d.target d.args:Sem Next).run Tryz.prog w=.ok (.enter 204 #[.int .i64 i,.pointer (some a),.pointer (some b),.pointer (some c),.pointer (some d)]) w:=by kernel_rfl
theorem tail_ok{w:World}{pb g o:Nat}{d sc:Sl}{c:F8}{cs:List Value}{l ls:List F8}(hK:ColK w pb c)(hW:Win w d g o cs l)(hr:Rds f8v w sc ls)(hl:ls.length=l.length)(h7:l.length≤7)(hnr:∀b,SlIn sc b→b≠g)(hpg:pb≠g):
  Cl Tryz.prog 203 #[.pointer (at0 pb),.slice d.base d.len d.cap,.slice sc.base sc.len sc.cap,.int .u8 255] (.tup []) (fun _ w'=>Win w' d g o cs (aUZ ls c l)∧Mo (fun b=>b=g) w w') w:=by
 refine sliced_tail.run _ (at0 pb) d sc 255 w ?_
 generalize hRR:(fun(e:Ending) (w':World)=>∃x_1:Cxs [],e=.returned ((Sh.tup []).enc x_1)∧Win w' d g o cs (aUZ ls c l)∧Mo (fun b=>b=g) w w')=R
 unfold sliced_tail.M
 have hgl:=hW.has.lt
 have hAl:(aUZ ls c l).length=l.length:=by rw[btZ hl.symm,hl]
 refine bcZ fun w1 h1 x1=>bcZ fun w2 h2 x2=>bcZ fun w3 h3 x3=>bcZ fun w4 h4 x4=>?_
 have s1:=x1.size
 have s2:=x2.size
 have s3:=x3.size
 have hx:Ex w w4:=((x1.trans x2).trans x3).trans x4
 have hB:TailB w4 w.heap.size w1.heap.size w2.heap.size w3.heap.size pb g d sc c ls:=
  ⟨h1.ex ((x2.trans x3).trans x4),h2.ex (x3.trans x4),h3.ex x4,h4,hK.ex hx,hr.ex hx,by omega,by omega,by omega,by omega,hpg,fun b _ hb=>hnr b hb⟩
 generalize w.heap.size=bp at hB ⊢
 generalize w1.heap.size=bd at hB ⊢
 generalize w2.heap.size=bs at hB ⊢
 generalize w3.heap.size=bk at hB ⊢
 refine ajZ (c:=.sl) (x:=sc) hB.hs (by kernel_rfl) rfl ?_
 have hsl:=hr.1
 have st:∀{w5:World} {n:Nat} {K:World→Prop},n<l.length→(Win w5 d g o cs (l.take (n+1)++(aUZ ls c l).drop (n+1))∧Mo (fun b=>b=g) w4 w5)→(∀w6,(Win w6 d g o cs (l.take n++(aUZ ls c l).drop n)∧Mo (fun b=>b=g) w4 w6)→K w6)→
   Cl Tryz.prog 204 #[.int .i64 (n:Int),.pointer (some ⟨bd,0,none⟩),.pointer (some ⟨bk,0,none⟩),.pointer (some ⟨bp,0,none⟩),.pointer (some ⟨bs,0,none⟩)] (.tup []) (fun _ w'=>K w') w5:=by
  intro w5 n K hn h5 hk
  have hxn:l[n]? =some l[n]:=List.getElem?_eq_getElem hn
  have hyn:ls[n]? =some ls[n]:=List.getElem?_eq_getElem (by omega)
  have hcur:(l.take (n+1)++(aUZ ls c l).drop (n+1))[n]? =some l[n]:=by rw[List.getElem?_append_left (by simp;omega),List.getElem?_take,if_pos (by omega)];exact hxn
  refine aeZ (one_ok (hB.mo h5.2 hnr) hnr h5.1 hcur hyn) ?_
  rintro _ w6 ⟨h6,hm6⟩
  refine hk w6 ⟨?_,Mo.trans h5.2 hm6 (fun _=>id) (fun _ _=>id)⟩
  have e:(l.take (n+1)++(aUZ ls c l).drop (n+1)).set n (l[n] ^^^ ahZ c ls[n])=l.take n++(aUZ ls c l).drop n:=by
   have h1:(aUZ ls c l)[n]? =some (l[n] ^^^ ahZ c ls[n]):=addM_at hxn hyn
   refine List.ext_getElem? fun j=>?_
   rw[List.getElem?_set]
   by_cases hj:n=j
   ·subst hj
    rw[if_pos rfl,if_pos (by simp;omega),List.getElem?_append_right (by simp;omega),List.getElem?_drop,List.length_take,Nat.min_eq_left (by omega),Nat.sub_self,Nat.add_zero,h1]
   ·rw[if_neg hj]
    by_cases hj2:j<n
    ·rw[List.getElem?_append_left (by simp;omega),List.getElem?_append_left (by simp;omega),List.getElem?_take,List.getElem?_take,if_pos (by omega),if_pos hj2]
    ·rw[List.getElem?_append_right (by simp;omega),List.getElem?_append_right (by simp;omega),List.getElem?_drop,List.getElem?_drop,List.length_take,List.length_take]
     congr 1
     omega
  rw[e]at h6
  exact h6
 have nx:∀{w5:World} {n:Nat} {i:Int} {K:World→Prop},i=(n:Int)→n<l.length→(Win w5 d g o cs (l.take (n+1)++(aUZ ls c l).drop (n+1))∧Mo (fun b=>b=g) w4 w5)→(∀w6,(Win w6 d g o cs (l.take n++(aUZ ls c l).drop n)∧Mo (fun b=>b=g) w4 w6)→K w6)→
   Nx Tryz.prog (do let d ←Deferred.ofValue (.func (.func 204) #[] #[(.pointer (some ⟨bd,0,none⟩)),(.pointer (some ⟨bk,0,none⟩)),(.pointer (some ⟨bp,0,none⟩)),(.pointer (some ⟨bs,0,none⟩))]) #[(.int .i64 i)];invoke d.target d.args) (.tup []) (fun _ w'=>K w') w5:=by
  intro w5 n i K hi hn h5 hk
  subst hi
  exact .inr (.inl ⟨_,_,_,call_one _ _ _ _ _ w5,st hn h5 hk⟩)
 have dn:∀{w5:World},(Win w5 d g o cs (l.take 0++(aUZ ls c l).drop 0)∧Mo (fun b=>b=g) w4 w5)→R (.returned (.tuple #[])) w5:=by
  intro w5 h5
  subst hRR
  exact⟨(),rfl,by simpa using h5.1,hx.mo h5.2⟩
 have k1:∀{w5:World},1≤l.length→(Win w5 d g o cs (l.take 1++(aUZ ls c l).drop 1)∧Mo (fun b=>b=g) w4 w5)→sliced_tail.j1 R (.func (.func 204) #[] #[(.pointer (some ⟨bd,0,none⟩)),(.pointer (some ⟨bk,0,none⟩)),(.pointer (some ⟨bp,0,none⟩)),(.pointer (some ⟨bs,0,none⟩))]) w5:=
  fun hn h5=>nx (n:=0) rfl (by omega) h5 (fun w6 h6=>dn h6)
 have k2:∀{w5:World},2≤l.length→(Win w5 d g o cs (l.take 2++(aUZ ls c l).drop 2)∧Mo (fun b=>b=g) w4 w5)→sliced_tail.j2 R (.func (.func 204) #[] #[(.pointer (some ⟨bd,0,none⟩)),(.pointer (some ⟨bk,0,none⟩)),(.pointer (some ⟨bp,0,none⟩)),(.pointer (some ⟨bs,0,none⟩))]) w5:=
  fun hn h5=>nx (n:=1) rfl (by omega) h5 (fun w6 h6=>k1 (by omega) h6)
 have k3:∀{w5:World},3≤l.length→(Win w5 d g o cs (l.take 3++(aUZ ls c l).drop 3)∧Mo (fun b=>b=g) w4 w5)→sliced_tail.j3 R (.func (.func 204) #[] #[(.pointer (some ⟨bd,0,none⟩)),(.pointer (some ⟨bk,0,none⟩)),(.pointer (some ⟨bp,0,none⟩)),(.pointer (some ⟨bs,0,none⟩))]) w5:=
  fun hn h5=>nx (n:=2) rfl (by omega) h5 (fun w6 h6=>k2 (by omega) h6)
 have k4:∀{w5:World},4≤l.length→(Win w5 d g o cs (l.take 4++(aUZ ls c l).drop 4)∧Mo (fun b=>b=g) w4 w5)→sliced_tail.j4 R (.func (.func 204) #[] #[(.pointer (some ⟨bd,0,none⟩)),(.pointer (some ⟨bk,0,none⟩)),(.pointer (some ⟨bp,0,none⟩)),(.pointer (some ⟨bs,0,none⟩))]) w5:=
  fun hn h5=>nx (n:=3) rfl (by omega) h5 (fun w6 h6=>k3 (by omega) h6)
 have k5:∀{w5:World},5≤l.length→(Win w5 d g o cs (l.take 5++(aUZ ls c l).drop 5)∧Mo (fun b=>b=g) w4 w5)→sliced_tail.j5 R (.func (.func 204) #[] #[(.pointer (some ⟨bd,0,none⟩)),(.pointer (some ⟨bk,0,none⟩)),(.pointer (some ⟨bp,0,none⟩)),(.pointer (some ⟨bs,0,none⟩))]) w5:=
  fun hn h5=>nx (n:=4) rfl (by omega) h5 (fun w6 h6=>k4 (by omega) h6)
 have k6:∀{w5:World},6≤l.length→(Win w5 d g o cs (l.take 6++(aUZ ls c l).drop 6)∧Mo (fun b=>b=g) w4 w5)→sliced_tail.j6 R (.func (.func 204) #[] #[(.pointer (some ⟨bd,0,none⟩)),(.pointer (some ⟨bk,0,none⟩)),(.pointer (some ⟨bp,0,none⟩)),(.pointer (some ⟨bs,0,none⟩))]) w5:=
  fun hn h5=>nx (n:=5) rfl (by omega) h5 (fun w6 h6=>k5 (by omega) h6)
 have beg:∀n,n=l.length→Win w4 d g o cs (l.take n++(aUZ ls c l).drop n)∧Mo (fun b=>b=g) w4 w4:=by
  rintro n rfl
  rw[List.take_length,List.drop_of_length_le (by omega),List.append_nil]
  exact⟨hW.ex hx,Mo.refl _ _⟩
 refine aJZ (fun h=>?_) (fun n7=>aJZ (fun h=>k6 (by omega) (beg 6 (by omega))) (fun n6=>aJZ (fun h=>k5 (by omega) (beg 5 (by omega))) (fun n5=>aJZ (fun h=>k4 (by omega) (beg 4 (by omega))) (fun n4=>aJZ (fun h=>k3 (by omega) (beg 3 (by omega))) (fun n3=>aJZ (fun h=>k2 (by omega) (beg 2 (by omega))) (fun n2=>aJZ (fun h=>k1 (by omega) (beg 1 (by omega))) (fun n1=>dn (beg 0 (by omega)))))))))
 exact st (n:=6) (by omega) (beg 7 (by omega)) (fun w6 h6=>k6 (by omega) h6)
end Go.Proofs.YtbiilejgfihohaaGreat
namespace Go.Proofs.YtbiilejgfihohaaGreat
open Go Go.Cu Go.RowKit
theorem addM_drop(ls l:List F8)(c:F8)(n:Nat):aUZ (ls.drop n) c (l.drop n)=(aUZ ls c l).drop n:=by
 unfold aUZ
 rw[List.drop_zipWith]
theorem addM_take(ls l:List F8)(c:F8)(n:Nat):aUZ (ls.take n) c (l.take n)=(aUZ ls c l).take n:=by
 unfold aUZ
 rw[List.take_zipWith]
theorem Win.rest{w:World}{s:Sl}{g o:Nat}{cs:List Value}{l:List F8}{a:Nat}(h:Win w s g o cs l)(ha:a≤l.length):Win w (beZ s a s.len) g (o+a) (bFZ cs o l) (l.drop a):=by
 have hl:=h.len
 have:=h.cut (a:=a) (b:=s.len) (by omega) (by omega)
 have e:l.take s.len=l:=List.take_of_length_le (by omega)
 rw[e]at this
 exact this
theorem rds_rest{w:World}{s:Sl}{l:List F8}{a:Nat}(h:Rds f8v w s l)(ha:a≤l.length):Rds f8v w (beZ s a s.len) (l.drop a):=by
 have hl:=h.1
 have:=bTZ h (a:=a) (b:=s.len) (by omega) (by omega)
 have e:l.take s.len=l:=List.take_of_length_le (by omega)
 rw[e]at this
 exact this
theorem run_ok{w:World}{g o:Nat}{d sc:Sl}{c:F8}{cs:List Value}{l ls:List F8}(hW:Win w d g o cs l)(hr:Rds f8v w sc ls)(hl:ls.length=l.length)(hm:l.length≤140737488355328)(hnr:∀b,SlIn sc b→b≠g):
  Cl Tryz.prog 198 #[f8v c,.slice d.base d.len d.cap,.slice sc.base sc.len sc.cap,.int .u8 255] (.tup []) (fun _ w'=>Win w' d g o cs (aUZ ls c l)∧Mo (fun b=>b=g) w w') w:=by
 refine sliced_run.run _ (c.toNat:Int) d sc 255 w ?_
 generalize hRR:(fun(e:Ending) (w':World)=>∃x_1:Cxs [],e=.returned ((Sh.tup []).enc x_1)∧Win w' d g o cs (aUZ ls c l)∧Mo (fun b=>b=g) w w')=R
 unfold sliced_run.M
 have hgl:=hW.has.lt
 have hdl:=hW.len
 have hdc:=hW.cap
 have hsl:=hr.1
 have hsc:=hr.2.1
 have hAl:(aUZ ls c l).length=l.length:=by rw[btZ hl.symm,hl]
 refine aeZ (columns_ok c w) ?_
 rintro _ w1 ⟨rfl,hx1⟩
 refine alloc8 (colF c) fun w2 hC2 hx2=>?_
 have hs1:=hx1.size
 refine sto8 (F:=colF c) hC2 (octG_len _ _) fun w3 hC3 hm3=>?_
 have hx3:Ex w w3:=(hx1.trans hx2).into hm3 (fun i hi=>by omega)
 have hpg:w1.heap.size≠g:=by omega
 generalize w1.heap.size=pb at hC3 hpg ⊢
 obtain⟨q,hq⟩:∃q:Nat,q=l.length / 8:=⟨_,rfl⟩
 have en:IntKind.wrap .i64 ((IntKind.wrap .i64 (Int.tdiv ((sc.len:Nat):Int) 8))*8)=((8*q:Nat):Int):=by
  have:Int.tdiv ((sc.len:Nat):Int) 8=((q:Nat):Int):=by
   rw[Int.tdiv_eq_ediv_of_nonneg (by omega)];omega
  rw[this,adZ (x:=(q:Int)) (by omega) (by omega),adZ (by omega) (by omega)]
  omega
 rw[en]
 unfold sliced_run.l1
 refine acZ (fun st w'=>∃i:Nat,st=(d,sc,255,⟨pb,0,none⟩,((8*q:Nat):Int),((8*i:Nat):Int),())∧i≤q∧Win w' d g o cs ((aUZ ls c l).take (8*i)++l.drop (8*i))∧Mo (fun b=>b=g) w w'∧ColK w' pb c) (fun st _=>(((8*q:Nat):Int)-st.2.2.2.2.2.1).toNat) ?_
  ⟨0,rfl,Nat.zero_le _,by simpa using hW.ex hx3,hx3.weak (fun _ _ h=>h.elim),hC3⟩
 rintro k _ w4 ⟨i,rfl,hi,hW4,hm4,hC4⟩ hk
 unfold sliced_run.b1
 dsimp only at hk ⊢
 have hr4:Rds f8v w4 sc ls:=hr.mo hm4 (fun a ha=>hnr _ (aYZ ha))
 have hcur:((aUZ ls c l).take (8*i)++l.drop (8*i)).length=l.length:=by rw[List.length_append,List.length_take,List.length_drop,hAl];omega
 refine abZ (fun hlt=>?_) (fun hge=>?_)
 ·have hiq:i<q:=by omega
  have hX:(ls.drop (8*i)).take 8=(ls.drop (8*i)).take 8:=rfl
  generalize hXe:(ls.drop (8*i)).take 8=X at hX
  have hXl:X.length=8:=by rw[←hXe,List.length_take,List.length_drop];omega
  have hY:(l.drop (8*i)).take 8=(l.drop (8*i)).take 8:=rfl
  generalize hYe:(l.drop (8*i)).take 8=Y at hY
  have hYl:Y.length=8:=by rw[←hYe,List.length_take,List.length_drop];omega
  have hrc:Rds f8v w4 (beZ sc (8*i) sc.len) (ls.drop (8*i)):=rds_rest hr4 (by omega)
  refine bKZ (8*i) sc.len tB sB (.inr ⟨_,rfl⟩) (.inl ⟨rfl,rfl⟩) (by omega) (by omega) ?_
  refine auZ (d:=.one (.at (.int .u64))) (x:=((wrd X:Nat):Int)) (by rw[←hXe];exact load_gv hrc (by rw[List.length_drop];omega)) fun w5 hx5=>?_
  refine auZ (d:=.one (.at (.int .u64))) (x:=((wrd (X.map (ahZ c)):Nat):Int)) (word_gv (hC4.ex hx5) hXl) fun w6 hx6=>?_
  have hx46:=hx5.trans hx6
  have hW6:=hW4.ex hx46
  have hWc:Win w6 (beZ d (8*i) d.len) g (o+8*i) (bFZ cs o ((aUZ ls c l).take (8*i)++l.drop (8*i))) (l.drop (8*i)):=by
   have:=hW6.rest (a:=8*i) (by omega)
   rwa [List.drop_left' (by rw[List.length_take];omega)]at this
  refine Cd_of (fun _=>?_) (fun h=>by cases h)
  refine bKZ (8*i) d.len tB sB (.inr ⟨_,rfl⟩) (.inl ⟨rfl,rfl⟩) (by omega) (by omega) ?_
  refine auZ (d:=.one (.at (.int .u64))) (x:=((wrd Y:Nat):Int)) (by rw[←hYe];exact load_gv hWc.rds (by rw[List.length_drop];omega)) fun w7 hx7=>?_
  unfold sliced_run.j1
  have hb1:=bQZ (xs:=X.map (ahZ c)) (by rw[List.length_map];omega)
  have hb2:=bQZ (xs:=Y) (by omega)
  rw[bXor_nat .u64 64 (.inr ⟨rfl,rfl⟩) _ _ hb1 hb2,wrd_xor _ _ (by rw[List.length_map];omega)]
  have hZl:(List.zipWith (· ^^^ ·) (X.map (ahZ c)) Y).length=8:=by rw[List.length_zipWith,List.length_map];omega
  refine bKZ (8*i) d.len tB sB (.inr ⟨_,rfl⟩) (.inl ⟨rfl,rfl⟩) (by omega) (by omega) ?_
  refine aeZ (lay_ok (xs:=List.zipWith (· ^^^ ·) (X.map (ahZ c)) Y) (hWc.ex hx7) (by rw[List.length_drop];omega) hZl) ?_
  rintro _ w8 ⟨hW8,hm8⟩
  have hZ:List.zipWith (· ^^^ ·) (X.map (ahZ c)) Y=((aUZ ls c l).drop (8*i)).take 8:=by
   rw[←addM_drop,←addM_take,hXe,hYe]
   unfold aUZ
   refine List.ext_getElem? fun j=>?_
   rw[List.getElem?_zipWith,List.getElem?_zipWith,List.getElem?_map]
   cases h1:X[j]? with
   | none=>cases h2:Y[j]? <;> rfl
   | some x=>cases h2:Y[j]? with
    | none=>rfl
    | some y=>show some _=some _;rw[BitVec.xor_comm]
  have hback:=hW6.back (a:=8*i) (b:=d.len) (by omega) (by omega) (by rw[List.length_append,hZl,List.length_drop,List.length_drop];omega) hW8
  have e:List.take (8*i) (List.take (8*i) (aUZ ls c l)++List.drop (8*i) l)++(List.zipWith (· ^^^ ·) (X.map (ahZ c)) Y++List.drop 8 (List.drop (8*i) l))++List.drop d.len (List.take (8*i) (aUZ ls c l)++List.drop (8*i) l)=(aUZ ls c l).take (8*(i+1))++l.drop (8*(i+1)):=by
   rw[List.take_left' (by rw[List.length_take];omega),List.drop_of_length_le (l:=List.take (8*i) (aUZ ls c l)++List.drop (8*i) l) (by omega),List.append_nil,hZ,List.drop_drop,←List.append_assoc,show 8*(i+1)=8*i+8 by omega]
   congr 1
   rw[List.take_add]
  rw[e]at hback
  rw[adZ (by omega) (by omega),show((8*i:Nat):Int)+8=((8*(i+1):Nat):Int) by omega]
  refine hk _ _ ⟨i+1,rfl,by omega,hback,Mo.trans (hm4.ex (hx46.trans hx7)) hm8 (fun _=>id) (fun _ _=>id),(hC4.ex (hx46.trans hx7)).mo hm8 hpg⟩ (by dsimp only;omega)
 ·have hiq:i=q:=by omega
  subst hiq
  have hd:=Ex.drew w4
  refine asZ (fun _=>True) trivial ?_
  refine bKZ (8*i) d.len tB sB (.inr ⟨_,rfl⟩) (.inl ⟨rfl,rfl⟩) (by omega) (by omega) ?_
  refine bKZ (8*i) sc.len tB sB (.inr ⟨_,rfl⟩) (.inl ⟨rfl,rfl⟩) (by omega) (by omega) ?_
  have hrc:Rds f8v w4.drew (beZ sc (8*i) sc.len) (ls.drop (8*i)):=rds_rest (hr4.ex hd) (by omega)
  have hW5:=hW4.ex hd
  have hWc:Win w4.drew (beZ d (8*i) d.len) g (o+8*i) (bFZ cs o ((aUZ ls c l).take (8*i)++l.drop (8*i))) (l.drop (8*i)):=by
   have:=hW5.rest (a:=8*i) (by omega)
   rwa [List.drop_left' (by rw[List.length_take];omega)]at this
  refine aeZ (tail_ok (hC4.ex hd) hWc hrc (by rw[List.length_drop,List.length_drop];omega) (by rw[List.length_drop];omega) (fun b hb=>hnr b (cut_in hb)) hpg) ?_
  rintro _ w6 ⟨hW6,hm6⟩
  rw[addM_drop]at hW6
  have hback:=hW5.back (a:=8*i) (b:=d.len) (by omega) (by omega) (by rw[List.length_drop];omega) hW6
  have e:List.take (8*i) (List.take (8*i) (aUZ ls c l)++List.drop (8*i) l)++(aUZ ls c l).drop (8*i)++List.drop d.len (List.take (8*i) (aUZ ls c l)++List.drop (8*i) l)=aUZ ls c l:=by
   rw[List.take_left' (by rw[List.length_take];omega),List.drop_of_length_le (l:=List.take (8*i) (aUZ ls c l)++List.drop (8*i) l) (by omega),List.append_nil,List.take_append_drop]
  rw[e]at hback
  refine⟨trivial,?_⟩
  subst hRR
  exact⟨(),rfl,hback,Mo.trans (hm4.ex hd) hm6 (fun _=>id) (fun _ _=>id)⟩
theorem sliref_gv{w:World}{kb:Nat}{s src:Sl}(h:s.len=src.len):Gv Tryz.prog 197 #[.pointer (at0 kb),.slice s.base s.len s.cap,.slice src.base src.len src.cap] (.int .i64 0) w:=by
 refine sliced_Kernel_refuses.run _ (at0 kb) s src w ?_
 unfold sliced_Kernel_refuses.M
 refine Pu_notnil (e:=185) (by kernel_rfl) ?_
 refine aAZ (aEZ (fun h'=>by omega) (fun _=>⟨rfl,Ex.refl _⟩))
theorem sli_add{w:World}{kb g o:Nat}{s src:Sl}{cs:List Value}{l ls:List F8}{c:F8}(hW:Win w s g o cs l)(hr:Rds f8v w src ls)(hl:ls.length=l.length)(hg:∀b,SlIn src b→b≠g)(hm:l.length≤140737488355328):
  Cl Tryz.prog 196 #[.pointer (at0 kb),f8v c,.slice s.base s.len s.cap,.slice src.base src.len src.cap] (.one (.at (.int .i64))) (fun x w'=>x=0∧Win w' s g o cs (aUZ ls c l)∧Mo (fun b=>b=g) w w') w:=by
 refine sliced_Kernel_MulAdd.run _ (at0 kb) (c.toNat:Int) s src w ?_
 unfold sliced_Kernel_MulAdd.M
 have hsl:=hW.len
 have hrl:=hr.1
 refine auZ (d:=.one (.at (.int .i64))) (x:=0) (sliref_gv (by omega)) fun w1 hx1=>aAZ ?_
 refine aeZ (run_ok (hW.ex hx1) (hr.ex hx1) hl hm hg) ?_
 rintro _ w2 ⟨h2,m2⟩
 exact⟨0,rfl,rfl,h2,hx1.mo m2⟩
def kerT(b:Nat):TypeId:=if b=0 then 140 else if b=1 then 142 else 144
def kerV(b kb:Nat):Value:=.iface (kerT b) (.pointer (at0 kb))
def KerH(b kb:Nat)(w:World):Prop:=b=0→TabK w kb
theorem KerH.mo{X:Nat→Prop}{w w':World}{b kb:Nat}(h:KerH b kb w)(m:Mo X w w')(hx:¬X kb):KerH b kb w':=fun e=>(h e).mo m hx
theorem call_tab (kb : Nat) (c : Int) (b1 b2 : Option Addr) (l1 c1 l2 c2 : Nat) (w : World) : (callMethod (.iface 140 (.pointer (at0 kb))) "MulAdd" #[(.int .u8 c), (.slice b1 l1 c1), (.slice b2 l2 c2)]).run Tryz.prog w = .ok (.enter 189 #[.pointer (at0 kb), .int .u8 c, .slice b1 l1 c1, .slice b2 l2 c2]) w := by kernel_rfl
theorem call_nib (kb : Nat) (c : Int) (b1 b2 : Option Addr) (l1 c1 l2 c2 : Nat) (w : World) : (callMethod (.iface 142 (.pointer (at0 kb))) "MulAdd" #[(.int .u8 c), (.slice b1 l1 c1), (.slice b2 l2 c2)]).run Tryz.prog w = .ok (.enter 193 #[.pointer (at0 kb), .int .u8 c, .slice b1 l1 c1, .slice b2 l2 c2]) w := by kernel_rfl
theorem call_sli (kb : Nat) (c : Int) (b1 b2 : Option Addr) (l1 c1 l2 c2 : Nat) (w : World) : (callMethod (.iface 144 (.pointer (at0 kb))) "MulAdd" #[(.int .u8 c), (.slice b1 l1 c1), (.slice b2 l2 c2)]).run Tryz.prog w = .ok (.enter 196 #[.pointer (at0 kb), .int .u8 c, .slice b1 l1 c1, .slice b2 l2 c2]) w := by kernel_rfl
theorem ker_add{w:World}{b kb g o:Nat}{s src:Sl}{cs:List Value}{l ls:List F8}{c:F8}(hb:b≤2)(hK:KerH b kb w)(hkb:kb≠g)(hW:Win w s g o cs l)(hr:Rds f8v w src ls)(hl:ls.length=l.length)(hg:∀b,SlIn src b→b≠g)(hm:l.length≤140737488355328):
  Nx Tryz.prog (callMethod (kerV b kb) "MulAdd" #[f8v c, .slice s.base s.len s.cap, .slice src.base src.len src.cap]) (.one (.at (.int .i64))) (fun x w' => x = 0 ∧ Win w' s g o cs (aUZ ls c l) ∧ Mo (fun b => b = g) w w') w := by
 have h3:b=0∨b=1∨b=2:=by omega
 rcases h3 with rfl | rfl | rfl
 ·exact .inr (.inl ⟨_,_,_,call_tab _ _ _ _ _ _ _ _ w,tab_add (hK rfl) hW hr hl hg hkb hm⟩)
 ·exact .inr (.inl ⟨_,_,_,call_nib _ _ _ _ _ _ _ _ w,nib_add hW hr hl hg hm⟩)
 ·exact .inr (.inl ⟨_,_,_,call_sli _ _ _ _ _ _ _ _ w,sli_add hW hr hl hg hm⟩)
end Go.Proofs.YtbiilejgfihohaaGreat
