/- A part of what the last text of this claim leans on. -/
import Derived.Test.YtbiilejgfihohaaGreatGivesG
import Derived.Deep.DeepAppendWide
import Derived.ChangeSlices
import Derived.ChangeArms
import Derived.Deep.Slices
import Derived.Deep.DeepHandedRow
import Derived.Lib.LaidTab
import Derived.Carry
import Derived.SizedLaws
import Derived.Test.YtbiilejgfihohaaGreatRows
import Derived.WalkKit
import Derived.ProofKit
import Derived.OpenShut
set_option linter.all false
set_option maxHeartbeats 4000000
set_option maxRecDepth 100000
set_option autoImplicit false
namespace Go.Proofs.YtbiilejgfihohaaGreat
open Go Go.Cu Go.RowKit
abbrev L2:List At:=[.sl,.sl]
abbrev nil2:List Value:=[slV ⟨none,0,0⟩,slV ⟨none,0,0⟩]
theorem alloc2{w:World}{K:Addr→World→Prop}(hk:∀w',Has w' w.heap.size nil2 165→Ex w w'→K ⟨w.heap.size,0,none⟩ w'):Wr Tryz.prog (Instr.alloc 165 true (.tuple #[])) (.one (.at .addr)) K w:=
 Wr_alloc (z:=.agg #[.slice none 0 0,.slice none 0 0]) (by kernel_rfl) (fun w' h hx=>hk w' h hx)
theorem sto2{w5:World}{g:Nat}{x:Ats L2}{cs:List Value}{K:World→Prop}(hB:Has w5 g cs 165)(hc:cs.length=2)(hk:∀w6,Has w6 g (afZ L2 x) 165→Mo (fun b=>b=g) w5 w6→K w6):Wu Tryz.prog (Instr.storeAt 165 (.pointer (some ⟨g,0,none⟩)) (.agg (afZ L2 x).toArray)) K w5:=by
 refine awZ (v:=.agg (afZ L2 x).toArray) hB (by kernel_rfl) (by simp[Value.cells,afZ,Value.oneCell',At.enc]) (by rw[hc];exact Nat.le_refl 2) fun w6 hB6 hm6=>hk w6 ?_ hm6
 have e3:cs.drop (0+(Value.agg (afZ L2 x).toArray).cells.size)=[]:=List.drop_of_length_le (by rw[hc];exact Nat.le_refl 2)
 rw[e3,List.append_nil]at hB6
 exact hB6
theorem fits24{M:Nat}(h:M*24≤140737488355328):(M+1+(M+1) / 4+192)*24≤281474976710656:=by
 have hq:=Nat.div_mul_le_self (M+1) 4
 generalize (M+1) / 4=q at hq ⊢
 omega
theorem llay_ok{W0 w:World}{T:Ths}{kA kF km:Ky}{s:Sl}{hs:List Sl}{M:Mtx}(bare:Bool)(hAF:kA≠kF)(hAm:kA≠km)(hFm:kF≠km)(tA:∀i,kA≠.tm i)(tF:∀i,kF≠.tm i)(tm:∀i,km≠.tm i)(hS:Sep W0 w T)(hM0:MatR W0 s hs M)(hl:M.length*24≤140737488355328)(hrl:∀r∈M,r.length≤140737488355328):
  Cl Tryz.prog 102 #[.slice s.base s.len s.cap,.bool bare] (.one (.agg L2)) (fun x w'=>∃sA sF hA hF hm T',x=(sA,sF,())∧Sep W0 w' T'∧T' kA=ShT sA hA (layM M)∧T' kF=Owt slV 24 sF (hF++[hm])∧T' km=Owt f8v 5 hm [92#8]∧LinkL hA M hF∧∀q,q≠kA→q≠kF→q≠km→(∀i,q≠.tm i)→T' q=T q) w:=by
 refine q17lay.run _ s bare w ?_
 generalize hRR:(fun(e:Ending) (w':World)=>∃x:Ats L2,e=.returned ((Sh.one (.agg L2)).enc x)∧∃sA sF hA hF hm T',x=(sA,sF,())∧Sep W0 w' T'∧T' kA=ShT sA hA (layM M)∧T' kF=Owt slV 24 sF (hF++[hm])∧T' km=Owt f8v 5 hm [92#8]∧LinkL hA M hF∧∀q,q≠kA→q≠kF→q≠km→(∀i,q≠.tm i)→T' q=T q)=R
 unfold q17lay.M
 refine alloc2 fun w1 hB1 hx1=>?_
 have hS1:=hS.box (.tm 0) hx1 hB1
 generalize w.heap.size=g4 at hS1 ⊢
 refine alloc2 fun w2 hB2 hx2=>?_
 have hS2:=hS1.box (.tm 1) hx2 hB2
 generalize w1.heap.size=g5 at hS2 ⊢
 clear hB1 hB2
 have hS3:=(sh_zero kA hS2).new kF (G:=fun _=>False) (t:=Owt slV 24 ⟨none,0,0⟩ []) (Ex.refl _) ⟨Own.nil _ _ _ _,fun b ⟨_,h,_⟩=>by cases h⟩ (fun b hb=>hb.elim)
 obtain⟨T3,hT3e⟩:∃T3,T3=(((((T.up (.tm 0) (Cel g4 nil2 165)).up (.tm 1) (Cel g5 nil2 165)).up kA (ShT ⟨none,0,0⟩ [] []))).up kF (Owt slV 24 ⟨none,0,0⟩ [])):=⟨_,rfl⟩
 rw[←hT3e]at hS3
 have a3:T3 kA=ShT ⟨none,0,0⟩ [] (layM (M.take 0)):=by rw[hT3e,Ths.up_ne _ _ hAF,Ths.up_same];rfl
 have f3:T3 kF=Owt slV 24 ⟨none,0,0⟩ []:=by rw[hT3e,Ths.up_same]
 have x3:T3 (.tm 0)=Cel g4 nil2 165:=by rw[hT3e,Ths.up_ne _ _ (tF 0).symm,Ths.up_ne _ _ (tA 0).symm,Ths.up_ne _ _ (by simp),Ths.up_same]
 have y3:T3 (.tm 1)=Cel g5 nil2 165:=by rw[hT3e,Ths.up_ne _ _ (tF 1).symm,Ths.up_ne _ _ (tA 1).symm,Ths.up_same]
 have n3:∀q,q≠kA→q≠kF→(∀i,q≠.tm i)→T3 q=T q:=fun q h1 h2 h3=>by rw[hT3e,Ths.up_ne _ _ h2,Ths.up_ne _ _ h1,Ths.up_ne _ _ (h3 1),Ths.up_ne _ _ (h3 0)]
 clear hT3e
 have hsl:s.len=M.length:=by rw[hM0.hdr.1,hM0.len]
 unfold q17lay.l1
 refine acZ (fun st w'=>∃(i:Nat) (sA sF:Sl) (hA hF:List Sl) (T':Ths),st=(s,bare,⟨g4,0,none⟩,⟨g5,0,none⟩,(i:Int),())∧i≤M.length∧Sep W0 w' T'∧T' kA=ShT sA hA (layM (M.take i))∧T' kF=Owt slV 24 sF hF∧T' (.tm 0)=Cel g4 nil2 165∧T' (.tm 1)=Cel g5 (afZ L2 (sA,sF,())) 165∧LinkL hA (M.take i) hF∧
   ∀q,q≠kA→q≠kF→(∀i,q≠.tm i)→T' q=T q) (fun st _=>((M.length:Int)-st.2.2.2.2.1).toNat) ?_
  ⟨0,⟨none,0,0⟩,⟨none,0,0⟩,[],[],T3,rfl,Nat.zero_le _,hS3,a3,f3,x3,y3,⟨rfl,rfl,fun i h r h1=>by simp at h1⟩,n3⟩
 rintro k1 _ w4 ⟨i,sA,sF,hA,hF,T4,rfl,hi,hS4,a4,f4,x4,y4,hL4,n4⟩ hk1
 unfold q17lay.b1
 dsimp only at hk1 ⊢
 have hfl:hF.length=i:=by rw[hL4.len,List.length_take];omega
 refine abZ (fun hlt=>?_) (fun hge=>?_)
 ·have hiM:i<M.length:=by omega
  have b1:i+1≤140737488355328:=by omega
  have b2:(i+1)*24≤140737488355328:=by omega
  obtain⟨r,hr⟩:=atx (l:=M) (i:=i) hiM
  obtain⟨h,hh⟩:=atx (l:=hs) (i:=i) (by rw[hM0.len];exact hiM)
  have hrr:=hrl r (List.mem_of_getElem? hr)
  have hhl:h.len=r.length:=(hM0.row i h r hh hr).1
  have htk:M.take (i+1)=M.take i++[r]:=by rw[List.take_add_one,hr];rfl
  have hM4:=bmZ hS4 hM0
  refine atZ hM4.hdr hh ?_
  obtain⟨n,hn⟩:∃n,n=r.length+73:=⟨_,rfl⟩
  rw[hhl,adZ (x:=3+(r.length:Int)) (by omega) (by omega),adZ (by omega) (by omega)]
  refine bOZ (f:=f8v) (z:=0#8) tB iB rfl n (by omega) (by omega) (by omega) (by omega) fun a w5 ha hB5 hx5=>?_
  have hg5:w4.heap.size≤w4.heap.size:=Nat.le_refl _
  generalize hgE:w4.heap.size=g at ha hB5 hg5
  have hO5:Own f8v 5 w4.heap.size w5 ⟨at0 g,n,n⟩ (List.replicate n 0#8):=own_of_hasW (by simp) (by omega) hB5 (by omega)
  subst ha
  unfold q17lay.l2
  refine acZ (fun st w'=>∃j:Nat,st=(s,bare,⟨g4,0,none⟩,⟨g5,0,none⟩,(i:Int),⟨at0 g,n,n⟩,(j:Int),())∧j≤n∧Own f8v 5 w4.heap.size w' ⟨at0 g,n,n⟩ (List.replicate j 91#8++(List.replicate n 0#8).drop j)∧Ex w4 w') (fun st _=>((n:Int)-st.2.2.2.2.2.2.1).toNat) ?_
   ⟨0,rfl,Nat.zero_le _,by simpa using hO5,hx5⟩
  rintro k2 _ w6 ⟨j,rfl,hj,hO6,hx6⟩ hk2
  unfold q17lay.b2
  dsimp only at hk2 ⊢
  have hjl:(List.replicate j (91#8:F8)++(List.replicate n 0#8).drop j).length=n:=by rw[List.length_append,List.length_replicate,List.length_drop,List.length_replicate];omega
  refine abZ (fun hlt2=>?_) (fun hge2=>?_)
  ·have hj2:j<n:=by omega
   rw[show(Value.int .u8 91)=f8v 91#8 from rfl]
   refine Wu_set (f:=f8v) (x:=91#8) (i:=j) (s:=⟨at0 g,n,n⟩) hO6 (by omega) tB sB sB rfl rfl fun w7 hO7 hm7=>?_
   have e:(List.replicate j (91#8:F8)++(List.replicate n 0#8).drop j).set j 91#8=List.replicate (j+1) 91#8++(List.replicate n 0#8).drop (j+1):=by
    rw[List.set_append_right _ _ (by rw[List.length_replicate];exact Nat.le_refl _),List.length_replicate,Nat.sub_self,List.drop_eq_getElem_cons (by rw[List.length_replicate];exact hj2),List.set_cons_zero,List.replicate_succ',List.append_assoc]
    rfl
   rw[e]at hO7
   rw[adZ (by omega) (by omega),show(j:Int)+1=((j+1:Nat):Int) by omega]
   exact hk2 _ _ ⟨j+1,rfl,by omega,hO7,hx6.into hm7 (fun b hb=>(hO6.base b hb).1)⟩ (by dsimp only;omega)
  have hjn:j=n:=by omega
  rw[hjn,List.drop_of_length_le (by rw[List.length_replicate];exact Nat.le_refl _),List.append_nil]at hO6
  obtain⟨hB6,hbg,_⟩:=own_full hO6 (by omega)
  have hd7:=Ex.drew w6
  have hx7:=hx6.trans hd7
  have hS7:=hS4.exx hx7
  have hM7:=bmZ hS7 hM0
  refine asZ (fun w'=>Rds slV w' s hs) hM7.hdr ?_
  refine bKZ 3 n (s:=⟨at0 g,n,n⟩) tB sB (.inr ⟨_,rfl⟩) (.inl ⟨rfl,rfl⟩) (by omega) (Nat.le_refl _) ?_
  refine aQZ hM7.hdr (fun w' h'=>h') hh ?_
  have hcut:beZ ⟨at0 g,n,n⟩ 3 n=⟨some ⟨g,3,none⟩,r.length+70,r.length+70⟩:=by
   unfold beZ
   dsimp only
   rw[if_neg (by omega),show n-3=r.length+70 by omega]
   show(⟨some ((⟨g,0,none⟩:Addr).add 3),_,_⟩:Sl)=_
   rw[add_lit]
  rw[hcut]
  refine cp_mid (n:=r.length+70) (hB6.ex hd7) (hM7.row i h r hh hr) (by rw[List.length_replicate];omega) (by omega) fun w8 hB8 hm8=>?_
  have hx8:Ex w4 w8:=hx7.into hm8 (fun b hb=>by omega)
  have hS8:=hS4.exx hx8
  refine⟨(bmZ hS8 hM0).hdr,?_⟩
  have eR:(List.replicate n (91#8:F8)).take 3++r++(List.replicate n (91#8:F8)).drop (3+r.length)=layR r:=by
   unfold layR
   rw[List.take_replicate,List.drop_replicate,show min 3 n=3 by omega,show n-(3+r.length)=70 by omega]
  rw[eR]at hB8
  have hO8:Own f8v 5 w4.heap.size w8 ⟨at0 g,n,n⟩ (layR r):=own_of_hasW (by rw[layR_len,hn]) (by omega) hB8 hbg
  unfold q17lay.j1
  refine ajZ (c:=.sl) (x:=sA) (B:=g5) (i:=0) (hS8.has y4) (by kernel_rfl) rfl ?_
  refine bvZ (f:=slV) (e:=24) (base:=w8.heap.size) [⟨at0 g,n,n⟩] (by kernel_rfl) (Nat.le_refl _) (by simp) fun s9 w9 ho9 hx9 _=>?_
  have hx49:=hx8.trans hx9
  have hS9:=hS4.exx hx49
  obtain⟨p1,p2,_⟩:=sh_get hS9 a4
  have hal:hA.length=i:=by rw[p2,List.length_map,List.length_take];omega
  refine aGZ (f:=slV) (base:=0) tBB iS rfl p1 ho9.rds (fun _=>rfl) (by rw[hal];exact b1) (by rw[hal];exact b2) (Nat.zero_le _) fun sA' w10 ho10 hm10 hin10=>?_
  have hS10:=sh_push hS4 a4 hx49 (hO8.ex hx9) ho10 hm10 hin10
  have y10:=(Ths.up_ne T4 (ShT sA' (hA++[⟨at0 g,n,n⟩]) (layM (M.take i)++[layR r])) (tA 1).symm).trans y4
  refine awZ (v:=slV sA') (hS10.has y10) (by kernel_rfl) (by simp[Value.cells,Value.oneCell']) (by show 0+1≤2;omega) fun w11 hB11 hm11=>?_
  have hB11':Has w11 g5 (afZ L2 (sA',sF,())) 165:=hB11
  have hS11:=hS10.cel y10 hB11' hm11
  obtain⟨T11,hT11e⟩:∃T11,T11=(T4.up kA (ShT sA' (hA++[⟨at0 g,n,n⟩]) (layM (M.take i)++[layR r]))).up (.tm 1) (Cel g5 (afZ L2 (sA',sF,())) 165):=⟨_,rfl⟩
  rw[←hT11e]at hS11
  have a11:T11 kA=ShT sA' (hA++[⟨at0 g,n,n⟩]) (layM (M.take (i+1))):=by rw[hT11e,Ths.up_ne _ _ (tA 1),Ths.up_same,htk];unfold layM;rw[List.map_append];rfl
  have y11:T11 (.tm 1)=Cel g5 (afZ L2 (sA',sF,())) 165:=by rw[hT11e,Ths.up_same]
  have n11:∀q,q≠kA→q≠.tm 1→T11 q=T4 q:=fun q h1 h2=>by rw[hT11e,Ths.up_ne _ _ h2,Ths.up_ne _ _ h1]
  clear hT11e
  have f11:=(n11 kF hAF.symm (tF 1)).trans f4
  have two:∀{w':World} (e:Sl),Sep W0 w' T11→(e=beZ ⟨at0 g,n,n⟩ 3 (3+r.length)∨(e=⟨none,0,0⟩∧r=[]))→q17lay.j2 R k1 s bare ⟨g4,0,none⟩ ⟨g5,0,none⟩ (i:Int) e w':=by
   intro w' e hS' he
   unfold q17lay.j2
   rw[show(⟨g5,0,none⟩:Addr).add 1=⟨g5,1,none⟩ from rfl]
   refine ajZ (c:=.sl) (x:=sF) (B:=g5) (i:=1) (hS'.has y11) (by kernel_rfl) rfl ?_
   refine bvZ (f:=slV) (e:=24) (base:=w'.heap.size) [e] (by kernel_rfl) (Nat.le_refl _) (by simp) fun s12 w12 ho12 hx12 _=>?_
   have hS12:=hS'.exx hx12
   refine aGZ (f:=slV) (base:=0) tBB iS rfl (hS12.owt f11) ho12.rds (fun _=>rfl) (by rw[hfl];exact b1) (by rw[hfl];exact b2) (Nat.zero_le _) fun sF' w13 ho13 hm13 hin13=>?_
   have hS13:=hS12.grow f11 ho13 hm13 hin13
   have y13:=(Ths.up_ne T11 (Owt slV 24 sF' (hF++[e])) (tF 1).symm).trans y11
   refine awZ (v:=slV sF') (hS13.has y13) (by kernel_rfl) (by simp[Value.cells,Value.oneCell']) (by show 1+1≤2;omega) fun w14 hB14 hm14=>?_
   have hB14':Has w14 g5 (afZ L2 (sA',sF',())) 165:=hB14
   have hS14:=hS13.cel y13 hB14' hm14
   rw[adZ (by omega) (by omega),show(i:Int)+1=((i+1:Nat):Int) by omega]
   refine hk1 _ _ ⟨i+1,sA',sF',_,hF++[e],_,rfl,by omega,hS14,?_,?_,?_,Ths.up_same _ _ _,by rw[htk];exact hL4.snoc he,fun q h1 h2 h3=>?_⟩ (by dsimp only;omega)
   ·rw[Ths.up_ne _ _ (tA 1),Ths.up_ne _ _ hAF];exact a11
   ·rw[Ths.up_ne _ _ (tF 1),Ths.up_same]
   ·rw[Ths.up_ne _ _ (by simp),Ths.up_ne _ _ (tF 0).symm,n11 _ (tA 0).symm (by simp)];exact x4
   ·rw[Ths.up_ne _ _ (h3 1),Ths.up_ne _ _ h2,n11 q h1 (h3 1)];exact n4 q h1 h2 h3
  have three:∀t:Bool,(t=false→r=[])→q17lay.j3 R k1 s bare ⟨g4,0,none⟩ ⟨g5,0,none⟩ (i:Int) ⟨at0 g,n,n⟩ ⟨none,0,0⟩ t w11:=by
   intro t ht
   unfold q17lay.j3
   refine Cd_of (fun h'=>?_) (fun h'=>two _ hS11 (.inr ⟨rfl,ht h'⟩))
   refine atZ (bmZ hS11 hM0).hdr hh ?_
   rw[hhl,adZ (by omega) (by omega),show 3+(r.length:Int)=((3+r.length:Nat):Int) by omega]
   exact bKZ 3 (3+r.length) (s:=⟨at0 g,n,n⟩) tB sB (.inr ⟨_,rfl⟩) (.inr ⟨_,rfl⟩) (by omega) (by dsimp only;omega) (two _ hS11 (.inl rfl))
  refine atZ (bmZ hS11 hM0).hdr hh ?_
  refine abZ (fun _=>three _ (fun h'=>by cases h')) (fun h0=>three _ (fun _=>List.eq_nil_of_length_eq_zero (by omega)))
 ·have hiM:i=M.length:=by omega
  rw[hiM,List.take_of_length_le (Nat.le_refl _)]at a4 hL4
  rw[show(⟨g5,0,none⟩:Addr).add 1=⟨g5,1,none⟩ from rfl]
  refine ajZ (c:=.sl) (x:=sF) (B:=g5) (i:=1) (hS4.has y4) (by kernel_rfl) rfl ?_
  rw[show(Value.int .u8 92)=f8v 92#8 from rfl]
  refine bvZ (f:=f8v) (e:=5) (base:=w4.heap.size) [92#8] (by kernel_rfl) (Nat.le_refl _) (by simp) fun hm w5 ho5 hx5 _=>?_
  have hS5:=hS4.newOwn km hx5 ho5
  have f5:=(Ths.up_ne T4 (Owt f8v 5 hm [92#8]) hFm).trans f4
  refine bvZ (f:=slV) (e:=24) (base:=w5.heap.size) [hm] (by kernel_rfl) (Nat.le_refl _) (by simp) fun s6 w6 ho6 hx6 _=>?_
  have hS6:=hS5.exx hx6
  refine Wr_append3 (f:=slV) (base:=0) tBB iS rfl (hS6.owt f5) ho6.rds (fun _=>rfl) (by rw[hfl,List.length_singleton];omega) (fun _=>by simp) (fun old ho=>growslice_fits_wide ho (by rw[hfl,hiM,List.length_singleton];exact fits24 hl)) (Nat.zero_le _) fun sF' w7 ho7 hm7 hin7 _=>?_
  have hS7:=hS6.grow f5 ho7 hm7 hin7
  have y7:((T4.up km (Owt f8v 5 hm [92#8])).up kF (Owt slV 24 sF' (hF++[hm]))) (.tm 1)=Cel g5 (afZ L2 (sA,sF,())) 165:=by rw[Ths.up_ne _ _ (tF 1).symm,Ths.up_ne _ _ (tm 1).symm];exact y4
  refine awZ (v:=slV sF') (hS7.has y7) (by kernel_rfl) (by simp[Value.cells,Value.oneCell']) (by show 1+1≤2;omega) fun w8 hB8 hm8=>?_
  have hB8':Has w8 g5 (afZ L2 (sA,sF',())) 165:=hB8
  have hS8:=hS7.cel y7 hB8' hm8
  refine bxZ (x:=((sA,sF',()):Ats L2)) hB8' (by kernel_rfl) rfl ?_
  have x8:(((T4.up km (Owt f8v 5 hm [92#8])).up kF (Owt slV 24 sF' (hF++[hm]))).up (.tm 1) (Cel g5 (afZ L2 (sA,sF',())) 165)) (.tm 0)=Cel g4 nil2 165:=by rw[Ths.up_ne _ _ (by simp),Ths.up_ne _ _ (tF 0).symm,Ths.up_ne _ _ (tm 0).symm];exact x4
  refine sto2 (x:=(sA,sF',())) (hS8.has x8) rfl fun w9 hB9 hm9=>?_
  have hS9:=hS8.cel x8 hB9 hm9
  refine⟨(sA,sF',()),bfZ (cs:=afZ L2 (sA,sF',())) (by kernel_rfl) (has_part (l:=L2) (x:=(sA,sF',())) (i:=0) hB9 rfl),?_⟩
  subst hRR
  refine⟨(sA,sF',()),rfl,sA,sF',hA,hF,hm,_,rfl,hS9,?_,?_,?_,hL4,fun q h1 h2 h3 h4=>?_⟩
  ·rw[Ths.up_ne _ _ (tA 0),Ths.up_ne _ _ (tA 1),Ths.up_ne _ _ hAF,Ths.up_ne _ _ hAm];exact a4
  ·rw[Ths.up_ne _ _ (tF 0),Ths.up_ne _ _ (tF 1),Ths.up_same]
  ·rw[Ths.up_ne _ _ (tm 0),Ths.up_ne _ _ (tm 1),Ths.up_ne _ _ hFm.symm,Ths.up_same]
  ·rw[Ths.up_ne _ _ (h4 0),Ths.up_ne _ _ (h4 1),Ths.up_ne _ _ h2,Ths.up_ne _ _ h3];exact n4 q h1 h2 h4
end Go.Proofs.YtbiilejgfihohaaGreat
namespace Go.Proofs.YtbiilejgfihohaaGreat
open Go Go.Cu Go.RowKit
def Th.and(t u:Th):Th:=⟨fun w F=>∃F1 F2:Nat→Prop,t.h w F1∧u.h w F2∧(∀b,F1 b→¬F2 b)∧(∀b,F1 b∨F2 b→F b),fun⟨F1,F2,h1,h2,h3,h4⟩ m hx=>
 ⟨F1,F2,t.fr h1 m (fun b hb=>hx b (h4 b (.inl hb))),u.fr h2 m (fun b hb=>hx b (h4 b (.inr hb))),h3,h4⟩⟩
theorem and_join{W0 w:World}{T:Ths}{k1 k2:Ky}{t u:Th}(hne:k1≠k2)(hS:Sep W0 w T)(h1:T k1=t)(h2:T k2=u):Sep W0 w ((T.up k1 (Th.and t u)).up k2 Th.none):=by
 obtain⟨hm,F,f1,f2,f3⟩:=hS
 have a1:=f1 k1
 rw[h1]at a1
 have a2:=f1 k2
 rw[h2]at a2
 refine⟨hm,fun j=>if j=k2 then (fun _=>False) else if j=k1 then (fun b=>F k1 b∨F k2 b) else F j,fun j=>?_,fun j b hb=>?_,fun i j b hij hi hj=>?_⟩
 ·unfold Ths.up
  dsimp only
  by_cases e2:j=k2
  ·rw[if_pos e2,if_pos e2];trivial
  ·rw[if_neg e2,if_neg e2]
   by_cases e1:j=k1
   ·rw[if_pos e1,if_pos e1]
    exact⟨F k1,F k2,a1,a2,fun b=>f3 k1 k2 b hne,fun b hb=>hb⟩
   ·rw[if_neg e1,if_neg e1];exact f1 j
 ·dsimp only at hb
  by_cases e2:j=k2
  ·rw[if_pos e2]at hb;exact hb.elim
  ·rw[if_neg e2]at hb
   by_cases e1:j=k1
   ·rw[if_pos e1]at hb;exact hb.elim (f2 k1 b) (f2 k2 b)
   ·rw[if_neg e1]at hb;exact f2 j b hb
 ·dsimp only at hi hj
  by_cases e2:i=k2
  ·rw[if_pos e2]at hi;exact hi.elim
  ·rw[if_neg e2]at hi
   by_cases e3:j=k2
   ·rw[if_pos e3]at hj;exact hj.elim
   ·rw[if_neg e3]at hj
    by_cases e1:i=k1
    ·rw[if_pos e1]at hi
     rw[if_neg (fun h=>hij (e1.trans h.symm))]at hj
     exact hi.elim (fun h=>f3 k1 j b (fun h'=>hij (e1.trans h')) h hj) (fun h=>f3 k2 j b (fun h'=>e3 h'.symm) h hj)
    ·rw[if_neg e1]at hi
     by_cases e4:j=k1
     ·rw[if_pos e4]at hj
      exact hj.elim (fun h=>f3 i k1 b e1 hi h) (fun h=>f3 i k2 b e2 hi h)
     ·rw[if_neg e4]at hj;exact f3 i j b hij hi hj
theorem and_split{W0 w:World}{T:Ths}{k1 k2:Ky}{t u:Th}(hne:k1≠k2)(hS:Sep W0 w T)(h1:T k1=Th.and t u):Sep W0 w ((T.up k1 t).up k2 u):=by
 obtain⟨hm,F,f1,f2,f3⟩:=hS
 have a:=f1 k1
 rw[h1]at a
 obtain⟨F1,F2,a1,a2,a3,a4⟩:=a
 refine⟨hm,fun j=>if j=k2 then F2 else if j=k1 then F1 else F j,fun j=>?_,fun j b hb=>?_,fun i j b hij hi hj=>?_⟩
 ·unfold Ths.up
  dsimp only
  by_cases e2:j=k2
  ·rw[if_pos e2,if_pos e2];exact a2
  ·rw[if_neg e2,if_neg e2]
   by_cases e1:j=k1
   ·rw[if_pos e1,if_pos e1];exact a1
   ·rw[if_neg e1,if_neg e1];exact f1 j
 ·dsimp only at hb
  by_cases e2:j=k2
  ·rw[if_pos e2]at hb;exact f2 k1 b (a4 b (.inr hb))
  ·rw[if_neg e2]at hb
   by_cases e1:j=k1
   ·rw[if_pos e1]at hb;exact f2 k1 b (a4 b (.inl hb))
   ·rw[if_neg e1]at hb;exact f2 j b hb
 ·dsimp only at hi hj
  by_cases e2:i=k2
  ·rw[if_pos e2]at hi
   rw[if_neg (fun h=>hij (e2.trans h.symm))]at hj
   by_cases e1:j=k1
   ·rw[if_pos e1]at hj;exact a3 b hj hi
   ·rw[if_neg e1]at hj;exact f3 k1 j b (fun h=>e1 h.symm) (a4 b (.inr hi)) hj
  ·rw[if_neg e2]at hi
   by_cases e1:i=k1
   ·rw[if_pos e1]at hi
    by_cases e3:j=k2
    ·rw[if_pos e3]at hj;exact a3 b hi hj
    ·rw[if_neg e3,if_neg (fun h=>hij (e1.trans h.symm))]at hj
     exact f3 k1 j b (fun h=>hij (e1.trans h)) (a4 b (.inl hi)) hj
   ·rw[if_neg e1]at hi
    by_cases e3:j=k2
    ·rw[if_pos e3]at hj;exact f3 i k1 b e1 hi (a4 b (.inr hj))
    ·rw[if_neg e3]at hj
     by_cases e4:j=k1
     ·rw[if_pos e4]at hj;exact f3 i k1 b e1 hi (a4 b (.inl hj))
     ·rw[if_neg e4]at hj;exact f3 i j b hij hi hj
def LinkW(hA:List Sl)(M:Mtx)(i:Nat)(h:Sl)(r:List F8):Prop:=M[i]? =some r∧((∃a,hA[i]? =some a∧h=beZ a 3 (3+r.length))∨(h=⟨none,0,0⟩∧r=[]))
structure FulIn(w:World)(F:Nat→Prop)(sF hm:Sl)(hA:List Sl)(M:Mtx)(hs:List Sl)(M':Mtx)(g:List Bool):Prop where
 hdr:Own slV 24 0 w sF (hs++[hm])
 len:hs.length=M'.length
 mlen:M'.length=M.length
 glen:g.length=hs.length
 lnk:∀(i:Nat) (h:Sl) (r:List F8),hs[i]? =some h→M'[i]? =some r→g[i]? =some false→LinkW hA M i h r
 row:∀(i:Nat) (h:Sl) (r:List F8),hs[i]? =some h→M'[i]? =some r→g[i]? =some true→Own f8v 5 0 w h r
 dis:∀(i j:Nat) (h h':Sl),i≠j→hs[i]? =some h→hs[j]? =some h'→g[i]? =some true→g[j]? =some true→∀b,SlIn h b→¬SlIn h' b
 apt:∀(i:Nat) (h:Sl),hs[i]? =some h→g[i]? =some true→∀b,SlIn h b→¬SlIn sF b∧F b
 own:∀b,SlIn sF b→F b
def FulT(sF hm:Sl)(hA:List Sl)(M:Mtx)(hs:List Sl)(M':Mtx):Th:=⟨fun w F=>∃g,FulIn w F sF hm hA M hs M' g,fun⟨g,h⟩ m hx=>
 ⟨g,{ h with hdr:=h.hdr.mo m (fun b hb=>hx b (h.own b hb)),row:=fun i a r h1 h2 h3=>(h.row i a r h1 h2 h3).mo m (fun b hb=>hx b (h.apt i a h1 h3 b hb).2) }⟩⟩
theorem ful_init{W0 w:World}{T:Ths}{k:Ky}{sF hm:Sl}{hA hF:List Sl}{M:Mtx}(hS:Sep W0 w T)(hk:T k=Owt slV 24 sF (hF++[hm]))(hL:LinkL hA M hF):Sep W0 w (T.up k (FulT sF hm hA M hF M)):=by
 obtain⟨F,ht,_,hc⟩:=hS.get k hk
 have hfa:∀(i:Nat),(List.replicate hF.length false)[i]? =some true→False:=fun i h=>by rw[List.getElem?_replicate]at h;split at h <;> cases h
 refine hc w _ F (Mo.refl _ _) ⟨List.replicate hF.length false,ht.1,hL.len,rfl,by simp,fun i h r h1 h2 _=>⟨h2,hL.ent i h r h1 h2⟩,fun i h r _ _ h3=>(hfa i h3).elim,fun i j h h' _ _ _ h3=>(hfa i h3).elim,fun i h _ h3=>(hfa i h3).elim,ht.2⟩ (fun b hb=>.inl hb)
theorem cut0{s:Sl}{g n:Nat}(h:s.base=at0 g)(hc:0<s.cap):beZ s 0 n=⟨at0 g,n,s.cap⟩:=by
 unfold beZ
 rw[if_neg (by omega),h]
 show(⟨some ((⟨g,0,none⟩:Addr).add 0),_,_⟩:Sl)=_
 rw[add_lit]
 rfl
theorem Wu_setP{α:Type}{f:α→Value}{t tS e:TypeId}{base n:Nat}{s:Sl}{l:List α}{ik:IntKind}{i:Nat}{x:α}{k:World→Prop}{w:World}(ho:Own f e base w s l)(hi:i<n)(hn:n≤l.length)(ht:(Tryz.prog).underlying tS=some (.slice e))(hs:aWZ Tryz.prog e 1=true)(hst:aWZ Tryz.prog t 1=true)
  (h1:(f x).oneCell'=true) (hc:(f x).cells=#[f x]) (hk:∀w',Own f e base w' s (l.set i x)→Mo (SlIn s) w w'→k w'):
  Pu Tryz.prog (Instr.indexAt tS (.slice (beZ s 0 n).base (beZ s 0 n).len (beZ s 0 n).cap) (.int ik (i:Int))) (.one (.at .addr)) (fun a w1=>Wu Tryz.prog (Instr.storeAt t (.pointer (some a)) (f x)) k w1) w:=by
 obtain⟨g,cs,hsb,hb,hB,hl,hlc,hcm,hcs,htk⟩:=ho.inv (by omega)
 rw[cut0 (n:=n) hsb (by omega)]
 refine⟨⟨g,i,none⟩,fun w'=>?_,?_⟩
 ·have:=bBZ (P:=Tryz.prog) (s:=⟨at0 g,n,s.cap⟩) (ik:=ik) (i:=(i:Int)) (w:=w') ht hs (a:=⟨g,0,none⟩) rfl (by omega) (by show(i:Int)<(n:Int);omega)
  rw[Int.toNat_natCast,add_lit,Nat.mul_one]at this
  exact this
 ·have hone:∀u∈(f x).cells.toList,u.oneCell'=true:=by
   intro u hu
   rw[hc]at hu
   obtain rfl:u=f x:=by simpa using hu
   exact h1
  refine awZ (v:=f x) hB (by rw[hc];exact hst) hone (by rw[hc];simp;omega) fun w' hB' hm=>?_
  rw[hc]at hB'
  have hB':Has w' g (cs.take i++[f x]++cs.drop (i+1)) e:=hB'
  refine hk w' (Own.mk hsb hb hB' (by simp[hl]) hlc hcm (by simp[List.length_take,List.length_drop];omega) ?_) (hm.weak fun b _ hb=>⟨_,hsb,hb.symm⟩)
  have h9:=take_set_take (cs:=cs) (u:=[f x]) (m:=l.length) (i:=i) (n:=1) rfl (by omega) (by omega)
  rw[List.length_set,h9,htk,List.map_set,List.set_eq_take_append_cons_drop,if_pos (by rw[List.length_map];omega),List.append_assoc];rfl
theorem win_rds{w:World}{a:Sl}{r:List F8}(h:Own f8v 5 0 w a (layR r)):Rds f8v w (beZ a 3 (3+r.length)) r:=by
 have:=bTZ h.rds (a:=3) (b:=3+r.length) (by omega) (by rw[layR_len];omega)
 have e:((layR r).take (3+r.length)).drop 3=r:=by
  unfold layR
  have hl:(List.replicate 3 (91#8:F8)++r).length=3+r.length:=by rw[List.length_append,List.length_replicate]
  rw[List.take_append_of_le_length (Nat.le_of_eq hl.symm),List.take_of_length_le (Nat.le_of_eq hl)]
  exact List.drop_left' (by rw[List.length_replicate])
 rwa [e]at this
def LdX(sA sF hm:Sl)(hA:List Sl)(M:Mtx)(hs:List Sl)(M':Mtx):Th:=Th.and (ShT sA hA (layM M)) (FulT sF hm hA M hs M')
theorem shx_ld(sA sF hm:Sl)(hA:List Sl)(M:Mtx):Shx (LdX sA sF hm hA M) (beZ sF 0 M.length):=by
 refine⟨fun {W0 w T k hs M'} hS hk=>?_,fun {w F hs M' i g} ht hg y hy=>?_,fun {W0 w w1 T k hs M' h r i ik K} hS hk hx ho hi hK=>?_⟩
 ·obtain⟨F,⟨F1,F2,t1,⟨g,t2⟩,t3,t4⟩,_,_⟩:=hS.get k hk
  refine⟨?_,t2.len,fun i h r h1 h2=>?_⟩
  ·have e1:=t2.len
   have e2:=t2.mlen
   have:=bTZ t2.hdr.rds (a:=0) (b:=M.length) (Nat.zero_le _) (by rw[List.length_append];omega)
   rwa [List.drop_zero,List.take_append_of_le_length (by omega),List.take_of_length_le (by omega)]at this
  ·obtain⟨gi,hgi⟩:=atx (l:=g) (i:=i) (by rw[t2.glen];exact(List.getElem?_eq_some_iff.1 h1).1)
   cases gi with
   | true=>exact(t2.row i h r h1 h2 hgi).rds
   | false=>
    obtain⟨hMi,⟨a,ha,rfl⟩ | ⟨rfl,rfl⟩⟩:=t2.lnk i h r h1 h2 hgi
    ·exact win_rds (t1.row i a (layR r) ha (by rw[List.getElem?_map,hMi];rfl))
    ·exact Rds.nil _ _
 ·obtain⟨F1,F2,t1,⟨gg,t2⟩,t3,t4⟩:=ht
  have hi:=(List.getElem?_eq_some_iff.1 hg).1
  obtain⟨r,hr⟩:=atx (l:=M') (i:=i) (by rw[←t2.len];exact hi)
  obtain⟨gi,hgi⟩:=atx (l:=gg) (i:=i) (by rw[t2.glen];exact hi)
  cases gi with
  | true=>exact t4 y (.inr (t2.apt i g hg hgi y hy).2)
  | false=>
   obtain⟨hMi,⟨a,ha,rfl⟩ | ⟨rfl,rfl⟩⟩:=t2.lnk i g r hg hr hgi
   ·exact t4 y (.inl (t1.apt i a ha y (cut_in hy)).2)
   ·obtain⟨_,hb,_⟩:=hy
    cases hb
 ·obtain⟨F,⟨F1,F2,t1,⟨g,t2⟩,t3,t4⟩,hF,hc⟩:=hS.get k hk
  have e1:=t2.len
  have e2:=t2.mlen
  refine Wu_setP (f:=slV) (x:=h) (i:=i) (n:=M.length) (t2.hdr.ex hx) (by omega) (by rw[List.length_append];omega) tBB sS sS rfl rfl fun w' hO hm'=>hK w' ?_
  rw[List.set_append_left _ _ hi]at hO
  have hlow:∀b,SlIn sF b→b<w.heap.size:=fun b hb=>(hF b (t4 b (.inr (t2.own b hb)))).2
  have hnew:∀b,SlIn h b→w.heap.size≤b∧b<w1.heap.size:=fun b hb=>ho.base b hb
  have hsz:=hm'.size
  refine hc w' _ (fun b=>F b∨SlIn h b) (Mo.trans (hx.weak (fun b _ hb=>hb.elim)) hm' (fun _=>id) (fun b _ hb'=>t4 b (.inr (t2.own b hb'))))
   ⟨F1,fun b=>F2 b∨SlIn h b,?_,⟨g.set i true,?_⟩,fun b h1 h2=>?_,fun b hb=>?_⟩ (fun b hb=>?_)
  ·have m1:Mo F2 w w':=Mo.trans (hx.weak (fun b _ hb=>hb.elim)) hm' (fun _=>id) (fun b _ hb'=>t2.own b hb')
   exact(ShT sA hA (layM M)).fr t1 m1 t3
  ·refine⟨hO,by rw[List.length_set,List.length_set];exact e1,by rw[List.length_set];exact e2,by rw[List.length_set,List.length_set];exact t2.glen,fun j a q h1 h2 h3=>?_,fun j a q h1 h2 h3=>?_,fun j l a a' hne h1 h2 h3 h4 b hb hb'=>?_,fun j a h1 h3 b hb=>?_,fun b hb=>.inl (t2.own b hb)⟩
   ·by_cases e:i=j
    ·subst e
     rw[List.getElem?_set,if_pos rfl,if_pos (by rw[t2.glen];exact hi)]at h3
     cases h3
    ·rw[List.getElem?_set_ne e]at h1 h2 h3
     exact t2.lnk j a q h1 h2 h3
   ·by_cases e:i=j
    ·subst e
     rw[List.getElem?_set,if_pos rfl,if_pos hi]at h1
     rw[List.getElem?_set,if_pos rfl,if_pos (by omega)]at h2
     cases h1
     cases h2
     exact(ho.weak (Nat.zero_le _)).mo hm' (fun b hb hb'=>absurd (hlow b hb') (by have:=(hnew b hb).1;omega))
    ·rw[List.getElem?_set_ne e]at h1 h2 h3
     exact((t2.row j a q h1 h2 h3).mo hx (fun _ _=>id)).mo hm' (fun b hb hb'=>(t2.apt j a h1 h3 b hb).1 hb')
   ·have old:∀(j:Nat) (a:Sl),hs[j]? =some a→g[j]? =some true→∀b,SlIn a b→b<w.heap.size:=fun j a h1 h2 b hb=>(hF b (t4 b (.inr (t2.apt j a h1 h2 b hb).2))).2
    by_cases e:i=j
    ·subst e
     rw[List.getElem?_set,if_pos rfl,if_pos hi]at h1
     cases h1
     rw[List.getElem?_set_ne hne]at h2 h4
     have:=old l a' h2 h4 b hb'
     have:=(hnew b hb).1
     omega
    ·rw[List.getElem?_set_ne e]at h1 h3
     by_cases e':i=l
     ·subst e'
      rw[List.getElem?_set,if_pos rfl,if_pos hi]at h2
      cases h2
      have:=old j a h1 h3 b hb
      have:=(hnew b hb').1
      omega
     ·rw[List.getElem?_set_ne e']at h2 h4
      exact t2.dis j l a a' hne h1 h2 h3 h4 b hb hb'
   ·by_cases e:i=j
    ·subst e
     rw[List.getElem?_set,if_pos rfl,if_pos hi]at h1
     cases h1
     exact⟨fun hb'=>absurd (hlow b hb') (by have:=(hnew b hb).1;omega),.inr hb⟩
    ·rw[List.getElem?_set_ne e]at h1 h3
     have:=t2.apt j a h1 h3 b hb
     exact⟨this.1,.inl this.2⟩
  ·rcases h2 with h2 | h2
   ·exact t3 b h1 h2
   ·have:=(hF b (t4 b (.inl h1))).2
    have:=(hnew b h2).1
    omega
  ·rcases hb with hb | hb | hb
   ·exact .inl (t4 b (.inl hb))
   ·exact .inl (t4 b (.inr hb))
   ·exact .inr hb
  ·rcases hb with hb | hb
   ·exact .inl hb
   ·have:=hnew b hb
    exact .inr ⟨this.1,by omega⟩
def GrT(h:Sl)(r:List F8)(g:Sl)(m:List F8):Th:=⟨fun w F=>Own f8v 5 0 w h r∧Own f8v 5 0 w g m∧(∀b,SlIn h b→F b)∧∀b,SlIn g b→F b,fun⟨h1,h2,h3,h4⟩ m hx=>
 ⟨h1.mo m (fun b hb=>hx b (h3 b hb)),h2.mo m (fun b hb=>hx b (h4 b hb)),h3,h4⟩⟩
def onRow{α:Sort _}(x:Nat→α)(y:Ky→α):Ky→α
 | .mx 5 i=>x i
 | j=>y j
theorem onRow_ne{α:Sort _}{x:Nat→α}{y:Ky→α}{j:Ky}(h:∀i,j≠.mx 5 i):onRow x y j=y j:=by
 unfold onRow
 split
 ·rename_i i;exact absurd rfl (h i)
 ·rfl
theorem ful_split{W0 w:World}{T:Ths}{kF:Ky}{sF hm:Sl}{hA hs:List Sl}{M M':Mtx}(hkF:∀i,kF≠.mx 5 i)(hS:Sep W0 w T)(hk:T kF=FulT sF hm hA M hs M'):
  ∃T',Sep W0 w T'∧T' kF=Owt slV 24 sF (hs++[hm])∧hs.length=M'.length∧M'.length=M.length∧(∀(i:Nat) (h:Sl) (r:List F8),hs[i]? =some h→M'[i]? =some r→LinkW hA M i h r∨T' (.mx 5 i)=GrT h r h r)∧∀q,q≠kF→(∀i,q≠.mx 5 i)→T' q=T q:=by
 obtain⟨hm',F,f1,f2,f3⟩:=hS
 have a:=f1 kF
 rw[hk]at a
 obtain⟨g,a⟩:=a
 have hgt:∀i,g[i]? =some true→∃h r,hs[i]? =some h∧M'[i]? =some r∧hs.getD i ⟨none,0,0⟩=h∧M'.getD i []=r:=fun i h=>by
  have hi:=(List.getElem?_eq_some_iff.1 h).1
  rw[a.glen]at hi
  obtain⟨x,hx⟩:=atx hi
  obtain⟨r,hr⟩:=atx (l:=M') (i:=i) (by rw[←a.len];exact hi)
  exact⟨x,r,hx,hr,by rw[List.getD_eq_getElem?_getD,hx];rfl,bzZ hr⟩
 have low:∀j b,(onRow (fun i b=>g[i]? =some true∧SlIn (hs.getD i ⟨none,0,0⟩) b) (fun j=>if j=kF then SlIn sF else F j) j) b→(∀i,j≠.mx 5 i)∧j≠kF∧F j b∨(j=kF∧SlIn sF b∧F kF b)∨∃i h,j=.mx 5 i∧hs[i]? =some h∧g[i]? =some true∧SlIn h b∧¬SlIn sF b∧F kF b:=by
  intro j b hb
  by_cases hj:∀i,j≠.mx 5 i
  ·rw[onRow_ne hj]at hb
   by_cases e:j=kF
   ·rw[if_pos e]at hb;exact .inr (.inl ⟨e,hb,a.own b hb⟩)
   ·rw[if_neg e]at hb;exact .inl ⟨hj,e,hb⟩
  ·obtain⟨i,hi⟩:=Classical.not_forall.1 hj
   have hi:=Classical.not_not.1 hi
   subst hi
   obtain⟨h1,h2⟩:g[i]? =some true∧SlIn (hs.getD i ⟨none,0,0⟩) b:=hb
   obtain⟨h,r,e1,e2,e3,e4⟩:=hgt i h1
   rw[e3]at h2
   have:=a.apt i h e1 h1 b h2
   exact .inr (.inr ⟨i,h,rfl,e1,h1,h2,this.1,this.2⟩)
 refine⟨onRow (fun i=>if g[i]? =some true then GrT (hs.getD i ⟨none,0,0⟩) (M'.getD i []) (hs.getD i ⟨none,0,0⟩) (M'.getD i []) else Th.none) (fun j=>if j=kF then Owt slV 24 sF (hs++[hm]) else T j),
  ⟨hm',onRow (fun i b=>g[i]? =some true∧SlIn (hs.getD i ⟨none,0,0⟩) b) (fun j=>if j=kF then SlIn sF else F j),fun j=>?_,fun j b hb=>?_,fun i j b hij hi hj=>?_⟩,?_,a.len,a.mlen,fun i h r h1 h2=>?_,fun q h1 h2=>?_⟩
 ·by_cases hj:∀i,j≠.mx 5 i
  ·rw[onRow_ne hj,onRow_ne hj]
   by_cases e:j=kF
   ·rw[if_pos e,if_pos e];exact⟨a.hdr,fun b hb=>hb⟩
   ·rw[if_neg e,if_neg e];exact f1 j
  ·obtain⟨i,hi⟩:=Classical.not_forall.1 hj
   have hi:=Classical.not_not.1 hi
   subst hi
   show(if g[i]? =some true then GrT (hs.getD i ⟨none,0,0⟩) (M'.getD i []) (hs.getD i ⟨none,0,0⟩) (M'.getD i []) else Th.none).h w (fun b=>g[i]? =some true∧SlIn (hs.getD i ⟨none,0,0⟩) b)
   by_cases h1:g[i]? =some true
   ·rw[if_pos h1]
    obtain⟨h,r,e1,e2,e3,e4⟩:=hgt i h1
    rw[e3,e4]
    exact⟨a.row i h r e1 e2 h1,a.row i h r e1 e2 h1,fun b hb=>⟨h1,hb⟩,fun b hb=>⟨h1,hb⟩⟩
   ·rw[if_neg h1];trivial
 ·rcases low j b hb with ⟨_,_,h⟩ | ⟨_,_,h⟩ | ⟨_,_,_,_,_,_,_,h⟩
  ·exact f2 j b h
  ·exact f2 kF b h
  ·exact f2 kF b h
 ·rcases low i b hi with ⟨_,n1,x1⟩ | ⟨n1,y1,x1⟩ | ⟨p,hp,rfl,e1,e2,e3,e4,x1⟩
  ·rcases low j b hj with ⟨_,n2,x2⟩ | ⟨n2,y2,x2⟩ | ⟨q,hq,rfl,d1,d2,d3,d4,x2⟩
   ·exact f3 i j b hij x1 x2
   ·exact f3 i kF b n1 x1 x2
   ·exact f3 i kF b n1 x1 x2
  ·rcases low j b hj with ⟨_,n2,x2⟩ | ⟨n2,y2,x2⟩ | ⟨q,hq,rfl,d1,d2,d3,d4,x2⟩
   ·exact f3 kF j b (fun e=>n2 e.symm) x1 x2
   ·exact hij (n1.trans n2.symm)
   ·exact d4 y1
  ·rcases low j b hj with ⟨_,n2,x2⟩ | ⟨n2,y2,x2⟩ | ⟨q,hq,rfl,d1,d2,d3,d4,x2⟩
   ·exact f3 kF j b (fun e=>n2 e.symm) x1 x2
   ·exact e4 y2
   ·by_cases e:p=q
    ·subst e;exact hij rfl
    ·exact a.dis p q hp hq e e1 d1 e2 d2 b e3 d3
 ·rw[onRow_ne hkF]
  exact if_pos rfl
 ·have hi:=(List.getElem?_eq_some_iff.1 h1).1
  obtain⟨gi,hgi⟩:=atx (l:=g) (i:=i) (by rw[a.glen];exact hi)
  cases gi with
  | false=>exact .inl (a.lnk i h r h1 h2 hgi)
  | true=>
   obtain⟨h',r',e1,e2,e3,e4⟩:=hgt i hgi
   rw[h1]at e1
   rw[h2]at e2
   cases e1
   cases e2
   refine .inr ?_
   show(if g[i]? =some true then GrT (hs.getD i ⟨none,0,0⟩) (M'.getD i []) (hs.getD i ⟨none,0,0⟩) (M'.getD i []) else Th.none)=_
   rw[if_pos hgi,e3,e4]
 ·rw[onRow_ne h2]
  exact if_neg h1
end Go.Proofs.YtbiilejgfihohaaGreat
namespace Go.Proofs.YtbiilejgfihohaaGreat
open Go Go.Cu Go.RowKit
theorem gr_get{W0 w:World}{T:Ths}{k:Ky}{h g:Sl}{r m:List F8}(hS:Sep W0 w T)(hk:T k=GrT h r g m):Rds f8v w h r∧Rds f8v w g m:=by
 obtain⟨F,⟨h1,h2,_⟩,_⟩:=hS.get k hk
 exact⟨h1.rds,h2.rds⟩
theorem gr_write{W0 w:World}{T:Ths}{k:Ky}{h:Sl}{r:List F8}{ik:IntKind}{j:Nat}{x:F8}{K:World→Prop}(hS:Sep W0 w T)(hk:T k=GrT h r h r)(hj:j<r.length)(hK:∀w',Sep W0 w' (T.up k (GrT h (r.set j x) h (r.set j x)))→K w'):
  Pu Tryz.prog (Instr.indexAt 24 (.slice h.base h.len h.cap) (.int ik (j:Int))) (.one (.at .addr)) (fun a w1=>Wu Tryz.prog (Instr.storeAt 5 (.pointer (some a)) (f8v x)) K w1) w:=by
 obtain⟨F,⟨h1,h2,h3,h4⟩,_,hc⟩:=hS.get k hk
 exact Wu_set (f:=f8v) h1 hj tB sB sB rfl rfl fun w' hO hm=>hK w' (hc w' _ F (hm.weak (fun b _ hb=>h3 b hb)) ⟨hO,hO,h3,h3⟩ (fun b hb=>.inl hb))
theorem gr_app{W0 w:World}{T:Ths}{k:Ky}{h g:Sl}{r m:List F8}{K:Sl→World→Prop}(v:F8)(hS:Sep W0 w T)(hk:T k=GrT h r g m)(hle:r.length≤m.length)(hm1:m.length≤140737488356000)(hK:∀s' w',Sep W0 w' (T.up k (GrT h r s' (m++[v])))→K s' w'):
  Wr Tryz.prog (Instr.buildSlice 24 1 #[(0,f8v v)]) (.one (.at .sl)) (fun(x18:Sl) w19=>Wr Tryz.prog (Builtin.append_ #[24,24] 24 #[.slice g.base g.len g.cap,.slice x18.base x18.len x18.cap]) (.one (.at .sl)) K w19) w:=by
 refine bvZ (f:=f8v) (e:=5) (base:=w.heap.size) [v] (by kernel_rfl) (Nat.le_refl _) (by simp) fun s1 w1 ho1 hx1 _=>?_
 have hS1:=hS.exx hx1
 obtain⟨F,⟨h1,h2,h3,h4⟩,hF,hc⟩:=hS1.get k hk
 refine Wr_append3 (f:=f8v) (base:=0) tB iB rfl h2 ho1.rds (fun _=>rfl) (by rw[List.length_singleton];omega) (fun _=>by simp) (fun old ho=>growslice_fits_wide ho ?_) (Nat.zero_le _) fun s' w2 ho2 hm2 hin hor=>hK s' w2 ?_
 ·rw[List.length_singleton]
  have hq:=Nat.div_mul_le_self (m.length+1) 4
  generalize (m.length+1) / 4=q at hq ⊢
  omega
 ·refine hc w2 _ (fun b=>F b∨SlIn s' b) (hm2.weak (fun b _ hb=>h4 b hb)) ⟨Own.kept h2 ho2 hm2 hor h1 (fun _ _ _=>hle),ho2,fun b hb=>.inl (h3 b hb),fun b hb=>.inr hb⟩ (fun b hb=>?_)
  rcases hb with hb | hb
  ·exact .inl hb
  ·rcases hin b hb with h' | h'
   ·exact .inl (h4 b h')
   ·exact .inr ⟨h',(ho2.base b hb).2⟩
theorem mat_laid{W0 w:World}{T:Ths}{kA kF:Ky}{sA sF hm:Sl}{hA hs:List Sl}{M M':Mtx}(hS:Sep W0 w T)(hkA:T kA=ShT sA hA (layM M))(hkF:T kF=Owt slV 24 sF (hs++[hm]))(hl:hs.length=M'.length)(hm':M'.length=M.length)
  (hr:∀(i:Nat) (h:Sl) (r:List F8),hs[i]? =some h→M'[i]? =some r→LinkW hA M i h r∨∃g m,T (.mx 5 i)=GrT h r g m):MatR w (beZ sF 0 M.length) hs M':=by
 refine⟨?_,hl,fun i h r h1 h2=>?_⟩
 ·have:=bTZ (hS.owt hkF).rds (a:=0) (b:=M.length) (Nat.zero_le _) (by rw[List.length_append];omega)
  rwa [List.drop_zero,List.take_append_of_le_length (by omega),List.take_of_length_le (by omega)]at this
 ·rcases hr i h r h1 h2 with ⟨hMi,⟨a,ha,rfl⟩ | ⟨rfl,rfl⟩⟩ | ⟨g,m,hg⟩
  ·exact win_rds ((sh_get hS hkA).2.2 i a (layR r) ha (by rw[List.getElem?_map,hMi];rfl))
  ·exact Rds.nil _ _
  ·exact(gr_get hS hg).1
theorem shards_ok{w:World}{sA sF:Sl}{n:Nat}(hl:sF.len=n+1)(hc:sF.len≤sF.cap)(hn:n≤140737488355328):Cl Tryz.prog 103 #[.agg #[.slice sA.base sA.len sA.cap,.slice sF.base sF.len sF.cap]] (.one (.at .sl)) (fun x w'=>x=beZ sF 0 n∧Ex w w') w:=by
 refine q17Laid_shards.run _ (sA,sF,()) w ?_
 unfold q17Laid_shards.M
 refine bcZ fun w1 hB hx1=>?_
 have hB':Has w1 w.heap.size (afZ L2 (sA,sF,())) 165:=hB
 rw[show(⟨w.heap.size,0,none⟩:Addr).add 1=⟨w.heap.size,1,none⟩ from rfl]
 refine ajZ (c:=.sl) (x:=sF) (i:=1) hB' (by kernel_rfl) rfl ?_
 refine ajZ (c:=.sl) (x:=sF) (i:=1) hB' (by kernel_rfl) rfl ?_
 rw[hl,adZ (by omega) (by omega),show((n+1:Nat):Int)-1=(n:Int) by omega]
 rw[←hl]
 exact bKZ 0 n tBB sS (.inl ⟨rfl,rfl⟩) (.inr ⟨_,rfl⟩) (Nat.zero_le _) (by omega) ⟨_,rfl,rfl,hx1⟩
abbrev v1(i:Nat):F8:=BitVec.ofNat 8 (2*i+1)
abbrev v2(i:Nat):F8:=BitVec.ofNat 8 (2*i+2)
def ovr(M M':Mtx):Mtx:=(List.range M'.length).map (fun i=>if M.getD i []=[] then List.replicate (M'.getD i []).length (v1 i) else M'.getD i [])
theorem ovr_at{M M':Mtx}{i:Nat}{r:List F8}(h:M'[i]? =some r):(ovr M M')[i]? =some (if M.getD i []=[] then List.replicate r.length (v1 i) else r):=by
 unfold ovr
 rw[List.getElem?_map,List.getElem?_range (List.getElem?_eq_some_iff.1 h).1]
 show some (if M.getD i []=[] then List.replicate (M'.getD i []).length (v1 i) else M'.getD i [])=_
 rw[bzZ h]
theorem ovr_len(M M':Mtx):(ovr M M').length=M'.length:=by unfold ovr;rw[List.length_map,List.length_range]
theorem repl_step2{l:List F8}{j:Nat}{v:F8}(hj:j<l.length):(List.replicate j v++l.drop j).set j v=List.replicate (j+1) v++l.drop (j+1):=by
 rw[List.set_append_right _ _ (by rw[List.length_replicate];exact Nat.le_refl _),List.length_replicate,Nat.sub_self,List.drop_eq_getElem_cons hj,List.set_cons_zero,List.replicate_succ',List.append_assoc]
 rfl
theorem wrap_v1{i:Nat}(h:i≤140737488355328):IntKind.wrap .u8 (IntKind.wrap .i64 (IntKind.wrap .i64 (2*(i:Int))+1))=((v1 i).toNat:Int):=by
 rw[adZ (x:=2*(i:Int)) (by omega) (by omega),adZ (x:=2*(i:Int)+1) (by omega) (by omega),show 2*(i:Int)+1=((2*i+1:Nat):Int) by omega,u8n]
theorem wrap_v2{i:Nat}(h:i≤140737488355328):IntKind.wrap .u8 (IntKind.wrap .i64 (IntKind.wrap .i64 (2*(i:Int))+2))=((v2 i).toNat:Int):=by
 rw[adZ (x:=2*(i:Int)) (by omega) (by omega),adZ (x:=2*(i:Int)+2) (by omega) (by omega),show 2*(i:Int)+2=((2*i+2:Nat):Int) by omega,u8n]
theorem holds1{W0 w:World}{T:Ths}{kA kF:Ky}{sA sF hm sw st:Sl}{hA hs hw:List Sl}{M M':Mtx}{l3:Addr}{R:Ending→World→Prop}(kA5:∀i,kA≠.mx 5 i)(kF5:∀i,kF≠.mx 5 i)(hS:Sep W0 w T)(hkA:T kA=ShT sA hA (layM M))(hkF:T kF=Owt slV 24 sF (hs++[hm]))(hl:hs.length=M'.length)(hm':M'.length=M.length)
  (hr:∀(i:Nat) (h:Sl) (r:List F8),hs[i]? =some h→M'[i]? =some r→LinkW hA M i h r∨T (.mx 5 i)=GrT h r h r) (hW:MatR W0 sw hw M) (hN:M.length≤140737488355328) (hrl:∀r∈M',r.length≤140737488355328)
  (hK:∀w' T',Sep W0 w' T'→(∀q,(∀i,q≠.mx 5 i)→T' q=T q)→(∀(i:Nat) (h:Sl) (r:List F8),hs[i]? =some h→(ovr M M')[i]? =some r→LinkW hA M i h r∨T' (.mx 5 i)=GrT h r h r)→
   Wr Tryz.prog (Instr.makeSlice 30 (.int .i64 (((beZ sF 0 M.length).len:Nat):Int)) (.int .i64 (((beZ sF 0 M.length).len:Nat):Int))) (.one (.at .sl)) (fun(x22:Sl) w23=>q17Laid_holds.l3 R (sw,st,l3,beZ sF 0 M.length,x22,0,()) w23) w'):
  q17Laid_holds.l1 R (sw,st,l3,beZ sF 0 M.length,0,()) w:=by
 have hsl:(beZ sF 0 M.length).len=M.length:=rfl
 unfold q17Laid_holds.l1
 refine acZ (fun q w'=>∃(i:Nat) (T':Ths),q=(sw,st,l3,beZ sF 0 M.length,(i:Int),())∧i≤M.length∧Sep W0 w' T'∧(∀q,(∀i,q≠.mx 5 i)→T' q=T q)∧
   (∀(j:Nat) (h:Sl) (r:List F8),hs[j]? =some h→((ovr M M').take i++M'.drop i)[j]? =some r→LinkW hA M j h r∨T' (.mx 5 j)=GrT h r h r)) (fun q _=>((M.length:Int)-q.2.2.2.2.1).toNat) ?_
  ⟨0,T,rfl,Nat.zero_le _,hS,fun _ _=>rfl,by simpa using hr⟩
 rintro k1 _ w1 ⟨i,T1,rfl,hi,hS1,n1,r1⟩ hk1
 unfold q17Laid_holds.b1
 dsimp only at hk1 ⊢
 refine abZ (fun hlt=>?_) (fun hge=>?_)
 ·have hiM:i<M.length:=by omega
  obtain⟨r0,hr0⟩:=atx hiM
  obtain⟨h0,hh0⟩:=atx (l:=hw) (i:=i) (by rw[hW.len];exact hiM)
  obtain⟨h,hh⟩:=atx (l:=hs) (i:=i) (by omega)
  obtain⟨r,hrr⟩:=atx (l:=M') (i:=i) (by omega)
  have hMD:M.getD i []=r0:=bzZ hr0
  have hov:=ovr_at (M:=M) hrr
  rw[hMD]at hov
  have hcur:((ovr M M').take i++M'.drop i)[i]? =some r:=stepG_get (ovr_len M M') hrr
  have hW1:=bmZ hS1 hW
  have hh0l:h0.len=r0.length:=(hW.row i h0 r0 hh0 hr0).1
  have hrlen:=hrl r (List.mem_of_getElem? hrr)
  refine atZ hW1.hdr hh0 ?_
  rw[hh0l]
  have next:∀{w':World} {T':Ths},Sep W0 w' T'→(∀q,q≠.mx 5 i→T' q=T1 q)→(∀r',(ovr M M')[i]? =some r'→LinkW hA M i h r'∨T' (.mx 5 i)=GrT h r' h r')→q17Laid_holds.j2 R k1 sw st l3 (beZ sF 0 M.length) (i:Int) w':=by
   intro w' T' a1 a2 a3
   unfold q17Laid_holds.j2
   rw[adZ (by omega) (by omega),show(i:Int)+1=((i+1:Nat):Int) by omega]
   refine hk1 _ _ ⟨i+1,T',rfl,by omega,a1,fun q hq=>(a2 q (hq i)).trans (n1 q hq),fun j g q e1 e2=>?_⟩ (by dsimp only;omega)
   by_cases e:j=i
   ·subst e
    rw[hh]at e1
    cases e1
    rw[List.getElem?_append_left (by rw[List.length_take,ovr_len];omega),List.getElem?_take,if_pos (by omega)]at e2
    exact a3 q e2
   ·rw[a2 (.mx 5 j) (by simpa using e)]
    refine r1 j g q e1 ?_
    by_cases hji:j<i
    ·rw[List.getElem?_append_left (by rw[List.length_take,ovr_len];omega),List.getElem?_take,if_pos (by omega)]at e2 ⊢
     exact e2
    ·rw[List.getElem?_append_right (by rw[List.length_take,ovr_len];omega),List.length_take,ovr_len,List.getElem?_drop]at e2 ⊢
     rw[Nat.min_eq_left (by omega)]at e2 ⊢
     rw[show i+(j-i)=i+1+(j-(i+1)) by omega]
     exact e2
  refine aJZ (fun hz=>?_) (fun hnz=>?_)
  ·have hr0n:r0=[]:=List.eq_nil_of_length_eq_zero (by omega)
   rw[if_pos hr0n]at hov
   have hcases:=r1 i h r hh hcur
   unfold q17Laid_holds.l2
   refine acZ (fun q w'=>∃(j:Nat) (T':Ths),q=(sw,st,l3,beZ sF 0 M.length,(i:Int),(j:Int),())∧j≤r.length∧Sep W0 w' T'∧(∀q,q≠.mx 5 i→T' q=T1 q)∧(r=[]∨T' (.mx 5 i)=GrT h (List.replicate j (v1 i)++r.drop j) h (List.replicate j (v1 i)++r.drop j))∧(r=[]→T'=T1)) (fun q _=>((r.length:Int)-q.2.2.2.2.2.1).toNat) ?_
    ⟨0,T1,rfl,Nat.zero_le _,hS1,fun _ _=>rfl,?_,fun _=>rfl⟩
   rotate_left
   ·rcases hcases with ⟨hMi,_⟩ | hg
    ·rw[hr0]at hMi
     cases hMi
     exact .inl hr0n
    ·exact .inr (by simpa using hg)
   rintro k2 _ w2 ⟨j,T2,rfl,hj,hS2,n2,g2,z2⟩ hk2
   unfold q17Laid_holds.b2
   dsimp only at hk2 ⊢
   have f2:=(n2 kF (kF5 i)).trans ((n1 kF kF5).trans hkF)
   have hrd2:Rds slV w2 (beZ sF 0 M.length) hs:=by
    have:=bTZ (hS2.owt f2).rds (a:=0) (b:=M.length) (Nat.zero_le _) (by rw[List.length_append];omega)
    rwa [List.drop_zero,List.take_append_of_le_length (by omega),List.take_of_length_le (by omega)]at this
   have hhl:h.len=r.length:=by
    rcases g2 with hr' | hg
    ·rcases hcases with ⟨_,⟨a,_,rfl⟩ | ⟨rfl,_⟩⟩ | hg
     ·rw[hr'];show 3+([]:List F8).length-3=_;simp
     ·rw[hr'];rfl
     ·exact(gr_get hS1 hg).1.1
    ·rw[(gr_get hS2 hg).1.1,List.length_append,List.length_replicate,List.length_drop];omega
   refine atZ hrd2 hh ?_
   rw[hhl]
   refine abZ (fun hlt2=>?_) (fun hge2=>?_)
   ·have hjr:j<r.length:=by omega
    have hg:T2 (.mx 5 i)=GrT h (List.replicate j (v1 i)++r.drop j) h (List.replicate j (v1 i)++r.drop j):=g2.resolve_left (fun e=>by rw[e]at hjr;simp at hjr)
    refine atZ hrd2 hh ?_
    rw[wrap_v1 (by omega)]
    refine gr_write (x:=v1 i) hS2 hg (by rw[List.length_append,List.length_replicate,List.length_drop];omega) fun w3 hS3=>?_
    rw[repl_step2 hjr]at hS3
    rw[adZ (by omega) (by omega),show(j:Int)+1=((j+1:Nat):Int) by omega]
    exact hk2 _ _ ⟨j+1,_,rfl,by omega,hS3,fun q hq=>by rw[Ths.up_ne _ _ hq];exact n2 q hq,.inr (Ths.up_same _ _ _),fun e=>by rw[e]at hjr;simp at hjr⟩ (by dsimp only;omega)
   ·have hjr:j=r.length:=by omega
    refine next hS2 n2 (fun r' hr'=>?_)
    rw[hov]at hr'
    cases hr'
    by_cases e:r=[]
    ·subst e
     rw[z2 rfl]
     exact hcases
    ·have hg:=g2.resolve_left e
     rw[hjr,List.drop_of_length_le (Nat.le_refl _),List.append_nil]at hg
     exact .inr hg
  ·have hr0n:r0≠[]:=fun e=>by rw[e]at hnz;exact hnz rfl
   rw[if_neg hr0n]at hov
   exact next hS1 (fun _ _=>rfl) (fun r' hr'=>by rw[hov]at hr';cases hr';exact r1 i h r hh hcur)
 ·have hie:i=M.length:=by omega
  rw[hie,List.take_of_length_le (by rw[ovr_len];omega),List.drop_of_length_le (by omega),List.append_nil]at r1
  exact hK w1 T1 hS1 n1 r1
end Go.Proofs.YtbiilejgfihohaaGreat
namespace Go.Proofs.YtbiilejgfihohaaGreat
open Go Go.Cu Go.RowKit
abbrev Big(M:Mtx)(i:Nat)(r:List F8):Prop:=M[i]? =some []∧r≠[]
theorem holds3{W0 w:World}{T:Ths}{kF:Ky}{sF hm sw st sg:Sl}{hA hs hw:List Sl}{M M1:Mtx}{l3:Addr}{R:Ending→World→Prop}(kF5:∀i,kF≠.mx 5 i)(kFt:kF≠.tm 1)(hS:Sep W0 w T)(hkF:T kF=Owt slV 24 sF (hs++[hm]))(hkg:T (.tm 1)=Owt slV 24 sg (List.replicate M.length ⟨none,0,0⟩))(hl:hs.length=M1.length)(hm':M1.length=M.length)
  (hr:∀(i:Nat) (h:Sl) (r:List F8),hs[i]? =some h→M1[i]? =some r→LinkW hA M i h r∨T (.mx 5 i)=GrT h r h r) (hW:MatR W0 sw hw M) (hN:M.length≤140737488355328) (hrl:∀r∈M1,r.length≤140737488355328)
  (hK:∀w' T' gl,Sep W0 w' T'→(∀q,(∀i,q≠.mx 5 i)→q≠.tm 1→T' q=T q)→T' (.tm 1)=Owt slV 24 sg gl→gl.length=M.length→(∀(i:Nat) (h:Sl) (r:List F8),hs[i]? =some h→M1[i]? =some r→(Big M i r→∃g,gl[i]? =some g∧T' (.mx 5 i)=GrT h r g (r++List.replicate 70 (v2 i)))∧(¬Big M i r→gl[i]? =some ⟨none,0,0⟩∧(LinkW hA M i h r∨T' (.mx 5 i)=GrT h r h r)))→
   q17Laid_holds.l5 R (sw,st,l3,beZ sF 0 M.length,sg,0,()) w'):
  q17Laid_holds.l3 R (sw,st,l3,beZ sF 0 M.length,sg,0,()) w:=by
 have hsl:(beZ sF 0 M.length).len=M.length:=rfl
 unfold q17Laid_holds.l3
 refine acZ (fun q w'=>∃(i:Nat) (gl:List Sl) (T':Ths),q=(sw,st,l3,beZ sF 0 M.length,sg,(i:Int),())∧i≤M.length∧Sep W0 w' T'∧(∀q,(∀i,q≠.mx 5 i)→q≠.tm 1→T' q=T q)∧T' (.tm 1)=Owt slV 24 sg gl∧gl.length=M.length∧
   (∀(j:Nat) (h:Sl) (r:List F8),hs[j]? =some h→M1[j]? =some r→(j<i→(Big M j r→∃g,gl[j]? =some g∧T' (.mx 5 j)=GrT h r g (r++List.replicate 70 (v2 j)))∧(¬Big M j r→gl[j]? =some ⟨none,0,0⟩∧(LinkW hA M j h r∨T' (.mx 5 j)=GrT h r h r)))∧
    (i≤j→gl[j]? =some ⟨none,0,0⟩∧(LinkW hA M j h r∨T' (.mx 5 j)=GrT h r h r)))) (fun q _=>((M.length:Int)-q.2.2.2.2.2.1).toNat) ?_
  ⟨0,List.replicate M.length ⟨none,0,0⟩,T,rfl,Nat.zero_le _,hS,fun _ _ _=>rfl,hkg,by simp,fun j h r h1 h2=>⟨fun h=>by omega,fun _=>⟨by rw[List.getElem?_replicate,if_pos (by have:=(List.getElem?_eq_some_iff.1 h2).1;omega)],hr j h r h1 h2⟩⟩⟩
 rintro k1 _ w1 ⟨i,gl,T1,rfl,hi,hS1,n1,g1,gll,r1⟩ hk1
 unfold q17Laid_holds.b3
 dsimp only at hk1 ⊢
 refine abZ (fun hlt=>?_) (fun hge=>?_)
 ·have hiM:i<M.length:=by omega
  obtain⟨r0,hr0⟩:=atx hiM
  obtain⟨h0,hh0⟩:=atx (l:=hw) (i:=i) (by rw[hW.len];exact hiM)
  obtain⟨h,hh⟩:=atx (l:=hs) (i:=i) (by omega)
  obtain⟨r,hrr⟩:=atx (l:=M1) (i:=i) (by omega)
  have hW1:=bmZ hS1 hW
  have hh0l:h0.len=r0.length:=(hW.row i h0 r0 hh0 hr0).1
  have hrlen:=hrl r (List.mem_of_getElem? hrr)
  obtain⟨hgn,hcases⟩:=(r1 i h r hh hrr).2 (Nat.le_refl _)
  have rd:∀{w':World} {T':Ths},Sep W0 w' T'→T' kF=T1 kF→Rds slV w' (beZ sF 0 M.length) hs:=fun hS' e=>by
   have:=bTZ (hS'.owt (e.trans ((n1 kF kF5 kFt).trans hkF))).rds (a:=0) (b:=M.length) (Nat.zero_le _) (by rw[List.length_append];omega)
   rwa [List.drop_zero,List.take_append_of_le_length (by omega),List.take_of_length_le (by omega)]at this
  have hhl:h.len=r.length:=by
   rcases hcases with ⟨_,⟨a,_,rfl⟩ | ⟨rfl,rfl⟩⟩ | hg
   ·show 3+r.length-3=_;omega
   ·rfl
   ·exact(gr_get hS1 hg).1.1
  have next:∀{w':World} {T':Ths} {gl':List Sl},Sep W0 w' T'→(∀q,q≠.mx 5 i→q≠.tm 1→T' q=T1 q)→T' (.tm 1)=Owt slV 24 sg gl'→gl'.length=M.length→(∀j,j≠i→gl'[j]? =gl[j]?)→((Big M i r→∃g,gl'[i]? =some g∧T' (.mx 5 i)=GrT h r g (r++List.replicate 70 (v2 i)))∧(¬Big M i r→gl'[i]? =some ⟨none,0,0⟩∧(LinkW hA M i h r∨T' (.mx 5 i)=GrT h r h r)))→
    q17Laid_holds.j3 R k1 sw st l3 (beZ sF 0 M.length) sg (i:Int) w':=by
   intro w' T' gl' a1 a2 a3 a4 a5 a6
   unfold q17Laid_holds.j3
   rw[adZ (by omega) (by omega),show(i:Int)+1=((i+1:Nat):Int) by omega]
   refine hk1 _ _ ⟨i+1,gl',T',rfl,by omega,a1,fun q hq hq2=>(a2 q (hq i) hq2).trans (n1 q hq hq2),a3,a4,fun j g q e1 e2=>?_⟩ (by dsimp only;omega)
   by_cases e:j=i
   ·subst e
    rw[hh]at e1
    rw[hrr]at e2
    cases e1
    cases e2
    exact⟨fun _=>a6,fun h=>by omega⟩
   ·rw[a5 j e,a2 (.mx 5 j) (by simpa using e) (by simp)]
    obtain⟨p1,p2⟩:=r1 j g q e1 e2
    exact⟨fun h=>p1 (by omega),fun h=>p2 (by omega)⟩
  have keep:¬Big M i r→q17Laid_holds.j4 R k1 sw st l3 (beZ sF 0 M.length) sg (i:Int) false w1:=by
   intro hb
   unfold q17Laid_holds.j4
   exact aAZ (next hS1 (fun _ _ _=>rfl) g1 gll (fun _ _=>rfl) ⟨fun h=>absurd h hb,fun _=>⟨hgn,hcases⟩⟩)
  refine atZ hW1.hdr hh0 ?_
  rw[hh0l]
  refine aJZ (fun hz=>?_) (fun hnz=>keep (fun⟨hb,_⟩=>by rw[hr0]at hb;cases hb;exact hnz rfl))
  have hr0n:r0=[]:=List.eq_nil_of_length_eq_zero (by omega)
  subst hr0n
  refine atZ (rd hS1 rfl) hh ?_
  rw[hhl]
  by_cases hre:r=[]
  ·rw[decide_eq_false (by rw[hre];simp)]
   exact keep (fun⟨_,hb⟩=>hb hre)
  have hrpos:0<r.length:=List.length_pos_iff.2 hre
  rw[decide_eq_true (by omega)]
  have hbig:Big M i r:=⟨hr0,hre⟩
  have hg0:T1 (.mx 5 i)=GrT h r h r:=by
   rcases hcases with ⟨hMi,_⟩ | hg
   ·rw[hr0]at hMi
    cases hMi
    exact absurd rfl hre
   ·exact hg
  unfold q17Laid_holds.j4
  refine Cd_t ?_
  refine atZ (rd hS1 rfl) hh ?_
  unfold q17Laid_holds.l4
  refine acZ (fun q w'=>∃(j:Nat) (g:Sl) (T':Ths),q=(sw,st,l3,beZ sF 0 M.length,sg,(i:Int),g,(j:Int),())∧j≤70∧Sep W0 w' T'∧(∀q,q≠.mx 5 i→T' q=T1 q)∧T' (.mx 5 i)=GrT h r g (r++List.replicate j (v2 i))) (fun q _=>((70:Int)-q.2.2.2.2.2.2.2.1).toNat) ?_
   ⟨0,h,T1,rfl,by omega,hS1,fun _ _=>rfl,by simpa using hg0⟩
  rintro k2 _ w2 ⟨j,g,T2,rfl,hj,hS2,n2,g2⟩ hk2
  unfold q17Laid_holds.b4
  dsimp only at hk2 ⊢
  refine abZ (fun hlt2=>?_) (fun hge2=>?_)
  ·rw[wrap_v2 (by omega)]
   refine gr_app (v2 i) hS2 g2 (by rw[List.length_append];omega) (by rw[List.length_append,List.length_replicate];omega) fun s' w3 hS3=>?_
   rw[List.append_assoc,←List.replicate_succ']at hS3
   rw[adZ (by omega) (by omega),show(j:Int)+1=((j+1:Nat):Int) by omega]
   exact hk2 _ _ ⟨j+1,s',_,rfl,by omega,hS3,fun q hq=>by rw[Ths.up_ne _ _ hq];exact n2 q hq,Ths.up_same _ _ _⟩ (by dsimp only;omega)
  ·have hj70:j=70:=by omega
   subst hj70
   have gk2:=(n2 (.tm 1) (by simp)).trans g1
   refine Wu_set (f:=slV) (x:=g) (i:=i) (hS2.owt gk2) (by omega) tBB sS sS rfl rfl fun w3 hO3 hm3=>?_
   have hS3:=hS2.grow gk2 hO3 hm3 (fun b hb=>.inl hb)
   refine next (gl':=gl.set i g) hS3 (fun q h1 h2=>by rw[Ths.up_ne _ _ h2];exact n2 q h1) (Ths.up_same _ _ _) (by rw[List.length_set];exact gll) (fun j hj=>List.getElem?_set_ne (fun e=>hj e.symm)) ⟨fun _=>⟨g,?_,?_⟩,fun h=>absurd hbig h⟩
   ·rw[List.getElem?_set,if_pos rfl,if_pos (by omega)]
   ·rw[Ths.up_ne _ _ (by simp)];exact g2
 ·have hie:i=M.length:=by omega
  exact hK w1 T1 gl hS1 n1 g1 gll (fun j h r h1 h2=>(r1 j h r h1 h2).1 (by have:=(List.getElem?_eq_some_iff.1 h2).1;omega))
theorem layR_at{r:List F8}{j:Nat}:(3≤j→j<3+r.length→(layR r)[j]? =r[j-3]?)∧(j<r.length+73→¬(3≤j∧j<3+r.length)→(layR r)[j]? =some 91#8):=by
 unfold layR
 refine⟨fun h1 h2=>?_,fun h1 h2=>?_⟩
 ·rw[List.getElem?_append_left (by rw[List.length_append,List.length_replicate];omega),List.getElem?_append_right (by rw[List.length_replicate];omega),List.length_replicate]
 ·by_cases h3:j<3
  ·rw[List.getElem?_append_left (by rw[List.length_append,List.length_replicate];omega),List.getElem?_append_left (by rw[List.length_replicate];omega),List.getElem?_replicate,if_pos h3]
  ·rw[List.getElem?_append_right (by rw[List.length_append,List.length_replicate];omega),List.getElem?_replicate,if_pos (by rw[List.length_append,List.length_replicate];omega)]
theorem holds5{W0 w:World}{T:Ths}{kA kF:Ky}{g0:Nat}{sA sF hm sw st sg:Sl}{hA hs hw hst gl:List Sl}{M M':Mtx}{R:Ending→World→Prop}(hS:Sep W0 w T)(hkA:T kA=ShT sA hA (layM M))(hkF:T kF=Owt slV 24 sF (hs++[hm]))(hkl:T (.tm 0)=Cel g0 (afZ L2 (sA,sF,())) 165)(hkg:T (.tm 1)=Owt slV 24 sg gl)(hgl:gl.length=M.length)(hl:hs.length=M'.length)(hm':M'.length=M.length)
  (hr:∀(i:Nat) (h:Sl) (r:List F8),hs[i]? =some h→(ovr M M')[i]? =some r→(Big M i r→∃g,gl[i]? =some g∧T (.mx 5 i)=GrT h r g (r++List.replicate 70 (v2 i)))∧(¬Big M i r→gl[i]? =some ⟨none,0,0⟩∧(LinkW hA M i h r∨T (.mx 5 i)=GrT h r h r))) (hW:MatR W0 sw hw M) (hwt:MatR w st hst M') (hN:M.length≤140737488355328) (hrl:∀r∈M',r.length≤140737488355328) (hrl0:∀r∈M,r.length≤140737488355328)
  (hsame:∀(i:Nat) (r:List F8),M[i]? =some r→r≠[]→M'[i]? =some r) (hR:∀w',Ex w w'→R (.returned (.bool true)) w'):q17Laid_holds.l5 R (sw,st,⟨g0,0,none⟩,beZ sF 0 M.length,sg,0,()) w:=by
 have hsl:(beZ sF 0 M.length).len=M.length:=rfl
 unfold q17Laid_holds.l5
 refine acZ (fun q w'=>∃i:Nat,q=(sw,st,⟨g0,0,none⟩,beZ sF 0 M.length,sg,(i:Int),())∧i≤M.length∧Ex w w') (fun q _=>((M.length:Int)-q.2.2.2.2.2.1).toNat) ?_ ⟨0,rfl,Nat.zero_le _,Ex.refl _⟩
 rintro k5 _ w1 ⟨i,rfl,hi,hx1⟩ hk5
 unfold q17Laid_holds.b5
 dsimp only at hk5 ⊢
 refine abZ (fun hlt=>?_) (fun hge=>hR w1 hx1)
 have hiM:i<M.length:=by omega
 obtain⟨r0,hr0⟩:=atx hiM
 obtain⟨h0,hh0⟩:=atx (l:=hw) (i:=i) (by rw[hW.len];exact hiM)
 obtain⟨h,hh⟩:=atx (l:=hs) (i:=i) (by omega)
 obtain⟨r',hrr'⟩:=atx (l:=M') (i:=i) (by omega)
 have hov:=ovr_at (M:=M) hrr'
 rw[bzZ hr0]at hov
 obtain⟨rr,hrr⟩:∃rr,rr=(if r0=[] then List.replicate r'.length (v1 i) else r'):=⟨_,rfl⟩
 rw[←hrr]at hov
 have hrlen:=hrl r' (List.mem_of_getElem? hrr')
 have hr0len:=hrl0 r0 (List.mem_of_getElem? hr0)
 obtain⟨hb1,hb2⟩:=hr i h rr hh hov
 have hh0l:h0.len=r0.length:=(hW.row i h0 r0 hh0 hr0).1
 have rd:∀{w'},Ex w w'→Rds slV w' (beZ sF 0 M.length) hs:=fun hx'=>by
  have:=bTZ ((hS.exx hx').owt hkF).rds (a:=0) (b:=M.length) (Nat.zero_le _) (by rw[List.length_append];omega)
  rwa [List.drop_zero,List.take_append_of_le_length (by omega),List.take_of_length_le (by omega)]at this
 have arr:∀{w'},Ex w w'→Rd Tryz.prog (Instr.loadAt 30 (.pointer (some ⟨g0,0,none⟩))) (.one (.at .sl)) (fun(x83:Sl) w84=>
   Pu Tryz.prog (Instr.indexAt 30 (.slice x83.base x83.len x83.cap) (.int .i64 (i:Int))) (.one (.at .addr)) (fun(x85:Addr) w86=>
   Rd Tryz.prog (Instr.loadAt 24 (.pointer (some x85))) (.one (.at .sl)) (fun(x87:Sl) w88=>
   Pu Tryz.prog (Instr.indexAt 30 (.slice sw.base sw.len sw.cap) (.int .i64 (i:Int))) (.one (.at .addr)) (fun(x89:Addr) w90=>
   Rd Tryz.prog (Instr.loadAt 24 (.pointer (some x89))) (.one (.at .sl)) (fun(x91:Sl) w92=>
   q17Laid_holds.l7 R k5 (sw,st,⟨g0,0,none⟩,beZ sF 0 M.length,sg,(i:Int),x87,((x91.len:Nat):Int),0,()) w92) w90) w88) w86) w84) w':=by
  intro w2 hx2
  have hS2:=hS.exx hx2
  obtain⟨p1,p2,p3⟩:=sh_get hS2 hkA
  rw[List.length_map]at p2
  obtain⟨a,ha⟩:=atx (l:=hA) (i:=i) (by omega)
  have hra:(layM M)[i]? =some (layR r0):=by rw[List.getElem?_map,hr0];rfl
  have hal:=(p3 i a _ ha hra).rds.1
  rw[layR_len]at hal
  refine ajZ (c:=.sl) (x:=sA) (B:=g0) (i:=0) (hS2.has hkl) (by kernel_rfl) rfl ?_
  refine atZ p1.rds ha ?_
  refine atZ (bmZ hS2 hW).hdr hh0 ?_
  rw[hh0l]
  unfold q17Laid_holds.l7
  refine acZ (fun q w'=>∃j:Nat,q=(sw,st,⟨g0,0,none⟩,beZ sF 0 M.length,sg,(i:Int),a,(r0.length:Int),(j:Int),())∧j≤r0.length+73∧Ex w w') (fun q _=>(((r0.length+73:Nat):Int)-q.2.2.2.2.2.2.2.2.1).toNat) ?_ ⟨0,rfl,Nat.zero_le _,hx2⟩
  rintro k7 _ w3 ⟨j,rfl,hj,hx3⟩ hk7
  unfold q17Laid_holds.b7
  dsimp only at hk7 ⊢
  have hS3:=hS.exx hx3
  have hrow3:=((sh_get hS3 hkA).2.2 i a _ ha hra).rds
  refine abZ (fun hlt3=>?_) (fun hge3=>?_)
  ·have hja:j<r0.length+73:=by omega
   have nxt:∀{w'},Ex w w'→q17Laid_holds.j6 R k5 k7 sw st ⟨g0,0,none⟩ (beZ sF 0 M.length) sg (i:Int) a (r0.length:Int) (j:Int) w':=by
    intro w' hx'
    unfold q17Laid_holds.j6
    rw[adZ (by omega) (by omega),show(j:Int)+1=((j+1:Nat):Int) by omega]
    exact hk7 _ _ ⟨j+1,rfl,by omega,hx'⟩ (by dsimp only;omega)
   have two:∀t:Bool,(t=true↔(3≤j∧j<3+r0.length))→q17Laid_holds.j7 R k5 k7 sw st ⟨g0,0,none⟩ (beZ sF 0 M.length) sg (i:Int) a (r0.length:Int) (j:Int) t w3:=by
    intro t ht
    unfold q17Laid_holds.j7
    refine Cd_of (fun h'=>?_) (fun h'=>?_)
    ·obtain⟨q1,q2⟩:=ht.1 h'
     have hd:=Ex.drew w3
     have hx4:=hx3.trans hd
     obtain⟨x,hx⟩:=atx (l:=r0) (i:=j-3) (by omega)
     have hlx:(layR r0)[j]? =some x:=by rw[(layR_at (r:=r0) (j:=j)).1 q1 q2,hx]
     have hne:r0≠[]:=fun e=>by rw[e]at hx;simp at hx
     have hM'i:=hsame i r0 hr0 hne
     obtain⟨ht',hht'⟩:=atx (l:=hst) (i:=i) (by rw[hwt.len];omega)
     have hwt4:=hwt.ex hx4
     refine rdS_ent (hrow3.ex hd) (fun v hv=>by cases hv;exact⟨_,hrow3.ex hd,hlx⟩) hlx ?_
     refine aQZ hwt4.hdr (fun v hv=>by cases hv;exact hwt4.hdr) hht' ?_
     rw[adZ (by omega) (by omega),show(j:Int)-3=((j-3:Nat):Int) by omega]
     refine rdS_ent (hwt4.row i ht' r0 hht' hM'i) (fun v hv=>by cases hv;exact⟨_,hwt4.row i ht' r0 hht' hM'i,hx⟩) hx ?_
     exact aEZ (fun h=>absurd rfl h) (fun _=>nxt hx4)
    ·have hlx:=(layR_at (r:=r0) (j:=j)).2 hja (fun h=>by rw[ht.2 h]at h';cases h')
     refine byZ hrow3 hlx ?_
     exact aEZ (fun h=>absurd rfl h) (fun _=>nxt hx3)
   refine abZ (fun h3=>?_) (fun h3=>two _ (by simp;omega))
   rw[adZ (by omega) (by omega)]
   exact two _ (by rw[decide_eq_true_iff];omega)
  ·rw[adZ (by omega) (by omega),show(i:Int)+1=((i+1:Nat):Int) by omega]
   exact hk5 _ _ ⟨i+1,rfl,by omega,hx3⟩ (by dsimp only;omega)
 have rg:∀{w'},Ex w w'→Rds slV w' sg gl:=fun hx'=>((hS.exx hx').owt hkg).rds
 by_cases hbig:Big M i rr
 ·obtain⟨g,hg1,hg2⟩:=hb1 hbig
  have hr0n:r0=[]:=by have:=hbig.1;rw[hr0]at this;exact Option.some.inj this
  rw[if_pos hr0n]at hrr
  have hrrl:rr.length=r'.length:=by rw[hrr,List.length_replicate]
  have rrow:∀{w'},Ex w w'→Rds f8v w' h rr∧Rds f8v w' g (rr++List.replicate 70 (v2 i)):=fun hx'=>gr_get (hS.exx hx') hg2
  have hhl:h.len=rr.length:=(rrow hx1).1.1
  have hgl':g.len=rr.length+70:=by rw[(rrow hx1).2.1,List.length_append,List.length_replicate]
  unfold q17Laid_holds.l6
  refine acZ (fun q w'=>∃j:Nat,q=(sw,st,⟨g0,0,none⟩,beZ sF 0 M.length,sg,(i:Int),(j:Int),())∧j≤rr.length+70∧Ex w w') (fun q _=>(((rr.length+70:Nat):Int)-q.2.2.2.2.2.2.1).toNat) ?_ ⟨0,rfl,Nat.zero_le _,hx1⟩
  rintro k6 _ w2 ⟨j,rfl,hj,hx2⟩ hk6
  unfold q17Laid_holds.b6
  dsimp only at hk6 ⊢
  obtain⟨rh,rgr⟩:=rrow hx2
  refine atZ (rg hx2) hg1 ?_
  rw[hgl']
  refine abZ (fun hlt3=>?_) (fun hge3=>arr hx2)
  have hjl:j<rr.length+70:=by omega
  have ok:q17Laid_holds.j5 R k5 k6 sw st ⟨g0,0,none⟩ (beZ sF 0 M.length) sg (i:Int) (j:Int) false w2:=by
   unfold q17Laid_holds.j5
   refine aAZ ?_
   rw[adZ (by omega) (by omega),show(j:Int)+1=((j+1:Nat):Int) by omega]
   exact hk6 _ _ ⟨j+1,rfl,by omega,hx2⟩ (by dsimp only;omega)
  rw[wrap_v1 (by omega),wrap_v2 (by omega)]
  refine atZ (rd hx2) hh ?_
  rw[hhl]
  by_cases hjr:j<rr.length
  ·rw[decide_eq_true (by omega)]
   refine Cd_t ?_
   have hv:(rr++List.replicate 70 (v2 i))[j]? =some (v1 i):=by rw[List.getElem?_append_left hjr,hrr,List.getElem?_replicate,if_pos (by omega)]
   refine atZ (rg hx2) hg1 ?_
   refine byZ rgr hv ?_
   refine aEZ (fun h=>absurd rfl h) (fun _=>?_)
   refine atZ (rd hx2) hh ?_
   rw[hhl,decide_eq_false (by omega)]
   exact aAZ ok
  ·rw[decide_eq_false (by omega)]
   refine aAZ ?_
   have hv:(rr++List.replicate 70 (v2 i))[j]? =some (v2 i):=by rw[List.getElem?_append_right (by omega),List.getElem?_replicate,if_pos (by omega)]
   refine atZ (rd hx2) hh ?_
   rw[hhl,decide_eq_true (by omega)]
   refine Cd_t ?_
   refine atZ (rg hx2) hg1 ?_
   refine byZ rgr hv ?_
   have:(((v2 i).toNat:Int) !=((v2 i).toNat:Int))=false:=by simp
   rw[this]
   exact ok
 ·obtain⟨hg1,_⟩:=hb2 hbig
  unfold q17Laid_holds.l6
  refine acZ (fun q w'=>q=(sw,st,⟨g0,0,none⟩,beZ sF 0 M.length,sg,(i:Int),0,())∧Ex w w') (fun q _=>0) ?_ ⟨rfl,hx1⟩
  rintro k6 _ w2 ⟨rfl,hx2⟩ hk6
  unfold q17Laid_holds.b6
  dsimp only at hk6 ⊢
  refine atZ (rg hx2) hg1 ?_
  exact abZ (fun h=>absurd h (by decide)) (fun _=>arr hx2)
end Go.Proofs.YtbiilejgfihohaaGreat
namespace Go.Proofs.YtbiilejgfihohaaGreat
open Go Go.Cu Go.RowKit
theorem holds_ok{W0 w:World}{T:Ths}{kA kF km:Ky}{sA sF hm sw st:Sl}{hA hs hw hst:List Sl}{M M':Mtx}(kA5:∀i,kA≠.mx 5 i)(kF5:∀i,kF≠.mx 5 i)(km5:∀i,km≠.mx 5 i)(kAt:∀i,kA≠.tm i)(kFt:∀i,kF≠.tm i)(kmt:∀i,km≠.tm i)
  (hS:Sep W0 w T) (hkA:T kA=ShT sA hA (layM M)) (hkF:T kF=Owt slV 24 sF (hs++[hm])) (hkm:T km=Owt f8v 5 hm [92#8]) (hl:hs.length=M'.length) (hm':M'.length=M.length)
  (hr:∀(i:Nat) (h:Sl) (r:List F8),hs[i]? =some h→M'[i]? =some r→LinkW hA M i h r∨T (.mx 5 i)=GrT h r h r) (hW:MatR W0 sw hw M) (hwt:∀w' T',Sep W0 w' T'→(∀q,(∀i,q≠.mx 5 i)→q≠.tm 0→q≠.tm 1→T' q=T q)→MatR w' st hst M')
  (hsame:∀(i:Nat) (r:List F8),M[i]? =some r→r≠[]→M'[i]? =some r) (hN:M.length*24≤140737488355328) (hrl0:∀r∈M,r.length≤140737488355328) (hrl:∀r∈M',r.length≤140737488355328):
  Cl Tryz.prog 107 #[.agg #[.slice sA.base sA.len sA.cap,.slice sF.base sF.len sF.cap],.slice sw.base sw.len sw.cap,.slice st.base st.len st.cap] (.one (.at .bool)) (fun x w'=>x=true∧∃T',Sep W0 w' T'∧∀q,(∀i,q≠.mx 5 i)→q≠.tm 0→q≠.tm 1→T' q=T q) w:=by
 refine q17Laid_holds.run _ (sA,sF,()) sw st w ?_
 generalize hRR:(fun(e:Ending) (w':World)=>∃x:Bool,e=.returned ((Sh.one (.at .bool)).enc x)∧x=true∧∃T',Sep W0 w' T'∧∀q,(∀i,q≠.mx 5 i)→q≠.tm 0→q≠.tm 1→T' q=T q)=R
 have hN2:M.length≤140737488355328:=by omega
 unfold q17Laid_holds.M
 refine bcZ fun w1 hB hx1=>?_
 have hB':Has w1 w.heap.size (afZ L2 (sA,sF,())) 165:=hB
 have hS1:=hS.box (.tm 0) hx1 hB'
 generalize w.heap.size=g0 at hB' hS1 ⊢
 clear hB
 obtain⟨T1,hT1e⟩:∃T1,T1=T.up (.tm 0) (Cel g0 (afZ L2 (sA,sF,())) 165):=⟨_,rfl⟩
 rw[←hT1e]at hS1
 have n1:∀q,q≠.tm 0→T1 q=T q:=fun q hq=>by rw[hT1e,Ths.up_ne _ _ hq]
 have l1:T1 (.tm 0)=Cel g0 (afZ L2 (sA,sF,())) 165:=by rw[hT1e,Ths.up_same]
 clear hT1e
 have A1:=(n1 kA (kAt 0)).trans hkA
 have F1:=(n1 kF (kFt 0)).trans hkF
 have m1:=(n1 km (kmt 0)).trans hkm
 have r1:∀(i:Nat) (h:Sl) (r:List F8),hs[i]? =some h→M'[i]? =some r→LinkW hA M i h r∨T1 (.mx 5 i)=GrT h r h r:=fun i h r e1 e2=>by rw[n1 _ (by simp)];exact hr i h r e1 e2
 refine bxZ (x:=((sA,sF,()):Ats L2)) hB' (by kernel_rfl) rfl ?_
 have hF:=(hS1.owt F1).rds
 have hFl:sF.len=M.length+1:=by rw[hF.1,List.length_append,List.length_singleton];omega
 refine aeZ (shards_ok (sA:=sA) hFl hF.2.1 hN2) ?_
 rintro _ w2 ⟨rfl,hx2⟩
 have hS2:=hS1.exx hx2
 have hmat2:MatR w2 (beZ sF 0 M.length) hs M':=mat_laid hS2 A1 F1 hl hm' (fun i h r e1 e2=>(r1 i h r e1 e2).imp id (fun h'=>⟨_,_,h'⟩))
 refine auZ (d:=.one (.at .bool)) (x:=true) (by have:=alike_gv hmat2 (hwt w2 T1 hS2 (fun q _ h0 _=>n1 q h0)) (by omega) hrl;rw[decide_eq_true rfl]at this;exact this) fun w3 hx3=>?_
 refine aAZ ?_
 have hS3:=hS2.exx hx3
 rw[show(⟨g0,0,none⟩:Addr).add 1=⟨g0,1,none⟩ from rfl]
 refine ajZ (c:=.sl) (x:=sF) (i:=1) (hS3.has l1) (by kernel_rfl) rfl ?_
 refine atZ (i:=M.length) (hS3.owt F1).rds (h:=hm) (by rw[List.getElem?_append_right (by omega),show M.length-hs.length=0 by omega];rfl) ?_
 rw[show(Value.int .u8 92)=f8v 92#8 from rfl]
 refine bvZ (f:=f8v) (e:=5) (base:=w3.heap.size) [92#8] (by kernel_rfl) (Nat.le_refl _) (by simp) fun s4 w4 ho4 hx4 _=>?_
 have hS4:=hS3.exx hx4
 refine auZ (d:=.one (.at .bool)) (x:=true) (by have:=equal_gv (hS4.owt m1).rds ho4.rds (by simp);rw[decide_eq_true rfl]at this;exact this) fun w5 hx5=>?_
 have hS5:=hS4.exx hx5
 unfold q17Laid_holds.j1
 refine aAZ ?_
 refine holds1 kA5 kF5 hS5 A1 F1 hl hm' r1 hW hN2 hrl fun w6 T6 hS6 n6 r6=>?_
 refine bOZ (f:=slV) (z:=⟨none,0,0⟩) tBB iS rfl M.length (by omega) (by omega) rfl rfl fun sg w7 hsg hB7 hx7=>?_
 have hO7:Own slV 24 w6.heap.size w7 sg (List.replicate M.length ⟨none,0,0⟩):=by rw[hsg];exact blZ (by simp) (by omega) hB7 (Nat.le_refl _)
 have hS7:=hS6.newOwn (.tm 1) hx7 hO7
 have n7:∀q,(∀i,q≠.mx 5 i)→q≠.tm 1→(T6.up (.tm 1) (Owt slV 24 sg (List.replicate M.length ⟨none,0,0⟩))) q=T1 q:=fun q h1 h2=>(Ths.up_ne _ _ h2).trans (n6 q h1)
 have hovl:∀r∈ovr M M',r.length≤140737488355328:=fun r hr'=>by
  obtain⟨i,hi⟩:=List.mem_iff_getElem?.1 hr'
  obtain⟨q,hq⟩:=atx (l:=M') (i:=i) (by have:=(List.getElem?_eq_some_iff.1 hi).1;rwa [ovr_len]at this)
  rw[ovr_at hq]at hi
  have:=hrl q (List.mem_of_getElem? hq)
  rw[←Option.some.inj hi]
  split
  ·rw[List.length_replicate];exact this
  ·exact this
 refine holds3 kF5 (kFt 1) hS7 ((n7 kF kF5 (kFt 1)).trans F1) (Ths.up_same _ _ _) (by rw[ovr_len];exact hl) (by rw[ovr_len];exact hm') (fun i h r e1 e2=>by rw[Ths.up_ne _ _ (by simp)];exact r6 i h r e1 e2) hW hN2 hovl fun w8 T8 gl hS8 n8 g8 gll r8=>?_
 have k8:∀q,(∀i,q≠.mx 5 i)→q≠.tm 1→T8 q=T1 q:=fun q h1 h2=>(n8 q h1 h2).trans (n7 q h1 h2)
 refine holds5 hS8 ((k8 kA kA5 (kAt 1)).trans A1) ((k8 kF kF5 (kFt 1)).trans F1) ((k8 _ (by simp) (by simp)).trans l1) g8 gll hl hm' r8 hW (hwt w8 T8 hS8 (fun q h5 h0 h1=>(k8 q h5 h1).trans (n1 q h0))) hN2 hrl hrl0 hsame fun w9 hx9=>?_
 subst hRR
 exact⟨true,rfl,rfl,T8,hS8.exx hx9,fun q h5 h0 h1=>(k8 q h5 h1).trans (n1 q h0)⟩
end Go.Proofs.YtbiilejgfihohaaGreat
namespace Go.Proofs.YtbiilejgfihohaaGreat
open Go Go.Cu Go.RowKit
abbrev OpA:List At:=[.int .i64,.sl,.sl,.int .i64,.int .i64,.sl,.sl,.sl,.bool]
theorem laid_new{w:World}{x:Ats L2}{K:Addr→World→Prop}(hk:∀w',Has w' w.heap.size (afZ L2 x) 165→Ex w w'→K ⟨w.heap.size,0,none⟩ w'):
  Wr Tryz.prog (Instr.alloc 165 true (.tuple #[])) (.one (.at .addr)) (fun(a:Addr) w1=>Wu Tryz.prog (Instr.storeAt 165 (.pointer (some a)) (.agg (afZ L2 x).toArray)) (fun w2=>K a w2) w1) w:=by
 refine alloc2 fun w1 hB1 hx1=>?_
 refine sto2 (x:=x) hB1 rfl fun w2 hB2 hm2=>?_
 exact hk w2 hB2 (hx1.into hm2 (fun i hi=>by omega))
theorem span_new2{w:World}{x y:Int}{K:Addr→World→Prop}(hk:∀w',Ex w w'→K ⟨w.heap.size,0,none⟩ w'):
  Wr Tryz.prog (Instr.alloc 41 true (.tuple #[])) (.one (.at .addr)) (fun(a:Addr) w1=>Wu Tryz.prog (Instr.storeAt 41 (.pointer (some a)) (.agg #[.int .i64 x,.int .i64 y])) (fun w2=>K a w2) w1) w:=by
 refine Wr_alloc (z:=.agg #[.int .i64 0,.int .i64 0]) (by kernel_rfl) fun w1 hB1 hx1=>?_
 refine awZ (v:=.agg #[.int .i64 x,.int .i64 y]) hB1 (by kernel_rfl) (by simp[Value.cells,Value.oneCell']) (Nat.le_refl 2) fun w2 hB2 hm2=>?_
 exact hk w2 (hx1.into hm2 (fun i hi=>by omega))
theorem wr_tail{W0 w:World}{T:Ths}{go gl gf:Nat}{o:Ats OpA}{sA sF hm sA2 sF2 hm2 st:Sl}{hA hs hA2 hF2 hw hf hst:List Sl}{M M' Fm:Mtx}{e:Int}{R:Ending→World→Prop}(hS:Sep W0 w T)(ho:T (.mx 2 16)=Cel go (afZ OpA o) 100)(hl:T (.mx 2 17)=Cel gl (afZ L2 (sA,sF,())) 165)(hf':T (.mx 2 18)=Cel gf (afZ L2 (sA2,sF2,())) 165)
  (h10:T (.mx 2 10)=ShT sA hA (layM M)) (h11:T (.mx 2 11)=Owt slV 24 sF (hs++[hm])) (h12:T (.mx 2 12)=Owt f8v 5 hm [92#8]) (hlen:hs.length=M'.length) (hml:M'.length=M.length)
  (hr:∀(i:Nat) (h:Sl) (r:List F8),hs[i]? =some h→M'[i]? =some r→LinkW hA M i h r∨T (.mx 5 i)=GrT h r h r) (hW:MatR W0 o.2.1 hw M) (hwt:∀w' T',Sep W0 w' T'→(∀q,(∀i,q≠.mx 5 i)→q≠.tm 0→q≠.tm 1→T' q=T q)→MatR w' st hst M')
  (hsame:∀(i:Nat) (r:List F8),M[i]? =some r→r≠[]→M'[i]? =some r) (hN:M.length*24≤140737488355328) (hrl0:∀r∈M,r.length≤140737488355328) (hrl:∀r∈M',r.length≤140737488355328)
  (h13:T (.mx 2 13)=ShT sA2 hA2 (layM Fm)) (h14:T (.mx 2 14)=Owt slV 24 sF2 (hF2++[hm2])) (h15:T (.mx 2 15)=Owt f8v 5 hm2 [92#8]) (hL2:LinkL hA2 Fm hF2) (hWf:MatR W0 o.2.2.1 hf Fm) (hNf:Fm.length*24≤140737488355328) (hrlf:∀r∈Fm,r.length≤140737488355328)
  (hR:∀w' T',Sep W0 w' T'→(∀q,(∀i,q≠.mx 5 i)→q≠.tm 0→q≠.tm 1→T' q=T q)→R (.returned (.bool true)) w'):
  q17writes.j1 R ⟨go,0,none⟩ ⟨gl,0,none⟩ ⟨gf,0,none⟩ e st e w:=by
 unfold q17writes.j1
 refine aJZ (fun _=>?_) (fun h=>absurd rfl h)
 refine bxZ (x:=((sA,sF,()):Ats L2)) (hS.has hl) (by kernel_rfl) rfl ?_
 rw[show(⟨go,0,none⟩:Addr).add 1=⟨go,1,none⟩ from rfl]
 refine ajZ (c:=.sl) (x:=o.2.1) (i:=1) (hS.has ho) (by kernel_rfl) rfl ?_
 refine aeZ (holds_ok (kA:=.mx 2 10) (kF:=.mx 2 11) (km:=.mx 2 12) (by simp) (by simp) (by simp) (by simp) (by simp) (by simp) hS h10 h11 h12 hlen hml hr hW hwt hsame hN hrl0 hrl) ?_
 rintro _ w1 ⟨rfl,T1,hS1,n1⟩
 refine Cd_t ?_
 have k1:∀i,T1 (.mx 2 i)=T (.mx 2 i):=fun i=>n1 _ (by simp) (by simp) (by simp)
 refine bxZ (x:=((sA2,sF2,()):Ats L2)) (hS1.has ((k1 18).trans hf')) (by kernel_rfl) rfl ?_
 rw[show(⟨go,0,none⟩:Addr).add 2=⟨go,2,none⟩ from rfl]
 refine ajZ (c:=.sl) (x:=o.2.2.1) (i:=2) (hS1.has ((k1 16).trans ho)) (by kernel_rfl) rfl ?_
 refine ajZ (c:=.sl) (x:=o.2.2.1) (i:=2) (hS1.has ((k1 16).trans ho)) (by kernel_rfl) rfl ?_
 refine aeZ (holds_ok (kA:=.mx 2 13) (kF:=.mx 2 14) (km:=.mx 2 15) (M':=Fm) (hst:=hf) (by simp) (by simp) (by simp) (by simp) (by simp) (by simp) hS1 ((k1 13).trans h13) ((k1 14).trans h14) ((k1 15).trans h15) hL2.len rfl (fun i h r e1 e2=>.inl ⟨e2,hL2.ent i h r e1 e2⟩) hWf (fun w' T' h' _=>bmZ h' hWf) (fun i r h _=>h) hNf hrlf hrlf) ?_
 rintro _ w2 ⟨rfl,T2,hS2,n2⟩
 exact hR w2 T2 hS2 (fun q h5 h0 h1=>(n2 q h5 h0 h1).trans (n1 q h5 h0 h1))
theorem recon_cl{w:World}{c:Option Addr}{s:Sl}{K:Int→World→Prop}(h:Cl Tryz.prog 39 #[.pointer c,.slice s.base s.len s.cap,.bool false] (.one (.at (.int .i64))) K w):Cl Tryz.prog 21 #[.pointer c,.slice s.base s.len s.cap] (.one (.at (.int .i64))) K w:=by
 refine mC_Reconstruct.run _ c s w ?_
 unfold mC_Reconstruct.M
 exact aeZ h fun x w' hk=>⟨x,rfl,hk⟩
theorem reconD_cl{w:World}{c:Option Addr}{s:Sl}{K:Int→World→Prop}(h:Cl Tryz.prog 39 #[.pointer c,.slice s.base s.len s.cap,.bool true] (.one (.at (.int .i64))) K w):Cl Tryz.prog 27 #[.pointer c,.slice s.base s.len s.cap] (.one (.at (.int .i64))) K w:=by
 refine mC_ReconstructData.run _ c s w ?_
 unfold mC_ReconstructData.M
 exact aeZ h fun x w' hk=>⟨x,rfl,hk⟩
theorem wr_head{W0 w:World}{T:Ths}{c r:Option Addr}{o:Ats OpA}{hw hf:List Sl}{M Fm:Mtx}{R:Ending→World→Prop}(hS:Sep W0 w T)(hW:MatR W0 o.2.1 hw M)(hN:M.length*24≤140737488355328)(hrl0:∀r∈M,r.length≤140737488355328)(hWf:MatR W0 o.2.2.1 hf Fm)(hNf:Fm.length*24≤140737488355328)(hrlf:∀r∈Fm,r.length≤140737488355328)(hk:o.1=5∨o.1=6)
  (hK:∀w' T' go gl gf sA sF hA hF hm sA2 sF2 hA2 hF2 hm2 (op1:Operand) (da:Bool),Sep W0 w' T'→T' (.mx 2 16)=Cel go (afZ OpA o) 100→T' (.mx 2 17)=Cel gl (afZ L2 (sA,sF,())) 165→T' (.mx 2 18)=Cel gf (afZ L2 (sA2,sF2,())) 165→
   T' (.mx 2 10)=ShT sA hA (layM M)→T' (.mx 2 11)=Owt slV 24 sF (hF++[hm])→T' (.mx 2 12)=Owt f8v 5 hm [92#8]→LinkL hA M hF→T' (.mx 2 13)=ShT sA2 hA2 (layM Fm)→T' (.mx 2 14)=Owt slV 24 sF2 (hF2++[hm2])→T' (.mx 2 15)=Owt f8v 5 hm2 [92#8]→LinkL hA2 Fm hF2→
   (∀q,(∀i,q≠.mx 2 i)→(∀i,q≠.tm i)→T' q=T q)→
   Cl Tryz.prog 39 #[.pointer c,.slice (beZ sF 0 M.length).base (beZ sF 0 M.length).len (beZ sF 0 M.length).cap,.bool da] (.one (.at (.int .i64))) (fun(x72:Int) w73=>
    Pu Tryz.prog (do eqGuard .neq 96 op1 (.const (.pointer none)) (.pointer r) (.pointer none);binOp .neq 96 (.pointer r) (.pointer none)) (.one (.at .bool)) (fun(x74:Bool) w75=>
    Cd x74 (Rd Tryz.prog (Instr.loadAt 30 (.pointer (some (Addr.add ⟨go,0,none⟩ 1)))) (.one (.at .sl)) (fun(x76:Sl) w77=>
     Cl Tryz.prog 105 #[.pointer r,.slice x76.base x76.len x76.cap,.bool da] (.tup [.at .sl,.at (.int .i64)]) (fun x78 w79=>
     q17writes.j1 R ⟨go,0,none⟩ ⟨gl,0,none⟩ ⟨gf,0,none⟩ x72 x78.1 x78.2.1 w79) w77) w75) (q17writes.j1 R ⟨go,0,none⟩ ⟨gl,0,none⟩ ⟨gf,0,none⟩ x72 o.2.1 1 w75)) w73) w'):
  q17writes.M R c r o w:=by
 unfold q17writes.M
 refine bcZ fun w1 hB hx1=>?_
 have hB1:Has w1 w.heap.size (afZ OpA o) 100:=hB
 clear hB
 have hS1:=hS.box (.mx 2 16) hx1 hB1
 generalize w.heap.size=go at hB1 hS1 ⊢
 clear hB1
 obtain⟨T1,hT1e⟩:∃T1,T1=T.up (.mx 2 16) (Cel go (afZ OpA o) 100):=⟨_,rfl⟩
 rw[←hT1e]at hS1
 have o1:T1 (.mx 2 16)=Cel go (afZ OpA o) 100:=by rw[hT1e,Ths.up_same]
 have n1:∀q,q≠.mx 2 16→T1 q=T q:=fun q hq=>by rw[hT1e,Ths.up_ne _ _ hq]
 clear hT1e
 have ad:∀n,(⟨go,0,none⟩:Addr).add n=⟨go,n,none⟩:=fun n=>add_lit go n
 rw[ad 1,ad 8,ad 2,ad 3,ad 4]
 refine ajZ (c:=.sl) (x:=o.2.1) (i:=1) (hS1.has o1) (by kernel_rfl) rfl ?_
 refine ajZ (c:=.bool) (x:=o.2.2.2.2.2.2.2.2.1) (i:=8) (hS1.has o1) (by kernel_rfl) rfl ?_
 refine aeZ (llay_ok (kA:=.mx 2 10) (kF:=.mx 2 11) (km:=.mx 2 12) o.2.2.2.2.2.2.2.2.1 (by simp) (by simp) (by simp) (by simp) (by simp) (by simp) hS1 hW hN hrl0) ?_
 rintro _ w2 ⟨sA,sF,hA,hF,hm,T2,rfl,hS2,a2,f2,m2,hL,n2⟩
 dsimp only
 refine laid_new (x:=((sA,sF,()):Ats L2)) fun w3 hB3 hx3=>?_
 have hS3:=hS2.box (.mx 2 17) hx3 hB3
 generalize w2.heap.size=gl at hB3 hS3 ⊢
 clear hB3
 obtain⟨T3,hT3e⟩:∃T3,T3=T2.up (.mx 2 17) (Cel gl (afZ L2 (sA,sF,())) 165):=⟨_,rfl⟩
 rw[←hT3e]at hS3
 have l3:T3 (.mx 2 17)=Cel gl (afZ L2 (sA,sF,())) 165:=by rw[hT3e,Ths.up_same]
 have n3:∀q,q≠.mx 2 17→T3 q=T2 q:=fun q hq=>by rw[hT3e,Ths.up_ne _ _ hq]
 clear hT3e
 have o3:=(n3 (.mx 2 16) (by simp)).trans ((n2 (.mx 2 16) (by simp) (by simp) (by simp) (by simp)).trans o1)
 refine ajZ (c:=.sl) (x:=o.2.2.1) (i:=2) (hS3.has o3) (by kernel_rfl) rfl ?_
 refine ajZ (c:=.bool) (x:=o.2.2.2.2.2.2.2.2.1) (i:=8) (hS3.has o3) (by kernel_rfl) rfl ?_
 refine aeZ (llay_ok (kA:=.mx 2 13) (kF:=.mx 2 14) (km:=.mx 2 15) o.2.2.2.2.2.2.2.2.1 (by simp) (by simp) (by simp) (by simp) (by simp) (by simp) hS3 hWf hNf hrlf) ?_
 rintro _ w4 ⟨sA2,sF2,hA2,hF2,hm2,T4,rfl,hS4,a4,f4,m4,hL2,n4⟩
 dsimp only
 refine laid_new (x:=((sA2,sF2,()):Ats L2)) fun w5 hB5 hx5=>?_
 have hS5:=hS4.box (.mx 2 18) hx5 hB5
 generalize w4.heap.size=gf at hB5 hS5 ⊢
 clear hB5
 obtain⟨T5,hT5e⟩:∃T5,T5=T4.up (.mx 2 18) (Cel gf (afZ L2 (sA2,sF2,())) 165):=⟨_,rfl⟩
 rw[←hT5e]at hS5
 have ff5:T5 (.mx 2 18)=Cel gf (afZ L2 (sA2,sF2,())) 165:=by rw[hT5e,Ths.up_same]
 have n5:∀q,q≠.mx 2 18→T5 q=T4 q:=fun q hq=>by rw[hT5e,Ths.up_ne _ _ hq]
 clear hT5e
 have k5:∀i,i≠18→i≠13→i≠14→i≠15→T5 (.mx 2 i)=T3 (.mx 2 i):=fun i h1 h2 h3 h4=>(n5 _ (by simpa using h1)).trans (n4 _ (by simpa using h2) (by simpa using h3) (by simpa using h4) (by simp))
 have l5:=(k5 17 (by omega) (by omega) (by omega) (by omega)).trans l3
 have o5:=(k5 16 (by omega) (by omega) (by omega) (by omega)).trans o3
 have F5:=(k5 11 (by omega) (by omega) (by omega) (by omega)).trans ((n3 _ (by simp)).trans f2)
 refine bxZ (x:=((sA,sF,()):Ats L2)) (hS5.has l5) (by kernel_rfl) rfl ?_
 have hFr:=(hS5.owt F5).rds
 have hFl:sF.len=M.length+1:=by rw[hFr.1,List.length_append,List.length_singleton,hL.len]
 refine aeZ (shards_ok (sA:=sA) hFl hFr.2.1 (by omega)) ?_
 rintro _ w6 ⟨rfl,hx6⟩
 have hS6:=hS5.exx hx6
 refine ajZ (c:=.int .i64) (x:=o.2.2.2.1) (i:=3) (hS6.has o5) (by kernel_rfl) rfl ?_
 refine ajZ (c:=.int .i64) (x:=o.2.2.2.2.1) (i:=4) (hS6.has o5) (by kernel_rfl) rfl ?_
 refine span_new2 fun w7 hx7=>?_
 have hS7:=hS6.exx hx7
 refine ajZ (c:=.sl) (x:=o.2.1) (i:=1) (hS7.has o5) (by kernel_rfl) rfl ?_
 refine ajZ (c:=.int .i64) (x:=o.1) (i:=0) (hS7.has o5) (by kernel_rfl) rfl ?_
 have fin:=fun(op1:Operand) (da:Bool)=>hK w7 T5 go gl gf sA sF hA hF hm sA2 sF2 hA2 hF2 hm2 op1 da hS7 o5 l5 ff5 ((k5 10 (by omega) (by omega) (by omega) (by omega)).trans ((n3 _ (by simp)).trans a2)) F5 ((k5 12 (by omega) (by omega) (by omega) (by omega)).trans ((n3 _ (by simp)).trans m2)) hL ((n5 _ (by simp)).trans a4) ((n5 _ (by simp)).trans f4) ((n5 _ (by simp)).trans m4) hL2
  (fun q h1 h2=>(n5 q (h1 18)).trans ((n4 q (h1 13) (h1 14) (h1 15) h2).trans ((n3 q (h1 17)).trans ((n2 q (h1 10) (h1 11) (h1 12) h2).trans (n1 q (h1 16))))))
 rw[ad 1]at fin
 have kz:∀z:Int,z=5∨z=6→z≠1∧z≠2∧(z=5→z=5):=fun z h=>⟨by omega,by omega,fun h=>h⟩
 have kz2:∀z:Int,z=5∨z=6→z≠5→z≠6→False:=fun z h=>by omega
 refine aJZ (fun h=>absurd h (kz o.1 hk).1) (fun _=>aJZ (fun h=>absurd h (kz o.1 hk).2.1) (fun _=>?_))
 refine aJZ (fun h5=>recon_cl (fin _ false)) (fun n5'=>aJZ (fun h6=>reconD_cl (fin _ true)) (fun n6'=>?_))
 exact(kz2 o.1 hk n5' n6').elim
end Go.Proofs.YtbiilejgfihohaaGreat
namespace Go.Proofs.YtbiilejgfihohaaGreat
open Go Go.Cu Go.RowKit
theorem foldG_le:∀(l:List (F8×List F8)) (a:List F8),(l.foldl (fun a p=>aUZ p.2 p.1 a) a).length≤a.length
 | [],a=>Nat.le_refl _
 | p::l,a=>by
  rw[List.foldl_cons]
  refine Nat.le_trans (foldG_le l _) ?_
  unfold aUZ
  rw[List.length_zipWith]
  omega
theorem sumG_le(n:Nat)(row:List F8)(U:Mtx):(baZ n row U).length≤n:=by
 have:=foldG_le (row.zip U) (List.replicate n 0#8)
 rw[List.length_replicate]at this
 exact this
theorem giveM_bd{da:Bool}{k n N:Nat}{U:Mtx}(hn:n≤N):∀(LD:List (Nat×List F8)) (M:Mtx),(∀x∈M,x.length≤N)→∀x∈bUZ da k n U LD M,x.length≤N
 | [],M,h=>h
 | p::LD,M,h=>by
  have:=giveM_bd (da:=da) (k:=k) (U:=U) hn LD (if da&&decide (k≤p.1) then M else M.set p.1 (baZ n p.2 U)) (by
   split
   ·exact h
   ·intro x hx
    rcases List.mem_or_eq_of_mem_set hx with h' | rfl
    ·exact h x h'
    ·exact Nat.le_trans (sumG_le _ _ _) hn)
  unfold bUZ at this ⊢
  rwa [List.foldl_cons]
theorem giveM_same{da:Bool}{k n:Nat}{U D M:Mtx}{i:Nat}{r:List F8}(h:M[i]? =some r)(hr:r≠[]):(bUZ da k n U ((alZ M).zip D) M)[i]? =some r:=by
 rw[giveM_at,h]
 intro p hp e
 have:=(mem_missL.1 (List.of_mem_zip hp).1).2
 rw[e,List.getD_eq_getElem?_getD,h]at this
 exact hr (List.eq_nil_of_length_eq_zero this)
theorem use_same{es es':List Tr.Ent}{K:List (List Nat)}{L:List Nat}(h:es.map (·.1)=K.map keyI)(hu:UseK es es' L):es'.map (·.1)=(useL K L).map keyI:=by
 unfold UseK at hu
 unfold useL
 rw[hu,h,List.map_take,List.map_cons,List.filter_map]
 congr 2
 refine congrArg _ (List.filter_congr fun x _=>?_)
 show decide (keyI x≠keyI L)=decide (x≠L)
 exact decide_eq_decide.2 (not_congr ⟨fun h=>keyI_inj h,fun h=>by rw[h]⟩)
structure StH(W0 w:World)(T:Ths)(a:CodA)(g:Nat)(f:Int)(k m b:Nat)(p rs:Sl)(Q:Mtx)(es:List Tr.Ent)(clock c:Int)(K:List (List Nat)):Prop where
 sep:Sep W0 w T
 cod:Cod T 0 a f k m b Q es clock
 clk:clock≤c
 rc:T (.mx 4 0)=Cel g (rcV f k m p rs) 103
 rk:T (.mx 4 1)=RecT rs K
 key:es.map (·.1)=K.map keyI
 row:∀l∈K,l.length≤65536
 len:K.length≤16
def StG(W0 w:World)(a:CodA)(g:Nat)(f:Int)(k m b:Nat)(p:Sl)(Q:Mtx)(c:Int):Prop:=∃T rs es clock K,StH W0 w T a g f k m b p rs Q es clock c K
theorem writes_ok{W0 w:World}{a:CodA}{g:Nat}{f:Int}{k m b:Nat}{p:Sl}{Q:Mtx}{c:Int}{o:Ats OpA}{hw hf:List Sl}{M Fm:Mtx}{R:Ending→World→Prop}(hG:StG W0 w a g f k m b p Q c)(hcl:c<4611686018427387904)
  (hW:MatR W0 o.2.1 hw M) (hN:M.length*24≤140737488355328) (hrl0:∀r∈M,r.length≤140737488355328) (hWf:MatR W0 o.2.2.1 hf Fm) (hNf:Fm.length*24≤140737488355328) (hrlf:∀r∈Fm,r.length≤140737488355328) (hk:o.1=5∨o.1=6)
  (hR:∀w',StG W0 w' a g f k m b p Q (c+1)→R (.returned (.bool true)) w'):q17writes.M R (at0 a.cp) (at0 g) o w:=by
 obtain⟨T,rs,es,clock,K,hG⟩:=hG
 refine wr_head hG.sep hW hN hrl0 hWf hNf hrlf hk ?_
 intro w1 T1 go gl gf sA sF hA hF hm sA2 sF2 hA2 hF2 hm2 op1 da hS1 h16 h17 h18 h10 h11 h12 hL h13 h14 h15 hL2 n1
 have hC1:Cod T1 0 a f k m b Q es clock:=hG.cod.next (fun i=>n1 _ (by simp) (by simp))
 have c1:T1 (.mx 4 0)=_:=(n1 _ (by simp) (by simp)).trans hG.rc
 have r1:T1 (.mx 4 1)=_:=(n1 _ (by simp) (by simp)).trans hG.rk
 have hS3:=and_join (k1:=.mx 2 10) (k2:=.mx 2 11) (by simp) (ful_init hS1 h11 hL) ((Ths.up_ne _ _ (by simp)).trans h10) (Ths.up_same _ _ _)
 obtain⟨T3,hT3e⟩:∃T3,T3=((T1.up (.mx 2 11) (FulT sF hm hA M hF M)).up (.mx 2 10) (Th.and (ShT sA hA (layM M)) (FulT sF hm hA M hF M))).up (.mx 2 11) Th.none:=⟨_,rfl⟩
 rw[←hT3e]at hS3
 have ld3:T3 (.mx 2 10)=LdX sA sF hm hA M hF M:=by rw[hT3e,Ths.up_ne _ _ (by simp),Ths.up_same];rfl
 have n3:∀q,q≠.mx 2 10→q≠.mx 2 11→T3 q=T1 q:=fun q h1 h2=>by rw[hT3e,Ths.up_ne _ _ h2,Ths.up_ne _ _ h1,Ths.up_ne _ _ h2]
 clear hT3e
 have hC3:Cod T3 0 a f k m b Q es clock:=hC1.next (fun i=>n3 _ (by simp) (by simp))
 obtain⟨hQs,hMds⟩:=hC3.shp
 have hkm:=hC3.hkm
 have hk1:=hC3.hk1
 have gvN:∀i j,i≠0→i≠1→¬GvK 0 (.mx i j):=fun i j h0 h1 h=>by unfold GvK PlK GnK at h;simp[h0,h1]at h
 have fin:∀{w5:World} {T5:Ths} {hs':List Sl} {M':Mtx} {es':List Tr.Ent} {clock':Int} {so:Sl} {ho:List Sl} {rs':Sl} {K':List (List Nat)} {e:Int},Sep W0 w5 T5→T5 (.mx 2 10)=LdX sA sF hm hA M hs' M'→Cod T5 0 a f k m b Q es' clock'→clock'≤c+1→T5 (.mx 2 20)=ShT so ho M'→T5 (.mx 4 0)=Cel g (rcV f k m p rs') 103→T5 (.mx 4 1)=RecT rs' K'→es'.map (·.1)=K'.map keyI→(∀l∈K',l.length≤65536)→K'.length≤16→
   (∀i,12≤i→i≤18→T5 (.mx 2 i)=T1 (.mx 2 i))→(∀(i:Nat) (r:List F8),M[i]? =some r→r≠[]→M'[i]? =some r)→(∀r∈M',r.length≤140737488355328)→q17writes.j1 R ⟨go,0,none⟩ ⟨gl,0,none⟩ ⟨gf,0,none⟩ e so e w5:=by
  intro w5 T5 hs' M' es' clock' so ho rs' K' e hS5 l5 hC5 hcl5 o5 c5 r5 hke hrw hle n5 hsame hrl
  have hS6:=and_split (k1:=.mx 2 10) (k2:=.mx 2 11) (by simp) hS5 l5
  obtain⟨T7,hS7,f7,hl7,hm7,hr7,n7⟩:=ful_split (kF:=.mx 2 11) (by simp) hS6 (Ths.up_same _ _ _)
  have n7':∀q,q≠.mx 2 10→q≠.mx 2 11→(∀i,q≠.mx 5 i)→T7 q=T5 q:=fun q h1 h2 h3=>by rw[n7 q h2 h3,Ths.up_ne _ _ h2,Ths.up_ne _ _ h1]
  have k7:∀i,12≤i→i≤18→T7 (.mx 2 i)=T1 (.mx 2 i):=fun i h1 h2=>(n7' _ (by simp;omega) (by simp;omega) (by simp)).trans (n5 i h1 h2)
  have o7:T7 (.mx 2 20)=ShT so ho M':=(n7' _ (by simp) (by simp) (by simp)).trans o5
  refine wr_tail (T:=T7) hS7 ((k7 16 (by omega) (by omega)).trans h16) ((k7 17 (by omega) (by omega)).trans h17) ((k7 18 (by omega) (by omega)).trans h18)
   (by rw[n7 _ (by simp) (by simp),Ths.up_ne _ _ (by simp),Ths.up_same]) f7 ((k7 12 (by omega) (by omega)).trans h12) hl7 hm7 hr7 hW
   (fun w' T' h1 h2=>bdZ h1 ((h2 (.mx 2 20) (by simp) (by simp) (by simp)).trans o7)) hsame hN hrl0 hrl
   ((k7 13 (by omega) (by omega)).trans h13) ((k7 14 (by omega) (by omega)).trans h14) ((k7 15 (by omega) (by omega)).trans h15) hL2 hWf hNf hrlf ?_
  intro w8 T8 hS8 n8
  refine hR w8 ⟨T8,rs',es',clock',K',hS8,hC5.next (fun i=>(n8 _ (by simp) (by simp) (by simp)).trans (n7' _ (by simp) (by simp) (by simp))),hcl5,?_,?_,hke,hrw,hle⟩
  ·exact(n8 _ (by simp) (by simp) (by simp)).trans ((n7' _ (by simp) (by simp) (by simp)).trans c5)
  ·exact(n8 _ (by simp) (by simp) (by simp)).trans ((n7' _ (by simp) (by simp) (by simp)).trans r5)
 have mid:∀{w4:World} {T4:Ths} {hs':List Sl} {M':Mtx} {es':List Tr.Ent} {clock' x:Int},Sep W0 w4 T4→T4 (.mx 2 10)=LdX sA sF hm hA M hs' M'→Cod T4 0 a f k m b Q es' clock'→clock'≤c+1→x=parS k m (M.map List.length)→(∀q,¬GvK 0 q→q≠.mx 2 10→T4 q=T3 q)→
   (parS k m (M.map List.length)≠0→es'=es∧M'=M)→(parS k m (M.map List.length)=0→(if alZ M=[] then es'=es else UseK es es' (alZ M))∧∃D,decM k (gM k Q) (presL k (k+m) (alZ M)) (alZ M)=some D∧M'=bUZ da k (aBZ (M.map List.length)).1 (usedM M (presL k (k+m) (alZ M))) ((alZ M).zip D) M)→
   Pu Tryz.prog (do eqGuard .neq 96 op1 (.const (.pointer none)) (.pointer (at0 g)) (.pointer none);binOp .neq 96 (.pointer (at0 g)) (.pointer none)) (.one (.at .bool)) (fun(x74:Bool) w75=>
    Cd x74 (Rd Tryz.prog (Instr.loadAt 30 (.pointer (some (Addr.add ⟨go,0,none⟩ 1)))) (.one (.at .sl)) (fun(x76:Sl) w77=>
     Cl Tryz.prog 105 #[.pointer (at0 g),.slice x76.base x76.len x76.cap,.bool da] (.tup [.at .sl,.at (.int .i64)]) (fun x78 w79=>
     q17writes.j1 R ⟨go,0,none⟩ ⟨gl,0,none⟩ ⟨gf,0,none⟩ x x78.1 x78.2.1 w79) w77) w75) (q17writes.j1 R ⟨go,0,none⟩ ⟨gl,0,none⟩ ⟨gf,0,none⟩ x o.2.1 1 w75)) w4:=by
  intro w4 T4 hs' M' es' clock' x hS4 l4 hC4 hcl4 hx n4 hp1 hp0
  refine Pu_nenil (e:=103) (by kernel_rfl) (Cd_t ?_)
  have k4:∀i j,i≠0→i≠1→(i=2→12≤j)→T4 (.mx i j)=T1 (.mx i j):=fun i j h0 h1 h2=>(n4 _ (gvN i j h0 h1) (by simp;omega)).trans (n3 _ (by simp;omega) (by simp;omega))
  rw[show(⟨go,0,none⟩:Addr).add 1=⟨go,1,none⟩ from rfl]
  refine ajZ (c:=.sl) (x:=o.2.1) (i:=1) (hS4.has ((k4 2 16 (by omega) (by omega) (by omega)).trans h16)) (by kernel_rfl) rfl ?_
  refine aeZ (rgive_ok (.mx 2 20) (kc:=.mx 4 0) (kr:=.mx 4 1) da hS4 ((k4 4 0 (by omega) (by omega) (by omega)).trans c1) ((k4 4 1 (by omega) (by omega) (by omega)).trans r1) hW (by simp) (by simp) (by simp) (by simp) (by simp) (by simp) hC4.hf hk1 hkm hC4.hQ hN hrl0 hG.row hG.len) ?_
  rintro _ w5 (⟨hpe,so,ho,T5,rfl,hS5,o5,n5⟩ | ⟨hpz,so,ho,T5,rs',rfl,hS5,c5,r5,o5,n5⟩)
  ·obtain⟨rfl,rfl⟩:=hp1 hpe
   rw[hx]
   exact fin hS5 ((n5 _ (by simp)).trans l4) (hC4.next (fun i=>n5 _ (by simp))) hcl4 o5 ((n5 _ (by simp)).trans ((k4 4 0 (by omega) (by omega) (by omega)).trans c1)) ((n5 _ (by simp)).trans ((k4 4 1 (by omega) (by omega) (by omega)).trans r1)) hG.key hG.row hG.len
    (fun i h1 h2=>(n5 _ (by simp;omega)).trans (k4 2 i (by omega) (by omega) (fun _=>h1))) (fun i r h _=>h) hrl0
  ·obtain⟨hu,D,hD,rfl⟩:=hp0 hpz
   obtain⟨hMl,hn1,hMn,hlm⟩:=parS_ok hpz
   have hn2:=scan_le hn1 hrl0 (fun x hx=>hMn _ (List.mem_map.2 ⟨x,hx,rfl⟩))
   rw[hx,hpz]
   rw[←miss_zer]at hlm
   refine fin hS5 ((n5 _ (by simp) (by simp) (by simp) (by simp)).trans l4) (hC4.next (fun i=>n5 _ (by simp) (by simp) (by simp) (by simp))) hcl4 (o5 D hD) c5 r5 ?_ ?_ ?_
    (fun i h1 h2=>(n5 _ (by simp;omega) (by simp) (by simp) (by simp)).trans (k4 2 i (by omega) (by omega) (fun _=>h1))) (fun i r h hr=>giveM_same h hr) (giveM_bd hn2 _ _ hrl0)
   ·by_cases he:alZ M=[]
    ·rw[if_pos he]at hu ⊢
     rw[hu];exact hG.key
    ·rw[if_neg he]at hu ⊢
     exact use_same hG.key hu
   ·by_cases he:alZ M=[]
    ·rw[if_pos he];exact hG.row
    ·rw[if_neg he]
     intro l hl
     rcases List.mem_cons.1 (List.mem_of_mem_take hl) with rfl | h
     ·omega
     ·exact hG.row l (List.mem_filter.1 h).1
   ·by_cases he:alZ M=[]
    ·rw[if_pos he];exact hG.len
    ·rw[if_neg he]
     unfold useL
     rw[List.length_take]
     omega
 refine aeZ (give_gen da (shx_ld sA sF hm hA M) hS3 hC3 ld3 (by simp) (gvN 2 10 (by omega) (by omega)) hrl0 (by have:=hG.clk;omega)) ?_
 have hclk:=hG.clk
 rintro x w4 (⟨hpe,rfl,hS4⟩ | ⟨hpz,hmi,rfl,hS4⟩ | ⟨hpz,hmi,rfl,T4,hs',D,es',clock',hS4,hD,l4,hC4,hcl4,hu,n4⟩)
 ·exact mid hS4 ld3 hC3 (by omega) rfl (fun _ _ _=>rfl) (fun _=>⟨rfl,rfl⟩) (fun h=>absurd h hpe)
 ·refine mid hS4 ld3 hC3 (by omega) hpz.symm (fun _ _ _=>rfl) (fun h=>absurd hpz h) (fun _=>⟨by rw[if_pos hmi],?_⟩)
  obtain⟨hMl,_,_,hlm⟩:=parS_ok hpz
  rw[List.length_map]at hMl
  rw[←miss_zer]at hlm
  obtain⟨D,hD,_⟩:=plan_dec (f:=f) hQs hMds (hMl▸missL_num M) hlm
  exact⟨D,hD,by rw[hmi];rfl⟩
 ·exact mid hS4 l4 hC4 (by omega) hpz.symm n4 (fun h=>absurd hpz h) (fun _=>⟨by rw[if_neg hmi];exact hu,D,hD,rfl⟩)
end Go.Proofs.YtbiilejgfihohaaGreat
namespace Go.Proofs.YtbiilejgfihohaaGreat
open Go Go.Cu Go.RowKit
def OpOk(W0:World)(o:Ats OpA):Prop:=∃hw hf M Fm,MatR W0 o.2.1 hw M∧M.length*24≤140737488355328∧(∀r∈M,r.length≤140737488355328)∧MatR W0 o.2.2.1 hf Fm∧Fm.length*24≤140737488355328∧∀r∈Fm,r.length≤140737488355328
theorem writes_nil{W0 w:World}{T:Ths}{o:Ats OpA}{R:Ending→World→Prop}(hS:Sep W0 w T)(ho:OpOk W0 o)(hk:o.1=5∨o.1=6)(hR:∀w',(∃T,Sep W0 w' T)→R (.returned (.bool true)) w'):q17writes.M R none none o w:=by
 obtain⟨hw,hf,M,Fm,hW,hN,hrl0,hWf,hNf,hrlf⟩:=ho
 refine wr_head hS hW hN hrl0 hWf hNf hrlf hk ?_
 intro w1 T1 go gl gf sA sF hA hF hm sA2 sF2 hA2 hF2 hm2 op1 da hS1 h16 h17 h18 h10 h11 h12 hL h13 h14 h15 hL2 n1
 refine auZ (d:=.one (.at (.int .i64))) (x:=(1:Int)) (give_nil (s:=beZ sF 0 M.length) da) fun w2 hx2=>?_
 refine Pu_nenil (e:=103) (by kernel_rfl) (aAZ ?_)
 have hS2:=hS1.exx hx2
 exact wr_tail hS2 h16 h17 h18 h10 h11 h12 hL.len rfl (fun i h r e1 e2=>.inl ⟨e2,hL.ent i h r e1 e2⟩) hW (fun w' T' h' _=>bmZ h' hW) (fun i r h _=>h) hN hrl0 hrl0 h13 h14 h15 hL2 hWf hNf hrlf fun w3 T3 hS3 _=>hR w3 ⟨T3,hS3⟩
structure Stp(S:Int→World→Prop)(cp rp:Option Addr)(s:Sl)(L:List (Ats OpA)):Prop where
 ex:∀{c:Int} {w w':World},S c w→Ex w w'→S c w'
 old:∀{c:Int} {w:World},S c w→RdA OpA w s L
 le:∀{c:Int} {w:World},S c w→S (c+1) w
 step:∀{c:Int} {w:World} {o:Ats OpA} {R:Ending→World→Prop},c<4611686018427387904→S c w→o∈L→(o.1=5∨o.1=6)→(∀w',S (c+1) w'→R (.returned (.bool true)) w')→q17writes.M R cp rp o w
abbrev opV(o:Ats OpA):Value:=.agg #[.int .i64 o.1,.slice o.2.1.base o.2.1.len o.2.1.cap,.slice o.2.2.1.base o.2.2.1.len o.2.2.1.cap,.int .i64 o.2.2.2.1,.int .i64 o.2.2.2.2.1,.slice o.2.2.2.2.2.1.base o.2.2.2.2.2.1.len o.2.2.2.2.2.1.cap,.slice o.2.2.2.2.2.2.1.base o.2.2.2.2.2.2.1.len o.2.2.2.2.2.2.1.cap,.slice o.2.2.2.2.2.2.2.1.base o.2.2.2.2.2.2.2.1.len o.2.2.2.2.2.2.2.1.cap,.bool o.2.2.2.2.2.2.2.2.1]
theorem opone_ok{S:Int→World→Prop}{cp rp:Option Addr}{s:Sl}{L:List (Ats OpA)}{c:Int}{w:World}{o:Ats OpA}(h:Stp S cp rp s L)(hc:c<4611686018427387904)(hS:S c w)(hm:o∈L)(hk:o.1=5∨o.1=6):
  Cl Tryz.prog 50 #[.pointer cp,.pointer rp,opV o] (.one (.at .bool)) (fun x w'=>x=true∧S (c+1) w') w:=by
 refine q17one.run _ cp rp o w ?_
 unfold q17one.M
 refine bcZ fun w1 hB hx1=>?_
 have hB1:Has w1 w.heap.size (afZ OpA o) 100:=hB
 clear hB
 have hS1:=h.ex hS hx1
 refine ajZ (c:=.int .i64) (x:=o.1) (i:=0) hB1 (by kernel_rfl) rfl ?_
 have go:∀t:Bool,t=true→q17one.j1 (fun(e:Ending) (w':World)=>∃x:Bool,e=.returned ((Sh.one (.at .bool)).enc x)∧x=true∧S (c+1) w') cp rp ⟨w.heap.size,0,none⟩ o.1 t w1:=by
  rintro _ rfl
  unfold q17one.j1
  refine Cd_t ?_
  refine bxZ (x:=o) hB1 (by kernel_rfl) rfl ?_
  refine q17writes.run _ cp rp o w1 ?_
  exact h.step hc hS1 hm hk fun w' h'=>⟨true,rfl,true,rfl,rfl,h'⟩
 obtain⟨z,o'⟩:=o
 dsimp only at hk go ⊢
 rcases hk with rfl | rfl
 ·exact aAZ (aAZ (Cd_t (go _ rfl)))
 ·exact aAZ (aAZ (aAZ (Cd_t (go _ rfl))))
theorem cell_add0{w:World}{a:Addr}{v:Value}(h:w.cell? (a.add 0)=some v):w.cell? a=some v:=by
 have e:a.add 0=a:=by
  unfold Addr.add
  split
  ·rfl
  ·rename_i hz;exact absurd rfl hz
 rwa [e]at h
theorem plays_loop{S:Int→World→Prop}{cp rp:Option Addr}{s:Sl}{L:List (Ats OpA)}{w:World}{R:Ending→World→Prop}(h:Stp S cp rp s L)(hl:L.length≤140737488355328)(hS:S 0 w)
  (hend:∀w1 k1,S ((L.length:Nat):Int) w1→q17plays.b1 R k1 s 5 6 cp rp ((L.length:Nat):Int) w1):q17plays.l1 R (s,5,6,cp,rp,0,()) w:=by
 unfold q17plays.l1
 refine acZ (fun st w'=>∃i:Nat,st=(s,5,6,cp,rp,(i:Int),())∧i≤L.length∧S (i:Int) w') (fun st _=>(((L.length:Nat):Int)-st.2.2.2.2.2.1).toNat) ?_ ⟨0,rfl,Nat.zero_le _,hS⟩
 rintro k _ w1 ⟨i,rfl,hi,hS1⟩ hk
 by_cases he:i=L.length
 ·subst he;exact hend _ _ hS1
 unfold q17plays.b1
 dsimp only at hk ⊢
 have hr:=h.old hS1
 have hrl:=hr.1
 refine abZ (fun hlt=>?_) (fun hge=>by exfalso;omega)
 obtain⟨o,ho⟩:=atx (l:=L) (i:=i) (by omega)
 have nxt:∀{w':World},S ((i:Int)+1) w'→q17plays.j2 R k s 5 6 cp rp (i:Int) false w':=by
  intro w' h'
  unfold q17plays.j2
  refine aAZ ?_
  rw[adZ (by omega) (by omega)]
  refine hk _ _ ⟨i+1,by rw[show(i:Int)+1=((i+1:Nat):Int) by omega],by omega,by rw[show((i+1:Nat):Int)=(i:Int)+1 by omega];exact h'⟩ (by dsimp only;omega)
 refine Pu_idxA hr (e:=100) (by kernel_rfl) (by kernel_rfl) (by omega) (by omega) fun a y hy hc _=>?_
 rw[Int.toNat_natCast,ho]at hy
 cases hy
 refine bwZ (c:=.int .i64) (x:=o.1) (by kernel_rfl) (cell_add0 (hc 0 _ rfl)) ?_
 have kz:∀z:Int,z≥5→z≤6→z=5∨z=6:=fun z h1 h2=>by omega
 refine abZ (fun h5=>?_) (fun _=>nxt (h.le hS1))
 refine Pu_idxA hr (e:=100) (by kernel_rfl) (by kernel_rfl) (by omega) (by omega) fun a y hy hc _=>?_
 rw[Int.toNat_natCast,ho]at hy
 cases hy
 refine bwZ (c:=.int .i64) (x:=o.1) (by kernel_rfl) (cell_add0 (hc 0 _ rfl)) ?_
 refine abZ (fun h6=>?_) (fun _=>nxt (h.le hS1))
 refine Pu_idxA hr (e:=100) (by kernel_rfl) (by kernel_rfl) (by omega) (by omega) fun a y hy hc _=>?_
 rw[Int.toNat_natCast,ho]at hy
 cases hy
 refine Rd_agg (x:=o) (by kernel_rfl) hc ?_
 refine aeZ (opone_ok h (c:=(i:Int)) (by omega) hS1 (List.mem_of_getElem? ho) (kz o.1 h5 h6)) ?_
 rintro _ w2 ⟨rfl,hS2⟩
 exact nxt hS2
theorem newE_ok{f b k m:Int}(h:newE f b k m=0):(f=0∨f=1)∧0≤b∧b≤2∧1≤k∧1≤m∧k+m≤256:=by
 unfold newE parE at h
 by_cases h1:f≠0∧f≠1
 ·rw[if_pos h1]at h;exact absurd h (by decide)
 rw[if_neg h1,if_neg h1]at h
 by_cases h2:b<0∨b>2
 ·rw[if_pos h2]at h;exact absurd h (by decide)
 rw[if_neg h2]at h
 by_cases h3:k<1∨m<1∨k>256∨m>256∨k+m>256
 ·rw[if_pos h3]at h;exact absurd h (by decide)
 omega
theorem rec_nil{W0 w:World}{T:Ths}(k:Ky)(h:Sep W0 w T):Sep W0 w (T.up k (RecT ⟨none,0,0⟩ [])):=
 h.new k (G:=fun _=>False) (Ex.refl _) ⟨[],Rds.nil _ _,rfl,fun i h l h1=>(by cases h1),fun b hb=>(by obtain⟨_,e,_⟩:=hb;cases e),fun i h h1=>(by cases h1)⟩ (fun b hb=>hb.elim)
theorem mx_jk(j i:Nat)(hj:2≤j):¬JK (.mx j i):=by unfold JK GnK;simp;omega
theorem plays_ok{W:World}{n:CodeI}{s:Sl}{L:List (Ats OpA)}(hn:Code64 n)(hr:RdA OpA W s L)(hl:L.length≤140737488355328)(hok:∀o∈L,OpOk W o){w:World}{T:Ths}(hS0:Sep W w T):
  Cl Tryz.prog 31 #[.agg #[.int .i64 n.1,.int .i64 n.2.1,.int .i64 n.2.2.1,.int .i64 n.2.2.2.1],.slice s.base s.len s.cap,.int .i64 5,.int .i64 6] (.one (.at .bool)) (fun x w'=>x=true∧Ex W w') w:=by
 refine q17plays.run _ n s 5 6 w ?_
 generalize hRR:(fun(e:Ending) (w':World)=>∃x:Bool,e=.returned ((Sh.one (.at .bool)).enc x)∧x=true∧Ex W w')=R
 have yes:∀{w':World} {T':Ths} {x:Bool},Sep W w' T'→x=true→R (.returned (.bool x)) w':=fun h e=>by subst hRR e;exact⟨true,rfl,rfl,h.mo.new (fun i hi=>hi)⟩
 unfold q17plays.M
 refine bcZ fun w1 hB hx1=>?_
 have hB1:Has w1 w.heap.size [.int .i64 n.1,.int .i64 n.2.1,.int .i64 n.2.2.1,.int .i64 n.2.2.2.1] 23:=hB
 have hS1:=hS0.box (.mx 2 9) hx1 hB1
 generalize w.heap.size=g at hB hB1 hS1
 refine aeZ (awake_ok hS1) ?_
 rintro _ w2 ⟨rfl,T2,hS2,hT2⟩
 have b2:T2 (.mx 2 9)=Cel g [.int .i64 n.1,.int .i64 n.2.1,.int .i64 n.2.2.1,.int .i64 n.2.2.2.1] 23:=by rw[hT2 _ (mx_jk _ _ (by omega)) (fun i _=>by simp),Ths.up_same]
 refine aAZ ?_
 have ad:∀n,(⟨g,0,none⟩:Addr).add n=⟨g,n,none⟩:=fun n=>add_lit g n
 simp only[ad]
 refine ajZ (c:=.int .i64) (x:=n.1) (i:=0) (hS2.has b2) (by kernel_rfl) rfl ?_
 refine ajZ (c:=.int .i64) (x:=n.2.1) (i:=1) (hS2.has b2) (by kernel_rfl) rfl ?_
 refine ajZ (c:=.int .i64) (x:=n.2.2.1) (i:=2) (hS2.has b2) (by kernel_rfl) rfl ?_
 refine ajZ (c:=.int .i64) (x:=n.2.2.2.1) (i:=3) (hS2.has b2) (by kernel_rfl) rfl ?_
 obtain⟨f,b,k,m,_⟩:=n
 obtain⟨hf64,hb64,hk64,hm64⟩:=hn
 dsimp only at*
 have four:∀{w':World} {K:Int→Int→Int→Int→World→Prop},Has w' g [.int .i64 f,.int .i64 b,.int .i64 k,.int .i64 m] 23→K f b k m w'→
   Rd Tryz.prog (Instr.loadAt 3 (.pointer (some ⟨g,0,none⟩))) (.one (.at (.int .i64))) (fun(x15:Int) w16=>Rd Tryz.prog (Instr.loadAt 3 (.pointer (some ⟨g,1,none⟩))) (.one (.at (.int .i64))) (fun(x17:Int) w18=>Rd Tryz.prog (Instr.loadAt 3 (.pointer (some ⟨g,2,none⟩))) (.one (.at (.int .i64))) (fun(x19:Int) w20=>Rd Tryz.prog (Instr.loadAt 3 (.pointer (some ⟨g,3,none⟩))) (.one (.at (.int .i64))) (fun(x21:Int) w22=>K x15 x17 x19 x21 w22) w20) w18) w16) w':=by
  intro w' K hB hK
  refine ajZ (c:=.int .i64) (x:=f) (i:=0) hB (by kernel_rfl) rfl ?_
  refine ajZ (c:=.int .i64) (x:=b) (i:=1) hB (by kernel_rfl) rfl ?_
  refine ajZ (c:=.int .i64) (x:=k) (i:=2) hB (by kernel_rfl) rfl ?_
  exact ajZ (c:=.int .i64) (x:=m) (i:=3) hB (by kernel_rfl) rfl hK
 by_cases he:newE f b k m=0
 ·have hc:(f=0∨f=1)∧0≤b∧b≤2∧1≤k∧1≤m∧k+m≤256:=by
   exact newE_ok he
  obtain⟨hf,h0,h2,hk1,hm1,hkm⟩:=hc
  obtain⟨b,rfl⟩:∃x:Nat,b=(x:Int):=⟨b.toNat,by omega⟩
  obtain⟨k,rfl⟩:∃x:Nat,k=(x:Int):=⟨k.toNat,by omega⟩
  obtain⟨m,rfl⟩:∃x:Nat,m=(x:Int):=⟨m.toNat,by omega⟩
  refine aeZ (mnew_ok (j:=0) (f:=f) (k:=k) (m:=m) (b:=b) hS2 hf (by omega) (by omega) (by omega) (by omega)) ?_
  rintro _ w3 ⟨a,T3,Q,rfl,hS3,n3,hC3⟩
  have b3:=(n3 (.mx 2 9) (by simp) (by simp)).trans b2
  refine four (hS3.has b3) ?_
  refine aeZ (rnew_ok (.mx 4 0) (b:=(b:Int)) hS3 hk64 hm64) ?_
  rintro _ w4 (⟨hne,_⟩ | ⟨_,g',p,rfl,hS4⟩)
  ·exact absurd he hne
  refine aAZ ?_
  refine aCZ (e:=78) (by kernel_rfl) ?_
  refine aCZ (e:=103) (by kernel_rfl) ?_
  unfold q17plays.j1
  refine aAZ ?_
  have hS5:=rec_nil (.mx 4 1) hS4
  refine plays_loop (S:=fun c w=>StG W w a g' f k m b p Q c) (L:=L) ⟨fun⟨T,rs,es,cl,K,h⟩ hx=>⟨T,rs,es,cl,K,{ h with sep:=h.sep.exx hx }⟩,fun⟨T,rs,es,cl,K,h⟩=>h.sep.oldA hr,fun⟨T,rs,es,cl,K,h⟩=>⟨T,rs,es,cl,K,{ h with clk:=by have:=h.clk;omega }⟩,fun {c w o R} hc hG ho hk hR=>?_⟩ hl
   ⟨_,⟨none,0,0⟩,[],0,[],hS5,hC3.next (fun i=>by rw[Ths.up_ne _ _ (by simp),Ths.up_ne _ _ (by simp)]),Int.le_refl _,by rw[Ths.up_ne _ _ (by simp),Ths.up_same],Ths.up_same _ _ _,rfl,fun l h=>(by cases h),Nat.zero_le _⟩ ?_
  ·obtain⟨hw,hff,M,Fm,hW,hN,hrl0,hWf,hNf,hrlf⟩:=hok o ho
   exact writes_ok hG hc hW hN hrl0 hWf hNf hrlf hk hR
  ·rintro w6 k1 ⟨T6,rs,es,cl,K,hG⟩
   have hS6:=hG.sep
   unfold q17plays.b1
   have hrl:=hr.1
   refine abZ (fun hlt=>by exfalso;omega) (fun _=>?_)
   refine aCZ (e:=103) (by kernel_rfl) (aAZ ?_)
   have hd:=Ex.drew w6
   have hS7:=hS6.exx hd
   refine asZ (fun w'=>Has w' g' (rcV f k m p rs) 103) (hS7.has hG.rc) ?_
   refine agZ (akZ (c:=.sl) (x:=rs) (B:=g') (i:=4) (fun w' h=>h) (by kernel_rfl) rfl ?_)
   refine auZ (d:=.one (.at (.int .i64))) (x:=(es.length:Int)) (cached_gv hS7 hG.cod) fun w8 hx8=>?_
   have hS8:=hS7.exx hx8
   refine⟨hS8.has hG.rc,yes hS8 ?_⟩
   obtain⟨F,⟨hs,hrec⟩,_⟩:=hS8.get _ hG.rk
   have e1:=hrec.hdr.1
   have e2:=hrec.len
   have e3:=congrArg List.length hG.key
   rw[List.length_map,List.length_map]at e3
   have e4:es.length=rs.len:=by omega
   show((es.length:Int)==((rs.len:Nat):Int))=true
   rw[e4]
   exact beq_self_eq_true _
 ·refine auZ (d:=.tup [.at .ptr,.at (.int .i64)]) (x:=(none,newE f b k m,())) (mnew_err hk64 hm64 he) fun w3 hx3=>?_
  have hS3:=hS2.exx hx3
  refine four (hS3.has b2) ?_
  refine aeZ (rnew_ok (.mx 4 0) (b:=b) hS3 hk64 hm64) ?_
  rintro _ w4 (⟨_,rfl,hS4⟩ | ⟨h0,_⟩)
  rotate_left
  ·exact absurd h0 he
  refine aEZ (fun h=>absurd rfl h) (fun _=>?_)
  refine aCZ (e:=78) (by kernel_rfl) ?_
  refine aCZ (e:=103) (by kernel_rfl) ?_
  unfold q17plays.j1
  refine aAZ ?_
  refine plays_loop (S:=fun _ w=>∃T,Sep W w T) (L:=L) ⟨fun⟨T,h⟩ hx=>⟨T,h.exx hx⟩,fun⟨T,h⟩=>h.oldA hr,fun h=>h,fun {c w o R} hc hG ho hk hR=>?_⟩ hl ⟨_,hS4⟩ ?_
  ·obtain⟨T,hS⟩:=hG
   exact writes_nil hS (hok o ho) hk hR
  ·rintro w6 k1 ⟨T6,hS6⟩
   unfold q17plays.b1
   have hrl:=hr.1
   refine abZ (fun hlt=>by exfalso;omega) (fun _=>?_)
   refine aCZ (e:=103) (by kernel_rfl) (Cd_t ?_)
   exact auZ (d:=.one (.at (.int .i64))) (x:=(0:Int)) cached_nil fun w8 hx8=>yes (hS6.exx hx8) rfl
theorem gives_law(n:CodeI)(hn:Code64 n)(W:World)(s:Sl)(L:List (Ats OpA))(hr:RdA OpA W s L)(hl:L.length≤140737488355328)(hok:∀o∈L,OpOk W o):
  Gv Tryz.prog 9 #[.agg #[.int .i64 n.1,.int .i64 n.2.1,.int .i64 n.2.2.1,.int .i64 n.2.2.2.1],.slice s.base s.len s.cap] (.bool true) W:=by
 refine q17McodeGives.run _ n s W ?_
 unfold q17McodeGives.M
 refine bcZ fun w1 hB hx1=>?_
 have hB1:Has w1 W.heap.size [.int .i64 n.1,.int .i64 n.2.1,.int .i64 n.2.2.1,.int .i64 n.2.2.2.1] 23:=hB
 refine bxZ (x:=n) hB1 (by kernel_rfl) rfl ?_
 refine aeZ (plays_ok hn hr hl hok ((Sep.init W).exx hx1)) ?_
 rintro _ w2 ⟨rfl,hx2⟩
 exact⟨rfl,hx2⟩
end Go.Proofs.YtbiilejgfihohaaGreat
namespace Go.Cu
open Go Go.RowKit Go.ChangeShapes Go.WideShapes
section
variable {H:Type} {enc:TypeId×Value→H} {P:Program}
def okW(P:Program)(t:TypeId)(d:DataW H):Prop:=∀n∈d.weights P t,n≤reachBytes
theorem okW_each{ts:List TypeId}{ds:List (DataW H)}{j:Nat}{t:TypeId}{d:DataW H}(h:(DataW.weightsEach P ts ds).all (·≤reachBytes)=true)(ht:ts[j]? =some t)(hd:ds[j]? =some d):okW P t d:=
 fun n hn=>by simpa using List.all_eq_true.1 h n (DataW.weights_mem_each ht hd n hn)
theorem weights_mem_all{e:TypeId}:∀{ds:List (DataW H)} {j:Nat} {d:DataW H},ds[j]? =some d→∀n∈d.weights P e,n∈DataW.weightsAll P e ds
 | d0::ds,0,d,hd,n,hn=>by
  simp only[List.getElem?_cons_zero,Option.some.injEq]at hd
  subst hd
  simp only[DataW.weightsAll,List.mem_append];exact .inl hn
 | d0::ds,j+1,d,hd,n,hn=>by
  simp only[List.getElem?_cons_succ]at hd
  simp only[DataW.weightsAll,List.mem_append];exact .inr (weights_mem_all hd n hn)
theorem okW_slice{t e:TypeId}{elems sp:List (DataW H)}(h:okW P t (.slice elems sp))(ht:P.underlying t=some (.slice e)):
  (elems.length+sp.length)*P.bytesOf e≤reachBytes∧∀(j:Nat) (d:DataW H),elems[j]? =some d→okW P e d:=by
 unfold okW at h
 simp only[DataW.weights,ht,List.mem_cons,List.mem_append]at h
 exact⟨h _ (.inl rfl),fun j d hd n hn=>h n (.inr (.inl (weights_mem_all hd n hn)))⟩
theorem okW_struct{t:TypeId}{parts:List (DataW H)}{fs:Array Field}(h:okW P t (.agg parts))(ht:P.underlying t=some (.struct fs)):∀(j:Nat) (f:Field) d,fs[j]? =some f→parts[j]? =some d→okW P f.type d:=by
 intro j f d hf hd n hn
 unfold okW at h
 simp only[DataW.weights,ht]at h
 refine h n (DataW.weights_mem_each (j:=j) (t:=f.type) ?_ hd n hn)
 rw[List.getElem?_map,Array.getElem?_toList,hf];rfl
theorem open_nums{W:World}{base:Nat}{held:Bool}{t e:TypeId}{k:IntKind}{fuel:Nat}{v:Value}{x:DataW H×List MemPlace}(ht:P.underlying t=some (.slice e))(he:P.underlying e=some (.int k))(hc:P.cellsOf e=1)(hb:1≤P.bytesOf e)
  (h:DataW.trod enc P W base (fun _=>true) held fuel t [v]=some x) (hw:okW P t x.1):
  ∃(s:Sl) (l:List Int),v=.slice s.base s.len s.cap∧Rds (.int k) W s l∧(∀n∈l,(Lit.int k n).wf=true)∧l.length≤140737488351232:=by
 rcases open_ints ht he hc h with ⟨h1,rfl⟩ | ⟨a,len,cap,zs,h1,_,hl,hm,hz,rfl,hcell,hwf⟩
 ·injection h1 with h1 _
  subst h1
  exact⟨⟨none,0,0⟩,[],rfl,Rds.nil _ _,by simp,by simp⟩
 ·injection h1 with h1 _
  subst h1
  simp only[if_true]at hz
  have hwt:=(okW_slice hw ht).1
  have hmul:∀n,n*1≤n*P.bytesOf e:=fun n=>Nat.mul_le_mul_left n hb
  have hlen:(zs.take len).length=len:=by rw[List.length_take];omega
  have:=hmul ((lits (H:=H) k (zs.take len)).length+(lits (H:=H) k (zs.drop len)).length)
  have e1:(lits (H:=H) k (zs.take len)).length=len:=by simp[lits];omega
  have hr:reachBytes=140737488351232:=rfl
  refine⟨⟨some a,len,cap⟩,zs.take len,rfl,⟨hlen.symm,hl,fun i x hi=>⟨a,rfl,?_⟩⟩,fun n hn=>hwf n (List.mem_of_mem_take hn),by omega⟩
  rw[List.getElem?_take]at hi
  split at hi
  ·have hi':i<zs.length:=(List.getElem?_eq_some_iff.1 hi).1
   rw[hcell i hi',List.getD_eq_getElem?_getD,hi];rfl
  ·cases hi
theorem one_of_take{cs:List Value}{o:Nat}{v:Value}(h:(cs.drop o).take 1=[v]):cs[o]? =some v:=by
 have:((cs.drop o).take 1)[0]? =some v:=by rw[h];rfl
 rw[List.getElem?_take,if_pos (by omega),List.getElem?_drop]at this
 simpa using this
end
end Go.Cu
namespace Go.Cu
open Go Go.RowKit Go.ChangeShapes Go.WideShapes
section
variable {H:Type} {enc:TypeId×Value→H} {P:Program}
theorem trodAll_ex(hl:laidOutB P=true){W W':World}(hx:Ex W W'):∀{ts:List TypeId} {vs:List Value} {ds:List (DataW H)} {ps:List MemPlace},(∀t∈ts,P.readableRec t=true∧t<P.types.size)→
  DataW.TrodAll enc P W 0 (fun _=>true) true ts vs ds ps→DataW.TrodAll enc P W' 0 (fun b=>decide (b<W.heap.size)) true ts vs ds ps
 | [],vs,ds,ps,_,h=>by
  obtain⟨rfl,rfl,rfl⟩:=trodAll_nil h
  exact rfl
 | t::ts,vs,ds,ps,hr,h=>by
  obtain⟨v,vs',d,ds',p,q,rfl,rfl,rfl,h0,h1⟩:=trodAll_cons h
  obtain⟨r1,r2⟩:=hr t List.mem_cons_self
  have hlt:∀x∈p,x.block<W.heap.size:=by
   obtain⟨fuel,hf⟩:=h0
   exact fun x hx'=>DataW.trod_lt fuel _ _ _ hf x hx'
  exact⟨p,q,Below.trod hl r1 r2 h0 hx.below hlt,trodAll_ex hl hx (fun t ht=>hr t (List.mem_cons_of_mem _ ht)) h1,rfl⟩
theorem trodAll_len:∀{ts:List TypeId} {vs:List Value} {ds:List (DataW H)} {ps:List MemPlace} {W:World},DataW.TrodAll enc P W 0 (fun _=>true) true ts vs ds ps→ds.length=ts.length
 | [],vs,ds,ps,W,h=>by obtain⟨rfl,rfl,rfl⟩:=trodAll_nil h;rfl
 | t::ts,vs,ds,ps,W,h=>by
  obtain⟨v,vs',d,ds',p,q,rfl,rfl,rfl,h0,h1⟩:=trodAll_cons h
  simp[trodAll_len h1]
theorem contract_all{f:FuncId}{fn:Func}{s:ChangeSpec}{ts:List TypeId}{tb:TypeId}{laid:List (String×DataW Unit)}(hpar:fn.params.toList=ts)(hres:fn.resultTypes.toList=[tb])(hb:P.underlying tb=some .bool)
  (hl:laidOutB P=true) (hr:∀t∈ts,P.readableRec t=true∧t<P.types.size) (hvars:s.vars=[]) (hfn:∀ds:List (DataW H),ds.length=ts.length→s.fn H (ds++[])={ results:=[.lit (.bool true)],args:=ds })
  (hcall:∀(W:World) (base:Nat) (args:Array Value) (ds:List (DataW H)) (p:List MemPlace),(∀(j:Nat) t v,ts[j]? =some t→args.toList[j]? =some v→Value.okWide P W .any base t v)→DataW.TrodAll enc P W 0 (fun _=>true) true ts args.toList ds p→
   (∀(j:Nat) t d,ts[j]? =some t→ds[j]? =some d→okW P t d)→laidMetH P laid W→Gv P f args (.bool true) W)
  (W:World) (base:Nat) (args:Array Value) (ds gs:List (DataW H)) (before:List MemPlace) (hval:∀(j:Nat) t v,fn.params[j]? =some t→args[j]? =some v→Value.okWide P W .any base t v)
  (hW:DataW.Whole enc P fn.params.toList s.vars false W args.toList ds gs before)
  (hwt:(DataW.weightsEach P (fn.params.toList++(OpenSpec.ofChange s).bare.plain.varTypes P) (ds++gs)).all (·≤reachBytes)=true) (hL:laidMetH P laid W):
  Calls P f args W fun e W'=>∃v,e=.returned v∧s.post enc P fn false true false false W args v W':=by
 have hW':=hW
 obtain⟨p,q,hA,hV,hpq,_,_⟩:=hW
 rw[hpar]at hA
 rw[hvars]at hV
 obtain⟨rfl,rfl⟩:=trodVars_none hV
 refine(hcall W base args ds p (fun j t v ht hv=>hval j t v (by rw[←Array.getElem?_toList,hpar];exact ht) (by rw[←Array.getElem?_toList];exact hv)) hA (fun j t d ht hd=>?_) hL).mono fun e W1 ⟨he,hx⟩=>⟨_,he,?_⟩
 ·refine okW_each (j:=j) hwt ?_ ?_
  ·rw[hpar]
   rw[List.getElem?_append_left (List.getElem?_eq_some_iff.1 ht).1];exact ht
  ·rw[List.append_nil];exact hd
 ·have hlen:=trodAll_len hA
  have hsz:fn.resultTypes.size=1:=by rw[←Array.length_toList,hres];rfl
  refine⟨ds,[],before,[],p,[],hW',?_,?_,?_,hx.below.frame _,fun h=>by cases h⟩
  ·rw[hres,hsz,hfn ds hlen];exact trodAll_mk1 (shut_bool hb true)
  ·rw[hpar,hfn ds hlen];exact trodAll_ex hl hx hr hA
  ·rw[hvars,hfn ds hlen];rfl
theorem open_nest{W:World}{base:Nat}{held:Bool}{t e1 e:TypeId}{k:IntKind}{fuel:Nat}{v:Value}{x:DataW H×List MemPlace}(ht:P.underlying t=some (.slice e1))(ht1:P.underlying e1=some (.slice e))(he:P.underlying e=some (.int k))(hc1:P.cellsOf e1=1)(hc:P.cellsOf e=1)(hb:1≤P.bytesOf e)
  (h:DataW.trod enc P W base (fun _=>true) held fuel t [v]=some x) (hw:okW P t x.1):
  ∃(s:Sl) (ls:List (List Int)),v=.slice s.base s.len s.cap∧Nest (.int k) (fun _=>True) W s ls∧ls.length*P.bytesOf e1≤140737488351232∧∀l∈ls,(∀n∈l,(Lit.int k n).wf=true)∧l.length≤140737488351232:=by
 have hr:reachBytes=140737488351232:=rfl
 rcases Deep.open_slice1 ht hc1 h with ⟨h1,rfl⟩ | ⟨a,len,cap,m,n,V,D,Pl,h1,_,hl,hm,hmm,rfl,hx⟩
 ·injection h1 with h1 _
  subst h1
  exact⟨⟨none,0,0⟩,[],rfl,Nest.nil _ _ _,by simp,by simp⟩
 ·injection h1 with h1 _
  subst h1
  simp only[if_true]at hmm
  obtain⟨hwt,hwe⟩:=okW_slice hw ht
  have each:∀i,i<len→∃q:Sl×List Int,V i=.slice q.1.base q.1.len q.1.cap∧Rds (.int k) W q.1 q.2∧(∀n∈q.2,(Lit.int k n).wf=true)∧q.2.length≤140737488351232:=by
   intro i hi
   obtain⟨q1,q2⟩:=hx i (by omega)
   obtain⟨s,l,hv,hr,hwf,hlen⟩:=open_nums ht1 he hc hb q2 (hwe i (D i) (by rw[List.getElem?_map,List.getElem?_range hi];rfl))
   exact⟨(s,l),hv,hr,hwf,hlen⟩
  have inh:Inhabited (Sl×List Int):=⟨(⟨none,0,0⟩,[])⟩
  obtain⟨f,hfi⟩:=Deep.choose_lt each
  have hlen:((List.range len).map fun i=>(f i).2).length=len:=by simp
  have hge:len*P.bytesOf e1≤140737488351232:=by
   have e1':((List.range len).map D).length=len:=by simp
   have:=Nat.mul_le_mul_right (P.bytesOf e1) (Nat.le_add_right ((List.range len).map D).length ((List.range (m-len)).map fun j=>D (len+j)).length)
   rw[e1']at this hwt
   omega
  refine⟨⟨some a,len,cap⟩,(List.range len).map fun i=>(f i).2,rfl,⟨(List.range len).map fun i=>(f i).1,⟨by simp,hl,fun i x hi=>⟨a,rfl,?_⟩⟩,by simp,fun _ _=>trivial,fun i s' l hs hl'=>⟨?_,fun _ _=>trivial⟩⟩,by rw[hlen];exact hge,fun l hl'=>?_⟩
  ·have hi':i<len:=by have:=(List.getElem?_eq_some_iff.1 hi).1;simpa using this
   rw[List.getElem?_map,List.getElem?_range hi']at hi
   cases hi
   rw[(hx i (by omega)).1,(hfi i hi').1]
  ·have hi':i<len:=by have:=(List.getElem?_eq_some_iff.1 hs).1;simpa using this
   rw[List.getElem?_map,List.getElem?_range hi']at hs hl'
   cases hs
   cases hl'
   exact(hfi i hi').2.1
  ·obtain⟨i,hi,rfl⟩:=List.mem_map.1 hl'
   exact(hfi i (List.mem_range.1 hi)).2.2
end
end Go.Cu
namespace Go.Proofs.YtbiilejgfihohaaGreat
open Go Go.Cu Go.ChangeShapes Go.WideShapes Go.RowKit
theorem ownKn:ownKnob Tryz.prog.godebug=none:=by kernel_rfl
theorem laidOut:laidOutB Tryz.prog=true:=by kernel_rfl
theorem uBool:Program.underlying Tryz.prog 4=some .bool:=by kernel_rfl
theorem uIntO:Program.underlying Tryz.prog 3=some (.int .i64):=by kernel_rfl
theorem uU8O:Program.underlying Tryz.prog 5=some (.int .u8):=by kernel_rfl
theorem cIntO:Program.cellsOf Tryz.prog 3=1:=by kernel_rfl
theorem cU8O:Program.cellsOf Tryz.prog 5=1:=by kernel_rfl
theorem cCode:Program.cellsOf Tryz.prog 23=4:=by kernel_rfl
theorem uCode:Program.underlying Tryz.prog 23=some (.struct (Program.fieldsOf Tryz.prog 23)):=by kernel_rfl
theorem fCode:(Program.fieldsOf Tryz.prog 23).map (fun f=>(f.type,f.offset))=#[(3,0),(3,1),(3,2),(3,3)]:=by kernel_rfl
theorem field_at{fs:Array Field}{l:Array (TypeId×Nat)}(h:fs.map (fun f=>(f.type,f.offset))=l){i:Nat}{t:TypeId}{o:Nat}(hi:l[i]? =some (t,o)):∃f,fs[i]? =some f∧f.type=t∧f.offset=o:=by
 rw[←h,Array.getElem?_map]at hi
 cases hf:fs[i]? with
 | none=>rw[hf]at hi;cases hi
 | some f=>
  rw[hf]at hi
  simp only[Option.map_some,Option.some.injEq,Prod.mk.injEq]at hi
  exact⟨f,rfl,hi.1,hi.2⟩
section
variable {H:Type} {enc:TypeId×Value→H}
theorem wf_i64{z:Int}(h:(Lit.int .i64 z).wf=true):I64 z:=by
 simp only[Lit.wf,IntKind.min,IntKind.max,IntKind.signed,IntKind.bits,Bool.and_eq_true,decide_eq_true_eq]at h
 simp at h
 exact h
theorem wf_u8{z:Int}(h:(Lit.int .u8 z).wf=true):0≤z∧z<256:=by
 simp only[Lit.wf,IntKind.min,IntKind.max,IntKind.signed,IntKind.bits,Bool.and_eq_true,decide_eq_true_eq]at h
 simp at h
 omega
theorem open_code{W:World}{fuel:Nat}{v:Value}{x:DataW H×List MemPlace}(h:DataW.trod enc Tryz.prog W 0 (fun _=>true) true fuel 23 v.cells.toList=some x):
  ∃n:CodeI,v=.agg #[.int .i64 n.1,.int .i64 n.2.1,.int .i64 n.2.2.1,.int .i64 n.2.2.2.1]∧Code64 n:=by
 obtain⟨xs,n,_,rfl,hlen,hxs,hfs⟩:=DataW.trod_struct uCode h
 rw[cCode]at hlen
 have hsz:(Program.fieldsOf Tryz.prog 23).size=4:=by have:=congrArg Array.size fCode;simpa using this
 have num:∀(i:Nat),i<4→#[(3,0),(3,1),(3,2),(3,3)][i]? =some (3,i)→∃z,v.cells.toList[i]? =some (.int .i64 z)∧I64 z:=by
  intro i hi hl
  obtain⟨f,hfi,e1,e2⟩:=field_at fCode hl
  have:=hfs i f hfi
  rw[List.getElem?_eq_getElem (by omega),e1,e2,cIntO]at this
  obtain⟨z,hz,_,hwf⟩:=DataW.trod_int uIntO this
  exact⟨z,one_of_take hz,wf_i64 hwf⟩
 obtain⟨z0,e0,w0⟩:=num 0 (by omega) rfl
 obtain⟨z1,e1,w1⟩:=num 1 (by omega) rfl
 obtain⟨z2,e2,w2⟩:=num 2 (by omega) rfl
 obtain⟨z3,e3,w3⟩:=num 3 (by omega) rfl
 have hcs:v.cells.toList=[.int .i64 z0,.int .i64 z1,.int .i64 z2,.int .i64 z3]:=by
  generalize v.cells.toList=cs at hlen e0 e1 e2 e3
  match cs,hlen with
  | [a0,a1,a2,a3],_=>
   simp only[List.getElem?_cons_zero,List.getElem?_cons_succ,Option.some.injEq]at e0 e1 e2 e3
   subst e0 e1 e2 e3
   rfl
 refine⟨(z0,z1,z2,z3,()),?_,⟨w0,w1,w2,w3⟩⟩
 cases v with
 | agg cs=>
  have:cs.toList=[.int .i64 z0,.int .i64 z1,.int .i64 z2,.int .i64 z3]:=hcs
  congr 1
  exact Array.toList_inj.1 (by rw[this])
 | _=>exact absurd (congrArg List.length hcs) (by simp[Value.cells])
theorem open_i64s{W:World}{fuel:Nat}{v:Value}{x:DataW H×List MemPlace}(h:DataW.trod enc Tryz.prog W 0 (fun _=>true) true fuel 25 [v]=some x)(hw:okW Tryz.prog 25 x.1):
  ∃(s:Sl) (l:List Int),v=.slice s.base s.len s.cap∧Rds i64v W s l∧l.length≤140737488355328∧∀z∈l,I64 z:=by
 obtain⟨s,l,hv,hr,hwf,hl⟩:=open_nums (k:=.i64) tI uIntO cIntO (Nat.le_of_ble_eq_true (by kernel_rfl)) h hw
 exact⟨s,l,hv,hr,by omega,fun z hz=>wf_i64 (hwf z hz)⟩
end
noncomputable abbrev zeroCode:Value:=.agg #[.int .i64 0,.int .i64 0,.int .i64 0,.int .i64 0]
end Go.Proofs.YtbiilejgfihohaaGreat
namespace Go.Proofs.YtbiilejgfihohaaGreat
open Go Go.Cu Go.ChangeShapes Go.WideShapes Go.RowKit
theorem cBO:Program.cellsOf Tryz.prog 24=1:=by kernel_rfl
theorem cBBO:Program.cellsOf Tryz.prog 30=1:=by kernel_rfl
theorem cIO:Program.cellsOf Tryz.prog 25=1:=by kernel_rfl
theorem cBoolO:Program.cellsOf Tryz.prog 4=1:=by kernel_rfl
theorem cOp:Program.cellsOf Tryz.prog 100=9:=by kernel_rfl
theorem bBO:Program.bytesOf Tryz.prog 24=24:=by kernel_rfl
theorem tOps:Program.underlying Tryz.prog 64=some (.slice 100):=by kernel_rfl
theorem uOp:Program.underlying Tryz.prog 100=some (.struct (Program.fieldsOf Tryz.prog 100)):=by kernel_rfl
theorem fOp:(Program.fieldsOf Tryz.prog 100).map (fun f=>(f.type,f.offset))=#[(3,0),(30,1),(30,2),(3,3),(3,4),(25,5),(25,6),(30,7),(4,8)]:=by kernel_rfl
section
variable {H:Type} {enc:TypeId×Value→H}
theorem rds_f8o{W:World}{s:Sl}{l:List Int}(hr:Rds (fun z:Int=>Value.int .u8 z) W s l)(hwf:∀z∈l,(Lit.int .u8 z).wf=true):Rds f8v W s (l.map (fun z=>BitVec.ofNat 8 z.toNat)):=by
 refine⟨by rw[List.length_map];exact hr.1,hr.2.1,fun i y hi=>?_⟩
 rw[List.getElem?_map]at hi
 cases hz:l[i]? with
 | none=>rw[hz]at hi;cases hi
 | some z=>
  rw[hz]at hi
  cases hi
  obtain⟨a,ha,hc⟩:=hr.2.2 i z hz
  refine⟨a,ha,?_⟩
  have hb:=wf_u8 (hwf z (List.mem_of_getElem? hz))
  have e:((BitVec.ofNat 8 z.toNat).toNat:Int)=z:=by
   rw[BitVec.toNat_ofNat,Nat.mod_eq_of_lt (by omega)];omega
  show W.cell? (a.add i)=some (.int .u8 ((BitVec.ofNat 8 z.toNat).toNat:Int))
  rw[e]
  exact hc
theorem open_mat{W:World}{fuel:Nat}{v:Value}{x:DataW H×List MemPlace}(h:DataW.trod enc Tryz.prog W 0 (fun _=>true) true fuel 30 [v]=some x)(hw:okW Tryz.prog 30 x.1):
  ∃(s:Sl) (hs:List Sl) (M:Mtx),v=slV s∧MatR W s hs M∧M.length*24≤140737488355328∧∀r∈M,r.length≤140737488355328:=by
 obtain⟨s,ls,hv,⟨ss,h1,h2,_,h3⟩,h4,h5⟩:=open_nest tBB tB uU8O cBO cU8O (Nat.le_of_ble_eq_true (by kernel_rfl)) h hw
 rw[bBO]at h4
 refine⟨s,ss,ls.map (fun l=>l.map (fun z=>BitVec.ofNat 8 z.toNat)),hv,⟨h1,by rw[List.length_map,h2],fun i g r hg hr=>?_⟩,by rw[List.length_map];omega,fun r hr=>?_⟩
 ·rw[List.getElem?_map]at hr
  cases hl:ls[i]? with
  | none=>rw[hl]at hr;cases hr
  | some l=>
   rw[hl]at hr
   cases hr
   exact rds_f8o (h3 i g l hg hl).1 (h5 l (List.mem_of_getElem? hl)).1
 ·obtain⟨l,hl,rfl⟩:=List.mem_map.1 hr
  rw[List.length_map]
  have:=(h5 l hl).2
  omega
theorem open_fieldsO{W:World}{fuel:Nat}{t:TypeId}{cs:List Value}{x:DataW H×List MemPlace}{l:Array (TypeId×Nat)}(hu:Program.underlying Tryz.prog t=some (.struct (Program.fieldsOf Tryz.prog t)))(hf:(Program.fieldsOf Tryz.prog t).map (fun f=>(f.type,f.offset))=l)
  (h:DataW.trod enc Tryz.prog W 0 (fun _=>true) true fuel t cs=some x) (hw:okW Tryz.prog t x.1):cs.length=Program.cellsOf Tryz.prog t∧
  ∀(i:Nat) (ti:TypeId) (o:Nat),l[i]? =some (ti,o)→∃(y:DataW H×List MemPlace) (n:Nat),DataW.trod enc Tryz.prog W 0 (fun _=>true) true n ti ((cs.drop o).take (Program.cellsOf Tryz.prog ti))=some y∧okW Tryz.prog ti y.1:=by
 obtain⟨xs,n,_,rfl,hlen,hxs,hfs⟩:=DataW.trod_struct hu h
 refine⟨hlen,fun i ti o hi=>?_⟩
 obtain⟨f,hfi,rfl,rfl⟩:=field_at hf hi
 have hsz:=(Array.getElem?_eq_some_iff.1 hfi).1
 have hlt:i<xs.length:=by omega
 have:=hfs i f hfi
 rw[List.getElem?_eq_getElem hlt]at this
 exact⟨_,n,this,okW_struct hw hu i f _ hfi (by rw[List.getElem?_map,List.getElem?_eq_getElem hlt];rfl)⟩
theorem one_cellO{cs:List Value}{o:Nat}(h:o<cs.length):(cs.drop o).take 1=[cs[o]]:=by
 rw[List.drop_eq_getElem_cons h];rfl
theorem open_op{W:World}{fuel:Nat}{cs:List Value}{x:DataW H×List MemPlace}(h:DataW.trod enc Tryz.prog W 0 (fun _=>true) true fuel 100 cs=some x)(hw:okW Tryz.prog 100 x.1):∃o:Ats OpA,cs=afZ OpA o∧OpOk W o:=by
 obtain⟨hlen,hf⟩:=open_fieldsO uOp fOp h hw
 rw[cOp]at hlen
 have num:∀i:Nat,(#[(3,0),(30,1),(30,2),(3,3),(3,4),(25,5),(25,6),(30,7),(4,8)]:Array (TypeId×Nat))[i]? =some (3,i)→∃z:Int,cs[i]? =some (.int .i64 z):=fun i hi=>by
  obtain⟨_,_,r,_⟩:=hf i _ _ hi
  rw[cIntO]at r
  obtain⟨z,hz,_⟩:=DataW.trod_int uIntO r
  exact⟨z,one_of_take hz⟩
 have ints:∀i:Nat,i<9→(#[(3,0),(30,1),(30,2),(3,3),(3,4),(25,5),(25,6),(30,7),(4,8)]:Array (TypeId×Nat))[i]? =some (25,i)→∃s:Sl,cs[i]? =some (slV s):=fun i hl hi=>by
  obtain⟨_,_,r,q⟩:=hf i _ _ hi
  rw[cIO,one_cellO (by omega)]at r
  obtain⟨s,l,hv,_⟩:=open_i64s r q
  exact⟨s,by rw[List.getElem?_eq_getElem (by omega),hv]⟩
 have mats:∀i:Nat,i<9→(#[(3,0),(30,1),(30,2),(3,3),(3,4),(25,5),(25,6),(30,7),(4,8)]:Array (TypeId×Nat))[i]? =some (30,i)→∃(s:Sl) (hs:List Sl) (M:Mtx),cs[i]? =some (slV s)∧MatR W s hs M∧M.length*24≤140737488355328∧∀r∈M,r.length≤140737488355328:=fun i hl hi=>by
  obtain⟨_,_,r,q⟩:=hf i _ _ hi
  rw[cBBO,one_cellO (by omega)]at r
  obtain⟨s,hs,M,hv,h1⟩:=open_mat r q
  exact⟨s,hs,M,by rw[List.getElem?_eq_getElem (by omega),hv],h1⟩
 obtain⟨z0,e0⟩:=num 0 rfl
 obtain⟨s1,hs1,M1,e1,m1,l1,r1⟩:=mats 1 (by omega) rfl
 obtain⟨s2,hs2,M2,e2,m2,l2,r2⟩:=mats 2 (by omega) rfl
 obtain⟨z3,e3⟩:=num 3 rfl
 obtain⟨z4,e4⟩:=num 4 rfl
 obtain⟨s5,e5⟩:=ints 5 (by omega) rfl
 obtain⟨s6,e6⟩:=ints 6 (by omega) rfl
 obtain⟨s7,_,_,e7,_⟩:=mats 7 (by omega) rfl
 obtain⟨_,_,r8,_⟩:=hf 8 _ _ rfl
 rw[cBoolO]at r8
 obtain⟨z8,hz8,_⟩:=DataW.trod_bool uBool r8
 have e8:=one_of_take hz8
 refine⟨(z0,s1,s2,z3,z4,s5,s6,s7,z8,()),?_,hs1,hs2,M1,M2,m1,l1,r1,m2,l2,r2⟩
 clear hf num ints mats
 match cs,hlen with
 | [c0,c1,c2,c3,c4,c5,c6,c7,c8],_=>
  have n0:c0=.int .i64 z0:=Option.some.inj e0
  have n1:c1=slV s1:=Option.some.inj e1
  have n2:c2=slV s2:=Option.some.inj e2
  have n3:c3=.int .i64 z3:=Option.some.inj e3
  have n4:c4=.int .i64 z4:=Option.some.inj e4
  have n5:c5=slV s5:=Option.some.inj e5
  have n6:c6=slV s6:=Option.some.inj e6
  have n7:c7=slV s7:=Option.some.inj e7
  have n8:c8=.bool z8:=Option.some.inj e8
  subst n0 n1 n2 n3 n4 n5 n6 n7 n8
  rfl
theorem open_ops{W:World}{fuel:Nat}{v:Value}{x:DataW H×List MemPlace}(h:DataW.trod enc Tryz.prog W 0 (fun _=>true) true fuel 64 [v]=some x)(hw:okW Tryz.prog 64 x.1):
  ∃(s:Sl) (L:List (Ats OpA)),v=.slice s.base s.len s.cap∧RdA OpA W s L∧L.length≤140737488355328∧∀o∈L,OpOk W o:=by
 have hb:8≤Program.bytesOf Tryz.prog 100:=Nat.le_of_ble_eq_true (by kernel_rfl)
 rcases Deep.open_slice tOps h with ⟨h1,_⟩ | ⟨a,len,cap,m,n,D,Pl,h1,_,hl,hm,hmm,rfl,hx⟩
 ·injection h1 with h1 _
  subst h1
  exact⟨⟨none,0,0⟩,[],rfl,RdA.nil _ _,Nat.zero_le _,fun o ho=>(by cases ho)⟩
 ·injection h1 with h1 _
  subst h1
  simp only[if_true]at hmm
  obtain⟨hwt,hwe⟩:=okW_slice hw tOps
  have each:∀i,i<len→∃q:Ats OpA,(∀j u,(afZ OpA q)[j]? =some u→W.cell? ((a.add (i*OpA.length)).add j)=some u)∧OpOk W q:=by
   intro i hi
   obtain⟨cs',q1,q2⟩:=hx i (by omega)
   rw[cOp]at q1
   obtain⟨_,_,q3⟩:=World.cells?_some q1
   obtain⟨p,ho,hQ⟩:=open_op q2 (hwe i (D i) (by rw[List.getElem?_map,List.getElem?_range hi];rfl))
   refine⟨p,fun j u hj=>?_,hQ⟩
   have hj':j<9:=by
    have:=(List.getElem?_eq_some_iff.1 hj).1
    rw[bsZ]at this;exact this
   exact(q3 j hj').trans (by rw[ho,hj])
  have inh:Inhabited (Ats OpA):=⟨(0,⟨none,0,0⟩,⟨none,0,0⟩,0,0,⟨none,0,0⟩,⟨none,0,0⟩,⟨none,0,0⟩,false,())⟩
  obtain⟨f,hfi⟩:=Deep.choose_lt each
  have hlen:((List.range len).map f).length=len:=by simp
  have hge:len≤140737488355328:=by
   have e1':((List.range len).map D).length=len:=by simp
   have h1:=Nat.mul_le_mul_right (Program.bytesOf Tryz.prog 100) (Nat.le_add_right ((List.range len).map D).length ((List.range (m-len)).map fun j=>D (len+j)).length)
   rw[e1']at h1 hwt
   have h2:=Nat.mul_le_mul_left len hb
   have hr:reachBytes=140737488351232:=rfl
   omega
  refine⟨⟨some a,len,cap⟩,(List.range len).map f,rfl,⟨hlen.symm,hl,fun i x hi=>⟨a,rfl,?_⟩⟩,by rw[hlen];exact hge,fun o ho=>?_⟩
  ·have hi':i<len:=by have:=(List.getElem?_eq_some_iff.1 hi).1;rw[hlen]at this;exact this
   rw[List.getElem?_map,List.getElem?_range hi']at hi
   cases hi
   exact(hfi i hi').1
  ·obtain⟨i,hi,rfl⟩:=List.mem_map.1 ho
   exact(hfi i (List.mem_range.1 hi)).2
theorem trodAll_two{w:World}{base:Nat}{spare:Nat→Bool}{held:Bool}{t0 t1:TypeId}{args:Array Value}{ds:List (DataW H)}{ps:List MemPlace}(h:DataW.TrodAll enc Tryz.prog w base spare held [t0,t1] args.toList ds ps):
  ∃v0 v1 d0 d1 p0 p1,args=#[v0,v1]∧ds=[d0,d1]∧ps=p0++p1∧DataW.Trod enc Tryz.prog w base spare held t0 v0 d0 p0∧DataW.Trod enc Tryz.prog w base spare held t1 v1 d1 p1:=by
 obtain⟨v0,vs0,d0,ds0,p0,q0,hargs,rfl,rfl,h0,r0⟩:=trodAll_cons h
 obtain⟨v1,vs1,d1,ds1,p1,q1,rfl,rfl,rfl,h1,r1⟩:=trodAll_cons r0
 obtain⟨rfl,rfl,rfl⟩:=trodAll_nil r1
 exact⟨v0,v1,d0,d1,p0,p1,by cases args;simp_all,rfl,by simp,h0,h1⟩
end
theorem gives_open(n:CodeI)(hn:Code64 n)(W:World)(s:Sl)(L:List (Ats OpA))(h:RdA OpA W s L∧L.length≤140737488355328∧∀o∈L,OpOk W o):
  Gv Tryz.prog 9 #[.agg #[.int .i64 n.1,.int .i64 n.2.1,.int .i64 n.2.2.1,.int .i64 n.2.2.2.1],.slice s.base s.len s.cap] (.bool true) W:=gives_law n hn W s L h.1 h.2.1 h.2.2
end Go.Proofs.YtbiilejgfihohaaGreat
