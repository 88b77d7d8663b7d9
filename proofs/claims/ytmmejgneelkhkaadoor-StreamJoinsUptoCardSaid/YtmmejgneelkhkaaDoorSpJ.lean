/- Split of the program and of the document: what they answer, what the sources and sinks become. -/
import Derived.Test.YtmmejgneelkhkaaDoorSpI
set_option linter.all false
namespace Go.Proofs.YtmmejgneelkhkaaDoor
open Go Go.Cu Go.RowKit
set_option linter.unusedVariables false
set_option maxHeartbeats 2000000
set_option maxRecDepth 100000
theorem length_good' {f k m n : Int} (h : (lengthF f k m n).2 = 0) : paramsF f k m = 0 ∧ 1 ≤ n ∧ n ≤ 1099511627776 ∧ (lengthF f k m n).1 = lenF f k n := by
  unfold lengthF at h ⊢
  split at h
  · rename_i hp; exact absurd h hp
  · rename_i hp
    have hp0 : paramsF f k m = 0 := Classical.byContradiction hp
    rw [if_neg hp]
    split at h
    · cases h
    · rename_i h1
      rw [if_neg h1]
      split at h
      · cases h
      · rename_i h2
        rw [if_neg h2]
        exact ⟨hp0, by omega, by omega, rfl⟩
/-- which pointers a list holds -/
def ptrs (n : Nat) (pres : Nat → Bool) (gd : Nat → Nat) : List (Option Nat) := (List.range n).map fun i => if pres i then some (gd i) else none
theorem ptrs_len (n : Nat) (pres : Nat → Bool) (gd : Nat → Nat) : (ptrs n pres gd).length = n := by simp [ptrs]
def allP (n : Nat) (pres : Nat → Bool) : Bool := (List.range n).all pres
theorem ptrs_all (n : Nat) (pres : Nat → Bool) (gd : Nat → Nat) : (ptrs n pres gd).all Option.isSome = allP n pres := by
  unfold ptrs allP
  rw [List.all_map]
  congr 1
  funext i
  simp only [Function.comp]
  cases pres i <;> rfl
theorem allP_true {n : Nat} {pres : Nat → Bool} (h : allP n pres = true) : ∀ i, i < n → pres i = true := fun i hi => by
  unfold allP at h
  exact List.all_eq_true.1 h i (List.mem_range.2 hi)
theorem ptrs_full {n : Nat} {pres : Nat → Bool} (gd : Nat → Nat) (h : allP n pres = true) : ptrs n pres gd = (List.range n).map fun i => some (gd i) := by
  unfold ptrs
  apply List.map_congr_left
  intro i hi
  rw [if_pos (allP_true h i (List.mem_range.1 hi))]
structure SplitIn (f k m block total : Int) (s : Src) (n : Nat) (stt : Nat → Snk) : Prop where
  good : s.Good
  turns : s.turns ≤ 1152921504606846976
  snk : ∀ i, i < n → (stt i).Good ∧ (stt i).got.length ≤ 70368744177664
theorem split_ok {W0 w : World} {T : Ths} {pe psrc : Option Nat} {made : Bool} {je jd n : Nat} {f b k m wo st ca block total : Int} {sc : Bool} {pk : Sl} {l : List Int} {tr : Option Addr} {bs ea : Addr} {gd : Nat → Nat} {bd : Nat → Addr} {pres : Nat → Bool} {stt : Nat → Snk} {dd cc dst : Sl} {s : Src} {post : Value → World → Prop}
    (hS : Sep W0 w T) (hE : (made = true ∧ paramsF f k m = 0 ∧ ∃ ge, pe = some ge ∧ T (.bx je) = Eng ge f b k m wo st ca sc pk l tr) ∨ (made = false ∧ pe = none)) (hl : l.length * 8 ≤ 140737488355328)
    (hs : ∀ gs, psrc = some gs → T (.ps 0) = PSrc gs bs dd cc s) (hdst : T (.bx jd) = Rdo ptrV dst (ptrs n pres gd)) (hd : ∀ i, i < n → pres i = true → T (.pk i) = PSnk (gd i) (bd i) (stt i)) (hn : n ≤ 140737488355328) (he : EndIs W0 ea)
    (hgood : psrc.isSome = true → allP n pres = true → SplitIn f k m block total s n stt) 
    (hearly : earlyF made f k m block total (psrc.isSome && allP n pres) n ≠ 0 → ∀ w' T', Sep W0 w' T' → KeepR T T' → (∀ i, T' (.ps i) = T (.ps i)) → (∀ i, T' (.pk i) = T (.pk i)) → post (noV (earlyF made f k m block total (psrc.isSome && allP n pres) n)) w')
    (hgo : earlyF made f k m block total (psrc.isSome && allP n pres) n = 0 → ∀ q, q = outF block.toNat (lengthF f k m total).1.toNat 0 total.toNat s ((List.range n).map stt) → ∀ gs, psrc = some gs → ∀ w' T', Sep W0 w' T' → KeepR T T' → T' (.ps 0) = PSrc gs bs dd cc q.1 → (∀ j d, q.2.1[j]? = some d → T' (.pk j) = PSnk (gd j) (bd j) d) → post (resV (fun _ => bs) bd q.2.2) w') :
    Cl Tryd.prog 9 #[ptrV pe, .int .i64 block, ptrV psrc, .slice dst.base dst.len dst.cap, .int .i64 total] (.one (.at .any)) post w := by
  rw [ptrV_eq, ptrV_eq]
  refine stream_Split.run _ (pe.map fun g => ⟨g, 0, none⟩) block (psrc.map fun g => ⟨g, 0, none⟩) dst total w ?_
  generalize hR : (fun (e : Ending) (w' : World) => ∃ x : Value, e = .returned ((Sh.one (.at .any)).enc x) ∧ post x w') = R
  have ret : ∀ v w', post v w' → R (.returned v) w' := fun v w' h => by subst hR; exact ⟨v, rfl, h⟩
  clear hR
  unfold stream_Split.M
  rcases hE with ⟨rfl, hpar, ge, rfl, hge⟩ | ⟨rfl, rfl⟩
  · refine Cl_mono (begin_ok hS hge hl) ?_
    rintro x w1 ⟨gb, p', rfl, hS1⟩
    have hK1 : KeepR T (T.up (.tm 0) (Cel gb (blkV ge f b k m wo st ca sc p' block) 93)) := (KeepR.refl T).tm 0 _
    have hps1 : ∀ i, (T.up (.tm 0) (Cel gb (blkV ge f b k m wo st ca sc p' block) 93)) (.ps i) = T (.ps i) := fun i => Ths.up_ne _ _ (by simp)
    have hpk1 : ∀ i, (T.up (.tm 0) (Cel gb (blkV ge f b k m wo st ca sc p' block) 93)) (.pk i) = T (.pk i) := fun i => Ths.up_ne _ _ (by simp)
    have hB1 := hS1.has (k := .tm 0) (Ths.up_same _ _ _)
    generalize T.up (.tm 0) (Cel gb (blkV ge f b k m wo st ca sc p' block) 93) = T1 at hS1 hK1 hps1 hpk1
    refine Pu_eqnil tBl (Cd_f ?_)
    have bad : ∀ (e : Int) w', e ≠ 0 → earlyF true f k m block total (psrc.isSome && allP n pres) n = e → Ex w1 w' → R (.returned (noV e)) w' := by
      intro e w' h0 he' hx
      have := hearly (by rw [he']; exact h0) w' T1 (hS1.exx hx) hK1 hps1 hpk1
      rw [he'] at this
      exact ret _ _ this
    obtain ⟨hf0, hf2, hk1, hk2, hm1, hm2⟩ := params_good hpar
    cases psrc with
    | none =>
      refine Pu_eqnil tPS (Cd_t ?_)
      unfold stream_Split.j1
      exact Cd_t (bad 1 _ (by decide) (by simp [earlyF]) (Ex.refl _))
    | some gs =>
      refine Pu_eqnil tPS (Cd_f ?_)
      have hdr : Rds ptrV w1 dst (ptrs n pres gd) := hS1.rds (k := .bx jd) ((hK1.2.2 jd).trans hdst)
      have hdl : dst.len = n := by have := hdr.1; rw [ptrs_len] at this; exact this
      refine Cl_gv (d := .one (.at .bool)) (stream_whole_pipesSink_gv dst _ w1 hdr (by rw [ptrs_len]; omega)) fun w2 hx2 => ?_
      rw [ptrs_all] at *
      unfold stream_Split.j1
      refine Cd_not (fun hall => ?_) (fun hall => ?_)
      · exact bad 1 _ (by decide) (by simp [earlyF, hall]) hx2
      refine Pu_nil (Rd_has (c := .int .i64) (x := k) (hB1.ex hx2) (by kernel_rfl) rfl ?_)
      refine Cd_ne (fun hne => ?_) (fun heq => ?_)
      · have hne : (n : Int) ≠ k := by omega
        exact bad 160 _ (by decide) (by simp [earlyF, hall, hne]) hx2
      have heq : (n : Int) = k := by omega
      refine Cl_gv (d := .one (.at .bool)) (fits_gv (hB1.ex hx2) hk1 hk2 hm1 hm2) fun w3 hx3 => ?_
      refine Cd_not (fun hfit => ?_) (fun hfit => ?_)
      · exact bad 241 _ (by decide) (by simp [earlyF, hall, heq, hfit]) (hx2.trans hx3)
      have hearl : earlyF true f k m block total (true && allP n pres) n = (lengthF f k m total).2 := by simp [earlyF, hall, heq, hfit]
      have hx3' := hx2.trans hx3
      refine Held_ex ?_
      refine Pu_nil (RdS_has (c := .int .i64) (x := f) (fun w' h => (hB1.ex (hx3'.trans (Ex.drew _))).ex h) (by kernel_rfl) rfl ?_)
      refine Pu_nil (RdS_has (c := .int .i64) (x := k) (fun w' h => (hB1.ex (hx3'.trans (Ex.drew _))).ex h) (by kernel_rfl) rfl ?_)
      refine Pu_nil (RdS_has (c := .int .i64) (x := m) (fun w' h => (hB1.ex (hx3'.trans (Ex.drew _))).ex h) (by kernel_rfl) rfl ?_)
      refine Cl_gives (d := .tup [.at (.int .i64), .at (.int .i64)]) (x := ((lengthF f k m total).1, (lengthF f k m total).2, ())) (length_gives f k m total) fun w4 hx4 => ⟨hx4, ?_⟩
      have hx4' := (hx3'.trans (Ex.drew _)).trans hx4
      unfold stream_Split.j2
      dsimp only
      refine Cd_ne (fun h0 => ?_) (fun h0 => ?_)
      · exact bad _ _ h0 hearl hx4'
      obtain ⟨_, ht1, ht2, hln⟩ := length_good' h0
      have hlb := lenF_bound (f := f) (k := k) ht1 hk1
      rw [← hln] at hlb
      have hfit' : 1 ≤ block ∧ block ≤ 1048576 := by
        unfold fitsF at hfit
        have := of_decide_eq_true hfit
        exact ⟨this.1, this.2.1⟩
      obtain ⟨hg, hturns, hsnk⟩ := hgood rfl hall
      have hgo' := hgo (hearl.trans h0) _ rfl gs rfl
      obtain ⟨size, rfl⟩ : ∃ size : Nat, block = (size : Int) := ⟨block.toNat, by omega⟩
      obtain ⟨tot, rfl⟩ : ∃ tot : Nat, total = (tot : Int) := ⟨total.toNat, by omega⟩
      obtain ⟨len, hlen⟩ : ∃ len : Nat, (lengthF f k m (tot : Int)).1 = (len : Int) := ⟨(lengthF f k m (tot : Int)).1.toNat, by omega⟩
      rw [hlen] at hgo' hlb ⊢
      simp only [Int.toNat_natCast] at hgo'
      refine split_out (ea := ea) (bs := bs) (gd := gd) (bd := bd) (jd := jd) (sn := (List.range n).map stt) (hS1.exx hx4') ((hps1 0).trans (hs gs rfl)) ?_ ((hK1.2.2 jd).trans (hdst.trans (by rw [ptrs_full gd hall]; simp))) hg ?_ (by omega) (by omega) (by omega) (by omega) (by simpa using hn) (by omega) he ?_
      · intro j d hj
        rw [List.getElem?_map] at hj
        by_cases hjn : j < n
        · rw [List.getElem?_range hjn] at hj
          cases hj
          rw [hpk1]
          exact hd j hjn (allP_true hall j hjn)
        · rw [List.getElem?_eq_none (by simpa using hjn)] at hj
          cases hj
      · intro d hd'
        obtain ⟨j, hj, rfl⟩ := List.mem_map.1 hd'
        have := hsnk j (List.mem_range.1 hj)
        exact ⟨this.1, by omega⟩
      · intro w' T' hS' hK' hps' hpk' _
        exact ret _ _ (hgo' w' T' hS' (hK1.trans hK') hps' hpk')
  · refine Cl_gv (d := .one (.at .ptr)) (x := none) (begin_nil block w) fun w1 hx1 => ?_
    refine Pu_eqnil tBl (Cd_t ?_)
    unfold stream_Split.j1
    refine Cd_t (ret _ _ ?_)
    have := hearly (by simp [earlyF]) w1 T (hS.exx hx1) (KeepR.refl T) (fun _ => rfl) (fun _ => rfl)
    simpa [earlyF] using this
theorem zErr : (Tryd.prog.info? 54).bind (·.zero) = some (.agg #[.int .i64 0, .int .i64 0]) := by kernel_rfl
theorem rsplit_ok {W0 w : World} {T : Ths} {psrc : Option Nat} {made : Bool} {jd n : Nat} {block total : Int} {c : CodeT} {gd : Nat → Nat} {pres : Nat → Bool} {stt : Nat → Snk} {dd cc dst : Sl} {s : Src} {post : Int × Int × Unit → World → Prop}
    (hS : Sep W0 w T) (hE : made = true → paramsF c.1 c.2.1 c.2.2.1 = 0)
    (hs : ∀ gs, psrc = some gs → T (.rs 0) = RSrc gs dd cc s) (hd0 : Rds b8 W0 dd s.data) (hc0 : Rds i64v W0 cc s.chunks) (hdst : T (.bx jd) = Rdo ptrV dst (ptrs n pres gd)) (hd : ∀ i, i < n → pres i = true → T (.rk i) = RSnk (gd i) (stt i)) (hn : n ≤ 140737488355328)
    (hgood : psrc.isSome = true → allP n pres = true → SplitIn c.1 c.2.1 c.2.2.1 block total s n stt) 
    (hearly : earlyF made c.1 c.2.1 c.2.2.1 block total (psrc.isSome && allP n pres) n ≠ 0 → ∀ w' T', Sep W0 w' T' → KeepP T T' → (∀ i, T' (.rs i) = T (.rs i)) → (∀ i, T' (.rk i) = T (.rk i)) → post (1, earlyF made c.1 c.2.1 c.2.2.1 block total (psrc.isSome && allP n pres) n, ()) w')
    (hgo : earlyF made c.1 c.2.1 c.2.2.1 block total (psrc.isSome && allP n pres) n = 0 → ∀ q, q = outF block.toNat (lengthF c.1 c.2.1 c.2.2.1 total).1.toNat 0 total.toNat s ((List.range n).map stt) → ∀ gs, psrc = some gs → ∀ w' T', Sep W0 w' T' → KeepP T T' → T' (.rs 0) = RSrc gs dd cc q.1 → (∀ j d, q.2.1[j]? = some d → T' (.rk j) = RSnk (gd j) d) → post ((resN q.2.2).1, (resN q.2.2).2, ()) w') :
    Cl Tryd.prog 10 #[.agg (codeV c).toArray, .bool made, .int .i64 block, ptrV psrc, .slice dst.base dst.len dst.cap, .int .i64 total] (.one (.agg [.int .i64, .int .i64])) post w := by
  rw [ptrV_eq]
  refine culletref24_Code_Split.run _ c made block (psrc.map fun g => ⟨g, 0, none⟩) dst total w ?_
  generalize hR : (fun (e : Ending) (w' : World) => ∃ x : Int × Int × Unit, e = .returned ((Sh.one (.agg [.int .i64, .int .i64])).enc x) ∧ post x w') = R
  have ret : ∀ a b w', post (a, b, ()) w' → R (.returned (.agg #[.int .i64 a, .int .i64 b])) w' := fun a b w' h => by subst hR; exact ⟨(a, b, ()), rfl, h⟩
  clear hR
  unfold culletref24_Code_Split.M
  refine Wr_box fun w1 hB1 hx1 => ?_
  have hB1' : Has w1 w.heap.size (codeV c) 38 := hB1
  have hS1 := hS.box (.tm 0) hx1 hB1'
  refine Wr_alloc zErr fun w2 hB2 hx2 => ?_
  have hB2' : Has w2 w1.heap.size [.int .i64 0, .int .i64 0] 54 := hB2
  have hS2 := hS1.box (.tm 2) hx2 hB2'
  have hK2 : KeepP T ((T.up (.tm 0) (Cel w.heap.size (codeV c) 38)).up (.tm 2) (Cel w1.heap.size [.int .i64 0, .int .i64 0] 54)) := ((KeepP.refl T).tm 0 _).tm 2 _
  have hrs2 : ∀ i, ((T.up (.tm 0) (Cel w.heap.size (codeV c) 38)).up (.tm 2) (Cel w1.heap.size [.int .i64 0, .int .i64 0] 54)) (.rs i) = T (.rs i) := fun i => by rw [Ths.up_ne _ _ (by simp), Ths.up_ne _ _ (by simp)]
  have hrk2 : ∀ i, ((T.up (.tm 0) (Cel w.heap.size (codeV c) 38)).up (.tm 2) (Cel w1.heap.size [.int .i64 0, .int .i64 0] 54)) (.rk i) = T (.rk i) := fun i => by rw [Ths.up_ne _ _ (by simp), Ths.up_ne _ _ (by simp)]
  have htm2 : ((T.up (.tm 0) (Cel w.heap.size (codeV c) 38)).up (.tm 2) (Cel w1.heap.size [.int .i64 0, .int .i64 0] 54)) (.tm 2) = Cel w1.heap.size [.int .i64 0, .int .i64 0] 54 := Ths.up_same _ _ _
  have hBc : Has w2 w.heap.size (codeV c) 38 := hB1'.ex hx2
  generalize (T.up (.tm 0) (Cel w.heap.size (codeV c) 38)).up (.tm 2) (Cel w1.heap.size [.int .i64 0, .int .i64 0] 54) = T2 at hS2 hK2 hrs2 hrk2 htm2
  generalize w1.heap.size = gt at htm2 ⊢
  generalize w.heap.size = gc at hBc ⊢
  have bad : ∀ (e : Int) w', e ≠ 0 → earlyF made c.1 c.2.1 c.2.2.1 block total (psrc.isSome && allP n pres) n = e → Ex w2 w' → Wu Tryd.prog (Instr.storeAt 54 (.pointer (at0 gt)) (.agg #[.int .i64 1, .int .i64 e])) (fun w' => ∃ r : (Int × Int × Unit), (loadVar 54 ⟨gt, 0, none⟩).run Tryd.prog w' = .ok (.agg #[.int .i64 r.1, .int .i64 r.2.1]) w' ∧ R (.returned (.agg #[.int .i64 r.1, .int .i64 r.2.1])) w') w' := by
    intro e w' h0 he' hx
    refine ret2 (hS2.exx hx) htm2 rfl fun w3 hS3 => ?_
    have := hearly (by rw [he']; exact h0) w3 _ hS3 (hK2.tm 2 _) (fun i => by rw [Ths.up_ne _ _ (by simp)]; exact hrs2 i) (fun i => by rw [Ths.up_ne _ _ (by simp)]; exact hrk2 i)
    rw [he'] at this
    exact ret _ _ _ this
  refine Cd_not (fun hm => ?_) (fun hm => ?_)
  · subst hm
    unfold culletref24_Code_Split.j1
    exact Cd_t (bad 1 _ (by decide) (by simp [earlyF]) (Ex.refl _))
  subst hm
  obtain ⟨hf0, hf2, hk1, hk2, hm1, hm2⟩ := params_good (hE rfl)
  cases psrc with
  | none =>
    refine Pu_eqnil tRS (Cd_t ?_)
    unfold culletref24_Code_Split.j1
    exact Cd_t (bad 1 _ (by decide) (by simp [earlyF]) (Ex.refl _))
  | some gs =>
    refine Pu_eqnil tRS (Cd_f ?_)
    have hdr : Rds ptrV w2 dst (ptrs n pres gd) := hS2.rds (k := .bx jd) ((hK2.2.2 jd).trans hdst)
    have hdl : dst.len = n := by have := hdr.1; rw [ptrs_len] at this; exact this
    refine Cl_gv (d := .one (.at .bool)) (culletref24_sinks_gv dst _ w2 hdr (by rw [ptrs_len]; omega)) fun w3 hx3 => ?_
    rw [ptrs_all] at *
    unfold culletref24_Code_Split.j1
    refine Cd_not (fun hall => ?_) (fun hall => ?_)
    · exact bad 1 _ (by decide) (by simp [earlyF, hall]) hx3
    refine Rd_has (c := .int .i64) (x := c.2.1) (hBc.ex hx3) (by kernel_rfl) rfl ?_
    refine Cd_ne (fun hne => ?_) (fun heq => ?_)
    · have hne : (n : Int) ≠ c.2.1 := by omega
      exact bad 160 _ (by decide) (by simp [earlyF, hall, hne]) hx3
    have heq : (n : Int) = c.2.1 := by omega
    refine Rd_hasN (l := codeAts) (x := c) (hBc.ex hx3) (by kernel_rfl) rfl ?_
    refine Cl_gv (d := .one (.at .bool)) (block_gv c block w3 hk1 hk2 hm1 hm2) fun w4 hx4 => ?_
    refine Cd_not (fun hfit => ?_) (fun hfit => ?_)
    · exact bad 241 _ (by decide) (by simp [earlyF, hall, heq, hfit]) (hx3.trans hx4)
    have hearl : earlyF true c.1 c.2.1 c.2.2.1 block total (true && allP n pres) n = (lengthF c.1 c.2.1 c.2.2.1 total).2 := by simp [earlyF, hall, heq, hfit]
    have hx4' := hx3.trans hx4
    refine Rd_has (c := .int .i64) (x := c.1) (hBc.ex hx4') (by kernel_rfl) rfl ?_
    refine Rd_has (c := .int .i64) (x := c.2.1) (hBc.ex hx4') (by kernel_rfl) rfl ?_
    refine Rd_has (c := .int .i64) (x := c.2.2.1) (hBc.ex hx4') (by kernel_rfl) rfl ?_
    refine Cl_gives (d := .tup [.at (.int .i64), .at (.int .i64)]) (x := ((lengthF c.1 c.2.1 c.2.2.1 total).1, (lengthF c.1 c.2.1 c.2.2.1 total).2, ())) (rlength_gives c.1 c.2.1 c.2.2.1 total) fun w5 hx5 => ?_
    have hx5' := hx4'.trans hx5
    dsimp only
    refine Cd_ne (fun h0 => ?_) (fun h0 => ?_)
    · exact bad _ _ h0 hearl hx5'
    obtain ⟨_, ht1, ht2, hln⟩ := length_good' h0
    have hlb := lenF_bound (f := c.1) (k := c.2.1) ht1 hk1
    rw [← hln] at hlb
    have hfit' : 1 ≤ block ∧ block ≤ 1048576 := by
      unfold fitsF at hfit
      have := of_decide_eq_true hfit
      exact ⟨this.1, this.2.1⟩
    obtain ⟨hg, hturns, hsnk⟩ := hgood rfl hall
    have hgo' := hgo (hearl.trans h0) _ rfl gs rfl
    obtain ⟨size, rfl⟩ : ∃ size : Nat, block = (size : Int) := ⟨block.toNat, by omega⟩
    obtain ⟨tot, rfl⟩ : ∃ tot : Nat, total = (tot : Int) := ⟨total.toNat, by omega⟩
    obtain ⟨len, hlen⟩ : ∃ len : Nat, (lengthF c.1 c.2.1 c.2.2.1 (tot : Int)).1 = (len : Int) := ⟨(lengthF c.1 c.2.1 c.2.2.1 (tot : Int)).1.toNat, by omega⟩
    rw [hlen] at hgo' hlb ⊢
    simp only [Int.toNat_natCast] at hgo'
    refine rsplit_out (gd := gd) (jd := jd) (sn := (List.range n).map stt) (hS2.exx hx5') ((hrs2 0).trans (hs gs rfl)) ?_ ((hK2.2.2 jd).trans (hdst.trans (by rw [ptrs_full gd hall]; simp))) hg ?_ (by omega) (by omega) (by omega) (by omega) (by simpa using hn) (by omega) htm2 rfl hd0 hc0 ?_
    · intro j d hj
      rw [List.getElem?_map] at hj
      by_cases hjn : j < n
      · rw [List.getElem?_range hjn] at hj
        cases hj
        rw [hrk2]
        exact hd j hjn (allP_true hall j hjn)
      · rw [List.getElem?_eq_none (by simpa using hjn)] at hj
        cases hj
    · intro d hd'
      obtain ⟨j, hj, rfl⟩ := List.mem_map.1 hd'
      have := hsnk j (List.mem_range.1 hj)
      exact ⟨this.1, by omega⟩
    · intro w' T' hS' hK' hps' hpk' _
      exact ret _ _ _ (hgo' w' T' hS' (hK2.trans hK') hps' hpk')
end Go.Proofs.YtmmejgneelkhkaaDoor
