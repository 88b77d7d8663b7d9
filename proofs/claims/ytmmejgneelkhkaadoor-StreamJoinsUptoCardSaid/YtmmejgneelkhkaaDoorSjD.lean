/- Join of the program and of the document: what they answer, what the sources and sinks become. -/
import Derived.Test.YtmmejgneelkhkaaDoorSjB
import Derived.Test.YtmmejgneelkhkaaDoorSpJ
set_option linter.all false
namespace Go.Proofs.YtmmejgneelkhkaaDoor
open Go Go.Cu Go.RowKit
set_option linter.unusedVariables false
set_option maxHeartbeats 2000000
set_option maxRecDepth 100000
structure JoinIn (d : Snk) (n : Nat) (sst : Nat → Src) : Prop where
  dgood : d.Good
  src : ∀ i, i < n → (sst i).Good ∧ (sst i).data.length ≤ 1048576 ∧ (sst i).turns ≤ 2305843009213693952
  dlen : d.got.length + n * 1048576 ≤ 70368744177664
theorem join_ok {W0 w : World} {T : Ths} {pe pdst : Option Nat} {made : Bool} {je js n : Nat} {f b k m wo st ca block total : Int} {sc : Bool} {pk : Sl} {l : List Int} {tr : Option Addr} {ea : Addr} {gs : Nat → Nat} {bs bd : Nat → Addr} {pres : Nat → Bool} {sst : Nat → Src} {dP cP : Nat → Sl} {src : Sl} {d : Snk} {post : Value → World → Prop}
    (hS : Sep W0 w T) (hE : (made = true ∧ paramsF f k m = 0 ∧ ∃ ge, pe = some ge ∧ T (.bx je) = Eng ge f b k m wo st ca sc pk l tr) ∨ (made = false ∧ pe = none)) (hl : l.length * 8 ≤ 140737488355328)
    (hd : ∀ gd, pdst = some gd → T (.pk 0) = PSnk gd (bd 0) d) (hsrc : T (.bx js) = Rdo ptrV src (ptrs n pres gs)) (hs : ∀ i, i < n → pres i = true → T (.ps i) = PSrc (gs i) (bs i) (dP i) (cP i) (sst i)) (hn : n ≤ 1048576) (htot : total ≤ 9223372036854775807) (he : EndIs W0 ea)
    (hgood : JoinIn d n sst)
    (hearly : earlyJ made f k m block total (pdst.isSome && allP n pres) n ≠ 0 → ∀ w' T', Sep W0 w' T' → KeepR T T' → (∀ i, T' (.ps i) = T (.ps i)) → (∀ i, T' (.pk i) = T (.pk i)) → post (noV (earlyJ made f k m block total (pdst.isSome && allP n pres) n)) w')
    (hgo : earlyJ made f k m block total (pdst.isSome && allP n pres) n = 0 → ∀ q, q = joinF block.toNat 0 total.toNat d ((List.range n).map sst) → ∀ gd, pdst = some gd → ∀ w' T', Sep W0 w' T' → KeepR T T' → T' (.pk 0) = PSnk gd (bd 0) q.2.1 → (∀ j s, q.1[j]? = some s → T' (.ps j) = PSrc (gs j) (bs j) (dP j) (cP j) s) → post (resV bs bd q.2.2) w') :
    Cl Tryd.prog 13 #[ptrV pe, .int .i64 block, ptrV pdst, .slice src.base src.len src.cap, .int .i64 total] (.one (.at .any)) post w := by
  rw [ptrV_eq, ptrV_eq]
  refine stream_Join.run _ (pe.map fun g => ⟨g, 0, none⟩) block (pdst.map fun g => ⟨g, 0, none⟩) src total w ?_
  generalize hR : (fun (e : Ending) (w' : World) => ∃ x : Value, e = .returned ((Sh.one (.at .any)).enc x) ∧ post x w') = R
  have ret : ∀ v w', post v w' → R (.returned v) w' := fun v w' h => by subst hR; exact ⟨v, rfl, h⟩
  clear hR
  unfold stream_Join.M
  rcases hE with ⟨rfl, hpar, ge, rfl, hge⟩ | ⟨rfl, rfl⟩
  · refine Cl_mono (begin_ok hS hge hl) ?_
    rintro x w1 ⟨gb, p', rfl, hS1⟩
    have hK1 : KeepR T (T.up (.tm 0) (Cel gb (blkV ge f b k m wo st ca sc p' block) 93)) := (KeepR.refl T).tm 0 _
    have hps1 : ∀ i, (T.up (.tm 0) (Cel gb (blkV ge f b k m wo st ca sc p' block) 93)) (.ps i) = T (.ps i) := fun i => Ths.up_ne _ _ (by simp)
    have hpk1 : ∀ i, (T.up (.tm 0) (Cel gb (blkV ge f b k m wo st ca sc p' block) 93)) (.pk i) = T (.pk i) := fun i => Ths.up_ne _ _ (by simp)
    have hB1 := hS1.has (k := .tm 0) (Ths.up_same _ _ _)
    generalize T.up (.tm 0) (Cel gb (blkV ge f b k m wo st ca sc p' block) 93) = T1 at hS1 hK1 hps1 hpk1
    refine Pu_eqnil tBl (Cd_f ?_)
    have bad : ∀ (e : Int) w', e ≠ 0 → earlyJ true f k m block total (pdst.isSome && allP n pres) n = e → Ex w1 w' → R (.returned (noV e)) w' := by
      intro e w' h0 he' hx
      have := hearly (by rw [he']; exact h0) w' T1 (hS1.exx hx) hK1 hps1 hpk1
      rw [he'] at this
      exact ret _ _ this
    obtain ⟨hf0, hf2, hk1, hk2, hm1, hm2⟩ := params_good hpar
    cases pdst with
    | none =>
      refine Pu_eqnil tPK (Cd_t ?_)
      unfold stream_Join.j1
      exact Cd_t (bad 1 _ (by decide) (by simp [earlyJ]) (Ex.refl _))
    | some gd =>
      refine Pu_eqnil tPK (Cd_f ?_)
      have hdr : Rds ptrV w1 src (ptrs n pres gs) := hS1.rds (k := .bx js) ((hK1.2.2 js).trans hsrc)
      have hdl : src.len = n := by have := hdr.1; rw [ptrs_len] at this; exact this
      refine Cl_gv (d := .one (.at .bool)) (stream_whole_pipesSource_gv src _ w1 hdr (by rw [ptrs_len]; omega)) fun w2 hx2 => ?_
      rw [ptrs_all] at *
      unfold stream_Join.j1
      refine Cd_not (fun hall => ?_) (fun hall => ?_)
      · exact bad 1 _ (by decide) (by simp [earlyJ, hall]) hx2
      refine Pu_nil (Rd_has (c := .int .i64) (x := k) (hB1.ex hx2) (by kernel_rfl) rfl ?_)
      refine Cd_ne (fun hne => ?_) (fun heq => ?_)
      · have hne : (n : Int) ≠ k := by omega
        exact bad 160 _ (by decide) (by simp [earlyJ, hall, hne]) hx2
      have heq : (n : Int) = k := by omega
      refine Cl_gv (d := .one (.at .bool)) (fits_gv (hB1.ex hx2) hk1 hk2 hm1 hm2) fun w3 hx3 => ?_
      refine Cd_not (fun hfit => ?_) (fun hfit => ?_)
      · exact bad 241 _ (by decide) (by simp [earlyJ, hall, heq, hfit]) (hx2.trans hx3)
      refine Cd_dec (fun hlow => ?_) (fun hhigh => ?_)
      · exact bad 164 _ (by decide) (by simp [earlyJ, hall, heq, hfit, hlow]) (hx2.trans hx3)
      have hearl : earlyJ true f k m block total (true && allP n pres) n = 0 := by simp [earlyJ, hall, heq, hfit, hhigh]
      have hx3' := hx2.trans hx3
      have hfit' : 1 ≤ block ∧ block ≤ 1048576 := by
        unfold fitsF at hfit
        have := of_decide_eq_true hfit
        exact ⟨this.1, this.2.1⟩
      have hgo' := hgo hearl _ rfl gd rfl
      obtain ⟨size, rfl⟩ : ∃ size : Nat, block = (size : Int) := ⟨block.toNat, by omega⟩
      obtain ⟨tot, rfl⟩ : ∃ tot : Nat, total = (tot : Int) := ⟨total.toNat, by omega⟩
      simp only [Int.toNat_natCast] at hgo'
      refine join_out (ea := ea) (bs := bs) (bd := bd) (gs := gs) (js := js) (dP := dP) (cP := cP) (ss := (List.range n).map sst) (hS1.exx hx3') ?_ ((hpk1 0).trans (hd gd rfl)) ((hK1.2.2 js).trans (hsrc.trans (by rw [ptrs_full gs hall]; simp))) hgood.dgood ?_ (by omega) (by omega) (by omega) (by simpa using hn) (by simpa using hgood.dlen) he ?_
      · intro j s hj
        rw [List.getElem?_map] at hj
        by_cases hjn : j < n
        · rw [List.getElem?_range hjn] at hj
          cases hj
          rw [hps1]
          exact hs j hjn (allP_true hall j hjn)
        · rw [List.getElem?_eq_none (by simpa using hjn)] at hj
          cases hj
      · intro s hs'
        obtain ⟨j, hj, rfl⟩ := List.mem_map.1 hs'
        exact hgood.src j (List.mem_range.1 hj)
      · intro w' T' hS' hK' hpk' hps'
        exact ret _ _ (hgo' w' T' hS' (hK1.trans hK') hpk' hps')
  · refine Cl_gv (d := .one (.at .ptr)) (x := none) (begin_nil block w) fun w1 hx1 => ?_
    refine Pu_eqnil tBl (Cd_t ?_)
    unfold stream_Join.j1
    refine Cd_t (ret _ _ ?_)
    have := hearly (by simp [earlyJ]) w1 T (hS.exx hx1) (KeepR.refl T) (fun _ => rfl) (fun _ => rfl)
    simpa [earlyJ] using this
theorem rjoin_ok {W0 w : World} {T : Ths} {pdst : Option Nat} {made : Bool} {js n : Nat} {block total : Int} {c : CodeT} {gs : Nat → Nat} {pres : Nat → Bool} {sst : Nat → Src} {dP cP : Nat → Sl} {src : Sl} {d : Snk} {post : Int × Int × Unit → World → Prop}
    (hS : Sep W0 w T) (hE : made = true → paramsF c.1 c.2.1 c.2.2.1 = 0)
    (hd : ∀ gd, pdst = some gd → T (.rk 0) = RSnk gd d) (hd0 : ∀ i, i < n → pres i = true → Rds b8 W0 (dP i) (sst i).data) (hc0 : ∀ i, i < n → pres i = true → Rds i64v W0 (cP i) (sst i).chunks) (hsrc : T (.bx js) = Rdo ptrV src (ptrs n pres gs)) (hs : ∀ i, i < n → pres i = true → T (.rs i) = RSrc (gs i) (dP i) (cP i) (sst i)) (hn : n ≤ 1048576) (htot : total ≤ 9223372036854775807)
    (hgood : JoinIn d n sst)
    (hearly : earlyJ made c.1 c.2.1 c.2.2.1 block total (pdst.isSome && allP n pres) n ≠ 0 → ∀ w' T', Sep W0 w' T' → KeepP T T' → (∀ i, T' (.rs i) = T (.rs i)) → (∀ i, T' (.rk i) = T (.rk i)) → post (1, earlyJ made c.1 c.2.1 c.2.2.1 block total (pdst.isSome && allP n pres) n, ()) w')
    (hgo : earlyJ made c.1 c.2.1 c.2.2.1 block total (pdst.isSome && allP n pres) n = 0 → ∀ q, q = joinF block.toNat 0 total.toNat d ((List.range n).map sst) → ∀ gd, pdst = some gd → ∀ w' T', Sep W0 w' T' → KeepP T T' → T' (.rk 0) = RSnk gd q.2.1 → (∀ j s, q.1[j]? = some s → T' (.rs j) = RSrc (gs j) (dP j) (cP j) s) → post ((resN q.2.2).1, (resN q.2.2).2, ()) w') :
    Cl Tryd.prog 14 #[.agg (codeV c).toArray, .bool made, .int .i64 block, ptrV pdst, .slice src.base src.len src.cap, .int .i64 total] (.one (.agg [.int .i64, .int .i64])) post w := by
  rw [ptrV_eq]
  refine culletref24_Code_Join.run _ c made block (pdst.map fun g => ⟨g, 0, none⟩) src total w ?_
  generalize hR : (fun (e : Ending) (w' : World) => ∃ x : Int × Int × Unit, e = .returned ((Sh.one (.agg [.int .i64, .int .i64])).enc x) ∧ post x w') = R
  have ret : ∀ a b w', post (a, b, ()) w' → R (.returned (.agg #[.int .i64 a, .int .i64 b])) w' := fun a b w' h => by subst hR; exact ⟨(a, b, ()), rfl, h⟩
  clear hR
  unfold culletref24_Code_Join.M
  refine Wr_box fun w1 hB1 hx1 => ?_
  have hB1' : Has w1 w.heap.size (codeV c) 38 := hB1
  have hS1 := hS.box (.tm 0) hx1 hB1'
  refine Wr_alloc zErr fun w2 hB2 hx2 => ?_
  have hB2' : Has w2 w1.heap.size [.int .i64 0, .int .i64 0] 54 := hB2
  have hS2 := hS1.box (.tm 2) hx2 hB2'
  have hK2 : KeepP T ((T.up (.tm 0) (Cel w.heap.size (codeV c) 38)).up (.tm 2) (Cel w1.heap.size [.int .i64 0, .int .i64 0] 54)) := ((KeepP.refl T).tm 0 _).tm 2 _
  have hrs2 : ∀ i, ((T.up (.tm 0) (Cel w.heap.size (codeV c) 38)).up (.tm 2) (Cel w1.heap.size [.int .i64 0, .int .i64 0] 54)) (.rs i) = T (.rs i) := fun i => by rw [Ths.up_ne _ _ (by simp), Ths.up_ne _ _ (by simp)]
  have hrk2 : ∀ i, ((T.up (.tm 0) (Cel w.heap.size (codeV c) 38)).up (.tm 2) (Cel w1.heap.size [.int .i64 0, .int .i64 0] 54)) (.rk i) = T (.rk i) := fun i => by rw [Ths.up_ne _ _ (by simp), Ths.up_ne _ _ (by simp)]
  have htm2 : ((T.up (.tm 0) (Cel w.heap.size (codeV c) 38)).up (.tm 2) (Cel w1.heap.size [.int .i64 0, .int .i64 0] 54)) (.tm 2) = Cel w1.heap.size [.int .i64 0, .int .i64 0] 54 := Ths.up_same _ _ _
  have hBc : Has w2 w.heap.size (codeV c) 38 := hB1'.ex hx2
  generalize (T.up (.tm 0) (Cel w.heap.size (codeV c) 38)).up (.tm 2) (Cel w1.heap.size [.int .i64 0, .int .i64 0] 54) = T2 at hS2 hK2 hrs2 hrk2 htm2
  generalize w1.heap.size = gt at htm2 ⊢
  generalize w.heap.size = gc at hBc ⊢
  have bad : ∀ (e : Int) w', e ≠ 0 → earlyJ made c.1 c.2.1 c.2.2.1 block total (pdst.isSome && allP n pres) n = e → Ex w2 w' → Wu Tryd.prog (Instr.storeAt 54 (.pointer (at0 gt)) (.agg #[.int .i64 1, .int .i64 e])) (fun w' => ∃ r : (Int × Int × Unit), (loadVar 54 ⟨gt, 0, none⟩).run Tryd.prog w' = .ok (.agg #[.int .i64 r.1, .int .i64 r.2.1]) w' ∧ R (.returned (.agg #[.int .i64 r.1, .int .i64 r.2.1])) w') w' := by
    intro e w' h0 he' hx
    refine ret2 (hS2.exx hx) htm2 rfl fun w3 hS3 => ?_
    have := hearly (by rw [he']; exact h0) w3 _ hS3 (hK2.tm 2 _) (fun i => by rw [Ths.up_ne _ _ (by simp)]; exact hrs2 i) (fun i => by rw [Ths.up_ne _ _ (by simp)]; exact hrk2 i)
    rw [he'] at this
    exact ret _ _ _ this
  refine Cd_not (fun hm => ?_) (fun hm => ?_)
  · subst hm
    unfold culletref24_Code_Join.j1
    exact Cd_t (bad 1 _ (by decide) (by simp [earlyJ]) (Ex.refl _))
  subst hm
  obtain ⟨hf0, hf2, hk1, hk2, hm1, hm2⟩ := params_good (hE rfl)
  cases pdst with
  | none =>
    refine Pu_eqnil tRK (Cd_t ?_)
    unfold culletref24_Code_Join.j1
    exact Cd_t (bad 1 _ (by decide) (by simp [earlyJ]) (Ex.refl _))
  | some gd =>
    refine Pu_eqnil tRK (Cd_f ?_)
    have hdr : Rds ptrV w2 src (ptrs n pres gs) := hS2.rds (k := .bx js) ((hK2.2.2 js).trans hsrc)
    have hdl : src.len = n := by have := hdr.1; rw [ptrs_len] at this; exact this
    refine Cl_gv (d := .one (.at .bool)) (culletref24_sources_gv src _ w2 hdr (by rw [ptrs_len]; omega)) fun w3 hx3 => ?_
    rw [ptrs_all] at *
    unfold culletref24_Code_Join.j1
    refine Cd_not (fun hall => ?_) (fun hall => ?_)
    · exact bad 1 _ (by decide) (by simp [earlyJ, hall]) hx3
    refine Rd_has (c := .int .i64) (x := c.2.1) (hBc.ex hx3) (by kernel_rfl) rfl ?_
    refine Cd_ne (fun hne => ?_) (fun heq => ?_)
    · have hne : (n : Int) ≠ c.2.1 := by omega
      exact bad 160 _ (by decide) (by simp [earlyJ, hall, hne]) hx3
    have heq : (n : Int) = c.2.1 := by omega
    refine Rd_hasN (l := codeAts) (x := c) (hBc.ex hx3) (by kernel_rfl) rfl ?_
    refine Cl_gv (d := .one (.at .bool)) (block_gv c block w3 hk1 hk2 hm1 hm2) fun w4 hx4 => ?_
    refine Cd_not (fun hfit => ?_) (fun hfit => ?_)
    · exact bad 241 _ (by decide) (by simp [earlyJ, hall, heq, hfit]) (hx3.trans hx4)
    refine Cd_dec (fun hlow => ?_) (fun hhigh => ?_)
    · exact bad 164 _ (by decide) (by simp [earlyJ, hall, heq, hfit, hlow]) (hx3.trans hx4)
    have hearl : earlyJ true c.1 c.2.1 c.2.2.1 block total (true && allP n pres) n = 0 := by simp [earlyJ, hall, heq, hfit, hhigh]
    have hx4' := hx3.trans hx4
    have hfit' : 1 ≤ block ∧ block ≤ 1048576 := by
      unfold fitsF at hfit
      have := of_decide_eq_true hfit
      exact ⟨this.1, this.2.1⟩
    have hgo' := hgo hearl _ rfl gd rfl
    obtain ⟨size, rfl⟩ : ∃ size : Nat, block = (size : Int) := ⟨block.toNat, by omega⟩
    obtain ⟨tot, rfl⟩ : ∃ tot : Nat, total = (tot : Int) := ⟨total.toNat, by omega⟩
    simp only [Int.toNat_natCast] at hgo'
    have hget : ∀ (j : Nat) (s : Src), ((List.range n).map sst)[j]? = some s → j < n ∧ s = sst j := by
      intro j s hj
      rw [List.getElem?_map] at hj
      by_cases hjn : j < n
      · rw [List.getElem?_range hjn] at hj
        cases hj
        exact ⟨hjn, rfl⟩
      · rw [List.getElem?_eq_none (by simpa using hjn)] at hj
        cases hj
    refine rjoin_out (gs := gs) (js := js) (dP := dP) (cP := cP) (ss := (List.range n).map sst) (hS2.exx hx4') ?_ ((hrk2 0).trans (hd gd rfl)) ((hK2.2.2 js).trans (hsrc.trans (by rw [ptrs_full gs hall]; simp))) hgood.dgood ?_ (by omega) (by omega) (by omega) (by simpa using hn) (by simpa using hgood.dlen) htm2 rfl ?_ ?_ ?_
    · intro j s hj
      obtain ⟨hjn, rfl⟩ := hget j s hj
      rw [hrs2]
      exact hs j hjn (allP_true hall j hjn)
    · intro s hs'
      obtain ⟨j, hj, rfl⟩ := List.mem_map.1 hs'
      exact hgood.src j (List.mem_range.1 hj)
    · intro j s hj
      obtain ⟨hjn, rfl⟩ := hget j s hj
      exact hd0 j hjn (allP_true hall j hjn)
    · intro j s hj
      obtain ⟨hjn, rfl⟩ := hget j s hj
      exact hc0 j hjn (allP_true hall j hjn)
    · intro w' T' hS' hK' hps' hpk'
      exact ret _ _ _ (hgo' w' T' hS' (hK2.trans hK') hps' hpk')
end Go.Proofs.YtmmejgneelkhkaaDoor
/- A join as one step of a plain state; the program's and the document's. -/
namespace Go.Proofs.YtmmejgneelkhkaaDoor
open Go Go.Cu Go.RowKit
set_option linter.unusedVariables false
set_option maxHeartbeats 4000000
set_option maxRecDepth 100000
def stepJ (made : Bool) (f k m block total : Int) (whole : Bool) (n : Nat) (sst : Nat → Src) (d : Snk) : (Nat → Src) × Snk × Res :=
  if earlyJ made f k m block total whole n ≠ 0 then (sst, d, .no (earlyJ made f k m block total whole n))
  else
    let q := joinF block.toNat 0 total.toNat d ((List.range n).map sst)
    (fun j => q.1.getD j (sst j), q.2.1, q.2.2)
theorem earlyJ_zero {made : Bool} {f k m block total : Int} {whole : Bool} {n : Nat} (h : earlyJ made f k m block total whole n = 0) : made = true ∧ whole = true ∧ (1 ≤ block ∧ block ≤ 1048576) ∧ 1 ≤ total := by
  unfold earlyJ at h
  split at h
  · cases h
  rename_i h1
  split at h
  · cases h
  split at h
  · cases h
  rename_i h3
  have h3 : fitsF f k m block = true := by simpa using h3
  unfold fitsF at h3
  have h4 := of_decide_eq_true h3
  split at h
  · cases h
  exact ⟨by cases made <;> simp_all, by cases whole <;> simp_all, ⟨h4.1, h4.2.1⟩, by omega⟩
theorem range_get {n : Nat} {sst : Nat → Src} (j : Nat) (s : Src) (hj : ((List.range n).map sst)[j]? = some s) : j < n ∧ s = sst j := by
  rw [List.getElem?_map] at hj
  by_cases hjn : j < n
  · rw [List.getElem?_range hjn] at hj
    cases hj
    exact ⟨hjn, rfl⟩
  · rw [List.getElem?_eq_none (by simpa using hjn)] at hj
    cases hj
structure StepJOk (sst : Nat → Src) (d : Snk) (whole : Bool) (n : Nat) (r : (Nat → Src) × Snk × Res) : Prop where
  src : ∀ i, i < n → (sst i).Like (r.1 i) ∧ (r.1 i).Good ∧ (r.1 i).turns ≤ (sst i).turns + 268435456
  good : r.2.1.Good
  fail : r.2.1.failAt = d.failAt
  len : r.2.1.got.length ≤ d.got.length + n * 1048576
  srcE : ∀ j, r.2.2 = .src j → j < n ∧ whole = true ∧ 0 ≤ (sst j).failAt
  snkE : ∀ j, r.2.2 = .snk j → j = 0 ∧ whole = true ∧ 0 ≤ d.failAt
theorem joinF_range {block : Nat} (hb : 1 ≤ block) {n total : Nat} {sst : Nat → Src} {d : Snk} (h : JoinIn d n sst) : JoinOk ((List.range n).map sst) d 0 (joinF block 0 total d ((List.range n).map sst)) :=
  joinF_ok hb _ 0 total d h.dgood (fun s hs => by
    obtain ⟨j, hj, rfl⟩ := List.mem_map.1 hs
    have := h.src j (List.mem_range.1 hj)
    exact ⟨this.1, this.2.1⟩)
theorem stepJ_ok {made : Bool} {f k m block total : Int} {whole : Bool} {n : Nat} {sst : Nat → Src} {d : Snk} (h : JoinIn d n sst) : StepJOk sst d whole n (stepJ made f k m block total whole n sst d) := by
  unfold stepJ
  split
  · exact ⟨fun i hi => ⟨Src.Like.refl _, (h.src i hi).1, by simp⟩, h.dgood, rfl, by simp, fun j h => (by cases h), fun j h => (by cases h)⟩
  · rename_i h0
    obtain ⟨_, hw, ⟨hb1, hb2⟩, ht⟩ := earlyJ_zero (Classical.byContradiction h0)
    have ho := joinF_range (block := block.toNat) (by omega) (total := total.toNat) h
    have hlen := ho.length
    rw [List.length_map, List.length_range] at hlen
    have hdl := ho.dlen
    rw [List.length_map, List.length_range] at hdl
    refine ⟨fun i hi => ?_, ho.dgood, ho.dfail, hdl, fun j hj => ?_, fun j hj => ?_⟩
    · have h1 : ((List.range n).map sst)[i]? = some (sst i) := by rw [List.getElem?_map, List.getElem?_range hi]; rfl
      have h2 : ∀ (q : List Src), q.length = n → q[i]? = some (q.getD i (sst i)) := fun q hq => by
        rw [List.getD_eq_getElem?_getD, List.getElem?_eq_getElem (by omega)]; rfl
      obtain ⟨h3, h4, h5⟩ := ho.srcs i _ _ h1 (h2 _ hlen)
      have h6 := (h.src i hi).2.1
      exact ⟨h3, h4, Nat.le_trans h5 (by omega)⟩
    · obtain ⟨l, s, rfl, hs, hf⟩ := ho.src j hj
      obtain ⟨hl, rfl⟩ := range_get l s hs
      exact ⟨by omega, hw, by rw [Nat.zero_add]; exact hf⟩
    · have := ho.snk j hj
      exact ⟨this.1, hw, this.2⟩
theorem stepJ_early {made : Bool} {f k m block total : Int} {whole : Bool} {n : Nat} {sst : Nat → Src} {d : Snk} (h : earlyJ made f k m block total whole n ≠ 0) : stepJ made f k m block total whole n sst d = (sst, d, .no (earlyJ made f k m block total whole n)) := by
  unfold stepJ; rw [if_pos h]
theorem stepJ_go {made : Bool} {f k m block total : Int} {whole : Bool} {n : Nat} {sst : Nat → Src} {d : Snk} {q : List Src × Snk × Res} (h : earlyJ made f k m block total whole n = 0) (hq : q = joinF block.toNat 0 total.toNat d ((List.range n).map sst)) (hj : JoinIn d n sst) :
    stepJ made f k m block total whole n sst d = (fun j => q.1.getD j (sst j), q.2.1, q.2.2) ∧ ∀ j, j < n → q.1[j]? = some (q.1.getD j (sst j)) := by
  subst hq
  obtain ⟨_, hw, ⟨hb1, hb2⟩, _⟩ := earlyJ_zero h
  have hlen := (joinF_range (block := block.toNat) (by omega) (total := total.toNat) hj).length
  rw [List.length_map, List.length_range] at hlen
  refine ⟨?_, fun j hj => ?_⟩
  · unfold stepJ; rw [if_neg (not_not_intro h)]
  · rw [List.getD_eq_getElem?_getD, List.getElem?_eq_getElem (by omega)]; rfl
theorem pjoin {W0 w : World} {T : Ths} {pe : Option Nat} {made presK0 : Bool} {n : Nat} {f b k m wo st ca block total : Int} {sc : Bool} {pk : Sl} {l : List Int} {tr : Option Addr} {ea : Addr} {gd : Nat} {gs : Nat → Nat} {bs bd : Nat → Addr} {pres : Nat → Bool} {sst : Nat → Src} {dP cP : Nat → Sl} {src : Sl} {d : Snk}
    (hS : Sep W0 w T) (hE : (made = true ∧ paramsF f k m = 0 ∧ ∃ ge, pe = some ge ∧ T (.bx 4) = Eng ge f b k m wo st ca sc pk l tr) ∨ (made = false ∧ pe = none)) (hl : l.length * 8 ≤ 140737488355328)
    (hd : presK0 = true → T (.pk 0) = PSnk gd (bd 0) d) (hsrc : T (.bx 0) = Rdo ptrV src (ptrs n pres gs)) (hs : ∀ i, i < n → pres i = true → T (.ps i) = PSrc (gs i) (bs i) (dP i) (cP i) (sst i)) (hn : n ≤ 1048576) (htot : total ≤ 9223372036854775807) (he : EndIs W0 ea) (hg : JoinIn d n sst) :
    Cl Tryd.prog 13 #[ptrV pe, .int .i64 block, ptrV (if presK0 then some gd else none), .slice src.base src.len src.cap, .int .i64 total] (.one (.at .any)) (fun v w' => v = resV bs bd (stepJ made f k m block total (presK0 && allP n pres) n sst d).2.2 ∧ ∃ T', Sep W0 w' T' ∧ KeepR T T' ∧
      (presK0 = true → T' (.pk 0) = PSnk gd (bd 0) (stepJ made f k m block total (presK0 && allP n pres) n sst d).2.1) ∧ ∀ i, i < n → pres i = true → T' (.ps i) = PSrc (gs i) (bs i) (dP i) (cP i) ((stepJ made f k m block total (presK0 && allP n pres) n sst d).1 i)) w := by
  have hsome : (if presK0 then some gd else none : Option Nat).isSome = presK0 := by cases presK0 <;> rfl
  have hgs : ∀ g, (if presK0 then some gd else none : Option Nat) = some g → presK0 = true ∧ g = gd := by
    intro g hg'; cases presK0
    · cases hg'
    · cases hg'; exact ⟨rfl, rfl⟩
  refine join_ok (je := 4) (js := 0) (bs := bs) (bd := bd) (dP := dP) (cP := cP) (sst := sst) (d := d) (pres := pres) hS hE hl (fun g hg' => ?_) hsrc hs hn htot he hg ?_ ?_
  · obtain ⟨h1, rfl⟩ := hgs g hg'
    exact hd h1
  · rw [hsome]
    intro h w' T' hS' hK hps hpk
    rw [stepJ_early h]
    exact ⟨rfl, T', hS', hK, fun h => (hpk 0).trans (hd h), fun i hi hp => (hps i).trans (hs i hi hp)⟩
  · rw [hsome]
    intro h q hq g hg' w' T' hS' hK hpk hps
    obtain ⟨h1, rfl⟩ := hgs g hg'
    obtain ⟨e, hget⟩ := stepJ_go h hq hg
    rw [e]
    exact ⟨rfl, T', hS', hK, fun _ => hpk, fun i hi hp => hps i _ (hget i hi)⟩
theorem djoin {W0 w : World} {T : Ths} {made presK0 : Bool} {n : Nat} {block total : Int} {c : CodeT} {gd : Nat} {gs : Nat → Nat} {pres : Nat → Bool} {sst : Nat → Src} {dP cP : Nat → Sl} {src : Sl} {d : Snk}
    (hS : Sep W0 w T) (hE : made = true → paramsF c.1 c.2.1 c.2.2.1 = 0)
    (hd : presK0 = true → T (.rk 0) = RSnk gd d) (hd0 : ∀ i, i < n → pres i = true → Rds b8 W0 (dP i) (sst i).data) (hc0 : ∀ i, i < n → pres i = true → Rds i64v W0 (cP i) (sst i).chunks) (hsrc : T (.bx 1) = Rdo ptrV src (ptrs n pres gs)) (hs : ∀ i, i < n → pres i = true → T (.rs i) = RSrc (gs i) (dP i) (cP i) (sst i)) (hn : n ≤ 1048576) (htot : total ≤ 9223372036854775807) (hg : JoinIn d n sst) :
    Cl Tryd.prog 14 #[.agg (codeV c).toArray, .bool made, .int .i64 block, ptrV (if presK0 then some gd else none), .slice src.base src.len src.cap, .int .i64 total] (.one (.agg [.int .i64, .int .i64])) (fun x w' => x = ((resN (stepJ made c.1 c.2.1 c.2.2.1 block total (presK0 && allP n pres) n sst d).2.2).1, (resN (stepJ made c.1 c.2.1 c.2.2.1 block total (presK0 && allP n pres) n sst d).2.2).2, ()) ∧ ∃ T', Sep W0 w' T' ∧ KeepP T T' ∧
      (presK0 = true → T' (.rk 0) = RSnk gd (stepJ made c.1 c.2.1 c.2.2.1 block total (presK0 && allP n pres) n sst d).2.1) ∧ ∀ i, i < n → pres i = true → T' (.rs i) = RSrc (gs i) (dP i) (cP i) ((stepJ made c.1 c.2.1 c.2.2.1 block total (presK0 && allP n pres) n sst d).1 i)) w := by
  have hsome : (if presK0 then some gd else none : Option Nat).isSome = presK0 := by cases presK0 <;> rfl
  have hgs : ∀ g, (if presK0 then some gd else none : Option Nat) = some g → presK0 = true ∧ g = gd := by
    intro g hg'; cases presK0
    · cases hg'
    · cases hg'; exact ⟨rfl, rfl⟩
  refine rjoin_ok (js := 1) (dP := dP) (cP := cP) (sst := sst) (d := d) (pres := pres) (c := c) hS hE (fun g hg' => ?_) hd0 hc0 hsrc hs hn htot hg ?_ ?_
  · obtain ⟨h1, rfl⟩ := hgs g hg'
    exact hd h1
  · rw [hsome]
    intro h w' T' hS' hK hps hpk
    rw [stepJ_early h]
    exact ⟨rfl, T', hS', hK, fun h => (hpk 0).trans (hd h), fun i hi hp => (hps i).trans (hs i hi hp)⟩
  · rw [hsome]
    intro h q hq g hg' w' T' hS' hK hpk hps
    obtain ⟨h1, rfl⟩ := hgs g hg'
    obtain ⟨e, hget⟩ := stepJ_go h hq hg
    rw [e]
    exact ⟨rfl, T', hS', hK, fun _ => hpk, fun i hi hp => hps i _ (hget i hi)⟩
end Go.Proofs.YtmmejgneelkhkaaDoor
