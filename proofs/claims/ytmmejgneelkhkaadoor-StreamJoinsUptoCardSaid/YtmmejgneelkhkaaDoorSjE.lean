/- The law of joins: it answers true. -/
import Derived.Test.YtmmejgneelkhkaaDoorSjD
import Derived.Test.YtmmejgneelkhkaaDoorSpXa
set_option linter.all false
namespace Go.Proofs.YtmmejgneelkhkaaDoor
open Go Go.Cu Go.RowKit
set_option linter.unusedVariables false
set_option maxHeartbeats 4000000
set_option maxRecDepth 100000
abbrev Jj (T : Ths) (fr into sr ds : Sl) (n : Nat) (presS pres : Nat → Bool) (gs gr gd gk : Nat → Nat) (bs bd : Nat → Addr) (dP cP dR cR : Nat → Sl) (sst : Nat → Src) (d : Snk) : Prop := Joint T fr into sr ds n 1 presS pres gs gr gd gk bs bd dP cP dR cR sst (fun _ => d)
theorem joins_loop {W w3 : World} {ea : Addr} {gj gw nt n : Nat} {f b k m wo st ca block size times : Int} {sc : Bool} {pk pp tp fr into sr ds : Sl} {l : List Int} {made : Bool} {pe : Option Nat} {c : CodeT} {pk' : Sl} {tr : Option Addr} {ge : Nat} {presS pres : Nat → Bool} {gs gr gd gk : Nat → Nat} {bs bd : Nat → Addr} {dP cP dR cR : Nat → Sl} {s0 : Nat → Src} {t0 : Snk} {T : Ths} {w : World}
    (hx03 : Ex W w3) (he : EndIs w3 ea) (hBj0 : Has w3 gj (jobV f b k m wo st ca sc pk block pp tp size times) 30) (hS : Sep w3 w T) (hJ : Jj T fr into sr ds n presS pres gs gr gd gk bs bd dP cP dR cR s0 t0)
    (h5 : T (.bx 5) = Cel gw (wldV (pe.map fun g => ⟨g, 0, none⟩) made c fr into sr ds) 44) (hE : (made = true ∧ paramsF f k m = 0 ∧ ∃ ge, pe = some ge ∧ T (.bx 4) = Eng ge f b k m wo st ca sc pk' l tr) ∨ (made = false ∧ pe = none)) (hl : l.length * 8 ≤ 140737488355328) (hc : c.1 = f ∧ c.2.1 = k ∧ c.2.2.1 = m)
    (hnt : nt ≤ 3) (hn : n ≤ 1048576) (htot : size ≤ 9223372036854775807) (hd0 : ∀ i, i < n → presS i = true → Rds b8 w3 (dR i) (s0 i).data) (hc0 : ∀ i, i < n → presS i = true → Rds i64v w3 (cR i) (s0 i).chunks) (hg : ∀ i, i < n → (s0 i).Good ∧ (s0 i).data.length ≤ 1048576 ∧ (s0 i).turns = 0) (hk : t0.Good ∧ t0.got = []) :
    culletlaw24_StreamJoins.l1 (fun e w' => e = Ending.returned (.bool true) ∧ Ex W w') (⟨gj, 0, none⟩, ⟨gw, 0, none⟩, (nt : Int), 0, ()) w := by
  obtain ⟨rfl, rfl, rfl⟩ := hc
  unfold culletlaw24_StreamJoins.l1
  refine loopW_of (fun st w' => ∃ (i : Nat) (T1 : Ths) (s : Nat → Src) (stt : Snk), st = ((⟨gj, 0, none⟩ : Addr), (⟨gw, 0, none⟩ : Addr), (nt : Int), (i : Int), ()) ∧ i ≤ nt ∧ Sep w3 w' T1 ∧ Jj T1 fr into sr ds n presS pres gs gr gd gk bs bd dP cP dR cR s stt ∧ T1 (.bx 5) = T (.bx 5) ∧ T1 (.bx 4) = T (.bx 4) ∧
      (∀ j, j < n → (s0 j).Like (s j) ∧ (s j).Good ∧ (s j).turns ≤ i * 268435456) ∧ stt.Good ∧ stt.got.length ≤ i * 1099511627776) (fun st _ => ((nt : Int) - st.2.2.2.1).toNat) ?_ ⟨0, T, s0, t0, rfl, Nat.zero_le _, hS, hJ, rfl, rfl, fun j hj => ⟨Src.Like.refl _, (hg j hj).1, by have := (hg j hj).2.2; omega⟩, hk.1, by rw [hk.2]; simp⟩
  rintro k1 _ wA ⟨i, T1, s, stt, rfl, hi, hS1, hJ1, h15, h14, hlk, hk1', hk2'⟩ hk1
  unfold culletlaw24_StreamJoins.b1
  dsimp only at hk1 ⊢
  refine Cd_dec (fun hlt => ?_) (fun hge => ⟨rfl, hx03.trans (hS1.mo.new (fun i h => h))⟩)
  have hji : JoinIn stt n s := ⟨hk1', fun j hj => ⟨(hlk j hj).2.1, by rw [(hlk j hj).1.1]; exact (hg j hj).2.1, by have := (hlk j hj).2.2; omega⟩, by omega⟩
  have hfr := hJ1.fr
  have hsr := hJ1.sr
  have hin := hJ1.into
  have hds := hJ1.ds
  have h5' := h15.trans h5
  have hE1 : (made = true ∧ paramsF c.1 c.2.1 c.2.2.1 = 0 ∧ ∃ ge, pe = some ge ∧ T1 (.bx 4) = Eng ge c.1 b c.2.1 c.2.2.1 wo st ca sc pk' l tr) ∨ (made = false ∧ pe = none) := by rw [h14]; exact hE
  have hSd := hS1.exx (Ex.drew wA)
  generalize hr : stepJ made c.1 c.2.1 c.2.2.1 block size (pres 0 && allP n presS) n s stt = r
  have hok := stepJ_ok (made := made) (f := c.1) (k := c.2.1) (m := c.2.2.1) (block := block) (total := size) (whole := pres 0 && allP n presS) hji
  rw [hr] at hok
  have j3f : ∀ (w' : World) (T' : Ths) (gn : Nat), Sep w3 w' T' → T' (.bx 9) = Cel gn [.int .i64 (resN r.2.2).1, .int .i64 (resN r.2.2).2] 54 → Jj T' fr into sr ds n presS pres gs gr gd gk bs bd dP cP dR cR r.1 r.2.1 → T' (.bx 5) = T (.bx 5) → T' (.bx 4) = T (.bx 4) →
      culletlaw24_StreamJoins.j4 (fun e w' => e = Ending.returned (.bool true) ∧ Ex W w') k1 ⟨gj, 0, none⟩ ⟨gw, 0, none⟩ (resV bs bd r.2.2) ⟨gn, 0, none⟩ (nt : Int) (i : Int) w' := by
    intro w' T' gn hS' h9 hJ' h5'' h4''
    unfold culletlaw24_StreamJoins.j4
    have hB := hS'.has (h5''.trans h5)
    have hEr := hS'.has h9
    refine Rd_hasN (l := wldAts) (x := mkW (pe.map fun g => ⟨g, 0, none⟩) made c fr into sr ds) hB (by kernel_rfl) rfl ?_
    refine Rd_hasN (l := [.int .i64, .int .i64]) (x := ((resN r.2.2).1, (resN r.2.2).2, ())) hEr (by kernel_rfl) rfl ?_
    refine Cl_gv (d := .one (.at .bool)) (x := true) (told_gv (bs := bs) (bd := bd) hS' hJ'.fr hJ'.into r.2.2 (fun j hj => ?_) (fun j hj => ?_)) fun w4 hx4 => ?_
    · obtain ⟨hjn, hw, hf⟩ := hok.srcE j hj
      have hall : allP n presS = true := by cases h : allP n presS <;> simp_all
      have hp := allP_true hall j hjn
      exact ⟨hjn, hp, _, _, _, hJ'.ps j hjn hp, by rw [(hok.src j hjn).1.2.2]; exact hf⟩
    · obtain ⟨rfl, hw, hf⟩ := hok.snkE j hj
      have hp : pres 0 = true := by cases h : pres 0 <;> simp_all
      exact ⟨by decide, hp, _, hJ'.pk 0 (by decide) hp, by rw [hok.fail]; exact hf⟩
    refine Cd_f ?_
    refine Rd_hasN (l := wldAts) (x := mkW (pe.map fun g => ⟨g, 0, none⟩) made c fr into sr ds) (hB.ex hx4) (by kernel_rfl) rfl ?_
    have hS4 := hS'.exx hx4
    have hln := hok.len
    refine Cl_gv (d := .one (.at .bool)) (x := true) (stands_gv hS4 hJ' (by omega) (by decide) (fun j hj => by omega)) fun w5 hx5 => ?_
    unfold culletlaw24_StreamJoins.j5
    refine Cd_f ?_
    rw [wrap64 (by omega) (by omega), show (i : Int) + 1 = ((i + 1 : Nat) : Int) by omega]
    exact hk1 _ _ ⟨i + 1, T', r.1, r.2.1, rfl, by omega, hS4.exx hx5, hJ', h5'', h4'', fun j hj => ⟨(hlk j hj).1.trans (hok.src j hj).1, (hok.src j hj).2.1, by have := (hok.src j hj).2.2; have := (hlk j hj).2.2; omega⟩, hok.good, by omega⟩ (by dsimp only; omega)
  obtain ⟨aF, haF, hcF⟩ := (hSd.rds hin).2.2 0 _ (ptrs_get (by decide))
  refine Held_of (fun w' => Has w' gw (wldV (pe.map fun g => ⟨g, 0, none⟩) made c fr into sr ds) 44 ∧ Has w' gj (jobV c.1 b c.2.1 c.2.2.1 wo st ca sc pk block pp tp size times) 30 ∧ w'.cell? (aF.add 0) = some (ptrV (if pres 0 then some (gd 0) else none))) ⟨hSd.has h5', sep_oldHas hSd hBj0, hcF⟩ ?_
  refine RdS_has (i := 0) (c := .ptr) (x := pe.map fun g => ⟨g, 0, none⟩) (fun w' h => h.1) (by kernel_rfl) rfl ?_
  refine RdS_has (c := .int .i64) (x := block) (fun w' h => h.2.1) (by kernel_rfl) rfl ?_
  refine RdS_has (c := .sl) (x := into) (fun w' h => h.1) (by kernel_rfl) rfl ?_
  refine Pu_idxB (hSd.rds hin) (e := 64) (by kernel_rfl) (by kernel_rfl) (by decide) (by rw [ptrs_len]; decide) fun bb x hb hx => ?_
  obtain rfl : aF = bb := by rw [haF] at hb; cases hb; rfl
  refine RdS_one (c := .ptr) (x := (if pres 0 then some (gd 0) else none).map fun g => ⟨g, 0, none⟩) (by kernel_rfl) (fun w' h => by have := h.2.2; rw [ptrV_eq] at this; exact this) ?_
  refine RdS_has (c := .sl) (x := fr) (fun w' h => h.1) (by kernel_rfl) rfl ?_
  refine RdS_has (c := .int .i64) (x := size) (fun w' h => h.2.1) (by kernel_rfl) rfl ?_
  have hc1 := pjoin (pe := pe) (made := made) (presK0 := pres 0) (f := c.1) (b := b) (k := c.2.1) (m := c.2.2.1) (wo := wo) (st := st) (ca := ca) (block := block) (total := size) (sc := sc) (pk := pk') (tr := tr) (pres := presS) (sst := s) (d := stt) hSd hE1 hl (fun h => hJ1.pk 0 (by decide) h) hfr hJ1.ps hn htot he hji
  rw [ptrV_eq, ptrV_eq, hr] at hc1
  refine Cl_mono hc1 ?_
  rintro v wB ⟨rfl, TB, hSB, hKB, hpkB, hpsB⟩
  refine ⟨⟨hSB.has ((hKB.2.2 5).trans h5'), sep_oldHas hSB hBj0, rds_at (hSB.rds ((hKB.2.2 2).trans hin)) haF (ptrs_get (by decide))⟩, ?_⟩
  unfold culletlaw24_StreamJoins.j3
  have hSe := hSB.exx (Ex.drew wB)
  have hdsB := (hKB.2.2 3).trans hds
  obtain ⟨aD, haD, hcD⟩ := (hSe.rds hdsB).2.2 0 _ (ptrs_get (by decide))
  generalize hS2 : (fun (w' : World) => Has w' gw (wldV (pe.map fun g => ⟨g, 0, none⟩) made c fr into sr ds) 44 ∧ Has w' gj (jobV c.1 b c.2.1 c.2.2.1 wo st ca sc pk block pp tp size times) 30 ∧ w'.cell? (aD.add 0) = some (ptrV (if pres 0 then some (gk 0) else none))) = S2
  have hs1 : ∀ w', S2 w' → Has w' gw (wldV (pe.map fun g => ⟨g, 0, none⟩) made c fr into sr ds) 44 := fun w' h => by subst hS2; exact h.1
  have hs2 : ∀ w', S2 w' → Has w' gj (jobV c.1 b c.2.1 c.2.2.1 wo st ca sc pk block pp tp size times) 30 := fun w' h => by subst hS2; exact h.2.1
  have hs3 : ∀ w', S2 w' → w'.cell? (aD.add 0) = some (.pointer ((if pres 0 then some (gk 0) else none).map fun g => ⟨g, 0, none⟩)) := fun w' h => by subst hS2; have := h.2.2; rw [ptrV_eq] at this; exact this
  have mk : ∀ (w' : World) (T' : Ths), Sep w3 w' T' → T' (.bx 5) = T (.bx 5) → T' (.bx 3) = T1 (.bx 3) → S2 w' := fun w' T' hS' h h' => by subst hS2; exact ⟨hS'.has (h.trans h5), sep_oldHas hS' hBj0, rds_at (hS'.rds (h'.trans hds)) haD (ptrs_get (by decide))⟩
  clear hS2
  refine Held_of S2 (mk _ _ hSe ((hKB.2.2 5).trans h15) (hKB.2.2 3)) ?_
  refine RdS_hasN (i := 2) (l := codeAts) (x := c) hs1 (by kernel_rfl) rfl ?_
  refine RdS_has (c := .bool) (x := made) hs1 (by kernel_rfl) rfl ?_
  refine RdS_has (c := .int .i64) (x := block) hs2 (by kernel_rfl) rfl ?_
  refine RdS_has (c := .sl) (x := ds) hs1 (by kernel_rfl) rfl ?_
  refine Pu_idxB (hSe.rds hdsB) (e := 66) (by kernel_rfl) (by kernel_rfl) (by decide) (by rw [ptrs_len]; decide) fun bb x hb hx => ?_
  obtain rfl : aD = bb := by rw [haD] at hb; cases hb; rfl
  refine RdS_one (c := .ptr) (x := (if pres 0 then some (gk 0) else none).map fun g => ⟨g, 0, none⟩) (by kernel_rfl) hs3 ?_
  refine RdS_has (c := .sl) (x := sr) hs1 (by kernel_rfl) rfl ?_
  refine RdS_has (c := .int .i64) (x := size) hs2 (by kernel_rfl) rfl ?_
  have hE2 : made = true → paramsF c.1 c.2.1 c.2.2.1 = 0 := fun h => by
    rcases hE1 with ⟨_, h2, _⟩ | ⟨h2, _⟩
    · exact h2
    · rw [h2] at h; cases h
  have dcall : ∀ (w' : World) (T' : Ths), Sep w3 w' T' → (∀ j, T' (.rs j) = TB (.rs j)) → (∀ j, T' (.rk j) = TB (.rk j)) → T' (.bx 1) = TB (.bx 1) →
      Cl Tryd.prog 14 #[.agg (codeV c).toArray, .bool made, .int .i64 block, .pointer ((if pres 0 then some (gk 0) else none).map fun g => ⟨g, 0, none⟩), .slice sr.base sr.len sr.cap, .int .i64 size] (.one (.agg [.int .i64, .int .i64])) (fun x w'' => x = ((resN r.2.2).1, (resN r.2.2).2, ()) ∧ ∃ T'', Sep w3 w'' T'' ∧ KeepP T' T'' ∧
        (pres 0 = true → T'' (.rk 0) = RSnk (gk 0) r.2.1) ∧ ∀ j, j < n → presS j = true → T'' (.rs j) = RSrc (gr j) (dR j) (cR j) (r.1 j)) w' := by
    intro w' T' hS' hrs' hrk' hb3
    have := djoin (made := made) (presK0 := pres 0) (n := n) (block := block) (total := size) (c := c) (gd := gk 0) (gs := gr) (pres := presS) (sst := s) (dP := dR) (cP := cR) (src := sr) (d := stt) hS' hE2 (fun h => by rw [hrk', hKB.2.1]; exact hJ1.rk 0 (by decide) h) (fun j hj hp => by rw [(hlk j hj).1.1]; exact hd0 j hj hp) (fun j hj hp => by rw [(hlk j hj).1.2.1]; exact hc0 j hj hp) (by rw [hb3, hKB.2.2]; exact hsr) (fun j hj hp => by rw [hrs', hKB.1]; exact hJ1.rs j hj hp) hn htot hji
    rw [ptrV_eq, hr] at this
    exact this
  have mkJj : ∀ (T' : Ths), (∀ j, T' (.ps j) = TB (.ps j)) → (∀ j, T' (.pk j) = TB (.pk j)) → (∀ j, j < 4 → T' (.bx j) = TB (.bx j)) → (pres 0 = true → T' (.rk 0) = RSnk (gk 0) r.2.1) → (∀ j, j < n → presS j = true → T' (.rs j) = RSrc (gr j) (dR j) (cR j) (r.1 j)) → Jj T' fr into sr ds n presS pres gs gr gd gk bs bd dP cP dR cR r.1 r.2.1 := by
    intro T' a1 a2 a3 a4 a5
    refine ⟨((a3 0 (by decide)).trans (hKB.2.2 0)).trans hfr, ((a3 1 (by decide)).trans (hKB.2.2 1)).trans hsr, ((a3 2 (by decide)).trans (hKB.2.2 2)).trans hin, ((a3 3 (by decide)).trans (hKB.2.2 3)).trans hds, fun j hj hp => (a1 j).trans (hpsB j hj hp), fun j hj hp => a5 j hj hp, fun j hj hp => ?_, fun j hj hp => ?_⟩
    · obtain rfl : j = 0 := by omega
      exact (a2 0).trans (hpkB hp)
    · obtain rfl : j = 0 := by omega
      exact a4 hp
  refine ⟨?_, ?_⟩
  · refine Cl_mono (dcall _ TB hSe (fun _ => rfl) (fun _ => rfl) rfl) ?_
    rintro x wC ⟨rfl, TC, hSC, hKC, hrkC, hrsC⟩
    have c5 : TC (.bx 5) = T (.bx 5) := (hKC.2.2 5).trans ((hKB.2.2 5).trans h15)
    have c1 : TC (.bx 3) = T1 (.bx 3) := (hKC.2.2 3).trans (hKB.2.2 3)
    refine ⟨mk _ _ hSC c5 c1, ?_⟩
    refine Wr_alloc zErr fun wD hBD hxD => ?_
    have hBD' : Has wD wC.heap.size [.int .i64 0, .int .i64 0] 54 := hBD
    have hSD := hSC.box (.bx 9) hxD hBD'
    generalize wC.heap.size = gn at hBD' hSD ⊢
    refine ⟨mk _ _ hSD (by rw [Ths.up_ne _ _ (by simp)]; exact c5) (by rw [Ths.up_ne _ _ (by simp)]; exact c1), ?_⟩
    refine Wu_all (ds := [.int .i64 (resN r.2.2).1, .int .i64 (resN r.2.2).2]) hBD' (by kernel_rfl) (by simp [Value.oneCell']) rfl fun wE hBE hmE => ?_
    have hSE := hSD.cel (Ths.up_same _ _ _) hBE hmE
    rw [Ths.up_up] at hSE
    refine ⟨mk _ _ hSE (by rw [Ths.up_ne _ _ (by simp)]; exact c5) (by rw [Ths.up_ne _ _ (by simp)]; exact c1), ?_⟩
    refine j3f wE _ gn hSE (Ths.up_same _ _ _) (mkJj _ ?_ ?_ ?_ ?_ ?_) (by rw [Ths.up_ne _ _ (by simp)]; exact c5) (by rw [Ths.up_ne _ _ (by simp)]; exact (hKC.2.2 4).trans ((hKB.2.2 4).trans h14))
    · intro j; rw [Ths.up_ne _ _ (by simp)]; exact hKC.1 j
    · intro j; rw [Ths.up_ne _ _ (by simp)]; exact hKC.2.1 j
    · intro j hj; rw [Ths.up_ne _ _ (by simp; omega)]; exact hKC.2.2 j
    · intro h; rw [Ths.up_ne _ _ (by simp)]; exact hrkC h
    · intro j hj hp; rw [Ths.up_ne _ _ (by simp)]; exact hrsC j hj hp
  · refine Wr_alloc zErr fun wD hBD hxD => ?_
    have hBD' : Has wD wB.drew.heap.size [.int .i64 0, .int .i64 0] 54 := hBD
    have hSD := hSe.box (.bx 9) hxD hBD'
    generalize wB.drew.heap.size = gn at hSD ⊢
    have d5 : (TB.up (.bx 9) (Cel gn [.int .i64 0, .int .i64 0] 54)) (.bx 5) = T (.bx 5) := by rw [Ths.up_ne _ _ (by simp)]; exact (hKB.2.2 5).trans h15
    have d1 : (TB.up (.bx 9) (Cel gn [.int .i64 0, .int .i64 0] 54)) (.bx 3) = T1 (.bx 3) := by rw [Ths.up_ne _ _ (by simp)]; exact hKB.2.2 3
    refine ⟨mk _ _ hSD d5 d1, ?_⟩
    refine Cl_mono (dcall _ _ hSD (fun j => Ths.up_ne _ _ (by simp)) (fun j => Ths.up_ne _ _ (by simp)) (Ths.up_ne _ _ (by simp))) ?_
    rintro x wC ⟨rfl, TC, hSC, hKC, hrkC, hrsC⟩
    have c5 : TC (.bx 5) = T (.bx 5) := (hKC.2.2 5).trans d5
    have c1 : TC (.bx 3) = T1 (.bx 3) := (hKC.2.2 3).trans d1
    have c9 : TC (.bx 9) = Cel gn [.int .i64 0, .int .i64 0] 54 := (hKC.2.2 9).trans (Ths.up_same _ _ _)
    refine ⟨mk _ _ hSC c5 c1, ?_⟩
    refine Wu_all (ds := [.int .i64 (resN r.2.2).1, .int .i64 (resN r.2.2).2]) (hSC.has c9) (by kernel_rfl) (by simp [Value.oneCell']) rfl fun wE hBE hmE => ?_
    have hSE := hSC.cel c9 hBE hmE
    refine ⟨mk _ _ hSE (by rw [Ths.up_ne _ _ (by simp)]; exact c5) (by rw [Ths.up_ne _ _ (by simp)]; exact c1), ?_⟩
    refine j3f wE _ gn hSE (Ths.up_same _ _ _) (mkJj _ ?_ ?_ ?_ ?_ ?_) (by rw [Ths.up_ne _ _ (by simp)]; exact c5) (by rw [Ths.up_ne _ _ (by simp)]; exact (hKC.2.2 4).trans (by rw [Ths.up_ne _ _ (by simp)]; exact (hKB.2.2 4).trans h14))
    · intro j; rw [Ths.up_ne _ _ (by simp)]; exact (hKC.1 j).trans (Ths.up_ne _ _ (by simp))
    · intro j; rw [Ths.up_ne _ _ (by simp)]; exact (hKC.2.1 j).trans (Ths.up_ne _ _ (by simp))
    · intro j hj; rw [Ths.up_ne _ _ (by simp; omega)]; exact (hKC.2.2 j).trans (Ths.up_ne _ _ (by simp; omega))
    · intro h; rw [Ths.up_ne _ _ (by simp)]; exact hrkC h
    · intro j hj hp; rw [Ths.up_ne _ _ (by simp)]; exact hrsC j hj hp
end Go.Proofs.YtmmejgneelkhkaaDoor
