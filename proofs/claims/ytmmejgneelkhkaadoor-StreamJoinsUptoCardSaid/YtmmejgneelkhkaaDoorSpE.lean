/- The document's read and full. -/
import Derived.Test.YtmmejgneelkhkaaDoorSpD
set_option linter.all false
namespace Go.Proofs.YtmmejgneelkhkaaDoor
open Go Go.Cu Go.RowKit
set_option linter.unusedVariables false
set_option maxHeartbeats 2000000
set_option maxRecDepth 100000
def whN : Wh → Int
  | .ok => 0
  | .fin => -1
  | .broken => -2
  | .short => 240
theorem rread_ok {W0 w : World} {T : Ths} {k : Ky} {g n : Nat} {d c : Sl} {s : Src} (hS : Sep W0 w T) (hk : T k = RSrc g d c s) (hd0 : Rds b8 W0 d s.data) (hc0 : Rds i64v W0 c s.chunks) (hg : s.Good) (ht : s.turns < 4611686018427387904)
    (hn0 : 0 < n) (hn : n ≤ 140737488355328) :
    Cl Tryd.prog 53 #[.pointer (at0 g), .int .i64 (n : Int)] (.tup [.at .sl, .at (.int .i64)])
      (fun x w' => (∃ y : Sl, x = (y, whN (s.read n).2.2, ()) ∧ Rds b8 W0 y (s.read n).2.1) ∧ Sep W0 w' (T.up k (RSrc g d c (s.read n).1))) w := by
  refine culletref24_Source_read.run _ (at0 g) (n : Int) w ?_
  generalize hR : (fun (e : Ending) (w' : World) => ∃ x : Sl × Int × Unit, e = .returned ((Sh.tup [.at .sl, .at (.int .i64)]).enc x) ∧ (∃ y : Sl, x = (y, whN (s.read n).2.2, ()) ∧ Rds b8 W0 y (s.read n).2.1) ∧ Sep W0 w' (T.up k (RSrc g d c (s.read n).1))) = R
  have fin : ∀ (w' : World) (y : Sl) (z : Int), z = whN (s.read n).2.2 → Rds b8 W0 y (s.read n).2.1 → Sep W0 w' (T.up k (RSrc g d c (s.read n).1)) → R (.returned (.tuple #[.slice y.base y.len y.cap, .int .i64 z])) w' := by
    intro w' y z hz hr hs
    subst hR hz
    exact ⟨(y, _, ()), rfl, ⟨y, rfl, hr⟩, hs⟩
  have nilR : Rds b8 W0 ⟨none, 0, 0⟩ ([] : List Int) := Rds.nil _ _
  have same : ∀ w', Ex w w' → (s.read n).1 = s → Sep W0 w' (T.up k (RSrc g d c (s.read n).1)) := by
    intro w' hx e1
    rw [e1, ← hk, Ths.up_id]
    exact hS.exx hx
  clear hR
  have hB : Has w g (rsrcV d c s) 110 := hS.has hk
  have hplace := hg.place
  have hlen := hg.len
  have hclen := hg.clen
  have hi64 := hg.i64
  have hroom : s.room n = s.n3 (s.n2 (s.n1 n)) := rfl
  obtain ⟨r1, r2, r3⟩ := room_le s n
  have hdl := hd0.1
  have hcl := hc0.1
  have hd := hS.old hd0
  have hc := hS.old hc0
  have j4f : ¬ (0 ≤ s.failAt ∧ (s.pos : Int) = s.failAt) → s.pos ≠ s.data.length → ∀ w1, Ex w w1 → culletref24_Source_read.j4 R (at0 g) (s.room n) w1 := by
    intro hb1 hb2 w1 hx1
    have hrd : s.read n = s.step (s.room n) := by unfold Src.read; rw [if_neg hb1, if_neg hb2]
    rw [hrd] at fin
    unfold culletref24_Source_read.j4
    refine Pu_nil (Rd_has (c := .int .i64) (x := (s.turns : Int)) (hB.ex hx1) (by kernel_rfl) rfl (Pu_nil ?_))
    rw [wrap64 (by omega) (by omega)]
    refine Wu_store (hB.ex hx1) (by kernel_rfl) (by simp [Value.cells, Value.oneCell']) (by simp [Value.cells]) fun w2 hB2 hm2 => ?_
    have hB2' : Has w2 g (rsrcV d c { s with turns := s.turns + 1 }) 110 := by
      have e : ((s.turns : Int) + 1) = ((s.turns + 1 : Nat) : Int) := by omega
      rw [e] at hB2
      exact hB2
    have hS2 := (hS.exx hx1).cel hk hB2' hm2
    refine Cd_dec (fun h0 => ?_) (fun h0 => ?_)
    · have hst : s.step (s.room n) = ({ s with turns := s.turns + 1 }, [], .ok) := by unfold Src.step; rw [if_pos h0]
      rw [hst] at fin
      exact fin w2 ⟨none, 0, 0⟩ _ rfl nilR hS2
    have hst : s.step (s.room n) = ({ s with turns := s.turns + 1, pos := s.pos + (s.room n).toNat }, (s.data.drop s.pos).take (s.room n).toNat, .ok) := by unfold Src.step; rw [if_neg h0]
    rw [hst] at fin
    obtain ⟨m, hm⟩ : ∃ m : Nat, s.room n = (m : Int) := ⟨(s.room n).toNat, by omega⟩
    rw [hm] at fin r1 r2 r3 h0 ⊢
    simp only [Int.toNat_natCast] at fin
    have hx2 := Ex.drew w2
    have hB3 := hB2'.ex hx2
    refine Pu_nil (RdS_same (Rd_has (c := .sl) (x := d) hB3 (by kernel_rfl) rfl ?_))
    refine Pu_nil (RdS_same (Rd_has (c := .int .i64) (x := (s.pos : Int)) hB3 (by kernel_rfl) rfl ?_))
    refine Pu_nil (RdS_same (Rd_has (c := .int .i64) (x := (s.pos : Int)) hB3 (by kernel_rfl) rfl ?_))
    rw [wrap64 (by omega) (by omega)]
    refine Pu_slice s.pos (s.pos + m) ((hS2.exx hx2).old hd0) tB sB (.inr ⟨_, rfl⟩) (.inr ⟨.i64, by rw [Int.natCast_add]⟩) (by omega) (by omega) fun s' hs' _ _ _ => ?_
    have hs2 := hs' _ hd0
    have esl : ((s.data.take (s.pos + m)).drop s.pos) = (s.data.drop s.pos).take m := by rw [List.drop_take]; congr 1; omega
    rw [esl] at hs2
    refine Pu_nil (Rd_has (c := .int .i64) (x := (s.pos : Int)) hB3 (by kernel_rfl) rfl (Pu_nil ?_))
    rw [wrap64 (by omega) (by omega)]
    refine Wu_store hB3 (by kernel_rfl) (by simp [Value.cells, Value.oneCell']) (by simp [Value.cells]) fun w4 hB4 hm4 => ?_
    have hB4' : Has w4 g (rsrcV d c { s with turns := s.turns + 1, pos := s.pos + m }) 110 := by
      have e : ((s.pos : Int) + (m : Int)) = ((s.pos + m : Nat) : Int) := by omega
      rw [e] at hB4
      exact hB4
    have hS4 := (hS2.exx hx2).cel (k := k) (Ths.up_same _ _ _) hB4' hm4
    rw [Ths.up_up] at hS4
    exact fin w4 s' _ rfl hs2 hS4
  have j3f : ¬ (0 ≤ s.failAt ∧ (s.pos : Int) = s.failAt) → s.pos ≠ s.data.length → ∀ w1, Ex w w1 → culletref24_Source_read.j3 R (at0 g) (s.n2 (s.n1 n)) w1 := by
    intro hb1 hb2 w1 hx1
    unfold culletref24_Source_read.j3
    refine Pu_nil (Rd_has (c := .sl) (x := c) (hB.ex hx1) (by kernel_rfl) rfl ?_)
    refine Cd_dec (fun h => ?_) (fun h => ?_)
    · have hpos : 0 < s.chunks.length := by omega
      have hx2 := hx1.trans (Ex.drew w1)
      refine Pu_nil (RdS_same (Rd_has (c := .sl) (x := c) (hB.ex hx2) (by kernel_rfl) rfl ?_))
      refine Pu_nil (RdS_same (Rd_has (c := .int .i64) (x := (s.turns : Int)) (hB.ex hx2) (by kernel_rfl) rfl ?_))
      refine Pu_nil (RdS_same (Rd_has (c := .sl) (x := c) (hB.ex hx2) (by kernel_rfl) rfl ?_))
      refine Pu_rem (by omega) ?_
      have e : Int.tmod (s.turns : Int) ((c.len : Nat) : Int) = ((s.turns % s.chunks.length : Nat) : Int) := by rw [hcl, Int.tmod_eq_emod_of_nonneg (by omega)]; omega
      rw [e]
      have hlt : s.turns % s.chunks.length < s.chunks.length := Nat.mod_lt _ hpos
      refine Pu_idx (hc.ex hx2) tI sI (by omega) (by omega) fun a x hx hcell _ => ?_
      refine RdS_same (Rd_one (c := .int .i64) (x := x) (by kernel_rfl) hcell ?_)
      have e3 : minI (s.n2 (s.n1 n)) x = s.room n := by
        rw [hroom]
        unfold Src.n3
        rw [if_pos hpos, List.getD_eq_getElem?_getD]
        rw [Int.toNat_natCast] at hx
        rw [hx]; rfl
      refine Cd_dec (fun h2 => ?_) (fun h2 => ?_)
      · unfold minI at e3
        rw [if_pos h2] at e3
        rw [e3]
        exact j4f hb1 hb2 _ hx2
      · unfold minI at e3
        rw [if_neg h2] at e3
        rw [e3]
        exact j4f hb1 hb2 _ hx2
    · have e3 : s.n2 (s.n1 n) = s.room n := by
        rw [hroom]
        unfold Src.n3
        rw [if_neg (by omega)]
      rw [e3]
      exact j4f hb1 hb2 _ hx1
  have j2f : ¬ (0 ≤ s.failAt ∧ (s.pos : Int) = s.failAt) → s.pos ≠ s.data.length → ∀ w1, Ex w w1 → culletref24_Source_read.j2 R (at0 g) (s.n1 n) w1 := by
    intro hb1 hb2 w1 hx1
    have hx2 := hx1.trans (Ex.drew w1)
    unfold culletref24_Source_read.j2
    refine Pu_nil (RdS_same (Rd_has (c := .int .i64) (x := s.failAt) (hB.ex hx2) (by kernel_rfl) rfl ?_))
    refine Cd_dec (fun h3 => ?_) (fun h3 => ?_)
    · refine Pu_nil (RdS_same (Rd_has (c := .int .i64) (x := s.failAt) (hB.ex hx2) (by kernel_rfl) rfl ?_))
      refine Pu_nil (RdS_same (Rd_has (c := .int .i64) (x := (s.pos : Int)) (hB.ex hx2) (by kernel_rfl) rfl ?_))
      rw [wrap64 (by omega) (by omega)]
      have e2 : s.n2 (s.n1 n) = minI (s.n1 n) (s.failAt - (s.pos : Int)) := by unfold Src.n2; rw [if_pos h3]
      unfold culletref24_Source_read.j5
      refine Cd_dec (fun h4 => ?_) (fun h4 => ?_)
      · have hx3 := hx2.trans (Ex.drew _)
        refine Pu_nil (RdS_same (Rd_has (c := .int .i64) (x := s.failAt) (hB.ex hx3) (by kernel_rfl) rfl ?_))
        refine Pu_nil (RdS_same (Rd_has (c := .int .i64) (x := (s.pos : Int)) (hB.ex hx3) (by kernel_rfl) rfl ?_))
        rw [wrap64 (by omega) (by omega)]
        unfold minI at e2
        rw [if_pos h4] at e2
        rw [← e2]
        exact j3f hb1 hb2 _ hx3
      · unfold minI at e2
        rw [if_neg h4] at e2
        rw [← e2]
        exact j3f hb1 hb2 _ hx2
    · have e2 : s.n2 (s.n1 n) = s.n1 n := by unfold Src.n2; rw [if_neg h3]
      unfold culletref24_Source_read.j5
      refine Cd_f ?_
      rw [← e2]
      exact j3f hb1 hb2 _ hx2
  have j1f : ∀ b : Bool, (b = true ↔ (0 ≤ s.failAt ∧ (s.pos : Int) = s.failAt)) → ∀ w1, Ex w w1 → culletref24_Source_read.j1 R (at0 g) (n : Int) b w1 := by
    intro b hbb w1 hx1
    have hx2 := hx1.trans (Ex.drew w1)
    unfold culletref24_Source_read.j1
    refine Cd_of (fun h => ?_) (fun h => ?_)
    · have hrd : s.read n = (s, [], .broken) := by unfold Src.read; rw [if_pos (hbb.1 h)]
      exact fin _ ⟨none, 0, 0⟩ _ (by rw [hrd]; rfl) (by rw [hrd]; exact nilR) (same _ hx1 (by rw [hrd]))
    have hb1 : ¬ (0 ≤ s.failAt ∧ (s.pos : Int) = s.failAt) := fun h' => by rw [hbb.2 h'] at h; cases h
    refine Pu_nil (RdS_same (Rd_has (c := .int .i64) (x := (s.pos : Int)) (hB.ex hx2) (by kernel_rfl) rfl ?_))
    refine Pu_nil (RdS_same (Rd_has (c := .sl) (x := d) (hB.ex hx2) (by kernel_rfl) rfl ?_))
    have hx3 := hx2.trans (Ex.drew _)
    refine Cd_eq (fun h2 => ?_) (fun h2 => ?_)
    · have hrd : s.read n = (s, [], .fin) := by unfold Src.read; rw [if_neg hb1, if_pos (by omega)]
      exact fin _ ⟨none, 0, 0⟩ _ (by rw [hrd]; rfl) (by rw [hrd]; exact nilR) (same _ hx2 (by rw [hrd]))
    have hb2 : s.pos ≠ s.data.length := by omega
    refine Pu_nil (RdS_same (Rd_has (c := .sl) (x := d) (hB.ex hx3) (by kernel_rfl) rfl ?_))
    refine Pu_nil (RdS_same (Rd_has (c := .int .i64) (x := (s.pos : Int)) (hB.ex hx3) (by kernel_rfl) rfl ?_))
    rw [wrap64 (by omega) (by omega), hdl]
    have e1 : s.n1 n = minI ((n : Nat) : Int) ((s.data.length : Int) - (s.pos : Int)) := rfl
    refine Cd_dec (fun h3 => ?_) (fun h3 => ?_)
    · unfold minI at e1
      rw [if_pos h3] at e1
      rw [← e1]
      exact j2f hb1 hb2 _ hx3
    · unfold minI at e1
      rw [if_neg h3] at e1
      rw [← e1]
      exact j2f hb1 hb2 _ hx3
  unfold culletref24_Source_read.M
  have x0 := Ex.drew w
  refine Pu_nil (RdS_same (Rd_has (c := .int .i64) (x := s.failAt) (hB.ex x0) (by kernel_rfl) rfl ?_))
  refine Cd_dec (fun h1 => ?_) (fun h1 => ?_)
  · refine Pu_nil (RdS_same (Rd_has (c := .int .i64) (x := (s.pos : Int)) (hB.ex x0) (by kernel_rfl) rfl ?_))
    refine Pu_nil (RdS_same (Rd_has (c := .int .i64) (x := s.failAt) (hB.ex x0) (by kernel_rfl) rfl ?_))
    exact j1f _ (by simp only [beq_iff_eq]; exact ⟨fun h => ⟨h1, h⟩, fun h => h.2⟩) _ x0
  · exact j1f _ ⟨fun h => (by cases h), fun h => absurd h.1 h1⟩ _ x0
theorem rfull_ok {W0 w : World} {T : Ths} {k kb : Ky} {g n : Nat} {d c : Sl} {s : Src} (hS : Sep W0 w T) (hk : T k = RSrc g d c s) (hne : kb ≠ k) (hd0 : Rds b8 W0 d s.data) (hc0 : Rds i64v W0 c s.chunks) (hg : s.Good) (ht : s.turns + (n * 100 + 100) ≤ 4611686018427387904)
    (hn : n ≤ 140737488351232) :
    Cl Tryd.prog 33 #[.pointer (at0 g), .int .i64 (n : Int)] (.tup [.at .sl, .at (.int .i64)])
      (fun x w' => ∃ y : Sl, x = (y, whN (s.full n).2.2, ()) ∧ Sep W0 w' ((T.up k (RSrc g d c (s.full n).1)).up kb (Owt b8 5 y (s.full n).2.1))) w := by
  refine culletref24_Source_full.run _ (at0 g) (n : Int) w ?_
  obtain ⟨q, hq⟩ : ∃ q, q = s.full n := ⟨_, rfl⟩
  rw [← hq]
  generalize hR : (fun (e : Ending) (w' : World) => ∃ x : Sl × Int × Unit, e = .returned ((Sh.tup [.at .sl, .at (.int .i64)]).enc x) ∧ ∃ y : Sl, x = (y, whN q.2.2, ()) ∧ Sep W0 w' ((T.up k (RSrc g d c q.1)).up kb (Owt b8 5 y q.2.1))) = R
  have fin : ∀ (w' : World) (y : Sl) (z : Int) (s1 : Src) (out : List Int) (x : Wh), q = (s1, out, x) → z = whN x → Sep W0 w' ((T.up k (RSrc g d c s1)).up kb (Owt b8 5 y out)) → R (.returned (.tuple #[.slice y.base y.len y.cap, .int .i64 z])) w' := by
    intro w' y z s1 out x hf hz hs
    subst hR hz hf
    exact ⟨(y, _, ()), rfl, y, rfl, hs⟩
  clear hR
  unfold culletref24_Source_full.M culletref24_Source_full.l1
  refine loopW_of (fun st w1 => ∃ (s1 : Src) (out : List Int) (y : Sl) (idle f : Nat), st = (at0 g, (n : Int), y, (idle : Int), ()) ∧ idle ≤ 99 ∧ out.length ≤ n ∧ s.Like s1 ∧ s1.Good ∧ s1.turns + ((n - out.length) * 100 + (100 - idle)) ≤ 4611686018427387904 ∧ (n - out.length) * 100 + (100 - idle) ≤ f ∧
      q = ((Src.fullF f s1 (n - out.length) idle).1, out ++ (Src.fullF f s1 (n - out.length) idle).2.1, (Src.fullF f s1 (n - out.length) idle).2.2) ∧ Sep W0 w1 ((T.up k (RSrc g d c s1)).up kb (Owt b8 5 y out)))
    (fun st _ => (((n : Int) - st.2.2.1.len) * 100 + (100 - st.2.2.2.1)).toNat) ?_ ⟨s, [], ⟨none, 0, 0⟩, 0, n * 100 + 100, rfl, by omega, by simp, Src.Like.refl s, hg, by simpa using ht, by simp, by rw [hq]; simp [Src.full], by
      rw [← hk, Ths.up_id]
      exact hS.newOwn kb (Ex.refl w) (Own.nil _ _ _ _)⟩
  rintro k1 _ w1 ⟨s1, out, y, idle, f, rfl, hi, ho, hl1, hg1, ht1, hf, hful, hS1⟩ hk1
  unfold culletref24_Source_full.b1
  have hown := hS1.owt (k := kb) (Ths.up_same _ _ _)
  have hyl : y.len = out.length := hown.1
  dsimp only at hk1 ⊢
  refine Cd_dec (fun hlt => ?_) (fun hge => ?_)
  · have hlt : out.length < n := by omega
    have hw0 : n - out.length ≠ 0 := by omega
    obtain ⟨f, rfl⟩ : ∃ f', f = f' + 1 := ⟨f - 1, by omega⟩
    rw [wrap64 (by omega) (by omega), show (n : Int) - (y.len : Int) = ((n - out.length : Nat) : Int) by omega]
    refine Cl_mono (rread_ok hS1 (k := k) (by rw [Ths.up_ne _ _ (fun e => hne e.symm), Ths.up_same]) (by rw [hl1.1]; exact hd0) (by rw [hl1.2.1]; exact hc0) hg1 (by omega) (by omega) (by omega)) ?_
    rintro x w2 ⟨⟨z, rfl, hz⟩, hS2⟩
    obtain ⟨hr, hrt, hrn, hrs⟩ := read_facts hg1 (n - out.length)
    have hle := hr.le
    have hlo := hr.lo
    have hl2 := hl1.trans hr.like
    have hg2 := hr.good
    have fstop := fun h => fullF_stop (f := f) (i := idle) (s := s1) hw0 h
    have fshort := fun h h0 h1 => fullF_short (f := f) (i := idle) (s := s1) hw0 h h0 h1
    have fidle := fun h h0 h1 => fullF_idle (f := f) (i := idle) (s := s1) hw0 h h0 h1
    have fgo := fun h h0 => fullF_go (f := f) (i := idle) (s := s1) hw0 h h0
    generalize s1.read (n - out.length) = r at hr hrt hrn hrs hle hlo hz hS2 hl2 hg2 fstop fshort fidle fgo
    have hzl := hz.1
    dsimp only
    have hown2 := hS2.owt (k := kb) (by rw [Ths.up_ne _ _ hne]; exact Ths.up_same _ _ _)
    refine Wr_append (base := 0) tB iB rfl hown2 (hS2.old hz) (fun _ => rfl) (by omega) (by omega) (Nat.zero_le _) fun y' w3 ho3 hm3 hin3 => ?_
    have hS3 := hS2.grow (k := kb) (by rw [Ths.up_ne _ _ hne]; exact Ths.up_same _ _ _) ho3 hm3 hin3
    rw [Ths.up_back _ _ _ _ hne, Ths.up_up] at hS3
    have hyl3 : y'.len = (out ++ r.2.1).length := ho3.1
    refine Cd_ne (fun h0 => ?_) (fun h0 => ?_)
    · have hok : r.2.2 ≠ .ok := fun e => h0 (by rw [e]; rfl)
      rw [fstop hok] at hful
      exact fin w3 y' _ _ _ _ hful rfl hS3
    have hok : r.2.2 = .ok := by
      revert h0
      cases r.2.2 <;> intro h0 <;> first | rfl | exact absurd h0 (by decide)
    refine Cd_dec (fun hp => ?_) (fun hp => ?_)
    · have hp : r.2.1.length ≠ 0 := by omega
      unfold culletref24_Source_full.j1
      refine Cd_eq (fun h => absurd h (by omega)) (fun _ => ?_)
      rw [fgo hok hp, ← List.append_assoc, show n - out.length - r.2.1.length = n - (out ++ r.2.1).length by rw [List.length_append]; omega] at hful
      refine hk1 _ _ ⟨r.1, out ++ r.2.1, y', 0, f, rfl, by omega, by simp; omega, hl2, hg2, by simp; omega, by simp; omega, hful, hS3⟩ (by dsimp only; rw [hyl3, List.length_append]; omega)
    · have hp : r.2.1.length = 0 := by omega
      have e0 : r.2.1 = [] := List.eq_nil_of_length_eq_zero hp
      unfold culletref24_Source_full.j1
      rw [wrap64 (by omega) (by omega)]
      refine Cd_eq (fun h => ?_) (fun h => ?_)
      · rw [fshort hok hp (by omega)] at hful
        exact fin w3 y' _ _ _ _ hful rfl hS3
      · rw [fidle hok hp (by omega)] at hful
        rw [e0, List.append_nil] at hS3 hyl3
        refine hk1 _ _ ⟨r.1, out, y', idle + 1, f, by simp, by omega, ho, hl2, hg2, by omega, by omega, hful, hS3⟩ (by dsimp only; rw [hyl3]; omega)
  · have hnn : n - out.length = 0 := by omega
    rw [hnn, fullF_zero] at hful
    simp only [List.append_nil] at hful
    exact fin w1 _ _ _ _ _ hful rfl hS1
end Go.Proofs.YtmmejgneelkhkaaDoor
