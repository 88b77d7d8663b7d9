/- Writing into a sink; what is asked of sources and sinks; new ones. -/
import Derived.Test.YtmmejgneelkhkaaDoorSpA
set_option linter.all false
namespace Go.Proofs.YtmmejgneelkhkaaDoor
open Go Go.Cu Go.RowKit
set_option linter.unusedVariables false
set_option maxHeartbeats 2000000
theorem write_ok {W0 w : World} {T : Ths} {k : Ky} {g : Nat} {br : Addr} {s : Snk} {x : Sl} {p : List Int} (hS : Sep W0 w T) (hk : T k = PSnk g br s) (hr : Rds b8 w x p) (hg : s.Good) (hsz : s.got.length + p.length ≤ 140737488355328) :
    Cl Tryd.prog 95 #[.pointer (at0 g), .slice x.base x.len x.cap] (.tup [.at (.int .i64), .at .any])
      (fun y w' => y = ((if (s.put p).2 = true then (p.length : Int) else s.failAt - (s.got.length : Int)), (if (s.put p).2 = true then .nilIface else brV br), ()) ∧ Sep W0 w' (T.up k (PSnk g br (s.put p).1))) w := by
  obtain ⟨d, hB, ho, hdg, hc⟩ := grow_get hS hk
  have hd := ho.rds
  have hdl := hd.1
  have hxl := hr.1
  have hfa := hg.i64
  refine pipes_Sink_Write.run _ (at0 g) x w ?_
  generalize hR : (fun (e : Ending) (w' : World) => ∃ y : Int × Value × Unit, e = .returned ((Sh.tup [.at (.int .i64), .at .any]).enc y) ∧ y = ((if (s.put p).2 = true then (p.length : Int) else s.failAt - (s.got.length : Int)), (if (s.put p).2 = true then .nilIface else brV br), ()) ∧ Sep W0 w' (T.up k (PSnk g br (s.put p).1))) = R
  unfold pipes_Sink_Write.M
  refine Pu_eqnil tPK (Cd_f ?_)
  have x0 := Ex.drew w
  refine Pu_nil (RdS_same (Rd_has (c := .int .i64) (x := s.failAt) (hB.ex x0) (by kernel_rfl) rfl ?_))
  have j1f : ∀ b : Bool, (b = true ↔ (0 ≤ s.failAt ∧ s.failAt - (s.got.length : Int) < (p.length : Int))) → ∀ w1, Ex w w1 → pipes_Sink_Write.j1 R (at0 g) x b w1 := by
    intro b hbb w1 hx1
    unfold pipes_Sink_Write.j1
    refine Cd_of (fun h => ?_) (fun h => ?_)
    · have hcond := hbb.1 h
      have hfl := hg.fail hcond.1
      have hp : s.put p = ({ s with got := s.got ++ p.take (s.failAt - (s.got.length : Int)).toNat }, false) := by unfold Snk.put; rw [if_pos hcond]
      rw [hp] at hR
      have hx2 := hx1.trans (Ex.drew w1)
      refine Pu_nil (RdS_same (Rd_has (c := .int .i64) (x := s.failAt) (hB.ex hx2) (by kernel_rfl) rfl ?_))
      refine Pu_nil (RdS_same (Rd_has (c := .sl) (x := d) (hB.ex hx2) (by kernel_rfl) rfl ?_))
      rw [wrap64 (by omega) (by omega), hdl]
      unfold pipes_Sink_Write.j2
      obtain ⟨m, hm⟩ : ∃ m : Nat, s.failAt - (s.got.length : Int) = (m : Int) := ⟨(s.failAt - (s.got.length : Int)).toNat, by omega⟩
      rw [hm] at hR hcond ⊢
      simp only [Int.toNat_natCast] at hR
      have hx3 := hx2.trans (Ex.drew _)
      have hr3 := hr.ex hx3
      refine Held_of (fun _ => True) trivial (Pu_nil ?_)
      refine Pu_slice 0 m hr3 tB sB (.inl ⟨rfl, rfl⟩) (.inr ⟨.i64, rfl⟩) (by omega) (by omega) fun s' hs' _ _ _ => ?_
      have hs2 := hs' _ hr3
      rw [List.drop_zero] at hs2
      refine Wr_of_Rd (Rd_has (c := .sl) (x := d) (hB.ex hx3) (by kernel_rfl) rfl ⟨trivial, ?_⟩)
      have hpl : (p.take m).length = m := by rw [List.length_take]; omega
      refine Wr_append (base := 0) tB iB rfl (ho.ex hx3) hs2 (fun _ => rfl) (by rw [hpl]; omega) (by rw [hpl]; omega) (Nat.zero_le _) fun d' w4 ho4 hm4 hin4 => ⟨trivial, Pu_nil ?_⟩
      refine Wu_store ((hB.ex hx3).mo hm4 hdg) (by kernel_rfl) (by simp [Value.cells, Value.oneCell']) (by simp [Value.cells]) fun w5 hB5 hm5 => ⟨trivial, ?_⟩
      have hS5 := hc (snkV br { s with got := s.got ++ p.take m }) _ d' w4 w5 ho4 (hx3.mo hm4 |>.weak (fun _ _ h => h)) (fun b hb => by rcases hin4 b hb with h | h; exact .inl h; exact .inr (Nat.le_trans hx3.size h)) hB5 hm5
      unfold pipes_Sink_Write.j3
      have hB5' : Has w5 g (snkV br { s with got := s.got ++ p.take m } d') 90 := hB5
      refine Pu_nil (RdS_same (Rd_has (c := .ptr) (x := some br) (hB5'.ex (Ex.drew w5)) (by kernel_rfl) rfl ?_))
      subst hR
      exact ⟨((m : Int), brV br, ()), rfl, by simp, hS5.exx (Ex.drew w5)⟩
    · have hcond : ¬ (0 ≤ s.failAt ∧ s.failAt - (s.got.length : Int) < (p.length : Int)) := fun h' => by rw [hbb.2 h'] at h; cases h
      have hp : s.put p = ({ s with got := s.got ++ p }, true) := by unfold Snk.put; rw [if_neg hcond]
      rw [hp] at hR
      refine Pu_nil (Rd_has (c := .sl) (x := d) (hB.ex hx1) (by kernel_rfl) rfl ?_)
      refine Wr_append (base := 0) tB iB rfl (ho.ex hx1) (hr.ex hx1) (fun _ => rfl) (by omega) (by omega) (Nat.zero_le _) fun d' w4 ho4 hm4 hin4 => Pu_nil ?_
      refine Wu_store ((hB.ex hx1).mo hm4 hdg) (by kernel_rfl) (by simp [Value.cells, Value.oneCell']) (by simp [Value.cells]) fun w5 hB5 hm5 => ?_
      have hS5 := hc (snkV br { s with got := s.got ++ p }) _ d' w4 w5 ho4 (hx1.mo hm4 |>.weak (fun _ _ h => h)) (fun b hb => by rcases hin4 b hb with h | h; exact .inl h; exact .inr (Nat.le_trans hx1.size h)) hB5 hm5
      subst hR
      exact ⟨((x.len : Int), .nilIface, ()), rfl, by simp [hxl], hS5⟩
  refine Cd_dec (fun h1 => ?_) (fun h1 => ?_)
  · refine Pu_nil (RdS_same (Rd_has (c := .int .i64) (x := s.failAt) (hB.ex x0) (by kernel_rfl) rfl ?_))
    refine Pu_nil (RdS_same (Rd_has (c := .sl) (x := d) (hB.ex x0) (by kernel_rfl) rfl ?_))
    rw [wrap64 (by omega) (by omega), hdl, hxl]
    exact j1f _ (by simp only [decide_eq_true_eq]; exact ⟨fun h => ⟨h1, h⟩, fun h => h.2⟩) _ x0
  · exact j1f _ ⟨fun h => (by cases h), fun h => absurd h.1 h1⟩ _ x0
/-- the document's put -/
theorem rput_ok {W0 w : World} {T : Ths} {k : Ky} {g : Nat} {s : Snk} {x : Sl} {p : List Int} (hS : Sep W0 w T) (hk : T k = RSnk g s) (hr : Rds b8 w x p) (hg : s.Good) (hsz : s.got.length + p.length ≤ 140737488355328) :
    Cl Tryd.prog 34 #[.pointer (at0 g), .slice x.base x.len x.cap] (.one (.at .bool)) (fun y w' => y = (s.put p).2 ∧ Sep W0 w' (T.up k (RSnk g (s.put p).1))) w := by
  obtain ⟨d, hB, ho, hdg, hc⟩ := grow_get hS hk
  have hd := ho.rds
  have hdl := hd.1
  have hxl := hr.1
  have hfa := hg.i64
  refine culletref24_Sink_put.run _ (at0 g) x w ?_
  generalize hR : (fun (e : Ending) (w' : World) => ∃ y : Bool, e = .returned ((Sh.one (.at .bool)).enc y) ∧ y = (s.put p).2 ∧ Sep W0 w' (T.up k (RSnk g (s.put p).1))) = R
  unfold culletref24_Sink_put.M
  have x0 := Ex.drew w
  refine Pu_nil (RdS_same (Rd_has (c := .int .i64) (x := s.failAt) (hB.ex x0) (by kernel_rfl) rfl ?_))
  refine Pu_nil (RdS_same (Rd_has (c := .sl) (x := d) (hB.ex x0) (by kernel_rfl) rfl ?_))
  rw [hdl]
  have j2f : ∀ b : Bool, (b = true ↔ (0 ≤ s.failAt ∧ s.failAt - (s.got.length : Int) < (p.length : Int))) → ∀ rm : Int, (b = true → rm = s.failAt - (s.got.length : Int)) → ∀ w1, Ex w w1 → culletref24_Sink_put.j2 R (at0 g) x rm b w1 := by
    intro b hbb rm hrm w1 hx1
    unfold culletref24_Sink_put.j2
    refine Cd_of (fun h => ?_) (fun h => ?_)
    · rw [hrm h]
      have hcond := hbb.1 h
      have hfl := hg.fail hcond.1
      have hp : s.put p = ({ s with got := s.got ++ p.take (s.failAt - (s.got.length : Int)).toNat }, false) := by unfold Snk.put; rw [if_pos hcond]
      rw [hp] at hR
      obtain ⟨m, hm⟩ : ∃ m : Nat, s.failAt - (s.got.length : Int) = (m : Int) := ⟨(s.failAt - (s.got.length : Int)).toNat, by omega⟩
      rw [hm] at hR hcond ⊢
      simp only [Int.toNat_natCast] at hR
      have hx3 := hx1.trans (Ex.drew _)
      have hr3 := hr.ex hx3
      refine Held_of (fun _ => True) trivial (Pu_nil ?_)
      refine Pu_slice 0 m hr3 tB sB (.inl ⟨rfl, rfl⟩) (.inr ⟨.i64, rfl⟩) (by omega) (by omega) fun s' hs' _ _ _ => ?_
      have hs2 := hs' _ hr3
      rw [List.drop_zero] at hs2
      refine Wr_of_Rd (Rd_has (c := .sl) (x := d) (hB.ex hx3) (by kernel_rfl) rfl ⟨trivial, ?_⟩)
      have hpl : (p.take m).length = m := by rw [List.length_take]; omega
      refine Wr_append (base := 0) tB iB rfl (ho.ex hx3) hs2 (fun _ => rfl) (by rw [hpl]; omega) (by rw [hpl]; omega) (Nat.zero_le _) fun d' w4 ho4 hm4 hin4 => ⟨trivial, Pu_nil ?_⟩
      refine Wu_store ((hB.ex hx3).mo hm4 hdg) (by kernel_rfl) (by simp [Value.cells, Value.oneCell']) (by simp [Value.cells]) fun w5 hB5 hm5 => ⟨trivial, ?_⟩
      have hS5 := hc (rsnkV { s with got := s.got ++ p.take m }) _ d' w4 w5 ho4 (hx3.mo hm4 |>.weak (fun _ _ h => h)) (fun b hb => by rcases hin4 b hb with h | h; exact .inl h; exact .inr (Nat.le_trans hx3.size h)) hB5 hm5
      unfold culletref24_Sink_put.j3
      subst hR
      exact ⟨_, rfl, rfl, hS5⟩
    · have hcond : ¬ (0 ≤ s.failAt ∧ s.failAt - (s.got.length : Int) < (p.length : Int)) := fun h' => by rw [hbb.2 h'] at h; cases h
      have hp : s.put p = ({ s with got := s.got ++ p }, true) := by unfold Snk.put; rw [if_neg hcond]
      rw [hp] at hR
      refine Pu_nil (Rd_has (c := .sl) (x := d) (hB.ex hx1) (by kernel_rfl) rfl ?_)
      refine Wr_append (base := 0) tB iB rfl (ho.ex hx1) (hr.ex hx1) (fun _ => rfl) (by omega) (by omega) (Nat.zero_le _) fun d' w4 ho4 hm4 hin4 => Pu_nil ?_
      refine Wu_store ((hB.ex hx1).mo hm4 hdg) (by kernel_rfl) (by simp [Value.cells, Value.oneCell']) (by simp [Value.cells]) fun w5 hB5 hm5 => ?_
      have hS5 := hc (rsnkV { s with got := s.got ++ p }) _ d' w4 w5 ho4 (hx1.mo hm4 |>.weak (fun _ _ h => h)) (fun b hb => by rcases hin4 b hb with h | h; exact .inl h; exact .inr (Nat.le_trans hx1.size h)) hB5 hm5
      subst hR
      exact ⟨_, rfl, rfl, hS5⟩
  unfold culletref24_Sink_put.j1
  refine Pu_nil (Rd_has (c := .int .i64) (x := s.failAt) (hB.ex x0) (by kernel_rfl) rfl ?_)
  refine Cd_dec (fun h1 => ?_) (fun h1 => ?_)
  · rw [hxl, wrap64 (by omega) (by omega)]
    exact j2f _ (by simp only [decide_eq_true_eq]; exact ⟨fun h => ⟨h1, h⟩, fun h => h.2⟩) _ (fun _ => rfl) _ x0
  · exact j2f _ ⟨fun h => (by cases h), fun h => absurd h.1 h1⟩ _ (fun h => by cases h) _ x0
/-! ### What is asked -/
theorem taken_gv {W0 w : World} {T : Ths} {k : Ky} {g : Nat} {br : Addr} {d c : Sl} {s : Src} (hS : Sep W0 w T) (hk : T k = PSrc g br d c s) : Gv Tryd.prog 38 #[.pointer (at0 g)] (.int .i64 (s.pos : Int)) w := by
  obtain ⟨hB, _⟩ := src_has hS hk
  refine pipes_Source_Taken.run _ (at0 g) w ?_
  unfold pipes_Source_Taken.M
  exact Pu_eqnil tPS (Cd_f (Pu_nil (Rd_has (c := .int .i64) (x := (s.pos : Int)) hB (by kernel_rfl) rfl ⟨rfl, Ex.refl w⟩)))
theorem failure_gv {W0 w : World} {T : Ths} {k : Ky} {g : Nat} {br : Addr} {d c : Sl} {s : Src} (hS : Sep W0 w T) (hk : T k = PSrc g br d c s) (h0 : 0 ≤ s.failAt) : Gv Tryd.prog 36 #[.pointer (at0 g)] (brV br) w := by
  obtain ⟨hB, _⟩ := src_has hS hk
  refine pipes_Source_Failure.run _ (at0 g) w ?_
  unfold pipes_Source_Failure.M pipes_Source_Failure.j1
  refine Pu_eqnil tPS (Cd_f (Pu_nil (Rd_has (c := .int .i64) (x := s.failAt) hB (by kernel_rfl) rfl ?_)))
  refine Cd_dec (fun h => absurd h (by omega)) fun _ => Pu_nil (Rd_has (c := .ptr) (x := some br) hB (by kernel_rfl) rfl ⟨rfl, Ex.refl w⟩)
theorem sfailure_gv {W0 w : World} {T : Ths} {k : Ky} {g : Nat} {br : Addr} {s : Snk} (hS : Sep W0 w T) (hk : T k = PSnk g br s) (h0 : 0 ≤ s.failAt) : Gv Tryd.prog 37 #[.pointer (at0 g)] (brV br) w := by
  obtain ⟨d, hB, ho, _⟩ := grow_get hS hk
  refine pipes_Sink_Failure.run _ (at0 g) w ?_
  unfold pipes_Sink_Failure.M pipes_Sink_Failure.j1
  refine Pu_eqnil tPK (Cd_f (Pu_nil (Rd_has (c := .int .i64) (x := s.failAt) hB (by kernel_rfl) rfl ?_)))
  refine Cd_dec (fun h => absurd h (by omega)) fun _ => Pu_nil (Rd_has (c := .ptr) (x := some br) hB (by kernel_rfl) rfl ⟨rfl, Ex.refl w⟩)
theorem bytes_sl {W0 w : World} {T : Ths} {k : Ky} {g : Nat} {br : Addr} {s : Snk} (hS : Sep W0 w T) (hk : T k = PSnk g br s) (hsz : s.got.length ≤ 140737488355328) : GivesSl Tryd.prog 23 #[.pointer (at0 g)] b8 5 s.got w := by
  obtain ⟨d, hB, ho, _⟩ := grow_get hS hk
  refine pipes_Sink_Bytes.run _ (at0 g) w ?_
  unfold pipes_Sink_Bytes.M
  refine Pu_eqnil tPK (Cd_f (Pu_nil (Rd_has (c := .sl) (x := d) hB (by kernel_rfl) rfl ?_)))
  refine Wr_append (s := ⟨none, 0, 0⟩) (l := []) (base := w.heap.size) tB iB rfl (Own.nil _ _ _ _) ho.rds (fun _ => rfl) (by simpa using hsz) (by simpa using hsz) (Nat.le_refl _) fun s' w' ho' hm' hin' => ⟨s', rfl, by simpa using ho', hm'.weak (fun b _ hb => by obtain ⟨a, ha, _⟩ := hb; cases ha)⟩
end Go.Proofs.YtmmejgneelkhkaaDoor
