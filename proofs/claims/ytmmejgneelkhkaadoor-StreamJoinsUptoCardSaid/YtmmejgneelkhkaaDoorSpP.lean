/- told and stands. -/
import Derived.Test.YtmmejgneelkhkaaDoorSpO
set_option linter.all false
namespace Go.Proofs.YtmmejgneelkhkaaDoor
open Go Go.Cu Go.RowKit
set_option linter.unusedVariables false
set_option maxHeartbeats 2000000
set_option maxRecDepth 100000
abbrev wldV (pe : Option Addr) (made : Bool) (c : CodeT) (fr into sr ds : Sl) : List Value :=
  [.pointer pe, .bool made, .int .i64 c.1, .int .i64 c.2.1, .int .i64 c.2.2.1, .pointer c.2.2.2.1, .int .i64 c.2.2.2.2.1, .int .i64 c.2.2.2.2.2.1, .int .i64 c.2.2.2.2.2.2.1, .int .i64 c.2.2.2.2.2.2.2.1, .int .i64 c.2.2.2.2.2.2.2.2.1, .int .i64 c.2.2.2.2.2.2.2.2.2.1, slv c.2.2.2.2.2.2.2.2.2.2.1, slv c.2.2.2.2.2.2.2.2.2.2.2.1, slv c.2.2.2.2.2.2.2.2.2.2.2.2.1,
    slv fr, slv into, slv sr, slv ds]
abbrev wldAts : List At := [.ptr, .bool, .int .i64, .int .i64, .int .i64, .ptr, .int .i64, .int .i64, .int .i64, .int .i64, .int .i64, .int .i64, .sl, .sl, .sl, .sl, .sl, .sl, .sl]
abbrev WldT : Type := (Option Addr) × Bool × Int × Int × Int × (Option Addr) × Int × Int × Int × Int × Int × Int × Sl × Sl × Sl × Sl × Sl × Sl × Sl × Unit
abbrev mkW (pe : Option Addr) (made : Bool) (c : CodeT) (fr into sr ds : Sl) : WldT :=
  (pe, made, c.1, c.2.1, c.2.2.1, c.2.2.2.1, c.2.2.2.2.1, c.2.2.2.2.2.1, c.2.2.2.2.2.2.1, c.2.2.2.2.2.2.2.1, c.2.2.2.2.2.2.2.2.1, c.2.2.2.2.2.2.2.2.2.1, c.2.2.2.2.2.2.2.2.2.2.1, c.2.2.2.2.2.2.2.2.2.2.2.1, c.2.2.2.2.2.2.2.2.2.2.2.2.1, fr, into, sr, ds, ())
theorem ptrs_get {n i : Nat} {pres : Nat → Bool} {gd : Nat → Nat} (hi : i < n) : (ptrs n pres gd)[i]? = some (if pres i then some (gd i) else none) := by
  unfold ptrs
  rw [List.getElem?_map, List.getElem?_range hi]; rfl
theorem assert_no (n : Int) (w : World) : (Instr.typeAssert (.iface 74 (.int .i64 n)) 50 74 true).run Tryd.prog w = .ok (.tuple #[.int .i64 n, .bool true]) w := by kernel_rfl
theorem told_gv {W0 w : World} {T : Ths} {pe : Option Addr} {made : Bool} {c : CodeT} {fr into sr ds : Sl} {ns n : Nat} {presS pres : Nat → Bool} {gs gd : Nat → Nat} {bs bd : Nat → Addr} (hS : Sep W0 w T) (hfr : T (.bx 0) = Rdo ptrV fr (ptrs ns presS gs)) (hin : T (.bx 2) = Rdo ptrV into (ptrs n pres gd)) (r : Res)
    (hsrc : ∀ i, r = .src i → i < ns ∧ presS i = true ∧ ∃ d c s, T (.ps i) = PSrc (gs i) (bs i) d c s ∧ 0 ≤ s.failAt) (hsnk : ∀ i, r = .snk i → i < n ∧ pres i = true ∧ ∃ s, T (.pk i) = PSnk (gd i) (bd i) s ∧ 0 ≤ s.failAt) :
    Gv Tryd.prog 11 #[.agg (wldV pe made c fr into sr ds).toArray, resV bs bd r, .agg #[.int .i64 (resN r).1, .int .i64 (resN r).2]] (.bool true) w := by
  refine culletlaw24_World_told.run _ (mkW pe made c fr into sr ds) (resV bs bd r) ((resN r).1, (resN r).2, ()) w ?_
  unfold culletlaw24_World_told.M
  refine Wr_box fun w1 hB1 hx1 => ?_
  have hB1' : Has w1 w.heap.size (wldV pe made c fr into sr ds) 44 := hB1
  refine Wr_box fun w2 hB2 hx2 => ?_
  have hB2' : Has w2 w1.heap.size [.int .i64 (resN r).1, .int .i64 (resN r).2] 54 := hB2
  have hx := hx1.trans hx2
  have hS2 := hS.exx hx
  have hBw := hB1'.ex hx2
  refine Rd_has (c := .int .i64) (x := (resN r).1) hB2' (by kernel_rfl) rfl ?_
  cases r with
  | done =>
    refine Cd_eq (fun _ => ?_) (fun h => absurd rfl h)
    exact Pu_eq0 (b := true) (.inl ⟨rfl, rfl⟩) ⟨rfl, hx⟩
  | no e =>
    refine Cd_eq (fun h => absurd h (by simp [resN])) (fun _ => Cd_eq (fun _ => ?_) (fun h => absurd rfl h))
    refine ⟨(e, true, ()), fun w' => assert_no e w', ?_⟩
    refine Cd_t (Rd_has (c := .int .i64) (x := e) hB2' (by kernel_rfl) rfl ⟨?_, hx⟩)
    simp
  | src i =>
    obtain ⟨hi, hp, d, c', s, hT, hfa⟩ := hsrc i rfl
    refine Cd_eq (fun h => absurd h (by simp [resN])) (fun _ => Cd_eq (fun h => absurd h (by simp [resN])) (fun _ => Cd_eq (fun _ => ?_) (fun h => absurd rfl h)))
    refine Pu_ne (b := true) (.inr ⟨⟨_, _, rfl⟩, rfl⟩) (Cd_t ?_)
    refine Rd_has (c := .sl) (x := fr) hBw (by kernel_rfl) rfl ?_
    refine Rd_has (c := .int .i64) (x := (i : Int)) hB2' (by kernel_rfl) rfl ?_
    refine Pu_idx (hS2.rds hfr) (e := 52) (by kernel_rfl) (by kernel_rfl) (by omega) (by rw [ptrs_len]; omega) fun a x hx' hc _ => ?_
    rw [Int.toNat_natCast, ptrs_get hi, hp, if_pos rfl] at hx'
    obtain rfl := (Option.some.inj hx').symm
    refine Rd_one (c := .ptr) (x := at0 (gs i)) (by kernel_rfl) hc ?_
    refine Cl_gv (d := .one (.at .any)) (x := brV (bs i)) (failure_gv hS2 hT hfa) fun w3 hx3 => ?_
    refine Calls.mono (is_broken (bs i) w3) ?_
    rintro e w4 ⟨he, rfl⟩
    exact ⟨true, he, rfl, hx.trans hx3⟩
  | snk i =>
    obtain ⟨hi, hp, s, hT, hfa⟩ := hsnk i rfl
    refine Cd_eq (fun h => absurd h (by simp [resN])) (fun _ => Cd_eq (fun h => absurd h (by simp [resN])) (fun _ => Cd_eq (fun h => absurd h (by simp [resN])) (fun _ => ?_)))
    refine Pu_ne (b := true) (.inr ⟨⟨_, _, rfl⟩, rfl⟩) (Cd_t ?_)
    refine Rd_has (c := .sl) (x := into) hBw (by kernel_rfl) rfl ?_
    refine Rd_has (c := .int .i64) (x := (i : Int)) hB2' (by kernel_rfl) rfl ?_
    refine Pu_idx (hS2.rds hin) (e := 64) (by kernel_rfl) (by kernel_rfl) (by omega) (by rw [ptrs_len]; omega) fun a x hx' hc _ => ?_
    rw [Int.toNat_natCast, ptrs_get hi, hp, if_pos rfl] at hx'
    obtain rfl := (Option.some.inj hx').symm
    refine Rd_one (c := .ptr) (x := at0 (gd i)) (by kernel_rfl) hc ?_
    refine Cl_gv (d := .one (.at .any)) (x := brV (bd i)) (sfailure_gv hS2 hT hfa) fun w3 hx3 => ?_
    refine Calls.mono (is_broken (bd i) w3) ?_
    rintro e w4 ⟨he, rfl⟩
    exact ⟨true, he, rfl, hx.trans hx3⟩
/-- the joint state of a job's sources and sinks -/
structure Joint (T : Ths) (fr into sr ds : Sl) (ns n : Nat) (presS pres : Nat → Bool) (gs gr gd gk : Nat → Nat) (bs bd : Nat → Addr) (dP cP dR cR : Nat → Sl) (sst : Nat → Src) (stt : Nat → Snk) : Prop where
  fr : T (.bx 0) = Rdo ptrV fr (ptrs ns presS gs)
  sr : T (.bx 1) = Rdo ptrV sr (ptrs ns presS gr)
  into : T (.bx 2) = Rdo ptrV into (ptrs n pres gd)
  ds : T (.bx 3) = Rdo ptrV ds (ptrs n pres gk)
  ps : ∀ i, i < ns → presS i = true → T (.ps i) = PSrc (gs i) (bs i) (dP i) (cP i) (sst i)
  rs : ∀ i, i < ns → presS i = true → T (.rs i) = RSrc (gr i) (dR i) (cR i) (sst i)
  pk : ∀ i, i < n → pres i = true → T (.pk i) = PSnk (gd i) (bd i) (stt i)
  rk : ∀ i, i < n → pres i = true → T (.rk i) = RSnk (gk i) (stt i)
theorem stands_gv {W0 w : World} {T : Ths} {pe : Option Addr} {made : Bool} {c : CodeT} {fr into sr ds : Sl} {ns n : Nat} {presS pres : Nat → Bool} {gs gr gd gk : Nat → Nat} {bs bd : Nat → Addr} {dP cP dR cR : Nat → Sl} {sst : Nat → Src} {stt : Nat → Snk} (hS : Sep W0 w T)
    (hJ : Joint T fr into sr ds ns n presS pres gs gr gd gk bs bd dP cP dR cR sst stt) (hns : ns ≤ 140737488355328) (hn : n ≤ 140737488355328) (hsz : ∀ i, i < n → (stt i).got.length ≤ 140737488355328) :
    Gv Tryd.prog 12 #[.agg (wldV pe made c fr into sr ds).toArray] (.bool true) w := by
  refine culletlaw24_World_stands.run _ (mkW pe made c fr into sr ds) w ?_
  unfold culletlaw24_World_stands.M
  refine Wr_box fun w1 hB1 hx1 => ?_
  have hB1' : Has w1 w.heap.size (wldV pe made c fr into sr ds) 44 := hB1
  generalize w.heap.size = gw at hB1' ⊢
  refine Rd_has (c := .sl) (x := sr) hB1' (by kernel_rfl) rfl ?_
  have hsl : sr.len = ns := by have := (hS.rds hJ.sr).1; rw [ptrs_len] at this; exact this
  have hdl : ds.len = n := by have := (hS.rds hJ.ds).1; rw [ptrs_len] at this; exact this
  unfold culletlaw24_World_stands.l1
  refine loopW_of (fun st w' => ∃ i : Nat, st = ((⟨gw, 0, none⟩ : Addr), sr, ((sr.len : Nat) : Int), (i : Int), ()) ∧ i ≤ ns ∧ Ex w1 w') (fun st _ => ((ns : Int) - st.2.2.2.1).toNat) ?_ ⟨0, rfl, Nat.zero_le _, Ex.refl _⟩
  rintro k1 _ w2 ⟨i, rfl, hi, hx2⟩ hk1
  have hx02 := hx1.trans hx2
  have hS2 := hS.exx hx02
  unfold culletlaw24_World_stands.b1
  dsimp only at hk1 ⊢
  refine Cd_dec (fun hlt => ?_) (fun hge => ?_)
  · have hlt : i < ns := by omega
    refine Pu_idx (hS2.rds hJ.sr) (e := 56) (by kernel_rfl) (by kernel_rfl) (by omega) (by rw [ptrs_len]; omega) fun a x hx' hc _ => ?_
    rw [Int.toNat_natCast, ptrs_get hlt] at hx'
    obtain rfl := (Option.some.inj hx').symm
    rw [ptrV_eq] at hc
    refine Rd_one (c := .ptr) (x := (if presS i then some (gr i) else none).map fun g => ⟨g, 0, none⟩) (by kernel_rfl) hc ?_
    have nxt : ∀ w3, Ex w1 w3 → culletlaw24_World_stands.j1 (fun e w' => e = Ending.returned (.bool true) ∧ Ex w w') k1 ⟨gw, 0, none⟩ sr ((sr.len : Nat) : Int) (i : Int) false w3 := by
      intro w3 hx3
      unfold culletlaw24_World_stands.j1
      rw [wrap64 (by omega) (by omega), show (i : Int) + 1 = ((i + 1 : Nat) : Int) by omega]
      exact Cd_f (hk1 _ _ ⟨i + 1, rfl, by omega, hx3⟩ (by dsimp only; omega))
    have hxd := Ex.drew w2
    refine Held_ex ?_
    cases hp : presS i with
    | false =>
      refine Pu_nenil tRS (Cd_f (nxt _ (hx2.trans hxd)))
    | true =>
      refine Pu_nenil tRS (Cd_t ?_)
      have hBd := hB1'.ex (hx2.trans hxd)
      have hSd := hS2.exx hxd
      refine RdS_has (c := .sl) (x := fr) (fun w' h => hBd.ex h) (by kernel_rfl) rfl ?_
      refine Pu_idx (hSd.rds hJ.fr) (e := 52) (by kernel_rfl) (by kernel_rfl) (by omega) (by rw [ptrs_len]; omega) fun a2 x2 hx2' hc2 _ => ?_
      rw [Int.toNat_natCast, ptrs_get hlt, hp, if_pos rfl] at hx2'
      obtain rfl := (Option.some.inj hx2').symm
      refine RdS_one (c := .ptr) (x := at0 (gs i)) (by kernel_rfl) (fun w' h => h.cell hc2) (Pu_nil ?_)
      have hR := hSd.has (hJ.rs i hlt hp)
      refine RdS_has (c := .int .i64) (x := ((sst i).pos : Int)) (fun w' h => hR.ex h) (by kernel_rfl) rfl ?_
      refine Cl_gv (d := .one (.at (.int .i64))) (x := ((sst i).pos : Int)) (taken_gv hSd (hJ.ps i hlt hp)) fun w3 hx3 => ⟨hx3, ?_⟩
      have : (((sst i).pos : Int) != ((sst i).pos : Int)) = false := by simp
      rw [this]
      exact nxt _ ((hx2.trans hxd).trans hx3)
  · refine Rd_has (c := .sl) (x := ds) (hB1'.ex hx2) (by kernel_rfl) rfl ?_
    unfold culletlaw24_World_stands.l2
    refine loopW_of (fun st w' => ∃ i : Nat, st = ((⟨gw, 0, none⟩ : Addr), ds, ((ds.len : Nat) : Int), (i : Int), ()) ∧ i ≤ n ∧ Ex w1 w') (fun st _ => ((n : Int) - st.2.2.2.1).toNat) ?_ ⟨0, rfl, Nat.zero_le _, hx2⟩
    rintro k2 _ w4 ⟨i, rfl, hi, hx4⟩ hk2
    have hS4 := hS.exx (hx1.trans hx4)
    unfold culletlaw24_World_stands.b2
    dsimp only at hk2 ⊢
    refine Cd_dec (fun hlt => ?_) (fun hge => ⟨rfl, hx1.trans hx4⟩)
    have hlt : i < n := by omega
    refine Pu_idx (hS4.rds hJ.ds) (e := 66) (by kernel_rfl) (by kernel_rfl) (by omega) (by rw [ptrs_len]; omega) fun a x hx' hc _ => ?_
    rw [Int.toNat_natCast, ptrs_get hlt] at hx'
    obtain rfl := (Option.some.inj hx').symm
    rw [ptrV_eq] at hc
    refine Rd_one (c := .ptr) (x := (if pres i then some (gk i) else none).map fun g => ⟨g, 0, none⟩) (by kernel_rfl) hc ?_
    have nxt : ∀ w3, Ex w1 w3 → culletlaw24_World_stands.j2 (fun e w' => e = Ending.returned (.bool true) ∧ Ex w w') k2 ⟨gw, 0, none⟩ ds ((ds.len : Nat) : Int) (i : Int) false w3 := by
      intro w3 hx3
      unfold culletlaw24_World_stands.j2
      rw [wrap64 (by omega) (by omega), show (i : Int) + 1 = ((i + 1 : Nat) : Int) by omega]
      exact Cd_f (hk2 _ _ ⟨i + 1, rfl, by omega, hx3⟩ (by dsimp only; omega))
    have hxd := Ex.drew w4
    refine Held_ex ?_
    cases hp : pres i with
    | false =>
      refine Pu_nenil tRK (Cd_f (nxt _ (hx4.trans hxd)))
    | true =>
      refine Pu_nenil tRK (Cd_t ?_)
      have hBd := hB1'.ex (hx4.trans hxd)
      have hSd := hS4.exx hxd
      refine RdS_has (c := .sl) (x := into) (fun w' h => hBd.ex h) (by kernel_rfl) rfl ?_
      refine Pu_idx (hSd.rds hJ.into) (e := 64) (by kernel_rfl) (by kernel_rfl) (by omega) (by rw [ptrs_len]; omega) fun a2 x2 hx2' hc2 _ => ?_
      rw [Int.toNat_natCast, ptrs_get hlt, hp, if_pos rfl] at hx2'
      obtain rfl := (Option.some.inj hx2').symm
      refine RdS_one (c := .ptr) (x := at0 (gd i)) (by kernel_rfl) (fun w' h => h.cell hc2) (Pu_nil ?_)
      obtain ⟨d, hR, ho, _⟩ := grow_get hSd (hJ.rk i hlt hp)
      refine RdS_has (c := .sl) (x := d) (fun w' h => hR.ex h) (by kernel_rfl) rfl ?_
      refine Cl_sl (bytes_sl hSd (hJ.pk i hlt hp) (hsz i hlt)) fun s5 w5 ho5 hx5 => ⟨hx5, ?_⟩
      have hle := hsz i hlt
      refine Cl_gv (d := .one (.at .bool)) (equal_gv s5 d _ _ w5 ho5.rds (ho.rds.ex hx5) (by omega) (by omega)) fun w6 hx6 => ⟨hx5.trans hx6, ?_⟩
      rw [decide_eq_true rfl]
      exact nxt _ (((hx4.trans hxd).trans hx5).trans hx6)
end Go.Proofs.YtmmejgneelkhkaaDoor
