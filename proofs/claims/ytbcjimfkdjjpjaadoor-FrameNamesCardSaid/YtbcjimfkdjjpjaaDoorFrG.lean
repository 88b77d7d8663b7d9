/- The walks of ReadHead, and of the document's. -/
import Derived.Test.YtbcjimfkdjjpjaaDoorFrF
namespace Go.Proofs.YtbcjimfkdjjpjaaDoor
open Go Go.Cu
set_option linter.unusedVariables false
/-- a part of a list -/
def cut (l : List Int) (a b : Nat) : List Int := (l.take b).drop a
def zeroHd : Hd := (0, 0, 0, 0, 0, 0, 0, 0, ())
def hdOf (l : List Int) : Hd :=
  (IntKind.wrap .i64 (l.getD 5 0), IntKind.wrap .i64 (numF (cut l 6 8)), IntKind.wrap .i64 (numF (cut l 8 10)), IntKind.wrap .i64 (numF (cut l 10 12)), IntKind.wrap .i64 (numF (cut l 16 24)), IntKind.wrap .i64 (numF (cut l 24 32)),
    IntKind.wrap .i64 (numF (cut l 12 16)), numF (cut l 32 40), ())
def readHeadF (l : List Int) : Hd × Int :=
  if (l.length : Int) < 48 then (zeroHd, 252)
  else if cut l 0 5 ≠ [67, 85, 76, 76, 1] then (zeroHd, 250)
  else if numF (cut l 44 48) ≠ IntKind.wrap .u64 (foldF 0 (cut l 0 44)) then (zeroHd, 253)
  else if numF (cut l 40 44) ≠ 0 ∨ 4611686018427387904 < numF (cut l 16 24) ∨ 4611686018427387904 < numF (cut l 24 32) ∨ checkF (hdOf l) ≠ 0 then (zeroHd, 251)
  else (hdOf l, 0)
theorem wrap_u64 (x : Int) : 0 ≤ IntKind.wrap .u64 x ∧ IntKind.wrap .u64 x < 18446744073709551616 := by
  unfold IntKind.wrap
  simp [IntKind.bits, IntKind.signed]
  omega
theorem numF_range : ∀ l : List Int, 0 ≤ numF l ∧ numF l < 18446744073709551616
  | [] => by decide
  | x :: r => wrap_u64 _
theorem readHead_bound (l : List Int) (h : (readHeadF l).2 = 0) : readHeadF l = (hdOf l, 0) ∧ checkF (hdOf l) = 0 ∧ 48 ≤ l.length := by
  unfold readHeadF at *
  (repeat' split at h) <;> first | (simp at h; done) | skip
  rename_i h1 h2 h3 h4
  rw [if_neg h1, if_neg h2, if_neg h3, if_neg h4]
  exact ⟨rfl, by omega, by omega⟩
/-- the program looks at the sizes more closely: what it refuses is no head all the same -/
theorem too_great {l : List Int} (h : 1099511627776 < numF (cut l 16 24) ∨ 1099511627776 < numF (cut l 24 32)) :
    4611686018427387904 < numF (cut l 16 24) ∨ 4611686018427387904 < numF (cut l 24 32) ∨ checkF (hdOf l) ≠ 0 := by
  by_cases h1 : 4611686018427387904 < numF (cut l 16 24)
  · exact .inl h1
  by_cases h2 : 4611686018427387904 < numF (cut l 24 32)
  · exact .inr (.inl h2)
  refine .inr (.inr fun hc => ?_)
  have hg := check_good hc
  have r1 := numF_range (cut l 16 24)
  have r2 := numF_range (cut l 24 32)
  have e1 : (hdOf l).size = numF (cut l 16 24) := wrap64 (by omega) (by omega)
  have e2 : (hdOf l).length = numF (cut l 24 32) := wrap64 (by omega) (by omega)
  have := hg.size2
  have := hg.len2
  omega
abbrev hdSh : List Cx := [.agg hAts, .at (.int .i64)]
/-- a head, and a number -/
def GivesHd (P : Program) (f : FuncId) (args : Array Value) (h : Hd) (n : Int) (w : World) : Prop :=
  Calls P f args w fun en w' => en = .returned (.tuple #[hdV h, .int .i64 n]) ∧ Ex w w'
theorem Cl_hd {f : FuncId} {args : Array Value} {h : Hd} {n : Int} {k : (Hd × Int × Unit) → World → Prop} {w : World} (hc : GivesHd Tryd.prog f args h n w) (hk : ∀ w', Ex w w' → k (h, n, ()) w') :
    Cl Tryd.prog f args (.tup [.agg hAts, .at (.int .i64)]) k w :=
  Calls.mono hc fun _ w' ⟨he, hx⟩ => ⟨(h, n, ()), he, hk w' hx⟩
/-- the result's own place: written, and read for the answer -/
theorem finHd {T : TypeId} {B : Nat} {cs : List Value} {w0 w : World} {h : Hd} {n : Int} {R : Ending → World → Prop} (hB : Has w B cs T) (hlen : cs.length = 8) (hs : sizeIs Tryd.prog T 8 = true) (ha : isAggN Tryd.prog T 8 = true) (hx : Ex w0 w) (hBl : w0.heap.size ≤ B)
    (hR : ∀ w', Ex w0 w' → R (.returned (.tuple #[hdV h, .int .i64 n])) w') :
    Wu Tryd.prog (Instr.storeAt T (.pointer (some ⟨B, 0, none⟩)) (hdV h)) (fun w1 => ∃ r : Hd, (loadVar T ⟨B, 0, none⟩).run Tryd.prog w1 = .ok (hdV r) w1 ∧ R (.returned (.tuple #[hdV r, .int .i64 n])) w1) w := by
  refine Wu_store hB hs (by simp [Value.cells, Value.oneCell']) (by rw [hlen]; exact Nat.le_refl 8) fun w1 hB1 hm => ⟨h, ?_, hR _ (hx.into hm (fun i hi => by rw [hi]; exact hBl))⟩
  have hB1' : Has w1 B (encAts hAts h) T := by
    have : List.drop (0 + (hdV h).cells.size) cs = [] := List.drop_of_length_le (by rw [hlen]; exact Nat.le_refl 8)
    rw [this, List.append_nil] at hB1
    exact hB1
  exact run_load_agg (cs := encAts hAts h) ha (has_part (l := hAts) (x := h) (i := 0) hB1' rfl)
section
variable {file : Sl} {l : List Int} {w0 : World} (hr : Rds b8 w0 file l) (hl : l.length ≤ 140737488355328)
include hr
theorem cut_slice {a b : Nat} (h1 : a ≤ b) (h2 : b ≤ l.length) {lo hi : Option Value} (hlo : (lo = none ∧ a = 0) ∨ ∃ k, lo = some (.int k a)) (hhi : ∃ k, hi = some (.int k b)) {v : World} {k : Sl → World → Prop} (hv : Ex w0 v)
    (hk : ∀ s', (∀ w', Rds b8 w' file l → Rds b8 w' s' (cut l a b)) → k s' v) : Pu Tryd.prog (Instr.sliceAt 27 (.slice file.base file.len file.cap) lo hi none) (.one (.at .sl)) k v :=
  Pu_slice a b (hr.ex hv) tB sB hlo (.inr hhi) h1 h2 fun s' h _ _ _ => hk s' h
end

theorem headOf_hd (file : Sl) (l : List Int) (w : World) (hr : Rds b8 w file l) (hrange : ∀ x ∈ l, 0 ≤ x ∧ x < 256) (hl : l.length ≤ 140737488355328) (ht : Tab w) :
    GivesHd Tryd.prog 41 #[.slice file.base file.len file.cap] (readHeadF l).1 (readHeadF l).2 w := by
  refine frame_headOf.run _ file w ?_
  unfold frame_headOf.M
  refine Wr_alloc (z := hdV zeroHd) (by kernel_rfl) fun w2 hB2 hx2 => ?_
  have hsT : sizeIs Tryd.prog 38 8 = true := by kernel_rfl
  have haT : isAggN Tryd.prog 38 8 = true := by kernel_rfl
  have bad : ∀ (n : Int) (v : World), readHeadF l = (zeroHd, n) → Ex w2 v → Wu Tryd.prog (Instr.storeAt 38 (.pointer (some ⟨w.heap.size, 0, none⟩)) (hdV zeroHd)) (fun w1 => ∃ r : Hd, (loadVar 38 ⟨w.heap.size, 0, none⟩).run Tryd.prog w1 = .ok (hdV r) w1 ∧
      (fun en w' => en = Ending.returned (.tuple #[hdV (readHeadF l).1, .int .i64 (readHeadF l).2]) ∧ Ex w w') (.returned (.tuple #[hdV r, .int .i64 n])) w1) v := by
    intro n v he hv
    refine finHd (R := fun en w' => en = Ending.returned (.tuple #[hdV (readHeadF l).1, .int .i64 (readHeadF l).2]) ∧ Ex w w') (n := n) (w0 := w) (h := zeroHd) (hB2.ex hv) rfl hsT haT (hx2.trans hv) (Nat.le_refl _) fun w' hx' => ⟨by rw [he], hx'⟩
  rw [hr.1]
  refine Cd_dec (fun h => bad 252 _ (by unfold readHeadF; rw [if_pos h]) (Ex.refl _)) (fun h48 => ?_)
  refine cut_slice (hr.ex hx2) (a := 0) (b := 5) (by omega) (by omega) (.inl ⟨rfl, rfl⟩) ⟨_, rfl⟩ (Ex.refl _) fun s5 hs5 => ?_
  have hr2 := hr.ex hx2
  refine Rd_string tB (by kernel_rfl) (by kernel_rfl) (hs5 _ hr2) ?_
  have hmagic : sEq ⟨((cut l 0 5).map fun n => UInt8.ofNat n.toNat).toArray⟩ ⟨#[67, 85, 76, 76, 1]⟩ = decide (cut l 0 5 = [67, 85, 76, 76, 1]) := by
    have : (⟨#[67, 85, 76, 76, 1]⟩ : ByteArray) = ⟨(([67, 85, 76, 76, 1] : List Int).map fun n => UInt8.ofNat n.toNat).toArray⟩ := by rfl
    rw [this, sEq_iff]
    rw [Bool.eq_iff_iff, decide_eq_true_iff, decide_eq_true_iff]
    constructor
    · intro he
      refine map_byte_inj (fun x hx => hrange x ?_) (by decide) he
      exact List.mem_of_mem_take (List.mem_of_mem_drop hx)
    · intro he; rw [he]
  rw [hmagic]
  refine Cd_not (fun h => bad 250 _ (by unfold readHeadF; rw [if_neg h48, if_pos (of_decide_eq_false h)]) (Ex.refl _)) (fun h5 => ?_)
  have h5 := of_decide_eq_true h5
  refine Held_ex ?_
  have hx3 : Ex w w2.drew := hx2.trans (Ex.drew w2)
  refine cut_slice (hr.ex hx3) (a := 44) (b := 48) (by omega) (by omega) (.inr ⟨_, rfl⟩) ⟨_, rfl⟩ (Ex.refl _) fun sa hsa => ?_
  refine cut_slice (hr.ex hx3) (a := 0) (b := 44) (by omega) (by omega) (.inl ⟨rfl, rfl⟩) ⟨_, rfl⟩ (Ex.refl _) fun sb hsb => ?_
  refine Cl_gv (get_gv _ _ _ (hsa _ (hr.ex hx3)) (by unfold cut; simp; omega)) fun w4 hx4 => ⟨hx4, ?_⟩
  refine Cl_gv (sum_gv _ _ _ (hsb _ (hr.ex (hx3.trans hx4))) (ht.ex (hx3.trans hx4)) (by unfold cut; simp; omega)) fun w5 hx5 => ⟨hx4.trans hx5, ?_⟩
  have hx25 : Ex w2 w5 := ((Ex.drew w2).trans hx4).trans hx5
  have hx6 : Ex w w5 := (hx3.trans hx4).trans hx5
  unfold frame_headOf.j1
  refine Cd_ne (fun h => bad 253 _ (by unfold readHeadF; rw [if_neg h48, if_neg (fun hn => hn h5), if_pos h]) hx25) (fun h6 => ?_)
  refine Held_ex ?_
  have hx7 : Ex w w5.drew := hx6.trans (Ex.drew w5)
  refine cut_slice (hr.ex hx7) (a := 16) (b := 24) (by omega) (by omega) (.inr ⟨_, rfl⟩) ⟨_, rfl⟩ (Ex.refl _) fun sc hsc => ?_
  refine cut_slice (hr.ex hx7) (a := 24) (b := 32) (by omega) (by omega) (.inr ⟨_, rfl⟩) ⟨_, rfl⟩ (Ex.refl _) fun sd hsd => ?_
  refine Cl_gv (get_gv _ _ _ (hsc _ (hr.ex hx7)) (by unfold cut; simp; omega)) fun w8 hx8 => ⟨hx8, ?_⟩
  refine Cl_gv (get_gv _ _ _ (hsd _ (hr.ex (hx7.trans hx8))) (by unfold cut; simp; omega)) fun w9 hx9 => ⟨hx8.trans hx9, ?_⟩
  have hx29 : Ex w2 w9 := ((hx25.trans (Ex.drew w5)).trans hx8).trans hx9
  unfold frame_headOf.j2
  have hxw9 := hx2.trans hx29
  refine cut_slice (hr.ex hxw9) (a := 40) (b := 44) (by omega) (by omega) (.inr ⟨_, rfl⟩) ⟨_, rfl⟩ (Ex.refl _) fun se hse => ?_
  refine Cl_gv (get_gv _ _ _ (hse _ (hr.ex hxw9)) (by unfold cut; simp; omega)) fun w10 hx10 => ?_
  have hx210 := hx29.trans hx10
  have hxw10 := hx2.trans hx210
  have j3f : ∀ b : Bool, (b = true → readHeadF l = (zeroHd, 251)) → (b = false → numF (cut l 40 44) = 0 ∧ numF (cut l 16 24) ≤ 1099511627776 ∧ numF (cut l 24 32) ≤ 1099511627776) →
      frame_headOf.j3 (fun en w' => en = Ending.returned (.tuple #[hdV (readHeadF l).1, .int .i64 (readHeadF l).2]) ∧ Ex w w') file ⟨w.heap.size, 0, none⟩ (numF (cut l 16 24)) (numF (cut l 24 32)) b w10 := by
    intro b hb1 hb2
    unfold frame_headOf.j3
    refine Cd_of (fun hb => bad 251 _ (hb1 hb) hx210) (fun hb => ?_)
    obtain ⟨g1, g2, g3⟩ := hb2 hb
    refine Held_ex ?_
    have hr0 := hr.ex (hxw10.trans (Ex.drew w10))
    have h20 : Ex w2 w10.drew := hx210.trans (Ex.drew w10)
    refine Pu_idx hr0 tB sB (by omega) (by omega) fun a x hx hc hbl => ?_
    refine RdS_one (c := .int .u8) (x := x) oB (fun w' hS => hS.cell hc) ?_
    have hx5 : l.getD 5 0 = x := by rw [List.getD_eq_getElem?_getD]; have : l[5]? = some x := hx; rw [this]; rfl
    refine cut_slice hr0 (a := 6) (b := 8) (by omega) (by omega) (.inr ⟨_, rfl⟩) ⟨_, rfl⟩ (Ex.refl _) fun s0 hs0 => ?_
    refine cut_slice hr0 (a := 8) (b := 10) (by omega) (by omega) (.inr ⟨_, rfl⟩) ⟨_, rfl⟩ (Ex.refl _) fun s1 hs1 => ?_
    refine cut_slice hr0 (a := 10) (b := 12) (by omega) (by omega) (.inr ⟨_, rfl⟩) ⟨_, rfl⟩ (Ex.refl _) fun s2 hs2 => ?_
    refine cut_slice hr0 (a := 12) (b := 16) (by omega) (by omega) (.inr ⟨_, rfl⟩) ⟨_, rfl⟩ (Ex.refl _) fun s3 hs3 => ?_
    refine cut_slice hr0 (a := 32) (b := 40) (by omega) (by omega) (.inr ⟨_, rfl⟩) ⟨_, rfl⟩ (Ex.refl _) fun s4 hs4 => ?_
    have numS : ∀ {v : World} {K : Int → World → Prop} {m : List Int} (s : Sl) (hs : ∀ w', Rds b8 w' file l → Rds b8 w' s m) (hm : m.length ≤ l.length) (hv : Ex w10.drew v) (hK : ∀ v', Ex w10.drew v' → Ex v v' → K (numF m) v'),
        Cl Tryd.prog 42 #[.slice s.base s.len s.cap] (.one (.at (.int .u64))) K v := fun s hs hm hv hK =>
      Cl_gv (get_gv _ _ _ (hs _ (hr0.ex hv)) (by omega)) fun v' hx' => hK v' (hv.trans hx') hx'
    have allocS : ∀ {v : World} {K : Addr → World → Prop} (hv : Ex w10.drew v) (hK : ∀ B v', Ex w10.drew v' → w10.drew.heap.size ≤ B → Has v' B (hdV zeroHd).cells.toList 38 → K ⟨B, 0, none⟩ v'),
        Wr Tryd.prog (Instr.alloc 38 true (.tuple #[])) (.one (.at .addr)) K v := fun hv hK => Wr_alloc (z := hdV zeroHd) (by kernel_rfl) fun v' hB hx' => hK _ v' (hv.trans hx') hv.size hB
    have fin : ∀ (B : Nat) (v : World) (hv : Ex w10.drew v) (hBl : w10.drew.heap.size ≤ B) (hB : Has v B (hdV zeroHd).cells.toList 38),
        Wu Tryd.prog (Instr.storeAt 38 (.pointer (some ⟨B, 0, none⟩)) (hdV (IntKind.wrap .i64 x, IntKind.wrap .i64 (numF (cut l 6 8)), IntKind.wrap .i64 (numF (cut l 8 10)), IntKind.wrap .i64 (numF (cut l 10 12)), IntKind.wrap .i64 (numF (cut l 16 24)), IntKind.wrap .i64 (numF (cut l 24 32)),
          IntKind.wrap .i64 (numF (cut l 12 16)), numF (cut l 32 40), ()))) (fun w1 => Ex w10.drew w1 ∧ frame_headOf.j4 (fun en w' => en = Ending.returned (.tuple #[hdV (readHeadF l).1, .int .i64 (readHeadF l).2]) ∧ Ex w w') ⟨w.heap.size, 0, none⟩ ⟨B, 0, none⟩ w1) v := by
      intro B v hv hBl hB
      refine Wu_store hB hsT (by simp [Value.cells, Value.oneCell']) (Nat.le_of_ble_eq_true (by kernel_rfl)) fun w11 hB11 hm11 => ?_
      have hv11 : Ex w10.drew w11 := hv.into hm11 (fun i hi => by rw [hi]; exact hBl)
      refine ⟨hv11, ?_⟩
      have h211 := h20.trans hv11
      unfold frame_headOf.j4
      have hB11 : Has w11 B (encAts hAts (hdOf l)) 38 := by
        unfold hdOf; rw [hx5]; exact hB11
      refine Rd_hasN (x := hdOf l) hB11 haT rfl ?_
      refine Cl_gives (check_gives (hdOf l)) fun w12 hx12 => ?_
      refine Cd_ne (fun hc => bad 251 _ ?_ (h211.trans hx12)) (fun hc => ?_)
      · unfold readHeadF; rw [if_neg h48, if_neg (fun hn => hn h5), if_neg (fun hn => hn h6), if_pos (.inr (.inr (.inr hc)))]
      · refine Rd_hasN (x := hdOf l) (hB11.ex hx12) haT rfl ?_
        have e : readHeadF l = (hdOf l, 0) := by
          unfold readHeadF; rw [if_neg h48, if_neg (fun hn => hn h5), if_neg (fun hn => hn h6), if_neg (by omega)]
        exact finHd (R := fun en w' => en = Ending.returned (.tuple #[hdV (readHeadF l).1, .int .i64 (readHeadF l).2]) ∧ Ex w w') (n := 0) (w0 := w) (h := hdOf l) (hB2.ex (h211.trans hx12)) rfl hsT haT (hx2.trans (h211.trans hx12)) (Nat.le_refl _) fun w' hx' => ⟨by rw [e], hx'⟩
    have hc0 : ∀ a b, (cut l a b).length ≤ l.length := fun a b => by unfold cut; simp; omega
    have hv := Ex.refl w10.drew
    refine ⟨?_, ?_⟩
    · refine numS _ hs0 (hc0 _ _) hv fun v hv' hvv => ⟨hv', ?_⟩
      have hv := hv'
      refine ⟨?_, ?_⟩
      · refine numS _ hs1 (hc0 _ _) hv fun v hv' hvv => ⟨hv', ?_⟩
        have hv := hv'
        refine ⟨?_, ?_⟩
        · refine numS _ hs2 (hc0 _ _) hv fun v hv' hvv => ⟨hv', ?_⟩
          have hv := hv'
          refine ⟨?_, ?_⟩
          · refine numS _ hs3 (hc0 _ _) hv fun v hv' hvv => ⟨hv', ?_⟩
            have hv := hv'
            refine ⟨?_, ?_⟩
            · refine numS _ hs4 (hc0 _ _) hv fun v hv' hvv => ⟨hv', ?_⟩
              have hv := hv'
              refine allocS hv fun B v hv' hBl hB => ⟨hv', ?_⟩
              have hv := hv'
              exact fin _ _ hv hBl hB
            · refine allocS hv fun B v hv' hBl hB => ⟨hv', ?_⟩
              have hv := hv'
              refine numS _ hs4 (hc0 _ _) hv fun v hv' hvv => ⟨hv', ?_⟩
              have hv := hv'
              have hB := hB.ex hvv
              exact fin _ _ hv hBl hB
          · refine allocS hv fun B v hv' hBl hB => ⟨hv', ?_⟩
            have hv := hv'
            refine numS _ hs3 (hc0 _ _) hv fun v hv' hvv => ⟨hv', ?_⟩
            have hv := hv'
            have hB := hB.ex hvv
            refine numS _ hs4 (hc0 _ _) hv fun v hv' hvv => ⟨hv', ?_⟩
            have hv := hv'
            have hB := hB.ex hvv
            exact fin _ _ hv hBl hB
        · refine allocS hv fun B v hv' hBl hB => ⟨hv', ?_⟩
          have hv := hv'
          refine numS _ hs2 (hc0 _ _) hv fun v hv' hvv => ⟨hv', ?_⟩
          have hv := hv'
          have hB := hB.ex hvv
          refine numS _ hs3 (hc0 _ _) hv fun v hv' hvv => ⟨hv', ?_⟩
          have hv := hv'
          have hB := hB.ex hvv
          refine numS _ hs4 (hc0 _ _) hv fun v hv' hvv => ⟨hv', ?_⟩
          have hv := hv'
          have hB := hB.ex hvv
          exact fin _ _ hv hBl hB
      · refine allocS hv fun B v hv' hBl hB => ⟨hv', ?_⟩
        have hv := hv'
        refine numS _ hs1 (hc0 _ _) hv fun v hv' hvv => ⟨hv', ?_⟩
        have hv := hv'
        have hB := hB.ex hvv
        refine numS _ hs2 (hc0 _ _) hv fun v hv' hvv => ⟨hv', ?_⟩
        have hv := hv'
        have hB := hB.ex hvv
        refine numS _ hs3 (hc0 _ _) hv fun v hv' hvv => ⟨hv', ?_⟩
        have hv := hv'
        have hB := hB.ex hvv
        refine numS _ hs4 (hc0 _ _) hv fun v hv' hvv => ⟨hv', ?_⟩
        have hv := hv'
        have hB := hB.ex hvv
        exact fin _ _ hv hBl hB
    · refine allocS hv fun B v hv' hBl hB => ⟨hv', ?_⟩
      have hv := hv'
      refine numS _ hs0 (hc0 _ _) hv fun v hv' hvv => ⟨hv', ?_⟩
      have hv := hv'
      have hB := hB.ex hvv
      refine numS _ hs1 (hc0 _ _) hv fun v hv' hvv => ⟨hv', ?_⟩
      have hv := hv'
      have hB := hB.ex hvv
      refine numS _ hs2 (hc0 _ _) hv fun v hv' hvv => ⟨hv', ?_⟩
      have hv := hv'
      have hB := hB.ex hvv
      refine numS _ hs3 (hc0 _ _) hv fun v hv' hvv => ⟨hv', ?_⟩
      have hv := hv'
      have hB := hB.ex hvv
      refine numS _ hs4 (hc0 _ _) hv fun v hv' hvv => ⟨hv', ?_⟩
      have hv := hv'
      have hB := hB.ex hvv
      exact fin _ _ hv hBl hB
  refine Cd_ne (fun h => j3f true (fun _ => ?_) (fun h => by cases h)) (fun h => Cd_dec (fun h2 => j3f true (fun _ => ?_) (fun h => by cases h)) (fun h2 => j3f _ (fun h3 => ?_) (fun h3 => ⟨h, by omega, by have := of_decide_eq_false h3; omega⟩)))
  · unfold readHeadF; rw [if_neg h48, if_neg (fun hn => hn h5), if_neg (fun hn => hn h6), if_pos (.inl h)]
  · unfold readHeadF; rw [if_neg h48, if_neg (fun hn => hn h5), if_neg (fun hn => hn h6), if_pos (.inr (too_great (.inl h2)))]
  · unfold readHeadF; rw [if_neg h48, if_neg (fun hn => hn h5), if_neg (fun hn => hn h6), if_pos (.inr (too_great (.inr (of_decide_eq_true h3))))]
end Go.Proofs.YtbcjimfkdjjpjaaDoor
