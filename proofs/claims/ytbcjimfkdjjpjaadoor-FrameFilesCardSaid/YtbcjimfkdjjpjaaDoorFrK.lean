/- The walks of the statement's own functions: files, plays, awake. -/
import Derived.Test.YtbcjimfkdjjpjaaDoorFrJ
import Derived.Test.YtbcjimfkdjjpjaaDoorEqLib
namespace Go.Proofs.YtbcjimfkdjjpjaaDoor
open Go Go.Cu
set_option linter.unusedVariables false
set_option maxHeartbeats 4000000
abbrev oAts : List At := [.int .i64, .int .i64, .int .i64, .int .i64, .int .i64, .int .i64, .int .i64, .int .i64, .int .u64, .sl, .int .u32]
abbrev OpT : Type := Ats oAts
abbrev opV (o : OpT) : Value := .agg (encAts oAts o).toArray
abbrev opH (o : OpT) : Hd := (o.2.1, o.2.2.1, o.2.2.2.1, o.2.2.2.2.1, o.2.2.2.2.2.1, o.2.2.2.2.2.2.1, o.2.2.2.2.2.2.2.1, o.2.2.2.2.2.2.2.2.1, ())
abbrev opB (o : OpT) : Sl := o.2.2.2.2.2.2.2.2.2.1
abbrev opS (o : OpT) : Int := o.2.2.2.2.2.2.2.2.2.2.1
theorem long_gives (h : Hd) : Gives Tryd.prog 31 #[hdV h] (.bool (decide (h.length > 1048576) && (checkF h == 0))) := by
  intro w
  refine culletlaw25_long.run _ h w ?_
  unfold culletlaw25_long.M
  refine Wr_box fun w1 hB1 hx1 => ?_
  refine Rd_has hB1 (by kernel_rfl) rfl ?_
  refine Cd_dec (fun hg => ?_) (fun hg => ?_)
  · refine Rd_hasN (x := h) hB1 (by kernel_rfl) rfl ?_
    refine Cl_gives (rcheck_gives h) fun w2 hx2 => ⟨?_, hx1.trans hx2⟩
    rw [decide_eq_true (show h.length > 1048576 from hg), Bool.true_and]
  · exact ⟨by rw [decide_eq_false (show ¬ h.length > 1048576 from hg), Bool.false_and], hx1⟩
theorem Cl_rd {f : FuncId} {args : Array Value} {r : Hd × List Int × List Int × Int} {k : (Hd × Sl × Sl × Int × Unit) → World → Prop} {w : World} (hc : GivesRd Tryd.prog f args r w)
    (hk : ∀ s b w', Own b8 5 w.heap.size w' s r.2.1 → Own i64v 3 w.heap.size w' b r.2.2.1 → Ex w w' → k (r.1, s, b, r.2.2.2, ()) w') :
    Cl Tryd.prog f args (.tup [.agg hAts, .at .sl, .at .sl, .at (.int .i64)]) k w :=
  Calls.mono hc fun _ w' ⟨s, b, he, h1, h2, hx⟩ => ⟨(r.1, s, b, r.2.2.2, ()), he, hk s b w' h1 h2 hx⟩
theorem readF_len (l : List Int) : (readF l).2.1.length ≤ 33554432 ∧ (readF l).2.2.1.length ≤ 65536 := by
  unfold readF
  split
  · simp
  · rename_i he
    have he : (readHeadF l).2 = 0 := by omega
    obtain ⟨_, hc, _⟩ := readHead_bound l he
    obtain ⟨L, B, N, hL, hB, hN, hL1, hL2, hB1, hB2', hN2, hspan⟩ := good_sizes (check_good hc)
    split
    · simp
    · simp only
      rw [hN, hL, hB]
      simp only [Int.toNat_natCast]
      have h1 := shardTo_length l L B N (by
        cases N with
        | zero => exact .inl rfl
        | succ m => exact .inr ((hspan (m + 1 - 1)).1 (by omega)))
      have h2 := badTo_length l L B N
      omega
theorem hd_fields (h : Hd) : ∀ f ∈ (Program.fieldsOf Tryd.prog 38).toList, isOne Tryd.prog f.type = true ∧ ∃ k k' v, (encAts hAts h).toArray[f.offset]? = some (.int k v) ∧ Program.underlying Tryd.prog f.type = some (.int k') := by
  have e : (Program.fieldsOf Tryd.prog 38).toList.map (fun f => (f.type, f.offset)) = [(36, 0), (3, 1), (3, 2), (3, 3), (3, 4), (3, 5), (3, 6), (24, 7)] := by kernel_rfl
  intro f hf
  have hm : (f.type, f.offset) ∈ (Program.fieldsOf Tryd.prog 38).toList.map (fun f => (f.type, f.offset)) := List.mem_map.2 ⟨f, hf, rfl⟩
  rw [e] at hm
  have ti : isOne Tryd.prog 3 = true ∧ Program.underlying Tryd.prog 3 = some (.int .i64) := ⟨by kernel_rfl, by kernel_rfl⟩
  have tf : isOne Tryd.prog 36 = true ∧ Program.underlying Tryd.prog 36 = some (.int .i64) := ⟨by kernel_rfl, by kernel_rfl⟩
  have tu : isOne Tryd.prog 24 = true ∧ Program.underlying Tryd.prog 24 = some (.int .u64) := ⟨by kernel_rfl, by kernel_rfl⟩
  generalize f.type = t at *
  generalize f.offset = o at *
  simp only [List.mem_cons, Prod.mk.injEq, List.not_mem_nil, or_false] at hm
  rcases hm with ⟨rfl, rfl⟩ | ⟨rfl, rfl⟩ | ⟨rfl, rfl⟩ | ⟨rfl, rfl⟩ | ⟨rfl, rfl⟩ | ⟨rfl, rfl⟩ | ⟨rfl, rfl⟩ | ⟨rfl, rfl⟩
  · exact ⟨tf.1, _, _, _, rfl, tf.2⟩
  · exact ⟨ti.1, _, _, _, rfl, ti.2⟩
  · exact ⟨ti.1, _, _, _, rfl, ti.2⟩
  · exact ⟨ti.1, _, _, _, rfl, ti.2⟩
  · exact ⟨ti.1, _, _, _, rfl, ti.2⟩
  · exact ⟨ti.1, _, _, _, rfl, ti.2⟩
  · exact ⟨ti.1, _, _, _, rfl, ti.2⟩
  · exact ⟨tu.1, _, _, _, rfl, tu.2⟩
theorem RdS_hd {S : World → Prop} {x y : Operand} {h : Hd} {k : Bool → World → Prop} {w : World} (hk : k true w) :
    RdS Tryd.prog S (do eqGuard .eql 38 x y (hdV h) (hdV h); binOp .eql 38 (hdV h) (hdV h)) (.one (.at .bool)) k w :=
  RdS_eq (xs := (encAts hAts h).toArray) (by kernel_rfl) (by kernel_rfl) (by kernel_rfl) (hd_fields h) hk
/-- a list of bytes as it is handed in -/
structure Bytes (l : List Int) : Prop where
  range : ∀ x ∈ l, 0 ≤ x ∧ x < 256
  len : l.length ≤ 140737488351232
theorem files_gv (o : OpT) (l : List Int) (w : World) (hr : Rds b8 w (opB o) l) (hb : Bytes l) (ht : Tab w) : Gv Tryd.prog 17 #[opV o] (.bool true) w := by
  have hlen := hb.len
  have hrange := hb.range
  have hl : l.length ≤ 140737488355328 := by omega
  refine culletlaw25_files.run _ o w ?_
  unfold culletlaw25_files.M
  refine Wr_box fun w1 hB1 hx1 => ?_
  refine Rd_has hB1 (by kernel_rfl) rfl ?_
  refine Cl_hd (rreadHead_hd (opB o) l w1 (hr.ex hx1) hrange hl) fun w2 hx2 => ?_
  refine Wr_alloc (z := hdV zeroHd) (by kernel_rfl) fun w3 hB3 hx3 => ?_
  refine Wu_hd1 (h := (readHeadF l).1) hB3 rfl (by kernel_rfl) fun w4 hB4 hm4 => ?_
  have hx14 : Ex w1 w4 := hx2.trans (hx3.into hm4 (fun i hi => by rw [hi]; exact Nat.le_refl _))
  refine Wr_lit (f := b8) (e := 5) (base := w4.heap.size) [] (by kernel_rfl) (Nat.le_refl _) (by simp) fun s5 w5 ho5 hx5 _ => ?_
  have hB15 := hB1.ex (hx14.trans hx5)
  refine Rd_has hB15 (by kernel_rfl) rfl ?_
  refine Wr_append tB iB rfl ho5 (hr.ex ((hx1.trans hx14).trans hx5)) (fun y => rfl) (by simp; omega) (by simp; omega) hx5.size fun s6 w6 ho6 hm6 _ => ?_
  rw [List.nil_append] at ho6
  have hx46 : Ex w4 w6 := hx5.into hm6 (fun i hi => (ho5.base i hi).1)
  have hx16 : Ex w1 w6 := hx14.trans hx46
  have hxw6 := hx1.trans hx16
  have hB16 := hB1.ex hx16
  have hB46 := hB4.ex hx46
  refine Rd_has hB16 (by kernel_rfl) rfl ?_
  refine Cd_eq (fun hk => ?_) (fun hk => ?_)
  · refine Cl_hd (readHead_hd s6 l w6 ho6.rds hrange hl (ht.ex hxw6)) fun w7 hx7 => ?_
    refine Wr_alloc (z := hdV zeroHd) (by kernel_rfl) fun w8 hB8 hx8 => ?_
    refine Wu_hd1 (h := (readHeadF l).1) hB8 rfl (by kernel_rfl) fun w9 hB9 hm9 => ?_
    have hx69 : Ex w6 w9 := hx7.trans (hx8.into hm9 (fun i hi => by rw [hi]; exact Nat.le_refl _))
    refine Held_ex ?_
    refine Cd_eq (fun _ => ?_) (fun hn => absurd rfl hn)
    have d9 : ∀ v, Ex w9.drew v → Ex w9 v := fun v h => (Ex.drew w9).trans h
    refine RdS_hasN (x := (readHeadF l).1) (fun v hv => hB9.ex (d9 v hv)) (by kernel_rfl) rfl ?_
    refine RdS_hasN (x := (readHeadF l).1) (fun v hv => (hB46.ex hx69).ex (d9 v hv)) (by kernel_rfl) rfl ?_
    refine Cl_gives (head_gives (readHeadF l).1) fun w10 hx10 => ⟨hx10, ?_⟩
    refine RdS_hd ?_
    refine Cd_t ?_
    refine RdS_has (fun v hv => (hB16.ex hx69).ex (d9 v hv)) (by kernel_rfl) rfl ?_
    have hx610 := hx69.trans (d9 _ hx10)
    refine Cl_gv (sameBytes_gv s6 (opB o) l l w10 (ho6.ex hx610).rds (hr.ex (hxw6.trans hx610)) (by omega)) fun w11 hx11 => ⟨hx10.trans hx11, ?_⟩
    exact ⟨by simp, (hxw6.trans hx610).trans hx11⟩
  · refine Rd_hasN (x := (readHeadF l).1) hB46 (by kernel_rfl) rfl ?_
    refine Cl_gives (long_gives (readHeadF l).1) fun w7 hx7 => ?_
    have hx67 := hx7
    refine Cd_of (fun _ => ⟨rfl, hxw6.trans hx67⟩) (fun _ => ?_)
    have hlens := readF_len l
    refine Cl_rd (read_rd s6 l w7 (ho6.ex hx67).rds hrange hl (ht.ex (hxw6.trans hx67))) fun sa ba w8 hsa hba hx8 => ?_
    refine Wr_alloc (z := hdV zeroHd) (by kernel_rfl) fun w9 hB9 hx9 => ?_
    refine Wu_hd1 (h := (readF l).1) hB9 rfl (by kernel_rfl) fun w10 hB10 hm10 => ?_
    have hx810 : Ex w8 w10 := hx9.into hm10 (fun i hi => by rw [hi]; exact Nat.le_refl _)
    have hx610 := (hx67.trans hx8).trans hx810
    have hB110 := hB16.ex hx610
    refine Rd_has hB110 (by kernel_rfl) rfl ?_
    refine Cl_rd (rread_rd (opB o) l w10 (hr.ex (hxw6.trans hx610)) hrange hl) fun sb bb w11 hsb hbb hx11 => ?_
    have hx611 := hx610.trans hx11
    refine Wu_hd1 (h := (readF l).1) (hB46.ex hx611) rfl (by kernel_rfl) fun w12 hB12 hm12 => ?_
    have hb3 : w2.heap.size < w4.heap.size := hB4.lt
    have h46 := hx46.size
    have h611 := hx611.size
    have hx212 : Ex w2 w12 := ((hx3.into hm4 (fun i hi => by rw [hi]; exact Nat.le_refl _)).trans (hx46.trans hx611)).into hm12 (fun i hi => by rw [hi]; exact Nat.le_refl _)
    have hxw12 := (hx1.trans hx2).trans hx212
    refine Held_ex ?_
    refine Cd_eq (fun _ => ?_) (fun hn => absurd rfl hn)
    have d12 : ∀ v, Ex w12.drew v → Ex w12 v := fun v h => (Ex.drew w12).trans h
    have hB1012 : Has w12 w8.heap.size (encAts hAts (readF l).1) 38 := (hB10.ex hx11).mo hm12 (fun hn => by have := hx8.size; have := hx67.size; omega)
    refine RdS_hasN (x := (readF l).1) (fun v hv => hB1012.ex (d12 v hv)) (by kernel_rfl) rfl ?_
    refine RdS_hasN (x := (readF l).1) (fun v hv => hB12.ex (d12 v hv)) (by kernel_rfl) rfl ?_
    refine Cl_gives (head_gives (readF l).1) fun w13 hx13 => ⟨hx13, ?_⟩
    refine RdS_hd ?_
    refine Cd_t ?_
    have hx1213 := d12 _ hx13
    have hm1113 : Mo (fun b => b = w2.heap.size) w11 w13 := hm12.ex hx1213
    have off : ∀ {g : Nat}, w7.heap.size ≤ g → ¬ (g = w2.heap.size) := fun hg hn => by have := hx67.size; omega
    refine Cl_gv (sameBytes_gv sa sb _ _ w13 (((hsa.ex hx810).ex hx11).mo hm1113 (fun b hb' => off (hsa.base b hb').1)).rds (hsb.mo hm1113 (fun b hb' => off (by have := (hsb.base b hb').1; have := hx8.size; have := hx810.size; omega))).rds (by omega)) fun w14 hx14' => ⟨hx13.trans hx14', ?_⟩
    rw [decide_eq_true rfl]
    refine Cd_t ?_
    have hm1114 := hm1113.ex hx14'
    refine Cl_gv (sameInts_gv ba bb _ _ w14 (((hba.ex hx810).ex hx11).mo hm1114 (fun b hb' => off (hba.base b hb').1)).rds (hbb.mo hm1114 (fun b hb' => off (by have := (hbb.base b hb').1; have := hx8.size; have := hx810.size; omega))).rds (by omega)) fun w15 hx15 => ⟨(hx13.trans hx14').trans hx15, ?_⟩
    rw [decide_eq_true rfl]
    refine Cd_t ?_
    have hB112 : Has w12 w.heap.size _ 30 := (hB16.ex hx611).mo hm12 (fun hn => by have := hB1.lt; have := hx2.size; omega)
    refine RdS_has (fun v hv => hB112.ex (d12 v hv)) (by kernel_rfl) rfl ?_
    have hx1215 := (hx1213.trans hx14').trans hx15
    refine Cl_gv (sameBytes_gv s6 (opB o) l l w15 (((ho6.ex hx611).mo hm12 (fun b hb' hn => by have := (ho6.base b hb').1; omega)).ex hx1215).rds (hr.ex (hxw12.trans hx1215)) (by omega)) fun w16 hx16' => ⟨((hx13.trans hx14').trans hx15).trans hx16', ?_⟩
    exact ⟨by simp, (hxw12.trans hx1215).trans hx16'⟩
end Go.Proofs.YtbcjimfkdjjpjaaDoor
