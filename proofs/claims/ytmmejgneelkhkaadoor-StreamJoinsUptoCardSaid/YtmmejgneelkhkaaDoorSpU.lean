/- The first pipe, how many times; a split of the program beside the document's. -/
import Derived.Test.YtmmejgneelkhkaaDoorSpT
import Derived.Test.YtmmejgneelkhkaaDoorStSpec2
set_option linter.all false
namespace Go.Proofs.YtmmejgneelkhkaaDoor
open Go Go.Cu Go.RowKit
set_option linter.unusedVariables false
set_option maxHeartbeats 4000000
set_option maxRecDepth 100000
theorem addr_zero (a : Addr) : a.add 0 = a := by unfold Addr.add; simp
theorem Pu_takeR {ats : List At} {t e : TypeId} {s : Sl} {l : List (Ats ats)} {ik : IntKind} {n : Nat} {k : Sl → World → Prop} {w : World} (hr : RdA ats w s l) (hn : n ≤ l.length) (ht : Tryd.prog.underlying t = some (.slice e)) (hs : sizeIs Tryd.prog e ats.length = true)
    (hk : ∀ s', RdA ats w s' (l.take n) → (∀ a, s'.base = some a → ∃ b, s.base = some b ∧ a.block = b.block) → k s' w) : Pu Tryd.prog (Instr.sliceAt t (.slice s.base s.len s.cap) none (some (.int ik (n : Int))) none) (.one (.at .sl)) k w := by
  have hl := hr.1
  have hc := hr.2.1
  refine ⟨⟨if s.cap = 0 then s.base else s.base.map (·.add (0 * ats.length)), n - 0, s.cap - 0⟩, fun w' => ?_, hk _ ⟨by simp; omega, by simp only; omega, fun i x hi => ?_⟩ (fun a ha => ?_)⟩
  · exact run_sliceAt (P := Tryd.prog) (s := s) (w := w') (l := 0) (h := n) ht hs (.inl ⟨rfl, rfl⟩) (.inr ⟨ik, rfl⟩) (Nat.zero_le _) (by omega)
  · rw [List.getElem?_take] at hi
    split at hi
    · obtain ⟨a, ha, hcell⟩ := hr.2.2 i x hi
      refine ⟨a, ?_, hcell⟩
      simp only [ha, Nat.zero_mul, Option.map_some, addr_zero, ite_self]
    · cases hi
  · cases hb : s.base with
    | none => simp [hb] at ha
    | some b =>
      simp only [hb, Nat.zero_mul, Option.map_some, addr_zero, ite_self, Option.some.injEq] at ha
      exact ⟨b, rfl, by rw [ha]⟩
abbrev jobAts : List At := [.int .i64, .int .i64, .int .i64, .int .i64, .int .i64, .int .i64, .int .i64, .bool, .sl, .int .i64, .sl, .sl, .int .i64, .int .i64]
abbrev mkJ (f b k m wo st ca : Int) (sc : Bool) (pk : Sl) (block : Int) (pp tp : Sl) (size times : Int) : Int × Int × Int × Int × Int × Int × Int × Bool × Sl × Int × Sl × Sl × Int × Int × Unit := (f, b, k, m, wo, st, ca, sc, pk, block, pp, tp, size, times, ())
theorem job_one (f b k m wo st ca : Int) (sc : Bool) (pk : Sl) (block : Int) (pp tp : Sl) (size times : Int) : ∀ x ∈ jobV f b k m wo st ca sc pk block pp tp size times, x.oneCell' = true := by
  intro x hx
  simp only [List.mem_cons, List.not_mem_nil, or_false] at hx
  rcases hx with rfl | rfl | rfl | rfl | rfl | rfl | rfl | rfl | rfl | rfl | rfl | rfl | rfl | rfl <;> rfl
theorem zJob : (Tryd.prog.info? 30).bind (·.zero) = some (.agg (jobV 0 0 0 0 0 0 0 false ⟨none, 0, 0⟩ 0 ⟨none, 0, 0⟩ ⟨none, 0, 0⟩ 0 0).toArray) := by kernel_rfl
theorem times_ok (f b k m wo st ca : Int) (sc : Bool) (pk : Sl) (block : Int) (pp tp : Sl) (size times : Int) (w : World) :
    Cl Tryd.prog 8 #[.agg (jobV f b k m wo st ca sc pk block pp tp size times).toArray] (.one (.at (.int .i64))) (fun x w' => (∃ n : Nat, n ≤ 3 ∧ x = (n : Int)) ∧ Ex w w') w := by
  refine culletlaw24_Job_times.run _ (mkJ f b k m wo st ca sc pk block pp tp size times) w ?_
  unfold culletlaw24_Job_times.M
  refine Wr_box fun w1 hB1 hx1 => ?_
  have hB1' : Has w1 w.heap.size (jobV f b k m wo st ca sc pk block pp tp size times) 30 := hB1
  refine Rd_has (c := .int .i64) (x := times) hB1' (by kernel_rfl) rfl ?_
  have h1 : -2 ≤ Int.tmod times 3 ∧ Int.tmod times 3 ≤ 2 := by
    rcases Int.le_total 0 times with h | h
    · have := tmod_bound h (show (0 : Int) < 3 by decide); omega
    · have := tmod_bound (a := -times) (b := 3) (by omega) (by decide)
      rw [Int.neg_tmod] at this; omega
  rw [wrap64 (x := Int.tmod times 3 + 3) (by omega) (by omega)]
  have h2 := tmod_bound (a := Int.tmod times 3 + 3) (b := 3) (by omega) (by decide)
  rw [wrap64 (by omega) (by omega)]
  exact ⟨Int.tmod (Int.tmod times 3 + 3) 3 + 1, rfl, ⟨(Int.tmod (Int.tmod times 3 + 3) 3 + 1).toNat, by omega, (Int.toNat_of_nonneg (by omega)).symm⟩, hx1⟩
def take1 (ps : List PipeT) : List PipeT := if ps.length = 0 then [pipe0] else ps.take 1
theorem take1_len (ps : List PipeT) : (take1 ps).length = 1 := by
  unfold take1
  split
  · rfl
  · rw [List.length_take]; omega
theorem first_ok {f b k m wo st ca : Int} {sc : Bool} {pk : Sl} {block : Int} {pp tp : Sl} {size times : Int} {ps : List PipeT} {w : World} (hP : RdA pipeAts w pp ps) :
    Cl Tryd.prog 5 #[.agg (jobV f b k m wo st ca sc pk block pp tp size times).toArray] (.one (.agg jobAts)) (fun x w' => (∃ pp', x = mkJ f b k m wo st ca sc pk block pp' tp size times ∧ RdA pipeAts w' pp' (take1 ps) ∧ ∀ a, pp'.base = some a → (ps.length ≠ 0 ∧ ∃ b, pp.base = some b ∧ a.block = b.block) ∨ w.heap.size ≤ a.block) ∧ Ex w w') w := by
  refine culletlaw24_first.run _ (mkJ f b k m wo st ca sc pk block pp tp size times) w ?_
  unfold culletlaw24_first.M
  refine Wr_box fun w1 hB1 hx1 => ?_
  have hB1' : Has w1 w.heap.size (jobV f b k m wo st ca sc pk block pp tp size times) 30 := hB1
  refine Wr_alloc zJob fun w2 hB2 hx2 => ?_
  have hB12 := hB1'.ex hx2
  have hne : w.heap.size ≠ w1.heap.size := by have := hB1'.lt; omega
  have hg2 : w.heap.size ≤ w1.heap.size := hx1.size
  have hx02 := hx1.trans hx2
  have hB2' : Has w2 w1.heap.size (jobV 0 0 0 0 0 0 0 false ⟨none, 0, 0⟩ 0 ⟨none, 0, 0⟩ ⟨none, 0, 0⟩ 0 0) 30 := hB2
  have hg0 : w.heap.size = w.heap.size := rfl
  generalize hgj : w.heap.size = gj at hB12 hne hg2 ⊢
  generalize w1.heap.size = gt at hB2' hne hg2 ⊢
  refine Rd_has (c := .sl) (x := pp) hB12 (by kernel_rfl) rfl ?_
  have hpl := hP.1
  have j1f : ∀ (w3 : World) (p3 : Sl) (l : List PipeT), Has w3 gj (jobV f b k m wo st ca sc pk block p3 tp size times) 30 → Has w3 gt (jobV 0 0 0 0 0 0 0 false ⟨none, 0, 0⟩ 0 ⟨none, 0, 0⟩ ⟨none, 0, 0⟩ 0 0) 30 → RdA pipeAts w3 p3 l → 1 ≤ l.length → l.take 1 = take1 ps → (∀ a, p3.base = some a → a.block ≠ gj ∧ a.block ≠ gt) → (∀ a, p3.base = some a → (ps.length ≠ 0 ∧ ∃ b, pp.base = some b ∧ a.block = b.block) ∨ gj ≤ a.block) → Ex w w3 →
      culletlaw24_first.j1 (fun e w' => ∃ x, e = Ending.returned ((Sh.one (.agg jobAts)).enc x) ∧ (∃ pp', x = mkJ f b k m wo st ca sc pk block pp' tp size times ∧ RdA pipeAts w' pp' (take1 ps) ∧ ∀ a, pp'.base = some a → (ps.length ≠ 0 ∧ ∃ b, pp.base = some b ∧ a.block = b.block) ∨ gj ≤ a.block) ∧ Ex w w') ⟨gj, 0, none⟩ ⟨gt, 0, none⟩ w3 := by
    intro w3 p3 l hBj hBt hA hl htk hblk hor hx3
    unfold culletlaw24_first.j1
    refine Rd_has (c := .sl) (x := p3) hBj (by kernel_rfl) rfl ?_
    obtain ⟨x0, hx0⟩ : ∃ x, l[0]? = some x := ⟨_, List.getElem?_eq_getElem (by omega)⟩
    obtain ⟨a0, ha0, _⟩ := hA.2.2 0 x0 hx0
    obtain ⟨hn1, hn2⟩ := hblk a0 ha0
    refine Pu_takeR (n := 1) hA hl (by kernel_rfl : Tryd.prog.underlying 27 = some (.slice 71)) (by kernel_rfl) fun p4 hA4 hb4 => ?_
    rw [htk] at hA4
    have hp4 : ∀ a, p4.base = some a → a.block ≠ gj ∧ a.block ≠ gt := by
      intro a ha
      obtain ⟨b, hb, e⟩ := hb4 a ha
      rw [e]
      exact hblk b hb
    have hor4 : ∀ a, p4.base = some a → (ps.length ≠ 0 ∧ ∃ b, pp.base = some b ∧ a.block = b.block) ∨ gj ≤ a.block := by
      intro a ha
      obtain ⟨b, hb, e⟩ := hb4 a ha
      rw [e]
      exact hor b hb
    refine Wu_cell (ds := jobV f b k m wo st ca sc pk block p4 tp size times) hBj (by kernel_rfl) rfl rfl (by simp) rfl fun w4 hB4 hm4 => ?_
    refine Rd_hasN (l := jobAts) (x := mkJ f b k m wo st ca sc pk block p4 tp size times) hB4 (by kernel_rfl) rfl ?_
    refine Wu_all (ds := jobV f b k m wo st ca sc pk block p4 tp size times) (hBt.mo hm4 (fun e => hne e.symm)) (by kernel_rfl) (job_one _ _ _ _ _ _ _ _ _ _ _ _ _ _) rfl fun w5 hB5 hm5 => ?_
    refine ⟨mkJ f b k m wo st ca sc pk block p4 tp size times, run_loadVar_has hB5 (by kernel_rfl), _, rfl, ⟨p4, rfl, (hA4.mo hm4 (fun a ha => (hp4 a ha).1)).mo hm5 (fun a ha => (hp4 a ha).2), hor4⟩, ?_⟩
    exact (hx3.into hm4 (fun i hi => Nat.le_of_eq (hgj.trans (Eq.symm hi)))).into hm5 (fun i hi => by have : i = gt := hi; omega)
  refine Cd_eq (fun h0 => ?_) (fun h0 => ?_)
  · have hps : ps.length = 0 := by omega
    refine Wr_litA (ats := pipeAts) (e := 71) (base := w2.heap.size) [pipe0] (by kernel_rfl) (Nat.le_refl _) (by simp) fun p3 w3 ho3 hx3 _ => ?_
    refine Wu_cell (ds := jobV f b k m wo st ca sc pk block p3 tp size times) (hB12.ex hx3) (by kernel_rfl) rfl rfl (by simp) rfl fun w4 hB4 hm4 => ?_
    have hnb : ∀ x, SlIn p3 x → x ≠ gj ∧ x ≠ gt := fun x hx => by
      have h1 := (ho3.base x hx).1
      have h2 := hB12.lt
      have h3 := hB2'.lt
      omega
    refine j1f w4 p3 [pipe0] hB4 ((hB2'.ex hx3).mo hm4 (fun e => hne e.symm)) (ho3.mo hm4 (fun x hx => (hnb x hx).1)).rda (by simp) (by unfold take1; rw [if_pos hps]; rfl) (fun a ha => hnb _ (slin_of ha)) (fun a ha => .inr (Nat.le_trans (Nat.le_trans (Nat.le_of_eq hgj.symm) hx02.size) (ho3.base _ (slin_of ha)).1)) ?_
    exact (hx02.trans hx3).into hm4 (fun i hi => Nat.le_of_eq (hgj.trans (Eq.symm hi)))
  · have hps : ps.length ≠ 0 := by omega
    obtain ⟨x0, hx0⟩ : ∃ x, ps[0]? = some x := ⟨_, List.getElem?_eq_getElem (by omega)⟩
    obtain ⟨a0, ha0, hc0⟩ := hP.2.2 0 x0 hx0
    have hlt0 : a0.block < w.heap.size := by
      have := World.block_lt_of_cell? _ _ (hc0 0 _ rfl)
      rw [Addr.add_block, Addr.add_block] at this
      exact this
    refine j1f w2 pp ps hB12 hB2' (hP.ex hx02) (by omega) (by unfold take1; rw [if_neg hps]) (fun a ha => ?_) (fun a ha => .inl ⟨hps, a, ha, rfl⟩) hx02
    rw [ha0] at ha
    cases ha
    omega
end Go.Proofs.YtmmejgneelkhkaaDoor
