/- The job opened out of its datum. -/
import Derived.Test.YtmmejgneelkhkaaDoorSpXa
import Derived.Test.YtmmejgneelkhkaaDoorOpenLib
import Derived.Test.YtmmejgneelkhkaaDoorCards
import Derived.Test.YtmmejgneelkhkaaDoorTie
import Derived.WalkKit
import Derived.ProofKit
import Derived.OpenShut
set_option linter.all false
namespace Go.Proofs.YtmmejgneelkhkaaDoor
open Go Go.Cu Go.ChangeShapes Go.WideShapes Go.RowKit
set_option linter.unusedVariables false
set_option maxHeartbeats 4000000
set_option maxRecDepth 100000
theorem cInt : Program.cellsOf Tryd.prog 3 = 1 := by kernel_rfl
theorem cU8 : Program.cellsOf Tryd.prog 5 = 1 := by kernel_rfl
theorem cBool : Program.cellsOf Tryd.prog 4 = 1 := by kernel_rfl
theorem cBs : Program.cellsOf Tryd.prog 67 = 1 := by kernel_rfl
theorem cIs : Program.cellsOf Tryd.prog 24 = 1 := by kernel_rfl
theorem cPs : Program.cellsOf Tryd.prog 27 = 1 := by kernel_rfl
theorem cTs : Program.cellsOf Tryd.prog 28 = 1 := by kernel_rfl
theorem cOpt : Program.cellsOf Tryd.prog 26 = 9 := by kernel_rfl
theorem cPlan : Program.cellsOf Tryd.prog 69 = 3 := by kernel_rfl
theorem cPipe : Program.cellsOf Tryd.prog 71 = 5 := by kernel_rfl
theorem cTap : Program.cellsOf Tryd.prog 62 = 3 := by kernel_rfl
theorem cJob : Program.cellsOf Tryd.prog 30 = 14 := by kernel_rfl
theorem uInt : Program.underlying Tryd.prog 3 = some (.int .i64) := by kernel_rfl
theorem uU8 : Program.underlying Tryd.prog 5 = some (.int .u8) := by kernel_rfl
theorem uBool : Program.underlying Tryd.prog 4 = some .bool := by kernel_rfl
theorem uPs : Program.underlying Tryd.prog 27 = some (.slice 71) := by kernel_rfl
theorem uTs : Program.underlying Tryd.prog 28 = some (.slice 62) := by kernel_rfl
theorem uJob : Program.underlying Tryd.prog 30 = some (.struct (Program.fieldsOf Tryd.prog 30)) := by kernel_rfl
theorem uOpt : Program.underlying Tryd.prog 26 = some (.struct (Program.fieldsOf Tryd.prog 26)) := by kernel_rfl
theorem uPlan : Program.underlying Tryd.prog 69 = some (.struct (Program.fieldsOf Tryd.prog 69)) := by kernel_rfl
theorem uPipe : Program.underlying Tryd.prog 71 = some (.struct (Program.fieldsOf Tryd.prog 71)) := by kernel_rfl
theorem uTap : Program.underlying Tryd.prog 62 = some (.struct (Program.fieldsOf Tryd.prog 62)) := by kernel_rfl
theorem fJob : (Program.fieldsOf Tryd.prog 30).map (fun f => (f.type, f.offset)) = #[(26, 0), (3, 9), (27, 10), (28, 11), (3, 12), (3, 13)] := by kernel_rfl
theorem fOpt : (Program.fieldsOf Tryd.prog 26).map (fun f => (f.type, f.offset)) = #[(22, 0), (23, 1), (3, 2), (3, 3), (3, 4), (3, 5), (3, 6), (4, 7), (24, 8)] := by kernel_rfl
theorem fPlan : (Program.fieldsOf Tryd.prog 69).map (fun f => (f.type, f.offset)) = #[(24, 0), (3, 1), (3, 2)] := by kernel_rfl
theorem fPipe : (Program.fieldsOf Tryd.prog 71).map (fun f => (f.type, f.offset)) = #[(67, 0), (69, 1), (4, 4)] := by kernel_rfl
theorem fTap : (Program.fieldsOf Tryd.prog 62).map (fun f => (f.type, f.offset)) = #[(60, 0), (4, 2)] := by kernel_rfl
theorem fWp : (Program.fieldsOf Tryd.prog 60).map (fun f => (f.type, f.offset)) = #[(3, 0), (3, 1)] := by kernel_rfl
theorem uWp : Program.underlying Tryd.prog 60 = some (.struct (Program.fieldsOf Tryd.prog 60)) := by kernel_rfl
theorem cWp : Program.cellsOf Tryd.prog 60 = 2 := by kernel_rfl
theorem uFam : Program.underlying Tryd.prog 22 = some (.int .i64) := by kernel_rfl
theorem uBack : Program.underlying Tryd.prog 23 = some (.int .i64) := by kernel_rfl
theorem cFam : Program.cellsOf Tryd.prog 22 = 1 := by kernel_rfl
theorem cBack : Program.cellsOf Tryd.prog 23 = 1 := by kernel_rfl
theorem field_at {fs : Array Field} {l : Array (TypeId × Nat)} (h : fs.map (fun f => (f.type, f.offset)) = l) {i : Nat} {t : TypeId} {o : Nat} (hi : l[i]? = some (t, o)) : ∃ f, fs[i]? = some f ∧ f.type = t ∧ f.offset = o := by
  rw [← h, Array.getElem?_map] at hi
  cases hf : fs[i]? with
  | none => rw [hf] at hi; cases hi
  | some f =>
    rw [hf] at hi
    simp only [Option.map_some, Option.some.injEq, Prod.mk.injEq] at hi
    exact ⟨f, rfl, hi.1, hi.2⟩
section
variable {H : Type} {enc : TypeId × Value → H}
theorem bulk_one (d : DataW H) : 1 ≤ Rows.uptoBulk d := by
  cases d with
  | lit l => cases l <;> simp [Rows.uptoBulk]
  | nil => simp [Rows.uptoBulk]
  | ptr d => simp [Rows.uptoBulk]
  | slice elems spare => simp [Rows.uptoBulk]
  | agg parts => simp [Rows.uptoBulk]
  | iface t d => simp [Rows.uptoBulk]
  | map entries => simp [Rows.uptoBulk]
  | held h => simp [Rows.uptoBulk]
theorem bulk_len : ∀ l : List (DataW H), l.length ≤ Rows.uptoBulkAll l
  | [] => by simp [Rows.uptoBulkAll]
  | x :: r => by have h1 := bulk_one x; have h2 := bulk_len r; simp only [Rows.uptoBulkAll, List.length_cons]; omega
theorem bulk_mem : ∀ {l : List (DataW H)} {d : DataW H}, d ∈ l → Rows.uptoBulk d ≤ Rows.uptoBulkAll l
  | x :: r, d, h => by
    simp only [Rows.uptoBulkAll]
    rcases List.mem_cons.1 h with rfl | h
    · omega
    · have := bulk_mem h; omega
theorem open_fields {W : World} {fuel : Nat} {t : TypeId} {cs : List Value} {x : DataW H × List MemPlace} {l : Array (TypeId × Nat)} (hu : Program.underlying Tryd.prog t = some (.struct (Program.fieldsOf Tryd.prog t))) (hf : (Program.fieldsOf Tryd.prog t).map (fun f => (f.type, f.offset)) = l)
    (h : DataW.trod enc Tryd.prog W 0 (fun _ => true) true fuel t cs = some x) (hw : okW Tryd.prog t x.1) : cs.length = Program.cellsOf Tryd.prog t ∧
    ∀ (i : Nat) (ti : TypeId) (o : Nat), l[i]? = some (ti, o) → ∃ (y : DataW H × List MemPlace) (n : Nat), DataW.trod enc Tryd.prog W 0 (fun _ => true) true n ti ((cs.drop o).take (Program.cellsOf Tryd.prog ti)) = some y ∧ okW Tryd.prog ti y.1 ∧ Rows.uptoBulk y.1 ≤ Rows.uptoBulk x.1 := by
  obtain ⟨xs, n, _, rfl, hlen, hxs, hfs⟩ := DataW.trod_struct hu h
  refine ⟨hlen, fun i ti o hi => ?_⟩
  obtain ⟨f, hfi, rfl, rfl⟩ := field_at hf hi
  have hsz := (Array.getElem?_eq_some_iff.1 hfi).1
  have hlt : i < xs.length := by omega
  have := hfs i f hfi
  rw [List.getElem?_eq_getElem hlt] at this
  refine ⟨_, n, this, okW_struct hw hu i f _ hfi (by rw [List.getElem?_map, List.getElem?_eq_getElem hlt]; rfl), ?_⟩
  have h2 := bulk_mem (l := xs.map (·.1)) (d := xs[i].1) (List.mem_map.2 ⟨xs[i], List.getElem_mem hlt, rfl⟩)
  simp only [Rows.uptoBulk]
  omega
theorem open_int {W : World} {fuel : Nat} {cs : List Value} {o : Nat} {x : DataW H × List MemPlace} (h : DataW.trod enc Tryd.prog W 0 (fun _ => true) true fuel 3 ((cs.drop o).take (Program.cellsOf Tryd.prog 3)) = some x) : ∃ z, cs[o]? = some (.int .i64 z) ∧ i64P z := by
  rw [cInt] at h
  obtain ⟨z, hz, _, hwf⟩ := DataW.trod_int uInt h
  refine ⟨z, one_of_take hz, ?_⟩
  simp only [Lit.wf, IntKind.min, IntKind.max, IntKind.signed, IntKind.bits, Bool.and_eq_true, decide_eq_true_eq] at hwf
  simp at hwf
  exact hwf
theorem open_bit {W : World} {fuel : Nat} {cs : List Value} {o : Nat} {x : DataW H × List MemPlace} (h : DataW.trod enc Tryd.prog W 0 (fun _ => true) true fuel 4 ((cs.drop o).take (Program.cellsOf Tryd.prog 4)) = some x) : ∃ b, cs[o]? = some (.bool b) := by
  rw [cBool] at h
  obtain ⟨z, hz, _⟩ := DataW.trod_bool uBool h
  exact ⟨z, one_of_take hz⟩
theorem one_cell {cs : List Value} {o : Nat} (h : o < cs.length) : (cs.drop o).take 1 = [cs[o]] := by
  rw [List.drop_eq_getElem_cons h]; rfl
theorem open_ints {W : World} {fuel : Nat} {cs : List Value} {o : Nat} {x : DataW H × List MemPlace} (ho : o < cs.length) (h : DataW.trod enc Tryd.prog W 0 (fun _ => true) true fuel 24 ((cs.drop o).take (Program.cellsOf Tryd.prog 24)) = some x) (hw : okW Tryd.prog 24 x.1) :
    ∃ s l, cs[o]? = some (slv s) ∧ Rds i64v W s l ∧ l.length * 8 ≤ 140737488351232 ∧ ∀ c ∈ l, i64P c := by
  rw [cIs, one_cell ho] at h
  have hb : Program.bytesOf Tryd.prog 3 = 8 := by kernel_rfl
  obtain ⟨s, l, hv, hr, hwf, hlen⟩ := open_nums (k := .i64) tI uInt cInt (Nat.le_of_ble_eq_true (by kernel_rfl)) h hw
  refine ⟨s, l, by rw [List.getElem?_eq_getElem ho, hv], hr, ?_, fun c hc => ?_⟩
  · rcases ChangeShapes.open_ints tI uInt cInt h with ⟨h1, rfl⟩ | ⟨a, len, cap, zs, h1, _, hl, hm, hz, rfl, hcell, _⟩
    · injection h1 with h1 _
      rw [h1] at hv
      have := hr.1
      injection hv with _ h2 _
      omega
    · injection h1 with h1 _
      rw [h1] at hv
      injection hv with _ h2 _
      simp only [if_true] at hz
      have hwt := (okW_slice hw tI).1
      rw [hb] at hwt
      have e1 : (lits (H := H) .i64 (zs.take len)).length = len := by simp [lits]; omega
      have := hr.1
      have hr : reachBytes = 140737488351232 := rfl
      rw [e1] at hwt
      have : len * 8 ≤ (len + (lits (H := H) .i64 (zs.drop len)).length) * 8 := Nat.mul_le_mul_right _ (Nat.le_add_right _ _)
      omega
  · have hwf := hwf c hc
    simp only [Lit.wf, IntKind.min, IntKind.max, IntKind.signed, IntKind.bits, Bool.and_eq_true, decide_eq_true_eq] at hwf
    simp at hwf
    exact hwf
theorem open_bytes {W : World} {fuel : Nat} {cs : List Value} {o : Nat} {x : DataW H × List MemPlace} (ho : o < cs.length) (h : DataW.trod enc Tryd.prog W 0 (fun _ => true) true fuel 67 ((cs.drop o).take (Program.cellsOf Tryd.prog 67)) = some x) (hw : okW Tryd.prog 67 x.1) :
    ∃ s l, cs[o]? = some (slv s) ∧ Rds b8 W s l ∧ l.length ≤ 140737488351232 ∧ l.length ≤ Rows.uptoBulk x.1 := by
  rw [cBs, one_cell ho] at h
  obtain ⟨s, l, hv, hr, hwf, hlen⟩ := open_nums (k := .u8) tB uU8 cU8 (Nat.le_of_ble_eq_true (by kernel_rfl)) h hw
  refine ⟨s, l, by rw [List.getElem?_eq_getElem ho, hv], hr, hlen, ?_⟩
  rcases ChangeShapes.open_ints tB uU8 cU8 h with ⟨h1, rfl⟩ | ⟨a, len, cap, zs, h1, _, hl, hm, hz, rfl, hcell, _⟩
  · injection h1 with h1 _
    rw [h1] at hv
    have := hr.1
    injection hv with _ h2 _
    omega
  · injection h1 with h1 _
    rw [h1] at hv
    injection hv with _ h2 _
    simp only [if_true] at hz
    have e1 : (lits (H := H) .u8 (zs.take len)).length = len := by simp [lits]; omega
    have h3 := bulk_len (lits (H := H) .u8 (zs.take len))
    have := hr.1
    simp only [Rows.uptoBulk]
    omega
theorem sub_cell {cs : List Value} {o n j : Nat} (h : j < n) : ((cs.drop o).take n)[j]? = cs[o + j]? := by
  rw [List.getElem?_take, if_pos h, List.getElem?_drop]
theorem open_tap {W : World} {fuel : Nat} {cs : List Value} {x : DataW H × List MemPlace} (h : DataW.trod enc Tryd.prog W 0 (fun _ => true) true fuel 62 cs = some x) (hw : okW Tryd.prog 62 x.1) : ∃ t : TapT, cs = encAts tapAts t ∧ i64P t.1 := by
  obtain ⟨hlen, hf⟩ := open_fields uTap fTap h hw
  rw [cTap] at hlen
  obtain ⟨_, _, r0, w0, uhf0⟩ := hf 0 _ _ rfl
  obtain ⟨_, _, r2, _⟩ := hf 1 _ _ rfl
  rw [cWp] at r0
  obtain ⟨hlen1, hf1⟩ := open_fields uWp fWp r0 w0
  obtain ⟨_, _, q0, _⟩ := hf1 0 _ _ rfl
  obtain ⟨_, _, q1, _⟩ := hf1 1 _ _ rfl
  obtain ⟨a, ea, ha⟩ := open_int q0
  obtain ⟨b, eb, _⟩ := open_int q1
  obtain ⟨c, ec⟩ := open_bit r2
  rw [sub_cell (by decide)] at ea eb
  match cs, hlen with
  | [c0, c1, c2], _ =>
    have nc0 : c0 = .int .i64 a := Option.some.inj ea
    have nc1 : c1 = .int .i64 b := Option.some.inj eb
    have nc2 : c2 = .bool c := Option.some.inj ec
    subst nc0 nc1 nc2
    exact ⟨(a, b, c, ()), rfl, ha⟩
/-- what a pipe's lists hold -/
def PipeOk (W : World) (p : PipeT) (d c : List Int) : Prop := Rds b8 W p.1 d ∧ Rds i64v W p.2.1 c ∧ d.length ≤ 140737488351232 ∧ c.length * 8 ≤ 140737488351232 ∧ (∀ x ∈ c, i64P x) ∧ i64P p.2.2.1
theorem open_pipe {W : World} {fuel : Nat} {cs : List Value} {x : DataW H × List MemPlace} (h : DataW.trod enc Tryd.prog W 0 (fun _ => true) true fuel 71 cs = some x) (hw : okW Tryd.prog 71 x.1) : ∃ (p : PipeT) (d c : List Int), cs = encAts pipeAts p ∧ PipeOk W p d c ∧ d.length ≤ Rows.uptoBulk x.1 := by
  obtain ⟨hlen, hf⟩ := open_fields uPipe fPipe h hw
  rw [cPipe] at hlen
  obtain ⟨_, _, r0, w0, uhf0⟩ := hf 0 _ _ rfl
  obtain ⟨_, _, r1, w1, uhf1⟩ := hf 1 _ _ rfl
  obtain ⟨_, _, r2, _⟩ := hf 2 _ _ rfl
  rw [cPlan] at r1
  obtain ⟨hlen1, hf1⟩ := open_fields uPlan fPlan r1 w1
  rw [cPlan] at hlen1
  obtain ⟨_, _, q0, v0, uhf10⟩ := hf1 0 _ _ rfl
  obtain ⟨_, _, q1, _⟩ := hf1 1 _ _ rfl
  obtain ⟨_, _, q2, _⟩ := hf1 2 _ _ rfl
  obtain ⟨s, d, es, hr, hd, hdb⟩ := open_bytes (by omega) r0 w0
  obtain ⟨s', c, es', hr', hc, hc64⟩ := open_ints (by omega) q0 v0
  obtain ⟨a, ea, ha⟩ := open_int q1
  obtain ⟨b, eb, _⟩ := open_int q2
  obtain ⟨z, ez⟩ := open_bit r2
  rw [sub_cell (by decide)] at es' ea eb
  match cs, hlen with
  | [c0, c1, c2, c3, c4], _ =>
    simp only [List.getElem?_cons_zero, List.getElem?_cons_succ, Option.some.injEq] at es ez
    have nc1 : c1 = slv s' := Option.some.inj es'
    have nc2 : c2 = .int .i64 a := Option.some.inj ea
    have nc3 : c3 = .int .i64 b := Option.some.inj eb
    have nc0 : c0 = slv s := es
    have nc4 : c4 = .bool z := ez
    subst nc0 nc1 nc2 nc3 nc4
    exact ⟨(s, s', a, b, z, ()), d, c, rfl, ⟨hr, hr', hd, hc, hc64, ha⟩, by omega⟩
theorem open_rda {α : Type} {ats : List At} {W : World} {fuel : Nat} {t e : TypeId} {v : Value} {x : DataW H × List MemPlace} {Q : Ats ats → α → Prop} {N : α → Nat} (hu : Program.underlying Tryd.prog t = some (.slice e)) (hc : Program.cellsOf Tryd.prog e = ats.length) (hb : 8 ≤ Program.bytesOf Tryd.prog e) [Inhabited (Ats ats)] [Inhabited α]
    (hone : ∀ (n : Nat) (cs : List Value) (y : DataW H × List MemPlace), DataW.trod enc Tryd.prog W 0 (fun _ => true) true n e cs = some y → okW Tryd.prog e y.1 → ∃ (p : Ats ats) (q : α), cs = encAts ats p ∧ Q p q ∧ N q ≤ Rows.uptoBulk y.1)
    (h : DataW.trod enc Tryd.prog W 0 (fun _ => true) true fuel t [v] = some x) (hw : okW Tryd.prog t x.1) : ∃ (s : Sl) (l : List (Ats ats)) (g : Nat → α), v = slv s ∧ RdA ats W s l ∧ l.length * 8 ≤ 140737488351232 ∧ l.length ≤ Rows.uptoBulk x.1 ∧ ∀ i p, l[i]? = some p → Q p (g i) ∧ N (g i) ≤ Rows.uptoBulk x.1 := by
  rcases Deep.open_slice hu h with ⟨h1, _⟩ | ⟨a, len, cap, m, n, D, Pl, h1, _, hl, hm, hmm, rfl, hx⟩
  · injection h1 with h1 _
    subst h1
    exact ⟨⟨none, 0, 0⟩, [], fun _ => default, rfl, RdA.nil _ _, by simp, by simp, fun i p hi => by simp at hi⟩
  · injection h1 with h1 _
    subst h1
    simp only [if_true] at hmm
    obtain ⟨hwt, hwe⟩ := okW_slice hw hu
    have each : ∀ i, i < len → ∃ q : Ats ats × α, (∀ j u, (encAts ats q.1)[j]? = some u → W.cell? ((a.add (i * ats.length)).add j) = some u) ∧ Q q.1 q.2 ∧ N q.2 ≤ Rows.uptoBulk (D i) := by
      intro i hi
      obtain ⟨cs', q1, q2⟩ := hx i (by omega)
      rw [hc] at q1
      obtain ⟨_, _, q3⟩ := World.cells?_some q1
      obtain ⟨p, q, ho, hQ⟩ := hone _ _ _ q2 (hwe i (D i) (by rw [List.getElem?_map, List.getElem?_range hi]; rfl))
      refine ⟨(p, q), fun j u hj => ?_, hQ⟩
      have hj' : j < ats.length := by
        have := (List.getElem?_eq_some_iff.1 hj).1
        rw [encAts_len] at this; exact this
      rw [q3 j hj', ho, hj]
    obtain ⟨f, hfi⟩ := Deep.choose_lt each
    have hlen : ((List.range len).map fun i => (f i).1).length = len := by simp
    have hge : len * 8 ≤ 140737488351232 := by
      have e1' : ((List.range len).map D).length = len := by simp
      have h1 := Nat.mul_le_mul_right (Program.bytesOf Tryd.prog e) (Nat.le_add_right ((List.range len).map D).length ((List.range (m - len)).map fun j => D (len + j)).length)
      rw [e1'] at h1 hwt
      have h2 := Nat.mul_le_mul_left len hb
      have hr : reachBytes = 140737488351232 := rfl
      omega
    refine ⟨⟨some a, len, cap⟩, (List.range len).map fun i => (f i).1, fun i => (f i).2, rfl, ⟨hlen.symm, hl, fun i x hi => ⟨a, rfl, ?_⟩⟩, by rw [hlen]; exact hge, ?_, fun i p hi => ?_⟩
    · have hi' : i < len := by have := (List.getElem?_eq_some_iff.1 hi).1; rw [hlen] at this; exact this
      rw [List.getElem?_map, List.getElem?_range hi'] at hi
      cases hi
      exact (hfi i hi').1
    · have h3 := bulk_len ((List.range len).map D)
      rw [List.length_map, List.length_range] at h3
      rw [hlen]
      simp only [Rows.uptoBulk]
      omega
    · have hi' : i < len := by have := (List.getElem?_eq_some_iff.1 hi).1; rw [hlen] at this; exact this
      rw [List.getElem?_map, List.getElem?_range hi'] at hi
      cases hi
      have h3 := bulk_mem (l := (List.range len).map D) (d := D i) (List.mem_map.2 ⟨i, List.mem_range.2 hi', rfl⟩)
      refine ⟨(hfi i hi').2.1, Nat.le_trans (hfi i hi').2.2 ?_⟩
      simp only [Rows.uptoBulk]
      omega
theorem open_job {W : World} {fuel : Nat} {cs : List Value} {x : DataW H × List MemPlace} (h : DataW.trod enc Tryd.prog W 0 (fun _ => true) true fuel 30 cs = some x) (hw : okW Tryd.prog 30 x.1) :
    ∃ (f b k m wo st ca : Int) (sc : Bool) (pk : Sl) (block : Int) (pp tp : Sl) (size times : Int) (l : List Int) (ps : List PipeT) (ts : List TapT) (dat chk : Nat → List Int), cs = jobV f b k m wo st ca sc pk block pp tp size times ∧
      Rds i64v W pk l ∧ l.length * 8 ≤ 140737488351232 ∧ RdA pipeAts W pp ps ∧ ps.length * 8 ≤ 140737488351232 ∧ RdA tapAts W tp ts ∧ ts.length * 8 ≤ 140737488351232 ∧ PipesOk W ps dat chk ∧ (∀ (i : Nat) (t : TapT), ts[i]? = some t → i64P t.1) ∧ i64P size ∧ ps.length ≤ Rows.uptoBulk x.1 ∧ ∀ (i : Nat) (p : PipeT), ps[i]? = some p → (dat i).length ≤ Rows.uptoBulk x.1 := by
  obtain ⟨hlen, hf⟩ := open_fields uJob fJob h hw
  rw [cJob] at hlen
  obtain ⟨_, _, r0, w0, uhf0⟩ := hf 0 _ _ rfl
  obtain ⟨_, _, r1, _⟩ := hf 1 _ _ rfl
  obtain ⟨_, _, r2, w2, uhf2⟩ := hf 2 _ _ rfl
  obtain ⟨_, _, r3, w3, uhf3⟩ := hf 3 _ _ rfl
  obtain ⟨_, _, r4, _⟩ := hf 4 _ _ rfl
  obtain ⟨_, _, r5, _⟩ := hf 5 _ _ rfl
  rw [cOpt] at r0
  obtain ⟨hlen0, hf0⟩ := open_fields uOpt fOpt r0 w0
  rw [cOpt] at hlen0
  obtain ⟨_, _, q0, _⟩ := hf0 0 _ _ rfl
  obtain ⟨_, _, q1, _⟩ := hf0 1 _ _ rfl
  obtain ⟨_, _, q2, _⟩ := hf0 2 _ _ rfl
  obtain ⟨_, _, q3, _⟩ := hf0 3 _ _ rfl
  obtain ⟨_, _, q4, _⟩ := hf0 4 _ _ rfl
  obtain ⟨_, _, q5, _⟩ := hf0 5 _ _ rfl
  obtain ⟨_, _, q6, _⟩ := hf0 6 _ _ rfl
  obtain ⟨_, _, q7, _⟩ := hf0 7 _ _ rfl
  obtain ⟨_, _, q8, v8, uhf08⟩ := hf0 8 _ _ rfl
  obtain ⟨z0, e0⟩ := trod_num uFam cFam q0
  obtain ⟨z1, e1⟩ := trod_num uBack cBack q1
  obtain ⟨z2, e2, _⟩ := open_int q2
  obtain ⟨z3, e3, _⟩ := open_int q3
  obtain ⟨z4, e4, _⟩ := open_int q4
  obtain ⟨z5, e5, _⟩ := open_int q5
  obtain ⟨z6, e6, _⟩ := open_int q6
  obtain ⟨z7, e7⟩ := open_bit q7
  obtain ⟨pk, l, e8, hpk, hl, _⟩ := open_ints (by omega) q8 v8
  obtain ⟨z9, e9, _⟩ := open_int r1
  obtain ⟨z12, e12, hsz⟩ := open_int r4
  obtain ⟨z13, e13, _⟩ := open_int r5
  rw [cPs, one_cell (by omega)] at r2
  rw [cTs, one_cell (by omega)] at r3
  have inh1 : Inhabited (Ats pipeAts) := ⟨pipe0⟩
  have inh2 : Inhabited (Ats tapAts) := ⟨tap0⟩
  obtain ⟨pp, ps, gp, e10, hP, hPn, hPb, hPq⟩ := open_rda (ats := pipeAts) (α := List Int × List Int) (Q := fun p q => PipeOk W p q.1 q.2) (N := fun q => q.1.length) uPs cPipe (Nat.le_of_ble_eq_true (by kernel_rfl)) (fun n cs y h1 h2 => by
    obtain ⟨p, d, c, e, hk, hk2⟩ := open_pipe h1 h2
    exact ⟨p, (d, c), e, hk, hk2⟩) r2 w2
  obtain ⟨tp, ts, gt, e11, hT, hTn, _, hTq⟩ := open_rda (ats := tapAts) (α := Unit) (Q := fun t _ => i64P t.1) (N := fun _ => 0) uTs cTap (Nat.le_of_ble_eq_true (by kernel_rfl)) (fun n cs y h1 h2 => by
    obtain ⟨t, e, hk⟩ := open_tap h1 h2
    exact ⟨t, (), e, hk, Nat.zero_le _⟩) r3 w3
  rw [sub_cell (by decide)] at e0 e1 e2 e3 e4 e5 e6 e7 e8
  refine ⟨z0, z1, z2, z3, z4, z5, z6, z7, pk, z9, pp, tp, z12, z13, l, ps, ts, fun i => (gp i).1, fun i => (gp i).2, ?_, hpk, hl, hP, hPn, hT, hTn, ⟨fun i p hi => (hPq i p hi).1.1, fun i p hi => (hPq i p hi).1.2.1, fun i p hi => (hPq i p hi).1.2.2.1, fun i p hi => (hPq i p hi).1.2.2.2.1, fun i p hi => (hPq i p hi).1.2.2.2.2.1, fun i p hi => (hPq i p hi).1.2.2.2.2.2⟩, fun i t hi => (hTq i t hi).1, hsz, by omega, fun i p hi => by have := (hPq i p hi).2; dsimp only at this ⊢; omega⟩
  match cs, hlen with
  | [c0, c1, c2, c3, c4, c5, c6, c7, c8, c9, c10, c11, c12, c13], _ =>
    have nc0 : c0 = .int .i64 z0 := Option.some.inj e0
    have nc1 : c1 = .int .i64 z1 := Option.some.inj e1
    have nc2 : c2 = .int .i64 z2 := Option.some.inj e2
    have nc3 : c3 = .int .i64 z3 := Option.some.inj e3
    have nc4 : c4 = .int .i64 z4 := Option.some.inj e4
    have nc5 : c5 = .int .i64 z5 := Option.some.inj e5
    have nc6 : c6 = .int .i64 z6 := Option.some.inj e6
    have nc7 : c7 = .bool z7 := Option.some.inj e7
    have nc8 : c8 = slv pk := Option.some.inj e8
    have nc9 : c9 = .int .i64 z9 := Option.some.inj e9
    have nc10 : c10 = slv pp := e10
    have nc11 : c11 = slv tp := e11
    have nc12 : c12 = .int .i64 z12 := Option.some.inj e12
    have nc13 : c13 = .int .i64 z13 := Option.some.inj e13
    subst nc0 nc1 nc2 nc3 nc4 nc5 nc6 nc7 nc8 nc9 nc10 nc11 nc12 nc13
    rfl
end
end Go.Proofs.YtmmejgneelkhkaaDoor
