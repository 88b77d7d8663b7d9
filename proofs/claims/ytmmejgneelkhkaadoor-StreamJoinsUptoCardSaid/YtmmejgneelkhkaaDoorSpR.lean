/- The sources of a list of pipes, the sinks of a list of taps: the program's and the document's. -/
import Derived.Test.YtmmejgneelkhkaaDoorSpP
set_option linter.all false
namespace Go.Proofs.YtmmejgneelkhkaaDoor
open Go Go.Cu Go.RowKit
set_option linter.unusedVariables false
set_option maxHeartbeats 2000000
set_option maxRecDepth 100000
theorem tLPS : Tryd.prog.underlying 39 = some (.slice 52) := by kernel_rfl
theorem tLPK : Tryd.prog.underlying 40 = some (.slice 64) := by kernel_rfl
theorem tLRS : Tryd.prog.underlying 41 = some (.slice 56) := by kernel_rfl
theorem tLRK : Tryd.prog.underlying 42 = some (.slice 66) := by kernel_rfl
theorem iPS : (Tryd.prog.info? 52).map (fun i => (i.zero, i.size, i.bytes)) = some (some (.pointer none), 1, 8) := by kernel_rfl
theorem iPK : (Tryd.prog.info? 64).map (fun i => (i.zero, i.size, i.bytes)) = some (some (.pointer none), 1, 8) := by kernel_rfl
theorem iRS : (Tryd.prog.info? 56).map (fun i => (i.zero, i.size, i.bytes)) = some (some (.pointer none), 1, 8) := by kernel_rfl
theorem iRK : (Tryd.prog.info? 66).map (fun i => (i.zero, i.size, i.bytes)) = some (some (.pointer none), 1, 8) := by kernel_rfl
theorem ptr_one (x : Option Nat) : (ptrV x).oneCell' = true := by cases x <;> rfl
theorem ptr_cells (x : Option Nat) : (ptrV x).cells = #[ptrV x] := by cases x <;> rfl
theorem ptrs_succ {n : Nat} {pres : Nat → Bool} {gd gd' : Nat → Nat} (h : ∀ j, j < n → gd' j = gd j) : ptrs (n + 1) pres gd' = ptrs n pres gd ++ [if pres n then some (gd' n) else none] := by
  unfold ptrs
  rw [List.range_succ, List.map_append]
  congr 1
  apply List.map_congr_left
  intro j hj
  rw [h j (List.mem_range.1 hj)]
def upN {α : Type} (f : Nat → α) (i : Nat) (x : α) : Nat → α := fun j => if j = i then x else f j
theorem upN_same {α : Type} (f : Nat → α) (i : Nat) (x : α) : upN f i x i = x := if_pos rfl
theorem upN_ne {α : Type} (f : Nat → α) {i j : Nat} (x : α) (h : j ≠ i) : upN f i x j = f j := if_neg h
abbrev pipeAts : List At := [.sl, .sl, .int .i64, .int .i64, .bool]
abbrev PipeT : Type := Sl × Sl × Int × Int × Bool × Unit
abbrev tapAts : List At := [.int .i64, .int .i64, .bool]
abbrev TapT : Type := Int × Int × Bool × Unit
abbrev pipe0 : PipeT := (⟨none, 0, 0⟩, ⟨none, 0, 0⟩, 0, 0, true, ())
abbrev tap0 : TapT := (0, 0, true, ())
def pPres (ps : List PipeT) (i : Nat) : Bool := !(ps.getD i pipe0).2.2.2.2.1
def tPres (ts : List TapT) (i : Nat) : Bool := !(ts.getD i tap0).2.2.1
theorem getD_of {α : Type} {l : List α} {i : Nat} {x d : α} (h : l[i]? = some x) : l.getD i d = x := by rw [List.getD_eq_getElem?_getD, h]; rfl
theorem zPipe : (Tryd.prog.info? 71).bind (·.zero) = some (.agg #[.slice none 0 0, .slice none 0 0, .int .i64 0, .int .i64 0, .bool false]) := by kernel_rfl
theorem zTap : (Tryd.prog.info? 62).bind (·.zero) = some (.agg #[.int .i64 0, .int .i64 0, .bool false]) := by kernel_rfl
theorem sinks_ok {W0 w : World} {T : Ths} {s : Sl} {ts : List TapT} (hS : Sep W0 w T) (hA : RdA tapAts W0 s ts) (hn : ts.length * 8 ≤ 140737488355328) :
    Cl Tryd.prog 19 #[.slice s.base s.len s.cap] (.tup [.at .sl, .at .sl]) (fun x w' => ∃ (gd gk : Nat → Nat) (bd : Nat → Addr) (T' : Ths), Sep W0 w' T' ∧ T' (.bx 2) = Owt ptrV 64 x.1 (ptrs ts.length (tPres ts) gd) ∧ T' (.bx 3) = Owt ptrV 66 x.2.1 (ptrs ts.length (tPres ts) gk) ∧
      (∀ i, i < ts.length → tPres ts i = true → T' (.pk i) = PSnk (gd i) (bd i) ⟨(ts.getD i tap0).1, []⟩ ∧ T' (.rk i) = RSnk (gk i) ⟨(ts.getD i tap0).1, []⟩) ∧ (∀ i, T' (.ps i) = T (.ps i)) ∧ (∀ i, T' (.rs i) = T (.rs i)) ∧ ∀ i, i ≠ 2 → i ≠ 3 → T' (.bx i) = T (.bx i)) w := by
  refine culletlaw24_sinks.run _ s w ?_
  generalize hR : (fun (e : Ending) (w' : World) => ∃ x : Sl × Sl × Unit, e = .returned ((Sh.tup [.at .sl, .at .sl]).enc x) ∧ ∃ (gd gk : Nat → Nat) (bd : Nat → Addr) (T' : Ths), Sep W0 w' T' ∧ T' (.bx 2) = Owt ptrV 64 x.1 (ptrs ts.length (tPres ts) gd) ∧ T' (.bx 3) = Owt ptrV 66 x.2.1 (ptrs ts.length (tPres ts) gk) ∧
      (∀ i, i < ts.length → tPres ts i = true → T' (.pk i) = PSnk (gd i) (bd i) ⟨(ts.getD i tap0).1, []⟩ ∧ T' (.rk i) = RSnk (gk i) ⟨(ts.getD i tap0).1, []⟩) ∧ (∀ i, T' (.ps i) = T (.ps i)) ∧ (∀ i, T' (.rs i) = T (.rs i)) ∧ ∀ i, i ≠ 2 → i ≠ 3 → T' (.bx i) = T (.bx i)) = R
  unfold culletlaw24_sinks.M culletlaw24_sinks.l1
  have hsl := hA.1
  refine loopW_of (fun st w1 => ∃ (i : Nat) (hv wt : Sl) (gd gk : Nat → Nat) (bd : Nat → Addr) (T1 : Ths), st = (hv, wt, s, ((s.len : Nat) : Int), (i : Int), ()) ∧ i ≤ ts.length ∧ Sep W0 w1 T1 ∧ T1 (.bx 2) = Owt ptrV 64 hv (ptrs i (tPres ts) gd) ∧ T1 (.bx 3) = Owt ptrV 66 wt (ptrs i (tPres ts) gk) ∧
      (∀ j, j < i → tPres ts j = true → T1 (.pk j) = PSnk (gd j) (bd j) ⟨(ts.getD j tap0).1, []⟩ ∧ T1 (.rk j) = RSnk (gk j) ⟨(ts.getD j tap0).1, []⟩) ∧ (∀ i, T1 (.ps i) = T (.ps i)) ∧ (∀ i, T1 (.rs i) = T (.rs i)) ∧ ∀ i, i ≠ 2 → i ≠ 3 → T1 (.bx i) = T (.bx i))
    (fun st _ => ((ts.length : Int) - st.2.2.2.2.1).toNat) ?_ ⟨0, ⟨none, 0, 0⟩, ⟨none, 0, 0⟩, fun _ => 0, fun _ => 0, fun _ => ⟨0, 0, none⟩, (T.up (.bx 2) (Owt ptrV 64 ⟨none, 0, 0⟩ [])).up (.bx 3) (Owt ptrV 66 ⟨none, 0, 0⟩ []), rfl, Nat.zero_le _,
      (hS.newOwn (.bx 2) (Ex.refl _) (Own.nil _ _ _ _)).newOwn (.bx 3) (Ex.refl _) (Own.nil _ _ _ _), by rw [Ths.up_ne _ _ (by simp), Ths.up_same]; rfl, by rw [Ths.up_same]; rfl, fun j hj => by omega, fun i => by rw [Ths.up_ne _ _ (by simp), Ths.up_ne _ _ (by simp)], fun i => by rw [Ths.up_ne _ _ (by simp), Ths.up_ne _ _ (by simp)],
      fun i h2 h3 => by rw [Ths.up_ne _ _ (by simpa using h3), Ths.up_ne _ _ (by simpa using h2)]⟩
  rintro k1 _ w1 ⟨i, hv, wt, gd, gk, bd, T1, rfl, hi, hS1, hhv, hwt, hall, hps, hrs, hbx⟩ hk1
  unfold culletlaw24_sinks.b1
  dsimp only at hk1 ⊢
  refine Cd_dec (fun hlt => ?_) (fun hge => ?_)
  · have hlt : i < ts.length := by omega
    refine Pu_idxA (hS1.oldA hA) (t := 28) (e := 62) (by kernel_rfl) (by kernel_rfl) (by omega) (by omega) fun a x hx hcell _ => ?_
    rw [Int.toNat_natCast] at hx
    have hgd := getD_of (d := tap0) hx
    refine Rd_agg (x := x) (by kernel_rfl) hcell ?_
    refine Wr_alloc zTap fun w2 hB2 hx2 => ?_
    refine Wu_all (ds := [.int .i64 x.1, .int .i64 x.2.1, .bool x.2.2.1]) hB2 (by kernel_rfl) (by intro u hu; simp only [List.mem_cons, List.not_mem_nil, or_false] at hu; rcases hu with rfl | rfl | rfl <;> rfl) rfl fun w3 hB3 hm3 => ?_
    have hx13 : Ex w1 w3 := hx2.into hm3 (fun i hi => Nat.le_of_eq (Eq.symm hi))
    have hS3 := hS1.box (.tm 0) hx13 hB3
    generalize w1.heap.size = g5 at hB3 hS3 ⊢
    refine Rd_has (c := .bool) (x := x.2.2.1) hB3 (by kernel_rfl) rfl ?_
    have hpres : tPres ts i = !x.2.2.1 := by unfold tPres; rw [hgd]
    have nxt : ∀ (w9 : World) (T9 : Ths) (hv' wt' : Sl) (a b : Option Nat) (br : Addr), Sep W0 w9 T9 → T9 (.bx 2) = Owt ptrV 64 hv' (ptrs i (tPres ts) gd ++ [a]) → T9 (.bx 3) = Owt ptrV 66 wt' (ptrs i (tPres ts) gk ++ [b]) →
        ((tPres ts i = true ∧ ∃ g g', a = some g ∧ b = some g' ∧ T9 (.pk i) = PSnk g br ⟨x.1, []⟩ ∧ T9 (.rk i) = RSnk g' ⟨x.1, []⟩) ∨ (tPres ts i = false ∧ a = none ∧ b = none)) → (∀ j, j ≠ i → T9 (.pk j) = T1 (.pk j)) → (∀ j, j ≠ i → T9 (.rk j) = T1 (.rk j)) → (∀ j, T9 (.ps j) = T1 (.ps j)) → (∀ j, T9 (.rs j) = T1 (.rs j)) → (∀ j, j ≠ 2 → j ≠ 3 → T9 (.bx j) = T1 (.bx j)) →
        culletlaw24_sinks.j1 R k1 hv' wt' s ((s.len : Nat) : Int) (i : Int) w9 := by
      intro w9 T9 hv' wt' a b br hS9 h2 h3 hor hpk hrk hps9 hrs9 hbx9
      unfold culletlaw24_sinks.j1
      rw [wrap64 (by omega) (by omega), show (i : Int) + 1 = ((i + 1 : Nat) : Int) by omega]
      have e2 : ∀ (G : Nat → Nat) (z : Option Nat), ((tPres ts i = true ∧ ∃ g, z = some g) ∨ (tPres ts i = false ∧ z = none)) → ptrs (i + 1) (tPres ts) (upN G i (z.getD 0)) = ptrs i (tPres ts) G ++ [z] := by
        intro G z hz
        rw [ptrs_succ (gd := G) (fun j hj => upN_ne _ _ (by omega)), upN_same]
        rcases hz with ⟨h, g, rfl⟩ | ⟨h, rfl⟩
        · rw [if_pos h]; rfl
        · rw [h]; rfl
      refine hk1 _ _ ⟨i + 1, hv', wt', upN gd i (a.getD 0), upN gk i (b.getD 0), upN bd i br, T9, rfl, by omega, hS9, ?_, ?_, ?_, fun j => (hps9 j).trans (hps j), fun j => (hrs9 j).trans (hrs j), fun j h h' => (hbx9 j h h').trans (hbx j h h')⟩ (by dsimp only; omega)
      · rw [e2 gd a (by rcases hor with ⟨h, g, g', rfl, _⟩ | ⟨h, rfl, _⟩; exact .inl ⟨h, g, rfl⟩; exact .inr ⟨h, rfl⟩)]; exact h2
      · rw [e2 gk b (by rcases hor with ⟨h, g, g', _, rfl, _⟩ | ⟨h, _, rfl⟩; exact .inl ⟨h, g', rfl⟩; exact .inr ⟨h, rfl⟩)]; exact h3
      · intro j hj hp
        by_cases hji : j = i
        · subst hji
          rcases hor with ⟨_, g, g', rfl, rfl, h5, h6⟩ | ⟨h, _⟩
          · rw [upN_same, upN_same, upN_same, hgd]; exact ⟨h5, h6⟩
          · rw [h] at hp; cases hp
        · rw [upN_ne _ _ hji, upN_ne _ _ hji, upN_ne _ _ hji, hpk j hji, hrk j hji]
          exact hall j (by omega) hp
    have hgl : (ptrs i (tPres ts) gd).length = i := ptrs_len _ _ _
    have hkl : (ptrs i (tPres ts) gk).length = i := ptrs_len _ _ _
    refine Cd_of (fun hb => ?_) (fun hb => ?_)
    · have hp : tPres ts i = false := by rw [hpres]; show (!x.2.2.1) = false; rw [show x.2.2.1 = true from hb]; rfl
      refine Wr_lit (f := ptrV) (e := 64) (base := w3.heap.size) [none] (by kernel_rfl) (Nat.le_refl _) (by simp) fun s4 w4 ho4 hx4 _ => ?_
      have hS4 := hS3.exx hx4
      have h24 : (T1.up (.tm 0) (Cel g5 [.int .i64 x.1, .int .i64 x.2.1, .bool x.2.2.1] 62)) (.bx 2) = Owt ptrV 64 hv (ptrs i (tPres ts) gd) := by rw [Ths.up_ne _ _ (by simp)]; exact hhv
      refine Wr_append (f := ptrV) (base := 0) tLPK iPK rfl (hS4.owt (k := .bx 2) h24) ho4.rds ptr_one (by rw [hgl]; simp; omega) (by rw [hgl]; simp; omega) (Nat.zero_le _) fun hv' w5 ho5 hm5 hin5 => ?_
      have hS5 := hS4.grow (k := .bx 2) h24 ho5 hm5 hin5
      refine Wr_lit (f := ptrV) (e := 66) (base := w5.heap.size) [none] (by kernel_rfl) (Nat.le_refl _) (by simp) fun s6 w6 ho6 hx6 _ => ?_
      have hS6 := hS5.exx hx6
      have h36 : ((T1.up (.tm 0) (Cel g5 [.int .i64 x.1, .int .i64 x.2.1, .bool x.2.2.1] 62)).up (.bx 2) (Owt ptrV 64 hv' (ptrs i (tPres ts) gd ++ [none]))) (.bx 3) = Owt ptrV 66 wt (ptrs i (tPres ts) gk) := by rw [Ths.up_ne _ _ (by simp), Ths.up_ne _ _ (by simp)]; exact hwt
      refine Wr_append (f := ptrV) (base := 0) tLRK iRK rfl (hS6.owt (k := .bx 3) h36) ho6.rds ptr_one (by rw [hkl]; simp; omega) (by rw [hkl]; simp; omega) (Nat.zero_le _) fun wt' w7 ho7 hm7 hin7 => ?_
      have hS7 := hS6.grow (k := .bx 3) h36 ho7 hm7 hin7
      refine nxt w7 _ hv' wt' none none ⟨0, 0, none⟩ hS7 (by rw [Ths.up_ne _ _ (by simp), Ths.up_same]) (Ths.up_same _ _ _) (.inr ⟨hp, rfl, rfl⟩) ?_ ?_ ?_ ?_ ?_
      · intro j _; rw [Ths.up_ne _ _ (by simp), Ths.up_ne _ _ (by simp), Ths.up_ne _ _ (by simp)]
      · intro j _; rw [Ths.up_ne _ _ (by simp), Ths.up_ne _ _ (by simp), Ths.up_ne _ _ (by simp)]
      · intro j; rw [Ths.up_ne _ _ (by simp), Ths.up_ne _ _ (by simp), Ths.up_ne _ _ (by simp)]
      · intro j; rw [Ths.up_ne _ _ (by simp), Ths.up_ne _ _ (by simp), Ths.up_ne _ _ (by simp)]
      · intro j h h'; rw [Ths.up_ne _ _ (by simpa using h'), Ths.up_ne _ _ (by simpa using h), Ths.up_ne _ _ (by simp)]
    · have hp : tPres ts i = true := by rw [hpres]; show (!x.2.2.1) = true; rw [show x.2.2.1 = false from hb]; rfl
      refine Rd_hasN (l := [.int .i64, .int .i64]) (x := (x.1, x.2.1, ())) hB3 (by kernel_rfl) rfl ?_
      refine Cl_mono (newSink_ok (.pk i) hS3) ?_
      rintro _ w4 ⟨⟨g, br, rfl, hS4⟩, hx4⟩
      have hB4 := hB3.ex hx4
      refine Wr_lit (f := ptrV) (e := 64) (base := w4.heap.size) [some g] (by kernel_rfl) (Nat.le_refl _) (by simp) fun s5 w5 ho5 hx5 _ => ?_
      have hS5 := hS4.exx hx5
      have h25 : ((T1.up (.tm 0) (Cel g5 [.int .i64 x.1, .int .i64 x.2.1, .bool x.2.2.1] 62)).up (.pk i) (PSnk g br ⟨x.1, []⟩)) (.bx 2) = Owt ptrV 64 hv (ptrs i (tPres ts) gd) := by rw [Ths.up_ne _ _ (by simp), Ths.up_ne _ _ (by simp)]; exact hhv
      refine Wr_append (f := ptrV) (base := 0) tLPK iPK rfl (hS5.owt (k := .bx 2) h25) ho5.rds ptr_one (by rw [hgl]; simp; omega) (by rw [hgl]; simp; omega) (Nat.zero_le _) fun hv' w6 ho6 hm6 hin6 => ?_
      have hS6 := hS5.grow (k := .bx 2) h25 ho6 hm6 hin6
      have hB6 := hS6.has (k := .tm 0) (by rw [Ths.up_ne _ _ (by simp), Ths.up_ne _ _ (by simp), Ths.up_same])
      refine Rd_has (c := .int .i64) (x := x.1) hB6 (by kernel_rfl) rfl ?_
      refine Wr_box fun w7 hB7 hx7 => ?_
      have hS7 := hS6.new (.rk i) (t := RSnk w6.heap.size ⟨x.1, []⟩) (G := fun b => b = w6.heap.size) hx7 ⟨⟨none, 0, 0⟩, hB7, Own.nil _ _ _ _, rfl, fun b hb => by obtain ⟨a, ha, _⟩ := hb; cases ha⟩ (fun b hb => by subst hb; exact ⟨Nat.le_refl _, hB7.lt⟩)
      generalize w6.heap.size = g' at hS7 ⊢
      refine Wr_lit (f := ptrV) (e := 66) (base := w7.heap.size) [some g'] (by kernel_rfl) (Nat.le_refl _) (by simp) fun s8 w8 ho8 hx8 _ => ?_
      have hS8 := hS7.exx hx8
      have h38 : ((((T1.up (.tm 0) (Cel g5 [.int .i64 x.1, .int .i64 x.2.1, .bool x.2.2.1] 62)).up (.pk i) (PSnk g br ⟨x.1, []⟩)).up (.bx 2) (Owt ptrV 64 hv' (ptrs i (tPres ts) gd ++ [some g]))).up (.rk i) (RSnk g' ⟨x.1, []⟩)) (.bx 3) = Owt ptrV 66 wt (ptrs i (tPres ts) gk) := by
        rw [Ths.up_ne _ _ (by simp), Ths.up_ne _ _ (by simp), Ths.up_ne _ _ (by simp), Ths.up_ne _ _ (by simp)]; exact hwt
      refine Wr_append (f := ptrV) (base := 0) tLRK iRK rfl (hS8.owt (k := .bx 3) h38) ho8.rds ptr_one (by rw [hkl]; simp; omega) (by rw [hkl]; simp; omega) (Nat.zero_le _) fun wt' w9 ho9 hm9 hin9 => ?_
      have hS9 := hS8.grow (k := .bx 3) h38 ho9 hm9 hin9
      refine nxt w9 _ hv' wt' (some g) (some g') br hS9 (by rw [Ths.up_ne _ _ (by simp), Ths.up_ne _ _ (by simp), Ths.up_same]) (Ths.up_same _ _ _) (.inl ⟨hp, g, g', rfl, rfl, ?_, ?_⟩) ?_ ?_ ?_ ?_ ?_
      · rw [Ths.up_ne _ _ (by simp), Ths.up_ne _ _ (by simp), Ths.up_ne _ _ (by simp), Ths.up_same]
      · rw [Ths.up_ne _ _ (by simp), Ths.up_same]
      · intro j hj; rw [Ths.up_ne _ _ (by simp), Ths.up_ne _ _ (by simp), Ths.up_ne _ _ (by simp), Ths.up_ne _ _ (by simpa using hj), Ths.up_ne _ _ (by simp)]
      · intro j hj; rw [Ths.up_ne _ _ (by simp), Ths.up_ne _ _ (by simpa using hj), Ths.up_ne _ _ (by simp), Ths.up_ne _ _ (by simp), Ths.up_ne _ _ (by simp)]
      · intro j; rw [Ths.up_ne _ _ (by simp), Ths.up_ne _ _ (by simp), Ths.up_ne _ _ (by simp), Ths.up_ne _ _ (by simp), Ths.up_ne _ _ (by simp)]
      · intro j; rw [Ths.up_ne _ _ (by simp), Ths.up_ne _ _ (by simp), Ths.up_ne _ _ (by simp), Ths.up_ne _ _ (by simp), Ths.up_ne _ _ (by simp)]
      · intro j h h'; rw [Ths.up_ne _ _ (by simpa using h'), Ths.up_ne _ _ (by simp), Ths.up_ne _ _ (by simpa using h), Ths.up_ne _ _ (by simp), Ths.up_ne _ _ (by simp)]
  · have hi' : i = ts.length := by omega
    subst hi'
    subst hR
    exact ⟨(hv, wt, ()), rfl, gd, gk, bd, T1, hS1, hhv, hwt, hall, hps, hrs, hbx⟩
end Go.Proofs.YtmmejgneelkhkaaDoor
