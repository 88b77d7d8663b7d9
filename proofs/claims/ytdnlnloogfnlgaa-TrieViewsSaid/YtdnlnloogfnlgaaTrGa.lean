/- All's iterator, round by round. -/
import Derived.Test.YtdnlnloogfnlgaaTrT
import Derived.Test.YtdnlnloogfnlgaaLiftR
set_option linter.all false
namespace Go.Proofs.Ytdnlnloogfnlgaa
open Go Go.Cu Go.RowKit
set_option linter.unusedVariables false
set_option maxHeartbeats 4000000
noncomputable def all1R.body : Code := (Try.f65.body).getD .skip
def all1R.b1 (R : Ending → World → Prop) (k1 : (Value × Sl × Int × Int × Unit) → World → Prop) (yield_0 : Value) (t5 : Sl) (t6 : Int) (t7 : Int) (w : World) : Prop :=
  Cd (decide (t7 < t6)) (Pu Try.prog (Instr.indexAt 45 (.slice t5.base t5.len t5.cap) (.int .i64 t7)) (.one (.at .addr)) (fun (x3 : Addr) w4 =>
  Rd Try.prog (Instr.loadAt 29 (.pointer (some x3))) (.one (.at .sl)) (fun (x5 : Sl) w6 =>
  Wr Try.prog (Builtin.append_ #[29, 29] 29 #[(.slice none 0 0), (.slice x5.base x5.len x5.cap)]) (.one (.at .sl)) (fun (x7 : Sl) w8 =>
  Yd Try.prog (do let d ← Deferred.ofValue yield_0 #[(.slice x7.base x7.len x7.cap)]; invoke d.target d.args) (.one (.at .bool)) (fun (x9 : Bool) w10 =>
  Cd (!x9) (R (.returned (.tuple #[])) w10) (k1 (yield_0, t5, t6, (IntKind.wrap .i64 (t7 + 1)), ()) w10)) w8) w6) w4) w) (R (.returned (.tuple #[])) w)
def all1R.l1 (R : Ending → World → Prop) : (Value × Sl × Int × Int × Unit) → World → Prop := loopW (fun k1 s w => all1R.b1 R k1 s.1 s.2.1 s.2.2.1 s.2.2.2.1 w)
def all1R.M (R : Ending → World → Prop) (yield_0 : Value) (free_t1 : Addr) (w : World) : Prop :=
  Rd Try.prog (Instr.loadAt 45 (.pointer (some free_t1))) (.one (.at .sl)) (fun (x1 : Sl) w2 =>
  all1R.l1 R (yield_0, x1, ((x1.len : Nat) : Int), 0, ()) w2) w
noncomputable def all1R.ann (R : Ending → World → Prop) : Ann :=
  .seq (.reg (.op 0 (.rd (.one (.at .sl))) (.op 1 .now (.op 2 .now (.done))))) (.block (.loop [(0, .at .any), (5, .at .sl), (6, .at (.int .i64)), (7, .at (.int .i64))] (fun k1 s w => all1R.b1 R k1 s.1 s.2.1 s.2.2.1 s.2.2.2.1 w) (fun k1 => .seq (.reg (.op 0 .now (.done))) (.seq (.cond (.leaf) (.leaf)) (.seq (.block (.seq (.reg (.op 0 (.pu (.one (.at .addr))) (.op 1 (.rd (.one (.at .sl))) (.op 2 .now (.done))))) (.seq (.reg (.op 0 .now (.op 1 .now (.op 2 (.wr (.one (.at .sl))) (.op 3 (.nx (.one (.at .bool))) (.op 4 .now (.done))))))) (.cond (.leaf) (.leaf))))) (.reg (.op 0 .now (.op 1 .now (.done)))))))))
theorem all1R.run (R : Ending → World → Prop) (yield_0 : Value) (free_t1 : Addr) (w : World) (h : all1R.M R yield_0 free_t1 w) : Calls Try.prog 65 #[yield_0, (.pointer (some free_t1))] w R := by
  refine callsR_of_lift Try.func65 (c := all1R.body) (by kernel_rfl) [] (all1R.ann R) 17 (by kernel_rfl) [] (by kernel_rfl) (Nat.le_of_ble_eq_true (by kernel_rfl)) ?_ ?_
  · exact ⟨trivial, (fun k1 => ⟨fun s w h => Eq.mp (by kernel_rfl) h, ⟨trivial, ⟨⟨trivial, trivial⟩, ⟨⟨trivial, ⟨trivial, ⟨trivial, trivial⟩⟩⟩, trivial⟩⟩⟩⟩)⟩
  · exact Eq.mp (show all1R.M R yield_0 free_t1 w = _ by kernel_rfl) h
/-- a round of loop l, asked for with x -/
def Rounds (l : Nat) (v : Value) (w : World) (R : Ending → World → Prop) : Prop :=
  ∃ f tmps assign body, (Instr.yield l #[v]).run Try.prog w = .ok (.round l f tmps assign body) w ∧ RoundIn Fence.wide 0 Try.prog l f tmps assign body w R
theorem all1_ok {bx l : Nat} {sl : Sl} {keys : List Path} {F : Nat → Prop} (I : Nat → World → Prop) (J : World → Prop) (hlen : keys.length ≤ 1024) (hkl : ∀ k ∈ keys, k.length ≤ 300)
    (hI : ∀ i w, I i w → Has w bx [slv sl] 45 ∧ Nest i64v F w sl keys)
    (hround : ∀ (i : Nat) (hi : i < keys.length) (s : Sl) (w1 w2 : World), I i w1 → Ex w1 w2 → Own i64v 3 w1.heap.size w2 s keys[i] →
      Rounds l (slv s) w2 fun e w' => (e = .returned (.bool true) ∧ I (i + 1) w') ∨ (e = .returned (.bool false) ∧ J w'))
    (w : World) (h0 : I 0 w) : Calls Try.prog 65 #[.func (.yield l) #[] #[], .pointer (some ⟨bx, 0, none⟩)] w fun e w' => e = .returned (.tuple #[]) ∧ (I keys.length w' ∨ J w') := by
  refine all1R.run _ _ _ w ?_
  unfold all1R.M
  obtain ⟨hB, hn⟩ := hI 0 w h0
  refine Rd_has (c := .sl) (x := sl) hB (by kernel_rfl) rfl ?_
  unfold all1R.l1
  rw [nest_len hn]
  refine loopW_of (fun st w' => st.1 = .func (.yield l) #[] #[] ∧ st.2.1 = sl ∧ st.2.2.1 = (keys.length : Int) ∧ ∃ i : Nat, i ≤ keys.length ∧ st.2.2.2.1 = (i : Int) ∧ I i w') (fun st _ => keys.length - st.2.2.2.1.toNat) ?_
    ⟨rfl, rfl, rfl, 0, Nat.zero_le _, rfl, h0⟩
  rintro k ⟨y', s', n', i', u⟩ w' hI' hk
  dsimp only at hI' hk ⊢
  obtain ⟨rfl, rfl, rfl, i, hi, rfl, hii⟩ := hI'
  unfold all1R.b1
  refine Cd_dec (fun hlt => ?_) (fun hge => ?_)
  · have hik : i < keys.length := by omega
    obtain ⟨hB', ss, r1, r2, _, r4⟩ := hI i w' hii
    refine Pu_idx r1 tII sII (by omega) (by omega) fun a x hx1 hc1 _ => ?_
    refine Rd_one (c := .sl) (x := x) oII hc1 ?_
    rw [Int.toNat_natCast] at hx1
    obtain ⟨hxr, _⟩ := r4 i x _ hx1 (List.getElem?_eq_getElem hik)
    have hkl' := hkl _ (List.getElem_mem hik)
    refine Wr_append (s := ⟨none, 0, 0⟩) (l := []) tI iI rfl (Own.nil i64v 3 w'.heap.size w') hxr (fun y => rfl) (by simp; omega) (by simp; omega) (Nat.le_refl _) fun s2 w2 ho2 hm2 _ => ?_
    rw [List.nil_append] at ho2
    have hx2 : Ex w' w2 := hm2.new (fun i ⟨a, ha, _⟩ => by cases ha)
    obtain ⟨f, tmps, assign, body, hy, hr⟩ := hround i hik s2 w' w2 hii hx2 ho2
    refine ⟨l, f, tmps, assign, body, hy, hr.mono fun e w3 he => ?_⟩
    rcases he with ⟨rfl, hi1⟩ | ⟨rfl, hj⟩
    · refine ⟨true, rfl, Cd_f ?_⟩
      rw [wrap64 (x := (i : Int) + 1) (by omega) (by omega)]
      exact hk _ _ ⟨rfl, rfl, rfl, i + 1, by omega, by simp, hi1⟩ (by simp only; omega)
    · exact ⟨false, rfl, Cd_t ⟨rfl, .inr hj⟩⟩
  · have : i = keys.length := by omega
    subst this
    exact ⟨rfl, .inl hii⟩
/-- what Under gives, whatever the trie -/
def UnderGives (p : Option Addr) (w : World) (K : List Path → Prop) : Prop :=
  Calls Try.prog 29 #[.pointer p, slv nilS] w fun en w' => ∃ s' ks, en = .returned (slv s') ∧ NestOwn i64v 3 29 w.heap.size w' s' ks ∧ K ks ∧ ks.length ≤ 1024 ∧ (∀ k ∈ ks, k.length ≤ 300) ∧ Ex w w'
theorem all_ok {p : Option Addr} {w : World} {K : List Path → Prop} (h : UnderGives p w K) :
    Calls Try.prog 39 #[.pointer p] w fun en w' => ∃ bx sl ks, en = .returned (.func (.func 65) #[] #[.pointer (some ⟨bx, 0, none⟩)]) ∧ Has w' bx [slv sl] 45 ∧ Nest i64v (fun b => w.heap.size ≤ b ∧ b < bx) w' sl ks ∧ w.heap.size ≤ bx ∧ K ks ∧ ks.length ≤ 1024 ∧ (∀ k ∈ ks, k.length ≤ 300) ∧ Ex w w' := by
  refine trie_Trie_All.run _ _ w ?_
  unfold trie_Trie_All.M
  refine Calls.mono h ?_
  rintro en w1 ⟨s1, ks, rfl, hn1, hK, hl, hkl, hx1⟩
  refine ⟨s1, rfl, ?_⟩
  refine Wr_alloc (z := slv nilS) (by kernel_rfl) fun w2 hB2 hx2 => ?_
  refine Wu_store (v := slv s1) hB2 (by kernel_rfl) (by simp [Value.cells, Value.oneCell']) (Nat.le_of_ble_eq_true (by kernel_rfl)) fun w3 hB3 hm3 => ?_
  have hx3 : Ex w1 w3 := hx2.into hm3 (fun i hi => by rw [hi]; exact Nat.le_refl _)
  exact ⟨w1.heap.size, s1, ks, rfl, hB3, (hn1.nest.ex hx3), hx1.size, hK, hl, hkl, hx1.trans hx3⟩
end Go.Proofs.Ytdnlnloogfnlgaa
