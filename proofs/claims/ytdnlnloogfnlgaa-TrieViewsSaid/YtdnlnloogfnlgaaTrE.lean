/- A new trie; Get and Peek. -/
import Derived.Test.YtdnlnloogfnlgaaTrD
set_option linter.all false
namespace Go.Proofs.Ytdnlnloogfnlgaa
open Go Go.Cu Go.RowKit
set_option linter.unusedVariables false
set_option maxHeartbeats 2000000
def upd {α : Type} (f : Path → α) (p : Path) (v : α) : Path → α := fun q => if q = p then v else f q
theorem upd_same {α : Type} (f : Path → α) (p : Path) (v : α) : upd f p v p = v := if_pos rfl
theorem upd_other {α : Type} (f : Path → α) {p q : Path} (v : α) (h : q ≠ p) : upd f p v q = f q := if_neg h
abbrev Ent := List Int × List (List Int)
/-- what a trie keeps, the last used first -/
structure Ents (es : List Ent) (ns : List Path) (y : Lay) (lim clock : Int) : Prop where
  here : ∀ p ∈ ns, y.here p = true ↔ ∃ e ∈ es, e.1 = p
  rows : ∀ e ∈ es, e.1 ∈ ns ∧ y.rows e.1 = e.2
  le : ∀ e ∈ es, RowsLe e.2
  nodup : (es.map (·.1)).Nodup
  order : es.Pairwise (fun a b => y.used b.1 < y.used a.1)
  clk : ∀ e ∈ es, y.used e.1 ≤ clock
  clk0 : 0 ≤ clock
  pos : ∀ e ∈ es, 0 ≤ y.used e.1
  clean : ∀ p ∈ ns, p = [] ∨ ∃ e ∈ es, p <+: e.1
  good : ∀ e ∈ es, goodB e.1 = true
  uniq : ns.Nodup
  room : (es.length : Int) ≤ lim
  lim1 : 1 ≤ lim
  lim2 : lim ≤ 1024
theorem goodFrom_prefix : ∀ {l m : List Int} {p : Int}, l <+: m → goodFrom p m = true → goodFrom p l = true
  | [], _, _, _, _ => rfl
  | x :: l, [], _, h, _ => by obtain ⟨t, ht⟩ := h; cases ht
  | x :: l, y :: m, p, h, hg => by
    rw [List.cons_prefix_cons] at h
    obtain ⟨rfl, h⟩ := h
    unfold goodFrom at hg ⊢
    rw [Bool.and_eq_true] at hg ⊢
    exact ⟨hg.1, goodFrom_prefix h hg.2⟩
theorem Ents.goodN {es : List Ent} {ns : List Path} {y : Lay} {lim clock : Int} (h : Ents es ns y lim clock) : ∀ p ∈ ns, goodB p = true := by
  intro p hp
  rcases h.clean p hp with rfl | ⟨e, he, hpe⟩
  · rfl
  · exact goodFrom_prefix hpe (h.good e he)
def TrieSt (w : World) (own : Nat → Prop) (tb : Nat) (lim : Int) (es : List Ent) (clock : Int) : Prop := ∃ vown ns y, Mem w own vown tb lim es.length clock ns y ∧ Ents es ns y lim clock
theorem TrieSt.mo {w w' : World} {own X : Nat → Prop} {tb : Nat} {lim clock : Int} {es : List Ent} (h : TrieSt w own tb lim es clock) (k : Mo X w w') (hx : ∀ b, own b → ¬ X b) : TrieSt w' own tb lim es clock := by
  obtain ⟨v, ns, y, h1, h2⟩ := h; exact ⟨v, ns, y, h1.mo k hx, h2⟩
theorem TrieSt.ex {w w' : World} {own : Nat → Prop} {tb : Nat} {lim clock : Int} {es : List Ent} (h : TrieSt w own tb lim es clock) (k : Ex w w') : TrieSt w' own tb lim es clock := h.mo k (fun _ _ => id)
theorem Cl_gvp {f : FuncId} {args : Array Value} {x : Option Addr} {k : Option Addr → World → Prop} {w : World} (h : Gv Try.prog f args (.pointer x) w) (hk : ∀ w', Ex w w' → k x w') : Cl Try.prog f args (.one (.at .ptr)) k w := Cl_gv (d := .one (.at .ptr)) (x := x) h hk
/-- a new node -/
theorem fresh_ok (w : World) : Calls Try.prog 40 #[] w fun en w' => ∃ m b, en = .returned (.pointer (some ⟨b, 0, none⟩)) ∧ Has w' b [.map (some m), .bool false, slv ⟨none, 0, 0⟩, .int .i64 0] 81 ∧ MapIs w' m [] ∧
    w.heap.size ≤ b ∧ w.heap.size ≤ m ∧ m < w'.heap.size ∧ Ex w w' := by
  refine trie_fresh.run _ w ?_
  unfold trie_fresh.M
  refine Wr_makeMap fun w1 hm1 hx1 => ?_
  refine Wr_box fun w2 hB2 hx2 => ?_
  exact ⟨w.heap.size, w1.heap.size, rfl, hB2, hm1.ex hx2, hx1.size, Nat.le_refl _, (hm1.ex hx2).lt, hx1.trans hx2⟩
/-- New -/
theorem new_ok (lim : Int) (w : World) : Calls Try.prog 11 #[.int .i64 lim] w fun en w' => Ex w w' ∧
    ((lim < 1 ∨ lim > 1024) ∧ en = .returned (.tuple #[.pointer none, .int .i64 7]) ∨ ¬ (lim < 1 ∨ lim > 1024) ∧ ∃ tb, en = .returned (.tuple #[.pointer (some ⟨tb, 0, none⟩), .int .i64 0]) ∧ w.heap.size ≤ tb ∧
      TrieSt w' (fun b => w.heap.size ≤ b ∧ b < w'.heap.size) tb lim [] 0) := by
  refine trie_New.run _ lim w ?_
  unfold trie_New.M
  have bad : ∀ b : Bool, (b = true → lim < 1 ∨ lim > 1024) → (b = false → ¬ (lim < 1 ∨ lim > 1024)) → trie_New.j1 (fun en w' => Ex w w' ∧ ((lim < 1 ∨ lim > 1024) ∧ en = .returned (.tuple #[.pointer none, .int .i64 7]) ∨ ¬ (lim < 1 ∨ lim > 1024) ∧ ∃ tb, en = .returned (.tuple #[.pointer (some ⟨tb, 0, none⟩), .int .i64 0]) ∧ w.heap.size ≤ tb ∧
      TrieSt w' (fun b => w.heap.size ≤ b ∧ b < w'.heap.size) tb lim [] 0)) lim b w := by
    intro b h1 h2
    unfold trie_New.j1
    refine Cd_of (fun hb => ⟨Ex.refl w, .inl ⟨h1 hb, rfl⟩⟩) (fun hb => ?_)
    refine Calls.mono (fresh_ok w) ?_
    rintro en w1 ⟨m, b1, rfl, hB, hm, hb1, hm1, hml, hx1⟩
    refine ⟨some ⟨b1, 0, none⟩, rfl, ?_⟩
    refine Wr_box fun w2 hB2 hx2 => ⟨hx1.trans hx2, .inr ⟨h2 hb, w1.heap.size, rfl, hx1.size, ?_⟩⟩
    have hg := h2 hb
    refine ⟨fun _ => False, [[]], { nd := fun _ => b1, mp := fun _ => m, here := fun _ => false, val := fun _ => ⟨none, 0, 0⟩, rows := fun _ => [], used := fun _ => 0 }, ?_, ?_⟩
    · refine { top := hB2, node := fun p hp => hB.ex hx2, kids := fun p hp => ⟨[], hm.ex hx2, fun x v => ⟨fun h => by simp at h, fun h => ?_⟩⟩, injN := ?_, injM := ?_, topN := ?_, vals := fun p hp h => (by cases h), ownN := ?_, ownT := ⟨⟨hx1.size, hB2.lt⟩, id⟩, ownV := fun b h => h.elim, ownL := fun b h => h.2, root := by simp, pre := ?_ }
      · have hp : p = [] := by simpa using hp
        have := h.1
        rw [hp] at this
        simp at this
      · intro p hp q hq _
        have hp : p = [] := by simpa using hp
        have hq : q = [] := by simpa using hq
        rw [hp, hq]
      · intro p hp q hq _
        have hp : p = [] := by simpa using hp
        have hq : q = [] := by simpa using hq
        rw [hp, hq]
      · intro p hp e
        have := hB.lt
        have e : b1 = w1.heap.size := e
        omega
      · intro p hp
        exact ⟨⟨hb1, (hB.ex hx2).lt⟩, ⟨hm1, (hm.ex hx2).lt⟩, id, id⟩
      · intro p x hp
        simp at hp
    · refine { here := fun p hp => by simp, rows := by simp, le := by simp, nodup := by simp, order := by simp, clk := by simp, clk0 := Int.le_refl _, pos := by simp, clean := fun p hp => .inl (by simpa using hp), good := by simp, uniq := by simp, room := ?_, lim1 := ?_, lim2 := ?_ }
      · show ((0 : Nat) : Int) ≤ lim; omega
      · omega
      · omega
  refine Cd_dec (fun h => bad true (fun _ => .inl h) (fun h => by cases h)) (fun h => bad _ (fun h2 => .inr (of_decide_eq_true h2)) (fun h2 hn => ?_))
  have := of_decide_eq_false h2
  omega
/-- the clock goes on, and the node has its time -/
theorem use_ok {w : World} {own vown : Nat → Prop} {tb : Nat} {lim n clock : Int} {ns : List Path} {y : Lay} {p : Path} (h : Mem w own vown tb lim n clock ns y) (hp : p ∈ ns) (h0 : 0 ≤ clock) (hc : clock < 9223372036854775807) :
    Calls Try.prog 44 #[.pointer (some ⟨tb, 0, none⟩), .pointer (ndP y p)] w fun en w' => en = .returned (.tuple #[]) ∧ Mem w' own vown tb lim n (clock + 1) ns { y with used := upd y.used p (clock + 1) } ∧ Mo own w w' := by
  refine trie_Trie_use.run _ _ _ w ?_
  unfold trie_Trie_use.M
  refine Pu_nil ?_
  refine Rd_has h.top (by kernel_rfl) rfl ?_
  refine Pu_nil ?_
  rw [wrap64 (x := clock + 1) (by omega) (by omega)]
  refine Wu_store (v := .int .i64 (clock + 1)) h.top sI (by simp [Value.cells, Value.oneCell']) (Nat.le_of_ble_eq_true (by kernel_rfl)) fun w1 hB1 hm1 => ?_
  have hB1' : Has w1 tb (topV y lim n (clock + 1)) 77 := hB1
  have h1 := h.top_set hB1' hm1
  refine Pu_nil ?_
  refine Rd_has h1.top (by kernel_rfl) rfl ?_
  refine Pu_nil ?_
  refine Wu_store (v := .int .i64 (clock + 1)) (h1.node p hp) sI (by simp [Value.cells, Value.oneCell']) (Nat.le_of_ble_eq_true (by kernel_rfl)) fun w2 hB2 hm2 => ?_
  refine ⟨rfl, ?_, ?_⟩
  · refine h1.node_set hp hm2 rfl rfl ?_ (fun q hq => ⟨rfl, rfl, rfl, upd_other _ _ hq⟩) (fun hh => (h1.vals p hp hh).mo hm2 (fun b hb e => (h1.ownN p hp).2.2.1 (by rw [← (show b = y.nd p from e)]; exact hb)))
    show Has w2 (y.nd p) [.map (some (y.mp p)), .bool (y.here p), slv (y.val p), .int .i64 (upd y.used p (clock + 1) p)] _
    rw [upd_same]
    exact hB2
  · refine (hm1.weak (fun b _ hb => ?_)).trans (hm2.weak (Y := own) (fun b _ hb => ?_)) (fun _ => id) (fun _ _ => id)
    · rw [hb]; exact h.ownT.1
    · rw [hb]; exact (h.ownN p hp).1
end Go.Proofs.Ytdnlnloogfnlgaa
