/- A trie in memory, and its finds. -/
import Derived.Test.YtdnlnloogfnlgaaTrA
set_option linter.all false
namespace Go.Proofs.Ytdnlnloogfnlgaa
open Go Go.Cu Go.RowKit
set_option linter.unusedVariables false
set_option maxHeartbeats 2000000
abbrev Path := List Int
/-- where a trie's nodes lie, and what they hold -/
structure Lay where
  nd : Path → Nat
  mp : Path → Nat
  here : Path → Bool
  val : Path → Sl
  rows : Path → List (List Int)
  used : Path → Int
abbrev nodeV (y : Lay) (p : Path) : List Value := [.map (some (y.mp p)), .bool (y.here p), slv (y.val p), .int .i64 (y.used p)]
abbrev topV (y : Lay) (lim n clock : Int) : List Value := [.pointer (some ⟨y.nd [], 0, none⟩), .int .i64 lim, .int .i64 n, .int .i64 clock]
abbrev ndP (y : Lay) (p : Path) : Option Addr := some ⟨y.nd p, 0, none⟩
structure Mem (w : World) (own vown : Nat → Prop) (tb : Nat) (lim n clock : Int) (ns : List Path) (y : Lay) : Prop where
  top : Has w tb (topV y lim n clock) 77
  node : ∀ p ∈ ns, Has w (y.nd p) (nodeV y p) 81
  kids : ∀ p ∈ ns, ∃ l, MapIs w (y.mp p) l ∧ ∀ x v, (x, v) ∈ l ↔ (p ++ [x] ∈ ns ∧ v = .pointer (ndP y (p ++ [x])))
  injN : ∀ p ∈ ns, ∀ q ∈ ns, y.nd p = y.nd q → p = q
  injM : ∀ p ∈ ns, ∀ q ∈ ns, y.mp p = y.mp q → p = q
  topN : ∀ p ∈ ns, y.nd p ≠ tb
  vals : ∀ p ∈ ns, y.here p = true → Nest b8 vown w (y.val p) (y.rows p)
  ownN : ∀ p ∈ ns, own (y.nd p) ∧ own (y.mp p) ∧ ¬ vown (y.nd p) ∧ ¬ vown (y.mp p)
  ownT : own tb ∧ ¬ vown tb
  ownV : ∀ b, vown b → own b
  ownL : ∀ b, own b → b < w.heap.size
  root : [] ∈ ns
  pre : ∀ p x, p ++ [x] ∈ ns → p ∈ ns
theorem has_not_map {w : World} {b c : Nat} {cs : List Value} {t : TypeId} {l : List (Int × Value)} (h : Has w b cs t) (m : MapIs w c l) : b ≠ c := by
  rintro rfl
  obtain ⟨es, k, h1, _⟩ := m
  unfold Has at h
  rw [h] at h1; cases h1
theorem Mem.mo {w w' : World} {own vown X : Nat → Prop} {tb : Nat} {lim n clock : Int} {ns : List Path} {y : Lay} (h : Mem w own vown tb lim n clock ns y) (k : Mo X w w') (hx : ∀ b, own b → ¬ X b) : Mem w' own vown tb lim n clock ns y :=
  { h with
    top := h.top.mo k (hx _ h.ownT.1)
    node := fun p hp => (h.node p hp).mo k (hx _ (h.ownN p hp).1)
    kids := fun p hp => by obtain ⟨l, h1, h2⟩ := h.kids p hp; exact ⟨l, h1.mo k (hx _ (h.ownN p hp).2.1), h2⟩
    vals := fun p hp hh => (h.vals p hp hh).mo k (fun b hb => hx b (h.ownV b hb))
    ownL := fun b hb => Nat.lt_of_lt_of_le (h.ownL b hb) k.size }
theorem Mem.ex {w w' : World} {own vown : Nat → Prop} {tb : Nat} {lim n clock : Int} {ns : List Path} {y : Lay} (h : Mem w own vown tb lim n clock ns y) (k : Ex w w') : Mem w' own vown tb lim n clock ns y := h.mo k (fun _ _ => id)
/-- the trie's own numbers are written -/
theorem Mem.top_set {w w' : World} {own vown : Nat → Prop} {tb : Nat} {lim n clock n' clock' : Int} {ns : List Path} {y : Lay} (h : Mem w own vown tb lim n clock ns y) (ht : Has w' tb (topV y lim n' clock') 77) (k : Mo (fun b => b = tb) w w') : Mem w' own vown tb lim n' clock' ns y :=
  { h with
    top := ht
    node := fun p hp => (h.node p hp).mo k (h.topN p hp)
    kids := fun p hp => by obtain ⟨l, h1, h2⟩ := h.kids p hp; exact ⟨l, h1.mo k (fun e => has_not_map h.top h1 e.symm), h2⟩
    vals := fun p hp hh => (h.vals p hp hh).mo k (fun b hb e => h.ownT.2 (e ▸ hb))
    ownL := fun b hb => Nat.lt_of_lt_of_le (h.ownL b hb) k.size }
/-- one node is written -/
theorem Mem.node_set {w w' : World} {own vown : Nat → Prop} {tb : Nat} {lim n clock : Int} {ns : List Path} {y y' : Lay} {p : Path} (h : Mem w own vown tb lim n clock ns y) (hp : p ∈ ns) (k : Mo (fun b => b = y.nd p) w w')
    (hn : y'.nd = y.nd) (hm : y'.mp = y.mp) (hB : Has w' (y.nd p) (nodeV y' p) 81) (hq : ∀ q, q ≠ p → y'.here q = y.here q ∧ y'.val q = y.val q ∧ y'.rows q = y.rows q ∧ y'.used q = y.used q)
    (hv : y'.here p = true → Nest b8 vown w' (y'.val p) (y'.rows p)) : Mem w' own vown tb lim n clock ns y' := by
  have hne : ∀ q ∈ ns, q ≠ p → y.nd q ≠ y.nd p := fun q hqn hne e => hne (h.injN q hqn p hp e)
  refine { h with
    top := ?_, node := fun q hqn => ?_, kids := fun q hqn => ?_, injN := ?_, injM := ?_, topN := ?_, vals := fun q hqn hh => ?_, ownN := ?_, ownL := fun b hb => Nat.lt_of_lt_of_le (h.ownL b hb) k.size }
  · show Has w' tb [.pointer (some ⟨y'.nd [], 0, none⟩), _, _, _] _
    rw [hn]; exact h.top.mo k (fun e => h.topN p hp e.symm)
  · by_cases hqp : q = p
    · subst hqp; rw [hn]; exact hB
    · obtain ⟨e1, e2, e3, e4⟩ := hq q hqp
      show Has w' (y'.nd q) [.map (some (y'.mp q)), .bool (y'.here q), slv (y'.val q), .int .i64 (y'.used q)] _
      rw [hn, hm, e1, e2, e4]
      exact (h.node q hqn).mo k (hne q hqn hqp)
  · obtain ⟨l, h1, h2⟩ := h.kids q hqn
    refine ⟨l, ?_, fun x v => ?_⟩
    · rw [hm]; exact h1.mo k (fun e => has_not_map (h.node p hp) h1 e.symm)
    · show _ ↔ (_ ∧ v = .pointer (some ⟨y'.nd _, 0, none⟩))
      rw [hn]; exact h2 x v
  · rw [hn]; exact h.injN
  · rw [hm]; exact h.injM
  · rw [hn]; exact h.topN
  · by_cases hqp : q = p
    · subst hqp; exact hv hh
    · obtain ⟨e1, e2, e3, _⟩ := hq q hqp
      rw [e1] at hh
      rw [e2, e3]
      exact (h.vals q hqn hh).mo k (fun b hb e => (h.ownN p hp).2.2.1 (e ▸ hb))
  · rw [hn, hm]; exact h.ownN
theorem tN : Try.prog.underlying 74 = some (.pointer 81) := by kernel_rfl
theorem tT : Try.prog.underlying 23 = some (.pointer 77) := by kernel_rfl
theorem tMap : Try.prog.underlying 79 = some (.map 3 74) := by kernel_rfl
theorem uInt : Try.prog.underlying 3 = some (.int .i64) := by kernel_rfl
theorem zN : (Try.prog.info? 74).bind (·.zero) = some (.pointer none) := by kernel_rfl
/-- a node's child, looked up -/
theorem Mem.child {w : World} {own vown : Nat → Prop} {tb : Nat} {lim n clock : Int} {ns : List Path} {y : Lay} {p : Path} {x : Int} (h : Mem w own vown tb lim n clock ns y) (hp : p ∈ ns) :
    ∃ l, MapIs w (y.mp p) l ∧ (∀ x v, (x, v) ∈ l ↔ (p ++ [x] ∈ ns ∧ v = .pointer (ndP y (p ++ [x])))) ∧ getM (.pointer none) (lk l x 0) = .pointer (if p ++ [x] ∈ ns then ndP y (p ++ [x]) else none) := by
  obtain ⟨l, h1, h2⟩ := h.kids p hp
  refine ⟨l, h1, h2, ?_⟩
  split
  · rename_i hin
    exact getM_mem h1 ((h2 x _).2 ⟨hin, rfl⟩)
  · rename_i hin
    exact getM_not fun v hv => hin ((h2 x v).1 hv).1
theorem pre_take {ns : List Path} (hpre : ∀ p x, p ++ [x] ∈ ns → p ∈ ns) {l : Path} : ∀ (d i : Nat), l.length - i = d → l.take (i) ∉ ns → l ∉ ns
  | 0, i, hd, h => by rw [List.take_of_length_le (by omega)] at h; exact h
  | d + 1, i, hd, h => by
    refine pre_take hpre d (i + 1) (by omega) (fun hn => h ?_)
    have hi : i < l.length := by omega
    rw [List.take_add_one, List.getElem?_eq_getElem hi] at hn
    exact hpre _ _ hn
theorem find_gv {w : World} {own vown : Nat → Prop} {tb : Nat} {lim n clock : Int} {ns : List Path} {y : Lay} (h : Mem w own vown tb lim n clock ns y) (hgood : ∀ p ∈ ns, goodB p = true) (s : Sl) (l : Path) (hr : Rds i64v w s l) (hl : l.length ≤ 9223372036854775806) :
    Gv Try.prog 51 #[.pointer (some ⟨tb, 0, none⟩), slv s] (.pointer (if l ∈ ns then ndP y l else none)) w := by
  refine trie_Trie_find.run _ _ s w ?_
  unfold trie_Trie_find.M
  refine Pu_eqnil tT ?_
  refine Cd_f ?_
  refine Pu_nil ?_
  refine Rd_has h.top (by kernel_rfl) rfl ?_
  refine Pu_eqnil tN ?_
  refine Cd_f ?_
  refine Cl_gv (isKey_gv s l w hr hl) fun w1 hx1 => ?_
  unfold trie_Trie_find.j1
  refine Cd_not (fun hk => ?_) (fun hk => ?_)
  · have : l ∉ ns := fun hn => by rw [hgood l hn] at hk; cases hk
    exact ⟨by rw [if_neg this], hx1⟩
  refine Pu_nil ?_
  have h1 := h.ex hx1
  refine Rd_has h1.top (by kernel_rfl) rfl ?_
  unfold trie_Trie_find.l1
  rw [hr.1]
  refine loopW_of (fun st w' => Ex w w' ∧ st.2.1 = s ∧ st.2.2.1 = (l.length : Int) ∧ ∃ i : Nat, i ≤ l.length ∧ st.2.2.2.1 = (i : Int) ∧ l.take i ∈ ns ∧ st.1 = ndP y (l.take i)) (fun st _ => l.length - st.2.2.2.1.toNat) ?_
    ⟨hx1, rfl, rfl, 0, Nat.zero_le _, rfl, h.root, rfl⟩
  rintro k ⟨p', s', n', i', u⟩ w' hI hk
  dsimp only at hI hk ⊢
  obtain ⟨hx, rfl, rfl, i, hi, rfl, hin, rfl⟩ := hI
  unfold trie_Trie_find.b1
  have h' := h.ex hx
  refine Cd_dec (fun hlt => ?_) (fun hge => ?_)
  · refine Pu_idx (hr.ex hx) tI sI (by omega) (by omega) fun a x hx1 hc1 _ => ?_
    refine Rd_one (c := .int .i64) (x := x) oI hc1 ?_
    rw [Int.toNat_natCast] at hx1
    refine Pu_nil ?_
    have hnode := h'.node _ hin
    refine Rd_has (c := .map) (x := some (y.mp (l.take i))) hnode (by kernel_rfl) rfl ?_
    obtain ⟨kl, hm, _, hget⟩ := h'.child (x := x) hin
    have htk : l.take i ++ [x] = l.take (i + 1) := by rw [List.take_add_one, hx1]; rfl
    refine Rd_lookup tMap uInt zN hm hget ?_
    refine Pu_eqnil tN ?_
    by_cases hnx : l.take i ++ [x] ∈ ns
    · rw [if_pos hnx]
      refine Cd_f ?_
      rw [wrap64 (x := (i : Int) + 1) (by omega) (by omega)]
      rw [htk] at hnx ⊢
      exact hk _ _ ⟨hx, rfl, rfl, i + 1, by omega, by simp, hnx, rfl⟩ (by simp only; omega)
    · rw [if_neg hnx]
      refine Cd_t ?_
      rw [htk] at hnx
      exact ⟨by rw [if_neg (pre_take h.pre _ (i + 1) rfl hnx)], hx⟩
  · have : i = l.length := by omega
    subst this
    rw [List.take_length] at hin ⊢
    exact ⟨by rw [if_pos hin], hx⟩
theorem holder_gv {w : World} {own vown : Nat → Prop} {tb : Nat} {lim n clock : Int} {ns : List Path} {y : Lay} (h : Mem w own vown tb lim n clock ns y) (hgood : ∀ p ∈ ns, goodB p = true) (s : Sl) (l : Path) (hr : Rds i64v w s l) (hl : l.length ≤ 9223372036854775806) :
    Gv Try.prog 42 #[.pointer (some ⟨tb, 0, none⟩), slv s] (.pointer (if l ∈ ns ∧ y.here l = true then ndP y l else none)) w := by
  refine trie_Trie_holder.run _ _ s w ?_
  unfold trie_Trie_holder.M
  refine Cl_gv (find_gv h hgood s l hr hl) fun w1 hx1 => ?_
  refine Pu_nenil tN ?_
  by_cases hin : l ∈ ns
  · rw [if_pos hin]
    refine Cd_t ?_
    refine Pu_nil ?_
    refine Rd_has (c := .bool) (x := y.here l) ((h.ex hx1).node l hin) (by kernel_rfl) rfl ?_
    unfold trie_Trie_holder.j1
    refine Cd_of (fun hh => ⟨by rw [if_pos ⟨hin, hh⟩], hx1⟩) (fun hh => ⟨by rw [if_neg (fun hn => by rw [hn.2] at hh; cases hh)], hx1⟩)
  · rw [if_neg hin]
    refine Cd_f ?_
    unfold trie_Trie_holder.j1
    refine Cd_f ?_
    exact ⟨by rw [if_neg (fun hn => hin hn.1)], hx1⟩
end Go.Proofs.Ytdnlnloogfnlgaa
/- A new trie; Get and Peek. -/
namespace Go.Proofs.Ytdnlnloogfnlgaa
open Go Go.Cu Go.RowKit
set_option linter.unusedVariables false
set_option maxHeartbeats 2000000
def upd {α : Type} (f : Path → α) (p : Path) (v : α) : Path → α := fun q => if q = p then v else f q
theorem upd_same {α : Type} (f : Path → α) (p : Path) (v : α) : upd f p v p = v := if_pos rfl
theorem upd_other {α : Type} (f : Path → α) {p q : Path} (v : α) (h : q ≠ p) : upd f p v q = f q := if_neg h
abbrev Ent := List Int × List (List Int)
/-- what a trie keeps, the last used first -/
structure Ents (es : List Ent) (ns : List Path) (y : Lay) (lim clock : Int) : Prop where
  here : ∀ p ∈ ns, y.here p = true ↔ ∃ e ∈ es, e.1 = p
  rows : ∀ e ∈ es, e.1 ∈ ns ∧ y.rows e.1 = e.2
  le : ∀ e ∈ es, RowsLe e.2
  nodup : (es.map (·.1)).Nodup
  order : es.Pairwise (fun a b => y.used b.1 < y.used a.1)
  clk : ∀ e ∈ es, y.used e.1 ≤ clock
  clk0 : 0 ≤ clock
  pos : ∀ e ∈ es, 0 ≤ y.used e.1
  clean : ∀ p ∈ ns, p = [] ∨ ∃ e ∈ es, p <+: e.1
  good : ∀ e ∈ es, goodB e.1 = true
  uniq : ns.Nodup
  room : (es.length : Int) ≤ lim
  lim1 : 1 ≤ lim
  lim2 : lim ≤ 1024
theorem goodFrom_prefix : ∀ {l m : List Int} {p : Int}, l <+: m → goodFrom p m = true → goodFrom p l = true
  | [], _, _, _, _ => rfl
  | x :: l, [], _, h, _ => by obtain ⟨t, ht⟩ := h; cases ht
  | x :: l, y :: m, p, h, hg => by
    rw [List.cons_prefix_cons] at h
    obtain ⟨rfl, h⟩ := h
    unfold goodFrom at hg ⊢
    rw [Bool.and_eq_true] at hg ⊢
    exact ⟨hg.1, goodFrom_prefix h hg.2⟩
theorem Ents.goodN {es : List Ent} {ns : List Path} {y : Lay} {lim clock : Int} (h : Ents es ns y lim clock) : ∀ p ∈ ns, goodB p = true := by
  intro p hp
  rcases h.clean p hp with rfl | ⟨e, he, hpe⟩
  · rfl
  · exact goodFrom_prefix hpe (h.good e he)
def TrieSt (w : World) (own : Nat → Prop) (tb : Nat) (lim : Int) (es : List Ent) (clock : Int) : Prop := ∃ vown ns y, Mem w own vown tb lim es.length clock ns y ∧ Ents es ns y lim clock
theorem TrieSt.mo {w w' : World} {own X : Nat → Prop} {tb : Nat} {lim clock : Int} {es : List Ent} (h : TrieSt w own tb lim es clock) (k : Mo X w w') (hx : ∀ b, own b → ¬ X b) : TrieSt w' own tb lim es clock := by
  obtain ⟨v, ns, y, h1, h2⟩ := h; exact ⟨v, ns, y, h1.mo k hx, h2⟩
theorem TrieSt.ex {w w' : World} {own : Nat → Prop} {tb : Nat} {lim clock : Int} {es : List Ent} (h : TrieSt w own tb lim es clock) (k : Ex w w') : TrieSt w' own tb lim es clock := h.mo k (fun _ _ => id)
theorem Cl_gvp {f : FuncId} {args : Array Value} {x : Option Addr} {k : Option Addr → World → Prop} {w : World} (h : Gv Try.prog f args (.pointer x) w) (hk : ∀ w', Ex w w' → k x w') : Cl Try.prog f args (.one (.at .ptr)) k w := Cl_gv (d := .one (.at .ptr)) (x := x) h hk
/-- a new node -/
theorem fresh_ok (w : World) : Calls Try.prog 40 #[] w fun en w' => ∃ m b, en = .returned (.pointer (some ⟨b, 0, none⟩)) ∧ Has w' b [.map (some m), .bool false, slv ⟨none, 0, 0⟩, .int .i64 0] 81 ∧ MapIs w' m [] ∧
    w.heap.size ≤ b ∧ w.heap.size ≤ m ∧ m < w'.heap.size ∧ Ex w w' := by
  refine trie_fresh.run _ w ?_
  unfold trie_fresh.M
  refine Wr_makeMap fun w1 hm1 hx1 => ?_
  refine Wr_box fun w2 hB2 hx2 => ?_
  exact ⟨w.heap.size, w1.heap.size, rfl, hB2, hm1.ex hx2, hx1.size, Nat.le_refl _, (hm1.ex hx2).lt, hx1.trans hx2⟩
/-- New -/
theorem new_ok (lim : Int) (w : World) : Calls Try.prog 11 #[.int .i64 lim] w fun en w' => Ex w w' ∧
    ((lim < 1 ∨ lim > 1024) ∧ en = .returned (.tuple #[.pointer none, .int .i64 7]) ∨ ¬ (lim < 1 ∨ lim > 1024) ∧ ∃ tb, en = .returned (.tuple #[.pointer (some ⟨tb, 0, none⟩), .int .i64 0]) ∧ w.heap.size ≤ tb ∧
      TrieSt w' (fun b => w.heap.size ≤ b ∧ b < w'.heap.size) tb lim [] 0) := by
  refine trie_New.run _ lim w ?_
  unfold trie_New.M
  have bad : ∀ b : Bool, (b = true → lim < 1 ∨ lim > 1024) → (b = false → ¬ (lim < 1 ∨ lim > 1024)) → trie_New.j1 (fun en w' => Ex w w' ∧ ((lim < 1 ∨ lim > 1024) ∧ en = .returned (.tuple #[.pointer none, .int .i64 7]) ∨ ¬ (lim < 1 ∨ lim > 1024) ∧ ∃ tb, en = .returned (.tuple #[.pointer (some ⟨tb, 0, none⟩), .int .i64 0]) ∧ w.heap.size ≤ tb ∧
      TrieSt w' (fun b => w.heap.size ≤ b ∧ b < w'.heap.size) tb lim [] 0)) lim b w := by
    intro b h1 h2
    unfold trie_New.j1
    refine Cd_of (fun hb => ⟨Ex.refl w, .inl ⟨h1 hb, rfl⟩⟩) (fun hb => ?_)
    refine Calls.mono (fresh_ok w) ?_
    rintro en w1 ⟨m, b1, rfl, hB, hm, hb1, hm1, hml, hx1⟩
    refine ⟨some ⟨b1, 0, none⟩, rfl, ?_⟩
    refine Wr_box fun w2 hB2 hx2 => ⟨hx1.trans hx2, .inr ⟨h2 hb, w1.heap.size, rfl, hx1.size, ?_⟩⟩
    have hg := h2 hb
    refine ⟨fun _ => False, [[]], { nd := fun _ => b1, mp := fun _ => m, here := fun _ => false, val := fun _ => ⟨none, 0, 0⟩, rows := fun _ => [], used := fun _ => 0 }, ?_, ?_⟩
    · refine { top := hB2, node := fun p hp => hB.ex hx2, kids := fun p hp => ⟨[], hm.ex hx2, fun x v => ⟨fun h => by simp at h, fun h => ?_⟩⟩, injN := ?_, injM := ?_, topN := ?_, vals := fun p hp h => (by cases h), ownN := ?_, ownT := ⟨⟨hx1.size, hB2.lt⟩, id⟩, ownV := fun b h => h.elim, ownL := fun b h => h.2, root := by simp, pre := ?_ }
      · have hp : p = [] := by simpa using hp
        have := h.1
        rw [hp] at this
        simp at this
      · intro p hp q hq _
        have hp : p = [] := by simpa using hp
        have hq : q = [] := by simpa using hq
        rw [hp, hq]
      · intro p hp q hq _
        have hp : p = [] := by simpa using hp
        have hq : q = [] := by simpa using hq
        rw [hp, hq]
      · intro p hp e
        have := hB.lt
        have e : b1 = w1.heap.size := e
        omega
      · intro p hp
        exact ⟨⟨hb1, (hB.ex hx2).lt⟩, ⟨hm1, (hm.ex hx2).lt⟩, id, id⟩
      · intro p x hp
        simp at hp
    · refine { here := fun p hp => by simp, rows := by simp, le := by simp, nodup := by simp, order := by simp, clk := by simp, clk0 := Int.le_refl _, pos := by simp, clean := fun p hp => .inl (by simpa using hp), good := by simp, uniq := by simp, room := ?_, lim1 := ?_, lim2 := ?_ }
      · show ((0 : Nat) : Int) ≤ lim; omega
      · omega
      · omega
  refine Cd_dec (fun h => bad true (fun _ => .inl h) (fun h => by cases h)) (fun h => bad _ (fun h2 => .inr (of_decide_eq_true h2)) (fun h2 hn => ?_))
  have := of_decide_eq_false h2
  omega
/-- the clock goes on, and the node has its time -/
theorem use_ok {w : World} {own vown : Nat → Prop} {tb : Nat} {lim n clock : Int} {ns : List Path} {y : Lay} {p : Path} (h : Mem w own vown tb lim n clock ns y) (hp : p ∈ ns) (h0 : 0 ≤ clock) (hc : clock < 9223372036854775807) :
    Calls Try.prog 44 #[.pointer (some ⟨tb, 0, none⟩), .pointer (ndP y p)] w fun en w' => en = .returned (.tuple #[]) ∧ Mem w' own vown tb lim n (clock + 1) ns { y with used := upd y.used p (clock + 1) } ∧ Mo own w w' := by
  refine trie_Trie_use.run _ _ _ w ?_
  unfold trie_Trie_use.M
  refine Pu_nil ?_
  refine Rd_has h.top (by kernel_rfl) rfl ?_
  refine Pu_nil ?_
  rw [wrap64 (x := clock + 1) (by omega) (by omega)]
  refine Wu_store (v := .int .i64 (clock + 1)) h.top sI (by simp [Value.cells, Value.oneCell']) (Nat.le_of_ble_eq_true (by kernel_rfl)) fun w1 hB1 hm1 => ?_
  have hB1' : Has w1 tb (topV y lim n (clock + 1)) 77 := hB1
  have h1 := h.top_set hB1' hm1
  refine Pu_nil ?_
  refine Rd_has h1.top (by kernel_rfl) rfl ?_
  refine Pu_nil ?_
  refine Wu_store (v := .int .i64 (clock + 1)) (h1.node p hp) sI (by simp [Value.cells, Value.oneCell']) (Nat.le_of_ble_eq_true (by kernel_rfl)) fun w2 hB2 hm2 => ?_
  refine ⟨rfl, ?_, ?_⟩
  · refine h1.node_set hp hm2 rfl rfl ?_ (fun q hq => ⟨rfl, rfl, rfl, upd_other _ _ hq⟩) (fun hh => (h1.vals p hp hh).mo hm2 (fun b hb e => (h1.ownN p hp).2.2.1 (by rw [← (show b = y.nd p from e)]; exact hb)))
    show Has w2 (y.nd p) [.map (some (y.mp p)), .bool (y.here p), slv (y.val p), .int .i64 (upd y.used p (clock + 1) p)] _
    rw [upd_same]
    exact hB2
  · refine (hm1.weak (fun b _ hb => ?_)).trans (hm2.weak (Y := own) (fun b _ hb => ?_)) (fun _ => id) (fun _ _ => id)
    · rw [hb]; exact h.ownT.1
    · rw [hb]; exact (h.ownN p hp).1
end Go.Proofs.Ytdnlnloogfnlgaa
