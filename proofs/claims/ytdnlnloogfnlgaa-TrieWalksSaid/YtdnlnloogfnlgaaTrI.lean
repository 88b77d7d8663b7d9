/- The walk over a trie's nodes: what it lists. -/
import Derived.Test.YtdnlnloogfnlgaaTrF
import Derived.Test.YtdnlnloogfnlgaaTrSort
import Derived.Test.YtdnlnloogfnlgaaSortLib
set_option linter.all false
namespace Go.Proofs.Ytdnlnloogfnlgaa
open Go Go.Cu Go.RowKit
set_option linter.unusedVariables false
set_option maxHeartbeats 2000000
/-- keys in order -/
def lessP : Path → Path → Prop
  | [], [] => False
  | [], _ :: _ => True
  | _ :: _, [] => False
  | x :: a, y :: b => x < y ∨ (x = y ∧ lessP a b)
theorem less_ext (p : Path) (a b : Path) : lessP (p ++ a) (p ++ b) ↔ lessP a b := by
  induction p with
  | nil => rfl
  | cons x p ih => simp [lessP, ih]
theorem less_prefix (p : Path) (x : Int) (t : Path) : lessP p (p ++ x :: t) := by
  have := (less_ext p [] (x :: t)).2 trivial
  rwa [List.append_nil] at this
abbrev fAts : List At := [.sl, .int .i64]
abbrev Fd : Type := Ats fAts
/-- a list of what was found, of one's own, each key in memory of one's own -/
def FoundAt (base : Nat) (w : World) (s : Sl) (ks : List (Path × Int)) : Prop :=
  ∃ es : List Fd, OwnA fAts 89 base w s es ∧ es.length = ks.length ∧ ∀ (i : Nat) (e : Fd) (k : Path × Int), es[i]? = some e → ks[i]? = some k → e.2.1 = k.2 ∧ Own i64v 3 base w e.1 k.1 ∧ ∀ b, SlIn e.1 b → ¬ SlIn s b
theorem FoundAt.mo {base : Nat} {X : Nat → Prop} {w w' : World} {s : Sl} {ks : List (Path × Int)} (h : FoundAt base w s ks) (k : Mo X w w') (hx : ∀ b, base ≤ b → b < w.heap.size → ¬ X b) : FoundAt base w' s ks := by
  obtain ⟨es, h1, h2, h3⟩ := h
  refine ⟨es, h1.mo k (fun b hb => hx b (h1.base b hb).1 (h1.base b hb).2), h2, fun i e q he hq => ?_⟩
  obtain ⟨g1, g2, g3⟩ := h3 i e q he hq
  exact ⟨g1, g2.mo k (fun b hb => hx b (g2.base b hb).1 (g2.base b hb).2), g3⟩
theorem FoundAt.ex {base : Nat} {w w' : World} {s : Sl} {ks : List (Path × Int)} (h : FoundAt base w s ks) (k : Ex w w') : FoundAt base w' s ks := h.mo k (fun _ _ _ => id)
theorem FoundAt.nil (base : Nat) (w : World) : FoundAt base w nilS [] := ⟨[], OwnA.nil _ _ _ _, rfl, fun i e k h => (by simp at h)⟩
theorem FoundAt.base {base : Nat} {w : World} {s : Sl} {ks : List (Path × Int)} (h : FoundAt base w s ks) : ∀ b, SlIn s b → base ≤ b ∧ b < w.heap.size := by obtain ⟨es, h1, _⟩ := h; exact h1.base
theorem FoundAt.len {base : Nat} {w : World} {s : Sl} {ks : List (Path × Int)} (h : FoundAt base w s ks) : s.len = ks.length := by obtain ⟨es, h1, h2, _⟩ := h; rw [h1.1, h2]
theorem fd_one (y : Fd) : ∀ u ∈ encAts fAts y, u.oneCell' = true := by
  intro u hu
  simp only [fAts, encAts, List.mem_cons, List.not_mem_nil, or_false] at hu
  rcases hu with rfl | rfl <;> rfl
theorem tF : Try.prog.underlying 85 = some (.slice 89) := by kernel_rfl
/-- what the walk below p lists -/
structure Listed (y : Lay) (ns : List Path) (p : Path) (out : List (Path × Int)) : Prop where
  order : out.Pairwise fun a b => lessP a.1 b.1
  mem : ∀ k u, (k, u) ∈ out ↔ (k ∈ ns ∧ p <+: k ∧ y.here k = true ∧ u = y.used k)
theorem Listed.join {y : Lay} {ns : List Path} {p : Path} {xs : List Int} {outs : List (List (Path × Int))} (hpre : ∀ p x, p ++ [x] ∈ ns → p ∈ ns) (hp : p ∈ ns) (hs : xs.Pairwise (· < ·)) (hx : ∀ x, x ∈ xs ↔ p ++ [x] ∈ ns) (hlen : outs.length = xs.length)
    (ho : ∀ (i : Nat) x o, xs[i]? = some x → outs[i]? = some o → Listed y ns (p ++ [x]) o) : Listed y ns p ((if y.here p = true then [(p, y.used p)] else []) ++ outs.flatten) := by
  have hout : ∀ o ∈ outs, ∃ x ∈ xs, Listed y ns (p ++ [x]) o := by
    intro o hoo
    obtain ⟨i, hi⟩ := List.getElem?_of_mem hoo
    have hil : i < xs.length := by rw [← hlen]; exact (List.getElem?_eq_some_iff.1 hi).1
    exact ⟨xs[i], List.getElem_mem hil, ho i _ o (List.getElem?_eq_getElem hil) hi⟩
  constructor
  · rw [List.pairwise_append]
    refine ⟨?_, ?_, ?_⟩
    · split <;> simp
    · rw [List.pairwise_flatten]
      refine ⟨fun o hoo => by obtain ⟨x, _, h⟩ := hout o hoo; exact h.order, ?_⟩
      rw [List.pairwise_iff_getElem]
      intro i j hi hj hij a ha b hb
      have hi' : i < xs.length := by omega
      have hj' : j < xs.length := by omega
      obtain ⟨ka, ua⟩ := a
      obtain ⟨kb, ub⟩ := b
      have h1 := (ho i _ _ (List.getElem?_eq_getElem hi') (List.getElem?_eq_getElem hi)).mem ka ua |>.1 ha
      have h2 := (ho j _ _ (List.getElem?_eq_getElem hj') (List.getElem?_eq_getElem hj)).mem kb ub |>.1 hb
      obtain ⟨ta, hta⟩ := h1.2.1
      obtain ⟨tb, htb⟩ := h2.2.1
      show lessP ka kb
      rw [← hta, ← htb, List.append_assoc, List.append_assoc, less_ext]
      exact .inl (List.pairwise_iff_getElem.1 hs i j hi' hj' hij)
    · intro a ha b hb
      split at ha
      · simp only [List.mem_cons, List.not_mem_nil, or_false] at ha
        subst ha
        obtain ⟨o, hoo, hbo⟩ := List.mem_flatten.1 hb
        obtain ⟨x, _, hL⟩ := hout o hoo
        obtain ⟨kb, ub⟩ := b
        obtain ⟨t, ht⟩ := ((hL.mem kb ub).1 hbo).2.1
        show lessP p kb
        rw [← ht, List.append_assoc]
        exact less_prefix p x t
      · simp at ha
  · intro k u
    rw [List.mem_append, List.mem_flatten]
    constructor
    · rintro (h | ⟨o, hoo, h⟩)
      · split at h
        · rename_i hh
          simp only [List.mem_cons, List.not_mem_nil, or_false, Prod.mk.injEq] at h
          obtain ⟨rfl, rfl⟩ := h
          exact ⟨hp, List.prefix_refl _, hh, rfl⟩
        · simp at h
      · obtain ⟨x, _, hL⟩ := hout o hoo
        obtain ⟨g1, g2, g3, g4⟩ := (hL.mem k u).1 h
        exact ⟨g1, (List.prefix_append p [x]).trans g2, g3, g4⟩
    · rintro ⟨g1, ⟨t, rfl⟩, g3, rfl⟩
      cases t with
      | nil => left; rw [List.append_nil] at g3 ⊢; rw [if_pos g3]; simp
      | cons x t =>
        right
        have htk : (p ++ x :: t).take (p.length + 1) = p ++ [x] := by
          rw [show p ++ x :: t = (p ++ [x]) ++ t by simp, show p.length + 1 = (p ++ [x]).length by simp, List.take_left]
        have hin : p ++ [x] ∈ ns := by
          refine Classical.byContradiction fun hn => ?_
          exact pre_take hpre _ (p.length + 1) rfl (by rw [htk]; exact hn) g1
        have hxm := (hx x).2 hin
        obtain ⟨i, hi⟩ := List.getElem?_of_mem hxm
        have hil : i < outs.length := by rw [hlen]; exact (List.getElem?_eq_some_iff.1 hi).1
        exact ⟨outs[i], List.getElem_mem hil, ((ho i x _ hi (List.getElem?_eq_getElem hil)).mem _ _).2 ⟨g1, ⟨t, by simp⟩, g3, rfl⟩⟩
end Go.Proofs.Ytdnlnloogfnlgaa
/- The walk over a trie's nodes. -/
namespace Go.Proofs.Ytdnlnloogfnlgaa
open Go Go.Cu Go.RowKit
set_option linter.unusedVariables false
set_option maxHeartbeats 4000000
theorem iF : (Try.prog.info? 89).map (fun i => (i.zero, i.size, i.bytes)) = some (some (.agg #[slv nilS, .int .i64 0]), fAts.length, 32) := by kernel_rfl
theorem less_irr : ∀ p : Path, ¬ lessP p p
  | [] => id
  | x :: a => fun h => by
    rcases h with h | ⟨_, h⟩
    · omega
    · exact less_irr a h
theorem Listed.nodup {y : Lay} {ns : List Path} {p : Path} {out : List (Path × Int)} (h : Listed y ns p out) : (out.map (·.1)).Nodup := by
  unfold List.Nodup
  rw [List.pairwise_map]
  exact h.order.imp fun {a b} hab (e : a.1 = b.1) => less_irr b.1 (by rw [e] at hab; exact hab)
/-- numbers sorted by the library -/
theorem sort_ok (s : Sl) (l : List Int) (base : Nat) (w : World) (ho : Own i64v 3 base w s l) (hl : l.length < 4611686018427387904) (hn : l.Nodup) :
    Calls Try.prog 66 #[slv s] w fun en w' => ∃ xs : List Int, en = .returned (.tuple #[]) ∧ Own i64v 3 base w' s xs ∧ Mo (SlIn s) w w' ∧ xs.Pairwise (· < ·) ∧ (∀ x, x ∈ xs ↔ x ∈ l) ∧ xs.length = l.length := by
  cases hb : s.base with
  | none =>
    have hl0 : l = [] := by
      cases l with
      | nil => rfl
      | cons y r => obtain ⟨a, ha, _⟩ := ho.rds.2.2 0 y rfl; rw [hb] at ha; cases ha
    have hs0 : s.len = 0 := by rw [ho.1, hl0]; rfl
    have := Try.slices_Sort_int_none s.base s.cap w
    rw [← hs0] at this
    refine this.mono ?_
    rintro e w' ⟨rfl, rfl⟩
    subst hl0
    exact ⟨[], rfl, ho, Mo.refl _ _, List.Pairwise.nil, fun x => Iff.rfl, rfl⟩
  | some a =>
    obtain ⟨g, rfl, hH, hg, _⟩ := ho.holds hb
    have := Try.slices_Sort_int g 0 s.cap l w hH hg hl
    rw [← ho.1, ← hb] at this
    refine this.mono ?_
    rintro e w' ⟨rfl, n, os, rfl⟩
    have hperm : (l.mergeSort fun x y => decide (x ≤ y)).Perm l := List.mergeSort_perm l _
    obtain ⟨h1, h2⟩ := ho.put hb hperm.length_eq n os
    refine ⟨_, rfl, h1, h2, ?_, fun x => hperm.mem_iff, hperm.length_eq⟩
    have hs : (l.mergeSort fun x y => decide (x ≤ y)).Pairwise (fun x y => decide (x ≤ y) = true) := List.pairwise_mergeSort (fun a b c => by simp; omega) (fun a b => by simp; omega) l
    have hnd : (l.mergeSort fun x y => decide (x ≤ y)).Nodup := hperm.nodup_iff.2 hn
    refine (hs.and hnd).imp fun h => ?_
    have := of_decide_eq_true h.1
    have := h.2
    omega
theorem order_join {y : Lay} {ns : List Path} {p : Path} {xs : List Int} {outs : List (List (Path × Int))} (hs : xs.Pairwise (· < ·)) (hlen : outs.length ≤ xs.length) (ho : ∀ (i : Nat) x o, xs[i]? = some x → outs[i]? = some o → Listed y ns (p ++ [x]) o) (b : Bool) (u : Int) :
    ((if b = true then [(p, u)] else []) ++ outs.flatten).Pairwise fun a b => lessP a.1 b.1 := by
  rw [List.pairwise_append]
  refine ⟨?_, ?_, ?_⟩
  · split <;> simp
  · rw [List.pairwise_flatten]
    refine ⟨fun o hoo => ?_, ?_⟩
    · obtain ⟨i, hi⟩ := List.getElem?_of_mem hoo
      have hil : i < xs.length := by have := (List.getElem?_eq_some_iff.1 hi).1; omega
      exact (ho i _ o (List.getElem?_eq_getElem hil) hi).order
    rw [List.pairwise_iff_getElem]
    intro i j hi hj hij a ha b hb
    have hi' : i < xs.length := by omega
    have hj' : j < xs.length := by omega
    obtain ⟨ka, ua⟩ := a
    obtain ⟨kb, ub⟩ := b
    have h1 := (ho i _ _ (List.getElem?_eq_getElem hi') (List.getElem?_eq_getElem hi)).mem ka ua |>.1 ha
    have h2 := (ho j _ _ (List.getElem?_eq_getElem hj') (List.getElem?_eq_getElem hj)).mem kb ub |>.1 hb
    obtain ⟨ta, hta⟩ := h1.2.1
    obtain ⟨tb, htb⟩ := h2.2.1
    show lessP ka kb
    rw [← hta, ← htb, List.append_assoc, List.append_assoc, less_ext]
    exact .inl (List.pairwise_iff_getElem.1 hs i j hi' hj' hij)
  · intro a ha b hb
    split at ha
    · simp only [List.mem_cons, List.not_mem_nil, or_false] at ha
      subst ha
      obtain ⟨o, hoo, hbo⟩ := List.mem_flatten.1 hb
      obtain ⟨i, hi⟩ := List.getElem?_of_mem hoo
      have hil : i < xs.length := by have := (List.getElem?_eq_some_iff.1 hi).1; omega
      obtain ⟨kb, ub⟩ := b
      obtain ⟨t, ht⟩ := (((ho i _ o (List.getElem?_eq_getElem hil) hi).mem kb ub).1 hbo).2.1
      show lessP p kb
      rw [← ht, List.append_assoc]
      exact less_prefix p _ t
    · simp at ha
/-- what is held at the start of a walk below p, and given at its end -/
structure WalkPre (own : Nat → Prop) (base : Nat) (y : Lay) (ns : List Path) (p : Path) (key list : Sl) (ks : List (Path × Int)) (w : World) : Prop where
  rd : Rds i64v w key p
  keyB : ∀ a, key.base = some a → a.block < w.heap.size ∧ ¬ SlIn list a.block
  fnd : FoundAt base w list ks
  le : base ≤ w.heap.size
  nodup : (ks.map (·.1)).Nodup
  ksI : ∀ k ∈ ks, (k.1 ∈ ns ∧ y.here k.1 = true) ∧ ¬ p <+: k.1
abbrev WalkPost (base : Nat) (y : Lay) (ns : List Path) (p : Path) (list : Sl) (ks : List (Path × Int)) (w : World) (en : Ending) (w' : World) : Prop :=
  ∃ s' out, en = .returned (slv s') ∧ FoundAt base w' s' (ks ++ out) ∧ Mo (SlIn list) w w' ∧ (∀ b, SlIn s' b → SlIn list b ∨ w.heap.size ≤ b) ∧ Listed y ns p out
theorem found_snoc {base : Nat} {w0 w1 w2 w3 : World} {list s' key : Sl} {ks : List (Path × Int)} {p : Path} {u : Int} (h : FoundAt base w0 list ks) (hx : Ex w0 w1) (hk : Own i64v 3 base w1 key p) (hnew : ∀ b, SlIn key b → w0.heap.size ≤ b)
    (hx2 : Ex w1 w2) (es : List Fd) (hes : OwnA fAts 89 base w0 list es) (hlen : es.length = ks.length) (hi : ∀ (i : Nat) (e : Fd) (k : Path × Int), es[i]? = some e → ks[i]? = some k → e.2.1 = k.2 ∧ Own i64v 3 base w0 e.1 k.1 ∧ ∀ b, SlIn e.1 b → ¬ SlIn list b)
    (ho : OwnA fAts 89 base w3 s' (es ++ [(key, u, ())])) (hm : Mo (SlIn list) w2 w3) (hin : ∀ b, SlIn s' b → SlIn list b ∨ w2.heap.size ≤ b) : FoundAt base w3 s' (ks ++ [(p, u)]) := by
  refine ⟨_, ho, by simp [hlen], fun i e k he hk' => ?_⟩
  rcases snoc_cases he with ⟨he', hlt⟩ | ⟨rfl, rfl⟩
  · rw [List.getElem?_append_left (by omega)] at hk'
    obtain ⟨g1, g2, g3⟩ := hi i e k he' hk'
    refine ⟨g1, ((g2.ex hx).ex hx2).mo hm g3, fun b hb hbs => ?_⟩
    rcases hin b hbs with h' | h'
    · exact g3 b hb h'
    · have := (g2.base b hb).2; have := hx.size; have := hx2.size; omega
  · rw [hlen, List.getElem?_append_right (Nat.le_refl _), Nat.sub_self] at hk'
    simp at hk'
    subst hk'
    have hdis : ∀ b, SlIn key b → ¬ SlIn list b := fun b hb hbl => by have := hnew b hb; have := (hes.base b hbl).2; omega
    refine ⟨rfl, (hk.ex hx2).mo hm hdis, fun b hb hbs => ?_⟩
    rcases hin b hbs with h' | h'
    · exact hdis b hb h'
    · have := (hk.base b hb).2; have := hx2.size; omega
/-- the numbers of the children, collected and sorted, and what comes behind -/
theorem walk_ok {own vown : Nat → Prop} {tb : Nat} {lim n clock : Int} {y : Lay} {ns : List Path} (base : Nat) (hob : ∀ b, own b → b < base) (hcap : ∀ l : List Path, l.Nodup → (∀ k ∈ l, k ∈ ns ∧ y.here k = true) → l.length ≤ 1024) (hlen : ∀ k ∈ ns, k.length ≤ 300) (h256 : ∀ (p : Path) (xs : List Int), xs.Nodup → (∀ x ∈ xs, p ++ [x] ∈ ns) → xs.length ≤ 300) :
    ∀ (d : Nat) (p : Path) (key list : Sl) (ks : List (Path × Int)) (w : World), Mem w own vown tb lim n clock ns y → p ∈ ns → (∀ x ∈ ns, p <+: x → x.length ≤ p.length + d) → WalkPre own base y ns p key list ks w →
      Calls Try.prog 47 #[.pointer (ndP y p), slv key, slv list] w (WalkPost base y ns p list ks w) := by
  intro d
  induction d using Nat.strongRecOn with
  | _ d ih =>
  intro p key list ks w h hp hd hpre
  have hpl := hlen p hp
  refine trie_node_walk.run _ _ key list w ?_
  unfold trie_node_walk.M
  refine Pu_nil ?_
  refine Rd_has (c := .bool) (x := y.here p) (h.node p hp) (by kernel_rfl) rfl ?_
  -- behind the node's own entry
  have j1f : ∀ (list1 : Sl) (w1 : World), (∀ b, SlIn list1 b → SlIn list b ∨ w.heap.size ≤ b) → Mo (SlIn list) w w1 → FoundAt base w1 list1 (ks ++ (if y.here p = true then [(p, y.used p)] else [])) →
      trie_node_walk.j1 (WalkPost base y ns p list ks w) (ndP y p) key list1 w1 := by
    intro list1 w1 hin1 hmo1 hf1
    have hown : ∀ b, own b → ¬ SlIn list b := fun b hb hbl => by have := hob b hb; have := (hpre.fnd.base b hbl).1; omega
    have h1 : Mem w1 own vown tb lim n clock ns y := h.mo hmo1 hown
    have hkey1 : Rds i64v w1 key p := hpre.rd.mo hmo1 (fun a ha => (hpre.keyB a ha).2)
    unfold trie_node_walk.j1
    refine Pu_nil ?_
    refine Rd_has (c := .map) (x := some (y.mp p)) (h1.node p hp) (by kernel_rfl) rfl ?_
    obtain ⟨l, hm, hk⟩ := h1.kids p hp
    have hln : (l.map (·.1)).Nodup := by obtain ⟨_, _, _, _, hn, _⟩ := hm; exact hn
    have hl300 : l.length ≤ 300 := by
      have := h256 p (l.map (·.1)) hln (fun x hx => by obtain ⟨⟨x', v⟩, hv, rfl⟩ := List.mem_map.1 hx; exact ((hk x' v).1 hv).1)
      simpa using this
    refine Rd_lenMap tMap hm ?_
    refine Wr_makeCap (α := Int) (f := i64v) (e := 3) (z := .int .i64 0) (bytes := 8) tI (by kernel_rfl) l.length (by omega) (by omega) rfl w1.heap.size (Nat.le_refl _) fun nums w2 hno2 _ hx2 hnb2 => ?_
    refine Pu_nil ?_
    refine Rd_has (c := .map) (x := some (y.mp p)) ((h1.ex hx2).node p hp) (by kernel_rfl) rfl ?_
    refine Wr_range tMap (hm.ex hx2) fun w3 hit3 hx3 => ?_
    have hmp : y.mp p < w1.heap.size := hm.lt
    unfold trie_node_walk.l1
    refine loopW_of (fun st w' => st.1 = ndP y p ∧ st.2.1 = key ∧ st.2.2.1 = list1 ∧ st.2.2.2.2.1 = ⟨w2.heap.size, 0, none⟩ ∧ ∃ (done : List Int) (rem : List (Int × Value)), Ex w1 w' ∧ IterIs w' w2.heap.size (y.mp p) l rem ∧ Own i64v 3 w1.heap.size w' st.2.2.2.1 done ∧
        (∀ b, SlIn st.2.2.2.1 b → b ≠ w2.heap.size) ∧ done.Nodup ∧ (∀ x, x ∈ l.map (·.1) ↔ x ∈ done ∨ x ∈ rem.map (·.1)) ∧ (∀ x ∈ done, x ∉ rem.map (·.1)))
      (fun st w' => iterLeft w' st.2.2.2.2.1.block) ?_ ⟨rfl, rfl, rfl, rfl, [], l, hx2.trans hx3, hit3, hno2.ex hx3, fun b hb => ?_, List.nodup_nil, fun x => by simp, fun x hx => by simp at hx⟩
    rotate_left
    · have := hnb2 b hb; have := (hno2.base b hb).2; omega
    rintro k ⟨n', key', list', nums', it', u⟩ w' hI hkk
    dsimp only at hI hkk ⊢
    obtain ⟨rfl, rfl, rfl, rfl, done, rem, hx, hit, hno, hnb, hdn, hmem, hdis⟩ := hI
    unfold trie_node_walk.b1
    have hmd : y.mp p < w1.heap.size := hm.lt
    have hrm : w2.heap.size ≠ y.mp p := by have := hx2.size; omega
    have hdl : done.length ≤ 300 := h256 p done hdn (fun x hxd => by
      obtain ⟨⟨x', v⟩, hv, hxe⟩ := List.mem_map.1 ((hmem x).2 (.inl hxd))
      simp only at hxe; subst hxe
      exact ((hk _ _).1 hv).1)
    refine Wr_next hit hrm (fun q hq => ⟨_, ((hk q.1 q.2).1 hq).2⟩) (fun hrem => ?_) (fun x z w4 hxz hit4 hcur4 hmo4 => ?_)
    · -- all are collected
      refine Cd_f ?_
      subst hrem
      refine Calls.mono (sort_ok nums' done _ w' hno (by omega) hdn) ?_
      rintro en w5 ⟨xs, rfl, hno5, hmo5, hsort, hxs, hxl⟩
      refine ⟨(), rfl, ?_⟩
      have hx15 : Ex w1 w5 := hx.into hmo5 (fun b hb => (hno.base b hb).1)
      have hxin : ∀ x, x ∈ xs ↔ p ++ [x] ∈ ns := by
        intro x
        have hmx := hmem x
        simp only [List.map_nil, List.not_mem_nil, or_false] at hmx
        rw [hxs x, ← hmx]
        constructor
        · intro hx'
          obtain ⟨⟨x', v⟩, hv, hxe⟩ := List.mem_map.1 hx'
          simp only at hxe; subst hxe
          exact ((hk _ _).1 hv).1
        · intro hx'; exact List.mem_map.2 ⟨(x, _), (hk x _).2 ⟨hx', rfl⟩, rfl⟩
      have hl1b : ∀ b, SlIn list' b → base ≤ b ∧ b < w1.heap.size := hf1.base
      unfold trie_node_walk.l2
      refine loopW_of (fun st w'' => st.1 = ndP y p ∧ st.2.1 = key' ∧ st.2.2.2.1 = nums' ∧ st.2.2.2.2.1 = (nums'.len : Int) ∧ ∃ (i : Nat) (acc : List (List (Path × Int))), i ≤ xs.length ∧ st.2.2.2.2.2.1 = (i : Int) ∧ acc.length = i ∧ (∀ (j : Nat) x o, xs[j]? = some x → acc[j]? = some o → Listed y ns (p ++ [x]) o) ∧
          FoundAt base w'' st.2.2.1 (ks ++ ((if y.here p = true then [(p, y.used p)] else []) ++ acc.flatten)) ∧ Mo (SlIn list') w5 w'' ∧ ∀ b, SlIn st.2.2.1 b → SlIn list' b ∨ w5.heap.size ≤ b) (fun st _ => xs.length - st.2.2.2.2.2.1.toNat) ?_
        ⟨rfl, rfl, rfl, rfl, 0, [], Nat.zero_le _, rfl, rfl, fun j x o _ ho => by simp at ho, by simpa using hf1.ex hx15, Mo.refl _ _, fun b hb => .inl hb⟩
      rintro k2 ⟨n2, key2, list2, nums2, len2, i2, u2⟩ w6 hI2 hk2
      dsimp only at hI2 hk2 ⊢
      obtain ⟨rfl, rfl, rfl, rfl, i, acc, hi, rfl, hacc, hlst, hf6, hmo6, hin6⟩ := hI2
      unfold trie_node_walk.b2
      have hno6 : Own i64v 3 w1.heap.size w6 nums2 xs := hno5.mo hmo6 (fun b hb hbl => by have := (hno5.base b hb).1; have := (hl1b b hbl).2; omega)
      have hnl := hno6.1
      have hmo16 : Mo (SlIn list') w1 w6 := hx15.mo hmo6
      have hl2b : ∀ b, SlIn list2 b → base ≤ b ∧ b < w6.heap.size := hf6.base
      have notown : ∀ b, own b → ¬ SlIn list' b := fun b hb hbl => by have := hob b hb; have := (hl1b b hbl).1; omega
      have notown2 : ∀ b, own b → ¬ SlIn list2 b := fun b hb hbl => by have := hob b hb; have := (hl2b b hbl).1; omega
      refine Cd_dec (fun hlt => ?_) (fun hge => ?_)
      · have hio : i < xs.length := by omega
        refine Pu_idx hno6.rds tI sI (by omega) (by omega) fun a x hxg hc _ => ?_
        rw [Int.toNat_natCast] at hxg
        refine Rd_one (c := .int .i64) (x := x) oI hc ?_
        have hpx : p ++ [x] ∈ ns := (hxin x).1 (List.mem_of_getElem? hxg)
        have h6 : Mem w6 own vown tb lim n clock ns y := h1.mo hmo16 notown
        have hm6 : MapIs w6 (y.mp p) l := hm.mo hmo16 (notown _ (h.ownN p hp).2.1)
        have hkey6 : Rds i64v w6.drew key2 p := (hkey1.mo hmo16 (fun a ha hbl => by
          rcases hin1 _ hbl with g | g
          · exact (hpre.keyB a ha).2 g
          · have := (hpre.keyB a ha).1; omega)).ex (Ex.drew w6)
        have hS : ∀ v, Ex w6.drew v → Has v (y.nd p) (nodeV y p) 81 ∧ MapIs v (y.mp p) l := fun v hv => ⟨((h6.node p hp).ex (Ex.drew w6)).ex hv, (hm6.ex (Ex.drew w6)).ex hv⟩
        refine Held_of (fun v => Has v (y.nd p) (nodeV y p) 81 ∧ MapIs v (y.mp p) l) (hS _ (Ex.refl _)) ?_
        refine Pu_nil ?_
        refine RdS_has (c := .map) (x := some (y.mp p)) (fun v hv => hv.1) (by kernel_rfl) rfl ?_
        refine RdS_lookup (z := ndP y (p ++ [x])) tMap uInt zN (fun v hv => hv.2) (getM_mem hm ((hk x _).2 ⟨hpx, rfl⟩)) ?_
        have hord := order_join (y := y) (ns := ns) (p := p) hsort (by omega) hlst (y.here p) (y.used p)
        have hall : ∀ q ∈ (if y.here p = true then [(p, y.used p)] else []) ++ acc.flatten, (q.1 ∈ ns ∧ y.here q.1 = true) ∧ p <+: q.1 ∧ ¬ (p ++ [x]) <+: q.1 := by
          intro q hq
          rcases List.mem_append.1 hq with g | g
          · split at g
            · rename_i hh
              simp only [List.mem_cons, List.not_mem_nil, or_false] at g
              subst g
              exact ⟨⟨hp, hh⟩, List.prefix_refl _, fun hn => by have := hn.length_le; simp at this; omega⟩
            · simp at g
          · obtain ⟨o, ho, hqo⟩ := List.mem_flatten.1 g
            obtain ⟨j, hj⟩ := List.getElem?_of_mem ho
            have hjl : j < acc.length := (List.getElem?_eq_some_iff.1 hj).1
            have hjx : j < xs.length := by omega
            obtain ⟨kq, uq⟩ := q
            obtain ⟨g1, g2, g3, _⟩ := ((hlst j _ o (List.getElem?_eq_getElem hjx) hj).mem kq uq).1 hqo
            refine ⟨⟨g1, g3⟩, (List.prefix_append p _).trans g2, fun hn => ?_⟩
            have he := List.prefix_of_prefix_length_le hn g2 (by simp)
            have he := (List.IsPrefix.eq_of_length_le he (by simp))
            have hxx := (snoc_inj he).2
            have hlt' := List.pairwise_iff_getElem.1 hsort j i hjx hio (by omega)
            have hxi : xs[i] = x := by have := List.getElem?_eq_getElem hio; rw [this] at hxg; exact Option.some.inj hxg
            omega
        have hnd : ((ks ++ ((if y.here p = true then [(p, y.used p)] else []) ++ acc.flatten)).map (·.1)).Nodup := by
          rw [List.map_append, List.nodup_append]
          refine ⟨hpre.nodup, ?_, fun a ha c hc e => ?_⟩
          · unfold List.Nodup
            rw [List.pairwise_map]
            exact hord.imp fun {a b} hab (e : a.1 = b.1) => less_irr b.1 (by rw [e] at hab; exact hab)
          · obtain ⟨q1, hq1, rfl⟩ := List.mem_map.1 ha
            obtain ⟨q2, hq2, rfl⟩ := List.mem_map.1 hc
            refine (hpre.ksI q1 hq1).2 ?_
            rw [e]; exact (hall q2 hq2).2.1
        have hd1 : 1 ≤ d := by have := hd _ hpx (List.prefix_append p [x]); simp at this; omega
        have tail : ∀ (k3 : Sl) (v : World), Ex w6.drew v → Own i64v 3 w6.heap.size v k3 (p ++ [x]) →
            Cl Try.prog 47 #[.pointer (ndP y (p ++ [x])), slv k3, slv list2] (.one (.at .sl)) (fun x42 w43 => (Has w43 (y.nd p) (nodeV y p) 81 ∧ MapIs w43 (y.mp p) l) ∧ trie_node_walk.j2 (WalkPost base y ns p list ks w) k2 (ndP y p) key2 x42 nums2 (nums2.len : Int) (i : Int) w43) v := by
          intro k3 v hv hok
          have hvx : Ex w6 v := (Ex.drew w6).trans hv
          refine Calls.mono (ih (d - 1) (by omega) (p ++ [x]) k3 list2 _ v (h6.ex hvx) hpx (fun z hz hpz => ?_) ⟨hok.rds, fun a ha => ?_, hf6.ex hvx, ?_, hnd, fun q hq => ?_⟩) ?_
          · have := hd z hz ((List.prefix_append p [x]).trans hpz)
            rw [List.length_append, List.length_singleton]; omega
          · have := hok.base _ (slin_of ha)
            exact ⟨this.2, fun hbl => by have := (hl2b _ hbl).2; omega⟩
          · have := hpre.le; have := hmo1.size; have := hmo16.size; have := hvx.size; omega
          · rcases List.mem_append.1 hq with g | g
            · exact ⟨(hpre.ksI q g).1, fun hn => (hpre.ksI q g).2 ((List.prefix_append p [x]).trans hn)⟩
            · exact ⟨(hall q g).1, (hall q g).2.2⟩
          · rintro en wb ⟨s', out, rfl, hfb, hmob, hinb, hLb⟩
            refine ⟨s', rfl, ⟨((hS v hv).1).mo hmob (notown2 _ (h.ownN p hp).1), ((hS v hv).2).mo hmob (notown2 _ (h.ownN p hp).2.1)⟩, ?_⟩
            unfold trie_node_walk.j2
            rw [wrap64 (x := (i : Int) + 1) (by have := h256 p xs (hsort.imp (fun h => by omega)) (fun x hx => (hxin x).1 hx); omega) (by have := h256 p xs (hsort.imp (fun h => by omega)) (fun x hx => (hxin x).1 hx); omega)]
            refine hk2 _ _ ⟨rfl, rfl, rfl, rfl, i + 1, acc ++ [out], by omega, by simp, by simp [hacc], ?_, ?_, ?_, ?_⟩ (by simp only; omega)
            · intro j x' o hj ho
              rcases snoc_cases ho with ⟨g, _⟩ | ⟨g, rfl⟩
              · exact hlst j x' o hj g
              · rw [g, hacc, hxg] at hj
                cases hj; exact hLb
            · have e : ks ++ ((if y.here p = true then [(p, y.used p)] else []) ++ (acc ++ [out]).flatten) = (ks ++ ((if y.here p = true then [(p, y.used p)] else []) ++ acc.flatten)) ++ out := by simp [List.append_assoc]
              rw [e]; exact hfb
            · refine (hmo6.ex hvx).trans hmob (fun _ => id) (fun b hb hbl => ?_)
              rcases hin6 b hbl with g | g
              · exact g
              · omega
            · intro b hb
              rcases hinb b hb with g | g
              · exact hin6 b g
              · exact .inr (by have := hmo6.size; have := hvx.size; omega)
        refine ⟨?_, ?_⟩
        · refine Cl_sl (clone_own key2 p w6.drew hkey6 (by omega)) fun s7 w7 ho7 hx7 => ⟨hS _ hx7, ?_⟩
          refine Wr_lit (f := i64v) (e := 3) (base := w7.heap.size) [x] (by kernel_rfl) (Nat.le_refl _) (by simp) fun s8 w8 ho8 hx8 _ => ⟨hS _ (hx7.trans hx8), ?_⟩
          refine Wr_append tI iI rfl (ho7.ex hx8) ho8.rds (fun y => rfl) (by simp; omega) (by simp; omega) (Nat.le_trans hx7.size hx8.size) fun s9 w9 ho9 hm9 _ => ?_
          have hx9 : Ex w6.drew w9 := (hx7.trans hx8).into hm9 (fun b hb => (ho7.base b hb).1)
          exact ⟨hS _ hx9, tail s9 w9 hx9 ho9⟩
        · refine Wr_lit (f := i64v) (e := 3) (base := w6.heap.size) [x] (by kernel_rfl) (Nat.le_refl _) (by simp) fun s8 w8 ho8 hx8 _ => ⟨hS _ hx8, ?_⟩
          refine Cl_sl (clone_own key2 p w8 (hkey6.ex hx8) (by omega)) fun s7 w7 ho7 hx7 => ⟨hS _ (hx8.trans hx7), ?_⟩
          refine Wr_append tI iI rfl ho7 (ho8.ex hx7).rds (fun y => rfl) (by simp; omega) (by simp; omega) hx7.size fun s9 w9 ho9 hm9 _ => ?_
          have hx9 : Ex w6.drew w9 := (hx8.trans hx7).into hm9 (fun b hb => by have := (ho7.base b hb).1; have := hx8.size; omega)
          exact ⟨hS _ hx9, tail s9 w9 hx9 (ho9.weak (by have := hx8.size; exact this))⟩
      · have hie : i = xs.length := by omega
        refine ⟨list2, (if y.here p = true then [(p, y.used p)] else []) ++ acc.flatten, rfl, hf6, ?_, ?_, ?_⟩
        · refine hmo1.trans hmo16 (fun _ => id) (fun b hb hbl => ?_)
          rcases hin1 b hbl with g | g
          · exact g
          · omega
        · intro b hb
          rcases hin6 b hb with g | g
          · exact hin1 b g
          · exact .inr (by have := hmo1.size; have := hx15.size; omega)
        · exact Listed.join h.pre hp hsort hxin (by omega) hlst
    · -- one more
      refine Cd_t ?_
      refine Rd_entry hcur4 ?_
      refine Wr_lit (f := i64v) (e := 3) (base := w4.heap.size) [x] (by kernel_rfl) (Nat.le_refl _) (by simp) fun s5 w5 ho5 hx5 _ => ?_
      have hno4 : Own i64v 3 w1.heap.size w4 nums' done := hno.mo hmo4 (fun b hb e => hnb b hb e)
      have hw14 : w1.heap.size ≤ w4.heap.size := Nat.le_trans hx.size hmo4.size
      refine Wr_append tI iI rfl (hno4.ex hx5) ho5.rds (fun y => rfl) (by simp; omega) (by simp; omega) (Nat.le_trans hw14 hx5.size) fun s6 w6 ho6 hmo6 hin6 => ?_
      have hx46 : Ex w1 w6 := ((hx.into hmo4 (fun b hb => by rw [hb]; exact hx2.size)).trans hx5).into hmo6 (fun b hb => (hno4.base b hb).1)
      have hr4 : w2.heap.size < w4.heap.size := hit4.lt.1
      have hxin : x ∈ rem.map (·.1) := List.mem_map.2 ⟨_, hxz, rfl⟩
      refine hkk _ _ ⟨rfl, rfl, rfl, rfl, done ++ [x], rem.filter (fun p => decide (p.1 ≠ x)), hx46, ?_, ho6, ?_, ?_, ?_, ?_⟩ ?_
      · refine (hit4.ex hx5).mo hmo6 (fun hb => hnb _ hb rfl) (fun hb => ?_)
        have := (hno4.base _ hb).1
        omega
      · intro b hb
        rcases hin6 b hb with h' | h'
        · exact hnb b h'
        · have := hx5.size; omega
      · rw [List.nodup_append]
        refine ⟨hdn, by simp, fun a ha c hc => ?_⟩
        simp only [List.mem_cons, List.not_mem_nil, or_false] at hc
        subst hc
        rintro rfl
        exact hdis _ ha hxin
      · intro z'
        rw [hmem z', List.mem_append]
        simp only [List.mem_map, List.mem_filter, List.mem_cons, List.not_mem_nil, or_false, decide_eq_true_eq]
        constructor
        · rintro (g | ⟨q, hq, rfl⟩)
          · exact .inl (.inl g)
          · by_cases hqx : q.1 = x
            · exact .inl (.inr hqx)
            · exact .inr ⟨q, ⟨hq, hqx⟩, rfl⟩
        · rintro ((g | g) | ⟨q, ⟨hq, _⟩, rfl⟩)
          · exact .inl g
          · subst g; exact .inr ⟨_, hxz, rfl⟩
          · exact .inr ⟨q, hq, rfl⟩
      · intro z' hz' hzm
        simp only [List.mem_map, List.mem_filter, decide_eq_true_eq] at hzm
        obtain ⟨q, ⟨hq, hqx⟩, rfl⟩ := hzm
        rcases List.mem_append.1 hz' with g | g
        · exact hdis _ g (List.mem_map.2 ⟨q, hq, rfl⟩)
        · simp only [List.mem_cons, List.not_mem_nil, or_false] at g
          exact hqx g
      · show iterLeft w6 w2.heap.size < iterLeft w' w2.heap.size
        have hit6 : IterIs w6 w2.heap.size (y.mp p) l (rem.filter (fun p => decide (p.1 ≠ x))) := by
          refine (hit4.ex hx5).mo hmo6 (fun hb => hnb _ hb rfl) (fun hb => ?_)
          have := (hno4.base _ hb).1
          omega
        rw [hit6.left, hit.left]
        exact List.length_filter_lt_length_iff_exists.2 ⟨_, hxz, by simp⟩
  have hk1024 : ks.length ≤ 1024 := by
    have := hcap (ks.map (·.1)) hpre.nodup (fun k hk => by obtain ⟨q, hq, rfl⟩ := List.mem_map.1 hk; exact (hpre.ksI q hq).1)
    simpa using this
  refine Cd_of (fun hh => ?_) (fun hh => ?_)
  · refine Held_of (fun v => Has v (y.nd p) (nodeV y p) 81) ((h.node p hp).ex (Ex.drew w)) ?_
    refine Pu_nil ?_
    refine RdS_has (c := .int .i64) (x := y.used p) (fun v hv => hv) (by kernel_rfl) rfl ?_
    refine Cl_sl (clone_own key p w.drew (hpre.rd.ex (Ex.drew w)) (by omega)) fun s1 w1 ho1 hx1 => ⟨((h.node p hp).ex (Ex.drew w)).ex hx1, ?_⟩
    have hx01 : Ex w w1 := (Ex.drew w).trans hx1
    refine Wr_litA (ats := fAts) (e := 89) (base := w1.heap.size) [(s1, y.used p, ())] (by kernel_rfl) (Nat.le_refl _) (by simp) fun s2 w2 ho2 hx2 _ => ⟨((h.node p hp).ex hx01).ex hx2, ?_⟩
    have hx02 := hx01.trans hx2
    obtain ⟨es, e1, e2, e3⟩ := hpre.fnd
    refine Wr_appendA tF iF rfl (e1.ex hx02) ho2.rda fd_one (by simp; omega) (by simp; omega) (Nat.le_trans hpre.le hx02.size) fun s3 w3 ho3 hm3 hin3 => ?_
    refine ⟨((h.node p hp).ex hx02).mo hm3 (fun hb => by have := (e1.base _ hb).1; have := hob _ (h.ownN p hp).1; omega), ?_⟩
    refine j1f s3 w3 (fun b hb => ?_) (hx02.mo hm3) ?_
    · rcases hin3 b hb with g | g
      · exact .inl g
      · exact .inr (by have := hx02.size; omega)
    · rw [if_pos hh]
      exact found_snoc hpre.fnd hx01 (ho1.weak hpre.le) (fun b hb => (ho1.base b hb).1) hx2 es e1 e2 e3 ho3 hm3 hin3
  · refine j1f list w (fun b hb => .inl hb) (Mo.refl _ _) ?_
    rw [hh]
    simpa using hpre.fnd
end Go.Proofs.Ytdnlnloogfnlgaa
/- Keys of what was found; Under; Len. -/
namespace Go.Proofs.Ytdnlnloogfnlgaa
open Go Go.Cu Go.RowKit
set_option linter.unusedVariables false
set_option maxHeartbeats 4000000
theorem keys_nest (base : Nat) (s : Sl) (ks : List (Path × Int)) (w : World) (h : FoundAt base w s ks) (hl : ks.length ≤ 1024) (hk : ∀ k ∈ ks, k.1.length ≤ 300) :
    Calls Try.prog 50 #[slv s] w fun en w' => ∃ s', en = .returned (slv s') ∧ NestOwn i64v 3 29 w.heap.size w' s' (ks.map (·.1)) ∧ Ex w w' := by
  have h1 := h.len
  obtain ⟨es, e1, e2, e3⟩ := h
  refine trie_keys.run _ s w ?_
  unfold trie_keys.M
  rw [h1]
  refine Wr_make (f := slv) (z := ⟨none, 0, 0⟩) (e := 29) (bytes := 24) tII (by kernel_rfl) rfl ks.length (by omega) (by omega) rfl rfl fun so w2 hso hB2 hx2 => ?_
  unfold trie_keys.l1
  refine loopW_of (fun st w' => Ex w w' ∧ st.1 = so ∧ st.2.1 = s ∧ st.2.2.1 = (ks.length : Int) ∧ ∃ (i : Nat) (rows : List Sl), i ≤ ks.length ∧ st.2.2.2.1 = (i : Int) ∧ rows.length = i ∧ RowsOwn i64v 3 w.heap.size w' rows ((ks.map (·.1)).take i) ∧ Has w' w.heap.size ((rows ++ List.replicate (ks.length - i) (⟨none, 0, 0⟩ : Sl)).map slv) 29 ∧
      ∀ (j : Nat) (si : Sl) b, rows[j]? = some si → SlIn si b → b ≠ w.heap.size) (fun st _ => ks.length - st.2.2.2.1.toNat) ?_
    ⟨hx2, rfl, rfl, rfl, 0, [], Nat.zero_le _, rfl, rfl, RowsOwn.nil _ _ _ _, by simpa using hB2, fun j si b h => by simp at h⟩
  rintro k ⟨out, t', n', i', u⟩ w' hI hkk
  dsimp only at hI hkk ⊢
  obtain ⟨hx, rfl, rfl, rfl, i, rows, hi, rfl, hri, hro, hB, hne⟩ := hI
  unfold trie_keys.b1
  refine Cd_dec (fun hlt => ?_) (fun hge => ?_)
  · have hik : i < ks.length := by omega
    have hk1 : ks[i]? = some ks[i] := List.getElem?_eq_getElem hik
    refine Pu_idxA (e1.rda.ex hx) tF (by kernel_rfl) (by omega) (by omega) fun a x hxg hc _ => ?_
    rw [Int.toNat_natCast] at hxg
    refine Rd_agg (ats := fAts) (x := x) (by kernel_rfl) hc ?_
    obtain ⟨_, hok, _⟩ := e3 i x _ hxg hk1
    have hkl := hk ks[i] (List.getElem_mem hik)
    refine Wr_alloc (z := .agg #[slv nilS, .int .i64 0]) (by kernel_rfl) fun w3 hB3 hx3 => ?_
    refine Wu_store (v := .agg #[slv x.1, .int .i64 x.2.1]) hB3 (by kernel_rfl) (fd_one x) (Nat.le_of_ble_eq_true (by kernel_rfl)) fun w4 hB4 hm4 => ?_
    have hx34 : Ex w' w4 := hx3.into hm4 (fun b hb => by rw [hb]; exact Nat.le_refl _)
    refine Rd_has (c := .sl) (x := x.1) hB4 (by kernel_rfl) rfl ?_
    refine Wr_append (s := ⟨none, 0, 0⟩) (l := []) tI iI rfl (Own.nil i64v 3 w4.heap.size w4) ((hok.rds.ex hx).ex hx34) (fun y => rfl) (by simp; omega) (by simp; omega) (Nat.le_refl _) fun s5 w5 ho5 hm5 hin5 => ?_
    rw [List.nil_append] at ho5
    have hx5 : Ex w4 w5 := hm5.new (fun i ⟨a, ha, _⟩ => by cases ha)
    rw [hso]
    refine Pu_ix (s := ⟨some ⟨w.heap.size, 0, none⟩, ks.length, ks.length⟩) tII sII rfl (by omega) (by show (i : Int) < (ks.length : Int); omega) ?_
    rw [Int.toNat_natCast, add_lit]
    have hx45 := hx34.trans hx5
    have hB5 := hB.ex hx45
    refine Wu_store (v := slv s5) hB5 sII (by simp [Value.cells, Value.oneCell']) (by simp [Value.cells]; omega) fun w6 hB6 hm6 => ?_
    rw [wrap64 (x := (i : Int) + 1) (by omega) (by omega)]
    rw [← hso]
    have hx6 : Ex w w6 := (hx.trans hx45).into hm6 (fun b hb => by rw [hb]; exact Nat.le_refl _)
    have hnew : ∀ b, SlIn s5 b → w'.heap.size ≤ b := fun b hb => by have := (ho5.base b hb).1; have := hx34.size; omega
    have hgl : w.heap.size < w'.heap.size := hB.lt
    have hro6 : RowsOwn i64v 3 w.heap.size w6 (rows ++ [s5]) ((ks.map (·.1)).take i ++ [ks[i].1]) := by
      refine (hro.snoc hx45 (ho5.weak (by have := hx.size; have := hx34.size; omega)) hnew).mo hm6 fun j si b hj hb hn => ?_
      rcases snoc_cases hj with ⟨hj', _⟩ | ⟨_, rfl⟩
      · exact hne j si b hj' hb hn
      · have := hnew b hb
        have hn : b = w.heap.size := hn
        omega
    refine hkk _ _ ⟨hx6, rfl, rfl, rfl, i + 1, rows ++ [s5], by omega, by simp, by simp [hri], ?_, ?_, ?_⟩ (by simp only; omega)
    · rw [List.take_add_one, List.getElem?_map, hk1]; exact hro6
    · have hrep : ks.length - i = (ks.length - (i + 1)) + 1 := by omega
      rw [hrep] at hB6
      have := set_next rows s5 (⟨none, 0, 0⟩ : Sl) (ks.length - (i + 1)) slv
      rw [hri] at this
      rw [← this]
      exact hB6
    · intro j si b hj hb hn
      rcases snoc_cases hj with ⟨hj', _⟩ | ⟨_, rfl⟩
      · exact hne j si b hj' hb hn
      · have := hnew b hb; omega
  · have hie : i = ks.length := by omega
    subst hie
    rw [List.take_of_length_le (by simp)] at hro
    rw [Nat.sub_self, List.replicate_zero, List.append_nil] at hB
    refine ⟨out, rfl, ?_, hx⟩
    rw [hso]
    exact hro.nestOwn (own_of_has hri (by omega) hB (Nat.le_refl _)) (fun j si b hj hb hn => hne j si b hj hb hn.fresh)
end Go.Proofs.Ytdnlnloogfnlgaa
/- Under: the keys that begin so, in order. Len. -/
namespace Go.Proofs.Ytdnlnloogfnlgaa
open Go Go.Cu Go.RowKit
set_option linter.unusedVariables false
set_option maxHeartbeats 4000000
theorem goodFrom_len : ∀ (l : List Int) (p : Int), goodFrom p l = true → (l.length : Int) ≤ 255 - p ∨ l = []
  | [], _, _ => .inr rfl
  | x :: r, p, h => by
    unfold goodFrom at h
    rw [Bool.and_eq_true, decide_eq_true_iff] at h
    left
    rcases goodFrom_len r x h.2 with g | g
    · simp only [List.length_cons]; omega
    · subst g; simp only [List.length_cons, List.length_nil]; omega
theorem good_len {l : List Int} (h : goodB l = true) : l.length ≤ 256 := by
  rcases goodFrom_len l (-1) h with g | g
  · omega
  · subst g; simp
theorem goodFrom_last : ∀ (p : Path) (x q : Int), goodFrom q (p ++ [x]) = true → q < x ∧ x ≤ 255
  | [], x, q, h => by
    simp only [List.nil_append, goodFrom, Bool.and_eq_true, decide_eq_true_iff] at h
    exact h.1
  | z :: p, x, q, h => by
    rw [List.cons_append] at h
    unfold goodFrom at h
    rw [Bool.and_eq_true, decide_eq_true_iff] at h
    have := goodFrom_last p x z h.2
    omega
/-- what the walk asks for, of what a trie keeps -/
theorem nodup_bound {lo hi : Int} : ∀ (n : Nat) (xs : List Int), xs.Nodup → (∀ x ∈ xs, lo ≤ x ∧ x ≤ hi) → hi - lo + 1 ≤ n → xs.length ≤ n
  | 0, xs, hn, hb, hle => by
    cases xs with
    | nil => simp
    | cons x r => have := hb x (by simp); omega
  | n + 1, xs, hn, hb, hle => by
    by_cases hin : hi ∈ xs
    · have h1 : (xs.erase hi).length ≤ n ∨ True := .inr trivial
      have hp := List.perm_cons_erase hin
      have hn2 : (xs.erase hi).Nodup := hn.erase hi
      have hlen := hp.length_eq
      rw [List.length_cons] at hlen
      have := nodup_bound (lo := lo) (hi := hi - 1) n (xs.erase hi) hn2 (fun x hx => by
        have hne : x ≠ hi := by
          have := (hp.nodup_iff.1 hn)
          rw [List.nodup_cons] at this
          rintro rfl; exact this.1 hx
        have := hb x (List.mem_of_mem_erase hx)
        omega) (by omega)
      omega
    · have := nodup_bound (lo := lo) (hi := hi - 1) n xs hn (fun x hx => by
        have hne : x ≠ hi := by rintro rfl; exact hin hx
        have := hb x hx
        omega) (by omega)
      omega
theorem nodup_sub_len : ∀ (l m : List Path), l.Nodup → (∀ x ∈ l, x ∈ m) → l.length ≤ m.length
  | [], _, _, _ => Nat.zero_le _
  | x :: l, m, hn, h => by
    rw [List.nodup_cons] at hn
    have hp := List.perm_cons_erase (h x (by simp))
    have := nodup_sub_len l (m.erase x) hn.2 (fun z hz => (List.mem_erase_of_ne (fun e => hn.1 (by rw [← e]; exact hz))).2 (h z (by simp [hz])))
    have hl := hp.length_eq
    rw [List.length_cons] at hl ⊢
    omega
theorem Ents.cap {es : List Ent} {ns : List Path} {y : Lay} {lim clock : Int} (h : Ents es ns y lim clock) : ∀ l : List Path, l.Nodup → (∀ k ∈ l, k ∈ ns ∧ y.here k = true) → l.length ≤ 1024 := by
  intro l hn hl
  have hsub : ∀ k ∈ l, k ∈ es.map (·.1) := fun k hk => by
    obtain ⟨e, he, hek⟩ := (h.here k (hl k hk).1).1 (hl k hk).2
    exact List.mem_map.2 ⟨e, he, hek⟩
  have h1 : l.length ≤ (es.map (·.1)).length := nodup_sub_len l _ hn hsub
  have := h.room
  have := h.lim2
  rw [List.length_map] at h1
  omega
theorem Ents.lens {es : List Ent} {ns : List Path} {y : Lay} {lim clock : Int} (h : Ents es ns y lim clock) : ∀ k ∈ ns, k.length ≤ 300 := fun k hk => by have := good_len (h.goodN k hk); omega
theorem Ents.kids {es : List Ent} {ns : List Path} {y : Lay} {lim clock : Int} (h : Ents es ns y lim clock) : ∀ (p : Path) (xs : List Int), xs.Nodup → (∀ x ∈ xs, p ++ [x] ∈ ns) → xs.length ≤ 300 := by
  intro p xs hn hx
  exact nodup_bound (lo := 0) (hi := 255) 300 xs hn (fun x hxx => by have := goodFrom_last p x (-1) (h.goodN _ (hx x hxx)); omega) (by omega)
/-- keys that begin with p, in order -/
structure KeysUnder (es : List Ent) (p : Path) (ks : List Path) : Prop where
  order : ks.Pairwise lessP
  mem : ∀ k, k ∈ ks ↔ (∃ e ∈ es, e.1 = k) ∧ p <+: k
theorem Listed.keys {es : List Ent} {ns : List Path} {y : Lay} {lim clock : Int} {p : Path} {out : List (Path × Int)} (he : Ents es ns y lim clock) (h : Listed y ns p out) : KeysUnder es p (out.map (·.1)) := by
  constructor
  · rw [List.pairwise_map]; exact h.order
  · intro k
    constructor
    · intro hk
      obtain ⟨⟨k', u⟩, hq, rfl⟩ := List.mem_map.1 hk
      obtain ⟨g1, g2, g3, _⟩ := (h.mem _ u).1 hq
      exact ⟨(he.here _ g1).1 g3, g2⟩
    · rintro ⟨⟨e, hee, rfl⟩, hp⟩
      have hin := (he.rows e hee).1
      exact List.mem_map.2 ⟨(e.1, y.used e.1), (h.mem _ _).2 ⟨hin, hp, (he.here _ hin).2 ⟨e, hee, rfl⟩, rfl⟩, rfl⟩
theorem Listed.len {es : List Ent} {ns : List Path} {y : Lay} {lim clock : Int} {p : Path} {out : List (Path × Int)} (he : Ents es ns y lim clock) (h : Listed y ns p out) : out.length ≤ 1024 ∧ ∀ k ∈ out, k.1.length ≤ 300 := by
  refine ⟨?_, fun k hk => ?_⟩
  · have := he.cap (out.map (·.1)) h.nodup (fun k hk => by
      obtain ⟨⟨k', u⟩, hq, rfl⟩ := List.mem_map.1 hk
      have := (h.mem _ u).1 hq
      exact ⟨this.1, this.2.2.1⟩)
    simpa using this
  · obtain ⟨k', u⟩ := k
    exact he.lens _ ((h.mem _ u).1 hk).1
theorem under_ok {w : World} {own : Nat → Prop} {tb : Nat} {lim clock : Int} {es : List Ent} (h : TrieSt w own tb lim es clock) (s : Sl) (l : Path) (hr : Rds i64v w s l) (hl : l.length ≤ 9223372036854775806) :
    Calls Try.prog 29 #[.pointer (some ⟨tb, 0, none⟩), slv s] w fun en w' => ∃ s' ks, en = .returned (slv s') ∧ NestOwn i64v 3 29 w.heap.size w' s' ks ∧ KeysUnder es l ks ∧ Ex w w' := by
  obtain ⟨vown, ns, y, hm, he⟩ := h
  refine trie_Trie_Under.run _ _ s w ?_
  unfold trie_Trie_Under.M
  refine Cl_gvp (find_gv hm he.goodN s l hr hl) fun w1 hx1 => ?_
  refine Pu_eqnil tN ?_
  by_cases hin : l ∈ ns
  · rw [if_pos hin]
    refine Cd_f ?_
    have hll := he.lens l hin
    refine Cl_sl (clone_own s l w1 (hr.ex hx1) (by omega)) fun s2 w2 ho2 hx2 => ?_
    have hx12 := hx1.trans hx2
    have hm2 := hm.ex hx12
    refine Calls.mono (walk_ok w2.heap.size (fun b hb => hm2.ownL b hb) he.cap he.lens he.kids 300 l s2 nilS [] w2 hm2 hin (fun x hx _ => by have := he.lens x hx; omega) ⟨ho2.rds, fun a ha => ⟨(ho2.base _ (slin_of ha)).2, fun hb => by obtain ⟨b, hb, _⟩ := hb; cases hb⟩, FoundAt.nil _ _, Nat.le_refl _, List.nodup_nil, fun k hk => by simp at hk⟩) ?_
    rintro en w3 ⟨s3, out, rfl, hf3, hmo3, _, hL⟩
    refine ⟨s3, rfl, ?_⟩
    have hx3 : Ex w2 w3 := hmo3.new (fun i ⟨a, ha, _⟩ => by cases ha)
    rw [List.nil_append] at hf3
    obtain ⟨hlen, hkl⟩ := hL.len he
    refine Calls.mono (keys_nest _ s3 out w3 hf3 hlen hkl) ?_
    rintro en w4 ⟨s4, rfl, hn4, hx4⟩
    exact ⟨s4, rfl, s4, _, rfl, hn4.weak (hx12.trans hx3).size, hL.keys he, (hx12.trans hx3).trans hx4⟩
  · rw [if_neg hin]
    refine Cd_t ?_
    refine ⟨nilS, [], rfl, NestOwn.nil _ _ _ _ _, ⟨List.Pairwise.nil, fun k => ⟨fun h => (by simp at h), fun ⟨⟨e, hee, hek⟩, t, ht⟩ => ?_⟩⟩, hx1⟩
    exfalso
    have hkin := (he.rows e hee).1
    rw [hek, ← ht] at hkin
    exact pre_take hm.pre _ l.length rfl (by rw [List.take_left]; exact hin) hkin
theorem len_gv {w : World} {own : Nat → Prop} {tb : Nat} {lim clock : Int} {es : List Ent} (h : TrieSt w own tb lim es clock) : Gv Try.prog 34 #[.pointer (some ⟨tb, 0, none⟩)] (.int .i64 es.length) w := by
  obtain ⟨vown, ns, y, hm, he⟩ := h
  refine trie_Trie_Len.run _ _ w ?_
  unfold trie_Trie_Len.M
  refine Pu_eqnil tT ?_
  refine Cd_f ?_
  refine Pu_nil ?_
  refine Rd_has hm.top (by kernel_rfl) rfl ?_
  exact ⟨rfl, Ex.refl w⟩
end Go.Proofs.Ytdnlnloogfnlgaa
