/- The book of TrieFinds: find and noted. -/
import Derived.Test.YtdnlnloogfnlgaaTrV
import Derived.Test.YtdnlnloogfnlgaaSetLib
namespace Go.Proofs.Ytdnlnloogfnlgaa
open Go Go.Cu Go.RowKit
set_option linter.unusedVariables false
set_option maxHeartbeats 4000000
abbrev hAts : List At := [.sl, .sl]
abbrev HT : Type := Ats hAts
structure HeldK where
  h : HT
  key : Path
  val : List (List Int)
abbrev HeldK.ent (x : HeldK) : Ent := (x.key, x.val)
theorem held_one (h : HT) : ∀ u ∈ encAts hAts h, u.oneCell' = true := by
  intro u hu
  simp only [hAts, encAts, List.mem_cons, List.not_mem_nil, or_false] at hu
  rcases hu with rfl | rfl <;> rfl
theorem tH : Try.prog.underlying 28 = some (.slice 43) := by kernel_rfl
theorem sH : sizeIs Try.prog 43 hAts.length = true := by kernel_rfl
theorem aH : isAggN Try.prog 43 hAts.length = true := by kernel_rfl
theorem iH : (Try.prog.info? 43).map (fun i => (i.zero, i.size, i.bytes)) = some (some (.agg (encAts hAts ((nilS, nilS, ()) : HT)).toArray), hAts.length, 48) := by kernel_rfl
/-- the book: its rows lie in blocks 'bo', apart from its own -/
structure BookAt (bo : Nat → Prop) (base : Nat) (w : World) (s : Sl) (bk : List HeldK) : Prop where
  sl : OwnA hAts 43 base w s (bk.map (·.h))
  keys : ∀ x ∈ bk, Rds i64v w x.h.1 x.key ∧ ∀ a, x.h.1.base = some a → bo a.block
  vals : ∀ x ∈ bk, Nest b8 bo w x.h.2.1 x.val
  lens : ∀ x ∈ bk, x.key.length ≤ 17592186044000 ∧ RowsLe x.val
  bos : ∀ b, bo b → base ≤ b ∧ b < w.heap.size
  sep : ∀ b, SlIn s b → ¬ bo b
theorem BookAt.nil (base : Nat) (w : World) : BookAt (fun _ => False) base w nilS [] := ⟨OwnA.nil _ _ _ _, by simp, by simp, by simp, fun b h => h.elim, fun b _ h => h⟩
theorem BookAt.mo {bo X : Nat → Prop} {base : Nat} {w w' : World} {s : Sl} {bk : List HeldK} (h : BookAt bo base w s bk) (k : Mo X w w') (h1 : ∀ b, bo b → ¬ X b) (h2 : ∀ b, SlIn s b → ¬ X b) : BookAt bo base w' s bk :=
  ⟨h.sl.mo k h2, fun x hx => ⟨(h.keys x hx).1.mo k (fun a ha => h1 _ ((h.keys x hx).2 a ha)), (h.keys x hx).2⟩, fun x hx => (h.vals x hx).mo k h1, h.lens, fun b hb => ⟨(h.bos b hb).1, Nat.lt_of_lt_of_le (h.bos b hb).2 k.size⟩, h.sep⟩
theorem BookAt.ex {bo : Nat → Prop} {base : Nat} {w w' : World} {s : Sl} {bk : List HeldK} (h : BookAt bo base w s bk) (k : Ex w w') : BookAt bo base w' s bk := h.mo k (fun _ _ => id) (fun _ _ => id)
theorem BookAt.len {bo : Nat → Prop} {base : Nat} {w : World} {s : Sl} {bk : List HeldK} (h : BookAt bo base w s bk) : s.len = bk.length := by rw [h.sl.1, List.length_map]
/-- the key's place in the book, or -1 -/
def FindsAt (bk : List HeldK) (l : Path) (z : Int) : Prop := (z = -1 ∧ ∀ x ∈ bk, x.key ≠ l) ∨ ∃ (i : Nat) (x : HeldK), z = (i : Int) ∧ bk[i]? = some x ∧ x.key = l
theorem findB_ok {bo : Nat → Prop} {base : Nat} {w : World} {s ks : Sl} {bk : List HeldK} {l : Path} (h : BookAt bo base w s bk) (hk : Rds i64v w ks l) (hs : bk.length ≤ 4398046511104) :
    Calls Try.prog 14 #[slv s, slv ks] w fun en w' => ∃ z, en = .returned (.int .i64 z) ∧ Ex w w' ∧ FindsAt bk l z := by
  refine culletlaw12_find.run _ s ks w ?_
  unfold culletlaw12_find.M culletlaw12_find.l1
  rw [h.len]
  refine loopW_of (fun st w' => st.1 = ks ∧ st.2.1 = s ∧ st.2.2.1 = (bk.length : Int) ∧ Ex w w' ∧ ∃ i : Nat, i ≤ bk.length ∧ st.2.2.2.1 = (i : Int) ∧ ∀ x ∈ bk.take i, x.key ≠ l) (fun st _ => bk.length - st.2.2.2.1.toNat) ?_
    ⟨rfl, rfl, rfl, Ex.refl w, 0, Nat.zero_le _, rfl, by simp⟩
  rintro k ⟨a1, a2, a3, i', u⟩ w' hI hk2
  dsimp only at hI hk2 ⊢
  obtain ⟨rfl, rfl, rfl, hx, i, hi, rfl, hno⟩ := hI
  unfold culletlaw12_find.b1
  refine Cd_dec (fun hlt => ?_) (fun hge => ?_)
  · have hib : i < bk.length := by omega
    have h' := h.ex hx
    refine Pu_idxA h'.sl.rda tH sH (by omega) (by rw [List.length_map]; omega) fun a hv hhv hc _ => ?_
    rw [Int.toNat_natCast, List.getElem?_map, List.getElem?_eq_getElem hib] at hhv
    obtain rfl : bk[i].h = hv := by simpa using hhv
    have hbi : bk[i]? = some bk[i] := List.getElem?_eq_getElem hib
    refine Rd_agg (x := bk[i].h) aH hc ?_
    refine Wr_alloc (z := .agg (encAts hAts ((nilS, nilS, ()) : HT)).toArray) (by kernel_rfl) fun w3 hB3 hx3 => ?_
    refine Wu_store (v := .agg (encAts hAts bk[i].h).toArray) hB3 (by kernel_rfl) (held_one bk[i].h) (Nat.le_of_ble_eq_true (by kernel_rfl)) fun w4 hB4 hm4 => ?_
    have hB4' : Has w4 w'.heap.size [slv bk[i].h.1, slv bk[i].h.2.1] 43 := hB4
    have hx4 : Ex w' w4 := hx3.into hm4 (fun i hi => by rw [hi]; exact Nat.le_refl _)
    refine Rd_has (c := .sl) (x := bk[i].h.1) hB4' (by kernel_rfl) rfl ?_
    have hm := List.getElem_mem hib
    have hl := (h.lens _ hm).1
    refine Cl_gv (same_gv bk[i].h.1 a1 bk[i].key l w4 ((h'.keys _ hm).1.ex hx4) (hk.ex (hx.trans hx4)) (by omega)) fun w5 hx5 => ?_
    have hx05 := (hx.trans hx4).trans hx5
    refine Cd_dec (fun heq => ⟨_, rfl, hx05, .inr ⟨i, bk[i], rfl, hbi, heq⟩⟩) (fun hne => ?_)
    rw [wrap64 (x := (i : Int) + 1) (by omega) (by omega)]
    refine hk2 _ _ ⟨rfl, rfl, rfl, hx05, i + 1, by omega, by simp, fun x hx' => ?_⟩ (by simp only; omega)
    rw [List.take_add_one, hbi] at hx'
    rcases List.mem_append.1 hx' with h1 | h1
    · exact hno x h1
    · obtain rfl : x = bk[i] := by simpa using h1
      exact hne
  · have : i = bk.length := by omega
    subst this
    rw [List.take_length] at hno
    exact ⟨_, rfl, hx, .inl ⟨rfl, hno⟩⟩
/-- the book behind 'noted' -/
structure Noted (bk bk' : List HeldK) (l : Path) (v : List (List Int)) : Prop where
  mem : ∀ e, e ∈ bk'.map HeldK.ent ↔ e = (l, v) ∨ e ∈ bk.map HeldK.ent ∧ e.1 ≠ l
  nodup : (bk'.map (·.key)).Nodup
  len : bk'.length ≤ bk.length + 1
theorem nodup_key {bk : List HeldK} (hn : (bk.map (·.key)).Nodup) {i j : Nat} {x y : HeldK} (hi : bk[i]? = some x) (hj : bk[j]? = some y) (hk : x.key = y.key) : i = j := by
  obtain ⟨h1, e1⟩ := List.getElem?_eq_some_iff.1 hi
  obtain ⟨h2, e2⟩ := List.getElem?_eq_some_iff.1 hj
  have := List.pairwise_iff_getElem.1 hn
  rcases Nat.lt_trichotomy i j with g | g | g
  · have := this i j (by simpa using h1) (by simpa using h2) g
    rw [List.getElem_map, List.getElem_map, e1, e2] at this
    exact absurd hk this
  · exact g
  · have := this j i (by simpa using h2) (by simpa using h1) g
    rw [List.getElem_map, List.getElem_map, e1, e2] at this
    exact absurd hk.symm this
theorem Noted.snoc {bk : List HeldK} {x : HeldK} (hn : (bk.map (·.key)).Nodup) (hno : ∀ y ∈ bk, y.key ≠ x.key) : Noted bk (bk ++ [x]) x.key x.val := by
  refine ⟨fun e => ?_, ?_, by simp⟩
  · rw [List.map_append, List.mem_append, List.map_cons, List.map_nil, List.mem_singleton]
    constructor
    · rintro (h | h)
      · refine .inr ⟨h, ?_⟩
        obtain ⟨y, hy, rfl⟩ := List.mem_map.1 h
        exact hno y hy
      · exact .inl h
    · rintro (h | h)
      · exact .inr h
      · exact .inl h.1
  · rw [List.map_append, List.map_cons, List.map_nil, List.nodup_append]
    refine ⟨hn, by simp, fun a ha b hb => ?_⟩
    obtain rfl : b = x.key := by simpa using hb
    obtain ⟨y, hy, rfl⟩ := List.mem_map.1 ha
    exact hno y hy
theorem Noted.set {bk : List HeldK} {x y : HeldK} {i : Nat} (hn : (bk.map (·.key)).Nodup) (hi : bk[i]? = some y) (hk : y.key = x.key) : Noted bk (bk.set i x) x.key x.val := by
  obtain ⟨hil, he⟩ := List.getElem?_eq_some_iff.1 hi
  refine ⟨fun e => ?_, ?_, by simp⟩
  · constructor
    · intro h
      obtain ⟨z, hz, rfl⟩ := List.mem_map.1 h
      obtain ⟨j, hj⟩ := List.getElem?_of_mem hz
      rw [List.getElem?_set] at hj
      split at hj
      · obtain rfl : x = z := by simpa [hil] using hj
        exact .inl rfl
      · rename_i hne
        refine .inr ⟨List.mem_map.2 ⟨z, List.mem_of_getElem? hj, rfl⟩, fun hzk => hne (nodup_key hn hi hj (by rw [hk]; exact hzk.symm))⟩
    · rintro (rfl | ⟨h, hne⟩)
      · exact List.mem_map.2 ⟨x, List.mem_of_getElem? (i := i) (by rw [List.getElem?_set, if_pos rfl, if_pos hil]), rfl⟩
      · obtain ⟨z, hz, rfl⟩ := List.mem_map.1 h
        obtain ⟨j, hj⟩ := List.getElem?_of_mem hz
        refine List.mem_map.2 ⟨z, List.mem_of_getElem? (i := j) ?_, rfl⟩
        rw [List.getElem?_set, if_neg (fun hij => ?_)]
        · exact hj
        · subst hij
          rw [hi] at hj
          obtain rfl : y = z := by simpa using hj
          exact hne hk
  · have : (bk.set i x).map (·.key) = bk.map (·.key) := by
      rw [List.map_set, ← hk, ← he]
      rw [show bk[i].key = (bk.map (·.key))[i]'(by simpa using hil) by rw [List.getElem_map]]
      exact List.set_getElem_self _
    rw [this]; exact hn
theorem noted_j1 {R : Ending → World → Prop} {w0 w : World} {bo : Nat → Prop} {base ob hb : Nat} {s ks vs : Sl} {bk : List HeldK} {o : OpK} (hx : Ex w0 w) (h : BookAt bo base w0 s bk) (hbase : base ≤ w0.heap.size) (hob : Has w ob (opV o.o) 32) (hop : OpOk w0 o) (hh : Has w hb [slv ks, slv vs] 43)
    (hk : Rds i64v w ks o.key) (hkb : ∀ a, ks.base = some a → w0.heap.size ≤ a.block ∧ a.block < w.heap.size) (hv : Nest b8 (fun b => w0.heap.size ≤ b ∧ b < w.heap.size) w vs o.val) (hs : bk.length ≤ 2199023255552) (hn : (bk.map (·.key)).Nodup)
    (hR : ∀ w' s' bk' bo', BookAt bo' base w' s' bk' → Mo (SlIn s) w0 w' → (∀ b, bo' b → bo b ∨ w0.heap.size ≤ b) → (∀ b, SlIn s' b → SlIn s b ∨ w0.heap.size ≤ b) → Noted bk bk' o.key o.val → R (.returned (slv s')) w') :
    culletlaw12_noted.j1 R s ⟨ob, 0, none⟩ ⟨hb, 0, none⟩ w := by
  obtain ⟨o1, o2, o3, o4⟩ := hop
  unfold culletlaw12_noted.j1
  refine Rd_has (c := .sl) (x := o.o.2.2.1) hob (by kernel_rfl) rfl ?_
  have hw := h.ex hx
  refine Calls.mono (findB_ok hw (o1.ex hx) (by omega)) ?_
  rintro en w1 ⟨z, rfl, hx1, hz⟩
  refine ⟨z, rfl, ?_⟩
  have hx01 := hx.trans hx1
  have h1 := h.ex hx01
  have hh1 := hh.ex hx1
  rcases hz with ⟨rfl, hno⟩ | ⟨i, y, rfl, hy, hyk⟩
  · refine Cd_t ?_
    refine Rd_hasN (x := ((ks, vs, ()) : HT)) hh1 (by kernel_rfl) rfl ?_
    refine Wr_litA (ats := hAts) (e := 43) (base := w1.heap.size) [((ks, vs, ()) : HT)] (by kernel_rfl) (Nat.le_refl _) (by simp) fun s2 w2 ho2 hx2 _ => ?_
    have hx02 := hx01.trans hx2
    refine Wr_appendA tH iH rfl (h1.sl.ex hx2) ho2.rda (fun y => held_one y) (by simp; omega) (by simp; omega) (Nat.le_trans hbase hx02.size) fun s3 w3 ho3 hm3 hin3 => ?_
    have hnew : ∀ b, w0.heap.size ≤ b → ¬ SlIn s b := fun b hb hsb => by
      have := (h.sl.base b hsb).2; omega
    refine hR w3 s3 (bk ++ [⟨(ks, vs, ()), o.key, o.val⟩]) (fun b => bo b ∨ (w0.heap.size ≤ b ∧ b < w2.heap.size)) ?_ (hx02.mo hm3) (fun b hb => hb.elim .inl (fun g => .inr g.1)) (fun b hb => (hin3 b hb).elim .inl (fun g => .inr (Nat.le_trans hx02.size g))) (Noted.snoc hn hno)
    refine ⟨by simpa using ho3, fun x hx' => ?_, fun x hx' => ?_, fun x hx' => ?_, fun b hb => ?_, fun b hb hbb => ?_⟩
    · rcases List.mem_append.1 hx' with hx' | hx'
      · exact ⟨((h1.keys x hx').1.ex hx2).mo hm3 (fun a ha hsb => h.sep _ hsb ((h1.keys x hx').2 a ha)), fun a ha => .inl ((h1.keys x hx').2 a ha)⟩
      · obtain rfl : x = _ := by simpa using hx'
        refine ⟨((hk.ex hx1).ex hx2).mo hm3 (fun a ha => hnew _ (hkb a ha).1), fun a ha => .inr ⟨(hkb a ha).1, ?_⟩⟩
        have := (hkb a ha).2; have := hx1.size; have := hx2.size; omega
    · rcases List.mem_append.1 hx' with hx' | hx'
      · exact (((h1.vals x hx').ex hx2).mo hm3 (fun b hb hsb => h.sep _ hsb hb)).weak (fun b hb => .inl hb)
      · obtain rfl : x = _ := by simpa using hx'
        refine (((hv.ex hx1).ex hx2).mo hm3 (fun b hb => hnew _ hb.1)).weak (fun b hb => .inr ⟨hb.1, ?_⟩)
        have := hb.2; have := hx1.size; have := hx2.size; omega
    · rcases List.mem_append.1 hx' with hx' | hx'
      · exact h.lens x hx'
      · obtain rfl : x = _ := by simpa using hx'
        exact ⟨o2, o4⟩
    · rcases hb with hb | hb
      · have := h.bos b hb; have := hx02.size; have := hm3.size; omega
      · have := hm3.size; omega
    · rcases hin3 b hb with g | g
      · rcases hbb with hbb | hbb
        · exact h.sep b g hbb
        · exact hnew b hbb.1 g
      · rcases hbb with hbb | hbb
        · have := (h1.bos b hbb).2; have := hx2.size; omega
        · omega
  · obtain ⟨hil, _⟩ := List.getElem?_eq_some_iff.1 hy
    refine Cd_dec (fun h => by omega) (fun _ => ?_)
    refine Rd_hasN (x := ((ks, vs, ()) : HT)) hh1 (by kernel_rfl) rfl ?_
    refine Wu_setA (ats := hAts) (x := ((ks, vs, ()) : HT)) h1.sl (by rw [List.length_map]; exact hil) tH sH sH (held_one _) fun w3 ho3 hm3 => ?_
    have hnew : ∀ b, w0.heap.size ≤ b → ¬ SlIn s b := fun b hb hsb => by
      have := (h.sl.base b hsb).2; omega
    refine hR w3 s (bk.set i ⟨(ks, vs, ()), o.key, o.val⟩) (fun b => bo b ∨ (w0.heap.size ≤ b ∧ b < w1.heap.size)) ?_ (hx01.mo hm3) (fun b hb => hb.elim .inl (fun g => .inr g.1)) (fun b hb => .inl hb) (Noted.set hn hy hyk)
    have mem : ∀ x, x ∈ bk.set i ⟨(ks, vs, ()), o.key, o.val⟩ → x ∈ bk ∨ x = ⟨(ks, vs, ()), o.key, o.val⟩ := fun x hx' => List.mem_or_eq_of_mem_set hx'
    refine ⟨by rw [List.map_set]; exact ho3, fun x hx' => ?_, fun x hx' => ?_, fun x hx' => ?_, fun b hb => ?_, fun b hb hbb => ?_⟩
    · rcases mem x hx' with hx' | rfl
      · exact ⟨(h1.keys x hx').1.mo hm3 (fun a ha hsb => h.sep _ hsb ((h1.keys x hx').2 a ha)), fun a ha => .inl ((h1.keys x hx').2 a ha)⟩
      · refine ⟨(hk.ex hx1).mo hm3 (fun a ha => hnew _ (hkb a ha).1), fun a ha => .inr ⟨(hkb a ha).1, ?_⟩⟩
        have := (hkb a ha).2; have := hx1.size; omega
    · rcases mem x hx' with hx' | rfl
      · exact ((h1.vals x hx').mo hm3 (fun b hb hsb => h.sep _ hsb hb)).weak (fun b hb => .inl hb)
      · refine ((hv.ex hx1).mo hm3 (fun b hb => hnew _ hb.1)).weak (fun b hb => .inr ⟨hb.1, ?_⟩)
        have := hb.2; have := hx1.size; omega
    · rcases mem x hx' with hx' | rfl
      · exact h.lens x hx'
      · exact ⟨o2, o4⟩
    · rcases hb with hb | hb
      · have := h.bos b hb; have := hx01.size; have := hm3.size; omega
      · have := hm3.size; omega
    · rcases hbb with hbb | hbb
      · exact h.sep b hb hbb
      · exact hnew b hbb.1 hb
theorem noted_ok {w0 : World} {bo : Nat → Prop} {base : Nat} {s : Sl} {bk : List HeldK} {o : OpK} (h : BookAt bo base w0 s bk) (hbase : base ≤ w0.heap.size) (hop : OpOk w0 o) (hs : bk.length ≤ 2199023255552) (hn : (bk.map (·.key)).Nodup) :
    Calls Try.prog 18 #[slv s, .agg (opV o.o).toArray] w0 fun en w' => ∃ s' bk' bo', en = .returned (slv s') ∧ BookAt bo' base w' s' bk' ∧ Mo (SlIn s) w0 w' ∧ (∀ b, bo' b → bo b ∨ w0.heap.size ≤ b) ∧ (∀ b, SlIn s' b → SlIn s b ∨ w0.heap.size ≤ b) ∧ Noted bk bk' o.key o.val := by
  obtain ⟨o1, o2, o3, o4⟩ := id hop
  refine culletlaw12_noted.run _ s o.o w0 ?_
  unfold culletlaw12_noted.M
  refine Wr_box fun w1 hB1 hx1 => ?_
  have hB1 : Has w1 w0.heap.size (opV o.o) 32 := hB1
  have hx1d := hx1.trans (Ex.drew w1)
  have hBd := hB1.ex (Ex.drew w1)
  refine Held_ex ?_
  refine RdS_has (c := .sl) (x := o.o.2.2.1) (fun w' hS => hBd.ex hS) (by kernel_rfl) rfl ?_
  refine RdS_has (c := .sl) (x := o.o.2.2.2.1) (fun w' hS => hBd.ex hS) (by kernel_rfl) rfl ?_
  have fin : ∀ (w4 : World) (hb : Nat) (ks vs : Sl), Ex w1.drew w4 → Has w4 hb [slv ks, slv vs] 43 → Rds i64v w4 ks o.key → (∀ a, ks.base = some a → w0.heap.size ≤ a.block ∧ a.block < w4.heap.size) → Nest b8 (fun b => w0.heap.size ≤ b ∧ b < w4.heap.size) w4 vs o.val →
      culletlaw12_noted.j1 (fun en w' => ∃ s' bk' bo', en = Ending.returned (slv s') ∧ BookAt bo' base w' s' bk' ∧ Mo (SlIn s) w0 w' ∧ (∀ b, bo' b → bo b ∨ w0.heap.size ≤ b) ∧ (∀ b, SlIn s' b → SlIn s b ∨ w0.heap.size ≤ b) ∧ Noted bk bk' o.key o.val) s ⟨w0.heap.size, 0, none⟩ ⟨hb, 0, none⟩ w4 := by
    intro w4 hb ks vs hx4 hh hk hkb hv
    exact noted_j1 (hx1d.trans hx4) h hbase (hBd.ex hx4) hop hh hk hkb hv hs hn (fun w' s' bk' bo' a b c d e => ⟨s', bk', bo', rfl, a, b, c, d, e⟩)
  have hsz := hx1d.size
  refine ⟨?_, ?_⟩
  · refine Cl_sl (copyKey_sl o.o.2.2.1 o.key _ (o1.ex hx1d) o2) fun k2 w2 hk2 hx2 => ⟨hx2, ?_, ?_⟩
    · refine Calls.mono (copyValue_nest o.o.2.2.2.1 o.val _ w2 (o3.ex (hx1d.trans hx2)) o4) ?_
      rintro en w3 ⟨v3, rfl, hv3, hx3⟩
      refine ⟨v3, rfl, hx2.trans hx3, ?_⟩
      refine Wr_alloc (z := .agg (encAts hAts ((nilS, nilS, ()) : HT)).toArray) (by kernel_rfl) fun w4 hB4 hx4 => ⟨(hx2.trans hx3).trans hx4, ?_⟩
      refine Wu_store (v := .agg (encAts hAts ((k2, v3, ()) : HT)).toArray) hB4 (by kernel_rfl) (held_one _) (Nat.le_of_ble_eq_true (by kernel_rfl)) fun w5 hB5 hm5 => ?_
      have hx35 : Ex w3 w5 := hx4.into hm5 (fun i hi => by rw [hi]; exact Nat.le_refl _)
      have hx25 := hx3.trans hx35
      refine ⟨hx2.trans hx25, fin w5 _ k2 v3 (hx2.trans hx25) hB5 (hk2.ex hx25).rds (fun a ha => ?_) ((hv3.ex hx35).nest.weak (fun b hb => ?_))⟩
      · have := (hk2.ex hx25).base _ (slin_of ha); omega
      · have := hx2.size; omega
    · refine Wr_alloc (z := .agg (encAts hAts ((nilS, nilS, ()) : HT)).toArray) (by kernel_rfl) fun w3 hB3 hx3 => ⟨hx2.trans hx3, ?_⟩
      have hx23 := hx2.trans hx3
      refine Calls.mono (copyValue_nest o.o.2.2.2.1 o.val _ w3 (o3.ex (hx1d.trans hx23)) o4) ?_
      rintro en w4 ⟨v4, rfl, hv4, hx4⟩
      refine ⟨v4, rfl, hx23.trans hx4, ?_⟩
      refine Wu_store (v := .agg (encAts hAts ((k2, v4, ()) : HT)).toArray) (hB3.ex hx4) (by kernel_rfl) (held_one _) (Nat.le_of_ble_eq_true (by kernel_rfl)) fun w5 hB5 hm5 => ?_
      have hx25 : Ex w2 w5 := (hx3.trans hx4).into hm5 (fun i hi => by rw [hi]; exact Nat.le_refl _)
      have hlt := hB3.lt
      refine ⟨hx2.trans hx25, fin w5 _ k2 v4 (hx2.trans hx25) hB5 (hk2.ex hx25).rds (fun a ha => ?_) ((hv4.mo hm5 (fun b hb1 hb2 e => by omega)).nest.weak (fun b hb => ?_))⟩
      · have := (hk2.ex hx25).base _ (slin_of ha); omega
      · have := hx23.size; omega
  · refine Wr_alloc (z := .agg (encAts hAts ((nilS, nilS, ()) : HT)).toArray) (by kernel_rfl) fun w2 hB2 hx2 => ⟨hx2, ?_⟩
    refine Cl_sl (copyKey_sl o.o.2.2.1 o.key _ (o1.ex (hx1d.trans hx2)) o2) fun k3 w3 hk3 hx3 => ⟨hx2.trans hx3, ?_⟩
    have hx23 := hx2.trans hx3
    refine Calls.mono (copyValue_nest o.o.2.2.2.1 o.val _ w3 (o3.ex (hx1d.trans hx23)) o4) ?_
    rintro en w4 ⟨v4, rfl, hv4, hx4⟩
    refine ⟨v4, rfl, hx23.trans hx4, ?_⟩
    have hlt := hB2.lt
    refine Wu_store (v := .agg (encAts hAts ((k3, v4, ()) : HT)).toArray) ((hB2.ex hx3).ex hx4) (by kernel_rfl) (held_one _) (Nat.le_of_ble_eq_true (by kernel_rfl)) fun w5 hB5 hm5 => ?_
    have hx25 : Ex w1.drew w5 := (hx23.trans hx4).into hm5 (fun i hi => by rw [hi]; exact Nat.le_refl _)
    have hk5 := (hk3.ex hx4).mo hm5 (fun b hb e => by have := (hk3.base b hb).1; omega)
    refine ⟨hx25, fin w5 _ k3 v4 hx25 hB5 hk5.rds (fun a ha => ?_) ((hv4.mo hm5 (fun b hb1 hb2 e => by have := hx3.size; omega)).nest.weak (fun b hb => ?_))⟩
    · have := hk5.base _ (slin_of ha); have := hx2.size; omega
    · have := hx23.size; omega
end Go.Proofs.Ytdnlnloogfnlgaa
