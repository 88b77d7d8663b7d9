/- The book of TrieFinds: find and noted. -/
import Derived.Test.YtdnlnloogfnlgaaTrU
import Derived.Test.YtdnlnloogfnlgaaSetLib
set_option linter.all false
namespace Go.Proofs.Ytdnlnloogfnlgaa
open Go Go.Cu Go.RowKit
set_option linter.unusedVariables false
set_option maxHeartbeats 4000000
abbrev hAts : List At := [.sl, .sl]
abbrev HT : Type := Ats hAts
structure HeldK where
  h : HT
  key : Path
  val : List (List Int)
abbrev HeldK.ent (x : HeldK) : Ent := (x.key, x.val)
theorem held_one (h : HT) : ∀ u ∈ encAts hAts h, u.oneCell' = true := by
  intro u hu
  simp only [hAts, encAts, List.mem_cons, List.not_mem_nil, or_false] at hu
  rcases hu with rfl | rfl <;> rfl
theorem tH : Try.prog.underlying 28 = some (.slice 43) := by kernel_rfl
theorem sH : sizeIs Try.prog 43 hAts.length = true := by kernel_rfl
theorem aH : isAggN Try.prog 43 hAts.length = true := by kernel_rfl
theorem iH : (Try.prog.info? 43).map (fun i => (i.zero, i.size, i.bytes)) = some (some (.agg (encAts hAts ((nilS, nilS, ()) : HT)).toArray), hAts.length, 48) := by kernel_rfl
/-- the book: its rows lie in blocks 'bo', apart from its own -/
structure BookAt (bo : Nat → Prop) (base : Nat) (w : World) (s : Sl) (bk : List HeldK) : Prop where
  sl : OwnA hAts 43 base w s (bk.map (·.h))
  keys : ∀ x ∈ bk, Rds i64v w x.h.1 x.key ∧ ∀ a, x.h.1.base = some a → bo a.block
  vals : ∀ x ∈ bk, Nest b8 bo w x.h.2.1 x.val
  lens : ∀ x ∈ bk, x.key.length ≤ 17592186044000 ∧ RowsLe x.val
  bos : ∀ b, bo b → base ≤ b ∧ b < w.heap.size
  sep : ∀ b, SlIn s b → ¬ bo b
theorem BookAt.nil (base : Nat) (w : World) : BookAt (fun _ => False) base w nilS [] := ⟨OwnA.nil _ _ _ _, by simp, by simp, by simp, fun b h => h.elim, fun b _ h => h⟩
theorem BookAt.mo {bo X : Nat → Prop} {base : Nat} {w w' : World} {s : Sl} {bk : List HeldK} (h : BookAt bo base w s bk) (k : Mo X w w') (h1 : ∀ b, bo b → ¬ X b) (h2 : ∀ b, SlIn s b → ¬ X b) : BookAt bo base w' s bk :=
  ⟨h.sl.mo k h2, fun x hx => ⟨(h.keys x hx).1.mo k (fun a ha => h1 _ ((h.keys x hx).2 a ha)), (h.keys x hx).2⟩, fun x hx => (h.vals x hx).mo k h1, h.lens, fun b hb => ⟨(h.bos b hb).1, Nat.lt_of_lt_of_le (h.bos b hb).2 k.size⟩, h.sep⟩
theorem BookAt.ex {bo : Nat → Prop} {base : Nat} {w w' : World} {s : Sl} {bk : List HeldK} (h : BookAt bo base w s bk) (k : Ex w w') : BookAt bo base w' s bk := h.mo k (fun _ _ => id) (fun _ _ => id)
theorem BookAt.len {bo : Nat → Prop} {base : Nat} {w : World} {s : Sl} {bk : List HeldK} (h : BookAt bo base w s bk) : s.len = bk.length := by rw [h.sl.1, List.length_map]
/-- the key's place in the book, or -1 -/
def FindsAt (bk : List HeldK) (l : Path) (z : Int) : Prop := (z = -1 ∧ ∀ x ∈ bk, x.key ≠ l) ∨ ∃ (i : Nat) (x : HeldK), z = (i : Int) ∧ bk[i]? = some x ∧ x.key = l
theorem findB_ok {bo : Nat → Prop} {base : Nat} {w : World} {s ks : Sl} {bk : List HeldK} {l : Path} (h : BookAt bo base w s bk) (hk : Rds i64v w ks l) (hs : bk.length ≤ 4398046511104) :
    Calls Try.prog 14 #[slv s, slv ks] w fun en w' => ∃ z, en = .returned (.int .i64 z) ∧ Ex w w' ∧ FindsAt bk l z := by
  refine culletlaw12_find.run _ s ks w ?_
  unfold culletlaw12_find.M culletlaw12_find.l1
  rw [h.len]
  refine loopW_of (fun st w' => st.1 = ks ∧ st.2.1 = s ∧ st.2.2.1 = (bk.length : Int) ∧ Ex w w' ∧ ∃ i : Nat, i ≤ bk.length ∧ st.2.2.2.1 = (i : Int) ∧ ∀ x ∈ bk.take i, x.key ≠ l) (fun st _ => bk.length - st.2.2.2.1.toNat) ?_
    ⟨rfl, rfl, rfl, Ex.refl w, 0, Nat.zero_le _, rfl, by simp⟩
  rintro k ⟨a1, a2, a3, i', u⟩ w' hI hk2
  dsimp only at hI hk2 ⊢
  obtain ⟨rfl, rfl, rfl, hx, i, hi, rfl, hno⟩ := hI
  unfold culletlaw12_find.b1
  refine Cd_dec (fun hlt => ?_) (fun hge => ?_)
  · have hib : i < bk.length := by omega
    have h' := h.ex hx
    refine Pu_idxA h'.sl.rda tH sH (by omega) (by rw [List.length_map]; omega) fun a hv hhv hc _ => ?_
    rw [Int.toNat_natCast, List.getElem?_map, List.getElem?_eq_getElem hib] at hhv
    obtain rfl : bk[i].h = hv := by simpa using hhv
    have hbi : bk[i]? = some bk[i] := List.getElem?_eq_getElem hib
    refine Rd_agg (x := bk[i].h) aH hc ?_
    refine Wr_alloc (z := .agg (encAts hAts ((nilS, nilS, ()) : HT)).toArray) (by kernel_rfl) fun w3 hB3 hx3 => ?_
    refine Wu_store (v := .agg (encAts hAts bk[i].h).toArray) hB3 (by kernel_rfl) (held_one bk[i].h) (Nat.le_of_ble_eq_true (by kernel_rfl)) fun w4 hB4 hm4 => ?_
    have hB4' : Has w4 w'.heap.size [slv bk[i].h.1, slv bk[i].h.2.1] 43 := hB4
    have hx4 : Ex w' w4 := hx3.into hm4 (fun i hi => by rw [hi]; exact Nat.le_refl _)
    refine Rd_has (c := .sl) (x := bk[i].h.1) hB4' (by kernel_rfl) rfl ?_
    have hm := List.getElem_mem hib
    have hl := (h.lens _ hm).1
    refine Cl_gv (same_gv bk[i].h.1 a1 bk[i].key l w4 ((h'.keys _ hm).1.ex hx4) (hk.ex (hx.trans hx4)) (by omega)) fun w5 hx5 => ?_
    have hx05 := (hx.trans hx4).trans hx5
    refine Cd_dec (fun heq => ⟨_, rfl, hx05, .inr ⟨i, bk[i], rfl, hbi, heq⟩⟩) (fun hne => ?_)
    rw [wrap64 (x := (i : Int) + 1) (by omega) (by omega)]
    refine hk2 _ _ ⟨rfl, rfl, rfl, hx05, i + 1, by omega, by simp, fun x hx' => ?_⟩ (by simp only; omega)
    rw [List.take_add_one, hbi] at hx'
    rcases List.mem_append.1 hx' with h1 | h1
    · exact hno x h1
    · obtain rfl : x = bk[i] := by simpa using h1
      exact hne
  · have : i = bk.length := by omega
    subst this
    rw [List.take_length] at hno
    exact ⟨_, rfl, hx, .inl ⟨rfl, hno⟩⟩
/-- the book behind 'noted' -/
structure Noted (bk bk' : List HeldK) (l : Path) (v : List (List Int)) : Prop where
  mem : ∀ e, e ∈ bk'.map HeldK.ent ↔ e = (l, v) ∨ e ∈ bk.map HeldK.ent ∧ e.1 ≠ l
  nodup : (bk'.map (·.key)).Nodup
  len : bk'.length ≤ bk.length + 1
theorem nodup_key {bk : List HeldK} (hn : (bk.map (·.key)).Nodup) {i j : Nat} {x y : HeldK} (hi : bk[i]? = some x) (hj : bk[j]? = some y) (hk : x.key = y.key) : i = j := by
  obtain ⟨h1, e1⟩ := List.getElem?_eq_some_iff.1 hi
  obtain ⟨h2, e2⟩ := List.getElem?_eq_some_iff.1 hj
  have := List.pairwise_iff_getElem.1 hn
  rcases Nat.lt_trichotomy i j with g | g | g
  · have := this i j (by simpa using h1) (by simpa using h2) g
    rw [List.getElem_map, List.getElem_map, e1, e2] at this
    exact absurd hk this
  · exact g
  · have := this j i (by simpa using h2) (by simpa using h1) g
    rw [List.getElem_map, List.getElem_map, e1, e2] at this
    exact absurd hk.symm this
theorem Noted.snoc {bk : List HeldK} {x : HeldK} (hn : (bk.map (·.key)).Nodup) (hno : ∀ y ∈ bk, y.key ≠ x.key) : Noted bk (bk ++ [x]) x.key x.val := by
  refine ⟨fun e => ?_, ?_, by simp⟩
  · rw [List.map_append, List.mem_append, List.map_cons, List.map_nil, List.mem_singleton]
    constructor
    · rintro (h | h)
      · refine .inr ⟨h, ?_⟩
        obtain ⟨y, hy, rfl⟩ := List.mem_map.1 h
        exact hno y hy
      · exact .inl h
    · rintro (h | h)
      · exact .inr h
      · exact .inl h.1
  · rw [List.map_append, List.map_cons, List.map_nil, List.nodup_append]
    refine ⟨hn, by simp, fun a ha b hb => ?_⟩
    obtain rfl : b = x.key := by simpa using hb
    obtain ⟨y, hy, rfl⟩ := List.mem_map.1 ha
    exact hno y hy
theorem Noted.set {bk : List HeldK} {x y : HeldK} {i : Nat} (hn : (bk.map (·.key)).Nodup) (hi : bk[i]? = some y) (hk : y.key = x.key) : Noted bk (bk.set i x) x.key x.val := by
  obtain ⟨hil, he⟩ := List.getElem?_eq_some_iff.1 hi
  refine ⟨fun e => ?_, ?_, by simp⟩
  · constructor
    · intro h
      obtain ⟨z, hz, rfl⟩ := List.mem_map.1 h
      obtain ⟨j, hj⟩ := List.getElem?_of_mem hz
      rw [List.getElem?_set] at hj
      split at hj
      · obtain rfl : x = z := by simpa [hil] using hj
        exact .inl rfl
      · rename_i hne
        refine .inr ⟨List.mem_map.2 ⟨z, List.mem_of_getElem? hj, rfl⟩, fun hzk => hne (nodup_key hn hi hj (by rw [hk]; exact hzk.symm))⟩
    · rintro (rfl | ⟨h, hne⟩)
      · exact List.mem_map.2 ⟨x, List.mem_of_getElem? (i := i) (by rw [List.getElem?_set, if_pos rfl, if_pos hil]), rfl⟩
      · obtain ⟨z, hz, rfl⟩ := List.mem_map.1 h
        obtain ⟨j, hj⟩ := List.getElem?_of_mem hz
        refine List.mem_map.2 ⟨z, List.mem_of_getElem? (i := j) ?_, rfl⟩
        rw [List.getElem?_set, if_neg (fun hij => ?_)]
        · exact hj
        · subst hij
          rw [hi] at hj
          obtain rfl : y = z := by simpa using hj
          exact hne hk
  · have : (bk.set i x).map (·.key) = bk.map (·.key) := by
      rw [List.map_set, ← hk, ← he]
      rw [show bk[i].key = (bk.map (·.key))[i]'(by simpa using hil) by rw [List.getElem_map]]
      exact List.set_getElem_self _
    rw [this]; exact hn
theorem noted_j1 {R : Ending → World → Prop} {w0 w : World} {bo : Nat → Prop} {base ob hb : Nat} {s ks vs : Sl} {bk : List HeldK} {o : OpK} (hx : Ex w0 w) (h : BookAt bo base w0 s bk) (hbase : base ≤ w0.heap.size) (hob : Has w ob (opV o.o) 32) (hop : OpOk w0 o) (hh : Has w hb [slv ks, slv vs] 43)
    (hk : Rds i64v w ks o.key) (hkb : ∀ a, ks.base = some a → w0.heap.size ≤ a.block ∧ a.block < w.heap.size) (hv : Nest b8 (fun b => w0.heap.size ≤ b ∧ b < w.heap.size) w vs o.val) (hs : bk.length ≤ 2199023255552) (hn : (bk.map (·.key)).Nodup)
    (hR : ∀ w' s' bk' bo', BookAt bo' base w' s' bk' → Mo (SlIn s) w0 w' → (∀ b, bo' b → bo b ∨ w0.heap.size ≤ b) → (∀ b, SlIn s' b → SlIn s b ∨ w0.heap.size ≤ b) → Noted bk bk' o.key o.val → R (.returned (slv s')) w') :
    culletlaw12_noted.j1 R s ⟨ob, 0, none⟩ ⟨hb, 0, none⟩ w := by
  obtain ⟨o1, o2, o3, o4⟩ := hop
  unfold culletlaw12_noted.j1
  refine Rd_has (c := .sl) (x := o.o.2.2.1) hob (by kernel_rfl) rfl ?_
  have hw := h.ex hx
  refine Calls.mono (findB_ok hw (o1.ex hx) (by omega)) ?_
  rintro en w1 ⟨z, rfl, hx1, hz⟩
  refine ⟨z, rfl, ?_⟩
  have hx01 := hx.trans hx1
  have h1 := h.ex hx01
  have hh1 := hh.ex hx1
  rcases hz with ⟨rfl, hno⟩ | ⟨i, y, rfl, hy, hyk⟩
  · refine Cd_t ?_
    refine Rd_hasN (x := ((ks, vs, ()) : HT)) hh1 (by kernel_rfl) rfl ?_
    refine Wr_litA (ats := hAts) (e := 43) (base := w1.heap.size) [((ks, vs, ()) : HT)] (by kernel_rfl) (Nat.le_refl _) (by simp) fun s2 w2 ho2 hx2 _ => ?_
    have hx02 := hx01.trans hx2
    refine Wr_appendA tH iH rfl (h1.sl.ex hx2) ho2.rda (fun y => held_one y) (by simp; omega) (by simp; omega) (Nat.le_trans hbase hx02.size) fun s3 w3 ho3 hm3 hin3 => ?_
    have hnew : ∀ b, w0.heap.size ≤ b → ¬ SlIn s b := fun b hb hsb => by
      have := (h.sl.base b hsb).2; omega
    refine hR w3 s3 (bk ++ [⟨(ks, vs, ()), o.key, o.val⟩]) (fun b => bo b ∨ (w0.heap.size ≤ b ∧ b < w2.heap.size)) ?_ (hx02.mo hm3) (fun b hb => hb.elim .inl (fun g => .inr g.1)) (fun b hb => (hin3 b hb).elim .inl (fun g => .inr (Nat.le_trans hx02.size g))) (Noted.snoc hn hno)
    refine ⟨by simpa using ho3, fun x hx' => ?_, fun x hx' => ?_, fun x hx' => ?_, fun b hb => ?_, fun b hb hbb => ?_⟩
    · rcases List.mem_append.1 hx' with hx' | hx'
      · exact ⟨((h1.keys x hx').1.ex hx2).mo hm3 (fun a ha hsb => h.sep _ hsb ((h1.keys x hx').2 a ha)), fun a ha => .inl ((h1.keys x hx').2 a ha)⟩
      · obtain rfl : x = _ := by simpa using hx'
        refine ⟨((hk.ex hx1).ex hx2).mo hm3 (fun a ha => hnew _ (hkb a ha).1), fun a ha => .inr ⟨(hkb a ha).1, ?_⟩⟩
        have := (hkb a ha).2; have := hx1.size; have := hx2.size; omega
    · rcases List.mem_append.1 hx' with hx' | hx'
      · exact (((h1.vals x hx').ex hx2).mo hm3 (fun b hb hsb => h.sep _ hsb hb)).weak (fun b hb => .inl hb)
      · obtain rfl : x = _ := by simpa using hx'
        refine (((hv.ex hx1).ex hx2).mo hm3 (fun b hb => hnew _ hb.1)).weak (fun b hb => .inr ⟨hb.1, ?_⟩)
        have := hb.2; have := hx1.size; have := hx2.size; omega
    · rcases List.mem_append.1 hx' with hx' | hx'
      · exact h.lens x hx'
      · obtain rfl : x = _ := by simpa using hx'
        exact ⟨o2, o4⟩
    · rcases hb with hb | hb
      · have := h.bos b hb; have := hx02.size; have := hm3.size; omega
      · have := hm3.size; omega
    · rcases hin3 b hb with g | g
      · rcases hbb with hbb | hbb
        · exact h.sep b g hbb
        · exact hnew b hbb.1 g
      · rcases hbb with hbb | hbb
        · have := (h1.bos b hbb).2; have := hx2.size; omega
        · omega
  · obtain ⟨hil, _⟩ := List.getElem?_eq_some_iff.1 hy
    refine Cd_dec (fun h => by omega) (fun _ => ?_)
    refine Rd_hasN (x := ((ks, vs, ()) : HT)) hh1 (by kernel_rfl) rfl ?_
    refine Wu_setA (ats := hAts) (x := ((ks, vs, ()) : HT)) h1.sl (by rw [List.length_map]; exact hil) tH sH sH (held_one _) fun w3 ho3 hm3 => ?_
    have hnew : ∀ b, w0.heap.size ≤ b → ¬ SlIn s b := fun b hb hsb => by
      have := (h.sl.base b hsb).2; omega
    refine hR w3 s (bk.set i ⟨(ks, vs, ()), o.key, o.val⟩) (fun b => bo b ∨ (w0.heap.size ≤ b ∧ b < w1.heap.size)) ?_ (hx01.mo hm3) (fun b hb => hb.elim .inl (fun g => .inr g.1)) (fun b hb => .inl hb) (Noted.set hn hy hyk)
    have mem : ∀ x, x ∈ bk.set i ⟨(ks, vs, ()), o.key, o.val⟩ → x ∈ bk ∨ x = ⟨(ks, vs, ()), o.key, o.val⟩ := fun x hx' => List.mem_or_eq_of_mem_set hx'
    refine ⟨by rw [List.map_set]; exact ho3, fun x hx' => ?_, fun x hx' => ?_, fun x hx' => ?_, fun b hb => ?_, fun b hb hbb => ?_⟩
    · rcases mem x hx' with hx' | rfl
      · exact ⟨(h1.keys x hx').1.mo hm3 (fun a ha hsb => h.sep _ hsb ((h1.keys x hx').2 a ha)), fun a ha => .inl ((h1.keys x hx').2 a ha)⟩
      · refine ⟨(hk.ex hx1).mo hm3 (fun a ha => hnew _ (hkb a ha).1), fun a ha => .inr ⟨(hkb a ha).1, ?_⟩⟩
        have := (hkb a ha).2; have := hx1.size; omega
    · rcases mem x hx' with hx' | rfl
      · exact ((h1.vals x hx').mo hm3 (fun b hb hsb => h.sep _ hsb hb)).weak (fun b hb => .inl hb)
      · refine ((hv.ex hx1).mo hm3 (fun b hb => hnew _ hb.1)).weak (fun b hb => .inr ⟨hb.1, ?_⟩)
        have := hb.2; have := hx1.size; omega
    · rcases mem x hx' with hx' | rfl
      · exact h.lens x hx'
      · exact ⟨o2, o4⟩
    · rcases hb with hb | hb
      · have := h.bos b hb; have := hx01.size; have := hm3.size; omega
      · have := hm3.size; omega
    · rcases hbb with hbb | hbb
      · exact h.sep b hb hbb
      · exact hnew b hbb.1 hb
theorem noted_ok {w0 : World} {bo : Nat → Prop} {base : Nat} {s : Sl} {bk : List HeldK} {o : OpK} (h : BookAt bo base w0 s bk) (hbase : base ≤ w0.heap.size) (hop : OpOk w0 o) (hs : bk.length ≤ 2199023255552) (hn : (bk.map (·.key)).Nodup) :
    Calls Try.prog 18 #[slv s, .agg (opV o.o).toArray] w0 fun en w' => ∃ s' bk' bo', en = .returned (slv s') ∧ BookAt bo' base w' s' bk' ∧ Mo (SlIn s) w0 w' ∧ (∀ b, bo' b → bo b ∨ w0.heap.size ≤ b) ∧ (∀ b, SlIn s' b → SlIn s b ∨ w0.heap.size ≤ b) ∧ Noted bk bk' o.key o.val := by
  obtain ⟨o1, o2, o3, o4⟩ := id hop
  refine culletlaw12_noted.run _ s o.o w0 ?_
  unfold culletlaw12_noted.M
  refine Wr_box fun w1 hB1 hx1 => ?_
  have hB1 : Has w1 w0.heap.size (opV o.o) 32 := hB1
  have hx1d := hx1.trans (Ex.drew w1)
  have hBd := hB1.ex (Ex.drew w1)
  refine Held_ex ?_
  refine RdS_has (c := .sl) (x := o.o.2.2.1) (fun w' hS => hBd.ex hS) (by kernel_rfl) rfl ?_
  refine RdS_has (c := .sl) (x := o.o.2.2.2.1) (fun w' hS => hBd.ex hS) (by kernel_rfl) rfl ?_
  have fin : ∀ (w4 : World) (hb : Nat) (ks vs : Sl), Ex w1.drew w4 → Has w4 hb [slv ks, slv vs] 43 → Rds i64v w4 ks o.key → (∀ a, ks.base = some a → w0.heap.size ≤ a.block ∧ a.block < w4.heap.size) → Nest b8 (fun b => w0.heap.size ≤ b ∧ b < w4.heap.size) w4 vs o.val →
      culletlaw12_noted.j1 (fun en w' => ∃ s' bk' bo', en = Ending.returned (slv s') ∧ BookAt bo' base w' s' bk' ∧ Mo (SlIn s) w0 w' ∧ (∀ b, bo' b → bo b ∨ w0.heap.size ≤ b) ∧ (∀ b, SlIn s' b → SlIn s b ∨ w0.heap.size ≤ b) ∧ Noted bk bk' o.key o.val) s ⟨w0.heap.size, 0, none⟩ ⟨hb, 0, none⟩ w4 := by
    intro w4 hb ks vs hx4 hh hk hkb hv
    exact noted_j1 (hx1d.trans hx4) h hbase (hBd.ex hx4) hop hh hk hkb hv hs hn (fun w' s' bk' bo' a b c d e => ⟨s', bk', bo', rfl, a, b, c, d, e⟩)
  have hsz := hx1d.size
  refine ⟨?_, ?_⟩
  · refine Cl_sl (copyKey_sl o.o.2.2.1 o.key _ (o1.ex hx1d) o2) fun k2 w2 hk2 hx2 => ⟨hx2, ?_, ?_⟩
    · refine Calls.mono (copyValue_nest o.o.2.2.2.1 o.val _ w2 (o3.ex (hx1d.trans hx2)) o4) ?_
      rintro en w3 ⟨v3, rfl, hv3, hx3⟩
      refine ⟨v3, rfl, hx2.trans hx3, ?_⟩
      refine Wr_alloc (z := .agg (encAts hAts ((nilS, nilS, ()) : HT)).toArray) (by kernel_rfl) fun w4 hB4 hx4 => ⟨(hx2.trans hx3).trans hx4, ?_⟩
      refine Wu_store (v := .agg (encAts hAts ((k2, v3, ()) : HT)).toArray) hB4 (by kernel_rfl) (held_one _) (Nat.le_of_ble_eq_true (by kernel_rfl)) fun w5 hB5 hm5 => ?_
      have hx35 : Ex w3 w5 := hx4.into hm5 (fun i hi => by rw [hi]; exact Nat.le_refl _)
      have hx25 := hx3.trans hx35
      refine ⟨hx2.trans hx25, fin w5 _ k2 v3 (hx2.trans hx25) hB5 (hk2.ex hx25).rds (fun a ha => ?_) ((hv3.ex hx35).nest.weak (fun b hb => ?_))⟩
      · have := (hk2.ex hx25).base _ (slin_of ha); omega
      · have := hx2.size; omega
    · refine Wr_alloc (z := .agg (encAts hAts ((nilS, nilS, ()) : HT)).toArray) (by kernel_rfl) fun w3 hB3 hx3 => ⟨hx2.trans hx3, ?_⟩
      have hx23 := hx2.trans hx3
      refine Calls.mono (copyValue_nest o.o.2.2.2.1 o.val _ w3 (o3.ex (hx1d.trans hx23)) o4) ?_
      rintro en w4 ⟨v4, rfl, hv4, hx4⟩
      refine ⟨v4, rfl, hx23.trans hx4, ?_⟩
      refine Wu_store (v := .agg (encAts hAts ((k2, v4, ()) : HT)).toArray) (hB3.ex hx4) (by kernel_rfl) (held_one _) (Nat.le_of_ble_eq_true (by kernel_rfl)) fun w5 hB5 hm5 => ?_
      have hx25 : Ex w2 w5 := (hx3.trans hx4).into hm5 (fun i hi => by rw [hi]; exact Nat.le_refl _)
      have hlt := hB3.lt
      refine ⟨hx2.trans hx25, fin w5 _ k2 v4 (hx2.trans hx25) hB5 (hk2.ex hx25).rds (fun a ha => ?_) ((hv4.mo hm5 (fun b hb1 hb2 e => by omega)).nest.weak (fun b hb => ?_))⟩
      · have := (hk2.ex hx25).base _ (slin_of ha); omega
      · have := hx23.size; omega
  · refine Wr_alloc (z := .agg (encAts hAts ((nilS, nilS, ()) : HT)).toArray) (by kernel_rfl) fun w2 hB2 hx2 => ⟨hx2, ?_⟩
    refine Cl_sl (copyKey_sl o.o.2.2.1 o.key _ (o1.ex (hx1d.trans hx2)) o2) fun k3 w3 hk3 hx3 => ⟨hx2.trans hx3, ?_⟩
    have hx23 := hx2.trans hx3
    refine Calls.mono (copyValue_nest o.o.2.2.2.1 o.val _ w3 (o3.ex (hx1d.trans hx23)) o4) ?_
    rintro en w4 ⟨v4, rfl, hv4, hx4⟩
    refine ⟨v4, rfl, hx23.trans hx4, ?_⟩
    have hlt := hB2.lt
    refine Wu_store (v := .agg (encAts hAts ((k3, v4, ()) : HT)).toArray) ((hB2.ex hx3).ex hx4) (by kernel_rfl) (held_one _) (Nat.le_of_ble_eq_true (by kernel_rfl)) fun w5 hB5 hm5 => ?_
    have hx25 : Ex w1.drew w5 := (hx23.trans hx4).into hm5 (fun i hi => by rw [hi]; exact Nat.le_refl _)
    have hk5 := (hk3.ex hx4).mo hm5 (fun b hb e => by have := (hk3.base b hb).1; omega)
    refine ⟨hx25, fin w5 _ k3 v4 hx25 hB5 hk5.rds (fun a ha => ?_) ((hv4.mo hm5 (fun b hb1 hb2 e => by have := hx3.size; omega)).nest.weak (fun b hb => ?_))⟩
    · have := hk5.base _ (slin_of ha); have := hx2.size; omega
    · have := hx23.size; omega
end Go.Proofs.Ytdnlnloogfnlgaa
/- TrieFinds: what is put is found. -/
namespace Go.Proofs.Ytdnlnloogfnlgaa
open Go Go.Cu Go.RowKit
set_option linter.unusedVariables false
set_option maxHeartbeats 4000000
/-- the trie's entries beside the book's -/
structure Rel (es : List Ent) (bk : List HeldK) (lim : Int) (cr : Bool) : Prop where
  sub : ∀ e ∈ es, e ∈ bk.map HeldK.ent
  all : cr = false → (∀ e ∈ bk.map HeldK.ent, e ∈ es) ∧ (bk.length : Int) ≤ lim
theorem Rel.put {es : List Ent} {bk bk' : List HeldK} {lim : Int} {cr : Bool} {l : Path} {v : List (List Int)} (h : Rel es bk lim cr) (hn : Noted bk bk' l v) (hes : (es.map (·.1)).Nodup) : Rel (putE es lim l v) bk' lim (cr || decide ((bk'.length : Int) > lim)) := by
  have hL : ∀ e ∈ (l, v) :: without es l, e ∈ bk'.map HeldK.ent := by
    intro e he
    rw [List.mem_cons, mem_without] at he
    rcases he with rfl | ⟨h1, h2⟩
    · exact (hn.mem _).2 (.inl rfl)
    · exact (hn.mem _).2 (.inr ⟨h.sub e h1, h2⟩)
  refine ⟨fun e he => hL e (List.mem_of_mem_take he), fun hc => ?_⟩
  rw [Bool.or_eq_false_iff] at hc
  obtain ⟨h1, h2⟩ := hc
  have h2 := of_decide_eq_false h2
  have hlen : ((l, v) :: without es l).length ≤ bk'.length := by
    have := nodup_sub_len (((l, v) :: without es l).map (·.1)) (bk'.map (·.key)) ?_ ?_
    · simpa using this
    · rw [List.map_cons, List.nodup_cons]
      refine ⟨fun hm => ?_, without_nodup hes⟩
      obtain ⟨e, he, hel⟩ := List.mem_map.1 hm
      exact (mem_without.1 he).2 hel
    · intro k hk
      obtain ⟨e, he, rfl⟩ := List.mem_map.1 hk
      obtain ⟨x, hx, hxe⟩ := List.mem_map.1 (hL e he)
      exact List.mem_map.2 ⟨x, hx, by rw [← hxe]⟩
  refine ⟨fun e he => ?_, by omega⟩
  unfold putE
  rw [List.take_of_length_le (by omega), List.mem_cons, mem_without]
  rcases (hn.mem e).1 he with h3 | ⟨h3, h4⟩
  · exact .inl h3
  · exact .inr ⟨(h.all h1).1 e h3, h4⟩
theorem Rel.front {es : List Ent} {bk : List HeldK} {lim : Int} {cr : Bool} {l : Path} {v : List (List Int)} (h : Rel es bk lim cr) (hm : (l, v) ∈ es) (hes : (es.map (·.1)).Nodup) : Rel (frontE es l v) bk lim cr := by
  have hiff : ∀ e, e ∈ frontE es l v ↔ e ∈ es := by
    intro e
    unfold frontE
    rw [List.mem_cons, mem_without]
    constructor
    · rintro (rfl | ⟨h1, _⟩)
      · exact hm
      · exact h1
    · intro he
      by_cases hk : e.1 = l
      · refine .inl ?_
        obtain ⟨i, hi⟩ := List.getElem?_of_mem he
        obtain ⟨j, hj⟩ := List.getElem?_of_mem hm
        obtain ⟨h1, e1⟩ := List.getElem?_eq_some_iff.1 hi
        obtain ⟨h2, e2⟩ := List.getElem?_eq_some_iff.1 hj
        have hp := List.pairwise_iff_getElem.1 hes
        rcases Nat.lt_trichotomy i j with g | g | g
        · have := hp i j (by simpa using h1) (by simpa using h2) g
          rw [List.getElem_map, List.getElem_map, e1, e2] at this
          exact absurd hk this
        · subst g; rw [← e1, ← e2]
        · have := hp j i (by simpa using h2) (by simpa using h1) g
          rw [List.getElem_map, List.getElem_map, e1, e2] at this
          exact absurd hk.symm this
      · exact .inr ⟨he, hk⟩
  exact ⟨fun e he => h.sub e ((hiff e).1 he), fun hc => ⟨fun e he => (hiff e).2 ((h.all hc).1 e he), (h.all hc).2⟩⟩
theorem mem_erase {bk : List HeldK} {i : Nat} {x y : HeldK} (hn : (bk.map (·.key)).Nodup) (hi : bk[i]? = some x) : y ∈ bk.take i ++ bk.drop (i + 1) ↔ y ∈ bk ∧ y.key ≠ x.key := by
  obtain ⟨hil, he⟩ := List.getElem?_eq_some_iff.1 hi
  have hs : bk = bk.take i ++ x :: bk.drop (i + 1) := by rw [← he, ← List.drop_eq_getElem_cons hil, List.take_append_drop]
  constructor
  · intro h
    refine ⟨by rw [hs, List.mem_append, List.mem_cons]; rcases List.mem_append.1 h with h | h; exact .inl h; exact .inr (.inr h), fun hk => ?_⟩
    rw [hs, List.map_append, List.map_cons, List.nodup_append, List.nodup_cons] at hn
    rcases List.mem_append.1 h with h | h
    · exact hn.2.2 _ (List.mem_map.2 ⟨y, h, rfl⟩) _ List.mem_cons_self hk
    · exact hn.2.1.1 (List.mem_map.2 ⟨y, h, hk⟩)
  · rintro ⟨h, hk⟩
    rw [hs, List.mem_append, List.mem_cons] at h
    rw [List.mem_append]
    rcases h with h | rfl | h
    · exact .inl h
    · exact absurd rfl hk
    · exact .inr h
theorem Rel.drop {es : List Ent} {bk : List HeldK} {lim : Int} {cr : Bool} {i : Nat} {x : HeldK} (h : Rel es bk lim cr) (hn : (bk.map (·.key)).Nodup) (hi : bk[i]? = some x) : Rel (without es x.key) (bk.take i ++ bk.drop (i + 1)) lim cr := by
  refine ⟨fun e he => ?_, fun hc => ⟨fun e he => ?_, ?_⟩⟩
  · obtain ⟨h1, h2⟩ := mem_without.1 he
    obtain ⟨y, hy, rfl⟩ := List.mem_map.1 (h.sub e h1)
    exact List.mem_map.2 ⟨y, (mem_erase hn hi).2 ⟨hy, h2⟩, rfl⟩
  · obtain ⟨y, hy, rfl⟩ := List.mem_map.1 he
    obtain ⟨h1, h2⟩ := (mem_erase hn hi).1 hy
    exact mem_without.2 ⟨(h.all hc).1 _ (List.mem_map.2 ⟨y, h1, rfl⟩), h2⟩
  · have := (h.all hc).2
    have hl : (bk.take i ++ bk.drop (i + 1)).length ≤ bk.length := by rw [List.length_append, List.length_take, List.length_drop]; omega
    omega
theorem erase_nodup {bk : List HeldK} {i : Nat} (hn : (bk.map (·.key)).Nodup) : ((bk.take i ++ bk.drop (i + 1)).map (·.key)).Nodup := by
  have : (bk.take i ++ bk.drop (i + 1)).Sublist bk := by rw [← List.eraseIdx_eq_take_drop_succ]; exact List.eraseIdx_sublist _ _
  exact hn.sublist (this.map _)
theorem Rel.val {es : List Ent} {bk : List HeldK} {lim : Int} {cr : Bool} {i : Nat} {x : HeldK} {v : List (List Int)} (h : Rel es bk lim cr) (hn : (bk.map (·.key)).Nodup) (hi : bk[i]? = some x) (hv : (x.key, v) ∈ es) : v = x.val := by
  obtain ⟨y, hy, hye⟩ := List.mem_map.1 (h.sub _ hv)
  obtain ⟨j, hj⟩ := List.getElem?_of_mem hy
  have hk : y.key = x.key := congrArg Prod.fst hye
  have := nodup_key hn hj hi hk
  subst this
  rw [hi] at hj
  obtain rfl : x = y := by simpa using hj
  exact (congrArg Prod.snd hye).symm
/-- what Get, Peek told -/
def Told (es : List Ent) (w : World) (l : Path) (vs : Sl) (ok : Bool) : Prop := (ok = false ∧ ∀ e ∈ es, e.1 ≠ l) ∨ (ok = true ∧ ∃ v F, (l, v) ∈ es ∧ Nest b8 F w vs v)
theorem finds_j6 {R : Ending → World → Prop} {k1 : (Int × (Option Addr) × Sl × Bool × Sl × Int × Int × Unit) → World → Prop} {w : World} {bo : Nat → Prop} {base : Nat} {lim at_ : Int} {tp : Option Addr} {es : List Ent} {bk : List HeldK} {l : Path} {s vs t39 : Sl} {cr ok : Bool} {t40 t41 : Int}
    (hb : BookAt bo base w s bk) (hat : FindsAt bk l at_) (hn : (bk.map (·.key)).Nodup) (hr : Rel es bk lim cr) (ht : Told es w l vs ok) (hs : bk.length ≤ 4398046511104)
    (hK : ∀ w', Ex w w' → k1 (lim, tp, s, cr, t39, t40, IntKind.wrap .i64 (t41 + 1), ()) w') : culletlaw12_TrieFinds.j6 R k1 lim tp s cr at_ vs ok t39 t40 t41 w := by
  have fin : ∀ b w', b = false → Ex w w' → culletlaw12_TrieFinds.j7 R k1 lim tp s cr t39 t40 t41 b w' := by
    rintro b w' rfl hx
    unfold culletlaw12_TrieFinds.j7 culletlaw12_TrieFinds.j2
    exact Cd_f (hK w' hx)
  unfold culletlaw12_TrieFinds.j6
  rcases ht with ⟨rfl, hno⟩ | ⟨rfl, v, F, hv, hnv⟩
  · refine Cd_f (Cd_t ?_)
    refine Cd_dec (fun hge => fin _ w ?_ (Ex.refl w)) (fun _ => fin _ w rfl (Ex.refl w))
    rcases hat with ⟨rfl, _⟩ | ⟨i, x, rfl, hi, hk⟩
    · omega
    · cases hc : cr with
      | true => rfl
      | false => exact absurd hk (hno _ ((hr.all hc).1 x.ent (List.mem_map.2 ⟨x, List.mem_of_getElem? hi, rfl⟩)))
  · refine Cd_t ?_
    rcases hat with ⟨rfl, hno⟩ | ⟨i, x, rfl, hi, hk⟩
    · exfalso
      obtain ⟨x, hx, hxe⟩ := List.mem_map.1 (hr.sub _ hv)
      exact hno x hx (congrArg Prod.fst hxe)
    · refine Cd_dec (fun h => by omega) (fun _ => ?_)
      obtain ⟨hil, hie⟩ := List.getElem?_eq_some_iff.1 hi
      subst hk
      have hval := hr.val hn hi hv
      subst hval
      have hxm := List.mem_of_getElem? hi
      refine Pu_idxA hb.sl.rda tH sH (by omega) (by rw [List.length_map]; omega) fun a hv' hhv hc _ => ?_
      rw [Int.toNat_natCast, List.getElem?_map, hi] at hhv
      obtain rfl : x.h = hv' := by simpa using hhv
      refine Rd_one (c := .sl) (x := x.h.2.1) (by kernel_rfl) (hc 1 _ rfl) ?_
      refine Cl_gv (sameValue_gv vs x.h.2.1 _ _ _ _ w hnv (hb.vals x hxm) (hb.lens x hxm).2) fun w2 hx2 => ?_
      refine Cd_not (fun h => ?_) (fun _ => ?_)
      · simp at h
      · exact Cd_f (fin _ w2 rfl hx2)
theorem finds_j8 {R : Ending → World → Prop} {k1 : (Int × (Option Addr) × Sl × Bool × Sl × Int × Int × Unit) → World → Prop} {w : World} {bo : Nat → Prop} {base : Nat} {lim at_ : Int} {tp : Option Addr} {bk : List HeldK} {l : Path} {s t39 : Sl} {cr : Bool} {t40 t41 : Int}
    (hb : BookAt bo base w s bk) (hbase : base ≤ w.heap.size) (hat : FindsAt bk l at_) (hs : bk.length ≤ 2199023255552)
    (hK0 : (∀ x ∈ bk, x.key ≠ l) → k1 (lim, tp, s, cr, t39, t40, IntKind.wrap .i64 (t41 + 1), ()) w)
    (hK : ∀ (i : Nat) x s' w', bk[i]? = some x → x.key = l → BookAt bo base w' s' (bk.take i ++ bk.drop (i + 1)) → Mo (SlIn s) w w' → (∀ b, SlIn s' b → SlIn s b ∨ w.heap.size ≤ b) → k1 (lim, tp, s', cr, t39, t40, IntKind.wrap .i64 (t41 + 1), ()) w') :
    culletlaw12_TrieFinds.j8 R k1 lim tp s cr at_ t39 t40 t41 false w := by
  unfold culletlaw12_TrieFinds.j8
  refine Cd_f ?_
  rcases hat with ⟨rfl, hno⟩ | ⟨i, x, rfl, hi, hk⟩
  · refine Cd_dec (fun h => by omega) (fun _ => ?_)
    unfold culletlaw12_TrieFinds.j2
    exact hK0 hno
  · obtain ⟨hil, hie⟩ := List.getElem?_eq_some_iff.1 hi
    refine Cd_dec (fun _ => ?_) (fun h => by omega)
    refine Held_of (fun _ => True) trivial ?_
    have hbd := hb.ex (Ex.drew w)
    have hml : (bk.map (·.h)).length = bk.length := List.length_map _
    refine Pu_takeA (n := i) hbd.sl (by omega) (by omega) tH sH fun s1 ho1 hs1 => ?_
    rw [wrap64 (x := (i : Int) + 1) (by omega) (by omega)]
    refine Pu_dropA (n := i + 1) hbd.sl.rda (by omega) tH sH fun s2 hr2 => ?_
    have hl1 : ((bk.map (·.h)).take i).length = i := by rw [List.length_take]; omega
    have hl2 : ((bk.map (·.h)).drop (i + 1)).length = bk.length - (i + 1) := by rw [List.length_drop, hml]
    refine Wr_appendA tH iH rfl ho1 hr2 (fun y => held_one y) (by omega) (by omega) hbase fun s3 w3 ho3 hm3 hin3 => ⟨trivial, ?_⟩
    have hin1 : ∀ b, SlIn s1 b ↔ SlIn s b := fun b => by unfold SlIn; rw [hs1]
    have hm3' : Mo (SlIn s) w.drew w3 := hm3.weak (fun b _ hb => (hin1 b).1 hb)
    have hin3' : ∀ b, SlIn s3 b → SlIn s b ∨ w.heap.size ≤ b := fun b hb => (hin3 b hb).elim (fun g => .inl ((hin1 b).1 g)) (fun g => .inr g)
    unfold culletlaw12_TrieFinds.j2
    refine hK i x s3 w3 hi hk ?_ ((Ex.drew w).mo hm3') hin3'
    have sub : ∀ y, y ∈ bk.take i ++ bk.drop (i + 1) → y ∈ bk := fun y hy => (List.mem_append.1 hy).elim (fun g => List.mem_of_mem_take g) (fun g => List.mem_of_mem_drop g)
    refine ⟨by rw [List.map_append, List.map_take, List.map_drop]; exact ho3, fun y hy => ⟨(hbd.keys y (sub y hy)).1.mo hm3' (fun a ha hsb => hb.sep _ hsb ((hb.keys y (sub y hy)).2 a ha)), (hb.keys y (sub y hy)).2⟩, fun y hy => (hbd.vals y (sub y hy)).mo hm3' (fun b hb1 hsb => hb.sep b hsb hb1), fun y hy => hb.lens y (sub y hy),
      fun b hb1 => ⟨(hb.bos b hb1).1, Nat.lt_of_lt_of_le (hb.bos b hb1).2 hm3.size⟩, fun b hb1 hb2 => ?_⟩
    rcases hin3' b hb1 with g | g
    · exact hb.sep b g hb2
    · have := (hb.bos b hb2).2; omega
/-- the state between two steps -/
def FInv (w : World) (tb : Nat) (lim : Int) (n : Nat) (book : Sl) (cr : Bool) (w' : World) : Prop :=
  Ex w w' ∧ ∃ own es clock bo bk, (∀ b, own b → w.heap.size ≤ b) ∧ TrieSt w' own tb lim es clock ∧ BookAt bo w.heap.size w' book bk ∧ (∀ b, own b → ¬ bo b ∧ ¬ SlIn book b) ∧ clock ≤ 2 * n ∧ bk.length ≤ n ∧ (bk.map (·.key)).Nodup ∧ Rel es bk lim cr
section
variable {R : Ending → World → Prop} {k1 : (Int × (Option Addr) × Sl × Bool × Sl × Int × Int × Unit) → World → Prop} {w w1 : World} {own bo : Nat → Prop} {tb ob : Nat} {lim clock at_ : Int} {es : List Ent} {bk : List HeldK} {x : OpK} {s t39 : Sl} {cr : Bool} {t40 t41 : Int} {n : Nat}
/-- all that a step begins with -/
structure FSt (w w1 : World) (own bo : Nat → Prop) (tb ob : Nat) (lim clock at_ : Int) (es : List Ent) (bk : List HeldK) (x : OpK) (s : Sl) (cr : Bool) (n : Nat) : Prop where
  hx : Ex w w1
  hown : ∀ b, own b → w.heap.size ≤ b
  hst : TrieSt w1 own tb lim es clock
  hb : BookAt bo w.heap.size w1 s bk
  dis : ∀ b, own b → ¬ bo b ∧ ¬ SlIn s b
  clk : clock ≤ 2 * n
  len : bk.length ≤ n
  nd : (bk.map (·.key)).Nodup
  rel : Rel es bk lim cr
  op : OpOk w x
  hB : Has w1 ob (opV x.o) 32
  hob : ¬ own ob ∧ w.heap.size ≤ ob
  at_ok : FindsAt bk x.key at_
  small : n ≤ 2199023255552
theorem FSt.ex {w2 : World} (h : FSt w w1 own bo tb ob lim clock at_ es bk x s cr n) (k : Ex w1 w2) : FSt w w2 own bo tb ob lim clock at_ es bk x s cr n :=
  { h with hx := h.hx.trans k, hst := h.hst.ex k, hb := h.hb.ex k, hB := h.hB.ex k }
theorem FSt.inv (h : FSt w w1 own bo tb ob lim clock at_ es bk x s cr n) : FInv w tb lim (n + 1) s cr w1 :=
  ⟨h.hx, own, es, clock, bo, bk, h.hown, h.hst, h.hb, h.dis, by have := h.clk; omega, by have := h.len; omega, h.nd, h.rel⟩
theorem finds_ask (h : FSt w w1 own bo tb ob lim clock at_ es bk x s cr n) (t53 : Int) (hK : ∀ s' cr' w', FInv w tb lim (n + 1) s' cr' w' → k1 (lim, some ⟨tb, 0, none⟩, s', cr', t39, t40, IntKind.wrap .i64 (t41 + 1), ()) w') :
    culletlaw12_TrieFinds.j5 R k1 lim (some ⟨tb, 0, none⟩) s cr ⟨ob, 0, none⟩ at_ t39 t40 t41 t53 true w1 := by
  have hc := h.clk
  have hsm := h.small
  have hlen := h.len
  obtain ⟨o1, o2, o3, o4⟩ := h.op
  unfold culletlaw12_TrieFinds.j5
  refine Cd_t ?_
  refine Rd_has (c := .int .i64) (x := x.o.1) h.hB (by kernel_rfl) rfl ?_
  refine Cd_eq (fun _ => ?_) (fun _ => ?_)
  · refine Rd_has (c := .sl) (x := x.o.2.2.1) h.hB (by kernel_rfl) rfl ?_
    refine Cl_sl (copyKey_sl x.o.2.2.1 x.key w1 (o1.ex h.hx) o2) fun s5 w5 ho5 hx5 => ?_
    have h5 := h.ex hx5
    refine Calls.mono (get_ok h5.hst s5 x.key ho5.rds (by omega) (by omega)) ?_
    rintro en w6 (⟨hno, rfl, hx6⟩ | ⟨v, hv, ⟨s6, rfl, hn6⟩, hst6, hmo6⟩)
    · exact ⟨(nilS, false, ()), rfl, finds_j6 (h5.ex hx6).hb h.at_ok h.nd h.rel (.inl ⟨rfl, hno⟩) (by omega) fun w7 hx7 => hK s cr w7 ((h5.ex hx6).ex hx7).inv⟩
    · refine ⟨(s6, true, ()), rfl, ?_⟩
      have hb6 := h5.hb.mo hmo6 (fun b hb ho => (h.dis b ho).1 hb) (fun b hb ho => (h.dis b ho).2 hb)
      have hx06 := h5.hx.into hmo6 h.hown
      refine finds_j6 hb6 h.at_ok h.nd (h.rel.front hv h.hst.lens.1) (.inr ⟨rfl, v, _, List.mem_cons_self, hn6.nest⟩) (by omega) fun w7 hx7 => ?_
      exact hK s cr w7 ⟨hx06.trans hx7, own, _, _, bo, bk, h.hown, hst6.ex hx7, hb6.ex hx7, h.dis, by omega, by omega, h.nd, h.rel.front hv h.hst.lens.1⟩
  · refine Rd_has (c := .sl) (x := x.o.2.2.1) h.hB (by kernel_rfl) rfl ?_
    refine Cl_sl (copyKey_sl x.o.2.2.1 x.key w1 (o1.ex h.hx) o2) fun s5 w5 ho5 hx5 => ?_
    have h5 := h.ex hx5
    refine Calls.mono (peek_ok h5.hst s5 x.key ho5.rds (by omega)) ?_
    rintro en w6 ⟨hx6, (⟨hno, rfl⟩ | ⟨v, hv, s6, rfl, hn6⟩)⟩
    · exact ⟨(nilS, false, ()), rfl, finds_j6 (h5.ex hx6).hb h.at_ok h.nd h.rel (.inl ⟨rfl, hno⟩) (by omega) fun w7 hx7 => hK s cr w7 ((h5.ex hx6).ex hx7).inv⟩
    · exact ⟨(s6, true, ()), rfl, finds_j6 (h5.ex hx6).hb h.at_ok h.nd h.rel (.inr ⟨rfl, v, _, hv, hn6.nest⟩) (by omega) fun w7 hx7 => hK s cr w7 ((h5.ex hx6).ex hx7).inv⟩
theorem finds_drop (h : FSt w w1 own bo tb ob lim clock at_ es bk x s cr n) (t53 : Int) (hK : ∀ s' cr' w', FInv w tb lim (n + 1) s' cr' w' → k1 (lim, some ⟨tb, 0, none⟩, s', cr', t39, t40, IntKind.wrap .i64 (t41 + 1), ()) w') :
    culletlaw12_TrieFinds.j5 R k1 lim (some ⟨tb, 0, none⟩) s cr ⟨ob, 0, none⟩ at_ t39 t40 t41 t53 false w1 := by
  have hc := h.clk
  have hsm := h.small
  have hlen := h.len
  obtain ⟨o1, o2, o3, o4⟩ := h.op
  unfold culletlaw12_TrieFinds.j5
  refine Cd_f ?_
  refine Cd_eq (fun _ => ?_) (fun _ => ?_)
  · refine Rd_has (c := .sl) (x := x.o.2.2.1) h.hB (by kernel_rfl) rfl ?_
    refine Cl_sl (copyKey_sl x.o.2.2.1 x.key w1 (o1.ex h.hx) o2) fun s5 w5 ho5 hx5 => ?_
    have h5 := h.ex hx5
    -- behind Drop: the entries without the key
    have fin : ∀ (w6 : World), Ex w w6 → TrieSt w6 own tb lim (without es x.key) clock → BookAt bo w.heap.size w6 s bk → culletlaw12_TrieFinds.j8 R k1 lim (some ⟨tb, 0, none⟩) s cr at_ t39 t40 t41 false w6 := by
      intro w6 hx6 hst6 hb6
      refine finds_j8 hb6 hx6.size h.at_ok (by omega) (fun hno => ?_) (fun i y s7 w7 hi hk hb7 hm7 hin7 => ?_)
      · refine hK s cr w6 ⟨hx6, own, _, clock, bo, bk, h.hown, hst6, hb6, h.dis, by omega, by omega, h.nd, ?_⟩
        have : without es x.key = es := without_none fun e he hek => by
          obtain ⟨y, hy, hye⟩ := List.mem_map.1 (h.rel.sub e he)
          exact hno y hy (by rw [← hek, ← hye])
        rw [this]; exact h.rel
      · refine hK s7 cr w7 ⟨hx6.into hm7 (fun b hb => (hb6.sl.base b hb).1), own, _, clock, bo, _, h.hown, hst6.mo hm7 (fun b ho hb => (h.dis b ho).2 hb), hb7, fun b ho => ⟨(h.dis b ho).1, fun hb => ?_⟩, by omega, ?_, erase_nodup h.nd, ?_⟩
        · rcases hin7 b hb with g | g
          · exact (h.dis b ho).2 g
          · have := hst6.ownL b ho; omega
        · rw [List.length_append, List.length_take, List.length_drop]; omega
        · rw [← hk]; exact h.rel.drop h.nd hi
    refine Calls.mono (drop_ok h5.hst s5 x.key ho5.rds (by omega) (fun a ha ho => ?_)) ?_
    · have := (ho5.base _ (slin_of ha)).1; have := h.hst.ownL _ ho; omega
    rintro en w6 (⟨hno, rfl, hx6⟩ | ⟨v, hv, rfl, hst6, hmo6⟩)
    · have h6 := h5.ex hx6
      have hst6 := h6.hst
      rw [← without_none hno] at hst6
      refine ⟨false, rfl, Cd_f (Cd_t ?_)⟩
      refine Cd_dec (fun hge => ?_) (fun _ => fin w6 h6.hx hst6 h6.hb)
      have hcr : cr = true := by
        cases hcc : cr with
        | true => rfl
        | false =>
          rcases h.at_ok with ⟨e, _⟩ | ⟨i, y, e, hi, hk⟩
          · omega
          · exact absurd hk (hno _ ((h.rel.all hcc).1 y.ent (List.mem_map.2 ⟨y, List.mem_of_getElem? hi, rfl⟩)))
      subst hcr
      exact fin w6 h6.hx hst6 h6.hb
    · refine ⟨true, rfl, Cd_t ?_⟩
      have hx6 := h5.hx.into hmo6 h.hown
      have hb6 := h5.hb.mo hmo6 (fun b hb ho => (h.dis b ho).1 hb) (fun b hb ho => (h.dis b ho).2 hb)
      refine Cd_dec (fun hlt => ?_) (fun _ => Cd_f (fin w6 hx6 hst6 hb6))
      exfalso
      rcases h.at_ok with ⟨_, hno⟩ | ⟨i, y, e, hi, hk⟩
      · obtain ⟨y, hy, hye⟩ := List.mem_map.1 (h.rel.sub _ hv)
        exact hno y hy (congrArg Prod.fst hye)
      · omega
  · unfold culletlaw12_TrieFinds.j2
    exact hK s cr w1 h.inv
theorem finds_put (h : FSt w w1 own bo tb ob lim clock at_ es bk x s cr n) (hK : ∀ s' cr' w', FInv w tb lim (n + 1) s' cr' w' → k1 (lim, some ⟨tb, 0, none⟩, s', cr', t39, t40, IntKind.wrap .i64 (t41 + 1), ()) w') :
    Held w1.drew (fun S26 => RdS Try.prog S26 (Instr.loadAt 29 (.pointer (some (Addr.add ⟨ob, 0, none⟩ 2)))) (.one (.at .sl)) (fun (x27 : Sl) w28 =>
      RdS Try.prog S26 (Instr.loadAt 30 (.pointer (some (Addr.add ⟨ob, 0, none⟩ 3)))) (.one (.at .sl)) (fun (x29 : Sl) w30 =>
      Cl Try.prog 16 #[(.slice x27.base x27.len x27.cap)] (.one (.at .sl)) (fun (x31 : Sl) w32 =>
      S26 w32 ∧ (Cl Try.prog 17 #[(.slice x29.base x29.len x29.cap)] (.one (.at .sl)) (fun (x33 : Sl) w34 =>
      S26 w34 ∧ (Cl Try.prog 15 #[(.pointer (some ⟨tb, 0, none⟩)), (.slice x31.base x31.len x31.cap), (.slice x33.base x33.len x33.cap)] (.one (.at (.int .i64))) (fun (x35 : Int) w36 =>
      S26 w36 ∧ (culletlaw12_TrieFinds.j3 R k1 lim (some ⟨tb, 0, none⟩) s cr ⟨ob, 0, none⟩ (goodB x.key) x35 t39 t40 t41 w36)) w34)) w32)) w30) w28) w1.drew) := by
  have hc := h.clk
  have hsm := h.small
  have hlen := h.len
  obtain ⟨o1, o2, o3, o4⟩ := id h.op
  have hd := h.ex (Ex.drew w1)
  refine Held_of (fun v => Mo own w1.drew v) (Mo.refl _ _) ?_
  refine RdS_has (c := .sl) (x := x.o.2.2.1) (fun w' hS => hd.hB.mo hS h.hob.1) (by kernel_rfl) rfl ?_
  refine RdS_has (c := .sl) (x := x.o.2.2.2.1) (fun w' hS => hd.hB.mo hS h.hob.1) (by kernel_rfl) rfl ?_
  refine Cl_sl (copyKey_sl x.o.2.2.1 x.key _ (o1.ex hd.hx) o2) fun s5 w5 ho5 hx5 => ⟨hx5.weak (fun _ _ g => g.elim), ?_⟩
  have h5 := hd.ex hx5
  refine Calls.mono (copyValue_nest x.o.2.2.2.1 x.val _ w5 (o3.ex h5.hx) o4) ?_
  rintro en w6 ⟨s6, rfl, hn6, hx6⟩
  have h6 := h5.ex hx6
  have hx56 := hx5.trans hx6
  refine ⟨s6, rfl, hx56.weak (fun _ _ g => g.elim), ?_⟩
  have hsz5 := hx5.size
  refine Calls.mono (put_ok h6.hst (by omega) s5 s6 x.key x.val (ho5.ex hx6).rds (by omega) (fun a ha ho => ?_) hn6.nest (fun b hb ho => ?_) o4) ?_
  · have := (ho5.base _ (slin_of ha)).1; have := hd.hst.ownL _ ho; omega
  · have := hb.1; have := hd.hst.ownL _ ho; omega
  rintro en w7 (⟨hg, rfl, hx7⟩ | ⟨hg, rfl, own2, a1, a2, hst7, hmo7⟩)
  · refine ⟨120, rfl, (hx56.trans hx7).weak (fun _ _ g => g.elim), ?_⟩
    rw [hg]
    unfold culletlaw12_TrieFinds.j3
    refine Cd_f (Cd_t ?_)
    unfold culletlaw12_TrieFinds.j4
    refine Cd_f (Cd_f ?_)
    unfold culletlaw12_TrieFinds.j2
    exact hK s cr w7 (h6.ex hx7).inv
  · refine ⟨0, rfl, hx56.mo hmo7, ?_⟩
    rw [hg]
    unfold culletlaw12_TrieFinds.j3
    refine Cd_f (Cd_f ?_)
    unfold culletlaw12_TrieFinds.j4
    refine Cd_f (Cd_t ?_)
    have hx07 := h6.hx.into hmo7 h.hown
    have hB7 := h6.hB.mo hmo7 h.hob.1
    have hb7 := h6.hb.mo hmo7 (fun b hb ho => (h.dis b ho).1 hb) (fun b hb ho => (h.dis b ho).2 hb)
    refine Rd_hasN (x := x.o) hB7 (by kernel_rfl) rfl ?_
    have hsz6 := h6.hb.bos
    have hdis2 : ∀ b, own2 b → ¬ bo b ∧ ¬ SlIn s b := fun b ho => (a2 b ho).elim (h.dis b) (fun g => ⟨fun hb => by have := (h6.hb.bos b hb).2; omega, fun hb => by have := (h6.hb.sl.base b hb).2; omega⟩)
    refine Calls.mono (noted_ok hb7 hx07.size ⟨o1.ex hx07, o2, o3.ex hx07, o4⟩ (by omega) h.nd) ?_
    rintro en w8 ⟨s8, bk8, bo8, rfl, hb8, hm8, hbo8, hin8, hnt⟩
    refine ⟨s8, rfl, ?_⟩
    have hl8 := hnt.len
    have hrel := h.rel.put hnt h.hst.lens.1
    have fin : ∀ b, b = (cr || decide ((bk8.length : Int) > lim)) → culletlaw12_TrieFinds.j2 R k1 lim (some ⟨tb, 0, none⟩) s8 b t39 t40 t41 w8 := by
      rintro b rfl
      unfold culletlaw12_TrieFinds.j2
      refine hK s8 _ w8 ⟨hx07.into hm8 (fun b hb => (hb7.sl.base b hb).1), own2, _, _, bo8, bk8, fun b ho => (a2 b ho).elim (h.hown b) (fun g => by have := h6.hx.size; omega), hst7.mo hm8 (fun b ho hb => (hdis2 b ho).2 hb), hb8, fun b ho => ⟨fun hb => ?_, fun hb => ?_⟩, by omega, by omega, hnt.nodup, hrel⟩
      · rcases hbo8 b hb with g | g
        · exact (hdis2 b ho).1 g
        · have := hst7.ownL b ho; omega
      · rcases hin8 b hb with g | g
        · exact (hdis2 b ho).2 g
        · have := hst7.ownL b ho; omega
    dsimp only
    rw [hb8.len]
    cases cr with
    | true => exact Cd_t (fin _ rfl)
    | false => exact Cd_f (fin _ (by simp))
end
theorem finds_law (lim : Int) (s : Sl) (os : List OpK) (w : World) (hs : Script w s os) : Gv Try.prog 3 #[.int .i64 lim, slv s] (.bool true) w := by
  obtain ⟨hra, hops, hsm⟩ := hs
  refine culletlaw12_TrieFinds.run _ lim s w ?_
  unfold culletlaw12_TrieFinds.M
  refine Calls.mono (new_ok lim w) ?_
  rintro en w1 ⟨hx1, (⟨hb, rfl⟩ | ⟨hb, tb, rfl, htb, hst⟩)⟩
  · refine ⟨(none, 7, ()), rfl, ?_⟩
    refine Cl_gv (fixed_gv w1) fun w2 hx2 => ?_
    have fin : ∀ b, b = false → culletlaw12_TrieFinds.j1 (fun en w' => en = Ending.returned (.bool true) ∧ Ex w w') lim s none 7 b w2 := by
      rintro b rfl
      unfold culletlaw12_TrieFinds.j1
      refine Cd_f (Cd_t ?_)
      refine Pu_eqnil tT ?_
      exact ⟨rfl, hx1.trans hx2⟩
    refine Cd_f ?_
    refine Cd_dec (fun h => fin _ ?_) (fun _ => fin _ rfl)
    have : ¬ lim ≤ 1024 := by omega
    simp [this]
  · refine ⟨(some ⟨tb, 0, none⟩, 0, ()), rfl, ?_⟩
    refine Cl_gv (fixed_gv w1) fun w2 hx2 => ?_
    have hl1 : lim ≥ 1 := by omega
    have hl2 : lim ≤ 1024 := by omega
    refine Cd_f ?_
    refine Cd_dec (fun _ => ?_) (fun h => absurd hl1 h)
    rw [show (!((((0 : Int) == 0)) == (decide (lim ≤ 1024)))) = false by simp [hl2]]
    unfold culletlaw12_TrieFinds.j1
    refine Cd_f (Cd_f ?_)
    unfold culletlaw12_TrieFinds.l1
    have hlen : s.len = os.length := by rw [hra.1, List.length_map]
    rw [hlen]
    refine loopW_of (fun st w' => st.1 = lim ∧ st.2.1 = some ⟨tb, 0, none⟩ ∧ st.2.2.2.2.1 = s ∧ st.2.2.2.2.2.1 = (os.length : Int) ∧ ∃ i : Nat, i ≤ os.length ∧ st.2.2.2.2.2.2.1 = (i : Int) ∧ FInv w tb lim i st.2.2.1 st.2.2.2.1 w') (fun st _ => os.length - st.2.2.2.2.2.2.1.toNat) ?_
      ⟨rfl, rfl, rfl, rfl, 0, Nat.zero_le _, rfl, hx1.trans hx2, _, [], 0, _, [], fun b hb => hb.1, hst.ex hx2, BookAt.nil _ _, fun b ho => ⟨id, fun ⟨a, ha, _⟩ => by cases ha⟩, by omega, by simp, by simp, ⟨by simp, fun _ => ⟨by simp, by simp; omega⟩⟩⟩
    rintro k ⟨a1, a2, book, cr, a3, a4, i', u⟩ w' hI hk
    dsimp only at hI hk ⊢
    obtain ⟨rfl, rfl, rfl, rfl, i, hi, rfl, hx, own, es, clock, bo, bk, hown, hst', hbk, hdis, hclk, hbl, hnd, hrel⟩ := hI
    unfold culletlaw12_TrieFinds.b1
    refine Cd_dec (fun hlt => ?_) (fun hge => ⟨rfl, hx⟩)
    have hio : i < os.length := by omega
    refine Pu_idxA (hra.ex hx) tOps (by kernel_rfl) (by omega) (by rw [List.length_map]; omega) fun a ov hov hc hbk' => ?_
    rw [Int.toNat_natCast, List.getElem?_map, List.getElem?_eq_getElem hio] at hov
    have hov : os[i].o = ov := by simpa using hov
    subst hov
    have hop := hops os[i] (List.getElem_mem hio)
    have hkl := hop.2.1
    refine Rd_agg (x := os[i].o) (by kernel_rfl) hc ?_
    refine Wr_alloc (z := .agg (encAts oAts ((0, 0, nilS, nilS, ()) : OpT)).toArray) (by kernel_rfl) fun w3 hB3 hx3 => ?_
    refine Wu_store (v := .agg (encAts oAts os[i].o).toArray) hB3 (by kernel_rfl) (op_one os[i].o) (Nat.le_of_ble_eq_true (by kernel_rfl)) fun w4 hB4 hm4 => ?_
    have hB4' : Has w4 w'.heap.size (opV os[i].o) 32 := hB4
    have hx4 : Ex w' w4 := hx3.into hm4 (fun i hi => by rw [hi]; exact Nat.le_refl _)
    have hxw4 := hx.trans hx4
    refine Rd_has (c := .sl) (x := os[i].o.2.2.1) hB4' (by kernel_rfl) rfl ?_
    refine Cl_gv (good_gv os[i].o.2.2.1 os[i].key w4 (hop.1.ex hxw4) (by omega)) fun w5 hx5 => ?_
    have hB5 := hB4'.ex hx5
    refine Rd_has (c := .sl) (x := os[i].o.2.2.1) hB5 (by kernel_rfl) rfl ?_
    have hx45 := hx4.trans hx5
    refine Calls.mono (findB_ok (hbk.ex hx45) (hop.1.ex (hx.trans hx45)) (by omega)) ?_
    rintro en w6 ⟨z, rfl, hx6, hz⟩
    refine ⟨z, rfl, ?_⟩
    have hx46 := hx45.trans hx6
    have h6 : FSt w w6 own bo tb w'.heap.size a1 clock z es bk os[i] book cr i :=
      { hx := hx.trans hx46, hown := hown, hst := hst'.ex hx46, hb := hbk.ex hx46, dis := hdis, clk := hclk, len := hbl, nd := hnd, rel := hrel, op := hop, hB := hB5.ex hx6, hob := ⟨fun ho => Nat.lt_irrefl _ (hst'.ownL _ ho), hx.size⟩, at_ok := hz, small := by omega }
    have go : ∀ s' cr' w', FInv w tb a1 (i + 1) s' cr' w' → k (a1, some ⟨tb, 0, none⟩, s', cr', a3, (os.length : Int), IntKind.wrap .i64 ((i : Int) + 1), ()) w' := by
      intro s' cr' w7 hf
      rw [wrap64 (x := (i : Int) + 1) (by omega) (by omega)]
      exact hk _ _ ⟨rfl, rfl, rfl, rfl, i + 1, by omega, by simp, hf⟩ (by simp only; omega)
    refine Rd_has (c := .int .i64) (x := os[i].o.1) h6.hB (by kernel_rfl) rfl ?_
    refine Cd_eq (fun _ => ?_) (fun _ => ?_)
    · exact finds_put h6 go
    · have j5f : ∀ b : Bool, culletlaw12_TrieFinds.j5 (fun en w' => en = Ending.returned (.bool true) ∧ Ex w w') k a1 (some ⟨tb, 0, none⟩) book cr ⟨w'.heap.size, 0, none⟩ z a3 (os.length : Int) (i : Int) os[i].o.1 b w6 := by
        intro b
        cases b with
        | true => exact finds_ask h6 _ go
        | false => exact finds_drop h6 _ go
      exact Cd_eq (fun _ => j5f _) (fun _ => j5f _)
end Go.Proofs.Ytdnlnloogfnlgaa
