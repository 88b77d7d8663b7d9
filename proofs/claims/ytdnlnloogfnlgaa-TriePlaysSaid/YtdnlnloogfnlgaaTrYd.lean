/- 'asked': one call, of the trie and of the document. -/
import Derived.Test.YtdnlnloogfnlgaaTrYc
set_option linter.all false
namespace Go.Proofs.Ytdnlnloogfnlgaa
open Go Go.Cu Go.RowKit
set_option linter.unusedVariables false
set_option maxHeartbeats 4000000
theorem one_value {es : List Ent} {l : Path} {v v' : List (List Int)} (hn : (es.map (·.1)).Nodup) (h : (l, v) ∈ es) (h' : (l, v') ∈ es) : v = v' := by
  obtain ⟨i, hi⟩ := List.getElem?_of_mem h
  obtain ⟨j, hj⟩ := List.getElem?_of_mem h'
  obtain ⟨h1, e1⟩ := List.getElem?_eq_some_iff.1 hi
  obtain ⟨h2, e2⟩ := List.getElem?_eq_some_iff.1 hj
  have hp := List.pairwise_iff_getElem.1 hn
  rcases Nat.lt_trichotomy i j with g | g | g
  · have := hp i j (by simpa using h1) (by simpa using h2) g
    rw [List.getElem_map, List.getElem_map, e1, e2] at this
    exact absurd rfl this
  · subst g
    rw [hi] at hj
    exact congrArg Prod.snd (Option.some.inj hj)
  · have := hp j i (by simpa using h2) (by simpa using h1) g
    rw [List.getElem_map, List.getElem_map, e1, e2] at this
    exact absurd rfl this
/-- a trie and the document's, side by side -/
structure PSt (own ro : Nat → Prop) (w : World) (tb rb : Nat) (lim clock : Int) (es : List Ent) (s : Sl) (bk : List HeldK) : Prop where
  t : TrieSt w own tb lim es clock
  r : RefSt ro w rb lim es s bk
  dis : ∀ b, own b → ¬ ro b ∧ b ≠ rb
def PX (own ro : Nat → Prop) (rb : Nat) : Nat → Prop := fun b => own b ∨ ro b ∨ b = rb
theorem PSt.mo {own ro X : Nat → Prop} {w w' : World} {tb rb : Nat} {lim clock : Int} {es : List Ent} {s : Sl} {bk : List HeldK} (h : PSt own ro w tb rb lim clock es s bk) (k : Mo X w w') (hx : ∀ b, PX own ro rb b → ¬ X b) : PSt own ro w' tb rb lim clock es s bk :=
  ⟨h.t.mo k (fun b hb => hx b (.inl hb)), h.r.mo k (fun b hb => hx b (.inr hb)), h.dis⟩
theorem PSt.ex {own ro : Nat → Prop} {w w' : World} {tb rb : Nat} {lim clock : Int} {es : List Ent} {s : Sl} {bk : List HeldK} (h : PSt own ro w tb rb lim clock es s bk) (k : Ex w w') : PSt own ro w' tb rb lim clock es s bk := h.mo k (fun _ _ => id)
theorem PSt.low {own ro : Nat → Prop} {w : World} {tb rb : Nat} {lim clock : Int} {es : List Ent} {s : Sl} {bk : List HeldK} (h : PSt own ro w tb rb lim clock es s bk) : ∀ b, PX own ro rb b → b < w.heap.size := by
  rintro b (hb | hb | rfl)
  · exact h.t.ownL b hb
  · exact h.r.low b hb
  · exact h.r.top.lt
/-- what a call leaves -/
def PNext (own ro : Nat → Prop) (w w' : World) (tb rb : Nat) (lim clock : Int) : Prop :=
  ∃ own' ro' clock' es' s' bk', PSt own' ro' w' tb rb lim clock' es' s' bk' ∧ clock' ≤ clock + 1 ∧ (∀ b, PX own' ro' rb b → PX own ro rb b ∨ w.heap.size ≤ b) ∧ Mo (PX own ro rb) w w'
theorem PSt.next {own ro : Nat → Prop} {w w' : World} {tb rb : Nat} {lim clock : Int} {es : List Ent} {s : Sl} {bk : List HeldK} (h : PSt own ro w tb rb lim clock es s bk) (k : Ex w w') : PNext own ro w w' tb rb lim clock :=
  ⟨own, ro, clock, es, s, bk, h.ex k, by omega, fun b hb => .inl hb, k.weak (fun _ _ g => g.elim)⟩
/-- the trie's step, then the document's -/
theorem PSt.both {own ro own2 : Nat → Prop} {w w1 w2 w3 : World} {tb rb : Nat} {lim clock clock' : Int} {es es' : List Ent} {s : Sl} {bk : List HeldK} (h : PSt own ro w tb rb lim clock es s bk) (hst : TrieSt w1 own2 tb lim es' clock') (hc : clock' ≤ clock + 1) (h2 : ∀ b, own2 b → own b ∨ w.heap.size ≤ b) (hm : Mo own w w1) (hx : Ex w1 w2)
    (hr : RefNext ro w2 w3 rb lim es') : PNext own ro w w3 tb rb lim clock := by
  obtain ⟨ro', s', bk', r1, r2, r3⟩ := hr
  have a1 := hm.size
  have a2 := hx.size
  have hrb := h.r.top.lt
  have hlow := h.low
  refine ⟨own2, ro', clock', es', s', bk', ⟨(hst.ex hx).mo r3 (fun b hb e => ?_), r2, fun b hb => ⟨fun hb' => ?_, fun e => ?_⟩⟩, hc, fun b hb => ?_, ?_⟩
  · have e : b = rb := e
    rcases h2 b hb with g | g
    · exact (h.dis b g).2 e
    · omega
  · have hb1 := hst.ownL b hb
    rcases r1 b hb' with g' | g'
    · rcases h2 b hb with g | g
      · exact (h.dis b g).1 g'
      · have := h.r.low b g'; omega
    · omega
  · rcases h2 b hb with g | g
    · exact (h.dis b g).2 e
    · omega
  · rcases hb with hb | hb | hb
    · exact (h2 b hb).elim (fun g => .inl (.inl g)) .inr
    · exact (r1 b hb).elim (fun g => .inl (.inr (.inl g))) (fun g => .inr (by omega))
    · exact .inl (.inr (.inr hb))
  · exact ((hm.ex hx).weak (Y := PX own ro rb) (fun b _ hb => .inl hb)).trans r3 (fun _ => id) (fun b _ hb => .inr (.inr hb))
section
variable {R : Ending → World → Prop} {w0 w : World} {own ro : Nat → Prop} {tb rb ob : Nat} {lim clock : Int} {es : List Ent} {s key val : Sl} {bk : List HeldK} {o : OpK} {B : Nat}
theorem asked_j2 {F : Nat → Prop} (hB : Has w ob (opV o.o) 32) (hop : OpOk w o) (hk : Rds i64v w key o.key) (hv : Nest b8 F w val o.val) (hR : ∀ w', Ex w w' → R (.returned (.bool true)) w') :
    culletlaw12_asked.j2 R ⟨ob, 0, none⟩ key val true w := by
  obtain ⟨p1, p2, p3, p4⟩ := hop
  unfold culletlaw12_asked.j2
  refine Cd_t ?_
  refine Rd_has (c := .sl) (x := o.o.2.2.1) hB (by kernel_rfl) rfl ?_
  refine Cl_gv (same_gv key o.o.2.2.1 o.key o.key w hk p1 (by omega)) fun w1 hx1 => ?_
  refine Cd_dec (fun _ => ?_) (fun h => absurd rfl h)
  refine Rd_has (c := .sl) (x := o.o.2.2.2.1) (hB.ex hx1) (by kernel_rfl) rfl ?_
  refine Cl_gv (sameValue_gv val o.o.2.2.2.1 o.val o.val _ _ w1 (hv.ex hx1) (p3.ex hx1) p4) fun w2 hx2 => ?_
  have : decide (o.val = o.val) = true := by simp
  rw [this]
  exact hR w2 (hx1.trans hx2)
theorem asked_j1 (h : PSt own ro w tb rb lim clock es s bk) (hc : clock < 4611686018427387900) (hx0 : Ex w0 w) (hX : ∀ b, PX own ro rb b → w0.heap.size ≤ b) (hop : OpOk w0 o) (hB : Has w ob (opV o.o) 32) (hob : ¬ PX own ro rb ob) (hk : Own i64v 3 B w key o.key) (hkb : ∀ b, SlIn key b → ¬ PX own ro rb b)
    (hv : Nest b8 (fun b => ¬ PX own ro rb b) w val o.val) (hR : ∀ w', PNext own ro w w' tb rb lim clock → R (.returned (.bool true)) w') :
    culletlaw12_asked.j1 R (some ⟨tb, 0, none⟩) (some ⟨rb, 0, none⟩) ⟨ob, 0, none⟩ key val w := by
  obtain ⟨hnd, hl1, hl2, hl3, hl4⟩ := h.t.lens
  have hlen : es.length ≤ 1024 := by omega
  have hbl : bk.length = es.length := by rw [← h.r.ents, List.length_map]
  have hkl := hop.2.1
  -- the last step, behind a call that leaves 'PNext'
  have fin : ∀ w', PNext own ro w w' tb rb lim clock → culletlaw12_asked.j2 R ⟨ob, 0, none⟩ key val true w' := by
    intro w' hn
    obtain ⟨own', ro', c', es', s', bk', n1, n2, n3, n4⟩ := hn
    have hx' : Ex w0 w' := hx0.into n4 hX
    refine asked_j2 (hB.mo n4 hob) (hop.ex hx') (hk.mo n4 hkb).rds (hv.mo n4 (fun b hb => hb)) fun w'' hx'' => ?_
    exact hR w'' ⟨own', ro', c', es', s', bk', n1.ex hx'', n2, n3, n4.ex hx''⟩
  have finX : ∀ b w', b = true → Ex w w' → culletlaw12_asked.j2 R ⟨ob, 0, none⟩ key val b w' := by
    rintro b w' rfl hx'
    exact fin w' (h.next hx')
  have hown : ∀ b, own b → w0.heap.size ≤ b := fun b hb => hX b (.inl hb)
  have hobo : ¬ own ob := fun hb => hob (.inl hb)
  have hkbo : ∀ a, key.base = some a → ¬ own a.block := fun a ha hb => hkb _ (slin_of ha) (.inl hb)
  have rle : RowsLe (es.map (·.1)) := ⟨by rw [List.length_map]; omega, fun k hk => by have := hl4 k hk; omega⟩
  unfold culletlaw12_asked.j1
  refine Rd_has (c := .int .i64) (x := o.o.1) hB (by kernel_rfl) rfl ?_
  refine Cd_eq (fun _ => ?_) (fun _ => ?_)
  · -- Put
    refine Calls.mono (put_ok h.t (by omega) key val o.key o.val hk.rds (by omega) hkbo hv (fun b hb ho => hb (.inl ho)) hop.2.2.2) ?_
    rintro en w1 (⟨hg, rfl, hx1⟩ | ⟨hg, rfl, own2, b1, b2, hst1, hmo1⟩)
    · refine ⟨120, rfl, ?_⟩
      have h1 := h.ex hx1
      have hop1 := hop.ex (hx0.trans hx1)
      refine Rd_has (c := .sl) (x := o.o.2.2.1) (hB.ex hx1) (by kernel_rfl) rfl ?_
      refine Rd_has (c := .sl) (x := o.o.2.2.2.1) (hB.ex hx1) (by kernel_rfl) rfl ?_
      refine Calls.mono (refPut_ok h1.r hnd hl1 hl2 hl3 hop1.1 hop1.2.1 hop1.2.2.1 hop1.2.2.2) ?_
      rintro en w2 (⟨_, rfl, hx2⟩ | ⟨hg2, _⟩)
      · exact ⟨120, rfl, finX _ w2 rfl (hx1.trans hx2)⟩
      · rw [hg] at hg2; cases hg2
    · refine ⟨0, rfl, ?_⟩
      have hr1 : RefSt ro w1 rb lim es s bk := h.r.mo hmo1 (fun b hb ho => by
        rcases hb with hb | hb
        · exact (h.dis b ho).1 hb
        · exact (h.dis b ho).2 hb)
      have hop1 := hop.ex (hx0.into hmo1 hown)
      have hB1 := hB.mo hmo1 hobo
      refine Rd_has (c := .sl) (x := o.o.2.2.1) hB1 (by kernel_rfl) rfl ?_
      refine Rd_has (c := .sl) (x := o.o.2.2.2.1) hB1 (by kernel_rfl) rfl ?_
      refine Calls.mono (refPut_ok hr1 hnd hl1 hl2 hl3 hop1.1 hop1.2.1 hop1.2.2.1 hop1.2.2.2) ?_
      rintro en w2 (⟨hg2, _⟩ | ⟨_, rfl, hn2⟩)
      · rw [hg] at hg2; cases hg2
      · exact ⟨0, rfl, fin w2 (h.both hst1 (by omega) b2 hmo1 (Ex.refl _) hn2)⟩
  refine Cd_eq (fun _ => ?_) (fun _ => ?_)
  · -- Get
    refine Calls.mono (get_ok h.t key o.key hk.rds (by omega) (by omega)) ?_
    rintro en w1 (⟨hno, rfl, hx1⟩ | ⟨v, hvm, ⟨s1, rfl, hn1⟩, hst1, hmo1⟩)
    · refine ⟨(nilS, false, ()), rfl, ?_⟩
      have hop1 := hop.ex (hx0.trans hx1)
      refine Rd_has (c := .sl) (x := o.o.2.2.1) (hB.ex hx1) (by kernel_rfl) rfl ?_
      refine Calls.mono (refGet_ok (h.r.ex hx1) hnd hlen hop1.1) ?_
      rintro en w2 (⟨_, rfl, hx2⟩ | ⟨v2, s2, hv2, _⟩)
      · refine ⟨(nilS, false, ()), rfl, Cd_t ?_⟩
        refine Cl_gv (sameValue_gv nilS nilS [] [] (fun _ => True) (fun _ => True) w2 (Nest.nil _ _ _) (Nest.nil _ _ _) ⟨by simp, by simp⟩) fun w3 hx3 => ?_
        exact finX _ w3 (by simp) ((hx1.trans hx2).trans hx3)
      · exact absurd rfl (hno _ hv2)
    · refine ⟨(s1, true, ()), rfl, ?_⟩
      have hr1 : RefSt ro w1 rb lim es s bk := h.r.mo hmo1 (fun b hb ho => by
        rcases hb with hb | hb
        · exact (h.dis b ho).1 hb
        · exact (h.dis b ho).2 hb)
      have hop1 := hop.ex (hx0.into hmo1 hown)
      refine Rd_has (c := .sl) (x := o.o.2.2.1) (hB.mo hmo1 hobo) (by kernel_rfl) rfl ?_
      refine Calls.mono (refGet_ok hr1 hnd hlen hop1.1) ?_
      rintro en w2 (⟨hno, _⟩ | ⟨v2, s2, hv2, rfl, hn2, hnx2⟩)
      · exact absurd rfl (hno _ hvm)
      · obtain rfl := one_value hnd hvm hv2
        refine ⟨(s2, true, ()), rfl, Cd_t ?_⟩
        have hvle : RowsLe v := by
          obtain ⟨_, ns, y, _, he⟩ := h.t
          exact he.le _ hvm
        have hnx := h.both hst1 (by omega) (fun b hb => .inl hb) hmo1 (Ex.refl _) hnx2
        obtain ⟨ro', s', bk', _, _, hm2⟩ := hnx2
        have hn1' := hn1.nest.mo hm2 (fun b hb e => by have e2 : b = rb := e; have := hb.1; have := h.r.top.lt; omega)
        refine Cl_gv (sameValue_gv s1 s2 v v _ _ w2 hn1' hn2 hvle) fun w3 hx3 => ?_
        have : decide (v = v) = true := by simp
        rw [this]
        obtain ⟨own', ro'', c', es', s'', bk'', n1, n2, n3, n4⟩ := hnx
        exact fin w3 ⟨own', ro'', c', es', s'', bk'', n1.ex hx3, n2, n3, n4.ex hx3⟩
  refine Cd_eq (fun _ => ?_) (fun _ => ?_)
  · -- Peek
    refine Calls.mono (peek_ok h.t key o.key hk.rds (by omega)) ?_
    rintro en w1 ⟨hx1, (⟨hno, rfl⟩ | ⟨v, hvm, s1, rfl, hn1⟩)⟩
    · refine ⟨(nilS, false, ()), rfl, ?_⟩
      have hop1 := hop.ex (hx0.trans hx1)
      refine Rd_has (c := .sl) (x := o.o.2.2.1) (hB.ex hx1) (by kernel_rfl) rfl ?_
      refine Calls.mono (refPeek_ok (h.r.ex hx1) hlen hop1.1) ?_
      rintro en w2 ⟨hx2, (⟨_, rfl⟩ | ⟨v2, s2, hv2, _⟩)⟩
      · refine ⟨(nilS, false, ()), rfl, Cd_t ?_⟩
        refine Cl_gv (sameValue_gv nilS nilS [] [] (fun _ => True) (fun _ => True) w2 (Nest.nil _ _ _) (Nest.nil _ _ _) ⟨by simp, by simp⟩) fun w3 hx3 => ?_
        exact finX _ w3 (by simp) ((hx1.trans hx2).trans hx3)
      · exact absurd rfl (hno _ hv2)
    · refine ⟨(s1, true, ()), rfl, ?_⟩
      have hop1 := hop.ex (hx0.trans hx1)
      refine Rd_has (c := .sl) (x := o.o.2.2.1) (hB.ex hx1) (by kernel_rfl) rfl ?_
      refine Calls.mono (refPeek_ok (h.r.ex hx1) hlen hop1.1) ?_
      rintro en w2 ⟨hx2, (⟨hno, _⟩ | ⟨v2, s2, hv2, rfl, hn2⟩)⟩
      · exact absurd rfl (hno _ hvm)
      · obtain rfl := one_value hnd hvm hv2
        refine ⟨(s2, true, ()), rfl, Cd_t ?_⟩
        have hvle : RowsLe v := by
          obtain ⟨_, ns, y, _, he⟩ := h.t
          exact he.le _ hvm
        refine Cl_gv (sameValue_gv s1 s2 v v _ _ w2 (hn1.nest.ex hx2) hn2 hvle) fun w3 hx3 => ?_
        exact finX _ w3 (by simp) ((hx1.trans hx2).trans hx3)
  refine Cd_eq (fun _ => ?_) (fun _ => ?_)
  · -- Drop
    refine Calls.mono (drop_ok h.t key o.key hk.rds (by omega) hkbo) ?_
    rintro en w1 (⟨hno, rfl, hx1⟩ | ⟨v, hvm, rfl, hst1, hmo1⟩)
    · refine ⟨false, rfl, ?_⟩
      have hop1 := hop.ex (hx0.trans hx1)
      refine Rd_has (c := .sl) (x := o.o.2.2.1) (hB.ex hx1) (by kernel_rfl) rfl ?_
      refine Calls.mono (refDrop_ok (h.r.ex hx1) hnd hlen hop1.1) ?_
      rintro en w2 (⟨_, rfl, hx2⟩ | ⟨v2, hv2, _⟩)
      · exact ⟨false, rfl, finX _ w2 rfl (hx1.trans hx2)⟩
      · exact absurd rfl (hno _ hv2)
    · refine ⟨true, rfl, ?_⟩
      have hr1 : RefSt ro w1 rb lim es s bk := h.r.mo hmo1 (fun b hb ho => by
        rcases hb with hb | hb
        · exact (h.dis b ho).1 hb
        · exact (h.dis b ho).2 hb)
      have hop1 := hop.ex (hx0.into hmo1 hown)
      refine Rd_has (c := .sl) (x := o.o.2.2.1) (hB.mo hmo1 hobo) (by kernel_rfl) rfl ?_
      refine Calls.mono (refDrop_ok hr1 hnd hlen hop1.1) ?_
      rintro en w2 (⟨hno, _⟩ | ⟨v2, hv2, rfl, hnx2⟩)
      · exact absurd rfl (hno _ hvm)
      · exact ⟨true, rfl, fin w2 (h.both hst1 (by omega) (fun b hb => .inl hb) hmo1 (Ex.refl _) hnx2)⟩
  refine Cd_eq (fun _ => ?_) (fun _ => ?_)
  · -- Len
    refine Held_ex ?_
    have hd := Ex.drew w
    refine Pu_nil ?_
    refine RdS_has (c := .sl) (x := s) (fun v hv => h.r.top.ex (hd.trans hv)) (by kernel_rfl) rfl ?_
    refine Cl_gv (len_gv (h.t.ex hd)) fun w1 hx1 => ⟨hx1, ?_⟩
    refine finX _ w1 ?_ (hd.trans hx1)
    rw [h.r.at_.len, hbl]
    simp
  refine Cd_eq (fun _ => ?_) (fun _ => ?_)
  · -- Nodes
    refine Calls.mono (nodes_ok h.t) ?_
    rintro en w1 ⟨L, hL, _, rfl, hx1⟩
    refine ⟨_, rfl, ?_⟩
    refine Cl_gv (refNodes_ok (h.r.ex hx1) hnd hlen hl4 hL) fun w2 hx2 => ?_
    exact finX _ w2 (by simp) (hx1.trans hx2)
  refine Cd_eq (fun _ => ?_) (fun _ => ?_)
  · -- Recent
    refine Calls.mono (recent_ok h.t (by omega)) ?_
    rintro en w1 ⟨s1, rfl, hn1, hx1⟩
    refine ⟨s1, rfl, ?_⟩
    refine Calls.mono (refRecent_ok (h.r.ex hx1) hlen) ?_
    rintro en w2 ⟨s2, rfl, hn2, hx2⟩
    refine ⟨s2, rfl, ?_⟩
    refine Cl_gv (sameKeys_gv s1 s2 _ _ _ _ w2 (hn1.nest.ex hx2) hn2 rle) fun w3 hx3 => ?_
    exact finX _ w3 (by simp) ((hx1.trans hx2).trans hx3)
  refine Cd_eq (fun _ => ?_) (fun _ => ?_)
  · -- Under
    refine Held_ex ?_
    have hd := Ex.drew w
    refine RdS_has (c := .sl) (x := o.o.2.2.1) (fun v hv => hB.ex (hd.trans hv)) (by kernel_rfl) rfl ?_
    refine Calls.mono (under_ok (h.t.ex hd) key o.key (hk.rds.ex hd) (by omega)) ?_
    rintro en w1 ⟨s1, ks, rfl, hn1, hku, hx1⟩
    refine ⟨s1, rfl, hx1, ?_⟩
    have k1 := hd.trans hx1
    refine Calls.mono (refUnder_ok (h.r.ex k1) hlen (hop.1.ex (hx0.trans k1))) ?_
    rintro en w2 ⟨s2, ks2, rfl, hn2, hku2, hx2⟩
    refine ⟨s2, rfl, hx1.trans hx2, ?_⟩
    have heq : ks2 = ks := sorted_unique _ _ hku2.order hku.order (fun x => by rw [hku2.mem, hku.mem])
    subst heq
    have hks : ks2.length ≤ 1024 := by
      have := nodup_sub_len ks2 (es.map (·.1)) hku.nodup (fun x hx => by obtain ⟨⟨e, he, hek⟩, _⟩ := (hku.mem x).1 hx; exact List.mem_map.2 ⟨e, he, hek⟩)
      rw [List.length_map] at this
      omega
    refine Cl_gv (sameKeys_gv s1 s2 ks2 ks2 _ _ w2 (hn1.nest.ex hx2) hn2 ⟨by omega, fun l hl => by obtain ⟨⟨e, he, hek⟩, _⟩ := (hku.mem l).1 hl; have := hl4 l (List.mem_map.2 ⟨e, he, hek⟩); omega⟩) fun w3 hx3 => ⟨(hx1.trans hx2).trans hx3, ?_⟩
    exact finX _ w3 (by simp) ((k1.trans hx2).trans hx3)
  refine Cd_eq (fun _ => ?_) (fun _ => ?_)
  · -- All
    refine Calls.mono (walked_ok (gives_some h.t)) ?_
    rintro en w1 ⟨s1, ks, rfl, hn1, hku, hkl1, hkk1, hx1⟩
    refine ⟨s1, rfl, ?_⟩
    refine Calls.mono (refAll_ok (h.r.ex hx1) hlen) ?_
    rintro en w2 ⟨s2, ks2, rfl, hn2, hku2, hx2⟩
    refine ⟨s2, rfl, ?_⟩
    have heq : ks2 = ks := sorted_unique _ _ hku2.order hku.order (fun x => by rw [hku2.mem, hku.mem])
    subst heq
    refine Cl_gv (sameKeys_gv s1 s2 ks2 ks2 _ _ w2 (hn1.nest.ex hx2) hn2 ⟨by omega, fun l hl => by have := hkk1 l hl; omega⟩) fun w3 hx3 => ?_
    exact finX _ w3 (by simp) ((hx1.trans hx2).trans hx3)
  · exact finX true w rfl (Ex.refl _)
theorem asked_ok (h : PSt own ro w tb rb lim clock es s bk) (hc : clock < 4611686018427387900) (hx0 : Ex w0 w) (hX : ∀ b, PX own ro rb b → w0.heap.size ≤ b) (hop : OpOk w0 o) :
    Calls Try.prog 36 #[.pointer (some ⟨tb, 0, none⟩), .pointer (some ⟨rb, 0, none⟩), .agg (opV o.o).toArray] w fun en w' => en = .returned (.bool true) ∧ PNext own ro w w' tb rb lim clock := by
  refine culletlaw12_asked.run _ _ _ o.o w ?_
  unfold culletlaw12_asked.M
  refine Wr_box fun w1 hB1 hx1 => ?_
  have hB1 : Has w1 w.heap.size (opV o.o) 32 := hB1
  have hd := hx1.trans (Ex.drew w1)
  have hBd := hB1.ex (Ex.drew w1)
  refine Held_ex ?_
  refine RdS_has (c := .sl) (x := o.o.2.2.1) (fun v hv => hBd.ex hv) (by kernel_rfl) rfl ?_
  refine RdS_has (c := .sl) (x := o.o.2.2.2.1) (fun v hv => hBd.ex hv) (by kernel_rfl) rfl ?_
  have hopd := hop.ex (hx0.trans hd)
  refine Cl_sl (copyKey_sl o.o.2.2.1 o.key _ hopd.1 hopd.2.1) fun s2 w2 ho2 hx2 => ⟨hx2, ?_⟩
  refine Calls.mono (copyValue_nest o.o.2.2.2.1 o.val _ w2 (hopd.2.2.1.ex hx2) hopd.2.2.2) ?_
  rintro en w3 ⟨s3, rfl, hn3, hx3⟩
  refine ⟨s3, rfl, hx2.trans hx3, ?_⟩
  have k3 := hd.trans (hx2.trans hx3)
  have hlow := h.low
  have a1 := hd.size
  have a2 := hx2.size
  refine asked_j1 (h.ex k3) hc (hx0.trans k3) hX hop (hBd.ex (hx2.trans hx3)) (fun hb => Nat.lt_irrefl _ (hlow _ hb)) (ho2.ex hx3) (fun b hb hb' => by have := (ho2.base b hb).1; have := hlow b hb'; omega) (hn3.nest.weak (fun b hb hb' => by have := hb.1; have := hlow b hb'; omega)) fun w' hn => ⟨rfl, ?_⟩
  obtain ⟨own', ro', c', es', s', bk', n1, n2, n3, n4⟩ := hn
  have a3 := k3.size
  exact ⟨own', ro', c', es', s', bk', n1, n2, fun b hb => (n3 b hb).elim .inl (fun g => .inr (by omega)), k3.mo n4⟩
end
end Go.Proofs.Ytdnlnloogfnlgaa
