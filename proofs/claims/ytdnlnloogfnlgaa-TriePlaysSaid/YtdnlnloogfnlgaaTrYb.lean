/- The document's trie: Put, Get, Peek, Drop. -/
import Derived.Test.YtdnlnloogfnlgaaTrYa
set_option linter.all false
namespace Go.Proofs.Ytdnlnloogfnlgaa
open Go Go.Cu Go.RowKit
set_option linter.unusedVariables false
set_option maxHeartbeats 4000000
theorem Wr_has {t : TypeId} {B i : Nat} {cs : List Value} {e : TypeId} {c : At} {x : c.T} {k : c.T → World → Prop} {w : World} (hB : Has w B cs e) (h : isOne Try.prog t = true) (hi : cs[i]? = some (c.enc x)) (hk : k x w) :
    Wr Try.prog (Instr.loadAt t (.pointer (some ⟨B, i, none⟩))) (.one (.at c)) k w := by
  obtain ⟨y, hy, hk'⟩ := Rd_has (k := fun z v => z = x ∧ v = w) hB h hi ⟨rfl, rfl⟩
  obtain ⟨rfl, _⟩ := hk'
  exact ⟨y, w, hy, hk⟩
/-- what Put, Get, Drop leave: the state with other entries -/
def RefNext (ro : Nat → Prop) (w w' : World) (rb : Nat) (lim : Int) (es' : List Ent) : Prop :=
  ∃ ro' s' bk', (∀ b, ro' b → ro b ∨ w.heap.size ≤ b) ∧ RefSt ro' w' rb lim es' s' bk' ∧ Mo (fun b => b = rb) w w'
theorem RefNext.of {ro : Nat → Prop} {w w' : World} {rb n : Nat} {lim : Int} {es' : List Ent} {s' : Sl} {bk' : List HeldK} (h : RefSt (fun b => ro b ∨ w.heap.size ≤ b ∧ b < n) w' rb lim es' s' bk') (hm : Mo (fun b => b = rb) w w') : RefNext ro w w' rb lim es' :=
  ⟨_, _, _, fun b hb => Or.elim hb .inl (fun g => .inr g.1), h, hm⟩
theorem first_at {ro : Nat → Prop} {w0 w w' : World} {rb : Nat} {lim : Int} {es : List Ent} {s s' : Sl} {bk : List HeldK} {x : HeldK} {z : Int} {b0 : Nat} (h : RefSt ro w rb lim es s bk) (hx : Ex w0 w) (hB : Has w' rb (refV lim s') 61) (ho : OwnA hAts 99 w.heap.size w' s' (x.h :: rm z (bk.map (·.h)))) (hm : Mo (fun b => b = rb) w w')
    (hk : Rds i64v w x.h.1 x.key ∧ ∀ a, x.h.1.base = some a → ro a.block ∨ w0.heap.size ≤ a.block ∧ a.block < w.heap.size) (hv : Nest b8 (fun b => ro b ∨ w0.heap.size ≤ b ∧ b < w.heap.size) w x.h.2.1 x.val) (hl : x.key.length ≤ 256 ∧ RowsLe x.val) (hrb : rb < w0.heap.size) :
    RefSt (fun b => ro b ∨ w0.heap.size ≤ b ∧ b < w'.heap.size) w' rb lim ((x :: rm z bk).map HeldK.ent) s' (x :: rm z bk) := by
  have hsz := hm.size
  have hsz0 := hx.size
  have new : ∀ b, ro b ∨ w0.heap.size ≤ b ∧ b < w.heap.size → ¬ b = rb := fun b hb e => by
    rcases hb with hb | hb
    · subst e; exact h.apart hb
    · omega
  have up : ∀ b, ro b ∨ w0.heap.size ≤ b ∧ b < w.heap.size → ro b ∨ w0.heap.size ≤ b ∧ b < w'.heap.size := fun b hb => hb.elim .inl (fun g => .inr ⟨g.1, by omega⟩)
  refine ⟨hB, fun hb => ?_, fun b hb => ?_, ⟨?_, fun a ha => ?_, fun y hy => ?_, fun y hy => ?_, fun y hy => ?_⟩, rfl⟩
  · rcases hb with hb | hb
    · exact h.apart hb
    · omega
  · rcases hb with hb | hb
    · exact Nat.lt_of_lt_of_le (h.low b hb) hsz
    · exact hb.2
  · rw [List.map_cons, ← rm_map]; exact ho.rda
  · have := ho.base _ (slin_of ha)
    exact .inr ⟨by omega, this.2⟩
  · rcases List.mem_cons.1 hy with rfl | hy
    · exact ⟨hk.1.mo hm (fun a ha => new _ (hk.2 a ha)), fun a ha => up _ (hk.2 a ha)⟩
    · have hy' := rm_sub _ _ hy
      obtain ⟨g1, g2⟩ := h.at_.keys y hy'
      exact ⟨g1.mo hm (fun a ha => new _ (.inl (g2 a ha))), fun a ha => .inl (g2 a ha)⟩
  · rcases List.mem_cons.1 hy with rfl | hy
    · exact (hv.mo hm new).weak up
    · exact ((h.at_.vals y (rm_sub _ _ hy)).mo hm (fun b hb => new _ (.inl hb))).weak (fun b hb => .inl hb)
  · rcases List.mem_cons.1 hy with rfl | hy
    · exact hl
    · exact h.at_.lens y (rm_sub _ _ hy)
theorem refPut_ok {ro F : Nat → Prop} {w : World} {rb : Nat} {lim : Int} {es : List Ent} {s kS vS : Sl} {bk : List HeldK} {l : Path} {v : List (List Int)} (h : RefSt ro w rb lim es s bk) (hn : (es.map (·.1)).Nodup) (hlen : (es.length : Int) ≤ lim) (hl1 : 1 ≤ lim) (hl2 : lim ≤ 1024)
    (hk : Rds i64v w kS l) (hkl : l.length ≤ 17592186044000) (hv : Nest b8 F w vS v) (hvl : RowsLe v) :
    Calls Try.prog 54 #[.pointer (some ⟨rb, 0, none⟩), slv kS, slv vS] w fun en w' => (goodB l = false ∧ en = .returned (.int .i64 120) ∧ Ex w w') ∨ (goodB l = true ∧ en = .returned (.int .i64 0) ∧ RefNext ro w w' rb lim (putE es lim l v)) := by
  have hbn : (bk.map (·.key)).Nodup := by rw [h.keys]; exact hn
  have hbl : bk.length = es.length := by rw [← h.ents, List.length_map]
  refine culletref12_Trie_Put.run _ _ kS vS w ?_
  unfold culletref12_Trie_Put.M
  refine Cl_gv (good_gv kS l w hk (by omega)) fun w1 hx1 => ?_
  refine Cd_not (fun hg => .inl ⟨hg, rfl, hx1⟩) (fun hg => ?_)
  have hgl := good_len hg
  refine Cl_sl (copyKey_sl kS l w1 (hk.ex hx1) hkl) fun s2 w2 ho2 hx2 => ?_
  have k2 := hx1.trans hx2
  refine Calls.mono (copyValue_nest vS v _ w2 (hv.ex k2) hvl) ?_
  rintro en w3 ⟨s3, rfl, hn3, hx3⟩
  refine ⟨s3, rfl, ?_⟩
  have k3 := k2.trans hx3
  refine Calls.mono (refFind_ok (h.ex k3) (hk.ex k3) (by omega)) ?_
  rintro en w4 ⟨z, rfl, hx4, hz⟩
  refine ⟨z, rfl, ?_⟩
  have k4 := k3.trans hx4
  have h4 := h.ex k4
  have hz1 : -1 ≤ z := by rcases hz with ⟨rfl, _⟩ | ⟨i, _, rfl, _⟩ <;> omega
  refine Calls.mono (first_ok h4 (by omega) (s2, s3, ()) z hz1) ?_
  rintro en w5 ⟨s5, rfl, hB5, ho5, hm5⟩
  refine ⟨(), rfl, ?_⟩
  have hs1 := hx1.size
  have hs2 := hx2.size
  have hs3 := hx3.size
  have hs4 := hx4.size
  have hrb := h.top.lt
  have hk2 := (ho2.ex hx3).ex hx4
  have hst := first_at (x := ⟨(s2, s3, ()), l, v⟩) (b0 := 0) h4 k4 hB5 ho5 hm5 ⟨hk2.rds, fun a ha => .inr (by have := ho2.base _ (slin_of ha); omega)⟩ ((hn3.ex hx4).nest.weak (fun b hb => .inr ⟨by have := hb.1; omega, hb.2⟩)) ⟨hgl, hvl⟩ hrb
  rw [List.map_cons, rm_without hbn hz, h.ents] at hst
  have hm05 : Mo (fun b => b = rb) w w5 := k4.mo hm5
  have hlist : ((⟨(s2, s3, ()), l, v⟩ : HeldK) :: rm z bk).length = ((l, v) :: without es l).length := by
    have := congrArg List.length (rm_without hbn hz)
    rw [List.length_map, h.ents] at this
    simp [this]
  have hll : s5.len = ((l, v) :: without es l).length := by rw [hst.at_.len, hlist]
  refine Held_ex ?_
  refine Pu_nil ?_
  refine RdS_has (c := .sl) (x := s5) (fun v hv => (hB5.ex (Ex.drew w5)).ex hv) (by kernel_rfl) rfl ?_
  refine Pu_nil ?_
  refine RdS_has (c := .int .i64) (x := lim) (fun v hv => (hB5.ex (Ex.drew w5)).ex hv) (by kernel_rfl) rfl ?_
  have hd := Ex.drew w5
  refine Cd_dec (fun hgt => ?_) (fun hle => ?_)
  · refine Held_of (fun _ => True) trivial ?_
    refine Pu_nil ?_
    refine Pu_nil ?_
    obtain ⟨n, rfl⟩ := Int.eq_ofNat_of_zero_le (a := lim) (by omega)
    have hdd := hd.trans (Ex.drew w5.drew)
    have hstd := hst.ex hdd
    have hBd := hB5.ex hdd
    have hod := ho5.ex hdd
    have hol : (((s2, s3, ()) : HT) :: rm z (bk.map (·.h))).length = ((l, v) :: without es l).length := by rw [← hlist, rm_map]; simp
    have go : ∀ {R : Ending → World → Prop}, (∀ w', RefNext ro w w' rb (n : Int) (putE es (n : Int) l v) → R (.returned (.int .i64 0)) w') →
        Pu Try.prog (Instr.sliceAt 59 (.slice s5.base s5.len s5.cap) none (some (.int .i64 (n : Int))) none) (.one (.at .sl)) (fun (x29 : Sl) w30 =>
          Pu Try.prog (nilCk (some ⟨rb, 0, none⟩)) (.one (.at .addr)) (fun (x31 : Addr) w32 =>
          Wu Try.prog (Instr.storeAt 59 (.pointer (some (Addr.add x31 1))) (.slice x29.base x29.len x29.cap)) (fun w33 =>
          True ∧ (culletref12_Trie_Put.j1 R w33)) w32) w30) w5.drew.drew := by
      intro R hR
      refine Pu_takeA (n := n) hod (by rw [hol]; simp) (by rw [hol]; omega) tE sE fun s6 ho6 hs6 => ?_
      refine Pu_nil ?_
      refine Wu_store (v := slv s6) hBd (by kernel_rfl) (by simp [Value.cells, Value.oneCell']) (Nat.le_of_ble_eq_true (by kernel_rfl)) fun w6 hB6 hm6 => ⟨trivial, ?_⟩
      unfold culletref12_Trie_Put.j1
      have hnr : ∀ b, (ro b ∨ w.heap.size ≤ b ∧ b < w5.heap.size) → ¬ b = rb := fun b hb e => by subst e; exact hst.apart hb
      refine hR w6 ⟨fun b => ro b ∨ w.heap.size ≤ b ∧ b < w5.heap.size, s6, ((⟨(s2, s3, ()), l, v⟩ : HeldK) :: rm z bk).take n, fun b hb => hb.elim .inl (fun g => .inr g.1), ⟨hB6, hst.apart, fun b hb => Nat.lt_of_lt_of_le (hstd.low b hb) hm6.size, ⟨?_, fun a ha => ?_, fun y hy => ?_, fun y hy => ?_, fun y hy => ?_⟩, ?_⟩, (hm05.ex hdd).trans hm6 (fun _ => id) (fun _ _ => id)⟩
      · have := (ho6.mo hm6 (fun b ⟨a, ha, hb⟩ e => by
          rw [hs6] at ha
          exact hnr b (by rw [← hb]; exact hst.at_.sb a ha) e)).rda
        rw [List.map_take, List.map_cons, ← rm_map]
        exact this
      · rw [hs6] at ha; exact hst.at_.sb a ha
      · obtain ⟨g1, g2⟩ := hstd.at_.keys y (List.mem_of_mem_take hy)
        exact ⟨g1.mo hm6 (fun a ha => hnr _ (g2 a ha)), g2⟩
      · exact (hstd.at_.vals y (List.mem_of_mem_take hy)).mo hm6 hnr
      · exact hst.at_.lens y (List.mem_of_mem_take hy)
      · rw [List.map_take, List.map_cons, rm_without hbn hz, h.ents]
        unfold putE
        rw [Int.toNat_natCast]
    refine ⟨?_, ?_⟩
    · refine Wr_has (c := .sl) (x := s5) hBd (by kernel_rfl) rfl ⟨trivial, ?_⟩
      refine Wr_has (c := .int .i64) (x := (n : Int)) hBd (by kernel_rfl) rfl ⟨trivial, ?_⟩
      exact go fun w' hw' => .inr ⟨hg, rfl, hw'⟩
    · refine Wr_has (c := .int .i64) (x := (n : Int)) hBd (by kernel_rfl) rfl ⟨trivial, ?_⟩
      refine Wr_has (c := .sl) (x := s5) hBd (by kernel_rfl) rfl ⟨trivial, ?_⟩
      exact go fun w' hw' => .inr ⟨hg, rfl, hw'⟩
  · unfold culletref12_Trie_Put.j1
    refine .inr ⟨hg, rfl, RefNext.of (n := w5.heap.size) (s' := s5) (bk' := (⟨(s2, s3, ()), l, v⟩ : HeldK) :: rm z bk) ?_ (hm05.ex hd)⟩
    have : putE es lim l v = (l, v) :: without es l := by
      unfold putE
      rw [List.take_of_length_le (by omega)]
    rw [this]
    exact hst.ex hd
/-- what is kept under a key, or nothing -/
theorem refGet_ok {ro : Nat → Prop} {w : World} {rb : Nat} {lim : Int} {es : List Ent} {s kS : Sl} {bk : List HeldK} {l : Path} (h : RefSt ro w rb lim es s bk) (hn : (es.map (·.1)).Nodup) (hlen : es.length ≤ 1024) (hk : Rds i64v w kS l) :
    Calls Try.prog 55 #[.pointer (some ⟨rb, 0, none⟩), slv kS] w fun en w' => ((∀ e ∈ es, e.1 ≠ l) ∧ en = .returned (.tuple #[slv nilS, .bool false]) ∧ Ex w w') ∨
      (∃ v s1, (l, v) ∈ es ∧ en = .returned (.tuple #[slv s1, .bool true]) ∧ Nest b8 (fun _ => True) w' s1 v ∧ RefNext ro w w' rb lim (frontE es l v)) := by
  have hbn : (bk.map (·.key)).Nodup := by rw [h.keys]; exact hn
  have hbl : bk.length = es.length := by rw [← h.ents, List.length_map]
  refine culletref12_Trie_Get.run _ _ kS w ?_
  unfold culletref12_Trie_Get.M
  refine Calls.mono (refFind_ok h hk (by omega)) ?_
  rintro en w1 ⟨z, rfl, hx1, hz⟩
  refine ⟨z, rfl, ?_⟩
  have h1 := h.ex hx1
  rcases hz with ⟨rfl, hno⟩ | ⟨i, x, rfl, hi, rfl⟩
  · refine Cd_t ?_
    refine .inl ⟨fun e he hel => ?_, rfl, hx1⟩
    rw [← h.ents] at he
    obtain ⟨y, hy, rfl⟩ := List.mem_map.1 he
    exact hno y hy hel
  · obtain ⟨hil, hie⟩ := List.getElem?_eq_some_iff.1 hi
    have hxm := List.mem_of_getElem? hi
    refine Cd_dec (fun h => by omega) (fun _ => ?_)
    refine Pu_nil ?_
    refine Rd_has (c := .sl) (x := s) h1.top (by kernel_rfl) rfl ?_
    refine Pu_idxA h1.at_.sl tE sE (by omega) (by rw [List.length_map]; omega) fun a hv hhv hc _ => ?_
    rw [Int.toNat_natCast, List.getElem?_map, hi] at hhv
    obtain rfl : x.h = hv := by simpa using hhv
    refine Rd_agg (x := x.h) aE hc ?_
    refine Wr_alloc (z := .agg (encAts hAts ((nilS, nilS, ()) : HT)).toArray) (by kernel_rfl) fun w3 hB3 hx3 => ?_
    refine Wu_store (v := .agg (encAts hAts x.h).toArray) hB3 (by kernel_rfl) (held_one x.h) (Nat.le_of_ble_eq_true (by kernel_rfl)) fun w4 hB4 hm4 => ?_
    have hB4' : Has w4 w1.heap.size [slv x.h.1, slv x.h.2.1] 99 := hB4
    have hx4 : Ex w1 w4 := hx3.into hm4 (fun i hi => by rw [hi]; exact Nat.le_refl _)
    have k4 := hx1.trans hx4
    have h4 := h.ex k4
    refine Rd_hasN (x := x.h) (cs := encAts hAts x.h) hB4 (by kernel_rfl) rfl ?_
    refine Calls.mono (first_ok h4 (by omega) x.h (i : Int) (by omega)) ?_
    rintro en w5 ⟨s5, rfl, hB5, ho5, hm5⟩
    refine ⟨(), rfl, ?_⟩
    have hrb := h.top.lt
    have hs1 := hx1.size
    have hs4 := hx4.size
    have hst := first_at (x := x) (b0 := 0) h4 k4 hB5 ho5 hm5 ⟨(h4.at_.keys x hxm).1, fun a ha => .inl ((h4.at_.keys x hxm).2 a ha)⟩ ((h4.at_.vals x hxm).weak (fun b hb => .inl hb)) (h4.at_.lens x hxm) hrb
    have hz' : FindsAt bk x.key (i : Int) := .inr ⟨i, x, rfl, hi, rfl⟩
    rw [List.map_cons, rm_without hbn hz', h.ents] at hst
    have hB5' := hB4'.mo hm5 (by show ¬ w1.heap.size = rb; omega)
    refine Rd_has (c := .sl) (x := x.h.2.1) hB5' (by kernel_rfl) rfl ?_
    refine Calls.mono (copyValue_nest x.h.2.1 x.val _ w5 (hst.at_.vals x List.mem_cons_self) (hst.at_.lens x List.mem_cons_self).2) ?_
    rintro en w6 ⟨s6, rfl, hn6, hx6⟩
    refine ⟨s6, rfl, .inr ⟨x.val, s6, ?_, rfl, hn6.nest.weak (fun _ _ => trivial), RefNext.of (hst.ex hx6) ((k4.mo hm5).ex hx6)⟩⟩
    rw [← h.ents]
    exact List.mem_map.2 ⟨x, hxm, rfl⟩
theorem refPeek_ok {ro : Nat → Prop} {w : World} {rb : Nat} {lim : Int} {es : List Ent} {s kS : Sl} {bk : List HeldK} {l : Path} (h : RefSt ro w rb lim es s bk) (hlen : es.length ≤ 1024) (hk : Rds i64v w kS l) :
    Calls Try.prog 56 #[.pointer (some ⟨rb, 0, none⟩), slv kS] w fun en w' => Ex w w' ∧ (((∀ e ∈ es, e.1 ≠ l) ∧ en = .returned (.tuple #[slv nilS, .bool false])) ∨
      (∃ v s1, (l, v) ∈ es ∧ en = .returned (.tuple #[slv s1, .bool true]) ∧ Nest b8 (fun _ => True) w' s1 v)) := by
  have hbl : bk.length = es.length := by rw [← h.ents, List.length_map]
  refine culletref12_Trie_Peek.run _ _ kS w ?_
  unfold culletref12_Trie_Peek.M
  refine Calls.mono (refFind_ok h hk (by omega)) ?_
  rintro en w1 ⟨z, rfl, hx1, hz⟩
  refine ⟨z, rfl, ?_⟩
  have h1 := h.ex hx1
  rcases hz with ⟨rfl, hno⟩ | ⟨i, x, rfl, hi, rfl⟩
  · refine Cd_t ?_
    refine ⟨hx1, .inl ⟨fun e he hel => ?_, rfl⟩⟩
    rw [← h.ents] at he
    obtain ⟨y, hy, rfl⟩ := List.mem_map.1 he
    exact hno y hy hel
  · obtain ⟨hil, hie⟩ := List.getElem?_eq_some_iff.1 hi
    have hxm := List.mem_of_getElem? hi
    refine Cd_dec (fun h => by omega) (fun _ => ?_)
    refine Pu_nil ?_
    refine Rd_has (c := .sl) (x := s) h1.top (by kernel_rfl) rfl ?_
    refine Pu_idxA h1.at_.sl tE sE (by omega) (by rw [List.length_map]; omega) fun a hv hhv hc _ => ?_
    rw [Int.toNat_natCast, List.getElem?_map, hi] at hhv
    obtain rfl : x.h = hv := by simpa using hhv
    refine Rd_one (c := .sl) (x := x.h.2.1) (by kernel_rfl) (hc 1 _ rfl) ?_
    refine Calls.mono (copyValue_nest x.h.2.1 x.val _ w1 (h1.at_.vals x hxm) (h1.at_.lens x hxm).2) ?_
    rintro en w6 ⟨s6, rfl, hn6, hx6⟩
    refine ⟨s6, rfl, hx1.trans hx6, .inr ⟨x.val, s6, ?_, rfl, hn6.nest.weak (fun _ _ => trivial)⟩⟩
    rw [← h.ents]
    exact List.mem_map.2 ⟨x, hxm, rfl⟩
theorem refDrop_ok {ro : Nat → Prop} {w : World} {rb : Nat} {lim : Int} {es : List Ent} {s kS : Sl} {bk : List HeldK} {l : Path} (h : RefSt ro w rb lim es s bk) (hn : (es.map (·.1)).Nodup) (hlen : es.length ≤ 1024) (hk : Rds i64v w kS l) :
    Calls Try.prog 57 #[.pointer (some ⟨rb, 0, none⟩), slv kS] w fun en w' => ((∀ e ∈ es, e.1 ≠ l) ∧ en = .returned (.bool false) ∧ Ex w w') ∨ (∃ v, (l, v) ∈ es ∧ en = .returned (.bool true) ∧ RefNext ro w w' rb lim (without es l)) := by
  have hbn : (bk.map (·.key)).Nodup := by rw [h.keys]; exact hn
  have hbl : bk.length = es.length := by rw [← h.ents, List.length_map]
  refine culletref12_Trie_Drop.run _ _ kS w ?_
  unfold culletref12_Trie_Drop.M
  refine Calls.mono (refFind_ok h hk (by omega)) ?_
  rintro en w1 ⟨z, rfl, hx1, hz⟩
  refine ⟨z, rfl, ?_⟩
  have h1 := h.ex hx1
  have hz' := hz
  rcases hz with ⟨rfl, hno⟩ | ⟨i0, x, rfl, hi0, rfl⟩
  · refine Cd_t ?_
    refine .inl ⟨fun e he hel => ?_, rfl, hx1⟩
    rw [← h.ents] at he
    obtain ⟨y, hy, rfl⟩ := List.mem_map.1 he
    exact hno y hy hel
  refine Cd_dec (fun h => by omega) (fun _ => ?_)
  refine Pu_nil ?_
  refine Rd_has (c := .sl) (x := s) h1.top (by kernel_rfl) rfl ?_
  unfold culletref12_Trie_Drop.l1
  have hat := h.at_
  rw [hat.len]
  generalize ((i0 : Nat) : Int) = z at hz' ⊢
  refine loopW_of (fun st w' => st.1 = some ⟨rb, 0, none⟩ ∧ st.2.1 = z ∧ st.2.2.2.1 = s ∧ st.2.2.2.2.1 = (bk.length : Int) ∧ Ex w w' ∧ ∃ i : Nat, i ≤ bk.length ∧ st.2.2.2.2.2.1 = (i : Int) ∧ OwnA hAts 99 w.heap.size w' st.2.2.1 (rm z ((bk.map (·.h)).take i))) (fun st _ => bk.length - st.2.2.2.2.2.1.toNat) ?_
    ⟨rfl, rfl, rfl, rfl, hx1, 0, Nat.zero_le _, rfl, OwnA.nil _ _ _ _⟩
  rintro k ⟨a1, a2, nx, a3, a4, i', u⟩ w' hI hk2
  dsimp only at hI hk2 ⊢
  obtain ⟨rfl, rfl, rfl, rfl, hx, i, hi, rfl, ho⟩ := hI
  unfold culletref12_Trie_Drop.b1
  have hml : (bk.map (·.h)).length = bk.length := List.length_map _
  refine Cd_dec (fun hlt => ?_) (fun hge => ?_)
  · have hib : i < bk.length := by omega
    have h' := hat.ex hx
    refine Pu_idxA h'.sl tE sE (by omega) (by rw [List.length_map]; omega) fun a hv hhv hc _ => ?_
    rw [Int.toNat_natCast, List.getElem?_map, List.getElem?_eq_getElem hib] at hhv
    obtain rfl : bk[i].h = hv := by simpa using hhv
    refine Rd_agg (x := bk[i].h) aE hc ?_
    refine Wr_alloc (z := .agg (encAts hAts ((nilS, nilS, ()) : HT)).toArray) (by kernel_rfl) fun w3 hB3 hx3 => ?_
    refine Wu_store (v := .agg (encAts hAts bk[i].h).toArray) hB3 (by kernel_rfl) (held_one bk[i].h) (Nat.le_of_ble_eq_true (by kernel_rfl)) fun w4 hB4 hm4 => ?_
    have hx4 : Ex w' w4 := hx3.into hm4 (fun i hi => by rw [hi]; exact Nat.le_refl _)
    have k4 := hx.trans hx4
    have htk : (bk.map (·.h)).take (i + 1) = (bk.map (·.h)).take i ++ [bk[i].h] := by
      rw [List.take_add_one, List.getElem?_map, List.getElem?_eq_getElem hib]; rfl
    have htl : (((bk.map (·.h)).take i).length : Int) = (i : Int) := by rw [List.length_take, hml]; omega
    have hrl := rm_len ((bk.map (·.h)).take i) a2
    refine Cd_ne (fun hne => ?_) (fun heq => ?_)
    · refine Rd_hasN (x := bk[i].h) (cs := encAts hAts bk[i].h) hB4 (by kernel_rfl) rfl ?_
      refine Wr_litA (ats := hAts) (e := 99) (base := w4.heap.size) [bk[i].h] (by kernel_rfl) (Nat.le_refl _) (by simp) fun s5 w5 ho5 hx5 _ => ?_
      have k5 := k4.trans hx5
      refine Wr_appendA tE iE rfl (ho.ex (hx4.trans hx5)) ho5.rda (fun y => held_one y) (by simp only [List.length_cons, List.length_nil]; omega) (by simp only [List.length_cons, List.length_nil]; omega) k5.size fun s6 w6 ho6 hm6 hin6 => ?_
      unfold culletref12_Trie_Drop.j1
      rw [wrap64 (x := (i : Int) + 1) (by omega) (by omega)]
      refine hk2 _ _ ⟨rfl, rfl, rfl, rfl, k5.into hm6 (fun b hb => (ho.base b hb).1), i + 1, by omega, by simp, ?_⟩ (by simp only; omega)
      rw [htk, rm_snoc, htl, if_neg hne]
      exact ho6
    · unfold culletref12_Trie_Drop.j1
      rw [wrap64 (x := (i : Int) + 1) (by omega) (by omega)]
      refine hk2 _ _ ⟨rfl, rfl, rfl, rfl, k4, i + 1, by omega, by simp, ?_⟩ (by simp only; omega)
      rw [htk, rm_snoc, htl, if_pos heq, List.append_nil]
      exact ho.ex hx4
  · have : i = bk.length := by omega
    subst this
    rw [List.take_of_length_le (by omega)] at ho
    refine Pu_nil ?_
    refine Wu_store (v := slv nx) (h.top.ex hx) (by kernel_rfl) (by simp [Value.cells, Value.oneCell']) (Nat.le_of_ble_eq_true (by kernel_rfl)) fun w3 hB3 hm3 => ?_
    have hrb := h.top.lt
    have hnr : ∀ b, ro b → ¬ b = rb := fun b hb e => by subst e; exact h.apart hb
    have ho3 := ho.mo hm3 (fun b hb e => by have := (ho.base b hb).1; have e2 : b = rb := e; omega)
    refine .inr ⟨x.val, by rw [← h.ents]; exact List.mem_map.2 ⟨x, List.mem_of_getElem? hi0, rfl⟩, rfl, fun b => ro b ∨ w.heap.size ≤ b ∧ b < w3.heap.size, nx, rm a2 bk, fun b hb => hb.elim .inl (fun g => .inr g.1), ⟨hB3, fun hb => ?_, fun b hb => ?_, ⟨?_, fun a ha => ?_, fun y hy => ?_, fun y hy => ?_, fun y hy => ?_⟩, ?_⟩, hx.mo hm3⟩
    · rcases hb with hb | hb
      · exact h.apart hb
      · omega
    · rcases hb with hb | hb
      · have := h.low b hb; have := hx.size; have := hm3.size; omega
      · exact hb.2
    · rw [← rm_map]; exact ho3.rda
    · have := ho3.base _ (slin_of ha)
      exact .inr this
    · obtain ⟨g1, g2⟩ := (hat.ex hx).keys y (rm_sub _ _ hy)
      exact ⟨g1.mo hm3 (fun a ha => hnr _ (g2 a ha)), fun a ha => .inl (g2 a ha)⟩
    · exact (((hat.ex hx).vals y (rm_sub _ _ hy)).mo hm3 hnr).weak (fun b hb => .inl hb)
    · exact hat.lens y (rm_sub _ _ hy)
    · rw [rm_without hbn hz', h.ents]
end Go.Proofs.Ytdnlnloogfnlgaa
