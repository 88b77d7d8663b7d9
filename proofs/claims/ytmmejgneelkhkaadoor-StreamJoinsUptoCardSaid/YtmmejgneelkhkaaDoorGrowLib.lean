/- An append, and what it leaves of the other slices over the same block; rows in blocks of their own. -/
import Derived.Test.YtmmejgneelkhkaaDoorSetLib
set_option linter.all false
namespace Go.Cu
open Go Go.RowKit
section
variable {P : Program}
theorem Wr_append2 {α : Type} {f : α → Value} {t ty e : TypeId} {base : Nat} {s x : Sl} {l m : List α} {z : Value} {bytes : Nat} {k : Sl → World → Prop} {w : World}
    (ht : P.underlying t = some (.slice e)) (hi : (P.info? e).map (fun i => (i.zero, i.size, i.bytes)) = some (some z, 1, bytes)) (hz : z.cells.size = 1)
    (hown : Own f e base w s l) (hr : Rds f w x m) (h1 : ∀ y, (f y).oneCell' = true) (h63 : l.length + m.length ≤ 140737488355328) (hbytes : (l.length + m.length) * bytes ≤ 140737488355328) (hbase : base ≤ w.heap.size)
    (hk : ∀ s' w', Own f e base w' s' (l ++ m) → Mo (SlIn s) w w' → (∀ b, SlIn s' b → SlIn s b ∨ w.heap.size ≤ b) → (Ex w w' ∨ s'.base = s.base ∧ s'.cap = s.cap) → k s' w') :
    Wr P (Builtin.append_ #[t, t] ty #[.slice s.base s.len s.cap, .slice x.base x.len x.cap]) (.one (.at .sl)) k w := by
  obtain ⟨i, hi0, hz0, hs0, hb0⟩ := info_parts hi
  subst hb0
  have hml : maxLen = 9223372036854775807 := rfl
  obtain ⟨sb, sl, sc⟩ := s
  obtain ⟨xb, xl, xc⟩ := x
  have hsl : sl = l.length := hown.1
  have hxl : xl = m.length := hr.1
  have hcap : sl ≤ sc := hown.rds.2.1
  subst hsl hxl
  have hnews : ∀ a, xb = some a → ∀ j u, (m.map f)[j]? = some u → w.cell? (a.add j) = some u := by
    intro a ha j u hj
    simp only [List.getElem?_map] at hj
    cases hmj : m[j]? with
    | none => rw [hmj] at hj; cases hj
    | some y =>
      rw [hmj] at hj; cases hj
      obtain ⟨a', ha', hc⟩ := hr.2.2 j y hmj
      simp only [ha] at ha'; cases ha'; exact hc
  have hu1 : ∀ u ∈ m.map f, u.oneCell' = true := fun u hu => by obtain ⟨y, _, rfl⟩ := List.mem_map.1 hu; exact h1 y
  have hnone : xb = none → m = [] := fun hx => by
    cases m with
    | nil => rfl
    | cons y r => obtain ⟨a, ha, _⟩ := hr.2.2 0 y rfl; simp only [hx] at ha; cases ha
  have same : m = [] → (Builtin.append_ #[t, t] ty #[.slice sb l.length sc, .slice xb m.length xc]).run P w = .ok (.slice sb l.length sc) w := by
    intro hm; subst hm
    have hl0 : ∀ a : Addr, (loadCells a 0).run P w = .ok #[] w := fun a => by simpa using run_loadCells_list (P := P) w a [] (by simp)
    cases sb <;> cases xb <;> simp [Builtin.append_, run_underlying ht, sizeOf, typeInfo, hi0, hs0, Builtin.lenOf, Builtin.firstCells, hcap, storeCells, hl0]
  by_cases hm : m = []
  · subst hm
    exact ⟨⟨sb, l.length, sc⟩, w, same rfl, hk _ _ (by simpa using hown) (Mo.refl _ _) (fun b hb => .inl hb) (.inl (Ex.refl _))⟩
  · obtain ⟨a, rfl⟩ : ∃ a, xb = some a := by
      cases xb with
      | none => exact absurd (hnone rfl) hm
      | some a => exact ⟨a, rfl⟩
    have hmpos : 0 < m.length := List.length_pos_iff.2 hm
    have hge : ∀ old, l.length + m.length ≤ grownCap w (l.length + m.length) old e := fun old => grownCap_ge w _ old e
    have hle : ∀ old, grownCap w (l.length + m.length) old e ≤ maxLen := fun old => grownCap_le_maxLen w _ old e (by rw [hml]; omega)
    have fin : ∀ old, (Builtin.append_ #[t, t] ty #[.slice sb l.length sc, .slice (some a) m.length xc]).run P w = .ok (.slice (some ⟨w.heap.size, 0, none⟩) (l.length + m.length) (grownCap w (l.length + m.length) old e))
        (w.drew.alloc (.cells ((l.map f).toArray ++ (m.map f).toArray ++ Builtin.zeroCells z.cells (grownCap w (l.length + m.length) old e - (l.length + m.length))) e)) →
        Wr P (Builtin.append_ #[t, t] ty #[.slice sb l.length sc, .slice (some a) m.length xc]) (.one (.at .sl)) k w := by
      intro old hrun
      refine ⟨⟨some ⟨w.heap.size, 0, none⟩, _, _⟩, _, hrun, hk _ _ ⟨by simp, ?_⟩ ?_ (fun b hb => .inr ?_) (.inl ((Ex.drew w).trans (Ex.alloc w.drew _)))⟩
      · have hxs : (l.map f).toArray ++ (m.map f).toArray = ((l ++ m).map f).toArray := by simp
        rw [hxs]
        exact ownsRow_grown (w := w.drew) hbase (by simp) (hge old) (hle old) ((size_zeroCells _ _).trans (by rw [hz]; exact Nat.mul_one _))
      · exact ((Ex.drew w).trans (Ex.alloc w.drew _)).weak (fun _ _ h => h.elim)
      · obtain ⟨a', ha', hb'⟩ := hb
        cases ha'; exact Nat.le_of_eq hb'
    rcases hown.2.2 with ⟨e1, e2⟩ | ⟨g, cap, cur, e1, hbg, hg, hnc, hcm, hcs, htake⟩
    · have hl : l = [] := List.eq_nil_of_length_eq_zero e2
      subst hl
      cases e1
      refine fin 0 ?_
      have := run_append_nil (P := P) w t ty e i z ht hi0 hz0 a m.length xc (m.map f) (by simp [hs0]) (hnews a rfl) hmpos (by simp at h63; omega) (by simp at hbytes; omega)
      simpa using this
    · cases e1
      by_cases hroom : l.length + m.length ≤ sc
      · have hfit : l.length * i.size + (m.map f).length ≤ cur.size := by rw [hs0, hcs, Nat.mul_one, Nat.mul_one, List.length_map]; exact hroom
        have hrun := run_append_room (P := P) w t ty e i ht hi0 g l.length sc cur hg a m.length xc (m.map f) (by simp [hs0]) (hnews a rfl) hu1 hroom hfit
        refine ⟨⟨some ⟨g, 0, none⟩, _, sc⟩, _, hrun, hk _ _ ⟨by simp, by simp, .inr ⟨g, sc, _, rfl, hbg, setRow_heap w g cur _ e _ hg, hroom, hcm, ?_, ?_⟩⟩ ?_ (fun b hb => .inl hb) (.inr ⟨rfl, rfl⟩)⟩
        · simp only [hs0, Nat.mul_one, List.size_toArray, List.length_append, List.length_take, List.length_drop, Array.length_toList, List.length_map] at hcs ⊢
          omega
        · simp only [hs0, Nat.mul_one] at htake ⊢
          rw [htake]
          simp only [List.map_append, List.append_assoc]
          rw [show l.length + m.length = (List.map f l ++ List.map f m).length by simp, ← List.append_assoc]
          exact List.take_left
        · exact (Mo.setRow w g _).weak (fun b _ hb => ⟨_, rfl, hb.symm⟩)
      · refine fin sc ?_
        have holds : ∀ j u, (l.map f)[j]? = some u → w.cell? ((⟨g, 0, none⟩ : Addr).add j) = some u := hown.2.cells (g := g) rfl
        exact run_append_grow (P := P) w t ty e i z ht hi0 hz0 ⟨g, 0, none⟩ l.length sc (l.map f) (by simp [hs0]) holds a m.length xc (m.map f) (by simp [hs0]) (hnews a rfl) (by omega) (by omega) (growslice_fits (by omega) hbytes)
end
theorem Own.kept {α : Type} {f : α → Value} {e e2 : TypeId} {base base2 : Nat} {w w' : World} {s s' s2 : Sl} {l m l2 : List α} (ho : Own f e base w s l) (ho' : Own f e base w' s' (l ++ m)) (hm : Mo (SlIn s) w w') (hor : Ex w w' ∨ s'.base = s.base ∧ s'.cap = s.cap)
    (h2 : Own f e2 base2 w s2 l2) (hle : ∀ b, SlIn s2 b → SlIn s b → l2.length ≤ l.length) : Own f e2 base2 w' s2 l2 := by
  rcases hor with hx | ⟨hb, hc⟩
  · exact h2.ex hx
  by_cases h0 : l2 = []
  · subst h0
    rcases h2.2.2 with ⟨q1, q2⟩ | ⟨g, cap, cur, q1, q2, q3, q4, q5, q6, q7⟩
    · exact ⟨h2.1, h2.2.1, .inl ⟨q1, q2⟩⟩
    · by_cases hg : SlIn s g
      · have hpos : 0 < (l ++ m).length ∨ l ++ m = [] := by
          rcases Nat.eq_zero_or_pos (l ++ m).length with h | h
          · exact .inr (List.eq_nil_of_length_eq_zero h)
          · exact .inl h
        obtain ⟨a, ha, hag⟩ := hg
        have hs2 := h2.2.2
        rcases ho'.2.2 with ⟨p1, p2⟩ | ⟨g', cap', cur', p1, p2, p3, p4, p5, p6, p7⟩
        · injection p1 with p1
          rw [hb, ha] at p1
          cases p1
        · injection p1 with p1 _ p1c
          rw [hb, ha] at p1
          cases p1
          have hag : g' = g := hag
          subst hag
          rcases ho.2.2 with ⟨r1, _⟩ | ⟨g3, cap3, cur3, r1, r2, r3, r4, r5, r6, r7⟩
          · injection r1 with r1
            rw [ha] at r1
            cases r1
          · injection r1 with r1 _ r1c
            rw [ha] at r1
            cases r1
            rw [q3] at r3
            cases r3
            refine ⟨h2.1, h2.2.1, .inr ⟨g', cap, cur', q1, q2, p3, q4, q5, ?_, ?_⟩⟩
            · rw [p6, ← p1c, hc, r1c, ← r6, q6]
            · have hn : s2.len = 0 := h2.1
              rw [hn]; simp
      · exact h2.mo hm (fun b hb' hs => by
          injection q1 with q1
          obtain ⟨a, ha, hab⟩ := hb'
          rw [q1] at ha
          cases ha
          have : g = b := hab
          subst this
          exact hg hs)
  · have hpos : 0 < l2.length := List.length_pos_iff.2 h0
    obtain ⟨g, cs, q1, q2, q3, q4, q5, q6, q7, q8⟩ := h2.inv hpos
    by_cases hg : SlIn s g
    · have hll := hle g ⟨_, q1, rfl⟩ hg
      obtain ⟨g1, cs1, r1, r2, r3, r4, r5, r6, r7, r8⟩ := ho.inv (by omega)
      obtain ⟨g2, cs2, p1, p2, p3, p4, p5, p6, p7, p8⟩ := ho'.inv (by rw [List.length_append]; omega)
      obtain ⟨a, ha, hag⟩ := hg
      rw [r1] at ha
      cases ha
      have hag : g1 = g := hag
      subst hag
      rw [hb, r1] at p1
      cases p1
      have he : cs = cs1 := by
        unfold Has at q3 r3
        rw [q3] at r3
        have := Option.some.inj r3
        injection this with h1 _ _
        simpa using h1
      have hte : e2 = e := by
        unfold Has at q3 r3
        rw [q3] at r3
        have := Option.some.inj r3
        injection this
      subst he hte
      refine Own.mk q1 q2 p3 q4 q5 q6 (by rw [p7, hc, ← r7, q7]) ?_
      have e1 : cs2.take l.length = l.map f := by
        have := congrArg (List.take l.length) p8
        rw [List.take_take, Nat.min_eq_left (by rw [List.length_append]; omega), List.map_append] at this
        rw [this]
        have hl : l.length = (l.map f).length := by simp
        rw [hl, List.take_left]
      have e2 : cs2.take l2.length = (cs2.take l.length).take l2.length := by rw [List.take_take, Nat.min_eq_left hll]
      have e3 : cs.take l2.length = (cs.take l.length).take l2.length := by rw [List.take_take, Nat.min_eq_left hll]
      rw [e2, e1, ← r8, ← e3, q8]
    · exact h2.mo hm (fun b hb' hs => by
        obtain ⟨a, ha, hab⟩ := hb'
        rw [q1] at ha
        cases ha
        have : g = b := hab
        subst this
        exact hg hs)
/-! ### A list of lists in blocks of its own -/
/-- s is a list of lists: its own block and each row's lie in [lo, hi), all apart -/
structure NestIn {α : Type} (f : α → Value) (e eo : TypeId) (lo hi : Nat) (w : World) (s : Sl) (ss : List Sl) (ls : List (List α)) : Prop where
  out : Own slv eo lo w s ss
  len : ss.length = ls.length
  row : ∀ (i : Nat) (s' : Sl) (l : List α), ss[i]? = some s' → ls[i]? = some l → Own f e lo w s' l
  apart : ∀ (i j : Nat) (si sj : Sl) (b : Nat), ss[i]? = some si → ss[j]? = some sj → i ≠ j → SlIn si b → ¬ SlIn sj b
  sep : ∀ (i : Nat) (si : Sl) (b : Nat), ss[i]? = some si → SlIn si b → ¬ SlIn s b
  top : ∀ b, SlIn s b → b < hi
  tops : ∀ (i : Nat) (si : Sl) (b : Nat), ss[i]? = some si → SlIn si b → b < hi
theorem NestIn.of {α : Type} {f : α → Value} {e eo : TypeId} {lo : Nat} {w : World} {s : Sl} {ls : List (List α)} (h : NestOwn f e eo lo w s ls) : ∃ ss, NestIn f e eo lo w.heap.size w s ss ls := by
  obtain ⟨ss, h1, h2, h3, h4, h5⟩ := h
  refine ⟨ss, h1, h2, h3, h4, h5, fun b hb => (h1.base b hb).2, fun i si b hi hb => ?_⟩
  have hil : i < ls.length := by rw [← h2]; exact (List.getElem?_eq_some_iff.1 hi).1
  exact ((h3 i si _ hi (List.getElem?_eq_getElem hil)).base b hb).2
theorem NestIn.mo {α : Type} {f : α → Value} {e eo : TypeId} {lo hi : Nat} {X : Nat → Prop} {w w' : World} {s : Sl} {ss : List Sl} {ls : List (List α)} (h : NestIn f e eo lo hi w s ss ls) (k : Mo X w w') (hx : ∀ b, lo ≤ b → b < hi → ¬ X b) : NestIn f e eo lo hi w' s ss ls :=
  ⟨h.out.mo k (fun b hb => hx b (h.out.base b hb).1 (h.top b hb)), h.len, fun i s' l hs hl => (h.row i s' l hs hl).mo k (fun b hb => hx b ((h.row i s' l hs hl).base b hb).1 (h.tops i s' b hs hb)), h.apart, h.sep, h.top, h.tops⟩
theorem NestIn.ex {α : Type} {f : α → Value} {e eo : TypeId} {lo hi : Nat} {w w' : World} {s : Sl} {ss : List Sl} {ls : List (List α)} (h : NestIn f e eo lo hi w s ss ls) (k : Ex w w') : NestIn f e eo lo hi w' s ss ls := h.mo k (fun _ _ _ => id)
theorem NestIn.low {α : Type} {f : α → Value} {e eo : TypeId} {lo hi : Nat} {w : World} {s : Sl} {ss : List Sl} {ls : List (List α)} (h : NestIn f e eo lo hi w s ss ls) {i : Nat} {si : Sl} {b : Nat} (hi' : ss[i]? = some si) (hb : SlIn si b) : lo ≤ b ∧ b < hi := by
  have hil : i < ls.length := by rw [← h.len]; exact (List.getElem?_eq_some_iff.1 hi').1
  exact ⟨((h.row i si _ hi' (List.getElem?_eq_getElem hil)).base b hb).1, h.tops i si b hi' hb⟩
theorem NestIn.nest {α : Type} {f : α → Value} {e eo : TypeId} {lo hi : Nat} {w : World} {s : Sl} {ss : List Sl} {ls : List (List α)} (h : NestIn f e eo lo hi w s ss ls) : Nest f (fun b => lo ≤ b ∧ b < hi) w s ls :=
  ⟨ss, h.out.rds, h.len, fun a ha => ⟨(h.out.base _ (slin_of ha)).1, h.top _ (slin_of ha)⟩, fun i s' l hs hl => ⟨(h.row i s' l hs hl).rds, fun a ha => h.low hs (slin_of ha)⟩⟩
/-- one row's content changes, all else stays -/
theorem NestIn.set {α : Type} {f : α → Value} {e eo : TypeId} {lo hi : Nat} {w w' : World} {s : Sl} {ss : List Sl} {ls : List (List α)} {i : Nat} {si : Sl} {l : List α} (h : NestIn f e eo lo hi w s ss ls) (hi' : ss[i]? = some si) (ho : Own f e lo w' si l) (k : Mo (SlIn si) w w') : NestIn f e eo lo hi w' s ss (ls.set i l) := by
  refine ⟨h.out.mo k (fun b hb hb' => h.sep i si b hi' hb' hb), by simp [h.len], fun j s' m hs hm => ?_, h.apart, h.sep, h.top, h.tops⟩
  rw [List.getElem?_set] at hm
  split at hm
  · rename_i hij
    subst hij
    rw [hi'] at hs
    cases hs
    have hil : i < ls.length := by rw [← h.len]; exact (List.getElem?_eq_some_iff.1 hi').1
    rw [if_pos hil] at hm
    cases hm
    exact ho
  · rename_i hij
    exact (h.row j s' m hs hm).mo k (fun b hb hb' => h.apart j i s' si b hs hi' (fun e => hij e.symm) hb hb')
end Go.Cu
