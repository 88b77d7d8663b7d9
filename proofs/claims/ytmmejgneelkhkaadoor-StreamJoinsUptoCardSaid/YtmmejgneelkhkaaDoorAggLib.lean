/- Slices whose elements are structs of several cells: read, made, appended to. -/
import Derived.Test.YtmmejgneelkhkaaDoorStepLib
set_option linter.all false
namespace Go.Cu
open Go Go.RowKit
theorem encAts_len : ∀ (l : List At) (x : Ats l), (encAts l x).length = l.length
  | [], _ => rfl
  | a :: r, x => by simp [encAts, encAts_len r]
theorem flat_len {ats : List At} : ∀ l : List (Ats ats), (l.flatMap (encAts ats)).length = l.length * ats.length
  | [] => by simp
  | x :: l => by rw [List.flatMap_cons, List.length_append, encAts_len, flat_len l, List.length_cons, Nat.add_mul]; omega
theorem flat_get {ats : List At} : ∀ (l : List (Ats ats)) (i j : Nat) (x : Ats ats), l[i]? = some x → j < ats.length → (l.flatMap (encAts ats))[i * ats.length + j]? = (encAts ats x)[j]?
  | y :: l, 0, j, x, h, hj => by
    simp only [List.getElem?_cons_zero, Option.some.injEq] at h
    subst h
    rw [List.flatMap_cons, Nat.zero_mul, Nat.zero_add, List.getElem?_append_left (by rw [encAts_len]; exact hj)]
  | y :: l, i + 1, j, x, h, hj => by
    simp only [List.getElem?_cons_succ] at h
    rw [List.flatMap_cons, List.getElem?_append_right (by rw [encAts_len, Nat.add_mul]; omega), encAts_len, Nat.add_mul, show i * ats.length + 1 * ats.length + j - ats.length = i * ats.length + j by omega]
    exact flat_get l i j x h hj
/-- a slice of structs reads as a list -/
def RdA (ats : List At) (w : World) (s : Sl) (l : List (Ats ats)) : Prop :=
  s.len = l.length ∧ s.len ≤ s.cap ∧ ∀ (i : Nat) (x : Ats ats), l[i]? = some x → ∃ a, s.base = some a ∧ ∀ (j : Nat) v, (encAts ats x)[j]? = some v → w.cell? ((a.add (i * ats.length)).add j) = some v
theorem RdA.mo {ats : List At} {X : Nat → Prop} {w w' : World} {s : Sl} {l : List (Ats ats)} (h : RdA ats w s l) (k : Mo X w w') (hx : ∀ a, s.base = some a → ¬ X a.block) : RdA ats w' s l :=
  ⟨h.1, h.2.1, fun i x hi => by
    obtain ⟨a, ha, hc⟩ := h.2.2 i x hi
    exact ⟨a, ha, fun j v hj => k.cell (hc j v hj) (by rw [Addr.add_block, Addr.add_block]; exact hx a ha)⟩⟩
theorem RdA.ex {ats : List At} {w w' : World} {s : Sl} {l : List (Ats ats)} (h : RdA ats w s l) (k : Ex w w') : RdA ats w' s l := h.mo k (fun _ _ => id)
theorem RdA.nil (ats : List At) (w : World) : RdA ats w ⟨none, 0, 0⟩ [] := ⟨rfl, Nat.le_refl _, fun i x h => (by simp at h)⟩
section
variable {P : Program}
theorem Pu_idxA {ats : List At} {t e : TypeId} {s : Sl} {l : List (Ats ats)} {ik : IntKind} {i : Int} {k : Addr → World → Prop} {w : World} (hr : RdA ats w s l) (ht : P.underlying t = some (.slice e)) (hs : sizeIs P e ats.length = true) (h0 : 0 ≤ i) (h1 : i < l.length)
    (hk : ∀ a x, l[i.toNat]? = some x → (∀ (j : Nat) v, (encAts ats x)[j]? = some v → w.cell? (a.add j) = some v) → (∃ b, s.base = some b ∧ b.block = a.block) → k a w) : Pu P (Instr.indexAt t (.slice s.base s.len s.cap) (.int ik i)) (.one (.at .addr)) k w := by
  have hlt : i.toNat < l.length := by omega
  obtain ⟨a, ha, hc⟩ := hr.2.2 i.toNat _ (List.getElem?_eq_getElem hlt)
  exact ⟨a.add (i.toNat * ats.length), fun w' => run_indexAt (P := P) (ik := ik) (w := w') ht hs ha h0 (by have := hr.1; omega), hk _ _ (List.getElem?_eq_getElem hlt) hc ⟨a, ha, (Addr.add_block a _).symm⟩⟩
theorem Rd_agg {ats : List At} {t : TypeId} {a : Addr} {x : Ats ats} {k : Ats ats → World → Prop} {w : World} (h : isAggN P t ats.length = true) (hc : ∀ (j : Nat) v, (encAts ats x)[j]? = some v → w.cell? (a.add j) = some v) (hk : k x w) :
    Rd P (Instr.loadAt t (.pointer (some a))) (.one (.agg ats)) k w := ⟨x, run_load_agg (by rw [encAts_len]; exact h) hc, hk⟩
end
/-! ### One's own -/
def OwnA (ats : List At) (e : TypeId) (base : Nat) (w : World) (s : Sl) (l : List (Ats ats)) : Prop :=
  s.len = l.length ∧ w.ownsRow base e ats.length (.slice s.base s.len s.cap) s.len (l.flatMap (encAts ats))
theorem OwnA.nil (ats : List At) (e : TypeId) (base : Nat) (w : World) : OwnA ats e base w ⟨none, 0, 0⟩ [] := ⟨rfl, World.ownsRow_nil w base e _⟩
theorem OwnA.base {ats : List At} {e : TypeId} {base : Nat} {w : World} {s : Sl} {l : List (Ats ats)} (h : OwnA ats e base w s l) : ∀ b, SlIn s b → base ≤ b ∧ b < w.heap.size := by
  intro b ⟨a, ha, hb⟩
  exact h.2.lt b (by simp [Value.ownBlock, ha, hb])
theorem OwnA.rda {ats : List At} {e : TypeId} {base : Nat} {w : World} {s : Sl} {l : List (Ats ats)} (h : OwnA ats e base w s l) : RdA ats w s l := by
  obtain ⟨h1, h2⟩ := h
  obtain ⟨sb, sl, sc⟩ := s
  simp only at h1 h2
  refine ⟨h1, ?_, fun i x hi => ?_⟩
  · rcases h2.2 with ⟨e, _⟩ | ⟨g, cap, cur, e, _, _, hc, _⟩
    · cases e; exact Nat.le_refl _
    · cases e; exact hc
  · rcases h2.2 with ⟨e, e'⟩ | ⟨g, cap, cur, e, r⟩
    · cases e
      have : l = [] := List.eq_nil_of_length_eq_zero (by omega)
      subst this; simp at hi
    · cases e
      refine ⟨_, rfl, fun j v hj => ?_⟩
      have hjl : j < ats.length := by have := (List.getElem?_eq_some_iff.1 hj).1; rwa [encAts_len] at this
      rw [Addr.add_add]
      exact h2.cells (g := g) rfl _ v (by rw [flat_get l i j x hi hjl]; exact hj)
theorem OwnA.mo {ats : List At} {e : TypeId} {base : Nat} {X : Nat → Prop} {w w' : World} {s : Sl} {l : List (Ats ats)} (h : OwnA ats e base w s l) (k : Mo X w w') (hx : ∀ b, SlIn s b → ¬ X b) : OwnA ats e base w' s l := by
  refine ⟨h.1, h.2.1, ?_⟩
  rcases h.2.2 with h2 | ⟨g, cap, cur, e1, hb, hg, r⟩
  · exact .inl h2
  · refine .inr ⟨g, cap, cur, e1, hb, ?_, r⟩
    have hlt : g < w.heap.size := by
      rcases Nat.lt_or_ge g w.heap.size with h' | h'
      · exact h'
      · rw [Array.getElem?_eq_none h'] at hg; cases hg
    rw [k.keep g hlt (hx g ⟨⟨g, 0, none⟩, by injection e1, rfl⟩)]
    exact hg
theorem OwnA.ex {ats : List At} {e : TypeId} {base : Nat} {w w' : World} {s : Sl} {l : List (Ats ats)} (h : OwnA ats e base w s l) (k : Ex w w') : OwnA ats e base w' s l := h.mo k (fun _ _ => id)
theorem OwnA.weak {ats : List At} {e : TypeId} {base base' : Nat} {w : World} {s : Sl} {l : List (Ats ats)} (h : OwnA ats e base w s l) (hb : base' ≤ base) : OwnA ats e base' w s l := by
  refine ⟨h.1, h.2.1, ?_⟩
  rcases h.2.2 with h2 | ⟨g, cap, cur, e1, hb', r⟩
  · exact .inl h2
  · exact .inr ⟨g, cap, cur, e1, Nat.le_trans hb hb', r⟩
theorem ownsRow_grownA {w : World} {base n cap size : Nat} {e : TypeId} {xs : List Value} {rest : Array Value} (hb : base ≤ w.heap.size) (hn : xs.length = n * size) (hc : n ≤ cap) (hm : cap ≤ maxLen) (hr : rest.size = (cap - n) * size) :
    (w.alloc (.cells (xs.toArray ++ rest) e)).ownsRow base e size (.slice (some ⟨w.heap.size, 0, none⟩) n cap) n xs := by
  refine ⟨hn, .inr ⟨w.heap.size, cap, _, rfl, hb, heap_alloc_new w _, hc, hm, ?_, ?_⟩⟩
  · simp [hn, hr, ← Nat.add_mul]; congr 1; omega
  · rw [← hn]; simp
theorem OwnA.fresh {ats : List At} {e : TypeId} {base : Nat} {w : World} (l : List (Ats ats)) (hb : base ≤ w.heap.size) (hl : l.length ≤ 140737488355328) :
    OwnA ats e base (w.alloc (.cells (l.flatMap (encAts ats)).toArray e)) ⟨some ⟨w.heap.size, 0, none⟩, l.length, l.length⟩ l := by
  refine ⟨rfl, ?_⟩
  have := ownsRow_grownA (w := w) (base := base) (n := l.length) (cap := l.length) (size := ats.length) (e := e) (xs := l.flatMap (encAts ats)) (rest := #[]) hb (flat_len l) (Nat.le_refl _) (by show _ ≤ 9223372036854775807; omega) (by simp)
  simpa using this
section
variable {P : Program}
theorem Wr_litA {ats : List At} {e : TypeId} {base : Nat} {s : Sem Value} {k : Sl → World → Prop} {w : World} (l : List (Ats ats))
    (h : s.run P w = .ok (.slice (some ⟨w.heap.size, 0, none⟩) l.length l.length) (w.alloc (.cells (l.flatMap (encAts ats)).toArray e))) (hb : base ≤ w.heap.size) (hl : l.length ≤ 140737488355328)
    (hk : ∀ s' w', OwnA ats e base w' s' l → Ex w w' → (∀ b, SlIn s' b → b = w.heap.size) → k s' w') : Wr P s (.one (.at .sl)) k w :=
  ⟨⟨some ⟨w.heap.size, 0, none⟩, l.length, l.length⟩, _, h, hk _ _ (OwnA.fresh l hb hl) (Ex.alloc w _) (fun b hb => hb.fresh)⟩
/-- append to a slice of structs of one's own -/
theorem Wr_appendA {ats : List At} {t ty e : TypeId} {base : Nat} {s x : Sl} {l m : List (Ats ats)} {z : Value} {bytes : Nat} {k : Sl → World → Prop} {w : World}
    (ht : P.underlying t = some (.slice e)) (hi : (P.info? e).map (fun i => (i.zero, i.size, i.bytes)) = some (some z, ats.length, bytes)) (hz : z.cells.size = ats.length)
    (hown : OwnA ats e base w s l) (hr : RdA ats w x m) (h1 : ∀ (y : Ats ats), ∀ u ∈ encAts ats y, u.oneCell' = true) (h63 : l.length + m.length ≤ 140737488355328) (hbytes : (l.length + m.length) * bytes ≤ 140737488355328) (hbase : base ≤ w.heap.size)
    (hk : ∀ s' w', OwnA ats e base w' s' (l ++ m) → Mo (SlIn s) w w' → (∀ b, SlIn s' b → SlIn s b ∨ w.heap.size ≤ b) → k s' w') :
    Wr P (Builtin.append_ #[t, t] ty #[.slice s.base s.len s.cap, .slice x.base x.len x.cap]) (.one (.at .sl)) k w := by
  obtain ⟨i, hi0, hz0, hs0, hb0⟩ := info_parts hi
  subst hb0
  have hml : maxLen = 9223372036854775807 := rfl
  obtain ⟨sb, sl, sc⟩ := s
  obtain ⟨xb, xl, xc⟩ := x
  have hsl : sl = l.length := hown.1
  have hxl : xl = m.length := hr.1
  have hcap : sl ≤ sc := hown.rda.2.1
  subst hsl hxl
  have hnews : ∀ a, xb = some a → ∀ j u, (m.flatMap (encAts ats))[j]? = some u → w.cell? (a.add j) = some u := by
    intro a ha j u hj
    have hjl : j < m.length * ats.length := by have := (List.getElem?_eq_some_iff.1 hj).1; rwa [flat_len] at this
    have hk0 : 0 < ats.length := by
      rcases Nat.eq_zero_or_pos ats.length with h | h
      · rw [h, Nat.mul_zero] at hjl; omega
      · exact h
    have hq : j / ats.length < m.length := Nat.div_lt_of_lt_mul (by rw [Nat.mul_comm]; exact hjl)
    have hje : j / ats.length * ats.length + j % ats.length = j := by rw [Nat.mul_comm]; exact Nat.div_add_mod j ats.length
    have hmod := Nat.mod_lt j hk0
    have hf := flat_get m (j / ats.length) (j % ats.length) _ (List.getElem?_eq_getElem hq) hmod
    rw [hje, hj] at hf
    obtain ⟨a', ha', hc⟩ := hr.2.2 (j / ats.length) _ (List.getElem?_eq_getElem hq)
    simp only [ha] at ha'; cases ha'
    have := hc (j % ats.length) u hf.symm
    rwa [Addr.add_add, hje] at this
  have hu1 : ∀ u ∈ m.flatMap (encAts ats), u.oneCell' = true := fun u hu => by obtain ⟨y, _, hy⟩ := List.mem_flatMap.1 hu; exact h1 y u hy
  have hnone : xb = none → m = [] := fun hx => by
    cases m with
    | nil => rfl
    | cons y r => obtain ⟨a, ha, _⟩ := hr.2.2 0 y rfl; simp only [hx] at ha; cases ha
  have same : m = [] → (Builtin.append_ #[t, t] ty #[.slice sb l.length sc, .slice xb m.length xc]).run P w = .ok (.slice sb l.length sc) w := by
    intro hm; subst hm
    have hl0 : ∀ a : Addr, (loadCells a 0).run P w = .ok #[] w := fun a => by simpa using run_loadCells_list (P := P) w a [] (by simp)
    cases sb <;> cases xb <;> simp [Builtin.append_, run_underlying ht, sizeOf, typeInfo, hi0, hs0, Builtin.lenOf, Builtin.firstCells, hcap, storeCells, hl0]
  by_cases hm : m = []
  · subst hm
    exact ⟨⟨sb, l.length, sc⟩, w, same rfl, hk _ _ (by simpa using hown) (Mo.refl _ _) (fun b hb => .inl hb)⟩
  · obtain ⟨a, rfl⟩ : ∃ a, xb = some a := by
      cases xb with
      | none => exact absurd (hnone rfl) hm
      | some a => exact ⟨a, rfl⟩
    have hmpos : 0 < m.length := List.length_pos_iff.2 hm
    have hge : ∀ old, l.length + m.length ≤ grownCap w (l.length + m.length) old e := fun old => grownCap_ge w _ old e
    have hle : ∀ old, grownCap w (l.length + m.length) old e ≤ maxLen := fun old => grownCap_le_maxLen w _ old e (by rw [hml]; omega)
    have fin : ∀ old, (Builtin.append_ #[t, t] ty #[.slice sb l.length sc, .slice (some a) m.length xc]).run P w = .ok (.slice (some ⟨w.heap.size, 0, none⟩) (l.length + m.length) (grownCap w (l.length + m.length) old e))
        (w.drew.alloc (.cells ((l.flatMap (encAts ats)).toArray ++ (m.flatMap (encAts ats)).toArray ++ Builtin.zeroCells z.cells (grownCap w (l.length + m.length) old e - (l.length + m.length))) e)) →
        Wr P (Builtin.append_ #[t, t] ty #[.slice sb l.length sc, .slice (some a) m.length xc]) (.one (.at .sl)) k w := by
      intro old hrun
      refine ⟨⟨some ⟨w.heap.size, 0, none⟩, _, _⟩, _, hrun, hk _ _ ⟨by simp, ?_⟩ ?_ (fun b hb => .inr ?_)⟩
      · have hxs : (l.flatMap (encAts ats)).toArray ++ (m.flatMap (encAts ats)).toArray = ((l ++ m).flatMap (encAts ats)).toArray := by simp
        rw [hxs]
        exact ownsRow_grownA (w := w.drew) hbase (by rw [flat_len, List.length_append]) (hge old) (hle old) ((size_zeroCells _ _).trans (by rw [hz]; rfl))
      · exact ((Ex.drew w).trans (Ex.alloc w.drew _)).weak (fun _ _ h => h.elim)
      · obtain ⟨a', ha', hb'⟩ := hb
        cases ha'; exact Nat.le_of_eq hb'
    rcases hown.2.2 with ⟨e1, e2⟩ | ⟨g, cap, cur, e1, hbg, hg, hnc, hcm, hcs, htake⟩
    · have hl : l = [] := List.eq_nil_of_length_eq_zero e2
      subst hl
      cases e1
      refine fin 0 ?_
      have := run_append_nil (P := P) w t ty e i z ht hi0 hz0 a m.length xc (m.flatMap (encAts ats)) (by rw [flat_len, hs0]) (hnews a rfl) hmpos (by simp at h63; omega) (by simp at hbytes; omega)
      simpa using this
    · cases e1
      by_cases hroom : l.length + m.length ≤ sc
      · have hmul : (l.length + m.length) * ats.length ≤ sc * ats.length := Nat.mul_le_mul_right _ hroom
        rw [Nat.add_mul] at hmul
        have hfit : l.length * i.size + (m.flatMap (encAts ats)).length ≤ cur.size := by rw [hs0, hcs, flat_len]; exact hmul
        have hrun := run_append_room (P := P) w t ty e i ht hi0 g l.length sc cur hg a m.length xc (m.flatMap (encAts ats)) (by rw [flat_len, hs0]) (hnews a rfl) hu1 hroom hfit
        refine ⟨⟨some ⟨g, 0, none⟩, _, sc⟩, _, hrun, hk _ _ ⟨by simp, by rw [flat_len, List.length_append], .inr ⟨g, sc, _, rfl, hbg, setRow_heap w g cur _ e _ hg, hroom, hcm, ?_, ?_⟩⟩ ?_ (fun b hb => .inl hb)⟩
        · simp only [hs0, List.size_toArray, List.length_append, List.length_take, List.length_drop, Array.length_toList, flat_len] at hcs ⊢
          omega
        · simp only [hs0] at htake ⊢
          rw [htake]
          simp only [List.flatMap_append, List.append_assoc]
          rw [show (l.length + m.length) * ats.length = (l.flatMap (encAts ats) ++ m.flatMap (encAts ats)).length by rw [List.length_append, flat_len, flat_len, Nat.add_mul], ← List.append_assoc]
          exact List.take_left
        · exact (Mo.setRow w g _).weak (fun b _ hb => ⟨_, rfl, hb.symm⟩)
      · refine fin sc ?_
        have holds : ∀ j u, (l.flatMap (encAts ats))[j]? = some u → w.cell? ((⟨g, 0, none⟩ : Addr).add j) = some u := hown.2.cells (g := g) rfl
        exact run_append_grow (P := P) w t ty e i z ht hi0 hz0 ⟨g, 0, none⟩ l.length sc (l.flatMap (encAts ats)) (by rw [flat_len, hs0]) holds a m.length xc (m.flatMap (encAts ats)) (by rw [flat_len, hs0]) (hnews a rfl) (by omega) (by omega) (growslice_fits (by omega) hbytes)
end
end Go.Cu
