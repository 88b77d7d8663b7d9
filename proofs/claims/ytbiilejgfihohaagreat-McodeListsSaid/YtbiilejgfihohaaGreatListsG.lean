/- A part of what the last text of this claim leans on. -/
import Derived.Test.YtbiilejgfihohaaGreatListsF
import Derived.ChangeSlices
import Derived.ChangeArms
import Derived.Deep.Slices
import Derived.Deep.DeepHandedRow
import Derived.Lib.LaidTab
import Derived.Carry
import Derived.SizedLaws
import Derived.Test.YtbiilejgfihohaaGreatRows
import Derived.WalkKit
import Derived.ProofKit
import Derived.OpenShut
set_option linter.all false
set_option maxHeartbeats 4000000
set_option maxRecDepth 100000
set_option autoImplicit false
namespace Go.Proofs.YtbiilejgfihohaaGreat
open Go Go.Cu Go.RowKit
theorem Wu_row {α : Type} {f : α → Value} {t tS e : TypeId} {g : Nat} {cs : List Value} {s : Sl} {l : List α} {ik : IntKind} {j : Nat} {x : α} {K : World → Prop} {w : World} (h : RowIn f e w g cs s l) (hj : j < l.length) (ht : (Tryz.prog).underlying tS = some (.slice e)) (hs : sizeIs Tryz.prog e 1 = true) (hst : sizeIs Tryz.prog t 1 = true)
    (h1 : (f x).oneCell' = true) (hc : (f x).cells = #[f x]) (hk : ∀ w' cs', RowIn f e w' g cs' s (l.set j x) → cs'.length = cs.length → Mo (fun b => b = g) w w' → K w') :
    Pu Tryz.prog (Instr.indexAt tS (.slice s.base s.len s.cap) (.int ik (j : Int))) (.one (.at .addr)) (fun a w1 => Wu Tryz.prog (Instr.storeAt t (.pointer (some a)) (f x)) K w1) w := by
  refine Pu_idxB h.rds ht hs (by omega) (by omega) fun b y hb hy => ?_
  have hbg : b = ⟨g, 0, none⟩ := by have := hb.symm.trans h.base; exact Option.some.inj this
  subst hbg
  rw [Int.toNat_natCast]
  have : (⟨g, 0, none⟩ : Addr).add j = ⟨g, j, none⟩ := by
    unfold Addr.add; split
    · rename_i e; rw [e]
    · simp
  rw [this]
  have hl := h.len
  have hcp := h.cap
  have hrm := h.room
  refine Wu_store (v := f x) h.has (by rw [hc]; exact hst) (fun u hu => by rw [hc] at hu; rw [show u = f x by simpa using hu]; exact h1) (by rw [hc]; show j + 1 ≤ cs.length; omega) fun w' hB hm => ?_
  rw [hc] at hB
  have hl2 : (cs.take j ++ [f x] ++ cs.drop (j + 1)).length = cs.length := by rw [List.length_append, List.length_append, List.length_take, List.length_drop, List.length_singleton]; omega
  refine hk w' (cs.take j ++ [f x] ++ cs.drop (j + 1)) ⟨h.base, hB, by rw [List.length_set]; exact h.len, h.cap, by rw [hl2]; exact h.room, h.most, ?_⟩ hl2 hm
  have e1 : cs.take j ++ [f x] ++ cs.drop (j + 1) = cs.set j (f x) := by
    rw [List.set_eq_take_append_cons_drop, if_pos (by omega), List.append_assoc]
    rfl
  rw [e1, List.length_set, List.take_set, h.cells, List.map_set]
structure ApIn {α : Type} (f : α → Value) (e : TypeId) (w : World) (F : Nat → Prop) (hs gs : List Sl) (LL MM : List (List α)) (G G' : Nat → Nat) (C C' : Nat → List Value) : Prop where
  len : hs.length = LL.length
  glen : gs.length = MM.length
  le : gs.length ≤ hs.length
  row : ∀ (i : Nat) (h : Sl) (l : List α), hs[i]? = some h → LL[i]? = some l → RowIn f e w (G i) (C i) h l
  grow : ∀ (i : Nat) (g : Sl) (m : List α), gs[i]? = some g → MM[i]? = some m → RowIn f e w (G' i) (C' i) g m
  same : ∀ i, i < gs.length → G' i = G i → C' i = C i
  pre : ∀ (i : Nat) (l m : List α), LL[i]? = some l → MM[i]? = some m → ∃ r, m = l ++ r
  dis : ∀ i j, i < hs.length → j < hs.length → i ≠ j → G i ≠ G j
  dis2 : ∀ i j, i < gs.length → j < hs.length → i ≠ j → G' i ≠ G j
  dis3 : ∀ i j, i < gs.length → j < gs.length → i ≠ j → G' i ≠ G' j
  own : ∀ i, i < hs.length → F (G i)
  own2 : ∀ i, i < gs.length → F (G' i)
def ApT {α : Type} (f : α → Value) (e : TypeId) (hs gs : List Sl) (LL MM : List (List α)) : Th :=
  ⟨fun w F => ∃ G G' C C', ApIn f e w F hs gs LL MM G G' C C', fun ⟨G, G', C, C', h⟩ m hx => ⟨G, G', C, C', { h with
    row := fun i a l h1 h2 => (h.row i a l h1 h2).mo m (hx _ (h.own i (List.getElem?_eq_some_iff.1 h1).1))
    grow := fun i a l h1 h2 => (h.grow i a l h1 h2).mo m (hx _ (h.own2 i (List.getElem?_eq_some_iff.1 h1).1)) }⟩⟩
theorem ap_write {α : Type} {f : α → Value} {t tS e : TypeId} {W0 w : World} {T : Ths} {k : Ky} {hs : List Sl} {LL : List (List α)} {h : Sl} {l : List α} {ik : IntKind} {i j : Nat} {x : α} {K : World → Prop} (hS : Sep W0 w T) (hk : T k = ApT f e hs [] LL []) (hh : hs[i]? = some h) (hl : LL[i]? = some l) (hj : j < l.length)
    (ht : (Tryz.prog).underlying tS = some (.slice e)) (hs1 : sizeIs Tryz.prog e 1 = true) (hst : sizeIs Tryz.prog t 1 = true) (h1 : (f x).oneCell' = true) (hc1 : (f x).cells = #[f x]) (hK : ∀ w', Sep W0 w' (T.up k (ApT f e hs [] (LL.set i (l.set j x)) [])) → K w') :
    Pu Tryz.prog (Instr.indexAt tS (.slice h.base h.len h.cap) (.int ik (j : Int))) (.one (.at .addr)) (fun a w1 => Wu Tryz.prog (Instr.storeAt t (.pointer (some a)) (f x)) K w1) w := by
  obtain ⟨F, ⟨G, G', C, C', a⟩, hF, hc⟩ := hS.get k hk
  have hi := (List.getElem?_eq_some_iff.1 hh).1
  have hil := (List.getElem?_eq_some_iff.1 hl).1
  refine Wu_row (a.row i h l hh hl) hj ht hs1 hst h1 hc1 fun w' cs' hr hlen hm => hK w' (hc w' _ F (hm.weak (fun b _ hb => hb ▸ a.own i hi)) ⟨G, G', fun y => if y = i then cs' else C y, C', ?_⟩ (fun b hb => .inl hb))
  refine { a with len := by rw [List.length_set]; exact a.len, row := fun y g m e1 e2 => ?_, grow := fun y g m e1 e2 => by simp at e1, same := fun y e1 => by simp at e1, pre := fun y l m e1 e2 => by simp at e2 }
  rw [List.getElem?_set] at e2
  by_cases e : i = y
  · subst e
    rw [if_pos rfl, if_pos hil] at e2
    cases e2
    rw [hh] at e1
    cases e1
    skip
    rw [if_pos rfl]
    exact hr
  · rw [if_neg e] at e2
    skip
    rw [if_neg (fun h => e h.symm)]
    exact (a.row y g m e1 e2).mo hm (a.dis y i (List.getElem?_eq_some_iff.1 e1).1 hi (fun h => e h.symm))
theorem ap_begin {α : Type} {f : α → Value} {e : TypeId} {W0 w : World} {T : Ths} {k : Ky} {hs gs : List Sl} {LL MM : List (List α)} {h : Sl} {l : List α} {i : Nat} (hS : Sep W0 w T) (hk : T k = ApT f e hs gs LL MM) (hg : gs.length = i) (hh : hs[i]? = some h) (hl : LL[i]? = some l) :
    Sep W0 w (T.up k (ApT f e hs (gs ++ [h]) LL (MM ++ [l]))) := by
  obtain ⟨F, ⟨G, G', C, C', a⟩, hF, hc⟩ := hS.get k hk
  have hi := (List.getElem?_eq_some_iff.1 hh).1
  have hM : MM.length = i := a.glen.symm.trans hg
  have last : ∀ {β : Type} (A : List β) (z : β) (y : Nat) (v : β), A.length = i → (A ++ [z])[y]? = some v → (y < i ∧ A[y]? = some v) ∨ (y = i ∧ v = z) := by
    intro β A z y v hA hv
    by_cases hy : y < i
    · rw [List.getElem?_append_left (by omega)] at hv; exact .inl ⟨hy, hv⟩
    · rw [List.getElem?_append_right (by omega), hA] at hv
      have hy2 := (List.getElem?_eq_some_iff.1 hv).1
      have hyi : y = i := by rw [List.length_singleton] at hy2; omega
      subst hyi
      rw [Nat.sub_self] at hv
      exact .inr ⟨rfl, (Option.some.inj hv).symm⟩
  refine hc w _ F (Mo.refl _ _) ⟨G, fun y => if y = i then G i else G' y, C, fun y => if y = i then C i else C' y, ?_⟩ (fun b hb => .inl hb)
  refine { a with glen := by rw [List.length_append, List.length_append, a.glen]; rfl, le := by rw [List.length_append, List.length_singleton]; omega, grow := fun y g m e1 e2 => ?_, same := fun y e1 e2 => ?_, pre := fun y l' m e1 e2 => ?_, dis2 := fun y j e1 e2 e3 => ?_, dis3 := fun y j e1 e2 e3 => ?_, own2 := fun y e1 => ?_ }
  · skip
    rcases last gs h y g hg e1 with ⟨c1, c2⟩ | ⟨rfl, rfl⟩
    · rw [if_neg (by omega), if_neg (by omega)]
      rw [List.getElem?_append_left (by omega)] at e2
      exact a.grow y g m c2 e2
    · rw [if_pos rfl, if_pos rfl]
      rcases last MM l y m hM e2 with ⟨c1, _⟩ | ⟨_, rfl⟩
      · omega
      · exact a.row y g m hh hl
  · skip
    rw [List.length_append, List.length_singleton] at e1
    by_cases hy : y = i
    · rw [if_pos hy, hy]
    · rw [if_neg hy] at e2 ⊢
      exact a.same y (by omega) e2
  · rcases last MM l y m hM e2 with ⟨c1, c2⟩ | ⟨rfl, rfl⟩
    · exact a.pre y l' m e1 c2
    · rw [hl] at e1
      cases e1
      exact ⟨[], by simp⟩
  · skip
    rw [List.length_append, List.length_singleton] at e1
    by_cases hy : y = i
    · rw [if_pos hy]; exact a.dis i j hi e2 (by omega)
    · rw [if_neg hy]; exact a.dis2 y j (by omega) e2 e3
  · skip
    rw [List.length_append, List.length_singleton] at e1 e2
    by_cases hy : y = i
    · rw [if_pos hy, if_neg (by omega)]
      exact fun h => a.dis2 j i (by omega) hi (by omega) h.symm
    · rw [if_neg hy]
      by_cases hj : j = i
      · rw [if_pos hj]; exact a.dis2 y i (by omega) hi (by omega)
      · rw [if_neg hj]; exact a.dis3 y j (by omega) (by omega) e3
  · skip
    rw [List.length_append, List.length_singleton] at e1
    by_cases hy : y = i
    · rw [if_pos hy]; exact a.own i hi
    · rw [if_neg hy]; exact a.own2 y (by omega)
theorem snocL_inv {β : Type} {A : List β} {z v : β} {i y : Nat} (hA : A.length = i) (hv : (A ++ [z])[y]? = some v) : (y < i ∧ A[y]? = some v) ∨ (y = i ∧ v = z) := by
  by_cases hy : y < i
  · rw [List.getElem?_append_left (by omega)] at hv; exact .inl ⟨hy, hv⟩
  · rw [List.getElem?_append_right (by omega), hA] at hv
    have hy2 := (List.getElem?_eq_some_iff.1 hv).1
    have hyi : y = i := by rw [List.length_singleton] at hy2; omega
    subst hyi
    rw [Nat.sub_self] at hv
    exact .inr ⟨rfl, (Option.some.inj hv).symm⟩
theorem snocL_at {β : Type} {A : List β} {z : β} {i : Nat} (hA : A.length = i) : (A ++ [z])[i]? = some z := by
  rw [List.getElem?_append_right (by omega), hA, Nat.sub_self]; rfl
theorem snocL_lt {β : Type} {A : List β} {z : β} {i y : Nat} (hA : A.length = i) (hy : y < i) : (A ++ [z])[y]? = A[y]? := List.getElem?_append_left (by omega)
theorem ap_app {α : Type} {f : α → Value} {tS e : TypeId} {z : Value} {bytes : Nat} {W0 w : World} {T : Ths} {k : Ky} {hs gs : List Sl} {LL MM : List (List α)} {g : Sl} {m : List α} {i : Nat} {K : Sl → World → Prop} (v : α) (hS : Sep W0 w T) (hk : T k = ApT f e hs (gs ++ [g]) LL (MM ++ [m])) (hgl : gs.length = i)
    (ht : (Tryz.prog).underlying tS = some (.slice e)) (hi : ((Tryz.prog).info? e).map (fun i => (i.zero, i.size, i.bytes)) = some (some z, 1, bytes)) (hz : z.cells.size = 1) (h1 : ∀ y, (f y).oneCell' = true) (hlit : ∀ w : World, (Instr.buildSlice tS 1 #[(0, f v)]).run Tryz.prog w = .ok (.slice (some ⟨w.heap.size, 0, none⟩) 1 1) (w.alloc (.cells #[f v] e)))
    (h63 : m.length + 1 ≤ 140737488355328) (hby : (m.length + 1) * bytes ≤ 140737488355328) (hK : ∀ s' w', Sep W0 w' (T.up k (ApT f e hs (gs ++ [s']) LL (MM ++ [m ++ [v]]))) → K s' w') :
    Wr Tryz.prog (Instr.buildSlice tS 1 #[(0, f v)]) (.one (.at .sl)) (fun (x18 : Sl) w19 => Wr Tryz.prog (Builtin.append_ #[tS, tS] tS #[.slice g.base g.len g.cap, .slice x18.base x18.len x18.cap]) (.one (.at .sl)) K w19) w := by
  refine Wr_lit (f := f) (e := e) (base := w.heap.size) [v] (hlit w) (Nat.le_refl _) (by simp) fun s1 w1 ho1 hx1 _ => ?_
  have hS1 := hS.exx hx1
  obtain ⟨F, ⟨G, G', C, C', a⟩, hF, hc⟩ := hS1.get k hk
  have hML : MM.length = i := by
    have := a.glen
    rw [List.length_append, List.length_append, List.length_singleton, List.length_singleton] at this
    omega
  have hgl2 : (gs ++ [g]).length = i + 1 := by rw [List.length_append, List.length_singleton, hgl]
  have hih : i < hs.length := by have := a.le; omega
  have hrow := a.grow i g m (snocL_at hgl) (snocL_at hML)
  have hFi := a.own2 i (by omega)
  have lens : ∀ s' : Sl, (gs ++ [s']).length = i + 1 := fun s' => by rw [List.length_append, List.length_singleton, hgl]
  have lenm : ∀ s' : Sl, (gs ++ [s']).length = (MM ++ [m ++ [v]]).length := fun s' => by rw [lens, List.length_append, List.length_singleton, hML]
  have hpre : ∀ (y : Nat) (l' m' : List α), LL[y]? = some l' → (MM ++ [m ++ [v]])[y]? = some m' → ∃ r, m' = l' ++ r := by
    intro y l' m' e1 e2
    rcases snocL_inv hML e2 with ⟨c1, c2⟩ | ⟨rfl, rfl⟩
    · exact a.pre y l' m' e1 (by rw [snocL_lt hML c1]; exact c2)
    · obtain ⟨r, hr⟩ := a.pre y l' m e1 (snocL_at hML)
      exact ⟨r ++ [v], by rw [hr, List.append_assoc]⟩
  refine Wr_app ht hi hz hrow ho1.rds h1 (by simp) (by simpa using h63) (by simpa using hby) (fun s' w2 cs' hr hb hcap hcl hm => hK s' w2 (hc w2 _ F (hm.weak (fun b _ hb => hb ▸ hFi)) ⟨G, G', fun y => if y = i ∧ G y = G' i then cs' else C y, fun y => if y = i then cs' else C' y, ?_⟩ (fun b hb => .inl hb)))
    (fun s' w2 cs' hr hx => hK s' w2 (hc w2 _ (fun b => F b ∨ b = w1.heap.size) (hx.weak (fun b _ hb => hb.elim)) ⟨G, fun y => if y = i then w1.heap.size else G' y, C, fun y => if y = i then cs' else C' y, ?_⟩ (fun b hb => hb.elim .inl (fun e => .inr ⟨by omega, by rw [e]; exact hr.has.lt⟩))))
  · refine { a with glen := lenm s', le := by rw [lens]; omega, row := fun y h l e1 e2 => ?_, grow := fun y h l e1 e2 => ?_, same := fun y e1 e2 => ?_, pre := hpre, dis2 := fun y j e1 => a.dis2 y j (by rw [lens] at e1; omega), dis3 := fun y j e1 e2 => a.dis3 y j (by rw [lens] at e1; omega) (by rw [lens] at e2; omega), own2 := fun y e1 => a.own2 y (by rw [lens] at e1; omega) }
    · have hyl := (List.getElem?_eq_some_iff.1 e1).1
      have old := a.row y h l e1 e2
      by_cases hy : y = i ∧ G y = G' i
      · rw [if_pos hy]
        obtain ⟨rfl, hG⟩ := hy
        obtain ⟨r, hr2⟩ := a.pre y l m e2 (snocL_at hML)
        rw [hG]
        rw [hr2, List.append_assoc] at hr
        refine hr.short (by rw [old.base, hr.base, hG]) old.len old.cap ?_ old.most
        have := a.same y (by omega) hG.symm
        rw [hcl, this]
        exact old.room
      · rw [if_neg hy]
        refine old.mo hm (fun hG => ?_)
        by_cases e : y = i
        · exact hy ⟨e, hG⟩
        · exact a.dis2 i y (by omega) hyl (fun e' => e e'.symm) hG.symm
    · rcases snocL_inv hgl e1 with ⟨c1, c2⟩ | ⟨rfl, rfl⟩
      · rw [if_neg (by omega)]
        rw [snocL_lt hML c1] at e2
        exact (a.grow y h l (by rw [snocL_lt hgl c1]; exact c2) (by rw [snocL_lt hML c1]; exact e2)).mo hm (a.dis3 y i (by omega) (by omega) (by omega))
      · rw [if_pos rfl]
        rw [snocL_at hML] at e2
        cases e2
        exact hr
    · rw [lens] at e1
      by_cases hy : y = i
      · rw [if_pos hy, if_pos ⟨hy, by rw [← e2, hy]⟩]
      · rw [if_neg hy, if_neg (fun h => hy h.1)]
        exact a.same y (by omega) e2
  · have hlt : ∀ b, F b → b < w1.heap.size := fun b hb => (hF b hb).2
    refine { a with glen := lenm s', le := by rw [lens]; omega, row := fun y h l e1 e2 => (a.row y h l e1 e2).ex hx, grow := fun y h l e1 e2 => ?_, same := fun y e1 e2 => ?_, pre := hpre, dis2 := fun y j e1 e2 e3 => ?_, dis3 := fun y j e1 e2 e3 => ?_, own := fun y e1 => .inl (a.own y e1), own2 := fun y e1 => ?_ }
    · rcases snocL_inv hgl e1 with ⟨c1, c2⟩ | ⟨rfl, rfl⟩
      · rw [if_neg (by omega), if_neg (by omega)]
        rw [snocL_lt hML c1] at e2
        exact (a.grow y h l (by rw [snocL_lt hgl c1]; exact c2) (by rw [snocL_lt hML c1]; exact e2)).ex hx
      · rw [if_pos rfl, if_pos rfl]
        rw [snocL_at hML] at e2
        cases e2
        exact hr
    · rw [lens] at e1
      by_cases hy : y = i
      · rw [if_pos hy] at e2
        have := hlt _ (a.own y (by omega))
        omega
      · rw [if_neg hy] at e2 ⊢
        exact a.same y (by omega) e2
    · rw [lens] at e1
      by_cases hy : y = i
      · rw [if_pos hy]
        have := hlt _ (a.own j e2)
        omega
      · rw [if_neg hy]; exact a.dis2 y j (by omega) e2 e3
    · rw [lens] at e1 e2
      by_cases hy : y = i
      · rw [if_pos hy, if_neg (by omega)]
        have := hlt _ (a.own2 j (by omega))
        omega
      · rw [if_neg hy]
        by_cases hj : j = i
        · rw [if_pos hj]
          have := hlt _ (a.own2 y (by omega))
          omega
        · rw [if_neg hj]; exact a.dis3 y j (by omega) (by omega) e3
    · rw [lens] at e1
      by_cases hy : y = i
      · rw [if_pos hy]; exact .inr rfl
      · rw [if_neg hy]; exact .inl (a.own2 y (by omega))
theorem ap_row {α : Type} {f : α → Value} {e : TypeId} {W0 w : World} {T : Ths} {k : Ky} {hs gs : List Sl} {LL MM : List (List α)} {i : Nat} {h : Sl} {l : List α} (hS : Sep W0 w T) (hk : T k = ApT f e hs gs LL MM) (hh : hs[i]? = some h) (hl : LL[i]? = some l) : Rds f w h l := by
  obtain ⟨F, ⟨G, G', C, C', a⟩, _, _⟩ := hS.get k hk
  exact (a.row i h l hh hl).rds
theorem ap_grow {α : Type} {f : α → Value} {e : TypeId} {W0 w : World} {T : Ths} {k : Ky} {hs gs : List Sl} {LL MM : List (List α)} {i : Nat} {h : Sl} {l : List α} (hS : Sep W0 w T) (hk : T k = ApT f e hs gs LL MM) (hh : gs[i]? = some h) (hl : MM[i]? = some l) : Rds f w h l := by
  obtain ⟨F, ⟨G, G', C, C', a⟩, _, _⟩ := hS.get k hk
  exact (a.grow i h l hh hl).rds
theorem ap_len {α : Type} {f : α → Value} {e : TypeId} {W0 w : World} {T : Ths} {k : Ky} {hs gs : List Sl} {LL MM : List (List α)} (hS : Sep W0 w T) (hk : T k = ApT f e hs gs LL MM) : hs.length = LL.length ∧ gs.length = MM.length := by
  obtain ⟨F, ⟨G, G', C, C', a⟩, _, _⟩ := hS.get k hk
  exact ⟨a.len, a.glen⟩
theorem ap_forget {α : Type} {f : α → Value} {e : TypeId} {W0 w : World} {T : Ths} {k : Ky} {hs gs : List Sl} {LL MM : List (List α)} (hS : Sep W0 w T) (hk : T k = ApT f e hs gs LL MM) : Sep W0 w (T.up k (ApT f e hs [] LL [])) := by
  obtain ⟨F, ⟨G, G', C, C', a⟩, _, hc⟩ := hS.get k hk
  exact hc w _ F (Mo.refl _ _) ⟨G, G', C, C', { a with glen := rfl, le := Nat.zero_le _, grow := fun y g m e1 _ => by simp at e1, same := fun y e1 => by simp at e1, pre := fun y l m _ e2 => by simp at e2, dis2 := fun y j e1 => by simp at e1, dis3 := fun y j e1 => by simp at e1, own2 := fun y e1 => by simp at e1 }⟩ (fun b hb => .inl hb)
end Go.Proofs.YtbiilejgfihohaaGreat
namespace Go.Proofs.YtbiilejgfihohaaGreat
open Go Go.Cu Go.RowKit
abbrev apA (i : Nat) : F8 := BitVec.ofNat 8 (2 * i + 1)
abbrev apB (i : Nat) : F8 := BitVec.ofNat 8 (2 * i + 2)
def fillL {α : Type} (v : Nat → α) (LL : List (List α)) : List (List α) := (List.range LL.length).map (fun i => List.replicate (LL.getD i []).length (v i))
theorem fillL_at {α : Type} {v : Nat → α} {LL : List (List α)} {i : Nat} {l : List α} (hl : LL[i]? = some l) : (fillL v LL)[i]? = some (List.replicate l.length (v i)) := by
  have hi := (List.getElem?_eq_some_iff.1 hl).1
  unfold fillL
  rw [List.getElem?_map, List.getElem?_range hi]
  show some (List.replicate (LL.getD i []).length (v i)) = _
  rw [List.getD_eq_getElem?_getD, hl]; rfl
theorem fillL_len {α : Type} (v : Nat → α) (LL : List (List α)) : (fillL v LL).length = LL.length := by unfold fillL; rw [List.length_map, List.length_range]
theorem set_set' {α : Type} (l : List α) (i : Nat) (x y : α) : (l.set i x).set i y = l.set i y := by simp
theorem repl_step {α : Type} {l : List α} {j : Nat} {v : α} (hj : j < l.length) : (List.replicate j v ++ l.drop j).set j v = List.replicate (j + 1) v ++ l.drop (j + 1) := by
  rw [List.set_append_right _ _ (by rw [List.length_replicate]; exact Nat.le_refl _), List.length_replicate, Nat.sub_self, List.drop_eq_getElem_cons hj, List.set_cons_zero, List.replicate_succ', List.append_assoc]
  rfl
theorem apart_fill {W0 w : World} {T : Ths} {k : Ky} {ls : Sl} {hs : List Sl} {LL : List (List F8)} {R : Ending → World → Prop} (hS : Sep W0 w T) (hk : T k = ApT f8v 5 hs [] LL []) (hR : ∀ w' T', Sep W0 w' T' → (∀ q, q ≠ k → T' q = T q) → Rds slV w' ls hs) (hn : hs.length ≤ 1048576) (hln : ∀ l ∈ LL, l.length ≤ 1048576)
    (hK : ∀ w' T', Sep W0 w' T' → T' k = ApT f8v 5 hs [] (fillL apA LL) [] → (∀ q, q ≠ k → T' q = T q) →
      Wr Tryz.prog (Instr.makeSlice 30 (.int .i64 ((ls.len : Nat) : Int)) (.int .i64 ((ls.len : Nat) : Int))) (.one (.at .sl)) (fun (x12 : Sl) w13 => q17apart.l3 R (ls, x12, 0, ()) w13) w') :
    q17apart.l1 R (ls, 0, ()) w := by
  have hLl : hs.length = LL.length := (ap_len hS hk).1
  have hlsl := (hR w T hS (fun _ _ => rfl)).1
  unfold q17apart.l1
  refine adZ (fun st w' => ∃ (i : Nat) (T' : Ths), st = (ls, (i : Int), ()) ∧ i ≤ hs.length ∧ Sep W0 w' T' ∧ T' k = ApT f8v 5 hs [] ((fillL apA LL).take i ++ LL.drop i) [] ∧ ∀ q, q ≠ k → T' q = T q) (fun st _ => ((hs.length : Int) - st.2.1).toNat) ?_
    ⟨0, T, rfl, Nat.zero_le _, hS, by simpa using hk, fun _ _ => rfl⟩
  rintro k1 _ w1 ⟨i, T1, rfl, hi, hS1, h1, n1⟩ hk1
  unfold q17apart.b1
  dsimp only at hk1 ⊢
  refine abZ (fun hlt => ?_) (fun hge => ?_)
  · have hih : i < hs.length := by omega
    obtain ⟨h, hh⟩ := atx hih
    obtain ⟨l, hl⟩ := atx (l := LL) (i := i) (by omega)
    have hll := hln l (List.mem_of_getElem? hl)
    have hcur := stepG_get (A := fillL apA LL) (fillL_len _ _) hl
    have hcl : i < ((fillL apA LL).take i ++ LL.drop i).length := (List.getElem?_eq_some_iff.1 hcur).1
    unfold q17apart.l2
    refine adZ (fun st w' => ∃ (j : Nat) (T' : Ths), st = (ls, (i : Int), (j : Int), ()) ∧ j ≤ l.length ∧ Sep W0 w' T' ∧ T' k = ApT f8v 5 hs [] (((fillL apA LL).take i ++ LL.drop i).set i (List.replicate j (apA i) ++ l.drop j)) [] ∧ ∀ q, q ≠ k → T' q = T q) (fun st _ => ((l.length : Int) - st.2.2.1).toNat) ?_
      ⟨0, T1, rfl, Nat.zero_le _, hS1, by
        rw [h1]
        congr 1
        refine List.ext_getElem? fun y => ?_
        rw [List.getElem?_set]
        by_cases e : i = y
        · subst e; rw [if_pos rfl, if_pos hcl, hcur]; simp
        · rw [if_neg e], n1⟩
    rintro k2 _ w2 ⟨j, T2, rfl, hj, hS2, h2, n2⟩ hk2
    unfold q17apart.b2
    dsimp only at hk2 ⊢
    have hls2 := hR w2 T2 hS2 n2
    have hrow2 : (((fillL apA LL).take i ++ LL.drop i).set i (List.replicate j (apA i) ++ l.drop j))[i]? = some (List.replicate j (apA i) ++ l.drop j) := by rw [List.getElem?_set, if_pos rfl, if_pos hcl]
    have hlr : (List.replicate j (apA i) ++ l.drop j).length = l.length := by rw [List.length_append, List.length_replicate, List.length_drop]; omega
    have hhl := (ap_row hS2 h2 hh hrow2).1
    refine rd_hdr hls2 hh ?_
    rw [hhl, hlr]
    refine abZ (fun hlt3 => ?_) (fun hge3 => ?_)
    · refine rd_hdr hls2 hh ?_
      rw [acZ (x := 2 * (i : Int)) (by omega) (by omega), acZ (x := 2 * (i : Int) + 1) (by omega) (by omega), show 2 * (i : Int) + 1 = ((2 * i + 1 : Nat) : Int) by omega, u8_nat]
      refine ap_write (x := apA i) hS2 h2 hh hrow2 (j := j) (by rw [hlr]; omega) tB sB sB rfl rfl fun w3 hS3 => ?_
      rw [set_set', repl_step (by omega)] at hS3
      rw [acZ (x := (j : Int) + 1) (by omega) (by omega), show (j : Int) + 1 = ((j + 1 : Nat) : Int) by omega]
      exact hk2 _ _ ⟨j + 1, _, rfl, by omega, hS3, Ths.up_same _ _ _, fun q hq => by rw [Ths.up_ne _ _ hq]; exact n2 q hq⟩ (by dsimp only; omega)
    · have hjl : j = l.length := by omega
      subst hjl
      rw [List.drop_of_length_le (Nat.le_refl _), List.append_nil, stepG (fillL_len _ _) (fillL_at hl)] at h2
      rw [acZ (x := (i : Int) + 1) (by omega) (by omega), show (i : Int) + 1 = ((i + 1 : Nat) : Int) by omega]
      exact hk1 _ _ ⟨i + 1, T2, rfl, by omega, hS2, h2, n2⟩ (by dsimp only; omega)
  · have hie : i = hs.length := by omega
    rw [hie, hLl, List.take_of_length_le (by rw [fillL_len]; exact Nat.le_refl _), List.drop_of_length_le (Nat.le_refl _), List.append_nil] at h1
    exact hK w1 T1 hS1 h1 n1
def growL {α : Type} (v : Nat → α) (LL : List (List α)) : List (List α) := (List.range LL.length).map (fun i => LL.getD i [] ++ List.replicate 80 (v i))
theorem growL_at {α : Type} {v : Nat → α} {LL : List (List α)} {i : Nat} {l : List α} (hl : LL[i]? = some l) : (growL v LL)[i]? = some (l ++ List.replicate 80 (v i)) := by
  have hi := (List.getElem?_eq_some_iff.1 hl).1
  unfold growL
  rw [List.getElem?_map, List.getElem?_range hi]
  show some (LL.getD i [] ++ List.replicate 80 (v i)) = _
  rw [List.getD_eq_getElem?_getD, hl]; rfl
theorem growL_len {α : Type} (v : Nat → α) (LL : List (List α)) : (growL v LL).length = LL.length := by unfold growL; rw [List.length_map, List.length_range]
theorem apart_grown {W0 w : World} {T : Ths} {k kg : Ky} {ls gs : Sl} {hs : List Sl} {LL : List (List F8)} {R : Ending → World → Prop} (hkg : kg ≠ k) (hS : Sep W0 w T) (hk : T k = ApT f8v 5 hs [] LL []) (hg : T kg = Owt slV 24 gs (List.replicate hs.length ⟨none, 0, 0⟩)) (hR : ∀ w' T', Sep W0 w' T' → (∀ q, q ≠ k → q ≠ kg → T' q = T q) → Rds slV w' ls hs) (hn : hs.length ≤ 1048576) (hln : ∀ l ∈ LL, l.length ≤ 1048576)
    (hK : ∀ w' T' gl, Sep W0 w' T' → T' k = ApT f8v 5 hs gl LL (growL apB LL) → T' kg = Owt slV 24 gs gl → (∀ q, q ≠ k → q ≠ kg → T' q = T q) → q17apart.l5 R (ls, gs, 0, ()) w') :
    q17apart.l3 R (ls, gs, 0, ()) w := by
  have hLl : hs.length = LL.length := (ap_len hS hk).1
  have hlsl := (hR w T hS (fun _ _ _ => rfl)).1
  unfold q17apart.l3
  refine adZ (fun st w' => ∃ (i : Nat) (gl : List Sl) (T' : Ths), st = (ls, gs, (i : Int), ()) ∧ i ≤ hs.length ∧ gl.length = i ∧ Sep W0 w' T' ∧ T' k = ApT f8v 5 hs gl LL ((growL apB LL).take i) ∧ T' kg = Owt slV 24 gs (gl ++ (List.replicate hs.length ⟨none, 0, 0⟩).drop i) ∧ ∀ q, q ≠ k → q ≠ kg → T' q = T q) (fun st _ => ((hs.length : Int) - st.2.2.1).toNat) ?_
    ⟨0, [], T, rfl, Nat.zero_le _, rfl, hS, by simpa using hk, by simpa using hg, fun _ _ _ => rfl⟩
  rintro k1 _ w1 ⟨i, gl, T1, rfl, hi, hgl, hS1, h1, g1, n1⟩ hk1
  unfold q17apart.b3
  dsimp only at hk1 ⊢
  refine abZ (fun hlt => ?_) (fun hge => ?_)
  · have hih : i < hs.length := by omega
    obtain ⟨h, hh⟩ := atx hih
    obtain ⟨l, hl⟩ := atx (l := LL) (i := i) (by omega)
    have hll := hln l (List.mem_of_getElem? hl)
    refine rd_hdr (hR w1 T1 hS1 n1) hh ?_
    have hS2 := ap_begin hS1 h1 hgl hh hl
    have hML : ((growL apB LL).take i).length = i := by rw [List.length_take, growL_len]; omega
    unfold q17apart.l4
    refine adZ (fun st w' => ∃ (j : Nat) (g : Sl) (T' : Ths), st = (ls, gs, (i : Int), g, (j : Int), ()) ∧ j ≤ 80 ∧ Sep W0 w' T' ∧ T' k = ApT f8v 5 hs (gl ++ [g]) LL ((growL apB LL).take i ++ [l ++ List.replicate j (apB i)]) ∧ ∀ q, q ≠ k → T' q = T1 q) (fun st _ => ((80 : Int) - st.2.2.2.2.1).toNat) ?_
      ⟨0, h, _, rfl, Nat.zero_le _, hS2, by rw [Ths.up_same]; simp, fun q hq => Ths.up_ne _ _ hq⟩
    rintro k2 _ w2 ⟨j, g, T2, rfl, hj, hS2, h2, n2⟩ hk2
    unfold q17apart.b4
    dsimp only at hk2 ⊢
    refine abZ (fun hlt3 => ?_) (fun hge3 => ?_)
    · rw [acZ (x := 2 * (i : Int)) (by omega) (by omega), acZ (x := 2 * (i : Int) + 2) (by omega) (by omega), show 2 * (i : Int) + 2 = ((2 * i + 2 : Nat) : Int) by omega, u8_nat]
      refine ap_app (f := f8v) (apB i) hS2 h2 hgl tB iB rfl (fun _ => rfl) (fun w => by kernel_rfl) (by rw [List.length_append, List.length_replicate]; omega) (by rw [List.length_append, List.length_replicate]; omega) fun s' w3 hS3 => ?_
      rw [List.append_assoc, ← List.replicate_succ'] at hS3
      rw [acZ (x := (j : Int) + 1) (by omega) (by omega), show (j : Int) + 1 = ((j + 1 : Nat) : Int) by omega]
      exact hk2 _ _ ⟨j + 1, s', _, rfl, by omega, hS3, Ths.up_same _ _ _, fun q hq => by rw [Ths.up_ne _ _ hq]; exact n2 q hq⟩ (by dsimp only; omega)
    · have hj80 : j = 80 := by omega
      subst hj80
      have hg2 : T2 kg = Owt slV 24 gs (gl ++ (List.replicate hs.length ⟨none, 0, 0⟩).drop i) := (n2 _ hkg).trans g1
      have hO2 := hS2.owt hg2
      refine Wu_set (f := slV) (x := g) (i := i) hO2 (by rw [List.length_append, List.length_drop, List.length_replicate]; omega) tBB sS sS rfl rfl fun w3 hO3 hm3 => ?_
      have hS3 := hS2.grow hg2 hO3 hm3 (fun b hb => .inl hb)
      have e1 : (gl ++ (List.replicate hs.length (⟨none, 0, 0⟩ : Sl)).drop i).set i g = (gl ++ [g]) ++ (List.replicate hs.length (⟨none, 0, 0⟩ : Sl)).drop (i + 1) := by
        rw [List.set_append_right _ _ (by omega), hgl, Nat.sub_self, List.drop_eq_getElem_cons (by rw [List.length_replicate]; exact hih), List.set_cons_zero, List.append_assoc]
        rfl
      have e2 : (growL apB LL).take i ++ [l ++ List.replicate 80 (apB i)] = (growL apB LL).take (i + 1) := by
        rw [List.take_succ, growL_at hl]; rfl
      rw [e1] at hS3
      rw [e2] at h2
      rw [acZ (x := (i : Int) + 1) (by omega) (by omega), show (i : Int) + 1 = ((i + 1 : Nat) : Int) by omega]
      exact hk1 _ _ ⟨i + 1, gl ++ [g], _, rfl, by omega, by rw [List.length_append, List.length_singleton, hgl], hS3, (Ths.up_ne _ _ (fun e => hkg e.symm)).trans h2, Ths.up_same _ _ _, fun q c1 c2 => by rw [Ths.up_ne _ _ c2, n2 q c1]; exact n1 q c1 c2⟩ (by dsimp only; omega)
  · have hie : i = hs.length := by omega
    rw [hie, List.drop_of_length_le (by rw [List.length_replicate]; exact Nat.le_refl _), List.append_nil] at g1
    rw [hie, hLl, List.take_of_length_le (by rw [growL_len]; exact Nat.le_refl _)] at h1
    exact hK w1 T1 gl hS1 h1 g1 n1
theorem apart_read {W0 w : World} {T : Ths} {k kg : Ky} {ls gs : Sl} {hs gl : List Sl} {LL : List (List F8)} {R : Ending → World → Prop} (hS : Sep W0 w T) (hk : T k = ApT f8v 5 hs gl LL (growL apB LL)) (hg : T kg = Owt slV 24 gs gl) (hr : Rds slV w ls hs) (hv : ∀ (i : Nat) (l : List F8), LL[i]? = some l → ∀ x ∈ l, x = apA i) (hn : hs.length ≤ 1048576) (hln : ∀ l ∈ LL, l.length ≤ 1048576)
    (hK : ∀ w', Ex w w' → R (.returned (.bool true)) w') : q17apart.l5 R (ls, gs, 0, ()) w := by
  obtain ⟨hLl, hgm⟩ := ap_len hS hk
  rw [growL_len] at hgm
  have hlsl := hr.1
  unfold q17apart.l5
  refine adZ (fun st w' => ∃ i : Nat, st = (ls, gs, (i : Int), ()) ∧ i ≤ hs.length ∧ Ex w w') (fun st _ => ((hs.length : Int) - st.2.2.1).toNat) ?_ ⟨0, rfl, Nat.zero_le _, Ex.refl _⟩
  rintro k1 _ w1 ⟨i, rfl, hi, hx1⟩ hk1
  unfold q17apart.b5
  dsimp only at hk1 ⊢
  refine abZ (fun hlt => ?_) (fun hge => hK w1 hx1)
  have hih : i < hs.length := by omega
  obtain ⟨h, hh⟩ := atx hih
  obtain ⟨g, hgg⟩ := atx (l := gl) (i := i) (by omega)
  obtain ⟨l, hl⟩ := atx (l := LL) (i := i) (by omega)
  have hll := hln l (List.mem_of_getElem? hl)
  have hMl := growL_at (v := apB) hl
  refine rd_hdr (hr.ex hx1) hh ?_
  rw [(ap_row hS hk hh hl).1]
  unfold q17apart.l6
  refine adZ (fun st w' => ∃ j : Nat, st = (ls, gs, (i : Int), ((l.length : Nat) : Int), (j : Int), ()) ∧ j ≤ l.length + 80 ∧ Ex w w') (fun st _ => (((l.length + 80 : Nat) : Int) - st.2.2.2.2.1).toNat) ?_ ⟨0, rfl, Nat.zero_le _, hx1⟩
  rintro k2 _ w2 ⟨j, rfl, hj, hx2⟩ hk2
  unfold q17apart.b6
  dsimp only at hk2 ⊢
  have hS2 := hS.exx hx2
  have hgs := (hS2.owt hg).rds
  have hrg := ap_grow hS2 hk hgg hMl
  have hrl := ap_row hS2 hk hh hl
  have hgl := hrg.1
  rw [List.length_append, List.length_replicate] at hgl
  have next : q17apart.j1 R k1 k2 ls gs (i : Int) ((l.length : Nat) : Int) (j : Int) false w2 ∨ True := .inr trivial
  have nx : j < l.length + 80 → q17apart.j1 R k1 k2 ls gs (i : Int) ((l.length : Nat) : Int) (j : Int) false w2 := by
    intro h1
    unfold q17apart.j1
    refine Cd_f ?_
    rw [acZ (x := (j : Int) + 1) (by omega) (by omega), show (j : Int) + 1 = ((j + 1 : Nat) : Int) by omega]
    exact hk2 _ _ ⟨j + 1, rfl, by omega, hx2⟩ (by dsimp only; omega)
  have eA : IntKind.wrap .u8 (IntKind.wrap .i64 (IntKind.wrap .i64 (2 * (i : Int)) + 1)) = ((apA i).toNat : Int) := by
    rw [acZ (x := 2 * (i : Int)) (by omega) (by omega), acZ (x := 2 * (i : Int) + 1) (by omega) (by omega), show 2 * (i : Int) + 1 = ((2 * i + 1 : Nat) : Int) by omega, u8_nat]
  have eB : IntKind.wrap .u8 (IntKind.wrap .i64 (IntKind.wrap .i64 (2 * (i : Int)) + 2)) = ((apB i).toNat : Int) := by
    rw [acZ (x := 2 * (i : Int)) (by omega) (by omega), acZ (x := 2 * (i : Int) + 2) (by omega) (by omega), show 2 * (i : Int) + 2 = ((2 * i + 2 : Nat) : Int) by omega, u8_nat]
  rw [eA, eB]
  refine rd_hdr hgs hgg ?_
  rw [hgl]
  refine abZ (fun hlt3 => ?_) (fun hge3 => ?_)
  · refine abZ (fun hjl => ?_) (fun hjl => ?_)
    · obtain ⟨x, hx⟩ := atx (l := l) (i := j) (by omega)
      have hxa := hv i l hl x (List.mem_of_getElem? hx)
      subst hxa
      refine rd_hdr hgs hgg ?_
      refine rd_ent hrg (by rw [List.getElem?_append_left (by omega)]; exact hx) ?_
      refine Cd_ne (fun h => absurd rfl h) (fun _ => ?_)
      refine rd_hdr (hr.ex hx2) hh ?_
      refine rd_ent hrl hx ?_
      refine Cd_ne (fun h => absurd rfl h) (fun _ => ?_)
      refine abZ (fun h => by omega) (fun _ => nx (by omega))
    · refine abZ (fun _ => ?_) (fun h => by omega)
      refine rd_hdr hgs hgg ?_
      refine rd_ent (x := apB i) hrg (by rw [List.getElem?_append_right (by omega), List.getElem?_replicate, if_pos (by omega)]) ?_
      have : (((apB i).toNat : Int) != ((apB i).toNat : Int)) = false := by simp
      rw [this]
      exact nx (by omega)
  · rw [acZ (x := (i : Int) + 1) (by omega) (by omega), show (i : Int) + 1 = ((i + 1 : Nat) : Int) by omega]
    exact hk1 _ _ ⟨i + 1, rfl, by omega, hx2⟩ (by dsimp only; omega)
theorem fillL_all {α : Type} {v : Nat → α} {LL : List (List α)} {i : Nat} {l : List α} (h : (fillL v LL)[i]? = some l) : (∀ x ∈ l, x = v i) ∧ ∃ l', LL[i]? = some l' ∧ l.length = l'.length := by
  have hi := (List.getElem?_eq_some_iff.1 h).1
  rw [fillL_len] at hi
  obtain ⟨l', hl'⟩ := atx hi
  rw [fillL_at hl'] at h
  cases h
  exact ⟨fun x hx => (List.mem_replicate.1 hx).2, l', hl', List.length_replicate⟩
theorem apart_ok {W0 w : World} {T : Ths} {k : Ky} (kg : Ky) {ls : Sl} {hs : List Sl} {LL : List (List F8)} (hkg : kg ≠ k) (hS : Sep W0 w T) (hk : T k = ApT f8v 5 hs [] LL []) (hR : ∀ w' T', Sep W0 w' T' → (∀ q, q ≠ k → q ≠ kg → T' q = T q) → Rds slV w' ls hs) (hn : hs.length ≤ 1048576) (hln : ∀ l ∈ LL, l.length ≤ 1048576) :
    Cl Tryz.prog 25 #[.slice ls.base ls.len ls.cap] (.one (.at .bool)) (fun x w' => x = true ∧ ∃ T', Sep W0 w' T' ∧ T' k = ApT f8v 5 hs [] (fillL apA LL) [] ∧ ∀ q, q ≠ k → q ≠ kg → T' q = T q) w := by
  refine q17apart.run _ ls w ?_
  generalize hRR : (fun (e : Ending) (w' : World) => ∃ x : Bool, e = .returned ((Sh.one (.at .bool)).enc x) ∧ x = true ∧ ∃ T', Sep W0 w' T' ∧ T' k = ApT f8v 5 hs [] (fillL apA LL) [] ∧ ∀ q, q ≠ k → q ≠ kg → T' q = T q) = R
  unfold q17apart.M
  have hLl := (ap_len hS hk).1
  have hlsl := (hR w T hS (fun _ _ _ => rfl)).1
  have hfl : ∀ l ∈ fillL apA LL, l.length ≤ 1048576 := fun l hl => by
    obtain ⟨i, hi⟩ := List.mem_iff_getElem?.1 hl
    obtain ⟨_, l', h1, h2⟩ := fillL_all hi
    rw [h2]; exact hln l' (List.mem_of_getElem? h1)
  refine apart_fill hS hk (fun w' T' a1 a2 => hR w' T' a1 (fun q c1 _ => a2 q c1)) hn hln fun w1 T1 hS1 h1 n1 => ?_
  rw [hlsl]
  refine Wr_make (f := slV) (z := ⟨none, 0, 0⟩) tBB iS rfl hs.length (by omega) (by omega) rfl rfl fun gs w2 hgs hB2 hx2 => ?_
  have hO2 : Own slV 24 w1.heap.size w2 gs (List.replicate hs.length ⟨none, 0, 0⟩) := by rw [hgs]; exact own_of_has (by simp) (by omega) hB2 (Nat.le_refl _)
  have hS2 := hS1.newOwn kg hx2 hO2
  refine apart_grown hkg hS2 ((Ths.up_ne _ _ (fun e => hkg e.symm)).trans h1) (Ths.up_same _ _ _) (fun w' T' a1 a2 => hR w' T' a1 (fun q c1 c2 => (a2 q c1 c2).trans ((Ths.up_ne _ _ c2).trans (n1 q c1)))) hn hfl fun w3 T3 gl hS3 h3 g3 n3 => ?_
  have m3 : ∀ q, q ≠ k → q ≠ kg → T3 q = T q := fun q c1 c2 => (n3 q c1 c2).trans ((Ths.up_ne _ _ c2).trans (n1 q c1))
  refine apart_read hS3 h3 g3 (hR w3 T3 hS3 m3) (fun i l hl => (fillL_all hl).1) hn hfl fun w4 hx4 => ?_
  subst hRR
  exact ⟨true, rfl, rfl, _, ap_forget (hS3.exx hx4) h3, Ths.up_same _ _ _, fun q c1 c2 => by rw [Ths.up_ne _ _ c1]; exact m3 q c1 c2⟩
end Go.Proofs.YtbiilejgfihohaaGreat
namespace Go.Proofs.YtbiilejgfihohaaGreat
open Go Go.Cu Go.RowKit
theorem tII : Tryz.prog.underlying 53 = some (.slice 25) := by kernel_rfl
theorem sII : sizeIs Tryz.prog 25 1 = true := by kernel_rfl
theorem oII : isOne Tryz.prog 25 = true := by kernel_rfl
end Go.Proofs.YtbiilejgfihohaaGreat
namespace Go.Proofs.YtbiilejgfihohaaGreat
open Go Go.Cu Go.RowKit
abbrev ipA (i : Nat) : Int := -2 * (i : Int) - 1
abbrev ipB (i : Nat) : Int := -2 * (i : Int) - 2
theorem iII : (Tryz.prog.info? 25).map (fun i => (i.zero, i.size, i.bytes)) = some (some (.slice none 0 0), 1, 24) := by kernel_rfl
theorem rd_hdrI {w : World} {s : Sl} {hs : List Sl} {ik : IntKind} {i : Nat} {h : Sl} {K : Sl → World → Prop} (hr : Rds slV w s hs) (hh : hs[i]? = some h) (hk : K h w) :
    Pu Tryz.prog (Instr.indexAt 53 (.slice s.base s.len s.cap) (.int ik (i : Int))) (.one (.at .addr)) (fun a w1 => Rd Tryz.prog (Instr.loadAt 25 (.pointer (some a))) (.one (.at .sl)) K w1) w := by
  have hlt := (List.getElem?_eq_some_iff.1 hh).1
  refine Pu_idx hr tII sII (by omega) (by omega) fun a y hy hc _ => ?_
  rw [Int.toNat_natCast, hh] at hy
  cases hy
  exact Rd_one (c := .sl) (x := h) oII hc hk
theorem iapart_fill {W0 w : World} {T : Ths} {k : Ky} {ls : Sl} {hs : List Sl} {LL : List (List Int)} {R : Ending → World → Prop} (hS : Sep W0 w T) (hk : T k = ApT i64v 3 hs [] LL []) (hR : ∀ w' T', Sep W0 w' T' → (∀ q, q ≠ k → T' q = T q) → Rds slV w' ls hs) (hn : hs.length ≤ 1048576) (hln : ∀ l ∈ LL, l.length ≤ 1048576)
    (hK : ∀ w' T', Sep W0 w' T' → T' k = ApT i64v 3 hs [] (fillL ipA LL) [] → (∀ q, q ≠ k → T' q = T q) →
      Wr Tryz.prog (Instr.makeSlice 53 (.int .i64 ((ls.len : Nat) : Int)) (.int .i64 ((ls.len : Nat) : Int))) (.one (.at .sl)) (fun (x12 : Sl) w13 => q17apartInts.l3 R (ls, x12, 0, ()) w13) w') :
    q17apartInts.l1 R (ls, 0, ()) w := by
  have hLl : hs.length = LL.length := (ap_len hS hk).1
  have hlsl := (hR w T hS (fun _ _ => rfl)).1
  unfold q17apartInts.l1
  refine adZ (fun st w' => ∃ (i : Nat) (T' : Ths), st = (ls, (i : Int), ()) ∧ i ≤ hs.length ∧ Sep W0 w' T' ∧ T' k = ApT i64v 3 hs [] ((fillL ipA LL).take i ++ LL.drop i) [] ∧ ∀ q, q ≠ k → T' q = T q) (fun st _ => ((hs.length : Int) - st.2.1).toNat) ?_
    ⟨0, T, rfl, Nat.zero_le _, hS, by simpa using hk, fun _ _ => rfl⟩
  rintro k1 _ w1 ⟨i, T1, rfl, hi, hS1, h1, n1⟩ hk1
  unfold q17apartInts.b1
  dsimp only at hk1 ⊢
  refine abZ (fun hlt => ?_) (fun hge => ?_)
  · have hih : i < hs.length := by omega
    obtain ⟨h, hh⟩ := atx hih
    obtain ⟨l, hl⟩ := atx (l := LL) (i := i) (by omega)
    have hll := hln l (List.mem_of_getElem? hl)
    have hcur := stepG_get (A := fillL ipA LL) (fillL_len _ _) hl
    have hcl : i < ((fillL ipA LL).take i ++ LL.drop i).length := (List.getElem?_eq_some_iff.1 hcur).1
    unfold q17apartInts.l2
    refine adZ (fun st w' => ∃ (j : Nat) (T' : Ths), st = (ls, (i : Int), (j : Int), ()) ∧ j ≤ l.length ∧ Sep W0 w' T' ∧ T' k = ApT i64v 3 hs [] (((fillL ipA LL).take i ++ LL.drop i).set i (List.replicate j (ipA i) ++ l.drop j)) [] ∧ ∀ q, q ≠ k → T' q = T q) (fun st _ => ((l.length : Int) - st.2.2.1).toNat) ?_
      ⟨0, T1, rfl, Nat.zero_le _, hS1, by
        rw [h1]
        congr 1
        refine List.ext_getElem? fun y => ?_
        rw [List.getElem?_set]
        by_cases e : i = y
        · subst e; rw [if_pos rfl, if_pos hcl, hcur]; simp
        · rw [if_neg e], n1⟩
    rintro k2 _ w2 ⟨j, T2, rfl, hj, hS2, h2, n2⟩ hk2
    unfold q17apartInts.b2
    dsimp only at hk2 ⊢
    have hls2 := hR w2 T2 hS2 n2
    have hrow2 : (((fillL ipA LL).take i ++ LL.drop i).set i (List.replicate j (ipA i) ++ l.drop j))[i]? = some (List.replicate j (ipA i) ++ l.drop j) := by rw [List.getElem?_set, if_pos rfl, if_pos hcl]
    have hlr : (List.replicate j (ipA i) ++ l.drop j).length = l.length := by rw [List.length_append, List.length_replicate, List.length_drop]; omega
    have hhl := (ap_row hS2 h2 hh hrow2).1
    refine rd_hdrI hls2 hh ?_
    rw [hhl, hlr]
    refine abZ (fun hlt3 => ?_) (fun hge3 => ?_)
    · refine rd_hdrI hls2 hh ?_
      rw [acZ (x := -2 * (i : Int)) (by omega) (by omega), acZ (x := -2 * (i : Int) - 1) (by omega) (by omega)]
      refine ap_write (x := ipA i) hS2 h2 hh hrow2 (j := j) (by rw [hlr]; omega) tI sI sI rfl rfl fun w3 hS3 => ?_
      rw [set_set', repl_step (by omega)] at hS3
      rw [acZ (x := (j : Int) + 1) (by omega) (by omega), show (j : Int) + 1 = ((j + 1 : Nat) : Int) by omega]
      exact hk2 _ _ ⟨j + 1, _, rfl, by omega, hS3, Ths.up_same _ _ _, fun q hq => by rw [Ths.up_ne _ _ hq]; exact n2 q hq⟩ (by dsimp only; omega)
    · have hjl : j = l.length := by omega
      subst hjl
      rw [List.drop_of_length_le (Nat.le_refl _), List.append_nil, stepG (fillL_len _ _) (fillL_at hl)] at h2
      rw [acZ (x := (i : Int) + 1) (by omega) (by omega), show (i : Int) + 1 = ((i + 1 : Nat) : Int) by omega]
      exact hk1 _ _ ⟨i + 1, T2, rfl, by omega, hS2, h2, n2⟩ (by dsimp only; omega)
  · have hie : i = hs.length := by omega
    rw [hie, hLl, List.take_of_length_le (by rw [fillL_len]; exact Nat.le_refl _), List.drop_of_length_le (Nat.le_refl _), List.append_nil] at h1
    exact hK w1 T1 hS1 h1 n1
theorem iapart_grown {W0 w : World} {T : Ths} {k kg : Ky} {ls gs : Sl} {hs : List Sl} {LL : List (List Int)} {R : Ending → World → Prop} (hkg : kg ≠ k) (hS : Sep W0 w T) (hk : T k = ApT i64v 3 hs [] LL []) (hg : T kg = Owt slV 25 gs (List.replicate hs.length ⟨none, 0, 0⟩)) (hR : ∀ w' T', Sep W0 w' T' → (∀ q, q ≠ k → q ≠ kg → T' q = T q) → Rds slV w' ls hs) (hn : hs.length ≤ 1048576) (hln : ∀ l ∈ LL, l.length ≤ 1048576)
    (hK : ∀ w' T' gl, Sep W0 w' T' → T' k = ApT i64v 3 hs gl LL (growL ipB LL) → T' kg = Owt slV 25 gs gl → (∀ q, q ≠ k → q ≠ kg → T' q = T q) → q17apartInts.l5 R (ls, gs, 0, ()) w') :
    q17apartInts.l3 R (ls, gs, 0, ()) w := by
  have hLl : hs.length = LL.length := (ap_len hS hk).1
  have hlsl := (hR w T hS (fun _ _ _ => rfl)).1
  unfold q17apartInts.l3
  refine adZ (fun st w' => ∃ (i : Nat) (gl : List Sl) (T' : Ths), st = (ls, gs, (i : Int), ()) ∧ i ≤ hs.length ∧ gl.length = i ∧ Sep W0 w' T' ∧ T' k = ApT i64v 3 hs gl LL ((growL ipB LL).take i) ∧ T' kg = Owt slV 25 gs (gl ++ (List.replicate hs.length ⟨none, 0, 0⟩).drop i) ∧ ∀ q, q ≠ k → q ≠ kg → T' q = T q) (fun st _ => ((hs.length : Int) - st.2.2.1).toNat) ?_
    ⟨0, [], T, rfl, Nat.zero_le _, rfl, hS, by simpa using hk, by simpa using hg, fun _ _ _ => rfl⟩
  rintro k1 _ w1 ⟨i, gl, T1, rfl, hi, hgl, hS1, h1, g1, n1⟩ hk1
  unfold q17apartInts.b3
  dsimp only at hk1 ⊢
  refine abZ (fun hlt => ?_) (fun hge => ?_)
  · have hih : i < hs.length := by omega
    obtain ⟨h, hh⟩ := atx hih
    obtain ⟨l, hl⟩ := atx (l := LL) (i := i) (by omega)
    have hll := hln l (List.mem_of_getElem? hl)
    refine rd_hdrI (hR w1 T1 hS1 n1) hh ?_
    have hS2 := ap_begin hS1 h1 hgl hh hl
    have hML : ((growL ipB LL).take i).length = i := by rw [List.length_take, growL_len]; omega
    unfold q17apartInts.l4
    refine adZ (fun st w' => ∃ (j : Nat) (g : Sl) (T' : Ths), st = (ls, gs, (i : Int), g, (j : Int), ()) ∧ j ≤ 80 ∧ Sep W0 w' T' ∧ T' k = ApT i64v 3 hs (gl ++ [g]) LL ((growL ipB LL).take i ++ [l ++ List.replicate j (ipB i)]) ∧ ∀ q, q ≠ k → T' q = T1 q) (fun st _ => ((80 : Int) - st.2.2.2.2.1).toNat) ?_
      ⟨0, h, _, rfl, Nat.zero_le _, hS2, by rw [Ths.up_same]; simp, fun q hq => Ths.up_ne _ _ hq⟩
    rintro k2 _ w2 ⟨j, g, T2, rfl, hj, hS2, h2, n2⟩ hk2
    unfold q17apartInts.b4
    dsimp only at hk2 ⊢
    refine abZ (fun hlt3 => ?_) (fun hge3 => ?_)
    · rw [acZ (x := -2 * (i : Int)) (by omega) (by omega), acZ (x := -2 * (i : Int) - 2) (by omega) (by omega)]
      refine ap_app (f := i64v) (ipB i) hS2 h2 hgl tI iI rfl (fun _ => rfl) (fun w => by kernel_rfl) (by rw [List.length_append, List.length_replicate]; omega) (by rw [List.length_append, List.length_replicate]; omega) fun s' w3 hS3 => ?_
      rw [List.append_assoc, ← List.replicate_succ'] at hS3
      rw [acZ (x := (j : Int) + 1) (by omega) (by omega), show (j : Int) + 1 = ((j + 1 : Nat) : Int) by omega]
      exact hk2 _ _ ⟨j + 1, s', _, rfl, by omega, hS3, Ths.up_same _ _ _, fun q hq => by rw [Ths.up_ne _ _ hq]; exact n2 q hq⟩ (by dsimp only; omega)
    · have hj80 : j = 80 := by omega
      subst hj80
      have hg2 : T2 kg = Owt slV 25 gs (gl ++ (List.replicate hs.length ⟨none, 0, 0⟩).drop i) := (n2 _ hkg).trans g1
      have hO2 := hS2.owt hg2
      refine Wu_set (f := slV) (x := g) (i := i) hO2 (by rw [List.length_append, List.length_drop, List.length_replicate]; omega) tII sII sII rfl rfl fun w3 hO3 hm3 => ?_
      have hS3 := hS2.grow hg2 hO3 hm3 (fun b hb => .inl hb)
      have e1 : (gl ++ (List.replicate hs.length (⟨none, 0, 0⟩ : Sl)).drop i).set i g = (gl ++ [g]) ++ (List.replicate hs.length (⟨none, 0, 0⟩ : Sl)).drop (i + 1) := by
        rw [List.set_append_right _ _ (by omega), hgl, Nat.sub_self, List.drop_eq_getElem_cons (by rw [List.length_replicate]; exact hih), List.set_cons_zero, List.append_assoc]
        rfl
      have e2 : (growL ipB LL).take i ++ [l ++ List.replicate 80 (ipB i)] = (growL ipB LL).take (i + 1) := by
        rw [List.take_succ, growL_at hl]; rfl
      rw [e1] at hS3
      rw [e2] at h2
      rw [acZ (x := (i : Int) + 1) (by omega) (by omega), show (i : Int) + 1 = ((i + 1 : Nat) : Int) by omega]
      exact hk1 _ _ ⟨i + 1, gl ++ [g], _, rfl, by omega, by rw [List.length_append, List.length_singleton, hgl], hS3, (Ths.up_ne _ _ (fun e => hkg e.symm)).trans h2, Ths.up_same _ _ _, fun q c1 c2 => by rw [Ths.up_ne _ _ c2, n2 q c1]; exact n1 q c1 c2⟩ (by dsimp only; omega)
  · have hie : i = hs.length := by omega
    rw [hie, List.drop_of_length_le (by rw [List.length_replicate]; exact Nat.le_refl _), List.append_nil] at g1
    rw [hie, hLl, List.take_of_length_le (by rw [growL_len]; exact Nat.le_refl _)] at h1
    exact hK w1 T1 gl hS1 h1 g1 n1
theorem iapart_read {W0 w : World} {T : Ths} {k kg : Ky} {ls gs : Sl} {hs gl : List Sl} {LL : List (List Int)} {R : Ending → World → Prop} (hS : Sep W0 w T) (hk : T k = ApT i64v 3 hs gl LL (growL ipB LL)) (hg : T kg = Owt slV 25 gs gl) (hr : Rds slV w ls hs) (hv : ∀ (i : Nat) (l : List Int), LL[i]? = some l → ∀ x ∈ l, x = ipA i) (hn : hs.length ≤ 1048576) (hln : ∀ l ∈ LL, l.length ≤ 1048576)
    (hK : ∀ w', Ex w w' → R (.returned (.bool true)) w') : q17apartInts.l5 R (ls, gs, 0, ()) w := by
  obtain ⟨hLl, hgm⟩ := ap_len hS hk
  rw [growL_len] at hgm
  have hlsl := hr.1
  unfold q17apartInts.l5
  refine adZ (fun st w' => ∃ i : Nat, st = (ls, gs, (i : Int), ()) ∧ i ≤ hs.length ∧ Ex w w') (fun st _ => ((hs.length : Int) - st.2.2.1).toNat) ?_ ⟨0, rfl, Nat.zero_le _, Ex.refl _⟩
  rintro k1 _ w1 ⟨i, rfl, hi, hx1⟩ hk1
  unfold q17apartInts.b5
  dsimp only at hk1 ⊢
  refine abZ (fun hlt => ?_) (fun hge => hK w1 hx1)
  have hih : i < hs.length := by omega
  obtain ⟨h, hh⟩ := atx hih
  obtain ⟨g, hgg⟩ := atx (l := gl) (i := i) (by omega)
  obtain ⟨l, hl⟩ := atx (l := LL) (i := i) (by omega)
  have hll := hln l (List.mem_of_getElem? hl)
  have hMl := growL_at (v := ipB) hl
  refine rd_hdrI (hr.ex hx1) hh ?_
  rw [(ap_row hS hk hh hl).1]
  unfold q17apartInts.l6
  refine adZ (fun st w' => ∃ j : Nat, st = (ls, gs, (i : Int), ((l.length : Nat) : Int), (j : Int), ()) ∧ j ≤ l.length + 80 ∧ Ex w w') (fun st _ => (((l.length + 80 : Nat) : Int) - st.2.2.2.2.1).toNat) ?_ ⟨0, rfl, Nat.zero_le _, hx1⟩
  rintro k2 _ w2 ⟨j, rfl, hj, hx2⟩ hk2
  unfold q17apartInts.b6
  dsimp only at hk2 ⊢
  have hS2 := hS.exx hx2
  have hgs := (hS2.owt hg).rds
  have hrg := ap_grow hS2 hk hgg hMl
  have hrl := ap_row hS2 hk hh hl
  have hgl := hrg.1
  rw [List.length_append, List.length_replicate] at hgl
  have next : q17apartInts.j1 R k1 k2 ls gs (i : Int) ((l.length : Nat) : Int) (j : Int) false w2 ∨ True := .inr trivial
  have nx : j < l.length + 80 → q17apartInts.j1 R k1 k2 ls gs (i : Int) ((l.length : Nat) : Int) (j : Int) false w2 := by
    intro h1
    unfold q17apartInts.j1
    refine Cd_f ?_
    rw [acZ (x := (j : Int) + 1) (by omega) (by omega), show (j : Int) + 1 = ((j + 1 : Nat) : Int) by omega]
    exact hk2 _ _ ⟨j + 1, rfl, by omega, hx2⟩ (by dsimp only; omega)
  have eA : IntKind.wrap .i64 (IntKind.wrap .i64 (-2 * (i : Int)) - 1) = ipA i := by
    rw [acZ (x := -2 * (i : Int)) (by omega) (by omega), acZ (x := -2 * (i : Int) - 1) (by omega) (by omega)]
  have eB : IntKind.wrap .i64 (IntKind.wrap .i64 (-2 * (i : Int)) - 2) = ipB i := by
    rw [acZ (x := -2 * (i : Int)) (by omega) (by omega), acZ (x := -2 * (i : Int) - 2) (by omega) (by omega)]
  rw [eA, eB]
  refine rd_hdrI hgs hgg ?_
  rw [hgl]
  refine abZ (fun hlt3 => ?_) (fun hge3 => ?_)
  · refine abZ (fun hjl => ?_) (fun hjl => ?_)
    · obtain ⟨x, hx⟩ := atx (l := l) (i := j) (by omega)
      have hxa := hv i l hl x (List.mem_of_getElem? hx)
      subst hxa
      refine rd_hdrI hgs hgg ?_
      refine rd_i64 hrg (by rw [List.getElem?_append_left (by omega)]; exact hx) ?_
      refine Cd_ne (fun h => absurd rfl h) (fun _ => ?_)
      refine rd_hdrI (hr.ex hx2) hh ?_
      refine rd_i64 hrl hx ?_
      refine Cd_ne (fun h => absurd rfl h) (fun _ => ?_)
      refine abZ (fun h => by omega) (fun _ => nx (by omega))
    · refine abZ (fun _ => ?_) (fun h => by omega)
      refine rd_hdrI hgs hgg ?_
      refine rd_i64 (x := ipB i) hrg (by rw [List.getElem?_append_right (by omega), List.getElem?_replicate, if_pos (by omega)]) ?_
      have : ((ipB i) != (ipB i)) = false := by simp
      rw [this]
      exact nx (by omega)
  · rw [acZ (x := (i : Int) + 1) (by omega) (by omega), show (i : Int) + 1 = ((i + 1 : Nat) : Int) by omega]
    exact hk1 _ _ ⟨i + 1, rfl, by omega, hx2⟩ (by dsimp only; omega)
theorem iapart_ok {W0 w : World} {T : Ths} {k : Ky} (kg : Ky) {ls : Sl} {hs : List Sl} {LL : List (List Int)} (hkg : kg ≠ k) (hS : Sep W0 w T) (hk : T k = ApT i64v 3 hs [] LL []) (hR : ∀ w' T', Sep W0 w' T' → (∀ q, q ≠ k → q ≠ kg → T' q = T q) → Rds slV w' ls hs) (hn : hs.length ≤ 1048576) (hln : ∀ l ∈ LL, l.length ≤ 1048576) :
    Cl Tryz.prog 24 #[.slice ls.base ls.len ls.cap] (.one (.at .bool)) (fun x w' => x = true ∧ ∃ T', Sep W0 w' T' ∧ T' k = ApT i64v 3 hs [] (fillL ipA LL) [] ∧ ∀ q, q ≠ k → q ≠ kg → T' q = T q) w := by
  refine q17apartInts.run _ ls w ?_
  generalize hRR : (fun (e : Ending) (w' : World) => ∃ x : Bool, e = .returned ((Sh.one (.at .bool)).enc x) ∧ x = true ∧ ∃ T', Sep W0 w' T' ∧ T' k = ApT i64v 3 hs [] (fillL ipA LL) [] ∧ ∀ q, q ≠ k → q ≠ kg → T' q = T q) = R
  unfold q17apartInts.M
  have hLl := (ap_len hS hk).1
  have hlsl := (hR w T hS (fun _ _ _ => rfl)).1
  have hfl : ∀ l ∈ fillL ipA LL, l.length ≤ 1048576 := fun l hl => by
    obtain ⟨i, hi⟩ := List.mem_iff_getElem?.1 hl
    obtain ⟨_, l', h1, h2⟩ := fillL_all hi
    rw [h2]; exact hln l' (List.mem_of_getElem? h1)
  refine iapart_fill hS hk (fun w' T' a1 a2 => hR w' T' a1 (fun q c1 _ => a2 q c1)) hn hln fun w1 T1 hS1 h1 n1 => ?_
  rw [hlsl]
  refine Wr_make (f := slV) (z := ⟨none, 0, 0⟩) tII iII rfl hs.length (by omega) (by omega) rfl rfl fun gs w2 hgs hB2 hx2 => ?_
  have hO2 : Own slV 25 w1.heap.size w2 gs (List.replicate hs.length ⟨none, 0, 0⟩) := by rw [hgs]; exact own_of_has (by simp) (by omega) hB2 (Nat.le_refl _)
  have hS2 := hS1.newOwn kg hx2 hO2
  refine iapart_grown hkg hS2 ((Ths.up_ne _ _ (fun e => hkg e.symm)).trans h1) (Ths.up_same _ _ _) (fun w' T' a1 a2 => hR w' T' a1 (fun q c1 c2 => (a2 q c1 c2).trans ((Ths.up_ne _ _ c2).trans (n1 q c1)))) hn hfl fun w3 T3 gl hS3 h3 g3 n3 => ?_
  have m3 : ∀ q, q ≠ k → q ≠ kg → T3 q = T q := fun q c1 c2 => (n3 q c1 c2).trans ((Ths.up_ne _ _ c2).trans (n1 q c1))
  refine iapart_read hS3 h3 g3 (hR w3 T3 hS3 m3) (fun i l hl => (fillL_all hl).1) hn hfl fun w4 hx4 => ?_
  subst hRR
  exact ⟨true, rfl, rfl, _, ap_forget (hS3.exx hx4) h3, Ths.up_same _ _ _, fun q c1 c2 => by rw [Ths.up_ne _ _ c1]; exact m3 q c1 c2⟩
end Go.Proofs.YtbiilejgfihohaaGreat
namespace Go.Proofs.YtbiilejgfihohaaGreat
open Go Go.Cu Go.RowKit
theorem IntIn.row64 {w : World} {g : Nat} {cs : List Value} {s : Sl} {l : List Nat} (h : IntIn w g cs s l) : RowIn i64v 3 w g cs s (l.map Int.ofNat) :=
  ⟨h.base, h.has, by rw [List.length_map]; exact h.len, h.cap, h.room, h.most, by rw [List.length_map, List.map_map]; exact h.cells⟩
theorem ap_int {W0 w : World} {T : Ths} {k : Ky} {s : Sl} {l : List Nat} (hS : Sep W0 w T) (hk : T k = IntT s l) : Sep W0 w (T.up k (ApT i64v 3 [s] [] [l.map Int.ofNat] [])) := by
  obtain ⟨F, ⟨g, cs, h, hF⟩, _, hc⟩ := hS.get k hk
  refine hc w _ F (Mo.refl _ _) ⟨fun _ => g, fun _ => g, fun _ => cs, fun _ => cs, ?_⟩ (fun b hb => .inl hb)
  exact { len := rfl, glen := rfl, le := Nat.zero_le _, row := fun i a m e1 e2 => by
            cases i with
            | zero => cases e1; cases e2; exact h.row64
            | succ i => simp at e1
          grow := fun i a m e1 => by simp at e1
          same := fun i e => by simp at e
          pre := fun i l m _ e => by simp at e
          dis := fun i j a1 a2 a3 => by simp at a1 a2; omega
          dis2 := fun i j e => by simp at e
          dis3 := fun i j e => by simp at e
          own := fun i _ => hF
          own2 := fun i e => by simp at e }
theorem ap_join {α : Type} {f : α → Value} {e : TypeId} {W0 w : World} {T : Ths} {k1 k2 : Ky} {hs1 hs2 : List Sl} {LL1 LL2 : List (List α)} (hne : k1 ≠ k2) (hS : Sep W0 w T) (h1 : T k1 = ApT f e hs1 [] LL1 []) (h2 : T k2 = ApT f e hs2 [] LL2 []) :
    Sep W0 w ((T.up k1 (ApT f e (hs1 ++ hs2) [] (LL1 ++ LL2) [])).up k2 Th.none) := by
  obtain ⟨hm, F, f1, f2, f3⟩ := hS
  have a1 := f1 k1
  rw [h1] at a1
  obtain ⟨G1, _, C1, _, a1⟩ := a1
  have a2 := f1 k2
  rw [h2] at a2
  obtain ⟨G2, _, C2, _, a2⟩ := a2
  have l1 := a1.len
  have l2 := a2.len
  refine ⟨hm, fun j => if j = k2 then (fun _ => False) else if j = k1 then (fun b => F k1 b ∨ F k2 b) else F j, fun j => ?_, fun j b hb => ?_, fun i j b hij hi hj => ?_⟩
  · unfold Ths.up
    dsimp only
    by_cases e2 : j = k2
    · rw [if_pos e2, if_pos e2]; trivial
    · rw [if_neg e2, if_neg e2]
      by_cases e1 : j = k1
      · rw [if_pos e1, if_pos e1]
        refine ⟨fun i => if i < hs1.length then G1 i else G2 (i - hs1.length), fun _ => 0, fun i => if i < hs1.length then C1 i else C2 (i - hs1.length), fun _ => [], ?_⟩
        exact { len := by rw [List.length_append, List.length_append, l1, l2], glen := rfl, le := Nat.zero_le _
                row := fun i h l g1 g2 => by
                  by_cases hi : i < hs1.length
                  · rw [if_pos hi, if_pos hi]
                    rw [List.getElem?_append_left hi] at g1
                    rw [List.getElem?_append_left (by omega)] at g2
                    exact a1.row i h l g1 g2
                  · rw [if_neg hi, if_neg hi]
                    rw [List.getElem?_append_right (by omega)] at g1
                    rw [List.getElem?_append_right (by omega), ← l1] at g2
                    exact a2.row _ h l g1 g2
                grow := fun i a m g1 => by simp at g1
                same := fun i g => by simp at g
                pre := fun i l m _ g => by simp at g
                dis := fun i j hi hj hij => by
                  rw [List.length_append] at hi hj
                  by_cases c1 : i < hs1.length
                  · rw [if_pos c1]
                    by_cases c2 : j < hs1.length
                    · rw [if_pos c2]; exact a1.dis i j c1 c2 hij
                    · rw [if_neg c2]
                      exact fun h => f3 k1 k2 _ hne (a1.own i c1) (h ▸ a2.own (j - hs1.length) (by omega))
                  · rw [if_neg c1]
                    by_cases c2 : j < hs1.length
                    · rw [if_pos c2]
                      exact fun h => f3 k1 k2 _ hne (a1.own j c2) (h ▸ a2.own (i - hs1.length) (by omega))
                    · rw [if_neg c2]; exact a2.dis _ _ (by omega) (by omega) (by omega)
                dis2 := fun i j g => by simp at g
                dis3 := fun i j g => by simp at g
                own := fun i hi => by
                  rw [List.length_append] at hi
                  by_cases c1 : i < hs1.length
                  · rw [if_pos c1]; exact .inl (a1.own i c1)
                  · rw [if_neg c1]; exact .inr (a2.own _ (by omega))
                own2 := fun i g => by simp at g }
      · rw [if_neg e1, if_neg e1]; exact f1 j
  · dsimp only at hb
    by_cases e2 : j = k2
    · rw [if_pos e2] at hb; exact hb.elim
    · rw [if_neg e2] at hb
      by_cases e1 : j = k1
      · rw [if_pos e1] at hb; exact hb.elim (f2 k1 b) (f2 k2 b)
      · rw [if_neg e1] at hb; exact f2 j b hb
  · dsimp only at hi hj
    by_cases e2 : i = k2
    · rw [if_pos e2] at hi; exact hi.elim
    · rw [if_neg e2] at hi
      by_cases e3 : j = k2
      · rw [if_pos e3] at hj; exact hj.elim
      · rw [if_neg e3] at hj
        by_cases e1 : i = k1
        · rw [if_pos e1] at hi
          rw [if_neg (fun h => hij (e1.trans h.symm))] at hj
          exact hi.elim (fun h => f3 k1 j b (fun h' => hij (e1.trans h')) h hj) (fun h => f3 k2 j b (fun h' => e3 h'.symm) h hj)
        · rw [if_neg e1] at hi
          by_cases e4 : j = k1
          · rw [if_pos e4] at hj
            exact hj.elim (fun h => f3 i k1 b e1 hi h) (fun h => f3 i k2 b e2 hi h)
          · rw [if_neg e4] at hj; exact f3 i j b hij hi hj
end Go.Proofs.YtbiilejgfihohaaGreat
namespace Go.Proofs.YtbiilejgfihohaaGreat
open Go Go.Cu Go.RowKit
theorem ap_sh {W0 w : World} {T : Ths} {k q : Ky} {s : Sl} {hs : List Sl} {M : Mtx} (hkq : k ≠ q) (hS : Sep W0 w T) (hk : T k = ShT s hs M) (hne : ∀ r ∈ M, r ≠ []) :
    Sep W0 w ((T.up k (Owt slV 24 s hs)).up q (ApT f8v 5 hs [] M [])) := by
  obtain ⟨hm, F, f1, f2, f3⟩ := hS
  have a := f1 k
  rw [hk] at a
  have hrow : ∀ i : Nat, ∃ (g : Nat) (cs : List Value), ∀ (h : Sl) (l : List F8), hs[i]? = some h → M[i]? = some l → RowIn f8v 5 w g cs h l ∧ SlIn h g := by
    intro i
    by_cases hi : i < hs.length
    · obtain ⟨h, hh⟩ := atx hi
      obtain ⟨l, hl⟩ := atx (l := M) (i := i) (by rw [← a.len]; exact hi)
      have hl0 := hne l (List.mem_of_getElem? hl)
      obtain ⟨g, cs, e1, _, e2, e3, e4, e5, e6, e7⟩ := (a.row i h l hh hl).inv (List.length_pos_iff.2 hl0)
      refine ⟨g, cs, fun h' l' q1 q2 => ?_⟩
      rw [hh] at q1
      rw [hl] at q2
      cases q1
      cases q2
      exact ⟨⟨e1, e2, e3, e4, by rw [e6]; exact Nat.le_refl _, e5, e7⟩, ⟨_, e1, rfl⟩⟩
    · exact ⟨0, [], fun h l q1 => absurd (List.getElem?_eq_some_iff.1 q1).1 hi⟩
  obtain ⟨G, hG⟩ := Classical.skolem.1 hrow
  obtain ⟨C, hC⟩ := Classical.skolem.1 hG
  have at2 : ∀ {i : Nat}, i < hs.length → ∃ h l, hs[i]? = some h ∧ M[i]? = some l ∧ SlIn h (G i) := by
    intro i hi
    obtain ⟨h, hh⟩ := atx hi
    obtain ⟨l, hl⟩ := atx (l := M) (i := i) (by rw [← a.len]; exact hi)
    exact ⟨h, l, hh, hl, (hC i h l hh hl).2⟩
  refine ⟨hm, fun j => if j = q then (fun b => F k b ∧ ¬ SlIn s b) else if j = k then SlIn s else F j, fun j => ?_, fun j b hb => ?_, fun i j b hij hi hj => ?_⟩
  · unfold Ths.up
    dsimp only
    by_cases e : j = q
    · rw [if_pos e, if_pos e]
      exact ⟨G, fun _ => 0, C, fun _ => [], {
        len := a.len, glen := rfl, le := Nat.zero_le _, row := fun i h l q1 q2 => (hC i h l q1 q2).1, grow := fun i g m q1 => by simp at q1, same := fun i e => by simp at e, pre := fun i l m _ e => by simp at e
        dis := fun i j hi hj hij he => by
          obtain ⟨h, l, q1, q2, q3⟩ := at2 hi
          obtain ⟨h', l', p1, p2, p3⟩ := at2 hj
          exact a.dis i j h h' hij q1 p1 _ q3 (he ▸ p3)
        dis2 := fun i j e => by simp at e, dis3 := fun i j e => by simp at e
        own := fun i hi => by
          obtain ⟨h, l, q1, q2, q3⟩ := at2 hi
          exact ⟨(a.apt i h q1 _ q3).2, (a.apt i h q1 _ q3).1⟩
        own2 := fun i e => by simp at e }⟩
    · rw [if_neg e, if_neg e]
      by_cases e2 : j = k
      · rw [if_pos e2, if_pos e2]; exact ⟨a.hdr, fun b hb => hb⟩
      · rw [if_neg e2, if_neg e2]; exact f1 j
  · dsimp only at hb
    by_cases e : j = q
    · rw [if_pos e] at hb; exact f2 k b hb.1
    · rw [if_neg e] at hb
      by_cases e2 : j = k
      · rw [if_pos e2] at hb; exact f2 k b (a.own b hb)
      · rw [if_neg e2] at hb; exact f2 j b hb
  · dsimp only at hi hj
    by_cases e : i = q
    · rw [if_pos e] at hi
      rw [if_neg (fun h => hij (e.trans h.symm))] at hj
      by_cases e2 : j = k
      · rw [if_pos e2] at hj; exact hi.2 hj
      · rw [if_neg e2] at hj; exact f3 k j b (fun h => e2 h.symm) hi.1 hj
    · rw [if_neg e] at hi
      by_cases e2 : i = k
      · rw [if_pos e2] at hi
        by_cases e3 : j = q
        · rw [if_pos e3] at hj; exact hj.2 hi
        · rw [if_neg e3, if_neg (fun h => hij (e2.trans h.symm))] at hj
          exact f3 k j b (fun h => hij (e2.trans h)) (a.own b hi) hj
      · rw [if_neg e2] at hi
        by_cases e3 : j = q
        · rw [if_pos e3] at hj; exact f3 i k b e2 hi hj.1
        · rw [if_neg e3] at hj
          by_cases e4 : j = k
          · rw [if_pos e4] at hj; exact f3 i k b e2 hi (a.own b hj)
          · rw [if_neg e4] at hj; exact f3 i j b hij hi hj
theorem int_rds {W0 w : World} {T : Ths} {k : Ky} {s : Sl} {l : List Nat} (hS : Sep W0 w T) (hk : T k = IntT s l) : Rds natV w s l := by
  obtain ⟨F, ⟨g, cs, h, hF⟩, _⟩ := hS.get k hk
  exact h.rds
theorem Wr_cpints {w : World} {s : Sl} {l : List Nat} {K : Sl → World → Prop} (hr : Rds natV w s l) (hl : l.length ≤ 1048576) (hk : ∀ d w', Own natV 3 w.heap.size w' d l → Ex w w' → K d w') :
    Wr Tryz.prog (Instr.buildSlice 25 0 #[]) (.one (.at .sl)) (fun (x3 : Sl) w4 => Wr Tryz.prog (Builtin.append_ #[25, 25] 25 #[.slice x3.base x3.len x3.cap, .slice s.base s.len s.cap]) (.one (.at .sl)) K w4) w := by
  refine Wr_lit (f := natV) (e := 3) (base := w.heap.size) [] (by kernel_rfl) (Nat.le_refl _) (by simp) fun s4 w4 ho4 hx4 _ => ?_
  refine Wr_append (f := natV) (l := []) (base := w.heap.size) tI iI rfl ho4 (hr.ex hx4) (fun _ => rfl) (by simp; omega) (by simp; omega) hx4.size fun d w5 ho hm hin => ?_
  rw [List.nil_append] at ho
  exact hk d w5 ho (hx4.into hm (fun b hb => (ho4.base b hb).1))
end Go.Proofs.YtbiilejgfihohaaGreat
namespace Go.Proofs.YtbiilejgfihohaaGreat
open Go Go.Cu Go.RowKit
theorem npl (i : Nat) : ¬ PlK 0 (.mx 2 i) := by unfold PlK GnK; simp
theorem plan_keep {W0 w w' : World} {T : Ths} {sm su sr : Sl} {hsr : List Sl} {L U : List Nat} {D : Mtx} {x : Ats P4} (ia ib ic id : Nat) (hab : ia ≠ ib) (hac : ia ≠ ic) (hbc : ib ≠ ic) (had : ia ≠ id) (hbd : ib ≠ id) (hcd : ic ≠ id) (hS : Sep W0 w T) (h0 : T (.rs 0) = IntT sm L) (h1 : T (.rs 1) = IntT su U) (h2 : T (.mx 1 0) = ShT sr hsr D)
    (hx : Ex w w') (hB : Has w' w.heap.size (afZ P4 x) 49) :
    ∃ T', Sep W0 w' T' ∧ T' (.mx 2 ia) = IntT sm L ∧ T' (.mx 2 ib) = IntT su U ∧ T' (.mx 2 ic) = ShT sr hsr D ∧ T' (.mx 2 id) = Cel w.heap.size (afZ P4 x) 49 ∧ ∀ q, q ≠ .mx 2 ia → q ≠ .mx 2 ib → q ≠ .mx 2 ic → q ≠ .mx 2 id → q ≠ .rs 0 → q ≠ .rs 1 → q ≠ .mx 1 0 → T' q = T q := by
  have s1 := Sep.move (k := .rs 0) (q := .mx 2 ia) hS (by simp)
  have s2 := Sep.move (k := .rs 1) (q := .mx 2 ib) s1 (by simp)
  have s3 := Sep.move (k := .mx 1 0) (q := .mx 2 ic) s2 (by simp)
  have s4 := s3.box (.mx 2 id) hx hB
  refine ⟨_, s4, ?_, ?_, ?_, Ths.up_same _ _ _, fun q c1 c2 c3 c4 c5 c6 c7 => ?_⟩
  · rw [Ths.up_ne _ _ (by simpa using had), Ths.up_ne _ _ (by simp), Ths.up_ne _ _ (by simpa using hac), Ths.up_ne _ _ (by simp), Ths.up_ne _ _ (by simpa using hab), Ths.up_ne _ _ (by simp), Ths.up_same]; exact h0
  · rw [Ths.up_ne _ _ (by simpa using hbd), Ths.up_ne _ _ (by simp), Ths.up_ne _ _ (by simpa using hbc), Ths.up_ne _ _ (by simp), Ths.up_same, Ths.up_ne _ _ (by simp), Ths.up_ne _ _ (by simp)]; exact h1
  · rw [Ths.up_ne _ _ (by simpa using hcd), Ths.up_ne _ _ (by simp), Ths.up_same, Ths.up_ne _ _ (by simp), Ths.up_ne _ _ (by simp), Ths.up_ne _ _ (by simp), Ths.up_ne _ _ (by simp)]; exact h2
  · rw [Ths.up_ne _ _ c4, Ths.up_ne _ _ c7, Ths.up_ne _ _ c3, Ths.up_ne _ _ c6, Ths.up_ne _ _ c2, Ths.up_ne _ _ c5, Ths.up_ne _ _ c1]
theorem lists_end {W w : World} {T : Ths} {a : CodA} {f : Int} {k m b : Nat} {Q D : Mtx} {es : List Tr.Ent} {cl : Int} {so sm sk su : Sl} {hk : List Sl} {L : List Nat} {R : Ending → World → Prop} (hS : Sep W w T) (hC : Cod T 0 a f k m b Q es cl)
    (ho : T (.mx 2 7) = Owt natV 3 so L) (hm : T (.mx 2 6) = Owt natV 3 sm (List.range L.length)) (hu : T (.mx 2 9) = Owt natV 3 su ((lostL (k + m) L).take k)) (hke : T (.mx 2 8) = ShT sk hk D)
    (hL : NumL (k + m) L) (hl1 : 1 ≤ L.length) (hlm : L.length ≤ m) (hk2 : k ≤ 20) (hm2 : m ≤ 12) (hcl : cl < 4611686018427387904) (hD : decM k (gM k Q) ((lostL (k + m) L).take k) L = some D) (hDs : Shp D L.length k)
    (hR : ∀ w', Mo (fun b => W.heap.size ≤ b) W w' → R (.returned (.bool true)) w') : q17McodeLists.j5 R (at0 a.cp) sm so sk su false w := by
  unfold q17McodeLists.j5
  refine Cd_f ?_
  refine aeZ (plan_ok (km := .mx 2 7) (sl := so) (L := L) hS hC (npl 7) (fun w F h => by rw [ho] at h; exact ⟨h.1.rds, h.2⟩) hL hl1 hlm hcl) ?_
  rintro _ w1 ⟨zM, zU, zR, hzR, D', T1, es', cl', rfl, hS1, hD', M1, U1, R1, hC1, hcl1, _, n1⟩
  rw [hD] at hD'
  cases hD'
  dsimp only
  refine plan_new (x := ((zM, zU, zR, ⟨none, 0, 0⟩, ()) : Ats P4)) fun w2 hB2 hx2 => ?_
  have hS2 := hS1.box (.mx 2 19) hx2 hB2
  generalize w1.heap.size = gp at hB2 hS2 ⊢
  refine Cd_eq (fun _ => ?_) (fun h => absurd rfl h)
  have hll := lostL_length hL
  have hp2 : (T1.up (.mx 2 19) (Cel gp (afZ P4 ((zM, zU, zR, ⟨none, 0, 0⟩, ()) : Ats P4)) 49)) (.mx 2 19) = Cel gp (afZ P4 ((zM, zU, zR, ⟨none, 0, 0⟩, ()) : Ats P4)) 49 := Ths.up_same _ _ _
  have o2 : ∀ q, q ≠ .mx 2 19 → (T1.up (.mx 2 19) (Cel gp (afZ P4 ((zM, zU, zR, ⟨none, 0, 0⟩, ()) : Ats P4)) 49)) q = T1 q := fun q hq => Ths.up_ne _ _ hq
  generalize T1.up (.mx 2 19) (Cel gp (afZ P4 ((zM, zU, zR, ⟨none, 0, 0⟩, ()) : Ats P4)) 49) = T2 at hS2 hp2 o2
  have k2 : ∀ i, i ≠ 19 → T2 (.mx 2 i) = T (.mx 2 i) := fun i hi => (o2 _ (by simpa using hi)).trans (n1 _ (npl i))
  refine aiZ (c := .sl) (x := zM) (B := gp) (i := 0) (hS2.has hp2) (by kernel_rfl) rfl ?_
  refine Cl_gv (d := .one (.at .bool)) (x := true) (by have := same_gv (int_rds hS2 ((o2 _ (by simp)).trans M1)) (hS2.owt ((k2 7 (by omega)).trans ho)).rds (by omega); rw [decide_eq_true rfl] at this; exact this) fun w3 hx3 => ?_
  refine Cd_t ?_
  have hS3 := hS2.exx hx3
  refine aiZ (c := .sl) (x := zU) (B := gp) (i := 1) (hS3.has hp2) (by kernel_rfl) rfl ?_
  refine Cl_gv (d := .one (.at .bool)) (x := true) (by have := same_gv (int_rds hS3 ((o2 _ (by simp)).trans U1)) (hS3.owt ((k2 9 (by omega)).trans hu)).rds (by rw [List.length_take]; omega); rw [decide_eq_true rfl] at this; exact this) fun w4 hx4 => ?_
  refine Cd_t ?_
  have hS4 := hS3.exx hx4
  refine aiZ (c := .sl) (x := zR) (B := gp) (i := 2) (hS4.has hp2) (by kernel_rfl) rfl ?_
  refine Cl_gv (d := .one (.at .bool)) (x := true) (by have := alike_gv (sh_matR hS4 ((o2 _ (by simp)).trans R1)) (sh_matR hS4 ((k2 8 (by omega)).trans hke)) (by rw [hDs.1]; omega) (fun r hr => by rw [hDs.2 r hr]; omega); rw [decide_eq_true rfl] at this; exact this) fun w5 hx5 => ?_
  refine Cd_t ?_
  have hS5 := hS4.exx hx5
  have hO5 := hS5.owt ((k2 6 (by omega)).trans hm)
  have hlen := hO5.rds.1
  rw [List.length_range] at hlen
  refine Cd_eq (fun h => absurd h (by omega)) (fun _ => ?_)
  refine rd_nat (i := 0) (x := 0) hO5.rds (by rw [List.getElem?_range (by omega)]) ?_
  exact hR w5 hS5.mo
theorem lists_nil {W w : World} {T : Ths} {a : CodA} {f : Int} {k m b ga gb : Nat} {Q D : Mtx} {es : List Tr.Ent} {cl : Int} {so sm sk su sra srb : Sl} {hk hsa hsb : List Sl} {L : List Nat} {xa xb : Ats P4} {R : Ending → World → Prop} (hS : Sep W w T) (hC : Cod T 0 a f k m b Q es cl)
    (ho : T (.mx 2 7) = Owt natV 3 so L) (hm : T (.mx 2 6) = Owt natV 3 sm (List.range L.length)) (hu : T (.mx 2 9) = Owt natV 3 su ((lostL (k + m) L).take k)) (hke : T (.mx 2 8) = ShT sk hk D)
    (ha : T (.mx 2 12) = Owt slV 24 sra hsa) (hb : T (.mx 2 15) = Owt slV 24 srb hsb) (hxa : T (.mx 2 20) = Cel ga (afZ P4 xa) 49) (hxb : T (.mx 2 21) = Cel gb (afZ P4 xb) 49) (hxa1 : xa.2.2.1 = sra) (hxb1 : xb.2.2.1 = srb) (hbn : ∀ h ∈ hsb, h.base.isNone = false) (hla : hsa.length ≤ 65536)
    (hL : NumL (k + m) L) (hl1 : 1 ≤ L.length) (hlm : L.length ≤ m) (hk2 : k ≤ 20) (hm2 : m ≤ 12) (hcl : cl < 4611686018427387904) (hD : decM k (gM k Q) ((lostL (k + m) L).take k) L = some D) (hDs : Shp D L.length k)
    (hR : ∀ w', Mo (fun b => W.heap.size ≤ b) W w' → R (.returned (.bool true)) w') : q17McodeLists.j4 R (at0 a.cp) sm ⟨ga, 0, none⟩ ⟨gb, 0, none⟩ so sk su false w := by
  unfold q17McodeLists.j4
  refine Cd_f ?_
  unfold q17McodeLists.l4
  refine adZ (fun st w' => ∃ (i : Nat) (hsa' : List Sl) (T' : Ths), st = (at0 a.cp, sm, ⟨ga, 0, none⟩, ⟨gb, 0, none⟩, so, sk, su, (i : Int), ()) ∧ i ≤ hsa.length ∧ hsa'.length = hsa.length ∧ Sep W w' T' ∧ T' (.mx 2 12) = Owt slV 24 sra hsa' ∧ ∀ q, q ≠ .mx 2 12 → T' q = T q) (fun st _ => ((hsa.length : Int) - st.2.2.2.2.2.2.2.1).toNat) ?_
    ⟨0, hsa, T, rfl, Nat.zero_le _, rfl, hS, ha, fun _ _ => rfl⟩
  rintro k1 _ w1 ⟨i, hsa', T1, rfl, hi, hal, hS1, a1, n1⟩ hk1
  unfold q17McodeLists.b4
  dsimp only at hk1 ⊢
  have hO1 := hS1.owt a1
  have hl := hO1.rds.1
  have hB1 := hS1.has ((n1 _ (by simp)).trans hxa)
  refine aiZ (c := .sl) (x := sra) (B := ga) (i := 2) hB1 (by kernel_rfl) (by rw [← hxa1]; rfl) ?_
  refine abZ (fun hlt => ?_) (fun hge => ?_)
  · refine aiZ (c := .sl) (x := sra) (B := ga) (i := 2) hB1 (by kernel_rfl) (by rw [← hxa1]; rfl) ?_
    refine Wu_set (f := slV) (x := ⟨none, 0, 0⟩) (i := i) hO1 (by omega) tBB sS sS rfl rfl fun w2 hO2 hm2' => ?_
    have hS2 := hS1.grow a1 hO2 hm2' (fun b hb => .inl hb)
    rw [acZ (x := (i : Int) + 1) (by omega) (by omega), show (i : Int) + 1 = ((i + 1 : Nat) : Int) by omega]
    exact hk1 _ _ ⟨i + 1, _, _, rfl, by omega, by rw [List.length_set]; exact hal, hS2, Ths.up_same _ _ _, fun q hq => by rw [Ths.up_ne _ _ hq]; exact n1 q hq⟩ (by dsimp only; omega)
  · have hBb := hS1.has ((n1 _ (by simp)).trans hxb)
    have hOb := hS1.owt ((n1 _ (by simp)).trans hb)
    have hlb := hOb.rds.1
    have fin : ∀ {w' : World}, Sep W w' T1 → q17McodeLists.j5 R (at0 a.cp) sm so sk su false w' := fun hS' =>
      lists_end hS' (hC.next (fun i => n1 _ (by simp))) ((n1 _ (by simp)).trans ho) ((n1 _ (by simp)).trans hm) ((n1 _ (by simp)).trans hu) ((n1 _ (by simp)).trans hke) hL hl1 hlm hk2 hm2 hcl hD hDs hR
    refine aiZ (c := .sl) (x := srb) (B := gb) (i := 2) hBb (by kernel_rfl) (by rw [← hxb1]; rfl) ?_
    refine abZ (fun hgt => ?_) (fun _ => fin hS1)
    refine aiZ (c := .sl) (x := srb) (B := gb) (i := 2) hBb (by kernel_rfl) (by rw [← hxb1]; rfl) ?_
    obtain ⟨h, hh⟩ := atx (l := hsb) (i := 0) (by omega)
    refine rd_hdr (i := 0) hOb.rds hh ?_
    refine Pu_eqnilS (e := 5) tB ?_
    rw [hbn h (List.mem_of_getElem? hh)]
    exact fin hS1
end Go.Proofs.YtbiilejgfihohaaGreat
namespace Go.Proofs.YtbiilejgfihohaaGreat
open Go Go.Cu Go.RowKit
theorem join_int {W0 w : World} {T : Ths} {k1 k2 : Ky} {hs : List Sl} {LL : List (List Int)} {s : Sl} {l : List Nat} (hne : k1 ≠ k2) (hS : Sep W0 w T) (h1 : T k1 = ApT i64v 3 hs [] LL []) (h2 : T k2 = IntT s l) :
    ∃ T', Sep W0 w T' ∧ T' k1 = ApT i64v 3 (hs ++ [s]) [] (LL ++ [l.map Int.ofNat]) [] ∧ ∀ q, q ≠ k1 → q ≠ k2 → T' q = T q :=
  ⟨_, ap_join hne (ap_int hS h2) ((Ths.up_ne _ _ hne).trans h1) (Ths.up_same _ _ _), by rw [Ths.up_ne _ _ hne, Ths.up_same], fun q c1 c2 => by rw [Ths.up_ne _ _ c2, Ths.up_ne _ _ c1, Ths.up_ne _ _ c2]⟩
theorem join_sh {W0 w : World} {T : Ths} {k1 k2 q2 : Ky} {hs h2s : List Sl} {LL M : Mtx} {s : Sl} (h12 : k1 ≠ k2) (h1q : k1 ≠ q2) (h2q : k2 ≠ q2) (hS : Sep W0 w T) (h1 : T k1 = ApT f8v 5 hs [] LL []) (h2 : T k2 = ShT s h2s M) (hM : ∀ r ∈ M, r ≠ []) :
    ∃ T', Sep W0 w T' ∧ T' k1 = ApT f8v 5 (hs ++ h2s) [] (LL ++ M) [] ∧ T' k2 = Owt slV 24 s h2s ∧ ∀ q, q ≠ k1 → q ≠ k2 → q ≠ q2 → T' q = T q :=
  ⟨_, ap_join h1q (ap_sh h2q hS h2 hM) (by rw [Ths.up_ne _ _ h1q, Ths.up_ne _ _ h12]; exact h1) (Ths.up_same _ _ _), by rw [Ths.up_ne _ _ h1q, Ths.up_same], by rw [Ths.up_ne _ _ h2q, Ths.up_ne _ _ (fun e => h12 e.symm), Ths.up_ne _ _ h2q, Ths.up_same], fun q c1 c2 c3 => by rw [Ths.up_ne _ _ c3, Ths.up_ne _ _ c1, Ths.up_ne _ _ c3, Ths.up_ne _ _ c2]⟩
theorem six_ints {W0 w : World} {T : Ths} {s0 s1 s2 s3 s4 s5 : Sl} {l0 l1 l2 l3 l4 l5 : List Nat} (hS : Sep W0 w T) (h0 : T (.mx 2 10) = IntT s0 l0) (h1 : T (.mx 2 11) = IntT s1 l1) (h2 : T (.mx 2 13) = IntT s2 l2) (h3 : T (.mx 2 14) = IntT s3 l3) (h4 : T (.mx 2 16) = IntT s4 l4) (h5 : T (.mx 2 17) = IntT s5 l5) :
    ∃ T', Sep W0 w T' ∧ T' (.mx 2 10) = ApT i64v 3 [s0, s1, s2, s3, s4, s5] [] [l0.map Int.ofNat, l1.map Int.ofNat, l2.map Int.ofNat, l3.map Int.ofNat, l4.map Int.ofNat, l5.map Int.ofNat] [] ∧ ∀ q, q ≠ .mx 2 10 → q ≠ .mx 2 11 → q ≠ .mx 2 13 → q ≠ .mx 2 14 → q ≠ .mx 2 16 → q ≠ .mx 2 17 → T' q = T q := by
  have a0 := ap_int hS h0
  have b0 := Ths.up_same T (.mx 2 10) (ApT i64v 3 [s0] [] [l0.map Int.ofNat] [])
  have n0 : ∀ q, q ≠ .mx 2 10 → (T.up (.mx 2 10) (ApT i64v 3 [s0] [] [l0.map Int.ofNat] [])) q = T q := fun q hq => Ths.up_ne _ _ hq
  generalize T.up (.mx 2 10) (ApT i64v 3 [s0] [] [l0.map Int.ofNat] []) = T0 at a0 b0 n0
  obtain ⟨T1, a1, b1, n1⟩ := join_int (k2 := .mx 2 11) (by simp) a0 b0 ((n0 _ (by simp)).trans h1)
  obtain ⟨T2, a2, b2, n2⟩ := join_int (k2 := .mx 2 13) (by simp) a1 b1 ((n1 _ (by simp) (by simp)).trans ((n0 _ (by simp)).trans h2))
  obtain ⟨T3, a3, b3, n3⟩ := join_int (k2 := .mx 2 14) (by simp) a2 b2 ((n2 _ (by simp) (by simp)).trans ((n1 _ (by simp) (by simp)).trans ((n0 _ (by simp)).trans h3)))
  obtain ⟨T4, a4, b4, n4⟩ := join_int (k2 := .mx 2 16) (by simp) a3 b3 ((n3 _ (by simp) (by simp)).trans ((n2 _ (by simp) (by simp)).trans ((n1 _ (by simp) (by simp)).trans ((n0 _ (by simp)).trans h4))))
  obtain ⟨T5, a5, b5, n5⟩ := join_int (k2 := .mx 2 17) (by simp) a4 b4 ((n4 _ (by simp) (by simp)).trans ((n3 _ (by simp) (by simp)).trans ((n2 _ (by simp) (by simp)).trans ((n1 _ (by simp) (by simp)).trans ((n0 _ (by simp)).trans h5)))))
  exact ⟨T5, a5, b5, fun q c0 c1 c2 c3 c4 c5 => (n5 q c0 c5).trans ((n4 q c0 c4).trans ((n3 q c0 c3).trans ((n2 q c0 c2).trans ((n1 q c0 c1).trans (n0 q c0)))))⟩
theorem three_sh {W0 w : World} {T : Ths} {s0 s1 s2 : Sl} {h0s h1s h2s : List Sl} {M0 M1 M2 : Mtx} (hS : Sep W0 w T) (h0 : T (.mx 2 12) = ShT s0 h0s M0) (h1 : T (.mx 2 15) = ShT s1 h1s M1) (h2 : T (.mx 2 18) = ShT s2 h2s M2) (e0 : ∀ r ∈ M0, r ≠ []) (e1 : ∀ r ∈ M1, r ≠ []) (e2 : ∀ r ∈ M2, r ≠ []) :
    ∃ T', Sep W0 w T' ∧ T' (.mx 2 30) = ApT f8v 5 (h0s ++ h1s ++ h2s) [] (M0 ++ M1 ++ M2) [] ∧ T' (.mx 2 12) = Owt slV 24 s0 h0s ∧ T' (.mx 2 15) = Owt slV 24 s1 h1s ∧ T' (.mx 2 18) = Owt slV 24 s2 h2s ∧
      ∀ q, q ≠ .mx 2 12 → q ≠ .mx 2 15 → q ≠ .mx 2 18 → q ≠ .mx 2 30 → q ≠ .mx 2 31 → q ≠ .mx 2 32 → T' q = T q := by
  have a0 := ap_sh (q := .mx 2 30) (by simp) hS h0 e0
  have b0 := Ths.up_same (T.up (.mx 2 12) (Owt slV 24 s0 h0s)) (.mx 2 30) (ApT f8v 5 h0s [] M0 [])
  have c0 : ((T.up (.mx 2 12) (Owt slV 24 s0 h0s)).up (.mx 2 30) (ApT f8v 5 h0s [] M0 [])) (.mx 2 12) = Owt slV 24 s0 h0s := by rw [Ths.up_ne _ _ (by simp), Ths.up_same]
  have n0 : ∀ q, q ≠ .mx 2 12 → q ≠ .mx 2 30 → ((T.up (.mx 2 12) (Owt slV 24 s0 h0s)).up (.mx 2 30) (ApT f8v 5 h0s [] M0 [])) q = T q := fun q k1 k2 => by rw [Ths.up_ne _ _ k2, Ths.up_ne _ _ k1]
  generalize (T.up (.mx 2 12) (Owt slV 24 s0 h0s)).up (.mx 2 30) (ApT f8v 5 h0s [] M0 []) = T0 at a0 b0 c0 n0
  obtain ⟨T1, a1, b1, c1, n1⟩ := join_sh (k2 := .mx 2 15) (q2 := .mx 2 31) (by simp) (by simp) (by simp) a0 b0 ((n0 _ (by simp) (by simp)).trans h1) e1
  obtain ⟨T2, a2, b2, c2, n2⟩ := join_sh (k2 := .mx 2 18) (q2 := .mx 2 32) (by simp) (by simp) (by simp) a1 b1 ((n1 _ (by simp) (by simp) (by simp)).trans ((n0 _ (by simp) (by simp)).trans h2)) e2
  refine ⟨T2, a2, b2, (n2 _ (by simp) (by simp) (by simp)).trans ((n1 _ (by simp) (by simp) (by simp)).trans c0), (n2 _ (by simp) (by simp) (by simp)).trans c1, c2, fun q d1 d2 d3 d4 d5 d6 => (n2 q d4 d3 d6).trans ((n1 q d4 d2 d5).trans (n0 q d1 d4))⟩
def RdaT (s : Sl) (l : List (Ats P4)) : Th := ⟨fun w F => RdA P4 w s l ∧ ∀ b, SlIn s b → F b, fun h m hx => ⟨h.1.mo m (fun a ha => hx _ (h.2 _ (slin_of ha))), h.2⟩⟩
theorem rda_get {W0 w : World} {T : Ths} {k : Ky} {s : Sl} {l : List (Ats P4)} (hS : Sep W0 w T) (hk : T k = RdaT s l) : RdA P4 w s l := by
  obtain ⟨F, ht, _⟩ := hS.get k hk
  exact ht.1
theorem sh_nonil {W0 w : World} {T : Ths} {k : Ky} {s : Sl} {hs : List Sl} {M : Mtx} (hS : Sep W0 w T) (hk : T k = ShT s hs M) (hM : ∀ r ∈ M, r ≠ []) : ∀ h ∈ hs, h.base.isNone = false := by
  intro h hh
  obtain ⟨i, hi⟩ := List.mem_iff_getElem?.1 hh
  obtain ⟨_, e2, e3⟩ := sh_get hS hk
  obtain ⟨r, hr⟩ := atx (l := M) (i := i) (by rw [← e2]; exact (List.getElem?_eq_some_iff.1 hi).1)
  obtain ⟨g, cs, e1, _⟩ := (e3 i h r hi hr).inv (List.length_pos_iff.2 (hM r (List.mem_of_getElem? hr)))
  rw [e1]; rfl
theorem tP4 : Tryz.prog.underlying 54 = some (.slice 49) := by kernel_rfl
theorem sP4 : sizeIs Tryz.prog 49 4 = true := by kernel_rfl
theorem lists_mid {W w : World} {T : Ths} {a : CodA} {f : Int} {k m b ga gb gd : Nat} {Q D D2 : Mtx} {es : List Tr.Ent} {cl : Int} {so sm ma ua ra mb ub rb md ud rd : Sl} {hsa hsb hsd : List Sl} {L L2 U2 : List Nat} {R : Ending → World → Prop} (hS : Sep W w T) (hC : Cod T 0 a f k m b Q es cl)
    (ho : T (.mx 2 7) = Owt natV 3 so L) (hm : T (.mx 2 6) = Owt natV 3 sm (List.range L.length))
    (a0 : T (.mx 2 10) = IntT ma L) (a1 : T (.mx 2 11) = IntT ua ((lostL (k + m) L).take k)) (a2 : T (.mx 2 12) = ShT ra hsa D) (a3 : T (.mx 2 20) = Cel ga (afZ P4 ((ma, ua, ra, ⟨none, 0, 0⟩, ()) : Ats P4)) 49)
    (b0 : T (.mx 2 13) = IntT mb L) (b1 : T (.mx 2 14) = IntT ub ((lostL (k + m) L).take k)) (b2 : T (.mx 2 15) = ShT rb hsb D) (b3 : T (.mx 2 21) = Cel gb (afZ P4 ((mb, ub, rb, ⟨none, 0, 0⟩, ()) : Ats P4)) 49)
    (d0 : T (.mx 2 16) = IntT md L2) (d1 : T (.mx 2 17) = IntT ud U2) (d2 : T (.mx 2 18) = ShT rd hsd D2) (d3 : T (.mx 2 22) = Cel gd (afZ P4 ((md, ud, rd, ⟨none, 0, 0⟩, ()) : Ats P4)) 49)
    (hL : NumL (k + m) L) (hl1 : 1 ≤ L.length) (hlm : L.length ≤ m) (hk1 : 1 ≤ k) (hk2 : k ≤ 20) (hm2 : m ≤ 12) (hcl : cl < 4611686018427387904) (hD : decM k (gM k Q) ((lostL (k + m) L).take k) L = some D) (hDs : Shp D L.length k) (hD2s : Shp D2 L.length k) (hL2 : L2.length ≤ 12) (hU2 : U2.length ≤ 20)
    (hR : ∀ w', Mo (fun b => W.heap.size ≤ b) W w' → R (.returned (.bool true)) w') : q17McodeLists.j3 R (at0 a.cp) sm ⟨ga, 0, none⟩ ⟨gb, 0, none⟩ so ⟨gd, 0, none⟩ false w := by
  have hne : ∀ r ∈ D, r ≠ [] := fun r hr e => by have := hDs.2 r hr; rw [e] at this; simp at this; omega
  have hne2 : ∀ r ∈ D2, r ≠ [] := fun r hr e => by have := hD2s.2 r hr; rw [e] at this; simp at this; omega
  have hbn := sh_nonil hS b2 hne
  obtain ⟨qa1, qa2, _⟩ := sh_get hS a2
  obtain ⟨qb1, qb2, _⟩ := sh_get hS b2
  obtain ⟨qd1, qd2, _⟩ := sh_get hS d2
  have la := hDs.1
  have ld := hD2s.1
  have hll := lostL_length hL
  unfold q17McodeLists.j3
  refine Cd_f ?_
  refine aiZ (c := .sl) (x := ra) (B := ga) (i := 2) (hS.has a3) (by kernel_rfl) rfl ?_
  refine aeZ (copied_ok (.mx 2 8) hS (fun w' T' h' hT' => sh_matR h' ((hT' _ (by simp)).trans a2)) (by omega) (fun r hr => by rw [hDs.2 r hr]; omega)) ?_
  rintro sk w1 ⟨hk, hS1⟩
  obtain ⟨T1, hT1e⟩ : ∃ T1, T1 = T.up (.mx 2 8) (ShT sk hk D) := ⟨_, rfl⟩
  rw [← hT1e] at hS1
  have n1 : ∀ q, q ≠ .mx 2 8 → T1 q = T q := fun q hq => by rw [hT1e, Ths.up_ne _ _ hq]
  have k1 : T1 (.mx 2 8) = ShT sk hk D := by rw [hT1e, Ths.up_same]
  clear hT1e
  refine Wr_lit (f := natV) (e := 3) (base := w1.heap.size) [] (by kernel_rfl) (Nat.le_refl _) (by simp) fun s4 w4 ho4 hx4 _ => ?_
  have hS4 := hS1.exx hx4
  refine aiZ (c := .sl) (x := ua) (B := ga) (i := 1) (hS4.has ((n1 _ (by simp)).trans a3)) (by kernel_rfl) rfl ?_
  refine Wr_append (f := natV) (l := []) (base := w1.heap.size) tI iI rfl ho4 (int_rds hS4 ((n1 _ (by simp)).trans a1)) (fun _ => rfl) (by rw [List.length_take]; simp; omega) (by rw [List.length_take]; simp; omega) hx4.size fun us w5 ho5 hm5 hin5 => ?_
  rw [List.nil_append] at ho5
  have hx5 : Ex w1 w5 := hx4.into hm5 (fun b hb => (ho4.base b hb).1)
  have hS5 := hS1.newOwn (.mx 2 9) hx5 ho5
  have pa5 := (n1 (.mx 2 20) (by simp)).trans a3
  have pb5 := (n1 (.mx 2 21) (by simp)).trans b3
  have pd5 := (n1 (.mx 2 22) (by simp)).trans d3
  refine Rd_hasN (x := ((ma, ua, ra, ⟨none, 0, 0⟩, ()) : Ats P4)) (hS5.has ((Ths.up_ne _ _ (by simp)).trans pa5)) (by kernel_rfl) rfl ?_
  refine Rd_hasN (x := ((mb, ub, rb, ⟨none, 0, 0⟩, ()) : Ats P4)) (hS5.has ((Ths.up_ne _ _ (by simp)).trans pb5)) (by kernel_rfl) rfl ?_
  refine Rd_hasN (x := ((md, ud, rd, ⟨none, 0, 0⟩, ()) : Ats P4)) (hS5.has ((Ths.up_ne _ _ (by simp)).trans pd5)) (by kernel_rfl) rfl ?_
  refine Wr_litA (ats := P4) (e := 49) (base := w5.heap.size) [(ma, ua, ra, ⟨none, 0, 0⟩, ()), (mb, ub, rb, ⟨none, 0, 0⟩, ()), (md, ud, rd, ⟨none, 0, 0⟩, ())] (by kernel_rfl) (Nat.le_refl _) (by simp) fun s6 w6 ho6 hx6 _ => ?_
  have hl6 : s6.len = 3 := ho6.1
  have hS6 := hS5.new (.mx 2 26) (G := fun b => SlIn s6 b) hx6 (t := RdaT s6 [(ma, ua, ra, ⟨none, 0, 0⟩, ()), (mb, ub, rb, ⟨none, 0, 0⟩, ()), (md, ud, rd, ⟨none, 0, 0⟩, ())]) ⟨ho6.rda, fun _ hb => hb⟩ (fun b hb => ho6.base b hb)
  have nilW : ∀ (w' : World), (Owt slV 24 (⟨none, 0, 0⟩ : Sl) []).h w' (fun _ => False) := fun w' => ⟨Own.nil _ _ _ _, fun b ⟨_, h, _⟩ => by cases h⟩
  have nilW' : ∀ (w' : World), (Owt slV 25 (⟨none, 0, 0⟩ : Sl) []).h w' (fun _ => False) := fun w' => ⟨Own.nil _ _ _ _, fun b ⟨_, h, _⟩ => by cases h⟩
  have hS7 := (hS6.new (.mx 2 23) (G := fun _ => False) (Ex.refl _) (nilW' w6) (fun b hb => hb.elim)).new (.mx 2 24) (G := fun _ => False) (Ex.refl _) (nilW w6) (fun b hb => hb.elim)
  obtain ⟨T7, hT7e⟩ : ∃ T7, T7 = ((((T1.up (.mx 2 9) (Owt natV 3 us ((lostL (k + m) L).take k))).up (.mx 2 26) (RdaT s6 [(ma, ua, ra, ⟨none, 0, 0⟩, ()), (mb, ub, rb, ⟨none, 0, 0⟩, ()), (md, ud, rd, ⟨none, 0, 0⟩, ())])).up (.mx 2 23) (Owt slV 25 (⟨none, 0, 0⟩ : Sl) [])).up (.mx 2 24) (Owt slV 24 (⟨none, 0, 0⟩ : Sl) [])) := ⟨_, rfl⟩
  rw [← hT7e] at hS7
  have n7 : ∀ q, q ≠ .mx 2 9 → q ≠ .mx 2 26 → q ≠ .mx 2 23 → q ≠ .mx 2 24 → T7 q = T1 q := fun q c1 c2 c3 c4 => by rw [hT7e, Ths.up_ne _ _ c4, Ths.up_ne _ _ c3, Ths.up_ne _ _ c2, Ths.up_ne _ _ c1]
  have u7 : T7 (.mx 2 9) = Owt natV 3 us ((lostL (k + m) L).take k) := by rw [hT7e, Ths.up_ne _ _ (by simp), Ths.up_ne _ _ (by simp), Ths.up_ne _ _ (by simp), Ths.up_same]
  have p7 : T7 (.mx 2 26) = RdaT s6 [(ma, ua, ra, ⟨none, 0, 0⟩, ()), (mb, ub, rb, ⟨none, 0, 0⟩, ()), (md, ud, rd, ⟨none, 0, 0⟩, ())] := by rw [hT7e, Ths.up_ne _ _ (by simp), Ths.up_ne _ _ (by simp), Ths.up_same]
  have i7 : T7 (.mx 2 23) = Owt slV 25 (⟨none, 0, 0⟩ : Sl) [] := by rw [hT7e, Ths.up_ne _ _ (by simp), Ths.up_same]
  have r7 : T7 (.mx 2 24) = Owt slV 24 (⟨none, 0, 0⟩ : Sl) [] := by rw [hT7e, Ths.up_same]
  clear hT7e
  have q7 : ∀ i, i ≠ 8 → i ≠ 9 → i ≠ 26 → i ≠ 23 → i ≠ 24 → T7 (.mx 2 i) = T (.mx 2 i) := fun i c0 c1 c2 c3 c4 => (n7 _ (by simpa using c1) (by simpa using c2) (by simpa using c3) (by simpa using c4)).trans (n1 _ (by simpa using c0))
  obtain ⟨PL, hPL⟩ : ∃ PL : List (Ats P4), PL = [(ma, ua, ra, ⟨none, 0, 0⟩, ()), (mb, ub, rb, ⟨none, 0, 0⟩, ()), (md, ud, rd, ⟨none, 0, 0⟩, ())] := ⟨_, rfl⟩
  obtain ⟨HL, hHL⟩ : ∃ HL : List (List Sl), HL = [hsa, hsb, hsd] := ⟨_, rfl⟩
  have hP3 : PL.length = 3 := by rw [hPL]; rfl
  have hH3 : HL.length = 3 := by rw [hHL]; rfl
  rw [← hPL] at p7
  have hHr : ∀ (i : Nat) (p : Ats P4) (h : List Sl) (w' : World) (T' : Ths), PL[i]? = some p → HL[i]? = some h → Sep W w' T' → (∀ j, j = 12 ∨ j = 15 ∨ j = 18 → T' (.mx 2 j) = T7 (.mx 2 j)) → Rds slV w' p.2.2.1 h ∧ h.length ≤ 12 := by
    intro i p h w' T' e1 e2 e3 e4
    rw [hPL] at e1
    rw [hHL] at e2
    match i, e1, e2 with
    | 0, e1, e2 => cases e1; cases e2; exact ⟨(sh_get e3 ((e4 12 (.inl rfl)).trans ((q7 12 (by omega) (by omega) (by omega) (by omega) (by omega)).trans a2))).1.rds, by omega⟩
    | 1, e1, e2 => cases e1; cases e2; exact ⟨(sh_get e3 ((e4 15 (.inr (.inl rfl))).trans ((q7 15 (by omega) (by omega) (by omega) (by omega) (by omega)).trans b2))).1.rds, by omega⟩
    | 2, e1, e2 => cases e1; cases e2; exact ⟨(sh_get e3 ((e4 18 (.inr (.inr rfl))).trans ((q7 18 (by omega) (by omega) (by omega) (by omega) (by omega)).trans d2))).1.rds, by omega⟩
    | i + 3, e1, e2 => simp at e1
  unfold q17McodeLists.l3
  refine adZ (fun st w' => ∃ (i : Nat) (si sr : Sl) (T' : Ths), st = (at0 a.cp, sm, ⟨ga, 0, none⟩, ⟨gb, 0, none⟩, so, sk, us, si, sr, s6, ((s6.len : Nat) : Int), (i : Int), ()) ∧ i ≤ 3 ∧ Sep W w' T' ∧ T' (.mx 2 23) = Owt slV 25 si ((PL.take i).flatMap (fun p => [p.1, p.2.1])) ∧ T' (.mx 2 24) = Owt slV 24 sr (HL.take i).flatten ∧ ((PL.take i).flatMap (fun p => [p.1, p.2.1])).length = 2 * i ∧ (HL.take i).flatten.length ≤ 12 * i ∧
      ∀ q, q ≠ .mx 2 23 → q ≠ .mx 2 24 → q ≠ .mx 2 27 → T' q = T7 q) (fun st _ => ((3 : Int) - st.2.2.2.2.2.2.2.2.2.2.2.1).toNat) ?_
    ⟨0, ⟨none, 0, 0⟩, ⟨none, 0, 0⟩, T7, rfl, by omega, hS7, i7, r7, rfl, Nat.le_refl _, fun _ _ _ _ => rfl⟩
  rintro kk _ w8 ⟨i, si, sr, T8, rfl, hi, hS8, i8, r8, li8, lr8, n8⟩ hkk
  unfold q17McodeLists.b3
  dsimp only at hkk ⊢
  refine abZ (fun hlt => ?_) (fun hge => ?_)
  · have hi3 : i < 3 := by omega
    obtain ⟨p, hp⟩ := atx (l := PL) (i := i) (by omega)
    obtain ⟨h, hh⟩ := atx (l := HL) (i := i) (by omega)
    have hrda := rda_get hS8 ((n8 _ (by simp) (by simp) (by simp)).trans p7)
    refine Pu_idxA hrda tP4 sP4 (by omega) (by omega) fun a' y hy hcell _ => ?_
    rw [Int.toNat_natCast, hp] at hy
    cases hy
    refine Rd_agg (ats := P4) (x := p) (by kernel_rfl) hcell ?_
    refine plan_new (x := p) fun w9 hB9 hx9 => ?_
    have hS9 := hS8.box (.mx 2 27) hx9 hB9
    generalize w8.heap.size = gp at hB9 hS9 ⊢
    refine aiZ (c := .sl) (x := p.1) (B := gp) (i := 0) hB9 (by kernel_rfl) rfl ?_
    refine aiZ (c := .sl) (x := p.2.1) (B := gp) (i := 1) hB9 (by kernel_rfl) rfl ?_
    refine Wr_lit (f := slV) (e := 25) (base := w9.heap.size) [p.1, p.2.1] (by kernel_rfl) (Nat.le_refl _) (by simp) fun s10 w10 ho10 hx10 _ => ?_
    have hS10 := hS9.exx hx10
    have i10 : (T8.up (.mx 2 27) (Cel gp (afZ P4 p) 49)) (.mx 2 23) = Owt slV 25 si ((PL.take i).flatMap (fun p => [p.1, p.2.1])) := (Ths.up_ne _ _ (by simp)).trans i8
    have r10 : (T8.up (.mx 2 27) (Cel gp (afZ P4 p) 49)) (.mx 2 24) = Owt slV 24 sr (HL.take i).flatten := (Ths.up_ne _ _ (by simp)).trans r8
    refine Wr_append (f := slV) (base := 0) tII iII rfl (hS10.owt i10) ho10.rds (fun _ => rfl) (by rw [li8]; simp; omega) (by rw [li8]; simp; omega) (Nat.zero_le _) fun si' w11 ho11 hm11 hin11 => ?_
    have hS11 := hS10.grow i10 ho11 hm11 hin11
    refine aiZ (c := .sl) (x := p.2.2.1) (B := gp) (i := 2) (hS11.has ((Ths.up_ne _ _ (by simp)).trans (Ths.up_same _ _ _))) (by kernel_rfl) rfl ?_
    have r11 := (Ths.up_ne _ (Owt slV 25 si' ((PL.take i).flatMap (fun p => [p.1, p.2.1]) ++ [p.1, p.2.1])) (show (.mx 2 24 : Ky) ≠ .mx 2 23 by simp)).trans r10
    obtain ⟨hrr, hrl⟩ := hHr i p h w11 _ hp hh hS11 (fun j hj => by rw [Ths.up_ne _ _ (by simp; omega), Ths.up_ne _ _ (by simp; omega)]; exact n8 _ (by simp; omega) (by simp; omega) (by simp; omega))
    refine Wr_append (f := slV) (base := 0) tBB iS rfl (hS11.owt r11) hrr (fun _ => rfl) (by omega) (by omega) (Nat.zero_le _) fun sr' w12 ho12 hm12 hin12 => ?_
    have hS12 := hS11.grow r11 ho12 hm12 hin12
    rw [acZ (x := (i : Int) + 1) (by omega) (by omega), show (i : Int) + 1 = ((i + 1 : Nat) : Int) by omega]
    have eP : (PL.take (i + 1)).flatMap (fun p => [p.1, p.2.1]) = (PL.take i).flatMap (fun p => [p.1, p.2.1]) ++ [p.1, p.2.1] := by rw [List.take_succ, hp, List.flatMap_append]; simp
    have eH : (HL.take (i + 1)).flatten = (HL.take i).flatten ++ h := by rw [List.take_succ, hh, List.flatten_append]; simp
    refine hkk _ _ ⟨i + 1, si', sr', _, rfl, by omega, hS12, ?_, ?_, ?_, ?_, fun q c1 c2 c3 => ?_⟩ (by dsimp only; omega)
    · rw [Ths.up_ne _ _ (by simp), Ths.up_same, eP]
    · rw [Ths.up_same, eH]
    · rw [eP, List.length_append, li8]; simp; omega
    · rw [eH, List.length_append]; omega
    · rw [Ths.up_ne _ _ c2, Ths.up_ne _ _ c1, Ths.up_ne _ _ c3]; exact n8 q c1 c2 c3
  · have hie : i = 3 := by omega
    subst hie
    have eP : (PL.take 3).flatMap (fun p => [p.1, p.2.1]) = [ma, ua, mb, ub, md, ud] := by rw [hPL]; rfl
    have eH : (HL.take 3).flatten = hsa ++ hsb ++ hsd := by rw [hHL]; simp
    rw [eP] at i8
    rw [eH] at r8
    have q8 : ∀ i, i ≠ 8 → i ≠ 9 → i ≠ 26 → i ≠ 23 → i ≠ 24 → i ≠ 27 → T8 (.mx 2 i) = T (.mx 2 i) := fun i c0 c1 c2 c3 c4 c5 => (n8 _ (by simpa using c3) (by simpa using c4) (by simpa using c5)).trans (q7 i c0 c1 c2 c3 c4)
    obtain ⟨T9, hS9, j9, n9⟩ := six_ints hS8 ((q8 10 (by omega) (by omega) (by omega) (by omega) (by omega) (by omega)).trans a0) ((q8 11 (by omega) (by omega) (by omega) (by omega) (by omega) (by omega)).trans a1) ((q8 13 (by omega) (by omega) (by omega) (by omega) (by omega) (by omega)).trans b0) ((q8 14 (by omega) (by omega) (by omega) (by omega) (by omega) (by omega)).trans b1) ((q8 16 (by omega) (by omega) (by omega) (by omega) (by omega) (by omega)).trans d0) ((q8 17 (by omega) (by omega) (by omega) (by omega) (by omega) (by omega)).trans d1)
    have i9 := (n9 (.mx 2 23) (by simp) (by simp) (by simp) (by simp) (by simp) (by simp)).trans i8
    refine aeZ (iapart_ok (.mx 2 33) (by simp) hS9 j9 (fun w' T' h' hT' => (h'.owt ((hT' _ (by simp) (by simp)).trans i9)).rds) (by simp) (fun l hl => ?_)) ?_
    · simp only [List.mem_cons, List.not_mem_nil, or_false] at hl
      rcases hl with rfl | rfl | rfl | rfl | rfl | rfl <;> rw [List.length_map] <;> (try rw [List.length_take]) <;> omega
    rintro _ w10 ⟨rfl, T10, hS10, j10, n10⟩
    refine Cd_f ?_
    have n910 : ∀ q, q ≠ .mx 2 10 → q ≠ .mx 2 11 → q ≠ .mx 2 13 → q ≠ .mx 2 14 → q ≠ .mx 2 16 → q ≠ .mx 2 17 → q ≠ .mx 2 33 → T10 q = T8 q := fun q c0 c1 c2 c3 c4 c5 c6 => (n10 q c0 c6).trans (n9 q c0 c1 c2 c3 c4 c5)
    have q10 : ∀ i, i ≠ 8 → i ≠ 9 → i ≠ 26 → i ≠ 23 → i ≠ 24 → i ≠ 27 → i ≠ 10 → i ≠ 11 → i ≠ 13 → i ≠ 14 → i ≠ 16 → i ≠ 17 → i ≠ 33 → T10 (.mx 2 i) = T (.mx 2 i) := fun i c0 c1 c2 c3 c4 c5 e0 e1 e2 e3 e4 e5 e6 => (n910 _ (by simpa using e0) (by simpa using e1) (by simpa using e2) (by simpa using e3) (by simpa using e4) (by simpa using e5) (by simpa using e6)).trans (q8 i c0 c1 c2 c3 c4 c5)
    obtain ⟨T11, hS11, j11, a11, b11, d11, n11⟩ := three_sh hS10 ((q10 12 (by omega) (by omega) (by omega) (by omega) (by omega) (by omega) (by omega) (by omega) (by omega) (by omega) (by omega) (by omega) (by omega)).trans a2) ((q10 15 (by omega) (by omega) (by omega) (by omega) (by omega) (by omega) (by omega) (by omega) (by omega) (by omega) (by omega) (by omega) (by omega)).trans b2) ((q10 18 (by omega) (by omega) (by omega) (by omega) (by omega) (by omega) (by omega) (by omega) (by omega) (by omega) (by omega) (by omega) (by omega)).trans d2) hne hne hne2
    have r11 := (n11 (.mx 2 24) (by simp) (by simp) (by simp) (by simp) (by simp) (by simp)).trans ((n910 _ (by simp) (by simp) (by simp) (by simp) (by simp) (by simp) (by simp)).trans r8)
    refine aeZ (apart_ok (.mx 2 33) (by simp) hS11 j11 (fun w' T' h' hT' => (h'.owt ((hT' _ (by simp) (by simp)).trans r11)).rds) (by rw [List.length_append, List.length_append]; omega) (fun l hl => ?_)) ?_
    · rw [List.mem_append, List.mem_append] at hl
      rcases hl with (hl | hl) | hl
      · rw [hDs.2 l hl]; omega
      · rw [hDs.2 l hl]; omega
      · rw [hD2s.2 l hl]; omega
    rintro _ w12 ⟨rfl, T12, hS12, j12, n12⟩
    have m12 : ∀ q, q ≠ .mx 2 10 → q ≠ .mx 2 11 → q ≠ .mx 2 13 → q ≠ .mx 2 14 → q ≠ .mx 2 16 → q ≠ .mx 2 17 → q ≠ .mx 2 33 → q ≠ .mx 2 12 → q ≠ .mx 2 15 → q ≠ .mx 2 18 → q ≠ .mx 2 30 → q ≠ .mx 2 31 → q ≠ .mx 2 32 → q ≠ .mx 2 23 → q ≠ .mx 2 24 → q ≠ .mx 2 27 → T12 q = T7 q := fun q c0 c1 c2 c3 c4 c5 c6 e1 e2 e3 e4 e5 e6 g1 g2 g3 =>
      (n12 q e4 c6).trans ((n11 q e1 e2 e3 e4 e5 e6).trans ((n910 q c0 c1 c2 c3 c4 c5 c6).trans (n8 q g1 g2 g3)))
    have m12' : ∀ i, (∀ j, j = 10 ∨ j = 11 ∨ j = 13 ∨ j = 14 ∨ j = 16 ∨ j = 17 ∨ j = 33 ∨ j = 12 ∨ j = 15 ∨ j = 18 ∨ j = 30 ∨ j = 31 ∨ j = 32 ∨ j = 23 ∨ j = 24 ∨ j = 27 → i ≠ j) → T12 (.mx 2 i) = T7 (.mx 2 i) := fun i hi => m12 _ (by have := hi 10 (by simp); simpa using this) (by have := hi 11 (by simp); simpa using this) (by have := hi 13 (by simp); simpa using this) (by have := hi 14 (by simp); simpa using this) (by have := hi 16 (by simp); simpa using this) (by have := hi 17 (by simp); simpa using this) (by have := hi 33 (by simp); simpa using this) (by have := hi 12 (by simp); simpa using this) (by have := hi 15 (by simp); simpa using this) (by have := hi 18 (by simp); simpa using this) (by have := hi 30 (by simp); simpa using this) (by have := hi 31 (by simp); simpa using this) (by have := hi 32 (by simp); simpa using this) (by have := hi 23 (by simp); simpa using this) (by have := hi 24 (by simp); simpa using this) (by have := hi 27 (by simp); simpa using this)
    have hC12 : Cod T12 0 a f k m b Q es cl := hC.next (fun i => (m12 _ (by simp) (by simp) (by simp) (by simp) (by simp) (by simp) (by simp) (by simp) (by simp) (by simp) (by simp) (by simp) (by simp) (by simp) (by simp) (by simp)).trans ((n7 _ (by simp) (by simp) (by simp) (by simp)).trans (n1 _ (by simp))))
    exact lists_nil hS12 hC12 ((m12' 7 (by omega)).trans ((q7 7 (by omega) (by omega) (by omega) (by omega) (by omega)).trans ho)) ((m12' 6 (by omega)).trans ((q7 6 (by omega) (by omega) (by omega) (by omega) (by omega)).trans hm)) ((m12' 9 (by omega)).trans u7) ((m12' 8 (by omega)).trans ((n7 _ (by simp) (by simp) (by simp) (by simp)).trans k1))
      ((n12 _ (by simp) (by simp)).trans a11) ((n12 _ (by simp) (by simp)).trans b11) ((m12' 20 (by omega)).trans ((q7 20 (by omega) (by omega) (by omega) (by omega) (by omega)).trans a3)) ((m12' 21 (by omega)).trans ((q7 21 (by omega) (by omega) (by omega) (by omega) (by omega)).trans b3)) rfl rfl hbn (by omega) hL hl1 hlm hk2 hm2 hcl hD hDs hR
end Go.Proofs.YtbiilejgfihohaaGreat
namespace Go.Proofs.YtbiilejgfihohaaGreat
open Go Go.Cu Go.RowKit
theorem range_num {n c : Nat} (h : c ≤ n) : NumL n (List.range c) := by
  refine ⟨fun x hx => by have := List.mem_range.1 hx; omega, fun i x y h1 h2 => ?_⟩
  obtain ⟨a1, e1⟩ := List.getElem?_eq_some_iff.1 h1
  obtain ⟨a2, e2⟩ := List.getElem?_eq_some_iff.1 h2
  rw [List.getElem_range] at e1 e2
  omega
theorem lists_law (n : CodeI) (hn : Code64 n) (W : World) (sp : Sl) (P : List Int) (hp : Rds i64v W sp P) (hP : ∀ x ∈ P, I64 x) (hpl : P.length ≤ 140737488355328) :
    Gv Tryz.prog 6 #[.agg #[.int .i64 n.1, .int .i64 n.2.1, .int .i64 n.2.2.1, .int .i64 n.2.2.2.1], .slice sp.base sp.len sp.cap] (.bool true) W := by
  refine q17McodeLists.run _ n sp W ?_
  generalize hRR : (fun (e : Ending) (w' : World) => e = .returned (.bool true) ∧ Ex W w') = R
  have hR : ∀ w', Mo (fun b => W.heap.size ≤ b) W w' → R (.returned (.bool true)) w' := fun w' m => by subst hRR; exact ⟨rfl, m.new (fun i hi => hi)⟩
  unfold q17McodeLists.M
  refine Wr_box fun w1 hB hx1 => ?_
  refine Rd_hasN (x := n) hB (by kernel_rfl) rfl ?_
  have hS1 := (Sep.init W).exx hx1
  refine open_ok 0 (by omega) hS1 hn fun a T2 Q w2 hS2 hC2 hT2 => ?_
  refine Cd_f (Pu_codnil ?_)
  unfold q17McodeLists.j1
  refine Cd_f ?_
  obtain ⟨k1, k2, _⟩ := cK_ok n
  obtain ⟨m1, m2, _⟩ := cM_ok n
  generalize hk : cK n = k at *
  generalize hm : cM n = m at *
  generalize hf : cF n = f at *
  generalize hb : cB n = b at *
  dsimp only
  obtain ⟨hQ, hMds⟩ := hC2.shp
  have hpl' := hp.1
  refine Cl_gv (d := .one (.at (.int .i64))) (x := intoI ((sp.len : Nat) : Int) 1 (m : Int)) (into_gv (by omega) (by omega) (by omega) (by omega) (by omega)) fun w3 hx3 => ?_
  have hcr2 := into_range (n := ((sp.len : Nat) : Int)) (show (1 : Int) ≤ (m : Int) by omega)
  obtain ⟨cc, hcc⟩ : ∃ c : Nat, intoI ((sp.len : Nat) : Int) 1 (m : Int) = (c : Int) := ⟨(intoI ((sp.len : Nat) : Int) 1 (m : Int)).toNat, by omega⟩
  rw [hcc] at hcr2 ⊢
  rw [acZ (x := (k : Int) + (m : Int)) (by omega) (by omega), show (k : Int) + (m : Int) = ((k + m : Nat) : Int) by omega]
  refine aeZ (pick_sep_ok (.mx 2 5) (hS2.exx hx3) (fun w' T' h' _ => h'.old hp) hP (by omega) (by omega) (by omega)) ?_
  rintro so w4 hS4
  obtain ⟨hBl, hBt⟩ := pickB_ok P (n := k + m) (by omega) cc (by omega)
  generalize pickB (k + m) P cc = B at hS4 hBl hBt
  have hS5 := hS4.new (.mx 2 6) (t := Owt natV 3 ⟨none, 0, 0⟩ []) (G := fun _ => False) (Ex.refl _) ⟨Own.nil _ _ _ _, fun b ⟨_, h, _⟩ => by cases h⟩ (fun b hb => hb.elim)
  obtain ⟨T5, hT5e⟩ : ∃ T5, T5 = (T2.up (.mx 2 5) (Owt bV 4 so B)).up (.mx 2 6) (Owt natV 3 ⟨none, 0, 0⟩ []) := ⟨_, rfl⟩
  rw [← hT5e] at hS5
  have n5 : ∀ q, q ≠ .mx 2 5 → q ≠ .mx 2 6 → T5 q = T2 q := fun q c1 c2 => by rw [hT5e, Ths.up_ne _ _ c2, Ths.up_ne _ _ c1]
  have o5 : T5 (.mx 2 5) = Owt bV 4 so B := by rw [hT5e, Ths.up_ne _ _ (by simp), Ths.up_same]
  unfold q17McodeLists.l1
  refine adZ (fun st w' => ∃ (i : Nat) (sm : Sl) (T' : Ths), st = (at0 a.cp, (k : Int), (m : Int), so, sm, (i : Int), ()) ∧ i ≤ k + m ∧ Sep W w' T' ∧ T' (.mx 2 6) = Owt natV 3 sm ((List.range i).filter (fun r => B.getD r false)) ∧
      ∀ q, q ≠ .mx 2 6 → T' q = T5 q) (fun st _ => (((k + m : Nat) : Int) - st.2.2.2.2.2.1).toNat) ?_
    ⟨0, _, T5, rfl, Nat.zero_le _, hS5, by rw [hT5e, Ths.up_same]; rfl, fun _ _ => rfl⟩
  clear hT5e
  rintro q1 _ w6 ⟨i, sm, T6, rfl, hi, hS6, l6, n6⟩ hq1
  unfold q17McodeLists.b1
  dsimp only at hq1 ⊢
  rw [acZ (x := (k : Int) + (m : Int)) (by omega) (by omega)]
  refine abZ (fun hlt2 => ?_) (fun hge2 => ?_)
  · have hik : i < k + m := by omega
    obtain ⟨bb, hbb⟩ := atx (l := B) (i := i) (by omega)
    have hbD : B.getD i false = bb := getD_get hbb
    have hO6 := hS6.owt ((n6 (.mx 2 5) (by simp)).trans o5)
    refine rd_bool hO6.rds hbb ?_
    have next : ∀ {w' : World} {sm : Sl} {T' : Ths}, Sep W w' T' → T' (.mx 2 6) = Owt natV 3 sm ((List.range (i + 1)).filter (fun r => B.getD r false)) → (∀ q, q ≠ .mx 2 6 → T' q = T5 q) →
        q17McodeLists.j2 R q1 (at0 a.cp) (k : Int) (m : Int) so sm (i : Int) w' := by
      intro w' sm T' c1 c3 c4
      unfold q17McodeLists.j2
      rw [acZ (x := (i : Int) + 1) (by omega) (by omega), show (i : Int) + 1 = ((i + 1 : Nat) : Int) by omega]
      exact hq1 _ _ ⟨i + 1, sm, T', rfl, by omega, c1, c3, c4⟩ (by dsimp only; omega)
    have hfl : ((List.range i).filter (fun r => B.getD r false)).length ≤ i := by
      have := List.length_filter_le (fun r => B.getD r false) (List.range i)
      rwa [List.length_range] at this
    refine Cd_of (fun hbt => ?_) (fun hbf => ?_)
    · have hbD' := hbD.trans hbt
      refine Wr_lit (f := natV) (e := 3) (base := w6.heap.size) [i] (by kernel_rfl) (Nat.le_refl _) (by simp) fun s7 w7 ho7 hx7 _ => ?_
      have hS7 := hS6.exx hx7
      refine Wr_append (f := natV) (base := 0) tI iI rfl (hS7.owt l6) ho7.rds (fun _ => rfl) (by rw [List.length_singleton]; omega) (by rw [List.length_singleton]; omega) (Nat.zero_le _) fun sm' w8 ho8 hm8 hin8 => ?_
      have hS8 := hS7.grow l6 ho8 hm8 hin8
      refine next (sm := sm') hS8 ?_ (fun q c1 => ?_)
      · rw [Ths.up_same, filt_succ, if_pos hbD']
      · rw [Ths.up_ne _ _ c1]; exact n6 q c1
    · have hbD' := hbD.trans hbf
      refine next (sm := sm) hS6 ?_ n6
      · rw [l6, filt_succ, if_neg (by rw [hbD']; simp), List.append_nil]
  clear hq1
  have hie : i = k + m := by omega
  subst hie
  have hL := bools_num B (k + m)
  have hLc : ((List.range (k + m)).filter (fun r => B.getD r false)).length = cc := by rw [← hBt, ← trues_range B, hBl]
  generalize (List.range (k + m)).filter (fun r => B.getD r false) = L at l6 hL hLc
  have hC6 : Cod T6 0 a f k m b Q [] 0 := hC2.next (fun i => (n6 _ (by simp)).trans (n5 _ (by simp) (by simp)))
  obtain ⟨D, hD, hDs⟩ := plan_dec (f := f) hQ hMds hL (by omega)
  have hll := lostL_length hL
  refine aeZ (plan_ok (km := .mx 2 6) (sl := sm) (L := L) hS6 hC6 (npl 6) (fun w F h => by rw [l6] at h; exact ⟨h.1.rds, h.2⟩) hL (by omega) (by omega) (by omega)) ?_
  rintro _ w7 ⟨ma, ua, ra, hsa, Da, T7, es7, cl7, rfl, hS7, hDa, M7, U7, R7, hC7, hcl7, _, n7⟩
  rw [hD] at hDa
  cases hDa
  dsimp only
  refine plan_new (x := ((ma, ua, ra, ⟨none, 0, 0⟩, ()) : Ats P4)) fun w8 hB8 hx8 => ?_
  obtain ⟨T8, hS8, a0, a1, a2, a3, n8⟩ := plan_keep 10 11 12 20 (by omega) (by omega) (by omega) (by omega) (by omega) (by omega) hS7 M7 U7 R7 hx8 hB8
  generalize w7.heap.size = ga at a3 ⊢
  have l8 := ((n8 (.mx 2 6) (by simp) (by simp) (by simp) (by simp) (by simp) (by simp) (by simp)).trans (n7 _ (npl 6))).trans l6
  have hC8 : Cod T8 0 a f k m b Q es7 cl7 := hC7.next (fun i => n8 _ (by simp) (by simp) (by simp) (by simp) (by simp) (by simp) (by simp))
  refine aeZ (plan_ok (km := .mx 2 6) (sl := sm) (L := L) hS8 hC8 (npl 6) (fun w F h => by rw [l8] at h; exact ⟨h.1.rds, h.2⟩) hL (by omega) (by omega) (by omega)) ?_
  rintro _ w9 ⟨mb, ub, rb, hsb, Db, T9, es9, cl9, rfl, hS9, hDb, M9, U9, R9, hC9, hcl9, _, n9⟩
  rw [hD] at hDb
  cases hDb
  dsimp only
  refine plan_new (x := ((mb, ub, rb, ⟨none, 0, 0⟩, ()) : Ats P4)) fun w10 hB10 hx10 => ?_
  obtain ⟨T10, hS10, b0, b1, b2, b3, n10⟩ := plan_keep 13 14 15 21 (by omega) (by omega) (by omega) (by omega) (by omega) (by omega) hS9 M9 U9 R9 hx10 hB10
  generalize w9.heap.size = gb at b3 ⊢
  have k10 : ∀ i, i ≠ 13 → i ≠ 14 → i ≠ 15 → i ≠ 21 → T10 (.mx 2 i) = T8 (.mx 2 i) := fun i c1 c2 c3 c4 => (n10 _ (by simpa using c1) (by simpa using c2) (by simpa using c3) (by simpa using c4) (by simp) (by simp) (by simp)).trans (n9 _ (npl i))
  have l10 := (k10 6 (by omega) (by omega) (by omega) (by omega)).trans l8
  have hC10 : Cod T10 0 a f k m b Q es9 cl9 := hC9.next (fun i => n10 _ (by simp) (by simp) (by simp) (by simp) (by simp) (by simp) (by simp))
  refine Wr_cpints (hS10.owt l10).rds (by omega) fun sold w11 ho11 hx11 => ?_
  have hS11 := hS10.newOwn (.mx 2 7) hx11 ho11
  have n11 : ∀ q, q ≠ .mx 2 7 → (T10.up (.mx 2 7) (Owt natV 3 sold L)) q = T10 q := fun q hq => Ths.up_ne _ _ hq
  have o11 : (T10.up (.mx 2 7) (Owt natV 3 sold L)) (.mx 2 7) = Owt natV 3 sold L := Ths.up_same _ _ _
  generalize T10.up (.mx 2 7) (Owt natV 3 sold L) = T11 at hS11 n11 o11
  have l11 := (n11 (.mx 2 6) (by simp)).trans l10
  unfold q17McodeLists.l2
  refine adZ (fun st w' => ∃ (i : Nat) (T' : Ths), st = (at0 a.cp, (k : Int), sm, ⟨ga, 0, none⟩, (0 : Int), ⟨gb, 0, none⟩, (0 : Int), sold, (i : Int), ()) ∧ i ≤ L.length ∧ Sep W w' T' ∧ T' (.mx 2 6) = Owt natV 3 sm (List.range i ++ L.drop i) ∧ ∀ q, q ≠ .mx 2 6 → T' q = T11 q) (fun st _ => ((L.length : Int) - st.2.2.2.2.2.2.2.2.1).toNat) ?_
    ⟨0, T11, rfl, Nat.zero_le _, hS11, by rw [l11]; simp, fun _ _ => rfl⟩
  rintro q2 _ w12 ⟨i, T12, rfl, hi2, hS12, l12, n12⟩ hq2
  unfold q17McodeLists.b2
  dsimp only at hq2 ⊢
  have hO12 := hS12.owt l12
  have hsml := hO12.rds.1
  have hrl : (List.range i ++ L.drop i).length = L.length := by rw [List.length_append, List.length_range, List.length_drop]; omega
  refine abZ (fun hlt => ?_) (fun hge => ?_)
  · refine Wu_set (f := natV) (x := i) (i := i) hO12 (by omega) tI sI sI rfl rfl fun w13 hO13 hm13 => ?_
    have hS13 := hS12.grow l12 hO13 hm13 (fun b hb => .inl hb)
    have e1 : (List.range i ++ L.drop i).set i i = List.range (i + 1) ++ L.drop (i + 1) := by
      rw [List.set_append_right _ _ (by rw [List.length_range]; exact Nat.le_refl _), List.length_range, Nat.sub_self, List.drop_eq_getElem_cons (by omega), List.set_cons_zero, List.range_succ, List.append_assoc]
      rfl
    rw [e1] at hS13
    rw [acZ (x := (i : Int) + 1) (by omega) (by omega), show (i : Int) + 1 = ((i + 1 : Nat) : Int) by omega]
    exact hq2 _ _ ⟨i + 1, _, rfl, by omega, hS13, Ths.up_same _ _ _, fun q hq => by rw [Ths.up_ne _ _ hq]; exact n12 q hq⟩ (by dsimp only; omega)
  clear hq2
  have hie : i = L.length := by omega
  subst hie
  rw [List.drop_of_length_le (Nat.le_refl _), List.append_nil] at l12
  have hL2 : NumL (k + m) (List.range L.length) := range_num (by omega)
  obtain ⟨D2, hD2, hD2s⟩ := plan_dec (f := f) hQ hMds hL2 (by rw [List.length_range]; omega)
  rw [List.length_range] at hD2s
  have hC12 : Cod T12 0 a f k m b Q es9 cl9 := hC10.next (fun i => (n12 _ (by simp)).trans (n11 _ (by simp)))
  refine aeZ (plan_ok (km := .mx 2 6) (sl := sm) (L := List.range L.length) hS12 hC12 (npl 6) (fun w F h => by rw [l12] at h; exact ⟨h.1.rds, h.2⟩) hL2 (by rw [List.length_range]; omega) (by rw [List.length_range]; omega) (by omega)) ?_
  rintro _ w13 ⟨md, ud, rd, hsd, Dd, T13, es13, cl13, rfl, hS13, hDd, M13, U13, R13, hC13, hcl13, _, n13⟩
  rw [hD2] at hDd
  cases hDd
  dsimp only
  refine plan_new (x := ((md, ud, rd, ⟨none, 0, 0⟩, ()) : Ats P4)) fun w14 hB14 hx14 => ?_
  obtain ⟨T14, hS14, d0, d1, d2, d3, n14⟩ := plan_keep 16 17 18 22 (by omega) (by omega) (by omega) (by omega) (by omega) (by omega) hS13 M13 U13 R13 hx14 hB14
  generalize w13.heap.size = gd at d3 ⊢
  have k14 : ∀ i, i ≠ 16 → i ≠ 17 → i ≠ 18 → i ≠ 22 → T14 (.mx 2 i) = T12 (.mx 2 i) := fun i c1 c2 c3 c4 => (n14 _ (by simpa using c1) (by simpa using c2) (by simpa using c3) (by simpa using c4) (by simp) (by simp) (by simp)).trans (n13 _ (npl i))
  have k14' : ∀ i, i ≠ 16 → i ≠ 17 → i ≠ 18 → i ≠ 22 → i ≠ 6 → i ≠ 7 → T14 (.mx 2 i) = T10 (.mx 2 i) := fun i c1 c2 c3 c4 c5 c6 => (k14 i c1 c2 c3 c4).trans ((n12 _ (by simpa using c5)).trans (n11 _ (by simpa using c6)))
  have hC14 : Cod T14 0 a f k m b Q es13 cl13 := hC13.next (fun i => n14 _ (by simp) (by simp) (by simp) (by simp) (by simp) (by simp) (by simp))
  have l14 := (k14 6 (by omega) (by omega) (by omega) (by omega)).trans l12
  have o14 := (k14 7 (by omega) (by omega) (by omega) (by omega)).trans ((n12 _ (by simp)).trans o11)
  have A0 := (k14' 10 (by omega) (by omega) (by omega) (by omega) (by omega) (by omega)).trans ((k10 10 (by omega) (by omega) (by omega) (by omega)).trans a0)
  have A1 := (k14' 11 (by omega) (by omega) (by omega) (by omega) (by omega) (by omega)).trans ((k10 11 (by omega) (by omega) (by omega) (by omega)).trans a1)
  have A2 := (k14' 12 (by omega) (by omega) (by omega) (by omega) (by omega) (by omega)).trans ((k10 12 (by omega) (by omega) (by omega) (by omega)).trans a2)
  have A3 := (k14' 20 (by omega) (by omega) (by omega) (by omega) (by omega) (by omega)).trans ((k10 20 (by omega) (by omega) (by omega) (by omega)).trans a3)
  have B0 := (k14' 13 (by omega) (by omega) (by omega) (by omega) (by omega) (by omega)).trans b0
  have B1 := (k14' 14 (by omega) (by omega) (by omega) (by omega) (by omega) (by omega)).trans b1
  have B2 := (k14' 15 (by omega) (by omega) (by omega) (by omega) (by omega) (by omega)).trans b2
  have B3 := (k14' 21 (by omega) (by omega) (by omega) (by omega) (by omega) (by omega)).trans b3
  have hUl : ((lostL (k + m) L).take k).length = k := by rw [List.length_take]; omega
  have hll2 := lostL_length hL2
  refine Cd_ne (fun h => absurd rfl h) (fun _ => ?_)
  refine Cd_ne (fun h => absurd rfl h) (fun _ => ?_)
  refine Cd_ne (fun h => absurd rfl h) (fun _ => ?_)
  refine aiZ (c := .sl) (x := ma) (B := ga) (i := 0) (hS14.has A3) (by kernel_rfl) rfl ?_
  refine Cl_gv (d := .one (.at .bool)) (x := true) (by have := same_gv (int_rds hS14 A0) (hS14.owt o14).rds (by omega); rw [decide_eq_true rfl] at this; exact this) fun w15 hx15 => ?_
  refine Cd_f ?_
  have hS15 := hS14.exx hx15
  refine aiZ (c := .sl) (x := mb) (B := gb) (i := 0) (hS15.has B3) (by kernel_rfl) rfl ?_
  refine Cl_gv (d := .one (.at .bool)) (x := true) (by have := same_gv (int_rds hS15 B0) (hS15.owt o14).rds (by omega); rw [decide_eq_true rfl] at this; exact this) fun w16 hx16 => ?_
  refine Cd_f ?_
  have hS16 := hS15.exx hx16
  refine aiZ (c := .sl) (x := ua) (B := ga) (i := 1) (hS16.has A3) (by kernel_rfl) rfl ?_
  refine aiZ (c := .sl) (x := ub) (B := gb) (i := 1) (hS16.has B3) (by kernel_rfl) rfl ?_
  refine Cl_gv (d := .one (.at .bool)) (x := true) (by have := same_gv (int_rds hS16 A1) (int_rds hS16 B1) (by omega); rw [decide_eq_true rfl] at this; exact this) fun w17 hx17 => ?_
  refine Cd_f ?_
  have hS17 := hS16.exx hx17
  refine aiZ (c := .sl) (x := ra) (B := ga) (i := 2) (hS17.has A3) (by kernel_rfl) rfl ?_
  refine aiZ (c := .sl) (x := rb) (B := gb) (i := 2) (hS17.has B3) (by kernel_rfl) rfl ?_
  refine Cl_gv (d := .one (.at .bool)) (x := true) (by have := alike_gv (sh_matR hS17 A2) (sh_matR hS17 B2) (by rw [hDs.1]; omega) (fun r hr => by rw [hDs.2 r hr]; omega); rw [decide_eq_true rfl] at this; exact this) fun w18 hx18 => ?_
  refine Cd_f ?_
  have hS18 := hS17.exx hx18
  have hual := (int_rds hS18 A1).1
  rw [hUl] at hual
  refine aiZ (c := .sl) (x := ua) (B := ga) (i := 1) (hS18.has A3) (by kernel_rfl) rfl ?_
  refine Cd_ne (fun h => absurd (by rw [hual]) h) (fun _ => ?_)
  refine aiZ (c := .sl) (x := ra) (B := ga) (i := 2) (hS18.has A3) (by kernel_rfl) rfl ?_
  obtain ⟨p1, p2, _⟩ := sh_get hS18 A2
  have p3 := p1.rds.1
  have p4 := (hS18.owt o14).rds.1
  have hfin : (((ra.len : Nat) : Int) != ((sold.len : Nat) : Int)) = false := by rw [p3, p2, hDs.1, p4]; simp
  rw [hfin]
  exact lists_mid hS18 hC14 o14 l14 A0 A1 A2 A3 B0 B1 B2 B3 d0 d1 d2 d3 hL (by omega) (by omega) k1 k2 m2 (by omega) hD hDs hD2s (by rw [List.length_range]; omega) (by rw [List.length_take]; omega) hR
theorem lists_open (n : CodeI) (hn : Code64 n) (W : World) (s2 : Sl) (x2 : List Int) (r2 : Rds i64v W s2 x2 ∧ x2.length ≤ 140737488355328 ∧ ∀ z ∈ x2, I64 z) :
    Gv Tryz.prog 6 #[.agg #[.int .i64 n.1, .int .i64 n.2.1, .int .i64 n.2.2.1, .int .i64 n.2.2.2.1], .slice s2.base s2.len s2.cap] (.bool true) W :=
  lists_law n hn W s2 x2 r2.1 r2.2.2 r2.2.1
end Go.Proofs.YtbiilejgfihohaaGreat
namespace Go.Cu
open Go Go.RowKit Go.ChangeShapes Go.WideShapes
section
variable {H : Type} {enc : TypeId × Value → H} {P : Program}
def okW (P : Program) (t : TypeId) (d : DataW H) : Prop := ∀ n ∈ d.weights P t, n ≤ reachBytes
theorem okW_each {ts : List TypeId} {ds : List (DataW H)} {j : Nat} {t : TypeId} {d : DataW H} (h : (DataW.weightsEach P ts ds).all (· ≤ reachBytes) = true) (ht : ts[j]? = some t) (hd : ds[j]? = some d) : okW P t d :=
  fun n hn => by simpa using List.all_eq_true.1 h n (DataW.weights_mem_each ht hd n hn)
theorem weights_mem_all {e : TypeId} : ∀ {ds : List (DataW H)} {j : Nat} {d : DataW H}, ds[j]? = some d → ∀ n ∈ d.weights P e, n ∈ DataW.weightsAll P e ds
  | d0 :: ds, 0, d, hd, n, hn => by
    simp only [List.getElem?_cons_zero, Option.some.injEq] at hd
    subst hd
    simp only [DataW.weightsAll, List.mem_append]; exact .inl hn
  | d0 :: ds, j + 1, d, hd, n, hn => by
    simp only [List.getElem?_cons_succ] at hd
    simp only [DataW.weightsAll, List.mem_append]; exact .inr (weights_mem_all hd n hn)
theorem okW_slice {t e : TypeId} {elems sp : List (DataW H)} (h : okW P t (.slice elems sp)) (ht : P.underlying t = some (.slice e)) :
    (elems.length + sp.length) * P.bytesOf e ≤ reachBytes ∧ ∀ (j : Nat) (d : DataW H), elems[j]? = some d → okW P e d := by
  unfold okW at h
  simp only [DataW.weights, ht, List.mem_cons, List.mem_append] at h
  exact ⟨h _ (.inl rfl), fun j d hd n hn => h n (.inr (.inl (weights_mem_all hd n hn)))⟩
theorem open_nums {W : World} {base : Nat} {held : Bool} {t e : TypeId} {k : IntKind} {fuel : Nat} {v : Value} {x : DataW H × List MemPlace} (ht : P.underlying t = some (.slice e)) (he : P.underlying e = some (.int k)) (hc : P.cellsOf e = 1) (hb : 1 ≤ P.bytesOf e)
    (h : DataW.trod enc P W base (fun _ => true) held fuel t [v] = some x) (hw : okW P t x.1) :
    ∃ (s : Sl) (l : List Int), v = .slice s.base s.len s.cap ∧ Rds (.int k) W s l ∧ (∀ n ∈ l, (Lit.int k n).wf = true) ∧ l.length ≤ 140737488351232 := by
  rcases open_ints ht he hc h with ⟨h1, rfl⟩ | ⟨a, len, cap, zs, h1, _, hl, hm, hz, rfl, hcell, hwf⟩
  · injection h1 with h1 _
    subst h1
    exact ⟨⟨none, 0, 0⟩, [], rfl, Rds.nil _ _, by simp, by simp⟩
  · injection h1 with h1 _
    subst h1
    simp only [if_true] at hz
    have hwt := (okW_slice hw ht).1
    have hmul : ∀ n, n * 1 ≤ n * P.bytesOf e := fun n => Nat.mul_le_mul_left n hb
    have hlen : (zs.take len).length = len := by rw [List.length_take]; omega
    have := hmul ((lits (H := H) k (zs.take len)).length + (lits (H := H) k (zs.drop len)).length)
    have e1 : (lits (H := H) k (zs.take len)).length = len := by simp [lits]; omega
    have hr : reachBytes = 140737488351232 := rfl
    refine ⟨⟨some a, len, cap⟩, zs.take len, rfl, ⟨hlen.symm, hl, fun i x hi => ⟨a, rfl, ?_⟩⟩, fun n hn => hwf n (List.mem_of_mem_take hn), by omega⟩
    rw [List.getElem?_take] at hi
    split at hi
    · have hi' : i < zs.length := (List.getElem?_eq_some_iff.1 hi).1
      rw [hcell i hi', List.getD_eq_getElem?_getD, hi]; rfl
    · cases hi
theorem one_of_take {cs : List Value} {o : Nat} {v : Value} (h : (cs.drop o).take 1 = [v]) : cs[o]? = some v := by
  have : ((cs.drop o).take 1)[0]? = some v := by rw [h]; rfl
  rw [List.getElem?_take, if_pos (by omega), List.getElem?_drop] at this
  simpa using this
end
end Go.Cu
namespace Go.Cu
open Go Go.RowKit Go.ChangeShapes Go.WideShapes
section
variable {H : Type} {enc : TypeId × Value → H} {P : Program}
theorem trodAll_ex (hl : laidOutB P = true) {W W' : World} (hx : Ex W W') : ∀ {ts : List TypeId} {vs : List Value} {ds : List (DataW H)} {ps : List MemPlace}, (∀ t ∈ ts, P.readableRec t = true ∧ t < P.types.size) →
    DataW.TrodAll enc P W 0 (fun _ => true) true ts vs ds ps → DataW.TrodAll enc P W' 0 (fun b => decide (b < W.heap.size)) true ts vs ds ps
  | [], vs, ds, ps, _, h => by
    obtain ⟨rfl, rfl, rfl⟩ := trodAll_nil h
    exact rfl
  | t :: ts, vs, ds, ps, hr, h => by
    obtain ⟨v, vs', d, ds', p, q, rfl, rfl, rfl, h0, h1⟩ := trodAll_cons h
    obtain ⟨r1, r2⟩ := hr t List.mem_cons_self
    have hlt : ∀ x ∈ p, x.block < W.heap.size := by
      obtain ⟨fuel, hf⟩ := h0
      exact fun x hx' => DataW.trod_lt fuel _ _ _ hf x hx'
    exact ⟨p, q, Below.trod hl r1 r2 h0 hx.below hlt, trodAll_ex hl hx (fun t ht => hr t (List.mem_cons_of_mem _ ht)) h1, rfl⟩
theorem trodAll_len : ∀ {ts : List TypeId} {vs : List Value} {ds : List (DataW H)} {ps : List MemPlace} {W : World}, DataW.TrodAll enc P W 0 (fun _ => true) true ts vs ds ps → ds.length = ts.length
  | [], vs, ds, ps, W, h => by obtain ⟨rfl, rfl, rfl⟩ := trodAll_nil h; rfl
  | t :: ts, vs, ds, ps, W, h => by
    obtain ⟨v, vs', d, ds', p, q, rfl, rfl, rfl, h0, h1⟩ := trodAll_cons h
    simp [trodAll_len h1]
theorem contract_all {f : FuncId} {fn : Func} {s : ChangeSpec} {ts : List TypeId} {tb : TypeId} {laid : List (String × DataW Unit)} (hpar : fn.params.toList = ts) (hres : fn.resultTypes.toList = [tb]) (hb : P.underlying tb = some .bool)
    (hl : laidOutB P = true) (hr : ∀ t ∈ ts, P.readableRec t = true ∧ t < P.types.size) (hvars : s.vars = []) (hfn : ∀ ds : List (DataW H), ds.length = ts.length → s.fn H (ds ++ []) = { results := [.lit (.bool true)], args := ds })
    (hcall : ∀ (W : World) (base : Nat) (args : Array Value) (ds : List (DataW H)) (p : List MemPlace), (∀ (j : Nat) t v, ts[j]? = some t → args.toList[j]? = some v → Value.okWide P W .any base t v) → DataW.TrodAll enc P W 0 (fun _ => true) true ts args.toList ds p →
      (∀ (j : Nat) t d, ts[j]? = some t → ds[j]? = some d → okW P t d) → laidMetH P laid W → Gv P f args (.bool true) W)
    (W : World) (base : Nat) (args : Array Value) (ds gs : List (DataW H)) (before : List MemPlace) (hval : ∀ (j : Nat) t v, fn.params[j]? = some t → args[j]? = some v → Value.okWide P W .any base t v)
    (hW : DataW.Whole enc P fn.params.toList s.vars false W args.toList ds gs before)
    (hwt : (DataW.weightsEach P (fn.params.toList ++ (OpenSpec.ofChange s).bare.plain.varTypes P) (ds ++ gs)).all (· ≤ reachBytes) = true) (hL : laidMetH P laid W) :
    Calls P f args W fun e W' => ∃ v, e = .returned v ∧ s.post enc P fn false true false false W args v W' := by
  have hW' := hW
  obtain ⟨p, q, hA, hV, hpq, _, _⟩ := hW
  rw [hpar] at hA
  rw [hvars] at hV
  obtain ⟨rfl, rfl⟩ := trodVars_none hV
  refine (hcall W base args ds p (fun j t v ht hv => hval j t v (by rw [← Array.getElem?_toList, hpar]; exact ht) (by rw [← Array.getElem?_toList]; exact hv)) hA (fun j t d ht hd => ?_) hL).mono fun e W1 ⟨he, hx⟩ => ⟨_, he, ?_⟩
  · refine okW_each (j := j) hwt ?_ ?_
    · rw [hpar]
      rw [List.getElem?_append_left (List.getElem?_eq_some_iff.1 ht).1]; exact ht
    · rw [List.append_nil]; exact hd
  · have hlen := trodAll_len hA
    have hsz : fn.resultTypes.size = 1 := by rw [← Array.length_toList, hres]; rfl
    refine ⟨ds, [], before, [], p, [], hW', ?_, ?_, ?_, hx.below.frame _, fun h => by cases h⟩
    · rw [hres, hsz, hfn ds hlen]; exact trodAll_mk1 (shut_bool hb true)
    · rw [hpar, hfn ds hlen]; exact trodAll_ex hl hx hr hA
    · rw [hvars, hfn ds hlen]; rfl
end
end Go.Cu
namespace Go.Proofs.YtbiilejgfihohaaGreat
open Go Go.Cu Go.ChangeShapes Go.WideShapes Go.RowKit
theorem ownKn : ownKnob Tryz.prog.godebug = none := by kernel_rfl
theorem laidOut : laidOutB Tryz.prog = true := by kernel_rfl
theorem uBool : Program.underlying Tryz.prog 4 = some .bool := by kernel_rfl
theorem uIntO : Program.underlying Tryz.prog 3 = some (.int .i64) := by kernel_rfl
theorem cIntO : Program.cellsOf Tryz.prog 3 = 1 := by kernel_rfl
theorem cCode : Program.cellsOf Tryz.prog 23 = 4 := by kernel_rfl
theorem uCode : Program.underlying Tryz.prog 23 = some (.struct (Program.fieldsOf Tryz.prog 23)) := by kernel_rfl
theorem fCode : (Program.fieldsOf Tryz.prog 23).map (fun f => (f.type, f.offset)) = #[(3, 0), (3, 1), (3, 2), (3, 3)] := by kernel_rfl
theorem field_at {fs : Array Field} {l : Array (TypeId × Nat)} (h : fs.map (fun f => (f.type, f.offset)) = l) {i : Nat} {t : TypeId} {o : Nat} (hi : l[i]? = some (t, o)) : ∃ f, fs[i]? = some f ∧ f.type = t ∧ f.offset = o := by
  rw [← h, Array.getElem?_map] at hi
  cases hf : fs[i]? with
  | none => rw [hf] at hi; cases hi
  | some f =>
    rw [hf] at hi
    simp only [Option.map_some, Option.some.injEq, Prod.mk.injEq] at hi
    exact ⟨f, rfl, hi.1, hi.2⟩
section
variable {H : Type} {enc : TypeId × Value → H}
theorem wf_i64 {z : Int} (h : (Lit.int .i64 z).wf = true) : I64 z := by
  simp only [Lit.wf, IntKind.min, IntKind.max, IntKind.signed, IntKind.bits, Bool.and_eq_true, decide_eq_true_eq] at h
  simp at h
  exact h
theorem open_code {W : World} {fuel : Nat} {v : Value} {x : DataW H × List MemPlace} (h : DataW.trod enc Tryz.prog W 0 (fun _ => true) true fuel 23 v.cells.toList = some x) :
    ∃ n : CodeI, v = .agg #[.int .i64 n.1, .int .i64 n.2.1, .int .i64 n.2.2.1, .int .i64 n.2.2.2.1] ∧ Code64 n := by
  obtain ⟨xs, n, _, rfl, hlen, hxs, hfs⟩ := DataW.trod_struct uCode h
  rw [cCode] at hlen
  have hsz : (Program.fieldsOf Tryz.prog 23).size = 4 := by have := congrArg Array.size fCode; simpa using this
  have num : ∀ (i : Nat), i < 4 → #[(3, 0), (3, 1), (3, 2), (3, 3)][i]? = some (3, i) → ∃ z, v.cells.toList[i]? = some (.int .i64 z) ∧ I64 z := by
    intro i hi hl
    obtain ⟨f, hfi, e1, e2⟩ := field_at fCode hl
    have := hfs i f hfi
    rw [List.getElem?_eq_getElem (by omega), e1, e2, cIntO] at this
    obtain ⟨z, hz, _, hwf⟩ := DataW.trod_int uIntO this
    exact ⟨z, one_of_take hz, wf_i64 hwf⟩
  obtain ⟨z0, e0, w0⟩ := num 0 (by omega) rfl
  obtain ⟨z1, e1, w1⟩ := num 1 (by omega) rfl
  obtain ⟨z2, e2, w2⟩ := num 2 (by omega) rfl
  obtain ⟨z3, e3, w3⟩ := num 3 (by omega) rfl
  have hcs : v.cells.toList = [.int .i64 z0, .int .i64 z1, .int .i64 z2, .int .i64 z3] := by
    generalize v.cells.toList = cs at hlen e0 e1 e2 e3
    match cs, hlen with
    | [a0, a1, a2, a3], _ =>
      simp only [List.getElem?_cons_zero, List.getElem?_cons_succ, Option.some.injEq] at e0 e1 e2 e3
      subst e0 e1 e2 e3
      rfl
  refine ⟨(z0, z1, z2, z3, ()), ?_, ⟨w0, w1, w2, w3⟩⟩
  cases v with
  | agg cs =>
    have : cs.toList = [.int .i64 z0, .int .i64 z1, .int .i64 z2, .int .i64 z3] := hcs
    congr 1
    exact Array.toList_inj.1 (by rw [this])
  | _ => exact absurd (congrArg List.length hcs) (by simp [Value.cells])
theorem open_i64s {W : World} {fuel : Nat} {v : Value} {x : DataW H × List MemPlace} (h : DataW.trod enc Tryz.prog W 0 (fun _ => true) true fuel 25 [v] = some x) (hw : okW Tryz.prog 25 x.1) :
    ∃ (s : Sl) (l : List Int), v = .slice s.base s.len s.cap ∧ Rds i64v W s l ∧ l.length ≤ 140737488355328 ∧ ∀ z ∈ l, I64 z := by
  obtain ⟨s, l, hv, hr, hwf, hl⟩ := open_nums (k := .i64) tI uIntO cIntO (Nat.le_of_ble_eq_true (by kernel_rfl)) h hw
  exact ⟨s, l, hv, hr, by omega, fun z hz => wf_i64 (hwf z hz)⟩
end
noncomputable abbrev zeroCode : Value := .agg #[.int .i64 0, .int .i64 0, .int .i64 0, .int .i64 0]
end Go.Proofs.YtbiilejgfihohaaGreat
namespace Go.Proofs.YtbiilejgfihohaaGreat
open Go Go.Cu Go.ChangeShapes Go.WideShapes Go.RowKit
section
variable {H : Type} {enc : TypeId × Value → H}
theorem trodAll_two {w : World} {base : Nat} {spare : Nat → Bool} {held : Bool} {t0 t1 : TypeId} {args : Array Value} {ds : List (DataW H)} {ps : List MemPlace} (h : DataW.TrodAll enc Tryz.prog w base spare held [t0, t1] args.toList ds ps) :
    ∃ v0 v1 d0 d1 p0 p1, args = #[v0, v1] ∧ ds = [d0, d1] ∧ ps = p0 ++ p1 ∧ DataW.Trod enc Tryz.prog w base spare held t0 v0 d0 p0 ∧ DataW.Trod enc Tryz.prog w base spare held t1 v1 d1 p1 := by
  obtain ⟨v0, vs0, d0, ds0, p0, q0, hargs, rfl, rfl, h0, r0⟩ := trodAll_cons h
  obtain ⟨v1, vs1, d1, ds1, p1, q1, rfl, rfl, rfl, h1, r1⟩ := trodAll_cons r0
  obtain ⟨rfl, rfl, rfl⟩ := trodAll_nil r1
  exact ⟨v0, v1, d0, d1, p0, p1, by cases args; simp_all, rfl, by simp, h0, h1⟩
end
end Go.Proofs.YtbiilejgfihohaaGreat
