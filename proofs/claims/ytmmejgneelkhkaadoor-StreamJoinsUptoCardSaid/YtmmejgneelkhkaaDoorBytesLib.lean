/- Slices of bytes, and what the little walks over them come to. -/
import Derived.Test.YtmmejgneelkhkaaDoorCrc
import Derived.Laws.BytesString
import Derived.Laws.Strings
set_option linter.all false
namespace Go.Cu
open Go Go.RowKit
abbrev b8 : Int → Value := .int .u8
abbrev i64v : Int → Value := .int .i64
/-- what a call gives in one world -/
def Gv (P : Program) (f : FuncId) (args : Array Value) (v : Value) (w : World) : Prop := Calls P f args w fun e w' => e = .returned v ∧ Ex w w'
section
variable {P : Program}
theorem Cl_gv {f : FuncId} {args : Array Value} {d : Sh} {x : d.T} {k : d.T → World → Prop} {w : World} (h : Gv P f args (d.enc x) w) (hk : ∀ w', Ex w w' → k x w') : Cl P f args d k w :=
  Calls.mono h fun _ w' ⟨he, hx⟩ => ⟨x, he, hk w' hx⟩
/-- what a call gives that makes a slice of its own -/
def GivesSl {α : Type} (P : Program) (f : FuncId) (args : Array Value) (enc : α → Value) (e : TypeId) (l : List α) (w : World) : Prop :=
  Calls P f args w fun en w' => ∃ s, en = .returned (.slice s.base s.len s.cap) ∧ Own enc e w.heap.size w' s l ∧ Ex w w'
theorem Cl_sl {α : Type} {f : FuncId} {args : Array Value} {enc : α → Value} {e : TypeId} {l : List α} {k : Sl → World → Prop} {w : World} (h : GivesSl P f args enc e l w)
    (hk : ∀ s w', Own enc e w.heap.size w' s l → Ex w w' → k s w') : Cl P f args (.one (.at .sl)) k w :=
  Calls.mono h fun _ w' ⟨s, he, ho, hx⟩ => ⟨s, he, hk s w' ho hx⟩
theorem Own.fresh {α : Type} {f : α → Value} {e : TypeId} {base : Nat} {w : World} (l : List α) (hb : base ≤ w.heap.size) (hl : l.length ≤ 140737488355328) :
    Own f e base (w.alloc (.cells (l.map f).toArray e)) ⟨some ⟨w.heap.size, 0, none⟩, l.length, l.length⟩ l := by
  refine ⟨rfl, ?_⟩
  have := ownsRow_grown (w := w) (base := base) (n := l.length) (cap := l.length) (e := e) (xs := l.map f) (rest := #[]) hb (by simp) (Nat.le_refl _) (by show _ ≤ 9223372036854775807; omega) (by simp)
  simpa using this
theorem SlIn.fresh {g n c b : Nat} (h : SlIn ⟨some ⟨g, 0, none⟩, n, c⟩ b) : b = g := by obtain ⟨a, ha, hb⟩ := h; cases ha; exact hb.symm
/-- a literal slice: a new block -/
theorem Wr_lit {α : Type} {f : α → Value} {e : TypeId} {base : Nat} {s : Sem Value} {k : Sl → World → Prop} {w : World} (l : List α)
    (h : s.run P w = .ok (.slice (some ⟨w.heap.size, 0, none⟩) l.length l.length) (w.alloc (.cells (l.map f).toArray e))) (hb : base ≤ w.heap.size) (hl : l.length ≤ 140737488355328)
    (hk : ∀ s' w', Own f e base w' s' l → Ex w w' → (∀ b, SlIn s' b → b = w.heap.size) → k s' w') : Wr P s (.one (.at .sl)) k w :=
  ⟨⟨some ⟨w.heap.size, 0, none⟩, l.length, l.length⟩, _, h, hk _ _ (Own.fresh l hb hl) (Ex.alloc w _) (fun b hb => hb.fresh)⟩
theorem own_of_has {α : Type} {f : α → Value} {e : TypeId} {base g n : Nat} {w : World} {l : List α} (hl : l.length = n) (hn : n ≤ 140737488355328) (h : Has w g (l.map f) e) (hb : base ≤ g) : Own f e base w ⟨some ⟨g, 0, none⟩, n, n⟩ l := by
  subst hl
  refine ⟨rfl, by simp, .inr ⟨g, l.length, _, rfl, hb, h, Nat.le_refl _, by show _ ≤ 9223372036854775807; omega, by simp, ?_⟩⟩
  rw [Nat.mul_one]
  exact List.take_of_length_le (by simp)
theorem add_lit (B i : Nat) : (⟨B, 0, none⟩ : Addr).add i = ⟨B, i, none⟩ := by
  unfold Addr.add; split
  · rename_i h; rw [h]
  · simp
/-- an element's place, whatever it holds -/
theorem Pu_ix {t e : TypeId} {s : Sl} {ik : IntKind} {i : Int} {a : Addr} {k : Addr → World → Prop} {w : World} (ht : P.underlying t = some (.slice e)) (hs : sizeIs P e 1 = true) (ha : s.base = some a) (h0 : 0 ≤ i) (h1 : i < s.len)
    (hk : k (a.add i.toNat) w) : Pu P (Instr.indexAt t (.slice s.base s.len s.cap) (.int ik i)) (.one (.at .addr)) k w := by
  refine ⟨a.add i.toNat, fun w' => ?_, hk⟩
  have := run_indexAt (P := P) (ik := ik) (w := w') ht hs ha h0 h1
  rw [Nat.mul_one] at this
  exact this
theorem made_one (v : Value) (n : Nat) : madeCells #[v] n = (List.replicate n v).toArray := by
  apply Array.ext'
  apply List.ext_getElem
  · simp [madeCells]
  · intro i h1 h2
    simp [madeCells, Nat.mod_one]
/-- make: a new block of zeros -/
theorem Wr_make {α : Type} {f : α → Value} {z : α} {t e : TypeId} {bytes : Nat} {k1 k2 : IntKind} {a b : Int} {k : Sl → World → Prop} {w : World} (ht : P.underlying t = some (.slice e)) (hi : (P.info? e).map (fun i => (i.zero, i.size, i.bytes)) = some (some (f z), 1, bytes))
    (hz : (f z).cells = #[f z]) (n : Nat) (hn : bytes * n ≤ 140737488355328) (h63 : n ≤ 140737488355328) (ha : a = n) (hb : b = n)
    (hk : ∀ s w', s = ⟨some ⟨w.heap.size, 0, none⟩, n, n⟩ → Has w' w.heap.size ((List.replicate n z).map f) e → Ex w w' → k s w') : Wr P (Instr.makeSlice t (.int k1 a) (.int k2 b)) (.one (.at .sl)) k w := by
  obtain ⟨i, hi0, hz0, hs0, hb0⟩ := info_parts hi
  subst ha hb
  have hb' : (i.bytes : Int) * (n : Int) ≤ 281474976710656 := by
    rw [hb0]
    have : ((bytes * n : Nat) : Int) ≤ 281474976710656 := by omega
    rwa [Int.natCast_mul] at this
  have hr := run_make (P := P) w t e i (f z) ht hi0 hz0 k1 k2 n n (by omega) (Int.le_refl _) hb' (by omega)
  rw [Int.toNat_natCast, hs0, Nat.mul_one, hz, made_one] at hr
  refine ⟨⟨some ⟨w.heap.size, 0, none⟩, n, n⟩, _, hr, hk _ _ rfl ?_ (Ex.alloc w _)⟩
  have := Has.alloc w (List.replicate n (f z)).toArray e
  rw [List.map_replicate]
  simpa using this
/-- make with room, and no element yet -/
theorem Wr_makeCap {α : Type} {f : α → Value} {z : Value} {t e : TypeId} {bytes : Nat} {k1 k2 : IntKind} {b : Int} {k : Sl → World → Prop} {w : World} (ht : P.underlying t = some (.slice e)) (hi : (P.info? e).map (fun i => (i.zero, i.size, i.bytes)) = some (some z, 1, bytes))
    (n : Nat) (hn : bytes * n ≤ 281474976710656) (h63 : n ≤ 281474976710656) (hb : b = n) (base : Nat) (hbase : base ≤ w.heap.size)
    (hk : ∀ s w', Own f e base w' s ([] : List α) → s.cap = n → Ex w w' → (∀ b, SlIn s b → b = w.heap.size) → k s w') : Wr P (Instr.makeSlice t (.int k1 0) (.int k2 b)) (.one (.at .sl)) k w := by
  obtain ⟨i, hi0, hz0, hs0, hb0⟩ := info_parts hi
  subst hb
  obtain ⟨w', hr, ho, hg⟩ := run_make_own (P := P) w base t e i z 1 ht hi0 hz0 hs0 k1 k2 n (by rw [hb0]; exact hn) (by show n ≤ 9223372036854775807; omega) hbase
  refine ⟨⟨some ⟨w.heap.size, 0, none⟩, 0, n⟩, w', hr, hk _ _ ⟨rfl, ho⟩ rfl ⟨hg.os, hg.tape, hg.output, hg.size, fun b hb _ => hg.block b hb (by simp)⟩ (fun b hb => hb.fresh)⟩
/-- a string's bytes behind a slice of one's own that has room for them -/
theorem Wr_appendStr {t u ty e : TypeId} {base : Nat} {s : Sl} {l m : List Int} {bs : ByteArray} {k : Sl → World → Prop} {w : World}
    (ht : P.underlying t = some (.slice e)) (hu : P.underlying u = some .string) (hs : sizeIs P e 1 = true) (hm : bs.data.toList.map (fun b => (b.toNat : Int)) = m) (hown : Own b8 e base w s l) (hroom : l.length + m.length ≤ s.cap) (hne : m ≠ [])
    (hk : ∀ s' w', Own b8 e base w' s' (l ++ m) → Mo (SlIn s) w w' → s'.base = s.base → s'.cap = s.cap → k s' w') :
    Wr P (Builtin.append_ #[t, u] ty #[.slice s.base s.len s.cap, .string bs]) (.one (.at .sl)) k w := by
  obtain ⟨sb, sl, sc⟩ := s
  obtain ⟨h1, h2⟩ := hown
  dsimp only at h1 h2 hroom hk
  subst h1
  have hml : bs.size = m.length := by rw [← hm]; simp
  rcases h2.2 with ⟨e1, e2⟩ | ⟨g, cap, cur, e1, hbg, hg, hnc, hcm, hcs, htake⟩
  · injection e1 with ea eb ec
    have : m.length = 0 := by omega
    exact absurd (List.eq_nil_of_length_eq_zero this) hne
  · cases e1
    rw [Nat.mul_one] at hcs htake
    have hsz := run_sizeOf hs
    have hcells : List.take bs.size (List.map (fun b => (Value.int .u8 (b.toNat : Int) : Value)) bs.data.toList) = m.map b8 := by
      rw [← hm, List.map_map, List.take_of_length_le (by simp)]
      rfl
    have hst := run_storeCells_at P g l.length e (m.map b8) 0 cur w hg (by simp; omega) (fun v hv => by obtain ⟨y, _, rfl⟩ := List.mem_map.1 hv; rfl)
    rw [Nat.add_zero] at hst
    have hrun : (Builtin.append_ #[t, u] ty #[.slice (some ⟨g, 0, none⟩) l.length sc, .string bs]).run P w = .ok (.slice (some ⟨g, 0, none⟩) (l.length + m.length) sc)
        (w.setRow g (cur.toList.take l.length ++ m.map b8 ++ cur.toList.drop (l.length + (m.map b8).length)).toArray) := by
      simp [Builtin.append_, run_underlying ht, run_underlying hu, hsz, Builtin.lenOf, Builtin.firstCells, hml, hroom, add_lit]
      rw [hml] at hcells
      rw [hcells, hst]
      simp
    refine ⟨⟨some ⟨g, 0, none⟩, _, sc⟩, _, hrun, hk _ _ ⟨by simp, by simp, .inr ⟨g, sc, _, rfl, hbg, setRow_heap w g cur _ e _ hg, by simpa using hroom, hcm, ?_, ?_⟩⟩ ((Mo.setRow w g _).weak (fun b _ hb => ⟨_, rfl, hb.symm⟩)) rfl rfl⟩
    · simp; omega
    · rw [Nat.mul_one, htake]
      simp only [List.map_append, List.append_assoc]
      rw [show l.length + m.length = (List.map b8 l ++ List.map b8 m).length by simp, ← List.append_assoc]
      exact List.take_left
/-- an element of an array that lies at a known place -/
theorem Pu_idxArr {t e : TypeId} {n : Nat} {B : Nat} {ik : IntKind} {i : Int} {k : Addr → World → Prop} {w : World} (ht : P.underlying t = some (.array n e)) (hs : sizeIs P e 1 = true) (h0 : 0 ≤ i) (h1 : i < n) (hk : k ⟨B, i.toNat, none⟩ w) :
    Pu P (Instr.indexAt t (.pointer (some ⟨B, 0, none⟩)) (.int ik i)) (.one (.at .addr)) k w := by
  refine ⟨_, fun w' => ?_, hk⟩
  have hsz := run_sizeOf hs w'
  have e : (⟨B, 0, none⟩ : Addr).add (i.toNat * 1) = ⟨B, i.toNat, none⟩ := by
    rw [Nat.mul_one]; unfold Addr.add; split
    · rename_i h; rw [h]
    · simp
  simp [Instr.indexAt, asIntOf, run_underlying ht, Instr.sureAddr, h0, h1, hsz, Cx.enc, At.enc, Sh.enc]
  simpa using e
end
section
variable {P : Program}
theorem foldl_push : ∀ (l : List Int) (s : ByteArray), l.foldl (fun r n => r.push (UInt8.ofNat n.toNat)) s = ⟨s.data ++ (l.map fun n => UInt8.ofNat n.toNat).toArray⟩
  | [], s => by simp
  | x :: l, s => by
    rw [List.foldl_cons, foldl_push l]
    show ByteArray.mk _ = ByteArray.mk _
    congr 1
    show (s.data.push _) ++ _ = _
    simp
/-- bytes as a string -/
theorem Rd_string {src dst e : TypeId} {s : Sl} {l : List Int} {k : ByteArray → World → Prop} {w : World} (hs : P.underlying src = some (.slice e)) (hd : P.underlying dst = some .string) (he : P.underlying e = some (.int .u8)) (hr : Rds b8 w s l)
    (hk : k ⟨(l.map fun n => UInt8.ofNat n.toNat).toArray⟩ w) : Rd P (convert src dst (.slice s.base s.len s.cap)) (.one (.at .str)) k w := by
  refine ⟨_, ?_, hk⟩
  rw [run_convert_bytes_string w src dst e s.base s.len s.cap hs he hd]
  obtain ⟨sb, sl, sc⟩ := s
  have hl : sl = l.length := hr.1
  subst hl
  cases sb with
  | none =>
    have : l = [] := by
      cases l with
      | nil => rfl
      | cons y r => obtain ⟨a, ha, _⟩ := hr.2.2 0 y rfl; cases ha
    subst this; rfl
  | some a =>
    have hload := run_loadCells_list (P := P) w a (l.map b8) (fun j v hj => by
      simp only [List.getElem?_map] at hj
      cases hlj : l[j]? with
      | none => rw [hlj] at hj; cases hj
      | some y =>
        rw [hlj] at hj; cases hj
        obtain ⟨a', ha', hc⟩ := hr.2.2 j y hlj
        cases ha'; exact hc)
    rw [List.length_map] at hload
    have := run_bytesToString (P := P) w a l.length sc l hload
    refine this.trans ?_
    rw [foldl_push]
    show Result.ok (Value.string ⟨#[] ++ _⟩) w = _
    rw [Array.empty_append]
    rfl
theorem sEq_iff (a b : List UInt8) : sEq ⟨a.toArray⟩ ⟨b.toArray⟩ = decide (a = b) := by
  unfold sEq; rw [ByteArray.toList_mk, ByteArray.toList_mk, Bool.eq_iff_iff]; simp
theorem map_byte_inj : ∀ {l m : List Int}, (∀ x ∈ l, 0 ≤ x ∧ x < 256) → (∀ x ∈ m, 0 ≤ x ∧ x < 256) → l.map (fun n => UInt8.ofNat n.toNat) = m.map (fun n => UInt8.ofNat n.toNat) → l = m
  | [], [], _, _, _ => rfl
  | [], _ :: _, _, _, h => by cases h
  | _ :: _, [], _, _, h => by cases h
  | x :: l, y :: m, hl, hm, h => by
    simp only [List.map_cons, List.cons.injEq] at h
    have hx := hl x (by simp)
    have hy := hm y (by simp)
    have h1 := congrArg UInt8.toNat h.1
    simp only [UInt8.toNat_ofNat'] at h1
    have : x = y := by omega
    rw [this, map_byte_inj (fun z hz => hl z (by simp [hz])) (fun z hz => hm z (by simp [hz])) h.2]
end
/-! ### Numbers as bytes, the lowest first -/
def shrN : Nat → Int → Int
  | 0, v => v
  | n + 1, v => shrN n (shR .u64 v 8)
def le : Nat → Int → List Int
  | 0, _ => []
  | n + 1, v => IntKind.wrap .u8 v :: le n (shR .u64 v 8)
theorem le_length : ∀ (n : Nat) (v : Int), (le n v).length = n
  | 0, _ => rfl
  | n + 1, v => by simp [le, le_length n]
theorem shrN_succ : ∀ (n : Nat) (v : Int), shrN (n + 1) v = shR .u64 (shrN n v) 8
  | 0, _ => rfl
  | n + 1, v => by rw [shrN, shrN_succ n]; rfl
theorem le_snoc : ∀ (n : Nat) (v : Int), le (n + 1) v = le n v ++ [IntKind.wrap .u8 (shrN n v)]
  | 0, _ => rfl
  | n + 1, v => by
    show IntKind.wrap .u8 v :: le (n + 1) (shR .u64 v 8) = (IntKind.wrap .u8 v :: le n (shR .u64 v 8)) ++ _
    rw [le_snoc n]; rfl
def numF : List Int → Int
  | [] => 0
  | x :: r => bOr .u64 (shL .u64 (numF r) 8) (IntKind.wrap .u64 x)
theorem wrap64_id (n : Nat) (h : n ≤ 9223372036854775807) : IntKind.wrap .i64 (n : Int) = n := wrap64 (by omega) (by omega)
end Go.Cu
