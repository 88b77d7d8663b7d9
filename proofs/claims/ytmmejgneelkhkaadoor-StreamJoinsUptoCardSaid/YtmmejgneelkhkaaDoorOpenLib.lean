/- Arguments opened into lists, and the row's sentence from a call that gives true and changes nothing that was there. -/
import Derived.Test.YtmmejgneelkhkaaDoorEqLib
import Derived.ChangeSlices
import Derived.ChangeArms
import Derived.Deep.Slices
import Derived.Deep.DeepHandedRow
import Derived.Lib.LaidTab
import Derived.Carry
import Derived.SizedLaws
set_option linter.all false
namespace Go.Cu
open Go Go.RowKit Go.ChangeShapes Go.WideShapes
section
variable {H : Type} {enc : TypeId × Value → H} {P : Program}
def okW (P : Program) (t : TypeId) (d : DataW H) : Prop := ∀ n ∈ d.weights P t, n ≤ reachBytes
theorem okW_each {ts : List TypeId} {ds : List (DataW H)} {j : Nat} {t : TypeId} {d : DataW H} (h : (DataW.weightsEach P ts ds).all (· ≤ reachBytes) = true) (ht : ts[j]? = some t) (hd : ds[j]? = some d) : okW P t d :=
  fun n hn => by simpa using List.all_eq_true.1 h n (DataW.weights_mem_each ht hd n hn)
theorem weights_mem_all {e : TypeId} : ∀ {ds : List (DataW H)} {j : Nat} {d : DataW H}, ds[j]? = some d → ∀ n ∈ d.weights P e, n ∈ DataW.weightsAll P e ds
  | d0 :: ds, 0, d, hd, n, hn => by
    simp only [List.getElem?_cons_zero, Option.some.injEq] at hd
    subst hd
    simp only [DataW.weightsAll, List.mem_append]; exact .inl hn
  | d0 :: ds, j + 1, d, hd, n, hn => by
    simp only [List.getElem?_cons_succ] at hd
    simp only [DataW.weightsAll, List.mem_append]; exact .inr (weights_mem_all hd n hn)
theorem okW_slice {t e : TypeId} {elems sp : List (DataW H)} (h : okW P t (.slice elems sp)) (ht : P.underlying t = some (.slice e)) :
    (elems.length + sp.length) * P.bytesOf e ≤ reachBytes ∧ ∀ (j : Nat) (d : DataW H), elems[j]? = some d → okW P e d := by
  unfold okW at h
  simp only [DataW.weights, ht, List.mem_cons, List.mem_append] at h
  exact ⟨h _ (.inl rfl), fun j d hd n hn => h n (.inr (.inl (weights_mem_all hd n hn)))⟩
theorem okW_struct {t : TypeId} {parts : List (DataW H)} {fs : Array Field} (h : okW P t (.agg parts)) (ht : P.underlying t = some (.struct fs)) : ∀ (j : Nat) (f : Field) d, fs[j]? = some f → parts[j]? = some d → okW P f.type d := by
  intro j f d hf hd n hn
  unfold okW at h
  simp only [DataW.weights, ht] at h
  refine h n (DataW.weights_mem_each (j := j) (t := f.type) ?_ hd n hn)
  rw [List.getElem?_map, Array.getElem?_toList, hf]; rfl
/-- a slice of numbers -/
theorem open_nums {W : World} {base : Nat} {held : Bool} {t e : TypeId} {k : IntKind} {fuel : Nat} {v : Value} {x : DataW H × List MemPlace} (ht : P.underlying t = some (.slice e)) (he : P.underlying e = some (.int k)) (hc : P.cellsOf e = 1) (hb : 1 ≤ P.bytesOf e)
    (h : DataW.trod enc P W base (fun _ => true) held fuel t [v] = some x) (hw : okW P t x.1) :
    ∃ (s : Sl) (l : List Int), v = .slice s.base s.len s.cap ∧ Rds (.int k) W s l ∧ (∀ n ∈ l, (Lit.int k n).wf = true) ∧ l.length ≤ 140737488351232 := by
  rcases open_ints ht he hc h with ⟨h1, rfl⟩ | ⟨a, len, cap, zs, h1, _, hl, hm, hz, rfl, hcell, hwf⟩
  · injection h1 with h1 _
    subst h1
    exact ⟨⟨none, 0, 0⟩, [], rfl, Rds.nil _ _, by simp, by simp⟩
  · injection h1 with h1 _
    subst h1
    simp only [if_true] at hz
    have hwt := (okW_slice hw ht).1
    have hmul : ∀ n, n * 1 ≤ n * P.bytesOf e := fun n => Nat.mul_le_mul_left n hb
    have hlen : (zs.take len).length = len := by rw [List.length_take]; omega
    have := hmul ((lits (H := H) k (zs.take len)).length + (lits (H := H) k (zs.drop len)).length)
    have e1 : (lits (H := H) k (zs.take len)).length = len := by simp [lits]; omega
    have hr : reachBytes = 140737488351232 := rfl
    refine ⟨⟨some a, len, cap⟩, zs.take len, rfl, ⟨hlen.symm, hl, fun i x hi => ⟨a, rfl, ?_⟩⟩, fun n hn => hwf n (List.mem_of_mem_take hn), by omega⟩
    rw [List.getElem?_take] at hi
    split at hi
    · have hi' : i < zs.length := (List.getElem?_eq_some_iff.1 hi).1
      rw [hcell i hi', List.getD_eq_getElem?_getD, hi]; rfl
    · cases hi
theorem one_of_take {cs : List Value} {o : Nat} {v : Value} (h : (cs.drop o).take 1 = [v]) : cs[o]? = some v := by
  have : ((cs.drop o).take 1)[0]? = some v := by rw [h]; rfl
  rw [List.getElem?_take, if_pos (by omega), List.getElem?_drop] at this
  simpa using this
theorem trod_num {W : World} {base : Nat} {sp : Nat → Bool} {held : Bool} {n : Nat} {t : TypeId} {k : IntKind} {cs : List Value} {o : Nat} {x : DataW H × List MemPlace} (ht : P.underlying t = some (.int k)) (hc : P.cellsOf t = 1)
    (h : DataW.trod enc P W base sp held n t ((cs.drop o).take (P.cellsOf t)) = some x) : ∃ z, cs[o]? = some (.int k z) := by
  rw [hc] at h
  obtain ⟨z, hz, _⟩ := DataW.trod_int ht h
  exact ⟨z, one_of_take hz⟩

/-! ### The row's sentence -/
theorem post_one {f : Func} {s : ChangeSpec} {W W' : World} {t tb : TypeId} {v0 : Value} {d0 : DataW H} {p before : List MemPlace} (hpar : f.params.toList = [t]) (hres : f.resultTypes.toList = [tb]) (hb : P.underlying tb = some .bool)
    (hl : laidOutB P = true) (hr : P.readableRec t = true) (hrow : t < P.types.size) (hvars : s.vars = []) (hfn : s.fn H ([d0] ++ []) = { results := [.lit (.bool true)], args := [d0] })
    (hW : DataW.Whole enc P f.params.toList s.vars false W (#[v0] : Array Value).toList [d0] [] before) (h0 : DataW.Trod enc P W 0 (fun _ => true) true t v0 d0 p) (hlt : ∀ x ∈ p, x.block < W.heap.size) (hx : Ex W W') :
    s.post enc P f false true false false W #[v0] (.bool true) W' := by
  have hsz : f.resultTypes.size = 1 := by rw [← Array.length_toList, hres]; rfl
  refine ⟨[d0], [], before, [], p, [], hW, ?_, ?_, ?_, hx.below.frame _, fun h => by cases h⟩
  · rw [hres, hsz, hfn]; exact trodAll_mk1 (shut_bool hb true)
  · rw [hpar, hfn]; exact trodAll_mk1 (Below.trod hl hr hrow h0 hx.below hlt)
  · rw [hvars, hfn]; rfl
theorem contract_one {f : FuncId} {fn : Func} {s : ChangeSpec} {t tb : TypeId} {laid : List (String × DataW Unit)} (hpar : fn.params.toList = [t]) (hres : fn.resultTypes.toList = [tb]) (hb : P.underlying tb = some .bool)
    (hl : laidOutB P = true) (hr : P.readableRec t = true) (hrow : t < P.types.size) (hvars : s.vars = []) (hfn : ∀ d0 : DataW H, s.fn H ([d0] ++ []) = { results := [.lit (.bool true)], args := [d0] })
    (hcall : ∀ (W : World) (base : Nat) (v : Value) (d : DataW H) (fuel : Nat) (p : List MemPlace), Value.okWide P W .any base t v → DataW.trod enc P W 0 (fun _ => true) true fuel t v.cells.toList = some (d, p) → okW P t d → laidMetH P laid W → Gv P f #[v] (.bool true) W)
    (W : World) (base : Nat) (args : Array Value) (ds gs : List (DataW H)) (before : List MemPlace) (hval : ∀ (j : Nat) t v, fn.params[j]? = some t → args[j]? = some v → Value.okWide P W .any base t v)
    (hW : DataW.Whole enc P fn.params.toList s.vars false W args.toList ds gs before)
    (hwt : (DataW.weightsEach P (fn.params.toList ++ (OpenSpec.ofChange s).bare.plain.varTypes P) (ds ++ gs)).all (· ≤ reachBytes) = true) (hL : laidMetH P laid W) :
    Calls P f args W fun e W' => ∃ v, e = .returned v ∧ s.post enc P fn false true false false W args v W' := by
  have hW' := hW
  obtain ⟨p, q, hA, hV, hpq, _, _⟩ := hW
  rw [hpar] at hA
  obtain ⟨v0, d0, rfl, rfl, h0⟩ := trodAll_one hA
  rw [hvars] at hV
  obtain ⟨rfl, rfl⟩ := trodVars_none hV
  obtain ⟨fuel, hf⟩ := h0
  have hw0 : okW P t d0 := okW_each (j := 0) hwt (by rw [hpar]; rfl) rfl
  have hv0 := hval 0 t v0 (by rw [← Array.getElem?_toList, hpar]; rfl) rfl
  refine (hcall W base v0 d0 fuel p hv0 hf hw0 hL).mono fun e W1 ⟨he, hx⟩ => ⟨_, he, ?_⟩
  exact post_one hpar hres hb hl hr hrow hvars (hfn d0) hW' ⟨fuel, hf⟩ (fun x hx' => DataW.trod_lt fuel _ _ _ hf x hx') hx
theorem contract_none {f : FuncId} {fn : Func} {s : ChangeSpec} {tb : TypeId} {laid : List (String × DataW Unit)} (hpar : fn.params.toList = []) (hres : fn.resultTypes.toList = [tb]) (hb : P.underlying tb = some .bool)
    (hvars : s.vars = []) (hfn : s.fn H ([] ++ []) = { results := [.lit (.bool true)], args := [] })
    (hcall : ∀ (W : World), laidMetH P laid W → Gv P f #[] (.bool true) W)
    (W : World) (args : Array Value) (ds gs : List (DataW H)) (before : List MemPlace) (hW : DataW.Whole enc P fn.params.toList s.vars false W args.toList ds gs before) (hL : laidMetH P laid W) :
    Calls P f args W fun e W' => ∃ v, e = .returned v ∧ s.post enc P fn false true false false W args v W' := by
  have hW' := hW
  obtain ⟨p, q, hA, hV, hpq, _, _⟩ := hW
  rw [hpar] at hA
  obtain ⟨rfl, rfl, rfl⟩ := trodAll_none hA
  rw [hvars] at hV
  obtain ⟨rfl, rfl⟩ := trodVars_none hV
  refine (hcall W hL).mono fun e W1 ⟨he, hx⟩ => ⟨_, he, ?_⟩
  have hsz : fn.resultTypes.size = 1 := by rw [← Array.length_toList, hres]; rfl
  refine ⟨[], [], before, [], [], [], hW', ?_, ?_, ?_, hx.below.frame _, fun h => by cases h⟩
  · rw [hres, hsz, hfn]; exact trodAll_mk1 (shut_bool hb true)
  · rw [hpar, hfn]; exact trodAll_mk0
  · rw [hvars, hfn]; rfl
end
end Go.Cu
