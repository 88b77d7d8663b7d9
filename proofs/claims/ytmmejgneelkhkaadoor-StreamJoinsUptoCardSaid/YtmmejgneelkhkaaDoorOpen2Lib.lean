/- Any number of arguments, and the row's sentence from a call that gives true and changes nothing that was there; a list of lists opened. -/
import Derived.Test.YtmmejgneelkhkaaDoorOpenLib
import Derived.Test.YtmmejgneelkhkaaDoorStepLib
set_option linter.all false
namespace Go.Cu
open Go Go.RowKit Go.ChangeShapes Go.WideShapes
section
variable {H : Type} {enc : TypeId × Value → H} {P : Program}
theorem trodAll_ex (hl : laidOutB P = true) {W W' : World} (hx : Ex W W') : ∀ {ts : List TypeId} {vs : List Value} {ds : List (DataW H)} {ps : List MemPlace}, (∀ t ∈ ts, P.readableRec t = true ∧ t < P.types.size) →
    DataW.TrodAll enc P W 0 (fun _ => true) true ts vs ds ps → DataW.TrodAll enc P W' 0 (fun b => decide (b < W.heap.size)) true ts vs ds ps
  | [], vs, ds, ps, _, h => by
    obtain ⟨rfl, rfl, rfl⟩ := trodAll_nil h
    exact rfl
  | t :: ts, vs, ds, ps, hr, h => by
    obtain ⟨v, vs', d, ds', p, q, rfl, rfl, rfl, h0, h1⟩ := trodAll_cons h
    obtain ⟨r1, r2⟩ := hr t List.mem_cons_self
    have hlt : ∀ x ∈ p, x.block < W.heap.size := by
      obtain ⟨fuel, hf⟩ := h0
      exact fun x hx' => DataW.trod_lt fuel _ _ _ hf x hx'
    exact ⟨p, q, Below.trod hl r1 r2 h0 hx.below hlt, trodAll_ex hl hx (fun t ht => hr t (List.mem_cons_of_mem _ ht)) h1, rfl⟩
theorem trodAll_len : ∀ {ts : List TypeId} {vs : List Value} {ds : List (DataW H)} {ps : List MemPlace} {W : World}, DataW.TrodAll enc P W 0 (fun _ => true) true ts vs ds ps → ds.length = ts.length
  | [], vs, ds, ps, W, h => by obtain ⟨rfl, rfl, rfl⟩ := trodAll_nil h; rfl
  | t :: ts, vs, ds, ps, W, h => by
    obtain ⟨v, vs', d, ds', p, q, rfl, rfl, rfl, h0, h1⟩ := trodAll_cons h
    simp [trodAll_len h1]
theorem contract_all {f : FuncId} {fn : Func} {s : ChangeSpec} {ts : List TypeId} {tb : TypeId} {laid : List (String × DataW Unit)} (hpar : fn.params.toList = ts) (hres : fn.resultTypes.toList = [tb]) (hb : P.underlying tb = some .bool)
    (hl : laidOutB P = true) (hr : ∀ t ∈ ts, P.readableRec t = true ∧ t < P.types.size) (hvars : s.vars = []) (hfn : ∀ ds : List (DataW H), ds.length = ts.length → s.fn H (ds ++ []) = { results := [.lit (.bool true)], args := ds })
    (hcall : ∀ (W : World) (base : Nat) (args : Array Value) (ds : List (DataW H)) (p : List MemPlace), (∀ (j : Nat) t v, ts[j]? = some t → args.toList[j]? = some v → Value.okWide P W .any base t v) → DataW.TrodAll enc P W 0 (fun _ => true) true ts args.toList ds p →
      (∀ (j : Nat) t d, ts[j]? = some t → ds[j]? = some d → okW P t d) → laidMetH P laid W → Gv P f args (.bool true) W)
    (W : World) (base : Nat) (args : Array Value) (ds gs : List (DataW H)) (before : List MemPlace) (hval : ∀ (j : Nat) t v, fn.params[j]? = some t → args[j]? = some v → Value.okWide P W .any base t v)
    (hW : DataW.Whole enc P fn.params.toList s.vars false W args.toList ds gs before)
    (hwt : (DataW.weightsEach P (fn.params.toList ++ (OpenSpec.ofChange s).bare.plain.varTypes P) (ds ++ gs)).all (· ≤ reachBytes) = true) (hL : laidMetH P laid W) :
    Calls P f args W fun e W' => ∃ v, e = .returned v ∧ s.post enc P fn false true false false W args v W' := by
  have hW' := hW
  obtain ⟨p, q, hA, hV, hpq, _, _⟩ := hW
  rw [hpar] at hA
  rw [hvars] at hV
  obtain ⟨rfl, rfl⟩ := trodVars_none hV
  refine (hcall W base args ds p (fun j t v ht hv => hval j t v (by rw [← Array.getElem?_toList, hpar]; exact ht) (by rw [← Array.getElem?_toList]; exact hv)) hA (fun j t d ht hd => ?_) hL).mono fun e W1 ⟨he, hx⟩ => ⟨_, he, ?_⟩
  · refine okW_each (j := j) hwt ?_ ?_
    · rw [hpar]
      rw [List.getElem?_append_left (List.getElem?_eq_some_iff.1 ht).1]; exact ht
    · rw [List.append_nil]; exact hd
  · have hlen := trodAll_len hA
    have hsz : fn.resultTypes.size = 1 := by rw [← Array.length_toList, hres]; rfl
    refine ⟨ds, [], before, [], p, [], hW', ?_, ?_, ?_, hx.below.frame _, fun h => by cases h⟩
    · rw [hres, hsz, hfn ds hlen]; exact trodAll_mk1 (shut_bool hb true)
    · rw [hpar, hfn ds hlen]; exact trodAll_ex hl hx hr hA
    · rw [hvars, hfn ds hlen]; rfl
/-- a list of lists of numbers -/
theorem open_nest {W : World} {base : Nat} {held : Bool} {t e1 e : TypeId} {k : IntKind} {fuel : Nat} {v : Value} {x : DataW H × List MemPlace} (ht : P.underlying t = some (.slice e1)) (ht1 : P.underlying e1 = some (.slice e)) (he : P.underlying e = some (.int k)) (hc1 : P.cellsOf e1 = 1) (hc : P.cellsOf e = 1) (hb : 1 ≤ P.bytesOf e)
    (h : DataW.trod enc P W base (fun _ => true) held fuel t [v] = some x) (hw : okW P t x.1) :
    ∃ (s : Sl) (ls : List (List Int)), v = .slice s.base s.len s.cap ∧ Nest (.int k) (fun _ => True) W s ls ∧ ls.length * P.bytesOf e1 ≤ 140737488351232 ∧ ∀ l ∈ ls, (∀ n ∈ l, (Lit.int k n).wf = true) ∧ l.length ≤ 140737488351232 := by
  have hr : reachBytes = 140737488351232 := rfl
  rcases Deep.open_slice1 ht hc1 h with ⟨h1, rfl⟩ | ⟨a, len, cap, m, n, V, D, Pl, h1, _, hl, hm, hmm, rfl, hx⟩
  · injection h1 with h1 _
    subst h1
    exact ⟨⟨none, 0, 0⟩, [], rfl, Nest.nil _ _ _, by simp, by simp⟩
  · injection h1 with h1 _
    subst h1
    simp only [if_true] at hmm
    obtain ⟨hwt, hwe⟩ := okW_slice hw ht
    have each : ∀ i, i < len → ∃ q : Sl × List Int, V i = .slice q.1.base q.1.len q.1.cap ∧ Rds (.int k) W q.1 q.2 ∧ (∀ n ∈ q.2, (Lit.int k n).wf = true) ∧ q.2.length ≤ 140737488351232 := by
      intro i hi
      obtain ⟨q1, q2⟩ := hx i (by omega)
      obtain ⟨s, l, hv, hr, hwf, hlen⟩ := open_nums ht1 he hc hb q2 (hwe i (D i) (by rw [List.getElem?_map, List.getElem?_range hi]; rfl))
      exact ⟨(s, l), hv, hr, hwf, hlen⟩
    have inh : Inhabited (Sl × List Int) := ⟨(⟨none, 0, 0⟩, [])⟩
    obtain ⟨f, hfi⟩ := Deep.choose_lt each
    have hlen : ((List.range len).map fun i => (f i).2).length = len := by simp
    have hge : len * P.bytesOf e1 ≤ 140737488351232 := by
      have e1' : ((List.range len).map D).length = len := by simp
      have := Nat.mul_le_mul_right (P.bytesOf e1) (Nat.le_add_right ((List.range len).map D).length ((List.range (m - len)).map fun j => D (len + j)).length)
      rw [e1'] at this hwt
      omega
    refine ⟨⟨some a, len, cap⟩, (List.range len).map fun i => (f i).2, rfl, ⟨(List.range len).map fun i => (f i).1, ⟨by simp, hl, fun i x hi => ⟨a, rfl, ?_⟩⟩, by simp, fun _ _ => trivial, fun i s' l hs hl' => ⟨?_, fun _ _ => trivial⟩⟩, by rw [hlen]; exact hge, fun l hl' => ?_⟩
    · have hi' : i < len := by have := (List.getElem?_eq_some_iff.1 hi).1; simpa using this
      rw [List.getElem?_map, List.getElem?_range hi'] at hi
      cases hi
      rw [(hx i (by omega)).1, (hfi i hi').1]
    · have hi' : i < len := by have := (List.getElem?_eq_some_iff.1 hs).1; simpa using this
      rw [List.getElem?_map, List.getElem?_range hi'] at hs hl'
      cases hs
      cases hl'
      exact (hfi i hi').2.1
    · obtain ⟨i, hi, rfl⟩ := List.mem_map.1 hl'
      exact (hfi i (List.mem_range.1 hi)).2.2
end
end Go.Cu
