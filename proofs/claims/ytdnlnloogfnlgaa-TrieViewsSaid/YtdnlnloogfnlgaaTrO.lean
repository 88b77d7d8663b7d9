/- A node more. -/
import Derived.Test.YtdnlnloogfnlgaaTrL
set_option linter.all false
namespace Go.Proofs.Ytdnlnloogfnlgaa
open Go Go.Cu Go.RowKit
set_option linter.unusedVariables false
set_option maxHeartbeats 4000000
/-- the places with a new, empty node -/
def addLay (y : Lay) (c : Path) (b m : Nat) : Lay :=
  { nd := upd y.nd c b, mp := upd y.mp c m, here := upd y.here c false, val := upd y.val c nilS, rows := upd y.rows c [], used := upd y.used c 0 }
theorem Mem.add {w w1 w2 : World} {own vown : Nat → Prop} {tb : Nat} {lim n clock : Int} {ns : List Path} {y : Lay} {p : Path} {x : Int} {b m : Nat} {l : List (Int × Value)} (h : Mem w own vown tb lim n clock ns y) (hp : p ∈ ns) (hno : p ++ [x] ∉ ns)
    (hx1 : Ex w w1) (hB : Has w1 b [.map (some m), .bool false, slv nilS, .int .i64 0] 81) (hm : MapIs w1 m []) (hb1 : w.heap.size ≤ b) (hm1 : w.heap.size ≤ m)
    (hl : MapIs w1 (y.mp p) l) (hk : ∀ x v, (x, v) ∈ l ↔ (p ++ [x] ∈ ns ∧ v = .pointer (ndP y (p ++ [x])))) (k : Mo (fun c => c = y.mp p) w1 w2) (hm2 : MapIs w2 (y.mp p) (putM l x (.pointer (some ⟨b, 0, none⟩)))) :
    Mem w2 (fun c => own c ∨ c = b ∨ c = m) vown tb lim n clock ((p ++ [x]) :: ns) (addLay y (p ++ [x]) b m) := by
  have h1 := h.ex hx1
  have hpc : ∀ q ∈ ns, q ≠ p ++ [x] := fun q hq e => hno (e ▸ hq)
  have hnd : ∀ q ∈ ns, (addLay y (p ++ [x]) b m).nd q = y.nd q := fun q hq => upd_other _ _ (hpc q hq)
  have hmp : ∀ q ∈ ns, (addLay y (p ++ [x]) b m).mp q = y.mp q := fun q hq => upd_other _ _ (hpc q hq)
  have hnd0 : (addLay y (p ++ [x]) b m).nd (p ++ [x]) = b := upd_same _ _ _
  have hmp0 : (addLay y (p ++ [x]) b m).mp (p ++ [x]) = m := upd_same _ _ _
  have hlt : ∀ q ∈ ns, y.nd q < w.heap.size ∧ y.mp q < w.heap.size := fun q hq => ⟨h.ownL _ (h.ownN q hq).1, h.ownL _ (h.ownN q hq).2.1⟩
  have hbm : b ≠ m := has_not_map hB hm
  have hpm := (hlt p hp).2
  have hln : (l.map (·.1)).Nodup := by obtain ⟨_, _, _, _, hn, _⟩ := hl; exact hn
  have hvlt : ∀ c, vown c → c < w.heap.size := fun c hc => h.ownL c (h.ownV c hc)
  have hchild : ∀ q ∈ ns, ∀ z, (q ++ [z] ∈ (p ++ [x]) :: ns) ↔ (q ++ [z] ∈ ns ∨ (q = p ∧ z = x)) := by
    intro q hq z
    rw [List.mem_cons]
    constructor
    · rintro (e | e)
      · exact .inr ⟨(snoc_inj e).1, (snoc_inj e).2⟩
      · exact .inl e
    · rintro (e | ⟨rfl, rfl⟩)
      · exact .inr e
      · exact .inl rfl
  refine { top := ?_, node := fun q hq => ?_, kids := fun q hq => ?_, injN := ?_, injM := ?_, topN := ?_, vals := fun q hq hh => ?_, ownN := fun q hq => ?_, ownT := ⟨.inl h.ownT.1, h.ownT.2⟩, ownV := fun c hc => .inl (h.ownV c hc), ownL := ?_, root := List.mem_cons_of_mem _ h.root, pre := ?_ }
  · have e : topV (addLay y (p ++ [x]) b m) lim n clock = topV y lim n clock := by
      show [Value.pointer (some ⟨(addLay y (p ++ [x]) b m).nd [], 0, none⟩), _, _, _] = _
      rw [hnd [] h.root]
    rw [e]
    exact h1.top.mo k (fun e => has_not_map h1.top hl e)
  · rcases List.mem_cons.1 hq with rfl | hq
    · rw [hnd0]
      have e : nodeV (addLay y (p ++ [x]) b m) (p ++ [x]) = [.map (some m), .bool false, slv nilS, .int .i64 0] := by
        show [Value.map (some (upd y.mp (p ++ [x]) m (p ++ [x]))), .bool (upd y.here (p ++ [x]) false (p ++ [x])), slv (upd y.val (p ++ [x]) nilS (p ++ [x])), .int .i64 (upd y.used (p ++ [x]) 0 (p ++ [x]))] = _
        rw [upd_same, upd_same, upd_same, upd_same]
      rw [e]
      exact hB.mo k (fun e => has_not_map hB hl e)
    · rw [hnd q hq]
      have e : nodeV (addLay y (p ++ [x]) b m) q = nodeV y q := by
        show [Value.map (some (upd y.mp (p ++ [x]) m q)), .bool (upd y.here (p ++ [x]) false q), slv (upd y.val (p ++ [x]) nilS q), .int .i64 (upd y.used (p ++ [x]) 0 q)] = _
        rw [upd_other _ _ (hpc q hq), upd_other _ _ (hpc q hq), upd_other _ _ (hpc q hq), upd_other _ _ (hpc q hq)]
      rw [e]
      exact (h1.node q hq).mo k (fun e => has_not_map (h1.node q hq) hl e)
  · rcases List.mem_cons.1 hq with rfl | hq
    · rw [hmp0]
      refine ⟨[], hm.mo k (fun e => by have e : m = y.mp p := e; omega), fun z v => ⟨fun h => (by simp at h), fun h => ?_⟩⟩
      exfalso
      rcases List.mem_cons.1 h.1 with e | e
      · have := congrArg List.length e; simp at this
      · exact hno (h1.pre _ z e)
    · rw [hmp q hq]
      by_cases hqp : q = p
      · have hch := hchild q hq
        subst hqp
        refine ⟨_, hm2, fun z v => ?_⟩
        rw [putM_mem hln, hk, hch z]
        constructor
        · rintro (⟨rfl, rfl⟩ | ⟨g1, g2, g3⟩)
          · exact ⟨.inr ⟨rfl, rfl⟩, by show _ = Value.pointer (some ⟨(addLay y (q ++ [z]) b m).nd (q ++ [z]), 0, none⟩); rw [hnd0]⟩
          · exact ⟨.inl g2, by show _ = Value.pointer (some ⟨(addLay y (q ++ [x]) b m).nd (q ++ [z]), 0, none⟩); rw [hnd _ g2]; exact g3⟩
        · rintro ⟨g | ⟨_, rfl⟩, g3⟩
          · refine .inr ⟨fun e => hno (e ▸ g), g, ?_⟩
            have g3 : v = Value.pointer (some ⟨(addLay y (q ++ [x]) b m).nd (q ++ [z]), 0, none⟩) := g3
            rw [hnd _ g] at g3; exact g3
          · have g3 : v = Value.pointer (some ⟨(addLay y (q ++ [z]) b m).nd (q ++ [z]), 0, none⟩) := g3
            rw [hnd0] at g3; exact .inl ⟨rfl, g3⟩
      · obtain ⟨l', g1, g2⟩ := h1.kids q hq
        refine ⟨l', g1.mo k (fun e => hqp (h.injM q hq p hp e)), fun z v => ?_⟩
        rw [g2, hchild q hq z]
        constructor
        · rintro ⟨a1, a2⟩
          exact ⟨.inl a1, by show _ = Value.pointer (some ⟨(addLay y (p ++ [x]) b m).nd (q ++ [z]), 0, none⟩); rw [hnd _ a1]; exact a2⟩
        · rintro ⟨a1 | ⟨a1, _⟩, a2⟩
          · have a2 : v = Value.pointer (some ⟨(addLay y (p ++ [x]) b m).nd (q ++ [z]), 0, none⟩) := a2
            rw [hnd _ a1] at a2; exact ⟨a1, a2⟩
          · exact absurd a1 hqp
  · intro q hq r hr e
    rcases List.mem_cons.1 hq with rfl | hq <;> rcases List.mem_cons.1 hr with rfl | hr
    · rfl
    · rw [hnd0, hnd r hr] at e; have := (hlt r hr).1; omega
    · rw [hnd0, hnd q hq] at e; have := (hlt q hq).1; omega
    · rw [hnd q hq, hnd r hr] at e; exact h.injN q hq r hr e
  · intro q hq r hr e
    rcases List.mem_cons.1 hq with rfl | hq <;> rcases List.mem_cons.1 hr with rfl | hr
    · rfl
    · rw [hmp0, hmp r hr] at e; have := (hlt r hr).2; omega
    · rw [hmp0, hmp q hq] at e; have := (hlt q hq).2; omega
    · rw [hmp q hq, hmp r hr] at e; exact h.injM q hq r hr e
  · intro q hq e
    rcases List.mem_cons.1 hq with rfl | hq
    · rw [hnd0] at e; have := h.ownL _ h.ownT.1; omega
    · rw [hnd q hq] at e; exact h.topN q hq e
  · rcases List.mem_cons.1 hq with rfl | hq
    · have hh : upd y.here (p ++ [x]) false (p ++ [x]) = true := hh
      rw [upd_same] at hh; cases hh
    · have hh : upd y.here (p ++ [x]) false q = true := hh
      rw [upd_other _ _ (hpc q hq)] at hh
      show Nest b8 vown w2 (upd y.val (p ++ [x]) nilS q) (upd y.rows (p ++ [x]) [] q)
      rw [upd_other _ _ (hpc q hq), upd_other _ _ (hpc q hq)]
      exact (h1.vals q hq hh).mo k (fun c hc e => (h.ownN p hp).2.2.2 (by rw [← (show c = y.mp p from e)]; exact hc))
  · rcases List.mem_cons.1 hq with rfl | hq
    · rw [hnd0, hmp0]
      exact ⟨.inr (.inl rfl), .inr (.inr rfl), fun hc => by have := hvlt _ hc; omega, fun hc => by have := hvlt _ hc; omega⟩
    · rw [hnd q hq, hmp q hq]
      obtain ⟨g1, g2, g3, g4⟩ := h.ownN q hq
      exact ⟨.inl g1, .inl g2, g3, g4⟩
  · intro c hc
    rcases hc with g | rfl | rfl
    · have := h.ownL c g; have := hx1.size; have := k.size; omega
    · have := hB.lt; have := k.size; omega
    · have := hm.lt; have := k.size; omega
  · intro q z hq
    rcases List.mem_cons.1 hq with e | hq
    · rw [(snoc_inj e).1]; exact List.mem_cons_of_mem _ hp
    · exact List.mem_cons_of_mem _ (h.pre q z hq)
end Go.Proofs.Ytdnlnloogfnlgaa
