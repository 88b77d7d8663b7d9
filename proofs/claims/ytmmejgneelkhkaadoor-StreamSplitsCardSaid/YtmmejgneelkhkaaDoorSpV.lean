/- A split as one step of a plain state; the program's and the document's. -/
import Derived.Test.YtmmejgneelkhkaaDoorSpU
set_option linter.all false
namespace Go.Proofs.YtmmejgneelkhkaaDoor
open Go Go.Cu Go.RowKit
set_option linter.unusedVariables false
set_option maxHeartbeats 4000000
set_option maxRecDepth 100000
def stepF (made : Bool) (f k m block total : Int) (whole : Bool) (n : Nat) (s : Src) (stt : Nat → Snk) : Src × (Nat → Snk) × Res :=
  if earlyF made f k m block total whole n ≠ 0 then (s, stt, .no (earlyF made f k m block total whole n))
  else
    let q := outF block.toNat (lengthF f k m total).1.toNat 0 total.toNat s ((List.range n).map stt)
    (q.1, fun j => q.2.1.getD j (stt j), q.2.2)
theorem early_zero {made : Bool} {f k m block total : Int} {whole : Bool} {n : Nat} (h : earlyF made f k m block total whole n = 0) : made = true ∧ whole = true ∧ (1 ≤ block ∧ block ≤ 1048576) ∧ 1 ≤ total ∧ total ≤ 1099511627776 ∧ (1 ≤ (lengthF f k m total).1 ∧ (lengthF f k m total).1 ≤ 1099511627777) := by
  unfold earlyF at h
  split at h
  · cases h
  rename_i h1
  split at h
  · cases h
  split at h
  · cases h
  rename_i h3
  have h3 : fitsF f k m block = true := by simpa using h3
  unfold fitsF at h3
  have h4 := of_decide_eq_true h3
  obtain ⟨p0, p1, p2, p3⟩ := length_good' h
  obtain ⟨_, _, hk1, _⟩ := params_good p0
  have := lenF_bound (f := f) (k := k) p1 hk1
  rw [← p3] at this
  refine ⟨by cases made <;> simp_all, by cases whole <;> simp_all, ⟨h4.1, h4.2.1⟩, p1, p2, by omega, by omega⟩
structure StepOk (s : Src) (stt : Nat → Snk) (whole : Bool) (n : Nat) (r : Src × (Nat → Snk) × Res) : Prop where
  like : s.Like r.1
  good : r.1.Good
  turns : r.1.turns ≤ s.turns + 1125899906842624
  snk : ∀ i, i < n → (r.2.1 i).Good ∧ (r.2.1 i).failAt = (stt i).failAt ∧ (r.2.1 i).got.length ≤ (stt i).got.length + 4398046511104
  src : ∀ j, r.2.2 = .src j → j = 0 ∧ whole = true ∧ 0 ≤ s.failAt
  snkE : ∀ j, r.2.2 = .snk j → j < n ∧ whole = true ∧ 0 ≤ (stt j).failAt
theorem step_ok {made : Bool} {f k m block total : Int} {whole : Bool} {n : Nat} {s : Src} {stt : Nat → Snk} (hg : s.Good) (hs : ∀ i, i < n → (stt i).Good) : StepOk s stt whole n (stepF made f k m block total whole n s stt) := by
  unfold stepF
  split
  · exact ⟨Src.Like.refl s, hg, by simp, fun i hi => ⟨hs i hi, rfl, by simp⟩, fun j h => (by cases h), fun j h => (by cases h)⟩
  · rename_i h
    obtain ⟨_, hw, ⟨hb1, hb2⟩, ht1, ht2, hl1, hl2⟩ := early_zero (Classical.byContradiction h)
    have hget : ∀ (j : Nat) (d : Snk), ((List.range n).map stt)[j]? = some d → j < n ∧ d = stt j := by
      intro j d hj
      rw [List.getElem?_map] at hj
      by_cases hjn : j < n
      · rw [List.getElem?_range hjn] at hj
        cases hj
        exact ⟨hjn, rfl⟩
      · rw [List.getElem?_eq_none (by simpa using hjn)] at hj
        cases hj
    have ho := outF_ok (block := block.toNat) (len := (lengthF f k m total).1.toNat) (by omega) ((List.range n).map stt) 0 total.toNat s hg (fun d hd => by
      obtain ⟨j, hj, rfl⟩ := List.mem_map.1 hd
      exact hs j (List.mem_range.1 hj))
    have hlen := ho.length
    rw [List.length_map, List.length_range] at hlen
    have ht := ho.turns
    refine ⟨ho.like, ho.good, by dsimp only; omega, fun i hi => ?_, fun j h => ?_, fun j h => ?_⟩
    · have h1 : ((List.range n).map stt)[i]? = some (stt i) := by rw [List.getElem?_map, List.getElem?_range hi]; rfl
      have h2 : ∀ (q : List Snk), q.length = n → q[i]? = some (q.getD i (stt i)) := fun q hq => by
        rw [List.getD_eq_getElem?_getD, List.getElem?_eq_getElem (by omega)]; rfl
      have h3 := ho.snks i _ _ h1 (h2 _ hlen)
      exact ⟨h3.1, h3.2.1, by have := h3.2.2; dsimp only; omega⟩
    · have := ho.src j h
      exact ⟨this.1, hw, this.2⟩
    · obtain ⟨l, d, rfl, hd, hf⟩ := ho.snk j h
      obtain ⟨hl, rfl⟩ := hget l d hd
      exact ⟨by omega, hw, by rw [Nat.zero_add]; exact hf⟩
theorem step_early {made : Bool} {f k m block total : Int} {whole : Bool} {n : Nat} {s : Src} {stt : Nat → Snk} (h : earlyF made f k m block total whole n ≠ 0) : stepF made f k m block total whole n s stt = (s, stt, .no (earlyF made f k m block total whole n)) := by
  unfold stepF; rw [if_pos h]
theorem step_go {made : Bool} {f k m block total : Int} {whole : Bool} {n : Nat} {s : Src} {stt : Nat → Snk} {q : Src × List Snk × Res} (h : earlyF made f k m block total whole n = 0) (hq : q = outF block.toNat (lengthF f k m total).1.toNat 0 total.toNat s ((List.range n).map stt))
    (hg : s.Good) (hs : ∀ i, i < n → (stt i).Good) : stepF made f k m block total whole n s stt = (q.1, fun j => q.2.1.getD j (stt j), q.2.2) ∧ ∀ j, j < n → q.2.1[j]? = some (q.2.1.getD j (stt j)) := by
  subst hq
  obtain ⟨_, hw, ⟨hb1, hb2⟩, _⟩ := early_zero h
  have ho := outF_ok (block := block.toNat) (len := (lengthF f k m total).1.toNat) (by omega) ((List.range n).map stt) 0 total.toNat s hg (fun d hd => by
      obtain ⟨j, hj, rfl⟩ := List.mem_map.1 hd
      exact hs j (List.mem_range.1 hj))
  have hlen := ho.length
  rw [List.length_map, List.length_range] at hlen
  refine ⟨?_, fun j hj => ?_⟩
  · unfold stepF; rw [if_neg (not_not_intro h)]
  · rw [List.getD_eq_getElem?_getD, List.getElem?_eq_getElem (by omega)]; rfl
theorem psplit {W0 w : World} {T : Ths} {pe : Option Nat} {made presS0 : Bool} {n : Nat} {f b k m wo st ca block total : Int} {sc : Bool} {pk : Sl} {l : List Int} {tr : Option Addr} {ea : Addr} {gs : Nat} {bs : Addr} {gd : Nat → Nat} {bd : Nat → Addr} {pres : Nat → Bool} {stt : Nat → Snk} {dd cc dst : Sl} {s : Src}
    (hS : Sep W0 w T) (hE : (made = true ∧ paramsF f k m = 0 ∧ ∃ ge, pe = some ge ∧ T (.bx 4) = Eng ge f b k m wo st ca sc pk l tr) ∨ (made = false ∧ pe = none)) (hl : l.length * 8 ≤ 140737488355328)
    (hs : presS0 = true → T (.ps 0) = PSrc gs bs dd cc s) (hdst : T (.bx 2) = Rdo ptrV dst (ptrs n pres gd)) (hd : ∀ i, i < n → pres i = true → T (.pk i) = PSnk (gd i) (bd i) (stt i)) (hn : n ≤ 140737488355328) (he : EndIs W0 ea)
    (hg : s.Good) (ht : s.turns ≤ 1152921504606846976) (hk : ∀ i, i < n → (stt i).Good ∧ (stt i).got.length ≤ 70368744177664) :
    Cl Tryd.prog 9 #[ptrV pe, .int .i64 block, ptrV (if presS0 then some gs else none), .slice dst.base dst.len dst.cap, .int .i64 total] (.one (.at .any)) (fun v w' => v = resV (fun _ => bs) bd (stepF made f k m block total (presS0 && allP n pres) n s stt).2.2 ∧ ∃ T', Sep W0 w' T' ∧ KeepR T T' ∧
      (presS0 = true → T' (.ps 0) = PSrc gs bs dd cc (stepF made f k m block total (presS0 && allP n pres) n s stt).1) ∧ ∀ i, i < n → pres i = true → T' (.pk i) = PSnk (gd i) (bd i) ((stepF made f k m block total (presS0 && allP n pres) n s stt).2.1 i)) w := by
  have hsome : (if presS0 then some gs else none : Option Nat).isSome = presS0 := by cases presS0 <;> rfl
  have hgs : ∀ g, (if presS0 then some gs else none : Option Nat) = some g → presS0 = true ∧ g = gs := by
    intro g hg'; cases presS0
    · cases hg'
    · cases hg'; exact ⟨rfl, rfl⟩
  refine split_ok (je := 4) (jd := 2) (bs := bs) (dd := dd) (cc := cc) (s := s) (stt := stt) (pres := pres) hS hE hl (fun g hg' => ?_) hdst hd hn he (fun _ _ => ⟨hg, ht, hk⟩) ?_ ?_
  · obtain ⟨h1, rfl⟩ := hgs g hg'
    exact hs h1
  · rw [hsome]
    intro h w' T' hS' hK hps hpk
    rw [step_early h]
    exact ⟨rfl, T', hS', hK, fun h => (hps 0).trans (hs h), fun i hi hp => (hpk i).trans (hd i hi hp)⟩
  · rw [hsome]
    intro h q hq g hg' w' T' hS' hK hps hpk
    obtain ⟨h1, rfl⟩ := hgs g hg'
    obtain ⟨e, hget⟩ := step_go h hq hg (fun i hi => (hk i hi).1)
    rw [e]
    exact ⟨rfl, T', hS', hK, fun _ => hps, fun i hi hp => hpk i _ (hget i hi)⟩
theorem dsplit {W0 w : World} {T : Ths} {made presS0 : Bool} {n : Nat} {block total : Int} {c : CodeT} {gs : Nat} {gd : Nat → Nat} {pres : Nat → Bool} {stt : Nat → Snk} {dd cc dst : Sl} {s : Src}
    (hS : Sep W0 w T) (hE : made = true → paramsF c.1 c.2.1 c.2.2.1 = 0)
    (hs : presS0 = true → T (.rs 0) = RSrc gs dd cc s) (hd0 : Rds b8 W0 dd s.data) (hc0 : Rds i64v W0 cc s.chunks) (hdst : T (.bx 3) = Rdo ptrV dst (ptrs n pres gd)) (hd : ∀ i, i < n → pres i = true → T (.rk i) = RSnk (gd i) (stt i)) (hn : n ≤ 140737488355328)
    (hg : s.Good) (ht : s.turns ≤ 1152921504606846976) (hk : ∀ i, i < n → (stt i).Good ∧ (stt i).got.length ≤ 70368744177664) :
    Cl Tryd.prog 10 #[.agg (codeV c).toArray, .bool made, .int .i64 block, ptrV (if presS0 then some gs else none), .slice dst.base dst.len dst.cap, .int .i64 total] (.one (.agg [.int .i64, .int .i64])) (fun x w' => x = ((resN (stepF made c.1 c.2.1 c.2.2.1 block total (presS0 && allP n pres) n s stt).2.2).1, (resN (stepF made c.1 c.2.1 c.2.2.1 block total (presS0 && allP n pres) n s stt).2.2).2, ()) ∧ ∃ T', Sep W0 w' T' ∧ KeepP T T' ∧
      (presS0 = true → T' (.rs 0) = RSrc gs dd cc (stepF made c.1 c.2.1 c.2.2.1 block total (presS0 && allP n pres) n s stt).1) ∧ ∀ i, i < n → pres i = true → T' (.rk i) = RSnk (gd i) ((stepF made c.1 c.2.1 c.2.2.1 block total (presS0 && allP n pres) n s stt).2.1 i)) w := by
  have hsome : (if presS0 then some gs else none : Option Nat).isSome = presS0 := by cases presS0 <;> rfl
  have hgs : ∀ g, (if presS0 then some gs else none : Option Nat) = some g → presS0 = true ∧ g = gs := by
    intro g hg'; cases presS0
    · cases hg'
    · cases hg'; exact ⟨rfl, rfl⟩
  refine rsplit_ok (jd := 3) (dd := dd) (cc := cc) (s := s) (stt := stt) (pres := pres) (c := c) hS hE (fun g hg' => ?_) hd0 hc0 hdst hd hn (fun _ _ => ⟨hg, ht, hk⟩) ?_ ?_
  · obtain ⟨h1, rfl⟩ := hgs g hg'
    exact hs h1
  · rw [hsome]
    intro h w' T' hS' hK hps hpk
    rw [step_early h]
    exact ⟨rfl, T', hS', hK, fun h => (hps 0).trans (hs h), fun i hi hp => (hpk i).trans (hd i hi hp)⟩
  · rw [hsome]
    intro h q hq g hg' w' T' hS' hK hps hpk
    obtain ⟨h1, rfl⟩ := hgs g hg'
    obtain ⟨e, hget⟩ := step_go h hq hg (fun i hi => (hk i hi).1)
    rw [e]
    exact ⟨rfl, T', hS', hK, fun _ => hps, fun i hi hp => hpk i _ (hget i hi)⟩
end Go.Proofs.YtmmejgneelkhkaaDoor
