/- culletlaw12.TrieWalks: the outer round. -/
import Derived.Test.YtdnlnloogfnlgaaTrWd
set_option linter.all false
namespace Go.Proofs.Ytdnlnloogfnlgaa
open Go Go.Cu Go.RowKit
set_option linter.unusedVariables false
set_option maxHeartbeats 4000000
theorem find_app : ∀ (L M : Env) (t : Nat) (v : Value), find L t = some v → find (L ++ M) t = some v
  | [], _, _, _, h => by simp [find] at h
  | (s, x) :: L, M, t, v, h => by
    simp only [List.cons_append, find] at h ⊢
    cases hb : Nat.beq s t with
    | true => rw [hb] at h; exact h
    | false => rw [hb] at h; exact find_app L M t v h
theorem SlotsD.cut {ds : List Deferred} {n : Nat} {a : Act} {L M : Env} (h : SlotsD ds n a (L ++ M)) : SlotsD ds n a L := ⟨h.size, h.defers, fun i v hv => h.vals i v (find_app L M i v hv)⟩
abbrev tw.L6 : List (Nat × Cx) := [(5, .at .addr), (6, .at .addr), (7, .at .addr), (11, .at .addr), (12, .at .addr), (14, .at .addr)]
abbrev tw.L7 : List (Nat × Cx) := [(5, .at .addr), (6, .at .addr), (7, .at .addr), (11, .at .addr), (12, .at .addr), (14, .at .addr), (15, .at .sl)]
abbrev st6 (c : Cs) (bn : Nat) : St tw.L6 := (⟨c.b5, 0, none⟩, ⟨c.b6, 0, none⟩, ⟨c.b7, 0, none⟩, ⟨c.b11, 0, none⟩, ⟨c.b12, 0, none⟩, ⟨bn, 0, none⟩, ())
abbrev st7 (c : Cs) (bn : Nat) (k : Sl) : St tw.L7 := (⟨c.b5, 0, none⟩, ⟨c.b6, 0, none⟩, ⟨c.b7, 0, none⟩, ⟨c.b11, 0, none⟩, ⟨c.b12, 0, none⟩, ⟨bn, 0, none⟩, k, ())
theorem tw.o1 : tw.OB = .seq (cL tw.OB) (cR tw.OB) := by kernel_rfl
theorem tw.o2 : cR tw.OB = .seq (.seq (cL (cL (cR tw.OB))) (.cond (.tmp 82) (Cu.cT (cR (cL (cR tw.OB)))) .skip)) (cR (cR tw.OB)) := by kernel_rfl
theorem tw.o3 : cR (cR tw.OB) = .seq (cL (cR (cR tw.OB))) (cR (cR (cR tw.OB))) := by kernel_rfl
theorem tw.o4 : cR (cR (cR tw.OB)) = .seq (.seq (cL (cL (cR (cR (cR tw.OB))))) (.block 6 tw.RF2)) (cR (cR (cR (cR tw.OB)))) := by kernel_rfl
theorem tw.o5 : Cu.cT (cR (cL (cR tw.OB))) = .region 24 (cO (Cu.cT (cR (cL (cR tw.OB))))) true := by kernel_rfl
theorem outer_body {W : World} {lim clk : Int} {Res : Nat → Prop} {os : List OpK} {c : Cs} {l1 m bn i B : Nat} {rec1 : Loop} {k : Sl} {l : Path} {w : World} {a : Act} {Q : Exit → Act → World → Prop}
    (hl1 : w.heap[l1]? = some (.loop rec1)) (hcon : Con c w) (hS : Sw W c.tb lim Res w clk) (hc : clk < 4611686018427387903) (hsc : Script W c.s os) (hbn : Has w bn [.int .i64 (i : Int)] 3) (hl : c.ks[i]? = some l) (hlen : c.ks.length ≤ 1024) (hkl : ∀ l ∈ c.ks, l.length ≤ 300) (hk : Cu.Own i64v 3 B w k l)
    (hrc : ∀ b, Cst c b → Res b) (hrn : Res bn ∧ W.heap.size ≤ bn ∧ ¬ Cst c bn) (hrl : Res l1 ∧ W.heap.size ≤ l1) (hrk : ∀ b, SlIn k b → Res b ∧ W.heap.size ≤ b ∧ ¬ Cst c b ∧ b ≠ bn ∧ b ≠ l1)
    (hs : SlotsD [] 146 a (Cu.encS tw.L7 (st7 c bn k)))
    (hK : ∀ w' a', Mo (fun b => (W.heap.size ≤ b ∧ ¬ Res b) ∨ SlIn k b ∨ b = bn) w w' → Sw W c.tb lim Res w' (clk + 1) → Con c w' → Has w' bn [.int .i64 ((i + 1 : Nat) : Int)] 3 → w'.heap[l1]? = some (.loop rec1) → Q .normal a' w') : tw.OB.wpIn (FR (some l1)) m Try.prog Q a w := by
  have hll := hkl l (List.mem_of_getElem? hl)
  have hilt := (List.getElem?_eq_some_iff.1 hl).1
  have noR : ∀ {ds : List Deferred} {n : Nat} {rs : List ResultVar} {cs : List Cx} {Q' : Exit → Act → World → Prop} (e : Exit) (a : Act) (w : World), e ≠ .normal → semQD ds n (endQ Try.prog rs cs fun _ _ => False) e a w → Q' e a w := fun e a w he hq => (endQ_elim (fun _ _ h => h) he hq).elim
  rw [tw.o1]
  obtain ⟨J1, hJ1⟩ : ∃ J1 : St tw.L7 → World → Prop, J1 = fun st v => st = st7 c bn k ∧ Ex w v := ⟨_, rfl⟩
  refine wpIn_piece (r := some l1) (ds := []) tw.L7 J1 _ _ (culletlaw12_TrieWalks.q1.oks (fun _ _ => False) J1) (culletlaw12_TrieWalks.q1.run (fun _ _ => False) J1 _ _ _ _ _ _ k w (walks_q1 hcon hbn hl hlen hll hk fun v hv => by rw [hJ1]; exact ⟨rfl, hv⟩)) hs (noR) ?_
  rw [hJ1]
  rintro _ a1 w1 ⟨rfl, hx1⟩ hs1
  rw [tw.o2]
  refine wpIn_seq ?_
  obtain ⟨J2, hJ2⟩ : ∃ J2 : St (tw.L7 ++ [(82, .at .bool)]) → World → Prop, J2 = fun st v => st = (⟨c.b5, 0, none⟩, ⟨c.b6, 0, none⟩, ⟨c.b7, 0, none⟩, ⟨c.b11, 0, none⟩, ⟨c.b12, 0, none⟩, ⟨bn, 0, none⟩, k, decide ((i : Int) < ((c.s.len : Nat) : Int)), ()) ∧ v = w1 := ⟨_, rfl⟩
  have hcon1 := hcon.ex hx1
  have hS1 := hS.more hx1
  have hbn1 := hbn.ex hx1
  refine wpIn_piece (r := some l1) (ds := []) (tw.L7 ++ [(82, .at .bool)]) J2 _ _ (culletlaw12_TrieWalks.q2.oks (fun _ _ => False) J2) (culletlaw12_TrieWalks.q2.run (fun _ _ => False) J2 _ _ _ _ _ _ k w1 (walks_q2 hcon1 hbn1 (by rw [hJ2]; exact ⟨rfl, rfl⟩))) hs1 (noR) ?_
  rw [hJ2]
  rintro _ a2 w2 ⟨rfl, rfl⟩ hs2
  have hs2' : SlotsD [] 146 a2 (Cu.encS tw.L7 (st7 c bn k)) := SlotsD.cut (M := [(82, .bool (decide ((i : Int) < ((c.s.len : Nat) : Int))))]) hs2
  -- what follows the script's step
  have rest : ∀ a3 w3, Mo (fun b => W.heap.size ≤ b ∧ ¬ Res b) w2 w3 → Sw W c.tb lim Res w3 (clk + 1) → SlotsD [] 146 a3 (Cu.encS tw.L7 (st7 c bn k)) → (cR (cR tw.OB)).wpIn (FR (some l1)) m Try.prog Q a3 w3 := by
    intro a3 w3 hm3 hS3 hs3
    have hcon3 : Con c w3 := hcon1.mo hm3 (fun b hb h => h.2 (hrc b hb))
    have hbn3 := hbn1.mo hm3 (fun h => h.2 hrn.1)
    have hk3 := (hk.ex hx1).mo hm3 (fun b hb h => h.2 (hrk b hb).1)
    have hl3 : w3.heap[l1]? = some (.loop rec1) := (hm3.keep l1 (Nat.lt_of_lt_of_le (hS.res l1 hrl.1) hx1.size) (fun h => h.2 hrl.1)).trans ((hx1.keep l1 (hS.res l1 hrl.1) id).trans hl1)
    rw [tw.o3]
    obtain ⟨J4, hJ4⟩ : ∃ J4 : St (tw.L7 ++ [(16, .at .addr)]) → World → Prop, J4 = fun st v => st = (⟨c.b5, 0, none⟩, ⟨c.b6, 0, none⟩, ⟨c.b7, 0, none⟩, ⟨c.b11, 0, none⟩, ⟨c.b12, 0, none⟩, ⟨bn, 0, none⟩, k, ⟨w3.heap.size, 0, none⟩, ()) ∧ Ex w3 v ∧ Has v w3.heap.size [.int .i64 0] 3 := ⟨_, rfl⟩
    refine wpIn_piece (r := some l1) (ds := []) (tw.L7 ++ [(16, .at .addr)]) J4 _ _ (culletlaw12_TrieWalks.q4.oks (fun _ _ => False) J4) (culletlaw12_TrieWalks.q4.run (fun _ _ => False) J4 _ _ _ _ _ _ k w3 ?_) hs3 (noR) ?_
    · unfold culletlaw12_TrieWalks.q4.M
      refine Wr_alloc (z := .int .i64 0) (by kernel_rfl) fun v1 hB1 hv1 => ?_
      refine Wu_store (v := .int .i64 0) hB1 (by kernel_rfl) (by simp [Value.cells, Value.oneCell']) (Nat.le_of_ble_eq_true (by kernel_rfl)) fun v2 hB2 hm2 => ?_
      have hB2 : Has v2 w3.heap.size [.int .i64 0] 3 := hB2
      rw [hJ4]
      exact ⟨rfl, hv1.into hm2 (fun b h => by rw [h]; exact Nat.le_refl _), hB2⟩
    rw [hJ4]
    rintro _ a4 w4 ⟨rfl, hx4, hbm4⟩ hs4
    rw [tw.o4]
    refine wpIn_seq ?_
    have hcon4 := hcon3.ex hx4
    obtain ⟨J5, hJ5⟩ : ∃ J5 : St tw.LI → World → Prop, J5 = fun st v => st = (⟨c.b5, 0, none⟩, ⟨c.b6, 0, none⟩, ⟨c.b7, 0, none⟩, ⟨c.b11, 0, none⟩, ⟨c.b12, 0, none⟩, ⟨bn, 0, none⟩, k, ⟨w3.heap.size, 0, none⟩, seqV c.bx, ()) ∧ v = w4 := ⟨_, rfl⟩
    refine wpIn_piece (r := some l1) (ds := []) tw.LI J5 _ _ (culletlaw12_TrieWalks.q5.oks (fun _ _ => False) J5) (culletlaw12_TrieWalks.q5.run (fun _ _ => False) J5 _ _ _ _ _ _ k ⟨w3.heap.size, 0, none⟩ w4 ?_) hs4 (noR) ?_
    · unfold culletlaw12_TrieWalks.q5.M
      refine Rd_has (c := .any) (x := seqV c.bx) hcon4.h12 (by kernel_rfl) rfl ?_
      rw [hJ5]
      exact ⟨rfl, rfl⟩
    rw [hJ5]
    rintro _ a5 w5 ⟨rfl, rfl⟩ hs5
    have h3r : ∀ b, Res b → b < w3.heap.size := hS3.res
    have cstl : ∀ b, Cst c b → b < w3.heap.size := fun b hb => h3r b (hrc b hb)
    refine inner_range (n := i) (F := c.F) ((hx4.keep l1 (h3r l1 hrl.1) id).trans hl3) hcon4.h11 hcon4.n1 hcon4.hx hcon4.n2 (fun b hb => ?_) (hbn3.ex hx4) hbm4 hilt hlen hkl ?_ ?_ ?_ hs5 fun w6 a6 hm6 hs6 => ?_
    · have := cstl b (.inr (.inr (.inr (.inr (.inr (.inr hb))))))
      have := hx4.size
      omega
    · have := cstl c.b11 (.inr (.inr (.inr (.inl rfl))))
      omega
    · have := cstl c.bx (.inr (.inr (.inr (.inr (.inr (.inl rfl))))))
      omega
    · have := h3r bn hrn.1
      omega
    show (cR (cR (cR (cR tw.OB)))).wpIn (FR (some l1)) m Try.prog Q a6 w6
    have hx36 : Ex w3 w6 := hx4.into hm6 (fun b h => by rw [h]; exact Nat.le_refl _)
    have hs6' : SlotsD [] 146 a6 (Cu.encS tw.L7 (st7 c bn k)) := SlotsD.cut (M := [(16, .pointer (some ⟨w3.heap.size, 0, none⟩)), (89, seqV c.bx)]) hs6
    obtain ⟨J6, hJ6⟩ : ∃ J6 : St tw.L6 → World → Prop, J6 = fun _ v => Mo (fun b => SlIn k b ∨ b = bn) w6 v ∧ Has v bn [.int .i64 ((i + 1 : Nat) : Int)] 3 := ⟨_, rfl⟩
    refine wpIn_last (r := some l1) (ds := []) tw.L6 J6 _ _ (culletlaw12_TrieWalks.q6.oks (fun _ _ => False) J6) (culletlaw12_TrieWalks.q6.run (fun _ _ => False) J6 _ _ _ _ _ _ k w6 (walks_q6 (hbn3.ex hx36) (by omega) hll (hk3.ex hx36) (fun b hb => (hrk b hb).2.2.2.1) fun v hv hbv => by rw [hJ6]; exact ⟨hv, hbv⟩)) hs6' (noR) ?_
    rw [hJ6]
    rintro st a7 w7 ⟨hm7, hbn7⟩ _
    have hS7 := (hS3.more hx36).mo hm7 (fun b _ hb => hb.elim (fun h => ⟨(hrk b h).1, (hrk b h).2.1⟩) (fun h => by rw [h]; exact ⟨hrn.1, hrn.2.1⟩))
    have hcon7 := (hcon3.ex hx36).mo hm7 (fun b hb hb2 => hb2.elim (fun h => (hrk b h).2.2.1 hb) (fun h => hrn.2.2 (h ▸ hb)))
    have hl7 : w7.heap[l1]? = some (.loop rec1) := (hm7.keep l1 (Nat.lt_of_lt_of_le (h3r l1 hrl.1) hx36.size) (fun h => h.elim (fun h => (hrk _ h).2.2.2.2 rfl) (fun h => by
      have hb := hbn3
      unfold Has at hb
      rw [← h, hl3] at hb
      cases hb))).trans ((hx36.keep l1 (h3r l1 hrl.1) id).trans hl3)
    refine hK w7 a7 ?_ hS7 hcon7 hbn7 hl7
    exact (((hx1.mo hm3).ex hx36).trans hm7 (fun b h => .inl h) (fun b _ h => .inr h))
  have hev : a2.eval (.tmp 82) = .bool (decide ((i : Int) < ((c.s.len : Nat) : Int))) := hs2.ev rfl
  by_cases hin : (i : Int) < ((c.s.len : Nat) : Int)
  · rw [decide_eq_true hin] at hev
    refine wpIn_cond_true hev ?_
    rw [tw.o5]
    refine wpIn_region_any mix_eq ?_
    have hsz : (cO (Cu.cT (cR (cL (cR tw.OB))))).size = 6 := by kernel_rfl
    rw [hsz]
    obtain ⟨J3, hJ3⟩ : ∃ J3 : St tw.L7 → World → Prop, J3 = fun st v => st = st7 c bn k ∧ Mo (fun b => W.heap.size ≤ b ∧ ¬ Res b) w2 v ∧ Sw W c.tb lim Res v (clk + 1) := ⟨_, rfl⟩
    refine liftA_sound (ds := []) (r := some l1) (fun a3 L v hsl hk3 => ?_) _ _ _ a2 _ hs2' (culletlaw12_TrieWalks.q3.run J3 _ _ _ _ _ _ k w2 (walks_q3 hcon1 hS1 (by omega) hsc hbn1 (by omega) fun v hv hSv => by rw [hJ3]; exact ⟨rfl, hv, hSv⟩))
    simp only [projK] at hk3
    cases hp : projS tw.L7 L with
    | none => rw [hp] at hk3; exact hk3.elim
    | some st =>
      rw [hp, hJ3] at hk3
      obtain ⟨rfl, hv, hSv⟩ := hk3
      exact rest a3 v hv hSv (hsl.proj hp)
  · rw [decide_eq_false hin] at hev
    refine wpIn_cond_false hev ?_
    refine wpIn_skip ?_
    exact rest a2 w2 (Mo.refl _ _) (hS1.late (by omega)) hs2'
end Go.Proofs.Ytdnlnloogfnlgaa
