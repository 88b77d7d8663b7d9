/- fill and put of the program; the document's full. -/
import Derived.Test.YtmmejgneelkhkaaDoorSpC
import Derived.Test.YtmmejgneelkhkaaDoorSpIs
set_option linter.all false
namespace Go.Proofs.YtmmejgneelkhkaaDoor
open Go Go.Cu Go.RowKit
set_option linter.unusedVariables false
set_option maxHeartbeats 2000000
set_option maxRecDepth 100000
theorem is_cl {ea br : Addr} {x : Wh} {k : Bool → World → Prop} {w : World} (hk : k (decide (x = .fin)) w) : Cl Tryd.prog 35 #[whV ea br x, endV ea] (.one (.at .bool)) k w := by
  cases x
  · exact Calls.mono (is_nil ea w) fun _ w' ⟨he, hw⟩ => ⟨false, he, hw ▸ hk⟩
  · exact Calls.mono (is_end ea w) fun _ w' ⟨he, hw⟩ => ⟨true, he, hw ▸ hk⟩
  · exact Calls.mono (is_broken_end br ea w) fun _ w' ⟨he, hw⟩ => ⟨false, he, hw ▸ hk⟩
  · exact Calls.mono (is_no_end 240 ea w) fun _ w' ⟨he, hw⟩ => ⟨false, he, hw ▸ hk⟩
def fillV (br : Addr) : Wh → Value
  | .ok => .nilIface
  | .fin => .nilIface
  | .broken => brV br
  | .short => noV 240
theorem fill_ok {W0 w : World} {T : Ths} {ks kb : Ky} {g n : Nat} {br ea : Addr} {d c : Sl} {s : Src} (hS : Sep W0 w T) (hk : T ks = PSrc g br d c s) (hne : kb ≠ ks) (hg : s.Good) (ht : s.turns + (n * 100 + 100) ≤ 4611686018427387904)
    (he : EndIs W0 ea) (hn : n ≤ 140737488355328) :
    Cl Tryd.prog 28 #[.pointer (at0 g), .int .i64 (n : Int)] (.tup [.at .sl, .at .bool, .at .any])
      (fun x w' => ∃ y : Sl, x = (y, decide ((s.full n).2.2 = .fin), fillV br (s.full n).2.2, ()) ∧ Sep W0 w' ((T.up ks (PSrc g br d c (s.full n).1)).up kb (Rdo b8 y (s.full n).2.1))) w := by
  refine stream_fill.run _ (at0 g) (n : Int) w ?_
  unfold stream_fill.M
  obtain ⟨hr, _, _, _, _⟩ := full_facts (n * 100 + 100) s n 0 hg (by omega)
  have hfull : ∀ (w : World) (T : Ths) (gb : Nat), Sep W0 w T → T ks = PSrc g br d c s → T kb = Buf gb (List.replicate n 0) → Cl Tryd.prog 50 #[.iface 52 (.pointer (at0 g)), .slice (at0 gb) n n] (.tup [.at (.int .i64), .at .any])
      (fun x w' => x = (((s.full n).2.1.length : Int), whV ea br (s.full n).2.2, ()) ∧ Sep W0 w' ((T.up ks (PSrc g br d c (s.full n).1)).up kb (Buf gb ((s.full n).2.1 ++ List.replicate (n - (s.full n).2.1.length) 0)))) w :=
    fun w T gb hS hk hb => full_ok hS hk hb hne hg ht he hn
  have hr : Reads s n (s.full n) := hr
  generalize s.full n = q at hr hfull ⊢
  refine Wr_make (f := b8) (z := 0) tB iB rfl n (by omega) (by omega) rfl rfl fun p w1 hp hB1 hx1 => ?_
  subst hp
  have hB1' : Has w1 w.heap.size ((List.replicate n (0 : Int)).map b8) 5 := hB1
  have hS1 := hS.box kb hx1 hB1'
  refine Cl_mono (hfull _ _ _ hS1 (by rw [Ths.up_ne _ _ (fun e => hne e.symm), hk]) (Ths.up_same _ _ _)) ?_
  rintro x w2 ⟨rfl, hS2⟩
  rw [Ths.up_again _ _ _ _ (fun e => hne e.symm)] at hS2
  refine Rd_one (c := .any) (x := endV ea) (by kernel_rfl) (sep_end hS2 he) ?_
  refine is_cl ?_
  have hle : q.2.1.length ≤ n := hr.le
  have hB2 := hS2.has (k := kb) (Ths.up_same _ _ _)
  have hlen : (q.2.1 ++ List.replicate (n - q.2.1.length) (0 : Int)).length = n := by rw [List.length_append, List.length_replicate]; omega
  have hr2 : Rds b8 w2 ⟨at0 w.heap.size, n, n⟩ (q.2.1 ++ List.replicate (n - q.2.1.length) (0 : Int)) := (own_of_has (base := 0) hlen (by omega) hB2 (Nat.zero_le _)).rds
  have htk : (q.2.1 ++ List.replicate (n - q.2.1.length) (0 : Int)).take q.2.1.length = q.2.1 := List.take_left
  generalize q.2.1 ++ List.replicate (n - q.2.1.length) (0 : Int) = L at hS2 hB2 hlen hr2 htk
  have key : ∀ y : Sl, (∀ w', Rds b8 w' ⟨at0 w.heap.size, n, n⟩ L → Rds b8 w' y ((L.take q.2.1.length).drop 0)) → (∀ x, y.base = some x → ∃ z, at0 w.heap.size = some z ∧ x.block = z.block) →
      Sep W0 w2 ((T.up ks (PSrc g br d c q.1)).up kb (Rdo b8 y q.2.1)) := by
    intro y hy hb
    have hy2 := hy _ hr2
    rw [htk, List.drop_zero] at hy2
    obtain ⟨F, hF, _, hc⟩ := hS2.get kb (Ths.up_same _ _ _)
    have := hc w2 (Rdo b8 y q.2.1) (SlIn y) (Mo.refl _ _) ⟨hy2, fun _ h => h⟩ (fun b hb' => by
      obtain ⟨a, ha, rfl⟩ := hb'
      obtain ⟨z, hz, e⟩ := hb a ha
      cases hz
      exact .inl (e ▸ hF.2))
    rwa [Ths.up_up] at this
  dsimp only
  refine Cd_dec (fun h => ?_) (fun h => ?_)
  · refine Pu_slice 0 q.2.1.length hr2 tB sB (.inl ⟨rfl, rfl⟩) (.inr ⟨.i64, rfl⟩) (Nat.zero_le _) (hlen ▸ hle) fun y hy _ _ hb => ?_
    refine ⟨(y, true, .nilIface, ()), ?_, ?_⟩
    · rfl
    · exact ⟨y, by rw [h]; rfl, key y hy hb⟩
  · refine Pu_slice 0 q.2.1.length hr2 tB sB (.inl ⟨rfl, rfl⟩) (.inr ⟨.i64, rfl⟩) (Nat.zero_le _) (hlen ▸ hle) fun y hy _ _ hb => ?_
    refine ⟨(y, false, whV ea br q.2.2, ()), rfl, y, ?_, key y hy hb⟩
    have : whV ea br q.2.2 = fillV br q.2.2 := by
      revert h
      cases q.2.2 <;> intro h <;> first | rfl | exact absurd rfl h
    rw [this, decide_eq_false h]
abbrev wrF (g : Nat) : Value := .func (.method "Write") #[.iface 64 (.pointer (at0 g))] #[]
theorem through_write {W0 w : World} {T : Ths} {k : Ky} {g : Nat} {br : Addr} {s : Snk} {x : Sl} {p : List Int} (hS : Sep W0 w T) (hk : T k = PSnk g br s) (hr : Rds b8 w x p) (hg : s.Good) (hsz : s.got.length + p.length ≤ 140737488355328) (hp : 0 < p.length) :
    Cl Tryd.prog 66 #[.slice x.base x.len x.cap, wrF g] (.tup [.at (.int .i64), .at .any])
      (fun y w' => (∃ z, y = (z, (if (s.put p).2 = true then .nilIface else brV br), ())) ∧ Sep W0 w' (T.up k (PSnk g br (s.put p).1))) w := by
  refine pipes_through.run _ x (wrF g) w ?_
  generalize hR : (fun (e : Ending) (w' : World) => ∃ y : Int × Value × Unit, e = .returned ((Sh.tup [.at (.int .i64), .at .any]).enc y) ∧ (∃ z, y = (z, (if (s.put p).2 = true then .nilIface else brV br), ())) ∧ Sep W0 w' (T.up k (PSnk g br (s.put p).1))) = R
  unfold pipes_through.M pipes_through.l1
  refine loopW_of (fun st w1 => st = (x, wrF g, 0, 0, ()) ∧ w1 = w) (fun _ _ => 0) ?_ ⟨rfl, rfl⟩
  rintro k1 _ w1 ⟨rfl, rfl⟩ hk1
  unfold pipes_through.b1
  dsimp only
  have hxl := hr.1
  refine Cd_dec (fun hlt => ?_) (fun hge => by omega)
  refine Pu_slice 0 p.length hr tB sB (.inr ⟨.i64, rfl⟩) (.inl ⟨rfl, rfl⟩) (Nat.zero_le _) (Nat.le_refl _) fun x' hx' _ _ _ => ?_
  have hr' := hx' _ hr
  rw [List.take_length, List.drop_zero] at hr'
  refine Nx_write (Cl_mono (write_ok hS hk hr' hg hsz) ?_)
  rintro y w2 ⟨rfl, hS2⟩
  dsimp only
  have hfl := hg.fail
  have hput : (s.put p).2 = false → 0 ≤ s.failAt ∧ s.failAt - (s.got.length : Int) < (p.length : Int) := by
    unfold Snk.put
    split
    · rename_i h; exact fun _ => h
    · exact fun h => by cases h
  generalize hz : (if (s.put p).2 = true then (p.length : Int) else s.failAt - (s.got.length : Int)) = z
  have hz0 : 0 ≤ z ∧ z ≤ p.length ∧ (z = p.length ↔ (s.put p).2 = true) := by
    subst hz
    cases hb : (s.put p).2 with
    | true => simp
    | false =>
      have := hput hb
      have := hfl this.1
      simp only [Bool.false_eq_true, if_false, iff_false]
      omega
  refine Cd_dec (fun h => absurd (show z < 0 from h) (by omega)) (fun _ => ?_)
  unfold pipes_through.j2
  rw [Int.sub_zero, Int.zero_add, wrap64 (by omega) (by omega), wrap64 (by omega) (by omega)]
  refine Cd_dec (fun h => absurd (show z > (x.len : Int) from h) (by omega)) (fun _ => ?_)
  refine Cd_eq (fun hd => ?_) (fun hd => ?_)
  · have hd : z = (x.len : Int) := hd
    have hok := hz0.2.2.1 (by omega)
    unfold pipes_through.j1
    subst hR
    exact ⟨(z, .nilIface, ()), rfl, ⟨z, by rw [if_pos hok]⟩, hS2⟩
  · have hd : z ≠ (x.len : Int) := hd
    have hok : ¬ (s.put p).2 = true := fun h => by have := hz0.2.2.2 h; omega
    rw [if_neg hok]
    refine Pu_ne (b := true) (.inr ⟨⟨_, _, rfl⟩, rfl⟩) (Cd_t ?_)
    subst hR
    exact ⟨(z, brV br, ()), rfl, ⟨z, by rw [if_neg hok]⟩, hS2⟩
theorem put_ok {W0 w : World} {T : Ths} {k : Ky} {g : Nat} {br : Addr} {s : Snk} {x : Sl} {p : List Int} (hS : Sep W0 w T) (hk : T k = PSnk g br s) (hr : Rds b8 w x p) (hg : s.Good) (hsz : s.got.length + p.length ≤ 140737488355328) :
    Cl Tryd.prog 29 #[.pointer (at0 g), .slice x.base x.len x.cap] (.one (.at .any)) (fun y w' => y = (if (s.put p).2 = true then .nilIface else brV br) ∧ Sep W0 w' (T.up k (PSnk g br (s.put p).1))) w := by
  refine stream_put.run _ (at0 g) x w ?_
  unfold stream_put.M
  have hxl := hr.1
  refine Cd_eq (fun h => ?_) (fun h => ?_)
  · have hp : p = [] := List.eq_nil_of_length_eq_zero (by omega)
    subst hp
    have hput : s.put [] = (s, true) := by
      unfold Snk.put
      rw [if_neg (fun h' => by have := hg.fail h'.1; simp at h'; omega)]
      simp
    refine ⟨.nilIface, rfl, by rw [hput]; rfl, ?_⟩
    rw [hput, ← hk, Ths.up_id]
    exact hS
  · refine Cl_of (pipes_Put.run (w_0 := .iface 64 (.pointer (at0 g))) (p_1 := x) (w := w) (R := fun e w' => ∃ y : Int × Value × Unit, e = .returned ((Sh.tup [.at (.int .i64), .at .any]).enc y) ∧ (∃ z, y = (z, (if (s.put p).2 = true then .nilIface else brV br), ())) ∧ Sep W0 w' (T.up k (PSnk g br (s.put p).1))) ?_) ?_
    · unfold pipes_Put.M
      refine ⟨false, fun w' => eq_nil_w _ _ w', Cd_f (Nx_nilAny ?_)⟩
      refine Cl_mono (through_write hS hk hr hg hsz (by omega)) ?_
      rintro y w2 ⟨⟨z, rfl⟩, hS2⟩
      exact ⟨_, rfl, ⟨z, rfl⟩, hS2⟩
    · rintro e w' ⟨y, he, ⟨z, rfl⟩, hS2⟩
      exact ⟨_, he, _, rfl, rfl, hS2⟩
end Go.Proofs.YtmmejgneelkhkaaDoor
