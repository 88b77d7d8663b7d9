/- Reading till there is enough: the program's Full, the document's full. -/
import Derived.Test.YtmmejgneelkhkaaDoorSpQ
set_option linter.all false
namespace Go.Proofs.YtmmejgneelkhkaaDoor
open Go Go.Cu Go.RowKit
set_option linter.unusedVariables false
set_option maxHeartbeats 2000000
theorem Cl_mono {f : FuncId} {args : Array Value} {d : Sh} {k k' : d.T → World → Prop} {w : World} (h : Cl Tryd.prog f args d k w) (hk : ∀ x w', k x w' → k' x w') : Cl Tryd.prog f args d k' w :=
  Calls.mono h fun _ w' ⟨x, he, hx⟩ => ⟨x, he, hk x w' hx⟩
theorem Pu_ne {v : Value} {b : Bool} {t : Tmp} {k : Bool → World → Prop} {w : World} (h : (v = .nilIface ∧ b = false) ∨ ((∃ t u, v = .iface t u) ∧ b = true)) (hk : k b w) :
    Pu Tryd.prog (do eqGuard .neq 50 (.tmp t) (.const .nilIface) v .nilIface; binOp .neq 50 v .nilIface) (.one (.at .bool)) k w := by
  rcases h with ⟨rfl, rfl⟩ | ⟨⟨t, u, rfl⟩, rfl⟩
  · exact ⟨false, fun w' => ne_nil_f w', hk⟩
  · exact ⟨true, fun w' => ne_nil_t _ _ w', hk⟩
theorem Pu_eq0 {v : Value} {b : Bool} {t : Tmp} {k : Bool → World → Prop} {w : World} (h : (v = .nilIface ∧ b = true) ∨ ((∃ t u, v = .iface t u) ∧ b = false)) (hk : k b w) :
    Pu Tryd.prog (do eqGuard .eql 50 (.tmp t) (.const .nilIface) v .nilIface; binOp .eql 50 v .nilIface) (.one (.at .bool)) k w := by
  rcases h with ⟨rfl, rfl⟩ | ⟨⟨t, u, rfl⟩, rfl⟩
  · exact ⟨true, fun w' => eq_nil_t w', hk⟩
  · exact ⟨false, fun w' => eq_nil_f _ _ w', hk⟩
theorem whV_ne (ea br : Addr) {x : Wh} (h : x ≠ .ok) : ∃ t u, whV ea br x = .iface t u := by cases x <;> first | exact absurd rfl h | exact ⟨_, _, rfl⟩
theorem buf_step {out got : List Int} {n : Nat} (h : out.length + got.length ≤ n) : (out ++ List.replicate (n - out.length) 0).take out.length ++ got ++ (out ++ List.replicate (n - out.length) (0 : Int)).drop (out.length + got.length) = (out ++ got) ++ List.replicate (n - (out ++ got).length) 0 := by
  rw [List.take_left, List.drop_append, List.drop_of_length_le (by omega), List.nil_append]
  congr 1
  rw [List.drop_replicate]
  congr 1
  rw [List.length_append]; omega
abbrev rdF (g : Nat) : Value := .func (.method "Read") #[.iface 52 (.pointer (at0 g))] #[]
theorem through_read {W0 w : World} {T : Ths} {ks kb : Ky} {g gb n : Nat} {br ea : Addr} {d c : Sl} {s : Src} (hS : Sep W0 w T) (hk : T ks = PSrc g br d c s) (hb : T kb = Buf gb (List.replicate n 0)) (hne : kb ≠ ks) (hg : s.Good) (ht : s.turns + (n * 100 + 100) ≤ 4611686018427387904)
    (he : EndIs W0 ea) (hn : n ≤ 140737488355328) :
    Cl Tryd.prog 66 #[.slice (at0 gb) n n, rdF g] (.tup [.at (.int .i64), .at .any])
      (fun x w' => x = (((s.full n).2.1.length : Int), whV ea br (s.full n).2.2, ()) ∧ Sep W0 w' ((T.up ks (PSrc g br d c (s.full n).1)).up kb (Buf gb ((s.full n).2.1 ++ List.replicate (n - (s.full n).2.1.length) 0)))) w := by
  refine pipes_through.run _ ⟨at0 gb, n, n⟩ (rdF g) w ?_
  generalize hR : (fun (e : Ending) (w' : World) => ∃ x : Int × Value × Unit, e = .returned ((Sh.tup [.at (.int .i64), .at .any]).enc x) ∧ x = (((s.full n).2.1.length : Int), whV ea br (s.full n).2.2, ()) ∧ Sep W0 w' ((T.up ks (PSrc g br d c (s.full n).1)).up kb (Buf gb ((s.full n).2.1 ++ List.replicate (n - (s.full n).2.1.length) 0)))) = R
  have fin : ∀ (w' : World) (v : Value) (z : Int) (s1 : Src) (out : List Int) (x : Wh), s.full n = (s1, out, x) → v = whV ea br x → z = (out.length : Int) → Sep W0 w' ((T.up ks (PSrc g br d c s1)).up kb (Buf gb (out ++ List.replicate (n - out.length) 0))) → R (.returned (.tuple #[.int .i64 z, v])) w' := by
    intro w' v z s1 out x hf hv hz hs
    subst hR hv hz
    rw [hf]
    exact ⟨_, rfl, rfl, hs⟩
  clear hR
  unfold pipes_through.M pipes_through.l1
  refine loopW_of (fun st w1 => ∃ (s1 : Src) (out : List Int) (idle f : Nat), st = ((⟨at0 gb, n, n⟩ : Sl), rdF g, (out.length : Int), (idle : Int), ()) ∧ idle ≤ 99 ∧ out.length ≤ n ∧ s1.Good ∧ s1.turns + ((n - out.length) * 100 + (100 - idle)) ≤ 4611686018427387904 ∧ (n - out.length) * 100 + (100 - idle) ≤ f ∧
      s.full n = ((Src.fullF f s1 (n - out.length) idle).1, out ++ (Src.fullF f s1 (n - out.length) idle).2.1, (Src.fullF f s1 (n - out.length) idle).2.2) ∧ Sep W0 w1 ((T.up ks (PSrc g br d c s1)).up kb (Buf gb (out ++ List.replicate (n - out.length) 0))))
    (fun st _ => ((n - st.2.2.1) * 100 + (100 - st.2.2.2.1)).toNat) ?_ ⟨s, [], 0, n * 100 + 100, rfl, by omega, by simp, hg, by simpa using ht, by simp, by simp [Src.full], by
      simp only [List.length_nil, Nat.sub_zero, List.nil_append]
      rw [← hk, ← hb, Ths.up_id, Ths.up_id]
      exact hS⟩
  rintro k1 _ w1 ⟨s1, out, idle, f, rfl, hi, ho, hg1, ht1, hf, hful, hS1⟩ hk1
  unfold pipes_through.b1
  dsimp only at hk1 ⊢
  refine Cd_dec (fun hlt => ?_) (fun hge => ?_)
  · have hlt : out.length < n := by omega
    have hw0 : n - out.length ≠ 0 := by omega
    obtain ⟨f, rfl⟩ : ∃ f', f = f' + 1 := ⟨f - 1, by omega⟩
    refine Pu_sub tB sB hlt (Nx_read ?_)
    refine Cl_mono (read_ok hS1 (k := ks) (kb := kb) (l := out ++ List.replicate (n - out.length) 0) (o := out.length) (n := n - out.length) (by rw [Ths.up_ne _ _ (fun e => hne e.symm), Ths.up_same]) (Ths.up_same _ _ _) hne hg1 (by omega) he (by simp) (by simp; omega) (by simp; omega)) ?_
    rintro x w2 ⟨rfl, hS2⟩
    obtain ⟨hr, hrt, hrn, hrs⟩ := read_facts hg1 (n - out.length)
    have hle := hr.le
    have hlo := hr.lo
    rw [buf_step (by omega), Ths.up_back _ _ _ _ hne, Ths.up_up] at hS2
    have hS2' := hS2
    dsimp only
    refine Cd_dec (fun h => absurd (show ((s1.read (n - out.length)).2.1.length : Int) < 0 from h) (by omega)) (fun _ => ?_)
    unfold pipes_through.j2
    rw [wrap64 (by omega) (by omega), wrap64 (by omega) (by omega)]
    dsimp only
    refine Cd_dec (fun h => absurd (show ((s1.read (n - out.length)).2.1.length : Int) > (n : Int) - (out.length : Int) from h) (by omega)) (fun _ => ?_)
    refine Cd_eq (fun hd => ?_) (fun hd => ?_)
    · have hd : out.length + (s1.read (n - out.length)).2.1.length = n := by omega
      have hok : (s1.read (n - out.length)).2.2 = .ok := Classical.byContradiction fun h => by have := (hrn h).1; rw [this] at hd; simp at hd; omega
      unfold pipes_through.j1
      rw [fullF_go hw0 hok (by omega), show n - out.length - (s1.read (n - out.length)).2.1.length = 0 by omega, fullF_zero] at hful
      simp only [List.append_nil] at hful
      exact fin w2 _ _ _ _ _ hful rfl (by rw [List.length_append]; omega) hS2'
    · have hd : out.length + (s1.read (n - out.length)).2.1.length ≠ n := by omega
      by_cases hok : (s1.read (n - out.length)).2.2 = .ok
      · refine Pu_ne (b := false) (.inl ⟨by rw [hok]; rfl, rfl⟩) (Cd_f ?_)
        unfold pipes_through.j3
        refine Cd_dec (fun hp => ?_) (fun hp => ?_)
        · have hp : (s1.read (n - out.length)).2.1.length ≠ 0 := by omega
          refine Cd_eq (fun h => absurd h (by omega)) (fun _ => ?_)
          rw [fullF_go hw0 hok hp, ← List.append_assoc, show n - out.length - (s1.read (n - out.length)).2.1.length = n - (out ++ (s1.read (n - out.length)).2.1).length by rw [List.length_append]; omega] at hful
          refine hk1 _ _ ⟨(s1.read (n - out.length)).1, out ++ (s1.read (n - out.length)).2.1, 0, f, by simp, by omega, by simp; omega, hr.good, by simp; omega, by simp; omega, hful, hS2'⟩ (by simp only; omega)
        · have hp : (s1.read (n - out.length)).2.1.length = 0 := by omega
          have e0 : (s1.read (n - out.length)).2.1 = [] := List.eq_nil_of_length_eq_zero hp
          rw [wrap64 (by omega) (by omega)]
          refine Cd_eq (fun h => ?_) (fun h => ?_)
          · rw [fullF_short hw0 hok hp (by omega)] at hful
            exact fin w2 _ _ _ _ _ hful rfl (by dsimp only; rw [List.length_append]; omega) hS2'
          · rw [fullF_idle hw0 hok hp (by omega)] at hful
            rw [e0, List.append_nil] at hS2'
            refine hk1 _ _ ⟨(s1.read (n - out.length)).1, out, idle + 1, f, by rw [hp]; simp, by omega, ho, hr.good, by omega, by omega, hful, hS2'⟩ (by simp only; omega)
      · have e0 := (hrn hok).1
        refine Pu_ne (b := true) (.inr ⟨whV_ne ea br hok, rfl⟩) (Cd_t ?_)
        rw [fullF_stop hw0 hok] at hful
        exact fin w2 _ _ _ _ _ hful rfl (by rw [List.length_append]; omega) hS2'
  · have hnn : n - out.length = 0 := by omega
    unfold pipes_through.j1
    rw [hnn, fullF_zero] at hful
    simp only [List.append_nil] at hful
    exact fin w1 _ _ _ _ _ hful rfl rfl hS1
theorem full_ok {W0 w : World} {T : Ths} {ks kb : Ky} {g gb n : Nat} {br ea : Addr} {d c : Sl} {s : Src} (hS : Sep W0 w T) (hk : T ks = PSrc g br d c s) (hb : T kb = Buf gb (List.replicate n 0)) (hne : kb ≠ ks) (hg : s.Good) (ht : s.turns + (n * 100 + 100) ≤ 4611686018427387904)
    (he : EndIs W0 ea) (hn : n ≤ 140737488355328) :
    Cl Tryd.prog 50 #[.iface 52 (.pointer (at0 g)), .slice (at0 gb) n n] (.tup [.at (.int .i64), .at .any])
      (fun x w' => x = (((s.full n).2.1.length : Int), whV ea br (s.full n).2.2, ()) ∧ Sep W0 w' ((T.up ks (PSrc g br d c (s.full n).1)).up kb (Buf gb ((s.full n).2.1 ++ List.replicate (n - (s.full n).2.1.length) 0)))) w := by
  refine pipes_Full.run _ (.iface 52 (.pointer (at0 g))) ⟨at0 gb, n, n⟩ w ?_
  unfold pipes_Full.M
  refine ⟨false, fun w' => eq_nil_r _ _ w', Cd_f (Nx_nilAny ?_)⟩
  refine Cl_mono (through_read hS hk hb hne hg ht he hn) ?_
  rintro x w2 ⟨rfl, hS2⟩
  exact ⟨_, rfl, rfl, hS2⟩
end Go.Proofs.YtmmejgneelkhkaaDoor
