/- Sources and sinks in memory; reading of a source. -/
import Derived.Test.YtmmejgneelkhkaaDoorCb
import Derived.Test.YtmmejgneelkhkaaDoorSepLib
import Derived.Test.YtmmejgneelkhkaaDoorStSpec
set_option linter.all false
namespace Go.Proofs.YtmmejgneelkhkaaDoor
open Go Go.Cu Go.RowKit
set_option linter.unusedVariables false
set_option maxHeartbeats 2000000
theorem tB : Tryd.prog.underlying 67 = some (.slice 5) := by kernel_rfl
theorem sB : sizeIs Tryd.prog 5 1 = true := by kernel_rfl
theorem oB : isOne Tryd.prog 5 = true := by kernel_rfl
theorem iB : (Tryd.prog.info? 5).map (fun i => (i.zero, i.size, i.bytes)) = some (some (.int .u8 0), 1, 1) := by kernel_rfl
theorem tI : Tryd.prog.underlying 24 = some (.slice 3) := by kernel_rfl
theorem sI : sizeIs Tryd.prog 3 1 = true := by kernel_rfl
theorem oI : isOne Tryd.prog 3 = true := by kernel_rfl
theorem iI : (Tryd.prog.info? 3).map (fun i => (i.zero, i.size, i.bytes)) = some (some (.int .i64 0), 1, 8) := by kernel_rfl
theorem tPS : Tryd.prog.underlying 52 = some (.pointer 115) := by kernel_rfl
theorem tPK : Tryd.prog.underlying 64 = some (.pointer 90) := by kernel_rfl
theorem tRS : Tryd.prog.underlying 56 = some (.pointer 110) := by kernel_rfl
theorem tRK : Tryd.prog.underlying 66 = some (.pointer 112) := by kernel_rfl
theorem tEn : Tryd.prog.underlying 32 = some (.pointer 140) := by kernel_rfl
theorem tBl : Tryd.prog.underlying 85 = some (.pointer 93) := by kernel_rfl
abbrev at0 (g : Nat) : Option Addr := some ⟨g, 0, none⟩
theorem Wr_of_Rd {s : Sem Value} {d : Sh} {k : d.T → World → Prop} {w : World} (h : Rd Tryd.prog s d k w) : Wr Tryd.prog s d k w := by
  obtain ⟨x, hx, hk⟩ := h
  exact ⟨x, w, hx, hk⟩
/-! ### Things -/
abbrev srcV (d c : Sl) (br : Addr) (s : Src) : List Value := [slv d, slv c, .int .i64 s.failAt, .pointer (some br), .int .i64 (s.pos : Int), .int .i64 (s.turns : Int)]
def PSrc (g : Nat) (br : Addr) (d c : Sl) (s : Src) : Th :=
  ⟨fun w F => Has w g (srcV d c br s) 115 ∧ Rds b8 w d s.data ∧ Rds i64v w c s.chunks ∧ F g ∧ ∀ b, SlIn d b ∨ SlIn c b → F b ∧ b ≠ g,
   fun h m hx => ⟨h.1.mo m (hx _ h.2.2.2.1), h.2.1.mo m (fun a ha => hx _ (h.2.2.2.2 _ (.inl (slin_of ha))).1), h.2.2.1.mo m (fun a ha => hx _ (h.2.2.2.2 _ (.inr (slin_of ha))).1), h.2.2.2⟩⟩
/-- a struct one of whose fields is a list of bytes of its own -/
def Grow (g : Nat) (e : TypeId) (V : Sl → List Value) (l : List Int) : Th :=
  ⟨fun w F => ∃ d, Has w g (V d) e ∧ Cu.Own b8 5 0 w d l ∧ F g ∧ ∀ b, SlIn d b → F b ∧ b ≠ g,
   fun ⟨d, h1, h2, h3, h4⟩ m hx => ⟨d, h1.mo m (hx _ h3), h2.mo m (fun b hb => hx _ (h4 b hb).1), h3, h4⟩⟩
theorem grow_get {W0 w : World} {T : Ths} {k : Ky} {g : Nat} {e : TypeId} {V : Sl → List Value} {l : List Int} (h : Sep W0 w T) (hk : T k = Grow g e V l) :
    ∃ d, Has w g (V d) e ∧ Cu.Own b8 5 0 w d l ∧ ¬ SlIn d g ∧ ∀ (V' : Sl → List Value) (l' : List Int) (d' : Sl) (w1 w2 : World), Cu.Own b8 5 0 w1 d' l' → Mo (SlIn d) w w1 → (∀ b, SlIn d' b → SlIn d b ∨ w.heap.size ≤ b) → Has w2 g (V' d') e → Mo (fun b => b = g) w1 w2 →
      Sep W0 w2 (T.up k (Grow g e V' l')) := by
  obtain ⟨F, ⟨d, h1, h2, h3, h4⟩, hF, hc⟩ := h.get k hk
  refine ⟨d, h1, h2, fun hd => (h4 g hd).2 rfl, fun V' l' d' w1 w2 ho m1 hin hB m2 => ?_⟩
  have hgd : ∀ b, SlIn d' b → b ≠ g := by
    intro b hb e
    subst e
    rcases hin b hb with h | h
    · exact (h4 b h).2 rfl
    · have := h1.lt; omega
  refine hc w2 _ (fun b => b = g ∨ SlIn d' b) (Mo.trans m1 m2 (fun b hb => (h4 b hb).1) (fun b _ hb => hb ▸ h3)) ⟨d', hB, ho.mo m2 hgd, .inl rfl, fun b hb => ⟨.inr hb, hgd b hb⟩⟩ fun b hb => ?_
  rcases hb with hb | hb
  · exact .inl (hb ▸ h3)
  · rcases hin b hb with h | h
    · exact .inl (h4 b h).1
    · exact .inr ⟨h, Nat.lt_of_lt_of_le (ho.base b hb).2 m2.size⟩
abbrev snkV (br : Addr) (s : Snk) (d : Sl) : List Value := [slv d, .int .i64 s.failAt, .pointer (some br)]
abbrev PSnk (g : Nat) (br : Addr) (s : Snk) : Th := Grow g 90 (snkV br s) s.got
abbrev rsrcV (d c : Sl) (s : Src) : List Value := [slv d, slv c, .int .i64 s.failAt, .int .i64 (s.pos : Int), .int .i64 (s.turns : Int)]
abbrev RSrc (g : Nat) (d c : Sl) (s : Src) : Th := Cel g (rsrcV d c s) 110
abbrev rsnkV (s : Snk) (d : Sl) : List Value := [.int .i64 s.failAt, slv d]
abbrev RSnk (g : Nat) (s : Snk) : Th := Grow g 112 (rsnkV s) s.got
abbrev Buf (g : Nat) (l : List Int) : Th := Cel g (l.map b8) 5
abbrev endV (ea : Addr) : Value := .iface 202 (.pointer (some ea))
abbrev brV (br : Addr) : Value := .iface 88 (.pointer (some br))
abbrev noV (n : Int) : Value := .iface 74 (.int .i64 n)
def whV (ea br : Addr) : Wh → Value
  | .ok => .nilIface
  | .fin => endV ea
  | .broken => brV br
  | .short => noV 240
/-- the variable End -/
def EndIs (w : World) (ea : Addr) : Prop := w.cell? ⟨0, 0, none⟩ = some (endV ea)
theorem sep_end {W0 w : World} {T : Ths} {ea : Addr} (h : Sep W0 w T) (he : EndIs W0 ea) : EndIs w ea := by
  have := World.block_lt_of_cell? _ _ he
  exact h.mo.cell he (by omega)
theorem src_has {W0 w : World} {T : Ths} {k : Ky} {g : Nat} {br : Addr} {d c : Sl} {s : Src} (h : Sep W0 w T) (hk : T k = PSrc g br d c s) : Has w g (srcV d c br s) 115 ∧ Rds b8 w d s.data ∧ Rds i64v w c s.chunks := by
  obtain ⟨F, ht, _⟩ := h.get k hk
  exact ⟨ht.1, ht.2.1, ht.2.2.1⟩
theorem src_set {W0 w w' : World} {T : Ths} {k : Ky} {g : Nat} {br : Addr} {d c : Sl} {s s' : Src} (h : Sep W0 w T) (hk : T k = PSrc g br d c s) (hl : s.Like s') (hB : Has w' g (srcV d c br s') 115) (m : Mo (fun b => b = g) w w') :
    Sep W0 w' (T.up k (PSrc g br d c s')) := by
  obtain ⟨F, ⟨h1, h2, h3, h4, h5⟩, _, hc⟩ := h.get k hk
  refine hc w' _ F (m.weak (fun b _ hb => hb ▸ h4)) ⟨hB, ?_, ?_, h4, h5⟩ (fun b hb => .inl hb)
  · rw [hl.1]; exact h2.mo m (fun a ha => (h5 _ (.inl (slin_of ha))).2)
  · rw [hl.2.1]; exact h3.mo m (fun a ha => (h5 _ (.inr (slin_of ha))).2)
/-! ### Read -/
theorem read_ok {W0 w : World} {T : Ths} {k kb : Ky} {g gb o n : Nat} {br ea : Addr} {d c : Sl} {s : Src} {l : List Int} (hS : Sep W0 w T) (hk : T k = PSrc g br d c s) (hb : T kb = Buf gb l) (hne : kb ≠ k) (hg : s.Good) (ht : s.turns < 4611686018427387904)
    (he : EndIs W0 ea) (hn : n = l.length - o) (ho : o < l.length) (hl : l.length ≤ 140737488355328) :
    Cl Tryd.prog 94 #[.pointer (at0 g), .slice (some ⟨gb, o, none⟩) n n] (.tup [.at (.int .i64), .at .any])
      (fun x w' => x = (((s.read n).2.1.length : Int), whV ea br (s.read n).2.2, ()) ∧ Sep W0 w' ((T.up k (PSrc g br d c (s.read n).1)).up kb (Buf gb (l.take o ++ (s.read n).2.1 ++ l.drop (o + (s.read n).2.1.length))))) w := by
  refine pipes_Source_Read.run _ (at0 g) ⟨some ⟨gb, o, none⟩, n, n⟩ w ?_
  generalize hR : (fun (e : Ending) (w' : World) => ∃ x : Int × Value × Unit, e = .returned ((Sh.tup [.at (.int .i64), .at .any]).enc x) ∧ x = (((s.read n).2.1.length : Int), whV ea br (s.read n).2.2, ()) ∧ Sep W0 w' ((T.up k (PSrc g br d c (s.read n).1)).up kb (Buf gb (l.take o ++ (s.read n).2.1 ++ l.drop (o + (s.read n).2.1.length))))) = R
  have fin : ∀ (w' : World) (v : Value) (z : Int), v = whV ea br (s.read n).2.2 → z = ((s.read n).2.1.length : Int) → Sep W0 w' ((T.up k (PSrc g br d c (s.read n).1)).up kb (Buf gb (l.take o ++ (s.read n).2.1 ++ l.drop (o + (s.read n).2.1.length)))) → R (.returned (.tuple #[.int .i64 z, v])) w' := by
    intro w' v z hv hz hs
    subst hR hv hz
    exact ⟨_, rfl, rfl, hs⟩
  have same : ∀ w', Ex w w' → (s.read n).1 = s → (s.read n).2.1 = [] → Sep W0 w' ((T.up k (PSrc g br d c (s.read n).1)).up kb (Buf gb (l.take o ++ (s.read n).2.1 ++ l.drop (o + (s.read n).2.1.length)))) := by
    intro w' hx e1 e2
    rw [e1, e2]
    simp only [List.length_nil, Nat.add_zero, List.append_nil, List.take_append_drop]
    rw [← hk, ← hb, Ths.up_id, Ths.up_id]
    exact hS.exx hx
  clear hR
  obtain ⟨hB, hd, hc⟩ := src_has hS hk
  have hplace := hg.place
  have hlen := hg.len
  have hclen := hg.clen
  have hi64 := hg.i64
  unfold pipes_Source_Read.M
  refine Pu_eqnil tPS (Cd_f (Cd_eq (fun h => by simp only at h; omega) fun _ => ?_))
  have x0 := Ex.drew w
  refine Pu_nil (RdS_same (Rd_has (c := .int .i64) (x := s.failAt) (hB.ex x0) (by kernel_rfl) rfl ?_))
  have hroom : s.room n = s.n3 (s.n2 (s.n1 n)) := rfl
  obtain ⟨r1, r2, r3⟩ := room_le s n
  -- the last part
  have j4f : ¬ (0 ≤ s.failAt ∧ (s.pos : Int) = s.failAt) → s.pos ≠ s.data.length → ∀ w1, Ex w w1 → pipes_Source_Read.j4 R (at0 g) ⟨some ⟨gb, o, none⟩, n, n⟩ (s.room n) w1 := by
    intro hb1 hb2 w1 hx1
    have hrd : s.read n = s.step (s.room n) := by unfold Src.read; rw [if_neg hb1, if_neg hb2]
    rw [hrd] at fin
    unfold pipes_Source_Read.j4
    refine Pu_nil (Rd_has (c := .int .i64) (x := (s.turns : Int)) (hB.ex hx1) (by kernel_rfl) rfl (Pu_nil ?_))
    rw [wrap64 (by omega) (by omega)]
    refine Wu_store (hB.ex hx1) (by kernel_rfl) (by simp [Value.cells, Value.oneCell']) (by simp [Value.cells]) fun w2 hB2 hm2 => ?_
    have hB2' : Has w2 g (srcV d c br { s with turns := s.turns + 1 }) 115 := by
      have e : ((s.turns : Int) + 1) = ((s.turns + 1 : Nat) : Int) := by omega
      rw [e] at hB2
      exact hB2
    have hS2 := src_set (hS.exx hx1) hk (s' := { s with turns := s.turns + 1 }) ⟨rfl, rfl, rfl⟩ hB2' hm2
    refine Cd_dec (fun h0 => ?_) (fun h0 => ?_)
    · have hst : s.step (s.room n) = ({ s with turns := s.turns + 1 }, [], .ok) := by unfold Src.step; rw [if_pos h0]
      rw [hst] at fin
      refine fin w2 _ _ rfl rfl ?_
      simp only [List.length_nil, Nat.add_zero, List.append_nil, List.take_append_drop]
      rw [← hb, ← Ths.up_ne T (PSrc g br d c { s with turns := s.turns + 1 }) hne, Ths.up_id]
      exact hS2
    have hst : s.step (s.room n) = ({ s with turns := s.turns + 1, pos := s.pos + (s.room n).toNat }, (s.data.drop s.pos).take (s.room n).toNat, .ok) := by unfold Src.step; rw [if_neg h0]
    rw [hst] at fin
    obtain ⟨m, hm⟩ : ∃ m : Nat, s.room n = (m : Int) := ⟨(s.room n).toNat, by omega⟩
    rw [hm] at fin r1 r2 r3 h0 ⊢
    simp only [Int.toNat_natCast] at fin
    obtain ⟨F, G, hF, hG, hFG⟩ := Sep.apart hS2 (k := k) (j := kb) (fun e => hne e.symm)
    rw [Ths.up_same] at hF
    rw [Ths.up_ne _ _ hne, hb] at hG
    have hgb : g ≠ gb := fun e => hFG g hF.2.2.2.1 (e ▸ hG.2)
    have hglen : ((s.data.drop s.pos).take m).length = m := by rw [List.length_take, List.length_drop]; omega
    refine Held_of (fun w' => Has w' g (srcV d c br { s with turns := s.turns + 1 }) 115) (hB2'.ex (Ex.drew w2)) ?_
    refine Pu_nil (RdS_has (c := .sl) (x := d) (fun _ h => h) (by kernel_rfl) rfl ?_)
    refine Pu_nil (RdS_has (c := .int .i64) (x := (s.pos : Int)) (fun _ h => h) (by kernel_rfl) rfl ?_)
    refine Pu_nil (RdS_has (c := .int .i64) (x := (s.pos : Int)) (fun _ h => h) (by kernel_rfl) rfl ?_)
    rw [wrap64 (by omega) (by omega)]
    have hd2 : Rds b8 w2.drew d s.data := hF.2.1.ex (Ex.drew w2)
    refine Pu_slice s.pos (s.pos + m) hd2 tB sB (.inr ⟨_, rfl⟩) (.inr ⟨.i64, by rw [Int.natCast_add]⟩) (by omega) (by omega) fun s' hs' _ _ _ => ?_
    have hs2 := hs' _ hd2
    have esl : ((s.data.take (s.pos + m)).drop s.pos) = (s.data.drop s.pos).take m := by rw [List.drop_take]; congr 1; omega
    rw [esl] at hs2
    refine Wr_copy (g := gb) (o := o) (n := n) (c := n) (cs := l) (m := (s.data.drop s.pos).take m) tB (by kernel_rfl) (hG.1.ex (Ex.drew w2)) hs2 (fun _ => rfl) (fun e => by rw [e] at hglen; simp at hglen; omega) (by rw [hglen]; omega) (by rw [hglen]; omega) fun w3 hG3 hm3 => ?_
    have hm3' : Mo (fun b => b = gb) w2 w3 := Mo.trans (Ex.drew w2) hm3 (fun _ h => h.elim) (fun _ _ h => h)
    have hB3 := hB2'.mo hm3' hgb
    have hS3 := hS2.cel (k := kb) (by rw [Ths.up_ne _ _ hne, hb]) hG3 hm3'
    refine ⟨hB3, Pu_nil (Rd_has (c := .int .i64) (x := (s.pos : Int)) hB3 (by kernel_rfl) rfl (Pu_nil ?_))⟩
    rw [wrap64 (by omega) (by omega)]
    refine Wu_store hB3 (by kernel_rfl) (by simp [Value.cells, Value.oneCell']) (by simp [Value.cells]) fun w4 hB4 hm4 => ?_
    have hB4' : Has w4 g (srcV d c br { s with turns := s.turns + 1, pos := s.pos + m }) 115 := by
      have e : ((s.pos : Int) + (m : Int)) = ((s.pos + m : Nat) : Int) := by omega
      rw [e] at hB4
      exact hB4
    have hS4 := src_set hS3 (k := k) (s := { s with turns := s.turns + 1 }) (s' := { s with turns := s.turns + 1, pos := s.pos + m }) (by rw [Ths.up_ne _ _ (fun e => hne e.symm), Ths.up_same]) ⟨rfl, rfl, rfl⟩ hB4' hm4
    refine fin w4 _ _ rfl (by simp only [hglen]) ?_
    rw [Ths.up_comm _ _ _ (fun e => hne e.symm), Ths.up_up] at hS4
    simp only [hglen] at hS4 ⊢
    exact hS4
  have j3f : ¬ (0 ≤ s.failAt ∧ (s.pos : Int) = s.failAt) → s.pos ≠ s.data.length → ∀ w1, Ex w w1 → pipes_Source_Read.j3 R (at0 g) ⟨some ⟨gb, o, none⟩, n, n⟩ (s.n2 (s.n1 n)) w1 := by
    intro hb1 hb2 w1 hx1
    unfold pipes_Source_Read.j3
    have hcl := hc.1
    refine Pu_nil (Rd_has (c := .sl) (x := c) (hB.ex hx1) (by kernel_rfl) rfl ?_)
    refine Cd_dec (fun h => ?_) (fun h => ?_)
    · have hpos : 0 < s.chunks.length := by omega
      have hx2 := hx1.trans (Ex.drew w1)
      refine Pu_nil (RdS_same (Rd_has (c := .sl) (x := c) (hB.ex hx2) (by kernel_rfl) rfl ?_))
      refine Pu_nil (RdS_same (Rd_has (c := .int .i64) (x := (s.turns : Int)) (hB.ex hx2) (by kernel_rfl) rfl ?_))
      refine Pu_nil (RdS_same (Rd_has (c := .sl) (x := c) (hB.ex hx2) (by kernel_rfl) rfl ?_))
      refine Pu_rem (by omega) ?_
      have e : Int.tmod (s.turns : Int) ((c.len : Nat) : Int) = ((s.turns % s.chunks.length : Nat) : Int) := by rw [hcl, Int.tmod_eq_emod_of_nonneg (by omega)]; omega
      rw [e]
      have hlt : s.turns % s.chunks.length < s.chunks.length := Nat.mod_lt _ hpos
      refine Pu_idx (hc.ex hx2) tI sI (by omega) (by omega) fun a x hx hcell _ => ?_
      refine RdS_same (Rd_one (c := .int .i64) (x := x) (by kernel_rfl) hcell ?_)
      have e3 : minI (s.n2 (s.n1 n)) x = s.room n := by
        rw [hroom]
        unfold Src.n3
        rw [if_pos hpos, List.getD_eq_getElem?_getD]
        rw [Int.toNat_natCast] at hx
        rw [hx]; rfl
      rw [e3]
      exact j4f hb1 hb2 _ hx2
    · have e3 : s.n2 (s.n1 n) = s.room n := by
        rw [hroom]
        unfold Src.n3
        rw [if_neg (by omega)]
      rw [e3]
      exact j4f hb1 hb2 _ hx1
  have j1f : ∀ b : Bool, (b = true ↔ (0 ≤ s.failAt ∧ (s.pos : Int) = s.failAt)) → ∀ w1, Ex w w1 → pipes_Source_Read.j1 R (at0 g) ⟨some ⟨gb, o, none⟩, n, n⟩ b w1 := by
    intro b hbb w1 hx1
    have hx2 := hx1.trans (Ex.drew w1)
    unfold pipes_Source_Read.j1
    refine Cd_of (fun h => ?_) (fun h => ?_)
    · have hrd : s.read n = (s, [], .broken) := by unfold Src.read; rw [if_pos (hbb.1 h)]
      refine Pu_nil (RdS_same (Rd_has (c := .ptr) (x := some br) (hB.ex hx2) (by kernel_rfl) rfl ?_))
      exact fin _ _ _ (by rw [hrd]; rfl) (by rw [hrd]; rfl) (same _ hx2 (by rw [hrd]) (by rw [hrd]))
    have hb1 : ¬ (0 ≤ s.failAt ∧ (s.pos : Int) = s.failAt) := fun h' => by rw [hbb.2 h'] at h; cases h
    refine Pu_nil (RdS_same (Rd_has (c := .int .i64) (x := (s.pos : Int)) (hB.ex hx2) (by kernel_rfl) rfl ?_))
    refine Pu_nil (RdS_same (Rd_has (c := .sl) (x := d) (hB.ex hx2) (by kernel_rfl) rfl ?_))
    have hdl := hd.1
    have hx3 := hx2.trans (Ex.drew _)
    refine Cd_eq (fun h2 => ?_) (fun h2 => ?_)
    · have hrd : s.read n = (s, [], .fin) := by unfold Src.read; rw [if_neg hb1, if_pos (by omega)]
      refine RdS_same (Rd_one (c := .any) (x := endV ea) (by kernel_rfl) (hx3.cell (sep_end hS he)) ?_)
      exact fin _ _ _ (by rw [hrd]; rfl) (by rw [hrd]; rfl) (same _ hx3 (by rw [hrd]) (by rw [hrd]))
    have hb2 : s.pos ≠ s.data.length := by omega
    refine Pu_nil (RdS_same (Rd_has (c := .sl) (x := d) (hB.ex hx3) (by kernel_rfl) rfl ?_))
    refine Pu_nil (RdS_same (Rd_has (c := .int .i64) (x := (s.pos : Int)) (hB.ex hx3) (by kernel_rfl) rfl ?_))
    rw [wrap64 (by omega) (by omega), hdl]
    unfold pipes_Source_Read.j2
    refine Pu_nil (Rd_has (c := .int .i64) (x := s.failAt) (hB.ex hx3) (by kernel_rfl) rfl ?_)
    have e1 : minI ((n : Nat) : Int) ((s.data.length : Int) - (s.pos : Int)) = s.n1 n := rfl
    refine Cd_dec (fun h3 => ?_) (fun h3 => ?_)
    · have hx4 := hx3.trans (Ex.drew _)
      refine Pu_nil (RdS_same (Rd_has (c := .int .i64) (x := s.failAt) (hB.ex hx4) (by kernel_rfl) rfl ?_))
      refine Pu_nil (RdS_same (Rd_has (c := .int .i64) (x := (s.pos : Int)) (hB.ex hx4) (by kernel_rfl) rfl ?_))
      rw [wrap64 (by omega) (by omega)]
      have e2 : minI (minI ((n : Nat) : Int) ((s.data.length : Int) - (s.pos : Int))) (s.failAt - (s.pos : Int)) = s.n2 (s.n1 n) := by
        rw [e1]; unfold Src.n2; rw [if_pos h3]
      rw [e2]
      exact j3f hb1 hb2 _ hx4
    · have e2 : minI ((n : Nat) : Int) ((s.data.length : Int) - (s.pos : Int)) = s.n2 (s.n1 n) := by
        rw [e1]; unfold Src.n2; rw [if_neg h3]
      rw [e2]
      exact j3f hb1 hb2 _ hx3
  refine Cd_dec (fun h1 => ?_) (fun h1 => ?_)
  · refine Pu_nil (RdS_same (Rd_has (c := .int .i64) (x := (s.pos : Int)) (hB.ex x0) (by kernel_rfl) rfl ?_))
    refine Pu_nil (RdS_same (Rd_has (c := .int .i64) (x := s.failAt) (hB.ex x0) (by kernel_rfl) rfl ?_))
    exact j1f _ (by simp only [beq_iff_eq]; exact ⟨fun h => ⟨h1, h⟩, fun h => h.2⟩) _ x0
  · exact j1f _ ⟨fun h => (by cases h), fun h => absurd h.1 h1⟩ _ x0
end Go.Proofs.YtmmejgneelkhkaaDoor
