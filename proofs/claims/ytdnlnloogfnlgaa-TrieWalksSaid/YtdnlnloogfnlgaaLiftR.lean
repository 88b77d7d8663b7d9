/- The lift where a loop over a function is under way: the walk under the fence that lets all by; a call of yield. -/
import Derived.Test.YtdnlnloogfnlgaaLift3
import Derived.RangeFuncRecord
set_option linter.all false
namespace Go.Cu
open Go
/-- the fence that lets all by, in a frame of a round (or of none) -/
def FR (r : Option Nat) : Fence := { Fence.wide with round := r }
theorem FR_none : FR none = Fence.wide := rfl
theorem FR_some (l : Nat) : FR (some l) = Fence.wide.inRound l := rfl
theorem calls_FR {P : Program} {r : Option Nat} {m : Nat} {f : FuncId} {args : Array Value} {w : World} {R : Ending → World → Prop} (h : Calls P f args w R) : CallsIn (FR r) m P f args w R :=
  (callsIn_wide (n := m)).2 h
theorem round_FR {P : Program} {r : Option Nat} {m m' l : Nat} {f : FuncId} {tmps : Array Value} {assign body : Code} {w : World} {R : Ending → World → Prop} (h : RoundIn Fence.wide m P l f tmps assign body w R) : RoundIn (FR r) m' P l f tmps assign body w R :=
  ⟨trivial, fun c cs _ => h.2 c cs (room_wide _)⟩
/-- the slots, whatever calls are put off -/
structure SlotsD (ds : List Deferred) (n : Nat) (a : Act) (L : Env) : Prop where
  size : a.tmps.size = n
  defers : a.defers = ds
  vals : ∀ i v, find L i = some v → i < n ∧ a.tmps[i]? = some v
theorem SlotsD.base {ds : List Deferred} {n : Nat} {a : Act} {L : Env} (h : SlotsD ds n a L) : Slots n { a with defers := [] } L := ⟨h.size, rfl, h.vals⟩
theorem SlotsD.of {ds : List Deferred} {n : Nat} {a : Act} {L : Env} (h : Slots n { a with defers := [] } L) (hd : a.defers = ds) : SlotsD ds n a L := ⟨h.size, hd, h.vals⟩
theorem Slots.toD {n : Nat} {a : Act} {L : Env} (h : Slots n a L) : SlotsD [] n a L := ⟨h.size, h.defers, h.vals⟩
theorem SlotsD.ev {ds : List Deferred} {n : Nat} {a : Act} {L : Env} (h : SlotsD ds n a L) {x : Operand} {v : Value} (hx : ev L x = some v) : a.eval x = v := by
  cases x with
  | tmp t =>
    have := (h.vals t v hx).2
    simp only [Act.eval, Array.getD_eq_getD_getElem?, this, Option.getD_some]
  | const u => exact Option.some.inj hx
  | global g => exact Option.some.inj hx
  | func f => exact Option.some.inj hx
theorem SlotsD.put {ds : List Deferred} {n : Nat} {a : Act} {L : Env} (h : SlotsD ds n a L) (d : Option Tmp) (v : Value) (hd : ∀ t, d = some t → t < n) : SlotsD ds n (a.put d v) (push n d v L) := by
  have := h.base.put d v hd
  cases d with
  | none => exact ⟨this.size, h.defers, this.vals⟩
  | some t => exact ⟨this.size, h.defers, this.vals⟩
theorem SlotsD.refine {ds : List Deferred} {n : Nat} {a : Act} {L : Env} (h : SlotsD ds n a L) {t : Nat} {c b : Bool} (hf : find L t = some (.bool c)) (hb : c = b) : SlotsD ds n a ((t, .bool b) :: L) :=
  .of (h.base.refine hf hb) h.defers
theorem SlotsD.proj {ds : List Deferred} {n : Nat} {a : Act} {L : Env} {l : List (Nat × Cx)} {s : St l} (h : SlotsD ds n a L) (hp : projS l L = some s) : SlotsD ds n a (encS l s) :=
  ⟨h.size, h.defers, fun i v hv => h.vals i v (find_encS hp i v hv)⟩
theorem exec_evDD {ds : List Deferred} {n : Nat} {a : Act} {o : Oper} {L : Env} (hs : SlotsD ds n a L) (h : okOp n o L = true) : execOp a.eval o = execOp (evD L) o := by
  obtain ⟨h1, h2, _⟩ := okOp_parts h
  refine execOp_congr o h2 fun x hx => ?_
  obtain ⟨v, hv⟩ := h1 x hx
  rw [hs.ev hv, evD, hv]
def semQD (ds : List Deferred) (n : Nat) (Q : Post) : Exit → Act → World → Prop
  | .panic _, _, _ => False
  | .outgrown, _, _ => False
  | e, a, w => ∃ L, SlotsD ds n a L ∧ Q e L w
theorem semQD_then {ds : List Deferred} {n : Nat} {K : Env → World → Prop} {Q : Post} {K' : Act → World → Prop} (h : ∀ a L w, SlotsD ds n a L → K L w → K' a w) :
    ∀ e a w, semQD ds n (thenE K Q) e a w → Exit.then K' (semQD ds n Q) e a w := by
  intro e a w hq
  cases e <;> simp only [semQD, thenE, Exit.then] at hq ⊢ <;> first | exact hq | (obtain ⟨L, hs, hl⟩ := hq; first | exact h _ _ _ hs hl | exact ⟨L, hs, hl⟩)
/-- the step asks for a round -/
def Yd (P : Program) (s : Sem Next) (d : Sh) (k : d.T → World → Prop) (w : World) : Prop :=
  ∃ l f tmps assign body, s.run P w = .ok (.round l f tmps assign body) w ∧ RoundIn Fence.wide 0 P l f tmps assign body w fun e w' => ∃ x, e = .returned (d.enc x) ∧ k x w'
def isDefer : Op → Bool
  | .defer _ => true
  | _ => false
def opKR (P : Program) (n : Nat) (o : Oper) (t : Tag) (L : Env) (k : Value → World → Prop) (w : World) : Prop :=
  match isDefer o.op with
  | true => False
  | false => match t with
    | .nx d => match okOp n o L with
      | true => Yd P (execOp (evD L) o) d (fun x w' => k (d.enc x) w') w
      | false => False
    | t => opK P n o t L k w
theorem opKR_sound {P : Program} {ds : List Deferred} {n m : Nat} {r : Option Nat} {o : Oper} {t : Tag} {L : Env} {k : Value → World → Prop} {a : Act} {w : World} {Q : Exit → Act → World → Prop}
    {K : Act → World → Prop} (hs : SlotsD ds n a L) (h : opKR P n o t L k w) (hk : ∀ v w', k v w' → K (a.put o.dst v) w') : o.wpIn (FR r) m P a w K Q := by
  unfold opKR at h
  cases hdf : isDefer o.op with
  | true => rw [hdf] at h; exact h.elim
  | false =>
    rw [hdf] at h; simp only at h
    refine ⟨fun _ _ => trivial, ?_⟩
    rw [Oper.semAt_eq _ _ _ (fun c e => by rw [e] at hdf; cases hdf)]
    have hcl : ∀ {f : FuncId} {args : Array Value} {d : Sh} {w1 : World}, Cl P f args d (fun x w' => k (d.enc x) w') w1 →
        o.uponIn (FR r) m P a K Q (.ok (.enter f args) w1) := fun hc => by
      simp only [Oper.uponIn]
      refine ⟨fun h => (by cases h), (calls_FR hc).mono fun e w' he => ?_⟩
      obtain ⟨x, rfl, hx⟩ := he
      exact hk _ _ hx
    cases hok : okOp n o L with
    | false =>
      cases t <;> simp only [opK, hok] at h
    | true =>
      rw [exec_evDD hs hok]
      cases t with
      | now =>
        simp only [opK, hok] at h
        cases hn : now P (execOp (evD L) o) with
        | none => rw [hn] at h; exact h.elim
        | some x =>
          rw [hn] at h
          rw [now_run hn w]
          cases x <;> simp only at h <;> first | exact h.elim | skip
          · exact hk _ _ h
          · exact hk _ _ h
      | pu d =>
        simp only [opK, hok] at h
        cases hm : semV (evD L) o with
        | none => rw [hm] at h; exact h.elim
        | some s =>
          rw [hm] at h
          obtain ⟨x, hx, hkx⟩ := h
          rw [semV_exec hm, run_bind, hx w]
          exact hk _ _ hkx
      | rd d =>
        simp only [opK, hok] at h
        cases hm : semV (evD L) o with
        | none => rw [hm] at h; exact h.elim
        | some s =>
          rw [hm] at h
          obtain ⟨x, hx, hkx⟩ := h
          rw [semV_exec hm, run_bind, hx]
          exact hk _ _ hkx
      | wr d =>
        simp only [opK, hok] at h
        cases hm : semV (evD L) o with
        | none => rw [hm] at h; exact h.elim
        | some s =>
          rw [hm] at h
          obtain ⟨x, w', hx, hkx⟩ := h
          rw [semV_exec hm, run_bind, hx]
          exact hk _ _ hkx
      | wu =>
        simp only [opK, hok] at h
        cases hm : semU (evD L) o with
        | none => rw [hm] at h; exact h.elim
        | some s =>
          rw [hm] at h
          obtain ⟨w', hx, hkx⟩ := h
          rw [semU_exec hm, run_bind, hx]
          exact hk _ _ hkx
      | cl d =>
        simp only [opK, hok] at h
        cases hn : now P (execOp (evD L) o) with
        | none => rw [hn] at h; exact h.elim
        | some x =>
          rw [hn] at h
          rw [now_run hn w]
          cases x <;> simp only at h <;> first | exact h.elim | skip
          exact hcl h
      | nx d =>
        simp only [hok] at h
        obtain ⟨l, f, tmps, assign, body, hx, hr⟩ := h
        rw [hx]
        simp only [Oper.uponIn]
        refine ⟨fun h => (by cases h), (round_FR hr).mono fun e w' he => ?_⟩
        obtain ⟨x, rfl, hx⟩ := he
        exact hk _ _ hx
theorem opKR_dst {P : Program} {n : Nat} {o : Oper} {t : Tag} {L : Env} {k : Value → World → Prop} {w : World} (h : opKR P n o t L k w) : ∀ t, o.dst = some t → t < n := by
  unfold opKR at h
  cases hdf : isDefer o.op with
  | true => rw [hdf] at h; exact h.elim
  | false =>
    rw [hdf] at h; simp only at h
    cases hok : okOp n o L with
    | false => cases t <;> simp only [opK, hok] at h
    | true => exact (okOp_parts hok).2.2
def liftNR (P : Program) (n : Nat) (ops : Array Oper) : Plan → Nat → Env → (Env → World → Prop) → World → Prop
  | .done, i, L, K, w => match Nat.beq i ops.size with
    | true => K L w
    | false => False
  | .op j t p, i, L, K, w => match Nat.beq i j with
    | false => False
    | true => match ops[i]? with
      | none => False
      | some o => match gd ops o L with
        | some true => opKR P n o t L (fun v w' => liftNR P n ops p (i + 1) (push n o.dst v L) K w') w
        | _ => False
  | .skip j p, i, L, K, w => match Nat.beq i j with
    | false => False
    | true => match ops[i]? with
      | none => False
      | some o => match gd ops o L with
        | some false => match dstOk n o.dst with
          | true => liftNR P n ops p (i + 1) (push n o.dst undef L) K w
          | false => False
        | _ => False
  | .split j p q, i, L, K, w => match slotOf ops j with
    | none => False
    | some t => match find L t with
      | some (.bool c) => Cd c (liftNR P n ops p i ((t, .bool true) :: L) K w) (liftNR P n ops q i ((t, .bool false) :: L) K w)
      | _ => False
  | .fork2 .., _, _, _, _ => False
theorem liftNR_sound {P : Program} {ds : List Deferred} {n m : Nat} {r : Option Nat} {ops : Array Oper} {Q : Exit → Act → World → Prop} :
    ∀ (p : Plan) (i : Nat) (L : Env) (K : Env → World → Prop) (a : Act) (w : World), i ≤ ops.size → SlotsD ds n a L → liftNR P n ops p i L K w →
      (∀ a L w, SlotsD ds n a L → K L w → Q .normal a w) → wpOpsIn (FR r) m P ops Q ((List.range' i (ops.size - i))) a w := by
  intro p
  induction p with
  | done =>
    intro i L K a w hi hs h hq
    simp only [liftNR] at h
    cases hb : Nat.beq i ops.size with
    | false => rw [hb] at h; exact h.elim
    | true =>
      rw [hb] at h
      have e : i = ops.size := Nat.eq_of_beq_eq_true hb
      subst e
      rw [Nat.sub_self]
      exact hq _ _ _ hs h
  | op j t p ih =>
    intro i L K a w hi hs h hq
    simp only [liftNR] at h
    cases hb : Nat.beq i j with
    | false => rw [hb] at h; exact h.elim
    | true =>
      rw [hb] at h; simp only at h
      cases ho : ops[i]? with
      | none => rw [ho] at h; exact h.elim
      | some o =>
        rw [ho] at h; simp only at h
        have hlt : i < ops.size := (Array.getElem?_eq_some_iff.1 ho).1
        cases hg : gd ops o L with
        | none => rw [hg] at h; exact h.elim
        | some b =>
          rw [hg] at h
          cases b <;> simp only at h
          obtain ⟨q, hm⟩ : ∃ q, ops.size - i = q + 1 := ⟨ops.size - i - 1, by omega⟩
          rw [hm, List.range'_succ]
          simp only [wpOpsIn, ho, gd_wanted hs.base hg, if_true]
          refine opKR_sound hs h fun v w' hv => ?_
          have := ih (i + 1) _ K _ w' (by omega) (hs.put o.dst v (opKR_dst h)) hv hq
          rwa [show ops.size - (i + 1) = q by omega] at this
  | skip j p ih =>
    intro i L K a w hi hs h hq
    simp only [liftNR] at h
    cases hb : Nat.beq i j with
    | false => rw [hb] at h; exact h.elim
    | true =>
      rw [hb] at h; simp only at h
      cases ho : ops[i]? with
      | none => rw [ho] at h; exact h.elim
      | some o =>
        rw [ho] at h; simp only at h
        have hlt : i < ops.size := (Array.getElem?_eq_some_iff.1 ho).1
        cases hg : gd ops o L with
        | none => rw [hg] at h; exact h.elim
        | some b =>
          rw [hg] at h
          cases b <;> simp only at h
          cases hd : dstOk n o.dst with
          | false => rw [hd] at h; exact h.elim
          | true =>
            rw [hd] at h; simp only at h
            obtain ⟨q, hm⟩ : ∃ q, ops.size - i = q + 1 := ⟨ops.size - i - 1, by omega⟩
            rw [hm, List.range'_succ]
            simp only [wpOpsIn, ho, gd_wanted hs.base hg, if_false, Bool.false_eq_true]
            have := ih (i + 1) _ K _ w (by omega) (hs.put o.dst undef (fun t ht => by rw [ht] at hd; simpa [dstOk] using hd)) h hq
            rw [show ops.size - (i + 1) = q by omega] at this
            exact ⟨fun _ _ => trivial, this⟩
  | split j p q ihp ihq =>
    intro i L K a w hi hs h hq
    simp only [liftNR] at h
    cases hsl : slotOf ops j with
    | none => rw [hsl] at h; exact h.elim
    | some t =>
      rw [hsl] at h; simp only at h
      cases hf : find L t with
      | none => rw [hf] at h; exact h.elim
      | some v =>
        rw [hf] at h
        cases v <;> simp only at h <;> try exact h.elim
        rename_i c
        cases hc : c with
        | true => exact ihp i _ K a w hi (hs.refine hf hc) (h.1 hc) hq
        | false => exact ihq i _ K a w hi (hs.refine hf hc) (h.2 hc) hq
  | fork2 i t p j u q ihp ihq =>
    intro i L K a w hi hs h hq
    simp only [liftNR] at h
def liftR (P : Program) (n : Nat) : Code → Ann → Env → Post → World → Prop
  | .skip, .leaf, L, Q, w => Q .normal L w
  | .label _, .leaf, L, Q, w => Q .normal L w
  | .exit id, .leaf, L, Q, w => Q (.exit id) L w
  | .goto l, .leaf, L, Q, w => Q (.goto l) L w
  | .ret, .leaf, L, Q, w => Q .ret L w
  | .region _ ops false, .reg p, L, Q, w => liftNR P n ops p 0 L (fun L w => Q .normal L w) w
  | .seq x y, .seq a b, L, Q, w => liftR P n x a L (thenE (fun L w => liftR P n y b L Q w) Q) w
  | .seq x _, .join l J a _, L, Q, w => liftR P n x a L (thenE (projK l J) Q) w
  | .cond c x y, .cond a b, L, Q, w => match ev L c with
    | some (.bool t) => Cd t (liftR P n x a L Q w) (liftR P n y b L Q w)
    | _ => False
  | .block id x, .block a, L, Q, w => liftR P n x a L (blockE id Q) w
  | .loop _, .loop l B _, L, _, w => projK l (loopW B) L w
  | _, _, _, _, _ => False
def oksR (P : Program) (n : Nat) : Code → Ann → Post → Prop
  | .seq x y, .seq a b, Q => oksR P n x a (thenE (fun L w => liftR P n y b L Q w) Q) ∧ oksR P n y b Q
  | .seq x y, .join l J a b, Q => (∀ s w, J s w → liftR P n y b (encS l s) Q w) ∧ oksR P n x a (thenE (projK l J) Q) ∧ oksR P n y b Q
  | .cond _ x y, .cond a b, Q => oksR P n x a Q ∧ oksR P n y b Q
  | .block id x, .block a, Q => oksR P n x a (blockE id Q)
  | .loop x, .loop l B a, Q => ∀ k, (∀ s w, B k s w → liftR P n x (a k) (encS l s) (thenE (projK l k) Q) w) ∧ oksR P n x (a k) (thenE (projK l k) Q)
  | _, _, _ => True
theorem liftR_sound {P : Program} {ds : List Deferred} {n m : Nat} {r : Option Nat} : ∀ (an : Ann) (c : Code) (Q : Post) (L : Env) (a : Act) (w : World),
    oksR P n c an Q → liftR P n c an L Q w → SlotsD ds n a L → c.wpIn (FR r) m P (semQD ds n Q) a w := by
  intro an
  induction an with
  | leaf =>
    intro c Q L a w _ h hs
    cases c <;> (try simp only [liftR] at h) <;> try exact h.elim
    case skip => exact wpIn_skip ⟨L, hs, h⟩
    case label => exact wpIn_label ⟨L, hs, h⟩
    case exit => exact wpIn_exit ⟨L, hs, h⟩
    case goto => exact wpIn_goto ⟨L, hs, h⟩
    case ret => exact wpIn_ret ⟨L, hs, h⟩
  | reg p =>
    intro c Q L a w ho h hs
    cases c <;> (try simp only [liftR] at h) <;> try exact h.elim
    case region id ops d =>
      cases d <;> (try simp only [liftR] at h) <;> try exact h.elim
      refine wpIn_region ?_
      have := liftNR_sound (r := r) (m := m) (Q := semQD ds n Q) p 0 L _ a w (Nat.zero_le _) hs h (fun a L w hs hk => ⟨L, hs, hk⟩)
      rwa [Nat.sub_zero, ← List.range_eq_range'] at this
  | regQ p => intro c Q L a w ho h hs; cases c <;> simp only [liftR] at h
  | regD p => intro c Q L a w ho h hs; cases c <;> simp only [liftR] at h
  | condK b a1 ih => intro c Q L a w ho h hs; cases c <;> simp only [liftR] at h
  | scope a1 ih => intro c Q L a w ho h hs; cases c <;> simp only [liftR] at h
  | seq a1 a2 ih1 ih2 =>
    intro c Q L a w ho h hs
    cases c <;> (try simp only [liftR] at h) <;> try exact h.elim
    case seq x y =>
      simp only [oksR] at ho
      exact wpIn_seq (wpIn_mono (ih1 x _ L a w ho.1 h hs) (semQD_then fun a L w hs hk => ih2 y Q L a w ho.2 hk hs))
  | join l J a1 a2 ih1 ih2 =>
    intro c Q L a w ho h hs
    cases c <;> (try simp only [liftR] at h) <;> try exact h.elim
    case seq x y =>
      simp only [oksR] at ho
      refine wpIn_seq (wpIn_mono (ih1 x _ L a w ho.2.1 h hs) (semQD_then fun a L w hs hk => ?_))
      simp only [projK] at hk
      cases hp : projS l L with
      | none => rw [hp] at hk; exact hk.elim
      | some s => rw [hp] at hk; exact ih2 y Q _ a w ho.2.2 (ho.1 s w hk) (hs.proj hp)
  | cond a1 a2 ih1 ih2 =>
    intro c Q L a w ho h hs
    cases c <;> (try simp only [liftR] at h) <;> try exact h.elim
    case cond c x y =>
      simp only [oksR] at ho
      cases he : ev L c with
      | none => rw [he] at h; exact h.elim
      | some v =>
        rw [he] at h
        cases v <;> simp only at h <;> try exact h.elim
        rename_i t
        exact wpIn_cond_split (hs.ev he) (fun ht => ih1 x Q L a w ho.1 (h.1 ht) hs) (fun ht => ih2 y Q L a w ho.2 (h.2 ht) hs)
  | block a1 ih1 =>
    intro c Q L a w ho h hs
    cases c <;> (try simp only [liftR] at h) <;> try exact h.elim
    case block id x =>
      simp only [oksR] at ho
      refine wpIn_block (wpIn_mono (ih1 x _ L a w ho h hs) fun e a w hq => ?_)
      cases e <;> (try simp only [semQD, blockE, Exit.inBlock] at hq ⊢) <;> try exact hq
      rename_i j
      obtain ⟨L, hs, hl⟩ := hq
      by_cases hj : j = id
      · subst hj
        rw [if_pos rfl]
        rw [show Nat.beq j j = true from Nat.beq_refl j] at hl
        exact ⟨L, hs, hl⟩
      · rw [if_neg hj]
        have : Nat.beq j id = false := by
          cases hb : Nat.beq j id with
          | false => rfl
          | true => exact absurd (Nat.eq_of_beq_eq_true hb) hj
        rw [this] at hl
        exact ⟨L, hs, hl⟩
  | loop l B a1 ih1 =>
    intro c Q L a w ho h hs
    cases c <;> (try simp only [liftR] at h) <;> try exact h.elim
    case loop x =>
      simp only [oksR] at ho
      simp only [projK] at h
      cases hp : projS l L with
      | none => rw [hp] at h; exact h.elim
      | some s =>
        rw [hp] at h
        obtain ⟨q, hq⟩ := h
        intro b k cs hro hb hr
        have key : ∀ q a s w, SlotsD ds n a (encS l s) → iterW B q s w →
            ∃ e a' w', semQD ds n Q e a' w' ∧ ArrivesIn (Machine.fenced P (FR r)) P (lone (b.atR a (.code x :: .inLoop x :: k)) cs w) b k cs e a' w' := by
          intro q
          induction q with
          | zero => intro a s w _ h; exact h.elim
          | succ q ihq =>
            intro a s w hs h
            have hw := ih1 (iterW B q) x _ _ a w (ho (iterW B q)).2 ((ho _).1 s w h) hs
            obtain ⟨e, a₁, w₁, hq, harr⟩ := hw b (.inLoop x :: k) cs hro hb hr
            cases e with
            | normal =>
              obtain ⟨L1, hs1, hk⟩ := hq
              simp only [thenE, projK] at hk
              cases hp1 : projS l L1 with
              | none => rw [hp1] at hk; exact hk.elim
              | some s1 =>
                rw [hp1] at hk
                obtain ⟨e₂, a₂, w₂, hq₂, harr₂⟩ := ihq a₁ s1 w₁ (hs1.proj hp1) hk
                exact ⟨e₂, a₂, w₂, hq₂, .of_steps (StepsIn.trans harr (.one (fenced_calm hb hr rfl) stepR_inLoop)) harr₂⟩
            | exit id => exact ⟨.exit id, a₁, w₁, hq, .pass (x := .inLoop x) rfl (fun _ _ => .inl (by simp)) harr⟩
            | goto l => exact ⟨.goto l, a₁, w₁, hq, .pass (x := .inLoop x) rfl (fun _ _ => .inl (by simp)) harr⟩
            | ret => exact ⟨.ret, a₁, w₁, hq, .pass (x := .inLoop x) rfl (fun _ _ => .inl (by simp)) harr⟩
            | panic ch => exact hq.elim
            | outgrown => exact hq.elim
        obtain ⟨e, a', w', hq, harr⟩ := key q a s w (hs.proj hp) hq
        exact ⟨e, a', w', hq, .of_steps (.one (fenced_calm hb hr rfl) stepR_loop) harr⟩
theorem callsR_of_lift {P : Program} {f : FuncId} {fn : Func} {c : Code} (hf : P.funcs[f]? = some fn) (hb : fn.body = some c) (cs : List Cx) {args : Array Value} {w : World}
    {R : Ending → World → Prop} (an : Ann) (n : Nat) (hn : fn.ntmps = n) (rs : List ResultVar) (hr : fn.results.toList = rs) (hsz : args.size ≤ n)
    (ho : oksR P n c an (endQ P rs cs fun v w => R (.returned v) w)) (h : liftR P n c an (argEnv 0 args.toList) (endQ P rs cs fun v w => R (.returned v) w) w) :
    Calls P f args w R := by
  subst hn hr
  refine (callsIn_wide (n := 0)).1 (callsIn_of_wp hf hb trivial (wpIn_mono (liftR_sound (ds := []) (r := none) an c _ _ _ w ho h (Slots.start args hsz).toD) fun e a w hq => ?_))
  cases e <;> simp only [semQD, endQ] at hq <;> try exact hq.elim
  case normal =>
    obtain ⟨L, hs, hl⟩ := hq
    obtain ⟨vs, h1, h2⟩ := results_run (show Slots _ a _ from ⟨hs.size, hs.defers, hs.vals⟩) hl
    exact ⟨hs.defers, _, h1, h2⟩
  case exit => obtain ⟨_, _, h⟩ := hq; exact h.elim
  case goto => obtain ⟨_, _, h⟩ := hq; exact h.elim
  case ret =>
    obtain ⟨L, hs, hl⟩ := hq
    obtain ⟨vs, h1, h2⟩ := results_run (show Slots _ a _ from ⟨hs.size, hs.defers, hs.vals⟩) hl
    exact ⟨hs.defers, _, h1, h2⟩
/-- one piece of a body, lifted; the rest as it may be -/
theorem wpIn_piece {P : Program} {ds : List Deferred} {n m : Nat} {r : Option Nat} {x y : Code} {L : Env} {a : Act} {w : World} {Q : Exit → Act → World → Prop} (l : List (Nat × Cx)) (J : St l → World → Prop) (an : Ann) (Qx : Post)
    (ho : oksR P n x an (thenE (projK l J) Qx)) (h : liftR P n x an L (thenE (projK l J) Qx) w) (hs : SlotsD ds n a L) (hx : ∀ e a w, e ≠ .normal → semQD ds n Qx e a w → Q e a w)
    (hy : ∀ s a w, J s w → SlotsD ds n a (encS l s) → y.wpIn (FR r) m P Q a w) : (Code.seq x y).wpIn (FR r) m P Q a w := by
  refine wpIn_seq (wpIn_mono (liftR_sound (ds := ds) an x _ L a w ho h hs) fun e a w hq => ?_)
  cases e with
  | normal =>
    obtain ⟨L1, hs1, hk⟩ := hq
    simp only [thenE, projK] at hk
    cases hp : projS l L1 with
    | none => rw [hp] at hk; exact hk.elim
    | some s => rw [hp] at hk; exact hy s a w hk (hs1.proj hp)
  | exit id => exact hx _ a w (by simp) hq
  | goto l => exact hx _ a w (by simp) hq
  | ret => exact hx _ a w (by simp) hq
  | panic ch => exact hx _ a w (by simp) hq
  | outgrown => exact hx _ a w (by simp) hq
/-- the last piece: all of what is left -/
theorem wpIn_last {P : Program} {ds : List Deferred} {n m : Nat} {r : Option Nat} {x : Code} {L : Env} {a : Act} {w : World} {Q : Exit → Act → World → Prop} (l : List (Nat × Cx)) (J : St l → World → Prop) (an : Ann) (Qx : Post)
    (ho : oksR P n x an (thenE (projK l J) Qx)) (h : liftR P n x an L (thenE (projK l J) Qx) w) (hs : SlotsD ds n a L) (hx : ∀ e a w, e ≠ .normal → semQD ds n Qx e a w → Q e a w)
    (hy : ∀ s a w, J s w → SlotsD ds n a (encS l s) → Q .normal a w) : x.wpIn (FR r) m P Q a w := by
  refine wpIn_mono (liftR_sound (ds := ds) an x _ L a w ho h hs) fun e a w hq => ?_
  cases e with
  | normal =>
    obtain ⟨L1, hs1, hk⟩ := hq
    simp only [thenE, projK] at hk
    cases hp : projS l L1 with
    | none => rw [hp] at hk; exact hk.elim
    | some s => rw [hp] at hk; exact hy s a w hk (hs1.proj hp)
  | exit id => exact hx _ a w (by simp) hq
  | goto l => exact hx _ a w (by simp) hq
  | ret => exact hx _ a w (by simp) hq
  | panic ch => exact hx _ a w (by simp) hq
  | outgrown => exact hx _ a w (by simp) hq
def noQ : Post := fun _ _ _ => False
theorem noQ_elim {ds : List Deferred} {n : Nat} {Q : Exit → Act → World → Prop} : ∀ e a w, e ≠ .normal → semQD ds n noQ e a w → Q e a w := by
  intro e a w _ h
  cases e <;> simp only [semQD, noQ] at h <;> first | exact h.elim | (obtain ⟨_, _, h⟩ := h; exact h.elim)
/-! ### Parts of code -/
def cL : Code → Code
  | .seq x _ => x
  | _ => .skip
def cR : Code → Code
  | .seq _ y => y
  | _ => .skip
def cB : Code → Code
  | .block _ x => x
  | _ => .skip
def cA : Code → Code
  | .rangeFunc _ _ x _ => x
  | _ => .skip
def cF : Code → Code
  | .rangeFunc _ _ _ y => y
  | _ => .skip
end Go.Cu
