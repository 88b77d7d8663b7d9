/- The lift, third part: a body with joins and loops; a function's call. -/
import Derived.Test.YtmmejgneelkhkaaDoorLift2
import Derived.Laws.Sem
set_option linter.all false
namespace Go.Cu
open Go

/-! ### Loops -/
def iterW {σ : Type} (B : (σ → World → Prop) → σ → World → Prop) : Nat → σ → World → Prop
  | 0 => fun _ _ => False
  | n + 1 => B (iterW B n)
def loopW {σ : Type} (B : (σ → World → Prop) → σ → World → Prop) (s : σ) (w : World) : Prop := ∃ n, iterW B n s w
/-- a loop that has a measure -/
theorem loopW_of {σ : Type} {B : (σ → World → Prop) → σ → World → Prop} (I : σ → World → Prop) (μ : σ → World → Nat)
    (h : ∀ (k : σ → World → Prop) s w, I s w → (∀ s' w', I s' w' → μ s' w' < μ s w → k s' w') → B k s w) {s : σ} {w : World} (h0 : I s w) : loopW B s w := by
  have key : ∀ n s w, I s w → μ s w < n → iterW B n s w := by
    intro n
    induction n with
    | zero => intro s w _ h; omega
    | succ n ih => intro s w hI hn; exact h _ s w hI fun s' w' hI' hlt => ih s' w' hI' (by omega)
  exact ⟨_, key _ s w h0 (Nat.lt_succ_self _)⟩

inductive Ann where
  | leaf
  | reg (p : Plan)
  | regQ (p : Plan)
  | regD (p : Plan)
  | seq (a b : Ann)
  | join (l : List (Nat × Cx)) (J : St l → World → Prop) (a b : Ann)
  | cond (a b : Ann)
  | condK (b : Bool) (a : Ann)
  | block (a : Ann)
  | scope (a : Ann)
  | loop (l : List (Nat × Cx)) (B : (St l → World → Prop) → St l → World → Prop) (a : (St l → World → Prop) → Ann)
abbrev Post := Exit → Env → World → Prop
def thenE (K : Env → World → Prop) (Q : Post) : Post
  | .normal, L, w => K L w
  | e, L, w => Q e L w
def blockE (id : Nat) (Q : Post) : Post
  | .exit j, L, w => match Nat.beq j id with
    | true => Q .normal L w
    | false => Q (.exit j) L w
  | e, L, w => Q e L w
def scopeE (Q : Post) : Post
  | .goto _, _, _ => False
  | e, L, w => Q e L w
def projK (l : List (Nat × Cx)) (J : St l → World → Prop) (L : Env) (w : World) : Prop := match projS l L with
  | some s => J s w
  | none => False
def Same (w w' : World) : Prop := w' = w
def Held (w : World) (f : (World → Prop) → Prop) : Prop := ∃ S : World → Prop, S w ∧ f S

def lift (P : Program) (n : Nat) : Code → Ann → Env → Post → World → Prop
  | .skip, .leaf, L, Q, w => Q .normal L w
  | .label _, .leaf, L, Q, w => Q .normal L w
  | .exit id, .leaf, L, Q, w => Q (.exit id) L w
  | .goto l, .leaf, L, Q, w => Q (.goto l) L w
  | .ret, .leaf, L, Q, w => Q .ret L w
  | .region _ ops false, .reg p, L, Q, w => liftN P n ops p 0 L (fun L w => Q .normal L w) w
  | .region _ ops true, .regQ p, L, Q, w => liftD P n ops (Same w.drew) p ops.size (Array.replicate ops.size false) L (fun L w => Q .normal L w) w.drew
  | .region _ ops true, .regD p, L, Q, w => Held w.drew fun S => liftD P n ops S p ops.size (Array.replicate ops.size false) L (fun L w => Q .normal L w) w.drew
  | .seq x y, .seq a b, L, Q, w => lift P n x a L (thenE (fun L w => lift P n y b L Q w) Q) w
  | .seq x _, .join l J a _, L, Q, w => lift P n x a L (thenE (projK l J) Q) w
  | .cond c x y, .cond a b, L, Q, w => match ev L c with
    | some (.bool t) => Cd t (lift P n x a L Q w) (lift P n y b L Q w)
    | _ => False
  | .cond c x _, .condK true a, L, Q, w => match ev L c with
    | some (.bool true) => lift P n x a L Q w
    | _ => False
  | .cond c _ y, .condK false a, L, Q, w => match ev L c with
    | some (.bool false) => lift P n y a L Q w
    | _ => False
  | .block id x, .block a, L, Q, w => lift P n x a L (blockE id Q) w
  | .scope x, .scope a, L, Q, w => lift P n x a L (scopeE Q) w
  | .loop _, .loop l B _, L, _, w => projK l (loopW B) L w
  | _, _, _, _, _ => False

def oks (P : Program) (n : Nat) : Code → Ann → Post → Prop
  | .region _ ops true, .regQ _, _ => Region.noSelect ops = true
  | .region _ ops true, .regD _, _ => Region.noSelect ops = true
  | .seq x y, .seq a b, Q => oks P n x a (thenE (fun L w => lift P n y b L Q w) Q) ∧ oks P n y b Q
  | .seq x y, .join l J a b, Q => (∀ s w, J s w → lift P n y b (encS l s) Q w) ∧ oks P n x a (thenE (projK l J) Q) ∧ oks P n y b Q
  | .cond _ x y, .cond a b, Q => oks P n x a Q ∧ oks P n y b Q
  | .cond _ x _, .condK true a, Q => oks P n x a Q
  | .cond _ _ y, .condK false a, Q => oks P n y a Q
  | .block id x, .block a, Q => oks P n x a (blockE id Q)
  | .scope x, .scope a, Q => oks P n x a (scopeE Q)
  | .loop x, .loop l B a, Q => ∀ k, (∀ s w, B k s w → lift P n x (a k) (encS l s) (thenE (projK l k) Q) w) ∧ oks P n x (a k) (thenE (projK l k) Q)
  | _, _, _ => True

def semQ (n : Nat) (Q : Post) : Exit → Act → World → Prop
  | .panic _, _, _ => False
  | .outgrown, _, _ => False
  | e, a, w => ∃ L, Slots n a L ∧ Q e L w
theorem semQ_mono {n : Nat} {Q Q' : Post} (h : ∀ e L w, Q e L w → Q' e L w) : ∀ e a w, semQ n Q e a w → semQ n Q' e a w := by
  intro e a w hq
  cases e <;> simp only [semQ] at hq ⊢ <;> first | exact hq | (obtain ⟨L, hs, hl⟩ := hq; exact ⟨L, hs, h _ _ _ hl⟩)
theorem semQ_then {n : Nat} {K : Env → World → Prop} {Q : Post} {K' : Act → World → Prop} (h : ∀ a L w, Slots n a L → K L w → K' a w) :
    ∀ e a w, semQ n (thenE K Q) e a w → Exit.then K' (semQ n Q) e a w := by
  intro e a w hq
  cases e <;> simp only [semQ, thenE, Exit.then] at hq ⊢ <;> first | exact hq | (obtain ⟨L, hs, hl⟩ := hq; first | exact h _ _ _ hs hl | exact ⟨L, hs, hl⟩)

theorem lift_sound {P : Program} {n : Nat} (hmix : P.follows .mixedOrders = true) : ∀ (an : Ann) (c : Code) (Q : Post) (L : Env) (a : Act) (w : World),
    oks P n c an Q → lift P n c an L Q w → Slots n a L → c.wp P (semQ n Q) a w := by
  intro an
  induction an with
  | leaf =>
    intro c Q L a w _ h hs
    cases c <;> (try simp only [lift] at h) <;> try exact h.elim
    case skip => exact wp_skip ⟨L, hs, h⟩
    case label => exact wp_label ⟨L, hs, h⟩
    case exit => exact wp_exit ⟨L, hs, h⟩
    case goto => exact wp_goto ⟨L, hs, h⟩
    case ret => exact wp_ret ⟨L, hs, h⟩
  | reg p =>
    intro c Q L a w ho h hs
    cases c <;> (try simp only [lift] at h) <;> try exact h.elim
    case region id ops d =>
      cases d <;> (try simp only [lift] at h) <;> try exact h.elim
      refine wp_region ?_
      have := liftN_sound (Q := semQ n Q) p 0 L _ a w (Nat.zero_le _) hs h (fun a L w hs hk => ⟨L, hs, hk⟩)
      rwa [Nat.sub_zero, ← List.range_eq_range'] at this
  | regQ p =>
    intro c Q L a w ho h hs
    cases c <;> (try simp only [lift] at h) <;> try exact h.elim
    case region id ops d =>
      cases d <;> simp only [lift] at h <;> try exact h.elim
      exact wp_region_held hmix (liftD_sound (S := Same w.drew) ho (fun c a w hc => hc) p _ _ L _ a _ rfl hs h (fun a L w hs hk => ⟨L, hs, hk⟩))
  | regD p =>
    intro c Q L a w ho h hs
    cases c <;> (try simp only [lift] at h) <;> try exact h.elim
    case region id ops d =>
      cases d <;> simp only [lift] at h <;> try exact h.elim
      obtain ⟨S, hS, h⟩ := h
      exact wp_region_held hmix (liftD_sound ho (fun c a w hc => hc) p _ _ L _ a _ hS hs h (fun a L w hs hk => ⟨L, hs, hk⟩))
  | seq a1 a2 ih1 ih2 =>
    intro c Q L a w ho h hs
    cases c <;> (try simp only [lift] at h) <;> try exact h.elim
    case seq x y =>
      simp only [oks] at ho
      refine wp_seq (wp_mono (ih1 x _ L a w ho.1 h hs) (semQ_then fun a L w hs hk => ih2 y Q L a w ho.2 hk hs))
  | join l J a1 a2 ih1 ih2 =>
    intro c Q L a w ho h hs
    cases c <;> (try simp only [lift] at h) <;> try exact h.elim
    case seq x y =>
      simp only [oks] at ho
      refine wp_seq (wp_mono (ih1 x _ L a w ho.2.1 h hs) (semQ_then fun a L w hs hk => ?_))
      simp only [projK] at hk
      cases hp : projS l L with
      | none => rw [hp] at hk; exact hk.elim
      | some s => rw [hp] at hk; exact ih2 y Q _ a w ho.2.2 (ho.1 s w hk) (hs.proj hp)
  | cond a1 a2 ih1 ih2 =>
    intro c Q L a w ho h hs
    cases c <;> (try simp only [lift] at h) <;> try exact h.elim
    case cond c x y =>
      simp only [oks] at ho
      cases he : ev L c with
      | none => rw [he] at h; exact h.elim
      | some v =>
        rw [he] at h
        cases v <;> simp only at h <;> try exact h.elim
        rename_i t
        exact wp_cond_split (hs.ev he) (fun ht => ih1 x Q L a w ho.1 (h.1 ht) hs) (fun ht => ih2 y Q L a w ho.2 (h.2 ht) hs)
  | condK b a1 ih1 =>
    intro c Q L a w ho h hs
    cases c <;> (try simp only [lift] at h) <;> try exact h.elim
    case cond c x y =>
      cases b <;> simp only [lift] at h <;> simp only [oks] at ho
      all_goals
        cases he : ev L c with
        | none => rw [he] at h; exact h.elim
        | some v =>
          rw [he] at h
          cases v <;> (try simp only at h) <;> try exact h.elim
          rename_i t
          cases t <;> simp only at h
          first
            | exact wp_cond_false (hs.ev he) (ih1 y Q L a w ho h hs)
            | exact wp_cond_true (hs.ev he) (ih1 x Q L a w ho h hs)
  | block a1 ih1 =>
    intro c Q L a w ho h hs
    cases c <;> (try simp only [lift] at h) <;> try exact h.elim
    case block id x =>
      simp only [oks] at ho
      refine wp_block (wp_mono (ih1 x _ L a w ho h hs) fun e a w hq => ?_)
      cases e <;> (try simp only [semQ, blockE, Exit.inBlock] at hq ⊢) <;> try exact hq
      rename_i j
      obtain ⟨L, hs, hl⟩ := hq
      by_cases hj : j = id
      · subst hj
        rw [if_pos rfl]
        rw [show Nat.beq j j = true from Nat.beq_refl j] at hl
        exact ⟨L, hs, hl⟩
      · rw [if_neg hj]
        have : Nat.beq j id = false := by
          cases hb : Nat.beq j id with
          | false => rfl
          | true => exact absurd (Nat.eq_of_beq_eq_true hb) hj
        rw [this] at hl
        exact ⟨L, hs, hl⟩
  | scope a1 ih1 =>
    intro c Q L a w ho h hs
    cases c <;> (try simp only [lift] at h) <;> try exact h.elim
    case scope x =>
      simp only [oks] at ho
      refine wp_scope_straight (wp_mono (ih1 x _ L a w ho h hs) fun e a w hq => ?_)
      cases e <;> simp only [semQ, scopeE, Exit.noGoto] at hq ⊢ <;> first | exact hq | (obtain ⟨L, _, h⟩ := hq; exact h.elim)
  | loop l B a1 ih1 =>
    intro c Q L a w ho h hs
    cases c <;> (try simp only [lift] at h) <;> try exact h.elim
    case loop x =>
      simp only [oks] at ho
      simp only [projK] at h
      cases hp : projS l L with
      | none => rw [hp] at h; exact h.elim
      | some s =>
        rw [hp] at h
        obtain ⟨m, hm⟩ := h
        have key : ∀ m a s w, Slots n a (encS l s) → iterW B m s w → ∀ (b : Frame) (k : List Item) (cs : List Frame),
            ∃ e a' w', semQ n Q e a' w' ∧ Arrives P (lone (b.at a (.code x :: .inLoop x :: k)) cs w) b k cs e a' w' := by
          intro m
          induction m with
          | zero => intro a s w _ h; exact h.elim
          | succ m ihm =>
            intro a s w hs h b k cs
            have hw := ih1 (iterW B m) x _ _ a w (ho (iterW B m)).2 ((ho _).1 s w h) hs
            obtain ⟨e, a₁, w₁, hq, harr⟩ := hw b (.inLoop x :: k) cs
            cases e with
            | normal =>
              obtain ⟨L1, hs1, hk⟩ := hq
              simp only [thenE, projK] at hk
              cases hp1 : projS l L1 with
              | none => rw [hp1] at hk; exact hk.elim
              | some s1 =>
                rw [hp1] at hk
                obtain ⟨e₂, a₂, w₂, hq₂, harr₂⟩ := ihm a₁ s1 w₁ (hs1.proj hp1) hk b k cs
                exact ⟨e₂, a₂, w₂, hq₂, .of_steps (Steps.trans harr (.one step_inLoop)) harr₂⟩
            | exit id => exact ⟨.exit id, a₁, w₁, hq, .pass (x := .inLoop x) rfl (fun _ _ => .inl (by simp)) harr⟩
            | goto l => exact ⟨.goto l, a₁, w₁, hq, .pass (x := .inLoop x) rfl (fun _ _ => .inl (by simp)) harr⟩
            | ret => exact ⟨.ret, a₁, w₁, hq, .pass (x := .inLoop x) rfl (fun _ _ => .inl (by simp)) harr⟩
            | panic ch => exact hq.elim
            | outgrown => exact hq.elim
        intro b k cs
        obtain ⟨e, a', w', hq, harr⟩ := key m a s w (hs.proj hp) hm b k cs
        exact ⟨e, a', w', hq, .of_steps (.one step_loop) harr⟩

/-! ### A function's call -/
def argEnv : Nat → List Value → Env
  | _, [] => []
  | i, v :: r => (i, v) :: argEnv (i + 1) r
theorem find_argEnv : ∀ (l : List Value) (i j : Nat) (v : Value), find (argEnv i l) j = some v → i ≤ j ∧ l[j - i]? = some v
  | [], _, _, _, h => by cases h
  | u :: r, i, j, v, h => by
    simp only [argEnv, find] at h
    cases hb : Nat.beq i j with
    | true =>
      rw [hb] at h; simp only at h; cases h
      have e : i = j := Nat.eq_of_beq_eq_true hb
      subst e
      simp
    | false =>
      rw [hb] at h; simp only at h
      obtain ⟨h1, h2⟩ := find_argEnv r (i + 1) j v h
      refine ⟨by omega, ?_⟩
      rw [show j - i = (j - (i + 1)) + 1 by omega]
      simpa using h2
theorem Slots.start {n : Nat} (args : Array Value) (h : args.size ≤ n) :
    Slots n { tmps := args ++ Array.replicate (n - args.size) undef, defers := [] } (argEnv 0 args.toList) := by
  refine ⟨by simp; omega, rfl, fun i v hv => ?_⟩
  have := (find_argEnv _ _ _ _ hv).2
  simp only [Nat.sub_zero, Array.getElem?_toList] at this
  have hi : i < args.size := by
    rcases Nat.lt_or_ge i args.size with h | h
    · exact h
    · rw [Array.getElem?_eq_none h] at this; cases this
  exact ⟨by omega, by rw [Array.getElem?_append_left hi]; exact this⟩

/-- the results: those that lie in slots, those that lie in cells -/
def resL (P : Program) : List ResultVar → List Cx → Env → (List Value → Prop) → World → Prop
  | [], _, _, k, _ => k []
  | .tmp t :: r, _ :: cs, L, k, w => match find L t with
    | some v => resL P r cs L (fun vs => k (v :: vs)) w
    | none => False
  | .cell t ty :: r, c :: cs, L, k, w => match find L t with
    | some (.pointer (some p)) => ∃ x : c.T, (loadVar ty p).run P w = .ok (c.enc x) w ∧ resL P r cs L (fun vs => k (c.enc x :: vs)) w
    | _ => False
  | _ :: _, [], _, _, _ => False
def oneOf : List Value → Value
  | [v] => v
  | vs => .tuple vs.toArray
def resOf (tmps : Array Value) : ResultVar → Sem Value
  | .tmp t => pure (tmps.getD t undef)
  | .cell a t => do loadVar t (← asAddr (tmps.getD a undef))
theorem resL_run {P : Program} {n : Nat} {a : Act} {L : Env} {w : World} (hs : Slots n a L) : ∀ (rs : List ResultVar) (cs : List Cx) (k : List Value → Prop), resL P rs cs L k w →
    ∃ vs, (rs.mapM (resOf a.tmps)).run P w = .ok vs w ∧ k vs
  | [], _, _, h => ⟨[], rfl, h⟩
  | _ :: _, [], _, h => by rename_i x _ _; cases x <;> exact h.elim
  | .tmp t :: r, c :: cs, k, h => by
    simp only [resL] at h
    cases hf : find L t with
    | none => rw [hf] at h; exact h.elim
    | some v =>
      rw [hf] at h
      obtain ⟨vs, h1, h2⟩ := resL_run hs r cs _ h
      refine ⟨v :: vs, ?_, h2⟩
      have hv : a.tmps.getD t undef = v := by rw [Array.getD_eq_getD_getElem?, (hs.vals t v hf).2]; rfl
      rw [List.mapM_cons, run_bind]
      simp only [resOf, hv]
      have : ((pure v : Sem Value)).run P w = .ok v w := rfl
      rw [this]
      simp only
      rw [run_bind, h1]
      rfl
  | .cell t ty :: r, c :: cs, k, h => by
    simp only [resL] at h
    cases hf : find L t with
    | none => rw [hf] at h; exact h.elim
    | some v =>
      rw [hf] at h
      cases v <;> (try simp only at h) <;> try exact h.elim
      rename_i p
      cases p <;> simp only at h <;> try exact h.elim
      rename_i p
      obtain ⟨x, hx, h⟩ := h
      obtain ⟨vs, h1, h2⟩ := resL_run hs r cs _ h
      refine ⟨c.enc x :: vs, ?_, h2⟩
      have hv : a.tmps.getD t undef = .pointer (some p) := by rw [Array.getD_eq_getD_getElem?, (hs.vals t _ hf).2]; rfl
      rw [List.mapM_cons, run_bind]
      simp only [resOf, hv]
      have : ((do loadVar ty (← asAddr (.pointer (some p)))) : Sem Value).run P w = .ok (c.enc x) w := hx
      rw [this]
      simp only
      rw [run_bind, h1]
      rfl
theorem results_run {P : Program} {n : Nat} {fn : Func} {a : Act} {L : Env} {w : World} (hs : Slots n a L) {cs : List Cx} {k : List Value → Prop}
    (h : resL P fn.results.toList cs L k w) : ∃ vs, (results fn a.tmps).run P w = .ok (oneOf vs) w ∧ k vs := by
  obtain ⟨vs, h1, h2⟩ := resL_run hs _ cs k h
  refine ⟨vs, ?_, h2⟩
  have e : results fn a.tmps = (do
      let vs ← fn.results.mapM (resOf a.tmps)
      pure (if h : vs.size = 1 then vs[0] else .tuple vs)) := by
    unfold results
    congr 1
  rw [e, Array.mapM_eq_mapM_toList, run_bind]
  have e2 : (List.toArray <$> fn.results.toList.mapM (resOf a.tmps) : Sem (Array Value)).run P w = .ok vs.toArray w := by
    rw [← bind_pure_comp, run_bind, h1]
    rfl
  rw [e2]
  show Result.ok _ w = _
  congr 1
  match vs with
  | [] => rfl
  | [v] => rfl
  | _ :: _ :: _ => simp [oneOf]
/-- what is asked at a body's end -/
def endQ (P : Program) (rs : List ResultVar) (cs : List Cx) (R : Value → World → Prop) : Post
  | .normal, L, w => resL P rs cs L (fun vs => R (oneOf vs) w) w
  | .ret, L, w => resL P rs cs L (fun vs => R (oneOf vs) w) w
  | _, _, _ => False
theorem calls_of_lift {P : Program} (hmix : P.follows .mixedOrders = true) {f : FuncId} {fn : Func} {c : Code} (hf : P.funcs[f]? = some fn) (hb : fn.body = some c) (cs : List Cx) {args : Array Value} {w : World}
    {R : Ending → World → Prop} (an : Ann) (n : Nat) (hn : fn.ntmps = n) (rs : List ResultVar) (hr : fn.results.toList = rs) (hsz : args.size ≤ n)
    (ho : oks P n c an (endQ P rs cs fun v w => R (.returned v) w)) (h : lift P n c an (argEnv 0 args.toList) (endQ P rs cs fun v w => R (.returned v) w) w) :
    Calls P f args w R := by
  subst hn hr
  refine calls_of_wp hf hb (wp_mono (lift_sound hmix an c _ _ _ w ho h (Slots.start args hsz)) fun e a w hq => ?_)
  cases e <;> simp only [semQ, endQ] at hq <;> try exact hq.elim
  case normal =>
    obtain ⟨L, hs, hl⟩ := hq
    obtain ⟨vs, h1, h2⟩ := results_run hs hl
    exact ⟨hs.defers, _, h1, h2⟩
  case exit => obtain ⟨_, _, h⟩ := hq; exact h.elim
  case goto => obtain ⟨_, _, h⟩ := hq; exact h.elim
  case ret =>
    obtain ⟨L, hs, hl⟩ := hq
    obtain ⟨vs, h1, h2⟩ := results_run hs hl
    exact ⟨hs.defers, _, h1, h2⟩
end Go.Cu
