/- The lift, second part: one operation, a region, a body; and the proof that what is lifted bears the walk. -/
import Derived.Test.YtmmejgneelkhkaaDoorLift
set_option linter.all false
namespace Go.Cu
open Go

/-! ### Operations -/
/-- what a step comes to that asks nothing of the world -/
def now {α : Type} (P : Program) : Sem α → Option α
  | .pure a => some a
  | .program k => now P (k P)
  | .mark _ k => now P k
  | _ => none
theorem now_run {α : Type} {P : Program} : ∀ {s : Sem α} {x : α}, now P s = some x → ∀ w, s.run P w = .ok x w
  | .pure a, x, h, w => by simp only [now] at h; cases h; rfl
  | .program k, x, h, w => by simp only [now] at h; simp only [Sem.run]; exact now_run h w
  | .mark m k, x, h, w => by simp only [now] at h; simp only [Sem.run]; exact now_run h w
  | .load .., _, h, _ | .store .., _, h, _ | .new .., _, h, _ | .shape .., _, h, _ | .freeze .., _, h, _ | .frozen .., _, h, _
  | .getObj .., _, h, _ | .setObj .., _, h, _ | .choose .., _, h, _ | .sys .., _, h, _ | .halt .., _, h, _ => by simp only [now] at h; cases h

/-- a pointer that must not be nil -/
def nilCk : Option Addr → Sem Value
  | none => runtimePanic .nilDeref
  | some a => .pure (.pointer (some a))
/-- the step of an operation that gives a value -/
def semB (b : Builtin) (ts : Array TypeId) (t : TypeId) (args : Array Value) : Option (Sem Value) :=
  match b with
  | .append => some (Builtin.append_ ts t args)
  | .cap => some (Builtin.cap_ ts t args)
  | .clear => some (Builtin.clear_ ts t args)
  | .copy => some (Builtin.copy_ ts t args)
  | .delete => some (Builtin.delete_ ts t args)
  | .len => some (Builtin.len_ ts t args)
  | .max => some (Builtin.max_ ts t args)
  | .min => some (Builtin.min_ ts t args)
  | _ => none
def semV (ρ : Operand → Value) (o : Oper) : Option (Sem Value) :=
  match o.op with
  | .alloc elem => some (Instr.alloc elem true (.tuple #[]))
  | .box elem x => some (Instr.box elem (ρ x))
  | .build t parts => some (Instr.build t (parts.map fun (i, x) => (i, ρ x)))
  | .buildSlice t len parts => some (Instr.buildSlice t len (parts.map fun (i, x) => (i, ρ x)))
  | .load t a => some (Instr.loadAt t (ρ a))
  | .nilCheck x => match ρ x with
    | .pointer p => some (nilCk p)
    | _ => none
  | .binOp op xType x y _ => some (do eqGuard op xType x y (ρ x) (ρ y); binOp op xType (ρ x) (ρ y))
  | .unOp op _ x => some (Op.unary op (ρ x))
  | .convert src dst x => some (convert src dst (ρ x))
  | .makeInterface xType x => some (Instr.makeInterface xType (ρ x))
  | .makeFunc fn first captured => some (Instr.makeFunc fn (first.map ρ) (captured.map ρ))
  | .makeMap t r => some (Instr.makeMap t (r.map ρ))
  | .makeSlice t l c => some (Instr.makeSlice t (ρ l) (ρ c))
  | .slice t x lo hi mx => some (Instr.sliceAt t (ρ x) (lo.map ρ) (hi.map ρ) (mx.map ρ))
  | .fieldAddr s x f => some (Instr.fieldAt s (ρ x) f)
  | .field xType x f => some (Instr.field xType (ρ x) f)
  | .indexAddr t x ix => some (Instr.indexAt t (ρ x) (ρ ix))
  | .index xType x ix => some (Instr.index xType (ρ x) (ρ ix))
  | .lookup xType x ix ok => some (Instr.lookup xType (ρ x) (ρ ix) ok)
  | .mapEntry t m k => some (Instr.mapEntry t (ρ m) (ρ k))
  | .range xType x => some (Instr.range xType (ρ x))
  | .next it isString => some (Instr.next (ρ it) isString o.type)
  | .entry it => some (Instr.entry (ρ it))
  | .typeAssert x xType asserted ok => some (Instr.typeAssert (ρ x) xType asserted ok)
  | .call { callee := .builtin b, args, argTypes } => semB b argTypes o.type (args.map ρ)
  | _ => none
def semU (ρ : Operand → Value) (o : Oper) : Option (Sem Unit) :=
  match o.op with
  | .store t a x => some (Instr.storeAt t (ρ a) (ρ x))
  | .mapUpdate t m k x | .insert t m k x => some (Instr.mapUpdate t (ρ m) (ρ k) (ρ x))
  | .entryStore t m s x => some (Instr.entryStore t (ρ m) (ρ s) (ρ x))
  | _ => none
theorem semV_exec {ρ : Operand → Value} {o : Oper} {s : Sem Value} (h : semV ρ o = some s) : execOp ρ o = (do pure (.value (← s))) := by
  obtain ⟨dst, op, type, pos, after, guard⟩ := o
  cases op <;> simp only [semV] at h <;> first | (cases h; done) | (cases h; rfl) | skip
  case nilCheck x =>
    cases hx : ρ x <;> rw [hx] at h <;> simp only at h <;> cases h
    rename_i p
    cases p <;> simp only [execOp, hx] <;> rfl
  case call c =>
    obtain ⟨callee, args, argTypes⟩ := c
    cases callee <;> simp only at h <;> try cases h
    rename_i b
    cases b <;> simp only [semB] at h <;> first | (cases h; done) | (cases h; rfl)
theorem semU_exec {ρ : Operand → Value} {o : Oper} {s : Sem Unit} (h : semU ρ o = some s) : execOp ρ o = (do s; pure .skip) := by
  obtain ⟨dst, op, type, pos, after, guard⟩ := o
  cases op <;> simp only [semU] at h <;> first | (cases h; done) | (cases h; rfl)
theorem run_bind {α β : Type} {P : Program} (s : Sem α) (f : α → Sem β) (w : World) : (s >>= f).run P w = match s.run P w with
    | .ok a w' => (f a).run P w'
    | .halt h w' => .halt h w' := by
  show (s.bind f).run P w = _
  induction s generalizing w with
  | pure a => rfl
  | load m a k ih => simp only [Sem.bind, Sem.run]; (repeat' split) <;> simp_all
  | store m a v k ih => cases v <;> simp only [Sem.bind, Sem.run] <;> (try rfl) <;> (repeat' split) <;> simp_all
  | new o k ih => simp only [Sem.bind, Sem.run]; exact ih _ _
  | shape r k ih => simp only [Sem.bind, Sem.run]; exact ih _ _
  | freeze a n k ih => simp only [Sem.bind, Sem.run]; exact ih _
  | frozen a k ih => simp only [Sem.bind, Sem.run]; exact ih _ _
  | getObj r k ih => simp only [Sem.bind, Sem.run]; (repeat' split) <;> simp_all
  | setObj r o k ih => simp only [Sem.bind, Sem.run]; (repeat' split) <;> simp_all
  | choose q k ih => simp only [Sem.bind, Sem.run]; split <;> simp_all
  | sys c k ih => simp only [Sem.bind, Sem.run]; exact ih _ _
  | program k ih => simp only [Sem.bind, Sem.run]; exact ih _ _
  | mark m k ih => simp only [Sem.bind, Sem.run]; exact ih _
  | halt h => rfl

/-- a step that gives x whatever the world -/
def Pu (P : Program) (s : Sem Value) (d : Sh) (k : d.T → World → Prop) (w : World) : Prop := ∃ x, (∀ w', s.run P w' = .ok (d.enc x) w') ∧ k x w
/-- a step that reads x, in whatever world that meets S -/
def RdS (P : Program) (S : World → Prop) (s : Sem Value) (d : Sh) (k : d.T → World → Prop) (w : World) : Prop := ∃ x, (∀ w', S w' → s.run P w' = .ok (d.enc x) w') ∧ k x w
/-- a step that reads x -/
def Rd (P : Program) (s : Sem Value) (d : Sh) (k : d.T → World → Prop) (w : World) : Prop := ∃ x, s.run P w = .ok (d.enc x) w ∧ k x w
/-- a step that gives x, the world w' behind it -/
def Wr (P : Program) (s : Sem Value) (d : Sh) (k : d.T → World → Prop) (w : World) : Prop := ∃ x w', s.run P w = .ok (d.enc x) w' ∧ k x w'
/-- a step that gives nothing -/
def Wu (P : Program) (s : Sem Unit) (k : World → Prop) (w : World) : Prop := ∃ w', s.run P w = .ok () w' ∧ k w'
/-- a call -/
def Cl (P : Program) (f : FuncId) (args : Array Value) (d : Sh) (k : d.T → World → Prop) (w : World) : Prop :=
  Calls P f args w fun e w' => ∃ x, e = .returned (d.enc x) ∧ k x w'
/-- any other step -/
def Nx (P : Program) (s : Sem Next) (d : Sh) (k : d.T → World → Prop) (w : World) : Prop :=
  (∃ x w', s.run P w = .ok (.value (d.enc x)) w' ∧ k x w') ∨ (∃ f args w', s.run P w = .ok (.enter f args) w' ∧ Cl P f args d k w') ∨
  (∃ r args w', s.run P w = .ok (.row r args) w' ∧ Rows P r args w' fun v w'' => ∃ x, v = d.enc x ∧ k x w'')
/-- a way that parts at a Bool -/
def Cd (c : Bool) (A B : Prop) : Prop := (c = true → A) ∧ (c = false → B)

inductive Tag where
  | now | pu (d : Sh) | rd (d : Sh) | wr (d : Sh) | wu | cl (d : Sh) | nx (d : Sh)
def Tag.early : Tag → Bool
  | .now | .pu _ | .rd _ => true
  | _ => false
def isSel : Op → Bool
  | .select .. => true
  | _ => false
def allIn (L : Env) : List Operand → Bool
  | [] => true
  | x :: r => match ev L x with
    | some _ => allIn L r
    | none => false
def dstOk (n : Nat) : Option Tmp → Bool
  | none => true
  | some d => Nat.blt d n
def okOp (n : Nat) (o : Oper) (L : Env) : Bool := match allIn L o.op.operands.toList with
  | true => match isSel o.op with
    | true => false
    | false => dstOk n o.dst
  | false => false
theorem allIn_mem {L : Env} : ∀ {xs : List Operand}, allIn L xs = true → ∀ x ∈ xs, ∃ v, ev L x = some v
  | [], _, _, hx => by cases hx
  | y :: r, h, x, hx => by
    simp only [allIn] at h
    cases hy : ev L y with
    | none => rw [hy] at h; cases h
    | some v =>
      rw [hy] at h
      cases hx with
      | head => exact ⟨v, hy⟩
      | tail _ hx => exact allIn_mem h x hx
theorem okOp_parts {n : Nat} {o : Oper} {L : Env} (h : okOp n o L = true) :
    (∀ x ∈ o.op.operands, ∃ v, ev L x = some v) ∧ (∀ cs b, o.op ≠ .select cs b) ∧ ∀ t, o.dst = some t → t < n := by
  unfold okOp at h
  cases h1 : allIn L o.op.operands.toList with
  | false => rw [h1] at h; cases h
  | true =>
    rw [h1] at h; simp only at h
    cases h2 : isSel o.op with
    | true => rw [h2] at h; cases h
    | false =>
      rw [h2] at h; simp only at h
      refine ⟨fun x hx => allIn_mem h1 x (by simpa using hx), fun cs b e => (by rw [e] at h2; cases h2), fun t ht => ?_⟩
      rw [ht] at h
      simpa [dstOk] using h
theorem exec_evD {n : Nat} {a : Act} {o : Oper} {L : Env} (hs : Slots n a L) (h : okOp n o L = true) : execOp a.eval o = execOp (evD L) o := by
  obtain ⟨h1, h2, _⟩ := okOp_parts h
  refine execOp_congr o h2 fun x hx => ?_
  obtain ⟨v, hv⟩ := h1 x hx
  rw [hs.ev hv, evD, hv]

/-- one operation, its guard met: k takes what it gives -/
def opK (P : Program) (n : Nat) (o : Oper) (t : Tag) (L : Env) (k : Value → World → Prop) (w : World) : Prop :=
  match okOp n o L with
  | false => False
  | true => match t with
    | .now => match now P (execOp (evD L) o) with
      | some (.value v) => k v w
      | some .skip => k undef w
      | _ => False
    | .pu d => match semV (evD L) o with
      | some s => Pu P s d (fun x w' => k (d.enc x) w') w
      | none => False
    | .rd d => match semV (evD L) o with
      | some s => Rd P s d (fun x w' => k (d.enc x) w') w
      | none => False
    | .wr d => match semV (evD L) o with
      | some s => Wr P s d (fun x w' => k (d.enc x) w') w
      | none => False
    | .wu => match semU (evD L) o with
      | some s => Wu P s (fun w' => k undef w') w
      | none => False
    | .cl d => match now P (execOp (evD L) o) with
      | some (.enter f args) => Cl P f args d (fun x w' => k (d.enc x) w') w
      | _ => False
    | .nx d => Nx P (execOp (evD L) o) d (fun x w' => k (d.enc x) w') w

/-- what may follow an operation: no panic is let by -/
def NoBad (Q : Exit → Act → World → Prop) : Prop := (∀ c a w, ¬ Q (.panic c) a w) ∧ ∀ a w, ¬ Q .outgrown a w

theorem opK_sound {P : Program} {n : Nat} {o : Oper} {t : Tag} {L : Env} {k : Value → World → Prop} {a : Act} {w : World} {Q : Exit → Act → World → Prop}
    {K : Act → World → Prop} (hs : Slots n a L) (h : opK P n o t L k w) (hk : ∀ v w', k v w' → K (a.put o.dst v) w') : o.wp P a w K Q := by
  unfold opK at h
  cases hok : okOp n o L with
  | false => rw [hok] at h; exact h.elim
  | true =>
    rw [hok] at h; simp only at h
    unfold Oper.wp
    rw [exec_evD hs hok]
    have hcl : ∀ {f : FuncId} {args : Array Value} {d : Sh} {w1 : World}, Cl P f args d (fun x w' => k (d.enc x) w') w1 →
        o.upon P a K Q (.ok (.enter f args) w1) := fun hc => by
      simp only [Oper.upon]
      refine Calls.mono hc fun e w' he => ?_
      obtain ⟨x, rfl, hx⟩ := he
      exact hk _ _ hx
    cases t with
    | now =>
      simp only at h
      cases hn : now P (execOp (evD L) o) with
      | none => rw [hn] at h; exact h.elim
      | some x =>
        rw [hn] at h
        rw [now_run hn w]
        cases x <;> simp only at h <;> first | exact h.elim | skip
        · exact hk _ _ h
        · exact hk _ _ h
    | pu d =>
      simp only at h
      cases hm : semV (evD L) o with
      | none => rw [hm] at h; exact h.elim
      | some s =>
        rw [hm] at h
        obtain ⟨x, hx, hkx⟩ := h
        rw [semV_exec hm, run_bind, hx w]
        exact hk _ _ hkx
    | rd d =>
      simp only at h
      cases hm : semV (evD L) o with
      | none => rw [hm] at h; exact h.elim
      | some s =>
        rw [hm] at h
        obtain ⟨x, hx, hkx⟩ := h
        rw [semV_exec hm, run_bind, hx]
        exact hk _ _ hkx
    | wr d =>
      simp only at h
      cases hm : semV (evD L) o with
      | none => rw [hm] at h; exact h.elim
      | some s =>
        rw [hm] at h
        obtain ⟨x, w', hx, hkx⟩ := h
        rw [semV_exec hm, run_bind, hx]
        exact hk _ _ hkx
    | wu =>
      simp only at h
      cases hm : semU (evD L) o with
      | none => rw [hm] at h; exact h.elim
      | some s =>
        rw [hm] at h
        obtain ⟨w', hx, hkx⟩ := h
        rw [semU_exec hm, run_bind, hx]
        exact hk _ _ hkx
    | cl d =>
      simp only at h
      cases hn : now P (execOp (evD L) o) with
      | none => rw [hn] at h; exact h.elim
      | some x =>
        rw [hn] at h
        rw [now_run hn w]
        cases x <;> simp only at h <;> first | exact h.elim | skip
        exact hcl h
    | nx d =>
      simp only at h
      rcases h with ⟨x, w', hx, hkx⟩ | ⟨f, args, w', hx, hc⟩ | ⟨r, args, w', hx, hc⟩
      · rw [hx]; exact hk _ _ hkx
      · rw [hx]; exact hcl hc
      · rw [hx]
        simp only [Oper.upon]
        refine Rows.mono hc fun v w'' hv => ?_
        obtain ⟨y, rfl, hy⟩ := hv
        exact hk _ _ hy

/-! ### Regions -/
inductive Plan where
  | done
  | op (i : Nat) (t : Tag) (next : Plan)
  | skip (i : Nat) (next : Plan)
  | split (j : Nat) (yes no : Plan)
  | fork2 (i : Nat) (t : Tag) (one : Plan) (j : Nat) (u : Tag) (two : Plan)
/-- the slot of the test number j -/
def slotOf (ops : Array Oper) (j : Nat) : Option Tmp := match ops[j]? with
  | some o => o.dst
  | none => none
/-- is the operation wanted? none: not known -/
def gd (ops : Array Oper) (o : Oper) (L : Env) : Option Bool := match o.guard with
  | none => some true
  | some (j, want) => match slotOf ops j with
    | some t => match find L t with
      | some (.bool c) => some (match c, want with | true, true | false, false => true | _, _ => false)
      | some (.tuple _) => some false
      | _ => none
    | none => none
theorem gd_wanted {n : Nat} {ops : Array Oper} {o : Oper} {L : Env} {a : Act} {b : Bool} (hs : Slots n a L) (h : gd ops o L = some b) :
    Region.wanted o (yielded ops a.tmps) = b := by
  unfold gd at h
  unfold Region.wanted
  cases hg : o.guard with
  | none => rw [hg] at h; cases h; rfl
  | some p =>
    obtain ⟨j, want⟩ := p
    rw [hg] at h; simp only at h ⊢
    cases hsl : slotOf ops j with
    | none => rw [hsl] at h; cases h
    | some t =>
      rw [hsl] at h; simp only at h
      cases hf : find L t with
      | none => rw [hf] at h; cases h
      | some v =>
        rw [hf] at h
        have ht := (hs.vals t _ hf).2
        cases v <;> simp only at h <;> try cases h
        · rename_i c
          have hy : yielded ops a.tmps j = some c := by
            unfold yielded
            unfold slotOf at hsl
            cases hj : ops[j]? with
            | none => rw [hj] at hsl; cases hsl
            | some oj => rw [hj] at hsl; simp only at hsl; simp only [Option.bind_some, hsl, ht]
          rw [hy]
          cases c <;> cases want <;> rfl
        · have hy : yielded ops a.tmps j = none := by
            unfold yielded
            unfold slotOf at hsl
            cases hj : ops[j]? with
            | none => rfl
            | some oj => rw [hj] at hsl; simp only at hsl; simp only [Option.bind_some, hsl, ht]
          rw [hy]
          cases want <;> rfl

/-- a region in the order of the text -/
def liftN (P : Program) (n : Nat) (ops : Array Oper) : Plan → Nat → Env → (Env → World → Prop) → World → Prop
  | .done, i, L, K, w => match Nat.beq i ops.size with
    | true => K L w
    | false => False
  | .op j t p, i, L, K, w => match Nat.beq i j with
    | false => False
    | true => match ops[i]? with
      | none => False
      | some o => match gd ops o L with
        | some true => opK P n o t L (fun v w' => liftN P n ops p (i + 1) (push n o.dst v L) K w') w
        | _ => False
  | .skip j p, i, L, K, w => match Nat.beq i j with
    | false => False
    | true => match ops[i]? with
      | none => False
      | some o => match gd ops o L with
        | some false => match dstOk n o.dst with
          | true => liftN P n ops p (i + 1) (push n o.dst undef L) K w
          | false => False
        | _ => False
  | .split j p q, i, L, K, w => match slotOf ops j with
    | none => False
    | some t => match find L t with
      | some (.bool c) => Cd c (liftN P n ops p i ((t, .bool true) :: L) K w) (liftN P n ops q i ((t, .bool false) :: L) K w)
      | _ => False
  | .fork2 .., _, _, _, _ => False

theorem liftN_sound {P : Program} {n : Nat} {ops : Array Oper} {Q : Exit → Act → World → Prop} :
    ∀ (p : Plan) (i : Nat) (L : Env) (K : Env → World → Prop) (a : Act) (w : World), i ≤ ops.size → Slots n a L → liftN P n ops p i L K w →
      (∀ a L w, Slots n a L → K L w → Q .normal a w) → wpOps P ops Q ((List.range' i (ops.size - i))) a w := by
  intro p
  induction p with
  | done =>
    intro i L K a w hi hs h hq
    simp only [liftN] at h
    cases hb : Nat.beq i ops.size with
    | false => rw [hb] at h; exact h.elim
    | true =>
      rw [hb] at h
      have e : i = ops.size := Nat.eq_of_beq_eq_true hb
      subst e
      rw [Nat.sub_self]
      exact hq _ _ _ hs h
  | op j t p ih =>
    intro i L K a w hi hs h hq
    simp only [liftN] at h
    cases hb : Nat.beq i j with
    | false => rw [hb] at h; exact h.elim
    | true =>
      rw [hb] at h; simp only at h
      cases ho : ops[i]? with
      | none => rw [ho] at h; exact h.elim
      | some o =>
        rw [ho] at h; simp only at h
        have hlt : i < ops.size := (Array.getElem?_eq_some_iff.1 ho).1
        cases hg : gd ops o L with
        | none => rw [hg] at h; exact h.elim
        | some b =>
          rw [hg] at h
          cases b <;> simp only at h
          obtain ⟨m, hm⟩ : ∃ m, ops.size - i = m + 1 := ⟨ops.size - i - 1, by omega⟩
          rw [hm, List.range'_succ]
          simp only [wpOps, ho, gd_wanted hs hg, if_true]
          refine .inl (opK_sound hs h fun v w' hv => ?_)
          have hd : ∀ t, o.dst = some t → t < n := by
            unfold opK at h
            cases hok : okOp n o L with
            | false => rw [hok] at h; exact h.elim
            | true => exact (okOp_parts hok).2.2
          have := ih (i + 1) _ K _ w' (by omega) (hs.put o.dst v hd) hv hq
          rwa [show ops.size - (i + 1) = m by omega] at this
  | skip j p ih =>
    intro i L K a w hi hs h hq
    simp only [liftN] at h
    cases hb : Nat.beq i j with
    | false => rw [hb] at h; exact h.elim
    | true =>
      rw [hb] at h; simp only at h
      cases ho : ops[i]? with
      | none => rw [ho] at h; exact h.elim
      | some o =>
        rw [ho] at h; simp only at h
        have hlt : i < ops.size := (Array.getElem?_eq_some_iff.1 ho).1
        cases hg : gd ops o L with
        | none => rw [hg] at h; exact h.elim
        | some b =>
          rw [hg] at h
          cases b <;> simp only at h
          cases hd : dstOk n o.dst with
          | false => rw [hd] at h; exact h.elim
          | true =>
            rw [hd] at h; simp only at h
            obtain ⟨m, hm⟩ : ∃ m, ops.size - i = m + 1 := ⟨ops.size - i - 1, by omega⟩
            rw [hm, List.range'_succ]
            simp only [wpOps, ho, gd_wanted hs hg, Bool.false_eq_true, if_false]
            have := ih (i + 1) _ K _ w (by omega) (hs.put o.dst undef (fun t ht => by rw [ht] at hd; simpa [dstOk] using hd)) h hq
            rwa [show ops.size - (i + 1) = m by omega] at this
  | split j p q ihp ihq =>
    intro i L K a w hi hs h hq
    simp only [liftN] at h
    cases hsl : slotOf ops j with
    | none => rw [hsl] at h; exact h.elim
    | some t =>
      rw [hsl] at h; simp only at h
      cases hf : find L t with
      | none => rw [hf] at h; exact h.elim
      | some v =>
        rw [hf] at h
        cases v <;> simp only at h <;> try exact h.elim
        rename_i c
        cases hc : c with
        | true => exact ihp i _ K a w hi (hs.refine hf hc) (h.1 hc) hq
        | false => exact ihq i _ K a w hi (hs.refine hf hc) (h.2 hc) hq
  | fork2 i1 t1 p j1 t2 q _ _ => intro i L K a w _ _ h _; simp only [liftN] at h

/-! ### Regions whose order is drawn -/
/-- one early operation, under what is held -/
def earlyK (P : Program) (n : Nat) (S : World → Prop) (o : Oper) (t : Tag) (L : Env) (k : Value → World → Prop) (w : World) : Prop :=
  match okOp n o L with
  | false => False
  | true => match t with
    | .now => match now P (execOp (evD L) o) with
      | some (.value v) => k v w
      | _ => False
    | .pu d => match semV (evD L) o with
      | some s => Pu P s d (fun x w' => k (d.enc x) w') w
      | none => False
    | .rd d => match semV (evD L) o with
      | some s => RdS P S s d (fun x w' => k (d.enc x) w') w
      | none => False
    | _ => False
theorem earlyK_sound {P : Program} {n : Nat} {S : World → Prop} {ops : Array Oper} {o : Oper} {t : Tag} {L : Env} {k : Value → World → Prop} {a : Act} {w : World}
    (hs : Slots n a L) (hw : Region.wanted o (yielded ops a.tmps) = true) (h : earlyK P n S o t L k w) : ∃ v, YieldsIf P ops S o v a ∧ k v w := by
  unfold earlyK at h
  cases hok : okOp n o L with
  | false => rw [hok] at h; exact h.elim
  | true =>
    rw [hok] at h; simp only at h
    cases t with
    | now =>
      simp only at h
      cases hn : now P (execOp (evD L) o) with
      | none => rw [hn] at h; exact h.elim
      | some x =>
        rw [hn] at h
        cases x <;> simp only at h <;> first | exact h.elim | skip
        exact ⟨_, .inl ⟨hw, fun w' _ => by rw [exec_evD hs hok, now_run hn w']⟩, h⟩
    | pu d =>
      simp only at h
      cases hm : semV (evD L) o with
      | none => rw [hm] at h; exact h.elim
      | some s =>
        rw [hm] at h
        obtain ⟨x, hx, hkx⟩ := h
        exact ⟨_, .inl ⟨hw, fun w' _ => by rw [exec_evD hs hok, semV_exec hm, run_bind, hx w']; rfl⟩, hkx⟩
    | rd d =>
      simp only at h
      cases hm : semV (evD L) o with
      | none => rw [hm] at h; exact h.elim
      | some s =>
        rw [hm] at h
        obtain ⟨x, hx, hkx⟩ := h
        exact ⟨_, .inl ⟨hw, fun w' hS => by rw [exec_evD hs hok, semV_exec hm, run_bind, hx w' hS]; rfl⟩, hkx⟩
    | _ => exact h.elim
def mem (i : Nat) : List Nat → Bool
  | [] => false
  | j :: r => match Nat.beq i j with
    | true => true
    | false => mem i r
theorem mem_mem {i : Nat} : ∀ {l : List Nat}, mem i l = true → i ∈ l
  | [], h => by cases h
  | j :: r, h => by
    simp only [mem] at h
    cases hb : Nat.beq i j with
    | true => exact List.mem_cons.2 (.inl (Nat.eq_of_beq_eq_true hb))
    | false => rw [hb] at h; exact List.mem_cons.2 (.inr (mem_mem h))

def liftD (P : Program) (n : Nat) (ops : Array Oper) (S : World → Prop) : Plan → Nat → Array Bool → Env → (Env → World → Prop) → World → Prop
  | .done, _, b, L, K, w => match Region.ready .any ops b with
    | [] => K L w
    | _ => False
  | .op _ _ _, 0, _, _, _, _ => False
  | .op i t p, f + 1, b, L, K, w => match ops[i]? with
    | none => False
    | some o => match gd ops o L with
      | some true => match t.early with
        | true => match Region.free .any ops b i with
          | true => match mem i (Region.ready .any ops b) with
            | true => earlyK P n S o t L (fun v w' => liftD P n ops S p f (b.setIfInBounds i true) (push n o.dst v L) K w') w
            | false => False
          | false => False
        | false => match Region.ready .any ops b with
          | [j] => match Nat.beq i j with
            | true => opK P n o t L (fun v w' => S w' ∧ liftD P n ops S p f (b.setIfInBounds i true) (push n o.dst v L) K w') w
            | false => False
          | _ => False
      | _ => False
  | .skip _ _, 0, _, _, _, _ => False
  | .skip i p, f + 1, b, L, K, w => match ops[i]? with
    | none => False
    | some o => match gd ops o L with
      | some false => match Region.free .any ops b i with
        | true => match mem i (Region.ready .any ops b) with
          | true => match dstOk n o.dst with
            | true => liftD P n ops S p f (b.setIfInBounds i true) (push n o.dst undef L) K w
            | false => False
          | false => False
        | false => False
      | _ => False
  | .split j p q, f, b, L, K, w => match slotOf ops j with
    | none => False
    | some t => match find L t with
      | some (.bool c) => Cd c (liftD P n ops S p f b ((t, .bool true) :: L) K w) (liftD P n ops S q f b ((t, .bool false) :: L) K w)
      | _ => False
  | .fork2 .., 0, _, _, _, _ => False
  | .fork2 i t p j u q, f + 1, b, L, K, w => match Region.ready .any ops b with
    | [i', j'] => match Nat.beq i i', Nat.beq j j' with
      | true, true => (match ops[i]? with
          | some o => match gd ops o L with
            | some true => opK P n o t L (fun v w' => S w' ∧ liftD P n ops S p f (b.setIfInBounds i true) (push n o.dst v L) K w') w
            | _ => False
          | _ => False) ∧
          (match ops[j]? with
          | some o => match gd ops o L with
            | some true => opK P n o u L (fun v w' => S w' ∧ liftD P n ops S q f (b.setIfInBounds j true) (push n o.dst v L) K w') w
            | _ => False
          | _ => False)
      | _, _ => False
    | _ => False
theorem opK_dst {P : Program} {n : Nat} {o : Oper} {t : Tag} {L : Env} {k : Value → World → Prop} {w : World} (h : opK P n o t L k w) : ∀ t, o.dst = some t → t < n := by
  unfold opK at h
  cases hok : okOp n o L with
  | false => rw [hok] at h; exact h.elim
  | true => exact (okOp_parts hok).2.2
theorem earlyK_dst {P : Program} {n : Nat} {S : World → Prop} {o : Oper} {t : Tag} {L : Env} {k : Value → World → Prop} {w : World} (h : earlyK P n S o t L k w) : ∀ t, o.dst = some t → t < n := by
  unfold earlyK at h
  cases hok : okOp n o L with
  | false => rw [hok] at h; exact h.elim
  | true => exact (okOp_parts hok).2.2
theorem opK_mono {P : Program} {n : Nat} {o : Oper} {t : Tag} {L : Env} {k k' : Value → World → Prop} {w : World} (h : opK P n o t L k w) (hk : ∀ v w, k v w → k' v w) : opK P n o t L k' w := by
  unfold opK at *
  cases hok : okOp n o L with
  | false => rw [hok] at h; exact h.elim
  | true =>
    rw [hok] at h; simp only at h ⊢
    have hcl : ∀ {f : FuncId} {args : Array Value} {d : Sh} {w1 : World}, Cl P f args d (fun x w' => k (d.enc x) w') w1 → Cl P f args d (fun x w' => k' (d.enc x) w') w1 :=
      fun hc => Calls.mono hc fun e w' ⟨x, he, hx⟩ => ⟨x, he, hk _ _ hx⟩
    cases t with
    | now => simp only at h ⊢; split <;> simp_all
    | pu d => simp only at h ⊢; split at h <;> first | exact h.elim | (obtain ⟨x, hx, hkx⟩ := h; exact ⟨x, hx, hk _ _ hkx⟩)
    | rd d => simp only at h ⊢; split at h <;> first | exact h.elim | (obtain ⟨x, hx, hkx⟩ := h; exact ⟨x, hx, hk _ _ hkx⟩)
    | wr d => simp only at h ⊢; split at h <;> first | exact h.elim | (obtain ⟨x, w', hx, hkx⟩ := h; exact ⟨x, w', hx, hk _ _ hkx⟩)
    | wu => simp only at h ⊢; split at h <;> first | exact h.elim | (obtain ⟨w', hx, hkx⟩ := h; exact ⟨w', hx, hk _ _ hkx⟩)
    | cl d => simp only at h ⊢; split at h <;> first | exact h.elim | exact hcl h
    | nx d =>
      simp only at h ⊢
      rcases h with ⟨x, w', hx, hkx⟩ | ⟨f, args, w', hx, hc⟩ | ⟨r, args, w', hx, hc⟩
      · exact .inl ⟨x, w', hx, hk _ _ hkx⟩
      · exact .inr (.inl ⟨f, args, w', hx, hcl hc⟩)
      · exact .inr (.inr ⟨r, args, w', hx, Rows.mono hc fun v w'' ⟨y, hy, hky⟩ => ⟨y, hy, hk _ _ hky⟩⟩)
/-- an operation that comes up -/
theorem opK_any {P : Program} {n : Nat} {ops : Array Oper} {S : World → Prop} {Q : Exit → Act → World → Prop} {i : Nat} {o : Oper} {t : Tag} {L : Env} {a : Act} {w : World}
    {k : Env → World → Prop} {K : Act → World → Prop} (ho : ops[i]? = some o) (hs : Slots n a L) (hg : gd ops o L = some true)
    (h : opK P n o t L (fun v w' => S w' ∧ k (push n o.dst v L) w') w) (hk : ∀ a L w, Slots n a L → k L w → K a w) :
    wpOp P ops Q i (fun a' w' => S w' ∧ K a' w') a w := by
  unfold wpOp
  simp only [ho, gd_wanted hs hg, if_true]
  exact .inl (opK_sound hs h fun v w' hv => ⟨hv.1, hk _ _ _ (hs.put o.dst v (opK_dst h)) hv.2⟩)
theorem liftD_sound {P : Program} {n : Nat} {ops : Array Oper} {S : World → Prop} {Q : Exit → Act → World → Prop} (hsel : Region.noSelect ops = true)
    (hQ : ∀ c a w, ¬ Q (.panic c) a w) :
    ∀ (p : Plan) (f : Nat) (b : Array Bool) (L : Env) (K : Env → World → Prop) (a : Act) (w : World), S w → Slots n a L → liftD P n ops S p f b L K w →
      (∀ a L w, Slots n a L → K L w → Q .normal a w) → wpAnyH P .any ops Q S f b a w := by
  intro p
  induction p with
  | done =>
    intro f b L K a w hS hs h hq
    simp only [liftD] at h
    cases hr : Region.ready .any ops b with
    | cons x xs => rw [hr] at h; exact h.elim
    | nil => rw [hr] at h; exact wpAnyH_done hr (hq _ _ _ hs h) f
  | op i t p ih =>
    intro f b L K a w hS hs h hq
    cases f with
    | zero => simp only [liftD] at h
    | succ f =>
      simp only [liftD] at h
      cases ho : ops[i]? with
      | none => rw [ho] at h; exact h.elim
      | some o =>
        rw [ho] at h; simp only at h
        cases hg : gd ops o L with
        | none => rw [hg] at h; exact h.elim
        | some g =>
          rw [hg] at h
          cases g <;> simp only at h
          cases he : t.early with
          | true =>
            rw [he] at h; simp only at h
            cases hfr : Region.free .any ops b i with
            | false => rw [hfr] at h; exact h.elim
            | true =>
              rw [hfr] at h; simp only at h
              cases hm : mem i (Region.ready .any ops b) with
              | false => rw [hm] at h; exact h.elim
              | true =>
                rw [hm] at h; simp only at h
                obtain ⟨v, hy, hv⟩ := earlyK_sound hs (gd_wanted hs hg) h
                refine wpAnyH_take ho hsel hfr (by simpa using mem_mem hm) (fun c a w hc => (hQ _ _ _ hc).elim) hy hS ?_
                exact ih f _ _ K _ w hS (hs.put o.dst v (earlyK_dst h)) hv hq
          | false =>
            rw [he] at h; simp only at h
            cases hr : Region.ready .any ops b with
            | nil => rw [hr] at h; exact h.elim
            | cons j r =>
              rw [hr] at h
              cases r with
              | cons _ _ => exact h.elim
              | nil =>
                simp only at h
                cases hb : Nat.beq i j with
                | false => rw [hb] at h; exact h.elim
                | true =>
                  rw [hb] at h; simp only at h
                  have e : i = j := Nat.eq_of_beq_eq_true hb
                  subst e
                  refine wpAnyH_all hr (by simp) fun x hx => ?_
                  obtain rfl := List.mem_singleton.1 hx
                  have h' := opK_any (S := fun w' => S w') (k := fun L' w' => S w' ∧ liftD P n ops S p f (b.setIfInBounds x true) L' K w') (Q := Q) (K := fun a' w' => wpAnyH P .any ops Q S f (b.setIfInBounds x true) a' w')
                    ho hs hg (by
                      refine opK_mono h fun v w' hv => ⟨hv.1, hv⟩) (fun a L w hs hk => ih f _ _ K _ w hk.1 hs hk.2 hq)
                  exact h'
  | skip i p ih =>
    intro f b L K a w hS hs h hq
    cases f with
    | zero => simp only [liftD] at h
    | succ f =>
      simp only [liftD] at h
      cases ho : ops[i]? with
      | none => rw [ho] at h; exact h.elim
      | some o =>
        rw [ho] at h; simp only at h
        cases hg : gd ops o L with
        | none => rw [hg] at h; exact h.elim
        | some g =>
          rw [hg] at h
          cases g <;> simp only at h
          cases hfr : Region.free .any ops b i with
          | false => rw [hfr] at h; exact h.elim
          | true =>
            rw [hfr] at h; simp only at h
            cases hm : mem i (Region.ready .any ops b) with
            | false => rw [hm] at h; exact h.elim
            | true =>
              rw [hm] at h; simp only at h
              cases hd : dstOk n o.dst with
              | false => rw [hd] at h; exact h.elim
              | true =>
                rw [hd] at h; simp only at h
                refine wpAnyH_take ho hsel hfr (by simpa using mem_mem hm) (fun c a w hc => (hQ _ _ _ hc).elim) (.inr ⟨gd_wanted hs hg, rfl⟩) hS ?_
                exact ih f _ _ K _ w hS (hs.put o.dst undef (fun t ht => by rw [ht] at hd; simpa [dstOk] using hd)) h hq
  | split j p q ihp ihq =>
    intro f b L K a w hS hs h hq
    simp only [liftD] at h
    cases hsl : slotOf ops j with
    | none => rw [hsl] at h; exact h.elim
    | some t =>
      rw [hsl] at h; simp only at h
      cases hf : find L t with
      | none => rw [hf] at h; exact h.elim
      | some v =>
        rw [hf] at h
        cases v <;> simp only at h <;> try exact h.elim
        rename_i c
        cases hc : c with
        | true => exact ihp f b _ K a w hS (hs.refine hf hc) (h.1 hc) hq
        | false => exact ihq f b _ K a w hS (hs.refine hf hc) (h.2 hc) hq
  | fork2 i t p j u q ihp ihq =>
    intro f b L K a w hS hs h hq
    cases f with
    | zero => simp only [liftD] at h
    | succ f =>
      simp only [liftD] at h
      cases hr : Region.ready .any ops b with
      | nil => rw [hr] at h; exact h.elim
      | cons i' r =>
        rw [hr] at h
        cases r with
        | nil => exact h.elim
        | cons j' r =>
          cases r with
          | cons _ _ => exact h.elim
          | nil =>
            simp only at h
            cases hbi : Nat.beq i i' with
            | false => rw [hbi] at h; simp only at h
            | true =>
              cases hbj : Nat.beq j j' with
              | false => rw [hbi, hbj] at h; simp only at h
              | true =>
                rw [hbi, hbj] at h; simp only at h
                have ei : i = i' := Nat.eq_of_beq_eq_true hbi
                have ej : j = j' := Nat.eq_of_beq_eq_true hbj
                subst ei ej
                obtain ⟨h1, h2⟩ := h
                refine wpAnyH_all hr (by simp) fun x hx => ?_
                have one : ∀ (y : Nat) (t : Tag) (p : Plan) (ih : ∀ (f : Nat) (b : Array Bool) (L : Env) (K : Env → World → Prop) (a : Act) (w : World), S w → Slots n a L → liftD P n ops S p f b L K w →
                    (∀ a L w, Slots n a L → K L w → Q .normal a w) → wpAnyH P .any ops Q S f b a w)
                    (h : match ops[y]? with
                      | some o => match gd ops o L with
                        | some true => opK P n o t L (fun v w' => S w' ∧ liftD P n ops S p f (b.setIfInBounds y true) (push n o.dst v L) K w') w
                        | _ => False
                      | _ => False), wpOp P ops Q y (fun a' w' => S w' ∧ wpAnyH P .any ops Q S f (b.setIfInBounds y true) a' w') a w := by
                  intro y t p ih h
                  cases ho : ops[y]? with
                  | none => rw [ho] at h; exact h.elim
                  | some o =>
                    rw [ho] at h; simp only at h
                    cases hg : gd ops o L with
                    | none => rw [hg] at h; exact h.elim
                    | some g =>
                      rw [hg] at h
                      cases g <;> simp only at h
                      exact opK_any (S := fun w' => S w') (k := fun L' w' => S w' ∧ liftD P n ops S p f (b.setIfInBounds y true) L' K w') (Q := Q) (K := fun a' w' => wpAnyH P .any ops Q S f (b.setIfInBounds y true) a' w')
                        ho hs hg (opK_mono h fun v w' hv => ⟨hv.1, hv⟩) (fun a L w hs hk => ih f _ _ K _ w hk.1 hs hk.2 hq)
                rcases List.mem_cons.1 hx with rfl | hx
                · exact one _ t p ihp h1
                · obtain rfl := List.mem_singleton.1 hx
                  exact one _ u q ihq h2
end Go.Cu
