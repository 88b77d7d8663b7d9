/- Recent: the keys, the last used first. -/
import Derived.Test.YtdnlnloogfnlgaaTrI
import Derived.Test.YtdnlnloogfnlgaaSortK
import Derived.Shelf.SlSortCmp.NoneTotal
set_option linter.all false
namespace Go.Proofs.Ytdnlnloogfnlgaa
open Go Go.Cu Go.RowKit Go.Proofs
set_option linter.unusedVariables false
set_option maxHeartbeats 4000000
def uF (x : Fd) : Int := x.2.1
abbrev FdK : Type := { x : Fd × Path // 0 ≤ uF x.1 ∧ uF x.1 < 4611686018427387904 }
abbrev uK (x : FdK) : Int := uF x.1.1
instance : Inhabited FdK := ⟨⟨((nilS, 0, ()), []), by decide⟩⟩
abbrev encK (x : FdK) : List Value := encAts fAts x.1.1
abbrev cfK (x y : FdK) : Int := uK y - uK x
theorem swoK : Sort.SWO (ltOf cfK) where
  irrefl x := by unfold ltOf cfK; simp
  trans x y z h1 h2 := by unfold ltOf cfK at *; simp at *; omega
  ntrans x y z h1 h2 := by unfold ltOf cfK at *; simp at *; omega
theorem cmp_ok (x y : FdK) (W : World) : Calls Try.prog 49 #[.agg (encK x).toArray, .agg (encK y).toArray] W fun e w' => e = .returned (.int .i64 (cfK x y)) ∧ ∃ q os', w' = Sort.grow (W.drewN q) os' := by
  refine trie_Trie_Recent_1.run _ x.1.1 y.1.1 W ?_
  unfold trie_Trie_Recent_1.M
  refine ⟨_, W.alloc (.cells (encK x).toArray 89), rfl, ?_⟩
  refine ⟨_, (W.alloc (.cells (encK x).toArray 89)).alloc (.cells (encK y).toArray 89), rfl, ?_⟩
  have h1 : Has (W.alloc (.cells (encK x).toArray 89)) W.heap.size (encK x) 89 := Has.alloc W _ _
  have h2 : Has ((W.alloc (.cells (encK x).toArray 89)).alloc (.cells (encK y).toArray 89)) (W.alloc (.cells (encK x).toArray 89)).heap.size (encK y) 89 := Has.alloc _ _ _
  have h1' := h1.ex (Ex.alloc _ (.cells (encK y).toArray 89))
  refine Rd_has (c := .int .i64) (x := uK y) h2 (by kernel_rfl) rfl ?_
  refine Rd_has (c := .int .i64) (x := uK x) h1' (by kernel_rfl) rfl ?_
  have hx : 0 ≤ uK x ∧ uK x < 4611686018427387904 := x.2
  have hy : 0 ≤ uK y ∧ uK y < 4611686018427387904 := y.2
  refine ⟨by rw [wrap64 (by omega) (by omega)], 0, #[.cells (encK x).toArray 89, .cells (encK y).toArray 89], ?_⟩
  rw [Sort.alloc_eq_grow, Sort.alloc_eq_grow, Sort.grow_grow]
  rfl
theorem desc_unique (u : Path → Int) : ∀ l m : List Path, l.Pairwise (fun a b => u b < u a) → m.Pairwise (fun a b => u b < u a) → (∀ x, x ∈ l ↔ x ∈ m) → l = m
  | [], [], _, _, _ => rfl
  | [], y :: m, _, _, h => by have := (h y).2 (by simp); simp at this
  | x :: l, [], _, _, h => by have := (h x).1 (by simp); simp at this
  | x :: l, y :: m, h1, h2, h => by
    rw [List.pairwise_cons] at h1 h2
    have hxy : x = y := by
      rcases List.mem_cons.1 ((h x).1 (by simp)) with e | e
      · exact e
      · rcases List.mem_cons.1 ((h y).2 (by simp)) with e' | e'
        · exact e'.symm
        · have := h1.1 y e'; have := h2.1 x e; omega
    subst hxy
    rw [desc_unique u l m h1.2 h2.2 fun z => ?_]
    constructor
    · intro hz
      rcases List.mem_cons.1 ((h z).1 (by simp [hz])) with e | e
      · have := h1.1 z hz; rw [e] at this; omega
      · exact e
    · intro hz
      rcases List.mem_cons.1 ((h z).2 (by simp [hz])) with e | e
      · have := h2.1 z hz; rw [e] at this; omega
      · exact e
theorem aggF : ∀ w, (isAgg 89).run Try.prog w = .ok true w := fun w => (run_isAgg_agg (n := 2) (by kernel_rfl) w).1
theorem sizF : ∀ w, (Go.sizeOf 89).run Try.prog w = .ok 2 w := fun w => Go.Cu.run_sizeOf (n := 2) (by kernel_rfl) w
/-- what was found, with its keys: sorted by the library -/
theorem sortF_ok (base : Nat) (s : Sl) (w : World) (d : List FdK) (hl : d.length ≤ 1024) (ho : OwnA fAts 89 base w s (d.map (·.1.1))) (hk : ∀ x ∈ d, Own i64v 3 base w x.1.1.1 x.1.2 ∧ ∀ b, SlIn x.1.1.1 b → ¬ SlIn s b) :
    Calls Try.prog 48 #[slv s, .func (.func 49) #[] #[]] w fun en w' => ∃ d' : List FdK, en = .returned (.tuple #[]) ∧ FoundAt base w' s (d'.map fun x => (x.1.2, uK x)) ∧ Mo (SlIn s) w w' ∧ d'.Perm d ∧ d'.Pairwise (fun a b => uK b ≤ uK a) := by
  have found : ∀ (w' : World) (d' : List FdK), d'.Perm d → OwnA fAts 89 base w' s (d'.map (·.1.1)) → Mo (SlIn s) w w' → FoundAt base w' s (d'.map fun x => (x.1.2, uK x)) := by
    intro w' d' hp ho' hm
    refine ⟨d'.map (·.1.1), ho', by simp, fun i e k he hk' => ?_⟩
    rw [List.getElem?_map] at he hk'
    cases hd : d'[i]? with
    | none => rw [hd] at he; cases he
    | some x =>
      rw [hd] at he hk'
      cases he; cases hk'
      obtain ⟨g1, g2⟩ := hk x (hp.mem_iff.1 (List.mem_of_getElem? hd))
      exact ⟨rfl, g1.mo hm g2, g2⟩
  cases hb : s.base with
  | none =>
    have hd0 : d = [] := by
      cases d with
      | nil => rfl
      | cons y r => obtain ⟨a, ha, _⟩ := ho.rda.2.2 0 y.1.1 rfl; rw [hb] at ha; cases ha
    have hs0 : s.len = 0 := by rw [ho.1, hd0]; rfl
    have := AnyF.slices_SortFunc_none Try.sortFound s.base s.cap (.func (.func 49) #[] #[]) w
    rw [← hs0] at this
    refine this.mono ?_
    rintro e w' ⟨rfl, rfl⟩
    exact ⟨d, rfl, found w' d (List.Perm.refl _) ho (Mo.refl _ _), Mo.refl _ _, List.Perm.refl _, by rw [hd0]; exact List.Pairwise.nil⟩
  | some a =>
    have hflat : ∀ l : List FdK, l.flatMap encK = (l.map (·.1.1)).flatMap (encAts fAts) := fun l => by rw [List.flatMap_map]
    have hlen : ∀ x : FdK, (encK x).length = fAts.length := fun x => encAts_len fAts x.1.1
    obtain ⟨g, rfl, hH, hg⟩ := ho.holds (hflat d) hlen hb
    have := AnyQ.slices_SortFunc Try.sortFound 2 aggF sizF encK hlen (fun x => fd_one x.1.1) cfK swoK 49 #[] g 0 s.cap d.toArray w (enters_of Try.func49 (by kernel_rfl) rfl) (fun m os dk hdk x y => cmp_ok x y _) hH hg (by simp; omega)
    have hsz : d.toArray.size = s.len := by rw [ho.1]; simp
    rw [hsz, ← hb] at this
    refine this.mono ?_
    rintro e w' ⟨rfl, d', n, os, hperm, hsort, rfl⟩
    obtain ⟨p1, _, p3⟩ := hperm
    have hps : d'.size = d.length := by rw [p1]; simp
    have hp : d'.toList.Perm d := by
      have e1 : (d'.extract 0 s.len).toList = d'.toList := by rw [← hsz, ← p1]; simp
      have e2 : (d.toArray.extract 0 s.len).toList = d := by rw [← hsz]; simp
      rwa [e1, e2] at p3
    have hd' : d'.toList.toArray = d' := by simp
    obtain ⟨h1, h2⟩ := ho.put (d := d'.toList) (l' := d'.toList.map (·.1.1)) hb (by simp [hps]) (hflat _) hlen n os
    rw [hd'] at h1 h2
    refine ⟨d'.toList, rfl, found _ _ hp h1 h2, h2, hp, ?_⟩
    rw [List.pairwise_iff_getElem]
    intro i j hi hj hij
    have hi' : i < d'.size := by simpa using hi
    have hj' : j < d'.size := by simpa using hj
    have := hsort i j (Nat.zero_le _) hij (by rw [← hsz]; simp; omega)
    rw [getElem!_pos d' i hi', getElem!_pos d' j hj'] at this
    unfold ltOf at this
    have := of_decide_eq_false this
    simp only [Array.getElem_toList]
    have h5 : ¬ (uK d'[i] - uK d'[j] < 0) := this
    omega
theorem recent_ok {w : World} {own : Nat → Prop} {tb : Nat} {lim clock : Int} {es : List Ent} (h : TrieSt w own tb lim es clock) (hc : clock < 4611686018427387904) :
    Calls Try.prog 23 #[.pointer (some ⟨tb, 0, none⟩)] w fun en w' => ∃ s', en = .returned (slv s') ∧ NestOwn i64v 3 29 w.heap.size w' s' (es.map (·.1)) ∧ Ex w w' := by
  obtain ⟨vown, ns, y, hm, he⟩ := h
  refine trie_Trie_Recent.run _ _ w ?_
  unfold trie_Trie_Recent.M
  refine Pu_eqnil tT ?_
  refine Cd_f ?_
  refine Pu_nil ?_
  refine Rd_has hm.top (by kernel_rfl) rfl ?_
  refine Pu_eqnil tN ?_
  unfold trie_Trie_Recent.j1
  refine Cd_f ?_
  refine Pu_nil ?_
  refine Rd_has hm.top (by kernel_rfl) rfl ?_
  refine Calls.mono (walk_ok w.heap.size (fun b hb => hm.ownL b hb) he.cap he.lens he.kids 300 [] nilS nilS [] w hm hm.root (fun x hx _ => by have := he.lens x hx; simp; omega) ⟨Rds.nil _ _, fun a ha => (by cases ha), FoundAt.nil _ _, Nat.le_refl _, List.nodup_nil, fun k hk => by simp at hk⟩) ?_
  rintro en w1 ⟨s1, out, rfl, hf1, hmo1, _, hL⟩
  refine ⟨s1, rfl, ?_⟩
  have hx1 : Ex w w1 := hmo1.new (fun i ⟨a, ha, _⟩ => by cases ha)
  rw [List.nil_append] at hf1
  obtain ⟨hlen, hkl⟩ := hL.len he
  have hku := hL.keys he
  obtain ⟨fs, f1, f2, f3⟩ := hf1
  -- each with its key
  have husedr : ∀ k u, (k, u) ∈ out → u = y.used k ∧ 0 ≤ u ∧ u < 4611686018427387904 := by
    intro k u hk
    obtain ⟨g1, _, g3, rfl⟩ := (hL.mem k u).1 hk
    obtain ⟨e, hee, rfl⟩ := (he.here k g1).1 g3
    have := he.pos e hee
    have := he.clk e hee
    exact ⟨rfl, by omega, by omega⟩
  have hz : ∀ q ∈ fs.zip (out.map (·.1)), 0 ≤ uF q.1 ∧ uF q.1 < 4611686018427387904 := by
    intro q hq
    obtain ⟨i, hi⟩ := List.getElem?_of_mem hq
    rw [List.getElem?_zip_eq_some, List.getElem?_map] at hi
    obtain ⟨h1, h2⟩ := hi
    cases ho : out[i]? with
    | none => rw [ho] at h2; cases h2
    | some k =>
      obtain ⟨kk, u⟩ := k
      have hu := (f3 i q.1 (kk, u) h1 ho).1
      have := husedr kk u (List.mem_of_getElem? ho)
      have hu' : uF q.1 = u := hu
      omega
  have hd1 : ((fs.zip (out.map (·.1))).pmap (fun q hq => (⟨q, hq⟩ : FdK)) hz).map (·.1.1) = fs := by
    rw [List.map_pmap]
    simp only [List.pmap_eq_map]
    rw [List.map_fst_zip]
    simp [f2]
  have hd2 : ((fs.zip (out.map (·.1))).pmap (fun q hq => (⟨q, hq⟩ : FdK)) hz).map (·.1.2) = out.map (·.1) := by
    rw [List.map_pmap]
    simp only [List.pmap_eq_map]
    rw [List.map_snd_zip]
    simp [f2]
  have hpair : ∀ x ∈ (fs.zip (out.map (·.1))).pmap (fun q hq => (⟨q, hq⟩ : FdK)) hz, (Own i64v 3 w.heap.size w1 x.1.1.1 x.1.2 ∧ ∀ b, SlIn x.1.1.1 b → ¬ SlIn s1 b) ∧ uK x = y.used x.1.2 := by
    intro x hx
    obtain ⟨q, hq, rfl⟩ := List.mem_pmap.1 hx
    obtain ⟨i, hi⟩ := List.getElem?_of_mem hq
    rw [List.getElem?_zip_eq_some, List.getElem?_map] at hi
    obtain ⟨h1, h2⟩ := hi
    cases ho : out[i]? with
    | none => rw [ho] at h2; cases h2
    | some k =>
      obtain ⟨kk, u⟩ := k
      rw [ho] at h2
      have h2 : q.2 = kk := by simpa using h2.symm
      obtain ⟨g1, g2, g3⟩ := f3 i q.1 (kk, u) h1 ho
      have hu := (husedr kk u (List.mem_of_getElem? ho)).1
      have g1 : uF q.1 = u := g1
      refine ⟨⟨?_, g3⟩, ?_⟩
      · show Own i64v 3 w.heap.size w1 q.1.1 q.2
        rw [h2]; exact g2
      · show uF q.1 = y.used q.2
        rw [g1, h2]; exact hu
  generalize (fs.zip (out.map (·.1))).pmap (fun q hq => (⟨q, hq⟩ : FdK)) hz = d at hd1 hd2 hpair
  have hdl : d.length ≤ 1024 := by have := congrArg List.length hd2; simp at this; omega
  refine Calls.mono (sortF_ok w.heap.size s1 w1 d hdl (by rw [hd1]; exact f1) (fun x hx => (hpair x hx).1)) ?_
  rintro en w2 ⟨d', rfl, hf2, hmo2, hperm, hsort⟩
  refine ⟨(), rfl, ?_⟩
  have hx2 : Ex w w2 := hx1.into hmo2 (fun b hb => (f1.base b hb).1)
  have hk' : (d'.map fun x => (x.1.2, uK x)).map (·.1) = es.map (·.1) := by
    rw [List.map_map]
    have hkeys : ∀ k, k ∈ d'.map ((fun x : Path × Int => x.1) ∘ fun x : FdK => (x.1.2, uK x)) ↔ k ∈ es.map (·.1) := by
      intro k
      have e1 : (d'.map ((fun x : Path × Int => x.1) ∘ fun x : FdK => (x.1.2, uK x))).Perm (out.map (·.1)) := by
        rw [← hd2]; exact hperm.map _
      rw [e1.mem_iff, hku.mem]
      simp [List.nil_prefix]
    have hnd : (d'.map ((fun x : Path × Int => x.1) ∘ fun x : FdK => (x.1.2, uK x))).Nodup := by
      have e1 : (d'.map ((fun x : Path × Int => x.1) ∘ fun x : FdK => (x.1.2, uK x))).Perm (out.map (·.1)) := by
        rw [← hd2]; exact hperm.map _
      exact e1.nodup_iff.2 hL.nodup
    have hinj : ∀ a ∈ es.map (·.1), ∀ b ∈ es.map (·.1), y.used a = y.used b → a = b := by
      intro a ha b hb hab
      obtain ⟨i, hi⟩ := List.getElem?_of_mem ha
      obtain ⟨j, hj⟩ := List.getElem?_of_mem hb
      have ho : (es.map (·.1)).Pairwise (fun a b => y.used b < y.used a) := by rw [List.pairwise_map]; exact he.order
      have hil := (List.getElem?_eq_some_iff.1 hi).1
      have hjl := (List.getElem?_eq_some_iff.1 hj).1
      have hie := (List.getElem?_eq_some_iff.1 hi).2
      have hje := (List.getElem?_eq_some_iff.1 hj).2
      rcases Nat.lt_trichotomy i j with g | g | g
      · have := List.pairwise_iff_getElem.1 ho i j hil hjl g; rw [hie, hje] at this; omega
      · subst g; rw [← hie, ← hje]
      · have := List.pairwise_iff_getElem.1 ho j i hjl hil g; rw [hie, hje] at this; omega
    refine desc_unique y.used _ _ ?_ (by rw [List.pairwise_map]; exact he.order) hkeys
    rw [List.pairwise_map]
    have hnd2 := hnd
    unfold List.Nodup at hnd2
    rw [List.pairwise_map] at hnd2
    refine List.Pairwise.imp_of_mem ?_ (hsort.and hnd2)
    intro a b ha hb hab
    have hua := (hpair a (hperm.mem_iff.1 ha)).2
    have hub := (hpair b (hperm.mem_iff.1 hb)).2
    show y.used b.1.2 < y.used a.1.2
    have h1 : y.used b.1.2 ≤ y.used a.1.2 := by rw [← hua, ← hub]; exact hab.1
    have hne : y.used b.1.2 ≠ y.used a.1.2 := fun e => hab.2 (hinj _ ((hkeys _).1 (List.mem_map.2 ⟨a, ha, rfl⟩)) _ ((hkeys _).1 (List.mem_map.2 ⟨b, hb, rfl⟩)) e.symm)
    omega
  refine Calls.mono (keys_nest _ s1 _ w2 hf2 (by rw [List.length_map, hperm.length_eq]; exact hdl) (fun k hk => ?_)) ?_
  · have : k.1 ∈ es.map (·.1) := by rw [← hk']; exact List.mem_map.2 ⟨k, hk, rfl⟩
    obtain ⟨e, hee, hek⟩ := List.mem_map.1 this
    rw [← hek]
    exact he.lens _ (he.rows e hee).1
  · rintro en w3 ⟨s3, rfl, hn3, hx3⟩
    rw [hk'] at hn3
    exact ⟨s3, rfl, s3, rfl, hn3.weak hx2.size, hx2.trans hx3⟩
end Go.Proofs.Ytdnlnloogfnlgaa
