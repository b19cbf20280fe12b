/- Calls: a contract is used at a call; its objects are the caller's under other numbers. No program in sight. -/
import Derived.Test.YtlgaegjlgabggaaGreatXF
namespace Go.X
open Go

mutual
def V.ren (s : Nat → Nat) : V → V
  | .v x => .v x
  | .ints k n xs => .ints k n xs
  | .agg fs => .agg (V.rens s fs)
  | .sli k xs => .sli k xs
  | .sl es => .sl es
  | .ptr k o => .ptr (s k) o
  | .ptrE k b i => .ptrE (s k) b i
  | .osl k o n z c => .osl (s k) o n z c
  | .dptr x => .dptr x
  | .fn f a c => .fn f (V.rens s a) (V.rens s c)
  | .tup l => .tup (V.rens s l)
  | .unk => .unk
def V.rens (s : Nat → Nat) : List V → List V
  | [] => []
  | x :: r => V.ren s x :: V.rens s r
end

theorem rens_get (s : Nat → Nat) : ∀ (l : List V) (i : Nat), (V.rens s l)[i]? = (l[i]?).map (V.ren s)
  | [], i => by simp [V.rens]
  | x :: r, 0 => by simp [V.rens]
  | x :: r, i + 1 => by simp only [V.rens, List.getElem?_cons_succ]; exact rens_get s r i
theorem rens_length (s : Nat → Nat) : ∀ l : List V, (V.rens s l).length = l.length
  | [] => rfl
  | x :: r => by simp only [V.rens, List.length_cons, rens_length s r]
theorem rens_append (s : Nat → Nat) : ∀ a b : List V, V.rens s (a ++ b) = V.rens s a ++ V.rens s b
  | [], _ => rfl
  | x :: r, b => by simp only [List.cons_append, V.rens, rens_append s r b]
theorem rens_ints (s : Nat → Nat) (k : IntKind) : ∀ xs : List Int, V.rens s (xs.map fun x => V.v (.int k x)) = xs.map fun x => V.v (.int k x)
  | [] => rfl
  | x :: xs => by simp only [List.map_cons, V.rens, V.ren, rens_ints s k xs]
mutual
theorem flat_ren (s : Nat → Nat) : ∀ x : V, V.flat (V.ren s x) = V.rens s (V.flat x)
  | .ints k n xs => by simp only [V.ren, V.flat, rens_ints]
  | .agg fs => by simp only [V.ren, V.flat]; exact flats_rens s fs
  | .v _ | .sli _ _ | .sl _ | .ptr _ _ | .ptrE _ _ _ | .osl _ _ _ _ _ | .dptr _ | .fn _ _ _ | .tup _ | .unk => rfl
theorem flats_rens (s : Nat → Nat) : ∀ l : List V, V.flats (V.rens s l) = V.rens s (V.flats l)
  | [] => rfl
  | x :: r => by simp only [V.rens, V.flats, rens_append, flat_ren s x, flats_rens s r]
end
mutual
theorem size_ren (s : Nat → Nat) : ∀ x : V, V.size (V.ren s x) = V.size x
  | .agg fs => by simp only [V.ren, V.size]; exact sizes_rens s fs
  | .ints _ _ _ | .v _ | .sli _ _ | .sl _ | .ptr _ _ | .ptrE _ _ _ | .osl _ _ _ _ _ | .dptr _ | .fn _ _ _ | .tup _ | .unk => rfl
theorem sizes_rens (s : Nat → Nat) : ∀ l : List V, V.sizes (V.rens s l) = V.sizes l
  | [] => rfl
  | x :: r => by simp only [V.rens, V.sizes, size_ren s x, sizes_rens s r]
end
mutual
theorem ok_ren (s : Nat → Nat) : ∀ x : V, V.ok (V.ren s x) ↔ V.ok x
  | .agg fs => by simp only [V.ren, V.ok]; exact oks_rens s fs
  | .ints _ _ _ | .v _ | .sli _ _ | .sl _ | .ptr _ _ | .ptrE _ _ _ | .osl _ _ _ _ _ | .dptr _ | .fn _ _ _ | .tup _ | .unk => Iff.rfl
theorem oks_rens (s : Nat → Nat) : ∀ l : List V, V.oks (V.rens s l) ↔ V.oks l
  | [] => Iff.rfl
  | x :: r => by simp only [V.rens, V.oks, ok_ren s x, oks_rens s r]
end

theorem RepL.rens {R S : V → Value → Prop} {s : Nat → Nat} {xs : List V} {us : List Value} (h : RepL R xs us) (hrs : ∀ x u, R x u → S (V.ren s x) u) : RepL S (V.rens s xs) us :=
  ⟨by rw [rens_length]; exact h.1, fun i x hx => by
    rw [rens_get, Option.map_eq_some_iff] at hx
    obtain ⟨y, hy, rfl⟩ := hx
    obtain ⟨u, h1, h2⟩ := h.2 i y hy
    exact ⟨u, h1, hrs _ _ h2⟩⟩
theorem RepL.rens_from {R S : V → Value → Prop} {s : Nat → Nat} {xs : List V} {us : List Value} (h : RepL R (V.rens s xs) us) (hrs : ∀ (i : Nat) x u, xs[i]? = some x → R (V.ren s x) u → S x u) : RepL S xs us :=
  ⟨by have := h.1; rwa [rens_length] at this, fun i x hx => by
    obtain ⟨u, h1, h2⟩ := h.2 i (V.ren s x) (by rw [rens_get, hx]; rfl)
    exact ⟨u, h1, hrs i _ _ hx h2⟩⟩

section
variable {imm : Imm} {env1 env2 : Env} {w : World} {s : Nat → Nat}
theorem Rep0.to (he : ∀ j r, env1 j = some r → env2 (s j) = some r) {x : V} {u : Value} (h : Rep0 imm env1 w x u) : Rep0 imm env2 w (V.ren s x) u := by
  cases x <;> simp only [Rep0, V.ren] at h ⊢ <;> first
    | exact h
    | (obtain ⟨r, hr, h⟩ := h; exact ⟨r, he _ _ hr, h⟩)
    | cases h
theorem Rep1.to (he : ∀ j r, env1 j = some r → env2 (s j) = some r) {x : V} {u : Value} (h : Rep1 imm env1 w x u) : Rep1 imm env2 w (V.ren s x) u := by
  cases x <;> simp only [Rep1] at h <;> first
    | exact Rep0.to he h
    | (obtain ⟨as, cs, h1, h2, h3⟩ := h; exact ⟨as, cs, h1, h2.rens fun _ _ => Rep0.to he, h3.rens fun _ _ => Rep0.to he⟩)
theorem RepC.to (he : ∀ j r, env1 j = some r → env2 (s j) = some r) {x : V} {u : Value} (h : RepC imm env1 w x u) : RepC imm env2 w (V.ren s x) u := by
  cases x <;> simp only [RepC] at h <;> first
    | exact Rep1.to he h
    | exact h
    | (obtain ⟨h1, arr, h2, h3⟩ := h
       exact ⟨(oks_rens s _).2 h1, arr, h2, by rw [flats_rens]; exact h3.rens fun _ _ => Rep1.to he⟩)
theorem RepV.to (he : ∀ j r, env1 j = some r → env2 (s j) = some r) {x : V} {u : Value} (h : RepV imm env1 w x u) : RepV imm env2 w (V.ren s x) u := by
  cases x <;> simp only [RepV] at h <;> first
    | exact RepC.to he h
    | (obtain ⟨arr, h2, h3⟩ := h; exact ⟨arr, h2, h3.rens fun _ _ => RepC.to he⟩)
end

section
variable {imm : Imm} {env1 env2 : Env} {w : World} {s : Nat → Nat} {ks : List Nat}
theorem Rep0.from (he : ∀ j, ks.contains j = true → env1 j = env2 (s j)) {x : V} {u : Value} (ha : V.among ks x = true) (h : Rep0 imm env2 w (V.ren s x) u) : Rep0 imm env1 w x u := by
  cases x <;> simp only [Rep0, V.ren, V.among] at h ha ⊢ <;> first
    | exact h
    | (obtain ⟨r, hr, h⟩ := h; exact ⟨r, (he _ ha).trans hr, h⟩)
    | cases h
theorem Rep1.from (he : ∀ j, ks.contains j = true → env1 j = env2 (s j)) {x : V} {u : Value} (ha : V.among ks x = true) (h : Rep1 imm env2 w (V.ren s x) u) : Rep1 imm env1 w x u := by
  cases x <;> first
    | (simp only [V.ren, Rep1, V.among, Bool.and_eq_true] at h ha ⊢
       obtain ⟨as, cs, h1, h2, h3⟩ := h
       exact ⟨as, cs, h1, h2.rens_from fun i x u hx => Rep0.from he (amongs_mem ha.1 i x hx), h3.rens_from fun i x u hx => Rep0.from he (amongs_mem ha.2 i x hx)⟩)
    | exact Rep0.from (imm := imm) (w := w) he ha h
theorem RepC.from (he : ∀ j, ks.contains j = true → env1 j = env2 (s j)) {x : V} {u : Value} (ha : V.among ks x = true) (h : RepC imm env2 w (V.ren s x) u) : RepC imm env1 w x u := by
  cases x <;> first
    | (simp only [V.ren, RepC] at h ⊢
       obtain ⟨h1, arr, h2, h3⟩ := h
       rw [flats_rens] at h3
       exact ⟨(oks_rens s _).1 h1, arr, h2, h3.rens_from fun i x u hx => Rep1.from he (amongs_mem (amongs_flats (by simpa only [V.among] using ha)) i x hx)⟩)
    | exact h
    | exact Rep1.from (imm := imm) (w := w) he ha h
theorem RepV.from (he : ∀ j, ks.contains j = true → env1 j = env2 (s j)) {x : V} {u : Value} (ha : V.among ks x = true) (h : RepV imm env2 w (V.ren s x) u) : RepV imm env1 w x u := by
  cases x <;> first
    | (simp only [V.ren, RepV] at h ⊢
       obtain ⟨arr, h2, h3⟩ := h
       exact ⟨arr, h2, h3.rens_from fun i x u hx => RepC.from he (amongs_mem (by simpa only [V.among] using ha) i x hx)⟩)
    | exact RepC.from (imm := imm) (w := w) he ha h
end

def liv (hin : List (Nat × Ob)) : List (Nat × Option Ob) := hin.map fun p => (p.1, some p.2)
def renOb (s : Nat → Nat) (ob : Ob) : Ob := ⟨V.ren s ob.c, ob.grow⟩
def renH (s : Nat → Nat) : List (Nat × Option Ob) → List (Nat × Option Ob)
  | [] => []
  | (k, o) :: r => (s k, o.map (renOb s)) :: renH s r
def renIn (s : Nat → Nat) : List (Nat × Ob) → List (Nat × Ob)
  | [] => []
  | (k, o) :: r => (s k, renOb s o) :: renIn s r
def sub (s : List (Nat × Nat)) (k : Nat) : Nat := match look s k with | some j => j | none => k

/-- The conditions on numbers at a call. -/
structure Fits (s : Nat → Nat) (hin : List (Nat × Ob)) (args : List V) (Hout : List (Nat × Option Ob)) (fr : List Nat) : Prop where
  args : V.amongs (hin.map (·.1)) args = true
  objs : ∀ p, p ∈ hin → V.among (hin.map (·.1)) p.2.c = true
  sub : ∀ k, k ∈ hin.map (·.1) → look Hout k ≠ none
  inj : ∀ i j, look Hout i ≠ none → look Hout j ≠ none → s i = s j → i = j
  new : ∀ k, look Hout k ≠ none → k ∈ hin.map (·.1) ∨ (s k ∈ fr ∧ s k < 1000)
  nodup : ∀ k ob, (k, ob) ∈ hin → look hin k = some ob

theorem look_renH {s : Nat → Nat} : ∀ {H : List (Nat × Option Ob)} (inj : ∀ i j, look H i ≠ none → look H j ≠ none → s i = s j → i = j) {k : Nat} {o : Option Ob}, look (renH s H) k = some o → ∃ j o', s j = k ∧ look H j = some o' ∧ o = o'.map (renOb s)
  | [], _, k, o, h => by simp [renH, look] at h
  | (i, p) :: r, inj, k, o, h => by
    simp only [renH] at h
    rw [look_cons] at h
    by_cases e : s i = k
    · rw [if_pos e] at h; cases h
      exact ⟨i, p, e, by rw [look_cons, if_pos rfl], rfl⟩
    · rw [if_neg e] at h
      have key : ∀ (r : List (Nat × Option Ob)), look (renH s r) k = some o → ∃ j o', (j, o') ∈ r ∧ s j = k ∧ look r j = some o' ∧ o = o'.map (renOb s) := by
        intro r
        induction r with
        | nil => intro h; simp [renH, look] at h
        | cons q t ih =>
          intro h
          obtain ⟨q1, q2⟩ := q
          simp only [renH] at h
          rw [look_cons] at h
          by_cases e : s q1 = k
          · rw [if_pos e] at h; cases h
            exact ⟨q1, q2, .head _, e, by rw [look_cons, if_pos rfl], rfl⟩
          · rw [if_neg e] at h
            obtain ⟨j, o', h1, h2, h3, h4⟩ := ih h
            refine ⟨j, o', .tail _ h1, h2, ?_, h4⟩
            rw [look_cons, if_neg (fun e2 : q1 = j => e (by rw [e2]; exact h2))]
            exact h3
      obtain ⟨j, o', h1, h2, h3, h4⟩ := key r h
      refine ⟨j, o', h2, ?_, h4⟩
      rw [look_cons, if_neg (fun e2 : i = j => e (by rw [e2]; exact h2))]
      exact h3
theorem look_renH_none {s : Nat → Nat} : ∀ {H : List (Nat × Option Ob)} {j : Nat}, look H j ≠ none → look (renH s H) (s j) ≠ none
  | [], j, h => by simp [look] at h
  | (i, p) :: r, j, h => by
    simp only [renH]
    rw [look_cons]
    by_cases e : s i = s j
    · rw [if_pos e]; simp
    · rw [if_neg e]
      rw [look_cons, if_neg (fun e2 => e (congrArg s e2))] at h
      exact look_renH_none h
theorem look_append {α : Type} : ∀ (a b : List (Nat × α)) (k : Nat), look (a ++ b) k = match look a k with | some x => some x | none => look b k
  | [], b, k => rfl
  | (i, x) :: r, b, k => by
    rw [List.cons_append, look_cons, look_cons]
    by_cases e : i = k
    · rw [if_pos e, if_pos e]
    · rw [if_neg e, if_neg e]; exact look_append r b k
theorem look_map_some {hin : List (Nat × Ob)} {k : Nat} {o : Option Ob} : look (liv hin) k = some o → ∃ ob, o = some ob ∧ look hin k = some ob ∧ (k, ob) ∈ hin := by
  induction hin with
  | nil => intro h; simp [liv, look] at h
  | cons p r ih =>
    obtain ⟨i, q⟩ := p
    intro h
    have h' : look ((i, some q) :: liv r) k = some o := h
    rw [look_cons] at h'
    by_cases e : i = k
    · rw [if_pos e] at h'; cases h'
      exact ⟨q, rfl, by rw [look_cons, if_pos e], by rw [e]; exact .head _⟩
    · rw [if_neg e] at h'
      obtain ⟨ob, h1, h2, h3⟩ := ih h'
      exact ⟨ob, h1, by rw [look_cons, if_neg e]; exact h2, .tail _ h3⟩
theorem renIn_mem {s : Nat → Nat} : ∀ {hin : List (Nat × Ob)} {k : Nat} {ob : Ob}, (k, ob) ∈ hin → (s k, renOb s ob) ∈ renIn s hin
  | (i, q) :: r, k, ob, h => by
    cases h with
    | head => exact .head _
    | tail _ h => exact .tail _ (renIn_mem h)
theorem mem_keys {hin : List (Nat × Ob)} {k : Nat} : k ∈ hin.map (·.1) ↔ ∃ ob, (k, ob) ∈ hin := by
  constructor
  · intro h; obtain ⟨⟨a, b⟩, h1, rfl⟩ := List.mem_map.1 h; exact ⟨b, h1⟩
  · rintro ⟨ob, h⟩; exact List.mem_map.2 ⟨_, h, rfl⟩

theorem ObjAt.to {imm : Imm} {env1 env2 : Env} {w : World} {s : Nat → Nat} (he : ∀ j r, env1 j = some r → env2 (s j) = some r) {r : Ref} {ob : Ob} (h : ObjAt imm env1 w r ob) : ObjAt imm env2 w r (renOb s ob) := by
  obtain ⟨h1, h2⟩ := h
  refine ⟨(ok_ren s _).2 h1, ?_⟩
  simp only [renOb, size_ren, flat_ren]
  rcases h2 with h2 | ⟨h2, arr, h3, h4, h5, h6, h7⟩
  · exact .inl h2
  · exact .inr ⟨h2, arr, h3, h4, h5, h6, h7.rens fun _ _ => Rep1.to he⟩
theorem ObjAt.from {imm : Imm} {env1 env2 : Env} {w : World} {s : Nat → Nat} {ks : List Nat} (he : ∀ j, ks.contains j = true → env1 j = env2 (s j)) {r : Ref} {ob : Ob} (ha : V.among ks ob.c = true) (h : ObjAt imm env2 w r (renOb s ob)) : ObjAt imm env1 w r ob := by
  obtain ⟨h1, h2⟩ := h
  refine ⟨(ok_ren s _).1 h1, ?_⟩
  simp only [renOb, size_ren, flat_ren] at h2
  rcases h2 with h2 | ⟨h2, arr, h3, h4, h5, h6, h7⟩
  · exact .inl h2
  · exact .inr ⟨h2, arr, h3, h4, h5, h6, h7.rens_from fun i x u hx => Rep1.from he (amongs_mem (among_flat ha) i x hx)⟩

/-- The numbers of the callee, as it is called. -/
def Env.under (env : Env) (s : Nat → Nat) (ks : List Nat) : Env := fun j => if ks.contains j then env (s j) else none

theorem Holds.call {B : Base} {N : Nat} {imm : Imm} {env : Env} {st : St} {a : Act} {w : World} (H : Holds B N imm env st a w) {s : Nat → Nat} {hin : List (Nat × Ob)} {args : List V} {Hout : List (Nat × Option Ob)} {fr : List Nat}
    (F : Fits s hin args Hout fr) (hh : ∀ p, p ∈ renIn s hin → lookH st.H p.1 = some p.2) (hf : ∀ k, k ∈ fr → look st.H k = none) :
    HeapOk imm (env.under s (hin.map (·.1))) (liv hin) w ∧
    (∀ x u, V.among (hin.map (·.1)) x = true → RepV imm env w (V.ren s x) u → RepV imm (env.under s (hin.map (·.1))) w x u) ∧
    (∀ {out : V} {v : Value} {w' : World} {imm' : Imm} {env' : Env}, After imm (env.under s (hin.map (·.1))) w (liv hin) out Hout v w' imm' env' →
      ∃ imm'' env'', Holds B N imm'' env'' ⟨st.T, renH s Hout ++ st.H⟩ a w' ∧ RepV imm'' env'' w' (V.ren s out) v) := by
  have hu : ∀ j, (hin.map (·.1)).contains j = true → env.under s (hin.map (·.1)) j = env (s j) := fun j hj => by simp only [Env.under, hj, if_true]
  have hunder : ∀ j r, env.under s (hin.map (·.1)) j = some r → (∃ ob, (j, ob) ∈ hin) ∧ env (s j) = some r := fun j r hj => by
    unfold Env.under at hj
    split at hj
    · rename_i hc
      exact ⟨mem_keys.1 (List.contains_iff_mem.1 hc), hj⟩
    · cases hj
  have hin_look : ∀ k ob, lookH (liv hin) k = some ob → (k, ob) ∈ hin ∧ lookH st.H (s k) = some (renOb s ob) := fun k ob hk => by
    unfold lookH at hk
    cases e : look (liv hin) k with
    | none => rw [e] at hk; cases hk
    | some o =>
      obtain ⟨ob', rfl, _, h3⟩ := look_map_some e
      rw [e] at hk; simp at hk; subst hk
      exact ⟨h3, hh _ (renIn_mem h3)⟩
  have in_look : ∀ k ob, (k, ob) ∈ hin → lookH (liv hin) k = some ob := fun k ob hk => by
    have h1 := F.nodup k ob hk
    have h2 : ∀ (l : List (Nat × Ob)), look (liv l) k = (look l k).map some := by
      intro l
      induction l with
      | nil => rfl
      | cons p r ih =>
        obtain ⟨i, q⟩ := p
        show look ((i, some q) :: liv r) k = _
        rw [look_cons, look_cons]
        split
        · rfl
        · exact ih
    unfold lookH; rw [h2, h1]; rfl
  have hconts : ∀ k, (∃ ob, (k, ob) ∈ hin) → (hin.map (·.1)).contains k = true := fun k hk => List.contains_iff_mem.2 (mem_keys.2 hk)
  have sinj : ∀ i j, (∃ ob, (i, ob) ∈ hin) → (∃ ob, (j, ob) ∈ hin) → s i = s j → i = j := fun i j hi hj => F.inj i j (F.sub i (mem_keys.2 hi)) (F.sub j (mem_keys.2 hj))
  refine ⟨⟨fun k ob hk => ?_, ?_, fun k r hk => ?_, H.heap.immlt, ?_⟩, fun x u hx h => RepV.from hu hx h, ?_⟩
  · obtain ⟨h1, h2⟩ := hin_look k ob hk
    obtain ⟨r, h3, h4⟩ := H.heap.obj _ _ h2
    exact ⟨r, by rw [hu k (hconts k ⟨ob, h1⟩)]; exact h3, h4.from hu (F.objs _ h1)⟩
  · intro j k r s' o o' hj hk hr hs hn hn' e
    obtain ⟨h1, h2⟩ := hin_look j o hj
    obtain ⟨h3, h4⟩ := hin_look k o' hk
    exact sinj j k ⟨o, h1⟩ ⟨o', h3⟩ (H.heap.inj _ _ r s' _ _ h2 h4 (hunder j r hr).2 (hunder k s' hs).2 hn hn' e)
  · obtain ⟨⟨ob, h1⟩, _⟩ := hunder k r hk
    exact lookH_of_look (in_look k ob h1)
  · intro k ob r hk hr
    exact H.heap.sep _ _ r (hin_look k ob hk).2 (hunder k r hr).2
  · intro out v w' imm' env' A
    -- what may be written belongs to the caller's objects
    have hwr : ∀ b, wrOf (env.under s (hin.map (·.1))) (liv hin) b → ∃ k ob r, (k, ob) ∈ hin ∧ lookH st.H (s k) = some (renOb s ob) ∧ env (s k) = some r ∧ r.nil = false ∧ r.blk = b := by
      rintro b ⟨k, ob, r, h1, h2, h3, h4⟩
      obtain ⟨h5, h6⟩ := hin_look k ob h1
      exact ⟨k, ob, r, h5, h6, (hunder k r h2).2, h3, h4⟩
    have himm : ∀ b, imm b → w'.heap[b]? = w.heap[b]? := fun b hb => A.keep.block b (H.heap.immlt b hb) fun hw => by
      obtain ⟨k, ob, r, _, h2, h3, h4, rfl⟩ := hwr b hw
      exact H.heap.sep _ _ r h2 h3 h4 hb
    have hother : ∀ k ob r, lookH st.H k = some ob → env k = some r → r.nil = false → (∀ j o, (j, o) ∈ hin → s j ≠ k) → ¬ wrOf (env.under s (hin.map (·.1))) (liv hin) r.blk := by
      intro k ob r hk hr hn hne hw
      obtain ⟨j, o, r2, h1, h2, h3, h4, h5⟩ := hwr _ hw
      exact hne j o h1 (H.heap.inj _ _ r2 r _ _ h2 hk h3 hr h4 hn h5)
    classical
    let env'' : Env := fun k => match env k with | some r => some r | none => if h : ∃ j r, s j = k ∧ env' j = some r then some (Classical.choose (Classical.choose_spec h)) else none
    have domenv' : ∀ j r, env' j = some r → look Hout j ≠ none := A.heap.dom
    have e''_old : ∀ k r, env k = some r → env'' k = some r := fun k r hk => by simp only [env'', hk]
    have e''_new : ∀ j r, env' j = some r → env'' (s j) = some r := by
      intro j r hj
      have hd := domenv' j r hj
      cases ho : env (s j) with
      | some r0 =>
        simp only [env'', ho]
        rcases F.new j hd with hk | ⟨hk, _⟩
        · rw [← A.agree j r r0 hj (by rw [hu j (List.contains_iff_mem.2 hk)]; exact ho)]
        · exact absurd (hf _ hk) (H.heap.dom _ _ ho)
      | none =>
        have hex : ∃ i r', s i = s j ∧ env' i = some r' := ⟨j, r, rfl, hj⟩
        simp only [env'', ho, dif_pos hex]
        have h1 := Classical.choose_spec (Classical.choose_spec hex)
        have h2 := F.inj _ _ (domenv' _ _ h1.2) hd h1.1
        exact h1.2.symm.trans ((congrArg env' h2).trans hj)
    have e''_inv : ∀ k r, env'' k = some r → env k = some r ∨ (env k = none ∧ ∃ j, s j = k ∧ env' j = some r) := by
      intro k r hk
      cases ho : env k with
      | some r0 => simp only [env'', ho] at hk; exact .inl hk
      | none =>
        simp only [env'', ho] at hk
        split at hk
        · rename_i hex
          have h1 := Classical.choose_spec (Classical.choose_spec hex)
          cases hk
          exact .inr ⟨rfl, _, h1.1, h1.2⟩
        · cases hk
    have hlook : ∀ k ob, lookH (renH s Hout ++ st.H) k = some ob → (∃ j o, s j = k ∧ lookH Hout j = some o ∧ ob = renOb s o) ∨ ((∀ j, look Hout j ≠ none → s j ≠ k) ∧ lookH st.H k = some ob) := by
      intro k ob hk
      unfold lookH at hk
      rw [look_append] at hk
      cases e : look (renH s Hout) k with
      | some o =>
        rw [e] at hk
        obtain ⟨j, o', h1, h2, rfl⟩ := look_renH F.inj e
        cases o' with
        | none => simp at hk
        | some o' => simp at hk; exact .inl ⟨j, o', h1, by simp [lookH, h2], hk.symm⟩
      | none =>
        rw [e] at hk
        refine .inr ⟨fun j hj e2 => ?_, hk⟩
        have := look_renH_none (s := s) hj
        rw [e2, e] at this
        exact this rfl
    have outblk : ∀ j o r, lookH Hout j = some o → env' j = some r → r.nil = false → ∀ k ob r2, lookH st.H k = some ob → env k = some r2 → r2.nil = false → (∀ j, look Hout j ≠ none → s j ≠ k) → r.blk ≠ r2.blk := by
      intro j o r hj hr hn k ob r2 hk hr2 hn2 hne e
      rcases A.own j o r hj hr hn with h1 | h1
      · rw [e] at h1
        exact hother k ob r2 hk hr2 hn2 (fun i o hi => hne i (F.sub i (mem_keys.2 ⟨o, hi⟩))) h1
      · obtain ⟨r3, h3, h4⟩ := H.heap.obj k ob hk
        rw [hr2] at h3; cases h3
        have := h4.lt hn2
        omega
    refine ⟨fun b => imm b ∨ imm' b, env'', ⟨fun t x hx => ?_, ⟨fun k ob hk => ?_, ?_, fun k r hk => ?_, ?_, ?_⟩, ?_, ?_, ?_, ?_, H.ntmps, H.nodef⟩, RepV.to (imm := fun b => imm b ∨ imm' b) e''_new (A.rep.mono (fun b hb => .inr hb) (fun _ _ h => h) fun _ _ => rfl)⟩
    · obtain ⟨u, h1, h2⟩ := H.tmps t x hx
      exact ⟨u, h1, h2.mono (fun b hb => .inl hb) e''_old himm⟩
    · rcases hlook k ob hk with ⟨j, o, rfl, hj, rfl⟩ | ⟨hne, hk'⟩
      · obtain ⟨r, h1, h2⟩ := A.heap.obj j o hj
        refine ⟨r, e''_new j r h1, ObjAt.to (imm := fun b => imm b ∨ imm' b) e''_new (h2.mono (fun b hb => .inr hb) (fun _ _ h => h) (fun _ _ => rfl) fun _ => rfl)⟩
      · obtain ⟨r, h1, h2⟩ := H.heap.obj k ob hk'
        refine ⟨r, e''_old k r h1, h2.mono (fun b hb => .inl hb) e''_old himm fun hn => A.keep.block _ (h2.lt hn) (hother k ob r hk' h1 hn fun i o hi => hne i (F.sub i (mem_keys.2 ⟨o, hi⟩)))⟩
    · intro i k r s' o o' hi hk hr hs hn hn' e
      rcases hlook i o hi with ⟨j1, o1, rfl, hj1, rfl⟩ | ⟨hne1, hi'⟩ <;> rcases hlook k o' hk with ⟨j2, o2, rfl, hj2, rfl⟩ | ⟨hne2, hk'⟩
      · obtain ⟨ra, ha, _⟩ := A.heap.obj j1 o1 hj1
        obtain ⟨rb, hb, _⟩ := A.heap.obj j2 o2 hj2
        rw [e''_new _ _ ha] at hr; cases hr
        rw [e''_new _ _ hb] at hs; cases hs
        rw [A.heap.inj j1 j2 _ _ _ _ hj1 hj2 ha hb hn hn' e]
      · obtain ⟨ra, ha, _⟩ := A.heap.obj j1 o1 hj1
        rw [e''_new _ _ ha] at hr; cases hr
        obtain ⟨rb, hb, _⟩ := H.heap.obj k o' hk'
        rw [e''_old _ _ hb] at hs; cases hs
        exact absurd e (outblk j1 o1 _ hj1 ha hn k o' _ hk' hb hn' hne2)
      · obtain ⟨rb, hb, _⟩ := A.heap.obj j2 o2 hj2
        rw [e''_new _ _ hb] at hs; cases hs
        obtain ⟨ra, ha, _⟩ := H.heap.obj i o hi'
        rw [e''_old _ _ ha] at hr; cases hr
        exact absurd e.symm (outblk j2 o2 _ hj2 hb hn' i o _ hi' ha hn hne1)
      · obtain ⟨ra, ha, _⟩ := H.heap.obj i o hi'
        obtain ⟨rb, hb, _⟩ := H.heap.obj k o' hk'
        rw [e''_old _ _ ha] at hr; cases hr
        rw [e''_old _ _ hb] at hs; cases hs
        exact H.heap.inj i k _ _ o o' hi' hk' ha hb hn hn' e
    · rw [look_append]
      rcases e''_inv k r hk with h1 | ⟨_, j, rfl, h2⟩
      · cases e : look (renH s Hout) k with
        | some _ => simp
        | none => exact H.heap.dom k r h1
      · have := look_renH_none (s := s) (domenv' j r h2)
        cases e : look (renH s Hout) (s j) with
        | some _ => simp
        | none => exact absurd e this
    · rintro b (hb | hb)
      · exact Nat.lt_of_lt_of_le (H.heap.immlt b hb) A.keep.size
      · exact A.heap.immlt b hb
    · intro k ob r hk hr hn hb
      rcases hlook k ob hk with ⟨j, o, rfl, hj, rfl⟩ | ⟨hne, hk'⟩
      · obtain ⟨ra, ha, _⟩ := A.heap.obj j o hj
        rw [e''_new _ _ ha] at hr; cases hr
        rcases hb with hb | hb
        · rcases A.own j o _ hj ha hn with h1 | h1
          · obtain ⟨k2, ob2, r2, _, h3, h4, h5, h6⟩ := hwr _ h1
            exact H.heap.sep _ _ r2 h3 h4 h5 (h6 ▸ hb)
          · have := H.heap.immlt _ hb; omega
        · exact A.heap.sep j o _ hj ha hn hb
      · obtain ⟨ra, ha, h2⟩ := H.heap.obj k ob hk'
        rw [e''_old _ _ ha] at hr; cases hr
        rcases hb with hb | hb
        · exact H.heap.sep k ob _ hk' ha hn hb
        · rcases A.immok _ hb with h1 | h1 | h1
          · exact H.heap.sep k ob _ hk' ha hn h1
          · have := h2.lt hn; omega
          · exact hother k ob _ hk' ha hn (fun i o hi => hne i (F.sub i (mem_keys.2 ⟨o, hi⟩))) h1
    · rintro b (hb | hb)
      · exact H.immok b hb
      · rcases A.immok b hb with h1 | h1 | h1
        · exact H.immok b h1
        · exact .inr (.inl (Nat.le_trans H.keep.size h1))
        · obtain ⟨k2, ob2, r2, _, h3, h4, h5, h6⟩ := hwr _ h1
          rcases H.own _ _ r2 h3 h4 h5 with h7 | h7
          · exact .inr (.inr (h6 ▸ h7))
          · exact .inr (.inl (h6 ▸ h7))
    · intro k ob r hk hr hn
      rcases hlook k ob hk with ⟨j, o, rfl, hj, rfl⟩ | ⟨hne, hk'⟩
      · obtain ⟨ra, ha, _⟩ := A.heap.obj j o hj
        rw [e''_new _ _ ha] at hr; cases hr
        rcases A.own j o _ hj ha hn with h1 | h1
        · obtain ⟨k2, ob2, r2, _, h3, h4, h5, h6⟩ := hwr _ h1
          rw [← h6]; exact H.own _ _ r2 h3 h4 h5
        · exact .inr (Nat.le_trans H.keep.size h1)
      · obtain ⟨ra, ha, _⟩ := H.heap.obj k ob hk'
        rw [e''_old _ _ ha] at hr; cases hr
        exact H.own k ob _ hk' ha hn
    · refine ⟨A.keep.os.trans H.keep.os, A.keep.tape.trans H.keep.tape, A.keep.output.trans H.keep.output, Nat.le_trans H.keep.size A.keep.size, fun b h1 h2 => ?_⟩
      refine (A.keep.block b (Nat.lt_of_lt_of_le h1 H.keep.size) fun hw => ?_).trans (H.keep.block b h1 h2)
      obtain ⟨k2, ob2, r2, _, h3, h4, h5, h6⟩ := hwr _ hw
      rcases H.own _ _ r2 h3 h4 h5 with h7 | h7
      · exact h2 (h6 ▸ h7)
      · omega
    · intro k r r0 hk h0
      rcases e''_inv k r hk with h1 | ⟨h1, j, rfl, h2⟩
      · exact H.agree k r r0 h1 h0
      · rcases F.new j (domenv' j r h2) with hm | ⟨_, hlt⟩
        · obtain ⟨ob, hob⟩ := mem_keys.1 hm
          obtain ⟨ra, ha, _⟩ := H.heap.obj _ _ (hh _ (renIn_mem hob))
          rw [ha] at h1; cases h1
        · have := B.lo _ _ h0; omega

end Go.X
