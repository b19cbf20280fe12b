/- The state of a walk: what its temporaries and its objects are; that a world is as the state says; what a step of the code does to it. No program in sight. -/
import Derived.Test.YtlgaegjlgabggaaGreatXA
namespace Go.X
open Go

def look {α : Type} : List (Nat × α) → Nat → Option α
  | [], _ => none
  | (j, x) :: r, k => match Nat.beq j k with
    | true => some x
    | false => look r k

theorem look_cons {α : Type} (j : Nat) (x : α) (r : List (Nat × α)) (k : Nat) : look ((j, x) :: r) k = if j = k then some x else look r k := by
  simp only [look]
  by_cases h : j = k
  · subst h; simp
  · rw [if_neg h]
    have h2 : Nat.beq j k = false := by cases e : Nat.beq j k with | false => rfl | true => exact absurd (Nat.eq_of_beq_eq_true e) h
    rw [h2]

/-- An object: what it holds; whether its block may be greater. -/
structure Ob where
  c : V
  grow : Bool

structure St where
  T : List (Nat × V)
  H : List (Nat × Option Ob)

def lookH (H : List (Nat × Option Ob)) (k : Nat) : Option Ob := (look H k).join

def ObjAt (imm : Imm) (env : Env) (w : World) (r : Ref) (ob : Ob) : Prop :=
  V.ok ob.c ∧ ((r.nil = true ∧ V.size ob.c = 0 ∧ ob.grow = true) ∨
    (r.nil = false ∧ ∃ arr : Array Value, w.heap[r.blk]? = some (.cells arr r.ty (0, 0)) ∧ arr.size = r.tot ∧ V.size ob.c ≤ r.tot ∧ (ob.grow = false → V.size ob.c = r.tot) ∧
      RepL (Rep1 imm env w) ob.c.flat (arr.toList.take (V.size ob.c))))

structure HeapOk (imm : Imm) (env : Env) (H : List (Nat × Option Ob)) (w : World) : Prop where
  obj : ∀ k ob, lookH H k = some ob → ∃ r, env k = some r ∧ ObjAt imm env w r ob
  inj : ∀ j k r s o o', lookH H j = some o → lookH H k = some o' → env j = some r → env k = some s → r.nil = false → s.nil = false → r.blk = s.blk → j = k
  dom : ∀ k r, env k = some r → look H k ≠ none
  immlt : ∀ b, imm b → b < w.heap.size
  sep : ∀ k ob r, lookH H k = some ob → env k = some r → r.nil = false → ¬ imm r.blk

/-- What was there is as it was, but for blocks that may be written. -/
structure Keep (w0 : World) (wr : Nat → Prop) (w : World) : Prop where
  os : w.os = w0.os
  tape : w.tape = w0.tape
  output : w.output = w0.output
  size : w0.heap.size ≤ w.heap.size
  block : ∀ b, b < w0.heap.size → ¬ wr b → w.heap[b]? = w0.heap[b]?

structure Base where
  w0 : World
  wr : Nat → Prop
  imm0 : Nat → Prop
  env0 : Env
  lo : ∀ k r, env0 k = some r → 1000 ≤ k

structure Holds (B : Base) (N : Nat) (imm : Imm) (env : Env) (st : St) (a : Act) (w : World) : Prop where
  tmps : ∀ t x, look st.T t = some x → ∃ u, a.tmps[t]? = some u ∧ RepV imm env w x u
  heap : HeapOk imm env st.H w
  immok : ∀ b, imm b → B.imm0 b ∨ B.w0.heap.size ≤ b ∨ B.wr b
  own : ∀ k ob r, lookH st.H k = some ob → env k = some r → r.nil = false → B.wr r.blk ∨ B.w0.heap.size ≤ r.blk
  keep : Keep B.w0 B.wr w
  agree : ∀ k r s, env k = some r → B.env0 k = some s → r = s
  ntmps : a.tmps.size = N
  nodef : a.defers = []

theorem lookH_cons (j : Nat) (x : Option Ob) (H : List (Nat × Option Ob)) (k : Nat) : lookH ((j, x) :: H) k = if j = k then x else lookH H k := by
  unfold lookH; rw [look_cons]; split <;> rfl
theorem lookH_of_look {H : List (Nat × Option Ob)} {k : Nat} {ob : Ob} (h : lookH H k = some ob) : look H k ≠ none := by
  intro e; simp [lookH, e] at h

theorem ObjAt.mono {imm imm' : Imm} {env env' : Env} {w w' : World} {r : Ref} {ob : Ob} (hi : ∀ b, imm b → imm' b) (he : ∀ k r, env k = some r → env' k = some r) (hw : ∀ b, imm b → w'.heap[b]? = w.heap[b]?)
    (hb : r.nil = false → w'.heap[r.blk]? = w.heap[r.blk]?) (h : ObjAt imm env w r ob) : ObjAt imm' env' w' r ob := by
  obtain ⟨h1, h2 | ⟨h2, arr, h3, h4, h5, h6, h7⟩⟩ := h
  · exact ⟨h1, .inl h2⟩
  · exact ⟨h1, .inr ⟨h2, arr, by rw [hb h2]; exact h3, h4, h5, h6, h7.imp fun _ _ => Rep1.mono hi he hw⟩⟩

theorem ObjAt.lt {imm : Imm} {env : Env} {w : World} {r : Ref} {ob : Ob} (h : ObjAt imm env w r ob) (hn : r.nil = false) : r.blk < w.heap.size := by
  obtain ⟨_, ⟨h2, _⟩ | ⟨_, arr, h3, _⟩⟩ := h
  · rw [hn] at h2; cases h2
  · exact (Array.getElem?_eq_some_iff.1 h3).1

def putT (d : Option Tmp) (x : V) (T : List (Nat × V)) : List (Nat × V) := match d with | some d => (d, x) :: T | none => T

section
variable {B : Base} {N : Nat} {imm : Imm} {env : Env} {st : St} {a : Act} {w : World}

/-- A temporary more; the heap as it was. -/
theorem Holds.put (h : Holds B N imm env st a w) {d : Nat} (hd : d < N) {x : V} {u : Value} (hx : RepV imm env w x u) : Holds B N imm env ⟨(d, x) :: st.T, st.H⟩ (a.put (some d) u) w := by
  refine ⟨fun t y hy => ?_, h.heap, h.immok, h.own, h.keep, h.agree, by simpa [Act.put] using h.ntmps, h.nodef⟩
  rw [look_cons] at hy
  by_cases e : d = t
  · subst e
    rw [if_pos rfl] at hy; cases hy
    exact ⟨u, by simp [Act.put, h.ntmps, hd], hx⟩
  · rw [if_neg e] at hy
    obtain ⟨v, h1, h2⟩ := h.tmps t y hy
    exact ⟨v, by simp only [Act.put]; rw [Array.getElem?_setIfInBounds_ne e]; exact h1, h2⟩

theorem Holds.putO (h : Holds B N imm env st a w) {d : Option Tmp} (hd : ∀ i, d = some i → i < N) {x : V} {u : Value} (hx : RepV imm env w x u) : Holds B N imm env ⟨putT d x st.T, st.H⟩ (a.put d u) w := by
  cases d with
  | none => exact h
  | some i => exact h.put (hd i rfl) hx

/-- A world with the same heap. -/
theorem Holds.world (h : Holds B N imm env st a w) {w' : World} (hh : w'.heap = w.heap) (ho : w'.os = w.os) (ht : w'.tape = w.tape) (hp : w'.output = w.output) : Holds B N imm env st a w' := by
  have hb : ∀ b : Nat, w'.heap[b]? = w.heap[b]? := fun b => by rw [hh]
  exact ⟨fun t x hx => let ⟨u, h1, h2⟩ := h.tmps t x hx; ⟨u, h1, h2.mono (fun _ h => h) (fun _ _ h => h) fun b _ => hb b⟩,
    ⟨fun k ob hk => let ⟨r, h1, h2⟩ := h.heap.obj k ob hk; ⟨r, h1, h2.mono (fun _ h => h) (fun _ _ h => h) (fun b _ => hb b) fun _ => hb _⟩, h.heap.inj, h.heap.dom, by rw [hh]; exact h.heap.immlt, h.heap.sep⟩,
    h.immok, h.own, ⟨ho.trans h.keep.os, ht.trans h.keep.tape, hp.trans h.keep.output, by rw [hh]; exact h.keep.size, fun b h1 h2 => (hb b).trans (h.keep.block b h1 h2)⟩, h.agree, h.ntmps, h.nodef⟩

def Env.set (env : Env) (j : Nat) (r : Ref) : Env := fun k => if k = j then some r else env k
theorem Env.set_le {env : Env} {j : Nat} (hj : env j = none) (r : Ref) : ∀ k s, env k = some s → env.set j r k = some s := by
  intro k s hk
  unfold Env.set
  rw [if_neg (by rintro rfl; rw [hj] at hk; cases hk)]
  exact hk

/-- A new object, in new memory or in that of an object that it takes the place of. -/
theorem Holds.newobj (h : Holds B N imm env st a w) (kd : Option Nat) {w' : World} (ho : w'.os = w.os) (ht : w'.tape = w.tape) (hp : w'.output = w.output) (hsz : w.heap.size ≤ w'.heap.size)
    (hblk : ∀ b, b < w.heap.size → (∀ k r, kd = some k → env k = some r → r.nil = false → r.blk ≠ b) → w'.heap[b]? = w.heap[b]?)
    (hkd : ∀ k, kd = some k → ∃ ob, lookH st.H k = some ob)
    {j : Nat} (hj : look st.H j = none) (hlo : j < 1000) {r' : Ref} (hr' : r'.nil = false → (w.heap.size ≤ r'.blk ∨ ∃ k r, kd = some k ∧ env k = some r ∧ r.nil = false ∧ r.blk = r'.blk))
    {ob' : Ob} (hob : ObjAt imm env w' r' ob') :
    Holds B N imm (env.set j r') ⟨st.T, (j, some ob') :: ((kd.toList.map fun k => (k, none)) ++ st.H)⟩ a w' := by
  have hjn : env j = none := by
    cases e : env j with
    | none => rfl
    | some r => exact absurd hj (h.heap.dom j r e)
  have hle := Env.set_le hjn r'
  have himm : ∀ b, imm b → w'.heap[b]? = w.heap[b]? := fun b hb => hblk b (h.heap.immlt b hb) fun k r hk hr hn e => by
    obtain ⟨ob, hob⟩ := hkd k hk
    exact h.heap.sep k ob r hob hr hn (e ▸ hb)
  have hlook : ∀ k ob, lookH ((j, some ob') :: ((kd.toList.map fun k => (k, none)) ++ st.H)) k = some ob → (k = j ∧ ob = ob') ∨ (k ≠ j ∧ kd ≠ some k ∧ lookH st.H k = some ob) := by
    intro k ob hk
    rw [lookH_cons] at hk
    by_cases e : j = k
    · rw [if_pos e] at hk; cases hk; exact .inl ⟨e.symm, rfl⟩
    · rw [if_neg e] at hk
      refine .inr ⟨Ne.symm e, ?_⟩
      cases kd with
      | none => exact ⟨by simp, by simpa using hk⟩
      | some d =>
        simp only [Option.toList_some, List.map_cons, List.map_nil, List.cons_append, List.nil_append] at hk
        rw [lookH_cons] at hk
        by_cases e2 : d = k
        · rw [if_pos e2] at hk; cases hk
        · rw [if_neg e2] at hk; exact ⟨by simpa using e2, hk⟩
  have hset : ∀ k, k ≠ j → env.set j r' k = env k := fun k hk => by simp [Env.set, hk]
  have hsetj : env.set j r' j = some r' := by simp [Env.set]
  have hown' : r'.nil = false → B.wr r'.blk ∨ B.w0.heap.size ≤ r'.blk := fun hn => by
    rcases hr' hn with h1 | ⟨k, r, hk, hr, hrn, e⟩
    · exact .inr (Nat.le_trans h.keep.size h1)
    · obtain ⟨ob, hob⟩ := hkd k hk
      rw [← e]; exact h.own k ob r hob hr hrn
  have hne : ∀ k ob r, lookH st.H k = some ob → kd ≠ some k → env k = some r → r.nil = false → r'.nil = false → r.blk ≠ r'.blk := by
    intro k ob r hk hkk hr hn hn' e
    rcases hr' hn' with h1 | ⟨k2, r2, hk2, hr2, hrn2, e2⟩
    · obtain ⟨s, hs, hs2⟩ := h.heap.obj k ob hk
      rw [hr] at hs; cases hs
      have := hs2.lt hn; omega
    · obtain ⟨ob2, hob2⟩ := hkd k2 hk2
      have := h.heap.inj k k2 r r2 ob ob2 hk hob2 hr hr2 hn hrn2 (e.trans e2.symm)
      exact hkk (this ▸ hk2)
  refine ⟨fun t x hx => ?_, ⟨fun k ob hk => ?_, ?_, ?_, fun b hb => Nat.lt_of_lt_of_le (h.heap.immlt b hb) hsz, ?_⟩, h.immok, ?_, ?_, ?_, h.ntmps, h.nodef⟩
  · obtain ⟨u, h1, h2⟩ := h.tmps t x hx
    exact ⟨u, h1, h2.mono (fun _ h => h) hle himm⟩
  · rcases hlook k ob hk with ⟨rfl, rfl⟩ | ⟨hkj, hkd', hk'⟩
    · exact ⟨r', hsetj, hob.mono (fun _ h => h) hle (fun _ _ => rfl) fun _ => rfl⟩
    · obtain ⟨r, h1, h2⟩ := h.heap.obj k ob hk'
      refine ⟨r, by rw [hset k hkj]; exact h1, h2.mono (fun _ h => h) hle himm fun hn => ?_⟩
      refine hblk _ (h2.lt hn) fun k2 r2 hk2 hr2 hn2 e => ?_
      obtain ⟨ob2, hob2⟩ := hkd k2 hk2
      have := h.heap.inj k2 k r2 r ob2 ob hob2 hk' hr2 h1 hn2 hn e
      exact hkd' (this ▸ hk2)
  · intro i k r s o o' hi hk hr hs hn hn' e
    rcases hlook i o hi with ⟨rfl, rfl⟩ | ⟨hij, hid, hi'⟩ <;> rcases hlook k o' hk with ⟨rfl, rfl⟩ | ⟨hkj, hkd', hk'⟩
    · rfl
    · rw [hsetj] at hr; cases hr
      rw [hset k hkj] at hs
      exact absurd e.symm (hne k o' s hk' hkd' hs hn' hn)
    · rw [hsetj] at hs; cases hs
      rw [hset i hij] at hr
      exact absurd e (hne i o r hi' hid hr hn hn')
    · rw [hset k hkj] at hs; rw [hset i hij] at hr
      exact h.heap.inj i k r s o o' hi' hk' hr hs hn hn' e
  · intro k r hk
    rw [look_cons]
    by_cases e : j = k
    · rw [if_pos e]; simp
    · rw [if_neg e]
      rw [hset k (Ne.symm e)] at hk
      have h0 := h.heap.dom k r hk
      cases kd with
      | none => simpa using h0
      | some d =>
        simp only [Option.toList_some, List.map_cons, List.map_nil, List.cons_append, List.nil_append]
        rw [look_cons]; split
        · simp
        · exact h0
  · intro k ob r hk hr hn hb
    rcases hlook k ob hk with ⟨rfl, rfl⟩ | ⟨hkj, hkd', hk'⟩
    · rw [hsetj] at hr; cases hr
      rcases hr' hn with h1 | ⟨k2, r2, hk2, hr2, hrn2, e2⟩
      · have := h.heap.immlt _ hb; omega
      · obtain ⟨ob2, hob2⟩ := hkd k2 hk2
        exact h.heap.sep k2 ob2 r2 hob2 hr2 hrn2 (e2 ▸ hb)
    · rw [hset k hkj] at hr
      exact h.heap.sep k ob r hk' hr hn hb
  · intro k ob r hk hr hn
    rcases hlook k ob hk with ⟨rfl, rfl⟩ | ⟨hkj, hkd', hk'⟩
    · rw [hsetj] at hr; cases hr; exact hown' hn
    · rw [hset k hkj] at hr; exact h.own k ob r hk' hr hn
  · refine ⟨ho.trans h.keep.os, ht.trans h.keep.tape, hp.trans h.keep.output, Nat.le_trans h.keep.size hsz, fun b h1 h2 => ?_⟩
    refine (hblk b (Nat.lt_of_lt_of_le h1 h.keep.size) fun k r hk hr hn e => ?_).trans (h.keep.block b h1 h2)
    obtain ⟨ob, hob⟩ := hkd k hk
    rcases h.own k ob r hob hr hn with h3 | h3
    · exact h2 (e ▸ h3)
    · omega
  · intro k r s hk hs
    by_cases e : k = j
    · subst e; have := B.lo _ _ hs; omega
    · rw [hset k e] at hk; exact h.agree k r s hk hs

/-- An object written, where it lies. -/
theorem Holds.store (h : Holds B N imm env st a w) {k : Nat} {ob ob' : Ob} {r : Ref} (hk : lookH st.H k = some ob) (he : env k = some r) (hn : r.nil = false) {w' : World}
    (ho : w'.os = w.os) (ht : w'.tape = w.tape) (hp : w'.output = w.output) (hsz : w'.heap.size = w.heap.size) (hblk : ∀ b, b ≠ r.blk → w'.heap[b]? = w.heap[b]?) (hob : ObjAt imm env w' r ob') :
    Holds B N imm env ⟨st.T, (k, some ob') :: st.H⟩ a w' := by
  have himm : ∀ b, imm b → w'.heap[b]? = w.heap[b]? := fun b hb => hblk b fun e => h.heap.sep k ob r hk he hn (e ▸ hb)
  have hlook : ∀ j o, lookH ((k, some ob') :: st.H) j = some o → (j = k ∧ o = ob') ∨ (j ≠ k ∧ lookH st.H j = some o) := by
    intro j o hj
    rw [lookH_cons] at hj
    by_cases e : k = j
    · rw [if_pos e] at hj; cases hj; exact .inl ⟨e.symm, rfl⟩
    · rw [if_neg e] at hj; exact .inr ⟨Ne.symm e, hj⟩
  have hlive : ∀ j o, lookH ((k, some ob') :: st.H) j = some o → ∃ o', lookH st.H j = some o' := fun j o hj => by
    rcases hlook j o hj with ⟨rfl, rfl⟩ | ⟨_, h2⟩
    · exact ⟨ob, hk⟩
    · exact ⟨o, h2⟩
  refine ⟨fun t x hx => let ⟨u, h1, h2⟩ := h.tmps t x hx; ⟨u, h1, h2.mono (fun _ h => h) (fun _ _ h => h) himm⟩, ⟨fun j o hj => ?_, ?_, ?_, by rw [hsz]; exact h.heap.immlt, ?_⟩, h.immok, ?_, ?_, h.agree, h.ntmps, h.nodef⟩
  · rcases hlook j o hj with ⟨rfl, rfl⟩ | ⟨hjk, hj'⟩
    · exact ⟨r, he, hob⟩
    · obtain ⟨s, h1, h2⟩ := h.heap.obj j o hj'
      exact ⟨s, h1, h2.mono (fun _ h => h) (fun _ _ h => h) himm fun hsn => hblk _ fun e => hjk (h.heap.inj j k s r o ob hj' hk h1 he hsn hn e)⟩
  · intro i j r1 s o o' hi hj hr hs hn1 hn2 e
    obtain ⟨p, hp⟩ := hlive i o hi
    obtain ⟨q, hq⟩ := hlive j o' hj
    exact h.heap.inj i j r1 s p q hp hq hr hs hn1 hn2 e
  · intro j s hj
    rw [look_cons]; split
    · simp
    · exact h.heap.dom j s hj
  · intro j o s hj hs hsn
    obtain ⟨p, hp⟩ := hlive j o hj
    exact h.heap.sep j p s hp hs hsn
  · intro j o s hj hs hsn
    obtain ⟨p, hp⟩ := hlive j o hj
    exact h.own j p s hp hs hsn
  · refine ⟨ho.trans h.keep.os, ht.trans h.keep.tape, hp.trans h.keep.output, by rw [hsz]; exact h.keep.size, fun b h1 h2 => (hblk b fun e => ?_).trans (h.keep.block b h1 h2)⟩
    rcases h.own k ob r hk he hn with h3 | h3
    · exact h2 (e ▸ h3)
    · omega
end

end Go.X
