/- The walk's predicates: an operation, a region, code, rounds; each over the states of XB; in a form that says: there is one outcome, whatever the world. No program in sight. -/
import Derived.Test.YtlgaegjlgabggaaGreatXB
namespace Go.X
open Go

def AllP {α : Type} (f : α → Prop) : List α → Prop
  | [] => True
  | x :: r => f x ∧ AllP f r

theorem AllP.mem {α : Type} {f : α → Prop} : ∀ {l : List α}, AllP f l → ∀ x, x ∈ l → f x
  | _ :: _, h, x, hx => by
    cases hx with
    | head => exact h.1
    | tail _ hx => exact AllP.mem h.2 x hx

/-- What an operand is. -/
def ev (T : List (Nat × V)) : Operand → Option V
  | .tmp t => look T t
  | .const c => match good c with
    | true => some (.v c)
    | false => none
  | .func f => some (.fn (.func f) [] [])
  | .global _ => none

theorem Holds.ev {B : Base} {N : Nat} {imm : Imm} {env : Env} {st : St} {a : Act} {w : World} (h : Holds B N imm env st a w) {x : Operand} {y : V} (hx : ev st.T x = some y) : RepV imm env w y (a.eval x) := by
  cases x with
  | tmp t =>
    obtain ⟨u, h1, h2⟩ := h.tmps t y hx
    have : a.eval (.tmp t) = u := by simp [Act.eval, h1]
    rw [this]; exact h2
  | const c =>
    simp only [X.ev] at hx
    split at hx
    · cases hx; exact .v c (by assumption)
    · cases hx
  | func f =>
    simp only [X.ev] at hx; cases hx
    exact ⟨[], [], rfl, RepL.nil _, RepL.nil _⟩
  | global g => simp [X.ev] at hx

/-- One operation, in whatever way it comes to be carried out. -/
def wpBody (P : Program) (ops : Array Oper) (o : Oper) (K : Act → World → Prop) (Q : Exit → Act → World → Prop) (a : Act) (w : World) : Prop :=
  if Region.wanted o (yielded ops a.tmps) then o.wp P a w K Q ∨ (o.asks P a w ∧ LetsOut Q) else K (a.put o.dst undef) w

/-- What an operation looks at, and what it makes of that. -/
def OpOK (P : Program) (N : Nat) (ops : Array Oper) (o : Oper) (ro : List (Operand × V)) (rh : List (Nat × Ob)) (fr : List Nat) (x : V) (dh : List (Nat × Option Ob)) : Prop :=
  ∀ (B : Base) (imm : Imm) (env : Env) (st : St) (a : Act) (w : World) (K : Act → World → Prop) (Q : Exit → Act → World → Prop),
    AllP (fun p => ev st.T p.1 = some p.2) ro → AllP (fun p => lookH st.H p.1 = some p.2) rh → AllP (fun k => look st.H k = none) fr →
    Holds B N imm env st a w →
    (∀ imm' env' a' w', Holds B N imm' env' ⟨putT o.dst x st.T, dh ++ st.H⟩ a' w' → K a' w') → wpBody P ops o K Q a w

def lift (B : Base) (N : Nat) (Q : Exit → St → Prop) : Exit → Act → World → Prop := fun e a w => ∃ imm env st, Holds B N imm env st a w ∧ Q e st

/-- The rest of a region that is carried out as it stands. -/
structure WS (P : Program) (N : Nat) (ops : Array Oper) (rest : List Oper) (st : St) (Q : Exit → St → Prop) : Prop where
  h : ∀ (B : Base) (imm : Imm) (env : Env) (a : Act) (w : World), Holds B N imm env st a w → wpList P ops (lift B N Q) rest a w

/-- Code. -/
structure W (P : Program) (N : Nat) (c : Code) (st : St) (Q : Exit → St → Prop) : Prop where
  h : ∀ (B : Base) (imm : Imm) (env : Env) (a : Act) (w : World), Holds B N imm env st a w → c.wp P (lift B N Q) a w

/-- So many rounds of a loop. -/
structure WR (P : Program) (N : Nat) (c : Code) (n : Nat) (st : St) (Q : Exit → St → Prop) : Prop where
  h : ∀ (B : Base) (imm : Imm) (env : Env) (a : Act) (w : World), Holds B N imm env st a w → Code.rounds P c (lift B N Q) n a w

def thenQ (k : St → Prop) (Q : Exit → St → Prop) : Exit → St → Prop
  | .normal, st => k st
  | e, st => Q e st

def inBlockQ (id : Nat) (Q : Exit → St → Prop) : Exit → St → Prop
  | .exit i, st => match Nat.beq i id with
    | true => Q .normal st
    | false => Q (.exit i) st
  | e, st => Q e st

section
variable {P : Program} {N : Nat} {ops : Array Oper} {rest : List Oper} {st : St} {O : Type} {Q : O → Exit → St → Prop}

theorem XS.step {o : Oper} {ro : List (Operand × V)} {rh : List (Nat × Ob)} {fr : List Nat} {x : V} {dh : List (Nat × Option Ob)} (hok : OpOK P N ops o ro rh fr x dh)
    (h1 : AllP (fun p => ev st.T p.1 = some p.2) ro) (h2 : AllP (fun p => lookH st.H p.1 = some p.2) rh) (h3 : AllP (fun k => look st.H k = none) fr)
    (h : ∃ z, WS P N ops rest ⟨putT o.dst x st.T, dh ++ st.H⟩ (Q z)) : ∃ z, WS P N ops (o :: rest) st (Q z) := by
  obtain ⟨z, h⟩ := h
  refine ⟨z, ⟨fun B imm env a w H => ?_⟩⟩
  exact hok B imm env st a w _ _ h1 h2 h3 H fun imm' env' a' w' H' => h.h B imm' env' a' w' H'

theorem XS.nil (h : ∃ z, Q z .normal st) : ∃ z, WS P N ops [] st (Q z) := by
  obtain ⟨z, h⟩ := h
  exact ⟨z, ⟨fun B imm env a w H => ⟨imm, env, st, H, h⟩⟩⟩

theorem X.region {id : Nat} {l : List Oper} (h : ∃ z, WS P N l.toArray l st (Q z)) : ∃ z, W P N (.region id l.toArray false) st (Q z) := by
  obtain ⟨z, h⟩ := h
  exact ⟨z, ⟨fun B imm env a w H => wp_region_lit (h.h B imm env a w H)⟩⟩

theorem X.seq {c d : Code} (h : ∃ z, W P N c st (thenQ (fun s => W P N d s (Q z)) (Q z))) : ∃ z, W P N (.seq c d) st (Q z) := by
  obtain ⟨z, h⟩ := h
  refine ⟨z, ⟨fun B imm env a w H => wp_seq (wp_mono (h.h B imm env a w H) ?_)⟩⟩
  rintro e a' w' ⟨imm', env', st', H', q⟩
  cases e with
  | normal => exact q.h B imm' env' a' w' H'
  | _ => exact ⟨imm', env', st', H', q⟩

theorem X.skip (h : ∃ z, Q z .normal st) : ∃ z, W P N .skip st (Q z) := by
  obtain ⟨z, h⟩ := h
  exact ⟨z, ⟨fun B imm env a w H => wp_skip ⟨imm, env, st, H, h⟩⟩⟩
theorem X.exit {id : Nat} (h : ∃ z, Q z (.exit id) st) : ∃ z, W P N (.exit id) st (Q z) := by
  obtain ⟨z, h⟩ := h
  exact ⟨z, ⟨fun B imm env a w H => wp_exit ⟨imm, env, st, H, h⟩⟩⟩
theorem X.ret (h : ∃ z, Q z .ret st) : ∃ z, W P N .ret st (Q z) := by
  obtain ⟨z, h⟩ := h
  exact ⟨z, ⟨fun B imm env a w H => wp_ret ⟨imm, env, st, H, h⟩⟩⟩

theorem X.block {id : Nat} {c : Code} (h : ∃ z, W P N c st (inBlockQ id (Q z))) : ∃ z, W P N (.block id c) st (Q z) := by
  obtain ⟨z, h⟩ := h
  refine ⟨z, ⟨fun B imm env a w H => wp_block (wp_mono (h.h B imm env a w H) ?_)⟩⟩
  rintro e a' w' ⟨imm', env', st', H', q⟩
  cases e with
  | exit i =>
    simp only [Exit.inBlock, inBlockQ] at q ⊢
    split
    · rename_i e; subst e; simp only [Nat.beq_refl] at q; exact ⟨imm', env', st', H', q⟩
    · rename_i e
      have h2 : Nat.beq i id = false := by cases e2 : Nat.beq i id with | false => rfl | true => exact absurd (Nat.eq_of_beq_eq_true e2) e
      rw [h2] at q; exact ⟨imm', env', st', H', q⟩
  | _ => exact ⟨imm', env', st', H', q⟩

theorem X.condT {c : Operand} {x y : Code} {t : Bool} (hc : ev st.T c = some (.v (.bool t))) (ht : t = true) (h : ∃ z, W P N x st (Q z)) : ∃ z, W P N (.cond c x y) st (Q z) := by
  obtain ⟨z, h⟩ := h
  refine ⟨z, ⟨fun B imm env a w H => ?_⟩⟩
  have he := H.ev hc
  have : a.eval c = .bool true := by subst ht; generalize a.eval c = u at he; cases he; rfl
  exact wp_cond_true this (h.h B imm env a w H)
theorem X.condF {c : Operand} {x y : Code} {t : Bool} (hc : ev st.T c = some (.v (.bool t))) (ht : t = false) (h : ∃ z, W P N y st (Q z)) : ∃ z, W P N (.cond c x y) st (Q z) := by
  obtain ⟨z, h⟩ := h
  refine ⟨z, ⟨fun B imm env a w H => ?_⟩⟩
  have he := H.ev hc
  have : a.eval c = .bool false := by subst ht; generalize a.eval c = u at he; cases he; rfl
  exact wp_cond_false this (h.h B imm env a w H)
theorem X.cond {c : Operand} {x y : Code} {t : Bool} (hc : ev st.T c = some (.v (.bool t))) (h1 : t = true → ∃ z, W P N x st (Q z)) (h2 : t = false → ∃ z, W P N y st (Q z)) : ∃ z, W P N (.cond c x y) st (Q z) := by
  cases t
  · exact X.condF hc rfl (h2 rfl)
  · exact X.condT hc rfl (h1 rfl)

theorem X.loop {c : Code} (n : Nat) (h : ∃ z, WR P N c n st (Q z)) : ∃ z, W P N (.loop c) st (Q z) := by
  obtain ⟨z, h⟩ := h
  exact ⟨z, ⟨fun B imm env a w H => wp_loop_rounds n (h.h B imm env a w H)⟩⟩
theorem X.round {c : Code} {n : Nat} (h : ∃ z, W P N c st (thenQ (fun s => WR P N c n s (Q z)) (Q z))) : ∃ z, WR P N c (n + 1) st (Q z) := by
  obtain ⟨z, h⟩ := h
  refine ⟨z, ⟨fun B imm env a w H => ?_⟩⟩
  rw [rounds_succ]
  refine wp_mono (h.h B imm env a w H) ?_
  rintro e a' w' ⟨imm', env', st', H', q⟩
  cases e with
  | normal => exact q.h B imm' env' a' w' H'
  | _ => exact ⟨imm', env', st', H', q⟩
end

/-- A state says less than another one. -/
def Ent (x y : V) : Prop := ∀ imm env w u, RepV imm env w x u → RepV imm env w y u
theorem Ent.refl (x : V) : Ent x x := fun _ _ _ _ h => h
theorem Ent.of_eq {x y : V} (h : x = y) : Ent x y := h ▸ Ent.refl x
theorem Ent.sli (k : IntKind) : Ent (.v (.slice none 0 0)) (.sli k []) := fun _ _ _ _ h => by cases h; exact .sliE k none 0
theorem Ent.sl : Ent (.v (.slice none 0 0)) (.sl []) := fun _ _ _ _ h => by cases h; exact .slE none 0

mutual
/-- Every object that a value speaks of is one of these. -/
def V.among (ks : List Nat) : V → Bool
  | .ptr k _ => ks.contains k
  | .ptrE k _ _ => ks.contains k
  | .osl k _ _ _ _ => ks.contains k
  | .agg fs => V.amongs ks fs
  | .tup fs => V.amongs ks fs
  | .fn _ a c => V.amongs ks a && V.amongs ks c
  | _ => true
def V.amongs (ks : List Nat) : List V → Bool
  | [] => true
  | x :: r => V.among ks x && V.amongs ks r
end

def Env.only (env : Env) (ks : List Nat) : Env := fun k => if ks.contains k then env k else none
theorem Env.only_le (env : Env) (ks : List Nat) (k : Nat) (r : Ref) (h : env.only ks k = some r) : env k = some r := by
  unfold Env.only at h; split at h
  · exact h
  · cases h
theorem Env.only_eq (env : Env) {ks : List Nat} {k : Nat} (h : ks.contains k = true) : env.only ks k = env k := by simp only [Env.only, h, if_true]

theorem amongs_mem {ks : List Nat} : ∀ {l : List V}, V.amongs ks l = true → ∀ (i : Nat) (x : V), l[i]? = some x → V.among ks x = true
  | [], _, i, x, hx => by simp at hx
  | y :: r, h, i, x, hx => by
    simp only [V.amongs, Bool.and_eq_true] at h
    cases i with
    | zero => simp at hx; subst hx; exact h.1
    | succ i => exact amongs_mem h.2 i x (by simpa using hx)

theorem amongs_ints (ks : List Nat) (k : IntKind) : ∀ xs : List Int, V.amongs ks (xs.map fun x => V.v (.int k x)) = true
  | [] => rfl
  | x :: xs => by simp only [List.map_cons, V.amongs, V.among, Bool.true_and]; exact amongs_ints ks k xs
mutual
theorem among_flat {ks : List Nat} : ∀ {x : V}, V.among ks x = true → V.amongs ks (V.flat x) = true
  | .ints k n xs, _ => by
    simp only [V.flat]
    exact amongs_ints ks k xs
  | .agg fs, h => by simp only [V.flat]; exact amongs_flats (by simpa only [V.among] using h)
  | .v _, _ | .sli _ _, _ | .sl _, _ | .dptr _, _ | .unk, _ => rfl
  | .ptr _ _, h | .ptrE _ _ _, h | .osl _ _ _ _ _, h | .fn _ _ _, h | .tup _, h => by simp only [V.flat, V.amongs, h, Bool.and_true]
theorem amongs_flats {ks : List Nat} : ∀ {l : List V}, V.amongs ks l = true → V.amongs ks (V.flats l) = true
  | [], _ => rfl
  | x :: r, h => by
    simp only [V.amongs, Bool.and_eq_true] at h
    have h1 := among_flat h.1
    have h2 := amongs_flats h.2
    simp only [V.flats]
    generalize V.flat x = a at h1
    generalize V.flats r = b at h2
    induction a with
    | nil => exact h2
    | cons y t ih =>
      simp only [V.amongs, Bool.and_eq_true] at h1
      simp only [List.cons_append, V.amongs, Bool.and_eq_true]
      exact ⟨h1.1, ih h1.2⟩
end

theorem RepL.imp_mem {R S : V → Value → Prop} {xs : List V} {us : List Value} (h : RepL R xs us) (hrs : ∀ (i : Nat) x u, xs[i]? = some x → R x u → S x u) : RepL S xs us :=
  ⟨h.1, fun i x hx => let ⟨u, h1, h2⟩ := h.2 i x hx; ⟨u, h1, hrs i _ _ hx h2⟩⟩

section
variable {imm : Imm} {env : Env} {w : World} {ks : List Nat}
theorem Rep0.only {x : V} {u : Value} (ha : V.among ks x = true) (h : Rep0 imm env w x u) : Rep0 imm (env.only ks) w x u := by
  cases x <;> simp only [Rep0, V.among] at h ha ⊢ <;> first
    | exact h
    | (obtain ⟨r, hr, h⟩ := h; exact ⟨r, by rw [Env.only_eq env ha]; exact hr, h⟩)
theorem Rep1.only {x : V} {u : Value} (ha : V.among ks x = true) (h : Rep1 imm env w x u) : Rep1 imm (env.only ks) w x u := by
  cases x <;> simp only [Rep1] at h ⊢ <;> first
    | exact Rep0.only ha h
    | (simp only [V.among, Bool.and_eq_true] at ha
       obtain ⟨as, cs, h1, h2, h3⟩ := h
       exact ⟨as, cs, h1, h2.imp_mem fun i x u hx => Rep0.only (amongs_mem ha.1 i x hx), h3.imp_mem fun i x u hx => Rep0.only (amongs_mem ha.2 i x hx)⟩)
theorem RepC.only {x : V} {u : Value} (ha : V.among ks x = true) (h : RepC imm env w x u) : RepC imm (env.only ks) w x u := by
  cases x <;> simp only [RepC] at h ⊢ <;> first
    | exact Rep1.only ha h
    | exact h
    | (obtain ⟨h1, arr, h2, h3⟩ := h
       have ha' := amongs_flats (l := _) (by simpa only [V.among] using ha)
       exact ⟨h1, arr, h2, h3.imp_mem fun i x u hx => Rep1.only (amongs_mem ha' i x hx)⟩)
theorem RepV.only {x : V} {u : Value} (ha : V.among ks x = true) (h : RepV imm env w x u) : RepV imm (env.only ks) w x u := by
  cases x <;> simp only [RepV] at h ⊢ <;> first
    | exact RepC.only ha h
    | (obtain ⟨arr, h2, h3⟩ := h
       exact ⟨arr, h2, h3.imp_mem fun i x u hx => RepC.only (amongs_mem (by simpa only [V.among] using ha) i x hx)⟩)
end

theorem look_mem {α : Type} : ∀ {l : List (Nat × α)} {k : Nat} {x : α}, look l k = some x → (k, x) ∈ l
  | (j, y) :: r, k, x, h => by
    rw [look_cons] at h
    by_cases e : j = k
    · rw [if_pos e] at h; cases h; subst e; exact .head _
    · rw [if_neg e] at h; exact .tail _ (look_mem h)

def keysH (H : List (Nat × Option Ob)) : List Nat := H.map (·.1)

theorem look_keys {H : List (Nat × Option Ob)} {k : Nat} (h : (keysH H).contains k = true) : look H k ≠ none := by
  induction H with
  | nil => simp [keysH] at h
  | cons p r ih =>
    obtain ⟨j, x⟩ := p
    rw [look_cons]
    by_cases e : j = k
    · rw [if_pos e]; simp
    · rw [if_neg e]; refine ih ?_
      simp only [keysH, List.map_cons, List.contains_cons, Bool.or_eq_true, beq_iff_eq] at h ⊢
      rcases h with h | h
      · exact absurd h.symm e
      · exact h

/-- An object says less than another one. -/
def EntO (x y : Ob) : Prop := ∀ imm env w r, ObjAt imm env w r x → ObjAt imm env w r y
theorem EntO.refl (x : Ob) : EntO x x := fun _ _ _ _ h => h

/-- Go on with less. -/
structure Less (st st' : St) : Prop where
  T : AllP (fun p => ∃ y, look st.T p.1 = some y ∧ Ent y p.2) st'.T
  H : AllP (fun p => match p.2 with | some ob => ∃ o, look st.H p.1 = some (some o) ∧ EntO o ob | none => True) st'.H
  ct : AllP (fun p => V.among (keysH st'.H) p.2 = true) st'.T
  ch : AllP (fun p => match p.2 with | some ob => V.among (keysH st'.H) ob.c = true | none => True) st'.H

def amongT (ks : List Nat) : List (Nat × V) → Bool
  | [] => true
  | p :: r => V.among ks p.2 && amongT ks r
def amongH (ks : List Nat) : List (Nat × Option Ob) → Bool
  | [] => true
  | (_, some ob) :: r => V.among ks ob.c && amongH ks r
  | (_, none) :: r => amongH ks r
theorem amongT_all {ks : List Nat} : ∀ {T : List (Nat × V)}, amongT ks T = true → AllP (fun p => V.among ks p.2 = true) T
  | [], _ => trivial
  | p :: r, h => by simp only [amongT, Bool.and_eq_true] at h; exact ⟨h.1, amongT_all h.2⟩
theorem amongH_all {ks : List Nat} : ∀ {H : List (Nat × Option Ob)}, amongH ks H = true → AllP (fun p => match p.2 with | some ob => V.among ks ob.c = true | none => True) H
  | [], _ => trivial
  | (_, some ob) :: r, h => by simp only [amongH, Bool.and_eq_true] at h; exact ⟨h.1, amongH_all h.2⟩
  | (_, none) :: r, h => ⟨trivial, amongH_all h⟩
theorem Less.mk' {st st' : St} (T : AllP (fun p => ∃ y, look st.T p.1 = some y ∧ Ent y p.2) st'.T) (H : AllP (fun p => match p.2 with | some ob => ∃ o, look st.H p.1 = some (some o) ∧ EntO o ob | none => True) st'.H)
    (ct : amongT (keysH st'.H) st'.T = true) (ch : amongH (keysH st'.H) st'.H = true) : Less st st' := ⟨T, H, amongT_all ct, amongH_all ch⟩

theorem ObjAt.only {imm : Imm} {env : Env} {w : World} {ks : List Nat} {r : Ref} {ob : Ob} (ha : V.among ks ob.c = true) (h : ObjAt imm env w r ob) : ObjAt imm (env.only ks) w r ob := by
  obtain ⟨h1, h2 | ⟨h2, arr, h3, h4, h5, h6, h7⟩⟩ := h
  · exact ⟨h1, .inl h2⟩
  · exact ⟨h1, .inr ⟨h2, arr, h3, h4, h5, h6, h7.imp_mem fun i x u hx => Rep1.only (amongs_mem (among_flat ha) i x hx)⟩⟩

theorem Holds.less {B : Base} {N : Nat} {imm : Imm} {env : Env} {st st' : St} {a : Act} {w : World} (l : Less st st') (h : Holds B N imm env st a w) : Holds B N imm (env.only (keysH st'.H)) st' a w := by
  have hH : ∀ k ob, lookH st'.H k = some ob → (∃ o, lookH st.H k = some o ∧ EntO o ob) ∧ V.among (keysH st'.H) ob.c = true ∧ (keysH st'.H).contains k = true := by
    intro k ob hk
    have hl : look st'.H k = some (some ob) := by
      unfold lookH at hk
      cases e : look st'.H k with
      | none => rw [e] at hk; cases hk
      | some o => rw [e] at hk; simp at hk; rw [hk]
    have hm := look_mem hl
    obtain ⟨o, ho, he⟩ := l.H.mem _ hm
    have h2 := l.ch.mem _ hm
    exact ⟨⟨o, by simp only at ho; simp [lookH, ho], he⟩, h2, by simp only [keysH, List.contains_iff_mem, List.mem_map]; exact ⟨_, hm, rfl⟩⟩
  refine ⟨fun t x hx => ?_, ⟨fun k ob hk => ?_, ?_, fun k r hk => ?_, h.heap.immlt, ?_⟩, h.immok, ?_, h.keep, fun k r s hk hs => h.agree k r s (Env.only_le _ _ _ _ hk) hs, h.ntmps, h.nodef⟩
  · have hm := look_mem hx
    obtain ⟨y, hy, he⟩ := l.T.mem _ hm
    obtain ⟨u, h1, h2⟩ := h.tmps t y hy
    exact ⟨u, h1, RepV.only (l.ct.mem _ hm) (he _ _ _ _ h2)⟩
  · obtain ⟨⟨o, ho, he⟩, h2, h3⟩ := hH k ob hk
    obtain ⟨r, h4, h5⟩ := h.heap.obj k o ho
    exact ⟨r, by rw [Env.only_eq env h3]; exact h4, (he _ _ _ _ h5).only h2⟩
  · intro j k r s o o' hj hk hr hs
    obtain ⟨⟨p, hp, _⟩, _⟩ := hH j o hj
    obtain ⟨⟨q, hq, _⟩, _⟩ := hH k o' hk
    exact h.heap.inj j k r s p q hp hq (Env.only_le _ _ _ _ hr) (Env.only_le _ _ _ _ hs)
  · unfold Env.only at hk
    split at hk
    · exact look_keys (by assumption)
    · cases hk
  · intro k ob r hk hr
    obtain ⟨⟨p, hp, _⟩, _⟩ := hH k ob hk
    exact h.heap.sep k p r hp (Env.only_le _ _ _ _ hr)
  · intro k ob r hk hr
    obtain ⟨⟨p, hp, _⟩, _⟩ := hH k ob hk
    exact h.own k p r hp (Env.only_le _ _ _ _ hr)

section
variable {P : Program} {N : Nat} {st st' : St} {O : Type} {Q : O → Exit → St → Prop}
theorem X.lessW {c : Code} (l : Less st st') (h : ∃ z, W P N c st' (Q z)) : ∃ z, W P N c st (Q z) := by
  obtain ⟨z, h⟩ := h
  exact ⟨z, ⟨fun B imm env a w H => h.h B imm _ a w (H.less l)⟩⟩
theorem X.lessR {c : Code} {n : Nat} (l : Less st st') (h : ∃ z, WR P N c n st' (Q z)) : ∃ z, WR P N c n st (Q z) := by
  obtain ⟨z, h⟩ := h
  exact ⟨z, ⟨fun B imm env a w H => h.h B imm _ a w (H.less l)⟩⟩

/-- A loop: what holds at each round's head, and a measure. -/
theorem X.loopI {c : Code} {α : Type} (S : α → St) (I : α → Prop) (μ : α → Nat) (a : α) (hi : I a) (l : Less st (S a))
    (round : ∀ (n : Nat) (a : α), I a → μ a < n + 1 → (∀ b, I b → μ b < n → ∃ z, WR P N c n (S b) (Q z)) → ∃ z, W P N c (S a) (thenQ (fun s => WR P N c n s (Q z)) (Q z))) : ∃ z, W P N (.loop c) st (Q z) := by
  have key : ∀ (n : Nat) (b : α), I b → μ b < n → ∃ z, WR P N c n (S b) (Q z) := by
    intro n
    induction n with
    | zero => intro b _ h; omega
    | succ n ih => intro b hb h; exact X.round (round n b hb h ih)
  exact X.loop (μ a + 1) (X.lessR l (key _ a hi (Nat.lt_succ_self _)))
end

theorem look_bool {st : St} {t : Nat} {b : Bool} (h : look st.T t = some (.v (.bool b))) : look st.T t = some (.v (.bool b)) := h

section
variable {P : Program} {N : Nat} {ops : Array Oper} {rest : List Oper} {st : St} {O : Type} {Q : O → Exit → St → Prop}
/-- Two ways, by a truth that stands in a temporary. -/
theorem XS.split (t : Nat) {b : Bool} (_h : look st.T t = some (.v (.bool b))) (h1 : b = true → ∃ z, WS P N ops rest st (Q z)) (h2 : b = false → ∃ z, WS P N ops rest st (Q z)) : ∃ z, WS P N ops rest st (Q z) := by
  cases b
  · exact h2 rfl
  · exact h1 rfl
end

end Go.X
