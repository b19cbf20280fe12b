/- Operations: moves, new objects, loads, stores, addresses. No program in sight. -/
import Derived.Test.YtlgaegjlgabggaaGreatXC
namespace Go.X
open Go

/-- An operation that is carried out. -/
def OpRun (P : Program) (N : Nat) (o : Oper) (ro : List (Operand × V)) (rh : List (Nat × Ob)) (fr : List Nat) (x : V) (dh : List (Nat × Option Ob)) : Prop :=
  ∀ (B : Base) (imm : Imm) (env : Env) (st : St) (a : Act) (w : World) (K : Act → World → Prop) (Q : Exit → Act → World → Prop),
    AllP (fun p => ev st.T p.1 = some p.2) ro → AllP (fun p => lookH st.H p.1 = some p.2) rh → AllP (fun k => look st.H k = none) fr →
    Holds B N imm env st a w →
    (∀ imm' env' a' w', Holds B N imm' env' ⟨putT o.dst x st.T, dh ++ st.H⟩ a' w' → K a' w') → o.wp P a w K Q

theorem blt_lt {a b : Nat} (h : Nat.blt a b = true) : a < b := by simpa [Nat.blt_eq] using h
theorem lt_blt {a b : Nat} (h : a < b) : Nat.blt a b = true := by simpa [Nat.blt_eq] using h

def dlt (N : Nat) : Option Tmp → Bool
  | some d => Nat.blt d N
  | none => true
theorem dlt_lt {N : Nat} {d : Option Tmp} (h : dlt N d = true) : ∀ i, d = some i → i < N := by
  rintro i rfl; exact blt_lt h

section
variable {P : Program} {N : Nat} {o : Oper} {ops : Array Oper} {ro : List (Operand × V)} {rh : List (Nat × Ob)} {fr : List Nat} {x : V} {dh : List (Nat × Option Ob)}

theorem OpOK.plain (h : OpRun P N o ro rh fr x dh) (hg : o.guard = none) : OpOK P N ops o ro rh fr x dh := by
  intro B imm env st a w K Q h1 h2 h3 H hK
  unfold wpBody
  rw [if_pos (by simp [Region.wanted, hg])]
  exact .inl (h B imm env st a w K Q h1 h2 h3 H hK)

theorem yielded_of {B : Base} {imm : Imm} {env : Env} {st : St} {a : Act} {w : World} (H : Holds B N imm env st a w) {j : Nat} {t : Tmp} {b : Bool} (hj : (ops[j]?).bind (·.dst) = some t) (ht : look st.T t = some (.v (.bool b))) :
    yielded ops a.tmps j = some b := by
  obtain ⟨u, h1, h2⟩ := H.tmps t _ ht
  unfold yielded
  rw [hj]
  cases h2
  simp [h1]

/-- A guarded operation, its guard being so. -/
theorem OpOK.guarded (h : OpRun P N o ro rh fr x dh) {j : Nat} {t : Tmp} {b want : Bool} (hg : o.guard = some (j, want)) (hj : (ops[j]?).bind (·.dst) = some t) (hb : b = want) : OpOK P N ops o ((.tmp t, .v (.bool b)) :: ro) rh fr x dh := by
  intro B imm env st a w K Q h1 h2 h3 H hK
  unfold wpBody
  rw [if_pos (by simp only [Region.wanted, hg]; rw [yielded_of H hj h1.1, hb]; simp)]
  exact .inl (h B imm env st a w K Q h1.2 h2 h3 H hK)

/-- A guarded operation, its guard not being so. -/
theorem OpOK.skipped (hd : dlt N o.dst = true) {j : Nat} {t : Tmp} {b want : Bool} (hg : o.guard = some (j, want)) (hj : (ops[j]?).bind (·.dst) = some t) (hb : b = !want) : OpOK P N ops o [(.tmp t, .v (.bool b))] [] [] (.tup []) [] := by
  intro B imm env st a w K Q h1 h2 h3 H hK
  unfold wpBody
  rw [if_neg (by simp only [Region.wanted, hg]; rw [yielded_of H hj h1.1, hb]; cases want <;> simp)]
  exact hK imm env _ w (H.putO (dlt_lt hd) ⟨#[], rfl, RepL.nil _⟩)

theorem OpRun.val (hd : dlt N o.dst = true) (h : ∀ (B : Base) (imm : Imm) (env : Env) (st : St) (a : Act) (w : World),
    AllP (fun p => ev st.T p.1 = some p.2) ro → AllP (fun p => lookH st.H p.1 = some p.2) rh → AllP (fun k => look st.H k = none) fr → Holds B N imm env st a w →
    ∃ u w' imm' env', (execOp a.eval o).run P w = .ok (.value u) w' ∧ Holds B N imm' env' ⟨st.T, dh ++ st.H⟩ a w' ∧ RepV imm' env' w' x u) : OpRun P N o ro rh fr x dh := by
  intro B imm env st a w K Q h1 h2 h3 H hK
  obtain ⟨u, w', imm', env', hr, H', hx⟩ := h B imm env st a w h1 h2 h3 H
  unfold Oper.wp
  rw [hr]
  exact hK imm' env' _ w' (H'.putO (dlt_lt hd) hx)

theorem OpRun.skp (hd : o.dst = none) (h : ∀ (B : Base) (imm : Imm) (env : Env) (st : St) (a : Act) (w : World),
    AllP (fun p => ev st.T p.1 = some p.2) ro → AllP (fun p => lookH st.H p.1 = some p.2) rh → AllP (fun k => look st.H k = none) fr → Holds B N imm env st a w →
    ∃ w' imm' env', (execOp a.eval o).run P w = .ok .skip w' ∧ Holds B N imm' env' ⟨st.T, dh ++ st.H⟩ a w') : OpRun P N o ro rh fr x dh := by
  intro B imm env st a w K Q h1 h2 h3 H hK
  obtain ⟨w', imm', env', hr, H'⟩ := h B imm env st a w h1 h2 h3 H
  unfold Oper.wp
  rw [hr]
  show K (a.put o.dst undef) w'
  rw [hd] at hK ⊢
  exact hK imm' env' _ w' H'
end

section
variable {P : Program} {N : Nat} {d : Option Tmp} {ty : TypeId} {pos : String} {after : Array Edge} {g : Option (Nat × Bool)}

theorem OpRun.move (x : Operand) (y : V) (hd : dlt N d = true) : OpRun P N ⟨d, .move x, ty, pos, after, g⟩ [(x, y)] [] [] y [] :=
  OpRun.val hd fun _ imm env _ a w h1 _ _ H => ⟨a.eval x, w, imm, env, rfl, H, H.ev h1.1⟩
theorem OpRun.assign (x : Operand) (y : V) (hd : dlt N d = true) : OpRun P N ⟨d, .assign x, ty, pos, after, g⟩ [(x, y)] [] [] y [] :=
  OpRun.val hd fun _ imm env _ a w h1 _ _ H => ⟨a.eval x, w, imm, env, rfl, H, H.ev h1.1⟩

theorem RepC_of_V {imm : Imm} {env : Env} {w : World} {x : V} {u : Value} (hx : ∀ l, x ≠ .tup l) (h : RepV imm env w x u) : RepC imm env w x u := by
  cases x <;> first | exact h | exact absurd rfl (hx _)
theorem RepV_of_C {imm : Imm} {env : Env} {w : World} {x : V} {u : Value} (h : RepC imm env w x u) : RepV imm env w x u := by
  cases x <;> first
    | exact h
    | (simp only [RepC, Rep1, Rep0] at h; cases h)

def V.noTup : V → Bool
  | .tup _ => false
  | _ => true
theorem V.noTup_ne {x : V} (h : x.noTup = true) : ∀ l, x ≠ .tup l := by rintro l rfl; cases h

/-- A new object is made of a value's cells. -/
theorem Holds.fresh {B : Base} {imm : Imm} {env : Env} {st : St} {a : Act} {w : World} (H : Holds B N imm env st a w) {j : Nat} (hj : look st.H j = none) (hlo : j < 1000) {x : V} {u : Value} (hx : RepC imm env w x u) (t : TypeId) (grow : Bool) :
    Holds B N imm (env.set j ⟨w.heap.size, u.cells.size, t, false⟩) ⟨st.T, (j, some ⟨x, grow⟩) :: st.H⟩ a (w.alloc (.cells u.cells t)) ∧
      Rep0 imm (env.set j ⟨w.heap.size, u.cells.size, t, false⟩) (w.alloc (.cells u.cells t)) (.ptr j 0) (.pointer (some ⟨w.heap.size, 0, none⟩)) := by
  obtain ⟨hok, hcells⟩ := hx.cells
  have hlen : u.cells.size = V.size x := by rw [← V.flat_length x hok, ← hcells.1]; simp
  refine ⟨?_, ⟨⟨w.heap.size, u.cells.size, t, false⟩, by simp [Env.set], rfl, rfl⟩⟩
  refine H.newobj none (w' := w.alloc (.cells u.cells t)) rfl rfl rfl (by simp) (fun b hb _ => heap_alloc_old w _ hb) (fun k hk => by cases hk) hj hlo (r' := ⟨w.heap.size, u.cells.size, t, false⟩) (fun _ => .inl (Nat.le_refl _)) ?_
  refine ⟨hok, .inr ⟨rfl, u.cells, heap_alloc_new w _, rfl, by rw [hlen]; exact Nat.le_refl _, fun _ => hlen.symm, ?_⟩⟩
  rw [← hlen, ← Array.length_toList, List.take_length]
  refine hcells.imp fun _ _ => Rep1.mono (fun _ h => h) (fun _ _ h => h) fun b hb => heap_alloc_old w _ (H.heap.immlt b hb)

theorem OpRun.box (x : Operand) (t : TypeId) (j : Nat) (y : V) (hd : dlt N d = true) (hlo : Nat.blt j 1000 = true) (hy : y.noTup = true) : OpRun P N ⟨d, .box t x, ty, pos, after, g⟩ [(x, y)] [] [j] (.ptr j 0) [(j, some ⟨y, false⟩)] :=
  OpRun.val hd fun B imm env st a w h1 _ h3 H => by
    obtain ⟨h4, h5⟩ := H.fresh h3.1 (blt_lt hlo) (RepC_of_V (V.noTup_ne hy) (H.ev h1.1)) t false
    exact ⟨_, _, _, _, by simp [execOp, Instr.box, newVar, newRow], h4, h5⟩

theorem OpRun.alloc (t : TypeId) (z : Value) (y : V) (j : Nat) (hd : dlt N d = true) (hlo : Nat.blt j 1000 = true) (hz : ∀ w, (zeroValue t).run P w = .ok z w) (hy : ∀ imm env w, RepC imm env w y z) : OpRun P N ⟨d, .alloc t, ty, pos, after, g⟩ [] [] [j] (.ptr j 0) [(j, some ⟨y, false⟩)] :=
  OpRun.val hd fun B imm env st a w _ _ h3 H => by
    obtain ⟨h4, h5⟩ := H.fresh h3.1 (blt_lt hlo) (hy imm env w) t false
    exact ⟨_, _, _, _, by simp [execOp, Instr.alloc, newVar, newRow, hz], h4, h5⟩
end

/- The part of a value that lies at some cell, of so many cells: the outermost. -/
mutual
def V.at (sz : Nat) : V → Nat → Option V
  | .agg fs, off => match Nat.beq off 0 && Nat.beq (V.sizes fs) sz with
    | true => some (.agg fs)
    | false => V.ats sz fs off
  | .ints k n xs, off => match Nat.beq off 0 && Nat.beq n sz with
    | true => some (.ints k n xs)
    | false => none
  | x, off => match Nat.beq off 0 && Nat.beq 1 sz with
    | true => some x
    | false => none
def V.ats (sz : Nat) : List V → Nat → Option V
  | [], _ => none
  | x :: r, off => match Nat.blt off (V.size x) with
    | true => V.at sz x off
    | false => V.ats sz r (off - V.size x)
end

theorem and_beq {a b c d : Nat} (h : (Nat.beq a b && Nat.beq c d) = true) : a = b ∧ c = d := by
  simp only [Bool.and_eq_true] at h
  exact ⟨Nat.eq_of_beq_eq_true h.1, Nat.eq_of_beq_eq_true h.2⟩

mutual
theorem V.at_spec {sz : Nat} : ∀ {x : V} {off : Nat} {y : V}, V.ok x → V.at sz x off = some y → V.ok y ∧ V.size y = sz ∧ off + sz ≤ V.size x ∧ V.flat y = ((V.flat x).drop off).take sz
  | .agg fs, off, y, hok, h => by
    simp only [V.at] at h
    split at h
    · rename_i e
      obtain ⟨rfl, rfl⟩ := and_beq e
      cases h
      refine ⟨hok, rfl, by simp [V.size], ?_⟩
      simp only [V.flat, List.drop_zero]
      rw [← V.flats_length fs hok, List.take_length]
    · exact V.ats_spec hok h
  | .ints k n xs, off, y, hok, h => by
    simp only [V.at] at h
    split at h
    · rename_i e
      obtain ⟨rfl, rfl⟩ := and_beq e
      cases h
      refine ⟨hok, rfl, by simp [V.size], ?_⟩
      have hl := V.flat_length (.ints k n xs) hok
      simp only [V.size] at hl
      simp only [List.drop_zero]
      rw [List.take_of_length_le (by omega)]
    · cases h
  | .v _, off, y, hok, h | .sli _ _, off, y, hok, h | .sl _, off, y, hok, h | .ptr _ _, off, y, hok, h | .ptrE _ _ _, off, y, hok, h | .osl _ _ _ _ _, off, y, hok, h
  | .dptr _, off, y, hok, h | .fn _ _ _, off, y, hok, h | .tup _, off, y, hok, h | .unk, off, y, hok, h => by
    simp only [V.at] at h
    split at h
    · rename_i e
      obtain ⟨rfl, rfl⟩ := and_beq e
      cases h
      exact ⟨trivial, rfl, by simp [V.size], by simp [V.flat]⟩
    · cases h
theorem V.ats_spec {sz : Nat} : ∀ {l : List V} {off : Nat} {y : V}, V.oks l → V.ats sz l off = some y → V.ok y ∧ V.size y = sz ∧ off + sz ≤ V.sizes l ∧ V.flat y = ((V.flats l).drop off).take sz
  | [], off, y, _, h => by simp [V.ats] at h
  | x :: r, off, y, hok, h => by
    simp only [V.ats] at h
    have hl := V.flat_length x hok.1
    split at h
    · obtain ⟨h1, h2, h3, h4⟩ := V.at_spec hok.1 h
      refine ⟨h1, h2, by simp only [V.sizes]; omega, ?_⟩
      simp only [V.flats]
      rw [h4, List.drop_append_of_le_length (by omega), List.take_append_of_le_length (by simp; omega)]
    · rename_i e
      have e' : V.size x ≤ off := by
        have : ¬ off < V.size x := fun hlt => by rw [lt_blt hlt] at e; cases e
        omega
      obtain ⟨h1, h2, h3, h4⟩ := V.ats_spec hok.2 h
      refine ⟨h1, h2, by simp only [V.sizes]; omega, ?_⟩
      simp only [V.flats]
      rw [h4, List.drop_append, List.drop_eq_nil_of_le (as := V.flat x) (by omega), List.nil_append, hl]
end

/- The array of integers that begins at some cell. -/
mutual
def V.intsAt : V → Nat → Option (IntKind × Nat × List Int)
  | .agg fs, off => V.intsAts fs off
  | .ints k n xs, off => match Nat.beq off 0 with
    | true => some (k, n, xs)
    | false => none
  | _, _ => none
def V.intsAts : List V → Nat → Option (IntKind × Nat × List Int)
  | [], _ => none
  | x :: r, off => match Nat.blt off (V.size x) with
    | true => V.intsAt x off
    | false => V.intsAts r (off - V.size x)
end

mutual
theorem V.intsAt_spec : ∀ {x : V} {off : Nat} {k : IntKind} {n : Nat} {xs : List Int}, V.ok x → V.intsAt x off = some (k, n, xs) → xs.length = n ∧ off + n ≤ V.size x ∧ ((V.flat x).drop off).take n = xs.map fun z => V.v (.int k z)
  | .agg fs, off, k, n, xs, hok, h => V.intsAts_spec hok h
  | .ints k' n' xs', off, k, n, xs, hok, h => by
    simp only [V.intsAt] at h
    split at h
    · rename_i e
      have e := Nat.eq_of_beq_eq_true e
      subst e; cases h
      have hok : xs'.length = n' := hok
      refine ⟨hok, by simp [V.size], ?_⟩
      simp only [V.flat, List.drop_zero]
      rw [List.take_of_length_le (by simp [hok])]
    · cases h
  | .v _, off, k, n, xs, _, h | .sli _ _, off, k, n, xs, _, h | .sl _, off, k, n, xs, _, h | .ptr _ _, off, k, n, xs, _, h | .ptrE _ _ _, off, k, n, xs, _, h | .osl _ _ _ _ _, off, k, n, xs, _, h
  | .dptr _, off, k, n, xs, _, h | .fn _ _ _, off, k, n, xs, _, h | .tup _, off, k, n, xs, _, h | .unk, off, k, n, xs, _, h => by simp [V.intsAt] at h
theorem V.intsAts_spec : ∀ {l : List V} {off : Nat} {k : IntKind} {n : Nat} {xs : List Int}, V.oks l → V.intsAts l off = some (k, n, xs) → xs.length = n ∧ off + n ≤ V.sizes l ∧ ((V.flats l).drop off).take n = xs.map fun z => V.v (.int k z)
  | [], off, k, n, xs, _, h => by simp [V.intsAts] at h
  | x :: r, off, k, n, xs, hok, h => by
    simp only [V.intsAts] at h
    have hl := V.flat_length x hok.1
    split at h
    · obtain ⟨h1, h2, h3⟩ := V.intsAt_spec hok.1 h
      refine ⟨h1, by simp only [V.sizes]; omega, ?_⟩
      simp only [V.flats]
      rw [List.drop_append_of_le_length (by omega), List.take_append_of_le_length (by simp; omega), h3]
    · rename_i e
      have e' : V.size x ≤ off := by
        have : ¬ off < V.size x := fun hlt => by rw [lt_blt hlt] at e; cases e
        omega
      obtain ⟨h1, h2, h3⟩ := V.intsAts_spec hok.2 h
      refine ⟨h1, by simp only [V.sizes]; omega, ?_⟩
      simp only [V.flats]
      rw [List.drop_append, List.drop_eq_nil_of_le (as := V.flat x) (by omega), List.nil_append, hl, h3]
end

/- A part is put in the place of one as great. -/
mutual
def V.put (y : V) : V → Nat → Option V
  | .agg fs, off => match Nat.beq off 0 && Nat.beq (V.sizes fs) (V.size y) with
    | true => some y
    | false => match V.puts y fs off with
      | some l => some (.agg l)
      | none => none
  | .ints _ n _, off => match Nat.beq off 0 && Nat.beq n (V.size y) with
    | true => some y
    | false => none
  | _, off => match Nat.beq off 0 && Nat.beq 1 (V.size y) with
    | true => some y
    | false => none
def V.puts (y : V) : List V → Nat → Option (List V)
  | [], _ => none
  | x :: r, off => match Nat.blt off (V.size x) with
    | true => match V.put y x off with
      | some x' => some (x' :: r)
      | none => none
    | false => match V.puts y r (off - V.size x) with
      | some r' => some (x :: r')
      | none => none
end

mutual
theorem V.put_spec {y : V} (hy : V.ok y) : ∀ {x : V} {off : Nat} {z : V}, V.ok x → V.put y x off = some z → V.ok z ∧ V.size z = V.size x ∧ off + V.size y ≤ V.size x ∧ V.flat z = (V.flat x).take off ++ V.flat y ++ (V.flat x).drop (off + V.size y)
  | .agg fs, off, z, hok, h => by
    simp only [V.put] at h
    have hl := V.flats_length fs hok
    split at h
    · rename_i e
      obtain ⟨rfl, e2⟩ := and_beq e
      cases h
      refine ⟨hy, by simp only [V.size]; exact e2.symm, by simp only [V.size]; omega, ?_⟩
      simp only [V.flat, List.take_zero, List.nil_append, Nat.zero_add]
      rw [List.drop_eq_nil_of_le (by omega), List.append_nil]
    · split at h
      · cases h
        rename_i l e
        exact V.puts_spec hy hok e
      · cases h
  | .ints k n xs, off, z, hok, h => by
    simp only [V.put] at h
    split at h
    · rename_i e
      obtain ⟨rfl, e2⟩ := and_beq e
      cases h
      have hl := V.flat_length (.ints k n xs) hok
      simp only [V.size] at hl
      refine ⟨hy, by simp only [V.size]; exact e2.symm, by simp only [V.size]; omega, ?_⟩
      simp only [List.take_zero, List.nil_append, Nat.zero_add]
      rw [List.drop_eq_nil_of_le (by omega), List.append_nil]
    · cases h
  | .v _, off, z, hok, h | .sli _ _, off, z, hok, h | .sl _, off, z, hok, h | .ptr _ _, off, z, hok, h | .ptrE _ _ _, off, z, hok, h | .osl _ _ _ _ _, off, z, hok, h
  | .dptr _, off, z, hok, h | .fn _ _ _, off, z, hok, h | .tup _, off, z, hok, h | .unk, off, z, hok, h => by
    simp only [V.put] at h
    split at h
    · rename_i e
      obtain ⟨rfl, e2⟩ := and_beq e
      cases h
      refine ⟨hy, by simp only [V.size]; exact e2.symm, by simp only [V.size]; omega, ?_⟩
      simp only [V.flat, List.take_zero, List.nil_append, Nat.zero_add]
      rw [List.drop_eq_nil_of_le (by simp; omega), List.append_nil]
    · cases h
theorem V.puts_spec {y : V} (hy : V.ok y) : ∀ {l : List V} {off : Nat} {z : List V}, V.oks l → V.puts y l off = some z → V.oks z ∧ V.sizes z = V.sizes l ∧ off + V.size y ≤ V.sizes l ∧ V.flats z = (V.flats l).take off ++ V.flat y ++ (V.flats l).drop (off + V.size y)
  | [], off, z, _, h => by simp [V.puts] at h
  | x :: r, off, z, hok, h => by
    simp only [V.puts] at h
    have hl := V.flat_length x hok.1
    split at h
    · rename_i e
      have e' : off < V.size x := blt_lt e
      split at h
      · rename_i x' hx'
        cases h
        obtain ⟨h1, h2, h3, h4⟩ := V.put_spec hy hok.1 hx'
        refine ⟨⟨h1, hok.2⟩, by simp only [V.sizes, h2], by simp only [V.sizes]; omega, ?_⟩
        simp only [V.flats]
        rw [h4, List.take_append_of_le_length (by omega), List.drop_append_of_le_length (by omega)]
        simp only [List.append_assoc]
      · cases h
    · rename_i e
      have e' : V.size x ≤ off := by
        have : ¬ off < V.size x := fun hlt => by rw [lt_blt hlt] at e; cases e
        omega
      split at h
      · rename_i r' hr'
        cases h
        obtain ⟨h1, h2, h3, h4⟩ := V.puts_spec hy hok.2 hr'
        refine ⟨⟨hok.1, h1⟩, by simp only [V.sizes, h2], by simp only [V.sizes]; omega, ?_⟩
        have t1 : (V.flat x ++ V.flats r).take off = V.flat x ++ (V.flats r).take (off - V.size x) := by rw [List.take_append, List.take_of_length_le (l := V.flat x) (by omega), hl]
        have t2 : (V.flat x ++ V.flats r).drop (off + V.size y) = (V.flats r).drop (off - V.size x + V.size y) := by
          rw [List.drop_append, List.drop_eq_nil_of_le (as := V.flat x) (by omega), List.nil_append, hl]
          congr 1
          omega
        simp only [V.flats]
        rw [h4, t1, t2]
        simp only [List.append_assoc]
      · cases h
end

/- The array of integers that begins at some cell, another in its place. -/
mutual
def V.setInts (ys : List Int) : V → Nat → Option V
  | .agg fs, off => match V.setIntss ys fs off with
    | some l => some (.agg l)
    | none => none
  | .ints k n _, off => match Nat.beq off 0 with
    | true => some (.ints k n ys)
    | false => none
  | _, _ => none
def V.setIntss (ys : List Int) : List V → Nat → Option (List V)
  | [], _ => none
  | x :: r, off => match Nat.blt off (V.size x) with
    | true => match V.setInts ys x off with
      | some x' => some (x' :: r)
      | none => none
    | false => match V.setIntss ys r (off - V.size x) with
      | some r' => some (x :: r')
      | none => none
end

mutual
theorem V.setInts_spec {ys : List Int} : ∀ {x : V} {off : Nat} {k : IntKind} {n : Nat} {xs : List Int} {z : V}, V.ok x → ys.length = n → V.intsAt x off = some (k, n, xs) → V.setInts ys x off = some z →
    V.ok z ∧ V.size z = V.size x ∧ V.flat z = (V.flat x).take off ++ (ys.map fun z => V.v (.int k z)) ++ (V.flat x).drop (off + n)
  | .agg fs, off, k, n, xs, z, hok, hn, h, hz => by
    simp only [V.setInts] at hz
    split at hz
    · cases hz
      rename_i l e
      exact V.setIntss_spec hok hn h e
    · cases hz
  | .ints k' n' xs', off, k, n, xs, z, hok, hn, h, hz => by
    simp only [V.intsAt] at h
    simp only [V.setInts] at hz
    split at h
    · rename_i e
      rw [e] at hz
      have e := Nat.eq_of_beq_eq_true e
      subst e; cases h; cases hz
      have hok : xs'.length = n' := hok
      refine ⟨hn, rfl, ?_⟩
      simp only [V.flat, List.take_zero, List.nil_append, Nat.zero_add]
      rw [List.drop_eq_nil_of_le (by simp [hok]), List.append_nil]
    · cases h
  | .v _, off, k, n, xs, z, _, _, h, _ | .sli _ _, off, k, n, xs, z, _, _, h, _ | .sl _, off, k, n, xs, z, _, _, h, _ | .ptr _ _, off, k, n, xs, z, _, _, h, _ | .ptrE _ _ _, off, k, n, xs, z, _, _, h, _
  | .osl _ _ _ _ _, off, k, n, xs, z, _, _, h, _ | .dptr _, off, k, n, xs, z, _, _, h, _ | .fn _ _ _, off, k, n, xs, z, _, _, h, _ | .tup _, off, k, n, xs, z, _, _, h, _ | .unk, off, k, n, xs, z, _, _, h, _ => by simp [V.intsAt] at h
theorem V.setIntss_spec {ys : List Int} : ∀ {l : List V} {off : Nat} {k : IntKind} {n : Nat} {xs : List Int} {z : List V}, V.oks l → ys.length = n → V.intsAts l off = some (k, n, xs) → V.setIntss ys l off = some z →
    V.oks z ∧ V.sizes z = V.sizes l ∧ V.flats z = (V.flats l).take off ++ (ys.map fun z => V.v (.int k z)) ++ (V.flats l).drop (off + n)
  | [], off, k, n, xs, z, _, _, h, _ => by simp [V.intsAts] at h
  | x :: r, off, k, n, xs, z, hok, hn, h, hz => by
    simp only [V.intsAts] at h
    simp only [V.setIntss] at hz
    have hl := V.flat_length x hok.1
    split at h
    · rename_i e
      rw [e] at hz
      simp only at hz
      have e' : off < V.size x := blt_lt e
      split at hz
      · rename_i x' hx'
        cases hz
        obtain ⟨h1, h2, h3⟩ := V.setInts_spec hok.1 hn h hx'
        have h5 := (V.intsAt_spec hok.1 h).2.1
        refine ⟨⟨h1, hok.2⟩, by simp only [V.sizes, h2], ?_⟩
        simp only [V.flats]
        rw [h3, List.take_append_of_le_length (by omega), List.drop_append_of_le_length (by omega)]
        simp only [List.append_assoc]
      · cases hz
    · rename_i e
      rw [e] at hz
      simp only at hz
      have e' : V.size x ≤ off := by
        have : ¬ off < V.size x := fun hlt => by rw [lt_blt hlt] at e; cases e
        omega
      split at hz
      · rename_i r' hr'
        cases hz
        obtain ⟨h1, h2, h3⟩ := V.setIntss_spec hok.2 hn h hr'
        refine ⟨⟨hok.1, h1⟩, by simp only [V.sizes, h2], ?_⟩
        have t1 : (V.flat x ++ V.flats r).take off = V.flat x ++ (V.flats r).take (off - V.size x) := by rw [List.take_append, List.take_of_length_le (l := V.flat x) (by omega), hl]
        have t2 : (V.flat x ++ V.flats r).drop (off + n) = (V.flats r).drop (off - V.size x + n) := by
          rw [List.drop_append, List.drop_eq_nil_of_le (as := V.flat x) (by omega), List.nil_append, hl]
          congr 1
          omega
        simp only [V.flats]
        rw [h3, t1, t2]
        simp only [List.append_assoc]
      · cases hz
end

end Go.X
