/- Operations: loads, stores, addresses, numbers. No program in sight. -/
import Derived.Test.YtlgaegjlgabggaaGreatXD
namespace Go.X
open Go

theorem addr_add (b o n : Nat) : (⟨b, o, none⟩ : Addr).add n = ⟨b, o + n, none⟩ := by unfold Addr.add; split <;> simp_all

/-- What is known of an object that a pointer names. -/
structure ObjR (imm : Imm) (env : Env) (w : World) (ob : Ob) (r : Ref) (arr : Array Value) : Prop where
  nil : r.nil = false
  ok : V.ok ob.c
  blk : w.heap[r.blk]? = some (.cells arr r.ty (0, 0))
  tot : arr.size = r.tot
  le : V.size ob.c ≤ r.tot
  box : ob.grow = false → V.size ob.c = r.tot
  rep : RepL (Rep1 imm env w) ob.c.flat (arr.toList.take (V.size ob.c))

theorem Holds.objR {B : Base} {N : Nat} {imm : Imm} {env : Env} {st : St} {a : Act} {w : World} (H : Holds B N imm env st a w) {k : Nat} {ob : Ob} {r : Ref} (ho : lookH st.H k = some ob) (hr : env k = some r) (hn : r.nil = false) : ∃ arr, ObjR imm env w ob r arr := by
  obtain ⟨s, h1, h2⟩ := H.heap.obj k ob ho
  rw [hr] at h1; cases h1
  obtain ⟨h3, ⟨h4, _⟩ | ⟨_, arr, h5, h6, h7, h8, h9⟩⟩ := h2
  · rw [hn] at h4; cases h4
  · exact ⟨arr, hn, h3, h5, h6, h7, h8, h9⟩

/-- The cells of a part. -/
theorem ObjR.cells {imm : Imm} {env : Env} {w : World} {ob : Ob} {r : Ref} {arr : Array Value} (h : ObjR imm env w ob r arr) {off sz : Nat} {ys : List V} (hy : ys = (ob.c.flat.drop off).take sz) (hle : off + sz ≤ V.size ob.c) :
    ∃ cs : List Value, cs.length = sz ∧ RepL (Rep1 imm env w) ys cs ∧ (∀ (j : Nat) (v : Value), cs[j]? = some v → w.cell? ⟨r.blk, off + j, none⟩ = some v) := by
  refine ⟨((arr.toList.take (V.size ob.c)).drop off).take sz, ?_, ?_, ?_⟩
  · simp only [List.length_take, List.length_drop, Array.length_toList]
    have := h.tot; have := h.le; omega
  · rw [hy]; exact (h.rep.drop off).take sz
  · intro j v hj
    rw [cell_of_row w r.blk _ arr _ _ h.blk]
    rw [List.getElem?_take] at hj
    split at hj
    · rw [List.getElem?_drop, List.getElem?_take] at hj
      split at hj
      · simpa using hj
      · cases hj
    · cases hj

/-- A part of an object is written. -/
theorem Holds.write {B : Base} {N : Nat} {imm : Imm} {env : Env} {st : St} {a : Act} {w : World} (H : Holds B N imm env st a w) {k : Nat} {ob : Ob} {r : Ref} (ho : lookH st.H k = some ob) (hr : env k = some r) {arr : Array Value} (R : ObjR imm env w ob r arr)
    {off : Nat} {ys : List V} {vs : List Value} (hv : RepL (Rep1 imm env w) ys vs) (hle : off + ys.length ≤ V.size ob.c) {c' : V} (hok : V.ok c') (hsz : V.size c' = V.size ob.c)
    (hfl : V.flat c' = ob.c.flat.take off ++ ys ++ ob.c.flat.drop (off + ys.length)) :
    Holds B N imm env ⟨st.T, (k, some ⟨c', ob.grow⟩) :: st.H⟩ a (w.setRow r.blk (arr.toList.take off ++ vs ++ arr.toList.drop (off + vs.length)).toArray) := by
  have hsep : ∀ b, imm b → b ≠ r.blk := fun b hb e => H.heap.sep k ob r ho hr R.nil (e ▸ hb)
  have htot := R.tot
  have hle2 := R.le
  have hvl := hv.1
  refine H.store (w' := w.setRow r.blk (arr.toList.take off ++ vs ++ arr.toList.drop (off + vs.length)).toArray) ho hr R.nil rfl rfl rfl (by simp) (fun b hb => setRow_other w _ _ _ hb) ⟨hok, .inr ⟨R.nil, _, setRow_heap w r.blk arr _ _ _ R.blk, ?_, ?_, ?_, ?_⟩⟩
  · simp only [List.size_toArray, List.length_append, List.length_take, List.length_drop, Array.length_toList]
    omega
  · show V.size c' ≤ r.tot
    omega
  · intro hg; show V.size c' = r.tot
    rw [hsz]; exact R.box hg
  · show RepL _ (V.flat c') (List.take (V.size c') _)
    rw [hsz, hfl]
    have e : List.take (V.size ob.c) (arr.toList.take off ++ vs ++ arr.toList.drop (off + vs.length)).toArray.toList = (arr.toList.take (V.size ob.c)).take off ++ vs ++ (arr.toList.take (V.size ob.c)).drop (off + vs.length) := by
      apply List.ext_getElem?
      intro i
      simp only [List.getElem?_take, List.getElem?_append, List.length_append, List.length_take, Array.length_toList, List.getElem?_drop]
      have h1 : min off arr.size = off := by omega
      have h2 : min off (min (V.size ob.c) arr.size) = off := by omega
      rw [h1, h2]
      by_cases c1 : i < off
      · have c2 : i < V.size ob.c := by omega
        have c3 : i < off + vs.length := by omega
        simp [c1, c2, c3]
      · by_cases c2 : i < off + vs.length
        · have c3 : i < V.size ob.c := by omega
          simp [c1, c2, c3]
        · by_cases c3 : i < V.size ob.c
          · simp only [c1, c2, c3, if_true, if_false]
            rw [if_pos (by omega)]
          · simp only [c1, c2, c3, if_false]
            rw [if_neg (by omega)]
    rw [e, ← hvl]
    have hm := fun (x : V) (u : Value) (h : Rep1 imm env w x u) => Rep1.mono (imm' := imm) (env' := env) (w' := w.setRow r.blk (arr.toList.take off ++ vs ++ arr.toList.drop (off + vs.length)).toArray) (fun _ h => h) (fun _ _ h => h) (fun b hb => setRow_other w _ _ _ (hsep b hb)) h
    exact ((R.rep.take off).append hv |>.append (R.rep.drop _)).imp hm

def V.isAgg : V → Bool
  | .agg _ => true
  | .ints _ _ _ => true
  | _ => false
def V.isOne : V → Bool
  | .agg _ => false
  | .ints _ _ _ => false
  | .tup _ => false
  | _ => true

theorem RepV_of_1 {imm : Imm} {env : Env} {w : World} {x : V} {u : Value} (hx : x.isOne = true) (h : Rep1 imm env w x u) : RepV imm env w x u := by
  cases x <;> first | exact h | (simp [V.isOne] at hx)
theorem flat_one {x : V} (hx : x.isOne = true) : V.flat x = [x] := by cases x <;> first | rfl | (simp [V.isOne] at hx)

/- The one cell at some place. -/
mutual
def V.leaf : V → Nat → Option V
  | .agg fs, off => V.leafs fs off
  | .ints _ _ _, _ => none
  | .tup _, _ => none
  | x, off => match Nat.beq off 0 with
    | true => some x
    | false => none
def V.leafs : List V → Nat → Option V
  | [], _ => none
  | x :: r, off => match Nat.blt off (V.size x) with
    | true => V.leaf x off
    | false => V.leafs r (off - V.size x)
end
mutual
theorem V.leaf_spec : ∀ {x : V} {off : Nat} {y : V}, V.ok x → V.leaf x off = some y → y.isOne = true ∧ off < V.size x ∧ (V.flat x)[off]? = some y
  | .agg fs, off, y, hok, h => V.leafs_spec hok h
  | .ints _ _ _, off, y, hok, h | .tup _, off, y, hok, h => by simp [V.leaf] at h
  | .v _, off, y, hok, h | .sli _ _, off, y, hok, h | .sl _, off, y, hok, h | .ptr _ _, off, y, hok, h | .ptrE _ _ _, off, y, hok, h | .osl _ _ _ _ _, off, y, hok, h
  | .dptr _, off, y, hok, h | .fn _ _ _, off, y, hok, h | .unk, off, y, hok, h => by
    simp only [V.leaf] at h
    split at h
    · rename_i e
      have e := Nat.eq_of_beq_eq_true e
      subst e; cases h
      exact ⟨rfl, by simp [V.size], rfl⟩
    · cases h
theorem V.leafs_spec : ∀ {l : List V} {off : Nat} {y : V}, V.oks l → V.leafs l off = some y → y.isOne = true ∧ off < V.sizes l ∧ (V.flats l)[off]? = some y
  | [], off, y, _, h => by simp [V.leafs] at h
  | x :: r, off, y, hok, h => by
    simp only [V.leafs] at h
    have hl := V.flat_length x hok.1
    split at h
    · obtain ⟨h1, h2, h3⟩ := V.leaf_spec hok.1 h
      refine ⟨h1, by simp only [V.sizes]; omega, ?_⟩
      simp only [V.flats]
      rw [List.getElem?_append_left (by omega)]; exact h3
    · rename_i e
      have e' : V.size x ≤ off := by
        have : ¬ off < V.size x := fun hlt => by rw [lt_blt hlt] at e; cases e
        omega
      obtain ⟨h1, h2, h3⟩ := V.leafs_spec hok.2 h
      refine ⟨h1, by simp only [V.sizes]; omega, ?_⟩
      simp only [V.flats]
      rw [List.getElem?_append_right (by omega), hl]; exact h3
end

section
variable {P : Program} {N : Nat} {d : Option Tmp} {ty : TypeId} {pos : String} {after : Array Edge} {g : Option (Nat × Bool)}

theorem OpRun.loadA (t : TypeId) (x : Operand) (k off sz : Nat) (ob : Ob) (y : V) (hd : dlt N d = true) (hag : ∀ w, (isAgg t).run P w = .ok true w) (hsz : ∀ w, (sizeOf t).run P w = .ok sz w)
    (hat : V.at sz ob.c off = some y) (hy : y.isAgg = true) : OpRun P N ⟨d, .load t x, ty, pos, after, g⟩ [(x, .ptr k off)] [(k, ob)] [] y [] :=
  OpRun.val hd fun B imm env st a w h1 h2 _ H => by
    obtain ⟨r, hr, hn, hx⟩ := H.ev h1.1
    have ho : lookH st.H k = some ob := h2.1
    obtain ⟨arr, R⟩ := H.objR ho hr hn
    obtain ⟨h3, h4, h5, h6⟩ := V.at_spec R.ok hat
    obtain ⟨cs, hl, hrep, hc⟩ := R.cells h6 h5
    refine ⟨.agg cs.toArray, w, imm, env, ?_, H, ?_⟩
    · have := run_loadCells_list (P := P) w ⟨r.blk, off, none⟩ cs (fun j v hj => by rw [addr_add]; exact hc j v hj)
      rw [hl] at this
      simp [execOp, Instr.loadAt, hx, Instr.sureAddr, loadVar, hag, hsz, this]
    · refine RepV_of_C (RepC.of_cells h3 hrep ?_)
      cases y <;> simp [V.isAgg] at hy <;> simp

theorem OpRun.load1 (t : TypeId) (x : Operand) (k off : Nat) (ob : Ob) (y : V) (hd : dlt N d = true) (hag : ∀ w, (isAgg t).run P w = .ok false w)
    (hat : V.leaf ob.c off = some y) : OpRun P N ⟨d, .load t x, ty, pos, after, g⟩ [(x, .ptr k off)] [(k, ob)] [] y [] :=
  OpRun.val hd fun B imm env st a w h1 h2 _ H => by
    obtain ⟨r, hr, hn, hx⟩ := H.ev h1.1
    have ho : lookH st.H k = some ob := h2.1
    obtain ⟨arr, R⟩ := H.objR ho hr hn
    obtain ⟨h3, h4, h5⟩ := V.leaf_spec R.ok hat
    obtain ⟨u, hu, hrep⟩ := R.rep.2 _ _ h5
    have hc : w.cell? ⟨r.blk, off, none⟩ = some u := by
      rw [cell_of_row w r.blk _ arr _ _ R.blk]
      rw [List.getElem?_take, if_pos h4] at hu
      simpa using hu
    exact ⟨u, w, imm, env, by simp [execOp, Instr.loadAt, hx, Instr.sureAddr, loadVar, hag, hc], H, RepV_of_1 h3 hrep⟩

theorem OpRun.loadE (t : TypeId) (x : Operand) (k base i n : Nat) (ob : Ob) (kd : IntKind) (xs : List Int) (hd : dlt N d = true) (hag : ∀ w, (isAgg t).run P w = .ok false w)
    (hat : V.intsAt ob.c base = some (kd, n, xs)) (hi : i < n) : OpRun P N ⟨d, .load t x, ty, pos, after, g⟩ [(x, .ptrE k base i)] [(k, ob)] [] (.v (.int kd (xs.getD i 0))) [] :=
  OpRun.val hd fun B imm env st a w h1 h2 _ H => by
    obtain ⟨r, hr, hn, hx⟩ := H.ev h1.1
    have ho : lookH st.H k = some ob := h2.1
    obtain ⟨arr, R⟩ := H.objR ho hr hn
    obtain ⟨h3, h4, h5⟩ := V.intsAt_spec R.ok hat
    obtain ⟨cs, hl, hrep, hc⟩ := R.cells h5.symm h4
    obtain ⟨hcs, hgs⟩ := RepL_ints_inv hrep
    have hv : cs[i]? = some (.int kd (xs.getD i 0)) := by
      rw [hcs, List.getElem?_map, List.getElem?_eq_getElem (by omega)]
      simp [List.getD, List.getElem?_eq_getElem (show i < xs.length by omega)]
    exact ⟨_, w, imm, env, by simp [execOp, Instr.loadAt, hx, Instr.sureAddr, loadVar, hag, hc i _ hv], H, .v _ (good_int.2 (by
      have : xs.getD i 0 ∈ xs := by rw [List.getD, List.getElem?_eq_getElem (show i < xs.length by omega)]; exact List.getElem_mem _
      exact hgs _ this))⟩

theorem Rep1_of_D {imm : Imm} {env : Env} {w : World} {x : V} {u : Value} (h : RepD imm w x u) : Rep1 imm env w x u := by
  cases h with
  | v _ h1 => exact .v _ h1
  | sliE k a c => exact .sliE k a c
  | sli k xs b off c hb hc hm hg h => exact .sli k xs b off c hb hc hm hg h
  | slE a c => exact .slE a c
  | sl es sz b off c us hb hc hm hsz h hr => exact .sl es sz b off c us hb hc hm hsz h hr
  | dptr x b off us hb hok h hr => exact .dptr x b off us hb hok h hr

theorem dptr_inv0 {imm : Imm} {w : World} {z : V} {u : Value} (h : RepD imm w z u) : ∀ x, z = .dptr x →
    ∃ b off, ∃ cs : List Value, u = .pointer (some ⟨b, off, none⟩) ∧ imm b ∧ V.ok x ∧ cs.length = x.flat.length ∧ RepL (RepD imm w) x.flat cs ∧ (∀ (j : Nat) (v : Value), cs[j]? = some v → w.cell? ⟨b, off + j, none⟩ = some v) := by
  cases h with
  | v x h1 => intro x hx; cases hx
  | sliE k a c => intro x hx; cases hx
  | sli k xs b off c hb hc hm hg h => intro x hx; cases hx
  | slE a c => intro x hx; cases hx
  | sl es sz b off c us hb hc hm hsz h hr => intro x hx; cases hx
  | dptr q b off us hb hok h hr =>
    intro x hx
    have hx : q = x := by injection hx
    rw [← hx]
    refine ⟨b, off, (List.range q.flat.length).map us, rfl, hb, hok, by simp, ⟨by simp, fun i y hy => ?_⟩, fun j v hj => ?_⟩
    · have hi : i < q.flat.length := (List.getElem?_eq_some_iff.1 hy).1
      exact ⟨us i, by simp [hi], hr i y hy⟩
    · rw [List.getElem?_map] at hj
      have hi : j < q.flat.length := by
        rcases Nat.lt_or_ge j q.flat.length with h2 | h2
        · exact h2
        · rw [List.getElem?_eq_none (by simpa using h2)] at hj; cases hj
      rw [List.getElem?_range hi] at hj
      cases hj
      exact h j _ (List.getElem?_eq_getElem hi)

theorem dptr_inv {imm : Imm} {w : World} {x : V} {u : Value} (h : RepD imm w (.dptr x) u) :
    ∃ b off, ∃ cs : List Value, u = .pointer (some ⟨b, off, none⟩) ∧ imm b ∧ V.ok x ∧ cs.length = x.flat.length ∧ RepL (RepD imm w) x.flat cs ∧ (∀ (j : Nat) (v : Value), cs[j]? = some v → w.cell? ⟨b, off + j, none⟩ = some v) := dptr_inv0 h x rfl

/-- Loads of data: what lies there. -/
theorem OpRun.loadD1 (t : TypeId) (x : Operand) (y : V) (hd : dlt N d = true) (hag : ∀ w, (isAgg t).run P w = .ok false w) (hy : y.isOne = true) : OpRun P N ⟨d, .load t x, ty, pos, after, g⟩ [(x, .dptr y)] [] [] y [] :=
  OpRun.val hd fun B imm env st a w h1 _ _ H => by
    obtain ⟨b, off, cs, hx, hb, hok, hl, hrep, hc⟩ := dptr_inv (H.ev h1.1)
    rw [flat_one hy] at hrep
    obtain ⟨u, t', rfl, h2, _⟩ := hrep.cons_inv
    exact ⟨u, w, imm, env, by have := hc 0 u rfl; simp at this; simp [execOp, Instr.loadAt, hx, Instr.sureAddr, loadVar, hag, this], H, RepV_of_1 hy (Rep1_of_D h2)⟩
theorem OpRun.loadDA (t : TypeId) (x : Operand) (sz : Nat) (y : V) (hd : dlt N d = true) (hag : ∀ w, (isAgg t).run P w = .ok true w) (hsz : ∀ w, (sizeOf t).run P w = .ok sz w) (hy : y.isAgg = true) (hs : V.size y = sz) :
    OpRun P N ⟨d, .load t x, ty, pos, after, g⟩ [(x, .dptr y)] [] [] y [] :=
  OpRun.val hd fun B imm env st a w h1 _ _ H => by
    obtain ⟨b, off, cs, hx, hb, hok, hl, hrep, hc⟩ := dptr_inv (H.ev h1.1)
    have hl2 : cs.length = sz := by rw [hl, V.flat_length y hok, hs]
    refine ⟨.agg cs.toArray, w, imm, env, ?_, H, ?_⟩
    · have := run_loadCells_list (P := P) w ⟨b, off, none⟩ cs (fun j v hj => by rw [addr_add]; exact hc j v hj)
      rw [hl2] at this
      simp [execOp, Instr.loadAt, hx, Instr.sureAddr, loadVar, hag, hsz, this]
    · refine RepV_of_C (RepC.of_cells hok (hrep.imp fun _ _ => Rep1_of_D) ?_)
      cases y <;> simp [V.isAgg] at hy <;> simp

/-- Stores into objects. -/
theorem OpRun.store (t : TypeId) (x z : Operand) (k off sz : Nat) (ob : Ob) (y c' : V) (hag : ∀ w, (sizeOf t).run P w = .ok sz w) (hs : V.size y = sz) (hy : y.noTup = true) (hput : V.put y ob.c off = some c') :
    OpRun P N ⟨none, .store t x z, ty, pos, after, g⟩ [(x, .ptr k off), (z, y)] [(k, ob)] [] (.tup []) [(k, some ⟨c', ob.grow⟩)] :=
  OpRun.skp rfl fun B imm env st a w h1 h2 _ H => by
    obtain ⟨r, hr, hn, hx⟩ := H.ev h1.1
    have ho : lookH st.H k = some ob := h2.1
    obtain ⟨arr, R⟩ := H.objR ho hr hn
    have hz := (RepC_of_V (V.noTup_ne hy) (H.ev h1.2.1)).cells
    obtain ⟨h3, h4, h5, h6⟩ := V.put_spec hz.1 R.ok hput
    have hyl := V.flat_length y hz.1
    have hcl : (a.eval z).cells.toList.length = sz := by rw [hz.2.1, hyl, hs]
    have hcl' : (a.eval z).cells.size = sz := by simpa using hcl
    refine ⟨_, imm, env, ?_, H.write ho hr R (off := off) (ys := y.flat) (vs := (a.eval z).cells.toList) hz.2 (by omega) h3 h4 (by rw [h6, hyl])⟩
    have hst := run_storeCells_at P r.blk off r.ty (a.eval z).cells.toList 0 arr w R.blk (by have := R.tot; have := R.le; omega) (fun v hv => by
      obtain ⟨i, hi⟩ := List.getElem?_of_mem hv
      have hlt : i < y.flat.length := by rw [← hz.2.1]; exact (List.getElem?_eq_some_iff.1 hi).1
      obtain ⟨u, hu, hrep⟩ := hz.2.2 i _ (List.getElem?_eq_getElem hlt)
      rw [hi] at hu; cases hu
      exact hrep.one)
    simp only [Nat.add_zero] at hst
    simp [execOp, Instr.storeAt, hx, Instr.sureAddr, storeVar, hag, hcl', hst]

theorem OpRun.storeE (t : TypeId) (x z : Operand) (k base i n : Nat) (ob : Ob) (kd : IntKind) (xs : List Int) (q : Int) (c' : V) (hag : ∀ w, (sizeOf t).run P w = .ok 1 w)
    (hat : V.intsAt ob.c base = some (kd, n, xs)) (hi : i < n) (hput : V.setInts (xs.set i q) ob.c base = some c') :
    OpRun P N ⟨none, .store t x z, ty, pos, after, g⟩ [(x, .ptrE k base i), (z, .v (.int kd q))] [(k, ob)] [] (.tup []) [(k, some ⟨c', ob.grow⟩)] :=
  OpRun.skp rfl fun B imm env st a w h1 h2 _ H => by
    obtain ⟨r, hr, hn, hx⟩ := H.ev h1.1
    have ho : lookH st.H k = some ob := h2.1
    obtain ⟨arr, R⟩ := H.objR ho hr hn
    have hz := H.ev h1.2.1
    have hz' : a.eval z = .int kd q := by generalize a.eval z = u at hz; cases hz; rfl
    obtain ⟨h3, h4, h5⟩ := V.intsAt_spec R.ok hat
    obtain ⟨h6, h7, h8⟩ := V.setInts_spec R.ok (by simpa using h3) hat hput
    refine ⟨_, imm, env, ?_, H.write ho hr R (off := base + i) (ys := [.v (.int kd q)]) (vs := [.int kd q]) ((RepL.nil _).cons (hz' ▸ hz)) (by simp; omega) h6 h7 ?_⟩
    · have hst := run_storeCells_at P r.blk (base + i) r.ty [.int kd q] 0 arr w R.blk (by have := R.tot; have := R.le; simp; omega) (by simp [Value.oneCell'])
      simp only [Nat.add_zero] at hst
      simp [execOp, Instr.storeAt, hx, hz', Instr.sureAddr, storeVar, hag, Value.cells, hst]
    · have hl := V.flat_length ob.c R.ok
      rw [h8]
      have e1 : ob.c.flat = ob.c.flat.take base ++ (xs.map fun z => V.v (.int kd z)) ++ ob.c.flat.drop (base + n) := by
        rw [← h5, List.append_assoc, ← List.drop_drop, List.take_append_drop, List.take_append_drop]
      have e2 : (List.map (fun z => V.v (Value.int kd z)) (xs.set i q)) = (xs.map fun z => V.v (.int kd z)).take i ++ [.v (.int kd q)] ++ (xs.map fun z => V.v (.int kd z)).drop (i + 1) := by
        apply List.ext_getElem?
        intro j
        simp only [List.getElem?_map, List.getElem?_set, List.getElem?_append, List.length_append, List.length_take, List.length_map, List.length_singleton, List.getElem?_take, List.getElem?_drop]
        have : min i xs.length = i := by omega
        rw [this]
        by_cases c1 : j < i
        · have c2 : i ≠ j := by omega
          have c3 : j < i + 1 := by omega
          simp [c1, c2, c3]
        · by_cases c2 : i = j
          · subst c2
            have c3 : i < xs.length := by omega
            simp [c3]
          · have c3 : ¬ j < i + 1 := by omega
            simp only [c1, c2, c3, if_false]
            congr 1
            congr 1
            omega
      have hA : (ob.c.flat.take base).length = base := by rw [List.length_take, hl]; omega
      generalize ob.c.flat.take base = A at *
      generalize ob.c.flat.drop (base + n) = C at *
      rw [e2, e1]
      generalize hM : (xs.map fun z => V.v (Value.int kd z)) = M at *
      have hMl : M.length = n := by rw [← hM]; simpa using h3
      simp only [List.length_singleton]
      have t1 : (A ++ M ++ C).take (base + i) = A ++ M.take i := by
        rw [List.append_assoc, List.take_append, List.take_of_length_le (l := A) (by omega), hA, List.take_append_of_le_length (by omega)]
        congr 2; omega
      have t2 : (A ++ M ++ C).drop (base + i + 1) = M.drop (i + 1) ++ C := by
        rw [List.append_assoc, List.drop_append, List.drop_eq_nil_of_le (as := A) (by omega), hA, List.nil_append, List.drop_append_of_le_length (by omega)]
        congr 2; omega
      rw [t1, t2]
      simp [List.append_assoc]

/-- Addresses. -/
theorem OpRun.nilCheckP (x : Operand) (k off : Nat) (hd : dlt N d = true) : OpRun P N ⟨d, .nilCheck x, ty, pos, after, g⟩ [(x, .ptr k off)] [] [] (.ptr k off) [] :=
  OpRun.val hd fun B imm env st a w h1 _ _ H => by
    have hx := H.ev h1.1
    obtain ⟨r, hr, hn, hx'⟩ := hx
    exact ⟨a.eval x, w, imm, env, by simp [execOp, hx'], H, H.ev h1.1⟩
theorem OpRun.nilCheckD (x : Operand) (y : V) (hd : dlt N d = true) : OpRun P N ⟨d, .nilCheck x, ty, pos, after, g⟩ [(x, .dptr y)] [] [] (.dptr y) [] :=
  OpRun.val hd fun B imm env st a w h1 _ _ H => by
    obtain ⟨b, off, cs, hx, _⟩ := dptr_inv (H.ev h1.1)
    exact ⟨a.eval x, w, imm, env, by simp [execOp, hx], H, H.ev h1.1⟩

theorem OpRun.fieldAddr (s : TypeId) (x : Operand) (i k off fsz : Nat) (fields : Array Field) (f : Field) (hd : dlt N d = true) (hu : ∀ w, (underlying s).run P w = .ok (.struct fields) w) (hf : fields[i]? = some f)
    (hs : ∀ w, (sizeOf f.type).run P w = .ok fsz w) (hz : Nat.beq fsz 0 = false) : OpRun P N ⟨d, .fieldAddr s x i, ty, pos, after, g⟩ [(x, .ptr k off)] [] [] (.ptr k (off + f.offset)) [] :=
  OpRun.val hd fun B imm env st a w h1 _ _ H => by
    obtain ⟨r, hr, hn, hx⟩ := H.ev h1.1
    have hz' : fsz ≠ 0 := by rintro rfl; cases hz
    exact ⟨_, w, imm, env, by simp [execOp, Instr.fieldAt, hu, hf, hx, Instr.sureAddr, fieldPlace, hs, hz', addr_add], H, ⟨r, hr, hn, rfl⟩⟩

/-- The address of a part of data. -/
theorem OpRun.fieldAddrD (s : TypeId) (x : Operand) (i fsz : Nat) (fields : Array Field) (f : Field) (c y : V) (hd : dlt N d = true) (hu : ∀ w, (underlying s).run P w = .ok (.struct fields) w) (hf : fields[i]? = some f)
    (hs : ∀ w, (sizeOf f.type).run P w = .ok fsz w) (hz : Nat.beq fsz 0 = false) (hy : (V.at fsz c f.offset = some y ∧ y.isAgg = true) ∨ V.leaf c f.offset = some y) : OpRun P N ⟨d, .fieldAddr s x i, ty, pos, after, g⟩ [(x, .dptr c)] [] [] (.dptr y) [] :=
  OpRun.val hd fun B imm env st a w h1 _ _ H => by
    obtain ⟨b, off, cs, hx, hb, hok, hl, hrep, hc⟩ := dptr_inv (H.ev h1.1)
    have hz' : fsz ≠ 0 := by rintro rfl; cases hz
    have hex : ∃ m : Nat, V.ok y ∧ V.flat y = (c.flat.drop f.offset).take m := by
      rcases hy with ⟨hy, _⟩ | hy
      · obtain ⟨h3, h4, h5, h6⟩ := V.at_spec hok hy
        exact ⟨fsz, h3, h6⟩
      · obtain ⟨h3, h4, h5⟩ := V.leaf_spec hok hy
        refine ⟨1, by cases y <;> first | trivial | (simp [V.isOne] at h3), ?_⟩
        rw [flat_one h3]
        apply List.ext_getElem?
        intro j
        rw [List.getElem?_take, List.getElem?_drop]
        cases j with
        | zero => simp [h5]
        | succ j => simp
    obtain ⟨m, h3, h6⟩ := hex
    refine ⟨.pointer (some ⟨b, off + f.offset, none⟩), w, imm, env, by simp [execOp, Instr.fieldAt, hu, hf, hx, Instr.sureAddr, fieldPlace, hs, hz', addr_add], H, ?_⟩
    refine .dptr y b (off + f.offset) (fun j => cs.getD (f.offset + j) undef) hb h3 ?_ ?_
    · intro j z hj
      rw [h6, List.getElem?_take] at hj
      split at hj
      · rw [List.getElem?_drop] at hj
        obtain ⟨u, hu1, hu2⟩ := hrep.2 _ _ hj
        rw [Nat.add_assoc, hc _ _ hu1]; simp [List.getD, hu1]
      · cases hj
    · intro j z hj
      rw [h6, List.getElem?_take] at hj
      split at hj
      · rw [List.getElem?_drop] at hj
        obtain ⟨u, hu1, hu2⟩ := hrep.2 _ _ hj
        simpa [List.getD, hu1] using hu2
      · cases hj

/-- The address of an array's element: integers. -/
theorem OpRun.indexAddrA (t elem : TypeId) (x z : Operand) (k off n : Nat) (kd : IntKind) (i : Int) (hd : dlt N d = true) (hu : ∀ w, (underlying t).run P w = .ok (.array n elem) w) (hs : ∀ w, (sizeOf elem).run P w = .ok 1 w)
    (h0 : 0 ≤ i) (hi : i < n) : OpRun P N ⟨d, .indexAddr t x z, ty, pos, after, g⟩ [(x, .ptr k off), (z, .v (.int kd i))] [] [] (.ptrE k off i.toNat) [] :=
  OpRun.val hd fun B imm env st a w h1 _ _ H => by
    obtain ⟨r, hr, hn, hx⟩ := H.ev h1.1
    have hz := H.ev h1.2.1
    have hz' : a.eval z = .int kd i := by generalize a.eval z = u at hz; cases hz; rfl
    exact ⟨.pointer (some ⟨r.blk, off + i.toNat, none⟩), w, imm, env, by simp [execOp, Instr.indexAt, hx, hz', asIntOf, hu, Instr.sureAddr, hs, h0, hi, addr_add], H, ⟨r, hr, hn, rfl⟩⟩

/-- Numbers. -/
theorem int_ev {B : Base} {imm : Imm} {env : Env} {st : St} {a : Act} {w : World} (H : Holds B N imm env st a w) {x : Operand} {u : Value} (hx : ev st.T x = some (.v u)) : a.eval x = u := by
  have h := H.ev hx
  generalize a.eval x = v at h
  cases h; rfl

theorem Holds.good {B : Base} {N : Nat} {imm : Imm} {env : Env} {st : St} {a : Act} {w : World} (H : Holds B N imm env st a w) {x : Operand} {u : Value} (hx : X.ev st.T x = some (.v u)) : X.good u = true := by
  have h := H.ev hx
  generalize a.eval x = v at h
  cases h with
  | v _ hg => exact hg

theorem OpRun.bin (op : BinOp) (t u : TypeId) (x y : Operand) (p q r : Value) (hd : dlt N d = true) (hr : ∀ w, (binOp op t p q).run P w = .ok r w) (hg : ∀ w, (eqGuard op t x y p q).run P w = .ok () w) (h1 : good p = true → good q = true → good r = true) :
    OpRun P N ⟨d, .binOp op t x y u, ty, pos, after, g⟩ [(x, .v p), (y, .v q)] [] [] (.v r) [] :=
  OpRun.val hd fun B imm env st a w h _ _ H => by
    have hx := int_ev H h.1
    have hy := int_ev H h.2.1
    exact ⟨r, w, imm, env, by simp [execOp, hx, hy, hg, hr], H, .v _ (h1 (H.good h.1) (H.good h.2.1))⟩

theorem OpRun.extract (x : Operand) (i : Nat) (l : List V) (y : V) (hd : dlt N d = true) (hy : l[i]? = some y) : OpRun P N ⟨d, .extract x i, ty, pos, after, g⟩ [(x, .tup l)] [] [] y [] :=
  OpRun.val hd fun B imm env st a w h1 _ _ H => by
    obtain ⟨arr, hx, hl⟩ := H.ev h1.1
    obtain ⟨u, hu, hrep⟩ := hl.2 i y hy
    have hu' : arr[i]? = some u := by simpa using hu
    exact ⟨u, w, imm, env, by simp [execOp, Instr.extract, hx, hu'], H, RepV_of_C hrep⟩
end

end Go.X
