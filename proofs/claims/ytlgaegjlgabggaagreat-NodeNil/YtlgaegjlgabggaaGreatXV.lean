/- Flat values: of every object and every struct just its cells, one by one: rules for the operations, told of cells. No program in sight. -/
import Derived.Test.YtlgaegjlgabggaaGreatXT
namespace Go.X
open Go

def Leaf (y : V) : Prop := V.flat y = [y] ∧ V.ok y ∧ V.size y = 1
mutual
theorem flat_leaf : ∀ (x : V) (y : V), y ∈ V.flat x → Leaf y
  | .ints k n xs, y, h => by
    simp only [V.flat, List.mem_map] at h
    obtain ⟨z, _, rfl⟩ := h
    exact ⟨rfl, trivial, rfl⟩
  | .agg fs, y, h => flats_leaf fs y (by simpa only [V.flat] using h)
  | .v _, y, h | .sli _ _, y, h | .sl _, y, h | .ptr _ _, y, h | .ptrE _ _ _, y, h | .osl _ _ _ _ _, y, h | .dptr _, y, h | .fn _ _ _, y, h | .tup _, y, h | .unk, y, h => by
    simp only [V.flat, List.mem_singleton] at h; subst h; exact ⟨rfl, trivial, rfl⟩
theorem flats_leaf : ∀ (l : List V) (y : V), y ∈ V.flats l → Leaf y
  | [], y, h => by simp [V.flats] at h
  | x :: r, y, h => by
    simp only [V.flats, List.mem_append] at h
    rcases h with h | h
    · exact flat_leaf x y h
    · exact flats_leaf r y h
end
theorem flats_of_leaf : ∀ (l : List V), (∀ y, y ∈ l → Leaf y) → V.flats l = l ∧ V.oks l ∧ V.sizes l = l.length
  | [], _ => ⟨rfl, trivial, rfl⟩
  | x :: r, h => by
    have hx := h x (.head _)
    have hr := flats_of_leaf r fun y hy => h y (.tail _ hy)
    refine ⟨?_, ⟨hx.2.1, hr.2.1⟩, ?_⟩
    · simp only [V.flats, hx.1, hr.1, List.singleton_append]
    · simp only [V.sizes, hx.2.2, hr.2.2, List.length_cons]; omega

def cut (l : List V) (off n : Nat) : List V := (l.drop off).take n
theorem cut_mem {l : List V} {off n : Nat} {y : V} (h : y ∈ cut l off n) : y ∈ l := List.mem_of_mem_drop (List.mem_of_mem_take h)
theorem cut_le {l : List V} {off n : Nat} (h : (cut l off n).length = n) (hn : 0 < n) : off + n ≤ l.length := by
  simp only [cut, List.length_take, List.length_drop] at h; omega

/-- A value of cells. -/
theorem RepC.cellsOf {imm : Imm} {env : Env} {w : World} {ys : List V} (hl : ∀ y, y ∈ ys → Leaf y) {cs : List Value} (h : RepL (Rep1 imm env w) ys cs) : RepC imm env w (.agg ys) (.agg cs.toArray) := by
  have := flats_of_leaf ys hl
  refine RepC.of_cells (x := .agg ys) this.2.1 ?_ (.inr ⟨_, rfl⟩)
  simp only [V.flat, this.1]; exact h

theorem Holds.objF {B : Base} {N : Nat} {imm : Imm} {env : Env} {st : St} {a : Act} {w : World} (H : Holds B N imm env st a w) {k : Nat} {ob : Ob} {r : Ref} (ho : lookH st.H k = some ob) (hr : env k = some r) (hn : r.nil = false) :
    ∃ arr, ObjR imm env w ob r arr ∧ ob.c.flat.length = V.size ob.c := by
  obtain ⟨arr, R⟩ := H.objR ho hr hn
  exact ⟨arr, R, V.flat_length _ R.ok⟩

section
variable {P : Program} {N : Nat} {d : Option Tmp} {ty : TypeId} {pos : String} {after : Array Edge} {g : Option (Nat × Bool)}

/- LOADS AND STORES. -/
theorem OpRun.loadFA (t : TypeId) (x : Operand) (k off sz : Nat) (ob : Ob) (hd : dlt N d = true) (hag : ∀ w, (isAgg t).run P w = .ok true w) (hsz : ∀ w, (sizeOf t).run P w = .ok sz w)
    (hle : (cut ob.c.flat off sz).length = sz) (hz : 0 < sz) : OpRun P N ⟨d, .load t x, ty, pos, after, g⟩ [(x, .ptr k off)] [(k, ob)] [] (.agg (cut ob.c.flat off sz)) [] :=
  OpRun.val hd fun B imm env st a w h1 h2 _ H => by
    obtain ⟨r, hr, hn, hx⟩ := H.ev h1.1
    have ho : lookH st.H k = some ob := h2.1
    obtain ⟨arr, R, hfl⟩ := H.objF ho hr hn
    have h5 := cut_le hle hz
    obtain ⟨cs, hl, hrep, hc⟩ := R.cells (off := off) (sz := sz) rfl (by omega)
    refine ⟨.agg cs.toArray, w, imm, env, ?_, H, ?_⟩
    · have := run_loadCells_list (P := P) w ⟨r.blk, off, none⟩ cs (fun j v hj => by rw [addr_add]; exact hc j v hj)
      rw [hl] at this
      simp [execOp, Instr.loadAt, hx, Instr.sureAddr, loadVar, hag, hsz, this]
    · exact RepV_of_C (RepC.cellsOf (fun y hy => flat_leaf _ _ (cut_mem hy)) hrep)

theorem OpRun.loadF1 (t : TypeId) (x : Operand) (k off : Nat) (ob : Ob) (y : V) (hd : dlt N d = true) (hag : ∀ w, (isAgg t).run P w = .ok false w)
    (hat : ob.c.flat[off]? = some y) (hy : y.isOne = true) : OpRun P N ⟨d, .load t x, ty, pos, after, g⟩ [(x, .ptr k off)] [(k, ob)] [] y [] :=
  OpRun.val hd fun B imm env st a w h1 h2 _ H => by
    obtain ⟨r, hr, hn, hx⟩ := H.ev h1.1
    have ho : lookH st.H k = some ob := h2.1
    obtain ⟨arr, R, hfl⟩ := H.objF ho hr hn
    obtain ⟨u, hu, hrep⟩ := R.rep.2 _ _ hat
    have h4 : off < V.size ob.c := by rw [← hfl]; exact (List.getElem?_eq_some_iff.1 hat).1
    have hc : w.cell? ⟨r.blk, off, none⟩ = some u := by
      rw [cell_of_row w r.blk _ arr _ _ R.blk]
      rw [List.getElem?_take, if_pos h4] at hu
      simpa using hu
    exact ⟨u, w, imm, env, by simp [execOp, Instr.loadAt, hx, Instr.sureAddr, loadVar, hag, hc], H, RepV_of_1 hy hrep⟩

/-- Cells in the place of as many. -/
def splice (l : List V) (off : Nat) (ys : List V) : List V := l.take off ++ (ys ++ l.drop (off + ys.length))
theorem splice_mem {l : List V} {off : Nat} {ys : List V} {y : V} (h : y ∈ splice l off ys) : y ∈ l ∨ y ∈ ys := by
  simp only [splice, List.mem_append] at h
  rcases h with h | h | h
  · exact .inl (List.mem_of_mem_take h)
  · exact .inr h
  · exact .inl (List.mem_of_mem_drop h)
theorem splice_length {l : List V} {off : Nat} {ys : List V} (h : off + ys.length ≤ l.length) : (splice l off ys).length = l.length := by
  simp only [splice, List.length_append, List.length_take, List.length_drop]; omega

/-- A part of an object is written. -/
theorem Holds.writeF {B : Base} {imm : Imm} {env : Env} {st : St} {a : Act} {w : World} (H : Holds B N imm env st a w) {k : Nat} {ob : Ob} {r : Ref} (ho : lookH st.H k = some ob) (hr : env k = some r) {arr : Array Value} (R : ObjR imm env w ob r arr)
    {off : Nat} {ys : List V} (hlf : ∀ y, y ∈ ys → Leaf y) {vs : List Value} (hv : RepL (Rep1 imm env w) ys vs) (hle : off + ys.length ≤ V.size ob.c) :
    Holds B N imm env ⟨st.T, (k, some ⟨.agg (splice ob.c.flat off ys), ob.grow⟩) :: st.H⟩ a (w.setRow r.blk (arr.toList.take off ++ vs ++ arr.toList.drop (off + vs.length)).toArray) := by
  have hfl := V.flat_length _ R.ok
  have hlf' : ∀ y, y ∈ splice ob.c.flat off ys → Leaf y := fun y hy => by
    rcases splice_mem hy with h | h
    · exact flat_leaf _ _ h
    · exact hlf y h
  have hs := flats_of_leaf _ hlf'
  refine H.write ho hr R hv hle (c' := .agg (splice ob.c.flat off ys)) hs.2.1 ?_ ?_
  · simp only [V.size, hs.2.2]; rw [splice_length (by omega)]; exact hfl
  · simp only [V.flat, hs.1]; simp [splice]

theorem OpRun.storeF (t : TypeId) (x z : Operand) (k off sz : Nat) (ob : Ob) (y : V) (hag : ∀ w, (sizeOf t).run P w = .ok sz w) (hs : y.flat.length = sz) (hy : y.noTup = true) (hle : (cut ob.c.flat off sz).length = sz) (hz : 0 < sz) :
    OpRun P N ⟨none, .store t x z, ty, pos, after, g⟩ [(x, .ptr k off), (z, y)] [(k, ob)] [] (.tup []) [(k, some ⟨.agg (splice ob.c.flat off y.flat), ob.grow⟩)] :=
  OpRun.skp rfl fun B imm env st a w h1 h2 _ H => by
    obtain ⟨r, hr, hn, hx⟩ := H.ev h1.1
    have ho : lookH st.H k = some ob := h2.1
    obtain ⟨arr, R, hfl⟩ := H.objF ho hr hn
    have hzc := (RepC_of_V (V.noTup_ne hy) (H.ev h1.2.1)).cells
    have h5 := cut_le hle hz
    have hcl : (a.eval z).cells.toList.length = sz := by rw [hzc.2.1, hs]
    have hcl' : (a.eval z).cells.size = sz := by simpa using hcl
    refine ⟨_, imm, env, ?_, H.writeF ho hr R (off := off) (ys := y.flat) (fun y hy => flat_leaf _ _ hy) (vs := (a.eval z).cells.toList) hzc.2 (by omega)⟩
    have hst := run_storeCells_at P r.blk off r.ty (a.eval z).cells.toList 0 arr w R.blk (by have := R.tot; have := R.le; omega) (fun v hv => by
      obtain ⟨i, hi⟩ := List.getElem?_of_mem hv
      have hlt : i < y.flat.length := by rw [← hzc.2.1]; exact (List.getElem?_eq_some_iff.1 hi).1
      obtain ⟨u, hu, hrep⟩ := hzc.2.2 i _ (List.getElem?_eq_getElem hlt)
      rw [hi] at hu; cases hu
      exact hrep.one)
    simp only [Nat.add_zero] at hst
    simp [execOp, Instr.storeAt, hx, Instr.sureAddr, storeVar, hag, hcl', hst]

/- NEW VARIABLES. -/
def zflat : Value → V
  | .agg cs => .agg (cs.toList.map V.v)
  | z => .v z
def zgood : Value → Bool
  | .agg cs => cs.toList.all good
  | z => good z && (match z with | .tuple _ => false | _ => true)
theorem RepL_good {imm : Imm} {env : Env} {w : World} : ∀ {l : List Value}, (l.all good) = true → RepL (Rep1 imm env w) (l.map V.v) l
  | [], _ => RepL.nil _
  | x :: r, h => by
    simp only [List.all_cons, Bool.and_eq_true] at h
    exact (RepL_good h.2).cons (.v x h.1)
theorem leaf_map {l : List Value} : ∀ y, y ∈ l.map V.v → Leaf y := by
  intro y hy
  simp only [List.mem_map] at hy
  obtain ⟨x, _, rfl⟩ := hy
  exact ⟨rfl, trivial, rfl⟩
theorem zflat_rep {z : Value} (h : zgood z = true) (imm : Imm) (env : Env) (w : World) : RepC imm env w (zflat z) z := by
  cases z <;> simp only [zgood, zflat, Bool.and_eq_true] at h ⊢ <;> first
    | exact RepC.cellsOf leaf_map (RepL_good h)
    | exact .v _ h.1
theorem OpRun.allocF (t : TypeId) (z : Value) (j : Nat) (hd : dlt N d = true) (hlo : Nat.blt j 1000 = true) (hz : ∀ w, (zeroValue t).run P w = .ok z w) (hy : zgood z = true) : OpRun P N ⟨d, .alloc t, ty, pos, after, g⟩ [] [] [j] (.ptr j 0) [(j, some ⟨zflat z, false⟩)] :=
  OpRun.alloc t z (zflat z) j hd hlo hz (zflat_rep hy)

/- ADDRESSES. -/
theorem OpRun.indexAddrP (t elem : TypeId) (x z : Operand) (k off n sz : Nat) (kd : IntKind) (i : Int) (hd : dlt N d = true) (hu : ∀ w, (underlying t).run P w = .ok (.array n elem) w) (hs : ∀ w, (sizeOf elem).run P w = .ok sz w)
    (h0 : 0 ≤ i) (hi : i < n) : OpRun P N ⟨d, .indexAddr t x z, ty, pos, after, g⟩ [(x, .ptr k off), (z, .v (.int kd i))] [] [] (.ptr k (off + i.toNat * sz)) [] :=
  OpRun.val hd fun B imm env st a w h1 _ _ H => by
    obtain ⟨r, hr, hn, hx⟩ := H.ev h1.1
    have hz' := int_ev H h1.2.1
    simp only at hx hz'
    exact ⟨.pointer (some ⟨r.blk, off + i.toNat * sz, none⟩), w, imm, env, by simp [execOp, Instr.indexAt, hx, hz', asIntOf, hu, Instr.sureAddr, hs, h0, hi, addr_add], H, ⟨r, hr, hn, rfl⟩⟩

theorem OpRun.indexAddrO (t elem : TypeId) (x z : Operand) (k off n sz : Nat) (cap : Option Nat) (kd : IntKind) (i : Int) (hd : dlt N d = true) (hu : ∀ w, (underlying t).run P w = .ok (.slice elem) w) (hs : ∀ w, (sizeOf elem).run P w = .ok sz w)
    (h0 : 0 ≤ i) (hi : i < n) : OpRun P N ⟨d, .indexAddr t x z, ty, pos, after, g⟩ [(x, .osl k off n sz cap), (z, .v (.int kd i))] [] [] (.ptr k (off + i.toNat * sz)) [] :=
  OpRun.val hd fun B imm env st a w h1 _ _ H => by
    have hz' := int_ev H h1.2.1
    simp only at hz'
    obtain ⟨r, hr, ⟨hn, c, hx, _⟩ | ⟨_, _, hm0, _⟩⟩ := H.ev h1.1
    · simp only at hx
      exact ⟨.pointer (some ⟨r.blk, off + i.toNat * sz, none⟩), w, imm, env, by simp [execOp, Instr.indexAt, hx, hz', asIntOf, hu, hs, h0, hi, addr_add], H, ⟨r, hr, hn, rfl⟩⟩
    · omega

theorem OpRun.s2apF (t e : TypeId) (x : Operand) (k off n m sz : Nat) (cap : Option Nat) (hd : dlt N d = true) (hu : ∀ w, (underlying t).run P w = .ok (.array n e) w) (hnm : n ≤ m) (h0 : 0 < n) :
    OpRun P N ⟨d, .sliceToArrayPointer t x, ty, pos, after, g⟩ [(x, .osl k off m sz cap)] [] [] (.ptr k off) [] :=
  OpRun.val hd fun B imm env st a w hh _ _ H => by
    obtain ⟨r, hr, ⟨hn, c, hx, _⟩ | ⟨_, _, hm0, _⟩⟩ := H.ev hh.1
    · simp only at hx
      refine ⟨.pointer (some ⟨r.blk, off, none⟩), w, imm, env, ?_, H, ⟨r, hr, hn, rfl⟩⟩
      have : ¬ m < n := by omega
      simp [execOp, Instr.arrayAt, hu, hx, this]
    · omega

/- PARTS OF VALUES. -/
theorem aggF {imm : Imm} {env : Env} {w : World} {fs : List V} {u : Value} (h : RepV imm env w (.agg fs) u) : ∃ arr : Array Value, u = .agg arr ∧ RepL (Rep1 imm env w) (V.flats fs) arr.toList := by
  obtain ⟨_, arr, h1, h2⟩ := h
  exact ⟨arr, h1, h2⟩
theorem run_part {imm : Imm} {env : Env} {w : World} {l : List V} {arr : Array Value} (h : RepL (Rep1 imm env w) l arr.toList) (t : TypeId) (off sz : Nat) (b : Bool) (hag : ∀ w, (isAgg t).run P w = .ok b w) (hsz : ∀ w, (sizeOf t).run P w = .ok sz w) (hlf : ∀ y, y ∈ l → Leaf y) (y : V)
    (hy : (b = true ∧ y = .agg (cut l off sz)) ∨ (b = false ∧ l[off]? = some y ∧ y.isOne = true)) : ∃ u, (part t arr off).run P w = .ok u w ∧ RepV imm env w y u := by
  rcases hy with ⟨rfl, rfl⟩ | ⟨rfl, hy, ho⟩
  · refine ⟨.agg (arr.extract off (off + sz)), by simp [part, hag, hsz], RepV_of_C ?_⟩
    have e : (arr.extract off (off + sz)) = ((arr.toList.drop off).take sz).toArray := by
      apply Array.toList_inj.1
      simp [Array.toList_extract, List.extract_eq_take_drop]
    rw [e]
    exact RepC.cellsOf (fun y hy => hlf y (cut_mem hy)) ((h.drop off).take sz)
  · obtain ⟨u, hu, hr⟩ := h.2 _ _ hy
    have hu' : arr[off]? = some u := by simpa using hu
    exact ⟨u, by simp [part, hag, hu'], RepV_of_1 ho hr⟩

theorem OpRun.fieldF (s : TypeId) (x : Operand) (i fsz : Nat) (b : Bool) (fields : Array Field) (f : Field) (fs : List V) (y : V) (hd : dlt N d = true) (hu : ∀ w, (underlying s).run P w = .ok (.struct fields) w) (hf : fields[i]? = some f)
    (hag : ∀ w, (isAgg f.type).run P w = .ok b w) (hs : ∀ w, (sizeOf f.type).run P w = .ok fsz w)
    (hy : (b = true ∧ y = .agg (cut (V.flats fs) f.offset fsz)) ∨ (b = false ∧ (V.flats fs)[f.offset]? = some y ∧ y.isOne = true)) :
    OpRun P N ⟨d, .field s x i, ty, pos, after, g⟩ [(x, .agg fs)] [] [] y [] :=
  OpRun.val hd fun B imm env st a w h1 _ _ H => by
    obtain ⟨arr, hx, hr⟩ := aggF (H.ev h1.1)
    obtain ⟨u, hu1, hu2⟩ := run_part (P := P) hr f.type f.offset fsz b hag hs (fun y hy => flats_leaf _ _ hy) y hy
    exact ⟨u, w, imm, env, by simp only at hx; simp [execOp, Instr.field, hu, hf, hx, asAgg, hu1], H, hu2⟩

theorem OpRun.indexF (t e : TypeId) (x z : Operand) (k : IntKind) (n sz : Nat) (b : Bool) (fs : List V) (i : Int) (y : V) (hd : dlt N d = true) (hu : ∀ w, (underlying t).run P w = .ok (.array n e) w)
    (hag : ∀ w, (isAgg e).run P w = .ok b w) (hs : ∀ w, (sizeOf e).run P w = .ok sz w) (h0 : 0 ≤ i) (hi : i < n)
    (hy : (b = true ∧ y = .agg (cut (V.flats fs) (i.toNat * sz) sz)) ∨ (b = false ∧ (V.flats fs)[i.toNat * sz]? = some y ∧ y.isOne = true)) :
    OpRun P N ⟨d, .index t x z, ty, pos, after, g⟩ [(x, .agg fs), (z, .v (.int k i))] [] [] y [] :=
  OpRun.val hd fun B imm env st a w h1 _ _ H => by
    obtain ⟨arr, hx, hr⟩ := aggF (H.ev h1.1)
    have hz' := int_ev H h1.2.1
    obtain ⟨u, hu1, hu2⟩ := run_part (P := P) hr e (i.toNat * sz) sz b hag hs (fun y hy => flats_leaf _ _ hy) y hy
    exact ⟨u, w, imm, env, by simp only at hx hz'; simp [execOp, Instr.index, hx, hz', asIntOf, hu, h0, hi, hs, hu1], H, hu2⟩
end
end Go.X
