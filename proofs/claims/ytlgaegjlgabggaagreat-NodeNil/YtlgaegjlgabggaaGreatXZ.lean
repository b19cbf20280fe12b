/- Flat values: rules for what grows, is copied, cut, compared. No program in sight. -/
import Derived.Test.YtlgaegjlgabggaaGreatXY
namespace Go.X
open Go

section
variable {P : Program} {N : Nat} {d : Option Tmp} {ty : TypeId} {pos : String} {after : Array Edge} {g : Option (Nat × Bool)}

/-- A slice of an object: its cells. -/
theorem Holds.sliceCells {B : Base} {imm : Imm} {env : Env} {st : St} {a : Act} {w : World} (H : Holds B N imm env st a w) {k off n sz : Nat} {cap : Option Nat} {ob : Ob} {u : Value} (hx : Rep0 imm env w (.osl k off n sz cap) u) (ho : lookH st.H k = some ob)
    (hle : (cut ob.c.flat off (n * sz)).length = n * sz) (hz : 0 < n * sz) :
    ∃ (r : Ref) (c : Nat) (arr : Array Value) (cs : List Value), env k = some r ∧ r.nil = false ∧ u = .slice (some ⟨r.blk, off, none⟩) n c ∧ n ≤ c ∧ c ≤ maxLen ∧ off + c * sz ≤ r.tot ∧ (off = 0 → c * sz = r.tot) ∧ (∀ m, cap = some m → c = m) ∧ ObjR imm env w ob r arr ∧ off + n * sz ≤ V.size ob.c ∧
      cs.length = n * sz ∧ RepL (Rep1 imm env w) (cut ob.c.flat off (n * sz)) cs ∧ (∀ (j : Nat) (v : Value), cs[j]? = some v → w.cell? ((⟨r.blk, off, none⟩ : Addr).add j) = some v) := by
  obtain ⟨r, hr, ⟨hn, c, hx, h1, h2, h3, h4, h5⟩ | ⟨_, _, hm0, _⟩⟩ := hx
  · obtain ⟨arr, R, hfl⟩ := H.objF ho hr hn
    have h6 := cut_le hle hz
    obtain ⟨cs, hl, hrep, hc⟩ := R.cells (off := off) (sz := n * sz) rfl (by omega)
    exact ⟨r, c, arr, cs, hr, hn, hx, h1, h2, h3, h4, h5, R, by omega, hl, hrep, fun j v hj => by rw [addr_add]; exact hc j v hj⟩
  · subst hm0; simp at hz

theorem one_of_rep {imm : Imm} {env : Env} {w : World} {l : List V} {cs : List Value} (h : RepL (Rep1 imm env w) l cs) : ∀ u, u ∈ cs → u.oneCell' = true := by
  intro v hv
  obtain ⟨i, hi⟩ := List.getElem?_of_mem hv
  have hlt : i < l.length := by rw [← h.1]; exact (List.getElem?_eq_some_iff.1 hi).1
  obtain ⟨u, hu, hrep⟩ := h.2 i _ (List.getElem?_eq_getElem hlt)
  rw [hi] at hu; cases hu
  exact hrep.one

/-- The values of a call of a builtin. -/
theorem run_append_op (a : Act) (w : World) (x y : Operand) (t u : TypeId) : (execOp a.eval ⟨d, .call { callee := .builtin .append, args := #[x, y], argTypes := #[t, u] }, ty, pos, after, g⟩).run P w = ((Builtin.append_ #[t, u] ty #[a.eval x, a.eval y]).run P w).andThen fun v w' => .ok (.value v) w' := by
  simp [execOp, resolve, invoke, builtin]

theorem run_append_none (t ty e : TypeId) (i : TypeInfo) (ht : P.underlying t = some (.slice e)) (hi : P.info? e = some i) (w : World) (o : Option Addr) (n c : Nat) (hnc : n ≤ c) (o' : Option Addr) (c' : Nat) :
    (Builtin.append_ #[t, t] ty #[.slice o n c, .slice o' 0 c']).run P w = .ok (.slice o n c) w := by
  cases o <;> cases o' <;> simp [Builtin.append_, run_underlying ht, sizeOf, typeInfo, hi, Builtin.lenOf, Builtin.firstCells, loadCells, loadCellsFrom, hnc, storeCells]

/-- What a slice with nothing in it may be read as. -/
def isEmpty0 : V → Bool
  | .v (.slice none 0 0) => true
  | .osl _ _ 0 _ _ => true
  | .sli _ [] => true
  | _ => false
theorem isEmpty0_rep {imm : Imm} {env : Env} {w : World} {x : V} {u : Value} (h : isEmpty0 x = true) (hx : RepV imm env w x u) : ∃ o c, u = .slice o 0 c := by
  unfold isEmpty0 at h
  split at h
  · cases hx; exact ⟨_, _, rfl⟩
  · obtain ⟨r, hr, ⟨hn, c, hx, _⟩ | ⟨_, _, _, hx⟩⟩ := hx
    · exact ⟨_, _, hx⟩
    · exact ⟨_, _, hx⟩
  · cases hx with
    | sliE k a c => exact ⟨_, _, rfl⟩
    | sli k xs b off c hb hc hm hg h => exact ⟨_, _, rfl⟩
  · cases h
def isSlice : V → Bool
  | .v (.slice none 0 0) => true
  | .osl _ _ _ _ _ => true
  | .sli _ [] => true
  | _ => false
theorem isSlice_rep {imm : Imm} {env : Env} {w : World} {x : V} {u : Value} (h : isSlice x = true) (hx : RepV imm env w x u) : ∃ o n c, u = .slice o n c ∧ n ≤ c := by
  unfold isSlice at h
  split at h
  · cases hx; exact ⟨_, _, _, rfl, Nat.le_refl _⟩
  · obtain ⟨r, hr, ⟨hn, c, hx, hc, _⟩ | ⟨_, _, _, hx⟩⟩ := hx
    · exact ⟨_, _, _, hx, hc⟩
    · exact ⟨_, _, _, hx, Nat.le_refl _⟩
  · cases hx with
    | sliE k a c => exact ⟨_, _, _, rfl, Nat.zero_le _⟩
    | sli k xs b off c hb hc hm hg h => exact ⟨_, _, _, rfl, hc⟩
  · cases h

theorem OpRun.append0 (t e : TypeId) (i : TypeInfo) (x y : Operand) (p q : V) (hd : dlt N d = true) (ht : P.underlying t = some (.slice e)) (hi : P.info? e = some i) (hp : isSlice p = true) (hq : isEmpty0 q = true) :
    OpRun P N ⟨d, .call { callee := .builtin .append, args := #[x, y], argTypes := #[t, t] }, ty, pos, after, g⟩ [(x, p), (y, q)] [] [] p [] :=
  OpRun.val hd fun B imm env st a w h _ _ H => by
    obtain ⟨o, n, c, h1, h2⟩ := isSlice_rep hp (H.ev h.1)
    obtain ⟨o', c', h3⟩ := isEmpty0_rep hq (H.ev h.2.1)
    simp only at h1 h3
    refine ⟨a.eval x, w, imm, env, ?_, H, H.ev h.1⟩
    rw [run_append_op, h1, h3, run_append_none t ty e i ht hi w o n c h2 o' c']; rfl

/-- The new row of a slice that grows. -/
theorem grown_row {imm : Imm} {env : Env} {w : World} {ys : List V} {cs : List Value} (h : RepL (Rep1 imm env w) ys cs) (rest : Array Value) : RepL (Rep1 imm env w) ys ((cs.toArray ++ rest).toList.take ys.length) := by
  rw [Array.toList_append, List.take_append_of_le_length (by rw [← h.1]; exact Nat.le_refl _), List.take_of_length_le (by rw [← h.1]; exact Nat.le_refl _)]
  exact h

theorem OpRun.appendNil (t e : TypeId) (i : TypeInfo) (zv : Value) (x y : Operand) (k off m sz j : Nat) (cap : Option Nat) (ob : Ob) (hd : dlt N d = true) (hlo : Nat.blt j 1000 = true) (ht : P.underlying t = some (.slice e)) (hi : P.info? e = some i) (hs : i.size = sz) (hz : i.zero = some zv) (hzs : zv.cells.toList.length = sz)
    (hle : (cut ob.c.flat off (m * sz)).length = m * sz) (h0 : 0 < m * sz) (hb : m * i.bytes ≤ 16777216) (hm : m ≤ 16777216) :
    OpRun P N ⟨d, .call { callee := .builtin .append, args := #[x, y], argTypes := #[t, t] }, ty, pos, after, g⟩ [(x, .v (.slice none 0 0)), (y, .osl k off m sz cap)] [(k, ob)] [j] (.osl j 0 m sz none) [(j, some ⟨.agg (cut ob.c.flat off (m * sz)), true⟩)] :=
  OpRun.val hd fun B imm env st a w h h2' h3' H => by
    have hx := int_ev H h.1
    simp only at hx
    obtain ⟨r, c, arr, cs, hr, hn, hy, _, _, _, _, _, R, _, hl, hrep, hcells⟩ := H.sliceCells (H.ev h.2.1) h2'.1 hle h0
    simp only at hy
    subst hs
    have hzs' : zv.cells.size = i.size := by simpa using hzs
    have hm0 : 0 < m := Nat.pos_of_ne_zero fun e => by subst e; simp at h0
    have hge := grownCap_ge w m 0 e
    have hsz0 : 0 < i.size := Nat.pos_of_ne_zero fun e => by rw [e] at h0; simp at h0
    obtain ⟨h4, h5⟩ := H.rowF h3'.1 (blt_lt hlo) (ys := cut ob.c.flat off (m * i.size)) (fun y hy => flat_leaf _ _ (cut_mem hy)) (cells := cs.toArray ++ Builtin.zeroCells zv.cells (grownCap w m 0 e - m)) (grown_row hrep _) (by rw [hle]; simp [hl]) e true (fun h => by cases h) none (fun k hk => by cases hk) (w0 := w.drew) ⟨rfl, rfl, rfl, rfl⟩
    refine ⟨.slice (some ⟨w.heap.size, 0, none⟩) m (grownCap w m 0 e), _, imm, _, ?_, h4, ?_⟩
    · rw [run_append_op, hx, hy, run_append_nil (P := P) w t ty e i zv ht hi hz ⟨r.blk, off, none⟩ m c cs hl hcells hm0 (by omega) (by omega)]; rfl
    · have htot : (cs.toArray ++ Builtin.zeroCells zv.cells (grownCap w m 0 e - m)).size = grownCap w m 0 e * i.size := by
        simp only [Array.size_append, List.size_toArray, size_zeroCells, hzs', hl, ← Nat.add_mul]
        congr 1; omega
      refine ⟨_, h5, .inl ⟨rfl, _, rfl, hge, grownCap_le_maxLen w m 0 e (by simp only [maxLen]; omega), ?_, fun _ => htot.symm, fun _ h => by cases h⟩⟩
      simp only [htot]; omega

theorem RepL.append_rep {R : V → Value → Prop} {xs ys : List V} {us vs : List Value} (h : RepL R xs us) (k : RepL R ys vs) : RepL R (xs ++ ys) (us ++ vs) := h.append k

/-- What was there stays; what is handed back lies anew. -/
theorem OpRun.appendGrow (t e : TypeId) (i : TypeInfo) (zv : Value) (x y : Operand) (k off n sz c0 k2 off2 m j : Nat) (cap2 : Option Nat) (ob ob2 : Ob) (hd : dlt N d = true) (hlo : Nat.blt j 1000 = true) (ht : P.underlying t = some (.slice e)) (hi : P.info? e = some i) (hs : i.size = sz) (hz : i.zero = some zv) (hzs : zv.cells.toList.length = sz)
    (hle : (cut ob.c.flat off (n * sz)).length = n * sz) (hle2 : (cut ob2.c.flat off2 (m * sz)).length = m * sz) (h0 : 0 < m * sz) (hgr : c0 < n + m) (hb : (n + m) * i.bytes ≤ 16777216) (hm : n + m ≤ 16777216) :
    OpRun P N ⟨d, .call { callee := .builtin .append, args := #[x, y], argTypes := #[t, t] }, ty, pos, after, g⟩ [(x, .osl k off n sz (some c0)), (y, .osl k2 off2 m sz cap2)] [(k, ob), (k2, ob2)] [j] (.osl j 0 (n + m) sz none) [(j, some ⟨.agg (cut ob.c.flat off (n * sz) ++ cut ob2.c.flat off2 (m * sz)), true⟩)] :=
  OpRun.val hd fun B imm env st a w h h2' h3' H => by
    obtain ⟨r, c, arr, cs, hr, hn, hy, _, _, _, _, _, R, _, hl, hrep, hcells⟩ := H.sliceCells (H.ev h.2.1) h2'.2.1 hle2 h0
    simp only at hy
    subst hs
    have hzs' : zv.cells.size = i.size := by simpa using hzs
    have hm0 : 0 < m := Nat.pos_of_ne_zero fun e => by subst e; simp at h0
    have hsz0 : 0 < i.size := Nat.pos_of_ne_zero fun e => by rw [e] at h0; simp at h0
    have key : ∃ (o : Option Addr) (cx : Nat) (olds : List Value), a.eval x = .slice o n cx ∧ cx < n + m ∧ RepL (Rep1 imm env w) (cut ob.c.flat off (n * i.size)) olds ∧
        (Builtin.append_ #[t, t] ty #[.slice o n cx, .slice (some ⟨r.blk, off2, none⟩) m c]).run P w = .ok (.slice (some ⟨w.heap.size, 0, none⟩) (n + m) (grownCap w (n + m) cx e))
          (w.drew.alloc (.cells (olds.toArray ++ cs.toArray ++ Builtin.zeroCells zv.cells (grownCap w (n + m) cx e - (n + m))) e)) := by
      by_cases hn0 : n = 0
      · subst hn0
        have hcut : cut ob.c.flat off (0 * i.size) = [] := by simp [cut]
        obtain ⟨r1, hr1, ⟨hn1, c1, hx, h6, h7, h8, h9, h10⟩ | ⟨_, _, _, hx⟩⟩ := H.ev h.1
        · have hc1 := h10 _ rfl
          subst hc1
          refine ⟨_, _, [], hx, hgr, by rw [hcut]; exact RepL.nil _, ?_⟩
          exact run_append_grow (P := P) w t ty e i zv ht hi hz _ 0 c1 [] (by simp) (fun j v hj => by simp at hj) ⟨r.blk, off2, none⟩ m c cs hl hcells hgr (by omega) (growslice_fits hgr (by omega))
        · refine ⟨_, _, [], hx, by omega, by rw [hcut]; exact RepL.nil _, ?_⟩
          have := run_append_nil (P := P) w t ty e i zv ht hi hz ⟨r.blk, off2, none⟩ m c cs hl hcells hm0 (by omega) (by simp only [Nat.zero_add] at hb; omega)
          simpa using this
      · obtain ⟨r1, c1, arr1, cs1, hr1, hn1, hx, h6, _, _, _, h10, R1, _, hl1, hrep1, hcells1⟩ := H.sliceCells (H.ev h.1) h2'.1 hle (Nat.mul_pos (Nat.pos_of_ne_zero hn0) hsz0)
        have hc1 := h10 _ rfl
        subst hc1
        exact ⟨_, _, cs1, hx, hgr, hrep1, run_append_grow (P := P) w t ty e i zv ht hi hz _ n c1 cs1 hl1 hcells1 ⟨r.blk, off2, none⟩ m c cs hl hcells hgr (by omega) (growslice_fits hgr (by omega))⟩
    obtain ⟨o, cx, olds, hx, hcx, hrepo, hrun⟩ := key
    have hge := grownCap_ge w (n + m) cx e
    have holdl : olds.length = n * i.size := by rw [hrepo.1, hle]
    have htot : (olds.toArray ++ cs.toArray ++ Builtin.zeroCells zv.cells (grownCap w (n + m) cx e - (n + m))).size = grownCap w (n + m) cx e * i.size := by
      simp only [Array.size_append, List.size_toArray, size_zeroCells, hzs', hl, holdl, ← Nat.add_mul]
      congr 1; omega
    have hboth : RepL (Rep1 imm env w) (cut ob.c.flat off (n * i.size) ++ cut ob2.c.flat off2 (m * i.size)) (olds ++ cs) := hrepo.append hrep
    obtain ⟨h4, h5⟩ := H.rowF h3'.1 (blt_lt hlo) (ys := cut ob.c.flat off (n * i.size) ++ cut ob2.c.flat off2 (m * i.size)) (fun y hy => by rcases List.mem_append.1 hy with h | h <;> exact flat_leaf _ _ (cut_mem h)) (cells := olds.toArray ++ cs.toArray ++ Builtin.zeroCells zv.cells (grownCap w (n + m) cx e - (n + m)))
      (by have := grown_row hboth (Builtin.zeroCells zv.cells (grownCap w (n + m) cx e - (n + m))); rwa [← List.append_toArray] at this) (by rw [List.length_append, hle, hle2]; simp [hl, holdl]) e true (fun h => by cases h) none (fun k hk => by cases hk) (w0 := w.drew) ⟨rfl, rfl, rfl, rfl⟩
    refine ⟨.slice (some ⟨w.heap.size, 0, none⟩) (n + m) (grownCap w (n + m) cx e), _, imm, _, ?_, h4, ?_⟩
    · rw [run_append_op, hx, hy, hrun]; rfl
    · refine ⟨_, h5, .inl ⟨rfl, _, rfl, hge, grownCap_le_maxLen w (n + m) cx e (by simp only [maxLen]; omega), ?_, fun _ => htot.symm, fun _ h => by cases h⟩⟩
      simp only [htot]; omega

/-- There is room: it is written where the slice ends. -/
theorem OpRun.appendRoom (t e : TypeId) (i : TypeInfo) (x y : Operand) (k off n sz c0 k2 off2 m : Nat) (cap2 : Option Nat) (ob ob2 : Ob) (hd : dlt N d = true) (ht : P.underlying t = some (.slice e)) (hi : P.info? e = some i) (hs : i.size = sz)
    (hle : (cut ob.c.flat (off + n * sz) (m * sz)).length = m * sz) (hle2 : (cut ob2.c.flat off2 (m * sz)).length = m * sz) (h0 : 0 < m * sz) (hgr : n + m ≤ c0) :
    OpRun P N ⟨d, .call { callee := .builtin .append, args := #[x, y], argTypes := #[t, t] }, ty, pos, after, g⟩ [(x, .osl k off n sz (some c0)), (y, .osl k2 off2 m sz cap2)] [(k, ob), (k2, ob2)] [] (.osl k off (n + m) sz (some c0)) [(k, some ⟨.agg (splice ob.c.flat (off + n * sz) (cut ob2.c.flat off2 (m * sz))), ob.grow⟩)] :=
  OpRun.val hd fun B imm env st a w h h2' h3' H => by
    obtain ⟨r, c, arr, cs, hr, hn, hy, _, _, _, _, _, R, _, hl, hrep, hcells⟩ := H.sliceCells (H.ev h.2.1) h2'.2.1 hle2 h0
    simp only at hy
    subst hs
    have hin := cut_le hle h0
    have hsz0 : 0 < i.size := Nat.pos_of_ne_zero fun e => by rw [e] at h0; simp at h0
    have ho : lookH st.H k = some ob := h2'.1
    obtain ⟨r1, hr1, ⟨hn1, c1, hx, h6, h7, h8, h9, h10⟩ | ⟨hnil, _, _, hx⟩⟩ := H.ev h.1
    · have hc1 := h10 _ rfl
      subst hc1
      obtain ⟨arr1, R1, hfl⟩ := H.objF ho hr1 hn1
      have H' := H.writeF ho hr1 R1 (off := off + n * i.size) (ys := cut ob2.c.flat off2 (m * i.size)) (fun y hy => flat_leaf _ _ (cut_mem hy)) (vs := cs) hrep (by rw [hle2]; omega)
      refine ⟨.slice (some ⟨r1.blk, off, none⟩) (n + m) c1, _, imm, env, ?_, H', ⟨r1, hr1, .inl ⟨hn1, c1, rfl, hgr, h7, h8, h9, h10⟩⟩⟩
      have hf := run_firstCells_some (P := P) w i.size m ⟨r.blk, off2, none⟩ m c cs hl hcells
      have hst := run_storeCells_at P r1.blk (off + n * i.size) r1.ty cs 0 arr1 w R1.blk (by have := R1.tot; have := R1.le; omega) (one_of_rep hrep)
      simp only [Nat.add_zero] at hst
      simp only at hx
      rw [run_append_op, hx, hy]
      simp [Builtin.append_, run_underlying ht, sizeOf, typeInfo, hi, Builtin.lenOf, hgr, hf, addr_add, hst]
    · exfalso
      obtain ⟨r2, hr2, hob⟩ := H.heap.obj k ob ho
      rw [hr1] at hr2; cases hr2
      obtain ⟨hok, ⟨_, hs0, _⟩ | ⟨hnn, _⟩⟩ := hob
      · rw [V.flat_length _ hok, hs0] at hin; omega
      · rw [hnil] at hnn; cases hnn

/-- Nobody knows whether there is room: what was there is no more told of. -/
theorem OpRun.appendUnk (t e : TypeId) (i : TypeInfo) (zv : Value) (x y : Operand) (k n sz k2 off2 m j : Nat) (cap2 : Option Nat) (ob ob2 : Ob) (hd : dlt N d = true) (hlo : Nat.blt j 1000 = true) (ht : P.underlying t = some (.slice e)) (hi : P.info? e = some i) (hs : i.size = sz) (hz : i.zero = some zv) (hzs : zv.cells.toList.length = sz)
    (hle : ob.c.flat.length = n * sz) (hle2 : (cut ob2.c.flat off2 (m * sz)).length = m * sz) (h0 : 0 < m * sz) (hb : (n + m) * i.bytes ≤ 16777216) (hm : n + m ≤ 16777216) (hkn : 0 < n) :
    OpRun P N ⟨d, .call { callee := .builtin .append, args := #[x, y], argTypes := #[t, t] }, ty, pos, after, g⟩ [(x, .osl k 0 n sz none), (y, .osl k2 off2 m sz cap2)] [(k, ob), (k2, ob2)] [j] (.osl j 0 (n + m) sz none) [(j, some ⟨.agg (ob.c.flat ++ cut ob2.c.flat off2 (m * sz)), true⟩), (k, none)] :=
  OpRun.val hd fun B imm env st a w h h2' h3' H => by
    obtain ⟨r, c, arr, cs, hr, hn, hy, _, _, _, _, _, R, _, hl, hrep, hcells⟩ := H.sliceCells (H.ev h.2.1) h2'.2.1 hle2 h0
    simp only at hy
    subst hs
    have ho : lookH st.H k = some ob := h2'.1
    have hzs' : zv.cells.size = i.size := by simpa using hzs
    have hm0 : 0 < m := Nat.pos_of_ne_zero fun e => by subst e; simp at h0
    have hsz0 : 0 < i.size := Nat.pos_of_ne_zero fun e => by rw [e] at h0; simp at h0
    have hcut : cut ob.c.flat 0 (n * i.size) = ob.c.flat := by simp only [cut, List.drop_zero]; rw [← hle, List.take_length]
    obtain ⟨r1, c1, arr1, cs1, hr1, hn1, hx, h6, h7, h8, h9, _, R1, hle3, hl1, hrep1, hcells1⟩ := H.sliceCells (H.ev h.1) ho (by rw [hcut]; exact hle) (Nat.mul_pos hkn hsz0)
    rw [hcut] at hrep1
    have hboth : RepL (Rep1 imm env w) (ob.c.flat ++ cut ob2.c.flat off2 (m * i.size)) (cs1 ++ cs) := hrep1.append hrep
    have hlf : ∀ y, y ∈ ob.c.flat ++ cut ob2.c.flat off2 (m * i.size) → Leaf y := fun y hy => by
      rcases List.mem_append.1 hy with h | h
      · exact flat_leaf _ _ h
      · exact flat_leaf _ _ (cut_mem h)
    have hs := flats_of_leaf _ hlf
    have hylen : (ob.c.flat ++ cut ob2.c.flat off2 (m * i.size)).length = (n + m) * i.size := by rw [List.length_append, hle, hle2, Nat.add_mul]
    by_cases hroom : n + m ≤ c1
    · have h9' := h9 rfl
      have htk : (n + m) * i.size ≤ r1.tot := by rw [← h9']; exact Nat.mul_le_mul_right _ hroom
      have harr := R1.tot
      have hcs1 : arr1.toList.take (n * i.size) = cs1 := by
        apply List.ext_getElem?
        intro q
        by_cases hq : q < n * i.size
        · rw [List.getElem?_take, if_pos hq]
          have hq1 : q < cs1.length := by omega
          have hc2 := hcells1 q cs1[q] (List.getElem?_eq_getElem hq1)
          rw [addr_add, cell_of_row w r1.blk _ arr1 _ _ R1.blk] at hc2
          rw [List.getElem?_eq_getElem hq1]
          simpa using hc2
        · rw [List.getElem?_eq_none (by simp; omega), List.getElem?_eq_none (by omega)]
      have hf := run_firstCells_some (P := P) w i.size m ⟨r.blk, off2, none⟩ m c cs hl hcells
      have hst := run_storeCells_at P r1.blk (n * i.size) r1.ty cs 0 arr1 w R1.blk (by rw [hl, Nat.add_zero, ← Nat.add_mul]; omega) (one_of_rep hrep)
      simp only [Nat.add_zero] at hst
      have hrun : (Builtin.append_ #[t, t] ty #[.slice (some ⟨r1.blk, 0, none⟩) n c1, .slice (some ⟨r.blk, off2, none⟩) m c]).run P w = .ok (.slice (some ⟨r1.blk, 0, none⟩) (n + m) c1) (w.setRow r1.blk (arr1.toList.take (n * i.size) ++ cs ++ arr1.toList.drop (n * i.size + cs.length)).toArray) := by
        simp [Builtin.append_, run_underlying ht, sizeOf, typeInfo, hi, Builtin.lenOf, hroom, hf, addr_add, hst]
      have himm : ∀ b, imm b → (w.setRow r1.blk (arr1.toList.take (n * i.size) ++ cs ++ arr1.toList.drop (n * i.size + cs.length)).toArray).heap[b]? = w.heap[b]? := fun b hb => setRow_other w _ _ _ fun e => H.heap.sep k ob r1 ho hr1 hn1 (e ▸ hb)
      have hmono := fun (x : V) (u : Value) (h : Rep1 imm env w x u) => Rep1.mono (imm' := imm) (env' := env) (w' := w.setRow r1.blk (arr1.toList.take (n * i.size) ++ cs ++ arr1.toList.drop (n * i.size + cs.length)).toArray) (fun _ h => h) (fun _ _ h => h) himm h
      have H' := H.newobj (some k) (w' := w.setRow r1.blk (arr1.toList.take (n * i.size) ++ cs ++ arr1.toList.drop (n * i.size + cs.length)).toArray) rfl rfl rfl (by simp) (fun b _ hb => setRow_other w _ _ _ fun e => hb k r1 rfl hr1 hn1 e.symm) (fun q hq => by cases hq; exact ⟨ob, ho⟩) h3'.1 (blt_lt hlo) (r' := r1) (fun _ => .inr ⟨k, r1, rfl, hr1, hn1, rfl⟩)
        (ob' := ⟨.agg (ob.c.flat ++ cut ob2.c.flat off2 (m * i.size)), true⟩) (by
          refine ⟨hs.2.1, .inr ⟨hn1, _, setRow_heap w r1.blk arr1 _ _ _ R1.blk, ?_, ?_, fun h => (by cases h), ?_⟩⟩
          · simp only [List.size_toArray, List.length_append, List.length_take, List.length_drop, Array.length_toList]
            rw [Nat.add_mul] at htk
            omega
          · show V.size (.agg _) ≤ _
            simp only [V.size, hs.2.2, hylen]; exact htk
          · show RepL _ (V.flat (.agg _)) (List.take (V.size (.agg _)) _)
            simp only [V.flat, V.size, hs.1, hs.2.2, hylen, hcs1]
            rw [List.take_append_of_le_length (by simp [hl1, hl, Nat.add_mul]), List.take_of_length_le (by simp [hl1, hl, Nat.add_mul])]
            simp only [hcs1] at hmono
            exact hboth.imp hmono)
      refine ⟨.slice (some ⟨r1.blk, 0, none⟩) (n + m) c1, _, imm, _, ?_, H', ⟨r1, by simp [Env.set], .inl ⟨hn1, c1, rfl, hroom, h7, h8, h9, fun _ h => by cases h⟩⟩⟩
      rw [run_append_op, hx, hy, hrun]; rfl
    · have hge := grownCap_ge w (n + m) c1 e
      have htot : (cs1.toArray ++ cs.toArray ++ Builtin.zeroCells zv.cells (grownCap w (n + m) c1 e - (n + m))).size = grownCap w (n + m) c1 e * i.size := by
        simp only [Array.size_append, List.size_toArray, size_zeroCells, hzs', hl, hl1, ← Nat.add_mul]
        congr 1; omega
      obtain ⟨h4, h5⟩ := H.rowF h3'.1 (blt_lt hlo) (ys := ob.c.flat ++ cut ob2.c.flat off2 (m * i.size)) hlf (cells := cs1.toArray ++ cs.toArray ++ Builtin.zeroCells zv.cells (grownCap w (n + m) c1 e - (n + m)))
        (by have := grown_row hboth (Builtin.zeroCells zv.cells (grownCap w (n + m) c1 e - (n + m))); rwa [← List.append_toArray] at this) (by rw [hylen]; simp [hl, hl1, Nat.add_mul]) e true (fun h => by cases h) (some k) (fun q hq => by cases hq; exact ⟨ob, ho⟩) (w0 := w.drew) ⟨rfl, rfl, rfl, rfl⟩
      refine ⟨.slice (some ⟨w.heap.size, 0, none⟩) (n + m) (grownCap w (n + m) c1 e), _, imm, _, ?_, h4, ?_⟩
      · rw [run_append_op, hx, hy, run_append_grow (P := P) w t ty e i zv ht hi hz _ n c1 cs1 hl1 hcells1 ⟨r.blk, off2, none⟩ m c cs hl hcells (by omega) (by omega) (growslice_fits (by omega) (by omega))]; rfl
      · refine ⟨_, h5, .inl ⟨rfl, _, rfl, hge, grownCap_le_maxLen w (n + m) c1 e (by simp only [maxLen]; omega), ?_, fun _ => htot.symm, fun _ h => by cases h⟩⟩
        simp only [htot]; omega
end
end Go.X
