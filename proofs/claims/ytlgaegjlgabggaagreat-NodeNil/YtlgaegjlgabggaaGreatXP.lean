/- Operations: tables, the lesser and the greater, parts of arrays; ways that meet again. No program in sight. -/
import Derived.Test.YtlgaegjlgabggaaGreatXN
namespace Go.X
open Go

section
variable {P : Program} {N : Nat} {st : St} {O : Type} {Q : O → Exit → St → Prop}
/-- Ways that meet again. -/
theorem X.joinF {c d : Code} {α : Type} (T0 : List (Nat × V)) (H0 : List (Nat × Option Ob)) (Tv : α → List (Nat × V)) (Hv : α → List (Nat × Option Ob)) (I : α → Prop)
    (_l1 : AllP (fun p => look st.T p.1 = some p.2) T0) (_l2 : AllP (fun p => look st.H p.1 = some p.2) H0)
    (before : (∀ b, I b → ∃ z, W P N d ⟨List.append (Tv b) T0, List.append (Hv b) H0⟩ (Q z)) → ∃ z, W P N c st (thenQ (fun s => W P N d s (Q z)) (Q z)))
    (after : ∀ a, I a → ∃ z, W P N d ⟨List.append (Tv a) T0, List.append (Hv a) H0⟩ (Q z)) : ∃ z, W P N (.seq c d) st (Q z) :=
  X.seq (before after)
end

section
variable {P : Program} {N : Nat} {d : Option Tmp} {ty : TypeId} {pos : String} {after : Array Edge} {g : Option (Nat × Bool)}

def strAt (s : ByteArray) (i : Int) : Int := match s[i.toNat]? with
  | some b => b.toNat
  | none => 0
theorem strAt_good (s : ByteArray) (i : Int) : good (.int .u8 (strAt s i)) = true := good_int.2 (by
  have hr : IntKind.u8.min = 0 ∧ IntKind.u8.max = 255 := by decide
  rw [hr.1, hr.2]; unfold strAt; split
  · rename_i b _; have := b.toNat_lt; omega
  · omega)
theorem OpRun.indexS8 (t : TypeId) (s : ByteArray) (z : Operand) (i : Int) (hd : dlt N d = true) (hu : ∀ w, (underlying t).run P w = .ok .string w) (hs : s.size = 256) :
    OpRun P N ⟨d, .index t (.const (.string s)) z, ty, pos, after, g⟩ [(z, .v (.int .u8 i))] [] [] (.v (.int .u8 (strAt s i))) [] :=
  OpRun.val hd fun B imm env st a w h _ _ H => by
    have hz := int_ev H h.1
    have hg := good_int.1 (H.good h.1)
    have hr : IntKind.u8.min = 0 ∧ IntKind.u8.max = 255 := by decide
    rw [hr.1, hr.2] at hg
    simp only at hz
    refine ⟨.int .u8 (strAt s i), w, imm, env, ?_, H, .v _ (strAt_good s i)⟩
    have hlt : i.toNat < s.size := by omega
    have e : s[i.toNat]? = some s[i.toNat] := getElem?_pos s i.toNat hlt
    have ec : a.eval (.const (.string s)) = .string s := rfl
    simp [execOp, Instr.index, hz, asIntOf, hu, ec, hg.1, e, strAt]

theorem strAt_le (s : ByteArray) (i : Int) (m : Nat) (h : (s.data.toList.all fun b => Nat.ble b.toNat m) = true) : 0 ≤ strAt s i ∧ strAt s i ≤ m := by
  unfold strAt
  split
  · rename_i b hb
    have hm : b ∈ s.data.toList := by
      obtain ⟨hi, e⟩ := getElem?_eq_some_iff.1 hb
      have e : s.data[i.toNat] = b := e
      rw [← e, Array.mem_toList_iff]; exact Array.getElem_mem _
    have := Nat.ble_eq ▸ List.all_eq_true.1 h b hm
    omega
  · omega
theorem XS.fact {P : Program} {N : Nat} {ops : Array Oper} {rest : List Oper} {st : St} {O : Type} {Q : O → Exit → St → Prop} (k : Nat) {kd : IntKind} {e : Int} (_h : look st.T k = some (.v (.int kd e))) (p : Int → Prop) (hp : p e)
    (K : p e → ∃ z, WS P N ops rest st (Q z)) : ∃ z, WS P N ops rest st (Q z) := K hp

theorem good_min {k : IntKind} {a b : Int} (ha : good (.int k a) = true) (hb : good (.int k b) = true) : good (.int k (min a b)) = true := by
  have := good_int.1 ha; have := good_int.1 hb; exact good_int.2 (by omega)
theorem good_max {k : IntKind} {a b : Int} (ha : good (.int k a) = true) (hb : good (.int k b) = true) : good (.int k (max a b)) = true := by
  have := good_int.1 ha; have := good_int.1 hb; exact good_int.2 (by omega)
theorem OpRun.min (x y : Operand) (tys : Array TypeId) (k : IntKind) (a b : Int) (hd : dlt N d = true) :
    OpRun P N ⟨d, .call { callee := .builtin .min, args := #[x, y], argTypes := tys }, ty, pos, after, g⟩ [(x, .v (.int k a)), (y, .v (.int k b))] [] [] (.v (.int k (min a b))) [] :=
  OpRun.val hd fun B imm env st a' w h _ _ H => by
    have hx := int_ev H h.1
    have hy := int_ev H h.2.1
    simp only at hx hy
    refine ⟨.int k (Min.min a b), w, imm, env, ?_, H, .v _ (good_min (H.good h.1) (H.good h.2.1))⟩
    have e : Min.min a b = if b < a then b else a := by split <;> omega
    simp [execOp, resolve, invoke, builtin, hx, hy, Builtin.min_, Builtin.min2, Result.andThen, e]
theorem OpRun.max (x y : Operand) (tys : Array TypeId) (k : IntKind) (a b : Int) (hd : dlt N d = true) :
    OpRun P N ⟨d, .call { callee := .builtin .max, args := #[x, y], argTypes := tys }, ty, pos, after, g⟩ [(x, .v (.int k a)), (y, .v (.int k b))] [] [] (.v (.int k (max a b))) [] :=
  OpRun.val hd fun B imm env st a' w h _ _ H => by
    have hx := int_ev H h.1
    have hy := int_ev H h.2.1
    simp only at hx hy
    refine ⟨.int k (Max.max a b), w, imm, env, ?_, H, .v _ (good_max (H.good h.1) (H.good h.2.1))⟩
    have e : Max.max a b = if b > a then b else a := by split <;> omega
    simp [execOp, resolve, invoke, builtin, hx, hy, Builtin.max_, Builtin.max2, Result.andThen, e]

theorem OpRun.indexA (t e : TypeId) (x z : Operand) (kd k : IntKind) (n : Nat) (xs : List Int) (i : Int) (hd : dlt N d = true) (hu : ∀ w, (underlying t).run P w = .ok (.array n e) w) (hs : ∀ w, (sizeOf e).run P w = .ok 1 w) (hag : ∀ w, (isAgg e).run P w = .ok false w)
    (h0 : 0 ≤ i) (hi : i < n) : OpRun P N ⟨d, .index t x z, ty, pos, after, g⟩ [(x, .ints k n xs), (z, .v (.int kd i))] [] [] (.v (.int k (xs.getD i.toNat 0))) [] :=
  OpRun.val hd fun B imm env st a w h _ _ H => by
    have hz := int_ev H h.2.1
    obtain ⟨hl, hg, hx⟩ := H.ev h.1
    simp only at hz hx
    have hlt : i.toNat < xs.length := by omega
    have e2 : xs.getD i.toNat 0 = xs[i.toNat] := by simp [List.getD, List.getElem?_eq_getElem hlt]
    refine ⟨.int k (xs.getD i.toNat 0), w, imm, env, ?_, H, .v _ (good_int.2 (by rw [e2]; exact hg _ (List.getElem_mem _)))⟩
    simp [execOp, Instr.index, hz, hx, asIntOf, hu, hs, hag, part, h0, hi, hlt, e2]

/-- A part of an array, as a slice; that as an array again; what lies there. -/
theorem OpRun.sliceA (t e : TypeId) (x : Operand) (lo hi : Option Operand) (k off n : Nat) (kl kh : IntKind) (l h : Nat) (ob : Ob) (kd : IntKind) (xs : List Int) (hd : dlt N d = true) (hu : ∀ w, (underlying t).run P w = .ok (.array n e) w) (hs : ∀ w, (sizeOf e).run P w = .ok 1 w)
    (hlo : (lo = none ∧ l = 0) ∨ (lo = some (.const (.int kl l)))) (hhi : (hi = none ∧ h = n) ∨ (hi = some (.const (.int kh h)))) (h1 : l ≤ h) (h2 : h ≤ n) (h3 : l < n) (hm : n ≤ maxLen) (hat : V.intsAt ob.c off = some (kd, n, xs)) (hob : ob.grow = false) (hz0 : off + l ≠ 0 ∨ V.size ob.c = n) :
    OpRun P N ⟨d, .slice t x lo hi none, ty, pos, after, g⟩ [(x, .ptr k off)] [(k, ob)] [] (.osl k (off + l) (h - l) 1 none) [] :=
  OpRun.val hd fun B imm env st a w hh h2' _ H => by
    obtain ⟨r, hr, hn, hx⟩ := H.ev hh.1
    have ho : lookH st.H k = some ob := h2'.1
    obtain ⟨arr, R⟩ := H.objR ho hr hn
    obtain ⟨h4, h5, h6⟩ := V.intsAt_spec R.ok hat
    have hb := R.box hob
    simp only at hx
    have hc : ∀ (k : IntKind) (i : Nat), a.eval (.const (.int k i)) = .int k i := fun _ _ => rfl
    refine ⟨.slice (some ⟨r.blk, off + l, none⟩) (h - l) (n - l), w, imm, env, ?_, H, ⟨r, hr, .inl ⟨hn, n - l, rfl, by omega, by omega, by omega, fun h0 => ?_, fun m hm => by cases hm⟩⟩⟩
    · have hne : n ≠ l := by omega
      rcases hlo with ⟨rfl, rfl⟩ | rfl <;> rcases hhi with ⟨rfl, rfl⟩ | rfl <;>
        simp [execOp, Instr.sliceAt, hu, hs, hx, Instr.sureAddr, Instr.sliceBounds, Instr.sliceBound, hc, asIntOf, h1, h2, hne, addr_add] <;> omega
    · rcases hz0 with hz0 | hz0
      · omega
      · omega
theorem OpRun.s2ap (t e : TypeId) (x : Operand) (k off n m : Nat) (cap : Option Nat) (hd : dlt N d = true) (hu : ∀ w, (underlying t).run P w = .ok (.array n e) w) (hnm : n ≤ m) (h0 : 0 < n) :
    OpRun P N ⟨d, .sliceToArrayPointer t x, ty, pos, after, g⟩ [(x, .osl k off m 1 cap)] [] [] (.ptr k off) [] :=
  OpRun.val hd fun B imm env st a w hh _ _ H => by
    obtain ⟨r, hr, ⟨hn, c, hx, _⟩ | ⟨_, _, hm0, _⟩⟩ := H.ev hh.1
    · simp only at hx
      refine ⟨.pointer (some ⟨r.blk, off, none⟩), w, imm, env, ?_, H, ⟨r, hr, hn, rfl⟩⟩
      have : ¬ m < n := by omega
      simp [execOp, Instr.arrayAt, hu, hx, this]
    · omega
theorem OpRun.loadSub (t : TypeId) (x : Operand) (k off base n sz : Nat) (ob : Ob) (kd : IntKind) (xs : List Int) (hd : dlt N d = true) (hag : ∀ w, (isAgg t).run P w = .ok true w) (hsz : ∀ w, (sizeOf t).run P w = .ok sz w)
    (hat : V.intsAt ob.c base = some (kd, n, xs)) (hb : base ≤ off) (hi : off + sz ≤ base + n) : OpRun P N ⟨d, .load t x, ty, pos, after, g⟩ [(x, .ptr k off)] [(k, ob)] [] (.ints kd sz ((xs.drop (off - base)).take sz)) [] :=
  OpRun.val hd fun B imm env st a w h1 h2 _ H => by
    obtain ⟨r, hr, hn, hx⟩ := H.ev h1.1
    have ho : lookH st.H k = some ob := h2.1
    obtain ⟨arr, R⟩ := H.objR ho hr hn
    obtain ⟨h3, h4, h5⟩ := V.intsAt_spec R.ok hat
    have hys : (((xs.drop (off - base)).take sz).map fun z => V.v (.int kd z)) = (ob.c.flat.drop off).take sz := by
      rw [List.map_take, List.map_drop, ← h5, List.drop_take, List.take_take, List.drop_drop]
      congr 1
      · omega
      · congr 1; omega
    obtain ⟨cs, hl, hrep, hc⟩ := R.cells hys (by omega)
    refine ⟨.agg cs.toArray, w, imm, env, ?_, H, ?_⟩
    · have := run_loadCells_list (P := P) w ⟨r.blk, off, none⟩ cs (fun j v hj => by rw [addr_add]; exact hc j v hj)
      rw [hl] at this
      simp [execOp, Instr.loadAt, hx, Instr.sureAddr, loadVar, hag, hsz, this]
    · have := RepL_ints_inv hrep
      exact ⟨by simp; omega, this.2, by rw [this.1]⟩
end
theorem quo64 {a b : Int} (ha : 0 ≤ a) (hb : 0 < b) (hm : a ≤ 9223372036854775807) : IntKind.i64.wrap (a.tdiv b) = a / b := by
  rw [Int.tdiv_eq_ediv_of_nonneg ha]
  have h1 : 0 ≤ a / b := Int.ediv_nonneg ha (Int.le_of_lt hb)
  have h2 : a / b ≤ a := Int.ediv_le_self _ ha
  exact nw64 (by omega) (by omega)
theorem rem64 {a b : Int} (ha : 0 ≤ a) : a.tmod b = a % b := Int.tmod_eq_emod_of_nonneg ha
end Go.X
