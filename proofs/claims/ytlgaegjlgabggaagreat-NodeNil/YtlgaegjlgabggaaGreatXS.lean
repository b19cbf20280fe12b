/- Operations: arrays of numbers are compared; truths are compared. No program in sight. -/
import Derived.Test.YtlgaegjlgabggaaGreatXP
import Derived.Laws.StructEq
namespace Go.X
open Go

def eqFrom (xs ys : List Int) : List Nat → Bool
  | [] => true
  | i :: r => xs.getD i 0 == ys.getD i 0 && eqFrom xs ys r

theorem eqFrom_iff (xs ys : List Int) : ∀ l, eqFrom xs ys l = true ↔ ∀ i, i ∈ l → xs.getD i 0 = ys.getD i 0
  | [] => by simp [eqFrom]
  | i :: r => by simp [eqFrom, eqFrom_iff xs ys r]

theorem eqFrom_all {xs ys : List Int} {n : Nat} (hx : xs.length = n) (hy : ys.length = n) : eqFrom xs ys (List.range' 0 n 1) = (xs == ys) := by
  rw [Bool.eq_iff_iff, eqFrom_iff, beq_iff_eq]
  constructor
  · intro h
    apply List.ext_getElem (by omega)
    intro i h1 h2
    have := h i (by rw [List.mem_range'_1]; omega)
    simpa [List.getD, List.getElem?_eq_getElem h1, List.getElem?_eq_getElem h2] using this
  · rintro rfl i _; rfl

section
variable {P : Program} {N : Nat} {d : Option Tmp} {ty : TypeId} {pos : String} {after : Array Edge} {g : Option (Nat × Bool)}

theorem run_equal_ints (t e : TypeId) (n : Nat) (k k' : IntKind) (xs ys : List Int) (hu : ∀ w, (underlying t).run P w = .ok (.array n e) w) (he : P.underlying e = some (.int k')) (hs : ∀ w, (sizeOf e).run P w = .ok 1 w) (hag : ∀ w, (isAgg e).run P w = .ok false w)
    (hx : xs.length = n) (hy : ys.length = n) (w : World) : (Op.equal t (.agg (xs.map (Value.int k)).toArray) (.agg (ys.map (Value.int k)).toArray)).run P w = .ok (xs == ys) w := by
  rw [← eqFrom_all hx hy]
  have hl : ∀ i, i ∈ List.range' 0 n 1 → i < n := fun i hi => by have := List.mem_range'_1.1 hi; omega
  have hpart : ∀ (zs : List Int) (i : Nat), zs.length = n → i < n → (part e (zs.map (Value.int k)).toArray (i * 1)).run P w = .ok (.int k (zs.getD i 0)) w := by
    intro zs i hz hi
    have hlt : i < zs.length := by omega
    simp [part, hag, List.getD, List.getElem?_eq_getElem hlt]
  show (Op.equalIn (9999 + 1) t _ _).run P w = _
  rw [Op.equalIn]
  simp only [Sem.run_bind, hu, Result.andThen_ok, hs, Std.Legacy.Range.forIn_eq_forIn_range', Std.Legacy.Range.size, Nat.sub_zero, Nat.add_sub_cancel, Nat.div_one]
  generalize List.range' 0 n 1 = l at hl ⊢
  induction l with
  | nil => simp [eqFrom]
  | cons i l ih =>
    have hi := hl i (.head _)
    have hp : (Op.equalIn 9999 e (.int k (xs.getD i 0)) (.int k (ys.getD i 0))).run P w = .ok (xs.getD i 0 == ys.getD i 0) w := run_equalIn_int w 9998 e k k' _ _ he
    simp only [List.forIn_cons, Sem.run_bind, hpart xs i hx hi, hpart ys i hy hi, hp, Result.andThen_ok, eqFrom]
    cases hb : (xs.getD i 0 == ys.getD i 0)
    · simp
    · simp only [Bool.not_true, Bool.false_eq_true, if_false, Sem.run_pure, Result.andThen_ok, Bool.true_and]
      exact ih fun j hj => hl j (.tail _ hj)

theorem OpRun.eqlI (t e u : TypeId) (x y : Operand) (n : Nat) (k k' : IntKind) (xs ys : List Int) (hd : dlt N d = true) (hu : ∀ w, (underlying t).run P w = .ok (.array n e) w) (he : P.underlying e = some (.int k')) (hs : ∀ w, (sizeOf e).run P w = .ok 1 w)
    (hag : ∀ w, (isAgg e).run P w = .ok false w) (hm : P.eqGuardType P.depth t = false) :
    OpRun P N ⟨d, .binOp .eql t x y u, ty, pos, after, g⟩ [(x, .ints k n xs), (y, .ints k n ys)] [] [] (.v (.bool (xs == ys))) [] :=
  OpRun.val hd fun B imm env st a w h _ _ H => by
    obtain ⟨h1, _, hx⟩ := H.ev h.1
    obtain ⟨h2, _, hy⟩ := H.ev h.2.1
    simp only at hx hy
    have hr := run_equal_ints (P := P) t e n k k' xs ys hu he hs hag h1 h2 w
    refine ⟨.bool (xs == ys), w, imm, env, ?_, H, .v _ rfl⟩
    have hg := run_eqGuard_agg (P := P) w .eql t x y (xs.map (Value.int k)).toArray (ys.map (Value.int k)).toArray hm
    have hb : (binOp .eql t (.agg (xs.map (Value.int k)).toArray) (.agg (ys.map (Value.int k)).toArray)).run P w = .ok (.bool (xs == ys)) w := by
      simp only [binOp, Sem.run_bind, hr, Result.andThen_ok, Sem.run_pure]
    simp only [execOp, hx, hy, Sem.run_bind, hg, hb, Result.andThen_ok, Sem.run_pure]
theorem OpRun.neqI (t e u : TypeId) (x y : Operand) (n : Nat) (k k' : IntKind) (xs ys : List Int) (hd : dlt N d = true) (hu : ∀ w, (underlying t).run P w = .ok (.array n e) w) (he : P.underlying e = some (.int k')) (hs : ∀ w, (sizeOf e).run P w = .ok 1 w)
    (hag : ∀ w, (isAgg e).run P w = .ok false w) (hm : P.eqGuardType P.depth t = false) :
    OpRun P N ⟨d, .binOp .neq t x y u, ty, pos, after, g⟩ [(x, .ints k n xs), (y, .ints k n ys)] [] [] (.v (.bool (xs != ys))) [] :=
  OpRun.val hd fun B imm env st a w h _ _ H => by
    obtain ⟨h1, _, hx⟩ := H.ev h.1
    obtain ⟨h2, _, hy⟩ := H.ev h.2.1
    simp only at hx hy
    have hr := run_equal_ints (P := P) t e n k k' xs ys hu he hs hag h1 h2 w
    refine ⟨.bool (xs != ys), w, imm, env, ?_, H, .v _ rfl⟩
    have hg := run_eqGuard_agg (P := P) w .neq t x y (xs.map (Value.int k)).toArray (ys.map (Value.int k)).toArray hm
    have hb : (binOp .neq t (.agg (xs.map (Value.int k)).toArray) (.agg (ys.map (Value.int k)).toArray)).run P w = .ok (.bool (xs != ys)) w := by
      simp only [binOp, Sem.run_bind, hr, Result.andThen_ok, Sem.run_pure]; rfl
    simp only [execOp, hx, hy, Sem.run_bind, hg, hb, Result.andThen_ok, Sem.run_pure]
theorem OpRun.eqlB (t u : TypeId) (x y : Operand) (p q : Bool) (hd : dlt N d = true) (hu : P.underlying t = some .bool) :
    OpRun P N ⟨d, .binOp .eql t x y u, ty, pos, after, g⟩ [(x, .v (.bool p)), (y, .v (.bool q))] [] [] (.v (.bool (p == q))) [] :=
  OpRun.bin .eql t u x y _ _ _ hd (fun w => run_eql_bool w t p q hu) (fun _ => rfl) (fun _ _ => rfl)
theorem OpRun.neqB (t u : TypeId) (x y : Operand) (p q : Bool) (hd : dlt N d = true) (hu : P.underlying t = some .bool) :
    OpRun P N ⟨d, .binOp .neq t x y u, ty, pos, after, g⟩ [(x, .v (.bool p)), (y, .v (.bool q))] [] [] (.v (.bool (p != q))) [] :=
  OpRun.bin .neq t u x y _ _ _ hd (fun w => run_neq_bool w t p q hu) (fun _ => rfl) (fun _ _ => rfl)
end

/- EQUALITY OF STRUCTS, by their parts. -/
def EqRun (P : Program) (d : Nat) (t : TypeId) (x y : V) (b : Bool) : Prop :=
  ∀ (imm : Imm) (env : Env) (w : World) (u v : Value), RepC imm env w x u → RepC imm env w y v → (Op.equalIn d t u v).run P w = .ok b w

theorem EqRun.ints {P : Program} {t e : TypeId} {n : Nat} {k k' : IntKind} {xs ys : List Int} (d : Nat) (hu : ∀ w, (underlying t).run P w = .ok (.array n e) w) (he : P.underlying e = some (.int k')) (hs : ∀ w, (sizeOf e).run P w = .ok 1 w)
    (hag : ∀ w, (isAgg e).run P w = .ok false w) : EqRun P (d + 2) t (.ints k n xs) (.ints k n ys) (xs == ys) := by
  rintro imm env w u v ⟨hx, _, rfl⟩ ⟨hy, _, rfl⟩
  rw [← eqFrom_all hx hy]
  have hl : ∀ i, i ∈ List.range' 0 n 1 → i < n := fun i hi => by have := List.mem_range'_1.1 hi; omega
  have hpart : ∀ (zs : List Int) (i : Nat), zs.length = n → i < n → (part e (zs.map (Value.int k)).toArray (i * 1)).run P w = .ok (.int k (zs.getD i 0)) w := by
    intro zs i hz hi
    have hlt : i < zs.length := by omega
    simp [part, hag, List.getD, List.getElem?_eq_getElem hlt]
  rw [Op.equalIn]
  simp only [Sem.run_bind, hu, Result.andThen_ok, hs, Std.Legacy.Range.forIn_eq_forIn_range', Std.Legacy.Range.size, Nat.sub_zero, Nat.add_sub_cancel, Nat.div_one]
  generalize List.range' 0 n 1 = l at hl ⊢
  induction l with
  | nil => simp [eqFrom]
  | cons i l ih =>
    have hi := hl i (.head _)
    have hp : (Op.equalIn (d + 1) e (.int k (xs.getD i 0)) (.int k (ys.getD i 0))).run P w = .ok (xs.getD i 0 == ys.getD i 0) w := run_equalIn_int w d e k k' _ _ he
    simp only [List.forIn_cons, Sem.run_bind, hpart xs i hx hi, hpart ys i hy hi, hp, Result.andThen_ok, eqFrom]
    cases hb : (xs.getD i 0 == ys.getD i 0)
    · simp
    · simp only [Bool.not_true, Bool.false_eq_true, if_false, Sem.run_pure, Result.andThen_ok, Bool.true_and]
      exact ih fun j hj => hl j (.tail _ hj)
theorem EqRun.int {P : Program} {t : TypeId} {k k' : IntKind} {a b : Int} (d : Nat) (he : P.underlying t = some (.int k')) : EqRun P (d + 1) t (.v (.int k a)) (.v (.int k b)) (a == b) := by
  intro imm env w u v hu hv
  cases hu; cases hv
  exact run_equalIn_int w d t k k' a b he
theorem EqRun.bool {P : Program} {t : TypeId} {a b : Bool} (d : Nat) (he : P.underlying t = some .bool) : EqRun P (d + 1) t (.v (.bool a)) (.v (.bool b)) (a == b) := by
  intro imm env w u v hu hv
  cases hu; cases hv
  exact run_equalIn_bool w d t a b he

/-- The fields from some place on: their parts, what each comparison gives. -/
def EqFields (P : Program) (d : Nat) (x y : V) : List Field → List Bool → Prop
  | [], [] => True
  | f :: fs, b :: bs => (f.name ≠ "_" ∧ ∃ p q sz, (((∀ w, (isAgg f.type).run P w = .ok true w) ∧ (∀ w, (sizeOf f.type).run P w = .ok sz w) ∧ V.at sz x f.offset = some p ∧ V.at sz y f.offset = some q ∧ p.isAgg = true ∧ q.isAgg = true) ∨
      ((∀ w, (isAgg f.type).run P w = .ok false w) ∧ V.leaf x f.offset = some p ∧ V.leaf y f.offset = some q ∧ p.noTup = true ∧ q.noTup = true)) ∧ EqRun P d f.type p q b) ∧ EqFields P d x y fs bs
  | _, _ => False

theorem part_agg {P : Program} {imm : Imm} {env : Env} {w : World} {c y : V} {arr : Array Value} {t : TypeId} {off sz : Nat} (hag : ∀ w, (isAgg t).run P w = .ok true w) (hs : ∀ w, (sizeOf t).run P w = .ok sz w)
    (hok : V.ok c) (hc : RepL (Rep1 imm env w) c.flat arr.toList) (hy : V.at sz c off = some y) (hya : y.isAgg = true) : ∃ u, (part t arr off).run P w = .ok u w ∧ RepC imm env w y u := by
  obtain ⟨h3, h4, h5, h6⟩ := V.at_spec hok hy
  refine ⟨.agg (arr.extract off (off + sz)), by simp [part, hag, hs], ?_⟩
  have e : (arr.extract off (off + sz)) = ((arr.toList.drop off).take sz).toArray := by
    apply Array.toList_inj.1
    simp [Array.toList_extract, List.extract_eq_take_drop]
  rw [e]
  refine RepC.of_cells h3 ?_ (by cases y <;> simp [V.isAgg] at hya <;> simp)
  rw [h6]
  exact (hc.drop _).take _
theorem part_one {P : Program} {imm : Imm} {env : Env} {w : World} {c y : V} {arr : Array Value} {t : TypeId} {off : Nat} (hag : ∀ w, (isAgg t).run P w = .ok false w)
    (hok : V.ok c) (hc : RepL (Rep1 imm env w) c.flat arr.toList) (hy : V.leaf c off = some y) : ∃ u, (part t arr off).run P w = .ok u w ∧ RepC imm env w y u := by
  obtain ⟨h3, h4, h5⟩ := V.leaf_spec hok hy
  obtain ⟨u, hu, hrep⟩ := hc.2 _ _ h5
  have hu' : arr[off]? = some u := by simpa using hu
  refine ⟨u, by simp [part, hag, hu'], ?_⟩
  cases y <;> first | exact hrep | (simp [V.isOne] at h3)

theorem eqFields_run {P : Program} {d : Nat} {imm : Imm} {env : Env} {w : World} {x y : V} {xs ys : Array Value} (hx : V.ok x) (hy : V.ok y) (hcx : RepL (Rep1 imm env w) x.flat xs.toList) (hcy : RepL (Rep1 imm env w) y.flat ys.toList) :
    ∀ (fs : List Field) (bs : List Bool), EqFields P d x y fs bs → (Op.eqFields d xs ys fs).run P w = .ok (bs.all id) w
  | [], [], _ => by simp [Op.eqFields]
  | f :: fs, b :: bs, ⟨⟨hn, p, q, sz, hpq, hr⟩, ht⟩ => by
    have key : ∃ u v, (part f.type xs f.offset).run P w = .ok u w ∧ (part f.type ys f.offset).run P w = .ok v w ∧ RepC imm env w p u ∧ RepC imm env w q v := by
      rcases hpq with ⟨h1, h2, h3, h4, h5, h6⟩ | ⟨h1, h3, h4, h5, h6⟩
      · obtain ⟨u, a1, a2⟩ := part_agg h1 h2 hx hcx h3 h5
        obtain ⟨v, b1, b2⟩ := part_agg h1 h2 hy hcy h4 h6
        exact ⟨u, v, a1, b1, a2, b2⟩
      · obtain ⟨u, a1, a2⟩ := part_one h1 hx hcx h3
        obtain ⟨v, b1, b2⟩ := part_one h1 hy hcy h4
        exact ⟨u, v, a1, b1, a2, b2⟩
    obtain ⟨u, v, a1, b1, a2, b2⟩ := key
    have e := hr imm env w u v a2 b2
    simp only [Op.eqFields, if_pos hn, Sem.run_bind, a1, b1, e, Result.andThen_ok]
    cases b
    · simp
    · simp only [Bool.not_true, Bool.false_eq_true, if_false, List.all_cons, id_eq, Bool.true_and]
      exact eqFields_run hx hy hcx hcy fs bs ht
  | [], _ :: _, h => h.elim
  | _ :: _, [], h => h.elim

theorem OpRun.eqlS {P : Program} {N : Nat} {d : Option Tmp} {ty : TypeId} {pos : String} {after : Array Edge} {g : Option (Nat × Bool)} (t u : TypeId) (x y : Operand) (c e : V) (fs : List Field) (bs : List Bool) (hd : dlt N d = true) (hu0 : P.underlying t = some (.struct fs.toArray)) (hp : P.stoodInHeld t = false) (hm : P.eqGuardType P.depth t = false)
    (hc : c.isAgg = true) (he : e.isAgg = true) (hb : EqFields P 9999 c e fs bs) : OpRun P N ⟨d, .binOp .eql t x y u, ty, pos, after, g⟩ [(x, c), (y, e)] [] [] (.v (.bool (bs.all id))) [] :=
  OpRun.val hd fun B imm env st a w h _ _ H => by
    have hfo : P.fieldsOf t = fs.toArray := by simp [Program.fieldsOf, hu0]
    have hfs : (P.fieldsOf t).toList = fs := by rw [hfo]
    have hu : P.underlying t = some (.struct (P.fieldsOf t)) := by rw [hfo]; exact hu0
    have agg : ∀ {c : V} {u : Value}, c.isAgg = true → RepV imm env w c u → ∃ arr : Array Value, u = .agg arr ∧ V.ok c ∧ RepL (Rep1 imm env w) c.flat arr.toList := by
      intro c u hc h
      have hcells := (RepC_of_V (by intro l; cases c <;> simp [V.isAgg] at hc <;> simp) h).cells
      cases c <;> simp [V.isAgg] at hc
      · obtain ⟨_, _, rfl⟩ := h; exact ⟨_, rfl, hcells.1, by simpa [Value.cells] using hcells.2⟩
      · obtain ⟨_, arr, rfl, _⟩ := h; exact ⟨arr, rfl, hcells.1, by simpa [Value.cells] using hcells.2⟩
    obtain ⟨xs, hx, h1, h2⟩ := agg hc (H.ev h.1)
    obtain ⟨ys, hy, h3, h4⟩ := agg he (H.ev h.2.1)
    simp only at hx hy
    have hr := eqFields_run h1 h3 h2 h4 fs bs hb
    have hg := run_eqGuard_agg (P := P) w .eql t x y xs ys hm
    have hb2 : (binOp .eql t (.agg xs) (.agg ys)).run P w = .ok (.bool (bs.all id)) w := by
      rw [run_eql_struct, run_equalIn_agg w 9999 t xs ys hu hp, hfs, hr]; rfl
    refine ⟨.bool (bs.all id), w, imm, env, ?_, H, .v _ rfl⟩
    simp only [execOp, hx, hy, Sem.run_bind, hg, hb2, Result.andThen_ok, Sem.run_pure]
theorem OpRun.neqS {P : Program} {N : Nat} {d : Option Tmp} {ty : TypeId} {pos : String} {after : Array Edge} {g : Option (Nat × Bool)} (t u : TypeId) (x y : Operand) (c e : V) (fs : List Field) (bs : List Bool) (hd : dlt N d = true) (hu0 : P.underlying t = some (.struct fs.toArray)) (hp : P.stoodInHeld t = false) (hm : P.eqGuardType P.depth t = false)
    (hc : c.isAgg = true) (he : e.isAgg = true) (hb : EqFields P 9999 c e fs bs) : OpRun P N ⟨d, .binOp .neq t x y u, ty, pos, after, g⟩ [(x, c), (y, e)] [] [] (.v (.bool (!bs.all id))) [] :=
  OpRun.val hd fun B imm env st a w h _ _ H => by
    have hfo : P.fieldsOf t = fs.toArray := by simp [Program.fieldsOf, hu0]
    have hfs : (P.fieldsOf t).toList = fs := by rw [hfo]
    have hu : P.underlying t = some (.struct (P.fieldsOf t)) := by rw [hfo]; exact hu0
    have agg : ∀ {c : V} {u : Value}, c.isAgg = true → RepV imm env w c u → ∃ arr : Array Value, u = .agg arr ∧ V.ok c ∧ RepL (Rep1 imm env w) c.flat arr.toList := by
      intro c u hc h
      have hcells := (RepC_of_V (by intro l; cases c <;> simp [V.isAgg] at hc <;> simp) h).cells
      cases c <;> simp [V.isAgg] at hc
      · obtain ⟨_, _, rfl⟩ := h; exact ⟨_, rfl, hcells.1, by simpa [Value.cells] using hcells.2⟩
      · obtain ⟨_, arr, rfl, _⟩ := h; exact ⟨arr, rfl, hcells.1, by simpa [Value.cells] using hcells.2⟩
    obtain ⟨xs, hx, h1, h2⟩ := agg hc (H.ev h.1)
    obtain ⟨ys, hy, h3, h4⟩ := agg he (H.ev h.2.1)
    simp only at hx hy
    have hr := eqFields_run h1 h3 h2 h4 fs bs hb
    have hg := run_eqGuard_agg (P := P) w .neq t x y xs ys hm
    have hb2 : (binOp .neq t (.agg xs) (.agg ys)).run P w = .ok (.bool (!bs.all id)) w := by
      rw [run_neq_struct, run_equalIn_agg w 9999 t xs ys hu hp, hfs, hr]; rfl
    refine ⟨.bool (!bs.all id), w, imm, env, ?_, H, .v _ rfl⟩
    simp only [execOp, hx, hy, Sem.run_bind, hg, hb2, Result.andThen_ok, Sem.run_pure]
end Go.X
