/- Operations: slices of data: lengths, elements, parts; parts of values; equality. No program in sight. -/
import Derived.Test.YtlgaegjlgabggaaGreatXM
namespace Go.X
open Go

theorem sli_inv {imm : Imm} {w : World} {z : V} {u : Value} (h : RepD imm w z u) : ∀ k xs, z = .sli k xs →
    (xs = [] ∧ ∃ a c, u = .slice a 0 c) ∨ ∃ b off c, u = .slice (some ⟨b, off, none⟩) xs.length c ∧ imm b ∧ xs.length ≤ c ∧ xs.length ≤ maxLen ∧ InR k xs ∧ ∀ (i : Nat) (x : Int), xs[i]? = some x → w.cell? ⟨b, off + i, none⟩ = some (.int k x) := by
  cases h with
  | v x h1 => intro k xs hx; cases hx
  | sliE k a c => intro k' xs hx; cases hx; exact .inl ⟨rfl, a, c, rfl⟩
  | sli k ys b off c hb hc hm hg h => intro k' xs hx; cases hx; exact .inr ⟨b, off, c, rfl, hb, hc, hm, hg, h⟩
  | slE a c => intro k xs hx; cases hx
  | sl es sz b off c us hb hc hm hsz h hr => intro k xs hx; cases hx
  | dptr q b off us hb hok h hr => intro k xs hx; cases hx

theorem sl_inv {imm : Imm} {w : World} {z : V} {u : Value} (h : RepD imm w z u) : ∀ es, z = .sl es →
    (es = [] ∧ ∃ a c, u = .slice a 0 c) ∨ ∃ sz b off c, ∃ us : Nat → Value, u = .slice (some ⟨b, off, none⟩) es.length c ∧ imm b ∧ es.length ≤ c ∧ es.length ≤ maxLen ∧ (∀ e, e ∈ es → V.size e = sz ∧ V.ok e) ∧
      (∀ (i : Nat) (x : V), (V.flats es)[i]? = some x → w.cell? ⟨b, off + i, none⟩ = some (us i)) ∧ (∀ (i : Nat) (x : V), (V.flats es)[i]? = some x → RepD imm w x (us i)) := by
  cases h with
  | v x h1 => intro es hx; cases hx
  | sliE k a c => intro es hx; cases hx
  | sli k ys b off c hb hc hm hg h => intro es hx; cases hx
  | slE a c => intro es hx; cases hx; exact .inl ⟨rfl, a, c, rfl⟩
  | sl es' sz b off c us hb hc hm hsz h hr => intro es hx; cases hx; exact .inr ⟨sz, b, off, c, us, rfl, hb, hc, hm, hsz, h, hr⟩
  | dptr q b off us hb hok h hr => intro es hx; cases hx

theorem good_len {n : Nat} (h : n ≤ maxLen) : good (.int .i64 n) = true := good_int.2 (by simp only [maxLen] at h; simp [IntKind.min, IntKind.max, IntKind.bits, IntKind.signed]; omega)
theorem flats_at : ∀ (es : List V) (sz : Nat), (∀ e, e ∈ es → V.size e = sz ∧ V.ok e) → ∀ (i : Nat) (e : V), es[i]? = some e → ∀ j x, e.flat[j]? = some x → (V.flats es)[i * sz + j]? = some x
  | [], _, _, i, e, h, _, _, _ => by simp at h
  | y :: r, sz, hsz, i, e, h, j, x, hx => by
    have hy := hsz y (.head _)
    have hl := V.flat_length y hy.2
    simp only [V.flats]
    cases i with
    | zero =>
      simp at h; subst h
      have : j < y.flat.length := (List.getElem?_eq_some_iff.1 hx).1
      rw [Nat.zero_mul, Nat.zero_add, List.getElem?_append_left this]; exact hx
    | succ i =>
      have ih := flats_at r sz (fun e he => hsz e (.tail _ he)) i e (by simpa using h) j x hx
      rw [List.getElem?_append_right (by rw [hl, hy.1, Nat.add_mul]; omega), hl, hy.1]
      rw [show (i + 1) * sz + j - sz = i * sz + j by rw [Nat.add_mul]; omega]
      exact ih

theorem flats_length_eq : ∀ (es : List V) (sz : Nat), (∀ e, e ∈ es → V.size e = sz ∧ V.ok e) → (V.flats es).length = es.length * sz
  | [], sz, _ => by simp [V.flats]
  | y :: r, sz, hsz => by
    have hy := hsz y (.head _)
    simp only [V.flats, List.length_append, List.length_cons, V.flat_length y hy.2, hy.1, flats_length_eq r sz (fun e he => hsz e (.tail _ he)), Nat.add_mul]
    omega
theorem flats_drop : ∀ (es : List V) (sz : Nat), (∀ e, e ∈ es → V.size e = sz ∧ V.ok e) → ∀ n, V.flats (es.drop n) = (V.flats es).drop (n * sz)
  | es, sz, _, 0 => by simp
  | [], sz, _, n + 1 => by simp [V.flats]
  | y :: r, sz, hsz, n + 1 => by
    have hy := hsz y (.head _)
    have hl := V.flat_length y hy.2
    simp only [List.drop_succ_cons, V.flats]
    rw [flats_drop r sz (fun e he => hsz e (.tail _ he)) n, List.drop_append, List.drop_eq_nil_of_le (as := V.flat y) (by rw [hl, hy.1, Nat.add_mul]; omega), List.nil_append, hl, hy.1]
    congr 1
    rw [Nat.add_mul]; omega
theorem flats_take : ∀ (es : List V) (sz : Nat), (∀ e, e ∈ es → V.size e = sz ∧ V.ok e) → ∀ n, V.flats (es.take n) = (V.flats es).take (n * sz)
  | es, sz, _, 0 => by simp [V.flats]
  | [], sz, _, n + 1 => by simp [V.flats]
  | y :: r, sz, hsz, n + 1 => by
    have hy := hsz y (.head _)
    have hl := V.flat_length y hy.2
    simp only [List.take_succ_cons, V.flats]
    rw [flats_take r sz (fun e he => hsz e (.tail _ he)) n, List.take_append, List.take_of_length_le (l := V.flat y) (by rw [hl, hy.1, Nat.add_mul]; omega), hl, hy.1]
    congr 2
    rw [Nat.add_mul]; omega

section
variable {P : Program} {N : Nat} {d : Option Tmp} {ty : TypeId} {pos : String} {after : Array Edge} {g : Option (Nat × Bool)}

/-- Lengths. -/
theorem OpRun.lenI (t e : TypeId) (x : Operand) (k : IntKind) (xs : List Int) (hd : dlt N d = true) (hu : ∀ w, (underlying t).run P w = .ok (.slice e) w) :
    OpRun P N ⟨d, .call { callee := .builtin .len, args := #[x], argTypes := #[t] }, ty, pos, after, g⟩ [(x, .sli k xs)] [] [] (.v (.int .i64 xs.length)) [] :=
  OpRun.val hd fun B imm env st a w h _ _ H => by
    have hx := sli_inv (H.ev h.1) k xs rfl
    refine ⟨.int .i64 xs.length, w, imm, env, ?_, H, .v _ (good_len (by rcases hx with ⟨rfl, _⟩ | ⟨_, _, _, _, _, _, hm, _⟩ <;> first | assumption | (simp [maxLen])))⟩
    rcases hx with ⟨rfl, a', c, hx⟩ | ⟨b, off, c, hx, _⟩ <;> simp at hx <;> simp [execOp, resolve, invoke, builtin, hx, Builtin.len_, hu, goInt, Result.andThen]
theorem OpRun.lenL {α : Type} (t e : TypeId) (x : Operand) (f : α → V) (xs : List α) (hd : dlt N d = true) (hu : ∀ w, (underlying t).run P w = .ok (.slice e) w) :
    OpRun P N ⟨d, .call { callee := .builtin .len, args := #[x], argTypes := #[t] }, ty, pos, after, g⟩ [(x, .sl (List.map f xs))] [] [] (.v (.int .i64 xs.length)) [] :=
  OpRun.val hd fun B imm env st a w h _ _ H => by
    have hx := sl_inv (H.ev h.1) _ rfl
    refine ⟨.int .i64 xs.length, w, imm, env, ?_, H, .v _ (good_len (by
      rcases hx with ⟨he, _⟩ | ⟨_, _, _, _, _, _, _, _, hm, _⟩
      · have : xs = [] := by simpa using he
        subst this; simp [maxLen]
      · simpa using hm))⟩
    rcases hx with ⟨he, a', c, hx⟩ | ⟨sz, b, off, c, us, hx, _⟩
    · have : xs = [] := by simpa using he
      subst this
      simp at hx
      simp [execOp, resolve, invoke, builtin, hx, Builtin.len_, hu, goInt, Result.andThen]
    · simp at hx
      simp [execOp, resolve, invoke, builtin, hx, Builtin.len_, hu, goInt, Result.andThen]

/-- Elements of data. -/
theorem OpRun.indexAddrI (t elem : TypeId) (x z : Operand) (k kd : IntKind) (xs : List Int) (i : Int) (hd : dlt N d = true) (hu : ∀ w, (underlying t).run P w = .ok (.slice elem) w) (hs : ∀ w, (sizeOf elem).run P w = .ok 1 w)
    (h0 : 0 ≤ i) (hi : i < xs.length) : OpRun P N ⟨d, .indexAddr t x z, ty, pos, after, g⟩ [(x, .sli k xs), (z, .v (.int kd i))] [] [] (.dptr (.v (.int k (xs.getD i.toNat 0)))) [] :=
  OpRun.val hd fun B imm env st a w h1 _ _ H => by
    have hz := int_ev H h1.2.1
    simp only at hz
    rcases sli_inv (H.ev h1.1) k xs rfl with ⟨rfl, a', c, hx⟩ | ⟨b, off, c, hx, hb, hc, hm, hgd, hcell⟩
    · simp at hi; omega
    · simp only at hx
      have hlt : i.toNat < xs.length := by omega
      have hg : xs[i.toNat]? = some (xs.getD i.toNat 0) := by simp [List.getD, List.getElem?_eq_getElem hlt]
      refine ⟨.pointer (some ⟨b, off + i.toNat, none⟩), w, imm, env, ?_, H, ?_⟩
      · simp [execOp, Instr.indexAt, hx, hz, asIntOf, hu, hs, h0, hi, addr_add]
      · refine .dptr _ b (off + i.toNat) (fun _ => .int k (xs.getD i.toNat 0)) hb trivial (fun j y hy => ?_) (fun j y hy => ?_)
        · simp only [V.flat] at hy
          cases j with
          | zero => simpa using hcell _ _ hg
          | succ j => simp at hy
        · simp only [V.flat] at hy
          cases j with
          | zero => simp at hy; subst hy; exact .v _ (good_int.2 (hgd _ (by have := List.mem_of_getElem? hg; simpa using this)))
          | succ j => simp at hy
theorem OpRun.indexAddrL {α : Type} [Inhabited α] (t elem : TypeId) (x z : Operand) (f : α → V) (kd : IntKind) (xs : List α) (i : Int) (sz : Nat) (hd : dlt N d = true) (hu : ∀ w, (underlying t).run P w = .ok (.slice elem) w) (hs : ∀ w, (sizeOf elem).run P w = .ok sz w)
    (hf : ∀ x, V.size (f x) = sz) (h0 : 0 ≤ i) (hi : i < xs.length) : OpRun P N ⟨d, .indexAddr t x z, ty, pos, after, g⟩ [(x, .sl (List.map f xs)), (z, .v (.int kd i))] [] [] (.dptr (f (xs.getD i.toNat default))) [] :=
  OpRun.val hd fun B imm env st a w h1 _ _ H => by
    have hz := int_ev H h1.2.1
    simp only at hz
    rcases sl_inv (H.ev h1.1) _ rfl with ⟨he, a', c, hx⟩ | ⟨sz', b, off, c, us, hx, hb, hc, hm, hsz, hcell, hrep⟩
    · have : xs = [] := by simpa using he
      subst this
      simp at hi; omega
    · simp only at hx
      have hlt : i.toNat < xs.length := by omega
      have hg : (List.map f xs)[i.toNat]? = some (f (xs.getD i.toNat default)) := by simp [List.getD, List.getElem?_eq_getElem hlt]
      have hm2 := hsz _ (List.mem_of_getElem? hg)
      have hsz' : sz' = sz := by rw [← hm2.1, hf]
      subst hsz'
      have hlen : (xs.map f).length = xs.length := by simp
      refine ⟨.pointer (some ⟨b, off + i.toNat * sz', none⟩), w, imm, env, ?_, H, ?_⟩
      · simp [execOp, Instr.indexAt, hx, hz, asIntOf, hu, hs, h0, hi, addr_add]
      · refine .dptr _ b (off + i.toNat * sz') (fun j => us (i.toNat * sz' + j)) hb hm2.2 (fun j y hy => ?_) (fun j y hy => ?_)
        · rw [Nat.add_assoc]; exact hcell _ _ (flats_at _ _ hsz _ _ hg j y hy)
        · exact hrep _ _ (flats_at _ _ hsz _ _ hg j y hy)

/-- Parts of values. -/
theorem OpRun.fieldA (s : TypeId) (x : Operand) (i fsz : Nat) (fields : Array Field) (f : Field) (c y : V) (hd : dlt N d = true) (hu : ∀ w, (underlying s).run P w = .ok (.struct fields) w) (hf : fields[i]? = some f)
    (hag : ∀ w, (isAgg f.type).run P w = .ok true w) (hs : ∀ w, (sizeOf f.type).run P w = .ok fsz w) (hc : c.isAgg = true) (hy : V.at fsz c f.offset = some y) (hya : y.isAgg = true) :
    OpRun P N ⟨d, .field s x i, ty, pos, after, g⟩ [(x, c)] [] [] y [] :=
  OpRun.val hd fun B imm env st a w h1 _ _ H => by
    have hx := H.ev h1.1
    have hxc : ∃ arr, a.eval x = .agg arr := by
      simp only at hx
      cases c <;> simp [V.isAgg] at hc
      · exact ⟨_, hx.2.2⟩
      · obtain ⟨_, arr, h, _⟩ := hx; exact ⟨arr, h⟩
    obtain ⟨arr, harr⟩ := hxc
    have hcells := (RepC_of_V (by intro l; cases c <;> simp [V.isAgg] at hc <;> simp) hx).cells
    obtain ⟨h3, h4, h5, h6⟩ := V.at_spec hcells.1 hy
    skip
    rw [harr] at hcells
    have hcl : arr.toList.length = V.size c := by
      have := hcells.2.1
      rw [V.flat_length c hcells.1] at this
      simpa [Value.cells] using this
    refine ⟨.agg (arr.extract f.offset (f.offset + fsz)), w, imm, env, ?_, H, RepV_of_C ?_⟩
    · simp [execOp, Instr.field, hu, hf, part, harr, asAgg, hag, hs]
    · have e : (arr.extract f.offset (f.offset + fsz)) = ((arr.toList.drop f.offset).take fsz).toArray := by
        apply Array.toList_inj.1
        simp [Array.toList_extract, List.extract_eq_take_drop]
      rw [e]
      refine RepC.of_cells h3 ?_ (by cases y <;> simp [V.isAgg] at hya <;> simp)
      rw [h6]
      have h7 : RepL (Rep1 imm env w) c.flat arr.toList := by simpa [Value.cells] using hcells.2
      exact (h7.drop _).take _
end

/- What a state tells by itself: numbers lie within their kinds, arrays are as long as they are. -/
inductive Told : V → Prop → Prop
  | int (k : IntKind) (n : Int) : Told (.v (.int k n)) (k.min ≤ n ∧ n ≤ k.max)
  | ints (k : IntKind) (n : Nat) (xs : List Int) : Told (.ints k n xs) (xs.length = n ∧ InR k xs)
  | sli (k : IntKind) (xs : List Int) : Told (.sli k xs) (xs.length ≤ maxLen ∧ InR k xs)
  | sl {α : Type} (f : α → V) (xs : List α) : Told (.sl (List.map f xs)) (xs.length ≤ maxLen)
  | agg (fs : List V) (i : Nat) (y : V) (p : Prop) (h : fs[i]? = some y) (t : Told y p) : Told (.agg fs) p

theorem flats_part : ∀ (fs : List V) (i : Nat) (y : V), fs[i]? = some y → ∃ n : Nat, ∀ (j : Nat) (x : V), y.flat[j]? = some x → (V.flats fs)[n + j]? = some x
  | [], i, y, h => by simp at h
  | z :: r, i, y, h => by
    simp only [V.flats]
    cases i with
    | zero =>
      simp at h; subst h
      exact ⟨0, fun j x hx => by rw [Nat.zero_add, List.getElem?_append_left (List.getElem?_eq_some_iff.1 hx).1]; exact hx⟩
    | succ i =>
      obtain ⟨n, hn⟩ := flats_part r i y (by simpa using h)
      exact ⟨z.flat.length + n, fun j x hx => by rw [List.getElem?_append_right (by omega)]; rw [show z.flat.length + n + j - z.flat.length = n + j by omega]; exact hn j x hx⟩
theorem oks_part : ∀ (fs : List V) (i : Nat) (y : V), fs[i]? = some y → V.oks fs → V.ok y
  | [], i, y, h, _ => by simp at h
  | z :: r, i, y, h, hok => by
    cases i with
    | zero => simp at h; subst h; exact hok.1
    | succ i => exact oks_part r i y (by simpa using h) hok.2

theorem told_cells {imm : Imm} {env : Env} {w : World} {y : V} {p : Prop} (t : Told y p) : ∀ us : Nat → Option Value, V.ok y → (∀ (j : Nat) x, y.flat[j]? = some x → ∃ u, us j = some u ∧ Rep1 imm env w x u) → p := by
  induction t with
  | int k n =>
    intro us _ h
    obtain ⟨u, _, hu⟩ := h 0 _ rfl
    cases hu with
    | v _ hg => exact good_int.1 hg
  | ints k n xs =>
    intro us hok h
    refine ⟨hok, fun x hx => ?_⟩
    obtain ⟨i, hi⟩ := List.getElem?_of_mem hx
    obtain ⟨u, _, hu⟩ := h i (.v (.int k x)) (by simp [V.flat, hi])
    cases hu with
    | v _ hg => exact good_int.1 hg
  | sli k xs =>
    intro us _ h
    obtain ⟨u, _, hu⟩ := h 0 _ rfl
    rcases sli_inv hu k xs rfl with ⟨rfl, _⟩ | ⟨_, _, _, _, _, _, hm, hg, _⟩
    · exact ⟨by simp [maxLen], fun x hx => by cases hx⟩
    · exact ⟨hm, hg⟩
  | sl f xs =>
    intro us _ h
    obtain ⟨u, _, hu⟩ := h 0 _ rfl
    rcases sl_inv hu _ rfl with ⟨he, _⟩ | ⟨_, _, _, _, _, _, _, _, hm, _⟩
    · have : xs = [] := by simpa using he
      subst this; simp [maxLen]
    · simpa using hm
  | agg fs i y p h t ih =>
    intro us hok hh
    obtain ⟨n, hn⟩ := flats_part fs i y h
    exact ih (fun j => us (n + j)) (oks_part fs i y h hok) fun j x hx => hh _ x (hn j x hx)

theorem told_rep {imm : Imm} {env : Env} {w : World} {y : V} {p : Prop} {u : Value} (t : Told y p) (h : RepV imm env w y u) : p := by
  have hn : ∀ l, y ≠ .tup l := by intro l e; subst e; cases t
  have hc := (RepC_of_V hn h).cells
  exact told_cells t (fun j => u.cells.toList[j]?) hc.1 fun j x hx => hc.2.2 j x hx

theorem told_tmp {B : Base} {N : Nat} {imm : Imm} {env : Env} {st : St} {a : Act} {w : World} (H : Holds B N imm env st a w) {y : V} {p : Prop} (t : Told y p) {k : Nat} (h : look st.T k = some y) : p := by
  obtain ⟨u, _, hu⟩ := H.tmps k y h
  exact told_rep t hu
theorem told_obj {B : Base} {N : Nat} {imm : Imm} {env : Env} {st : St} {a : Act} {w : World} (H : Holds B N imm env st a w) {y : V} {p : Prop} (t : Told y p) {k : Nat} (h : lookH st.H k = some ⟨y, false⟩) : p := by
  obtain ⟨r, hr, hok, h2⟩ := H.heap.obj k _ h
  rcases h2 with ⟨_, _, hg⟩ | ⟨hn, arr, h3, h4, h5, h6, h7⟩
  · cases hg
  · exact told_cells t (fun j => (arr.toList.take (V.size y))[j]?) hok fun j x hx => h7.2 j x hx

section
variable {P : Program} {N : Nat} {id : Nat} {ops : Array Oper} {opl rest : List Oper} {st st0 : St} {fs : List Foot} {O : Type} [Inhabited O] {Q : O → Exit → St → Prop} {y : V} {p : Prop}
theorem X.told (k : Nat) (h : look st.T k = some y) (t : Told y p) {c : Code} (K : p → ∃ z, W P N c st (Q z)) : ∃ z, W P N c st (Q z) := by
  by_cases hp : p
  · exact K hp
  · exact ⟨default, ⟨fun B imm env a w H => absurd (told_tmp H t h) hp⟩⟩
theorem X.toldO (k : Nat) (h : lookH st.H k = some ⟨y, false⟩) (t : Told y p) {c : Code} (K : p → ∃ z, W P N c st (Q z)) : ∃ z, W P N c st (Q z) := by
  by_cases hp : p
  · exact K hp
  · exact ⟨default, ⟨fun B imm env a w H => absurd (told_obj H t h) hp⟩⟩
theorem XS.told (k : Nat) (h : look st.T k = some y) (t : Told y p) (K : p → ∃ z, WS P N ops rest st (Q z)) : ∃ z, WS P N ops rest st (Q z) := by
  by_cases hp : p
  · exact K hp
  · exact ⟨default, ⟨fun B imm env a w H => absurd (told_tmp H t h) hp⟩⟩
theorem XS.toldO (k : Nat) (h : lookH st.H k = some ⟨y, false⟩) (t : Told y p) (K : p → ∃ z, WS P N ops rest st (Q z)) : ∃ z, WS P N ops rest st (Q z) := by
  by_cases hp : p
  · exact K hp
  · exact ⟨default, ⟨fun B imm env a w H => absurd (told_obj H t h) hp⟩⟩
end
end Go.X
