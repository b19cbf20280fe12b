/- Flat values: rules for copies, cuts, functions as values, comparisons, strings. No program in sight. -/
import Derived.Test.YtlgaegjlgabggaaGreatXZ
import Derived.Laws.BytesString
import Derived.Laws.Strings
namespace Go.X
open Go

section
variable {P : Program} {N : Nat} {d : Option Tmp} {ty : TypeId} {pos : String} {after : Array Edge} {g : Option (Nat × Bool)}

theorem run_copy_op (a : Act) (w : World) (x y : Operand) (t u : TypeId) : (execOp a.eval ⟨d, .call { callee := .builtin .copy, args := #[x, y], argTypes := #[t, u] }, ty, pos, after, g⟩).run P w = ((Builtin.copy_ #[t, u] ty #[a.eval x, a.eval y]).run P w).andThen fun v w' => .ok (.value v) w' := by
  simp [execOp, resolve, invoke, builtin]

theorem OpRun.copy0 (t u e : TypeId) (sz : Nat) (x y : Operand) (p q : V) (hd : dlt N d = true) (ht : P.underlying t = some (.slice e)) (hs : ∀ w, (sizeOf e).run P w = .ok sz w) (hp : isSlice p = true) (hq : isSlice q = true) (h0 : isEmpty0 p = true ∨ isEmpty0 q = true) :
    OpRun P N ⟨d, .call { callee := .builtin .copy, args := #[x, y], argTypes := #[t, u] }, ty, pos, after, g⟩ [(x, p), (y, q)] [] [] (.v (.int .i64 0)) [] :=
  OpRun.val hd fun B imm env st a w h _ _ H => by
    obtain ⟨o, n, c, h1, h2⟩ := isSlice_rep hp (H.ev h.1)
    obtain ⟨o', n', c', h3, h4⟩ := isSlice_rep hq (H.ev h.2.1)
    have hz : Nat.min n' n = 0 := by
      rcases h0 with h0 | h0
      · obtain ⟨o2, c2, h5⟩ := isEmpty0_rep h0 (H.ev h.1)
        rw [h1] at h5; cases h5; simp
      · obtain ⟨o2, c2, h5⟩ := isEmpty0_rep h0 (H.ev h.2.1)
        rw [h3] at h5; cases h5; simp
    simp only at h1 h3
    refine ⟨.int .i64 0, w, imm, env, ?_, H, .v _ rfl⟩
    rw [run_copy_op, h1, h3]
    cases o <;> cases o' <;> simp [Builtin.copy_, run_underlying ht, hs, Builtin.lenOf, hz, Builtin.firstCells, loadCells, loadCellsFrom, storeCells, goInt]

theorem OpRun.copyO (t u e : TypeId) (sz : Nat) (x y : Operand) (k off n k2 off2 m q : Nat) (cap cap2 : Option Nat) (ob ob2 : Ob) (hd : dlt N d = true) (ht : P.underlying t = some (.slice e)) (hs : ∀ w, (sizeOf e).run P w = .ok sz w)
    (hq : Nat.min m n = q) (hle : (cut ob.c.flat off (q * sz)).length = q * sz) (hle2 : (cut ob2.c.flat off2 (q * sz)).length = q * sz) (h0 : 0 < q * sz) (hq2 : q ≤ 16777216) :
    OpRun P N ⟨d, .call { callee := .builtin .copy, args := #[x, y], argTypes := #[t, u] }, ty, pos, after, g⟩ [(x, .osl k off n sz cap), (y, .osl k2 off2 m sz cap2)] [(k, ob), (k2, ob2)] [] (.v (.int .i64 q)) [(k, some ⟨.agg (splice ob.c.flat off (cut ob2.c.flat off2 (q * sz))), ob.grow⟩)] :=
  OpRun.val hd fun B imm env st a w h h2' h3' H => by
    have hq0 : 0 < q := Nat.pos_of_ne_zero fun e => by subst e; simp at h0
    have hqn : q ≤ n := by rw [← hq]; exact Nat.min_le_right _ _
    have hqm : q ≤ m := by rw [← hq]; exact Nat.min_le_left _ _
    have ho : lookH st.H k = some ob := h2'.1
    have ho2 : lookH st.H k2 = some ob2 := h2'.2.1
    have hin := cut_le hle h0
    have hin2 := cut_le hle2 h0
    obtain ⟨r, hr, ⟨hn, c, hx, _⟩ | ⟨_, _, hm0, _⟩⟩ := H.ev h.1
    · obtain ⟨r2, hr2, ⟨hn2, c2, hy, _⟩ | ⟨_, _, hm0, _⟩⟩ := H.ev h.2.1
      · obtain ⟨arr, R, hfl⟩ := H.objF ho hr hn
        obtain ⟨arr2, R2, hfl2⟩ := H.objF ho2 hr2 hn2
        obtain ⟨cs, hl, hrep, hc⟩ := R2.cells (off := off2) (sz := q * sz) rfl (by omega)
        have H' := H.writeF ho hr R (off := off) (ys := cut ob2.c.flat off2 (q * sz)) (fun y hy => flat_leaf _ _ (cut_mem hy)) (vs := cs) hrep (by rw [hle2]; omega)
        simp only at hx hy
        refine ⟨.int .i64 q, _, imm, env, ?_, H', .v _ (good_len (by simp only [maxLen]; omega))⟩
        have hf := run_firstCells_some (P := P) w sz q ⟨r2.blk, off2, none⟩ m c2 cs hl (fun j v hj => by rw [addr_add]; exact hc j v hj)
        have hst := run_storeCells_at P r.blk off r.ty cs 0 arr w R.blk (by have := R.tot; have := R.le; omega) (one_of_rep hrep)
        simp only [Nat.add_zero] at hst
        rw [run_copy_op, hx, hy]
        simp [Builtin.copy_, run_underlying ht, hs, Builtin.lenOf, hq, hf, hst, goInt]
      · omega
    · omega

/- LENGTHS. -/
def lenV : V → Option Nat
  | .v (.slice none 0 0) => some 0
  | .osl _ _ n _ _ => some n
  | .sli _ xs => some xs.length
  | .sl xs => some xs.length
  | _ => none
theorem lenV_rep {imm : Imm} {env : Env} {w : World} {x : V} {n : Nat} {u : Value} (h : lenV x = some n) (hx : RepV imm env w x u) : n ≤ maxLen ∧ ∃ o c, u = .slice o n c := by
  unfold lenV at h
  split at h
  · cases h; cases hx; exact ⟨Nat.zero_le _, _, _, rfl⟩
  · cases h
    obtain ⟨r, hr, ⟨hn, c, hx, hc, hm, _⟩ | ⟨_, _, h0, hx⟩⟩ := hx
    · exact ⟨Nat.le_trans hc hm, _, _, hx⟩
    · exact ⟨by omega, _, _, by rw [hx, h0]⟩
  · cases h
    cases hx with
    | sliE k a c => exact ⟨Nat.zero_le _, _, _, rfl⟩
    | sli k xs b off c hb hc hm hg h => exact ⟨hm, _, _, rfl⟩
  · cases h
    cases hx with
    | slE a c => exact ⟨Nat.zero_le _, _, _, rfl⟩
    | sl es sz b off c us hb hc hm hsz h hr => exact ⟨hm, _, _, rfl⟩
  · cases h
theorem OpRun.lenF (t e : TypeId) (x : Operand) (p : V) (n : Nat) (hd : dlt N d = true) (ht : P.underlying t = some (.slice e)) (hp : lenV p = some n) :
    OpRun P N ⟨d, .call { callee := .builtin .len, args := #[x], argTypes := #[t] }, ty, pos, after, g⟩ [(x, p)] [] [] (.v (.int .i64 n)) [] :=
  OpRun.val hd fun B imm env st a w h _ _ H => by
    obtain ⟨hm, o, c, hx⟩ := lenV_rep hp (H.ev h.1)
    simp only at hx
    exact ⟨.int .i64 n, w, imm, env, by simp [execOp, resolve, invoke, builtin, Builtin.len_, hx, run_underlying ht, goInt], H, .v _ (good_len hm)⟩
theorem OpRun.lenStr (t : TypeId) (x : Operand) (s : ByteArray) (hd : dlt N d = true) (ht : P.underlying t = some .string) (hs : s.size ≤ 16777216) :
    OpRun P N ⟨d, .call { callee := .builtin .len, args := #[x], argTypes := #[t] }, ty, pos, after, g⟩ [(x, .v (.string s))] [] [] (.v (.int .i64 s.size)) [] :=
  OpRun.val hd fun B imm env st a w h _ _ H => by
    have hx := int_ev H h.1
    simp only at hx
    exact ⟨.int .i64 s.size, w, imm, env, by simp [execOp, resolve, invoke, builtin, Builtin.len_, hx, run_underlying ht, goInt], H, .v _ (good_len (by simp only [maxLen]; omega))⟩
theorem OpRun.lenArr (t e : TypeId) (n : Nat) (x : Operand) (p : V) (hd : dlt N d = true) (ht : P.underlying t = some (.array n e)) (hs : n ≤ 16777216) :
    OpRun P N ⟨d, .call { callee := .builtin .len, args := #[x], argTypes := #[t] }, ty, pos, after, g⟩ [(x, p)] [] [] (.v (.int .i64 n)) [] :=
  OpRun.val hd fun B imm env st a w h _ _ H => by
    exact ⟨.int .i64 n, w, imm, env, by simp [execOp, resolve, invoke, builtin, Builtin.len_, run_underlying ht, goInt], H, .v _ (good_len (by simp only [maxLen]; omega))⟩

/- CUTS. -/
def optO (o : Option Operand) (k : IntKind) (l : Nat) : List (Operand × V) := match o with | some x => [(x, .v (.int k l))] | none => []
theorem bounds_run (b : Bool) (len cap : Nat) (lo hi : Option Value) (l h : Nat) (hlo : (lo = none ∧ l = 0) ∨ ∃ k : IntKind, lo = some (.int k l)) (hhi : (hi = none ∧ h = len) ∨ ∃ k : IntKind, hi = some (.int k h)) (h1 : l ≤ h) (h2 : h ≤ cap) (w : World) :
    (Instr.sliceBounds b len cap lo hi none).run P w = .ok (l, h, cap) w := by
  rcases hlo with ⟨rfl, rfl⟩ | ⟨k, rfl⟩ <;> rcases hhi with ⟨rfl, rfl⟩ | ⟨k', rfl⟩ <;> simp [Instr.sliceBounds, Instr.sliceBound, asIntOf, h1, h2]
theorem opt_val {B : Base} {imm : Imm} {env : Env} {st : St} {a : Act} {w : World} (H : Holds B N imm env st a w) {o : Option Operand} {k : IntKind} {l q : Nat} (h : AllP (fun p => ev st.T p.1 = some p.2) (optO o k l)) (hq : o = none → l = q) : (o.map a.eval = none ∧ l = q) ∨ ∃ k : IntKind, o.map a.eval = some (.int k l) := by
  cases o with
  | none => exact .inl ⟨rfl, hq rfl⟩
  | some x =>
    have := int_ev H h.1
    simp only at this
    exact .inr ⟨k, by simp [this]⟩
theorem AllP.append {α : Type} {f : α → Prop} : ∀ {l m : List α}, AllP f (l ++ m) → AllP f l ∧ AllP f m
  | [], _, h => ⟨trivial, h⟩
  | _ :: _, _, h => ⟨⟨h.1, (AllP.append h.2).1⟩, (AllP.append h.2).2⟩
theorem AllP.of_append {α : Type} {f : α → Prop} : ∀ {l m : List α}, AllP f l → AllP f m → AllP f (l ++ m)
  | [], _, _, h => h
  | _ :: _, _, h, k => ⟨h.1, AllP.of_append h.2 k⟩

theorem OpRun.sliceO (t e : TypeId) (x : Operand) (lo hi : Option Operand) (kl kh : IntKind) (k off n sz l h b : Nat) (cap : Option Nat) (hd : dlt N d = true) (ht : P.underlying t = some (.slice e)) (hs : ∀ w, (sizeOf e).run P w = .ok sz w) (hsz : 0 < sz)
    (hlo : lo = none → l = 0) (hhi : hi = none → h = n) (h1 : l ≤ h) (hb : (cap = none ∧ b = n) ∨ (cap = some b ∧ (off ≠ 0 ∨ n ≠ 0))) (h2 : h ≤ b) (h3 : l < b) :
    OpRun P N ⟨d, .slice t x lo hi none, ty, pos, after, g⟩ ((x, .osl k off n sz cap) :: (optO lo kl l ++ optO hi kh h)) [] [] (.osl k (off + l * sz) (h - l) sz (cap.map (· - l))) [] :=
  OpRun.val hd fun B imm env st a w hh _ _ H => by
    have ha := AllP.append hh.2
    have hvl := opt_val H ha.1 hlo
    have hvh := opt_val H ha.2 hhi
    obtain ⟨r, hr, ⟨hn, c, hx, hc1, hc2, hc3, hc4, hc5⟩ | ⟨_, hoff, hm0, hx⟩⟩ := H.ev hh.1
    · have hbc : b ≤ c := by
        rcases hb with ⟨_, rfl⟩ | ⟨hcb, _⟩
        · exact hc1
        · rw [hc5 _ hcb]; exact Nat.le_refl _
      have hrun := bounds_run (P := P) true n c (lo.map a.eval) (hi.map a.eval) l h hvl hvh h1 (by omega) w
      simp only at hx
      have hne : c ≠ l := by omega
      refine ⟨.slice (some ⟨r.blk, off + l * sz, none⟩) (h - l) (c - l), w, imm, env, ?_, H, ⟨r, hr, .inl ⟨hn, c - l, rfl, by omega, by omega, ?_, ?_, ?_⟩⟩⟩
      · simp [execOp, Instr.sliceAt, Instr.slice, run_underlying ht, hx, hrun, hs, hne, addr_add]
      · have : l * sz + (c - l) * sz = c * sz := by rw [← Nat.add_mul]; congr 1; omega
        omega
      · intro h0
        have hl0 : l = 0 := by
          rcases Nat.eq_zero_or_pos l with h | h
          · exact h
          · have := Nat.mul_pos h hsz; omega
        subst hl0
        simpa using hc4 (by omega)
      · intro m hm
        rcases hb with ⟨rfl, _⟩ | ⟨rfl, _⟩
        · cases hm
        · simp only [Option.map_some, Option.some.injEq] at hm
          rw [hc5 _ rfl]; exact hm
    · rcases hb with ⟨_, rfl⟩ | ⟨_, h4⟩
      · omega
      · omega

/-- A cut with nothing in it. -/
theorem OpRun.sliceE (t e : TypeId) (x : Operand) (lo hi : Option Operand) (kl kh : IntKind) (l n b sz : Nat) (p : V) (hd : dlt N d = true) (ht : P.underlying t = some (.slice e)) (hs : ∀ w, (sizeOf e).run P w = .ok sz w)
    (hlo : lo = none → l = 0) (hhi : hi = none → l = n) (hp : lenV p = some n) (hb : (∃ k off s, p = .osl k off n s (some b) ∧ (off ≠ 0 ∨ n ≠ 0)) ∨ b = n) (h2 : l ≤ b) :
    OpRun P N ⟨d, .slice t x lo hi none, ty, pos, after, g⟩ ((x, p) :: (optO lo kl l ++ optO hi kh l)) [] [] (.sli .u8 []) [] :=
  OpRun.val hd fun B imm env st a w hh _ _ H => by
    have ha := AllP.append hh.2
    have hvl := opt_val H ha.1 hlo
    have hvh := opt_val H ha.2 hhi
    have key : ∃ o c, a.eval x = .slice o n c ∧ l ≤ c := by
      rcases hb with ⟨k, off, s, rfl, hz⟩ | rfl
      · obtain ⟨r, hr, ⟨hn, c, hx, hc1, hc2, hc3, hc4, hc5⟩ | ⟨_, hoff, hm0, hx⟩⟩ := H.ev hh.1
        · exact ⟨_, c, hx, by rw [hc5 _ rfl]; exact h2⟩
        · omega
      · have hx := H.ev hh.1
        simp only at hx
        unfold lenV at hp
        split at hp
        · cases hp
          generalize a.eval x = u at hx ⊢
          cases hx
          exact ⟨_, _, rfl, h2⟩
        · cases hp
          obtain ⟨r, hr, ⟨hn, c, hx, hc1, _⟩ | ⟨_, _, h0, hx⟩⟩ := hx
          · exact ⟨_, c, hx, by omega⟩
          · exact ⟨_, _, by rw [hx, h0], by omega⟩
        · cases hp
          generalize a.eval x = u at hx ⊢
          cases hx with
          | sliE k a c => exact ⟨_, _, rfl, by simp at h2; omega⟩
          | sli k xs b off c hb hc hm hg h => exact ⟨_, _, rfl, by omega⟩
        · cases hp
          generalize a.eval x = u at hx ⊢
          cases hx with
          | slE a c => exact ⟨_, _, rfl, by simp at h2; omega⟩
          | sl es sz b off c us hb hc hm hsz h hr => exact ⟨_, _, rfl, by omega⟩
        · cases hp
    obtain ⟨o, c, hx, hc⟩ := key
    have hrun := bounds_run (P := P) true n c (lo.map a.eval) (hi.map a.eval) l l hvl hvh (Nat.le_refl _) hc w
    refine ⟨.slice (if c = l then o else o.map (·.add (l * sz))) 0 (c - l), w, imm, env, ?_, H, .sliE _ _ _⟩
    simp [execOp, Instr.sliceAt, Instr.slice, run_underlying ht, hx, hrun, hs]

theorem OpRun.sliceP (t e : TypeId) (x : Operand) (lo hi : Option Operand) (kl kh : IntKind) (k off n sz l h : Nat) (ob : Ob) (hd : dlt N d = true) (ht : P.underlying t = some (.array n e)) (hs : ∀ w, (sizeOf e).run P w = .ok sz w) (hsz : 0 < sz)
    (hlo : lo = none → l = 0) (hhi : hi = none → h = n) (h1 : l ≤ h) (h2 : h ≤ n) (h3 : l < n) (hm : n ≤ 16777216) (hle : (cut ob.c.flat off (n * sz)).length = n * sz) (hz : off + l * sz ≠ 0 ∨ (ob.grow = false ∧ ob.c.flat.length = n * sz)) :
    OpRun P N ⟨d, .slice t x lo hi none, ty, pos, after, g⟩ ((x, .ptr k off) :: (optO lo kl l ++ optO hi kh h)) [(k, ob)] [] (.osl k (off + l * sz) (h - l) sz (some (n - l))) [] :=
  OpRun.val hd fun B imm env st a w hh h2' _ H => by
    have ha := AllP.append hh.2
    have hvl := opt_val H ha.1 hlo
    have hvh := opt_val H ha.2 hhi
    obtain ⟨r, hr, hn, hx⟩ := H.ev hh.1
    have ho : lookH st.H k = some ob := h2'.1
    obtain ⟨arr, R, hfl⟩ := H.objF ho hr hn
    have hin := cut_le hle (Nat.mul_pos (by omega) hsz)
    have hrun := bounds_run (P := P) false n n (lo.map a.eval) (hi.map a.eval) l h hvl hvh h1 h2 w
    simp only at hx
    have hne : n ≠ l := by omega
    refine ⟨.slice (some ⟨r.blk, off + l * sz, none⟩) (h - l) (n - l), w, imm, env, ?_, H, ⟨r, hr, .inl ⟨hn, n - l, rfl, by omega, by simp only [maxLen]; omega, ?_, ?_, fun m hm => by cases hm; rfl⟩⟩⟩
    · simp [execOp, Instr.sliceAt, run_underlying ht, hx, Instr.sureAddr, hrun, hs, hne, addr_add]
    · have : l * sz + (n - l) * sz = n * sz := by rw [← Nat.add_mul]; congr 1; omega
      have := R.le
      omega
    · intro h0
      rcases hz with hz | ⟨hg, hz⟩
      · exact absurd h0 hz
      · have hl0 : l = 0 := by
          rcases Nat.eq_zero_or_pos l with h | h
          · exact h
          · have := Nat.mul_pos h hsz; omega
        subst hl0
        rw [← R.box hg, ← hfl, hz, Nat.sub_zero]

/- FUNCTIONS AS VALUES. -/
def is0 : V → Bool
  | .v _ | .ptr _ _ | .ptrE _ _ _ | .osl _ _ _ _ _ | .sli _ _ | .sl _ | .dptr _ | .unk => true
  | _ => false
theorem Rep0_of_V {imm : Imm} {env : Env} {w : World} {x : V} {u : Value} (h : is0 x = true) (hx : RepV imm env w x u) : Rep0 imm env w x u := by
  cases x <;> first | exact hx | cases h
theorem RepL0_of_V {imm : Imm} {env : Env} {w : World} : ∀ {xs : List V} {us : List Value}, (xs.all is0) = true → RepL (RepV imm env w) xs us → RepL (Rep0 imm env w) xs us
  | [], us, _, h => by rw [h.nil_inv]; exact RepL.nil _
  | x :: xs, us, ha, h => by
    simp only [List.all_cons, Bool.and_eq_true] at ha
    obtain ⟨u, t, rfl, h1, h2⟩ := h.cons_inv
    exact (RepL0_of_V ha.2 h2).cons (Rep0_of_V ha.1 h1)
theorem OpRun.makeFuncF (f : Fn) (xs cs : List Operand) (ys zs : List V) (hd : dlt N d = true) (hl : xs.length = ys.length) (hl2 : cs.length = zs.length) (h1 : (ys.all is0) = true) (h2 : (zs.all is0) = true) :
    OpRun P N ⟨d, .makeFunc f xs.toArray cs.toArray, ty, pos, after, g⟩ (zipO xs ys ++ zipO cs zs) [] [] (.fn f ys zs) [] :=
  OpRun.val hd fun B imm env st a w h _ _ H => by
    have ha := AllP.append h
    have hx := RepL0_of_V h1 (zipO_rep H xs ys hl ha.1)
    have hc := RepL0_of_V h2 (zipO_rep H cs zs hl2 ha.2)
    exact ⟨.func f (xs.map a.eval).toArray (cs.map a.eval).toArray, w, imm, env, by simp [execOp, Instr.makeFunc], H, ⟨_, _, rfl, hx, hc⟩⟩
end
end Go.X
