/- Partial heaps over the model's world, and triples over them. -/
import Derived.Calls
import Derived.Wp
namespace Lf
open Go

/-- A partial view of the heap: the blocks that a piece of reasoning sees. -/
abbrev H := Nat → Option Obj

/-- The view is true of the world. -/
def Sub (h : H) (W : World) : Prop := ∀ b o, h b = some o → W.heap[b]? = some o

/-- The outside is as it was. -/
structure Out (W W' : World) : Prop where
  os : W'.os = W.os
  output : W'.output = W.output
  tape : W'.tape = W.tape
  drawn : W.drawn ≤ W'.drawn

theorem Out.refl (W : World) : Out W W := ⟨rfl, rfl, rfl, Nat.le_refl _⟩
theorem Out.trans {a b c : World} (x : Out a b) (y : Out b c) : Out a c := ⟨y.os.trans x.os, y.output.trans x.output, y.tape.trans x.tape, Nat.le_trans x.drawn y.drawn⟩

/-- What was there and was not seen stays as it was, and stays unseen. -/
structure Frame (h : H) (W : World) (h' : H) (W' : World) : Prop where
  size : W.heap.size ≤ W'.heap.size
  keep : ∀ b, b < W.heap.size → h b = none → h' b = none ∧ W'.heap[b]? = W.heap[b]?
  out : Out W W'

/-- A call of f, in whatever world the view is true of. -/
def Spec (P : Program) (f : FuncId) (args : Array Value) (h : H) (R : Value → H → Prop) : Prop :=
  ∀ W, Sub h W → Calls P f args W fun e W' => ∃ v h', e = .returned v ∧ Sub h' W' ∧ Frame h W h' W' ∧ R v h'

/-- A run of a Sem, in whatever world the view is true of. -/
def RunL {α : Type} (P : Program) (s : Sem α) (h : H) (K : α → H → Prop) : Prop :=
  ∀ W, Sub h W → ∃ a W' h', s.run P W = .ok a W' ∧ Sub h' W' ∧ Frame h W h' W' ∧ K a h'

/-- h' has all that h has. -/
def Le (h h' : H) : Prop := ∀ b o, h b = some o → h' b = some o

def cell (h : H) (a : Addr) : Option Value :=
  match h a.block with
  | some (.cells c _ _) => if a.spot.isSome then none else c[a.off]?
  | _ => none

def free (h : H) (a : Addr) : Bool :=
  match h a.block with
  | some (.cells _ _ (lo, hi)) => !(lo ≤ a.off && a.off < hi)
  | _ => false

def hset (h : H) (a : Addr) (v : Value) : H := fun b =>
  if b = a.block then
    match h b with
    | some (.cells c e f) => some (.cells (if a.spot.isSome then c else c.setIfInBounds a.off v) e f)
    | o => o
  else h b

def hnew (h : H) (b : Nat) (o : Obj) : H := fun b' => if b' = b then some o else h b'

theorem Le.refl (h : H) : Le h h := fun _ _ x => x
theorem Le.trans {a b c : H} (x : Le a b) (y : Le b c) : Le a c := fun p o h => y p o (x p o h)

theorem Frame.refl (h : H) (W : World) : Frame h W h W := ⟨Nat.le_refl _, fun _ _ x => ⟨x, rfl⟩, Out.refl W⟩
theorem Frame.trans {h h' h'' : H} {W W' W'' : World} (x : Frame h W h' W') (y : Frame h' W' h'' W'') : Frame h W h'' W'' :=
  ⟨Nat.le_trans x.1 y.1, fun b hb hn =>
    have ⟨n, e⟩ := x.2 b hb hn
    have ⟨n', e'⟩ := y.2 b (Nat.lt_of_lt_of_le hb x.1) n
    ⟨n', e'.trans e⟩, x.3.trans y.3⟩

theorem Sub.mono {h h' : H} {W : World} (l : Le h h') (s : Sub h' W) : Sub h W := fun b o x => s b o (l b o x)
theorem Sub.lt {h : H} {W : World} (s : Sub h W) {b : Nat} {o : Obj} (x : h b = some o) : b < W.heap.size := by
  have := s b o x
  rcases Nat.lt_or_ge b W.heap.size with h | h
  · exact h
  · simp [Array.getElem?_eq_none h] at this

theorem Sub.none_of_ge {h : H} {W : World} (s : Sub h W) {b : Nat} (hb : W.heap.size ≤ b) : h b = none := by
  cases x : h b with
  | none => rfl
  | some o => have := s.lt x; omega

theorem Sub.cell {h : H} {W : World} (s : Sub h W) {a : Addr} {v : Value} (x : Lf.cell h a = some v) : W.cell? a = some v := by
  unfold Lf.cell at x
  unfold World.cell?
  split at x
  · rename_i c e f hb
    rw [s _ _ hb]; exact x
  · cases x

theorem Sub.free {h : H} {W : World} (s : Sub h W) {a : Addr} (x : Lf.free h a = true) : W.frozen? a = false := by
  unfold Lf.free at x
  unfold World.frozen?
  split at x
  · rename_i c e lo hi hb
    rw [s _ _ hb]; simp only [Bool.not_eq_true'] at x; exact x
  · cases x

theorem Sub.world {h : H} {W W' : World} (s : Sub h W) (e : W'.heap = W.heap) : Sub h W' := fun b o x => by rw [e]; exact s b o x

theorem setCell_heap (W : World) (a : Addr) (v : Value) (b : Nat) :
    (W.setCell a v).heap[b]? = if b = a.block then (W.heap[b]?).map (fun
      | .cells c elem frozen => .cells (if a.spot.isSome then c else c.setIfInBounds a.off v) elem frozen
      | o => o) else W.heap[b]? := by
  simp only [World.setCell, Array.getElem?_modify]
  by_cases e : a.block = b
  · subst e; rw [if_pos rfl, if_pos rfl]; cases W.heap[a.block]? with
    | none => rfl
    | some o => cases o <;> rfl
  · rw [if_neg e, if_neg (fun x => e x.symm)]

theorem setCell_size (W : World) (a : Addr) (v : Value) : (W.setCell a v).heap.size = W.heap.size := by
  simp [World.setCell]

theorem Sub.set {h : H} {W : World} (s : Sub h W) (a : Addr) (v : Value) : Sub (hset h a v) (W.setCell a v) := by
  intro b o x
  rw [setCell_heap]
  unfold hset at x
  split at x
  · rename_i e
    rw [if_pos e]
    split at x
    · rename_i c el f hb
      rw [s _ _ hb]
      simpa using x
    · rename_i hh
      rw [s _ _ x]
      cases o with
      | cells c el f => exact absurd x (hh c el f)
      | _ => rfl
  · rename_i e
    rw [if_neg e]; exact s _ _ x

theorem hset_none {h : H} {a : Addr} {v : Value} {b : Nat} : hset h a v b = none ↔ h b = none := by
  unfold hset
  split
  · cases h b with
    | none => simp
    | some o => cases o <;> simp
  · rfl

theorem Frame.set {h : H} {W : World} {a : Addr} (ha : (h a.block).isSome = true) (v : Value) : Frame h W (hset h a v) (W.setCell a v) := by
  refine ⟨by rw [setCell_size]; exact Nat.le_refl _, fun b _ hn => ⟨hset_none.2 hn, ?_⟩, ⟨rfl, rfl, rfl, Nat.le_refl _⟩⟩
  rw [setCell_heap, if_neg]
  intro e; subst e; rw [hn] at ha; cases ha

theorem Sub.new {h : H} {W W' : World} (s : Sub h W) (o : Obj) (e : W'.heap = W.heap.push o) : Sub (hnew h W.heap.size o) W' := by
  intro b p x
  unfold hnew at x
  rw [e]
  split at x
  · rename_i eb; subst eb; simpa using x
  · have := s.lt x
    rw [Array.getElem?_push, if_neg (by omega)]; exact s _ _ x

/-- A new block that stays unseen. -/
theorem Sub.hide {h : H} {W W' : World} (s : Sub h W) (o : Obj) (e : W'.heap = W.heap.push o) : Sub h W' := by
  intro b p x
  have := s.lt x
  rw [e, Array.getElem?_push, if_neg (by omega)]; exact s _ _ x

theorem Frame.new {h : H} {W W' : World} (o : Obj) (e : W'.heap = W.heap.push o) (u : Out W W') : Frame h W (hnew h W.heap.size o) W' := by
  refine ⟨by rw [e]; simp, fun b hb hn => ⟨?_, ?_⟩, u⟩
  · unfold hnew; rw [if_neg (by omega)]; exact hn
  · rw [e, Array.getElem?_push, if_neg (by omega)]

theorem Frame.hide {h : H} {W W' : World} (o : Obj) (e : W'.heap = W.heap.push o) (u : Out W W') : Frame h W h W' := by
  refine ⟨by rw [e]; simp, fun b hb hn => ⟨hn, ?_⟩, u⟩
  rw [e, Array.getElem?_push, if_neg (by omega)]

theorem Frame.world {h : H} {W W' : World} (e : W'.heap = W.heap) (u : Out W W') : Frame h W h W' :=
  ⟨by rw [e]; exact Nat.le_refl _, fun _ _ hn => ⟨hn, by rw [e]⟩, u⟩

/-! ### RunL -/
section
variable {P : Program} {α β : Type}

theorem run_bind (s : Sem α) (f : α → Sem β) (W : World) :
    (s >>= f).run P W = match s.run P W with
      | .ok a W' => (f a).run P W'
      | .halt x W' => .halt x W' := by
  show (Sem.bind s f).run P W = _
  induction s generalizing W with
  | pure a => rfl
  | load m a k ih =>
    simp only [Sem.bind, Sem.run]
    split
    · exact ih _ _
    · split
      · exact ih _ _
      · rfl
  | store m a v k ih =>
    cases v <;> simp only [Sem.bind, Sem.run] <;> (repeat' split) <;> first | rfl | exact ih _ | (simp_all; done)
  | new o k ih => simp only [Sem.bind, Sem.run]; exact ih _ _
  | shape r k ih => simp only [Sem.bind, Sem.run]; exact ih _ _
  | freeze a n k ih => simp only [Sem.bind, Sem.run]; exact ih _
  | frozen a k ih => simp only [Sem.bind, Sem.run]; exact ih _ _
  | getObj r k ih => simp only [Sem.bind, Sem.run]; split <;> first | rfl | exact ih _ _
  | setObj r o k ih => simp only [Sem.bind, Sem.run]; split <;> first | rfl | exact ih _
  | choose q k ih => simp only [Sem.bind, Sem.run]; split <;> exact ih _ _
  | sys c k ih => simp only [Sem.bind, Sem.run]; exact ih _ _
  | program k ih => simp only [Sem.bind, Sem.run]; exact ih _ _
  | mark m k ih => simp only [Sem.bind, Sem.run]; exact ih _
  | halt h => rfl

theorem RunL.pure {a : α} {h : H} {K : α → H → Prop} (k : K a h) : RunL P (pure a) h K :=
  fun W s => ⟨a, W, h, rfl, s, Frame.refl _ _, k⟩

theorem RunL.mono {s : Sem α} {h : H} {K K' : α → H → Prop} (r : RunL P s h K) (k : ∀ a h, K a h → K' a h) : RunL P s h K' :=
  fun W sw => let ⟨a, W', h', e, s', f, x⟩ := r W sw; ⟨a, W', h', e, s', f, k _ _ x⟩

theorem RunL.bind {s : Sem α} {f : α → Sem β} {h : H} {K : β → H → Prop} (r : RunL P s h fun a h' => RunL P (f a) h' K) : RunL P (s >>= f) h K := by
  intro W sw
  obtain ⟨a, W', h', e, s', fr, x⟩ := r W sw
  obtain ⟨b, W'', h'', e', s'', fr', x'⟩ := x W' s'
  exact ⟨b, W'', h'', by rw [run_bind, e]; exact e', s'', fr.trans fr', x'⟩

theorem RunL.program {h : H} {K : Program → H → Prop} (k : K P h) : RunL P Go.program h K :=
  fun W s => ⟨P, W, h, rfl, s, Frame.refl _ _, k⟩

theorem RunL.load {a : Addr} {v : Value} {h : H} {K : Value → H → Prop} (c : cell h a = some v) (k : K v h) (m : Mode := .plain) : RunL P (Go.load a m) h K :=
  fun W s => ⟨v, W, h, by simp [Go.load, Sem.run, s.cell c], s, Frame.refl _ _, k⟩

theorem cell_isSome {h : H} {a : Addr} {v : Value} (c : cell h a = some v) : (h a.block).isSome = true := by
  unfold cell at c
  split at c
  · rename_i hb; rw [hb]; rfl
  · cases c

theorem RunL.store {a : Addr} {v u : Value} {h : H} {K : Unit → H → Prop} (o : v.oneCell = true) (c : cell h a = some u) (fr : free h a = true) (k : K () (hset h a v)) :
    RunL P (Go.store a v) h K := by
  intro W s
  refine ⟨(), W.setCell a v, hset h a v, ?_, s.set a v, Frame.set (cell_isSome c) v, k⟩
  cases v <;> first | (simp [Value.oneCell] at o; done) | simp [Go.store, Sem.run, s.cell c, s.free fr]

theorem RunL.newObj {o : Obj} {h : H} {K : Nat → H → Prop} (k : ∀ b, h b = none → K b (hnew h b o)) : RunL P (Go.newObj o) h K :=
  fun W s => ⟨W.heap.size, _, _, rfl, s.new o rfl, Frame.new o rfl ⟨rfl, rfl, rfl, Nat.le_refl _⟩, k _ (s.none_of_ge (Nat.le_refl _))⟩

theorem RunL.mark {m : Mark} {h : H} {K : Unit → H → Prop} (k : K () h) : RunL P (Go.mark m) h K :=
  fun W s => ⟨(), W, h, rfl, s, Frame.refl _ _, k⟩

theorem RunL.choose {q : Question} {h : H} {K : Nat → H → Prop} (hf : q.forced = false) (k : ∀ t, K (q.cut t) h) : RunL P (Go.choose q) h K := by
  intro W s
  refine ⟨q.cut (W.tape W.drawn q), { W with drawn := W.drawn + 1 }, h, by simp [Go.choose, Sem.run, hf], s.world rfl, Frame.world rfl ⟨rfl, rfl, rfl, Nat.le_succ _⟩, k _⟩

def shapeOf : Obj → Option (TypeId × Nat)
  | .cells c e _ => some (e, c.size)
  | _ => none

def frozenOf : Obj → Nat → Bool
  | .cells _ _ (lo, hi), off => lo ≤ off && off < hi
  | _, _ => false

theorem RunL.getObj {r : Nat} {o : Obj} {h : H} {K : Obj → H → Prop} (c : h r = some o) (nc : ∀ c e f, o ≠ .cells c e f) (k : K o h) : RunL P (Go.getObj r) h K := by
  intro W s
  refine ⟨o, W, h, ?_, s, Frame.refl _ _, k⟩
  simp only [Go.getObj, Sem.run, s r o c]

def hput (h : H) (r : Nat) (o : Obj) : H := hnew h r o

theorem RunL.setObj {r : Nat} {o o' : Obj} {h : H} {K : Unit → H → Prop} (c : h r = some o) (nc : ∀ c e f, o ≠ .cells c e f) (k : K () (hnew h r o')) : RunL P (Go.setObj r o') h K := by
  intro W s
  refine ⟨(), { W with heap := W.heap.setIfInBounds r o' }, hnew h r o', ?_, ?_, ⟨by simp, fun b hb hn => ?_, ⟨rfl, rfl, rfl, Nat.le_refl _⟩⟩, k⟩
  · simp only [Go.setObj, Sem.run, s r o c]
  · intro b p x
    have hr := s.lt c
    unfold hnew at x
    split at x
    · rename_i e; subst e; simpa [hr] using x
    · rename_i e; simp [show r ≠ b from fun x => e x.symm, s b p x]
  · have hne : b ≠ r := by intro e; subst e; rw [hn] at c; cases c
    exact ⟨by unfold hnew; rw [if_neg hne]; exact hn, by simp [show r ≠ b from fun x => hne x.symm]⟩

theorem RunL.shape {r : Nat} {o : Obj} {h : H} {K : Option (TypeId × Nat) → H → Prop} (c : h r = some o)
    (k : K (shapeOf o) h) : RunL P (Go.shape r) h K := by
  intro W s
  refine ⟨_, W, h, rfl, s, Frame.refl _ _, ?_⟩
  have : W.shape? r = shapeOf o := by
    unfold World.shape?; rw [s r o c]; cases o <;> rfl
  rw [this]; exact k

theorem RunL.frozen {a : Addr} {o : Obj} {h : H} {K : Bool → H → Prop} (c : h a.block = some o)
    (k : K (frozenOf o a.off) h) : RunL P (Go.frozen a) h K := by
  intro W s
  refine ⟨_, W, h, rfl, s, Frame.refl _ _, ?_⟩
  have : W.frozen? a = frozenOf o a.off := by
    unfold World.frozen?; rw [s _ o c]; cases o <;> rfl
  rw [this]; exact k
end

/-! ### Joining a view with blocks that are kept aside -/
def Apart (h p : H) : Prop := ∀ b, h b = none ∨ p b = none
def join (h p : H) : H := fun b => match h b with | some o => some o | none => p b

theorem Le.join_left (h p : H) : Le h (join h p) := fun b o x => by simp [join, x]
theorem join_right {h p : H} (a : Apart h p) : Le p (join h p) := fun b o x => by
  rcases a b with y | y
  · simp [join, y, x]
  · rw [y] at x; cases x
theorem join_none {h p : H} {b : Nat} : join h p b = none ↔ h b = none ∧ p b = none := by
  unfold join; cases h b <;> simp

theorem Frame.join {h h' p : H} {W W' : World} (s : Sub p W) (a : Apart h p) (s' : Sub h' W') (f : Frame h W h' W') :
    Apart h' p ∧ Sub (Lf.join h' p) W' ∧ Frame (Lf.join h p) W (Lf.join h' p) W' := by
  have key : ∀ b o, p b = some o → h' b = none ∧ W'.heap[b]? = some o := fun b o x => by
    have hn : h b = none := (a b).resolve_right (by rw [x]; simp)
    have ⟨n, e⟩ := f.2 b (s.lt x) hn
    exact ⟨n, e.trans (s b o x)⟩
  refine ⟨fun b => ?_, fun b o x => ?_, f.1, fun b hb hn => ?_, f.3⟩
  · cases hp : p b with
    | none => exact .inr rfl
    | some o => exact .inl (key b o hp).1
  · unfold Lf.join at x
    split at x
    · rename_i o' y; cases x; exact s' _ _ y
    · exact (key _ _ x).2
  · rw [join_none] at hn ⊢
    have ⟨n, e⟩ := f.2 b hb hn.1
    exact ⟨⟨n, hn.2⟩, e⟩

theorem Spec.frame {P : Program} {f : FuncId} {args : Array Value} {h p : H} {R : Value → H → Prop} (s : Spec P f args h R) (a : Apart h p) :
    Spec P f args (join h p) fun v h1 => ∃ h', h1 = join h' p ∧ Apart h' p ∧ R v h' := by
  intro W sw
  refine (s W (sw.mono (Le.join_left h p))).mono fun e W' ⟨v, h', he, s', fr, r⟩ => ?_
  have ⟨a', s2, f2⟩ := Frame.join (sw.mono (join_right a)) a s' fr
  exact ⟨v, join h' p, he, s2, f2, h', rfl, a', r⟩

theorem RunL.frame {P : Program} {α : Type} {s : Sem α} {h p : H} {K : α → H → Prop} (r : RunL P s h K) (a : Apart h p) :
    RunL P s (join h p) fun v h1 => ∃ h', h1 = join h' p ∧ Apart h' p ∧ K v h' := by
  intro W sw
  obtain ⟨v, W', h', e, s', fr, k⟩ := r W (sw.mono (Le.join_left h p))
  have ⟨a', s2, f2⟩ := Frame.join (sw.mono (join_right a)) a s' fr
  exact ⟨v, W', join h' p, e, s2, f2, h', rfl, a', k⟩

theorem Spec.mono {P : Program} {f : FuncId} {args : Array Value} {h : H} {R R' : Value → H → Prop} (s : Spec P f args h R) (k : ∀ v h, R v h → R' v h) : Spec P f args h R' :=
  fun W sw => (s W sw).mono fun _ _ ⟨v, h', he, s', fr, r⟩ => ⟨v, h', he, s', fr, k _ _ r⟩

theorem Spec.of_calls {P : Program} {f : FuncId} {args : Array Value} {h : H} {R : Value → H → Prop}
    (s : ∀ W, Sub h W → Calls P f args W fun e W' => ∃ v h', e = .returned v ∧ Sub h' W' ∧ Frame h W h' W' ∧ R v h') : Spec P f args h R := s

/-- The part of h that lies in S. -/
theorem split_le {h1 h : H} (l : Le h1 h) : ∃ p, h = join h1 p ∧ Apart h1 p := by
  refine ⟨fun b => if (h1 b).isSome then none else h b, ?_, ?_⟩
  · funext b
    unfold join
    cases x : h1 b with
    | some o => simp [l b o x]
    | none => simp [x]
  · intro b
    cases x : h1 b with
    | some o => exact .inr (by simp [x])
    | none => exact .inl rfl
end Lf

