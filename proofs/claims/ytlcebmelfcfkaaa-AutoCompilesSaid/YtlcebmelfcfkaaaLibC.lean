/- A range over a function, over partial heaps: rounds that go on to the end. -/
import Derived.Test.YtlcebmelfcfkaaaLfSnd8
import Derived.RangeFuncNested
import Derived.OrdersIn
namespace Lf
open Go Go.RowKit
variable {P : Program} {F : Fence} {n m : Nat} {α : Type}

/-- What lies in a world of which a view is true, behind another one. -/
def Live (h : H) (w : World) (Φ : α → H → Prop) (s : α) (W : World) : Prop := ∃ h', Sub h' W ∧ Frame h w h' W ∧ Φ s h'

theorem out_put (W : World) (l : Nat) (o : Obj) : Out W (W.putObj l o) := ⟨rfl, rfl, rfl, Nat.le_refl _⟩

theorem Sub.put_hidden {h : H} {W : World} (s : Sub h W) {l : Nat} (hl : h l = none) (o : Obj) : Sub h (W.putObj l o) := fun b p x => by
  rw [World.putObj_heap_other (fun e => by subst e; rw [hl] at x; cases x)]; exact s b p x

/-- One round. -/
theorem yield_rule {l : Nat} {rec : Loop} {w1 : World} {h : H} {encs : α → Array Value} {Φ : List α → H → Prop} {Ok : List α → α → Prop} {Ψ : List α → α → Act → H → Prop}
    (hF : ∀ f, F.fn f) (hl : w1.heap[l]? = some (.loop rec)) (hr : rec.state = .ready) (hp : rec.pending = none) (hn : h l = none) (hps : ∀ x, (encs x).size = rec.params.size)
    (hassign : ∀ (pre : List α) (x : α) (W : World) (h' : H), Ok pre x → Sub h' W → Frame h w1 h' W → Φ pre h' →
      rec.assign.wpIn (F.inRound l) m P (Exit.then (fun a' Wa => ∃ ha, Sub ha Wa ∧ Frame h' W ha Wa ∧ Ψ pre x a' ha) (fun _ _ _ => False))
        { tmps := (rec.params.zip (encs x)).foldl (fun t (p, v) => t.setIfInBounds p v) rec.tmps, defers := [] } W)
    (hbody : ∀ (pre : List α) (x : α) (a' : Act) (W : World) (ha : H), Sub ha W → ha l = none → W.heap[l]? = some (.loop { rec with state := .busy }) → Ψ pre x a' ha →
      rec.body.wpIn (F.inRound l) m P (fun e _ W3 => e = .normal ∧ ∃ h3, Sub h3 W3 ∧ Frame ha W h3 W3 ∧ Φ (pre ++ [x]) h3) a' W) :
    ∀ pre x W, Ok pre x → Live h w1 Φ pre W → YieldAt F m P l (encs x) W fun e W' => e = .returned (.bool true) ∧ Live h w1 Φ (pre ++ [x]) W' := by
  rintro pre x W ok ⟨h', sub, fr, hΦ⟩
  have hlt1 : l < w1.heap.size := (Array.getElem?_eq_some_iff.1 hl).1
  obtain ⟨hn', hW⟩ := fr.keep l hlt1 hn
  have hlW : W.heap[l]? = some (.loop rec) := hW.trans hl
  have hltW : l < W.heap.size := (Array.getElem?_eq_some_iff.1 hlW).1
  have hy := run_yield (P := P) (args := encs x) hlW (hps x)
  refine ⟨_, _, _, _, hy, roundIn_of_wpIn (hF _) (wpIn_mono (hassign pre x W h' ok sub fr hΦ) ?_)⟩
  rintro e a' Wa hq
  cases e with
  | normal =>
    obtain ⟨ha, suba, fra, hΨ⟩ := hq
    obtain ⟨hna, hWa⟩ := fra.keep l hltW hn'
    have hlWa : Wa.heap[l]? = some (.loop rec) := hWa.trans hlW
    have hlta : l < Wa.heap.size := (Array.getElem?_eq_some_iff.1 hlWa).1
    refine ⟨_, run_beginRound hlWa hr, wpIn_mono (hbody pre x a' _ ha (suba.put_hidden hna _) hna (World.putObj_heap_same hlta) hΨ) ?_⟩
    rintro e a3 W3 ⟨rfl, h3, sub3, fr3, hΦ3⟩
    have hltb : l < (Wa.putObj l (.loop { rec with state := .busy })).heap.size := by simpa using hlta
    obtain ⟨hn3, hW3⟩ := fr3.keep l hltb hna
    have hl3 : W3.heap[l]? = some (.loop { rec with state := .busy }) := hW3.trans (World.putObj_heap_same hlta)
    have hlt3 : l < W3.heap.size := (Array.getElem?_eq_some_iff.1 hl3).1
    have hend := run_endRound (P := P) none hl3
    refine ⟨_, _, hend, rfl, h3, sub3.put_hidden hn3 _, ?_, hΦ3⟩
    have fr13 := fr.trans fra
    refine ⟨by simp only [World.putObj_size]; exact Nat.le_trans fr13.size (by have := fr3.size; simpa using this), fun b hb hbn => ?_, ?_⟩
    · obtain ⟨k1, k2⟩ := fr13.keep b hb hbn
      have hbW : b < (Wa.putObj l (.loop { rec with state := .busy })).heap.size := by
        have := fr13.size; simp only [World.putObj_size]; omega
      obtain ⟨k3, k4⟩ := fr3.keep b hbW k1
      refine ⟨k3, ?_⟩
      by_cases e : b = l
      · subst e
        rw [World.putObj_heap_same hlt3, hl]
        simp only [Option.isNone_none, if_true]
        obtain ⟨st, pe, fn, tm, ps, as, bo, de⟩ := rec
        simp only at hr hp
        subst hr hp
        rfl
      · rw [World.putObj_heap_other e, k4, World.putObj_heap_other e, k2]
    · exact (fr13.out.trans ((out_put _ _ _).trans fr3.out)).trans (out_put _ _ _)
  | _ => exact hq.elim

/-- The outermost loop. -/
theorem range_outer {g : Operand} {ps : Array Tmp} {assign body : Code} {Q : Exit → Act → World → Prop} {a : Act} {w : World} {h : H}
    {gf : Nat} {lb : Array Value} {encs : α → Array Value} {S : List α → Prop} {Φ : List α → H → Prop} {Ok : List α → α → Prop} {Ψ : List α → α → Act → H → Prop}
    (hg : a.eval g = .func (.func gf) #[] lb) (eg : ∀ args w, (callFunc gf args).run P w = .ok (.enter gf args) w) (sub : Sub h w) (hps : ∀ x, (encs x).size = ps.size)
    (hcall : ∀ (l : Nat) (w1 : World) (J : List α → World → Prop), (∀ pre W, J pre W → ∃ h', Sub h' W ∧ Φ pre h') →
      (∀ pre x W, Ok pre x → J pre W → YieldAt Fence.wide m P l (encs x) W fun e W' => e = .returned (.bool true) ∧ J (pre ++ [x]) W') → J [] w1 →
      CallsIn Fence.wide (n - 1) P gf (#[.func (.yield l) #[] #[]] ++ lb) w1 fun e W' => (∃ v, e = .returned v) ∧ ∃ xs, S xs ∧ J xs W')
    (h0 : Φ [] h)
    (hassign : ∀ (l : Nat) (pre : List α) (x : α) (W : World) (h' : H), w.heap.size ≤ l → Ok pre x → Sub h' W → Φ pre h' →
      assign.wpIn (Fence.wide.inRound l) m P (Exit.then (fun a' Wa => ∃ ha, Sub ha Wa ∧ Frame h' W ha Wa ∧ Ψ pre x a' ha) (fun _ _ _ => False))
        { tmps := (ps.zip (encs x)).foldl (fun t (p, v) => t.setIfInBounds p v) a.tmps, defers := [] } W)
    (hbody : ∀ (l : Nat) (pre : List α) (x : α) (a' : Act) (W : World) (ha : H), Sub ha W → ha l = none → (∃ r, W.heap[l]? = some (.loop r)) → Ψ pre x a' ha →
      body.wpIn (Fence.wide.inRound l) m P (fun e _ W3 => e = .normal ∧ ∃ h3, Sub h3 W3 ∧ Frame ha W h3 W3 ∧ Φ (pre ++ [x]) h3) a' W)
    (hdone : ∀ (D : Nat) (xs : List α) (W : World) (h' : H), Sub h' W → Frame h w h' W → w.heap.size ≤ D → h' D = none → W.heap[D]? = some (.deferred (some [])) → S xs → Φ xs h' →
      Q .normal { a with defers := { target := .collected D, args := #[] } :: a.defers } W) :
    (Code.rangeFunc g ps assign body).wpIn Fence.wide n P Q a w := by
  refine wpIn_rangeFunc ?_
  intro fn hfn
  obtain ⟨rec, hrec⟩ : ∃ rec : Loop, rec = { state := .ready, pending := none, fn, tmps := a.tmps, params := ps, assign, body, defers := w.heap.size } := ⟨_, rfl⟩
  obtain ⟨W1, hW1⟩ : ∃ W1, (w.alloc (.deferred (some []))).alloc (.loop rec) = W1 := ⟨_, rfl⟩
  have hheap : ∀ b, b < w.heap.size → W1.heap[b]? = w.heap[b]? := fun b hb => by
    rw [← hW1]; exact (Below.heap_alloc _ _ b (by simp; omega)).trans (Below.heap_alloc _ _ b hb)
  have hsize : W1.heap.size = w.heap.size + 2 := by rw [← hW1]; simp
  have hL1 : W1.heap[w.heap.size + 1]? = some (.loop rec) := by
    rw [← hW1]; have := World.alloc_heap_new (w.alloc (.deferred (some []))) (.loop rec); rwa [World.size_alloc] at this
  have hK1 : W1.heap[w.heap.size]? = some (.deferred (some [])) := by
    rw [← hW1]; exact (Below.heap_alloc _ _ _ (by simp)).trans (World.alloc_heap_new w _)
  have hn0 : h w.heap.size = none := sub.none_of_ge (Nat.le_refl _)
  have hn1 : h (w.heap.size + 1) = none := sub.none_of_ge (Nat.le_succ _)
  have sub1 : Sub h W1 := fun b o x => by rw [hheap b (sub.lt x)]; exact sub b o x
  have out1 : Out w W1 := by rw [← hW1]; exact ⟨rfl, rfl, rfl, Nat.le_refl _⟩
  have fr1 : Frame h w h W1 := ⟨by omega, fun b hb hbn => ⟨hbn, hheap b hb⟩, out1⟩
  refine ⟨w.heap.size + 1, [{ target := .collected w.heap.size, args := #[] }], W1, { target := .fn (.func gf) lb, args := #[.func (.yield (w.heap.size + 1)) #[] #[]] }, W1, gf,
    #[.func (.yield (w.heap.size + 1)) #[] #[]] ++ lb, W1, ?_, ?_, fun _ _ => trivial, ?_, fun hd => (by cases hd), ?_⟩
  · rw [← hW1, hrec]; exact run_enterLoop_outer _ _ _ _ _
  · simp only [resolve, hg]
    simp [go_sem]
  · simp [invoke, go_sem, eg]
  · refine (hcall (w.heap.size + 1) W1 (Live h W1 Φ) (fun pre W ⟨h', s, _, p⟩ => ⟨h', s, p⟩)
      (yield_rule (F := Fence.wide) (Ψ := Ψ) (fun _ => trivial) hL1 (by rw [hrec]) (by rw [hrec]) hn1 (by rw [hrec]; exact hps)
        (fun pre x W h' ok s fr p => by rw [hrec]; exact hassign _ pre x W h' (by omega) ok s p)
        (fun pre x a' W ha s hn hl p => by rw [hrec]; exact hbody _ pre x a' W ha s hn ⟨_, hl⟩ p))
      ⟨h, sub1, Frame.refl _ _, h0⟩).mono ?_
    rintro e W2 ⟨⟨v, rfl⟩, xs, hS, h', s2, fr2, hΦ⟩
    obtain ⟨hn2, hl2⟩ := fr2.keep (w.heap.size + 1) (by omega) hn1
    obtain ⟨hd2, hk2⟩ := fr2.keep w.heap.size (by omega) hn0
    have hl2' : W2.heap[w.heap.size + 1]? = some (.loop rec) := hl2.trans hL1
    refine ⟨none, _, by have := run_endLoop (P := P) hl2' (by rw [hrec]; simp); rw [hrec] at this; exact this, ?_⟩
    refine hdone w.heap.size xs _ h' (s2.put_hidden hn2 _) ?_ (Nat.le_refl _) hd2 ((World.putObj_heap_other (by omega)).trans (hk2.trans hK1)) hS hΦ
    have fr12 := fr1.trans fr2
    exact ⟨by simpa using fr12.size, fun b hb hbn => let ⟨k1, k2⟩ := fr12.keep b hb hbn; ⟨k1, (World.putObj_heap_other (by omega)).trans k2⟩, fr12.out.trans (out_put _ _ _)⟩

/-- A loop within a round. -/
theorem range_inner {g : Operand} {ps : Array Tmp} {assign body : Code} {Q : Exit → Act → World → Prop} {a : Act} {w : World} {h : H} {l0 : Nat} {r0 : Loop}
    {gf : Nat} {lb : Array Value} {encs : α → Array Value} {S : List α → Prop} {Φ : List α → H → Prop} {Ok : List α → α → Prop} {Ψ : List α → α → Act → H → Prop}
    (hr0 : w.heap[l0]? = some (.loop r0))
    (hg : a.eval g = .func (.func gf) #[] lb) (eg : ∀ args w, (callFunc gf args).run P w = .ok (.enter gf args) w) (sub : Sub h w) (hps : ∀ x, (encs x).size = ps.size)
    (hcall : ∀ (l : Nat) (w1 : World) (J : List α → World → Prop), (∀ pre W, J pre W → ∃ h', Sub h' W ∧ Φ pre h') →
      (∀ pre x W, Ok pre x → J pre W → YieldAt (Fence.wide.inRound l0) m P l (encs x) W fun e W' => e = .returned (.bool true) ∧ J (pre ++ [x]) W') → J [] w1 →
      CallsIn (Fence.wide.inRound l0) (n - 1) P gf (#[.func (.yield l) #[] #[]] ++ lb) w1 fun e W' => (∃ v, e = .returned v) ∧ ∃ xs, S xs ∧ J xs W')
    (h0 : Φ [] h)
    (hassign : ∀ (l : Nat) (pre : List α) (x : α) (W : World) (h' : H), w.heap.size ≤ l → Ok pre x → Sub h' W → Φ pre h' →
      assign.wpIn (Fence.wide.inRound l) m P (Exit.then (fun a' Wa => ∃ ha, Sub ha Wa ∧ Frame h' W ha Wa ∧ Ψ pre x a' ha) (fun _ _ _ => False))
        { tmps := (ps.zip (encs x)).foldl (fun t (p, v) => t.setIfInBounds p v) a.tmps, defers := [] } W)
    (hbody : ∀ (l : Nat) (pre : List α) (x : α) (a' : Act) (W : World) (ha : H), Sub ha W → ha l = none → (∃ r, W.heap[l]? = some (.loop r)) → Ψ pre x a' ha →
      body.wpIn (Fence.wide.inRound l) m P (fun e _ W3 => e = .normal ∧ ∃ h3, Sub h3 W3 ∧ Frame ha W h3 W3 ∧ Φ (pre ++ [x]) h3) a' W)
    (hdone : ∀ (xs : List α) (W : World) (h' : H), Sub h' W → Frame h w h' W → S xs → Φ xs h' → Q .normal a W) :
    (Code.rangeFunc g ps assign body).wpIn (Fence.wide.inRound l0) n P Q a w := by
  refine wpIn_rangeFunc ?_
  intro fn hfn
  obtain ⟨rec, hrec⟩ : ∃ rec : Loop, rec = { state := .ready, pending := none, fn, tmps := a.tmps, params := ps, assign, body, defers := r0.defers } := ⟨_, rfl⟩
  obtain ⟨W1, hW1⟩ : ∃ W1, w.alloc (.loop rec) = W1 := ⟨_, rfl⟩
  have hheap : ∀ b, b < w.heap.size → W1.heap[b]? = w.heap[b]? := fun b hb => by
    rw [← hW1]; exact Below.heap_alloc _ _ b hb
  have hsize : W1.heap.size = w.heap.size + 1 := by rw [← hW1]; simp
  have hL1 : W1.heap[w.heap.size]? = some (.loop rec) := by rw [← hW1]; exact World.alloc_heap_new w _
  have hn1 : h w.heap.size = none := sub.none_of_ge (Nat.le_refl _)
  have sub1 : Sub h W1 := fun b o x => by rw [hheap b (sub.lt x)]; exact sub b o x
  have out1 : Out w W1 := by rw [← hW1]; exact ⟨rfl, rfl, rfl, Nat.le_refl _⟩
  have fr1 : Frame h w h W1 := ⟨by omega, fun b hb hbn => ⟨hbn, hheap b hb⟩, out1⟩
  refine ⟨w.heap.size, [], W1, { target := .fn (.func gf) lb, args := #[.func (.yield w.heap.size) #[] #[]] }, W1, gf,
    #[.func (.yield w.heap.size) #[] #[]] ++ lb, W1, ?_, ?_, fun _ _ => trivial, ?_, fun hd => (by cases hd), ?_⟩
  · rw [← hW1, hrec]; exact run_enterLoop_inner hr0 _ _ _ _ _
  · simp only [resolve, hg]
    simp [go_sem]
  · simp [invoke, go_sem, eg]
  · refine (hcall w.heap.size W1 (Live h W1 Φ) (fun pre W ⟨h', s, _, p⟩ => ⟨h', s, p⟩)
      (yield_rule (F := Fence.wide.inRound l0) (Ψ := Ψ) (fun _ => trivial) hL1 (by rw [hrec]) (by rw [hrec]) hn1 (by rw [hrec]; exact hps)
        (fun pre x W h' ok s fr p => by rw [hrec]; exact hassign _ pre x W h' (by omega) ok s p)
        (fun pre x a' W ha s hn hl p => by rw [hrec]; exact hbody _ pre x a' W ha s hn ⟨_, hl⟩ p))
      ⟨h, sub1, Frame.refl _ _, h0⟩).mono ?_
    rintro e W2 ⟨⟨v, rfl⟩, xs, hS, h', s2, fr2, hΦ⟩
    obtain ⟨hn2, hl2⟩ := fr2.keep w.heap.size (by omega) hn1
    have hl2' : W2.heap[w.heap.size]? = some (.loop rec) := hl2.trans hL1
    refine ⟨none, _, by have := run_endLoop (P := P) hl2' (by rw [hrec]; simp); rw [hrec] at this; exact this, ?_⟩
    refine hdone xs _ h' (s2.put_hidden hn2 _) ?_ hS hΦ
    have fr12 := fr1.trans fr2
    exact ⟨by simpa using fr12.size, fun b hb hbn => let ⟨k1, k2⟩ := fr12.keep b hb hbn; ⟨k1, (World.putObj_heap_other (by omega)).trans k2⟩, fr12.out.trans (out_put _ _ _)⟩
end Lf

/- Regions within a round: the lifter's texts serve there too. -/
namespace Lf
open Go
variable {P : Program} {n l : Nat} {K : Value → H → Prop}
variable {h0 : H} {W0 : World} {pr : Prot} {β : Nat → Nat} {σ σ0 : St semAt} {a : Act} {w : World} {Kt : St semAt → Prop} {Q : Exit → Act → World → Prop}

theorem calls_in {f : FuncId} {args : Array Value} {R : Ending → World → Prop} (h : Calls P f args w R) : CallsIn (Fence.wide.inRound l) n P f args w R :=
  (callsIn_wide (n := n)).2 h

theorem rows_in {row : String} {args : Array Value} {R : Value → World → Prop} (h : Rows P row args w R) : RowsIn (Fence.wide.inRound l) n P row args w R :=
  fun c cs _ => let ⟨v, w', r, s⟩ := h c cs; ⟨v, w', r, stepsIn_wide.2 s⟩

theorem op_in {o : Oper} {N : Act → World → Prop} (hd : ∀ c, o.op ≠ .defer c) (h : o.wp P a w N Q) : o.wpIn (Fence.wide.inRound l) n P a w N Q := by
  refine ⟨fun _ _ => trivial, ?_⟩
  show o.uponIn _ n P a N Q ((o.semAt (some l) a.eval).run P w)
  rw [Oper.semAt_eq _ _ _ hd]
  unfold Oper.wp at h
  generalize (execOp a.eval o).run P w = r at h
  cases r with
  | ok x w' =>
    cases x <;> simp only [Oper.upon, Oper.uponIn] at h ⊢ <;> first | exact h | skip
    · exact ⟨fun hh => (by cases hh), calls_in h⟩
    · exact ⟨fun hh => (by cases hh), rows_in h⟩
  | halt x w' => cases x <;> simp only [Oper.upon, Oper.uponIn] at h ⊢ <;> exact h

theorem any_in {ops : Array Oper} (hd : ∀ (i : Nat) (o : Oper), ops[i]? = some o → ∀ c, o.op ≠ .defer c) (hQ : ¬ LetsOut Q) : ∀ (k : Nat) (L : Array Bool) (a : Act) (w : World),
    wpAny P .any ops Q k L a w → wpAnyIn (Fence.wide.inRound l) n P .any ops Q k L a w
  | 0, L, a, w, h => h
  | k + 1, L, a, w, h => by
    refine ⟨h.1, fun i hi => ?_⟩
    have h2 := h.2 i hi
    unfold wpOp at h2
    unfold wpOpIn
    split
    · rename_i e; rw [e] at h2; exact any_in hd hQ k _ a w h2
    · rename_i o e
      rw [e] at h2
      simp only at h2
      split
      · rename_i hw
        rw [if_pos hw] at h2
        rcases h2 with h2 | ⟨_, h2⟩
        · exact Oper.wpIn_mono (fun a w => any_in hd hQ k _ a w) (op_in (hd i o e) h2)
        · exact absurd h2 hQ
      · rename_i hw
        rw [if_neg hw] at h2
        exact ⟨fun _ _ => trivial, any_in hd hQ k _ _ w h2⟩

def noDefer (ops : Array Oper) : Bool := ops.all fun o => match o.op with | .defer _ => false | _ => true
theorem noDefer_spec {ops : Array Oper} (h : noDefer ops = true) (i : Nat) (o : Oper) (hi : ops[i]? = some o) (c : Call) : o.op ≠ .defer c := fun e => by
  unfold noDefer at h
  rw [Array.all_eq_true'] at h
  have := h o (Array.mem_of_getElem? hi)
  rw [e] at this; cases this

/-- A region whose order is drawn, in a round. -/
theorem liftDraw_in {id : Nat} {ops : Array Oper} (hm : P.follows .mixedOrders = true) (hd : ∀ (i : Nat) (o : Oper), ops[i]? = some o → ∀ c, o.op ≠ .defer c)
    (f : liftDraw P (semAlg P K) pr ops σ Kt) (s : Sim h0 W0 pr.n β σ a w) :
    (Code.region id ops true).wpIn (Fence.wide.inRound l) n P (fun e a' w' => e = .normal ∧ Goes h0 W0 pr σ Kt a' w') a w := by
  have g : Agree pr σ σ := Agree.refl _ _
  have hQ : ∀ c a a' w, (fun (e : Exit) a' w' => e = .normal ∧ Goes h0 W0 pr σ Kt a' w') (.panic c) a' w → (fun (e : Exit) a' w' => e = .normal ∧ Goes h0 W0 pr σ Kt a' w') (.panic c) a w := fun _ _ _ _ h => by cases h.1
  have hL : ¬ LetsOut (fun (e : Exit) a' w' => e = .normal ∧ Goes h0 W0 pr σ Kt a' w') := fun ⟨_, _, h⟩ => by cases h.1
  unfold liftDraw at f
  split at f
  · exact f.elim
  · rename_i hsel
    have hsel' : Region.noSelect ops = true := by simpa using hsel
    refine wpIn_region_any hm (any_in hd hL _ _ _ _ ?_)
    have s1 := s.step (W' := { w with drawn := w.drawn + 1 }) (s.sub.world rfl) (Frame.world rfl ⟨rfl, rfl, rfl, Nat.le_succ _⟩)
    obtain ⟨σ', s', g', f'⟩ := publishAll_elim _ _ _ f s1 (σ0 := σ) ⟨g.slots, g.boxes⟩
    split at f'
    · obtain ⟨pr', Kj, hn, hb, _, hgo⟩ := join_elim (h0 := h0) (W0 := W0) f' g'
      exact drawAll_goes (pr := pr') (σ0 := σ') hsel' hQ (fun a' W' h => ⟨rfl, hgo a' W' h⟩) hb (by rw [hn]; exact s') (Agree.refl _ _)
    · exact drawAll_goes hsel' hQ (fun a' W' h => ⟨rfl, h⟩) f' s' g'

/-- The same, where less than all counts as seen. -/
theorem drawSome_in {id : Nat} {ops : Array Oper} {hs : H} {j0 k : Nat} (hm : P.follows .mixedOrders = true) (hd : ∀ (i : Nat) (o : Oper), ops[i]? = some o → ∀ c, o.op ≠ .defer c)
    (hsel : Region.noSelect ops = true) (hle : Le hs σ.heap)
    (f : drawGo P (semAlg P K) pr ops j0 (backs ops ops.size [j0]) hs k (Array.replicate ops.size false) σ Kt) (s : Sim h0 W0 pr.n β σ a w) :
    (Code.region id ops true).wpIn (Fence.wide.inRound l) n P (fun e a' w' => e = .normal ∧ Goes h0 W0 pr σ Kt a' w') a w := by
  have hQ : ∀ c a a' w, (fun (e : Exit) a' w' => e = .normal ∧ Goes h0 W0 pr σ Kt a' w') (.panic c) a' w → (fun (e : Exit) a' w' => e = .normal ∧ Goes h0 W0 pr σ Kt a' w') (.panic c) a w := fun _ _ _ _ h => by cases h.1
  have hL : ¬ LetsOut (fun (e : Exit) a' w' => e = .normal ∧ Goes h0 W0 pr σ Kt a' w') := fun ⟨_, _, h⟩ => by cases h.1
  refine wpIn_region_any hm (any_in hd hL _ _ _ _ ?_)
  have s1 := s.step (W' := { w with drawn := w.drawn + 1 }) (s.sub.world rfl) (Frame.world rfl ⟨rfl, rfl, rfl, Nat.le_succ _⟩)
  have off : ∀ b, σ.heap b = none → hs b = none := fun b e => by
    cases x : hs b with
    | none => rfl
    | some o => rw [hle b o x] at e; cases e
  refine wpAny_of_G (S := Vw β { σ with heap := hs }) (j0 := j0) _ _ _ _
    (drawGo_goes (β0 := β) (σS := { σ with heap := hs }) hsel rfl hQ (fun b hb hn => off b (s1.frame.2 b hb hn).1) (fun i x hx => off _ (s1.box i x hx).2.2.1) (fun a' W' h => ⟨rfl, h⟩) k _ σ a _ β _ f ?_ ?_ s1 (Agree.refl _ _)
      (.inr ⟨s1.sub.mono hle, fun i x hx => (s1.box i x hx).2.1⟩) (fun _ => ⟨rfl, rfl⟩))
  · refine ⟨by simp, fun k o hk hl => ?_⟩
    exfalso
    have hlt : k < ops.size := (Array.getElem?_eq_some_iff.1 hk).1
    simp [hlt] at hl
  · unfold left
    simp [List.count_replicate]
end Lf

