/- Trees without repetitions, as the document has them, and what they say of the places. -/
import Derived.Test.YtlcebmelfcfkaaaLibB
namespace Pat
open Go Lf

inductive Wd where
  | mk (nd : Nd) (place : Nat) (parts : List Wd)

def Wd.node : Wd → Nd | .mk x _ _ => x

/-- So many copies, numbered one behind the other. -/
def widenK (g : Nat → List Wd × Nat) : Nat → Nat → List Wd × Nat
  | 0, n => ([], n)
  | k + 1, n => let a := widenK g k n; let b := g a.2; (a.1 ++ b.1, b.2)

def timesOf (x : Nd) : Nat := if x.kind = 4 then x.hi.toNat else 1

mutual
def T.widen : T → Nat → Wd × Nat
  | .mk x ps, n => if x.kind = 1 then (.mk x n [], n + 1) else let r := widenK (widenL ps) (timesOf x) n; (.mk x 0 r.1, r.2)
def widenL : List T → Nat → List Wd × Nat
  | [], n => ([], n)
  | t :: ts, n => let a := t.widen n; let b := widenL ts a.2; (a.1 :: b.1, b.2)
end

mutual
def Wd.first : Wd → Nat → Bool
  | .mk x pl ps, p => if x.kind = 1 then decide (pl = p) else firstL (decide (x.kind = 3)) true ps p
def firstL (alt : Bool) : Bool → List Wd → Nat → Bool
  | _, [], _ => false
  | b, w :: ws, p => (w.first p && (b || alt)) || firstL alt false ws p
end

def endAt (x : Nd) (i : Nat) : Bool := decide (x.kind = 3) || (decide (x.kind = 4) && decide (((i + 1 : Nat) : Int) ≥ x.lo))

mutual
def Wd.last : Wd → Nat → Bool
  | .mk x pl ps, p => if x.kind = 1 then decide (pl = p) else lastL x 0 ps p
def lastL (x : Nd) : Nat → List Wd → Nat → Bool
  | _, [], _ => false
  | i, w :: ws, p => ((endAt x i || ws.isEmpty) && w.last p) || lastL x (i + 1) ws p
end

mutual
def Wd.edge : Wd → Nat → Nat → Option Nd
  | .mk x _ ps, f, t => edgeL x none ps f t
def edgeL (x : Nd) : Option Wd → List Wd → Nat → Nat → Option Nd
  | _, [], _, _ => none
  | pr, w :: ws, f, t => match w.edge f t with
    | some y => some y
    | none => if decide (x.kind ≠ 3) && (pr.any fun u => u.last f) && w.first t then some x else edgeL x (some w) ws f t
end

mutual
def Wd.preds : Wd → List Prd
  | .mk x _ ps => if x.kind = 1 then [x.pred] else predsL ps
def predsL : List Wd → List Prd
  | [] => []
  | w :: ws => w.preds ++ predsL ws
end

theorem predsL_append : ∀ a b : List Wd, predsL (a ++ b) = predsL a ++ predsL b
  | [], b => by simp [predsL]
  | w :: a, b => by simp only [List.cons_append, predsL, predsL_append a b, List.append_assoc]

theorem firstL_snoc (alt : Bool) (w : Wd) (p : Nat) : ∀ (ws : List Wd) (b : Bool), firstL alt b (ws ++ [w]) p = (firstL alt b ws p || (w.first p && ((ws.isEmpty && b) || alt)))
  | [], b => by simp [firstL]
  | u :: ws, b => by
    simp only [List.cons_append, firstL]
    rw [firstL_snoc alt w p ws false]
    simp [Bool.or_assoc]

/-- The parts that may be last wherever they stand. -/
def lastI (x : Nd) : Nat → List Wd → Nat → Bool
  | _, [], _ => false
  | i, w :: ws, p => (endAt x i && w.last p) || lastI x (i + 1) ws p

theorem lastI_snoc (x : Nd) (w : Wd) (p : Nat) : ∀ (ws : List Wd) (i : Nat), lastI x i (ws ++ [w]) p = (lastI x i ws p || (endAt x (i + ws.length) && w.last p))
  | [], i => by simp [lastI]
  | u :: ws, i => by
    simp only [List.cons_append, lastI, List.length_cons]
    rw [lastI_snoc x w p ws (i + 1), show i + (ws.length + 1) = i + 1 + ws.length by omega]
    simp [Bool.or_assoc]

theorem lastL_snoc (x : Nd) (w : Wd) (p : Nat) : ∀ (ws : List Wd) (i : Nat), lastL x i (ws ++ [w]) p = (lastI x i ws p || w.last p)
  | [], i => by simp [lastL, lastI]
  | u :: ws, i => by
    simp only [List.cons_append, lastL, lastI]
    rw [lastL_snoc x w p ws (i + 1)]
    have : (ws ++ [w]).isEmpty = false := by simp
    rw [this]
    simp [Bool.or_assoc]

def stepE (x : Nd) (pr : Option Wd) (w : Wd) (f t : Nat) : Option Nd := match w.edge f t with
  | some y => some y
  | none => if decide (x.kind ≠ 3) && (pr.any fun u => u.last f) && w.first t then some x else none

theorem edgeL_snoc (x : Nd) (w : Wd) (f t : Nat) : ∀ (ws : List Wd) (pr : Option Wd), edgeL x pr (ws ++ [w]) f t = match edgeL x pr ws f t with
    | some y => some y
    | none => stepE x (ws.getLast?.or pr) w f t
  | [], pr => by
    simp only [List.nil_append, edgeL, stepE]
    simp
  | u :: ws, pr => by
    simp only [List.cons_append, edgeL]
    cases u.edge f t with
    | some y => rfl
    | none =>
      simp only
      split
      · rfl
      · rw [edgeL_snoc x w f t ws (some u)]
        have : (u :: ws).getLast?.or pr = ws.getLast?.or (some u) := by
          cases ws with
          | nil => simp
          | cons v vs => simp [List.getLast?_cons]
        rw [this]

/-- What leads from a place to another one. -/
def EdgeRel (r : Option Nd) (E : List Edg) (f t : Nat) : Prop := match r with
  | some y => ∃ e, e ∈ E ∧ e.src = f ∧ e.dst = t ∧ e.guarded = y.guarded ∧ e.guard = y.guard
  | none => ∀ e, e ∈ E → ¬ (e.src = f ∧ e.dst = t)

structure Rel (w : Wd) (o : Out) : Prop where
  preds : w.preds = o.preds
  first : ∀ p, w.first p = o.first.testBit p
  last : ∀ p, w.last p = o.last.testBit p
  edge : ∀ f t, EdgeRel (w.edge f t) o.edges f t

structure RelL (x : Nd) (ws : List Wd) (o : Out) (lst : Nat) : Prop where
  ne : ws ≠ []
  preds : predsL ws = o.preds
  first : ∀ p, firstL (decide (x.kind = 3)) true ws p = o.first.testBit p
  edge : ∀ f t, EdgeRel (edgeL x none ws f t) o.edges f t
  prev : ∀ p, (ws.getLast?.any fun u => u.last p) = lst.testBit p

theorem RelL.one {x : Nd} {w : Wd} {o : Out} (r : Rel w o) (l : Nat) : RelL x [w] ⟨o.first, l, o.preds, o.edges⟩ o.last where
  ne := by simp
  preds := by simp [predsL, r.preds]
  first p := by simp [firstL, r.first]
  edge f t := by
    have := r.edge f t
    simp only [edgeL]
    cases h : w.edge f t with
    | some y => rw [h] at this; exact this
    | none => rw [h] at this; simpa using this
  prev p := by simp [r.last]

theorem RelL.alt {x : Nd} {ws : List Wd} {w : Wd} {o e : Out} {lst l : Nat} (hx : x.kind = 3) (r : RelL x ws o lst) (re : Rel w e) :
    RelL x (ws ++ [w]) ⟨o.first ||| e.first, l, o.preds ++ e.preds, o.edges ++ e.edges⟩ e.last where
  ne := by simp
  preds := by simp [predsL_append, predsL, r.preds, re.preds]
  first p := by
    rw [firstL_snoc, r.first, re.first, Nat.testBit_or]
    simp [hx]
  edge f t := by
    rw [edgeL_snoc]
    have h1 := r.edge f t
    have h2 := re.edge f t
    cases h : edgeL x none ws f t with
    | some y =>
      rw [h] at h1
      obtain ⟨z, hz, a⟩ := h1
      exact ⟨z, List.mem_append_left _ hz, a⟩
    | none =>
      rw [h] at h1
      simp only [stepE]
      cases h' : w.edge f t with
      | some y =>
        rw [h'] at h2
        obtain ⟨z, hz, a⟩ := h2
        exact ⟨z, List.mem_append_right _ hz, a⟩
      | none =>
        rw [h'] at h2
        simp only [hx, ne_eq, not_true, decide_false, Bool.false_and, Bool.false_eq_true, if_false]
        intro z hz
        rcases List.mem_append.1 hz with hz | hz
        · exact h1 z hz
        · exact h2 z hz
  prev p := by simp [re.last]

theorem RelL.seq {x : Nd} {ws : List Wd} {w : Wd} {o e : Out} {lst l : Nat} (hx : x.kind ≠ 3) (r : RelL x ws o lst) (re : Rel w e) (b1 : ∀ i, lst.testBit i = true → i < 32) (b2 : ∀ i, e.first.testBit i = true → i < 32) :
    RelL x (ws ++ [w]) ⟨o.first, l, o.preds ++ e.preds, o.edges ++ e.edges ++ joins x lst e.first⟩ e.last where
  ne := by simp
  preds := by simp [predsL_append, predsL, r.preds, re.preds]
  first p := by
    rw [firstL_snoc, r.first]
    have : ws.isEmpty = false := by cases ws with
      | nil => exact absurd rfl r.ne
      | cons u us => rfl
    simp [hx, this]
  edge f t := by
    rw [edgeL_snoc]
    have h1 := r.edge f t
    have h2 := re.edge f t
    have h3 := r.prev f
    have h4 := re.first t
    cases h : edgeL x none ws f t with
    | some y =>
      rw [h] at h1
      obtain ⟨z, hz, a⟩ := h1
      exact ⟨z, List.mem_append_left _ (List.mem_append_left _ hz), a⟩
    | none =>
      rw [h] at h1
      have hor : ws.getLast?.or none = ws.getLast? := by simp
      simp only [stepE, hor]
      cases h' : w.edge f t with
      | some y =>
        rw [h'] at h2
        obtain ⟨z, hz, a⟩ := h2
        exact ⟨z, List.mem_append_left _ (List.mem_append_right _ hz), a⟩
      | none =>
        rw [h'] at h2
        simp only [h3, h4]
        by_cases hb : lst.testBit f = true ∧ e.first.testBit t = true
        · rw [if_pos (by simp [hx, hb])]
          refine ⟨⟨f, t, x.guarded, x.guard⟩, List.mem_append_right _ ?_, rfl, rfl, rfl, rfl⟩
          unfold joins
          simp only [List.mem_flatMap, List.mem_map]
          exact ⟨f, mem_bitsOf.2 ⟨b1 f hb.1, hb.1⟩, t, mem_bitsOf.2 ⟨b2 t hb.2, hb.2⟩, rfl⟩
        · rw [if_neg (by simpa [hx] using hb)]
          intro z hz ⟨e1, e2⟩
          rcases List.mem_append.1 hz with hz | hz
          · rcases List.mem_append.1 hz with hz | hz
            · exact h1 z hz ⟨e1, e2⟩
            · exact h2 z hz ⟨e1, e2⟩
          · obtain ⟨k1, k2⟩ := mem_joins hz
            rw [e1] at k1; rw [e2] at k2
            exact hb ⟨k1, k2⟩
  prev p := by simp [re.last]
end Pat

/- The document's tree without repetitions says of the places what the program's parts do. -/
namespace Pat
open Go Lf

theorem any_last {ws : List Wd} (h : ws ≠ []) : ∃ a w, ws = a ++ [w] := ⟨ws.dropLast, ws.getLast h, (List.dropLast_concat_getLast h).symm⟩

/-- Where the end of the row counts by itself. -/
theorem lastL_full {x : Nd} {ws : List Wd} (h : ws ≠ []) (he : endAt x (ws.length - 1) = true) (p : Nat) : lastL x 0 ws p = lastI x 0 ws p := by
  obtain ⟨a, w, rfl⟩ := any_last h
  rw [lastL_snoc, lastI_snoc]
  simp only [List.length_append, List.length_cons, List.length_nil, Nat.add_sub_cancel, Nat.zero_add] at he ⊢
  rw [he]; simp

theorem lastI_none {x : Nd} (h : ∀ i, endAt x i = false) (p : Nat) : ∀ (ws : List Wd) (i : Nat), lastI x i ws p = false
  | [], i => rfl
  | w :: ws, i => by simp [lastI, h, lastI_none h p ws]

theorem lastL_seq {x : Nd} {ws : List Wd} (hne : ws ≠ []) (h : ∀ i, endAt x i = false) (p : Nat) : lastL x 0 ws p = ws.getLast?.any fun u => u.last p := by
  obtain ⟨a, w, rfl⟩ := any_last hne
  rw [lastL_snoc, lastI_none h]
  simp

theorem widenK_len {p : T} {k n : Nat} : (widenK (widenL [p]) k n).1.length = k := by
  induction k generalizing n with
  | zero => rfl
  | succ k ih => rw [widenK]; simp only [List.length_append, ih]; rfl

theorem repN_rel {x : Nd} {p : T} {m : Nat} (hx : x.kind = 4) (hl : ∀ n, (p.out n).preds.length = m) (hg : ∀ n, Good (p.out n) n m) (n0 : Nat) : ∀ k, (∀ n, n + m ≤ n0 + (k + 1) * m → Rel (p.widen n).1 (p.out n) ∧ (p.widen n).2 = n + m) → n0 + (k + 1) * m ≤ 32 →
    RelL x (widenK (widenL [p]) (k + 1) n0).1 (repN x p.out n0 (k + 1)).1 (repN x p.out n0 (k + 1)).2.2 ∧ (widenK (widenL [p]) (k + 1) n0).2 = n0 + (k + 1) * m ∧
      ∀ q, lastI x 0 (widenK (widenL [p]) (k + 1) n0).1 q = (repN x p.out n0 (k + 1)).1.last.testBit q
  | 0, hr, h32 => by
    obtain ⟨r, e⟩ := hr n0 (by omega)
    simp only [widenK, widenL, repN, List.length_nil, Nat.add_zero, if_true, Nat.zero_add, Nat.one_mul, List.nil_append, List.append_nil, Nat.zero_or]
    refine ⟨RelL.one r _, e, fun q => ?_⟩
    simp only [lastI, endAt, Nat.zero_add, Bool.or_false]
    have h3 : ¬ x.kind = 3 := by omega
    simp only [hx, h3, decide_false, decide_true, Bool.false_or, Bool.true_and]
    split
    · rename_i h; rw [r.last]; simp at h ⊢; simp [h]
    · rename_i h; simp at h ⊢; omega
  | k + 1, hr, h32 => by
    have hm : (k + 1 + 1) * m = (k + 1) * m + m := by rw [Nat.add_mul (k + 1), Nat.one_mul]
    have hk : (k + 1) * m = k * m + m := by rw [Nat.add_mul, Nat.one_mul]
    obtain ⟨f, e, fl⟩ := repN_rel hx hl hg n0 k (fun n hn => hr n (by omega)) (by omega)
    obtain ⟨r, er⟩ := hr (n0 + (k + 1) * m) (by omega)
    have g2 := (repN_good (x := x) hl hg n0 k).2
    have ge := hg (n0 + (k + 1) * m)
    have s := f.seq (l := if ((k + 1 : Nat) + 1 : Int) ≥ x.lo then (repN x p.out n0 (k + 1)).1.last ||| (p.out (n0 + (k + 1) * m)).last else (repN x p.out n0 (k + 1)).1.last) (by omega) r
      (fun i hi => by have := g2 i hi; omega) (fun i hi => by have := ge.first i hi; omega)
    have ew : widenK (widenL [p]) (k + 1 + 1) n0 = ((widenK (widenL [p]) (k + 1) n0).1 ++ [(p.widen (n0 + (k + 1) * m)).1], n0 + (k + 1) * m + m) := by
      show ((widenK (widenL [p]) (k + 1) n0).1 ++ (widenL [p] (widenK (widenL [p]) (k + 1) n0).2).1, (widenL [p] (widenK (widenL [p]) (k + 1) n0).2).2) = _
      rw [e, show widenL [p] (n0 + (k + 1) * m) = ([(p.widen (n0 + (k + 1) * m)).1], (p.widen (n0 + (k + 1) * m)).2) from rfl, er]
    rw [ew, repN]
    simp only [repN_len hl n0 (k + 1), Nat.add_eq_zero_iff, Nat.succ_ne_zero, and_false, if_false, hm]
    refine ⟨s, by omega, fun q => ?_⟩
    rw [lastI_snoc, fl, r.last, widenK_len]
    simp only [endAt, Nat.zero_add]
    have h3 : ¬ x.kind = 3 := by omega
    simp only [hx, h3, decide_false, decide_true, Bool.false_or, Bool.true_and]
    split
    · rename_i h
      rw [Nat.testBit_or]
      have : decide (((k + 1 + 1 : Nat) : Int) ≥ x.lo) = true := by simp; omega
      rw [this]; simp
    · rename_i h
      have : decide (((k + 1 + 1 : Nat) : Int) ≥ x.lo) = false := by simp; omega
      rw [this]; simp

mutual
theorem out_rel : ∀ (t : T) (n : Nat), t.formed = true → n + t.places ≤ 32 → Rel (t.widen n).1 (t.out n) ∧ (t.widen n).2 = n + t.places
  | .mk x ps, n, h, h32 => by
    have hall := h
    simp only [T.formed, Bool.and_eq_true, decide_eq_true_eq] at h
    simp only [T.places] at h32 ⊢
    simp only [T.out, T.widen]
    by_cases h1 : x.kind = 1
    · simp only [if_pos h1]
      refine ⟨⟨by simp [Wd.preds, h1], fun p => ?_, fun p => ?_, fun f t => ?_⟩, trivial⟩
      · simp only [Wd.first, if_pos h1, Nat.testBit_two_pow]
      · simp only [Wd.last, if_pos h1, Nat.testBit_two_pow]
      · simp [Wd.edge, edgeL, EdgeRel]
    · simp only [if_neg h1] at h32 ⊢
      have fin : ∀ {ws : List Wd} {o : Out} {l : Nat}, RelL x ws o l → (∀ p, lastL x 0 ws p = o.last.testBit p) → Rel (.mk x 0 ws) o := fun r hl =>
        ⟨by simp only [Wd.preds, if_neg h1]; exact r.preds, fun p => by simp only [Wd.first, if_neg h1]; exact r.first p, fun p => by simp only [Wd.last, if_neg h1]; exact hl p, fun f t => by simp only [Wd.edge]; exact r.edge f t⟩
      by_cases h3 : x.kind = 3
      · have h4' : ¬ x.kind = 4 := by omega
        simp only [if_neg h4', if_pos h3, timesOf] at h32 ⊢
        simp only [widenK, List.nil_append]
        match ps, h, h32 with
        | [], h, _ =>
          have := h.1.1
          simp only [List.length_nil] at this
          unfold plain at this; grind
        | p :: r, h, h32 =>
          have hf := h.2
          simp only [formedL, Bool.and_eq_true] at hf
          simp only [placesL] at h32 ⊢
          obtain ⟨e, en⟩ := out_rel p n hf.1 (by omega)
          have hl := out_len p n hf.1
          simp only [altL, List.length_nil, Nat.add_zero, List.nil_append, Nat.zero_or, widenL, en]
          have hend : ∀ i, endAt x i = true := fun i => by simp [endAt, h3]
          obtain ⟨l', rr, e2, e3⟩ := alt_rel x r n p.places [(p.widen n).1] ⟨(p.out n).first, (p.out n).last, (p.out n).preds, (p.out n).edges⟩ _ h3 hf.2 (by omega) hl (RelL.one e _) (fun q => by simp [lastI, hend, e.last])
          simp only [List.cons_append, List.nil_append] at rr e3
          exact ⟨fin rr fun q => by rw [lastL_full rr.ne (hend _)]; exact e3 q, by rw [e2]; omega⟩
      · simp only [if_neg h3]
        by_cases h4 : x.kind = 4
        · simp only [if_pos h4, timesOf] at h32 ⊢
          have hi := plain_hi h.1.1 h4
          match ps, h, hi, h32 with
          | [], _, hi, _ => have h5 := hi.2.2.2; simp at h5
          | p :: r, h, hi, h32 =>
            have hf := h.2
            simp only [formedL, Bool.and_eq_true] at hf
            have hr : r = [] := by
              have h5 := hi.2.2.2
              simp at h5; exact h5
            subst hr
            obtain ⟨k, hk⟩ : ∃ k, x.hi.toNat = k + 1 := ⟨x.hi.toNat - 1, by omega⟩
            simp only [repL, placesL, Nat.add_zero, hk] at h32 ⊢
            rw [Nat.mul_comm] at h32 ⊢
            obtain ⟨r1, r2, r3⟩ := repN_rel (x := x) (m := p.places) h4 (fun n => out_len p n hf.1) (fun n => (out_good p n hf.1).1) n k (fun n' hn' => out_rel p n' hf.1 (by omega)) h32
            refine ⟨fin r1 fun q => ?_, r2⟩
            rw [lastL_full r1.ne ?_, r3]
            rw [widenK_len]
            simp only [endAt, h4, Nat.add_sub_cancel]
            have : decide (((k + 1 : Nat) : Int) ≥ x.lo) = true := by simp; omega
            rw [this]; simp
        · simp only [if_neg h4, timesOf] at h32 ⊢
          simp only [widenK, List.nil_append]
          match ps, h, h32 with
          | [], h, _ =>
            have := h.1.1
            simp only [List.length_nil] at this
            unfold plain at this; grind
          | p :: r, h, h32 =>
            have hf := h.2
            simp only [formedL, Bool.and_eq_true] at hf
            simp only [placesL] at h32 ⊢
            obtain ⟨e, en⟩ := out_rel p n hf.1 (by omega)
            have hl := out_len p n hf.1
            simp only [seq0, widenL, en]
            have hend : ∀ i, endAt x i = false := fun i => by simp [endAt, h3, h4]
            obtain ⟨rr, e2⟩ := seq_rel x r n p.places [(p.widen n).1] (p.out n) h3 hf.2 (by omega) hl (RelL.one e _) (out_good p n hf.1).1
            simp only [List.cons_append, List.nil_append] at rr
            exact ⟨fin rr fun q => by rw [lastL_seq rr.ne hend]; exact rr.prev q, by rw [e2]; omega⟩
theorem alt_rel (x : Nd) : ∀ (ts : List T) (n m : Nat) (ws : List Wd) (s : Out) (l : Nat), x.kind = 3 → formedL ts = true → n + m + placesL ts ≤ 32 → s.preds.length = m → RelL x ws s l → (∀ q, lastI x 0 ws q = s.last.testBit q) →
    ∃ l', RelL x (ws ++ (widenL ts (n + m)).1) (altL ts n s) l' ∧ (widenL ts (n + m)).2 = n + m + placesL ts ∧ ∀ q, lastI x 0 (ws ++ (widenL ts (n + m)).1) q = (altL ts n s).last.testBit q
  | [], n, m, ws, s, l, _, _, _, _, r, hl => ⟨l, by simpa [altL, widenL] using r, by simp [widenL, placesL], by simpa [altL, widenL] using hl⟩
  | t :: ts, n, m, ws, s, l, hx, h, h32, hm, r, hl => by
    simp only [formedL, Bool.and_eq_true] at h
    simp only [placesL] at h32 ⊢
    obtain ⟨e, en⟩ := out_rel t (n + m) h.1 (by omega)
    have el := out_len t (n + m) h.1
    simp only [altL, widenL, en, hm]
    have hend : ∀ i, endAt x i = true := fun i => by simp [endAt, hx]
    obtain ⟨l', a, b, c⟩ := alt_rel x ts n (m + t.places) (ws ++ [(t.widen (n + m)).1]) _ _ hx h.2 (by omega) (by simp [hm, el]) (r.alt (l := s.last ||| (t.out (n + m)).last) hx e)
      (fun q => by rw [lastI_snoc, hl, e.last, hend, Bool.true_and, Nat.testBit_or])
    rw [List.append_assoc, List.cons_append, List.nil_append, ← Nat.add_assoc] at a
    rw [← Nat.add_assoc] at b
    rw [List.append_assoc, List.cons_append, List.nil_append, ← Nat.add_assoc] at c
    exact ⟨l', a, by omega, c⟩
theorem seq_rel (x : Nd) : ∀ (ts : List T) (n m : Nat) (ws : List Wd) (s : Out), x.kind ≠ 3 → formedL ts = true → n + m + placesL ts ≤ 32 → s.preds.length = m → RelL x ws s s.last → Good s n m →
    RelL x (ws ++ (widenL ts (n + m)).1) (seqL x ts n s) (seqL x ts n s).last ∧ (widenL ts (n + m)).2 = n + m + placesL ts
  | [], n, m, ws, s, _, _, _, _, r, _ => ⟨by simpa [seqL, widenL] using r, by simp [widenL, placesL]⟩
  | t :: ts, n, m, ws, s, hx, h, h32, hm, r, g => by
    simp only [formedL, Bool.and_eq_true] at h
    simp only [placesL] at h32 ⊢
    obtain ⟨e, en⟩ := out_rel t (n + m) h.1 (by omega)
    obtain ⟨eg, e0⟩ := out_good t (n + m) h.1
    have el := out_len t (n + m) h.1
    simp only [seqL, widenL, en, hm]
    obtain ⟨w, nd⟩ := edges_join (x := x) g.within eg.within g.once eg.once g.last eg.first
    obtain ⟨a, b⟩ := seq_rel x ts n (m + t.places) (ws ++ [(t.widen (n + m)).1]) ⟨s.first, (t.out (n + m)).last, s.preds ++ (t.out (n + m)).preds, s.edges ++ (t.out (n + m)).edges ++ joins x s.last (t.out (n + m)).first⟩ hx h.2 (by omega) (by simp [hm, el])
      (r.seq hx e (fun i hi => by have := g.last i hi; omega) (fun i hi => by have := eg.first i hi; omega)) ⟨w, nd, fun b hb => (by have := g.first b hb; omega), fun b hb => (by have := eg.last b hb; omega), g.some⟩
    rw [List.append_assoc, List.cons_append, List.nil_append, ← Nat.add_assoc] at a
    rw [← Nat.add_assoc] at b
    exact ⟨a, by omega⟩
end
end Pat

/- The document's trees without repetitions, in memory. -/
namespace Pat
open Go Lf

abbrev wideRow (x : Nd) (pl : Nat) (p1 : Option Addr) (n1 c1 : Nat) (p2 : Option Addr) (n2 c2 : Nat) (p : Option Addr) (n c : Nat) : List Value :=
  [.int .u8 x.kind, .bool x.pred.any, .int .u8 x.pred.topic, .slice p1 n1 c1, .bool x.guarded, .bool x.guard.any, .int .u8 x.guard.topic, .slice p2 n2 c2, .int .u8 x.lo, .int .u8 x.hi, .int .i64 x.size, .int .i64 (pl : Int), .slice p n c]

def Wd.parts : Wd → List Wd | .mk _ _ ps => ps
def Wd.place : Wd → Nat | .mk _ p _ => p

/-- A tree's cells: its node's, its place, and the slice of its parts. -/
inductive WR (h : H) : List Value → Wd → Prop where
  | mk {row : List Value} {x : Nd} {pl : Nat} {ps : List Wd} {p1 : Option Addr} {n1 c1 : Nat} {p2 : Option Addr} {n2 c2 : Nat} {p : Option Addr} {n c : Nat} (rows : Nat → List Value)
    (hrow : row = wideRow x pl p1 n1 c1 p2 n2 c2 p n c)
    (t1 : TestsR h p1 n1 c1 x.pred.tests) (t2 : TestsR h p2 n2 c2 x.guard.tests) (hn : n = ps.length) (hle : n ≤ c)
    (hc : ∀ i, i < n → ∃ a, p = some a ∧ ∀ (j : Nat) (v : Value), (rows i)[j]? = some v → cell h ((aidx a 0 (i : Int) 13).add j) = some v)
    (ht : ∀ (i : Nat) (t : Wd), ps[i]? = some t → WR h (rows i) t) : WR h row (.mk x pl ps)

theorem WR.mono {h h' : H} (l : Le h h') {row : List Value} {t : Wd} (r : WR h row t) : WR h' row t := by
  induction r with
  | mk rows hrow t1 t2 hn hle hc ht ih => exact .mk rows hrow (t1.mono l) (t2.mono l) hn hle (fun i hi => let ⟨a, e, f⟩ := hc i hi; ⟨a, e, fun j v hj => cell_le l (f j v hj)⟩) ih

/-- A slice of trees. -/
def WidesR (h : H) (p : Option Addr) (n c : Nat) (ts : List Wd) : Prop :=
  n = ts.length ∧ n ≤ c ∧ ∀ (i : Nat) (t : Wd), ts[i]? = some t → ∃ a row, p = some a ∧ WR h row t ∧ ∀ (j : Nat) (v : Value), row[j]? = some v → cell h ((aidx a 0 (i : Int) 13).add j) = some v

theorem WidesR.mono {h h' : H} (l : Le h h') {p : Option Addr} {n c : Nat} {ts : List Wd} (r : WidesR h p n c ts) : WidesR h' p n c ts :=
  ⟨r.1, r.2.1, fun i t hi => let ⟨a, row, e, x, f⟩ := r.2.2 i t hi; ⟨a, row, e, x.mono l, fun j v hj => cell_le l (f j v hj)⟩⟩

theorem WR.of {h : H} {x : Nd} {pl : Nat} {ps : List Wd} {p1 : Option Addr} {n1 c1 : Nat} {p2 : Option Addr} {n2 c2 : Nat} {p : Option Addr} {n c : Nat}
    (t1 : TestsR h p1 n1 c1 x.pred.tests) (t2 : TestsR h p2 n2 c2 x.guard.tests) (r : WidesR h p n c ps) : WR h (wideRow x pl p1 n1 c1 p2 n2 c2 p n c) (.mk x pl ps) := by
  obtain ⟨hn, hle, hr⟩ := r
  have hh : ∀ i : Nat, ∃ row : List Value, ∀ t, ps[i]? = some t → WR h row t ∧ ∃ a, p = some a ∧ ∀ (j : Nat) (v : Value), row[j]? = some v → cell h ((aidx a 0 (i : Int) 13).add j) = some v := fun i => by
    cases ht : ps[i]? with
    | none => exact ⟨[], fun t e => by cases e⟩
    | some t =>
      obtain ⟨a, row, e, x, f⟩ := hr i t ht
      exact ⟨row, fun t' e' => by cases e'; exact ⟨x, a, e, f⟩⟩
  refine .mk (fun i => Classical.choose (hh i)) rfl t1 t2 hn hle (fun i hi => ?_) (fun i t hi => (Classical.choose_spec (hh i) t hi).1)
  have hlt : i < ps.length := by omega
  exact (Classical.choose_spec (hh i) ps[i] (List.getElem?_eq_getElem hlt)).2

theorem WR.out {h : H} {row : List Value} {t : Wd} (r : WR h row t) : ∃ p1 n1 c1 p2 n2 c2 p n c, row = wideRow t.node t.place p1 n1 c1 p2 n2 c2 p n c ∧ TestsR h p1 n1 c1 t.node.pred.tests ∧ TestsR h p2 n2 c2 t.node.guard.tests ∧ WidesR h p n c t.parts := by
  cases r with
  | mk rows hrow t1 t2 hn hle hc ht =>
    exact ⟨_, _, _, _, _, _, _, _, _, hrow, t1, t2, hn, hle, fun i t hi => by
      have hlt : i < _ := (List.getElem?_eq_some_iff.1 hi).1
      obtain ⟨a, e, f⟩ := hc i (by rw [hn]; exact hlt)
      exact ⟨a, rows i, e, ht i t hi, f⟩⟩

/-- The cells of a tree in a slice, one by one. -/
theorem WidesR.at {h : H} {p : Option Addr} {n c : Nat} {ts : List Wd} (r : WidesR h p n c ts) {i : Nat} {t : Wd} (hi : ts[i]? = some t) {k : Int} (hk : k = (i : Int)) :
    ∃ a p1 n1 c1 p2 n2 c2 q m kk, p = some a ∧ (0 ≤ k ∧ k < (n : Int)) ∧ WR h (wideRow t.node t.place p1 n1 c1 p2 n2 c2 q m kk) t ∧
      cell h ((aidx a 0 k 13).add 0) = some (.int .u8 t.node.kind) ∧ cell h ((aidx a 0 k 13).add 1) = some (.bool t.node.pred.any) ∧ cell h ((aidx a 0 k 13).add 2) = some (.int .u8 t.node.pred.topic) ∧ cell h ((aidx a 0 k 13).add 3) = some (.slice p1 n1 c1) ∧ cell h ((aidx a 0 k 13).add 4) = some (.bool t.node.guarded) ∧ cell h ((aidx a 0 k 13).add 5) = some (.bool t.node.guard.any) ∧ cell h ((aidx a 0 k 13).add 6) = some (.int .u8 t.node.guard.topic) ∧ cell h ((aidx a 0 k 13).add 7) = some (.slice p2 n2 c2) ∧ cell h ((aidx a 0 k 13).add 8) = some (.int .u8 t.node.lo) ∧ cell h ((aidx a 0 k 13).add 9) = some (.int .u8 t.node.hi) ∧ cell h ((aidx a 0 k 13).add 10) = some (.int .i64 t.node.size) ∧ cell h ((aidx a 0 k 13).add 11) = some (.int .i64 (t.place : Int)) ∧ cell h ((aidx a 0 k 13).add 12) = some (.slice q m kk) := by
  subst hk
  obtain ⟨a, row, e, x, hc⟩ := r.2.2 i t hi
  obtain ⟨p1, n1, c1, p2, n2, c2, q, m, kk, rfl, _⟩ := x.out
  have hlt := (List.getElem?_eq_some_iff.1 hi).1
  exact ⟨a, p1, n1, c1, p2, n2, c2, q, m, kk, e, ⟨by omega, by have := r.1; omega⟩, x, hc 0 _ rfl, hc 1 _ rfl, hc 2 _ rfl, hc 3 _ rfl, hc 4 _ rfl, hc 5 _ rfl, hc 6 _ rfl, hc 7 _ rfl, hc 8 _ rfl, hc 9 _ rfl, hc 10 _ rfl, hc 11 _ rfl, hc 12 _ rfl⟩

theorem wide_len {h : H} {r : List Value} {w : Wd} (n : WR h r w) : r.length = 13 ∧ ∀ v, v ∈ r → v.oneCell = true := by
  obtain ⟨p1, n1, c1, p2, n2, c2, p, n, c, rfl, _⟩ := n.out
  refine ⟨rfl, fun v hv => ?_⟩
  simp only [List.mem_cons, List.not_mem_nil, or_false] at hv
  rcases hv with rfl | rfl | rfl | rfl | rfl | rfl | rfl | rfl | rfl | rfl | rfl | rfl | rfl <;> rfl

/-! ### Bits, and edges in order -/
def sumBits (m : Nat) : Nat → Nat
  | 0 => 0
  | n + 1 => sumBits m n + (if m.testBit n then 2 ^ n else 0)

theorem sumBits_mod (m : Nat) : ∀ n, sumBits m n = m % 2 ^ n
  | 0 => by simp [sumBits, Nat.mod_one]
  | n + 1 => by
    rw [sumBits, sumBits_mod m n, Nat.mod_pow_succ, Nat.testBit_eq_decide_div_mod_eq]
    have h2 : m / 2 ^ n % 2 < 2 := Nat.mod_lt _ (by omega)
    by_cases h : m / 2 ^ n % 2 = 1
    · simp [h]
    · have : m / 2 ^ n % 2 = 0 := by omega
      simp [this]

theorem sumBits_all {m n : Nat} (h : m < 2 ^ n) : sumBits m n = m := by rw [sumBits_mod, Nat.mod_eq_of_lt h]

def ltP (x y : Edg) : Prop := x.src < y.src ∨ x.src = y.src ∧ x.dst < y.dst

/-- Two rows that rise and have the same members are one. -/
theorem rising_unique : ∀ {a b : List Edg}, a.Pairwise ltP → b.Pairwise ltP → (∀ e, e ∈ a ↔ e ∈ b) → a = b
  | [], b, _, _, h => by
    cases b with
    | nil => rfl
    | cons y b => have := (h y).2 (by simp); simp at this
  | x :: a, [], _, _, h => by have := (h x).1 (by simp); simp at this
  | x :: a, y :: b, ha, hb, h => by
    rw [List.pairwise_cons] at ha hb
    have irr : ∀ z : Edg, ¬ ltP z z := fun z hz => by unfold ltP at hz; omega
    have asym : ∀ u v : Edg, ltP u v → ltP v u → False := fun u v h1 h2 => by unfold ltP at h1 h2; omega
    have hxy : x = y := by
      have h1 := (h x).1 (by simp)
      have h2 := (h y).2 (by simp)
      rcases List.mem_cons.1 h1 with e | h1
      · exact e
      · rcases List.mem_cons.1 h2 with e | h2
        · exact e.symm
        · exact (asym x y (ha.1 y h2) (hb.1 x h1)).elim
    subst hxy
    rw [rising_unique ha.2 hb.2 fun e => ?_]
    have he := h e
    simp only [List.mem_cons] at he
    constructor
    · intro hea
      rcases he.1 (.inr hea) with rfl | hb'
      · exact (irr e (ha.1 e hea)).elim
      · exact hb'
    · intro heb
      rcases he.2 (.inr heb) with rfl | ha'
      · exact (irr e (hb.1 e heb)).elim
      · exact ha'

/-- The document's edges: place by place. -/
def edgesTo (g : Nat → Nat → Option Nd) (f : Nat) : Nat → List Edg
  | 0 => []
  | k + 1 => edgesTo g f k ++ (match g f k with | some y => [⟨f, k, y.guarded, y.guard⟩] | none => [])
def edgesOf (g : Nat → Nat → Option Nd) (n : Nat) : Nat → List Edg
  | 0 => []
  | i + 1 => edgesOf g n i ++ edgesTo g i n

theorem mem_edgesTo {g : Nat → Nat → Option Nd} {f : Nat} {e : Edg} : ∀ {k : Nat}, e ∈ edgesTo g f k ↔ e.src = f ∧ e.dst < k ∧ ∃ y, g f e.dst = some y ∧ e.guarded = y.guarded ∧ e.guard = y.guard
  | 0 => by simp [edgesTo]
  | k + 1 => by
    rw [edgesTo, List.mem_append, mem_edgesTo (k := k)]
    constructor
    · rintro (⟨h1, h2, h3⟩ | h)
      · exact ⟨h1, by omega, h3⟩
      · cases hg : g f k with
        | none => rw [hg] at h; simp at h
        | some y =>
          rw [hg] at h
          simp only [List.mem_singleton] at h
          subst h
          exact ⟨rfl, by simp, y, hg, rfl, rfl⟩
    · rintro ⟨h1, h2, y, h3, h4, h5⟩
      by_cases hk : e.dst < k
      · exact .inl ⟨h1, hk, y, h3, h4, h5⟩
      · have : e.dst = k := by omega
        rw [this] at h3
        rw [h3]
        refine .inr ?_
        obtain ⟨s, d, gd, gu⟩ := e
        simp only at h1 h4 h5 this
        subst h1 h4 h5 this
        simp

theorem mem_edgesOf {g : Nat → Nat → Option Nd} {n : Nat} {e : Edg} : ∀ {i : Nat}, e ∈ edgesOf g n i ↔ e.src < i ∧ e.dst < n ∧ ∃ y, g e.src e.dst = some y ∧ e.guarded = y.guarded ∧ e.guard = y.guard
  | 0 => by simp [edgesOf]
  | i + 1 => by
    rw [edgesOf, List.mem_append, mem_edgesOf (i := i), mem_edgesTo]
    constructor
    · rintro (⟨h1, h2, h3⟩ | ⟨h1, h2, h3⟩)
      · exact ⟨by omega, h2, h3⟩
      · exact ⟨by omega, h2, by rw [h1]; exact h3⟩
    · rintro ⟨h1, h2, h3⟩
      by_cases hi : e.src < i
      · exact .inl ⟨hi, h2, h3⟩
      · have : e.src = i := by omega
        exact .inr ⟨this, h2, by rw [← this]; exact h3⟩

theorem edgesTo_rise (g : Nat → Nat → Option Nd) (f : Nat) : ∀ k, (edgesTo g f k).Pairwise ltP
  | 0 => by simp [edgesTo]
  | k + 1 => by
    rw [edgesTo, List.pairwise_append]
    refine ⟨edgesTo_rise g f k, ?_, fun x hx y hy => ?_⟩
    · split <;> simp
    · have h1 := mem_edgesTo.1 hx
      split at hy
      · simp only [List.mem_singleton] at hy
        subst hy
        exact .inr ⟨h1.1, h1.2.1⟩
      · simp at hy

theorem edgesOf_rise (g : Nat → Nat → Option Nd) (n : Nat) : ∀ i, (edgesOf g n i).Pairwise ltP
  | 0 => by simp [edgesOf]
  | i + 1 => by
    rw [edgesOf, List.pairwise_append]
    refine ⟨edgesOf_rise g n i, edgesTo_rise g i n, fun x hx y hy => ?_⟩
    have h1 := mem_edgesOf.1 hx
    have h2 := mem_edgesTo.1 hy
    exact .inl (by omega)

/-- The program's edges in order are the document's. -/
theorem edges_eq {t : T} {E : List Edg} (hf : t.formed = true) (h32 : t.places ≤ 32) (pm : E.Perm (t.out 0).edges) (so : ∀ (i j : Nat) (x y : Edg), i < j → E[i]? = some x → E[j]? = some y → x.src < y.src ∨ x.src = y.src ∧ x.dst ≤ y.dst) :
    E = edgesOf (t.widen 0).1.edge t.places t.places := by
  obtain ⟨r, _⟩ := out_rel t 0 hf (by omega)
  obtain ⟨gd, _⟩ := out_good t 0 hf
  have hnd : (E.map Edg.pair).Nodup := (pm.map _).nodup_iff.2 gd.once
  refine rising_unique ?_ (edgesOf_rise _ _ _) fun e => ?_
  · rw [List.pairwise_iff_getElem]
    intro i j hi hj hij
    have h1 := so i j E[i] E[j] hij (List.getElem?_eq_getElem hi) (List.getElem?_eq_getElem hj)
    unfold ltP
    have hne : ¬ (E[i].src = E[j].src ∧ E[i].dst = E[j].dst) := fun ⟨e1, e2⟩ => by
      have hp : (E.map Edg.pair)[i]? = (E.map Edg.pair)[j]? := by
        rw [List.getElem?_map, List.getElem?_map, List.getElem?_eq_getElem hi, List.getElem?_eq_getElem hj]
        simp [Edg.pair, e1, e2]
      have := (List.getElem?_inj (by rw [List.length_map]; omega) hnd).1 hp
      omega
    omega
  · rw [pm.mem_iff, mem_edgesOf]
    have uniq : ∀ {a b : Edg}, a ∈ (t.out 0).edges → b ∈ (t.out 0).edges → a.src = b.src → a.dst = b.dst → a = b := fun {a b} ha hb e1 e2 => by
      obtain ⟨i, hi, rfl⟩ := List.getElem_of_mem ha
      obtain ⟨j, hj, rfl⟩ := List.getElem_of_mem hb
      have hp : ((t.out 0).edges.map Edg.pair)[i]? = ((t.out 0).edges.map Edg.pair)[j]? := by
        rw [List.getElem?_map, List.getElem?_map, List.getElem?_eq_getElem hi, List.getElem?_eq_getElem hj]
        simp [Edg.pair, e1, e2]
      have := (List.getElem?_inj (by rw [List.length_map]; omega) gd.once).1 hp
      subst this; rfl
    constructor
    · intro he
      have hw := gd.within e he
      refine ⟨by omega, by omega, ?_⟩
      have h1 := r.edge e.src e.dst
      cases hg : (t.widen 0).1.edge e.src e.dst with
      | none => rw [hg] at h1; exact absurd ⟨rfl, rfl⟩ (h1 e he)
      | some y =>
        rw [hg] at h1
        obtain ⟨z, hz, e1, e2, e3, e4⟩ := h1
        have := uniq hz he e1 e2
        subst this
        exact ⟨y, rfl, e3, e4⟩
    · rintro ⟨h1, h2, y, h3, h4, h5⟩
      have hr := r.edge e.src e.dst
      rw [h3] at hr
      obtain ⟨z, hz, e1, e2, e3, e4⟩ := hr
      have : z = e := by
        obtain ⟨a, b, c, d⟩ := e
        obtain ⟨a', b', c', d'⟩ := z
        simp only at e1 e2 e3 e4 h4 h5
        subst e1 e2 e3 e4 h4 h5
        rfl
      rw [← this]; exact hz
end Pat

/- A slice's elements set to nothing. -/
namespace Lf
open Go
variable {P : Program}

/-- A slice whose cells may be written. -/
def Wr (h : H) (elem size : Nat) (p : Option Addr) (n : Nat) : Prop := ∀ a, p = some a → 0 < n → ∃ A c, a = ⟨A, 0, none⟩ ∧ h A = some (.cells c elem (0, 0)) ∧ n * size ≤ c.size

theorem ArrL.wr {h : H} {elem size : Nat} {p : Option Addr} {n c : Nat} {rows : List (List Value)} (a : ArrL h elem size p n c rows) : Wr h elem size p n := fun ad e _ => by
  obtain ⟨A, cc, e1, hA, hc, _⟩ := a.arr ad e
  exact ⟨A, cc, e1, hA, Nat.le_trans (Nat.mul_le_mul_right _ a.le) hc⟩

/-- Blocks of cells stay blocks of as many cells. -/
def SameSize (h h' : H) : Prop := ∀ A c e, h A = some (.cells c e (0, 0)) → ∃ c', h' A = some (.cells c' e (0, 0)) ∧ c'.size = c.size

theorem SameSize.refl (h : H) : SameSize h h := fun A c e x => ⟨c, x, rfl⟩
theorem SameSize.trans {a b c : H} (x : SameSize a b) (y : SameSize b c) : SameSize a c := fun A cc e h =>
  let ⟨c1, h1, s1⟩ := x A cc e h
  let ⟨c2, h2, s2⟩ := y A c1 e h1
  ⟨c2, h2, s2.trans s1⟩

theorem Wr.same {h h' : H} {elem size : Nat} {p : Option Addr} {n : Nat} (w : Wr h elem size p n) (s : SameSize h h') : Wr h' elem size p n := fun a e hn => by
  obtain ⟨A, c, e1, hA, hc⟩ := w a e hn
  obtain ⟨c', h1, h2⟩ := s A c elem hA
  exact ⟨A, c', e1, h1, by omega⟩

theorem RunL.clearS {T elem size ty : Nat} {h : H} {p : Option Addr} {n c : Nat} {K : Value → H → Prop} (ef : ElemFacts P T elem size) (hz : ∀ z, zeroOf P elem = some z → ∀ v, v ∈ z.cells.toList → v.oneCell = true)
    (w : Wr h elem size p n) (k : ∀ h', (∀ b, blkOf p ≠ some b → h' b = h b) → SameSize h h' → K (.tuple #[]) h') :
    RunL P (X.sem (.bi .clear #[T] ty [.slice p n c])) h K := by
  suffices hmain : RunL P (Builtin.clear_ #[T] ty #[.slice p n c]) h K by
    refine RunL.bind (RunL.bind (hmain.mono fun v h' hk => RunL.pure (RunL.pure hk)))
  unfold Builtin.clear_
  simp only [List.getElem?_toArray, List.getElem?_cons_zero]
  refine RunL.bind (RunL.under ef.hu ?_)
  obtain ⟨z, hzz, hzs⟩ := ef.hz
  cases p with
  | none => exact RunL.bind (RunL.pure (RunL.pure (k h (fun _ _ => rfl) (SameSize.refl h))))
  | some a =>
    cases n with
    | zero => exact RunL.bind (RunL.pure (RunL.pure (k h (fun _ _ => rfl) (SameSize.refl h))))
    | succ n =>
      obtain ⟨A, cc, rfl, hA, hc⟩ := w a rfl (by omega)
      refine RunL.bind (RunL.zero hzz ?_)
      have hlen : (Builtin.zeroCells z.cells (n + 1)).toList.length = (n + 1) * size := by rw [Array.length_toList, zeroCells_size, hzs]
      refine RunL.bind (RunL.storeCells _ 0 cc h _ hA (by rw [hlen]; omega) (fun v hv => ?_) fun h' c' h1 h2 _ h4 => RunL.pure (k h' (fun b hb => h4 b fun e => hb (by rw [e]; rfl)) fun A' c'' e' hA' => ?_))
      · have hv' : v ∈ Builtin.zeroCells z.cells (n + 1) := by simpa using hv
        unfold Builtin.zeroCells at hv'
        simp only [Array.mem_map, Array.mem_range] at hv'
        obtain ⟨i, hi, rfl⟩ := hv'
        have hpos : 0 < z.cells.size := Nat.pos_of_ne_zero fun h0 => by rw [h0] at hi; omega
        have hlt := Nat.mod_lt i hpos
        rw [getElem!_pos z.cells (i % z.cells.size) hlt]
        exact hz z hzz _ (by simp)
      · by_cases e : A' = A
        · subst e
          rw [hA] at hA'; cases hA'
          exact ⟨c', h1, h2⟩
        · exact ⟨c'', by rw [h4 A' e]; exact hA', rfl⟩
end Lf

