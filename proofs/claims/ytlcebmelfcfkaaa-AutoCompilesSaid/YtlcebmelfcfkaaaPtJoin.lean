/- Edges between two parts: what the program's function puts. -/
import Derived.Test.YtlcebmelfcfkaaaPtPlaces
import Derived.Test.YtlcebmelfcfkaaaPtPut
namespace Pt
open Go Go.RowKit Go.Proofs Go.Shelf Lf Pat

attribute [local go_sem] Oper.semAt_some

theorem mk_new {h : H} {M : Nat} {s : MS} {Q : List Prd} {E : List Edg} (m : Mk h M s Q E) {b : Nat} (hb : h b = none) (o : Obj) :
    Mk (hnew h b o) M s Q E ∧ Le (off h M s) (off (hnew h b o) M s) ∧ off (hnew h b o) M s b = some o := by
  have hno : b ∉ own M s := fun e => m.has b e hb
  have l : Le (off h M s) (off (hnew h b o) M s) := (le_hnew hb).offS _
  refine ⟨m.beside (fun b' hb' => ?_) l, l, ?_⟩
  · unfold hnew; rw [if_neg (fun e => hno (by rw [← e]; exact hb'))]
  · show offS (hnew h b o) (own M s) b = _
    rw [offS_out hno]; unfold hnew; rw [if_pos rfl]

theorem off_has {h : H} {M : Nat} {s : MS} {b : Nat} {o : Obj} (e : off h M s b = some o) : h b = some o ∧ b ∉ own M s := by
  refine ⟨offS_le _ _ b o e, fun hb => ?_⟩
  have e' : offS h (own M s) b = some o := e
  rw [offS_none hb] at e'; cases e'

def put1 (x : Nd) (a : Nat) (bs : List Nat) : List Edg := bs.map fun b => ⟨a, b, x.guarded, x.guard⟩
def putA (x : Nd) (fs : List Nat) (bf : Nat) : List Edg := fs.flatMap fun a => put1 x a (bitsOf bf)
theorem putA_len (x : Nd) (bf' : List Nat) (bf : Nat) : (putA x bf' bf).length ≤ bf'.length * 32 := by
  induction bf' with
  | nil => simp [putA]
  | cons a l ih =>
    simp only [putA, List.flatMap_cons, List.length_append, List.length_cons] at ih ⊢
    have : (put1 x a (bitsOf bf)).length ≤ 32 := by simp only [put1, List.length_map]; exact bitsOf_len bf
    omega
theorem joins_put (x : Nd) (al bf : Nat) : joins x al bf = putA x (bitsOf al) bf := rfl
theorem putA_snoc (x : Nd) (fs : List Nat) (a bf : Nat) : putA x (fs ++ [a]) bf = putA x fs bf ++ put1 x a (bitsOf bf) := by simp [putA]
theorem put1_snoc (x : Nd) (a : Nat) (bs : List Nat) (b : Nat) : put1 x a (bs ++ [b]) = put1 x a bs ++ [⟨a, b, x.guarded, x.guard⟩] := by simp [put1]

/-- A world that has grown, and what is seen of it. -/
structure Grown (h : H) (w : World) (M : Nat) (s : MS) (Q : List Prd) (E : List Edg) (h' : H) (W : World) : Prop where
  sub : Lf.Sub h' W
  fr : Lf.Frame h w h' W
  has : Mk h' M s Q E
  le : Le (off h M s) (off h' M s)

theorem Grown.new {h : H} {w : World} {M : Nat} {s : MS} {Q : List Prd} {E : List Edg} {h' : H} {W : World} (g : Grown h w M s Q E h' W) (o : Obj) :
    ∃ h'', Grown h w M s Q E h'' (W.alloc o) ∧ Le (off h' M s) (off h'' M s) ∧ off h'' M s W.heap.size = some o := by
  obtain ⟨m, l, e⟩ := mk_new g.has (g.sub.none_of_ge (Nat.le_refl _)) o
  exact ⟨_, ⟨g.sub.new o rfl, g.fr.trans (Lf.Frame.new o rfl ⟨rfl, rfl, rfl, Nat.le_refl _⟩), m, g.le.trans l⟩, l, e⟩

theorem base_ok {h : H} {w : World} {M : Nat} {s : MS} {Q : List Prd} {E : List Edg} (sub : Lf.Sub h w) (mk : Mk h M s Q E) (o1 o2 o3 o4 o5 : Obj) :
    ∃ h', Grown h w M s Q E h' (((((w.alloc o1).alloc o2).alloc o3).alloc o4).alloc o5) ∧ off h' M s w.heap.size = some o1 ∧ off h' M s (w.heap.size + 1) = some o2 ∧
      off h' M s (w.heap.size + 1 + 1 + 1) = some o4 ∧ off h' M s (w.heap.size + 1 + 1 + 1 + 1) = some o5 := by
  obtain ⟨h1, g1, l1, e1⟩ := Grown.new ⟨sub, Lf.Frame.refl _ _, mk, Le.refl _⟩ o1
  obtain ⟨h2, g2, l2, e2⟩ := g1.new o2
  obtain ⟨h3, g3, l3, e3⟩ := g2.new o3
  obtain ⟨h4, g4, l4, e4⟩ := g3.new o4
  obtain ⟨h5, g5, l5, e5⟩ := g4.new o5
  simp only [World.size_alloc] at e2 e4 e5
  exact ⟨h5, g5, l5 _ _ (l4 _ _ (l3 _ _ (l2 _ _ e1))), l5 _ _ (l4 _ _ (l3 _ _ e2)), l5 _ _ e4, e5⟩

/-- Edges put, behind some view. -/
theorem cast_rule {A B : Prop} (e : B = A) (a : A) : B := e ▸ a

theorem Made.at' {h h' : H} {M : Nat} {s : MS} {Q : List Prd} {E : List Edg} (m : Made h h' M s Q E) {b : Nat} {o : Obj} (e : off h M s b = some o) : h' b = some o := by
  obtain ⟨s', _, l⟩ := m
  exact (off_has (l b o e)).1

set_option maxRecDepth 100000 in
set_option maxHeartbeats 4000000 in
theorem c_joins : JoinsOk := by
  intro h M s Q E x p1 n1 c1 p2 n2 c2 af al bf bl mk t2 haf hal hbf hbl hE w sub
  refine (callsIn_wide (n := 10)).1 ?_
  show CallsIn Fence.wide 10 Go.Proofs.Try.prog 43 _ w _
  unfold ndV
  have hw1 : Fence.wide.fn 62 := trivial
  refine callsIn_of_wp_marks Go.Proofs.Try.func43 rfl trivial ?_ rfl
  simp only [Go.Proofs.Try.ntmps43, List.size_toArray, List.length_cons, List.length_nil, Nat.reduceAdd, Nat.reduceSub, Array.replicate_succ, Array.replicate_zero, List.push_toArray, List.append_toArray, List.nil_append, List.cons_append]
  gi_wp2_with (gi_at_call 62; refine (c_places Fence.wide _ trivial rfl _ _).mono ?_; rintro e w' ⟨rfl, rfl⟩)
  -- what is seen: all boxes
  obtain ⟨h5, g5, b0, b1, b3, b4⟩ := base_ok sub mk (.cells #[.pointer (some ⟨M, 0, none⟩)] 67)
    (.cells #[.int .u8 x.kind, .bool x.pred.any, .int .u8 x.pred.topic, .slice p1 n1 c1, .bool x.guarded, .bool x.guard.any, .int .u8 x.guard.topic, .slice p2 n2 c2, .int .u8 x.lo, .int .u8 x.hi, .int .i64 x.size] 51)
    (.cells #[.int .u32 (af : Int), .int .u32 (al : Int)] 71) (.cells #[.int .u32 (bf : Int), .int .u32 (bl : Int)] 71) (.cells #[.int .u32 (al : Int)] 33)
  generalize (((((w.alloc (.cells #[.pointer (some ⟨M, 0, none⟩)] 67)).alloc
    (.cells #[.int .u8 x.kind, .bool x.pred.any, .int .u8 x.pred.topic, .slice p1 n1 c1, .bool x.guarded, .bool x.guard.any, .int .u8 x.guard.topic, .slice p2 n2 c2, .int .u8 x.lo, .int .u8 x.hi, .int .i64 x.size] 51)).alloc
    (.cells #[.int .u32 (af : Int), .int .u32 (al : Int)] 71)).alloc (.cells #[.int .u32 (bf : Int), .int .u32 (bl : Int)] 71)).alloc (.cells #[.int .u32 (al : Int)] 33)) = W5 at *
  refine range_outer (m := 8) (gf := 81) (lb := #[.pointer (some ⟨w.heap.size + 1 + 1 + 1 + 1, 0, none⟩)]) (encs := fun y : Fin 32 => #[.int .i64 (y.val : Int)]) (h := h5)
    (S := fun ys => ys.map (·.val) = bitsTo al 32) (Ok := fun pre _ => pre.length < 32) (Φ := fun pre h' => Made h5 h' M s Q (E ++ putA x (pre.map (·.val)) bf))
    (Ψ := fun pre y a' ha => pre.length < 32 ∧ ∃ Bx s1, Mk ha M s1 Q (E ++ putA x (pre.map (·.val)) bf) ∧ Le (off h5 M s) (off ha M s1) ∧ off ha M s1 Bx = some (.cells #[.int .i64 (y.val : Int)] 3) ∧
      a' = { tmps := #[.pointer (some ⟨M, 0, none⟩), .agg #[.int .u8 x.kind, .bool x.pred.any, .int .u8 x.pred.topic, .slice p1 n1 c1, .bool x.guarded, .bool x.guard.any, .int .u8 x.guard.topic, .slice p2 n2 c2, .int .u8 x.lo, .int .u8 x.hi, .int .i64 x.size],
        .agg #[.int .u32 (af : Int), .int .u32 (al : Int)], .agg #[.int .u32 (bf : Int), .int .u32 (bl : Int)], .pointer (some ⟨w.heap.size, 0, none⟩), .pointer (some ⟨w.heap.size + 1, 0, none⟩), .pointer (some ⟨w.heap.size + 1 + 1, 0, none⟩), .pointer (some ⟨w.heap.size + 1 + 1 + 1, 0, none⟩),
        .pointer (some ⟨Bx, 0, none⟩), undef, .pointer (some ⟨w.heap.size + 1 + 1, 1, none⟩), .int .u32 (al : Int), .func (.func 81) #[] #[.pointer (some ⟨w.heap.size + 1 + 1 + 1 + 1, 0, none⟩)], .int .i64 (y.val : Int),
        undef, undef, undef, undef, undef, undef, undef, undef, undef, undef, undef, undef, undef, undef, undef, undef, undef, undef, undef, undef, undef, undef, undef, undef], defers := [] })
    rfl (enters_of Go.Proofs.Try.func81 (by kernel_rfl) rfl) g5.sub (fun _ => rfl) ?call ?zero ?assign ?body ?done
  case call =>
    intro l w1 J hJ hY h0
    refine c_places1 Fence.wide 9 trivial rfl (by omega) l _ al J (fun pre W hp => ?_) hY w1 h0
    obtain ⟨h', s', m'⟩ := hJ pre W hp
    exact s'.cell (cell_of (m'.at' b4))
  case zero => exact ⟨s, by simpa [putA] using g5.has, Le.refl _⟩
  case assign =>
    rintro l pre y W h' _ ok s' ⟨s1, m1, le1⟩
    gi_wp2
    obtain ⟨ha, ga, la, ea⟩ := Grown.new ⟨s', Lf.Frame.refl _ _, m1, Le.refl _⟩ (.cells #[.int .i64 (y.val : Int)] 3)
    exact ⟨ha, ga.sub, ga.fr, ok, _, s1, ga.has, le1.trans la, ea, rfl⟩
  case body =>
    rintro l pre y a' W ha sa hnl ⟨r, hr⟩ ⟨ok, Bx, s1, mk1, le1, ex, rfl⟩
    have c3 : W.cell? ⟨w.heap.size + 1 + 1 + 1, 0, none⟩ = some (.int .u32 (bf : Int)) := sa.cell (cell_of (off_has (le1 _ _ b3)).1)
    gi_wp2_with (gi_at_call 62; refine (CallsIn.inRound l (c_places Fence.wide _ trivial rfl _ _)).mono ?_; rintro e w' ⟨rfl, rfl⟩)
    obtain ⟨h6, g6, l6, e6⟩ := Grown.new ⟨sa, Lf.Frame.refl _ _, mk1, Le.refl _⟩ (.cells #[.int .u32 (bf : Int)] 33)
    have hr' : (W.alloc (.cells #[.int .u32 (bf : Int)] 33)).heap[l]? = some (.loop r) := (Below.heap_alloc W _ l (Array.getElem?_eq_some_iff.1 hr).1).trans hr
    refine range_inner (l0 := l) (r0 := r) (m := 6) (gf := 81) (lb := #[.pointer (some ⟨W.heap.size, 0, none⟩)]) (encs := fun y : Fin 32 => #[.int .i64 (y.val : Int)]) (h := h6)
      (S := fun ys => ys.map (·.val) = bitsTo bf 32) (Ok := fun pre' _ => pre'.length < 32) (Φ := fun pre' h' => Made h6 h' M s1 Q (E ++ putA x (pre.map (·.val)) bf ++ put1 x y.val (pre'.map (·.val))))
      (Ψ := fun pre' y' a' ha => pre'.length < 32 ∧ Made h6 ha M s1 Q (E ++ putA x (pre.map (·.val)) bf ++ put1 x y.val (pre'.map (·.val))) ∧
        a' = { tmps := #[.pointer (some ⟨M, 0, none⟩), .agg #[.int .u8 x.kind, .bool x.pred.any, .int .u8 x.pred.topic, .slice p1 n1 c1, .bool x.guarded, .bool x.guard.any, .int .u8 x.guard.topic, .slice p2 n2 c2, .int .u8 x.lo, .int .u8 x.hi, .int .i64 x.size],
          .agg #[.int .u32 (af : Int), .int .u32 (al : Int)], .agg #[.int .u32 (bf : Int), .int .u32 (bl : Int)], .pointer (some ⟨w.heap.size, 0, none⟩), .pointer (some ⟨w.heap.size + 1, 0, none⟩), .pointer (some ⟨w.heap.size + 1 + 1, 0, none⟩), .pointer (some ⟨w.heap.size + 1 + 1 + 1, 0, none⟩),
          .pointer (some ⟨Bx, 0, none⟩), .int .i64 (y'.val : Int), .pointer (some ⟨w.heap.size + 1 + 1, 1, none⟩), .int .u32 (al : Int), .func (.func 81) #[] #[.pointer (some ⟨w.heap.size + 1 + 1 + 1 + 1, 0, none⟩)], .int .i64 (y.val : Int),
          .pointer (some ⟨w.heap.size + 1 + 1 + 1, 0, none⟩), .int .u32 (bf : Int), .func (.func 81) #[] #[.pointer (some ⟨W.heap.size, 0, none⟩)], .int .i64 (y'.val : Int),
          undef, undef, undef, undef, undef, undef, undef, undef, undef, undef, undef, undef, undef, undef, undef, undef, undef, undef, undef, undef], defers := [] })
      hr' rfl (enters_of Go.Proofs.Try.func81 (by kernel_rfl) rfl) g6.sub (fun _ => rfl) ?call2 ?zero2 ?assign2 ?body2 ?done2
    case call2 =>
      intro l2 w1 J hJ hY h0
      refine c_places1 Fence.wide 7 trivial rfl (by omega) l2 _ bf J (fun pre W hp => ?_) hY w1 h0
      obtain ⟨h', s', m'⟩ := hJ pre W hp
      exact s'.cell (cell_of (m'.at' e6))
    case zero2 => exact ⟨s1, by simpa [put1] using g6.has, Le.refl _⟩
    case assign2 =>
      rintro l2 pre' y' W2 h' _ ok2 s' m'
      gi_wp2
      exact ⟨h', s', Lf.Frame.refl _ _, by rw [← List.append_assoc]; exact m'⟩
    case body2 =>
      rintro l2 pre' y' a' W2 hb sb _ _ ⟨ok2, ⟨s2, mk2, le2⟩, rfl⟩
      have x0 := off_has (le2 _ _ (l6 _ _ (le1 _ _ b0)))
      have x1 := off_has (le2 _ _ (l6 _ _ (le1 _ _ b1)))
      have x2 := off_has (le2 _ _ (l6 _ _ ex))
      have len1 : (E ++ putA x (pre.map (·.val)) bf ++ put1 x y.val (pre'.map (·.val))).length < 2 ^ 35 + 5000 := by
        have q1 := putA_len x (pre.map (·.val)) bf
        have q2 : (put1 x y.val (pre'.map (·.val))).length = pre'.length := by simp [put1]
        simp only [List.length_append, List.length_map] at q1 ⊢; omega
      have key := put_ok (fr := y.val) (to := y'.val) mk2 ⟨x0.1, x1.1⟩ x2.1 x0.2 x1.2 x2.2 (t2.mono ((g5.le.trans le1).trans (l6.trans le2))) y.isLt y'.isLt len1
      refine wpIn_block (wpIn_mono (drawSome_in (h0 := hb) (W0 := W2) (pr := ⟨[], [], 38⟩) (β := fun _ => 0) (K := fun _ _ => True) (j0 := 20) (k := 66)
        (σ := { env := [(4, .addr ⟨w.heap.size, 0, none⟩ 0), (5, .addr ⟨w.heap.size + 1, 0, none⟩ 0), (8, .addr ⟨Bx, 0, none⟩ 0), (9, .int .i64 (y'.val : Int))], boxes := [], heap := hb })
        (Kt := fun σ' => Made hb σ'.heap M s2 Q (E ++ putA x (pre.map (·.val)) bf ++ put1 x y.val (pre'.map (·.val)) ++ [⟨y.val, y'.val, x.guarded, x.guard⟩]))
        mixed ?nodef (by kernel_rfl) (offS_le hb ((blkOf s2.pe).toList)) (cast_rule (by kernel_rfl) key) ?sim) ?post)
      case nodef => exact noDefer_spec (by kernel_rfl)
      case sim =>
        exact { env := fun t ht => by
                  have : t = 4 ∨ t = 5 ∨ t = 8 ∨ t = 9 := by
                    refine Decidable.byContradiction fun hn => ?_
                    simp only [not_or] at hn
                    obtain ⟨q4, q5, q8, q9⟩ := hn
                    simp only [getEnv, beq_iff_eq] at ht
                    rw [if_neg (fun e => q4 e.symm), if_neg (fun e => q5 e.symm), if_neg (fun e => q8 e.symm), if_neg (fun e => q9 e.symm)] at ht
                    cases ht
                  rcases this with rfl | rfl | rfl | rfl <;> rfl
                size := rfl, defers := rfl, sub := sb, frame := Lf.Frame.refl _ _, box := (fun i x hx => by cases hx), inj := (fun i j x y hx => by cases hx) }
      case post =>
        rintro e a3 W3 ⟨rfl, σ', β', sm, _, s3, m3, l3⟩
        exact ⟨rfl, σ'.heap, sm.sub, sm.frame, s3, by rw [List.map_append, List.map_cons, List.map_nil, put1_snoc, ← List.append_assoc]; exact m3, le2.trans l3⟩
    case done2 =>
      rintro ys W2 h' s' fr' hS ⟨s2, m2, le2⟩
      refine ⟨rfl, h', s', g6.fr.trans fr', s2, ?_, (le1.trans l6).trans le2⟩
      rw [hS, bitsTo_all, List.append_assoc] at m2
      rw [List.map_append, List.map_cons, List.map_nil, putA_snoc]; exact m2
  case done =>
    intro D ys W h' s' fr' hD hDn hk hS m'
    refine ⟨by simp, .inl ⟨_, _, rfl, run_takeDeferred hk, ?_⟩⟩
    obtain ⟨s1, m1, le1⟩ := m'
    refine ⟨_, results_none rfl _ _ _, _, h', rfl, s'.put_hidden hDn _, ?_, rfl, s1, ?_, g5.le.trans le1⟩
    · have fr := g5.fr.trans fr'
      exact ⟨by simpa using fr.size, fun b hb hbn => let ⟨k1, k2⟩ := fr.keep b hb hbn; ⟨k1, (World.putObj_heap_other (by have := g5.fr.size; omega)).trans k2⟩, fr.out.trans (out_put _ _ _)⟩
    · rw [joins_put, ← bitsTo_all, ← hS]; exact m1
end Pt

