/- The places and edges of a pattern: what the program's functions make. -/
import Derived.Test.YtlcebmelfcfkaaaPtMaker
namespace Pt
open Go Lf Pat

theorem shl32 {n : Nat} (h : n < 32) : iopF .shl .u32 1 (n : Int) = ((2 ^ n : Nat) : Int) := shl_u32 h

theorem Made.trans {h h' h'' : H} {M : Nat} {s : MS} {Q Q' : List Prd} {E E' : List Edg} (a : Made h h' M s Q E)
    (b : ∀ s', Mk h' M s' Q E → Le (off h M s) (off h' M s') → Made h' h'' M s' Q' E') : Made h h'' M s Q' E' := by
  obtain ⟨s', m, l⟩ := a
  obtain ⟨s'', m', l'⟩ := b s' m l
  exact ⟨s'', m', l.trans l'⟩

/-- What a node's pattern makes. -/
def MakesOk (f : Nat) : Prop := ∀ (l : List Nd) (t : T) {h : H} {M : Nat} {s : MS} {Q : List Prd} {E : List Edg} {p : Option Addr} {n c : Nat}, tree f l = some t → t.formed = true →
  Q.length + t.places ≤ 32 → E.length + 1024 * t.places < 2 ^ 34 → Mk h M s Q E → NodesR (off h M s) p n c l → n < 2 ^ 35 →
  Spec P n_auto_maker_makes #[.pointer (some ⟨M, 0, none⟩), .slice p n c] h fun v h' =>
    v = .agg #[.int .u32 ((t.out Q.length).first : Int), .int .u32 ((t.out Q.length).last : Int)] ∧ Made h h' M s (Q ++ (t.out Q.length).preds) (E ++ (t.out Q.length).edges)

theorem c_repeats (hj : JoinsOk) {f : Nat} (hm : MakesOk f) {x : Nd} {t : T} {l : List Nd} {h : H} {M : Nat} {s : MS} {Q : List Prd} {E : List Edg} {p1 : Option Addr} {n1 c1 : Nat} {p2 : Option Addr} {n2 c2 : Nat} {p : Option Addr} {n c : Nat}
    (ht : tree f l = some t) (hf : t.formed = true) (hx : 1 ≤ x.lo ∧ x.lo ≤ x.hi ∧ x.hi ≤ 8) (hQ : Q.length + x.hi.toNat * t.places ≤ 32) (hE : E.length + 1024 * (x.hi.toNat * t.places) < 2 ^ 34) (m : Mk h M s Q E)
    (nr : NodesR (off h M s) p n c l) (hn : n < 2 ^ 35) (t2 : TestsR (off h M s) p2 n2 c2 x.guard.tests) :
    Spec P n_auto_maker_repeats #[.pointer (some ⟨M, 0, none⟩), ndV x p1 n1 c1 p2 n2 c2, .slice p n c] h fun v h' =>
      v = .agg #[.int .u32 ((repN x t.out Q.length x.hi.toNat).1.first : Int), .int .u32 ((repN x t.out Q.length x.hi.toNat).1.last : Int)] ∧
        Made h h' M s (Q ++ (repN x t.out Q.length x.hi.toNat).1.preds) (E ++ (repN x t.out Q.length x.hi.toNat).1.edges) := by
  apply s_auto_maker_repeats
  unfold f_auto_maker_repeats
  have wlo : IntKind.i64.wrap x.lo = x.lo := wrap_i64_of (by omega) (by omega)
  have whi : IntKind.i64.wrap x.hi = ((x.hi.toNat : Nat) : Int) := by rw [wrap_i64_of (by omega) (by omega)]; omega
  have hlen : ∀ k, (repN x t.out Q.length k).1.preds.length = k * t.places := fun k => repN_len (fun n => out_len t n hf) _ k
  have hpp := places_pos t hf
  refine ⟨fun kk L h' => ∃ i : Nat, L = [.int .i64 ((i + 1 : Nat) : Int), .agg #[.int .u32 ((repN x t.out Q.length i).2.1 : Int), .int .u32 ((repN x t.out Q.length i).2.2 : Int)], .agg #[.int .u32 ((repN x t.out Q.length i).1.first : Int), .int .u32 ((repN x t.out Q.length i).1.last : Int)]] ∧
      kk + i = x.hi.toNat ∧ Made h h' M s (Q ++ (repN x t.out Q.length i).1.preds) (E ++ (repN x t.out Q.length i).1.edges),
    ⟨x.hi.toNat, 0, rfl, rfl, s, by simpa [repN] using m, Le.refl _⟩, ?_⟩
  rintro kk x22 x23 x24 x25 x26 h27 ⟨i, e, hk, s', m', le⟩
  simp only [List.cons.injEq, Value.int.injEq, Value.agg.injEq, Array.mk.injEq, true_and, and_true] at e
  obtain ⟨rfl, ⟨rfl, rfl⟩, rfl, rfl⟩ := e
  rw [wlo, whi]
  refine ⟨fun hi => ?_, fun hi => ?_⟩
  · simp only [decide_eq_true_eq] at hi
    have hi' : i + 1 ≤ x.hi.toNat := by omega
    have hmul : (i + 1) * t.places ≤ x.hi.toNat * t.places := Nat.mul_le_mul_right _ hi'
    have hmul2 : (i + 1) * t.places = i * t.places + t.places := by rw [Nat.add_mul, Nat.one_mul]
    have hQl : (Q ++ (repN x t.out Q.length i).1.preds).length = Q.length + i * t.places := by rw [List.length_append, hlen]
    have hEl : (repN x t.out Q.length i).1.edges.length ≤ 1024 * (i * t.places) := by
      cases i with
      | zero => simp [repN]
      | succ j => have := (repN_fine (x := x) (m := t.places) (fun n => out_len t n hf) (fun n => out_fine t n hf) Q.length j).1.few; omega
    have hEb : (E ++ (repN x t.out Q.length i).1.edges).length + 1024 * t.places < 2 ^ 34 := by
      rw [List.length_append]
      have : 1024 * ((i + 1) * t.places) ≤ 1024 * (x.hi.toNat * t.places) := Nat.mul_le_mul_left _ hmul
      omega
    refine (hm l t ht hf (by omega) hEb m' (nr.mono le) hn).mono fun v h29 hA => ?_
    obtain ⟨ev, s2, m2, l2⟩ := hA
    rw [hQl] at ev m2
    rw [List.append_assoc, List.append_assoc] at m2
    have ef := out_fine t (Q.length + i * t.places) hf
    have ebound : Q.length + i * t.places + t.places ≤ 32 := by omega
    have hef : (t.out (Q.length + i * t.places)).first < 2 ^ 32 := pow_up ef.first ebound
    have hel : (t.out (Q.length + i * t.places)).last < 2 ^ 32 := pow_up ef.last ebound
    have hnow : (repN x t.out Q.length i).2.1 < 2 ^ 32 ∧ (repN x t.out Q.length i).2.2 < 2 ^ 32 ∧ (repN x t.out Q.length i).1.last < 2 ^ 32 := by
      cases i with
      | zero => simp [repN]
      | succ j =>
        obtain ⟨g1, g2, g3⟩ := repN_fine (x := x) (m := t.places) (fun n => out_len t n hf) (fun n => out_fine t n hf) Q.length j
        exact ⟨pow_up g2 (by omega), pow_up g3 (by omega), pow_up g1.last (by omega)⟩
    refine ⟨_, _, ev, ?_⟩
    -- behind the first copy edges are put
    refine ⟨fun L h' => L = [.agg #[.int .u32 (((if i = 0 then (t.out (Q.length + i * t.places)).first else (repN x t.out Q.length i).1.first) : Nat) : Int), .int .u32 ((repN x t.out Q.length i).1.last : Int)]] ∧
        Made h h' M s (Q ++ (repN x t.out Q.length (i + 1)).1.preds) (E ++ (repN x t.out Q.length (i + 1)).1.edges), ⟨fun e1 => ?_, fun e1 => ?_⟩, ?_⟩
    · simp only [decide_eq_true_eq] at e1
      have : i = 0 := by omega
      subst this
      refine ⟨by simp, s2, ?_, le.trans l2⟩
      simpa [repN] using m2
    · simp only [decide_eq_false_iff_not] at e1
      have hi0 : ¬ i = 0 := by omega
      have hE2 : (E ++ ((repN x t.out Q.length i).1.edges ++ (t.out (Q.length + i * t.places)).edges)).length < 2 ^ 35 := by
        simp only [List.length_append]
        have := ef.few
        simp only [List.length_append] at hEb
        omega
      refine (hj m2 (t2.mono (le.trans l2)) hnow.1 hnow.2.1 hef hel hE2).mono fun v h34 hB => ?_
      obtain ⟨ev, s3, m3, l3⟩ := hB
      refine ⟨ev, by rw [if_neg hi0], s3, ?_, (le.trans l2).trans l3⟩
      simp only [repN, hlen, if_neg hi0]
      simpa [List.append_assoc] using m3
    rintro x35 x36 h37 ⟨e, s4, m4, l4⟩
    simp only [List.cons.injEq, Value.int.injEq, Value.agg.injEq, Array.mk.injEq, and_true, true_and] at e
    obtain ⟨rfl, rfl⟩ := e
    have fin : ∀ lst : Nat, lst = (repN x t.out Q.length (i + 1)).1.last → ∃ j, j < kk ∧ ∃ i' : Nat, [Value.int .i64 (IntKind.i64.wrap (((i + 1 : Nat) : Int) + 1)), .agg #[.int .u32 ((t.out (Q.length + i * t.places)).first : Int), .int .u32 ((t.out (Q.length + i * t.places)).last : Int)],
        .agg #[.int .u32 (((if i = 0 then (t.out (Q.length + i * t.places)).first else (repN x t.out Q.length i).1.first) : Nat) : Int), .int .u32 (lst : Int)]] =
        [.int .i64 ((i' + 1 : Nat) : Int), .agg #[.int .u32 ((repN x t.out Q.length i').2.1 : Int), .int .u32 ((repN x t.out Q.length i').2.2 : Int)], .agg #[.int .u32 ((repN x t.out Q.length i').1.first : Int), .int .u32 ((repN x t.out Q.length i').1.last : Int)]] ∧
        j + i' = x.hi.toNat ∧ Made h h37 M s (Q ++ (repN x t.out Q.length i').1.preds) (E ++ (repN x t.out Q.length i').1.edges) := by
      intro lst hl
      refine ⟨kk - 1, by omega, i + 1, ?_, by omega, s4, m4, l4⟩
      rw [hl, wrap_succ (by omega)]
      simp only [repN, hlen]
    refine ⟨fun L h' => h' = h37 ∧ ∃ lst : Nat, lst = (repN x t.out Q.length (i + 1)).1.last ∧ L = [.agg #[.int .u32 (((if i = 0 then (t.out (Q.length + i * t.places)).first else (repN x t.out Q.length i).1.first) : Nat) : Int), .int .u32 (lst : Int)]], ⟨fun e1 => ?_, fun e1 => ?_⟩, ?_⟩
    · simp only [decide_eq_true_eq] at e1
      refine ⟨rfl, (repN x t.out Q.length i).1.last ||| (t.out (Q.length + i * t.places)).last, ?_, by rw [or_u32 hnow.2.2 hel]⟩
      simp only [repN, hlen]
      rw [if_pos (by simpa using e1)]
    · simp only [decide_eq_false_iff_not] at e1
      refine ⟨rfl, (repN x t.out Q.length i).1.last, ?_, rfl⟩
      simp only [repN]
      rw [if_neg (by simpa using e1)]
    rintro x39 x40 h41 ⟨rfl, lst, hl, e⟩
    simp only [List.cons.injEq, Value.int.injEq, Value.agg.injEq, Array.mk.injEq, and_true, true_and] at e
    obtain ⟨rfl, rfl⟩ := e
    exact fin lst hl
  · simp only [decide_eq_false_iff_not] at hi
    have : i = x.hi.toNat := by omega
    subst this
    exact ⟨rfl, s', m', le⟩

theorem c_makes (hj : JoinsOk) : ∀ f : Nat, MakesOk f
  | 0 => fun l t {h M s Q E p n c} ht => by simp [tree] at ht
  | f + 1 => fun l t {h M s Q E p n c} ht hF hQ hE m nr hn => by
    have ih := c_makes hj f
    apply s_auto_maker_makes
    unfold f_auto_maker_makes
    have hl := nr.1
    obtain ⟨x, xs, hlx, hsz, hnode, hm⟩ := tree_parts ht
    have hx0 : l[0]? = some x := by rw [hlx]; rfl
    have wl := offS_le h (own M s)
    obtain ⟨a, p1, n1, c1, p2, n2, c2, e1, hb, t1, t2, d0, d1, d2, d3, d4, d5, d6, d7, d8, d9, d10⟩ := nr.at hx0 rfl
    cases t with
    | mk y ps =>
    simp only [T.node] at hnode
    subst hnode
    simp only [T.parts] at hm
    refine ⟨a, e1, hb, _, cell_le wl d0, _, cell_le wl d1, _, cell_le wl d2, _, _, _, cell_le wl d3, _, cell_le wl d4, _, cell_le wl d5, _, cell_le wl d6, _, _, _, cell_le wl d7, _, cell_le wl d8, _, cell_le wl d9, _, cell_le wl d10, ?_⟩
    refine ((c_tree_Parts nr hn).besideS m.has).mono fun v h21 hA => ?_
    obtain ⟨⟨l21, q, mm, k, ev, pr⟩, same⟩ := hA
    have m21 := m.beside same l21
    refine ⟨_, _, _, ev, ?_⟩
    have hml := mapM_length hm
    have hm1 := pr.1
    have hpl := parts_len l
    have hform := hF
    simp only [T.formed, Bool.and_eq_true, decide_eq_true_eq] at hF
    have wl21 := offS_le h21 (own M s)
    have hfine := out_fine (.mk y ps) Q.length hform
    have hplaces := places_pos _ hform
    refine ⟨fun k1 => ?_, fun k1 => ⟨fun k3 => ?_, fun k3 => ⟨fun k4 => ?_, fun k4 => ?_⟩⟩⟩
    · -- one
      simp only [decide_eq_true_eq] at k1
      have hpl1 : (T.mk y ps).places = 1 := by simp only [T.places, if_pos k1]
      obtain ⟨ff, ll, hM⟩ := m21.hM
      obtain ⟨r1, a1, nn1, x1⟩ := m21.prs
      have hnp := m21.np
      refine ⟨_, rfl, _, _, _, by rw [add_mk, cell_of hM]; rfl, _, rfl, _, _, _, by rw [add_mk, cell_of hM]; rfl, fun n33 hn33 h34 e34 => ⟨e34 ▸ le_hnew hn33, ?_⟩⟩
      refine RunL.append1 (cs := [.bool y.pred.any, .int .u8 y.pred.topic, .slice p1 n1 c1]) ef_api_Pred (by omega) a1 rfl (fun v hv => ?_) (fun h36 p' cap' ar ka fr => ⟨_, _, _, rfl, _, rfl, ?_⟩) n33 hn33 h34 e34
      · simp only [List.mem_cons, List.not_mem_nil, or_false] at hv
        rcases hv with rfl | rfl | rfl <;> rfl
      rw [add_mk, Nat.zero_add]
      obtain ⟨is1, m41, l41⟩ := m21.pushP (q := y.pred) nn1 x1 ar ka fr ⟨_, _, _, rfl, t1.mono l21⟩
      refine ⟨is1, fun h41 e41 => ⟨by simp, by simp, ?_, ?_⟩⟩
      · rw [hnp, shl_u32 (by omega)]
        simp only [T.out, if_pos k1]
      · rw [e41]
        refine ⟨_, ?_, l21.trans l41⟩
        simpa only [T.out, if_pos k1, List.append_nil] using m41
    · -- one of some
      simp only [decide_eq_false_iff_not] at k1
      simp only [decide_eq_true_eq] at k3
      have hpl3 : (T.mk y ps).places = placesL ps := by simp only [T.places, if_neg k1]; rw [if_neg (by omega)]
      have hout : (T.mk y ps).out Q.length = altL ps Q.length ⟨0, 0, [], []⟩ := by simp only [T.out, if_neg k1, if_pos k3]
      have hpos : ∀ i, 0 < i → i ≤ ps.length → Fine (altL (ps.take i) Q.length ⟨0, 0, [], []⟩) Q.length (placesL (ps.take i)) := fun i h0 hi => by
        match ps, hF with
        | [], _ => simp at hi; omega
        | u :: us, hF =>
          obtain ⟨i, rfl⟩ : ∃ j, i = j + 1 := ⟨i - 1, by omega⟩
          have hf := hF.2
          simp only [formedL, Bool.and_eq_true] at hf
          have hft : formedL (us.take i) = true := by
            rw [formedL_all, List.all_eq_true] at hf ⊢
            exact fun z hz => hf.2 z (List.mem_of_mem_take hz)
          have e := out_fine u Q.length hf.1
          simp only [List.take_succ_cons, altL, List.length_nil, Nat.add_zero, List.nil_append, Nat.zero_or, placesL]
          exact altL_fine (us.take i) Q.length u.places _ hft (out_len u _ hf.1) ⟨e.few, e.first, e.last⟩
      have hlen : ∀ i, (altL (ps.take i) Q.length ⟨0, 0, [], []⟩).preds.length = placesL (ps.take i) := fun i => by
        have hft : formedL (ps.take i) = true := by
          have := hF.2
          rw [formedL_all, List.all_eq_true] at this ⊢
          exact fun z hz => this z (List.mem_of_mem_take hz)
        rw [altL_len _ _ _ hft]; simp
      rw [hout]
      refine ⟨fun kk L h' => ∃ i : Nat, L = [.int .i64 i, .agg #[.int .u32 ((altL (ps.take i) Q.length ⟨0, 0, [], []⟩).first : Int), .int .u32 ((altL (ps.take i) Q.length ⟨0, 0, [], []⟩).last : Int)]] ∧ kk + i = mm ∧
          ∃ s', Mk h' M s' (Q ++ (altL (ps.take i) Q.length ⟨0, 0, [], []⟩).preds) (E ++ (altL (ps.take i) Q.length ⟨0, 0, [], []⟩).edges) ∧ Le (off h21 M s) (off h' M s'), ⟨mm, 0, rfl, rfl, s, by simpa [altL] using m21, Le.refl _⟩, ?_⟩
      rintro kk x45 x46 x47 h48 ⟨i, e, hk, s', m', le⟩
      simp only [List.cons.injEq, Value.int.injEq, Value.agg.injEq, Array.mk.injEq, true_and, and_true] at e
      obtain ⟨rfl, rfl, rfl⟩ := e
      refine ⟨fun hi => ?_, fun hi => ?_⟩
      · simp only [decide_eq_true_eq] at hi
        obtain ⟨u, hu, _⟩ := get_lt (l := parts l) (i := i) (by omega)
        obtain ⟨t', ht', hg⟩ := mapM_get hm i u hu
        obtain ⟨a, q', m1, k1', e1, hb, c0, nr'⟩ := (PartsR.mono le pr).at hu rfl
        refine ⟨a, e1, hb, _, _, _, cell_le (offS_le _ _) c0, ?_⟩
        have hf' := formedL_get hF.2 ht'
        have htk := placesL_take ht'
        have htl := placesL_take_le ps (i + 1)
        have hlt := (parts_shorter (List.mem_of_getElem? hu)).2
        have hfew : (altL (ps.take i) Q.length ⟨0, 0, [], []⟩).edges.length ≤ 1024 * placesL (ps.take i) := by
          cases i with
          | zero => simp [altL]
          | succ j => have := (hpos (j + 1) (by omega) (by omega)).few; omega
        have hbits : (altL (ps.take i) Q.length ⟨0, 0, [], []⟩).first < 2 ^ 32 ∧ (altL (ps.take i) Q.length ⟨0, 0, [], []⟩).last < 2 ^ 32 := by
          cases i with
          | zero => simp [altL]
          | succ j =>
            have := hpos (j + 1) (by omega) (by omega)
            exact ⟨pow_up this.first (by omega), pow_up this.last (by omega)⟩
        refine (ih u t' hg hf' (by rw [List.length_append, hlen]; omega) (by rw [List.length_append]; omega) m' nr' (by have := nr'.1; omega)).mono fun v h54 hA => ?_
        obtain ⟨ev, s2, m2, l2⟩ := hA
        rw [List.length_append] at ev m2
        have ef := out_fine t' (Q.length + (altL (ps.take i) Q.length ⟨0, 0, [], []⟩).preds.length) hf'
        have hb2 : Q.length + (altL (ps.take i) Q.length ⟨0, 0, [], []⟩).preds.length + t'.places ≤ 32 := by rw [hlen]; omega
        refine ⟨_, _, ev, kk - 1, by omega, i + 1, ?_, by omega, s2, ?_, le.trans l2⟩
        · rw [wrap_succ (by omega), altL_take ht', or_u32 hbits.1 (pow_up ef.first hb2), or_u32 hbits.2 (pow_up ef.last hb2)]
        · rw [altL_take ht']
          simpa [List.append_assoc] using m2
      · simp only [decide_eq_false_iff_not] at hi
        have : i = ps.length := by omega
        subst this
        rw [List.take_of_length_le (Nat.le_refl _)] at m' ⊢
        exact ⟨rfl, s', m', l21.trans le⟩
    · -- so many copies
      simp only [decide_eq_false_iff_not] at k1 k3
      simp only [decide_eq_true_eq] at k4
      have hi := plain_hi hF.1.1 k4
      match ps, hm, hF, hQ, hE, hml, hi with
      | [], _, _, _, _, _, hi => have h5 := hi.2.2.2; simp at h5
      | u :: us, hm, hF, hQ, hE, hml, hi =>
        have hf := hF.2
        simp only [formedL, Bool.and_eq_true] at hf
        have hus : us = [] := by have h5 := hi.2.2.2; simp at h5; exact h5
        subst hus
        obtain ⟨w, hw, _⟩ := get_lt (l := parts l) (i := 0) (by simp at hml; omega)
        obtain ⟨t', ht', hg⟩ := mapM_get hm 0 w hw
        simp only [List.getElem?_cons_zero, Option.some.injEq] at ht'
        subst ht'
        obtain ⟨a, q', m1, k1', e1, hb, c0, nr'⟩ := pr.at hw (k := 0) rfl
        refine ⟨a, e1, hb, _, _, _, cell_le wl21 c0, ?_⟩
        have hpl4 : (T.mk y [u]).places = y.hi.toNat * u.places := by simp only [T.places, if_neg k1, if_pos k4, placesL, Nat.add_zero]; exact Nat.mul_comm _ _
        rw [hpl4] at hQ hE
        have hlt := (parts_shorter (List.mem_of_getElem? hw)).2
        refine (c_repeats hj ih (x := y) hg hf.1 ⟨hi.1, hi.2.1, hi.2.2.1⟩ hQ hE m21 nr' (by have := nr'.1; omega) (t2.mono l21)).mono fun v h62 hA => ?_
        obtain ⟨ev, s2, m2, l2⟩ := hA
        have hout : (T.mk y [u]).out Q.length = (repN y u.out Q.length y.hi.toNat).1 := by simp only [T.out, if_neg k1, if_neg k3, if_pos k4, repL]
        rw [hout]
        exact ⟨_, _, ev, rfl, s2, m2, l21.trans l2⟩
    · -- one behind the other
      simp only [decide_eq_false_iff_not] at k1 k3 k4
      have hpl2 : (T.mk y ps).places = placesL ps := by simp only [T.places, if_neg k1, if_neg k4]
      have hout : (T.mk y ps).out Q.length = seq0 y ps Q.length := by simp only [T.out, if_neg k1, if_neg k3, if_neg k4]
      rw [hout]
      match ps, hm, hF, hQ, hE, hml, hpl2 with
      | [], _, hF, _, _, _, _ =>
        have := hF.1.1
        simp only [List.length_nil] at this
        exfalso
        unfold plain at this; grind
      | u :: us, hm, hF, hQ, hE, hml, hpl2 =>
        have hf := hF.2
        simp only [formedL, Bool.and_eq_true] at hf
        rw [hpl2] at hQ hE
        simp only [placesL] at hQ hE
        simp only [List.length_cons] at hml
        obtain ⟨w, hw, _⟩ := get_lt (l := parts l) (i := 0) (by omega)
        obtain ⟨t', ht', hg⟩ := mapM_get hm 0 w hw
        simp only [List.getElem?_cons_zero, Option.some.injEq] at ht'
        subst ht'
        obtain ⟨a, q', m1, k1', e1, hb, c0, nr'⟩ := pr.at hw (k := 0) rfl
        refine ⟨a, e1, hb, _, _, _, cell_le wl21 c0, ?_⟩
        have hlt := (parts_shorter (List.mem_of_getElem? hw)).2
        have hu1 := out_len u Q.length hf.1
        refine (ih w u hg hf.1 (by omega) (by omega) m21 nr' (by have := nr'.1; omega)).mono fun v h70 hA => ?_
        obtain ⟨ev, s2, m2, l2⟩ := hA
        refine ⟨_, _, ev, by omega, ?_⟩
        have hsl : ∀ i, formedL (us.take i) = true := fun i => by
          have := hf.2
          rw [formedL_all, List.all_eq_true] at this ⊢
          exact fun z hz => this z (List.mem_of_mem_take hz)
        have hlen : ∀ i, (seqL y (us.take i) Q.length (u.out Q.length)).preds.length = u.places + placesL (us.take i) := fun i => by rw [seqL_len y _ _ _ (hsl i), hu1]
        have hfi : ∀ i, Fine (seqL y (us.take i) Q.length (u.out Q.length)) Q.length (u.places + placesL (us.take i)) := fun i => seqL_fine y _ _ _ _ (hsl i) hu1 (out_fine u _ hf.1)
        have hfs : (seqL y us Q.length (u.out Q.length)).first = (u.out Q.length).first := by
          have : ∀ (ts : List T) (s : Out), (seqL y ts Q.length s).first = s.first := fun ts => by
            induction ts with
            | nil => intro s; simp [seqL]
            | cons z zs ih => intro s; simp only [seqL]; rw [ih]
          exact this us _
        have hfst : ∀ i, (seqL y (us.take i) Q.length (u.out Q.length)).first = (u.out Q.length).first := fun i => by
          have : ∀ (ts : List T) (s : Out), (seqL y ts Q.length s).first = s.first := fun ts => by
            induction ts with
            | nil => intro s; simp [seqL]
            | cons z zs ih => intro s; simp only [seqL]; rw [ih]
          exact this _ _
        have hto : Int.toNat 1 = 1 := rfl
        simp only [hto]
        refine ⟨fun kk L h' => ∃ i : Nat, L = [.int .i64 i, .agg #[.int .u32 ((seqL y (us.take i) Q.length (u.out Q.length)).first : Int), .int .u32 ((seqL y (us.take i) Q.length (u.out Q.length)).last : Int)]] ∧ kk + i = mm - 1 ∧
            ∃ s', Mk h' M s' (Q ++ (seqL y (us.take i) Q.length (u.out Q.length)).preds) (E ++ (seqL y (us.take i) Q.length (u.out Q.length)).edges) ∧ Le (off h21 M s) (off h' M s'), ⟨mm - 1, 0, rfl, rfl, s2, by simpa [seqL] using m2, l2⟩, ?_⟩
        rintro kk x76 x77 x78 h79 ⟨i, e, hk, s', m', le⟩
        simp only [List.cons.injEq, Value.int.injEq, Value.agg.injEq, Array.mk.injEq, true_and, and_true] at e
        obtain ⟨rfl, rfl, rfl⟩ := e
        refine ⟨fun hi => ?_, fun hi => ?_⟩
        · simp only [decide_eq_true_eq] at hi
          obtain ⟨w', hw', _⟩ := get_lt (l := parts l) (i := i + 1) (by omega)
          obtain ⟨t', ht', hg'⟩ := mapM_get hm (i + 1) w' hw'
          simp only [List.getElem?_cons_succ] at ht'
          obtain ⟨a, q', m1, k1', e1', hb', c0', nr''⟩ := (PartsR.mono le pr).at hw' (k := ((i + 1 : Nat) : Int)) rfl
          refine ⟨_, sliceP_at e1' (by have := pr.2.1; omega), ⟨by omega, by omega⟩, q', m1, k1', ?_, ?_⟩
          · have := aidx_shift a 1 i 1 0
            rw [Nat.one_mul] at this ⊢
            rw [this, Nat.add_comm 1 i]
            exact cell_le (offS_le _ _) c0'
          have hf' := formedL_get hf.2 ht'
          have htk := placesL_take ht'
          have htl := placesL_take_le us (i + 1)
          have hlt' := (parts_shorter (List.mem_of_getElem? hw')).2
          have hfew := (hfi i).few
          refine (ih w' t' hg' hf' (by rw [List.length_append, hlen]; omega) (by rw [List.length_append]; omega) m' nr'' (by have := nr''.1; omega)).mono fun v h85 hA => ?_
          obtain ⟨ev, s3, m3, l3⟩ := hA
          rw [List.length_append] at ev m3
          refine ⟨_, _, ev, ?_⟩
          have ef := out_fine t' (Q.length + (seqL y (us.take i) Q.length (u.out Q.length)).preds.length) hf'
          have hb2 : Q.length + (seqL y (us.take i) Q.length (u.out Q.length)).preds.length + t'.places ≤ 32 := by rw [hlen]; omega
          have hb3 : Q.length + (u.places + placesL (us.take i)) ≤ 32 := by omega
          refine (hj m3 (t2.mono (l21.trans (le.trans l3))) (pow_up (hfi i).first hb3) (pow_up (hfi i).last hb3) (pow_up ef.first hb2) (pow_up ef.last hb2) (by
            have := ef.few
            simp only [List.length_append] at *; omega)).mono fun v h89 hB => ?_
          obtain ⟨ev, s4, m4, l4⟩ := hB
          refine ⟨ev, kk - 1, by omega, i + 1, ?_, by omega, s4, ?_, (le.trans l3).trans l4⟩
          · rw [wrap_succ (by omega), seqL_take y ht']
          · rw [seqL_take y ht']
            simpa [List.append_assoc] using m4
        · simp only [decide_eq_false_iff_not] at hi
          have : i = us.length := by omega
          subst this
          rw [List.take_of_length_le (Nat.le_refl _)] at m' ⊢
          simp only [seq0]
          exact ⟨by simp, s', m', l21.trans le⟩
end Pt

