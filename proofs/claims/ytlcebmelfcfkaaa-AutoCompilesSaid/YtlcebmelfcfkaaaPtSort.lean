/- The library's sort, at edges. -/
import Derived.Test.YtlcebmelfcfkaaaPtComp
import Derived.Test.YtlcebmelfcfkaaaPtShelf
import Derived.Shelf.SlSortCmp.NoneTotal
namespace Pt
open Go Go.RowKit Go.Proofs Go.Shelf Go.Sort Go.Lib Lf Pat
variable {h : H}

/-- A call that sees nothing leaves a world that has grown. -/
theorem calls_grow {P : Program} {f : FuncId} {args : Array Value} {R : Value → H → Prop} (s : Spec P f args hnil R) (W : World) :
    Calls P f args W fun e w' => (∃ v h', e = .returned v ∧ R v h') ∧ ∃ q os', w' = grow (W.drewN q) os' := by
  refine (s W (fun b o x => by cases x)).mono ?_
  rintro e w' ⟨v, h', rfl, sub, fr, r⟩
  refine ⟨⟨v, h', rfl, r⟩, w'.drawn - W.drawn, w'.heap.extract W.heap.size, ?_⟩
  have hh : w'.heap = W.heap ++ w'.heap.extract W.heap.size := by
    apply Array.ext_getElem?
    intro i
    rw [Array.getElem?_append]
    split
    · rename_i hi
      exact (fr.keep i hi rfl).2
    · rename_i hi
      rw [Array.getElem?_extract]
      by_cases h2 : i < w'.heap.size
      · rw [if_pos (by omega), show W.heap.size + (i - W.heap.size) = i by omega]
      · rw [if_neg (by omega), Array.getElem?_eq_none (by omega)]
  obtain ⟨o1, o2, o3, o4⟩ := fr.out
  obtain ⟨hp, tp, dr, os, out⟩ := w'
  simp only at hh o1 o2 o3 o4 ⊢
  unfold grow World.drewN
  simp only [World.mk.injEq]
  exact ⟨hh, o3, by omega, o1, o2⟩

abbrev cfE (x y : ERow × Edg) : Int := x.1.cmp y.1
abbrev encE (x : ERow × Edg) : List Value := x.1.enc

instance : Inhabited Edg := ⟨⟨0, 0, false, ⟨false, 0, []⟩⟩⟩

theorem cmp_lt (x y : ERow) : x.cmp y < 0 ↔ x.src < y.src ∨ x.src = y.src ∧ x.dst < y.dst := by
  unfold ERow.cmp orI cmpI
  by_cases h1 : x.src < y.src
  · simp [h1]
  · by_cases h2 : x.src > y.src
    · simp only [if_neg h1, if_pos h2]
      constructor
      · intro h; simp at h
      · intro h; omega
    · simp only [if_neg h1, if_neg h2, ne_eq, not_true, if_false]
      by_cases h3 : x.dst < y.dst
      · simp only [if_pos h3]; constructor
        · intro; omega
        · intro; omega
      · rw [if_neg h3]
        constructor
        · intro h; split at h <;> omega
        · intro h; omega

theorem swoE : SWO (ltOf cfE) where
  irrefl x := by unfold ltOf; simp only [decide_eq_false_iff_not, cmp_lt]; omega
  trans x y z h1 h2 := by
    unfold ltOf at *
    simp only [decide_eq_true_eq, cmp_lt] at *
    omega
  ntrans x y z h1 h2 := by
    unfold ltOf at *
    simp only [decide_eq_false_iff_not, cmp_lt] at *
    omega

theorem cmpLaysE (blk off size : Nat) (w : World) : CmpLays P n_auto_Compile_1 #[] encE 6 cfE blk off size w := by
  intro m os dk _ x y
  refine (calls_grow (c_Compile_1 x.1 y.1) _).mono ?_
  rintro e w' ⟨⟨v, h', rfl, rfl⟩, hq⟩
  exact ⟨rfl, hq⟩

theorem encE_len (x : ERow × Edg) : (encE x).length = 6 := rfl
theorem encE_one (x : ERow × Edg) : ∀ v ∈ encE x, v.oneCell' = true := by
  intro v hv
  simp only [encE, ERow.enc, List.mem_cons, List.not_mem_nil, or_false] at hv
  rcases hv with rfl | rfl | rfl | rfl | rfl | rfl <;> rfl

theorem flat_get (d : Array (ERow × Edg)) {i j : Nat} {x : ERow × Edg} {v : Value} (hx : d[i]? = some x) (hv : (encE x)[j]? = some v) : (flatK encE 6 d)[i * 6 + j]! = v := by
  have hi := (Array.getElem?_eq_some_iff.1 hx).1
  have hj : j < 6 := by have := (List.getElem?_eq_some_iff.1 hv).1; rwa [encE_len] at this
  rw [get_flatK encE 6 d _ (by omega)]
  have h1 : (i * 6 + j) / 6 = i := by omega
  have h2 : (i * 6 + j) % 6 = j := by omega
  rw [h1, h2]
  have h3 : d[i]! = x := by rw [getElem!_pos d i hi]; exact (Array.getElem?_eq_some_iff.1 hx).2
  rw [h3, List.getElem!_eq_getElem?_getD, hv]; rfl

theorem c_SortFunc : SortOk := by
  intro h p n c d ar hd W sub
  have hn : n = d.length := by rw [ar.hl]; simp
  cases p with
  | none =>
    have h1 := ar.nil rfl; have h2 := ar.le
    have hd0 : d = [] := List.length_eq_zero_iff.1 (by omega)
    have hn0 : n = 0 := by omega
    subst hn0
    refine (AnyF.slices_SortFunc_none Go.Proofs.Try.sortEdge none c (.func (.func n_auto_Compile_1) #[] #[]) W).mono ?_
    rintro e w' ⟨rfl, rfl⟩
    exact ⟨_, h, rfl, sub, Lf.Frame.refl _ _, rfl, d, List.Perm.refl _, fun i j x y _ hx _ => (by rw [hd0] at hx; simp at hx), ar, fun _ _ => rfl⟩
  | some ad =>
    obtain ⟨A, cc, rfl, hA, hcc, hg⟩ := ar.arr ad rfl
    have hWA := sub A _ hA
    have hAlt : A < W.heap.size := sub.lt hA
    have hH : HoldsK encE 6 W A 0 d.toArray := by
      intro j hj
      rw [size_flatK, List.size_toArray] at hj
      have hi : j / 6 < d.length := by omega
      have hcell : cc[j]? = some ((flatK encE 6 d.toArray)[j]!) := by
        have hlt6 : j % 6 < (encE d[j / 6]).length := by rw [encE_len]; omega
        obtain ⟨v, hv⟩ : ∃ v, (encE d[j / 6])[j % 6]? = some v := ⟨_, List.getElem?_eq_getElem hlt6⟩
        have h1 := hg (j / 6) (j % 6) (encE d[j / 6]) v (by rw [List.getElem?_map, List.getElem?_eq_getElem hi]; rfl) hv
        have h2 := flat_get d.toArray (i := j / 6) (j := j % 6) (x := d[j / 6]) (v := v) (by simp [hi]) hv
        rw [show j / 6 * 6 + j % 6 = j by omega] at h1 h2
        rw [h1, h2]
      refine ⟨?_, ?_⟩
      · show W.cell? ⟨A, 0 + j, none⟩ = _
        unfold World.cell?
        rw [hWA, Nat.zero_add]
        simpa using hcell
      · unfold World.frozen?
        rw [hWA]; simp
    have eg : ∀ args w, (callFunc n_auto_Compile_1 args).run P w = .ok (.enter n_auto_Compile_1 args) w := enters_of Go.Proofs.Try.func21 (by kernel_rfl) rfl
    have hcon := AnyQ.slices_SortFunc Go.Proofs.Try.sortEdge 6 (fun w => run_isAgg (P := P) (t := 47) (b := true) (by kernel_rfl) w) (fun w => run_size (P := P) (t := 47) (n := 6) (by kernel_rfl) w)
      encE encE_len encE_one cfE swoE n_auto_Compile_1 #[] A 0 c d.toArray W eg (cmpLaysE A 0 d.toArray.size W) hH hAlt (by simp; omega)
    rw [List.size_toArray, ← hn] at hcon
    refine hcon.mono ?_
    rintro e w' ⟨rfl, d', m, os, pm, so, rfl⟩
    obtain ⟨hs, _, hperm⟩ := pm
    have hsz : d'.size = n := by rw [hs, List.size_toArray, hn]
    have hpl : d'.toList.Perm d := by
      have e1 : (d'.extract 0 n).toList = d'.toList := by rw [← hsz]; simp
      have e2 : (d.toArray.extract 0 n).toList = d := by rw [hn]; simp
      rw [e1, e2] at hperm
      exact hperm
    have hW' : ∀ b, (sortWorldK encE 6 W A 0 m d' os).heap[b]? = if b = A then some (.cells (putCells id 0 (flatK encE 6 d') cc) t_api_Edge (0, 0)) else if b < W.heap.size then W.heap[b]? else os[b - W.heap.size]? := by
      intro b
      show ((W.heap.modify A (onCells (putCells id 0 (flatK encE 6 d')))) ++ os)[b]? = _
      rw [Array.getElem?_append, Array.size_modify, Array.getElem?_modify]
      by_cases e : b = A
      · subst e
        rw [if_pos hAlt, if_pos rfl, if_pos rfl, hWA]; rfl
      · rw [if_neg e]
        split
        · rw [if_neg (fun e' => e e'.symm)]
        · rfl
    refine ⟨_, fun b => if b = A then some (.cells (putCells id 0 (flatK encE 6 d') cc) t_api_Edge (0, 0)) else h b, rfl, fun b o x => ?_, ⟨?_, fun b hb hbn => ?_, ⟨rfl, rfl, rfl, Nat.le_add_right _ _⟩⟩, rfl, d'.toList, hpl, fun i j x y hij hx hy => ?_, ?_, fun b hb => ?_⟩
    · rw [hW']
      replace x : (if b = A then some (Obj.cells (putCells id 0 (flatK encE 6 d') cc) t_api_Edge (0, 0)) else h b) = some o := x
      by_cases e : b = A
      · rw [if_pos e] at x ⊢; exact x
      · rw [if_neg e] at x ⊢
        rw [if_pos (sub.lt x)]; exact sub b o x
    · show W.heap.size ≤ ((W.heap.modify A (onCells (putCells id 0 (flatK encE 6 d')))) ++ os).size
      simp
    · have e : b ≠ A := fun e => by rw [e, hA] at hbn; cases hbn
      exact ⟨by show (if b = A then _ else h b) = none; rw [if_neg e]; exact hbn, by rw [hW', if_neg e, if_pos hb]⟩
    · rw [Array.getElem?_toList] at hx hy
      have h1 := (Array.getElem?_eq_some_iff.1 hx)
      have h2 := (Array.getElem?_eq_some_iff.1 hy)
      obtain ⟨g1, e1⟩ := h1
      obtain ⟨g2, e2⟩ := h2
      have := so i j (Nat.zero_le _) hij (by omega)
      rw [getElem!_pos d' i g1, getElem!_pos d' j g2, e1, e2] at this
      unfold ltOf at this
      simpa using this
    · refine ⟨by simp [hsz], ar.le, fun e => (by cases e), fun r hr => ?_, fun a e => ?_⟩
      · obtain ⟨x, _, rfl⟩ := List.mem_map.1 hr
        rfl
      · cases e
        refine ⟨A, _, rfl, if_pos rfl, by unfold putCells; simpa using hcc, fun i j r v hr hv => ?_⟩
        rw [List.getElem?_map] at hr
        obtain ⟨x, hx, rfl⟩ := Option.map_eq_some_iff.1 hr
        rw [Array.getElem?_toList] at hx
        have hi := (Array.getElem?_eq_some_iff.1 hx).1
        have hj : j < 6 := by have := (List.getElem?_eq_some_iff.1 hv).1; rwa [encE_len] at this
        have hlt : i * 6 + j < cc.size := by have := ar.le; omega
        unfold putCells
        rw [Array.getElem?_mapIdx, Array.getElem?_eq_getElem hlt]
        simp only [Option.map_some, id]
        rw [if_pos ⟨Nat.zero_le _, by rw [size_flatK]; omega⟩, Nat.sub_zero, flat_get d' hx hv]
    · have e : b ≠ A := fun e => hb (by rw [e]; rfl)
      show (if b = A then _ else h b) = h b
      rw [if_neg e]
end Pt

