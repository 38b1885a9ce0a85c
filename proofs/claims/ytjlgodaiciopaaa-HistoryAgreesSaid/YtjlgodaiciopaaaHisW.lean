/- The contracts of SortStableFunc on a list of records, and of Order. -/
import Derived.Test.YtjlgodaiciopaaaHisV
import Derived.Test.YtjlgodaiciopaaaHisC
namespace Go.Proofs.Ytjlgodaiciopaaa
open Go.RowKit Go.Shelf Go.Lib Go.Sort
set_option maxRecDepth 100000
set_option maxHeartbeats 1000000
def keyP (x : RV) : Int := x.n.pt
def cfP (x y : RV) : Int := cmpI x.n.pt y.n.pt
theorem cfP_lt (x y : RV) : (cfP x y < 0) = (keyP x < keyP y) := by
  unfold cfP cmpI keyP
  by_cases h : x.n.pt < y.n.pt
  · rw [if_pos h]; simp [h]
  · rw [if_neg h]
    by_cases h' : y.n.pt < x.n.pt
    · rw [if_pos h']; simp [h]
    · rw [if_neg h']; simp [h]
theorem flat_at (ys : List RV) (t : Nat) (ht : t < ys.length * 16) (r : List Value) : (rCs ys ++ r)[t]? = some (flatK rC 16 ys.toArray)[t]! := by
  rw [get_flatK _ _ _ t (by simpa using ht)]
  have hq : t / 16 < ys.length := by omega
  have hx : ys[t / 16]? = some ys[t / 16] := List.getElem?_eq_getElem hq
  have h := rCs_cells ys r (t / 16) _ hx (t % 16) (by omega)
  rw [show t / 16 * 16 + t % 16 = t by omega] at h
  have e : ys.toArray[t / 16]! = ys[t / 16] := by rw [List.getElem!_toArray]; exact getElem!_pos ys (t / 16) hq
  rw [h, e, getElem!_pos (rC ys[t / 16]) (t % 16) (by rw [rC_len]; omega)]
  exact List.getElem?_eq_getElem _
theorem holds_of_blk {w : World} {g : Nat} {ys : List RV} {rest : List Value} (h : Blk w g (rCs ys ++ rest)) : HoldsK rC 16 w g 0 ys.toArray := fun j hj => by
  have hj' : j < ys.length * 16 := by simpa using hj
  exact ⟨by rw [h.cell, Nat.zero_add]; exact flat_at ys j hj' rest, h.frozen _⟩
theorem blk_of_swk {w w' : World} {g : Nat} {ys T : List RV} {rest : List Value} (h : Blk w g (rCs ys ++ rest)) (hl : T.length = ys.length) (S : SWK rC 16 w g 0 T.toArray w') : Blk w' g (rCs T ++ rest) ∧ Keeps [g] w w' := by
  obtain ⟨n, os, rfl⟩ := S
  obtain ⟨ty, hc⟩ := h
  have hlt := (Array.getElem?_eq_some_iff.1 hc).1
  have hsz : (putRowK rC 16 (Sort.ahead w n) g 0 T.toArray).heap.size = w.heap.size := by rw [size_putRowK]; rfl
  constructor
  · refine ⟨ty, ?_⟩
    unfold sortWorldK
    rw [heap_grow_old _ _ (by rw [hsz]; exact hlt)]
    unfold putRowK putRow mapBlock
    show (w.heap.modify g _)[g]? = _
    rw [Array.getElem?_modify, if_pos rfl, hc]
    simp only [Option.map_some, onCells]
    congr 2
    unfold putCells
    apply Array.ext_getElem?
    intro k
    rw [Array.getElem?_mapIdx]
    simp only [List.getElem?_toArray, size_flatK, List.size_toArray, Nat.zero_add, Nat.zero_le, true_and, Nat.sub_zero, id]
    by_cases hk : k < T.length * 16
    · rw [List.getElem?_append_left (by rw [rCs_len]; omega), List.getElem?_eq_getElem (by rw [rCs_len]; omega)]
      simp only [Option.map_some, if_pos hk]
      exact (flat_at T k hk rest).symm
    · simp only [if_neg hk]
      rw [List.getElem?_append_right (by rw [rCs_len]; omega), List.getElem?_append_right (by rw [rCs_len]; omega), rCs_len, rCs_len, hl]
      simp
  · refine ⟨rfl, rfl, rfl, ?_, fun k hk hn => ?_⟩
    · unfold sortWorldK; rw [size_grow, hsz]; omega
    · unfold sortWorldK
      rw [heap_grow_old _ _ (by rw [hsz]; exact hk)]
      unfold putRowK putRow mapBlock
      show (w.heap.modify g _)[k]? = _
      rw [Array.getElem?_modify, if_neg (by simp at hn; exact fun e => hn e.symm)]
theorem ins_nil (w : World) : Calls Try.prog 35 #[.slice none 0 0, .int .i64 0, .int .i64 0, .func (.func 26) #[] #[]] w fun e w' => e = .returned (.tuple #[]) ∧ w' = w := by
  go_enter Try.func35, Try.ntmps35
  go_wp2_with fail
  go_loopw [8] (fun i wr => i = .int .i64 1 ∧ wr = w) (fun _ _ => 0)
  case atStart => exact ⟨rfl, rfl⟩
  case round =>
    obtain ⟨rfl, rfl⟩ := hrel
    go_wp2_with fail
    go_end0
    exact ⟨rfl, rfl⟩
theorem stab_nil (w : World) : Calls Try.prog 32 #[.slice none 0 0, .int .i64 0, .func (.func 26) #[] #[]] w fun e w' => e = .returned (.tuple #[]) ∧ w' = w := by
  go_enter Try.func32, Try.ntmps32
  go_wp2_with fail
  go_loopw [7, 8] (fun i j wr => i = .int .i64 0 ∧ j = .int .i64 20 ∧ wr = w) (fun _ _ _ => 0)
  case atStart => exact ⟨rfl, rfl, rfl⟩
  case round =>
    obtain ⟨rfl, rfl, rfl⟩ := hrel
    go_wp2_with fail
    refine (ins_nil _).mono ?_
    rintro e w1 ⟨rfl, rfl⟩
    go_wp2_with fail
    go_loopw [6] (fun i wr => i = .int .i64 20 ∧ wr = w1) (fun _ _ => 0)
    case atStart => exact ⟨rfl, rfl⟩
    case round =>
      obtain ⟨rfl, rfl⟩ := hrel
      go_wp2_with fail
      go_end0
      exact ⟨rfl, rfl⟩
theorem sort_any (ys : List RV) (hn : ys.length ≤ 1000) (v : Value) (base : Nat) (w : World) (h : Pk w base v ys) :
    Calls Try.prog 25 #[v, .func (.func 26) #[] #[]] w fun e w' => e = .returned (.tuple #[]) ∧ Pk w' base v (stab keyP ys) ∧ Keeps v.ownBlock.toList w w' := by
  obtain ⟨⟨h1, h2⟩, hok, hge⟩ := h
  rcases h2 with ⟨rfl, h0⟩ | ⟨g, cap, rest, rfl, hb, h3, h4, h5⟩
  · obtain rfl := List.eq_nil_of_length_eq_zero h0
    go_enter Try.func25, Try.ntmps25
    go_wp2_with fail
    refine (stab_nil _).mono ?_
    rintro e w1 ⟨rfl, rfl⟩
    go_wp2_with fail
    go_end0
    exact ⟨rfl, Pk.nil _ _, Keeps.refl _ _⟩
  · have hH := holds_of_blk hb
    have R : RowK rC 16 w g 0 ys.toArray := ⟨rC_len, rC_one, hH, hb.lt⟩
    have S0 : SWK rC 16 w g 0 ys.toArray w := SWK.start hH
    have eg : ∀ args w, (callFunc 26 args).run Try.prog w = .ok (.enter 26 args) w := enters_of Try.func26 (by kernel_rfl) rfl
    have egi : ∀ args w, (callFunc 35 args).run Try.prog w = .ok (.enter 35 args) w := enters_of Try.func35 (by kernel_rfl) rfl
    have hC : CmpLays Try.prog 26 #[] rC 16 cfP g 0 ys.toArray.size w := fun m os dk hs x y => by
      refine (o2_any x y _).mono ?_
      rintro e w' ⟨rfl, os', rfl⟩
      exact ⟨rfl, 0, os', rfl⟩
    have hd : ys.toArray.size = ys.length := by simp
    have hI : InsDoes Try.prog rC 16 w g 0 keyP cap 26 #[] ys.length := fun X M Y a b hX hM hN w1 S1 => by
      have hsz : (X ++ (M ++ Y)).toArray.size = ys.length := by simpa using hN
      have hH1 := S1.holds R.hblk R.hH (by rw [hsz, hd])
      have hlt1 := S1.lt R.hblk
      have := AnyQ.insertionSortCmpFunc Try.ins35 16 Try.isAgg36 Try.sizeOf36 rC rC_len rC_one cfP 26 #[] g 0 cap a b (X ++ (M ++ Y)).toArray w1 eg
        (fun m os dk hs x y => by
          refine (o2_any x y _).mono ?_
          rintro e w' ⟨rfl, os', rfl⟩
          exact ⟨rfl, 0, os', rfl⟩) hH1 hlt1 (by omega) (by rw [hsz, ← hN]; simp; omega) (by rw [hsz]; omega)
      rw [hsz] at this
      refine this.mono ?_
      rintro e w2 ⟨rfl, n, os, rfl⟩
      refine ⟨rfl, ?_⟩
      have hlt : ltOf cfP = ltK keyP := by
        funext x y
        unfold ltOf ltK
        exact decide_eq_decide.2 (iff_of_eq (cfP_lt x y))
      rw [hlt, insertion_stab keyP X M Y a b hX hM]
      exact S1.on R.hblk n _ os (by simp [stab_len])
    have hS := sym_any sl R keyP cfP cap 26 #[] eg cfP_lt hC ys.length hd (by omega)
    have hst := stable_any sl egi keyP cap 26 #[] ys.length (by omega) hI hS ys rfl w S0
    have HB := Lib.hid hb
    have HO := Lib.hid hok
    have HG := Lib.hid hge
    obtain ⟨n, hn'⟩ : ∃ n, ys.length = n := ⟨_, rfl⟩
    have hlt := hb.lt
    rw [hn'] at hst hn h3 ⊢
    have HL := Lib.hid h5
    have H1 := Lib.hid h1
    have Hn := Lib.hid hn'
    clear hI hS hC R S0 eg egi hd hH hb hok hge h5 h1 hn'
    go_enter Try.func25, Try.ntmps25
    go_wp2_with fail
    refine hst.mono ?_
    rintro e w2 ⟨rfl, S2⟩
    obtain ⟨b2, k2⟩ := blk_of_swk HB.out (stab_len ys) S2
    go_wp2_with fail
    go_end0
    refine ⟨rfl, ⟨⟨by rw [rCs_len], .inr ⟨g, cap, rest, by rw [stab_len, Hn.out], b2, by rw [stab_len, Hn.out]; exact h3, h4, ?_⟩⟩, fun y hy => ?_, HG.out⟩, k2⟩
    · rw [← HL.out, List.length_append, List.length_append, rCs_len, rCs_len, stab_len]
    · exact (HO.out y ((stab_mem ys y).1 hy)).keeps k2 (by simp [Value.ownBlock])
theorem strip_key (x : RV) : keyP (strip x) = keyP x := rfl
theorem ins_strip (x : RV) : ∀ l : List RV, (ins keyP x l).map strip = ins keyP (strip x) (l.map strip)
  | [] => rfl
  | y :: l => by
    by_cases h : keyP y < keyP x
    · have e1 : ins keyP x (y :: l) = y :: ins keyP x l := if_pos h
      have e2 : ins keyP (strip x) (strip y :: l.map strip) = strip y :: ins keyP (strip x) (l.map strip) := if_pos (show keyP (strip y) < keyP (strip x) from h)
      rw [e1, List.map_cons, List.map_cons, e2, ins_strip x l]
    · have e1 : ins keyP x (y :: l) = x :: y :: l := if_neg h
      have e2 : ins keyP (strip x) (strip y :: l.map strip) = strip x :: strip y :: l.map strip := if_neg (show ¬ keyP (strip y) < keyP (strip x) from h)
      rw [e1, List.map_cons, List.map_cons, e2]
theorem stab_strip : ∀ l : List RV, (stab keyP l).map strip = stab keyP (l.map strip)
  | [] => rfl
  | x :: l => by simp only [stab, List.map_cons]; rw [ins_strip, stab_strip l]
/-- What Order makes of a list. -/
def ordL (xs : List RV) : List RV := stab keyP (xs.filter (fun x => x.n.pt != -1))
def OrPost (xs : List RV) (w : World) (e : Ending) (w' : World) : Prop := ∃ u ys, e = .returned u ∧ Pk w' w.heap.size u ys ∧ ys.map strip = (ordL xs).map strip ∧ Keeps [] w w'
theorem order_any (xs : List RV) (hn : xs.length ≤ 100) (v : Value) (w : World) (hv : Lst w v xs.length (rCs xs)) (hb : OkL w xs) :
    Calls Try.prog 13 #[v] w (OrPost xs w) := by
  have eg : ∀ args w, (callFunc 24 args).run Try.prog w = .ok (.enter 24 args) w := enters_of Try.func24 (by kernel_rfl) rfl
  have hp := pick_any xs hn v w hv hb (fun r => r.pt != -1) 24 #[] eg (fun x w1 _ => o1_any x w1)
  obtain ⟨A, cap, b, o, rfl, _, _⟩ := hv
  go_enter Try.func13, Try.ntmps13
  go_wp2_with fail
  refine hp.mono ?_
  rintro e w1 ⟨u, ys, rfl, h1, h2, h3⟩
  have hl : ys.length ≤ 1000 := by
    have := congrArg List.length h2
    rw [List.length_map, List.length_map] at this
    have := List.length_filter_le (fun x : RV => x.n.pt != -1) xs
    omega
  have hs := sort_any ys hl u _ w1 h1
  obtain ⟨A1, c1, rfl⟩ := h1.row.len
  clear hp
  have H2 := Lib.hid h2
  clear h2
  go_wp2_with fail
  refine hs.mono ?_
  rintro e w2 ⟨rfl, h4, h5⟩
  go_wp2_with fail
  go_ret
  refine ⟨_, _, rfl, h4, ?_, h3.trans h5 (fun i hi => .inr (h4.ge i (by simpa using hi)))⟩
  rw [ordL, stab_strip, stab_strip, H2.out]
end Go.Proofs.Ytjlgodaiciopaaa
