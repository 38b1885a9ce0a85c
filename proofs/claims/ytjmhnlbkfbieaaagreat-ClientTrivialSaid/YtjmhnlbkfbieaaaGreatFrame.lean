/- The last step of every law's proof: the call answers true, and below the heap's old size nothing has turned; then the arguments read as they did. No program. -/
import Derived.ProofKit
import Derived.OpenShut
import Derived.Carry
import Derived.Below
import Derived.ChangeSame
import Derived.Deep.Slices
import Derived.Test.YtjmhnlbkfbieaaaGreatMemSpec
namespace Go.Proofs.YtjmhnlbkfbieaaaGreat
open Go.ChangeShapes Go.WideShapes Go.ChangeAt Go.RowKit
theorem all_stay {H : Type} {enc : TypeId × Value → H} {P : Program} (hl : laidOutB P = true) {W W' : World} (hb : Below W.heap.size W W') {sp : Nat → Bool} :
    ∀ (ts : List TypeId) (vs : List Value) (ds : List (DataW H)) (ps : List MemPlace), (∀ t ∈ ts, P.readableRec t = true ∧ t < P.types.size) →
      DataW.TrodAll enc P W 0 (fun _ => true) true ts vs ds ps → (∀ p ∈ ps, p.block < W.heap.size) → (∀ p ∈ ps, sp p.block = true) → DataW.TrodAll enc P W' 0 sp true ts vs ds ps
  | [], vs, ds, ps, _, h, _, _ => by
    obtain ⟨rfl, rfl, rfl⟩ := trodAll_nil h
    exact trodAll_mk0
  | t :: ts, vs, ds, ps, hr, h, hlt, hs => by
    obtain ⟨v, vs', d, ds', p, q, rfl, rfl, rfl, h1, h2⟩ := trodAll_cons h
    refine trodAll_cons_mk (WideElems.Trod_stays hl (hr t (by simp)).1 (hr t (by simp)).2 h1 (fun x hx => hb.same (hlt x (by simp [hx]))) (fun x hx => hs x (by simp [hx]))) ?_
    exact all_stay hl hb ts vs' ds' q (fun u hu => hr u (by simp [hu])) h2 (fun x hx => hlt x (by simp [hx])) (fun x hx => hs x (by simp [hx]))
theorem law_post {H : Type} {enc : TypeId × Value → H} {P : Program} {f : Func} {s : ChangeSpec} {apart fresh handsOn again : Bool} {W W' : World} {args : Array Value} {ds : List (DataW H)} {before : List MemPlace} {tb : TypeId}
    (hW : DataW.Whole enc P f.params.toList s.vars apart W args.toList ds [] before) (hvars : s.vars = [])
    (hfn : s.fn H (ds ++ []) = { results := [.lit (.bool true)], args := ds })
    (hl : laidOutB P = true) (hr : ∀ t ∈ f.params.toList, P.readableRec t = true ∧ t < P.types.size)
    (hres : f.resultTypes = #[tb]) (htb : P.underlying tb = some .bool)
    (hb : Below W.heap.size W W') : s.post enc P f apart fresh handsOn again W args (.bool true) W' := by
  have hlt : ∀ p ∈ before, p.block < W.heap.size := fun p hp => hW.lt p hp
  have hold : ∀ p ∈ before, (fun b => decide (b < W.heap.size)) p.block = true := fun p hp => by simpa using hlt p hp
  have hW' := hW
  obtain ⟨p, q, hA, hV, hpq, hz, hn⟩ := hW'
  have hq : q = [] := by
    rw [hvars] at hV
    exact (trodVars_none hV).2
  subst hq
  simp only [List.append_nil] at hpq
  subst hpq
  have hA2 : ∀ sp : Nat → Bool, (∀ p ∈ before, sp p.block = true) → DataW.TrodAll enc P W' 0 sp true f.params.toList args.toList ds before := fun sp hs =>
    all_stay hl hb _ _ _ _ hr hA hlt hs
  have hR : ∀ (b : Nat) (sp : Nat → Bool) (hd : Bool), DataW.TrodAll enc P W' b sp hd f.resultTypes.toList ((Value.bool true).resultList f.resultTypes.size) [.lit (.bool true)] [] := fun b sp hd => by
    rw [hres]
    exact trodAll_cons_mk (shut_bool htb true) trodAll_mk0
  have hargs : ∀ sp : Nat → Bool, (∀ p ∈ before, sp p.block = true) → DataW.TrodAll enc P W' 0 sp true f.params.toList args.toList (s.fn H (ds ++ [])).args before := by
    rw [hfn]; exact hA2
  have hRr : ∀ (b : Nat) (sp : Nat → Bool) (hd : Bool), DataW.TrodAll enc P W' b sp hd f.resultTypes.toList ((Value.bool true).resultList f.resultTypes.size) (s.fn H (ds ++ [])).results [] := by
    rw [hfn]; exact hR
  have hVr : ∀ sp : Nat → Bool, DataW.TrodVars enc P W' sp s.vars (s.fn H (ds ++ [])).vars [] := fun sp => by
    rw [hfn, hvars]; exact rfl
  refine ⟨ds, [], before, [], before, [], hW, hRr _ _ _, hargs _ hold, hVr _, World.keptBut_mono (fun p hp => ⟨hp, .inr (.inl hp)⟩) (hb.frame (· ∈ before)), fun _ => ?_⟩
  refine ⟨?_, _, _, ([] ++ before) ++ [], ⟨[] ++ before, [], trodAll_append (hargs _ (fun _ _ => rfl)) (hRr _ _ _), hVr _, rfl, ?_, ?_⟩, ?_⟩
  · exact ok_one hres rfl (okWide_bool_mk htb true)
  · intro b off hp
    simp only [List.nil_append, List.append_nil] at hp
    rw [hb.frozen (p := ⟨b, off, none⟩) (hlt (.cell b off) hp)]
    exact hz b off hp
  · intro ha
    have := hn ha
    simpa using this
  · intro p hp _
    simpa using hp
theorem open_u8s {H : Type} {enc : TypeId × Value → H} {P : Program} {w : World} {r : Reach} {b0 : Nat} {t e : TypeId} {v : Value} {d : DataW H} {p : List MemPlace}
    (ht : P.underlying t = some (.slice e)) (he : P.underlying e = some (.int .u8)) (hc : P.cellsOf e = 1)
    (hv : Value.okWide P w r b0 t v) (h : DataW.Trod enc P w 0 (fun _ => true) true t v d p) :
    ∃ (A : Option Addr) (cap b o : Nat) (xs : List Nat), v = .slice A xs.length cap ∧ (0 < xs.length → A = some ⟨b, o, none⟩) ∧ Arr w b o (xs.map vU8) ∧ xs.length ≤ 9223372036854775807 ∧ ∀ x, x ∈ xs → x ≤ 255 := by
  obtain ⟨a0, len, cap, rfl⟩ := okWide_slice ht hv
  obtain ⟨fuel, hf⟩ := h
  rcases open_ints ht he hc hf with ⟨hcs, hx⟩ | ⟨a, len', cap', zs, hcs, _, hl, hm, hz, hx, hcell, hwz⟩
  · simp [Value.cells] at hcs
    obtain ⟨rfl, rfl, rfl⟩ := hcs
    exact ⟨none, 0, 0, 0, [], rfl, fun h => by simp at h, ⟨fun i hi => absurd hi (Nat.not_lt_zero i), fun h => absurd h (Nat.lt_irrefl 0)⟩, Nat.zero_le _, by simp⟩
  · simp [Value.cells] at hcs
    obtain ⟨rfl, rfl, rfl⟩ := hcs
    simp only [if_true] at hz
    have hlen : ((zs.take len).map Int.toNat).length = len := by simp; omega
    have hmap : ((zs.take len).map Int.toNat).map vU8 = (zs.take len).map (fun z => Value.int .u8 z) := by
      rw [List.map_map]
      refine List.map_congr_left fun z hz' => ?_
      have := bounds_u8 (hwz z (List.mem_of_mem_take hz'))
      simp only [Function.comp_apply, vU8]
      rw [show ((z.toNat : Nat) : Int) = z by omega]
    unfold maxLen at hm
    by_cases h0 : 0 < len
    · obtain ⟨b, off, rfl, hcc⟩ := ints_at hcell (by omega)
      refine ⟨_, cap, b, off, (zs.take len).map Int.toNat, by rw [hlen], fun _ => rfl, ?_, by omega, ?_⟩
      · rw [hmap]
        refine ⟨fun i hi => ?_, fun _ => World.block_lt_of_cell? (w := w) (a := ⟨b, off + 0, none⟩) (hcc 0 (by omega))⟩
        have hi' : i < len := by simp at hi; omega
        rw [hcc i (by omega)]
        simp [hi', show i < zs.length by omega]
      · intro x hx
        simp only [List.mem_map] at hx
        obtain ⟨z, hz', rfl⟩ := hx
        have := bounds_u8 (hwz z (List.mem_of_mem_take hz'))
        omega
    · obtain rfl : len = 0 := by omega
      exact ⟨some a, cap, 0, 0, [], rfl, fun h => by simp at h, ⟨fun i hi => absurd hi (Nat.not_lt_zero i), fun h => absurd h (Nat.lt_irrefl 0)⟩, Nat.zero_le _, by simp⟩
/-- A slice argument whatever its elements: the rows of its cells, each as the elements' own reading says (R). -/
theorem open_rows {H : Type} {enc : TypeId × Value → H} {P : Program} {w : World} {r : Reach} {b0 : Nat} {t e : TypeId} {v : Value} {d : DataW H} {p : List MemPlace} (sz : Nat) (hsz : 0 < sz) (R : List Value → Prop)
    (ht : P.underlying t = some (.slice e)) (hc : P.cellsOf e = sz)
    (hR : ∀ (fuel : Nat) (cs : List Value) (x : DataW H × List MemPlace), DataW.trod enc P w 0 (fun _ => true) true fuel e cs = some x → R cs)
    (hv : Value.okWide P w r b0 t v) (h : DataW.Trod enc P w 0 (fun _ => true) true t v d p) :
    ∃ (A : Option Addr) (cap b o : Nat) (rows : List (List Value)), v = .slice A rows.length cap ∧ (0 < rows.length → A = some ⟨b, o, none⟩) ∧ Arr w b o rows.flatten ∧ rows.length ≤ 9223372036854775807 ∧
      ∀ x, x ∈ rows → x.length = sz ∧ R x := by
  obtain ⟨a0, len, cap, rfl⟩ := okWide_slice ht hv
  obtain ⟨fuel, hf⟩ := h
  rcases Go.Deep.open_slice ht hf with ⟨hcs, _⟩ | ⟨a, len', cap', m, n, D, Pl, hcs, _, hl, hm, hmm, _, hel⟩
  · simp [Value.cells] at hcs
    obtain ⟨rfl, rfl, rfl⟩ := hcs
    exact ⟨none, 0, 0, 0, [], rfl, fun h => by simp at h, ⟨fun i hi => absurd hi (Nat.not_lt_zero i), fun h => absurd h (Nat.lt_irrefl 0)⟩, Nat.zero_le _, by simp⟩
  · simp [Value.cells] at hcs
    obtain ⟨rfl, rfl, rfl⟩ := hcs
    simp only [if_true] at hmm
    subst hmm
    rw [hc] at hel
    unfold maxLen at hm
    by_cases h0 : 0 < len
    · have hget : ∀ i, i < len → ∃ cs', w.cells? 0 (a.add (i * sz)) sz = some cs' ∧ R cs' := fun i hi => by
        obtain ⟨cs', h1, h2⟩ := hel i (by omega)
        exact ⟨cs', h1, hR _ _ _ h2⟩
      obtain ⟨f, hf'⟩ : ∃ f : Nat → List Value, ∀ i, i < len → w.cells? 0 (a.add (i * sz)) sz = some (f i) ∧ R (f i) := by
        refine ⟨fun i => if h : i < len then (hget i h).choose else [], fun i hi => ?_⟩
        simp only [hi, dif_pos]
        exact (hget i hi).choose_spec
      have hlen : ∀ i, i < len → (f i).length = sz := fun i hi => (World.cells?_some (hf' i hi).1).2.1
      have hcell : ∀ i, i < len → ∀ j, j < sz → w.cell? (a.add (i * sz + j)) = (f i)[j]? := fun i hi j hj => by
        have := (World.cells?_some (hf' i hi).1).2.2 j hj
        rwa [Go.Deep.add_add] at this
      obtain ⟨b, off, spot⟩ := a
      have hfirst := hcell 0 h0 0 hsz
      have hsome : w.cell? ⟨b, off, spot⟩ = some ((f 0)[0]'(by rw [hlen 0 h0]; exact hsz)) := by
        rw [List.getElem?_eq_getElem (by rw [hlen 0 h0]; exact hsz)] at hfirst
        simpa [Addr.add] using hfirst
      obtain rfl : spot = none := World.cell?_spot hsome
      have hrl : ((List.range len).map f).length = len := by simp
      have hflen : ∀ k, k ≤ len → ((List.range k).map f).flatten.length = k * sz := by
        intro k
        induction k with
        | zero => simp
        | succ k ih =>
          intro hk
          rw [List.range_succ, List.map_append, List.flatten_append, List.length_append, ih (by omega)]
          simp [hlen k (by omega), Nat.succ_mul]
      have hget2 : ∀ k, k ≤ len → ∀ i, i < k * sz → ((List.range k).map f).flatten[i]? = (f (i / sz))[i % sz]? := by
        intro k
        induction k with
        | zero => intro _ i hi; simp at hi
        | succ k ih =>
          intro hk i hi
          rw [List.range_succ, List.map_append, List.flatten_append]
          by_cases hik : i < k * sz
          · rw [List.getElem?_append_left (by rw [hflen k (by omega)]; exact hik)]
            exact ih (by omega) i hik
          · rw [List.getElem?_append_right (by rw [hflen k (by omega)]; omega), hflen k (by omega)]
            rw [Nat.succ_mul] at hi
            have e1 : i / sz = k := by
              rw [Nat.div_eq_iff hsz]
              omega
            have e2 : i % sz = i - k * sz := by
              have := Nat.div_add_mod i sz
              rw [e1, Nat.mul_comm] at this
              omega
            rw [e1, e2]
            simp
      refine ⟨_, _, b, off, (List.range len).map f, by rw [hrl], fun _ => rfl, ⟨fun i hi => ?_, fun _ => World.block_lt_of_cell? (w := w) (a := ⟨b, off, none⟩) hsome⟩, by rw [hrl]; omega, ?_⟩
      · rw [hflen len (Nat.le_refl _)] at hi
        rw [hget2 len (Nat.le_refl _) i hi]
        have hd : i / sz < len := by rw [Nat.div_lt_iff_lt_mul hsz]; exact hi
        rw [← hcell (i / sz) hd (i % sz) (Nat.mod_lt _ hsz), ← Go.WideShapes.add_plain]
        have : i / sz * sz + i % sz = i := by rw [Nat.mul_comm]; exact Nat.div_add_mod i sz
        rw [this]
      · intro x hx
        simp only [List.mem_map, List.mem_range] at hx
        obtain ⟨i, hi, rfl⟩ := hx
        exact ⟨hlen i hi, (hf' i hi).2⟩
    · obtain rfl : len = 0 := by omega
      exact ⟨some a, _, 0, 0, [], rfl, fun h => by simp at h, ⟨fun i hi => absurd hi (Nat.not_lt_zero i), fun h => absurd h (Nat.lt_irrefl 0)⟩, Nat.zero_le _, by simp⟩
/-- Rows that are each the image of something are the image of a list. -/
theorem rows_map {α : Type} (f : α → List Value) (G : α → Prop) : ∀ (rows : List (List Value)), (∀ x, x ∈ rows → ∃ a, x = f a ∧ G a) → ∃ l : List α, rows = l.map f ∧ ∀ a, a ∈ l → G a
  | [], _ => ⟨[], rfl, by simp⟩
  | x :: rows, h => by
    obtain ⟨a, rfl, ha⟩ := h x (by simp)
    obtain ⟨l, rfl, hl⟩ := rows_map f G rows (fun y hy => h y (by simp [hy]))
    exact ⟨a :: l, rfl, by simpa using ⟨ha, hl⟩⟩
theorem flat_map (L : List C3) : (L.map C3.vs).flatten = flat L := by
  induction L with
  | nil => rfl
  | cons x l ih => simp [flat, C3.vs, ih]
end Go.Proofs.YtjmhnlbkfbieaaaGreat
