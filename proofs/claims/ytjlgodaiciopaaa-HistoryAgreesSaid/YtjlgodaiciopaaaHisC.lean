/- The contracts of Thread, Pending and of Order's pick; the numbers of a picked list. -/
import Derived.Test.YtjlgodaiciopaaaHisB
namespace Go.Proofs.Ytjlgodaiciopaaa
open Go.RowKit
set_option maxRecDepth 100000
set_option maxHeartbeats 1000000
theorem strip_n {ys zs : List RV} (h : ys.map strip = zs.map strip) : ys.map (·.n) = zs.map (·.n) := by
  have : ∀ l : List RV, l.map (·.n) = (l.map strip).map (·.n) := fun l => by rw [List.map_map]; rfl
  rw [this, h, ← this]
theorem filter_n (p : Rec → Bool) (xs : List RV) : (xs.filter (fun x => p x.n)).map (·.n) = (xs.map (·.n)).filter p := by
  rw [List.filter_map]; rfl
/-- The answer of a pick. -/
def PkPost (p : Rec → Bool) (xs : List RV) (w : World) (e : Ending) (w' : World) : Prop := ∃ u ys, e = .returned u ∧ Pk w' w.heap.size u ys ∧ ys.map strip = (xs.filter (fun x => p x.n)).map strip ∧ Keeps [] w w'
/-- A list of records as an argument. -/
def OkL (w : World) (xs : List RV) : Prop := ∀ x ∈ xs, OkB w x ∧ x.b.length * 40 ≤ 140737488355328
theorem OkL.keeps {w w' : World} {xs : List RV} (h : OkL w xs) (k : Keeps [] w w') : OkL w' xs := fun x hx => ⟨(h x hx).1.keeps k, (h x hx).2⟩
theorem pending_any (xs : List RV) (hn : xs.length ≤ 100) (v : Value) (w : World) (hv : Lst w v xs.length (rCs xs)) (hb : OkL w xs) :
    Calls Try.prog 17 #[v] w (PkPost (fun r => r.rs == -1) xs w) := by
  have eg : ∀ args w, (callFunc 29 args).run Try.prog w = .ok (.enter 29 args) w := enters_of Try.func29 (by kernel_rfl) rfl
  have hp := pick_any xs hn v w hv hb (fun r => r.rs == -1) 29 #[] eg (fun x w1 _ => p1_any x w1)
  obtain ⟨A, cap, b, o, rfl, _, _⟩ := hv
  go_enter Try.func17, Try.ntmps17
  go_wp2_with fail
  refine hp.mono ?_
  rintro e w1 ⟨u, ys, rfl, h1, h2, h3⟩
  obtain ⟨A5, c5, rfl⟩ := h1.row.len
  have H1 := Lib.hid h1
  have H2 := Lib.hid h2
  clear h1 h2 hp
  go_wp2_with fail
  go_ret
  exact ⟨_, ys, rfl, H1.out, H2.out, h3⟩
theorem thread_any (xs : List RV) (hn : xs.length ≤ 100) (v : Value) (w : World) (hv : Lst w v xs.length (rCs xs)) (hb : OkL w xs) (t : Int) :
    Calls Try.prog 21 #[v, .int .i64 t] w (PkPost (fun r => r.th == t) xs w) := by
  have eg : ∀ args w, (callFunc 30 args).run Try.prog w = .ok (.enter 30 args) w := enters_of Try.func30 (by kernel_rfl) rfl
  have kk : Keeps [] w (w.alloc (.cells #[.int .i64 t] 3)) := (Keeps.refl [] w).alloc _
  have hbk := Blk.new w [.int .i64 t] 3
  have hp := pick_any xs hn v _ (hv.keeps kk) (OkL.keeps hb kk) (fun r => r.th == t) 30 #[.pointer (some ⟨w.heap.size, 0, none⟩)] eg (fun x w1 k => t1_any x w1 w.heap.size t ((k.blk hbk (by simp)).cell 0) (k.blk hbk (by simp)).lt)
  obtain ⟨A, cap, b, o, rfl, _, _⟩ := hv
  clear hbk
  go_enter Try.func21, Try.ntmps21
  go_wp2_with fail
  refine hp.mono ?_
  rintro e w1 ⟨u, ys, rfl, h1, h2, h3⟩
  obtain ⟨A5, c5, rfl⟩ := h1.row.len
  have H1 : Pk w1 w.heap.size (.slice A5 ys.length c5) ys := ⟨h1.row, h1.ok, fun g hg => Nat.le_trans kk.size (h1.ge g hg)⟩
  have H1 := Lib.hid H1
  have H2 := Lib.hid h2
  have H3 := kk.trans h3 (by simp)
  clear h1 h2 hp h3
  go_wp2_with fail
  go_ret
  exact ⟨_, ys, rfl, H1.out, H2.out, H3⟩
end Go.Proofs.Ytjlgodaiciopaaa
