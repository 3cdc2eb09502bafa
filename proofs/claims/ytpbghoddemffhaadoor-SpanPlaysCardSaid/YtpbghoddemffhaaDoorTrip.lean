/-
  An argument that is a slice of structs of two numbers and a truth value: its cells.
-/
import Derived.Test.YtpbghoddemffhaaDoorHp
import Derived.Deep.SlicePairs
namespace Go.Proofs.YtpbghoddemffhaaDoor
open Go.RowKit Go.ChangeShapes Go.WideShapes Go.Deep
set_option maxRecDepth 100000
set_option maxHeartbeats 1000000

/-- A slice of two numbers and a truth value each, as a walk wants it. -/
def Trs (w : World) (a : Option Addr) (n : Nat) (f g : Nat → Int) (h : Nat → Bool) : Prop :=
  ∃ b off, (0 < n → a = some ⟨b, off, none⟩) ∧ ∀ j, j < n → w.cell? ⟨b, off + j * 3, none⟩ = some (.int .i64 (f j)) ∧ w.cell? ⟨b, off + j * 3 + 1, none⟩ = some (.int .i64 (g j)) ∧ w.cell? ⟨b, off + j * 3 + 2, none⟩ = some (.bool (h j))

theorem trs_gen {P : Program} {H : Type} {enc : TypeId × Value → H} {W : World} {a : Option Addr} {n c : Nat} {d : DataW H} {p : List MemPlace} {t e : TypeId} {f0 f1 f2 : Field} (ht : P.underlying t = some (.slice e)) (he : P.underlying e = some (.struct #[f0, f1, f2]))
    (ce : P.cellsOf e = 3) (o0 : f0.offset = 0) (o1 : f1.offset = 1) (o2 : f2.offset = 2) (c0 : P.cellsOf f0.type = 1) (c1 : P.cellsOf f1.type = 1) (c2 : P.cellsOf f2.type = 1)
    (t0 : P.underlying f0.type = some (.int .i64)) (t1 : P.underlying f1.type = some (.int .i64)) (t2 : P.underlying f2.type = some .bool)
    (h : DataW.Trod enc P W 0 (fun _ => true) true t (.slice a n c) d p) : ∃ f g h, Trs W a n f g h ∧ n ≤ 9223372036854775807 := by
  obtain ⟨fuel, hf⟩ := h
  rcases open_slice ht hf with ⟨hcs, _⟩ | ⟨x, len, cap, m, k, D, Pl, hcs, _, hl, hm, hmm, _, hx⟩
  · simp [Value.cells] at hcs
    obtain ⟨rfl, rfl, rfl⟩ := hcs
    exact ⟨fun _ => 0, fun _ => 0, fun _ => false, ⟨0, 0, fun h => absurd h (by omega), fun j hj => by omega⟩, by omega⟩
  · simp [Value.cells] at hcs
    obtain ⟨rfl, rfl, rfl⟩ := hcs
    have hmc : m = c := by simpa using hmm
    subst hmc
    have each : ∀ i, i < m → ∃ u v z, W.cell? (x.add (i * 3)) = some (.int .i64 u) ∧ W.cell? (x.add (i * 3 + 1)) = some (.int .i64 v) ∧ W.cell? (x.add (i * 3 + 2)) = some (.bool z) := by
      intro i hi
      obtain ⟨cs', h1, h2⟩ := hx i hi
      rw [ce] at h1
      obtain ⟨_, hlen, hcell⟩ := World.cells?_some h1
      obtain ⟨xs, k', _, _, _, hxl, hfs⟩ := DataW.trod_struct he h2
      match xs, hxl, cs', hlen with
      | [y0, y1, y2], _, [v0, v1, v2], _ =>
        have g0 := hfs 0 f0 rfl
        have g1 := hfs 1 f1 rfl
        have g2 := hfs 2 f2 rfl
        simp [o0, o1, o2, c0, c1, c2] at g0 g1 g2
        have e0 := hcell 0 (by omega)
        have e1 := hcell 1 (by omega)
        have e2 := hcell 2 (by omega)
        rw [add_add] at e0 e1 e2
        obtain ⟨u, hu, _⟩ := DataW.trod_int t0 g0
        obtain ⟨v, hv, _⟩ := DataW.trod_int t1 g1
        obtain ⟨z, hz, _⟩ := DataW.trod_bool t2 g2
        simp at hu hv hz
        subst hu hv hz
        exact ⟨u, v, z, by simpa using e0, by simpa using e1, by simpa using e2⟩
    refine ⟨fun i => match W.cell? (x.add (i * 3)) with | some (.int _ u) => u | _ => 0, fun i => match W.cell? (x.add (i * 3 + 1)) with | some (.int _ u) => u | _ => 0, fun i => match W.cell? (x.add (i * 3 + 2)) with | some (.bool u) => u | _ => false, ?_, by simp only [maxLen] at hm; omega⟩
    by_cases h0 : 0 < n
    · obtain ⟨b, off, spot⟩ := x
      obtain ⟨u0, v0, z0, e0, _⟩ := each 0 (by omega)
      have hspot : spot = none := by simpa [Addr.add] using World.cell?_spot e0
      subst hspot
      refine ⟨b, off, fun _ => rfl, fun j hj => ?_⟩
      obtain ⟨u, v, z, e1, e2, e3⟩ := each j (by omega)
      have d1 := e1
      have d2 := e2
      have d3 := e3
      rw [Go.WideShapes.add_plain] at d1 d2 d3
      exact ⟨d1.trans (by simp only [e1]), by rw [Nat.add_assoc]; exact d2.trans (by simp only [e2]), by rw [Nat.add_assoc]; exact d3.trans (by simp only [e3])⟩
    · exact ⟨0, 0, fun h => absurd h h0, fun j hj => by omega⟩
theorem trs3_of_trod {H : Type} {enc : TypeId × Value → H} {W : World} {a : Option Addr} {n c : Nat} {d : DataW H} {p : List MemPlace}
    (h : DataW.Trod enc Tryd.prog W 0 (fun _ => true) true 51 (.slice a n c) d p) : ∃ f g h, Trs W a n f g h ∧ n ≤ 9223372036854775807 :=
  trs_gen Tryd.underlying51 Tryd.underlying53 (by kernel_rfl) rfl rfl rfl (by kernel_rfl) (by kernel_rfl) (by kernel_rfl) Tryd.underlying3 Tryd.underlying3 Tryd.underlying4 h
theorem trs6_of_trod {H : Type} {enc : TypeId × Value → H} {W : World} {a : Option Addr} {n c : Nat} {d : DataW H} {p : List MemPlace}
    (h : DataW.Trod enc Tryd.prog W 0 (fun _ => true) true 32 (.slice a n c) d p) : ∃ f g h, Trs W a n f g h ∧ n ≤ 9223372036854775807 :=
  trs_gen Tryd.underlying32 Tryd.underlying39 (by kernel_rfl) rfl rfl rfl (by kernel_rfl) (by kernel_rfl) (by kernel_rfl) Tryd.underlying3 Tryd.underlying3 Tryd.underlying4 h
end Go.Proofs.YtpbghoddemffhaaDoor
