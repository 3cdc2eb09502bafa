/-
  Sets at any number: Has, Set, Clear told alike for numbers in and out of range; and two sets beside their two lists.
-/
import Derived.Test.YtpbghoddemffhaaDoorRefL
import Derived.Test.YtpbghoddemffhaaDoorBitD
namespace Go.Proofs.YtpbghoddemffhaaDoor
open Go.RowKit
set_option maxRecDepth 100000
set_option maxHeartbeats 1000000

/-- May the number be in the set at all? -/
def inB (n : Nat) (x : Int) : Bool := decide (0 ≤ x ∧ x < (n : Int))
/-- What a set tells of any number. -/
def atM (M : Nat → Bool) (i : Int) : Bool := decide (0 ≤ i) && M i.toNat
def putI (M : Nat → Bool) (n : Nat) (x : Int) : Nat → Bool := if inB n x = true then putM M x.toNat else M
def outI (M : Nat → Bool) (x : Int) : Nat → Bool := if 0 ≤ x then outM M x.toNat else M
theorem atM_nat (M : Nat → Bool) (i : Nat) : atM M (i : Int) = M i := by
  unfold atM; rw [Int.toNat_natCast]; simp
theorem inB_out {n : Nat} {x : Int} (h : ¬ (0 ≤ x ∧ x < (n : Int))) : inB n x = false := decide_eq_false h
theorem inB_in {n : Nat} {x : Int} (h1 : 0 ≤ x) (h2 : x < (n : Int)) : inB n x = true := decide_eq_true ⟨h1, h2⟩
theorem atM_out {M : Nat → Bool} {n : Nat} {x : Int} (hM : ∀ i, M i = true → i < n) (h : inB n x = false) : atM M x = false := by
  unfold inB at h
  have h' := of_decide_eq_false h
  unfold atM
  by_cases h0 : 0 ≤ x
  · rw [decide_eq_true h0, Bool.true_and]
    cases hc : M x.toNat with
    | false => rfl
    | true => have := hM _ hc; omega
  · rw [decide_eq_false h0, Bool.false_and]

theorem set_has_int {w : World} {g k n : Nat} {M : Nat → Bool} (h : SetAt w g k n M) (i : Int) :
    Calls Tryd.prog 41 #[ptr g, .int .i64 i] w fun e w' => e = .returned (.bool (atM M i)) ∧ w = w' := by
  unfold atM
  by_cases hi : 0 ≤ i
  · rw [decide_eq_true hi, Bool.true_and]
    have e : i = (i.toNat : Int) := by omega
    rw [e, Int.toNat_natCast]
    exact set_has w g k n M h i.toNat
  · rw [decide_eq_false hi, Bool.false_and]
    exact set_has_out w g k n M h i (.inl (by omega))
theorem set_set_int {w : World} {g k n : Nat} {M : Nat → Bool} (h : SetAt w g k n M) (i : Int) :
    Calls Tryd.prog 39 #[ptr g, .int .i64 i] w fun e w' => e = .returned (.bool (inB n i && !atM M i)) ∧ SetAt w' g k n (putI M n i) ∧ Upd (fun b => b = g ∨ b = k) w w' := by
  unfold putI
  by_cases hi : 0 ≤ i ∧ i < (n : Int)
  · rw [inB_in hi.1 hi.2, if_pos rfl, Bool.true_and]
    have e : i = (i.toNat : Int) := by omega
    rw [e, atM_nat, Int.toNat_natCast]
    exact set_set w g k n _ M h (by omega)
  · rw [inB_out hi, if_neg Bool.false_ne_true, Bool.false_and]
    refine (set_set_out w g k n M h i (by omega)).mono fun e w' ⟨he, hw⟩ => ?_
    subst hw
    exact ⟨he, h, Upd.refl _ _⟩
theorem set_clear_int {w : World} {g k n : Nat} {M : Nat → Bool} (h : SetAt w g k n M) (i : Int) :
    Calls Tryd.prog 44 #[ptr g, .int .i64 i] w fun e w' => e = .returned (.bool (atM M i)) ∧ SetAt w' g k n (outI M i) ∧ Upd (fun b => b = g ∨ b = k) w w' := by
  unfold outI
  by_cases hi : 0 ≤ i
  · have e : i = (i.toNat : Int) := by omega
    rw [if_pos hi]
    rw [e, atM_nat, Int.toNat_natCast]
    exact set_clear w g k n _ M h
  · rw [if_neg hi]
    refine (set_clear_out w g k n M h i (.inl (by omega))).mono fun e w' ⟨he, hw⟩ => ?_
    subst hw
    refine ⟨?_, h, Upd.refl _ _⟩
    unfold atM
    rw [decide_eq_false hi, Bool.false_and]
    exact he
theorem hasL_at_elems {M : Nat → Bool} {n : Nat} (h : ∀ i, M i = true → i < n) (x : Int) : hasL (elems M n) x = atM M x := hasL_elems h x
theorem elems_putI (M : Nat → Bool) (n : Nat) (x : Int) (h : inB n x = true) : insL x (elems M n) = elems (putI M n x) n := by
  unfold putI
  rw [if_pos h]
  have h' := of_decide_eq_true h
  have e : x = (x.toNat : Int) := by omega
  have := elems_put M n x.toNat (by omega)
  rw [← e] at this
  exact this
theorem putI_out (M : Nat → Bool) (n : Nat) (x : Int) (h : inB n x = false) : putI M n x = M := by
  unfold putI
  rw [h, if_neg Bool.false_ne_true]
theorem putI_had (M : Nat → Bool) (n : Nat) (x : Int) (h : inB n x = true) (h2 : atM M x = true) : putI M n x = M := by
  unfold putI
  rw [if_pos h]
  have h' := of_decide_eq_true h
  unfold atM at h2
  rw [decide_eq_true h'.1, Bool.true_and] at h2
  exact put_same h2
theorem elems_outI {M : Nat → Bool} {n : Nat} (hM : ∀ i, M i = true → i < n) (x : Int) : delL x (elems M n) = elems (outI M x) n := by
  unfold outI
  by_cases h0 : 0 ≤ x
  · rw [if_pos h0]
    have e : x = (x.toNat : Int) := by omega
    by_cases hn : x.toNat < n
    · have := elems_out M n x.toNat hn
      rw [← e] at this
      exact this
    · have hf : M x.toNat = false := by
        cases hc : M x.toNat with
        | false => rfl
        | true => have := hM _ hc; omega
      rw [out_same hf]
      exact delL_not _ (by rw [hasL_elems hM, hf]; simp)
  · rw [if_neg h0]
    exact delL_not _ (by rw [hasL_elems hM, decide_eq_false h0]; rfl)

/-- Two sets beside two lists. -/
structure Bes (B : Nat) (w0 ws : World) (g kk n h j m : Nat) (M N : Nat → Bool) (v1 v2 : Value) (L K : List Int) : Prop where
  s : SetAt ws g kk n M
  o : SetAt ws h j m N
  l : Own ws B v1 L
  k : Own ws B v2 K
  gh : g ≠ h
  kj : kk ≠ j
  gB : B ≤ g
  kB : B ≤ kk
  hB : B ≤ h
  jB : B ≤ j
  size : B ≤ ws.heap.size
  below : Below B w0 ws
section
variable {B : Nat} {w0 w w' : World} {g kk n h j m : Nat} {M N M' N' : Nat → Bool} {v1 v2 v' : Value} {L K L' : List Int}
theorem Bes.step (hb : Bes B w0 w g kk n h j m M N v1 v2 L K) (h' : Below w.heap.size w w') : Bes B w0 w' g kk n h j m M N v1 v2 L K :=
  ⟨hb.s.below h', hb.o.below h', hb.l.ofBelow h', hb.k.ofBelow h', hb.gh, hb.kj, hb.gB, hb.kB, hb.hB, hb.jB, Nat.le_trans hb.size h'.size, bstep hb.below h' hb.size⟩
theorem Bes.putS (hb : Bes B w0 w g kk n h j m M N v1 v2 L K) (hs : SetAt w' g kk n M') (hu : Upd (fun b => b = g ∨ b = kk) w w') : Bes B w0 w' g kk n h j m M' N v1 v2 L K := by
  have h1 := hb.gB; have h2 := hb.kB
  exact ⟨hs, hb.s.other hb.o hb.gh hb.kj hu, hb.s.own hb.l hu, hb.s.own hb.k hu, hb.gh, hb.kj, hb.gB, hb.kB, hb.hB, hb.jB, Nat.le_trans hb.size hu.size, below_upd hb.below hu hb.size (fun q e => by rcases e with e | e <;> omega)⟩
theorem Bes.putO (hb : Bes B w0 w g kk n h j m M N v1 v2 L K) (hs : SetAt w' h j m N') (hu : Upd (fun b => b = h ∨ b = j) w w') : Bes B w0 w' g kk n h j m M N' v1 v2 L K := by
  have h1 := hb.hB; have h2 := hb.jB
  exact ⟨hb.o.other hb.s hb.gh.symm hb.kj.symm hu, hs, hb.o.own hb.l hu, hb.o.own hb.k hu, hb.gh, hb.kj, hb.gB, hb.kB, hb.hB, hb.jB, Nat.le_trans hb.size hu.size, below_upd hb.below hu hb.size (fun q e => by rcases e with e | e <;> omega)⟩
theorem Bes.copied (hb : Bes B w0 w g kk n h j m M N v1 v2 L K) {kk' : Nat} (hs : SetAt w' g kk' n M') (hk : w.heap.size ≤ kk') (hu : Upd (· = g) w w') : Bes B w0 w' g kk' n h j m M' N v1 v2 L K := by
  have h1 := hb.gB; have h2 := hb.o.ltk; have h3 := hb.size
  exact ⟨hs, hb.s.other1 hb.o hb.gh hu, hb.s.own1 hb.l hu, hb.s.own1 hb.k hu, hb.gh, by omega, hb.gB, by omega, hb.hB, hb.jB, Nat.le_trans hb.size hu.size, below_upd hb.below hu hb.size (fun q e => by omega)⟩
theorem Bes.newL (hb : Bes B w0 w g kk n h j m M N v1 v2 L K) (hl : Own w B v' L') : Bes B w0 w g kk n h j m M N v' v2 L' K :=
  ⟨hb.s, hb.o, hl, hb.k, hb.gh, hb.kj, hb.gB, hb.kB, hb.hB, hb.jB, hb.size, hb.below⟩
theorem Bes.newK (hb : Bes B w0 w g kk n h j m M N v1 v2 L K) (hl : Own w B v' L') : Bes B w0 w g kk n h j m M N v1 v' L L' :=
  ⟨hb.s, hb.o, hb.l, hl, hb.gh, hb.kj, hb.gB, hb.kB, hb.hB, hb.jB, hb.size, hb.below⟩
theorem SetAt.cel (hs : SetAt w g kk n M) {q : Nat} {t : TypeId} {cs : Array Value} (hc : Cel w q t cs) (h1 : t ≠ 68) (h2 : t ≠ 70) (hu : Upd (fun b => b = g ∨ b = kk) w w') : Cel w' q t cs := by
  obtain ⟨_, _, a1, a2, _⟩ := hs
  exact hu.cel hc (fun e => e.elim (fun e => hc.ne a1 h1 e) (fun e => hc.ne a2 h2 e))
theorem Cel.ofBelow {q : Nat} {t : TypeId} {cs : Array Value} (hc : Cel w q t cs) (h : Below w.heap.size w w') : Cel w' q t cs := hc.below h hc.lt
theorem below_drewN (q : Nat) : Below w.heap.size w (w.drewN q) := Upd.toBelow (F := fun _ => False) ((Upd.refl _ w).drewN q) (Nat.le_refl _) (fun _ h => h.elim)
end
end Go.Proofs.YtpbghoddemffhaaDoor
