/- The abstract machine: a region that draws its order, with operations that write; allocations float (no program in sight). -/
import Derived.Test.YtfkojkciobdeoaaAbsI
namespace Go.Proofs.Ytfkojkciobdeoaa
open Go.RowKit
set_option linter.unusedVariables false
set_option linter.unusedSimpArgs false
section
variable {P : Program} {w0 : World} {I0 : Nat → Prop} {ρ : Rho} {I I' : Nat → Prop} {a : Act} {w w' : World}
variable {nb sz : Nat} {tmp : List (Nat × D)} {mem : List (Nat × Option M)} {t : Nat}
/-- a new row of the call's own that has no number yet -/
structure Fresh (w0 : World) (ρ : Rho) (mem : List (Nat × Option M)) (I : Nat → Prop) (w : World) (m : M) (v : Value) (g : Nat) : Prop where
  eq : v = .pointer (some ⟨g, 0, none⟩)
  own : ∃ us, w.ownsRow w0.heap.size m.ty m.size (sv (some (g, m.n)) m.n) m.n us ∧ us.map D.val = m.xs ∧ us.all (·.oneCell') = true
  not : ¬ I g
  lt : g < w.heap.size
  apart : ∀ b m', getM b mem = some m' → ∀ c, ρ b ≠ some (g, c)
theorem Fresh.ext {m : M} {v : Value} {g : Nat} (h : Fresh w0 ρ mem I w m v g) (e : Ext I w I' w') : Fresh w0 ρ mem I' w' m v g := by
  obtain ⟨h1, ⟨us, ho, hx, hz⟩, hn, hl, ha⟩ := h
  refine ⟨h1, ⟨us, ho.kept (row := none) (e.later.grows none) (by cases (sv (some (g, m.n)) m.n).ownBlock <;> simp), hx, hz⟩, fun hI => ?_, Nat.lt_of_lt_of_le hl (Below.size e.later), ha⟩
  rcases e.new g hI with h | h
  · exact hn h
  · omega
theorem adopt_one {m : M} {gb : Nat} (g : G w0 I0 ⟨nb, sz, tmp, mem⟩ ρ I a w) (f : Fresh w0 ρ mem I w m (a.tmps.getD t undef) gb) :
    G w0 I0 ⟨nb + 1, sz, (t, .ptr nb 0) :: tmp, (nb, some m) :: mem⟩ (upd ρ nb (some (gb, m.n))) I a w := by
  obtain ⟨h1, ⟨us, ho, hx, hz⟩, hn, hl, ha⟩ := f
  have g2 := g.renew m mem (some (gb, m.n)) none (us := us) (grown_refl w none) (fun k hk => by cases hk) (fun b m h => ⟨h, fun k c _ hh => by cases hh⟩)
    (fun b m' k c c' h hk hk' => by
      cases hk'
      exact ha b m' h c hk)
    (fun k c hk hI => by cases hk; exact hn hI) ho (by rw [← hx]; exact allRA_vals hz)
  refine g2.know ?_
  rw [h1]
  exact .ptr (Nat.lt_succ_self _) (upd_same ρ nb _)
theorem Fresh.other {m m' : M} {v : Value} {g g' c nb : Nat} (f : Fresh w0 ρ mem I w m v g) (hne : g ≠ g') (hm : ∀ b m, getM b mem = some m → b < nb) : Fresh w0 (upd ρ nb (some (g', c))) ((nb, some m') :: mem) I w m v g := by
  obtain ⟨h1, h2, hn, hl, ha⟩ := f
  refine ⟨h1, h2, hn, hl, fun b m1 h c' => ?_⟩
  have h' : cond (Nat.beq nb b) (some m') (getM b mem) = some m1 := h
  cases hb : Nat.beq nb b with
  | true =>
    have e := Nat.eq_of_beq_eq_true hb
    subst e
    rw [upd_same]
    intro h
    cases h
    exact hne rfl
  | false =>
    rw [hb] at h'
    rw [upd_other _ _ (hm b m1 h')]
    exact ha b m1 h' c'
/-- the rows get their numbers, the last one in the list first -/
def adoptT (nb : Nat) : List (Nat × Nat × M) → List (Nat × D)
  | [] => []
  | x :: l => (x.2.1, .ptr (nb + l.length) 0) :: adoptT nb l
def adoptM (nb : Nat) : List (Nat × Nat × M) → List (Nat × Option M)
  | [] => []
  | x :: l => (nb + l.length, some x.2.2) :: adoptM nb l
theorem adopt_all (g : G w0 I0 ⟨nb, sz, tmp, mem⟩ ρ I a w) : ∀ (al : List (Nat × Nat × M)) (gs : Nat → Nat), (∀ x ∈ al, Fresh w0 ρ mem I w x.2.2 (a.tmps.getD x.2.1 undef) (gs x.1)) → (∀ x ∈ al, ∀ y ∈ al, gs x.1 = gs y.1 → x.1 = y.1) → (al.map (·.1)).Nodup →
    ∃ ρ', G w0 I0 ⟨nb + al.length, sz, adoptT nb al ++ tmp, adoptM nb al ++ mem⟩ ρ' I a w ∧ (∀ d v, RA ρ nb I w d v → RA ρ' (nb + al.length) I w d v) ∧
      ∀ (m : M) (v : Value) (gb : Nat), Fresh w0 ρ mem I w m v gb → (∀ x ∈ al, gs x.1 ≠ gb) → Fresh w0 ρ' (adoptM nb al ++ mem) I w m v gb
  | [], gs, _, _, _ => ⟨ρ, g, fun d v h => h, fun m v gb h _ => h⟩
  | x :: l, gs, hf, hi, hn => by
    obtain ⟨hx, hn'⟩ := List.nodup_cons.1 hn
    obtain ⟨ρ', g', h1, h2⟩ := adopt_all g l gs (fun y hy => hf y (List.mem_cons_of_mem _ hy)) (fun y hy z hz => hi y (List.mem_cons_of_mem _ hy) z (List.mem_cons_of_mem _ hz)) hn'
    have hne : ∀ y ∈ l, gs y.1 ≠ gs x.1 := fun y hy e => hx (by
      show x.1 ∈ _
      rw [← hi y (List.mem_cons_of_mem _ hy) x List.mem_cons_self e]
      exact List.mem_map.2 ⟨y, hy, rfl⟩)
    have fx := h2 _ _ _ (hf x List.mem_cons_self) hne
    have g2 := adopt_one g' fx
    refine ⟨_, g2, fun d v h => ?_, fun m v gb h hall => ?_⟩
    · exact (h1 d v h).grow (Nat.le_succ _) fun b hb => upd_other _ _ hb
    · refine (h2 m v gb h fun y hy => hall y (List.mem_cons_of_mem _ hy)).other (fun e => hall x List.mem_cons_self e.symm) fun b m' hb => (g'.mem b m' hb).parts.1
end
end Go.Proofs.Ytfkojkciobdeoaa
