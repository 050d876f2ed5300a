/- The abstract machine: a region that draws its order, with operations that write: all orders (no program in sight). -/
import Derived.Test.YtifapodobhkdcaaAbsN
namespace Go.Proofs.Ytifapodobhkdcaa
open Go.RowKit
set_option linter.unusedVariables false
set_option linter.unusedSimpArgs false
section
variable {P : Program} {l : List Oper} {nb0 sz i : Nat} {ow base : List (Nat × D)} {mem0 : List (Nat × Option M)} {Z A B : Acc} {o : Oper}
variable {w0 : World} {I0 : Nat → Prop} {listed : Array Bool} {C : List Lk} {gs : Nat → Nat} {ρ : Rho} {I : Nat → Prop} {a : Act} {w : World}
theorem step_alloc {t : Nat} (hoil : l[i]? = some o) {T' : TypeId} {kz : Nat} {zs : List Value} {zd : List D} (S : Sta P l sz ow base nb0 mem0 Z) (inv : InvX l w0 I0 nb0 sz ow base mem0 Z listed C gs ρ I a w) (hi : i ∈ Region.ready .any l.toArray listed) (hdst : o.dst = some t) (ht : t < sz) (hop : o.op = .alloc T') (hz : TyZero P T' kz zs zd) (hx : (i, t, (⟨T', kz, 1, zd⟩ : M)) ∈ Z.al) :
    ∃ v w' gs', (execOp a.eval o).run P w = .ok (.value v) w' ∧ InvX l w0 I0 nb0 sz ow base mem0 Z (listed.setIfInBounds i true) C gs' ρ I (a.put o.dst v) w' := by
  have hnot := ready_not hi
  have hC : C = [] := by
    apply Classical.byContradiction
    intro hne
    obtain ⟨E, hE⟩ := inv.suf
    have hc := S.chk.chain
    rw [hE] at hc
    obtain ⟨x, hxC, hdep⟩ := chain_last hc hne
    have h1 := inv.dep (hdep _ hx) ((inv.lk x (by rw [hE]; exact List.mem_append_right _ hxC)).2 hxC)
    simp only at h1
    rw [hnot] at h1; cases h1
  obtain ⟨ii, z, h1, h2, h3, h4⟩ := hz.info
  have hr : (execOp a.eval o).run P w = .ok (.value (.pointer (some ⟨w.heap.size, 0, none⟩))) (w.alloc (.cells z.cells T')) := by
    simp [execOp, hop, Instr.alloc, zeroValue, typeInfo, h1, h2, newVar, newRow, newObj]
    rfl
  have he : Ext I w I (w.alloc (.cells z.cells T')) := Ext.same ((Later.refl w).alloc _)
  have ge := inv.g.ext he
  have htb : look t base = none := by have := List.all_eq_true.1 S.chk.alfree _ hx; simpa using this
  obtain ⟨n1, n2, n3⟩ := S.chk.alNd hx
  have nal := nodupB_nodup S.chk.nal
  have nals := nodupB_nodup S.chk.nals
  refine ⟨_, _, fun k => if k = i then w.heap.size else gs k, hr, ?_⟩
  rw [hdst]
  have hold : ∀ x ∈ Z.al, x.1 ≠ i → (listed.setIfInBounds i true).getD x.1 false = true → Fresh w0 ρ mem0 I w x.2.2 (a.tmps.getD x.2.1 undef) (gs x.1) := fun x hx' hxi hl => by
    rw [getD_set_ne false (Ne.symm hxi)] at hl
    exact inv.al hC x hx' hl
  refine ⟨by simp [inv.size], inv.closed' hi, inv.suf, fun x hx' => ?_, ?_, fun x hx' hl e he' => ?_, fun s e hs hu => ?_, fun _ x hx' hl => ?_, fun _ x hx' y hy hlx hly hg => ?_⟩
  · rw [getD_set_ne false (n2 x hx').symm]; exact inv.lk x hx'
  · refine ⟨ge.later, ge.lt, ge.base, ge.old, ge.defers, by simp [Act.put]; exact ge.sz, fun s e hs => ?_, ge.mem, ge.inj⟩
    rw [put_other (fun h => by subst h; rw [htb] at hs; cases hs)]
    exact ge.tmp s e hs
  · rw [getD_set_ne false (n3 x hx').symm] at hl
    have hne2 : e.1 ≠ t := by
      rcases S.chk.alSl hx hx' with h | ⟨c, hc, h⟩
      · exact h e he'
      · have := (inv.lk c hc).1 (by rw [h]; exact hl)
        rw [hC] at this; simp at this
    rw [put_other hne2]
    exact (inv.facts x hx' hl e he').ext (Nat.le_refl _) inv.g.lt he
  · obtain ⟨h1, h2⟩ := listed_mono hi inv.size hu
    rw [put_other (fun h => by subst h; rw [wrs_of hoil hdst] at h1; cases h1)]
    exact (inv.old s e hs h2).ext (Nat.le_refl _) inv.g.lt he
  · by_cases hxi : x.1 = i
    · have := nodup_map_eq nal x hx' _ hx hxi
      subst this
      show Fresh w0 ρ mem0 I _ (⟨T', kz, 1, zd⟩ : M) ((a.put (some t) _).tmps.getD t undef) (if i = i then w.heap.size else gs i)
      rw [if_pos rfl, put_same (by rw [inv.g.sz]; exact ht)]
      refine ⟨rfl, ⟨z.cells.toList, ?_, by rw [h3]; exact hz.data, by rw [h3]; exact hz.one⟩, fun hI => Nat.lt_irrefl _ (inv.g.lt _ hI), by simp, fun b m' hb c hc => ?_⟩
      · have hw := World.ownsRow_lit (base := w0.heap.size) (e := T') (size := kz) w z.cells 1 (Below.size inv.g.later) (by unfold maxLen; omega) (by rw [← Array.length_toList, h3, hz.len]; simp)
        exact hw
      · rw [hC] at inv
        have := ((inv.g.mem b m' hb).lt hc).2
        omega
    · rw [if_neg hxi]
      have hne2 : x.2.1 ≠ t := fun h => hxi (by rw [nodup_map_eq nals x hx' _ hx h])
      rw [put_other hne2]
      exact (hold x hx' hxi hl).ext he
  · by_cases hxi : x.1 = i <;> by_cases hyi : y.1 = i
    · rw [hxi, hyi]
    · rw [if_pos hxi, if_neg hyi] at hg
      have := (hold y hy hyi hly).lt
      omega
    · rw [if_neg hxi, if_pos hyi] at hg
      have := (hold x hx' hxi hlx).lt
      omega
    · rw [if_neg hxi, if_neg hyi] at hg
      rw [getD_set_ne false (Ne.symm hxi)] at hlx
      rw [getD_set_ne false (Ne.symm hyi)] at hly
      exact inv.inj hC x hx' y hy hlx hly hg
def listedFs (fs : Fs) (listed : Array Bool) : List (Nat × D) := flatX (fs.filter fun x => listed.getD x.1 false) []
def unl (l : List Oper) (listed : Array Bool) (s : Nat) : Bool := (List.range l.length).all fun j => !wrs l j s || !listed.getD j false
theorem unl_iff {s : Nat} : unl l listed s = true ↔ ∀ j, wrs l j s = true → listed.getD j false = false := by
  unfold unl
  rw [List.all_eq_true]
  refine ⟨fun h j hj => ?_, fun h j _ => ?_⟩
  · have := h j (List.mem_range.2 (wrs_lt hj)); simpa [hj] using this
  · cases hw : wrs l j s with
    | false => rfl
    | true => simp [h j hw]
def owFs (l : List Oper) (listed : Array Bool) (ow : List (Nat × D)) : List (Nat × D) := ow.filter fun e => unl l listed e.1
/-- the state ahead of an operation of the chain -/
theorem chain_state (S : Sta P l sz ow base nb0 mem0 Z) (inv : InvX l w0 I0 nb0 sz ow base mem0 Z listed C gs ρ I a w) (hi : i ∈ Region.ready .any l.toArray listed) (hoil : l[i]? = some o) (hC : C = A.ch) (hA : ∀ x ∈ A.fs, x ∈ Z.fs) (hal : A.al = Z.al) (hlal : A.ch = [] → ∀ x ∈ Z.al, listed.getD x.1 false = true) :
    ∃ ρ', G w0 I0 ⟨pickN nb0 A.al A.ch, sz, pickT nb0 A.al A.ch ++ (depX o (bsAt l ow base i) A.fs ++ (listedFs Z.fs listed ++ owFs l listed ow)), pickM nb0 mem0 A.al A.ch⟩ ρ' I a w := by
  have hdep : ∀ x ∈ A.fs, dependsB o x.1 = true → listed.getD x.1 false = true := fun x hx hd => ready_dep hi (by unfold dep; rw [hoil]; exact hd)
  have key : ∀ s d, look s (depX o (bsAt l ow base i) A.fs ++ (listedFs Z.fs listed ++ owFs l listed ow)) = some d → RA ρ (curNb nb0 C) I w d (a.tmps.getD s undef) := by
    intro s d hs
    rcases look_or hs with h | ⟨_, h⟩
    · rcases look_dX h with ⟨x, hx, hxd, he⟩ | h
      · exact inv.facts x (hA x hx) (hdep x hx hxd) _ he
      · exact inv.bs hi h
    · rcases look_or h with h | ⟨_, h⟩
      · rcases flat_inv (look_mem h) with ⟨x, hx, he⟩ | h
        · obtain ⟨h1, h2⟩ := List.mem_filter.1 hx
          exact inv.facts x h1 h2 _ he
        · simp at h
      · unfold owFs at h
        rw [look_filter] at h
        cases hu : unl l listed s with
        | false => rw [hu] at h; cases h
        | true => rw [hu] at h; exact inv.old s d h (unl_iff.1 hu)
  cases hch : A.ch with
  | cons y r =>
    rw [hch] at hC
    subst hC
    exact ⟨ρ, inv.g.slots' (by simpa [pickT] using key) (fun b m h => h)⟩
  | nil =>
    rw [hch] at hC
    subst hC
    have g := inv.g
    obtain ⟨ρ', g', h1, _⟩ := adopt_all g A.al gs (fun x hx => inv.al rfl x (hal ▸ hx) (hlal hch x (hal ▸ hx))) (fun x hx y hy h => inv.inj rfl x (hal ▸ hx) y (hal ▸ hy) (hlal hch x (hal ▸ hx)) (hlal hch y (hal ▸ hy)) h) (by rw [hal]; exact nodupB_nodup S.chk.nal)
    refine ⟨ρ', g'.slots' (fun s d hs => ?_) (fun b m h => h)⟩
    rcases look_or hs with h | ⟨h0, h⟩
    · exact g'.tmp s d (look_here h)
    · exact h1 _ _ (key s d h)
end
end Go.Proofs.Ytifapodobhkdcaa
