/- No two ballots have a majority: the program's Chosen says what the reference's says. -/
import Derived.Test.YtmmgknhefobloaaFunMI
namespace Go.Proofs.Ytmmgknhefobloaa.Hlp
open Go Go.RowKit Go.Proofs Go.Proofs.Ytmmgknhefobloaa.Lw
set_option linter.unusedVariables false
set_option linter.unusedSimpArgs false
set_option maxRecDepth 100000
set_option maxHeartbeats 4000000
theorem less_iff (a b : GBallot) : lessF a b = true ↔ a.No < b.No ∨ a.No = b.No ∧ a.By < b.By := by
  unfold lessF
  simp only [Bool.or_eq_true, Bool.and_eq_true, decide_eq_true_eq]
theorem less_not {a b : GBallot} (h : lessF a b = false) (hne : a ≠ b) : lessF b a = true := by
  have h1 : ¬ lessF a b = true := by rw [h]; decide
  rw [less_iff] at h1 ⊢
  have h2 : ¬ (a.No = b.No ∧ a.By = b.By) := fun ⟨e1, e2⟩ => hne (by cases a; cases b; simp only at e1 e2; rw [e1, e2])
  omega
theorem less_trans {a b c : GBallot} (h1 : lessF a b = true) (h2 : lessF b c = true) : lessF a c = true := by
  rw [less_iff] at *
  omega
theorem less_ne {a b : GBallot} (h : lessF a b = true) : a ≠ b := fun e => by
  subst e
  rw [less_iff] at h
  omega
theorem mem_insB {out : List GBallot} {b x : GBallot} : x ∈ insB out b ↔ x ∈ out ∨ (x = b ∧ b ≠ ⟨0, 0⟩) := by
  unfold insB
  split
  · rename_i h
    constructor
    · exact .inl
    · rintro (h' | ⟨rfl, h'⟩)
      · exact h'
      · rcases h with h | h
        · exact absurd h h'
        · exact List.mem_of_getElem? h
  · rename_i h
    rw [not_or] at h
    have e := List.take_append_drop (out.findIdx fun x => !lessF x b) out
    generalize (out.findIdx fun x => !lessF x b) = i at *
    constructor
    · intro hx
      rw [List.mem_append, List.mem_append, List.mem_singleton] at hx
      rcases hx with (hx | hx) | hx
      · exact .inl (List.mem_of_mem_take hx)
      · exact .inr ⟨hx, h.1⟩
      · exact .inl (List.mem_of_mem_drop hx)
    · rintro (hx | ⟨rfl, _⟩)
      · rw [← e, List.mem_append] at hx
        rcases hx with hx | hx
        · exact List.mem_append_left _ (List.mem_append_left _ hx)
        · exact List.mem_append_right _ hx
      · exact List.mem_append_left _ (List.mem_append_right _ (List.mem_singleton.2 rfl))
theorem insB_sorted {out : List GBallot} {b : GBallot} (h : out.Pairwise (fun a b => lessF a b = true)) : (insB out b).Pairwise (fun a b => lessF a b = true) := by
  unfold insB
  split
  · exact h
  · rename_i hn
    rw [not_or] at hn
    have hlow : ∀ (j : Nat) (hj : j < out.length), j < (out.findIdx fun x => !lessF x b) → lessF (out[j]'hj) b = true := fun j hj hi => by
      have := List.not_of_lt_findIdx hi
      simpa using this
    have hat : ∀ (hi : (out.findIdx fun x => !lessF x b) < out.length), lessF b (out[out.findIdx fun x => !lessF x b]'hi) = true := fun hi => by
      have h1 := List.findIdx_getElem (w := hi)
      refine less_not (by simpa using h1) (fun e => hn.2 ?_)
      rw [List.getElem?_eq_getElem hi, e]
    have hpw := List.pairwise_iff_getElem.1 h
    have h' := h
    rw [← List.take_append_drop (out.findIdx fun x => !lessF x b) out, List.pairwise_append] at h'
    generalize (out.findIdx fun x => !lessF x b) = i at *
    rw [List.pairwise_append, List.pairwise_append]
    have hlt : ∀ x ∈ out.take i, lessF x b = true := fun x hx => by
      obtain ⟨j, hj, rfl⟩ := List.getElem_of_mem hx
      rw [List.length_take] at hj
      rw [List.getElem_take]
      exact hlow j (by omega) (by omega)
    have hgt : ∀ y ∈ out.drop i, lessF b y = true := fun y hy => by
      obtain ⟨j, hj, rfl⟩ := List.getElem_of_mem hy
      rw [List.length_drop] at hj
      rw [List.getElem_drop]
      cases j with
      | zero => exact hat (by omega)
      | succ j => exact less_trans (hat (by omega)) (hpw i (i + (j + 1)) (by omega) (by omega) (by omega))
    refine ⟨⟨h'.1, List.pairwise_singleton _ _, fun x hx y hy => ?_⟩, h'.2.1, fun x hx y hy => ?_⟩
    · rw [List.mem_singleton.1 hy]
      exact hlt x hx
    · rw [List.mem_append, List.mem_singleton] at hx
      rcases hx with hx | rfl
      · exact h'.2.2 x hx y hy
      · exact hgt y hy
theorem fold_sorted : ∀ (bs out : List GBallot), out.Pairwise (fun a b => lessF a b = true) → (bs.foldl insB out).Pairwise (fun a b => lessF a b = true)
  | [], out, h => h
  | b :: r, out, h => fold_sorted r (insB out b) (insB_sorted h)
theorem fold_mem : ∀ (bs out : List GBallot) (x : GBallot), x ∈ bs.foldl insB out ↔ x ∈ out ∨ (x ∈ bs ∧ x ≠ ⟨0, 0⟩)
  | [], out, x => by simp
  | b :: r, out, x => by
    rw [List.foldl_cons, fold_mem r (insB out b) x, mem_insB, List.mem_cons]
    constructor
    · rintro ((h | ⟨rfl, h⟩) | ⟨h, h'⟩)
      · exact .inl h
      · exact .inr ⟨.inl rfl, h⟩
      · exact .inr ⟨.inr h, h'⟩
    · rintro (h | ⟨rfl | h, h'⟩)
      · exact .inl (.inl h)
      · exact .inl (.inr ⟨rfl, h'⟩)
      · exact .inr ⟨h, h'⟩
theorem mem_bals {l : List GMon} {e : Int} {b : GBallot} : b ∈ balsF l e ↔ V e l b := by
  unfold balsF V cntTo
  rw [fold_mem, List.countP_pos_iff, List.mem_map]
  constructor
  · rintro (h | ⟨⟨m, hm, hb⟩, h0⟩)
    · cases h
    · exact ⟨h0, m, hm, decide_eq_true hb⟩
  · rintro ⟨h0, m, hm, hb⟩
    exact .inr ⟨⟨m, hm, of_decide_eq_true hb⟩, h0⟩
theorem bals_nodup (l : List GMon) (e : Int) : (balsF l e).Nodup := (fold_sorted _ [] List.Pairwise.nil).imp fun h => less_ne h
theorem cnt_two (e : Int) {b b' : GBallot} (hb : b ≠ b') : ∀ (l : List GMon), cntTo e b l + cntTo e b' l ≤ l.length
  | [] => Nat.le_refl _
  | m :: r => by
    have ih := cnt_two e hb r
    unfold cntTo at ih ⊢
    rw [List.countP_cons, List.countP_cons, List.length_cons]
    by_cases h1 : (slotF m.Slots e).Accepted = b
    · have h2 : ¬ (slotF m.Slots e).Accepted = b' := fun e2 => hb (h1.symm.trans e2)
      simp only [h1, decide_true, if_true, h2, decide_false, Bool.false_eq_true, if_false]
      rw [h1] at h2
      simp only [h2, decide_false, Bool.false_eq_true, if_false]
      omega
    · by_cases h2 : (slotF m.Slots e).Accepted = b'
      · rw [if_neg (by simpa using h1), if_pos (by simpa using h2)]
        omega
      · rw [if_neg (by simpa using h1), if_neg (by simpa using h2)]
        omega
theorem filter_one {α : Type} {p : α → Bool} {b : α} : ∀ {l : List α}, l.Nodup → b ∈ l → p b = true → (∀ x ∈ l, p x = true → x = b) → l.filter p = [b]
  | [], _, hb, _, _ => by cases hb
  | x :: r, hn, hb, hp, hu => by
    rw [List.nodup_cons] at hn
    by_cases hx : p x = true
    · have hxb := hu x (List.mem_cons_self ..) hx
      subst hxb
      have hr : r.filter p = [] := List.filter_eq_nil_iff.2 fun y hy hpy => hn.1 (by rw [← hu y (List.mem_cons_of_mem _ hy) hpy]; exact hy)
      rw [List.filter_cons, if_pos hx, hr]
    · have hbr : b ∈ r := by
        rcases List.mem_cons.1 hb with rfl | h
        · exact absurd hp hx
        · exact h
      rw [List.filter_cons, if_neg hx]
      exact filter_one hn.2 hbr hp fun y hy hpy => hu y (List.mem_cons_of_mem _ hy) hpy
theorem mons_len {l : List GMon} (h : monsF l = true) : l.length ≤ 5 := by
  unfold monsF inR at h
  simp only [Bool.and_eq_true, decide_eq_true_eq] at h
  omega
theorem most_lt {l : List GMon} {e : Int} {b : GBallot} (hl : l.length ≤ 5) (h : mostC l.length (cntTo e b l) = true) : l.length < 2 * cntTo e b l := by
  have := cnt_len l e b
  unfold mostC at h
  rw [i64_in (by omega) (by omega)] at h
  simp only [decide_eq_true_eq] at h
  omega
theorem ch_none {l : List GMon} {e : Int} (hm : monsF l = true) (h : ∀ b, V e l b → mostC l.length (cntTo e b l) = false) : chF l e = [] := by
  unfold chF chTo
  rw [if_pos hm, List.filter_eq_nil_iff.2 fun b hb hp => by rw [h b (mem_bals.1 hb)] at hp; cases hp]
  rfl
theorem ch_one {l : List GMon} {e : Int} (hm : monsF l = true) {b : GBallot} (hv : V e l b) (hp : mostC l.length (cntTo e b l) = true) : chF l e = [incTo e b l] := by
  unfold chF chTo
  have hl := mons_len hm
  have h1 := most_lt hl hp
  rw [if_pos hm, filter_one (b := b) (bals_nodup l e) (mem_bals.2 hv) hp fun x hx hpx => by
    have h2 := most_lt hl hpx
    by_cases hxb : x = b
    · exact hxb
    · have := cnt_two e hxb l
      omega]
  rfl
theorem iChosen_f (M : Mem) (l : List GMon) (A : Option Addr) (c : Nat) (h : SlR M RMon 15 168 A c l) (e : Int) : AnsR Try.prog M 7 #[.slice A l.length c, .int .i64 e] (fun M' v => ∃ A' c', v = .tuple #[.slice A' (chF l e).length c', .bool (monsF l)] ∧ SlR (sub M' M) RInc 4 32 A' c' (chF l e)) := by
  refine ⟨by kernel_rfl, fun w hw => (chosen_c M l A c h e w hw).mono fun ex w' ⟨hb, ho⟩ => ?_⟩
  rcases ho with ⟨hm, rfl⟩ | ⟨hm, hno, rfl⟩ | ⟨hm, b, g, hv, hp, hg, rfl, hh⟩
  · have hc : chF l e = [] := by unfold chF; rw [hm]; rfl
    exact ⟨_, M, rfl, Le.refl _, fun a u hu => (hb.cell (block_lt_of_cell (hw a u hu))).trans (hw a u hu), fun a u hu => .inl hu, ⟨none, 0, by rw [hc, hm]; rfl, by rw [hc]; exact SlR.nil⟩, hb⟩
  · have hc := ch_none hm hno
    exact ⟨_, M, rfl, Le.refl _, fun a u hu => (hb.cell (block_lt_of_cell (hw a u hu))).trans (hw a u hu), fun a u hu => .inl hu, ⟨none, 0, by rw [hc, hm]; rfl, by rw [hc]; exact SlR.nil⟩, hb⟩
  · have hc := ch_one hm hv hp
    have hKw : ∀ a u, M a = some u → w'.cell? a = some u := fun a u hu => (hb.cell (block_lt_of_cell (hw a u hu))).trans (hw a u hu)
    have hng : ∀ a u, M a = some u → a.block ≠ g := fun a u hu he => by
      have := block_lt_of_cell (hw a u hu)
      omega
    refine ⟨_, fun a => match M a with | some u => some u | none => if a.block = g then w'.cell? a else none, rfl, fun a u hu => by simp only [hu], fun a u hu => ?_, fun a u hu => ?_, ⟨some ⟨g, 0, none⟩, 1, by rw [hc, hm]; rfl, ?_⟩, hb⟩
    · simp only at hu
      cases hMa : M a with
      | some u' => rw [hMa] at hu; cases hu; exact hKw a _ hMa
      | none =>
        rw [hMa] at hu
        simp only at hu
        by_cases hag : a.block = g
        · rw [if_pos hag] at hu; exact hu
        · rw [if_neg hag] at hu; cases hu
    · simp only at hu
      cases hMa : M a with
      | some u' => rw [hMa] at hu; cases hu; exact .inl rfl
      | none =>
        rw [hMa] at hu
        simp only at hu
        by_cases hag : a.block = g
        · right
          rw [hag]
          exact ⟨hg, _, _, hh⟩
        · rw [if_neg hag] at hu; cases hu
    · rw [hc]
      refine ⟨Nat.le_refl _, by simp, fun i x hx => ?_⟩
      cases i with
      | succ i => simp at hx
      | zero =>
        cases hx
        refine ⟨⟨g, 0, none⟩, _, rfl, ⟨rfl, trivial⟩, rfl, fun j u hu => ?_⟩
        have hMn : M ⟨g, j, none⟩ = none := by
          cases hMa : M ⟨g, j, none⟩ with
          | none => rfl
          | some u' => exact absurd rfl (hng _ _ hMa)
        have hcell : w'.cell? ⟨g, j, none⟩ = some u := by
          unfold World.cell?
          rw [hh]
          simpa using hu
        have ead : ((⟨g, 0, none⟩ : Addr).add (0 * 4)).add j = ⟨g, j, none⟩ := by
          simp [Addr.add]
          intro hj
          exact hj.symm
        rw [ead]
        show sub _ M _ = _
        unfold sub
        rw [hMn]
        simp only [if_true]
        rw [hMn]
        exact hcell
end Go.Proofs.Ytmmgknhefobloaa.Hlp
