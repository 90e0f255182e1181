/- The plain law of MsgOk. -/
import Derived.Test.YtphnjgeejifcfaaFunP
namespace Go.Proofs.Ytphnjgeejifcfaa.Hlp
open Go Go.RowKit Go.Proofs Go.Proofs.Ytphnjgeejifcfaa.Lw
set_option linter.unusedVariables false
set_option linter.unusedSimpArgs false
set_option maxRecDepth 100000
set_option maxHeartbeats 4000000
theorem nameOk_e : nameOkF eB = false := by decide
theorem checked_eq (m : GMsg) : checkedF m = sCheckedF m := by
  unfold checkedF sCheckedF pieceF fitsF
  by_cases h : m.Entry = zE
  · have : m.Entry.Name = eB := by rw [h]; rfl
    simp only [h, decide_true, Bool.true_or, Bool.true_and, if_true]
    by_cases hc : m.Chunk = zC
    · simp [hc]
    · have h2 : (chunkOkF m.Chunk && decide (m.Chunk.Name = zE.Name)) = false := by
        by_cases hn : m.Chunk.Name = zE.Name
        · unfold chunkOkF
          rw [hn, show nameOkF zE.Name = false from nameOk_e]
          simp
        · simp [hn]
      rw [h2]
      simp [hc]
  · simp [h]
theorem rest_none (a b c d e f g h i j : Bool) : restR ⟨#[]⟩ [a, b, c, d, e, f, g, h, i, j] 10 = ((((((((((true && (false || a)) && (false || b)) && (false || c)) && (false || d)) && (false || e)) && (false || f)) && (false || g)) && (false || h)) && (false || i)) && (false || j)) := rfl
theorem rest_s (a b c d e f g h i j : Bool) : restR ⟨#[115]⟩ [a, b, c, d, e, f, g, h, i, j] 10 = ((((((((((true && (false || a)) && (false || b)) && (false || c)) && (true || d)) && (false || e)) && (false || f)) && (false || g)) && (false || h)) && (false || i)) && (false || j)) := rfl
theorem rest_sk (a b c d e f g h i j : Bool) : restR ⟨#[115, 107]⟩ [a, b, c, d, e, f, g, h, i, j] 10 = ((((((((((true && (false || a)) && (false || b)) && (false || c)) && (true || d)) && (false || e)) && (false || f)) && (false || g)) && (false || h)) && (true || i)) && (false || j)) := rfl
theorem rest_nv (a b c d e f g h i j : Bool) : restR ⟨#[110, 118]⟩ [a, b, c, d, e, f, g, h, i, j] 10 = ((((((((((true && (true || a)) && (true || b)) && (false || c)) && (false || d)) && (false || e)) && (false || f)) && (false || g)) && (false || h)) && (false || i)) && (false || j)) := rfl
theorem rest_c (a b c d e f g h i j : Bool) : restR ⟨#[99]⟩ [a, b, c, d, e, f, g, h, i, j] 10 = ((((((((((true && (false || a)) && (false || b)) && (false || c)) && (false || d)) && (false || e)) && (true || f)) && (false || g)) && (false || h)) && (false || i)) && (false || j)) := rfl
theorem rest_ecfk (a b c d e f g h i j : Bool) : restR ⟨#[101, 99, 102, 107]⟩ [a, b, c, d, e, f, g, h, i, j] 10 = ((((((((((true && (false || a)) && (false || b)) && (true || c)) && (false || d)) && (true || e)) && (true || f)) && (false || g)) && (false || h)) && (true || i)) && (false || j)) := rfl
theorem rest_v (a b c d e f g h i j : Bool) : restR ⟨#[118]⟩ [a, b, c, d, e, f, g, h, i, j] 10 = ((((((((((true && (false || a)) && (true || b)) && (false || c)) && (false || d)) && (false || e)) && (false || f)) && (false || g)) && (false || h)) && (false || i)) && (false || j)) := rfl
theorem rest_nvrf (a b c d e f g h i j : Bool) : restR ⟨#[110, 118, 114, 102]⟩ [a, b, c, d, e, f, g, h, i, j] 10 = ((((((((((true && (true || a)) && (true || b)) && (true || c)) && (false || d)) && (false || e)) && (false || f)) && (false || g)) && (true || h)) && (false || i)) && (false || j)) := rfl
theorem rest_nvrfec (a b c d e f g h i j : Bool) : restR ⟨#[110, 118, 114, 102, 101, 99]⟩ [a, b, c, d, e, f, g, h, i, j] 10 = ((((((((((true && (true || a)) && (true || b)) && (true || c)) && (false || d)) && (true || e)) && (true || f)) && (false || g)) && (true || h)) && (false || i)) && (false || j)) := rfl
theorem rest_nor (a b c d e f g h i j : Bool) : restR ⟨#[110, 111, 114]⟩ [a, b, c, d, e, f, g, h, i, j] 10 = ((((((((((true && (true || a)) && (false || b)) && (false || c)) && (false || d)) && (false || e)) && (false || f)) && (true || g)) && (true || h)) && (false || i)) && (false || j)) := rfl
theorem rest_rkvb (a b c d e f g h i j : Bool) : restR ⟨#[114, 107, 118, 98]⟩ [a, b, c, d, e, f, g, h, i, j] 10 = ((((((((((true && (false || a)) && (true || b)) && (false || c)) && (false || d)) && (false || e)) && (false || f)) && (false || g)) && (true || h)) && (true || i)) && (true || j)) := rfl
theorem msg_plain (m : GMsg) : ((fieldsF m).2 && decide (m = (fieldsF m).1)) = hasMsgF m := by
  have hck := checked_eq m
  unfold fieldsF hasMsgF
  by_cases k1 : m.Kind = 1 ∨ m.Kind = 8
  · rw [if_pos k1, if_pos k1]
    clear k1 hck
    obtain ⟨x0, x1, x2, x3, x4, x5, x6, x7, x8, x9, x10, x11, x12, x13, x14⟩ := m
    simp only [envF, rest_none, rest_s, rest_sk, rest_nv, rest_c, rest_ecfk, rest_v, rest_nvrf, rest_nvrfec, rest_nor, rest_rkvb, zsOf, GMsg.mk.injEq]
    simp [Bool.and_assoc]
  rw [if_neg k1, if_neg k1]
  by_cases k2 : m.Kind = 2
  · rw [if_pos k2, if_pos k2]
    clear k1 k2 hck
    obtain ⟨x0, x1, x2, x3, x4, x5, x6, x7, x8, x9, x10, x11, x12, x13, x14⟩ := m
    simp only [envF, rest_none, rest_s, rest_sk, rest_nv, rest_c, rest_ecfk, rest_v, rest_nvrf, rest_nvrfec, rest_nor, rest_rkvb, zsOf, GMsg.mk.injEq]
    simp [Bool.and_assoc]
    grind
  rw [if_neg k2, if_neg k2]
  by_cases k7 : m.Kind = 7
  · rw [if_pos k7, if_pos k7]
    clear k1 k2 k7 hck
    obtain ⟨x0, x1, x2, x3, x4, x5, x6, x7, x8, x9, x10, x11, x12, x13, x14⟩ := m
    simp only [envF, rest_none, rest_s, rest_sk, rest_nv, rest_c, rest_ecfk, rest_v, rest_nvrf, rest_nvrfec, rest_nor, rest_rkvb, zsOf, GMsg.mk.injEq]
    simp [Bool.and_assoc]
    grind
  rw [if_neg k7, if_neg k7]
  by_cases k3 : m.Kind = 3 ∨ m.Kind = 6
  · rw [if_pos k3, if_pos k3]
    clear k1 k2 k7 k3 hck
    obtain ⟨x0, x1, x2, x3, x4, x5, x6, x7, x8, x9, x10, x11, x12, x13, x14⟩ := m
    simp only [envF, rest_none, rest_s, rest_sk, rest_nv, rest_c, rest_ecfk, rest_v, rest_nvrf, rest_nvrfec, rest_nor, rest_rkvb, zsOf, GMsg.mk.injEq]
    simp [Bool.and_assoc]
    grind
  rw [if_neg k3, if_neg k3]
  by_cases k4 : m.Kind = 4 ∨ m.Kind = 5
  · rw [if_pos k4, if_pos k4]
    clear k1 k2 k7 k3 k4 hck
    obtain ⟨x0, x1, x2, x3, x4, x5, x6, x7, x8, x9, x10, x11, x12, x13, x14⟩ := m
    simp only [envF, rest_none, rest_s, rest_sk, rest_nv, rest_c, rest_ecfk, rest_v, rest_nvrf, rest_nvrfec, rest_nor, rest_rkvb, zsOf, GMsg.mk.injEq]
    simp [Bool.and_assoc]
    grind
  rw [if_neg k4, if_neg k4]
  by_cases k9 : m.Kind = 9
  · rw [if_pos k9, if_pos k9]
    clear k1 k2 k7 k3 k4 k9 hck
    obtain ⟨x0, x1, x2, x3, x4, x5, x6, x7, x8, x9, x10, x11, x12, x13, x14⟩ := m
    simp only [envF, rest_none, rest_s, rest_sk, rest_nv, rest_c, rest_ecfk, rest_v, rest_nvrf, rest_nvrfec, rest_nor, rest_rkvb, zsOf, GMsg.mk.injEq, writeF, fitsF]
    simp [Bool.and_assoc]
    grind
  rw [if_neg k9, if_neg k9]
  by_cases k10 : m.Kind = 10
  · rw [if_pos k10, if_pos k10]
    clear k1 k2 k7 k3 k4 k9 k10 hck
    obtain ⟨x0, x1, x2, x3, x4, x5, x6, x7, x8, x9, x10, x11, x12, x13, x14⟩ := m
    simp only [envF, rest_none, rest_s, rest_sk, rest_nv, rest_c, rest_ecfk, rest_v, rest_nvrf, rest_nvrfec, rest_nor, rest_rkvb, zsOf, GMsg.mk.injEq]
    simp [Bool.and_assoc]
    grind
  rw [if_neg k10, if_neg k10]
  by_cases k11 : m.Kind = 11
  · rw [if_pos k11, if_pos k11]
    clear k1 k2 k7 k3 k4 k9 k10 k11 hck
    obtain ⟨x0, x1, x2, x3, x4, x5, x6, x7, x8, x9, x10, x11, x12, x13, x14⟩ := m
    simp only [envF, rest_none, rest_s, rest_sk, rest_nv, rest_c, rest_ecfk, rest_v, rest_nvrf, rest_nvrfec, rest_nor, rest_rkvb, zsOf, GMsg.mk.injEq, checkF]
    simp [Bool.and_assoc]
    grind
  rw [if_neg k11, if_neg k11]
  by_cases k12 : m.Kind = 12
  · rw [if_pos k12, if_pos k12]
    clear k1 k2 k7 k3 k4 k9 k10 k11 k12
    rw [hck]
    generalize sCheckedF m = sc
    clear hck
    obtain ⟨x0, x1, x2, x3, x4, x5, x6, x7, x8, x9, x10, x11, x12, x13, x14⟩ := m
    simp only [envF, rest_none, rest_s, rest_sk, rest_nv, rest_c, rest_ecfk, rest_v, rest_nvrf, rest_nvrfec, rest_nor, rest_rkvb, zsOf, GMsg.mk.injEq, checkF]
    simp [Bool.and_assoc]
    grind
  rw [if_neg k12, if_neg k12]
  by_cases k13 : m.Kind = 13
  · rw [if_pos k13, if_pos k13]
    clear k1 k2 k7 k3 k4 k9 k10 k11 k12 k13 hck
    obtain ⟨x0, x1, x2, x3, x4, x5, x6, x7, x8, x9, x10, x11, x12, x13, x14⟩ := m
    simp only [envF, rest_none, rest_s, rest_sk, rest_nv, rest_c, rest_ecfk, rest_v, rest_nvrf, rest_nvrfec, rest_nor, rest_rkvb, zsOf, GMsg.mk.injEq]
    simp [Bool.and_assoc]
    grind
  rw [if_neg k13, if_neg k13]
  by_cases k14 : m.Kind = 14
  · rw [if_pos k14, if_pos k14]
    clear k1 k2 k7 k3 k4 k9 k10 k11 k12 k13 k14 hck
    obtain ⟨x0, x1, x2, x3, x4, x5, x6, x7, x8, x9, x10, x11, x12, x13, x14⟩ := m
    simp only [envF, rest_none, rest_s, rest_sk, rest_nv, rest_c, rest_ecfk, rest_v, rest_nvrf, rest_nvrfec, rest_nor, rest_rkvb, zsOf, GMsg.mk.injEq]
    simp [Bool.and_assoc]
    grind
  rw [if_neg k14, if_neg k14]
  rfl
end Go.Proofs.Ytphnjgeejifcfaa.Hlp
