/- The laws' helpers by the light walk: equal data are called equal; what a list measures; what is turned is the same. -/
import Derived.Test.YtpkphcgipkmiaaaGreatHlpF
namespace Go.Proofs.YtpkphcgipkmiaaaGreat.Hlp
open Go Go.RowKit Go.Proofs Go.Proofs.YtpkphcgipkmiaaaGreat.Lw
set_option linter.unusedVariables false
set_option linter.unusedSimpArgs false
set_option maxRecDepth 100000
set_option maxHeartbeats 4000000
theorem eqFill_a (M : Mem) (x : GFill) : Ans Tryz.prog M 65 #[.agg #[.int .i64 x.Node, .int .i64 x.Pos, .string x.Head.Name, .int .i64 x.Head.Ver.Epoch, .int .i64 x.Head.Ver.Seq, .int .i64 x.Head.Size, .int .i64 x.Head.Sum], .agg #[.int .i64 x.Node, .int .i64 x.Pos, .string x.Head.Name, .int .i64 x.Head.Ver.Epoch, .int .i64 x.Head.Ver.Seq, .int .i64 x.Head.Size, .int .i64 x.Head.Sum]] (.bool true) := by
  refine ans_of T (l := [.agg #[.int .i64 x.Node, .int .i64 x.Pos, .string x.Head.Name, .int .i64 x.Head.Ver.Epoch, .int .i64 x.Head.Ver.Seq, .int .i64 x.Head.Size, .int .i64 x.Head.Sum], .agg #[.int .i64 x.Node, .int .i64 x.Pos, .string x.Head.Name, .int .i64 x.Head.Ver.Epoch, .int .i64 x.Head.Ver.Seq, .int .i64 x.Head.Size, .int .i64 x.Head.Sum]]) mixed Tryz.func65 rfl (by kernel_rfl) (Nat.le_of_ble_eq_true rfl) ?_
  repeat' ((conv => whnf); first | with_reducible refine CondK.tt ?_ | with_reducible refine CondK.ff ?_ | with_reducible refine CondK.not ?_ | refine CallK.mk _ (eqHead_a M _) ?_ | refine CallQ.mk _ (eqHead_a M _) ?_ | (refine CondK.no' ?_ ?_; focus (simp; done)) | (refine CondK.yes' ?_ ?_; focus (simp; done)) | exact rfl)
theorem eqFillS_a (M : Mem) (l : List GFill) (A A' : Option Addr) (c c' : Nat) (h : SlR M RFill 7 64 A c l) (h' : SlR M RFill 7 64 A' c' l) : Ans Tryz.prog M 22 #[.slice A l.length c, .slice A' l.length c'] (.bool true) := by
  have hl := h.len
  refine ans_of T (l := [.slice A l.length c, .slice A' l.length c']) mixed Tryz.func22 rfl (by kernel_rfl) (Nat.le_of_ble_eq_true rfl) ?_
  (conv => whnf)
  refine CondK.mk (fun h1 => absurd h1 (by simp)) (fun _ => ?_)
  (conv => whnf)
  refine LoopK.mk {k : Nat // k ≤ l.length} (fun ⟨k, _⟩ => [(0, .v (.slice A l.length c)), (1, .v (.slice A' l.length c')), (5, .v (.int .i64 (k : Int)))]) (fun _ => []) (fun _ => M) (fun k => l.length - k.1) ⟨0, Nat.zero_le _⟩ ⟨⟨⟨rfl, rfl, rfl, trivial⟩, trivial, rfl, rfl⟩, rfl⟩ ?_
  rintro ⟨k, hk⟩
  (conv => whnf)
  refine CondK.mk (fun h1 => ?_) (fun h1 => ?_)
  · have hlt : k < l.length := by simpa using h1
    obtain ⟨ad, rfl, bnx, x0, x1, x2, x3, x4, x5, x6⟩ := at_Fill h (List.getElem?_eq_getElem hlt)
    obtain ⟨ad', rfl, bny, y0, y1, y2, y3, y4, y5, y6⟩ := at_Fill h' (List.getElem?_eq_getElem hlt)
    repeat' ((conv => whnf); first | with_reducible refine CondK.tt ?_ | with_reducible refine CondK.ff ?_ | with_reducible refine CondK.not ?_ | refine LdK.mk _ (by assumption) ?_ | refine IdxK.mk _ rfl (by omega) (by omega) ?_ | refine DrawN.q (by kernel_rfl) ?_ | refine CallK.mk _ (eqFill_a M l[k]) ?_ | refine CallQ.mk _ (eqFill_a M l[k]) ?_ | (refine CondK.no' ?_ ?_; focus (simp; done)) | (refine CondK.yes' ?_ ?_; focus (simp; done)) | exact rfl)
    exact ⟨⟨k + 1, hlt⟩, ⟨⟨rfl, rfl, look_int (i64_succ (by omega)), trivial⟩, trivial, rfl, rfl⟩, rfl, by simp; omega⟩
  · rfl
end Go.Proofs.YtpkphcgipkmiaaaGreat.Hlp
