/- The law FnExactEndCall by the light walk: it answers true. -/
import Derived.Test.YtkadfdkalglblaaGreatFunEC
namespace Go.Proofs.YtkadfdkalglblaaGreat.Hlp
open Go Go.RowKit Go.Proofs Go.Proofs.YtkadfdkalglblaaGreat.Lw
set_option linter.unusedVariables false
set_option linter.unusedSimpArgs false
set_option maxRecDepth 100000
set_option maxHeartbeats 4000000
theorem lawEndCall_a (M : Mem) (x : GCall) (m : GMsg) (e : Int) (cs0 cs1 : List Value) (k0 : RCall M x cs0) (h1 : RMsg M m cs1) : AnsR Tryz.prog M 3 #[.agg cs0.toArray, .agg cs1.toArray, .int .i64 e] (fun _ v => v = .bool true) := by
  obtain ⟨rfl, hn, _, hbd⟩ := k0
  have h0 := h1
  obtain ⟨A0, c0, A1, c1, A2, c2, A3, c3, rfl, _⟩ := h0
  refine ansR_of T (l := [.agg (List.toArray _), .agg (List.toArray _), .int .i64 e]) mixed Tryz.func3 rfl (by kernel_rfl) (Nat.le_of_ble_eq_true rfl) ?_
  (conv => whnf)
  refine CallK.mk _ (szCall_a M x _) ?_
  (conv => whnf)
  refine CondK.mk (fun hc => ?_) (fun hc => ?_)
  · exact RetK.mk fun _ _ _ _ => rfl
  have hc0 : 0 ≤ szCall x 1048576 := by simpa using hc
  have hc1 := (szCall_ok (M := M) ⟨rfl, hn, by assumption, hbd⟩ (left := 1048576) (by decide) (by decide) hc0).2
  clear hc
  (conv => whnf)
  refine CallK.mk _ (szMsg_a M m _ _ h1) ?_
  (conv => whnf)
  refine CondK.mk (fun hc => ?_) (fun hc => ?_)
  · exact RetK.mk fun _ _ _ _ => rfl
  have hs1 := (szMsg_ok h1 (left := szCall x 1048576) hc0 hc1 (by simpa using hc)).1
  clear hc
  have hz := Le.refl M
  (conv => whnf)
  refine DrawN.h {N : Mem // Le M N} (fun _ => [(2, .v (.int .i64 e)), (3, .p 0 0), (4, .p 1 0), (8, .p 2 0), (9, .v (.int .i64 (endF x m e).2))]) (fun _ => [(2, [.int .i64 (endF x m e).1.Client, .int .i64 (endF x m e).1.No, .int .i64 (endF x m e).1.Pg.Pool, .int .i64 (endF x m e).1.Pg.No, .string (endF x m e).1.Name, .int .i64 (endF x m e).1.Op.Kind, .int .i64 (endF x m e).1.Op.At, .string (endF x m e).1.Op.Bytes, .int .i64 (endF x m e).1.Begin, .int .i64 (endF x m e).1.End, .int .i64 (endF x m e).1.Code, .int .i64 (endF x m e).1.Ver.Epoch, .int .i64 (endF x m e).1.Ver.Seq, .string (endF x m e).1.Body]), (1, [.int .i64 m.Kind, .int .i64 m.From, .int .i64 m.To, .int .i64 m.Pg.Pool, .int .i64 m.Pg.No, .int .i64 m.Epoch, .string m.Name, .int .i64 m.Ver.Epoch, .int .i64 m.Ver.Seq, .int .i64 m.Firm.Epoch, .int .i64 m.Firm.Seq, .int .i64 m.State.Pg.Pool, .int .i64 m.State.Pg.No, .int .i64 m.State.Seen, .int .i64 m.State.Started, .int .i64 m.State.Tail.Epoch, .int .i64 m.State.Tail.Seq, .slice A0 m.State.Base.length c0, .slice A1 m.State.Clients.length c1, .slice A2 m.State.Log.length c2, .int .i64 m.State.Firm.Epoch, .int .i64 m.State.Firm.Seq, .slice A3 m.State.Chunks.length c3, .int .i64 m.Entry.Ver.Epoch, .int .i64 m.Entry.Ver.Seq, .int .i64 m.Entry.Prior.Epoch, .int .i64 m.Entry.Prior.Seq, .string m.Entry.Name, .bool m.Entry.Gone, .int .i64 m.Entry.Size, .int .i64 m.Entry.Sum, .int .i64 m.Entry.Req.Client, .int .i64 m.Entry.Req.No, .string m.Chunk.Name, .int .i64 m.Chunk.Ver.Epoch, .int .i64 m.Chunk.Ver.Seq, .int .i64 m.Chunk.Pos, .int .i64 m.Chunk.Sum, .string m.Chunk.Bytes, .int .i64 m.Op.Kind, .int .i64 m.Op.At, .string m.Op.Bytes, .int .i64 m.Req.Client, .int .i64 m.Req.No, .int .i64 m.Code, .string m.Body]), (0, [.int .i64 x.Client, .int .i64 x.No, .int .i64 x.Pg.Pool, .int .i64 x.Pg.No, .string x.Name, .int .i64 x.Op.Kind, .int .i64 x.Op.At, .string x.Op.Bytes, .int .i64 x.Begin, .int .i64 x.End, .int .i64 x.Code, .int .i64 x.Ver.Epoch, .int .i64 x.Ver.Seq, .string x.Body])]) 3 (fun N => N.1) (by kernel_rfl) ?_ ?_
  · repeat' ((conv => whnf); first | refine AndK.mk ?_ ?_ | refine HeldK.mk (by kernel_rfl) ?_ | refine CallK.mk _ (toCall_a _ x) ?_ | refine CallQ.mk _ (toCall_a _ x) ?_ | (refine CallK.mr _ (toMsg_a _ m _ (RMsg.mono hz _ _ h1) hs1) (fun v M3 hl3 hv => ?_); replace hz := hz.trans hl3; obtain ⟨cs3, rfl, r2⟩ := hv) | refine CallK.mk _ (sEndCall_a _ x hn hbd m _ r2 e) ?_ | fail)
    all_goals exact ⟨⟨_, hz⟩, ⟨⟨rfl, rfl, rfl, rfl, rfl, trivial⟩, ⟨rfl, rfl, rfl, trivial⟩, rfl, rfl⟩, rfl⟩
  clear hz
  rintro ⟨M1, hl1⟩
  (conv => whnf)
  refine CallK.mr _ (toMsg_a _ m _ (RMsg.mono hl1 _ _ h1) hs1) (fun v M2 hl2 hv => ?_)
  obtain ⟨cs2, rfl, r1⟩ := hv
  have r1' := r1
  obtain ⟨B0, d0, B1, d1, B2, d2, B3, d3, rfl, _⟩ := r1'
  have hz := Le.refl M2
  (conv => whnf)
  refine DrawN.h {N : Mem // Le M2 N} (fun _ => [(2, .v (.int .i64 e)), (3, .p 0 0), (4, .p 1 0), (8, .p 2 0), (9, .v (.int .i64 (endF x m e).2)), (10, .p 3 0), (11, .p 4 0), (12, .v (.int .i64 (endF x m e).2))]) (fun _ => [(4, [.int .i64 (endF x m e).1.Client, .int .i64 (endF x m e).1.No, .int .i64 (endF x m e).1.Pg.Pool, .int .i64 (endF x m e).1.Pg.No, .string (endF x m e).1.Name, .int .i64 (endF x m e).1.Op.Kind, .int .i64 (endF x m e).1.Op.At, .string (endF x m e).1.Op.Bytes, .int .i64 (endF x m e).1.Begin, .int .i64 (endF x m e).1.End, .int .i64 (endF x m e).1.Code, .int .i64 (endF x m e).1.Ver.Epoch, .int .i64 (endF x m e).1.Ver.Seq, .string (endF x m e).1.Body]), (3, [.int .i64 m.Kind, .int .i64 m.From, .int .i64 m.To, .int .i64 m.Pg.Pool, .int .i64 m.Pg.No, .int .i64 m.Epoch, .string m.Name, .int .i64 m.Ver.Epoch, .int .i64 m.Ver.Seq, .int .i64 m.Firm.Epoch, .int .i64 m.Firm.Seq, .int .i64 m.State.Pg.Pool, .int .i64 m.State.Pg.No, .int .i64 m.State.Seen, .int .i64 m.State.Started, .int .i64 m.State.Tail.Epoch, .int .i64 m.State.Tail.Seq, .slice B0 m.State.Base.length d0, .slice B1 m.State.Clients.length d1, .slice B2 m.State.Log.length d2, .int .i64 m.State.Firm.Epoch, .int .i64 m.State.Firm.Seq, .slice B3 m.State.Chunks.length d3, .int .i64 m.Entry.Ver.Epoch, .int .i64 m.Entry.Ver.Seq, .int .i64 m.Entry.Prior.Epoch, .int .i64 m.Entry.Prior.Seq, .string m.Entry.Name, .bool m.Entry.Gone, .int .i64 m.Entry.Size, .int .i64 m.Entry.Sum, .int .i64 m.Entry.Req.Client, .int .i64 m.Entry.Req.No, .string m.Chunk.Name, .int .i64 m.Chunk.Ver.Epoch, .int .i64 m.Chunk.Ver.Seq, .int .i64 m.Chunk.Pos, .int .i64 m.Chunk.Sum, .string m.Chunk.Bytes, .int .i64 m.Op.Kind, .int .i64 m.Op.At, .string m.Op.Bytes, .int .i64 m.Req.Client, .int .i64 m.Req.No, .int .i64 m.Code, .string m.Body]), (2, [.int .i64 (endF x m e).1.Client, .int .i64 (endF x m e).1.No, .int .i64 (endF x m e).1.Pg.Pool, .int .i64 (endF x m e).1.Pg.No, .string (endF x m e).1.Name, .int .i64 (endF x m e).1.Op.Kind, .int .i64 (endF x m e).1.Op.At, .string (endF x m e).1.Op.Bytes, .int .i64 (endF x m e).1.Begin, .int .i64 (endF x m e).1.End, .int .i64 (endF x m e).1.Code, .int .i64 (endF x m e).1.Ver.Epoch, .int .i64 (endF x m e).1.Ver.Seq, .string (endF x m e).1.Body]), (1, [.int .i64 m.Kind, .int .i64 m.From, .int .i64 m.To, .int .i64 m.Pg.Pool, .int .i64 m.Pg.No, .int .i64 m.Epoch, .string m.Name, .int .i64 m.Ver.Epoch, .int .i64 m.Ver.Seq, .int .i64 m.Firm.Epoch, .int .i64 m.Firm.Seq, .int .i64 m.State.Pg.Pool, .int .i64 m.State.Pg.No, .int .i64 m.State.Seen, .int .i64 m.State.Started, .int .i64 m.State.Tail.Epoch, .int .i64 m.State.Tail.Seq, .slice A0 m.State.Base.length c0, .slice A1 m.State.Clients.length c1, .slice A2 m.State.Log.length c2, .int .i64 m.State.Firm.Epoch, .int .i64 m.State.Firm.Seq, .slice A3 m.State.Chunks.length c3, .int .i64 m.Entry.Ver.Epoch, .int .i64 m.Entry.Ver.Seq, .int .i64 m.Entry.Prior.Epoch, .int .i64 m.Entry.Prior.Seq, .string m.Entry.Name, .bool m.Entry.Gone, .int .i64 m.Entry.Size, .int .i64 m.Entry.Sum, .int .i64 m.Entry.Req.Client, .int .i64 m.Entry.Req.No, .string m.Chunk.Name, .int .i64 m.Chunk.Ver.Epoch, .int .i64 m.Chunk.Ver.Seq, .int .i64 m.Chunk.Pos, .int .i64 m.Chunk.Sum, .string m.Chunk.Bytes, .int .i64 m.Op.Kind, .int .i64 m.Op.At, .string m.Op.Bytes, .int .i64 m.Req.Client, .int .i64 m.Req.No, .int .i64 m.Code, .string m.Body]), (0, [.int .i64 x.Client, .int .i64 x.No, .int .i64 x.Pg.Pool, .int .i64 x.Pg.No, .string x.Name, .int .i64 x.Op.Kind, .int .i64 x.Op.At, .string x.Op.Bytes, .int .i64 x.Begin, .int .i64 x.End, .int .i64 x.Code, .int .i64 x.Ver.Epoch, .int .i64 x.Ver.Seq, .string x.Body])]) 5 (fun N => N.1) (by kernel_rfl) ?_ ?_
  · repeat' ((conv => whnf); first | refine AndK.mk ?_ ?_ | refine HeldK.mk (by kernel_rfl) ?_ | refine CallK.mk _ (toCall_a _ x) ?_ | refine CallQ.mk _ (toCall_a _ x) ?_ | (refine CallK.mr _ (iEndCall_a _ x hn hbd m _ r1 e) (fun v M3 hl3 hv => ?_); replace hz := hz.trans hl3; obtain rfl := hv) | fail)
    all_goals exact ⟨⟨_, hz⟩, ⟨⟨rfl, rfl, rfl, rfl, rfl, rfl, rfl, rfl, trivial⟩, ⟨rfl, rfl, rfl, rfl, rfl, trivial⟩, rfl, rfl⟩, rfl⟩
  clear hz
  rintro ⟨M3, hl3⟩
  (conv => whnf)
  refine CallK.mk _ (eqCall_a _ (endF x m e).1) ?_
  (conv => whnf)
  refine CondK.no' (by simp) ?_
  (conv => whnf)
  have hz := Le.refl M3
  have hy3 := RMsg.mono (hl1.trans (hl2.trans hl3)) _ _ h1
  have rx3 := RMsg.mono hl3 _ _ r1
  refine DrawN.h {N : Mem // Le M3 N} (fun _ => [(55, .v (.bool false))]) (fun _ => []) 5 (fun N => N.1) (by kernel_rfl) ?_ ?_
  · repeat' ((conv => whnf); first | refine AndK.mk ?_ ?_ | refine HeldK.mk (by kernel_rfl) ?_ | (refine CallK.mr _ (toMsg_a _ m _ (RMsg.mono hz _ _ hy3) hs1) (fun v M4 hl4 hv => ?_); replace hz := hz.trans hl4; replace rx3 := RMsg.mono hl4 _ _ rx3; obtain ⟨cs3, rfl, r2⟩ := hv) | refine CallK.mk _ (eqMsg_a _ m _ _ rx3 r2) ?_ | fail)
    all_goals exact ⟨⟨_, hz⟩, ⟨⟨rfl, trivial⟩, trivial, rfl, rfl⟩, rfl⟩
  rintro ⟨N, hN⟩
  (conv => whnf)
  exact RetK.mk fun _ _ _ _ => rfl
end Go.Proofs.YtkadfdkalglblaaGreat.Hlp
