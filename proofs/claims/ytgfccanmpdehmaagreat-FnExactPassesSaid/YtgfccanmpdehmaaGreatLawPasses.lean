/- The law FnExactPasses by the light walk: it answers true. -/
import Derived.Test.YtgfccanmpdehmaaGreatFunS
namespace Go.Proofs.YtgfccanmpdehmaaGreat.Hlp
open Go Go.RowKit Go.Proofs Go.Proofs.YtgfccanmpdehmaaGreat.Lw
set_option linter.unusedVariables false
set_option linter.unusedSimpArgs false
set_option maxRecDepth 100000
set_option maxHeartbeats 4000000
theorem lawPasses_a (M : Mem) (x : GNet) (y : GMsg) (cs ds : List Value) (h0 : RNet M x cs) (h1 : RMsg M y ds) : AnsR Tryz.prog M 3 #[.agg cs.toArray, .agg ds.toArray] (fun _ v => v = .bool true) := by
  have h0' := h0
  have h1' := h1
  obtain ⟨A0, c0, A1, c1, rfl, _⟩ := h0'
  obtain ⟨B0, d0, B1, d1, B2, d2, B3, d3, rfl, _⟩ := h1'
  refine ansR_of T (l := [.agg (List.toArray _), .agg (List.toArray _)]) mixed Tryz.func3 rfl (by kernel_rfl) (Nat.le_of_ble_eq_true rfl) ?_
  (conv => whnf)
  refine CallK.mk _ (szNet_a M x _ _ h0) ?_
  (conv => whnf)
  refine CondK.mk (fun hc => ?_) (fun hc => ?_)
  · exact RetK.mk fun _ _ _ _ => rfl
  have hc0 : 0 ≤ szNet x 1048576 := by simpa using hc
  have hs0 := (szNet_ok h0 (left := 1048576) (by decide) (by decide) hc0).1
  have hc1 := (szNet_ok h0 (left := 1048576) (by decide) (by decide) hc0).2
  clear hc
  (conv => whnf)
  refine CallK.mk _ (szMsg_a M y _ _ h1) ?_
  (conv => whnf)
  refine CondK.mk (fun hc => ?_) (fun hc => ?_)
  · exact RetK.mk fun _ _ _ _ => rfl
  have hs1 := (szMsg_ok h1 (left := szNet x 1048576) hc0 hc1 (by simpa using hc)).1
  clear hc
  (conv => whnf)
  have hz := Le.refl M
  refine DrawN.h {N : Mem // Le M N} (fun _ => [(2, .p 0 0), (3, .p 1 0), (6, .v (.bool (passesF x y)))]) (fun _ => [(1, [.int .i64 y.Kind, .int .i64 y.From, .int .i64 y.To, .int .i64 y.Pg.Pool, .int .i64 y.Pg.No, .int .i64 y.Epoch, .string y.Name, .int .i64 y.Ver.Epoch, .int .i64 y.Ver.Seq, .int .i64 y.Firm.Epoch, .int .i64 y.Firm.Seq, .int .i64 y.State.Pg.Pool, .int .i64 y.State.Pg.No, .int .i64 y.State.Seen, .int .i64 y.State.Started, .int .i64 y.State.Tail.Epoch, .int .i64 y.State.Tail.Seq, .slice B0 y.State.Base.length d0, .slice B1 y.State.Clients.length d1, .slice B2 y.State.Log.length d2, .int .i64 y.State.Firm.Epoch, .int .i64 y.State.Firm.Seq, .slice B3 y.State.Chunks.length d3, .int .i64 y.Entry.Ver.Epoch, .int .i64 y.Entry.Ver.Seq, .int .i64 y.Entry.Prior.Epoch, .int .i64 y.Entry.Prior.Seq, .string y.Entry.Name, .bool y.Entry.Gone, .int .i64 y.Entry.Size, .int .i64 y.Entry.Sum, .int .i64 y.Entry.Req.Client, .int .i64 y.Entry.Req.No, .string y.Chunk.Name, .int .i64 y.Chunk.Ver.Epoch, .int .i64 y.Chunk.Ver.Seq, .int .i64 y.Chunk.Pos, .int .i64 y.Chunk.Sum, .string y.Chunk.Bytes, .int .i64 y.Op.Kind, .int .i64 y.Op.At, .string y.Op.Bytes, .int .i64 y.Req.Client, .int .i64 y.Req.No, .int .i64 y.Code, .string y.Body]), (0, [.slice A0 x.Flight.length c0, .slice A1 x.Cut.length c1])]) 2 (fun N => N.1) (by kernel_rfl) ?_ ?_
  · repeat' ((conv => whnf); first | refine AndK.mk ?_ ?_ | refine HeldK.mk (by kernel_rfl) ?_ | (refine CallK.mr _ (toNet_a _ x _ (RNet.mono hz _ _ h0) hs0) (fun v M3 hl3 hv => ?_); replace hz := hz.trans hl3; obtain ⟨cs3, rfl, r2⟩ := hv) | (refine CallK.mr _ (toMsg_a _ y _ (RMsg.mono hz _ _ h1) hs1) (fun v M3 hl3 hv => ?_); replace hz := hz.trans hl3; replace r2 := RNet.mono hl3 _ _ r2; obtain ⟨cs4, rfl, r3⟩ := hv) | refine CallK.mk _ (passesS_a _ x y _ _ r2 r3) ?_ | fail)
    all_goals exact ⟨⟨_, hz⟩, ⟨⟨rfl, rfl, rfl, trivial⟩, ⟨rfl, rfl, trivial⟩, rfl, rfl⟩, rfl⟩
  clear hz
  rintro ⟨M1, hl1⟩
  replace h0 := RNet.mono hl1 _ _ h0
  replace h1 := RMsg.mono hl1 _ _ h1
  (conv => whnf)
  refine CallK.mr _ (toNet_a _ x _ h0 hs0) (fun v M2 hl2 hv => ?_)
  obtain ⟨cs2, rfl, r2⟩ := hv
  replace h0 := RNet.mono hl2 _ _ h0
  replace h1 := RMsg.mono hl2 _ _ h1
  have r2' := r2
  obtain ⟨G0, g0, G1, g1, rfl, _⟩ := r2'
  (conv => whnf)
  refine CallK.mr _ (toMsg_a _ y _ h1 hs1) (fun v M3 hl3 hv => ?_)
  obtain ⟨cs3, rfl, r3⟩ := hv
  replace h0 := RNet.mono hl3 _ _ h0
  replace h1 := RMsg.mono hl3 _ _ h1
  replace r2 := RNet.mono hl3 _ _ r2
  have r3' := r3
  obtain ⟨I0, i0, I1, i1, I2, i2, I3, i3, rfl, _⟩ := r3'
  (conv => whnf)
  refine CallK.mr _ (passesI_a _ x y _ _ r2 r3) (fun v M3b hl3b hv => ?_)
  subst hv
  replace h0 := RNet.mono hl3b _ _ h0
  replace h1 := RMsg.mono hl3b _ _ h1
  replace r2 := RNet.mono hl3b _ _ r2
  replace r3 := RMsg.mono hl3b _ _ r3
  (conv => whnf)
  refine CondK.no' (by simp) ?_
  (conv => whnf)
  have hz := Le.refl M3b
  refine DrawN.h {N : Mem // Le M3b N} (fun _ => [(2, .p 0 0), (3, .p 1 0), (7, .p 2 0), (8, .p 3 0), (39, .v (.bool false))]) (fun _ => [(3, [.int .i64 y.Kind, .int .i64 y.From, .int .i64 y.To, .int .i64 y.Pg.Pool, .int .i64 y.Pg.No, .int .i64 y.Epoch, .string y.Name, .int .i64 y.Ver.Epoch, .int .i64 y.Ver.Seq, .int .i64 y.Firm.Epoch, .int .i64 y.Firm.Seq, .int .i64 y.State.Pg.Pool, .int .i64 y.State.Pg.No, .int .i64 y.State.Seen, .int .i64 y.State.Started, .int .i64 y.State.Tail.Epoch, .int .i64 y.State.Tail.Seq, .slice I0 y.State.Base.length i0, .slice I1 y.State.Clients.length i1, .slice I2 y.State.Log.length i2, .int .i64 y.State.Firm.Epoch, .int .i64 y.State.Firm.Seq, .slice I3 y.State.Chunks.length i3, .int .i64 y.Entry.Ver.Epoch, .int .i64 y.Entry.Ver.Seq, .int .i64 y.Entry.Prior.Epoch, .int .i64 y.Entry.Prior.Seq, .string y.Entry.Name, .bool y.Entry.Gone, .int .i64 y.Entry.Size, .int .i64 y.Entry.Sum, .int .i64 y.Entry.Req.Client, .int .i64 y.Entry.Req.No, .string y.Chunk.Name, .int .i64 y.Chunk.Ver.Epoch, .int .i64 y.Chunk.Ver.Seq, .int .i64 y.Chunk.Pos, .int .i64 y.Chunk.Sum, .string y.Chunk.Bytes, .int .i64 y.Op.Kind, .int .i64 y.Op.At, .string y.Op.Bytes, .int .i64 y.Req.Client, .int .i64 y.Req.No, .int .i64 y.Code, .string y.Body]), (2, [.slice G0 x.Flight.length g0, .slice G1 x.Cut.length g1]), (1, [.int .i64 y.Kind, .int .i64 y.From, .int .i64 y.To, .int .i64 y.Pg.Pool, .int .i64 y.Pg.No, .int .i64 y.Epoch, .string y.Name, .int .i64 y.Ver.Epoch, .int .i64 y.Ver.Seq, .int .i64 y.Firm.Epoch, .int .i64 y.Firm.Seq, .int .i64 y.State.Pg.Pool, .int .i64 y.State.Pg.No, .int .i64 y.State.Seen, .int .i64 y.State.Started, .int .i64 y.State.Tail.Epoch, .int .i64 y.State.Tail.Seq, .slice B0 y.State.Base.length d0, .slice B1 y.State.Clients.length d1, .slice B2 y.State.Log.length d2, .int .i64 y.State.Firm.Epoch, .int .i64 y.State.Firm.Seq, .slice B3 y.State.Chunks.length d3, .int .i64 y.Entry.Ver.Epoch, .int .i64 y.Entry.Ver.Seq, .int .i64 y.Entry.Prior.Epoch, .int .i64 y.Entry.Prior.Seq, .string y.Entry.Name, .bool y.Entry.Gone, .int .i64 y.Entry.Size, .int .i64 y.Entry.Sum, .int .i64 y.Entry.Req.Client, .int .i64 y.Entry.Req.No, .string y.Chunk.Name, .int .i64 y.Chunk.Ver.Epoch, .int .i64 y.Chunk.Ver.Seq, .int .i64 y.Chunk.Pos, .int .i64 y.Chunk.Sum, .string y.Chunk.Bytes, .int .i64 y.Op.Kind, .int .i64 y.Op.At, .string y.Op.Bytes, .int .i64 y.Req.Client, .int .i64 y.Req.No, .int .i64 y.Code, .string y.Body]), (0, [.slice A0 x.Flight.length c0, .slice A1 x.Cut.length c1])]) 4 (fun N => N.1) (by kernel_rfl) ?_ ?_
  · repeat' ((conv => whnf); first | refine AndK.mk ?_ ?_ | refine HeldK.mk (by kernel_rfl) ?_ | (refine CallK.mr _ (toNet_a _ x _ (RNet.mono hz _ _ h0) hs0) (fun v M4 hl4 hv => ?_); replace hz := hz.trans hl4; obtain ⟨cs5, rfl, r5⟩ := hv) | refine CallK.mk _ (eqNet_a _ x _ _ (RNet.mono hz _ _ r2) r5) ?_ | fail)
    all_goals exact ⟨⟨_, hz⟩, ⟨⟨rfl, rfl, rfl, rfl, rfl, trivial⟩, ⟨rfl, rfl, rfl, rfl, trivial⟩, rfl, rfl⟩, rfl⟩
  clear hz
  rintro ⟨M4, hl4⟩
  replace h1 := RMsg.mono hl4 _ _ h1
  replace r3 := RMsg.mono hl4 _ _ r3
  (conv => whnf)
  have hz := Le.refl M4
  refine DrawN.h {N : Mem // Le M4 N} (fun _ => [(44, .v (.bool false))]) (fun _ => []) 4 (fun N => N.1) (by kernel_rfl) ?_ ?_
  · repeat' ((conv => whnf); first | refine AndK.mk ?_ ?_ | refine HeldK.mk (by kernel_rfl) ?_ | (refine CallK.mr _ (toMsg_a _ y _ (RMsg.mono hz _ _ h1) hs1) (fun v M4 hl4 hv => ?_); replace hz := hz.trans hl4; obtain ⟨cs5, rfl, r5⟩ := hv) | refine CallK.mk _ (eqMsg_a _ y _ _ (RMsg.mono hz _ _ r3) r5) ?_ | fail)
    all_goals exact ⟨⟨_, hz⟩, ⟨⟨rfl, trivial⟩, trivial, rfl, rfl⟩, rfl⟩
  rintro ⟨M5, hl5⟩
  (conv => whnf)
  exact RetK.mk fun _ _ _ _ => rfl
end Go.Proofs.YtgfccanmpdehmaaGreat.Hlp
