/- The law FnExactChunkOf by the light walk: it answers true. -/
import Derived.Test.YtpflpmdbgnmamaaFunL
namespace Go.Proofs.Ytpflpmdbgnmamaa.Hlp
open Go Go.RowKit Go.Proofs Go.Proofs.Ytpflpmdbgnmamaa.Lw
set_option linter.unusedVariables false
set_option linter.unusedSimpArgs false
set_option maxRecDepth 100000
set_option maxHeartbeats 4000000
theorem lawChunkOf_a (M : Mem) (x : GPgState) (name : ByteArray) (v : GVer) (pos : Int) (cs ds : List Value) (h0 : RPgState M x cs) (hb : name.size ≤ 9223372036854775807) (hv : RVer M v ds) : AnsR Try.prog M 5 #[.agg cs.toArray, .string name, .agg ds.toArray, .int .i64 pos] (fun _ v => v = .bool true) := by
  have h1 := h0
  obtain ⟨A0, c0, A1, c1, A2, c2, A3, c3, rfl, _⟩ := h1
  obtain ⟨rfl, _⟩ := hv
  refine ansR_of T (l := [.agg (List.toArray _), .string name, .agg (List.toArray _), .int .i64 pos]) mixed Try.func5 rfl (by kernel_rfl) (Nat.le_of_ble_eq_true rfl) ?_
  (conv => whnf)
  refine CondK.mk (fun hc => ?_) (fun hc => ?_)
  · exact RetK.mk fun _ _ _ _ => rfl
  clear hc
  (conv => whnf)
  refine CallK.mk _ (szPgState_a M x _ _ h0) ?_
  (conv => whnf)
  refine CondK.mk (fun hc => ?_) (fun hc => ?_)
  · exact RetK.mk fun _ _ _ _ => rfl
  have hs0 := (szPgState_ok h0 (left := 1048576) (by decide) (by decide) (by simpa using hc)).1
  clear hc
  (conv => whnf)
  have hz := Le.refl M
  refine DrawN.h {N : Mem // Le M N} (fun _ => [(1, .v (.string name)), (3, .v (.int .i64 pos)), (4, .p 0 0), (6, .p 1 0), (10, .p 2 0), (11, .v (.bool (chunkOfF x name v pos).2))]) (fun _ => [(2, [.string (chunkOfF x name v pos).1.Name, .int .i64 (chunkOfF x name v pos).1.Ver.Epoch, .int .i64 (chunkOfF x name v pos).1.Ver.Seq, .int .i64 (chunkOfF x name v pos).1.Pos, .int .i64 (chunkOfF x name v pos).1.Sum, .string (chunkOfF x name v pos).1.Bytes]), (1, [.int .i64 v.Epoch, .int .i64 v.Seq]), (0, [.int .i64 x.Pg.Pool, .int .i64 x.Pg.No, .int .i64 x.Seen, .int .i64 x.Started, .int .i64 x.Tail.Epoch, .int .i64 x.Tail.Seq, .slice A0 x.Base.length c0, .slice A1 x.Clients.length c1, .slice A2 x.Log.length c2, .int .i64 x.Firm.Epoch, .int .i64 x.Firm.Seq, .slice A3 x.Chunks.length c3])]) 3 (fun N => N.1) (by kernel_rfl) ?_ ?_
  · repeat' ((conv => whnf); first | refine AndK.mk ?_ ?_ | refine HeldK.mk (by kernel_rfl) ?_ | (refine CallK.mr _ (toPgState_a _ x _ (RPgState.mono hz _ _ h0) hs0) (fun v M3 hl3 hv => ?_); replace hz := hz.trans hl3; obtain ⟨cs3, rfl, r2⟩ := hv) | refine CallK.mk _ (toVer_a _ v) ?_ | refine CallK.mk _ (sChunkOf_a _ x _ r2 name v pos) ?_ | fail)
    all_goals exact ⟨⟨_, hz⟩, ⟨⟨rfl, rfl, rfl, rfl, rfl, rfl, trivial⟩, ⟨rfl, rfl, rfl, trivial⟩, rfl, rfl⟩, rfl⟩
  clear hz
  rintro ⟨M1, hl1⟩
  replace h0 := RPgState.mono hl1 _ _ h0
  (conv => whnf)
  refine CallK.mr _ (toPgState_a _ x _ h0 hs0) (fun v M2 hl2 hv => ?_)
  obtain ⟨cs2, rfl, r1⟩ := hv
  replace h0 := RPgState.mono hl2 _ _ h0
  have r1' := r1
  obtain ⟨B0, d0, B1, d1, B2, d2, B3, d3, rfl, _⟩ := r1'
  (conv => whnf)
  have hz := Le.refl M2
  refine DrawN.h {N : Mem // Le M2 N} (fun _ => [(4, .p 0 0), (10, .p 2 0), (11, .v (.bool (chunkOfF x name v pos).2)), (12, .p 3 0), (13, .p 4 0), (14, .v (.bool (chunkOfF x name v pos).2))]) (fun _ => [(4, [.string (chunkOfF x name v pos).1.Name, .int .i64 (chunkOfF x name v pos).1.Ver.Epoch, .int .i64 (chunkOfF x name v pos).1.Ver.Seq, .int .i64 (chunkOfF x name v pos).1.Pos, .int .i64 (chunkOfF x name v pos).1.Sum, .string (chunkOfF x name v pos).1.Bytes]), (3, [.int .i64 x.Pg.Pool, .int .i64 x.Pg.No, .int .i64 x.Seen, .int .i64 x.Started, .int .i64 x.Tail.Epoch, .int .i64 x.Tail.Seq, .slice B0 x.Base.length d0, .slice B1 x.Clients.length d1, .slice B2 x.Log.length d2, .int .i64 x.Firm.Epoch, .int .i64 x.Firm.Seq, .slice B3 x.Chunks.length d3]), (2, [.string (chunkOfF x name v pos).1.Name, .int .i64 (chunkOfF x name v pos).1.Ver.Epoch, .int .i64 (chunkOfF x name v pos).1.Ver.Seq, .int .i64 (chunkOfF x name v pos).1.Pos, .int .i64 (chunkOfF x name v pos).1.Sum, .string (chunkOfF x name v pos).1.Bytes]), (1, [.int .i64 v.Epoch, .int .i64 v.Seq]), (0, [.int .i64 x.Pg.Pool, .int .i64 x.Pg.No, .int .i64 x.Seen, .int .i64 x.Started, .int .i64 x.Tail.Epoch, .int .i64 x.Tail.Seq, .slice A0 x.Base.length c0, .slice A1 x.Clients.length c1, .slice A2 x.Log.length c2, .int .i64 x.Firm.Epoch, .int .i64 x.Firm.Seq, .slice A3 x.Chunks.length c3])]) 5 (fun N => N.1) (by kernel_rfl) ?_ ?_
  · repeat' ((conv => whnf); first | refine AndK.mk ?_ ?_ | refine HeldK.mk (by kernel_rfl) ?_ | refine CallK.mk _ (toVer_a _ v) ?_ | refine CallK.mk _ (chunkOf_a _ x _ r1 name v pos) ?_ | fail)
    all_goals exact ⟨⟨_, hz⟩, ⟨⟨rfl, rfl, rfl, rfl, rfl, rfl, trivial⟩, ⟨rfl, rfl, rfl, rfl, rfl, trivial⟩, rfl, rfl⟩, rfl⟩
  clear hz
  rintro ⟨M3, hl3⟩
  replace h0 := RPgState.mono hl3 _ _ h0
  replace r1 := RPgState.mono hl3 _ _ r1
  (conv => whnf)
  refine CallK.mk _ (eqChunk_a _ (chunkOfF x name v pos).1) ?_
  (conv => whnf)
  refine CondK.no' (by simp) ?_
  (conv => whnf)
  have hz := Le.refl M3
  refine DrawN.h {N : Mem // Le M3 N} (fun _ => [(57, .v (.bool false))]) (fun _ => []) 0 (fun N => N.1) (by kernel_rfl) ?_ ?_
  · repeat' ((conv => whnf); first | refine AndK.mk ?_ ?_ | refine HeldK.mk (by kernel_rfl) ?_ | (refine CallK.mr _ (toPgState_a _ x _ (RPgState.mono hz _ _ h0) hs0) (fun v M3 hl3 hv => ?_); replace hz := hz.trans hl3; replace r1 := RPgState.mono hl3 _ _ r1; obtain ⟨cs3, rfl, r2⟩ := hv) | refine CallK.mk _ (eqPgState_a _ x _ _ r1 r2) ?_ | fail)
    all_goals exact ⟨⟨_, hz⟩, ⟨⟨rfl, trivial⟩, trivial, rfl, rfl⟩, rfl⟩
  rintro ⟨N, hN⟩
  (conv => whnf)
  exact RetK.mk fun _ _ _ _ => rfl
end Go.Proofs.Ytpflpmdbgnmamaa.Hlp
