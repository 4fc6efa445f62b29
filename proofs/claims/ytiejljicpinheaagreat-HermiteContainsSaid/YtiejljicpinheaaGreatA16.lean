import Derived.Test.YtiejljicpinheaaGreatA15
namespace Go.Proofs.YtiejljicpinheaaGreat
open Go.W Go.LM Go.LA
theorem lK {cn : Bool} {K n cap : Nat} {w : World} {a : Option Addr} {s : Nat → SD} {A : Mat} (hM : MX cn K w a n n s A) (hn : 1 ≤ n ∧ n ≤ 16) (hK : 16 * K + 17 ≤ 4398046511104) :
  CallsR Tryz.prog 91 #[.slice a n cap] w fun v w' => ∃ u, v = .tuple #[u, .bool true] ∧ RetZ w (det n A) u w' := by
 refine aF (args := [_]) Tryz.func91 rfl rfl ?_
 repeat' (first|refine aG (fun g1 w1 hn1 => ⟨fun _ _ => trivial, ?_⟩)|refine ai rfl ?_|refine aa ?_|refine aj ?_|refine ah rfl ?_|refine ae ?_)
 have hb1 : Blk w1 g1 43 (intL false none 0 0) := hn1.blk
 refine aw (dm (hM.ext hn1.ex).top) rfl ?_
 rintro v w2 ⟨rfl, hE2⟩
 refine ⟨fun _ _ => trivial, ?_⟩
 rw [cz hM hn hn]
 have hE := hn1.ex.trans hE2
 repeat' (first|refine cN rfl rfl rfl ?_|refine ai rfl ?_|refine aa ?_|refine aj ?_|refine ah rfl ?_|refine ae ?_|refine bz rfl rfl ?_|refine au rfl ?_|refine aE ?_)
 refine aw (jo (hM.ext hE) hn hK) rfl ?_
 rintro v w3 ⟨hI, hE3⟩
 refine ⟨fun _ _ => trivial, ?_⟩
 obtain ⟨x, rfl⟩ := hI.ih
 have hb3 := (hb1.ext hE2).ext hE3
 refine ax (n := 2) (vs := x.cells) rfl rfl rfl rfl hb3 rfl (fun w4 hc4 hb4 => ⟨fun _ _ => trivial, ?_⟩)
 repeat' (first|refine ai rfl ?_|refine aa ?_|refine ae ?_|refine aI ?_)
 exact cA rfl (rc rfl rfl hb4) (rt rfl) ⟨_, rfl, (hI.gbN hb3 (aB _ _ _ _) (bw hc4)).mono hE.size, (hE.trans hE3).chg hc4 hn1.lo⟩
end Go.Proofs.YtiejljicpinheaaGreat
