/- Layer 7 (sliced): the tail at whatever length. -/
import Derived.Test.YtdbfkjhdnbmpeaaSo
namespace Go.Proofs.Ytdbfkjhdnbmpeaa.Sl
set_option linter.unusedSimpArgs false
set_option linter.unusedVariables false
open Go Go.RowKit Go.Proofs.Ytdbfkjhdnbmpeaa Go.Proofs.Ytdbfkjhdnbmpeaa.Mm Go.Proofs.Ytdbfkjhdnbmpeaa.Gf Go.Proofs.Ytdbfkjhdnbmpeaa.Wr Go.Proofs.Ytdbfkjhdnbmpeaa.St Go.Proofs.Ytdbfkjhdnbmpeaa.Wd

set_option maxRecDepth 100000 in
theorem tail_zero (pb : Nat) (A B : Option Addr) (n cd cs : Nat) (keep : Int) (w : World) :
    Calls Try.prog 84 #[.pointer (some ⟨pb, 0, none⟩), .slice A n cd, .slice B 0 cs, .int .u8 keep] w fun e w' => e = .returned (.tuple #[]) ∧ St w w' [] [] := by
  have S0 := Lib.hid (((((St.start w).alloc 142 #[.pointer (some ⟨pb, 0, none⟩)]).alloc 39 #[.slice A n cd]).alloc 39 #[.slice B 0 cs]).alloc 5 #[.int .u8 keep])
  go_enter Try.func84, Try.ntmps84
  go_wp2_with fail
  exact bodyPost_end (results_none rfl _ _ _) rfl ⟨rfl, S0.out.nil⟩

theorem tail_at (c keep pb bd od n cd bs os m cs : Nat) (D l : List Nat) (w : World) (hc : c < 256) (hk : keep < 256) (hp : Arr8 w pb (cols c)) (hne : pb ≠ bd) (hd : Bytes w bd D) (hm0 : 0 < m) (hm : m < 8) (hn : m ≤ n) (ho : od + l.length ≤ D.length) (h8 : B8 l) (hD8 : B8 D) (hl : l.length = m) (hs : Src w bd od bs os D l) :
    Calls Try.prog 84 #[.pointer (some ⟨pb, 0, none⟩), .slice (some ⟨bd, od, none⟩) n cd, .slice (some ⟨bs, os, none⟩) m cs, .int .u8 (keep : Int)] w fun e w' => e = .returned (.tuple #[]) ∧ St w w' [bt bd (Wr.wr D od (outs c keep od D l))] [] := by
  have : m = 1 ∨ m = 2 ∨ m = 3 ∨ m = 4 ∨ m = 5 ∨ m = 6 ∨ m = 7 := by omega
  rcases this with rfl | rfl | rfl | rfl | rfl | rfl | rfl
  · exact tail_1 c keep pb bd od n cd bs os cs D l w hc hk hp hne hd hn ho h8 hD8 hl hs
  · exact tail_2 c keep pb bd od n cd bs os cs D l w hc hk hp hne hd hn ho h8 hD8 hl hs
  · exact tail_3 c keep pb bd od n cd bs os cs D l w hc hk hp hne hd hn ho h8 hD8 hl hs
  · exact tail_4 c keep pb bd od n cd bs os cs D l w hc hk hp hne hd hn ho h8 hD8 hl hs
  · exact tail_5 c keep pb bd od n cd bs os cs D l w hc hk hp hne hd hn ho h8 hD8 hl hs
  · exact tail_6 c keep pb bd od n cd bs os cs D l w hc hk hp hne hd hn ho h8 hD8 hl hs
  · exact tail_7 c keep pb bd od n cd bs os cs D l w hc hk hp hne hd hn ho h8 hD8 hl hs

end Go.Proofs.Ytdbfkjhdnbmpeaa.Sl
