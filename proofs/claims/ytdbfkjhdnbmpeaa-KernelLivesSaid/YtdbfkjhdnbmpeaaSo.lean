/- Layer 7 (sliced): the tail, whole (printed by gen/mk_so.py). -/
import Derived.Test.YtdbfkjhdnbmpeaaSn
namespace Go.Proofs.Ytdbfkjhdnbmpeaa.Sl
set_option linter.unusedSimpArgs false
set_option linter.unusedVariables false
open Go Go.RowKit Go.Proofs.Ytdbfkjhdnbmpeaa Go.Proofs.Ytdbfkjhdnbmpeaa.Mm Go.Proofs.Ytdbfkjhdnbmpeaa.Gf Go.Proofs.Ytdbfkjhdnbmpeaa.Wr Go.Proofs.Ytdbfkjhdnbmpeaa.St Go.Proofs.Ytdbfkjhdnbmpeaa.Wd

/-- The source is the target's own piece, or a list in another block. -/
def Src (w : World) (bd od bs os : Nat) (D l : List Nat) : Prop :=
  bs = bd ∧ os = od ∧ (∀ k, k < l.length → D.getD (od + k) 0 = l.getD k 0) ∨ bs ≠ bd ∧ ∀ k, k < l.length → w.cell? ⟨bs, os + k, none⟩ = some (.int .u8 ((l.getD k 0 : Nat) : Int))
theorem src_keep {w w' : World} {bd od bs os i : Nat} {D l : List Nat} (hb : But bd w w') (h : Src w bd od bs os D l) (hi : i < l.length) :
    bs = bd ∧ os = od ∧ (∀ k, k < l.length → D.getD (od + k) 0 = l.getD k 0) ∨ w'.cell? ⟨bs, os + i, none⟩ = some (.int .u8 ((l.getD i 0 : Nat) : Int)) := by
  rcases h with h | ⟨h1, h2⟩
  · exact .inl h
  · refine .inr ?_
    rw [hb.cell (p := ⟨bs, os + i, none⟩) (cell_lt (h2 i hi)) h1]
    exact h2 i hi

set_option maxRecDepth 100000 in
set_option maxHeartbeats 4000000 in
theorem tail_1 (c keep pb bd od n cd bs os cs : Nat) (D l : List Nat) (w : World) (hc : c < 256) (hk : keep < 256) (hp : Arr8 w pb (cols c)) (hne : pb ≠ bd) (hd : Bytes w bd D) (hn : 1 ≤ n) (ho : od + l.length ≤ D.length) (h8 : B8 l) (hD8 : B8 D) (hl : l.length = 1) (hs : Src w bd od bs os D l) :
    Calls Try.prog 84 #[.pointer (some ⟨pb, 0, none⟩), .slice (some ⟨bd, od, none⟩) n cd, .slice (some ⟨bs, os, none⟩) 1 cs, .int .u8 (keep : Int)] w fun e w' => e = .returned (.tuple #[]) ∧ St w w' [bt bd (Wr.wr D od (outs c keep od D l))] [] := by
  have HP := Lib.hid hp; have H8 := Lib.hid h8; have HD8 := Lib.hid hD8; have HL := Lib.hid hl; have HO := Lib.hid ho; have HS := Lib.hid hs
  have e0 : Wr.wr D (od + 1) ((outs c keep od D l).drop 1) = D := by rw [List.drop_of_length_le (by rw [outs_length, hl]; decide)]; rfl
  have h0 := St.start1 hd
  rw [← e0] at h0
  have h1 := (((h0.alloc 142 #[.pointer (some ⟨pb, 0, none⟩)]).alloc 39 #[.slice (some ⟨bd, od, none⟩) n cd]).alloc 39 #[.slice (some ⟨bs, os, none⟩) 1 cs]).alloc 5 #[.int .u8 (keep : Int)]
  simp only [World.size_alloc] at h1
  have S0 := Lib.hid h1
  clear hp h8 hD8 hl ho hs h0 h1 hd e0
  go_enter Try.func84, Try.ntmps84
  go_wp2_with fail
  refine (one_dn _ 0 c keep _ _ _ _ pb bd od n cd bs os 1 cs D l _ _ _ _ _ rfl hc hk (S0.out.but.blk HP.out hne) (S0.out.blk mem2) (S0.out.blk mem0) (S0.out.blk mem3) (S0.out.blk mem1) (by omega) (by omega) (by rw [HL.out]; decide) H8.out HD8.out HO.out (S0.out.blkW mem0) (src_keep S0.out.but HS.out (by rw [HL.out]; decide))).mono ?_
  rintro e w1 ⟨rfl, hh⟩
  have h1 := S0.out.callW (W1 := []) hh; clear hh S0
  try simp only [List.nil_append, List.cons_append, List.append_eq, Int.toNat_natCast] at h1
  have S1 := Lib.hid h1; clear h1
  go_wp2_with fail
  exact bodyPost_end (results_none rfl _ _ _) rfl ⟨rfl, S1.out.nil⟩

set_option maxRecDepth 100000 in
set_option maxHeartbeats 4000000 in
theorem tail_2 (c keep pb bd od n cd bs os cs : Nat) (D l : List Nat) (w : World) (hc : c < 256) (hk : keep < 256) (hp : Arr8 w pb (cols c)) (hne : pb ≠ bd) (hd : Bytes w bd D) (hn : 2 ≤ n) (ho : od + l.length ≤ D.length) (h8 : B8 l) (hD8 : B8 D) (hl : l.length = 2) (hs : Src w bd od bs os D l) :
    Calls Try.prog 84 #[.pointer (some ⟨pb, 0, none⟩), .slice (some ⟨bd, od, none⟩) n cd, .slice (some ⟨bs, os, none⟩) 2 cs, .int .u8 (keep : Int)] w fun e w' => e = .returned (.tuple #[]) ∧ St w w' [bt bd (Wr.wr D od (outs c keep od D l))] [] := by
  have HP := Lib.hid hp; have H8 := Lib.hid h8; have HD8 := Lib.hid hD8; have HL := Lib.hid hl; have HO := Lib.hid ho; have HS := Lib.hid hs
  have e0 : Wr.wr D (od + 2) ((outs c keep od D l).drop 2) = D := by rw [List.drop_of_length_le (by rw [outs_length, hl]; decide)]; rfl
  have h0 := St.start1 hd
  rw [← e0] at h0
  have h1 := (((h0.alloc 142 #[.pointer (some ⟨pb, 0, none⟩)]).alloc 39 #[.slice (some ⟨bd, od, none⟩) n cd]).alloc 39 #[.slice (some ⟨bs, os, none⟩) 2 cs]).alloc 5 #[.int .u8 (keep : Int)]
  simp only [World.size_alloc] at h1
  have S0 := Lib.hid h1
  clear hp h8 hD8 hl ho hs h0 h1 hd e0
  go_enter Try.func84, Try.ntmps84
  go_wp2_with fail
  refine (one_dn _ 1 c keep _ _ _ _ pb bd od n cd bs os 2 cs D l _ _ _ _ _ rfl hc hk (S0.out.but.blk HP.out hne) (S0.out.blk mem2) (S0.out.blk mem0) (S0.out.blk mem3) (S0.out.blk mem1) (by omega) (by omega) (by rw [HL.out]; decide) H8.out HD8.out HO.out (S0.out.blkW mem0) (src_keep S0.out.but HS.out (by rw [HL.out]; decide))).mono ?_
  rintro e w1 ⟨rfl, hh⟩
  have h1 := S0.out.callW (W1 := []) hh; clear hh S0
  try simp only [List.nil_append, List.cons_append, List.append_eq, Int.toNat_natCast] at h1
  have S1 := Lib.hid h1; clear h1
  go_wp2_with fail
  refine (one_dn _ 0 c keep _ _ _ _ pb bd od n cd bs os 2 cs D l _ _ _ _ _ rfl hc hk (S1.out.but.blk HP.out hne) (S1.out.blk mem2) (S1.out.blk mem0) (S1.out.blk mem3) (S1.out.blk mem1) (by omega) (by omega) (by rw [HL.out]; decide) H8.out HD8.out HO.out (S1.out.blkW mem0) (src_keep S1.out.but HS.out (by rw [HL.out]; decide))).mono ?_
  rintro e w2 ⟨rfl, hh⟩
  have h2 := S1.out.callW (W1 := []) hh; clear hh S1
  try simp only [List.nil_append, List.cons_append, List.append_eq, Int.toNat_natCast] at h2
  have S2 := Lib.hid h2; clear h2
  go_wp2_with fail
  exact bodyPost_end (results_none rfl _ _ _) rfl ⟨rfl, S2.out.nil⟩

set_option maxRecDepth 100000 in
set_option maxHeartbeats 4000000 in
theorem tail_3 (c keep pb bd od n cd bs os cs : Nat) (D l : List Nat) (w : World) (hc : c < 256) (hk : keep < 256) (hp : Arr8 w pb (cols c)) (hne : pb ≠ bd) (hd : Bytes w bd D) (hn : 3 ≤ n) (ho : od + l.length ≤ D.length) (h8 : B8 l) (hD8 : B8 D) (hl : l.length = 3) (hs : Src w bd od bs os D l) :
    Calls Try.prog 84 #[.pointer (some ⟨pb, 0, none⟩), .slice (some ⟨bd, od, none⟩) n cd, .slice (some ⟨bs, os, none⟩) 3 cs, .int .u8 (keep : Int)] w fun e w' => e = .returned (.tuple #[]) ∧ St w w' [bt bd (Wr.wr D od (outs c keep od D l))] [] := by
  have HP := Lib.hid hp; have H8 := Lib.hid h8; have HD8 := Lib.hid hD8; have HL := Lib.hid hl; have HO := Lib.hid ho; have HS := Lib.hid hs
  have e0 : Wr.wr D (od + 3) ((outs c keep od D l).drop 3) = D := by rw [List.drop_of_length_le (by rw [outs_length, hl]; decide)]; rfl
  have h0 := St.start1 hd
  rw [← e0] at h0
  have h1 := (((h0.alloc 142 #[.pointer (some ⟨pb, 0, none⟩)]).alloc 39 #[.slice (some ⟨bd, od, none⟩) n cd]).alloc 39 #[.slice (some ⟨bs, os, none⟩) 3 cs]).alloc 5 #[.int .u8 (keep : Int)]
  simp only [World.size_alloc] at h1
  have S0 := Lib.hid h1
  clear hp h8 hD8 hl ho hs h0 h1 hd e0
  go_enter Try.func84, Try.ntmps84
  go_wp2_with fail
  refine (one_dn _ 2 c keep _ _ _ _ pb bd od n cd bs os 3 cs D l _ _ _ _ _ rfl hc hk (S0.out.but.blk HP.out hne) (S0.out.blk mem2) (S0.out.blk mem0) (S0.out.blk mem3) (S0.out.blk mem1) (by omega) (by omega) (by rw [HL.out]; decide) H8.out HD8.out HO.out (S0.out.blkW mem0) (src_keep S0.out.but HS.out (by rw [HL.out]; decide))).mono ?_
  rintro e w1 ⟨rfl, hh⟩
  have h1 := S0.out.callW (W1 := []) hh; clear hh S0
  try simp only [List.nil_append, List.cons_append, List.append_eq, Int.toNat_natCast] at h1
  have S1 := Lib.hid h1; clear h1
  go_wp2_with fail
  refine (one_dn _ 1 c keep _ _ _ _ pb bd od n cd bs os 3 cs D l _ _ _ _ _ rfl hc hk (S1.out.but.blk HP.out hne) (S1.out.blk mem2) (S1.out.blk mem0) (S1.out.blk mem3) (S1.out.blk mem1) (by omega) (by omega) (by rw [HL.out]; decide) H8.out HD8.out HO.out (S1.out.blkW mem0) (src_keep S1.out.but HS.out (by rw [HL.out]; decide))).mono ?_
  rintro e w2 ⟨rfl, hh⟩
  have h2 := S1.out.callW (W1 := []) hh; clear hh S1
  try simp only [List.nil_append, List.cons_append, List.append_eq, Int.toNat_natCast] at h2
  have S2 := Lib.hid h2; clear h2
  go_wp2_with fail
  refine (one_dn _ 0 c keep _ _ _ _ pb bd od n cd bs os 3 cs D l _ _ _ _ _ rfl hc hk (S2.out.but.blk HP.out hne) (S2.out.blk mem2) (S2.out.blk mem0) (S2.out.blk mem3) (S2.out.blk mem1) (by omega) (by omega) (by rw [HL.out]; decide) H8.out HD8.out HO.out (S2.out.blkW mem0) (src_keep S2.out.but HS.out (by rw [HL.out]; decide))).mono ?_
  rintro e w3 ⟨rfl, hh⟩
  have h3 := S2.out.callW (W1 := []) hh; clear hh S2
  try simp only [List.nil_append, List.cons_append, List.append_eq, Int.toNat_natCast] at h3
  have S3 := Lib.hid h3; clear h3
  go_wp2_with fail
  exact bodyPost_end (results_none rfl _ _ _) rfl ⟨rfl, S3.out.nil⟩

set_option maxRecDepth 100000 in
set_option maxHeartbeats 4000000 in
theorem tail_4 (c keep pb bd od n cd bs os cs : Nat) (D l : List Nat) (w : World) (hc : c < 256) (hk : keep < 256) (hp : Arr8 w pb (cols c)) (hne : pb ≠ bd) (hd : Bytes w bd D) (hn : 4 ≤ n) (ho : od + l.length ≤ D.length) (h8 : B8 l) (hD8 : B8 D) (hl : l.length = 4) (hs : Src w bd od bs os D l) :
    Calls Try.prog 84 #[.pointer (some ⟨pb, 0, none⟩), .slice (some ⟨bd, od, none⟩) n cd, .slice (some ⟨bs, os, none⟩) 4 cs, .int .u8 (keep : Int)] w fun e w' => e = .returned (.tuple #[]) ∧ St w w' [bt bd (Wr.wr D od (outs c keep od D l))] [] := by
  have HP := Lib.hid hp; have H8 := Lib.hid h8; have HD8 := Lib.hid hD8; have HL := Lib.hid hl; have HO := Lib.hid ho; have HS := Lib.hid hs
  have e0 : Wr.wr D (od + 4) ((outs c keep od D l).drop 4) = D := by rw [List.drop_of_length_le (by rw [outs_length, hl]; decide)]; rfl
  have h0 := St.start1 hd
  rw [← e0] at h0
  have h1 := (((h0.alloc 142 #[.pointer (some ⟨pb, 0, none⟩)]).alloc 39 #[.slice (some ⟨bd, od, none⟩) n cd]).alloc 39 #[.slice (some ⟨bs, os, none⟩) 4 cs]).alloc 5 #[.int .u8 (keep : Int)]
  simp only [World.size_alloc] at h1
  have S0 := Lib.hid h1
  clear hp h8 hD8 hl ho hs h0 h1 hd e0
  go_enter Try.func84, Try.ntmps84
  go_wp2_with fail
  refine (one_dn _ 3 c keep _ _ _ _ pb bd od n cd bs os 4 cs D l _ _ _ _ _ rfl hc hk (S0.out.but.blk HP.out hne) (S0.out.blk mem2) (S0.out.blk mem0) (S0.out.blk mem3) (S0.out.blk mem1) (by omega) (by omega) (by rw [HL.out]; decide) H8.out HD8.out HO.out (S0.out.blkW mem0) (src_keep S0.out.but HS.out (by rw [HL.out]; decide))).mono ?_
  rintro e w1 ⟨rfl, hh⟩
  have h1 := S0.out.callW (W1 := []) hh; clear hh S0
  try simp only [List.nil_append, List.cons_append, List.append_eq, Int.toNat_natCast] at h1
  have S1 := Lib.hid h1; clear h1
  go_wp2_with fail
  refine (one_dn _ 2 c keep _ _ _ _ pb bd od n cd bs os 4 cs D l _ _ _ _ _ rfl hc hk (S1.out.but.blk HP.out hne) (S1.out.blk mem2) (S1.out.blk mem0) (S1.out.blk mem3) (S1.out.blk mem1) (by omega) (by omega) (by rw [HL.out]; decide) H8.out HD8.out HO.out (S1.out.blkW mem0) (src_keep S1.out.but HS.out (by rw [HL.out]; decide))).mono ?_
  rintro e w2 ⟨rfl, hh⟩
  have h2 := S1.out.callW (W1 := []) hh; clear hh S1
  try simp only [List.nil_append, List.cons_append, List.append_eq, Int.toNat_natCast] at h2
  have S2 := Lib.hid h2; clear h2
  go_wp2_with fail
  refine (one_dn _ 1 c keep _ _ _ _ pb bd od n cd bs os 4 cs D l _ _ _ _ _ rfl hc hk (S2.out.but.blk HP.out hne) (S2.out.blk mem2) (S2.out.blk mem0) (S2.out.blk mem3) (S2.out.blk mem1) (by omega) (by omega) (by rw [HL.out]; decide) H8.out HD8.out HO.out (S2.out.blkW mem0) (src_keep S2.out.but HS.out (by rw [HL.out]; decide))).mono ?_
  rintro e w3 ⟨rfl, hh⟩
  have h3 := S2.out.callW (W1 := []) hh; clear hh S2
  try simp only [List.nil_append, List.cons_append, List.append_eq, Int.toNat_natCast] at h3
  have S3 := Lib.hid h3; clear h3
  go_wp2_with fail
  refine (one_dn _ 0 c keep _ _ _ _ pb bd od n cd bs os 4 cs D l _ _ _ _ _ rfl hc hk (S3.out.but.blk HP.out hne) (S3.out.blk mem2) (S3.out.blk mem0) (S3.out.blk mem3) (S3.out.blk mem1) (by omega) (by omega) (by rw [HL.out]; decide) H8.out HD8.out HO.out (S3.out.blkW mem0) (src_keep S3.out.but HS.out (by rw [HL.out]; decide))).mono ?_
  rintro e w4 ⟨rfl, hh⟩
  have h4 := S3.out.callW (W1 := []) hh; clear hh S3
  try simp only [List.nil_append, List.cons_append, List.append_eq, Int.toNat_natCast] at h4
  have S4 := Lib.hid h4; clear h4
  go_wp2_with fail
  exact bodyPost_end (results_none rfl _ _ _) rfl ⟨rfl, S4.out.nil⟩

set_option maxRecDepth 100000 in
set_option maxHeartbeats 4000000 in
theorem tail_5 (c keep pb bd od n cd bs os cs : Nat) (D l : List Nat) (w : World) (hc : c < 256) (hk : keep < 256) (hp : Arr8 w pb (cols c)) (hne : pb ≠ bd) (hd : Bytes w bd D) (hn : 5 ≤ n) (ho : od + l.length ≤ D.length) (h8 : B8 l) (hD8 : B8 D) (hl : l.length = 5) (hs : Src w bd od bs os D l) :
    Calls Try.prog 84 #[.pointer (some ⟨pb, 0, none⟩), .slice (some ⟨bd, od, none⟩) n cd, .slice (some ⟨bs, os, none⟩) 5 cs, .int .u8 (keep : Int)] w fun e w' => e = .returned (.tuple #[]) ∧ St w w' [bt bd (Wr.wr D od (outs c keep od D l))] [] := by
  have HP := Lib.hid hp; have H8 := Lib.hid h8; have HD8 := Lib.hid hD8; have HL := Lib.hid hl; have HO := Lib.hid ho; have HS := Lib.hid hs
  have e0 : Wr.wr D (od + 5) ((outs c keep od D l).drop 5) = D := by rw [List.drop_of_length_le (by rw [outs_length, hl]; decide)]; rfl
  have h0 := St.start1 hd
  rw [← e0] at h0
  have h1 := (((h0.alloc 142 #[.pointer (some ⟨pb, 0, none⟩)]).alloc 39 #[.slice (some ⟨bd, od, none⟩) n cd]).alloc 39 #[.slice (some ⟨bs, os, none⟩) 5 cs]).alloc 5 #[.int .u8 (keep : Int)]
  simp only [World.size_alloc] at h1
  have S0 := Lib.hid h1
  clear hp h8 hD8 hl ho hs h0 h1 hd e0
  go_enter Try.func84, Try.ntmps84
  go_wp2_with fail
  refine (one_dn _ 4 c keep _ _ _ _ pb bd od n cd bs os 5 cs D l _ _ _ _ _ rfl hc hk (S0.out.but.blk HP.out hne) (S0.out.blk mem2) (S0.out.blk mem0) (S0.out.blk mem3) (S0.out.blk mem1) (by omega) (by omega) (by rw [HL.out]; decide) H8.out HD8.out HO.out (S0.out.blkW mem0) (src_keep S0.out.but HS.out (by rw [HL.out]; decide))).mono ?_
  rintro e w1 ⟨rfl, hh⟩
  have h1 := S0.out.callW (W1 := []) hh; clear hh S0
  try simp only [List.nil_append, List.cons_append, List.append_eq, Int.toNat_natCast] at h1
  have S1 := Lib.hid h1; clear h1
  go_wp2_with fail
  refine (one_dn _ 3 c keep _ _ _ _ pb bd od n cd bs os 5 cs D l _ _ _ _ _ rfl hc hk (S1.out.but.blk HP.out hne) (S1.out.blk mem2) (S1.out.blk mem0) (S1.out.blk mem3) (S1.out.blk mem1) (by omega) (by omega) (by rw [HL.out]; decide) H8.out HD8.out HO.out (S1.out.blkW mem0) (src_keep S1.out.but HS.out (by rw [HL.out]; decide))).mono ?_
  rintro e w2 ⟨rfl, hh⟩
  have h2 := S1.out.callW (W1 := []) hh; clear hh S1
  try simp only [List.nil_append, List.cons_append, List.append_eq, Int.toNat_natCast] at h2
  have S2 := Lib.hid h2; clear h2
  go_wp2_with fail
  refine (one_dn _ 2 c keep _ _ _ _ pb bd od n cd bs os 5 cs D l _ _ _ _ _ rfl hc hk (S2.out.but.blk HP.out hne) (S2.out.blk mem2) (S2.out.blk mem0) (S2.out.blk mem3) (S2.out.blk mem1) (by omega) (by omega) (by rw [HL.out]; decide) H8.out HD8.out HO.out (S2.out.blkW mem0) (src_keep S2.out.but HS.out (by rw [HL.out]; decide))).mono ?_
  rintro e w3 ⟨rfl, hh⟩
  have h3 := S2.out.callW (W1 := []) hh; clear hh S2
  try simp only [List.nil_append, List.cons_append, List.append_eq, Int.toNat_natCast] at h3
  have S3 := Lib.hid h3; clear h3
  go_wp2_with fail
  refine (one_dn _ 1 c keep _ _ _ _ pb bd od n cd bs os 5 cs D l _ _ _ _ _ rfl hc hk (S3.out.but.blk HP.out hne) (S3.out.blk mem2) (S3.out.blk mem0) (S3.out.blk mem3) (S3.out.blk mem1) (by omega) (by omega) (by rw [HL.out]; decide) H8.out HD8.out HO.out (S3.out.blkW mem0) (src_keep S3.out.but HS.out (by rw [HL.out]; decide))).mono ?_
  rintro e w4 ⟨rfl, hh⟩
  have h4 := S3.out.callW (W1 := []) hh; clear hh S3
  try simp only [List.nil_append, List.cons_append, List.append_eq, Int.toNat_natCast] at h4
  have S4 := Lib.hid h4; clear h4
  go_wp2_with fail
  refine (one_dn _ 0 c keep _ _ _ _ pb bd od n cd bs os 5 cs D l _ _ _ _ _ rfl hc hk (S4.out.but.blk HP.out hne) (S4.out.blk mem2) (S4.out.blk mem0) (S4.out.blk mem3) (S4.out.blk mem1) (by omega) (by omega) (by rw [HL.out]; decide) H8.out HD8.out HO.out (S4.out.blkW mem0) (src_keep S4.out.but HS.out (by rw [HL.out]; decide))).mono ?_
  rintro e w5 ⟨rfl, hh⟩
  have h5 := S4.out.callW (W1 := []) hh; clear hh S4
  try simp only [List.nil_append, List.cons_append, List.append_eq, Int.toNat_natCast] at h5
  have S5 := Lib.hid h5; clear h5
  go_wp2_with fail
  exact bodyPost_end (results_none rfl _ _ _) rfl ⟨rfl, S5.out.nil⟩

set_option maxRecDepth 100000 in
set_option maxHeartbeats 4000000 in
theorem tail_6 (c keep pb bd od n cd bs os cs : Nat) (D l : List Nat) (w : World) (hc : c < 256) (hk : keep < 256) (hp : Arr8 w pb (cols c)) (hne : pb ≠ bd) (hd : Bytes w bd D) (hn : 6 ≤ n) (ho : od + l.length ≤ D.length) (h8 : B8 l) (hD8 : B8 D) (hl : l.length = 6) (hs : Src w bd od bs os D l) :
    Calls Try.prog 84 #[.pointer (some ⟨pb, 0, none⟩), .slice (some ⟨bd, od, none⟩) n cd, .slice (some ⟨bs, os, none⟩) 6 cs, .int .u8 (keep : Int)] w fun e w' => e = .returned (.tuple #[]) ∧ St w w' [bt bd (Wr.wr D od (outs c keep od D l))] [] := by
  have HP := Lib.hid hp; have H8 := Lib.hid h8; have HD8 := Lib.hid hD8; have HL := Lib.hid hl; have HO := Lib.hid ho; have HS := Lib.hid hs
  have e0 : Wr.wr D (od + 6) ((outs c keep od D l).drop 6) = D := by rw [List.drop_of_length_le (by rw [outs_length, hl]; decide)]; rfl
  have h0 := St.start1 hd
  rw [← e0] at h0
  have h1 := (((h0.alloc 142 #[.pointer (some ⟨pb, 0, none⟩)]).alloc 39 #[.slice (some ⟨bd, od, none⟩) n cd]).alloc 39 #[.slice (some ⟨bs, os, none⟩) 6 cs]).alloc 5 #[.int .u8 (keep : Int)]
  simp only [World.size_alloc] at h1
  have S0 := Lib.hid h1
  clear hp h8 hD8 hl ho hs h0 h1 hd e0
  go_enter Try.func84, Try.ntmps84
  go_wp2_with fail
  refine (one_dn _ 5 c keep _ _ _ _ pb bd od n cd bs os 6 cs D l _ _ _ _ _ rfl hc hk (S0.out.but.blk HP.out hne) (S0.out.blk mem2) (S0.out.blk mem0) (S0.out.blk mem3) (S0.out.blk mem1) (by omega) (by omega) (by rw [HL.out]; decide) H8.out HD8.out HO.out (S0.out.blkW mem0) (src_keep S0.out.but HS.out (by rw [HL.out]; decide))).mono ?_
  rintro e w1 ⟨rfl, hh⟩
  have h1 := S0.out.callW (W1 := []) hh; clear hh S0
  try simp only [List.nil_append, List.cons_append, List.append_eq, Int.toNat_natCast] at h1
  have S1 := Lib.hid h1; clear h1
  go_wp2_with fail
  refine (one_dn _ 4 c keep _ _ _ _ pb bd od n cd bs os 6 cs D l _ _ _ _ _ rfl hc hk (S1.out.but.blk HP.out hne) (S1.out.blk mem2) (S1.out.blk mem0) (S1.out.blk mem3) (S1.out.blk mem1) (by omega) (by omega) (by rw [HL.out]; decide) H8.out HD8.out HO.out (S1.out.blkW mem0) (src_keep S1.out.but HS.out (by rw [HL.out]; decide))).mono ?_
  rintro e w2 ⟨rfl, hh⟩
  have h2 := S1.out.callW (W1 := []) hh; clear hh S1
  try simp only [List.nil_append, List.cons_append, List.append_eq, Int.toNat_natCast] at h2
  have S2 := Lib.hid h2; clear h2
  go_wp2_with fail
  refine (one_dn _ 3 c keep _ _ _ _ pb bd od n cd bs os 6 cs D l _ _ _ _ _ rfl hc hk (S2.out.but.blk HP.out hne) (S2.out.blk mem2) (S2.out.blk mem0) (S2.out.blk mem3) (S2.out.blk mem1) (by omega) (by omega) (by rw [HL.out]; decide) H8.out HD8.out HO.out (S2.out.blkW mem0) (src_keep S2.out.but HS.out (by rw [HL.out]; decide))).mono ?_
  rintro e w3 ⟨rfl, hh⟩
  have h3 := S2.out.callW (W1 := []) hh; clear hh S2
  try simp only [List.nil_append, List.cons_append, List.append_eq, Int.toNat_natCast] at h3
  have S3 := Lib.hid h3; clear h3
  go_wp2_with fail
  refine (one_dn _ 2 c keep _ _ _ _ pb bd od n cd bs os 6 cs D l _ _ _ _ _ rfl hc hk (S3.out.but.blk HP.out hne) (S3.out.blk mem2) (S3.out.blk mem0) (S3.out.blk mem3) (S3.out.blk mem1) (by omega) (by omega) (by rw [HL.out]; decide) H8.out HD8.out HO.out (S3.out.blkW mem0) (src_keep S3.out.but HS.out (by rw [HL.out]; decide))).mono ?_
  rintro e w4 ⟨rfl, hh⟩
  have h4 := S3.out.callW (W1 := []) hh; clear hh S3
  try simp only [List.nil_append, List.cons_append, List.append_eq, Int.toNat_natCast] at h4
  have S4 := Lib.hid h4; clear h4
  go_wp2_with fail
  refine (one_dn _ 1 c keep _ _ _ _ pb bd od n cd bs os 6 cs D l _ _ _ _ _ rfl hc hk (S4.out.but.blk HP.out hne) (S4.out.blk mem2) (S4.out.blk mem0) (S4.out.blk mem3) (S4.out.blk mem1) (by omega) (by omega) (by rw [HL.out]; decide) H8.out HD8.out HO.out (S4.out.blkW mem0) (src_keep S4.out.but HS.out (by rw [HL.out]; decide))).mono ?_
  rintro e w5 ⟨rfl, hh⟩
  have h5 := S4.out.callW (W1 := []) hh; clear hh S4
  try simp only [List.nil_append, List.cons_append, List.append_eq, Int.toNat_natCast] at h5
  have S5 := Lib.hid h5; clear h5
  go_wp2_with fail
  refine (one_dn _ 0 c keep _ _ _ _ pb bd od n cd bs os 6 cs D l _ _ _ _ _ rfl hc hk (S5.out.but.blk HP.out hne) (S5.out.blk mem2) (S5.out.blk mem0) (S5.out.blk mem3) (S5.out.blk mem1) (by omega) (by omega) (by rw [HL.out]; decide) H8.out HD8.out HO.out (S5.out.blkW mem0) (src_keep S5.out.but HS.out (by rw [HL.out]; decide))).mono ?_
  rintro e w6 ⟨rfl, hh⟩
  have h6 := S5.out.callW (W1 := []) hh; clear hh S5
  try simp only [List.nil_append, List.cons_append, List.append_eq, Int.toNat_natCast] at h6
  have S6 := Lib.hid h6; clear h6
  go_wp2_with fail
  exact bodyPost_end (results_none rfl _ _ _) rfl ⟨rfl, S6.out.nil⟩

set_option maxRecDepth 100000 in
set_option maxHeartbeats 4000000 in
theorem tail_7 (c keep pb bd od n cd bs os cs : Nat) (D l : List Nat) (w : World) (hc : c < 256) (hk : keep < 256) (hp : Arr8 w pb (cols c)) (hne : pb ≠ bd) (hd : Bytes w bd D) (hn : 7 ≤ n) (ho : od + l.length ≤ D.length) (h8 : B8 l) (hD8 : B8 D) (hl : l.length = 7) (hs : Src w bd od bs os D l) :
    Calls Try.prog 84 #[.pointer (some ⟨pb, 0, none⟩), .slice (some ⟨bd, od, none⟩) n cd, .slice (some ⟨bs, os, none⟩) 7 cs, .int .u8 (keep : Int)] w fun e w' => e = .returned (.tuple #[]) ∧ St w w' [bt bd (Wr.wr D od (outs c keep od D l))] [] := by
  have HP := Lib.hid hp; have H8 := Lib.hid h8; have HD8 := Lib.hid hD8; have HL := Lib.hid hl; have HO := Lib.hid ho; have HS := Lib.hid hs
  have e0 : Wr.wr D (od + 7) ((outs c keep od D l).drop 7) = D := by rw [List.drop_of_length_le (by rw [outs_length, hl]; decide)]; rfl
  have h0 := St.start1 hd
  rw [← e0] at h0
  have h1 := (((h0.alloc 142 #[.pointer (some ⟨pb, 0, none⟩)]).alloc 39 #[.slice (some ⟨bd, od, none⟩) n cd]).alloc 39 #[.slice (some ⟨bs, os, none⟩) 7 cs]).alloc 5 #[.int .u8 (keep : Int)]
  simp only [World.size_alloc] at h1
  have S0 := Lib.hid h1
  clear hp h8 hD8 hl ho hs h0 h1 hd e0
  go_enter Try.func84, Try.ntmps84
  go_wp2_with fail
  refine (one_dn _ 6 c keep _ _ _ _ pb bd od n cd bs os 7 cs D l _ _ _ _ _ rfl hc hk (S0.out.but.blk HP.out hne) (S0.out.blk mem2) (S0.out.blk mem0) (S0.out.blk mem3) (S0.out.blk mem1) (by omega) (by omega) (by rw [HL.out]; decide) H8.out HD8.out HO.out (S0.out.blkW mem0) (src_keep S0.out.but HS.out (by rw [HL.out]; decide))).mono ?_
  rintro e w1 ⟨rfl, hh⟩
  have h1 := S0.out.callW (W1 := []) hh; clear hh S0
  try simp only [List.nil_append, List.cons_append, List.append_eq, Int.toNat_natCast] at h1
  have S1 := Lib.hid h1; clear h1
  go_wp2_with fail
  refine (one_dn _ 5 c keep _ _ _ _ pb bd od n cd bs os 7 cs D l _ _ _ _ _ rfl hc hk (S1.out.but.blk HP.out hne) (S1.out.blk mem2) (S1.out.blk mem0) (S1.out.blk mem3) (S1.out.blk mem1) (by omega) (by omega) (by rw [HL.out]; decide) H8.out HD8.out HO.out (S1.out.blkW mem0) (src_keep S1.out.but HS.out (by rw [HL.out]; decide))).mono ?_
  rintro e w2 ⟨rfl, hh⟩
  have h2 := S1.out.callW (W1 := []) hh; clear hh S1
  try simp only [List.nil_append, List.cons_append, List.append_eq, Int.toNat_natCast] at h2
  have S2 := Lib.hid h2; clear h2
  go_wp2_with fail
  refine (one_dn _ 4 c keep _ _ _ _ pb bd od n cd bs os 7 cs D l _ _ _ _ _ rfl hc hk (S2.out.but.blk HP.out hne) (S2.out.blk mem2) (S2.out.blk mem0) (S2.out.blk mem3) (S2.out.blk mem1) (by omega) (by omega) (by rw [HL.out]; decide) H8.out HD8.out HO.out (S2.out.blkW mem0) (src_keep S2.out.but HS.out (by rw [HL.out]; decide))).mono ?_
  rintro e w3 ⟨rfl, hh⟩
  have h3 := S2.out.callW (W1 := []) hh; clear hh S2
  try simp only [List.nil_append, List.cons_append, List.append_eq, Int.toNat_natCast] at h3
  have S3 := Lib.hid h3; clear h3
  go_wp2_with fail
  refine (one_dn _ 3 c keep _ _ _ _ pb bd od n cd bs os 7 cs D l _ _ _ _ _ rfl hc hk (S3.out.but.blk HP.out hne) (S3.out.blk mem2) (S3.out.blk mem0) (S3.out.blk mem3) (S3.out.blk mem1) (by omega) (by omega) (by rw [HL.out]; decide) H8.out HD8.out HO.out (S3.out.blkW mem0) (src_keep S3.out.but HS.out (by rw [HL.out]; decide))).mono ?_
  rintro e w4 ⟨rfl, hh⟩
  have h4 := S3.out.callW (W1 := []) hh; clear hh S3
  try simp only [List.nil_append, List.cons_append, List.append_eq, Int.toNat_natCast] at h4
  have S4 := Lib.hid h4; clear h4
  go_wp2_with fail
  refine (one_dn _ 2 c keep _ _ _ _ pb bd od n cd bs os 7 cs D l _ _ _ _ _ rfl hc hk (S4.out.but.blk HP.out hne) (S4.out.blk mem2) (S4.out.blk mem0) (S4.out.blk mem3) (S4.out.blk mem1) (by omega) (by omega) (by rw [HL.out]; decide) H8.out HD8.out HO.out (S4.out.blkW mem0) (src_keep S4.out.but HS.out (by rw [HL.out]; decide))).mono ?_
  rintro e w5 ⟨rfl, hh⟩
  have h5 := S4.out.callW (W1 := []) hh; clear hh S4
  try simp only [List.nil_append, List.cons_append, List.append_eq, Int.toNat_natCast] at h5
  have S5 := Lib.hid h5; clear h5
  go_wp2_with fail
  refine (one_dn _ 1 c keep _ _ _ _ pb bd od n cd bs os 7 cs D l _ _ _ _ _ rfl hc hk (S5.out.but.blk HP.out hne) (S5.out.blk mem2) (S5.out.blk mem0) (S5.out.blk mem3) (S5.out.blk mem1) (by omega) (by omega) (by rw [HL.out]; decide) H8.out HD8.out HO.out (S5.out.blkW mem0) (src_keep S5.out.but HS.out (by rw [HL.out]; decide))).mono ?_
  rintro e w6 ⟨rfl, hh⟩
  have h6 := S5.out.callW (W1 := []) hh; clear hh S5
  try simp only [List.nil_append, List.cons_append, List.append_eq, Int.toNat_natCast] at h6
  have S6 := Lib.hid h6; clear h6
  go_wp2_with fail
  refine (one_dn _ 0 c keep _ _ _ _ pb bd od n cd bs os 7 cs D l _ _ _ _ _ rfl hc hk (S6.out.but.blk HP.out hne) (S6.out.blk mem2) (S6.out.blk mem0) (S6.out.blk mem3) (S6.out.blk mem1) (by omega) (by omega) (by rw [HL.out]; decide) H8.out HD8.out HO.out (S6.out.blkW mem0) (src_keep S6.out.but HS.out (by rw [HL.out]; decide))).mono ?_
  rintro e w7 ⟨rfl, hh⟩
  have h7 := S6.out.callW (W1 := []) hh; clear hh S6
  try simp only [List.nil_append, List.cons_append, List.append_eq, Int.toNat_natCast] at h7
  have S7 := Lib.hid h7; clear h7
  go_wp2_with fail
  exact bodyPost_end (results_none rfl _ _ _) rfl ⟨rfl, S7.out.nil⟩

end Go.Proofs.Ytdbfkjhdnbmpeaa.Sl
