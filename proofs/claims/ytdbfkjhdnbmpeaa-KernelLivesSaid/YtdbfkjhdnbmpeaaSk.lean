/- Layer 9 (kernel): the sets over the three backends: Mul and MulAdd, through the interface (printed by gen/mk_sk.py). -/
import Derived.Test.YtdbfkjhdnbmpeaaRl
import Derived.Test.YtdbfkjhdnbmpeaaTn
import Derived.Test.YtdbfkjhdnbmpeaaNs
import Derived.Test.YtdbfkjhdnbmpeaaK2
namespace Go.Proofs.Ytdbfkjhdnbmpeaa.Sk
set_option linter.unusedSimpArgs false
set_option linter.unusedVariables false
open Go Go.RowKit Go.Proofs.Ytdbfkjhdnbmpeaa Go.Proofs.Ytdbfkjhdnbmpeaa.Mm Go.Proofs.Ytdbfkjhdnbmpeaa.Gf Go.Proofs.Ytdbfkjhdnbmpeaa.Wr Go.Proofs.Ytdbfkjhdnbmpeaa.Tb Go.Proofs.Ytdbfkjhdnbmpeaa.St
open Go.Proofs.Ytdbfkjhdnbmpeaa.Sl (Srcs)
open Go.Proofs.Ytdbfkjhdnbmpeaa.Tk (tabL)

/-- A set over the backend j at block p: its blocks. -/
def SetE (p j : Nat) (S : List Ent) : Prop :=
  (j = 0 ∧ ∃ kb, S = [⟨p, 79, #[.iface 88 (.pointer (some ⟨kb, 0, none⟩)), .int .i64 0]⟩, ⟨kb, 104, row .u8 tabL⟩]) ∨
  (j = 1 ∧ ∃ x, S = [⟨p, 79, #[.iface 90 (.pointer (some x)), .int .i64 1]⟩]) ∨
  (j = 2 ∧ ∃ x, S = [⟨p, 79, #[.iface 92 (.pointer (some x)), .int .i64 2]⟩])
/-- The set's blocks are there. -/
def There (w : World) (S : List Ent) : Prop := ∀ e ∈ S, Blk w e.b e.t e.c
theorem There.keep {w0 w : World} {W N S : List Ent} (h : There w0 S) (hs : St w0 w W N) (hne : ∀ e ∈ S, ∀ x ∈ W, x.b ≠ e.b) : There w S := fun e he => hs.keepB (h e he) (hne e he)
theorem There.of {w0 w : World} {W N S : List Ent} (hs : St w0 w W N) (hm : ∀ e ∈ S, e ∈ N) : There w S := fun e he => (hs.new e (hm e he)).2
theorem SetE.head {p j : Nat} {S : List Ent} (h : SetE p j S) : ∃ c r, S = ⟨p, 79, c⟩ :: r := by
  rcases h with ⟨_, kb, rfl⟩ | ⟨_, x, rfl⟩ | ⟨_, x, rfl⟩ <;> exact ⟨_, _, rfl⟩

/-- Where a source may lie: in another block, or it is the target's own piece. -/
def SrcK (w : World) (bd od : Nat) (A : Option Addr) (D l : List Nat) : Prop := (Rd w A l ∧ Off [bd] A) ∨ (A = some ⟨bd, od, none⟩ ∧ ∀ k, k < l.length → D.getD (od + k) 0 = l.getD k 0)
theorem SrcK.rd {w : World} {bd od : Nat} {A : Option Addr} {D l : List Nat} (hd : Bytes w bd D) (ho : od + l.length ≤ D.length) (h : SrcK w bd od A D l) : Rd w A l := by
  rcases h with h | ⟨rfl, h⟩
  · exact h.1
  · exact fun h0 => ⟨bd, od, rfl, fun i hi => by rw [hd.cellRow (i := od + i) (by omega), h i hi]⟩
theorem SrcK.al {w : World} {bd od : Nat} {A : Option Addr} {D l : List Nat} (h : SrcK w bd od A D l) : ∀ b o, A = some ⟨b, o, none⟩ → b ≠ bd ∨ od ≤ o := by
  intro b o e
  rcases h with h | ⟨rfl, h⟩
  · have := h.2 _ e
    exact .inl (by simpa using this)
  · injection e with e; injection e with e1 e2 _
    exact .inr (by omega)
theorem SrcK.srcs {w : World} {bd od : Nat} {A : Option Addr} {D l : List Nat} (h : SrcK w bd od A D l) : Srcs w bd od A D l := by
  rcases h with h | ⟨rfl, h⟩
  · exact Sl.Srcs.other h.1 (fun a e => by have := h.2 a e; simpa using this)
  · exact Sl.Srcs.own h

set_option maxRecDepth 100000 in
set_option maxHeartbeats 1000000 in
theorem mul_table {p : Nat} {x : Addr} {c v1 v2 : Value} {w : World} {r : Int} {Q : World → Prop} (hb : Blk w p 79 #[.iface 88 (.pointer (some x)), .int .i64 0])
    (hc : Calls Try.prog 69 #[.pointer (some x), c, v1, v2] w fun e w' => e = .returned (.int .i64 r) ∧ Q w') : Calls Try.prog 26 #[.pointer (some ⟨p, 0, none⟩), c, v1, v2] w fun e w' => e = .returned (.int .i64 r) ∧ Q w' := by
  have hm : ∀ w : World, (method 249 88 (.pointer (some x)) "Mul").run Try.prog w = .ok (69, .pointer (some x)) w := fun w => by kernel_rfl
  have m0 := hb.cell (i := 0) rfl
  have HC := Lib.hid hc
  clear hc hb
  go_enter Try.func26, Try.ntmps26
  go_wp2_with fail
  refine HC.out.mono ?_
  rintro e w' ⟨rfl, hq⟩
  have HQ := Lib.hid hq; clear hq
  go_wp2_with fail
  go_ret
  exact ⟨rfl, HQ.out⟩

set_option maxRecDepth 100000 in
set_option maxHeartbeats 1000000 in
theorem mul_nibble {p : Nat} {x : Addr} {c v1 v2 : Value} {w : World} {r : Int} {Q : World → Prop} (hb : Blk w p 79 #[.iface 90 (.pointer (some x)), .int .i64 1])
    (hc : Calls Try.prog 73 #[.pointer (some x), c, v1, v2] w fun e w' => e = .returned (.int .i64 r) ∧ Q w') : Calls Try.prog 26 #[.pointer (some ⟨p, 0, none⟩), c, v1, v2] w fun e w' => e = .returned (.int .i64 r) ∧ Q w' := by
  have hm : ∀ w : World, (method 249 90 (.pointer (some x)) "Mul").run Try.prog w = .ok (73, .pointer (some x)) w := fun w => by kernel_rfl
  have m0 := hb.cell (i := 0) rfl
  have HC := Lib.hid hc
  clear hc hb
  go_enter Try.func26, Try.ntmps26
  go_wp2_with fail
  refine HC.out.mono ?_
  rintro e w' ⟨rfl, hq⟩
  have HQ := Lib.hid hq; clear hq
  go_wp2_with fail
  go_ret
  exact ⟨rfl, HQ.out⟩

set_option maxRecDepth 100000 in
set_option maxHeartbeats 1000000 in
theorem mul_sliced {p : Nat} {x : Addr} {c v1 v2 : Value} {w : World} {r : Int} {Q : World → Prop} (hb : Blk w p 79 #[.iface 92 (.pointer (some x)), .int .i64 2])
    (hc : Calls Try.prog 76 #[.pointer (some x), c, v1, v2] w fun e w' => e = .returned (.int .i64 r) ∧ Q w') : Calls Try.prog 26 #[.pointer (some ⟨p, 0, none⟩), c, v1, v2] w fun e w' => e = .returned (.int .i64 r) ∧ Q w' := by
  have hm : ∀ w : World, (method 249 92 (.pointer (some x)) "Mul").run Try.prog w = .ok (76, .pointer (some x)) w := fun w => by kernel_rfl
  have m0 := hb.cell (i := 0) rfl
  have HC := Lib.hid hc
  clear hc hb
  go_enter Try.func26, Try.ntmps26
  go_wp2_with fail
  refine HC.out.mono ?_
  rintro e w' ⟨rfl, hq⟩
  have HQ := Lib.hid hq; clear hq
  go_wp2_with fail
  go_ret
  exact ⟨rfl, HQ.out⟩

set_option maxRecDepth 100000 in
set_option maxHeartbeats 1000000 in
theorem add_table {p : Nat} {x : Addr} {c v1 v2 : Value} {w : World} {r : Int} {Q : World → Prop} (hb : Blk w p 79 #[.iface 88 (.pointer (some x)), .int .i64 0])
    (hc : Calls Try.prog 70 #[.pointer (some x), c, v1, v2] w fun e w' => e = .returned (.int .i64 r) ∧ Q w') : Calls Try.prog 17 #[.pointer (some ⟨p, 0, none⟩), c, v1, v2] w fun e w' => e = .returned (.int .i64 r) ∧ Q w' := by
  have hm : ∀ w : World, (method 249 88 (.pointer (some x)) "MulAdd").run Try.prog w = .ok (70, .pointer (some x)) w := fun w => by kernel_rfl
  have m0 := hb.cell (i := 0) rfl
  have HC := Lib.hid hc
  clear hc hb
  go_enter Try.func17, Try.ntmps17
  go_wp2_with fail
  refine HC.out.mono ?_
  rintro e w' ⟨rfl, hq⟩
  have HQ := Lib.hid hq; clear hq
  go_wp2_with fail
  go_ret
  exact ⟨rfl, HQ.out⟩

set_option maxRecDepth 100000 in
set_option maxHeartbeats 1000000 in
theorem add_nibble {p : Nat} {x : Addr} {c v1 v2 : Value} {w : World} {r : Int} {Q : World → Prop} (hb : Blk w p 79 #[.iface 90 (.pointer (some x)), .int .i64 1])
    (hc : Calls Try.prog 74 #[.pointer (some x), c, v1, v2] w fun e w' => e = .returned (.int .i64 r) ∧ Q w') : Calls Try.prog 17 #[.pointer (some ⟨p, 0, none⟩), c, v1, v2] w fun e w' => e = .returned (.int .i64 r) ∧ Q w' := by
  have hm : ∀ w : World, (method 249 90 (.pointer (some x)) "MulAdd").run Try.prog w = .ok (74, .pointer (some x)) w := fun w => by kernel_rfl
  have m0 := hb.cell (i := 0) rfl
  have HC := Lib.hid hc
  clear hc hb
  go_enter Try.func17, Try.ntmps17
  go_wp2_with fail
  refine HC.out.mono ?_
  rintro e w' ⟨rfl, hq⟩
  have HQ := Lib.hid hq; clear hq
  go_wp2_with fail
  go_ret
  exact ⟨rfl, HQ.out⟩

set_option maxRecDepth 100000 in
set_option maxHeartbeats 1000000 in
theorem add_sliced {p : Nat} {x : Addr} {c v1 v2 : Value} {w : World} {r : Int} {Q : World → Prop} (hb : Blk w p 79 #[.iface 92 (.pointer (some x)), .int .i64 2])
    (hc : Calls Try.prog 77 #[.pointer (some x), c, v1, v2] w fun e w' => e = .returned (.int .i64 r) ∧ Q w') : Calls Try.prog 17 #[.pointer (some ⟨p, 0, none⟩), c, v1, v2] w fun e w' => e = .returned (.int .i64 r) ∧ Q w' := by
  have hm : ∀ w : World, (method 249 92 (.pointer (some x)) "MulAdd").run Try.prog w = .ok (77, .pointer (some x)) w := fun w => by kernel_rfl
  have m0 := hb.cell (i := 0) rfl
  have HC := Lib.hid hc
  clear hc hb
  go_enter Try.func17, Try.ntmps17
  go_wp2_with fail
  refine HC.out.mono ?_
  rintro e w' ⟨rfl, hq⟩
  have HQ := Lib.hid hq; clear hq
  go_wp2_with fail
  go_ret
  exact ⟨rfl, HQ.out⟩

theorem smul_at {p j : Nat} {S : List Ent} {c : Int} {bd od n cd : Nat} {A : Option Addr} {cs : Nat} {D l : List Nat} {w : World} (hS : SetE p j S) (hb : There w S) (hne : ∀ e ∈ S, e.b ≠ bd) (hc0 : 0 ≤ c) (hc : c < 256) (hd : Bytes w bd D) (ho : od + n ≤ D.length) (hl : l.length = n) (h8 : B8 l) (hD8 : B8 D) (hcd : n ≤ cd) (hcs : n ≤ cs) (hnm : n ≤ 281474976710656)
    (hs : SrcK w bd od A D l) :
    Calls Try.prog 26 #[.pointer (some ⟨p, 0, none⟩), .int .u8 c, .slice (some ⟨bd, od, none⟩) n cd, .slice A n cs] w fun e w' => e = .returned (.int .i64 0) ∧ St w w' [bt bd (Wr.wr D od (l.map (gm c.toNat)))] [] := by
  have hrd : Rd w A l := hs.rd hd (by omega)
  rcases hS with ⟨_, kb, rfl⟩ | ⟨_, x, rfl⟩ | ⟨_, x, rfl⟩
  · refine mul_table (hb _ mem0) ?_
    obtain ⟨c, rfl⟩ := Int.eq_ofNat_of_zero_le hc0
    exact Tk.mul_at c kb bd od n cd A cs D l w (by omega) (hb _ mem1) hd (hne _ mem1) ho hl h8 hD8 hnm hrd hs.al
  · refine mul_nibble (hb _ mem0) ?_
    obtain ⟨c, rfl⟩ := Int.eq_ofNat_of_zero_le hc0
    exact (Nb.mul_calls x c bd od n cd A cs D l w (by omega) hd ho hl h8 hD8 (by omega) hrd hs.al).mono fun e w' ⟨he, hm, hk⟩ => ⟨he, .of_but hk hm hd.lt⟩
  · refine mul_sliced (hb _ mem0) ?_
    have := Sl.mul_at (p := x) (cd := cd) (cs := cs) hc0 hc hd ho hl h8 hD8 hcd hcs hnm hs.srcs
    try rw [hl] at this
    exact this
theorem smul_lens {p j : Nat} {S : List Ent} {c : Int} {n m c1 c2 : Nat} {A1 A2 : Option Addr} {w : World} (hS : SetE p j S) (hb : There w S) (h : n ≠ m) :
    Calls Try.prog 26 #[.pointer (some ⟨p, 0, none⟩), .int .u8 c, .slice A1 n c1, .slice A2 m c2] w fun e w' => e = .returned (.int .i64 6) ∧ w = w' := by
  rcases hS with ⟨_, kb, rfl⟩ | ⟨_, x, rfl⟩ | ⟨_, x, rfl⟩
  · exact mul_table (hb _ mem0) (Tk.mul_lens _ c A1 A2 n m c1 c2 w h)
  · exact mul_nibble (hb _ mem0) (Nb.mul_lens _ c A1 A2 n m c1 c2 w h)
  · exact mul_sliced (hb _ mem0) (Sl.mul_lens _ c A1 A2 n m c1 c2 w h)
set_option maxRecDepth 100000 in
theorem smul_nil (c v1 v2 : Value) (w : World) : Calls Try.prog 26 #[.pointer none, c, v1, v2] w fun e w' => e = .returned (.int .i64 1) ∧ w = w' := by
  go_enter Try.func26, Try.ntmps26
  go_wp2
  go_ret
  exact ⟨rfl, rfl⟩

theorem sadd_at {p j : Nat} {S : List Ent} {c : Int} {bd od n cd : Nat} {A : Option Addr} {cs : Nat} {D l : List Nat} {w : World} (hS : SetE p j S) (hb : There w S) (hne : ∀ e ∈ S, e.b ≠ bd) (hc0 : 0 ≤ c) (hc : c < 256) (hd : Bytes w bd D) (ho : od + n ≤ D.length) (hl : l.length = n) (h8 : B8 l) (hD8 : B8 D) (hcd : n ≤ cd) (hcs : n ≤ cs) (hnm : n ≤ 281474976710656)
    (hs : SrcK w bd od A D l) :
    Calls Try.prog 17 #[.pointer (some ⟨p, 0, none⟩), .int .u8 c, .slice (some ⟨bd, od, none⟩) n cd, .slice A n cs] w fun e w' => e = .returned (.int .i64 0) ∧ St w w' [bt bd (Wr.wr D od ((List.range n).map fun i => D.getD (od + i) 0 ^^^ gm c.toNat (l.getD i 0)))] [] := by
  have hrd : Rd w A l := hs.rd hd (by omega)
  rcases hS with ⟨_, kb, rfl⟩ | ⟨_, x, rfl⟩ | ⟨_, x, rfl⟩
  · refine add_table (hb _ mem0) ?_
    obtain ⟨c, rfl⟩ := Int.eq_ofNat_of_zero_le hc0
    exact Tk.add_at c kb bd od n cd A cs D l w (by omega) (hb _ mem1) hd (hne _ mem1) ho hl h8 hD8 hnm hrd hs.al
  · refine add_nibble (hb _ mem0) ?_
    obtain ⟨c, rfl⟩ := Int.eq_ofNat_of_zero_le hc0
    exact (Nb.add_calls x c bd od n cd A cs D l w (by omega) hd ho hl h8 hD8 (by omega) hrd hs.al).mono fun e w' ⟨he, hm, hk⟩ => ⟨he, .of_but hk hm hd.lt⟩
  · refine add_sliced (hb _ mem0) ?_
    have := Sl.add_at (p := x) (cd := cd) (cs := cs) hc0 hc hd ho hl h8 hD8 hcd hcs hnm hs.srcs
    try rw [hl] at this
    exact this
theorem sadd_lens {p j : Nat} {S : List Ent} {c : Int} {n m c1 c2 : Nat} {A1 A2 : Option Addr} {w : World} (hS : SetE p j S) (hb : There w S) (h : n ≠ m) :
    Calls Try.prog 17 #[.pointer (some ⟨p, 0, none⟩), .int .u8 c, .slice A1 n c1, .slice A2 m c2] w fun e w' => e = .returned (.int .i64 6) ∧ w = w' := by
  rcases hS with ⟨_, kb, rfl⟩ | ⟨_, x, rfl⟩ | ⟨_, x, rfl⟩
  · exact add_table (hb _ mem0) (Tk.add_lens _ c A1 A2 n m c1 c2 w h)
  · exact add_nibble (hb _ mem0) (Nb.add_lens _ c A1 A2 n m c1 c2 w h)
  · exact add_sliced (hb _ mem0) (Sl.add_lens _ c A1 A2 n m c1 c2 w h)
set_option maxRecDepth 100000 in
theorem sadd_nil (c v1 v2 : Value) (w : World) : Calls Try.prog 17 #[.pointer none, c, v1, v2] w fun e w' => e = .returned (.int .i64 1) ∧ w = w' := by
  go_enter Try.func17, Try.ntmps17
  go_wp2
  go_ret
  exact ⟨rfl, rfl⟩

/-- The kernel behind the interface: its method's number F, its receiver x, its type T; what MulAdd does. -/
structure Ker (T : TypeId) (x : Addr) (F : FuncId) (S : List Ent) : Prop where
  meth : ∀ w : World, (method 249 T (.pointer (some x)) "MulAdd").run Try.prog w = .ok (F, .pointer (some x)) w
  call : ∀ (w : World) (v1 v2 v3 : Value), (callFunc F #[.pointer (some x), v1, v2, v3]).run Try.prog w = .ok (.enter F #[.pointer (some x), v1, v2, v3]) w
  add : ∀ {c : Int} {bd od n cd : Nat} {A : Option Addr} {cs : Nat} {D l : List Nat} {w : World}, There w S → (∀ e ∈ S, e.b ≠ bd) → 0 ≤ c → c < 256 → Bytes w bd D → od + n ≤ D.length → l.length = n → B8 l → B8 D → n ≤ cd → n ≤ cs → n ≤ 281474976710656 → SrcK w bd od A D l →
    Calls Try.prog F #[.pointer (some x), .int .u8 c, .slice (some ⟨bd, od, none⟩) n cd, .slice A n cs] w fun e w' => e = .returned (.int .i64 0) ∧ St w w' [bt bd (Wr.wr D od ((List.range n).map fun i => D.getD (od + i) 0 ^^^ gm c.toNat (l.getD i 0)))] []
theorem SetE.ker {p j : Nat} {S : List Ent} (hS : SetE p j S) : ∃ T x F r, S = ⟨p, 79, #[.iface T (.pointer (some x)), .int .i64 (j : Int)]⟩ :: r ∧ Ker T x F S := by
  rcases hS with ⟨rfl, kb, rfl⟩ | ⟨rfl, x, rfl⟩ | ⟨rfl, x, rfl⟩
  · refine ⟨_, _, 70, _, rfl, fun w => by kernel_rfl, fun w v1 v2 v3 => by kernel_rfl, ?_⟩
    intro c bd od n cd A cs D l w hb hne hc0 hc hd ho hl h8 hD8 hcd hcs hnm hs
    obtain ⟨c, rfl⟩ := Int.eq_ofNat_of_zero_le hc0
    exact Tk.add_at c kb bd od n cd A cs D l w (by omega) (hb _ mem1) hd (hne _ mem1) ho hl h8 hD8 hnm (hs.rd hd (by omega)) hs.al
  · refine ⟨_, _, 74, _, rfl, fun w => by kernel_rfl, fun w v1 v2 v3 => by kernel_rfl, ?_⟩
    intro c bd od n cd A cs D l w hb hne hc0 hc hd ho hl h8 hD8 hcd hcs hnm hs
    obtain ⟨c, rfl⟩ := Int.eq_ofNat_of_zero_le hc0
    exact (Nb.add_calls x c bd od n cd A cs D l w (by omega) hd ho hl h8 hD8 (by omega) (hs.rd hd (by omega)) hs.al).mono fun e w' ⟨he, hm, hk⟩ => ⟨he, .of_but hk hm hd.lt⟩
  · refine ⟨_, _, 77, _, rfl, fun w => by kernel_rfl, fun w v1 v2 v3 => by kernel_rfl, ?_⟩
    intro c bd od n cd A cs D l w hb hne hc0 hc hd ho hl h8 hD8 hcd hcs hnm hs
    have := Sl.add_at (p := x) (cd := cd) (cs := cs) hc0 hc hd ho hl h8 hD8 hcd hcs hnm hs.srcs
    rw [hl] at this
    exact this

end Go.Proofs.Ytdbfkjhdnbmpeaa.Sk
