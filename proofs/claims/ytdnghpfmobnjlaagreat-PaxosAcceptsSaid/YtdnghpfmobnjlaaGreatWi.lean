/- Contracts of functions of this program. Conditions: none. -/
import Derived.Test.YtdnghpfmobnjlaaGreatWh
import Derived.Test.YtdnghpfmobnjlaaGreatWf
import Derived.Test.YtdnghpfmobnjlaaGreatWg
import Derived.Test.YtdnghpfmobnjlaaGreatVp
set_option linter.unusedVariables false
set_option linter.unusedSimpArgs false
/- Messages: which are the same, which may be. Conditions: none. A text of this seat's numbers. -/
set_option linter.unusedVariables false
set_option linter.unusedSimpArgs false
set_option maxRecDepth 100000
namespace Go.Crc
open Go.Vm Go.Pack Go.Rec
def cfgM:Cfg := cfgOf [(n_pack_Num,[0]),(n_pack_Text,[0])] [n_pack_Num,n_pack_Text,n_crc_New,n_crc_Table_Put,n_pack_NewReader,n_term_Encode] []
def msgF (c:Msg → Bool) (v:Msg → AV):List AV → Tr AV
  | [.agg cs] => match msgOf cs with | some m => .br (c m) (.yes (v m)) .no | none => .no
  | _ => .no
def msgF0 (v:Msg → AV):List AV → Tr AV
  | [.agg cs] => match msgOf cs with | some m => .yes (v m) | none => .no
  | _ => .no
def msgF2 (v:Msg → Msg → AV):List AV → Tr AV
  | [.agg cs,.agg ds] => match msgOf cs,msgOf ds with | some m,some n => .yes (v m n) | _,_ => .no
  | _ => .no
theorem msg_con0 (l : List (Ent PR A)) {cfg : Cfg} {g : Nat} {v : Msg → AV} (hn : ((PR.funcs[g]?).map fun fn => fn.name == "runtime.NumGoroutine") = some false) (hb : funB PR g = true) (hl : lpos PR g = [])
    (h:∀ m S,body PR (cfE l) cfg lf0 g [msgA m] S some = some (v m,[],S)):Con PR A g (pureC (msgF0 v)) := by
  refine pure_con0 (cfg := cfg) l mixed hn hb hl fun args x hv ha S => ?_
  unfold msgF0 at hv
  split at hv
  · split at hv
    · rename_i m hm
      cases hv
      have := msgOf_some hm
      subst this
      exact h m S
    · cases hv
  · cases hv
theorem msg_con2 (l : List (Ent PR A)) {cfg : Cfg} {g : Nat} {v : Msg → Msg → AV} (hn : ((PR.funcs[g]?).map fun fn => fn.name == "runtime.NumGoroutine") = some false) (hb : funB PR g = true) (hl : lpos PR g = [])
    (h:∀ m n S,body PR (cfE l) cfg lf0 g [msgA m,msgA n] S some = some (v m n,[],S)):Con PR A g (pureC (msgF2 v)) := by
  refine pure_con0 (cfg := cfg) l mixed hn hb hl fun args x hv ha S => ?_
  unfold msgF2 at hv
  split at hv
  · split at hv
    · rename_i m n hm hn'
      cases hv
      have h1 := msgOf_some hm
      have h2 := msgOf_some hn'
      subst h1; subst h2
      exact h m n S
    · cases hv
  · cases hv
def mwF:List AV → Tr AV
  | [.int .i64 n,.int .i64 a,.int .i64 b] => .yes (.bool (inW n a b))
  | _ => .no
theorem mw_ok:Con PR A n_message_within (pureC mwF) := by
  refine pure_con0 (cfg := cfgM) [] mixed (by kernel_rfl) (by kernel_rfl) (by kernel_rfl) fun args v hv ha S => ?_
  unfold mwF at hv
  split at hv
  · rename_i n a b
    cases hv
    have h:body PR (cfE (P := PR) (A := A) []) cfgM lf0 n_message_within [.int .i64 n,.int .i64 a,.int .i64 b] S some = (bif decide (n ≥ a) then some (.bool (decide (n ≤ b)),[],S) else some (.bool false,[],S)) := by kernel_rfl
    rw [h]
    unfold inW
    cases decide (n ≥ a) <;> rfl
  · cases hv
def mwE:Ent PR A := ⟨n_message_within,_,mw_ok⟩
theorem msame_ok:Con PR A n_message_Same (pureC (msgF2 fun a b => .bool (sameM a b))) := by
  refine msg_con2 (cfg := cfgM) [sameE,esE,tsE] (by kernel_rfl) (by kernel_rfl) (by kernel_rfl) fun a b S => ?_
  have h:body PR (cfE [sameE,esE,tsE]) cfgM lf0 n_message_Same [msgA a,msgA b] S some =
    (bif a.k == b.k then bif a.f == b.f then bif a.t == b.t then bif a.te == b.te then bif a.sh == b.sh then bif a.nu == b.nu then bif a.is == b.is then bif recB a b then bif entBq a.e b.e then bif a.ba == b.ba then bif a.ol == b.ol then some (.bool (conB a b),[],S)
      else some (.bool false,[],S) else some (.bool false,[],S) else some (.bool false,[],S) else some (.bool false,[],S) else some (.bool false,[],S) else some (.bool false,[],S) else some (.bool false,[],S) else some (.bool false,[],S) else some (.bool false,[],S) else some (.bool false,[],S) else some (.bool false,[],S)) := by kernel_rfl
  rw [h]
  unfold sameM
  cases a.k == b.k <;> first | rfl | skip
  cases a.f == b.f <;> first | rfl | skip
  cases a.t == b.t <;> first | rfl | skip
  cases a.te == b.te <;> first | rfl | skip
  cases a.sh == b.sh <;> first | rfl | skip
  cases a.nu == b.nu <;> first | rfl | skip
  cases a.is == b.is <;> first | rfl | skip
  cases recB a b <;> first | rfl | skip
  cases entBq a.e b.e <;> first | rfl | skip
  cases a.ba == b.ba <;> first | rfl | skip
  cases a.ol == b.ol <;> rfl
def msameE:Ent PR A := ⟨n_message_Same,_,msame_ok⟩
def bareT (m:Msg) (S:Stack):Option Res :=
  bif m.k == 8 then (bif m.k == 9 then some (msgA ⟨m.k,m.f,m.t,m.te,0,0,false,0,0,[],[],en0,m.ba,m.ol,m.ct,m.cs,m.ch⟩,[],S) else bif m.ol != 0 then some (msgA ⟨m.k,m.f,m.t,m.te,0,0,false,0,0,[],[],en0,m.ba,m.ol,m.ct,m.cs,m.ch⟩,[],S) else some (msgA ⟨m.k,m.f,m.t,m.te,0,0,false,0,0,[],[],en0,m.ba,m.ol,0,[],[]⟩,[],S))
    else bif m.k == 9 then (bif m.k == 9 then some (msgA ⟨m.k,m.f,m.t,m.te,0,0,false,0,0,[],[],en0,m.ba,0,m.ct,m.cs,m.ch⟩,[],S) else bif m.ol != 0 then some (msgA ⟨m.k,m.f,m.t,m.te,0,0,false,0,0,[],[],en0,m.ba,0,m.ct,m.cs,m.ch⟩,[],S) else some (msgA ⟨m.k,m.f,m.t,m.te,0,0,false,0,0,[],[],en0,m.ba,0,0,[],[]⟩,[],S))
    else bif m.k == 7 then some (msgA ⟨m.k,m.f,m.t,m.te,0,0,false,0,0,[],[],en0,m.ba,0,0,[],[]⟩,[],S)
    else bif m.k == 10 then some (msgA ⟨m.k,m.f,m.t,m.te,0,0,m.is,0,0,[],[],en0,m.ba,0,0,[],[]⟩,[],S)
    else some (msgA (bare0 m),[],S)
def bareX (m:Msg) (S:Stack):Option Res := some (msgA ⟨m.k,m.f,m.t,m.te,0,m.nu,m.is,0,0,[],[],en0,0,0,0,[],[]⟩,[],S)
theorem mbare_ok:Con PR A n_message_bare (pureC (msgF0 fun m => msgA (bareM m))) := by
  refine msg_con0 (cfg := cfgM) [] (by kernel_rfl) (by kernel_rfl) (by kernel_rfl) fun m S => ?_
  have h:body PR (cfE (P := PR) (A := A) []) cfgM lf0 n_message_bare [msgA m] S some =
    (bif m.k == 1 then some (msgA ⟨m.k,m.f,m.t,m.te,m.sh,m.nu,false,m.rc,m.rn,m.rt,m.rd,en0,0,0,0,[],[]⟩,[],S)
    else bif m.k == 2 then some (msgA ⟨m.k,m.f,m.t,m.te,m.sh,m.nu,false,0,0,[],[],en0,0,0,0,[],[]⟩,[],S)
    else bif m.k == 3 then some (msgA ⟨m.k,m.f,m.t,m.te,0,0,false,0,0,[],[],m.e,0,0,0,[],[]⟩,[],S)
    else bif m.k == 4 then (bif m.k == 4 then bareX m S else bareT m S) else (bif m.k == 6 then bareX m S else bareT m S)) := by kernel_rfl
  rw [h]
  unfold bareM bareT bareX
  cases m.k == 1 <;> first | rfl | skip
  cases m.k == 2 <;> first | rfl | skip
  cases m.k == 3 <;> first | rfl | skip
  cases m.k == 4 <;> first | rfl | skip
  cases m.k == 6 <;> first | rfl | skip
  cases h8:m.k == 8 with
  | true =>
    have h9:(m.k == 9) = false := by rw [beq_iff_eq] at h8; rw [h8]; rfl
    rw [h9,bne]
    cases m.ol == 0 <;> rfl
  | false =>
    cases m.k == 9 <;> first | rfl | skip
    cases m.k == 7 <;> first | rfl | skip
    cases m.k == 10 <;> rfl
def mbareE:Ent PR A := ⟨n_message_bare,_,mbare_ok⟩
theorem mconf_ok:Con PR A n_message_configured (pureC (msgF0 fun m => .bool (confM m))) := by
  refine msg_con0 (cfg := cfgM) [trE] (by kernel_rfl) (by kernel_rfl) (by kernel_rfl) fun m S => ?_
  have h:body PR (cfE [trE]) cfgM lf0 n_message_configured [msgA m] S some = (bif termR m.ct m.cs m.ch then some (.bool (m.ct == m.te),[],S) else some (.bool false,[],S)) := by kernel_rfl
  rw [h]
  unfold confM
  cases termR m.ct m.cs m.ch <;> rfl
def mconfE:Ent PR A := ⟨n_message_configured,_,mconf_ok⟩
def fitsU (m:Msg) (S:Stack):Option Res :=
    bif m.k == 8 then (bif inW m.ba 1 MC then bif inW m.ol 0 MC then bif m.ol == 0 then some (.bool true,[],S) else some (.bool (confM m),[],S) else some (.bool false,[],S) else some (.bool false,[],S))
    else bif m.k == 9 then (bif inW m.ba 1 MC then some (.bool (confM m),[],S) else some (.bool false,[],S))
    else some (.bool false,[],S)
def fitsX (m:Msg) (S:Stack):Option Res := some (.bool (inW m.ba 1 MC),[],S)
def fitsT (m:Msg) (S:Stack):Option Res := bif m.k == 7 then (bif m.k == 7 then fitsX m S else fitsU m S) else (bif m.k == 10 then fitsX m S else fitsU m S)
theorem mfits_ok:Con PR A n_message_fits (pureC (msgF0 fun m => .bool (fitsM m))) := by
  refine msg_con0 (cfg := cfgM) [mwE,rrE,erE,mconfE] (by kernel_rfl) (by kernel_rfl) (by kernel_rfl) fun m S => ?_
  have h:body PR (cfE [mwE,rrE,erE,mconfE]) cfgM lf0 n_message_fits [msgA m] S some =
    (bif m.k == 1 then (bif inW m.sh 0 7 then some (.bool (rightR m.rc m.rn m.rt m.rd),[],S) else some (.bool false,[],S))
    else bif m.k == 2 then some (.bool (inW m.sh 0 7),[],S)
    else bif m.k == 3 then some (.bool (enR m.e),[],S)
    else bif m.k == 4 then (bif m.k == 4 then some (.bool true,[],S) else fitsT m S) else bif m.k == 6 then (bif m.k == 6 then some (.bool true,[],S) else fitsT m S) else (bif m.k == 5 then some (.bool true,[],S) else fitsT m S)) := by kernel_rfl
  rw [h]
  unfold fitsM fitsT fitsX fitsU
  cases m.k == 1 <;> first | (cases inW m.sh 0 7 <;> rfl) | skip
  cases m.k == 2 <;> first | rfl | skip
  cases m.k == 3 <;> first | rfl | skip
  cases m.k == 4 <;> first | rfl | skip
  cases m.k == 6 <;> first | rfl | skip
  cases m.k == 5 <;> first | rfl | skip
  cases m.k == 7 <;> first | rfl | skip
  cases m.k == 10 <;> first | rfl | skip
  cases m.k == 8 <;> first | (cases inW m.ba 1 MC <;> cases inW m.ol 0 MC <;> cases m.ol == 0 <;> rfl) | skip
  cases m.k == 9 <;> first | (cases inW m.ba 1 MC <;> rfl) | rfl
def mfitsE:Ent PR A := ⟨n_message_fits,_,mfits_ok⟩
theorem mright_ok:Con PR A n_message_Right (pureC (msgF0 fun m => .bool (rightM m))) := by
  refine msg_con0 (cfg := cfgM) [mwE,mfitsE,mbareE,msameE] (by kernel_rfl) (by kernel_rfl) (by kernel_rfl) fun m S => ?_
  have h:body PR (cfE [mwE,mfitsE,mbareE,msameE]) cfgM lf0 n_message_Right [msgA m] S some =
    (bif inW m.f 0 15 then bif inW m.t 0 15 then bif inW m.te 1 64 then bif inW m.nu 0 MC then bif fitsM m then some (.bool (sameM m (bareM m)),[],S)
    else some (.bool false,[],S) else some (.bool false,[],S) else some (.bool false,[],S) else some (.bool false,[],S) else some (.bool false,[],S)) := by kernel_rfl
  rw [h]
  unfold rightM
  cases inW m.f 0 15 <;> first | rfl | skip
  cases inW m.t 0 15 <;> first | rfl | skip
  cases inW m.te 1 64 <;> first | rfl | skip
  cases inW m.nu 0 MC <;> first | rfl | skip
  cases fitsM m <;> rfl
def mrightE:Ent PR A := ⟨n_message_Right,_,mright_ok⟩
end Go.Crc
/- Messages as the document says: which are the same, which may be. Conditions: none. A text of this seat's numbers. -/
set_option linter.unusedVariables false
set_option linter.unusedSimpArgs false
set_option maxRecDepth 100000
namespace Go.Crc
open Go.Vm Go.Pack Go.Rec
theorem msamer_ok:Con PR A n_ref07_Same (pureC (msgF2 fun a b => .bool (sameM a b))) := by
  refine msg_con2 (cfg := cfgM) [samerE,esrE,tsrE] (by kernel_rfl) (by kernel_rfl) (by kernel_rfl) fun a b S => ?_
  have h:body PR (cfE [samerE,esrE,tsrE]) cfgM lf0 n_ref07_Same [msgA a,msgA b] S some =
    (bif a.k != b.k then some (.bool false,[],S) else bif a.f != b.f then some (.bool false,[],S) else bif a.t != b.t then some (.bool false,[],S) else bif a.te != b.te then some (.bool false,[],S) else bif a.sh != b.sh then some (.bool false,[],S) else bif a.nu != b.nu then some (.bool false,[],S)
    else bif !(a.is == b.is) then some (.bool false,[],S) else bif a.ba != b.ba then some (.bool false,[],S) else bif a.ol != b.ol then some (.bool false,[],S)
    else bif recB a b then bif entBq a.e b.e then some (.bool (conB a b),[],S) else some (.bool false,[],S) else some (.bool false,[],S)) := by kernel_rfl
  rw [h]
  unfold sameM bne
  cases a.k == b.k <;> first | rfl | skip
  cases a.f == b.f <;> first | rfl | skip
  cases a.t == b.t <;> first | rfl | skip
  cases a.te == b.te <;> first | rfl | skip
  cases a.sh == b.sh <;> first | rfl | skip
  cases a.nu == b.nu <;> first | rfl | skip
  cases a.is == b.is <;> first | rfl | skip
  cases a.ba == b.ba <;> cases a.ol == b.ol <;> cases recB a b <;> cases entBq a.e b.e <;> first | rfl | (cases conB a b <;> rfl)
def msamerE:Ent PR A := ⟨n_ref07_Same,_,msamer_ok⟩
def noF:List AV → Tr AV
  | [.int .i64 n] => .yes (.bool (n == 0))
  | _ => .no
theorem no_ok:Con PR A n_ref07_none (pureC noF) := by
  refine pure_con0 (cfg := cfgM) [] mixed (by kernel_rfl) (by kernel_rfl) (by kernel_rfl) fun args v hv ha S => ?_
  unfold noF at hv
  split at hv
  · rename_i n
    cases hv
    have h:body PR (cfE (P := PR) (A := A) []) cfgM lf0 n_ref07_none [.int .i64 n] S some = some (.bool (n == 0),[],S) := by kernel_rfl
    exact h
  · cases hv
def noE:Ent PR A := ⟨n_ref07_none,_,no_ok⟩
def plF:List AV → Tr AV
  | [.agg cs,.bool r,.bool e,.bool c] => match msgOf cs with | some m => .yes (.bool (plainM m r e c)) | none => .no
  | _ => .no
theorem pl_ok:Con PR A n_ref07_plain (pureC plF) := by
  refine pure_con0 (cfg := cfgM) [samerE,esrE,tsrE] mixed (by kernel_rfl) (by kernel_rfl) (by kernel_rfl) fun args v hv ha S => ?_
  unfold plF at hv
  split at hv
  · rename_i cs r e c
    split at hv
    · rename_i m hm
      cases hv
      have := msgOf_some hm
      subst this
      have h:body PR (cfE [samerE,esrE,tsrE]) cfgM lf0 n_ref07_plain [msgA m,.bool r,.bool e,.bool c] S some =
        (bif !r then bif !(recB m msg0) then some (.bool false,[],S) else (bif !e then bif !(entBq m.e en0) then some (.bool false,[],S) else (bif c then some (.bool true,[],S) else some (.bool (conB m msg0),[],S)) else (bif c then some (.bool true,[],S) else some (.bool (conB m msg0),[],S)))
        else (bif !e then bif !(entBq m.e en0) then some (.bool false,[],S) else (bif c then some (.bool true,[],S) else some (.bool (conB m msg0),[],S)) else (bif c then some (.bool true,[],S) else some (.bool (conB m msg0),[],S)))) := by kernel_rfl
      refine h.trans ?_
      unfold plainM
      cases r <;> cases e <;> cases c <;> cases recB m msg0 <;> cases entBq m.e en0 <;> rfl
    · cases hv
  · cases hv
def plE:Ent PR A := ⟨n_ref07_plain,_,pl_ok⟩
theorem vo_ok:Con PR A n_ref07_votes (pureC (msgF0 fun m => .bool (votesM m))) := by
  refine msg_con0 (cfg := cfgM) [noE] (by kernel_rfl) (by kernel_rfl) (by kernel_rfl) fun m S => ?_
  have h:body PR (cfE [noE]) cfgM lf0 n_ref07_votes [msgA m] S some =
    (bif decide (m.ba ≥ 1) then bif decide (m.ba ≤ 1099511627776) then bif m.sh == 0 then some (.bool (m.nu == 0),[],S) else some (.bool false,[],S) else some (.bool false,[],S) else some (.bool false,[],S)) := by kernel_rfl
  rw [h]
  unfold votesM inW
  cases decide (m.ba ≥ 1) <;> cases decide (m.ba ≤ 1099511627776) <;> cases m.sh == 0 <;> rfl
def voE:Ent PR A := ⟨n_ref07_votes,_,vo_ok⟩
theorem wt_ok:Con PR A n_ref07_with (pureC (msgF0 fun m => .bool (confM m))) := by
  refine msg_con0 (cfg := cfgM) [t6E] (by kernel_rfl) (by kernel_rfl) (by kernel_rfl) fun m S => ?_
  have h:body PR (cfE [t6E]) cfgM lf0 n_ref07_with [msgA m] S some = (bif termR m.ct m.cs m.ch then some (.bool (m.ct == m.te),[],S) else some (.bool false,[],S)) := by kernel_rfl
  rw [h]
  unfold confM
  cases termR m.ct m.cs m.ch <;> rfl
def wtE:Ent PR A := ⟨n_ref07_with,_,wt_ok⟩
def yN (b:Bool) (S:Stack):Option Res := some (.bool b,[],S)
def rr10 (m:Msg) (S:Stack):Option Res :=
  bif m.k == 10 then (bif votesM m then bif m.ol == 0 then yN (plainM m false false false) S else yN false S else yN false S) else yN false S
def rr9 (m:Msg) (S:Stack):Option Res :=
  bif m.k == 9 then (bif votesM m then bif m.ol == 0 then bif !m.is then bif plainM m false false true then yN (confM m) S else yN false S else yN false S else yN false S else yN false S) else rr10 m S
def rr8 (m:Msg) (S:Stack):Option Res :=
  bif m.k == 8 then (bif !votesM m then yN false S else bif m.is then yN false S else bif decide (m.ol < 0) then yN false S else bif decide (m.ol > 1099511627776) then yN false S else bif m.ol == 0 then yN (plainM m false false false) S else bif plainM m false false true then yN (confM m) S else yN false S) else rr9 m S
def rr7 (m:Msg) (S:Stack):Option Res :=
  bif m.k == 7 then (bif votesM m then bif m.ol == 0 then bif !m.is then yN (plainM m false false false) S else yN false S else yN false S else yN false S) else rr8 m S
def rr5 (m:Msg) (q:Bool) (S:Stack):Option Res :=
  bif m.k == 5 then (bif q then bif !m.is then bif m.sh == 0 then bif m.nu == 0 then yN (plainM m false false false) S else yN false S else yN false S else yN false S else yN false S) else rr7 m S
def rr4 (m:Msg) (q:Bool) (S:Stack):Option Res :=
  bif q then bif m.sh == 0 then yN (plainM m false false false) S else yN false S else yN false S
def rr1 (m:Msg) (q:Bool) (S:Stack):Option Res :=
  bif m.k == 1 then (bif q then bif !m.is then bif plainM m true false false then yN (rightR m.rc m.rn m.rt m.rd) S else yN false S else yN false S else yN false S)
  else bif m.k == 2 then (bif q then bif !m.is then yN (plainM m false false false) S else yN false S else yN false S)
  else bif m.k == 3 then (bif q then bif !m.is then bif m.sh == 0 then bif m.nu == 0 then bif plainM m false true false then yN (enR m.e) S else yN false S else yN false S else yN false S else yN false S else yN false S)
  else bif m.k == 4 then (bif m.k == 4 then rr4 m q S else rr5 m q S) else (bif m.k == 6 then rr4 m q S else rr5 m q S)
theorem mrr_body (m:Msg) (S:Stack):body PR (cfE [noE,plE,voE,wtE,rdrE,errE]) cfgM lf0 n_ref07_Right [msgA m] S some =
    (bif decide (m.f < 0) then yN false S else bif decide (m.f > 15) then yN false S else bif decide (m.t < 0) then yN false S else bif decide (m.t > 15) then yN false S else bif decide (m.te < 1) then yN false S else bif decide (m.te > 64) then yN false S
    else bif decide (m.nu < 0) then yN false S else bif decide (m.nu > 1099511627776) then yN false S else bif decide (m.sh < 0) then yN false S else bif decide (m.sh > 7) then yN false S
    else bif m.ba == 0 then rr1 m (m.ol == 0) S else rr1 m false S) := by kernel_rfl
theorem rr_rest (m:Msg) (S:Stack) (hsh:inW m.sh 0 7 = true) (hnu:inW m.nu 0 MC = true):(bif m.ba == 0 then rr1 m (m.ol == 0) S else rr1 m false S) = yN (fitsM m && bareB m) S := by
  have hol:∀ b:Bool,b = (m.ol == 0) → (b = true → decide (m.ol < 0) = false ∧ decide (m.ol > 1099511627776) = false) := fun b hb h => by
    rw [h] at hb
    have := beq_iff_eq.1 hb.symm
    rw [this]; exact ⟨rfl,rfl⟩
  have hba:(m.ba == 0) = true → inW m.ba 1 MC = false := fun h => by
    rw [beq_iff_eq] at h; rw [h]; rfl
  unfold fitsM bareB rr1 plainM
  cases m.k == 1 with
  | true =>
    rw [hsh]
    cases m.ba == 0 <;> cases m.ol == 0 <;> cases m.is <;> cases entBq m.e en0 <;> cases conB m msg0 <;> cases rightR m.rc m.rn m.rt m.rd <;> rfl
  | false =>
  cases m.k == 2 with
  | true =>
    rw [hsh]
    cases m.ba == 0 <;> cases m.ol == 0 <;> cases m.is <;> cases recB m msg0 <;> cases entBq m.e en0 <;> cases conB m msg0 <;> rfl
  | false =>
  cases m.k == 3 with
  | true =>
    cases m.ba == 0 <;> cases m.ol == 0 <;> cases m.is <;> cases recB m msg0 <;> cases conB m msg0 <;> cases m.sh == 0 <;> cases m.nu == 0 <;> cases enR m.e <;> rfl
  | false =>
  unfold rr4 rr5 plainM
  cases m.k == 4 with
  | true => cases m.ba == 0 <;> cases m.ol == 0 <;> cases recB m msg0 <;> cases entBq m.e en0 <;> cases conB m msg0 <;> cases m.sh == 0 <;> rfl
  | false =>
  cases m.k == 6 with
  | true => cases m.ba == 0 <;> cases m.ol == 0 <;> cases recB m msg0 <;> cases entBq m.e en0 <;> cases conB m msg0 <;> cases m.sh == 0 <;> rfl
  | false =>
  cases h5:m.k == 5 with
  | true =>
    have e5 := beq_iff_eq.1 h5
    have e7:(m.k == 7) = false := by rw [e5]; rfl
    have e8:(m.k == 8) = false := by rw [e5]; rfl
    have e9:(m.k == 9) = false := by rw [e5]; rfl
    have e10:(m.k == 10) = false := by rw [e5]; rfl
    rw [e7,e8,e9,e10]
    cases m.ba == 0 <;> cases m.ol == 0 <;> cases m.is <;> cases recB m msg0 <;> cases entBq m.e en0 <;> cases conB m msg0 <;> cases m.sh == 0 <;> cases m.nu == 0 <;> rfl
  | false =>
  unfold rr7 rr8 rr9 rr10 votesM plainM
  cases h7:m.k == 7 with
  | true =>
    have e7 := beq_iff_eq.1 h7
    have e8:(m.k == 8) = false := by rw [e7]; rfl
    have e9:(m.k == 9) = false := by rw [e7]; rfl
    rw [e8,e9]
    cases m.ba == 0 <;> cases inW m.ba 1 MC <;> cases m.ol == 0 <;> cases m.is <;> cases recB m msg0 <;> cases entBq m.e en0 <;> cases conB m msg0 <;> cases m.sh == 0 <;> cases m.nu == 0 <;> rfl
  | false =>
  cases h8:m.k == 8 with
  | true =>
    have e8 := beq_iff_eq.1 h8
    have e10:(m.k == 10) = false := by rw [e8]; rfl
    rw [e10]
    cases ho:m.ol == 0 with
    | true =>
      obtain ⟨o1,o2⟩ := hol _ ho.symm rfl
      have o3:inW m.ol 0 MC = true := inW_split o1 o2
      rw [o1,o2,o3,bne,ho]
      cases m.ba == 0 <;> cases inW m.ba 1 MC <;> cases m.is <;> cases recB m msg0 <;> cases entBq m.e en0 <;> cases conB m msg0 <;> cases m.sh == 0 <;> cases m.nu == 0 <;> rfl
    | false =>
      rw [bne,ho]
      cases o1:decide (m.ol < 0) with
      | true =>
        rw [inW_lo (b := MC) o1]
        cases m.ba == 0 <;> cases inW m.ba 1 MC <;> cases m.is <;> cases m.sh == 0 <;> cases m.nu == 0 <;> rfl
      | false =>
      cases o2:decide (m.ol > 1099511627776) with
      | true =>
        rw [inW_hi (a := 0) (b := MC) o2]
        cases m.ba == 0 <;> cases inW m.ba 1 MC <;> cases m.is <;> cases m.sh == 0 <;> cases m.nu == 0 <;> rfl
      | false =>
        rw [inW_split o1 o2]
        cases m.ba == 0 <;> cases inW m.ba 1 MC <;> cases m.is <;> cases recB m msg0 <;> cases entBq m.e en0 <;> cases confM m <;> cases m.sh == 0 <;> cases m.nu == 0 <;> rfl
  | false =>
  cases h9:m.k == 9 with
  | true =>
    have e9 := beq_iff_eq.1 h9
    have e10:(m.k == 10) = false := by rw [e9]; rfl
    rw [e10]
    cases m.ba == 0 <;> cases inW m.ba 1 MC <;> cases m.ol == 0 <;> cases m.is <;> cases recB m msg0 <;> cases entBq m.e en0 <;> cases confM m <;> cases m.sh == 0 <;> cases m.nu == 0 <;> rfl
  | false =>
  cases m.k == 10 with
  | true => cases m.ba == 0 <;> cases inW m.ba 1 MC <;> cases m.ol == 0 <;> cases recB m msg0 <;> cases entBq m.e en0 <;> cases conB m msg0 <;> cases m.sh == 0 <;> cases m.nu == 0 <;> rfl
  | false => cases m.ba == 0 <;> rfl
theorem mrr_ok:Con PR A n_ref07_Right (pureC (msgF0 fun m => .bool (rightM m))) := by
  refine msg_con0 (cfg := cfgM) [noE,plE,voE,wtE,rdrE,errE] (by kernel_rfl) (by kernel_rfl) (by kernel_rfl) fun m S => ?_
  rw [mrr_body,rightM_eq]
  cases f1:decide (m.f < 0) with
  | true => rw [inW_lo f1]; rfl
  | false =>
  cases f2:decide (m.f > 15) with
  | true => rw [inW_hi f2]; rfl
  | false =>
  rw [inW_split f1 f2]
  cases t1:decide (m.t < 0) with
  | true => rw [inW_lo t1]; rfl
  | false =>
  cases t2:decide (m.t > 15) with
  | true => rw [inW_hi t2]; rfl
  | false =>
  rw [inW_split t1 t2]
  cases e1:decide (m.te < 1) with
  | true => rw [inW_lo e1]; rfl
  | false =>
  cases e2:decide (m.te > 64) with
  | true => rw [inW_hi e2]; rfl
  | false =>
  rw [inW_split e1 e2]
  cases n1:decide (m.nu < 0) with
  | true => rw [inW_lo n1]; rfl
  | false =>
  cases n2:decide (m.nu > 1099511627776) with
  | true => rw [inW_hi (b := MC) n2]; rfl
  | false =>
  rw [inW_split (b := MC) n1 n2]
  simp only [cond_false,Bool.true_and]
  have hbad:inW m.sh 0 7 = false → (fitsM m && bareB m) = false := fun h => by
    rw [Bool.eq_false_iff,ne_eq,Bool.and_eq_true]
    rintro ⟨h1,h2⟩
    rw [sh_range h1 h2] at h; cases h
  cases s1:decide (m.sh < 0) with
  | true => rw [hbad (inW_lo s1)]; rfl
  | false =>
  cases s2:decide (m.sh > 7) with
  | true => rw [hbad (inW_hi s2)]; rfl
  | false =>
  simp only [cond_false]
  rw [rr_rest m S (inW_split s1 s2) (inW_split n1 n2)]
  rfl
def mrrE:Ent PR A := ⟨n_ref07_Right,_,mrr_ok⟩
end Go.Crc
/- What the laws of messages use: few, own, plain. Conditions: none. A text of this seat's numbers. -/
set_option linter.unusedVariables false
set_option linter.unusedSimpArgs false
set_option maxRecDepth 100000
namespace Go.Crc
open Go.Vm Go.Pack Go.Rec
theorem own_ok:Con PR A n_law_own (pureC (msgF0 msgA)) := by
  refine msg_con0 (cfg := cfgM) [] (by kernel_rfl) (by kernel_rfl) (by kernel_rfl) fun m S => ?_
  have h:body PR (cfE (P := PR) (A := A) []) cfgM lf0 n_law_own [msgA m] S some = some (msgA m,[],S) := by kernel_rfl
  exact h
def ownE:Ent PR A := ⟨n_law_own,_,own_ok⟩
theorem plain_ok:Con PR A n_law_plain (pureC (msgF0 msgA)) := by
  refine msg_con0 (cfg := cfgM) [] (by kernel_rfl) (by kernel_rfl) (by kernel_rfl) fun m S => ?_
  have h:body PR (cfE (P := PR) (A := A) []) cfgM lf0 n_law_plain [msgA m] S some = some (msgA m,[],S) := by kernel_rfl
  exact h
def plainE:Ent PR A := ⟨n_law_plain,_,plain_ok⟩
end Go.Crc
