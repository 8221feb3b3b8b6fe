/- A part of the proof: contracts of functions, each proved once. -/
import Derived.Test.YtgbgmkacpjbilaaDoorE3
import Derived.Test.YtgbgmkacpjbilaaDoorChecked
namespace Go.Eng.G
open Go Go.Eng Go.Proofs
set_option pp.maxSteps 1000000
set_option pp.deepTerms true
set_option maxRecDepth 100000
noncomputable abbrev PP : Program := Tryd.prog
@[simp] theorem fact1 : tinfo PP 0 = some (false, 1) := by kernel_rfl
@[simp] theorem fact2 : tarray PP 0 = none := by kernel_rfl
@[simp] theorem fact3 : tzero PP 0 = some [Value.tuple #[]] := by kernel_rfl
@[simp] theorem fact4 : tslots PP 0 = [none] := by kernel_rfl
@[simp] theorem fact5 : tplaces PP 0 = none := by kernel_rfl
@[simp] theorem fact6 : PP.underlying 0 = some (TypeDesc.tuple #[]) := by kernel_rfl
@[simp] theorem fact7 : tinfo PP 1 = some (false, 1) := by kernel_rfl
@[simp] theorem fact8 : tarray PP 1 = none := by kernel_rfl
@[simp] theorem fact9 : zrow PP 1 = some [V.v Value.nilFunc] := by kernel_rfl
@[simp] theorem fact10 : tzero PP 1 = some [Value.nilFunc] := by kernel_rfl
@[simp] theorem fact11 : tslots PP 1 = [none] := by kernel_rfl
@[simp] theorem fact12 : tplaces PP 1 = none := by kernel_rfl
@[simp] theorem fact13 : PP.underlying 1 = some (TypeDesc.func #[] #[] false) := by kernel_rfl
@[simp] theorem fact14 : tinfo PP 2 = some (false, 1) := by kernel_rfl
@[simp] theorem fact15 : tarray PP 2 = none := by kernel_rfl
@[simp] theorem fact16 : zrow PP 2 = some [V.v (Value.int IntKind.i64 (0))] := by kernel_rfl
@[simp] theorem fact17 : tzero PP 2 = some [Value.int IntKind.i64 (0)] := by kernel_rfl
@[simp] theorem fact18 : tslots PP 2 = [none] := by kernel_rfl
@[simp] theorem fact19 : tplaces PP 2 = none := by kernel_rfl
@[simp] theorem fact20 : PP.underlying 2 = some (TypeDesc.int IntKind.i64) := by kernel_rfl
@[simp] theorem fact21 : tinfo PP 3 = some (false, 1) := by kernel_rfl
@[simp] theorem fact22 : tarray PP 3 = none := by kernel_rfl
@[simp] theorem fact23 : zrow PP 3 = some [V.v (Value.int IntKind.i64 (0))] := by kernel_rfl
@[simp] theorem fact24 : tzero PP 3 = some [Value.int IntKind.i64 (0)] := by kernel_rfl
@[simp] theorem fact25 : tslots PP 3 = [none] := by kernel_rfl
@[simp] theorem fact26 : tplaces PP 3 = none := by kernel_rfl
@[simp] theorem fact27 : PP.underlying 3 = some (TypeDesc.int IntKind.i64) := by kernel_rfl
@[simp] theorem fact28 : tinfo PP 4 = some (false, 1) := by kernel_rfl
@[simp] theorem fact29 : tarray PP 4 = none := by kernel_rfl
@[simp] theorem fact30 : zrow PP 4 = some [V.v (Value.bool false)] := by kernel_rfl
@[simp] theorem fact31 : tzero PP 4 = some [Value.bool false] := by kernel_rfl
@[simp] theorem fact32 : tslots PP 4 = [none] := by kernel_rfl
@[simp] theorem fact33 : tplaces PP 4 = none := by kernel_rfl
@[simp] theorem fact34 : PP.underlying 4 = some TypeDesc.bool := by kernel_rfl
@[simp] theorem fact35 : tinfo PP 5 = some (false, 1) := by kernel_rfl
@[simp] theorem fact36 : tarray PP 5 = none := by kernel_rfl
@[simp] theorem fact37 : zrow PP 5 = some [V.v (Value.int IntKind.u8 (0))] := by kernel_rfl
@[simp] theorem fact38 : tzero PP 5 = some [Value.int IntKind.u8 (0)] := by kernel_rfl
@[simp] theorem fact39 : tslots PP 5 = [none] := by kernel_rfl
@[simp] theorem fact40 : tplaces PP 5 = none := by kernel_rfl
@[simp] theorem fact41 : PP.underlying 5 = some (TypeDesc.int IntKind.u8) := by kernel_rfl
@[simp] theorem fact42 : tinfo PP 6 = some (false, 1) := by kernel_rfl
@[simp] theorem fact43 : tarray PP 6 = none := by kernel_rfl
@[simp] theorem fact44 : zrow PP 6 = some [V.v (Value.int IntKind.u8 (0))] := by kernel_rfl
@[simp] theorem fact45 : tzero PP 6 = some [Value.int IntKind.u8 (0)] := by kernel_rfl
@[simp] theorem fact46 : tslots PP 6 = [none] := by kernel_rfl
@[simp] theorem fact47 : tplaces PP 6 = none := by kernel_rfl
@[simp] theorem fact48 : PP.underlying 6 = some (TypeDesc.int IntKind.u8) := by kernel_rfl
@[simp] theorem fact49 : tinfo PP 7 = some (true, 4) := by kernel_rfl
@[simp] theorem fact50 : tarray PP 7 = none := by kernel_rfl
@[simp] theorem fact51 : zrow PP 7 = some [V.v (Value.int IntKind.i64 (0)), V.v (Value.int IntKind.i64 (0)), V.v (Value.bool false), V.v (Value.int IntKind.u8 (0))] := by kernel_rfl
@[simp] theorem fact52 : tzero PP 7 = some [Value.int IntKind.i64 (0), Value.int IntKind.i64 (0), Value.bool false, Value.int IntKind.u8 (0)] := by kernel_rfl
@[simp] theorem fact53 : tslots PP 7 = [none, none, none, none] := by kernel_rfl
@[simp] theorem fact54 : tplaces PP 7 = some [(0, 1), (1, 1), (2, 1), (3, 1)] := by kernel_rfl
@[simp] theorem fact55 : tinfo PP 8 = some (true, 4) := by kernel_rfl
@[simp] theorem fact56 : tarray PP 8 = none := by kernel_rfl
@[simp] theorem fact57 : zrow PP 8 = some [V.v (Value.int IntKind.i64 (0)), V.v (Value.int IntKind.i64 (0)), V.v (Value.bool false), V.v (Value.int IntKind.u8 (0))] := by kernel_rfl
@[simp] theorem fact58 : tzero PP 8 = some [Value.int IntKind.i64 (0), Value.int IntKind.i64 (0), Value.bool false, Value.int IntKind.u8 (0)] := by kernel_rfl
@[simp] theorem fact59 : tslots PP 8 = [none, none, none, none] := by kernel_rfl
@[simp] theorem fact60 : tplaces PP 8 = some [(0, 1), (1, 1), (2, 1), (3, 1)] := by kernel_rfl
@[simp] theorem fact61 : tinfo PP 9 = some (false, 1) := by kernel_rfl
@[simp] theorem fact62 : tarray PP 9 = none := by kernel_rfl
@[simp] theorem fact63 : zrow PP 9 = some [V.v (Value.string { data := #[] })] := by kernel_rfl
@[simp] theorem fact64 : tzero PP 9 = some [Value.string { data := #[] }] := by kernel_rfl
@[simp] theorem fact65 : tslots PP 9 = [none] := by kernel_rfl
@[simp] theorem fact66 : tplaces PP 9 = none := by kernel_rfl
@[simp] theorem fact67 : PP.underlying 9 = some TypeDesc.string := by kernel_rfl
@[simp] theorem fact68 : tinfo PP 10 = some (false, 1) := by kernel_rfl
@[simp] theorem fact69 : tarray PP 10 = none := by kernel_rfl
@[simp] theorem fact70 : zrow PP 10 = some [V.v (Value.string { data := #[] })] := by kernel_rfl
@[simp] theorem fact71 : tzero PP 10 = some [Value.string { data := #[] }] := by kernel_rfl
@[simp] theorem fact72 : tslots PP 10 = [none] := by kernel_rfl
@[simp] theorem fact73 : tplaces PP 10 = none := by kernel_rfl
@[simp] theorem fact74 : PP.underlying 10 = some TypeDesc.string := by kernel_rfl
@[simp] theorem fact75 : tinfo PP 11 = some (false, 1) := by kernel_rfl
@[simp] theorem fact76 : tarray PP 11 = none := by kernel_rfl
@[simp] theorem fact77 : zrow PP 11 = some [V.v (Value.string { data := #[] })] := by kernel_rfl
@[simp] theorem fact78 : tzero PP 11 = some [Value.string { data := #[] }] := by kernel_rfl
@[simp] theorem fact79 : tslots PP 11 = [none] := by kernel_rfl
@[simp] theorem fact80 : tplaces PP 11 = none := by kernel_rfl
@[simp] theorem fact81 : PP.underlying 11 = some TypeDesc.string := by kernel_rfl
@[simp] theorem fact82 : tinfo PP 12 = some (false, 1) := by kernel_rfl
@[simp] theorem fact83 : tarray PP 12 = none := by kernel_rfl
@[simp] theorem fact84 : zrow PP 12 = some [V.v (Value.int IntKind.u64 (0))] := by kernel_rfl
@[simp] theorem fact85 : tzero PP 12 = some [Value.int IntKind.u64 (0)] := by kernel_rfl
@[simp] theorem fact86 : tslots PP 12 = [none] := by kernel_rfl
@[simp] theorem fact87 : tplaces PP 12 = none := by kernel_rfl
@[simp] theorem fact88 : PP.underlying 12 = some (TypeDesc.int IntKind.u64) := by kernel_rfl
@[simp] theorem fact89 : tinfo PP 13 = some (true, 2) := by kernel_rfl
@[simp] theorem fact90 : tarray PP 13 = none := by kernel_rfl
@[simp] theorem fact91 : zrow PP 13 = some [V.v (Value.string { data := #[] }), V.v (Value.int IntKind.u64 (0))] := by kernel_rfl
@[simp] theorem fact92 : tzero PP 13 = some [Value.string { data := #[] }, Value.int IntKind.u64 (0)] := by kernel_rfl
@[simp] theorem fact93 : tslots PP 13 = [none, none] := by kernel_rfl
@[simp] theorem fact94 : tplaces PP 13 = some [(0, 1), (1, 1)] := by kernel_rfl
@[simp] theorem fact95 : tinfo PP 14 = some (true, 2) := by kernel_rfl
@[simp] theorem fact96 : tarray PP 14 = none := by kernel_rfl
@[simp] theorem fact97 : zrow PP 14 = some [V.v (Value.string { data := #[] }), V.v (Value.int IntKind.u64 (0))] := by kernel_rfl
@[simp] theorem fact98 : tzero PP 14 = some [Value.string { data := #[] }, Value.int IntKind.u64 (0)] := by kernel_rfl
@[simp] theorem fact99 : tslots PP 14 = [none, none] := by kernel_rfl
@[simp] theorem fact100 : tplaces PP 14 = some [(0, 1), (1, 1)] := by kernel_rfl
@[simp] theorem fact101 : tinfo PP 15 = some (false, 1) := by kernel_rfl
@[simp] theorem fact102 : tarray PP 15 = none := by kernel_rfl
@[simp] theorem fact103 : zrow PP 15 = some [V.v (Value.pointer none)] := by kernel_rfl
@[simp] theorem fact104 : tzero PP 15 = some [Value.pointer none] := by kernel_rfl
@[simp] theorem fact105 : tslots PP 15 = [none] := by kernel_rfl
@[simp] theorem fact106 : tplaces PP 15 = none := by kernel_rfl
@[simp] theorem fact107 : PP.underlying 15 = some (TypeDesc.pointer 76) := by kernel_rfl
@[simp] theorem fact108 : tinfo PP 16 = some (false, 1) := by kernel_rfl
@[simp] theorem fact109 : tarray PP 16 = none := by kernel_rfl
@[simp] theorem fact110 : zrow PP 16 = some [V.v (Value.pointer none)] := by kernel_rfl
@[simp] theorem fact111 : tzero PP 16 = some [Value.pointer none] := by kernel_rfl
@[simp] theorem fact112 : tslots PP 16 = [none] := by kernel_rfl
@[simp] theorem fact113 : tplaces PP 16 = none := by kernel_rfl
@[simp] theorem fact114 : PP.underlying 16 = some (TypeDesc.pointer 79) := by kernel_rfl
@[simp] theorem fact115 : tinfo PP 17 = some (false, 1) := by kernel_rfl
@[simp] theorem fact116 : tarray PP 17 = none := by kernel_rfl
@[simp] theorem fact117 : zrow PP 17 = some [V.v (Value.pointer none)] := by kernel_rfl
@[simp] theorem fact118 : tzero PP 17 = some [Value.pointer none] := by kernel_rfl
@[simp] theorem fact119 : tslots PP 17 = [none] := by kernel_rfl
@[simp] theorem fact120 : tplaces PP 17 = none := by kernel_rfl
@[simp] theorem fact121 : PP.underlying 17 = some (TypeDesc.pointer 87) := by kernel_rfl
@[simp] theorem fact122 : tinfo PP 18 = some (true, 1) := by kernel_rfl
@[simp] theorem fact123 : tarray PP 18 = none := by kernel_rfl
@[simp] theorem fact124 : zrow PP 18 = some [V.v (Value.pointer none)] := by kernel_rfl
@[simp] theorem fact125 : tzero PP 18 = some [Value.pointer none] := by kernel_rfl
@[simp] theorem fact126 : tslots PP 18 = [none] := by kernel_rfl
@[simp] theorem fact127 : tplaces PP 18 = some [(0, 1)] := by kernel_rfl
@[simp] theorem fact128 : tinfo PP 19 = some (true, 1) := by kernel_rfl
@[simp] theorem fact129 : tarray PP 19 = none := by kernel_rfl
@[simp] theorem fact130 : zrow PP 19 = some [V.v (Value.pointer none)] := by kernel_rfl
@[simp] theorem fact131 : tzero PP 19 = some [Value.pointer none] := by kernel_rfl
@[simp] theorem fact132 : tslots PP 19 = [none] := by kernel_rfl
@[simp] theorem fact133 : tplaces PP 19 = some [(0, 1)] := by kernel_rfl
@[simp] theorem fact134 : tinfo PP 20 = some (false, 1) := by kernel_rfl
@[simp] theorem fact135 : tarray PP 20 = none := by kernel_rfl
@[simp] theorem fact136 : zrow PP 20 = some [V.v Value.nilIface] := by kernel_rfl
@[simp] theorem fact137 : tzero PP 20 = some [Value.nilIface] := by kernel_rfl
@[simp] theorem fact138 : tslots PP 20 = [none] := by kernel_rfl
@[simp] theorem fact139 : tplaces PP 20 = none := by kernel_rfl
@[simp] theorem fact140 : PP.underlying 20 = some (TypeDesc.interface #[]) := by kernel_rfl
@[simp] theorem fact141 : tinfo PP 21 = some (false, 1) := by kernel_rfl
@[simp] theorem fact142 : tarray PP 21 = none := by kernel_rfl
@[simp] theorem fact143 : zrow PP 21 = some [V.v (Value.int IntKind.i32 (0))] := by kernel_rfl
@[simp] theorem fact144 : tzero PP 21 = some [Value.int IntKind.i32 (0)] := by kernel_rfl
@[simp] theorem fact145 : tslots PP 21 = [none] := by kernel_rfl
@[simp] theorem fact146 : tplaces PP 21 = none := by kernel_rfl
@[simp] theorem fact147 : PP.underlying 21 = some (TypeDesc.int IntKind.i32) := by kernel_rfl
@[simp] theorem fact148 : tinfo PP 22 = some (false, 1) := by kernel_rfl
@[simp] theorem fact149 : tslice PP 22 = some (24, 1, 24) := by kernel_rfl
@[simp] theorem fact150 : tarray PP 22 = none := by kernel_rfl
@[simp] theorem fact151 : zrow PP 22 = some [V.own 1 []] := by kernel_rfl
@[simp] theorem fact152 : tzero PP 22 = some [Value.slice none 0 0] := by kernel_rfl
@[simp] theorem fact153 : tslots PP 22 = [some 1] := by kernel_rfl
@[simp] theorem fact154 : tplaces PP 22 = none := by kernel_rfl
@[simp] theorem fact155 : PP.underlying 22 = some (TypeDesc.slice 24) := by kernel_rfl
@[simp] theorem fact156 : tinfo PP 23 = some (false, 1) := by kernel_rfl
@[simp] theorem fact157 : tarray PP 23 = none := by kernel_rfl
@[simp] theorem fact158 : zrow PP 23 = some [V.v Value.nilFunc] := by kernel_rfl
@[simp] theorem fact159 : tzero PP 23 = some [Value.nilFunc] := by kernel_rfl
@[simp] theorem fact160 : tslots PP 23 = [none] := by kernel_rfl
@[simp] theorem fact161 : tplaces PP 23 = none := by kernel_rfl
@[simp] theorem fact162 : PP.underlying 23 = some (TypeDesc.func #[] #[4] false) := by kernel_rfl
@[simp] theorem fact163 : tinfo PP 24 = some (false, 1) := by kernel_rfl
@[simp] theorem fact164 : tslice PP 24 = some (5, 1, 1) := by kernel_rfl
@[simp] theorem fact165 : tarray PP 24 = none := by kernel_rfl
@[simp] theorem fact166 : zrow PP 24 = some [V.own 1 []] := by kernel_rfl
@[simp] theorem fact167 : tzero PP 24 = some [Value.slice none 0 0] := by kernel_rfl
@[simp] theorem fact168 : tslots PP 24 = [some 1] := by kernel_rfl
@[simp] theorem fact169 : tplaces PP 24 = none := by kernel_rfl
@[simp] theorem fact170 : PP.underlying 24 = some (TypeDesc.slice 5) := by kernel_rfl
@[simp] theorem fact171 : tinfo PP 25 = some (true, 1) := by kernel_rfl
@[simp] theorem fact172 : tarray PP 25 = none := by kernel_rfl
@[simp] theorem fact173 : zrow PP 25 = some [V.own 1 []] := by kernel_rfl
@[simp] theorem fact174 : tzero PP 25 = some [Value.slice none 0 0] := by kernel_rfl
@[simp] theorem fact175 : tslots PP 25 = [some 1] := by kernel_rfl
@[simp] theorem fact176 : tplaces PP 25 = some [(0, 1)] := by kernel_rfl
@[simp] theorem fact177 : tinfo PP 26 = some (true, 1) := by kernel_rfl
@[simp] theorem fact178 : tarray PP 26 = none := by kernel_rfl
@[simp] theorem fact179 : zrow PP 26 = some [V.own 1 []] := by kernel_rfl
@[simp] theorem fact180 : tzero PP 26 = some [Value.slice none 0 0] := by kernel_rfl
@[simp] theorem fact181 : tslots PP 26 = [some 1] := by kernel_rfl
@[simp] theorem fact182 : tplaces PP 26 = some [(0, 1)] := by kernel_rfl
@[simp] theorem fact183 : tinfo PP 27 = some (false, 1) := by kernel_rfl
@[simp] theorem fact184 : tslice PP 27 = some (21, 1, 4) := by kernel_rfl
@[simp] theorem fact185 : tarray PP 27 = none := by kernel_rfl
@[simp] theorem fact186 : zrow PP 27 = some [V.own 1 []] := by kernel_rfl
@[simp] theorem fact187 : tzero PP 27 = some [Value.slice none 0 0] := by kernel_rfl
@[simp] theorem fact188 : tslots PP 27 = [some 1] := by kernel_rfl
@[simp] theorem fact189 : tplaces PP 27 = none := by kernel_rfl
@[simp] theorem fact190 : PP.underlying 27 = some (TypeDesc.slice 21) := by kernel_rfl
@[simp] theorem fact191 : tinfo PP 28 = some (false, 1) := by kernel_rfl
@[simp] theorem fact192 : tarray PP 28 = none := by kernel_rfl
@[simp] theorem fact193 : tzero PP 28 = some [Value.tuple #[Value.slice none 0 0, Value.slice none 0 0]] := by kernel_rfl
@[simp] theorem fact194 : tslots PP 28 = [none] := by kernel_rfl
@[simp] theorem fact195 : tplaces PP 28 = none := by kernel_rfl
@[simp] theorem fact196 : PP.underlying 28 = some (TypeDesc.tuple #[27, 24]) := by kernel_rfl
@[simp] theorem fact197 : tinfo PP 29 = some (false, 1) := by kernel_rfl
@[simp] theorem fact198 : tarray PP 29 = none := by kernel_rfl
@[simp] theorem fact199 : zrow PP 29 = some [V.v Value.nilFunc] := by kernel_rfl
@[simp] theorem fact200 : tzero PP 29 = some [Value.nilFunc] := by kernel_rfl
@[simp] theorem fact201 : tslots PP 29 = [none] := by kernel_rfl
@[simp] theorem fact202 : tplaces PP 29 = none := by kernel_rfl
@[simp] theorem fact203 : PP.underlying 29 = some (TypeDesc.func #[24] #[27, 24] false) := by kernel_rfl
@[simp] theorem fact204 : tinfo PP 30 = some (false, 1) := by kernel_rfl
@[simp] theorem fact205 : tarray PP 30 = none := by kernel_rfl
@[simp] theorem fact206 : zrow PP 30 = some [V.v Value.nilFunc] := by kernel_rfl
@[simp] theorem fact207 : tzero PP 30 = some [Value.nilFunc] := by kernel_rfl
@[simp] theorem fact208 : tslots PP 30 = [none] := by kernel_rfl
@[simp] theorem fact209 : tplaces PP 30 = none := by kernel_rfl
@[simp] theorem fact210 : PP.underlying 30 = some (TypeDesc.func #[24] #[27] false) := by kernel_rfl
@[simp] theorem fact211 : tinfo PP 31 = some (false, 1) := by kernel_rfl
@[simp] theorem fact212 : tarray PP 31 = none := by kernel_rfl
@[simp] theorem fact213 : zrow PP 31 = some [V.v Value.nilFunc] := by kernel_rfl
@[simp] theorem fact214 : tzero PP 31 = some [Value.nilFunc] := by kernel_rfl
@[simp] theorem fact215 : tslots PP 31 = [none] := by kernel_rfl
@[simp] theorem fact216 : tplaces PP 31 = none := by kernel_rfl
@[simp] theorem fact217 : PP.underlying 31 = some (TypeDesc.func #[27, 27] #[4] false) := by kernel_rfl
@[simp] theorem fact218 : tinfo PP 32 = some (false, 1) := by kernel_rfl
@[simp] theorem fact219 : tarray PP 32 = none := by kernel_rfl
@[simp] theorem fact220 : zrow PP 32 = some [V.v Value.nilFunc] := by kernel_rfl
@[simp] theorem fact221 : tzero PP 32 = some [Value.nilFunc] := by kernel_rfl
@[simp] theorem fact222 : tslots PP 32 = [none] := by kernel_rfl
@[simp] theorem fact223 : tplaces PP 32 = none := by kernel_rfl
@[simp] theorem fact224 : PP.underlying 32 = some (TypeDesc.func #[] #[3] false) := by kernel_rfl
@[simp] theorem fact225 : tinfo PP 33 = some (false, 1) := by kernel_rfl
@[simp] theorem fact226 : tarray PP 33 = none := by kernel_rfl
@[simp] theorem fact227 : zrow PP 33 = some [V.v Value.nilFunc] := by kernel_rfl
@[simp] theorem fact228 : tzero PP 33 = some [Value.nilFunc] := by kernel_rfl
@[simp] theorem fact229 : tslots PP 33 = [none] := by kernel_rfl
@[simp] theorem fact230 : tplaces PP 33 = none := by kernel_rfl
@[simp] theorem fact231 : PP.underlying 33 = some (TypeDesc.func #[] #[27] false) := by kernel_rfl
@[simp] theorem fact232 : tinfo PP 34 = some (false, 1) := by kernel_rfl
@[simp] theorem fact233 : tarray PP 34 = none := by kernel_rfl
@[simp] theorem fact234 : zrow PP 34 = some [V.v Value.nilFunc] := by kernel_rfl
@[simp] theorem fact235 : tzero PP 34 = some [Value.nilFunc] := by kernel_rfl
@[simp] theorem fact236 : tslots PP 34 = [none] := by kernel_rfl
@[simp] theorem fact237 : tplaces PP 34 = none := by kernel_rfl
@[simp] theorem fact238 : PP.underlying 34 = some (TypeDesc.func #[22] #[4] false) := by kernel_rfl
@[simp] theorem fact239 : tinfo PP 35 = some (false, 1) := by kernel_rfl
@[simp] theorem fact240 : tarray PP 35 = none := by kernel_rfl
@[simp] theorem fact241 : tzero PP 35 = some [Value.tuple #[Value.slice none 0 0, Value.int IntKind.i64 (0)]] := by kernel_rfl
@[simp] theorem fact242 : tslots PP 35 = [none] := by kernel_rfl
@[simp] theorem fact243 : tplaces PP 35 = none := by kernel_rfl
@[simp] theorem fact244 : PP.underlying 35 = some (TypeDesc.tuple #[27, 3]) := by kernel_rfl
@[simp] theorem fact245 : tinfo PP 36 = some (false, 1) := by kernel_rfl
@[simp] theorem fact246 : tarray PP 36 = none := by kernel_rfl
@[simp] theorem fact247 : zrow PP 36 = some [V.v Value.nilFunc] := by kernel_rfl
@[simp] theorem fact248 : tzero PP 36 = some [Value.nilFunc] := by kernel_rfl
@[simp] theorem fact249 : tslots PP 36 = [none] := by kernel_rfl
@[simp] theorem fact250 : tplaces PP 36 = none := by kernel_rfl
@[simp] theorem fact251 : PP.underlying 36 = some (TypeDesc.func #[27, 3] #[27, 3] false) := by kernel_rfl
@[simp] theorem fact252 : tinfo PP 37 = some (false, 1) := by kernel_rfl
@[simp] theorem fact253 : tarray PP 37 = none := by kernel_rfl
@[simp] theorem fact254 : zrow PP 37 = some [V.v Value.nilFunc] := by kernel_rfl
@[simp] theorem fact255 : tzero PP 37 = some [Value.nilFunc] := by kernel_rfl
@[simp] theorem fact256 : tslots PP 37 = [none] := by kernel_rfl
@[simp] theorem fact257 : tplaces PP 37 = none := by kernel_rfl
@[simp] theorem fact258 : PP.underlying 37 = some (TypeDesc.func #[27] #[3] false) := by kernel_rfl
@[simp] theorem fact259 : tinfo PP 38 = some (false, 1) := by kernel_rfl
@[simp] theorem fact260 : tarray PP 38 = none := by kernel_rfl
@[simp] theorem fact261 : zrow PP 38 = some [V.v Value.nilFunc] := by kernel_rfl
@[simp] theorem fact262 : tzero PP 38 = some [Value.nilFunc] := by kernel_rfl
@[simp] theorem fact263 : tslots PP 38 = [none] := by kernel_rfl
@[simp] theorem fact264 : tplaces PP 38 = none := by kernel_rfl
@[simp] theorem fact265 : PP.underlying 38 = some (TypeDesc.func #[27, 3] #[4] false) := by kernel_rfl
@[simp] theorem fact266 : tinfo PP 39 = some (false, 1) := by kernel_rfl
@[simp] theorem fact267 : tarray PP 39 = none := by kernel_rfl
@[simp] theorem fact268 : zrow PP 39 = some [V.v Value.nilFunc] := by kernel_rfl
@[simp] theorem fact269 : tzero PP 39 = some [Value.nilFunc] := by kernel_rfl
@[simp] theorem fact270 : tslots PP 39 = [none] := by kernel_rfl
@[simp] theorem fact271 : tplaces PP 39 = none := by kernel_rfl
@[simp] theorem fact272 : PP.underlying 39 = some (TypeDesc.func #[21] #[4] false) := by kernel_rfl
@[simp] theorem fact273 : tinfo PP 40 = some (false, 1) := by kernel_rfl
@[simp] theorem fact274 : tarray PP 40 = none := by kernel_rfl
@[simp] theorem fact275 : zrow PP 40 = some [V.v Value.nilFunc] := by kernel_rfl
@[simp] theorem fact276 : tzero PP 40 = some [Value.nilFunc] := by kernel_rfl
@[simp] theorem fact277 : tslots PP 40 = [none] := by kernel_rfl
@[simp] theorem fact278 : tplaces PP 40 = none := by kernel_rfl
@[simp] theorem fact279 : PP.underlying 40 = some (TypeDesc.func #[21] #[3] false) := by kernel_rfl
@[simp] theorem fact280 : tinfo PP 41 = some (false, 1) := by kernel_rfl
@[simp] theorem fact281 : tarray PP 41 = none := by kernel_rfl
@[simp] theorem fact282 : zrow PP 41 = some [V.v Value.nilFunc] := by kernel_rfl
@[simp] theorem fact283 : tzero PP 41 = some [Value.nilFunc] := by kernel_rfl
@[simp] theorem fact284 : tslots PP 41 = [none] := by kernel_rfl
@[simp] theorem fact285 : tplaces PP 41 = none := by kernel_rfl
@[simp] theorem fact286 : PP.underlying 41 = some (TypeDesc.func #[27] #[24] false) := by kernel_rfl
@[simp] theorem fact287 : tinfo PP 42 = some (false, 1) := by kernel_rfl
@[simp] theorem fact288 : tarray PP 42 = none := by kernel_rfl
@[simp] theorem fact289 : zrow PP 42 = some [V.v Value.nilFunc] := by kernel_rfl
@[simp] theorem fact290 : tzero PP 42 = some [Value.nilFunc] := by kernel_rfl
@[simp] theorem fact291 : tslots PP 42 = [none] := by kernel_rfl
@[simp] theorem fact292 : tplaces PP 42 = none := by kernel_rfl
@[simp] theorem fact293 : PP.underlying 42 = some (TypeDesc.func #[21, 21, 3] #[4] false) := by kernel_rfl
@[simp] theorem fact294 : tinfo PP 43 = some (false, 1) := by kernel_rfl
@[simp] theorem fact295 : tarray PP 43 = none := by kernel_rfl
@[simp] theorem fact296 : zrow PP 43 = some [V.v Value.nilFunc] := by kernel_rfl
@[simp] theorem fact297 : tzero PP 43 = some [Value.nilFunc] := by kernel_rfl
@[simp] theorem fact298 : tslots PP 43 = [none] := by kernel_rfl
@[simp] theorem fact299 : tplaces PP 43 = none := by kernel_rfl
@[simp] theorem fact300 : PP.underlying 43 = some (TypeDesc.func #[24] #[4] false) := by kernel_rfl
@[simp] theorem fact301 : tinfo PP 44 = some (false, 1) := by kernel_rfl
@[simp] theorem fact302 : tarray PP 44 = none := by kernel_rfl
@[simp] theorem fact303 : tzero PP 44 = some [Value.tuple #[Value.int IntKind.i64 (0), Value.int IntKind.i32 (0)]] := by kernel_rfl
@[simp] theorem fact304 : tslots PP 44 = [none] := by kernel_rfl
@[simp] theorem fact305 : tplaces PP 44 = none := by kernel_rfl
@[simp] theorem fact306 : PP.underlying 44 = some (TypeDesc.tuple #[3, 21]) := by kernel_rfl
@[simp] theorem fact307 : tinfo PP 45 = some (false, 1) := by kernel_rfl
@[simp] theorem fact308 : tarray PP 45 = none := by kernel_rfl
@[simp] theorem fact309 : zrow PP 45 = some [V.v Value.nilFunc] := by kernel_rfl
@[simp] theorem fact310 : tzero PP 45 = some [Value.nilFunc] := by kernel_rfl
@[simp] theorem fact311 : tslots PP 45 = [none] := by kernel_rfl
@[simp] theorem fact312 : tplaces PP 45 = none := by kernel_rfl
@[simp] theorem fact313 : PP.underlying 45 = some (TypeDesc.func #[24] #[3, 21] false) := by kernel_rfl
@[simp] theorem fact314 : tinfo PP 46 = some (false, 1) := by kernel_rfl
@[simp] theorem fact315 : tarray PP 46 = none := by kernel_rfl
@[simp] theorem fact316 : zrow PP 46 = some [V.v (Value.pointer none)] := by kernel_rfl
@[simp] theorem fact317 : tzero PP 46 = some [Value.pointer none] := by kernel_rfl
@[simp] theorem fact318 : tslots PP 46 = [none] := by kernel_rfl
@[simp] theorem fact319 : tplaces PP 46 = none := by kernel_rfl
@[simp] theorem fact320 : PP.underlying 46 = some (TypeDesc.pointer 26) := by kernel_rfl
@[simp] theorem fact321 : tinfo PP 47 = some (false, 1) := by kernel_rfl
@[simp] theorem fact322 : tarray PP 47 = none := by kernel_rfl
@[simp] theorem fact323 : zrow PP 47 = some [V.v Value.nilFunc] := by kernel_rfl
@[simp] theorem fact324 : tzero PP 47 = some [Value.nilFunc] := by kernel_rfl
@[simp] theorem fact325 : tslots PP 47 = [none] := by kernel_rfl
@[simp] theorem fact326 : tplaces PP 47 = none := by kernel_rfl
@[simp] theorem fact327 : PP.underlying 47 = some (TypeDesc.func #[24] #[24] false) := by kernel_rfl
@[simp] theorem fact328 : tinfo PP 48 = some (false, 1) := by kernel_rfl
@[simp] theorem fact329 : tarray PP 48 = none := by kernel_rfl
@[simp] theorem fact330 : tzero PP 48 = some [Value.tuple #[Value.int IntKind.i32 (0), Value.int IntKind.i64 (0)]] := by kernel_rfl
@[simp] theorem fact331 : tslots PP 48 = [none] := by kernel_rfl
@[simp] theorem fact332 : tplaces PP 48 = none := by kernel_rfl
@[simp] theorem fact333 : PP.underlying 48 = some (TypeDesc.tuple #[21, 3]) := by kernel_rfl
@[simp] theorem fact334 : tinfo PP 49 = some (false, 1) := by kernel_rfl
@[simp] theorem fact335 : tarray PP 49 = none := by kernel_rfl
@[simp] theorem fact336 : zrow PP 49 = some [V.v Value.nilFunc] := by kernel_rfl
@[simp] theorem fact337 : tzero PP 49 = some [Value.nilFunc] := by kernel_rfl
@[simp] theorem fact338 : tslots PP 49 = [none] := by kernel_rfl
@[simp] theorem fact339 : tplaces PP 49 = none := by kernel_rfl
@[simp] theorem fact340 : PP.underlying 49 = some (TypeDesc.func #[24] #[21, 3] false) := by kernel_rfl
@[simp] theorem fact341 : tinfo PP 50 = some (false, 1) := by kernel_rfl
@[simp] theorem fact342 : tarray PP 50 = none := by kernel_rfl
@[simp] theorem fact343 : zrow PP 50 = some [V.v Value.nilFunc] := by kernel_rfl
@[simp] theorem fact344 : tzero PP 50 = some [Value.nilFunc] := by kernel_rfl
@[simp] theorem fact345 : tslots PP 50 = [none] := by kernel_rfl
@[simp] theorem fact346 : tplaces PP 50 = none := by kernel_rfl
@[simp] theorem fact347 : PP.underlying 50 = some (TypeDesc.func #[27, 3] #[27] false) := by kernel_rfl
@[simp] theorem fact348 : tinfo PP 51 = some (false, 1) := by kernel_rfl
@[simp] theorem fact349 : tarray PP 51 = none := by kernel_rfl
@[simp] theorem fact350 : zrow PP 51 = some [V.v Value.nilFunc] := by kernel_rfl
@[simp] theorem fact351 : tzero PP 51 = some [Value.nilFunc] := by kernel_rfl
@[simp] theorem fact352 : tslots PP 51 = [none] := by kernel_rfl
@[simp] theorem fact353 : tplaces PP 51 = none := by kernel_rfl
@[simp] theorem fact354 : PP.underlying 51 = some (TypeDesc.func #[27] #[27] false) := by kernel_rfl
@[simp] theorem fact355 : tinfo PP 52 = some (false, 1) := by kernel_rfl
@[simp] theorem fact356 : tarray PP 52 = none := by kernel_rfl
@[simp] theorem fact357 : zrow PP 52 = some [V.v Value.nilFunc] := by kernel_rfl
@[simp] theorem fact358 : tzero PP 52 = some [Value.nilFunc] := by kernel_rfl
@[simp] theorem fact359 : tslots PP 52 = [none] := by kernel_rfl
@[simp] theorem fact360 : tplaces PP 52 = none := by kernel_rfl
@[simp] theorem fact361 : PP.underlying 52 = some (TypeDesc.func #[24, 21] #[24] false) := by kernel_rfl
@[simp] theorem fact362 : tinfo PP 53 = some (false, 1) := by kernel_rfl
@[simp] theorem fact363 : tarray PP 53 = none := by kernel_rfl
@[simp] theorem fact364 : zrow PP 53 = some [V.v Value.nilFunc] := by kernel_rfl
@[simp] theorem fact365 : tzero PP 53 = some [Value.nilFunc] := by kernel_rfl
@[simp] theorem fact366 : tslots PP 53 = [none] := by kernel_rfl
@[simp] theorem fact367 : tplaces PP 53 = none := by kernel_rfl
@[simp] theorem fact368 : PP.underlying 53 = some (TypeDesc.func #[24, 3, 5, 5] #[4] false) := by kernel_rfl
@[simp] theorem fact369 : tinfo PP 54 = some (false, 1) := by kernel_rfl
@[simp] theorem fact370 : tarray PP 54 = none := by kernel_rfl
@[simp] theorem fact371 : zrow PP 54 = some [V.v (Value.int IntKind.u64 (0))] := by kernel_rfl
@[simp] theorem fact372 : tzero PP 54 = some [Value.int IntKind.u64 (0)] := by kernel_rfl
@[simp] theorem fact373 : tslots PP 54 = [none] := by kernel_rfl
@[simp] theorem fact374 : tplaces PP 54 = none := by kernel_rfl
@[simp] theorem fact375 : PP.underlying 54 = some (TypeDesc.int IntKind.u64) := by kernel_rfl
@[simp] theorem fact376 : tinfo PP 55 = some (true, 256) := by kernel_rfl
@[simp] theorem fact377 : tarray PP 55 = some (256, 5, 1) := by kernel_rfl
@[simp] theorem fact378 : zrow PP 55 = some [V.v (Value.int IntKind.u8 (0)), V.v (Value.int IntKind.u8 (0)), V.v (Value.int IntKind.u8 (0)), V.v (Value.int IntKind.u8 (0)), V.v (Value.int IntKind.u8 (0)), V.v (Value.int IntKind.u8 (0)), V.v (Value.int IntKind.u8 (0)), V.v (Value.int IntKind.u8 (0)), V.v (Value.int IntKind.u8 (0)), V.v (Value.int IntKind.u8 (0)), V.v (Value.int IntKind.u8 (0)), V.v (Value.int IntKind.u8 (0)), V.v (Value.int IntKind.u8 (0)), V.v (Value.int IntKind.u8 (0)), V.v (Value.int IntKind.u8 (0)), V.v (Value.int IntKind.u8 (0)), V.v (Value.int IntKind.u8 (0)), V.v (Value.int IntKind.u8 (0)), V.v (Value.int IntKind.u8 (0)), V.v (Value.int IntKind.u8 (0)), V.v (Value.int IntKind.u8 (0)), V.v (Value.int IntKind.u8 (0)), V.v (Value.int IntKind.u8 (0)), V.v (Value.int IntKind.u8 (0)), V.v (Value.int IntKind.u8 (0)), V.v (Value.int IntKind.u8 (0)), V.v (Value.int IntKind.u8 (0)), V.v (Value.int IntKind.u8 (0)), V.v (Value.int IntKind.u8 (0)), V.v (Value.int IntKind.u8 (0)), V.v (Value.int IntKind.u8 (0)), V.v (Value.int IntKind.u8 (0)), V.v (Value.int IntKind.u8 (0)), V.v (Value.int IntKind.u8 (0)), V.v (Value.int IntKind.u8 (0)), V.v (Value.int IntKind.u8 (0)), V.v (Value.int IntKind.u8 (0)), V.v (Value.int IntKind.u8 (0)), V.v (Value.int IntKind.u8 (0)), V.v (Value.int IntKind.u8 (0)), V.v (Value.int IntKind.u8 (0)), V.v (Value.int IntKind.u8 (0)), V.v (Value.int IntKind.u8 (0)), V.v (Value.int IntKind.u8 (0)), V.v (Value.int IntKind.u8 (0)), V.v (Value.int IntKind.u8 (0)), V.v (Value.int IntKind.u8 (0)), V.v (Value.int IntKind.u8 (0)), V.v (Value.int IntKind.u8 (0)), V.v (Value.int IntKind.u8 (0)), V.v (Value.int IntKind.u8 (0)), V.v (Value.int IntKind.u8 (0)), V.v (Value.int IntKind.u8 (0)), V.v (Value.int IntKind.u8 (0)), V.v (Value.int IntKind.u8 (0)), V.v (Value.int IntKind.u8 (0)), V.v (Value.int IntKind.u8 (0)), V.v (Value.int IntKind.u8 (0)), V.v (Value.int IntKind.u8 (0)), V.v (Value.int IntKind.u8 (0)), V.v (Value.int IntKind.u8 (0)), V.v (Value.int IntKind.u8 (0)), V.v (Value.int IntKind.u8 (0)), V.v (Value.int IntKind.u8 (0)), V.v (Value.int IntKind.u8 (0)), V.v (Value.int IntKind.u8 (0)), V.v (Value.int IntKind.u8 (0)), V.v (Value.int IntKind.u8 (0)), V.v (Value.int IntKind.u8 (0)), V.v (Value.int IntKind.u8 (0)), V.v (Value.int IntKind.u8 (0)), V.v (Value.int IntKind.u8 (0)), V.v (Value.int IntKind.u8 (0)), V.v (Value.int IntKind.u8 (0)), V.v (Value.int IntKind.u8 (0)), V.v (Value.int IntKind.u8 (0)), V.v (Value.int IntKind.u8 (0)), V.v (Value.int IntKind.u8 (0)), V.v (Value.int IntKind.u8 (0)), V.v (Value.int IntKind.u8 (0)), V.v (Value.int IntKind.u8 (0)), V.v (Value.int IntKind.u8 (0)), V.v (Value.int IntKind.u8 (0)), V.v (Value.int IntKind.u8 (0)), V.v (Value.int IntKind.u8 (0)), V.v (Value.int IntKind.u8 (0)), V.v (Value.int IntKind.u8 (0)), V.v (Value.int IntKind.u8 (0)), V.v (Value.int IntKind.u8 (0)), V.v (Value.int IntKind.u8 (0)), V.v (Value.int IntKind.u8 (0)), V.v (Value.int IntKind.u8 (0)), V.v (Value.int IntKind.u8 (0)), V.v (Value.int IntKind.u8 (0)), V.v (Value.int IntKind.u8 (0)), V.v (Value.int IntKind.u8 (0)), V.v (Value.int IntKind.u8 (0)), V.v (Value.int IntKind.u8 (0)), V.v (Value.int IntKind.u8 (0)), V.v (Value.int IntKind.u8 (0)), V.v (Value.int IntKind.u8 (0)), V.v (Value.int IntKind.u8 (0)), V.v (Value.int IntKind.u8 (0)), V.v (Value.int IntKind.u8 (0)), V.v (Value.int IntKind.u8 (0)), V.v (Value.int IntKind.u8 (0)), V.v (Value.int IntKind.u8 (0)), V.v (Value.int IntKind.u8 (0)), V.v (Value.int IntKind.u8 (0)), V.v (Value.int IntKind.u8 (0)), V.v (Value.int IntKind.u8 (0)), V.v (Value.int IntKind.u8 (0)), V.v (Value.int IntKind.u8 (0)), V.v (Value.int IntKind.u8 (0)), V.v (Value.int IntKind.u8 (0)), V.v (Value.int IntKind.u8 (0)), V.v (Value.int IntKind.u8 (0)), V.v (Value.int IntKind.u8 (0)), V.v (Value.int IntKind.u8 (0)), V.v (Value.int IntKind.u8 (0)), V.v (Value.int IntKind.u8 (0)), V.v (Value.int IntKind.u8 (0)), V.v (Value.int IntKind.u8 (0)), V.v (Value.int IntKind.u8 (0)), V.v (Value.int IntKind.u8 (0)), V.v (Value.int IntKind.u8 (0)), V.v (Value.int IntKind.u8 (0)), V.v (Value.int IntKind.u8 (0)), V.v (Value.int IntKind.u8 (0)), V.v (Value.int IntKind.u8 (0)), V.v (Value.int IntKind.u8 (0)), V.v (Value.int IntKind.u8 (0)), V.v (Value.int IntKind.u8 (0)), V.v (Value.int IntKind.u8 (0)), V.v (Value.int IntKind.u8 (0)), V.v (Value.int IntKind.u8 (0)), V.v (Value.int IntKind.u8 (0)), V.v (Value.int IntKind.u8 (0)), V.v (Value.int IntKind.u8 (0)), V.v (Value.int IntKind.u8 (0)), V.v (Value.int IntKind.u8 (0)), V.v (Value.int IntKind.u8 (0)), V.v (Value.int IntKind.u8 (0)), V.v (Value.int IntKind.u8 (0)), V.v (Value.int IntKind.u8 (0)), V.v (Value.int IntKind.u8 (0)), V.v (Value.int IntKind.u8 (0)), V.v (Value.int IntKind.u8 (0)), V.v (Value.int IntKind.u8 (0)), V.v (Value.int IntKind.u8 (0)), V.v (Value.int IntKind.u8 (0)), V.v (Value.int IntKind.u8 (0)), V.v (Value.int IntKind.u8 (0)), V.v (Value.int IntKind.u8 (0)), V.v (Value.int IntKind.u8 (0)), V.v (Value.int IntKind.u8 (0)), V.v (Value.int IntKind.u8 (0)), V.v (Value.int IntKind.u8 (0)), V.v (Value.int IntKind.u8 (0)), V.v (Value.int IntKind.u8 (0)), V.v (Value.int IntKind.u8 (0)), V.v (Value.int IntKind.u8 (0)), V.v (Value.int IntKind.u8 (0)), V.v (Value.int IntKind.u8 (0)), V.v (Value.int IntKind.u8 (0)), V.v (Value.int IntKind.u8 (0)), V.v (Value.int IntKind.u8 (0)), V.v (Value.int IntKind.u8 (0)), V.v (Value.int IntKind.u8 (0)), V.v (Value.int IntKind.u8 (0)), V.v (Value.int IntKind.u8 (0)), V.v (Value.int IntKind.u8 (0)), V.v (Value.int IntKind.u8 (0)), V.v (Value.int IntKind.u8 (0)), V.v (Value.int IntKind.u8 (0)), V.v (Value.int IntKind.u8 (0)), V.v (Value.int IntKind.u8 (0)), V.v (Value.int IntKind.u8 (0)), V.v (Value.int IntKind.u8 (0)), V.v (Value.int IntKind.u8 (0)), V.v (Value.int IntKind.u8 (0)), V.v (Value.int IntKind.u8 (0)), V.v (Value.int IntKind.u8 (0)), V.v (Value.int IntKind.u8 (0)), V.v (Value.int IntKind.u8 (0)), V.v (Value.int IntKind.u8 (0)), V.v (Value.int IntKind.u8 (0)), V.v (Value.int IntKind.u8 (0)), V.v (Value.int IntKind.u8 (0)), V.v (Value.int IntKind.u8 (0)), V.v (Value.int IntKind.u8 (0)), V.v (Value.int IntKind.u8 (0)), V.v (Value.int IntKind.u8 (0)), V.v (Value.int IntKind.u8 (0)), V.v (Value.int IntKind.u8 (0)), V.v (Value.int IntKind.u8 (0)), V.v (Value.int IntKind.u8 (0)), V.v (Value.int IntKind.u8 (0)), V.v (Value.int IntKind.u8 (0)), V.v (Value.int IntKind.u8 (0)), V.v (Value.int IntKind.u8 (0)), V.v (Value.int IntKind.u8 (0)), V.v (Value.int IntKind.u8 (0)), V.v (Value.int IntKind.u8 (0)), V.v (Value.int IntKind.u8 (0)), V.v (Value.int IntKind.u8 (0)), V.v (Value.int IntKind.u8 (0)), V.v (Value.int IntKind.u8 (0)), V.v (Value.int IntKind.u8 (0)), V.v (Value.int IntKind.u8 (0)), V.v (Value.int IntKind.u8 (0)), V.v (Value.int IntKind.u8 (0)), V.v (Value.int IntKind.u8 (0)), V.v (Value.int IntKind.u8 (0)), V.v (Value.int IntKind.u8 (0)), V.v (Value.int IntKind.u8 (0)), V.v (Value.int IntKind.u8 (0)), V.v (Value.int IntKind.u8 (0)), V.v (Value.int IntKind.u8 (0)), V.v (Value.int IntKind.u8 (0)), V.v (Value.int IntKind.u8 (0)), V.v (Value.int IntKind.u8 (0)), V.v (Value.int IntKind.u8 (0)), V.v (Value.int IntKind.u8 (0)), V.v (Value.int IntKind.u8 (0)), V.v (Value.int IntKind.u8 (0)), V.v (Value.int IntKind.u8 (0)), V.v (Value.int IntKind.u8 (0)), V.v (Value.int IntKind.u8 (0)), V.v (Value.int IntKind.u8 (0)), V.v (Value.int IntKind.u8 (0)), V.v (Value.int IntKind.u8 (0)), V.v (Value.int IntKind.u8 (0)), V.v (Value.int IntKind.u8 (0)), V.v (Value.int IntKind.u8 (0)), V.v (Value.int IntKind.u8 (0)), V.v (Value.int IntKind.u8 (0)), V.v (Value.int IntKind.u8 (0)), V.v (Value.int IntKind.u8 (0)), V.v (Value.int IntKind.u8 (0)), V.v (Value.int IntKind.u8 (0)), V.v (Value.int IntKind.u8 (0)), V.v (Value.int IntKind.u8 (0)), V.v (Value.int IntKind.u8 (0)), V.v (Value.int IntKind.u8 (0)), V.v (Value.int IntKind.u8 (0)), V.v (Value.int IntKind.u8 (0)), V.v (Value.int IntKind.u8 (0)), V.v (Value.int IntKind.u8 (0)), V.v (Value.int IntKind.u8 (0)), V.v (Value.int IntKind.u8 (0)), V.v (Value.int IntKind.u8 (0)), V.v (Value.int IntKind.u8 (0)), V.v (Value.int IntKind.u8 (0)), V.v (Value.int IntKind.u8 (0)), V.v (Value.int IntKind.u8 (0))] := by kernel_rfl
@[simp] theorem fact379 : tzero PP 55 = some [Value.int IntKind.u8 (0), Value.int IntKind.u8 (0), Value.int IntKind.u8 (0), Value.int IntKind.u8 (0), Value.int IntKind.u8 (0), Value.int IntKind.u8 (0), Value.int IntKind.u8 (0), Value.int IntKind.u8 (0), Value.int IntKind.u8 (0), Value.int IntKind.u8 (0), Value.int IntKind.u8 (0), Value.int IntKind.u8 (0), Value.int IntKind.u8 (0), Value.int IntKind.u8 (0), Value.int IntKind.u8 (0), Value.int IntKind.u8 (0), Value.int IntKind.u8 (0), Value.int IntKind.u8 (0), Value.int IntKind.u8 (0), Value.int IntKind.u8 (0), Value.int IntKind.u8 (0), Value.int IntKind.u8 (0), Value.int IntKind.u8 (0), Value.int IntKind.u8 (0), Value.int IntKind.u8 (0), Value.int IntKind.u8 (0), Value.int IntKind.u8 (0), Value.int IntKind.u8 (0), Value.int IntKind.u8 (0), Value.int IntKind.u8 (0), Value.int IntKind.u8 (0), Value.int IntKind.u8 (0), Value.int IntKind.u8 (0), Value.int IntKind.u8 (0), Value.int IntKind.u8 (0), Value.int IntKind.u8 (0), Value.int IntKind.u8 (0), Value.int IntKind.u8 (0), Value.int IntKind.u8 (0), Value.int IntKind.u8 (0), Value.int IntKind.u8 (0), Value.int IntKind.u8 (0), Value.int IntKind.u8 (0), Value.int IntKind.u8 (0), Value.int IntKind.u8 (0), Value.int IntKind.u8 (0), Value.int IntKind.u8 (0), Value.int IntKind.u8 (0), Value.int IntKind.u8 (0), Value.int IntKind.u8 (0), Value.int IntKind.u8 (0), Value.int IntKind.u8 (0), Value.int IntKind.u8 (0), Value.int IntKind.u8 (0), Value.int IntKind.u8 (0), Value.int IntKind.u8 (0), Value.int IntKind.u8 (0), Value.int IntKind.u8 (0), Value.int IntKind.u8 (0), Value.int IntKind.u8 (0), Value.int IntKind.u8 (0), Value.int IntKind.u8 (0), Value.int IntKind.u8 (0), Value.int IntKind.u8 (0), Value.int IntKind.u8 (0), Value.int IntKind.u8 (0), Value.int IntKind.u8 (0), Value.int IntKind.u8 (0), Value.int IntKind.u8 (0), Value.int IntKind.u8 (0), Value.int IntKind.u8 (0), Value.int IntKind.u8 (0), Value.int IntKind.u8 (0), Value.int IntKind.u8 (0), Value.int IntKind.u8 (0), Value.int IntKind.u8 (0), Value.int IntKind.u8 (0), Value.int IntKind.u8 (0), Value.int IntKind.u8 (0), Value.int IntKind.u8 (0), Value.int IntKind.u8 (0), Value.int IntKind.u8 (0), Value.int IntKind.u8 (0), Value.int IntKind.u8 (0), Value.int IntKind.u8 (0), Value.int IntKind.u8 (0), Value.int IntKind.u8 (0), Value.int IntKind.u8 (0), Value.int IntKind.u8 (0), Value.int IntKind.u8 (0), Value.int IntKind.u8 (0), Value.int IntKind.u8 (0), Value.int IntKind.u8 (0), Value.int IntKind.u8 (0), Value.int IntKind.u8 (0), Value.int IntKind.u8 (0), Value.int IntKind.u8 (0), Value.int IntKind.u8 (0), Value.int IntKind.u8 (0), Value.int IntKind.u8 (0), Value.int IntKind.u8 (0), Value.int IntKind.u8 (0), Value.int IntKind.u8 (0), Value.int IntKind.u8 (0), Value.int IntKind.u8 (0), Value.int IntKind.u8 (0), Value.int IntKind.u8 (0), Value.int IntKind.u8 (0), Value.int IntKind.u8 (0), Value.int IntKind.u8 (0), Value.int IntKind.u8 (0), Value.int IntKind.u8 (0), Value.int IntKind.u8 (0), Value.int IntKind.u8 (0), Value.int IntKind.u8 (0), Value.int IntKind.u8 (0), Value.int IntKind.u8 (0), Value.int IntKind.u8 (0), Value.int IntKind.u8 (0), Value.int IntKind.u8 (0), Value.int IntKind.u8 (0), Value.int IntKind.u8 (0), Value.int IntKind.u8 (0), Value.int IntKind.u8 (0), Value.int IntKind.u8 (0), Value.int IntKind.u8 (0), Value.int IntKind.u8 (0), Value.int IntKind.u8 (0), Value.int IntKind.u8 (0), Value.int IntKind.u8 (0), Value.int IntKind.u8 (0), Value.int IntKind.u8 (0), Value.int IntKind.u8 (0), Value.int IntKind.u8 (0), Value.int IntKind.u8 (0), Value.int IntKind.u8 (0), Value.int IntKind.u8 (0), Value.int IntKind.u8 (0), Value.int IntKind.u8 (0), Value.int IntKind.u8 (0), Value.int IntKind.u8 (0), Value.int IntKind.u8 (0), Value.int IntKind.u8 (0), Value.int IntKind.u8 (0), Value.int IntKind.u8 (0), Value.int IntKind.u8 (0), Value.int IntKind.u8 (0), Value.int IntKind.u8 (0), Value.int IntKind.u8 (0), Value.int IntKind.u8 (0), Value.int IntKind.u8 (0), Value.int IntKind.u8 (0), Value.int IntKind.u8 (0), Value.int IntKind.u8 (0), Value.int IntKind.u8 (0), Value.int IntKind.u8 (0), Value.int IntKind.u8 (0), Value.int IntKind.u8 (0), Value.int IntKind.u8 (0), Value.int IntKind.u8 (0), Value.int IntKind.u8 (0), Value.int IntKind.u8 (0), Value.int IntKind.u8 (0), Value.int IntKind.u8 (0), Value.int IntKind.u8 (0), Value.int IntKind.u8 (0), Value.int IntKind.u8 (0), Value.int IntKind.u8 (0), Value.int IntKind.u8 (0), Value.int IntKind.u8 (0), Value.int IntKind.u8 (0), Value.int IntKind.u8 (0), Value.int IntKind.u8 (0), Value.int IntKind.u8 (0), Value.int IntKind.u8 (0), Value.int IntKind.u8 (0), Value.int IntKind.u8 (0), Value.int IntKind.u8 (0), Value.int IntKind.u8 (0), Value.int IntKind.u8 (0), Value.int IntKind.u8 (0), Value.int IntKind.u8 (0), Value.int IntKind.u8 (0), Value.int IntKind.u8 (0), Value.int IntKind.u8 (0), Value.int IntKind.u8 (0), Value.int IntKind.u8 (0), Value.int IntKind.u8 (0), Value.int IntKind.u8 (0), Value.int IntKind.u8 (0), Value.int IntKind.u8 (0), Value.int IntKind.u8 (0), Value.int IntKind.u8 (0), Value.int IntKind.u8 (0), Value.int IntKind.u8 (0), Value.int IntKind.u8 (0), Value.int IntKind.u8 (0), Value.int IntKind.u8 (0), Value.int IntKind.u8 (0), Value.int IntKind.u8 (0), Value.int IntKind.u8 (0), Value.int IntKind.u8 (0), Value.int IntKind.u8 (0), Value.int IntKind.u8 (0), Value.int IntKind.u8 (0), Value.int IntKind.u8 (0), Value.int IntKind.u8 (0), Value.int IntKind.u8 (0), Value.int IntKind.u8 (0), Value.int IntKind.u8 (0), Value.int IntKind.u8 (0), Value.int IntKind.u8 (0), Value.int IntKind.u8 (0), Value.int IntKind.u8 (0), Value.int IntKind.u8 (0), Value.int IntKind.u8 (0), Value.int IntKind.u8 (0), Value.int IntKind.u8 (0), Value.int IntKind.u8 (0), Value.int IntKind.u8 (0), Value.int IntKind.u8 (0), Value.int IntKind.u8 (0), Value.int IntKind.u8 (0), Value.int IntKind.u8 (0), Value.int IntKind.u8 (0), Value.int IntKind.u8 (0), Value.int IntKind.u8 (0), Value.int IntKind.u8 (0), Value.int IntKind.u8 (0), Value.int IntKind.u8 (0), Value.int IntKind.u8 (0), Value.int IntKind.u8 (0), Value.int IntKind.u8 (0), Value.int IntKind.u8 (0), Value.int IntKind.u8 (0), Value.int IntKind.u8 (0), Value.int IntKind.u8 (0), Value.int IntKind.u8 (0), Value.int IntKind.u8 (0), Value.int IntKind.u8 (0), Value.int IntKind.u8 (0), Value.int IntKind.u8 (0), Value.int IntKind.u8 (0), Value.int IntKind.u8 (0), Value.int IntKind.u8 (0), Value.int IntKind.u8 (0), Value.int IntKind.u8 (0), Value.int IntKind.u8 (0), Value.int IntKind.u8 (0), Value.int IntKind.u8 (0), Value.int IntKind.u8 (0), Value.int IntKind.u8 (0), Value.int IntKind.u8 (0), Value.int IntKind.u8 (0), Value.int IntKind.u8 (0), Value.int IntKind.u8 (0)] := by kernel_rfl
@[simp] theorem fact380 : tslots PP 55 = [none, none, none, none, none, none, none, none, none, none, none, none, none, none, none, none, none, none, none, none, none, none, none, none, none, none, none, none, none, none, none, none, none, none, none, none, none, none, none, none, none, none, none, none, none, none, none, none, none, none, none, none, none, none, none, none, none, none, none, none, none, none, none, none, none, none, none, none, none, none, none, none, none, none, none, none, none, none, none, none, none, none, none, none, none, none, none, none, none, none, none, none, none, none, none, none, none, none, none, none, none, none, none, none, none, none, none, none, none, none, none, none, none, none, none, none, none, none, none, none, none, none, none, none, none, none, none, none, none, none, none, none, none, none, none, none, none, none, none, none, none, none, none, none, none, none, none, none, none, none, none, none, none, none, none, none, none, none, none, none, none, none, none, none, none, none, none, none, none, none, none, none, none, none, none, none, none, none, none, none, none, none, none, none, none, none, none, none, none, none, none, none, none, none, none, none, none, none, none, none, none, none, none, none, none, none, none, none, none, none, none, none, none, none, none, none, none, none, none, none, none, none, none, none, none, none, none, none, none, none, none, none, none, none, none, none, none, none, none, none, none, none, none, none, none, none, none, none, none, none, none, none, none, none, none, none] := by kernel_rfl
@[simp] theorem fact381 : tplaces PP 55 = none := by kernel_rfl
@[simp] theorem fact382 : PP.underlying 55 = some (TypeDesc.array 256 5) := by kernel_rfl
@[simp] theorem fact383 : tinfo PP 56 = some (true, 2) := by kernel_rfl
@[simp] theorem fact384 : tarray PP 56 = none := by kernel_rfl
@[simp] theorem fact385 : zrow PP 56 = some [V.v (Value.int IntKind.u8 (0)), V.v (Value.int IntKind.u8 (0))] := by kernel_rfl
@[simp] theorem fact386 : tzero PP 56 = some [Value.int IntKind.u8 (0), Value.int IntKind.u8 (0)] := by kernel_rfl
@[simp] theorem fact387 : tslots PP 56 = [none, none] := by kernel_rfl
@[simp] theorem fact388 : tplaces PP 56 = some [(0, 1), (1, 1)] := by kernel_rfl
@[simp] theorem fact389 : tinfo PP 57 = some (true, 2) := by kernel_rfl
@[simp] theorem fact390 : tarray PP 57 = none := by kernel_rfl
@[simp] theorem fact391 : zrow PP 57 = some [V.v (Value.int IntKind.u8 (0)), V.v (Value.int IntKind.u8 (0))] := by kernel_rfl
@[simp] theorem fact392 : tzero PP 57 = some [Value.int IntKind.u8 (0), Value.int IntKind.u8 (0)] := by kernel_rfl
@[simp] theorem fact393 : tslots PP 57 = [none, none] := by kernel_rfl
@[simp] theorem fact394 : tplaces PP 57 = some [(0, 1), (1, 1)] := by kernel_rfl
@[simp] theorem fact395 : tinfo PP 58 = some (true, 32) := by kernel_rfl
@[simp] theorem fact396 : tarray PP 58 = some (16, 57, 2) := by kernel_rfl
@[simp] theorem fact397 : zrow PP 58 = some [V.v (Value.int IntKind.u8 (0)), V.v (Value.int IntKind.u8 (0)), V.v (Value.int IntKind.u8 (0)), V.v (Value.int IntKind.u8 (0)), V.v (Value.int IntKind.u8 (0)), V.v (Value.int IntKind.u8 (0)), V.v (Value.int IntKind.u8 (0)), V.v (Value.int IntKind.u8 (0)), V.v (Value.int IntKind.u8 (0)), V.v (Value.int IntKind.u8 (0)), V.v (Value.int IntKind.u8 (0)), V.v (Value.int IntKind.u8 (0)), V.v (Value.int IntKind.u8 (0)), V.v (Value.int IntKind.u8 (0)), V.v (Value.int IntKind.u8 (0)), V.v (Value.int IntKind.u8 (0)), V.v (Value.int IntKind.u8 (0)), V.v (Value.int IntKind.u8 (0)), V.v (Value.int IntKind.u8 (0)), V.v (Value.int IntKind.u8 (0)), V.v (Value.int IntKind.u8 (0)), V.v (Value.int IntKind.u8 (0)), V.v (Value.int IntKind.u8 (0)), V.v (Value.int IntKind.u8 (0)), V.v (Value.int IntKind.u8 (0)), V.v (Value.int IntKind.u8 (0)), V.v (Value.int IntKind.u8 (0)), V.v (Value.int IntKind.u8 (0)), V.v (Value.int IntKind.u8 (0)), V.v (Value.int IntKind.u8 (0)), V.v (Value.int IntKind.u8 (0)), V.v (Value.int IntKind.u8 (0))] := by kernel_rfl
@[simp] theorem fact398 : tzero PP 58 = some [Value.int IntKind.u8 (0), Value.int IntKind.u8 (0), Value.int IntKind.u8 (0), Value.int IntKind.u8 (0), Value.int IntKind.u8 (0), Value.int IntKind.u8 (0), Value.int IntKind.u8 (0), Value.int IntKind.u8 (0), Value.int IntKind.u8 (0), Value.int IntKind.u8 (0), Value.int IntKind.u8 (0), Value.int IntKind.u8 (0), Value.int IntKind.u8 (0), Value.int IntKind.u8 (0), Value.int IntKind.u8 (0), Value.int IntKind.u8 (0), Value.int IntKind.u8 (0), Value.int IntKind.u8 (0), Value.int IntKind.u8 (0), Value.int IntKind.u8 (0), Value.int IntKind.u8 (0), Value.int IntKind.u8 (0), Value.int IntKind.u8 (0), Value.int IntKind.u8 (0), Value.int IntKind.u8 (0), Value.int IntKind.u8 (0), Value.int IntKind.u8 (0), Value.int IntKind.u8 (0), Value.int IntKind.u8 (0), Value.int IntKind.u8 (0), Value.int IntKind.u8 (0), Value.int IntKind.u8 (0)] := by kernel_rfl
@[simp] theorem fact399 : tslots PP 58 = [none, none, none, none, none, none, none, none, none, none, none, none, none, none, none, none, none, none, none, none, none, none, none, none, none, none, none, none, none, none, none, none] := by kernel_rfl
@[simp] theorem fact400 : tplaces PP 58 = none := by kernel_rfl
@[simp] theorem fact401 : PP.underlying 58 = some (TypeDesc.array 16 57) := by kernel_rfl
@[simp] theorem fact402 : tinfo PP 59 = some (false, 1) := by kernel_rfl
@[simp] theorem fact403 : tarray PP 59 = none := by kernel_rfl
@[simp] theorem fact404 : tzero PP 59 = some [Value.tuple #[Value.int IntKind.u64 (0), Value.int IntKind.u64 (0)]] := by kernel_rfl
@[simp] theorem fact405 : tslots PP 59 = [none] := by kernel_rfl
@[simp] theorem fact406 : tplaces PP 59 = none := by kernel_rfl
@[simp] theorem fact407 : PP.underlying 59 = some (TypeDesc.tuple #[54, 54]) := by kernel_rfl
@[simp] theorem fact408 : tinfo PP 60 = some (false, 1) := by kernel_rfl
@[simp] theorem fact409 : tarray PP 60 = none := by kernel_rfl
@[simp] theorem fact410 : zrow PP 60 = some [V.v Value.nilFunc] := by kernel_rfl
@[simp] theorem fact411 : tzero PP 60 = some [Value.nilFunc] := by kernel_rfl
@[simp] theorem fact412 : tslots PP 60 = [none] := by kernel_rfl
@[simp] theorem fact413 : tplaces PP 60 = none := by kernel_rfl
@[simp] theorem fact414 : PP.underlying 60 = some (TypeDesc.func #[54, 54] #[54, 54] false) := by kernel_rfl
@[simp] theorem fact415 : tinfo PP 61 = some (false, 1) := by kernel_rfl
@[simp] theorem fact416 : tarray PP 61 = none := by kernel_rfl
@[simp] theorem fact417 : zrow PP 61 = some [V.v Value.nilFunc] := by kernel_rfl
@[simp] theorem fact418 : tzero PP 61 = some [Value.nilFunc] := by kernel_rfl
@[simp] theorem fact419 : tslots PP 61 = [none] := by kernel_rfl
@[simp] theorem fact420 : tplaces PP 61 = none := by kernel_rfl
@[simp] theorem fact421 : PP.underlying 61 = some (TypeDesc.func #[21, 70] #[4] true) := by kernel_rfl
@[simp] theorem fact422 : tinfo PP 62 = some (true, 2) := by kernel_rfl
@[simp] theorem fact423 : tarray PP 62 = none := by kernel_rfl
@[simp] theorem fact424 : zrow PP 62 = some [V.v (Value.int IntKind.i32 (0)), V.v (Value.int IntKind.i32 (0))] := by kernel_rfl
@[simp] theorem fact425 : tzero PP 62 = some [Value.int IntKind.i32 (0), Value.int IntKind.i32 (0)] := by kernel_rfl
@[simp] theorem fact426 : tslots PP 62 = [none, none] := by kernel_rfl
@[simp] theorem fact427 : tplaces PP 62 = some [(0, 1), (1, 1)] := by kernel_rfl
@[simp] theorem fact428 : tinfo PP 63 = some (true, 2) := by kernel_rfl
@[simp] theorem fact429 : tarray PP 63 = none := by kernel_rfl
@[simp] theorem fact430 : zrow PP 63 = some [V.v (Value.int IntKind.i32 (0)), V.v (Value.int IntKind.i32 (0))] := by kernel_rfl
@[simp] theorem fact431 : tzero PP 63 = some [Value.int IntKind.i32 (0), Value.int IntKind.i32 (0)] := by kernel_rfl
@[simp] theorem fact432 : tslots PP 63 = [none, none] := by kernel_rfl
@[simp] theorem fact433 : tplaces PP 63 = some [(0, 1), (1, 1)] := by kernel_rfl
@[simp] theorem fact434 : tinfo PP 64 = some (false, 1) := by kernel_rfl
@[simp] theorem fact435 : tarray PP 64 = none := by kernel_rfl
@[simp] theorem fact436 : zrow PP 64 = some [V.v (Value.int IntKind.u32 (0))] := by kernel_rfl
@[simp] theorem fact437 : tzero PP 64 = some [Value.int IntKind.u32 (0)] := by kernel_rfl
@[simp] theorem fact438 : tslots PP 64 = [none] := by kernel_rfl
@[simp] theorem fact439 : tplaces PP 64 = none := by kernel_rfl
@[simp] theorem fact440 : PP.underlying 64 = some (TypeDesc.int IntKind.u32) := by kernel_rfl
@[simp] theorem fact441 : tinfo PP 65 = some (false, 1) := by kernel_rfl
@[simp] theorem fact442 : tarray PP 65 = none := by kernel_rfl
@[simp] theorem fact443 : tzero PP 65 = some [Value.tuple #[Value.int IntKind.u32 (0), Value.int IntKind.u32 (0)]] := by kernel_rfl
@[simp] theorem fact444 : tslots PP 65 = [none] := by kernel_rfl
@[simp] theorem fact445 : tplaces PP 65 = none := by kernel_rfl
@[simp] theorem fact446 : PP.underlying 65 = some (TypeDesc.tuple #[64, 64]) := by kernel_rfl
@[simp] theorem fact447 : tinfo PP 66 = some (false, 1) := by kernel_rfl
@[simp] theorem fact448 : tarray PP 66 = none := by kernel_rfl
@[simp] theorem fact449 : zrow PP 66 = some [V.v Value.nilFunc] := by kernel_rfl
@[simp] theorem fact450 : tzero PP 66 = some [Value.nilFunc] := by kernel_rfl
@[simp] theorem fact451 : tslots PP 66 = [none] := by kernel_rfl
@[simp] theorem fact452 : tplaces PP 66 = none := by kernel_rfl
@[simp] theorem fact453 : PP.underlying 66 = some (TypeDesc.func #[64, 64] #[64, 64] false) := by kernel_rfl
@[simp] theorem fact454 : tinfo PP 67 = some (false, 1) := by kernel_rfl
@[simp] theorem fact455 : tarray PP 67 = none := by kernel_rfl
@[simp] theorem fact456 : zrow PP 67 = some [V.v (Value.int IntKind.u64 (0))] := by kernel_rfl
@[simp] theorem fact457 : tzero PP 67 = some [Value.int IntKind.u64 (0)] := by kernel_rfl
@[simp] theorem fact458 : tslots PP 67 = [none] := by kernel_rfl
@[simp] theorem fact459 : tplaces PP 67 = none := by kernel_rfl
@[simp] theorem fact460 : PP.underlying 67 = some (TypeDesc.int IntKind.u64) := by kernel_rfl
@[simp] theorem fact461 : tinfo PP 68 = some (false, 1) := by kernel_rfl
@[simp] theorem fact462 : tarray PP 68 = none := by kernel_rfl
@[simp] theorem fact463 : tzero PP 68 = some [Value.tuple #[Value.int IntKind.u64 (0), Value.int IntKind.u64 (0)]] := by kernel_rfl
@[simp] theorem fact464 : tslots PP 68 = [none] := by kernel_rfl
@[simp] theorem fact465 : tplaces PP 68 = none := by kernel_rfl
@[simp] theorem fact466 : PP.underlying 68 = some (TypeDesc.tuple #[67, 67]) := by kernel_rfl
@[simp] theorem fact467 : tinfo PP 69 = some (false, 1) := by kernel_rfl
@[simp] theorem fact468 : tarray PP 69 = none := by kernel_rfl
@[simp] theorem fact469 : zrow PP 69 = some [V.v Value.nilFunc] := by kernel_rfl
@[simp] theorem fact470 : tzero PP 69 = some [Value.nilFunc] := by kernel_rfl
@[simp] theorem fact471 : tslots PP 69 = [none] := by kernel_rfl
@[simp] theorem fact472 : tplaces PP 69 = none := by kernel_rfl
@[simp] theorem fact473 : PP.underlying 69 = some (TypeDesc.func #[67, 67] #[67, 67] false) := by kernel_rfl
@[simp] theorem fact474 : tinfo PP 70 = some (false, 1) := by kernel_rfl
@[simp] theorem fact475 : tslice PP 70 = some (63, 2, 8) := by kernel_rfl
@[simp] theorem fact476 : tarray PP 70 = none := by kernel_rfl
@[simp] theorem fact477 : zrow PP 70 = some [V.own 2 []] := by kernel_rfl
@[simp] theorem fact478 : tzero PP 70 = some [Value.slice none 0 0] := by kernel_rfl
@[simp] theorem fact479 : tslots PP 70 = [some 2] := by kernel_rfl
@[simp] theorem fact480 : tplaces PP 70 = none := by kernel_rfl
@[simp] theorem fact481 : PP.underlying 70 = some (TypeDesc.slice 63) := by kernel_rfl
@[simp] theorem fact482 : tinfo PP 71 = some (false, 1) := by kernel_rfl
@[simp] theorem fact483 : tarray PP 71 = none := by kernel_rfl
@[simp] theorem fact484 : zrow PP 71 = some [V.v Value.nilFunc] := by kernel_rfl
@[simp] theorem fact485 : tzero PP 71 = some [Value.nilFunc] := by kernel_rfl
@[simp] theorem fact486 : tslots PP 71 = [none] := by kernel_rfl
@[simp] theorem fact487 : tplaces PP 71 = none := by kernel_rfl
@[simp] theorem fact488 : PP.underlying 71 = some (TypeDesc.func #[70, 72] #[4] false) := by kernel_rfl
@[simp] theorem fact489 : tinfo PP 72 = some (false, 1) := by kernel_rfl
@[simp] theorem fact490 : tarray PP 72 = none := by kernel_rfl
@[simp] theorem fact491 : zrow PP 72 = some [V.v Value.nilFunc] := by kernel_rfl
@[simp] theorem fact492 : tzero PP 72 = some [Value.nilFunc] := by kernel_rfl
@[simp] theorem fact493 : tslots PP 72 = [none] := by kernel_rfl
@[simp] theorem fact494 : tplaces PP 72 = none := by kernel_rfl
@[simp] theorem fact495 : PP.underlying 72 = some (TypeDesc.func #[63] #[4] false) := by kernel_rfl
@[simp] theorem fact496 : tinfo PP 73 = some (false, 1) := by kernel_rfl
@[simp] theorem fact497 : tarray PP 73 = none := by kernel_rfl
@[simp] theorem fact498 : zrow PP 73 = some [V.v Value.nilFunc] := by kernel_rfl
@[simp] theorem fact499 : tzero PP 73 = some [Value.nilFunc] := by kernel_rfl
@[simp] theorem fact500 : tslots PP 73 = [none] := by kernel_rfl
@[simp] theorem fact501 : tplaces PP 73 = none := by kernel_rfl
@[simp] theorem fact502 : PP.underlying 73 = some (TypeDesc.func #[70, 72] #[3] false) := by kernel_rfl
@[simp] theorem fact503 : tinfo PP 74 = some (false, 1) := by kernel_rfl
@[simp] theorem fact504 : tarray PP 74 = none := by kernel_rfl
@[simp] theorem fact505 : zrow PP 74 = some [V.v Value.nilFunc] := by kernel_rfl
@[simp] theorem fact506 : tzero PP 74 = some [Value.nilFunc] := by kernel_rfl
@[simp] theorem fact507 : tslots PP 74 = [none] := by kernel_rfl
@[simp] theorem fact508 : tplaces PP 74 = none := by kernel_rfl
@[simp] theorem fact509 : PP.underlying 74 = some (TypeDesc.func #[] #[9] false) := by kernel_rfl
@[simp] theorem fact510 : tinfo PP 75 = some (true, 4) := by kernel_rfl
@[simp] theorem fact511 : tarray PP 75 = none := by kernel_rfl
@[simp] theorem fact512 : zrow PP 75 = some [V.v (Value.pointer none), V.v (Value.pointer none), V.v (Value.pointer none), V.v (Value.string { data := #[] })] := by kernel_rfl
@[simp] theorem fact513 : tzero PP 75 = some [Value.pointer none, Value.pointer none, Value.pointer none, Value.string { data := #[] }] := by kernel_rfl
@[simp] theorem fact514 : tslots PP 75 = [none, none, none, none] := by kernel_rfl
@[simp] theorem fact515 : tplaces PP 75 = some [(0, 1), (1, 1), (2, 1), (3, 1)] := by kernel_rfl
@[simp] theorem fact516 : tinfo PP 76 = some (true, 4) := by kernel_rfl
@[simp] theorem fact517 : tarray PP 76 = none := by kernel_rfl
@[simp] theorem fact518 : zrow PP 76 = some [V.v (Value.pointer none), V.v (Value.pointer none), V.v (Value.pointer none), V.v (Value.string { data := #[] })] := by kernel_rfl
@[simp] theorem fact519 : tzero PP 76 = some [Value.pointer none, Value.pointer none, Value.pointer none, Value.string { data := #[] }] := by kernel_rfl
@[simp] theorem fact520 : tslots PP 76 = [none, none, none, none] := by kernel_rfl
@[simp] theorem fact521 : tplaces PP 76 = some [(0, 1), (1, 1), (2, 1), (3, 1)] := by kernel_rfl
@[simp] theorem fact522 : tinfo PP 77 = some (true, 0) := by kernel_rfl
@[simp] theorem fact523 : tarray PP 77 = some (0, 16, 1) := by kernel_rfl
@[simp] theorem fact524 : zrow PP 77 = some [] := by kernel_rfl
@[simp] theorem fact525 : tzero PP 77 = some [] := by kernel_rfl
@[simp] theorem fact526 : tslots PP 77 = [] := by kernel_rfl
@[simp] theorem fact527 : tplaces PP 77 = none := by kernel_rfl
@[simp] theorem fact528 : PP.underlying 77 = some (TypeDesc.array 0 16) := by kernel_rfl
@[simp] theorem fact529 : tinfo PP 78 = some (true, 0) := by kernel_rfl
@[simp] theorem fact530 : tarray PP 78 = none := by kernel_rfl
@[simp] theorem fact531 : zrow PP 78 = some [] := by kernel_rfl
@[simp] theorem fact532 : tzero PP 78 = some [] := by kernel_rfl
@[simp] theorem fact533 : tslots PP 78 = [] := by kernel_rfl
@[simp] theorem fact534 : tplaces PP 78 = some [(0, 0)] := by kernel_rfl
@[simp] theorem fact535 : tinfo PP 79 = some (true, 0) := by kernel_rfl
@[simp] theorem fact536 : tarray PP 79 = none := by kernel_rfl
@[simp] theorem fact537 : zrow PP 79 = some [] := by kernel_rfl
@[simp] theorem fact538 : tzero PP 79 = some [] := by kernel_rfl
@[simp] theorem fact539 : tslots PP 79 = [] := by kernel_rfl
@[simp] theorem fact540 : tplaces PP 79 = some [(0, 0)] := by kernel_rfl
@[simp] theorem fact541 : tinfo PP 80 = some (false, 1) := by kernel_rfl
@[simp] theorem fact542 : tarray PP 80 = none := by kernel_rfl
@[simp] theorem fact543 : zrow PP 80 = some [V.v (Value.int IntKind.u8 (0))] := by kernel_rfl
@[simp] theorem fact544 : tzero PP 80 = some [Value.int IntKind.u8 (0)] := by kernel_rfl
@[simp] theorem fact545 : tslots PP 80 = [none] := by kernel_rfl
@[simp] theorem fact546 : tplaces PP 80 = none := by kernel_rfl
@[simp] theorem fact547 : PP.underlying 80 = some (TypeDesc.int IntKind.u8) := by kernel_rfl
@[simp] theorem fact548 : tinfo PP 81 = some (false, 1) := by kernel_rfl
@[simp] theorem fact549 : tarray PP 81 = none := by kernel_rfl
@[simp] theorem fact550 : zrow PP 81 = some [V.v (Value.int IntKind.u8 (0))] := by kernel_rfl
@[simp] theorem fact551 : tzero PP 81 = some [Value.int IntKind.u8 (0)] := by kernel_rfl
@[simp] theorem fact552 : tslots PP 81 = [none] := by kernel_rfl
@[simp] theorem fact553 : tplaces PP 81 = none := by kernel_rfl
@[simp] theorem fact554 : PP.underlying 81 = some (TypeDesc.int IntKind.u8) := by kernel_rfl
@[simp] theorem fact555 : tinfo PP 82 = some (false, 1) := by kernel_rfl
@[simp] theorem fact556 : tarray PP 82 = none := by kernel_rfl
@[simp] theorem fact557 : zrow PP 82 = some [V.v Value.nilFunc] := by kernel_rfl
@[simp] theorem fact558 : tzero PP 82 = some [Value.nilFunc] := by kernel_rfl
@[simp] theorem fact559 : tslots PP 82 = [none] := by kernel_rfl
@[simp] theorem fact560 : tplaces PP 82 = none := by kernel_rfl
@[simp] theorem fact561 : PP.underlying 82 = some (TypeDesc.func #[88, 88] #[4] false) := by kernel_rfl
@[simp] theorem fact562 : tinfo PP 83 = some (false, 1) := by kernel_rfl
@[simp] theorem fact563 : tarray PP 83 = none := by kernel_rfl
@[simp] theorem fact564 : zrow PP 83 = some [V.v (Value.pointer none)] := by kernel_rfl
@[simp] theorem fact565 : tzero PP 83 = some [Value.pointer none] := by kernel_rfl
@[simp] theorem fact566 : tslots PP 83 = [none] := by kernel_rfl
@[simp] theorem fact567 : tplaces PP 83 = none := by kernel_rfl
@[simp] theorem fact568 : PP.underlying 83 = some (TypeDesc.pointer 5) := by kernel_rfl
@[simp] theorem fact569 : tinfo PP 84 = some (false, 1) := by kernel_rfl
@[simp] theorem fact570 : tarray PP 84 = none := by kernel_rfl
@[simp] theorem fact571 : zrow PP 84 = some [V.v (Value.int IntKind.i32 (0))] := by kernel_rfl
@[simp] theorem fact572 : tzero PP 84 = some [Value.int IntKind.i32 (0)] := by kernel_rfl
@[simp] theorem fact573 : tslots PP 84 = [none] := by kernel_rfl
@[simp] theorem fact574 : tplaces PP 84 = none := by kernel_rfl
@[simp] theorem fact575 : PP.underlying 84 = some (TypeDesc.int IntKind.i32) := by kernel_rfl
@[simp] theorem fact576 : tinfo PP 85 = some (false, 1) := by kernel_rfl
@[simp] theorem fact577 : tarray PP 85 = none := by kernel_rfl
@[simp] theorem fact578 : zrow PP 85 = some [V.v (Value.int IntKind.i32 (0))] := by kernel_rfl
@[simp] theorem fact579 : tzero PP 85 = some [Value.int IntKind.i32 (0)] := by kernel_rfl
@[simp] theorem fact580 : tslots PP 85 = [none] := by kernel_rfl
@[simp] theorem fact581 : tplaces PP 85 = none := by kernel_rfl
@[simp] theorem fact582 : PP.underlying 85 = some (TypeDesc.int IntKind.i32) := by kernel_rfl
@[simp] theorem fact583 : tinfo PP 86 = some (true, 11) := by kernel_rfl
@[simp] theorem fact584 : tarray PP 86 = none := by kernel_rfl
@[simp] theorem fact585 : zrow PP 86 = some [V.v (Value.int IntKind.u64 (0)), V.v (Value.int IntKind.u64 (0)), V.v (Value.int IntKind.u32 (0)), V.v (Value.int IntKind.u8 (0)), V.v (Value.int IntKind.u8 (0)), V.v (Value.int IntKind.u8 (0)), V.v (Value.int IntKind.u8 (0)), V.v Value.nilFunc, V.v (Value.pointer none), V.v (Value.int IntKind.i32 (0)), V.v (Value.int IntKind.i32 (0))] := by kernel_rfl
@[simp] theorem fact586 : tzero PP 86 = some [Value.int IntKind.u64 (0), Value.int IntKind.u64 (0), Value.int IntKind.u32 (0), Value.int IntKind.u8 (0), Value.int IntKind.u8 (0), Value.int IntKind.u8 (0), Value.int IntKind.u8 (0), Value.nilFunc, Value.pointer none, Value.int IntKind.i32 (0), Value.int IntKind.i32 (0)] := by kernel_rfl
@[simp] theorem fact587 : tslots PP 86 = [none, none, none, none, none, none, none, none, none, none, none] := by kernel_rfl
@[simp] theorem fact588 : tplaces PP 86 = some [(0, 1), (1, 1), (2, 1), (3, 1), (4, 1), (5, 1), (6, 1), (7, 1), (8, 1), (9, 1), (10, 1)] := by kernel_rfl
@[simp] theorem fact589 : tinfo PP 87 = some (true, 11) := by kernel_rfl
@[simp] theorem fact590 : tarray PP 87 = none := by kernel_rfl
@[simp] theorem fact591 : zrow PP 87 = some [V.v (Value.int IntKind.u64 (0)), V.v (Value.int IntKind.u64 (0)), V.v (Value.int IntKind.u32 (0)), V.v (Value.int IntKind.u8 (0)), V.v (Value.int IntKind.u8 (0)), V.v (Value.int IntKind.u8 (0)), V.v (Value.int IntKind.u8 (0)), V.v Value.nilFunc, V.v (Value.pointer none), V.v (Value.int IntKind.i32 (0)), V.v (Value.int IntKind.i32 (0))] := by kernel_rfl
@[simp] theorem fact592 : tzero PP 87 = some [Value.int IntKind.u64 (0), Value.int IntKind.u64 (0), Value.int IntKind.u32 (0), Value.int IntKind.u8 (0), Value.int IntKind.u8 (0), Value.int IntKind.u8 (0), Value.int IntKind.u8 (0), Value.nilFunc, Value.pointer none, Value.int IntKind.i32 (0), Value.int IntKind.i32 (0)] := by kernel_rfl
@[simp] theorem fact593 : tslots PP 87 = [none, none, none, none, none, none, none, none, none, none, none] := by kernel_rfl
@[simp] theorem fact594 : tplaces PP 87 = some [(0, 1), (1, 1), (2, 1), (3, 1), (4, 1), (5, 1), (6, 1), (7, 1), (8, 1), (9, 1), (10, 1)] := by kernel_rfl
@[simp] theorem fact595 : tinfo PP 88 = some (false, 1) := by kernel_rfl
@[simp] theorem fact596 : tarray PP 88 = none := by kernel_rfl
@[simp] theorem fact597 : zrow PP 88 = some [V.v (Value.pointer none)] := by kernel_rfl
@[simp] theorem fact598 : tzero PP 88 = some [Value.pointer none] := by kernel_rfl
@[simp] theorem fact599 : tslots PP 88 = [none] := by kernel_rfl
@[simp] theorem fact600 : tplaces PP 88 = none := by kernel_rfl
@[simp] theorem fact601 : PP.underlying 88 = some TypeDesc.unsafePointer := by kernel_rfl
@[simp] theorem fact602 : tfield PP 7 0 = some (0, 2, false, 1) := by kernel_rfl
@[simp] theorem fact603 : tfield PP 7 1 = some (1, 3, false, 1) := by kernel_rfl
@[simp] theorem fact604 : tfield PP 7 2 = some (2, 4, false, 1) := by kernel_rfl
@[simp] theorem fact605 : tfield PP 7 3 = some (3, 6, false, 1) := by kernel_rfl
@[simp] theorem fact606 : tfield PP 8 0 = some (0, 2, false, 1) := by kernel_rfl
@[simp] theorem fact607 : tfield PP 8 1 = some (1, 3, false, 1) := by kernel_rfl
@[simp] theorem fact608 : tfield PP 8 2 = some (2, 4, false, 1) := by kernel_rfl
@[simp] theorem fact609 : tfield PP 8 3 = some (3, 6, false, 1) := by kernel_rfl
@[simp] theorem fact610 : tfield PP 13 0 = some (0, 9, false, 1) := by kernel_rfl
@[simp] theorem fact611 : tfield PP 13 1 = some (1, 12, false, 1) := by kernel_rfl
@[simp] theorem fact612 : tfield PP 14 0 = some (0, 9, false, 1) := by kernel_rfl
@[simp] theorem fact613 : tfield PP 14 1 = some (1, 12, false, 1) := by kernel_rfl
@[simp] theorem fact614 : tfield PP 18 0 = some (0, 17, false, 1) := by kernel_rfl
@[simp] theorem fact615 : tfield PP 19 0 = some (0, 17, false, 1) := by kernel_rfl
@[simp] theorem fact616 : tfield PP 25 0 = some (0, 24, false, 1) := by kernel_rfl
@[simp] theorem fact617 : tfield PP 26 0 = some (0, 24, false, 1) := by kernel_rfl
@[simp] theorem fact618 : tfield PP 56 0 = some (0, 5, false, 1) := by kernel_rfl
@[simp] theorem fact619 : tfield PP 56 1 = some (1, 5, false, 1) := by kernel_rfl
@[simp] theorem fact620 : tfield PP 57 0 = some (0, 5, false, 1) := by kernel_rfl
@[simp] theorem fact621 : tfield PP 57 1 = some (1, 5, false, 1) := by kernel_rfl
@[simp] theorem fact622 : tfield PP 62 0 = some (0, 21, false, 1) := by kernel_rfl
@[simp] theorem fact623 : tfield PP 62 1 = some (1, 21, false, 1) := by kernel_rfl
@[simp] theorem fact624 : tfield PP 63 0 = some (0, 21, false, 1) := by kernel_rfl
@[simp] theorem fact625 : tfield PP 63 1 = some (1, 21, false, 1) := by kernel_rfl
@[simp] theorem fact626 : tfield PP 75 0 = some (0, 17, false, 1) := by kernel_rfl
@[simp] theorem fact627 : tfield PP 75 1 = some (1, 17, false, 1) := by kernel_rfl
@[simp] theorem fact628 : tfield PP 75 2 = some (2, 17, false, 1) := by kernel_rfl
@[simp] theorem fact629 : tfield PP 75 3 = some (3, 9, false, 1) := by kernel_rfl
@[simp] theorem fact630 : tfield PP 76 0 = some (0, 17, false, 1) := by kernel_rfl
@[simp] theorem fact631 : tfield PP 76 1 = some (1, 17, false, 1) := by kernel_rfl
@[simp] theorem fact632 : tfield PP 76 2 = some (2, 17, false, 1) := by kernel_rfl
@[simp] theorem fact633 : tfield PP 76 3 = some (3, 9, false, 1) := by kernel_rfl
@[simp] theorem fact634 : tfield PP 78 0 = some (0, 77, true, 0) := by kernel_rfl
@[simp] theorem fact635 : tfield PP 79 0 = some (0, 77, true, 0) := by kernel_rfl
@[simp] theorem fact636 : tfield PP 86 0 = some (0, 12, false, 1) := by kernel_rfl
@[simp] theorem fact637 : tfield PP 86 1 = some (1, 12, false, 1) := by kernel_rfl
@[simp] theorem fact638 : tfield PP 86 2 = some (2, 64, false, 1) := by kernel_rfl
@[simp] theorem fact639 : tfield PP 86 3 = some (3, 80, false, 1) := by kernel_rfl
@[simp] theorem fact640 : tfield PP 86 4 = some (4, 5, false, 1) := by kernel_rfl
@[simp] theorem fact641 : tfield PP 86 5 = some (5, 5, false, 1) := by kernel_rfl
@[simp] theorem fact642 : tfield PP 86 6 = some (6, 81, false, 1) := by kernel_rfl
@[simp] theorem fact643 : tfield PP 86 7 = some (7, 82, false, 1) := by kernel_rfl
@[simp] theorem fact644 : tfield PP 86 8 = some (8, 83, false, 1) := by kernel_rfl
@[simp] theorem fact645 : tfield PP 86 9 = some (9, 84, false, 1) := by kernel_rfl
@[simp] theorem fact646 : tfield PP 86 10 = some (10, 85, false, 1) := by kernel_rfl
@[simp] theorem fact647 : tfield PP 87 0 = some (0, 12, false, 1) := by kernel_rfl
@[simp] theorem fact648 : tfield PP 87 1 = some (1, 12, false, 1) := by kernel_rfl
@[simp] theorem fact649 : tfield PP 87 2 = some (2, 64, false, 1) := by kernel_rfl
@[simp] theorem fact650 : tfield PP 87 3 = some (3, 80, false, 1) := by kernel_rfl
@[simp] theorem fact651 : tfield PP 87 4 = some (4, 5, false, 1) := by kernel_rfl
@[simp] theorem fact652 : tfield PP 87 5 = some (5, 5, false, 1) := by kernel_rfl
@[simp] theorem fact653 : tfield PP 87 6 = some (6, 81, false, 1) := by kernel_rfl
@[simp] theorem fact654 : tfield PP 87 7 = some (7, 82, false, 1) := by kernel_rfl
@[simp] theorem fact655 : tfield PP 87 8 = some (8, 83, false, 1) := by kernel_rfl
@[simp] theorem fact656 : tfield PP 87 9 = some (9, 84, false, 1) := by kernel_rfl
@[simp] theorem fact657 : tfield PP 87 10 = some (10, 85, false, 1) := by kernel_rfl
theorem fn3 : PP.funcs[3]? = some Tryd.f3 := by kernel_rfl
@[simp] theorem call3 : callable PP 3 = true := by kernel_rfl
theorem fn4 : PP.funcs[4]? = some Tryd.f4 := by kernel_rfl
@[simp] theorem call4 : callable PP 4 = true := by kernel_rfl
theorem fn5 : PP.funcs[5]? = some Tryd.f5 := by kernel_rfl
@[simp] theorem call5 : callable PP 5 = true := by kernel_rfl
theorem fn6 : PP.funcs[6]? = some Tryd.f6 := by kernel_rfl
@[simp] theorem call6 : callable PP 6 = true := by kernel_rfl
theorem fn7 : PP.funcs[7]? = some Tryd.f7 := by kernel_rfl
@[simp] theorem call7 : callable PP 7 = true := by kernel_rfl
theorem fn8 : PP.funcs[8]? = some Tryd.f8 := by kernel_rfl
@[simp] theorem call8 : callable PP 8 = true := by kernel_rfl
theorem fn9 : PP.funcs[9]? = some Tryd.f9 := by kernel_rfl
@[simp] theorem call9 : callable PP 9 = true := by kernel_rfl
theorem fn10 : PP.funcs[10]? = some Tryd.f10 := by kernel_rfl
@[simp] theorem call10 : callable PP 10 = true := by kernel_rfl
theorem fn11 : PP.funcs[11]? = some Tryd.f11 := by kernel_rfl
@[simp] theorem call11 : callable PP 11 = true := by kernel_rfl
theorem fn12 : PP.funcs[12]? = some Tryd.f12 := by kernel_rfl
@[simp] theorem call12 : callable PP 12 = true := by kernel_rfl
theorem fn13 : PP.funcs[13]? = some Tryd.f13 := by kernel_rfl
@[simp] theorem call13 : callable PP 13 = true := by kernel_rfl
theorem fn14 : PP.funcs[14]? = some Tryd.f14 := by kernel_rfl
@[simp] theorem call14 : callable PP 14 = true := by kernel_rfl
theorem fn15 : PP.funcs[15]? = some Tryd.f15 := by kernel_rfl
@[simp] theorem call15 : callable PP 15 = true := by kernel_rfl
theorem fn16 : PP.funcs[16]? = some Tryd.f16 := by kernel_rfl
@[simp] theorem call16 : callable PP 16 = true := by kernel_rfl
theorem fn17 : PP.funcs[17]? = some Tryd.f17 := by kernel_rfl
@[simp] theorem call17 : callable PP 17 = true := by kernel_rfl
theorem fn18 : PP.funcs[18]? = some Tryd.f18 := by kernel_rfl
@[simp] theorem call18 : callable PP 18 = true := by kernel_rfl
theorem fn19 : PP.funcs[19]? = some Tryd.f19 := by kernel_rfl
@[simp] theorem call19 : callable PP 19 = true := by kernel_rfl
theorem fn20 : PP.funcs[20]? = some Tryd.f20 := by kernel_rfl
@[simp] theorem call20 : callable PP 20 = true := by kernel_rfl
theorem fn21 : PP.funcs[21]? = some Tryd.f21 := by kernel_rfl
@[simp] theorem call21 : callable PP 21 = true := by kernel_rfl
theorem fn22 : PP.funcs[22]? = some Tryd.f22 := by kernel_rfl
@[simp] theorem call22 : callable PP 22 = true := by kernel_rfl
theorem fn23 : PP.funcs[23]? = some Tryd.f23 := by kernel_rfl
@[simp] theorem call23 : callable PP 23 = true := by kernel_rfl
theorem fn24 : PP.funcs[24]? = some Tryd.f24 := by kernel_rfl
@[simp] theorem call24 : callable PP 24 = true := by kernel_rfl
theorem fn25 : PP.funcs[25]? = some Tryd.f25 := by kernel_rfl
@[simp] theorem call25 : callable PP 25 = true := by kernel_rfl
theorem fn26 : PP.funcs[26]? = some Tryd.f26 := by kernel_rfl
@[simp] theorem call26 : callable PP 26 = true := by kernel_rfl
theorem fn27 : PP.funcs[27]? = some Tryd.f27 := by kernel_rfl
@[simp] theorem call27 : callable PP 27 = true := by kernel_rfl
theorem fn28 : PP.funcs[28]? = some Tryd.f28 := by kernel_rfl
@[simp] theorem call28 : callable PP 28 = true := by kernel_rfl
theorem fn29 : PP.funcs[29]? = some Tryd.f29 := by kernel_rfl
@[simp] theorem call29 : callable PP 29 = true := by kernel_rfl
theorem fn30 : PP.funcs[30]? = some Tryd.f30 := by kernel_rfl
@[simp] theorem call30 : callable PP 30 = true := by kernel_rfl
theorem fn31 : PP.funcs[31]? = some Tryd.f31 := by kernel_rfl
@[simp] theorem call31 : callable PP 31 = true := by kernel_rfl
theorem fn32 : PP.funcs[32]? = some Tryd.f32 := by kernel_rfl
@[simp] theorem call32 : callable PP 32 = true := by kernel_rfl
theorem fn33 : PP.funcs[33]? = some Tryd.f33 := by kernel_rfl
@[simp] theorem call33 : callable PP 33 = true := by kernel_rfl
theorem fn34 : PP.funcs[34]? = some Tryd.f34 := by kernel_rfl
@[simp] theorem call34 : callable PP 34 = true := by kernel_rfl
theorem fn35 : PP.funcs[35]? = some Tryd.f35 := by kernel_rfl
@[simp] theorem call35 : callable PP 35 = true := by kernel_rfl
theorem fn36 : PP.funcs[36]? = some Tryd.f36 := by kernel_rfl
@[simp] theorem call36 : callable PP 36 = true := by kernel_rfl
theorem fn37 : PP.funcs[37]? = some Tryd.f37 := by kernel_rfl
@[simp] theorem call37 : callable PP 37 = true := by kernel_rfl
theorem fn38 : PP.funcs[38]? = some Tryd.f38 := by kernel_rfl
@[simp] theorem call38 : callable PP 38 = true := by kernel_rfl
theorem fn39 : PP.funcs[39]? = some Tryd.f39 := by kernel_rfl
@[simp] theorem call39 : callable PP 39 = true := by kernel_rfl
theorem mixed : PP.follows .mixedOrders = true := by kernel_rfl
end Go.Eng.G
